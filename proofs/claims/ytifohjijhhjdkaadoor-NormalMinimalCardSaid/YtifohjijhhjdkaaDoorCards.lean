/-
  DERIVED. GIVEN WITH THE SEED: THE CARDS: each row of YtifohjijhhjdkaaDoorRows.lean that lists a variable, with what it lists TIED to the program's text (the seventh form; the later family's looks); each row that meets fmt, with fmt's text TOLD by the authors' own Lean function (tested against real Go, not proved from fmt's source: count such statements apart). THE CARD IS WHAT COUNTS. Prove the row's statement (the work); the ties are given (YtifohjijhhjdkaaDoorTie.lean); close each card by the builder's one call (the guide's Derived/Test/ToyasCard.lean, 'card_holds'). Laid BY PROGRAM, IN A SANDBOX (cutbox-door.mjs). By AI agents, Wed Nov 11 2026. No macro, syntax, notation, axiom, sorry.
-/
import Derived.Test.YtifohjijhhjdkaaDoorRows
import GoSem.ClaimSeven
namespace Go.Proofs.YtifohjijhhjdkaaDoor
namespace Rows

/-- THE TIED CARD OF 'arbaclaw19.NormalPrimes'. -/
def normalPrimesCard : Claim7 := { stood := { row := normalPrimesRow, standIns := [], harness := (true, "c7fd4cb4d20504a09c7802d2052d5f0090777415a3ba22e0854d01f4f941d3aa"), looks := false }, kinds := [], alts := [], laidByText := true, laidKinds := [.data], laidTests := true, laidLooks := .later }
def NormalPrimesCardSaid : Prop := Claim7.holds Tryd.pinned (.plain (OpenSpec.ofChange normalPrimesSpec)) normalPrimesCard

/-- THE TIED CARD OF 'arbaclaw19.NormalMonotone'. -/
def normalMonotoneCard : Claim7 := { stood := { row := normalMonotoneRow, standIns := [], harness := (true, "c7fd4cb4d20504a09c7802d2052d5f0090777415a3ba22e0854d01f4f941d3aa"), looks := false }, kinds := [], alts := [], laidByText := true, laidKinds := [.data], laidTests := true, laidLooks := .later }
def NormalMonotoneCardSaid : Prop := Claim7.holds Tryd.pinned (.plain (OpenSpec.ofChange normalMonotoneSpec)) normalMonotoneCard

/-- THE TIED CARD OF 'arbaclaw19.NormalUnique'. -/
def normalUniqueCard : Claim7 := { stood := { row := normalUniqueRow, standIns := [], harness := (true, "c7fd4cb4d20504a09c7802d2052d5f0090777415a3ba22e0854d01f4f941d3aa"), looks := false }, kinds := [], alts := [], laidByText := true, laidKinds := [.data], laidTests := true, laidLooks := .later }
def NormalUniqueCardSaid : Prop := Claim7.holds Tryd.pinned (.plain (OpenSpec.ofChange normalUniqueSpec)) normalUniqueCard

/-- THE TIED CARD OF 'arbaclaw19.NormalImplied'. -/
def normalImpliedCard : Claim7 := { stood := { row := normalImpliedRow, standIns := [], harness := (true, "c7fd4cb4d20504a09c7802d2052d5f0090777415a3ba22e0854d01f4f941d3aa"), looks := false }, kinds := [], alts := [], laidByText := true, laidKinds := [.data], laidTests := true, laidLooks := .later }
def NormalImpliedCardSaid : Prop := Claim7.holds Tryd.pinned (.plain (OpenSpec.ofChange normalImpliedSpec)) normalImpliedCard

/-- THE TIED CARD OF 'arbaclaw19.NormalAgain'. -/
def normalAgainCard : Claim7 := { stood := { row := normalAgainRow, standIns := [], harness := (true, "c7fd4cb4d20504a09c7802d2052d5f0090777415a3ba22e0854d01f4f941d3aa"), looks := false }, kinds := [], alts := [], laidByText := true, laidKinds := [.data], laidTests := true, laidLooks := .later }
def NormalAgainCardSaid : Prop := Claim7.holds Tryd.pinned (.plain (OpenSpec.ofChange normalAgainSpec)) normalAgainCard

/-- THE TIED CARD OF 'arbaclaw19.NormalMinimal'. -/
def normalMinimalCard : Claim7 := { stood := { row := normalMinimalRow, standIns := [], harness := (true, "c7fd4cb4d20504a09c7802d2052d5f0090777415a3ba22e0854d01f4f941d3aa"), looks := false }, kinds := [], alts := [], laidByText := true, laidKinds := [.data], laidTests := true, laidLooks := .later }
def NormalMinimalCardSaid : Prop := Claim7.holds Tryd.pinned (.plain (OpenSpec.ofChange normalMinimalSpec)) normalMinimalCard

/-- THE TIED CARD OF 'arbaclaw19.NormalMeans'. -/
def normalMeansCard : Claim7 := { stood := { row := normalMeansRow, standIns := [], harness := (true, "c7fd4cb4d20504a09c7802d2052d5f0090777415a3ba22e0854d01f4f941d3aa"), looks := false }, kinds := [], alts := [], laidByText := true, laidKinds := [.data], laidTests := true, laidLooks := .later }
def NormalMeansCardSaid : Prop := Claim7.holds Tryd.pinned (.plain (OpenSpec.ofChange normalMeansSpec)) normalMeansCard

/-- THE SECOND FORM's CARD OF 'arbaclaw19.NormalPrimes'. -/
def normalPrimesUptoCard : Claim7 := { stood := { row := normalPrimesUptoRow, standIns := [], harness := (true, "c7fd4cb4d20504a09c7802d2052d5f0090777415a3ba22e0854d01f4f941d3aa"), looks := false }, kinds := [], alts := [], laidByText := true, laidKinds := [.data], laidTests := true, laidLooks := .later }
def NormalPrimesUptoCardSaid : Prop := Claim7.holds Tryd.pinned (.plain (OpenSpec.upto normalPrimesSpec)) normalPrimesUptoCard

/-- THE SECOND FORM's CARD OF 'arbaclaw19.NormalMonotone'. -/
def normalMonotoneUptoCard : Claim7 := { stood := { row := normalMonotoneUptoRow, standIns := [], harness := (true, "c7fd4cb4d20504a09c7802d2052d5f0090777415a3ba22e0854d01f4f941d3aa"), looks := false }, kinds := [], alts := [], laidByText := true, laidKinds := [.data], laidTests := true, laidLooks := .later }
def NormalMonotoneUptoCardSaid : Prop := Claim7.holds Tryd.pinned (.plain (OpenSpec.upto normalMonotoneSpec)) normalMonotoneUptoCard

/-- THE SECOND FORM's CARD OF 'arbaclaw19.NormalUnique'. -/
def normalUniqueUptoCard : Claim7 := { stood := { row := normalUniqueUptoRow, standIns := [], harness := (true, "c7fd4cb4d20504a09c7802d2052d5f0090777415a3ba22e0854d01f4f941d3aa"), looks := false }, kinds := [], alts := [], laidByText := true, laidKinds := [.data], laidTests := true, laidLooks := .later }
def NormalUniqueUptoCardSaid : Prop := Claim7.holds Tryd.pinned (.plain (OpenSpec.upto normalUniqueSpec)) normalUniqueUptoCard

/-- THE SECOND FORM's CARD OF 'arbaclaw19.NormalImplied'. -/
def normalImpliedUptoCard : Claim7 := { stood := { row := normalImpliedUptoRow, standIns := [], harness := (true, "c7fd4cb4d20504a09c7802d2052d5f0090777415a3ba22e0854d01f4f941d3aa"), looks := false }, kinds := [], alts := [], laidByText := true, laidKinds := [.data], laidTests := true, laidLooks := .later }
def NormalImpliedUptoCardSaid : Prop := Claim7.holds Tryd.pinned (.plain (OpenSpec.upto normalImpliedSpec)) normalImpliedUptoCard

/-- THE SECOND FORM's CARD OF 'arbaclaw19.NormalAgain'. -/
def normalAgainUptoCard : Claim7 := { stood := { row := normalAgainUptoRow, standIns := [], harness := (true, "c7fd4cb4d20504a09c7802d2052d5f0090777415a3ba22e0854d01f4f941d3aa"), looks := false }, kinds := [], alts := [], laidByText := true, laidKinds := [.data], laidTests := true, laidLooks := .later }
def NormalAgainUptoCardSaid : Prop := Claim7.holds Tryd.pinned (.plain (OpenSpec.upto normalAgainSpec)) normalAgainUptoCard

/-- THE SECOND FORM's CARD OF 'arbaclaw19.NormalMinimal'. -/
def normalMinimalUptoCard : Claim7 := { stood := { row := normalMinimalUptoRow, standIns := [], harness := (true, "c7fd4cb4d20504a09c7802d2052d5f0090777415a3ba22e0854d01f4f941d3aa"), looks := false }, kinds := [], alts := [], laidByText := true, laidKinds := [.data], laidTests := true, laidLooks := .later }
def NormalMinimalUptoCardSaid : Prop := Claim7.holds Tryd.pinned (.plain (OpenSpec.upto normalMinimalSpec)) normalMinimalUptoCard

/-- THE SECOND FORM's CARD OF 'arbaclaw19.NormalMeans'. -/
def normalMeansUptoCard : Claim7 := { stood := { row := normalMeansUptoRow, standIns := [], harness := (true, "c7fd4cb4d20504a09c7802d2052d5f0090777415a3ba22e0854d01f4f941d3aa"), looks := false }, kinds := [], alts := [], laidByText := true, laidKinds := [.data], laidTests := true, laidLooks := .later }
def NormalMeansUptoCardSaid : Prop := Claim7.holds Tryd.pinned (.plain (OpenSpec.upto normalMeansSpec)) normalMeansUptoCard
end Rows
end Go.Proofs.YtifohjijhhjdkaaDoor
