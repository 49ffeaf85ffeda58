/-
  DERIVED. GIVEN WITH THE SEED: THE CARDS: each row of YtbmhdpflloepkaaGreatDoorRows.lean that lists a variable, with what it lists TIED to the program's text (the seventh form; the later family's looks); each row that meets fmt, with fmt's text TOLD by the authors' own Lean function (tested against real Go, not proved from fmt's source: count such statements apart). THE CARD IS WHAT COUNTS. Prove the row's statement (the work); the ties are given (YtbmhdpflloepkaaGreatDoorTie.lean); close each card by the builder's one call (the guide's Derived/Test/ToyasCard.lean, 'card_holds'). Laid BY PROGRAM, IN A SANDBOX (cutbox-door.mjs). By AI agents, Wed Nov 11 2026. No macro, syntax, notation, axiom, sorry.
-/
import Derived.Test.YtbmhdpflloepkaaGreatDoorRows
import GoSem.ClaimSeven
namespace Go.Proofs.YtbmhdpflloepkaaGreatDoor
namespace Rows

/-- THE TIED CARD OF 'arbaclaw20.MeaningAssigns'. -/
def meaningAssignsCard : Claim7 := { stood := { row := meaningAssignsRow, standIns := [], harness := (true, "403d93dc76e6b9f88461d046f66cd5a652062aa27ed30ee5a83df618499f986d"), looks := false }, kinds := [], alts := [], laidByText := true, laidKinds := [.data], laidTests := true, laidLooks := .later }
def MeaningAssignsCardSaid : Prop := Claim7.holds Tryz.pinned (.plain (OpenSpec.ofChange meaningAssignsSpec)) meaningAssignsCard

/-- THE TIED CARD OF 'arbaclaw20.MeaningMembers'. -/
def meaningMembersCard : Claim7 := { stood := { row := meaningMembersRow, standIns := [], harness := (true, "403d93dc76e6b9f88461d046f66cd5a652062aa27ed30ee5a83df618499f986d"), looks := false }, kinds := [], alts := [], laidByText := true, laidKinds := [.data], laidTests := true, laidLooks := .later }
def MeaningMembersCardSaid : Prop := Claim7.holds Tryz.pinned (.plain (OpenSpec.ofChange meaningMembersSpec)) meaningMembersCard

/-- THE TIED CARD OF 'arbaclaw20.MeaningViolators'. -/
def meaningViolatorsCard : Claim7 := { stood := { row := meaningViolatorsRow, standIns := [], harness := (true, "403d93dc76e6b9f88461d046f66cd5a652062aa27ed30ee5a83df618499f986d"), looks := false }, kinds := [], alts := [], laidByText := true, laidKinds := [.data], laidTests := true, laidLooks := .later }
def MeaningViolatorsCardSaid : Prop := Claim7.holds Tryz.pinned (.plain (OpenSpec.ofChange meaningViolatorsSpec)) meaningViolatorsCard

/-- THE TIED CARD OF 'arbaclaw20.MeaningEmpty'. -/
def meaningEmptyCard : Claim7 := { stood := { row := meaningEmptyRow, standIns := [], harness := (true, "403d93dc76e6b9f88461d046f66cd5a652062aa27ed30ee5a83df618499f986d"), looks := false }, kinds := [], alts := [], laidByText := true, laidKinds := [.data], laidTests := true, laidLooks := .later }
def MeaningEmptyCardSaid : Prop := Claim7.holds Tryz.pinned (.plain (OpenSpec.ofChange meaningEmptySpec)) meaningEmptyCard

/-- THE TIED CARD OF 'arbaclaw20.MeaningViolated'. -/
def meaningViolatedCard : Claim7 := { stood := { row := meaningViolatedRow, standIns := [], harness := (true, "403d93dc76e6b9f88461d046f66cd5a652062aa27ed30ee5a83df618499f986d"), looks := false }, kinds := [], alts := [], laidByText := true, laidKinds := [.data], laidTests := true, laidLooks := .later }
def MeaningViolatedCardSaid : Prop := Claim7.holds Tryz.pinned (.plain (OpenSpec.ofChange meaningViolatedSpec)) meaningViolatedCard

/-- THE TIED CARD OF 'arbaclaw20.MeaningNew'. -/
def meaningNewCard : Claim7 := { stood := { row := meaningNewRow, standIns := [], harness := (true, "403d93dc76e6b9f88461d046f66cd5a652062aa27ed30ee5a83df618499f986d"), looks := false }, kinds := [], alts := [], laidByText := true, laidKinds := [.data], laidTests := true, laidLooks := .later }
def MeaningNewCardSaid : Prop := Claim7.holds Tryz.pinned (.plain (OpenSpec.ofChange meaningNewSpec)) meaningNewCard

/-- THE TIED CARD OF 'arbaclaw20.MeaningDays'. -/
def meaningDaysCard : Claim7 := { stood := { row := meaningDaysRow, standIns := [], harness := (true, "403d93dc76e6b9f88461d046f66cd5a652062aa27ed30ee5a83df618499f986d"), looks := false }, kinds := [], alts := [], laidByText := true, laidKinds := [.data], laidTests := true, laidLooks := .later }
def MeaningDaysCardSaid : Prop := Claim7.holds Tryz.pinned (.plain (OpenSpec.ofChange meaningDaysSpec)) meaningDaysCard

/-- THE SECOND FORM's CARD OF 'arbaclaw20.MeaningAssigns'. -/
def meaningAssignsUptoCard : Claim7 := { stood := { row := meaningAssignsUptoRow, standIns := [], harness := (true, "403d93dc76e6b9f88461d046f66cd5a652062aa27ed30ee5a83df618499f986d"), looks := false }, kinds := [], alts := [], laidByText := true, laidKinds := [.data], laidTests := true, laidLooks := .later }
def MeaningAssignsUptoCardSaid : Prop := Claim7.holds Tryz.pinned (.plain (OpenSpec.upto meaningAssignsSpec)) meaningAssignsUptoCard

/-- THE SECOND FORM's CARD OF 'arbaclaw20.MeaningMembers'. -/
def meaningMembersUptoCard : Claim7 := { stood := { row := meaningMembersUptoRow, standIns := [], harness := (true, "403d93dc76e6b9f88461d046f66cd5a652062aa27ed30ee5a83df618499f986d"), looks := false }, kinds := [], alts := [], laidByText := true, laidKinds := [.data], laidTests := true, laidLooks := .later }
def MeaningMembersUptoCardSaid : Prop := Claim7.holds Tryz.pinned (.plain (OpenSpec.upto meaningMembersSpec)) meaningMembersUptoCard

/-- THE SECOND FORM's CARD OF 'arbaclaw20.MeaningViolators'. -/
def meaningViolatorsUptoCard : Claim7 := { stood := { row := meaningViolatorsUptoRow, standIns := [], harness := (true, "403d93dc76e6b9f88461d046f66cd5a652062aa27ed30ee5a83df618499f986d"), looks := false }, kinds := [], alts := [], laidByText := true, laidKinds := [.data], laidTests := true, laidLooks := .later }
def MeaningViolatorsUptoCardSaid : Prop := Claim7.holds Tryz.pinned (.plain (OpenSpec.upto meaningViolatorsSpec)) meaningViolatorsUptoCard

/-- THE SECOND FORM's CARD OF 'arbaclaw20.MeaningEmpty'. -/
def meaningEmptyUptoCard : Claim7 := { stood := { row := meaningEmptyUptoRow, standIns := [], harness := (true, "403d93dc76e6b9f88461d046f66cd5a652062aa27ed30ee5a83df618499f986d"), looks := false }, kinds := [], alts := [], laidByText := true, laidKinds := [.data], laidTests := true, laidLooks := .later }
def MeaningEmptyUptoCardSaid : Prop := Claim7.holds Tryz.pinned (.plain (OpenSpec.upto meaningEmptySpec)) meaningEmptyUptoCard

/-- THE SECOND FORM's CARD OF 'arbaclaw20.MeaningViolated'. -/
def meaningViolatedUptoCard : Claim7 := { stood := { row := meaningViolatedUptoRow, standIns := [], harness := (true, "403d93dc76e6b9f88461d046f66cd5a652062aa27ed30ee5a83df618499f986d"), looks := false }, kinds := [], alts := [], laidByText := true, laidKinds := [.data], laidTests := true, laidLooks := .later }
def MeaningViolatedUptoCardSaid : Prop := Claim7.holds Tryz.pinned (.plain (OpenSpec.upto meaningViolatedSpec)) meaningViolatedUptoCard

/-- THE SECOND FORM's CARD OF 'arbaclaw20.MeaningNew'. -/
def meaningNewUptoCard : Claim7 := { stood := { row := meaningNewUptoRow, standIns := [], harness := (true, "403d93dc76e6b9f88461d046f66cd5a652062aa27ed30ee5a83df618499f986d"), looks := false }, kinds := [], alts := [], laidByText := true, laidKinds := [.data], laidTests := true, laidLooks := .later }
def MeaningNewUptoCardSaid : Prop := Claim7.holds Tryz.pinned (.plain (OpenSpec.upto meaningNewSpec)) meaningNewUptoCard

/-- THE SECOND FORM's CARD OF 'arbaclaw20.MeaningDays'. -/
def meaningDaysUptoCard : Claim7 := { stood := { row := meaningDaysUptoRow, standIns := [], harness := (true, "403d93dc76e6b9f88461d046f66cd5a652062aa27ed30ee5a83df618499f986d"), looks := false }, kinds := [], alts := [], laidByText := true, laidKinds := [.data], laidTests := true, laidLooks := .later }
def MeaningDaysUptoCardSaid : Prop := Claim7.holds Tryz.pinned (.plain (OpenSpec.upto meaningDaysSpec)) meaningDaysUptoCard
end Rows
end Go.Proofs.YtbmhdpflloepkaaGreatDoor
