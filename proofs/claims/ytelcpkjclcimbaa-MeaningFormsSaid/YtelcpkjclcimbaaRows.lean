/-
  No cell of these rows narrows 'for every input' (looked for: loops, veiled, ifaces, maps, wideKeys, modest, calm, conditions, laid).
  DERIVED. THE GIVEN ROWS OF THIS SEAT. 3 by the template 'for every input the law returns true; each argument reads behind the call as it read before'; 0 by the template 'total and deterministic' (their statements: YtelcpkjclcimbaaTotals.lean).
  GIVEN WITH THE SEED: the statements are not yours to turn. If you find one false, say at which input.
  Laid BY PROGRAM, IN A SANDBOX (cutbox-rows.mjs): the forced cells as the released guide's own fill.sh prints them over the translation 0b14940f644d448b… (all of the seat's roots in one cut). By AI agents, Wed Nov 11 2026. No macro, syntax, notation, axiom, sorry.
-/
import Derived.Test.YtelcpkjclcimbaaChecked
import GoSem.Claim
import GoSem.ClaimJoined
import GoSem.ClaimMapViews
import Derived.JoinedTies
import Derived.KernelRfl
namespace Go.Proofs.Ytelcpkjclcimbaa
/- THE CELL 'sum', in the pinned program and in every row, IS THE sha256 OF THE DUMP (.gsa) THAT YtelcpkjclcimbaaProg.lean LOADS. Nothing in Lean hashes anything: it is a label: what it is worth is what the hold of that sum in a sandbox is worth. -/
noncomputable def Try.pinned : Pinned := { name := "ytelcpkjclcimbaa", sum := "0b14940f644d448b3f23fdafa4a182c1a4cdc97e4c4b08226821fb1ae497e9ce", checked := Try.checked }
namespace Rows
def none {H : Type} : Left H := { results := [], args := [] }

/-- 'arbaclaw20.MeaningHolds': WHATEVER THE INPUT: true; the input reads as it did. -/
def meaningHoldsSpec : ChangeSpec := { name := "meaningHolds", fn := fun _ => fun
  | [d1, d2, d3] => { results := [.lit (.bool true)], args := [d1, d2, d3] }
  | _ => none }
def meaningHoldsRow : OpenClaim := { program := "ytelcpkjclcimbaa", sum := "0b14940f644d448b3f23fdafa4a182c1a4cdc97e4c4b08226821fb1ae497e9ce", func := "arbac/arbaclaw20.MeaningHolds", spec := "meaningHolds", unfollowed := true, recurses := true, apart := false }
def MeaningHoldsSaid : Prop := meaningHoldsRow.holds Try.pinned (OpenSpec.ofChange meaningHoldsSpec)

/-- ITS FALSE NEIGHBOUR: 'it returns false'. Refute it at one input. -/
def meaningHoldsWrong : ChangeSpec := { name := "meaningHolds", fn := fun _ => fun
  | [d1, d2, d3] => { results := [.lit (.bool false)], args := [d1, d2, d3] }
  | _ => none }
def MeaningHoldsWrongFalsely : Prop := meaningHoldsRow.holds Try.pinned (OpenSpec.ofChange meaningHoldsWrong)

/-- 'arbaclaw20.MeaningForms': WHATEVER THE INPUT: true; the input reads as it did. -/
def meaningFormsSpec : ChangeSpec := { name := "meaningForms", fn := fun _ => fun
  | [d1, d2] => { results := [.lit (.bool true)], args := [d1, d2] }
  | _ => none }
def meaningFormsRow : OpenClaim := { program := "ytelcpkjclcimbaa", sum := "0b14940f644d448b3f23fdafa4a182c1a4cdc97e4c4b08226821fb1ae497e9ce", func := "arbac/arbaclaw20.MeaningForms", spec := "meaningForms", unfollowed := true, recurses := true, apart := false }
def MeaningFormsSaid : Prop := meaningFormsRow.holds Try.pinned (OpenSpec.ofChange meaningFormsSpec)

/-- ITS FALSE NEIGHBOUR: 'it returns false'. Refute it at one input. -/
def meaningFormsWrong : ChangeSpec := { name := "meaningForms", fn := fun _ => fun
  | [d1, d2] => { results := [.lit (.bool false)], args := [d1, d2] }
  | _ => none }
def MeaningFormsWrongFalsely : Prop := meaningFormsRow.holds Try.pinned (OpenSpec.ofChange meaningFormsWrong)

/-- 'arbaclaw20.MeaningLogic': WHATEVER THE INPUT: true; the input reads as it did. -/
def meaningLogicSpec : ChangeSpec := { name := "meaningLogic", fn := fun _ => fun
  | [d1, d2, d3] => { results := [.lit (.bool true)], args := [d1, d2, d3] }
  | _ => none }
def meaningLogicRow : OpenClaim := { program := "ytelcpkjclcimbaa", sum := "0b14940f644d448b3f23fdafa4a182c1a4cdc97e4c4b08226821fb1ae497e9ce", func := "arbac/arbaclaw20.MeaningLogic", spec := "meaningLogic", unfollowed := true, recurses := true, apart := false }
def MeaningLogicSaid : Prop := meaningLogicRow.holds Try.pinned (OpenSpec.ofChange meaningLogicSpec)

/-- ITS FALSE NEIGHBOUR: 'it returns false'. Refute it at one input. -/
def meaningLogicWrong : ChangeSpec := { name := "meaningLogic", fn := fun _ => fun
  | [d1, d2, d3] => { results := [.lit (.bool false)], args := [d1, d2, d3] }
  | _ => none }
def MeaningLogicWrongFalsely : Prop := meaningLogicRow.holds Try.pinned (OpenSpec.ofChange meaningLogicWrong)

/- THE SECOND FORM. 'bulk': how many values and letters a reading holds, each counted each time it is reached (what is shared counts as often as it is met; a slice's spare places count too). A statement '..UptoSaid' is the law's where the arguments, and the package variables that the reading takes, are together of bulk at most 1048576: NARROWER than '..Said'. Prove '..Said' where nothing that the law and all that it calls make is longer than what came in: it says more and counts as full. Else prove '..UptoSaid'. A law counts once. -/
mutual
def uptoBulk {H : Type} : DataW H → Nat
  | .lit (.string bytes) => bytes.length + 1
  | .lit _ => 1
  | .nil => 1
  | .ptr d => uptoBulk d + 1
  | .slice elems spare => uptoBulkAll elems + uptoBulkAll spare + 1
  | .agg parts => uptoBulkAll parts + 1
  | .iface _ d => uptoBulk d + 1
  | .map entries => uptoBulkEntries entries + 1
  | .held _ => 1
def uptoBulkAll {H : Type} : List (DataW H) → Nat
  | [] => 0
  | d :: r => uptoBulk d + uptoBulkAll r
def uptoBulkEntries {H : Type} : List (Lit × DataW H) → Nat
  | [] => 0
  | x :: r => uptoBulkEntry x + uptoBulkEntries r
def uptoBulkEntry {H : Type} : Lit × DataW H → Nat
  | (.string bytes, d) => bytes.length + uptoBulk d + 1
  | (_, d) => uptoBulk d + 1
 end
def uptoSmall : (H : Type) → List (DataW H) → Bool := fun _ ds => decide (uptoBulkAll ds ≤ 1048576)
def OpenSpec.upto (s : _root_.Go.ChangeSpec) : _root_.Go.OpenSpec := { _root_.Go.OpenSpec.ofChange s with cond := some uptoSmall }

/-- 'arbaclaw20.MeaningHolds', WHERE WHAT IT READS IS OF BULK AT MOST 1048576: true; the input reads as it did. -/
def meaningHoldsUptoRow : OpenClaim := { program := "ytelcpkjclcimbaa", sum := "0b14940f644d448b3f23fdafa4a182c1a4cdc97e4c4b08226821fb1ae497e9ce", func := "arbac/arbaclaw20.MeaningHolds", spec := "meaningHolds", unfollowed := true, recurses := true, apart := false, narrowed := true }
def MeaningHoldsUptoSaid : Prop := meaningHoldsUptoRow.holds Try.pinned (OpenSpec.upto meaningHoldsSpec)

/-- 'arbaclaw20.MeaningForms', WHERE WHAT IT READS IS OF BULK AT MOST 1048576: true; the input reads as it did. -/
def meaningFormsUptoRow : OpenClaim := { program := "ytelcpkjclcimbaa", sum := "0b14940f644d448b3f23fdafa4a182c1a4cdc97e4c4b08226821fb1ae497e9ce", func := "arbac/arbaclaw20.MeaningForms", spec := "meaningForms", unfollowed := true, recurses := true, apart := false, narrowed := true }
def MeaningFormsUptoSaid : Prop := meaningFormsUptoRow.holds Try.pinned (OpenSpec.upto meaningFormsSpec)

/-- 'arbaclaw20.MeaningLogic', WHERE WHAT IT READS IS OF BULK AT MOST 1048576: true; the input reads as it did. -/
def meaningLogicUptoRow : OpenClaim := { program := "ytelcpkjclcimbaa", sum := "0b14940f644d448b3f23fdafa4a182c1a4cdc97e4c4b08226821fb1ae497e9ce", func := "arbac/arbaclaw20.MeaningLogic", spec := "meaningLogic", unfollowed := true, recurses := true, apart := false, narrowed := true }
def MeaningLogicUptoSaid : Prop := meaningLogicUptoRow.holds Try.pinned (OpenSpec.upto meaningLogicSpec)

end Rows
end Go.Proofs.Ytelcpkjclcimbaa
