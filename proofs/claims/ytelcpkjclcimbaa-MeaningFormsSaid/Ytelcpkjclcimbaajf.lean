/-
  Proved: for every input the law MeaningForms returns true, never panics, and leaves its arguments as they were, on the given rows' conditions.
-/
import Derived.Test.Ytelcpkjclcimbaabu
import Derived.Test.YtelcpkjclcimbaaRows
import Derived.ProofKit
namespace Go.Proofs.Ytelcpkjclcimbaa
open Go.ChangeShapes Go.WideShapes Go.ChangeAt Go.RowKit
set_option linter.unusedVariables false

theorem own : ownKnob Try.prog.godebug = none := by kernel_rfl
theorem laidOut : laidOutB Try.prog = true := by kernel_rfl

def parsOk (P : Program) (ts : List TypeId) : Bool := ts.all fun t => P.readableRec t && decide (t < P.types.size)
def inG (G ts : List TypeId) : Bool := ts.all fun t => G.contains t
theorem inG_of {G ts : List TypeId} (h : inG G ts = true) : ∀ t ∈ ts, G.contains t = true := fun t ht => List.all_eq_true.1 h t ht
theorem parsOk_of {P : Program} {ts : List TypeId} (h : parsOk P ts = true) : ∀ t ∈ ts, P.readableRec t = true ∧ t < P.types.size := fun t ht => by
  have := List.all_eq_true.1 h t ht
  simpa using this

set_option maxRecDepth 100000 in
theorem meaningForms_lifted (os : Os) (started : os.Started) (H : Type) (enc : TypeId × Value → H) :
    ReturnsInHanded {} Try.checked os 4 .any (Rows.meaningFormsSpec.pre6 enc Try.prog Try.f4 Rows.meaningFormsRow.domain false) (Rows.meaningFormsSpec.post enc Try.prog Try.f4 false true false false) := by
  refine returnsInHanded_of_change_sized (C := Try.checked) own started (by kernel_rfl) Try.func4
    (ChangeSpec.witness6 (enc := enc) (C := Try.checked) false ⟨#[], #[.slice none 0 0, .agg #[.int .u64 0, .slice none 0 0]], []⟩ 8 (by kernel_rfl) (by kernel_rfl) (by kernel_rfl) (by kernel_rfl)) ?_
  intro W base args ds gs before hval hW _ hwt _
  exact law_contract (P := Try.prog) (G := partsG Try.prog Try.f4.params.toList) (by kernel_rfl) (inG_of (by kernel_rfl)) laidOut (parsOk_of (by kernel_rfl)) (tb := 4) (by kernel_rfl) (by kernel_rfl) rfl (fun ds hd => by
    match ds, hd with
    | [a, b], _ => exact ⟨rfl, rfl, rfl⟩) meaningForms_spec W base args ds gs before hval hW hwt

theorem meaningForms_holds : Rows.MeaningFormsSaid :=
  OpenClaim.holds_of_wide 4 Try.f4 rfl rfl rfl rfl rfl rfl rfl ⟨rfl, rfl, rfl, rfl, rfl⟩ rfl rfl rfl rfl rfl (by kernel_rfl) Try.func4 (by kernel_rfl)
    (of_decide_eq_true (by kernel_rfl)) (by unfold Func.isWrapper; first | (rw [if_pos (by decide +kernel)]; kernel_rfl) | (rw [if_neg (by decide +kernel)]; exact ⟨rfl, rfl⟩))
    (fun os started H enc _ => meaningForms_lifted os started H enc)
end Go.Proofs.Ytelcpkjclcimbaa
