/-
  Merged from the texts that this claim's theorem needs, part 3 of 10. No statement of the seat is proved here.
-/
import Derived.SevenTiedAt
import Derived.Test.YtbghddidoegjlaaGreatDoorCards
import Derived.Test.YtbghddidoegjlaaGreatDoorMq1
set_option linter.unusedSimpArgs false
set_option linter.unusedVariables false
set_option linter.unusedSectionVars false
set_option maxRecDepth 100000
set_option maxHeartbeats 16000000
namespace Go.Proofs.YtbghddidoegjlaaGreatDoor
theorem ZlR : Rows.safetyErrsRow.wfByText (OpenSpec.ofChange Rows.safetyErrsSpec) = true := by kernel_rfl
theorem ZlS : Tryz.prog.mainIs = some (true, "1ee5003210474e8d9f4fb4f8ddb1a37ec20cb92bcef1e40ff92702b89013bfe8".toList) := by kernel_rfl
theorem ZlT : false = Tryz.prog.looks [] := by kernel_rfl
theorem ZlU : false = Rows.safetyErrsRow.goesBy Tryz.prog := by kernel_rfl
theorem ZlV : Tryz.prog.funcNamed "arbac/arbaclaw37.SafetyErrs" = some 3 := by kernel_rfl
theorem ZlW : Tryz.f3.params = #[22, 5, 3] := by kernel_rfl
theorem ZlX : ([22, 5, 3].all fun u => !Tryz.prog.wantsStandIn u) = true := by kernel_rfl
end Go.Proofs.YtbghddidoegjlaaGreatDoor
