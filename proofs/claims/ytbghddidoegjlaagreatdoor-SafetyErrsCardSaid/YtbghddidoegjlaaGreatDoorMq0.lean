/-
  Merged from the texts that this claim's theorem needs, part 1 of 10. No statement of the seat is proved here.
-/
import Derived.JoinedOf
import Derived.Test.YtbghddidoegjlaaGreatDoorCards
set_option linter.unusedSimpArgs false
set_option linter.unusedVariables false
set_option linter.unusedSectionVars false
set_option maxRecDepth 100000
set_option maxHeartbeats 16000000
namespace Go.Proofs.YtbghddidoegjlaaGreatDoor
theorem ZlB : Tryz.prog.inPlace 3 = Rows.safetyErrsRow.inPlace := by kernel_rfl
theorem ZlC : Tryz.prog.unfollowed 3 = Rows.safetyErrsRow.unfollowed := by kernel_rfl
theorem ZlD : Tryz.prog.recurses 3 = Rows.safetyErrsRow.recurses := by kernel_rfl
theorem ZlE : Tryz.prog.varsNamed 3 = Rows.safetyErrsRow.named := by kernel_rfl
end Go.Proofs.YtbghddidoegjlaaGreatDoor
