/-
  Merged from the texts that this claim's theorem needs, part 2 of 10. No statement of the seat is proved here.
-/
import Derived.JoinedOf
import Derived.Test.YtbghddidoegjlaaGreatDoorCards
import Derived.Test.YtbghddidoegjlaaGreatDoorMq0
set_option linter.unusedSimpArgs false
set_option linter.unusedVariables false
set_option linter.unusedSectionVars false
set_option maxRecDepth 100000
set_option maxHeartbeats 16000000
namespace Go.Proofs.YtbghddidoegjlaaGreatDoor
theorem ZlF : laidOutB Tryz.prog = true := by kernel_rfl
theorem ZlG : mapsRowed Tryz.prog = true := by kernel_rfl
theorem ZlH : Tryz.prog.stops = [] := by kernel_rfl
theorem ZlI : Tryz.prog.stopKnobs = [] := by kernel_rfl
theorem ZlJ : Tryz.prog.plainKeys = Rows.safetyErrsRow.plainKeys := by kernel_rfl
theorem ZlK : Tryz.prog.stopsHeard = true := by kernel_rfl
theorem ZlL : Tryz.prog.mayEnter = true := by kernel_rfl
theorem ZlM : Tryz.prog.liftsFinal = Rows.safetyErrsRow.lifted := by kernel_rfl
theorem ZlN : Tryz.prog.make = some Rows.safetyErrsRow.make := by kernel_rfl
end Go.Proofs.YtbghddidoegjlaaGreatDoor
