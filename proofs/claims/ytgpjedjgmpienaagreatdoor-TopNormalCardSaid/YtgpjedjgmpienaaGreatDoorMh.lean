/-
  The join, for whatever proof of the law. No statement of the seat is proved here.
-/
import Derived.Lay
import Derived.SevenTiedAt
import Derived.Test.YtgpjedjgmpienaaGreatDoorCards
import Derived.Test.YtgpjedjgmpienaaGreatDoorTie
import Derived.Test.YtgpjedjgmpienaaGreatDoorMq2
import Derived.Test.YtgpjedjgmpienaaGreatDoorMf
import Derived.Test.YtgpjedjgmpienaaGreatDoorMg
set_option linter.unusedSimpArgs false
set_option linter.unusedVariables false
set_option linter.unusedSectionVars false
set_option linter.defProp false
set_option maxRecDepth 100000
set_option maxHeartbeats 16000000
namespace Go.Proofs.YtgpjedjgmpienaaGreatDoor
section
open Go.ChangeShapes Go.WideShapes Go.ChangeAt Go.RowKit
theorem Z7c (Z7m:∀ ps,X2M Tryz.prog Tryz.f3.params.toList ps->Xe ps->X7 Tryz.prog 3 ps (· = .val (.bool true))):Rows.TopNormalSaid :=
 OpenClaim.holds_of_wide 3 Tryz.f3 rfl rfl rfl rfl rfl rfl rfl ⟨rfl,rfl,rfl,rfl,rfl⟩ rfl rfl rfl rfl rfl (by kernel_rfl) Tryz.func3 ZaR ZaS ZaT
  (fun os started H enc _=>Z5U Z7m os started H enc)
end
end Go.Proofs.YtgpjedjgmpienaaGreatDoor
