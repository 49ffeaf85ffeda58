/-
  Facts of the program that the join needs. No statement of the seat is proved here.
-/
import Derived.Lay
import Derived.SevenTiedAt
import Derived.ProofKit
import Derived.LaidMore
import Derived.OpenShut
import Derived.KernelRfl
import Derived.Test.YtgpjedjgmpienaaGreatDoorCards
import Derived.Test.YtgpjedjgmpienaaGreatDoorTie
set_option linter.unusedSimpArgs false
set_option linter.unusedVariables false
set_option maxRecDepth 100000
set_option maxHeartbeats 16000000
namespace Go.Proofs.YtgpjedjgmpienaaGreatDoor
section
open Go.ChangeShapes Go.WideShapes Go.ChangeAt Go.RowKit
theorem ZaN:Tryz.prog.inPlace 3=Rows.topNormalRow.inPlace:=by kernel_rfl
theorem ZaO:Tryz.prog.unfollowed 3=Rows.topNormalRow.unfollowed:=by kernel_rfl
theorem ZaP:Tryz.prog.recurses 3=Rows.topNormalRow.recurses:=by kernel_rfl
theorem ZaQ:Tryz.prog.varsNamed 3=Rows.topNormalRow.named:=by kernel_rfl
theorem ZaR:joinedFacts Tryz.prog 3 Tryz.f3 Rows.topNormalSpec Rows.topNormalRow=true:=by
 unfold joinedFacts;rw [ZaN,ZaO,ZaP,ZaQ]
 kernel_rfl
theorem ZaS:Tryz.f3.isInstance Tryz.prog Rows.topNormalRow.origin Rows.topNormalRow.targs:=of_decide_eq_true (by kernel_rfl)
theorem ZaT:Tryz.f3.isWrapper Tryz.prog Rows.topNormalRow.wrapper Rows.topNormalRow.mainSum:=by
 unfold Func.isWrapper; first|(rw [if_pos (by decide +kernel)]; kernel_rfl)|(rw [if_neg (by decide +kernel)]; exact⟨rfl,rfl⟩)
end
end Go.Proofs.YtgpjedjgmpienaaGreatDoor
