/-
  The join, for whatever proof of the law. No statement of the seat is proved here.
-/
import Derived.Lay
import Derived.SevenTiedAt
import Derived.Test.YtgpjedjgmpienaaGreatDoorCards
import Derived.Test.YtgpjedjgmpienaaGreatDoorTie
import Derived.Test.YtgpjedjgmpienaaGreatDoorMq2
import Derived.Test.YtgpjedjgmpienaaGreatDoorMf
set_option linter.unusedSimpArgs false
set_option linter.unusedVariables false
set_option linter.unusedSectionVars false
set_option linter.defProp false
set_option maxRecDepth 100000
set_option maxHeartbeats 16000000
namespace Go.Proofs.YtgpjedjgmpienaaGreatDoor
section
open Go.ChangeShapes Go.WideShapes Go.ChangeAt Go.RowKit
theorem Z5U (Z7m:∀ ps,X2M Tryz.prog Tryz.f3.params.toList ps->Xe ps->X7 Tryz.prog 3 ps (· = .val (.bool true))) (os:Os) (started:os.Started) (H:Type) (enc:TypeId×Value->H) :
 ReturnsInHanded {} Tryz.checked os 3 .any (fun w args=>(Rows.topNormalSpec.pre enc Tryz.prog Tryz.f3 [] false w args/\laidMetH Tryz.prog X40 w)/\sizedMet enc Tryz.prog Tryz.f3 (OpenSpec.ofChange Rows.topNormalSpec) false w args)
  (Rows.topNormalSpec.post enc Tryz.prog Tryz.f3 false true false false):=by
 refine returnsInHanded_of_change_and (C:=Tryz.checked) (X:=fun w _=>laidMetH Tryz.prog X40 w) (fun _ _ _ hh h=>h.of_heap hh) own started (by kernel_rfl) Tryz.func3
  (ChangeSpec.witness_shaped (enc:=enc) (C:=Tryz.checked) (os:=os) (X:=fun w _=>laidMetH Tryz.prog X40 w) false (World.laidAll Tryz.prog os X40) #[.slice none 0 0,.slice none 0 0] 8 (World.laidAll_os _ _ _) (World.shaped_of_ZipB (by kernel_rfl) (by kernel_rfl)) (by kernel_rfl) (by kernel_rfl) (by kernel_rfl) (by rw [MakeChecks.laidMetH_plain _ _ _ (by kernel_rfl)]; exact laidMet_laidAll _ (by kernel_rfl) (by kernel_rfl))) ?_
 intro W base args ds gs before hval hW _ hwt hL _
 exact Z9F (P:=Tryz.prog) (G:=X5Q Tryz.prog Tryz.f3.params.toList) (by kernel_rfl) (Zkk (by kernel_rfl)) X5i (ZfL (by kernel_rfl)) (tb:=4) (by kernel_rfl) (by kernel_rfl) rfl (fun ds hd=>by
  match ds,hd with
  | [a,b],_=>exact⟨rfl,rfl,rfl⟩) Z7m W (ZhR hL) base args ds gs before hval hW hwt
end
end Go.Proofs.YtgpjedjgmpienaaGreatDoor
