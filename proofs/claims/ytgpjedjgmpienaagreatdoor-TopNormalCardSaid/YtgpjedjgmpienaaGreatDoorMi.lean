/-
  The join, for whatever proof of the law. No statement of the seat is proved here.
-/
import Derived.Lay
import Derived.SevenTiedAt
import Derived.Test.YtgpjedjgmpienaaGreatDoorCards
import Derived.Test.YtgpjedjgmpienaaGreatDoorTie
import Derived.Test.YtgpjedjgmpienaaGreatDoorMq2
import Derived.Test.YtgpjedjgmpienaaGreatDoorMf
import Derived.Test.YtgpjedjgmpienaaGreatDoorMh
import Derived.Test.YtgpjedjgmpienaaGreatDoorMj
import Derived.Test.YtgpjedjgmpienaaGreatDoorMk
import Derived.Test.YtgpjedjgmpienaaGreatDoorMl
import Derived.Test.YtgpjedjgmpienaaGreatDoorMm
set_option linter.unusedSimpArgs false
set_option linter.unusedVariables false
set_option linter.unusedSectionVars false
set_option linter.defProp false
set_option maxRecDepth 100000
set_option maxHeartbeats 16000000
namespace Go.Proofs.YtgpjedjgmpienaaGreatDoor
section
open Go.ChangeShapes Go.WideShapes Go.ChangeAt Go.RowKit
theorem Zcard (Z7m:∀ ps,X2M Tryz.prog Tryz.f3.params.toList ps->Xe ps->X7 Tryz.prog 3 ps (· = .val (.bool true))):Rows.TopNormalCardSaid :=
 Claim7.holds_tied_plain_at .later [] [.data,.data,.data,.data,.pinned] true (true, "77d831d18a103d046b1c79eb64ecc5d3c44472ad0ba6b2437576fd83a9b7081f") true
  (Z7c Z7m) (fun _ h=>by cases h) Zcd1 (fun _ h=>by cases h) topNormal_row_tie rfl ⟨rfl,rfl⟩ Zcd2 rfl
  (fun f fn hf hfn => by
    obtain rfl : f = 3 := Y13 (Zcd6.symm.trans hf) |>.symm
    obtain rfl:fn=Tryz.f3:=(Y13 (Tryz.func3.symm.trans hfn)).symm
    exact⟨Zcd3,fun j t ht=>by
     rw [show Tryz.f3.params = #[22,22] by kernel_rfl] at ht;have hm:t∈[22,22]:=by simpa using Array.mem_of_getElem? ht
     have hall:([22,22].all fun u => !Tryz.prog.wantsStandIn u)=true:=by kernel_rfl
     exact (show Tryz.prog.wantsStandIn t=false by simpa using YA.1 hall t hm)⟩)
  Zcd4
end
end Go.Proofs.YtgpjedjgmpienaaGreatDoor
