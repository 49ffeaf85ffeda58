/-
  The join, for whatever proof of the law. No statement of the seat is proved here.
-/
import Derived.Lay
import Derived.SevenTiedAt
import Derived.Test.YtgpjedjgmpienaaGreatDoorCards
import Derived.Test.YtgpjedjgmpienaaGreatDoorTie
import Derived.ProofKit
import Derived.LaidMore
import Derived.OpenShut
import Derived.KernelRfl
set_option linter.unusedSimpArgs false
set_option linter.unusedVariables false
set_option linter.unusedSectionVars false
set_option linter.defProp false
set_option maxRecDepth 100000
set_option maxHeartbeats 16000000
namespace Go.Proofs.YtgpjedjgmpienaaGreatDoor
section
open Go.ChangeShapes Go.WideShapes Go.ChangeAt Go.RowKit
theorem Zcd0:Tryz.prog.funcs.any Func.goes=false:=by kernel_rfl
theorem Zcd5:Tryz.prog.goes 3=false:=by
 have h:∀ g:FuncId,(Tryz.prog.funcs[g]?).any Func.goes=false:=fun g=>by
  cases hg:Tryz.prog.funcs[g]? with
  | none=>rfl
  | some fn=>
   cases hb:fn.goes with
   | false=>exact hb
   | true=>
    have h1:Tryz.prog.funcs.any Func.goes=true:=by
     rw [Array.any_eq_true]
     obtain⟨hi,rfl⟩:=Array.getElem?_eq_some_iff.1 hg
     exact⟨g,hi,hb⟩
    rw [Zcd0] at h1;cases h1
 unfold Program.goes
 rw [Zcd0,Bool.and_false,Bool.or_false,List.any_eq_false]
 intro g _
 rw [h g];decide
theorem Zcd6:Tryz.prog.funcNamed "arbac/arbactop.TopNormal"=some 3:=by kernel_rfl
theorem Zcd4:false=Rows.topNormalRow.goesBy Tryz.pinned.checked.prog:=by
 show false=Tryz.prog.goesAt .entering "arbac/arbactop.TopNormal"
 unfold Program.goesAt Program.goesFrom
 rw [Zcd6]
 show false=(Tryz.prog.goes 3||false)
 rw [Zcd5];rfl
end
end Go.Proofs.YtgpjedjgmpienaaGreatDoor
