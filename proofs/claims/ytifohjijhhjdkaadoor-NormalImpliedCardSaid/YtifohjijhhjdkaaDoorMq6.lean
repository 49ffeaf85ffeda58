/-
 Proved: for every input the law NormalImplied returns true, never panics, and leaves its arguments as0 they were, on the given card's conditions (the table of the bits package reads as0 the program's text lays it, and is tied to it).
-/
import Derived.SevenTiedAt
import Derived.Test.YtifohjijhhjdkaaDoorCards
import Derived.Test.YtifohjijhhjdkaaDoorTie
import Derived.Test.YtifohjijhhjdkaaDoorMq5
set_option linter.unusedSimpArgs false
set_option linter.unusedVariables false
set_option linter.unusedSectionVars false

namespace Go.Proofs.YtifohjijhhjdkaaDoor
open Go.ChangeShapes Go.WideShapes Go.ChangeAt Go.RowKit
set_option linter.unusedVariables false

theorem normalImplied_spec : ∀ ps, ShapeVs Tryd.prog Tryd.f6.params.toList ps → pureL ps → Spec Tryd.prog 6 ps (· = .val (.bool true)) := by
 intro ps hs hp
 rw [show Tryd.f6.params.toList = [38, 38, 4] by kernel_rfl] at hs
 obtain ⟨a, b, c, rfl, k0, k1, k2⟩ := shapeVs_three hs
 obtain ⟨x0, f0, h0, rfl⟩ := bytes_shape k0
 obtain ⟨x1, f1, h1, rfl⟩ := bytes_shape k1
 obtain ⟨x2, rfl⟩ := bool_shape k2
 exact normalImplied_law x0 x1 x2 f0 f1 h0 h1

set_option maxRecDepth 100000 in
theorem normalImplied_lifted (os : Os) (started : os.Started) (H : Type) (enc : TypeId × Value → H) :
 ReturnsInHanded {} Tryd.checked os 6 .any (fun w args => (Rows.normalImpliedSpec.pre enc Tryd.prog Tryd.f6 [] false w args ∧ laidMetH Tryd.prog laidV w) ∧ sizedMet enc Tryd.prog Tryd.f6 (OpenSpec.ofChange Rows.normalImpliedSpec) false w args)
  (Rows.normalImpliedSpec.post enc Tryd.prog Tryd.f6 false true false false) := by
 refine returnsInHanded_of_change_and (C := Tryd.checked) (X := fun w _ => laidMetH Tryd.prog laidV w) (fun _ _ _ hh h => h.of_heap hh) own started (by kernel_rfl) Tryd.func6
  (ChangeSpec.witness_shaped (enc := enc) (C := Tryd.checked) (os := os) (X := fun w _ => laidMetH Tryd.prog laidV w) false (World.doorLaid Tryd.prog 400 os) #[.slice none 0 0, .slice none 0 0, .bool false] 8 rfl (World.shaped_of_RefB (by kernel_rfl) (by kernel_rfl)) (by kernel_rfl) (by kernel_rfl) (by kernel_rfl) (door_met os _)) ?_
 intro W base args ds gs before hval hW _ hwt hL _
 exact law_contract (P := Tryd.prog) (G := partsG Tryd.prog Tryd.f6.params.toList) (by kernel_rfl) (inG_of (by kernel_rfl)) laidOut (parsOk_of (by kernel_rfl)) (tb := 4) (by kernel_rfl) (by kernel_rfl) rfl (fun ds hd => by
  match ds, hd with
  | [a, b, c], _ => exact ⟨rfl, rfl, rfl⟩) normalImplied_spec W (globs_in hL) base args ds gs before hval hW hwt

theorem normalImplied_holds : Rows.NormalImpliedSaid :=
 OpenClaim.holds_of_wide 6 Tryd.f6 rfl rfl rfl rfl rfl rfl rfl ⟨rfl, rfl, rfl, rfl, rfl⟩ rfl rfl rfl rfl rfl (by kernel_rfl) Tryd.func6 (by kernel_rfl)
  (of_decide_eq_true (by kernel_rfl)) (by unfold Func.isWrapper; first | (rw [if_pos (by decide +kernel)]; kernel_rfl) | (rw [if_neg (by decide +kernel)]; exact ⟨rfl, rfl⟩))
  (fun os started H enc _ => normalImplied_lifted os started H enc)

theorem normalImplied_card : Rows.NormalImpliedCardSaid :=
 Claim7.holds_tied_plain_at .later [] [.data] true (true, "c7fd4cb4d20504a09c7802d2052d5f0090777415a3ba22e0854d01f4f941d3aa") false
  normalImplied_holds (fun _ h => by cases h) (by kernel_rfl) (fun _ h => by cases h) normalImplied_row_tie rfl ⟨rfl, rfl⟩ (by kernel_rfl) rfl
  (fun f fn hf hfn => by
    obtain rfl : f = 6 := Option.some.inj ((show Tryd.prog.funcNamed "arbac/arbaclaw19.NormalImplied" = some 6 by kernel_rfl).symm.trans hf) |>.symm
    obtain rfl : fn = Tryd.f6 := (Option.some.inj (Tryd.func6.symm.trans hfn)).symm
    exact ⟨by kernel_rfl, fun j t ht => by
     rw [show Tryd.f6.params = #[38, 38, 4] by kernel_rfl] at ht
     have hm : t ∈ [38, 38, 4] := by simpa using Array.mem_of_getElem? ht
     have hall : ([38, 38, 4].all fun u => !Tryd.prog.wantsStandIn u) = true := by kernel_rfl
     exact (show Tryd.prog.wantsStandIn t = false by simpa using List.all_eq_true.1 hall t hm)⟩)
  (by kernel_rfl)
#print axioms normalImplied_card
end Go.Proofs.YtifohjijhhjdkaaDoor
