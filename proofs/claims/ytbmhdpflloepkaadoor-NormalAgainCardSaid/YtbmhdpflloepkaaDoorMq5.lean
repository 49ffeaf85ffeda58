/-
 Proved: for every input the law NormalAgain returns true, never panics, and leaves its arguments as0 they were, on the given card's conditions (the table of the bits package reads as0 the program's text lays it, and is tied to it).
-/
import Derived.SevenTiedAt
import Derived.Test.YtbmhdpflloepkaaDoorCards
import Derived.Test.YtbmhdpflloepkaaDoorTie
import Derived.Test.YtbmhdpflloepkaaDoorMq4
set_option linter.unusedSimpArgs false
set_option linter.unusedVariables false
set_option linter.unusedSectionVars false

namespace Go.Proofs.YtbmhdpflloepkaaDoor
open Go.ChangeShapes Go.WideShapes Go.ChangeAt Go.RowKit
set_option linter.unusedVariables false

theorem normalAgain_spec : ∀ ps, ShapeVs Tryd.prog Tryd.f3.params.toList ps → pureL ps → Spec Tryd.prog 3 ps (· = .val (.bool true)) := by
 intro ps hs hp
 rw [show Tryd.f3.params.toList = [22, 24] by kernel_rfl] at hs
 obtain ⟨a, b, rfl, k0, k1⟩ := shapeVs_two hs
 obtain ⟨x0, f0, h0, rfl⟩ := raws_shape k0
 obtain ⟨x1, h1, rfl⟩ := rawV_shape k1
 exact normalAgain_law x0 x1 f0 h0 h1

set_option maxRecDepth 100000 in
theorem normalAgain_lifted (os : Os) (started : os.Started) (H : Type) (enc : TypeId × Value → H) :
 ReturnsInHanded {} Tryd.checked os 3 .any (fun w args => (Rows.normalAgainSpec.pre enc Tryd.prog Tryd.f3 [] false w args ∧ laidMetH Tryd.prog laidV w) ∧ sizedMet enc Tryd.prog Tryd.f3 (OpenSpec.ofChange Rows.normalAgainSpec) false w args)
  (Rows.normalAgainSpec.post enc Tryd.prog Tryd.f3 false true false false) := by
 refine returnsInHanded_of_change_and (C := Tryd.checked) (X := fun w _ => laidMetH Tryd.prog laidV w) (fun _ _ _ hh h => h.of_heap hh) own started (by kernel_rfl) Tryd.func3
  (ChangeSpec.witness_shaped (enc := enc) (C := Tryd.checked) (os := os) (X := fun w _ => laidMetH Tryd.prog laidV w) false (World.doorLaid Tryd.prog 400 os) #[.slice none 0 0, .agg #[.int .u8 0, .int .u8 0, .bool false]] 8 rfl (World.shaped_of_RefB (by kernel_rfl) (by kernel_rfl)) (by kernel_rfl) (by kernel_rfl) (by kernel_rfl) (door_met os _)) ?_
 intro W base args ds gs before hval hW _ hwt hL _
 exact law_contract (P := Tryd.prog) (G := partsG Tryd.prog Tryd.f3.params.toList) (by kernel_rfl) (inG_of (by kernel_rfl)) laidOut (parsOk_of (by kernel_rfl)) (tb := 4) (by kernel_rfl) (by kernel_rfl) rfl (fun ds hd => by
  match ds, hd with
  | [a, b], _ => exact ⟨rfl, rfl, rfl⟩) normalAgain_spec W (globs_in hL) base args ds gs before hval hW hwt

theorem normalAgain_holds : Rows.NormalAgainSaid :=
 OpenClaim.holds_of_wide 3 Tryd.f3 rfl rfl rfl rfl rfl rfl rfl ⟨rfl, rfl, rfl, rfl, rfl⟩ rfl rfl rfl rfl rfl (by kernel_rfl) Tryd.func3 (by kernel_rfl)
  (of_decide_eq_true (by kernel_rfl)) (by unfold Func.isWrapper; first | (rw [if_pos (by decide +kernel)]; kernel_rfl) | (rw [if_neg (by decide +kernel)]; exact ⟨rfl, rfl⟩))
  (fun os started H enc _ => normalAgain_lifted os started H enc)

theorem normalAgain_card : Rows.NormalAgainCardSaid :=
 Claim7.holds_tied_plain_at .later [] [.data] true (true, "db16ae82c0b9bc79e96af257266fda4978caac244ddf6c69dd78785f3888a6d7") false
  normalAgain_holds (fun _ h => by cases h) (by kernel_rfl) (fun _ h => by cases h) normalAgain_row_tie rfl ⟨rfl, rfl⟩ (by kernel_rfl) rfl
  (fun f fn hf hfn => by
    obtain rfl : f = 3 := Option.some.inj ((show Tryd.prog.funcNamed "arbac/arbaclaw19.NormalAgain" = some 3 by kernel_rfl).symm.trans hf) |>.symm
    obtain rfl : fn = Tryd.f3 := (Option.some.inj (Tryd.func3.symm.trans hfn)).symm
    exact ⟨by kernel_rfl, fun j t ht => by
     rw [show Tryd.f3.params = #[22, 24] by kernel_rfl] at ht
     have hm : t ∈ [22, 24] := by simpa using Array.mem_of_getElem? ht
     have hall : ([22, 24].all fun u => !Tryd.prog.wantsStandIn u) = true := by kernel_rfl
     exact (show Tryd.prog.wantsStandIn t = false by simpa using List.all_eq_true.1 hall t hm)⟩)
  (by kernel_rfl)
#print axioms normalAgain_card
end Go.Proofs.YtbmhdpflloepkaaDoor
