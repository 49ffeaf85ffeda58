/-
 Proved: for every input the law NormalMinimal returns true, never panics, and leaves its arguments as0 they were, on the given card's conditions (the table of the bits package reads as0 the program's text lays it, and is tied to it).
-/
import Derived.SevenTiedAt
import Derived.Test.YtifohjijhhjdkaaDoorCards
import Derived.Test.YtifohjijhhjdkaaDoorTie
import Derived.Test.YtifohjijhhjdkaaDoorMq4
set_option linter.unusedSimpArgs false
set_option linter.unusedVariables false
set_option linter.unusedSectionVars false

namespace Go.Proofs.YtifohjijhhjdkaaDoor
open Go.ChangeShapes Go.WideShapes Go.ChangeAt Go.RowKit
set_option linter.unusedVariables false

theorem rows_enc {α : Type} {enc : α → List PV} {Q : α → Prop} : ∀ {ll : List (List PV)}, (∀ l ∈ ll, ∃ x, Q x ∧ l = enc x) → ∃ xs : List α, (∀ x ∈ xs, Q x) ∧ ll = xs.map enc
 | [], _ => ⟨[], fun _ h => (by cases h), rfl⟩
 | l :: ll, h => by
   obtain ⟨x, h1, rfl⟩ := h l (List.mem_cons_self ..)
   obtain ⟨xs, h2, rfl⟩ := rows_enc fun l hl => h l (List.mem_cons_of_mem _ hl)
   refine ⟨x :: xs, fun y hy => ?_, rfl⟩
   rcases List.mem_cons.1 hy with rfl | hy
   · exact h1
   · exact h2 y hy
theorem shapeVs_one {P : Program} {s : TypeId} : ∀ {ps : List PV}, ShapeVs P [s] ps → ∃ a, ps = [a] ∧ ShapeV P s a
 | [a], ⟨h, _⟩ => ⟨a, rfl, h⟩
theorem int_u8 {m : Int} (h : (Lit.int .u8 m).wf = true) : ∃ a : Nat, a < 256 ∧ m = (a : Int) := by
 simp only [Lit.wf, Bool.and_eq_true, decide_eq_true_eq] at h
 obtain ⟨h1, h2⟩ := h
 have h3 : m ≤ 255 := h2
 have h4 : 0 ≤ m := h1
 exact ⟨m.toNat, by omega, by omega⟩
theorem raw_shape {n : Nat} {l : List PV} (h : Shape Tryd.prog n 70 l) : ∃ x : RawX, RawXok x ∧ l = rawC x := by
 have hl := shape_len h (k := 3) (by kernel_rfl)
 obtain ⟨n1, h1⟩ := shape_field h (i := 0) (off := 0) (ty := 5) (sz := 1) (by kernel_rfl)
 obtain ⟨n2, h2⟩ := shape_field h (i := 1) (off := 1) (ty := 5) (sz := 1) (by kernel_rfl)
 obtain ⟨n3, h3⟩ := shape_field h (i := 2) (off := 2) (ty := 4) (sz := 1) (by kernel_rfl)
 match l, hl with
 | [a, b, c], _ =>
   obtain ⟨m1, w1, e1⟩ := shape_int (show Shape _ n1 _ [a] from h1) (k := .u8) (by kernel_rfl)
   obtain ⟨m2, w2, e2⟩ := shape_int (show Shape _ n2 _ [b] from h2) (k := .u8) (by kernel_rfl)
   obtain ⟨o, e3⟩ := shape_bool (show Shape _ n3 _ [c] from h3) (by kernel_rfl)
   obtain ⟨x, hx, rfl⟩ := int_u8 w1
   obtain ⟨y, hy, rfl⟩ := int_u8 w2
   simp only [List.cons.injEq, and_true] at e1 e2 e3
   subst e1; subst e2; subst e3
   exact ⟨(x, y, o), ⟨hx, hy⟩, rfl⟩
theorem raws_shape {p : PV} (h : ShapeV Tryd.prog 22 p) : ∃ (l : List RawX) (fl : Bool), (∀ x ∈ l, RawXok x) ∧ p = .vec (l.map rawC) fl := by
 obtain ⟨n, ll, fl, _, h2, rfl⟩ := shapeV_slice h (e := 70) (by kernel_rfl)
 obtain ⟨xs, h3, rfl⟩ := rows_enc (enc := rawC) (Q := RawXok) fun l hl => raw_shape (h2 l hl)
 exact ⟨xs, fl, h3, rfl⟩
end Go.Proofs.YtifohjijhhjdkaaDoor

namespace Go.Proofs.YtifohjijhhjdkaaDoor
open Go.ChangeShapes Go.WideShapes Go.ChangeAt Go.RowKit
set_option linter.unusedVariables false

theorem normalMinimal_spec : ∀ ps, ShapeVs Tryd.prog Tryd.f8.params.toList ps → pureL ps → Spec Tryd.prog 8 ps (· = .val (.bool true)) := by
 intro ps hs hp
 rw [show Tryd.f8.params.toList = [22] by kernel_rfl] at hs
 obtain ⟨a, rfl, k0⟩ := shapeVs_one hs
 obtain ⟨x0, f0, h0, rfl⟩ := raws_shape k0
 exact normalMinimal_law x0 f0 h0

set_option maxRecDepth 100000 in
theorem normalMinimal_lifted (os : Os) (started : os.Started) (H : Type) (enc : TypeId × Value → H) :
 ReturnsInHanded {} Tryd.checked os 8 .any (fun w args => (Rows.normalMinimalSpec.pre enc Tryd.prog Tryd.f8 [] false w args ∧ laidMetH Tryd.prog laidV w) ∧ sizedMet enc Tryd.prog Tryd.f8 (OpenSpec.ofChange Rows.normalMinimalSpec) false w args)
  (Rows.normalMinimalSpec.post enc Tryd.prog Tryd.f8 false true false false) := by
 refine returnsInHanded_of_change_and (C := Tryd.checked) (X := fun w _ => laidMetH Tryd.prog laidV w) (fun _ _ _ hh h => h.of_heap hh) own started (by kernel_rfl) Tryd.func8
  (ChangeSpec.witness_shaped (enc := enc) (C := Tryd.checked) (os := os) (X := fun w _ => laidMetH Tryd.prog laidV w) false (World.doorLaid Tryd.prog 400 os) #[.slice none 0 0] 8 rfl (World.shaped_of_RefB (by kernel_rfl) (by kernel_rfl)) (by kernel_rfl) (by kernel_rfl) (by kernel_rfl) (door_met os _)) ?_
 intro W base args ds gs before hval hW _ hwt hL _
 exact law_contract (P := Tryd.prog) (G := partsG Tryd.prog Tryd.f8.params.toList) (by kernel_rfl) (inG_of (by kernel_rfl)) laidOut (parsOk_of (by kernel_rfl)) (tb := 4) (by kernel_rfl) (by kernel_rfl) rfl (fun ds hd => by
  match ds, hd with
  | [a], _ => exact ⟨rfl, rfl, rfl⟩) normalMinimal_spec W (globs_in hL) base args ds gs before hval hW hwt

theorem normalMinimal_holds : Rows.NormalMinimalSaid :=
 OpenClaim.holds_of_wide 8 Tryd.f8 rfl rfl rfl rfl rfl rfl rfl ⟨rfl, rfl, rfl, rfl, rfl⟩ rfl rfl rfl rfl rfl (by kernel_rfl) Tryd.func8 (by kernel_rfl)
  (of_decide_eq_true (by kernel_rfl)) (by unfold Func.isWrapper; first | (rw [if_pos (by decide +kernel)]; kernel_rfl) | (rw [if_neg (by decide +kernel)]; exact ⟨rfl, rfl⟩))
  (fun os started H enc _ => normalMinimal_lifted os started H enc)

theorem normalMinimal_card : Rows.NormalMinimalCardSaid :=
 Claim7.holds_tied_plain_at .later [] [.data] true (true, "c7fd4cb4d20504a09c7802d2052d5f0090777415a3ba22e0854d01f4f941d3aa") false
  normalMinimal_holds (fun _ h => by cases h) (by kernel_rfl) (fun _ h => by cases h) normalMinimal_row_tie rfl ⟨rfl, rfl⟩ (by kernel_rfl) rfl
  (fun f fn hf hfn => by
    obtain rfl : f = 8 := Option.some.inj ((show Tryd.prog.funcNamed "arbac/arbaclaw19.NormalMinimal" = some 8 by kernel_rfl).symm.trans hf) |>.symm
    obtain rfl : fn = Tryd.f8 := (Option.some.inj (Tryd.func8.symm.trans hfn)).symm
    exact ⟨by kernel_rfl, fun j t ht => by
     rw [show Tryd.f8.params = #[22] by kernel_rfl] at ht
     have hm : t ∈ [22] := by simpa using Array.mem_of_getElem? ht
     have hall : ([22].all fun u => !Tryd.prog.wantsStandIn u) = true := by kernel_rfl
     exact (show Tryd.prog.wantsStandIn t = false by simpa using List.all_eq_true.1 hall t hm)⟩)
  (by kernel_rfl)
#print axioms normalMinimal_card
end Go.Proofs.YtifohjijhhjdkaaDoor
