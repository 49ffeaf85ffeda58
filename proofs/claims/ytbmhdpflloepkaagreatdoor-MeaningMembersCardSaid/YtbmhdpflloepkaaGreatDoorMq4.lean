/-
  Merged from the texts that this claim's theorem needs, part 5 of 7. No statement of the seat is proved here.
-/
import Derived.Test.YtbmhdpflloepkaaGreatDoorMq3
set_option linter.unusedSimpArgs false
set_option linter.unusedVariables false
set_option linter.unusedSectionVars false

namespace Go.Proofs.YtbmhdpflloepkaaGreatDoor
open Go.RowKit
set_option linter.unusedVariables false
attribute [local irreducible] aw opsK dK

theorem few1_spec (v : Int) : Spec Tryz.prog 82 [.val (.int .i64 v)] (· = .agg (fC .u8 (.mk 1 v [] []))) := by
 refine spec_intro ok82 (Nat.le_of_ble_eq_true rfl) fun C hC => ?_
 (refine go ?_;repeat' (apply B<;>intro hb<;>try cases hb))
 exact ret_low rfl (fC_pure .u8 (.mk 1 v [] [])) rfl
theorem few2_spec (v : Int) : Spec Tryz.prog 83 [.val (.int .i64 v)] (· = .agg (fC .u8 (.mk 6 0 [v] []))) := by
 refine spec_intro ok83 (Nat.le_of_ble_eq_true rfl) fun C hC => ?_
 (refine go ?_;repeat' (apply B<;>intro hb<;>try cases hb))
 exact ret_low rfl (fC_pure .u8 (.mk 6 0 [v] [])) rfl
theorem few3_spec (v : Int) : Spec Tryz.prog 84 [.val (.int .i64 v)] (· = .agg (fC .u8 (.mk 4 0 [v] []))) := by
 refine spec_intro ok84 (Nat.le_of_ble_eq_true rfl) fun C hC => ?_
 (refine go ?_;repeat' (apply B<;>intro hb<;>try cases hb))
 exact ret_low rfl (fC_pure .u8 (.mk 4 0 [v] [])) rfl

def few0 : Fm := .mk 11 0 [] [.mk 5 0 [1, 2] [], .mk 1 1 [] []]
def few1 : Fm := .mk 10 0 [] [.mk 4 0 [1] [], .mk 4 0 [2] []]
def few2 : Fm := .mk 12 0 [] [.mk 16 0 [] [.mk 6 0 [1] [], .mk 6 0 [2] []], .mk 1 3 [] []]
theorem fewL_pure : pureLL [fC .u8 few0, fC .u8 few1, fC .u8 few2] := ⟨fC_pure _ _, fC_pure _ _, fC_pure _ _, trivial⟩
theorem few_spec : Spec Tryz.prog 44 [] (· = .vec [fC .u8 few0, fC .u8 few1, fC .u8 few2] false) := by
 refine spec_intro ok44 (Nat.le_of_ble_eq_true rfl) fun C hC => ?_
 (refine go ?_;repeat' (apply B<;>intro hb<;>try cases hb))
 refine opsK_eq (few2_spec 1) rfl rfl rfl ⟨trivial, trivial⟩ rfl ?_
 (refine go ?_;repeat' (apply B<;>intro hb<;>try cases hb))
 refine opsK_eq (few2_spec 2) rfl rfl rfl ⟨trivial, trivial⟩ rfl ?_
 (refine go ?_;repeat' (apply B<;>intro hb<;>try cases hb))
 refine dK_eq (few1_spec 1) rfl rfl rfl ⟨trivial, trivial⟩ ?_
 (refine go ?_;repeat' (apply B<;>intro hb<;>try cases hb))
 refine dK_eq (few3_spec 1) rfl rfl rfl ⟨trivial, trivial⟩ ?_
 (refine go ?_;repeat' (apply B<;>intro hb<;>try cases hb))
 refine dK_eq (few3_spec 2) rfl rfl rfl ⟨trivial, trivial⟩ ?_
 (refine go ?_;repeat' (apply B<;>intro hb<;>try cases hb))
 refine dK_eq (few1_spec 3) rfl rfl rfl ⟨trivial, trivial⟩ ?_
 (refine go ?_;repeat' (apply B<;>intro hb<;>try cases hb))
 exact ret_low rfl fewL_pure rfl

theorem holds_at (N : Nat) (ms : List Int) (fl : Bool) (f : Fm) (hd : f.depth ≤ 1000) (hsz : f.size ≤ 1099511627776) (b : Bool) (hb : (decide (typeOfE f = 0) && decide (typeOfT f = 1) && decide (evM N ms f = 1)) = b) : Spec Tryz.prog 33 [.agg (fC .u8 f), setN N, .vec (nums ms) fl] (· = .val (.bool b)) := by
 subst hb
 exact holds_spec N ms fl f hd hsz

theorem awake_spec : Spec Tryz.prog 10 [] (· = .val (.bool true)) := by
 refine spec_intro ok10 (Nat.le_of_ble_eq_true rfl) fun C hC => ?_
 (refine go ?_;repeat' (apply B<;>intro hb<;>try cases hb))
 refine opsK_eq few_spec rfl rfl rfl trivial rfl ?_
 (refine go ?_;repeat' (apply B<;>intro hb<;>try cases hb))
 refine dK_eq (of_spec [1, 2] true) rfl rfl rfl ⟨nums_pure _, trivial⟩ ?_
 refine dK_eq (holds_at _ [] true few0 (by decide) (by decide) false (by decide)) rfl rfl rfl ⟨fC_pure _ _, setN_pure _, nums_pure _, trivial⟩ ?_
 (refine go ?_;repeat' (apply B<;>intro hb<;>try cases hb))
 refine dK_eq (of_spec [1, 3] true) rfl rfl rfl ⟨nums_pure _, trivial⟩ ?_
 (refine go ?_;repeat' (apply B<;>intro hb<;>try cases hb))
 refine dK_eq (holds_at _ [] true few0 (by decide) (by decide) true (by decide)) rfl rfl rfl ⟨fC_pure _ _, setN_pure _, nums_pure _, trivial⟩ ?_
 (refine go ?_;repeat' (apply B<;>intro hb<;>try cases hb))
 refine dK_eq (of_spec [1] true) rfl rfl rfl ⟨nums_pure _, trivial⟩ ?_
 (refine go ?_;repeat' (apply B<;>intro hb<;>try cases hb))
 refine dK_eq (holds_at _ [] true few1 (by decide) (by decide) false (by decide)) rfl rfl rfl ⟨fC_pure _ _, setN_pure _, nums_pure _, trivial⟩ ?_
 (refine go ?_;repeat' (apply B<;>intro hb<;>try cases hb))
 refine dK_eq (of_spec [] true) rfl rfl rfl ⟨nums_pure _, trivial⟩ ?_
 (refine go ?_;repeat' (apply B<;>intro hb<;>try cases hb))
 refine dK_eq (holds_at _ [] true few1 (by decide) (by decide) true (by decide)) rfl rfl rfl ⟨fC_pure _ _, setN_pure _, nums_pure _, trivial⟩ ?_
 (refine go ?_;repeat' (apply B<;>intro hb<;>try cases hb))
 refine dK_eq (of_spec [] true) rfl rfl rfl ⟨nums_pure _, trivial⟩ ?_
 (refine go ?_;repeat' (apply B<;>intro hb<;>try cases hb))
 refine dK_eq (holds_at _ [0, 1, 1] true few2 (by decide) (by decide) true (by decide)) rfl rfl rfl ⟨fC_pure _ _, setN_pure _, nums_pure _, trivial⟩ ?_
 (refine go ?_;repeat' (apply B<;>intro hb<;>try cases hb))
 exact ret_ok rfl trivial rfl
end Go.Proofs.YtbmhdpflloepkaaGreatDoor

namespace Go.Proofs.YtbmhdpflloepkaaGreatDoor
open Go.RowKit
set_option linter.unusedVariables false

def intT (P : Program) (t : TypeId) : Option IntKind := match P.underlying t with | some (.int k) => some k | _ => none
def sliceT (P : Program) (t : TypeId) : Option TypeId := match P.underlying t with | some (.slice e) => some e | _ => none
def structT (P : Program) (t : TypeId) : Option Nat := match P.underlying t with | some (.struct _) => some (P.cellsOf t) | _ => none
def fieldT (P : Program) (t : TypeId) (i : Nat) : Option (Nat × TypeId × Nat) := match P.underlying t with | some (.struct fs) => (fs[i]?).map fun f => (f.offset, f.type, P.cellsOf f.type) | _ => none

section
variable {P : Program} {t : TypeId} {n : Nat} {ps : List PV} {p : PV}

theorem intT_some {k : IntKind} (h : intT P t = some k) : P.underlying t = some (.int k) := by
 unfold intT at h
 split at h
 · rename_i k' hu; cases h; exact hu
 · cases h
theorem sliceT_some {e : TypeId} (h : sliceT P t = some e) : P.underlying t = some (.slice e) := by
 unfold sliceT at h
 split at h
 · rename_i k' hu; cases h; exact hu
 · cases h
theorem structT_some {k : Nat} (h : structT P t = some k) : ∃ fs, P.underlying t = some (.struct fs) ∧ P.cellsOf t = k := by
 unfold structT at h
 split at h
 · rename_i fs hu; cases h; exact ⟨fs, hu, rfl⟩
 · cases h
theorem fieldT_some {i off sz : Nat} {ty : TypeId} (h : fieldT P t i = some (off, ty, sz)) : ∃ fs f, P.underlying t = some (.struct fs) ∧ f ∈ fs.toList ∧ f.offset = off ∧ f.type = ty ∧ P.cellsOf f.type = sz := by
 unfold fieldT at h
 split at h
 · rename_i fs hu
   cases hf : fs[i]? with
   | none => rw [hf] at h; cases h
   | some f =>
     rw [hf] at h
     simp only [Option.map_some, Option.some.injEq, Prod.mk.injEq] at h
     exact ⟨fs, f, hu, by
      have := (Array.getElem?_eq_some_iff.1 hf)
      obtain ⟨hi, rfl⟩ := this
      simp, h.1, h.2.1, h.2.2⟩
 · cases h

theorem shape_int {k : IntKind} (h : Shape P n t ps) (hk : intT P t = some k) : ∃ m, (Lit.int k m).wf = true ∧ ps = [.val (.int k m)] := by
 cases n with
 | zero => exact h.elim
 | succ n => simpa only [Shape, intT_some hk] using h
theorem shape_slice {e : TypeId} (h : Shape P n t ps) (hk : sliceT P t = some e) : ∃ n' ll fl, ll.length ≤ maxVec ∧ (∀ l ∈ ll, Shape P n' e l) ∧ ps = [.vec ll fl] := by
 cases n with
 | zero => exact h.elim
 | succ n =>
   have : ∃ ll fl, ll.length ≤ maxVec ∧ (∀ l ∈ ll, Shape P n e l) ∧ ps = [.vec ll fl] := by simpa only [Shape, sliceT_some hk] using h
   obtain ⟨ll, fl, h⟩ := this
   exact ⟨n, ll, fl, h⟩
theorem shape_len {k : Nat} (h : Shape P n t ps) (hk : structT P t = some k) : ps.length = k := by
 obtain ⟨fs, hu, rfl⟩ := structT_some hk
 cases n with
 | zero => exact h.elim
 | succ n =>
   have : ps.length = P.cellsOf t ∧ ∀ f ∈ fs.toList, Shape P n f.type ((ps.drop f.offset).take (P.cellsOf f.type)) := by simpa only [Shape, hu] using h
   exact this.1
theorem shape_field {i off sz : Nat} {ty : TypeId} (h : Shape P n t ps) (hk : fieldT P t i = some (off, ty, sz)) : ∃ n', Shape P n' ty ((ps.drop off).take sz) := by
 obtain ⟨fs, f, hu, hf, rfl, rfl, rfl⟩ := fieldT_some hk
 cases n with
 | zero => exact h.elim
 | succ n =>
   have : ps.length = P.cellsOf t ∧ ∀ f ∈ fs.toList, Shape P n f.type ((ps.drop f.offset).take (P.cellsOf f.type)) := by simpa only [Shape, hu] using h
   exact ⟨n, this.2 f hf⟩

theorem shapeV_int {k : IntKind} (h : ShapeV P t p) (hk : intT P t = some k) : ∃ m, (Lit.int k m).wf = true ∧ p = .val (.int k m) := by
 obtain ⟨n, h⟩ := h
 rw [intT_some hk] at h
 obtain ⟨m, h1, h2⟩ := shape_int (show Shape P n t [p] from h) hk
 exact ⟨m, h1, by simpa using h2⟩
theorem shapeV_struct {k : Nat} (h : ShapeV P t p) (hk : structT P t = some k) : ∃ n ps, p = .agg ps ∧ Shape P n t ps := by
 obtain ⟨n, h⟩ := h
 obtain ⟨fs, hu, _⟩ := structT_some hk
 rw [hu] at h
 obtain ⟨ps, h1, h2⟩ := h
 exact ⟨n, ps, h1, h2⟩

end
end Go.Proofs.YtbmhdpflloepkaaGreatDoor
