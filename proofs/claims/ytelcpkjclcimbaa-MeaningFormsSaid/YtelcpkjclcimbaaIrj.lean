/-
  The calculus: what the shape of an argument's type says of its abstract value. For every program; no statement of the seat is proved here.
-/
import Derived.Test.YtelcpkjclcimbaaIrh
import Derived.Test.YtelcpkjclcimbaaIri
namespace Go.Proofs.Ytelcpkjclcimbaa
open Go.RowKit
set_option linter.unusedVariables false

def intT (P : Program) (t : TypeId) : Option IntKind := match P.underlying t with | some (.int k) => some k | _ => none
def boolT (P : Program) (t : TypeId) : Bool := match P.underlying t with | some .bool => true | _ => false
def sliceT (P : Program) (t : TypeId) : Option TypeId := match P.underlying t with | some (.slice e) => some e | _ => none
def structT (P : Program) (t : TypeId) : Option Nat := match P.underlying t with | some (.struct _) => some (P.cellsOf t) | _ => none
def fieldT (P : Program) (t : TypeId) (i : Nat) : Option (Nat × TypeId × Nat) := match P.underlying t with | some (.struct fs) => (fs[i]?).map fun f => (f.offset, f.type, P.cellsOf f.type) | _ => none

section
variable {P : Program} {t : TypeId} {n : Nat} {ps : List PV} {p : PV}

theorem intT_some {k : IntKind} (h : intT P t = some k) : P.underlying t = some (.int k) := by
  unfold intT at h
  split at h
  · rename_i k' hu; cases h; exact hu
  · cases h
theorem boolT_some (h : boolT P t = true) : P.underlying t = some .bool := by
  unfold boolT at h
  split at h
  · rename_i hu; exact hu
  · cases h
theorem sliceT_some {e : TypeId} (h : sliceT P t = some e) : P.underlying t = some (.slice e) := by
  unfold sliceT at h
  split at h
  · rename_i k' hu; cases h; exact hu
  · cases h
theorem structT_some {k : Nat} (h : structT P t = some k) : ∃ fs, P.underlying t = some (.struct fs) ∧ P.cellsOf t = k := by
  unfold structT at h
  split at h
  · rename_i fs hu; cases h; exact ⟨fs, hu, rfl⟩
  · cases h
theorem fieldT_some {i off sz : Nat} {ty : TypeId} (h : fieldT P t i = some (off, ty, sz)) : ∃ fs f, P.underlying t = some (.struct fs) ∧ f ∈ fs.toList ∧ f.offset = off ∧ f.type = ty ∧ P.cellsOf f.type = sz := by
  unfold fieldT at h
  split at h
  · rename_i fs hu
    cases hf : fs[i]? with
    | none => rw [hf] at h; cases h
    | some f =>
      rw [hf] at h
      simp only [Option.map_some, Option.some.injEq, Prod.mk.injEq] at h
      exact ⟨fs, f, hu, by
        have := (Array.getElem?_eq_some_iff.1 hf)
        obtain ⟨hi, rfl⟩ := this
        simp, h.1, h.2.1, h.2.2⟩
  · cases h

theorem shape_int {k : IntKind} (h : Shape P n t ps) (hk : intT P t = some k) : ∃ m, (Lit.int k m).wf = true ∧ ps = [.val (.int k m)] := by
  cases n with
  | zero => exact h.elim
  | succ n => simpa only [Shape, intT_some hk] using h
theorem shape_bool (h : Shape P n t ps) (hk : boolT P t = true) : ∃ b, ps = [.val (.bool b)] := by
  cases n with
  | zero => exact h.elim
  | succ n => simpa only [Shape, boolT_some hk] using h
theorem shape_slice {e : TypeId} (h : Shape P n t ps) (hk : sliceT P t = some e) : ∃ n' ll fl, ll.length ≤ maxVec ∧ (∀ l ∈ ll, Shape P n' e l) ∧ ps = [.vec ll fl] := by
  cases n with
  | zero => exact h.elim
  | succ n =>
    have : ∃ ll fl, ll.length ≤ maxVec ∧ (∀ l ∈ ll, Shape P n e l) ∧ ps = [.vec ll fl] := by simpa only [Shape, sliceT_some hk] using h
    obtain ⟨ll, fl, h⟩ := this
    exact ⟨n, ll, fl, h⟩
theorem shape_len {k : Nat} (h : Shape P n t ps) (hk : structT P t = some k) : ps.length = k := by
  obtain ⟨fs, hu, rfl⟩ := structT_some hk
  cases n with
  | zero => exact h.elim
  | succ n =>
    have : ps.length = P.cellsOf t ∧ ∀ f ∈ fs.toList, Shape P n f.type ((ps.drop f.offset).take (P.cellsOf f.type)) := by simpa only [Shape, hu] using h
    exact this.1
theorem shape_field {i off sz : Nat} {ty : TypeId} (h : Shape P n t ps) (hk : fieldT P t i = some (off, ty, sz)) : ∃ n', Shape P n' ty ((ps.drop off).take sz) := by
  obtain ⟨fs, f, hu, hf, rfl, rfl, rfl⟩ := fieldT_some hk
  cases n with
  | zero => exact h.elim
  | succ n =>
    have : ps.length = P.cellsOf t ∧ ∀ f ∈ fs.toList, Shape P n f.type ((ps.drop f.offset).take (P.cellsOf f.type)) := by simpa only [Shape, hu] using h
    exact ⟨n, this.2 f hf⟩

theorem shapeV_int {k : IntKind} (h : ShapeV P t p) (hk : intT P t = some k) : ∃ m, (Lit.int k m).wf = true ∧ p = .val (.int k m) := by
  obtain ⟨n, h⟩ := h
  rw [intT_some hk] at h
  obtain ⟨m, h1, h2⟩ := shape_int (show Shape P n t [p] from h) hk
  exact ⟨m, h1, by simpa using h2⟩
theorem shapeV_bool (h : ShapeV P t p) (hk : boolT P t = true) : ∃ b, p = .val (.bool b) := by
  obtain ⟨n, h⟩ := h
  rw [boolT_some hk] at h
  obtain ⟨m, h2⟩ := shape_bool (show Shape P n t [p] from h) hk
  exact ⟨m, by simpa using h2⟩
theorem shapeV_slice {e : TypeId} (h : ShapeV P t p) (hk : sliceT P t = some e) : ∃ n' ll fl, ll.length ≤ maxVec ∧ (∀ l ∈ ll, Shape P n' e l) ∧ p = .vec ll fl := by
  obtain ⟨n, h⟩ := h
  rw [sliceT_some hk] at h
  obtain ⟨n', ll, fl, h1, h2, h3⟩ := shape_slice (show Shape P n t [p] from h) hk
  exact ⟨n', ll, fl, h1, h2, by simpa using h3⟩
theorem shapeV_struct {k : Nat} (h : ShapeV P t p) (hk : structT P t = some k) : ∃ n ps, p = .agg ps ∧ Shape P n t ps := by
  obtain ⟨n, h⟩ := h
  obtain ⟨fs, hu, _⟩ := structT_some hk
  rw [hu] at h
  obtain ⟨ps, h1, h2⟩ := h
  exact ⟨n, ps, h1, h2⟩

/-- Slices of numbers. -/
theorem shape_ints {k : IntKind} {e : TypeId} {ll : List (List PV)} (h : ∀ l ∈ ll, Shape P n e l) (hk : intT P e = some k) : ∃ ms : List Int, (∀ m ∈ ms, (Lit.int k m).wf = true) ∧ ll = ms.map fun m => [.val (.int k m)] := by
  induction ll with
  | nil => exact ⟨[], by simp, rfl⟩
  | cons a r ih =>
    obtain ⟨ms, h1, rfl⟩ := ih fun l hl => h l (by simp [hl])
    obtain ⟨m, hm, rfl⟩ := shape_int (h a (by simp)) hk
    exact ⟨m :: ms, fun x hx => by rcases List.mem_cons.1 hx with rfl | hx
                                   · exact hm
                                   · exact h1 x hx, rfl⟩
end
end Go.Proofs.Ytelcpkjclcimbaa
