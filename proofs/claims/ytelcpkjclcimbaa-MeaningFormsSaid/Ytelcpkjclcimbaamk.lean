/-
  Formulas from bytes: what the specification makes is well-typed. No statement of the seat is proved here.
-/
import Derived.Test.YtelcpkjclcimbaaIri
import Derived.Test.Ytelcpkjclcimbaawi
namespace Go.Proofs.Ytelcpkjclcimbaa
open Go.RowKit
set_option linter.unusedVariables false
attribute [local irreducible] aw opsK dK

theorem insideL_zero {k : Int} : ∀ {l : List Fm}, (∀ a ∈ l, insideM k a = 0) → insideL k l = 0
  | [], _ => rfl
  | a :: r, h => by simp only [insideL]; rw [if_pos (h a (by simp))]; exact insideL_zero fun b hb => h b (by simp [hb])
theorem fitsL_true {w : Int} : ∀ {l : List Fm}, (∀ a ∈ l, typeM a.op = w ∧ fitsM a = true) → fitsL w l = true
  | [], _ => rfl
  | a :: r, h => by
    simp only [fitsL]
    rw [decide_eq_true (h a (by simp)).1, (h a (by simp)).2, fitsL_true fun b hb => h b (by simp [hb])]
    rfl
theorem WfI.wf {op n : Int} {roles : List Int} {args : List Fm} (w : WfI op n roles args) : Wf (.mk op n roles args) := by
  have key : ∀ f : Fm, WfI f.op f.n f.roles f.args → Wf f := by
    intro f w
    have b1 : badArity f = false := by have := w.lo; have := w.hi; have := w.ar; simp [badArity]; omega
    have b2 : badForm f = false := by have := w.n0; have := w.least; have := w.most; simp [badForm]; omega
    have b3 : badN f = false := by have := w.nlo; have := w.nhi; simp [badN]; omega
    have b4 : inRange f.roles = true := List.all_eq_true.2 fun r hr => by have := w.rng r hr; simp; omega
    have hn : nodeM f = 0 := by simp [nodeM, b1, b2, b3, b4, w.nd]
    refine ⟨?_, ?_⟩
    · rw [insideM_eq, nodeK_zero, if_pos hn]
      exact insideL_zero fun a ha => (w.arg a ha).1.1
    · rw [fitsM_eq]
      exact fitsL_true fun a ha => ⟨(w.arg a ha).2, (w.arg a ha).1.2⟩
  exact key (.mk op n roles args) w

mutual
theorem lowL_cells (k : IntKind) : ∀ f : Fm, lowL (cellsK k f) = cellsK k f
  | .mk op n roles args => by
    simp only [cellsK, lowL, PV.low]
    rw [lowLL_cells k args]
    have : lowLL (nums roles) = nums roles := by simp [nums, lowLL_eq, lowL, PV.low]
    rw [this]
theorem lowLL_cells (k : IntKind) : ∀ l : List Fm, lowLL (cellsKL k l) = cellsKL k l
  | [] => rfl
  | a :: r => by simp only [cellsKL, lowLL]; rw [lowL_cells k a, lowLL_cells k r]
end
theorem lowL_fC (k : IntKind) (f : Fm) : lowL (fC k f) = cellsK k f := by rw [← cellsK_eq, lowL_cells]
theorem lowLL_nums (l : List Int) : lowLL (nums l) = nums l := by simp [nums, lowLL_eq, lowL, PV.low]

/-- Bytes, and a source of them. -/
def bys (l : List Nat) : List (List PV) := l.map fun (x : Nat) => [.val (.int .u8 (x : Int))]
def Bytes (l : List Nat) : Prop := ∀ x ∈ l, x ≤ 255
def srcB (l : List Nat) (fl : Bool) (t : Nat) : Bx := ⟨2, [[.vec (bys l) fl, .val (.int .i64 (t : Int))]]⟩
theorem bys_pure (l : List Nat) : pureLL (bys l) := pureLL_map _ _ fun _ _ => ⟨trivial, trivial⟩
theorem bys_inn (l : List Nat) (D : Nat → Prop) : innLL D (bys l) := innLL_mono (fun _ h => h.elim) _ (bys_pure l)
theorem srcB_pure (l : List Nat) (fl : Bool) (t : Nat) : pureLL (srcB l fl t).elems := ⟨⟨bys_pure l, trivial, trivial⟩, trivial⟩
theorem srcB_inn (l : List Nat) (fl : Bool) (t : Nat) (D : Nat → Prop) : innLL D (srcB l fl t).elems := innLL_mono (fun _ h => h.elim) _ (srcB_pure l fl t)

theorem next_spec (l : List Nat) (hl : Bytes l) (fl : Bool) (t : Nat) (ht : t ≤ 1099511627776) : PSpec Try.prog 28 (srcB l fl t) [] fun r b' => ∃ v : Nat, v ≤ 255 ∧ r = .val (.int .i64 (v : Int)) ∧ b' = srcB l fl (t + 1) := by
  refine pspec_intro ok28 (Nat.le_of_ble_eq_true rfl) fun C hC => ?_
  have hll : (bys l).length = l.length := by simp [bys]
  have hinc : IntKind.i64.wrap ((t : Int) + 1) = ((t + 1 : Nat) : Int) := IntWalk.i64_in _ ⟨by omega, by omega⟩
  have hdec : IntKind.i64.wrap (((t + 1 : Nat) : Int) - 1) = (t : Int) := by rw [show ((t + 1 : Nat) : Int) - 1 = (t : Int) by omega]; exact wrap_nat _ (by omega)
  iterate 10 (first
    | refine aw_seq ?_
    | refine aw_region ?_
    | refine aw_draw [] ?_
    | refine opsK_done ?_
    | refine opsK_on rfl ?_
    | refine opsK_off rfl ?_
    | (refine opsK_bool rfl rfl rfl (fun hb => ?_) (fun hb => ?_) <;> try cases hb)
    | refine opsK_of rfl rfl rfl ?_
    | refine opsK_new rfl rfl rfl ?_
    | refine dK_done ?_
    | refine dK_on rfl ?_
    | refine dK_off ⟨_, rfl, nofun⟩ ?_
    | (refine dK_bool rfl rfl rfl (fun hb => ?_) (fun hb => ?_) <;> try cases hb)
    | refine dK_of rfl rfl rfl ?_
    | refine aw_condT rfl ?_
    | refine aw_condF rfl ?_
    | (refine aw_cond rfl (fun hb => ?_) (fun hb => ?_) <;> try cases hb)
    | refine aw_block ?_
    | refine aw_skip ?_
    | refine aw_exit ?_
    | refine aw_ret ?_)
  refine opsK_int rfl rfl rfl hinc ?_
  repeat' (first
    | refine aw_seq ?_
    | refine aw_region ?_
    | refine aw_draw [] ?_
    | refine opsK_done ?_
    | refine opsK_on rfl ?_
    | refine opsK_off rfl ?_
    | (refine opsK_bool rfl rfl rfl (fun hb => ?_) (fun hb => ?_) <;> try cases hb)
    | refine opsK_of rfl rfl rfl ?_
    | refine opsK_new rfl rfl rfl ?_
    | refine dK_done ?_
    | refine dK_on rfl ?_
    | refine dK_off ⟨_, rfl, nofun⟩ ?_
    | (refine dK_bool rfl rfl rfl (fun hb => ?_) (fun hb => ?_) <;> try cases hb)
    | refine dK_of rfl rfl rfl ?_
    | refine aw_condT rfl ?_
    | refine aw_condF rfl ?_
    | (refine aw_cond rfl (fun hb => ?_) (fun hb => ?_) <;> try cases hb)
    | refine aw_block ?_
    | refine aw_skip ?_
    | refine aw_exit ?_
    | refine aw_ret ?_)
  · refine ret_p rfl trivial rfl (srcB_pure l fl (t + 1)) ⟨0, by omega, rfl, rfl⟩
  · have htl : t < l.length := by simp [hll] at hb; omega
    rw [hdec]
    refine dK_of (E_iaddr (xs := l) rfl rfl t rfl htl rfl) rfl rfl ?_
    repeat' (first
      | refine aw_seq ?_
      | refine aw_region ?_
      | refine aw_draw [] ?_
      | refine opsK_done ?_
      | refine opsK_on rfl ?_
      | refine opsK_off rfl ?_
      | (refine opsK_bool rfl rfl rfl (fun hb => ?_) (fun hb => ?_) <;> try cases hb)
      | refine opsK_of rfl rfl rfl ?_
      | refine opsK_new rfl rfl rfl ?_
      | refine dK_done ?_
      | refine dK_on rfl ?_
      | refine dK_off ⟨_, rfl, nofun⟩ ?_
      | (refine dK_bool rfl rfl rfl (fun hb => ?_) (fun hb => ?_) <;> try cases hb)
      | refine dK_of rfl rfl rfl ?_
      | refine aw_condT rfl ?_
      | refine aw_condF rfl ?_
      | (refine aw_cond rfl (fun hb => ?_) (fun hb => ?_) <;> try cases hb)
      | refine aw_block ?_
      | refine aw_skip ?_
      | refine aw_exit ?_
      | refine aw_ret ?_)
    have hx := hl l[t] (List.getElem_mem _)
    refine ret_p rfl trivial rfl (srcB_pure l fl (t + 1)) ⟨l[t], hx, ?_, rfl⟩
    rw [wrap_nat _ (by omega)]
end Go.Proofs.Ytelcpkjclcimbaa
