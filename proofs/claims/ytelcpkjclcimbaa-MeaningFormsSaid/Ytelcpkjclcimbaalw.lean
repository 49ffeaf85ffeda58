/-
  What the laws answer: MeaningHolds. No statement of the seat is proved here.
-/
import Derived.Test.YtelcpkjclcimbaaIrj
import Derived.Test.Ytelcpkjclcimbaaaw
namespace Go.Proofs.Ytelcpkjclcimbaa
open Go.RowKit
set_option linter.unusedVariables false
attribute [local irreducible] aw opsK dK

theorem cntM_bits {N s : Nat} : ∀ {l : List Int}, (∀ r ∈ l, N.testBit r.toNat = s.testBit r.toNat) → cntM N l = cntM s l := by
  intro l
  induction l with
  | nil => intro _; rfl
  | cons a r ih =>
    intro h
    have := ih fun x hx => h x (by simp [hx])
    simp only [cntM, List.map_cons, List.sum_cons] at *
    rw [h a (by simp), this]
/-- The value of a formula looks at the roles 1 to 63 alone. -/
theorem evM_bits {N s : Nat} (ms : List Int) (h : ∀ i : Nat, 1 ≤ i → i ≤ 63 → N.testBit i = s.testBit i) : ∀ (d : Nat) (f : Fm), f.depth ≤ d → Wf f → evM N ms f = evM s ms f := by
  intro d
  induction d with
  | zero => intro f hf; rw [Fm.depth_eq] at hf; omega
  | succ d ih =>
    rintro ⟨op, n, roles, args⟩ hf hw
    have w := hw.inv
    have hargs : evL N ms args = evL s ms args := by
      have hd : depthL args ≤ d := by have := (Fm.mk op n roles args).depth_eq; simp only [Fm.args] at this; omega
      have : ∀ l : List Fm, (∀ a ∈ l, a ∈ args) → evL N ms l = evL s ms l := by
        intro l
        induction l with
        | nil => intro _; rfl
        | cons a r ihl =>
          intro hl
          obtain ⟨i, hi, he⟩ := List.getElem_of_mem (hl a (by simp))
          have := depthL_mem hi
          simp only [evL]
          rw [ih a (by rw [← he]; omega) (w.arg a (hl a (by simp))).1, ihl fun x hx => hl x (by simp [hx])]
      exact this args fun _ h => h
    have hc : cntM N roles = cntM s roles := cntM_bits fun r hr => by
      have := w.rng r hr
      exact h r.toNat (by omega) (by omega)
    simp only [evM, opM, hargs, hc]
theorem evM_low (s : Nat) (ms : List Int) {f : Fm} (hw : Wf f) : evM (lowN s 64) ms f = evM s ms f := evM_bits ms (fun i h1 h2 => by rw [lowN_bit, decide_eq_true (show 1 ≤ i ∧ i < 64 by omega), Bool.true_and]) f.depth f (Nat.le_refl _) hw

/-- The program and the specification answer the same. -/
theorem holds_same (s : Nat) (ms : List Int) (f : Fm) : (decide (typeOfE f = 0) && decide (typeOfT f = 1) && decide (evM (lowN s 64) ms f = 1)) = (decide (typeOfE f = 0) && decide (typeOfT f = 1) && decide (evM s ms f = 1)) := by
  by_cases h : typeOfE f = 0
  · rw [evM_low s ms (typeOf_wf h).1]
  · simp [h]

theorem bytes_shape {p : PV} (h : ShapeV Try.prog 22 p) : ∃ l fl, Bytes l ∧ p = .vec (bys l) fl := by
  obtain ⟨n', ll, fl, _, h2, rfl⟩ := shapeV_slice h (e := 5) (by kernel_rfl)
  obtain ⟨ms, h3, rfl⟩ := shape_ints h2 (k := .u8) (by kernel_rfl)
  have hr : ∀ m ∈ ms, 0 ≤ m ∧ m ≤ 255 := fun m hm => by
    have := h3 m hm
    simp only [Lit.wf, Bool.and_eq_true, decide_eq_true_eq] at this
    exact this
  refine ⟨ms.map Int.toNat, fl, fun x hx => ?_, ?_⟩
  · obtain ⟨m, hm, rfl⟩ := List.mem_map.1 hx
    have := hr m hm; omega
  · have : bys (ms.map Int.toNat) = ms.map fun m => [PV.val (Value.int .u8 m)] := by
      unfold bys
      rw [List.map_map]
      refine List.map_congr_left fun m hm => ?_
      have := hr m hm
      simp only [Function.comp]
      rw [Int.toNat_of_nonneg this.1]
    rw [this]
theorem asked_shape {p : PV} (h : ShapeV Try.prog 26 p) : ∃ (s : Nat) (ms : List Int) (fl : Bool), s < 18446744073709551616 ∧ p = .agg [.val (.int .u64 (s : Int)), .vec (nums ms) fl] := by
  obtain ⟨n, ps, rfl, hs⟩ := shapeV_struct h (k := 2) (by kernel_rfl)
  have hl := shape_len hs (k := 2) (by kernel_rfl)
  obtain ⟨n1, h1⟩ := shape_field hs (i := 0) (off := 0) (ty := 23) (sz := 1) (by kernel_rfl)
  obtain ⟨n2, h2⟩ := shape_field hs (i := 1) (off := 1) (ty := 24) (sz := 1) (by kernel_rfl)
  match ps, hl with
  | [a, b], _ =>
    obtain ⟨m, hm, ha⟩ := shape_int (show Shape _ n1 23 [a] from h1) (k := .u64) (by kernel_rfl)
    obtain ⟨n', ll, fl, _, h3, hb⟩ := shape_slice (show Shape _ n2 24 [b] from h2) (e := 3) (by kernel_rfl)
    obtain ⟨ms, _, rfl⟩ := shape_ints h3 (k := .i64) (by kernel_rfl)
    have hr : 0 ≤ m ∧ m ≤ 18446744073709551615 := by
      simp only [Lit.wf, Bool.and_eq_true, decide_eq_true_eq] at hm
      exact hm
    refine ⟨m.toNat, ms, fl, by omega, ?_⟩
    simp only [List.cons.injEq, and_true] at ha hb
    rw [ha, hb, Int.toNat_of_nonneg hr.1]
    rfl

theorem meaningHolds_spec : ∀ ps, ShapeVs Try.prog Try.f3.params.toList ps → pureL ps → Spec Try.prog 3 ps (· = .val (.bool true)) := by
  intro ps hs hp
  rw [show Try.f3.params.toList = [22, 5, 26] by kernel_rfl] at hs
  match ps, hs with
  | [a, b, c], ⟨ha, hb, hc, _⟩ =>
    obtain ⟨l, fl, hl, rfl⟩ := bytes_shape ha
    obtain ⟨k, _, rfl⟩ := shapeV_int hb (k := .u8) (by kernel_rfl)
    obtain ⟨s, ms, fl2, hs, rfl⟩ := asked_shape hc
    refine spec_intro ok3 (Nat.le_of_ble_eq_true rfl) fun C hC => ?_
    refine aw_seq ?_
    refine aw_region ?_
    refine opsK_ofAlt rfl rfl rfl ?_
    repeat' (first
      | refine aw_seq ?_
      | refine aw_region ?_
      | refine aw_draw [] ?_
      | refine opsK_done ?_
      | refine opsK_on rfl ?_
      | refine opsK_off rfl ?_
      | (refine opsK_bool rfl rfl rfl (fun hb => ?_) (fun hb => ?_) <;> try cases hb)
      | refine opsK_of rfl rfl rfl ?_
      | refine opsK_new rfl rfl rfl ?_
      | refine dK_done ?_
      | refine dK_on rfl ?_
      | refine dK_off ⟨_, rfl, nofun⟩ ?_
      | (refine dK_bool rfl rfl rfl (fun hb => ?_) (fun hb => ?_) <;> try cases hb)
      | refine dK_of rfl rfl rfl ?_
      | refine aw_condT rfl ?_
      | refine aw_condF rfl ?_
      | (refine aw_cond rfl (fun hb => ?_) (fun hb => ?_) <;> try cases hb)
      | refine aw_block ?_
      | refine aw_skip ?_
      | refine aw_exit ?_
      | refine aw_ret ?_)
    refine opsK_eq awake_spec rfl rfl rfl trivial rfl ?_
    repeat' (first
      | refine aw_seq ?_
      | refine aw_region ?_
      | refine aw_draw [] ?_
      | refine opsK_done ?_
      | refine opsK_on rfl ?_
      | refine opsK_off rfl ?_
      | (refine opsK_bool rfl rfl rfl (fun hb => ?_) (fun hb => ?_) <;> try cases hb)
      | refine opsK_of rfl rfl rfl ?_
      | refine opsK_new rfl rfl rfl ?_
      | refine dK_done ?_
      | refine dK_on rfl ?_
      | refine dK_off ⟨_, rfl, nofun⟩ ?_
      | (refine dK_bool rfl rfl rfl (fun hb => ?_) (fun hb => ?_) <;> try cases hb)
      | refine dK_of rfl rfl rfl ?_
      | refine aw_condT rfl ?_
      | refine aw_condF rfl ?_
      | (refine aw_cond rfl (fun hb => ?_) (fun hb => ?_) <;> try cases hb)
      | refine aw_block ?_
      | refine aw_skip ?_
      | refine aw_exit ?_
      | refine aw_ret ?_)
    refine opsK_spec rfl rfl (make18_spec l hl fl _) ⟨bys_pure l, trivial, trivial, trivial⟩ rfl ?_
    rintro r ⟨f, wf, tf, df, sf, rfl⟩
    repeat' (first
      | refine aw_seq ?_
      | refine aw_region ?_
      | refine aw_draw [] ?_
      | refine opsK_done ?_
      | refine opsK_on rfl ?_
      | refine opsK_off rfl ?_
      | (refine opsK_bool rfl rfl rfl (fun hb => ?_) (fun hb => ?_) <;> try cases hb)
      | refine opsK_of rfl rfl rfl ?_
      | refine opsK_new rfl rfl rfl ?_
      | refine dK_done ?_
      | refine dK_on rfl ?_
      | refine dK_off ⟨_, rfl, nofun⟩ ?_
      | (refine dK_bool rfl rfl rfl (fun hb => ?_) (fun hb => ?_) <;> try cases hb)
      | refine dK_of rfl rfl rfl ?_
      | refine aw_condT rfl ?_
      | refine aw_condF rfl ?_
      | (refine aw_cond rfl (fun hb => ?_) (fun hb => ?_) <;> try cases hb)
      | refine aw_block ?_
      | refine aw_skip ?_
      | refine aw_exit ?_
      | refine aw_ret ?_)
    refine dK_eq (formula_spec 4 f (wf.nice 4 f df)) rfl rfl rfl ⟨fC_pure _ _, trivial⟩ ?_
    repeat' (first
      | refine aw_seq ?_
      | refine aw_region ?_
      | refine aw_draw [] ?_
      | refine opsK_done ?_
      | refine opsK_on rfl ?_
      | refine opsK_off rfl ?_
      | (refine opsK_bool rfl rfl rfl (fun hb => ?_) (fun hb => ?_) <;> try cases hb)
      | refine opsK_of rfl rfl rfl ?_
      | refine opsK_new rfl rfl rfl ?_
      | refine dK_done ?_
      | refine dK_on rfl ?_
      | refine dK_off ⟨_, rfl, nofun⟩ ?_
      | (refine dK_bool rfl rfl rfl (fun hb => ?_) (fun hb => ?_) <;> try cases hb)
      | refine dK_of rfl rfl rfl ?_
      | refine aw_condT rfl ?_
      | refine aw_condF rfl ?_
      | (refine aw_cond rfl (fun hb => ?_) (fun hb => ?_) <;> try cases hb)
      | refine aw_block ?_
      | refine aw_skip ?_
      | refine aw_exit ?_
      | refine aw_ret ?_)
    refine dK_eq (set10_spec s hs) rfl rfl rfl ⟨trivial, trivial⟩ ?_
    repeat' (first
      | refine aw_seq ?_
      | refine aw_region ?_
      | refine aw_draw [] ?_
      | refine opsK_done ?_
      | refine opsK_on rfl ?_
      | refine opsK_off rfl ?_
      | (refine opsK_bool rfl rfl rfl (fun hb => ?_) (fun hb => ?_) <;> try cases hb)
      | refine opsK_of rfl rfl rfl ?_
      | refine opsK_new rfl rfl rfl ?_
      | refine dK_done ?_
      | refine dK_on rfl ?_
      | refine dK_off ⟨_, rfl, nofun⟩ ?_
      | (refine dK_bool rfl rfl rfl (fun hb => ?_) (fun hb => ?_) <;> try cases hb)
      | refine dK_of rfl rfl rfl ?_
      | refine aw_condT rfl ?_
      | refine aw_condF rfl ?_
      | (refine aw_cond rfl (fun hb => ?_) (fun hb => ?_) <;> try cases hb)
      | refine aw_block ?_
      | refine aw_skip ?_
      | refine aw_exit ?_
      | refine aw_ret ?_)
    refine dK_eq (holds_spec (lowN s 64) ms fl2 f (by omega) (by omega)) rfl rfl rfl ⟨fC_pure _ _, setN_pure _, nums_pure _, trivial⟩ ?_
    repeat' (first
      | refine aw_seq ?_
      | refine aw_region ?_
      | refine aw_draw [] ?_
      | refine opsK_done ?_
      | refine opsK_on rfl ?_
      | refine opsK_off rfl ?_
      | (refine opsK_bool rfl rfl rfl (fun hb => ?_) (fun hb => ?_) <;> try cases hb)
      | refine opsK_of rfl rfl rfl ?_
      | refine opsK_new rfl rfl rfl ?_
      | refine dK_done ?_
      | refine dK_on rfl ?_
      | refine dK_off ⟨_, rfl, nofun⟩ ?_
      | (refine dK_bool rfl rfl rfl (fun hb => ?_) (fun hb => ?_) <;> try cases hb)
      | refine dK_of rfl rfl rfl ?_
      | refine aw_condT rfl ?_
      | refine aw_condF rfl ?_
      | (refine aw_cond rfl (fun hb => ?_) (fun hb => ?_) <;> try cases hb)
      | refine aw_block ?_
      | refine aw_skip ?_
      | refine aw_exit ?_
      | refine aw_ret ?_)
    refine dK_eq (holdsR_spec s ms fl2 f (by omega) (by omega)) rfl rfl rfl ⟨fC_pure _ _, trivial, nums_pure _, trivial⟩ ?_
    rw [holds_same]
    generalize (decide (typeOfE f = 0) && decide (typeOfT f = 1) && decide (evM s ms f = 1)) = z
    refine dK_of (E_boolEq (v := true) rfl (by simp)) rfl rfl ?_
    repeat' (first
      | refine aw_seq ?_
      | refine aw_region ?_
      | refine aw_draw [] ?_
      | refine opsK_done ?_
      | refine opsK_on rfl ?_
      | refine opsK_off rfl ?_
      | (refine opsK_bool rfl rfl rfl (fun hb => ?_) (fun hb => ?_) <;> try cases hb)
      | refine opsK_of rfl rfl rfl ?_
      | refine opsK_new rfl rfl rfl ?_
      | refine dK_done ?_
      | refine dK_on rfl ?_
      | refine dK_off ⟨_, rfl, nofun⟩ ?_
      | (refine dK_bool rfl rfl rfl (fun hb => ?_) (fun hb => ?_) <;> try cases hb)
      | refine dK_of rfl rfl rfl ?_
      | refine aw_condT rfl ?_
      | refine aw_condF rfl ?_
      | (refine aw_cond rfl (fun hb => ?_) (fun hb => ?_) <;> try cases hb)
      | refine aw_block ?_
      | refine aw_skip ?_
      | refine aw_exit ?_
      | refine aw_ret ?_)
    exact ret_ok rfl trivial rfl
end Go.Proofs.Ytelcpkjclcimbaa
