/-
  The program's formulas: the errors of all operators, and the type. No statement of the seat is proved here.
-/
import Derived.Test.Ytelcpkjclcimbaand
namespace Go.Proofs.Ytelcpkjclcimbaa
open Go.RowKit
set_option linter.unusedVariables false
attribute [local irreducible] aw opsK dK

theorem inside_spec (k : Int) : ∀ (d : Nat) (f : Fm), f.depth ≤ d → f.size ≤ 1099511627776 → Spec Try.prog 45 [.agg (fC .u8 f), .val (.int .u8 k)] (· = .val (.int .i64 (insideM k f))) := by
  intro d
  induction d with
  | zero => intro f hf; rw [Fm.depth_eq] at hf; omega
  | succ d ih =>
    intro f hf hsz
    have hll : (f.args.map (cellsK .u8)).length = f.args.length := by simp
    have hfd := f.depth_eq
    have hfs := f.size_eq
    have hlm := length_le_size f.args
    have hpu := fC_inn .u8 f (· < 0)
    refine spec_intro ok45 (Nat.le_of_ble_eq_true rfl) fun C hC => ?_
    refine aw_seq ?_
    refine aw_region ?_
    refine opsK_ofAlt rfl rfl rfl ?_
    refine opsK_of rfl rfl rfl ?_
    refine opsK_done ?_
    refine aw_cut hC (nodeM f = 0) 0 [(1, .val (.int .u8 k)), (2, .cp (fC .u8 f))] [] (Nat.le_refl _) ?_ fun hz => ?_
    · repeat' (first
      | refine aw_seq ?_
      | refine aw_region ?_
      | refine aw_draw [] ?_
      | refine opsK_done ?_
      | refine opsK_on rfl ?_
      | refine opsK_off rfl ?_
      | (refine opsK_bool rfl rfl rfl (fun hb => ?_) (fun hb => ?_) <;> try cases hb)
      | refine opsK_of rfl rfl rfl ?_
      | refine opsK_new rfl rfl rfl ?_
      | refine dK_done ?_
      | refine dK_on rfl ?_
      | refine dK_off ⟨_, rfl, nofun⟩ ?_
      | (refine dK_bool rfl rfl rfl (fun hb => ?_) (fun hb => ?_) <;> try cases hb)
      | refine dK_of rfl rfl rfl ?_
      | refine aw_condT rfl ?_
      | refine aw_condF rfl ?_
      | (refine aw_cond rfl (fun hb => ?_) (fun hb => ?_) <;> try cases hb)
      | refine aw_block ?_
      | refine aw_skip ?_
      | refine aw_exit ?_
      | refine aw_ret ?_)
      refine opsK_eq (node_spec f (by omega)) rfl rfl rfl ⟨fC_pure _ _, trivial⟩ rfl ?_
      repeat' (first
        | refine aw_seq ?_
        | refine aw_region ?_
        | refine aw_draw [] ?_
        | refine opsK_done ?_
        | refine opsK_on rfl ?_
        | refine opsK_off rfl ?_
        | (refine opsK_bool rfl rfl rfl (fun hb => ?_) (fun hb => ?_) <;> try cases hb)
        | refine opsK_of rfl rfl rfl ?_
        | refine opsK_new rfl rfl rfl ?_
        | refine dK_done ?_
        | refine dK_on rfl ?_
        | refine dK_off ⟨_, rfl, nofun⟩ ?_
        | (refine dK_bool rfl rfl rfl (fun hb => ?_) (fun hb => ?_) <;> try cases hb)
        | refine dK_of rfl rfl rfl ?_
        | refine aw_condT rfl ?_
        | refine aw_condF rfl ?_
        | (refine aw_cond rfl (fun hb => ?_) (fun hb => ?_) <;> try cases hb)
        | refine aw_block ?_
        | refine aw_skip ?_
        | refine aw_exit ?_
        | refine aw_ret ?_)
      · refine ret_ok rfl trivial ?_
        have hne : nodeM f ≠ 0 := by simpa using hb
        rw [insideM_eq, nodeK, if_neg hne, if_neg hne]
      · exact ⟨by simpa using hb, ⟨⟨rfl, trivial⟩, ⟨rfl, hpu⟩, trivial⟩, trivial⟩
    refine aw_cut hC True 0 [(1, .val (.int .u8 k)), (2, .cp (fC .u8 f)), (6, .val (.bool (decide (f.op = 4) || decide (f.op = 5))))] [] (Nat.le_refl _) ?_ fun _ => ?_
    · repeat' (first
      | refine aw_seq ?_
      | refine aw_region ?_
      | refine aw_draw [] ?_
      | refine opsK_done ?_
      | refine opsK_on rfl ?_
      | refine opsK_off rfl ?_
      | (refine opsK_bool rfl rfl rfl (fun hb => ?_) (fun hb => ?_) <;> try cases hb)
      | refine opsK_of rfl rfl rfl ?_
      | refine opsK_new rfl rfl rfl ?_
      | refine dK_done ?_
      | refine dK_on rfl ?_
      | refine dK_off ⟨_, rfl, nofun⟩ ?_
      | (refine dK_bool rfl rfl rfl (fun hb => ?_) (fun hb => ?_) <;> try cases hb)
      | refine dK_of rfl rfl rfl ?_
      | refine aw_condT rfl ?_
      | refine aw_condF rfl ?_
      | (refine aw_cond rfl (fun hb => ?_) (fun hb => ?_) <;> try cases hb)
      | refine aw_block ?_
      | refine aw_skip ?_
      | refine aw_exit ?_
      | refine aw_ret ?_)
      all_goals
        simp at hb
        refine ⟨trivial, ⟨⟨rfl, trivial⟩, ⟨rfl, hpu⟩, ⟨?_, trivial⟩, trivial⟩, trivial⟩
        show some (PV.val (Value.bool _)) = _
        simp_all
    refine aw_cut hC (badKind k f.op = false) 0 [(1, .val (.int .u8 k)), (2, .cp (fC .u8 f))] [] (Nat.le_refl _) ?_ fun hk => ?_
    · repeat' (first
      | refine aw_seq ?_
      | refine aw_region ?_
      | refine aw_draw [] ?_
      | refine opsK_done ?_
      | refine opsK_on rfl ?_
      | refine opsK_off rfl ?_
      | (refine opsK_bool rfl rfl rfl (fun hb => ?_) (fun hb => ?_) <;> try cases hb)
      | refine opsK_of rfl rfl rfl ?_
      | refine opsK_new rfl rfl rfl ?_
      | refine dK_done ?_
      | refine dK_on rfl ?_
      | refine dK_off ⟨_, rfl, nofun⟩ ?_
      | (refine dK_bool rfl rfl rfl (fun hb => ?_) (fun hb => ?_) <;> try cases hb)
      | refine dK_of rfl rfl rfl ?_
      | refine aw_condT rfl ?_
      | refine aw_condF rfl ?_
      | (refine aw_cond rfl (fun hb => ?_) (fun hb => ?_) <;> try cases hb)
      | refine aw_block ?_
      | refine aw_skip ?_
      | refine aw_exit ?_
      | refine aw_ret ?_)
      all_goals first
        | (refine ⟨?_, ⟨⟨rfl, trivial⟩, ⟨rfl, hpu⟩, trivial⟩, trivial⟩
           simp at *
           simp_all [badKind]
           done)
        | (refine ret_ok rfl trivial ?_
           simp at *
           simp_all [insideM_eq, nodeK, badKind, pvOf]
           done)
    have hz' : nodeK k f = 0 := by rw [nodeK, if_pos hz, hk]; rfl
    repeat' (first
      | refine aw_seq ?_
      | refine aw_region ?_
      | refine aw_draw [] ?_
      | refine opsK_done ?_
      | refine opsK_on rfl ?_
      | refine opsK_off rfl ?_
      | (refine opsK_bool rfl rfl rfl (fun hb => ?_) (fun hb => ?_) <;> try cases hb)
      | refine opsK_of rfl rfl rfl ?_
      | refine opsK_new rfl rfl rfl ?_
      | refine dK_done ?_
      | refine dK_on rfl ?_
      | refine dK_off ⟨_, rfl, nofun⟩ ?_
      | (refine dK_bool rfl rfl rfl (fun hb => ?_) (fun hb => ?_) <;> try cases hb)
      | refine dK_of rfl rfl rfl ?_
      | refine aw_condT rfl ?_
      | refine aw_condF rfl ?_
      | (refine aw_cond rfl (fun hb => ?_) (fun hb => ?_) <;> try cases hb)
      | refine aw_block ?_
      | refine aw_skip ?_
      | refine aw_exit ?_
      | refine aw_ret ?_)
    refine aw_loopH hC (fun i => i ≤ f.args.length ∧ insideL k (f.args.take i) = 0) (fun i => f.args.length - i) 0 (fun i => [(1, .val (.int .u8 k)), (42, .vec (f.args.map (cellsK .u8)) false), (43, .val (.int .i64 f.args.length)), (44, .val (.int .i64 (i : Int)))]) (fun _ => []) (Nat.le_refl _) 0 ⟨Nat.zero_le _, rfl⟩
      ⟨⟨rfl, trivial⟩, ⟨rfl, fArgs_inn _ _ _⟩, ⟨by rw [← hll]; rfl, trivial⟩, ⟨rfl, trivial⟩, trivial⟩ trivial ?_
    rintro i ⟨hi, hin⟩
    have hinc : IntKind.i64.wrap ((i : Int) + 1) = ((i + 1 : Nat) : Int) := IntWalk.i64_in _ ⟨by omega, by omega⟩
    repeat' (first
      | refine aw_seq ?_
      | refine aw_region ?_
      | refine aw_draw [] ?_
      | refine opsK_done ?_
      | refine opsK_on rfl ?_
      | refine opsK_off rfl ?_
      | (refine opsK_bool rfl rfl rfl (fun hb => ?_) (fun hb => ?_) <;> try cases hb)
      | refine opsK_of rfl rfl rfl ?_
      | refine opsK_new rfl rfl rfl ?_
      | refine dK_done ?_
      | refine dK_on rfl ?_
      | refine dK_off ⟨_, rfl, nofun⟩ ?_
      | (refine dK_bool rfl rfl rfl (fun hb => ?_) (fun hb => ?_) <;> try cases hb)
      | refine dK_of rfl rfl rfl ?_
      | refine aw_condT rfl ?_
      | refine aw_condF rfl ?_
      | (refine aw_cond rfl (fun hb => ?_) (fun hb => ?_) <;> try cases hb)
      | refine aw_block ?_
      | refine aw_skip ?_
      | refine aw_exit ?_
      | refine aw_ret ?_)
    · have hil : i < f.args.length := by simpa using hb
      refine opsK_of (E_iaddr (xs := f.args) rfl rfl i rfl hil (cellsK_length _ _)) rfl rfl ?_
      rw [cellsK_eq]
      repeat' (first
        | refine aw_seq ?_
        | refine aw_region ?_
        | refine aw_draw [] ?_
        | refine opsK_done ?_
        | refine opsK_on rfl ?_
        | refine opsK_off rfl ?_
        | (refine opsK_bool rfl rfl rfl (fun hb => ?_) (fun hb => ?_) <;> try cases hb)
        | refine opsK_of rfl rfl rfl ?_
        | refine opsK_new rfl rfl rfl ?_
        | refine dK_done ?_
        | refine dK_on rfl ?_
        | refine dK_off ⟨_, rfl, nofun⟩ ?_
        | (refine dK_bool rfl rfl rfl (fun hb => ?_) (fun hb => ?_) <;> try cases hb)
        | refine dK_of rfl rfl rfl ?_
        | refine aw_condT rfl ?_
        | refine aw_condF rfl ?_
        | (refine aw_cond rfl (fun hb => ?_) (fun hb => ?_) <;> try cases hb)
        | refine aw_block ?_
        | refine aw_skip ?_
        | refine aw_exit ?_
        | refine aw_ret ?_)
      have hdl := depthL_mem hil
      have hsl := sizeL_mem hil
      refine opsK_eq (ih f.args[i] (by omega) (by omega)) rfl rfl rfl ⟨fC_pure _ _, trivial, trivial⟩ rfl ?_
      repeat' (first
        | refine aw_seq ?_
        | refine aw_region ?_
        | refine aw_draw [] ?_
        | refine opsK_done ?_
        | refine opsK_on rfl ?_
        | refine opsK_off rfl ?_
        | (refine opsK_bool rfl rfl rfl (fun hb => ?_) (fun hb => ?_) <;> try cases hb)
        | refine opsK_of rfl rfl rfl ?_
        | refine opsK_new rfl rfl rfl ?_
        | refine dK_done ?_
        | refine dK_on rfl ?_
        | refine dK_off ⟨_, rfl, nofun⟩ ?_
        | (refine dK_bool rfl rfl rfl (fun hb => ?_) (fun hb => ?_) <;> try cases hb)
        | refine dK_of rfl rfl rfl ?_
        | refine aw_condT rfl ?_
        | refine aw_condF rfl ?_
        | (refine aw_cond rfl (fun hb => ?_) (fun hb => ?_) <;> try cases hb)
        | refine aw_block ?_
        | refine aw_skip ?_
        | refine aw_exit ?_
        | refine aw_ret ?_)
      · refine ret_ok rfl trivial ?_
        have hne : insideM k f.args[i] ≠ 0 := by simpa using hb
        rw [insideM_eq k f, if_pos hz', insideL_bad hil hin hne]
      · refine ⟨i + 1, ⟨by omega, ?_⟩, by omega, ⟨⟨rfl, trivial⟩, ⟨rfl, fArgs_inn _ _ _⟩, ⟨rfl, trivial⟩, ⟨by show some _ = some _; rw [hinc], trivial⟩, trivial⟩, trivial⟩
        rw [insideL_take hil hin]
        simpa using hb
    · have hil : i = f.args.length := by simp at hb; omega
      subst hil
      rw [List.take_length] at hin
      exact ret_ok rfl trivial (by rw [insideM_eq, if_pos hz', hin]; rfl)

def lookM (k : Int) (f : Fm) : Int := if f.depth > 10 ∨ f.size > 200 then 3 else insideM k f
theorem look_spec (k : Int) (f : Fm) (hd : f.depth ≤ 1000) (hsz : f.size ≤ 1099511627776) : Spec Try.prog 30 [.agg (fC .u8 f), .val (.int .u8 k)] (· = .val (.int .i64 (lookM k f))) := by
  refine spec_intro ok30 (Nat.le_of_ble_eq_true rfl) fun C hC => ?_
  refine aw_seq ?_
  refine aw_region ?_
  refine opsK_ofAlt rfl rfl rfl ?_
  repeat' (first
    | refine aw_seq ?_
    | refine aw_region ?_
    | refine aw_draw [] ?_
    | refine opsK_done ?_
    | refine opsK_on rfl ?_
    | refine opsK_off rfl ?_
    | (refine opsK_bool rfl rfl rfl (fun hb => ?_) (fun hb => ?_) <;> try cases hb)
    | refine opsK_of rfl rfl rfl ?_
    | refine opsK_new rfl rfl rfl ?_
    | refine dK_done ?_
    | refine dK_on rfl ?_
    | refine dK_off ⟨_, rfl, nofun⟩ ?_
    | (refine dK_bool rfl rfl rfl (fun hb => ?_) (fun hb => ?_) <;> try cases hb)
    | refine dK_of rfl rfl rfl ?_
    | refine aw_condT rfl ?_
    | refine aw_condF rfl ?_
    | (refine aw_cond rfl (fun hb => ?_) (fun hb => ?_) <;> try cases hb)
    | refine aw_block ?_
    | refine aw_skip ?_
    | refine aw_exit ?_
    | refine aw_ret ?_)
  refine opsK_eq (measure_spec f.depth f (Nat.le_refl _) hd hsz) rfl rfl rfl ⟨fC_pure _ _, trivial⟩ rfl ?_
  have main : ¬ f.depth > 10 → ¬ f.size > 200 → lookM k f = insideM k f := fun h1 h2 => by simp [lookM, h1, h2]
  repeat' (first
    | refine aw_seq ?_
    | refine aw_region ?_
    | refine aw_draw [] ?_
    | refine opsK_done ?_
    | refine opsK_on rfl ?_
    | refine opsK_off rfl ?_
    | (refine opsK_bool rfl rfl rfl (fun hb => ?_) (fun hb => ?_) <;> try cases hb)
    | refine opsK_of rfl rfl rfl ?_
    | refine opsK_new rfl rfl rfl ?_
    | refine dK_done ?_
    | refine dK_on rfl ?_
    | refine dK_off ⟨_, rfl, nofun⟩ ?_
    | (refine dK_bool rfl rfl rfl (fun hb => ?_) (fun hb => ?_) <;> try cases hb)
    | refine dK_of rfl rfl rfl ?_
    | refine aw_condT rfl ?_
    | refine aw_condF rfl ?_
    | (refine aw_cond rfl (fun hb => ?_) (fun hb => ?_) <;> try cases hb)
    | refine aw_block ?_
    | refine aw_skip ?_
    | refine aw_exit ?_
    | refine aw_ret ?_)
  · exact ret_ok rfl trivial (by simp at hb; simp [lookM, show f.depth > 10 by omega, pvOf])
  · exact ret_ok rfl trivial (by simp at hb; simp [lookM, show f.size > 200 by omega, pvOf])
  · rename_i h1
    refine opsK_eq (inside_spec k f.depth f (Nat.le_refl _) hsz) rfl rfl rfl ⟨fC_pure _ _, trivial, trivial⟩ rfl ?_
    repeat' (first
      | refine aw_seq ?_
      | refine aw_region ?_
      | refine aw_draw [] ?_
      | refine opsK_done ?_
      | refine opsK_on rfl ?_
      | refine opsK_off rfl ?_
      | (refine opsK_bool rfl rfl rfl (fun hb => ?_) (fun hb => ?_) <;> try cases hb)
      | refine opsK_of rfl rfl rfl ?_
      | refine opsK_new rfl rfl rfl ?_
      | refine dK_done ?_
      | refine dK_on rfl ?_
      | refine dK_off ⟨_, rfl, nofun⟩ ?_
      | (refine dK_bool rfl rfl rfl (fun hb => ?_) (fun hb => ?_) <;> try cases hb)
      | refine dK_of rfl rfl rfl ?_
      | refine aw_condT rfl ?_
      | refine aw_condF rfl ?_
      | (refine aw_cond rfl (fun hb => ?_) (fun hb => ?_) <;> try cases hb)
      | refine aw_block ?_
      | refine aw_skip ?_
      | refine aw_exit ?_
      | refine aw_ret ?_)
    exact ret_ok rfl trivial (by simp at hb h1; rw [main (by omega) (by omega)])

theorem typeOf_spec (f : Fm) (hd : f.depth ≤ 1000) (hsz : f.size ≤ 1099511627776) : Spec Try.prog 18 [.agg (fC .u8 f)] (· = .tup [.val (.int .u8 (typeOfT f)), .val (.int .i64 (typeOfE f))]) := by
  refine spec_intro ok18 (Nat.le_of_ble_eq_true rfl) fun C hC => ?_
  refine aw_seq ?_
  refine aw_region ?_
  refine opsK_ofAlt rfl rfl rfl ?_
  repeat' (first
    | refine aw_seq ?_
    | refine aw_region ?_
    | refine aw_draw [] ?_
    | refine opsK_done ?_
    | refine opsK_on rfl ?_
    | refine opsK_off rfl ?_
    | (refine opsK_bool rfl rfl rfl (fun hb => ?_) (fun hb => ?_) <;> try cases hb)
    | refine opsK_of rfl rfl rfl ?_
    | refine opsK_new rfl rfl rfl ?_
    | refine dK_done ?_
    | refine dK_on rfl ?_
    | refine dK_off ⟨_, rfl, nofun⟩ ?_
    | (refine dK_bool rfl rfl rfl (fun hb => ?_) (fun hb => ?_) <;> try cases hb)
    | refine dK_of rfl rfl rfl ?_
    | refine aw_condT rfl ?_
    | refine aw_condF rfl ?_
    | (refine aw_cond rfl (fun hb => ?_) (fun hb => ?_) <;> try cases hb)
    | refine aw_block ?_
    | refine aw_skip ?_
    | refine aw_exit ?_
    | refine aw_ret ?_)
  refine opsK_eq (look_spec 0 f hd hsz) rfl rfl rfl ⟨fC_pure _ _, trivial, trivial⟩ rfl ?_
  have h0 : lookM 0 f ≠ 0 → typeOfT f = 0 ∧ typeOfE f = lookM 0 f := fun h => by
    unfold typeOfT typeOfE
    unfold lookM at h ⊢
    split at h
    · rename_i h1; simp [h1]
    · rename_i h1; simp only [if_neg h1, if_neg h]; exact ⟨trivial, trivial⟩
  have h1 : lookM 0 f = 0 → typeOfT f = (if fitsM f then typeM f.op else 0) ∧ typeOfE f = if fitsM f then 0 else 10 := fun h => by
    unfold typeOfT typeOfE
    unfold lookM at h
    split at h
    · cases h
    · rename_i h1; simp only [if_neg h1, if_pos h]; exact ⟨trivial, trivial⟩
  repeat' (first
    | refine aw_seq ?_
    | refine aw_region ?_
    | refine aw_draw [] ?_
    | refine opsK_done ?_
    | refine opsK_on rfl ?_
    | refine opsK_off rfl ?_
    | (refine opsK_bool rfl rfl rfl (fun hb => ?_) (fun hb => ?_) <;> try cases hb)
    | refine opsK_of rfl rfl rfl ?_
    | refine opsK_new rfl rfl rfl ?_
    | refine dK_done ?_
    | refine dK_on rfl ?_
    | refine dK_off ⟨_, rfl, nofun⟩ ?_
    | (refine dK_bool rfl rfl rfl (fun hb => ?_) (fun hb => ?_) <;> try cases hb)
    | refine dK_of rfl rfl rfl ?_
    | refine aw_condT rfl ?_
    | refine aw_condF rfl ?_
    | (refine aw_cond rfl (fun hb => ?_) (fun hb => ?_) <;> try cases hb)
    | refine aw_block ?_
    | refine aw_skip ?_
    | refine aw_exit ?_
    | refine aw_ret ?_)
  · obtain ⟨e1, e2⟩ := h0 (by simpa using hb)
    exact ret_ok rfl ⟨trivial, trivial, trivial⟩ (by rw [e1, e2]; rfl)
  obtain ⟨e1, e2⟩ := h1 (by simpa using hb)
  refine opsK_eq (fits_spec f.depth f (Nat.le_refl _)) rfl rfl rfl ⟨fC_pure _ _, trivial⟩ rfl ?_
  repeat' (first
    | refine aw_seq ?_
    | refine aw_region ?_
    | refine aw_draw [] ?_
    | refine opsK_done ?_
    | refine opsK_on rfl ?_
    | refine opsK_off rfl ?_
    | (refine opsK_bool rfl rfl rfl (fun hb => ?_) (fun hb => ?_) <;> try cases hb)
    | refine opsK_of rfl rfl rfl ?_
    | refine opsK_new rfl rfl rfl ?_
    | refine dK_done ?_
    | refine dK_on rfl ?_
    | refine dK_off ⟨_, rfl, nofun⟩ ?_
    | (refine dK_bool rfl rfl rfl (fun hb => ?_) (fun hb => ?_) <;> try cases hb)
    | refine dK_of rfl rfl rfl ?_
    | refine aw_condT rfl ?_
    | refine aw_condF rfl ?_
    | (refine aw_cond rfl (fun hb => ?_) (fun hb => ?_) <;> try cases hb)
    | refine aw_block ?_
    | refine aw_skip ?_
    | refine aw_exit ?_
    | refine aw_ret ?_)
  · have h4 : fitsM f = false := by simpa using hb
    exact ret_ok rfl ⟨trivial, trivial, trivial⟩ (by rw [e1, e2, h4]; rfl)
  have h4 : fitsM f = true := by simpa using hb
  refine opsK_eq (result_spec f.op) rfl rfl rfl ⟨trivial, trivial⟩ rfl ?_
  repeat' (first
    | refine aw_seq ?_
    | refine aw_region ?_
    | refine aw_draw [] ?_
    | refine opsK_done ?_
    | refine opsK_on rfl ?_
    | refine opsK_off rfl ?_
    | (refine opsK_bool rfl rfl rfl (fun hb => ?_) (fun hb => ?_) <;> try cases hb)
    | refine opsK_of rfl rfl rfl ?_
    | refine opsK_new rfl rfl rfl ?_
    | refine dK_done ?_
    | refine dK_on rfl ?_
    | refine dK_off ⟨_, rfl, nofun⟩ ?_
    | (refine dK_bool rfl rfl rfl (fun hb => ?_) (fun hb => ?_) <;> try cases hb)
    | refine dK_of rfl rfl rfl ?_
    | refine aw_condT rfl ?_
    | refine aw_condF rfl ?_
    | (refine aw_cond rfl (fun hb => ?_) (fun hb => ?_) <;> try cases hb)
    | refine aw_block ?_
    | refine aw_skip ?_
    | refine aw_exit ?_
    | refine aw_ret ?_)
  exact ret_ok rfl ⟨trivial, trivial, trivial⟩ (by rw [e1, e2, h4]; rfl)
end Go.Proofs.Ytelcpkjclcimbaa
