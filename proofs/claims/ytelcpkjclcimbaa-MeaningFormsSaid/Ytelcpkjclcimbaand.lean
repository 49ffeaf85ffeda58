/-
  The program's formulas: the errors of one operator. No statement of the seat is proved here.
-/
import Derived.Test.Ytelcpkjclcimbaanc
namespace Go.Proofs.Ytelcpkjclcimbaa
open Go.RowKit
set_option linter.unusedVariables false
attribute [local irreducible] aw opsK dK

/-! ### One operator -/
set_option maxHeartbeats 1000000 in
theorem node_spec (f : Fm) (hsz : f.args.length ≤ 1099511627776) : Spec Try.prog 48 [.agg (fC .u8 f)] (· = .val (.int .i64 (nodeM f))) := by
  refine spec_intro ok48 (Nat.le_of_ble_eq_true rfl) fun C hC => ?_
  have hal : (f.args.map (cellsK .u8)).length = f.args.length := by simp
  have hrl := nums_length f.roles
  refine aw_seq ?_
  refine aw_region ?_
  refine opsK_ofAlt rfl rfl rfl ?_
  refine opsK_of rfl rfl rfl ?_
  refine opsK_done ?_
  have hpu := fC_inn .u8 f (· < 0)
  refine aw_cut hC True 0 [(1, .cp (fC .u8 f)), (3, .val (.int .i64 (operandsM f.op))), (4, .val (.int .i64 (leastM f.op))), (5, .val (.int .i64 (mostM f.op)))] [] (Nat.le_refl _) ?_ fun _ => ?_
  · repeat' (first
    | refine aw_seq ?_
    | refine aw_region ?_
    | refine aw_draw [] ?_
    | refine opsK_done ?_
    | refine opsK_on rfl ?_
    | refine opsK_off rfl ?_
    | (refine opsK_bool rfl rfl rfl (fun hb => ?_) (fun hb => ?_) <;> try cases hb)
    | refine opsK_of rfl rfl rfl ?_
    | refine opsK_new rfl rfl rfl ?_
    | refine dK_done ?_
    | refine dK_on rfl ?_
    | refine dK_off ⟨_, rfl, nofun⟩ ?_
    | (refine dK_bool rfl rfl rfl (fun hb => ?_) (fun hb => ?_) <;> try cases hb)
    | refine dK_of rfl rfl rfl ?_
    | refine aw_condT rfl ?_
    | refine aw_condF rfl ?_
    | (refine aw_cond rfl (fun hb => ?_) (fun hb => ?_) <;> try cases hb)
    | refine aw_block ?_
    | refine aw_skip ?_
    | refine aw_exit ?_
    | refine aw_ret ?_)
    refine opsK_eq (arity_spec f.op) rfl rfl rfl ⟨trivial, trivial⟩ rfl ?_
    repeat' (first
      | refine aw_seq ?_
      | refine aw_region ?_
      | refine aw_draw [] ?_
      | refine opsK_done ?_
      | refine opsK_on rfl ?_
      | refine opsK_off rfl ?_
      | (refine opsK_bool rfl rfl rfl (fun hb => ?_) (fun hb => ?_) <;> try cases hb)
      | refine opsK_of rfl rfl rfl ?_
      | refine opsK_new rfl rfl rfl ?_
      | refine dK_done ?_
      | refine dK_on rfl ?_
      | refine dK_off ⟨_, rfl, nofun⟩ ?_
      | (refine dK_bool rfl rfl rfl (fun hb => ?_) (fun hb => ?_) <;> try cases hb)
      | refine dK_of rfl rfl rfl ?_
      | refine aw_condT rfl ?_
      | refine aw_condF rfl ?_
      | (refine aw_cond rfl (fun hb => ?_) (fun hb => ?_) <;> try cases hb)
      | refine aw_block ?_
      | refine aw_skip ?_
      | refine aw_exit ?_
      | refine aw_ret ?_)
    exact ⟨trivial, ⟨⟨rfl, hpu⟩, ⟨rfl, trivial⟩, ⟨rfl, trivial⟩, ⟨rfl, trivial⟩, trivial⟩, trivial⟩
  refine aw_cut hC (badArity f = false) 0 [(1, .cp (fC .u8 f)), (4, .val (.int .i64 (leastM f.op))), (5, .val (.int .i64 (mostM f.op)))] [] (Nat.le_refl _) ?_ fun hA => ?_
  · repeat' (first
    | refine aw_seq ?_
    | refine aw_region ?_
    | refine aw_draw [] ?_
    | refine opsK_done ?_
    | refine opsK_on rfl ?_
    | refine opsK_off rfl ?_
    | (refine opsK_bool rfl rfl rfl (fun hb => ?_) (fun hb => ?_) <;> try cases hb)
    | refine opsK_of rfl rfl rfl ?_
    | refine opsK_new rfl rfl rfl ?_
    | refine dK_done ?_
    | refine dK_on rfl ?_
    | refine dK_off ⟨_, rfl, nofun⟩ ?_
    | (refine dK_bool rfl rfl rfl (fun hb => ?_) (fun hb => ?_) <;> try cases hb)
    | refine dK_of rfl rfl rfl ?_
    | refine aw_condT rfl ?_
    | refine aw_condF rfl ?_
    | (refine aw_cond rfl (fun hb => ?_) (fun hb => ?_) <;> try cases hb)
    | refine aw_block ?_
    | refine aw_skip ?_
    | refine aw_exit ?_
    | refine aw_ret ?_)
    all_goals first
      | (refine ⟨?_, ⟨⟨rfl, hpu⟩, ⟨rfl, trivial⟩, ⟨rfl, trivial⟩, trivial⟩, trivial⟩
         simp [hal] at *
         simp_all [badArity]
         done)
      | (refine ret_ok rfl trivial ?_
         simp [hal] at *
         simp_all [nodeM, badArity, pvOf]
         done)
  refine aw_cut hC (badForm f = false) 0 [(1, .cp (fC .u8 f))] [] (Nat.le_refl _) ?_ fun hB => ?_
  · repeat' (first
    | refine aw_seq ?_
    | refine aw_region ?_
    | refine aw_draw [] ?_
    | refine opsK_done ?_
    | refine opsK_on rfl ?_
    | refine opsK_off rfl ?_
    | (refine opsK_bool rfl rfl rfl (fun hb => ?_) (fun hb => ?_) <;> try cases hb)
    | refine opsK_of rfl rfl rfl ?_
    | refine opsK_new rfl rfl rfl ?_
    | refine dK_done ?_
    | refine dK_on rfl ?_
    | refine dK_off ⟨_, rfl, nofun⟩ ?_
    | (refine dK_bool rfl rfl rfl (fun hb => ?_) (fun hb => ?_) <;> try cases hb)
    | refine dK_of rfl rfl rfl ?_
    | refine aw_condT rfl ?_
    | refine aw_condF rfl ?_
    | (refine aw_cond rfl (fun hb => ?_) (fun hb => ?_) <;> try cases hb)
    | refine aw_block ?_
    | refine aw_skip ?_
    | refine aw_exit ?_
    | refine aw_ret ?_)
    all_goals first
      | (refine ⟨?_, ⟨⟨rfl, hpu⟩, trivial⟩, trivial⟩
         simp [hrl] at *
         simp_all [badForm]
         done)
      | (refine ret_ok rfl trivial ?_
         simp [hrl] at *
         simp_all [nodeM, badForm, pvOf]
         done)
  refine aw_cut hC (badN f = false) 0 [(1, .cp (fC .u8 f))] [] (Nat.le_refl _) ?_ fun hN => ?_
  · repeat' (first
    | refine aw_seq ?_
    | refine aw_region ?_
    | refine aw_draw [] ?_
    | refine opsK_done ?_
    | refine opsK_on rfl ?_
    | refine opsK_off rfl ?_
    | (refine opsK_bool rfl rfl rfl (fun hb => ?_) (fun hb => ?_) <;> try cases hb)
    | refine opsK_of rfl rfl rfl ?_
    | refine opsK_new rfl rfl rfl ?_
    | refine dK_done ?_
    | refine dK_on rfl ?_
    | refine dK_off ⟨_, rfl, nofun⟩ ?_
    | (refine dK_bool rfl rfl rfl (fun hb => ?_) (fun hb => ?_) <;> try cases hb)
    | refine dK_of rfl rfl rfl ?_
    | refine aw_condT rfl ?_
    | refine aw_condF rfl ?_
    | (refine aw_cond rfl (fun hb => ?_) (fun hb => ?_) <;> try cases hb)
    | refine aw_block ?_
    | refine aw_skip ?_
    | refine aw_exit ?_
    | refine aw_ret ?_)
    all_goals first
      | (refine ⟨?_, ⟨⟨rfl, hpu⟩, trivial⟩, trivial⟩
         simp_all [badN]
         done)
      | (refine ret_ok rfl trivial ?_
         simp_all [nodeM, badN, pvOf]
         done)
  refine aw_cut hC (inRange f.roles = true ∧ f.roles.length ≤ maxVec) 0 [(1, .cp (fC .u8 f))] [] (Nat.le_refl _) ?_ fun hR => ?_
  · repeat' (first
    | refine aw_seq ?_
    | refine aw_region ?_
    | refine aw_draw [] ?_
    | refine opsK_done ?_
    | refine opsK_on rfl ?_
    | refine opsK_off rfl ?_
    | (refine opsK_bool rfl rfl rfl (fun hb => ?_) (fun hb => ?_) <;> try cases hb)
    | refine opsK_of rfl rfl rfl ?_
    | refine opsK_new rfl rfl rfl ?_
    | refine dK_done ?_
    | refine dK_on rfl ?_
    | refine dK_off ⟨_, rfl, nofun⟩ ?_
    | (refine dK_bool rfl rfl rfl (fun hb => ?_) (fun hb => ?_) <;> try cases hb)
    | refine dK_of rfl rfl rfl ?_
    | refine aw_condT rfl ?_
    | refine aw_condF rfl ?_
    | (refine aw_cond rfl (fun hb => ?_) (fun hb => ?_) <;> try cases hb)
    | refine aw_block ?_
    | refine aw_skip ?_
    | refine aw_exit ?_
    | refine aw_ret ?_)
    refine aw_len (k := 61) rfl fun hmax => ?_
    rw [hrl] at hmax
    refine aw_loopH hC (fun i => i ≤ f.roles.length ∧ inRange (f.roles.take i) = true) (fun i => f.roles.length - i) 0 (fun i => [(1, .cp (fC .u8 f)), (61, .vec (nums f.roles) false), (62, .val (.int .i64 f.roles.length)), (63, .val (.int .i64 (i : Int)))]) (fun _ => []) (Nat.le_refl _) 0 ⟨Nat.zero_le _, rfl⟩
      ⟨⟨rfl, hpu⟩, ⟨rfl, nums_inn _ _⟩, ⟨by rw [← hrl]; rfl, trivial⟩, ⟨rfl, trivial⟩, trivial⟩ trivial ?_
    rintro i ⟨hi, hin⟩
    have hinc : IntKind.i64.wrap ((i : Int) + 1) = ((i + 1 : Nat) : Int) := IntWalk.i64_in _ ⟨by omega, by simp only [maxVec] at hmax; omega⟩
    repeat' (first
      | refine aw_seq ?_
      | refine aw_region ?_
      | refine aw_draw [] ?_
      | refine opsK_done ?_
      | refine opsK_on rfl ?_
      | refine opsK_off rfl ?_
      | (refine opsK_bool rfl rfl rfl (fun hb => ?_) (fun hb => ?_) <;> try cases hb)
      | refine opsK_of rfl rfl rfl ?_
      | refine opsK_new rfl rfl rfl ?_
      | refine dK_done ?_
      | refine dK_on rfl ?_
      | refine dK_off ⟨_, rfl, nofun⟩ ?_
      | (refine dK_bool rfl rfl rfl (fun hb => ?_) (fun hb => ?_) <;> try cases hb)
      | refine dK_of rfl rfl rfl ?_
      | refine aw_condT rfl ?_
      | refine aw_condF rfl ?_
      | (refine aw_cond rfl (fun hb => ?_) (fun hb => ?_) <;> try cases hb)
      | refine aw_block ?_
      | refine aw_skip ?_
      | refine aw_exit ?_
      | refine aw_ret ?_)
    · have hil : i < f.roles.length := by simpa using hb
      refine opsK_of (E_iaddr (xs := f.roles) rfl rfl i rfl hil rfl) rfl rfl ?_
      repeat' (first
        | refine aw_seq ?_
        | refine aw_region ?_
        | refine aw_draw [] ?_
        | refine opsK_done ?_
        | refine opsK_on rfl ?_
        | refine opsK_off rfl ?_
        | (refine opsK_bool rfl rfl rfl (fun hb => ?_) (fun hb => ?_) <;> try cases hb)
        | refine opsK_of rfl rfl rfl ?_
        | refine opsK_new rfl rfl rfl ?_
        | refine dK_done ?_
        | refine dK_on rfl ?_
        | refine dK_off ⟨_, rfl, nofun⟩ ?_
        | (refine dK_bool rfl rfl rfl (fun hb => ?_) (fun hb => ?_) <;> try cases hb)
        | refine dK_of rfl rfl rfl ?_
        | refine aw_condT rfl ?_
        | refine aw_condF rfl ?_
        | (refine aw_cond rfl (fun hb => ?_) (fun hb => ?_) <;> try cases hb)
        | refine aw_block ?_
        | refine aw_skip ?_
        | refine aw_exit ?_
        | refine aw_ret ?_)
      · refine ret_ok rfl trivial ?_
        have := inRange_bad hil (by simp at hb; simp; omega)
        simp [nodeM, hA, hB, hN, this, pvOf]
      · refine ret_ok rfl trivial ?_
        have := inRange_bad hil (by simp at hb; simp; omega)
        simp [nodeM, hA, hB, hN, this, pvOf]
      · refine ⟨i + 1, ⟨by omega, ?_⟩, by omega, ⟨⟨rfl, hpu⟩, ⟨rfl, nums_inn _ _⟩, ⟨rfl, trivial⟩, ⟨by show some _ = some _; rw [hinc], trivial⟩, trivial⟩, trivial⟩
        rename_i h1
        simp at hb h1
        rw [inRange_take hil, hin]
        simp
        omega
    · have hil : i = f.roles.length := by simp at hb; omega
      subst hil
      rw [List.take_length] at hin
      exact ⟨⟨hin, hmax⟩, ⟨⟨rfl, hpu⟩, trivial⟩, trivial⟩
  obtain ⟨hR, hmax⟩ := hR
  obtain ⟨hm1, hm2, hm3, hm4⟩ := roles_mask f.roles hR
  have hle : (digs (maskTo (topOf f.roles) f.roles)).length ≤ 1 := by
    by_cases h0 : maskTo (topOf f.roles) f.roles = 0
    · rw [h0, digs_zero]; simp
    · rw [digs_pos h0, Nat.div_eq_of_lt hm1, digs_zero]; simp
  repeat' (first
    | refine aw_seq ?_
    | refine aw_region ?_
    | refine aw_draw [] ?_
    | refine opsK_done ?_
    | refine opsK_on rfl ?_
    | refine opsK_off rfl ?_
    | (refine opsK_bool rfl rfl rfl (fun hb => ?_) (fun hb => ?_) <;> try cases hb)
    | refine opsK_of rfl rfl rfl ?_
    | refine opsK_new rfl rfl rfl ?_
    | refine dK_done ?_
    | refine dK_on rfl ?_
    | refine dK_off ⟨_, rfl, nofun⟩ ?_
    | (refine dK_bool rfl rfl rfl (fun hb => ?_) (fun hb => ?_) <;> try cases hb)
    | refine dK_of rfl rfl rfl ?_
    | refine aw_condT rfl ?_
    | refine aw_condF rfl ?_
    | (refine aw_cond rfl (fun hb => ?_) (fun hb => ?_) <;> try cases hb)
    | refine aw_block ?_
    | refine aw_skip ?_
    | refine aw_exit ?_
    | refine aw_ret ?_)
  refine dK_eq (of_spec f.roles false) rfl rfl rfl ⟨nums_pure _, trivial⟩ ?_
  refine dK_eq (len_spec _ (digs_words _) (by omega)) rfl rfl rfl ⟨setP_pure _, trivial⟩ ?_
  rw [lenW_digs hm1]
  generalize popK 64 (maskTo (topOf f.roles) f.roles) = z at *
  repeat' (first
    | refine aw_seq ?_
    | refine aw_region ?_
    | refine aw_draw [] ?_
    | refine opsK_done ?_
    | refine opsK_on rfl ?_
    | refine opsK_off rfl ?_
    | (refine opsK_bool rfl rfl rfl (fun hb => ?_) (fun hb => ?_) <;> try cases hb)
    | refine opsK_of rfl rfl rfl ?_
    | refine opsK_new rfl rfl rfl ?_
    | refine dK_done ?_
    | refine dK_on rfl ?_
    | refine dK_off ⟨_, rfl, nofun⟩ ?_
    | (refine dK_bool rfl rfl rfl (fun hb => ?_) (fun hb => ?_) <;> try cases hb)
    | refine dK_of rfl rfl rfl ?_
    | refine aw_condT rfl ?_
    | refine aw_condF rfl ?_
    | (refine aw_cond rfl (fun hb => ?_) (fun hb => ?_) <;> try cases hb)
    | refine aw_block ?_
    | refine aw_skip ?_
    | refine aw_exit ?_
    | refine aw_ret ?_)
  · refine ret_ok rfl trivial ?_
    have hne : ¬ f.roles.Nodup := fun h => by
      simp [hrl, hm3.2 h] at hb
    simp [nodeM, hA, hB, hN, hR, hne, pvOf]
  · refine ret_ok rfl trivial ?_
    have hnd : f.roles.Nodup := hm3.1 (by simp [hrl] at hb; omega)
    simp [nodeM, hA, hB, hN, hR, hnd, pvOf]
end Go.Proofs.Ytelcpkjclcimbaa
