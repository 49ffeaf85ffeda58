/-
  Formulas: the errors of one operator. No statement of the seat is proved here.
-/
import Derived.Test.Ytelcpkjclcimbaafm
namespace Go.Proofs.Ytelcpkjclcimbaa
open Go.RowKit
set_option linter.unusedVariables false
attribute [local irreducible] aw opsK dK

def badArity (f : Fm) : Bool := decide (f.op < 1) || decide (f.op > 16) || decide ((f.args.length : Int) ≠ operandsM f.op)
def badForm (f : Fm) : Bool := (decide (f.op ≠ 1) && decide (f.n ≠ 0)) || decide ((f.roles.length : Int) < leastM f.op) || decide ((f.roles.length : Int) > mostM f.op)
def badN (f : Fm) : Bool := decide (f.n < 0) || decide (f.n > 999999)
def inRange (l : List Int) : Bool := l.all fun r => decide (1 ≤ r) && decide (r ≤ 63)
/-- The error of an operator without its operands, whatever the kind. -/
def nodeM (f : Fm) : Int := if badArity f then 1 else if badForm f then 6 else if badN f then 2 else if inRange f.roles then (if decide f.roles.Nodup then 0 else 5) else 2
def badKind (k op : Int) : Bool := (decide (k = 3) && (decide (op = 4) || decide (op = 5))) || (decide (k ≠ 0) && decide (k ≠ 3) && decide (op = 6))
def nodeK (k : Int) (f : Fm) : Int := if nodeM f = 0 then (if badKind k f.op then 10 else 0) else nodeM f

theorem nums_length (l : List Int) : (nums l).length = l.length := by simp [nums]
theorem inRange_bad {l : List Int} {i : Nat} (hi : i < l.length) (h : (decide (1 ≤ l[i]) && decide (l[i] ≤ 63)) = false) : inRange l = false := by
  unfold inRange
  rw [List.all_eq_false]
  exact ⟨l[i], List.getElem_mem _, by simpa using h⟩
theorem inRange_take {l : List Int} {i : Nat} (hi : i < l.length) : inRange (l.take (i + 1)) = (inRange (l.take i) && (decide (1 ≤ l[i]) && decide (l[i] ≤ 63))) := by
  have e : l.take (i + 1) = l.take i ++ [l[i]] := by rw [List.take_add_one, List.getElem?_eq_getElem hi]; rfl
  rw [e, inRange, List.all_append]
  simp [inRange]
theorem nodup_take {l : List Int} {i : Nat} (hi : i < l.length) : (l.take (i + 1)).Nodup ↔ (l.take i).Nodup ∧ l[i] ∉ l.take i := by
  have e : l.take (i + 1) = l.take i ++ [l[i]] := by rw [List.take_add_one, List.getElem?_eq_getElem hi]; rfl
  rw [e, List.nodup_append]
  simp
  intro _
  constructor
  · intro h hm; exact h _ hm rfl
  · intro h a ha he; exact h (he ▸ ha)
theorem nodup_of_take {l : List Int} (i : Nat) (h : l.Nodup) : (l.take i).Nodup := h.sublist (List.take_sublist i l)

set_option maxHeartbeats 1000000 in
theorem nodeR_spec (f : Fm) (k : Int) (hsz : f.args.length ≤ 1099511627776) : Spec Try.prog 47 [.agg (fC .i64 f), .val (.int .i64 k)] (· = .val (.int .i64 (nodeK k f))) := by
  refine spec_intro ok47 (Nat.le_of_ble_eq_true rfl) fun C hC => ?_
  have hal : (f.args.map (cellsK .i64)).length = f.args.length := by simp
  have hrl := nums_length f.roles
  refine aw_seq ?_
  refine aw_region ?_
  refine opsK_ofAlt rfl rfl rfl ?_
  refine opsK_of rfl rfl rfl ?_
  refine opsK_done ?_
  have hpu := fC_inn .i64 f (· < 0)
  refine aw_cut hC (badArity f = false) 0 [(1, .val (.int .i64 k)), (2, .cp (fC .i64 f))] [] (Nat.le_refl _) ?_ fun hA => ?_
  · repeat' (first
    | refine aw_seq ?_
    | refine aw_region ?_
    | refine aw_draw [] ?_
    | refine opsK_done ?_
    | refine opsK_on rfl ?_
    | refine opsK_off rfl ?_
    | (refine opsK_bool rfl rfl rfl (fun hb => ?_) (fun hb => ?_) <;> try cases hb)
    | refine opsK_of rfl rfl rfl ?_
    | refine opsK_new rfl rfl rfl ?_
    | refine dK_done ?_
    | refine dK_on rfl ?_
    | refine dK_off ⟨_, rfl, nofun⟩ ?_
    | (refine dK_bool rfl rfl rfl (fun hb => ?_) (fun hb => ?_) <;> try cases hb)
    | refine dK_of rfl rfl rfl ?_
    | refine aw_condT rfl ?_
    | refine aw_condF rfl ?_
    | (refine aw_cond rfl (fun hb => ?_) (fun hb => ?_) <;> try cases hb)
    | refine aw_block ?_
    | refine aw_skip ?_
    | refine aw_exit ?_
    | refine aw_ret ?_)
    · exact ret_ok rfl trivial (by simp at hb; simp [nodeK, nodeM, badArity, hb, pvOf])
    · exact ret_ok rfl trivial (by simp at hb; simp [nodeK, nodeM, badArity, hb, pvOf])
    · refine dK_eq (operands_spec f.op) rfl rfl rfl ⟨trivial, trivial⟩ ?_
      repeat' (first
        | refine aw_seq ?_
        | refine aw_region ?_
        | refine aw_draw [] ?_
        | refine opsK_done ?_
        | refine opsK_on rfl ?_
        | refine opsK_off rfl ?_
        | (refine opsK_bool rfl rfl rfl (fun hb => ?_) (fun hb => ?_) <;> try cases hb)
        | refine opsK_of rfl rfl rfl ?_
        | refine opsK_new rfl rfl rfl ?_
        | refine dK_done ?_
        | refine dK_on rfl ?_
        | refine dK_off ⟨_, rfl, nofun⟩ ?_
        | (refine dK_bool rfl rfl rfl (fun hb => ?_) (fun hb => ?_) <;> try cases hb)
        | refine dK_of rfl rfl rfl ?_
        | refine aw_condT rfl ?_
        | refine aw_condF rfl ?_
        | (refine aw_cond rfl (fun hb => ?_) (fun hb => ?_) <;> try cases hb)
        | refine aw_block ?_
        | refine aw_skip ?_
        | refine aw_exit ?_
        | refine aw_ret ?_)
      · exact ret_ok rfl trivial (by simp at hb; simp [nodeK, nodeM, badArity, hb, pvOf])
      · refine ⟨?_, ⟨⟨rfl, trivial⟩, ⟨rfl, hpu⟩, trivial⟩, trivial⟩
        rename_i h1 h2
        simp at hb h1 h2
        simp [badArity, hb, h1, h2]
  refine aw_seq ?_
  refine aw_region ?_
  refine opsK_of rfl rfl rfl ?_
  refine opsK_of rfl rfl rfl ?_
  refine opsK_done ?_
  refine aw_cut hC True 0 [(1, .val (.int .i64 k)), (2, .cp (fC .i64 f)), (5, .val (.int .i64 (if f.op = 4 ∨ f.op = 6 then 1 else 0))), (6, .val (.int .i64 (if f.op = 4 ∨ f.op = 6 then 1 else 0)))] [] (Nat.le_refl _) ?_ fun _ => ?_
  · repeat' (first
    | refine aw_seq ?_
    | refine aw_region ?_
    | refine aw_draw [] ?_
    | refine opsK_done ?_
    | refine opsK_on rfl ?_
    | refine opsK_off rfl ?_
    | (refine opsK_bool rfl rfl rfl (fun hb => ?_) (fun hb => ?_) <;> try cases hb)
    | refine opsK_of rfl rfl rfl ?_
    | refine opsK_new rfl rfl rfl ?_
    | refine dK_done ?_
    | refine dK_on rfl ?_
    | refine dK_off ⟨_, rfl, nofun⟩ ?_
    | (refine dK_bool rfl rfl rfl (fun hb => ?_) (fun hb => ?_) <;> try cases hb)
    | refine dK_of rfl rfl rfl ?_
    | refine aw_condT rfl ?_
    | refine aw_condF rfl ?_
    | (refine aw_cond rfl (fun hb => ?_) (fun hb => ?_) <;> try cases hb)
    | refine aw_block ?_
    | refine aw_skip ?_
    | refine aw_exit ?_
    | refine aw_ret ?_)
    all_goals
      try (rename_i h1; simp at h1)
      simp at hb
      refine ⟨trivial, ⟨⟨rfl, trivial⟩, ⟨rfl, hpu⟩, ⟨?_, trivial⟩, ⟨?_, trivial⟩, trivial⟩, trivial⟩
      all_goals first | (rw [if_pos (by simp_all)]; rfl) | (rw [if_neg (by simp_all)]; rfl)
  refine aw_cut hC True 0 [(1, .val (.int .i64 k)), (2, .cp (fC .i64 f)), (5, .val (.int .i64 (leastM f.op))), (6, .val (.int .i64 (mostM f.op)))] [] (Nat.le_refl _) ?_ fun _ => ?_
  · repeat' (first
    | refine aw_seq ?_
    | refine aw_region ?_
    | refine aw_draw [] ?_
    | refine opsK_done ?_
    | refine opsK_on rfl ?_
    | refine opsK_off rfl ?_
    | (refine opsK_bool rfl rfl rfl (fun hb => ?_) (fun hb => ?_) <;> try cases hb)
    | refine opsK_of rfl rfl rfl ?_
    | refine opsK_new rfl rfl rfl ?_
    | refine dK_done ?_
    | refine dK_on rfl ?_
    | refine dK_off ⟨_, rfl, nofun⟩ ?_
    | (refine dK_bool rfl rfl rfl (fun hb => ?_) (fun hb => ?_) <;> try cases hb)
    | refine dK_of rfl rfl rfl ?_
    | refine aw_condT rfl ?_
    | refine aw_condF rfl ?_
    | (refine aw_cond rfl (fun hb => ?_) (fun hb => ?_) <;> try cases hb)
    | refine aw_block ?_
    | refine aw_skip ?_
    | refine aw_exit ?_
    | refine aw_ret ?_)
    all_goals
      simp at hb
      refine ⟨trivial, ⟨⟨rfl, trivial⟩, ⟨rfl, hpu⟩, ⟨?_, trivial⟩, ⟨?_, trivial⟩, trivial⟩, trivial⟩
      all_goals
        show some _ = some _
        simp [leastM, mostM, hb, pvOf]
  refine aw_cut hC (badForm f = false) 0 [(1, .val (.int .i64 k)), (2, .cp (fC .i64 f))] [] (Nat.le_refl _) ?_ fun hB => ?_
  · repeat' (first
    | refine aw_seq ?_
    | refine aw_region ?_
    | refine aw_draw [] ?_
    | refine opsK_done ?_
    | refine opsK_on rfl ?_
    | refine opsK_off rfl ?_
    | (refine opsK_bool rfl rfl rfl (fun hb => ?_) (fun hb => ?_) <;> try cases hb)
    | refine opsK_of rfl rfl rfl ?_
    | refine opsK_new rfl rfl rfl ?_
    | refine dK_done ?_
    | refine dK_on rfl ?_
    | refine dK_off ⟨_, rfl, nofun⟩ ?_
    | (refine dK_bool rfl rfl rfl (fun hb => ?_) (fun hb => ?_) <;> try cases hb)
    | refine dK_of rfl rfl rfl ?_
    | refine aw_condT rfl ?_
    | refine aw_condF rfl ?_
    | (refine aw_cond rfl (fun hb => ?_) (fun hb => ?_) <;> try cases hb)
    | refine aw_block ?_
    | refine aw_skip ?_
    | refine aw_exit ?_
    | refine aw_ret ?_)
    all_goals first
      | (refine ⟨?_, ⟨⟨rfl, trivial⟩, ⟨rfl, hpu⟩, trivial⟩, trivial⟩
         simp [hrl] at *
         simp_all [badForm]
         done)
      | (refine ret_ok rfl trivial ?_
         simp [hrl] at *
         simp_all [nodeK, nodeM, badForm, pvOf]
         done)
  refine aw_cut hC (badN f = false) 0 [(1, .val (.int .i64 k)), (2, .cp (fC .i64 f))] [] (Nat.le_refl _) ?_ fun hN => ?_
  · repeat' (first
    | refine aw_seq ?_
    | refine aw_region ?_
    | refine aw_draw [] ?_
    | refine opsK_done ?_
    | refine opsK_on rfl ?_
    | refine opsK_off rfl ?_
    | (refine opsK_bool rfl rfl rfl (fun hb => ?_) (fun hb => ?_) <;> try cases hb)
    | refine opsK_of rfl rfl rfl ?_
    | refine opsK_new rfl rfl rfl ?_
    | refine dK_done ?_
    | refine dK_on rfl ?_
    | refine dK_off ⟨_, rfl, nofun⟩ ?_
    | (refine dK_bool rfl rfl rfl (fun hb => ?_) (fun hb => ?_) <;> try cases hb)
    | refine dK_of rfl rfl rfl ?_
    | refine aw_condT rfl ?_
    | refine aw_condF rfl ?_
    | (refine aw_cond rfl (fun hb => ?_) (fun hb => ?_) <;> try cases hb)
    | refine aw_block ?_
    | refine aw_skip ?_
    | refine aw_exit ?_
    | refine aw_ret ?_)
    all_goals first
      | (refine ⟨?_, ⟨⟨rfl, trivial⟩, ⟨rfl, hpu⟩, trivial⟩, trivial⟩
         simp_all [badN]
         done)
      | (refine ret_ok rfl trivial ?_
         simp_all [nodeK, nodeM, badN, pvOf]
         done)
  refine aw_cut hC (inRange f.roles = true ∧ f.roles.length ≤ maxVec) 0 [(1, .val (.int .i64 k)), (2, .cp (fC .i64 f))] [] (Nat.le_refl _) ?_ fun hR => ?_
  · repeat' (first
    | refine aw_seq ?_
    | refine aw_region ?_
    | refine aw_draw [] ?_
    | refine opsK_done ?_
    | refine opsK_on rfl ?_
    | refine opsK_off rfl ?_
    | (refine opsK_bool rfl rfl rfl (fun hb => ?_) (fun hb => ?_) <;> try cases hb)
    | refine opsK_of rfl rfl rfl ?_
    | refine opsK_new rfl rfl rfl ?_
    | refine dK_done ?_
    | refine dK_on rfl ?_
    | refine dK_off ⟨_, rfl, nofun⟩ ?_
    | (refine dK_bool rfl rfl rfl (fun hb => ?_) (fun hb => ?_) <;> try cases hb)
    | refine dK_of rfl rfl rfl ?_
    | refine aw_condT rfl ?_
    | refine aw_condF rfl ?_
    | (refine aw_cond rfl (fun hb => ?_) (fun hb => ?_) <;> try cases hb)
    | refine aw_block ?_
    | refine aw_skip ?_
    | refine aw_exit ?_
    | refine aw_ret ?_)
    refine aw_len (k := 72) rfl fun hmax => ?_
    rw [hrl] at hmax
    refine aw_loopH hC (fun i => i ≤ f.roles.length ∧ inRange (f.roles.take i) = true) (fun i => f.roles.length - i) 0 (fun i => [(1, .val (.int .i64 k)), (2, .cp (fC .i64 f)), (72, .vec (nums f.roles) false), (73, .val (.int .i64 f.roles.length)), (74, .val (.int .i64 (i : Int)))]) (fun _ => []) (Nat.le_refl _) 0 ⟨Nat.zero_le _, rfl⟩
      ⟨⟨rfl, trivial⟩, ⟨rfl, hpu⟩, ⟨rfl, nums_inn _ _⟩, ⟨by rw [← hrl]; rfl, trivial⟩, ⟨rfl, trivial⟩, trivial⟩ trivial ?_
    rintro i ⟨hi, hin⟩
    have hinc : IntKind.i64.wrap ((i : Int) + 1) = ((i + 1 : Nat) : Int) := IntWalk.i64_in _ ⟨by omega, by simp only [maxVec] at hmax; omega⟩
    repeat' (first
      | refine aw_seq ?_
      | refine aw_region ?_
      | refine aw_draw [] ?_
      | refine opsK_done ?_
      | refine opsK_on rfl ?_
      | refine opsK_off rfl ?_
      | (refine opsK_bool rfl rfl rfl (fun hb => ?_) (fun hb => ?_) <;> try cases hb)
      | refine opsK_of rfl rfl rfl ?_
      | refine opsK_new rfl rfl rfl ?_
      | refine dK_done ?_
      | refine dK_on rfl ?_
      | refine dK_off ⟨_, rfl, nofun⟩ ?_
      | (refine dK_bool rfl rfl rfl (fun hb => ?_) (fun hb => ?_) <;> try cases hb)
      | refine dK_of rfl rfl rfl ?_
      | refine aw_condT rfl ?_
      | refine aw_condF rfl ?_
      | (refine aw_cond rfl (fun hb => ?_) (fun hb => ?_) <;> try cases hb)
      | refine aw_block ?_
      | refine aw_skip ?_
      | refine aw_exit ?_
      | refine aw_ret ?_)
    · have hil : i < f.roles.length := by simpa using hb
      refine opsK_of (E_iaddr (xs := f.roles) rfl rfl i rfl hil rfl) rfl rfl ?_
      repeat' (first
        | refine aw_seq ?_
        | refine aw_region ?_
        | refine aw_draw [] ?_
        | refine opsK_done ?_
        | refine opsK_on rfl ?_
        | refine opsK_off rfl ?_
        | (refine opsK_bool rfl rfl rfl (fun hb => ?_) (fun hb => ?_) <;> try cases hb)
        | refine opsK_of rfl rfl rfl ?_
        | refine opsK_new rfl rfl rfl ?_
        | refine dK_done ?_
        | refine dK_on rfl ?_
        | refine dK_off ⟨_, rfl, nofun⟩ ?_
        | (refine dK_bool rfl rfl rfl (fun hb => ?_) (fun hb => ?_) <;> try cases hb)
        | refine dK_of rfl rfl rfl ?_
        | refine aw_condT rfl ?_
        | refine aw_condF rfl ?_
        | (refine aw_cond rfl (fun hb => ?_) (fun hb => ?_) <;> try cases hb)
        | refine aw_block ?_
        | refine aw_skip ?_
        | refine aw_exit ?_
        | refine aw_ret ?_)
      · refine ret_ok rfl trivial ?_
        have := inRange_bad hil (by simp at hb; simp; omega)
        simp [nodeK, nodeM, hA, hB, hN, this, pvOf]
      · refine ret_ok rfl trivial ?_
        have := inRange_bad hil (by simp at hb; simp; omega)
        simp [nodeK, nodeM, hA, hB, hN, this, pvOf]
      · refine ⟨i + 1, ⟨by omega, ?_⟩, by omega, ⟨⟨rfl, trivial⟩, ⟨rfl, hpu⟩, ⟨rfl, nums_inn _ _⟩, ⟨rfl, trivial⟩, ⟨by show some _ = some _; rw [hinc], trivial⟩, trivial⟩, trivial⟩
        rename_i h1
        simp at hb h1
        rw [inRange_take hil, hin]
        simp
        omega
    · have hil : i = f.roles.length := by simp at hb; omega
      subst hil
      rw [List.take_length] at hin
      exact ⟨⟨hin, hmax⟩, ⟨⟨rfl, trivial⟩, ⟨rfl, hpu⟩, trivial⟩, trivial⟩
  obtain ⟨hR, hmax⟩ := hR
  refine aw_cut hC f.roles.Nodup 0 [(1, .val (.int .i64 k)), (2, .cp (fC .i64 f))] [] (Nat.le_refl _) ?_ fun hD => ?_
  · repeat' (first
    | refine aw_seq ?_
    | refine aw_region ?_
    | refine aw_draw [] ?_
    | refine opsK_done ?_
    | refine opsK_on rfl ?_
    | refine opsK_off rfl ?_
    | (refine opsK_bool rfl rfl rfl (fun hb => ?_) (fun hb => ?_) <;> try cases hb)
    | refine opsK_of rfl rfl rfl ?_
    | refine opsK_new rfl rfl rfl ?_
    | refine dK_done ?_
    | refine dK_on rfl ?_
    | refine dK_off ⟨_, rfl, nofun⟩ ?_
    | (refine dK_bool rfl rfl rfl (fun hb => ?_) (fun hb => ?_) <;> try cases hb)
    | refine dK_of rfl rfl rfl ?_
    | refine aw_condT rfl ?_
    | refine aw_condF rfl ?_
    | (refine aw_cond rfl (fun hb => ?_) (fun hb => ?_) <;> try cases hb)
    | refine aw_block ?_
    | refine aw_skip ?_
    | refine aw_exit ?_
    | refine aw_ret ?_)
    refine aw_loopH hC (fun i => i ≤ f.roles.length ∧ (f.roles.take i).Nodup) (fun i => f.roles.length - i) 0 (fun i => [(1, .val (.int .i64 k)), (2, .cp (fC .i64 f)), (86, .vec (nums f.roles) false), (87, .val (.int .i64 f.roles.length)), (88, .val (.int .i64 (i : Int)))]) (fun _ => []) (Nat.le_refl _) 0 ⟨Nat.zero_le _, by simp⟩
      ⟨⟨rfl, trivial⟩, ⟨rfl, hpu⟩, ⟨rfl, nums_inn _ _⟩, ⟨by rw [← hrl]; rfl, trivial⟩, ⟨rfl, trivial⟩, trivial⟩ trivial ?_
    rintro i ⟨hi, hnd⟩
    have hinc : IntKind.i64.wrap ((i : Int) + 1) = ((i + 1 : Nat) : Int) := IntWalk.i64_in _ ⟨by omega, by simp only [maxVec] at hmax; omega⟩
    repeat' (first
      | refine aw_seq ?_
      | refine aw_region ?_
      | refine aw_draw [] ?_
      | refine opsK_done ?_
      | refine opsK_on rfl ?_
      | refine opsK_off rfl ?_
      | (refine opsK_bool rfl rfl rfl (fun hb => ?_) (fun hb => ?_) <;> try cases hb)
      | refine opsK_of rfl rfl rfl ?_
      | refine opsK_new rfl rfl rfl ?_
      | refine dK_done ?_
      | refine dK_on rfl ?_
      | refine dK_off ⟨_, rfl, nofun⟩ ?_
      | (refine dK_bool rfl rfl rfl (fun hb => ?_) (fun hb => ?_) <;> try cases hb)
      | refine dK_of rfl rfl rfl ?_
      | refine aw_condT rfl ?_
      | refine aw_condF rfl ?_
      | (refine aw_cond rfl (fun hb => ?_) (fun hb => ?_) <;> try cases hb)
      | refine aw_block ?_
      | refine aw_skip ?_
      | refine aw_exit ?_
      | refine aw_ret ?_)
    · have hil : i < f.roles.length := by simpa using hb
      refine opsK_of (E_iaddr (xs := f.roles) rfl rfl i rfl hil rfl) rfl rfl ?_
      repeat' (first
        | refine aw_seq ?_
        | refine aw_region ?_
        | refine aw_draw [] ?_
        | refine opsK_done ?_
        | refine opsK_on rfl ?_
        | refine opsK_off rfl ?_
        | (refine opsK_bool rfl rfl rfl (fun hb => ?_) (fun hb => ?_) <;> try cases hb)
        | refine opsK_of rfl rfl rfl ?_
        | refine opsK_new rfl rfl rfl ?_
        | refine dK_done ?_
        | refine dK_on rfl ?_
        | refine dK_off ⟨_, rfl, nofun⟩ ?_
        | (refine dK_bool rfl rfl rfl (fun hb => ?_) (fun hb => ?_) <;> try cases hb)
        | refine dK_of rfl rfl rfl ?_
        | refine aw_condT rfl ?_
        | refine aw_condF rfl ?_
        | (refine aw_cond rfl (fun hb => ?_) (fun hb => ?_) <;> try cases hb)
        | refine aw_block ?_
        | refine aw_skip ?_
        | refine aw_exit ?_
        | refine aw_ret ?_)
      refine opsK_of (E_slc (xs := f.roles) rfl 0 i rfl rfl (Nat.zero_le _) hi (fun _ => rfl)) rfl rfl ?_
      rw [List.drop_zero]
      repeat' (first
        | refine aw_seq ?_
        | refine aw_region ?_
        | refine aw_draw [] ?_
        | refine opsK_done ?_
        | refine opsK_on rfl ?_
        | refine opsK_off rfl ?_
        | (refine opsK_bool rfl rfl rfl (fun hb => ?_) (fun hb => ?_) <;> try cases hb)
        | refine opsK_of rfl rfl rfl ?_
        | refine opsK_new rfl rfl rfl ?_
        | refine dK_done ?_
        | refine dK_on rfl ?_
        | refine dK_off ⟨_, rfl, nofun⟩ ?_
        | (refine dK_bool rfl rfl rfl (fun hb => ?_) (fun hb => ?_) <;> try cases hb)
        | refine dK_of rfl rfl rfl ?_
        | refine aw_condT rfl ?_
        | refine aw_condF rfl ?_
        | (refine aw_cond rfl (fun hb => ?_) (fun hb => ?_) <;> try cases hb)
        | refine aw_block ?_
        | refine aw_skip ?_
        | refine aw_exit ?_
        | refine aw_ret ?_)
      have hti : (nums (f.roles.take i)).length = i := by rw [nums_length, List.length_take]; omega
      refine aw_loopH hC (fun j => j ≤ i ∧ f.roles[i] ∉ f.roles.take j) (fun j => i - j) 0 (fun j => [(1, .val (.int .i64 k)), (2, .cp (fC .i64 f)), (86, .vec (nums f.roles) false), (87, .val (.int .i64 f.roles.length)), (88, .val (.int .i64 (i : Int))), (10, .val (.int .i64 f.roles[i])), (96, .vec (nums (f.roles.take i)) false), (97, .val (.int .i64 (i : Int))), (98, .val (.int .i64 (j : Int)))]) (fun _ => []) (Nat.le_refl _) 0 ⟨Nat.zero_le _, by simp⟩
        ⟨⟨rfl, trivial⟩, ⟨rfl, hpu⟩, ⟨rfl, nums_inn _ _⟩, ⟨rfl, trivial⟩, ⟨rfl, trivial⟩, ⟨rfl, trivial⟩, ⟨rfl, nums_inn _ _⟩, ⟨?_, trivial⟩, ⟨rfl, trivial⟩, trivial⟩ trivial ?_
      · show some (PV.val (Value.int _ (((nums (f.roles.take i)).length : Nat) : Int))) = _
        rw [hti]
      rintro j ⟨hj, hnot⟩
      have hincj : IntKind.i64.wrap ((j : Int) + 1) = ((j + 1 : Nat) : Int) := IntWalk.i64_in _ ⟨by omega, by simp only [maxVec] at hmax; omega⟩
      repeat' (first
        | refine aw_seq ?_
        | refine aw_region ?_
        | refine aw_draw [] ?_
        | refine opsK_done ?_
        | refine opsK_on rfl ?_
        | refine opsK_off rfl ?_
        | (refine opsK_bool rfl rfl rfl (fun hb => ?_) (fun hb => ?_) <;> try cases hb)
        | refine opsK_of rfl rfl rfl ?_
        | refine opsK_new rfl rfl rfl ?_
        | refine dK_done ?_
        | refine dK_on rfl ?_
        | refine dK_off ⟨_, rfl, nofun⟩ ?_
        | (refine dK_bool rfl rfl rfl (fun hb => ?_) (fun hb => ?_) <;> try cases hb)
        | refine dK_of rfl rfl rfl ?_
        | refine aw_condT rfl ?_
        | refine aw_condF rfl ?_
        | (refine aw_cond rfl (fun hb => ?_) (fun hb => ?_) <;> try cases hb)
        | refine aw_block ?_
        | refine aw_skip ?_
        | refine aw_exit ?_
        | refine aw_ret ?_)
      · have hjl : j < i := by simpa using hb
        refine opsK_of (E_iaddr (xs := f.roles.take i) rfl rfl j rfl (by rw [List.length_take]; omega) rfl) rfl rfl ?_
        have hg : (f.roles.take i)[j]'(by rw [List.length_take]; omega) = f.roles[j] := by simp
        rw [hg]
        repeat' (first
          | refine aw_seq ?_
          | refine aw_region ?_
          | refine aw_draw [] ?_
          | refine opsK_done ?_
          | refine opsK_on rfl ?_
          | refine opsK_off rfl ?_
          | (refine opsK_bool rfl rfl rfl (fun hb => ?_) (fun hb => ?_) <;> try cases hb)
          | refine opsK_of rfl rfl rfl ?_
          | refine opsK_new rfl rfl rfl ?_
          | refine dK_done ?_
          | refine dK_on rfl ?_
          | refine dK_off ⟨_, rfl, nofun⟩ ?_
          | (refine dK_bool rfl rfl rfl (fun hb => ?_) (fun hb => ?_) <;> try cases hb)
          | refine dK_of rfl rfl rfl ?_
          | refine aw_condT rfl ?_
          | refine aw_condF rfl ?_
          | (refine aw_cond rfl (fun hb => ?_) (fun hb => ?_) <;> try cases hb)
          | refine aw_block ?_
          | refine aw_skip ?_
          | refine aw_exit ?_
          | refine aw_ret ?_)
        · refine ret_ok rfl trivial ?_
          have hne : ¬ f.roles.Nodup := fun h => by
            have h2 := (nodup_take hil).1 (nodup_of_take (i + 1) h)
            refine h2.2 ?_
            have he : f.roles[j] = f.roles[i] := by simpa using hb
            rw [← he]
            exact List.mem_iff_getElem.2 ⟨j, by rw [List.length_take]; omega, by simp⟩
          simp [nodeK, nodeM, hA, hB, hN, hR, hne, pvOf]
        · refine ⟨j + 1, ⟨by omega, ?_⟩, by omega, ⟨⟨rfl, trivial⟩, ⟨rfl, hpu⟩, ⟨rfl, nums_inn _ _⟩, ⟨rfl, trivial⟩, ⟨rfl, trivial⟩, ⟨rfl, trivial⟩, ⟨rfl, nums_inn _ _⟩, ⟨rfl, trivial⟩, ⟨by show some _ = some _; rw [hincj], trivial⟩, trivial⟩, trivial⟩
          have e : f.roles.take (j + 1) = f.roles.take j ++ [f.roles[j]] := by rw [List.take_add_one, List.getElem?_eq_getElem (by omega)]; rfl
          rw [e, List.mem_append]
          have he : ¬ f.roles[j] = f.roles[i] := by simpa using hb
          rintro (h | h)
          · exact hnot h
          · exact he (List.mem_singleton.1 h).symm
      · have hjl : j = i := by simp at hb; omega
        subst hjl
        exact ⟨j + 1, ⟨by omega, (nodup_take hil).2 ⟨hnd, hnot⟩⟩, by omega, ⟨⟨rfl, trivial⟩, ⟨rfl, hpu⟩, ⟨rfl, nums_inn _ _⟩, ⟨rfl, trivial⟩, ⟨by show some _ = some _; rw [hinc], trivial⟩, trivial⟩, trivial⟩
    · have hil : i = f.roles.length := by simp at hb; omega
      subst hil
      rw [List.take_length] at hnd
      exact ⟨hnd, ⟨⟨rfl, trivial⟩, ⟨rfl, hpu⟩, trivial⟩, trivial⟩
  have h0 : nodeM f = 0 := by simp [nodeM, hA, hB, hN, hR, hD]
  repeat' (first
    | refine aw_seq ?_
    | refine aw_region ?_
    | refine aw_draw [] ?_
    | refine opsK_done ?_
    | refine opsK_on rfl ?_
    | refine opsK_off rfl ?_
    | (refine opsK_bool rfl rfl rfl (fun hb => ?_) (fun hb => ?_) <;> try cases hb)
    | refine opsK_of rfl rfl rfl ?_
    | refine opsK_new rfl rfl rfl ?_
    | refine dK_done ?_
    | refine dK_on rfl ?_
    | refine dK_off ⟨_, rfl, nofun⟩ ?_
    | (refine dK_bool rfl rfl rfl (fun hb => ?_) (fun hb => ?_) <;> try cases hb)
    | refine dK_of rfl rfl rfl ?_
    | refine aw_condT rfl ?_
    | refine aw_condF rfl ?_
    | (refine aw_cond rfl (fun hb => ?_) (fun hb => ?_) <;> try cases hb)
    | refine aw_block ?_
    | refine aw_skip ?_
    | refine aw_exit ?_
    | refine aw_ret ?_)
  all_goals
    refine ret_ok rfl trivial ?_
    simp_all [nodeK, badKind, pvOf]
end Go.Proofs.Ytelcpkjclcimbaa
