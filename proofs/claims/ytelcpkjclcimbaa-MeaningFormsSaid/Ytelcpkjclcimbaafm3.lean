/-
  Formulas: the first error of all operators, and the type. No statement of the seat is proved here.
-/
import Derived.Test.Ytelcpkjclcimbaafm2
namespace Go.Proofs.Ytelcpkjclcimbaa
open Go.RowKit
set_option linter.unusedVariables false
attribute [local irreducible] aw opsK dK

mutual
def insideM (k : Int) : Fm → Int
  | .mk op n roles args => if nodeK k (.mk op n roles args) = 0 then insideL k args else nodeK k (.mk op n roles args)
def insideL (k : Int) : List Fm → Int
  | [] => 0
  | a :: r => if insideM k a = 0 then insideL k r else insideM k a
end
theorem insideM_eq (k : Int) (f : Fm) : insideM k f = if nodeK k f = 0 then insideL k f.args else nodeK k f := by cases f; simp [insideM, Fm.args]
theorem insideL_append (k : Int) (l m : List Fm) : insideL k (l ++ m) = if insideL k l = 0 then insideL k m else insideL k l := by
  induction l with
  | nil => simp [insideL]
  | cons a r ih =>
    simp only [List.cons_append, insideL, ih]
    split
    · rfl
    · rfl
theorem insideL_take {k : Int} {l : List Fm} {i : Nat} (hi : i < l.length) (h : insideL k (l.take i) = 0) : insideL k (l.take (i + 1)) = insideM k l[i] := by
  have e : l.take (i + 1) = l.take i ++ [l[i]] := by rw [List.take_add_one, List.getElem?_eq_getElem hi]; rfl
  rw [e, insideL_append, if_pos h]
  simp only [insideL]
  split
  · rename_i h; rw [h]
  · rfl
theorem insideL_bad {k : Int} {l : List Fm} {i : Nat} (hi : i < l.length) (h : insideL k (l.take i) = 0) (hb : insideM k l[i] ≠ 0) : insideL k l = insideM k l[i] := by
  have h2 := insideL_append k (l.take (i + 1)) (l.drop (i + 1))
  rw [List.take_append_drop, insideL_take hi h, if_neg hb] at h2
  exact h2

theorem insideR_spec (k : Int) : ∀ (d : Nat) (f : Fm), f.depth ≤ d → f.size ≤ 1099511627776 → Spec Try.prog 38 [.agg (fC .i64 f), .val (.int .i64 k)] (· = .val (.int .i64 (insideM k f))) := by
  intro d
  induction d with
  | zero => intro f hf; rw [Fm.depth_eq] at hf; omega
  | succ d ih =>
    intro f hf hsz
    have hll : (f.args.map (cellsK .i64)).length = f.args.length := by simp
    have hfd := f.depth_eq
    have hfs := f.size_eq
    have hlm := length_le_size f.args
    refine spec_intro ok38 (Nat.le_of_ble_eq_true rfl) fun C hC => ?_
    refine aw_seq ?_
    refine aw_region ?_
    refine opsK_ofAlt rfl rfl rfl ?_
    repeat' (first
      | refine aw_seq ?_
      | refine aw_region ?_
      | refine aw_draw [] ?_
      | refine opsK_done ?_
      | refine opsK_on rfl ?_
      | refine opsK_off rfl ?_
      | (refine opsK_bool rfl rfl rfl (fun hb => ?_) (fun hb => ?_) <;> try cases hb)
      | refine opsK_of rfl rfl rfl ?_
      | refine opsK_new rfl rfl rfl ?_
      | refine dK_done ?_
      | refine dK_on rfl ?_
      | refine dK_off ⟨_, rfl, nofun⟩ ?_
      | (refine dK_bool rfl rfl rfl (fun hb => ?_) (fun hb => ?_) <;> try cases hb)
      | refine dK_of rfl rfl rfl ?_
      | refine aw_condT rfl ?_
      | refine aw_condF rfl ?_
      | (refine aw_cond rfl (fun hb => ?_) (fun hb => ?_) <;> try cases hb)
      | refine aw_block ?_
      | refine aw_skip ?_
      | refine aw_exit ?_
      | refine aw_ret ?_)
    refine opsK_eq (nodeR_spec f k (by omega)) rfl rfl rfl ⟨fC_pure _ _, trivial, trivial⟩ rfl ?_
    repeat' (first
      | refine aw_seq ?_
      | refine aw_region ?_
      | refine aw_draw [] ?_
      | refine opsK_done ?_
      | refine opsK_on rfl ?_
      | refine opsK_off rfl ?_
      | (refine opsK_bool rfl rfl rfl (fun hb => ?_) (fun hb => ?_) <;> try cases hb)
      | refine opsK_of rfl rfl rfl ?_
      | refine opsK_new rfl rfl rfl ?_
      | refine dK_done ?_
      | refine dK_on rfl ?_
      | refine dK_off ⟨_, rfl, nofun⟩ ?_
      | (refine dK_bool rfl rfl rfl (fun hb => ?_) (fun hb => ?_) <;> try cases hb)
      | refine dK_of rfl rfl rfl ?_
      | refine aw_condT rfl ?_
      | refine aw_condF rfl ?_
      | (refine aw_cond rfl (fun hb => ?_) (fun hb => ?_) <;> try cases hb)
      | refine aw_block ?_
      | refine aw_skip ?_
      | refine aw_exit ?_
      | refine aw_ret ?_)
    · refine ret_ok rfl trivial ?_
      have hne : nodeK k f ≠ 0 := by simpa using hb
      rw [insideM_eq, if_neg hne]
    have hz : nodeK k f = 0 := by simpa using hb
    refine aw_loopH hC (fun i => i ≤ f.args.length ∧ insideL k (f.args.take i) = 0) (fun i => f.args.length - i) 0 (fun i => [(1, .val (.int .i64 k)), (15, .vec (f.args.map (cellsK .i64)) false), (16, .val (.int .i64 f.args.length)), (17, .val (.int .i64 (i : Int)))]) (fun _ => []) (Nat.le_refl _) 0 ⟨Nat.zero_le _, rfl⟩
      ⟨⟨rfl, trivial⟩, ⟨rfl, fArgs_inn _ _ _⟩, ⟨by rw [← hll]; rfl, trivial⟩, ⟨rfl, trivial⟩, trivial⟩ trivial ?_
    rintro i ⟨hi, hin⟩
    have hinc : IntKind.i64.wrap ((i : Int) + 1) = ((i + 1 : Nat) : Int) := IntWalk.i64_in _ ⟨by omega, by omega⟩
    repeat' (first
      | refine aw_seq ?_
      | refine aw_region ?_
      | refine aw_draw [] ?_
      | refine opsK_done ?_
      | refine opsK_on rfl ?_
      | refine opsK_off rfl ?_
      | (refine opsK_bool rfl rfl rfl (fun hb => ?_) (fun hb => ?_) <;> try cases hb)
      | refine opsK_of rfl rfl rfl ?_
      | refine opsK_new rfl rfl rfl ?_
      | refine dK_done ?_
      | refine dK_on rfl ?_
      | refine dK_off ⟨_, rfl, nofun⟩ ?_
      | (refine dK_bool rfl rfl rfl (fun hb => ?_) (fun hb => ?_) <;> try cases hb)
      | refine dK_of rfl rfl rfl ?_
      | refine aw_condT rfl ?_
      | refine aw_condF rfl ?_
      | (refine aw_cond rfl (fun hb => ?_) (fun hb => ?_) <;> try cases hb)
      | refine aw_block ?_
      | refine aw_skip ?_
      | refine aw_exit ?_
      | refine aw_ret ?_)
    · have hil : i < f.args.length := by simpa using hb
      refine opsK_of (E_iaddr (xs := f.args) rfl rfl i rfl hil (cellsK_length _ _)) rfl rfl ?_
      rw [cellsK_eq]
      repeat' (first
        | refine aw_seq ?_
        | refine aw_region ?_
        | refine aw_draw [] ?_
        | refine opsK_done ?_
        | refine opsK_on rfl ?_
        | refine opsK_off rfl ?_
        | (refine opsK_bool rfl rfl rfl (fun hb => ?_) (fun hb => ?_) <;> try cases hb)
        | refine opsK_of rfl rfl rfl ?_
        | refine opsK_new rfl rfl rfl ?_
        | refine dK_done ?_
        | refine dK_on rfl ?_
        | refine dK_off ⟨_, rfl, nofun⟩ ?_
        | (refine dK_bool rfl rfl rfl (fun hb => ?_) (fun hb => ?_) <;> try cases hb)
        | refine dK_of rfl rfl rfl ?_
        | refine aw_condT rfl ?_
        | refine aw_condF rfl ?_
        | (refine aw_cond rfl (fun hb => ?_) (fun hb => ?_) <;> try cases hb)
        | refine aw_block ?_
        | refine aw_skip ?_
        | refine aw_exit ?_
        | refine aw_ret ?_)
      have hdl := depthL_mem hil
      have hsl := sizeL_mem hil
      refine opsK_eq (ih f.args[i] (by omega) (by omega)) rfl rfl rfl ⟨fC_pure _ _, trivial, trivial⟩ rfl ?_
      repeat' (first
        | refine aw_seq ?_
        | refine aw_region ?_
        | refine aw_draw [] ?_
        | refine opsK_done ?_
        | refine opsK_on rfl ?_
        | refine opsK_off rfl ?_
        | (refine opsK_bool rfl rfl rfl (fun hb => ?_) (fun hb => ?_) <;> try cases hb)
        | refine opsK_of rfl rfl rfl ?_
        | refine opsK_new rfl rfl rfl ?_
        | refine dK_done ?_
        | refine dK_on rfl ?_
        | refine dK_off ⟨_, rfl, nofun⟩ ?_
        | (refine dK_bool rfl rfl rfl (fun hb => ?_) (fun hb => ?_) <;> try cases hb)
        | refine dK_of rfl rfl rfl ?_
        | refine aw_condT rfl ?_
        | refine aw_condF rfl ?_
        | (refine aw_cond rfl (fun hb => ?_) (fun hb => ?_) <;> try cases hb)
        | refine aw_block ?_
        | refine aw_skip ?_
        | refine aw_exit ?_
        | refine aw_ret ?_)
      · refine ret_ok rfl trivial ?_
        have hne : insideM k f.args[i] ≠ 0 := by simpa using hb
        rw [insideM_eq k f, if_pos hz, insideL_bad hil hin hne]
      · refine ⟨i + 1, ⟨by omega, ?_⟩, by omega, ⟨⟨rfl, trivial⟩, ⟨rfl, fArgs_inn _ _ _⟩, ⟨rfl, trivial⟩, ⟨by show some _ = some _; rw [hinc], trivial⟩, trivial⟩, trivial⟩
        rw [insideL_take hil hin]
        simpa using hb
    · have hil : i = f.args.length := by simp at hb; omega
      subst hil
      rw [List.take_length] at hin
      exact ret_ok rfl trivial (by rw [insideM_eq, if_pos hz, hin]; rfl)

def typeOfT (f : Fm) : Int := if f.depth > 10 ∨ f.size > 200 then 0 else if insideM 0 f = 0 then (if fitsM f then typeM f.op else 0) else 0
def typeOfE (f : Fm) : Int := if f.depth > 10 ∨ f.size > 200 then 3 else if insideM 0 f = 0 then (if fitsM f then 0 else 10) else insideM 0 f

theorem typeOfR_spec (f : Fm) (hd : f.depth ≤ 1000) (hsz : f.size ≤ 1099511627776) : Spec Try.prog 21 [.agg (fC .i64 f)] (· = .tup [.val (.int .i64 (typeOfT f)), .val (.int .i64 (typeOfE f))]) := by
  refine spec_intro ok21 (Nat.le_of_ble_eq_true rfl) fun C hC => ?_
  refine aw_seq ?_
  refine aw_region ?_
  refine opsK_ofAlt rfl rfl rfl ?_
  repeat' (first
    | refine aw_seq ?_
    | refine aw_region ?_
    | refine aw_draw [] ?_
    | refine opsK_done ?_
    | refine opsK_on rfl ?_
    | refine opsK_off rfl ?_
    | (refine opsK_bool rfl rfl rfl (fun hb => ?_) (fun hb => ?_) <;> try cases hb)
    | refine opsK_of rfl rfl rfl ?_
    | refine opsK_new rfl rfl rfl ?_
    | refine dK_done ?_
    | refine dK_on rfl ?_
    | refine dK_off ⟨_, rfl, nofun⟩ ?_
    | (refine dK_bool rfl rfl rfl (fun hb => ?_) (fun hb => ?_) <;> try cases hb)
    | refine dK_of rfl rfl rfl ?_
    | refine aw_condT rfl ?_
    | refine aw_condF rfl ?_
    | (refine aw_cond rfl (fun hb => ?_) (fun hb => ?_) <;> try cases hb)
    | refine aw_block ?_
    | refine aw_skip ?_
    | refine aw_exit ?_
    | refine aw_ret ?_)
  refine opsK_eq (depth_spec f.depth f (Nat.le_refl _) hd) rfl rfl rfl ⟨fC_pure _ _, trivial⟩ rfl ?_
  repeat' (first
    | refine aw_seq ?_
    | refine aw_region ?_
    | refine aw_draw [] ?_
    | refine opsK_done ?_
    | refine opsK_on rfl ?_
    | refine opsK_off rfl ?_
    | (refine opsK_bool rfl rfl rfl (fun hb => ?_) (fun hb => ?_) <;> try cases hb)
    | refine opsK_of rfl rfl rfl ?_
    | refine opsK_new rfl rfl rfl ?_
    | refine dK_done ?_
    | refine dK_on rfl ?_
    | refine dK_off ⟨_, rfl, nofun⟩ ?_
    | (refine dK_bool rfl rfl rfl (fun hb => ?_) (fun hb => ?_) <;> try cases hb)
    | refine dK_of rfl rfl rfl ?_
    | refine aw_condT rfl ?_
    | refine aw_condF rfl ?_
    | (refine aw_cond rfl (fun hb => ?_) (fun hb => ?_) <;> try cases hb)
    | refine aw_block ?_
    | refine aw_skip ?_
    | refine aw_exit ?_
    | refine aw_ret ?_)
  · have h1 : f.depth > 10 := by simp at hb; omega
    exact ret_ok rfl ⟨trivial, trivial, trivial⟩ (by simp [typeOfT, typeOfE, h1, pvOf])
  have h1 : ¬ f.depth > 10 := by simp at hb; omega
  refine opsK_eq (size_spec f.depth f (Nat.le_refl _) hsz) rfl rfl rfl ⟨fC_pure _ _, trivial⟩ rfl ?_
  repeat' (first
    | refine aw_seq ?_
    | refine aw_region ?_
    | refine aw_draw [] ?_
    | refine opsK_done ?_
    | refine opsK_on rfl ?_
    | refine opsK_off rfl ?_
    | (refine opsK_bool rfl rfl rfl (fun hb => ?_) (fun hb => ?_) <;> try cases hb)
    | refine opsK_of rfl rfl rfl ?_
    | refine opsK_new rfl rfl rfl ?_
    | refine dK_done ?_
    | refine dK_on rfl ?_
    | refine dK_off ⟨_, rfl, nofun⟩ ?_
    | (refine dK_bool rfl rfl rfl (fun hb => ?_) (fun hb => ?_) <;> try cases hb)
    | refine dK_of rfl rfl rfl ?_
    | refine aw_condT rfl ?_
    | refine aw_condF rfl ?_
    | (refine aw_cond rfl (fun hb => ?_) (fun hb => ?_) <;> try cases hb)
    | refine aw_block ?_
    | refine aw_skip ?_
    | refine aw_exit ?_
    | refine aw_ret ?_)
  · have h2 : f.size > 200 := by simp at hb; omega
    exact ret_ok rfl ⟨trivial, trivial, trivial⟩ (by simp [typeOfT, typeOfE, h2, pvOf])
  have h2 : ¬ f.size > 200 := by simp at hb; omega
  refine opsK_eq (insideR_spec 0 f.depth f (Nat.le_refl _) hsz) rfl rfl rfl ⟨fC_pure _ _, trivial, trivial⟩ rfl ?_
  repeat' (first
    | refine aw_seq ?_
    | refine aw_region ?_
    | refine aw_draw [] ?_
    | refine opsK_done ?_
    | refine opsK_on rfl ?_
    | refine opsK_off rfl ?_
    | (refine opsK_bool rfl rfl rfl (fun hb => ?_) (fun hb => ?_) <;> try cases hb)
    | refine opsK_of rfl rfl rfl ?_
    | refine opsK_new rfl rfl rfl ?_
    | refine dK_done ?_
    | refine dK_on rfl ?_
    | refine dK_off ⟨_, rfl, nofun⟩ ?_
    | (refine dK_bool rfl rfl rfl (fun hb => ?_) (fun hb => ?_) <;> try cases hb)
    | refine dK_of rfl rfl rfl ?_
    | refine aw_condT rfl ?_
    | refine aw_condF rfl ?_
    | (refine aw_cond rfl (fun hb => ?_) (fun hb => ?_) <;> try cases hb)
    | refine aw_block ?_
    | refine aw_skip ?_
    | refine aw_exit ?_
    | refine aw_ret ?_)
  · have h3 : insideM 0 f ≠ 0 := by simpa using hb
    exact ret_ok rfl ⟨trivial, trivial, trivial⟩ (by simp [typeOfT, typeOfE, h1, h2, h3, pvOf])
  have h3 : insideM 0 f = 0 := by simpa using hb
  refine opsK_eq (fitsR_spec f.depth f (Nat.le_refl _)) rfl rfl rfl ⟨fC_pure _ _, trivial⟩ rfl ?_
  repeat' (first
    | refine aw_seq ?_
    | refine aw_region ?_
    | refine aw_draw [] ?_
    | refine opsK_done ?_
    | refine opsK_on rfl ?_
    | refine opsK_off rfl ?_
    | (refine opsK_bool rfl rfl rfl (fun hb => ?_) (fun hb => ?_) <;> try cases hb)
    | refine opsK_of rfl rfl rfl ?_
    | refine opsK_new rfl rfl rfl ?_
    | refine dK_done ?_
    | refine dK_on rfl ?_
    | refine dK_off ⟨_, rfl, nofun⟩ ?_
    | (refine dK_bool rfl rfl rfl (fun hb => ?_) (fun hb => ?_) <;> try cases hb)
    | refine dK_of rfl rfl rfl ?_
    | refine aw_condT rfl ?_
    | refine aw_condF rfl ?_
    | (refine aw_cond rfl (fun hb => ?_) (fun hb => ?_) <;> try cases hb)
    | refine aw_block ?_
    | refine aw_skip ?_
    | refine aw_exit ?_
    | refine aw_ret ?_)
  · have h4 : fitsM f = false := by simpa using hb
    exact ret_ok rfl ⟨trivial, trivial, trivial⟩ (by simp [typeOfT, typeOfE, h1, h2, h3, h4, pvOf])
  have h4 : fitsM f = true := by simpa using hb
  refine opsK_eq (type_spec f.op) rfl rfl rfl ⟨trivial, trivial⟩ rfl ?_
  repeat' (first
    | refine aw_seq ?_
    | refine aw_region ?_
    | refine aw_draw [] ?_
    | refine opsK_done ?_
    | refine opsK_on rfl ?_
    | refine opsK_off rfl ?_
    | (refine opsK_bool rfl rfl rfl (fun hb => ?_) (fun hb => ?_) <;> try cases hb)
    | refine opsK_of rfl rfl rfl ?_
    | refine opsK_new rfl rfl rfl ?_
    | refine dK_done ?_
    | refine dK_on rfl ?_
    | refine dK_off ⟨_, rfl, nofun⟩ ?_
    | (refine dK_bool rfl rfl rfl (fun hb => ?_) (fun hb => ?_) <;> try cases hb)
    | refine dK_of rfl rfl rfl ?_
    | refine aw_condT rfl ?_
    | refine aw_condF rfl ?_
    | (refine aw_cond rfl (fun hb => ?_) (fun hb => ?_) <;> try cases hb)
    | refine aw_block ?_
    | refine aw_skip ?_
    | refine aw_exit ?_
    | refine aw_ret ?_)
  exact ret_ok rfl ⟨trivial, trivial, trivial⟩ (by simp [typeOfT, typeOfE, h1, h2, h3, h4, pvOf])
end Go.Proofs.Ytelcpkjclcimbaa
