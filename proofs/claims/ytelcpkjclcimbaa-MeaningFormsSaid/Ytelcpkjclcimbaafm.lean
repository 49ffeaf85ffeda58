/-
  Formulas as abstract values, and what the small functions of the packages arbacref18, formula and meaning answer on them. No statement of the seat is proved here.
-/
import Derived.Test.Ytelcpkjclcimbaabt
namespace Go.Proofs.Ytelcpkjclcimbaa
open Go.RowKit
set_option linter.unusedVariables false
attribute [local irreducible] aw opsK dK

inductive Fm where
  | mk (op n : Int) (roles : List Int) (args : List Fm)
def Fm.op : Fm → Int | .mk op _ _ _ => op
def Fm.n : Fm → Int | .mk _ n _ _ => n
def Fm.roles : Fm → List Int | .mk _ _ r _ => r
def Fm.args : Fm → List Fm | .mk _ _ _ a => a

mutual
def Fm.depth : Fm → Nat
  | .mk _ _ _ args => depthL args + 1
def depthL : List Fm → Nat
  | [] => 0
  | a :: r => max a.depth (depthL r)
end
mutual
def Fm.size : Fm → Nat
  | .mk _ _ _ args => sizeL args + 1
def sizeL : List Fm → Nat
  | [] => 0
  | a :: r => a.size + sizeL r
end
theorem Fm.depth_eq (f : Fm) : f.depth = depthL f.args + 1 := by cases f; simp [Fm.depth, Fm.args]
theorem Fm.size_eq (f : Fm) : f.size = sizeL f.args + 1 := by cases f; simp [Fm.size, Fm.args]
theorem depthL_append (l m : List Fm) : depthL (l ++ m) = max (depthL l) (depthL m) := by
  induction l with
  | nil => simp [depthL]
  | cons a r ih => simp only [List.cons_append, depthL, ih]; omega
theorem sizeL_append (l m : List Fm) : sizeL (l ++ m) = sizeL l + sizeL m := by
  induction l with
  | nil => simp [sizeL]
  | cons a r ih => simp only [List.cons_append, sizeL, ih]; omega
theorem depthL_take {l : List Fm} {i : Nat} (hi : i < l.length) : depthL (l.take (i + 1)) = max (depthL (l.take i)) l[i].depth := by
  have e : l.take (i + 1) = l.take i ++ [l[i]] := by rw [List.take_add_one, List.getElem?_eq_getElem hi]; rfl
  rw [e, depthL_append]
  simp only [depthL]
  omega
theorem sizeL_take {l : List Fm} {i : Nat} (hi : i < l.length) : sizeL (l.take (i + 1)) = sizeL (l.take i) + l[i].size := by
  have e : l.take (i + 1) = l.take i ++ [l[i]] := by rw [List.take_add_one, List.getElem?_eq_getElem hi]; rfl
  rw [e, sizeL_append]
  simp only [sizeL]
  omega
theorem depthL_mem {l : List Fm} {i : Nat} (hi : i < l.length) : l[i].depth ≤ depthL l := by
  have := depthL_take hi
  have h2 := depthL_append (l.take (i + 1)) (l.drop (i + 1))
  rw [List.take_append_drop] at h2
  omega
theorem sizeL_le (l : List Fm) (i : Nat) : sizeL (l.take i) ≤ sizeL l := by
  have h2 := sizeL_append (l.take i) (l.drop i)
  rw [List.take_append_drop] at h2
  omega
theorem sizeL_mem {l : List Fm} {i : Nat} (hi : i < l.length) : l[i].size ≤ sizeL l := by
  have := sizeL_take hi
  have := sizeL_le l (i + 1)
  omega
theorem length_le_size (l : List Fm) : l.length ≤ sizeL l := by
  induction l with
  | nil => simp [sizeL]
  | cons a r ih => simp only [List.length_cons, sizeL]; have := a.size_eq; omega

/-! ### As the specification has them, and as the program -/
mutual
def cellsK (k : IntKind) : Fm → List PV
  | .mk op n roles args => [.val (.int k op), .val (.int .i64 n), .vec (nums roles) false, .vec (cellsKL k args) false]
def cellsKL (k : IntKind) : List Fm → List (List PV)
  | [] => []
  | a :: r => cellsK k a :: cellsKL k r
end
def fC (k : IntKind) (f : Fm) : List PV := [.val (.int k f.op), .val (.int .i64 f.n), .vec (nums f.roles) false, .vec (f.args.map (cellsK k)) false]
theorem cellsKL_eq (k : IntKind) (l : List Fm) : cellsKL k l = l.map (cellsK k) := by
  induction l with
  | nil => rfl
  | cons a r ih => simp [cellsKL, ih]
theorem cellsK_eq (k : IntKind) (f : Fm) : cellsK k f = fC k f := by
  cases f; simp [cellsK, fC, cellsKL_eq, Fm.op, Fm.n, Fm.roles, Fm.args]
theorem cellsK_length (k : IntKind) (f : Fm) : (cellsK k f).length = 4 := by rw [cellsK_eq]; rfl
mutual
theorem cellsK_pure (k : IntKind) : ∀ f : Fm, pureL (cellsK k f)
  | .mk op n roles args => ⟨trivial, trivial, nums_pure roles, cellsKL_pure k args, trivial⟩
theorem cellsKL_pure (k : IntKind) : ∀ l : List Fm, pureLL (cellsKL k l)
  | [] => trivial
  | a :: r => ⟨cellsK_pure k a, cellsKL_pure k r⟩
end
theorem fC_pure (k : IntKind) (f : Fm) : pureL (fC k f) := cellsK_eq k f ▸ cellsK_pure k f
theorem fArgs_pure (k : IntKind) (l : List Fm) : pureLL (l.map (cellsK k)) := cellsKL_eq k l ▸ cellsKL_pure k l
theorem fArgs_inn (k : IntKind) (l : List Fm) (D : Nat → Prop) : innLL D (l.map (cellsK k)) := innLL_mono (fun _ h => h.elim) _ (fArgs_pure k l)
theorem fC_inn (k : IntKind) (f : Fm) (D : Nat → Prop) : innL D (fC k f) := innL_mono (fun _ h => h.elim) _ (fC_pure k f)

/-- flag -/
theorem flag_spec (b : Bool) : Spec Try.prog 33 [.val (.bool b)] (· = .val (.int .i64 (if b then 1 else 0))) := by
  refine spec_intro ok33 (Nat.le_of_ble_eq_true rfl) fun C hC => ?_
  repeat' (first
    | refine aw_seq ?_
    | refine aw_region ?_
    | refine aw_draw [] ?_
    | refine opsK_done ?_
    | refine opsK_on rfl ?_
    | refine opsK_off rfl ?_
    | (refine opsK_bool rfl rfl rfl (fun hb => ?_) (fun hb => ?_) <;> try cases hb)
    | refine opsK_of rfl rfl rfl ?_
    | refine opsK_new rfl rfl rfl ?_
    | refine dK_done ?_
    | refine dK_on rfl ?_
    | refine dK_off ⟨_, rfl, nofun⟩ ?_
    | (refine dK_bool rfl rfl rfl (fun hb => ?_) (fun hb => ?_) <;> try cases hb)
    | refine dK_of rfl rfl rfl ?_
    | refine aw_condT rfl ?_
    | refine aw_condF rfl ?_
    | (refine aw_cond rfl (fun hb => ?_) (fun hb => ?_) <;> try cases hb)
    | refine aw_block ?_
    | refine aw_skip ?_
    | refine aw_exit ?_
    | refine aw_ret ?_)
  all_goals exact ret_ok rfl trivial rfl

def operandsM (op : Int) : Int := if 8 ≤ op then 2 else if op = 7 then 1 else 0
theorem operands_spec (op : Int) : Spec Try.prog 42 [.val (.int .i64 op)] (· = .val (.int .i64 (operandsM op))) := by
  refine spec_intro ok42 (Nat.le_of_ble_eq_true rfl) fun C hC => ?_
  repeat' (first
    | refine aw_seq ?_
    | refine aw_region ?_
    | refine aw_draw [] ?_
    | refine opsK_done ?_
    | refine opsK_on rfl ?_
    | refine opsK_off rfl ?_
    | (refine opsK_bool rfl rfl rfl (fun hb => ?_) (fun hb => ?_) <;> try cases hb)
    | refine opsK_of rfl rfl rfl ?_
    | refine opsK_new rfl rfl rfl ?_
    | refine dK_done ?_
    | refine dK_on rfl ?_
    | refine dK_off ⟨_, rfl, nofun⟩ ?_
    | (refine dK_bool rfl rfl rfl (fun hb => ?_) (fun hb => ?_) <;> try cases hb)
    | refine dK_of rfl rfl rfl ?_
    | refine aw_condT rfl ?_
    | refine aw_condF rfl ?_
    | (refine aw_cond rfl (fun hb => ?_) (fun hb => ?_) <;> try cases hb)
    | refine aw_block ?_
    | refine aw_skip ?_
    | refine aw_exit ?_
    | refine aw_ret ?_)
  all_goals refine ret_ok rfl trivial ?_; simp_all [operandsM, pvOf]
def leastM (op : Int) : Int := if op = 4 ∨ op = 6 then 1 else if op = 5 then 1 else 0
def mostM (op : Int) : Int := if op = 4 ∨ op = 6 then 1 else if op = 5 then 8 else 0
theorem arity_spec (op : Int) : Spec Try.prog 49 [.val (.int .u8 op)] (· = .tup [.val (.int .i64 (operandsM op)), .val (.int .i64 (leastM op)), .val (.int .i64 (mostM op))]) := by
  refine spec_intro ok49 (Nat.le_of_ble_eq_true rfl) fun C hC => ?_
  repeat' (first
    | refine aw_seq ?_
    | refine aw_region ?_
    | refine aw_draw [] ?_
    | refine opsK_done ?_
    | refine opsK_on rfl ?_
    | refine opsK_off rfl ?_
    | (refine opsK_bool rfl rfl rfl (fun hb => ?_) (fun hb => ?_) <;> try cases hb)
    | refine opsK_of rfl rfl rfl ?_
    | refine opsK_new rfl rfl rfl ?_
    | refine dK_done ?_
    | refine dK_on rfl ?_
    | refine dK_off ⟨_, rfl, nofun⟩ ?_
    | (refine dK_bool rfl rfl rfl (fun hb => ?_) (fun hb => ?_) <;> try cases hb)
    | refine dK_of rfl rfl rfl ?_
    | refine aw_condT rfl ?_
    | refine aw_condF rfl ?_
    | (refine aw_cond rfl (fun hb => ?_) (fun hb => ?_) <;> try cases hb)
    | refine aw_block ?_
    | refine aw_skip ?_
    | refine aw_exit ?_
    | refine aw_ret ?_)
  all_goals refine ret_ok rfl ⟨trivial, trivial, trivial, trivial⟩ ?_
  all_goals simp_all [operandsM, leastM, mostM, pvOf]
  all_goals try omega
def typeM (op : Int) : Int := if op = 1 ∨ op = 5 ∨ op = 6 ∨ op = 16 then 2 else 1
theorem result_spec (op : Int) : Spec Try.prog 32 [.val (.int .u8 op)] (· = .val (.int .u8 (typeM op))) := by
  refine spec_intro ok32 (Nat.le_of_ble_eq_true rfl) fun C hC => ?_
  repeat' (first
    | refine aw_seq ?_
    | refine aw_region ?_
    | refine aw_draw [] ?_
    | refine opsK_done ?_
    | refine opsK_on rfl ?_
    | refine opsK_off rfl ?_
    | (refine opsK_bool rfl rfl rfl (fun hb => ?_) (fun hb => ?_) <;> try cases hb)
    | refine opsK_of rfl rfl rfl ?_
    | refine opsK_new rfl rfl rfl ?_
    | refine dK_done ?_
    | refine dK_on rfl ?_
    | refine dK_off ⟨_, rfl, nofun⟩ ?_
    | (refine dK_bool rfl rfl rfl (fun hb => ?_) (fun hb => ?_) <;> try cases hb)
    | refine dK_of rfl rfl rfl ?_
    | refine aw_condT rfl ?_
    | refine aw_condF rfl ?_
    | (refine aw_cond rfl (fun hb => ?_) (fun hb => ?_) <;> try cases hb)
    | refine aw_block ?_
    | refine aw_skip ?_
    | refine aw_exit ?_
    | refine aw_ret ?_)
  all_goals refine ret_ok rfl trivial ?_; simp_all [typeM, pvOf]
theorem type_spec (op : Int) : Spec Try.prog 40 [.val (.int .i64 op)] (· = .val (.int .i64 (typeM op))) := by
  refine spec_intro ok40 (Nat.le_of_ble_eq_true rfl) fun C hC => ?_
  repeat' (first
    | refine aw_seq ?_
    | refine aw_region ?_
    | refine aw_draw [] ?_
    | refine opsK_done ?_
    | refine opsK_on rfl ?_
    | refine opsK_off rfl ?_
    | (refine opsK_bool rfl rfl rfl (fun hb => ?_) (fun hb => ?_) <;> try cases hb)
    | refine opsK_of rfl rfl rfl ?_
    | refine opsK_new rfl rfl rfl ?_
    | refine dK_done ?_
    | refine dK_on rfl ?_
    | refine dK_off ⟨_, rfl, nofun⟩ ?_
    | (refine dK_bool rfl rfl rfl (fun hb => ?_) (fun hb => ?_) <;> try cases hb)
    | refine dK_of rfl rfl rfl ?_
    | refine aw_condT rfl ?_
    | refine aw_condF rfl ?_
    | (refine aw_cond rfl (fun hb => ?_) (fun hb => ?_) <;> try cases hb)
    | refine aw_block ?_
    | refine aw_skip ?_
    | refine aw_exit ?_
    | refine aw_ret ?_)
  all_goals refine ret_ok rfl trivial ?_; simp_all [typeM, pvOf]

theorem depth_spec : ∀ (d : Nat) (f : Fm), f.depth ≤ d → d ≤ 1000 → Spec Try.prog 36 [.agg (fC .i64 f)] (· = .val (.int .i64 f.depth)) := by
  intro d
  induction d with
  | zero => intro f hf; rw [Fm.depth_eq] at hf; omega
  | succ d ih =>
    intro f hf hd
    refine spec_intro ok36 (Nat.le_of_ble_eq_true rfl) fun C hC => ?_
    refine aw_seq ?_
    refine aw_region ?_
    refine opsK_ofAlt rfl rfl rfl ?_
    repeat' (first
      | refine aw_seq ?_
      | refine aw_region ?_
      | refine aw_draw [] ?_
      | refine opsK_done ?_
      | refine opsK_on rfl ?_
      | refine opsK_off rfl ?_
      | (refine opsK_bool rfl rfl rfl (fun hb => ?_) (fun hb => ?_) <;> try cases hb)
      | refine opsK_of rfl rfl rfl ?_
      | refine opsK_new rfl rfl rfl ?_
      | refine dK_done ?_
      | refine dK_on rfl ?_
      | refine dK_off ⟨_, rfl, nofun⟩ ?_
      | (refine dK_bool rfl rfl rfl (fun hb => ?_) (fun hb => ?_) <;> try cases hb)
      | refine dK_of rfl rfl rfl ?_
      | refine aw_condT rfl ?_
      | refine aw_condF rfl ?_
      | (refine aw_cond rfl (fun hb => ?_) (fun hb => ?_) <;> try cases hb)
      | refine aw_block ?_
      | refine aw_skip ?_
      | refine aw_exit ?_
      | refine aw_ret ?_)
    have hll : (f.args.map (cellsK .i64)).length = f.args.length := by simp
    refine aw_len (k := 7) rfl fun hmax => ?_
    rw [hll] at hmax
    refine aw_loopH hC (fun i => i ≤ f.args.length) (fun i => f.args.length - i) 0 (fun i => [(3, .val (.int .i64 (depthL (f.args.take i)))), (7, .vec (f.args.map (cellsK .i64)) false), (8, .val (.int .i64 f.args.length)), (9, .val (.int .i64 (i : Int)))]) (fun _ => []) (Nat.le_refl _) 0 (Nat.zero_le _)
      ⟨⟨rfl, trivial⟩, ⟨rfl, fArgs_inn _ _ _⟩, ⟨by rw [← hll]; rfl, trivial⟩, ⟨rfl, trivial⟩, trivial⟩ trivial ?_
    intro i hi
    have hinc : IntKind.i64.wrap ((i : Int) + 1) = ((i + 1 : Nat) : Int) := IntWalk.i64_in _ ⟨by omega, by simp only [maxVec] at hmax; omega⟩
    repeat' (first
      | refine aw_seq ?_
      | refine aw_region ?_
      | refine aw_draw [] ?_
      | refine opsK_done ?_
      | refine opsK_on rfl ?_
      | refine opsK_off rfl ?_
      | (refine opsK_bool rfl rfl rfl (fun hb => ?_) (fun hb => ?_) <;> try cases hb)
      | refine opsK_of rfl rfl rfl ?_
      | refine opsK_new rfl rfl rfl ?_
      | refine dK_done ?_
      | refine dK_on rfl ?_
      | refine dK_off ⟨_, rfl, nofun⟩ ?_
      | (refine dK_bool rfl rfl rfl (fun hb => ?_) (fun hb => ?_) <;> try cases hb)
      | refine dK_of rfl rfl rfl ?_
      | refine aw_condT rfl ?_
      | refine aw_condF rfl ?_
      | (refine aw_cond rfl (fun hb => ?_) (fun hb => ?_) <;> try cases hb)
      | refine aw_block ?_
      | refine aw_skip ?_
      | refine aw_exit ?_
      | refine aw_ret ?_)
    · have hil : i < f.args.length := by simpa using hb
      refine opsK_of (E_iaddr (xs := f.args) rfl rfl i rfl hil (cellsK_length _ _)) rfl rfl ?_
      rw [cellsK_eq]
      repeat' (first
        | refine aw_seq ?_
        | refine aw_region ?_
        | refine aw_draw [] ?_
        | refine opsK_done ?_
        | refine opsK_on rfl ?_
        | refine opsK_off rfl ?_
        | (refine opsK_bool rfl rfl rfl (fun hb => ?_) (fun hb => ?_) <;> try cases hb)
        | refine opsK_of rfl rfl rfl ?_
        | refine opsK_new rfl rfl rfl ?_
        | refine dK_done ?_
        | refine dK_on rfl ?_
        | refine dK_off ⟨_, rfl, nofun⟩ ?_
        | (refine dK_bool rfl rfl rfl (fun hb => ?_) (fun hb => ?_) <;> try cases hb)
        | refine dK_of rfl rfl rfl ?_
        | refine aw_condT rfl ?_
        | refine aw_condF rfl ?_
        | (refine aw_cond rfl (fun hb => ?_) (fun hb => ?_) <;> try cases hb)
        | refine aw_block ?_
        | refine aw_skip ?_
        | refine aw_exit ?_
        | refine aw_ret ?_)
      have hdl := depthL_mem hil
      have hfd := f.depth_eq
      refine opsK_eq (ih f.args[i] (by omega) (by omega)) rfl rfl rfl ⟨fC_pure _ _, trivial⟩ rfl ?_
      repeat' (first
        | refine aw_seq ?_
        | refine aw_region ?_
        | refine aw_draw [] ?_
        | refine opsK_done ?_
        | refine opsK_on rfl ?_
        | refine opsK_off rfl ?_
        | (refine opsK_bool rfl rfl rfl (fun hb => ?_) (fun hb => ?_) <;> try cases hb)
        | refine opsK_of rfl rfl rfl ?_
        | refine opsK_new rfl rfl rfl ?_
        | refine dK_done ?_
        | refine dK_on rfl ?_
        | refine dK_off ⟨_, rfl, nofun⟩ ?_
        | (refine dK_bool rfl rfl rfl (fun hb => ?_) (fun hb => ?_) <;> try cases hb)
        | refine dK_of rfl rfl rfl ?_
        | refine aw_condT rfl ?_
        | refine aw_condF rfl ?_
        | (refine aw_cond rfl (fun hb => ?_) (fun hb => ?_) <;> try cases hb)
        | refine aw_block ?_
        | refine aw_skip ?_
        | refine aw_exit ?_
        | refine aw_ret ?_)
      refine ⟨i + 1, by omega, by omega, ⟨⟨?_, trivial⟩, ⟨rfl, fArgs_inn _ _ _⟩, ⟨rfl, trivial⟩, ⟨by show some _ = some _; rw [hinc], trivial⟩, trivial⟩, trivial⟩
      show some _ = some _
      rw [depthL_take hil]
      congr 3
      omega
    · have hil : i = f.args.length := by simp at hb; omega
      subst hil
      rw [List.take_length] at *
      have hfd := f.depth_eq
      refine ret_ok rfl trivial ?_
      congr 2
      rw [IntWalk.i64_in _ ⟨by omega, by omega⟩, hfd]
      rfl

theorem size_spec : ∀ (d : Nat) (f : Fm), f.depth ≤ d → f.size ≤ 1099511627776 → Spec Try.prog 37 [.agg (fC .i64 f)] (· = .val (.int .i64 f.size)) := by
  intro d
  induction d with
  | zero => intro f hf; rw [Fm.depth_eq] at hf; omega
  | succ d ih =>
    intro f hf hd
    refine spec_intro ok37 (Nat.le_of_ble_eq_true rfl) fun C hC => ?_
    refine aw_seq ?_
    refine aw_region ?_
    refine opsK_ofAlt rfl rfl rfl ?_
    repeat' (first
      | refine aw_seq ?_
      | refine aw_region ?_
      | refine aw_draw [] ?_
      | refine opsK_done ?_
      | refine opsK_on rfl ?_
      | refine opsK_off rfl ?_
      | (refine opsK_bool rfl rfl rfl (fun hb => ?_) (fun hb => ?_) <;> try cases hb)
      | refine opsK_of rfl rfl rfl ?_
      | refine opsK_new rfl rfl rfl ?_
      | refine dK_done ?_
      | refine dK_on rfl ?_
      | refine dK_off ⟨_, rfl, nofun⟩ ?_
      | (refine dK_bool rfl rfl rfl (fun hb => ?_) (fun hb => ?_) <;> try cases hb)
      | refine dK_of rfl rfl rfl ?_
      | refine aw_condT rfl ?_
      | refine aw_condF rfl ?_
      | (refine aw_cond rfl (fun hb => ?_) (fun hb => ?_) <;> try cases hb)
      | refine aw_block ?_
      | refine aw_skip ?_
      | refine aw_exit ?_
      | refine aw_ret ?_)
    have hll : (f.args.map (cellsK .i64)).length = f.args.length := by simp
    have hfs := f.size_eq
    have hlm := length_le_size f.args
    refine aw_loopH hC (fun i => i ≤ f.args.length) (fun i => f.args.length - i) 0 (fun i => [(3, .val (.int .i64 ((sizeL (f.args.take i) + 1 : Nat) : Int))), (7, .vec (f.args.map (cellsK .i64)) false), (8, .val (.int .i64 f.args.length)), (9, .val (.int .i64 (i : Int)))]) (fun _ => []) (Nat.le_refl _) 0 (Nat.zero_le _)
      ⟨⟨rfl, trivial⟩, ⟨rfl, fArgs_inn _ _ _⟩, ⟨by rw [← hll]; rfl, trivial⟩, ⟨rfl, trivial⟩, trivial⟩ trivial ?_
    intro i hi
    have hinc : IntKind.i64.wrap ((i : Int) + 1) = ((i + 1 : Nat) : Int) := IntWalk.i64_in _ ⟨by omega, by omega⟩
    repeat' (first
      | refine aw_seq ?_
      | refine aw_region ?_
      | refine aw_draw [] ?_
      | refine opsK_done ?_
      | refine opsK_on rfl ?_
      | refine opsK_off rfl ?_
      | (refine opsK_bool rfl rfl rfl (fun hb => ?_) (fun hb => ?_) <;> try cases hb)
      | refine opsK_of rfl rfl rfl ?_
      | refine opsK_new rfl rfl rfl ?_
      | refine dK_done ?_
      | refine dK_on rfl ?_
      | refine dK_off ⟨_, rfl, nofun⟩ ?_
      | (refine dK_bool rfl rfl rfl (fun hb => ?_) (fun hb => ?_) <;> try cases hb)
      | refine dK_of rfl rfl rfl ?_
      | refine aw_condT rfl ?_
      | refine aw_condF rfl ?_
      | (refine aw_cond rfl (fun hb => ?_) (fun hb => ?_) <;> try cases hb)
      | refine aw_block ?_
      | refine aw_skip ?_
      | refine aw_exit ?_
      | refine aw_ret ?_)
    · have hil : i < f.args.length := by simpa using hb
      refine opsK_of (E_iaddr (xs := f.args) rfl rfl i rfl hil (cellsK_length _ _)) rfl rfl ?_
      rw [cellsK_eq]
      repeat' (first
        | refine aw_seq ?_
        | refine aw_region ?_
        | refine aw_draw [] ?_
        | refine opsK_done ?_
        | refine opsK_on rfl ?_
        | refine opsK_off rfl ?_
        | (refine opsK_bool rfl rfl rfl (fun hb => ?_) (fun hb => ?_) <;> try cases hb)
        | refine opsK_of rfl rfl rfl ?_
        | refine opsK_new rfl rfl rfl ?_
        | refine dK_done ?_
        | refine dK_on rfl ?_
        | refine dK_off ⟨_, rfl, nofun⟩ ?_
        | (refine dK_bool rfl rfl rfl (fun hb => ?_) (fun hb => ?_) <;> try cases hb)
        | refine dK_of rfl rfl rfl ?_
        | refine aw_condT rfl ?_
        | refine aw_condF rfl ?_
        | (refine aw_cond rfl (fun hb => ?_) (fun hb => ?_) <;> try cases hb)
        | refine aw_block ?_
        | refine aw_skip ?_
        | refine aw_exit ?_
        | refine aw_ret ?_)
      have hdl := depthL_mem hil
      have hsl := sizeL_mem hil
      have hsi := sizeL_le f.args (i + 1)
      have htk := sizeL_take hil
      have hfd := f.depth_eq
      refine opsK_eq (ih f.args[i] (by omega) (by omega)) rfl rfl rfl ⟨fC_pure _ _, trivial⟩ rfl ?_
      repeat' (first
        | refine aw_seq ?_
        | refine aw_region ?_
        | refine aw_draw [] ?_
        | refine opsK_done ?_
        | refine opsK_on rfl ?_
        | refine opsK_off rfl ?_
        | (refine opsK_bool rfl rfl rfl (fun hb => ?_) (fun hb => ?_) <;> try cases hb)
        | refine opsK_of rfl rfl rfl ?_
        | refine opsK_new rfl rfl rfl ?_
        | refine dK_done ?_
        | refine dK_on rfl ?_
        | refine dK_off ⟨_, rfl, nofun⟩ ?_
        | (refine dK_bool rfl rfl rfl (fun hb => ?_) (fun hb => ?_) <;> try cases hb)
        | refine dK_of rfl rfl rfl ?_
        | refine aw_condT rfl ?_
        | refine aw_condF rfl ?_
        | (refine aw_cond rfl (fun hb => ?_) (fun hb => ?_) <;> try cases hb)
        | refine aw_block ?_
        | refine aw_skip ?_
        | refine aw_exit ?_
        | refine aw_ret ?_)
      refine ⟨i + 1, by omega, by omega, ⟨⟨?_, trivial⟩, ⟨rfl, fArgs_inn _ _ _⟩, ⟨rfl, trivial⟩, ⟨by show some _ = some _; rw [hinc], trivial⟩, trivial⟩, trivial⟩
      show some _ = some _
      congr 3
      rw [IntWalk.i64_in _ ⟨by omega, by omega⟩]
      omega
    · have hil : i = f.args.length := by simp at hb; omega
      subst hil
      rw [List.take_length] at *
      exact ret_ok rfl trivial (by rw [hfs])

theorem measure_spec : ∀ (d : Nat) (f : Fm), f.depth ≤ d → d ≤ 1000 → f.size ≤ 1099511627776 → Spec Try.prog 44 [.agg (fC .u8 f)] (· = .tup [.val (.int .i64 f.depth), .val (.int .i64 f.size)]) := by
  intro d
  induction d with
  | zero => intro f hf; rw [Fm.depth_eq] at hf; omega
  | succ d ih =>
    intro f hf hd hsz
    refine spec_intro ok44 (Nat.le_of_ble_eq_true rfl) fun C hC => ?_
    refine aw_seq ?_
    refine aw_region ?_
    refine opsK_ofAlt rfl rfl rfl ?_
    repeat' (first
      | refine aw_seq ?_
      | refine aw_region ?_
      | refine aw_draw [] ?_
      | refine opsK_done ?_
      | refine opsK_on rfl ?_
      | refine opsK_off rfl ?_
      | (refine opsK_bool rfl rfl rfl (fun hb => ?_) (fun hb => ?_) <;> try cases hb)
      | refine opsK_of rfl rfl rfl ?_
      | refine opsK_new rfl rfl rfl ?_
      | refine dK_done ?_
      | refine dK_on rfl ?_
      | refine dK_off ⟨_, rfl, nofun⟩ ?_
      | (refine dK_bool rfl rfl rfl (fun hb => ?_) (fun hb => ?_) <;> try cases hb)
      | refine dK_of rfl rfl rfl ?_
      | refine aw_condT rfl ?_
      | refine aw_condF rfl ?_
      | (refine aw_cond rfl (fun hb => ?_) (fun hb => ?_) <;> try cases hb)
      | refine aw_block ?_
      | refine aw_skip ?_
      | refine aw_exit ?_
      | refine aw_ret ?_)
    have hll : (f.args.map (cellsK .u8)).length = f.args.length := by simp
    have hfs := f.size_eq
    have hfd := f.depth_eq
    have hlm := length_le_size f.args
    refine aw_loopH hC (fun i => i ≤ f.args.length) (fun i => f.args.length - i) 0 (fun i => [(2, .val (.int .i64 (depthL (f.args.take i)))), (3, .val (.int .i64 (sizeL (f.args.take i)))), (9, .vec (f.args.map (cellsK .u8)) false), (10, .val (.int .i64 f.args.length)), (11, .val (.int .i64 (i : Int)))]) (fun _ => []) (Nat.le_refl _) 0 (Nat.zero_le _)
      ⟨⟨rfl, trivial⟩, ⟨rfl, trivial⟩, ⟨rfl, fArgs_inn _ _ _⟩, ⟨by rw [← hll]; rfl, trivial⟩, ⟨rfl, trivial⟩, trivial⟩ trivial ?_
    intro i hi
    have hinc : IntKind.i64.wrap ((i : Int) + 1) = ((i + 1 : Nat) : Int) := IntWalk.i64_in _ ⟨by omega, by omega⟩
    repeat' (first
      | refine aw_seq ?_
      | refine aw_region ?_
      | refine aw_draw [] ?_
      | refine opsK_done ?_
      | refine opsK_on rfl ?_
      | refine opsK_off rfl ?_
      | (refine opsK_bool rfl rfl rfl (fun hb => ?_) (fun hb => ?_) <;> try cases hb)
      | refine opsK_of rfl rfl rfl ?_
      | refine opsK_new rfl rfl rfl ?_
      | refine dK_done ?_
      | refine dK_on rfl ?_
      | refine dK_off ⟨_, rfl, nofun⟩ ?_
      | (refine dK_bool rfl rfl rfl (fun hb => ?_) (fun hb => ?_) <;> try cases hb)
      | refine dK_of rfl rfl rfl ?_
      | refine aw_condT rfl ?_
      | refine aw_condF rfl ?_
      | (refine aw_cond rfl (fun hb => ?_) (fun hb => ?_) <;> try cases hb)
      | refine aw_block ?_
      | refine aw_skip ?_
      | refine aw_exit ?_
      | refine aw_ret ?_)
    · have hil : i < f.args.length := by simpa using hb
      refine opsK_of (E_iaddr (xs := f.args) rfl rfl i rfl hil (cellsK_length _ _)) rfl rfl ?_
      rw [cellsK_eq]
      repeat' (first
        | refine aw_seq ?_
        | refine aw_region ?_
        | refine aw_draw [] ?_
        | refine opsK_done ?_
        | refine opsK_on rfl ?_
        | refine opsK_off rfl ?_
        | (refine opsK_bool rfl rfl rfl (fun hb => ?_) (fun hb => ?_) <;> try cases hb)
        | refine opsK_of rfl rfl rfl ?_
        | refine opsK_new rfl rfl rfl ?_
        | refine dK_done ?_
        | refine dK_on rfl ?_
        | refine dK_off ⟨_, rfl, nofun⟩ ?_
        | (refine dK_bool rfl rfl rfl (fun hb => ?_) (fun hb => ?_) <;> try cases hb)
        | refine dK_of rfl rfl rfl ?_
        | refine aw_condT rfl ?_
        | refine aw_condF rfl ?_
        | (refine aw_cond rfl (fun hb => ?_) (fun hb => ?_) <;> try cases hb)
        | refine aw_block ?_
        | refine aw_skip ?_
        | refine aw_exit ?_
        | refine aw_ret ?_)
      have hdl := depthL_mem hil
      have hsl := sizeL_mem hil
      have hsi := sizeL_le f.args (i + 1)
      have htk := sizeL_take hil
      refine opsK_eq (ih f.args[i] (by omega) (by omega) (by omega)) rfl rfl rfl ⟨fC_pure _ _, trivial⟩ rfl ?_
      repeat' (first
        | refine aw_seq ?_
        | refine aw_region ?_
        | refine aw_draw [] ?_
        | refine opsK_done ?_
        | refine opsK_on rfl ?_
        | refine opsK_off rfl ?_
        | (refine opsK_bool rfl rfl rfl (fun hb => ?_) (fun hb => ?_) <;> try cases hb)
        | refine opsK_of rfl rfl rfl ?_
        | refine opsK_new rfl rfl rfl ?_
        | refine dK_done ?_
        | refine dK_on rfl ?_
        | refine dK_off ⟨_, rfl, nofun⟩ ?_
        | (refine dK_bool rfl rfl rfl (fun hb => ?_) (fun hb => ?_) <;> try cases hb)
        | refine dK_of rfl rfl rfl ?_
        | refine aw_condT rfl ?_
        | refine aw_condF rfl ?_
        | (refine aw_cond rfl (fun hb => ?_) (fun hb => ?_) <;> try cases hb)
        | refine aw_block ?_
        | refine aw_skip ?_
        | refine aw_exit ?_
        | refine aw_ret ?_)
      refine ⟨i + 1, by omega, by omega, ⟨⟨?_, trivial⟩, ⟨?_, trivial⟩, ⟨rfl, fArgs_inn _ _ _⟩, ⟨rfl, trivial⟩, ⟨by show some _ = some _; rw [hinc], trivial⟩, trivial⟩, trivial⟩
      · show some _ = some _
        rw [depthL_take hil]
        congr 3
        omega
      · show some _ = some _
        congr 3
        rw [IntWalk.i64_in _ ⟨by omega, by omega⟩]
        omega
    · have hil : i = f.args.length := by simp at hb; omega
      subst hil
      rw [List.take_length] at *
      refine ret_ok rfl ⟨trivial, trivial, trivial⟩ ?_
      rw [IntWalk.i64_in _ ⟨by omega, by omega⟩, IntWalk.i64_in _ ⟨by omega, by omega⟩, hfs, hfd]
      rfl

/-! ### Do all operands have the types that their operators need? -/
def wantM (op : Int) : Int := if op ≥ 11 then 2 else 1
mutual
def fitsM : Fm → Bool
  | .mk op _ _ args => fitsL (wantM op) args
def fitsL (w : Int) : List Fm → Bool
  | [] => true
  | a :: r => decide (typeM a.op = w) && fitsM a && fitsL w r
end
theorem fitsM_eq (f : Fm) : fitsM f = fitsL (wantM f.op) f.args := by cases f; simp [fitsM, Fm.op, Fm.args]
theorem fitsL_append (w : Int) (l m : List Fm) : fitsL w (l ++ m) = (fitsL w l && fitsL w m) := by
  induction l with
  | nil => simp [fitsL]
  | cons a r ih => simp only [List.cons_append, fitsL, ih, Bool.and_assoc]
theorem fitsL_take {w : Int} {l : List Fm} {i : Nat} (hi : i < l.length) : fitsL w (l.take (i + 1)) = (fitsL w (l.take i) && (decide (typeM l[i].op = w) && fitsM l[i])) := by
  have e : l.take (i + 1) = l.take i ++ [l[i]] := by rw [List.take_add_one, List.getElem?_eq_getElem hi]; rfl
  rw [e, fitsL_append]
  simp [fitsL]
theorem fitsL_bad {w : Int} {l : List Fm} {i : Nat} (hi : i < l.length) (h : (decide (typeM l[i].op = w) && fitsM l[i]) = false) : fitsL w l = false := by
  have h2 := fitsL_append w (l.take (i + 1)) (l.drop (i + 1))
  rw [List.take_append_drop, fitsL_take hi, h] at h2
  simpa using h2

theorem fits_spec : ∀ (d : Nat) (f : Fm), f.depth ≤ d → Spec Try.prog 31 [.agg (fC .u8 f)] (· = .val (.bool (fitsM f))) := by
  intro d
  induction d with
  | zero => intro f hf; rw [Fm.depth_eq] at hf; omega
  | succ d ih =>
    intro f hf
    have hll : (f.args.map (cellsK .u8)).length = f.args.length := by simp
    have hfd := f.depth_eq
    refine spec_intro ok31 (Nat.le_of_ble_eq_true rfl) fun C hC => ?_
    refine aw_seq ?_
    refine aw_region ?_
    refine opsK_ofAlt rfl rfl rfl ?_
    repeat' (first
      | refine aw_seq ?_
      | refine aw_region ?_
      | refine aw_draw [] ?_
      | refine opsK_done ?_
      | refine opsK_on rfl ?_
      | refine opsK_off rfl ?_
      | (refine opsK_bool rfl rfl rfl (fun hb => ?_) (fun hb => ?_) <;> try cases hb)
      | refine opsK_of rfl rfl rfl ?_
      | refine opsK_new rfl rfl rfl ?_
      | refine dK_done ?_
      | refine dK_on rfl ?_
      | refine dK_off ⟨_, rfl, nofun⟩ ?_
      | (refine dK_bool rfl rfl rfl (fun hb => ?_) (fun hb => ?_) <;> try cases hb)
      | refine dK_of rfl rfl rfl ?_
      | refine aw_condT rfl ?_
      | refine aw_condF rfl ?_
      | (refine aw_cond rfl (fun hb => ?_) (fun hb => ?_) <;> try cases hb)
      | refine aw_block ?_
      | refine aw_skip ?_
      | refine aw_exit ?_
      | refine aw_ret ?_)
    all_goals
      have hw : wantM f.op = (if f.op ≥ 11 then 2 else 1) := rfl
      have hop' := hb
      simp only [decide_eq_true_eq, decide_eq_false_iff_not] at hop'
      first | rw [if_pos hop'] at hw | rw [if_neg hop'] at hw
      clear hb hop'
      refine aw_len (k := 10) rfl fun hmax => ?_
      rw [hll] at hmax
      refine aw_loopH hC (fun i => i ≤ f.args.length ∧ fitsL (wantM f.op) (f.args.take i) = true) (fun i => f.args.length - i) 0 (fun i => [(3, .val (.int .u8 (wantM f.op))), (10, .vec (f.args.map (cellsK .u8)) false), (11, .val (.int .i64 f.args.length)), (12, .val (.int .i64 (i : Int)))]) (fun _ => []) (Nat.le_refl _) 0 ⟨Nat.zero_le _, rfl⟩
        ⟨⟨by rw [hw]; rfl, trivial⟩, ⟨rfl, fArgs_inn _ _ _⟩, ⟨by rw [← hll]; rfl, trivial⟩, ⟨rfl, trivial⟩, trivial⟩ trivial ?_
      rintro i ⟨hi, hfit⟩
      have hinc : IntKind.i64.wrap ((i : Int) + 1) = ((i + 1 : Nat) : Int) := IntWalk.i64_in _ ⟨by omega, by simp only [maxVec] at hmax; omega⟩
      repeat' (first
        | refine aw_seq ?_
        | refine aw_region ?_
        | refine aw_draw [] ?_
        | refine opsK_done ?_
        | refine opsK_on rfl ?_
        | refine opsK_off rfl ?_
        | (refine opsK_bool rfl rfl rfl (fun hb => ?_) (fun hb => ?_) <;> try cases hb)
        | refine opsK_of rfl rfl rfl ?_
        | refine opsK_new rfl rfl rfl ?_
        | refine dK_done ?_
        | refine dK_on rfl ?_
        | refine dK_off ⟨_, rfl, nofun⟩ ?_
        | (refine dK_bool rfl rfl rfl (fun hb => ?_) (fun hb => ?_) <;> try cases hb)
        | refine dK_of rfl rfl rfl ?_
        | refine aw_condT rfl ?_
        | refine aw_condF rfl ?_
        | (refine aw_cond rfl (fun hb => ?_) (fun hb => ?_) <;> try cases hb)
        | refine aw_block ?_
        | refine aw_skip ?_
        | refine aw_exit ?_
        | refine aw_ret ?_)
      · have hil : i < f.args.length := by simpa using hb
        refine opsK_of (E_iaddr (xs := f.args) rfl rfl i rfl hil (cellsK_length _ _)) rfl rfl ?_
        rw [cellsK_eq]
        repeat' (first
          | refine aw_seq ?_
          | refine aw_region ?_
          | refine aw_draw [] ?_
          | refine opsK_done ?_
          | refine opsK_on rfl ?_
          | refine opsK_off rfl ?_
          | (refine opsK_bool rfl rfl rfl (fun hb => ?_) (fun hb => ?_) <;> try cases hb)
          | refine opsK_of rfl rfl rfl ?_
          | refine opsK_new rfl rfl rfl ?_
          | refine dK_done ?_
          | refine dK_on rfl ?_
          | refine dK_off ⟨_, rfl, nofun⟩ ?_
          | (refine dK_bool rfl rfl rfl (fun hb => ?_) (fun hb => ?_) <;> try cases hb)
          | refine dK_of rfl rfl rfl ?_
          | refine aw_condT rfl ?_
          | refine aw_condF rfl ?_
          | (refine aw_cond rfl (fun hb => ?_) (fun hb => ?_) <;> try cases hb)
          | refine aw_block ?_
          | refine aw_skip ?_
          | refine aw_exit ?_
          | refine aw_ret ?_)
        have hdl := depthL_mem hil
        refine opsK_eq (result_spec f.args[i].op) rfl rfl rfl ⟨trivial, trivial⟩ rfl ?_
        repeat' (first
          | refine aw_seq ?_
          | refine aw_region ?_
          | refine aw_draw [] ?_
          | refine opsK_done ?_
          | refine opsK_on rfl ?_
          | refine opsK_off rfl ?_
          | (refine opsK_bool rfl rfl rfl (fun hb => ?_) (fun hb => ?_) <;> try cases hb)
          | refine opsK_of rfl rfl rfl ?_
          | refine opsK_new rfl rfl rfl ?_
          | refine dK_done ?_
          | refine dK_on rfl ?_
          | refine dK_off ⟨_, rfl, nofun⟩ ?_
          | (refine dK_bool rfl rfl rfl (fun hb => ?_) (fun hb => ?_) <;> try cases hb)
          | refine dK_of rfl rfl rfl ?_
          | refine aw_condT rfl ?_
          | refine aw_condF rfl ?_
          | (refine aw_cond rfl (fun hb => ?_) (fun hb => ?_) <;> try cases hb)
          | refine aw_block ?_
          | refine aw_skip ?_
          | refine aw_exit ?_
          | refine aw_ret ?_)
        · refine ret_ok rfl trivial ?_
          rw [fitsM_eq, fitsL_bad hil (by simp at hb; simp [hb])]
        · refine opsK_eq (ih f.args[i] (by omega)) rfl rfl rfl ⟨fC_pure _ _, trivial⟩ rfl ?_
          repeat' (first
            | refine aw_seq ?_
            | refine aw_region ?_
            | refine aw_draw [] ?_
            | refine opsK_done ?_
            | refine opsK_on rfl ?_
            | refine opsK_off rfl ?_
            | (refine opsK_bool rfl rfl rfl (fun hb => ?_) (fun hb => ?_) <;> try cases hb)
            | refine opsK_of rfl rfl rfl ?_
            | refine opsK_new rfl rfl rfl ?_
            | refine dK_done ?_
            | refine dK_on rfl ?_
            | refine dK_off ⟨_, rfl, nofun⟩ ?_
            | (refine dK_bool rfl rfl rfl (fun hb => ?_) (fun hb => ?_) <;> try cases hb)
            | refine dK_of rfl rfl rfl ?_
            | refine aw_condT rfl ?_
            | refine aw_condF rfl ?_
            | (refine aw_cond rfl (fun hb => ?_) (fun hb => ?_) <;> try cases hb)
            | refine aw_block ?_
            | refine aw_skip ?_
            | refine aw_exit ?_
            | refine aw_ret ?_)
          · refine ret_ok rfl trivial ?_
            rw [fitsM_eq, fitsL_bad hil (by simp at hb; simp [hb])]
          · refine ⟨i + 1, ⟨by omega, ?_⟩, by omega, ⟨⟨rfl, trivial⟩, ⟨rfl, fArgs_inn _ _ _⟩, ⟨rfl, trivial⟩, ⟨by show some _ = some _; rw [hinc], trivial⟩, trivial⟩, trivial⟩
            rename_i hne
            rw [fitsL_take hil, hfit]
            simp at hb hne
            simp [hb, hne]
      · have hil : i = f.args.length := by simp at hb; omega
        subst hil
        rw [List.take_length] at hfit
        exact ret_ok rfl trivial (by rw [fitsM_eq, hfit])

theorem fitsR_spec : ∀ (d : Nat) (f : Fm), f.depth ≤ d → Spec Try.prog 39 [.agg (fC .i64 f)] (· = .val (.bool (fitsM f))) := by
  intro d
  induction d with
  | zero => intro f hf; rw [Fm.depth_eq] at hf; omega
  | succ d ih =>
    intro f hf
    have hll : (f.args.map (cellsK .i64)).length = f.args.length := by simp
    have hfd := f.depth_eq
    refine spec_intro ok39 (Nat.le_of_ble_eq_true rfl) fun C hC => ?_
    refine aw_seq ?_
    refine aw_region ?_
    refine opsK_ofAlt rfl rfl rfl ?_
    repeat' (first
      | refine aw_seq ?_
      | refine aw_region ?_
      | refine aw_draw [] ?_
      | refine opsK_done ?_
      | refine opsK_on rfl ?_
      | refine opsK_off rfl ?_
      | (refine opsK_bool rfl rfl rfl (fun hb => ?_) (fun hb => ?_) <;> try cases hb)
      | refine opsK_of rfl rfl rfl ?_
      | refine opsK_new rfl rfl rfl ?_
      | refine dK_done ?_
      | refine dK_on rfl ?_
      | refine dK_off ⟨_, rfl, nofun⟩ ?_
      | (refine dK_bool rfl rfl rfl (fun hb => ?_) (fun hb => ?_) <;> try cases hb)
      | refine dK_of rfl rfl rfl ?_
      | refine aw_condT rfl ?_
      | refine aw_condF rfl ?_
      | (refine aw_cond rfl (fun hb => ?_) (fun hb => ?_) <;> try cases hb)
      | refine aw_block ?_
      | refine aw_skip ?_
      | refine aw_exit ?_
      | refine aw_ret ?_)
    all_goals
      have hw : wantM f.op = (if f.op ≥ 11 then 2 else 1) := rfl
      have hop' := hb
      simp only [decide_eq_true_eq, decide_eq_false_iff_not] at hop'
      first | rw [if_pos hop'] at hw | rw [if_neg hop'] at hw
      clear hb hop'
      refine aw_len (k := 10) rfl fun hmax => ?_
      rw [hll] at hmax
      refine aw_loopH hC (fun i => i ≤ f.args.length ∧ fitsL (wantM f.op) (f.args.take i) = true) (fun i => f.args.length - i) 0 (fun i => [(3, .val (.int .i64 (wantM f.op))), (10, .vec (f.args.map (cellsK .i64)) false), (11, .val (.int .i64 f.args.length)), (12, .val (.int .i64 (i : Int)))]) (fun _ => []) (Nat.le_refl _) 0 ⟨Nat.zero_le _, rfl⟩
        ⟨⟨by rw [hw]; rfl, trivial⟩, ⟨rfl, fArgs_inn _ _ _⟩, ⟨by rw [← hll]; rfl, trivial⟩, ⟨rfl, trivial⟩, trivial⟩ trivial ?_
      rintro i ⟨hi, hfit⟩
      have hinc : IntKind.i64.wrap ((i : Int) + 1) = ((i + 1 : Nat) : Int) := IntWalk.i64_in _ ⟨by omega, by simp only [maxVec] at hmax; omega⟩
      repeat' (first
        | refine aw_seq ?_
        | refine aw_region ?_
        | refine aw_draw [] ?_
        | refine opsK_done ?_
        | refine opsK_on rfl ?_
        | refine opsK_off rfl ?_
        | (refine opsK_bool rfl rfl rfl (fun hb => ?_) (fun hb => ?_) <;> try cases hb)
        | refine opsK_of rfl rfl rfl ?_
        | refine opsK_new rfl rfl rfl ?_
        | refine dK_done ?_
        | refine dK_on rfl ?_
        | refine dK_off ⟨_, rfl, nofun⟩ ?_
        | (refine dK_bool rfl rfl rfl (fun hb => ?_) (fun hb => ?_) <;> try cases hb)
        | refine dK_of rfl rfl rfl ?_
        | refine aw_condT rfl ?_
        | refine aw_condF rfl ?_
        | (refine aw_cond rfl (fun hb => ?_) (fun hb => ?_) <;> try cases hb)
        | refine aw_block ?_
        | refine aw_skip ?_
        | refine aw_exit ?_
        | refine aw_ret ?_)
      · have hil : i < f.args.length := by simpa using hb
        refine opsK_of (E_iaddr (xs := f.args) rfl rfl i rfl hil (cellsK_length _ _)) rfl rfl ?_
        rw [cellsK_eq]
        repeat' (first
          | refine aw_seq ?_
          | refine aw_region ?_
          | refine aw_draw [] ?_
          | refine opsK_done ?_
          | refine opsK_on rfl ?_
          | refine opsK_off rfl ?_
          | (refine opsK_bool rfl rfl rfl (fun hb => ?_) (fun hb => ?_) <;> try cases hb)
          | refine opsK_of rfl rfl rfl ?_
          | refine opsK_new rfl rfl rfl ?_
          | refine dK_done ?_
          | refine dK_on rfl ?_
          | refine dK_off ⟨_, rfl, nofun⟩ ?_
          | (refine dK_bool rfl rfl rfl (fun hb => ?_) (fun hb => ?_) <;> try cases hb)
          | refine dK_of rfl rfl rfl ?_
          | refine aw_condT rfl ?_
          | refine aw_condF rfl ?_
          | (refine aw_cond rfl (fun hb => ?_) (fun hb => ?_) <;> try cases hb)
          | refine aw_block ?_
          | refine aw_skip ?_
          | refine aw_exit ?_
          | refine aw_ret ?_)
        have hdl := depthL_mem hil
        refine opsK_eq (type_spec f.args[i].op) rfl rfl rfl ⟨trivial, trivial⟩ rfl ?_
        repeat' (first
          | refine aw_seq ?_
          | refine aw_region ?_
          | refine aw_draw [] ?_
          | refine opsK_done ?_
          | refine opsK_on rfl ?_
          | refine opsK_off rfl ?_
          | (refine opsK_bool rfl rfl rfl (fun hb => ?_) (fun hb => ?_) <;> try cases hb)
          | refine opsK_of rfl rfl rfl ?_
          | refine opsK_new rfl rfl rfl ?_
          | refine dK_done ?_
          | refine dK_on rfl ?_
          | refine dK_off ⟨_, rfl, nofun⟩ ?_
          | (refine dK_bool rfl rfl rfl (fun hb => ?_) (fun hb => ?_) <;> try cases hb)
          | refine dK_of rfl rfl rfl ?_
          | refine aw_condT rfl ?_
          | refine aw_condF rfl ?_
          | (refine aw_cond rfl (fun hb => ?_) (fun hb => ?_) <;> try cases hb)
          | refine aw_block ?_
          | refine aw_skip ?_
          | refine aw_exit ?_
          | refine aw_ret ?_)
        · refine ret_ok rfl trivial ?_
          rw [fitsM_eq, fitsL_bad hil (by simp at hb; simp [hb])]
        · refine opsK_eq (ih f.args[i] (by omega)) rfl rfl rfl ⟨fC_pure _ _, trivial⟩ rfl ?_
          repeat' (first
            | refine aw_seq ?_
            | refine aw_region ?_
            | refine aw_draw [] ?_
            | refine opsK_done ?_
            | refine opsK_on rfl ?_
            | refine opsK_off rfl ?_
            | (refine opsK_bool rfl rfl rfl (fun hb => ?_) (fun hb => ?_) <;> try cases hb)
            | refine opsK_of rfl rfl rfl ?_
            | refine opsK_new rfl rfl rfl ?_
            | refine dK_done ?_
            | refine dK_on rfl ?_
            | refine dK_off ⟨_, rfl, nofun⟩ ?_
            | (refine dK_bool rfl rfl rfl (fun hb => ?_) (fun hb => ?_) <;> try cases hb)
            | refine dK_of rfl rfl rfl ?_
            | refine aw_condT rfl ?_
            | refine aw_condF rfl ?_
            | (refine aw_cond rfl (fun hb => ?_) (fun hb => ?_) <;> try cases hb)
            | refine aw_block ?_
            | refine aw_skip ?_
            | refine aw_exit ?_
            | refine aw_ret ?_)
          · refine ret_ok rfl trivial ?_
            rw [fitsM_eq, fitsL_bad hil (by simp at hb; simp [hb])]
          · refine ⟨i + 1, ⟨by omega, ?_⟩, by omega, ⟨⟨rfl, trivial⟩, ⟨rfl, fArgs_inn _ _ _⟩, ⟨rfl, trivial⟩, ⟨by show some _ = some _; rw [hinc], trivial⟩, trivial⟩, trivial⟩
            rename_i hne
            rw [fitsL_take hil, hfit]
            simp at hb hne
            simp [hb, hne]
      · have hil : i = f.args.length := by simp at hb; omega
        subst hil
        rw [List.take_length] at hfit
        exact ret_ok rfl trivial (by rw [fitsM_eq, hfit])

end Go.Proofs.Ytelcpkjclcimbaa
