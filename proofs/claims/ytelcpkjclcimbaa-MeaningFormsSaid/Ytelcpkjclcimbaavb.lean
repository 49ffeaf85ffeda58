/-
  The specification's value of a formula. No statement of the seat is proved here.
-/
import Derived.Test.Ytelcpkjclcimbaava
namespace Go.Proofs.Ytelcpkjclcimbaa
open Go.RowKit
set_option linter.unusedVariables false
attribute [local irreducible] aw opsK dK

theorem bit_eq (N j : Nat) : ((((N / 2 ^ j % 2 : Nat) : Int)) == 1) = N.testBit j := by
  rw [Nat.testBit_eq_decide_div_mod_eq, Bool.eq_iff_iff]
  simp only [beq_iff_eq, decide_eq_true_eq]
  omega
theorem conv_u64 (r : Int) (h1 : 0 ≤ r) (h2 : r ≤ 4095) : IntKind.u64.wrap r = ((r.toNat : Nat) : Int) := by
  rw [IntWalk.u64_in _ ⟨h1, by omega⟩]; omega
theorem shr_u64 (N j : Nat) (h : j < 64) : Int.fdiv (N : Int) (2 ^ (min ((j : Nat) : Int).toNat IntKind.u64.bits)) = ((N / 2 ^ j : Nat) : Int) := by
  rw [show min (((j : Nat) : Int)).toNat IntKind.u64.bits = j by simp [IntKind.bits]; omega]
  exact fdiv_pow _ _
theorem rem2_u64 (N j : Nat) : (((N / 2 ^ j : Nat) : Int)).tmod 2 = ((N / 2 ^ j % 2 : Nat) : Int) := by
  generalize N / 2 ^ j = z
  rw [Int.tmod_eq_emod_of_nonneg (by omega)]; omega
theorem typeM_two {op : Int} (h : typeM op = 2) : op = 1 ∨ op = 5 ∨ op = 6 ∨ op = 16 := by
  unfold typeM at h
  split at h
  · assumption
  · cases h
theorem typeM_one {op : Int} (h : typeM op = 1) : ¬ (op = 1 ∨ op = 5 ∨ op = 6 ∨ op = 16) := by
  unfold typeM at h
  split at h
  · cases h
  · assumption

set_option maxHeartbeats 4000000 in
theorem number_spec (N : Nat) (ms : List Int) (fl : Bool) : ∀ (d : Nat) (f : Fm), f.depth ≤ d → Wf f → typeM f.op = 2 → f.size ≤ 1000 → Spec Try.prog 41 [.agg (fC .i64 f), .val (.int .u64 (N : Int)), .vec (nums ms) fl] (· = .val (.int .i64 (evM N ms f))) := by
  intro d
  induction d with
  | zero => intro f hf; rw [Fm.depth_eq] at hf; omega
  | succ d ih =>
    rintro ⟨op, n, roles, args⟩ hf hw ht hsz
    have w := hw.inv
    have hmp : (PV.vec (nums ms) fl).inn (· < 0) := nums_inn _ _
    have hpu := fC_inn .i64 (.mk op n roles args) (· < 0)
    refine spec_intro ok41 (Nat.le_of_ble_eq_true rfl) fun C hC => ?_
    have hop : op = 1 ∨ op = 5 ∨ op = 6 ∨ op = 16 := typeM_two ht
    refine aw_seq ?_
    refine aw_region ?_
    refine opsK_ofAlt rfl rfl rfl ?_
    refine opsK_of rfl rfl rfl ?_
    refine opsK_done ?_
    rcases hop with rfl | rfl | rfl | rfl
    · repeat' (first
      | refine aw_seq ?_
      | refine aw_region ?_
      | refine aw_draw [] ?_
      | refine opsK_done ?_
      | refine opsK_on rfl ?_
      | refine opsK_off rfl ?_
      | (refine opsK_bool rfl rfl rfl (fun hb => ?_) (fun hb => ?_) <;> try cases hb)
      | refine opsK_of rfl rfl rfl ?_
      | refine opsK_new rfl rfl rfl ?_
      | refine dK_done ?_
      | refine dK_on rfl ?_
      | refine dK_off ⟨_, rfl, nofun⟩ ?_
      | (refine dK_bool rfl rfl rfl (fun hb => ?_) (fun hb => ?_) <;> try cases hb)
      | refine dK_of rfl rfl rfl ?_
      | refine aw_condT rfl ?_
      | refine aw_condF rfl ?_
      | (refine aw_cond rfl (fun hb => ?_) (fun hb => ?_) <;> try cases hb)
      | refine aw_block ?_
      | refine aw_skip ?_
      | refine aw_exit ?_
      | refine aw_ret ?_)
      exact ret_ok rfl trivial rfl
    · have hl := nums_length roles
      have hmost := w.most
      have hm8 : roles.length ≤ 8 := by
        have : (roles.length : Int) ≤ 8 := Int.le_trans hmost (by decide)
        omega
      repeat' (first
        | refine aw_seq ?_
        | refine aw_region ?_
        | refine aw_draw [] ?_
        | refine opsK_done ?_
        | refine opsK_on rfl ?_
        | refine opsK_off rfl ?_
        | (refine opsK_bool rfl rfl rfl (fun hb => ?_) (fun hb => ?_) <;> try cases hb)
        | refine opsK_of rfl rfl rfl ?_
        | refine opsK_new rfl rfl rfl ?_
        | refine dK_done ?_
        | refine dK_on rfl ?_
        | refine dK_off ⟨_, rfl, nofun⟩ ?_
        | (refine dK_bool rfl rfl rfl (fun hb => ?_) (fun hb => ?_) <;> try cases hb)
        | refine dK_of rfl rfl rfl ?_
        | refine aw_condT rfl ?_
        | refine aw_condF rfl ?_
        | (refine aw_cond rfl (fun hb => ?_) (fun hb => ?_) <;> try cases hb)
        | refine aw_block ?_
        | refine aw_skip ?_
        | refine aw_exit ?_
        | refine aw_ret ?_)
      refine aw_loopH hC (fun i => i ≤ roles.length) (fun i => roles.length - i) 0 (fun i => [(1, .val (.int .u64 (N : Int))), (7, .val (.int .i64 (cntM N (roles.take i)))), (20, .vec (nums roles) false), (21, .val (.int .i64 roles.length)), (22, .val (.int .i64 (i : Int)))]) (fun _ => []) (Nat.le_refl _) 0 (Nat.zero_le _)
        ⟨⟨rfl, trivial⟩, ⟨rfl, trivial⟩, ⟨rfl, nums_inn _ _⟩, ⟨by rw [← hl]; rfl, trivial⟩, ⟨rfl, trivial⟩, trivial⟩ trivial ?_
      intro i hi
      have hinc : IntKind.i64.wrap ((i : Int) + 1) = ((i + 1 : Nat) : Int) := IntWalk.i64_in _ ⟨by omega, by omega⟩
      repeat' (first
        | refine aw_seq ?_
        | refine aw_region ?_
        | refine aw_draw [] ?_
        | refine opsK_done ?_
        | refine opsK_on rfl ?_
        | refine opsK_off rfl ?_
        | (refine opsK_bool rfl rfl rfl (fun hb => ?_) (fun hb => ?_) <;> try cases hb)
        | refine opsK_of rfl rfl rfl ?_
        | refine opsK_new rfl rfl rfl ?_
        | refine dK_done ?_
        | refine dK_on rfl ?_
        | refine dK_off ⟨_, rfl, nofun⟩ ?_
        | (refine dK_bool rfl rfl rfl (fun hb => ?_) (fun hb => ?_) <;> try cases hb)
        | refine dK_of rfl rfl rfl ?_
        | refine aw_condT rfl ?_
        | refine aw_condF rfl ?_
        | (refine aw_cond rfl (fun hb => ?_) (fun hb => ?_) <;> try cases hb)
        | refine aw_block ?_
        | refine aw_skip ?_
        | refine aw_exit ?_
        | refine aw_ret ?_)
      · have hil : i < roles.length := by simpa using hb
        refine opsK_of (E_iaddr (xs := roles) rfl rfl i rfl hil rfl) rfl rfl ?_
        have hrr := w.rng roles[i] (List.getElem_mem _)
        have h1 := cntM_take (N := N) hil
        have h2 := cntM_range N (roles.take i)
        have h3 : (roles.take i).length ≤ roles.length := by rw [List.length_take]; omega
        iterate 7 (first
          | refine aw_seq ?_
          | refine aw_region ?_
          | refine aw_draw [] ?_
          | refine opsK_done ?_
          | refine opsK_on rfl ?_
          | refine opsK_off rfl ?_
          | (refine opsK_bool rfl rfl rfl (fun hb => ?_) (fun hb => ?_) <;> try cases hb)
          | refine opsK_of rfl rfl rfl ?_
          | refine opsK_new rfl rfl rfl ?_
          | refine dK_done ?_
          | refine dK_on rfl ?_
          | refine dK_off ⟨_, rfl, nofun⟩ ?_
          | (refine dK_bool rfl rfl rfl (fun hb => ?_) (fun hb => ?_) <;> try cases hb)
          | refine dK_of rfl rfl rfl ?_
          | refine aw_condT rfl ?_
          | refine aw_condF rfl ?_
          | (refine aw_cond rfl (fun hb => ?_) (fun hb => ?_) <;> try cases hb)
          | refine aw_block ?_
          | refine aw_skip ?_
          | refine aw_exit ?_
          | refine aw_ret ?_)
        refine opsK_int rfl rfl rfl (conv_u64 _ (by omega) (by omega)) ?_
        refine opsK_int rfl rfl rfl (shr_u64 N roles[i].toNat (by omega)) ?_
        refine opsK_int rfl rfl rfl (rem2_u64 N roles[i].toNat) ?_
        refine opsK_boolEq rfl rfl rfl (bit_eq N roles[i].toNat) ?_
        generalize N.testBit roles[i].toNat = t at h1
        cases t
        · repeat' (first
          | refine aw_seq ?_
          | refine aw_region ?_
          | refine aw_draw [] ?_
          | refine opsK_done ?_
          | refine opsK_on rfl ?_
          | refine opsK_off rfl ?_
          | (refine opsK_bool rfl rfl rfl (fun hb => ?_) (fun hb => ?_) <;> try cases hb)
          | refine opsK_of rfl rfl rfl ?_
          | refine opsK_new rfl rfl rfl ?_
          | refine dK_done ?_
          | refine dK_on rfl ?_
          | refine dK_off ⟨_, rfl, nofun⟩ ?_
          | (refine dK_bool rfl rfl rfl (fun hb => ?_) (fun hb => ?_) <;> try cases hb)
          | refine dK_of rfl rfl rfl ?_
          | refine aw_condT rfl ?_
          | refine aw_condF rfl ?_
          | (refine aw_cond rfl (fun hb => ?_) (fun hb => ?_) <;> try cases hb)
          | refine aw_block ?_
          | refine aw_skip ?_
          | refine aw_exit ?_
          | refine aw_ret ?_)
          refine ⟨i + 1, by omega, by omega, ⟨⟨rfl, trivial⟩, ⟨?_, trivial⟩, ⟨rfl, nums_inn _ _⟩, ⟨rfl, trivial⟩, ⟨by show some _ = some _; rw [hinc], trivial⟩, trivial⟩, trivial⟩
          rw [h1]; show some _ = some (PV.val (Value.int .i64 (_ + 0))); rw [Int.add_zero]
        · repeat' (first
          | refine aw_seq ?_
          | refine aw_region ?_
          | refine aw_draw [] ?_
          | refine opsK_done ?_
          | refine opsK_on rfl ?_
          | refine opsK_off rfl ?_
          | (refine opsK_bool rfl rfl rfl (fun hb => ?_) (fun hb => ?_) <;> try cases hb)
          | refine opsK_of rfl rfl rfl ?_
          | refine opsK_new rfl rfl rfl ?_
          | refine dK_done ?_
          | refine dK_on rfl ?_
          | refine dK_off ⟨_, rfl, nofun⟩ ?_
          | (refine dK_bool rfl rfl rfl (fun hb => ?_) (fun hb => ?_) <;> try cases hb)
          | refine dK_of rfl rfl rfl ?_
          | refine aw_condT rfl ?_
          | refine aw_condF rfl ?_
          | (refine aw_cond rfl (fun hb => ?_) (fun hb => ?_) <;> try cases hb)
          | refine aw_block ?_
          | refine aw_skip ?_
          | refine aw_exit ?_
          | refine aw_ret ?_)
          refine ⟨i + 1, by omega, by omega, ⟨⟨rfl, trivial⟩, ⟨?_, trivial⟩, ⟨rfl, nums_inn _ _⟩, ⟨rfl, trivial⟩, ⟨by show some _ = some _; rw [hinc], trivial⟩, trivial⟩, trivial⟩
          have : IntKind.i64.wrap (cntM N (roles.take i) + 1) = cntM N (roles.take i) + 1 := IntWalk.i64_in _ ⟨by omega, by omega⟩
          rw [h1]; show some (PV.val (Value.int .i64 (IntKind.i64.wrap (cntM N (roles.take i) + 1)))) = _
          rw [this]; rfl
      · have hil : i = roles.length := by simp at hb; omega
        subst hil
        rw [List.take_length]
        exact ret_ok rfl trivial rfl
    · obtain ⟨r, rfl⟩ := w.role (.inr rfl)
      have hrr := w.rng r (by simp)
      obtain ⟨j, rfl⟩ : ∃ j : Nat, r = j := ⟨r.toNat, by omega⟩
      have hl := nums_length ms
      have ev6 : evM N ms (.mk 6 n [(j : Int)] args) = memM ms j := by simp [evM, opM]
      rw [ev6]
      repeat' (first
        | refine aw_seq ?_
        | refine aw_region ?_
        | refine aw_draw [] ?_
        | refine opsK_done ?_
        | refine opsK_on rfl ?_
        | refine opsK_off rfl ?_
        | (refine opsK_bool rfl rfl rfl (fun hb => ?_) (fun hb => ?_) <;> try cases hb)
        | refine opsK_of rfl rfl rfl ?_
        | refine opsK_new rfl rfl rfl ?_
        | refine dK_done ?_
        | refine dK_on rfl ?_
        | refine dK_off ⟨_, rfl, nofun⟩ ?_
        | (refine dK_bool rfl rfl rfl (fun hb => ?_) (fun hb => ?_) <;> try cases hb)
        | refine dK_of rfl rfl rfl ?_
        | refine aw_condT rfl ?_
        | refine aw_condF rfl ?_
        | (refine aw_cond rfl (fun hb => ?_) (fun hb => ?_) <;> try cases hb)
        | refine aw_block ?_
        | refine aw_skip ?_
        | refine aw_exit ?_
        | refine aw_ret ?_)
      · have hj : ms.length ≤ j := by simp [hl] at hb; omega
        refine ret_ok rfl trivial ?_
        unfold memM
        rw [if_pos (by omega)]
        rfl
      have hj : j < ms.length := by simp [hl] at hb; omega
      have hg : ms.getD j 0 = ms[j] := by simp [List.getD_eq_getElem?_getD, hj]
      have hn : ¬ ((j : Int) ≥ (ms.length : Int)) := by omega
      refine opsK_of (E_iaddr (xs := ms) rfl rfl j rfl hj rfl) rfl rfl ?_
      repeat' (first
        | refine aw_seq ?_
        | refine aw_region ?_
        | refine aw_draw [] ?_
        | refine opsK_done ?_
        | refine opsK_on rfl ?_
        | refine opsK_off rfl ?_
        | (refine opsK_bool rfl rfl rfl (fun hb => ?_) (fun hb => ?_) <;> try cases hb)
        | refine opsK_of rfl rfl rfl ?_
        | refine opsK_new rfl rfl rfl ?_
        | refine dK_done ?_
        | refine dK_on rfl ?_
        | refine dK_off ⟨_, rfl, nofun⟩ ?_
        | (refine dK_bool rfl rfl rfl (fun hb => ?_) (fun hb => ?_) <;> try cases hb)
        | refine dK_of rfl rfl rfl ?_
        | refine aw_condT rfl ?_
        | refine aw_condF rfl ?_
        | (refine aw_cond rfl (fun hb => ?_) (fun hb => ?_) <;> try cases hb)
        | refine aw_block ?_
        | refine aw_skip ?_
        | refine aw_exit ?_
        | refine aw_ret ?_)
      · have h1 : ms[j] < 0 := by simpa using hb
        refine ret_ok rfl trivial ?_
        unfold memM
        rw [if_neg hn, Int.toNat_natCast, hg, if_pos h1]
        rfl
      have h1 : ¬ ms[j] < 0 := by simpa using hb
      refine opsK_of (E_iaddr (xs := ms) rfl rfl j rfl hj rfl) rfl rfl ?_
      repeat' (first
        | refine aw_seq ?_
        | refine aw_region ?_
        | refine aw_draw [] ?_
        | refine opsK_done ?_
        | refine opsK_on rfl ?_
        | refine opsK_off rfl ?_
        | (refine opsK_bool rfl rfl rfl (fun hb => ?_) (fun hb => ?_) <;> try cases hb)
        | refine opsK_of rfl rfl rfl ?_
        | refine opsK_new rfl rfl rfl ?_
        | refine dK_done ?_
        | refine dK_on rfl ?_
        | refine dK_off ⟨_, rfl, nofun⟩ ?_
        | (refine dK_bool rfl rfl rfl (fun hb => ?_) (fun hb => ?_) <;> try cases hb)
        | refine dK_of rfl rfl rfl ?_
        | refine aw_condT rfl ?_
        | refine aw_condF rfl ?_
        | (refine aw_cond rfl (fun hb => ?_) (fun hb => ?_) <;> try cases hb)
        | refine aw_block ?_
        | refine aw_skip ?_
        | refine aw_exit ?_
        | refine aw_ret ?_)
      · have h2 : ms[j] > 256 := by simpa using hb
        refine ret_ok rfl trivial ?_
        unfold memM
        rw [if_neg hn, Int.toNat_natCast, hg, if_neg h1, if_pos h2]
        rfl
      · have h2 : ¬ ms[j] > 256 := by simpa using hb
        refine opsK_of (E_iaddr (xs := ms) rfl rfl j rfl hj rfl) rfl rfl ?_
        repeat' (first
          | refine aw_seq ?_
          | refine aw_region ?_
          | refine aw_draw [] ?_
          | refine opsK_done ?_
          | refine opsK_on rfl ?_
          | refine opsK_off rfl ?_
          | (refine opsK_bool rfl rfl rfl (fun hb => ?_) (fun hb => ?_) <;> try cases hb)
          | refine opsK_of rfl rfl rfl ?_
          | refine opsK_new rfl rfl rfl ?_
          | refine dK_done ?_
          | refine dK_on rfl ?_
          | refine dK_off ⟨_, rfl, nofun⟩ ?_
          | (refine dK_bool rfl rfl rfl (fun hb => ?_) (fun hb => ?_) <;> try cases hb)
          | refine dK_of rfl rfl rfl ?_
          | refine aw_condT rfl ?_
          | refine aw_condF rfl ?_
          | (refine aw_cond rfl (fun hb => ?_) (fun hb => ?_) <;> try cases hb)
          | refine aw_block ?_
          | refine aw_skip ?_
          | refine aw_exit ?_
          | refine aw_ret ?_)
        refine ret_ok rfl trivial ?_
        unfold memM
        rw [if_neg hn, Int.toNat_natCast, hg, if_neg h1, if_neg h2]
    · obtain ⟨x, y, rfl⟩ := w.two (by omega)
      obtain ⟨wx, tx⟩ := w.arg x (by simp)
      obtain ⟨wy, ty⟩ := w.arg y (by simp)
      rw [depth_two] at hf
      rw [size_two] at hsz
      obtain ⟨⟨x1, x2⟩, x3⟩ := evM_range N ms d x (by omega) wx
      obtain ⟨⟨y1, y2⟩, y3⟩ := evM_range N ms d y (by omega) wy
      have ihx := ih x (by omega) wx (by simpa [wantM] using tx) (by omega)
      have ihy := ih y (by omega) wy (by simpa [wantM] using ty) (by omega)
      rw [evM_two _ _ _ _ _ _ (by omega)]
      repeat' (first
        | refine aw_seq ?_
        | refine aw_region ?_
        | refine aw_draw [] ?_
        | refine opsK_done ?_
        | refine opsK_on rfl ?_
        | refine opsK_off rfl ?_
        | (refine opsK_bool rfl rfl rfl (fun hb => ?_) (fun hb => ?_) <;> try cases hb)
        | refine opsK_of rfl rfl rfl ?_
        | refine opsK_new rfl rfl rfl ?_
        | refine dK_done ?_
        | refine dK_on rfl ?_
        | refine dK_off ⟨_, rfl, nofun⟩ ?_
        | (refine dK_bool rfl rfl rfl (fun hb => ?_) (fun hb => ?_) <;> try cases hb)
        | refine dK_of rfl rfl rfl ?_
        | refine aw_condT rfl ?_
        | refine aw_condF rfl ?_
        | (refine aw_cond rfl (fun hb => ?_) (fun hb => ?_) <;> try cases hb)
        | refine aw_block ?_
        | refine aw_skip ?_
        | refine aw_exit ?_
        | refine aw_ret ?_)
      refine dK_of (E_iaddr (xs := [x, y]) rfl rfl 0 rfl (Nat.zero_lt_succ _) (cellsK_length _ _)) rfl rfl ?_
      rw [show [x, y][0] = x from rfl, cellsK_eq .i64 x]
      repeat' (first
        | refine aw_seq ?_
        | refine aw_region ?_
        | refine aw_draw [] ?_
        | refine opsK_done ?_
        | refine opsK_on rfl ?_
        | refine opsK_off rfl ?_
        | (refine opsK_bool rfl rfl rfl (fun hb => ?_) (fun hb => ?_) <;> try cases hb)
        | refine opsK_of rfl rfl rfl ?_
        | refine opsK_new rfl rfl rfl ?_
        | refine dK_done ?_
        | refine dK_on rfl ?_
        | refine dK_off ⟨_, rfl, nofun⟩ ?_
        | (refine dK_bool rfl rfl rfl (fun hb => ?_) (fun hb => ?_) <;> try cases hb)
        | refine dK_of rfl rfl rfl ?_
        | refine aw_condT rfl ?_
        | refine aw_condF rfl ?_
        | (refine aw_cond rfl (fun hb => ?_) (fun hb => ?_) <;> try cases hb)
        | refine aw_block ?_
        | refine aw_skip ?_
        | refine aw_exit ?_
        | refine aw_ret ?_)
      refine dK_eq ihx rfl rfl rfl ⟨fC_pure _ _, trivial, nums_pure _, trivial⟩ ?_
      repeat' (first
        | refine aw_seq ?_
        | refine aw_region ?_
        | refine aw_draw [] ?_
        | refine opsK_done ?_
        | refine opsK_on rfl ?_
        | refine opsK_off rfl ?_
        | (refine opsK_bool rfl rfl rfl (fun hb => ?_) (fun hb => ?_) <;> try cases hb)
        | refine opsK_of rfl rfl rfl ?_
        | refine opsK_new rfl rfl rfl ?_
        | refine dK_done ?_
        | refine dK_on rfl ?_
        | refine dK_off ⟨_, rfl, nofun⟩ ?_
        | (refine dK_bool rfl rfl rfl (fun hb => ?_) (fun hb => ?_) <;> try cases hb)
        | refine dK_of rfl rfl rfl ?_
        | refine aw_condT rfl ?_
        | refine aw_condF rfl ?_
        | (refine aw_cond rfl (fun hb => ?_) (fun hb => ?_) <;> try cases hb)
        | refine aw_block ?_
        | refine aw_skip ?_
        | refine aw_exit ?_
        | refine aw_ret ?_)
      refine dK_of (E_iaddr (xs := [x, y]) rfl rfl 1 rfl (Nat.lt_succ_self _) (cellsK_length _ _)) rfl rfl ?_
      rw [show [x, y][1] = y from rfl, cellsK_eq .i64 y]
      repeat' (first
        | refine aw_seq ?_
        | refine aw_region ?_
        | refine aw_draw [] ?_
        | refine opsK_done ?_
        | refine opsK_on rfl ?_
        | refine opsK_off rfl ?_
        | (refine opsK_bool rfl rfl rfl (fun hb => ?_) (fun hb => ?_) <;> try cases hb)
        | refine opsK_of rfl rfl rfl ?_
        | refine opsK_new rfl rfl rfl ?_
        | refine dK_done ?_
        | refine dK_on rfl ?_
        | refine dK_off ⟨_, rfl, nofun⟩ ?_
        | (refine dK_bool rfl rfl rfl (fun hb => ?_) (fun hb => ?_) <;> try cases hb)
        | refine dK_of rfl rfl rfl ?_
        | refine aw_condT rfl ?_
        | refine aw_condF rfl ?_
        | (refine aw_cond rfl (fun hb => ?_) (fun hb => ?_) <;> try cases hb)
        | refine aw_block ?_
        | refine aw_skip ?_
        | refine aw_exit ?_
        | refine aw_ret ?_)
      refine dK_eq ihy rfl rfl rfl ⟨fC_pure _ _, trivial, nums_pure _, trivial⟩ ?_
      have : IntKind.i64.wrap (evM N ms x + evM N ms y) = evM N ms x + evM N ms y := IntWalk.i64_in _ ⟨by omega, by omega⟩
      repeat' (first
        | refine aw_seq ?_
        | refine aw_region ?_
        | refine aw_draw [] ?_
        | refine opsK_done ?_
        | refine opsK_on rfl ?_
        | refine opsK_off rfl ?_
        | (refine opsK_bool rfl rfl rfl (fun hb => ?_) (fun hb => ?_) <;> try cases hb)
        | refine opsK_of rfl rfl rfl ?_
        | refine opsK_new rfl rfl rfl ?_
        | refine dK_done ?_
        | refine dK_on rfl ?_
        | refine dK_off ⟨_, rfl, nofun⟩ ?_
        | (refine dK_bool rfl rfl rfl (fun hb => ?_) (fun hb => ?_) <;> try cases hb)
        | refine dK_of rfl rfl rfl ?_
        | refine aw_condT rfl ?_
        | refine aw_condF rfl ?_
        | (refine aw_cond rfl (fun hb => ?_) (fun hb => ?_) <;> try cases hb)
        | refine aw_block ?_
        | refine aw_skip ?_
        | refine aw_exit ?_
        | refine aw_ret ?_)
      refine ret_ok rfl trivial ?_
      rw [this]; rfl

set_option maxHeartbeats 4000000 in
theorem truth_spec (N : Nat) (ms : List Int) (fl : Bool) : ∀ (d : Nat) (f : Fm), f.depth ≤ d → Wf f → typeM f.op = 1 → f.size ≤ 1000 → Spec Try.prog 22 [.agg (fC .i64 f), .val (.int .u64 (N : Int)), .vec (nums ms) fl] (· = .val (.bool (evM N ms f == 1))) := by
  intro d
  induction d with
  | zero => intro f hf; rw [Fm.depth_eq] at hf; omega
  | succ d ih =>
    rintro ⟨op, n, roles, args⟩ hf hw ht hsz
    have w := hw.inv
    have hmp : (PV.vec (nums ms) fl).inn (· < 0) := nums_inn _ _
    have hpu := fC_inn .i64 (.mk op n roles args) (· < 0)
    refine spec_intro ok22 (Nat.le_of_ble_eq_true rfl) fun C hC => ?_
    have hop : ¬ (op = 1 ∨ op = 5 ∨ op = 6 ∨ op = 16) := typeM_one ht
    refine aw_seq ?_
    refine aw_region ?_
    refine opsK_ofAlt rfl rfl rfl ?_
    refine opsK_of rfl rfl rfl ?_
    refine opsK_done ?_
    by_cases h8 : 8 ≤ op
    · obtain ⟨x, y, rfl⟩ := w.two h8
      obtain ⟨wx, tx⟩ := w.arg x (by simp)
      obtain ⟨wy, ty⟩ := w.arg y (by simp)
      rw [depth_two] at hf
      rw [size_two] at hsz
      obtain ⟨⟨x1, x2⟩, x3⟩ := evM_range N ms d x (by omega) wx
      obtain ⟨⟨y1, y2⟩, y3⟩ := evM_range N ms d y (by omega) wy
      rw [evM_two _ _ _ _ _ _ h8]
      by_cases h11 : op < 11
      · rw [wantM, if_neg (by omega)] at tx ty
        have ihx := ih x (by omega) wx tx (by omega)
        have ihy := ih y (by omega) wy ty (by omega)
        have hx := x3 tx
        have hy := y3 ty
        rcases ops16 w.lo w.hi with rfl | rfl | rfl | rfl | rfl | rfl | rfl | rfl | rfl | rfl | rfl | rfl | rfl | rfl | rfl | rfl
        all_goals first | (exfalso; omega) | skip
        all_goals
          generalize evM N ms x = a at *
          generalize evM N ms y = b at *
          repeat' (first
            | refine aw_seq ?_
            | refine aw_region ?_
            | refine aw_draw [] ?_
            | refine opsK_done ?_
            | refine opsK_on rfl ?_
            | refine opsK_off rfl ?_
            | (refine opsK_bool rfl rfl rfl (fun hb => ?_) (fun hb => ?_) <;> try cases hb)
            | refine opsK_of rfl rfl rfl ?_
            | refine opsK_new rfl rfl rfl ?_
            | refine dK_done ?_
            | refine dK_on rfl ?_
            | refine dK_off ⟨_, rfl, nofun⟩ ?_
            | (refine dK_bool rfl rfl rfl (fun hb => ?_) (fun hb => ?_) <;> try cases hb)
            | refine dK_of rfl rfl rfl ?_
            | refine aw_condT rfl ?_
            | refine aw_condF rfl ?_
            | (refine aw_cond rfl (fun hb => ?_) (fun hb => ?_) <;> try cases hb)
            | refine aw_block ?_
            | refine aw_skip ?_
            | refine aw_exit ?_
            | refine aw_ret ?_)
          refine opsK_of (E_iaddr (xs := [x, y]) rfl rfl 0 rfl (Nat.zero_lt_succ _) (cellsK_length _ _)) rfl rfl ?_
          rw [show [x, y][0] = x from rfl, cellsK_eq .i64 x]
          repeat' (first
            | refine aw_seq ?_
            | refine aw_region ?_
            | refine aw_draw [] ?_
            | refine opsK_done ?_
            | refine opsK_on rfl ?_
            | refine opsK_off rfl ?_
            | (refine opsK_bool rfl rfl rfl (fun hb => ?_) (fun hb => ?_) <;> try cases hb)
            | refine opsK_of rfl rfl rfl ?_
            | refine opsK_new rfl rfl rfl ?_
            | refine dK_done ?_
            | refine dK_on rfl ?_
            | refine dK_off ⟨_, rfl, nofun⟩ ?_
            | (refine dK_bool rfl rfl rfl (fun hb => ?_) (fun hb => ?_) <;> try cases hb)
            | refine dK_of rfl rfl rfl ?_
            | refine aw_condT rfl ?_
            | refine aw_condF rfl ?_
            | (refine aw_cond rfl (fun hb => ?_) (fun hb => ?_) <;> try cases hb)
            | refine aw_block ?_
            | refine aw_skip ?_
            | refine aw_exit ?_
            | refine aw_ret ?_)
          refine opsK_eq ihx rfl rfl rfl ⟨fC_pure _ _, trivial, nums_pure _, trivial⟩ rfl ?_
          rcases hx with hx | hx <;> subst hx
          all_goals
            show opsK _ _ _ (updO _ _ (PV.val (Value.bool _))) _ _
            repeat' (first
              | refine aw_seq ?_
              | refine aw_region ?_
              | refine aw_draw [] ?_
              | refine opsK_done ?_
              | refine opsK_on rfl ?_
              | refine opsK_off rfl ?_
              | (refine opsK_bool rfl rfl rfl (fun hb => ?_) (fun hb => ?_) <;> try cases hb)
              | refine opsK_of rfl rfl rfl ?_
              | refine opsK_new rfl rfl rfl ?_
              | refine dK_done ?_
              | refine dK_on rfl ?_
              | refine dK_off ⟨_, rfl, nofun⟩ ?_
              | (refine dK_bool rfl rfl rfl (fun hb => ?_) (fun hb => ?_) <;> try cases hb)
              | refine dK_of rfl rfl rfl ?_
              | refine aw_condT rfl ?_
              | refine aw_condF rfl ?_
              | (refine aw_cond rfl (fun hb => ?_) (fun hb => ?_) <;> try cases hb)
              | refine aw_block ?_
              | refine aw_skip ?_
              | refine aw_exit ?_
              | refine aw_ret ?_)
            first
              | exact ret_ok rfl trivial rfl
              | (refine ret_ok rfl trivial ?_
                 rcases hy with hy | hy <;> rw [hy] <;> rfl)
              | (refine opsK_of (E_iaddr (xs := [x, y]) rfl rfl 1 rfl (Nat.lt_succ_self _) (cellsK_length _ _)) rfl rfl ?_
                 rw [show [x, y][1] = y from rfl, cellsK_eq .i64 y]
                 repeat' (first
                   | refine aw_seq ?_
                   | refine aw_region ?_
                   | refine aw_draw [] ?_
                   | refine opsK_done ?_
                   | refine opsK_on rfl ?_
                   | refine opsK_off rfl ?_
                   | (refine opsK_bool rfl rfl rfl (fun hb => ?_) (fun hb => ?_) <;> try cases hb)
                   | refine opsK_of rfl rfl rfl ?_
                   | refine opsK_new rfl rfl rfl ?_
                   | refine dK_done ?_
                   | refine dK_on rfl ?_
                   | refine dK_off ⟨_, rfl, nofun⟩ ?_
                   | (refine dK_bool rfl rfl rfl (fun hb => ?_) (fun hb => ?_) <;> try cases hb)
                   | refine dK_of rfl rfl rfl ?_
                   | refine aw_condT rfl ?_
                   | refine aw_condF rfl ?_
                   | (refine aw_cond rfl (fun hb => ?_) (fun hb => ?_) <;> try cases hb)
                   | refine aw_block ?_
                   | refine aw_skip ?_
                   | refine aw_exit ?_
                   | refine aw_ret ?_)
                 refine opsK_eq ihy rfl rfl rfl ⟨fC_pure _ _, trivial, nums_pure _, trivial⟩ rfl ?_
                 rcases hy with hy | hy <;> subst hy
                 all_goals
                   show opsK _ _ _ (updO _ _ (PV.val (Value.bool _))) _ _
                   repeat' (first
                     | refine aw_seq ?_
                     | refine aw_region ?_
                     | refine aw_draw [] ?_
                     | refine opsK_done ?_
                     | refine opsK_on rfl ?_
                     | refine opsK_off rfl ?_
                     | (refine opsK_bool rfl rfl rfl (fun hb => ?_) (fun hb => ?_) <;> try cases hb)
                     | refine opsK_of rfl rfl rfl ?_
                     | refine opsK_new rfl rfl rfl ?_
                     | refine dK_done ?_
                     | refine dK_on rfl ?_
                     | refine dK_off ⟨_, rfl, nofun⟩ ?_
                     | (refine dK_bool rfl rfl rfl (fun hb => ?_) (fun hb => ?_) <;> try cases hb)
                     | refine dK_of rfl rfl rfl ?_
                     | refine aw_condT rfl ?_
                     | refine aw_condF rfl ?_
                     | (refine aw_cond rfl (fun hb => ?_) (fun hb => ?_) <;> try cases hb)
                     | refine aw_block ?_
                     | refine aw_skip ?_
                     | refine aw_exit ?_
                     | refine aw_ret ?_)
                   exact ret_ok rfl trivial rfl)
      · rw [wantM, if_pos (by omega)] at tx ty
        have hix := number_spec N ms fl d x (by omega) wx tx (by omega)
        have hiy := number_spec N ms fl d y (by omega) wy ty (by omega)
        refine aw_cut hC True 0 [(1, .val (.int .u64 (N : Int))), (2, .vec (nums ms) fl), (3, .cp (fC .i64 (.mk op n roles [x, y])))] [] (Nat.le_refl _) ?_ fun _ => ?_
        · rcases ops16 w.lo w.hi with rfl | rfl | rfl | rfl | rfl | rfl | rfl | rfl | rfl | rfl | rfl | rfl | rfl | rfl | rfl | rfl
          all_goals first | (exfalso; omega) | skip
          all_goals
            repeat' (first
              | refine aw_seq ?_
              | refine aw_region ?_
              | refine aw_draw [] ?_
              | refine opsK_done ?_
              | refine opsK_on rfl ?_
              | refine opsK_off rfl ?_
              | (refine opsK_bool rfl rfl rfl (fun hb => ?_) (fun hb => ?_) <;> try cases hb)
              | refine opsK_of rfl rfl rfl ?_
              | refine opsK_new rfl rfl rfl ?_
              | refine dK_done ?_
              | refine dK_on rfl ?_
              | refine dK_off ⟨_, rfl, nofun⟩ ?_
              | (refine dK_bool rfl rfl rfl (fun hb => ?_) (fun hb => ?_) <;> try cases hb)
              | refine dK_of rfl rfl rfl ?_
              | refine aw_condT rfl ?_
              | refine aw_condF rfl ?_
              | (refine aw_cond rfl (fun hb => ?_) (fun hb => ?_) <;> try cases hb)
              | refine aw_block ?_
              | refine aw_skip ?_
              | refine aw_exit ?_
              | refine aw_ret ?_)
            exact ⟨trivial, ⟨⟨rfl, trivial⟩, ⟨rfl, hmp⟩, ⟨rfl, hpu⟩, trivial⟩, trivial⟩
        refine aw_cut hC True 0 [(3, .cp (fC .i64 (.mk op n roles [x, y]))), (7, .val (.int .i64 (evM N ms x))), (8, .val (.int .i64 (evM N ms y)))] [] (Nat.le_refl _) ?_ fun _ => ?_
        · repeat' (first
          | refine aw_seq ?_
          | refine aw_region ?_
          | refine aw_draw [] ?_
          | refine opsK_done ?_
          | refine opsK_on rfl ?_
          | refine opsK_off rfl ?_
          | (refine opsK_bool rfl rfl rfl (fun hb => ?_) (fun hb => ?_) <;> try cases hb)
          | refine opsK_of rfl rfl rfl ?_
          | refine opsK_new rfl rfl rfl ?_
          | refine dK_done ?_
          | refine dK_on rfl ?_
          | refine dK_off ⟨_, rfl, nofun⟩ ?_
          | (refine dK_bool rfl rfl rfl (fun hb => ?_) (fun hb => ?_) <;> try cases hb)
          | refine dK_of rfl rfl rfl ?_
          | refine aw_condT rfl ?_
          | refine aw_condF rfl ?_
          | (refine aw_cond rfl (fun hb => ?_) (fun hb => ?_) <;> try cases hb)
          | refine aw_block ?_
          | refine aw_skip ?_
          | refine aw_exit ?_
          | refine aw_ret ?_)
          refine dK_of (E_iaddr (xs := [x, y]) rfl rfl 0 rfl (Nat.zero_lt_succ _) (cellsK_length _ _)) rfl rfl ?_
          rw [show [x, y][0] = x from rfl, cellsK_eq .i64 x]
          repeat' (first
            | refine aw_seq ?_
            | refine aw_region ?_
            | refine aw_draw [] ?_
            | refine opsK_done ?_
            | refine opsK_on rfl ?_
            | refine opsK_off rfl ?_
            | (refine opsK_bool rfl rfl rfl (fun hb => ?_) (fun hb => ?_) <;> try cases hb)
            | refine opsK_of rfl rfl rfl ?_
            | refine opsK_new rfl rfl rfl ?_
            | refine dK_done ?_
            | refine dK_on rfl ?_
            | refine dK_off ⟨_, rfl, nofun⟩ ?_
            | (refine dK_bool rfl rfl rfl (fun hb => ?_) (fun hb => ?_) <;> try cases hb)
            | refine dK_of rfl rfl rfl ?_
            | refine aw_condT rfl ?_
            | refine aw_condF rfl ?_
            | (refine aw_cond rfl (fun hb => ?_) (fun hb => ?_) <;> try cases hb)
            | refine aw_block ?_
            | refine aw_skip ?_
            | refine aw_exit ?_
            | refine aw_ret ?_)
          refine dK_eq hix rfl rfl rfl ⟨fC_pure _ _, trivial, nums_pure _, trivial⟩ ?_
          repeat' (first
            | refine aw_seq ?_
            | refine aw_region ?_
            | refine aw_draw [] ?_
            | refine opsK_done ?_
            | refine opsK_on rfl ?_
            | refine opsK_off rfl ?_
            | (refine opsK_bool rfl rfl rfl (fun hb => ?_) (fun hb => ?_) <;> try cases hb)
            | refine opsK_of rfl rfl rfl ?_
            | refine opsK_new rfl rfl rfl ?_
            | refine dK_done ?_
            | refine dK_on rfl ?_
            | refine dK_off ⟨_, rfl, nofun⟩ ?_
            | (refine dK_bool rfl rfl rfl (fun hb => ?_) (fun hb => ?_) <;> try cases hb)
            | refine dK_of rfl rfl rfl ?_
            | refine aw_condT rfl ?_
            | refine aw_condF rfl ?_
            | (refine aw_cond rfl (fun hb => ?_) (fun hb => ?_) <;> try cases hb)
            | refine aw_block ?_
            | refine aw_skip ?_
            | refine aw_exit ?_
            | refine aw_ret ?_)
          refine dK_of (E_iaddr (xs := [x, y]) rfl rfl 1 rfl (Nat.lt_succ_self _) (cellsK_length _ _)) rfl rfl ?_
          rw [show [x, y][1] = y from rfl, cellsK_eq .i64 y]
          repeat' (first
            | refine aw_seq ?_
            | refine aw_region ?_
            | refine aw_draw [] ?_
            | refine opsK_done ?_
            | refine opsK_on rfl ?_
            | refine opsK_off rfl ?_
            | (refine opsK_bool rfl rfl rfl (fun hb => ?_) (fun hb => ?_) <;> try cases hb)
            | refine opsK_of rfl rfl rfl ?_
            | refine opsK_new rfl rfl rfl ?_
            | refine dK_done ?_
            | refine dK_on rfl ?_
            | refine dK_off ⟨_, rfl, nofun⟩ ?_
            | (refine dK_bool rfl rfl rfl (fun hb => ?_) (fun hb => ?_) <;> try cases hb)
            | refine dK_of rfl rfl rfl ?_
            | refine aw_condT rfl ?_
            | refine aw_condF rfl ?_
            | (refine aw_cond rfl (fun hb => ?_) (fun hb => ?_) <;> try cases hb)
            | refine aw_block ?_
            | refine aw_skip ?_
            | refine aw_exit ?_
            | refine aw_ret ?_)
          refine dK_eq hiy rfl rfl rfl ⟨fC_pure _ _, trivial, nums_pure _, trivial⟩ ?_
          repeat' (first
            | refine aw_seq ?_
            | refine aw_region ?_
            | refine aw_draw [] ?_
            | refine opsK_done ?_
            | refine opsK_on rfl ?_
            | refine opsK_off rfl ?_
            | (refine opsK_bool rfl rfl rfl (fun hb => ?_) (fun hb => ?_) <;> try cases hb)
            | refine opsK_of rfl rfl rfl ?_
            | refine opsK_new rfl rfl rfl ?_
            | refine dK_done ?_
            | refine dK_on rfl ?_
            | refine dK_off ⟨_, rfl, nofun⟩ ?_
            | (refine dK_bool rfl rfl rfl (fun hb => ?_) (fun hb => ?_) <;> try cases hb)
            | refine dK_of rfl rfl rfl ?_
            | refine aw_condT rfl ?_
            | refine aw_condF rfl ?_
            | (refine aw_cond rfl (fun hb => ?_) (fun hb => ?_) <;> try cases hb)
            | refine aw_block ?_
            | refine aw_skip ?_
            | refine aw_exit ?_
            | refine aw_ret ?_)
          exact ⟨trivial, ⟨⟨rfl, hpu⟩, ⟨rfl, trivial⟩, ⟨rfl, trivial⟩, trivial⟩, trivial⟩
        generalize evM N ms x = a at *
        generalize evM N ms y = b at *
        rcases ops16 w.lo w.hi with rfl | rfl | rfl | rfl | rfl | rfl | rfl | rfl | rfl | rfl | rfl | rfl | rfl | rfl | rfl | rfl
        all_goals first | (exfalso; omega) | skip
        all_goals
          repeat' (first
            | refine aw_seq ?_
            | refine aw_region ?_
            | refine aw_draw [] ?_
            | refine opsK_done ?_
            | refine opsK_on rfl ?_
            | refine opsK_off rfl ?_
            | (refine opsK_bool rfl rfl rfl (fun hb => ?_) (fun hb => ?_) <;> try cases hb)
            | refine opsK_of rfl rfl rfl ?_
            | refine opsK_new rfl rfl rfl ?_
            | refine dK_done ?_
            | refine dK_on rfl ?_
            | refine dK_off ⟨_, rfl, nofun⟩ ?_
            | (refine dK_bool rfl rfl rfl (fun hb => ?_) (fun hb => ?_) <;> try cases hb)
            | refine dK_of rfl rfl rfl ?_
            | refine aw_condT rfl ?_
            | refine aw_condF rfl ?_
            | (refine aw_cond rfl (fun hb => ?_) (fun hb => ?_) <;> try cases hb)
            | refine aw_block ?_
            | refine aw_skip ?_
            | refine aw_exit ?_
            | refine aw_ret ?_)
          all_goals
            refine ret_ok rfl trivial (congrArg (fun z => PV.val (Value.bool z)) ?_)
            first
              | (refine Eq.trans ?_ (congrArg (fun z => b2i z == 1) hb.symm); rfl)
    · rcases ops16 w.lo w.hi with rfl | rfl | rfl | rfl | rfl | rfl | rfl | h
      · exfalso; omega
      · repeat' (first
        | refine aw_seq ?_
        | refine aw_region ?_
        | refine aw_draw [] ?_
        | refine opsK_done ?_
        | refine opsK_on rfl ?_
        | refine opsK_off rfl ?_
        | (refine opsK_bool rfl rfl rfl (fun hb => ?_) (fun hb => ?_) <;> try cases hb)
        | refine opsK_of rfl rfl rfl ?_
        | refine opsK_new rfl rfl rfl ?_
        | refine dK_done ?_
        | refine dK_on rfl ?_
        | refine dK_off ⟨_, rfl, nofun⟩ ?_
        | (refine dK_bool rfl rfl rfl (fun hb => ?_) (fun hb => ?_) <;> try cases hb)
        | refine dK_of rfl rfl rfl ?_
        | refine aw_condT rfl ?_
        | refine aw_condF rfl ?_
        | (refine aw_cond rfl (fun hb => ?_) (fun hb => ?_) <;> try cases hb)
        | refine aw_block ?_
        | refine aw_skip ?_
        | refine aw_exit ?_
        | refine aw_ret ?_)
        exact ret_ok rfl trivial rfl
      · repeat' (first
        | refine aw_seq ?_
        | refine aw_region ?_
        | refine aw_draw [] ?_
        | refine opsK_done ?_
        | refine opsK_on rfl ?_
        | refine opsK_off rfl ?_
        | (refine opsK_bool rfl rfl rfl (fun hb => ?_) (fun hb => ?_) <;> try cases hb)
        | refine opsK_of rfl rfl rfl ?_
        | refine opsK_new rfl rfl rfl ?_
        | refine dK_done ?_
        | refine dK_on rfl ?_
        | refine dK_off ⟨_, rfl, nofun⟩ ?_
        | (refine dK_bool rfl rfl rfl (fun hb => ?_) (fun hb => ?_) <;> try cases hb)
        | refine dK_of rfl rfl rfl ?_
        | refine aw_condT rfl ?_
        | refine aw_condF rfl ?_
        | (refine aw_cond rfl (fun hb => ?_) (fun hb => ?_) <;> try cases hb)
        | refine aw_block ?_
        | refine aw_skip ?_
        | refine aw_exit ?_
        | refine aw_ret ?_)
        exact ret_ok rfl trivial rfl
      · obtain ⟨r, rfl⟩ := w.role (.inl rfl)
        have hrr := w.rng r (by simp)
        have e4 : (evM N ms (.mk 4 n [r] args) == 1) = N.testBit r.toNat := by
          simp [evM, opM, cntM, b2i]
          cases N.testBit r.toNat <;> rfl
        rw [e4]
        repeat' (first
          | refine aw_seq ?_
          | refine aw_region ?_
          | refine aw_draw [] ?_
          | refine opsK_done ?_
          | refine opsK_on rfl ?_
          | refine opsK_off rfl ?_
          | (refine opsK_bool rfl rfl rfl (fun hb => ?_) (fun hb => ?_) <;> try cases hb)
          | refine opsK_of rfl rfl rfl ?_
          | refine opsK_new rfl rfl rfl ?_
          | refine dK_done ?_
          | refine dK_on rfl ?_
          | refine dK_off ⟨_, rfl, nofun⟩ ?_
          | (refine dK_bool rfl rfl rfl (fun hb => ?_) (fun hb => ?_) <;> try cases hb)
          | refine dK_of rfl rfl rfl ?_
          | refine aw_condT rfl ?_
          | refine aw_condF rfl ?_
          | (refine aw_cond rfl (fun hb => ?_) (fun hb => ?_) <;> try cases hb)
          | refine aw_block ?_
          | refine aw_skip ?_
          | refine aw_exit ?_
          | refine aw_ret ?_)
        rw [conv_u64 r (by omega) (by omega)]
        refine opsK_int rfl rfl rfl (shr_u64 N r.toNat (by omega)) ?_
        refine opsK_int rfl rfl rfl (rem2_u64 N r.toNat) ?_
        refine opsK_boolEq rfl rfl rfl (bit_eq N r.toNat) ?_
        generalize N.testBit r.toNat = t
        repeat' (first
          | refine aw_seq ?_
          | refine aw_region ?_
          | refine aw_draw [] ?_
          | refine opsK_done ?_
          | refine opsK_on rfl ?_
          | refine opsK_off rfl ?_
          | (refine opsK_bool rfl rfl rfl (fun hb => ?_) (fun hb => ?_) <;> try cases hb)
          | refine opsK_of rfl rfl rfl ?_
          | refine opsK_new rfl rfl rfl ?_
          | refine dK_done ?_
          | refine dK_on rfl ?_
          | refine dK_off ⟨_, rfl, nofun⟩ ?_
          | (refine dK_bool rfl rfl rfl (fun hb => ?_) (fun hb => ?_) <;> try cases hb)
          | refine dK_of rfl rfl rfl ?_
          | refine aw_condT rfl ?_
          | refine aw_condF rfl ?_
          | (refine aw_cond rfl (fun hb => ?_) (fun hb => ?_) <;> try cases hb)
          | refine aw_block ?_
          | refine aw_skip ?_
          | refine aw_exit ?_
          | refine aw_ret ?_)
        all_goals exact ret_ok rfl trivial rfl
      · exfalso; omega
      · exfalso; omega
      · obtain ⟨x, rfl⟩ := w.one
        obtain ⟨wx, tx⟩ := w.arg x (by simp)
        rw [depth_one] at hf
        rw [size_one] at hsz
        rw [wantM, if_neg (by omega)] at tx
        obtain ⟨⟨x1, x2⟩, x3⟩ := evM_range N ms d x (by omega) wx
        have ihx := ih x (by omega) wx tx (by omega)
        rw [evM_one]
        have hx := x3 tx
        generalize evM N ms x = a at *
        repeat' (first
          | refine aw_seq ?_
          | refine aw_region ?_
          | refine aw_draw [] ?_
          | refine opsK_done ?_
          | refine opsK_on rfl ?_
          | refine opsK_off rfl ?_
          | (refine opsK_bool rfl rfl rfl (fun hb => ?_) (fun hb => ?_) <;> try cases hb)
          | refine opsK_of rfl rfl rfl ?_
          | refine opsK_new rfl rfl rfl ?_
          | refine dK_done ?_
          | refine dK_on rfl ?_
          | refine dK_off ⟨_, rfl, nofun⟩ ?_
          | (refine dK_bool rfl rfl rfl (fun hb => ?_) (fun hb => ?_) <;> try cases hb)
          | refine dK_of rfl rfl rfl ?_
          | refine aw_condT rfl ?_
          | refine aw_condF rfl ?_
          | (refine aw_cond rfl (fun hb => ?_) (fun hb => ?_) <;> try cases hb)
          | refine aw_block ?_
          | refine aw_skip ?_
          | refine aw_exit ?_
          | refine aw_ret ?_)
        refine opsK_of (E_iaddr (xs := [x]) rfl rfl 0 rfl (Nat.zero_lt_succ _) (cellsK_length _ _)) rfl rfl ?_
        rw [show [x][0] = x from rfl, cellsK_eq .i64 x]
        repeat' (first
          | refine aw_seq ?_
          | refine aw_region ?_
          | refine aw_draw [] ?_
          | refine opsK_done ?_
          | refine opsK_on rfl ?_
          | refine opsK_off rfl ?_
          | (refine opsK_bool rfl rfl rfl (fun hb => ?_) (fun hb => ?_) <;> try cases hb)
          | refine opsK_of rfl rfl rfl ?_
          | refine opsK_new rfl rfl rfl ?_
          | refine dK_done ?_
          | refine dK_on rfl ?_
          | refine dK_off ⟨_, rfl, nofun⟩ ?_
          | (refine dK_bool rfl rfl rfl (fun hb => ?_) (fun hb => ?_) <;> try cases hb)
          | refine dK_of rfl rfl rfl ?_
          | refine aw_condT rfl ?_
          | refine aw_condF rfl ?_
          | (refine aw_cond rfl (fun hb => ?_) (fun hb => ?_) <;> try cases hb)
          | refine aw_block ?_
          | refine aw_skip ?_
          | refine aw_exit ?_
          | refine aw_ret ?_)
        refine opsK_eq ihx rfl rfl rfl ⟨fC_pure _ _, trivial, nums_pure _, trivial⟩ rfl ?_
        rcases hx with hx | hx <;> subst hx
        all_goals
          show opsK _ _ _ (updO _ _ (PV.val (Value.bool _))) _ _
          repeat' (first
            | refine aw_seq ?_
            | refine aw_region ?_
            | refine aw_draw [] ?_
            | refine opsK_done ?_
            | refine opsK_on rfl ?_
            | refine opsK_off rfl ?_
            | (refine opsK_bool rfl rfl rfl (fun hb => ?_) (fun hb => ?_) <;> try cases hb)
            | refine opsK_of rfl rfl rfl ?_
            | refine opsK_new rfl rfl rfl ?_
            | refine dK_done ?_
            | refine dK_on rfl ?_
            | refine dK_off ⟨_, rfl, nofun⟩ ?_
            | (refine dK_bool rfl rfl rfl (fun hb => ?_) (fun hb => ?_) <;> try cases hb)
            | refine dK_of rfl rfl rfl ?_
            | refine aw_condT rfl ?_
            | refine aw_condF rfl ?_
            | (refine aw_cond rfl (fun hb => ?_) (fun hb => ?_) <;> try cases hb)
            | refine aw_block ?_
            | refine aw_skip ?_
            | refine aw_exit ?_
            | refine aw_ret ?_)
          exact ret_ok rfl trivial rfl
      · omega

set_option maxHeartbeats 1000000 in
theorem holdsR_spec (N : Nat) (ms : List Int) (fl : Bool) (f : Fm) (hd : f.depth ≤ 1000) (hsz : f.size ≤ 1099511627776) : Spec Try.prog 11 [.agg (fC .i64 f), .val (.int .u64 (N : Int)), .vec (nums ms) fl] (· = .val (.bool (decide (typeOfE f = 0) && decide (typeOfT f = 1) && decide (evM N ms f = 1)))) := by
  refine spec_intro ok11 (Nat.le_of_ble_eq_true rfl) fun C hC => ?_
  refine aw_seq ?_
  refine aw_region ?_
  refine opsK_ofAlt rfl rfl rfl ?_
  repeat' (first
    | refine aw_seq ?_
    | refine aw_region ?_
    | refine aw_draw [] ?_
    | refine opsK_done ?_
    | refine opsK_on rfl ?_
    | refine opsK_off rfl ?_
    | (refine opsK_bool rfl rfl rfl (fun hb => ?_) (fun hb => ?_) <;> try cases hb)
    | refine opsK_of rfl rfl rfl ?_
    | refine opsK_new rfl rfl rfl ?_
    | refine dK_done ?_
    | refine dK_on rfl ?_
    | refine dK_off ⟨_, rfl, nofun⟩ ?_
    | (refine dK_bool rfl rfl rfl (fun hb => ?_) (fun hb => ?_) <;> try cases hb)
    | refine dK_of rfl rfl rfl ?_
    | refine aw_condT rfl ?_
    | refine aw_condF rfl ?_
    | (refine aw_cond rfl (fun hb => ?_) (fun hb => ?_) <;> try cases hb)
    | refine aw_block ?_
    | refine aw_skip ?_
    | refine aw_exit ?_
    | refine aw_ret ?_)
  refine opsK_eq (typeOfR_spec f hd hsz) rfl rfl rfl ⟨fC_pure _ _, trivial⟩ rfl ?_
  repeat' (first
    | refine aw_seq ?_
    | refine aw_region ?_
    | refine aw_draw [] ?_
    | refine opsK_done ?_
    | refine opsK_on rfl ?_
    | refine opsK_off rfl ?_
    | (refine opsK_bool rfl rfl rfl (fun hb => ?_) (fun hb => ?_) <;> try cases hb)
    | refine opsK_of rfl rfl rfl ?_
    | refine opsK_new rfl rfl rfl ?_
    | refine dK_done ?_
    | refine dK_on rfl ?_
    | refine dK_off ⟨_, rfl, nofun⟩ ?_
    | (refine dK_bool rfl rfl rfl (fun hb => ?_) (fun hb => ?_) <;> try cases hb)
    | refine dK_of rfl rfl rfl ?_
    | refine aw_condT rfl ?_
    | refine aw_condF rfl ?_
    | (refine aw_cond rfl (fun hb => ?_) (fun hb => ?_) <;> try cases hb)
    | refine aw_block ?_
    | refine aw_skip ?_
    | refine aw_exit ?_
    | refine aw_ret ?_)
  · have h0 : typeOfE f = 0 := by rename_i h; simpa using h
    have h1 : typeOfT f = 1 := by simpa using hb
    obtain ⟨hw, _, hs, ht⟩ := typeOf_wf h0
    refine opsK_eq (truth_spec N ms fl f.depth f (Nat.le_refl _) hw (by rw [← ht, h1]) (by omega)) rfl rfl rfl ⟨fC_pure _ _, trivial, nums_pure _, trivial⟩ rfl ?_
    repeat' (first
      | refine aw_seq ?_
      | refine aw_region ?_
      | refine aw_draw [] ?_
      | refine opsK_done ?_
      | refine opsK_on rfl ?_
      | refine opsK_off rfl ?_
      | (refine opsK_bool rfl rfl rfl (fun hb => ?_) (fun hb => ?_) <;> try cases hb)
      | refine opsK_of rfl rfl rfl ?_
      | refine opsK_new rfl rfl rfl ?_
      | refine dK_done ?_
      | refine dK_on rfl ?_
      | refine dK_off ⟨_, rfl, nofun⟩ ?_
      | (refine dK_bool rfl rfl rfl (fun hb => ?_) (fun hb => ?_) <;> try cases hb)
      | refine dK_of rfl rfl rfl ?_
      | refine aw_condT rfl ?_
      | refine aw_condF rfl ?_
      | (refine aw_cond rfl (fun hb => ?_) (fun hb => ?_) <;> try cases hb)
      | refine aw_block ?_
      | refine aw_skip ?_
      | refine aw_exit ?_
      | refine aw_ret ?_)
    all_goals
      refine ret_ok rfl trivial ?_
      simp at hb
      simp [h0, h1, hb]
  · refine ret_ok rfl trivial ?_
    simp at hb
    simp [hb]
  · refine ret_ok rfl trivial ?_
    simp at hb
    simp [hb]
end Go.Proofs.Ytelcpkjclcimbaa
