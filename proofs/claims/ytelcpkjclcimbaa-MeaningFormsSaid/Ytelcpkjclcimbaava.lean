/-
  The program's value of a formula. No statement of the seat is proved here.
-/
import Derived.Test.Ytelcpkjclcimbaaev
namespace Go.Proofs.Ytelcpkjclcimbaa
open Go.RowKit
set_option linter.unusedVariables false
attribute [local irreducible] aw opsK dK

theorem hasN_spec (N : Nat) (r : Int) (h1 : 0 ≤ r) (h2 : r ≤ 4095) : Spec Try.prog 34 [.agg [.vec (words (digs N)) false], .val (.int .i64 r)] (· = .val (.bool (N.testBit r.toNat))) := by
  have h := has_spec (digs N) (digs_words N) r
  rw [decide_eq_true (⟨h1, h2⟩ : 0 ≤ r ∧ r ≤ 4095), Bool.true_and, ← ofW_testBit (digs_words N), ofW_digs] at h
  exact h

theorem count_spec (ws : List (List PV)) (hws : pureLL ws) (ms : List Int) (fl : Bool) (r : Int) (hr : 0 ≤ r) : Spec Try.prog 35 [.agg [.vec ws false, .vec (nums ms) fl], .val (.int .i64 r)] (· = .val (.int .i64 (memM ms r))) := by
  refine spec_intro ok35 (Nat.le_of_ble_eq_true rfl) fun C hC => ?_
  have hl := nums_length ms
  obtain ⟨j, rfl⟩ : ∃ j : Nat, r = j := ⟨r.toNat, by omega⟩
  refine aw_seq ?_
  refine aw_region ?_
  refine opsK_ofAlt rfl rfl rfl ?_
  repeat' (first
    | refine aw_seq ?_
    | refine aw_region ?_
    | refine aw_draw [] ?_
    | refine opsK_done ?_
    | refine opsK_on rfl ?_
    | refine opsK_off rfl ?_
    | (refine opsK_bool rfl rfl rfl (fun hb => ?_) (fun hb => ?_) <;> try cases hb)
    | refine opsK_of rfl rfl rfl ?_
    | refine opsK_new rfl rfl rfl ?_
    | refine dK_done ?_
    | refine dK_on rfl ?_
    | refine dK_off ⟨_, rfl, nofun⟩ ?_
    | (refine dK_bool rfl rfl rfl (fun hb => ?_) (fun hb => ?_) <;> try cases hb)
    | refine dK_of rfl rfl rfl ?_
    | refine aw_condT rfl ?_
    | refine aw_condF rfl ?_
    | (refine aw_cond rfl (fun hb => ?_) (fun hb => ?_) <;> try cases hb)
    | refine aw_block ?_
    | refine aw_skip ?_
    | refine aw_exit ?_
    | refine aw_ret ?_)
  · have hj : ms.length ≤ j := by simp [hl] at hb; omega
    exact ret_ok rfl trivial (by simp [memM, pvOf]; intro h; omega)
  have hj : j < ms.length := by simp [hl] at hb; omega
  have hg : ms.getD j 0 = ms[j] := by simp [List.getD_eq_getElem?_getD, hj]
  have hn : ¬ ((j : Int) ≥ (ms.length : Int)) := by omega
  refine opsK_of (E_iaddr (xs := ms) rfl rfl j rfl hj rfl) rfl rfl ?_
  repeat' (first
    | refine aw_seq ?_
    | refine aw_region ?_
    | refine aw_draw [] ?_
    | refine opsK_done ?_
    | refine opsK_on rfl ?_
    | refine opsK_off rfl ?_
    | (refine opsK_bool rfl rfl rfl (fun hb => ?_) (fun hb => ?_) <;> try cases hb)
    | refine opsK_of rfl rfl rfl ?_
    | refine opsK_new rfl rfl rfl ?_
    | refine dK_done ?_
    | refine dK_on rfl ?_
    | refine dK_off ⟨_, rfl, nofun⟩ ?_
    | (refine dK_bool rfl rfl rfl (fun hb => ?_) (fun hb => ?_) <;> try cases hb)
    | refine dK_of rfl rfl rfl ?_
    | refine aw_condT rfl ?_
    | refine aw_condF rfl ?_
    | (refine aw_cond rfl (fun hb => ?_) (fun hb => ?_) <;> try cases hb)
    | refine aw_block ?_
    | refine aw_skip ?_
    | refine aw_exit ?_
    | refine aw_ret ?_)
  · exact ret_ok rfl trivial (by simp at hb; simp [memM, pvOf, hb, List.getElem?_eq_getElem hj])
  have h1 : ¬ ms[j] < 0 := by simpa using hb
  refine opsK_of (E_iaddr (xs := ms) rfl rfl j rfl hj rfl) rfl rfl ?_
  repeat' (first
    | refine aw_seq ?_
    | refine aw_region ?_
    | refine aw_draw [] ?_
    | refine opsK_done ?_
    | refine opsK_on rfl ?_
    | refine opsK_off rfl ?_
    | (refine opsK_bool rfl rfl rfl (fun hb => ?_) (fun hb => ?_) <;> try cases hb)
    | refine opsK_of rfl rfl rfl ?_
    | refine opsK_new rfl rfl rfl ?_
    | refine dK_done ?_
    | refine dK_on rfl ?_
    | refine dK_off ⟨_, rfl, nofun⟩ ?_
    | (refine dK_bool rfl rfl rfl (fun hb => ?_) (fun hb => ?_) <;> try cases hb)
    | refine dK_of rfl rfl rfl ?_
    | refine aw_condT rfl ?_
    | refine aw_condF rfl ?_
    | (refine aw_cond rfl (fun hb => ?_) (fun hb => ?_) <;> try cases hb)
    | refine aw_block ?_
    | refine aw_skip ?_
    | refine aw_exit ?_
    | refine aw_ret ?_)
  · have h2 : ms[j] > 256 := by simpa using hb
    refine ret_ok rfl trivial ?_
    unfold memM
    rw [if_neg hn, Int.toNat_natCast, hg, if_neg h1, if_pos h2]
    rfl
  · have h2 : ¬ ms[j] > 256 := by simpa using hb
    refine opsK_of (E_iaddr (xs := ms) rfl rfl j rfl hj rfl) rfl rfl ?_
    repeat' (first
      | refine aw_seq ?_
      | refine aw_region ?_
      | refine aw_draw [] ?_
      | refine opsK_done ?_
      | refine opsK_on rfl ?_
      | refine opsK_off rfl ?_
      | (refine opsK_bool rfl rfl rfl (fun hb => ?_) (fun hb => ?_) <;> try cases hb)
      | refine opsK_of rfl rfl rfl ?_
      | refine opsK_new rfl rfl rfl ?_
      | refine dK_done ?_
      | refine dK_on rfl ?_
      | refine dK_off ⟨_, rfl, nofun⟩ ?_
      | (refine dK_bool rfl rfl rfl (fun hb => ?_) (fun hb => ?_) <;> try cases hb)
      | refine dK_of rfl rfl rfl ?_
      | refine aw_condT rfl ?_
      | refine aw_condF rfl ?_
      | (refine aw_cond rfl (fun hb => ?_) (fun hb => ?_) <;> try cases hb)
      | refine aw_block ?_
      | refine aw_skip ?_
      | refine aw_exit ?_
      | refine aw_ret ?_)
    refine ret_ok rfl trivial ?_
    unfold memM
    rw [if_neg hn, Int.toNat_natCast, hg, if_neg h1, if_neg h2]

theorem flag_b2i (b : Bool) : Spec Try.prog 33 [.val (.bool b)] (· = .val (.int .i64 (b2i b))) := flag_spec b

set_option maxHeartbeats 4000000 in
theorem value_spec (N : Nat) (ms : List Int) (fl : Bool) : ∀ (d : Nat) (f : Fm), f.depth ≤ d → Wf f → f.size ≤ 1000 → Spec Try.prog 19 [.agg [.vec (words (digs N)) false, .vec (nums ms) fl], .agg (fC .u8 f)] (· = .val (.int .i64 (evM N ms f))) := by
  intro d
  induction d with
  | zero => intro f hf; rw [Fm.depth_eq] at hf; omega
  | succ d ih =>
    rintro ⟨op, n, roles, args⟩ hf hw hsz
    have w := hw.inv
    have hwp : pureL [.vec (words (digs N)) false, .vec (nums ms) fl] := ⟨words_pure _, nums_pure _, trivial⟩
    have hwi : innL (· < 0) [.vec (words (digs N)) false, .vec (nums ms) fl] := innL_mono (fun _ h => h.elim) _ hwp
    have hpu := fC_inn .u8 (.mk op n roles args) (· < 0)
    refine spec_intro ok19 (Nat.le_of_ble_eq_true rfl) fun C hC => ?_
    refine aw_seq ?_
    refine aw_region ?_
    refine opsK_ofAlt rfl rfl rfl ?_
    refine opsK_ofAlt rfl rfl rfl ?_
    refine opsK_of rfl rfl rfl ?_
    refine opsK_done ?_
    by_cases h8 : 8 ≤ op
    · obtain ⟨x, y, rfl⟩ := w.two h8
      obtain ⟨wx, tx⟩ := w.arg x (by simp)
      obtain ⟨wy, ty⟩ := w.arg y (by simp)
      rw [depth_two] at hf
      rw [size_two] at hsz
      obtain ⟨⟨x1, x2⟩, x3⟩ := evM_range N ms d x (by omega) wx
      obtain ⟨⟨y1, y2⟩, y3⟩ := evM_range N ms d y (by omega) wy
      have ihx := ih x (by omega) wx (by omega)
      have ihy := ih y (by omega) wy (by omega)
      rw [evM_two _ _ _ _ _ _ h8]
      have hwt : op < 11 → typeM x.op = 1 ∧ typeM y.op = 1 := fun h => by
        rw [wantM, if_neg (by omega)] at tx ty; exact ⟨tx, ty⟩
      refine aw_cut hC True 0 [(2, .cp [.vec (words (digs N)) false, .vec (nums ms) fl]), (3, .cp (fC .u8 (.mk op n roles [x, y])))] [] (Nat.le_refl _) ?_ fun _ => ?_
      · rcases ops16 w.lo w.hi with rfl | rfl | rfl | rfl | rfl | rfl | rfl | rfl | rfl | rfl | rfl | rfl | rfl | rfl | rfl | rfl
        all_goals first | (exfalso; omega) | skip
        all_goals
          repeat' (first
            | refine aw_seq ?_
            | refine aw_region ?_
            | refine aw_draw [] ?_
            | refine opsK_done ?_
            | refine opsK_on rfl ?_
            | refine opsK_off rfl ?_
            | (refine opsK_bool rfl rfl rfl (fun hb => ?_) (fun hb => ?_) <;> try cases hb)
            | refine opsK_of rfl rfl rfl ?_
            | refine opsK_new rfl rfl rfl ?_
            | refine dK_done ?_
            | refine dK_on rfl ?_
            | refine dK_off ⟨_, rfl, nofun⟩ ?_
            | (refine dK_bool rfl rfl rfl (fun hb => ?_) (fun hb => ?_) <;> try cases hb)
            | refine dK_of rfl rfl rfl ?_
            | refine aw_condT rfl ?_
            | refine aw_condF rfl ?_
            | (refine aw_cond rfl (fun hb => ?_) (fun hb => ?_) <;> try cases hb)
            | refine aw_block ?_
            | refine aw_skip ?_
            | refine aw_exit ?_
            | refine aw_ret ?_)
          exact ⟨trivial, ⟨⟨rfl, hwi⟩, ⟨rfl, hpu⟩, trivial⟩, trivial⟩
      refine aw_cut hC True 0 [(3, .cp (fC .u8 (.mk op n roles [x, y]))), (8, .val (.int .i64 (evM N ms x))), (9, .val (.int .i64 (evM N ms y)))] [] (Nat.le_refl _) ?_ fun _ => ?_
      · repeat' (first
        | refine aw_seq ?_
        | refine aw_region ?_
        | refine aw_draw [] ?_
        | refine opsK_done ?_
        | refine opsK_on rfl ?_
        | refine opsK_off rfl ?_
        | (refine opsK_bool rfl rfl rfl (fun hb => ?_) (fun hb => ?_) <;> try cases hb)
        | refine opsK_of rfl rfl rfl ?_
        | refine opsK_new rfl rfl rfl ?_
        | refine dK_done ?_
        | refine dK_on rfl ?_
        | refine dK_off ⟨_, rfl, nofun⟩ ?_
        | (refine dK_bool rfl rfl rfl (fun hb => ?_) (fun hb => ?_) <;> try cases hb)
        | refine dK_of rfl rfl rfl ?_
        | refine aw_condT rfl ?_
        | refine aw_condF rfl ?_
        | (refine aw_cond rfl (fun hb => ?_) (fun hb => ?_) <;> try cases hb)
        | refine aw_block ?_
        | refine aw_skip ?_
        | refine aw_exit ?_
        | refine aw_ret ?_)
        refine dK_of (E_iaddr (xs := [x, y]) rfl rfl 0 rfl (Nat.zero_lt_succ _) (cellsK_length _ _)) rfl rfl ?_
        rw [show [x, y][0] = x from rfl, cellsK_eq .u8 x]
        repeat' (first
          | refine aw_seq ?_
          | refine aw_region ?_
          | refine aw_draw [] ?_
          | refine opsK_done ?_
          | refine opsK_on rfl ?_
          | refine opsK_off rfl ?_
          | (refine opsK_bool rfl rfl rfl (fun hb => ?_) (fun hb => ?_) <;> try cases hb)
          | refine opsK_of rfl rfl rfl ?_
          | refine opsK_new rfl rfl rfl ?_
          | refine dK_done ?_
          | refine dK_on rfl ?_
          | refine dK_off ⟨_, rfl, nofun⟩ ?_
          | (refine dK_bool rfl rfl rfl (fun hb => ?_) (fun hb => ?_) <;> try cases hb)
          | refine dK_of rfl rfl rfl ?_
          | refine aw_condT rfl ?_
          | refine aw_condF rfl ?_
          | (refine aw_cond rfl (fun hb => ?_) (fun hb => ?_) <;> try cases hb)
          | refine aw_block ?_
          | refine aw_skip ?_
          | refine aw_exit ?_
          | refine aw_ret ?_)
        refine dK_eq ihx rfl rfl rfl ⟨hwp, fC_pure _ _, trivial⟩ ?_
        repeat' (first
          | refine aw_seq ?_
          | refine aw_region ?_
          | refine aw_draw [] ?_
          | refine opsK_done ?_
          | refine opsK_on rfl ?_
          | refine opsK_off rfl ?_
          | (refine opsK_bool rfl rfl rfl (fun hb => ?_) (fun hb => ?_) <;> try cases hb)
          | refine opsK_of rfl rfl rfl ?_
          | refine opsK_new rfl rfl rfl ?_
          | refine dK_done ?_
          | refine dK_on rfl ?_
          | refine dK_off ⟨_, rfl, nofun⟩ ?_
          | (refine dK_bool rfl rfl rfl (fun hb => ?_) (fun hb => ?_) <;> try cases hb)
          | refine dK_of rfl rfl rfl ?_
          | refine aw_condT rfl ?_
          | refine aw_condF rfl ?_
          | (refine aw_cond rfl (fun hb => ?_) (fun hb => ?_) <;> try cases hb)
          | refine aw_block ?_
          | refine aw_skip ?_
          | refine aw_exit ?_
          | refine aw_ret ?_)
        refine dK_of (E_iaddr (xs := [x, y]) rfl rfl 1 rfl (Nat.lt_succ_self _) (cellsK_length _ _)) rfl rfl ?_
        rw [show [x, y][1] = y from rfl, cellsK_eq .u8 y]
        repeat' (first
          | refine aw_seq ?_
          | refine aw_region ?_
          | refine aw_draw [] ?_
          | refine opsK_done ?_
          | refine opsK_on rfl ?_
          | refine opsK_off rfl ?_
          | (refine opsK_bool rfl rfl rfl (fun hb => ?_) (fun hb => ?_) <;> try cases hb)
          | refine opsK_of rfl rfl rfl ?_
          | refine opsK_new rfl rfl rfl ?_
          | refine dK_done ?_
          | refine dK_on rfl ?_
          | refine dK_off ⟨_, rfl, nofun⟩ ?_
          | (refine dK_bool rfl rfl rfl (fun hb => ?_) (fun hb => ?_) <;> try cases hb)
          | refine dK_of rfl rfl rfl ?_
          | refine aw_condT rfl ?_
          | refine aw_condF rfl ?_
          | (refine aw_cond rfl (fun hb => ?_) (fun hb => ?_) <;> try cases hb)
          | refine aw_block ?_
          | refine aw_skip ?_
          | refine aw_exit ?_
          | refine aw_ret ?_)
        refine dK_eq ihy rfl rfl rfl ⟨hwp, fC_pure _ _, trivial⟩ ?_
        repeat' (first
          | refine aw_seq ?_
          | refine aw_region ?_
          | refine aw_draw [] ?_
          | refine opsK_done ?_
          | refine opsK_on rfl ?_
          | refine opsK_off rfl ?_
          | (refine opsK_bool rfl rfl rfl (fun hb => ?_) (fun hb => ?_) <;> try cases hb)
          | refine opsK_of rfl rfl rfl ?_
          | refine opsK_new rfl rfl rfl ?_
          | refine dK_done ?_
          | refine dK_on rfl ?_
          | refine dK_off ⟨_, rfl, nofun⟩ ?_
          | (refine dK_bool rfl rfl rfl (fun hb => ?_) (fun hb => ?_) <;> try cases hb)
          | refine dK_of rfl rfl rfl ?_
          | refine aw_condT rfl ?_
          | refine aw_condF rfl ?_
          | (refine aw_cond rfl (fun hb => ?_) (fun hb => ?_) <;> try cases hb)
          | refine aw_block ?_
          | refine aw_skip ?_
          | refine aw_exit ?_
          | refine aw_ret ?_)
        exact ⟨trivial, ⟨⟨rfl, hpu⟩, ⟨rfl, trivial⟩, ⟨rfl, trivial⟩, trivial⟩, trivial⟩
      generalize evM N ms x = a at *
      generalize evM N ms y = b at *
      rcases ops16 w.lo w.hi with rfl | rfl | rfl | rfl | rfl | rfl | rfl | rfl | rfl | rfl | rfl | rfl | rfl | rfl | rfl | rfl
      all_goals first | (exfalso; omega) | skip
      · obtain ⟨t1, t2⟩ := hwt (by omega)
        repeat' (first
          | refine aw_seq ?_
          | refine aw_region ?_
          | refine aw_draw [] ?_
          | refine opsK_done ?_
          | refine opsK_on rfl ?_
          | refine opsK_off rfl ?_
          | (refine opsK_bool rfl rfl rfl (fun hb => ?_) (fun hb => ?_) <;> try cases hb)
          | refine opsK_of rfl rfl rfl ?_
          | refine opsK_new rfl rfl rfl ?_
          | refine dK_done ?_
          | refine dK_on rfl ?_
          | refine dK_off ⟨_, rfl, nofun⟩ ?_
          | (refine dK_bool rfl rfl rfl (fun hb => ?_) (fun hb => ?_) <;> try cases hb)
          | refine dK_of rfl rfl rfl ?_
          | refine aw_condT rfl ?_
          | refine aw_condF rfl ?_
          | (refine aw_cond rfl (fun hb => ?_) (fun hb => ?_) <;> try cases hb)
          | refine aw_block ?_
          | refine aw_skip ?_
          | refine aw_exit ?_
          | refine aw_ret ?_)
        refine ret_ok rfl trivial ?_
        have : IntKind.i64.wrap (a * b) = a * b := by rcases x3 t1 with h | h <;> rcases y3 t2 with h' | h' <;> rw [h, h'] <;> rfl
        rw [this]; rfl
      · repeat' (first
        | refine aw_seq ?_
        | refine aw_region ?_
        | refine aw_draw [] ?_
        | refine opsK_done ?_
        | refine opsK_on rfl ?_
        | refine opsK_off rfl ?_
        | (refine opsK_bool rfl rfl rfl (fun hb => ?_) (fun hb => ?_) <;> try cases hb)
        | refine opsK_of rfl rfl rfl ?_
        | refine opsK_new rfl rfl rfl ?_
        | refine dK_done ?_
        | refine dK_on rfl ?_
        | refine dK_off ⟨_, rfl, nofun⟩ ?_
        | (refine dK_bool rfl rfl rfl (fun hb => ?_) (fun hb => ?_) <;> try cases hb)
        | refine dK_of rfl rfl rfl ?_
        | refine aw_condT rfl ?_
        | refine aw_condF rfl ?_
        | (refine aw_cond rfl (fun hb => ?_) (fun hb => ?_) <;> try cases hb)
        | refine aw_block ?_
        | refine aw_skip ?_
        | refine aw_exit ?_
        | refine aw_ret ?_)
        exact ret_ok rfl trivial rfl
      · obtain ⟨t1, t2⟩ := hwt (by omega)
        have : IntKind.i64.wrap (1 - a) = 1 - a := by rcases x3 t1 with h | h <;> rw [h] <;> rfl
        repeat' (first
          | refine aw_seq ?_
          | refine aw_region ?_
          | refine aw_draw [] ?_
          | refine opsK_done ?_
          | refine opsK_on rfl ?_
          | refine opsK_off rfl ?_
          | (refine opsK_bool rfl rfl rfl (fun hb => ?_) (fun hb => ?_) <;> try cases hb)
          | refine opsK_of rfl rfl rfl ?_
          | refine opsK_new rfl rfl rfl ?_
          | refine dK_done ?_
          | refine dK_on rfl ?_
          | refine dK_off ⟨_, rfl, nofun⟩ ?_
          | (refine dK_bool rfl rfl rfl (fun hb => ?_) (fun hb => ?_) <;> try cases hb)
          | refine dK_of rfl rfl rfl ?_
          | refine aw_condT rfl ?_
          | refine aw_condF rfl ?_
          | (refine aw_cond rfl (fun hb => ?_) (fun hb => ?_) <;> try cases hb)
          | refine aw_block ?_
          | refine aw_skip ?_
          | refine aw_exit ?_
          | refine aw_ret ?_)
        refine ret_ok rfl trivial ?_
        rw [this]; rfl
      iterate 5
        · repeat' (first
          | refine aw_seq ?_
          | refine aw_region ?_
          | refine aw_draw [] ?_
          | refine opsK_done ?_
          | refine opsK_on rfl ?_
          | refine opsK_off rfl ?_
          | (refine opsK_bool rfl rfl rfl (fun hb => ?_) (fun hb => ?_) <;> try cases hb)
          | refine opsK_of rfl rfl rfl ?_
          | refine opsK_new rfl rfl rfl ?_
          | refine dK_done ?_
          | refine dK_on rfl ?_
          | refine dK_off ⟨_, rfl, nofun⟩ ?_
          | (refine dK_bool rfl rfl rfl (fun hb => ?_) (fun hb => ?_) <;> try cases hb)
          | refine dK_of rfl rfl rfl ?_
          | refine aw_condT rfl ?_
          | refine aw_condF rfl ?_
          | (refine aw_cond rfl (fun hb => ?_) (fun hb => ?_) <;> try cases hb)
          | refine aw_block ?_
          | refine aw_skip ?_
          | refine aw_exit ?_
          | refine aw_ret ?_)
          all_goals
            refine opsK_eq (flag_b2i _) rfl rfl rfl ⟨trivial, trivial⟩ rfl ?_
            repeat' (first
              | refine aw_seq ?_
              | refine aw_region ?_
              | refine aw_draw [] ?_
              | refine opsK_done ?_
              | refine opsK_on rfl ?_
              | refine opsK_off rfl ?_
              | (refine opsK_bool rfl rfl rfl (fun hb => ?_) (fun hb => ?_) <;> try cases hb)
              | refine opsK_of rfl rfl rfl ?_
              | refine opsK_new rfl rfl rfl ?_
              | refine dK_done ?_
              | refine dK_on rfl ?_
              | refine dK_off ⟨_, rfl, nofun⟩ ?_
              | (refine dK_bool rfl rfl rfl (fun hb => ?_) (fun hb => ?_) <;> try cases hb)
              | refine dK_of rfl rfl rfl ?_
              | refine aw_condT rfl ?_
              | refine aw_condF rfl ?_
              | (refine aw_cond rfl (fun hb => ?_) (fun hb => ?_) <;> try cases hb)
              | refine aw_block ?_
              | refine aw_skip ?_
              | refine aw_exit ?_
              | refine aw_ret ?_)
            exact ret_ok rfl trivial (congrArg (fun z => PV.val (Value.int .i64 (b2i z))) hb.symm)
      · have : IntKind.i64.wrap (a + b) = a + b := IntWalk.i64_in _ ⟨by omega, by omega⟩
        repeat' (first
          | refine aw_seq ?_
          | refine aw_region ?_
          | refine aw_draw [] ?_
          | refine opsK_done ?_
          | refine opsK_on rfl ?_
          | refine opsK_off rfl ?_
          | (refine opsK_bool rfl rfl rfl (fun hb => ?_) (fun hb => ?_) <;> try cases hb)
          | refine opsK_of rfl rfl rfl ?_
          | refine opsK_new rfl rfl rfl ?_
          | refine dK_done ?_
          | refine dK_on rfl ?_
          | refine dK_off ⟨_, rfl, nofun⟩ ?_
          | (refine dK_bool rfl rfl rfl (fun hb => ?_) (fun hb => ?_) <;> try cases hb)
          | refine dK_of rfl rfl rfl ?_
          | refine aw_condT rfl ?_
          | refine aw_condF rfl ?_
          | (refine aw_cond rfl (fun hb => ?_) (fun hb => ?_) <;> try cases hb)
          | refine aw_block ?_
          | refine aw_skip ?_
          | refine aw_exit ?_
          | refine aw_ret ?_)
        refine ret_ok rfl trivial ?_
        rw [this]; rfl
    rcases ops16 w.lo w.hi with rfl | rfl | rfl | rfl | rfl | rfl | rfl | h
    · repeat' (first
      | refine aw_seq ?_
      | refine aw_region ?_
      | refine aw_draw [] ?_
      | refine opsK_done ?_
      | refine opsK_on rfl ?_
      | refine opsK_off rfl ?_
      | (refine opsK_bool rfl rfl rfl (fun hb => ?_) (fun hb => ?_) <;> try cases hb)
      | refine opsK_of rfl rfl rfl ?_
      | refine opsK_new rfl rfl rfl ?_
      | refine dK_done ?_
      | refine dK_on rfl ?_
      | refine dK_off ⟨_, rfl, nofun⟩ ?_
      | (refine dK_bool rfl rfl rfl (fun hb => ?_) (fun hb => ?_) <;> try cases hb)
      | refine dK_of rfl rfl rfl ?_
      | refine aw_condT rfl ?_
      | refine aw_condF rfl ?_
      | (refine aw_cond rfl (fun hb => ?_) (fun hb => ?_) <;> try cases hb)
      | refine aw_block ?_
      | refine aw_skip ?_
      | refine aw_exit ?_
      | refine aw_ret ?_)
      exact ret_ok rfl trivial rfl
    · repeat' (first
      | refine aw_seq ?_
      | refine aw_region ?_
      | refine aw_draw [] ?_
      | refine opsK_done ?_
      | refine opsK_on rfl ?_
      | refine opsK_off rfl ?_
      | (refine opsK_bool rfl rfl rfl (fun hb => ?_) (fun hb => ?_) <;> try cases hb)
      | refine opsK_of rfl rfl rfl ?_
      | refine opsK_new rfl rfl rfl ?_
      | refine dK_done ?_
      | refine dK_on rfl ?_
      | refine dK_off ⟨_, rfl, nofun⟩ ?_
      | (refine dK_bool rfl rfl rfl (fun hb => ?_) (fun hb => ?_) <;> try cases hb)
      | refine dK_of rfl rfl rfl ?_
      | refine aw_condT rfl ?_
      | refine aw_condF rfl ?_
      | (refine aw_cond rfl (fun hb => ?_) (fun hb => ?_) <;> try cases hb)
      | refine aw_block ?_
      | refine aw_skip ?_
      | refine aw_exit ?_
      | refine aw_ret ?_)
      exact ret_ok rfl trivial rfl
    · repeat' (first
      | refine aw_seq ?_
      | refine aw_region ?_
      | refine aw_draw [] ?_
      | refine opsK_done ?_
      | refine opsK_on rfl ?_
      | refine opsK_off rfl ?_
      | (refine opsK_bool rfl rfl rfl (fun hb => ?_) (fun hb => ?_) <;> try cases hb)
      | refine opsK_of rfl rfl rfl ?_
      | refine opsK_new rfl rfl rfl ?_
      | refine dK_done ?_
      | refine dK_on rfl ?_
      | refine dK_off ⟨_, rfl, nofun⟩ ?_
      | (refine dK_bool rfl rfl rfl (fun hb => ?_) (fun hb => ?_) <;> try cases hb)
      | refine dK_of rfl rfl rfl ?_
      | refine aw_condT rfl ?_
      | refine aw_condF rfl ?_
      | (refine aw_cond rfl (fun hb => ?_) (fun hb => ?_) <;> try cases hb)
      | refine aw_block ?_
      | refine aw_skip ?_
      | refine aw_exit ?_
      | refine aw_ret ?_)
      exact ret_ok rfl trivial rfl
    iterate 2
      · have hl := nums_length roles
        have hmost := w.most
        have hm8 : roles.length ≤ 8 := by
          have : (roles.length : Int) ≤ 8 := Int.le_trans hmost (by decide)
          omega
        repeat' (first
          | refine aw_seq ?_
          | refine aw_region ?_
          | refine aw_draw [] ?_
          | refine opsK_done ?_
          | refine opsK_on rfl ?_
          | refine opsK_off rfl ?_
          | (refine opsK_bool rfl rfl rfl (fun hb => ?_) (fun hb => ?_) <;> try cases hb)
          | refine opsK_of rfl rfl rfl ?_
          | refine opsK_new rfl rfl rfl ?_
          | refine dK_done ?_
          | refine dK_on rfl ?_
          | refine dK_off ⟨_, rfl, nofun⟩ ?_
          | (refine dK_bool rfl rfl rfl (fun hb => ?_) (fun hb => ?_) <;> try cases hb)
          | refine dK_of rfl rfl rfl ?_
          | refine aw_condT rfl ?_
          | refine aw_condF rfl ?_
          | (refine aw_cond rfl (fun hb => ?_) (fun hb => ?_) <;> try cases hb)
          | refine aw_block ?_
          | refine aw_skip ?_
          | refine aw_exit ?_
          | refine aw_ret ?_)
        refine aw_loopH hC (fun i => i ≤ roles.length) (fun i => roles.length - i) 0 (fun i => [(2, .cp [.vec (words (digs N)) false, .vec (nums ms) fl]), (5, .val (.int .i64 (cntM N (roles.take i)))), (24, .vec (nums roles) false), (25, .val (.int .i64 roles.length)), (26, .val (.int .i64 (i : Int)))]) (fun _ => []) (Nat.le_refl _) 0 (Nat.zero_le _)
          ⟨⟨rfl, hwi⟩, ⟨rfl, trivial⟩, ⟨rfl, nums_inn _ _⟩, ⟨by rw [← hl]; rfl, trivial⟩, ⟨rfl, trivial⟩, trivial⟩ trivial ?_
        intro i hi
        have hinc : IntKind.i64.wrap ((i : Int) + 1) = ((i + 1 : Nat) : Int) := IntWalk.i64_in _ ⟨by omega, by omega⟩
        repeat' (first
          | refine aw_seq ?_
          | refine aw_region ?_
          | refine aw_draw [] ?_
          | refine opsK_done ?_
          | refine opsK_on rfl ?_
          | refine opsK_off rfl ?_
          | (refine opsK_bool rfl rfl rfl (fun hb => ?_) (fun hb => ?_) <;> try cases hb)
          | refine opsK_of rfl rfl rfl ?_
          | refine opsK_new rfl rfl rfl ?_
          | refine dK_done ?_
          | refine dK_on rfl ?_
          | refine dK_off ⟨_, rfl, nofun⟩ ?_
          | (refine dK_bool rfl rfl rfl (fun hb => ?_) (fun hb => ?_) <;> try cases hb)
          | refine dK_of rfl rfl rfl ?_
          | refine aw_condT rfl ?_
          | refine aw_condF rfl ?_
          | (refine aw_cond rfl (fun hb => ?_) (fun hb => ?_) <;> try cases hb)
          | refine aw_block ?_
          | refine aw_skip ?_
          | refine aw_exit ?_
          | refine aw_ret ?_)
        · have hil : i < roles.length := by simpa using hb
          refine opsK_of (E_iaddr (xs := roles) rfl rfl i rfl hil rfl) rfl rfl ?_
          have hrr := w.rng roles[i] (List.getElem_mem _)
          have hadd : IntKind.i64.wrap (cntM N (roles.take i) + b2i (N.testBit roles[i].toNat)) = cntM N (roles.take (i + 1)) := by
            have h1 := cntM_take (N := N) hil
            have h2 := cntM_range N (roles.take (i + 1))
            have h3 : (roles.take (i + 1)).length ≤ roles.length := by rw [List.length_take]; omega
            rw [← h1]
            exact IntWalk.i64_in _ ⟨by omega, by omega⟩
          repeat' (first
            | refine aw_seq ?_
            | refine aw_region ?_
            | refine aw_draw [] ?_
            | refine opsK_done ?_
            | refine opsK_on rfl ?_
            | refine opsK_off rfl ?_
            | (refine opsK_bool rfl rfl rfl (fun hb => ?_) (fun hb => ?_) <;> try cases hb)
            | refine opsK_of rfl rfl rfl ?_
            | refine opsK_new rfl rfl rfl ?_
            | refine dK_done ?_
            | refine dK_on rfl ?_
            | refine dK_off ⟨_, rfl, nofun⟩ ?_
            | (refine dK_bool rfl rfl rfl (fun hb => ?_) (fun hb => ?_) <;> try cases hb)
            | refine dK_of rfl rfl rfl ?_
            | refine aw_condT rfl ?_
            | refine aw_condF rfl ?_
            | (refine aw_cond rfl (fun hb => ?_) (fun hb => ?_) <;> try cases hb)
            | refine aw_block ?_
            | refine aw_skip ?_
            | refine aw_exit ?_
            | refine aw_ret ?_)
          refine opsK_eq (hasN_spec N roles[i] (by omega) (by omega)) rfl rfl rfl ⟨⟨words_pure _, trivial⟩, trivial, trivial⟩ rfl ?_
          refine opsK_eq (flag_b2i _) rfl rfl rfl ⟨trivial, trivial⟩ rfl ?_
          refine opsK_int rfl rfl rfl hadd ?_
          repeat' (first
            | refine aw_seq ?_
            | refine aw_region ?_
            | refine aw_draw [] ?_
            | refine opsK_done ?_
            | refine opsK_on rfl ?_
            | refine opsK_off rfl ?_
            | (refine opsK_bool rfl rfl rfl (fun hb => ?_) (fun hb => ?_) <;> try cases hb)
            | refine opsK_of rfl rfl rfl ?_
            | refine opsK_new rfl rfl rfl ?_
            | refine dK_done ?_
            | refine dK_on rfl ?_
            | refine dK_off ⟨_, rfl, nofun⟩ ?_
            | (refine dK_bool rfl rfl rfl (fun hb => ?_) (fun hb => ?_) <;> try cases hb)
            | refine dK_of rfl rfl rfl ?_
            | refine aw_condT rfl ?_
            | refine aw_condF rfl ?_
            | (refine aw_cond rfl (fun hb => ?_) (fun hb => ?_) <;> try cases hb)
            | refine aw_block ?_
            | refine aw_skip ?_
            | refine aw_exit ?_
            | refine aw_ret ?_)
          exact ⟨i + 1, by omega, by omega, ⟨⟨rfl, hwi⟩, ⟨rfl, trivial⟩, ⟨rfl, nums_inn _ _⟩, ⟨rfl, trivial⟩, ⟨by show some _ = some _; rw [hinc], trivial⟩, trivial⟩, trivial⟩
        · have hil : i = roles.length := by simp at hb; omega
          subst hil
          rw [List.take_length]
          exact ret_ok rfl trivial rfl
    · obtain ⟨r, rfl⟩ := w.role (.inr rfl)
      have hrr := w.rng r (by simp)
      repeat' (first
        | refine aw_seq ?_
        | refine aw_region ?_
        | refine aw_draw [] ?_
        | refine opsK_done ?_
        | refine opsK_on rfl ?_
        | refine opsK_off rfl ?_
        | (refine opsK_bool rfl rfl rfl (fun hb => ?_) (fun hb => ?_) <;> try cases hb)
        | refine opsK_of rfl rfl rfl ?_
        | refine opsK_new rfl rfl rfl ?_
        | refine dK_done ?_
        | refine dK_on rfl ?_
        | refine dK_off ⟨_, rfl, nofun⟩ ?_
        | (refine dK_bool rfl rfl rfl (fun hb => ?_) (fun hb => ?_) <;> try cases hb)
        | refine dK_of rfl rfl rfl ?_
        | refine aw_condT rfl ?_
        | refine aw_condF rfl ?_
        | (refine aw_cond rfl (fun hb => ?_) (fun hb => ?_) <;> try cases hb)
        | refine aw_block ?_
        | refine aw_skip ?_
        | refine aw_exit ?_
        | refine aw_ret ?_)
      refine dK_eq (count_spec _ (words_pure _) ms fl r (by omega)) rfl rfl rfl ⟨hwp, trivial, trivial⟩ ?_
      repeat' (first
        | refine aw_seq ?_
        | refine aw_region ?_
        | refine aw_draw [] ?_
        | refine opsK_done ?_
        | refine opsK_on rfl ?_
        | refine opsK_off rfl ?_
        | (refine opsK_bool rfl rfl rfl (fun hb => ?_) (fun hb => ?_) <;> try cases hb)
        | refine opsK_of rfl rfl rfl ?_
        | refine opsK_new rfl rfl rfl ?_
        | refine dK_done ?_
        | refine dK_on rfl ?_
        | refine dK_off ⟨_, rfl, nofun⟩ ?_
        | (refine dK_bool rfl rfl rfl (fun hb => ?_) (fun hb => ?_) <;> try cases hb)
        | refine dK_of rfl rfl rfl ?_
        | refine aw_condT rfl ?_
        | refine aw_condF rfl ?_
        | (refine aw_cond rfl (fun hb => ?_) (fun hb => ?_) <;> try cases hb)
        | refine aw_block ?_
        | refine aw_skip ?_
        | refine aw_exit ?_
        | refine aw_ret ?_)
      exact ret_ok rfl trivial rfl
    · obtain ⟨x, rfl⟩ := w.one
      obtain ⟨wx, tx⟩ := w.arg x (by simp)
      rw [depth_one] at hf
      rw [size_one] at hsz
      obtain ⟨⟨x1, x2⟩, x3⟩ := evM_range N ms d x (by omega) wx
      have ihx := ih x (by omega) wx (by omega)
      rw [evM_one]
      repeat' (first
        | refine aw_seq ?_
        | refine aw_region ?_
        | refine aw_draw [] ?_
        | refine opsK_done ?_
        | refine opsK_on rfl ?_
        | refine opsK_off rfl ?_
        | (refine opsK_bool rfl rfl rfl (fun hb => ?_) (fun hb => ?_) <;> try cases hb)
        | refine opsK_of rfl rfl rfl ?_
        | refine opsK_new rfl rfl rfl ?_
        | refine dK_done ?_
        | refine dK_on rfl ?_
        | refine dK_off ⟨_, rfl, nofun⟩ ?_
        | (refine dK_bool rfl rfl rfl (fun hb => ?_) (fun hb => ?_) <;> try cases hb)
        | refine dK_of rfl rfl rfl ?_
        | refine aw_condT rfl ?_
        | refine aw_condF rfl ?_
        | (refine aw_cond rfl (fun hb => ?_) (fun hb => ?_) <;> try cases hb)
        | refine aw_block ?_
        | refine aw_skip ?_
        | refine aw_exit ?_
        | refine aw_ret ?_)
      refine dK_of (E_iaddr (xs := [x]) rfl rfl 0 rfl (Nat.zero_lt_succ _) (cellsK_length _ _)) rfl rfl ?_
      rw [show [x][0] = x from rfl, cellsK_eq .u8 x]
      repeat' (first
        | refine aw_seq ?_
        | refine aw_region ?_
        | refine aw_draw [] ?_
        | refine opsK_done ?_
        | refine opsK_on rfl ?_
        | refine opsK_off rfl ?_
        | (refine opsK_bool rfl rfl rfl (fun hb => ?_) (fun hb => ?_) <;> try cases hb)
        | refine opsK_of rfl rfl rfl ?_
        | refine opsK_new rfl rfl rfl ?_
        | refine dK_done ?_
        | refine dK_on rfl ?_
        | refine dK_off ⟨_, rfl, nofun⟩ ?_
        | (refine dK_bool rfl rfl rfl (fun hb => ?_) (fun hb => ?_) <;> try cases hb)
        | refine dK_of rfl rfl rfl ?_
        | refine aw_condT rfl ?_
        | refine aw_condF rfl ?_
        | (refine aw_cond rfl (fun hb => ?_) (fun hb => ?_) <;> try cases hb)
        | refine aw_block ?_
        | refine aw_skip ?_
        | refine aw_exit ?_
        | refine aw_ret ?_)
      refine dK_eq ihx rfl rfl rfl ⟨hwp, fC_pure _ _, trivial⟩ ?_
      have : IntKind.i64.wrap (1 - evM N ms x) = 1 - evM N ms x := IntWalk.i64_in _ ⟨by omega, by omega⟩
      repeat' (first
        | refine aw_seq ?_
        | refine aw_region ?_
        | refine aw_draw [] ?_
        | refine opsK_done ?_
        | refine opsK_on rfl ?_
        | refine opsK_off rfl ?_
        | (refine opsK_bool rfl rfl rfl (fun hb => ?_) (fun hb => ?_) <;> try cases hb)
        | refine opsK_of rfl rfl rfl ?_
        | refine opsK_new rfl rfl rfl ?_
        | refine dK_done ?_
        | refine dK_on rfl ?_
        | refine dK_off ⟨_, rfl, nofun⟩ ?_
        | (refine dK_bool rfl rfl rfl (fun hb => ?_) (fun hb => ?_) <;> try cases hb)
        | refine dK_of rfl rfl rfl ?_
        | refine aw_condT rfl ?_
        | refine aw_condF rfl ?_
        | (refine aw_cond rfl (fun hb => ?_) (fun hb => ?_) <;> try cases hb)
        | refine aw_block ?_
        | refine aw_skip ?_
        | refine aw_exit ?_
        | refine aw_ret ?_)
      refine ret_ok rfl trivial ?_
      rw [this]
    · omega

theorem typeOf_wf {f : Fm} (h : typeOfE f = 0) : Wf f ∧ f.depth ≤ 10 ∧ f.size ≤ 200 ∧ typeOfT f = typeM f.op := by
  unfold typeOfE at h
  unfold typeOfT
  split at h
  · cases h
  · rename_i h1
    split at h
    · rename_i h2
      split at h
      · rename_i h3
        exact ⟨⟨h2, h3⟩, by omega, by omega, by rw [if_neg h1, if_pos h2, if_pos h3]⟩
      · cases h
    · rename_i h2; exact absurd h h2

set_option maxHeartbeats 1000000 in
theorem holds_spec (N : Nat) (ms : List Int) (fl : Bool) (f : Fm) (hd : f.depth ≤ 1000) (hsz : f.size ≤ 1099511627776) : Spec Try.prog 8 [.agg (fC .u8 f), setN N, .vec (nums ms) fl] (· = .val (.bool (decide (typeOfE f = 0) && decide (typeOfT f = 1) && decide (evM N ms f = 1)))) := by
  refine spec_intro ok8 (Nat.le_of_ble_eq_true rfl) fun C hC => ?_
  have hp : pureL [.vec (words (digs N)) false] := ⟨words_pure _, trivial⟩
  have hwp : pureL [.vec (words (digs N)) false, .vec (nums ms) fl] := ⟨words_pure _, nums_pure _, trivial⟩
  refine aw_seq ?_
  refine aw_region ?_
  refine opsK_ofAlt rfl rfl rfl ?_
  refine opsK_ofAlt rfl rfl rfl ?_
  repeat' (first
    | refine aw_seq ?_
    | refine aw_region ?_
    | refine aw_draw [] ?_
    | refine opsK_done ?_
    | refine opsK_on rfl ?_
    | refine opsK_off rfl ?_
    | (refine opsK_bool rfl rfl rfl (fun hb => ?_) (fun hb => ?_) <;> try cases hb)
    | refine opsK_of rfl rfl rfl ?_
    | refine opsK_new rfl rfl rfl ?_
    | refine dK_done ?_
    | refine dK_on rfl ?_
    | refine dK_off ⟨_, rfl, nofun⟩ ?_
    | (refine dK_bool rfl rfl rfl (fun hb => ?_) (fun hb => ?_) <;> try cases hb)
    | refine dK_of rfl rfl rfl ?_
    | refine aw_condT rfl ?_
    | refine aw_condF rfl ?_
    | (refine aw_cond rfl (fun hb => ?_) (fun hb => ?_) <;> try cases hb)
    | refine aw_block ?_
    | refine aw_skip ?_
    | refine aw_exit ?_
    | refine aw_ret ?_)
  refine opsK_eq (typeOf_spec f hd hsz) rfl rfl rfl ⟨fC_pure _ _, trivial⟩ rfl ?_
  repeat' (first
    | refine aw_seq ?_
    | refine aw_region ?_
    | refine aw_draw [] ?_
    | refine opsK_done ?_
    | refine opsK_on rfl ?_
    | refine opsK_off rfl ?_
    | (refine opsK_bool rfl rfl rfl (fun hb => ?_) (fun hb => ?_) <;> try cases hb)
    | refine opsK_of rfl rfl rfl ?_
    | refine opsK_new rfl rfl rfl ?_
    | refine dK_done ?_
    | refine dK_on rfl ?_
    | refine dK_off ⟨_, rfl, nofun⟩ ?_
    | (refine dK_bool rfl rfl rfl (fun hb => ?_) (fun hb => ?_) <;> try cases hb)
    | refine dK_of rfl rfl rfl ?_
    | refine aw_condT rfl ?_
    | refine aw_condF rfl ?_
    | (refine aw_cond rfl (fun hb => ?_) (fun hb => ?_) <;> try cases hb)
    | refine aw_block ?_
    | refine aw_skip ?_
    | refine aw_exit ?_
    | refine aw_ret ?_)
  · have h0 : typeOfE f = 0 := by rename_i h; simpa using h
    have h1 : typeOfT f = 1 := by simpa using hb
    obtain ⟨hw, _, hs, _⟩ := typeOf_wf h0
    refine opsK_eq (value_spec N ms fl f.depth f (Nat.le_refl _) hw (by omega)) rfl rfl rfl ⟨hwp, fC_pure _ _, trivial⟩ rfl ?_
    repeat' (first
      | refine aw_seq ?_
      | refine aw_region ?_
      | refine aw_draw [] ?_
      | refine opsK_done ?_
      | refine opsK_on rfl ?_
      | refine opsK_off rfl ?_
      | (refine opsK_bool rfl rfl rfl (fun hb => ?_) (fun hb => ?_) <;> try cases hb)
      | refine opsK_of rfl rfl rfl ?_
      | refine opsK_new rfl rfl rfl ?_
      | refine dK_done ?_
      | refine dK_on rfl ?_
      | refine dK_off ⟨_, rfl, nofun⟩ ?_
      | (refine dK_bool rfl rfl rfl (fun hb => ?_) (fun hb => ?_) <;> try cases hb)
      | refine dK_of rfl rfl rfl ?_
      | refine aw_condT rfl ?_
      | refine aw_condF rfl ?_
      | (refine aw_cond rfl (fun hb => ?_) (fun hb => ?_) <;> try cases hb)
      | refine aw_block ?_
      | refine aw_skip ?_
      | refine aw_exit ?_
      | refine aw_ret ?_)
    all_goals
      refine ret_ok rfl trivial ?_
      simp at hb
      simp [h0, h1, hb]
  · refine ret_ok rfl trivial ?_
    simp at hb
    simp [hb]
  · refine ret_ok rfl trivial ?_
    simp at hb
    simp [hb]
end Go.Proofs.Ytelcpkjclcimbaa
