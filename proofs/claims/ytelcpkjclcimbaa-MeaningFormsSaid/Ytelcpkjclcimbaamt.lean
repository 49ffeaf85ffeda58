/-
  Formulas from bytes: those of the type Bool; Make. No statement of the seat is proved here.
-/
import Derived.Test.Ytelcpkjclcimbaamn
namespace Go.Proofs.Ytelcpkjclcimbaa
open Go.RowKit
set_option linter.unusedVariables false
attribute [local irreducible] aw opsK dK

theorem one_made {l : List Nat} {fl : Bool} {d t t1 : Nat} {x : Fm} (wx : Wf x) (tx : typeM x.op = 1) (dx : x.depth ≤ d) (sx : x.size + 1 ≤ 2 ^ d) (h1 : t1 + 1 ≤ t + 1 + 2 ^ (d + 1)) : MadeR 1 l fl (d + 1) t (.agg (fC .i64 (.mk 7 0 [] [x]))) (srcB l fl t1) := by
  have w : WfI 7 0 [] [x] := ⟨by decide, by decide, rfl, fun _ => rfl, by decide, by decide, by decide, by decide, fun r hr => (by cases hr), by simp, fun a ha => by
    rw [List.mem_singleton.1 ha]; exact ⟨wx, tx⟩⟩
  have hp := Nat.pos_of_ne_zero (show 2 ^ d ≠ 0 from fun h => by simp at h)
  refine ⟨_, t1, w.wf, rfl, by rw [depth_one]; omega, by rw [size_one, Nat.pow_succ]; omega, rfl, rfl, ?_⟩
  rw [Nat.pow_succ (n := 2) (m := d + 1), Nat.pow_succ] at *
  omega

set_option maxHeartbeats 4000000 in
theorem compare_spec (l : List Nat) (hl : Bytes l) (fl : Bool) (k : Int) (w d t : Nat) (hd : 1 ≤ d) (ht : t + 2 ^ (d + 2) ≤ 1099511627776) :
    PSpec Try.prog 29 (srcB l fl (t + 1)) [.val (.int .i64 (w : Int)), .val (.int .i64 ((d + 1 : Nat) : Int)), .val (.int .i64 k), .val (.int .i64 6)] (MadeR 1 l fl (d + 1) t) := by
  have hp2 : 2 ^ (d + 2) = 2 * 2 ^ (d + 1) := by rw [Nat.pow_succ]; omega
  have hpt := Nat.lt_two_pow_self (n := d + 1)
  have hdec : IntKind.i64.wrap (((d + 1 : Nat) : Int) - 1) = (d : Int) := by rw [show ((d + 1 : Nat) : Int) - 1 = (d : Int) by omega]; exact wrap_nat _ (by omega)
  have hm : (w : Int).tmod 5 = ((w % 5 : Nat) : Int) := by rw [Int.tmod_eq_emod_of_nonneg (by omega)]; omega
  have hop : IntKind.i64.wrap (11 + ((w % 5 : Nat) : Int)) = 11 + ((w % 5 : Nat) : Int) := IntWalk.i64_in _ ⟨by omega, by omega⟩
  refine pspec_intro ok29 (Nat.le_of_ble_eq_true rfl) fun C hC => ?_
  repeat' (first
    | refine aw_seq ?_
    | refine aw_region ?_
    | refine aw_draw [] ?_
    | refine opsK_done ?_
    | refine opsK_on rfl ?_
    | refine opsK_off rfl ?_
    | (refine opsK_bool rfl rfl rfl (fun hb => ?_) (fun hb => ?_) <;> try cases hb)
    | refine opsK_of rfl rfl rfl ?_
    | refine opsK_new rfl rfl rfl ?_
    | refine dK_done ?_
    | refine dK_on rfl ?_
    | refine dK_off ⟨_, rfl, nofun⟩ ?_
    | (refine dK_bool rfl rfl rfl (fun hb => ?_) (fun hb => ?_) <;> try cases hb)
    | refine dK_of rfl rfl rfl ?_
    | refine aw_condT rfl ?_
    | refine aw_condF rfl ?_
    | (refine aw_cond rfl (fun hb => ?_) (fun hb => ?_) <;> try cases hb)
    | refine aw_block ?_
    | refine aw_skip ?_
    | refine aw_exit ?_
    | refine aw_ret ?_)
  refine opsK_ptr (mnumber_spec l hl fl k d hd (t + 1) (by omega)) rfl rfl (by show [_, _, _, _] = _; rw [hdec]) rfl (srcB_pure l fl _) ⟨trivial, trivial, trivial, trivial⟩ ?_
  rintro r b' - - ⟨x, t1, wx, tx, dx, sx, rfl, rfl, ht1⟩
  repeat' (first
    | refine aw_seq ?_
    | refine aw_region ?_
    | refine aw_draw [] ?_
    | refine opsK_done ?_
    | refine opsK_on rfl ?_
    | refine opsK_off rfl ?_
    | (refine opsK_bool rfl rfl rfl (fun hb => ?_) (fun hb => ?_) <;> try cases hb)
    | refine opsK_of rfl rfl rfl ?_
    | refine opsK_new rfl rfl rfl ?_
    | refine dK_done ?_
    | refine dK_on rfl ?_
    | refine dK_off ⟨_, rfl, nofun⟩ ?_
    | (refine dK_bool rfl rfl rfl (fun hb => ?_) (fun hb => ?_) <;> try cases hb)
    | refine dK_of rfl rfl rfl ?_
    | refine aw_condT rfl ?_
    | refine aw_condF rfl ?_
    | (refine aw_cond rfl (fun hb => ?_) (fun hb => ?_) <;> try cases hb)
    | refine aw_block ?_
    | refine aw_skip ?_
    | refine aw_exit ?_
    | refine aw_ret ?_)
  refine opsK_ptr (mnumber_spec l hl fl k d hd t1 (by omega)) rfl rfl (by show [_, _, _, _] = _; rw [hdec]) rfl (srcB_pure l fl _) ⟨trivial, trivial, trivial, trivial⟩ ?_
  rintro r b' - - ⟨y, t2, wy, ty, dy, sy, rfl, rfl, ht2⟩
  repeat' (first
    | refine aw_seq ?_
    | refine aw_region ?_
    | refine aw_draw [] ?_
    | refine opsK_done ?_
    | refine opsK_on rfl ?_
    | refine opsK_off rfl ?_
    | (refine opsK_bool rfl rfl rfl (fun hb => ?_) (fun hb => ?_) <;> try cases hb)
    | refine opsK_of rfl rfl rfl ?_
    | refine opsK_new rfl rfl rfl ?_
    | refine dK_done ?_
    | refine dK_on rfl ?_
    | refine dK_off ⟨_, rfl, nofun⟩ ?_
    | (refine dK_bool rfl rfl rfl (fun hb => ?_) (fun hb => ?_) <;> try cases hb)
    | refine dK_of rfl rfl rfl ?_
    | refine aw_condT rfl ?_
    | refine aw_condF rfl ?_
    | (refine aw_cond rfl (fun hb => ?_) (fun hb => ?_) <;> try cases hb)
    | refine aw_block ?_
    | refine aw_skip ?_
    | refine aw_exit ?_
    | refine aw_ret ?_)
  rw [hm, hop]
  have hw : wantM (11 + ((w % 5 : Nat) : Int)) = 2 := by rw [wantM, if_pos (by omega)]
  refine ret_made (f := .mk (11 + ((w % 5 : Nat) : Int)) 0 [] [x, y]) rfl ?_ rfl (two_made hd (by omega) (by omega) wx (by rw [hw]; exact tx) wy (by rw [hw]; exact ty) (by rw [typeM, if_neg (by omega)]) dx dy sx sy ht1 ht2)
  show PV.agg [_, _, _, .vec [lowL (fC .i64 x), lowL (fC .i64 y)] false] = _
  rw [lowL_fC, lowL_fC]
  rfl

set_option maxHeartbeats 4000000 in
theorem mtruth_spec (l : List Nat) (hl : Bytes l) (fl : Bool) (k : Int) : ∀ (d : Nat), 1 ≤ d → ∀ (t : Nat), t + 2 ^ (d + 1) ≤ 1099511627776 →
    PSpec Try.prog 17 (srcB l fl t) [.val (.int .i64 (d : Int)), .val (.int .i64 k), .val (.int .i64 6)] (MadeR 1 l fl d t) := by
  intro d
  induction d with
  | zero => intro h; omega
  | succ d ih =>
    intro _ t ht
    have hp2 : 2 ^ (d + 1 + 1) = 2 * 2 ^ (d + 1) := by rw [Nat.pow_succ]; omega
    have hpt := Nat.lt_two_pow_self (n := d + 1)
    refine pspec_intro ok17 (Nat.le_of_ble_eq_true rfl) fun C hC => ?_
    repeat' (first
      | refine aw_seq ?_
      | refine aw_region ?_
      | refine aw_draw [] ?_
      | refine opsK_done ?_
      | refine opsK_on rfl ?_
      | refine opsK_off rfl ?_
      | (refine opsK_bool rfl rfl rfl (fun hb => ?_) (fun hb => ?_) <;> try cases hb)
      | refine opsK_of rfl rfl rfl ?_
      | refine opsK_new rfl rfl rfl ?_
      | refine dK_done ?_
      | refine dK_on rfl ?_
      | refine dK_off ⟨_, rfl, nofun⟩ ?_
      | (refine dK_bool rfl rfl rfl (fun hb => ?_) (fun hb => ?_) <;> try cases hb)
      | refine dK_of rfl rfl rfl ?_
      | refine aw_condT rfl ?_
      | refine aw_condF rfl ?_
      | (refine aw_cond rfl (fun hb => ?_) (fun hb => ?_) <;> try cases hb)
      | refine aw_block ?_
      | refine aw_skip ?_
      | refine aw_exit ?_
      | refine aw_ret ?_)
    refine opsK_ptr (next_spec l hl fl t (by omega)) rfl rfl rfl rfl (srcB_pure l fl t) trivial ?_
    rintro r b' - - ⟨v, hv, rfl, rfl⟩
    have hdec : IntKind.i64.wrap (((d + 1 : Nat) : Int) - 1) = (d : Int) := by rw [show ((d + 1 : Nat) : Int) - 1 = (d : Int) by omega]; exact wrap_nat _ (by omega)
    have h8 : (v : Int).tmod 8 = ((v % 8 : Nat) : Int) := by rw [Int.tmod_eq_emod_of_nonneg (by omega)]; omega
    have hq8 : IntKind.i64.wrap ((v : Int).tdiv 8) = ((v / 8 : Nat) : Int) := by rw [quo_wrap v hv 8 (by decide), Int.tdiv_eq_ediv_of_nonneg (by omega)]; omega
    have hq16 : IntKind.i64.wrap ((v : Int).tdiv 16) = ((v / 16 : Nat) : Int) := by rw [quo_wrap v hv 16 (by decide), Int.tdiv_eq_ediv_of_nonneg (by omega)]; omega
    have hm2 : ((v / 16 : Nat) : Int).tmod 2 = ((v / 16 % 2 : Nat) : Int) := by rw [Int.tmod_eq_emod_of_nonneg (by omega)]; omega
    have hm6 : ((v / 8 : Nat) : Int).tmod 6 = ((v / 8 % 6 : Nat) : Int) := by rw [Int.tmod_eq_emod_of_nonneg (by omega)]; omega
    have hw2 : IntKind.i64.wrap (2 + ((v / 16 % 2 : Nat) : Int)) = 2 + ((v / 16 % 2 : Nat) : Int) := IntWalk.i64_in _ ⟨by omega, by omega⟩
    have hw6 : IntKind.i64.wrap (1 + ((v / 8 % 6 : Nat) : Int)) = 1 + ((v / 8 % 6 : Nat) : Int) := IntWalk.i64_in _ ⟨by omega, by omega⟩
    have hwo : v % 8 = 3 ∨ v % 8 = 4 ∨ v % 8 = 5 → IntKind.i64.wrap (IntKind.i64.wrap (8 + ((v % 8 : Nat) : Int)) - 3) = 5 + ((v % 8 : Nat) : Int) := fun h => by
      rw [IntWalk.i64_in (8 + ((v % 8 : Nat) : Int)) ⟨by omega, by omega⟩]
      rw [show 8 + ((v % 8 : Nat) : Int) - 3 = 5 + ((v % 8 : Nat) : Int) by omega]
      exact IntWalk.i64_in _ ⟨by omega, by omega⟩
    have hb1 : ∀ i : Nat, (⟨4, [[.val (.int .i64 0), .val (.int .i64 0), .vec [] true, .vec [] true]]⟩ : Bx).elems.length = 1 := fun _ => rfl
    (first
      | refine aw_seq ?_
      | refine aw_region ?_
      | refine aw_draw [] ?_
      | refine opsK_done ?_
      | refine opsK_on rfl ?_
      | refine opsK_off rfl ?_
      | (refine opsK_bool rfl rfl rfl (fun hb => ?_) (fun hb => ?_) <;> try cases hb)
      | refine opsK_of rfl rfl rfl ?_
      | refine opsK_new rfl rfl rfl ?_
      | refine dK_done ?_
      | refine dK_on rfl ?_
      | refine dK_off ⟨_, rfl, nofun⟩ ?_
      | (refine dK_bool rfl rfl rfl (fun hb => ?_) (fun hb => ?_) <;> try cases hb)
      | refine dK_of rfl rfl rfl ?_
      | refine aw_condT rfl ?_
      | refine aw_condF rfl ?_
      | (refine aw_cond rfl (fun hb => ?_) (fun hb => ?_) <;> try cases hb)
      | refine aw_block ?_
      | refine aw_skip ?_
      | refine aw_exit ?_
      | refine aw_ret ?_)
    (first
      | refine aw_seq ?_
      | refine aw_region ?_
      | refine aw_draw [] ?_
      | refine opsK_done ?_
      | refine opsK_on rfl ?_
      | refine opsK_off rfl ?_
      | (refine opsK_bool rfl rfl rfl (fun hb => ?_) (fun hb => ?_) <;> try cases hb)
      | refine opsK_of rfl rfl rfl ?_
      | refine opsK_new rfl rfl rfl ?_
      | refine dK_done ?_
      | refine dK_on rfl ?_
      | refine dK_off ⟨_, rfl, nofun⟩ ?_
      | (refine dK_bool rfl rfl rfl (fun hb => ?_) (fun hb => ?_) <;> try cases hb)
      | refine dK_of rfl rfl rfl ?_
      | refine aw_condT rfl ?_
      | refine aw_condF rfl ?_
      | (refine aw_cond rfl (fun hb => ?_) (fun hb => ?_) <;> try cases hb)
      | refine aw_block ?_
      | refine aw_skip ?_
      | refine aw_exit ?_
      | refine aw_ret ?_)
    refine aw_cut hC (1 ≤ d ∧ 2 ≤ v % 8) 2 [(0, .ptr 0 0 0), (1, .val (.int .i64 ((d + 1 : Nat) : Int))), (2, .val (.int .i64 k)), (3, .val (.int .i64 6)), (8, .ptr 1 0 0), (9, .val (.int .i64 (v : Int)))] [(0, srcB l fl (t + 1)), (1, ⟨4, [[.val (.int .i64 0), .val (.int .i64 0), .vec [] true, .vec [] true]]⟩)] (by omega) ?_ fun hA => ?_
    · refine aw_cut hC True 2 [(0, .ptr 0 0 0), (1, .val (.int .i64 ((d + 1 : Nat) : Int))), (2, .val (.int .i64 k)), (3, .val (.int .i64 6)), (8, .ptr 1 0 0), (9, .val (.int .i64 (v : Int))), (20, .val (.bool (decide (((d + 1 : Nat) : Int) ≤ 1) || decide ((v : Int).tmod 8 ≤ 1))))] [(0, srcB l fl (t + 1)), (1, ⟨4, [[.val (.int .i64 0), .val (.int .i64 0), .vec [] true, .vec [] true]]⟩)] (by omega) ?_ fun _ => ?_
      · repeat' (first
        | refine aw_seq ?_
        | refine aw_region ?_
        | refine aw_draw [] ?_
        | refine opsK_done ?_
        | refine opsK_on rfl ?_
        | refine opsK_off rfl ?_
        | (refine opsK_bool rfl rfl rfl (fun hb => ?_) (fun hb => ?_) <;> try cases hb)
        | refine opsK_of rfl rfl rfl ?_
        | refine opsK_new rfl rfl rfl ?_
        | refine dK_done ?_
        | refine dK_on rfl ?_
        | refine dK_off ⟨_, rfl, nofun⟩ ?_
        | (refine dK_bool rfl rfl rfl (fun hb => ?_) (fun hb => ?_) <;> try cases hb)
        | refine dK_of rfl rfl rfl ?_
        | refine aw_condT rfl ?_
        | refine aw_condF rfl ?_
        | (refine aw_cond rfl (fun hb => ?_) (fun hb => ?_) <;> try cases hb)
        | refine aw_block ?_
        | refine aw_skip ?_
        | refine aw_exit ?_
        | refine aw_ret ?_)
        all_goals
          refine ⟨trivial, ⟨⟨rfl, show (0 : Nat) < 2 by decide⟩, ⟨rfl, trivial⟩, ⟨rfl, trivial⟩, ⟨rfl, trivial⟩, ⟨rfl, show (1 : Nat) < 2 by decide⟩, ⟨rfl, trivial⟩, ⟨?_, trivial⟩, trivial⟩, ⟨⟨by omega, rfl, srcB_inn _ _ _ _⟩, ⟨by omega, rfl, ⟨trivial, trivial, trivial, trivial, trivial⟩, trivial⟩, trivial⟩⟩
          show some (PV.val (Value.bool _)) = _
          simp_all
      rw [h8]
      cases hc : (decide (((d + 1 : Nat) : Int) ≤ 1) || decide (((v % 8 : Nat) : Int) ≤ 1)) with
      | true =>
        repeat' (first
          | refine aw_seq ?_
          | refine aw_region ?_
          | refine aw_draw [] ?_
          | refine opsK_done ?_
          | refine opsK_on rfl ?_
          | refine opsK_off rfl ?_
          | (refine opsK_bool rfl rfl rfl (fun hb => ?_) (fun hb => ?_) <;> try cases hb)
          | refine opsK_of rfl rfl rfl ?_
          | refine opsK_new rfl rfl rfl ?_
          | refine dK_done ?_
          | refine dK_on rfl ?_
          | refine dK_off ⟨_, rfl, nofun⟩ ?_
          | (refine dK_bool rfl rfl rfl (fun hb => ?_) (fun hb => ?_) <;> try cases hb)
          | refine dK_of rfl rfl rfl ?_
          | refine aw_condT rfl ?_
          | refine aw_condF rfl ?_
          | (refine aw_cond rfl (fun hb => ?_) (fun hb => ?_) <;> try cases hb)
          | refine aw_block ?_
          | refine aw_skip ?_
          | refine aw_exit ?_
          | refine aw_ret ?_)
        · have hd1 : 1 ≤ d := by simp at hb; omega
          refine opsK_ptr (compare_spec l hl fl k (v / 8) d t hd1 ht) rfl rfl (by show [_, _, _, _, _] = _; rw [hq8]) rfl (srcB_pure l fl _) ⟨trivial, trivial, trivial, trivial, trivial⟩ ?_
          rintro r b' - - ⟨x, t1, wx, tx, dx, sx, rfl, rfl, ht1⟩
          repeat' (first
            | refine aw_seq ?_
            | refine aw_region ?_
            | refine aw_draw [] ?_
            | refine opsK_done ?_
            | refine opsK_on rfl ?_
            | refine opsK_off rfl ?_
            | (refine opsK_bool rfl rfl rfl (fun hb => ?_) (fun hb => ?_) <;> try cases hb)
            | refine opsK_of rfl rfl rfl ?_
            | refine opsK_new rfl rfl rfl ?_
            | refine dK_done ?_
            | refine dK_on rfl ?_
            | refine dK_off ⟨_, rfl, nofun⟩ ?_
            | (refine dK_bool rfl rfl rfl (fun hb => ?_) (fun hb => ?_) <;> try cases hb)
            | refine dK_of rfl rfl rfl ?_
            | refine aw_condT rfl ?_
            | refine aw_condF rfl ?_
            | (refine aw_cond rfl (fun hb => ?_) (fun hb => ?_) <;> try cases hb)
            | refine aw_block ?_
            | refine aw_skip ?_
            | refine aw_exit ?_
            | refine aw_ret ?_)
          refine ret_made (f := x) rfl ?_ rfl ⟨x, t1, wx, tx, dx, sx, rfl, rfl, ht1⟩
          show PV.agg (lowL (fC .i64 x)) = _
          rw [lowL_fC, cellsK_eq]
        all_goals first
          | (rw [hq16, hm2, hw2]
             refine ret_made (f := .mk (2 + ((v / 16 % 2 : Nat) : Int)) 0 [] []) rfl rfl rfl (leaf_made (by omega) ?_ (by rw [typeM, if_neg (by omega)]) (by omega))
             refine ⟨by omega, by omega, ?_, fun _ => rfl, ?_, ?_, by decide, by decide, fun r hr => (by cases hr), by simp, fun a ha => by cases ha⟩
             · rw [operandsM, if_neg (by omega), if_neg (by omega)]; rfl
             · simp only [leastM, List.length_nil]; rw [if_neg (by omega), if_neg (by omega)]; decide
             · simp only [mostM, List.length_nil]; rw [if_neg (by omega), if_neg (by omega)]; decide
             done)
          | (rw [hq8, hm6, hw6]
             exact ret_made (f := .mk 4 0 [1 + ((v / 8 % 6 : Nat) : Int)] []) rfl rfl rfl (leaf_made (by omega) (one_wf (m := 6) (.inl rfl) (by decide) (by omega) (by omega)) rfl (by omega)))
      | false =>
        repeat' (first
          | refine aw_seq ?_
          | refine aw_region ?_
          | refine aw_draw [] ?_
          | refine opsK_done ?_
          | refine opsK_on rfl ?_
          | refine opsK_off rfl ?_
          | (refine opsK_bool rfl rfl rfl (fun hb => ?_) (fun hb => ?_) <;> try cases hb)
          | refine opsK_of rfl rfl rfl ?_
          | refine opsK_new rfl rfl rfl ?_
          | refine dK_done ?_
          | refine dK_on rfl ?_
          | refine dK_off ⟨_, rfl, nofun⟩ ?_
          | (refine dK_bool rfl rfl rfl (fun hb => ?_) (fun hb => ?_) <;> try cases hb)
          | refine dK_of rfl rfl rfl ?_
          | refine aw_condT rfl ?_
          | refine aw_condF rfl ?_
          | (refine aw_cond rfl (fun hb => ?_) (fun hb => ?_) <;> try cases hb)
          | refine aw_block ?_
          | refine aw_skip ?_
          | refine aw_exit ?_
          | refine aw_ret ?_)
        refine ⟨?_, ⟨⟨rfl, show (0 : Nat) < 2 by decide⟩, ⟨rfl, trivial⟩, ⟨rfl, trivial⟩, ⟨rfl, trivial⟩, ⟨rfl, show (1 : Nat) < 2 by decide⟩, ⟨rfl, trivial⟩, trivial⟩, ⟨⟨by omega, rfl, srcB_inn _ _ _ _⟩, ⟨by omega, rfl, ⟨trivial, trivial, trivial, trivial, trivial⟩, trivial⟩, trivial⟩⟩
        simp at hc
        omega
    obtain ⟨hd1, hv2⟩ := hA
    refine aw_cut hC (v % 8 < 6) 2 [(0, .ptr 0 0 0), (1, .val (.int .i64 ((d + 1 : Nat) : Int))), (2, .val (.int .i64 k)), (3, .val (.int .i64 6)), (8, .ptr 1 0 0), (9, .val (.int .i64 (v : Int)))] [(0, srcB l fl (t + 1)), (1, ⟨4, [[.val (.int .i64 0), .val (.int .i64 0), .vec [] true, .vec [] true]]⟩)] (by omega) ?_ fun hA => ?_
    · repeat' (first
      | refine aw_seq ?_
      | refine aw_region ?_
      | refine aw_draw [] ?_
      | refine opsK_done ?_
      | refine opsK_on rfl ?_
      | refine opsK_off rfl ?_
      | (refine opsK_bool rfl rfl rfl (fun hb => ?_) (fun hb => ?_) <;> try cases hb)
      | refine opsK_of rfl rfl rfl ?_
      | refine opsK_new rfl rfl rfl ?_
      | refine dK_done ?_
      | refine dK_on rfl ?_
      | refine dK_off ⟨_, rfl, nofun⟩ ?_
      | (refine dK_bool rfl rfl rfl (fun hb => ?_) (fun hb => ?_) <;> try cases hb)
      | refine dK_of rfl rfl rfl ?_
      | refine aw_condT rfl ?_
      | refine aw_condF rfl ?_
      | (refine aw_cond rfl (fun hb => ?_) (fun hb => ?_) <;> try cases hb)
      | refine aw_block ?_
      | refine aw_skip ?_
      | refine aw_exit ?_
      | refine aw_ret ?_)
      · refine opsK_ptr (compare_spec l hl fl k (v / 8) d t hd1 ht) rfl rfl (by show [_, _, _, _, _] = _; rw [hq8]) rfl (srcB_pure l fl _) ⟨trivial, trivial, trivial, trivial, trivial⟩ ?_
        rintro r b' - - ⟨x, t1, wx, tx, dx, sx, rfl, rfl, ht1⟩
        repeat' (first
          | refine aw_seq ?_
          | refine aw_region ?_
          | refine aw_draw [] ?_
          | refine opsK_done ?_
          | refine opsK_on rfl ?_
          | refine opsK_off rfl ?_
          | (refine opsK_bool rfl rfl rfl (fun hb => ?_) (fun hb => ?_) <;> try cases hb)
          | refine opsK_of rfl rfl rfl ?_
          | refine opsK_new rfl rfl rfl ?_
          | refine dK_done ?_
          | refine dK_on rfl ?_
          | refine dK_off ⟨_, rfl, nofun⟩ ?_
          | (refine dK_bool rfl rfl rfl (fun hb => ?_) (fun hb => ?_) <;> try cases hb)
          | refine dK_of rfl rfl rfl ?_
          | refine aw_condT rfl ?_
          | refine aw_condF rfl ?_
          | (refine aw_cond rfl (fun hb => ?_) (fun hb => ?_) <;> try cases hb)
          | refine aw_block ?_
          | refine aw_skip ?_
          | refine aw_exit ?_
          | refine aw_ret ?_)
        refine ret_made (f := x) rfl ?_ rfl ⟨x, t1, wx, tx, dx, sx, rfl, rfl, ht1⟩
        show PV.agg (lowL (fC .i64 x)) = _
        rw [lowL_fC, cellsK_eq]
      · refine ⟨?_, ⟨⟨rfl, show (0 : Nat) < 2 by decide⟩, ⟨rfl, trivial⟩, ⟨rfl, trivial⟩, ⟨rfl, trivial⟩, ⟨rfl, show (1 : Nat) < 2 by decide⟩, ⟨rfl, trivial⟩, trivial⟩, ⟨⟨by omega, rfl, srcB_inn _ _ _ _⟩, ⟨by omega, rfl, ⟨trivial, trivial, trivial, trivial, trivial⟩, trivial⟩, trivial⟩⟩
        rw [h8] at hb
        simp at hb
        omega
    repeat' (first
      | refine aw_seq ?_
      | refine aw_region ?_
      | refine aw_draw [] ?_
      | refine opsK_done ?_
      | refine opsK_on rfl ?_
      | refine opsK_off rfl ?_
      | (refine opsK_bool rfl rfl rfl (fun hb => ?_) (fun hb => ?_) <;> try cases hb)
      | refine opsK_of rfl rfl rfl ?_
      | refine opsK_new rfl rfl rfl ?_
      | refine dK_done ?_
      | refine dK_on rfl ?_
      | refine dK_off ⟨_, rfl, nofun⟩ ?_
      | (refine dK_bool rfl rfl rfl (fun hb => ?_) (fun hb => ?_) <;> try cases hb)
      | refine dK_of rfl rfl rfl ?_
      | refine aw_condT rfl ?_
      | refine aw_condF rfl ?_
      | (refine aw_cond rfl (fun hb => ?_) (fun hb => ?_) <;> try cases hb)
      | refine aw_block ?_
      | refine aw_skip ?_
      | refine aw_exit ?_
      | refine aw_ret ?_)
    refine opsK_ptr (ih hd1 (t + 1) (by omega)) rfl rfl (by show [_, _, _, _] = _; rw [hdec]) rfl (srcB_pure l fl _) ⟨trivial, trivial, trivial, trivial⟩ ?_
    rintro r b' - - ⟨x, t1, wx, tx, dx, sx, rfl, rfl, ht1⟩
    repeat' (first
      | refine aw_seq ?_
      | refine aw_region ?_
      | refine aw_draw [] ?_
      | refine opsK_done ?_
      | refine opsK_on rfl ?_
      | refine opsK_off rfl ?_
      | (refine opsK_bool rfl rfl rfl (fun hb => ?_) (fun hb => ?_) <;> try cases hb)
      | refine opsK_of rfl rfl rfl ?_
      | refine opsK_new rfl rfl rfl ?_
      | refine dK_done ?_
      | refine dK_on rfl ?_
      | refine dK_off ⟨_, rfl, nofun⟩ ?_
      | (refine dK_bool rfl rfl rfl (fun hb => ?_) (fun hb => ?_) <;> try cases hb)
      | refine dK_of rfl rfl rfl ?_
      | refine aw_condT rfl ?_
      | refine aw_condF rfl ?_
      | (refine aw_cond rfl (fun hb => ?_) (fun hb => ?_) <;> try cases hb)
      | refine aw_block ?_
      | refine aw_skip ?_
      | refine aw_exit ?_
      | refine aw_ret ?_)
    · refine ret_made (f := .mk 7 0 [] [x]) rfl ?_ rfl (one_made wx tx dx sx ht1)
      show PV.agg [_, _, _, .vec [lowL (fC .i64 x)] false] = _
      rw [lowL_fC]
      rfl
    have h3 : v % 8 = 3 ∨ v % 8 = 4 ∨ v % 8 = 5 := by
      rw [h8] at hb
      simp at hb
      omega
    refine opsK_ptr (ih hd1 t1 (by omega)) rfl rfl (by show [_, _, _, _] = _; rw [hdec]) rfl (srcB_pure l fl _) ⟨trivial, trivial, trivial, trivial⟩ ?_
    rintro r b' - - ⟨y, t2, wy, ty, dy, sy, rfl, rfl, ht2⟩
    repeat' (first
      | refine aw_seq ?_
      | refine aw_region ?_
      | refine aw_draw [] ?_
      | refine opsK_done ?_
      | refine opsK_on rfl ?_
      | refine opsK_off rfl ?_
      | (refine opsK_bool rfl rfl rfl (fun hb => ?_) (fun hb => ?_) <;> try cases hb)
      | refine opsK_of rfl rfl rfl ?_
      | refine opsK_new rfl rfl rfl ?_
      | refine dK_done ?_
      | refine dK_on rfl ?_
      | refine dK_off ⟨_, rfl, nofun⟩ ?_
      | (refine dK_bool rfl rfl rfl (fun hb => ?_) (fun hb => ?_) <;> try cases hb)
      | refine dK_of rfl rfl rfl ?_
      | refine aw_condT rfl ?_
      | refine aw_condF rfl ?_
      | (refine aw_cond rfl (fun hb => ?_) (fun hb => ?_) <;> try cases hb)
      | refine aw_block ?_
      | refine aw_skip ?_
      | refine aw_exit ?_
      | refine aw_ret ?_)
    rw [h8, hwo h3]
    have hw : wantM (5 + ((v % 8 : Nat) : Int)) = 1 := by rw [wantM, if_neg (by omega)]
    refine ret_made (f := .mk (5 + ((v % 8 : Nat) : Int)) 0 [] [x, y]) rfl ?_ rfl (two_made hd1 (by omega) (by omega) wx (by rw [hw]; exact tx) wy (by rw [hw]; exact ty) (by rw [typeM, if_neg (by omega)]) dx dy sx sy ht1 ht2)
    show PV.agg [_, _, _, .vec [lowL (fC .i64 x), lowL (fC .i64 y)] false] = _
    rw [lowL_fC, lowL_fC]
    rfl

/-- What Make gives. -/
def MadeF (r : PV) : Prop := ∃ f : Fm, Wf f ∧ typeM f.op = 1 ∧ f.depth ≤ 4 ∧ f.size ≤ 15 ∧ r = .agg (fC .i64 f)
theorem make18_spec (l : List Nat) (hl : Bytes l) (fl : Bool) (k : Int) : Spec Try.prog 7 [.vec (bys l) fl, .val (.int .i64 k), .val (.int .i64 6)] MadeF := by
  refine spec_intro ok7 (Nat.le_of_ble_eq_true rfl) fun C hC => ?_
  repeat' (first
    | refine aw_seq ?_
    | refine aw_region ?_
    | refine aw_draw [] ?_
    | refine opsK_done ?_
    | refine opsK_on rfl ?_
    | refine opsK_off rfl ?_
    | (refine opsK_bool rfl rfl rfl (fun hb => ?_) (fun hb => ?_) <;> try cases hb)
    | refine opsK_of rfl rfl rfl ?_
    | refine opsK_new rfl rfl rfl ?_
    | refine dK_done ?_
    | refine dK_on rfl ?_
    | refine dK_off ⟨_, rfl, nofun⟩ ?_
    | (refine dK_bool rfl rfl rfl (fun hb => ?_) (fun hb => ?_) <;> try cases hb)
    | refine dK_of rfl rfl rfl ?_
    | refine aw_condT rfl ?_
    | refine aw_condF rfl ?_
    | (refine aw_cond rfl (fun hb => ?_) (fun hb => ?_) <;> try cases hb)
    | refine aw_block ?_
    | refine aw_skip ?_
    | refine aw_exit ?_
    | refine aw_ret ?_)
  refine opsK_ptr (mtruth_spec l hl fl k 4 (by decide) 0 (by decide)) rfl rfl rfl rfl (srcB_pure l fl _) ⟨trivial, trivial, trivial, trivial⟩ ?_
  rintro r b' - - ⟨x, t1, wx, tx, dx, sx, rfl, rfl, ht1⟩
  repeat' (first
    | refine aw_seq ?_
    | refine aw_region ?_
    | refine aw_draw [] ?_
    | refine opsK_done ?_
    | refine opsK_on rfl ?_
    | refine opsK_off rfl ?_
    | (refine opsK_bool rfl rfl rfl (fun hb => ?_) (fun hb => ?_) <;> try cases hb)
    | refine opsK_of rfl rfl rfl ?_
    | refine opsK_new rfl rfl rfl ?_
    | refine dK_done ?_
    | refine dK_on rfl ?_
    | refine dK_off ⟨_, rfl, nofun⟩ ?_
    | (refine dK_bool rfl rfl rfl (fun hb => ?_) (fun hb => ?_) <;> try cases hb)
    | refine dK_of rfl rfl rfl ?_
    | refine aw_condT rfl ?_
    | refine aw_condF rfl ?_
    | (refine aw_cond rfl (fun hb => ?_) (fun hb => ?_) <;> try cases hb)
    | refine aw_block ?_
    | refine aw_skip ?_
    | refine aw_exit ?_
    | refine aw_ret ?_)
  refine ret_ok rfl (fC_pure .i64 x) ⟨x, wx, tx, dx, by omega, rfl⟩
end Go.Proofs.Ytelcpkjclcimbaa
