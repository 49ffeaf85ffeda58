/-
  Formulas from bytes: those of the type Int. No statement of the seat is proved here.
-/
import Derived.Test.Ytelcpkjclcimbaamk
namespace Go.Proofs.Ytelcpkjclcimbaa
open Go.RowKit
set_option linter.unusedVariables false
attribute [local irreducible] aw opsK dK

/-- What a source of formulas gives: a well-typed formula. -/
def MadeR (ty : Int) (l : List Nat) (fl : Bool) (d t : Nat) (r : PV) (b' : Bx) : Prop :=
  ∃ (f : Fm) (t' : Nat), Wf f ∧ typeM f.op = ty ∧ f.depth ≤ d ∧ f.size + 1 ≤ 2 ^ d ∧ r = .agg (fC .i64 f) ∧ b' = srcB l fl t' ∧ t' + 1 ≤ t + 2 ^ (d + 1)

theorem leaf_size {op n : Int} {roles : List Int} : (Fm.mk op n roles []).size = 1 := by simp [Fm.size, sizeL]
theorem leaf_depth {op n : Int} {roles : List Int} : (Fm.mk op n roles []).depth = 1 := by simp [Fm.depth, depthL]
theorem leaf_made {ty : Int} {l : List Nat} {fl : Bool} {d t t' : Nat} {op n : Int} {roles : List Int} (hd : 1 ≤ d) (w : WfI op n roles []) (hty : typeM op = ty) (ht : t' ≤ t + 2) : MadeR ty l fl d t (.agg (fC .i64 (.mk op n roles []))) (srcB l fl t') := by
  have h2 : 2 ≤ 2 ^ d := by
    have := Nat.pow_le_pow_right (n := 2) (by omega) hd
    simpa using this
  refine ⟨.mk op n roles [], t', w.wf, hty, by rw [leaf_depth]; exact hd, by rw [leaf_size]; exact h2, rfl, rfl, ?_⟩
  rw [Nat.pow_succ]; omega
theorem two_made {ty : Int} {l : List Nat} {fl : Bool} {d t t1 t2 : Nat} {op : Int} {x y : Fm} (hd : 1 ≤ d) (hop : 8 ≤ op) (hop' : op ≤ 16) (wx : Wf x) (tx : typeM x.op = wantM op) (wy : Wf y) (tyy : typeM y.op = wantM op) (hty : typeM op = ty)
    (dx : x.depth ≤ d) (dy : y.depth ≤ d) (sx : x.size + 1 ≤ 2 ^ d) (sy : y.size + 1 ≤ 2 ^ d) (h1 : t1 + 1 ≤ t + 1 + 2 ^ (d + 1)) (h2 : t2 + 1 ≤ t1 + 2 ^ (d + 1)) : MadeR ty l fl (d + 1) t (.agg (fC .i64 (.mk op 0 [] [x, y]))) (srcB l fl t2) := by
  have w : WfI op 0 [] [x, y] := by
    refine ⟨by omega, hop', ?_, fun _ => rfl, ?_, ?_, by decide, by decide, fun r hr => (by cases hr), by simp, fun a ha => ?_⟩
    · rw [operandsM, if_pos hop]; rfl
    · simp only [leastM, List.length_nil]; rw [if_neg (by omega), if_neg (by omega)]; decide
    · simp only [mostM, List.length_nil]; rw [if_neg (by omega), if_neg (by omega)]; decide
    · simp at ha
      rcases ha with rfl | rfl
      · exact ⟨wx, tx⟩
      · exact ⟨wy, tyy⟩
  refine ⟨_, t2, w.wf, hty, by rw [depth_two]; omega, by rw [size_two, Nat.pow_succ]; omega, rfl, rfl, ?_⟩
  rw [Nat.pow_succ (n := 2) (m := d + 1)]
  omega
theorem ret_made {rs : List ARes} {e : Env} {h : Heap} {ty : Int} {l : List Nat} {fl : Bool} {d t t' : Nat} {r : PV} {f : Fm} (hr : retAll rs e h = some r) (hlow : r.low = .agg (fC .i64 f)) (hb : h 0 = some (srcB l fl t')) (hR : MadeR ty l fl d t (.agg (fC .i64 f)) (srcB l fl t')) :
    ∃ r0 r, retAll rs e h = some r0 ∧ LoP r0 r ∧ ∃ b', h 0 = some b' ∧ r.pure ∧ pureLL b'.elems ∧ MadeR ty l fl d t r b' :=
  ret_pLow hr (by rw [hlow]; exact fC_pure _ _) hb (srcB_pure l fl t') (by rw [hlow]; exact hR)
theorem role_in (v : Nat) (k m : Int) (hk : 0 < k) (hm : 1 ≤ m) : 0 ≤ ((v : Int).tdiv k).tmod m ∧ ((v : Int).tdiv k).tmod m < m := by
  have h1 : (v : Int).tdiv k = (v : Int) / k := Int.tdiv_eq_ediv_of_nonneg (by omega)
  have h0 : 0 ≤ (v : Int) / k := Int.ediv_nonneg (by omega) (by omega)
  have h2 : ((v : Int).tdiv k).tmod m = ((v : Int) / k) % m := by rw [h1, Int.tmod_eq_emod_of_nonneg h0]
  rw [h2]
  exact ⟨Int.emod_nonneg ((v : Int) / k) (by omega), Int.emod_lt_of_pos ((v : Int) / k) (by omega)⟩
theorem quo_wrap (v : Nat) (hv : v ≤ 255) (k : Int) (hk : 0 < k) : IntKind.i64.wrap ((v : Int).tdiv k) = (v : Int).tdiv k := by
  have h1 : (v : Int).tdiv k = (v : Int) / k := Int.tdiv_eq_ediv_of_nonneg (by omega)
  rw [h1]
  have h2 := Int.ediv_le_self k (show 0 ≤ (v : Int) by omega)
  have h3 : 0 ≤ (v : Int) / k := Int.ediv_nonneg (by omega) (by omega)
  exact IntWalk.i64_in _ ⟨by omega, by omega⟩

/-- The roles of a mask: ascending, below k + 1. -/
structure Asc (acc : List Int) (k : Nat) : Prop where
  len : acc.length ≤ k
  rng : ∀ r ∈ acc, 1 ≤ r ∧ r ≤ (k : Int)
  nd : acc.Nodup
theorem Asc.snoc {acc : List Int} {k : Nat} (h : Asc acc k) : Asc (acc ++ [((k + 1 : Nat) : Int)]) (k + 1) := by
  refine ⟨by simp; exact h.len, fun r hr => ?_, ?_⟩
  · rcases List.mem_append.1 hr with hr | hr
    · have := h.rng r hr; omega
    · rw [List.mem_singleton.1 hr]; omega
  · rw [List.nodup_append]
    refine ⟨h.nd, by simp, fun a ha b hb he => ?_⟩
    have := h.rng a ha
    rw [List.mem_singleton.1 hb] at he
    omega
theorem Asc.skip {acc : List Int} {k : Nat} (h : Asc acc k) : Asc acc (k + 1) := ⟨by have := h.len; omega, fun r hr => by have := h.rng r hr; omega, h.nd⟩
theorem count_wf {roles : List Int} {m : Nat} (hm : m ≤ 8) (h : Asc roles m) (h0 : roles ≠ []) : WfI 5 0 roles [] := by
  have := List.length_pos_iff.2 h0
  have hl := h.len
  exact ⟨by decide, by decide, rfl, fun _ => rfl, by simp [leastM]; omega, by simp [mostM]; omega, by decide, by decide, fun r hr => by have := h.rng r hr; omega, h.nd, fun a ha => by cases ha⟩
theorem one_wf {op r : Int} {m : Nat} (hop : op = 4 ∨ op = 5 ∨ op = 6) (hm : m ≤ 8) (h1 : 1 ≤ r) (h2 : r ≤ m) : WfI op 0 [r] [] := by
  refine ⟨by omega, by omega, ?_, fun _ => rfl, ?_, ?_, by decide, by decide, fun x hx => ?_, by simp, fun a ha => by cases ha⟩
  · rcases hop with rfl | rfl | rfl <;> rfl
  · rcases hop with rfl | rfl | rfl <;> simp [leastM]
  · rcases hop with rfl | rfl | rfl <;> simp [mostM]
  · rw [List.mem_singleton.1 hx]; omega

set_option maxHeartbeats 4000000 in
theorem mnumber_spec (l : List Nat) (hl : Bytes l) (fl : Bool) (k : Int) : ∀ (d : Nat), 1 ≤ d → ∀ (t : Nat), t + 2 ^ (d + 1) ≤ 1099511627776 →
    PSpec Try.prog 43 (srcB l fl t) [.val (.int .i64 (d : Int)), .val (.int .i64 k), .val (.int .i64 6)] (MadeR 2 l fl d t) := by
  intro d
  induction d with
  | zero => intro h; omega
  | succ d ih =>
    intro _ t ht
    have hp2 : 2 ^ (d + 1 + 1) = 2 * 2 ^ (d + 1) := by rw [Nat.pow_succ]; omega
    refine pspec_intro ok43 (Nat.le_of_ble_eq_true rfl) fun C hC => ?_
    repeat' (first
      | refine aw_seq ?_
      | refine aw_region ?_
      | refine aw_draw [] ?_
      | refine opsK_done ?_
      | refine opsK_on rfl ?_
      | refine opsK_off rfl ?_
      | (refine opsK_bool rfl rfl rfl (fun hb => ?_) (fun hb => ?_) <;> try cases hb)
      | refine opsK_of rfl rfl rfl ?_
      | refine opsK_new rfl rfl rfl ?_
      | refine dK_done ?_
      | refine dK_on rfl ?_
      | refine dK_off ⟨_, rfl, nofun⟩ ?_
      | (refine dK_bool rfl rfl rfl (fun hb => ?_) (fun hb => ?_) <;> try cases hb)
      | refine dK_of rfl rfl rfl ?_
      | refine aw_condT rfl ?_
      | refine aw_condF rfl ?_
      | (refine aw_cond rfl (fun hb => ?_) (fun hb => ?_) <;> try cases hb)
      | refine aw_block ?_
      | refine aw_skip ?_
      | refine aw_exit ?_
      | refine aw_ret ?_)
    refine opsK_ptr (next_spec l hl fl t (by omega)) rfl rfl rfl rfl (srcB_pure l fl t) trivial ?_
    rintro r b' - - ⟨v, hv, rfl, rfl⟩
    have hdec : IntKind.i64.wrap (((d + 1 : Nat) : Int) - 1) = (d : Int) := by rw [show ((d + 1 : Nat) : Int) - 1 = (d : Int) by omega]; exact wrap_nat _ (by have := Nat.lt_two_pow_self (n := d + 1 + 1); omega)
    have hpt := Nat.pos_of_ne_zero (show 2 ^ (d + 1) ≠ 0 from fun h => by simp at h)
    (first
      | refine aw_seq ?_
      | refine aw_region ?_
      | refine aw_draw [] ?_
      | refine opsK_done ?_
      | refine opsK_on rfl ?_
      | refine opsK_off rfl ?_
      | (refine opsK_bool rfl rfl rfl (fun hb => ?_) (fun hb => ?_) <;> try cases hb)
      | refine opsK_of rfl rfl rfl ?_
      | refine opsK_new rfl rfl rfl ?_
      | refine dK_done ?_
      | refine dK_on rfl ?_
      | refine dK_off ⟨_, rfl, nofun⟩ ?_
      | (refine dK_bool rfl rfl rfl (fun hb => ?_) (fun hb => ?_) <;> try cases hb)
      | refine dK_of rfl rfl rfl ?_
      | refine aw_condT rfl ?_
      | refine aw_condF rfl ?_
      | (refine aw_cond rfl (fun hb => ?_) (fun hb => ?_) <;> try cases hb)
      | refine aw_block ?_
      | refine aw_skip ?_
      | refine aw_exit ?_
      | refine aw_ret ?_)
    (first
      | refine aw_seq ?_
      | refine aw_region ?_
      | refine aw_draw [] ?_
      | refine opsK_done ?_
      | refine opsK_on rfl ?_
      | refine opsK_off rfl ?_
      | (refine opsK_bool rfl rfl rfl (fun hb => ?_) (fun hb => ?_) <;> try cases hb)
      | refine opsK_of rfl rfl rfl ?_
      | refine opsK_new rfl rfl rfl ?_
      | refine dK_done ?_
      | refine dK_on rfl ?_
      | refine dK_off ⟨_, rfl, nofun⟩ ?_
      | (refine dK_bool rfl rfl rfl (fun hb => ?_) (fun hb => ?_) <;> try cases hb)
      | refine dK_of rfl rfl rfl ?_
      | refine aw_condT rfl ?_
      | refine aw_condF rfl ?_
      | (refine aw_cond rfl (fun hb => ?_) (fun hb => ?_) <;> try cases hb)
      | refine aw_block ?_
      | refine aw_skip ?_
      | refine aw_exit ?_
      | refine aw_ret ?_)
    refine aw_cut hC True 2 [(0, .ptr 0 0 0), (2, .val (.int .i64 k)), (3, .val (.int .i64 6)), (8, .ptr 1 0 0), (9, .val (.int .i64 (v : Int)))] [(0, srcB l fl (t + 1)), (1, ⟨4, [[.val (.int .i64 0), .val (.int .i64 0), .vec [] true, .vec [] true]]⟩)] (by omega) ?_ fun _ => ?_
    · have cut : ∀ {P : Prop}, P → P := fun h => h
      have done : (True ∧ True) := ⟨trivial, trivial⟩
      repeat' (first
        | refine aw_seq ?_
        | refine aw_region ?_
        | refine aw_draw [] ?_
        | refine opsK_done ?_
        | refine opsK_on rfl ?_
        | refine opsK_off rfl ?_
        | (refine opsK_bool rfl rfl rfl (fun hb => ?_) (fun hb => ?_) <;> try cases hb)
        | refine opsK_of rfl rfl rfl ?_
        | refine opsK_new rfl rfl rfl ?_
        | refine dK_done ?_
        | refine dK_on rfl ?_
        | refine dK_off ⟨_, rfl, nofun⟩ ?_
        | (refine dK_bool rfl rfl rfl (fun hb => ?_) (fun hb => ?_) <;> try cases hb)
        | refine dK_of rfl rfl rfl ?_
        | refine aw_condT rfl ?_
        | refine aw_condF rfl ?_
        | (refine aw_cond rfl (fun hb => ?_) (fun hb => ?_) <;> try cases hb)
        | refine aw_block ?_
        | refine aw_skip ?_
        | refine aw_exit ?_
        | refine aw_ret ?_)
      · have hd1 : 1 ≤ d := by
          rename_i h1
          simp at h1; omega
        refine opsK_ptr (ih hd1 (t + 1) (by omega)) rfl rfl (by show [_, _, _, _] = _; rw [hdec]) rfl (srcB_pure l fl _) ⟨trivial, trivial, trivial, trivial⟩ ?_
        rintro r b' - - ⟨x, t1, wx, tx, dx, sx, rfl, rfl, ht1⟩
        repeat' (first
          | refine aw_seq ?_
          | refine aw_region ?_
          | refine aw_draw [] ?_
          | refine opsK_done ?_
          | refine opsK_on rfl ?_
          | refine opsK_off rfl ?_
          | (refine opsK_bool rfl rfl rfl (fun hb => ?_) (fun hb => ?_) <;> try cases hb)
          | refine opsK_of rfl rfl rfl ?_
          | refine opsK_new rfl rfl rfl ?_
          | refine dK_done ?_
          | refine dK_on rfl ?_
          | refine dK_off ⟨_, rfl, nofun⟩ ?_
          | (refine dK_bool rfl rfl rfl (fun hb => ?_) (fun hb => ?_) <;> try cases hb)
          | refine dK_of rfl rfl rfl ?_
          | refine aw_condT rfl ?_
          | refine aw_condF rfl ?_
          | (refine aw_cond rfl (fun hb => ?_) (fun hb => ?_) <;> try cases hb)
          | refine aw_block ?_
          | refine aw_skip ?_
          | refine aw_exit ?_
          | refine aw_ret ?_)
        refine opsK_ptr (ih hd1 t1 (by omega)) rfl rfl (by show [_, _, _, _] = _; rw [hdec]) rfl (srcB_pure l fl _) ⟨trivial, trivial, trivial, trivial⟩ ?_
        rintro r b' - - ⟨y, t2, wy, ty, dy, sy, rfl, rfl, ht2⟩
        repeat' (first
          | refine aw_seq ?_
          | refine aw_region ?_
          | refine aw_draw [] ?_
          | refine opsK_done ?_
          | refine opsK_on rfl ?_
          | refine opsK_off rfl ?_
          | (refine opsK_bool rfl rfl rfl (fun hb => ?_) (fun hb => ?_) <;> try cases hb)
          | refine opsK_of rfl rfl rfl ?_
          | refine opsK_new rfl rfl rfl ?_
          | refine dK_done ?_
          | refine dK_on rfl ?_
          | refine dK_off ⟨_, rfl, nofun⟩ ?_
          | (refine dK_bool rfl rfl rfl (fun hb => ?_) (fun hb => ?_) <;> try cases hb)
          | refine dK_of rfl rfl rfl ?_
          | refine aw_condT rfl ?_
          | refine aw_condF rfl ?_
          | (refine aw_cond rfl (fun hb => ?_) (fun hb => ?_) <;> try cases hb)
          | refine aw_block ?_
          | refine aw_skip ?_
          | refine aw_exit ?_
          | refine aw_ret ?_)
        refine ret_made (f := .mk 16 0 [] [x, y]) rfl ?_ rfl (two_made hd1 (by decide) (by decide) wx tx wy ty rfl dx dy sx sy ht1 ht2)
        show PV.agg [_, _, _, .vec [lowL (fC .i64 x), lowL (fC .i64 y)] false] = _
        rw [lowL_fC, lowL_fC]
        rfl
      all_goals exact ⟨trivial, ⟨⟨rfl, show (0 : Nat) < 2 by decide⟩, ⟨rfl, trivial⟩, ⟨rfl, trivial⟩, ⟨rfl, show (1 : Nat) < 2 by decide⟩, ⟨rfl, trivial⟩, trivial⟩, ⟨⟨by omega, rfl, srcB_inn _ _ _ _⟩, ⟨by omega, rfl, ⟨trivial, trivial, trivial, trivial, trivial⟩, trivial⟩, trivial⟩⟩
    have hq := quo_wrap v hv 3 (by decide)
    obtain ⟨hn1, hn2⟩ := role_in v 3 4 (by decide) (by decide)
    obtain ⟨hr1, hr2⟩ := role_in v 3 6 (by decide) (by decide)
    have hrw : IntKind.i64.wrap (1 + ((v : Int).tdiv 3).tmod 6) = 1 + ((v : Int).tdiv 3).tmod 6 := IntWalk.i64_in _ ⟨by omega, by omega⟩
    repeat' (first
      | refine aw_seq ?_
      | refine aw_region ?_
      | refine aw_draw [] ?_
      | refine opsK_done ?_
      | refine opsK_on rfl ?_
      | refine opsK_off rfl ?_
      | (refine opsK_bool rfl rfl rfl (fun hb => ?_) (fun hb => ?_) <;> try cases hb)
      | refine opsK_of rfl rfl rfl ?_
      | refine opsK_new rfl rfl rfl ?_
      | refine dK_done ?_
      | refine dK_on rfl ?_
      | refine dK_off ⟨_, rfl, nofun⟩ ?_
      | (refine dK_bool rfl rfl rfl (fun hb => ?_) (fun hb => ?_) <;> try cases hb)
      | refine dK_of rfl rfl rfl ?_
      | refine aw_condT rfl ?_
      | refine aw_condF rfl ?_
      | (refine aw_cond rfl (fun hb => ?_) (fun hb => ?_) <;> try cases hb)
      | refine aw_block ?_
      | refine aw_skip ?_
      | refine aw_exit ?_
      | refine aw_ret ?_)
    · rw [hq]
      refine ret_made (f := .mk 1 (((v : Int).tdiv 3).tmod 4) [] []) rfl rfl rfl (leaf_made (by omega) ?_ rfl (by omega))
      exact ⟨by decide, by decide, rfl, fun h => absurd rfl h, by decide, by decide, by omega, by omega, fun r hr => (by cases hr), by simp, fun a ha => by cases ha⟩
    · rw [hq, hrw]
      exact ret_made (f := .mk 6 0 [1 + ((v : Int).tdiv 3).tmod 6] []) rfl rfl rfl (leaf_made (by omega) (one_wf (m := 6) (.inr (.inr rfl)) (by decide) (by omega) (by omega)) rfl (by omega))
    refine opsK_ptr (next_spec l hl fl (t + 1) (by omega)) rfl rfl rfl rfl (srcB_pure l fl (t + 1)) trivial ?_
    rintro r b' - - ⟨u, hu, rfl, rfl⟩
    iterate 5 (first
      | refine aw_seq ?_
      | refine aw_region ?_
      | refine aw_draw [] ?_
      | refine opsK_done ?_
      | refine opsK_on rfl ?_
      | refine opsK_off rfl ?_
      | (refine opsK_bool rfl rfl rfl (fun hb => ?_) (fun hb => ?_) <;> try cases hb)
      | refine opsK_of rfl rfl rfl ?_
      | refine opsK_new rfl rfl rfl ?_
      | refine dK_done ?_
      | refine dK_on rfl ?_
      | refine dK_off ⟨_, rfl, nofun⟩ ?_
      | (refine dK_bool rfl rfl rfl (fun hb => ?_) (fun hb => ?_) <;> try cases hb)
      | refine dK_of rfl rfl rfl ?_
      | refine aw_condT rfl ?_
      | refine aw_condF rfl ?_
      | (refine aw_cond rfl (fun hb => ?_) (fun hb => ?_) <;> try cases hb)
      | refine aw_block ?_
      | refine aw_skip ?_
      | refine aw_exit ?_
      | refine aw_ret ?_)
    refine opsK_sub (subA_cellNil (id := 2) (i0 := 0) (j0 := 2) rfl (by decide) (by decide) rfl 1 (by decide) (by decide)) ?_
    repeat' (first
      | refine aw_seq ?_
      | refine aw_region ?_
      | refine aw_draw [] ?_
      | refine opsK_done ?_
      | refine opsK_on rfl ?_
      | refine opsK_off rfl ?_
      | (refine opsK_bool rfl rfl rfl (fun hb => ?_) (fun hb => ?_) <;> try cases hb)
      | refine opsK_of rfl rfl rfl ?_
      | refine opsK_new rfl rfl rfl ?_
      | refine dK_done ?_
      | refine dK_on rfl ?_
      | refine dK_off ⟨_, rfl, nofun⟩ ?_
      | (refine dK_bool rfl rfl rfl (fun hb => ?_) (fun hb => ?_) <;> try cases hb)
      | refine dK_of rfl rfl rfl ?_
      | refine aw_condT rfl ?_
      | refine aw_condF rfl ?_
      | (refine aw_cond rfl (fun hb => ?_) (fun hb => ?_) <;> try cases hb)
      | refine aw_block ?_
      | refine aw_skip ?_
      | refine aw_exit ?_
      | refine aw_ret ?_)
    refine aw_loopR hC (fun (x : Nat × List Int) => x.1 ≤ 6 ∧ Asc x.2 x.1) (fun x => 6 - x.1) 4 (fun x => [(0, .ptr 0 0 0), (3, .val (.int .i64 6)), (8, .ptr 1 0 0), (9, .val (.int .i64 (v : Int))), (12, .ptr 2 0 0), (13, .val (.int .i64 (u : Int))), (14, .val (.int .i64 ((x.1 + 1 : Nat) : Int)))])
      (fun x => [(0, srcB l fl (t + 1 + 1)), (1, ⟨4, [[.val (.int .i64 0), .val (.int .i64 0), .vec [] true, .vec [] true]]⟩), (2, ⟨4, [[.val (.int .i64 5), .val (.int .i64 0), .own 3, .vec [] true]]⟩), (3, ⟨1, nums x.2⟩)]) (by omega) (0, []) ⟨by omega, by simp, fun r hr => (by cases hr), by simp⟩ (fun i => i) (fun _ _ => rfl) injOn_id
      ⟨⟨_, rfl, .ptr 0 0 0 (by decide)⟩, ⟨_, rfl, .pure _ trivial⟩, ⟨_, rfl, .ptr 1 0 0 (by decide)⟩, ⟨_, rfl, .pure _ trivial⟩, ⟨_, rfl, .ptr 2 0 0 (by decide)⟩, ⟨_, rfl, .pure _ trivial⟩, ⟨_, rfl, .pure _ trivial⟩, trivial⟩
      ⟨⟨by omega, _, rfl, .same _ (srcB_pure _ _ _)⟩, ⟨by omega, _, rfl, .same _ ⟨⟨trivial, trivial, trivial, trivial, trivial⟩, trivial⟩⟩, ⟨by omega, _, rfl, RenB.single ⟨.pure _ trivial, .pure _ trivial, .own 3 (by decide), .pure _ trivial, trivial⟩ rfl⟩, ⟨by omega, _, rfl, .same _ trivial⟩, trivial⟩ ?_
    rintro ⟨j, acc⟩ ⟨hj, hasc⟩
    simp only at hj hasc
    have hj1 : IntKind.i64.wrap (((j + 1 : Nat) : Int) - 1) = (j : Int) := by rw [show ((j + 1 : Nat) : Int) - 1 = (j : Int) by omega]; exact wrap_nat _ (by omega)
    have hinc : IntKind.i64.wrap (((j + 1 : Nat) : Int) + 1) = ((j + 1 + 1 : Nat) : Int) := IntWalk.i64_in _ ⟨by omega, by omega⟩
    iterate 4 (first
      | refine aw_seq ?_
      | refine aw_region ?_
      | refine aw_draw [] ?_
      | refine opsK_done ?_
      | refine opsK_on rfl ?_
      | refine opsK_off rfl ?_
      | (refine opsK_bool rfl rfl rfl (fun hb => ?_) (fun hb => ?_) <;> try cases hb)
      | refine opsK_of rfl rfl rfl ?_
      | refine opsK_new rfl rfl rfl ?_
      | refine dK_done ?_
      | refine dK_on rfl ?_
      | refine dK_off ⟨_, rfl, nofun⟩ ?_
      | (refine dK_bool rfl rfl rfl (fun hb => ?_) (fun hb => ?_) <;> try cases hb)
      | refine dK_of rfl rfl rfl ?_
      | refine aw_condT rfl ?_
      | refine aw_condF rfl ?_
      | (refine aw_cond rfl (fun hb => ?_) (fun hb => ?_) <;> try cases hb)
      | refine aw_block ?_
      | refine aw_skip ?_
      | refine aw_exit ?_
      | refine aw_ret ?_)
    (first
      | refine aw_seq ?_
      | refine aw_region ?_
      | refine aw_draw [] ?_
      | refine opsK_done ?_
      | refine opsK_on rfl ?_
      | refine opsK_off rfl ?_
      | (refine opsK_bool rfl rfl rfl (fun hb => ?_) (fun hb => ?_) <;> try cases hb)
      | refine opsK_of rfl rfl rfl ?_
      | refine opsK_new rfl rfl rfl ?_
      | refine dK_done ?_
      | refine dK_on rfl ?_
      | refine dK_off ⟨_, rfl, nofun⟩ ?_
      | (refine dK_bool rfl rfl rfl (fun hb => ?_) (fun hb => ?_) <;> try cases hb)
      | refine dK_of rfl rfl rfl ?_
      | refine aw_condT rfl ?_
      | refine aw_condF rfl ?_
      | (refine aw_cond rfl (fun hb => ?_) (fun hb => ?_) <;> try cases hb)
      | refine aw_block ?_
      | refine aw_skip ?_
      | refine aw_exit ?_
      | refine aw_ret ?_)
    refine opsK_bool rfl rfl rfl (fun hb => ?_) (fun hb => ?_)
    · have hj6 : j + 1 ≤ 6 := by simp at hb; omega
      clear hb
      iterate 9 (first
        | refine aw_seq ?_
        | refine aw_region ?_
        | refine aw_draw [] ?_
        | refine opsK_done ?_
        | refine opsK_on rfl ?_
        | refine opsK_off rfl ?_
        | (refine opsK_bool rfl rfl rfl (fun hb => ?_) (fun hb => ?_) <;> try cases hb)
        | refine opsK_of rfl rfl rfl ?_
        | refine opsK_new rfl rfl rfl ?_
        | refine dK_done ?_
        | refine dK_on rfl ?_
        | refine dK_off ⟨_, rfl, nofun⟩ ?_
        | (refine dK_bool rfl rfl rfl (fun hb => ?_) (fun hb => ?_) <;> try cases hb)
        | refine dK_of rfl rfl rfl ?_
        | refine aw_condT rfl ?_
        | refine aw_condF rfl ?_
        | (refine aw_cond rfl (fun hb => ?_) (fun hb => ?_) <;> try cases hb)
        | refine aw_block ?_
        | refine aw_skip ?_
        | refine aw_exit ?_
        | refine aw_ret ?_)
      refine opsK_int rfl rfl rfl hj1 ?_
      repeat' (first
        | refine aw_seq ?_
        | refine aw_region ?_
        | refine aw_draw [] ?_
        | refine opsK_done ?_
        | refine opsK_on rfl ?_
        | refine opsK_off rfl ?_
        | (refine opsK_bool rfl rfl rfl (fun hb => ?_) (fun hb => ?_) <;> try cases hb)
        | refine opsK_of rfl rfl rfl ?_
        | refine opsK_new rfl rfl rfl ?_
        | refine dK_done ?_
        | refine dK_on rfl ?_
        | refine dK_off ⟨_, rfl, nofun⟩ ?_
        | (refine dK_bool rfl rfl rfl (fun hb => ?_) (fun hb => ?_) <;> try cases hb)
        | refine dK_of rfl rfl rfl ?_
        | refine aw_condT rfl ?_
        | refine aw_condF rfl ?_
        | (refine aw_cond rfl (fun hb => ?_) (fun hb => ?_) <;> try cases hb)
        | refine aw_block ?_
        | refine aw_skip ?_
        | refine aw_exit ?_
        | refine aw_ret ?_)
      · refine opsK_new (E_append (k := 3) (m := nums [((j + 1 : Nat) : Int)]) (fl := true) rfl rfl rfl (fun c hc => by obtain ⟨x, _, rfl⟩ := List.mem_map.1 hc; rfl) rfl (by
          have := hasc.len
          show ((nums acc).length + (nums [((j + 1 : Nat) : Int)]).length) * 8 ≤ _
          rw [nums_length, nums_length, List.length_singleton]
          omega)) rfl rfl ?_
        have happ : nums acc ++ nums [((j + 1 : Nat) : Int)] = nums (acc ++ [((j + 1 : Nat) : Int)]) := by simp [nums]
        simp only
        rw [happ]
        repeat' (first
          | refine aw_seq ?_
          | refine aw_region ?_
          | refine aw_draw [] ?_
          | refine opsK_done ?_
          | refine opsK_on rfl ?_
          | refine opsK_off rfl ?_
          | (refine opsK_bool rfl rfl rfl (fun hb => ?_) (fun hb => ?_) <;> try cases hb)
          | refine opsK_of rfl rfl rfl ?_
          | refine opsK_new rfl rfl rfl ?_
          | refine dK_done ?_
          | refine dK_on rfl ?_
          | refine dK_off ⟨_, rfl, nofun⟩ ?_
          | (refine dK_bool rfl rfl rfl (fun hb => ?_) (fun hb => ?_) <;> try cases hb)
          | refine dK_of rfl rfl rfl ?_
          | refine aw_condT rfl ?_
          | refine aw_condF rfl ?_
          | (refine aw_cond rfl (fun hb => ?_) (fun hb => ?_) <;> try cases hb)
          | refine aw_block ?_
          | refine aw_skip ?_
          | refine aw_exit ?_
          | refine aw_ret ?_)
        refine ⟨(j + 1, acc ++ [((j + 1 : Nat) : Int)]), mv 3 4, ⟨hj6, hasc.snoc⟩, by simp only; omega, mv_low (by decide), injOn_mv (by simp),
          ⟨⟨_, rfl, .ptr 0 0 0 (by decide)⟩, ⟨_, rfl, .pure _ trivial⟩, ⟨_, rfl, .ptr 1 0 0 (by decide)⟩, ⟨_, rfl, .pure _ trivial⟩, ⟨_, rfl, .ptr 2 0 0 (by decide)⟩, ⟨_, rfl, .pure _ trivial⟩, ⟨_, by show some _ = some _; rw [hinc], .pure _ trivial⟩, trivial⟩,
          ⟨⟨by omega, _, rfl, .same _ (srcB_pure _ _ _)⟩, ⟨by omega, _, rfl, .same _ ⟨⟨trivial, trivial, trivial, trivial, trivial⟩, trivial⟩⟩, ⟨by omega, _, rfl, RenB.single ⟨.pure _ trivial, .pure _ trivial, .own 3 (by decide), .pure _ trivial, trivial⟩ rfl⟩, ⟨by omega, _, rfl, .same _ (nums_pure _)⟩, trivial⟩⟩
      · refine ⟨(j + 1, acc), fun i => i, ⟨hj6, hasc.skip⟩, by simp only; omega, fun _ _ => rfl, injOn_id,
          ⟨⟨_, rfl, .ptr 0 0 0 (by decide)⟩, ⟨_, rfl, .pure _ trivial⟩, ⟨_, rfl, .ptr 1 0 0 (by decide)⟩, ⟨_, rfl, .pure _ trivial⟩, ⟨_, rfl, .ptr 2 0 0 (by decide)⟩, ⟨_, rfl, .pure _ trivial⟩, ⟨_, by show some _ = some _; rw [hinc], .pure _ trivial⟩, trivial⟩,
          ⟨⟨by omega, _, rfl, .same _ (srcB_pure _ _ _)⟩, ⟨by omega, _, rfl, .same _ ⟨⟨trivial, trivial, trivial, trivial, trivial⟩, trivial⟩⟩, ⟨by omega, _, rfl, RenB.single ⟨.pure _ trivial, .pure _ trivial, .own 3 (by decide), .pure _ trivial, trivial⟩ rfl⟩, ⟨by omega, _, rfl, .same _ (nums_pure _)⟩, trivial⟩⟩
    · have hj6 : j = 6 := by simp at hb; omega
      subst hj6
      clear hb
      have hlow : lowLL (nums acc) = nums acc := lowLL_nums acc
      iterate 9 (first
        | refine aw_seq ?_
        | refine aw_region ?_
        | refine aw_draw [] ?_
        | refine opsK_done ?_
        | refine opsK_on rfl ?_
        | refine opsK_off rfl ?_
        | (refine opsK_bool rfl rfl rfl (fun hb => ?_) (fun hb => ?_) <;> try cases hb)
        | refine opsK_of rfl rfl rfl ?_
        | refine opsK_new rfl rfl rfl ?_
        | refine dK_done ?_
        | refine dK_on rfl ?_
        | refine dK_off ⟨_, rfl, nofun⟩ ?_
        | (refine dK_bool rfl rfl rfl (fun hb => ?_) (fun hb => ?_) <;> try cases hb)
        | refine dK_of rfl rfl rfl ?_
        | refine aw_condT rfl ?_
        | refine aw_condF rfl ?_
        | (refine aw_cond rfl (fun hb => ?_) (fun hb => ?_) <;> try cases hb)
        | refine aw_block ?_
        | refine aw_skip ?_
        | refine aw_exit ?_
        | refine aw_ret ?_)
      refine opsK_bool rfl rfl rfl (fun hb => ?_) (fun hb => ?_)
      · repeat' (first
        | refine aw_seq ?_
        | refine aw_region ?_
        | refine aw_draw [] ?_
        | refine opsK_done ?_
        | refine opsK_on rfl ?_
        | refine opsK_off rfl ?_
        | (refine opsK_bool rfl rfl rfl (fun hb => ?_) (fun hb => ?_) <;> try cases hb)
        | refine opsK_of rfl rfl rfl ?_
        | refine opsK_new rfl rfl rfl ?_
        | refine dK_done ?_
        | refine dK_on rfl ?_
        | refine dK_off ⟨_, rfl, nofun⟩ ?_
        | (refine dK_bool rfl rfl rfl (fun hb => ?_) (fun hb => ?_) <;> try cases hb)
        | refine dK_of rfl rfl rfl ?_
        | refine aw_condT rfl ?_
        | refine aw_condF rfl ?_
        | (refine aw_cond rfl (fun hb => ?_) (fun hb => ?_) <;> try cases hb)
        | refine aw_block ?_
        | refine aw_skip ?_
        | refine aw_exit ?_
        | refine aw_ret ?_)
        rw [hq, hrw]
        refine ret_made (f := .mk 5 0 [1 + ((v : Int).tdiv 3).tmod 6] []) rfl rfl rfl (leaf_made (by omega) (one_wf (m := 6) (.inr (.inl rfl)) (by decide) (by omega) (by omega)) rfl (by omega))
      · have hne : acc ≠ [] := by
          rintro rfl
          simp [nums] at hb
        iterate 6 (first
          | refine aw_seq ?_
          | refine aw_region ?_
          | refine aw_draw [] ?_
          | refine opsK_done ?_
          | refine opsK_on rfl ?_
          | refine opsK_off rfl ?_
          | (refine opsK_bool rfl rfl rfl (fun hb => ?_) (fun hb => ?_) <;> try cases hb)
          | refine opsK_of rfl rfl rfl ?_
          | refine opsK_new rfl rfl rfl ?_
          | refine dK_done ?_
          | refine dK_on rfl ?_
          | refine dK_off ⟨_, rfl, nofun⟩ ?_
          | (refine dK_bool rfl rfl rfl (fun hb => ?_) (fun hb => ?_) <;> try cases hb)
          | refine dK_of rfl rfl rfl ?_
          | refine aw_condT rfl ?_
          | refine aw_condF rfl ?_
          | (refine aw_cond rfl (fun hb => ?_) (fun hb => ?_) <;> try cases hb)
          | refine aw_block ?_
          | refine aw_skip ?_
          | refine aw_exit ?_
          | refine aw_ret ?_)
        refine opsK_sub (subA_freezeP (k := 87) (id := 3) (b := ⟨1, nums acc⟩) rfl rfl (nums_pure acc) (FrzLs.agg (id := 3) (l := nums acc) (xs := [.val (.int .i64 5), .val (.int .i64 0), .own 3, .vec [] true]) (ys := [.val (.int .i64 5), .val (.int .i64 0), .vec (nums acc) false, .vec [] true]) ⟨.pure _ trivial, .pure _ trivial, .own, .pure _ trivial, trivial⟩)) ?_
        repeat' (first
          | refine aw_seq ?_
          | refine aw_region ?_
          | refine aw_draw [] ?_
          | refine opsK_done ?_
          | refine opsK_on rfl ?_
          | refine opsK_off rfl ?_
          | (refine opsK_bool rfl rfl rfl (fun hb => ?_) (fun hb => ?_) <;> try cases hb)
          | refine opsK_of rfl rfl rfl ?_
          | refine opsK_new rfl rfl rfl ?_
          | refine dK_done ?_
          | refine dK_on rfl ?_
          | refine dK_off ⟨_, rfl, nofun⟩ ?_
          | (refine dK_bool rfl rfl rfl (fun hb => ?_) (fun hb => ?_) <;> try cases hb)
          | refine dK_of rfl rfl rfl ?_
          | refine aw_condT rfl ?_
          | refine aw_condF rfl ?_
          | (refine aw_cond rfl (fun hb => ?_) (fun hb => ?_) <;> try cases hb)
          | refine aw_block ?_
          | refine aw_skip ?_
          | refine aw_exit ?_
          | refine aw_ret ?_)
        refine ret_made (f := .mk 5 0 acc []) rfl ?_ rfl (leaf_made (by omega) (count_wf (m := 6) (by decide) hasc hne) rfl (by omega))
        show PV.agg [_, _, .vec (lowLL (nums acc)) false, _] = _
        rw [hlow]
        rfl
end Go.Proofs.Ytelcpkjclcimbaa
