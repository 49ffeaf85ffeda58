/-
  Merged from the texts that this claim's theorem needs, part 5 of 7. No statement of the seat is proved here.
-/
import Derived.Carry
import Derived.LaidMore
import Derived.OpenShut
import Derived.ProofKit
import Derived.SizedLaws
import Derived.Test.YtifohjijhhjdkaaGreatDoorRows
import Derived.Test.YtifohjijhhjdkaaGreatDoorMq3
set_option linter.unusedSimpArgs false
set_option linter.unusedVariables false

namespace Go.Proofs.YtifohjijhhjdkaaGreatDoor
open Go.RowKit
set_option linter.unusedVariables false
attribute [local irreducible] aw opsK dK

def ne6 (op : Int) : Bool := decide (op ≠ 6)
theorem ne6_iff {op : Int} : ne6 op = true ↔ op ≠ 6 := by unfold ne6; exact decide_eq_true_iff
mutual
def in6 (k : Int) : Fm → Bool
 | .mk op _ roles args => (decide (k = 3) || ne6 op) && (roles.all fun r => decide (r ≤ 6)) && in6L k args
def in6L (k : Int) : List Fm → Bool
 | [] => true
 | a :: r => in6 k a && in6L k r
end
theorem in6_eq (k : Int) (f : Fm) : in6 k f = ((decide (k = 3) || ne6 f.op) && (f.roles.all fun r => decide (r ≤ 6)) && in6L k f.args) := by cases f; simp [in6, Fm.op, Fm.roles, Fm.args]
theorem in6_leaf {k op n : Int} {roles : List Int} (h1 : k = 3 ∨ op ≠ 6) (h2 : ∀ r ∈ roles, r ≤ 6) : in6 k (.mk op n roles []) = true := by
 rw [in6_eq]
 simp only [Fm.op, Fm.roles, Fm.args, in6L, Bool.and_true, Bool.and_eq_true, Bool.or_eq_true, decide_eq_true_eq, ne6_iff, List.all_eq_true]
 exact ⟨h1, h2⟩
theorem in6_node {k op : Int} {args : List Fm} (h1 : op ≠ 6) (h2 : in6L k args = true) : in6 k (.mk op 0 [] args) = true := by
 rw [in6_eq]
 simp only [Fm.op, Fm.roles, Fm.args, List.all_nil, Bool.and_true, Bool.and_eq_true, Bool.or_eq_true, decide_eq_true_eq, ne6_iff]
 exact ⟨.inr h1, h2⟩
def MadeR (k ty : Int) (l : List Nat) (fl : Bool) (d t : Nat) (r : PV) (b' : Bx) : Prop :=
 ∃ (f : Fm) (t' : Nat), Wf f ∧ typeM f.op = ty ∧ f.depth ≤ d ∧ f.size + 1 ≤ 2 ^ d ∧ r = .agg (fC .i64 f) ∧ b' = srcB l fl t' ∧ t' + 1 ≤ t + 2 ^ (d + 1) ∧ in6 k f = true

theorem leaf_size {op n : Int} {roles : List Int} : (Fm.mk op n roles []).size = 1 := by simp [Fm.size, sizeL]
theorem leaf_depth {op n : Int} {roles : List Int} : (Fm.mk op n roles []).depth = 1 := by simp [Fm.depth, depthL]
theorem leaf_made {k ty : Int} {l : List Nat} {fl : Bool} {d t t' : Nat} {op n : Int} {roles : List Int} (hd : 1 ≤ d) (w : WfI op n roles []) (hty : typeM op = ty) (ht : t' ≤ t + 2) (hi : in6 k (.mk op n roles []) = true) : MadeR k ty l fl d t (.agg (fC .i64 (.mk op n roles []))) (srcB l fl t') := by
 have h2 : 2 ≤ 2 ^ d := by
  have := Nat.pow_le_pow_right (n := 2) (by omega) hd
  simpa using this
 refine ⟨.mk op n roles [], t', w.wf, hty, by rw [leaf_depth]; exact hd, by rw [leaf_size]; exact h2, rfl, rfl, ?_, hi⟩
 rw [Nat.pow_succ]; omega
theorem two_made {k ty : Int} {l : List Nat} {fl : Bool} {d t t1 t2 : Nat} {op : Int} {x y : Fm} (hd : 1 ≤ d) (hop : 8 ≤ op) (hop' : op ≤ 16) (wx : Wf x) (tx : typeM x.op = wantM op) (wy : Wf y) (tyy : typeM y.op = wantM op) (hty : typeM op = ty)
 (dx : x.depth ≤ d) (dy : y.depth ≤ d) (sx : x.size + 1 ≤ 2 ^ d) (sy : y.size + 1 ≤ 2 ^ d) (h1 : t1 + 1 ≤ t + 1 + 2 ^ (d + 1)) (h2 : t2 + 1 ≤ t1 + 2 ^ (d + 1)) (ix : in6 k x = true) (iy : in6 k y = true) : MadeR k ty l fl (d + 1) t (.agg (fC .i64 (.mk op 0 [] [x, y]))) (srcB l fl t2) := by
 have w : WfI op 0 [] [x, y] := by
  refine ⟨by omega, hop', ?_, fun _ => rfl, ?_, ?_, by decide, by decide, fun r hr => (by cases hr), by simp, fun a ha => ?_⟩
  · rw [operandsM, if_pos hop]; rfl
  · simp only [leastM, List.length_nil]; rw [if_neg (by omega), if_neg (by omega)]; decide
  · simp only [mostM, List.length_nil]; rw [if_neg (by omega), if_neg (by omega)]; decide
  · simp at ha
    rcases ha with rfl | rfl
    · exact ⟨wx, tx⟩
    · exact ⟨wy, tyy⟩
 refine ⟨_, t2, w.wf, hty, by rw [depth_two]; omega, by rw [size_two, Nat.pow_succ]; omega, rfl, rfl, ?_, in6_node (by omega) (by simp [in6L, ix, iy])⟩
 rw [Nat.pow_succ (n := 2) (m := d + 1)]
 omega
theorem ret_made {rs : List ARes} {e : Env} {h : Heap} {k ty : Int} {l : List Nat} {fl : Bool} {d t t' : Nat} {r : PV} {f : Fm} (hr : retAll rs e h = some r) (hlow : r.low = .agg (fC .i64 f)) (hb : h 0 = some (srcB l fl t')) (hR : MadeR k ty l fl d t (.agg (fC .i64 f)) (srcB l fl t')) :
 ∃ r0 r, retAll rs e h = some r0 ∧ LoP r0 r ∧ ∃ b', h 0 = some b' ∧ r.pure ∧ pureLL b'.elems ∧ MadeR k ty l fl d t r b' :=
 ret_pLow hr (by rw [hlow]; exact fC_pure _ _) hb (srcB_pure l fl t') (by rw [hlow]; exact hR)
theorem role_in (v : Nat) (k m : Int) (hk : 0 < k) (hm : 1 ≤ m) : 0 ≤ ((v : Int).tdiv k).tmod m ∧ ((v : Int).tdiv k).tmod m < m := by
 have h1 : (v : Int).tdiv k = (v : Int) / k := Int.tdiv_eq_ediv_of_nonneg (by omega)
 have h0 : 0 ≤ (v : Int) / k := Int.ediv_nonneg (by omega) (by omega)
 have h2 : ((v : Int).tdiv k).tmod m = ((v : Int) / k) % m := by rw [h1, Int.tmod_eq_emod_of_nonneg h0]
 rw [h2]
 exact ⟨Int.emod_nonneg ((v : Int) / k) (by omega), Int.emod_lt_of_pos ((v : Int) / k) (by omega)⟩
theorem quo_wrap (v : Nat) (hv : v ≤ 255) (k : Int) (hk : 0 < k) : IntKind.i64.wrap ((v : Int).tdiv k) = (v : Int).tdiv k := by
 have h1 : (v : Int).tdiv k = (v : Int) / k := Int.tdiv_eq_ediv_of_nonneg (by omega)
 rw [h1]
 have h2 := Int.ediv_le_self k (show 0 ≤ (v : Int) by omega)
 have h3 : 0 ≤ (v : Int) / k := Int.ediv_nonneg (by omega) (by omega)
 exact IntWalk.i64_in _ ⟨by omega, by omega⟩

structure Asc (acc : List Int) (k : Nat) : Prop where
 len : acc.length ≤ k
 rng : ∀ r ∈ acc, 1 ≤ r ∧ r ≤ (k : Int)
 nd : acc.Nodup
theorem Asc.snoc {acc : List Int} {k : Nat} (h : Asc acc k) : Asc (acc ++ [((k + 1 : Nat) : Int)]) (k + 1) := by
 refine ⟨by simp; exact h.len, fun r hr => ?_, ?_⟩
 · rcases List.mem_append.1 hr with hr | hr
   · have := h.rng r hr; omega
   · rw [List.mem_singleton.1 hr]; omega
 · rw [List.nodup_append]
   refine ⟨h.nd, by simp, fun a ha b hb he => ?_⟩
   have := h.rng a ha
   rw [List.mem_singleton.1 hb] at he
   omega
theorem Asc.skip {acc : List Int} {k : Nat} (h : Asc acc k) : Asc acc (k + 1) := ⟨by have := h.len; omega, fun r hr => by have := h.rng r hr; omega, h.nd⟩
theorem count_wf {roles : List Int} {m : Nat} (hm : m ≤ 8) (h : Asc roles m) (h0 : roles ≠ []) : WfI 5 0 roles [] := by
 have := List.length_pos_iff.2 h0
 have hl := h.len
 exact ⟨by decide, by decide, rfl, fun _ => rfl, by simp [leastM]; omega, by simp [mostM]; omega, by decide, by decide, fun r hr => by have := h.rng r hr; omega, h.nd, fun a ha => by cases ha⟩
theorem one_wf {op r : Int} {m : Nat} (hop : op = 4 ∨ op = 5 ∨ op = 6) (hm : m ≤ 8) (h1 : 1 ≤ r) (h2 : r ≤ m) : WfI op 0 [r] [] := by
 refine ⟨by omega, by omega, ?_, fun _ => rfl, ?_, ?_, by decide, by decide, fun x hx => ?_, by simp, fun a ha => by cases ha⟩
 · rcases hop with rfl | rfl | rfl <;> rfl
 · rcases hop with rfl | rfl | rfl <;> simp [leastM]
 · rcases hop with rfl | rfl | rfl <;> simp [mostM]
 · rw [List.mem_singleton.1 hx]; omega

set_option maxHeartbeats 4000000 in
theorem mnumber_spec (l : List Nat) (hl : Bytes l) (fl : Bool) (k : Int) : ∀ (d : Nat), 1 ≤ d → ∀ (t : Nat), t + 2 ^ (d + 1) ≤ 1099511627776 →
 PSpec Tryz.prog 120 (srcB l fl t) [.val (.int .i64 (d : Int)), .val (.int .i64 k), .val (.int .i64 6)] (MadeR k 2 l fl d t) := by
 intro d
 induction d with
 | zero => intro h; omega
 | succ d ih =>
   intro _ t ht
   have hp2 : 2 ^ (d + 1 + 1) = 2 * 2 ^ (d + 1) := by rw [Nat.pow_succ]; omega
   refine pspec_intro ok120 (Nat.le_of_ble_eq_true rfl) fun C hC => ?_
   (refine go ?_;repeat' (apply B<;>intro hb<;>try cases hb))
   refine opsK_ptr (next_spec l hl fl t (by omega)) rfl rfl rfl rfl (srcB_pure l fl t) trivial ?_
   rintro r b' - - ⟨v, hv, rfl, rfl⟩
   have hdec : IntKind.i64.wrap (((d + 1 : Nat) : Int) - 1) = (d : Int) := by rw [show ((d + 1 : Nat) : Int) - 1 = (d : Int) by omega]; exact wrap_nat _ (by have := Nat.lt_two_pow_self (n := d + 1 + 1); omega)
   have hpt := Nat.pos_of_ne_zero (show 2 ^ (d + 1) ≠ 0 from fun h => by simp at h)
   (first|refine st ?_|(apply B<;>intro hb<;>try cases hb))
   (first|refine st ?_|(apply B<;>intro hb<;>try cases hb))
   refine aw_cut hC True 2 [(0, .ptr 0 0 0), (2, .val (.int .i64 k)), (3, .val (.int .i64 6)), (8, .ptr 1 0 0), (9, .val (.int .i64 (v : Int)))] [(0, srcB l fl (t + 1)), (1, ⟨4, [[.val (.int .i64 0), .val (.int .i64 0), .vec [] true, .vec [] true]]⟩)] (by omega) ?_ fun _ => ?_
   · have cut : ∀ {P : Prop}, P → P := fun h => h
     have done : (True ∧ True) := ⟨trivial, trivial⟩
     (refine go ?_;repeat' (apply B<;>intro hb<;>try cases hb))
     · have hd1 : 1 ≤ d := by
        rename_i h1
        simp at h1; omega
       refine opsK_ptr (ih hd1 (t + 1) (by omega)) rfl rfl (by show [_, _, _, _] = _; rw [hdec]) rfl (srcB_pure l fl _) ⟨trivial, trivial, trivial, trivial⟩ ?_
       rintro r b' - - ⟨x, t1, wx, tx, dx, sx, rfl, rfl, ht1, ix⟩
       (refine go ?_;repeat' (apply B<;>intro hb<;>try cases hb))
       refine opsK_ptr (ih hd1 t1 (by omega)) rfl rfl (by show [_, _, _, _] = _; rw [hdec]) rfl (srcB_pure l fl _) ⟨trivial, trivial, trivial, trivial⟩ ?_
       rintro r b' - - ⟨y, t2, wy, ty, dy, sy, rfl, rfl, ht2, iy⟩
       (refine go ?_;repeat' (apply B<;>intro hb<;>try cases hb))
       refine ret_made (f := .mk 16 0 [] [x, y]) rfl ?_ rfl (two_made hd1 (by decide) (by decide) wx tx wy ty rfl dx dy sx sy ht1 ht2 ix iy)
       show PV.agg [_, _, _, .vec [lowL (fC .i64 x), lowL (fC .i64 y)] false] = _
       rw [lowL_fC, lowL_fC]
       rfl
     all_goals exact ⟨trivial, ⟨⟨rfl, show (0 : Nat) < 2 by decide⟩, ⟨rfl, trivial⟩, ⟨rfl, trivial⟩, ⟨rfl, show (1 : Nat) < 2 by decide⟩, ⟨rfl, trivial⟩, trivial⟩, ⟨⟨by omega, rfl, srcB_inn _ _ _ _⟩, ⟨by omega, rfl, ⟨trivial, trivial, trivial, trivial, trivial⟩, trivial⟩, trivial⟩⟩
   have hq := quo_wrap v hv 3 (by decide)
   obtain ⟨hn1, hn2⟩ := role_in v 3 4 (by decide) (by decide)
   obtain ⟨hr1, hr2⟩ := role_in v 3 6 (by decide) (by decide)
   have hrw : IntKind.i64.wrap (1 + ((v : Int).tdiv 3).tmod 6) = 1 + ((v : Int).tdiv 3).tmod 6 := IntWalk.i64_in _ ⟨by omega, by omega⟩
   (refine go ?_;repeat' (apply B<;>intro hb<;>try cases hb))
   · rw [hq]
     refine ret_made (f := .mk 1 (((v : Int).tdiv 3).tmod 4) [] []) rfl rfl rfl (leaf_made (by omega) ?_ rfl (by omega) (in6_leaf (.inr (by decide)) fun r hr => by cases hr))
     exact ⟨by decide, by decide, rfl, fun h => absurd rfl h, by decide, by decide, by omega, by omega, fun r hr => (by cases hr), by simp, fun a ha => by cases ha⟩
   · rw [hq, hrw]
     exact ret_made (f := .mk 6 0 [1 + ((v : Int).tdiv 3).tmod 6] []) rfl rfl rfl (leaf_made (by omega) (one_wf (m := 6) (.inr (.inr rfl)) (by decide) (by omega) (by omega)) rfl (by omega) (in6_leaf (.inl (by simpa using hb)) fun r hr => by rw [List.mem_singleton.1 hr]; omega))
   refine opsK_ptr (next_spec l hl fl (t + 1) (by omega)) rfl rfl rfl rfl (srcB_pure l fl (t + 1)) trivial ?_
   rintro r b' - - ⟨u, hu, rfl, rfl⟩
   iterate 5 (first|refine st ?_|(apply B<;>intro hb<;>try cases hb))
   refine opsK_sub (subA_cellNil (id := 2) (i0 := 0) (j0 := 2) rfl (by decide) (by decide) rfl 1 (by decide) (by decide)) ?_
   (refine go ?_;repeat' (apply B<;>intro hb<;>try cases hb))
   refine aw_loopR hC (fun (x : Nat × List Int) => x.1 ≤ 6 ∧ Asc x.2 x.1) (fun x => 6 - x.1) 4 (fun x => [(0, .ptr 0 0 0), (3, .val (.int .i64 6)), (8, .ptr 1 0 0), (9, .val (.int .i64 (v : Int))), (12, .ptr 2 0 0), (13, .val (.int .i64 (u : Int))), (14, .val (.int .i64 ((x.1 + 1 : Nat) : Int)))])
    (fun x => [(0, srcB l fl (t + 1 + 1)), (1, ⟨4, [[.val (.int .i64 0), .val (.int .i64 0), .vec [] true, .vec [] true]]⟩), (2, ⟨4, [[.val (.int .i64 5), .val (.int .i64 0), .own 3, .vec [] true]]⟩), (3, ⟨1, nums x.2⟩)]) (by omega) (0, []) ⟨by omega, by simp, fun r hr => (by cases hr), by simp⟩ (fun i => i) (fun _ _ => rfl) injOn_id
    ⟨⟨_, rfl, .ptr 0 0 0 (by decide)⟩, ⟨_, rfl, .pure _ trivial⟩, ⟨_, rfl, .ptr 1 0 0 (by decide)⟩, ⟨_, rfl, .pure _ trivial⟩, ⟨_, rfl, .ptr 2 0 0 (by decide)⟩, ⟨_, rfl, .pure _ trivial⟩, ⟨_, rfl, .pure _ trivial⟩, trivial⟩
    ⟨⟨by omega, _, rfl, .same _ (srcB_pure _ _ _)⟩, ⟨by omega, _, rfl, .same _ ⟨⟨trivial, trivial, trivial, trivial, trivial⟩, trivial⟩⟩, ⟨by omega, _, rfl, RenB.single ⟨.pure _ trivial, .pure _ trivial, .own 3 (by decide), .pure _ trivial, trivial⟩ rfl⟩, ⟨by omega, _, rfl, .same _ trivial⟩, trivial⟩ ?_
   rintro ⟨j, acc⟩ ⟨hj, hasc⟩
   simp only at hj hasc
   have hj1 : IntKind.i64.wrap (((j + 1 : Nat) : Int) - 1) = (j : Int) := by rw [show ((j + 1 : Nat) : Int) - 1 = (j : Int) by omega]; exact wrap_nat _ (by omega)
   have hinc : IntKind.i64.wrap (((j + 1 : Nat) : Int) + 1) = ((j + 1 + 1 : Nat) : Int) := IntWalk.i64_in _ ⟨by omega, by omega⟩
   iterate 4 (first|refine st ?_|(apply B<;>intro hb<;>try cases hb))
   (first|refine st ?_|(apply B<;>intro hb<;>try cases hb))
   refine opsK_bool rfl rfl rfl (fun hb => ?_) (fun hb => ?_)
   · have hj6 : j + 1 ≤ 6 := by simp at hb; omega
     clear hb
     iterate 9 (first|refine st ?_|(apply B<;>intro hb<;>try cases hb))
     refine opsK_int rfl rfl rfl hj1 ?_
     (refine go ?_;repeat' (apply B<;>intro hb<;>try cases hb))
     · refine opsK_new (E_append (k := 3) (m := nums [((j + 1 : Nat) : Int)]) (fl := true) rfl rfl rfl (fun c hc => by obtain ⟨x, _, rfl⟩ := List.mem_map.1 hc; rfl) rfl (by
        have := hasc.len
        show ((nums acc).length + (nums [((j + 1 : Nat) : Int)]).length) * 8 ≤ _
        rw [nums_length, nums_length, List.length_singleton]
        omega)) rfl rfl ?_
       have happ : nums acc ++ nums [((j + 1 : Nat) : Int)] = nums (acc ++ [((j + 1 : Nat) : Int)]) := by simp [nums]
       simp only
       rw [happ]
       (refine go ?_;repeat' (apply B<;>intro hb<;>try cases hb))
       refine ⟨(j + 1, acc ++ [((j + 1 : Nat) : Int)]), mv 3 4, ⟨hj6, hasc.snoc⟩, by simp only; omega, mv_low (by decide), injOn_mv (by simp),
        ⟨⟨_, rfl, .ptr 0 0 0 (by decide)⟩, ⟨_, rfl, .pure _ trivial⟩, ⟨_, rfl, .ptr 1 0 0 (by decide)⟩, ⟨_, rfl, .pure _ trivial⟩, ⟨_, rfl, .ptr 2 0 0 (by decide)⟩, ⟨_, rfl, .pure _ trivial⟩, ⟨_, by show some _ = some _; rw [hinc], .pure _ trivial⟩, trivial⟩,
        ⟨⟨by omega, _, rfl, .same _ (srcB_pure _ _ _)⟩, ⟨by omega, _, rfl, .same _ ⟨⟨trivial, trivial, trivial, trivial, trivial⟩, trivial⟩⟩, ⟨by omega, _, rfl, RenB.single ⟨.pure _ trivial, .pure _ trivial, .own 3 (by decide), .pure _ trivial, trivial⟩ rfl⟩, ⟨by omega, _, rfl, .same _ (nums_pure _)⟩, trivial⟩⟩
     · refine ⟨(j + 1, acc), fun i => i, ⟨hj6, hasc.skip⟩, by simp only; omega, fun _ _ => rfl, injOn_id,
        ⟨⟨_, rfl, .ptr 0 0 0 (by decide)⟩, ⟨_, rfl, .pure _ trivial⟩, ⟨_, rfl, .ptr 1 0 0 (by decide)⟩, ⟨_, rfl, .pure _ trivial⟩, ⟨_, rfl, .ptr 2 0 0 (by decide)⟩, ⟨_, rfl, .pure _ trivial⟩, ⟨_, by show some _ = some _; rw [hinc], .pure _ trivial⟩, trivial⟩,
        ⟨⟨by omega, _, rfl, .same _ (srcB_pure _ _ _)⟩, ⟨by omega, _, rfl, .same _ ⟨⟨trivial, trivial, trivial, trivial, trivial⟩, trivial⟩⟩, ⟨by omega, _, rfl, RenB.single ⟨.pure _ trivial, .pure _ trivial, .own 3 (by decide), .pure _ trivial, trivial⟩ rfl⟩, ⟨by omega, _, rfl, .same _ (nums_pure _)⟩, trivial⟩⟩
   · have hj6 : j = 6 := by simp at hb; omega
     subst hj6
     clear hb
     have hlow : lowLL (nums acc) = nums acc := lowLL_nums acc
     iterate 9 (first|refine st ?_|(apply B<;>intro hb<;>try cases hb))
     refine opsK_bool rfl rfl rfl (fun hb => ?_) (fun hb => ?_)
     · (refine go ?_;repeat' (apply B<;>intro hb<;>try cases hb))
       rw [hq, hrw]
       refine ret_made (f := .mk 5 0 [1 + ((v : Int).tdiv 3).tmod 6] []) rfl rfl rfl (leaf_made (by omega) (one_wf (m := 6) (.inr (.inl rfl)) (by decide) (by omega) (by omega)) rfl (by omega) (in6_leaf (.inr (by decide)) fun r hr => by rw [List.mem_singleton.1 hr]; omega))
     · have hne : acc ≠ [] := by
        rintro rfl
        simp [nums] at hb
       iterate 6 (first|refine st ?_|(apply B<;>intro hb<;>try cases hb))
       refine opsK_sub (subA_freezeP (k := 87) (id := 3) (b := ⟨1, nums acc⟩) rfl rfl (nums_pure acc) (FrzLs.agg (id := 3) (l := nums acc) (xs := [.val (.int .i64 5), .val (.int .i64 0), .own 3, .vec [] true]) (ys := [.val (.int .i64 5), .val (.int .i64 0), .vec (nums acc) false, .vec [] true]) ⟨.pure _ trivial, .pure _ trivial, .own, .pure _ trivial, trivial⟩)) ?_
       (refine go ?_;repeat' (apply B<;>intro hb<;>try cases hb))
       refine ret_made (f := .mk 5 0 acc []) rfl ?_ rfl (leaf_made (by omega) (count_wf (m := 6) (by decide) hasc hne) rfl (by omega) (in6_leaf (.inr (by decide)) fun r hr => (hasc.rng r hr).2))
       show PV.agg [_, _, .vec (lowLL (nums acc)) false, _] = _
       rw [hlow]
       rfl
end Go.Proofs.YtifohjijhhjdkaaGreatDoor

namespace Go.Proofs.YtifohjijhhjdkaaGreatDoor
open Go.RowKit
set_option linter.unusedVariables false
attribute [local irreducible] aw opsK dK

theorem one_made {k : Int} {l : List Nat} {fl : Bool} {d t t1 : Nat} {x : Fm} (wx : Wf x) (tx : typeM x.op = 1) (dx : x.depth ≤ d) (sx : x.size + 1 ≤ 2 ^ d) (h1 : t1 + 1 ≤ t + 1 + 2 ^ (d + 1)) (ix : in6 k x = true) : MadeR k 1 l fl (d + 1) t (.agg (fC .i64 (.mk 7 0 [] [x]))) (srcB l fl t1) := by
 have w : WfI 7 0 [] [x] := ⟨by decide, by decide, rfl, fun _ => rfl, by decide, by decide, by decide, by decide, fun r hr => (by cases hr), by simp, fun a ha => by
  rw [List.mem_singleton.1 ha]; exact ⟨wx, tx⟩⟩
 have hp := Nat.pos_of_ne_zero (show 2 ^ d ≠ 0 from fun h => by simp at h)
 refine ⟨_, t1, w.wf, rfl, by rw [depth_one]; omega, by rw [size_one, Nat.pow_succ]; omega, rfl, rfl, ?_, in6_node (by decide) (by simp [in6L, ix])⟩
 rw [Nat.pow_succ (n := 2) (m := d + 1), Nat.pow_succ] at *
 omega

set_option maxHeartbeats 4000000 in
theorem compare_spec (l : List Nat) (hl : Bytes l) (fl : Bool) (k : Int) (w d t : Nat) (hd : 1 ≤ d) (ht : t + 2 ^ (d + 2) ≤ 1099511627776) :
 PSpec Tryz.prog 104 (srcB l fl (t + 1)) [.val (.int .i64 (w : Int)), .val (.int .i64 ((d + 1 : Nat) : Int)), .val (.int .i64 k), .val (.int .i64 6)] (MadeR k 1 l fl (d + 1) t) := by
 have hp2 : 2 ^ (d + 2) = 2 * 2 ^ (d + 1) := by rw [Nat.pow_succ]; omega
 have hpt := Nat.lt_two_pow_self (n := d + 1)
 have hdec : IntKind.i64.wrap (((d + 1 : Nat) : Int) - 1) = (d : Int) := by rw [show ((d + 1 : Nat) : Int) - 1 = (d : Int) by omega]; exact wrap_nat _ (by omega)
 have hm : (w : Int).tmod 5 = ((w % 5 : Nat) : Int) := by rw [Int.tmod_eq_emod_of_nonneg (by omega)]; omega
 have hop : IntKind.i64.wrap (11 + ((w % 5 : Nat) : Int)) = 11 + ((w % 5 : Nat) : Int) := IntWalk.i64_in _ ⟨by omega, by omega⟩
 refine pspec_intro ok104 (Nat.le_of_ble_eq_true rfl) fun C hC => ?_
 (refine go ?_;repeat' (apply B<;>intro hb<;>try cases hb))
 refine opsK_ptr (mnumber_spec l hl fl k d hd (t + 1) (by omega)) rfl rfl (by show [_, _, _, _] = _; rw [hdec]) rfl (srcB_pure l fl _) ⟨trivial, trivial, trivial, trivial⟩ ?_
 rintro r b' - - ⟨x, t1, wx, tx, dx, sx, rfl, rfl, ht1, ix⟩
 (refine go ?_;repeat' (apply B<;>intro hb<;>try cases hb))
 refine opsK_ptr (mnumber_spec l hl fl k d hd t1 (by omega)) rfl rfl (by show [_, _, _, _] = _; rw [hdec]) rfl (srcB_pure l fl _) ⟨trivial, trivial, trivial, trivial⟩ ?_
 rintro r b' - - ⟨y, t2, wy, ty, dy, sy, rfl, rfl, ht2, iy⟩
 (refine go ?_;repeat' (apply B<;>intro hb<;>try cases hb))
 rw [hm, hop]
 have hw : wantM (11 + ((w % 5 : Nat) : Int)) = 2 := by rw [wantM, if_pos (by omega)]
 refine ret_made (f := .mk (11 + ((w % 5 : Nat) : Int)) 0 [] [x, y]) rfl ?_ rfl (two_made hd (by omega) (by omega) wx (by rw [hw]; exact tx) wy (by rw [hw]; exact ty) (by rw [typeM, if_neg (by omega)]) dx dy sx sy ht1 ht2 ix iy)
 show PV.agg [_, _, _, .vec [lowL (fC .i64 x), lowL (fC .i64 y)] false] = _
 rw [lowL_fC, lowL_fC]
 rfl

set_option maxHeartbeats 4000000 in
theorem mtruth_spec (l : List Nat) (hl : Bytes l) (fl : Bool) (k : Int) : ∀ (d : Nat), 1 ≤ d → ∀ (t : Nat), t + 2 ^ (d + 1) ≤ 1099511627776 →
 PSpec Tryz.prog 62 (srcB l fl t) [.val (.int .i64 (d : Int)), .val (.int .i64 k), .val (.int .i64 6)] (MadeR k 1 l fl d t) := by
 intro d
 induction d with
 | zero => intro h; omega
 | succ d ih =>
   intro _ t ht
   have hp2 : 2 ^ (d + 1 + 1) = 2 * 2 ^ (d + 1) := by rw [Nat.pow_succ]; omega
   have hpt := Nat.lt_two_pow_self (n := d + 1)
   refine pspec_intro ok62 (Nat.le_of_ble_eq_true rfl) fun C hC => ?_
   (refine go ?_;repeat' (apply B<;>intro hb<;>try cases hb))
   refine opsK_ptr (next_spec l hl fl t (by omega)) rfl rfl rfl rfl (srcB_pure l fl t) trivial ?_
   rintro r b' - - ⟨v, hv, rfl, rfl⟩
   have hdec : IntKind.i64.wrap (((d + 1 : Nat) : Int) - 1) = (d : Int) := by rw [show ((d + 1 : Nat) : Int) - 1 = (d : Int) by omega]; exact wrap_nat _ (by omega)
   have h8 : (v : Int).tmod 8 = ((v % 8 : Nat) : Int) := by rw [Int.tmod_eq_emod_of_nonneg (by omega)]; omega
   have hq8 : IntKind.i64.wrap ((v : Int).tdiv 8) = ((v / 8 : Nat) : Int) := by rw [quo_wrap v hv 8 (by decide), Int.tdiv_eq_ediv_of_nonneg (by omega)]; omega
   have hq16 : IntKind.i64.wrap ((v : Int).tdiv 16) = ((v / 16 : Nat) : Int) := by rw [quo_wrap v hv 16 (by decide), Int.tdiv_eq_ediv_of_nonneg (by omega)]; omega
   have hm2 : ((v / 16 : Nat) : Int).tmod 2 = ((v / 16 % 2 : Nat) : Int) := by rw [Int.tmod_eq_emod_of_nonneg (by omega)]; omega
   have hm6 : ((v / 8 : Nat) : Int).tmod 6 = ((v / 8 % 6 : Nat) : Int) := by rw [Int.tmod_eq_emod_of_nonneg (by omega)]; omega
   have hw2 : IntKind.i64.wrap (2 + ((v / 16 % 2 : Nat) : Int)) = 2 + ((v / 16 % 2 : Nat) : Int) := IntWalk.i64_in _ ⟨by omega, by omega⟩
   have hw6 : IntKind.i64.wrap (1 + ((v / 8 % 6 : Nat) : Int)) = 1 + ((v / 8 % 6 : Nat) : Int) := IntWalk.i64_in _ ⟨by omega, by omega⟩
   have hwo : v % 8 = 3 ∨ v % 8 = 4 ∨ v % 8 = 5 → IntKind.i64.wrap (IntKind.i64.wrap (8 + ((v % 8 : Nat) : Int)) - 3) = 5 + ((v % 8 : Nat) : Int) := fun h => by
    rw [IntWalk.i64_in (8 + ((v % 8 : Nat) : Int)) ⟨by omega, by omega⟩]
    rw [show 8 + ((v % 8 : Nat) : Int) - 3 = 5 + ((v % 8 : Nat) : Int) by omega]
    exact IntWalk.i64_in _ ⟨by omega, by omega⟩
   have hb1 : ∀ i : Nat, (⟨4, [[.val (.int .i64 0), .val (.int .i64 0), .vec [] true, .vec [] true]]⟩ : Bx).elems.length = 1 := fun _ => rfl
   (first|refine st ?_|(apply B<;>intro hb<;>try cases hb))
   (first|refine st ?_|(apply B<;>intro hb<;>try cases hb))
   refine aw_cut hC (1 ≤ d ∧ 2 ≤ v % 8) 2 [(0, .ptr 0 0 0), (1, .val (.int .i64 ((d + 1 : Nat) : Int))), (2, .val (.int .i64 k)), (3, .val (.int .i64 6)), (8, .ptr 1 0 0), (9, .val (.int .i64 (v : Int)))] [(0, srcB l fl (t + 1)), (1, ⟨4, [[.val (.int .i64 0), .val (.int .i64 0), .vec [] true, .vec [] true]]⟩)] (by omega) ?_ fun hA => ?_
   · refine aw_cut hC True 2 [(0, .ptr 0 0 0), (1, .val (.int .i64 ((d + 1 : Nat) : Int))), (2, .val (.int .i64 k)), (3, .val (.int .i64 6)), (8, .ptr 1 0 0), (9, .val (.int .i64 (v : Int))), (20, .val (.bool (decide (((d + 1 : Nat) : Int) ≤ 1) || decide ((v : Int).tmod 8 ≤ 1))))] [(0, srcB l fl (t + 1)), (1, ⟨4, [[.val (.int .i64 0), .val (.int .i64 0), .vec [] true, .vec [] true]]⟩)] (by omega) ?_ fun _ => ?_
     · (refine go ?_;repeat' (apply B<;>intro hb<;>try cases hb))
       all_goals
        refine ⟨trivial, ⟨⟨rfl, show (0 : Nat) < 2 by decide⟩, ⟨rfl, trivial⟩, ⟨rfl, trivial⟩, ⟨rfl, trivial⟩, ⟨rfl, show (1 : Nat) < 2 by decide⟩, ⟨rfl, trivial⟩, ⟨?_, trivial⟩, trivial⟩, ⟨⟨by omega, rfl, srcB_inn _ _ _ _⟩, ⟨by omega, rfl, ⟨trivial, trivial, trivial, trivial, trivial⟩, trivial⟩, trivial⟩⟩
        show some (PV.val (Value.bool _)) = _
        simp_all
     rw [h8]
     cases hc : (decide (((d + 1 : Nat) : Int) ≤ 1) || decide (((v % 8 : Nat) : Int) ≤ 1)) with
     | true =>
       (refine go ?_;repeat' (apply B<;>intro hb<;>try cases hb))
       · have hd1 : 1 ≤ d := by simp at hb; omega
         refine opsK_ptr (compare_spec l hl fl k (v / 8) d t hd1 ht) rfl rfl (by show [_, _, _, _, _] = _; rw [hq8]) rfl (srcB_pure l fl _) ⟨trivial, trivial, trivial, trivial, trivial⟩ ?_
         rintro r b' - - ⟨x, t1, wx, tx, dx, sx, rfl, rfl, ht1, ix⟩
         (refine go ?_;repeat' (apply B<;>intro hb<;>try cases hb))
         refine ret_made (f := x) rfl ?_ rfl ⟨x, t1, wx, tx, dx, sx, rfl, rfl, ht1, ix⟩
         show PV.agg (lowL (fC .i64 x)) = _
         rw [lowL_fC, cellsK_eq]
       all_goals first
        | (rw [hq16, hm2, hw2]
           refine ret_made (f := .mk (2 + ((v / 16 % 2 : Nat) : Int)) 0 [] []) rfl rfl rfl (leaf_made (by omega) ?_ (by rw [typeM, if_neg (by omega)]) (by omega) (in6_leaf (.inr (by omega)) fun r hr => by cases hr))
           refine ⟨by omega, by omega, ?_, fun _ => rfl, ?_, ?_, by decide, by decide, fun r hr => (by cases hr), by simp, fun a ha => by cases ha⟩
           · rw [operandsM, if_neg (by omega), if_neg (by omega)]; rfl
           · simp only [leastM, List.length_nil]; rw [if_neg (by omega), if_neg (by omega)]; decide
           · simp only [mostM, List.length_nil]; rw [if_neg (by omega), if_neg (by omega)]; decide
           done)
        | (rw [hq8, hm6, hw6]
           exact ret_made (f := .mk 4 0 [1 + ((v / 8 % 6 : Nat) : Int)] []) rfl rfl rfl (leaf_made (by omega) (one_wf (m := 6) (.inl rfl) (by decide) (by omega) (by omega)) rfl (by omega) (in6_leaf (.inr (by decide)) fun r hr => by rw [List.mem_singleton.1 hr]; omega)))
     | false =>
       (refine go ?_;repeat' (apply B<;>intro hb<;>try cases hb))
       refine ⟨?_, ⟨⟨rfl, show (0 : Nat) < 2 by decide⟩, ⟨rfl, trivial⟩, ⟨rfl, trivial⟩, ⟨rfl, trivial⟩, ⟨rfl, show (1 : Nat) < 2 by decide⟩, ⟨rfl, trivial⟩, trivial⟩, ⟨⟨by omega, rfl, srcB_inn _ _ _ _⟩, ⟨by omega, rfl, ⟨trivial, trivial, trivial, trivial, trivial⟩, trivial⟩, trivial⟩⟩
       simp at hc
       omega
   obtain ⟨hd1, hv2⟩ := hA
   refine aw_cut hC (v % 8 < 6) 2 [(0, .ptr 0 0 0), (1, .val (.int .i64 ((d + 1 : Nat) : Int))), (2, .val (.int .i64 k)), (3, .val (.int .i64 6)), (8, .ptr 1 0 0), (9, .val (.int .i64 (v : Int)))] [(0, srcB l fl (t + 1)), (1, ⟨4, [[.val (.int .i64 0), .val (.int .i64 0), .vec [] true, .vec [] true]]⟩)] (by omega) ?_ fun hA => ?_
   · (refine go ?_;repeat' (apply B<;>intro hb<;>try cases hb))
     · refine opsK_ptr (compare_spec l hl fl k (v / 8) d t hd1 ht) rfl rfl (by show [_, _, _, _, _] = _; rw [hq8]) rfl (srcB_pure l fl _) ⟨trivial, trivial, trivial, trivial, trivial⟩ ?_
       rintro r b' - - ⟨x, t1, wx, tx, dx, sx, rfl, rfl, ht1, ix⟩
       (refine go ?_;repeat' (apply B<;>intro hb<;>try cases hb))
       refine ret_made (f := x) rfl ?_ rfl ⟨x, t1, wx, tx, dx, sx, rfl, rfl, ht1, ix⟩
       show PV.agg (lowL (fC .i64 x)) = _
       rw [lowL_fC, cellsK_eq]
     · refine ⟨?_, ⟨⟨rfl, show (0 : Nat) < 2 by decide⟩, ⟨rfl, trivial⟩, ⟨rfl, trivial⟩, ⟨rfl, trivial⟩, ⟨rfl, show (1 : Nat) < 2 by decide⟩, ⟨rfl, trivial⟩, trivial⟩, ⟨⟨by omega, rfl, srcB_inn _ _ _ _⟩, ⟨by omega, rfl, ⟨trivial, trivial, trivial, trivial, trivial⟩, trivial⟩, trivial⟩⟩
       rw [h8] at hb
       simp at hb
       omega
   (refine go ?_;repeat' (apply B<;>intro hb<;>try cases hb))
   refine opsK_ptr (ih hd1 (t + 1) (by omega)) rfl rfl (by show [_, _, _, _] = _; rw [hdec]) rfl (srcB_pure l fl _) ⟨trivial, trivial, trivial, trivial⟩ ?_
   rintro r b' - - ⟨x, t1, wx, tx, dx, sx, rfl, rfl, ht1, ix⟩
   (refine go ?_;repeat' (apply B<;>intro hb<;>try cases hb))
   · refine ret_made (f := .mk 7 0 [] [x]) rfl ?_ rfl (one_made wx tx dx sx ht1 ix)
     show PV.agg [_, _, _, .vec [lowL (fC .i64 x)] false] = _
     rw [lowL_fC]
     rfl
   have h3 : v % 8 = 3 ∨ v % 8 = 4 ∨ v % 8 = 5 := by
    rw [h8] at hb
    simp at hb
    omega
   refine opsK_ptr (ih hd1 t1 (by omega)) rfl rfl (by show [_, _, _, _] = _; rw [hdec]) rfl (srcB_pure l fl _) ⟨trivial, trivial, trivial, trivial⟩ ?_
   rintro r b' - - ⟨y, t2, wy, ty, dy, sy, rfl, rfl, ht2, iy⟩
   (refine go ?_;repeat' (apply B<;>intro hb<;>try cases hb))
   rw [h8, hwo h3]
   have hw : wantM (5 + ((v % 8 : Nat) : Int)) = 1 := by rw [wantM, if_neg (by omega)]
   refine ret_made (f := .mk (5 + ((v % 8 : Nat) : Int)) 0 [] [x, y]) rfl ?_ rfl (two_made hd1 (by omega) (by omega) wx (by rw [hw]; exact tx) wy (by rw [hw]; exact ty) (by rw [typeM, if_neg (by omega)]) dx dy sx sy ht1 ht2 ix iy)
   show PV.agg [_, _, _, .vec [lowL (fC .i64 x), lowL (fC .i64 y)] false] = _
   rw [lowL_fC, lowL_fC]
   rfl

def MadeF (k : Int) (r : PV) : Prop := ∃ f : Fm, Wf f ∧ typeM f.op = 1 ∧ f.depth ≤ 4 ∧ f.size ≤ 15 ∧ r = .agg (fC .i64 f) ∧ in6 k f = true
theorem make18_spec (l : List Nat) (hl : Bytes l) (fl : Bool) (k : Int) : Spec Tryz.prog 25 [.vec (bys l) fl, .val (.int .i64 k), .val (.int .i64 6)] (MadeF k) := by
 refine spec_intro ok25 (Nat.le_of_ble_eq_true rfl) fun C hC => ?_
 (refine go ?_;repeat' (apply B<;>intro hb<;>try cases hb))
 refine opsK_ptr (mtruth_spec l hl fl k 4 (by decide) 0 (by decide)) rfl rfl rfl rfl (srcB_pure l fl _) ⟨trivial, trivial, trivial, trivial⟩ ?_
 rintro r b' - - ⟨x, t1, wx, tx, dx, sx, rfl, rfl, ht1, ix⟩
 (refine go ?_;repeat' (apply B<;>intro hb<;>try cases hb))
 refine ret_ok rfl (fC_pure .i64 x) ⟨x, wx, tx, dx, by omega, rfl, ix⟩
end Go.Proofs.YtifohjijhhjdkaaGreatDoor

namespace Go.Proofs.YtifohjijhhjdkaaGreatDoor
open Go.RowKit
set_option linter.unusedVariables false
attribute [local irreducible] aw opsK dK

def Nice : Nat → Fm → Prop
 | 0, _ => False
 | d + 1, f => 0 ≤ f.op ∧ f.op ≤ 255 ∧ f.roles.length ≤ 1000 ∧ f.args.length ≤ 1000 ∧ ∀ a ∈ f.args, Nice d a
theorem Wf.nice : ∀ (d : Nat) (f : Fm), Wf f → f.depth ≤ d → Nice d f
 | 0, f, _, h => by rw [Fm.depth_eq] at h; omega
 | d + 1, f, w, h => by
   have hi := w.inv'
   have hm : mostM f.op ≤ 8 := by
    unfold mostM
    split
    · omega
    · split <;> omega
   have ho : operandsM f.op ≤ 2 := by
    unfold operandsM
    split
    · omega
    · split <;> omega
   refine ⟨by have := hi.lo; omega, by have := hi.hi; omega, by have := hi.most; omega, by have := hi.ar; omega, fun a ha => ?_⟩
   obtain ⟨i, hil, rfl⟩ := List.getElem_of_mem ha
   have := depthL_mem hil
   have := f.depth_eq
   exact Wf.nice d _ (w.arg _ (List.getElem_mem _)).1 (by omega)

end Go.Proofs.YtifohjijhhjdkaaGreatDoor

namespace Go.Proofs.YtifohjijhhjdkaaGreatDoor
open Go.RowKit
set_option linter.unusedVariables false
attribute [local irreducible] aw opsK dK

set_option maxHeartbeats 2000000 in
theorem make18f_spec : ∀ (d : Nat) (f : Fm), Nice d f → Spec Tryz.prog 12 [.agg (fC .i64 f)] (· = .agg (fC .u8 f)) := by
 intro d
 induction d with
 | zero => intro f hf; exact hf.elim
 | succ d ih =>
   rintro f ⟨hop0, hop1, hrl, hal, harg⟩
   have hll : (f.args.map (cellsK .i64)).length = f.args.length := by simp
   have hnl := nums_length f.roles
   have hconv : IntKind.u8.wrap f.op = f.op := by rw [IntKind.wrap_u8]; omega
   refine spec_intro ok12 (Nat.le_of_ble_eq_true rfl) fun C hC => ?_
   refine aw_seq ?_
   refine aw_region ?_
   refine opsK_ofAlt rfl rfl rfl ?_
   (first|refine st ?_|(apply B<;>intro hb<;>try cases hb))
   (first|refine st ?_|(apply B<;>intro hb<;>try cases hb))
   (first|refine st ?_|(apply B<;>intro hb<;>try cases hb))
   refine aw_draw [8] ?_
   iterate 2 (first|refine st ?_|(apply B<;>intro hb<;>try cases hb))
   refine dK_of (E_int rfl hconv) rfl rfl ?_
   (refine go ?_;repeat' (apply B<;>intro hb<;>try cases hb))
   refine dK_ofAlt (E_appendF (l := []) (m := nums f.roles) rfl rfl (fun c hc => by cases hc) (fun c hc => by obtain ⟨x, _, rfl⟩ := List.mem_map.1 hc; rfl) (by show ((0 : Nat) + (nums f.roles).length) * 8 ≤ _; rw [hnl]; omega)) rfl rfl ?_
   rw [List.nil_append]
   iterate 9 (first|refine st ?_|(apply B<;>intro hb<;>try cases hb))
   refine opsK_sub (subA_cellNil (id := 11) (b := ⟨4, [[.val (.int .u8 f.op), .val (.int .i64 f.n), .vec (nums f.roles) false, .vec [] true]]⟩) (i0 := 0) (j0 := 3) rfl (show 0 < 1 by decide) (show 3 < 4 by decide) rfl 4 (by decide) (by decide)) ?_
   (refine go ?_;repeat' (apply B<;>intro hb<;>try cases hb))
   refine aw_loopR hC (fun i => i ≤ f.args.length) (fun i => f.args.length - i) 3 (fun i => [(2, .ptr 0 0 0), (3, .ptr 1 0 0), (17, .vec (f.args.map (cellsK .i64)) false), (18, .val (.int .i64 f.args.length)), (19, .val (.int .i64 (i : Int)))])
    (fun i => [(0, ⟨4, [[.val (.int .u8 0), .val (.int .i64 0), .vec [] true, .vec [] true]]⟩), (1, ⟨4, [[.val (.int .u8 f.op), .val (.int .i64 f.n), .vec (nums f.roles) false, .own 2]]⟩), (2, ⟨4, (f.args.take i).map (cellsK .u8)⟩)]) (by omega) 0 (by omega) (fun i => mv 1 11 (mv 2 13 i)) (fun i hi => by omega) (injOn_of rfl)
    ⟨⟨_, rfl, .ptr (ρ := fun i => mv 1 11 (mv 2 13 i)) 0 0 0 (by decide)⟩, ⟨_, rfl, .ptr (ρ := fun i => mv 1 11 (mv 2 13 i)) 1 0 0 (by decide)⟩, ⟨_, rfl, .pure _ (fArgs_pure _ _)⟩, ⟨_, by rw [← hll]; rfl, .pure _ trivial⟩, ⟨_, rfl, .pure _ trivial⟩, trivial⟩
    ⟨⟨by omega, _, rfl, .same _ ⟨⟨trivial, trivial, trivial, trivial, trivial⟩, trivial⟩⟩, ⟨by omega, _, rfl, RenB.single ⟨.pure _ trivial, .pure _ trivial, .pure _ (nums_pure _), .own (ρ := fun i => mv 1 11 (mv 2 13 i)) 2 (by decide), trivial⟩ rfl⟩, ⟨by omega, _, rfl, .same _ trivial⟩, trivial⟩ ?_
   intro i hi
   have hinc : IntKind.i64.wrap ((i : Int) + 1) = ((i + 1 : Nat) : Int) := IntWalk.i64_in _ ⟨by omega, by omega⟩
   have hcl : ((f.args.take i).map (cellsK .u8)).length = i := by rw [List.length_map, List.length_take]; omega
   iterate 2 (first|refine st ?_|(apply B<;>intro hb<;>try cases hb))
   refine opsK_bool rfl rfl rfl (fun hb => ?_) (fun hb => ?_)
   · have hil : i < f.args.length := by simpa using hb
     (refine go ?_;repeat' (apply B<;>intro hb<;>try cases hb))
     refine opsK_of (E_iaddr (xs := f.args) rfl rfl i rfl hil (cellsK_length _ _)) rfl rfl ?_
     rw [cellsK_eq .i64 f.args[i]]
     (refine go ?_;repeat' (apply B<;>intro hb<;>try cases hb))
     refine dK_eq (ih f.args[i] (harg _ (List.getElem_mem _))) rfl rfl rfl ⟨fC_pure _ _, trivial⟩ ?_
     (refine go ?_;repeat' (apply B<;>intro hb<;>try cases hb))
     refine dK_of (E_append (k := 2) (m := [fC .u8 f.args[i]]) (fl := true) rfl rfl rfl (fun c hc => by rw [List.mem_singleton.1 hc]; rfl) rfl (by
      show (((f.args.take i).map (cellsK .u8)).length + 1) * 64 ≤ _
      rw [hcl]; omega)) rfl rfl ?_
     have happ : (f.args.take i).map (cellsK .u8) ++ [fC .u8 f.args[i]] = (f.args.take (i + 1)).map (cellsK .u8) := by
      rw [List.take_add_one, List.getElem?_eq_getElem hil, List.map_append, ← cellsK_eq]; rfl
     simp only
     rw [happ]
     (refine go ?_;repeat' (apply B<;>intro hb<;>try cases hb))
     exact ⟨i + 1, mv 2 9, by omega, by omega, mv_low (by decide), injOn_of rfl,
      ⟨⟨_, rfl, .ptr (ρ := mv 2 9) 0 0 0 (by decide)⟩, ⟨_, rfl, .ptr (ρ := mv 2 9) 1 0 0 (by decide)⟩, ⟨_, rfl, .pure _ (fArgs_pure _ _)⟩, ⟨_, rfl, .pure _ trivial⟩, ⟨_, by show some _ = some _; rw [hinc], .pure _ trivial⟩, trivial⟩,
      ⟨⟨by omega, _, rfl, .same _ ⟨⟨trivial, trivial, trivial, trivial, trivial⟩, trivial⟩⟩, ⟨by omega, _, rfl, RenB.single ⟨.pure _ trivial, .pure _ trivial, .pure _ (nums_pure _), .own (ρ := mv 2 9) 2 (by decide), trivial⟩ rfl⟩, ⟨by omega, _, rfl, .same _ (fArgs_pure _ _)⟩, trivial⟩⟩
   · have hil : i = f.args.length := by simp at hb; omega
     subst hil
     rw [List.take_length]
     iterate 7 (first|refine st ?_|(apply B<;>intro hb<;>try cases hb))
     refine opsK_sub (subA_freezeP (k := 31) (id := 2) (b := ⟨4, f.args.map (cellsK .u8)⟩) rfl rfl (fArgs_pure _ _) (FrzLs.agg (id := 2) (l := f.args.map (cellsK .u8)) (xs := [.val (.int .u8 f.op), .val (.int .i64 f.n), .vec (nums f.roles) false, .own 2]) (ys := fC .u8 f) ⟨.pure _ trivial, .pure _ trivial, .pure _ (nums_pure _), .own, trivial⟩)) ?_
     (refine go ?_;repeat' (apply B<;>intro hb<;>try cases hb))
     exact ret_ok rfl (fC_pure .u8 f) rfl
end Go.Proofs.YtifohjijhhjdkaaGreatDoor

namespace Go.Proofs.YtifohjijhhjdkaaGreatDoor
open Go.RowKit
set_option linter.unusedVariables false
attribute [local irreducible] aw opsK dK

def MadeG (r : PV) : Prop := ∃ f : Fm, Wf f ∧ typeM f.op = 1 ∧ f.depth ≤ 4 ∧ f.size ≤ 15 ∧ in6 1 f = true ∧ r = .tup [.agg (fC .u8 f), .agg (fC .i64 f)]
theorem bys_row (l : List Nat) : bys l = l.map fun (x : Nat) => [PV.val (.int .u8 (x : Int))] := rfl
theorem make19_spec (l : List Nat) (hl : Bytes l) (fl : Bool) : Spec Tryz.prog 7 [.vec (bys l) fl] MadeG := by
 have hnl : (bys l).length = l.length := by simp [bys]
 have hmn : (if (40 : Int) < ((bys l).length : Int) then (40 : Int) else ((bys l).length : Int)) = ((min l.length 40 : Nat) : Int) := by rw [hnl]; split <;> omega
 refine spec_intro ok7 (Nat.le_of_ble_eq_true rfl) fun C hC => ?_
 (refine go ?_;repeat' (apply B<;>intro hb<;>try cases hb))
 refine opsK_of (E_slc (xs := l) (g := fun (x : Nat) => [PV.val (.int .u8 (x : Int))]) rfl 0 (min l.length 40) rfl (by show some _ = some _; rw [← hmn]) (Nat.zero_le _) (Nat.min_le_left _ _) (fun _ => rfl)) rfl rfl ?_
 rw [← bys_row, List.drop_zero]
 have hl2 : Bytes (l.take (min l.length 40)) := fun x hx => hl x (List.mem_of_mem_take hx)
 refine opsK_spec rfl rfl (make18_spec _ hl2 false 1) ⟨bys_pure _, trivial, trivial, trivial⟩ rfl ?_
 rintro r ⟨f, wf, tf, df, sf, rfl, i6⟩
 repeat' (first | refine aw_drawU [] [(0, 8)] [31, 31, 31, 4, 31] (by kernel_rfl) ?_ | (first|refine st ?_|(apply B<;>intro hb<;>try cases hb)))
 refine dK_eq (make18f_spec 4 f (wf.nice 4 f df)) rfl rfl rfl ⟨fC_pure _ _, trivial⟩ ?_
 (refine go ?_;repeat' (apply B<;>intro hb<;>try cases hb))
 exact ret_ok rfl ⟨fC_pure _ _, fC_pure _ _, trivial⟩ ⟨f, wf, tf, df, sf, i6, rfl⟩
end Go.Proofs.YtifohjijhhjdkaaGreatDoor

namespace Go.Proofs.YtifohjijhhjdkaaGreatDoor
open Go.RowKit Go.ChangeShapes
set_option linter.unusedVariables false
set_option linter.unusedSimpArgs false

def cellF (w : World) : Froz := fun x => match x.spot with
 | none => match w.cell? x with
   | some v => if v.oneCell' then some v else none
   | none => none
 | some _ => none
def GlobsIn (w : World) : Prop := ∀ (g j : Nat) (v : Value), (globs g)[j]? = some v → w.cell? ⟨g, j, none⟩ = some v
theorem holds_cellF {w : World} (hgl : GlobsIn w) : Holds (cellF w) w := by
 refine ⟨?_, fun g j v hv => by
  have h1 := hgl g j v hv
  have h2 := globs_one g j v hv
  simp [cellF, h1, h2]⟩
 intro x v hx
 unfold cellF at hx
 split at hx
 · rename_i hs
   split at hx
   · rename_i u hu
     split at hx
     · rename_i h1
       cases hx
       exact ⟨hs, h1, hu⟩
     · cases hx
   · cases hx
 · cases hx
theorem cellF_of {w : World} {b o : Nat} {v : Value} (hc : w.cell? ⟨b, o, none⟩ = some v) (h1 : v.oneCell' = true) : cellF w ⟨b, o, none⟩ = some v := by
 simp [cellF, hc, h1]

def Shape (P : Program) : Nat → TypeId → List PV → Prop
 | 0, _, _ => False
 | n + 1, t, ps => match P.underlying t with
   | some .bool => ∃ b, ps = [.val (.bool b)]
   | some (.int k) => ∃ m, (Lit.int k m).wf = true ∧ ps = [.val (.int k m)]
   | some .string => ∃ s, s.size ≤ maxVec ∧ ps = [.val (.string s)]
   | some (.pointer e) => ps = [.val (.pointer none)] ∨ ∃ l, Shape P n e l ∧ ps = [.cp l]
   | some (.slice e) => ∃ ll fl, ll.length ≤ maxVec ∧ (∀ l ∈ ll, Shape P n e l) ∧ ps = [.vec ll fl]
   | some (.struct fs) => ps.length = P.cellsOf t ∧ ∀ f ∈ fs.toList, Shape P n f.type ((ps.drop f.offset).take (P.cellsOf f.type))
   | some (.array m e) => ps.length = P.cellsOf t ∧ ∀ i, i < m → Shape P n e ((ps.drop (i * P.cellsOf e)).take (P.cellsOf e))
   | _ => ∃ v, ps = [.val v]

theorem mapM_some' {α β : Type} {f : α → Option β} : ∀ {l : List α} {ys : List β}, l.mapM f = some ys → ys.length = l.length ∧ ∀ i (h : i < l.length) (h' : i < ys.length), f l[i] = some ys[i]
 | [], ys, h => by
   obtain rfl : [] = ys := by simpa using h
   exact ⟨rfl, fun i hi => absurd hi (Nat.not_lt_zero _)⟩
 | a :: l, ys, h => by
   rw [List.mapM_cons] at h
   cases ha : f a with
   | none => simp [ha] at h
   | some b =>
     cases hl : l.mapM f with
     | none => simp [ha, hl] at h
     | some bs =>
       obtain rfl : b :: bs = ys := by simpa [ha, hl] using h
       obtain ⟨h1, h2⟩ := mapM_some' hl
       refine ⟨by simp [h1], fun i hi hi' => ?_⟩
       cases i with
       | zero => simpa using ha
       | succ i => simpa using h2 i (by simpa using hi) (by simpa using hi')

theorem cells?_some {w : World} {a : Addr} {n : Nat} {cs : List Value} (h : w.cells? 0 a n = some cs) : cs.length = n ∧ ∀ j, (hj : j < cs.length) → w.cell? (a.add j) = some cs[j] := by
 unfold World.cells? at h
 rw [if_pos (Nat.zero_le _)] at h
 obtain ⟨h1, h2⟩ := mapM_some' h
 have hn : cs.length = n := by simpa using h1
 refine ⟨hn, fun j hj => ?_⟩
 have := h2 j (by simp; omega) hj
 simpa using this

structure CellsR (w : World) (cs : List Value) (ps : List PV) : Prop where
 len : cs.length = ps.length
 one : ∀ j, j < ps.length → (cs.getD j undef).oneCell' = true
 rep : ∀ j, j < ps.length → Rep (cellF w) noLoc (cs.getD j undef) (ps.getD j pvu)
 pure : pureL ps

theorem CellsR.single {w : World} {v : Value} {p : PV} (h1 : v.oneCell' = true) (hr : Rep (cellF w) noLoc v p) (hp : p.pure) : CellsR w [v] [p] :=
 ⟨rfl, fun j hj => by obtain rfl : j = 0 := by simpa using hj
                      exact h1, fun j hj => by obtain rfl : j = 0 := by simpa using hj
                                               exact hr, hp, trivial⟩
theorem CellsR.nil {w : World} : CellsR w [] [] := ⟨rfl, fun j hj => absurd hj (Nat.not_lt_zero _), fun j hj => absurd hj (Nat.not_lt_zero _), trivial⟩
theorem CellsR.append {w : World} {cs cs' : List Value} {ps ps' : List PV} (h : CellsR w cs ps) (h' : CellsR w cs' ps') : CellsR w (cs ++ cs') (ps ++ ps') := by
 refine ⟨by simp [h.len, h'.len], fun j hj => ?_, fun j hj => ?_, (innL_iff _ _).2 fun p hp => ?_⟩
 · by_cases hl : j < ps.length
   · have := h.one j hl
     simpa [List.getD_eq_getElem?_getD, List.getElem?_append, h.len, hl] using this
   · have := h'.one (j - ps.length) (by simp at hj; omega)
     simpa [List.getD_eq_getElem?_getD, List.getElem?_append, h.len, hl] using this
 · by_cases hl : j < ps.length
   · have := h.rep j hl
     simpa [List.getD_eq_getElem?_getD, List.getElem?_append, h.len, hl] using this
   · have := h'.rep (j - ps.length) (by simp at hj; omega)
     simpa [List.getD_eq_getElem?_getD, List.getElem?_append, h.len, hl] using this
 · rcases List.mem_append.1 hp with hp | hp
   · exact (innL_iff _ _).1 h.pure p hp
   · exact (innL_iff _ _).1 h'.pure p hp

def tile (P : Program) (off : Nat) (total : Nat) : List Field → Bool
 | [] => off == total
 | f :: r => f.offset == off && tile P (off + P.cellsOf f.type) total r
def tilesT (P : Program) (G : List TypeId) (t : TypeId) : Bool := match P.underlying t with
 | some (.struct fs) => tile P 0 (P.cellsOf t) fs.toList && fs.toList.all fun f => G.contains f.type
 | some (.array m e) => P.cellsOf t == m * P.cellsOf e && G.contains e
 | some (.slice e) => decide (0 < P.bytesOf e) && decide (0 < P.cellsOf e) && G.contains e
 | some (.pointer e) => decide (0 < P.cellsOf e) && G.contains e
 | _ => true
def tilesB (P : Program) (G : List TypeId) : Bool := G.all (tilesT P G)
theorem tilesT_of {P : Program} {G : List TypeId} (h : tilesB P G = true) {t : TypeId} (ht : G.contains t = true) : tilesT P G t = true := List.all_eq_true.1 h t (by simpa using ht)
def partsG (P : Program) (ts : List TypeId) : List TypeId := ts.flatMap P.book

theorem struct_cells {P : Program} {w : World} {S : TypeId → List PV → Prop} {cs : List Value} : ∀ {fs : List Field} {off total : Nat}, tile P off total fs = true → cs.length = total →
 (∀ f ∈ fs, ∃ ps, S f.type ps ∧ CellsR w ((cs.drop f.offset).take (P.cellsOf f.type)) ps) → off ≤ total ∧ ∃ ps, CellsR w (cs.drop off) ps ∧ ∀ f ∈ fs, off ≤ f.offset ∧ S f.type ((ps.drop (f.offset - off)).take (P.cellsOf f.type))
 | [], off, total, ht, hl, _ => by
   obtain rfl : off = total := by simpa [tile] using ht
   refine ⟨Nat.le_refl _, [], ?_, fun f hf => by cases hf⟩
   rw [List.drop_eq_nil_of_le (by omega)]
   exact .nil
 | f :: r, off, total, ht, hl, hf => by
   simp only [tile, Bool.and_eq_true, beq_iff_eq] at ht
   obtain ⟨rfl, ht⟩ := ht
   obtain ⟨hle, ps2, hc2, hs2⟩ := struct_cells ht hl fun g hg => hf g (by simp [hg])
   obtain ⟨ps1, hs1, hc1⟩ := hf f (by simp)
   have hl1 : ps1.length = P.cellsOf f.type := by rw [← hc1.len]; simp; omega
   refine ⟨by omega, ps1 ++ ps2, ?_, fun g hg => ?_⟩
   · have := hc1.append hc2
     rw [← List.drop_drop, List.take_append_drop] at this
     exact this
   · rcases List.mem_cons.1 hg with rfl | hg
     · refine ⟨Nat.le_refl _, ?_⟩
       rw [Nat.sub_self, List.drop_zero, ← hl1, List.take_left]
       exact hs1
     · obtain ⟨h1, h2⟩ := hs2 g hg
       refine ⟨by omega, ?_⟩
       have e : g.offset - f.offset = ps1.length + (g.offset - (f.offset + P.cellsOf f.type)) := by omega
       rw [e, ← List.drop_drop, List.drop_left]
       exact h2

theorem array_cells {w : World} {S : List PV → Prop} {cs : List Value} {sz : Nat} : ∀ {m : Nat}, cs.length = m * sz → (∀ i, i < m → ∃ ps, S ps ∧ CellsR w ((cs.drop (i * sz)).take sz) ps) → ∃ ps, CellsR w cs ps ∧ ∀ i, i < m → S ((ps.drop (i * sz)).take sz)
 | 0, hl, _ => by
   obtain rfl : cs = [] := List.eq_nil_of_length_eq_zero (by simpa using hl)
   exact ⟨[], .nil, fun i hi => absurd hi (Nat.not_lt_zero _)⟩
 | m + 1, hl, hf => by
   have hlm : (cs.take (m * sz)).length = m * sz := by rw [List.length_take, hl]; exact Nat.min_eq_left (Nat.mul_le_mul_right _ (by omega))
   obtain ⟨ps1, hc1, hs1⟩ := array_cells (cs := cs.take (m * sz)) hlm fun i hi => by
    obtain ⟨ps, h1, h2⟩ := hf i (by omega)
    refine ⟨ps, h1, ?_⟩
    rw [List.drop_take, List.take_take, Nat.min_eq_left (by
     have : (i + 1) * sz ≤ m * sz := Nat.mul_le_mul_right _ hi
     rw [Nat.add_mul] at this; omega)]
    exact h2
   obtain ⟨ps2, hs2, hc2⟩ := hf m (by omega)
   have hl1 : ps1.length = m * sz := by rw [← hc1.len, hlm]
   have hd : (cs.drop (m * sz)).take sz = cs.drop (m * sz) := List.take_of_length_le (by rw [List.length_drop, hl, Nat.add_mul]; omega)
   rw [hd] at hc2
   have hl2 : ps2.length = sz := by rw [← hc2.len, List.length_drop, hl, Nat.add_mul]; omega
   refine ⟨ps1 ++ ps2, by have := hc1.append hc2; rwa [List.take_append_drop] at this, fun i hi => ?_⟩
   by_cases him : i < m
   · have hle : i * sz + sz ≤ ps1.length := by
      have : (i + 1) * sz ≤ m * sz := Nat.mul_le_mul_right _ him
      rw [Nat.add_mul] at this; omega
     rw [List.drop_append_of_le_length (by omega), List.take_append_of_le_length (by rw [List.length_drop]; omega)]
     exact hs1 i him
   · obtain rfl : i = m := by omega
     rw [← hl1, List.drop_left, List.take_of_length_le (by omega)]
     exact hs2

theorem weightsAll_mem {H : Type} {P : Program} {e : TypeId} : ∀ {ds : List (DataW H)} {d : DataW H}, d ∈ ds → ∀ x ∈ d.weights P e, x ∈ DataW.weightsAll P e ds
 | [], _, h, _, _ => by cases h
 | a :: r, d, h, x, hx => by
   rw [DataW.weightsAll, List.mem_append]
   rcases List.mem_cons.1 h with rfl | h
   · exact .inl hx
   · exact .inr (weightsAll_mem h x hx)
theorem weightsEach_mem {H : Type} {P : Program} : ∀ {ts : List TypeId} {ds : List (DataW H)} {i : Nat} {t : TypeId} {d : DataW H}, ts[i]? = some t → ds[i]? = some d → ∀ x ∈ d.weights P t, x ∈ DataW.weightsEach P ts ds
 | [], _, i, t, d, h, _, _, _ => by simp at h
 | a :: ts, [], i, t, d, _, h, _, _ => by simp at h
 | a :: ts, b :: ds, 0, t, d, h, h', x, hx => by
   obtain rfl : a = t := by simpa using h
   obtain rfl : b = d := by simpa using h'
   rw [DataW.weightsEach, List.mem_append]
   exact .inl hx
 | a :: ts, b :: ds, i + 1, t, d, h, h', x, hx => by
   rw [DataW.weightsEach, List.mem_append]
   exact .inr (weightsEach_mem (i := i) (by simpa using h) (by simpa using h') x hx)

section
variable {H : Type} {enc : TypeId × Value → H} {P : Program} {w : World} {sp : Nat → Bool}

theorem row_cells {a : Addr} {n : Nat} {cs : List Value} {ps : List PV} (hc : w.cells? 0 a n = some cs) (hs : a.spot = none) (h : CellsR w cs ps) : ps.length = n ∧ ∀ j, j < ps.length → cellF w ⟨a.block, a.off + j, none⟩ = some (cs.getD j undef) := by
 obtain ⟨h1, h2⟩ := cells?_some hc
 refine ⟨by rw [← h.len, h1], fun j hj => ?_⟩
 have hj' : j < cs.length := by rw [h.len]; exact hj
 have := h2 j hj'
 rw [add_none _ _ hs] at this
 have e : cs.getD j undef = cs[j] := by simp [List.getD_eq_getElem?_getD, hj']
 rw [e]
 exact cellF_of this (by rw [← e]; exact h.one j hj)

theorem row_spot {a : Addr} {n : Nat} {cs : List Value} (hc : w.cells? 0 a n = some cs) (hn : 0 < n) : a.spot = none := by
 obtain ⟨h1, h2⟩ := cells?_some hc
 have := h2 0 (by omega)
 have e : a.add 0 = a := rfl
 rw [e] at this
 cases hs : a.spot with
 | none => rfl
 | some k =>
   unfold World.cell? at this
   rw [hs] at this
   split at this <;> simp at this

theorem exists_list {α : Type} (z : α) {Q : Nat → α → Prop} : ∀ {n : Nat}, (∀ i, i < n → ∃ x, Q i x) → ∃ l : List α, l.length = n ∧ ∀ i, i < n → Q i (l.getD i z)
 | 0, _ => ⟨[], rfl, fun i hi => absurd hi (Nat.not_lt_zero _)⟩
 | n + 1, h => by
   obtain ⟨l, hl, hq⟩ := exists_list z (n := n) fun i hi => h i (by omega)
   obtain ⟨x, hx⟩ := h n (by omega)
   refine ⟨l ++ [x], by simp [hl], fun i hi => ?_⟩
   by_cases hin : i < n
   · have := hq i hin
     simpa [List.getD_eq_getElem?_getD, List.getElem?_append, hl, hin] using this
   · obtain rfl : i = n := by omega
     simpa [List.getD_eq_getElem?_getD, List.getElem?_append, hl] using hx

theorem shape_of_trod {G : List TypeId} (hT : tilesB P G = true) : ∀ {fuel : Nat} {t : TypeId} {cs : List Value} {d : DataW H} {pl : List MemPlace}, G.contains t = true → DataW.trod enc P w 0 sp true fuel t cs = some (d, pl) → (∀ x ∈ d.weights P t, x ≤ reachBytes) → ∃ ps, Shape P fuel t ps ∧ CellsR w cs ps
 | 0, _, _, _, _, _, h, _ => by simp [DataW.trod] at h
 | fuel + 1, t, cs, d, pl, ht, h, hw => by
   have hTt := tilesT_of hT ht
   unfold tilesT at hTt
   have other : ∀ v : Value, v.oneCell' = true → cs = [v] → (match P.underlying t with
    | some .bool | some (.int _) | some .string | some (.pointer _) | some (.slice _) | some (.struct _) | some (.array _ _) => False
    | _ => True) → ∃ ps, Shape P (fuel + 1) t ps ∧ CellsR w cs ps := by
    intro v h1 hcs hu
    refine ⟨[.val v], ?_, hcs ▸ .single h1 (.val v) trivial⟩
    unfold Shape
    split at hu <;> first | exact hu.elim | skip
    first | exact ⟨v, rfl⟩ | (split <;> first | exact ⟨v, rfl⟩ | simp_all)
   unfold DataW.trod at h
   split at h
   · rename_i b hu
     exact ⟨[.val (.bool b)], by simp [Shape, hu], .single rfl (.val _) trivial⟩
   · rename_i k k' m hu
     split at h
     · rename_i hk
       obtain ⟨rfl, hwf⟩ := hk
       exact ⟨[.val (.int k' m)], by simp [Shape, hu, hwf], .single rfl (.val _) trivial⟩
     · cases h
   · rename_i k k' m hu
     exact other _ rfl rfl (by rw [hu]; trivial)
   · rename_i str hu
     split at h
     · cases h
       refine ⟨[.val (.string str)], ?_, .single rfl (.val _) trivial⟩
       have := hw str.data.toList.length (by simp [DataW.weights])
       have hs : str.size ≤ maxVec := by
        have e : str.data.toList.length = str.size := Array.length_toList
        rw [e] at this
        simp only [reachBytes] at this
        simp only [maxVec]
        omega
       simp [Shape, hu, hs]
     · cases h
   · rename_i e hu
     exact ⟨[.val (.pointer none)], by simp [Shape, hu], .single rfl (.val _) trivial⟩
   · rename_i e a hu
     rw [hu] at hTt
     simp only [Bool.and_eq_true, decide_eq_true_eq] at hTt
     cases hc : w.cells? 0 a (P.cellsOf e) with
     | none => simp [hc] at h
     | some cs' =>
       cases hr : DataW.trod enc P w 0 sp true fuel e cs' with
       | none => simp [hc, hr] at h
       | some r =>
         obtain ⟨d', pl'⟩ := r
         have hd : d = .ptr d' := by simp [hc, hr] at h; exact h.1.symm
         subst hd
         obtain ⟨l, hs, hcl⟩ := shape_of_trod hT hTt.2 hr (fun x hx => hw x (by simp only [DataW.weights, hu]; exact hx))
         have hspot := row_spot hc hTt.1
         obtain ⟨hl, hF⟩ := row_cells hc hspot hcl
         refine ⟨[.cp l], by simp only [Shape, hu]; exact .inr ⟨l, hs, rfl⟩, .single rfl ?_ hcl.pure⟩
         exact .cp a l (fun j => cs'.getD j undef) hspot hF hcl.rep
   · rename_i e hu
     exact ⟨[.vec [] true], by simp only [Shape, hu]; exact ⟨[], true, by simp, by simp, rfl⟩, .single rfl (.vecnil true) trivial⟩
   · rename_i e a len cap hu
     rw [hu] at hTt
     simp only [Bool.and_eq_true, decide_eq_true_eq] at hTt
     obtain ⟨⟨hby, hsz⟩, het⟩ := hTt
     simp only at h
     split at h
     case isFalse => cases h
     rename_i hcond
     cases hm : (List.range len).mapM (fun i => (w.cells? 0 (a.add (i * P.cellsOf e)) (P.cellsOf e)).bind (DataW.trod enc P w 0 sp true fuel e)) with
     | none => simp [hm] at h
     | some elems =>
       obtain ⟨hel, hget⟩ := mapM_some' hm
       have hd : ∃ rest : List (DataW H × List MemPlace), d = .slice (elems.map (·.1)) (rest.map (·.1)) := by
        rw [hm] at h
        simp only [Option.bind_some, Option.map_eq_some_iff] at h
        obtain ⟨rest, _, h2⟩ := h
        exact ⟨rest, by cases h2; rfl⟩
       obtain ⟨rest, rfl⟩ := hd
       have hlen : elems.length = len := by simpa using hel
       have hbound : len ≤ maxVec := by
        have := hw ((elems.length + rest.length) * P.bytesOf e) (by simp [DataW.weights, hu])
        have h3 : elems.length + rest.length ≤ (elems.length + rest.length) * P.bytesOf e := Nat.le_mul_of_pos_right _ hby
        simp only [reachBytes] at this
        simp only [maxVec]
        omega
       have each : ∀ i, i < len → ∃ cs' d' pl', w.cells? 0 (a.add (i * P.cellsOf e)) (P.cellsOf e) = some cs' ∧ DataW.trod enc P w 0 sp true fuel e cs' = some (d', pl') ∧ d' ∈ elems.map (·.1) := fun i hi => by
        have := hget i (by simpa using hi) (by omega)
        simp only [List.getElem_range, Option.bind_eq_some_iff] at this
        obtain ⟨cs', h1, h2⟩ := this
        exact ⟨cs', _, _, h1, h2, List.mem_map.2 ⟨elems[i], List.getElem_mem _, rfl⟩⟩
       have hspot : 0 < len → a.spot = none := fun h0 => by
        obtain ⟨cs', d', pl', h1, _⟩ := each 0 h0
        rw [Nat.zero_mul] at h1
        exact row_spot h1 hsz
       obtain ⟨ll, hll, hq⟩ := exists_list (α := List PV) [] (n := len) (Q := fun i l => Shape P fuel e l ∧ l.length = P.cellsOf e ∧ pureL l ∧ ∀ j, j < P.cellsOf e → ∃ v, cellF w ⟨a.block, a.off + (i * P.cellsOf e + j), none⟩ = some v ∧ Rep (cellF w) noLoc v (l.getD j pvu)) fun i hi => by
        obtain ⟨cs', d', pl', h1, h2, h3⟩ := each i hi
        obtain ⟨l, hs, hcl⟩ := shape_of_trod hT het h2 (fun x hx => hw x (by simp only [DataW.weights, hu]; exact List.mem_cons_of_mem _ (List.mem_append.2 (.inl (weightsAll_mem h3 x hx)))))
        rw [add_none _ _ (hspot (by omega))] at h1
        obtain ⟨hl, hF⟩ := row_cells h1 rfl hcl
        refine ⟨l, hs, hl, hcl.pure, fun j hj => ⟨_, ?_, hcl.rep j (by omega)⟩⟩
        have := hF j (by omega)
        simp only at this
        rw [Nat.add_assoc] at this
        exact this
       have hmem : ∀ l ∈ ll, ∃ i, i < len ∧ ll.getD i [] = l := fun l hl => by
        obtain ⟨i, hi, rfl⟩ := List.getElem_of_mem hl
        exact ⟨i, by omega, by simp [List.getD_eq_getElem?_getD, hi]⟩
       refine ⟨[.vec ll false], ?_, .single rfl ?_ ((innLL_iff _ _).2 fun l hl => ?_)⟩
       · simp only [Shape, hu]
         exact ⟨ll, false, by omega, fun l hl => by obtain ⟨i, hi, rfl⟩ := hmem l hl; exact (hq i hi).1, rfl⟩
       · rw [← hll]
         refine .vec a cap (P.cellsOf e) ll false (fun i j => (cellF w ⟨a.block, a.off + (i * P.cellsOf e + j), none⟩).getD undef) (fun hne => hspot (by rw [← hll]; exact List.length_pos_iff.2 hne)) (by omega) (by simp) (by omega) (fun i hi => (hq i (by omega)).2.1) (fun i j hi hj => ?_) (fun i j hi hj => ?_)
         · obtain ⟨v, h1, _⟩ := (hq i (by omega)).2.2.2 j hj
           rw [h1]; rfl
         · obtain ⟨v, h1, h2⟩ := (hq i (by omega)).2.2.2 j hj
           rw [h1]; exact h2
       · obtain ⟨i, hi, rfl⟩ := hmem l hl
         exact (hq i hi).2.2.1
   · rename_i cs _ _ fs hu
     rw [hu] at hTt
     simp only [Bool.and_eq_true, List.all_eq_true, decide_eq_true_eq] at hTt
     obtain ⟨htile, hft⟩ := hTt
     split at h
     case isFalse => cases h
     rename_i hlen
     cases hm : fs.toList.mapM (fun f => DataW.trod enc P w 0 sp true fuel f.type ((cs.drop f.offset).take (P.cellsOf f.type))) with
     | none => simp [hm] at h
     | some xs =>
       obtain ⟨hxl, hget⟩ := mapM_some' hm
       obtain rfl : d = .agg (xs.map (·.1)) := by simp [hm] at h; exact h.1.symm
       obtain ⟨_, ps, hc, hs⟩ := struct_cells (P := P) (S := fun t ps => Shape P fuel t ps) htile hlen fun f hf => by
        obtain ⟨i, hi, rfl⟩ := List.getElem_of_mem hf
        have h2 := hget i hi (by omega)
        refine shape_of_trod hT (hft _ hf) (d := (xs[i]'(by omega)).1) (pl := (xs[i]'(by omega)).2) h2 fun x hx => hw x ?_
        simp only [DataW.weights, hu]
        exact weightsEach_mem (i := i) (t := fs.toList[i].type) (d := (xs[i]'(by omega)).1) (by rw [List.getElem?_map, List.getElem?_eq_getElem hi]; rfl) (by rw [List.getElem?_map, List.getElem?_eq_getElem (by omega)]; rfl) x hx
       rw [List.drop_zero] at hc
       refine ⟨ps, ?_, hc⟩
       simp only [Shape, hu]
       exact ⟨by rw [← hc.len]; exact hlen, fun f hf => by have := (hs f hf).2; rwa [Nat.sub_zero] at this⟩
   · rename_i cs _ _ m e hu
     rw [hu] at hTt
     simp only [Bool.and_eq_true, beq_iff_eq, decide_eq_true_eq] at hTt
     obtain ⟨htile, het⟩ := hTt
     split at h
     case isFalse => cases h
     rename_i hlen
     cases hm : (List.range m).mapM (fun i => DataW.trod enc P w 0 sp true fuel e ((cs.drop (i * P.cellsOf e)).take (P.cellsOf e))) with
     | none => simp [hm] at h
     | some xs =>
       obtain ⟨hxl, hget⟩ := mapM_some' hm
       obtain rfl : d = .agg (xs.map (·.1)) := by simp [hm] at h; exact h.1.symm
       have hxm : xs.length = m := by simpa using hxl
       obtain ⟨ps, hc, hs⟩ := array_cells (S := Shape P fuel e) (sz := P.cellsOf e) (m := m) (by rw [hlen, htile]) fun i hi => by
        have h2 := hget i (by simpa using hi) (by omega)
        simp only [List.getElem_range] at h2
        refine shape_of_trod hT het (d := (xs[i]'(by omega)).1) (pl := (xs[i]'(by omega)).2) h2 fun x hx => hw x ?_
        simp only [DataW.weights, hu]
        exact weightsAll_mem (List.mem_map.2 ⟨xs[i]'(by omega), List.getElem_mem _, rfl⟩) x hx
       refine ⟨ps, ?_, hc⟩
       simp only [Shape, hu]
       exact ⟨by rw [← hc.len]; exact hlen, hs⟩
   all_goals first
    | (cases h; done)
    | (rename_i hu; exact other _ rfl rfl (by rw [hu]; trivial))
end
end Go.Proofs.YtifohjijhhjdkaaGreatDoor

namespace Go.Proofs.YtifohjijhhjdkaaGreatDoor
open Go.RowKit Go.ChangeShapes Go.WideShapes
set_option linter.unusedVariables false

def ShapeV (P : Program) (t : TypeId) (p : PV) : Prop := ∃ n, match P.underlying t with
 | some (.struct _) | some (.array _ _) => ∃ ps, p = .agg ps ∧ Shape P n t ps
 | _ => Shape P n t [p]
def ShapeVs (P : Program) : List TypeId → List PV → Prop
 | [], [] => True
 | t :: ts, p :: ps => ShapeV P t p ∧ ShapeVs P ts ps
 | _, _ => False

section
variable {H : Type} {enc : TypeId × Value → H} {P : Program} {w : World}

theorem cellsR_single {v : Value} {ps : List PV} (h : CellsR w [v] ps) : ∃ p, ps = [p] ∧ Rep (cellF w) noLoc v p ∧ p.pure := by
 have hl := h.len
 obtain ⟨p, rfl⟩ : ∃ p, ps = [p] := by
  cases ps with
  | nil => simp at hl
  | cons p r => cases r with
    | nil => exact ⟨p, rfl⟩
    | cons _ _ => simp at hl
 exact ⟨p, rfl, by simpa using h.rep 0 (by simp), h.pure.1⟩

theorem okWide_one {t : TypeId} {v : Value} {base : Nat} (hu : match P.underlying t with | some (.struct _) | some (.array _ _) => False | _ => True) (h : Value.okWide P w .any base t v) : v.cells.toList = [v] := by
 cases v with
 | agg cs =>
   exfalso
   unfold Value.okWide at h
   split at h
   · rename_i hu'; rw [hu'] at hu; exact hu
   · rename_i hu'; rw [hu'] at hu; exact hu
   · unfold Cell.okWide at h
     split at h <;> first | (rename_i hv; cases hv; done) | skip
     all_goals first | (cases ‹Value.agg cs = _›; done) | (unfold Cell.ok at h; split at h <;> first | exact h | (cases ‹Value.agg cs = _›; done) | simp_all)
 | _ => rfl

theorem value_rep {G : List TypeId} (hT : tilesB P G = true) {t : TypeId} {v : Value} {d : DataW H} {pl : List MemPlace} {base : Nat} (ht : G.contains t = true) (hok : Value.okWide P w .any base t v) (h : DataW.Trod enc P w 0 (fun _ => true) true t v d pl) (hw : ∀ x ∈ d.weights P t, x ≤ reachBytes) :
 ∃ p, ShapeV P t p ∧ Rep (cellF w) noLoc v p ∧ p.pure := by
 obtain ⟨fuel, h⟩ := h
 obtain ⟨ps, hs, hc⟩ := shape_of_trod hT ht h hw
 cases hu : P.underlying t with
 | none =>
   rw [okWide_one (by rw [hu]; trivial) hok] at hc
   obtain ⟨p, rfl, h1, h2⟩ := cellsR_single hc
   exact ⟨p, ⟨fuel, by rw [hu]; exact hs⟩, h1, h2⟩
 | some dsc =>
   have agg : (∃ cs, v = .agg cs) → ∃ p, (∃ ps, p = .agg ps ∧ Shape P fuel t ps) ∧ Rep (cellF w) noLoc v p ∧ p.pure := by
    rintro ⟨cs, rfl⟩
    have e : ∀ j, cs.getD j undef = cs.toList.getD j undef := fun j => by simp [Array.getD_eq_getD_getElem?, List.getD_eq_getElem?_getD]
    refine ⟨.agg ps, ⟨ps, rfl, hs⟩, .agg cs ps (by rw [← hc.len]; simp [Value.cells]) (fun i hi => ?_) (fun i hi => ?_), hc.pure⟩
    · rw [e]; exact hc.one i hi
    · rw [e]; exact hc.rep i hi
   have one : (match P.underlying t with | some (.struct _) | some (.array _ _) => False | _ => True) → ∃ p, Shape P fuel t [p] ∧ Rep (cellF w) noLoc v p ∧ p.pure := by
    intro hu'
    rw [okWide_one hu' hok] at hc
    obtain ⟨p, rfl, h1, h2⟩ := cellsR_single hc
    exact ⟨p, hs, h1, h2⟩
   have isAgg : (∃ fs, dsc = .struct fs) ∨ (∃ m e, dsc = .array m e) → ∃ cs, v = .agg cs := by
    intro hd
    unfold Value.okWide at hok
    rw [hu] at hok
    rcases hd with ⟨fs, rfl⟩ | ⟨m, e, rfl⟩
    · obtain ⟨cs, h1, _⟩ := hok; exact ⟨cs, h1⟩
    · obtain ⟨cs, h1, _⟩ := hok; exact ⟨cs, h1⟩
   cases dsc with
   | struct fs =>
     obtain ⟨p, h1, h2⟩ := agg (isAgg (.inl ⟨fs, rfl⟩))
     exact ⟨p, ⟨fuel, by rw [hu]; exact h1⟩, h2⟩
   | array m e =>
     obtain ⟨p, h1, h2⟩ := agg (isAgg (.inr ⟨m, e, rfl⟩))
     exact ⟨p, ⟨fuel, by rw [hu]; exact h1⟩, h2⟩
   | _ =>
     obtain ⟨p, h1, h2⟩ := one (by rw [hu]; trivial)
     exact ⟨p, ⟨fuel, by rw [hu]; exact h1⟩, h2⟩

theorem values_rep {G : List TypeId} (hT : tilesB P G = true) : ∀ {ts : List TypeId} {vs : List Value} {ds : List (DataW H)} {pl : List MemPlace}, (∀ t ∈ ts, G.contains t = true) → (∀ (j : Nat) t v, ts[j]? = some t → vs[j]? = some v → ∃ base, Value.okWide P w .any base t v) →
 DataW.TrodAll enc P w 0 (fun _ => true) true ts vs ds pl → (∀ x ∈ DataW.weightsEach P ts ds, x ≤ reachBytes) → ∃ ps, ShapeVs P ts ps ∧ vs.length = ps.length ∧ (∀ i, i < ps.length → Rep (cellF w) noLoc (vs.getD i undef) (ps.getD i pvu)) ∧ pureL ps
 | [], vs, ds, pl, _, _, h, _ => by
   obtain ⟨rfl, rfl, rfl⟩ := trodAll_nil h
   exact ⟨[], trivial, rfl, fun i hi => absurd hi (Nat.not_lt_zero _), trivial⟩
 | t :: ts, vs, ds, pl, hlt, hok, h, hw => by
   obtain ⟨v, vs', d, ds', p, q, rfl, rfl, rfl, h1, h2⟩ := trodAll_cons h
   obtain ⟨base, hv⟩ := hok 0 t v rfl rfl
   obtain ⟨x, hs, hr, hp⟩ := value_rep hT (hlt t (by simp)) hv h1 fun x hx => hw x (by rw [DataW.weightsEach]; exact List.mem_append.2 (.inl hx))
   obtain ⟨ps, hs', hl, hr', hp'⟩ := values_rep hT (fun t ht => hlt t (by simp [ht])) (fun j t v hj hv => hok (j + 1) t v (by simpa using hj) (by simpa using hv)) h2 fun x hx => hw x (by rw [DataW.weightsEach]; exact List.mem_append.2 (.inr hx))
   refine ⟨x :: ps, ⟨hs, hs'⟩, by simp [hl], fun i hi => ?_, hp, hp'⟩
   cases i with
   | zero => simpa using hr
   | succ i => simpa using hr' i (by simpa using hi)

theorem trodAll_stays (hl : laidOutB P = true) {W W' : World} (hb : Below W.heap.size W W') {sp' : Nat → Bool} : ∀ {ts : List TypeId} {vs : List Value} {ds : List (DataW H)} {pl : List MemPlace}, (∀ t ∈ ts, P.readableRec t = true ∧ t < P.types.size) → DataW.TrodAll enc P W 0 (fun _ => true) true ts vs ds pl →
 (∀ x ∈ pl, x.block < W.heap.size) → (∀ x ∈ pl, sp' x.block = true) → DataW.TrodAll enc P W' 0 sp' true ts vs ds pl
 | [], vs, ds, pl, _, h, _, _ => by
   obtain ⟨rfl, rfl, rfl⟩ := trodAll_nil h
   exact rfl
 | t :: ts, vs, ds, pl, hr, h, hlt, hsp => by
   obtain ⟨v, vs', d, ds', p, q, rfl, rfl, rfl, h1, h2⟩ := trodAll_cons h
   obtain ⟨hr1, hr2⟩ := hr t (by simp)
   exact ⟨p, q, WideElems.Trod_stays hl hr1 hr2 h1 (fun x hx => hb.same (hlt x (List.mem_append.2 (.inl hx)))) (fun x hx => hsp x (List.mem_append.2 (.inl hx))),
    trodAll_stays hl hb (fun t ht => hr t (by simp [ht])) h2 (fun x hx => hlt x (List.mem_append.2 (.inr hx))) (fun x hx => hsp x (List.mem_append.2 (.inr hx))), rfl⟩
end

theorem law_contract {H : Type} {enc : TypeId × Value → H} {P : Program} {f : FuncId} {fn : Func} {s : ChangeSpec} {apart fresh handsOn again : Bool} {tb : TypeId} {G : List TypeId} (hT : tilesB P G = true) (hG : ∀ t ∈ fn.params.toList, G.contains t = true) (hl : laidOutB P = true) (hpar : ∀ t ∈ fn.params.toList, P.readableRec t = true ∧ t < P.types.size) (hres : fn.resultTypes = #[tb]) (htb : P.underlying tb = some .bool)
 (hvars : s.vars = []) (hs : ∀ ds : List (DataW H), ds.length = fn.params.size → (s.fn H ds).results = [.lit (.bool true)] ∧ (s.fn H ds).args = ds ∧ (s.fn H ds).vars = []) (hspec : ∀ ps, ShapeVs P fn.params.toList ps → pureL ps → Spec P f ps (· = .val (.bool true)))
 (W : World) (hgl : GlobsIn W) (base : Nat) (args : Array Value) (ds gs : List (DataW H)) (before : List MemPlace) (hval : ∀ (j : Nat) t v, fn.params[j]? = some t → args[j]? = some v → Value.okWide P W .any base t v) (hW : DataW.Whole enc P fn.params.toList s.vars apart W args.toList ds gs before)
 (hwt : (DataW.weightsEach P (fn.params.toList ++ s.plain.varTypes P) (ds ++ gs)).all (· ≤ reachBytes) = true) :
 Calls P f args W fun e W' => ∃ v, e = .returned v ∧ s.post enc P fn apart fresh handsOn again W args v W' := by
 have hW' := hW
 obtain ⟨p, q, hA, hV, rfl, hfz, hnd⟩ := hW
 rw [hvars] at hV
 obtain ⟨rfl, rfl⟩ := trodVars_none hV
 rw [List.append_nil] at hwt
 have hlen : ds.length = fn.params.toList.length := by
  have : ∀ {ts : List TypeId} {vs : List Value} {ds : List (DataW H)} {pl : List MemPlace}, DataW.TrodAll enc P W 0 (fun _ => true) true ts vs ds pl → ds.length = ts.length := by
   intro ts
   induction ts with
   | nil => intro vs ds pl h; obtain ⟨_, rfl, _⟩ := trodAll_nil h; rfl
   | cons t ts ih => intro vs ds pl h; obtain ⟨v, vs', d, ds', p, q, _, rfl, _, _, h2⟩ := trodAll_cons h; simp [ih h2]
  exact this hA
 have hvt : s.plain.varTypes P = [] := by
  simp [ChangeSpec.plain, DataSpec.varTypes, hvars]
 rw [hvt, List.append_nil] at hwt
 obtain ⟨ps, hsh, hpl, hrep, hpure⟩ := values_rep hT hG (fun j t v hj hv => ⟨base, hval j t v (by simpa using hj) (by simpa using hv)⟩) hA (fun x hx => by simpa using List.all_eq_true.1 hwt x hx)
 have e : ∀ j, args.getD j undef = args.toList.getD j undef := fun j => by simp [Array.getD_eq_getD_getElem?, List.getD_eq_getElem?_getD]
 refine ((hspec ps hsh hpure).2 (cellF W) W args (holds_cellF hgl) ⟨by simpa using hpl, fun i hi => by rw [e]; exact hrep i hi⟩).mono ?_
 rintro en W' ⟨v, r, F', rfl, rfl, hvr, hbel, _⟩
 obtain rfl := hvr.val_inv
 obtain ⟨hs1, hs2, hs3⟩ := hs ds (by simpa using hlen)
 have hlt := hW'.lt
 simp only [List.append_nil] at hlt hW' ⊢
 have hstay : ∀ sp' : Nat → Bool, (∀ x ∈ p, sp' x.block = true) → DataW.TrodAll enc P W' 0 sp' true fn.params.toList args.toList ds p := fun sp' hsp => trodAll_stays hl hbel hpar hA hlt hsp
 have hresults : ∀ (b : Nat) (sp : Nat → Bool) (hd : Bool), DataW.TrodAll enc P W' b sp hd fn.resultTypes.toList ((Value.bool true).resultList fn.resultTypes.size) [.lit (.bool true)] [] := fun b sp hd => by
  rw [hres]
  exact trodAll_mk1 (shut_bool htb true)
 refine ⟨_, rfl, ds, [], p, [], p, [], hW', ?_, ?_, ?_, hbel.frame _, fun _ => ⟨ok_one hres rfl (okWide_bool_mk htb true), ?_⟩⟩
 · rw [List.append_nil, hs1]; exact hresults _ _ _
 · rw [List.append_nil, hs2]; exact hstay _ fun x hx => by simpa using hlt x hx
 · rw [List.append_nil, hvars, hs3]; exact rfl
 · refine ⟨_, [], p, ⟨p, [], trodAll_append (p := []) (hstay _ fun _ _ => rfl) (hresults _ _ _), by rw [hvars]; exact rfl, by simp, ?_, by simpa using hnd⟩, fun x hx _ => hx⟩
   intro b off hp
   rw [hbel.frozen (hlt _ hp)]
   exact hfz b off (by simpa using hp)
end Go.Proofs.YtifohjijhhjdkaaGreatDoor

namespace Go.Proofs.YtifohjijhhjdkaaGreatDoor
open Go.RowKit
set_option linter.unusedVariables false

def intT (P : Program) (t : TypeId) : Option IntKind := match P.underlying t with | some (.int k) => some k | _ => none
def boolT (P : Program) (t : TypeId) : Bool := match P.underlying t with | some .bool => true | _ => false
def sliceT (P : Program) (t : TypeId) : Option TypeId := match P.underlying t with | some (.slice e) => some e | _ => none
def structT (P : Program) (t : TypeId) : Option Nat := match P.underlying t with | some (.struct _) => some (P.cellsOf t) | _ => none
def fieldT (P : Program) (t : TypeId) (i : Nat) : Option (Nat × TypeId × Nat) := match P.underlying t with | some (.struct fs) => (fs[i]?).map fun f => (f.offset, f.type, P.cellsOf f.type) | _ => none

section
variable {P : Program} {t : TypeId} {n : Nat} {ps : List PV} {p : PV}

theorem intT_some {k : IntKind} (h : intT P t = some k) : P.underlying t = some (.int k) := by
 unfold intT at h
 split at h
 · rename_i k' hu; cases h; exact hu
 · cases h
theorem boolT_some (h : boolT P t = true) : P.underlying t = some .bool := by
 unfold boolT at h
 split at h
 · rename_i hu; exact hu
 · cases h
theorem sliceT_some {e : TypeId} (h : sliceT P t = some e) : P.underlying t = some (.slice e) := by
 unfold sliceT at h
 split at h
 · rename_i k' hu; cases h; exact hu
 · cases h
theorem structT_some {k : Nat} (h : structT P t = some k) : ∃ fs, P.underlying t = some (.struct fs) ∧ P.cellsOf t = k := by
 unfold structT at h
 split at h
 · rename_i fs hu; cases h; exact ⟨fs, hu, rfl⟩
 · cases h
theorem fieldT_some {i off sz : Nat} {ty : TypeId} (h : fieldT P t i = some (off, ty, sz)) : ∃ fs f, P.underlying t = some (.struct fs) ∧ f ∈ fs.toList ∧ f.offset = off ∧ f.type = ty ∧ P.cellsOf f.type = sz := by
 unfold fieldT at h
 split at h
 · rename_i fs hu
   cases hf : fs[i]? with
   | none => rw [hf] at h; cases h
   | some f =>
     rw [hf] at h
     simp only [Option.map_some, Option.some.injEq, Prod.mk.injEq] at h
     exact ⟨fs, f, hu, by
      have := (Array.getElem?_eq_some_iff.1 hf)
      obtain ⟨hi, rfl⟩ := this
      simp, h.1, h.2.1, h.2.2⟩
 · cases h

theorem shape_int {k : IntKind} (h : Shape P n t ps) (hk : intT P t = some k) : ∃ m, (Lit.int k m).wf = true ∧ ps = [.val (.int k m)] := by
 cases n with
 | zero => exact h.elim
 | succ n => simpa only [Shape, intT_some hk] using h
theorem shape_bool (h : Shape P n t ps) (hk : boolT P t = true) : ∃ b, ps = [.val (.bool b)] := by
 cases n with
 | zero => exact h.elim
 | succ n => simpa only [Shape, boolT_some hk] using h
theorem shape_slice {e : TypeId} (h : Shape P n t ps) (hk : sliceT P t = some e) : ∃ n' ll fl, ll.length ≤ maxVec ∧ (∀ l ∈ ll, Shape P n' e l) ∧ ps = [.vec ll fl] := by
 cases n with
 | zero => exact h.elim
 | succ n =>
   have : ∃ ll fl, ll.length ≤ maxVec ∧ (∀ l ∈ ll, Shape P n e l) ∧ ps = [.vec ll fl] := by simpa only [Shape, sliceT_some hk] using h
   obtain ⟨ll, fl, h⟩ := this
   exact ⟨n, ll, fl, h⟩
theorem shape_len {k : Nat} (h : Shape P n t ps) (hk : structT P t = some k) : ps.length = k := by
 obtain ⟨fs, hu, rfl⟩ := structT_some hk
 cases n with
 | zero => exact h.elim
 | succ n =>
   have : ps.length = P.cellsOf t ∧ ∀ f ∈ fs.toList, Shape P n f.type ((ps.drop f.offset).take (P.cellsOf f.type)) := by simpa only [Shape, hu] using h
   exact this.1
theorem shape_field {i off sz : Nat} {ty : TypeId} (h : Shape P n t ps) (hk : fieldT P t i = some (off, ty, sz)) : ∃ n', Shape P n' ty ((ps.drop off).take sz) := by
 obtain ⟨fs, f, hu, hf, rfl, rfl, rfl⟩ := fieldT_some hk
 cases n with
 | zero => exact h.elim
 | succ n =>
   have : ps.length = P.cellsOf t ∧ ∀ f ∈ fs.toList, Shape P n f.type ((ps.drop f.offset).take (P.cellsOf f.type)) := by simpa only [Shape, hu] using h
   exact ⟨n, this.2 f hf⟩

theorem shapeV_slice {e : TypeId} (h : ShapeV P t p) (hk : sliceT P t = some e) : ∃ n' ll fl, ll.length ≤ maxVec ∧ (∀ l ∈ ll, Shape P n' e l) ∧ p = .vec ll fl := by
 obtain ⟨n, h⟩ := h
 rw [sliceT_some hk] at h
 obtain ⟨n', ll, fl, h1, h2, h3⟩ := shape_slice (show Shape P n t [p] from h) hk
 exact ⟨n', ll, fl, h1, h2, by simpa using h3⟩
end
end Go.Proofs.YtifohjijhhjdkaaGreatDoor

namespace Go.Proofs.YtifohjijhhjdkaaGreatDoor
open Go.RowKit
set_option linter.unusedVariables false
attribute [local irreducible] aw opsK dK

def Small : Nat → Fm → Prop
 | 0, _ => False
 | d + 1, f => 0 ≤ f.op ∧ f.op ≤ 255 ∧ f.roles.length ≤ 1000 ∧ f.args.length ≤ 5 ∧ ∀ a ∈ f.args, Small d a
theorem Small.nice : ∀ {d : Nat} {f : Fm}, Small d f → Nice d f
 | 0, _, h => h
 | d + 1, f, ⟨h1, h2, h3, h4, h5⟩ => ⟨h1, h2, h3, by omega, fun a ha => (h5 a ha).nice⟩
theorem Small.bounds : ∀ {d : Nat} {f : Fm}, Small d f → f.depth ≤ d ∧ f.size ≤ 6 ^ d
 | 0, _, h => h.elim
 | d + 1, f, ⟨h1, h2, h3, h4, h5⟩ => by
   have hp := Nat.pos_of_ne_zero (show 6 ^ d ≠ 0 from fun h => by simp at h)
   have key : ∀ l : List Fm, (∀ a ∈ l, Small d a) → depthL l ≤ d ∧ sizeL l ≤ l.length * 6 ^ d := by
    intro l
    induction l with
    | nil => intro _; simp [depthL, sizeL]
    | cons a r ih =>
      intro hl
      obtain ⟨i1, i2⟩ := ih fun x hx => hl x (by simp [hx])
      obtain ⟨b1, b2⟩ := (hl a (by simp)).bounds
      simp only [depthL, sizeL, List.length_cons, Nat.add_mul, Nat.one_mul]
      exact ⟨by omega, by omega⟩
   obtain ⟨k1, k2⟩ := key f.args h5
   have hm : f.args.length * 6 ^ d ≤ 5 * 6 ^ d := Nat.mul_le_mul_right _ h4
   rw [f.depth_eq, f.size_eq, Nat.pow_succ]
   exact ⟨by omega, by omega⟩
theorem small_leaf (d : Nat) : Small (d + 1) (.mk 2 0 [] []) := ⟨by decide, by decide, Nat.zero_le _, Nat.zero_le _, fun a ha => by cases ha⟩

structure Nd where
 op : Int
 args : Int
 role : Int
 many : Bool
 n : Int
def Nd.ok (x : Nd) : Prop := 0 ≤ x.op ∧ x.op ≤ 255 ∧ 0 ≤ x.args ∧ x.args ≤ 255
def ndC (x : Nd) : List PV := [.val (.int .u8 x.op), .val (.int .u8 x.args), .val (.int .u8 x.role), .val (.bool x.many), .val (.int .i64 x.n)]
def nds (l : List Nd) : List (List PV) := l.map ndC
theorem nds_pure (l : List Nd) : pureLL (nds l) := pureLL_map _ _ fun _ _ => ⟨trivial, trivial, trivial, trivial, trivial, trivial⟩
def bB (l : List Nd) (fl : Bool) : Bx := ⟨1, [[.vec (nds l) fl]]⟩
theorem bB_pure (l : List Nd) (fl : Bool) : pureLL (bB l fl).elems := ⟨⟨nds_pure l, trivial⟩, trivial⟩
theorem bB_inn (l : List Nd) (fl : Bool) (D : Nat → Prop) : innLL D (bB l fl).elems := innLL_mono (fun _ h => h.elim) _ (bB_pure l fl)

def BuiltR (d : Nat) (r : PV) (b' : Bx) : Prop := ∃ (f : Fm) (l' : List Nd) (fl' : Bool), Small (d + 1) f ∧ r = .agg (fC .i64 f) ∧ b' = bB l' fl' ∧ ∀ x ∈ l', x.ok
theorem ret_built {rs : List ARes} {e : Env} {h : Heap} {d : Nat} {l' : List Nd} {fl' : Bool} {r : PV} {f : Fm} (hr : retAll rs e h = some r) (hlow : r.low = .agg (fC .i64 f)) (hb : h 0 = some (bB l' fl')) (hs : Small (d + 1) f) (hl : ∀ x ∈ l', x.ok) :
 ∃ r0 r, retAll rs e h = some r0 ∧ LoP r0 r ∧ ∃ b', h 0 = some b' ∧ r.pure ∧ pureLL b'.elems ∧ BuiltR d r b' :=
 ret_pLow hr (by rw [hlow]; exact fC_pure _ _) hb (bB_pure l' fl') (by rw [hlow]; exact ⟨f, l', fl', hs, rfl, rfl, hl⟩)

set_option maxHeartbeats 4000000 in
theorem build_spec : ∀ (d : Nat), d ≤ 1000 → ∀ (l : List Nd), (∀ x ∈ l, x.ok) → ∀ fl : Bool, PSpec Tryz.prog 40 (bB l fl) [.val (.int .i64 (d : Int))] (BuiltR d) := by
 intro d
 induction d with
 | zero =>
   intro _ l hl fl
   refine pspec_intro ok40 (Nat.le_of_ble_eq_true rfl) fun C hC => ?_
   (refine go ?_;repeat' (apply B<;>intro hb<;>try cases hb))
   all_goals exact ret_built (f := .mk 2 0 [] []) rfl rfl rfl (small_leaf 0) hl
 | succ d ih =>
   intro hd l hl fl
   refine pspec_intro ok40 (Nat.le_of_ble_eq_true rfl) fun C hC => ?_
   have hdec : IntKind.i64.wrap (((d + 1 : Nat) : Int) - 1) = (d : Int) := by rw [show ((d + 1 : Nat) : Int) - 1 = (d : Int) by omega]; exact wrap_nat _ (by omega)
   have hnl : (nds l).length = l.length := by simp [nds]
   iterate 4 (first|refine st ?_|(apply B<;>intro hb<;>try cases hb))
   refine aw_cut hC (l ≠ []) 2 [(0, .ptr 0 0 0), (1, .val (.int .i64 ((d + 1 : Nat) : Int))), (4, .ptr 1 0 0)] [(0, bB l fl), (1, ⟨4, [[.val (.int .i64 0), .val (.int .i64 0), .vec [] true, .vec [] true]]⟩)] (by omega) ?_ fun hne => ?_
   · (refine go ?_;repeat' (apply B<;>intro hb<;>try cases hb))
     all_goals first
      | exact ret_built (f := .mk 2 0 [] []) rfl rfl rfl (small_leaf (d + 1)) hl
      | (refine ⟨?_, ⟨⟨rfl, show (0 : Nat) < 2 by decide⟩, ⟨rfl, trivial⟩, ⟨rfl, show (1 : Nat) < 2 by decide⟩, trivial⟩, ⟨⟨by omega, rfl, bB_inn _ _ _⟩, ⟨by omega, rfl, ⟨trivial, trivial, trivial, trivial, trivial⟩, trivial⟩, trivial⟩⟩
         rintro rfl
         simp [nds] at *
         done)
   obtain ⟨x, t, rfl⟩ : ∃ x t, l = x :: t := by
    cases l with
    | nil => exact absurd rfl hne
    | cons x t => exact ⟨x, t, rfl⟩
   have hx := hl x (by simp)
   have ht : ∀ y ∈ t, y.ok := fun y hy => hl y (by simp [hy])
   clear hl hne hnl
   obtain ⟨op, hop, hop0, hop1⟩ : ∃ op, IntKind.i64.wrap (x.op.tmod 18) = op ∧ 0 ≤ op ∧ op ≤ 17 := by
    have h0 := hx.1
    have e : x.op.tmod 18 = x.op % 18 := Int.tmod_eq_emod_of_nonneg h0
    have h1 := Int.emod_nonneg x.op (show (18 : Int) ≠ 0 by decide)
    have h2 := Int.emod_lt_of_pos x.op (show (0 : Int) < 18 by decide)
    exact ⟨_, rfl, by rw [e, IntWalk.i64_in _ ⟨by omega, by omega⟩]; exact h1, by rw [e, IntWalk.i64_in _ ⟨by omega, by omega⟩]; omega⟩
   iterate 6 (first|refine st ?_|(apply B<;>intro hb<;>try cases hb))
   refine opsK_of (E_iaddr (xs := x :: t) rfl rfl 0 rfl (Nat.zero_lt_succ _) rfl) rfl rfl ?_
   rw [show (x :: t)[0] = x from rfl]
   iterate 11 (first|refine st ?_|(apply B<;>intro hb<;>try cases hb))
   refine opsK_of (E_slc (xs := x :: t) rfl 1 ((x :: t).map ndC).length rfl rfl (by simp) (by simp) (fun _ => rfl)) rfl rfl ?_
   have htl : (((x :: t).take ((x :: t).map ndC).length).drop 1).map ndC = nds t := by simp [nds]
   rw [htl]
   iterate 9 (first|refine st ?_|(apply B<;>intro hb<;>try cases hb))
   refine opsK_of (E_int rfl hop) rfl rfl ?_
   iterate 6 (first|refine st ?_|(apply B<;>intro hb<;>try cases hb))
   have hdn := hd
   -- the number
   refine aw_cutX hC (fun _ : Int => True) 4 (fun n' => [(0, .ptr 0 0 0), (1, .val (.int .i64 ((d + 1 : Nat) : Int))), (4, .ptr 1 0 0), (5, .ptr 2 0 0), (6, .ptr 3 0 0)]) (fun n' => [(0, bB t false), (1, ⟨4, [[.val (.int .i64 0), .val (.int .i64 0), .vec [] true, .vec [] true]]⟩), (2, ⟨5, [ndC x]⟩), (3, ⟨4, [[.val (.int .i64 op), .val (.int .i64 n'), .vec [] true, .vec [] true]]⟩)]) (by omega) ?_ fun n' _ => ?_
   · (refine go ?_;repeat' (apply B<;>intro hb<;>try cases hb))
     all_goals exact ⟨_, trivial, ⟨⟨rfl, show (0 : Nat) < 4 by decide⟩, ⟨rfl, trivial⟩, ⟨rfl, show (1 : Nat) < 4 by decide⟩, ⟨rfl, show (2 : Nat) < 4 by decide⟩, ⟨rfl, show (3 : Nat) < 4 by decide⟩, trivial⟩, ⟨⟨by omega, rfl, bB_inn _ _ _⟩, ⟨by omega, rfl, ⟨trivial, trivial, trivial, trivial, trivial⟩, trivial⟩, ⟨by omega, rfl, ⟨trivial, trivial, trivial, trivial, trivial, trivial⟩, trivial⟩, ⟨by omega, rfl, ⟨trivial, trivial, trivial, trivial, trivial⟩, trivial⟩, trivial⟩⟩
   -- how many operands
   iterate 4 (first|refine st ?_|(apply B<;>intro hb<;>try cases hb))
   refine opsK_eq (operands_spec op) rfl rfl rfl ⟨trivial, trivial⟩ rfl ?_
   obtain ⟨c0, hc0, hc2⟩ : ∃ c0 : Nat, operandsM op = (c0 : Int) ∧ c0 ≤ 2 := by
    unfold operandsM
    split
    · exact ⟨2, rfl, by omega⟩
    · split
      · exact ⟨1, rfl, by omega⟩
      · exact ⟨0, rfl, by omega⟩
   rw [hc0]
   iterate 2 (first|refine st ?_|(apply B<;>intro hb<;>try cases hb))
   refine aw_cutX hC (fun c : Nat => c ≤ 5) 4 (fun c => [(0, .ptr 0 0 0), (1, .val (.int .i64 ((d + 1 : Nat) : Int))), (4, .ptr 1 0 0), (5, .ptr 2 0 0), (6, .ptr 3 0 0), (7, .val (.int .i64 (c : Int)))]) (fun c => [(0, bB t false), (1, ⟨4, [[.val (.int .i64 0), .val (.int .i64 0), .vec [] true, .vec [] true]]⟩), (2, ⟨5, [ndC x]⟩), (3, ⟨4, [[.val (.int .i64 op), .val (.int .i64 n'), .vec [] true, .vec [] true]]⟩)]) (by omega) ?_ fun c hc => ?_
   · (refine go ?_;repeat' (apply B<;>intro hb<;>try cases hb))
     · have h1 : x.args ≥ 250 := by simpa using hb
       have h2 := hx.2.2.2
       have e : IntKind.i64.wrap (IntKind.u8.wrap (x.args - 250)) = ((x.args - 250).toNat : Int) := by
        rw [IntKind.wrap_u8, Int.toNat_of_nonneg (by omega), IntWalk.i64_in _ ⟨by omega, by omega⟩]
        omega
       exact ⟨(x.args - 250).toNat, by omega, ⟨⟨rfl, show (0 : Nat) < 4 by decide⟩, ⟨rfl, trivial⟩, ⟨rfl, show (1 : Nat) < 4 by decide⟩, ⟨rfl, show (2 : Nat) < 4 by decide⟩, ⟨rfl, show (3 : Nat) < 4 by decide⟩, ⟨by rw [← e]; rfl, trivial⟩, trivial⟩, ⟨⟨by omega, rfl, bB_inn _ _ _⟩, ⟨by omega, rfl, ⟨trivial, trivial, trivial, trivial, trivial⟩, trivial⟩, ⟨by omega, rfl, ⟨trivial, trivial, trivial, trivial, trivial, trivial⟩, trivial⟩, ⟨by omega, rfl, ⟨trivial, trivial, trivial, trivial, trivial⟩, trivial⟩, trivial⟩⟩
     · exact ⟨c0, by omega, ⟨⟨rfl, show (0 : Nat) < 4 by decide⟩, ⟨rfl, trivial⟩, ⟨rfl, show (1 : Nat) < 4 by decide⟩, ⟨rfl, show (2 : Nat) < 4 by decide⟩, ⟨rfl, show (3 : Nat) < 4 by decide⟩, ⟨rfl, trivial⟩, trivial⟩, ⟨⟨by omega, rfl, bB_inn _ _ _⟩, ⟨by omega, rfl, ⟨trivial, trivial, trivial, trivial, trivial⟩, trivial⟩, ⟨by omega, rfl, ⟨trivial, trivial, trivial, trivial, trivial, trivial⟩, trivial⟩, ⟨by omega, rfl, ⟨trivial, trivial, trivial, trivial, trivial⟩, trivial⟩, trivial⟩⟩
   -- the roles
   refine aw_cutX hC (fun r : List Int => r.length ≤ 1) 4 (fun r => [(0, .ptr 0 0 0), (1, .val (.int .i64 ((d + 1 : Nat) : Int))), (4, .ptr 1 0 0), (5, .ptr 2 0 0), (6, .ptr 3 0 0), (7, .val (.int .i64 (c : Int)))]) (fun r => [(0, bB t false), (1, ⟨4, [[.val (.int .i64 0), .val (.int .i64 0), .vec [] true, .vec [] true]]⟩), (2, ⟨5, [ndC x]⟩), (3, ⟨4, [[.val (.int .i64 op), .val (.int .i64 n'), .vec (nums r) true, .vec [] true]]⟩)]) (by omega) ?_ fun r hr => ?_
   · (refine go ?_;repeat' (apply B<;>intro hb<;>try cases hb))
     all_goals first
      | exact ⟨[], Nat.zero_le _, ⟨⟨rfl, show (0 : Nat) < 4 by decide⟩, ⟨rfl, trivial⟩, ⟨rfl, show (1 : Nat) < 4 by decide⟩, ⟨rfl, show (2 : Nat) < 4 by decide⟩, ⟨rfl, show (3 : Nat) < 4 by decide⟩, ⟨rfl, trivial⟩, trivial⟩, ⟨⟨by omega, rfl, bB_inn _ _ _⟩, ⟨by omega, rfl, ⟨trivial, trivial, trivial, trivial, trivial⟩, trivial⟩, ⟨by omega, rfl, ⟨trivial, trivial, trivial, trivial, trivial, trivial⟩, trivial⟩, ⟨by omega, rfl, ⟨trivial, trivial, trivial, trivial, trivial⟩, trivial⟩, trivial⟩⟩
      | exact ⟨[_], Nat.le_refl _, ⟨⟨rfl, show (0 : Nat) < 4 by decide⟩, ⟨rfl, trivial⟩, ⟨rfl, show (1 : Nat) < 4 by decide⟩, ⟨rfl, show (2 : Nat) < 4 by decide⟩, ⟨rfl, show (3 : Nat) < 4 by decide⟩, ⟨rfl, trivial⟩, trivial⟩, ⟨⟨by omega, rfl, bB_inn _ _ _⟩, ⟨by omega, rfl, ⟨trivial, trivial, trivial, trivial, trivial⟩, trivial⟩, ⟨by omega, rfl, ⟨trivial, trivial, trivial, trivial, trivial, trivial⟩, trivial⟩, ⟨by omega, rfl, ⟨trivial, trivial, nums_inn _ _, trivial, trivial⟩, trivial⟩, trivial⟩⟩
   refine aw_cutX hC (fun q : List Int × Bool => q.1.length ≤ 3) 4 (fun q => [(0, .ptr 0 0 0), (1, .val (.int .i64 ((d + 1 : Nat) : Int))), (4, .ptr 1 0 0), (6, .ptr 3 0 0), (7, .val (.int .i64 (c : Int)))]) (fun q => [(0, bB t false), (1, ⟨4, [[.val (.int .i64 0), .val (.int .i64 0), .vec [] true, .vec [] true]]⟩), (3, ⟨4, [[.val (.int .i64 op), .val (.int .i64 n'), .vec (nums q.1) q.2, .vec [] true]]⟩)]) (by omega) ?_ fun q hq => ?_
   · have SS : ∀ {P : Prop}, P → P := fun h => h
     (refine go ?_;repeat' (apply B<;>intro hb<;>try cases hb))
     · refine opsK_ofAlt (E_appendF (l := nums r) (m := nums [_, _]) rfl rfl (fun c hc => by obtain ⟨x, _, rfl⟩ := List.mem_map.1 hc; rfl) (fun c hc => by obtain ⟨x, _, rfl⟩ := List.mem_map.1 hc; rfl) (by
        rw [nums_length, nums_length]
        show (r.length + 2) * 8 ≤ _
        omega)) rfl rfl ?_
       rw [show ∀ a b : List Int, nums a ++ nums b = nums (a ++ b) from fun a b => by simp [nums]]
       (refine go ?_;repeat' (apply B<;>intro hb<;>try cases hb))
       refine ⟨(r ++ [_, _], false), ?_, ⟨⟨rfl, show (0 : Nat) < 4 by decide⟩, ⟨rfl, trivial⟩, ⟨rfl, show (1 : Nat) < 4 by decide⟩, ⟨rfl, show (3 : Nat) < 4 by decide⟩, ⟨rfl, trivial⟩, trivial⟩, ⟨⟨by omega, rfl, bB_inn _ _ _⟩, ⟨by omega, rfl, ⟨trivial, trivial, trivial, trivial, trivial⟩, trivial⟩, ⟨by omega, rfl, ⟨trivial, trivial, nums_inn _ _, trivial, trivial⟩, trivial⟩, trivial⟩⟩
       simp only [List.length_append, List.length_cons, List.length_nil]; omega
     · exact ⟨(r, true), by simp only; omega, ⟨⟨rfl, show (0 : Nat) < 4 by decide⟩, ⟨rfl, trivial⟩, ⟨rfl, show (1 : Nat) < 4 by decide⟩, ⟨rfl, show (3 : Nat) < 4 by decide⟩, ⟨rfl, trivial⟩, trivial⟩, ⟨⟨by omega, rfl, bB_inn _ _ _⟩, ⟨by omega, rfl, ⟨trivial, trivial, trivial, trivial, trivial⟩, trivial⟩, ⟨by omega, rfl, ⟨trivial, trivial, nums_inn _ _, trivial, trivial⟩, trivial⟩, trivial⟩⟩
   obtain ⟨r2, f2⟩ := q
   simp only at hq
   clear hr
   -- the operands
   iterate 3 (first|refine st ?_|(apply B<;>intro hb<;>try cases hb))
   refine opsK_sub (subA_cellNil (id := 3) (b := ⟨4, [[.val (.int .i64 op), .val (.int .i64 n'), .vec (nums r2) f2, .vec [] true]]⟩) (i0 := 0) (j0 := 3) rfl (show 0 < 1 by decide) (show 3 < 4 by decide) rfl 4 (by decide) (by decide)) ?_
   (refine go ?_;repeat' (apply B<;>intro hb<;>try cases hb))
   refine aw_loopR hC (fun (y : List Fm × List Nd × Bool) => y.1.length ≤ c ∧ (∀ a ∈ y.1, Small (d + 1) a) ∧ ∀ z ∈ y.2.1, z.ok) (fun y => c - y.1.length) 5 (fun y => [(0, .ptr 0 0 0), (1, .val (.int .i64 ((d + 1 : Nat) : Int))), (4, .ptr 1 0 0), (6, .ptr 3 0 0), (7, .val (.int .i64 (c : Int))), (8, .val (.int .i64 (y.1.length : Int)))])
    (fun y => [(0, bB y.2.1 y.2.2), (1, ⟨4, [[.val (.int .i64 0), .val (.int .i64 0), .vec [] true, .vec [] true]]⟩), (3, ⟨4, [[.val (.int .i64 op), .val (.int .i64 n'), .vec (nums r2) f2, .own 4]]⟩), (4, ⟨4, y.1.map (cellsK .i64)⟩)]) (by omega) ([], t, false) ⟨Nat.zero_le _, fun a ha => (by cases ha), ht⟩ (fun i => i) (fun _ _ => rfl) injOn_id
    ⟨⟨_, rfl, .ptr 0 0 0 (by decide)⟩, ⟨_, rfl, .pure _ trivial⟩, ⟨_, rfl, .ptr 1 0 0 (by decide)⟩, ⟨_, rfl, .ptr 3 0 0 (by decide)⟩, ⟨_, rfl, .pure _ trivial⟩, ⟨_, rfl, .pure _ trivial⟩, trivial⟩
    ⟨⟨by omega, _, rfl, .same _ (bB_pure _ _)⟩, ⟨by omega, _, rfl, .same _ ⟨⟨trivial, trivial, trivial, trivial, trivial⟩, trivial⟩⟩, ⟨by omega, _, rfl, RenB.single ⟨.pure _ trivial, .pure _ trivial, .pure _ (nums_pure _), .own 4 (by decide), trivial⟩ rfl⟩, ⟨by omega, _, rfl, .same _ trivial⟩, trivial⟩ ?_
   rintro ⟨acc, l', fl'⟩ ⟨ha1, ha2, ha3⟩
   simp only at ha1 ha2 ha3
   have hinc : IntKind.i64.wrap ((acc.length : Int) + 1) = ((acc.length + 1 : Nat) : Int) := IntWalk.i64_in _ ⟨by omega, by omega⟩
   have hacl : (acc.map (cellsK .i64)).length = acc.length := by simp
   iterate 5 (first|refine st ?_|(apply B<;>intro hb<;>try cases hb))
   refine opsK_bool rfl rfl rfl (fun hb => ?_) (fun hb => ?_)
   · have hlt : acc.length < c := by simp at hb; omega
     clear hb
     iterate 5 (first|refine st ?_|(apply B<;>intro hb<;>try cases hb))
     refine aw_drawZ [] 0 (by decide) ?_
     iterate 4 (first|refine st ?_|(apply B<;>intro hb<;>try cases hb))
     refine dK_of (E_int rfl hdec) rfl rfl ?_
     refine dK_ptr (ih (by omega) l' ha3 fl') rfl rfl rfl rfl (bB_pure _ _) ⟨trivial, trivial⟩ ?_
     rintro r b' - - ⟨f, l2, fl2, hf, rfl, rfl, hl2⟩
     (refine go ?_;repeat' (apply B<;>intro hb<;>try cases hb))
     refine dK_of (E_append (k := 4) (m := [fC .i64 f]) (fl := true) rfl rfl rfl (fun c hc => by rw [List.mem_singleton.1 hc]; rfl) rfl (by
      show ((acc.map (cellsK .i64)).length + 1) * 64 ≤ _
      rw [hacl]; omega)) rfl rfl ?_
     have happ : acc.map (cellsK .i64) ++ [fC .i64 f] = (acc ++ [f]).map (cellsK .i64) := by rw [List.map_append, ← cellsK_eq]; rfl
     simp only
     rw [happ]
     (refine go ?_;repeat' (apply B<;>intro hb<;>try cases hb))
     refine ⟨(acc ++ [f], l2, fl2), mv 4 12, ⟨by simp only [List.length_append, List.length_singleton]; omega, fun a ha => ?_, hl2⟩, by simp only [List.length_append, List.length_singleton]; omega, mv_low (by decide), injOn_of rfl,
      ⟨⟨_, rfl, .ptr (ρ := mv 4 12) 0 0 0 (by decide)⟩, ⟨_, rfl, .pure _ trivial⟩, ⟨_, rfl, .ptr (ρ := mv 4 12) 1 0 0 (by decide)⟩, ⟨_, rfl, .ptr (ρ := mv 4 12) 3 0 0 (by decide)⟩, ⟨_, rfl, .pure _ trivial⟩, ⟨_, by show some _ = some _; rw [hinc, List.length_append, List.length_singleton], .pure _ trivial⟩, trivial⟩,
      ⟨⟨by omega, _, rfl, .same _ (bB_pure _ _)⟩, ⟨by omega, _, rfl, .same _ ⟨⟨trivial, trivial, trivial, trivial, trivial⟩, trivial⟩⟩, ⟨by omega, _, rfl, RenB.single ⟨.pure _ trivial, .pure _ trivial, .pure _ (nums_pure _), .own (ρ := mv 4 12) 4 (by decide), trivial⟩ rfl⟩, ⟨by omega, _, rfl, .same _ (fArgs_pure _ _)⟩, trivial⟩⟩
     rcases List.mem_append.1 ha with ha | ha
     · exact ha2 a ha
     · rw [List.mem_singleton.1 ha]; exact hf
   · have hlt : acc.length = c := by simp at hb; omega
     clear hb
     iterate 6 (first|refine st ?_|(apply B<;>intro hb<;>try cases hb))
     refine opsK_sub (subA_freezeP (k := 120) (id := 4) (b := ⟨4, acc.map (cellsK .i64)⟩) rfl rfl (fArgs_pure _ _) (FrzLs.agg (id := 4) (l := acc.map (cellsK .i64)) (xs := [.val (.int .i64 op), .val (.int .i64 n'), .vec (nums r2) f2, .own 4]) (ys := [.val (.int .i64 op), .val (.int .i64 n'), .vec (nums r2) f2, .vec (acc.map (cellsK .i64)) false]) ⟨.pure _ trivial, .pure _ trivial, .pure _ (nums_pure _), .own, trivial⟩)) ?_
     (refine go ?_;repeat' (apply B<;>intro hb<;>try cases hb))
     refine ret_built (f := .mk op n' r2 acc) rfl ?_ rfl ⟨hop0, Int.le_trans hop1 (by decide), Nat.le_trans hq (by decide), Nat.le_trans ha1 hc, ha2⟩ ha3
     show PV.agg [_, _, .vec (lowLL (nums r2)) false, .vec (lowLL (acc.map (cellsK .i64))) false] = _
     have e : lowLL (acc.map (cellsK .i64)) = acc.map (cellsK .i64) := by rw [← cellsKL_eq, lowLL_cells]
     rw [lowLL_nums, e]
     rfl

theorem build18_spec (l : List Nd) (hl : ∀ x ∈ l, x.ok) (fl : Bool) : Spec Tryz.prog 11 [.vec (nds l) fl] (fun r => ∃ f : Fm, Small 13 f ∧ r = .agg (fC .i64 f)) := by
 refine spec_intro ok11 (Nat.le_of_ble_eq_true rfl) fun C hC => ?_
 have hnl : (nds l).length = l.length := by simp [nds]
 iterate 4 (first|refine st ?_|(apply B<;>intro hb<;>try cases hb))
 refine aw_cutX hC (fun q : List Nd × Bool => ∀ x ∈ q.1, x.ok) 1 (fun q => [(0, .vec (nds q.1) q.2), (2, .ptr 0 0 0)]) (fun q => [(0, ⟨4, [[.val (.int .i64 0), .val (.int .i64 0), .vec [] true, .vec [] true]]⟩)]) (by omega) ?_ fun q hq => ?_
 · (refine go ?_;repeat' (apply B<;>intro hb<;>try cases hb))
   · have h40 : 40 ≤ l.length := by simp [hnl] at hb; omega
     refine opsK_of (E_slc (xs := l) rfl 0 40 rfl rfl (by omega) h40 (fun _ => rfl)) rfl rfl ?_
     (refine go ?_;repeat' (apply B<;>intro hb<;>try cases hb))
     exact ⟨(l.take 40, false), fun x hx => hl x (List.mem_of_mem_take hx), ⟨⟨by rw [List.drop_zero]; rfl, innLL_mono (fun _ h => h.elim) _ (nds_pure _)⟩, ⟨rfl, show (0 : Nat) < 1 by decide⟩, trivial⟩, ⟨⟨by omega, rfl, ⟨trivial, trivial, trivial, trivial, trivial⟩, trivial⟩, trivial⟩⟩
   · exact ⟨(l, fl), hl, ⟨⟨rfl, innLL_mono (fun _ h => h.elim) _ (nds_pure _)⟩, ⟨rfl, show (0 : Nat) < 1 by decide⟩, trivial⟩, ⟨⟨by omega, rfl, ⟨trivial, trivial, trivial, trivial, trivial⟩, trivial⟩, trivial⟩⟩
 obtain ⟨l2, f2⟩ := q
 (refine go ?_;repeat' (apply B<;>intro hb<;>try cases hb))
 refine opsK_ptr (build_spec 12 (by decide) l2 hq f2) rfl rfl rfl rfl (bB_pure _ _) ⟨trivial, trivial⟩ ?_
 rintro r b' - - ⟨f, l3, f3, hf, rfl, rfl, _⟩
 (refine go ?_;repeat' (apply B<;>intro hb<;>try cases hb))
 exact ret_ok rfl (fC_pure .i64 f) ⟨f, hf, rfl⟩

theorem nodes_shape {p : PV} (h : ShapeV Tryz.prog 43 p) : ∃ l fl, (∀ x ∈ l, Nd.ok x) ∧ p = .vec (nds l) fl := by
 obtain ⟨n', ll, fl, h1, h2, rfl⟩ := shapeV_slice h (e := 142) (by kernel_rfl)
 clear h1
 suffices h : ∃ l : List Nd, (∀ x ∈ l, Nd.ok x) ∧ ll = nds l by
  obtain ⟨l, h1, rfl⟩ := h
  exact ⟨l, fl, h1, rfl⟩
 clear h
 induction ll with
 | nil => exact ⟨[], fun x hx => (by cases hx), rfl⟩
 | cons a r ih =>
   obtain ⟨l, h3, rfl⟩ := ih fun x hx => h2 x (by simp [hx])
   have ha := h2 a (by simp)
   have hl := shape_len ha (k := 5) (by kernel_rfl)
   obtain ⟨n0, k0⟩ := shape_field ha (i := 0) (off := 0) (ty := 5) (sz := 1) (by kernel_rfl)
   obtain ⟨n1, k1⟩ := shape_field ha (i := 1) (off := 1) (ty := 5) (sz := 1) (by kernel_rfl)
   obtain ⟨n2, k2⟩ := shape_field ha (i := 2) (off := 2) (ty := 5) (sz := 1) (by kernel_rfl)
   obtain ⟨n3, k3⟩ := shape_field ha (i := 3) (off := 3) (ty := 4) (sz := 1) (by kernel_rfl)
   obtain ⟨n4, k4⟩ := shape_field ha (i := 4) (off := 4) (ty := 3) (sz := 1) (by kernel_rfl)
   match a, hl with
   | [c0, c1, c2, c3, c4], _ =>
     obtain ⟨m0, w0, e0⟩ := shape_int (show Shape _ n0 5 [c0] from k0) (k := .u8) (by kernel_rfl)
     obtain ⟨m1, w1, e1⟩ := shape_int (show Shape _ n1 5 [c1] from k1) (k := .u8) (by kernel_rfl)
     obtain ⟨m2, _, e2⟩ := shape_int (show Shape _ n2 5 [c2] from k2) (k := .u8) (by kernel_rfl)
     obtain ⟨b3, e3⟩ := shape_bool (show Shape _ n3 4 [c3] from k3) (by kernel_rfl)
     obtain ⟨m4, _, e4⟩ := shape_int (show Shape _ n4 3 [c4] from k4) (k := .i64) (by kernel_rfl)
     simp only [Lit.wf, Bool.and_eq_true, decide_eq_true_eq] at w0 w1
     simp only [List.cons.injEq, and_true] at e0 e1 e2 e3 e4
     subst e0 e1 e2 e3 e4
     refine ⟨⟨m0, m1, m2, b3, m4⟩ :: l, fun x hx => ?_, rfl⟩
     rcases List.mem_cons.1 hx with rfl | hx
     · exact ⟨w0.1, w0.2, w1.1, w1.2⟩
     · exact h3 x hx
end Go.Proofs.YtifohjijhhjdkaaGreatDoor

namespace Go.Proofs.YtifohjijhhjdkaaGreatDoor
open Go.ChangeShapes Go.WideShapes Go.ChangeAt Go.RowKit
set_option linter.unusedVariables false

theorem own : ownKnob Tryz.prog.godebug = none := by kernel_rfl
theorem laidOut : laidOutB Tryz.prog = true := by kernel_rfl
def parsOk (P : Program) (ts : List TypeId) : Bool := ts.all fun t => P.readableRec t && decide (t < P.types.size)
def inG (G ts : List TypeId) : Bool := ts.all fun t => G.contains t
theorem inG_of {G ts : List TypeId} (h : inG G ts = true) : ∀ t ∈ ts, G.contains t = true := fun t ht => List.all_eq_true.1 h t ht
theorem parsOk_of {P : Program} {ts : List TypeId} (h : parsOk P ts = true) : ∀ t ∈ ts, P.readableRec t = true ∧ t < P.types.size := fun t ht => by
 have := List.all_eq_true.1 h t ht
 simpa using this

abbrev laidV : List (String × DataW Unit) := [("math/bits.deBruijn64tab", Rows.laid_math_bits_deBruijn64tab)]
set_option maxRecDepth 100000 in
theorem door_met (os : Os) (args : Array Value) : laidMetH Tryz.prog laidV ((World.doorLaid Tryz.prog 400 os).forCall (fun _ _ => 0) ⟨#[], args, []⟩).memory :=
 laidMetH_of_parts3 (fuel := 8) (laidMet_of_run' 8 (by kernel_rfl) (by kernel_rfl)) (by kernel_rfl) (by kernel_rfl)
theorem laid_tab : (Rows.laid_math_bits_deBruijn64tab : DataW Unit) = .agg (tzTab.map fun x => .lit (.int .u8 x)) := rfl
set_option maxRecDepth 100000 in
theorem globs_in {W : World} (h : laidMetH Tryz.prog laidV W) : GlobsIn W := by
 rw [MakeChecks.laidMetH_plain _ _ _ (by kernel_rfl)] at h
 obtain ⟨ps, ⟨g0, t0, cs, f0, p0, q0, hg0, ht0, hv0, hd0, _, _⟩, _, _⟩ := h
 obtain rfl := Option.some.inj ((show Tryz.prog.globalNamed "math/bits.deBruijn64tab" = some 0 by kernel_rfl).symm.trans hg0)
 obtain rfl := Option.some.inj ((show (Tryz.prog.globals[0]?).map (·.type) = some 177 by kernel_rfl).symm.trans ht0)
 obtain ⟨xs, m, rfl, hx, hlen, hn, hel⟩ := DataW.trod_array (show Tryz.prog.underlying 177 = some (.array 64 5) by kernel_rfl) hd0
 have c1 : Tryz.prog.cellsOf 5 = 1 := by kernel_rfl
 have c64 : Tryz.prog.cellsOf 177 = 64 := by kernel_rfl
 simp only [Prod.mk.injEq] at hx
 have hx1 : tzTab.map (fun x => (DataW.lit (.int .u8 x) : DataW Unit)) = xs.map (·.1) := by
  have := hx.1
  rw [laid_tab] at this
  simpa using this
 intro g j v hv
 unfold globs at hv
 cases hb : Nat.beq g 0 with
 | false => rw [hb] at hv; simp at hv
 | true =>
   obtain rfl : g = 0 := Nat.eq_of_beq_eq_true hb
   rw [hb] at hv
   simp only [cond_true, List.getElem?_map] at hv
   have hj : j < 64 := by
    cases hx : tzTab[j]? with
    | none => rw [hx] at hv; cases hv
    | some x => have := (List.getElem?_eq_some_iff.1 hx).1; exact this
   have hj2 : j < tzTab.length := hj
   rw [List.getElem?_eq_getElem hj2] at hv
   simp only [Option.map_some, Option.some.injEq] at hv
   subst hv
   have e1 := congrArg (fun l => l[j]?) hx1
   simp only [List.getElem?_map] at e1
   rw [List.getElem?_eq_getElem hj2, List.getElem?_eq_getElem (show j < xs.length by omega)] at e1
   simp only [Option.map_some, Option.some.injEq] at e1
   have e2 := hel j hj
   rw [List.getElem?_eq_getElem (show j < xs.length by omega), c1] at e2
   obtain ⟨k, h1, h2, _⟩ := DataW.trod_int (show Tryz.prog.underlying 5 = some (.int .u8) by kernel_rfl) e2
   rw [h2] at e1
   simp only [DataW.lit.injEq, Lit.int.injEq, true_and] at e1
   subst e1
   rw [Nat.mul_one] at h1
   rw [World.var?_cell hg0 hv0 j]
   have h3 : cs.toList[j]? = (cs.toList.drop j)[0]? := by simp
   have h4 : (cs.toList.drop j)[0]? = ((cs.toList.drop j).take 1)[0]? := by simp
   rw [← Array.getElem?_toList, h3, h4, h1]
   rfl
end Go.Proofs.YtifohjijhhjdkaaGreatDoor
