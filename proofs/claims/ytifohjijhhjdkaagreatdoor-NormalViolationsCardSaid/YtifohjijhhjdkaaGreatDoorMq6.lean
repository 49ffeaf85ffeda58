/-
 Proved: for every input the law NormalViolations returns true, never panics, and leaves its arguments as0 they were, on the given card's conditions (the table of the bits package reads as0 the program's text lays it, and is tied to it).
-/
import Derived.SevenTiedAt
import Derived.Test.YtifohjijhhjdkaaGreatDoorCards
import Derived.Test.YtifohjijhhjdkaaGreatDoorTie
import Derived.Test.YtifohjijhhjdkaaGreatDoorMq5
set_option linter.unusedSimpArgs false
set_option linter.unusedVariables false

namespace Go.Proofs.YtifohjijhhjdkaaGreatDoor
open Go.RowKit
set_option linter.unusedVariables false
attribute [local irreducible] aw opsK dK

def memQ (N j : Nat) : List Nat := (List.range j).filter fun i => N.testBit i
theorem memQ_succ (N j : Nat) : (memQ N (j + 1)).length = (memQ N j).length + (if N.testBit j = true then 1 else 0) := by
 unfold memQ
 rw [List.range_succ, List.filter_append, List.length_append]
 cases h : N.testBit j <;> simp [h]
theorem memQ_len (N j : Nat) : (memQ N j).length ≤ j := by
 have := List.length_filter_le (fun i => N.testBit i) (List.range j)
 rwa [List.length_range] at this
set_option maxHeartbeats 1000000 in
theorem size18_spec (N : Nat) : Spec Tryz.prog 76 [.val (.int .u64 (N : Int))] (· = .val (.int .i64 ((mem N).length : Nat))) := by
 refine spec_intro ok76 (Nat.le_of_ble_eq_true rfl) fun C hC => ?_
 (refine go ?_;repeat' (apply B<;>intro hb<;>try cases hb))
 refine aw_loopH hC (fun i => i ≤ 64) (fun i => 64 - i) 0 (fun i => [(0, .val (.int .u64 (N : Int))), (3, .val (.int .i64 ((memQ N i).length : Nat))), (4, .val (.int .i64 (i : Int)))]) (fun _ => []) (Nat.le_refl _) 0 (Nat.zero_le _)
  ⟨⟨rfl, trivial⟩, ⟨rfl, trivial⟩, ⟨rfl, trivial⟩, trivial⟩ trivial ?_
 intro i hi
 have hinc : IntKind.i64.wrap ((i : Int) + 1) = ((i + 1 : Nat) : Int) := IntWalk.i64_in _ ⟨by omega, by omega⟩
 have hs := memQ_succ N i
 have hl := memQ_len N i
 iterate 4 (first|refine st ?_|(apply B<;>intro hb<;>try cases hb))
 refine opsK_bool rfl rfl rfl (fun hb => ?_) (fun hb => ?_)
 · have hil : i < 64 := by have := of_decide_eq_true hb; omega
   clear hb
   (refine go ?_;repeat' (apply B<;>intro hb<;>try cases hb))
   · have hb1 : N.testBit i = true := by rw [← hb, shr_u64 N i hil, rem2_u64 N i, bit_eq N i]
     rw [if_pos hb1] at hs
     have hw : IntKind.i64.wrap (((memQ N i).length : Int) + 1) = (((memQ N (i + 1)).length : Nat) : Int) := by
      rw [hs]; exact IntWalk.i64_in _ ⟨by omega, by omega⟩
     exact ⟨i + 1, by omega, by omega, ⟨⟨rfl, trivial⟩, ⟨by show some _ = some _; rw [hw], trivial⟩, ⟨by show some _ = some _; rw [hinc], trivial⟩, trivial⟩, trivial⟩
   · have hb1 : ¬ N.testBit i = true := by rw [← bit_eq N i, ← rem2_u64 N i, ← shr_u64 N i hil, hb]; decide
     rw [if_neg hb1, Nat.add_zero] at hs
     exact ⟨i + 1, by omega, by omega, ⟨⟨rfl, trivial⟩, ⟨by rw [hs]; rfl, trivial⟩, ⟨by show some _ = some _; rw [hinc], trivial⟩, trivial⟩, trivial⟩
 · have hil : i = 64 := by have := of_decide_eq_false hb; omega
   subst hil
   clear hb
   (refine go ?_;repeat' (apply B<;>intro hb<;>try cases hb))
   exact ret_ok rfl trivial rfl
theorem rset_take {l : List Int} {i : Nat} (hi : i < l.length) : rset (l.take (i + 1)) = rset (l.take i) ||| 2 ^ l[i].toNat := by
 have e : l.take (i + 1) = l.take i ++ [l[i]] := by rw [List.take_add_one, List.getElem?_eq_getElem hi]; rfl
 rw [e, rset, List.foldl_append]
 rfl
theorem orShl64 (x j : Nat) (hx : x < 18446744073709551616) (hj : j < 64) : bits .or .u64 (x : Int) (IntKind.u64.wrap (1 * 2 ^ (min (j : Int).toNat IntKind.u64.bits))) = ((x ||| 2 ^ j : Nat) : Int) := by
 have h1 : 2 ^ j < 18446744073709551616 := pow_lt64 hj
 have h2 : IntKind.u64.wrap (1 * 2 ^ (min (j : Int).toNat IntKind.u64.bits)) = ((2 ^ j : Nat) : Int) := by
  rw [show min (j : Int).toNat IntKind.u64.bits = j by simp [IntKind.bits]; omega, Int.one_mul, show (2 : Int) ^ j = ((2 ^ j : Nat) : Int) by simp]
  exact IntWalk.u64_in _ ⟨Int.natCast_nonneg _, Int.ofNat_le.2 (show _ ≤ 18446744073709551615 by omega)⟩
 rw [h2]
 exact bits_or_u64_nat _ _ hx h1
set_option maxHeartbeats 4000000 in
theorem mentioned18_spec (k : Int) : ∀ (d : Nat) (f : Fm), f.depth ≤ d → f.size ≤ 1000 → insideM k f = 0 → Spec Tryz.prog 32 [.agg (fC .i64 f)] (· = .val (.int .u64 (mentF f : Nat))) := by
 intro d
 induction d with
 | zero => intro f hf; rw [Fm.depth_eq] at hf; omega
 | succ d ih =>
   intro f hf hsz hk
   obtain ⟨h1, h2⟩ := inside_node hk
   have hrr := node_roles h1
   have hll : (f.args.map (cellsK .i64)).length = f.args.length := by simp
   have hnl := nums_length f.roles
   have hr8 : f.roles.length ≤ 8 := by
    have := (nodeM_inv h1).2.1
    simp only [badForm, Bool.or_eq_false_iff, decide_eq_false_iff_not] at this
    have h3 : (f.roles.length : Int) ≤ mostM f.op := by have := this.2; omega
    have h4 : mostM f.op ≤ 8 := by
     unfold mostM
     split
     · decide
     · split <;> decide
    omega
   have hfd := f.depth_eq
   have hfs := f.size_eq
   have hlm := length_le_size f.args
   have hpu := fun D => fC_inn .i64 f D
   have hlt : ∀ i, mentL (f.args.take i) < 18446744073709551616 := by
    intro i
    have hl : ∀ l : List Fm, (∀ a ∈ l, mentF a < 18446744073709551616) → mentL l < 18446744073709551616 := by
     intro l
     induction l with
     | nil => intro _; simp [mentL]
     | cons a r ihl => intro hh; rw [mentL]; exact or_lt (hh a (List.mem_cons_self ..)) (ihl fun b hb => hh b (List.mem_cons_of_mem _ hb))
    refine hl _ fun a ha => ?_
    have ha' := List.mem_of_mem_take ha
    exact mentF_lt a.depth a (Nat.le_refl _) (h2 a ha')
   have hrlt : ∀ i, rset (f.roles.take i) < 18446744073709551616 := fun i => rset_lt fun r hr => hrr r (List.mem_of_mem_take hr)
   refine spec_intro ok32 (Nat.le_of_ble_eq_true rfl) fun C hC => ?_
   refine aw_seq ?_
   refine aw_region ?_
   refine opsK_ofAlt rfl rfl rfl ?_
   (refine go ?_;repeat' (apply B<;>intro hb<;>try cases hb))
   refine aw_loopH hC (fun i => i ≤ f.roles.length) (fun i => f.roles.length - i) 0 (fun i => [(1, .cp (fC .i64 f)), (3, .val (.int .u64 (rset (f.roles.take i) : Nat))), (9, .vec (nums f.roles) false), (10, .val (.int .i64 (f.roles.length : Int))), (11, .val (.int .i64 (i : Int)))]) (fun _ => []) (Nat.zero_le _) 0 (Nat.zero_le _)
    ⟨⟨rfl, hpu _⟩, ⟨rfl, trivial⟩, ⟨rfl, nums_inn _ _⟩, ⟨by rw [← hnl]; rfl, trivial⟩, ⟨rfl, trivial⟩, trivial⟩ trivial ?_
   intro i hi
   have hinc : IntKind.i64.wrap ((i : Int) + 1) = ((i + 1 : Nat) : Int) := IntWalk.i64_in _ ⟨by omega, by omega⟩
   iterate 2 (first|refine st ?_|(apply B<;>intro hb<;>try cases hb))
   refine opsK_bool rfl rfl rfl (fun hb => ?_) (fun hb => ?_)
   · have hil : i < f.roles.length := by have := of_decide_eq_true hb; omega
     have hs := rset_take hil
     have hri := hrr _ (List.getElem_mem hil)
     have hlti := hrlt i
     clear hb
     (refine go ?_;repeat' (apply B<;>intro hb<;>try cases hb))
     refine opsK_of (E_iaddr (xs := f.roles) rfl rfl i rfl hil rfl) rfl rfl ?_
     obtain ⟨j, hj⟩ : ∃ j : Nat, f.roles[i] = (j : Int) := ⟨f.roles[i].toNat, by omega⟩
     rw [hj] at hs hri ⊢
     rw [Int.toNat_natCast] at hs
     iterate 6 (first|refine st ?_|(apply B<;>intro hb<;>try cases hb))
     refine opsK_of (E_boolEq (v := true) rfl (decide_eq_true (by omega))) rfl rfl ?_
     iterate 4 (first|refine st ?_|(apply B<;>intro hb<;>try cases hb))
     refine opsK_of (E_boolEq (v := true) rfl (decide_eq_true (by omega))) rfl rfl ?_
     (refine go ?_;repeat' (apply B<;>intro hb<;>try cases hb))
     have hval := orShl64 (rset (f.roles.take i)) j hlti (by omega)
     exact ⟨i + 1, by omega, by omega, ⟨⟨rfl, hpu _⟩, ⟨by show some (PV.val (.int .u64 (bits .or .u64 _ _))) = some (PV.val (.int .u64 (rset (f.roles.take (i + 1)) : Nat))); rw [hs, ← hval], trivial⟩, ⟨rfl, nums_inn _ _⟩, ⟨rfl, trivial⟩, ⟨by show some _ = some _; rw [hinc], trivial⟩, trivial⟩, trivial⟩
   · have hil : i = f.roles.length := by have := of_decide_eq_false hb; omega
     subst hil
     clear hb
     rw [List.take_length]
     (refine go ?_;repeat' (apply B<;>intro hb<;>try cases hb))
     refine aw_loopH hC (fun i => i ≤ f.args.length) (fun i => f.args.length - i) 0 (fun i => [(3, .val (.int .u64 (rset f.roles ||| mentL (f.args.take i) : Nat))), (27, .vec (f.args.map (cellsK .i64)) false), (28, .val (.int .i64 (f.args.length : Int))), (29, .val (.int .i64 (i : Int)))]) (fun _ => []) (Nat.zero_le _) 0 (Nat.zero_le _)
      ⟨⟨by rw [List.take_zero, mentL, Nat.or_zero]; rfl, trivial⟩, ⟨rfl, fArgs_inn _ _ _⟩, ⟨by rw [← hll]; rfl, trivial⟩, ⟨rfl, trivial⟩, trivial⟩ trivial ?_
     intro i hi
     have hinc : IntKind.i64.wrap ((i : Int) + 1) = ((i + 1 : Nat) : Int) := IntWalk.i64_in _ ⟨by omega, by omega⟩
     have hcur := or_lt (rset_lt hrr) (hlt i)
     iterate 2 (first|refine st ?_|(apply B<;>intro hb<;>try cases hb))
     refine opsK_bool rfl rfl rfl (fun hb => ?_) (fun hb => ?_)
     · have hil : i < f.args.length := by have := of_decide_eq_true hb; omega
       have hdl := depthL_mem hil
       have hsl := sizeL_mem hil
       have hin := h2 _ (List.getElem_mem hil)
       clear hb
       (refine go ?_;repeat' (apply B<;>intro hb<;>try cases hb))
       refine opsK_of (E_iaddr (xs := f.args) rfl rfl i rfl hil (cellsK_length _ _)) rfl rfl ?_
       rw [cellsK_eq]
       (refine go ?_;repeat' (apply B<;>intro hb<;>try cases hb))
       refine opsK_eq (ih f.args[i] (by omega) (by omega) hin) rfl rfl rfl ⟨fC_pure _ _, trivial⟩ rfl ?_
       refine opsK_of (E_int rfl (bits_or_u64_nat _ _ hcur (mentF_lt _ _ (Nat.le_refl _) hin))) rfl rfl ?_
       (refine go ?_;repeat' (apply B<;>intro hb<;>try cases hb))
       exact ⟨i + 1, by omega, by omega, ⟨⟨by rw [mentL_take hil, ← Nat.or_assoc]; rfl, trivial⟩, ⟨rfl, fArgs_inn _ _ _⟩, ⟨rfl, trivial⟩, ⟨by show some _ = some _; rw [hinc], trivial⟩, trivial⟩, trivial⟩
     · have hil : i = f.args.length := by have := of_decide_eq_false hb; omega
       subst hil
       clear hb
       rw [List.take_length]
       (refine go ?_;repeat' (apply B<;>intro hb<;>try cases hb))
       exact ret_ok rfl trivial (by rw [mentF_eq])
set_option maxHeartbeats 4000000 in
theorem check18_spec (f : Fm) (hd : f.depth ≤ 1000) (hsz : f.size ≤ 1099511627776) : Spec Tryz.prog 31 [.agg (fC .i64 f), .val (.int .i64 1)] (· = .val (.int .i64 (checkM f))) := by
 refine spec_intro ok31 (Nat.le_of_ble_eq_true rfl) fun C hC => ?_
 refine aw_seq ?_
 refine aw_region ?_
 refine opsK_ofAlt rfl rfl rfl ?_
 (refine go ?_;repeat' (apply B<;>intro hb<;>try cases hb))
 refine opsK_eq (depth_spec f.depth f (Nat.le_refl _) hd) rfl rfl rfl ⟨fC_pure _ _, trivial⟩ rfl ?_
 by_cases h1 : f.depth > 10
 · have hl : lookM 1 f = 3 := by unfold lookM; rw [if_pos (.inl h1)]
   refine opsK_of (E_boolEq (v := true) rfl (decide_eq_true (by omega))) rfl rfl ?_
   (refine go ?_;repeat' (apply B<;>intro hb<;>try cases hb))
   exact ret_ok rfl trivial (by rw [checkM, hl, if_pos (by decide)]; rfl)
 refine opsK_of (E_boolEq (v := false) rfl (decide_eq_false (by omega))) rfl rfl ?_
 (refine go ?_;repeat' (apply B<;>intro hb<;>try cases hb))
 refine opsK_eq (size_spec f.depth f (Nat.le_refl _) hsz) rfl rfl rfl ⟨fC_pure _ _, trivial⟩ rfl ?_
 by_cases h2 : f.size > 200
 · have hl : lookM 1 f = 3 := by unfold lookM; rw [if_pos (.inr h2)]
   repeat' (first | refine opsK_of (E_boolEq (v := true) rfl (decide_eq_true (by omega))) rfl rfl ?_ | (first|refine st ?_|(apply B<;>intro hb<;>try cases hb)))
   exact ret_ok rfl trivial (by rw [checkM, hl, if_pos (by decide)]; rfl)
 repeat' (first | refine opsK_of (E_boolEq (v := false) rfl (decide_eq_false (by omega))) rfl rfl ?_ | (first|refine st ?_|(apply B<;>intro hb<;>try cases hb)))
 have hl : lookM 1 f = insideM 1 f := by unfold lookM; rw [if_neg (by omega)]
 refine opsK_eq (insideR_spec 1 f.depth f (Nat.le_refl _) hsz) rfl rfl rfl ⟨fC_pure _ _, trivial, trivial⟩ rfl ?_
 by_cases h0 : insideM 1 f = 0
 · rw [h0]
   have hc : checkM f = if fitsM f = true ∧ typeM f.op = 1 then (if 8 < (mem (mentF f)).length then 3 else 0) else 10 := by rw [checkM, if_neg (by rw [hl, h0]; decide)]
   (refine go ?_;repeat' (apply B<;>intro hb<;>try cases hb))
   refine opsK_eq (fitsR_spec f.depth f (Nat.le_refl _)) rfl rfl rfl ⟨fC_pure _ _, trivial⟩ rfl ?_
   cases hfit : fitsM f
   · (refine go ?_;repeat' (apply B<;>intro hb<;>try cases hb))
     exact ret_ok rfl trivial (by rw [hc, hfit, if_neg (by simp)]; rfl)
   · (refine go ?_;repeat' (apply B<;>intro hb<;>try cases hb))
     refine opsK_eq (type_spec f.op) rfl rfl rfl ⟨trivial, trivial⟩ rfl ?_
     (refine go ?_;repeat' (apply B<;>intro hb<;>try cases hb))
     · have ht : typeM f.op ≠ 1 := by simpa using hb
       exact ret_ok rfl trivial (by rw [hc, if_neg (fun h => ht h.2)]; rfl)
     · have ht : typeM f.op = 1 := by simpa using hb
       clear hb
       refine opsK_eq (mentioned18_spec 1 f.depth f (Nat.le_refl _) (by omega) h0) rfl rfl rfl ⟨fC_pure _ _, trivial⟩ rfl ?_
       (refine go ?_;repeat' (apply B<;>intro hb<;>try cases hb))
       refine opsK_eq (size18_spec _) rfl rfl rfl ⟨trivial, trivial⟩ rfl ?_
       (refine go ?_;repeat' (apply B<;>intro hb<;>try cases hb))
       · have h8 : 8 < (mem (mentF f)).length := by have := of_decide_eq_true hb; omega
         exact ret_ok rfl trivial (by rw [hc, if_pos ⟨hfit, ht⟩, if_pos h8]; rfl)
       · have h8 : ¬ 8 < (mem (mentF f)).length := by have := of_decide_eq_false hb; omega
         exact ret_ok rfl trivial (by rw [hc, if_pos ⟨hfit, ht⟩, if_neg h8]; rfl)
 · (refine go ?_;repeat' (apply B<;>intro hb<;>try cases hb))
   · exact ret_ok rfl trivial (by rw [checkM, hl, if_pos h0])
   · exact absurd (by simpa using hb) h0
theorem not_one {f : Fm} (w : Wf f) (ht : typeM f.op = 1) (S : Nat) : (!(evM S [] f == 1)) = vioB f S := by
 unfold vioB
 rcases (evM_range S [] f.depth f (Nat.le_refl _) w).2 ht with h | h <;> rw [h] <;> rfl
set_option maxHeartbeats 4000000 in
theorem violR_spec (f : Fm) (hd : f.depth ≤ 1000) (hsz : f.size ≤ 1099511627776) : Spec Tryz.prog 9 [.agg (fC .i64 f)] (· = .tup [.vec ((vioL f).map raC) false, .val (.int .i64 (checkM f))]) := by
 have hpu := fC_pure .i64 f
 refine spec_intro ok9 (Nat.le_of_ble_eq_true rfl) fun C hC => ?_
 refine aw_seq ?_
 refine aw_region ?_
 refine opsK_ofAlt rfl rfl rfl ?_
 (refine go ?_;repeat' (apply B<;>intro hb<;>try cases hb))
 refine opsK_eq (check18_spec f hd hsz) rfl rfl rfl ⟨fC_pure _ _, trivial, trivial⟩ rfl ?_
 by_cases he : checkM f = 0
 · rw [he]
   obtain ⟨hw, hk, hd10, hs200, ht, h8⟩ := check_inv he
   have hm := mentF_lt f.depth f (Nat.le_refl _) hk
   (refine go ?_;repeat' (apply B<;>intro hb<;>try cases hb))
   refine opsK_eq (mentioned18_spec 1 f.depth f (Nat.le_refl _) (by omega) hk) rfl rfl rfl ⟨fC_pure _ _, trivial⟩ rfl ?_
   refine opsK_eq (members19_spec (mentF f) hm) rfl rfl rfl ⟨trivial, trivial⟩ rfl ?_
   have hnl : (nums (intsN (mem (mentF f)))).length = (mem (mentF f)).length := by simp [nums, intsN]
   have hr : ∀ r ∈ mem (mentF f), r < 64 := fun r hr => mem_lt hr
   generalize hro : mem (mentF f) = roles at *
   repeat' (first | refine opsK_sub (subA_ownNil (k := 6) rfl 1 (by decide)) ?_ | (first|refine st ?_|(apply B<;>intro hb<;>try cases hb)))
   obtain ⟨k, hk'⟩ : ∃ k, k = roles.length := ⟨_, rfl⟩
   have h2 : 2 ^ k ≤ 256 := Nat.le_trans (Nat.pow_le_pow_right (by decide) (show k ≤ 8 by omega)) (by decide)
   have hsh : IntKind.i64.wrap (1 * 2 ^ (min ((nums (intsN roles)).length : Int).toNat IntKind.i64.bits)) = ((2 ^ k : Nat) : Int) := by
    rw [hnl, ← hk']; exact shl1 k (by omega)
   refine aw_loopR hC (fun (i : Nat) => i ≤ 2 ^ k) (fun i => 2 ^ k - i) 1 (fun i => [(1, .cp (fC .i64 f)), (5, .vec (nums (intsN roles)) false), (6, .own 0), (7, .val (.int .i64 (i : Int)))])
    (fun i => [(0, ⟨1, bolR i (okM roles (vioB f))⟩)]) (Nat.zero_le _) 0 (Nat.zero_le _) (fun i => i) (fun _ _ => rfl) injOn_id
    ⟨⟨_, rfl, .pure _ hpu⟩, ⟨_, rfl, .pure _ (nums_pure _)⟩, ⟨_, rfl, .own 0 (by decide)⟩, ⟨_, rfl, .pure _ trivial⟩, trivial⟩
    ⟨⟨by decide, _, rfl, .same _ trivial⟩, trivial⟩ ?_
   intro i hi
   have hinc : IntKind.i64.wrap ((i : Int) + 1) = ((i + 1 : Nat) : Int) := IntWalk.i64_in _ ⟨by omega, by omega⟩
   iterate 6 (first|refine st ?_|(apply B<;>intro hb<;>try cases hb))
   refine opsK_of (E_int rfl hsh) rfl rfl ?_
   refine opsK_bool rfl rfl rfl (fun hb => ?_) (fun hb => ?_)
   · have hil : i < 2 ^ k := by have := of_decide_eq_true hb; omega
     clear hb
     (refine go ?_;repeat' (apply B<;>intro hb<;>try cases hb))
     refine dK_eq (subset19_spec roles false i hr (by omega) (by omega)) rfl rfl rfl ⟨nums_pure _, trivial, trivial⟩ ?_
     refine dK_eq (holds19e_spec (setM roles i) f.depth f (Nat.le_refl _) hw hk ht (by omega)) rfl rfl rfl ⟨fC_pure _ _, trivial, trivial⟩ ?_
     refine dK_of (E_boolEq rfl (not_one hw ht (setM roles i))) rfl rfl ?_
     refine gv ?_
     refine dK_of (E_append (k := 0) (m := [bolC (vioB f (setM roles i))]) (fl := true) rfl rfl rfl (fun c hc => by rw [List.mem_singleton] at hc; subst hc; rfl) rfl (by
      show ((bolR i (okM roles (vioB f))).length + 1) * 1 ≤ _
      rw [bolR_length]
      omega)) rfl rfl ?_
     (refine go ?_;repeat' (apply B<;>intro hb<;>try cases hb))
     refine ⟨i + 1, mv 0 9, by omega, by omega, fun i hi => absurd hi (Nat.not_lt_zero i), injOn_of rfl,
      ⟨⟨_, rfl, .pure _ hpu⟩, ⟨_, rfl, .pure _ (nums_pure _)⟩, ⟨_, rfl, .own 0 (by decide)⟩, ⟨_, by show some _ = some _; rw [hinc], .pure _ trivial⟩, trivial⟩,
      ⟨⟨by decide, _, rfl, ?_⟩, trivial⟩⟩
     show RenB _ _ ⟨1, bolR i (okM roles (vioB f)) ++ [bolC (okM roles (vioB f) i)]⟩ ⟨1, bolR (i + 1) (okM roles (vioB f))⟩
     rw [← bolR_succ]
     exact .same _ (bolR_pure _ _)
   · have hil : i = 2 ^ k := by have := of_decide_eq_false hb; omega
     subst hil
     clear hb
     repeat' (first | refine opsK_sub (subA_freeze (k := 6) rfl rfl (bolR_pure _ _)) ?_ | (first|refine st ?_|(apply B<;>intro hb<;>try cases hb)))
     refine opsK_eq (primes19_spec roles false false (okM roles (vioB f)) hr h8) rfl rfl (by show [PV.vec _ _, PV.vec _ _] = _; rw [hk']) ⟨nums_pure _, bolR_pure _ _, trivial⟩ rfl ?_
     (refine go ?_;repeat' (apply B<;>intro hb<;>try cases hb))
     refine ret_ok rfl ⟨ras_pure _, trivial, trivial⟩ ?_
     rw [vioL, if_pos he, hro]
     rfl
 · (refine go ?_;repeat' (apply B<;>intro hb<;>try cases hb))
   · refine ret_low rfl (pure_of rfl) ?_
     rw [vioL, if_neg he]
     rfl
   · exact absurd (by simpa using hb) he
end Go.Proofs.YtifohjijhhjdkaaGreatDoor

namespace Go.Proofs.YtifohjijhhjdkaaGreatDoor
open Go.RowKit
set_option linter.unusedVariables false
attribute [local irreducible] aw opsK dK

set_option maxHeartbeats 2000000 in
theorem normalViolations_law (l : List Nat) (f1 : Bool) (hl : Bytes l) : Spec Tryz.prog 3 [.vec (bys l) f1] (· = .val (.bool true)) := by
 refine spec_intro ok3 (Nat.le_of_ble_eq_true rfl) fun C hC => ?_
 (refine go ?_;repeat' (apply B<;>intro hb<;>try cases hb))
 refine opsK_eq awake19_spec rfl rfl rfl trivial rfl ?_
 (refine go ?_;repeat' (apply B<;>intro hb<;>try cases hb))
 refine opsK_spec rfl rfl (make19_spec l hl f1) ⟨bys_pure l, trivial⟩ rfl ?_
 rintro r ⟨f, hwf, hty, hdp, hsz, hi6, rfl⟩
 have hok := vioL_ok f
 (refine go ?_;repeat' (apply B<;>intro hb<;>try cases hb))
 refine opsK_eq (violations_spec f (by omega) (by omega)) rfl rfl rfl ⟨fC_pure _ _, trivial⟩ rfl ?_
 (refine go ?_;repeat' (apply B<;>intro hb<;>try cases hb))
 refine opsK_eq (violR_spec f (by omega) (by omega)) rfl rfl rfl ⟨fC_pure _ _, trivial⟩ rfl ?_
 generalize checkM f = ef
 (refine go ?_;repeat' (apply B<;>intro hb<;>try cases hb))
 · refine opsK_eq (same_spec (vioL f) (vioL f) false false hok hok) rfl rfl rfl ⟨cubes_pure _, ras_pure _, trivial⟩ rfl ?_
   rw [sameL.2 rfl]
   (refine go ?_;repeat' (apply B<;>intro hb<;>try cases hb))
   exact ret_ok rfl trivial rfl
 · exact absurd hb (by simp)
end Go.Proofs.YtifohjijhhjdkaaGreatDoor

namespace Go.Proofs.YtifohjijhhjdkaaGreatDoor
open Go.ChangeShapes Go.WideShapes Go.ChangeAt Go.RowKit
set_option linter.unusedVariables false

theorem rows_enc {α : Type} {enc : α → List PV} {Q : α → Prop} : ∀ {ll : List (List PV)}, (∀ l ∈ ll, ∃ x, Q x ∧ l = enc x) → ∃ xs : List α, (∀ x ∈ xs, Q x) ∧ ll = xs.map enc
 | [], _ => ⟨[], fun _ h => (by cases h), rfl⟩
 | l :: ll, h => by
   obtain ⟨x, h1, rfl⟩ := h l (List.mem_cons_self ..)
   obtain ⟨xs, h2, rfl⟩ := rows_enc fun l hl => h l (List.mem_cons_of_mem _ hl)
   refine ⟨x :: xs, fun y hy => ?_, rfl⟩
   rcases List.mem_cons.1 hy with rfl | hy
   · exact h1
   · exact h2 y hy
theorem shapeVs_one {P : Program} {s : TypeId} : ∀ {ps : List PV}, ShapeVs P [s] ps → ∃ a, ps = [a] ∧ ShapeV P s a
 | [a], ⟨h, _⟩ => ⟨a, rfl, h⟩
theorem int_u8 {m : Int} (h : (Lit.int .u8 m).wf = true) : ∃ a : Nat, a < 256 ∧ m = (a : Int) := by
 simp only [Lit.wf, Bool.and_eq_true, decide_eq_true_eq] at h
 obtain ⟨h1, h2⟩ := h
 have h3 : m ≤ 255 := h2
 have h4 : 0 ≤ m := h1
 exact ⟨m.toNat, by omega, by omega⟩
theorem u8_shape {n : Nat} {l : List PV} (h : Shape Tryz.prog n 5 l) : ∃ x : Nat, x ≤ 255 ∧ l = [PV.val (.int .u8 (x : Int))] := by
 obtain ⟨m1, w1, e1⟩ := shape_int h (k := .u8) (by kernel_rfl)
 obtain ⟨x, hx, rfl⟩ := int_u8 w1
 exact ⟨x, by omega, e1⟩
theorem bytes_shape {p : PV} (h : ShapeV Tryz.prog 22 p) : ∃ (l : List Nat) (fl : Bool), Bytes l ∧ p = .vec (bys l) fl := by
 obtain ⟨n, ll, fl, _, h2, rfl⟩ := shapeV_slice h (e := 5) (by kernel_rfl)
 obtain ⟨xs, h3, rfl⟩ := rows_enc (enc := fun (x : Nat) => [PV.val (.int .u8 (x : Int))]) (Q := fun (x : Nat) => x ≤ 255) fun l hl => u8_shape (h2 l hl)
 exact ⟨xs, fl, h3, rfl⟩
end Go.Proofs.YtifohjijhhjdkaaGreatDoor

namespace Go.Proofs.YtifohjijhhjdkaaGreatDoor
open Go.ChangeShapes Go.WideShapes Go.ChangeAt Go.RowKit
set_option linter.unusedVariables false

theorem normalViolations_spec : ∀ ps, ShapeVs Tryz.prog Tryz.f3.params.toList ps → pureL ps → Spec Tryz.prog 3 ps (· = .val (.bool true)) := by
 intro ps hs hp
 rw [show Tryz.f3.params.toList = [22] by kernel_rfl] at hs
 obtain ⟨a, rfl, k0⟩ := shapeVs_one hs
 obtain ⟨x0, f0, h0, rfl⟩ := bytes_shape k0
 exact normalViolations_law x0 f0 h0

set_option maxRecDepth 100000 in
theorem normalViolations_lifted (os : Os) (started : os.Started) (H : Type) (enc : TypeId × Value → H) :
 ReturnsInHanded {} Tryz.checked os 3 .any (fun w args => (Rows.normalViolationsSpec.pre enc Tryz.prog Tryz.f3 [] false w args ∧ laidMetH Tryz.prog laidV w) ∧ sizedMet enc Tryz.prog Tryz.f3 (OpenSpec.ofChange Rows.normalViolationsSpec) false w args)
  (Rows.normalViolationsSpec.post enc Tryz.prog Tryz.f3 false true false false) := by
 refine returnsInHanded_of_change_and (C := Tryz.checked) (X := fun w _ => laidMetH Tryz.prog laidV w) (fun _ _ _ hh h => h.of_heap hh) own started (by kernel_rfl) Tryz.func3
  (ChangeSpec.witness_shaped (enc := enc) (C := Tryz.checked) (os := os) (X := fun w _ => laidMetH Tryz.prog laidV w) false (World.doorLaid Tryz.prog 400 os) #[.slice none 0 0] 8 rfl (World.shaped_of_RefB (by kernel_rfl) (by kernel_rfl)) (by kernel_rfl) (by kernel_rfl) (by kernel_rfl) (door_met os _)) ?_
 intro W base args ds gs before hval hW _ hwt hL _
 exact law_contract (P := Tryz.prog) (G := partsG Tryz.prog Tryz.f3.params.toList) (by kernel_rfl) (inG_of (by kernel_rfl)) laidOut (parsOk_of (by kernel_rfl)) (tb := 4) (by kernel_rfl) (by kernel_rfl) rfl (fun ds hd => by
  match ds, hd with
  | [a], _ => exact ⟨rfl, rfl, rfl⟩) normalViolations_spec W (globs_in hL) base args ds gs before hval hW hwt

theorem normalViolations_holds : Rows.NormalViolationsSaid :=
 OpenClaim.holds_of_wide 3 Tryz.f3 rfl rfl rfl rfl rfl rfl rfl ⟨rfl, rfl, rfl, rfl, rfl⟩ rfl rfl rfl rfl rfl (by kernel_rfl) Tryz.func3 (by kernel_rfl)
  (of_decide_eq_true (by kernel_rfl)) (by unfold Func.isWrapper; first | (rw [if_pos (by decide +kernel)]; kernel_rfl) | (rw [if_neg (by decide +kernel)]; exact ⟨rfl, rfl⟩))
  (fun os started H enc _ => normalViolations_lifted os started H enc)

theorem normalViolations_card : Rows.NormalViolationsCardSaid :=
 Claim7.holds_tied_plain_at .later [] [.data] true (true, "60278ebb0399797ecb2d1b6d2c4fc51cb907438f354e44bc697f97883450e316") false
  normalViolations_holds (fun _ h => by cases h) (by kernel_rfl) (fun _ h => by cases h) normalViolations_row_tie rfl ⟨rfl, rfl⟩ (by kernel_rfl) rfl
  (fun f fn hf hfn => by
    obtain rfl : f = 3 := Option.some.inj ((show Tryz.prog.funcNamed "arbac/arbaclaw19.NormalViolations" = some 3 by kernel_rfl).symm.trans hf) |>.symm
    obtain rfl : fn = Tryz.f3 := (Option.some.inj (Tryz.func3.symm.trans hfn)).symm
    exact ⟨by kernel_rfl, fun j t ht => by
     rw [show Tryz.f3.params = #[22] by kernel_rfl] at ht
     have hm : t ∈ [22] := by simpa using Array.mem_of_getElem? ht
     have hall : ([22].all fun u => !Tryz.prog.wantsStandIn u) = true := by kernel_rfl
     exact (show Tryz.prog.wantsStandIn t = false by simpa using List.all_eq_true.1 hall t hm)⟩)
  (by kernel_rfl)
#print axioms normalViolations_card
end Go.Proofs.YtifohjijhhjdkaaGreatDoor
