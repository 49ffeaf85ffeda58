/-
 Proved: for every input the law NormalBack returns true, never panics, and leaves its arguments as0 they were, on the given card's conditions (the table of the bits package reads as0 the program's text lays it, and is tied to it).
-/
import Derived.SevenTiedAt
import Derived.Test.YtifohjijhhjdkaaGreatDoorCards
import Derived.Test.YtifohjijhhjdkaaGreatDoorTie
import Derived.Test.YtifohjijhhjdkaaGreatDoorMq4
set_option linter.unusedSimpArgs false
set_option linter.unusedVariables false
set_option linter.unusedSectionVars false

namespace Go.Proofs.YtifohjijhhjdkaaGreatDoor
open Go.RowKit
set_option linter.unusedVariables false
attribute [local irreducible] aw opsK dK

theorem insAll_perm (l : List Cu) : (insAll l).Perm l := by have := (insFold l [] List.Pairwise.nil).1; simpa [insAll] using this
theorem prR_ok {ok : Nat → Bool} {roles : List Nat} (h : ∀ r ∈ roles, r < 64) (j : Nat) {c : Cu} (hc : c ∈ insAll (prR ok roles j)) : Ok64 c := by
 have := (insAll_perm _).mem_iff.1 hc
 obtain ⟨n, hn, rfl⟩ := List.mem_map.1 this
 exact ⟨setM_lt h _, setM_lt h _⟩
theorem prR_len (ok : Nat → Bool) (roles : List Nat) (j : Nat) : (insAll (prR ok roles j)).length ≤ j := by
 rw [(insAll_perm _).length_eq, prR, List.length_map]
 exact Nat.le_trans (List.length_filter_le _ _) (by simp)
def boxI (y n : Int) : Bx := ⟨2, [[.val (.int .u64 y), .val (.int .u64 n)]]⟩
def boxC (y n : Nat) : Bx := ⟨2, [[.val (.int .u64 (y : Int)), .val (.int .u64 (n : Int))]]⟩
theorem bit_dig1 {k n d : Nat} (hd : d < k) : (ysK k n).testBit d = decide (dig3 n d = 1) := by rw [ysK_bit]; simp [hd]
theorem bit_dig2 {k n d : Nat} (hd : d < k) : (nsK k n).testBit d = decide (dig3 n d = 2) := by rw [nsK_bit]; simp [hd]
theorem lowLL_ras (l : List Cu) : lowLL (l.map raC) = l.map raC := by simp [lowLL_eq, lowL, PV.low, raC]
theorem sub_dig {n x q : Nat} (hle : x * q ≤ n) (hn : n ≤ 1000000) : IntKind.i64.wrap ((n : Int) - IntKind.i64.wrap ((x : Int) * (q : Int))) = ((n - x * q : Nat) : Int) := by
 rw [← Int.natCast_mul]
 generalize x * q = z at *
 rw [IntWalk.i64_in (z : Int) ⟨by omega, by omega⟩, IntWalk.i64_in _ ⟨by omega, by omega⟩]
 omega
set_option maxHeartbeats 16000000 in
theorem primes19_spec (roles : List Nat) (f1 f2 : Bool) (ok : Nat → Bool) (hr : ∀ r ∈ roles, r < 64) (h8 : roles.length ≤ 8) :
 Spec Tryz.prog 35 [.vec (nums (intsN roles)) f1, .vec (bolR (2 ^ roles.length) ok) f2] (· = .vec ((sortC (prL ok roles)).map raC) false) := by
 have hnl : (nums (intsN roles)).length = roles.length := by simp [nums, intsN]
 obtain ⟨k, hk⟩ : ∃ k, k = roles.length := ⟨_, rfl⟩
 have h3 : 3 ^ k ≤ 6561 := Nat.le_trans (Nat.pow_le_pow_right (by decide) (show k ≤ 8 by omega)) (by decide)
 have hpos := pow3_pos k
 refine spec_intro ok35 (Nat.le_of_ble_eq_true rfl) fun C hC => ?_
 (refine go ?_;repeat' (apply B<;>intro hb<;>try cases hb))
 refine opsK_eq (implicants_spec roles.length ok f2 h8) rfl rfl (by show [PV.vec _ _, PV.val (.int .i64 ((nums (intsN roles)).length : Int))] = _; rw [hnl]) ⟨bolR_pure _ _, trivial, trivial⟩ rfl ?_
 rw [← hk]
 (refine go ?_;repeat' (apply B<;>intro hb<;>try cases hb))
 refine aw_loopH hC (fun (x : Nat × Bool) => x.1 ≤ 3 ^ k) (fun x => 3 ^ k - x.1) 0 (fun x => [(0, .vec (nums (intsN roles)) f1), (5, .vec (bolR (3 ^ k) (impV k ok)) false), (6, .vec ((insAll (prR ok roles x.1)).map raC) x.2), (7, .val (.int .i64 (x.1 : Int)))]) (fun _ => []) (Nat.le_refl _) (0, true) (Nat.zero_le _)
  ⟨⟨rfl, nums_inn _ _⟩, ⟨rfl, bolR_inn _ _ _⟩, ⟨rfl, trivial⟩, ⟨rfl, trivial⟩, trivial⟩ trivial ?_
 rintro ⟨n, fo⟩ hn
 dsimp only at hn ⊢
 have hinc : IntKind.i64.wrap ((n : Int) + 1) = ((n + 1 : Nat) : Int) := IntWalk.i64_in _ ⟨by omega, by omega⟩
 have hpl := prR_len ok roles n
 have hpo := fun c hc => prR_ok (ok := ok) hr n (c := c) hc
 have hps := prR_succ ok roles n
 iterate 6 (first|refine st ?_|(apply B<;>intro hb<;>try cases hb))
 refine opsK_bool rfl rfl rfl (fun hb => ?_) (fun hb => ?_)
 · have hnk : n < 3 ^ k := by have := of_decide_eq_true hb; rw [bolR_length] at this; omega
   clear hb
   (refine go ?_;repeat' (apply B<;>intro hb<;>try cases hb))
   refine opsK_of (E_bol rfl rfl n rfl hnk) rfl rfl ?_
   refine gv ?_
   refine aw_loopH hC (fun d => d ≤ k) (fun d => k - d) 1 (fun d => [(0, .vec (nums (intsN roles)) f1), (5, .vec (bolR (3 ^ k) (impV k ok)) false), (6, .vec ((insAll (prR ok roles n)).map raC) fo), (7, .val (.int .i64 (n : Int))), (8, .val (.bool (prTo3 k ok n d))), (9, .ptr 0 0 0), (10, .val (.int .i64 (d : Int)))])
    (fun d => [(0, boxC (setTo roles (ysK k n) d) (setTo roles (nsK k n) d))]) (Nat.zero_le _) 0 (Nat.zero_le _)
    ⟨⟨rfl, nums_inn _ _⟩, ⟨rfl, bolR_inn _ _ _⟩, ⟨rfl, ras_inn _ _⟩, ⟨rfl, trivial⟩, ⟨by unfold prTo3; rw [List.range_zero, List.all_nil, Bool.and_true]; rfl, trivial⟩, ⟨rfl, show (0 : Nat) < 1 by decide⟩, ⟨rfl, trivial⟩, trivial⟩ ⟨⟨by decide, rfl, ⟨trivial, trivial, trivial⟩, trivial⟩, trivial⟩ ?_
   intro d hd
   have hdin : IntKind.i64.wrap ((d : Int) + 1) = ((d + 1 : Nat) : Int) := IntWalk.i64_in _ ⟨by omega, by omega⟩
   have hy := setTo_lt hr (ysK k n) d (by omega)
   have hw := setTo_lt hr (nsK k n) d (by omega)
   have hpr := prTo3_succ k ok n d
   iterate 6 (first|refine st ?_|(apply B<;>intro hb<;>try cases hb))
   refine opsK_bool rfl rfl rfl (fun hb => ?_) (fun hb => ?_)
   · have hdk : d < k := by have := of_decide_eq_true hb; rw [hnl] at this; omega
     clear hb
     have hdr : d < roles.length := by omega
     have hrd : roles[d] < 64 := hr _ (List.getElem_mem hdr)
     have hre : roles.getD d 0 = roles[d] := by rw [List.getD_eq_getElem?_getD, List.getElem?_eq_getElem hdr]; rfl
     have hsy : setTo roles (ysK k n) (d + 1) = if dig3 n d = 1 then setTo roles (ysK k n) d ||| 2 ^ roles[d] else setTo roles (ysK k n) d := by
      rw [← hre]; simp only [setTo]; rw [bit_dig1 hdk]; simp
     have hsn : setTo roles (nsK k n) (d + 1) = if dig3 n d = 2 then setTo roles (nsK k n) d ||| 2 ^ roles[d] else setTo roles (nsK k n) d := by
      rw [← hre]; simp only [setTo]; rw [bit_dig2 hdk]; simp
     have h2p : 2 ^ roles[d] < 2 ^ 64 := Nat.pow_lt_pow_right (by omega) hrd
     have hshl : IntKind.u64.wrap (1 * 2 ^ (min ((roles[d] : Nat) : Int).toNat IntKind.u64.bits)) = ((2 ^ roles[d] : Nat) : Int) := by
      rw [show min ((roles[d] : Nat) : Int).toNat IntKind.u64.bits = roles[d] by simp [IntKind.bits]; omega]
      rw [Int.one_mul, show (2 : Int) ^ roles[d] = ((2 ^ roles[d] : Nat) : Int) by simp]
      exact IntWalk.u64_in _ ⟨Int.natCast_nonneg _, Int.ofNat_le.2 (show _ ≤ 18446744073709551615 by omega)⟩
     have hory : bits .or .u64 ((setTo roles (ysK k n) d : Nat) : Int) (IntKind.u64.wrap (1 * 2 ^ (min ((roles[d] : Nat) : Int).toNat IntKind.u64.bits))) = ((setTo roles (ysK k n) d ||| 2 ^ roles[d] : Nat) : Int) := by
      rw [hshl]; exact bits_or_u64_nat _ _ hy h2p
     have horn : bits .or .u64 ((setTo roles (nsK k n) d : Nat) : Int) (IntKind.u64.wrap (1 * 2 ^ (min ((roles[d] : Nat) : Int).toNat IntKind.u64.bits))) = ((setTo roles (nsK k n) d ||| 2 ^ roles[d] : Nat) : Int) := by
      rw [hshl]; exact bits_or_u64_nat _ _ hw h2p
     have hds := dig3_sub (n := n) (d := d)
     have h3d := dig3_lt n d
     (refine go ?_;repeat' (apply B<;>intro hb<;>try cases hb))
     refine opsK_eq (digit_spec n d (by omega) (by omega)) rfl rfl rfl ⟨trivial, trivial, trivial⟩ rfl ?_
     generalize hx : dig3 n d = x at *
     have hcase : x = 0 ∨ x = 1 ∨ x = 2 := by omega
     have hpd : 3 ^ d ≤ 6561 := Nat.le_trans (Nat.pow_le_pow_right (by decide) (show d ≤ 8 by omega)) (by decide)
     have hsub : IntKind.i64.wrap ((n : Int) - IntKind.i64.wrap ((x : Int) * ((3 ^ d : Nat) : Int))) = ((n - x * 3 ^ d : Nat) : Int) := sub_dig hds.1 (by omega)
     rcases hcase with e | e | e
     · subst e
       rw [decide_eq_false (by decide), Bool.false_and, Bool.not_false, Bool.and_true] at hpr
       rw [if_neg (by decide)] at hsy hsn
       (refine go ?_;repeat' (apply B<;>intro hb<;>try cases hb))
       exact ⟨d + 1, by omega, by omega, ⟨⟨rfl, nums_inn _ _⟩, ⟨rfl, bolR_inn _ _ _⟩, ⟨rfl, ras_inn _ _⟩, ⟨rfl, trivial⟩, ⟨by rw [hpr]; rfl, trivial⟩, ⟨rfl, show (0 : Nat) < 1 by decide⟩, ⟨by show some _ = some _; rw [hdin], trivial⟩, trivial⟩, ⟨⟨by decide, by rw [hsy, hsn]; rfl, ⟨trivial, trivial, trivial⟩, trivial⟩, trivial⟩⟩
     · subst e
       rw [decide_eq_true (by decide), Bool.true_and] at hpr
       rw [if_pos rfl] at hsy
       rw [if_neg (by decide)] at hsn
       (refine go ?_;repeat' (apply B<;>intro hb<;>try cases hb))
       refine opsK_eq (power_spec d (by omega)) rfl rfl rfl ⟨trivial, trivial⟩ rfl ?_
       (refine go ?_;repeat' (apply B<;>intro hb<;>try cases hb))
       refine opsK_of (E_bol rfl rfl (n - 1 * 3 ^ d) hsub (by omega)) rfl rfl ?_
       generalize impV k ok (n - 1 * 3 ^ d) = v at *
       cases v
       all_goals
        (refine go ?_;repeat' (apply B<;>intro hb<;>try cases hb))
        refine dK_of (E_iaddr (xs := roles) (g := fun (x : Nat) => [PV.val (.int .i64 (x : Int))]) (by rw [← numsN_row]; rfl) rfl d rfl hdr rfl) rfl rfl ?_
        (refine go ?_;repeat' (apply B<;>intro hb<;>try cases hb))
        exact ⟨d + 1, by omega, by omega, ⟨⟨rfl, nums_inn _ _⟩, ⟨rfl, bolR_inn _ _ _⟩, ⟨rfl, ras_inn _ _⟩, ⟨rfl, trivial⟩, ⟨by rw [hpr]; simp; rfl, trivial⟩, ⟨rfl, show (0 : Nat) < 1 by decide⟩, ⟨by show some _ = some _; rw [hdin], trivial⟩, trivial⟩, ⟨⟨by decide, by rw [hsy, hsn]; show _ = some (boxI ((_ : Nat) : Int) ((_ : Nat) : Int)); rw [← hory]; rfl, ⟨trivial, trivial, trivial⟩, trivial⟩, trivial⟩⟩
     · subst e
       rw [decide_eq_true (by decide), Bool.true_and] at hpr
       rw [if_pos rfl] at hsn
       rw [if_neg (by decide)] at hsy
       (refine go ?_;repeat' (apply B<;>intro hb<;>try cases hb))
       refine opsK_eq (power_spec d (by omega)) rfl rfl rfl ⟨trivial, trivial⟩ rfl ?_
       (refine go ?_;repeat' (apply B<;>intro hb<;>try cases hb))
       refine opsK_of (E_bol rfl rfl (n - 2 * 3 ^ d) hsub (by omega)) rfl rfl ?_
       generalize impV k ok (n - 2 * 3 ^ d) = v at *
       cases v
       all_goals
        (refine go ?_;repeat' (apply B<;>intro hb<;>try cases hb))
        refine dK_of (E_iaddr (xs := roles) (g := fun (x : Nat) => [PV.val (.int .i64 (x : Int))]) (by rw [← numsN_row]; rfl) rfl d rfl hdr rfl) rfl rfl ?_
        (refine go ?_;repeat' (apply B<;>intro hb<;>try cases hb))
        exact ⟨d + 1, by omega, by omega, ⟨⟨rfl, nums_inn _ _⟩, ⟨rfl, bolR_inn _ _ _⟩, ⟨rfl, ras_inn _ _⟩, ⟨rfl, trivial⟩, ⟨by rw [hpr]; simp; rfl, trivial⟩, ⟨rfl, show (0 : Nat) < 1 by decide⟩, ⟨by show some _ = some _; rw [hdin], trivial⟩, trivial⟩, ⟨⟨by decide, by rw [hsy, hsn]; show _ = some (boxI ((_ : Nat) : Int) ((_ : Nat) : Int)); rw [← horn]; rfl, ⟨trivial, trivial, trivial⟩, trivial⟩, trivial⟩⟩
   · have hdk : d = k := by have := of_decide_eq_false hb; rw [hnl] at this; omega
     subst hdk
     clear hb
     rw [prTo3_prB]
     have hys : setTo roles (ysK d n) d = setM roles (ysK d n) := by rw [setM, ← hk]
     have hns : setTo roles (nsK d n) d = setM roles (nsK d n) := by rw [setM, ← hk]
     rw [hys, hns]
     rw [← hk] at hps
     cases hg : prB d ok (ysK d n) (nsK d n)
     · rw [hg, if_neg (by decide), List.append_nil] at hps
       (refine go ?_;repeat' (apply B<;>intro hb<;>try cases hb))
       exact ⟨(n + 1, fo), by show n + 1 ≤ _; omega, by show _ - (n + 1) < _ - n; omega, ⟨⟨rfl, nums_inn _ _⟩, ⟨rfl, bolR_inn _ _ _⟩, ⟨by rw [hps]; rfl, ras_inn _ _⟩, ⟨by show some _ = some _; rw [hinc], trivial⟩, trivial⟩, trivial⟩
     · rw [hg, if_pos rfl] at hps
       (refine go ?_;repeat' (apply B<;>intro hb<;>try cases hb))
       refine opsK_eq (insert_spec (insAll (prR ok roles n)) fo (setM roles (ysK d n), setM roles (nsK d n)) hpo ⟨setM_lt hr _, setM_lt hr _⟩ (by omega)) rfl rfl rfl ⟨ras_pure _, raC_pure _, trivial⟩ rfl ?_
       (refine go ?_;repeat' (apply B<;>intro hb<;>try cases hb))
       exact ⟨(n + 1, false), by show n + 1 ≤ _; omega, by show _ - (n + 1) < _ - n; omega, ⟨⟨rfl, nums_inn _ _⟩, ⟨rfl, bolR_inn _ _ _⟩, ⟨by rw [hps, insAll_snoc]; rfl, ras_inn _ _⟩, ⟨by show some _ = some _; rw [hinc], trivial⟩, trivial⟩, trivial⟩
 · have hnk : n = 3 ^ k := by have := of_decide_eq_false hb; rw [bolR_length] at this; omega
   subst hnk
   clear hb
   (refine go ?_;repeat' (apply B<;>intro hb<;>try cases hb))
   have hfin : insAll (prR ok roles (3 ^ k)) = sortC (prL ok roles) := by rw [hk]; exact insAll_eq (prR_perm ok roles) fun c hc => prL_64 hr hc
   rw [← hfin]
   refine ret_low rfl (by show pureLL (lowLL _); rw [lowLL_ras]; exact ras_pure _) ?_
   show PV.vec (lowLL _) false = _
   rw [lowLL_ras]
end Go.Proofs.YtifohjijhhjdkaaGreatDoor

namespace Go.Proofs.YtifohjijhhjdkaaGreatDoor
open Go.RowKit
set_option linter.unusedVariables false
attribute [local irreducible] aw opsK dK

theorem rem2_bit (N : Nat) : (((N : Nat) : Int).tmod 2 == 1) = N.testBit 0 := by
 have h := rem2_u64 N 0
 rw [Nat.pow_zero, Nat.div_one] at h
 have h2 := bit_eq N 0
 rw [Nat.pow_zero, Nat.div_one] at h2
 rw [h, h2]
theorem bolR_succ (m : Nat) (p : Nat → Bool) : bolR (m + 1) p = bolR m p ++ [bolC (p m)] := by simp [bolR, List.range_succ]
set_option maxHeartbeats 4000000 in
theorem primesR_spec (l : List Cu) (fl : Bool) (hl : ∀ c ∈ l, Ok64 c) (hlen : l.length ≤ 1000000) : Spec Tryz.prog 19 [.vec (l.map raC) fl] (· = .tup [.vec ((primesL l).map raC) false, .val (.int .i64 (wholeE l))]) := by
 have hf : ∀ c ∈ fullL l, Ok64 c := fun c hc => hl c (List.mem_filter.1 hc).1
 have hm := mentC_lt hf
 refine spec_intro ok19 (Nat.le_of_ble_eq_true rfl) fun C hC => ?_
 (refine go ?_;repeat' (apply B<;>intro hb<;>try cases hb))
 refine opsK_eq (full19_spec l fl hl hlen) rfl rfl rfl ⟨ras_pure l, trivial⟩ rfl ?_
 generalize hall : mentC (fullL l) = N at *
 generalize hfl : fullL l = fs at *
 (refine go ?_;repeat' (apply B<;>intro hb<;>try cases hb))
 · have h0 : N.testBit 0 = true := by rw [← rem2_bit]; exact hb
   have he : wholeE l = 1 := by rw [wholeE, hfl, hall, if_pos h0]
   refine ret_low rfl (pure_of rfl) ?_
   rw [primesL, he, if_neg (by decide)]
   rfl
 · have h0 : ¬ N.testBit 0 = true := by rw [← rem2_bit, hb]; decide
   clear hb
   refine opsK_eq (members19_spec N hm) rfl rfl rfl ⟨trivial, trivial⟩ rfl ?_
   have hnl : (nums (intsN (mem N))).length = (mem N).length := by simp [nums, intsN]
   have hr : ∀ r ∈ mem N, r < 64 := fun r hr => mem_lt hr
   generalize hro : mem N = roles at *
   repeat' (first | refine opsK_sub (subA_ownNil (k := 7) rfl 1 (by decide)) ?_ | (first|refine st ?_|(apply B<;>intro hb<;>try cases hb)))
   · have h8 : 8 < roles.length := by have := of_decide_eq_true hb; rw [hnl] at this; omega
     have he : wholeE l = 3 := by rw [wholeE, hfl, hall, if_neg h0, hro, if_pos h8]
     refine ret_low rfl (pure_of rfl) ?_
     rw [primesL, he, if_neg (by decide)]
     rfl
   · have h8 : roles.length ≤ 8 := by have := of_decide_eq_false hb; rw [hnl] at this; omega
     have he : wholeE l = 0 := by rw [wholeE, hfl, hall, if_neg h0, hro, if_neg (by omega)]
     clear hb
     obtain ⟨k, hk⟩ : ∃ k, k = roles.length := ⟨_, rfl⟩
     have h2 : 2 ^ k ≤ 256 := Nat.le_trans (Nat.pow_le_pow_right (by decide) (show k ≤ 8 by omega)) (by decide)
     have hsh : IntKind.i64.wrap (1 * 2 ^ (min ((nums (intsN roles)).length : Int).toNat IntKind.i64.bits)) = ((2 ^ k : Nat) : Int) := by
      rw [hnl, ← hk]; exact shl1 k (by omega)
     refine aw_loopR hC (fun (i : Nat) => i ≤ 2 ^ k) (fun i => 2 ^ k - i) 1 (fun i => [(4, .vec (fs.map raC) false), (6, .vec (nums (intsN roles)) false), (7, .own 0), (8, .val (.int .i64 (i : Int)))])
      (fun i => [(0, ⟨1, bolR i (okM roles (soC fs))⟩)]) (Nat.zero_le _) 0 (Nat.zero_le _) (fun i => i) (fun _ _ => rfl) injOn_id
      ⟨⟨_, rfl, .pure _ (ras_pure _)⟩, ⟨_, rfl, .pure _ (nums_pure _)⟩, ⟨_, rfl, .own 0 (by decide)⟩, ⟨_, rfl, .pure _ trivial⟩, trivial⟩
      ⟨⟨by decide, _, rfl, .same _ trivial⟩, trivial⟩ ?_
     intro i hi
     have hinc : IntKind.i64.wrap ((i : Int) + 1) = ((i + 1 : Nat) : Int) := IntWalk.i64_in _ ⟨by omega, by omega⟩
     iterate 6 (first|refine st ?_|(apply B<;>intro hb<;>try cases hb))
     refine opsK_of (E_int rfl hsh) rfl rfl ?_
     refine opsK_bool rfl rfl rfl (fun hb => ?_) (fun hb => ?_)
     · have hil : i < 2 ^ k := by have := of_decide_eq_true hb; omega
       clear hb
       (refine go ?_;repeat' (apply B<;>intro hb<;>try cases hb))
       refine opsK_eq (subset19_spec roles false i hr (by omega) (by omega)) rfl rfl rfl ⟨nums_pure _, trivial, trivial⟩ rfl ?_
       refine opsK_eq (some14_spec fs false (setM roles i) hf (setM_lt hr _)) rfl rfl rfl ⟨ras_pure _, trivial, trivial⟩ rfl ?_
       (refine go ?_;repeat' (apply B<;>intro hb<;>try cases hb))
       refine opsK_new (E_append (k := 0) (m := [bolC (soC fs (setM roles i))]) (fl := true) rfl rfl rfl (fun c hc => by rw [List.mem_singleton] at hc; subst hc; rfl) rfl (by
        show ((bolR i (okM roles (soC fs))).length + 1) * 1 ≤ _
        rw [bolR_length]
        omega)) rfl rfl ?_
       (refine go ?_;repeat' (apply B<;>intro hb<;>try cases hb))
       refine ⟨i + 1, mv 0 1, by omega, by omega, fun i hi => absurd hi (Nat.not_lt_zero i), injOn_of rfl,
        ⟨⟨_, rfl, .pure _ (ras_pure _)⟩, ⟨_, rfl, .pure _ (nums_pure _)⟩, ⟨_, rfl, .own 0 (by decide)⟩, ⟨_, by show some _ = some _; rw [hinc], .pure _ trivial⟩, trivial⟩,
        ⟨⟨by decide, _, rfl, ?_⟩, trivial⟩⟩
       show RenB _ _ ⟨1, bolR i (okM roles (soC fs)) ++ [bolC (okM roles (soC fs) i)]⟩ ⟨1, bolR (i + 1) (okM roles (soC fs))⟩
       rw [← bolR_succ]
       exact .same _ (bolR_pure _ _)
     · have hil : i = 2 ^ k := by have := of_decide_eq_false hb; omega
       subst hil
       clear hb
       repeat' (first | refine opsK_sub (subA_freeze (k := 7) rfl rfl (bolR_pure _ _)) ?_ | (first|refine st ?_|(apply B<;>intro hb<;>try cases hb)))
       refine opsK_eq (primes19_spec roles false false (okM roles (soC fs)) hr h8) rfl rfl (by show [PV.vec _ _, PV.vec _ _] = _; rw [hk]) ⟨nums_pure _, bolR_pure _ _, trivial⟩ rfl ?_
       (refine go ?_;repeat' (apply B<;>intro hb<;>try cases hb))
       refine ret_ok rfl ⟨ras_pure _, trivial, trivial⟩ ?_
       rw [primesL, he, if_pos rfl, hfl, hall, hro]
       rfl
end Go.Proofs.YtifohjijhhjdkaaGreatDoor

namespace Go.Proofs.YtifohjijhhjdkaaGreatDoor
open Go.RowKit
set_option linter.unusedVariables false
attribute [local irreducible] aw opsK dK

def mostF : Fm := .mk 11 0 [] [.mk 5 0 [1, 2, 3] [], .mk 1 1 [] []]
theorem most_check : checkM mostF = 0 := by decide +kernel
theorem most_viol : vioL mostF = [(6, 0), (10, 0), (12, 0)] := by decide +kernel
theorem ex2 : primesL [(6, 0), (2, 4)] = [(2, 0)] ∧ wholeE [(6, 0), (2, 4)] = 0 := by decide +kernel
theorem ex3 : primesL [(2, 0), (0, 2)] = [(0, 0)] ∧ wholeE [(2, 0), (0, 2)] = 0 := by decide +kernel
theorem ex4 : primesL [(6, 0), (8, 2)] = [(6, 0), (12, 0), (8, 2)] ∧ wholeE [(6, 0), (8, 2)] = 0 := by decide +kernel
theorem of_val (l : List Int) (N : Nat) (h : maskTo (topOf l) l = N) (fl : Bool) : Spec Tryz.prog 23 [.vec (nums l) fl] (· = setN N) := h ▸ of_spec l fl
set_option maxHeartbeats 8000000 in
theorem awake19_spec : Spec Tryz.prog 6 [] (· = .val (.bool true)) := by
 have ok : ∀ (l : List Cu), (∀ c ∈ l, c.1 < 256 ∧ c.2 < 256) → ∀ c ∈ l, Ok64 c := fun l h c hc => ⟨by have := h c hc; omega, by have := h c hc; omega⟩
 refine spec_intro ok6 (Nat.le_of_ble_eq_true rfl) fun C hC => ?_
 (refine go ?_;repeat' (apply B<;>intro hb<;>try cases hb))
 refine opsK_eqLow (violations_spec mostF (by decide +kernel) (by decide +kernel)) rfl rfl (by rfl) ⟨fC_pure _ _, trivial⟩ rfl ?_
 rw [most_viol, most_check]
 (refine go ?_;repeat' (apply B<;>intro hb<;>try cases hb))
 refine opsK_eq (of_val [1] 2 (by decide +kernel) true) rfl rfl rfl ⟨nums_pure _, trivial⟩ rfl ?_
 (refine go ?_;repeat' (apply B<;>intro hb<;>try cases hb))
 refine opsK_eq (of_val [1, 2] 6 (by decide +kernel) true) rfl rfl rfl ⟨nums_pure _, trivial⟩ rfl ?_
 (refine go ?_;repeat' (apply B<;>intro hb<;>try cases hb))
 refine opsK_eq (of_val [1] 2 (by decide +kernel) true) rfl rfl rfl ⟨nums_pure _, trivial⟩ rfl ?_
 (refine go ?_;repeat' (apply B<;>intro hb<;>try cases hb))
 refine opsK_eq (of_val [2] 4 (by decide +kernel) true) rfl rfl rfl ⟨nums_pure _, trivial⟩ rfl ?_
 (refine go ?_;repeat' (apply B<;>intro hb<;>try cases hb))
 refine opsK_eqLow (primesN_spec [(6, 0), (2, 4)] false (ok _ (by decide)) (by decide)) rfl rfl (by
  show [PV.vec [[.vec (lowLL (words (digs 6))) false, .vec [] false], [.vec (lowLL (words (digs 2))) false, .vec (lowLL (words (digs 4))) false]] false] = _
  rw [lowLL_words, lowLL_words, lowLL_words]
  simp only [List.map, cuC]
  rw [digs_zero]
  rfl) ⟨cubes_pure _, trivial⟩ rfl ?_
 rw [ex2.1, ex2.2]
 (refine go ?_;repeat' (apply B<;>intro hb<;>try cases hb))
 refine dK_eq (of_val [1] 2 (by decide +kernel) true) rfl rfl rfl ⟨nums_pure _, trivial⟩ ?_
 (refine go ?_;repeat' (apply B<;>intro hb<;>try cases hb))
 refine dK_low (primesN_spec [(2, 0), (0, 2)] false (ok _ (by decide)) (by decide)) rfl rfl (by
  show [PV.vec [[.vec (lowLL (words (digs 2))) false, .vec [] false], [.vec [] false, .vec (lowLL (words (digs 2))) false]] false] = _
  rw [lowLL_words]
  simp only [List.map, cuC]
  rw [digs_zero]
  rfl) ⟨cubes_pure _, trivial⟩ ?_
 rw [ex3.1, ex3.2]
 (refine go ?_;repeat' (apply B<;>intro hb<;>try cases hb))
 refine opsK_eq (of_val [1, 2] 6 (by decide +kernel) true) rfl rfl rfl ⟨nums_pure _, trivial⟩ rfl ?_
 (refine go ?_;repeat' (apply B<;>intro hb<;>try cases hb))
 refine opsK_eq (of_val [3] 8 (by decide +kernel) true) rfl rfl rfl ⟨nums_pure _, trivial⟩ rfl ?_
 (refine go ?_;repeat' (apply B<;>intro hb<;>try cases hb))
 refine opsK_eq (of_val [1] 2 (by decide +kernel) true) rfl rfl rfl ⟨nums_pure _, trivial⟩ rfl ?_
 (refine go ?_;repeat' (apply B<;>intro hb<;>try cases hb))
 refine opsK_eqLow (primesN_spec [(6, 0), (8, 2)] false (ok _ (by decide)) (by decide)) rfl rfl (by
  show [PV.vec [[.vec (lowLL (words (digs 6))) false, .vec [] false], [.vec (lowLL (words (digs 8))) false, .vec (lowLL (words (digs 2))) false]] false] = _
  rw [lowLL_words, lowLL_words, lowLL_words]
  simp only [List.map, cuC]
  rw [digs_zero]
  rfl) ⟨cubes_pure _, trivial⟩ rfl ?_
 rw [ex4.1, ex4.2]
 (refine go ?_;repeat' (apply B<;>intro hb<;>try cases hb))
 refine opsK_eq (same_spec [(6, 0), (10, 0), (12, 0)] [(6, 0), (10, 0), (12, 0)] false true (ok _ (by decide)) (ok _ (by decide))) rfl rfl rfl ⟨cubes_pure _, ras_pure _, trivial⟩ rfl ?_
 rw [sameL.2 rfl]
 (refine go ?_;repeat' (apply B<;>intro hb<;>try cases hb))
 refine opsK_eq (same_spec [(2, 0)] [(2, 0)] false true (ok _ (by decide)) (ok _ (by decide))) rfl rfl rfl ⟨cubes_pure _, ras_pure _, trivial⟩ rfl ?_
 rw [sameL.2 rfl]
 (refine go ?_;repeat' (apply B<;>intro hb<;>try cases hb))
 refine opsK_eq (same_spec [(0, 0)] [(0, 0)] false true (ok _ (by decide)) (ok _ (by decide))) rfl rfl rfl ⟨cubes_pure _, ras_pure _, trivial⟩ rfl ?_
 rw [sameL.2 rfl]
 (refine go ?_;repeat' (apply B<;>intro hb<;>try cases hb))
 refine opsK_eq (same_spec [(6, 0), (12, 0), (8, 2)] [(6, 0), (12, 0), (8, 2)] false true (ok _ (by decide)) (ok _ (by decide))) rfl rfl rfl ⟨cubes_pure _, ras_pure _, trivial⟩ rfl ?_
 rw [sameL.2 rfl]
 (refine go ?_;repeat' (apply B<;>intro hb<;>try cases hb))
 exact ret_ok rfl trivial rfl
end Go.Proofs.YtifohjijhhjdkaaGreatDoor

namespace Go.Proofs.YtifohjijhhjdkaaGreatDoor
open Go.RowKit
set_option linter.unusedVariables false
attribute [local irreducible] aw opsK dK

theorem mak_ok {a b : Nat} (ha : a < 256) (hb : b < 256) : Ok64 (makC a b) := by
 have e1 : a &&& b ≤ a := Nat.and_le_left
 have e2 : a &&& 63 ≤ a := Nat.and_le_left
 have e3 : a &&& b &&& 63 ≤ a &&& b := Nat.and_le_left
 have e4 : a &&& 63 &&& (255 - b) ≤ a &&& 63 := Nat.and_le_left
 exact ⟨by show 2 * (a &&& b &&& 63) < _; omega, by show 2 * (a &&& 63 &&& (255 - b)) < _; omega⟩
theorem fit_ok {x : RawX} (hx : RawXok x) : Ok64 (fitC x) := by
 obtain ⟨ha, hb⟩ := hx
 unfold fitC
 split
 · have e1 : x.1 &&& 254 ≤ x.1 := Nat.and_le_left
   have e2 : x.2.1 &&& 254 ≤ x.2.1 := Nat.and_le_left
   exact ⟨by show x.1 &&& 254 < _; omega, by show x.2.1 &&& 254 < _; omega⟩
 · exact mak_ok ha hb
theorem rawL_ok {l : List RawX} (hl : ∀ x ∈ l, RawXok x) : ∀ c ∈ rawL l, Ok64 c := fun c hc => by
 obtain ⟨x, hx, rfl⟩ := List.mem_map.1 hc
 exact fit_ok (hl x (List.mem_of_mem_take hx))
theorem rawL_len (l : List RawX) : (rawL l).length ≤ 8 := by rw [rawL, List.length_map, List.length_take]; omega
theorem primesL_ok (l : List Cu) : ∀ c ∈ primesL l, Ok64 c := fun c hc => by
 unfold primesL at hc
 split at hc
 · exact sortC_64 (fun c hc => prL_64 (fun r hr => mem_lt hr) hc) c hc
 · cases hc
def lisC (x : List Cu) : List PV := [.vec (x.map raC) false]
end Go.Proofs.YtifohjijhhjdkaaGreatDoor

namespace Go.Proofs.YtifohjijhhjdkaaGreatDoor
open Go.RowKit
set_option linter.unusedVariables false
section
variable {P : Program} {e : Env} {h : Heap} {n : Nat} {K : Nat → Env → Heap → Prop} {os : List AOper} {d : Option Nat}

theorem opsK_isnil {neg : Bool} {x : Operand} (hx : (∃ l fl, ev e x = some (.vec l fl)) ∨ ∃ k, ev e x = some (.own k)) (hz : h n = none) (hk : ∀ b, opsK P os n (updO e d (.val (.bool b))) h K) : opsK P (⟨d, .isnil neg x, none⟩ :: os) n e h K := by
 unfold opsK
 exact ⟨n, e, h, subA_refl, .inl (opK_isnil hx fun b => by rw [bmp_none hz]; exact hk b)⟩
theorem sub_freezeV {C : Ctx} {k id lo len : Nat} {b : Bx} (hk : e k = some (.view id lo len)) (hb : h id = some b) (hin : lo + len ≤ b.elems.length) (hp : pureLL b.elems) : Sub C n e h n (e.upd k (.vec ((b.elems.drop lo).take len) false)) (h.del id) := by
 rintro a w ⟨F, φ, s⟩
 obtain ⟨hlt, hr⟩ := s.env k _ hk
 obtain ⟨loc, base, hl, hz, hcapv, hbs, hv⟩ := hr.view_inv
 obtain ⟨loc', h1, h2, h3⟩ := s.live id b hb
 obtain rfl : loc' = loc := by rw [h1] at hl; simpa using hl
 have h2 := h2.cells hz
 have s1 : St' C (fun i => n ≤ i) e (h.del id) F φ a w := s.sub (fun _ _ h => h) (fun _ _ hh => (Heap.del_some hh).2)
 have hput : ∀ {F' : Froz}, St' C (fun i => n ≤ i) e (h.del id) F' φ a w → Rep F' φ (a.tmps.getD k undef) (.vec ((b.elems.drop lo).take len) false) → St C (fun i => n ≤ i) (e.upd k (.vec ((b.elems.drop lo).take len) false)) (h.del id) a w := fun {F'} s2 hrep => by
  refine ⟨F', φ, { s2 with env := fun j p hj => ?_ }⟩
  by_cases hjk : j = k
  · subst hjk; rw [Env.upd_same] at hj; cases hj; exact ⟨hlt, hrep⟩
  · rw [Env.upd_ne _ _ hjk] at hj; exact s2.env j p hj
 have hll : ((b.elems.drop lo).take len).length = len := by rw [List.length_take, List.length_drop]; omega
 have hget : ∀ i, i < len → ((b.elems.drop lo).take len).getD i [] = b.elems.getD (lo + i) [] := fun i hi => by
  simp only [List.getD_eq_getElem?_getD, List.getElem?_take, List.getElem?_drop, if_pos hi]
 by_cases hlo : lo < loc'.cap
 · have hc0 : loc'.cap ≠ 0 := by omega
   obtain ⟨ad, hbase, hs, cells, ct, hg, hroom, hrep⟩ := h2.room hc0
   have hhas : loc'.has ad.block := ⟨hc0, ad, hbase, rfl⟩
   have s2 := s1.frz hg (h3 _ hhas).2 (s.del_no hb h1 hhas) (h3 _ hhas).1
   have hx := frozNew_ext (h3 _ hhas).2 cells
   refine hput s2 ?_
   have hbv : base = some ⟨ad.block, ad.off + lo * loc'.esz, none⟩ := by
    rw [hbs hlo, hbase]
    show some (ad.add _) = _
    rw [add_none _ _ hs]
   rw [hv, hbv]
   conv => lhs; rw [← hll]
   have hlt2 : ∀ i j, i < b.elems.length → j < loc'.esz → ad.off + (i * loc'.esz + j) < cells.size := fun i j hi hj => by
    have := idx_lt (n := loc'.cap) (i := i) (j := j) (esz := loc'.esz) (by have := h2.cap; have := h2.len; omega) hj
    omega
   have hmul : ∀ i j, ad.off + lo * loc'.esz + (i * loc'.esz + j) = ad.off + ((lo + i) * loc'.esz + j) := fun i j => by rw [Nat.add_mul]; omega
   refine .vec ⟨ad.block, ad.off + lo * loc'.esz, none⟩ (loc'.cap - lo) loc'.esz ((b.elems.drop lo).take len) false (fun i j => cells.getD (ad.off + ((lo + i) * loc'.esz + j)) undef) (fun _ => rfl) (by rw [hll]; omega) (by simp) (by rw [hll]; have := h2.max; have := h2.len; omega) (fun i hi => ?_) (fun i j hi hj => ?_) (fun i j hi hj => ?_)
   · rw [hll] at hi
     rw [hget i hi]
     exact h2.el _ (by rw [List.getD_eq_getElem?_getD, List.getElem?_eq_getElem (by omega)]; exact List.getElem_mem _)
   · rw [hll] at hi
     show frozNew _ _ _ ⟨ad.block, ad.off + lo * loc'.esz + (i * loc'.esz + j), none⟩ = _
     rw [hmul]
     exact frozNew_at F _ _ (hlt2 (lo + i) j (by omega) hj) (hrep (lo + i) j (by rw [← h2.len]; omega) hj).1
   · rw [hll] at hi
     rw [hget i hi]
     exact (hrep (lo + i) j (by rw [← h2.len]; omega) hj).2.mono hx fun _ _ h => h
 · have hl0 : len = 0 := by omega
   subst hl0
   refine hput s1 ?_
   rw [hv, List.take_zero, show loc'.cap - lo = 0 by omega]
   cases base with
   | none => exact .vecnil false
   | some x => exact .vec (F := F) (φ := φ) x 0 0 [] false (fun _ _ => undef) (fun h => absurd rfl h) (Nat.le_refl _) (by simp) (by simp) (by simp) (by simp) (by simp)
theorem subA_freezeV {k id lo len : Nat} {b : Bx} (hk : e k = some (.view id lo len)) (hb : h id = some b) (hin : lo + len ≤ b.elems.length) (hp : pureLL b.elems) : SubA n e h n (e.upd k (.vec ((b.elems.drop lo).take len) false)) (h.del id) := fun _ => sub_freezeV hk hb hin hp
end
end Go.Proofs.YtifohjijhhjdkaaGreatDoor

namespace Go.Proofs.YtifohjijhhjdkaaGreatDoor
open Go.RowKit
set_option linter.unusedVariables false
attribute [local irreducible] aw opsK dK

set_option maxHeartbeats 1000000 in
theorem cloneC_own (xs : List Cu) (fl : Bool) (hlen : xs.length ≤ 1000000) : NSpec Tryz.prog 91 [.vec (xs.map cuC) fl] .own ⟨2, xs.map cuC⟩ := by
 refine nspec_intro ok91 (Nat.le_of_ble_eq_true rfl) fun C hC => ?_
 have fin : ∀ (x : Cu) (xs : List Cu), (∀ c ∈ (x :: xs).map cuC, c.length = 2) := fun x xs c hc => by obtain ⟨y, _, rfl⟩ := List.mem_map.1 hc; rfl
 cases xs with
 | nil =>
   (refine go ?_;repeat' (apply B<;>intro hb<;>try cases hb))
   refine opsK_isnil (.inl ⟨_, _, rfl⟩) rfl fun b => ?_
   cases b
   · repeat' (first | refine opsK_sub (subA_ownNil (k := 5) rfl 2 (by decide)) ?_ | (first|refine st ?_|(apply B<;>intro hb<;>try cases hb)))
     exact ⟨_, _, rfl, .inl rfl, _, rfl, rfl⟩
   · iterate 6 (first|refine st ?_|(apply B<;>intro hb<;>try cases hb))
     refine aw_sub (subA_ownNil (k := 2) rfl 2 (by decide) _) ?_
     (refine go ?_;repeat' (apply B<;>intro hb<;>try cases hb))
     exact ⟨_, _, rfl, .inl rfl, _, rfl, rfl⟩
 | cons x xs =>
   repeat' (first | refine opsK_sub (subA_ownNil (k := 5) rfl 2 (by decide)) ?_ | (first|refine st ?_|(apply B<;>intro hb<;>try cases hb)))
   refine opsK_new (E_append (k := 0) (m := (x :: xs).map cuC) (fl := fl) rfl rfl rfl (fin x xs) rfl (by
    show (([] : List (List PV)).length + ((x :: xs).map cuC).length) * 48 ≤ _
    rw [List.length_map, List.length_nil]; omega)) rfl rfl ?_
   (refine go ?_;repeat' (apply B<;>intro hb<;>try cases hb))
   exact ⟨_, _, rfl, .inl rfl, _, rfl, by rw [List.nil_append]; rfl⟩
def cmpR : Cu → List Cu → List Cu
 | _, [] => []
 | p, x :: r => if eqC x p then cmpR x r else x :: cmpR x r
def cmpL : List Cu → List Cu
 | [] => []
 | a :: r => a :: cmpR a r
theorem eqC_self (a : Cu) : eqC a a = true := (eqC_iff a a).2 rfl
theorem cmpR_mem : ∀ (p : Cu) (l : List Cu) (c : Cu), c ∈ cmpR p l ∨ c = p ↔ c ∈ l ∨ c = p
 | _, [], c => by simp [cmpR]
 | p, x :: r, c => by
   have ih := cmpR_mem x r c
   unfold cmpR
   cases he : eqC x p with
   | true =>
     obtain rfl := (eqC_iff _ _).1 he
     rw [if_pos rfl, ih]
     simp only [List.mem_cons]
     exact ⟨fun h => h.elim (fun h => .inl (.inr h)) .inr, fun h => h.elim (fun h => h.elim .inr .inl) .inr⟩
   | false =>
     rw [if_neg (by decide)]
     simp only [List.mem_cons]
     constructor
     · rintro ((h | h) | h)
       · exact .inl (.inl h)
       · rcases ih.1 (.inl h) with h | h
         · exact .inl (.inr h)
         · exact .inl (.inl h)
       · exact .inr h
     · rintro ((h | h) | h)
       · exact .inl (.inl h)
       · rcases ih.2 (.inl h) with h | h
         · exact .inl (.inr h)
         · exact .inl (.inl h)
       · exact .inr h
theorem cmpL_mem (l : List Cu) (c : Cu) : c ∈ cmpL l ↔ c ∈ l := by
 cases l with
 | nil => rfl
 | cons a r =>
   unfold cmpL
   rw [List.mem_cons, List.mem_cons]
   have := cmpR_mem a r c
   constructor
   · rintro (h | h)
     · exact .inl h
     · exact (this.1 (.inl h)).symm
   · rintro (h | h)
     · exact .inl h
     · exact (this.2 (.inl h)).symm
theorem cmpR_sub : ∀ (p : Cu) (l : List Cu), (cmpR p l).Sublist l
 | _, [] => List.Sublist.refl _
 | p, x :: r => by
   unfold cmpR
   split
   · exact (cmpR_sub x r).cons x
   · exact (cmpR_sub x r).cons_cons x
theorem cmpL_sub (l : List Cu) : (cmpL l).Sublist l := by
 cases l with
 | nil => exact List.Sublist.refl _
 | cons a r => exact (cmpR_sub a r).cons_cons a
theorem cmpR_cons {p x : Cu} {r : List Cu} (h : eqC x p = true) : cmpR p (x :: r) = cmpR x r := by rw [cmpR, if_pos h]
theorem cmpR_keep {p x : Cu} {r : List Cu} (h : eqC x p = false) : cmpR p (x :: r) = x :: cmpR x r := by rw [cmpR, if_neg (by rw [h]; decide)]
theorem drop_at {l : List Cu} {i : Nat} (h : i < l.length) : l.drop i = l[i] :: l.drop (i + 1) := List.drop_eq_getElem_cons h
theorem cuL_get (l : List Cu) {i : Nat} (h : i < l.length) : (l.map cuC).getD i [] = cuC l[i] := by simp [List.getD_eq_getElem?_getD, h]
theorem cut2 (c : Cu) : cutAt true 2 0 (cuC c) = some (cuP c) := rfl
section
variable {e : Env} {h : Heap} {n : Nat}
theorem E_slcO {esz : Nat} {x : Operand} {lo hi : Option Operand} {id : Nat} {b : Bx} (hx : ev e x = some (.own id)) (hb : h id = some b) (i j : Nat) (hlo : bndAt e 0 lo = some (i : Int)) (hhi : bndAt e b.elems.length hi = some (j : Int)) (hij : i ≤ j) (hj : j ≤ b.elems.length) (he : b.esz = esz) :
 fEval (.slc esz x lo hi none) e h n = some (.view id i (j - i), h) := by
 simp only [fEval, hx, hb, hlo, hhi]
 rw [if_pos ⟨⟨by omega, by omega, by omega⟩, he⟩]
 simp
theorem E_iaddrV {esz : Nat} {x i : Operand} {id lo len : Nat} {b : Bx} {k : IntKind} {m : Int} (hx : ev e x = some (.view id lo len)) (hi : ev e i = some (.val (.int k m))) (hb : h id = some b) (j : Nat) (hm : m = (j : Int)) (hj : j < len) (hl : lo + len ≤ b.elems.length) (he : b.esz = esz) :
 dEval (.iaddr esz x i) e h n = some (.ptr id (lo + j) 0, h) := by
 subst hm
 simp only [dEval, hx, hi, hb]
 rw [if_pos ⟨by omega, by omega, hl⟩, if_pos he]
 simp
theorem E_clearV {z : List Value} {x : Operand} {id lo len : Nat} {b : Bx} (hx : ev e x = some (.view id lo len)) (hb : h id = some b) (hl : lo + len ≤ b.elems.length) (he : b.esz = z.length) :
 dEval (.clear z x) e h n = some (.val (.tuple #[]), h.upd id ⟨b.esz, b.elems.take lo ++ (List.replicate len (zpv z) ++ b.elems.drop (lo + len))⟩) := by
 simp only [dEval, hx, hb]
 rw [if_pos ⟨hl, he⟩]
theorem E_loadC {a : Operand} {k i : Nat} {zs : List Cu} (ha : ev e a = some (.ptr k i 0)) (hb : h k = some ⟨2, zs.map cuC⟩) (hi : i < zs.length) : dEval (.load true 2 a) e h n = some (cuP zs[i], h) :=
 E_load ha hb (by simpa using hi) (by rw [cuL_get zs hi]; exact cut2 _)
end
theorem pureLL_mem : ∀ {l : List (List PV)}, (∀ c ∈ l, pureL c) → pureLL l
 | [], _ => trivial
 | c :: l, h => ⟨h c (List.mem_cons_self ..), pureLL_mem fun d hd => h d (List.mem_cons_of_mem _ hd)⟩
theorem take_set1 : ∀ (l : List Cu) (p : Nat) (x : Cu), p < l.length → (l.set p x).take (p + 1) = l.take p ++ [x]
 | a :: l, 0, x, _ => by simp
 | a :: l, p + 1, x, h => by
   have := take_set1 l p x (by simpa using h)
   simp [this]
theorem map_set {l : List Cu} {p : Nat} {x : Cu} (h : p < l.length) : (l.map cuC).set p (setAt ((l.map cuC).getD p []) 0 (cuP x).cells) = (l.set p x).map cuC := by
 rw [cuL_get l h, List.map_set]
 rfl
def CmpOk (xs : List Cu) (r : PV) (b' : Bx) : Prop := ∃ m, m ≤ b'.elems.length ∧ b'.esz = 2 ∧ b'.elems.take m = (cmpL xs).map cuC ∧ (r = .own 0 ∧ m = b'.elems.length ∨ r = .view 0 0 m)
theorem cmp_own {xs : List Cu} (h : cmpL xs = xs) : CmpOk xs (.own 0) ⟨2, xs.map cuC⟩ := ⟨(xs.map cuC).length, Nat.le_refl _, rfl, by rw [h, List.take_length], .inl ⟨rfl, rfl⟩⟩
set_option maxHeartbeats 4000000 in
theorem compactC_vspec (xs : List Cu) (hx : ∀ c ∈ xs, Ok64 c) (hlen : xs.length ≤ 1000000) : VSpec Tryz.prog 92 ⟨2, xs.map cuC⟩ [.own 0, .fn 42 []] (CmpOk xs) := by
 have hml : (xs.map cuC).length = xs.length := by simp
 refine ispec_intro ok92 (Nat.le_of_ble_eq_true rfl) fun C hC => ?_
 by_cases h2 : xs.length < 2
 · have hc : cmpL xs = xs := by
    match xs, h2 with
    | [], _ => rfl
    | [a], _ => rfl
   iterate 9 (first|refine st ?_|(apply B<;>intro hb<;>try cases hb))
   refine opsK_of (E_boolEq (v := true) rfl (decide_eq_true (by show ((xs.map cuC).length : Int) < 2; omega))) rfl rfl ?_
   (refine go ?_;repeat' (apply B<;>intro hb<;>try cases hb))
   exact ⟨_, _, rfl, .inl rfl, _, rfl, rfl, cubes_pure xs, cmp_own hc⟩
 · iterate 9 (first|refine st ?_|(apply B<;>intro hb<;>try cases hb))
   refine opsK_of (E_boolEq (v := false) rfl (decide_eq_false (by show ¬ ((xs.map cuC).length : Int) < 2; omega))) rfl rfl ?_
   have hpl : ∀ (l : List Cu) D, innLL D (l.map cuC) := fun l D => innLL_mono (fun _ h => h.elim) _ (cubes_pure l)
   (refine go ?_;repeat' (apply B<;>intro hb<;>try cases hb))
   refine aw_loopH hC (fun (k : Nat) => 1 ≤ k ∧ k ≤ xs.length ∧ cmpL xs = xs.take k ++ cmpR (xs.getD (k - 1) (0, 0)) (xs.drop k)) (fun k => xs.length - k) 1 (fun k => [(0, .own 0), (1, .fn 42 []), (5, .val (.int .i64 (k : Int)))]) (fun _ => [(0, ⟨2, xs.map cuC⟩)]) (by omega) 1 ⟨by omega, by omega, by
    match xs, h2 with
    | a :: r, _ => rfl⟩
    ⟨⟨rfl, show (0 : Nat) < 1 by decide⟩, ⟨rfl, trivial⟩, ⟨rfl, trivial⟩, trivial⟩ ⟨⟨by decide, rfl, hpl _ _⟩, trivial⟩ ?_
   rintro k ⟨hk1, hkl, hcmp⟩
   have hinc : IntKind.i64.wrap ((k : Int) + 1) = ((k + 1 : Nat) : Int) := IntWalk.i64_in _ ⟨by omega, by omega⟩
   have hdec : IntKind.i64.wrap ((k : Int) - 1) = ((k - 1 : Nat) : Int) := (IntWalk.i64_in _ ⟨by omega, by omega⟩).trans (by omega)
   iterate 6 (first|refine st ?_|(apply B<;>intro hb<;>try cases hb))
   by_cases hkl2 : k < xs.length
   · refine opsK_of (E_boolEq (v := true) rfl (decide_eq_true (by show (k : Int) < ((xs.map cuC).length : Int); omega))) rfl rfl ?_
     (refine go ?_;repeat' (apply B<;>intro hb<;>try cases hb))
     refine dK_of (E_iaddrO (b := ⟨2, xs.map cuC⟩) rfl rfl rfl k rfl (by show k < (xs.map cuC).length; omega) rfl) rfl rfl ?_
     refine dK_of (E_loadC (zs := xs) rfl rfl hkl2) rfl rfl ?_
     (refine go ?_;repeat' (apply B<;>intro hb<;>try cases hb))
     refine dK_of (E_iaddrO (b := ⟨2, xs.map cuC⟩) rfl rfl rfl (k - 1) hdec (by show k - 1 < (xs.map cuC).length; omega) rfl) rfl rfl ?_
     refine dK_of (E_loadC (zs := xs) rfl rfl (show k - 1 < xs.length by omega)) rfl rfl ?_
     have hok1 := hx _ (List.getElem_mem hkl2)
     have hok2 := hx _ (List.getElem_mem (show k - 1 < xs.length by omega))
     refine dK_eq (equalC_spec xs[k] xs[k - 1] hok1 hok2) rfl rfl rfl ⟨cuP_pure _, cuP_pure _, trivial⟩ ?_
     have hg1 : xs.getD (k - 1) (0, 0) = xs[k - 1] := by simp [List.getD_eq_getElem?_getD, show k - 1 < xs.length by omega]
     have hg2 : xs.getD k (0, 0) = xs[k] := by simp [List.getD_eq_getElem?_getD, hkl2]
     rw [hg1, drop_at hkl2] at hcmp
     have htk : xs.take (k + 1) = xs.take k ++ [xs[k]] := by rw [List.take_add_one, List.getElem?_eq_getElem hkl2]; rfl
     cases heq : eqC xs[k] xs[k - 1]
     case false =>
      rw [cmpR_keep heq] at hcmp
      (refine go ?_;repeat' (apply B<;>intro hb<;>try cases hb))
      exact ⟨k + 1, ⟨by omega, by omega, by rw [hcmp, htk, List.append_assoc, Nat.add_sub_cancel, hg2]; rfl⟩, by omega, ⟨⟨rfl, show (0 : Nat) < 1 by decide⟩, ⟨rfl, trivial⟩, ⟨by show some _ = some _; rw [hinc], trivial⟩, trivial⟩, ⟨⟨by decide, rfl, hpl _ _⟩, trivial⟩⟩
     rw [cmpR_cons heq] at hcmp
     (refine go ?_;repeat' (apply B<;>intro hb<;>try cases hb))
     refine opsK_ofAlt (E_slcO (b := ⟨2, xs.map cuC⟩) rfl rfl k xs.length rfl (by show some ((xs.map cuC).length : Int) = _; rw [hml]) hkl (by show xs.length ≤ (xs.map cuC).length; omega) rfl) rfl rfl ?_
     (refine go ?_;repeat' (apply B<;>intro hb<;>try cases hb))
     refine aw_loopH hC (fun (q : Nat × Nat × List Cu) => 1 ≤ q.2.1 ∧ q.2.1 ≤ xs.length - k ∧ k ≤ q.1 ∧ q.1 + 1 ≤ k + q.2.1 ∧ q.2.2.length = xs.length ∧ (∀ j, k + q.2.1 - 1 ≤ j → q.2.2.getD j (0, 0) = xs.getD j (0, 0)) ∧ cmpL xs = q.2.2.take q.1 ++ cmpR (xs.getD (k + q.2.1 - 1) (0, 0)) (xs.drop (k + q.2.1))) (fun q => xs.length - q.2.1) 1 (fun q => [(0, .own 0), (1, .fn 42 []), (5, .val (.int .i64 (q.1 : Int))), (6, .view 0 k (xs.length - k)), (7, .val (.int .i64 (q.2.1 : Int)))]) (fun q => [(0, ⟨2, q.2.2.map cuC⟩)]) (by omega) (k, 1, xs) ⟨Nat.le_refl 1, by show 1 ≤ xs.length - k; omega, Nat.le_refl _, Nat.le_refl _, rfl, fun _ _ => rfl, by show cmpL xs = xs.take k ++ cmpR (xs.getD (k + 1 - 1) (0, 0)) (xs.drop (k + 1)); rw [Nat.add_sub_cancel, hg2]; exact hcmp⟩
      ⟨⟨rfl, show (0 : Nat) < 1 by decide⟩, ⟨rfl, trivial⟩, ⟨rfl, trivial⟩, ⟨rfl, show (0 : Nat) < 1 by decide⟩, ⟨rfl, trivial⟩, trivial⟩ ⟨⟨by decide, rfl, hpl _ _⟩, trivial⟩ ?_
     rintro ⟨p, j, zs⟩ ⟨hj1, hjl, hkp, hpj, hzl, hsame, hc2⟩
     dsimp only at hj1 hjl hkp hpj hzl hsame hc2 ⊢
     have hzm : (zs.map cuC).length = xs.length := by simp [hzl]
     have hincj : IntKind.i64.wrap ((j : Int) + 1) = ((j + 1 : Nat) : Int) := IntWalk.i64_in _ ⟨by omega, by omega⟩
     have hdecj : IntKind.i64.wrap ((j : Int) - 1) = ((j - 1 : Nat) : Int) := (IntWalk.i64_in _ ⟨by omega, by omega⟩).trans (by omega)
     have hincp : IntKind.i64.wrap ((p : Int) + 1) = ((p + 1 : Nat) : Int) := IntWalk.i64_in _ ⟨by omega, by omega⟩
     iterate 6 (first|refine st ?_|(apply B<;>intro hb<;>try cases hb))
     by_cases hjl2 : j < xs.length - k
     · refine opsK_of (E_boolEq (v := true) rfl (decide_eq_true (by show (j : Int) < ((xs.length - k : Nat) : Int); omega))) rfl rfl ?_
       have hb1 : k + j < zs.length := by omega
       have hb2 : k + (j - 1) < zs.length := by omega
       have hb3 : k + j < xs.length := by omega
       have hz1 : zs[k + j] = xs.getD (k + j) (0, 0) := by rw [← hsame (k + j) (by omega)]; simp [List.getD_eq_getElem?_getD, hb1]
       have hz2 : zs[k + (j - 1)] = xs.getD (k + j - 1) (0, 0) := by rw [← hsame (k + j - 1) (by omega)]; simp [List.getD_eq_getElem?_getD, show k + j - 1 < zs.length by omega, show k + (j - 1) = k + j - 1 by omega]
       have hx1 : xs.getD (k + j) (0, 0) = xs[k + j] := by simp [List.getD_eq_getElem?_getD, hb3]
       have hx2 : xs.getD (k + j - 1) (0, 0) ∈ xs := by
        rw [List.getD_eq_getElem?_getD, List.getElem?_eq_getElem (show k + j - 1 < xs.length by omega)]
        exact List.getElem_mem _
       (refine go ?_;repeat' (apply B<;>intro hb<;>try cases hb))
       refine dK_of (E_iaddrV (b := ⟨2, zs.map cuC⟩) rfl rfl rfl j rfl hjl2 (by show k + (xs.length - k) ≤ (zs.map cuC).length; omega) rfl) rfl rfl ?_
       refine dK_of (E_loadC (zs := zs) rfl rfl hb1) rfl rfl ?_
       (refine go ?_;repeat' (apply B<;>intro hb<;>try cases hb))
       refine dK_of (E_iaddrV (b := ⟨2, zs.map cuC⟩) rfl rfl rfl (j - 1) hdecj (by omega) (by show k + (xs.length - k) ≤ (zs.map cuC).length; omega) rfl) rfl rfl ?_
       refine dK_of (E_loadC (zs := zs) rfl rfl hb2) rfl rfl ?_
       rw [hz1, hz2, hx1]
       rw [drop_at hb3] at hc2
       generalize xs.getD (k + j - 1) (0, 0) = pv at hc2 hx2 ⊢
       refine dK_eq (equalC_spec xs[k + j] pv (hx _ (List.getElem_mem hb3)) (hx _ hx2)) rfl rfl rfl ⟨cuP_pure _, cuP_pure _, trivial⟩ ?_
       have hsx : xs.getD (k + (j + 1) - 1) (0, 0) = xs[k + j] := by rw [show k + (j + 1) - 1 = k + j by omega]; exact hx1
       cases heq2 : eqC xs[k + j] pv
       · rw [cmpR_keep heq2] at hc2
         (refine go ?_;repeat' (apply B<;>intro hb<;>try cases hb))
         refine opsK_of (E_iaddrV (b := ⟨2, zs.map cuC⟩) rfl rfl rfl j rfl hjl2 (by show k + (xs.length - k) ≤ (zs.map cuC).length; omega) rfl) rfl rfl ?_
         refine opsK_of (E_loadC (zs := zs) rfl rfl hb1) rfl rfl ?_
         refine opsK_of (E_iaddrO (b := ⟨2, zs.map cuC⟩) rfl rfl rfl p rfl (by show p < (zs.map cuC).length; omega) rfl) rfl rfl ?_
         refine opsK_of (E_store (b := ⟨2, zs.map cuC⟩) (p := cuP zs[k + j]) rfl rfl rfl rfl rfl (by show p < (zs.map cuC).length; omega) (Nat.le_refl 2)) rfl rfl ?_
         rw [map_set (show p < zs.length by omega), hz1, hx1]
         (refine go ?_;repeat' (apply B<;>intro hb<;>try cases hb))
         refine ⟨(p + 1, j + 1, zs.set p xs[k + j]), ⟨by show 1 ≤ j + 1; omega, by show j + 1 ≤ xs.length - k; omega, by show k ≤ p + 1; omega, by show p + 1 + 1 ≤ k + (j + 1); omega, by show (zs.set p xs[k + j]).length = xs.length; rw [List.length_set, hzl], fun i hi => ?_, ?_⟩, by show xs.length - (j + 1) < xs.length - j; omega, ⟨⟨rfl, show (0 : Nat) < 1 by decide⟩, ⟨rfl, trivial⟩, ⟨by show some _ = some _; rw [hincp], trivial⟩, ⟨rfl, show (0 : Nat) < 1 by decide⟩, ⟨by show some _ = some _; rw [hincj], trivial⟩, trivial⟩, ⟨⟨by decide, rfl, hpl _ _⟩, trivial⟩⟩
         · have hi' : k + (j + 1) - 1 ≤ i := hi
           rw [← hsame i (by omega)]
           simp [List.getD_eq_getElem?_getD, List.getElem?_set_ne (show p ≠ i by omega)]
         · show cmpL xs = (zs.set p xs[k + j]).take (p + 1) ++ cmpR (xs.getD (k + (j + 1) - 1) (0, 0)) (xs.drop (k + (j + 1)))
           rw [hsx, take_set1 zs p _ (by omega), List.append_assoc]
           exact hc2
       · rw [cmpR_cons heq2] at hc2
         (refine go ?_;repeat' (apply B<;>intro hb<;>try cases hb))
         exact ⟨(p, j + 1, zs), ⟨by show 1 ≤ j + 1; omega, by show j + 1 ≤ xs.length - k; omega, hkp, by show p + 1 ≤ k + (j + 1); omega, hzl, fun i hi => hsame i (by have : k + (j + 1) - 1 ≤ i := hi; omega), by show cmpL xs = zs.take p ++ cmpR (xs.getD (k + (j + 1) - 1) (0, 0)) (xs.drop (k + (j + 1))); rw [hsx]; exact hc2⟩, by show xs.length - (j + 1) < xs.length - j; omega, ⟨⟨rfl, show (0 : Nat) < 1 by decide⟩, ⟨rfl, trivial⟩, ⟨rfl, trivial⟩, ⟨rfl, show (0 : Nat) < 1 by decide⟩, ⟨by show some _ = some _; rw [hincj], trivial⟩, trivial⟩, ⟨⟨by decide, rfl, hpl _ _⟩, trivial⟩⟩
     · have hjx : j = xs.length - k := by omega
       refine opsK_of (E_boolEq (v := false) rfl (decide_eq_false (by show ¬ (j : Int) < ((xs.length - k : Nat) : Int); omega))) rfl rfl ?_
       have hfin : cmpL xs = zs.take p := by rw [hc2, List.drop_eq_nil_of_le (by omega)]; simp [cmpR]
       have hpz : p ≤ (zs.map cuC).length := by omega
       (refine go ?_;repeat' (apply B<;>intro hb<;>try cases hb))
       refine opsK_ofAlt (E_slcO (b := ⟨2, zs.map cuC⟩) rfl rfl p (zs.map cuC).length rfl rfl hpz (Nat.le_refl _) rfl) rfl rfl ?_
       refine opsK_of (E_clearV (b := ⟨2, zs.map cuC⟩) rfl rfl (by show p + ((zs.map cuC).length - p) ≤ (zs.map cuC).length; omega) rfl) rfl rfl ?_
       have hy : ((zs.map cuC).take p ++ (List.replicate ((zs.map cuC).length - p) (zpv [.slice none 0 0, .slice none 0 0]) ++ (zs.map cuC).drop (p + ((zs.map cuC).length - p)))).length = xs.length := by
        simp only [List.length_append, List.length_take, List.length_replicate, List.length_drop, hzm]
        omega
       have hyt : ((zs.map cuC).take p ++ (List.replicate ((zs.map cuC).length - p) (zpv [.slice none 0 0, .slice none 0 0]) ++ (zs.map cuC).drop (p + ((zs.map cuC).length - p)))).take p = (cmpL xs).map cuC := by
        rw [List.take_append_of_le_length (by rw [List.length_take]; omega), List.take_take, Nat.min_self, hfin, List.map_take]
       have hyp : pureLL ((zs.map cuC).take p ++ (List.replicate ((zs.map cuC).length - p) (zpv [.slice none 0 0, .slice none 0 0]) ++ (zs.map cuC).drop (p + ((zs.map cuC).length - p)))) := by
        refine pureLL_mem fun c hc => ?_
        rcases List.mem_append.1 hc with h | h
        · obtain ⟨x, _, rfl⟩ := List.mem_map.1 (List.mem_of_mem_take h); exact cuC_pure x
        · rcases List.mem_append.1 h with h | h
          · rw [List.eq_of_mem_replicate h]; exact ⟨trivial, trivial, trivial⟩
          · obtain ⟨x, _, rfl⟩ := List.mem_map.1 (List.mem_of_mem_drop h); exact cuC_pure x
       generalize ((zs.map cuC).take p ++ (List.replicate ((zs.map cuC).length - p) (zpv [.slice none 0 0, .slice none 0 0]) ++ (zs.map cuC).drop (p + ((zs.map cuC).length - p)))) = ys at hy hyt hyp ⊢
       (refine go ?_;repeat' (apply B<;>intro hb<;>try cases hb))
       refine opsK_ofAlt (E_slcO (b := ⟨2, ys⟩) rfl rfl 0 p rfl rfl (Nat.zero_le _) (by show p ≤ ys.length; omega) rfl) rfl rfl ?_
       (refine go ?_;repeat' (apply B<;>intro hb<;>try cases hb))
       exact ⟨_, _, rfl, .inl rfl, ⟨2, ys⟩, rfl, rfl, hyp, p, by show p ≤ ys.length; omega, rfl, hyt, .inr rfl⟩
   · have hkx : k = xs.length := by omega
     refine opsK_of (E_boolEq (v := false) rfl (decide_eq_false (by show ¬ (k : Int) < ((xs.map cuC).length : Int); omega))) rfl rfl ?_
     have hfin : cmpL xs = xs := by rw [hcmp, hkx, List.drop_length, List.take_length]; simp [cmpR]
     (refine go ?_;repeat' (apply B<;>intro hb<;>try cases hb))
     exact ⟨_, _, rfl, .inl rfl, _, rfl, rfl, cubes_pure xs, cmp_own hfin⟩
end Go.Proofs.YtifohjijhhjdkaaGreatDoor

namespace Go.Proofs.YtifohjijhhjdkaaGreatDoor
open Go.RowKit
set_option linter.unusedVariables false

theorem tb {y i : Nat} (h : ¬ y.testBit i = true) : y.testBit i = false := by simpa using h
theorem tb2 {b : Bool} (h : ¬ b = true) : b = false := by simpa using h
theorem or_sub_iff (a s : Nat) : a ||| s = s ↔ ∀ i, a.testBit i = true → s.testBit i = true := by
 constructor
 · intro h i hi
   rw [← h, Nat.testBit_or, hi, Bool.true_or]
 · intro h
   refine Nat.eq_of_testBit_eq fun i => ?_
   rw [Nat.testBit_or]
   cases ha : a.testBit i with
   | false => rfl
   | true => rw [h i ha]; rfl
theorem and_zero_iff (a s : Nat) : a &&& s = 0 ↔ ∀ i, a.testBit i = true → s.testBit i = false := by
 constructor
 · intro h i hi
   have := congrArg (·.testBit i) h
   simp only [Nat.testBit_and, hi, Bool.true_and, Nat.zero_testBit] at this
   exact this
 · intro h
   refine Nat.eq_of_testBit_eq fun i => ?_
   rw [Nat.testBit_and, Nat.zero_testBit]
   cases ha : a.testBit i with
   | false => rfl
   | true => rw [h i ha]; rfl
theorem ho_iff (c : Cu) (s : Nat) : hoC c s = true ↔ (∀ i, c.1.testBit i = true → s.testBit i = true) ∧ ∀ i, c.2.testBit i = true → s.testBit i = false := by
 unfold hoC
 rw [Bool.and_eq_true, Bool.not_eq_true', decide_eq_true_iff, decide_eq_false_iff_not, Decidable.not_not, or_sub_iff, and_zero_iff]
theorem sub_pow_bit {y i : Nat} (h : y.testBit i = true) (j : Nat) : (y - 2 ^ i).testBit j = (y.testBit j && decide (j ≠ i)) := by
 have hle := bit_le h
 have h3 : (y ^^^ 2 ^ i) &&& 2 ^ i = 0 := by
  refine Nat.eq_of_testBit_eq fun t => ?_
  rw [Nat.testBit_and, Nat.testBit_xor, Nat.testBit_two_pow, Nat.zero_testBit]
  by_cases ht : i = t
  · subst ht; rw [h]; simp
  · simp [ht]
 have h4 : (y ^^^ 2 ^ i) ||| 2 ^ i = y := by
  refine Nat.eq_of_testBit_eq fun t => ?_
  rw [Nat.testBit_or, Nat.testBit_xor, Nat.testBit_two_pow]
  by_cases ht : i = t
  · subst ht; rw [h]; simp
  · simp [ht]
 have h5 : (y ^^^ 2 ^ i) + 2 ^ i = (y ^^^ 2 ^ i) ||| 2 ^ i := add_or h3
 have hx : y - 2 ^ i = y ^^^ 2 ^ i := by omega
 rw [hx, Nat.testBit_xor, Nat.testBit_two_pow]
 by_cases hj : i = j
 · subst hj; rw [h]; simp
 · have : j ≠ i := fun e => hj e.symm
   simp [hj, this]
def subB (a b : Nat) : Prop := ∀ i, a.testBit i = true → b.testBit i = true
theorem subB_refl (a : Nat) : subB a a := fun _ h => h
def mskTo (roles : List Nat) (S : Nat) : Nat → Nat
 | 0 => 0
 | t + 1 => mskTo roles S t + (if S.testBit (roles.getD t 0) = true then 2 ^ t else 0)
def msk (roles : List Nat) (S : Nat) : Nat := mskTo roles S roles.length
theorem mskTo_lt (roles : List Nat) (S : Nat) : ∀ t, mskTo roles S t < 2 ^ t
 | 0 => by simp [mskTo]
 | t + 1 => by
   have := mskTo_lt roles S t
   simp only [mskTo, Nat.pow_succ]
   split <;> omega
theorem mskTo_bit (roles : List Nat) (S j : Nat) : ∀ t, (mskTo roles S t).testBit j = (decide (j < t) && S.testBit (roles.getD j 0))
 | 0 => by simp [mskTo]
 | t + 1 => by
   have ih := mskTo_bit roles S j t
   have hlt := mskTo_lt roles S t
   simp only [mskTo]
   by_cases hb : S.testBit (roles.getD t 0) = true
   · rw [if_pos hb, Nat.add_comm]
     by_cases hj : j = t
     · subst hj
       rw [Nat.testBit_two_pow_add_eq, Nat.testBit_lt_two_pow hlt, hb]
       simp
     · by_cases hj2 : j < t
       · rw [Nat.testBit_two_pow_add_gt hj2, ih]
         simp [hj2, show j < t + 1 by omega]
       · have : 2 ^ t + mskTo roles S t < 2 ^ j := by
          have := Nat.pow_le_pow_right (n := 2) (by decide) (show t + 1 ≤ j by omega)
          rw [Nat.pow_succ] at this
          omega
         rw [Nat.testBit_lt_two_pow this]
         simp [show ¬ j < t + 1 by omega]
   · rw [if_neg hb, Nat.add_zero, ih]
     by_cases hj : j = t
     · subst hj; rw [tb hb, Bool.and_false, Bool.and_false]
     · by_cases hj2 : j < t
       · simp [hj2, show j < t + 1 by omega]
       · simp [hj2, show ¬ j < t + 1 by omega]
theorem msk_lt (roles : List Nat) (S : Nat) : msk roles S < 2 ^ roles.length := mskTo_lt _ _ _
theorem msk_bit (roles : List Nat) (S j : Nat) : (msk roles S).testBit j = (decide (j < roles.length) && S.testBit (roles.getD j 0)) := mskTo_bit _ _ _ _
theorem setM_bit (roles : List Nat) (m j : Nat) : (setM roles m).testBit j = true ↔ ∃ t, t < roles.length ∧ m.testBit t = true ∧ roles.getD t 0 = j := setTo_testBit roles m j _
theorem bitK_lt {k y i : Nat} (hy : y < 2 ^ k) (h : y.testBit i = true) : i < k := by
 apply Decidable.byContradiction
 intro hn
 have : y < 2 ^ i := Nat.lt_of_lt_of_le hy (Nat.pow_le_pow_right (by decide) (by omega))
 rw [Nat.testBit_lt_two_pow this] at h
 cases h
theorem ho_betw (roles : List Nat) {y n : Nat} (hy : y < 2 ^ roles.length) (hn : n < 2 ^ roles.length) (S : Nat) : hoC (setM roles y, setM roles n) S = betw y n (msk roles S) := by
 rw [Bool.eq_iff_iff, ho_iff, betw_iff]
 constructor
 · rintro ⟨h1, h2⟩
   refine ⟨fun t ht => ?_, fun t ht => ?_⟩
   · have hl := bitK_lt hy ht
     rw [msk_bit, h1 _ ((setM_bit _ _ _).2 ⟨t, hl, ht, rfl⟩)]
     simp [hl]
   · have hl := bitK_lt hn ht
     rw [msk_bit, h2 _ ((setM_bit _ _ _).2 ⟨t, hl, ht, rfl⟩)]
     simp
 · rintro ⟨h1, h2⟩
   refine ⟨fun i hi => ?_, fun i hi => ?_⟩
   · obtain ⟨t, hl, ht, rfl⟩ := (setM_bit _ _ _).1 hi
     have := h1 t ht
     rw [msk_bit, Bool.and_eq_true] at this
     exact this.2
   · obtain ⟨t, hl, ht, rfl⟩ := (setM_bit _ _ _).1 hi
     have := h2 t ht
     rw [msk_bit, decide_eq_true hl, Bool.true_and] at this
     exact this
theorem prL_mem {ok : Nat → Bool} {roles : List Nat} {c : Cu} : c ∈ prL ok roles ↔ ∃ y n, y < 2 ^ roles.length ∧ n < 2 ^ roles.length ∧ y &&& n = 0 ∧ prB roles.length ok y n = true ∧ c = (setM roles y, setM roles n) := by
 rw [prL_eq, List.mem_map]
 constructor
 · rintro ⟨p, hp, rfl⟩
   rw [List.mem_filter, cubesA_mem] at hp
   exact ⟨p.1, p.2, hp.1.1, hp.1.2.1, hp.1.2.2, hp.2, rfl⟩
 · rintro ⟨y, n, h1, h2, h3, h4, rfl⟩
   exact ⟨(y, n), List.mem_filter.2 ⟨cubesA_mem.2 ⟨h1, h2, h3⟩, h4⟩, rfl⟩
theorem prB_imp {k : Nat} {ok : Nat → Bool} {y n : Nat} (h : prB k ok y n = true) : impB k ok y n = true := by
 unfold prB at h; rw [Bool.and_eq_true] at h; exact h.1
end Go.Proofs.YtifohjijhhjdkaaGreatDoor

namespace Go.Proofs.YtifohjijhhjdkaaGreatDoor
open Go.RowKit
set_option linter.unusedVariables false

def Impl (φ : Nat → Bool) (c : Cu) : Prop := ∀ S, hoC c S = true → φ S = true
structure Prime (φ : Nat → Bool) (c : Cu) : Prop where
 dis : c.1 &&& c.2 = 0
 imp : Impl φ c
 yes : ∀ i, c.1.testBit i = true → ¬ Impl φ (c.1 - 2 ^ i, c.2)
 no : ∀ i, c.2.testBit i = true → ¬ Impl φ (c.1, c.2 - 2 ^ i)
def Dep (N : Nat) (φ : Nat → Bool) : Prop := ∀ S T, (∀ i, N.testBit i = true → S.testBit i = T.testBit i) → φ S = φ T

theorem nodup_get {l : List Nat} (h : l.Nodup) {s t : Nat} (hs : s < l.length) (ht : t < l.length) (he : l.getD s 0 = l.getD t 0) : s = t := by
 rw [List.getD_eq_getElem?_getD, List.getD_eq_getElem?_getD, List.getElem?_eq_getElem hs, List.getElem?_eq_getElem ht] at he
 have hp := List.pairwise_iff_getElem.1 h
 have he' : l[s] = l[t] := he
 rcases Nat.lt_trichotomy s t with hlt | hlt | hlt
 · exact absurd he' (hp s t hs ht hlt)
 · exact hlt
 · exact absurd he'.symm (hp t s ht hs hlt)
theorem mem_nodup (N : Nat) : (mem N).Nodup := (mem_sorted N).imp fun h => Nat.ne_of_lt h
theorem mem_getD {N t : Nat} (hN : N < 18446744073709551616) (ht : t < (mem N).length) : N.testBit ((mem N).getD t 0) = true := by
 rw [List.getD_eq_getElem?_getD, List.getElem?_eq_getElem ht]
 exact (mem_iff hN).1 (List.getElem_mem ht)
section
variable {N : Nat} (hN : N < 18446744073709551616)
include hN
theorem mem_at {i : Nat} (h : N.testBit i = true) : ∃ t, t < (mem N).length ∧ (mem N).getD t 0 = i := by
 obtain ⟨t, ht, he⟩ := List.getElem_of_mem ((mem_iff hN).2 h)
 exact ⟨t, ht, by rw [List.getD_eq_getElem?_getD, List.getElem?_eq_getElem ht]; exact he⟩
theorem setM_at {y t : Nat} (ht : t < (mem N).length) : (setM (mem N) y).testBit ((mem N).getD t 0) = y.testBit t := by
 rw [Bool.eq_iff_iff, setM_bit]
 constructor
 · rintro ⟨s, h1, h2, h3⟩
   have := nodup_get (mem_nodup N) h1 ht h3
   subst this; exact h2
 · intro h; exact ⟨t, ht, h, rfl⟩
theorem setM_msk (S i : Nat) : (setM (mem N) (msk (mem N) S)).testBit i = (N.testBit i && S.testBit i) := by
 rw [Bool.eq_iff_iff, Bool.and_eq_true, setM_bit]
 constructor
 · rintro ⟨t, h1, h2, rfl⟩
   rw [msk_bit, Bool.and_eq_true] at h2
   exact ⟨mem_getD hN h1, h2.2⟩
 · rintro ⟨h1, h2⟩
   obtain ⟨t, ht, rfl⟩ := mem_at hN h1
   exact ⟨t, ht, by rw [msk_bit, h2]; simp [ht], rfl⟩
theorem msk_setM {y : Nat} (hy : y < 2 ^ (mem N).length) : msk (mem N) (setM (mem N) y) = y := by
 refine Nat.eq_of_testBit_eq fun t => ?_
 rw [msk_bit]
 by_cases ht : t < (mem N).length
 · rw [decide_eq_true ht, Bool.true_and, setM_at hN ht]
 · rw [decide_eq_false ht, Bool.false_and]
   exact (tb fun h => ht (bitK_lt hy h)).symm
theorem setM_inj {y z : Nat} (hy : y < 2 ^ (mem N).length) (hz : z < 2 ^ (mem N).length) (h : setM (mem N) y = setM (mem N) z) : y = z := by
 rw [← msk_setM hN hy, h, msk_setM hN hz]
theorem dep_msk {φ : Nat → Bool} (hd : Dep N φ) (S : Nat) : φ (setM (mem N) (msk (mem N) S)) = φ S := hd _ _ fun i hi => by rw [setM_msk hN, hi, Bool.true_and]
theorem impl_iff {φ : Nat → Bool} (hd : Dep N φ) {y n : Nat} (hy : y < 2 ^ (mem N).length) (hn : n < 2 ^ (mem N).length) : Impl φ (setM (mem N) y, setM (mem N) n) ↔ impB (mem N).length (okM (mem N) φ) y n = true := by
 rw [impB_iff]
 constructor
 · intro h m hm hb
   exact h _ (by rw [ho_betw _ hy hn, msk_setM hN hm]; exact hb)
 · intro h S hs
   rw [ho_betw _ hy hn] at hs
   have := h _ (msk_lt _ _) hs
   rw [← dep_msk hN hd S]; exact this
theorem setM_clr {y t : Nat} (hy : y < 2 ^ (mem N).length) (ht : y.testBit t = true) : setM (mem N) y - 2 ^ ((mem N).getD t 0) = setM (mem N) (y - 2 ^ t) := by
 have hl := bitK_lt hy ht
 have hb : (setM (mem N) y).testBit ((mem N).getD t 0) = true := by rw [setM_at hN hl]; exact ht
 refine Nat.eq_of_testBit_eq fun j => ?_
 rw [sub_pow_bit hb, Bool.eq_iff_iff, Bool.and_eq_true, setM_bit, setM_bit, decide_eq_true_iff]
 constructor
 · rintro ⟨⟨s, h1, h2, rfl⟩, hne⟩
   exact ⟨s, h1, by rw [sub_pow_bit ht, h2, Bool.true_and]; exact decide_eq_true fun e => hne (by rw [e]), rfl⟩
 · rintro ⟨s, h1, h2, rfl⟩
   rw [sub_pow_bit ht, Bool.and_eq_true, decide_eq_true_iff] at h2
   exact ⟨⟨s, h1, h2.1, rfl⟩, fun e => h2.2 (nodup_get (mem_nodup N) h1 hl e)⟩
theorem clr_lt {k y t : Nat} (hy : y < 2 ^ k) : y - 2 ^ t < 2 ^ k := Nat.lt_of_le_of_lt (Nat.sub_le _ _) hy
theorem prL_prime {φ : Nat → Bool} (hd : Dep N φ) (c : Cu) : c ∈ prL (okM (mem N) φ) (mem N) ↔ Prime φ c := by
 rw [prL_mem]
 constructor
 · rintro ⟨y, n, hy, hn, hdis, hp, rfl⟩
   have hst : ∀ i, i < (mem N).length → stepB (mem N).length (okM (mem N) φ) y n i = false := fun i hi => by
    unfold prB at hp
    rw [Bool.and_eq_true, List.all_eq_true] at hp
    have := hp.2 i (List.mem_range.2 hi)
    simpa using this
   refine ⟨(and_zero_iff _ _).2 fun i hi => ?_, (impl_iff hN hd hy hn).2 (prB_imp hp), fun i hi => ?_, fun i hi => ?_⟩
   · obtain ⟨t, h1, h2, rfl⟩ := (setM_bit _ _ _).1 hi
     show (setM (mem N) n).testBit _ = false
     rw [setM_at hN h1]
     exact (and_zero_iff _ _).1 hdis t h2
   · obtain ⟨t, h1, h2, rfl⟩ := (setM_bit _ _ _).1 hi
     show ¬ Impl φ (setM (mem N) y - _, setM (mem N) n)
     rw [setM_clr hN hy h2, impl_iff hN hd (clr_lt hN hy) hn]
     have := hst t h1
     unfold stepB at this
     rw [Bool.or_eq_false_iff, h2, Bool.true_and] at this
     rw [this.1]; decide
   · obtain ⟨t, h1, h2, rfl⟩ := (setM_bit _ _ _).1 hi
     show ¬ Impl φ (setM (mem N) y, setM (mem N) n - _)
     rw [setM_clr hN hn h2, impl_iff hN hd hy (clr_lt hN hn)]
     have := hst t h1
     unfold stepB at this
     rw [Bool.or_eq_false_iff, h2, Bool.true_and] at this
     rw [this.2]; decide
 · intro h
   obtain ⟨Y, M⟩ := c
   have hd0 := (and_zero_iff _ _).1 h.dis
   have hYN : ∀ i, Y.testBit i = true → N.testBit i = true := fun i hi => by
    apply Decidable.byContradiction
    intro hni
    refine h.yes i hi fun S hs => ?_
    rw [ho_iff] at hs
    have h1 : hoC (Y, M) (S ||| 2 ^ i) = true := by
     rw [ho_iff]
     refine ⟨fun j hj => ?_, fun j hj => ?_⟩
     · rw [or_pow_testBit]
       by_cases e : i = j
       · simp [e]
       · rw [hs.1 j (by show (Y - 2 ^ i).testBit j = true; rw [sub_pow_bit hi, show Y.testBit j = true from hj]; simp; exact fun e' => e e'.symm)]; rfl
     · rw [or_pow_testBit, hs.2 j hj]
       have : i ≠ j := fun e => by subst e; have := hd0 i hi; rw [show M.testBit i = true from hj] at this; cases this
       simp [this]
    have h2 := h.imp _ h1
    rw [← h2]
    refine hd _ _ fun j hj => ?_
    rw [or_pow_testBit]
    have : i ≠ j := fun e => by subst e; exact hni hj
    simp [this]
   have hMN : ∀ i, M.testBit i = true → N.testBit i = true := fun i hi => by
    apply Decidable.byContradiction
    intro hni
    refine h.no i hi fun S hs => ?_
    rw [ho_iff] at hs
    by_cases hSi : S.testBit i = true
    · have h1 : hoC (Y, M) (S - 2 ^ i) = true := by
       rw [ho_iff]
       refine ⟨fun j hj => ?_, fun j hj => ?_⟩
       · rw [sub_pow_bit hSi, hs.1 j hj]
         have : j ≠ i := fun e => by subst e; have := hd0 j hj; rw [show M.testBit j = true from hi] at this; cases this
         simp [this]
       · rw [sub_pow_bit hSi]
         by_cases e : j = i
         · simp [e]
         · rw [hs.2 j (by show (M - 2 ^ i).testBit j = true; rw [sub_pow_bit hi, show M.testBit j = true from hj]; simp [e])]; rfl
      have h2 := h.imp _ h1
      rw [← h2]
      refine hd _ _ fun j hj => ?_
      rw [sub_pow_bit hSi]
      have : j ≠ i := fun e => by subst e; exact hni hj
      simp [this]
    · refine h.imp S ((ho_iff _ _).2 ⟨hs.1, fun j hj => ?_⟩)
      by_cases e : j = i
      · subst e; exact tb hSi
      · exact hs.2 j (by show (M - 2 ^ i).testBit j = true; rw [sub_pow_bit hi, show M.testBit j = true from hj]; simp [e])
   have eY : setM (mem N) (msk (mem N) Y) = Y := Nat.eq_of_testBit_eq fun i => by
    rw [setM_msk hN]
    cases hi : Y.testBit i with
    | false => rw [Bool.and_false]
    | true => rw [hYN i hi]; rfl
   have eM : setM (mem N) (msk (mem N) M) = M := Nat.eq_of_testBit_eq fun i => by
    rw [setM_msk hN]
    cases hi : M.testBit i with
    | false => rw [Bool.and_false]
    | true => rw [hMN i hi]; rfl
   have hy := msk_lt (mem N) Y
   have hn := msk_lt (mem N) M
   generalize msk (mem N) Y = y at *
   generalize msk (mem N) M = n at *
   subst eY
   subst eM
   refine ⟨y, n, hy, hn, (and_zero_iff _ _).2 fun t ht => ?_, prB_true ((impl_iff hN hd hy hn).1 h.imp) fun t ht => ?_, rfl⟩
   · have hl := bitK_lt hy ht
     have := hd0 ((mem N).getD t 0) (by rw [setM_at hN hl]; exact ht)
     rw [setM_at hN hl] at this; exact this
   · unfold stepB
     rw [Bool.or_eq_false_iff]
     constructor
     · cases hb : y.testBit t with
       | false => rfl
       | true =>
         rw [Bool.true_and]
         refine tb2 fun hi => h.yes ((mem N).getD t 0) (by show (setM _ _).testBit _ = true; rw [setM_at hN ht]; exact hb) ?_
         show Impl φ (setM (mem N) y - _, setM (mem N) n)
         rw [setM_clr hN hy hb]
         exact (impl_iff hN hd (clr_lt hN hy) hn).2 hi
     · cases hb : n.testBit t with
       | false => rfl
       | true =>
         rw [Bool.true_and]
         refine tb2 fun hi => h.no ((mem N).getD t 0) (by show (setM _ _).testBit _ = true; rw [setM_at hN ht]; exact hb) ?_
         show Impl φ (setM (mem N) y, setM (mem N) n - _)
         rw [setM_clr hN hn hb]
         exact (impl_iff hN hd hy (clr_lt hN hn)).2 hi
theorem prL_nodup (ok : Nat → Bool) : (prL ok (mem N)).Nodup := by
 rw [prL_eq]
 refine nodup_map (fun a ha b hb he => ?_) ((cubesA_nodup _).filter _)
 rw [List.mem_filter, cubesA_mem] at ha hb
 simp only [setP2, Prod.mk.injEq] at he
 exact Prod.ext (setM_inj hN ha.1.1 hb.1.1 he.1) (setM_inj hN ha.1.2.1 hb.1.2.1 he.2)
end
theorem sort_canon {N M : Nat} (hN : N < 18446744073709551616) (hM : M < 18446744073709551616) {φ ψ : Nat → Bool} (h1 : Dep N φ) (h2 : Dep M ψ) (he : ∀ S, φ S = ψ S) : sortC (prL (okM (mem N) φ) (mem N)) = sortC (prL (okM (mem M) ψ) (mem M)) := by
 have hfe : φ = ψ := funext he
 subst hfe
 have hp : (prL (okM (mem N) φ) (mem N)).Perm (prL (okM (mem M) φ) (mem M)) := (List.perm_ext_iff_of_nodup (prL_nodup hN _) (prL_nodup hM _)).2 fun c => by rw [prL_prime hN h1, prL_prime hM h2]
 exact sortC_unique (((sortC_perm _).trans hp)) (sortC_sorted _) fun c hc => prL_64 (fun r hr => mem_lt hr) hc
end Go.Proofs.YtifohjijhhjdkaaGreatDoor

namespace Go.Proofs.YtifohjijhhjdkaaGreatDoor
open Go.RowKit
set_option linter.unusedVariables false
attribute [local irreducible] aw opsK dK

theorem mentL_mem : ∀ {l : List Fm} {a : Fm}, a ∈ l → ∀ i, (mentF a).testBit i = true → (mentL l).testBit i = true
 | [], _, h, _, _ => by cases h
 | b :: l, a, h, i, hi => by
   simp only [mentL, Nat.testBit_or, Bool.or_eq_true]
   rcases List.mem_cons.1 h with rfl | h
   · exact .inl hi
   · exact .inr (mentL_mem h i hi)
theorem mentF_arg {f a : Fm} (h : a ∈ f.args) {i : Nat} (hi : (mentF a).testBit i = true) : (mentF f).testBit i = true := by
 rw [mentF_eq, Nat.testBit_or, Bool.or_eq_true]; exact .inr (mentL_mem h i hi)
theorem mentF_role {f : Fm} {r : Int} (h : r ∈ f.roles) : (mentF f).testBit r.toNat = true := by
 rw [mentF_eq, Nat.testBit_or, Bool.or_eq_true]; exact .inl ((rset_bit _ _).2 ⟨r, h, rfl⟩)
theorem cntM_dep {N s : Nat} : ∀ {l : List Int}, (∀ r ∈ l, N.testBit r.toNat = s.testBit r.toNat) → cntM N l = cntM s l := by
 intro l
 induction l with
 | nil => intro _; rfl
 | cons a r ih =>
   intro h
   have := ih fun x hx => h x (by simp [hx])
   simp only [cntM, List.map_cons, List.sum_cons] at *
   rw [h a (by simp), this]
theorem evM_dep {N s : Nat} (ms : List Int) : ∀ (d : Nat) (f : Fm), f.depth ≤ d → (∀ i, (mentF f).testBit i = true → N.testBit i = s.testBit i) → evM N ms f = evM s ms f := by
 intro d
 induction d with
 | zero => intro f hf; rw [Fm.depth_eq] at hf; omega
 | succ d ih =>
   rintro ⟨op, n, roles, args⟩ hf h
   have hargs : evL N ms args = evL s ms args := by
    have hd : depthL args ≤ d := by have := (Fm.mk op n roles args).depth_eq; simp only [Fm.args] at this; omega
    have : ∀ l : List Fm, (∀ a ∈ l, a ∈ args) → evL N ms l = evL s ms l := by
     intro l
     induction l with
     | nil => intro _; rfl
     | cons a r ihl =>
       intro hl
       have ha := hl a (by simp)
       obtain ⟨i, hi, he⟩ := List.getElem_of_mem ha
       have := depthL_mem hi
       simp only [evL]
       rw [ih a (by rw [← he]; omega) (fun i hi => h i (mentF_arg (f := .mk op n roles args) ha hi)), ihl fun x hx => hl x (by simp [hx])]
    exact this args fun _ h => h
   have hc : cntM N roles = cntM s roles := cntM_dep fun r hr => h _ (mentF_role (f := .mk op n roles args) hr)
   simp only [evM, opM, hargs, hc]
theorem vioB_dep (f : Fm) : Dep (mentF f) (vioB f) := fun S T h => by unfold vioB; rw [evM_dep [] f.depth f (Nat.le_refl _) h]
theorem check_lt {f : Fm} (h : checkM f = 0) : mentF f < 18446744073709551616 := mentF_lt f.depth f (Nat.le_refl _) (check_inv h).2.1
theorem emC_ho {c : Cu} (h : emC c = true) (S : Nat) : hoC c S = false := by
 apply tb2
 intro hs
 rw [ho_iff] at hs
 unfold emC at h
 refine of_decide_eq_true h ((and_zero_iff _ _).2 fun i hi => ?_)
 apply tb
 intro h2
 have := hs.2 i h2
 rw [hs.1 i hi] at this
 cases this
theorem soC_full (l : List Cu) (S : Nat) : soC (fullL l) S = soC l S := by
 unfold soC fullL
 rw [List.any_filter]
 congr 1
 funext c
 cases he : emC c with
 | false => rfl
 | true => rw [emC_ho he]; rfl
theorem soC_dep (l : List Cu) : Dep (mentC l) (soC l) := fun S T h => by
 unfold soC
 have : ∀ c ∈ l, hoC c S = hoC c T := fun c hc => by
  have hm : ∀ i, c.1.testBit i = true ∨ c.2.testBit i = true → S.testBit i = T.testBit i := fun i hi => h i (by
   rw [mentC_bit, List.any_eq_true]
   exact ⟨c, hc, by rw [Bool.or_eq_true]; exact hi⟩)
  rw [Bool.eq_iff_iff, ho_iff, ho_iff]
  constructor
  · rintro ⟨h1, h2⟩; exact ⟨fun i hi => by rw [← hm i (.inl hi)]; exact h1 i hi, fun i hi => by rw [← hm i (.inr hi)]; exact h2 i hi⟩
  · rintro ⟨h1, h2⟩; exact ⟨fun i hi => by rw [hm i (.inl hi)]; exact h1 i hi, fun i hi => by rw [hm i (.inr hi)]; exact h2 i hi⟩
 rw [Bool.eq_iff_iff, List.any_eq_true, List.any_eq_true]
 exact ⟨fun ⟨c, h1, h2⟩ => ⟨c, h1, by rw [← this c h1]; exact h2⟩, fun ⟨c, h1, h2⟩ => ⟨c, h1, by rw [this c h1]; exact h2⟩⟩
theorem full_ok {l : List Cu} (hl : ∀ c ∈ l, Ok64 c) : ∀ c ∈ fullL l, Ok64 c := fun c hc => hl c (List.mem_filter.1 hc).1
end Go.Proofs.YtifohjijhhjdkaaGreatDoor

namespace Go.Proofs.YtifohjijhhjdkaaGreatDoor
open Go.RowKit
set_option linter.unusedVariables false

theorem emC_hoF {c : Cu} (h : emC c = true) (S : Nat) : hoC c S = false := by
 apply tb2
 intro hs
 rw [ho_iff] at hs
 unfold emC at h
 refine of_decide_eq_true h ((and_zero_iff _ _).2 fun i hi => ?_)
 apply tb
 intro h2
 have := hs.2 i h2
 rw [hs.1 i hi] at this
 cases this
end Go.Proofs.YtifohjijhhjdkaaGreatDoor

namespace Go.Proofs.YtifohjijhhjdkaaGreatDoor
open Go.RowKit
set_option linter.unusedVariables false
attribute [local irreducible] aw opsK dK

theorem subA_cmp {n k : Nat} {e : Env} {h : Heap} {xs : List Cu} {r : PV} {b : Bx} (hk : e k = some r) (hb : h 0 = some b) (hp : pureLL b.elems) (hok : CmpOk xs r b) : SubA n e h n (e.upd k (.vec ((cmpL xs).map cuC) false)) (h.del 0) := by
 obtain ⟨m, hm, hesz, htake, hr⟩ := hok
 rcases hr with ⟨rfl, rfl⟩ | rfl
 · rw [List.take_length] at htake
   have := subA_freeze (n := n) hk hb hp
   rwa [htake] at this
 · have := subA_freezeV (n := n) hk hb (by omega) hp
   rwa [List.drop_zero, htake] at this
def needAt (s : List Cu) (i j : Nat) : Bool := emC (s.getD i (0, 0)) || (List.range j).any fun k => decide (k ≠ i) && (!emC (s.getD k (0, 0)) && wiC (s.getD i (0, 0)) (s.getD k (0, 0)))
theorem needAt_succ (s : List Cu) (i j : Nat) : needAt s i (j + 1) = (needAt s i j || (decide (j ≠ i) && (!emC (s.getD j (0, 0)) && wiC (s.getD i (0, 0)) (s.getD j (0, 0))))) := by
 unfold needAt
 rw [List.range_succ, List.any_append, Bool.or_assoc]
 simp
def simpTo (s : List Cu) (i : Nat) : List Cu := ((List.range i).filter fun i => !needAt s i s.length).map fun i => s.getD i (0, 0)
theorem simpTo_succ (s : List Cu) (i : Nat) : simpTo s (i + 1) = simpTo s i ++ (if needAt s i s.length then [] else [s.getD i (0, 0)]) := by
 unfold simpTo
 rw [List.range_succ, List.filter_append, List.map_append]
 cases h : needAt s i s.length <;> simp [h]
theorem simpTo_len (s : List Cu) (i : Nat) : (simpTo s i).length ≤ i := by
 unfold simpTo
 rw [List.length_map]
 have := List.length_filter_le (fun i => !needAt s i s.length) (List.range i)
 rwa [List.length_range] at this
def simL (l : List Cu) : List Cu := simpTo (cmpL (sortC l)) (cmpL (sortC l)).length
set_option maxHeartbeats 4000000 in
theorem simple_spec (l : List Cu) (fl : Bool) (hl : ∀ c ∈ l, Ok64 c) (hlen : l.length ≤ 1000000) : Spec Tryz.prog 48 [.vec (l.map cuC) fl] (· = .vec ((simL l).map cuC) false) := by
 refine spec_intro ok48 (Nat.le_of_ble_eq_true rfl) fun C hC => ?_
 (refine go ?_;repeat' (apply B<;>intro hb<;>try cases hb))
 refine opsK_own (cloneC_own l fl hlen) mk_own (cubes_pure _) rfl rfl ⟨cubes_pure _, trivial⟩ ?_
 (refine go ?_;repeat' (apply B<;>intro hb<;>try cases hb))
 refine opsK_heap rfl rfl (sortC_ispec (ob := 0) l hl rfl) ?_
 rintro n' r h' ⟨rfl, rfl, ys, hperm, hsort, rfl⟩
 obtain rfl := sortC_unique hperm hsort hl
 have h64 : ∀ c ∈ sortC l, Ok64 c := sortC_64 hl
 have hsl : (sortC l).length = l.length := (sortC_perm l).length_eq
 have hcl : (cmpL (sortC l)).length ≤ l.length := by rw [← hsl]; exact (cmpL_sub _).length_le
 have hc64 : ∀ c ∈ cmpL (sortC l), Ok64 c := fun c hc => h64 c ((cmpL_mem _ c).1 hc)
 unfold simL
 (refine go ?_;repeat' (apply B<;>intro hb<;>try cases hb))
 refine opsK_heap rfl rfl ((compactC_vspec (sortC l) h64 (by omega)).ispec (cubes_pure _) ⟨rfl, trivial, trivial⟩ rfl) ?_
 rintro n' r h' ⟨rfl, b', -, hpb, hok, rfl⟩
 refine opsK_sub (subA_cmp (k := 15) rfl rfl hpb hok) ?_
 generalize cmpL (sortC l) = s at hcl hc64 ⊢
 have hsm : (s.map cuC).length = s.length := by simp
 have hpl : ∀ (l : List Cu) D, innLL D (l.map cuC) := fun l D => innLL_mono (fun _ h => h.elim) _ (cubes_pure l)
 repeat' (first | refine opsK_sub (subA_ownNil (k := 4) rfl 2 (by decide)) ?_ | (first|refine st ?_|(apply B<;>intro hb<;>try cases hb)))
 refine aw_loopR hC (fun i => i ≤ s.length) (fun i => s.length - i) 2 (fun i => [(3, .vec (s.map cuC) false), (4, .own 1), (16, .vec (s.map cuC) false), (17, .val (.int .i64 s.length)), (18, .val (.int .i64 (i : Int)))])
  (fun i => [(1, ⟨2, (simpTo s i).map cuC⟩)]) (by omega) 0 (Nat.zero_le _) (fun i => i) (fun _ _ => rfl) injOn_id
  ⟨⟨_, rfl, .pure _ (cubes_pure s)⟩, ⟨_, rfl, .own 1 (by decide)⟩, ⟨_, rfl, .pure _ (cubes_pure s)⟩, ⟨_, by rw [← hsm]; rfl, .pure _ trivial⟩, ⟨_, rfl, .pure _ trivial⟩, trivial⟩
  ⟨⟨by decide, _, rfl, .same _ trivial⟩, trivial⟩ ?_
 intro i hi
 have hinc : IntKind.i64.wrap ((i : Int) + 1) = ((i + 1 : Nat) : Int) := IntWalk.i64_in _ ⟨by omega, by omega⟩
 have hts := simpTo_succ s i
 have htl := simpTo_len s i
 iterate 2 (first|refine st ?_|(apply B<;>intro hb<;>try cases hb))
 refine opsK_bool rfl rfl rfl (fun hb => ?_) (fun hb => ?_)
 · have hil : i < s.length := by have := of_decide_eq_true hb; omega
   have hgi : s.getD i (0, 0) = s[i] := by simp [List.getD_eq_getElem?_getD, hil]
   have hci := hc64 _ (List.getElem_mem hil)
   clear hb
   (refine go ?_;repeat' (apply B<;>intro hb<;>try cases hb))
   refine opsK_of (E_iaddr (xs := s) (g := cuC) rfl rfl i rfl hil rfl) rfl rfl ?_
   rw [hgi] at hts
   have hns := fun j => needAt_succ s i j
   have hn0 : needAt s i 0 = emC s[i] := by unfold needAt; rw [hgi]; simp
   rw [hgi] at hns
   generalize s[i] = c at hci hts hns hn0 ⊢
   iterate 7 (first|refine st ?_|(apply B<;>intro hb<;>try cases hb))
   refine opsK_sub (subA_freezeBox (k := 6) (l := cuC c) rfl rfl (cuC_pure c)) ?_
   (refine go ?_;repeat' (apply B<;>intro hb<;>try cases hb))
   refine opsK_eq (emptyC_spec c hci) rfl rfl rfl ⟨cuP_pure c, trivial⟩ rfl ?_
   rw [← hn0]
   refine gv ?_
   refine aw_loopH hC (fun j => j ≤ s.length) (fun j => s.length - j) 2 (fun j => [(3, .vec (s.map cuC) false), (4, .own 1), (5, .val (.int .i64 (i : Int))), (6, .cp (cuC c)), (7, .val (.bool (needAt s i j))), (16, .vec (s.map cuC) false), (17, .val (.int .i64 s.length)), (18, .val (.int .i64 (i : Int))), (25, .vec (s.map cuC) false), (26, .val (.int .i64 s.length)), (27, .val (.int .i64 (j : Int)))])
    (fun _ => [(1, ⟨2, (simpTo s i).map cuC⟩)]) (by omega) 0 (Nat.zero_le _)
    ⟨⟨rfl, hpl _ _⟩, ⟨rfl, show (1 : Nat) < 2 by decide⟩, ⟨rfl, trivial⟩, ⟨rfl, words_inn _ _, words_inn _ _, trivial⟩, ⟨rfl, trivial⟩, ⟨rfl, hpl _ _⟩, ⟨rfl, trivial⟩, ⟨rfl, trivial⟩, ⟨rfl, hpl _ _⟩, ⟨by rw [← hsm]; rfl, trivial⟩, ⟨rfl, trivial⟩, trivial⟩ ⟨⟨by decide, rfl, hpl _ _⟩, trivial⟩ ?_
   intro j hj
   have hincj : IntKind.i64.wrap ((j : Int) + 1) = ((j + 1 : Nat) : Int) := IntWalk.i64_in _ ⟨by omega, by omega⟩
   have hnj := hns j
   iterate 2 (first|refine st ?_|(apply B<;>intro hb<;>try cases hb))
   refine opsK_bool rfl rfl rfl (fun hb => ?_) (fun hb => ?_)
   · have hjl : j < s.length := by have := of_decide_eq_true hb; omega
     have hgj : s.getD j (0, 0) = s[j] := by simp [List.getD_eq_getElem?_getD, hjl]
     have hcj := hc64 _ (List.getElem_mem hjl)
     clear hb
     have hfin : ∀ v, needAt s i (j + 1) = v → some (PV.val (.bool v)) = some (PV.val (.bool (needAt s i (j + 1)))) := fun v h => by rw [h]
     rw [hgj] at hnj
     (refine go ?_;repeat' (apply B<;>intro hb<;>try cases hb))
     refine opsK_of (E_iaddr (xs := s) (g := cuC) rfl rfl j rfl hjl rfl) rfl rfl ?_
     generalize s[j] = d at hcj hnj ⊢
     generalize needAt s i j = v at hnj ⊢
     cases v
     · (refine go ?_;repeat' (apply B<;>intro hb<;>try cases hb))
       · have hne : j ≠ i := fun e => by rw [e] at hb; simp at hb
         rw [Bool.false_or, decide_eq_true hne, Bool.true_and] at hnj
         refine opsK_eq (emptyC_spec d hcj) rfl rfl rfl ⟨cuP_pure d, trivial⟩ rfl ?_
         generalize emC d = v2 at hnj ⊢
         cases v2
         · rw [Bool.not_false, Bool.true_and] at hnj
           (refine go ?_;repeat' (apply B<;>intro hb<;>try cases hb))
           refine opsK_eq (withinC_spec c d hci hcj) rfl rfl rfl ⟨cuP_pure c, cuP_pure d, trivial⟩ rfl ?_
           refine gv ?_
           exact ⟨j + 1, by omega, by omega, ⟨⟨rfl, hpl _ _⟩, ⟨rfl, show (1 : Nat) < 2 by decide⟩, ⟨rfl, trivial⟩, ⟨rfl, words_inn _ _, words_inn _ _, trivial⟩, ⟨by rw [hnj]; rfl, trivial⟩, ⟨rfl, hpl _ _⟩, ⟨rfl, trivial⟩, ⟨rfl, trivial⟩, ⟨rfl, hpl _ _⟩, ⟨rfl, trivial⟩, ⟨by show some _ = some _; rw [hincj], trivial⟩, trivial⟩, ⟨⟨by decide, rfl, hpl _ _⟩, trivial⟩⟩
         · rw [Bool.not_true, Bool.false_and] at hnj
           (refine go ?_;repeat' (apply B<;>intro hb<;>try cases hb))
           exact ⟨j + 1, by omega, by omega, ⟨⟨rfl, hpl _ _⟩, ⟨rfl, show (1 : Nat) < 2 by decide⟩, ⟨rfl, trivial⟩, ⟨rfl, words_inn _ _, words_inn _ _, trivial⟩, ⟨by rw [hnj]; rfl, trivial⟩, ⟨rfl, hpl _ _⟩, ⟨rfl, trivial⟩, ⟨rfl, trivial⟩, ⟨rfl, hpl _ _⟩, ⟨rfl, trivial⟩, ⟨by show some _ = some _; rw [hincj], trivial⟩, trivial⟩, ⟨⟨by decide, rfl, hpl _ _⟩, trivial⟩⟩
       · have hne : j = i := by
          have h := hb
          simp at h
          omega
         rw [Bool.false_or, decide_eq_false (fun h => h hne), Bool.false_and] at hnj
         exact ⟨j + 1, by omega, by omega, ⟨⟨rfl, hpl _ _⟩, ⟨rfl, show (1 : Nat) < 2 by decide⟩, ⟨rfl, trivial⟩, ⟨rfl, words_inn _ _, words_inn _ _, trivial⟩, ⟨by rw [hnj]; rfl, trivial⟩, ⟨rfl, hpl _ _⟩, ⟨rfl, trivial⟩, ⟨rfl, trivial⟩, ⟨rfl, hpl _ _⟩, ⟨rfl, trivial⟩, ⟨by show some _ = some _; rw [hincj], trivial⟩, trivial⟩, ⟨⟨by decide, rfl, hpl _ _⟩, trivial⟩⟩
     · rw [Bool.true_or] at hnj
       (refine go ?_;repeat' (apply B<;>intro hb<;>try cases hb))
       exact ⟨j + 1, by omega, by omega, ⟨⟨rfl, hpl _ _⟩, ⟨rfl, show (1 : Nat) < 2 by decide⟩, ⟨rfl, trivial⟩, ⟨rfl, words_inn _ _, words_inn _ _, trivial⟩, ⟨by rw [hnj]; rfl, trivial⟩, ⟨rfl, hpl _ _⟩, ⟨rfl, trivial⟩, ⟨rfl, trivial⟩, ⟨rfl, hpl _ _⟩, ⟨rfl, trivial⟩, ⟨by show some _ = some _; rw [hincj], trivial⟩, trivial⟩, ⟨⟨by decide, rfl, hpl _ _⟩, trivial⟩⟩
   · have hjl : j = s.length := by have := of_decide_eq_false hb; omega
     subst hjl
     clear hb
     generalize needAt s i s.length = v at hts ⊢
     cases v
     · rw [if_neg (by decide)] at hts
       (refine go ?_;repeat' (apply B<;>intro hb<;>try cases hb))
       refine opsK_new (E_append (k := 1) (m := [cuC c]) (fl := true) rfl rfl rfl (fun q hq => by rw [List.mem_singleton] at hq; subst hq; rfl) rfl (by
        show (((simpTo s i).map cuC).length + 1) * 48 ≤ _
        rw [List.length_map]; omega)) rfl rfl ?_
       (refine go ?_;repeat' (apply B<;>intro hb<;>try cases hb))
       refine ⟨i + 1, mv 1 2, by omega, by omega, fun i hi => absurd hi (Nat.not_lt_zero i), injOn_of rfl, ⟨⟨_, rfl, .pure _ (cubes_pure s)⟩, ⟨_, rfl, .own 1 (by decide)⟩, ⟨_, rfl, .pure _ (cubes_pure s)⟩, ⟨_, rfl, .pure _ trivial⟩, ⟨_, by show some _ = some _; rw [hinc], .pure _ trivial⟩, trivial⟩, ⟨⟨by decide, _, rfl, ?_⟩, trivial⟩⟩
       show RenB _ _ ⟨2, (simpTo s i).map cuC ++ [cuC c]⟩ ⟨2, (simpTo s (i + 1)).map cuC⟩
       rw [hts, List.map_append]
       exact .same _ (by rw [← List.map_singleton, ← List.map_append]; exact cubes_pure _)
     · rw [if_pos rfl, List.append_nil] at hts
       (refine go ?_;repeat' (apply B<;>intro hb<;>try cases hb))
       exact ⟨i + 1, fun i => i, by omega, by omega, fun _ _ => rfl, injOn_id, ⟨⟨_, rfl, .pure _ (cubes_pure s)⟩, ⟨_, rfl, .own (ρ := fun i => i) 1 (by decide)⟩, ⟨_, rfl, .pure _ (cubes_pure s)⟩, ⟨_, rfl, .pure _ trivial⟩, ⟨_, by show some _ = some _; rw [hinc], .pure _ trivial⟩, trivial⟩, ⟨⟨by decide, _, rfl, by rw [hts]; exact .same _ (cubes_pure _)⟩, trivial⟩⟩
 · have hil : i = s.length := by have := of_decide_eq_false hb; omega
   subst hil
   clear hb
   repeat' (first | refine opsK_sub (subA_freeze (k := 4) rfl rfl (cubes_pure _)) ?_ | (first|refine st ?_|(apply B<;>intro hb<;>try cases hb)))
   exact ret_ok rfl (cubes_pure _) rfl
end Go.Proofs.YtifohjijhhjdkaaGreatDoor

namespace Go.Proofs.YtifohjijhhjdkaaGreatDoor
open Go.RowKit
set_option linter.unusedVariables false

theorem ex_bit0 {x : Nat} (h : x ≠ 0) : ∃ i, x.testBit i = true := by
 apply Classical.byContradiction
 intro hn
 exact h (Nat.eq_of_testBit_eq fun i => by rw [Nat.zero_testBit]; exact tb fun hi => hn ⟨i, hi⟩)
def yesF (c : Cu) : Fm := .mk 12 0 [] [.mk 5 0 (intsN (mem c.1)) [], .mk 1 ((mem c.1).length : Nat) [] []]
def noF (c : Cu) : Fm := .mk 14 0 [] [.mk 5 0 (intsN (mem c.2)) [], .mk 1 0 [] []]
def outF (c : Cu) : Fm := if c.1 = 0 then .mk 3 0 [] [] else yesF c
def clsF (c : Cu) : Fm := if c.2 = 0 then outF c else if c.1 = 0 then noF c else .mk 9 0 [] [outF c, noF c]
def allN : Nat → List Fm → Fm
 | 0, l => l.headD (.mk 2 0 [] [])
 | n + 1, l => if l.length ≤ 1 then l.headD (.mk 2 0 [] []) else .mk 8 0 [] [allN n (l.take (l.length / 2)), allN n (l.drop (l.length / 2))]

theorem cmpR_nodup : ∀ (l : List Cu) (p : Cu), (p :: l).Pairwise (fun a b => keyC a ≤ keyC b) → (∀ c ∈ p :: l, Ok64 c) → p ∉ cmpR p l ∧ (cmpR p l).Nodup
 | [], p, _, _ => ⟨by simp [cmpR], by simp [cmpR]⟩
 | x :: r, p, hs, h64 => by
   obtain ⟨hp, hs2⟩ := List.pairwise_cons.1 hs
   obtain ⟨i1, i2⟩ := cmpR_nodup r x hs2 fun c hc => h64 c (List.mem_cons_of_mem _ hc)
   cases he : eqC x p with
   | true =>
     obtain rfl := (eqC_iff _ _).1 he
     rw [cmpR_cons he]
     exact ⟨i1, i2⟩
   | false =>
     rw [cmpR_keep he]
     refine ⟨fun hm => ?_, List.nodup_cons.2 ⟨i1, i2⟩⟩
     have hne : p ≠ x := fun e => by rw [e, eqC_self] at he; cases he
     rcases List.mem_cons.1 hm with h | h
     · exact hne h
     · have hr : p ∈ r := (cmpR_sub x r).subset h
       have k1 := hp x (List.mem_cons_self ..)
       have k2 := (List.pairwise_cons.1 hs2).1 p hr
       exact hne (keyC_inj (h64 p (List.mem_cons_self ..)) (h64 x (by simp)) (Nat.le_antisymm k1 k2))
theorem cmpL_nodup {l : List Cu} (hl : ∀ c ∈ l, Ok64 c) : (cmpL (sortC l)).Nodup := by
 have hs := sortC_sorted l
 have h64 := sortC_64 hl
 cases h : sortC l with
 | nil => exact List.nodup_nil
 | cons a r =>
   rw [h] at hs h64
   exact List.nodup_cons.2 (cmpR_nodup r a hs h64)
theorem getC {s : List Cu} {i : Nat} (h : i < s.length) : s.getD i (0, 0) = s[i] := by simp [List.getD_eq_getElem?_getD, h]
theorem need_iff (s : List Cu) (i : Nat) : needAt s i s.length = false ↔ emC (s.getD i (0, 0)) = false ∧ ∀ k, k < s.length → k ≠ i → emC (s.getD k (0, 0)) = false → wiC (s.getD i (0, 0)) (s.getD k (0, 0)) = false := by
 unfold needAt
 rw [Bool.or_eq_false_iff, List.any_eq_false]
 refine and_congr_right fun _ => ?_
 constructor
 · intro h k hk hne he
   have := h k (List.mem_range.2 hk)
   rw [decide_eq_true hne, he] at this
   simpa using this
 · intro h k hk
   by_cases hne : k = i
   · simp [hne]
   · cases he : emC (s.getD k (0, 0)) with
     | true => simp
     | false => rw [h k (List.mem_range.1 hk) hne he]; simp
theorem simpTo_mem {s : List Cu} {n : Nat} (hn : n ≤ s.length) {c : Cu} (h : c ∈ simpTo s n) : c ∈ s ∧ emC c = false := by
 obtain ⟨i, hi, rfl⟩ := List.mem_map.1 h
 obtain ⟨h1, h2⟩ := List.mem_filter.1 hi
 rw [List.mem_range] at h1
 have h3 := ((need_iff s i).1 (by simpa using h2)).1
 exact ⟨by rw [getC (show i < s.length by omega)]; exact List.getElem_mem _, h3⟩
theorem simL_mem {l : List Cu} {c : Cu} (h : c ∈ simL l) : c ∈ l ∧ emC c = false := by
 obtain ⟨h1, h2⟩ := simpTo_mem (Nat.le_refl _) h
 exact ⟨(sortC_perm l).mem_iff.1 ((cmpL_mem _ _).1 h1), h2⟩
theorem wi_sub {a b : Cu} (he : emC a = false) (h : wiC a b = true) : subB b.1 a.1 ∧ subB b.2 a.2 := by
 unfold wiC at h
 rw [he, Bool.false_or, Bool.and_eq_true] at h
 exact ⟨(or_sub_iff _ _).1 (of_decide_eq_true h.1), (or_sub_iff _ _).1 (of_decide_eq_true h.2)⟩
theorem sub_le {a b : Nat} (h : subB a b) : a ≤ b := by
 have : a ||| b = b := (or_sub_iff _ _).2 h
 rw [← this]
 exact Nat.left_le_or
theorem simp_max {s : List Cu} (hn : s.Nodup) : ∀ (m i : Nat) (hi : i < s.length), s[i].1 + s[i].2 ≤ m → emC s[i] = false → ∃ d ∈ simpTo s s.length, subB d.1 s[i].1 ∧ subB d.2 s[i].2 := by
 intro m
 have key : ∀ m, (∀ (i : Nat) (hi : i < s.length), s[i].1 + s[i].2 < m → emC s[i] = false → ∃ d ∈ simpTo s s.length, subB d.1 s[i].1 ∧ subB d.2 s[i].2) → ∀ (i : Nat) (hi : i < s.length), s[i].1 + s[i].2 ≤ m → emC s[i] = false → ∃ d ∈ simpTo s s.length, subB d.1 s[i].1 ∧ subB d.2 s[i].2 := by
  intro m ih i hi hm he
  cases hnd : needAt s i s.length with
  | false => exact ⟨s[i], List.mem_map.2 ⟨i, List.mem_filter.2 ⟨List.mem_range.2 hi, by rw [hnd]; rfl⟩, getC hi⟩, subB_refl _, subB_refl _⟩
  | true =>
    have : ∃ k, ∃ hk : k < s.length, k ≠ i ∧ emC s[k] = false ∧ wiC s[i] s[k] = true := by
     apply Classical.byContradiction
     intro hno
     have : needAt s i s.length = false := (need_iff s i).2 ⟨by rw [getC hi]; exact he, fun k hk hne hek => by
      rw [getC hk] at hek ⊢
      rw [getC hi]
      exact tb2 fun hw => hno ⟨k, hk, hne, hek, hw⟩⟩
     rw [hnd] at this; cases this
    obtain ⟨k, hk, hne, hek, hw⟩ := this
    obtain ⟨s1, s2⟩ := wi_sub he hw
    have l1 := sub_le s1
    have l2 := sub_le s2
    have hlt : s[k].1 + s[k].2 < m := by
     apply Classical.byContradiction
     intro hge
     have e1 : s[k].1 = s[i].1 := by omega
     have e2 : s[k].2 = s[i].2 := by omega
     have e3 : s[k] = s[i] := Prod.ext e1 e2
     have hp := List.pairwise_iff_getElem.1 hn
     rcases Nat.lt_trichotomy k i with h | h | h
     · exact hp k i hk hi h e3
     · exact hne h
     · exact hp i k hi hk h e3.symm
    obtain ⟨d, d1, d2, d3⟩ := ih k hk hlt hek
    exact ⟨d, d1, fun j hj => s1 j (d2 j hj), fun j hj => s2 j (d3 j hj)⟩
 induction m with
 | zero => exact key 0 fun i hi h => absurd h (Nat.not_lt_zero _)
 | succ m ih => exact key (m + 1) fun i hi h => ih i hi (by omega)
theorem ho_mono {c d : Cu} (h1 : subB d.1 c.1) (h2 : subB d.2 c.2) {S : Nat} (h : hoC c S = true) : hoC d S = true := by
 rw [ho_iff] at h ⊢
 exact ⟨fun i hi => h.1 i (h1 i hi), fun i hi => h.2 i (h2 i hi)⟩
theorem simL_so {l : List Cu} (hl : ∀ c ∈ l, Ok64 c) (S : Nat) : soC (simL l) S = soC l S := by
 rw [Bool.eq_iff_iff]
 unfold soC
 rw [List.any_eq_true, List.any_eq_true]
 constructor
 · rintro ⟨c, hc, hs⟩
   exact ⟨c, (simL_mem hc).1, hs⟩
 · rintro ⟨c, hc, hs⟩
   have he : emC c = false := tb2 fun he => by rw [emC_hoF he] at hs; cases hs
   obtain ⟨i, hi, rfl⟩ := List.getElem_of_mem ((cmpL_mem _ _).2 ((sortC_perm l).mem_iff.2 hc))
   obtain ⟨d, d1, d2, d3⟩ := simp_max (cmpL_nodup hl) _ i hi (Nat.le_refl _) he
   exact ⟨d, d1, ho_mono d2 d3 hs⟩
def litC (c : Cu) : Nat := (mem c.1).length + (mem c.2).length
def litL (l : List Cu) : Nat := (l.map litC).sum
theorem sum_sub {l m : List Cu} (h : l.Sublist m) : litL l ≤ litL m := by
 induction h with
 | slnil => exact Nat.le_refl _
 | cons a _ ih => simp only [litL, List.map_cons, List.sum_cons] at *; omega
 | cons_cons a _ ih => simp only [litL, List.map_cons, List.sum_cons] at *; omega
theorem simpTo_sub (s : List Cu) : ∀ n, n ≤ s.length → (simpTo s n).Sublist (s.take n)
 | 0, _ => by simp [simpTo]
 | n + 1, h => by
   rw [simpTo_succ, List.take_add_one, List.getElem?_eq_getElem (show n < s.length by omega)]
   refine (simpTo_sub s n (by omega)).append ?_
   rw [getC (show n < s.length by omega)]
   split
   · exact List.nil_sublist _
   · exact List.Sublist.refl _
theorem simL_sub (l : List Cu) : (simL l).Sublist (sortC l) := by
 have := simpTo_sub (cmpL (sortC l)) _ (Nat.le_refl _)
 rw [List.take_length] at this
 exact this.trans (cmpL_sub _)
theorem simL_lit (l : List Cu) : litL (simL l) ≤ litL l := by
 have h1 := sum_sub (simL_sub l)
 have h2 : litL (sortC l) = litL l := ((sortC_perm l).map litC).sum_nat
 omega
theorem simL_nodup {l : List Cu} (hl : ∀ c ∈ l, Ok64 c) : (simL l).Nodup := by
 have := simpTo_sub (cmpL (sortC l)) _ (Nat.le_refl _)
 rw [List.take_length] at this
 exact (cmpL_nodup hl).sublist this
theorem simL_len {l : List Cu} (hl : ∀ c ∈ l, Ok64 c) : (simL l).length ≤ litL l + 1 := by
 have h0 := simL_lit l
 have key : ∀ l : List Cu, l.Nodup → (∀ c ∈ l, Ok64 c) → l.length ≤ litL l + 1 := by
  intro l hn h64
  have hz : ∀ c : Cu, Ok64 c → litC c = 0 → c = (0, 0) := fun c hc h => by
   unfold litC at h
   have z : ∀ {x : Nat}, x < 18446744073709551616 → (mem x).length = 0 → x = 0 := fun {x} hx h => by
    apply Classical.byContradiction
    intro hne
    obtain ⟨i, hi⟩ := ex_bit0 hne
    have := (mem_iff hx).2 hi
    rw [List.eq_nil_of_length_eq_zero h] at this
    cases this
   exact Prod.ext (z hc.1 (by omega)) (z hc.2 (by omega))
  have hge : ∀ m : List Cu, (∀ c ∈ m, Ok64 c) → (0, 0) ∉ m → m.length ≤ litL m := by
   intro m
   induction m with
   | nil => intro _ _; exact Nat.le_refl _
   | cons a m ih =>
     intro h6 hno
     have := ih (fun c hc => h6 c (List.mem_cons_of_mem _ hc)) fun h => hno (List.mem_cons_of_mem _ h)
     have ha : litC a ≠ 0 := fun h => hno (by rw [← hz a (h6 a (List.mem_cons_self ..)) h]; exact List.mem_cons_self ..)
     simp only [litL, List.map_cons, List.sum_cons, List.length_cons] at *
     omega
  by_cases hin : (0, 0) ∈ l
  · obtain ⟨a, b, rfl⟩ := List.append_of_mem hin
    have hn2 := List.nodup_append.1 hn
    have hn3 := List.nodup_cons.1 hn2.2.1
    have h1 := hge a (fun c hc => h64 c (by simp [hc])) fun h => hn2.2.2 _ h _ (List.mem_cons_self ..) rfl
    have h2 := hge b (fun c hc => h64 c (by simp [hc])) hn3.1
    simp only [litL, List.map_append, List.map_cons, List.sum_append, List.sum_cons, List.length_append, List.length_cons] at *
    omega
  · have := hge l h64 hin
    omega
 have := key (simL l) (simL_nodup hl) fun c hc => hl c (simL_mem hc).1
 omega
end Go.Proofs.YtifohjijhhjdkaaGreatDoor

namespace Go.Proofs.YtifohjijhhjdkaaGreatDoor
open Go.RowKit
set_option linter.unusedVariables false

theorem cnt_nat (S : Nat) : ∀ l : List Nat, cntM S (intsN l) = (l.countP (fun i => S.testBit i) : Nat)
 | [] => rfl
 | a :: l => by
   have ih := cnt_nat S l
   simp only [cntM, intsN, List.map_cons, List.sum_cons] at ih ⊢
   rw [ih, List.countP_cons]
   cases h : S.testBit a <;> simp [h, b2i] <;> omega
theorem ev_yes (S : Nat) (c : Cu) : evM S [] (yesF c) = b2i (!(mem c.1).all fun i => S.testBit i) := by
 have e : evM S [] (yesF c) = b2i (decide (cntM S (intsN (mem c.1)) < ((mem c.1).length : Nat))) := rfl
 rw [e, cnt_nat]
 congr 1
 have h1 := List.countP_le_length (p := fun i => S.testBit i) (l := mem c.1)
 have h2 := List.countP_eq_length (p := fun i => S.testBit i) (l := mem c.1)
 cases h : (mem c.1).all fun i => S.testBit i with
 | true =>
   have := h2.2 (List.all_eq_true.1 h)
   exact decide_eq_false (by omega)
 | false =>
   refine decide_eq_true ?_
   have : (mem c.1).countP (fun i => S.testBit i) ≠ (mem c.1).length := fun e => by rw [List.all_eq_true.2 (h2.1 e)] at h; cases h
   omega
theorem ev_no (S : Nat) (c : Cu) : evM S [] (noF c) = b2i ((mem c.2).any fun i => S.testBit i) := by
 have e : evM S [] (noF c) = b2i (decide (cntM S (intsN (mem c.2)) > 0)) := rfl
 rw [e, cnt_nat]
 congr 1
 have h2 := List.countP_pos_iff (p := fun i => S.testBit i) (l := mem c.2)
 cases h : (mem c.2).any fun i => S.testBit i with
 | true =>
   have := h2.2 (List.any_eq_true.1 h)
   exact decide_eq_true (by omega)
 | false =>
   refine decide_eq_false fun hp => ?_
   rw [List.any_eq_true.2 (h2.1 (by omega))] at h; cases h
theorem ev_out (S : Nat) (c : Cu) : evM S [] (outF c) = b2i (!(mem c.1).all fun i => S.testBit i) := by
 unfold outF
 split
 · rename_i h; rw [h, mem_zero]; rfl
 · exact ev_yes S c
theorem ev_cls (S : Nat) (c : Cu) : evM S [] (clsF c) = b2i (!(mem c.1).all (fun i => S.testBit i) || (mem c.2).any fun i => S.testBit i) := by
 unfold clsF
 split
 · rename_i h; rw [ev_out, h, mem_zero]; simp
 split
 · rename_i h; rw [ev_no, h, mem_zero]; simp
 have e : evM S [] (.mk 9 0 [] [outF c, noF c]) = (if evM S [] (noF c) > evM S [] (outF c) then evM S [] (noF c) else evM S [] (outF c)) := rfl
 rw [e, ev_out, ev_no]
 cases (mem c.1).all fun i => S.testBit i <;> cases (mem c.2).any fun i => S.testBit i <;> rfl
theorem ho_mem {c : Cu} (hc : Ok64 c) (S : Nat) : hoC c S = ((mem c.1).all (fun i => S.testBit i) && !(mem c.2).any fun i => S.testBit i) := by
 rw [Bool.eq_iff_iff, ho_iff, Bool.and_eq_true, List.all_eq_true, Bool.not_eq_true', List.any_eq_false]
 constructor
 · rintro ⟨h1, h2⟩
   exact ⟨fun i hi => h1 i ((mem_iff hc.1).1 hi), fun i hi => by rw [h2 i ((mem_iff hc.2).1 hi)]; decide⟩
 · rintro ⟨h1, h2⟩
   exact ⟨fun i hi => h1 i ((mem_iff hc.1).2 hi), fun i hi => Bool.eq_false_iff.2 (h2 i ((mem_iff hc.2).2 hi))⟩
theorem cls_ev {c : Cu} (hc : Ok64 c) (S : Nat) : evM S [] (clsF c) = b2i (!hoC c S) := by
 rw [ev_cls, ho_mem hc]
 cases (mem c.1).all fun i => S.testBit i <;> cases (mem c.2).any fun i => S.testBit i <;> rfl
theorem allN_ev (S : Nat) (φ : Fm → Bool) : ∀ (n : Nat) (l : List Fm), l.length ≤ 2 ^ n → (∀ a ∈ l, evM S [] a = b2i (φ a)) → evM S [] (allN n l) = b2i (l.all φ)
 | n, [], _, _ => by cases n <;> simp [allN, evM, opM, b2i]
 | n, [a], _, h => by
   have := h a (List.mem_cons_self ..)
   cases n <;> simp [allN, this]
 | 0, _ :: _ :: _, hl, _ => by simp at hl
 | n + 1, a :: b :: r, hl, h => by
   have hg : ¬ (a :: b :: r).length ≤ 1 := by simp
   generalize a :: b :: r = l at hl h hg ⊢
   have h2p : 2 ^ (n + 1) = 2 * 2 ^ n := by rw [Nat.pow_succ]; omega
   rw [allN, if_neg hg]
   have i1 := allN_ev S φ n (l.take (l.length / 2)) (by rw [List.length_take]; omega) fun a ha => h a (List.mem_of_mem_take ha)
   have i2 := allN_ev S φ n (l.drop (l.length / 2)) (by rw [List.length_drop]; omega) fun a ha => h a (List.mem_of_mem_drop ha)
   have e : evM S [] (.mk 8 0 [] [allN n (l.take (l.length / 2)), allN n (l.drop (l.length / 2))]) = evM S [] (allN n (l.take (l.length / 2))) * evM S [] (allN n (l.drop (l.length / 2))) := rfl
   rw [e, i1, i2]
   have e2 : l.all φ = ((l.take (l.length / 2)).all φ && (l.drop (l.length / 2)).all φ) := by rw [← List.all_append, List.take_append_drop]
   rw [e2]
   cases (l.take (l.length / 2)).all φ <;> cases (l.drop (l.length / 2)).all φ <;> rfl

def Fine (f : Fm) : Prop := insideM 1 f = 0 ∧ fitsM f = true ∧ typeM f.op = 1
theorem inside_of {op n : Int} {roles : List Int} {args : List Fm} (h : nodeK 1 (.mk op n roles args) = 0) (ha : ∀ a ∈ args, insideM 1 a = 0) : insideM 1 (.mk op n roles args) = 0 := by
 rw [insideM_eq, if_pos h]
 exact insideL_zero ha
theorem inside_num (n : Nat) (h : n ≤ 999999) : insideM 1 (.mk 1 n [] []) = 0 := by
 refine inside_of ?_ fun a ha => by cases ha
 have h1 : ¬ (n : Int) < 0 := by omega
 have h2 : ¬ (n : Int) > 999999 := by omega
 simp [nodeK, nodeM, badArity, badForm, badN, inRange, badKind, Fm.op, Fm.n, Fm.roles, Fm.args, operandsM, leastM, mostM, h1, h2]
theorem nodup_ints {l : List Nat} (h : l.Nodup) : (intsN l).Nodup := nodup_map (fun a _ b _ e => Int.ofNat.inj e) h
theorem inside_cnt {a : Nat} (ha : a < 18446744073709551616) (h0 : a.testBit 0 = false) (hne : a ≠ 0) (h8 : (mem a).length ≤ 8) : insideM 1 (.mk 5 0 (intsN (mem a)) []) = 0 := by
 refine inside_of ?_ fun a ha => by cases ha
 have hl : (intsN (mem a)).length = (mem a).length := by simp [intsN]
 have hpos : 1 ≤ (mem a).length := by
  obtain ⟨i, hi⟩ := ex_bit0 hne
  exact List.length_pos_of_mem ((mem_iff ha).2 hi)
 have hr : inRange (intsN (mem a)) = true := by
  unfold inRange
  rw [List.all_eq_true]
  intro r hr
  obtain ⟨i, hi, rfl⟩ := List.mem_map.1 hr
  have h64 := mem_lt hi
  have hb := (mem_iff ha).1 hi
  have hi0 : i ≠ 0 := fun e => by rw [e, h0] at hb; cases hb
  rw [Bool.and_eq_true]
  exact ⟨decide_eq_true (by omega), decide_eq_true (by omega)⟩
 have hn := nodup_ints (mem_nodup a)
 have h1 : ¬ ((mem a).length : Int) < 1 := by omega
 have h2 : ¬ ((mem a).length : Int) > 8 := by omega
 simp [nodeK, nodeM, badArity, badForm, badN, badKind, Fm.op, Fm.n, Fm.roles, Fm.args, operandsM, leastM, mostM, hl, hr, hn, h1, h2]
structure Good (c : Cu) : Prop where
 ok : Ok64 c
 y0 : c.1.testBit 0 = false
 n0 : c.2.testBit 0 = false
 y8 : (mem c.1).length ≤ 8
 n8 : (mem c.2).length ≤ 8
theorem fine_two {op : Int} {x y : Fm} (h : op = 8 ∨ op = 9) (hx : Fine x) (hy : Fine y) : Fine (.mk op 0 [] [x, y]) := by
 obtain ⟨x1, x2, x3⟩ := hx
 obtain ⟨y1, y2, y3⟩ := hy
 refine ⟨inside_of ?_ ?_, ?_, ?_⟩
 · rcases h with rfl | rfl <;> simp [nodeK, nodeM, badArity, badForm, badN, inRange, badKind, Fm.op, Fm.n, Fm.roles, Fm.args, operandsM, leastM, mostM]
 · intro a ha
   simp only [List.mem_cons, List.mem_nil_iff, or_false] at ha
   rcases ha with rfl | rfl
   · exact x1
   · exact y1
 · rcases h with rfl | rfl <;> simp [fitsM, fitsL, wantM, x2, x3, y2, y3]
 · rcases h with rfl | rfl <;> rfl
theorem fine_cmp {op : Int} {a k : Nat} (h : op = 12 ∨ op = 14) (ha : a < 18446744073709551616) (h0 : a.testBit 0 = false) (hne : a ≠ 0) (h8 : (mem a).length ≤ 8) (hk : k ≤ 999999) : Fine (.mk op 0 [] [.mk 5 0 (intsN (mem a)) [], .mk 1 k [] []]) := by
 refine ⟨inside_of ?_ ?_, ?_, ?_⟩
 · rcases h with rfl | rfl <;> simp [nodeK, nodeM, badArity, badForm, badN, inRange, badKind, Fm.op, Fm.n, Fm.roles, Fm.args, operandsM, leastM, mostM]
 · intro b hb
   simp only [List.mem_cons, List.mem_nil_iff, or_false] at hb
   rcases hb with rfl | rfl
   · exact inside_cnt ha h0 hne h8
   · exact inside_num k hk
 · rcases h with rfl | rfl <;> simp [fitsM, fitsL, wantM, typeM, Fm.op]
 · rcases h with rfl | rfl <;> rfl
theorem fine_tf {op : Int} (h : op = 2 ∨ op = 3) : Fine (.mk op 0 [] []) := by
 rcases h with rfl | rfl <;> exact ⟨by decide, by decide, by decide⟩
theorem fine_out {c : Cu} (hc : Good c) : Fine (outF c) := by
 unfold outF
 split
 · exact fine_tf (.inr rfl)
 · rename_i h; exact fine_cmp (.inl rfl) hc.ok.1 hc.y0 h hc.y8 (by have := hc.y8; omega)
theorem fine_no {c : Cu} (hc : Good c) (h : c.2 ≠ 0) : Fine (noF c) := fine_cmp (k := 0) (.inr rfl) hc.ok.2 hc.n0 h hc.n8 (Nat.zero_le _)
theorem fine_cls {c : Cu} (hc : Good c) : Fine (clsF c) := by
 unfold clsF
 split
 · exact fine_out hc
 rename_i h2
 split
 · exact fine_no hc h2
 · exact fine_two (.inr rfl) (fine_out hc) (fine_no hc h2)
theorem allN_fine : ∀ (n : Nat) (l : List Fm), l.length ≤ 2 ^ n → (∀ a ∈ l, Fine a) → Fine (allN n l)
 | n, [], _, _ => by cases n <;> exact fine_tf (.inl rfl)
 | n, [a], _, h => by cases n <;> exact h a (List.mem_cons_self ..)
 | 0, _ :: _ :: _, hl, _ => by simp at hl
 | n + 1, a :: b :: r, hl, h => by
   have hg : ¬ (a :: b :: r).length ≤ 1 := by simp
   generalize a :: b :: r = l at hl h hg ⊢
   have h2p : 2 ^ (n + 1) = 2 * 2 ^ n := by rw [Nat.pow_succ]; omega
   rw [allN, if_neg hg]
   exact fine_two (.inl rfl) (allN_fine n _ (by rw [List.length_take]; omega) fun a ha => h a (List.mem_of_mem_take ha)) (allN_fine n _ (by rw [List.length_drop]; omega) fun a ha => h a (List.mem_of_mem_drop ha))
theorem allN_up : ∀ (n : Nat) (l : List Fm), l.length ≤ 2 ^ n → allN (n + 1) l = allN n l
 | n, [], _ => by cases n <;> rfl
 | n, [a], _ => by cases n <;> rfl
 | 0, _ :: _ :: _, hl => by simp at hl
 | n + 1, a :: b :: r, hl => by
   have hg : ¬ (a :: b :: r).length ≤ 1 := by simp
   generalize a :: b :: r = l at hl hg ⊢
   have h2p : 2 ^ (n + 1) = 2 * 2 ^ n := by rw [Nat.pow_succ]; omega
   rw [show allN (n + 1 + 1) l = .mk 8 0 [] [allN (n + 1) (l.take (l.length / 2)), allN (n + 1) (l.drop (l.length / 2))] from if_neg hg, show allN (n + 1) l = .mk 8 0 [] [allN n (l.take (l.length / 2)), allN n (l.drop (l.length / 2))] from if_neg hg]
   rw [allN_up n _ (by rw [List.length_take]; omega), allN_up n _ (by rw [List.length_drop]; omega)]
theorem allN_add {n : Nat} {l : List Fm} (h : l.length ≤ 2 ^ n) : ∀ k, allN (n + k) l = allN n l
 | 0 => rfl
 | k + 1 => by
   rw [← Nat.add_assoc, allN_up _ _ (Nat.le_trans h (Nat.pow_le_pow_right (by omega) (by omega))), allN_add h k]

theorem two_depth (op n : Int) (r : List Int) (x y : Fm) : (Fm.mk op n r [x, y]).depth = max x.depth y.depth + 1 := by simp only [Fm.depth, depthL]; omega
theorem two_size (op n : Int) (r : List Int) (x y : Fm) : (Fm.mk op n r [x, y]).size = x.size + y.size + 1 := by simp only [Fm.size, sizeL]; omega
theorem allN_size : ∀ (n : Nat) (l : List Fm), l.length ≤ 2 ^ n → l ≠ [] → (allN n l).size + 1 = sizeL l + l.length
 | n, [], _, h => absurd rfl h
 | n, [a], _, _ => by cases n <;> simp [allN, sizeL]
 | 0, _ :: _ :: _, hl, _ => by simp at hl
 | n + 1, a :: b :: r, hl, h => by
   have hg : ¬ (a :: b :: r).length ≤ 1 := by simp
   generalize a :: b :: r = l at hl h hg ⊢
   have h2p : 2 ^ (n + 1) = 2 * 2 ^ n := by rw [Nat.pow_succ]; omega
   have i1 := allN_size n (l.take (l.length / 2)) (by rw [List.length_take]; omega) fun e => by have := congrArg List.length e; rw [List.length_take] at this; simp only [List.length_nil] at this; omega
   have i2 := allN_size n (l.drop (l.length / 2)) (by rw [List.length_drop]; omega) fun e => by have := congrArg List.length e; rw [List.length_drop] at this; simp only [List.length_nil] at this; omega
   have e2 : sizeL l = sizeL (l.take (l.length / 2)) + sizeL (l.drop (l.length / 2)) := by rw [← sizeL_append, List.take_append_drop]
   have e3 : l.length = (l.take (l.length / 2)).length + (l.drop (l.length / 2)).length := by rw [← List.length_append, List.take_append_drop]
   rw [allN, if_neg hg, two_size]
   omega
theorem allN_depth (d : Nat) (hd : 1 ≤ d) : ∀ (n : Nat) (l : List Fm), l.length ≤ 2 ^ n → (∀ a ∈ l, a.depth ≤ d) → (allN n l).depth ≤ n + d
 | n, [], _, _ => by cases n <;> simp [allN, Fm.depth, depthL] <;> omega
 | n, [a], _, h => by
   have := h a (List.mem_cons_self ..)
   cases n <;> simp [allN] <;> omega
 | 0, _ :: _ :: _, hl, _ => by simp at hl
 | n + 1, a :: b :: r, hl, h => by
   have hg : ¬ (a :: b :: r).length ≤ 1 := by simp
   generalize a :: b :: r = l at hl h hg ⊢
   have h2p : 2 ^ (n + 1) = 2 * 2 ^ n := by rw [Nat.pow_succ]; omega
   have i1 := allN_depth d hd n (l.take (l.length / 2)) (by rw [List.length_take]; omega) fun a ha => h a (List.mem_of_mem_take ha)
   have i2 := allN_depth d hd n (l.drop (l.length / 2)) (by rw [List.length_drop]; omega) fun a ha => h a (List.mem_of_mem_drop ha)
   rw [allN, if_neg hg, two_depth]
   omega
theorem cmp_depth (op : Int) (r : List Int) (n : Int) : (Fm.mk op 0 [] [.mk 5 0 r [], .mk 1 n [] []]).depth = 2 := by simp [Fm.depth, depthL]
theorem cmp_size (op : Int) (r : List Int) (n : Int) : (Fm.mk op 0 [] [.mk 5 0 r [], .mk 1 n [] []]).size = 3 := by simp [Fm.size, sizeL]
theorem tf_depth (op : Int) : (Fm.mk op 0 [] []).depth = 1 := by simp [Fm.depth, depthL]
theorem tf_size (op : Int) : (Fm.mk op 0 [] []).size = 1 := by simp [Fm.size, sizeL]
theorem cls_depth (c : Cu) : (clsF c).depth ≤ 3 := by
 have h1 : (outF c).depth ≤ 2 := by
  unfold outF
  split
  · rw [tf_depth]; omega
  · unfold yesF; rw [cmp_depth]; omega
 have h2 : (noF c).depth ≤ 2 := by unfold noF; rw [cmp_depth]; omega
 unfold clsF
 split
 · omega
 split
 · omega
 · rw [two_depth]; omega
theorem len_pos {a : Nat} (ha : a < 18446744073709551616) (hne : a ≠ 0) : 1 ≤ (mem a).length := by
 obtain ⟨i, hi⟩ := ex_bit0 hne
 exact List.length_pos_of_mem ((mem_iff ha).2 hi)
theorem cls_size {c : Cu} (hc : Ok64 c) : (clsF c).size ≤ 7 ∧ 2 * (clsF c).size ≤ 7 * litC c + 2 := by
 have h2 : (noF c).size = 3 := by unfold noF; rw [cmp_size]
 have hl : litC c = (mem c.1).length + (mem c.2).length := rfl
 by_cases h : c.2 = 0
 · rw [clsF, if_pos h, outF]
   split
   · rw [tf_size]; omega
   · rename_i h1
     have := len_pos hc.1 h1
     unfold yesF; rw [cmp_size]; omega
 · have p2 := len_pos hc.2 h
   rw [clsF, if_neg h]
   split
   · omega
   · rename_i h1
     have p1 := len_pos hc.1 h1
     rw [two_size, outF, if_neg h1, h2]
     unfold yesF; rw [cmp_size]; omega
theorem cls_size2 {c : Cu} (hc : Ok64 c) (h0 : c ≠ (0, 0)) : 2 * (clsF c).size ≤ 7 * litC c := by
 have h2 : (noF c).size = 3 := by unfold noF; rw [cmp_size]
 have hl : litC c = (mem c.1).length + (mem c.2).length := rfl
 by_cases h : c.2 = 0
 · have h1 : c.1 ≠ 0 := fun e => h0 (Prod.ext e h)
   have p1 := len_pos hc.1 h1
   rw [clsF, if_pos h, outF, if_neg h1]
   unfold yesF; rw [cmp_size]; omega
 · have p2 := len_pos hc.2 h
   rw [clsF, if_neg h]
   split
   · omega
   · rename_i h1
     have p1 := len_pos hc.1 h1
     rw [two_size, outF, if_neg h1, h2]
     unfold yesF; rw [cmp_size]; omega
theorem cls_sizes : ∀ {l : List Cu}, (∀ c ∈ l, Ok64 c) → l.Nodup → 2 * sizeL (l.map clsF) ≤ 7 * litL l + 2 := by
 have hA : ∀ {l : List Cu}, (∀ c ∈ l, Ok64 c) → (0, 0) ∉ l → 2 * sizeL (l.map clsF) ≤ 7 * litL l := by
  intro l
  induction l with
  | nil => intro _ _; exact Nat.zero_le _
  | cons a l ih =>
    intro h6 hno
    have := ih (fun c hc => h6 c (List.mem_cons_of_mem _ hc)) fun h => hno (List.mem_cons_of_mem _ h)
    have := cls_size2 (h6 a (List.mem_cons_self ..)) fun h => hno (by rw [h]; exact List.mem_cons_self ..)
    simp only [litL, List.map_cons, List.sum_cons, sizeL] at *
    omega
 intro l
 induction l with
 | nil => intro _ _; exact Nat.zero_le _
 | cons a l ih =>
   intro h6 hn
   obtain ⟨n1, n2⟩ := List.nodup_cons.1 hn
   have h6l : ∀ c ∈ l, Ok64 c := fun c hc => h6 c (List.mem_cons_of_mem _ hc)
   by_cases h0 : a = (0, 0)
   · have := hA h6l (by rw [← h0]; exact n1)
     have := (cls_size (h6 a (List.mem_cons_self ..))).2
     simp only [litL, List.map_cons, List.sum_cons, sizeL] at *
     omega
   · have := ih h6l n2
     have := cls_size2 (h6 a (List.mem_cons_self ..)) h0
     simp only [litL, List.map_cons, List.sum_cons, sizeL] at *
     omega

theorem rset_nil : rset [] = 0 := rfl
theorem ment_two {op : Int} {x y : Fm} {i : Nat} (h : (mentF (.mk op 0 [] [x, y])).testBit i = true) : (mentF x).testBit i = true ∨ (mentF y).testBit i = true := by
 rw [mentF_eq] at h
 simp only [Fm.roles, Fm.args, rset_nil, Nat.zero_or, mentL, Nat.or_zero, Nat.testBit_or, Bool.or_eq_true] at h
 exact h
theorem ment_cnt {a i : Nat} {n : Int} (ha : a < 18446744073709551616) (h : (mentF (.mk 5 n (intsN (mem a)) [])).testBit i = true) : a.testBit i = true := by
 rw [mentF_eq] at h
 simp only [Fm.roles, Fm.args, mentL, Nat.or_zero] at h
 obtain ⟨r, hr, e⟩ := (rset_bit _ _).1 h
 obtain ⟨j, hj, rfl⟩ := List.mem_map.1 hr
 have e : j = i := by omega
 subst e
 exact (mem_iff ha).1 hj
theorem ment_nil {op n : Int} {i : Nat} (h : (mentF (.mk op n [] [])).testBit i = true) : False := by
 rw [mentF_eq] at h
 simp [Fm.roles, Fm.args, mentL, rset_nil] at h
theorem ment_cmp {op : Int} {a i : Nat} {n : Int} (ha : a < 18446744073709551616) (h : (mentF (.mk op 0 [] [.mk 5 0 (intsN (mem a)) [], .mk 1 n [] []])).testBit i = true) : a.testBit i = true := by
 rcases ment_two h with h | h
 · exact ment_cnt ha h
 · exact (ment_nil h).elim
theorem ment_out {c : Cu} (hc : Ok64 c) {i : Nat} (h : (mentF (outF c)).testBit i = true) : c.1.testBit i = true := by
 unfold outF at h
 split at h
 · exact (ment_nil h).elim
 · exact ment_cmp hc.1 h
theorem ment_cls {c : Cu} (hc : Ok64 c) {i : Nat} (h : (mentF (clsF c)).testBit i = true) : (c.1.testBit i || c.2.testBit i) = true := by
 rw [Bool.or_eq_true]
 unfold clsF at h
 split at h
 · exact .inl (ment_out hc h)
 split at h
 · exact .inr (ment_cmp hc.2 h)
 rcases ment_two h with h | h
 · exact .inl (ment_out hc h)
 · exact .inr (ment_cmp hc.2 h)
theorem ment_allN {i : Nat} : ∀ (n : Nat) (l : List Fm), (mentF (allN n l)).testBit i = true → ∃ a ∈ l, (mentF a).testBit i = true
 | n, [], h => by
   have e : allN n [] = .mk 2 0 [] [] := by cases n <;> rfl
   rw [e] at h; exact (ment_nil h).elim
 | n, [a], h => by
   have e : allN n [a] = a := by cases n <;> rfl
   rw [e] at h
   exact ⟨a, List.mem_cons_self .., h⟩
 | 0, a :: b :: r, h => ⟨a, List.mem_cons_self .., h⟩
 | n + 1, a :: b :: r, h => by
   have hg : ¬ (a :: b :: r).length ≤ 1 := by simp
   generalize a :: b :: r = l at h hg ⊢
   rw [allN, if_neg hg] at h
   rcases ment_two h with h | h
   · obtain ⟨x, hx, h⟩ := ment_allN n _ h
     exact ⟨x, List.mem_of_mem_take hx, h⟩
   · obtain ⟨x, hx, h⟩ := ment_allN n _ h
     exact ⟨x, List.mem_of_mem_drop hx, h⟩
theorem mem_len {a b : Nat} (h : ∀ i, a.testBit i = true → b.testBit i = true) : (mem a).length ≤ (mem b).length := by
 unfold mem
 rw [← List.countP_eq_length_filter, ← List.countP_eq_length_filter]
 exact List.countP_mono_left fun i _ hi => h i hi

def backF (l : List Cu) : Fm := allN 20 ((simL (fullL l)).map clsF)
section
variable {l : List Cu} (hl : ∀ c ∈ l, Ok64 c)
include hl
theorem full_64 : ∀ c ∈ fullL l, Ok64 c := full_ok hl
theorem simf_64 : ∀ c ∈ simL (fullL l), Ok64 c := fun c hc => full_64 hl c (simL_mem hc).1
theorem simf_len : (simL (fullL l)).length ≤ l.length := by
 have h1 := (simL_sub (fullL l)).length_le
 have h2 := (sortC_perm (fullL l)).length_eq
 have h3 : (fullL l).length ≤ l.length := List.length_filter_le _ _
 omega
theorem whole_good (h0 : wholeE l = 0) : ∀ c ∈ simL (fullL l), Good c := fun c hc => by
 have hm := (simL_mem hc).1
 have h64 := full_64 hl c hm
 have hb : ∀ i, (c.1.testBit i || c.2.testBit i) = true → (mentC (fullL l)).testBit i = true := fun i hi => by
  rw [mentC_bit, List.any_eq_true]; exact ⟨c, hm, hi⟩
 unfold wholeE at h0
 split at h0
 · exact absurd h0 (by decide)
 rename_i hz
 split at h0
 · exact absurd h0 (by decide)
 rename_i h8
 refine ⟨h64, tb2 fun h => hz (hb 0 (by rw [h]; rfl)), tb2 fun h => hz (hb 0 (by rw [h, Bool.or_true])), ?_, ?_⟩
 · exact Nat.le_trans (mem_len fun i hi => hb i (by rw [hi]; rfl)) (by omega)
 · exact Nat.le_trans (mem_len fun i hi => hb i (by rw [hi, Bool.or_true])) (by omega)
theorem back_vio (hlen : l.length ≤ 1000000) (S : Nat) : vioB (backF l) S = soC l S := by
 have hs := simf_len hl
 have e := allN_ev S (fun a => !decide (evM S [] a = 0)) 20 ((simL (fullL l)).map clsF) (by rw [List.length_map]; omega) fun a ha => by
  obtain ⟨c, hc, rfl⟩ := List.mem_map.1 ha
  rw [cls_ev (simf_64 hl c hc)]
  cases hoC c S <;> rfl
 unfold vioB backF
 rw [e, List.all_map]
 rw [← soC_full, ← simL_so (full_64 hl)]
 have e2 : ((simL (fullL l)).all ((fun a => !decide (evM S [] a = 0)) ∘ clsF)) = !(soC (simL (fullL l)) S) := by
  unfold soC
  rw [List.not_any_eq_all_not, Bool.eq_iff_iff, List.all_eq_true, List.all_eq_true]
  have : ∀ c ∈ simL (fullL l), ((fun a => !decide (evM S [] a = 0)) ∘ clsF) c = !hoC c S := fun c hc => by
   show (!decide (evM S [] (clsF c) = 0)) = _
   rw [cls_ev (simf_64 hl c hc)]
   cases hoC c S <;> rfl
  exact ⟨fun h c hc => by rw [← this c hc]; exact h c hc, fun h c hc => by rw [this c hc]; exact h c hc⟩
 rw [e2]
 cases soC (simL (fullL l)) S <;> rfl
theorem back_fine (hlen : l.length ≤ 1000000) (h0 : wholeE l = 0) : Fine (backF l) := by
 have hs := simf_len hl
 refine allN_fine 20 _ (by rw [List.length_map]; omega) fun a ha => ?_
 obtain ⟨c, hc, rfl⟩ := List.mem_map.1 ha
 exact fine_cls (whole_good hl h0 c hc)
theorem back_ment (h0 : wholeE l = 0) : (mem (mentF (backF l))).length ≤ 8 := by
 have : (mem (mentC (fullL l))).length ≤ 8 := by
  unfold wholeE at h0
  split at h0
  · exact absurd h0 (by decide)
  split at h0
  · exact absurd h0 (by decide)
  · omega
 refine Nat.le_trans (mem_len fun i hi => ?_) this
 obtain ⟨a, ha, h⟩ := ment_allN 20 _ hi
 obtain ⟨c, hc, rfl⟩ := List.mem_map.1 ha
 rw [mentC_bit, List.any_eq_true]
 exact ⟨c, (simL_mem hc).1, ment_cls (simf_64 hl c hc) h⟩
theorem back_check (hlen : l.length ≤ 1000000) (h0 : wholeE l = 0) : checkM (backF l) = if (backF l).depth > 10 ∨ (backF l).size > 200 then 3 else 0 := by
 obtain ⟨f1, f2, f3⟩ := back_fine hl hlen h0
 have hm := back_ment hl h0
 unfold checkM lookM
 split
 · rename_i h; rw [if_pos (by simp)] 
 · rename_i h
   rw [f1, if_neg (by simp), if_pos ⟨f2, f3⟩, if_neg (by omega)]
theorem back_small (h0 : wholeE l = 0) (h40 : litL (fullL l) ≤ 40) : (backF l).depth ≤ 10 ∧ (backF l).size ≤ 200 := by
 have h64 := full_64 hl
 have hs64 := simf_64 hl
 have h1 := simL_len h64
 have h2 := simL_lit (fullL l)
 have h3 := cls_sizes hs64 (simL_nodup h64)
 have hlm : ((simL (fullL l)).map clsF).length ≤ 2 ^ 6 := by rw [List.length_map]; omega
 have e : backF l = allN 6 ((simL (fullL l)).map clsF) := allN_add hlm 14
 rw [e]
 constructor
 · exact Nat.le_trans (allN_depth 3 (by omega) 6 _ hlm fun a ha => by
    obtain ⟨c, hc, rfl⟩ := List.mem_map.1 ha
    exact cls_depth c) (by omega)
 · by_cases hz : (simL (fullL l)).map clsF = []
   · rw [hz]
     have : (allN 6 []).size = 1 := by rw [show allN 6 [] = .mk 2 0 [] [] from rfl, tf_size]
     omega
   · have := allN_size 6 _ hlm hz
     rw [List.length_map] at this
     omega
theorem back_ok (hlen : l.length ≤ 1000000) (h0 : wholeE l = 0) (h40 : litL (fullL l) ≤ 40) : checkM (backF l) = 0 := by
 obtain ⟨h1, h2⟩ := back_small hl h0 h40
 rw [back_check hl hlen h0, if_neg (by omega)]
theorem back_primes (hlen : l.length ≤ 1000000) (h0 : wholeE l = 0) (hc : checkM (backF l) = 0) : vioL (backF l) = primesL l := by
 unfold vioL primesL
 rw [if_pos hc, if_pos h0]
 exact sort_canon (check_lt hc) (mentC_lt (full_ok hl)) (vioB_dep _) (soC_dep _) fun S => by rw [soC_full]; exact back_vio hl hlen S
theorem back_big (hlen : l.length ≤ 1000000) : (backF l).depth ≤ 1000 ∧ (backF l).size ≤ 1099511627776 := by
 have hs := simf_len hl
 have hlm : ((simL (fullL l)).map clsF).length ≤ 2 ^ 20 := by rw [List.length_map]; omega
 constructor
 · exact Nat.le_trans (allN_depth 3 (by omega) 20 _ hlm fun a ha => by
    obtain ⟨c, hc, rfl⟩ := List.mem_map.1 ha
    exact cls_depth c) (by omega)
 · by_cases hz : (simL (fullL l)).map clsF = []
   · unfold backF
     rw [hz]
     have : (allN 20 []).size = 1 := by rw [show allN 20 [] = .mk 2 0 [] [] from rfl, tf_size]
     omega
   · have h1 := allN_size 20 _ hlm hz
     rw [List.length_map] at h1
     have h2 : ∀ m : List Cu, (∀ c ∈ m, Ok64 c) → sizeL (m.map clsF) ≤ 7 * m.length := by
      intro m
      induction m with
      | nil => intro _; exact Nat.zero_le _
      | cons a m ih =>
        intro h6
        have := ih fun c hc => h6 c (List.mem_cons_of_mem _ hc)
        have := (cls_size (h6 a (List.mem_cons_self ..))).1
        simp only [List.map_cons, sizeL, List.length_cons]
        omega
     have h3 := h2 _ (simf_64 hl)
     unfold backF
     omega
end
end Go.Proofs.YtifohjijhhjdkaaGreatDoor

namespace Go.Proofs.YtifohjijhhjdkaaGreatDoor
open Go.RowKit
set_option linter.unusedVariables false
attribute [local irreducible] aw opsK dK

theorem ret_lowEq {rs : List ARes} {e : Env} {h : Heap} {R : PV → Prop} {r q : PV} (hr : retAll rs e h = some r) (he : r.low = q) (hp : q.pure) (hR : R q) : ∃ r0 r, retAll rs e h = some r0 ∧ LoP r0 r ∧ r.pure ∧ R r := ⟨r, q, hr, .inr he.symm, hp, hR⟩
theorem clause1_spec (n : Int) : Spec Tryz.prog 94 [.val (.int .i64 n)] (· = .agg (fC .u8 (.mk 1 n [] []))) := by
 refine spec_intro ok94 (Nat.le_of_ble_eq_true rfl) fun C hC => ?_
 (refine go ?_;repeat' (apply B<;>intro hb<;>try cases hb))
 exact ret_lowEq rfl (q := .agg (fC .u8 (.mk 1 n [] []))) rfl (fC_pure _ _) rfl
def numC (n : Int) : List PV := fC .u8 (.mk 1 n [] [])
def cntC (l : List Int) : List PV := [.val (.int .u8 5), .val (.int .i64 0), .vec (nums l) false, .vec [] true]
theorem cntC_low (l : List Int) : lowL (cntC l) = fC .u8 (.mk 5 0 l []) := by
 show [_, _, PV.vec (lowLL (nums l)) false, _] = _
 rw [lowLL_nums]
 rfl
def twoC (op : Int) (x y : List PV) : List PV := [.val (.int .u8 op), .val (.int .i64 0), .vec [] true, .vec [x, y] true]
theorem twoC_low {op : Int} {x y : List PV} {f g : Fm} (hx : lowL x = fC .u8 f) (hy : lowL y = fC .u8 g) : lowL (twoC op x y) = fC .u8 (.mk op 0 [] [f, g]) := by
 show [_, _, _, PV.vec [lowL x, lowL y] false] = _
 rw [hx, hy, ← cellsK_eq .u8 f, ← cellsK_eq .u8 g]
 rfl
theorem fC_low (f : Fm) : lowL (fC .u8 f) = fC .u8 f := (lowL_fC .u8 f).trans (cellsK_eq .u8 f)
def yesC (c : Cu) : List PV := twoC 12 (cntC (intsN (mem c.1))) (numC ((mem c.1).length : Nat))
def noC (c : Cu) : List PV := twoC 14 (cntC (intsN (mem c.2))) (numC 0)
theorem yesC_low (c : Cu) : lowL (yesC c) = fC .u8 (yesF c) := twoC_low (cntC_low _) (fC_low _)
theorem noC_low (c : Cu) : lowL (noC c) = fC .u8 (noF c) := twoC_low (cntC_low _) (fC_low _)
set_option maxHeartbeats 4000000 in
theorem clause_spec (c : Cu) (hc : Ok64 c) : Spec Tryz.prog 49 [cuP c] (· = .agg (fC .u8 (clsF c))) := by
 have hly := lenS_spec c.1 hc.1
 rw [popK_mem] at hly
 refine spec_intro ok49 (Nat.le_of_ble_eq_true rfl) fun C hC => ?_
 refine aw_seq ?_
 refine aw_region ?_
 refine opsK_ofAlt rfl rfl rfl ?_
 (refine go ?_;repeat' (apply B<;>intro hb<;>try cases hb))
 refine opsK_eq (empty_spec c.1 hc.1) rfl rfl rfl ⟨setN_pure _, trivial⟩ rfl ?_
 by_cases h1 : c.1 = 0
 · rw [decide_eq_true h1]
   (refine go ?_;repeat' (apply B<;>intro hb<;>try cases hb))
   refine opsK_eq (empty_spec c.2 hc.2) rfl rfl rfl ⟨setN_pure _, trivial⟩ rfl ?_
   by_cases h2 : c.2 = 0
   · rw [decide_eq_true h2]
     (refine go ?_;repeat' (apply B<;>intro hb<;>try cases hb))
     exact ret_lowEq rfl (q := .agg (fC .u8 (clsF c))) (by rw [clsF, if_pos h2, outF, if_pos h1]; rfl) (fC_pure _ _) rfl
   · rw [decide_eq_false h2]
     (refine go ?_;repeat' (apply B<;>intro hb<;>try cases hb))
     refine opsK_eq (list_spec c.2 hc.2) rfl rfl rfl ⟨setN_pure _, trivial⟩ rfl ?_
     (refine go ?_;repeat' (apply B<;>intro hb<;>try cases hb))
     refine dK_eq (clause1_spec 0) rfl rfl rfl ⟨trivial, trivial⟩ ?_
     (refine go ?_;repeat' (apply B<;>intro hb<;>try cases hb))
     refine opsK_eq (empty_spec c.1 hc.1) rfl rfl rfl ⟨setN_pure _, trivial⟩ rfl ?_
     rw [decide_eq_true h1]
     (refine go ?_;repeat' (apply B<;>intro hb<;>try cases hb))
     exact ret_lowEq rfl (q := .agg (fC .u8 (clsF c))) (by rw [clsF, if_neg h2, if_pos h1]; exact congrArg PV.agg (noC_low c)) (fC_pure _ _) rfl
 · rw [decide_eq_false h1]
   (refine go ?_;repeat' (apply B<;>intro hb<;>try cases hb))
   refine opsK_eq (list_spec c.1 hc.1) rfl rfl rfl ⟨setN_pure _, trivial⟩ rfl ?_
   (refine go ?_;repeat' (apply B<;>intro hb<;>try cases hb))
   refine dK_eq hly rfl rfl rfl ⟨setN_pure _, trivial⟩ ?_
   (refine go ?_;repeat' (apply B<;>intro hb<;>try cases hb))
   refine dK_eq (clause1_spec _) rfl rfl rfl ⟨trivial, trivial⟩ ?_
   (refine go ?_;repeat' (apply B<;>intro hb<;>try cases hb))
   refine opsK_eq (empty_spec c.2 hc.2) rfl rfl rfl ⟨setN_pure _, trivial⟩ rfl ?_
   by_cases h2 : c.2 = 0
   · rw [decide_eq_true h2]
     (refine go ?_;repeat' (apply B<;>intro hb<;>try cases hb))
     exact ret_lowEq rfl (q := .agg (fC .u8 (clsF c))) (by rw [clsF, if_pos h2, outF, if_neg h1]; exact congrArg PV.agg (yesC_low c)) (fC_pure _ _) rfl
   · rw [decide_eq_false h2]
     (refine go ?_;repeat' (apply B<;>intro hb<;>try cases hb))
     refine opsK_eq (list_spec c.2 hc.2) rfl rfl rfl ⟨setN_pure _, trivial⟩ rfl ?_
     (refine go ?_;repeat' (apply B<;>intro hb<;>try cases hb))
     refine dK_eq (clause1_spec 0) rfl rfl rfl ⟨trivial, trivial⟩ ?_
     (refine go ?_;repeat' (apply B<;>intro hb<;>try cases hb))
     refine opsK_eq (empty_spec c.1 hc.1) rfl rfl rfl ⟨setN_pure _, trivial⟩ rfl ?_
     rw [decide_eq_false h1]
     (refine go ?_;repeat' (apply B<;>intro hb<;>try cases hb))
     exact ret_lowEq rfl (q := .agg (fC .u8 (clsF c))) (by rw [clsF, if_neg h2, if_neg h1, outF, if_neg h1]; exact congrArg PV.agg (twoC_low (yesC_low c) (noC_low c))) (fC_pure _ _) rfl
set_option maxHeartbeats 2000000 in
theorem all_spec : ∀ (n : Nat) (l : List Fm), l.length ≤ 2 ^ n → l.length ≤ 1000000 → ∀ fl : Bool, Spec Tryz.prog 50 [.vec (l.map (cellsK .u8)) fl] (· = .agg (fC .u8 (allN n l))) := by
 have hp : ∀ l : List Fm, pureLL (l.map (cellsK .u8)) := fun l => fArgs_pure .u8 l
 intro n
 induction n with
 | zero =>
   intro l hl _ fl
   refine spec_intro ok50 (Nat.le_of_ble_eq_true rfl) fun C hC => ?_
   match l, hl with
   | [], _ =>
     (refine go ?_;repeat' (apply B<;>intro hb<;>try cases hb))
     exact ret_lowEq rfl (q := .agg (fC .u8 (.mk 2 0 [] []))) rfl (fC_pure _ _) rfl
   | [a], _ =>
     have ha : cellsK .u8 a = fC .u8 a := cellsK_eq .u8 a
     (refine go ?_;repeat' (apply B<;>intro hb<;>try cases hb))
     refine opsK_of (E_iaddr (xs := [a]) (g := cellsK .u8) rfl rfl 0 rfl (Nat.zero_lt_succ _) (cellsK_length _ _)) rfl rfl ?_
     rw [show [a][0] = a from rfl, ha]
     (refine go ?_;repeat' (apply B<;>intro hb<;>try cases hb))
     exact ret_ok rfl (fC_pure _ _) rfl
 | succ n ih =>
   intro l hl hlen fl
   by_cases h1 : l.length ≤ 1
   · refine spec_intro ok50 (Nat.le_of_ble_eq_true rfl) fun C hC => ?_
     match l, h1 with
     | [], _ =>
       (refine go ?_;repeat' (apply B<;>intro hb<;>try cases hb))
       exact ret_lowEq rfl (q := .agg (fC .u8 (.mk 2 0 [] []))) rfl (fC_pure _ _) rfl
     | [a], _ =>
       have ha : cellsK .u8 a = fC .u8 a := cellsK_eq .u8 a
       (refine go ?_;repeat' (apply B<;>intro hb<;>try cases hb))
       refine opsK_of (E_iaddr (xs := [a]) (g := cellsK .u8) rfl rfl 0 rfl (Nat.zero_lt_succ _) (cellsK_length _ _)) rfl rfl ?_
       rw [show [a][0] = a from rfl, ha]
       (refine go ?_;repeat' (apply B<;>intro hb<;>try cases hb))
       exact ret_ok rfl (fC_pure _ _) rfl
   have hll : (l.map (cellsK .u8)).length = l.length := by simp
   have h2p : 2 ^ (n + 1) = 2 * 2 ^ n := by rw [Nat.pow_succ]; omega
   have hquo : IntKind.i64.wrap (Int.tdiv ((l.map (cellsK .u8)).length : Int) 2) = ((l.length / 2 : Nat) : Int) := by
    rw [hll, Int.tdiv_eq_ediv_of_nonneg (by omega)]
    exact (IntWalk.i64_in _ ⟨by omega, by omega⟩).trans (by omega)
   have e : allN (n + 1) l = .mk 8 0 [] [allN n (l.take (l.length / 2)), allN n (l.drop (l.length / 2))] := by rw [allN, if_neg h1]
   refine spec_intro ok50 (Nat.le_of_ble_eq_true rfl) fun C hC => ?_
   repeat' (first | refine opsK_of (E_boolEq (v := false) rfl (by rw [hll, beq_eq_false_iff_ne]; omega)) rfl rfl ?_ | (first|refine st ?_|(apply B<;>intro hb<;>try cases hb)))
   refine dK_of (E_slc (xs := l) (g := cellsK .u8) rfl 0 (l.length / 2) rfl (by show some _ = some _; rw [hquo]) (Nat.zero_le _) (Nat.div_le_self _ _) (cellsK_length _)) rfl rfl ?_
   rw [List.drop_zero]
   (refine go ?_;repeat' (apply B<;>intro hb<;>try cases hb))
   refine dK_eq (ih (l.take (l.length / 2)) (by rw [List.length_take]; omega) (by rw [List.length_take]; omega) false) rfl rfl rfl ⟨hp _, trivial⟩ ?_
   (refine go ?_;repeat' (apply B<;>intro hb<;>try cases hb))
   refine dK_of (E_slc (xs := l) (g := cellsK .u8) rfl (l.length / 2) l.length (by show some _ = some _; rw [hquo]) (by show some _ = some _; rw [hll]) (Nat.div_le_self _ _) (Nat.le_refl _) (cellsK_length _)) rfl rfl ?_
   rw [List.take_length]
   (refine go ?_;repeat' (apply B<;>intro hb<;>try cases hb))
   refine dK_eq (ih (l.drop (l.length / 2)) (by rw [List.length_drop]; omega) (by rw [List.length_drop]; omega) false) rfl rfl rfl ⟨hp _, trivial⟩ ?_
   (refine go ?_;repeat' (apply B<;>intro hb<;>try cases hb))
   exact ret_lowEq rfl (q := .agg (fC .u8 (allN (n + 1) l))) (by rw [e]; exact congrArg PV.agg (twoC_low (fC_low _) (fC_low _))) (fC_pure _ _) rfl
end Go.Proofs.YtifohjijhhjdkaaGreatDoor

namespace Go.Proofs.YtifohjijhhjdkaaGreatDoor
open Go.RowKit
set_option linter.unusedVariables false
attribute [local irreducible] aw opsK dK

def zeF : List PV := [.val (.int .u8 0), .val (.int .i64 0), .vec [] true, .vec [] true]
theorem ze_pure : pureL zeF := ⟨trivial, trivial, trivial, trivial, trivial⟩
def backE (l : List Cu) : Int := if wholeE l = 0 then (if checkM (backF l) = 0 then 0 else 3) else wholeE l
def backR (l : List Cu) : Fm := if backE l = 0 then backF l else .mk 0 0 [] []
theorem ze_eq : fC .u8 (.mk 0 0 [] []) = [.val (.int .u8 0), .val (.int .i64 0), .vec [] false, .vec [] false] := rfl
set_option maxHeartbeats 4000000 in
theorem back_spec (l : List Cu) (fl : Bool) (hl : ∀ c ∈ l, Ok64 c) (hlen : l.length ≤ 1000000) : Spec Tryz.prog 17 [.vec (l.map cuC) fl] (· = .tup [.agg (fC .u8 (backR l)), .val (.int .i64 (backE l))]) := by
 have hbig := back_big hl hlen
 refine spec_intro ok17 (Nat.le_of_ble_eq_true rfl) fun C hC => ?_
 (refine go ?_;repeat' (apply B<;>intro hb<;>try cases hb))
 refine opsK_eq (whole_spec l fl hl hlen) rfl rfl rfl ⟨cubes_pure _, trivial⟩ rfl ?_
 by_cases h0 : wholeE l = 0
 · have hw : wholeL l = fullL l := by rw [wholeL, if_pos h0]
   rw [hw, h0]
   have hfl : (fullL l).length ≤ l.length := List.length_filter_le _ _
   have h64 := full_64 hl
   have hs64 := simf_64 hl
   have hsl := simf_len hl
   (refine go ?_;repeat' (apply B<;>intro hb<;>try cases hb))
   refine opsK_eq (simple_spec (fullL l) false h64 (by omega)) rfl rfl rfl ⟨cubes_pure _, trivial⟩ rfl ?_
   have hbf : backF l = allN 20 ((simL (fullL l)).map clsF) := rfl
   have hbe : backE l = if checkM (backF l) = 0 then 0 else 3 := by rw [backE, if_pos h0]
   have hbr : backR l = if backE l = 0 then backF l else .mk 0 0 [] [] := rfl
   rw [hbf] at hbig hbe hbr
   generalize simL (fullL l) = s at hs64 hsl hbig hbe hbr ⊢
   have hsm : (s.map cuC).length = s.length := by simp
   have hpf : ∀ m : List Cu, pureLL ((m.map clsF).map (cellsK .u8)) := fun m => fArgs_pure .u8 _
   repeat' (first | refine opsK_sub (subA_ownNil (k := 5) rfl 4 (by decide)) ?_ | (first|refine st ?_|(apply B<;>intro hb<;>try cases hb)))
   refine aw_loopR hC (fun i => i ≤ s.length) (fun i => s.length - i) 2 (fun i => [(2, .ptr 0 0 0), (5, .own 1), (20, .vec (s.map cuC) false), (21, .val (.int .i64 s.length)), (22, .val (.int .i64 (i : Int)))])
    (fun i => [(0, ⟨4, [zeF]⟩), (1, ⟨4, ((s.take i).map clsF).map (cellsK .u8)⟩)]) (by omega) 0 (Nat.zero_le _) (fun i => i) (fun _ _ => rfl) injOn_id
    ⟨⟨_, rfl, .ptr 0 0 0 (by decide)⟩, ⟨_, rfl, .own 1 (by decide)⟩, ⟨_, rfl, .pure _ (cubes_pure s)⟩, ⟨_, by rw [← hsm]; rfl, .pure _ trivial⟩, ⟨_, rfl, .pure _ trivial⟩, trivial⟩
    ⟨⟨by decide, _, rfl, .same _ ⟨ze_pure, trivial⟩⟩, ⟨by decide, _, rfl, .same _ trivial⟩, trivial⟩ ?_
   intro i hi
   have hinc : IntKind.i64.wrap ((i : Int) + 1) = ((i + 1 : Nat) : Int) := IntWalk.i64_in _ ⟨by omega, by omega⟩
   iterate 2 (first|refine st ?_|(apply B<;>intro hb<;>try cases hb))
   refine opsK_bool rfl rfl rfl (fun hb => ?_) (fun hb => ?_)
   · have hil : i < s.length := by have := of_decide_eq_true hb; omega
     have hci := hs64 _ (List.getElem_mem hil)
     have htk : s.take (i + 1) = s.take i ++ [s[i]] := by rw [List.take_add_one, List.getElem?_eq_getElem hil]; rfl
     clear hb
     (refine go ?_;repeat' (apply B<;>intro hb<;>try cases hb))
     refine opsK_of (E_iaddr (xs := s) (g := cuC) rfl rfl i rfl hil rfl) rfl rfl ?_
     generalize s[i] = c at hci htk ⊢
     have hc0 : cellsK .u8 (clsF c) = fC .u8 (clsF c) := cellsK_eq .u8 _
     (refine go ?_;repeat' (apply B<;>intro hb<;>try cases hb))
     refine opsK_eq (clause_spec c hci) rfl rfl rfl ⟨cuP_pure c, trivial⟩ rfl ?_
     (refine go ?_;repeat' (apply B<;>intro hb<;>try cases hb))
     refine opsK_new (E_append (k := 1) (m := [fC .u8 (clsF c)]) (fl := true) rfl rfl rfl (fun q hq => by rw [List.mem_singleton] at hq; subst hq; rfl) rfl (by
      show ((((s.take i).map clsF).map (cellsK .u8)).length + 1) * 64 ≤ _
      rw [List.length_map, List.length_map, List.length_take]; omega)) rfl rfl ?_
     (refine go ?_;repeat' (apply B<;>intro hb<;>try cases hb))
     refine ⟨i + 1, mv 1 3, by omega, by omega, fun i hi => absurd hi (Nat.not_lt_zero i), injOn_of rfl, ⟨⟨_, rfl, .ptr 0 0 0 (by decide)⟩, ⟨_, rfl, .own 1 (by decide)⟩, ⟨_, rfl, .pure _ (cubes_pure s)⟩, ⟨_, rfl, .pure _ trivial⟩, ⟨_, by show some _ = some _; rw [hinc], .pure _ trivial⟩, trivial⟩, ⟨⟨by decide, _, rfl, .same _ ⟨ze_pure, trivial⟩⟩, ⟨by decide, _, rfl, ?_⟩, trivial⟩⟩
     show RenB _ _ ⟨4, ((s.take i).map clsF).map (cellsK .u8) ++ [fC .u8 (clsF c)]⟩ ⟨4, ((s.take (i + 1)).map clsF).map (cellsK .u8)⟩
     rw [htk, List.map_append, List.map_append, ← hc0]
     exact .same _ (by rw [← List.map_singleton (f := cellsK .u8), ← List.map_singleton (f := clsF), ← List.map_append, ← List.map_append]; exact hpf _)
   · have hil : i = s.length := by have := of_decide_eq_false hb; omega
     subst hil
     rw [List.take_length]
     clear hb
     repeat' (first | refine opsK_sub (subA_freeze (k := 5) rfl rfl (hpf _)) ?_ | (first|refine st ?_|(apply B<;>intro hb<;>try cases hb)))
     refine opsK_eq (all_spec 20 (s.map clsF) (by rw [List.length_map]; omega) (by rw [List.length_map]; omega) false) rfl rfl rfl ⟨hpf _, trivial⟩ rfl ?_
     have hq := ze_eq
     generalize allN 20 (s.map clsF) = f at hbig hbe hbr ⊢
     (refine go ?_;repeat' (apply B<;>intro hb<;>try cases hb))
     refine opsK_eq (check_spec f hbig.1 hbig.2) rfl rfl rfl ⟨fC_pure _ _, trivial, trivial⟩ rfl ?_
     generalize checkM f = ce at hbe ⊢
     (refine go ?_;repeat' (apply B<;>intro hb<;>try cases hb))
     · have hne : ¬ ce = 0 := by simpa using hb
       rw [if_neg hne] at hbe
       rw [hbe, if_neg (by decide)] at hbr
       rw [hbe, hbr]
       exact ret_low rfl (pure_of rfl) rfl
     · have hne : ce = 0 := by simpa using hb
       rw [if_pos hne] at hbe
       rw [hbe, if_pos rfl] at hbr
       rw [hbe, hbr]
       exact ret_ok rfl ⟨fC_pure _ _, trivial, trivial⟩ rfl
 · have hbe : backE l = wholeE l := by rw [backE, if_neg h0]
   have hbr : backR l = .mk 0 0 [] [] := by rw [backR, hbe, if_neg h0]
   rw [hbe, hbr]
   generalize wholeL l = w
   generalize wholeE l = e at h0 ⊢
   (refine go ?_;repeat' (apply B<;>intro hb<;>try cases hb))
   · exact ret_low rfl (pure_of rfl) rfl
   · exact absurd (by simpa using hb) h0
end Go.Proofs.YtifohjijhhjdkaaGreatDoor

namespace Go.Proofs.YtifohjijhhjdkaaGreatDoor
open Go.RowKit
set_option linter.unusedVariables false
attribute [local irreducible] aw opsK dK

theorem litL_take {s : List Cu} {i : Nat} (h : i < s.length) : litL (s.take (i + 1)) = litL (s.take i) + (((mem s[i].1).length + (mem s[i].2).length)) := by
 have htk : s.take (i + 1) = s.take i ++ [s[i]] := by rw [List.take_add_one, List.getElem?_eq_getElem h]; rfl
 unfold litL
 rw [htk, List.map_append, List.sum_append]
 simp only [List.map_cons, List.map_nil, List.sum_cons, List.sum_nil, litC, Nat.add_zero]
theorem litL_le (s : List Cu) : litL s ≤ 128 * s.length := by
 induction s with
 | nil => exact Nat.zero_le _
 | cons a s ih =>
   have h1 := mem_length a.1
   have h2 := mem_length a.2
   simp only [litL, litC, List.map_cons, List.sum_cons, List.length_cons] at *
   omega
set_option maxHeartbeats 8000000 in
theorem normalBack_law (l : List RawX) (m : List Cu) (f1 f2 : Bool) (hl : ∀ x ∈ l, RawXok x) (hm : ∀ c ∈ m, Ok64 c) : Spec Tryz.prog 5 [.vec (l.map rawC) f1, .vec (m.map raC) f2] (· = .val (.bool true)) := by
 have hrl := rawL_len l
 have hro := rawL_ok hl
 have hrp : pureLL (l.map rawC) := pureLL_enc rawC_pure l
 refine spec_intro ok5 (Nat.le_of_ble_eq_true rfl) fun C hC => ?_
 (refine go ?_;repeat' (apply B<;>intro hb<;>try cases hb))
 refine opsK_eq awake19_spec rfl rfl rfl trivial rfl ?_
 (refine go ?_;repeat' (apply B<;>intro hb<;>try cases hb))
 refine opsK_eq (list14_spec l f1 hl) rfl rfl rfl ⟨hrp, trivial⟩ rfl ?_
 (refine go ?_;repeat' (apply B<;>intro hb<;>try cases hb))
 refine opsK_own (few19_own m f2) mk_own (ras_pure _) rfl rfl ⟨ras_pure _, trivial⟩ ?_
 (refine go ?_;repeat' (apply B<;>intro hb<;>try cases hb))
 refine opsK_eq (list14_spec l f1 hl) rfl rfl rfl ⟨hrp, trivial⟩ rfl ?_
 refine opsK_new (E_append (k := 0) (m := (rawL l).map raC) (fl := false) rfl rfl rfl (fun c hc => by obtain ⟨y, _, rfl⟩ := List.mem_map.1 hc; rfl) rfl (by
  show (((m.take 6).map raC).length + ((rawL l).map raC).length) * 16 ≤ _
  rw [List.length_map, List.length_map, List.length_take]; omega)) rfl rfl ?_
 refine opsK_sub (subA_freeze (k := 26) (id := 1) (b := ⟨2, (m.take 6 ++ rawL l).map raC⟩) rfl (by rw [List.map_append]; rfl) (ras_pure _)) ?_
 have hxs : ∀ x ∈ [rawL l, m.take 6 ++ rawL l], (∀ c ∈ x, Ok64 c) ∧ x.length ≤ 1000 := by
  intro x hx
  rcases List.mem_cons.1 hx with rfl | hx
  · exact ⟨hro, by omega⟩
  · rw [List.mem_singleton] at hx
    subst hx
    refine ⟨fun c hc => ?_, by rw [List.length_append, List.length_take]; omega⟩
    rcases List.mem_append.1 hc with h | h
    · exact hm c (List.mem_of_mem_take h)
    · exact hro c h
 obtain ⟨xs, hx⟩ : ∃ xs, xs = [rawL l, m.take 6 ++ rawL l] := ⟨_, rfl⟩
 rw [← hx] at hxs
 have hxl : xs.length = 2 := by rw [hx]; rfl
 have hxp : ∀ D, innLL D (xs.map lisC) := fun D => innLL_mono (fun _ h => h.elim) _ (pureLL_enc (enc := lisC) (fun x => ⟨ras_pure x, trivial⟩) xs)
 (refine go ?_;repeat' (apply B<;>intro hb<;>try cases hb))
 refine aw_loopH hC (fun i => i ≤ 2) (fun i => 2 - i) 0 (fun i => [(27, .vec (xs.map lisC) true), (28, .val (.int .i64 2)), (29, .val (.int .i64 (i : Int)))]) (fun _ => []) (Nat.le_refl _) 0 (Nat.zero_le _)
  ⟨⟨by rw [hx]; rfl, hxp _⟩, ⟨rfl, trivial⟩, ⟨rfl, trivial⟩, trivial⟩ trivial ?_
 intro i hi
 have hinc : IntKind.i64.wrap ((i : Int) + 1) = ((i + 1 : Nat) : Int) := IntWalk.i64_in _ ⟨by omega, by omega⟩
 iterate 2 (first|refine st ?_|(apply B<;>intro hb<;>try cases hb))
 refine opsK_bool rfl rfl rfl (fun hb => ?_) (fun hb => ?_)
 · have hil : i < xs.length := by have := of_decide_eq_true hb; omega
   have hxi := hxs _ (List.getElem_mem hil)
   clear hb
   (refine go ?_;repeat' (apply B<;>intro hb<;>try cases hb))
   refine opsK_of (E_iaddr (xs := xs) (g := lisC) rfl rfl i rfl hil rfl) rfl rfl ?_
   generalize xs[i] = x at hxi ⊢
   obtain ⟨h64, hlen⟩ := hxi
   have hpo := primesL_ok x
   have hbp := back_primes h64 (by omega)
   have hbo := back_ok h64 (by omega)
   have hbb := back_big h64 (by omega)
   have hbe : backE x = if wholeE x = 0 then (if checkM (backF x) = 0 then 0 else 3) else wholeE x := rfl
   have hbr : backR x = if backE x = 0 then backF x else .mk 0 0 [] [] := rfl
   have hf64 := full_64 h64
   have hfl : (fullL x).length ≤ x.length := List.length_filter_le _ _
   (refine go ?_;repeat' (apply B<;>intro hb<;>try cases hb))
   refine opsK_eq (makeAll_spec x false h64 (by omega)) rfl rfl rfl ⟨ras_pure _, trivial⟩ rfl ?_
   refine opsK_eq (back_spec x false h64 (by omega)) rfl rfl rfl ⟨cubes_pure _, trivial⟩ rfl ?_
   (refine go ?_;repeat' (apply B<;>intro hb<;>try cases hb))
   refine opsK_eq (primesR_spec x false h64 (by omega)) rfl rfl rfl ⟨ras_pure _, trivial⟩ rfl ?_
   (refine go ?_;repeat' (apply B<;>intro hb<;>try cases hb))
   refine opsK_eq (full19_spec x false h64 (by omega)) rfl rfl rfl ⟨ras_pure _, trivial⟩ rfl ?_
   generalize fullL x = s at hf64 hfl hbo ⊢
   have hsr : (s.map raC).length = s.length := by simp
   generalize backR x = r at hbr ⊢
   generalize backE x = be at hbe hbr ⊢
   generalize primesL x = pr at hpo hbp ⊢
   generalize wholeE x = we at hbp hbo hbe ⊢
   generalize mentC s = mc
   have hfp : ∀ D, innLL D (s.map raC) := fun D => innLL_mono (fun _ h => h.elim) _ (ras_pure s)
   have hpp : ∀ D, innLL D (pr.map raC) := fun D => innLL_mono (fun _ h => h.elim) _ (ras_pure pr)
   (refine go ?_;repeat' (apply B<;>intro hb<;>try cases hb))
   have hll := litL_le s
   have hlt : ∀ i, litL (s.take i) ≤ litL s := fun i => sum_sub (List.take_sublist _ _)
   have hfr : innLL (fun _ => False) [fC .u8 r] := ⟨fC_pure .u8 r, trivial⟩
   refine aw_loopH hC (fun j => j ≤ s.length) (fun j => s.length - j) 1 (fun j => [(7, .ptr 0 0 0), (8, .val (.int .i64 be)), (9, .vec (pr.map raC) false), (10, .val (.int .i64 we)), (13, .val (.int .i64 (litL (s.take j) : Nat))), (27, .vec (xs.map lisC) true), (28, .val (.int .i64 2)), (29, .val (.int .i64 (i : Int))), (49, .vec (s.map raC) false), (50, .val (.int .i64 s.length)), (51, .val (.int .i64 (j : Int)))])
    (fun _ => [(0, ⟨4, [fC .u8 r]⟩)]) (by omega) 0 (Nat.zero_le _)
    ⟨⟨rfl, show (0 : Nat) < 1 by decide⟩, ⟨rfl, trivial⟩, ⟨rfl, hpp _⟩, ⟨rfl, trivial⟩, ⟨rfl, trivial⟩, ⟨rfl, hxp _⟩, ⟨rfl, trivial⟩, ⟨rfl, trivial⟩, ⟨rfl, hfp _⟩, ⟨by rw [← hsr]; rfl, trivial⟩, ⟨rfl, trivial⟩, trivial⟩ ⟨⟨by decide, rfl, innLL_mono (fun _ h => h.elim) _ hfr⟩, trivial⟩ ?_
   intro j hj
   have hincj : IntKind.i64.wrap ((j : Int) + 1) = ((j + 1 : Nat) : Int) := IntWalk.i64_in _ ⟨by omega, by omega⟩
   iterate 2 (first|refine st ?_|(apply B<;>intro hb<;>try cases hb))
   refine opsK_bool rfl rfl rfl (fun hb => ?_) (fun hb => ?_)
   · have hjl : j < s.length := by have := of_decide_eq_true hb; omega
     have hcj := hf64 _ (List.getElem_mem hjl)
     have htk := litL_take hjl
     have hltj := hlt (j + 1)
     clear hb
     (refine go ?_;repeat' (apply B<;>intro hb<;>try cases hb))
     refine opsK_of (E_iaddr (xs := s) (g := raC) rfl rfl j rfl hjl rfl) rfl rfl ?_
     generalize s[j] = c at hcj htk ⊢
     (refine go ?_;repeat' (apply B<;>intro hb<;>try cases hb))
     refine dK_eq (members19_spec c.1 hcj.1) rfl rfl rfl ⟨trivial, trivial⟩ ?_
     (refine go ?_;repeat' (apply B<;>intro hb<;>try cases hb))
     refine dK_eq (members19_spec c.2 hcj.2) rfl rfl rfl ⟨trivial, trivial⟩ ?_
     (refine go ?_;repeat' (apply B<;>intro hb<;>try cases hb))
     have e1 : (nums (intsN (mem c.1))).length = (mem c.1).length := by simp [nums, intsN]
     have e2 : (nums (intsN (mem c.2))).length = (mem c.2).length := by simp [nums, intsN]
     have hadd : IntKind.i64.wrap ((litL (s.take j) : Nat) + IntKind.i64.wrap (((nums (intsN (mem c.1))).length : Int) + ((nums (intsN (mem c.2))).length : Int))) = (litL (s.take (j + 1)) : Nat) := by
      rw [e1, e2, IntWalk.i64_in (((mem c.1).length : Int) + ((mem c.2).length : Int)) ⟨by omega, by omega⟩]
      exact (IntWalk.i64_in _ ⟨by omega, by omega⟩).trans (by omega)
     exact ⟨j + 1, by omega, by omega, ⟨⟨rfl, show (0 : Nat) < 1 by decide⟩, ⟨rfl, trivial⟩, ⟨rfl, hpp _⟩, ⟨rfl, trivial⟩, ⟨by show some _ = some _; rw [← hadd], trivial⟩, ⟨rfl, hxp _⟩, ⟨rfl, trivial⟩, ⟨rfl, trivial⟩, ⟨rfl, hfp _⟩, ⟨rfl, trivial⟩, ⟨by show some _ = some _; rw [hincj], trivial⟩, trivial⟩, ⟨⟨by decide, rfl, innLL_mono (fun _ h => h.elim) _ hfr⟩, trivial⟩⟩
   · have hjl : j = s.length := by have := of_decide_eq_false hb; omega
     subst hjl
     rw [List.take_length]
     clear hb
     by_cases h0 : we = 0
     · subst h0
       rw [if_pos rfl] at hbe
       by_cases hc : checkM (backF x) = 0
       · rw [if_pos hc] at hbe
         subst hbe
         rw [if_pos rfl] at hbr
         subst hbr
         have hv := hbp rfl hc
         (refine go ?_;repeat' (apply B<;>intro hb<;>try cases hb))
         refine opsK_eq (check_spec (backF x) hbb.1 hbb.2) rfl rfl rfl ⟨fC_pure _ _, trivial, trivial⟩ rfl ?_
         rw [hc]
         (refine go ?_;repeat' (apply B<;>intro hb<;>try cases hb))
         refine opsK_eq (violations_spec (backF x) hbb.1 hbb.2) rfl rfl rfl ⟨fC_pure _ _, trivial⟩ rfl ?_
         rw [hc, hv]
         (refine go ?_;repeat' (apply B<;>intro hb<;>try cases hb))
         refine opsK_eq (same_spec pr pr false false hpo hpo) rfl rfl rfl ⟨cubes_pure _, ras_pure _, trivial⟩ rfl ?_
         rw [sameL.2 rfl]
         (refine go ?_;repeat' (apply B<;>intro hb<;>try cases hb))
         exact ⟨i + 1, by omega, by omega, ⟨⟨rfl, hxp _⟩, ⟨rfl, trivial⟩, ⟨by show some _ = some _; rw [hinc], trivial⟩, trivial⟩, trivial⟩
       · rw [if_neg hc] at hbe
         subst hbe
         have h40 : ¬ litL s ≤ 40 := fun h => hc (hbo rfl h)
         repeat' (first | refine opsK_of (E_boolEq (v := true) rfl (decide_eq_true (show (litL s : Int) > 40 by omega))) rfl rfl ?_ | (first|refine st ?_|(apply B<;>intro hb<;>try cases hb)))
         exact ⟨i + 1, by omega, by omega, ⟨⟨rfl, hxp _⟩, ⟨rfl, trivial⟩, ⟨by show some _ = some _; rw [hinc], trivial⟩, trivial⟩, trivial⟩
     · rw [if_neg h0] at hbe
       subst hbe
       repeat' (first | refine opsK_of (E_boolEq (v := true) rfl (show (be != 0) = true by simpa using h0)) rfl rfl ?_ | refine opsK_of (E_boolEq (v := false) rfl (show (be != be) = false by simp)) rfl rfl ?_ | (first|refine st ?_|(apply B<;>intro hb<;>try cases hb)))
       exact ⟨i + 1, by omega, by omega, ⟨⟨rfl, hxp _⟩, ⟨rfl, trivial⟩, ⟨by show some _ = some _; rw [hinc], trivial⟩, trivial⟩, trivial⟩
 · clear hb
   (refine go ?_;repeat' (apply B<;>intro hb<;>try cases hb))
   exact ret_ok rfl trivial rfl
end Go.Proofs.YtifohjijhhjdkaaGreatDoor

namespace Go.Proofs.YtifohjijhhjdkaaGreatDoor
open Go.ChangeShapes Go.WideShapes Go.ChangeAt Go.RowKit
set_option linter.unusedVariables false

theorem rows_enc {α : Type} {enc : α → List PV} {Q : α → Prop} : ∀ {ll : List (List PV)}, (∀ l ∈ ll, ∃ x, Q x ∧ l = enc x) → ∃ xs : List α, (∀ x ∈ xs, Q x) ∧ ll = xs.map enc
 | [], _ => ⟨[], fun _ h => (by cases h), rfl⟩
 | l :: ll, h => by
   obtain ⟨x, h1, rfl⟩ := h l (List.mem_cons_self ..)
   obtain ⟨xs, h2, rfl⟩ := rows_enc fun l hl => h l (List.mem_cons_of_mem _ hl)
   refine ⟨x :: xs, fun y hy => ?_, rfl⟩
   rcases List.mem_cons.1 hy with rfl | hy
   · exact h1
   · exact h2 y hy
theorem shapeVs_two {P : Program} {s t : TypeId} : ∀ {ps : List PV}, ShapeVs P [s, t] ps → ∃ a b, ps = [a, b] ∧ ShapeV P s a ∧ ShapeV P t b
 | [a, b], ⟨h1, h2, _⟩ => ⟨a, b, rfl, h1, h2⟩
theorem int_u8 {m : Int} (h : (Lit.int .u8 m).wf = true) : ∃ a : Nat, a < 256 ∧ m = (a : Int) := by
 simp only [Lit.wf, Bool.and_eq_true, decide_eq_true_eq] at h
 obtain ⟨h1, h2⟩ := h
 have h3 : m ≤ 255 := h2
 have h4 : 0 ≤ m := h1
 exact ⟨m.toNat, by omega, by omega⟩
theorem int_u64 {m : Int} (h : (Lit.int .u64 m).wf = true) : ∃ a : Nat, a < 18446744073709551616 ∧ m = (a : Int) := by
 simp only [Lit.wf, Bool.and_eq_true, decide_eq_true_eq] at h
 obtain ⟨h1, h2⟩ := h
 have h3 : m ≤ 18446744073709551615 := h2
 have h4 : 0 ≤ m := h1
 exact ⟨m.toNat, by omega, by omega⟩
theorem raw_shape {n : Nat} {l : List PV} (h : Shape Tryz.prog n 98 l) : ∃ x : RawX, RawXok x ∧ l = rawC x := by
 have hl := shape_len h (k := 3) (by kernel_rfl)
 obtain ⟨n1, h1⟩ := shape_field h (i := 0) (off := 0) (ty := 5) (sz := 1) (by kernel_rfl)
 obtain ⟨n2, h2⟩ := shape_field h (i := 1) (off := 1) (ty := 5) (sz := 1) (by kernel_rfl)
 obtain ⟨n3, h3⟩ := shape_field h (i := 2) (off := 2) (ty := 4) (sz := 1) (by kernel_rfl)
 match l, hl with
 | [a, b, c], _ =>
   obtain ⟨m1, w1, e1⟩ := shape_int (show Shape _ n1 _ [a] from h1) (k := .u8) (by kernel_rfl)
   obtain ⟨m2, w2, e2⟩ := shape_int (show Shape _ n2 _ [b] from h2) (k := .u8) (by kernel_rfl)
   obtain ⟨o, e3⟩ := shape_bool (show Shape _ n3 _ [c] from h3) (by kernel_rfl)
   obtain ⟨x, hx, rfl⟩ := int_u8 w1
   obtain ⟨y, hy, rfl⟩ := int_u8 w2
   simp only [List.cons.injEq, and_true] at e1 e2 e3
   subst e1; subst e2; subst e3
   exact ⟨(x, y, o), ⟨hx, hy⟩, rfl⟩
theorem raws_shape {p : PV} (h : ShapeV Tryz.prog 48 p) : ∃ (l : List RawX) (fl : Bool), (∀ x ∈ l, RawXok x) ∧ p = .vec (l.map rawC) fl := by
 obtain ⟨n, ll, fl, _, h2, rfl⟩ := shapeV_slice h (e := 98) (by kernel_rfl)
 obtain ⟨xs, h3, rfl⟩ := rows_enc (enc := rawC) (Q := RawXok) fun l hl => raw_shape (h2 l hl)
 exact ⟨xs, fl, h3, rfl⟩
theorem mask_shape {n : Nat} {l : List PV} (h : Shape Tryz.prog n 100 l) : ∃ x : Cu, Ok64 x ∧ l = raC x := by
 have hl := shape_len h (k := 2) (by kernel_rfl)
 obtain ⟨n1, h1⟩ := shape_field h (i := 0) (off := 0) (ty := 57) (sz := 1) (by kernel_rfl)
 obtain ⟨n2, h2⟩ := shape_field h (i := 1) (off := 1) (ty := 57) (sz := 1) (by kernel_rfl)
 match l, hl with
 | [a, b], _ =>
   obtain ⟨m1, w1, e1⟩ := shape_int (show Shape _ n1 _ [a] from h1) (k := .u64) (by kernel_rfl)
   obtain ⟨m2, w2, e2⟩ := shape_int (show Shape _ n2 _ [b] from h2) (k := .u64) (by kernel_rfl)
   obtain ⟨x, hx, rfl⟩ := int_u64 w1
   obtain ⟨y, hy, rfl⟩ := int_u64 w2
   simp only [List.cons.injEq, and_true] at e1 e2
   subst e1; subst e2
   exact ⟨(x, y), ⟨hx, hy⟩, rfl⟩
theorem masks_shape {p : PV} (h : ShapeV Tryz.prog 49 p) : ∃ (l : List Cu) (fl : Bool), (∀ x ∈ l, Ok64 x) ∧ p = .vec (l.map raC) fl := by
 obtain ⟨n, ll, fl, _, h2, rfl⟩ := shapeV_slice h (e := 100) (by kernel_rfl)
 obtain ⟨xs, h3, rfl⟩ := rows_enc (enc := raC) (Q := Ok64) fun l hl => mask_shape (h2 l hl)
 exact ⟨xs, fl, h3, rfl⟩
end Go.Proofs.YtifohjijhhjdkaaGreatDoor

namespace Go.Proofs.YtifohjijhhjdkaaGreatDoor
open Go.ChangeShapes Go.WideShapes Go.ChangeAt Go.RowKit
set_option linter.unusedVariables false

theorem normalBack_spec : ∀ ps, ShapeVs Tryz.prog Tryz.f5.params.toList ps → pureL ps → Spec Tryz.prog 5 ps (· = .val (.bool true)) := by
 intro ps hs hp
 rw [show Tryz.f5.params.toList = [48, 49] by kernel_rfl] at hs
 obtain ⟨a, b, rfl, k0, k1⟩ := shapeVs_two hs
 obtain ⟨x0, f0, h0, rfl⟩ := raws_shape k0
 obtain ⟨x1, f1, h1, rfl⟩ := masks_shape k1
 exact normalBack_law x0 x1 f0 f1 h0 h1

set_option maxRecDepth 100000 in
theorem normalBack_lifted (os : Os) (started : os.Started) (H : Type) (enc : TypeId × Value → H) :
 ReturnsInHanded {} Tryz.checked os 5 .any (fun w args => (Rows.normalBackSpec.pre enc Tryz.prog Tryz.f5 [] false w args ∧ laidMetH Tryz.prog laidV w) ∧ sizedMet enc Tryz.prog Tryz.f5 (OpenSpec.ofChange Rows.normalBackSpec) false w args)
  (Rows.normalBackSpec.post enc Tryz.prog Tryz.f5 false true false false) := by
 refine returnsInHanded_of_change_and (C := Tryz.checked) (X := fun w _ => laidMetH Tryz.prog laidV w) (fun _ _ _ hh h => h.of_heap hh) own started (by kernel_rfl) Tryz.func5
  (ChangeSpec.witness_shaped (enc := enc) (C := Tryz.checked) (os := os) (X := fun w _ => laidMetH Tryz.prog laidV w) false (World.doorLaid Tryz.prog 400 os) #[.slice none 0 0, .slice none 0 0] 8 rfl (World.shaped_of_RefB (by kernel_rfl) (by kernel_rfl)) (by kernel_rfl) (by kernel_rfl) (by kernel_rfl) (door_met os _)) ?_
 intro W base args ds gs before hval hW _ hwt hL _
 exact law_contract (P := Tryz.prog) (G := partsG Tryz.prog Tryz.f5.params.toList) (by kernel_rfl) (inG_of (by kernel_rfl)) laidOut (parsOk_of (by kernel_rfl)) (tb := 4) (by kernel_rfl) (by kernel_rfl) rfl (fun ds hd => by
  match ds, hd with
  | [a, b], _ => exact ⟨rfl, rfl, rfl⟩) normalBack_spec W (globs_in hL) base args ds gs before hval hW hwt

theorem normalBack_holds : Rows.NormalBackSaid :=
 OpenClaim.holds_of_wide 5 Tryz.f5 rfl rfl rfl rfl rfl rfl rfl ⟨rfl, rfl, rfl, rfl, rfl⟩ rfl rfl rfl rfl rfl (by kernel_rfl) Tryz.func5 (by kernel_rfl)
  (of_decide_eq_true (by kernel_rfl)) (by unfold Func.isWrapper; first | (rw [if_pos (by decide +kernel)]; kernel_rfl) | (rw [if_neg (by decide +kernel)]; exact ⟨rfl, rfl⟩))
  (fun os started H enc _ => normalBack_lifted os started H enc)

theorem normalBack_card : Rows.NormalBackCardSaid :=
 Claim7.holds_tied_plain_at .later [] [.data] true (true, "60278ebb0399797ecb2d1b6d2c4fc51cb907438f354e44bc697f97883450e316") false
  normalBack_holds (fun _ h => by cases h) (by kernel_rfl) (fun _ h => by cases h) normalBack_row_tie rfl ⟨rfl, rfl⟩ (by kernel_rfl) rfl
  (fun f fn hf hfn => by
    obtain rfl : f = 5 := Option.some.inj ((show Tryz.prog.funcNamed "arbac/arbaclaw19.NormalBack" = some 5 by kernel_rfl).symm.trans hf) |>.symm
    obtain rfl : fn = Tryz.f5 := (Option.some.inj (Tryz.func5.symm.trans hfn)).symm
    exact ⟨by kernel_rfl, fun j t ht => by
     rw [show Tryz.f5.params = #[48, 49] by kernel_rfl] at ht
     have hm : t ∈ [48, 49] := by simpa using Array.mem_of_getElem? ht
     have hall : ([48, 49].all fun u => !Tryz.prog.wantsStandIn u) = true := by kernel_rfl
     exact (show Tryz.prog.wantsStandIn t = false by simpa using List.all_eq_true.1 hall t hm)⟩)
  (by kernel_rfl)
#print axioms normalBack_card
end Go.Proofs.YtifohjijhhjdkaaGreatDoor
