/-
 Proved: for every input the law NormalRefuses returns true, never panics, and leaves its arguments as0 they were, on the given card's conditions (the table of the bits package reads as0 the program's text lays it, and is tied to it).
-/
import Derived.SevenTiedAt
import Derived.Test.YtifohjijhhjdkaaGreatDoorCards
import Derived.Test.YtifohjijhhjdkaaGreatDoorTie
import Derived.Test.YtifohjijhhjdkaaGreatDoorMq5
set_option linter.unusedSimpArgs false
set_option linter.unusedVariables false

namespace Go.Proofs.YtifohjijhhjdkaaGreatDoor
open Go.RowKit
set_option linter.unusedVariables false
attribute [local irreducible] aw opsK dK

theorem rem_b2i (N j : Nat) : ((N / 2 ^ j % 2 : Nat) : Int) = b2i (N.testBit j) := by
 rw [Nat.testBit_eq_decide_div_mod_eq]
 have := Nat.mod_two_eq_zero_or_one (N / 2 ^ j)
 rcases this with h | h <;> rw [h] <;> rfl
set_option maxHeartbeats 4000000 in
theorem number19_spec (N : Nat) : ∀ (d : Nat) (f : Fm), f.depth ≤ d → Wf f → insideM 1 f = 0 → typeM f.op = 2 → f.size ≤ 1000 → Spec Tryz.prog 77 [.agg (fC .i64 f), .val (.int .u64 (N : Int))] (· = .val (.int .i64 (evM N [] f))) := by
 intro d
 induction d with
 | zero => intro f hf; rw [Fm.depth_eq] at hf; omega
 | succ d ih =>
   rintro ⟨op, n, roles, args⟩ hf hw hk1 ht hsz
   have w := hw.inv
   obtain ⟨hk6, hka⟩ := inside1_inv hk1
   have hpu := fC_inn .i64 (.mk op n roles args) (· < 0)
   refine spec_intro ok77 (Nat.le_of_ble_eq_true rfl) fun C hC => ?_
   have hop : op = 1 ∨ op = 5 ∨ op = 6 ∨ op = 16 := typeM_two ht
   refine aw_seq ?_
   refine aw_region ?_
   refine opsK_ofAlt rfl rfl rfl ?_
   refine opsK_of rfl rfl rfl ?_
   refine opsK_done ?_
   rcases hop with rfl | rfl | rfl | rfl
   · (refine go ?_;repeat' (apply B<;>intro hb<;>try cases hb))
     exact ret_ok rfl trivial rfl
   · have hl := nums_length roles
     have hmost := w.most
     have hm8 : roles.length ≤ 8 := by
      have : (roles.length : Int) ≤ 8 := Int.le_trans hmost (by decide)
      omega
     (refine go ?_;repeat' (apply B<;>intro hb<;>try cases hb))
     refine aw_loopH hC (fun i => i ≤ roles.length) (fun i => roles.length - i) 0 (fun i => [(1, .val (.int .u64 (N : Int))), (5, .val (.int .i64 (cntM N (roles.take i)))), (17, .vec (nums roles) false), (18, .val (.int .i64 roles.length)), (19, .val (.int .i64 (i : Int)))]) (fun _ => []) (Nat.le_refl _) 0 (Nat.zero_le _)
      ⟨⟨rfl, trivial⟩, ⟨rfl, trivial⟩, ⟨rfl, nums_inn _ _⟩, ⟨by rw [← hl]; rfl, trivial⟩, ⟨rfl, trivial⟩, trivial⟩ trivial ?_
     intro i hi
     have hinc : IntKind.i64.wrap ((i : Int) + 1) = ((i + 1 : Nat) : Int) := IntWalk.i64_in _ ⟨by omega, by omega⟩
     (refine go ?_;repeat' (apply B<;>intro hb<;>try cases hb))
     · have hil : i < roles.length := by simpa using hb
       refine opsK_of (E_iaddr (xs := roles) rfl rfl i rfl hil rfl) rfl rfl ?_
       have hrr := w.rng roles[i] (List.getElem_mem _)
       have h1 := cntM_take (N := N) hil
       have h2 := cntM_range N (roles.take i)
       have h3 : (roles.take i).length ≤ roles.length := by rw [List.length_take]; omega
       obtain ⟨j, hj⟩ : ∃ j : Nat, roles[i] = (j : Int) := ⟨roles[i].toNat, by omega⟩
       rw [hj] at h1 hrr ⊢
       rw [Int.toNat_natCast] at h1
       iterate 7 (first|refine st ?_|(apply B<;>intro hb<;>try cases hb))
       refine opsK_of (E_shr rfl rfl (by omega) (shr_u64 N j (by omega))) rfl rfl ?_
       refine opsK_int rfl rfl rfl ((rem2_u64 N j).trans (rem_b2i N j)) ?_
       have hb01 := b2i_01 (N.testBit j)
       refine opsK_int (v := b2i (N.testBit j)) rfl rfl rfl (by rcases hb01 with h | h <;> rw [h] <;> decide) ?_
       refine opsK_int (v := cntM N (roles.take i) + b2i (N.testBit j)) rfl rfl rfl (IntWalk.i64_in _ ⟨by omega, by omega⟩) ?_
       (refine go ?_;repeat' (apply B<;>intro hb<;>try cases hb))
       refine ⟨i + 1, by omega, by omega, ⟨⟨rfl, trivial⟩, ⟨by rw [h1]; rfl, trivial⟩, ⟨rfl, nums_inn _ _⟩, ⟨rfl, trivial⟩, ⟨by show some _ = some _; rw [hinc], trivial⟩, trivial⟩, trivial⟩
     · have hil : i = roles.length := by simp at hb; omega
       subst hil
       rw [List.take_length]
       exact ret_ok rfl trivial rfl
   · exact absurd rfl hk6
   · obtain ⟨x, y, rfl⟩ := w.two (by omega)
     obtain ⟨wx, tx⟩ := w.arg x (by simp)
     obtain ⟨wy, ty⟩ := w.arg y (by simp)
     rw [depth_two] at hf
     rw [size_two] at hsz
     obtain ⟨⟨x1, x2⟩, x3⟩ := evM_range N [] d x (by omega) wx
     obtain ⟨⟨y1, y2⟩, y3⟩ := evM_range N [] d y (by omega) wy
     have ihx := ih x (by omega) wx (hka x (by simp)) (by simpa [wantM] using tx) (by omega)
     have ihy := ih y (by omega) wy (hka y (by simp)) (by simpa [wantM] using ty) (by omega)
     rw [evM_two _ _ _ _ _ _ (by omega)]
     (refine go ?_;repeat' (apply B<;>intro hb<;>try cases hb))
     refine dK_of (E_iaddr (xs := [x, y]) rfl rfl 0 rfl (Nat.zero_lt_succ _) (cellsK_length _ _)) rfl rfl ?_
     rw [show [x, y][0] = x from rfl, cellsK_eq .i64 x]
     (refine go ?_;repeat' (apply B<;>intro hb<;>try cases hb))
     refine dK_eq ihx rfl rfl rfl ⟨fC_pure _ _, trivial, trivial⟩ ?_
     (refine go ?_;repeat' (apply B<;>intro hb<;>try cases hb))
     refine dK_of (E_iaddr (xs := [x, y]) rfl rfl 1 rfl (Nat.lt_succ_self _) (cellsK_length _ _)) rfl rfl ?_
     rw [show [x, y][1] = y from rfl, cellsK_eq .i64 y]
     (refine go ?_;repeat' (apply B<;>intro hb<;>try cases hb))
     refine dK_eq ihy rfl rfl rfl ⟨fC_pure _ _, trivial, trivial⟩ ?_
     have : IntKind.i64.wrap (evM N [] x + evM N [] y) = evM N [] x + evM N [] y := IntWalk.i64_in _ ⟨by omega, by omega⟩
     (refine go ?_;repeat' (apply B<;>intro hb<;>try cases hb))
     refine ret_ok rfl trivial ?_
     rw [this]; rfl
set_option maxHeartbeats 4000000 in
theorem holds19e_spec (N : Nat) : ∀ (d : Nat) (f : Fm), f.depth ≤ d → Wf f → insideM 1 f = 0 → typeM f.op = 1 → f.size ≤ 1000 → Spec Tryz.prog 33 [.agg (fC .i64 f), .val (.int .u64 (N : Int))] (· = .val (.bool (evM N [] f == 1))) := by
 intro d
 induction d with
 | zero => intro f hf; rw [Fm.depth_eq] at hf; omega
 | succ d ih =>
   rintro ⟨op, n, roles, args⟩ hf hw hk1 ht hsz
   have w := hw.inv
   obtain ⟨hk6, hka⟩ := inside1_inv hk1
   have hpu := fC_inn .i64 (.mk op n roles args) (· < 0)
   refine spec_intro ok33 (Nat.le_of_ble_eq_true rfl) fun C hC => ?_
   have hop : ¬ (op = 1 ∨ op = 5 ∨ op = 6 ∨ op = 16) := typeM_one ht
   refine aw_seq ?_
   refine aw_region ?_
   refine opsK_ofAlt rfl rfl rfl ?_
   refine opsK_of rfl rfl rfl ?_
   refine opsK_done ?_
   by_cases h8 : 8 ≤ op
   · obtain ⟨x, y, rfl⟩ := w.two h8
     obtain ⟨wx, tx⟩ := w.arg x (by simp)
     obtain ⟨wy, ty⟩ := w.arg y (by simp)
     rw [depth_two] at hf
     rw [size_two] at hsz
     obtain ⟨⟨x1, x2⟩, x3⟩ := evM_range N [] d x (by omega) wx
     obtain ⟨⟨y1, y2⟩, y3⟩ := evM_range N [] d y (by omega) wy
     rw [evM_two _ _ _ _ _ _ h8]
     by_cases h11 : op < 11
     · rw [wantM, if_neg (by omega)] at tx ty
       have ihx := ih x (by omega) wx (hka x (by simp)) tx (by omega)
       have ihy := ih y (by omega) wy (hka y (by simp)) ty (by omega)
       have hx := x3 tx
       have hy := y3 ty
       rcases ops16 w.lo w.hi with rfl | rfl | rfl | rfl | rfl | rfl | rfl | rfl | rfl | rfl | rfl | rfl | rfl | rfl | rfl | rfl
       all_goals first | (exfalso; omega) | skip
       all_goals
        generalize evM N [] x = a at *
        generalize evM N [] y = b at *
        (refine go ?_;repeat' (apply B<;>intro hb<;>try cases hb))
        refine opsK_of (E_iaddr (xs := [x, y]) rfl rfl 0 rfl (Nat.zero_lt_succ _) (cellsK_length _ _)) rfl rfl ?_
        rw [show [x, y][0] = x from rfl, cellsK_eq .i64 x]
        (refine go ?_;repeat' (apply B<;>intro hb<;>try cases hb))
        refine opsK_eq ihx rfl rfl rfl ⟨fC_pure _ _, trivial, trivial⟩ rfl ?_
        rcases hx with hx | hx <;> subst hx
        all_goals
         show opsK _ _ _ (updO _ _ (PV.val (Value.bool _))) _ _
         (refine go ?_;repeat' (apply B<;>intro hb<;>try cases hb))
         first
          | exact ret_ok rfl trivial rfl
          | (refine ret_ok rfl trivial ?_
             rcases hy with hy | hy <;> rw [hy] <;> rfl)
          | (refine opsK_of (E_iaddr (xs := [x, y]) rfl rfl 1 rfl (Nat.lt_succ_self _) (cellsK_length _ _)) rfl rfl ?_
             rw [show [x, y][1] = y from rfl, cellsK_eq .i64 y]
             (refine go ?_;repeat' (apply B<;>intro hb<;>try cases hb))
             refine opsK_eq ihy rfl rfl rfl ⟨fC_pure _ _, trivial, trivial⟩ rfl ?_
             rcases hy with hy | hy <;> subst hy
             all_goals
              show opsK _ _ _ (updO _ _ (PV.val (Value.bool _))) _ _
              (refine go ?_;repeat' (apply B<;>intro hb<;>try cases hb))
              exact ret_ok rfl trivial rfl)
     · rw [wantM, if_pos (by omega)] at tx ty
       have hix := number19_spec N d x (by omega) wx (hka x (by simp)) tx (by omega)
       have hiy := number19_spec N d y (by omega) wy (hka y (by simp)) ty (by omega)
       refine aw_cut hC True 0 [(1, .val (.int .u64 (N : Int))), (2, .cp (fC .i64 (.mk op n roles [x, y])))] [] (Nat.le_refl _) ?_ fun _ => ?_
       · rcases ops16 w.lo w.hi with rfl | rfl | rfl | rfl | rfl | rfl | rfl | rfl | rfl | rfl | rfl | rfl | rfl | rfl | rfl | rfl
         all_goals first | (exfalso; omega) | skip
         all_goals
          (refine go ?_;repeat' (apply B<;>intro hb<;>try cases hb))
          exact ⟨trivial, ⟨⟨rfl, trivial⟩, ⟨rfl, hpu⟩, trivial⟩, trivial⟩
       refine aw_cut hC True 0 [(2, .cp (fC .i64 (.mk op n roles [x, y]))), (5, .val (.int .i64 (evM N [] x))), (6, .val (.int .i64 (evM N [] y)))] [] (Nat.le_refl _) ?_ fun _ => ?_
       · (refine go ?_;repeat' (apply B<;>intro hb<;>try cases hb))
         refine dK_of (E_iaddr (xs := [x, y]) rfl rfl 0 rfl (Nat.zero_lt_succ _) (cellsK_length _ _)) rfl rfl ?_
         rw [show [x, y][0] = x from rfl, cellsK_eq .i64 x]
         (refine go ?_;repeat' (apply B<;>intro hb<;>try cases hb))
         refine dK_eq hix rfl rfl rfl ⟨fC_pure _ _, trivial, trivial⟩ ?_
         (refine go ?_;repeat' (apply B<;>intro hb<;>try cases hb))
         refine dK_of (E_iaddr (xs := [x, y]) rfl rfl 1 rfl (Nat.lt_succ_self _) (cellsK_length _ _)) rfl rfl ?_
         rw [show [x, y][1] = y from rfl, cellsK_eq .i64 y]
         (refine go ?_;repeat' (apply B<;>intro hb<;>try cases hb))
         refine dK_eq hiy rfl rfl rfl ⟨fC_pure _ _, trivial, trivial⟩ ?_
         (refine go ?_;repeat' (apply B<;>intro hb<;>try cases hb))
         exact ⟨trivial, ⟨⟨rfl, hpu⟩, ⟨rfl, trivial⟩, ⟨rfl, trivial⟩, trivial⟩, trivial⟩
       generalize evM N [] x = a at *
       generalize evM N [] y = b at *
       rcases ops16 w.lo w.hi with rfl | rfl | rfl | rfl | rfl | rfl | rfl | rfl | rfl | rfl | rfl | rfl | rfl | rfl | rfl | rfl
       all_goals first | (exfalso; omega) | skip
       all_goals
        (refine go ?_;repeat' (apply B<;>intro hb<;>try cases hb))
        all_goals
         refine ret_ok rfl trivial (congrArg (fun z => PV.val (Value.bool z)) ?_)
         first
          | (refine Eq.trans ?_ (congrArg (fun z => b2i z == 1) hb.symm); rfl)
   · rcases ops16 w.lo w.hi with rfl | rfl | rfl | rfl | rfl | rfl | rfl | h
     · exfalso; omega
     · (refine go ?_;repeat' (apply B<;>intro hb<;>try cases hb))
       exact ret_ok rfl trivial rfl
     · (refine go ?_;repeat' (apply B<;>intro hb<;>try cases hb))
       exact ret_ok rfl trivial rfl
     · obtain ⟨r, rfl⟩ := w.role (.inl rfl)
       have hrr := w.rng r (by simp)
       have e4 : (evM N [] (.mk 4 n [r] args) == 1) = N.testBit r.toNat := by
        simp [evM, opM, cntM, b2i]
        cases N.testBit r.toNat <;> rfl
       rw [e4]
       obtain ⟨j, rfl⟩ : ∃ j : Nat, r = (j : Int) := ⟨r.toNat, by omega⟩
       rw [Int.toNat_natCast]
       refine gv ?_
       exact ret_ok rfl trivial (congrArg (fun z => PV.val (Value.bool z)) (by rw [shr_u64 N j (by omega), rem2_u64 N j]; exact bit_eq N j))
     · exfalso; omega
     · exfalso; omega
     · obtain ⟨x, rfl⟩ := w.one
       obtain ⟨wx, tx⟩ := w.arg x (by simp)
       rw [depth_one] at hf
       rw [size_one] at hsz
       rw [wantM, if_neg (by omega)] at tx
       obtain ⟨⟨x1, x2⟩, x3⟩ := evM_range N [] d x (by omega) wx
       have ihx := ih x (by omega) wx (hka x (by simp)) tx (by omega)
       rw [evM_one]
       have hx := x3 tx
       generalize evM N [] x = a at *
       (refine go ?_;repeat' (apply B<;>intro hb<;>try cases hb))
       refine opsK_of (E_iaddr (xs := [x]) rfl rfl 0 rfl (Nat.zero_lt_succ _) (cellsK_length _ _)) rfl rfl ?_
       rw [show [x][0] = x from rfl, cellsK_eq .i64 x]
       (refine go ?_;repeat' (apply B<;>intro hb<;>try cases hb))
       refine opsK_eq ihx rfl rfl rfl ⟨fC_pure _ _, trivial, trivial⟩ rfl ?_
       rcases hx with hx | hx <;> subst hx
       all_goals
        show opsK _ _ _ (updO _ _ (PV.val (Value.bool _))) _ _
        (refine go ?_;repeat' (apply B<;>intro hb<;>try cases hb))
        exact ret_ok rfl trivial rfl
     · omega

end Go.Proofs.YtifohjijhhjdkaaGreatDoor

namespace Go.Proofs.YtifohjijhhjdkaaGreatDoor
open Go.RowKit
set_option linter.unusedVariables false
attribute [local irreducible] aw opsK dK

def memQ (N j : Nat) : List Nat := (List.range j).filter fun i => N.testBit i
theorem memQ_succ (N j : Nat) : (memQ N (j + 1)).length = (memQ N j).length + (if N.testBit j = true then 1 else 0) := by
 unfold memQ
 rw [List.range_succ, List.filter_append, List.length_append]
 cases h : N.testBit j <;> simp [h]
theorem memQ_len (N j : Nat) : (memQ N j).length ≤ j := by
 have := List.length_filter_le (fun i => N.testBit i) (List.range j)
 rwa [List.length_range] at this
set_option maxHeartbeats 1000000 in
theorem size18_spec (N : Nat) : Spec Tryz.prog 76 [.val (.int .u64 (N : Int))] (· = .val (.int .i64 ((mem N).length : Nat))) := by
 refine spec_intro ok76 (Nat.le_of_ble_eq_true rfl) fun C hC => ?_
 (refine go ?_;repeat' (apply B<;>intro hb<;>try cases hb))
 refine aw_loopH hC (fun i => i ≤ 64) (fun i => 64 - i) 0 (fun i => [(0, .val (.int .u64 (N : Int))), (3, .val (.int .i64 ((memQ N i).length : Nat))), (4, .val (.int .i64 (i : Int)))]) (fun _ => []) (Nat.le_refl _) 0 (Nat.zero_le _)
  ⟨⟨rfl, trivial⟩, ⟨rfl, trivial⟩, ⟨rfl, trivial⟩, trivial⟩ trivial ?_
 intro i hi
 have hinc : IntKind.i64.wrap ((i : Int) + 1) = ((i + 1 : Nat) : Int) := IntWalk.i64_in _ ⟨by omega, by omega⟩
 have hs := memQ_succ N i
 have hl := memQ_len N i
 iterate 4 (first|refine st ?_|(apply B<;>intro hb<;>try cases hb))
 refine opsK_bool rfl rfl rfl (fun hb => ?_) (fun hb => ?_)
 · have hil : i < 64 := by have := of_decide_eq_true hb; omega
   clear hb
   (refine go ?_;repeat' (apply B<;>intro hb<;>try cases hb))
   · have hb1 : N.testBit i = true := by rw [← hb, shr_u64 N i hil, rem2_u64 N i, bit_eq N i]
     rw [if_pos hb1] at hs
     have hw : IntKind.i64.wrap (((memQ N i).length : Int) + 1) = (((memQ N (i + 1)).length : Nat) : Int) := by
      rw [hs]; exact IntWalk.i64_in _ ⟨by omega, by omega⟩
     exact ⟨i + 1, by omega, by omega, ⟨⟨rfl, trivial⟩, ⟨by show some _ = some _; rw [hw], trivial⟩, ⟨by show some _ = some _; rw [hinc], trivial⟩, trivial⟩, trivial⟩
   · have hb1 : ¬ N.testBit i = true := by rw [← bit_eq N i, ← rem2_u64 N i, ← shr_u64 N i hil, hb]; decide
     rw [if_neg hb1, Nat.add_zero] at hs
     exact ⟨i + 1, by omega, by omega, ⟨⟨rfl, trivial⟩, ⟨by rw [hs]; rfl, trivial⟩, ⟨by show some _ = some _; rw [hinc], trivial⟩, trivial⟩, trivial⟩
 · have hil : i = 64 := by have := of_decide_eq_false hb; omega
   subst hil
   clear hb
   (refine go ?_;repeat' (apply B<;>intro hb<;>try cases hb))
   exact ret_ok rfl trivial rfl
theorem rset_take {l : List Int} {i : Nat} (hi : i < l.length) : rset (l.take (i + 1)) = rset (l.take i) ||| 2 ^ l[i].toNat := by
 have e : l.take (i + 1) = l.take i ++ [l[i]] := by rw [List.take_add_one, List.getElem?_eq_getElem hi]; rfl
 rw [e, rset, List.foldl_append]
 rfl
theorem orShl64 (x j : Nat) (hx : x < 18446744073709551616) (hj : j < 64) : bits .or .u64 (x : Int) (IntKind.u64.wrap (1 * 2 ^ (min (j : Int).toNat IntKind.u64.bits))) = ((x ||| 2 ^ j : Nat) : Int) := by
 have h1 : 2 ^ j < 18446744073709551616 := pow_lt64 hj
 have h2 : IntKind.u64.wrap (1 * 2 ^ (min (j : Int).toNat IntKind.u64.bits)) = ((2 ^ j : Nat) : Int) := by
  rw [show min (j : Int).toNat IntKind.u64.bits = j by simp [IntKind.bits]; omega, Int.one_mul, show (2 : Int) ^ j = ((2 ^ j : Nat) : Int) by simp]
  exact IntWalk.u64_in _ ⟨Int.natCast_nonneg _, Int.ofNat_le.2 (show _ ≤ 18446744073709551615 by omega)⟩
 rw [h2]
 exact bits_or_u64_nat _ _ hx h1
set_option maxHeartbeats 4000000 in
theorem mentioned18_spec (k : Int) : ∀ (d : Nat) (f : Fm), f.depth ≤ d → f.size ≤ 1000 → insideM k f = 0 → Spec Tryz.prog 32 [.agg (fC .i64 f)] (· = .val (.int .u64 (mentF f : Nat))) := by
 intro d
 induction d with
 | zero => intro f hf; rw [Fm.depth_eq] at hf; omega
 | succ d ih =>
   intro f hf hsz hk
   obtain ⟨h1, h2⟩ := inside_node hk
   have hrr := node_roles h1
   have hll : (f.args.map (cellsK .i64)).length = f.args.length := by simp
   have hnl := nums_length f.roles
   have hr8 : f.roles.length ≤ 8 := by
    have := (nodeM_inv h1).2.1
    simp only [badForm, Bool.or_eq_false_iff, decide_eq_false_iff_not] at this
    have h3 : (f.roles.length : Int) ≤ mostM f.op := by have := this.2; omega
    have h4 : mostM f.op ≤ 8 := by
     unfold mostM
     split
     · decide
     · split <;> decide
    omega
   have hfd := f.depth_eq
   have hfs := f.size_eq
   have hlm := length_le_size f.args
   have hpu := fun D => fC_inn .i64 f D
   have hlt : ∀ i, mentL (f.args.take i) < 18446744073709551616 := by
    intro i
    have hl : ∀ l : List Fm, (∀ a ∈ l, mentF a < 18446744073709551616) → mentL l < 18446744073709551616 := by
     intro l
     induction l with
     | nil => intro _; simp [mentL]
     | cons a r ihl => intro hh; rw [mentL]; exact or_lt (hh a (List.mem_cons_self ..)) (ihl fun b hb => hh b (List.mem_cons_of_mem _ hb))
    refine hl _ fun a ha => ?_
    have ha' := List.mem_of_mem_take ha
    exact mentF_lt a.depth a (Nat.le_refl _) (h2 a ha')
   have hrlt : ∀ i, rset (f.roles.take i) < 18446744073709551616 := fun i => rset_lt fun r hr => hrr r (List.mem_of_mem_take hr)
   refine spec_intro ok32 (Nat.le_of_ble_eq_true rfl) fun C hC => ?_
   refine aw_seq ?_
   refine aw_region ?_
   refine opsK_ofAlt rfl rfl rfl ?_
   (refine go ?_;repeat' (apply B<;>intro hb<;>try cases hb))
   refine aw_loopH hC (fun i => i ≤ f.roles.length) (fun i => f.roles.length - i) 0 (fun i => [(1, .cp (fC .i64 f)), (3, .val (.int .u64 (rset (f.roles.take i) : Nat))), (9, .vec (nums f.roles) false), (10, .val (.int .i64 (f.roles.length : Int))), (11, .val (.int .i64 (i : Int)))]) (fun _ => []) (Nat.zero_le _) 0 (Nat.zero_le _)
    ⟨⟨rfl, hpu _⟩, ⟨rfl, trivial⟩, ⟨rfl, nums_inn _ _⟩, ⟨by rw [← hnl]; rfl, trivial⟩, ⟨rfl, trivial⟩, trivial⟩ trivial ?_
   intro i hi
   have hinc : IntKind.i64.wrap ((i : Int) + 1) = ((i + 1 : Nat) : Int) := IntWalk.i64_in _ ⟨by omega, by omega⟩
   iterate 2 (first|refine st ?_|(apply B<;>intro hb<;>try cases hb))
   refine opsK_bool rfl rfl rfl (fun hb => ?_) (fun hb => ?_)
   · have hil : i < f.roles.length := by have := of_decide_eq_true hb; omega
     have hs := rset_take hil
     have hri := hrr _ (List.getElem_mem hil)
     have hlti := hrlt i
     clear hb
     (refine go ?_;repeat' (apply B<;>intro hb<;>try cases hb))
     refine opsK_of (E_iaddr (xs := f.roles) rfl rfl i rfl hil rfl) rfl rfl ?_
     obtain ⟨j, hj⟩ : ∃ j : Nat, f.roles[i] = (j : Int) := ⟨f.roles[i].toNat, by omega⟩
     rw [hj] at hs hri ⊢
     rw [Int.toNat_natCast] at hs
     iterate 6 (first|refine st ?_|(apply B<;>intro hb<;>try cases hb))
     refine opsK_of (E_boolEq (v := true) rfl (decide_eq_true (by omega))) rfl rfl ?_
     iterate 4 (first|refine st ?_|(apply B<;>intro hb<;>try cases hb))
     refine opsK_of (E_boolEq (v := true) rfl (decide_eq_true (by omega))) rfl rfl ?_
     (refine go ?_;repeat' (apply B<;>intro hb<;>try cases hb))
     have hval := orShl64 (rset (f.roles.take i)) j hlti (by omega)
     exact ⟨i + 1, by omega, by omega, ⟨⟨rfl, hpu _⟩, ⟨by show some (PV.val (.int .u64 (bits .or .u64 _ _))) = some (PV.val (.int .u64 (rset (f.roles.take (i + 1)) : Nat))); rw [hs, ← hval], trivial⟩, ⟨rfl, nums_inn _ _⟩, ⟨rfl, trivial⟩, ⟨by show some _ = some _; rw [hinc], trivial⟩, trivial⟩, trivial⟩
   · have hil : i = f.roles.length := by have := of_decide_eq_false hb; omega
     subst hil
     clear hb
     rw [List.take_length]
     (refine go ?_;repeat' (apply B<;>intro hb<;>try cases hb))
     refine aw_loopH hC (fun i => i ≤ f.args.length) (fun i => f.args.length - i) 0 (fun i => [(3, .val (.int .u64 (rset f.roles ||| mentL (f.args.take i) : Nat))), (27, .vec (f.args.map (cellsK .i64)) false), (28, .val (.int .i64 (f.args.length : Int))), (29, .val (.int .i64 (i : Int)))]) (fun _ => []) (Nat.zero_le _) 0 (Nat.zero_le _)
      ⟨⟨by rw [List.take_zero, mentL, Nat.or_zero]; rfl, trivial⟩, ⟨rfl, fArgs_inn _ _ _⟩, ⟨by rw [← hll]; rfl, trivial⟩, ⟨rfl, trivial⟩, trivial⟩ trivial ?_
     intro i hi
     have hinc : IntKind.i64.wrap ((i : Int) + 1) = ((i + 1 : Nat) : Int) := IntWalk.i64_in _ ⟨by omega, by omega⟩
     have hcur := or_lt (rset_lt hrr) (hlt i)
     iterate 2 (first|refine st ?_|(apply B<;>intro hb<;>try cases hb))
     refine opsK_bool rfl rfl rfl (fun hb => ?_) (fun hb => ?_)
     · have hil : i < f.args.length := by have := of_decide_eq_true hb; omega
       have hdl := depthL_mem hil
       have hsl := sizeL_mem hil
       have hin := h2 _ (List.getElem_mem hil)
       clear hb
       (refine go ?_;repeat' (apply B<;>intro hb<;>try cases hb))
       refine opsK_of (E_iaddr (xs := f.args) rfl rfl i rfl hil (cellsK_length _ _)) rfl rfl ?_
       rw [cellsK_eq]
       (refine go ?_;repeat' (apply B<;>intro hb<;>try cases hb))
       refine opsK_eq (ih f.args[i] (by omega) (by omega) hin) rfl rfl rfl ⟨fC_pure _ _, trivial⟩ rfl ?_
       refine opsK_of (E_int rfl (bits_or_u64_nat _ _ hcur (mentF_lt _ _ (Nat.le_refl _) hin))) rfl rfl ?_
       (refine go ?_;repeat' (apply B<;>intro hb<;>try cases hb))
       exact ⟨i + 1, by omega, by omega, ⟨⟨by rw [mentL_take hil, ← Nat.or_assoc]; rfl, trivial⟩, ⟨rfl, fArgs_inn _ _ _⟩, ⟨rfl, trivial⟩, ⟨by show some _ = some _; rw [hinc], trivial⟩, trivial⟩, trivial⟩
     · have hil : i = f.args.length := by have := of_decide_eq_false hb; omega
       subst hil
       clear hb
       rw [List.take_length]
       (refine go ?_;repeat' (apply B<;>intro hb<;>try cases hb))
       exact ret_ok rfl trivial (by rw [mentF_eq])
set_option maxHeartbeats 4000000 in
theorem check18_spec (f : Fm) (hd : f.depth ≤ 1000) (hsz : f.size ≤ 1099511627776) : Spec Tryz.prog 31 [.agg (fC .i64 f), .val (.int .i64 1)] (· = .val (.int .i64 (checkM f))) := by
 refine spec_intro ok31 (Nat.le_of_ble_eq_true rfl) fun C hC => ?_
 refine aw_seq ?_
 refine aw_region ?_
 refine opsK_ofAlt rfl rfl rfl ?_
 (refine go ?_;repeat' (apply B<;>intro hb<;>try cases hb))
 refine opsK_eq (depth_spec f.depth f (Nat.le_refl _) hd) rfl rfl rfl ⟨fC_pure _ _, trivial⟩ rfl ?_
 by_cases h1 : f.depth > 10
 · have hl : lookM 1 f = 3 := by unfold lookM; rw [if_pos (.inl h1)]
   refine opsK_of (E_boolEq (v := true) rfl (decide_eq_true (by omega))) rfl rfl ?_
   (refine go ?_;repeat' (apply B<;>intro hb<;>try cases hb))
   exact ret_ok rfl trivial (by rw [checkM, hl, if_pos (by decide)]; rfl)
 refine opsK_of (E_boolEq (v := false) rfl (decide_eq_false (by omega))) rfl rfl ?_
 (refine go ?_;repeat' (apply B<;>intro hb<;>try cases hb))
 refine opsK_eq (size_spec f.depth f (Nat.le_refl _) hsz) rfl rfl rfl ⟨fC_pure _ _, trivial⟩ rfl ?_
 by_cases h2 : f.size > 200
 · have hl : lookM 1 f = 3 := by unfold lookM; rw [if_pos (.inr h2)]
   repeat' (first | refine opsK_of (E_boolEq (v := true) rfl (decide_eq_true (by omega))) rfl rfl ?_ | (first|refine st ?_|(apply B<;>intro hb<;>try cases hb)))
   exact ret_ok rfl trivial (by rw [checkM, hl, if_pos (by decide)]; rfl)
 repeat' (first | refine opsK_of (E_boolEq (v := false) rfl (decide_eq_false (by omega))) rfl rfl ?_ | (first|refine st ?_|(apply B<;>intro hb<;>try cases hb)))
 have hl : lookM 1 f = insideM 1 f := by unfold lookM; rw [if_neg (by omega)]
 refine opsK_eq (insideR_spec 1 f.depth f (Nat.le_refl _) hsz) rfl rfl rfl ⟨fC_pure _ _, trivial, trivial⟩ rfl ?_
 by_cases h0 : insideM 1 f = 0
 · rw [h0]
   have hc : checkM f = if fitsM f = true ∧ typeM f.op = 1 then (if 8 < (mem (mentF f)).length then 3 else 0) else 10 := by rw [checkM, if_neg (by rw [hl, h0]; decide)]
   (refine go ?_;repeat' (apply B<;>intro hb<;>try cases hb))
   refine opsK_eq (fitsR_spec f.depth f (Nat.le_refl _)) rfl rfl rfl ⟨fC_pure _ _, trivial⟩ rfl ?_
   cases hfit : fitsM f
   · (refine go ?_;repeat' (apply B<;>intro hb<;>try cases hb))
     exact ret_ok rfl trivial (by rw [hc, hfit, if_neg (by simp)]; rfl)
   · (refine go ?_;repeat' (apply B<;>intro hb<;>try cases hb))
     refine opsK_eq (type_spec f.op) rfl rfl rfl ⟨trivial, trivial⟩ rfl ?_
     (refine go ?_;repeat' (apply B<;>intro hb<;>try cases hb))
     · have ht : typeM f.op ≠ 1 := by simpa using hb
       exact ret_ok rfl trivial (by rw [hc, if_neg (fun h => ht h.2)]; rfl)
     · have ht : typeM f.op = 1 := by simpa using hb
       clear hb
       refine opsK_eq (mentioned18_spec 1 f.depth f (Nat.le_refl _) (by omega) h0) rfl rfl rfl ⟨fC_pure _ _, trivial⟩ rfl ?_
       (refine go ?_;repeat' (apply B<;>intro hb<;>try cases hb))
       refine opsK_eq (size18_spec _) rfl rfl rfl ⟨trivial, trivial⟩ rfl ?_
       (refine go ?_;repeat' (apply B<;>intro hb<;>try cases hb))
       · have h8 : 8 < (mem (mentF f)).length := by have := of_decide_eq_true hb; omega
         exact ret_ok rfl trivial (by rw [hc, if_pos ⟨hfit, ht⟩, if_pos h8]; rfl)
       · have h8 : ¬ 8 < (mem (mentF f)).length := by have := of_decide_eq_false hb; omega
         exact ret_ok rfl trivial (by rw [hc, if_pos ⟨hfit, ht⟩, if_neg h8]; rfl)
 · (refine go ?_;repeat' (apply B<;>intro hb<;>try cases hb))
   · exact ret_ok rfl trivial (by rw [checkM, hl, if_pos h0])
   · exact absurd (by simpa using hb) h0
theorem not_one {f : Fm} (w : Wf f) (ht : typeM f.op = 1) (S : Nat) : (!(evM S [] f == 1)) = vioB f S := by
 unfold vioB
 rcases (evM_range S [] f.depth f (Nat.le_refl _) w).2 ht with h | h <;> rw [h] <;> rfl
set_option maxHeartbeats 4000000 in
theorem violR_spec (f : Fm) (hd : f.depth ≤ 1000) (hsz : f.size ≤ 1099511627776) : Spec Tryz.prog 9 [.agg (fC .i64 f)] (· = .tup [.vec ((vioL f).map raC) false, .val (.int .i64 (checkM f))]) := by
 have hpu := fC_pure .i64 f
 refine spec_intro ok9 (Nat.le_of_ble_eq_true rfl) fun C hC => ?_
 refine aw_seq ?_
 refine aw_region ?_
 refine opsK_ofAlt rfl rfl rfl ?_
 (refine go ?_;repeat' (apply B<;>intro hb<;>try cases hb))
 refine opsK_eq (check18_spec f hd hsz) rfl rfl rfl ⟨fC_pure _ _, trivial, trivial⟩ rfl ?_
 by_cases he : checkM f = 0
 · rw [he]
   obtain ⟨hw, hk, hd10, hs200, ht, h8⟩ := check_inv he
   have hm := mentF_lt f.depth f (Nat.le_refl _) hk
   (refine go ?_;repeat' (apply B<;>intro hb<;>try cases hb))
   refine opsK_eq (mentioned18_spec 1 f.depth f (Nat.le_refl _) (by omega) hk) rfl rfl rfl ⟨fC_pure _ _, trivial⟩ rfl ?_
   refine opsK_eq (members19_spec (mentF f) hm) rfl rfl rfl ⟨trivial, trivial⟩ rfl ?_
   have hnl : (nums (intsN (mem (mentF f)))).length = (mem (mentF f)).length := by simp [nums, intsN]
   have hr : ∀ r ∈ mem (mentF f), r < 64 := fun r hr => mem_lt hr
   generalize hro : mem (mentF f) = roles at *
   repeat' (first | refine opsK_sub (subA_ownNil (k := 6) rfl 1 (by decide)) ?_ | (first|refine st ?_|(apply B<;>intro hb<;>try cases hb)))
   obtain ⟨k, hk'⟩ : ∃ k, k = roles.length := ⟨_, rfl⟩
   have h2 : 2 ^ k ≤ 256 := Nat.le_trans (Nat.pow_le_pow_right (by decide) (show k ≤ 8 by omega)) (by decide)
   have hsh : IntKind.i64.wrap (1 * 2 ^ (min ((nums (intsN roles)).length : Int).toNat IntKind.i64.bits)) = ((2 ^ k : Nat) : Int) := by
    rw [hnl, ← hk']; exact shl1 k (by omega)
   refine aw_loopR hC (fun (i : Nat) => i ≤ 2 ^ k) (fun i => 2 ^ k - i) 1 (fun i => [(1, .cp (fC .i64 f)), (5, .vec (nums (intsN roles)) false), (6, .own 0), (7, .val (.int .i64 (i : Int)))])
    (fun i => [(0, ⟨1, bolR i (okM roles (vioB f))⟩)]) (Nat.zero_le _) 0 (Nat.zero_le _) (fun i => i) (fun _ _ => rfl) injOn_id
    ⟨⟨_, rfl, .pure _ hpu⟩, ⟨_, rfl, .pure _ (nums_pure _)⟩, ⟨_, rfl, .own 0 (by decide)⟩, ⟨_, rfl, .pure _ trivial⟩, trivial⟩
    ⟨⟨by decide, _, rfl, .same _ trivial⟩, trivial⟩ ?_
   intro i hi
   have hinc : IntKind.i64.wrap ((i : Int) + 1) = ((i + 1 : Nat) : Int) := IntWalk.i64_in _ ⟨by omega, by omega⟩
   iterate 6 (first|refine st ?_|(apply B<;>intro hb<;>try cases hb))
   refine opsK_of (E_int rfl hsh) rfl rfl ?_
   refine opsK_bool rfl rfl rfl (fun hb => ?_) (fun hb => ?_)
   · have hil : i < 2 ^ k := by have := of_decide_eq_true hb; omega
     clear hb
     (refine go ?_;repeat' (apply B<;>intro hb<;>try cases hb))
     refine dK_eq (subset19_spec roles false i hr (by omega) (by omega)) rfl rfl rfl ⟨nums_pure _, trivial, trivial⟩ ?_
     refine dK_eq (holds19e_spec (setM roles i) f.depth f (Nat.le_refl _) hw hk ht (by omega)) rfl rfl rfl ⟨fC_pure _ _, trivial, trivial⟩ ?_
     refine dK_of (E_boolEq rfl (not_one hw ht (setM roles i))) rfl rfl ?_
     refine gv ?_
     refine dK_of (E_append (k := 0) (m := [bolC (vioB f (setM roles i))]) (fl := true) rfl rfl rfl (fun c hc => by rw [List.mem_singleton] at hc; subst hc; rfl) rfl (by
      show ((bolR i (okM roles (vioB f))).length + 1) * 1 ≤ _
      rw [bolR_length]
      omega)) rfl rfl ?_
     (refine go ?_;repeat' (apply B<;>intro hb<;>try cases hb))
     refine ⟨i + 1, mv 0 9, by omega, by omega, fun i hi => absurd hi (Nat.not_lt_zero i), injOn_of rfl,
      ⟨⟨_, rfl, .pure _ hpu⟩, ⟨_, rfl, .pure _ (nums_pure _)⟩, ⟨_, rfl, .own 0 (by decide)⟩, ⟨_, by show some _ = some _; rw [hinc], .pure _ trivial⟩, trivial⟩,
      ⟨⟨by decide, _, rfl, ?_⟩, trivial⟩⟩
     show RenB _ _ ⟨1, bolR i (okM roles (vioB f)) ++ [bolC (okM roles (vioB f) i)]⟩ ⟨1, bolR (i + 1) (okM roles (vioB f))⟩
     rw [← bolR_succ]
     exact .same _ (bolR_pure _ _)
   · have hil : i = 2 ^ k := by have := of_decide_eq_false hb; omega
     subst hil
     clear hb
     repeat' (first | refine opsK_sub (subA_freeze (k := 6) rfl rfl (bolR_pure _ _)) ?_ | (first|refine st ?_|(apply B<;>intro hb<;>try cases hb)))
     refine opsK_eq (primes19_spec roles false false (okM roles (vioB f)) hr h8) rfl rfl (by show [PV.vec _ _, PV.vec _ _] = _; rw [hk']) ⟨nums_pure _, bolR_pure _ _, trivial⟩ rfl ?_
     (refine go ?_;repeat' (apply B<;>intro hb<;>try cases hb))
     refine ret_ok rfl ⟨ras_pure _, trivial, trivial⟩ ?_
     rw [vioL, if_pos he, hro]
     rfl
 · (refine go ?_;repeat' (apply B<;>intro hb<;>try cases hb))
   · refine ret_low rfl (pure_of rfl) ?_
     rw [vioL, if_neg he]
     rfl
   · exact absurd (by simpa using hb) he
end Go.Proofs.YtifohjijhhjdkaaGreatDoor

namespace Go.Proofs.YtifohjijhhjdkaaGreatDoor
open Go.RowKit
set_option linter.unusedVariables false
attribute [local irreducible] aw opsK dK

theorem hasT_spec (N : Nat) (hN : N < 18446744073709551616) (i : Nat) : Spec Tryz.prog 89 [setN N, .val (.int .i64 (i : Int))] (· = .val (.bool (N.testBit i))) := by
 have := hasS_spec N hN (i : Int)
 rwa [decide_eq_true (show (0 : Int) ≤ (i : Int) by omega), Bool.true_and, Int.toNat_natCast] at this
theorem cu_low (c : Cu) : lowL (cuC c) = cuC c := by
 show [PV.vec (lowLL (words (digs c.1))) false, PV.vec (lowLL (words (digs c.2))) false] = _
 rw [lowLL_words, lowLL_words]
 rfl
set_option maxHeartbeats 4000000 in
theorem minus_spec (a b : Cu) (ha : Ok64 a) (hb0 : Ok64 b) : Spec Tryz.prog 87 [cuP a, cuP b] (· = .vec ((minC a b).map cuC) false) := by
 have hN : b.1 ||| b.2 < 18446744073709551616 := or_lt hb0.1 hb0.2
 refine spec_intro ok87 (Nat.le_of_ble_eq_true rfl) fun C hC => ?_
 refine aw_seq ?_
 refine aw_region ?_
 (first|refine st ?_|(apply B<;>intro hb<;>try cases hb))
 refine opsK_ofAlt rfl rfl rfl ?_
 (refine go ?_;repeat' (apply B<;>intro hb<;>try cases hb))
 refine opsK_eq (emptyC_spec a ha) rfl rfl rfl ⟨cuP_pure a, trivial⟩ rfl ?_
 unfold minC
 cases he : emC a
 case true =>
  (refine go ?_;repeat' (apply B<;>intro hb<;>try cases hb))
  exact ret_low rfl (pure_of rfl) rfl
 rw [if_neg (by decide)]
 (refine go ?_;repeat' (apply B<;>intro hb<;>try cases hb))
 refine opsK_eq (meetC_spec a b ha hb0) rfl rfl rfl ⟨cuP_pure a, cuP_pure b, trivial⟩ rfl ?_
 generalize hme : meC a b = me
 obtain ⟨mc, mb⟩ := me
 cases mb
 case false =>
  (refine go ?_;repeat' (apply B<;>intro hb<;>try cases hb))
  refine ret_low rfl ?_ ?_
  · show pureLL [lowL (cuC a)]
    rw [cu_low]; exact ⟨cuC_pure a, trivial⟩
  · show PV.vec [lowL (cuC a)] false = _
    rw [cu_low]; rfl
 rw [if_pos rfl]
 (refine go ?_;repeat' (apply B<;>intro hb<;>try cases hb))
 refine opsK_sub (subA_cellNil (id := 2) (i0 := 0) (j0 := 0) rfl (by decide) (by decide) rfl 2 (by decide) (by decide)) ?_
 refine opsK_eq (orS_spec b.1 b.2 hb0.1 hb0.2) rfl rfl rfl ⟨setN_pure _, setN_pure _, trivial⟩ rfl ?_
 refine opsK_eq (allfn_spec (b.1 ||| b.2)) rfl rfl rfl ⟨setN_pure _, trivial⟩ rfl ?_
 (refine go ?_;repeat' (apply B<;>intro hb<;>try cases hb))
 refine aw_range (X := Cu × List Cu) hC (caps := [.cp [.vec (words (digs (b.1 ||| b.2))) false]]) [(2, .ptr 0 0 0), (3, .cp (cuC b)), (7, .ptr 2 0 0), (26, .fn 111 [.cp [.vec (words (digs (b.1 ||| b.2))) false]])] (fun z => [(0, ⟨2, [cuC z.1]⟩), (2, ⟨1, [[.own 3]]⟩), (3, ⟨2, z.2.map cuC⟩)]) rfl ⟨⟨words_pure _, trivial⟩, trivial⟩ (all_iter (b.1 ||| b.2) hN) (fun _ => rfl)
  (fun ex pre z => ex = .normal ∧ z = minF a b (pre.map (·.val))) 4 (Nat.zero_le _) (a, []) ⟨rfl, rfl⟩ (sub_keep hC (Nat.zero_le _) ⟨⟨rfl, show (0 : Nat) < 4 by decide⟩, ⟨rfl, words_inn _ _, words_inn _ _, trivial⟩, ⟨rfl, show (2 : Nat) < 4 by decide⟩, ⟨rfl, ⟨words_inn _ _, trivial⟩, trivial⟩, trivial⟩ ⟨⟨by decide, rfl, ⟨words_inn _ _, words_inn _ _, trivial⟩, trivial⟩, ⟨by decide, rfl, ⟨show (3 : Nat) < 4 by decide, trivial⟩, trivial⟩, ⟨by decide, rfl, trivial⟩, trivial⟩)
  (fun z q hq => by simp at hq; rcases hq with rfl | rfl | rfl <;> exact Nat.zero_lt_succ _) _ (fun x => rfl) ?_ ?_ ?_
 · rintro C2 hC2 pre x z ⟨-, rfl⟩ hlen
   have hr64 : x.val < 64 := mem_lt x.2
   have hm := mem_length (b.1 ||| b.2)
   obtain ⟨hz1, hz2, hz3⟩ := minF_64 (b := b) ha (l := pre.map (·.val)) (fun r hr => by obtain ⟨y, _, rfl⟩ := List.mem_map.1 hr; exact mem_lt y.2)
   rw [List.length_map] at hz3
   have hnext : minF a b ((pre ++ [x]).map (·.val)) = minS b (minF a b (pre.map (·.val))) x.val := by simp [minF, List.foldl_append]
   generalize minF a b (pre.map (·.val)) = z at *
   obtain ⟨c, out⟩ := z
   dsimp only at hz1 hz2 hz3 ⊢
   have hlen1 : out.length ≤ 64 := by omega
   unfold minS at hnext
   dsimp only at hnext
   refine aw_block ?_
   refine aw_block ?_
   refine aw_cut hC2 True 4 [(2, .ptr 0 0 0), (3, .cp (cuC b)), (7, .ptr 2 0 0), (8, .val (.int .i64 (x.val : Int))), (26, .fn 111 [.cp [.vec (words (digs (b.1 ||| b.2))) false]]), (28, .val (.bool (b.1.testBit x.val && !c.1.testBit x.val)))] [(0, ⟨2, [cuC c]⟩), (2, ⟨1, [[.own 3]]⟩), (3, ⟨2, out.map cuC⟩)] (Nat.le_refl _) ?_ fun _ => ?_
   · have fin : ∀ D, innLL D (out.map cuC) := fun D => innLL_mono (fun _ h => h.elim) _ (pureLL_enc cuC_pure out)
     (refine go ?_;repeat' (apply B<;>intro hb<;>try cases hb))
     refine opsK_eq (hasT_spec b.1 hb0.1 x.val) rfl rfl rfl ⟨setN_pure _, trivial, trivial⟩ rfl ?_
     generalize b.1.testBit x.val = v1
     cases v1
     · (refine go ?_;repeat' (apply B<;>intro hb<;>try cases hb))
       exact ⟨trivial, ⟨⟨rfl, show (0 : Nat) < 4 by decide⟩, ⟨rfl, words_inn _ _, words_inn _ _, trivial⟩, ⟨rfl, show (2 : Nat) < 4 by decide⟩, ⟨rfl, trivial⟩, ⟨rfl, ⟨words_inn _ _, trivial⟩, trivial⟩, ⟨rfl, trivial⟩, trivial⟩, ⟨⟨by decide, rfl, ⟨words_inn _ _, words_inn _ _, trivial⟩, trivial⟩, ⟨by decide, rfl, ⟨show (3 : Nat) < 4 by decide, trivial⟩, trivial⟩, ⟨by decide, rfl, fin _⟩, trivial⟩⟩
     · (refine go ?_;repeat' (apply B<;>intro hb<;>try cases hb))
       refine opsK_eq (hasT_spec c.1 hz1.1 x.val) rfl rfl rfl ⟨setN_pure _, trivial, trivial⟩ rfl ?_
       refine gv ?_
       exact ⟨trivial, ⟨⟨rfl, show (0 : Nat) < 4 by decide⟩, ⟨rfl, words_inn _ _, words_inn _ _, trivial⟩, ⟨rfl, show (2 : Nat) < 4 by decide⟩, ⟨rfl, trivial⟩, ⟨rfl, ⟨words_inn _ _, trivial⟩, trivial⟩, ⟨rfl, trivial⟩, trivial⟩, ⟨⟨by decide, rfl, ⟨words_inn _ _, words_inn _ _, trivial⟩, trivial⟩, ⟨by decide, rfl, ⟨show (3 : Nat) < 4 by decide, trivial⟩, trivial⟩, ⟨by decide, rfl, fin _⟩, trivial⟩⟩
   generalize (b.1.testBit x.val && !c.1.testBit x.val) = v at hnext
   cases v
   · rw [if_neg (by decide)] at hnext
     (refine go ?_;repeat' (apply B<;>intro hb<;>try cases hb))
     refine opsK_eq (hasT_spec b.2 hb0.2 x.val) rfl rfl rfl ⟨setN_pure _, trivial, trivial⟩ rfl ?_
     generalize b.2.testBit x.val = v2 at hnext
     cases v2
     · rw [if_neg (by simp)] at hnext
       (refine go ?_;repeat' (apply B<;>intro hb<;>try cases hb))
       exact ⟨.inl rfl, (c, out), fun i => i, ⟨rfl, hnext.symm⟩, fun i hi => absurd hi (by omega), injOn_id, ⟨⟨_, rfl, .ptr (ρ := fun i => i) 0 0 0 (by decide)⟩, ⟨_, rfl, .pure _ (cuC_pure b)⟩, ⟨_, rfl, .ptr (ρ := fun i => i) 2 0 0 (by decide)⟩, ⟨_, rfl, .pure _ ⟨⟨words_pure _, trivial⟩, trivial⟩⟩, trivial⟩, ⟨⟨by decide, _, rfl, .same _ ⟨cuC_pure c, trivial⟩⟩, ⟨by decide, _, rfl, RenB.single ⟨.own (ρ := fun i => i) 3 (by decide), trivial⟩ rfl⟩, ⟨by decide, _, rfl, .same _ (pureLL_enc cuC_pure out)⟩, trivial⟩⟩
     · (refine go ?_;repeat' (apply B<;>intro hb<;>try cases hb))
       refine opsK_eq (hasT_spec c.2 hz1.2 x.val) rfl rfl rfl ⟨setN_pure _, trivial, trivial⟩ rfl ?_
       generalize c.2.testBit x.val = v3 at hnext
       cases v3
       · rw [if_pos (by decide)] at hnext
         (refine go ?_;repeat' (apply B<;>intro hb<;>try cases hb))
         refine dK_eq (withS_spec c.1 hz1.1 x.val hr64) rfl rfl rfl ⟨setN_pure _, trivial, trivial⟩ ?_
         (refine go ?_;repeat' (apply B<;>intro hb<;>try cases hb))
         refine dK_of (E_append (k := 3) (m := [cuC (c.1 ||| 2 ^ x.val, c.2)]) (fl := true) rfl rfl rfl (fun q hq => by rw [List.mem_singleton] at hq; subst hq; rfl) rfl (by
          show ((out.map cuC).length + 1) * 48 ≤ _
          rw [List.length_map]; omega)) rfl rfl ?_
         (refine go ?_;repeat' (apply B<;>intro hb<;>try cases hb))
         refine opsK_eq (withS_spec c.2 hz1.2 x.val hr64) rfl rfl rfl ⟨setN_pure _, trivial, trivial⟩ rfl ?_
         (refine go ?_;repeat' (apply B<;>intro hb<;>try cases hb))
         refine ⟨.inl rfl, ((c.1, c.2 ||| 2 ^ x.val), out ++ [(c.1 ||| 2 ^ x.val, c.2)]), mv 3 13, ⟨rfl, hnext.symm⟩, fun i hi => absurd hi (by omega), injOn_of rfl, ⟨⟨_, rfl, .ptr (ρ := mv 3 13) 0 0 0 (by decide)⟩, ⟨_, rfl, .pure _ (cuC_pure b)⟩, ⟨_, rfl, .ptr (ρ := mv 3 13) 2 0 0 (by decide)⟩, ⟨_, rfl, .pure _ ⟨⟨words_pure _, trivial⟩, trivial⟩⟩, trivial⟩, ⟨⟨by decide, _, rfl, .same _ ⟨cuC_pure (c.1, c.2 ||| 2 ^ x.val), trivial⟩⟩, ⟨by decide, _, rfl, RenB.single ⟨.own (ρ := mv 3 13) 3 (by decide), trivial⟩ rfl⟩, ⟨by decide, _, rfl, ?_⟩, trivial⟩⟩
         show RenB _ _ ⟨2, out.map cuC ++ [cuC (c.1 ||| 2 ^ x.val, c.2)]⟩ ⟨2, (out ++ [(c.1 ||| 2 ^ x.val, c.2)]).map cuC⟩
         rw [List.map_append]
         exact .same _ (by rw [← List.map_singleton, ← List.map_append]; exact pureLL_enc cuC_pure _)
       · rw [if_neg (by simp)] at hnext
         (refine go ?_;repeat' (apply B<;>intro hb<;>try cases hb))
         exact ⟨.inl rfl, (c, out), fun i => i, ⟨rfl, hnext.symm⟩, fun i hi => absurd hi (by omega), injOn_id, ⟨⟨_, rfl, .ptr (ρ := fun i => i) 0 0 0 (by decide)⟩, ⟨_, rfl, .pure _ (cuC_pure b)⟩, ⟨_, rfl, .ptr (ρ := fun i => i) 2 0 0 (by decide)⟩, ⟨_, rfl, .pure _ ⟨⟨words_pure _, trivial⟩, trivial⟩⟩, trivial⟩, ⟨⟨by decide, _, rfl, .same _ ⟨cuC_pure c, trivial⟩⟩, ⟨by decide, _, rfl, RenB.single ⟨.own (ρ := fun i => i) 3 (by decide), trivial⟩ rfl⟩, ⟨by decide, _, rfl, .same _ (pureLL_enc cuC_pure out)⟩, trivial⟩⟩
   · rw [if_pos rfl] at hnext
     (refine go ?_;repeat' (apply B<;>intro hb<;>try cases hb))
     refine dK_eq (withS_spec c.2 hz1.2 x.val hr64) rfl rfl rfl ⟨setN_pure _, trivial, trivial⟩ ?_
     (refine go ?_;repeat' (apply B<;>intro hb<;>try cases hb))
     refine dK_of (E_append (k := 3) (m := [cuC (c.1, c.2 ||| 2 ^ x.val)]) (fl := true) rfl rfl rfl (fun q hq => by rw [List.mem_singleton] at hq; subst hq; rfl) rfl (by
      show ((out.map cuC).length + 1) * 48 ≤ _
      rw [List.length_map]; omega)) rfl rfl ?_
     (refine go ?_;repeat' (apply B<;>intro hb<;>try cases hb))
     refine opsK_eq (withS_spec c.1 hz1.1 x.val hr64) rfl rfl rfl ⟨setN_pure _, trivial, trivial⟩ rfl ?_
     (refine go ?_;repeat' (apply B<;>intro hb<;>try cases hb))
     refine ⟨.inl rfl, ((c.1 ||| 2 ^ x.val, c.2), out ++ [(c.1, c.2 ||| 2 ^ x.val)]), mv 3 13, ⟨rfl, hnext.symm⟩, fun i hi => absurd hi (by omega), injOn_of rfl, ⟨⟨_, rfl, .ptr (ρ := mv 3 13) 0 0 0 (by decide)⟩, ⟨_, rfl, .pure _ (cuC_pure b)⟩, ⟨_, rfl, .ptr (ρ := mv 3 13) 2 0 0 (by decide)⟩, ⟨_, rfl, .pure _ ⟨⟨words_pure _, trivial⟩, trivial⟩⟩, trivial⟩, ⟨⟨by decide, _, rfl, .same _ ⟨cuC_pure (c.1 ||| 2 ^ x.val, c.2), trivial⟩⟩, ⟨by decide, _, rfl, RenB.single ⟨.own (ρ := mv 3 13) 3 (by decide), trivial⟩ rfl⟩, ⟨by decide, _, rfl, ?_⟩, trivial⟩⟩
     show RenB _ _ ⟨2, out.map cuC ++ [cuC (c.1, c.2 ||| 2 ^ x.val)]⟩ ⟨2, (out ++ [(c.1, c.2 ||| 2 ^ x.val)]).map cuC⟩
     rw [List.map_append]
     exact .same _ (by rw [← List.map_singleton, ← List.map_append]; exact pureLL_enc cuC_pure _)
 · rintro xs z hS ⟨-, rfl⟩
   rw [hS]
   repeat' (first | refine opsK_sub (subA_freeze (k := 82) rfl rfl (pureLL_enc cuC_pure _)) ?_ | (first|refine st ?_|(apply B<;>intro hb<;>try cases hb)))
   exact ret_ok rfl (pureLL_enc cuC_pure _) rfl
 · rintro ex pre z - ⟨rfl, -⟩ (h | ⟨id, h⟩) <;> cases h
end Go.Proofs.YtifohjijhhjdkaaGreatDoor

namespace Go.Proofs.YtifohjijhhjdkaaGreatDoor
open Go.RowKit
set_option linter.unusedVariables false
attribute [local irreducible] aw opsK dK

theorem allTo_succ {α : Type} (p : α → Bool) {l : List α} {i : Nat} (hi : i < l.length) : (l.take (i + 1)).all p = ((l.take i).all p && p l[i]) := by
 rw [List.take_add_one, List.getElem?_eq_getElem hi, List.all_append]
 simp
theorem all_of_take {α : Type} (p : α → Bool) {l : List α} {i : Nat} (h : (l.take i).all p = false) : l.all p = false := by
 apply tb2
 intro h2
 rw [List.all_eq_true] at h2
 rw [List.all_eq_false] at h
 obtain ⟨x, hx, h3⟩ := h
 exact h3 (h2 x (List.mem_of_mem_take hx))
theorem covL_skip {b c : Cu} {l : List Cu} (h1 : emC c = false) (h2 : emC (bothC c b) = true) : covL (b :: l) c = covL l c := by
 rw [covL, h1, Bool.false_or, if_pos h2]
theorem covL_step {b c : Cu} {l : List Cu} (h1 : emC c = false) (h2 : emC (bothC c b) = false) : covL (b :: l) c = (minC c b).all fun x => covL l x := by
 rw [covL, h1, Bool.false_or, if_neg (by rw [h2]; decide)]
set_option maxHeartbeats 4000000 in
theorem covered_at : ∀ (m : Nat) (l : List Cu), l.length < m → l.length ≤ 1000000 → (∀ c ∈ l, Ok64 c) → ∀ (c : Cu) (fl : Bool), Ok64 c → Spec Tryz.prog 45 [cuP c, .vec (l.map cuC) fl] (· = .val (.bool (covL l c))) := by
 intro m
 induction m with
 | zero => intro l hm; omega
 | succ m ih =>
   intro l hm hlen hl c fl hc
   have hlp : ∀ (l : List Cu) D, innLL D (l.map cuC) := fun i D => innLL_mono (fun _ h => h.elim) _ (pureLL_enc cuC_pure _)
   refine spec_intro ok45 (Nat.le_of_ble_eq_true rfl) fun C hC => ?_
   refine aw_seq ?_
   refine aw_region ?_
   refine opsK_ofAlt rfl rfl rfl ?_
   (refine go ?_;repeat' (apply B<;>intro hb<;>try cases hb))
   refine opsK_eq (emptyC_spec c hc) rfl rfl rfl ⟨cuP_pure c, trivial⟩ rfl ?_
   cases hec : emC c
   case true =>
    (refine go ?_;repeat' (apply B<;>intro hb<;>try cases hb))
    have h1 : covL l c = true := by cases l <;> (unfold covL; rw [hec]; try rfl)
    exact ret_ok rfl trivial (by rw [h1])
   (refine go ?_;repeat' (apply B<;>intro hb<;>try cases hb))
   refine aw_loopH hC (fun (x : Nat × Bool) => x.1 ≤ l.length ∧ covL l c = covL (l.drop x.1) c) (fun x => l.length - x.1) 0 (fun x => [(1, .vec ((l.drop x.1).map cuC) x.2), (2, .cp (cuC c))]) (fun _ => []) (Nat.le_refl _) (0, fl) ⟨Nat.zero_le _, rfl⟩
    ⟨⟨rfl, hlp _ _⟩, ⟨rfl, words_inn _ _, words_inn _ _, trivial⟩, trivial⟩ trivial ?_
   rintro ⟨i, fl2⟩ ⟨hi, hcov⟩
   dsimp only at hi hcov ⊢
   have hrest : l.drop (i + 1) = (l.drop i).drop 1 := by rw [List.drop_drop]
   have hdl : (l.drop i).length = l.length - i := List.length_drop
   have hmem : ∀ x ∈ l.drop i, Ok64 x := fun x hx => hl x (List.mem_of_mem_drop hx)
   generalize l.drop i = lr at hcov hrest hdl hmem ⊢
   cases lr with
   | nil =>
     (refine go ?_;repeat' (apply B<;>intro hb<;>try cases hb))
     exact ret_ok rfl trivial (by rw [hcov, covL, hec])
   | cons b rest =>
     have hb0 : Ok64 b := hmem b (List.mem_cons_self ..)
     have hro : ∀ x ∈ rest, Ok64 x := fun x hx => hmem x (List.mem_cons_of_mem _ hx)
     rw [List.length_cons] at hdl
     rw [List.drop_succ_cons, List.drop_zero] at hrest
     have htd : ((b :: rest).take (rest.length + 1)).drop 1 = rest := by simp
     iterate 5 (first|refine st ?_|(apply B<;>intro hb<;>try cases hb))
     refine dK_of (E_boolEq (v := true) rfl (by simp; try omega)) rfl rfl ?_
     (refine go ?_;repeat' (apply B<;>intro hb<;>try cases hb))
     refine dK_of (E_iaddr (xs := b :: rest) (g := cuC) rfl rfl 0 rfl (Nat.zero_lt_succ _) rfl) rfl rfl ?_
     rw [show (b :: rest)[0] = b from rfl]
     (refine go ?_;repeat' (apply B<;>intro hb<;>try cases hb))
     refine dK_eq (bothC_spec c b hc hb0) rfl rfl rfl ⟨cuP_pure c, cuP_pure b, trivial⟩ ?_
     (refine go ?_;repeat' (apply B<;>intro hb<;>try cases hb))
     refine dK_eq (emptyC_spec (bothC c b) (bothC_ok hc hb0)) rfl rfl rfl ⟨cuP_pure _, trivial⟩ ?_
     cases hm2 : emC (bothC c b)
     case true =>
      (refine go ?_;repeat' (apply B<;>intro hb<;>try cases hb))
      refine opsK_of (E_slc (xs := b :: rest) (g := cuC) rfl 1 (rest.length + 1) rfl (by show some _ = some _; simp) (by omega) (by simp) (fun _ => rfl)) rfl rfl ?_
      rw [htd]
      (refine go ?_;repeat' (apply B<;>intro hb<;>try cases hb))
      exact ⟨(i + 1, false), ⟨by show i + 1 ≤ _; omega, by show _ = covL (l.drop (i + 1)) c; rw [hcov, hrest, covL_skip hec hm2]⟩, by show _ - (i + 1) < _ - i; omega, ⟨⟨by show _ = some (PV.vec ((l.drop (i + 1)).map cuC) false); rw [hrest]; rfl, hlp _ _⟩, ⟨rfl, words_inn _ _, words_inn _ _, trivial⟩, trivial⟩, trivial⟩
     have hst := covL_step (l := rest) hec hm2
     rw [← hcov] at hst
     iterate 14 (first|refine st ?_|(apply B<;>intro hb<;>try cases hb))
     (refine go ?_;repeat' (apply B<;>intro hb<;>try cases hb))
     refine dK_of (E_iaddr (xs := b :: rest) (g := cuC) rfl rfl 0 rfl (Nat.zero_lt_succ _) rfl) rfl rfl ?_
     rw [show (b :: rest)[0] = b from rfl]
     (refine go ?_;repeat' (apply B<;>intro hb<;>try cases hb))
     refine dK_eq (minus_spec c b hc hb0) rfl rfl rfl ⟨cuP_pure c, cuP_pure b, trivial⟩ ?_
     have hml := minC_len c b hc
     have hmo := minC_64 (b := b) hc
     generalize minC c b = ms at hst hml hmo ⊢
     have hmll : (ms.map cuC).length = ms.length := by simp
     (refine go ?_;repeat' (apply B<;>intro hb<;>try cases hb))
     refine aw_loopH hC (fun j => j ≤ ms.length ∧ ((ms.take j).all fun x => covL rest x) = true) (fun j => ms.length - j) 0 (fun j => [(1, .vec ((b :: rest).map cuC) fl2), (29, .vec (ms.map cuC) false), (30, .val (.int .i64 ms.length)), (31, .val (.int .i64 (j : Int)))]) (fun _ => []) (Nat.zero_le _) 0 ⟨Nat.zero_le _, rfl⟩
      ⟨⟨rfl, hlp _ _⟩, ⟨rfl, hlp _ _⟩, ⟨by rw [← hmll]; rfl, trivial⟩, ⟨rfl, trivial⟩, trivial⟩ trivial ?_
     rintro j ⟨hj, hall⟩
     have hinc : IntKind.i64.wrap ((j : Int) + 1) = ((j + 1 : Nat) : Int) := IntWalk.i64_in _ ⟨by omega, by omega⟩
     iterate 2 (first|refine st ?_|(apply B<;>intro hb<;>try cases hb))
     refine opsK_bool rfl rfl rfl (fun hb => ?_) (fun hb => ?_)
     · have hjl : j < ms.length := by have := of_decide_eq_true hb; omega
       have hxo := hmo _ (List.getElem_mem hjl)
       have hsx := allTo_succ (fun x => covL rest x) hjl
       rw [hall, Bool.true_and] at hsx
       clear hb
       (refine go ?_;repeat' (apply B<;>intro hb<;>try cases hb))
       refine opsK_of (E_iaddr (xs := ms) (g := cuC) rfl rfl j rfl hjl rfl) rfl rfl ?_
       (refine go ?_;repeat' (apply B<;>intro hb<;>try cases hb))
       refine dK_of (E_slc (xs := b :: rest) (g := cuC) rfl 1 (rest.length + 1) rfl (by show some _ = some _; simp) (by omega) (by simp) (fun _ => rfl)) rfl rfl ?_
       rw [htd]
       (refine go ?_;repeat' (apply B<;>intro hb<;>try cases hb))
       refine dK_eq (ih rest (by omega) (by omega) hro ms[j] false hxo) rfl rfl rfl ⟨cuP_pure _, pureLL_enc cuC_pure _, trivial⟩ ?_
       generalize covL rest ms[j] = v at hsx
       cases v
       · (refine go ?_;repeat' (apply B<;>intro hb<;>try cases hb))
         exact ret_ok rfl trivial (by rw [hst, all_of_take _ hsx])
       · (refine go ?_;repeat' (apply B<;>intro hb<;>try cases hb))
         exact ⟨j + 1, ⟨by omega, hsx⟩, by omega, ⟨⟨rfl, hlp _ _⟩, ⟨rfl, hlp _ _⟩, ⟨rfl, trivial⟩, ⟨by show some _ = some _; rw [hinc], trivial⟩, trivial⟩, trivial⟩
     · have hjl : j = ms.length := by have := of_decide_eq_false hb; omega
       subst hjl
       rw [List.take_length] at hall
       clear hb
       (refine go ?_;repeat' (apply B<;>intro hb<;>try cases hb))
       exact ret_ok rfl trivial (by rw [hst, hall])
theorem covered_spec (l : List Cu) (c : Cu) (fl : Bool) (hlen : l.length ≤ 1000000) (hl : ∀ c ∈ l, Ok64 c) (hc : Ok64 c) : Spec Tryz.prog 45 [cuP c, .vec (l.map cuC) fl] (· = .val (.bool (covL l c))) := covered_at _ l (Nat.lt_succ_self _) hlen hl c fl hc
end Go.Proofs.YtifohjijhhjdkaaGreatDoor

namespace Go.Proofs.YtifohjijhhjdkaaGreatDoor
open Go.RowKit
set_option linter.unusedVariables false
attribute [local irreducible] aw opsK dK

theorem all_not {α : Type} (p : α → Bool) : ∀ l : List α, (!(l.any fun c => !p c)) = l.all p
 | [] => rfl
 | a :: l => by
   rw [List.any_cons, List.all_cons, ← all_not p l]
   cases p a <;> simp
set_option maxHeartbeats 2000000 in
theorem equivalent_spec (f g : Fm) (hf : f.depth ≤ 1000) (hfs : f.size ≤ 1099511627776) (hg : g.depth ≤ 1000) (hgs : g.size ≤ 1099511627776) : Spec Tryz.prog 13 [.agg (fC .u8 f), .agg (fC .u8 g)] (· = .val (.bool (decide (checkM f = 0) && decide (checkM g = 0) && eqBy eqC (vioL f) (vioL g)))) := by
 refine spec_intro ok13 (Nat.le_of_ble_eq_true rfl) fun C hC => ?_
 refine aw_seq ?_
 refine aw_region ?_
 refine opsK_ofAlt rfl rfl rfl ?_
 refine opsK_ofAlt rfl rfl rfl ?_
 (refine go ?_;repeat' (apply B<;>intro hb<;>try cases hb))
 refine opsK_eq (violations_spec f hf hfs) rfl rfl rfl ⟨fC_pure _ _, trivial⟩ rfl ?_
 (refine go ?_;repeat' (apply B<;>intro hb<;>try cases hb))
 refine opsK_eq (violations_spec g hg hgs) rfl rfl rfl ⟨fC_pure _ _, trivial⟩ rfl ?_
 by_cases h1 : checkM f = 0
 · rw [h1]
   by_cases h2 : checkM g = 0
   · rw [h2]
     (refine go ?_;repeat' (apply B<;>intro hb<;>try cases hb))
     refine opsK_eq (equalFuncC_spec (vioL f) (vioL g) cuC cuC false false 42 [] eqC cuC_len cuC_len cuC_pure cuC_pure trivial fun c hc d hd => equalC_spec c d (vioL_ok f c hc) (vioL_ok g d hd)) rfl rfl rfl ⟨cubes_pure _, cubes_pure _, trivial, trivial⟩ rfl ?_
     generalize eqBy eqC (vioL f) (vioL g) = v
     cases v
     all_goals
      (refine go ?_;repeat' (apply B<;>intro hb<;>try cases hb))
      exact ret_ok rfl trivial rfl
   · (refine go ?_;repeat' (apply B<;>intro hb<;>try cases hb))
     · exact absurd (by simpa using hb) h2
     · exact ret_ok rfl trivial (by simp [h2])
 · (refine go ?_;repeat' (apply B<;>intro hb<;>try cases hb))
   · rename_i hx; exact absurd (by simpa using hx) h1
   · rename_i hx; exact absurd (by simpa using hx) h1
   · exact ret_ok rfl trivial (by simp [h1])
theorem notCov_spec (l : List Cu) (c : Cu) (hlen : l.length ≤ 1000000) (hl : ∀ c ∈ l, Ok64 c) (hc : Ok64 c) : Spec Tryz.prog 44 [cuP c, .cp [.vec (l.map cuC) false]] (· = .val (.bool (!covL l c))) := by
 refine spec_intro ok44 (Nat.le_of_ble_eq_true rfl) fun C hC => ?_
 refine aw_seq ?_
 refine aw_region ?_
 refine opsK_ofAlt rfl rfl rfl ?_
 (refine go ?_;repeat' (apply B<;>intro hb<;>try cases hb))
 refine opsK_eq (covered_spec l c false hlen hl hc) rfl rfl rfl ⟨cuP_pure c, cubes_pure _, trivial⟩ rfl ?_
 generalize covL l c = v
 cases v
 all_goals
  (refine go ?_;repeat' (apply B<;>intro hb<;>try cases hb))
  exact ret_ok rfl trivial rfl
theorem vioL_len (f : Fm) : (vioL f).length ≤ 1000000 := by
 unfold vioL
 split
 · rename_i h
   rw [(sortC_perm _).length_eq]
   have h8 := (check_inv h).2.2.2.2.2
   have := prTo_len (mem (mentF f)).length (okM (mem (mentF f)) (vioB f)) (mem (mentF f)) (2 ^ (mem (mentF f)).length)
   have hk : 2 ^ (mem (mentF f)).length ≤ 256 := Nat.le_trans (Nat.pow_le_pow_right (by decide) h8) (by decide)
   have : 2 ^ (mem (mentF f)).length * 2 ^ (mem (mentF f)).length ≤ 256 * 256 := Nat.mul_le_mul hk hk
   unfold prL
   omega
 · exact Nat.zero_le _
set_option maxHeartbeats 2000000 in
theorem impliedN_spec (f g : Fm) (hf : f.depth ≤ 1000) (hfs : f.size ≤ 1099511627776) (hg : g.depth ≤ 1000) (hgs : g.size ≤ 1099511627776) : Spec Tryz.prog 14 [.agg (fC .u8 f), .agg (fC .u8 g)] (· = .val (.bool (decide (checkM f = 0) && decide (checkM g = 0) && (vioL g).all fun c => covL (vioL f) c))) := by
 refine spec_intro ok14 (Nat.le_of_ble_eq_true rfl) fun C hC => ?_
 refine aw_seq ?_
 refine aw_region ?_
 refine opsK_ofAlt rfl rfl rfl ?_
 refine opsK_ofAlt rfl rfl rfl ?_
 (refine go ?_;repeat' (apply B<;>intro hb<;>try cases hb))
 refine opsK_eq (violations_spec f hf hfs) rfl rfl rfl ⟨fC_pure _ _, trivial⟩ rfl ?_
 (refine go ?_;repeat' (apply B<;>intro hb<;>try cases hb))
 refine opsK_eq (violations_spec g hg hgs) rfl rfl rfl ⟨fC_pure _ _, trivial⟩ rfl ?_
 refine opsK_sub (subA_freezeBox (k := 5) (l := [.vec ((vioL f).map cuC) false]) rfl rfl ⟨cubes_pure _, trivial⟩) ?_
 by_cases h1 : checkM f = 0
 · rw [h1]
   by_cases h2 : checkM g = 0
   · rw [h2]
     (refine go ?_;repeat' (apply B<;>intro hb<;>try cases hb))
     refine opsK_eq (containsFuncC_spec (vioL g) cuC false 44 [.cp [.vec ((vioL f).map cuC) false]] (fun c => !covL (vioL f) c) cuC_len cuC_pure ⟨⟨cubes_pure _, trivial⟩, trivial⟩ fun c hc => notCov_spec (vioL f) c (vioL_len f) (vioL_ok f) (vioL_ok g c hc)) rfl rfl rfl ⟨cubes_pure _, ⟨⟨cubes_pure _, trivial⟩, trivial⟩, trivial⟩ rfl ?_
     rw [← all_not (fun c => covL (vioL f) c) (vioL g)]
     generalize ((vioL g).any fun c => !covL (vioL f) c) = v
     cases v
     all_goals
      (refine go ?_;repeat' (apply B<;>intro hb<;>try cases hb))
      exact ret_ok rfl trivial rfl
   · (refine go ?_;repeat' (apply B<;>intro hb<;>try cases hb))
     · exact absurd (by simpa using hb) h2
     · exact ret_ok rfl trivial (by simp [h2])
 · (refine go ?_;repeat' (apply B<;>intro hb<;>try cases hb))
   · rename_i hx; exact absurd (by simpa using hx) h1
   · rename_i hx; exact absurd (by simpa using hx) h1
   · exact ret_ok rfl trivial (by simp [h1])
end Go.Proofs.YtifohjijhhjdkaaGreatDoor

namespace Go.Proofs.YtifohjijhhjdkaaGreatDoor
open Go.RowKit
set_option linter.unusedVariables false
attribute [local irreducible] aw opsK dK

theorem cov_self (l : List Cu) (hl : ∀ c ∈ l, Ok64 c) : (l.all fun c => covL l c) = true :=
 List.all_eq_true.2 fun c hc => (covL_law l hl c).2 fun S hS => List.any_eq_true.2 ⟨c, hc, hS⟩
set_option maxHeartbeats 4000000 in
theorem normalRefuses_law (l : List Nd) (p : List Nat) (f1 f2 : Bool) (hl : ∀ x ∈ l, Nd.ok x) (hp : Bytes p) : Spec Tryz.prog 4 [.vec (nds l) f1, .vec (bys p) f2] (· = .val (.bool true)) := by
 refine spec_intro ok4 (Nat.le_of_ble_eq_true rfl) fun C hC => ?_
 (refine go ?_;repeat' (apply B<;>intro hb<;>try cases hb))
 refine opsK_eq awake19_spec rfl rfl rfl trivial rfl ?_
 (refine go ?_;repeat' (apply B<;>intro hb<;>try cases hb))
 refine opsK_spec rfl rfl (build18_spec l hl f1) ⟨nds_pure l, trivial⟩ rfl ?_
 rintro r ⟨f, hsm, rfl⟩
 obtain ⟨hd, hs⟩ := hsm.bounds
 have hd' : f.depth ≤ 1000 := by omega
 have hs' : f.size ≤ 1099511627776 := Nat.le_trans hs (by decide)
 have hok := vioL_ok f
 (refine go ?_;repeat' (apply B<;>intro hb<;>try cases hb))
 refine opsK_eq (make18f_spec 13 f hsm.nice) rfl rfl rfl ⟨fC_pure _ _, trivial⟩ rfl ?_
 (refine go ?_;repeat' (apply B<;>intro hb<;>try cases hb))
 refine opsK_spec rfl rfl (make19_spec p hp f2) ⟨bys_pure p, trivial⟩ rfl ?_
 rintro r ⟨g, hwf, hty, hdp, hsz, hi6, rfl⟩
 have hgd : g.depth ≤ 1000 := by omega
 have hgs : g.size ≤ 1099511627776 := by omega
 (refine go ?_;repeat' (apply B<;>intro hb<;>try cases hb))
 refine opsK_eq (violations_spec f hd' hs') rfl rfl rfl ⟨fC_pure _ _, trivial⟩ rfl ?_
 (refine go ?_;repeat' (apply B<;>intro hb<;>try cases hb))
 refine opsK_eq (violR_spec f hd' hs') rfl rfl rfl ⟨fC_pure _ _, trivial⟩ rfl ?_
 have e1 := equivalent_spec f g hd' hs' hgd hgs
 have e2 := equivalent_spec g f hgd hgs hd' hs'
 have e3 := equivalent_spec f f hd' hs' hd' hs'
 have e4 := impliedN_spec f g hd' hs' hgd hgs
 have e5 := impliedN_spec g f hgd hgs hd' hs'
 have e6 := impliedN_spec f f hd' hs' hd' hs'
 rw [sameL.2 rfl] at e3
 rw [cov_self _ hok] at e6
 generalize checkM g = eg at e1 e2 e4 e5
 by_cases h0 : checkM f = 0
 · rw [h0] at e3 e6 ⊢
   (refine go ?_;repeat' (apply B<;>intro hb<;>try cases hb))
   refine opsK_eq (same_spec (vioL f) (vioL f) false false hok hok) rfl rfl rfl ⟨cubes_pure _, ras_pure _, trivial⟩ rfl ?_
   rw [sameL.2 rfl]
   (refine go ?_;repeat' (apply B<;>intro hb<;>try cases hb))
   refine opsK_eq e3 rfl rfl rfl ⟨fC_pure _ _, fC_pure _ _, trivial⟩ rfl ?_
   (refine go ?_;repeat' (apply B<;>intro hb<;>try cases hb))
   refine opsK_eq e6 rfl rfl rfl ⟨fC_pure _ _, fC_pure _ _, trivial⟩ rfl ?_
   (refine go ?_;repeat' (apply B<;>intro hb<;>try cases hb))
   exact ret_ok rfl trivial rfl
 · rw [decide_eq_false h0] at e1 e2 e3 e4 e5 e6
   rw [Bool.false_and, Bool.false_and] at e1 e3 e4 e6
   rw [Bool.and_false, Bool.false_and] at e2 e5
   generalize checkM f = ef at h0 ⊢
   have hne : (ef != 0) = true := by simpa using h0
   (refine go ?_;repeat' (apply B<;>intro hb<;>try cases hb))
   · exact absurd hb (by simp)
   · clear hb
     refine opsK_eq (same_spec (vioL f) (vioL f) false false hok hok) rfl rfl rfl ⟨cubes_pure _, ras_pure _, trivial⟩ rfl ?_
     rw [sameL.2 rfl]
     (refine go ?_;repeat' (apply B<;>intro hb<;>try cases hb))
     · clear hb
       refine opsK_eq e1 rfl rfl rfl ⟨fC_pure _ _, fC_pure _ _, trivial⟩ rfl ?_
       (refine go ?_;repeat' (apply B<;>intro hb<;>try cases hb))
       refine opsK_eq e2 rfl rfl rfl ⟨fC_pure _ _, fC_pure _ _, trivial⟩ rfl ?_
       (refine go ?_;repeat' (apply B<;>intro hb<;>try cases hb))
       refine opsK_eq e3 rfl rfl rfl ⟨fC_pure _ _, fC_pure _ _, trivial⟩ rfl ?_
       (refine go ?_;repeat' (apply B<;>intro hb<;>try cases hb))
       refine opsK_eq e4 rfl rfl rfl ⟨fC_pure _ _, fC_pure _ _, trivial⟩ rfl ?_
       (refine go ?_;repeat' (apply B<;>intro hb<;>try cases hb))
       refine opsK_eq e5 rfl rfl rfl ⟨fC_pure _ _, fC_pure _ _, trivial⟩ rfl ?_
       (refine go ?_;repeat' (apply B<;>intro hb<;>try cases hb))
       exact ret_ok rfl trivial rfl
     · exact absurd (by simpa using hb) h0
end Go.Proofs.YtifohjijhhjdkaaGreatDoor

namespace Go.Proofs.YtifohjijhhjdkaaGreatDoor
open Go.ChangeShapes Go.WideShapes Go.ChangeAt Go.RowKit
set_option linter.unusedVariables false

theorem rows_enc {α : Type} {enc : α → List PV} {Q : α → Prop} : ∀ {ll : List (List PV)}, (∀ l ∈ ll, ∃ x, Q x ∧ l = enc x) → ∃ xs : List α, (∀ x ∈ xs, Q x) ∧ ll = xs.map enc
 | [], _ => ⟨[], fun _ h => (by cases h), rfl⟩
 | l :: ll, h => by
   obtain ⟨x, h1, rfl⟩ := h l (List.mem_cons_self ..)
   obtain ⟨xs, h2, rfl⟩ := rows_enc fun l hl => h l (List.mem_cons_of_mem _ hl)
   refine ⟨x :: xs, fun y hy => ?_, rfl⟩
   rcases List.mem_cons.1 hy with rfl | hy
   · exact h1
   · exact h2 y hy
theorem shapeVs_two {P : Program} {s t : TypeId} : ∀ {ps : List PV}, ShapeVs P [s, t] ps → ∃ a b, ps = [a, b] ∧ ShapeV P s a ∧ ShapeV P t b
 | [a, b], ⟨h1, h2, _⟩ => ⟨a, b, rfl, h1, h2⟩
theorem int_u8 {m : Int} (h : (Lit.int .u8 m).wf = true) : ∃ a : Nat, a < 256 ∧ m = (a : Int) := by
 simp only [Lit.wf, Bool.and_eq_true, decide_eq_true_eq] at h
 obtain ⟨h1, h2⟩ := h
 have h3 : m ≤ 255 := h2
 have h4 : 0 ≤ m := h1
 exact ⟨m.toNat, by omega, by omega⟩
theorem u8_shape {n : Nat} {l : List PV} (h : Shape Tryz.prog n 5 l) : ∃ x : Nat, x ≤ 255 ∧ l = [PV.val (.int .u8 (x : Int))] := by
 obtain ⟨m1, w1, e1⟩ := shape_int h (k := .u8) (by kernel_rfl)
 obtain ⟨x, hx, rfl⟩ := int_u8 w1
 exact ⟨x, by omega, e1⟩
theorem bytes_shape {p : PV} (h : ShapeV Tryz.prog 22 p) : ∃ (l : List Nat) (fl : Bool), Bytes l ∧ p = .vec (bys l) fl := by
 obtain ⟨n, ll, fl, _, h2, rfl⟩ := shapeV_slice h (e := 5) (by kernel_rfl)
 obtain ⟨xs, h3, rfl⟩ := rows_enc (enc := fun (x : Nat) => [PV.val (.int .u8 (x : Int))]) (Q := fun (x : Nat) => x ≤ 255) fun l hl => u8_shape (h2 l hl)
 exact ⟨xs, fl, h3, rfl⟩
end Go.Proofs.YtifohjijhhjdkaaGreatDoor

namespace Go.Proofs.YtifohjijhhjdkaaGreatDoor
open Go.ChangeShapes Go.WideShapes Go.ChangeAt Go.RowKit
set_option linter.unusedVariables false

theorem normalRefuses_spec : ∀ ps, ShapeVs Tryz.prog Tryz.f4.params.toList ps → pureL ps → Spec Tryz.prog 4 ps (· = .val (.bool true)) := by
 intro ps hs hp
 rw [show Tryz.f4.params.toList = [43, 22] by kernel_rfl] at hs
 obtain ⟨a, b, rfl, k0, k1⟩ := shapeVs_two hs
 obtain ⟨x0, f0, h0, rfl⟩ := nodes_shape k0
 obtain ⟨x1, f1, h1, rfl⟩ := bytes_shape k1
 exact normalRefuses_law x0 x1 f0 f1 h0 h1

set_option maxRecDepth 100000 in
theorem normalRefuses_lifted (os : Os) (started : os.Started) (H : Type) (enc : TypeId × Value → H) :
 ReturnsInHanded {} Tryz.checked os 4 .any (fun w args => (Rows.normalRefusesSpec.pre enc Tryz.prog Tryz.f4 [] false w args ∧ laidMetH Tryz.prog laidV w) ∧ sizedMet enc Tryz.prog Tryz.f4 (OpenSpec.ofChange Rows.normalRefusesSpec) false w args)
  (Rows.normalRefusesSpec.post enc Tryz.prog Tryz.f4 false true false false) := by
 refine returnsInHanded_of_change_and (C := Tryz.checked) (X := fun w _ => laidMetH Tryz.prog laidV w) (fun _ _ _ hh h => h.of_heap hh) own started (by kernel_rfl) Tryz.func4
  (ChangeSpec.witness_shaped (enc := enc) (C := Tryz.checked) (os := os) (X := fun w _ => laidMetH Tryz.prog laidV w) false (World.doorLaid Tryz.prog 400 os) #[.slice none 0 0, .slice none 0 0] 8 rfl (World.shaped_of_RefB (by kernel_rfl) (by kernel_rfl)) (by kernel_rfl) (by kernel_rfl) (by kernel_rfl) (door_met os _)) ?_
 intro W base args ds gs before hval hW _ hwt hL _
 exact law_contract (P := Tryz.prog) (G := partsG Tryz.prog Tryz.f4.params.toList) (by kernel_rfl) (inG_of (by kernel_rfl)) laidOut (parsOk_of (by kernel_rfl)) (tb := 4) (by kernel_rfl) (by kernel_rfl) rfl (fun ds hd => by
  match ds, hd with
  | [a, b], _ => exact ⟨rfl, rfl, rfl⟩) normalRefuses_spec W (globs_in hL) base args ds gs before hval hW hwt

theorem normalRefuses_holds : Rows.NormalRefusesSaid :=
 OpenClaim.holds_of_wide 4 Tryz.f4 rfl rfl rfl rfl rfl rfl rfl ⟨rfl, rfl, rfl, rfl, rfl⟩ rfl rfl rfl rfl rfl (by kernel_rfl) Tryz.func4 (by kernel_rfl)
  (of_decide_eq_true (by kernel_rfl)) (by unfold Func.isWrapper; first | (rw [if_pos (by decide +kernel)]; kernel_rfl) | (rw [if_neg (by decide +kernel)]; exact ⟨rfl, rfl⟩))
  (fun os started H enc _ => normalRefuses_lifted os started H enc)

theorem normalRefuses_card : Rows.NormalRefusesCardSaid :=
 Claim7.holds_tied_plain_at .later [] [.data] true (true, "60278ebb0399797ecb2d1b6d2c4fc51cb907438f354e44bc697f97883450e316") false
  normalRefuses_holds (fun _ h => by cases h) (by kernel_rfl) (fun _ h => by cases h) normalRefuses_row_tie rfl ⟨rfl, rfl⟩ (by kernel_rfl) rfl
  (fun f fn hf hfn => by
    obtain rfl : f = 4 := Option.some.inj ((show Tryz.prog.funcNamed "arbac/arbaclaw19.NormalRefuses" = some 4 by kernel_rfl).symm.trans hf) |>.symm
    obtain rfl : fn = Tryz.f4 := (Option.some.inj (Tryz.func4.symm.trans hfn)).symm
    exact ⟨by kernel_rfl, fun j t ht => by
     rw [show Tryz.f4.params = #[43, 22] by kernel_rfl] at ht
     have hm : t ∈ [43, 22] := by simpa using Array.mem_of_getElem? ht
     have hall : ([43, 22].all fun u => !Tryz.prog.wantsStandIn u) = true := by kernel_rfl
     exact (show Tryz.prog.wantsStandIn t = false by simpa using List.all_eq_true.1 hall t hm)⟩)
  (by kernel_rfl)
#print axioms normalRefuses_card
end Go.Proofs.YtifohjijhhjdkaaGreatDoor
