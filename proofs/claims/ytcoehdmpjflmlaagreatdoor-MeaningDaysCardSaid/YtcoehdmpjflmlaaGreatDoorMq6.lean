/-
 Proved: for every input the law MeaningDays returns true,never panics,and leaves its arguments as0 they were,on the given card's conditions (the table of the bits package reads as0 the program's text lays it,and is tied to it).
-/
import Derived.SevenTiedAt
import Derived.Test.YtcoehdmpjflmlaaGreatDoorCards
import Derived.Test.YtcoehdmpjflmlaaGreatDoorTie
import Derived.Test.YtcoehdmpjflmlaaGreatDoorMq5
set_option linter.unusedSimpArgs false
set_option linter.unusedVariables false
set_option linter.unusedSectionVars false

namespace Go.Proofs.YtcoehdmpjflmlaaGreatDoor
open Go.RowKit
set_option linter.unusedVariables false
attribute [local irreducible] aw opsK dK

def factP (a b : PV) (n d : Nat) : List PV := [a,b,.val (.int .i64 (n : Int)),.val (.int .i64 (d : Int))]
theorem factP_pure {a b : PV} (ha : a.pure) (hb : b.pure) (n d : Nat) : pureL (factP a b n d) := ⟨ha,hb,trivial,trivial,trivial⟩
theorem usersP_spec (a b : PV) (ha : a.pure) (hb : b.pure) (n d : Nat) (hn : n≤256) : Spec Tryz.prog 36 [.agg (factP a b n d)] (· = .val (.int .i64 (n : Int))) := by
 refine spec_intro ok36 (Nat.le_of_ble_eq_true rfl) fun C hC => ?_
 refine aw_seq ?_
 refine aw_region ?_
 refine opsK_ofAlt rfl rfl rfl ?_
 (refine go ?_;repeat' (apply B<;>intro hb<;>try cases hb))
 refine ret_ok rfl trivial ?_
 refine congrArg (fun v => PV.val (.int .i64 v)) ?_
 show (if (256 : Int) < (if (0 : Int) > (n : Int) then 0 else (n : Int)) then 256 else (if (0 : Int) > (n : Int) then 0 else (n : Int))) = n
 rw [if_neg (show ¬ (0 : Int) > (n : Int) by omega),if_neg (by omega)]
set_option maxHeartbeats 2000000 in
theorem memberG_spec {l : List Pr} {m : List En} {n d : Nat} (hmo : ∀ x∈m,EnOk x) (hml : m.length≤100000) (hn : n≤256) (S : List Nat) (f : Bool) (u : Int) : Spec Tryz.prog 9 [.agg (factP (hierP l S) (bookP m f) n d),.val (.int .i64 u)] (· = setN (memb l m n d u)) := by
 have hfp : pureL (factP (hierP l S) (bookP m f) n d) := factP_pure (hierP_pure l S) (bookP_pure m f) n d
 refine spec_intro ok9 (Nat.le_of_ble_eq_true rfl) fun C hC => ?_
 refine aw_seq ?_
 refine aw_region ?_
 refine opsK_ofAlt rfl rfl rfl ?_
 have hus := usersP_spec (hierP l S) (bookP m f) (hierP_pure l S) (bookP_pure m f) n d (by omega)
 by_cases hu1 : 1≤u
 case neg =>
  have h0 : memb l m n d u = 0 := by unfold memb; rw [if_neg fun h => hu1 h.1]
  have d1 : decide (u < 1) = true := decide_eq_true (by omega)
  rw [h0,setN_zero]
  (repeat'(first|refine at_dst 15 ?_|refine at_dstD 15 ?_|refine st ?_|(apply B<;>intro hb<;>try cases hb)))<;>try refine At.mk ?_
  refine opsK_on rfl ?_
  refine opsK_of (E_boolEq rfl d1) rfl rfl ?_
  (refine go ?_;repeat' (apply B<;>intro hb<;>try cases hb))
  exact ret_low rfl ⟨trivial,trivial⟩ rfl
 have d1 : decide (u < 1) = false := decide_eq_false (by omega)
 (repeat'(first|refine at_dst 15 ?_|refine at_dstD 15 ?_|refine st ?_|(apply B<;>intro hb<;>try cases hb)))<;>try refine At.mk ?_
 refine opsK_on rfl ?_
 refine opsK_of (E_boolEq rfl d1) rfl rfl ?_
 (repeat'(first|refine at_dst 20 ?_|refine at_dstD 20 ?_|refine st ?_|(apply B<;>intro hb<;>try cases hb)))<;>try refine At.mk ?_
 refine opsK_on rfl ?_
 refine opsK_eq hus rfl rfl rfl ⟨hfp,trivial⟩ rfl ?_
 by_cases hu : u≤n
 case neg =>
  have h0 : memb l m n d u = 0 := by unfold memb; rw [if_neg fun h => hu h.2]
  have d2 : decide (u > (n : Int)) = true := decide_eq_true (by omega)
  rw [h0,setN_zero]
  (repeat'(first|refine at_dst 21 ?_|refine at_dstD 21 ?_|refine st ?_|(apply B<;>intro hb<;>try cases hb)))<;>try refine At.mk ?_
  refine opsK_on rfl ?_
  refine opsK_of (E_boolEq rfl d2) rfl rfl ?_
  (refine go ?_;repeat' (apply B<;>intro hb<;>try cases hb))
  exact ret_low rfl ⟨trivial,trivial⟩ rfl
 have d2 : decide (u > (n : Int)) = false := decide_eq_false (by omega)
 have hmb : memb l m n d u = clo l (onN m u.toNat d) := by unfold memb; rw [if_pos ⟨hu1,hu⟩]
 rw [hmb]
 obtain ⟨k,rfl⟩ : ∃ k : Nat,u = (k : Int) := ⟨u.toNat,by omega⟩
 rw [Int.toNat_natCast]
 (repeat'(first|refine at_dst 21 ?_|refine at_dstD 21 ?_|refine st ?_|(apply B<;>intro hb<;>try cases hb)))<;>try refine At.mk ?_
 refine opsK_on rfl ?_
 refine opsK_of (E_boolEq rfl d2) rfl rfl ?_
 (repeat'(first|refine at_dst 31 ?_|refine at_dstD 31 ?_|refine st ?_|(apply B<;>intro hb<;>try cases hb)))<;>try refine At.mk ?_
 refine dK_eq (onP_spec m hmo f k d hml) rfl rfl rfl ⟨bookP_pure m f,trivial,trivial,trivial⟩ ?_
 (repeat'(first|refine at_dst 32 ?_|refine at_dstD 32 ?_|refine st ?_|(apply B<;>intro hb<;>try cases hb)))<;>try refine At.mk ?_
 refine dK_eq (closure_spec l S (onN m k d) (onN_lt hmo k d)) rfl rfl rfl ⟨hierP_pure l S,setN_pure _,trivial⟩ ?_
 (refine go ?_;repeat' (apply B<;>intro hb<;>try cases hb))
 exact ret_ok rfl (setN_pure _) rfl
theorem memberP_spec {l : List Pr} {m : List En} {n d : Nat} (hT : Told l m n d) (S : List Nat) (f : Bool) (u : Int) : Spec Tryz.prog 9 [.agg (factP (hierP l S) (bookP m f) n d),.val (.int .i64 u)] (· = setN (memb l m n d u)) :=
 memberG_spec hT.m.ok (by have := hT.m.len;omega) (by have := hT.n;omega) S f u
def cntG (M : Nat→Nat) (u r : Nat) : Nat := (List.range u).countP fun k => (M (k + 1)).testBit r
theorem cntG_succ (M : Nat→Nat) (u r : Nat) : cntG M (u + 1) r = if (M (u + 1)).testBit r = true then cntG M u r + 1 else cntG M u r := by
 unfold cntG
 rw [List.range_succ,List.countP_append,List.countP_singleton]
 split <;> rfl
theorem cntG_le (M : Nat→Nat) (u r : Nat) : cntG M u r≤u := by
 have h : cntG M u r≤(List.range u).length := List.countP_le_length
 rwa [List.length_range] at h
def cntL (M : Nat→Nat) (u : Nat) (rs : List Nat) (j : Nat) : Int := ((cntG M u j + rs.count j : Nat) : Int)
theorem cntL_nil (M : Nat→Nat) (u j : Nat) : cntL M u [] j = (cntG M u j : Nat) := by unfold cntL; rw [List.count_nil]; rfl
theorem mem_nodup (N : Nat) : (mem N).Nodup := List.Nodup.sublist List.filter_sublist List.nodup_range
theorem cntL_end (M : Nat→Nat) (u : Nat) (hM : M (u + 1) < 18446744073709551616) (j : Nat) : cntL M u (mem (M (u + 1))) j = (cntG M (u + 1) j : Nat) := by
 unfold cntL
 rw [cntG_succ,List.Nodup.count (mem_nodup _)]
 by_cases h : (M (u + 1)).testBit j = true
 · rw [if_pos h,if_pos ((mem_iff hM).2 h)]
 · rw [if_neg h,if_neg fun h2 => h ((mem_iff hM).1 h2),Nat.add_zero]
theorem cntL_snoc (M : Nat→Nat) (u : Nat) (rs : List Nat) (r j : Nat) : cntL M u (rs ++ [r]) j = if j = r then cntL M u rs r + 1 else cntL M u rs j := by
 unfold cntL
 rw [List.count_append,List.count_singleton]
 by_cases hj : j = r
 · subst hj
   rw [if_pos rfl,if_pos (beq_self_eq_true j)]
   omega
 · rw [if_neg hj, if_neg (by simpa using fun h => hj h.symm)]
   rfl
theorem cntL_le (M : Nat→Nat) (u : Nat) (rs : List Nat) (j : Nat) : 0≤cntL M u rs j∧cntL M u rs j≤u + rs.length := by
 have h1 := cntG_le M u j
 have h2 : rs.count j≤rs.length := List.count_le_length
 unfold cntL
 omega
def cntP0 (M : Nat→Nat) (n : Nat) : List Int := (List.range 64).map fun r => ((cntG M n r : Nat) : Int)
set_option maxHeartbeats 4000000 in
theorem countsP_spec (a b : PV) (ha : a.pure) (hb : b.pure) (n d : Nat) (hn : n≤256) (M : Nat→Nat) (hM : ∀ u,M u < 18446744073709551616) (hS : ∀ u : Nat,Spec Tryz.prog 9 [.agg (factP a b n d),.val (.int .i64 (u : Int))] (· = setN (M u))) : Spec Tryz.prog 22 [.agg (factP a b n d)] (· = .vec (nums (cntP0 M n)) false) := by
 have hfp : pureL (factP a b n d) := factP_pure ha hb n d
 have hfc : ∀ D,innL D (factP a b n d) := fun D => innL_mono (fun _ h => h.elim) _ hfp
 have hus := usersP_spec a b ha hb n d hn
 refine spec_intro ok22 (Nat.le_of_ble_eq_true rfl) fun C hC => ?_
 refine aw_seq ?_
 refine aw_region ?_
 refine opsK_ofAlt rfl rfl rfl ?_
 (repeat'(first|refine at_dst 6 ?_|refine at_dstD 6 ?_|refine st ?_|(apply B<;>intro hb<;>try cases hb)))<;>try refine At.mk ?_
 refine opsK_new (E_mslice (a := 64) (b := 64) rfl rfl (Nat.le_refl _) (by decide)) rfl rfl ?_
 (refine go ?_;repeat' (apply B<;>intro hb<;>try cases hb))
 refine aw_loopH hC (fun u => u≤n) (fun u => n - u) 2 (fun u => [(1,.cp (factP a b n d)),(3,.ptr 1 0 0),(4,.val (.int .i64 ((u + 1 : Nat) : Int)))]) (fun u => [(0,⟨1,tab (intR fun j => ((cntG M u j : Nat) : Int))⟩),(1,⟨1,[[.own 0]]⟩)]) (Nat.zero_le _) 0 (Nat.zero_le _)
  ⟨⟨rfl, hfc _⟩, ⟨rfl, show (1 : Nat) < 2 by decide⟩, ⟨rfl, trivial⟩, trivial⟩ ⟨⟨by decide, by
    refine congrArg (fun t => some (Bx.mk 1 t)) ((tab_rep [.val (.int .i64 0)]).trans ?_)
    exact tab_congr fun j _ => rfl,tabI_inn _ _⟩,⟨by decide,rfl,⟨show (0 : Nat) < 2 by decide,trivial⟩,trivial⟩,trivial⟩ ?_
 intro u hu
 have hunc : IntKind.i64.wrap (((u + 1 : Nat) : Int) + 1) = ((u + 1 + 1 : Nat) : Int) := IntWalk.i64_in _ ⟨by omega,by omega⟩
 (repeat'(first|refine at_dst 9 ?_|refine at_dstD 9 ?_|refine st ?_|(apply B<;>intro hb<;>try cases hb)))<;>try refine At.mk ?_
 refine opsK_eq hus rfl rfl rfl ⟨hfp,trivial⟩ rfl ?_
 (repeat'(first|refine at_dst 10 ?_|refine at_dstD 10 ?_|refine st ?_|(apply B<;>intro hb<;>try cases hb)))<;>try refine At.mk ?_
 refine opsK_bool rfl rfl rfl (fun hb=>?_) (fun hb=>?_)
 · have hun : u < n := by have := of_decide_eq_true hb; omega
   clear hb
   (repeat'(first|refine at_dst 15 ?_|refine at_dstD 15 ?_|refine st ?_|(apply B<;>intro hb<;>try cases hb)))<;>try refine At.mk ?_
   refine opsK_eq (hS (u + 1)) rfl rfl rfl ⟨hfp,trivial,trivial⟩ rfl ?_
   (repeat'(first|refine at_dst 16 ?_|refine at_dstD 16 ?_|refine st ?_|(apply B<;>intro hb<;>try cases hb)))<;>try refine At.mk ?_
   refine opsK_eq (allfn_spec (M (u + 1))) rfl rfl rfl ⟨setN_pure _,trivial⟩ rfl ?_
   (refine go ?_;repeat' (apply B<;>intro hb<;>try cases hb))
   refine aw_range (X := List Nat) hC (caps := [.cp [.vec (words (digs (M (u + 1)))) false]]) [(1,.cp (factP a b n d)),(3,.ptr 1 0 0),(4,.val (.int .i64 ((u + 1 : Nat) : Int))),(16,.fn 80 [.cp [.vec (words (digs (M (u + 1)))) false]])]
    (fun z => [(0,⟨1,tab (intR (cntL M u z))⟩),(1,⟨1,[[.own 0]]⟩)]) rfl ⟨⟨words_pure _,trivial⟩,trivial⟩ (all_iter (M (u + 1)) (hM _)) (fun _ => rfl)
    (fun ex pre z => ex = .normal∧z = pre.map (·.val)) 2 (Nat.zero_le _) [] ⟨rfl,rfl⟩
    (sub_keep hC (Nat.zero_le _) ⟨⟨rfl,hfc _⟩,⟨rfl,show (1 : Nat) < 2 by decide⟩,⟨rfl,trivial⟩,⟨rfl,⟨words_inn _ _,trivial⟩,trivial⟩,trivial⟩ ⟨⟨by decide,congrArg (fun t => some (Bx.mk 1 t)) (tab_int fun j _ => (cntL_nil M u j).symm),tabI_inn _ _⟩,⟨by decide,rfl,⟨show (0 : Nat) < 2 by decide,trivial⟩,trivial⟩,trivial⟩)
    (fun z q hq=>by simp at hq; rcases hq with rfl | rfl <;> exact Nat.one_pos) _ (fun x => rfl) ?_ ?_ ?_
   · rintro C2 hC2 pre x z ⟨-, rfl⟩ hlen
     have hx64 := mem_lt x.2
     have hml := mem_length (M (u + 1))
     have hle := cntL_le M u (pre.map (·.val)) x.val
     rw [List.length_map] at hle
     have hst := fun j => cntL_snoc M u (pre.map (·.val)) x.val j
     have dl : decide (((x.val : Nat) : Int) < ((tab (intR (cntL M u (pre.map (·.val))))).length : Nat)) = true := decide_eq_true (by rw [tab_len];omega)
     (repeat'(first|refine at_dst 21 ?_|refine at_dstD 21 ?_|refine st ?_|(apply B<;>intro hb<;>try cases hb)))<;>try refine At.mk ?_
     refine opsK_of (E_boolEq rfl dl) rfl rfl ?_
     (repeat'(first|refine at_dst 24 ?_|refine at_dstD 24 ?_|refine st ?_|(apply B<;>intro hb<;>try cases hb)))<;>try refine At.mk ?_
     refine opsK_of (E_iaddrO rfl rfl rfl x.val rfl (by rw [tab_len]; exact hx64) rfl) rfl rfl ?_
     refine opsK_of (E_load (i := x.val) rfl rfl (by rw [tab_len]; exact hx64) (by rw [tab_get hx64]; rfl)) rfl rfl ?_
     (repeat'(first|refine at_dst 27 ?_|refine at_dstD 27 ?_|refine st ?_|(apply B<;>intro hb<;>try cases hb)))<;>try refine At.mk ?_
     refine opsK_of (E_iaddrO rfl rfl rfl x.val rfl (by rw [tab_len]; exact hx64) rfl) rfl rfl ?_
     refine opsK_of (E_store (i := x.val) rfl rfl rfl rfl rfl (by rw [tab_len]; exact hx64) (Nat.le_refl _)) rfl rfl ?_
     (refine go ?_;repeat' (apply B<;>intro hb<;>try cases hb))
     have hadd : IntKind.i64.wrap (cntL M u (pre.map (·.val)) x.val + 1) = cntL M u (pre.map (·.val)) x.val + 1 := IntWalk.i64_in _ ⟨by omega,by omega⟩
     have hbox : ((tab (intR (cntL M u (pre.map (·.val))))).set x.val (setAt ((tab (intR (cntL M u (pre.map (·.val))))).getD x.val []) 0 [.val (.int .i64 (IntKind.i64.wrap (cntL M u (pre.map (·.val)) x.val + 1)))])) = tab (intR (cntL M u (pre.map (·.val) ++ [x.val]))) := by
      rw [tabI_set _ hx64,hadd]
      exact tab_int fun j _ => (hst j).symm
     refine ⟨.inl rfl,pre.map (·.val) ++ [x.val],fun i => i,⟨rfl,by rw [List.map_append]; rfl⟩,fun i hi => rfl,injOn_id,
      ⟨⟨_,rfl,.pure _ hfp⟩,⟨_,rfl,.ptr (ρ := fun i => i) 1 0 0 (by decide)⟩,⟨_,rfl,.pure _ trivial⟩,⟨_,rfl,.pure _ ⟨⟨words_pure _,trivial⟩,trivial⟩⟩,trivial⟩,
      ⟨⟨by decide,_,rfl,?_⟩,⟨by decide,_,rfl,RenB.single (ρ := fun i => i) ⟨.own 0 (by decide),trivial⟩ rfl⟩,trivial⟩⟩
     have hpp := tab_pure (intR_pure (cntL M u (pre.map (·.val) ++ [x.val])))
     rw [← hbox] at hpp ⊢
     exact .same _ hpp
   · rintro xs z hxs ⟨-, rfl⟩
     rw [hxs]
     (refine go ?_;repeat' (apply B<;>intro hb<;>try cases hb))
     exact ⟨u + 1,hun,by omega,⟨⟨rfl,hfc _⟩,⟨rfl,show (1 : Nat) < 2 by decide⟩,⟨by show some _ = some _; rw [hunc],trivial⟩,trivial⟩,⟨⟨by decide,congrArg (fun t => some (Bx.mk 1 t)) (tab_int fun j _ => cntL_end M u (hM _) j),tabI_inn _ _⟩,⟨by decide,rfl,⟨show (0 : Nat) < 2 by decide,trivial⟩,trivial⟩,trivial⟩⟩
   · rintro ex pre z - ⟨rfl,_⟩ (h | ⟨id,h⟩) <;> cases h
 · have hun : u = n := by have := of_decide_eq_false hb; omega
   clear hb
   have hfin : tab (intR fun r => ((cntG M u r : Nat) : Int)) = nums (cntP0 M n) := by rw [hun]; exact tab_nums _
   rw [hfin]
   (repeat'(first|refine at_dst 2 ?_|refine at_dstD 2 ?_|refine st ?_|(apply B<;>intro hb<;>try cases hb)))<;>try refine At.mk ?_
   refine opsK_sub (subA_freeze (k := 28) rfl rfl (nums_pure _)) ?_
   (refine go ?_;repeat' (apply B<;>intro hb<;>try cases hb))
   exact ret_ok rfl (nums_pure _) rfl
end Go.Proofs.YtcoehdmpjflmlaaGreatDoor

namespace Go.Proofs.YtcoehdmpjflmlaaGreatDoor
open Go.RowKit
set_option linter.unusedVariables false
attribute [local irreducible] aw opsK dK

def cmpE (x y : En) : Int := if x.u = y.u then (x.r : Int) - y.r else (x.u : Int) - y.u
theorem cmpE_lt (x y : En) : cmpE x y < 0 ↔ ltE x y := by
 unfold cmpE ltE
 split <;> omega
theorem cmpE_eq (x y : En) : cmpE x y = 0 ↔ x.u = y.u∧x.r = y.r := by
 unfold cmpE
 split <;> omega
def KeyOk (x : En) : Prop := x.u≤256∧x.r≤63
set_option maxHeartbeats 1000000 in
theorem cmpE_spec (x y : En) (hx : KeyOk x) (hy : KeyOk y) : Spec Tryz.prog 69 [.agg (enC x),.agg (enC y)] (· = .val (.int .i64 (cmpE x y))) := by
 obtain ⟨h1,h2⟩ := hx
 obtain ⟨h3,h4⟩ := hy
 refine spec_intro ok69 (Nat.le_of_ble_eq_true rfl) fun C hC => ?_
 have w1 : IntKind.i64.wrap ((x.u : Int) - y.u) = (x.u : Int) - y.u := IntWalk.i64_in _ ⟨by omega,by omega⟩
 have w2 : IntKind.i64.wrap ((x.r : Int) - y.r) = (x.r : Int) - y.r := IntWalk.i64_in _ ⟨by omega,by omega⟩
 refine aw_seq ?_
 refine aw_region ?_
 refine opsK_ofAlt rfl rfl rfl ?_
 refine opsK_ofAlt rfl rfl rfl ?_
 by_cases hu : x.u = y.u
 · have hc : cmpE x y = (x.r : Int) - y.r := by unfold cmpE; rw [if_pos hu]
   have d1 : (!((x.u : Int) == (y.u : Int))) = false := by rw [hu]; simp
   rw [hc,← w2]
   (repeat'(first|refine at_dst 9 ?_|refine at_dstD 9 ?_|refine st ?_|(apply B<;>intro hb<;>try cases hb)))<;>try refine At.mk ?_
   refine opsK_of (E_boolEq rfl d1) rfl rfl ?_
   (refine go ?_;repeat' (apply B<;>intro hb<;>try cases hb))
   exact ret_ok rfl trivial rfl
 · have hc : cmpE x y = (x.u : Int) - y.u := by unfold cmpE; rw [if_neg hu]
   have d1 : (!((x.u : Int) == (y.u : Int))) = true := by simp; omega
   rw [hc,← w1]
   (repeat'(first|refine at_dst 9 ?_|refine at_dstD 9 ?_|refine st ?_|(apply B<;>intro hb<;>try cases hb)))<;>try refine At.mk ?_
   refine opsK_of (E_boolEq rfl d1) rfl rfl ?_
   (refine go ?_;repeat' (apply B<;>intro hb<;>try cases hb))
   exact ret_ok rfl trivial rfl
structure Place (m : List En) (y : En) (k : Nat) (found : Bool) : Prop where
 le : k≤m.length
 before : ∀ (i : Nat) (h : i < m.length),i < k→ltE m[i] y
 after : ∀ (i : Nat) (h : i < m.length),k≤i→¬ ltE m[i] y
 found : found = true ↔ ∃ q,m[k]? = some q∧q.u = y.u∧q.r = y.r
theorem half_wrap (i j : Nat) (h : i + j < 9223372036854775808) : IntKind.i64.wrap ((((i + j : Nat) : Int)).fdiv (2 ^ min (Int.toNat 1) IntKind.u64.bits)) = (((i + j) / 2 : Nat) : Int) := by
 have e1 := fdiv_nat (i + j) 1 (by decide)
 rw [show ((1 : Nat) : Int) = (1 : Int) from rfl] at e1
 rw [e1]
 exact IntWalk.i64_in _ ⟨by omega,by omega⟩
set_option maxHeartbeats 4000000 in
theorem binS_spec (m : List En) (f : Bool) (y : En) (hs : SortedE m) (hm : ∀ x∈m,KeyOk x) (hy : KeyOk y) (hlen : m.length≤100000) : Spec Tryz.prog 68 [.vec (m.map enC) f,.agg (enC y),.fn 69 []] fun r => ∃ k found,Place m y k found∧r = .tup [.val (.int .i64 ((k : Nat) : Int)),.val (.bool found)] := by
 have hnl := ens_len m
 have hce : ∀ D,innL D (enC y) := fun D => innL_mono (fun _ h => h.elim) _ (enC_pure y)
 have hsi : ∀ (i j : Nat) (hi : i < m.length) (hj : j < m.length),i < j→ltE m[i] m[j] := fun i j hi hj h => List.pairwise_iff_getElem.1 hs i j hi hj h
 refine spec_intro ok68 (Nat.le_of_ble_eq_true rfl) fun C hC => ?_
 refine aw_seq ?_
 refine aw_region ?_
 refine opsK_ofAlt rfl rfl rfl ?_
 (refine go ?_;repeat' (apply B<;>intro hb<;>try cases hb))
 refine aw_loopH hC (fun (z : Nat × Nat) => z.1≤z.2∧z.2≤m.length∧(∀ (i : Nat) (h : i < m.length),i < z.1→ltE m[i] y)∧(∀ (i : Nat) (h : i < m.length),z.2≤i→¬ ltE m[i] y)) (fun z => z.2 - z.1) 0 (fun z => [(0,.vec (m.map enC) f),(2,.fn 69 []),(4,.cp (enC y)),(8,.val (.int .i64 m.length)),(9,.val (.int .i64 (z.1 : Int))),(10,.val (.int .i64 (z.2 : Int)))]) (fun _=>[]) (Nat.zero_le _) (0,m.length) ⟨Nat.zero_le _,Nat.le_refl _,fun i h h2 => absurd h2 (Nat.not_lt_zero _),fun i h h2 => absurd h (by simp only at h2;omega)⟩
  ⟨⟨rfl,ens_inn _ _⟩,⟨rfl,trivial⟩,⟨rfl,hce _⟩,⟨by rw [← hnl]; rfl,trivial⟩,⟨rfl,trivial⟩,⟨by rw [← hnl]; rfl,trivial⟩,trivial⟩ trivial ?_
 rintro ⟨i,j⟩ ⟨hij,hj,hbef,haft⟩
 simp only at hij hj hbef haft
 (repeat'(first|refine at_dst 17 ?_|refine at_dstD 17 ?_|refine st ?_|(apply B<;>intro hb<;>try cases hb)))<;>try refine At.mk ?_
 refine opsK_bool rfl rfl rfl (fun hb=>?_) (fun hb=>?_)
 · have hlt : i < j := by have := of_decide_eq_true hb; omega
   have hk : (i + j) / 2 < m.length := by omega
   have hka := hm _ (List.getElem_mem hk)
   have hsa := fun q hq => hsi q ((i + j) / 2) hq hk
   have hsb := fun q hq => hsi ((i + j) / 2) q hk hq
   clear hb
   (repeat'(first|refine at_dst 20 ?_|refine at_dstD 20 ?_|refine st ?_|(apply B<;>intro hb<;>try cases hb)))<;>try refine At.mk ?_
   refine opsK_int rfl rfl rfl (show IntKind.i64.wrap ((i : Int) + (j : Int)) = ((i + j : Nat) : Int) from IntWalk.i64_in _ ⟨by omega,by omega⟩) ?_
   (repeat'(first|refine at_dst 21 ?_|refine at_dstD 21 ?_|refine st ?_|(apply B<;>intro hb<;>try cases hb)))<;>try refine At.mk ?_
   refine opsK_int rfl rfl rfl (w64 (i + j) (by omega)) ?_
   (repeat'(first|refine at_dst 23 ?_|refine at_dstD 23 ?_|refine st ?_|(apply B<;>intro hb<;>try cases hb)))<;>try refine At.mk ?_
   refine opsK_int rfl rfl rfl (half_wrap i j (by omega)) ?_
   generalize hkd : (i + j) / 2 = k at hk hka hsa hsb ⊢
   (repeat'(first|refine at_dst 27 ?_|refine at_dstD 27 ?_|refine st ?_|(apply B<;>intro hb<;>try cases hb)))<;>try refine At.mk ?_
   refine dK_of (E_iaddr (xs := m) (g := enC) rfl rfl k rfl hk rfl) rfl rfl ?_
   generalize hpd : m[k] = p at hka hsa hsb ⊢
   have hknc : IntKind.i64.wrap ((k : Int) + 1) = ((k + 1 : Nat) : Int) := IntWalk.i64_in _ ⟨by omega,by omega⟩
   (repeat'(first|refine at_dst 30 ?_|refine at_dstD 30 ?_|refine st ?_|(apply B<;>intro hb<;>try cases hb)))<;>try refine At.mk ?_
   refine dK_eq (cmpE_spec p y hka hy) rfl rfl rfl ⟨enC_pure p,enC_pure y,trivial⟩ ?_
   (repeat'(first|refine at_dst 31 ?_|refine at_dstD 31 ?_|refine st ?_|(apply B<;>intro hb<;>try cases hb)))<;>try refine At.mk ?_
   refine dK_bool rfl rfl rfl (fun hb=>?_) (fun hb=>?_)
   · have hl : ltE p y := (cmpE_lt p y).1 (of_decide_eq_true hb)
     clear hb
     (refine go ?_;repeat' (apply B<;>intro hb<;>try cases hb))
     refine ⟨(k + 1,j),⟨by simp only; omega,hj,fun q hq h => ?_,haft⟩,by simp only; omega,⟨⟨rfl,ens_inn _ _⟩,⟨rfl,trivial⟩,⟨rfl,hce _⟩,⟨rfl,trivial⟩,⟨by show some _ = some _; rw [hknc],trivial⟩,⟨rfl,trivial⟩,trivial⟩,trivial⟩
     simp only at h
     rcases Nat.lt_or_eq_of_le (Nat.le_of_lt_succ h) with h | rfl
     · have := hsa q hq h
       unfold ltE at this hl ⊢
       omega
     · rw [hpd]; exact hl
   · have hl : ¬ ltE p y := fun h => by have := of_decide_eq_false hb; exact this ((cmpE_lt p y).2 h)
     clear hb
     (refine go ?_;repeat' (apply B<;>intro hb<;>try cases hb))
     refine ⟨(i,k),⟨by simp only; omega,by simp only; omega,hbef,fun q hq h => ?_⟩,by simp only; omega,⟨⟨rfl,ens_inn _ _⟩,⟨rfl,trivial⟩,⟨rfl,hce _⟩,⟨rfl,trivial⟩,⟨rfl,trivial⟩,⟨rfl,trivial⟩,trivial⟩,trivial⟩
     simp only at h
     rcases Nat.lt_or_eq_of_le h with h | rfl
     · have := hsb q hq h
       unfold ltE at this hl ⊢
       omega
     · rw [hpd]; exact hl
 · have hlt : i = j := by have := of_decide_eq_false hb; omega
   subst hlt
   clear hb
   by_cases hi : i < m.length
   · have d1 : decide ((i : Int) < (m.length : Nat)) = true := decide_eq_true (by omega)
     have hget : m[i]? = some m[i] := List.getElem?_eq_getElem hi
     have hka := hm _ (List.getElem_mem hi)
     (repeat'(first|refine at_dst 38 ?_|refine at_dstD 38 ?_|refine st ?_|(apply B<;>intro hb<;>try cases hb)))<;>try refine At.mk ?_
     refine dK_of (E_boolEq rfl d1) rfl rfl ?_
     (repeat'(first|refine at_dst 43 ?_|refine at_dstD 43 ?_|refine st ?_|(apply B<;>intro hb<;>try cases hb)))<;>try refine At.mk ?_
     refine dK_on rfl ?_
     refine dK_of (E_iaddr (xs := m) (g := enC) rfl rfl i rfl hi rfl) rfl rfl ?_
     generalize m[i] = p at hget hka ⊢
     (repeat'(first|refine at_dst 46 ?_|refine at_dstD 46 ?_|refine st ?_|(apply B<;>intro hb<;>try cases hb)))<;>try refine At.mk ?_
     refine dK_on rfl ?_
     refine dK_eq (cmpE_spec p y hka hy) rfl rfl rfl ⟨enC_pure p,enC_pure y,trivial⟩ ?_
     (repeat'(first|refine at_dst 47 ?_|refine at_dstD 47 ?_|refine st ?_|(apply B<;>intro hb<;>try cases hb)))<;>try refine At.mk ?_
     refine dK_on rfl ?_
     refine dK_bool rfl rfl rfl (fun hb=>?_) (fun hb=>?_)
     · have he := (cmpE_eq p y).1 (eq_of_beq hb)
       (refine go ?_;repeat' (apply B<;>intro hb<;>try cases hb))
       exact ret_ok rfl ⟨trivial,trivial,trivial⟩ ⟨i,true,⟨hj,hbef,haft,⟨fun _ => ⟨p,hget,he⟩,fun _ => rfl⟩⟩,rfl⟩
     · have he : ¬ (p.u = y.u ∧ p.r = y.r) := fun h => by
        have h2 := (cmpE_eq p y).2 h
        rw [h2] at hb
        exact absurd hb (by decide)
       (refine go ?_;repeat' (apply B<;>intro hb<;>try cases hb))
       exact ret_ok rfl ⟨trivial,trivial,trivial⟩ ⟨i,false,⟨hj,hbef,haft,⟨fun h => (by cases h),fun ⟨q,hq,h⟩=>by rw [hget] at hq; cases hq; exact absurd h he⟩⟩,rfl⟩
   · have d1 : decide ((i : Int) < (m.length : Nat)) = false := decide_eq_false (by omega)
     have hget : m[i]? = none := List.getElem?_eq_none (by omega)
     (repeat'(first|refine at_dst 38 ?_|refine at_dstD 38 ?_|refine st ?_|(apply B<;>intro hb<;>try cases hb)))<;>try refine At.mk ?_
     refine dK_of (E_boolEq rfl d1) rfl rfl ?_
     (refine go ?_;repeat' (apply B<;>intro hb<;>try cases hb))
     exact ret_ok rfl ⟨trivial,trivial,trivial⟩ ⟨i,false,⟨hj,hbef,haft,⟨fun h => (by cases h),fun ⟨q,hq,h⟩=>by rw [hget] at hq; cases hq⟩⟩,rfl⟩
end Go.Proofs.YtcoehdmpjflmlaaGreatDoor

namespace Go.Proofs.YtcoehdmpjflmlaaGreatDoor
open Go.RowKit
set_option linter.unusedVariables false
attribute [local irreducible] aw opsK dK

theorem ens_cell (l : List En) : ∀ c∈l.map enC,c.length = 3 := fun c hc=>by obtain ⟨y,_,rfl⟩ := List.mem_map.1 hc; rfl
set_option maxHeartbeats 1000000 in
theorem cloneE_own (xs : List En) (fl : Bool) (hlen : xs.length≤100000) : NSpec Tryz.prog 33 [.vec (xs.map enC) fl] .own ⟨3,xs.map enC⟩ := by
 refine nspec_intro ok33 (Nat.le_of_ble_eq_true rfl) fun C hC => ?_
 cases xs with
 | nil =>
   (refine go ?_;repeat' (apply B<;>intro hb<;>try cases hb))
   refine opsK_isnil (.inl ⟨_,_,rfl⟩) rfl fun b => ?_
   cases b
   · repeat' (first | refine opsK_sub (subA_ownNil (k := 5) rfl 3 (by decide)) ?_ | (first|refine st ?_|(apply B<;>intro hb<;>try cases hb)))
     exact ⟨_,_,rfl,.inl rfl,_,rfl,rfl⟩
   · iterate 6 (first|refine st ?_|(apply B<;>intro hb<;>try cases hb))
     refine aw_sub (subA_ownNil (k := 2) rfl 3 (by decide) _) ?_
     (refine go ?_;repeat' (apply B<;>intro hb<;>try cases hb))
     exact ⟨_,_,rfl,.inl rfl,_,rfl,rfl⟩
 | cons x xs =>
   repeat' (first | refine opsK_sub (subA_ownNil (k := 5) rfl 3 (by decide)) ?_ | (first|refine st ?_|(apply B<;>intro hb<;>try cases hb)))
   refine opsK_new (E_append (k := 0) (m := (x :: xs).map enC) (fl := fl) rfl rfl rfl (ens_cell (x :: xs)) rfl (by
    show (([] : List (List PV)).length + ((x :: xs).map enC).length) * 24≤_
    rw [List.length_map,List.length_nil];omega)) rfl rfl ?_
   (refine go ?_;repeat' (apply B<;>intro hb<;>try cases hb))
   exact ⟨_,_,rfl,.inl rfl,_,rfl,by rw [List.nil_append]; rfl⟩
set_option maxHeartbeats 1000000 in
theorem findP_spec (m : List En) (f : Bool) (u r : Nat) (hs : SortedE m) (hm : ∀ x∈m,KeyOk x) (hy : u≤256∧r≤63) (hlen : m.length≤100000) : Spec Tryz.prog 34 [bookP m f,.val (.int .i64 (u : Int)),.val (.int .i64 (r : Int))] fun v => ∃ k found,Place m ⟨u,r,0⟩ k found∧v = .tup [.val (.int .i64 ((k : Nat) : Int)),.val (.bool found)] := by
 refine spec_intro ok34 (Nat.le_of_ble_eq_true rfl) fun C hC => ?_
 (repeat'(first|refine at_dst 15 ?_|refine at_dstD 15 ?_|refine st ?_|(apply B<;>intro hb<;>try cases hb)))<;>try refine At.mk ?_
 refine opsK_spec rfl rfl (binS_spec m f ⟨u,r,0⟩ hs hm hy hlen) ⟨ens_pure m,enC_pure (⟨u,r,0⟩ : En),trivial,trivial⟩ rfl ?_
 rintro v ⟨k,found,hp,rfl⟩
 (refine go ?_;repeat' (apply B<;>intro hb<;>try cases hb))
 all_goals exact ret_ok rfl ⟨trivial,trivial,trivial⟩ ⟨k,_,hp,rfl⟩
theorem E_slcV {esz n k a : Nat} {e : Env} {h : Heap} {x lo : Operand} {b : Bx} (hx : ev e x = some (.own k)) (hb : h k = some b) (hlo : intAt (ev e lo) = some (a : Int)) (ha : a≤b.elems.length) (hz : b.esz = esz) : fEval (.slc esz x (some lo) none none) e h n = some (.view k a (b.elems.length - a),h) := by
 simp only [fEval,hx,hb,bndAt,hlo]
 rw [if_pos ⟨⟨by omega,by omega,by omega⟩,hz⟩]
 simp
set_option maxHeartbeats 1000000 in
theorem insertEnd_spec (m : List En) (x : En) (hlen : m.length≤100000) : MSpec Tryz.prog 35 ⟨3,m.map enC⟩ [.val (.int .i64 (m.length : Int)),.vec [enC x] true] .own fun b' => b' = ⟨3,(m ++ [x]).map enC⟩ := by
 have hnl := ens_len m
 have d1 : (((m.length : Nat) : Int) == (((m.map enC).length : Nat) : Int)) = true := by rw [hnl]; simp
 refine mspec_intro ok35 (Nat.le_of_ble_eq_true rfl) fun C hC => ?_
 (repeat'(first|refine at_dst 12 ?_|refine at_dstD 12 ?_|refine st ?_|(apply B<;>intro hb<;>try cases hb)))<;>try refine At.mk ?_
 refine opsK_ofAlt (E_slcV (a := m.length) (b := ⟨3,m.map enC⟩) rfl rfl rfl (by show m.length≤(m.map enC).length;omega) rfl) rfl rfl ?_
 (repeat'(first|refine at_dst 22 ?_|refine at_dstD 22 ?_|refine st ?_|(apply B<;>intro hb<;>try cases hb)))<;>try refine At.mk ?_
 refine opsK_of (E_boolEq rfl d1) rfl rfl ?_
 (repeat'(first|refine at_dst 25 ?_|refine at_dstD 25 ?_|refine st ?_|(apply B<;>intro hb<;>try cases hb)))<;>try refine At.mk ?_
 refine opsK_new (E_append (k := 0) (m := [enC x]) (fl := true) (b := ⟨3,m.map enC⟩) rfl rfl rfl (fun q hq=>by rw [List.mem_singleton] at hq; subst hq; rfl) rfl (by show ((m.map enC).length + 1) * 24≤_; rw [ens_len];omega)) rfl rfl ?_
 have put1 : m.map enC ++ [enC x] = (m ++ [x]).map enC := by rw [List.map_append]; rfl
 simp only
 rw [put1]
 (refine go ?_;repeat' (apply B<;>intro hb<;>try cases hb))
 exact ⟨_,_,rfl,.inl rfl,1,_,rfl,rfl,ens_pure _,rfl⟩
theorem place_end {m : List En} {y : En} {k : Nat} {found : Bool} (h : Place m y k found) (hall : ∀ q∈m,ltE q y) : k = m.length∧found = false := by
 have hk : k = m.length := by
  rcases Nat.lt_or_eq_of_le h.le with hl | rfl
  · exact absurd (hall _ (List.getElem_mem hl)) (h.after k hl (Nat.le_refl _))
  · rfl
 refine ⟨hk,?_⟩
 cases found with
 | false => rfl
 | true =>
   obtain ⟨q,hq,_⟩ := h.found.1 rfl
   rw [hk,List.getElem?_eq_none (Nat.le_refl _)] at hq
   cases hq
set_option maxHeartbeats 2000000 in
theorem assignEnd_spec (m : List En) (f : Bool) (x : En) (hs : SortedE m) (hm : ∀ x∈m,EnOk x) (hx : EnOk x) (hall : ∀ q∈m,ltE q x) (hlen : m.length≤10000) : Spec Tryz.prog 8 [bookP m f,.val (.int .i64 (x.u : Int)),.val (.int .i64 (x.r : Int)),.val (.int .i64 (x.t : Int))] (· = .tup [bookP (m ++ [x]) false,.val (.int .i64 0)]) := by
 have hu := hx.u
 have hr := hx.r
 have ht := hx.t
 have hk : ∀ x∈m,KeyOk x := fun x hx => ⟨(hm x hx).u.2,(hm x hx).r.2⟩
 have d1 : decide ((x.u : Int) < 1) = false := decide_eq_false (by omega)
 have d2 : decide ((x.u : Int) > 256) = false := decide_eq_false (by omega)
 have d3 : decide ((x.r : Int) < 1) = false := decide_eq_false (by omega)
 have d4 : decide ((x.r : Int) > 63) = false := decide_eq_false (by omega)
 have d5 : decide ((x.t : Int) > 30000) = false := decide_eq_false (by omega)
 refine spec_intro ok8 (Nat.le_of_ble_eq_true rfl) fun C hC => ?_
 (repeat'(first|refine at_dst 18 ?_|refine at_dstD 18 ?_|refine st ?_|(apply B<;>intro hb<;>try cases hb)))<;>try refine At.mk ?_
 refine opsK_on rfl ?_
 refine opsK_of (E_boolEq rfl d1) rfl rfl ?_
 (repeat'(first|refine at_dst 22 ?_|refine at_dstD 22 ?_|refine st ?_|(apply B<;>intro hb<;>try cases hb)))<;>try refine At.mk ?_
 refine opsK_on rfl ?_
 refine opsK_of (E_boolEq rfl d2) rfl rfl ?_
 (repeat'(first|refine at_dst 26 ?_|refine at_dstD 26 ?_|refine st ?_|(apply B<;>intro hb<;>try cases hb)))<;>try refine At.mk ?_
 refine opsK_on rfl ?_
 refine opsK_of (E_boolEq rfl d3) rfl rfl ?_
 (repeat'(first|refine at_dst 30 ?_|refine at_dstD 30 ?_|refine st ?_|(apply B<;>intro hb<;>try cases hb)))<;>try refine At.mk ?_
 refine opsK_on rfl ?_
 refine opsK_of (E_boolEq rfl d4) rfl rfl ?_
 (repeat'(first|refine at_dst 37 ?_|refine at_dstD 37 ?_|refine st ?_|(apply B<;>intro hb<;>try cases hb)))<;>try refine At.mk ?_
 refine opsK_on rfl ?_
 refine opsK_of (E_boolEq rfl d5) rfl rfl ?_
 (repeat'(first|refine at_dst 43 ?_|refine at_dstD 43 ?_|refine st ?_|(apply B<;>intro hb<;>try cases hb)))<;>try refine At.mk ?_
 refine opsK_own (cloneE_own m f (by omega)) mk_own (by exact ens_pure m) rfl rfl ⟨ens_pure m,trivial⟩ ?_
 (repeat'(first|refine at_dst 48 ?_|refine at_dstD 48 ?_|refine st ?_|(apply B<;>intro hb<;>try cases hb)))<;>try refine At.mk ?_
 refine opsK_spec rfl rfl (findP_spec m f x.u x.r hs hk ⟨hu.2,hr.2⟩ (by omega)) ⟨bookP_pure m f,trivial,trivial,trivial⟩ rfl ?_
 rintro v ⟨k,found,hp,rfl⟩
 obtain ⟨rfl,rfl⟩ := place_end hp (fun q hq=>by have := hall q hq; unfold ltE at this ⊢; exact this)
 (repeat'(first|refine at_dst 64 ?_|refine at_dstD 64 ?_|refine st ?_|(apply B<;>intro hb<;>try cases hb)))<;>try refine At.mk ?_
 refine opsK_mv (k := 0) (insertEnd_spec m x (by omega)) mk_own rfl rfl rfl rfl (ens_pure m) ⟨trivial,⟨enC_pure x,trivial⟩,trivial⟩ ?_
 rintro b' hb' rfl
 (repeat'(first|refine at_dst 65 ?_|refine at_dstD 65 ?_|refine st ?_|(apply B<;>intro hb<;>try cases hb)))<;>try refine At.mk ?_
 refine opsK_sub (subA_freeze (k := 10) rfl rfl (ens_pure _)) ?_
 (repeat'(first|refine at_dst 67 ?_|refine at_dstD 67 ?_|refine st ?_|(apply B<;>intro hb<;>try cases hb)))<;>try refine At.mk ?_
 refine opsK_ofAlt rfl rfl rfl ?_
 (refine go ?_;repeat' (apply B<;>intro hb<;>try cases hb))
 exact ret_ok rfl ⟨bookP_pure _ _,trivial,trivial⟩ rfl
end Go.Proofs.YtcoehdmpjflmlaaGreatDoor

namespace Go.Proofs.YtcoehdmpjflmlaaGreatDoor
open Go.RowKit
set_option linter.unusedVariables false
attribute [local irreducible] aw opsK dK

theorem sortedP_unique : ∀ {l m : List Pr},SortedP l→SortedP m→l.Perm m→l = m
 | [],m,_,_,h => (List.Perm.nil_eq h)
 | a :: l,[],_,_,h=>by have := h.length_eq; simp at this
 | a :: l, b :: m, h1, h2, h => by
   have h1' := List.pairwise_cons.1 h1
   have h2' := List.pairwise_cons.1 h2
   have hab : a = b := by
    rcases List.mem_cons.1 (h.mem_iff.1 (List.mem_cons_self (a := a) (l := l))) with e | ha
    · exact e
    rcases List.mem_cons.1 (h.mem_iff.2 (List.mem_cons_self (a := b) (l := m))) with e | hb
    · exact e.symm
    have x1 := h1'.1 b hb
    have x2 := h2'.1 a ha
    omega
   subst hab
   rw [sortedP_unique h1'.2 h2'.2 (List.Perm.cons_inv h)]
theorem SortedP.take {l : List Pr} (h : SortedP l) (i : Nat) : SortedP (l.take i) := List.Pairwise.sublist (List.take_sublist i l) h
theorem SortedE.take {l : List En} (h : SortedE l) (i : Nat) : SortedE (l.take i) := List.Pairwise.sublist (List.take_sublist i l) h
theorem SortedP.nodup {l : List Pr} (h : SortedP l) : l.Nodup := List.Pairwise.imp (fun {a b} h e=>by subst e;omega) h
theorem goodL_len {l : List Pr} (h : GoodL l) : l.length≤4096 := by
 have hn : (l.map fun p => p.1 * 64 + p.2).Nodup := by
  rw [List.nodup_iff_pairwise_ne,List.pairwise_map]
  refine List.Pairwise.imp_of_mem (fun {a b} ha hb hab => ?_) h.asc
  have h1 := h.small a ha
  have h2 := h.small b hb
  show a.1 * 64 + a.2≠b.1 * 64 + b.2
  omega
 have := nodup_le 4096 _ hn fun x hx => by
  obtain ⟨p,hp,rfl⟩ := List.mem_map.1 hx
  have := h.small p hp
  show p.1 * 64 + p.2 < 4096
  omega
 rwa [List.length_map] at this
set_option maxHeartbeats 4000000 in
theorem makeL_spec (x : Nat) (hx : x < 18446744073709551616) (raws : List En) (f : Bool) (us dy : Nat) : Spec Tryz.prog 6 [.agg [.val (.int .u64 (x : Int)),.vec (raws.map rawC) f,.val (.int .u8 (us : Int)),.val (.int .u8 (dy : Int))]] fun r => ∃ l fl m fm n d S fb,Told l m n d∧r = .tup [.agg (factP (hierP l S) (bookP m fb) n d),.agg (factR l fl m fm n d),.val (.bool true)] := by
 refine spec_intro ok6 (Nat.le_of_ble_eq_true rfl) fun C hC => ?_
 refine aw_seq ?_
 refine aw_region ?_
 refine opsK_ofAlt rfl rfl rfl ?_
 (repeat'(first|refine at_dst 17 ?_|refine at_dstD 17 ?_|refine st ?_|(apply B<;>intro hb<;>try cases hb)))<;>try refine At.mk ?_
 refine opsK_spec rfl rfl (make20_spec x hx raws f us dy) ⟨⟨trivial,raws_pure raws,trivial,trivial,trivial⟩,trivial⟩ rfl ?_
 rintro r ⟨l,fl,m,fm,n,d,hT,rfl⟩
 have hgl := hT.l
 have hll := goodL_len hgl
 have hnl := prs_len l
 have hfr := factR_pure l fl m fm n d
 have hfc : ∀ D,innL D (factR l fl m fm n d) := fun D => innL_mono (fun _ h => h.elim) _ hfr
 have hpl : ∀ D,innLL D (l.map prC) := fun D => innLL_mono (fun _ h => h.elim) _ (prs_pure l)
 have hhp : ∀ D l S,(hierP l S).inn D := fun D l S => PV.inn_mono (fun _ h => h.elim) _ (hierP_pure l S)
 have hbp : ∀ D m f,(bookP m f).inn D := fun D m f => PV.inn_mono (fun _ h => h.elim) _ (bookP_pure m f)
 (repeat'(first|refine at_dst 18 ?_|refine at_dstD 18 ?_|refine st ?_|(apply B<;>intro hb<;>try cases hb)))<;>try refine At.mk ?_
 refine opsK_sub (subA_freezeBox (k := 5) rfl rfl hfr) ?_
 refine opsK_spec rfl rfl hierNew_spec trivial rfl ?_
 rintro r ⟨S0,rfl⟩
 (refine go ?_;repeat' (apply B<;>intro hb<;>try cases hb))
 refine aw_loopH hC (fun (z : Nat × List Nat) => z.1≤l.length) (fun z => l.length - z.1) 3 (fun z => [(2,.ptr 0 0 0),(3,.ptr 1 0 0),(5,.cp (factR l fl m fm n d)),(6,hierP (l.take z.1) z.2),(20,.vec (l.map prC) fl),(21,.val (.int .i64 l.length)),(22,.val (.int .i64 (z.1 : Int)))])
  (fun _ => [(0,⟨4,[[.val (.pointer none),.val (.pointer none),.val (.int .i64 0),.val (.int .i64 0)]]⟩),(1,⟨4,[[.vec [] true,.vec [] true,.val (.int .i64 0),.val (.int .i64 0)]]⟩)]) (Nat.zero_le _) (0,S0) (Nat.zero_le _)
  ⟨⟨rfl,show (0 : Nat) < 3 by decide⟩,⟨rfl,show (1 : Nat) < 3 by decide⟩,⟨rfl,hfc _⟩,⟨rfl,hhp _ _ _⟩,⟨rfl,hpl _⟩,⟨by rw [← hnl]; rfl,trivial⟩,⟨rfl,trivial⟩,trivial⟩
  ⟨⟨by decide,rfl,⟨⟨trivial,trivial,trivial,trivial,trivial⟩,trivial⟩⟩,⟨by decide,rfl,⟨⟨trivial,trivial,trivial,trivial,trivial⟩,trivial⟩⟩,trivial⟩ ?_
 rintro ⟨i,S⟩ hi
 simp only at hi
 have hinc : IntKind.i64.wrap ((i : Int) + 1) = ((i + 1 : Nat) : Int) := IntWalk.i64_in _ ⟨by omega,by omega⟩
 (repeat'(first|refine at_dst 23 ?_|refine at_dstD 23 ?_|refine st ?_|(apply B<;>intro hb<;>try cases hb)))<;>try refine At.mk ?_
 refine opsK_bool rfl rfl rfl (fun hb=>?_) (fun hb=>?_)
 · have hil : i < l.length := by have := of_decide_eq_true hb; omega
   have htk := take_snocG hil
   have hro := hgl.role _ (List.getElem_mem hil)
   have hsub : ∀ p∈l.take i ++ [l[i]],p∈l := fun p hp=>by rw [← htk] at hp; exact List.mem_of_mem_take hp
   have hno : l[i] ∉ l.take i := fun h => by
    have hnd := SortedP.nodup (SortedP.take hgl.asc (i + 1))
    rw [htk,List.nodup_append] at hnd
    exact hnd.2.2 _ h _ (List.mem_singleton.2 rfl) rfl
   clear hb
   (refine go ?_;repeat' (apply B<;>intro hb<;>try cases hb))
   refine opsK_of (E_iaddr (xs := l) (g := prC) rfl rfl i rfl hil rfl) rfl rfl ?_
   generalize l[i] = p at htk hro hsub hno ⊢
   have hls := link_spec (l.take i) S p.1 p.2 (by omega) (by omega) hro.2.2.2.2 (fun q hq => hgl.small q (List.mem_of_mem_take hq)) (SortedP.nodup (SortedP.take hgl.asc i)) hno (hgl.acy.sub hsub) (by rw [List.length_take];omega)
   (repeat'(first|refine at_dst 32 ?_|refine at_dstD 32 ?_|refine st ?_|(apply B<;>intro hb<;>try cases hb)))<;>try refine At.mk ?_
   refine opsK_spec rfl rfl hls ⟨hierP_pure _ _,trivial,trivial,trivial⟩ rfl ?_
   rintro r ⟨l',S',hpm,hst,rfl⟩
   have hle : l' = l.take (i + 1) := by
    have hx1 : l'.Perm (l.take (i + 1)) := by rw [htk]; exact hpm
    exact sortedP_unique hst (SortedP.take hgl.asc (i + 1)) hx1
   subst hle
   (refine go ?_;repeat' (apply B<;>intro hb<;>try cases hb))
   exact ⟨(i + 1,S'),hil,by simp only; omega,⟨⟨rfl,show (0 : Nat) < 3 by decide⟩,⟨rfl,show (1 : Nat) < 3 by decide⟩,⟨rfl,hfc _⟩,⟨rfl,hhp _ _ _⟩,⟨rfl,hpl _⟩,⟨rfl,trivial⟩,⟨by show some _ = some _; rw [hinc],trivial⟩,trivial⟩,
    ⟨⟨by decide,rfl,⟨⟨trivial,trivial,trivial,trivial,trivial⟩,trivial⟩⟩,⟨by decide,rfl,⟨⟨trivial,trivial,trivial,trivial,trivial⟩,trivial⟩⟩,trivial⟩⟩
 · have hil : i = l.length := by have := of_decide_eq_false hb; omega
   subst hil
   clear hb hinc hi
   rw [List.take_length]
   have hml := hT.m.len
   have hmo := hT.m.ok
   have hms := hT.m.asc
   have hnm := ens_len m
   (repeat'(first|refine at_dst 41 ?_|refine at_dstD 41 ?_|refine st ?_|(apply B<;>intro hb<;>try cases hb)))<;>try refine At.mk ?_
   refine opsK_eq bookNew_spec rfl rfl rfl trivial rfl ?_
   (refine go ?_;repeat' (apply B<;>intro hb<;>try cases hb))
   refine aw_loopH hC (fun (z : Nat × Bool) => z.1≤m.length) (fun z => m.length - z.1) 3 (fun z => [(2,.ptr 0 0 0),(3,.ptr 1 0 0),(5,.cp (factR l fl m fm n d)),(6,hierP l S),(11,bookP (m.take z.1) z.2),(43,.vec (m.map enC) fm),(44,.val (.int .i64 m.length)),(45,.val (.int .i64 (z.1 : Int)))])
    (fun _ => [(0,⟨4,[[.val (.pointer none),.val (.pointer none),.val (.int .i64 0),.val (.int .i64 0)]]⟩),(1,⟨4,[[.vec [] true,.vec [] true,.val (.int .i64 0),.val (.int .i64 0)]]⟩)]) (Nat.zero_le _) (0,true) (Nat.zero_le _)
    ⟨⟨rfl,show (0 : Nat) < 3 by decide⟩,⟨rfl,show (1 : Nat) < 3 by decide⟩,⟨rfl,hfc _⟩,⟨rfl,hhp _ _ _⟩,⟨rfl,hbp _ _ _⟩,⟨rfl,ens_inn _ _⟩,⟨by rw [← hnm]; rfl,trivial⟩,⟨rfl,trivial⟩,trivial⟩
    ⟨⟨by decide,rfl,⟨⟨trivial,trivial,trivial,trivial,trivial⟩,trivial⟩⟩,⟨by decide,rfl,⟨⟨trivial,trivial,trivial,trivial,trivial⟩,trivial⟩⟩,trivial⟩ ?_
   rintro ⟨i,fb⟩ hi
   simp only at hi
   have hinc : IntKind.i64.wrap ((i : Int) + 1) = ((i + 1 : Nat) : Int) := IntWalk.i64_in _ ⟨by omega,by omega⟩
   (repeat'(first|refine at_dst 46 ?_|refine at_dstD 46 ?_|refine st ?_|(apply B<;>intro hb<;>try cases hb)))<;>try refine At.mk ?_
   refine opsK_bool rfl rfl rfl (fun hb=>?_) (fun hb=>?_)
   · have hil : i < m.length := by have := of_decide_eq_true hb; omega
     have htk := take_snocG hil
     have hok := hmo _ (List.getElem_mem hil)
     have hall : ∀ q∈m.take i,ltE q m[i] := fun q hq => by
      have hx1 := SortedE.take hms (i + 1)
      unfold SortedE at hx1
      rw [htk,List.pairwise_append] at hx1
      exact hx1.2.2 q hq _ (List.mem_singleton.2 rfl)
     clear hb
     (refine go ?_;repeat' (apply B<;>intro hb<;>try cases hb))
     refine opsK_of (E_iaddr (xs := m) (g := enC) rfl rfl i rfl hil rfl) rfl rfl ?_
     generalize m[i] = p at htk hok hall ⊢
     have has := assignEnd_spec (m.take i) fb p (SortedE.take hms i) (fun q hq => hmo q (List.mem_of_mem_take hq)) hok hall (by rw [List.length_take];omega)
     rw [← htk] at has
     (repeat'(first|refine at_dst 57 ?_|refine at_dstD 57 ?_|refine st ?_|(apply B<;>intro hb<;>try cases hb)))<;>try refine At.mk ?_
     refine opsK_eq has rfl rfl rfl ⟨bookP_pure _ _,trivial,trivial,trivial,trivial⟩ rfl ?_
     (refine go ?_;repeat' (apply B<;>intro hb<;>try cases hb))
     exact ⟨(i + 1,false),hil,by simp only; omega,⟨⟨rfl,show (0 : Nat) < 3 by decide⟩,⟨rfl,show (1 : Nat) < 3 by decide⟩,⟨rfl,hfc _⟩,⟨rfl,hhp _ _ _⟩,⟨rfl,hbp _ _ _⟩,⟨rfl,ens_inn _ _⟩,⟨rfl,trivial⟩,⟨by show some _ = some _; rw [hinc],trivial⟩,trivial⟩,
      ⟨⟨by decide,rfl,⟨⟨trivial,trivial,trivial,trivial,trivial⟩,trivial⟩⟩,⟨by decide,rfl,⟨⟨trivial,trivial,trivial,trivial,trivial⟩,trivial⟩⟩,trivial⟩⟩
   · have hil : i = m.length := by have := of_decide_eq_false hb; omega
     subst hil
     clear hb
     rw [List.take_length]
     repeat' (first | refine aw_drawU [] [(0,16384)] [131071,131071,131071,131071,131071,131071,131071,131071,131071,131071,131071,131071,131071,131071,114687,131071,131071] (by kernel_rfl) ?_ | (first|refine st ?_|(apply B<;>intro hb<;>try cases hb)))
     exact ret_ok rfl ⟨factP_pure (hierP_pure l S) (bookP_pure m fb) n d,hfr,trivial,trivial⟩ ⟨l,fl,m,fm,n,d,S,fb,hT,rfl⟩
end Go.Proofs.YtcoehdmpjflmlaaGreatDoor

namespace Go.Proofs.YtcoehdmpjflmlaaGreatDoor
open Go.RowKit Go.Lib
set_option linter.unusedVariables false
set_option linter.unusedSimpArgs false
attribute [local irreducible] aw opsK dK

theorem hasBody_of {P : Program} {f nt : Nat} {ac : ACode} {rs : List ARes} (hf : FnOk P f nt ac rs) : HasBody P f := by
 obtain ⟨hm,fn,c,hfn,hname,hb,rfl,hc,hr⟩ := hf
 exact ⟨fn,hfn,hname,by rw [hb]; rfl⟩
theorem setRow_two (w : World) (g : Nat) (x y : Array Value) : (w.setRow g x).setRow g y = w.setRow g y := by
 unfold World.setRow
 congr 1
 apply Array.ext_getElem?
 intro k
 simp only [Array.getElem?_modify]
 split
 · cases w.heap[k]? with
   | none => rfl
   | some o => cases o <;> rfl
 · rfl
theorem del_mspec (l : List Pr) (k : Nat) (hk : k < l.length) (hlen : l.length≤100000) : MSpec Tryz.prog 78 ⟨2,l.map prC⟩ [.val (.int .i64 (k : Int)),.val (.int .i64 ((k : Int) + 1))] .own (· = ⟨2,(l.eraseIdx k).map prC⟩) := by
 refine ⟨hasBody_of ok78,fun C e F φ a w vs s hv => ?_⟩
 obtain ⟨hsz,hvi⟩ := hv
 obtain ⟨vl⟩ := vs
 match vl,hsz with
 | [v0,v1,v2],_ => ?_
 have r0 : Rep F φ v0 (.own 0) := hvi 0 (show 0 < 3 by decide)
 have r1 : Rep F φ v1 (.val (.int .i64 (k : Int))) := hvi 1 (show 1 < 3 by decide)
 have r2 : Rep F φ v2 (.val (.int .i64 ((k : Int) + 1))) := hvi 2 (show 2 < 3 by decide)
 obtain ⟨loc,hloc,hz,rfl⟩ := r0.own_inv
 obtain rfl := r1.val_inv
 obtain rfl := r2.val_inv
 have hh : (Heap.upd (fun _ => none) 0 (⟨2,l.map prC⟩ : Bx)) 0 = some ⟨2,l.map prC⟩ := rfl
 obtain ⟨loc',h1,h2,h3⟩ := s.live 0 _ hh
 obtain rfl : loc' = loc := by rw [h1] at hloc; simpa using hloc
 have h2 := h2.cells hz
 have hln : loc'.len = l.length := by have := h2.len; rw [List.length_map] at this; exact this.symm
 have hez : loc'.esz = 2 := h2.esz.symm
 have hcle := h2.cap
 have hc0 : loc'.cap≠0 := by omega
 obtain ⟨ad,hbase,hs,cells,ct,hg,hroom,hrep⟩ := h2.room hc0
 have hhas : loc'.has ad.block := ⟨hc0,ad,hbase,rfl⟩
 rw [hez] at hroom hrep
 rw [hln] at hrep
 have s1 : St' C (fun i => 1≤i) e ((Heap.upd (fun _ => none) 0 (⟨2,l.map prC⟩ : Bx)).del 0) F φ a w := s.sub (fun _ _ h => h) (fun _ _ hh => (Heap.del_some hh).2)
 have hMl : ((l.eraseIdx k).map prC).length = l.length - 1 := by rw [List.length_map,List.length_eraseIdx_of_lt hk]
 have hMc : ∀ c∈(l.eraseIdx k).map prC,c.length = 2 := fun c hc=>by obtain ⟨y,_,rfl⟩ := List.mem_map.1 hc; rfl
 have h1c : ∀ q,q < l.length * 2→(cells.getD (ad.off + q) undef).oneCell' = true := fun q hq => by
  have := (hrep (q / 2) (q % 2) (by omega) (by omega)).1
  rwa [show q / 2 * 2 + q % 2 = q by omega] at this
 rw [hbase,hln,eta_none ad hs]
 refine (del_run ad.block ad.off l.length loc'.cap k cells ct w hk (by omega) (by omega) hg hroom h1c).mono ?_
 rintro en w' ⟨rfl,rfl⟩
 rw [setRow_two]
 let locN : Loc := ⟨some ⟨ad.block,ad.off,none⟩,2,l.length - 1,loc'.cap⟩
 have hfree : ∀ q,1≤q→φ q = none := fun q hq => s.free q hq
 have hst := s1.drew.adopt (id := 1) (loc' := locN) (b' := ⟨2,(l.eraseIdx k).map prC⟩) (φ' := locUpd φ 1 locN) (Fr' := fun i => 2≤i) (cur' := delA cells ad.off l.length k) hg (h3 _ hhas).1 (h3 _ hhas).2 (s.del_no hh h1 hhas) (by simp [locUpd]) (locUpd_ext (hfree 1 (Nat.le_refl _)) locN) (fun i hi=>by simp [locUpd,hi])
  (fun q hq => by
    have h5 : q≠1 := by omega
    simp [locUpd,h5,hfree q (by omega)]) (fun k' hk'=>by obtain ⟨_,y,hy,rfl⟩ := hk'; simp only [locN] at hy; cases hy; rfl) (by
  have hsB : (delB cells ad.off l.length k).size = cells.size := spl_size _ _ _ (by rw [seg_length];omega)
  refine ⟨rfl,show 0 < 2 by decide,hMl,by simp only [locN]; omega,by simp only [locN,maxVec]; omega,hMc,fun _ => ⟨⟨ad.block,ad.off,none⟩,rfl,rfl,_,ct,setRow_heap w.drew _ cells _ ct _ hg,?_,fun r q hr hq => ?_⟩⟩
  · unfold delA
    rw [spl_size _ _ _ (by rw [hsB]; show ad.off + (l.length - 1) * 2 + 2≤_;omega),hsB]
    exact hroom
  · simp only [locN] at hr hq ⊢
    have hget : ((l.eraseIdx k).map prC).getD r [] = if r < k then (l.map prC).getD r [] else (l.map prC).getD (r + 1) [] := by
     simp only [List.getD_eq_getElem?_getD,List.getElem?_map,List.getElem?_eraseIdx]
     split <;> rfl
    unfold delA
    rw [hget,spl_getD _ _ _ (by rw [hsB]; show ad.off + (l.length - 1) * 2 + 2≤_;omega),if_neg (by show ¬ (_∧_ < _ + 2);omega)]
    unfold delB
    rw [spl_getD _ _ _ (by rw [seg_length];omega),seg_length]
    by_cases hrk : r < k
    · rw [if_neg (by omega), if_pos hrk]
      have := hrep r q (by omega) hq
      exact ⟨this.1,this.2.mono (fun _ _ h => h) (locUpd_ext (hfree 1 (Nat.le_refl _)) locN)⟩
    · rw [if_pos ⟨by omega, by omega⟩, if_neg hrk, seg_getD _ _ _ _ (by omega), show ad.off + (k + 1) * 2 + (ad.off + (r * 2 + q) - (ad.off + k * 2)) = ad.off + ((r + 1) * 2 + q) by omega]
      have := hrep (r + 1) q (by omega) hq
      exact ⟨this.1,this.2.mono (fun _ _ h => h) (locUpd_ext (hfree 1 (Nat.le_refl _)) locN)⟩)
 exact ⟨_,.own 1,2,_,F,locUpd φ 1 locN,rfl,⟨1,_,rfl,Heap.upd_same _ _ _,prs_pure _,rfl⟩,.own 1 locN (by simp [locUpd]) (show 0 < 2 by decide),hst⟩

structure LessP (l : List Pr) (p : Pr) (l' : List Pr) : Prop where
 good : GoodL l'
 mem : ∀ q,q∈l' ↔ q∈l∧q≠p
 len : l'.length + 1 = l.length
theorem lessP_of {l : List Pr} (h : GoodL l) {k : Nat} (hk : k < l.length) : LessP l l[k] (l.eraseIdx k) := by
 have hnd := SortedP.nodup h.asc
 have hsub := List.eraseIdx_sublist l k
 have hmem : ∀ q,q∈l.eraseIdx k→q∈l := fun q hq => hsub.mem hq
 refine ⟨⟨List.Pairwise.sublist hsub h.asc,fun q hq => h.role q (hmem q hq),h.acy.sub hmem⟩,fun q => ?_,by rw [List.length_eraseIdx_of_lt hk]; omega⟩
 rw [List.mem_eraseIdx_iff_getElem]
 constructor
 · rintro ⟨i, hi, hne, rfl⟩
   refine ⟨List.getElem_mem hi,fun he => hne ?_⟩
   exact (List.getElem_inj hnd).1 he
 · rintro ⟨hq, hne⟩
   obtain ⟨i,hi,rfl⟩ := List.getElem_of_mem hq
   exact ⟨i,hi,fun he => hne (by subst he; rfl),rfl⟩
theorem LessP.up {l l' : List Pr} {p : Pr} (h : LessP l p l') (hp : Up l' p.1 p.2) {a b : Nat} (hu : Up l a b) : Up l' a b := by
 have one : ∀ {a b : Nat},(a,b)∈l→Up l' a b := fun {a b} hab => by
  by_cases he : (a,b) = p
  · subst he; exact hp
  · exact .one ((h.mem _).2 ⟨hab,he⟩)
 induction hu with
 | one hab => exact one hab
 | more _ hbc ih => exact ih.trans (one hbc)
theorem LessP.jun {l l' : List Pr} {p : Pr} (hg : GoodL l) (h : LessP l p l') (hp : Up l' p.1 p.2) (r : Nat) : jun l' r = jun l r := Nat.eq_of_testBit_eq fun b => by
 rw [Bool.eq_iff_iff,jun_bit h.good.small,jun_bit hg.small]
 exact or_congr ⟨Up.mono fun q hq => ((h.mem q).1 hq).1,h.up hp⟩ Iff.rfl
theorem clo_congr {l l' : List Pr} (h : ∀ r,jun l' r = jun l r) (s : Nat) : clo l' s = clo l s := by
 have e : jun l' = jun l := funext h
 rw [clo_mem,clo_mem,e]
set_option maxHeartbeats 2000000 in
theorem withoutO_spec (l : List Pr) (S : List Nat) (p : Pr) (hg : GoodL l) (hp : p∈l) : Spec Tryz.prog 50 [.cp (ordC l S),.val (.int .i64 (p.1 : Int)),.val (.int .i64 (p.2 : Int))] fun r => ∃ l' S',LessP l p l'∧r = .tup [.cp (ordC l' S'),.val (.int .i64 0)] := by
 have hlen := goodL_len hg
 obtain ⟨k,hk,hidx,hpk⟩ := idx_first (p := pB p) (xs := l) ⟨p,hp,by simp [pB]⟩
 have hlk : l[k] = p := ((pB_iff p l[k]).1 hpk).symm
 have hless := lessP_of hg hk
 rw [hlk] at hless
 have hix := indexP_spec l p true
 rw [hidx] at hix
 have d20 : decide (((k : Nat) : Int) < 0) = false := decide_eq_false (by omega)
 have hinc : IntKind.i64.wrap ((k : Int) + 1) = (k : Int) + 1 := IntWalk.i64_in _ ⟨by omega,by omega⟩
 refine spec_intro ok50 (Nat.le_of_ble_eq_true rfl) fun C hC => ?_
 (repeat'(first|refine at_dst 18 ?_|refine at_dstD 18 ?_|refine st ?_|(apply B<;>intro hb<;>try cases hb)))<;>try refine At.mk ?_
 refine opsK_eq hix rfl rfl rfl ⟨prs_pure l,prC_pure _,trivial⟩ rfl ?_
 (repeat'(first|refine at_dst 20 ?_|refine at_dstD 20 ?_|refine st ?_|(apply B<;>intro hb<;>try cases hb)))<;>try refine At.mk ?_
 refine opsK_of (E_boolEq rfl d20) rfl rfl ?_
 repeat' (first | refine aw_drawO [] 5 (by kernel_rfl) ?_ | (first|refine st ?_|(apply B<;>intro hb<;>try cases hb)))
 refine dK_callN (pairsO_own l S (by omega)) mk_own (by exact prs_pure l) rfl rfl rfl ⟨ordC_pure l S,trivial⟩ ?_
 (repeat'(first|refine at_dst 30 ?_|refine at_dstD 30 ?_|refine st ?_|(apply B<;>intro hb<;>try cases hb)))<;>try refine At.mk ?_
 rw [hinc]
 refine dK_callD (del_mspec l k hk (by omega)) rfl rfl (by exact prs_pure l) (by exact prs_pure _) rfl rfl rfl ⟨trivial,trivial,trivial⟩ ?_
 have hnew := newO_spec (l.eraseIdx k) false hless.good.small (SortedP.nodup hless.good.asc) hless.good.acy (by have := hless.len;omega)
 refine dK_call rfl rfl (.inl rfl) hnew ⟨trivial,prs_pure _,trivial⟩ ?_
 rintro r ⟨l',o,h1,h2,⟨S',rfl⟩,rfl⟩
 obtain rfl := sortedP_unique h2 hless.good.asc h1
 (refine go ?_;repeat' (apply B<;>intro hb<;>try cases hb))
 exact ret_ok rfl ⟨ordC_pure _ S',trivial,trivial⟩ ⟨_,S',hless,rfl⟩
set_option maxHeartbeats 2000000 in
theorem unlink_spec (l : List Pr) (S : List Nat) (p : Pr) (hg : GoodL l) (hp : p∈l) : Spec Tryz.prog 20 [hierP l S,.val (.int .i64 (p.1 : Int)),.val (.int .i64 (p.2 : Int))] fun r => ∃ l' S',LessP l p l'∧r = .tup [hierP l' S',.val (.int .i64 0)] := by
 have hr := hg.role p hp
 have hr1 := hrole_spec (p.1 : Int)
 rw [decide_eq_true (show (1 : Int)≤p.1 by omega),decide_eq_true (show (p.1 : Int)≤63 by omega)] at hr1
 have hr2 := hrole_spec (p.2 : Int)
 rw [decide_eq_true (show (1 : Int)≤p.2 by omega),decide_eq_true (show (p.2 : Int)≤63 by omega)] at hr2
 have d25 : ((p.1 : Int) == (p.2 : Int)) = false := by simp; omega
 refine spec_intro ok20 (Nat.le_of_ble_eq_true rfl) fun C hC => ?_
 (repeat'(first|refine at_dst 14 ?_|refine at_dstD 14 ?_|refine st ?_|(apply B<;>intro hb<;>try cases hb)))<;>try refine At.mk ?_
 refine opsK_on rfl ?_
 refine opsK_eq hr1 rfl rfl rfl ⟨trivial,trivial⟩ rfl ?_
 (repeat'(first|refine at_dst 19 ?_|refine at_dstD 19 ?_|refine st ?_|(apply B<;>intro hb<;>try cases hb)))<;>try refine At.mk ?_
 refine opsK_on rfl ?_
 refine opsK_eq hr2 rfl rfl rfl ⟨trivial,trivial⟩ rfl ?_
 (repeat'(first|refine at_dst 25 ?_|refine at_dstD 25 ?_|refine st ?_|(apply B<;>intro hb<;>try cases hb)))<;>try refine At.mk ?_
 refine opsK_on rfl ?_
 refine opsK_of (E_boolEq rfl d25) rfl rfl ?_
 (repeat'(first|refine at_dst 34 ?_|refine at_dstD 34 ?_|refine st ?_|(apply B<;>intro hb<;>try cases hb)))<;>try refine At.mk ?_
 refine opsK_spec rfl rfl (withoutO_spec l S p hg hp) ⟨ordC_pure l S,trivial,trivial,trivial⟩ rfl ?_
 rintro r ⟨l',S',hless,rfl⟩
 (repeat'(first|refine at_dst 42 ?_|refine at_dstD 42 ?_|refine st ?_|(apply B<;>intro hb<;>try cases hb)))<;>try refine At.mk ?_
 refine opsK_ofAlt rfl rfl rfl ?_
 (refine go ?_;repeat' (apply B<;>intro hb<;>try cases hb))
 exact ret_ok rfl ⟨hierP_pure l' S',trivial,trivial⟩ ⟨l',S',hless,rfl⟩
end Go.Proofs.YtcoehdmpjflmlaaGreatDoor

namespace Go.Proofs.YtcoehdmpjflmlaaGreatDoor
open Go.RowKit
set_option linter.unusedVariables false
attribute [local irreducible] aw opsK dK

noncomputable def redB (l : List Pr) (p : Pr) : Bool := @decide (Up (l.filter fun q => decide (q≠p)) p.1 p.2) (Classical.propDecidable _)
theorem redB_iff {l l' : List Pr} {p : Pr} (h : LessP l p l') : redB l p = true ↔ Up l' p.1 p.2 := by
 refine (@decide_eq_true_iff (Up (l.filter fun q => decide (q≠p)) p.1 p.2) (Classical.propDecidable _)).trans ?_
 exact ⟨Up.mono fun q hq => (h.mem q).2 (by simpa using hq),Up.mono fun q hq=>by simpa using (h.mem q).1 hq⟩
noncomputable def redL (l : List Pr) : List Pr := l.filter (redB l)
theorem redL_take (l : List Pr) {i : Nat} (hi : i < l.length) : (l.take (i + 1)).filter (redB l) = if redB l l[i] = true then (l.take i).filter (redB l) ++ [l[i]] else (l.take i).filter (redB l) := by
 rw [take_snocG hi,List.filter_append,List.filter_cons,List.filter_nil]
 split
 · rfl
 · rw [List.append_nil]
set_option maxHeartbeats 4000000 in
theorem redundant_spec (l : List Pr) (S : List Nat) (hg : GoodL l) : Spec Tryz.prog 19 [hierP l S] (· = .vec ((redL l).map prC) false) := by
 have hll := goodL_len hg
 have hnl := prs_len l
 refine spec_intro ok19 (Nat.le_of_ble_eq_true rfl) fun C hC => ?_
 repeat' (first | refine opsK_sub (subA_ownNil (k := 3) rfl 2 (by decide)) ?_ | (first|refine st ?_|(apply B<;>intro hb<;>try cases hb)))
 refine opsK_eq (links_spec l S (by omega)) rfl rfl rfl ⟨hierP_pure l S,trivial⟩ rfl ?_
 (refine go ?_;repeat' (apply B<;>intro hb<;>try cases hb))
 refine aw_loopR hC (fun i => i≤l.length) (fun i => l.length - i) 1 (fun i => [(0,hierP l S),(3,.own 0),(9,.vec (l.map prC) false),(10,.val (.int .i64 l.length)),(11,.val (.int .i64 (i : Int)))])
  (fun i => [(0,⟨2,((l.take i).filter (redB l)).map prC⟩)]) (by decide) 0 (Nat.zero_le _) (fun i=>i) (fun _ _=>rfl) injOn_id
  ⟨⟨_,rfl,.pure _ (hierP_pure l S)⟩,⟨_,rfl,.own (ρ := fun i => i) 0 (by decide)⟩,⟨_,rfl,.pure _ (prs_pure l)⟩,⟨_,by rw [← hnl]; rfl,.pure _ trivial⟩,⟨_,rfl,.pure _ trivial⟩,trivial⟩
  ⟨⟨by decide,_,rfl,.same _ trivial⟩,trivial⟩ ?_
 intro i hi
 have hinc : IntKind.i64.wrap ((i : Int) + 1) = ((i + 1 : Nat) : Int) := IntWalk.i64_in _ ⟨by omega,by omega⟩
 have hle : ((l.take i).filter (redB l)).length≤l.length := Nat.le_trans (List.length_filter_le _ _) (by rw [List.length_take];omega)
 (repeat'(first|refine at_dst 12 ?_|refine at_dstD 12 ?_|refine st ?_|(apply B<;>intro hb<;>try cases hb)))<;>try refine At.mk ?_
 refine opsK_bool rfl rfl rfl (fun hb=>?_) (fun hb=>?_)
 · have hil : i < l.length := by have := of_decide_eq_true hb; omega
   have hst := redL_take l hil
   have hmem := List.getElem_mem hil
   clear hb
   (refine go ?_;repeat' (apply B<;>intro hb<;>try cases hb))
   refine opsK_of (E_iaddr (xs := l) (g := prC) rfl rfl i rfl hil rfl) rfl rfl ?_
   generalize l[i] = p at hst hmem ⊢
   have hp64 := hg.small p hmem
   (repeat'(first|refine at_dst 24 ?_|refine at_dstD 24 ?_|refine st ?_|(apply B<;>intro hb<;>try cases hb)))<;>try refine At.mk ?_
   refine dK_call rfl rfl (.inl rfl) (withoutO_spec l S p hg hmem) ⟨ordC_pure l S,trivial,trivial,trivial⟩ ?_
   rintro r ⟨l',S',hless,rfl⟩
   have hlo := lessO_spec l' hless.good.small S' p.2 p.1 hp64.2 hp64.1
   have hbit := abv_bit hless.good.small p.1 p.2
   have hred := redB_iff hless
   by_cases hup : Up l' p.1 p.2
   · rw [hbit.2 hup] at hlo
     rw [if_pos (hred.2 hup)] at hst
     have hput : ((l.take i).filter (redB l)).map prC ++ [prC p] = ((l.take (i + 1)).filter (redB l)).map prC := by rw [hst,List.map_append]; rfl
     (repeat'(first|refine at_dst 35 ?_|refine at_dstD 35 ?_|refine st ?_|(apply B<;>intro hb<;>try cases hb)))<;>try refine At.mk ?_
     refine opsK_on rfl ?_
     refine opsK_eq hlo rfl rfl rfl ⟨ordC_pure l' S',trivial,trivial,trivial⟩ rfl ?_
     (repeat'(first|refine at_dst 40 ?_|refine at_dstD 40 ?_|refine st ?_|(apply B<;>intro hb<;>try cases hb)))<;>try refine At.mk ?_
     refine opsK_new (E_append (k := 0) (m := [prC p]) (fl := true) (b := ⟨2,((l.take i).filter (redB l)).map prC⟩) rfl rfl rfl (fun q hq=>by rw [List.mem_singleton] at hq; subst hq; rfl) rfl (by show ((((l.take i).filter (redB l)).map prC).length + 1) * 16≤_; rw [List.length_map];omega)) rfl rfl ?_
     simp only
     rw [hput]
     (refine go ?_;repeat' (apply B<;>intro hb<;>try cases hb))
     exact ⟨i + 1,mv 0 16,hil,by omega,fun i hi => absurd hi (Nat.not_lt_zero i),injOn_of rfl,
      ⟨⟨_,rfl,.pure _ (hierP_pure l S)⟩,⟨_,rfl,.own (ρ := mv 0 16) 0 (by decide)⟩,⟨_,rfl,.pure _ (prs_pure l)⟩,⟨_,rfl,.pure _ trivial⟩,⟨_,by show some _ = some _; rw [hinc],.pure _ trivial⟩,trivial⟩,
      ⟨⟨by decide,_,rfl,.same _ (prs_pure _)⟩,trivial⟩⟩
   · have hnb : (abv l' p.2).testBit p.1 = false := Bool.eq_false_iff.2 fun h => hup (hbit.1 h)
     rw [hnb] at hlo
     rw [if_neg fun h => hup (hred.1 h)] at hst
     rw [← hst]
     (repeat'(first|refine at_dst 35 ?_|refine at_dstD 35 ?_|refine st ?_|(apply B<;>intro hb<;>try cases hb)))<;>try refine At.mk ?_
     refine opsK_on rfl ?_
     refine opsK_eq hlo rfl rfl rfl ⟨ordC_pure l' S',trivial,trivial,trivial⟩ rfl ?_
     (refine go ?_;repeat' (apply B<;>intro hb<;>try cases hb))
     exact ⟨i + 1,fun i => i,hil,by omega,fun _ _ => rfl,injOn_id,
      ⟨⟨_,rfl,.pure _ (hierP_pure l S)⟩,⟨_,rfl,.own (ρ := fun i => i) 0 (by decide)⟩,⟨_,rfl,.pure _ (prs_pure l)⟩,⟨_,rfl,.pure _ trivial⟩,⟨_,by show some _ = some _; rw [hinc],.pure _ trivial⟩,trivial⟩,
      ⟨⟨by decide,_,rfl,.same _ (prs_pure _)⟩,trivial⟩⟩
 · have hil : i = l.length := by have := of_decide_eq_false hb; omega
   subst hil
   rw [List.take_length]
   clear hb
   (repeat'(first|refine at_dst 42 ?_|refine at_dstD 42 ?_|refine st ?_|(apply B<;>intro hb<;>try cases hb)))<;>try refine At.mk ?_
   refine opsK_sub (subA_freeze (k := 3) rfl rfl (prs_pure _)) ?_
   (refine go ?_;repeat' (apply B<;>intro hb<;>try cases hb))
   exact ret_ok rfl (prs_pure _) rfl
end Go.Proofs.YtcoehdmpjflmlaaGreatDoor

namespace Go.Proofs.YtcoehdmpjflmlaaGreatDoor
open Go.RowKit
set_option linter.unusedVariables false
attribute [local irreducible] aw opsK dK

theorem mk_ptr : Mk fun i => .ptr i 0 0 := fun F φ φ' v i n hn hv => by
 obtain ⟨loc,x,h1,h2,h3,h4,rfl⟩ := hv.ptr_inv
 exact .ptr n 0 0 loc x (hn ▸ h1) h2 h3 h4
theorem bookNew_own : NSpec Tryz.prog 32 [] (fun i => .ptr i 0 0) ⟨1,[[.vec [] true]]⟩ := by
 refine nspec_intro ok32 (Nat.le_of_ble_eq_true rfl) fun C hC => ?_
 (refine go ?_;repeat' (apply B<;>intro hb<;>try cases hb))
 exact ⟨_,_,rfl,.inl rfl,_,rfl,rfl⟩
def expL (m : List En) (d : Nat) : List En := m.filter fun x => decide (d≤x.t)
theorem expL_snoc (m : List En) (p : En) (d : Nat) : expL (m ++ [p]) d = if d≤p.t then expL m d ++ [p] else expL m d := by
 unfold expL
 rw [List.filter_append,List.filter_cons,List.filter_nil]
 by_cases h : d≤p.t
 · rw [if_pos (decide_eq_true h),if_pos h]
 · rw [if_neg (by simpa using h),if_neg h,List.append_nil]
theorem expL_len (m : List En) (d : Nat) : (expL m d).length≤m.length := List.length_filter_le _ _
set_option maxHeartbeats 4000000 in
theorem expire_spec (m : List En) (f : Bool) (d : Nat) (hlen : m.length≤100000) : Spec Tryz.prog 18 [bookP m f,.val (.int .i64 (d : Int))] (· = bookP (expL m d) false) := by
 have hnl := ens_len m
 refine spec_intro ok18 (Nat.le_of_ble_eq_true rfl) fun C hC => ?_
 (repeat'(first|refine at_dst 10 ?_|refine at_dstD 10 ?_|refine st ?_|(apply B<;>intro hb<;>try cases hb)))<;>try refine At.mk ?_
 refine opsK_own bookNew_own mk_ptr (show pureLL [[.vec [] true]] from ⟨⟨trivial,trivial⟩,trivial⟩) rfl rfl trivial ?_
 refine opsK_sub (subA_cellNil (id := 0) (i0 := 0) (j0 := 0) rfl (Nat.le_of_ble_eq_true rfl) (Nat.le_of_ble_eq_true rfl) rfl 3 (by decide) (by decide)) ?_
 (refine go ?_;repeat' (apply B<;>intro hb<;>try cases hb))
 refine aw_loopR hC (fun i => i≤m.length) (fun i => m.length - i) 2 (fun i => [(1,.val (.int .i64 (d : Int))),(5,.ptr 0 0 0),(14,.vec (m.map enC) f),(15,.val (.int .i64 m.length)),(16,.val (.int .i64 (i : Int)))])
  (fun i => [(0,⟨1,[[.own 1]]⟩),(1,⟨3,(expL (m.take i) d).map enC⟩)]) (by decide) 0 (Nat.zero_le _) (fun i=>i) (fun _ _=>rfl) injOn_id
  ⟨⟨_,rfl,.pure _ trivial⟩,⟨_,rfl,.ptr (ρ := fun i => i) 0 0 0 (by decide)⟩,⟨_,rfl,.pure _ (ens_pure m)⟩,⟨_,by rw [← hnl]; rfl,.pure _ trivial⟩,⟨_,rfl,.pure _ trivial⟩,trivial⟩
  ⟨⟨by decide,_,rfl,RenB.single (ρ := fun i => i) ⟨.own 1 (by decide),trivial⟩ rfl⟩,⟨by decide,_,rfl,.same _ trivial⟩,trivial⟩ ?_
 intro i hi
 have hinc : IntKind.i64.wrap ((i : Int) + 1) = ((i + 1 : Nat) : Int) := IntWalk.i64_in _ ⟨by omega,by omega⟩
 have hle := expL_len (m.take i) d
 rw [List.length_take] at hle
 (repeat'(first|refine at_dst 17 ?_|refine at_dstD 17 ?_|refine st ?_|(apply B<;>intro hb<;>try cases hb)))<;>try refine At.mk ?_
 refine opsK_bool rfl rfl rfl (fun hb=>?_) (fun hb=>?_)
 · have hil : i < m.length := by have := of_decide_eq_true hb; omega
   have htk := take_snocG hil
   clear hb
   (refine go ?_;repeat' (apply B<;>intro hb<;>try cases hb))
   refine opsK_of (E_iaddr (xs := m) (g := enC) rfl rfl i rfl hil rfl) rfl rfl ?_
   generalize m[i] = p at htk ⊢
   have hsn := expL_snoc (m.take i) p d
   rw [← htk] at hsn
   by_cases hd : d≤p.t
   · have dd : decide ((p.t : Int) ≥ (d : Int)) = true := decide_eq_true (by omega)
     rw [if_pos hd] at hsn
     have hput : (expL (m.take i) d).map enC ++ [enC p] = (expL (m.take (i + 1)) d).map enC := by rw [hsn,List.map_append]; rfl
     (repeat'(first|refine at_dst 23 ?_|refine at_dstD 23 ?_|refine st ?_|(apply B<;>intro hb<;>try cases hb)))<;>try refine At.mk ?_
     refine opsK_of (E_boolEq rfl dd) rfl rfl ?_
     (repeat'(first|refine at_dst 31 ?_|refine at_dstD 31 ?_|refine st ?_|(apply B<;>intro hb<;>try cases hb)))<;>try refine At.mk ?_
     refine dK_of (E_append (k := 1) (m := [enC p]) (fl := true) (b := ⟨3,(expL (m.take i) d).map enC⟩) rfl rfl rfl (fun q hq=>by rw [List.mem_singleton] at hq; subst hq; rfl) rfl (by show (((expL (m.take i) d).map enC).length + 1) * 24≤_; rw [List.length_map];omega)) rfl rfl ?_
     simp only
     rw [hput]
     (refine go ?_;repeat' (apply B<;>intro hb<;>try cases hb))
     exact ⟨i + 1,mv 1 10,hil,by omega,mv_low (Nat.zero_le 1),injOn_of rfl,
      ⟨⟨_,rfl,.pure _ trivial⟩,⟨_,rfl,.ptr (ρ := mv 1 10) 0 0 0 (by decide)⟩,⟨_,rfl,.pure _ (ens_pure m)⟩,⟨_,rfl,.pure _ trivial⟩,⟨_,by show some _ = some _; rw [hinc],.pure _ trivial⟩,trivial⟩,
      ⟨⟨by decide,_,rfl,RenB.single (ρ := mv 1 10) ⟨.own 1 (by decide),trivial⟩ rfl⟩,⟨by decide,_,rfl,.same _ (ens_pure _)⟩,trivial⟩⟩
   · have dd : decide ((p.t : Int) ≥ (d : Int)) = false := decide_eq_false (by omega)
     rw [if_neg hd] at hsn
     rw [← hsn]
     (repeat'(first|refine at_dst 23 ?_|refine at_dstD 23 ?_|refine st ?_|(apply B<;>intro hb<;>try cases hb)))<;>try refine At.mk ?_
     refine opsK_of (E_boolEq rfl dd) rfl rfl ?_
     (refine go ?_;repeat' (apply B<;>intro hb<;>try cases hb))
     exact ⟨i + 1,fun i => i,hil,by omega,fun _ _ => rfl,injOn_id,
      ⟨⟨_,rfl,.pure _ trivial⟩,⟨_,rfl,.ptr (ρ := fun i => i) 0 0 0 (by decide)⟩,⟨_,rfl,.pure _ (ens_pure m)⟩,⟨_,rfl,.pure _ trivial⟩,⟨_,by show some _ = some _; rw [hinc],.pure _ trivial⟩,trivial⟩,
      ⟨⟨by decide,_,rfl,RenB.single (ρ := fun i => i) ⟨.own 1 (by decide),trivial⟩ rfl⟩,⟨by decide,_,rfl,.same _ (ens_pure _)⟩,trivial⟩⟩
 · have hil : i = m.length := by have := of_decide_eq_false hb; omega
   subst hil
   rw [List.take_length]
   clear hb
   (repeat'(first|refine at_dst 35 ?_|refine at_dstD 35 ?_|refine st ?_|(apply B<;>intro hb<;>try cases hb)))<;>try refine At.mk ?_
   refine opsK_sub (subA_freezeCell (ob := 0) (id := 1) (i0 := 0) (j0 := 0) rfl rfl (by decide) (ens_pure _) (Nat.le_of_ble_eq_true rfl) (Nat.le_of_ble_eq_true rfl) rfl) ?_
   refine opsK_sub (subA_freezeBox (k := 5) (l := [.vec ((expL m d).map enC) false]) rfl rfl ⟨ens_pure _,trivial⟩) ?_
   (refine go ?_;repeat' (apply B<;>intro hb<;>try cases hb))
   exact ret_ok rfl (bookP_pure _ _) rfl
end Go.Proofs.YtcoehdmpjflmlaaGreatDoor

namespace Go.Proofs.YtcoehdmpjflmlaaGreatDoor
open Go.RowKit
set_option linter.unusedVariables false
attribute [local irreducible] aw opsK dK

set_option maxHeartbeats 2000000 in
theorem eqInts_spec (a b : List Int) (f1 f2 : Bool) : Spec Tryz.prog 21 [.vec (nums a) f1,.vec (nums b) f2] (· = .val (.bool (decide (a = b)))) := by
 have hla := nums_length a
 have hlb := nums_length b
 refine spec_intro ok21 (Nat.le_of_ble_eq_true rfl) fun C hC => ?_
 refine aw_len (k := 0) rfl fun hmax => ?_
 have hlm : a.length≤maxVec := by rw [hla] at hmax; exact hmax
 iterate 11 (first|refine st ?_|(apply B<;>intro hb<;>try cases hb))
 refine opsK_bool rfl rfl rfl (fun hb=>?_) (fun hb=>?_)
 · have hne : ¬ a.length = b.length := by
    rw [hla,hlb] at hb
    have : (¬ (a.length : Int) = (b.length : Int)) := by simpa using hb
    omega
   (refine go ?_;repeat' (apply B<;>intro hb<;>try cases hb))
   exact ret_ok rfl trivial (boolE (by rw [decide_eq_false (fun h => hne (by rw [h]))]))
 · have hne : a.length = b.length := by
    rw [hla,hlb] at hb
    have : ¬ ((a.length : Int)≠(b.length : Int)) := by simpa using hb
    omega
   clear hb
   (refine go ?_;repeat' (apply B<;>intro hb<;>try cases hb))
   refine aw_loopH hC (fun i => i≤a.length∧∀ j (h1 : j < a.length) (h2 : j < b.length),j < i→a[j] = b[j]) (fun i => a.length - i) 0 (fun i => [(0,.vec (nums a) f1),(1,.vec (nums b) f2),(12,.val (.int .i64 (a.length : Int))),(13,.val (.int .i64 (i : Int)))]) (fun _=>[]) (Nat.le_refl _) 0 ⟨Nat.zero_le _,fun j _ _ h => absurd h (Nat.not_lt_zero j)⟩ ⟨⟨rfl,nums_inn _ _⟩,⟨rfl,nums_inn _ _⟩,⟨by rw [← hla]; rfl,trivial⟩,⟨rfl,trivial⟩,trivial⟩ trivial ?_
   rintro i ⟨hi,hall⟩
   have hinc : IntKind.i64.wrap ((i : Int) + 1) = ((i + 1 : Nat) : Int) := IntWalk.i64_in _ ⟨by omega,by simp only [maxVec] at hlm; omega⟩
   iterate 2 (first|refine st ?_|(apply B<;>intro hb<;>try cases hb))
   refine opsK_bool rfl rfl rfl (fun hb=>?_) (fun hb=>?_)
   · have hil : i < a.length := by have := of_decide_eq_true hb; omega
     have hib : i < b.length := by omega
     clear hb
     (refine go ?_;repeat' (apply B<;>intro hb<;>try cases hb))
     refine dK_of (E_iaddr (xs := a) rfl rfl i rfl hil rfl) rfl rfl ?_
     (refine go ?_;repeat' (apply B<;>intro hb<;>try cases hb))
     refine dK_of (E_iaddr (xs := b) rfl rfl i rfl hib rfl) rfl rfl ?_
     (refine go ?_;repeat' (apply B<;>intro hb<;>try cases hb))
     · have hx : a[i] ≠ b[i] := by simpa using hb
       exact ret_ok rfl trivial (boolE (by rw [decide_eq_false (fun h => hx (by subst h; rfl))]))
     · have hx : a[i] = b[i] := by simpa using hb
       refine ⟨i + 1,⟨by omega,fun j h1 h2 hj => ?_⟩,by omega,⟨⟨rfl,nums_inn _ _⟩,⟨rfl,nums_inn _ _⟩,⟨rfl,trivial⟩,⟨by show some _ = some _; rw [hinc],trivial⟩,trivial⟩,trivial⟩
       by_cases hji : j = i
       · subst hji; exact hx
       · exact hall j h1 h2 (by omega)
   · have hil : i = a.length := by have := of_decide_eq_false hb; omega
     subst hil
     clear hb
     (refine go ?_;repeat' (apply B<;>intro hb<;>try cases hb))
     exact ret_ok rfl trivial (boolE (by rw [decide_eq_true (List.ext_getElem hne fun j h1 h2 => hall j h1 h2 h1)]))

structure RawF where
 x : Nat
 ms : List En
 f : Bool
 us : Nat
 dy : Nat
def RawFok (z : RawF) : Prop := z.x < 18446744073709551616
def rawF (z : RawF) : List PV := [.val (.int .u64 (z.x : Int)),.vec (z.ms.map rawC) z.f,.val (.int .u8 (z.us : Int)),.val (.int .u8 (z.dy : Int))]
theorem rawF_pure (z : RawF) : pureL (rawF z) := ⟨trivial,raws_pure z.ms,trivial,trivial,trivial⟩
theorem makeF_spec (z : RawF) (hz : RawFok z) : Spec Tryz.prog 6 [.agg (rawF z)] fun r => ∃ l fl m fm n d S fb,Told l m n d∧r = .tup [.agg (factP (hierP l S) (bookP m fb) n d),.agg (factR l fl m fm n d),.val (.bool true)] := makeL_spec z.x hz z.ms z.f z.us z.dy
theorem countsF_spec {l : List Pr} {m : List En} {n d : Nat} (hT : Told l m n d) (S : List Nat) (f : Bool) : Spec Tryz.prog 22 [.agg (factP (hierP l S) (bookP m f) n d)] (· = .vec (nums (cntAll l m n d)) false) := by
 have hn := hT.n
 exact countsP_spec (hierP l S) (bookP m f) (hierP_pure l S) (bookP_pure m f) n d (by omega) (fun u => memb l m n d ((u : Nat) : Int)) (fun u => memb_lt l m n d _) (fun u => memberP_spec hT S f _)
end Go.Proofs.YtcoehdmpjflmlaaGreatDoor

namespace Go.Proofs.YtcoehdmpjflmlaaGreatDoor
open Go.RowKit
set_option linter.unusedVariables false
attribute [local irreducible] aw opsK dK

def holdsB (f : Fm) (N : Nat) (ms : List Int) : Bool := decide (typeOfE f = 0) && decide (typeOfT f = 1) && decide (evM N ms f = 1)
def violTo (M : Nat→Nat) (f : Fm) (u : Nat) : List Nat := ((List.range u).map (· + 1)).filter fun k => !holdsB f (M k) []
theorem violTo_succ (M : Nat→Nat) (f : Fm) (u : Nat) : violTo M f (u + 1) = if holdsB f (M (u + 1)) [] = true then violTo M f u else violTo M f u ++ [u + 1] := by
 unfold violTo
 rw [List.range_succ,List.map_append,List.filter_append,List.map_singleton,List.filter_cons,List.filter_nil]
 cases holdsB f (M (u + 1)) []
 · rfl
 · exact List.append_nil _
theorem violTo_len (M : Nat→Nat) (f : Fm) (u : Nat) : (violTo M f u).length≤u := by
 have : (violTo M f u).length≤((List.range u).map (· + 1)).length := List.length_filter_le _ _
 rwa [List.length_map,List.length_range] at this
def violG (c : Con) (v : Bool) (M : Nat→Nat) (n : Nat) : List Nat := if c.kind = 1∧okC c v = 0 then violTo M c.f n else []
def violV (l : List Nat) (r : PV) : Prop := ∃ fl,r = .vec (nums (intsN l)) fl
set_option maxHeartbeats 4000000 in
theorem violP_spec (a b : PV) (ha : a.pure) (hb : b.pure) (n d : Nat) (hn : n≤256) (M : Nat→Nat) (hS : ∀ u : Nat,Spec Tryz.prog 9 [.agg (factP a b n d),.val (.int .i64 (u : Int))] (· = setN (M u))) {c : Con} {v : Bool} (h : ConOk c v) :
 Spec Tryz.prog 53 [.agg (conP c),.agg (factP a b n d)] (violV (violG c v M n)) := by
 have hd := h.depth
 have hsz := h.size
 have hfp : pureL (factP a b n d) := factP_pure ha hb n d
 have hus := usersP_spec a b ha hb n d hn
 have hck := checkCP_spec h
 refine spec_intro ok53 (Nat.le_of_ble_eq_true rfl) fun C hC => ?_
 refine aw_seq ?_
 refine aw_region ?_
 refine opsK_ofAlt rfl rfl rfl ?_
 refine opsK_ofAlt rfl rfl rfl ?_
 by_cases hk : c.kind = 1
 case neg =>
  have d1 : (!((c.kind : Int) == 1)) = true := by simp; omega
  have hg : violG c v M n = [] := by unfold violG; rw [if_neg fun h => hk h.1]
  rw [hg]
  (repeat'(first|refine at_dst 9 ?_|refine at_dstD 9 ?_|refine st ?_|(apply B<;>intro hb<;>try cases hb)))<;>try refine At.mk ?_
  refine opsK_of (E_boolEq rfl d1) rfl rfl ?_
  (refine go ?_;repeat' (apply B<;>intro hb<;>try cases hb))
  exact ret_ok rfl trivial ⟨true,rfl⟩
 have d1 : (!((c.kind : Int) == 1)) = false := by simp; omega
 (repeat'(first|refine at_dst 9 ?_|refine at_dstD 9 ?_|refine st ?_|(apply B<;>intro hb<;>try cases hb)))<;>try refine At.mk ?_
 refine opsK_of (E_boolEq rfl d1) rfl rfl ?_
 (repeat'(first|refine at_dst 12 ?_|refine at_dstD 12 ?_|refine st ?_|(apply B<;>intro hb<;>try cases hb)))<;>try refine At.mk ?_
 refine opsK_on rfl ?_
 refine opsK_eq hck rfl rfl rfl ⟨conP_pure c,trivial⟩ rfl ?_
 by_cases h0 : okC c v = 0
 case neg =>
  have d2 : (!(okC c v == 0)) = true := by simp; exact h0
  have hg : violG c v M n = [] := by unfold violG; rw [if_neg fun h => h0 h.2]
  rw [hg]
  (repeat'(first|refine at_dst 13 ?_|refine at_dstD 13 ?_|refine st ?_|(apply B<;>intro hb<;>try cases hb)))<;>try refine At.mk ?_
  refine opsK_on rfl ?_
  refine opsK_of (E_boolEq rfl d2) rfl rfl ?_
  (refine go ?_;repeat' (apply B<;>intro hb<;>try cases hb))
  exact ret_ok rfl trivial ⟨true,rfl⟩
 have d2 : (!(okC c v == 0)) = false := by simp; exact h0
 have hg : violG c v M n = violTo M c.f n := by unfold violG; rw [if_pos ⟨hk,h0⟩]
 rw [hg]
 (repeat'(first|refine at_dst 13 ?_|refine at_dstD 13 ?_|refine st ?_|(apply B<;>intro hb<;>try cases hb)))<;>try refine At.mk ?_
 refine opsK_on rfl ?_
 refine opsK_of (E_boolEq rfl d2) rfl rfl ?_
 repeat' (first | refine opsK_sub (subA_ownNil (k := 5) rfl 1 (by decide)) ?_ | (first|refine st ?_|(apply B<;>intro hb<;>try cases hb)))
 refine aw_loopR hC (fun u => u≤n) (fun u => n - u) 1 (fun u => [(2,.cp (conP c)),(3,.cp (factP a b n d)),(5,.own 0),(6,.val (.int .i64 ((u + 1 : Nat) : Int)))])
  (fun u => [(0,⟨1,nums (intsN (violTo M c.f u))⟩)]) (by omega) 0 (Nat.zero_le _) (fun i=>i) (fun _ _=>rfl) injOn_id
  ⟨⟨_,rfl,.pure _ (conP_pure c)⟩,⟨_,rfl,.pure _ hfp⟩,⟨_,rfl,.own 0 (by decide)⟩,⟨_,rfl,.pure _ trivial⟩,trivial⟩ ⟨⟨by decide,_,rfl,.same _ trivial⟩,trivial⟩ ?_
 intro u hu
 have hunc : IntKind.i64.wrap (((u + 1 : Nat) : Int) + 1) = ((u + 1 + 1 : Nat) : Int) := IntWalk.i64_in _ ⟨by omega,by omega⟩
 have hvl := violTo_len M c.f u
 have hst := violTo_succ M c.f u
 (repeat'(first|refine at_dst 17 ?_|refine at_dstD 17 ?_|refine st ?_|(apply B<;>intro hb<;>try cases hb)))<;>try refine At.mk ?_
 refine opsK_eq hus rfl rfl rfl ⟨hfp,trivial⟩ rfl ?_
 (repeat'(first|refine at_dst 18 ?_|refine at_dstD 18 ?_|refine st ?_|(apply B<;>intro hb<;>try cases hb)))<;>try refine At.mk ?_
 refine opsK_bool rfl rfl rfl (fun hb=>?_) (fun hb=>?_)
 · have hun : u < n := by have := of_decide_eq_true hb; omega
   clear hb
   (repeat'(first|refine at_dst 25 ?_|refine at_dstD 25 ?_|refine st ?_|(apply B<;>intro hb<;>try cases hb)))<;>try refine At.mk ?_
   refine dK_eq (hS (u + 1)) rfl rfl rfl ⟨hfp,trivial,trivial⟩ ?_
   have hh := holds_spec (M (u + 1)) [] true c.f (by omega) (by omega)
   rw [show (decide (typeOfE c.f = 0) && decide (typeOfT c.f = 1) && decide (evM (M (u + 1)) [] c.f = 1)) = holdsB c.f (M (u + 1)) [] from rfl] at hh
   cases hv : holdsB c.f (M (u + 1)) []
   · rw [hv] at hh
     rw [hv,if_neg (by decide)] at hst
     (repeat'(first|refine at_dst 26 ?_|refine at_dstD 26 ?_|refine st ?_|(apply B<;>intro hb<;>try cases hb)))<;>try refine At.mk ?_
     refine dK_eq hh rfl rfl rfl ⟨fC_pure _ _,setN_pure _,trivial,trivial⟩ ?_
     (repeat'(first|refine at_dst 31 ?_|refine at_dstD 31 ?_|refine st ?_|(apply B<;>intro hb<;>try cases hb)))<;>try refine At.mk ?_
     refine opsK_new (E_append (k := 0) (m := nums (intsN [u + 1])) (fl := true) (b := ⟨1,nums (intsN (violTo M c.f u))⟩) rfl rfl rfl (fun c hc=>by obtain ⟨y,_,rfl⟩ := List.mem_map.1 hc; rfl) rfl (by
      show ((nums (intsN (violTo M c.f u))).length + 1) * 8≤_
      rw [nums_length,intsN,List.length_map]
      omega)) rfl rfl ?_
     have happ : nums (intsN (violTo M c.f u)) ++ nums (intsN [u + 1]) = nums (intsN (violTo M c.f (u + 1))) := by rw [hst]; simp [nums,intsN]
     simp only
     rw [happ]
     (refine go ?_;repeat' (apply B<;>intro hb<;>try cases hb))
     exact ⟨u + 1,mv 0 8,hun,by omega,fun j hj => absurd hj (Nat.not_lt_zero _),injOn_of rfl,
      ⟨⟨_,rfl,.pure _ (conP_pure c)⟩,⟨_,rfl,.pure _ hfp⟩,⟨_,rfl,.own 0 (by decide)⟩,⟨_,by show some _ = some _; rw [hunc],.pure _ trivial⟩,trivial⟩,⟨⟨by decide,_,rfl,.same _ (nums_pure _)⟩,trivial⟩⟩
   · rw [hv] at hh
     rw [hv,if_pos rfl] at hst
     (repeat'(first|refine at_dst 26 ?_|refine at_dstD 26 ?_|refine st ?_|(apply B<;>intro hb<;>try cases hb)))<;>try refine At.mk ?_
     refine dK_eq hh rfl rfl rfl ⟨fC_pure _ _,setN_pure _,trivial,trivial⟩ ?_
     (refine go ?_;repeat' (apply B<;>intro hb<;>try cases hb))
     refine ⟨u + 1,fun i => i,hun,by omega,fun _ _ => rfl,injOn_id,
      ⟨⟨_,rfl,.pure _ (conP_pure c)⟩,⟨_,rfl,.pure _ hfp⟩,⟨_,rfl,.own 0 (by decide)⟩,⟨_,by show some _ = some _; rw [hunc],.pure _ trivial⟩,trivial⟩,⟨⟨by decide,_,rfl,?_⟩,trivial⟩⟩
     rw [hst]
     exact .same _ (nums_pure _)
 · have hun : u = n := by have := of_decide_eq_false hb; omega
   subst hun
   clear hb
   (repeat'(first|refine at_dst 32 ?_|refine at_dstD 32 ?_|refine st ?_|(apply B<;>intro hb<;>try cases hb)))<;>try refine At.mk ?_
   refine opsK_sub (subA_freeze (k := 5) rfl rfl (nums_pure _)) ?_
   (refine go ?_;repeat' (apply B<;>intro hb<;>try cases hb))
   exact ret_ok rfl (nums_pure _) ⟨false,rfl⟩
end Go.Proofs.YtcoehdmpjflmlaaGreatDoor

namespace Go.Proofs.YtcoehdmpjflmlaaGreatDoor
open Go.RowKit
set_option linter.unusedVariables false
attribute [local irreducible] aw opsK dK

theorem ConsI.law {items : List ItemX} {i : Nat} {l : List Con} (h : ConsI items i l) : ∀ c∈l,(1≤c.kind∧c.kind≤3)∧Wf c.f∧c.f.depth≤4 := fun c hc => ⟨(h.ok c hc).kind,(h.ok c hc).wf,(h.ok c hc).depth⟩
end Go.Proofs.YtcoehdmpjflmlaaGreatDoor

namespace Go.Proofs.YtcoehdmpjflmlaaGreatDoor
open Go.RowKit
set_option linter.unusedVariables false
attribute [local irreducible] aw opsK dK

theorem fC_lowC (f : Fm) : lowL (fC .u8 f) = fC .u8 f := (lowL_fC .u8 f).trans (cellsK_eq .u8 f)
end Go.Proofs.YtcoehdmpjflmlaaGreatDoor

namespace Go.Proofs.YtcoehdmpjflmlaaGreatDoor
open Go.RowKit
set_option linter.unusedVariables false
attribute [local irreducible] aw opsK dK

def segU (c : Con) (v : Bool) (ms : List Int) : Bool := decide (c.kind = 3) && decide (okC c v = 0) && !holdsB c.f 0 ms
def segV (vf : Con→Bool) (M : Nat→Nat) (n : Nat) (ms : List Int) (k : Nat) (c : Con) : List Pr := (violG c (vf c) M n).map (fun u => (k,u)) ++ (if segU c (vf c) ms = true then [(k,0)] else [])
def vaTo (vf : Con→Bool) (M : Nat→Nat) (n : Nat) (ms : List Int) (cs : List Con) : Nat→List Pr
 | 0 => []
 | i + 1 => vaTo vf M n ms cs i ++ (match cs[i]? with | some c => segV vf M n ms i c | none => [])
theorem vaTo_succ (vf : Con→Bool) (M : Nat→Nat) (n : Nat) (ms : List Int) {cs : List Con} {i : Nat} {c : Con} (h : cs[i]? = some c) : vaTo vf M n ms cs (i + 1) = vaTo vf M n ms cs i ++ segV vf M n ms i c := by
 rw [vaTo,h]
theorem violG_len (c : Con) (v : Bool) (M : Nat→Nat) (n : Nat) : (violG c v M n).length≤n := by
 unfold violG
 split
 · exact violTo_len M c.f n
 · exact Nat.zero_le _
theorem segV_len (vf : Con→Bool) (M : Nat→Nat) (n : Nat) (ms : List Int) (k : Nat) (c : Con) : (segV vf M n ms k c).length≤n + 1 := by
 have := violG_len c (vf c) M n
 unfold segV
 rw [List.length_append,List.length_map]
 split <;> simp <;> omega
theorem vaTo_len (vf : Con→Bool) (M : Nat→Nat) (n : Nat) (ms : List Int) (cs : List Con) : ∀ i,(vaTo vf M n ms cs i).length≤i * (n + 1)
 | 0 => Nat.zero_le _
 | i + 1 => by
   have := vaTo_len vf M n ms cs i
   rw [vaTo,List.length_append,Nat.succ_mul]
   split
   · rename_i c _
     have := segV_len vf M n ms i c
     omega
   · simp; omega
set_option maxRecDepth 100000 in
set_option maxHeartbeats 8000000 in
theorem violatedP_own (a b : PV) (ha : a.pure) (hb0 : b.pure) (n d : Nat) (hn : n≤256) (M : Nat→Nat) (ms : List Int) (hS : ∀ u : Nat,Spec Tryz.prog 9 [.agg (factP a b n d),.val (.int .i64 (u : Int))] (· = setN (M u))) (hCt : Spec Tryz.prog 22 [.agg (factP a b n d)] (· = .vec (nums ms) false))
 (vf : Con→Bool) (cs : List Con) (fl : Bool) (hok : ∀ c∈cs,ConOk c (vf c)) (hlen : cs.length≤100) :
 NSpec Tryz.prog 24 [.vec (cs.map conP) fl,.agg (factP a b n d)] .own ⟨2,(vaTo vf M n ms cs cs.length).map prC⟩ := by
 have hfp : pureL (factP a b n d) := factP_pure ha hb0 n d
 have hvs : ∀ c v,ConOk c v→Spec Tryz.prog 53 [.agg (conP c),.agg (factP a b n d)] (violV (violG c v M n)) := fun c v h => violP_spec a b ha hb0 n d hn M hS h
 have hnl := consP_len cs
 refine nspec_intro ok24 (Nat.le_of_ble_eq_true rfl) fun C hC => ?_
 refine aw_seq ?_
 refine aw_region ?_
 refine opsK_ofAlt rfl rfl rfl ?_
 repeat' (first | refine opsK_sub (subA_ownNil (k := 5) rfl 2 (by decide)) ?_ | (first|refine st ?_|(apply B<;>intro hb<;>try cases hb)))
 refine aw_loopR hC (fun i => i≤cs.length) (fun i => cs.length - i) 1 (fun i => [(3,.cp (factP a b n d)),(5,.own 0),(10,.vec (cs.map conP) fl),(11,.val (.int .i64 cs.length)),(12,.val (.int .i64 (i : Int)))])
  (fun i => [(0,⟨2,(vaTo vf M n ms cs i).map prC⟩)]) (by omega) 0 (Nat.zero_le _) (fun i=>i) (fun _ _=>rfl) injOn_id
  ⟨⟨_,rfl,.pure _ hfp⟩,⟨_,rfl,.own 0 (by decide)⟩,⟨_,rfl,.pure _ (cons_pureP cs)⟩,⟨_,by rw [← hnl]; rfl,.pure _ trivial⟩,⟨_,rfl,.pure _ trivial⟩,trivial⟩ ⟨⟨by decide,_,rfl,.same _ trivial⟩,trivial⟩ ?_
 intro i hi
 have hinc : IntKind.i64.wrap ((i : Int) + 1) = ((i + 1 : Nat) : Int) := IntWalk.i64_in _ ⟨by omega,by omega⟩
 (repeat'(first|refine at_dst 13 ?_|refine at_dstD 13 ?_|refine st ?_|(apply B<;>intro hb<;>try cases hb)))<;>try refine At.mk ?_
 refine opsK_bool rfl rfl rfl (fun hb=>?_) (fun hb=>?_)
 · have hil : i < cs.length := by have := of_decide_eq_true hb; omega
   have hget : cs[i]? = some cs[i] := List.getElem?_eq_getElem hil
   have hco := hok _ (List.getElem_mem hil)
   have hvl := vaTo_len vf M n ms cs i
   have hvl2 : (vaTo vf M n ms cs i).length≤100 * 257 := Nat.le_trans hvl (Nat.mul_le_mul (by omega) (by omega))
   clear hb
   (repeat'(first|refine at_dst 15 ?_|refine at_dstD 15 ?_|refine st ?_|(apply B<;>intro hb<;>try cases hb)))<;>try refine At.mk ?_
   refine opsK_of (E_iaddr (xs := cs) (g := conP) rfl rfl i rfl hil rfl) rfl rfl ?_
   generalize cs[i] = c at hget hco ⊢
   have hst := vaTo_succ vf M n ms hget
   have hkd := hco.kind
   have hdp := hco.depth
   have hsz := hco.size
   (repeat'(first|refine at_dst 17 ?_|refine at_dstD 17 ?_|refine st ?_|(apply B<;>intro hb<;>try cases hb)))<;>try refine At.mk ?_
   refine opsK_sub (subA_freezeBox (k := 7) (l := conP c) rfl rfl (conP_pure c)) ?_
   (repeat'(first|refine at_dst 19 ?_|refine at_dstD 19 ?_|refine st ?_|(apply B<;>intro hb<;>try cases hb)))<;>try refine At.mk ?_
   refine opsK_spec rfl rfl (hvs c (vf c) hco) ⟨conP_pure c,hfp,trivial⟩ rfl ?_
   rintro r ⟨f1,rfl⟩
   have hvn := violG_len c (vf c) M n
   have hseg : segV vf M n ms i c = (violG c (vf c) M n).map (fun u => (i,u)) ++ (if segU c (vf c) ms = true then [(i,0)] else []) := rfl
   generalize violG c (vf c) M n = vl at hvn hseg ⊢
   generalize vaTo vf M n ms cs i = pre at hvl2 hst ⊢
   have hvn2 : (nums (intsN vl)).length = vl.length := by rw [nums_length,intsN,List.length_map]
   have put1 : ∀ (o : List Pr) (p : Pr),o.map prC ++ [prC p] = (o ++ [p]).map prC := fun o p=>by rw [List.map_append]; rfl
   (refine go ?_;repeat' (apply B<;>intro hb<;>try cases hb))
   refine aw_loopR hC (fun j => j≤vl.length) (fun j => vl.length - j) 1 (fun j => [(3,.cp (factP a b n d)),(5,.own 0),(6,.val (.int .i64 (i : Int))),(7,.cp (conP c)),(10,.vec (cs.map conP) fl),(11,.val (.int .i64 cs.length)),(12,.val (.int .i64 (i : Int))),(19,.vec (nums (intsN vl)) f1),(20,.val (.int .i64 vl.length)),(21,.val (.int .i64 (j : Int)))])
    (fun j => [(0,⟨2,(pre ++ (vl.take j).map (fun u => (i,u))).map prC⟩)]) (by omega) 0 (Nat.zero_le _) (fun i=>i) (fun _ _=>rfl) injOn_id
    ⟨⟨_,rfl,.pure _ hfp⟩,⟨_,rfl,.own 0 (by decide)⟩,⟨_,rfl,.pure _ trivial⟩,⟨_,rfl,.pure _ (conP_pure c)⟩,⟨_,rfl,.pure _ (cons_pureP cs)⟩,⟨_,rfl,.pure _ trivial⟩,⟨_,rfl,.pure _ trivial⟩,⟨_,rfl,.pure _ (nums_pure _)⟩,⟨_,by rw [← hvn2]; rfl,.pure _ trivial⟩,⟨_,rfl,.pure _ trivial⟩,trivial⟩
    ⟨⟨by decide,_,rfl,by rw [List.take_zero,List.map_nil,List.append_nil]; exact .same _ (prs_pure _)⟩,trivial⟩ ?_
   intro j hj
   have hjnc : IntKind.i64.wrap ((j : Int) + 1) = ((j + 1 : Nat) : Int) := IntWalk.i64_in _ ⟨by omega,by omega⟩
   (repeat'(first|refine at_dst 22 ?_|refine at_dstD 22 ?_|refine st ?_|(apply B<;>intro hb<;>try cases hb)))<;>try refine At.mk ?_
   refine opsK_bool rfl rfl rfl (fun hb=>?_) (fun hb=>?_)
   · have hjl : j < vl.length := by have := of_decide_eq_true hb; omega
     have htk := take_snocG hjl
     clear hb
     (repeat'(first|refine at_dst 23 ?_|refine at_dstD 23 ?_|refine st ?_|(apply B<;>intro hb<;>try cases hb)))<;>try refine At.mk ?_
     refine opsK_of (E_iaddr (xs := vl) (g := fun r => [.val (.int .i64 ((r : Nat) : Int))]) (by
      show some (PV.vec (nums (intsN vl)) f1) = _
      rw [nums,intsN,List.map_map]; rfl) rfl j rfl hjl rfl) rfl rfl ?_
     generalize vl[j] = q at htk ⊢
     have happ : pre ++ (vl.take j).map (fun u => (i,u)) ++ [(i,q)] = pre ++ (vl.take (j + 1)).map (fun u => (i,u)) := by rw [htk,List.map_append,List.append_assoc]; rfl
     (repeat'(first|refine at_dst 30 ?_|refine at_dstD 30 ?_|refine st ?_|(apply B<;>intro hb<;>try cases hb)))<;>try refine At.mk ?_
     refine opsK_new (E_append (k := 0) (m := [prC (i,q)]) (fl := true) (b := ⟨2,(pre ++ (vl.take j).map (fun u => (i,u))).map prC⟩) rfl rfl rfl (fun r hr=>by rw [List.mem_singleton] at hr; subst hr; rfl) rfl (by
      show (((pre ++ (vl.take j).map (fun u => (i,u))).map prC).length + 1) * 16≤_
      rw [prs_len,List.length_append,List.length_map,List.length_take];omega)) rfl rfl ?_
     simp only
     rw [put1,happ]
     (refine go ?_;repeat' (apply B<;>intro hb<;>try cases hb))
     exact ⟨j + 1,mv 0 1,hjl,by omega,fun j hj => absurd hj (Nat.not_lt_zero _),injOn_of rfl,
      ⟨⟨_,rfl,.pure _ hfp⟩,⟨_,rfl,.own 0 (by decide)⟩,⟨_,rfl,.pure _ trivial⟩,⟨_,rfl,.pure _ (conP_pure c)⟩,⟨_,rfl,.pure _ (cons_pureP cs)⟩,⟨_,rfl,.pure _ trivial⟩,⟨_,rfl,.pure _ trivial⟩,⟨_,rfl,.pure _ (nums_pure _)⟩,⟨_,rfl,.pure _ trivial⟩,⟨_,by show some _ = some _; rw [hjnc],.pure _ trivial⟩,trivial⟩,⟨⟨by decide,_,rfl,.same _ (prs_pure _)⟩,trivial⟩⟩
   · have hjl : j = vl.length := by have := of_decide_eq_false hb; omega
     subst hjl
     rw [List.take_length]
     clear hb
     by_cases hk3 : c.kind = 3
     case neg =>
      have d3 : (((c.kind : Nat) : Int) == (3 : Int)) = false := by simp; omega
      have hsu : segU c (vf c) ms = false := by unfold segU; rw [decide_eq_false hk3]; rfl
      rw [hsu,if_neg (by decide),List.append_nil] at hseg
      rw [hseg] at hst
      rw [← hst]
      (repeat'(first|refine at_dst 34 ?_|refine at_dstD 34 ?_|refine st ?_|(apply B<;>intro hb<;>try cases hb)))<;>try refine At.mk ?_
      refine dK_of (E_boolEq rfl d3) rfl rfl ?_
      (refine go ?_;repeat' (apply B<;>intro hb<;>try cases hb))
      exact ⟨i + 1,fun i => i,hil,by omega,fun _ _ => rfl,injOn_id,⟨⟨_,rfl,.pure _ hfp⟩,⟨_,rfl,.own 0 (by decide)⟩,⟨_,rfl,.pure _ (cons_pureP cs)⟩,⟨_,rfl,.pure _ trivial⟩,⟨_,by show some _ = some _; rw [hinc],.pure _ trivial⟩,trivial⟩,⟨⟨by decide,_,rfl,.same _ (prs_pure _)⟩,trivial⟩⟩
     have d3 : (((c.kind : Nat) : Int) == (3 : Int)) = true := by simp; omega
     (repeat'(first|refine at_dst 34 ?_|refine at_dstD 34 ?_|refine st ?_|(apply B<;>intro hb<;>try cases hb)))<;>try refine At.mk ?_
     refine dK_of (E_boolEq rfl d3) rfl rfl ?_
     (repeat'(first|refine at_dst 37 ?_|refine at_dstD 37 ?_|refine st ?_|(apply B<;>intro hb<;>try cases hb)))<;>try refine At.mk ?_
     refine dK_on rfl ?_
     refine dK_eq (checkCP_spec hco) rfl rfl rfl ⟨conP_pure c,trivial⟩ ?_
     by_cases h0 : okC c (vf c) = 0
     case neg =>
      have d4 : (okC c (vf c) == 0) = false := by simp; exact h0
      have hsu : segU c (vf c) ms = false := by unfold segU; rw [decide_eq_false h0,Bool.and_false]; rfl
      rw [hsu,if_neg (by decide),List.append_nil] at hseg
      rw [hseg] at hst
      rw [← hst]
      (repeat'(first|refine at_dst 38 ?_|refine at_dstD 38 ?_|refine st ?_|(apply B<;>intro hb<;>try cases hb)))<;>try refine At.mk ?_
      refine dK_on rfl ?_
      refine dK_of (E_boolEq rfl d4) rfl rfl ?_
      (refine go ?_;repeat' (apply B<;>intro hb<;>try cases hb))
      exact ⟨i + 1,fun i => i,hil,by omega,fun _ _ => rfl,injOn_id,⟨⟨_,rfl,.pure _ hfp⟩,⟨_,rfl,.own 0 (by decide)⟩,⟨_,rfl,.pure _ (cons_pureP cs)⟩,⟨_,rfl,.pure _ trivial⟩,⟨_,by show some _ = some _; rw [hinc],.pure _ trivial⟩,trivial⟩,⟨⟨by decide,_,rfl,.same _ (prs_pure _)⟩,trivial⟩⟩
     have d4 : (okC c (vf c) == 0) = true := by simp; exact h0
     (repeat'(first|refine at_dst 38 ?_|refine at_dstD 38 ?_|refine st ?_|(apply B<;>intro hb<;>try cases hb)))<;>try refine At.mk ?_
     refine dK_on rfl ?_
     refine dK_of (E_boolEq rfl d4) rfl rfl ?_
     cases hB : holdsB c.f 0 ms
     · have hsu : segU c (vf c) ms = true := by unfold segU; rw [decide_eq_true hk3, decide_eq_true h0, hB]; rfl
       rw [hsu,if_pos rfl] at hseg
       rw [hseg,← List.append_assoc] at hst
       have hh := holds_spec 0 ms false c.f (by omega) (by omega)
       rw [show (decide (typeOfE c.f = 0) && decide (typeOfT c.f = 1) && decide (evM 0 ms c.f = 1)) = holdsB c.f 0 ms from rfl,setN_zero,hB] at hh
       (repeat'(first|refine at_dst 45 ?_|refine at_dstD 45 ?_|refine st ?_|(apply B<;>intro hb<;>try cases hb)))<;>try refine At.mk ?_
       refine dK_on rfl ?_
       refine dK_eq hCt rfl rfl rfl ⟨hfp,trivial⟩ ?_
       (repeat'(first|refine at_dst 46 ?_|refine at_dstD 46 ?_|refine st ?_|(apply B<;>intro hb<;>try cases hb)))<;>try refine At.mk ?_
       refine dK_on rfl ?_
       refine dK_call rfl rfl (.inr (by show _ = [PV.agg (lowL (fC .u8 c.f)),.agg [.vec [] false],.vec (lowLL (nums ms)) false]; rw [fC_lowC,lowLL_nums])) hh ⟨fC_pure _ _,⟨trivial,trivial⟩,nums_pure _,trivial⟩ ?_
       rintro r rfl
       (repeat'(first|refine at_dst 53 ?_|refine at_dstD 53 ?_|refine st ?_|(apply B<;>intro hb<;>try cases hb)))<;>try refine At.mk ?_
       refine opsK_new (E_append (k := 0) (m := [prC (i,0)]) (fl := true) (b := ⟨2,(pre ++ vl.map (fun u => (i,u))).map prC⟩) rfl rfl rfl (fun r hr=>by rw [List.mem_singleton] at hr; subst hr; rfl) rfl (by
        show (((pre ++ vl.map (fun u => (i,u))).map prC).length + 1) * 16≤_
        rw [prs_len,List.length_append,List.length_map];omega)) rfl rfl ?_
       simp only
       rw [put1,← hst]
       (refine go ?_;repeat' (apply B<;>intro hb<;>try cases hb))
       exact ⟨i + 1,mv 0 18,hil,by omega,fun j hj => absurd hj (Nat.not_lt_zero _),injOn_of rfl,⟨⟨_,rfl,.pure _ hfp⟩,⟨_,rfl,.own 0 (by decide)⟩,⟨_,rfl,.pure _ (cons_pureP cs)⟩,⟨_,rfl,.pure _ trivial⟩,⟨_,by show some _ = some _; rw [hinc],.pure _ trivial⟩,trivial⟩,⟨⟨by decide,_,rfl,.same _ (prs_pure _)⟩,trivial⟩⟩
     · have hsu : segU c (vf c) ms = false := by unfold segU; rw [hB, Bool.not_true, Bool.and_false]
       rw [hsu,if_neg (by decide),List.append_nil] at hseg
       rw [hseg] at hst
       rw [← hst]
       have hh := holds_spec 0 ms false c.f (by omega) (by omega)
       rw [show (decide (typeOfE c.f = 0) && decide (typeOfT c.f = 1) && decide (evM 0 ms c.f = 1)) = holdsB c.f 0 ms from rfl,setN_zero,hB] at hh
       (repeat'(first|refine at_dst 45 ?_|refine at_dstD 45 ?_|refine st ?_|(apply B<;>intro hb<;>try cases hb)))<;>try refine At.mk ?_
       refine dK_on rfl ?_
       refine dK_eq hCt rfl rfl rfl ⟨hfp,trivial⟩ ?_
       (repeat'(first|refine at_dst 46 ?_|refine at_dstD 46 ?_|refine st ?_|(apply B<;>intro hb<;>try cases hb)))<;>try refine At.mk ?_
       refine dK_on rfl ?_
       refine dK_call rfl rfl (.inr (by show _ = [PV.agg (lowL (fC .u8 c.f)),.agg [.vec [] false],.vec (lowLL (nums ms)) false]; rw [fC_lowC,lowLL_nums])) hh ⟨fC_pure _ _,⟨trivial,trivial⟩,nums_pure _,trivial⟩ ?_
       rintro r rfl
       (refine go ?_;repeat' (apply B<;>intro hb<;>try cases hb))
       exact ⟨i + 1,fun i => i,hil,by omega,fun _ _ => rfl,injOn_id,⟨⟨_,rfl,.pure _ hfp⟩,⟨_,rfl,.own 0 (by decide)⟩,⟨_,rfl,.pure _ (cons_pureP cs)⟩,⟨_,rfl,.pure _ trivial⟩,⟨_,by show some _ = some _; rw [hinc],.pure _ trivial⟩,trivial⟩,⟨⟨by decide,_,rfl,.same _ (prs_pure _)⟩,trivial⟩⟩
 · have hil : i = cs.length := by have := of_decide_eq_false hb; omega
   subst hil
   clear hb
   (refine go ?_;repeat' (apply B<;>intro hb<;>try cases hb))
   exact ⟨_,_,rfl,.inl rfl,_,rfl,rfl⟩
theorem violatedP_spec (a b : PV) (ha : a.pure) (hb0 : b.pure) (n d : Nat) (hn : n≤256) (M : Nat→Nat) (ms : List Int) (hS : ∀ u : Nat,Spec Tryz.prog 9 [.agg (factP a b n d),.val (.int .i64 (u : Int))] (· = setN (M u))) (hCt : Spec Tryz.prog 22 [.agg (factP a b n d)] (· = .vec (nums ms) false))
 (vf : Con→Bool) (cs : List Con) (fl : Bool) (hok : ∀ c∈cs,ConOk c (vf c)) (hlen : cs.length≤100) :
 Spec Tryz.prog 24 [.vec (cs.map conP) fl,.agg (factP a b n d)] (· = .vec ((vaTo vf M n ms cs cs.length).map prC) false) :=
 (violatedP_own a b ha hb0 n d hn M ms hS hCt vf cs fl hok hlen).spec (prs_pure _) (fun _ => .own) (prs_pure _)
end Go.Proofs.YtcoehdmpjflmlaaGreatDoor

namespace Go.Proofs.YtcoehdmpjflmlaaGreatDoor
open Go.RowKit
set_option linter.unusedVariables false
attribute [local irreducible] aw opsK dK

theorem eqPr {p q : Pr} : ((((p.1 : Int) == (q.1 : Int)) && (((p.2 : Int) == (q.2 : Int)) && true))) = decide (p = q) := by
 rw [Bool.and_true,Bool.eq_iff_iff,Bool.and_eq_true,beq_iff_eq,beq_iff_eq,Int.ofNat_inj,Int.ofNat_inj,decide_eq_true_iff]
 exact ⟨fun h => Prod.ext h.1 h.2,fun h=>by rw [h]; exact ⟨rfl,rfl⟩⟩
def newM (cs : List Con) (old : List Pr) (l : List Pr) : List Pr := l.filter fun v => (match cs[v.1]? with | some c => c.en | none => false) && !decide (v∈old)
theorem vaTo_lt (vf : Con→Bool) (M : Nat→Nat) (n : Nat) (ms : List Int) (cs : List Con) : ∀ i,i≤cs.length→∀ v∈vaTo vf M n ms cs i,v.1 < i
 | 0,_,v,hv=>by cases hv
 | i + 1, hi, v, hv => by
   rw [vaTo] at hv
   rcases List.mem_append.1 hv with hv | hv
   · have := vaTo_lt vf M n ms cs i (by omega) v hv; omega
   · cases hc : cs[i]? with
     | none => rw [hc] at hv; cases hv
     | some c =>
       rw [hc] at hv
       have : v.1 = i := by
        unfold segV at hv
        rcases List.mem_append.1 hv with hv | hv
        · obtain ⟨u,_,rfl⟩ := List.mem_map.1 hv; rfl
        · split at hv
          · rw [List.mem_singleton] at hv; rw [hv]
          · cases hv
       omega
end Go.Proofs.YtcoehdmpjflmlaaGreatDoor

namespace Go.Proofs.YtcoehdmpjflmlaaGreatDoor
open Go.RowKit
set_option linter.unusedVariables false
attribute [local irreducible] aw opsK dK

theorem idxI_take {α : Type} {p : α→Bool} : ∀ {xs : List α} {i : Nat},idxI p xs = (i : Int)→(xs.take i).any p = false
 | [],i,h=>by simp
 | x :: xs, i, h => by
   unfold idxI at h
   split at h
   · have : i = 0 := by omega
     subst this; rfl
   · rename_i hx
     split at h
     · omega
     · cases i with
       | zero => rfl
       | succ i =>
         have := idxI_take (p := p) (xs := xs) (i := i) (by omega)
         rw [List.take_succ_cons,List.any_cons,this]
         simpa using hx
set_option maxHeartbeats 2000000 in
theorem indexF_spec (l : List Pr) (f : Bool) (g : Nat) (caps : List PV) (hcp : pureL caps) (p : Pr→Bool) (hg : ∀ v∈l,Spec Tryz.prog g (.agg (prC v) :: caps) (· = .val (.bool (p v)))) (hlen : l.length≤1000000) : Spec Tryz.prog 84 [.vec (l.map prC) f,.fn g caps] (· = .val (.int .i64 (idxI p l))) := by
 have hnl := prs_len l
 have hpl : ∀ D,innLL D (l.map prC) := fun D => innLL_mono (fun _ h => h.elim) _ (prs_pure l)
 have hci : ∀ D,innL D caps := fun D => innL_mono (fun _ h => h.elim) _ hcp
 refine spec_intro ok84 (Nat.le_of_ble_eq_true rfl) fun C hC => ?_
 (refine go ?_;repeat' (apply B<;>intro hb<;>try cases hb))
 refine aw_loopH hC (fun i => i≤l.length∧(l.take i).any p = false) (fun i => l.length - i) 0 (fun i => [(0,.vec (l.map prC) f),(1,.fn g caps),(7,.val (.int .i64 l.length)),(8,.val (.int .i64 (i : Int)))]) (fun _=>[]) (Nat.zero_le _) 0 ⟨Nat.zero_le _,rfl⟩
  ⟨⟨rfl,hpl _⟩,⟨rfl,hci _⟩,⟨by rw [← hnl]; rfl,trivial⟩,⟨rfl,trivial⟩,trivial⟩ trivial ?_
 rintro i ⟨hi,hno⟩
 have hinc : IntKind.i64.wrap ((i : Int) + 1) = ((i + 1 : Nat) : Int) := IntWalk.i64_in _ ⟨by omega,by omega⟩
 (repeat'(first|refine at_dst 9 ?_|refine at_dstD 9 ?_|refine st ?_|(apply B<;>intro hb<;>try cases hb)))<;>try refine At.mk ?_
 refine opsK_bool rfl rfl rfl (fun hb=>?_) (fun hb=>?_)
 · have hil : i < l.length := by have := of_decide_eq_true hb; omega
   have hgv := hg _ (List.getElem_mem hil)
   have hat : p l[i] = true→idxI p l = (i : Int) := fun h => idxI_at hil hno h
   have hnx : p l[i] = false→(l.take (i + 1)).any p = false := fun h => any_take hil hno h
   clear hb
   (repeat'(first|refine at_dst 14 ?_|refine at_dstD 14 ?_|refine st ?_|(apply B<;>intro hb<;>try cases hb)))<;>try refine At.mk ?_
   refine opsK_of (E_iaddr (xs := l) (g := prC) rfl rfl i rfl hil rfl) rfl rfl ?_
   generalize l[i] = v at hgv hat hnx ⊢
   (repeat'(first|refine at_dst 16 ?_|refine at_dstD 16 ?_|refine st ?_|(apply B<;>intro hb<;>try cases hb)))<;>try refine At.mk ?_
   refine opsK_eq hgv rfl rfl rfl ⟨prC_pure v,hcp⟩ rfl ?_
   cases hpv : p v
   · (refine go ?_;repeat' (apply B<;>intro hb<;>try cases hb))
     exact ⟨i + 1,⟨hil,hnx hpv⟩,by omega,⟨⟨rfl,hpl _⟩,⟨rfl,hci _⟩,⟨rfl,trivial⟩,⟨by show some _ = some _; rw [hinc],trivial⟩,trivial⟩,trivial⟩
   · (refine go ?_;repeat' (apply B<;>intro hb<;>try cases hb))
     exact ret_ok rfl trivial (by rw [hat hpv])
 · have hil : i = l.length := by have := of_decide_eq_false hb; omega
   subst hil
   rw [List.take_length] at hno
   clear hb
   (refine go ?_;repeat' (apply B<;>intro hb<;>try cases hb))
   exact ret_ok rfl trivial (by rw [idxI_none hno]; rfl)
theorem E_clearV {z : List Value} {e : Env} {h : Heap} {n k lo m : Nat} {x : Operand} {b : Bx} (hx : ev e x = some (.view k lo m)) (hb : h k = some b) (hl : lo + m≤b.elems.length) (hz : b.esz = z.length) : dEval (.clear z x) e h n = some (.val (.tuple #[]),h.upd k ⟨b.esz,b.elems.take lo ++ (List.replicate m (zpv z) ++ b.elems.drop (lo + m))⟩) := by
 simp only [dEval,hx,hb]
 rw [if_pos ⟨hl,hz⟩]
theorem E_slcOT {esz n k a : Nat} {e : Env} {h : Heap} {x hi : Operand} {b : Bx} (hx : ev e x = some (.own k)) (hb : h k = some b) (hhi : intAt (ev e hi) = some (a : Int)) (ha : a≤b.elems.length) (hz : b.esz = esz) : dEval (.slc esz x none (some hi) none) e h n = some (.own n,(h.del k).upd n ⟨b.esz,b.elems.take a⟩) := by
 simp only [dEval,hx,hb,bndAt,hhi]
 rw [if_pos ⟨⟨by omega,by omega,by omega⟩,hz⟩]
 simp only [Int.toNat_natCast,Int.toNat_zero,List.drop_zero]
 rfl
structure DelI (p : Pr→Bool) (l : List Pr) (j i : Nat) (cur : List Pr) : Prop where
 len : cur.length = l.length
 ij : i≤j
 jl : j≤l.length
 front : cur.take i = (l.take j).filter fun v => !p v
 rest : cur.drop j = l.drop j
theorem DelI.get {p : Pr→Bool} {l : List Pr} {j i : Nat} {cur : List Pr} (h : DelI p l j i cur) (hj : j < l.length) (hc : j < cur.length) : cur[j] = l[j] := by
 have h1 : (cur.drop j)[0]? = (l.drop j)[0]? := by rw [h.rest]
 rw [List.getElem?_drop,List.getElem?_drop,Nat.add_zero,List.getElem?_eq_getElem hc,List.getElem?_eq_getElem hj] at h1
 exact Option.some.inj h1
theorem drop_succ {α : Type} {a b : List α} {j : Nat} (h : a.drop j = b.drop j) : a.drop (j + 1) = b.drop (j + 1) := by
 rw [← List.drop_drop,← List.drop_drop,h]
theorem DelI.skip {p : Pr→Bool} {l : List Pr} {j i : Nat} {cur : List Pr} (h : DelI p l j i cur) (hj : j < l.length) (hp : p l[j] = true) : DelI p l (j + 1) i cur := by
 refine ⟨h.len,by have := h.ij; omega,hj,?_,drop_succ h.rest⟩
 rw [take_snocG hj,List.filter_append,h.front,List.filter_cons,hp]
 simp
theorem DelI.keep {p : Pr→Bool} {l : List Pr} {j i : Nat} {cur : List Pr} (h : DelI p l j i cur) (hj : j < l.length) (hp : p l[j] = false) : DelI p l (j + 1) (i + 1) (cur.set i l[j]) := by
 have hij := h.ij
 have hic : i < cur.length := by rw [h.len]; omega
 refine ⟨by rw [List.length_set]; exact h.len,by omega,hj,?_,?_⟩
 · rw [take_snocG hj, List.filter_append, ← h.front, List.filter_cons, hp]
   rw [List.take_add_one,List.take_set_of_le (Nat.le_refl _),List.getElem?_set_self hic]
   rfl
 · rw [List.drop_set_of_lt (by omega)]
   exact drop_succ h.rest
theorem DelI.start {p : Pr→Bool} {l : List Pr} {i : Nat} (hi : i < l.length) (h1 : (l.take i).any p = false) (h2 : p l[i] = true) : DelI p l (i + 1) i l := by
 refine ⟨rfl,Nat.le_succ i,hi,?_,rfl⟩
 rw [take_snocG hi,List.filter_append,List.filter_cons,h2]
 have : (l.take i).filter (fun v => !p v) = l.take i := List.filter_eq_self.2 fun a ha => by
  have := List.any_eq_false.1 h1 a ha
  simpa using this
 rw [this]; simp
theorem DelI.all {p : Pr→Bool} {l : List Pr} {i : Nat} {cur : List Pr} (h : DelI p l l.length i cur) : cur.take i = l.filter fun v => !p v := by
 have := h.front
 rwa [List.take_length] at this
end Go.Proofs.YtcoehdmpjflmlaaGreatDoor

namespace Go.Proofs.YtcoehdmpjflmlaaGreatDoor
open Go.RowKit
set_option linter.unusedVariables false
attribute [local irreducible] aw opsK dK

set_option maxRecDepth 100000 in
set_option maxHeartbeats 8000000 in
theorem delF_spec (l : List Pr) (g : Nat) (caps : List PV) (hcp : pureL caps) (p : Pr→Bool) (hg : ∀ v∈l,Spec Tryz.prog g (.agg (prC v) :: caps) (· = .val (.bool (p v)))) (hlen : l.length≤1000000) :
 MSpec Tryz.prog 55 ⟨2,l.map prC⟩ [.fn g caps] .own fun b' => b' = ⟨2,(l.filter fun v => !p v).map prC⟩ := by
 have hci : ∀ D,innL D caps := fun D => innL_mono (fun _ h => h.elim) _ hcp
 have hpl : ∀ D (l : List Pr),innLL D (l.map prC) := fun D l => innLL_mono (fun _ h => h.elim) _ (prs_pure l)
 have hix := indexF_spec l false g caps hcp p hg hlen
 refine mspec_intro ok55 (Nat.le_of_ble_eq_true rfl) fun C hC => ?_
 (repeat'(first|refine at_dst 10 ?_|refine at_dstD 10 ?_|refine st ?_|(apply B<;>intro hb<;>try cases hb)))<;>try refine At.mk ?_
 refine opsK_ro (i := 0) (k := 0) (b := ⟨2,l.map prC⟩) hix rfl rfl rfl rfl rfl (prs_pure l) ⟨prs_pure l,hcp,trivial⟩ ?_
 cases ha : l.any p
 · have hm1 : idxI p l = -1 := idxI_none ha
   have hfl : (l.filter fun v => !p v) = l := List.filter_eq_self.2 fun a ha2 => by
    have := List.any_eq_false.1 ha a ha2
    simpa using this
   rw [hm1,hfl]
   (repeat'(first|refine at_dst 12 ?_|refine at_dstD 12 ?_|refine st ?_|(apply B<;>intro hb<;>try cases hb)))<;>try refine At.mk ?_
   refine opsK_of (E_boolEq (v := true) rfl (by decide)) rfl rfl ?_
   (refine go ?_;repeat' (apply B<;>intro hb<;>try cases hb))
   exact ⟨_,_,rfl,.inl rfl,0,_,rfl,rfl,prs_pure l,rfl⟩
 · obtain ⟨x, hx, hpx⟩ := List.any_eq_true.1 ha
   obtain ⟨i0,hi0,hidx,hat⟩ := idx_first (p := p) (xs := l) ⟨x,hx,hpx⟩
   have hbef := idxI_take hidx
   rw [hidx]
   have dm1 : (((i0 : Nat) : Int) == (-1 : Int)) = false := by rw [beq_eq_false_iff_ne]; omega
   have hi1 : IntKind.i64.wrap ((i0 : Int) + 1) = ((i0 + 1 : Nat) : Int) := IntWalk.i64_in _ ⟨by omega,by omega⟩
   (repeat'(first|refine at_dst 12 ?_|refine at_dstD 12 ?_|refine st ?_|(apply B<;>intro hb<;>try cases hb)))<;>try refine At.mk ?_
   refine opsK_of (E_boolEq rfl dm1) rfl rfl ?_
   (repeat'(first|refine at_dst 15 ?_|refine at_dstD 15 ?_|refine st ?_|(apply B<;>intro hb<;>try cases hb)))<;>try refine At.mk ?_
   refine opsK_int rfl rfl rfl hi1 ?_
   (refine go ?_;repeat' (apply B<;>intro hb<;>try cases hb))
   refine aw_loopH hC (fun (z : Nat × Nat × List Pr) => DelI p l z.1 z.2.1 z.2.2) (fun z => l.length - z.1) 1 (fun z => [(0,.own 0),(1,.fn g caps),(5,.val (.int .i64 (z.2.1 : Int))),(6,.val (.int .i64 (z.1 : Int)))]) (fun z => [(0,⟨2,z.2.2.map prC⟩)]) (Nat.le_refl _) (i0 + 1,i0,l) (DelI.start hi0 hbef hat)
    ⟨⟨rfl,show (0 : Nat) < 1 by decide⟩,⟨rfl,hci _⟩,⟨rfl,trivial⟩,⟨rfl,trivial⟩,trivial⟩ ⟨⟨by decide,rfl,hpl _ _⟩,trivial⟩ ?_
   rintro ⟨j,i,cur⟩ hD
   simp only at hD
   have hjl := hD.jl
   have hij := hD.ij
   have hcl : (cur.map prC).length = l.length := by rw [prs_len]; exact hD.len
   have hjnc : IntKind.i64.wrap ((j : Int) + 1) = ((j + 1 : Nat) : Int) := IntWalk.i64_in _ ⟨by omega,by omega⟩
   have hinc : IntKind.i64.wrap ((i : Int) + 1) = ((i + 1 : Nat) : Int) := IntWalk.i64_in _ ⟨by omega,by omega⟩
   by_cases hj : j < l.length
   · have d1 : decide ((j : Int) < (((⟨2, cur.map prC⟩ : Bx).elems.length : Nat) : Int)) = true := decide_eq_true (by show (j : Int) < (((cur.map prC).length : Nat) : Int); rw [hcl]; omega)
     have hjc : j < (cur.map prC).length := by rw [hcl]; exact hj
     have hic : i < (cur.map prC).length := by rw [hcl]; omega
     have hcj : j < cur.length := by rw [hD.len]; exact hj
     have hgj : (cur.map prC).getD j [] = prC l[j] := by
      rw [← hD.get hj hcj]; simp [List.getD_eq_getElem?_getD,hcj]
     have hgv := hg _ (List.getElem_mem hj)
     have hk := fun h => hD.keep hj h
     have hs := fun h => hD.skip hj h
     have hset : ∀ v : Pr,(cur.map prC).set i (setAt ((cur.map prC).getD i []) 0 (prC v)) = (cur.set i v).map prC := fun v => by
      have h2 : i < cur.length := by rw [hD.len]; omega
      rw [List.map_set]
      have : ((cur.map prC).getD i []) = prC cur[i] := by simp [List.getD_eq_getElem?_getD,h2]
      rw [this]; rfl
     generalize l[j] = v at hgj hgv hk hs
     (repeat'(first|refine at_dst 19 ?_|refine at_dstD 19 ?_|refine st ?_|(apply B<;>intro hb<;>try cases hb)))<;>try refine At.mk ?_
     refine opsK_of (E_boolEq rfl d1) rfl rfl ?_
     (repeat'(first|refine at_dst 24 ?_|refine at_dstD 24 ?_|refine st ?_|(apply B<;>intro hb<;>try cases hb)))<;>try refine At.mk ?_
     refine opsK_of (E_iaddrO (b := ⟨2,cur.map prC⟩) rfl rfl rfl j rfl hjc rfl) rfl rfl ?_
     refine opsK_of (E_load (b := ⟨2,cur.map prC⟩) (p := .agg (prC v)) (i := j) rfl rfl hjc (by show cutAt true 2 0 ((cur.map prC).getD j []) = _; rw [hgj]; rfl)) rfl rfl ?_
     (repeat'(first|refine at_dst 28 ?_|refine at_dstD 28 ?_|refine st ?_|(apply B<;>intro hb<;>try cases hb)))<;>try refine At.mk ?_
     refine opsK_eq hgv rfl rfl rfl ⟨prC_pure v,hcp⟩ rfl ?_
     cases hpv : p v
     · (repeat'(first|refine at_dst 33 ?_|refine at_dstD 33 ?_|refine st ?_|(apply B<;>intro hb<;>try cases hb)))<;>try refine At.mk ?_
       refine opsK_of (E_iaddrO (b := ⟨2,cur.map prC⟩) rfl rfl rfl i rfl hic rfl) rfl rfl ?_
       refine opsK_of (E_store (b := ⟨2,cur.map prC⟩) (i := i) rfl rfl rfl rfl rfl hic (Nat.le_of_ble_eq_true rfl)) rfl rfl ?_
       (refine go ?_;repeat' (apply B<;>intro hb<;>try cases hb))
       exact ⟨(j + 1,i + 1,cur.set i v),hk hpv,by simp only; omega,⟨⟨rfl,show (0 : Nat) < 1 by decide⟩,⟨rfl,hci _⟩,⟨by show some _ = some _; rw [hinc],trivial⟩,⟨by show some _ = some _; rw [hjnc],trivial⟩,trivial⟩,⟨⟨by decide,congrArg (fun t => some (Bx.mk 2 t)) (hset v),hpl _ _⟩,trivial⟩⟩
     · (refine go ?_;repeat' (apply B<;>intro hb<;>try cases hb))
       exact ⟨(j + 1,i,cur),hs hpv,by simp only; omega,⟨⟨rfl,show (0 : Nat) < 1 by decide⟩,⟨rfl,hci _⟩,⟨rfl,trivial⟩,⟨by show some _ = some _; rw [hjnc],trivial⟩,trivial⟩,⟨⟨by decide,rfl,hpl _ _⟩,trivial⟩⟩
   · have hje : j = l.length := by omega
     subst hje
     have d1 : decide (((l.length : Nat) : Int) < (((⟨2,cur.map prC⟩ : Bx).elems.length : Nat) : Int)) = false := decide_eq_false (by show ¬ (((l.length : Nat) : Int) < (((cur.map prC).length : Nat) : Int)); rw [hcl];omega)
     have hfin := hD.all
     have hic : i≤(cur.map prC).length := by rw [hcl]; omega
     (repeat'(first|refine at_dst 19 ?_|refine at_dstD 19 ?_|refine st ?_|(apply B<;>intro hb<;>try cases hb)))<;>try refine At.mk ?_
     refine opsK_of (E_boolEq rfl d1) rfl rfl ?_
     (repeat'(first|refine at_dst 38 ?_|refine at_dstD 38 ?_|refine st ?_|(apply B<;>intro hb<;>try cases hb)))<;>try refine At.mk ?_
     refine opsK_ofAlt (E_slcV (a := i) (b := ⟨2,cur.map prC⟩) rfl rfl rfl hic rfl) rfl rfl ?_
     refine opsK_of (E_clearV (b := ⟨2,cur.map prC⟩) rfl rfl (by show i + ((cur.map prC).length - i)≤(cur.map prC).length;omega) rfl) rfl rfl ?_
     (repeat'(first|refine at_dst 41 ?_|refine at_dstD 41 ?_|refine st ?_|(apply B<;>intro hb<;>try cases hb)))<;>try refine At.mk ?_
     refine opsK_new (E_slcOT (a := i) (k := 0) rfl rfl rfl (by
      show i≤((cur.map prC).take i ++ (List.replicate ((cur.map prC).length - i) _ ++ (cur.map prC).drop (i + ((cur.map prC).length - i)))).length
      rw [List.length_append,List.length_take];omega) rfl) rfl rfl ?_
     have hel : ∀ t : List (List PV),((cur.map prC).take i ++ t).take i = (l.filter fun v => !p v).map prC := fun t => by
      rw [List.take_append_of_le_length (by rw [List.length_take];omega),List.take_take,Nat.min_self,← List.map_take,hfin]
     (refine go ?_;repeat' (apply B<;>intro hb<;>try cases hb))
     exact ⟨_,_,rfl,.inl rfl,1,⟨2,(l.filter fun v => !p v).map prC⟩,rfl,congrArg (fun t => some (Bx.mk 2 t)) (hel _),prs_pure _,rfl⟩
end Go.Proofs.YtcoehdmpjflmlaaGreatDoor

namespace Go.Proofs.YtcoehdmpjflmlaaGreatDoor
open Go.RowKit
set_option linter.unusedVariables false
attribute [local irreducible] aw opsK dK

set_option maxHeartbeats 2000000 in
theorem indexV_spec (l : List Pr) (f : Bool) (p : Pr) (hlen : l.length≤1000000) : Spec Tryz.prog 85 [.vec (l.map prC) f,.agg (prC p)] (· = .val (.int .i64 (idxI (fun q => decide (p = q)) l))) := by
 have hnl := prs_len l
 have hpl : ∀ D,innLL D (l.map prC) := fun D => innLL_mono (fun _ h => h.elim) _ (prs_pure l)
 have hpc : ∀ D,innL D (prC p) := fun D => innL_mono (fun _ h => h.elim) _ (prC_pure p)
 refine spec_intro ok85 (Nat.le_of_ble_eq_true rfl) fun C hC => ?_
 refine aw_seq ?_
 refine aw_region ?_
 refine opsK_ofAlt rfl rfl rfl ?_
 (refine go ?_;repeat' (apply B<;>intro hb<;>try cases hb))
 refine aw_loopH hC (fun i => i≤l.length∧(l.take i).any (fun q => decide (p = q)) = false) (fun i => l.length - i) 0 (fun i => [(0,.vec (l.map prC) f),(3,.cp (prC p)),(7,.val (.int .i64 l.length)),(8,.val (.int .i64 (i : Int)))]) (fun _=>[]) (Nat.zero_le _) 0 ⟨Nat.zero_le _,rfl⟩
  ⟨⟨rfl,hpl _⟩,⟨rfl,hpc _⟩,⟨by rw [← hnl]; rfl,trivial⟩,⟨rfl,trivial⟩,trivial⟩ trivial ?_
 rintro i ⟨hi,hno⟩
 have hinc : IntKind.i64.wrap ((i : Int) + 1) = ((i + 1 : Nat) : Int) := IntWalk.i64_in _ ⟨by omega,by omega⟩
 (repeat'(first|refine at_dst 9 ?_|refine at_dstD 9 ?_|refine st ?_|(apply B<;>intro hb<;>try cases hb)))<;>try refine At.mk ?_
 refine opsK_bool rfl rfl rfl (fun hb=>?_) (fun hb=>?_)
 · have hil : i < l.length := by have := of_decide_eq_true hb; omega
   have hat : decide (p = l[i]) = true→idxI (fun q => decide (p = q)) l = (i : Int) := fun h => idxI_at hil hno h
   have hnx : decide (p = l[i]) = false→(l.take (i + 1)).any (fun q => decide (p = q)) = false := fun h => any_take hil hno h
   clear hb
   (repeat'(first|refine at_dst 14 ?_|refine at_dstD 14 ?_|refine st ?_|(apply B<;>intro hb<;>try cases hb)))<;>try refine At.mk ?_
   refine dK_of (E_iaddr (xs := l) (g := prC) rfl rfl i rfl hil rfl) rfl rfl ?_
   generalize l[i] = q at hat hnx ⊢
   (repeat'(first|refine at_dst 16 ?_|refine at_dstD 16 ?_|refine st ?_|(apply B<;>intro hb<;>try cases hb)))<;>try refine At.mk ?_
   cases h : decide (p = q)
   · refine dK_of (E_boolEq (v := false) rfl (eqPr.trans h)) rfl rfl ?_
     (refine go ?_;repeat' (apply B<;>intro hb<;>try cases hb))
     exact ⟨i + 1,⟨hil,hnx h⟩,by omega,⟨⟨rfl,hpl _⟩,⟨rfl,hpc _⟩,⟨rfl,trivial⟩,⟨by show some _ = some _; rw [hinc],trivial⟩,trivial⟩,trivial⟩
   · refine dK_of (E_boolEq (v := true) rfl (eqPr.trans h)) rfl rfl ?_
     (refine go ?_;repeat' (apply B<;>intro hb<;>try cases hb))
     exact ret_ok rfl trivial (by rw [hat h])
 · have hil : i = l.length := by have := of_decide_eq_false hb; omega
   subst hil
   rw [List.take_length] at hno
   clear hb
   (refine go ?_;repeat' (apply B<;>intro hb<;>try cases hb))
   exact ret_ok rfl trivial (by rw [idxI_none hno]; rfl)
theorem idxI_mem (p : Pr) (l : List Pr) : decide (idxI (fun q => decide (p = q)) l ≥ 0) = decide (p∈l) := by
 by_cases h : p∈l
 · obtain ⟨i, hi, h1, _⟩ := idx_first (p := fun q => decide (p = q)) (xs := l) ⟨p, h, by simp⟩
   rw [h1,decide_eq_true h,decide_eq_true (by omega)]
 · have hn : l.any (fun q => decide (p = q)) = false := List.any_eq_false.2 fun x hx => by
    simp only [decide_eq_true_eq]
    intro e; subst e; exact h hx
   rw [idxI_none hn,decide_eq_false h]; rfl
theorem containsV_spec (l : List Pr) (f : Bool) (p : Pr) (hlen : l.length≤1000000) : Spec Tryz.prog 57 [.vec (l.map prC) f,.agg (prC p)] (· = .val (.bool (decide (p∈l)))) := by
 refine spec_intro ok57 (Nat.le_of_ble_eq_true rfl) fun C hC => ?_
 refine aw_seq ?_
 refine aw_region ?_
 refine opsK_ofAlt rfl rfl rfl ?_
 (repeat'(first|refine at_dst 7 ?_|refine at_dstD 7 ?_|refine st ?_|(apply B<;>intro hb<;>try cases hb)))<;>try refine At.mk ?_
 refine opsK_eq (indexV_spec l f p hlen) rfl rfl rfl ⟨prs_pure l,prC_pure p,trivial⟩ rfl ?_
 (repeat'(first|refine at_dst 8 ?_|refine at_dstD 8 ?_|refine st ?_|(apply B<;>intro hb<;>try cases hb)))<;>try refine At.mk ?_
 refine opsK_boolEq (v := decide (p∈l)) rfl rfl rfl (idxI_mem p l) ?_
 generalize decide (p∈l) = b
 (refine go ?_;repeat' (apply B<;>intro hb<;>try cases hb))
 all_goals exact ret_ok rfl trivial rfl
def delM (cs : List Con) (old : List Pr) (v : Pr) : Bool := !((match cs[v.1]? with | some c => c.en | none => false) && !decide (v∈old))
theorem delM_filter (cs : List Con) (old l : List Pr) : (l.filter fun v => !delM cs old v) = newM cs old l := by
 unfold newM delM
 simp only [Bool.not_not] <;> rfl
theorem delM_spec (cs : List Con) (f1 : Bool) (old : List Pr) (f2 : Bool) (hlen : old.length≤1000000) (v : Pr) (hv : v.1 < cs.length) : Spec Tryz.prog 56 [.agg (prC v),.cp [.vec (cs.map conP) f1],.cp [.vec (old.map prC) f2]] (· = .val (.bool (delM cs old v))) := by
 have hget : cs[v.1]? = some cs[v.1] := List.getElem?_eq_getElem hv
 have hdm : delM cs old v = !(cs[v.1].en && !decide (v∈old)) := by unfold delM; rw [hget]
 rw [hdm]
 refine spec_intro ok56 (Nat.le_of_ble_eq_true rfl) fun C hC => ?_
 refine aw_seq ?_
 refine aw_region ?_
 refine opsK_ofAlt rfl rfl rfl ?_
 (repeat'(first|refine at_dst 8 ?_|refine at_dstD 8 ?_|refine st ?_|(apply B<;>intro hb<;>try cases hb)))<;>try refine At.mk ?_
 refine opsK_of (E_iaddr (xs := cs) (g := conP) rfl rfl v.1 rfl hv rfl) rfl rfl ?_
 generalize cs[v.1] = c
 cases hen : c.en
 · (repeat'(first|refine at_dst 10 ?_|refine at_dstD 10 ?_|refine st ?_|(apply B<;>intro hb<;>try cases hb)))<;>try refine At.mk ?_
   refine opsK_of (E_boolEq rfl hen) rfl rfl ?_
   (refine go ?_;repeat' (apply B<;>intro hb<;>try cases hb))
   exact ret_ok rfl trivial rfl
 · (repeat'(first|refine at_dst 10 ?_|refine at_dstD 10 ?_|refine st ?_|(apply B<;>intro hb<;>try cases hb)))<;>try refine At.mk ?_
   refine opsK_of (E_boolEq rfl hen) rfl rfl ?_
   (repeat'(first|refine at_dst 15 ?_|refine at_dstD 15 ?_|refine st ?_|(apply B<;>intro hb<;>try cases hb)))<;>try refine At.mk ?_
   refine opsK_on rfl ?_
   refine opsK_eq (containsV_spec old f2 v hlen) rfl rfl rfl ⟨prs_pure old,prC_pure v,trivial⟩ rfl ?_
   cases hd : decide (v∈old)
   · (refine go ?_;repeat' (apply B<;>intro hb<;>try cases hb))
     exact ret_ok rfl trivial rfl
   · (refine go ?_;repeat' (apply B<;>intro hb<;>try cases hb))
     exact ret_ok rfl trivial rfl
set_option maxRecDepth 100000 in
set_option maxHeartbeats 4000000 in
theorem newP_spec {l : List Pr} {m : List En} {n d : Nat} (hT : Told l m n d) (S : List Nat) (fb : Bool) {l2 : List Pr} {m2 : List En} {n2 d2 : Nat} (hT2 : Told l2 m2 n2 d2) (S2 : List Nat) (fb2 : Bool)
 (vf : Con→Bool) (cs : List Con) (fl : Bool) (hok : ∀ c∈cs,ConOk c (vf c)) (hlen : cs.length≤100) :
 Spec Tryz.prog 25 [.vec (cs.map conP) fl,.agg (factP (hierP l S) (bookP m fb) n d),.agg (factP (hierP l2 S2) (bookP m2 fb2) n2 d2)] (· = .vec ((newM cs (vaTo vf (fun u => memb l m n d ((u : Nat) : Int)) n (cntAll l m n d) cs cs.length) (vaTo vf (fun u => memb l2 m2 n2 d2 ((u : Nat) : Int)) n2 (cntAll l2 m2 n2 d2) cs cs.length)).map prC) false) := by
 have hn1 := hT.n
 have hn2 := hT2.n
 have h1 := violatedP_spec (hierP l S) (bookP m fb) (hierP_pure l S) (bookP_pure m fb) n d (by omega) (fun u => memb l m n d ((u : Nat) : Int)) (cntAll l m n d) (fun u => memberP_spec hT S fb _) (countsF_spec hT S fb) vf cs fl hok hlen
 have h2 := violatedP_own (hierP l2 S2) (bookP m2 fb2) (hierP_pure l2 S2) (bookP_pure m2 fb2) n2 d2 (by omega) (fun u => memb l2 m2 n2 d2 ((u : Nat) : Int)) (cntAll l2 m2 n2 d2) (fun u => memberP_spec hT2 S2 fb2 _) (countsF_spec hT2 S2 fb2) vf cs fl hok hlen
 have hlt := vaTo_lt vf (fun u => memb l2 m2 n2 d2 ((u : Nat) : Int)) n2 (cntAll l2 m2 n2 d2) cs cs.length (Nat.le_refl _)
 have hol := vaTo_len vf (fun u => memb l m n d ((u : Nat) : Int)) n (cntAll l m n d) cs cs.length
 have hal := vaTo_len vf (fun u => memb l2 m2 n2 d2 ((u : Nat) : Int)) n2 (cntAll l2 m2 n2 d2) cs cs.length
 have hol2 := Nat.le_trans hol (Nat.mul_le_mul hlen (show n + 1≤6 by omega))
 have hal2 := Nat.le_trans hal (Nat.mul_le_mul hlen (show n2 + 1≤6 by omega))
 generalize vaTo vf (fun u => memb l m n d ((u : Nat) : Int)) n (cntAll l m n d) cs cs.length = old at h1 hol2 ⊢
 generalize vaTo vf (fun u => memb l2 m2 n2 d2 ((u : Nat) : Int)) n2 (cntAll l2 m2 n2 d2) cs cs.length = aft at h2 hlt hal2 ⊢
 clear hol hal
 have hf1 : pureL (factP (hierP l S) (bookP m fb) n d) := factP_pure (hierP_pure l S) (bookP_pure m fb) n d
 have hf2 : pureL (factP (hierP l2 S2) (bookP m2 fb2) n2 d2) := factP_pure (hierP_pure l2 S2) (bookP_pure m2 fb2) n2 d2
 have hcaps : pureL [.cp [.vec (cs.map conP) fl],.cp [.vec (old.map prC) false]] := ⟨⟨cons_pureP cs,trivial⟩,⟨prs_pure old,trivial⟩,trivial⟩
 have hdel := delF_spec aft 56 [.cp [.vec (cs.map conP) fl],.cp [.vec (old.map prC) false]] hcaps (delM cs old) (fun v hv => delM_spec cs fl old false (by omega) v (hlt v hv)) (by omega)
 rw [delM_filter] at hdel
 refine spec_intro ok25 (Nat.le_of_ble_eq_true rfl) fun C hC => ?_
 refine aw_seq ?_
 refine aw_region ?_
 refine opsK_ofAlt rfl rfl rfl ?_
 refine opsK_ofAlt rfl rfl rfl ?_
 refine opsK_ofAlt rfl rfl rfl ?_
 (repeat'(first|refine at_dst 10 ?_|refine at_dstD 10 ?_|refine st ?_|(apply B<;>intro hb<;>try cases hb)))<;>try refine At.mk ?_
 refine opsK_eq h1 rfl rfl rfl ⟨cons_pureP cs,hf1,trivial⟩ rfl ?_
 (repeat'(first|refine at_dst 11 ?_|refine at_dstD 11 ?_|refine st ?_|(apply B<;>intro hb<;>try cases hb)))<;>try refine At.mk ?_
 refine opsK_sub (subA_freezeBox (k := 7) (l := [.vec (old.map prC) false]) rfl rfl ⟨prs_pure old,trivial⟩) ?_
 (repeat'(first|refine at_dst 13 ?_|refine at_dstD 13 ?_|refine st ?_|(apply B<;>intro hb<;>try cases hb)))<;>try refine At.mk ?_
 refine opsK_own h2 mk_own (by exact prs_pure aft) rfl rfl ⟨cons_pureP cs,hf2,trivial⟩ ?_
 (repeat'(first|refine at_dst 15 ?_|refine at_dstD 15 ?_|refine st ?_|(apply B<;>intro hb<;>try cases hb)))<;>try refine At.mk ?_
 refine opsK_mv (k := 1) (b := ⟨2,aft.map prC⟩) hdel mk_own rfl rfl rfl rfl (prs_pure aft) ⟨hcaps,trivial⟩ ?_
 rintro b' hb' rfl
 refine opsK_sub (subA_freeze (k := 15) rfl rfl (prs_pure _)) ?_
 (refine go ?_;repeat' (apply B<;>intro hb<;>try cases hb))
 exact ret_ok rfl (prs_pure _) rfl
theorem newM_self (cs : List Con) (l : List Pr) : newM cs l l = [] := by
 unfold newM
 rw [List.filter_eq_nil_iff]
 intro a ha
 rw [decide_eq_true ha]
 simp
end Go.Proofs.YtcoehdmpjflmlaaGreatDoor

namespace Go.Proofs.YtcoehdmpjflmlaaGreatDoor
open Go.RowKit
set_option linter.unusedVariables false
attribute [local irreducible] aw opsK dK

set_option maxHeartbeats 2000000 in
theorem eqV_self (xs : List Pr) (f1 f2 : Bool) : Spec Tryz.prog 23 [.vec (xs.map prC) f1,.vec (xs.map prC) f2] (· = .val (.bool true)) := by
 have hnl := prs_len xs
 have d10 : (!((((xs.map prC).length : Nat) : Int) == (((xs.map prC).length : Nat) : Int))) = false := by simp
 refine spec_intro ok23 (Nat.le_of_ble_eq_true rfl) fun C hC => ?_
 refine aw_len (k := 0) rfl fun hmax => ?_
 have hlm : xs.length≤maxVec := by rw [← hnl]; exact hmax
 have hpi : ∀ D,innLL D (xs.map prC) := fun D => innLL_mono (fun _ h => h.elim) _ (prs_pure xs)
 (repeat'(first|refine at_dst 10 ?_|refine at_dstD 10 ?_|refine st ?_|(apply B<;>intro hb<;>try cases hb)))<;>try refine At.mk ?_
 refine opsK_of (E_boolEq rfl d10) rfl rfl ?_
 (refine go ?_;repeat' (apply B<;>intro hb<;>try cases hb))
 refine aw_loopH hC (fun i => i≤xs.length) (fun i => xs.length - i) 0 (fun i => [(0,.vec (xs.map prC) f1),(1,.vec (xs.map prC) f2),(12,.val (.int .i64 (xs.length : Int))),(13,.val (.int .i64 (i : Int)))]) (fun _=>[]) (Nat.zero_le _) 0 (Nat.zero_le _) ⟨⟨rfl,hpi _⟩,⟨rfl,hpi _⟩,⟨by rw [← hnl]; rfl,trivial⟩,⟨rfl,trivial⟩,trivial⟩ trivial ?_
 intro i hi
 have hinc : IntKind.i64.wrap ((i : Int) + 1) = ((i + 1 : Nat) : Int) := IntWalk.i64_in _ ⟨by omega,by simp only [maxVec] at hlm; omega⟩
 (repeat'(first|refine at_dst 14 ?_|refine at_dstD 14 ?_|refine st ?_|(apply B<;>intro hb<;>try cases hb)))<;>try refine At.mk ?_
 refine opsK_bool rfl rfl rfl (fun hb=>?_) (fun hb=>?_)
 · have hil : i < xs.length := by have := of_decide_eq_true hb; omega
   clear hb
   (repeat'(first|refine at_dst 18 ?_|refine at_dstD 18 ?_|refine st ?_|(apply B<;>intro hb<;>try cases hb)))<;>try refine At.mk ?_
   refine dK_of (E_iaddr (xs := xs) (g := prC) rfl rfl i rfl hil rfl) rfl rfl ?_
   (repeat'(first|refine at_dst 22 ?_|refine at_dstD 22 ?_|refine st ?_|(apply B<;>intro hb<;>try cases hb)))<;>try refine At.mk ?_
   refine dK_of (E_iaddr (xs := xs) (g := prC) rfl rfl i rfl hil rfl) rfl rfl ?_
   (repeat'(first|refine at_dst 24 ?_|refine at_dstD 24 ?_|refine st ?_|(apply B<;>intro hb<;>try cases hb)))<;>try refine At.mk ?_
   have hself : (!(pB xs[i] xs[i])) = false := by rw [(pB_iff _ _).2 rfl]; rfl
   refine dK_of (E_boolEq rfl hself) rfl rfl ?_
   (refine go ?_;repeat' (apply B<;>intro hb<;>try cases hb))
   exact ⟨i + 1,by omega,by omega,⟨⟨rfl,hpi _⟩,⟨rfl,hpi _⟩,⟨rfl,trivial⟩,⟨by show some _ = some _; rw [hinc],trivial⟩,trivial⟩,trivial⟩
 · clear hb
   (refine go ?_;repeat' (apply B<;>intro hb<;>try cases hb))
   exact ret_ok rfl trivial rfl
theorem exp_on (m : List En) (u d : Nat) : onN (expL m d) u d = onN m u d := Nat.eq_of_testBit_eq fun b => by
 rw [Bool.eq_iff_iff,onN_bit,onN_bit]
 unfold onL expL
 rw [List.filter_filter]
 have e : (m.filter fun a => actB u d a && decide (d≤a.t)) = m.filter (actB u d) := by
  refine List.filter_congr fun x _ => ?_
  unfold actB
  by_cases h : d≤30000∧d≤x.t
  · rw [decide_eq_true h.2,Bool.and_true]
  · rw [decide_eq_false h,Bool.and_false,Bool.false_and]
 rw [e]
theorem exp_books {m : List En} (h : BookS m) (d : Nat) : BookS (expL m d) := ⟨List.Pairwise.sublist List.filter_sublist h.asc,Nat.le_trans (expL_len m d) h.len,fun x hx => h.fit x (List.mem_filter.1 hx).1⟩
structure SameJ (l l' : List Pr) : Prop where
 good : GoodL l'
 jun : ∀ r,jun l' r = jun l r
theorem memb_same {l l' : List Pr} (h : SameJ l l') (m : List En) (n d : Nat) (u : Int) : memb l' (expL m d) n d u = memb l m n d u := by
 unfold memb
 rw [exp_on,clo_congr h.jun]
theorem cnt_same {l l' : List Pr} (h : SameJ l l') (m : List En) (n d : Nat) : cntAll l' (expL m d) n d = cntAll l m n d := by
 unfold cntAll cntTo
 simp only [memb_same h]
theorem redL_ne {l : List Pr} (h : redL l≠[]) : ∃ p rest,redL l = p :: rest∧p∈l∧redB l p = true := by
 cases hr : redL l with
 | nil => exact absurd hr h
 | cons p rest =>
   have hp : p∈redL l := by rw [hr]; exact List.mem_cons_self ..
   have := List.mem_filter.1 hp
   exact ⟨p,rest,rfl,this.1,this.2⟩
set_option maxRecDepth 100000 in
set_option maxHeartbeats 8000000 in
theorem meaningDays_law (z : RawF) (items : List ItemX) (fi : Bool) (hz : RawFok z) (hi : ∀ x∈items,ItemOk x) : Spec Tryz.prog 4 [.agg (rawF z),.vec (items.map itC) fi] (· = .val (.bool true)) := by
 refine spec_intro ok4 (Nat.le_of_ble_eq_true rfl) fun C hC => ?_
 refine aw_seq ?_
 refine aw_region ?_
 refine opsK_ofAlt rfl rfl rfl ?_
 (repeat'(first|refine at_dst 13 ?_|refine at_dstD 13 ?_|refine st ?_|(apply B<;>intro hb<;>try cases hb)))<;>try refine At.mk ?_
 refine opsK_eq awake_spec rfl rfl rfl trivial rfl ?_
 (repeat'(first|refine at_dst 17 ?_|refine at_dstD 17 ?_|refine st ?_|(apply B<;>intro hb<;>try cases hb)))<;>try refine At.mk ?_
 refine opsK_spec rfl rfl (makeF_spec z hz) ⟨rawF_pure z,trivial⟩ rfl ?_
 rintro r ⟨l,fl,m,fm,n,d,S,fb,hT,rfl⟩
 have hn := hT.n
 have hml := hT.m.len
 have hfp : pureL (factP (hierP l S) (bookP m fb) n d) := factP_pure (hierP_pure l S) (bookP_pure m fb) n d
 have hfr := factR_pure l fl m fm n d
 have hpc : ∀ D,innL D (factP (hierP l S) (bookP m fb) n d) := fun D => innL_mono (fun _ h => h.elim) _ hfp
 have hgp : ∀ l' S',pureL (factP (hierP l' S') (bookP (expL m d) false) n d) := fun l' S' => factP_pure (hierP_pure l' S') (bookP_pure (expL m d) false) n d
 have hgc : ∀ l' S' D,innL D (factP (hierP l' S') (bookP (expL m d) false) n d) := fun l' S' D => innL_mono (fun _ h => h.elim) _ (hgp l' S')
 (repeat'(first|refine at_dst 7 ?_|refine at_dstD 7 ?_|refine st ?_|(apply B<;>intro hb<;>try cases hb)))<;>try refine At.mk ?_
 refine opsK_sub (subA_freezeBox (k := 5) rfl rfl hfp) ?_
 refine opsK_sub (subA_freezeBox (k := 6) rfl rfl hfr) ?_
 (repeat'(first|refine at_dst 24 ?_|refine at_dstD 24 ?_|refine st ?_|(apply B<;>intro hb<;>try cases hb)))<;>try refine At.mk ?_
 refine opsK_spec rfl rfl (consR_spec items fi hi) ⟨items_pure items,trivial⟩ rfl ?_
 rintro r ⟨cs,hcs,rfl⟩
 have hl5 : cs.length≤5 := by rw [hcs.len]; omega
 have hok : ∀ c∈cs,ConOk c true := hcs.ok
 have hlaw := hcs.law
 have hL := consL_spec cs false hlaw (by omega)
 have hcc : ∀ D,innLL D (cs.map conP) := fun D => innLL_mono (fun _ h => h.elim) _ (cons_pureP cs)
 (repeat'(first|refine at_dst 25 ?_|refine at_dstD 25 ?_|refine st ?_|(apply B<;>intro hb<;>try cases hb)))<;>try refine At.mk ?_
 refine opsK_eq hL rfl rfl rfl ⟨cons_pureR cs,trivial⟩ rfl ?_
 (repeat'(first|refine at_dst 31 ?_|refine at_dstD 31 ?_|refine st ?_|(apply B<;>intro hb<;>try cases hb)))<;>try refine At.mk ?_
 refine opsK_eq (expire_spec m fb d (by omega)) rfl rfl rfl ⟨bookP_pure m fb,trivial,trivial⟩ rfl ?_
 (refine go ?_;repeat' (apply B<;>intro hb<;>try cases hb))
 refine aw_loopH hC (fun (x : List Pr × List Nat) => SameJ l x.1) (fun x => x.1.length) 3 (fun x => [(5,.cp (factP (hierP l S) (bookP m fb) n d)),(8,.vec (cs.map conP) false),(9,.ptr 2 0 0)]) (fun x => [(2,⟨4,[factP (hierP x.1 x.2) (bookP (expL m d) false) n d]⟩)]) (by decide) (l,S) ⟨hT.l,fun _ => rfl⟩
  ⟨⟨rfl,hpc _⟩,⟨rfl,hcc _⟩,⟨rfl,show (2 : Nat) < 3 by decide⟩,trivial⟩ ⟨⟨by decide,rfl,⟨hgc _ _ _,trivial⟩⟩,trivial⟩ ?_
 rintro ⟨l',S'⟩ hJ
 simp only at hJ
 have hg := hJ.good
 (repeat'(first|refine at_dst 35 ?_|refine at_dstD 35 ?_|refine st ?_|(apply B<;>intro hb<;>try cases hb)))<;>try refine At.mk ?_
 refine opsK_eq (redundant_spec l' S' hg) rfl rfl rfl ⟨hierP_pure l' S',trivial⟩ rfl ?_
 by_cases hr : redL l' = []
 · have d38 : ((((redL l').map prC).length : Int) == 0) = true := by rw [hr]; rfl
   have hT2 : Told l' (expL m d) n d := ⟨hg,exp_books hT.m d,hT.n,hT.d⟩
   have hM : (fun u : Nat => memb l' (expL m d) n d ((u : Nat) : Int)) = fun u : Nat => memb l m n d ((u : Nat) : Int) := funext fun u => memb_same hJ m n d _
   have hC2 := countsF_spec hT2 S' false
   rw [cnt_same hJ] at hC2
   have hC1 := countsF_spec hT S fb
   have hceq := eqInts_spec (cntAll l m n d) (cntAll l m n d) false false
   rw [decide_eq_true rfl] at hceq
   have hV1 := violatedP_spec (hierP l S) (bookP m fb) (hierP_pure l S) (bookP_pure m fb) n d (by omega) (fun u => memb l m n d ((u : Nat) : Int)) (cntAll l m n d) (fun u => memberP_spec hT S fb _) hC1 (fun _ => true) cs false hok (by omega)
   have hV2 := violatedP_spec (hierP l' S') (bookP (expL m d) false) (hierP_pure l' S') (bookP_pure (expL m d) false) n d (by omega) (fun u => memb l' (expL m d) n d ((u : Nat) : Int)) (cntAll l m n d) (fun u => memberP_spec hT2 S' false _) hC2 (fun _ => true) cs false hok (by omega)
   rw [hM] at hV2
   have hN := newP_spec hT S fb hT2 S' false (fun _ => true) cs false hok (by omega)
   rw [hM,cnt_same hJ,newM_self] at hN
   generalize vaTo (fun _ => true) (fun u => memb l m n d ((u : Nat) : Int)) n (cntAll l m n d) cs cs.length = w at hV1 hV2
   (repeat'(first|refine at_dst 38 ?_|refine at_dstD 38 ?_|refine st ?_|(apply B<;>intro hb<;>try cases hb)))<;>try refine At.mk ?_
   refine opsK_of (E_boolEq rfl d38) rfl rfl ?_
   (repeat'(first|refine at_dst 68 ?_|refine at_dstD 68 ?_|refine st ?_|(apply B<;>intro hb<;>try cases hb)))<;>try refine At.mk ?_
   refine dK_eq hC1 rfl rfl rfl ⟨hfp,trivial⟩ ?_
   (repeat'(first|refine at_dst 70 ?_|refine at_dstD 70 ?_|refine st ?_|(apply B<;>intro hb<;>try cases hb)))<;>try refine At.mk ?_
   refine dK_eq hC2 rfl rfl rfl ⟨hgp _ _,trivial⟩ ?_
   (repeat'(first|refine at_dst 71 ?_|refine at_dstD 71 ?_|refine st ?_|(apply B<;>intro hb<;>try cases hb)))<;>try refine At.mk ?_
   refine dK_eq hceq rfl rfl rfl ⟨nums_pure _,nums_pure _,trivial⟩ ?_
   (repeat'(first|refine at_dst 75 ?_|refine at_dstD 75 ?_|refine st ?_|(apply B<;>intro hb<;>try cases hb)))<;>try refine At.mk ?_
   refine dK_on rfl ?_
   refine dK_eq hV1 rfl rfl rfl ⟨cons_pureP cs,hfp,trivial⟩ ?_
   (repeat'(first|refine at_dst 78 ?_|refine at_dstD 78 ?_|refine st ?_|(apply B<;>intro hb<;>try cases hb)))<;>try refine At.mk ?_
   refine dK_on rfl ?_
   refine dK_eq hV2 rfl rfl rfl ⟨cons_pureP cs,hgp _ _,trivial⟩ ?_
   (repeat'(first|refine at_dst 79 ?_|refine at_dstD 79 ?_|refine st ?_|(apply B<;>intro hb<;>try cases hb)))<;>try refine At.mk ?_
   refine dK_on rfl ?_
   refine dK_eq (eqV_self w false false) rfl rfl rfl ⟨prs_pure w,prs_pure w,trivial⟩ ?_
   (repeat'(first|refine at_dst 85 ?_|refine at_dstD 85 ?_|refine st ?_|(apply B<;>intro hb<;>try cases hb)))<;>try refine At.mk ?_
   refine dK_on rfl ?_
   refine dK_eq hN rfl rfl rfl ⟨cons_pureP cs,hfp,hgp _ _,trivial⟩ ?_
   (refine go ?_;repeat' (apply B<;>intro hb<;>try cases hb))
   exact ret_ok rfl trivial rfl
 · obtain ⟨p, rest, hre, hp, hrb⟩ := redL_ne hr
   rw [hre]
   have d38 : (((((p :: rest).map prC).length : Nat) : Int) == 0) = false := by simp; omega
   (repeat'(first|refine at_dst 38 ?_|refine at_dstD 38 ?_|refine st ?_|(apply B<;>intro hb<;>try cases hb)))<;>try refine At.mk ?_
   refine opsK_of (E_boolEq rfl d38) rfl rfl ?_
   (repeat'(first|refine at_dst 43 ?_|refine at_dstD 43 ?_|refine st ?_|(apply B<;>intro hb<;>try cases hb)))<;>try refine At.mk ?_
   refine dK_of (E_iaddr (xs := p :: rest) (g := prC) rfl rfl 0 rfl (Nat.succ_pos _) rfl) rfl rfl ?_
   (repeat'(first|refine at_dst 47 ?_|refine at_dstD 47 ?_|refine st ?_|(apply B<;>intro hb<;>try cases hb)))<;>try refine At.mk ?_
   refine dK_of (E_iaddr (xs := p :: rest) (g := prC) rfl rfl 0 rfl (Nat.succ_pos _) rfl) rfl rfl ?_
   (repeat'(first|refine at_dst 50 ?_|refine at_dstD 50 ?_|refine st ?_|(apply B<;>intro hb<;>try cases hb)))<;>try refine At.mk ?_
   refine dK_call rfl rfl (.inl rfl) (unlink_spec l' S' p hg hp) ⟨hierP_pure l' S',trivial,trivial,trivial⟩ ?_
   rintro r ⟨l2,S2,hless,rfl⟩
   have hup := (redB_iff hless).1 hrb
   have hll := goodL_len hg
   have hl2 := hless.len
   have hJ2 : SameJ l l2 := ⟨hless.good,fun r=>by rw [hless.jun hg hup,hJ.jun]⟩
   have d63 : decide ((((l2.map prC).length : Nat) : Int) ≥ (((l'.map prC).length : Nat) : Int)) = false := decide_eq_false (by rw [List.length_map,List.length_map];omega)
   (repeat'(first|refine at_dst 57 ?_|refine at_dstD 57 ?_|refine st ?_|(apply B<;>intro hb<;>try cases hb)))<;>try refine At.mk ?_
   refine dK_on rfl ?_
   refine dK_eq (links_spec l2 S2 (by omega)) rfl rfl rfl ⟨hierP_pure l2 S2,trivial⟩ ?_
   (repeat'(first|refine at_dst 61 ?_|refine at_dstD 61 ?_|refine st ?_|(apply B<;>intro hb<;>try cases hb)))<;>try refine At.mk ?_
   refine dK_on rfl ?_
   refine dK_eq (links_spec l' S' (by omega)) rfl rfl rfl ⟨hierP_pure l' S',trivial⟩ ?_
   (repeat'(first|refine at_dst 63 ?_|refine at_dstD 63 ?_|refine st ?_|(apply B<;>intro hb<;>try cases hb)))<;>try refine At.mk ?_
   refine dK_on rfl ?_
   refine dK_of (E_boolEq rfl d63) rfl rfl ?_
   (refine go ?_;repeat' (apply B<;>intro hb<;>try cases hb))
   exact ⟨(l2,S2),hJ2,by simp only; omega,⟨⟨rfl,hpc _⟩,⟨rfl,hcc _⟩,⟨rfl,show (2 : Nat) < 3 by decide⟩,trivial⟩,⟨⟨by decide,rfl,⟨hgc _ _ _,trivial⟩⟩,trivial⟩⟩
end Go.Proofs.YtcoehdmpjflmlaaGreatDoor

namespace Go.Proofs.YtcoehdmpjflmlaaGreatDoor
open Go.ChangeShapes Go.WideShapes Go.ChangeAt Go.RowKit
set_option linter.unusedVariables false

theorem rows_enc {α : Type} {enc : α→List PV} {Q : α→Prop} : ∀ {ll : List (List PV)},(∀ l∈ll,∃ x,Q x∧l = enc x)→∃ xs : List α,(∀ x∈xs,Q x)∧ll = xs.map enc
 | [],_ => ⟨[],fun _ h => (by cases h),rfl⟩
 | l :: ll, h => by
   obtain ⟨x,h1,rfl⟩ := h l (List.mem_cons_self ..)
   obtain ⟨xs,h2,rfl⟩ := rows_enc fun l hl => h l (List.mem_cons_of_mem _ hl)
   refine ⟨x :: xs,fun y hy => ?_,rfl⟩
   rcases List.mem_cons.1 hy with rfl | hy
   · exact h1
   · exact h2 y hy
theorem shapeVs_two {P : Program} {s t : TypeId} : ∀ {ps : List PV},ShapeVs P [s,t] ps→∃ a b,ps = [a,b]∧ShapeV P s a∧ShapeV P t b
 | [a,b],⟨h1,h2,_⟩ => ⟨a,b,rfl,h1,h2⟩
theorem int_u8 {m : Int} (h : (Lit.int .u8 m).wf = true) : ∃ a : Nat,a < 256∧m = (a : Int) := by
 simp only [Lit.wf,Bool.and_eq_true,decide_eq_true_eq] at h
 obtain ⟨h1,h2⟩ := h
 have h3 : m≤255 := h2
 have h4 : 0≤m := h1
 exact ⟨m.toNat,by omega,by omega⟩
theorem int_u64 {m : Int} (h : (Lit.int .u64 m).wf = true) : ∃ a : Nat,a < 18446744073709551616∧m = (a : Int) := by
 simp only [Lit.wf,Bool.and_eq_true,decide_eq_true_eq] at h
 obtain ⟨h1,h2⟩ := h
 have h3 : m≤18446744073709551615 := h2
 have h4 : 0≤m := h1
 exact ⟨m.toNat,by omega,by omega⟩
theorem u8_shape {n : Nat} {l : List PV} (h : Shape Tryz.prog n 5 l) : ∃ x : Nat,x≤255∧l = [PV.val (.int .u8 (x : Int))] := by
 obtain ⟨m1,w1,e1⟩ := shape_int h (k := .u8) (by kernel_rfl)
 obtain ⟨x,hx,rfl⟩ := int_u8 w1
 exact ⟨x,by omega,e1⟩
theorem raw12_shape {n : Nat} {l : List PV} (h : Shape Tryz.prog n 27 l) : ∃ x : En,True∧l = rawC x := by
 have hl := shape_len h (k := 3) (by kernel_rfl)
 obtain ⟨n1,h1⟩ := shape_field h (i := 0) (off := 0) (ty := 5) (sz := 1) (by kernel_rfl)
 obtain ⟨n2,h2⟩ := shape_field h (i := 1) (off := 1) (ty := 5) (sz := 1) (by kernel_rfl)
 obtain ⟨n3,h3⟩ := shape_field h (i := 2) (off := 2) (ty := 5) (sz := 1) (by kernel_rfl)
 match l,hl with
 | [a, b, c], _ =>
   obtain ⟨m1,w1,e1⟩ := shape_int (show Shape _ n1 _ [a] from h1) (k := .u8) (by kernel_rfl)
   obtain ⟨m2,w2,e2⟩ := shape_int (show Shape _ n2 _ [b] from h2) (k := .u8) (by kernel_rfl)
   obtain ⟨m3,w3,e3⟩ := shape_int (show Shape _ n3 _ [c] from h3) (k := .u8) (by kernel_rfl)
   obtain ⟨x,hx,rfl⟩ := int_u8 w1
   obtain ⟨y,hy,rfl⟩ := int_u8 w2
   obtain ⟨t,ht,rfl⟩ := int_u8 w3
   simp only [List.cons.injEq,and_true] at e1 e2 e3
   subst e1; subst e2; subst e3
   exact ⟨⟨x,y,t⟩,trivial,rfl⟩
theorem rawFV_shape {p : PV} (h : ShapeV Tryz.prog 25 p) : ∃ z : RawF,RawFok z∧p = .agg (rawF z) := by
 obtain ⟨n,l,rfl,h0⟩ := shapeV_struct h (k := 4) (by kernel_rfl)
 clear h
 have h := h0
 have hl := shape_len h (k := 4) (by kernel_rfl)
 obtain ⟨n1,h1⟩ := shape_field h (i := 0) (off := 0) (ty := 22) (sz := 1) (by kernel_rfl)
 obtain ⟨n2,h2⟩ := shape_field h (i := 1) (off := 1) (ty := 23) (sz := 1) (by kernel_rfl)
 obtain ⟨n3,h3⟩ := shape_field h (i := 2) (off := 2) (ty := 5) (sz := 1) (by kernel_rfl)
 obtain ⟨n4,h4⟩ := shape_field h (i := 3) (off := 3) (ty := 5) (sz := 1) (by kernel_rfl)
 match l,hl with
 | [a, b, c, d], _ =>
   obtain ⟨m1,w1,e1⟩ := shape_int (show Shape _ n1 _ [a] from h1) (k := .u64) (by kernel_rfl)
   obtain ⟨n',ll,fl,_,g2,e2⟩ := shape_slice (show Shape _ n2 _ [b] from h2) (e := 27) (by kernel_rfl)
   obtain ⟨xs,_,rfl⟩ := rows_enc (enc := rawC) (Q := fun _ => True) fun l hl => raw12_shape (g2 l hl)
   obtain ⟨m3,w3,e3⟩ := shape_int (show Shape _ n3 _ [c] from h3) (k := .u8) (by kernel_rfl)
   obtain ⟨m4,w4,e4⟩ := shape_int (show Shape _ n4 _ [d] from h4) (k := .u8) (by kernel_rfl)
   obtain ⟨x,hx,rfl⟩ := int_u64 w1
   obtain ⟨y,hy,rfl⟩ := int_u8 w3
   obtain ⟨t,ht,rfl⟩ := int_u8 w4
   simp only [List.cons.injEq,and_true] at e1 e2 e3 e4
   subst e1; subst e2; subst e3; subst e4
   exact ⟨⟨x,xs,fl,y,t⟩,hx,rfl⟩
end Go.Proofs.YtcoehdmpjflmlaaGreatDoor

namespace Go.Proofs.YtcoehdmpjflmlaaGreatDoor
open Go.ChangeShapes Go.WideShapes Go.ChangeAt Go.RowKit
set_option linter.unusedVariables false

theorem item_shape {n : Nat} {l : List PV} (h : Shape Tryz.prog n 111 l) : ∃ x : ItemX,ItemOk x∧l = itC x := by
 have hl := shape_len h (k := 3) (by kernel_rfl)
 obtain ⟨n1,h1⟩ := shape_field h (i := 0) (off := 0) (ty := 4) (sz := 1) (by kernel_rfl)
 obtain ⟨n2,h2⟩ := shape_field h (i := 1) (off := 1) (ty := 5) (sz := 1) (by kernel_rfl)
 obtain ⟨n3,h3⟩ := shape_field h (i := 2) (off := 2) (ty := 109) (sz := 1) (by kernel_rfl)
 match l,hl with
 | [a, b, c], _ =>
   obtain ⟨o,e1⟩ := shape_bool (show Shape _ n1 _ [a] from h1) (by kernel_rfl)
   obtain ⟨m2,w2,e2⟩ := shape_int (show Shape _ n2 _ [b] from h2) (k := .u8) (by kernel_rfl)
   obtain ⟨n',ll,fl,_,g2,e3⟩ := shape_slice (show Shape _ n3 _ [c] from h3) (e := 5) (by kernel_rfl)
   obtain ⟨xs,hx,rfl⟩ := rows_enc (enc := fun (x : Nat) => [PV.val (.int .u8 (x : Int))]) (Q := fun (x : Nat) => x≤255) fun l hl => u8_shape (g2 l hl)
   obtain ⟨y,hy,rfl⟩ := int_u8 w2
   simp only [List.cons.injEq,and_true] at e1 e2 e3
   subst e1; subst e2; subst e3
   exact ⟨⟨o,y,xs,fl⟩,⟨hy,hx⟩,rfl⟩
theorem items_shape {p : PV} (h : ShapeV Tryz.prog 57 p) : ∃ (l : List ItemX) (fl : Bool),(∀ x∈l,ItemOk x)∧p = .vec (l.map itC) fl := by
 obtain ⟨n,ll,fl,_,h2,rfl⟩ := shapeV_slice h (e := 111) (by kernel_rfl)
 obtain ⟨xs,h3,rfl⟩ := rows_enc (enc := itC) (Q := ItemOk) fun l hl => item_shape (h2 l hl)
 exact ⟨xs,fl,h3,rfl⟩
end Go.Proofs.YtcoehdmpjflmlaaGreatDoor

namespace Go.Proofs.YtcoehdmpjflmlaaGreatDoor
open Go.ChangeShapes Go.WideShapes Go.ChangeAt Go.RowKit
set_option linter.unusedVariables false

theorem meaningDays_spec : ∀ ps,ShapeVs Tryz.prog Tryz.f4.params.toList ps→pureL ps→Spec Tryz.prog 4 ps (· = .val (.bool true)) := by
 intro ps hs hp
 rw [show Tryz.f4.params.toList = [25,57] by kernel_rfl] at hs
 obtain ⟨a,b,rfl,k0,k1⟩ := shapeVs_two hs
 obtain ⟨x0,h0,rfl⟩ := rawFV_shape k0
 obtain ⟨x1,f1,h1,rfl⟩ := items_shape k1
 exact meaningDays_law x0 x1 f1 h0 h1

set_option maxRecDepth 100000 in
theorem meaningDays_lifted (os : Os) (started : os.Started) (H : Type) (enc : TypeId × Value→H) :
 ReturnsInHanded {} Tryz.checked os 4 .any (fun w args => (Rows.meaningDaysSpec.pre enc Tryz.prog Tryz.f4 [] false w args∧laidMetH Tryz.prog laidV w)∧sizedMet enc Tryz.prog Tryz.f4 (OpenSpec.ofChange Rows.meaningDaysSpec) false w args)
  (Rows.meaningDaysSpec.post enc Tryz.prog Tryz.f4 false true false false) := by
 refine returnsInHanded_of_change_and (C := Tryz.checked) (X := fun w _ => laidMetH Tryz.prog laidV w) (fun _ _ _ hh h => h.of_heap hh) own started (by kernel_rfl) Tryz.func4
  (ChangeSpec.witness_shaped (enc := enc) (C := Tryz.checked) (os := os) (X := fun w _ => laidMetH Tryz.prog laidV w) false (World.doorLaid Tryz.prog 400 os) #[.agg #[.int .u64 0,.slice none 0 0,.int .u8 0,.int .u8 0],.slice none 0 0] 8 rfl (World.shaped_of_RefB (by kernel_rfl) (by kernel_rfl)) (by kernel_rfl) (by kernel_rfl) (by kernel_rfl) (door_met os _)) ?_
 intro W base args ds gs before hval hW _ hwt hL _
 exact law_contract (P := Tryz.prog) (G := partsG Tryz.prog Tryz.f4.params.toList) (by kernel_rfl) (inG_of (by kernel_rfl)) laidOut (parsOk_of (by kernel_rfl)) (tb := 4) (by kernel_rfl) (by kernel_rfl) rfl (fun ds hd => by
  match ds,hd with
  | [a,b],_ => exact ⟨rfl,rfl,rfl⟩) meaningDays_spec W (globs_in hL) base args ds gs before hval hW hwt

theorem meaningDays_holds : Rows.MeaningDaysSaid :=
 OpenClaim.holds_of_wide 4 Tryz.f4 rfl rfl rfl rfl rfl rfl rfl ⟨rfl,rfl,rfl,rfl,rfl⟩ rfl rfl rfl rfl rfl (by kernel_rfl) Tryz.func4 (by kernel_rfl)
  (of_decide_eq_true (by kernel_rfl)) (by unfold Func.isWrapper; first | (rw [if_pos (by decide +kernel)]; kernel_rfl) | (rw [if_neg (by decide +kernel)]; exact ⟨rfl,rfl⟩))
  (fun os started H enc _ => meaningDays_lifted os started H enc)

theorem meaningDays_card : Rows.MeaningDaysCardSaid :=
 Claim7.holds_tied_plain_at .later [] [.data] true (true, "6a592bd7f23a4f5349bd036d76b1275ed2707ce5de6cb214f1d1fcbee7ea5219") false
  meaningDays_holds (fun _ h=>by cases h) (by kernel_rfl) (fun _ h=>by cases h) meaningDays_row_tie rfl ⟨rfl,rfl⟩ (by kernel_rfl) rfl
  (fun f fn hf hfn => by
    obtain rfl : f = 4 := Option.some.inj ((show Tryz.prog.funcNamed "arbac/arbaclaw20.MeaningDays" = some 4 by kernel_rfl).symm.trans hf) |>.symm
    obtain rfl : fn = Tryz.f4 := (Option.some.inj (Tryz.func4.symm.trans hfn)).symm
    exact ⟨by kernel_rfl,fun j t ht => by
     rw [show Tryz.f4.params = #[25,57] by kernel_rfl] at ht
     have hm : t∈[25,57] := by simpa using Array.mem_of_getElem? ht
     have hall : ([25,57].all fun u => !Tryz.prog.wantsStandIn u) = true := by kernel_rfl
     exact (show Tryz.prog.wantsStandIn t = false by simpa using List.all_eq_true.1 hall t hm)⟩)
  (by kernel_rfl)
#print axioms meaningDays_card
end Go.Proofs.YtcoehdmpjflmlaaGreatDoor
