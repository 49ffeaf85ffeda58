/-
 Proved: for every input the law MeaningAssigns returns true,never panics,and leaves its arguments as0 they were,on the given card's conditions (the table of the bits package reads as0 the program's text lays it,and is tied to it).
-/
import Derived.SevenTiedAt
import Derived.Test.YtcoehdmpjflmlaaGreatDoorCards
import Derived.Test.YtcoehdmpjflmlaaGreatDoorTie
import Derived.Test.YtcoehdmpjflmlaaGreatDoorMq4
set_option linter.unusedSimpArgs false
set_option linter.unusedVariables false
set_option linter.unusedSectionVars false

namespace Go.Proofs.YtcoehdmpjflmlaaGreatDoor
open Go.RowKit
set_option linter.unusedVariables false
attribute [local irreducible] aw opsK dK

def bookP (m : List En) (f : Bool) : PV := .cp [.vec (m.map enC) f]
theorem bookP_pure (m : List En) (f : Bool) : (bookP m f).pure := ⟨ens_pure m,trivial⟩
theorem bookNew_spec : Spec Tryz.prog 32 [] (· = bookP [] true) := by
 refine spec_intro ok32 (Nat.le_of_ble_eq_true rfl) fun C hC => ?_
 (repeat'(first|refine at_dst 2 ?_|refine at_dstD 2 ?_|refine st ?_|(apply B<;>intro hb<;>try cases hb)))<;>try refine At.mk ?_
 refine opsK_ofAlt rfl rfl rfl ?_
 (refine go ?_;repeat' (apply B<;>intro hb<;>try cases hb))
 exact ret_ok rfl (bookP_pure [] true) rfl
set_option maxHeartbeats 1000000 in
theorem activeP_spec (a : En) (d : Int) : Spec Tryz.prog 72 [.agg (enC a),.val (.int .i64 d)] (· = .val (.bool (decide (0≤d∧d≤30000∧d≤a.t)))) := by
 refine spec_intro ok72 (Nat.le_of_ble_eq_true rfl) fun C hC => ?_
 refine aw_seq ?_
 refine aw_region ?_
 refine opsK_ofAlt rfl rfl rfl ?_
 (refine go ?_;repeat' (apply B<;>intro hb<;>try cases hb))
 all_goals
  simp only [decide_eq_true_eq,decide_eq_false_iff_not] at *
  first
   | exact ret_ok rfl trivial (by rw [decide_eq_true (show 0≤d∧d≤30000∧d≤a.t by omega)])
   | exact ret_ok rfl trivial (by rw [decide_eq_false (show ¬ (0≤d∧d≤30000∧d≤a.t) by omega)])
theorem withP_spec (N : Nat) (hN : N < 18446744073709551616) (i : Nat) (hi : i < 64) : Spec Tryz.prog 42 [setN N,.val (.int .i64 (i : Int))] (· = setN (N ||| 2 ^ i)) := by
 have h2 := with_spec N (Nat.le_trans (digs_short hN) (by decide)) (i : Int)
 rw [withN,if_pos ⟨by omega,by omega⟩,Int.toNat_natCast] at h2
 exact h2
set_option maxHeartbeats 4000000 in
theorem onP_spec (m : List En) (hm : ∀ x∈m,EnOk x) (f : Bool) (u d : Nat) (hlen : m.length≤100000) : Spec Tryz.prog 38 [bookP m f,.val (.int .i64 (u : Int)),.val (.int .i64 (d : Int))] (· = setN (onN m u d)) := by
 have hnl := ens_len m
 refine spec_intro ok38 (Nat.le_of_ble_eq_true rfl) fun C hC => ?_
 (refine go ?_;repeat' (apply B<;>intro hb<;>try cases hb))
 have hz : (⟨1,[[.vec [] true]]⟩ : Bx).elems = [[.vec [] true]] := rfl
 refine aw_loopR hC (fun i => i≤m.length) (fun i => m.length - i) 2 (fun i => [(1,.val (.int .i64 (u : Int))),(2,.val (.int .i64 (d : Int))),(6,.ptr 0 0 0),(7,.ptr 1 0 0),(16,.vec (m.map enC) f),(17,.val (.int .i64 m.length)),(18,.val (.int .i64 (i : Int)))])
  (fun i => [(0,⟨1,[[.vec [] true]]⟩),(1,⟨1,[[.vec (words (digs (onN (m.take i) u d))) false]]⟩)]) (by omega) 0 (Nat.zero_le _) (fun i=>i) (fun _ _=>rfl) injOn_id
  ⟨⟨_,rfl,.pure _ trivial⟩,⟨_,rfl,.pure _ trivial⟩,⟨_,rfl,.ptr (ρ := fun i => i) 0 0 0 (by decide)⟩,⟨_,rfl,.ptr (ρ := fun i => i) 1 0 0 (by decide)⟩,⟨_,rfl,.pure _ (ens_pure m)⟩,⟨_,by rw [← hnl]; rfl,.pure _ trivial⟩,⟨_,rfl,.pure _ trivial⟩,trivial⟩
  ⟨⟨by decide,_,rfl,.same _ ⟨⟨trivial,trivial⟩,trivial⟩⟩,⟨by decide,⟨1,[[.vec [] true]]⟩,rfl,by rw [show onN (m.take 0) u d = 0 from rfl,digs_zero]; exact RenB.single (ρ := fun i => i) (l0 := [.vec [] true]) (l := [.vec [] false]) (show RenLs _ _ [_] [_] from ⟨.low (.vec [] true) trivial,trivial⟩) rfl⟩,trivial⟩ ?_
 intro i hi
 have hinc : IntKind.i64.wrap ((i : Int) + 1) = ((i + 1 : Nat) : Int) := IntWalk.i64_in _ ⟨by omega,by omega⟩
 have hfin : ∀ (i j : Nat) (e : Env) (h : Heap),True := fun _ _ _ _ => trivial
 clear hfin
 (repeat'(first|refine at_dst 19 ?_|refine at_dstD 19 ?_|refine st ?_|(apply B<;>intro hb<;>try cases hb)))<;>try refine At.mk ?_
 refine opsK_bool rfl rfl rfl (fun hb=>?_) (fun hb=>?_)
 · have hil : i < m.length := by have := of_decide_eq_true hb; omega
   have htk := take_snocG hil
   have hp := hm _ (List.getElem_mem hil)
   have hcur := onN_lt (m := m.take i) (fun x hx => hm x (List.mem_of_mem_take hx)) u d
   clear hb
   (refine go ?_;repeat' (apply B<;>intro hb<;>try cases hb))
   refine opsK_of (E_iaddr (xs := m) (g := enC) rfl rfl i rfl hil rfl) rfl rfl ?_
   generalize m[i] = p at htk hp ⊢
   have hsn := onL_snoc (m.take i) p u d
   rw [← htk] at hsn
   have hon : onN (m.take (i + 1)) u d = if actB u d p = true then onN (m.take i) u d ||| 2 ^ p.r else onN (m.take i) u d := by
    unfold onN
    rw [hsn]
    split
    · exact orL_snoc _ _
    · rfl
   have hr := hp.r
   have hac := activeP_spec p (d : Int)
   (repeat'(first|refine at_dst 25 ?_|refine at_dstD 25 ?_|refine st ?_|(apply B<;>intro hb<;>try cases hb)))<;>try refine At.mk ?_
   refine opsK_bool rfl rfl rfl (fun hb=>?_) (fun hb=>?_)
   · have hu : p.u = u := Int.ofNat_inj.1 (eq_of_beq hb)
     clear hb
     by_cases ha : d≤30000∧d≤p.t
     · rw [decide_eq_true (show 0 ≤ (d : Int) ∧ (d : Int) ≤ 30000 ∧ (d : Int) ≤ p.t by omega)] at hac
       have hab : actB u d p = true := by unfold actB; rw [decide_eq_true hu,decide_eq_true ha]; rfl
       rw [if_pos hab] at hon
       (refine go ?_;repeat' (apply B<;>intro hb<;>try cases hb))
       refine opsK_eq hac rfl rfl rfl ⟨enC_pure p,trivial,trivial⟩ rfl ?_
       (refine go ?_;repeat' (apply B<;>intro hb<;>try cases hb))
       refine opsK_eq (withP_spec _ hcur p.r (by omega)) rfl rfl rfl ⟨setN_pure _,trivial,trivial⟩ rfl ?_
       rw [← hon]
       (refine go ?_;repeat' (apply B<;>intro hb<;>try cases hb))
       exact ⟨i + 1,fun i => i,hil,by omega,fun _ _ => rfl,injOn_id,
        ⟨⟨_,rfl,.pure _ trivial⟩,⟨_,rfl,.pure _ trivial⟩,⟨_,rfl,.ptr (ρ := fun i => i) 0 0 0 (by decide)⟩,⟨_,rfl,.ptr (ρ := fun i => i) 1 0 0 (by decide)⟩,⟨_,rfl,.pure _ (ens_pure m)⟩,⟨_,rfl,.pure _ trivial⟩,⟨_,by show some _ = some _; rw [hinc],.pure _ trivial⟩,trivial⟩,
        ⟨⟨by decide,_,rfl,.same _ ⟨⟨trivial,trivial⟩,trivial⟩⟩,⟨by decide,_,rfl,.same _ ⟨⟨words_pure _,trivial⟩,trivial⟩⟩,trivial⟩⟩
     · rw [decide_eq_false (show ¬ (0 ≤ (d : Int) ∧ (d : Int) ≤ 30000 ∧ (d : Int) ≤ p.t) by omega)] at hac
       have hab : ¬ actB u d p = true := by unfold actB; rw [decide_eq_false ha,Bool.and_false]; decide
       rw [if_neg hab] at hon
       (refine go ?_;repeat' (apply B<;>intro hb<;>try cases hb))
       refine opsK_eq hac rfl rfl rfl ⟨enC_pure p,trivial,trivial⟩ rfl ?_
       rw [← hon]
       (refine go ?_;repeat' (apply B<;>intro hb<;>try cases hb))
       exact ⟨i + 1,fun i => i,hil,by omega,fun _ _ => rfl,injOn_id,
        ⟨⟨_,rfl,.pure _ trivial⟩,⟨_,rfl,.pure _ trivial⟩,⟨_,rfl,.ptr (ρ := fun i => i) 0 0 0 (by decide)⟩,⟨_,rfl,.ptr (ρ := fun i => i) 1 0 0 (by decide)⟩,⟨_,rfl,.pure _ (ens_pure m)⟩,⟨_,rfl,.pure _ trivial⟩,⟨_,by show some _ = some _; rw [hinc],.pure _ trivial⟩,trivial⟩,
        ⟨⟨by decide,_,rfl,.same _ ⟨⟨trivial,trivial⟩,trivial⟩⟩,⟨by decide,_,rfl,.same _ ⟨⟨words_pure _,trivial⟩,trivial⟩⟩,trivial⟩⟩
   · have hu : ¬ p.u = u := fun h => by rw [h] at hb; simp at hb
     have hab : ¬ actB u d p = true := by unfold actB; rw [decide_eq_false hu,Bool.false_and]; decide
     rw [if_neg hab] at hon
     clear hb
     rw [← hon]
     (refine go ?_;repeat' (apply B<;>intro hb<;>try cases hb))
     exact ⟨i + 1,fun i => i,hil,by omega,fun _ _ => rfl,injOn_id,
      ⟨⟨_,rfl,.pure _ trivial⟩,⟨_,rfl,.pure _ trivial⟩,⟨_,rfl,.ptr (ρ := fun i => i) 0 0 0 (by decide)⟩,⟨_,rfl,.ptr (ρ := fun i => i) 1 0 0 (by decide)⟩,⟨_,rfl,.pure _ (ens_pure m)⟩,⟨_,rfl,.pure _ trivial⟩,⟨_,by show some _ = some _; rw [hinc],.pure _ trivial⟩,trivial⟩,
      ⟨⟨by decide,_,rfl,.same _ ⟨⟨trivial,trivial⟩,trivial⟩⟩,⟨by decide,_,rfl,.same _ ⟨⟨words_pure _,trivial⟩,trivial⟩⟩,trivial⟩⟩
 · have hil : i = m.length := by have := of_decide_eq_false hb; omega
   subst hil
   rw [List.take_length]
   clear hb
   (refine go ?_;repeat' (apply B<;>intro hb<;>try cases hb))
   exact ret_ok rfl (setN_pure _) rfl
end Go.Proofs.YtcoehdmpjflmlaaGreatDoor

namespace Go.Proofs.YtcoehdmpjflmlaaGreatDoor
open Go.RowKit
set_option linter.unusedVariables false
attribute [local irreducible] aw opsK dK

def factP (a b : PV) (n d : Nat) : List PV := [a,b,.val (.int .i64 (n : Int)),.val (.int .i64 (d : Int))]
theorem factP_pure {a b : PV} (ha : a.pure) (hb : b.pure) (n d : Nat) : pureL (factP a b n d) := ⟨ha,hb,trivial,trivial,trivial⟩
theorem usersP_spec (a b : PV) (ha : a.pure) (hb : b.pure) (n d : Nat) (hn : n≤256) : Spec Tryz.prog 36 [.agg (factP a b n d)] (· = .val (.int .i64 (n : Int))) := by
 refine spec_intro ok36 (Nat.le_of_ble_eq_true rfl) fun C hC => ?_
 refine aw_seq ?_
 refine aw_region ?_
 refine opsK_ofAlt rfl rfl rfl ?_
 (refine go ?_;repeat' (apply B<;>intro hb<;>try cases hb))
 refine ret_ok rfl trivial ?_
 refine congrArg (fun v => PV.val (.int .i64 v)) ?_
 show (if (256 : Int) < (if (0 : Int) > (n : Int) then 0 else (n : Int)) then 256 else (if (0 : Int) > (n : Int) then 0 else (n : Int))) = n
 rw [if_neg (show ¬ (0 : Int) > (n : Int) by omega),if_neg (by omega)]
set_option maxHeartbeats 2000000 in
theorem memberG_spec {l : List Pr} {m : List En} {n d : Nat} (hmo : ∀ x∈m,EnOk x) (hml : m.length≤100000) (hn : n≤256) (S : List Nat) (f : Bool) (u : Int) : Spec Tryz.prog 9 [.agg (factP (hierP l S) (bookP m f) n d),.val (.int .i64 u)] (· = setN (memb l m n d u)) := by
 have hfp : pureL (factP (hierP l S) (bookP m f) n d) := factP_pure (hierP_pure l S) (bookP_pure m f) n d
 refine spec_intro ok9 (Nat.le_of_ble_eq_true rfl) fun C hC => ?_
 refine aw_seq ?_
 refine aw_region ?_
 refine opsK_ofAlt rfl rfl rfl ?_
 have hus := usersP_spec (hierP l S) (bookP m f) (hierP_pure l S) (bookP_pure m f) n d (by omega)
 by_cases hu1 : 1≤u
 case neg =>
  have h0 : memb l m n d u = 0 := by unfold memb; rw [if_neg fun h => hu1 h.1]
  have d1 : decide (u < 1) = true := decide_eq_true (by omega)
  rw [h0,setN_zero]
  (repeat'(first|refine at_dst 15 ?_|refine at_dstD 15 ?_|refine st ?_|(apply B<;>intro hb<;>try cases hb)))<;>try refine At.mk ?_
  refine opsK_on rfl ?_
  refine opsK_of (E_boolEq rfl d1) rfl rfl ?_
  (refine go ?_;repeat' (apply B<;>intro hb<;>try cases hb))
  exact ret_low rfl ⟨trivial,trivial⟩ rfl
 have d1 : decide (u < 1) = false := decide_eq_false (by omega)
 (repeat'(first|refine at_dst 15 ?_|refine at_dstD 15 ?_|refine st ?_|(apply B<;>intro hb<;>try cases hb)))<;>try refine At.mk ?_
 refine opsK_on rfl ?_
 refine opsK_of (E_boolEq rfl d1) rfl rfl ?_
 (repeat'(first|refine at_dst 20 ?_|refine at_dstD 20 ?_|refine st ?_|(apply B<;>intro hb<;>try cases hb)))<;>try refine At.mk ?_
 refine opsK_on rfl ?_
 refine opsK_eq hus rfl rfl rfl ⟨hfp,trivial⟩ rfl ?_
 by_cases hu : u≤n
 case neg =>
  have h0 : memb l m n d u = 0 := by unfold memb; rw [if_neg fun h => hu h.2]
  have d2 : decide (u > (n : Int)) = true := decide_eq_true (by omega)
  rw [h0,setN_zero]
  (repeat'(first|refine at_dst 21 ?_|refine at_dstD 21 ?_|refine st ?_|(apply B<;>intro hb<;>try cases hb)))<;>try refine At.mk ?_
  refine opsK_on rfl ?_
  refine opsK_of (E_boolEq rfl d2) rfl rfl ?_
  (refine go ?_;repeat' (apply B<;>intro hb<;>try cases hb))
  exact ret_low rfl ⟨trivial,trivial⟩ rfl
 have d2 : decide (u > (n : Int)) = false := decide_eq_false (by omega)
 have hmb : memb l m n d u = clo l (onN m u.toNat d) := by unfold memb; rw [if_pos ⟨hu1,hu⟩]
 rw [hmb]
 obtain ⟨k,rfl⟩ : ∃ k : Nat,u = (k : Int) := ⟨u.toNat,by omega⟩
 rw [Int.toNat_natCast]
 (repeat'(first|refine at_dst 21 ?_|refine at_dstD 21 ?_|refine st ?_|(apply B<;>intro hb<;>try cases hb)))<;>try refine At.mk ?_
 refine opsK_on rfl ?_
 refine opsK_of (E_boolEq rfl d2) rfl rfl ?_
 (repeat'(first|refine at_dst 31 ?_|refine at_dstD 31 ?_|refine st ?_|(apply B<;>intro hb<;>try cases hb)))<;>try refine At.mk ?_
 refine dK_eq (onP_spec m hmo f k d hml) rfl rfl rfl ⟨bookP_pure m f,trivial,trivial,trivial⟩ ?_
 (repeat'(first|refine at_dst 32 ?_|refine at_dstD 32 ?_|refine st ?_|(apply B<;>intro hb<;>try cases hb)))<;>try refine At.mk ?_
 refine dK_eq (closure_spec l S (onN m k d) (onN_lt hmo k d)) rfl rfl rfl ⟨hierP_pure l S,setN_pure _,trivial⟩ ?_
 (refine go ?_;repeat' (apply B<;>intro hb<;>try cases hb))
 exact ret_ok rfl (setN_pure _) rfl
theorem memberP_spec {l : List Pr} {m : List En} {n d : Nat} (hT : Told l m n d) (S : List Nat) (f : Bool) (u : Int) : Spec Tryz.prog 9 [.agg (factP (hierP l S) (bookP m f) n d),.val (.int .i64 u)] (· = setN (memb l m n d u)) :=
 memberG_spec hT.m.ok (by have := hT.m.len;omega) (by have := hT.n;omega) S f u
end Go.Proofs.YtcoehdmpjflmlaaGreatDoor

namespace Go.Proofs.YtcoehdmpjflmlaaGreatDoor
open Go.RowKit
set_option linter.unusedVariables false
attribute [local irreducible] aw opsK dK

def cmpE (x y : En) : Int := if x.u = y.u then (x.r : Int) - y.r else (x.u : Int) - y.u
theorem cmpE_lt (x y : En) : cmpE x y < 0 ↔ ltE x y := by
 unfold cmpE ltE
 split <;> omega
theorem cmpE_eq (x y : En) : cmpE x y = 0 ↔ x.u = y.u∧x.r = y.r := by
 unfold cmpE
 split <;> omega
def KeyOk (x : En) : Prop := x.u≤256∧x.r≤63
set_option maxHeartbeats 1000000 in
theorem cmpE_spec (x y : En) (hx : KeyOk x) (hy : KeyOk y) : Spec Tryz.prog 69 [.agg (enC x),.agg (enC y)] (· = .val (.int .i64 (cmpE x y))) := by
 obtain ⟨h1,h2⟩ := hx
 obtain ⟨h3,h4⟩ := hy
 refine spec_intro ok69 (Nat.le_of_ble_eq_true rfl) fun C hC => ?_
 have w1 : IntKind.i64.wrap ((x.u : Int) - y.u) = (x.u : Int) - y.u := IntWalk.i64_in _ ⟨by omega,by omega⟩
 have w2 : IntKind.i64.wrap ((x.r : Int) - y.r) = (x.r : Int) - y.r := IntWalk.i64_in _ ⟨by omega,by omega⟩
 refine aw_seq ?_
 refine aw_region ?_
 refine opsK_ofAlt rfl rfl rfl ?_
 refine opsK_ofAlt rfl rfl rfl ?_
 by_cases hu : x.u = y.u
 · have hc : cmpE x y = (x.r : Int) - y.r := by unfold cmpE; rw [if_pos hu]
   have d1 : (!((x.u : Int) == (y.u : Int))) = false := by rw [hu]; simp
   rw [hc,← w2]
   (repeat'(first|refine at_dst 9 ?_|refine at_dstD 9 ?_|refine st ?_|(apply B<;>intro hb<;>try cases hb)))<;>try refine At.mk ?_
   refine opsK_of (E_boolEq rfl d1) rfl rfl ?_
   (refine go ?_;repeat' (apply B<;>intro hb<;>try cases hb))
   exact ret_ok rfl trivial rfl
 · have hc : cmpE x y = (x.u : Int) - y.u := by unfold cmpE; rw [if_neg hu]
   have d1 : (!((x.u : Int) == (y.u : Int))) = true := by simp; omega
   rw [hc,← w1]
   (repeat'(first|refine at_dst 9 ?_|refine at_dstD 9 ?_|refine st ?_|(apply B<;>intro hb<;>try cases hb)))<;>try refine At.mk ?_
   refine opsK_of (E_boolEq rfl d1) rfl rfl ?_
   (refine go ?_;repeat' (apply B<;>intro hb<;>try cases hb))
   exact ret_ok rfl trivial rfl
structure Place (m : List En) (y : En) (k : Nat) (found : Bool) : Prop where
 le : k≤m.length
 before : ∀ (i : Nat) (h : i < m.length),i < k→ltE m[i] y
 after : ∀ (i : Nat) (h : i < m.length),k≤i→¬ ltE m[i] y
 found : found = true ↔ ∃ q,m[k]? = some q∧q.u = y.u∧q.r = y.r
theorem half_wrap (i j : Nat) (h : i + j < 9223372036854775808) : IntKind.i64.wrap ((((i + j : Nat) : Int)).fdiv (2 ^ min (Int.toNat 1) IntKind.u64.bits)) = (((i + j) / 2 : Nat) : Int) := by
 have e1 := fdiv_nat (i + j) 1 (by decide)
 rw [show ((1 : Nat) : Int) = (1 : Int) from rfl] at e1
 rw [e1]
 exact IntWalk.i64_in _ ⟨by omega,by omega⟩
set_option maxHeartbeats 4000000 in
theorem binS_spec (m : List En) (f : Bool) (y : En) (hs : SortedE m) (hm : ∀ x∈m,KeyOk x) (hy : KeyOk y) (hlen : m.length≤100000) : Spec Tryz.prog 68 [.vec (m.map enC) f,.agg (enC y),.fn 69 []] fun r => ∃ k found,Place m y k found∧r = .tup [.val (.int .i64 ((k : Nat) : Int)),.val (.bool found)] := by
 have hnl := ens_len m
 have hce : ∀ D,innL D (enC y) := fun D => innL_mono (fun _ h => h.elim) _ (enC_pure y)
 have hsi : ∀ (i j : Nat) (hi : i < m.length) (hj : j < m.length),i < j→ltE m[i] m[j] := fun i j hi hj h => List.pairwise_iff_getElem.1 hs i j hi hj h
 refine spec_intro ok68 (Nat.le_of_ble_eq_true rfl) fun C hC => ?_
 refine aw_seq ?_
 refine aw_region ?_
 refine opsK_ofAlt rfl rfl rfl ?_
 (refine go ?_;repeat' (apply B<;>intro hb<;>try cases hb))
 refine aw_loopH hC (fun (z : Nat × Nat) => z.1≤z.2∧z.2≤m.length∧(∀ (i : Nat) (h : i < m.length),i < z.1→ltE m[i] y)∧(∀ (i : Nat) (h : i < m.length),z.2≤i→¬ ltE m[i] y)) (fun z => z.2 - z.1) 0 (fun z => [(0,.vec (m.map enC) f),(2,.fn 69 []),(4,.cp (enC y)),(8,.val (.int .i64 m.length)),(9,.val (.int .i64 (z.1 : Int))),(10,.val (.int .i64 (z.2 : Int)))]) (fun _=>[]) (Nat.zero_le _) (0,m.length) ⟨Nat.zero_le _,Nat.le_refl _,fun i h h2 => absurd h2 (Nat.not_lt_zero _),fun i h h2 => absurd h (by simp only at h2;omega)⟩
  ⟨⟨rfl,ens_inn _ _⟩,⟨rfl,trivial⟩,⟨rfl,hce _⟩,⟨by rw [← hnl]; rfl,trivial⟩,⟨rfl,trivial⟩,⟨by rw [← hnl]; rfl,trivial⟩,trivial⟩ trivial ?_
 rintro ⟨i,j⟩ ⟨hij,hj,hbef,haft⟩
 simp only at hij hj hbef haft
 (repeat'(first|refine at_dst 17 ?_|refine at_dstD 17 ?_|refine st ?_|(apply B<;>intro hb<;>try cases hb)))<;>try refine At.mk ?_
 refine opsK_bool rfl rfl rfl (fun hb=>?_) (fun hb=>?_)
 · have hlt : i < j := by have := of_decide_eq_true hb; omega
   have hk : (i + j) / 2 < m.length := by omega
   have hka := hm _ (List.getElem_mem hk)
   have hsa := fun q hq => hsi q ((i + j) / 2) hq hk
   have hsb := fun q hq => hsi ((i + j) / 2) q hk hq
   clear hb
   (repeat'(first|refine at_dst 20 ?_|refine at_dstD 20 ?_|refine st ?_|(apply B<;>intro hb<;>try cases hb)))<;>try refine At.mk ?_
   refine opsK_int rfl rfl rfl (show IntKind.i64.wrap ((i : Int) + (j : Int)) = ((i + j : Nat) : Int) from IntWalk.i64_in _ ⟨by omega,by omega⟩) ?_
   (repeat'(first|refine at_dst 21 ?_|refine at_dstD 21 ?_|refine st ?_|(apply B<;>intro hb<;>try cases hb)))<;>try refine At.mk ?_
   refine opsK_int rfl rfl rfl (w64 (i + j) (by omega)) ?_
   (repeat'(first|refine at_dst 23 ?_|refine at_dstD 23 ?_|refine st ?_|(apply B<;>intro hb<;>try cases hb)))<;>try refine At.mk ?_
   refine opsK_int rfl rfl rfl (half_wrap i j (by omega)) ?_
   generalize hkd : (i + j) / 2 = k at hk hka hsa hsb ⊢
   (repeat'(first|refine at_dst 27 ?_|refine at_dstD 27 ?_|refine st ?_|(apply B<;>intro hb<;>try cases hb)))<;>try refine At.mk ?_
   refine dK_of (E_iaddr (xs := m) (g := enC) rfl rfl k rfl hk rfl) rfl rfl ?_
   generalize hpd : m[k] = p at hka hsa hsb ⊢
   have hknc : IntKind.i64.wrap ((k : Int) + 1) = ((k + 1 : Nat) : Int) := IntWalk.i64_in _ ⟨by omega,by omega⟩
   (repeat'(first|refine at_dst 30 ?_|refine at_dstD 30 ?_|refine st ?_|(apply B<;>intro hb<;>try cases hb)))<;>try refine At.mk ?_
   refine dK_eq (cmpE_spec p y hka hy) rfl rfl rfl ⟨enC_pure p,enC_pure y,trivial⟩ ?_
   (repeat'(first|refine at_dst 31 ?_|refine at_dstD 31 ?_|refine st ?_|(apply B<;>intro hb<;>try cases hb)))<;>try refine At.mk ?_
   refine dK_bool rfl rfl rfl (fun hb=>?_) (fun hb=>?_)
   · have hl : ltE p y := (cmpE_lt p y).1 (of_decide_eq_true hb)
     clear hb
     (refine go ?_;repeat' (apply B<;>intro hb<;>try cases hb))
     refine ⟨(k + 1,j),⟨by simp only; omega,hj,fun q hq h => ?_,haft⟩,by simp only; omega,⟨⟨rfl,ens_inn _ _⟩,⟨rfl,trivial⟩,⟨rfl,hce _⟩,⟨rfl,trivial⟩,⟨by show some _ = some _; rw [hknc],trivial⟩,⟨rfl,trivial⟩,trivial⟩,trivial⟩
     simp only at h
     rcases Nat.lt_or_eq_of_le (Nat.le_of_lt_succ h) with h | rfl
     · have := hsa q hq h
       unfold ltE at this hl ⊢
       omega
     · rw [hpd]; exact hl
   · have hl : ¬ ltE p y := fun h => by have := of_decide_eq_false hb; exact this ((cmpE_lt p y).2 h)
     clear hb
     (refine go ?_;repeat' (apply B<;>intro hb<;>try cases hb))
     refine ⟨(i,k),⟨by simp only; omega,by simp only; omega,hbef,fun q hq h => ?_⟩,by simp only; omega,⟨⟨rfl,ens_inn _ _⟩,⟨rfl,trivial⟩,⟨rfl,hce _⟩,⟨rfl,trivial⟩,⟨rfl,trivial⟩,⟨rfl,trivial⟩,trivial⟩,trivial⟩
     simp only at h
     rcases Nat.lt_or_eq_of_le h with h | rfl
     · have := hsb q hq h
       unfold ltE at this hl ⊢
       omega
     · rw [hpd]; exact hl
 · have hlt : i = j := by have := of_decide_eq_false hb; omega
   subst hlt
   clear hb
   by_cases hi : i < m.length
   · have d1 : decide ((i : Int) < (m.length : Nat)) = true := decide_eq_true (by omega)
     have hget : m[i]? = some m[i] := List.getElem?_eq_getElem hi
     have hka := hm _ (List.getElem_mem hi)
     (repeat'(first|refine at_dst 38 ?_|refine at_dstD 38 ?_|refine st ?_|(apply B<;>intro hb<;>try cases hb)))<;>try refine At.mk ?_
     refine dK_of (E_boolEq rfl d1) rfl rfl ?_
     (repeat'(first|refine at_dst 43 ?_|refine at_dstD 43 ?_|refine st ?_|(apply B<;>intro hb<;>try cases hb)))<;>try refine At.mk ?_
     refine dK_on rfl ?_
     refine dK_of (E_iaddr (xs := m) (g := enC) rfl rfl i rfl hi rfl) rfl rfl ?_
     generalize m[i] = p at hget hka ⊢
     (repeat'(first|refine at_dst 46 ?_|refine at_dstD 46 ?_|refine st ?_|(apply B<;>intro hb<;>try cases hb)))<;>try refine At.mk ?_
     refine dK_on rfl ?_
     refine dK_eq (cmpE_spec p y hka hy) rfl rfl rfl ⟨enC_pure p,enC_pure y,trivial⟩ ?_
     (repeat'(first|refine at_dst 47 ?_|refine at_dstD 47 ?_|refine st ?_|(apply B<;>intro hb<;>try cases hb)))<;>try refine At.mk ?_
     refine dK_on rfl ?_
     refine dK_bool rfl rfl rfl (fun hb=>?_) (fun hb=>?_)
     · have he := (cmpE_eq p y).1 (eq_of_beq hb)
       (refine go ?_;repeat' (apply B<;>intro hb<;>try cases hb))
       exact ret_ok rfl ⟨trivial,trivial,trivial⟩ ⟨i,true,⟨hj,hbef,haft,⟨fun _ => ⟨p,hget,he⟩,fun _ => rfl⟩⟩,rfl⟩
     · have he : ¬ (p.u = y.u ∧ p.r = y.r) := fun h => by
        have h2 := (cmpE_eq p y).2 h
        rw [h2] at hb
        exact absurd hb (by decide)
       (refine go ?_;repeat' (apply B<;>intro hb<;>try cases hb))
       exact ret_ok rfl ⟨trivial,trivial,trivial⟩ ⟨i,false,⟨hj,hbef,haft,⟨fun h => (by cases h),fun ⟨q,hq,h⟩=>by rw [hget] at hq; cases hq; exact absurd h he⟩⟩,rfl⟩
   · have d1 : decide ((i : Int) < (m.length : Nat)) = false := decide_eq_false (by omega)
     have hget : m[i]? = none := List.getElem?_eq_none (by omega)
     (repeat'(first|refine at_dst 38 ?_|refine at_dstD 38 ?_|refine st ?_|(apply B<;>intro hb<;>try cases hb)))<;>try refine At.mk ?_
     refine dK_of (E_boolEq rfl d1) rfl rfl ?_
     (refine go ?_;repeat' (apply B<;>intro hb<;>try cases hb))
     exact ret_ok rfl ⟨trivial,trivial,trivial⟩ ⟨i,false,⟨hj,hbef,haft,⟨fun h => (by cases h),fun ⟨q,hq,h⟩=>by rw [hget] at hq; cases hq⟩⟩,rfl⟩
end Go.Proofs.YtcoehdmpjflmlaaGreatDoor

namespace Go.Proofs.YtcoehdmpjflmlaaGreatDoor
open Go.RowKit
set_option linter.unusedVariables false
attribute [local irreducible] aw opsK dK

theorem ens_cell (l : List En) : ∀ c∈l.map enC,c.length = 3 := fun c hc=>by obtain ⟨y,_,rfl⟩ := List.mem_map.1 hc; rfl
set_option maxHeartbeats 1000000 in
theorem cloneE_own (xs : List En) (fl : Bool) (hlen : xs.length≤100000) : NSpec Tryz.prog 33 [.vec (xs.map enC) fl] .own ⟨3,xs.map enC⟩ := by
 refine nspec_intro ok33 (Nat.le_of_ble_eq_true rfl) fun C hC => ?_
 cases xs with
 | nil =>
   (refine go ?_;repeat' (apply B<;>intro hb<;>try cases hb))
   refine opsK_isnil (.inl ⟨_,_,rfl⟩) rfl fun b => ?_
   cases b
   · repeat' (first | refine opsK_sub (subA_ownNil (k := 5) rfl 3 (by decide)) ?_ | (first|refine st ?_|(apply B<;>intro hb<;>try cases hb)))
     exact ⟨_,_,rfl,.inl rfl,_,rfl,rfl⟩
   · iterate 6 (first|refine st ?_|(apply B<;>intro hb<;>try cases hb))
     refine aw_sub (subA_ownNil (k := 2) rfl 3 (by decide) _) ?_
     (refine go ?_;repeat' (apply B<;>intro hb<;>try cases hb))
     exact ⟨_,_,rfl,.inl rfl,_,rfl,rfl⟩
 | cons x xs =>
   repeat' (first | refine opsK_sub (subA_ownNil (k := 5) rfl 3 (by decide)) ?_ | (first|refine st ?_|(apply B<;>intro hb<;>try cases hb)))
   refine opsK_new (E_append (k := 0) (m := (x :: xs).map enC) (fl := fl) rfl rfl rfl (ens_cell (x :: xs)) rfl (by
    show (([] : List (List PV)).length + ((x :: xs).map enC).length) * 24≤_
    rw [List.length_map,List.length_nil];omega)) rfl rfl ?_
   (refine go ?_;repeat' (apply B<;>intro hb<;>try cases hb))
   exact ⟨_,_,rfl,.inl rfl,_,rfl,by rw [List.nil_append]; rfl⟩
set_option maxHeartbeats 1000000 in
theorem findP_spec (m : List En) (f : Bool) (u r : Nat) (hs : SortedE m) (hm : ∀ x∈m,KeyOk x) (hy : u≤256∧r≤63) (hlen : m.length≤100000) : Spec Tryz.prog 34 [bookP m f,.val (.int .i64 (u : Int)),.val (.int .i64 (r : Int))] fun v => ∃ k found,Place m ⟨u,r,0⟩ k found∧v = .tup [.val (.int .i64 ((k : Nat) : Int)),.val (.bool found)] := by
 refine spec_intro ok34 (Nat.le_of_ble_eq_true rfl) fun C hC => ?_
 (repeat'(first|refine at_dst 15 ?_|refine at_dstD 15 ?_|refine st ?_|(apply B<;>intro hb<;>try cases hb)))<;>try refine At.mk ?_
 refine opsK_spec rfl rfl (binS_spec m f ⟨u,r,0⟩ hs hm hy hlen) ⟨ens_pure m,enC_pure (⟨u,r,0⟩ : En),trivial,trivial⟩ rfl ?_
 rintro v ⟨k,found,hp,rfl⟩
 (refine go ?_;repeat' (apply B<;>intro hb<;>try cases hb))
 all_goals exact ret_ok rfl ⟨trivial,trivial,trivial⟩ ⟨k,_,hp,rfl⟩
theorem E_slcV {esz n k a : Nat} {e : Env} {h : Heap} {x lo : Operand} {b : Bx} (hx : ev e x = some (.own k)) (hb : h k = some b) (hlo : intAt (ev e lo) = some (a : Int)) (ha : a≤b.elems.length) (hz : b.esz = esz) : fEval (.slc esz x (some lo) none none) e h n = some (.view k a (b.elems.length - a),h) := by
 simp only [fEval,hx,hb,bndAt,hlo]
 rw [if_pos ⟨⟨by omega,by omega,by omega⟩,hz⟩]
 simp
set_option maxHeartbeats 1000000 in
theorem insertEnd_spec (m : List En) (x : En) (hlen : m.length≤100000) : MSpec Tryz.prog 35 ⟨3,m.map enC⟩ [.val (.int .i64 (m.length : Int)),.vec [enC x] true] .own fun b' => b' = ⟨3,(m ++ [x]).map enC⟩ := by
 have hnl := ens_len m
 have d1 : (((m.length : Nat) : Int) == (((m.map enC).length : Nat) : Int)) = true := by rw [hnl]; simp
 refine mspec_intro ok35 (Nat.le_of_ble_eq_true rfl) fun C hC => ?_
 (repeat'(first|refine at_dst 12 ?_|refine at_dstD 12 ?_|refine st ?_|(apply B<;>intro hb<;>try cases hb)))<;>try refine At.mk ?_
 refine opsK_ofAlt (E_slcV (a := m.length) (b := ⟨3,m.map enC⟩) rfl rfl rfl (by show m.length≤(m.map enC).length;omega) rfl) rfl rfl ?_
 (repeat'(first|refine at_dst 22 ?_|refine at_dstD 22 ?_|refine st ?_|(apply B<;>intro hb<;>try cases hb)))<;>try refine At.mk ?_
 refine opsK_of (E_boolEq rfl d1) rfl rfl ?_
 (repeat'(first|refine at_dst 25 ?_|refine at_dstD 25 ?_|refine st ?_|(apply B<;>intro hb<;>try cases hb)))<;>try refine At.mk ?_
 refine opsK_new (E_append (k := 0) (m := [enC x]) (fl := true) (b := ⟨3,m.map enC⟩) rfl rfl rfl (fun q hq=>by rw [List.mem_singleton] at hq; subst hq; rfl) rfl (by show ((m.map enC).length + 1) * 24≤_; rw [ens_len];omega)) rfl rfl ?_
 have put1 : m.map enC ++ [enC x] = (m ++ [x]).map enC := by rw [List.map_append]; rfl
 simp only
 rw [put1]
 (refine go ?_;repeat' (apply B<;>intro hb<;>try cases hb))
 exact ⟨_,_,rfl,.inl rfl,1,_,rfl,rfl,ens_pure _,rfl⟩
theorem place_end {m : List En} {y : En} {k : Nat} {found : Bool} (h : Place m y k found) (hall : ∀ q∈m,ltE q y) : k = m.length∧found = false := by
 have hk : k = m.length := by
  rcases Nat.lt_or_eq_of_le h.le with hl | rfl
  · exact absurd (hall _ (List.getElem_mem hl)) (h.after k hl (Nat.le_refl _))
  · rfl
 refine ⟨hk,?_⟩
 cases found with
 | false => rfl
 | true =>
   obtain ⟨q,hq,_⟩ := h.found.1 rfl
   rw [hk,List.getElem?_eq_none (Nat.le_refl _)] at hq
   cases hq
set_option maxHeartbeats 2000000 in
theorem assignEnd_spec (m : List En) (f : Bool) (x : En) (hs : SortedE m) (hm : ∀ x∈m,EnOk x) (hx : EnOk x) (hall : ∀ q∈m,ltE q x) (hlen : m.length≤10000) : Spec Tryz.prog 8 [bookP m f,.val (.int .i64 (x.u : Int)),.val (.int .i64 (x.r : Int)),.val (.int .i64 (x.t : Int))] (· = .tup [bookP (m ++ [x]) false,.val (.int .i64 0)]) := by
 have hu := hx.u
 have hr := hx.r
 have ht := hx.t
 have hk : ∀ x∈m,KeyOk x := fun x hx => ⟨(hm x hx).u.2,(hm x hx).r.2⟩
 have d1 : decide ((x.u : Int) < 1) = false := decide_eq_false (by omega)
 have d2 : decide ((x.u : Int) > 256) = false := decide_eq_false (by omega)
 have d3 : decide ((x.r : Int) < 1) = false := decide_eq_false (by omega)
 have d4 : decide ((x.r : Int) > 63) = false := decide_eq_false (by omega)
 have d5 : decide ((x.t : Int) > 30000) = false := decide_eq_false (by omega)
 refine spec_intro ok8 (Nat.le_of_ble_eq_true rfl) fun C hC => ?_
 (repeat'(first|refine at_dst 18 ?_|refine at_dstD 18 ?_|refine st ?_|(apply B<;>intro hb<;>try cases hb)))<;>try refine At.mk ?_
 refine opsK_on rfl ?_
 refine opsK_of (E_boolEq rfl d1) rfl rfl ?_
 (repeat'(first|refine at_dst 22 ?_|refine at_dstD 22 ?_|refine st ?_|(apply B<;>intro hb<;>try cases hb)))<;>try refine At.mk ?_
 refine opsK_on rfl ?_
 refine opsK_of (E_boolEq rfl d2) rfl rfl ?_
 (repeat'(first|refine at_dst 26 ?_|refine at_dstD 26 ?_|refine st ?_|(apply B<;>intro hb<;>try cases hb)))<;>try refine At.mk ?_
 refine opsK_on rfl ?_
 refine opsK_of (E_boolEq rfl d3) rfl rfl ?_
 (repeat'(first|refine at_dst 30 ?_|refine at_dstD 30 ?_|refine st ?_|(apply B<;>intro hb<;>try cases hb)))<;>try refine At.mk ?_
 refine opsK_on rfl ?_
 refine opsK_of (E_boolEq rfl d4) rfl rfl ?_
 (repeat'(first|refine at_dst 37 ?_|refine at_dstD 37 ?_|refine st ?_|(apply B<;>intro hb<;>try cases hb)))<;>try refine At.mk ?_
 refine opsK_on rfl ?_
 refine opsK_of (E_boolEq rfl d5) rfl rfl ?_
 (repeat'(first|refine at_dst 43 ?_|refine at_dstD 43 ?_|refine st ?_|(apply B<;>intro hb<;>try cases hb)))<;>try refine At.mk ?_
 refine opsK_own (cloneE_own m f (by omega)) mk_own (by exact ens_pure m) rfl rfl ⟨ens_pure m,trivial⟩ ?_
 (repeat'(first|refine at_dst 48 ?_|refine at_dstD 48 ?_|refine st ?_|(apply B<;>intro hb<;>try cases hb)))<;>try refine At.mk ?_
 refine opsK_spec rfl rfl (findP_spec m f x.u x.r hs hk ⟨hu.2,hr.2⟩ (by omega)) ⟨bookP_pure m f,trivial,trivial,trivial⟩ rfl ?_
 rintro v ⟨k,found,hp,rfl⟩
 obtain ⟨rfl,rfl⟩ := place_end hp (fun q hq=>by have := hall q hq; unfold ltE at this ⊢; exact this)
 (repeat'(first|refine at_dst 64 ?_|refine at_dstD 64 ?_|refine st ?_|(apply B<;>intro hb<;>try cases hb)))<;>try refine At.mk ?_
 refine opsK_mv (k := 0) (insertEnd_spec m x (by omega)) mk_own rfl rfl rfl rfl (ens_pure m) ⟨trivial,⟨enC_pure x,trivial⟩,trivial⟩ ?_
 rintro b' hb' rfl
 (repeat'(first|refine at_dst 65 ?_|refine at_dstD 65 ?_|refine st ?_|(apply B<;>intro hb<;>try cases hb)))<;>try refine At.mk ?_
 refine opsK_sub (subA_freeze (k := 10) rfl rfl (ens_pure _)) ?_
 (repeat'(first|refine at_dst 67 ?_|refine at_dstD 67 ?_|refine st ?_|(apply B<;>intro hb<;>try cases hb)))<;>try refine At.mk ?_
 refine opsK_ofAlt rfl rfl rfl ?_
 (refine go ?_;repeat' (apply B<;>intro hb<;>try cases hb))
 exact ret_ok rfl ⟨bookP_pure _ _,trivial,trivial⟩ rfl
end Go.Proofs.YtcoehdmpjflmlaaGreatDoor

namespace Go.Proofs.YtcoehdmpjflmlaaGreatDoor
open Go.RowKit Go.Lib
set_option linter.unusedVariables false
set_option linter.unusedSimpArgs false
attribute [local irreducible] aw opsK dK

theorem ins_get (L : List (List PV)) (x : List PV) (i r : Nat) (hi : i≤L.length) : (L.take i ++ x :: L.drop i).getD r [] = if r < i then L.getD r [] else if r = i then x else L.getD (r - 1) [] := by
 simp only [List.getD_eq_getElem?_getD]
 by_cases h1 : r < i
 · rw [if_pos h1,List.getElem?_append_left (by rw [List.length_take];omega),List.getElem?_take,if_pos h1]
 · rw [if_neg h1, List.getElem?_append_right (by rw [List.length_take]; omega), List.length_take, Nat.min_eq_left hi]
   by_cases h2 : r = i
   · subst h2; simp
   · rw [if_neg h2]
     obtain ⟨q,hq⟩ : ∃ q,r - i = q + 1 := ⟨r - i - 1,by omega⟩
     rw [hq,List.getElem?_cons_succ,List.getElem?_drop]
     congr 2
     omega
section
variable {F : Froz} {φ : Locs}
theorem insA_rep {cb cv : Array Value} {off n i voff : Nat} {L : List (List PV)} {x : List PV} (hi : i < n) (hL : L.length = n) (hfb : off + (n + 1) * 3≤cb.size) (hfv : voff + 3≤cv.size)
 (hr : ∀ r j,r < n→j < 3→(cb.getD (off + (r * 3 + j)) undef).oneCell' = true∧Rep F φ (cb.getD (off + (r * 3 + j)) undef) ((L.getD r []).getD j pvu)) (hx : ∀ j,j < 3→(cv.getD (voff + j) undef).oneCell' = true∧Rep F φ (cv.getD (voff + j) undef) (x.getD j pvu)) :
 ∀ r j,r < n + 1→j < 3→((insA cb cv off n i voff).getD (off + (r * 3 + j)) undef).oneCell' = true∧Rep F φ ((insA cb cv off n i voff).getD (off + (r * 3 + j)) undef) (((L.take i ++ x :: L.drop i).getD r []).getD j pvu) := by
 intro r j hr1 hj
 have hs1 : (spl cb (off + (i + 1) * 3) (seg cb (off + i * 3) ((n - i) * 3))).size = cb.size := spl_size _ _ _ (by rw [seg_length];omega)
 unfold insA
 rw [ins_get L x i r (by omega),spl_getD _ _ _ (by rw [seg_length,hs1];omega),seg_length]
 by_cases h1 : r < i
 · rw [if_neg (by omega), spl_getD _ _ _ (by rw [seg_length]; omega), if_neg (by omega), if_pos h1]
   exact hr r j (by omega) hj
 · rw [if_neg h1]
   by_cases h2 : r = i
   · subst h2
     rw [if_pos ⟨by omega,by omega⟩,if_pos rfl,show off + (r * 3 + j) - (off + r * 3) = j by omega,seg_getD _ _ _ _ hj]
     exact hx j hj
   · rw [if_neg h2, if_neg (by omega), spl_getD _ _ _ (by rw [seg_length]; omega), seg_length, if_pos ⟨by omega, by omega⟩, seg_getD _ _ _ _ (by omega),
      show off + i * 3 + (off + (r * 3 + j) - (off + (i + 1) * 3)) = off + ((r - 1) * 3 + j) by omega]
     exact hr (r - 1) j (by omega) hj
theorem insB_rep {cb cv : Array Value} {off n i voff G : Nat} {L : List (List PV)} {x : List PV} (hi : i < n) (hG : n + 1≤G) (hL : L.length = n) (hfb : off + n * 3≤cb.size) (hfv : voff + 3≤cv.size)
 (hr : ∀ r j,r < n→j < 3→(cb.getD (off + (r * 3 + j)) undef).oneCell' = true∧Rep F φ (cb.getD (off + (r * 3 + j)) undef) ((L.getD r []).getD j pvu)) (hx : ∀ j,j < 3→(cv.getD (voff + j) undef).oneCell' = true∧Rep F φ (cv.getD (voff + j) undef) (x.getD j pvu)) :
 ∀ r j,r < n + 1→j < 3→((insB cb cv off n i voff G).getD (r * 3 + j) undef).oneCell' = true∧Rep F φ ((insB cb cv off n i voff G).getD (r * 3 + j) undef) (((L.take i ++ x :: L.drop i).getD r []).getD j pvu) := by
 intro r j hr1 hj
 have hR := rowE_size cb off n i G (by omega) hG
 have hs1 : (spl (rowE cb off n i G) (i * 3) (seg cv voff 3)).size = G * 3 := by rw [spl_size _ _ _ (by rw [seg_length,hR];omega),hR]
 unfold insB
 rw [ins_get L x i r (by omega),spl_getD _ _ _ (by rw [seg_length,hs1];omega),seg_length]
 by_cases h1 : r < i
 · have hrow : (rowE cb off n i G).getD (r * 3 + j) undef = cb.getD (off + (r * 3 + j)) undef := by
    unfold rowE
    rw [← seg_getD cb off (i * 3) (r * 3 + j) (by omega)]
    simp only [Array.getD_eq_getD_getElem?,List.getD_eq_getElem?_getD]
    rw [Array.getElem?_append_left (by simp only [Array.size_append,List.size_toArray,seg_length];omega),Array.getElem?_append_left (by simp only [List.size_toArray,seg_length];omega),List.getElem?_toArray]
   rw [if_neg (by omega),spl_getD _ _ _ (by rw [seg_length,hR];omega),seg_length,if_neg (by omega),if_pos h1,hrow]
   exact hr r j (by omega) hj
 · rw [if_neg h1]
   by_cases h2 : r = i
   · subst h2
     rw [if_neg (by omega),spl_getD _ _ _ (by rw [seg_length,hR];omega),seg_length,if_pos ⟨by omega,by omega⟩,if_pos rfl,show r * 3 + j - r * 3 = j by omega,seg_getD _ _ _ _ hj]
     exact hx j hj
   · rw [if_neg h2, if_pos ⟨by omega, by omega⟩, seg_getD _ _ _ _ (by omega), show off + i * 3 + (r * 3 + j - (i + 1) * 3) = off + ((r - 1) * 3 + j) by omega]
     exact hr (r - 1) j (by omega) hj
end
theorem setRow_twice (w : World) (g : Nat) (x y : Array Value) : (w.setRow g x).setRow g y = w.setRow g y := by
 unfold World.setRow
 congr 1
 apply Array.ext_getElem?
 intro k
 simp only [Array.getElem?_modify]
 split
 · cases w.heap[k]? with
   | none => rfl
   | some o => cases o <;> rfl
 · rfl
theorem alloc_set (w : World) (x y : Array Value) (t : TypeId) : (w.alloc (.cells x t)).setRow w.heap.size y = w.alloc (.cells y t) := by
 unfold World.setRow World.alloc
 congr 1
 apply Array.ext_getElem?
 intro k
 simp only [Array.getElem?_modify,Array.getElem?_push]
 by_cases hk : k = w.heap.size
 · subst hk; simp
 · rw [if_neg (fun e => hk e.symm),if_neg hk,if_neg hk]
set_option maxHeartbeats 2000000 in
theorem insMid_i {h : Heap} {n k j : Nat} (m : List En) (x : En) (i : Nat) (hi : i < m.length) (hlen : m.length≤100000) (hk : h k = some ⟨3,m.map enC⟩) (hj : h j = some ⟨3,[enC x]⟩) (hkj : k≠j) :
 ISpec Tryz.prog 35 n [.own k,.val (.int .i64 (i : Int)),.own j] h fun n' r h' => n' = n + 1∧r = .own n∧h' = (h.del k).upd n ⟨3,(m.take i ++ x :: m.drop i).map enC⟩ := by
 refine ⟨(insertEnd_spec m x hlen).1,fun C e F φ a w vs s hv => ?_⟩
 obtain ⟨hsz,hvi⟩ := hv
 obtain ⟨vl⟩ := vs
 match vl,hsz with
 | [v0,v1,v2],_ => ?_
 have r0 : Rep F φ v0 (.own k) := hvi 0 (show 0 < 3 by decide)
 have r1 : Rep F φ v1 (.val (.int .i64 (i : Int))) := hvi 1 (show 1 < 3 by decide)
 have r2 : Rep F φ v2 (.own j) := hvi 2 (show 2 < 3 by decide)
 obtain ⟨loc,hloc,hz,rfl⟩ := r0.own_inv
 obtain ⟨locj,hlocj,hzj,rfl⟩ := r2.own_inv
 obtain rfl := r1.val_inv
 obtain ⟨loc',h1,h2,h3⟩ := s.live k _ hk
 obtain rfl : loc' = loc := by rw [h1] at hloc; simpa using hloc
 obtain ⟨locj',h1j,h2j,h3j⟩ := s.live j _ hj
 obtain rfl : locj' = locj := by rw [h1j] at hlocj; simpa using hlocj
 have h2 := h2.cells hz
 have h2j := h2j.cells hzj
 have hln : loc'.len = m.length := by have := h2.len; rw [List.length_map] at this; exact this.symm
 have hlj : locj'.len = 1 := h2j.len.symm
 have hez : loc'.esz = 3 := h2.esz.symm
 have hezj : locj'.esz = 3 := h2j.esz.symm
 have hcle := h2.cap
 have hclj := h2j.cap
 have hc0 : loc'.cap≠0 := by omega
 have hc0j : locj'.cap≠0 := by omega
 obtain ⟨ad,hbase,hs,cells,ct,hg,hroom,hrep⟩ := h2.room hc0
 obtain ⟨adj,hbasej,hsj,cellsj,ctj,hgj,hroomj,hrepj⟩ := h2j.room hc0j
 have hhas : loc'.has ad.block := ⟨hc0,ad,hbase,rfl⟩
 have hne : adj.block≠ad.block := fun e => hkj (s.sep k j _ _ loc' locj' ad.block hk hj h1 h1j hhas ⟨hc0j,adj,hbasej,e⟩)
 rw [hez] at hroom hrep
 rw [hezj] at hroomj hrepj
 rw [hln] at hrep
 have hid : n≤n := Nat.le_refl n
 have s1 : St' C (fun i => n≤i) e (h.del k) F φ a w := s.sub (fun _ _ h => h) (fun _ _ hh => (Heap.del_some hh).2)
 have hM : (m.take i ++ x :: m.drop i).map enC = (m.map enC).take i ++ enC x :: (m.map enC).drop i := by rw [List.map_append,List.map_cons,List.map_take,List.map_drop]
 have hMl : ((m.take i ++ x :: m.drop i).map enC).length = m.length + 1 := by rw [List.length_map,List.length_append,List.length_cons,List.length_take,List.length_drop]; omega
 have hMc : ∀ c∈(m.take i ++ x :: m.drop i).map enC,c.length = 3 := fun c hc=>by obtain ⟨y,_,rfl⟩ := List.mem_map.1 hc; rfl
 have hx3 : ∀ j,j < 3→(cellsj.getD (adj.off + j) undef).oneCell' = true∧Rep F φ (cellsj.getD (adj.off + j) undef) ((enC x).getD j pvu) := fun q hq => by
  have := hrepj 0 q (by omega) hq
  rw [Nat.zero_mul,Nat.zero_add] at this
  exact this
 have hvf : adj.off + 3≤cellsj.size := by
  have : 1 * 3≤locj'.cap * 3 := Nat.mul_le_mul_right _ (by omega)
  omega
 have h1c : ∀ q,q < m.length * 3→(cells.getD (ad.off + q) undef).oneCell' = true := fun q hq => by
  have := (hrep (q / 3) (q % 3) (by omega) (by omega)).1
  rwa [show q / 3 * 3 + q % 3 = q by omega] at this
 rw [hbase,hbasej,hln,hlj,eta_none ad hs,eta_none adj hsj]
 by_cases hroom2 : m.length + 1≤loc'.cap
 · refine (insE_shift ad.block ad.off m.length loc'.cap i adj.block adj.off locj'.cap cells cellsj ct ctj w hi (by omega) hroom2 hne hg hroom hgj hvf h1c (fun q hq => (hx3 q hq).1)).mono ?_
   rintro en w' ⟨rfl,rfl⟩
   rw [setRow_twice]
   let locN : Loc := ⟨some ⟨ad.block,ad.off,none⟩,3,m.length + 1,loc'.cap⟩
   refine ⟨_,.own n,n + 1,_,F,locUpd φ n locN,rfl,⟨rfl,rfl,rfl⟩,.own n locN (by simp [locUpd]) (show 0 < 3 by decide),?_⟩
   refine s1.drew.adopt (id := n) (loc' := locN) (b' := ⟨3,(m.take i ++ x :: m.drop i).map enC⟩) (φ' := locUpd φ n locN) (Fr' := fun i => n + 1≤i) (cur' := insA cells cellsj ad.off m.length i adj.off) hg (h3 _ hhas).1 (h3 _ hhas).2 (s.del_no hk h1 hhas) (by simp [locUpd]) (locUpd_ext (s.free n hid) locN) (fun i hi=>by simp [locUpd,hi])
    (fun q hq => by
      have h5 : q≠n := by omega
      simp [locUpd,h5,s.free q (by omega)]) (fun k' hk'=>by obtain ⟨_,y,hy,rfl⟩ := hk'; simp only [locN] at hy; cases hy; rfl) ?_
   refine ⟨rfl,show 0 < 3 by decide,hMl,hroom2,by simp only [locN,maxVec]; omega,hMc,fun _ => ⟨⟨ad.block,ad.off,none⟩,rfl,rfl,_,ct,setRow_heap w.drew _ cells _ ct _ hg,?_,fun r q hr hq => ?_⟩⟩
   · have hs1 : (spl cells (ad.off + (i + 1) * 3) (seg cells (ad.off + i * 3) ((m.length - i) * 3))).size = cells.size := spl_size _ _ _ (by rw [seg_length]; omega)
     unfold insA
     rw [spl_size _ _ _ (by rw [seg_length,hs1];omega),hs1]
     exact hroom
   · rw [hM]
     have := insA_rep (F := F) (φ := φ) hi (List.length_map ..) (by omega) hvf hrep hx3 r q hr hq
     exact ⟨this.1,this.2.mono (fun _ _ h => h) (locUpd_ext (s.free n hid) locN)⟩
 · refine (insE_grow ad.block ad.off m.length loc'.cap i adj.block adj.off locj'.cap _ cells cellsj ct ctj w hi (by omega) (by omega) (by omega) rfl hg hroom hgj hvf h1c (fun q hq => (hx3 q hq).1)).mono ?_
   rintro en w' ⟨rfl,rfl⟩
   have hG := grownCap_ge w (m.length + 1) loc'.cap 88
   generalize grownCap w (m.length + 1) loc'.cap 88 = G at hG ⊢
   have e1 := alloc_set w.drew (rowE cells ad.off m.length i G) (spl (rowE cells ad.off m.length i G) (i * 3) (seg cellsj adj.off 3)) 88
   have e2 := alloc_set w.drew.drew (spl (rowE cells ad.off m.length i G) (i * 3) (seg cellsj adj.off 3)) (insB cells cellsj ad.off m.length i adj.off G) 88
   have e3 : ((w.drew.alloc (.cells (rowE cells ad.off m.length i G) 88)).setRow w.heap.size (spl (rowE cells ad.off m.length i G) (i * 3) (seg cellsj adj.off 3))).drew.setRow w.heap.size (insB cells cellsj ad.off m.length i adj.off G) = w.drew.drew.alloc (.cells (insB cells cellsj ad.off m.length i adj.off G) 88) := by
    rw [← e2]
    rw [show w.heap.size = w.drew.heap.size from rfl,e1]
    rfl
   rw [e3]
   let locN : Loc := ⟨some ⟨w.heap.size,0,none⟩,3,m.length + 1,G⟩
   refine ⟨_,.own n,n + 1,_,F,locUpd φ n locN,rfl,⟨rfl,rfl,rfl⟩,.own n locN (by simp [locUpd]) (show 0 < 3 by decide),?_⟩
   have hR := rowE_size cells ad.off m.length i G (by omega) hG
   have hs1 : (spl (rowE cells ad.off m.length i G) (i * 3) (seg cellsj adj.off 3)).size = G * 3 := by rw [spl_size _ _ _ (by rw [seg_length,hR];omega),hR]
   refine (s1.drew.drew.alloc (id := n) hid (insB cells cellsj ad.off m.length i adj.off G) 88 3 (m.length + 1) G ((m.take i ++ x :: m.drop i).map enC) (by decide) hMl hG (by simp only [maxVec];omega) hMc ?_ (fun r q hr hq => ?_)).weaken fun q hq => ⟨by omega,by omega⟩
   · unfold insB
     rw [spl_size _ _ _ (by rw [seg_length,hs1];omega),hs1]
     exact Nat.le_refl _
   · rw [hM]
     exact insB_rep (F := F) (φ := φ) hi hG (List.length_map ..) (by omega) hvf hrep hx3 r q hr hq
end Go.Proofs.YtcoehdmpjflmlaaGreatDoor

namespace Go.Proofs.YtcoehdmpjflmlaaGreatDoor
open Go.RowKit
set_option linter.unusedVariables false
attribute [local irreducible] aw opsK dK

set_option maxHeartbeats 2000000 in
theorem indexB_spec (m : List En) (f : Bool) (u r : Nat) (hs : SortedE m) (hm : ∀ x∈m,KeyOk x) (hu : 1≤u∧u≤256) (hr : 1≤r∧r≤63) (hlen : m.length≤100000) : Spec Tryz.prog 43 [bookP m f,.val (.int .i64 (u : Int)),.val (.int .i64 (r : Int))] fun v => ∃ k found,Place m ⟨u,r,0⟩ k found∧v = .tup [.val (.int .i64 ((k : Nat) : Int)),.val (.bool found)] := by
 have d1 : decide ((u : Int) < 1) = false := decide_eq_false (by omega)
 have d2 : decide ((u : Int) > 256) = false := decide_eq_false (by omega)
 have d3 : decide ((r : Int) < 1) = false := decide_eq_false (by omega)
 have d4 : decide ((r : Int) > 63) = false := decide_eq_false (by omega)
 refine spec_intro ok43 (Nat.le_of_ble_eq_true rfl) fun C hC => ?_
 (repeat'(first|refine at_dst 12 ?_|refine at_dstD 12 ?_|refine st ?_|(apply B<;>intro hb<;>try cases hb)))<;>try refine At.mk ?_
 refine opsK_on rfl ?_
 refine opsK_of (E_boolEq rfl d1) rfl rfl ?_
 (repeat'(first|refine at_dst 16 ?_|refine at_dstD 16 ?_|refine st ?_|(apply B<;>intro hb<;>try cases hb)))<;>try refine At.mk ?_
 refine opsK_on rfl ?_
 refine opsK_of (E_boolEq rfl d2) rfl rfl ?_
 (repeat'(first|refine at_dst 20 ?_|refine at_dstD 20 ?_|refine st ?_|(apply B<;>intro hb<;>try cases hb)))<;>try refine At.mk ?_
 refine opsK_on rfl ?_
 refine opsK_of (E_boolEq rfl d3) rfl rfl ?_
 (repeat'(first|refine at_dst 24 ?_|refine at_dstD 24 ?_|refine st ?_|(apply B<;>intro hb<;>try cases hb)))<;>try refine At.mk ?_
 refine opsK_on rfl ?_
 refine opsK_of (E_boolEq rfl d4) rfl rfl ?_
 (repeat'(first|refine at_dst 29 ?_|refine at_dstD 29 ?_|refine st ?_|(apply B<;>intro hb<;>try cases hb)))<;>try refine At.mk ?_
 refine opsK_spec rfl rfl (findP_spec m f u r hs hm ⟨hu.2,hr.2⟩ hlen) ⟨bookP_pure m f,trivial,trivial,trivial⟩ rfl ?_
 rintro v ⟨k,found,hp,rfl⟩
 (refine go ?_;repeat' (apply B<;>intro hb<;>try cases hb))
 all_goals exact ret_ok rfl ⟨trivial,trivial,trivial⟩ ⟨k,_,hp,rfl⟩
set_option maxHeartbeats 2000000 in
theorem untilB_spec (m : List En) (f : Bool) (u r : Nat) (hs : SortedE m) (hm : ∀ x∈m,KeyOk x) (hu : 1≤u∧u≤256) (hr : 1≤r∧r≤63) (hlen : m.length≤100000) : Spec Tryz.prog 12 [bookP m f,.val (.int .i64 (u : Int)),.val (.int .i64 (r : Int))] fun v => (v = .tup [.val (.int .i64 0),.val (.bool false)]∧∀ q∈m,¬ (q.u = u∧q.r = r)) ∨ ∃ q∈m,q.u = u∧q.r = r∧v = .tup [.val (.int .i64 (q.t : Nat)),.val (.bool true)] := by
 refine spec_intro ok12 (Nat.le_of_ble_eq_true rfl) fun C hC => ?_
 (repeat'(first|refine at_dst 14 ?_|refine at_dstD 14 ?_|refine st ?_|(apply B<;>intro hb<;>try cases hb)))<;>try refine At.mk ?_
 refine opsK_spec rfl rfl (indexB_spec m f u r hs hm hu hr hlen) ⟨bookP_pure m f,trivial,trivial,trivial⟩ rfl ?_
 rintro v ⟨k,found,hp,rfl⟩
 cases found with
 | false =>
   have hno : ∀ q∈m,¬ (q.u = u∧q.r = r) := fun q hq h => by
    obtain ⟨j,hj,rfl⟩ := List.getElem_of_mem hq
    rcases Nat.lt_trichotomy j k with h1 | h1 | h1
    · have := hp.before j hj h1
      unfold ltE at this
      simp only at this
      omega
    · subst h1
      have := hp.found.2 ⟨_,List.getElem?_eq_getElem hj,h.1,h.2⟩
      cases this
    · have hk : k < m.length := by omega
      have h2 := hp.after k hk (Nat.le_refl _)
      have h3 := (List.pairwise_iff_getElem.1 hs) k j hk hj h1
      unfold ltE at h2 h3
      simp only at h2
      omega
   (refine go ?_;repeat' (apply B<;>intro hb<;>try cases hb))
   exact ret_ok rfl ⟨trivial,trivial,trivial⟩ (.inl ⟨rfl,hno⟩)
 | true =>
   obtain ⟨q,hq,h1,h2⟩ := hp.found.1 rfl
   have hk : k < m.length := (List.getElem?_eq_some_iff.1 hq).1
   have hqk : m[k] = q := (List.getElem?_eq_some_iff.1 hq).2
   (repeat'(first|refine at_dst 24 ?_|refine at_dstD 24 ?_|refine st ?_|(apply B<;>intro hb<;>try cases hb)))<;>try refine At.mk ?_
   refine opsK_of (E_iaddr (xs := m) (g := enC) rfl rfl k rfl hk rfl) rfl rfl ?_
   rw [hqk]
   (refine go ?_;repeat' (apply B<;>intro hb<;>try cases hb))
   exact ret_ok rfl ⟨trivial,trivial,trivial⟩ (.inr ⟨q,List.mem_of_getElem? hq,h1,h2,rfl⟩)
end Go.Proofs.YtcoehdmpjflmlaaGreatDoor

namespace Go.Proofs.YtcoehdmpjflmlaaGreatDoor
open Go.RowKit
set_option linter.unusedVariables false
attribute [local irreducible] aw opsK dK

structure PutE (m : List En) (x : En) (m' : List En) : Prop where
 asc : SortedE m'
 ok : ∀ q∈m',EnOk q
 mem : ∀ q,q∈m' ↔ q = x ∨ (q∈m∧¬ (q.u = x.u∧q.r = x.r))
 len : m'.length≤m.length + 1
theorem place_gt {m : List En} {y : En} {k : Nat} {found : Bool} (hp : Place m y k found) (hs : SortedE m) (i : Nat) (h : i < m.length) (hki : k≤i) (hf : found = false ∨ k < i) : ltE y m[i] := by
 have hk : k < m.length := by omega
 have h1 := hp.after k hk (Nat.le_refl _)
 by_cases he : k = i
 · subst he
   have h2 : found = false := by rcases hf with h | h; exact h; omega
   have h3 : ¬ (m[k].u = y.u∧m[k].r = y.r) := fun hq => by
    have := hp.found.2 ⟨_,List.getElem?_eq_getElem hk,hq.1,hq.2⟩
    rw [h2] at this; cases this
   unfold ltE at h1 ⊢
   omega
 · have h2 := (List.pairwise_iff_getElem.1 hs) k i hk h (by omega)
   unfold ltE at h1 h2 ⊢
   omega
theorem put_new {m : List En} {x : En} {k : Nat} (hp : Place m ⟨x.u,x.r,0⟩ k false) (hs : SortedE m) (hm : ∀ q∈m,EnOk q) (hx : EnOk x) : PutE m x (m.take k ++ x :: m.drop k) := by
 have hlt : ∀ q∈m.take k,ltE q x := fun q hq => by
  obtain ⟨i,hi,rfl⟩ := List.getElem_of_mem hq
  rw [List.length_take] at hi
  rw [List.getElem_take]
  have := hp.before i (by omega) (by omega)
  unfold ltE at this ⊢
  exact this
 have hgt : ∀ q∈m.drop k,ltE x q := fun q hq => by
  obtain ⟨i,hi,rfl⟩ := List.getElem_of_mem hq
  rw [List.length_drop] at hi
  rw [List.getElem_drop]
  have := place_gt hp hs (k + i) (by omega) (by omega) (.inl rfl)
  unfold ltE at this ⊢
  exact this
 have hne : ∀ q,ltE q x ∨ ltE x q→¬ (q.u = x.u∧q.r = x.r) := fun q h=>by unfold ltE at h; omega
 have hsp : ∀ q,q∈m ↔ q∈m.take k ∨ q∈m.drop k := fun q=>by rw [← List.mem_append,List.take_append_drop]
 refine ⟨?_,fun q hq => ?_,fun q => ?_,?_⟩
 · unfold SortedE
   rw [List.pairwise_append,List.pairwise_cons]
   refine ⟨List.Pairwise.sublist (List.take_sublist k m) hs,⟨hgt,List.Pairwise.sublist (List.drop_sublist k m) hs⟩,fun a ha b hb => ?_⟩
   rcases List.mem_cons.1 hb with rfl | hb
   · exact hlt a ha
   · have h1 := hlt a ha
     have h2 := hgt b hb
     unfold ltE at h1 h2 ⊢
     omega
 · rcases List.mem_append.1 hq with h | h
   · exact hm q (List.mem_of_mem_take h)
   · rcases List.mem_cons.1 h with rfl | h
     · exact hx
     · exact hm q (List.mem_of_mem_drop h)
 · rw [List.mem_append, List.mem_cons]
   constructor
   · rintro (h | h | h)
     · exact .inr ⟨(hsp q).2 (.inl h),hne q (.inl (hlt q h))⟩
     · exact .inl h
     · exact .inr ⟨(hsp q).2 (.inr h),hne q (.inr (hgt q h))⟩
   · rintro (h | ⟨h, _⟩)
     · exact .inr (.inl h)
     · rcases (hsp q).1 h with h | h
       · exact .inl h
       · exact .inr (.inr h)
 · rw [List.length_append,List.length_cons,List.length_take,List.length_drop]; omega
theorem put_set {m : List En} {x q0 : En} {k : Nat} (hk : k < m.length) (hq0 : m[k] = q0) (h1 : q0.u = x.u) (h2 : q0.r = x.r) (hs : SortedE m) (hm : ∀ q∈m,EnOk q) (hx : EnOk x) : PutE m x (m.set k x) := by
 have hpi := List.pairwise_iff_getElem.1 hs
 refine ⟨?_,fun q hq => ?_,fun q => ?_,?_⟩
 · refine List.pairwise_iff_getElem.2 fun i j hi hj hij => ?_
   rw [List.length_set] at hi hj
   have h3 := hpi i j hi hj hij
   rw [List.getElem_set,List.getElem_set]
   by_cases e1 : k = i
   · subst e1
     rw [if_pos rfl,if_neg (by omega)]
     rw [hq0] at h3
     unfold ltE at h3 ⊢
     omega
   · rw [if_neg e1]
     by_cases e2 : k = j
     · subst e2
       rw [if_pos rfl]
       rw [hq0] at h3
       unfold ltE at h3 ⊢
       omega
     · rw [if_neg e2]; exact h3
 · rcases List.mem_or_eq_of_mem_set hq with h | rfl
   · exact hm q h
   · exact hx
 · constructor
   · intro hq
     obtain ⟨i,hi,rfl⟩ := List.getElem_of_mem hq
     rw [List.length_set] at hi
     rw [List.getElem_set]
     by_cases e1 : k = i
     · rw [if_pos e1]; exact .inl rfl
     · rw [if_neg e1]
       refine .inr ⟨List.getElem_mem hi,fun h => ?_⟩
       rcases Nat.lt_or_gt_of_ne e1 with h3 | h3
       · have := hpi k i hk hi h3
         rw [hq0] at this
         unfold ltE at this
         omega
       · have := hpi i k hi hk h3
         rw [hq0] at this
         unfold ltE at this
         omega
   · rintro (rfl | ⟨hq, hne⟩)
     · exact List.mem_set hk q
     · obtain ⟨i, hi, rfl⟩ := List.getElem_of_mem hq
       have e1 : k≠i := fun e => hne (by subst e; rw [hq0]; exact ⟨h1,h2⟩)
       have e2 : (m.set k x)[i]'(by rw [List.length_set]; exact hi) = m[i] := by rw [List.getElem_set,if_neg e1]
       rw [← e2]
       exact List.getElem_mem _
 · rw [List.length_set]; omega
set_option maxHeartbeats 4000000 in
theorem assignB_spec (m : List En) (f : Bool) (x : En) (hs : SortedE m) (hm : ∀ x∈m,EnOk x) (hx : EnOk x) (hlen : m.length≤10000) : Spec Tryz.prog 8 [bookP m f,.val (.int .i64 (x.u : Int)),.val (.int .i64 (x.r : Int)),.val (.int .i64 (x.t : Int))] fun v => ∃ m',PutE m x m'∧v = .tup [bookP m' false,.val (.int .i64 0)] := by
 have hu := hx.u
 have hr := hx.r
 have ht := hx.t
 have hnl := ens_len m
 have hk : ∀ x∈m,KeyOk x := fun x hx => ⟨(hm x hx).u.2,(hm x hx).r.2⟩
 have d1 : decide ((x.u : Int) < 1) = false := decide_eq_false (by omega)
 have d2 : decide ((x.u : Int) > 256) = false := decide_eq_false (by omega)
 have d3 : decide ((x.r : Int) < 1) = false := decide_eq_false (by omega)
 have d4 : decide ((x.r : Int) > 63) = false := decide_eq_false (by omega)
 have d5 : decide ((x.t : Int) > 30000) = false := decide_eq_false (by omega)
 refine spec_intro ok8 (Nat.le_of_ble_eq_true rfl) fun C hC => ?_
 (repeat'(first|refine at_dst 18 ?_|refine at_dstD 18 ?_|refine st ?_|(apply B<;>intro hb<;>try cases hb)))<;>try refine At.mk ?_
 refine opsK_on rfl ?_
 refine opsK_of (E_boolEq rfl d1) rfl rfl ?_
 (repeat'(first|refine at_dst 22 ?_|refine at_dstD 22 ?_|refine st ?_|(apply B<;>intro hb<;>try cases hb)))<;>try refine At.mk ?_
 refine opsK_on rfl ?_
 refine opsK_of (E_boolEq rfl d2) rfl rfl ?_
 (repeat'(first|refine at_dst 26 ?_|refine at_dstD 26 ?_|refine st ?_|(apply B<;>intro hb<;>try cases hb)))<;>try refine At.mk ?_
 refine opsK_on rfl ?_
 refine opsK_of (E_boolEq rfl d3) rfl rfl ?_
 (repeat'(first|refine at_dst 30 ?_|refine at_dstD 30 ?_|refine st ?_|(apply B<;>intro hb<;>try cases hb)))<;>try refine At.mk ?_
 refine opsK_on rfl ?_
 refine opsK_of (E_boolEq rfl d4) rfl rfl ?_
 (repeat'(first|refine at_dst 37 ?_|refine at_dstD 37 ?_|refine st ?_|(apply B<;>intro hb<;>try cases hb)))<;>try refine At.mk ?_
 refine opsK_on rfl ?_
 refine opsK_of (E_boolEq rfl d5) rfl rfl ?_
 (repeat'(first|refine at_dst 43 ?_|refine at_dstD 43 ?_|refine st ?_|(apply B<;>intro hb<;>try cases hb)))<;>try refine At.mk ?_
 refine opsK_own (cloneE_own m f (by omega)) mk_own (by exact ens_pure m) rfl rfl ⟨ens_pure m,trivial⟩ ?_
 (repeat'(first|refine at_dst 48 ?_|refine at_dstD 48 ?_|refine st ?_|(apply B<;>intro hb<;>try cases hb)))<;>try refine At.mk ?_
 refine opsK_spec rfl rfl (findP_spec m f x.u x.r hs hk ⟨hu.2,hr.2⟩ (by omega)) ⟨bookP_pure m f,trivial,trivial,trivial⟩ rfl ?_
 rintro v ⟨k,found,hp,rfl⟩
 cases found with
 | true =>
   obtain ⟨q,hq,h1,h2⟩ := hp.found.1 rfl
   have hkl : k < m.length := (List.getElem?_eq_some_iff.1 hq).1
   have hqk : m[k] = q := (List.getElem?_eq_some_iff.1 hq).2
   have hput := put_set (x := x) hkl hqk h1 h2 hs hm hx
   have hget : (m.map enC).getD k [] = enC q := by
    rw [List.getD_eq_getElem?_getD,List.getElem?_map,hq]; rfl
   have hset : (m.map enC).set k (setAt ((m.map enC).getD k []) 2 [.val (.int .i64 (x.t : Int))]) = (m.set k x).map enC := by
    rw [hget,List.map_set]
    congr 1
    show [PV.val (.int .i64 (q.u : Int)),.val (.int .i64 (q.r : Int)),.val (.int .i64 (x.t : Int))] = enC x
    rw [h1,h2]; rfl
   (repeat'(first|refine at_dst 55 ?_|refine at_dstD 55 ?_|refine st ?_|(apply B<;>intro hb<;>try cases hb)))<;>try refine At.mk ?_
   refine opsK_of (E_iaddrO rfl rfl rfl k rfl (by show k < (m.map enC).length;omega) rfl) rfl rfl ?_
   refine opsK_of rfl rfl rfl ?_
   refine opsK_of (E_store (i := k) rfl rfl rfl rfl rfl (by show k < (m.map enC).length;omega) (show 3≤3 by decide)) rfl rfl ?_
   simp only [PV.cells]
   rw [hset]
   (repeat'(first|refine at_dst 65 ?_|refine at_dstD 65 ?_|refine st ?_|(apply B<;>intro hb<;>try cases hb)))<;>try refine At.mk ?_
   refine opsK_sub (subA_freeze (k := 10) rfl rfl (ens_pure _)) ?_
   (repeat'(first|refine at_dst 67 ?_|refine at_dstD 67 ?_|refine st ?_|(apply B<;>intro hb<;>try cases hb)))<;>try refine At.mk ?_
   refine opsK_ofAlt rfl rfl rfl ?_
   (refine go ?_;repeat' (apply B<;>intro hb<;>try cases hb))
   exact ret_ok rfl ⟨bookP_pure _ _,trivial,trivial⟩ ⟨_,hput,rfl⟩
 | false =>
   have hput := put_new hp hs hm hx
   by_cases hkl : k < m.length
   · (repeat'(first|refine at_dst 63 ?_|refine at_dstD 63 ?_|refine st ?_|(apply B<;>intro hb<;>try cases hb)))<;>try refine At.mk ?_
     refine opsK_newAlt rfl rfl rfl ?_
     refine opsK_heap rfl rfl (insMid_i (k := 0) (j := 1) m x k hkl (by omega) rfl rfl (by decide)) ?_
     rintro n' r h' ⟨rfl,rfl,rfl⟩
     (repeat'(first|refine at_dst 65 ?_|refine at_dstD 65 ?_|refine st ?_|(apply B<;>intro hb<;>try cases hb)))<;>try refine At.mk ?_
     refine opsK_sub (subA_freeze (k := 10) rfl rfl (ens_pure _)) ?_
     (repeat'(first|refine at_dst 67 ?_|refine at_dstD 67 ?_|refine st ?_|(apply B<;>intro hb<;>try cases hb)))<;>try refine At.mk ?_
     refine opsK_ofAlt rfl rfl rfl ?_
     (refine go ?_;repeat' (apply B<;>intro hb<;>try cases hb))
     exact ret_ok rfl ⟨bookP_pure _ _,trivial,trivial⟩ ⟨_,hput,rfl⟩
   · have hke : k = m.length := by have := hp.le; omega
     subst hke
     rw [List.take_length,List.drop_length] at hput
     (repeat'(first|refine at_dst 64 ?_|refine at_dstD 64 ?_|refine st ?_|(apply B<;>intro hb<;>try cases hb)))<;>try refine At.mk ?_
     refine opsK_mv (k := 0) (insertEnd_spec m x (by omega)) mk_own rfl rfl rfl rfl (ens_pure m) ⟨trivial,⟨enC_pure x,trivial⟩,trivial⟩ ?_
     rintro b' hb' rfl
     (repeat'(first|refine at_dst 65 ?_|refine at_dstD 65 ?_|refine st ?_|(apply B<;>intro hb<;>try cases hb)))<;>try refine At.mk ?_
     refine opsK_sub (subA_freeze (k := 10) rfl rfl (ens_pure _)) ?_
     (repeat'(first|refine at_dst 67 ?_|refine at_dstD 67 ?_|refine st ?_|(apply B<;>intro hb<;>try cases hb)))<;>try refine At.mk ?_
     refine opsK_ofAlt rfl rfl rfl ?_
     (refine go ?_;repeat' (apply B<;>intro hb<;>try cases hb))
     exact ret_ok rfl ⟨bookP_pure _ _,trivial,trivial⟩ ⟨_,hput,rfl⟩
end Go.Proofs.YtcoehdmpjflmlaaGreatDoor

namespace Go.Proofs.YtcoehdmpjflmlaaGreatDoor
open Go.RowKit
set_option linter.unusedVariables false
attribute [local irreducible] aw opsK dK

theorem sortedP_unique : ∀ {l m : List Pr},SortedP l→SortedP m→l.Perm m→l = m
 | [],m,_,_,h => (List.Perm.nil_eq h)
 | a :: l,[],_,_,h=>by have := h.length_eq; simp at this
 | a :: l, b :: m, h1, h2, h => by
   have h1' := List.pairwise_cons.1 h1
   have h2' := List.pairwise_cons.1 h2
   have hab : a = b := by
    rcases List.mem_cons.1 (h.mem_iff.1 (List.mem_cons_self (a := a) (l := l))) with e | ha
    · exact e
    rcases List.mem_cons.1 (h.mem_iff.2 (List.mem_cons_self (a := b) (l := m))) with e | hb
    · exact e.symm
    have x1 := h1'.1 b hb
    have x2 := h2'.1 a ha
    omega
   subst hab
   rw [sortedP_unique h1'.2 h2'.2 (List.Perm.cons_inv h)]
theorem SortedP.take {l : List Pr} (h : SortedP l) (i : Nat) : SortedP (l.take i) := List.Pairwise.sublist (List.take_sublist i l) h
theorem SortedE.take {l : List En} (h : SortedE l) (i : Nat) : SortedE (l.take i) := List.Pairwise.sublist (List.take_sublist i l) h
theorem SortedP.nodup {l : List Pr} (h : SortedP l) : l.Nodup := List.Pairwise.imp (fun {a b} h e=>by subst e;omega) h
theorem goodL_len {l : List Pr} (h : GoodL l) : l.length≤4096 := by
 have hn : (l.map fun p => p.1 * 64 + p.2).Nodup := by
  rw [List.nodup_iff_pairwise_ne,List.pairwise_map]
  refine List.Pairwise.imp_of_mem (fun {a b} ha hb hab => ?_) h.asc
  have h1 := h.small a ha
  have h2 := h.small b hb
  show a.1 * 64 + a.2≠b.1 * 64 + b.2
  omega
 have := nodup_le 4096 _ hn fun x hx => by
  obtain ⟨p,hp,rfl⟩ := List.mem_map.1 hx
  have := h.small p hp
  show p.1 * 64 + p.2 < 4096
  omega
 rwa [List.length_map] at this
set_option maxHeartbeats 4000000 in
theorem makeL_spec (x : Nat) (hx : x < 18446744073709551616) (raws : List En) (f : Bool) (us dy : Nat) : Spec Tryz.prog 6 [.agg [.val (.int .u64 (x : Int)),.vec (raws.map rawC) f,.val (.int .u8 (us : Int)),.val (.int .u8 (dy : Int))]] fun r => ∃ l fl m fm n d S fb,Told l m n d∧r = .tup [.agg (factP (hierP l S) (bookP m fb) n d),.agg (factR l fl m fm n d),.val (.bool true)] := by
 refine spec_intro ok6 (Nat.le_of_ble_eq_true rfl) fun C hC => ?_
 refine aw_seq ?_
 refine aw_region ?_
 refine opsK_ofAlt rfl rfl rfl ?_
 (repeat'(first|refine at_dst 17 ?_|refine at_dstD 17 ?_|refine st ?_|(apply B<;>intro hb<;>try cases hb)))<;>try refine At.mk ?_
 refine opsK_spec rfl rfl (make20_spec x hx raws f us dy) ⟨⟨trivial,raws_pure raws,trivial,trivial,trivial⟩,trivial⟩ rfl ?_
 rintro r ⟨l,fl,m,fm,n,d,hT,rfl⟩
 have hgl := hT.l
 have hll := goodL_len hgl
 have hnl := prs_len l
 have hfr := factR_pure l fl m fm n d
 have hfc : ∀ D,innL D (factR l fl m fm n d) := fun D => innL_mono (fun _ h => h.elim) _ hfr
 have hpl : ∀ D,innLL D (l.map prC) := fun D => innLL_mono (fun _ h => h.elim) _ (prs_pure l)
 have hhp : ∀ D l S,(hierP l S).inn D := fun D l S => PV.inn_mono (fun _ h => h.elim) _ (hierP_pure l S)
 have hbp : ∀ D m f,(bookP m f).inn D := fun D m f => PV.inn_mono (fun _ h => h.elim) _ (bookP_pure m f)
 (repeat'(first|refine at_dst 18 ?_|refine at_dstD 18 ?_|refine st ?_|(apply B<;>intro hb<;>try cases hb)))<;>try refine At.mk ?_
 refine opsK_sub (subA_freezeBox (k := 5) rfl rfl hfr) ?_
 refine opsK_spec rfl rfl hierNew_spec trivial rfl ?_
 rintro r ⟨S0,rfl⟩
 (refine go ?_;repeat' (apply B<;>intro hb<;>try cases hb))
 refine aw_loopH hC (fun (z : Nat × List Nat) => z.1≤l.length) (fun z => l.length - z.1) 3 (fun z => [(2,.ptr 0 0 0),(3,.ptr 1 0 0),(5,.cp (factR l fl m fm n d)),(6,hierP (l.take z.1) z.2),(20,.vec (l.map prC) fl),(21,.val (.int .i64 l.length)),(22,.val (.int .i64 (z.1 : Int)))])
  (fun _ => [(0,⟨4,[[.val (.pointer none),.val (.pointer none),.val (.int .i64 0),.val (.int .i64 0)]]⟩),(1,⟨4,[[.vec [] true,.vec [] true,.val (.int .i64 0),.val (.int .i64 0)]]⟩)]) (Nat.zero_le _) (0,S0) (Nat.zero_le _)
  ⟨⟨rfl,show (0 : Nat) < 3 by decide⟩,⟨rfl,show (1 : Nat) < 3 by decide⟩,⟨rfl,hfc _⟩,⟨rfl,hhp _ _ _⟩,⟨rfl,hpl _⟩,⟨by rw [← hnl]; rfl,trivial⟩,⟨rfl,trivial⟩,trivial⟩
  ⟨⟨by decide,rfl,⟨⟨trivial,trivial,trivial,trivial,trivial⟩,trivial⟩⟩,⟨by decide,rfl,⟨⟨trivial,trivial,trivial,trivial,trivial⟩,trivial⟩⟩,trivial⟩ ?_
 rintro ⟨i,S⟩ hi
 simp only at hi
 have hinc : IntKind.i64.wrap ((i : Int) + 1) = ((i + 1 : Nat) : Int) := IntWalk.i64_in _ ⟨by omega,by omega⟩
 (repeat'(first|refine at_dst 23 ?_|refine at_dstD 23 ?_|refine st ?_|(apply B<;>intro hb<;>try cases hb)))<;>try refine At.mk ?_
 refine opsK_bool rfl rfl rfl (fun hb=>?_) (fun hb=>?_)
 · have hil : i < l.length := by have := of_decide_eq_true hb; omega
   have htk := take_snocG hil
   have hro := hgl.role _ (List.getElem_mem hil)
   have hsub : ∀ p∈l.take i ++ [l[i]],p∈l := fun p hp=>by rw [← htk] at hp; exact List.mem_of_mem_take hp
   have hno : l[i] ∉ l.take i := fun h => by
    have hnd := SortedP.nodup (SortedP.take hgl.asc (i + 1))
    rw [htk,List.nodup_append] at hnd
    exact hnd.2.2 _ h _ (List.mem_singleton.2 rfl) rfl
   clear hb
   (refine go ?_;repeat' (apply B<;>intro hb<;>try cases hb))
   refine opsK_of (E_iaddr (xs := l) (g := prC) rfl rfl i rfl hil rfl) rfl rfl ?_
   generalize l[i] = p at htk hro hsub hno ⊢
   have hls := link_spec (l.take i) S p.1 p.2 (by omega) (by omega) hro.2.2.2.2 (fun q hq => hgl.small q (List.mem_of_mem_take hq)) (SortedP.nodup (SortedP.take hgl.asc i)) hno (hgl.acy.sub hsub) (by rw [List.length_take];omega)
   (repeat'(first|refine at_dst 32 ?_|refine at_dstD 32 ?_|refine st ?_|(apply B<;>intro hb<;>try cases hb)))<;>try refine At.mk ?_
   refine opsK_spec rfl rfl hls ⟨hierP_pure _ _,trivial,trivial,trivial⟩ rfl ?_
   rintro r ⟨l',S',hpm,hst,rfl⟩
   have hle : l' = l.take (i + 1) := by
    have hx1 : l'.Perm (l.take (i + 1)) := by rw [htk]; exact hpm
    exact sortedP_unique hst (SortedP.take hgl.asc (i + 1)) hx1
   subst hle
   (refine go ?_;repeat' (apply B<;>intro hb<;>try cases hb))
   exact ⟨(i + 1,S'),hil,by simp only; omega,⟨⟨rfl,show (0 : Nat) < 3 by decide⟩,⟨rfl,show (1 : Nat) < 3 by decide⟩,⟨rfl,hfc _⟩,⟨rfl,hhp _ _ _⟩,⟨rfl,hpl _⟩,⟨rfl,trivial⟩,⟨by show some _ = some _; rw [hinc],trivial⟩,trivial⟩,
    ⟨⟨by decide,rfl,⟨⟨trivial,trivial,trivial,trivial,trivial⟩,trivial⟩⟩,⟨by decide,rfl,⟨⟨trivial,trivial,trivial,trivial,trivial⟩,trivial⟩⟩,trivial⟩⟩
 · have hil : i = l.length := by have := of_decide_eq_false hb; omega
   subst hil
   clear hb hinc hi
   rw [List.take_length]
   have hml := hT.m.len
   have hmo := hT.m.ok
   have hms := hT.m.asc
   have hnm := ens_len m
   (repeat'(first|refine at_dst 41 ?_|refine at_dstD 41 ?_|refine st ?_|(apply B<;>intro hb<;>try cases hb)))<;>try refine At.mk ?_
   refine opsK_eq bookNew_spec rfl rfl rfl trivial rfl ?_
   (refine go ?_;repeat' (apply B<;>intro hb<;>try cases hb))
   refine aw_loopH hC (fun (z : Nat × Bool) => z.1≤m.length) (fun z => m.length - z.1) 3 (fun z => [(2,.ptr 0 0 0),(3,.ptr 1 0 0),(5,.cp (factR l fl m fm n d)),(6,hierP l S),(11,bookP (m.take z.1) z.2),(43,.vec (m.map enC) fm),(44,.val (.int .i64 m.length)),(45,.val (.int .i64 (z.1 : Int)))])
    (fun _ => [(0,⟨4,[[.val (.pointer none),.val (.pointer none),.val (.int .i64 0),.val (.int .i64 0)]]⟩),(1,⟨4,[[.vec [] true,.vec [] true,.val (.int .i64 0),.val (.int .i64 0)]]⟩)]) (Nat.zero_le _) (0,true) (Nat.zero_le _)
    ⟨⟨rfl,show (0 : Nat) < 3 by decide⟩,⟨rfl,show (1 : Nat) < 3 by decide⟩,⟨rfl,hfc _⟩,⟨rfl,hhp _ _ _⟩,⟨rfl,hbp _ _ _⟩,⟨rfl,ens_inn _ _⟩,⟨by rw [← hnm]; rfl,trivial⟩,⟨rfl,trivial⟩,trivial⟩
    ⟨⟨by decide,rfl,⟨⟨trivial,trivial,trivial,trivial,trivial⟩,trivial⟩⟩,⟨by decide,rfl,⟨⟨trivial,trivial,trivial,trivial,trivial⟩,trivial⟩⟩,trivial⟩ ?_
   rintro ⟨i,fb⟩ hi
   simp only at hi
   have hinc : IntKind.i64.wrap ((i : Int) + 1) = ((i + 1 : Nat) : Int) := IntWalk.i64_in _ ⟨by omega,by omega⟩
   (repeat'(first|refine at_dst 46 ?_|refine at_dstD 46 ?_|refine st ?_|(apply B<;>intro hb<;>try cases hb)))<;>try refine At.mk ?_
   refine opsK_bool rfl rfl rfl (fun hb=>?_) (fun hb=>?_)
   · have hil : i < m.length := by have := of_decide_eq_true hb; omega
     have htk := take_snocG hil
     have hok := hmo _ (List.getElem_mem hil)
     have hall : ∀ q∈m.take i,ltE q m[i] := fun q hq => by
      have hx1 := SortedE.take hms (i + 1)
      unfold SortedE at hx1
      rw [htk,List.pairwise_append] at hx1
      exact hx1.2.2 q hq _ (List.mem_singleton.2 rfl)
     clear hb
     (refine go ?_;repeat' (apply B<;>intro hb<;>try cases hb))
     refine opsK_of (E_iaddr (xs := m) (g := enC) rfl rfl i rfl hil rfl) rfl rfl ?_
     generalize m[i] = p at htk hok hall ⊢
     have has := assignEnd_spec (m.take i) fb p (SortedE.take hms i) (fun q hq => hmo q (List.mem_of_mem_take hq)) hok hall (by rw [List.length_take];omega)
     rw [← htk] at has
     (repeat'(first|refine at_dst 57 ?_|refine at_dstD 57 ?_|refine st ?_|(apply B<;>intro hb<;>try cases hb)))<;>try refine At.mk ?_
     refine opsK_eq has rfl rfl rfl ⟨bookP_pure _ _,trivial,trivial,trivial,trivial⟩ rfl ?_
     (refine go ?_;repeat' (apply B<;>intro hb<;>try cases hb))
     exact ⟨(i + 1,false),hil,by simp only; omega,⟨⟨rfl,show (0 : Nat) < 3 by decide⟩,⟨rfl,show (1 : Nat) < 3 by decide⟩,⟨rfl,hfc _⟩,⟨rfl,hhp _ _ _⟩,⟨rfl,hbp _ _ _⟩,⟨rfl,ens_inn _ _⟩,⟨rfl,trivial⟩,⟨by show some _ = some _; rw [hinc],trivial⟩,trivial⟩,
      ⟨⟨by decide,rfl,⟨⟨trivial,trivial,trivial,trivial,trivial⟩,trivial⟩⟩,⟨by decide,rfl,⟨⟨trivial,trivial,trivial,trivial,trivial⟩,trivial⟩⟩,trivial⟩⟩
   · have hil : i = m.length := by have := of_decide_eq_false hb; omega
     subst hil
     clear hb
     rw [List.take_length]
     repeat' (first | refine aw_drawU [] [(0,16384)] [131071,131071,131071,131071,131071,131071,131071,131071,131071,131071,131071,131071,131071,131071,114687,131071,131071] (by kernel_rfl) ?_ | (first|refine st ?_|(apply B<;>intro hb<;>try cases hb)))
     exact ret_ok rfl ⟨factP_pure (hierP_pure l S) (bookP_pure m fb) n d,hfr,trivial,trivial⟩ ⟨l,fl,m,fm,n,d,S,fb,hT,rfl⟩
end Go.Proofs.YtcoehdmpjflmlaaGreatDoor

namespace Go.Proofs.YtcoehdmpjflmlaaGreatDoor
open Go.RowKit
set_option linter.unusedVariables false
attribute [local irreducible] aw opsK dK

structure RawF where
 x : Nat
 ms : List En
 f : Bool
 us : Nat
 dy : Nat
def RawFok (z : RawF) : Prop := z.x < 18446744073709551616
def rawF (z : RawF) : List PV := [.val (.int .u64 (z.x : Int)),.vec (z.ms.map rawC) z.f,.val (.int .u8 (z.us : Int)),.val (.int .u8 (z.dy : Int))]
theorem rawF_pure (z : RawF) : pureL (rawF z) := ⟨trivial,raws_pure z.ms,trivial,trivial,trivial⟩
theorem makeF_spec (z : RawF) (hz : RawFok z) : Spec Tryz.prog 6 [.agg (rawF z)] fun r => ∃ l fl m fm n d S fb,Told l m n d∧r = .tup [.agg (factP (hierP l S) (bookP m fb) n d),.agg (factR l fl m fm n d),.val (.bool true)] := makeL_spec z.x hz z.ms z.f z.us z.dy
end Go.Proofs.YtcoehdmpjflmlaaGreatDoor

namespace Go.Proofs.YtcoehdmpjflmlaaGreatDoor
open Go.RowKit
set_option linter.unusedVariables false
attribute [local irreducible] aw opsK dK

theorem onL_iff (m : List En) (u d r : Nat) : r∈onL m u d ↔ ∃ x∈m,x.r = r∧actB u d x = true := by
 refine ⟨onL_mem,fun ⟨x,hx,h1,h2⟩ => ?_⟩
 unfold onL
 exact List.mem_map.2 ⟨x,List.mem_filter.2 ⟨hx,h2⟩,h1⟩
theorem actB_iff (u d : Nat) (x : En) : actB u d x = true ↔ x.u = u∧d≤30000∧d≤x.t := by
 unfold actB
 rw [Bool.and_eq_true,decide_eq_true_eq,decide_eq_true_eq]
theorem onN_congr {m m' : List En} {u d : Nat} (h : ∀ r,r∈onL m' u d ↔ r∈onL m u d) : onN m' u d = onN m u d := Nat.eq_of_testBit_eq fun b => by
 rw [Bool.eq_iff_iff,onN_bit,onN_bit]
 exact h b
theorem put_same {m m' : List En} {a : En} (hP : PutE m a m') {u d : Nat} (h : u = a.u→a.t < d∧∀ q∈m,q.u = u→q.r = a.r→q.t < d) : onN m' u d = onN m u d := by
 refine onN_congr fun r => ?_
 rw [onL_iff,onL_iff]
 constructor
 · rintro ⟨x, hx, rfl, hb⟩
   rcases (hP.mem x).1 hx with rfl | ⟨h1,_⟩
   · have := (actB_iff u d x).1 hb
     have h2 := (h this.1.symm).1
     omega
   · exact ⟨x,h1,rfl,hb⟩
 · rintro ⟨x, hx, rfl, hb⟩
   refine ⟨x,(hP.mem x).2 (.inr ⟨hx,fun he => ?_⟩),rfl,hb⟩
   have h1 := (actB_iff u d x).1 hb
   have h2 := (h (by omega)).2 x hx h1.1 he.2
   omega
theorem put_more {m m' : List En} {a : En} (hP : PutE m a m') {d : Nat} (hd : d≤30000) (h : d≤a.t) : onN m' a.u d = onN m a.u d ||| 2 ^ a.r := Nat.eq_of_testBit_eq fun b => by
 rw [Bool.eq_iff_iff,onN_bit,Nat.testBit_or,Bool.or_eq_true,onN_bit,Nat.testBit_two_pow,decide_eq_true_eq,onL_iff,onL_iff]
 constructor
 · rintro ⟨x, hx, rfl, hb⟩
   rcases (hP.mem x).1 hx with rfl | ⟨h1,_⟩
   · exact .inr rfl
   · exact .inl ⟨x,h1,rfl,hb⟩
 · rintro (⟨x, hx, rfl, hb⟩ | rfl)
   · by_cases he : x.r = a.r
     · exact ⟨a,(hP.mem a).2 (.inl rfl),he.symm,(actB_iff _ _ _).2 ⟨rfl,hd,h⟩⟩
     · exact ⟨x,(hP.mem x).2 (.inr ⟨hx,fun h => he h.2⟩),rfl,hb⟩
   · exact ⟨a,(hP.mem a).2 (.inl rfl),rfl,(actB_iff _ _ _).2 ⟨rfl,hd,h⟩⟩
theorem clo_or (l : List Pr) (s r : Nat) (hs : s < 18446744073709551616) (hr1 : 1≤r) (hr : r < 64) : clo l (s ||| 2 ^ r) = clo l s ||| jun l r := Nat.eq_of_testBit_eq fun b => by
 rw [Bool.eq_iff_iff,clo_bit _ _ (or_lt hs (pow_lt64 hr)),Nat.testBit_or,Bool.or_eq_true,clo_bit _ _ hs]
 constructor
 · rintro ⟨q, h1, h2, h3⟩
   rw [Nat.testBit_or,Bool.or_eq_true,Nat.testBit_two_pow,decide_eq_true_eq] at h1
   rcases h1 with h1 | rfl
   · exact .inl ⟨q,h1,h2,h3⟩
   · exact .inr h3
 · rintro (⟨q, h1, h2, h3⟩ | h3)
   · exact ⟨q,by rw [Nat.testBit_or,h1]; rfl,h2,h3⟩
   · exact ⟨r,by rw [Nat.testBit_or,Nat.testBit_two_pow,decide_eq_true rfl,Bool.or_true],hr1,h3⟩
theorem memb_in (l : List Pr) (m : List En) {n d k : Nat} (h1 : 1≤k) (hn : k≤n) : memb l m n d (k : Int) = clo l (onN m k d) := by
 unfold memb
 rw [if_pos ⟨by omega,by omega⟩,Int.toNat_natCast]
theorem memberX_spec {l : List Pr} {m : List En} {n d : Nat} (hT : Told l m n d) {a : En} {m' : List En} (hP : PutE m a m') (S : List Nat) (f : Bool) (u : Int) : Spec Tryz.prog 9 [.agg (factP (hierP l S) (bookP m' f) n d),.val (.int .i64 u)] (· = setN (memb l m' n d u)) :=
 memberG_spec hP.ok (by have := hT.m.len; have := hP.len;omega) (by have := hT.n;omega) S f u
theorem equal_yes (N : Nat) (hN : N < 18446744073709551616) : Spec Tryz.prog 13 [setN N,setN N] (· = .val (.bool true)) := by
 have h := equalS_spec N N hN hN
 rwa [decide_eq_true rfl] at h
theorem key_one {m : List En} (hs : SortedE m) {q p : En} (hq : q∈m) (hp : p∈m) (h1 : q.u = p.u) (h2 : q.r = p.r) : q = p := by
 obtain ⟨i,hi,rfl⟩ := List.getElem_of_mem hq
 obtain ⟨j,hj,rfl⟩ := List.getElem_of_mem hp
 rcases Nat.lt_trichotomy i j with h | h | h
 · have := (List.pairwise_iff_getElem.1 hs) i j hi hj h
   unfold ltE at this
   omega
 · subst h; rfl
 · have := (List.pairwise_iff_getElem.1 hs) j i hj hi h
   unfold ltE at this
   omega
set_option maxHeartbeats 4000000 in
theorem meaningAssigns_law0 (z : RawF) (ur rr tr ro : Nat) (hz : RawFok z) (hro : ro < 256) : Spec Tryz.prog 3 [.agg (rawF z),.agg (rawE ur rr tr),.val (.int .u8 (ro : Int))] (· = .val (.bool true)) := by
 have m1 := Nat.mod_lt ro (show 0 < 6 by decide)
 have e1 : (ro : Int).tmod 6 = ((ro % 6 : Nat) : Int) := (Int.ofNat_tmod ro 6).symm
 have e2 : IntKind.i64.wrap ((ro % 6 : Nat) : Int) = ((ro % 6 : Nat) : Int) := IntWalk.i64_in _ ⟨by omega,by omega⟩
 have e3 : IntKind.i64.wrap (1 + ((ro % 6 : Nat) : Int)) = ((1 + ro % 6 : Nat) : Int) := by rw [show 1 + ((ro % 6 : Nat) : Int) = ((1 + ro % 6 : Nat) : Int) by omega]; exact IntWalk.i64_in _ ⟨by omega,by omega⟩
 refine spec_intro ok3 (Nat.le_of_ble_eq_true rfl) fun C hC => ?_
 refine aw_seq ?_
 refine aw_region ?_
 refine opsK_ofAlt rfl rfl rfl ?_
 refine opsK_ofAlt rfl rfl rfl ?_
 (repeat'(first|refine at_dst 18 ?_|refine at_dstD 18 ?_|refine st ?_|(apply B<;>intro hb<;>try cases hb)))<;>try refine At.mk ?_
 refine opsK_eq awake_spec rfl rfl rfl trivial rfl ?_
 (repeat'(first|refine at_dst 22 ?_|refine at_dstD 22 ?_|refine st ?_|(apply B<;>intro hb<;>try cases hb)))<;>try refine At.mk ?_
 refine opsK_spec rfl rfl (makeF_spec z hz) ⟨rawF_pure z,trivial⟩ rfl ?_
 rintro r ⟨l,fl,m,fm,n,d,S,fb,hT,rfl⟩
 have hn := hT.n
 have hd := hT.d
 have hfp : pureL (factP (hierP l S) (bookP m fb) n d) := factP_pure (hierP_pure l S) (bookP_pure m fb) n d
 have hfr := factR_pure l fl m fm n d
 have hpc : ∀ D,innL D (factP (hierP l S) (bookP m fb) n d) := fun D => innL_mono (fun _ h => h.elim) _ hfp
 have hrc : ∀ D,innL D (factR l fl m fm n d) := fun D => innL_mono (fun _ h => h.elim) _ hfr
 (repeat'(first|refine at_dst 9 ?_|refine at_dstD 9 ?_|refine st ?_|(apply B<;>intro hb<;>try cases hb)))<;>try refine At.mk ?_
 refine opsK_sub (subA_freezeBox (k := 7) rfl rfl hfp) ?_
 refine opsK_sub (subA_freezeBox (k := 8) rfl rfl hfr) ?_
 (repeat'(first|refine at_dst 29 ?_|refine at_dstD 29 ?_|refine st ?_|(apply B<;>intro hb<;>try cases hb)))<;>try refine At.mk ?_
 refine opsK_eq (fit_spec ur rr tr) rfl rfl rfl ⟨⟨trivial,trivial,trivial,trivial⟩,trivial⟩ rfl ?_
 have hfo := fitE_ok ur rr tr
 obtain ⟨a,ha⟩ : ∃ a : En,a = ⟨(fitE ur rr tr).u,1 + ro % 6,(fitE ur rr tr).t⟩ := ⟨_,rfl⟩
 have hau : a.u = (fitE ur rr tr).u := by rw [ha]
 have hat : a.t = (fitE ur rr tr).t := by rw [ha]
 have har : a.r = 1 + ro % 6 := by rw [ha]
 have hao : EnOk a := ⟨by rw [hau]; exact hfo.u,by rw [har]; omega,by rw [hat]; exact hfo.t⟩
 have hae : enC a = [.val (.int .i64 ((fitE ur rr tr).u : Int)),.val (.int .i64 ((1 + ro % 6 : Nat) : Int)),.val (.int .i64 ((fitE ur rr tr).t : Int))] := by rw [ha]; rfl
 (repeat'(first|refine at_dst 36 ?_|refine at_dstD 36 ?_|refine st ?_|(apply B<;>intro hb<;>try cases hb)))<;>try refine At.mk ?_
 rw [e1,e2,e3]
 have hap : pureL (enC a) := enC_pure a
 have hac : ∀ D,innL D (enC a) := fun D => innL_mono (fun _ h => h.elim) _ hap
 refine opsK_sub (subA_freezeBox (k := 10) (l := [.val (.int .i64 ((fitE ur rr tr).u : Int)),.val (.int .i64 ((1 + ro % 6 : Nat) : Int)),.val (.int .i64 ((fitE ur rr tr).t : Int))]) rfl rfl ⟨trivial,trivial,trivial,trivial⟩) ?_
 rw [← hae]
 have hmo := hT.m.ok
 have hml := hT.m.len
 have hms := hT.m.asc
 have hmk : ∀ x∈m,KeyOk x := fun x hx => ⟨(hmo x hx).u.2,(hmo x hx).r.2⟩
 clear hae ha hau hat e1 e2 e3
 (repeat'(first|refine at_dst 44 ?_|refine at_dstD 44 ?_|refine st ?_|(apply B<;>intro hb<;>try cases hb)))<;>try refine At.mk ?_
 refine opsK_spec rfl rfl (assignB_spec m fb a hms hmo hao (by omega)) ⟨bookP_pure m fb,trivial,trivial,trivial,trivial⟩ rfl ?_
 rintro r ⟨m',hP,rfl⟩
 have hgp : pureL (factP (hierP l S) (bookP m' false) n d) := factP_pure (hierP_pure l S) (bookP_pure m' false) n d
 have hgc : ∀ D,innL D (factP (hierP l S) (bookP m' false) n d) := fun D => innL_mono (fun _ h => h.elim) _ hgp
 (repeat'(first|refine at_dst 14 ?_|refine at_dstD 14 ?_|refine st ?_|(apply B<;>intro hb<;>try cases hb)))<;>try refine At.mk ?_
 refine opsK_sub (subA_freezeBox (k := 13) (l := factP (hierP l S) (bookP m' false) n d) rfl rfl hgp) ?_
 (refine go ?_;repeat' (apply B<;>intro hb<;>try cases hb))
 refine aw_loopH hC (fun k => 1≤k∧k≤n + 1) (fun k => n + 1 - k) 0 (fun k => [(7,.cp (factP (hierP l S) (bookP m fb) n d)),(8,.cp (factR l fl m fm n d)),(10,.cp (enC a)),(13,.cp (factP (hierP l S) (bookP m' false) n d)),(14,.val (.int .i64 (k : Int)))]) (fun _=>[]) (Nat.zero_le _) 1 ⟨Nat.le_refl _,by omega⟩
  ⟨⟨rfl,hpc _⟩,⟨rfl,hrc _⟩,⟨rfl,hac _⟩,⟨rfl,hgc _⟩,⟨rfl,trivial⟩,trivial⟩ trivial ?_
 rintro k ⟨hk1,hk2⟩
 have hinc : IntKind.i64.wrap ((k : Int) + 1) = ((k + 1 : Nat) : Int) := IntWalk.i64_in _ ⟨by omega,by omega⟩
 have hus := untilB_spec m fb k a.r hms hmk ⟨hk1,by omega⟩ hao.r (by omega)
 (repeat'(first|refine at_dst 55 ?_|refine at_dstD 55 ?_|refine st ?_|(apply B<;>intro hb<;>try cases hb)))<;>try refine At.mk ?_
 refine opsK_bool rfl rfl rfl (fun hb=>?_) (fun hb=>?_)
 · have hkn : k ≤ n := by have := of_decide_eq_true hb; omega
   clear hb
   have hm1 := memb_in l m (d := d) hk1 hkn
   have hm2 := memb_in l m' (d := d) hk1 hkn
   have hmx := memberX_spec hT hP S false (k : Int)
   have hnext : ∀ {e : Env},True := fun {e} => trivial
   clear hnext
   (repeat'(first|refine at_dst 60 ?_|refine at_dstD 60 ?_|refine st ?_|(apply B<;>intro hb<;>try cases hb)))<;>try refine At.mk ?_
   refine opsK_eq (memberP_spec hT S fb (k : Int)) rfl rfl rfl ⟨hfp,trivial,trivial⟩ rfl ?_
   by_cases hka : k = a.u
   · have d64 : (((k : Nat) : Int) == (a.u : Int)) = true := by rw [hka]; simp
     by_cases hda : d≤a.t
     · have d70 : decide ((d : Int) ≤ (a.t : Int)) = true := decide_eq_true (by omega)
       have d97 : decide ((a.t : Int) < (d : Int)) = false := decide_eq_false (by omega)
       have hB : memb l m' n d (k : Int) = memb l m n d (k : Int) ||| jun l a.r := by
        rw [hm1,hm2,hka,put_more hP (by omega) hda]
        exact clo_or l _ a.r (onN_lt hmo _ _) hao.r.1 (by have := hao.r;omega)
       rw [hB] at hmx
       have hj64 := jun_64 l (show a.r < 64 by have := hao.r;omega)
       have hor := orS_spec (memb l m n d (k : Int)) (jun l a.r) (memb_lt l m n d _) hj64
       have heq := equal_yes (memb l m n d (k : Int) ||| jun l a.r) (or_lt (memb_lt l m n d _) hj64)
       have hjs := juniors_spec l S (a.r : Int)
       rw [if_pos ⟨by have := hao.r; omega,by have := hao.r; omega⟩,Int.toNat_natCast] at hjs
       (repeat'(first|refine at_dst 64 ?_|refine at_dstD 64 ?_|refine st ?_|(apply B<;>intro hb<;>try cases hb)))<;>try refine At.mk ?_
       refine opsK_of (E_boolEq rfl d64) rfl rfl ?_
       (repeat'(first|refine at_dst 70 ?_|refine at_dstD 70 ?_|refine st ?_|(apply B<;>intro hb<;>try cases hb)))<;>try refine At.mk ?_
       refine opsK_on rfl ?_
       refine opsK_of (E_boolEq rfl d70) rfl rfl ?_
       (repeat'(first|refine at_dst 77 ?_|refine at_dstD 77 ?_|refine st ?_|(apply B<;>intro hb<;>try cases hb)))<;>try refine At.mk ?_
       refine dK_eq hjs rfl rfl rfl ⟨hierP_pure l S,trivial,trivial⟩ ?_
       (repeat'(first|refine at_dst 78 ?_|refine at_dstD 78 ?_|refine st ?_|(apply B<;>intro hb<;>try cases hb)))<;>try refine At.mk ?_
       refine dK_eq hor rfl rfl rfl ⟨setN_pure _,setN_pure _,trivial⟩ ?_
       (repeat'(first|refine at_dst 85 ?_|refine at_dstD 85 ?_|refine st ?_|(apply B<;>intro hb<;>try cases hb)))<;>try refine At.mk ?_
       refine opsK_spec rfl rfl hus ⟨bookP_pure m fb,trivial,trivial,trivial⟩ rfl ?_
       rintro v (⟨rfl,hno⟩ | ⟨q,hq,hq1,hq2,rfl⟩)
       · (repeat'(first|refine at_dst 91 ?_|refine at_dstD 91 ?_|refine st ?_|(apply B<;>intro hb<;>try cases hb)))<;>try refine At.mk ?_
         refine opsK_of (E_boolEq rfl d64) rfl rfl ?_
         (repeat'(first|refine at_dst 97 ?_|refine at_dstD 97 ?_|refine st ?_|(apply B<;>intro hb<;>try cases hb)))<;>try refine At.mk ?_
         refine opsK_on rfl ?_
         refine opsK_of (E_boolEq rfl d97) rfl rfl ?_
         (repeat'(first|refine at_dst 110 ?_|refine at_dstD 110 ?_|refine st ?_|(apply B<;>intro hb<;>try cases hb)))<;>try refine At.mk ?_
         refine dK_eq hmx rfl rfl rfl ⟨hgp,trivial,trivial⟩ ?_
         (repeat'(first|refine at_dst 112 ?_|refine at_dstD 112 ?_|refine st ?_|(apply B<;>intro hb<;>try cases hb)))<;>try refine At.mk ?_
         refine dK_eq heq rfl rfl rfl ⟨setN_pure _,setN_pure _,trivial⟩ ?_
         (refine go ?_;repeat' (apply B<;>intro hb<;>try cases hb))
         exact ⟨k + 1,⟨by omega,by omega⟩,by omega,⟨⟨rfl,hpc _⟩,⟨rfl,hrc _⟩,⟨rfl,hac _⟩,⟨rfl,hgc _⟩,⟨by show some _ = some _; rw [hinc],trivial⟩,trivial⟩,trivial⟩
       · (repeat'(first|refine at_dst 91 ?_|refine at_dstD 91 ?_|refine st ?_|(apply B<;>intro hb<;>try cases hb)))<;>try refine At.mk ?_
         refine opsK_of (E_boolEq rfl d64) rfl rfl ?_
         (repeat'(first|refine at_dst 97 ?_|refine at_dstD 97 ?_|refine st ?_|(apply B<;>intro hb<;>try cases hb)))<;>try refine At.mk ?_
         refine opsK_on rfl ?_
         refine opsK_of (E_boolEq rfl d97) rfl rfl ?_
         (repeat'(first|refine at_dst 110 ?_|refine at_dstD 110 ?_|refine st ?_|(apply B<;>intro hb<;>try cases hb)))<;>try refine At.mk ?_
         refine dK_eq hmx rfl rfl rfl ⟨hgp,trivial,trivial⟩ ?_
         (repeat'(first|refine at_dst 112 ?_|refine at_dstD 112 ?_|refine st ?_|(apply B<;>intro hb<;>try cases hb)))<;>try refine At.mk ?_
         refine dK_eq heq rfl rfl rfl ⟨setN_pure _,setN_pure _,trivial⟩ ?_
         (refine go ?_;repeat' (apply B<;>intro hb<;>try cases hb))
         exact ⟨k + 1,⟨by omega,by omega⟩,by omega,⟨⟨rfl,hpc _⟩,⟨rfl,hrc _⟩,⟨rfl,hac _⟩,⟨rfl,hgc _⟩,⟨by show some _ = some _; rw [hinc],trivial⟩,trivial⟩,trivial⟩
     · have d70 : decide ((d : Int) ≤ (a.t : Int)) = false := decide_eq_false (by omega)
       have d97 : decide ((a.t : Int) < (d : Int)) = true := decide_eq_true (by omega)
       have heq := equal_yes (memb l m n d (k : Int)) (memb_lt l m n d _)
       have hC : (∀ q∈m,q.u = k→q.r = a.r→q.t < d)→memb l m' n d (k : Int) = memb l m n d (k : Int) := fun h => by
        rw [hm1,hm2,put_same hP fun _ => ⟨by omega,h⟩]
       (repeat'(first|refine at_dst 64 ?_|refine at_dstD 64 ?_|refine st ?_|(apply B<;>intro hb<;>try cases hb)))<;>try refine At.mk ?_
       refine opsK_of (E_boolEq rfl d64) rfl rfl ?_
       (repeat'(first|refine at_dst 70 ?_|refine at_dstD 70 ?_|refine st ?_|(apply B<;>intro hb<;>try cases hb)))<;>try refine At.mk ?_
       refine opsK_on rfl ?_
       refine opsK_of (E_boolEq rfl d70) rfl rfl ?_
       (repeat'(first|refine at_dst 85 ?_|refine at_dstD 85 ?_|refine st ?_|(apply B<;>intro hb<;>try cases hb)))<;>try refine At.mk ?_
       refine opsK_spec rfl rfl hus ⟨bookP_pure m fb,trivial,trivial,trivial⟩ rfl ?_
       rintro v (⟨rfl,hno⟩ | ⟨q,hq,hq1,hq2,rfl⟩)
       · rw [hC fun q hq h1 h2 => (hno q hq ⟨h1, h2⟩).elim] at hmx
         (repeat'(first|refine at_dst 91 ?_|refine at_dstD 91 ?_|refine st ?_|(apply B<;>intro hb<;>try cases hb)))<;>try refine At.mk ?_
         refine opsK_of (E_boolEq rfl d64) rfl rfl ?_
         (repeat'(first|refine at_dst 97 ?_|refine at_dstD 97 ?_|refine st ?_|(apply B<;>intro hb<;>try cases hb)))<;>try refine At.mk ?_
         refine opsK_on rfl ?_
         refine opsK_of (E_boolEq rfl d97) rfl rfl ?_
         (repeat'(first|refine at_dst 110 ?_|refine at_dstD 110 ?_|refine st ?_|(apply B<;>intro hb<;>try cases hb)))<;>try refine At.mk ?_
         refine dK_eq hmx rfl rfl rfl ⟨hgp,trivial,trivial⟩ ?_
         (repeat'(first|refine at_dst 112 ?_|refine at_dstD 112 ?_|refine st ?_|(apply B<;>intro hb<;>try cases hb)))<;>try refine At.mk ?_
         refine dK_eq heq rfl rfl rfl ⟨setN_pure _,setN_pure _,trivial⟩ ?_
         (refine go ?_;repeat' (apply B<;>intro hb<;>try cases hb))
         exact ⟨k + 1,⟨by omega,by omega⟩,by omega,⟨⟨rfl,hpc _⟩,⟨rfl,hrc _⟩,⟨rfl,hac _⟩,⟨rfl,hgc _⟩,⟨by show some _ = some _; rw [hinc],trivial⟩,trivial⟩,trivial⟩
       · (repeat'(first|refine at_dst 91 ?_|refine at_dstD 91 ?_|refine st ?_|(apply B<;>intro hb<;>try cases hb)))<;>try refine At.mk ?_
         refine opsK_of (E_boolEq rfl d64) rfl rfl ?_
         (repeat'(first|refine at_dst 97 ?_|refine at_dstD 97 ?_|refine st ?_|(apply B<;>intro hb<;>try cases hb)))<;>try refine At.mk ?_
         refine opsK_on rfl ?_
         refine opsK_of (E_boolEq rfl d97) rfl rfl ?_
         by_cases hqd : d≤q.t
         · have d106 : decide ((q.t : Int) ≥ (d : Int)) = true := decide_eq_true (by omega)
           (repeat'(first|refine at_dst 106 ?_|refine at_dstD 106 ?_|refine st ?_|(apply B<;>intro hb<;>try cases hb)))<;>try refine At.mk ?_
           refine opsK_on rfl ?_
           refine opsK_of (E_boolEq rfl d106) rfl rfl ?_
           (refine go ?_;repeat' (apply B<;>intro hb<;>try cases hb))
           exact ⟨k + 1,⟨by omega,by omega⟩,by omega,⟨⟨rfl,hpc _⟩,⟨rfl,hrc _⟩,⟨rfl,hac _⟩,⟨rfl,hgc _⟩,⟨by show some _ = some _; rw [hinc],trivial⟩,trivial⟩,trivial⟩
         · have d106 : decide ((q.t : Int) ≥ (d : Int)) = false := decide_eq_false (by omega)
           rw [hC fun p hp h1 h2=>by rw [key_one hms hp hq (by omega) (by omega)]; omega] at hmx
           (repeat'(first|refine at_dst 106 ?_|refine at_dstD 106 ?_|refine st ?_|(apply B<;>intro hb<;>try cases hb)))<;>try refine At.mk ?_
           refine opsK_on rfl ?_
           refine opsK_of (E_boolEq rfl d106) rfl rfl ?_
           (repeat'(first|refine at_dst 110 ?_|refine at_dstD 110 ?_|refine st ?_|(apply B<;>intro hb<;>try cases hb)))<;>try refine At.mk ?_
           refine dK_eq hmx rfl rfl rfl ⟨hgp,trivial,trivial⟩ ?_
           (repeat'(first|refine at_dst 112 ?_|refine at_dstD 112 ?_|refine st ?_|(apply B<;>intro hb<;>try cases hb)))<;>try refine At.mk ?_
           refine dK_eq heq rfl rfl rfl ⟨setN_pure _,setN_pure _,trivial⟩ ?_
           (refine go ?_;repeat' (apply B<;>intro hb<;>try cases hb))
           exact ⟨k + 1,⟨by omega,by omega⟩,by omega,⟨⟨rfl,hpc _⟩,⟨rfl,hrc _⟩,⟨rfl,hac _⟩,⟨rfl,hgc _⟩,⟨by show some _ = some _; rw [hinc],trivial⟩,trivial⟩,trivial⟩
   · have d64 : (((k : Nat) : Int) == (a.u : Int)) = false := by simp; omega
     have heq := equal_yes (memb l m n d (k : Int)) (memb_lt l m n d _)
     rw [show memb l m' n d (k : Int) = memb l m n d (k : Int) by rw [hm1,hm2,put_same hP fun h => (hka h).elim]] at hmx
     (repeat'(first|refine at_dst 64 ?_|refine at_dstD 64 ?_|refine st ?_|(apply B<;>intro hb<;>try cases hb)))<;>try refine At.mk ?_
     refine opsK_of (E_boolEq rfl d64) rfl rfl ?_
     (repeat'(first|refine at_dst 85 ?_|refine at_dstD 85 ?_|refine st ?_|(apply B<;>intro hb<;>try cases hb)))<;>try refine At.mk ?_
     refine opsK_spec rfl rfl hus ⟨bookP_pure m fb,trivial,trivial,trivial⟩ rfl ?_
     rintro v (⟨rfl,hno⟩ | ⟨q,hq,hq1,hq2,rfl⟩)
     all_goals
      (repeat'(first|refine at_dst 91 ?_|refine at_dstD 91 ?_|refine st ?_|(apply B<;>intro hb<;>try cases hb)))<;>try refine At.mk ?_
      refine opsK_of (E_boolEq rfl d64) rfl rfl ?_
      (repeat'(first|refine at_dst 110 ?_|refine at_dstD 110 ?_|refine st ?_|(apply B<;>intro hb<;>try cases hb)))<;>try refine At.mk ?_
      refine dK_eq hmx rfl rfl rfl ⟨hgp,trivial,trivial⟩ ?_
      (repeat'(first|refine at_dst 112 ?_|refine at_dstD 112 ?_|refine st ?_|(apply B<;>intro hb<;>try cases hb)))<;>try refine At.mk ?_
      refine dK_eq heq rfl rfl rfl ⟨setN_pure _,setN_pure _,trivial⟩ ?_
      (refine go ?_;repeat' (apply B<;>intro hb<;>try cases hb))
      exact ⟨k + 1,⟨by omega,by omega⟩,by omega,⟨⟨rfl,hpc _⟩,⟨rfl,hrc _⟩,⟨rfl,hac _⟩,⟨rfl,hgc _⟩,⟨by show some _ = some _; rw [hinc],trivial⟩,trivial⟩,trivial⟩
 · have hkn : k = n + 1 := by have := of_decide_eq_false hb; omega
   clear hb
   have hll := goodL_len hT.l
   have d121 : ((((l.map prC).length : Nat) : Int) == (((l.map prC).length : Nat) : Int)) = true := by simp
   have hir := impliesR_spec l fl hT.l.small a.r a.r hao.r.1 (by have := hao.r;omega) hao.r.1 (by have := hao.r;omega)
   rw [(jun_bit hT.l.small a.r a.r).2 (.inr rfl)] at hir
   (repeat'(first|refine at_dst 119 ?_|refine at_dstD 119 ?_|refine st ?_|(apply B<;>intro hb<;>try cases hb)))<;>try refine At.mk ?_
   refine dK_eq (links_spec l S (by omega)) rfl rfl rfl ⟨hierP_pure l S,trivial⟩ ?_
   (repeat'(first|refine at_dst 121 ?_|refine at_dstD 121 ?_|refine st ?_|(apply B<;>intro hb<;>try cases hb)))<;>try refine At.mk ?_
   refine dK_of (E_boolEq rfl d121) rfl rfl ?_
   (repeat'(first|refine at_dst 129 ?_|refine at_dstD 129 ?_|refine st ?_|(apply B<;>intro hb<;>try cases hb)))<;>try refine At.mk ?_
   refine dK_on rfl ?_
   refine dK_eq hir rfl rfl rfl ⟨prs_pure l,trivial,trivial,trivial⟩ ?_
   (refine go ?_;repeat' (apply B<;>intro hb<;>try cases hb))
   exact ret_ok rfl trivial rfl
theorem meaningAssigns_law (z : RawF) (y : En) (ro : Nat) (hz : RawFok z) (hy : True) (hro : ro < 256) : Spec Tryz.prog 3 [.agg (rawF z),.agg (rawC y),.val (.int .u8 (ro : Int))] (· = .val (.bool true)) := meaningAssigns_law0 z y.u y.r y.t ro hz hro
end Go.Proofs.YtcoehdmpjflmlaaGreatDoor

namespace Go.Proofs.YtcoehdmpjflmlaaGreatDoor
open Go.ChangeShapes Go.WideShapes Go.ChangeAt Go.RowKit
set_option linter.unusedVariables false

theorem rows_enc {α : Type} {enc : α→List PV} {Q : α→Prop} : ∀ {ll : List (List PV)},(∀ l∈ll,∃ x,Q x∧l = enc x)→∃ xs : List α,(∀ x∈xs,Q x)∧ll = xs.map enc
 | [],_ => ⟨[],fun _ h => (by cases h),rfl⟩
 | l :: ll, h => by
   obtain ⟨x,h1,rfl⟩ := h l (List.mem_cons_self ..)
   obtain ⟨xs,h2,rfl⟩ := rows_enc fun l hl => h l (List.mem_cons_of_mem _ hl)
   refine ⟨x :: xs,fun y hy => ?_,rfl⟩
   rcases List.mem_cons.1 hy with rfl | hy
   · exact h1
   · exact h2 y hy
theorem shapeVs_three {P : Program} {s t u : TypeId} : ∀ {ps : List PV},ShapeVs P [s,t,u] ps→∃ a b c,ps = [a,b,c]∧ShapeV P s a∧ShapeV P t b∧ShapeV P u c
 | [a,b,c],⟨h1,h2,h3,_⟩ => ⟨a,b,c,rfl,h1,h2,h3⟩
theorem int_u8 {m : Int} (h : (Lit.int .u8 m).wf = true) : ∃ a : Nat,a < 256∧m = (a : Int) := by
 simp only [Lit.wf,Bool.and_eq_true,decide_eq_true_eq] at h
 obtain ⟨h1,h2⟩ := h
 have h3 : m≤255 := h2
 have h4 : 0≤m := h1
 exact ⟨m.toNat,by omega,by omega⟩
theorem int_u64 {m : Int} (h : (Lit.int .u64 m).wf = true) : ∃ a : Nat,a < 18446744073709551616∧m = (a : Int) := by
 simp only [Lit.wf,Bool.and_eq_true,decide_eq_true_eq] at h
 obtain ⟨h1,h2⟩ := h
 have h3 : m≤18446744073709551615 := h2
 have h4 : 0≤m := h1
 exact ⟨m.toNat,by omega,by omega⟩
theorem u8_shapeV {p : PV} (h : ShapeV Tryz.prog 5 p) : ∃ s : Nat,s < 256∧p = .val (.int .u8 (s : Int)) := by
 obtain ⟨m,w,rfl⟩ := shapeV_int h (k := .u8) (by kernel_rfl)
 obtain ⟨x,hx,rfl⟩ := int_u8 w
 exact ⟨x,hx,rfl⟩
theorem raw12_shape {n : Nat} {l : List PV} (h : Shape Tryz.prog n 27 l) : ∃ x : En,True∧l = rawC x := by
 have hl := shape_len h (k := 3) (by kernel_rfl)
 obtain ⟨n1,h1⟩ := shape_field h (i := 0) (off := 0) (ty := 5) (sz := 1) (by kernel_rfl)
 obtain ⟨n2,h2⟩ := shape_field h (i := 1) (off := 1) (ty := 5) (sz := 1) (by kernel_rfl)
 obtain ⟨n3,h3⟩ := shape_field h (i := 2) (off := 2) (ty := 5) (sz := 1) (by kernel_rfl)
 match l,hl with
 | [a, b, c], _ =>
   obtain ⟨m1,w1,e1⟩ := shape_int (show Shape _ n1 _ [a] from h1) (k := .u8) (by kernel_rfl)
   obtain ⟨m2,w2,e2⟩ := shape_int (show Shape _ n2 _ [b] from h2) (k := .u8) (by kernel_rfl)
   obtain ⟨m3,w3,e3⟩ := shape_int (show Shape _ n3 _ [c] from h3) (k := .u8) (by kernel_rfl)
   obtain ⟨x,hx,rfl⟩ := int_u8 w1
   obtain ⟨y,hy,rfl⟩ := int_u8 w2
   obtain ⟨t,ht,rfl⟩ := int_u8 w3
   simp only [List.cons.injEq,and_true] at e1 e2 e3
   subst e1; subst e2; subst e3
   exact ⟨⟨x,y,t⟩,trivial,rfl⟩
theorem raw12V_shape {p : PV} (h : ShapeV Tryz.prog 27 p) : ∃ x : En,True∧p = .agg (rawC x) := by
 obtain ⟨n,ps,rfl,h2⟩ := shapeV_struct h (k := 3) (by kernel_rfl)
 obtain ⟨x,hx,rfl⟩ := raw12_shape h2
 exact ⟨x,hx,rfl⟩
theorem rawFV_shape {p : PV} (h : ShapeV Tryz.prog 25 p) : ∃ z : RawF,RawFok z∧p = .agg (rawF z) := by
 obtain ⟨n,l,rfl,h0⟩ := shapeV_struct h (k := 4) (by kernel_rfl)
 clear h
 have h := h0
 have hl := shape_len h (k := 4) (by kernel_rfl)
 obtain ⟨n1,h1⟩ := shape_field h (i := 0) (off := 0) (ty := 22) (sz := 1) (by kernel_rfl)
 obtain ⟨n2,h2⟩ := shape_field h (i := 1) (off := 1) (ty := 23) (sz := 1) (by kernel_rfl)
 obtain ⟨n3,h3⟩ := shape_field h (i := 2) (off := 2) (ty := 5) (sz := 1) (by kernel_rfl)
 obtain ⟨n4,h4⟩ := shape_field h (i := 3) (off := 3) (ty := 5) (sz := 1) (by kernel_rfl)
 match l,hl with
 | [a, b, c, d], _ =>
   obtain ⟨m1,w1,e1⟩ := shape_int (show Shape _ n1 _ [a] from h1) (k := .u64) (by kernel_rfl)
   obtain ⟨n',ll,fl,_,g2,e2⟩ := shape_slice (show Shape _ n2 _ [b] from h2) (e := 27) (by kernel_rfl)
   obtain ⟨xs,_,rfl⟩ := rows_enc (enc := rawC) (Q := fun _ => True) fun l hl => raw12_shape (g2 l hl)
   obtain ⟨m3,w3,e3⟩ := shape_int (show Shape _ n3 _ [c] from h3) (k := .u8) (by kernel_rfl)
   obtain ⟨m4,w4,e4⟩ := shape_int (show Shape _ n4 _ [d] from h4) (k := .u8) (by kernel_rfl)
   obtain ⟨x,hx,rfl⟩ := int_u64 w1
   obtain ⟨y,hy,rfl⟩ := int_u8 w3
   obtain ⟨t,ht,rfl⟩ := int_u8 w4
   simp only [List.cons.injEq,and_true] at e1 e2 e3 e4
   subst e1; subst e2; subst e3; subst e4
   exact ⟨⟨x,xs,fl,y,t⟩,hx,rfl⟩
end Go.Proofs.YtcoehdmpjflmlaaGreatDoor

namespace Go.Proofs.YtcoehdmpjflmlaaGreatDoor
open Go.ChangeShapes Go.WideShapes Go.ChangeAt Go.RowKit
set_option linter.unusedVariables false

theorem meaningAssigns_spec : ∀ ps,ShapeVs Tryz.prog Tryz.f3.params.toList ps→pureL ps→Spec Tryz.prog 3 ps (· = .val (.bool true)) := by
 intro ps hs hp
 rw [show Tryz.f3.params.toList = [25,27,5] by kernel_rfl] at hs
 obtain ⟨a,b,c,rfl,k0,k1,k2⟩ := shapeVs_three hs
 obtain ⟨x0,h0,rfl⟩ := rawFV_shape k0
 obtain ⟨x1,h1,rfl⟩ := raw12V_shape k1
 obtain ⟨x2,h2,rfl⟩ := u8_shapeV k2
 exact meaningAssigns_law x0 x1 x2 h0 h1 h2

set_option maxRecDepth 100000 in
theorem meaningAssigns_lifted (os : Os) (started : os.Started) (H : Type) (enc : TypeId × Value→H) :
 ReturnsInHanded {} Tryz.checked os 3 .any (fun w args => (Rows.meaningAssignsSpec.pre enc Tryz.prog Tryz.f3 [] false w args∧laidMetH Tryz.prog laidV w)∧sizedMet enc Tryz.prog Tryz.f3 (OpenSpec.ofChange Rows.meaningAssignsSpec) false w args)
  (Rows.meaningAssignsSpec.post enc Tryz.prog Tryz.f3 false true false false) := by
 refine returnsInHanded_of_change_and (C := Tryz.checked) (X := fun w _ => laidMetH Tryz.prog laidV w) (fun _ _ _ hh h => h.of_heap hh) own started (by kernel_rfl) Tryz.func3
  (ChangeSpec.witness_shaped (enc := enc) (C := Tryz.checked) (os := os) (X := fun w _ => laidMetH Tryz.prog laidV w) false (World.doorLaid Tryz.prog 400 os) #[.agg #[.int .u64 0,.slice none 0 0,.int .u8 0,.int .u8 0],.agg #[.int .u8 0,.int .u8 0,.int .u8 0],.int .u8 0] 8 rfl (World.shaped_of_RefB (by kernel_rfl) (by kernel_rfl)) (by kernel_rfl) (by kernel_rfl) (by kernel_rfl) (door_met os _)) ?_
 intro W base args ds gs before hval hW _ hwt hL _
 exact law_contract (P := Tryz.prog) (G := partsG Tryz.prog Tryz.f3.params.toList) (by kernel_rfl) (inG_of (by kernel_rfl)) laidOut (parsOk_of (by kernel_rfl)) (tb := 4) (by kernel_rfl) (by kernel_rfl) rfl (fun ds hd => by
  match ds,hd with
  | [a,b,c],_ => exact ⟨rfl,rfl,rfl⟩) meaningAssigns_spec W (globs_in hL) base args ds gs before hval hW hwt

theorem meaningAssigns_holds : Rows.MeaningAssignsSaid :=
 OpenClaim.holds_of_wide 3 Tryz.f3 rfl rfl rfl rfl rfl rfl rfl ⟨rfl,rfl,rfl,rfl,rfl⟩ rfl rfl rfl rfl rfl (by kernel_rfl) Tryz.func3 (by kernel_rfl)
  (of_decide_eq_true (by kernel_rfl)) (by unfold Func.isWrapper; first | (rw [if_pos (by decide +kernel)]; kernel_rfl) | (rw [if_neg (by decide +kernel)]; exact ⟨rfl,rfl⟩))
  (fun os started H enc _ => meaningAssigns_lifted os started H enc)

theorem meaningAssigns_card : Rows.MeaningAssignsCardSaid :=
 Claim7.holds_tied_plain_at .later [] [.data] true (true, "6a592bd7f23a4f5349bd036d76b1275ed2707ce5de6cb214f1d1fcbee7ea5219") false
  meaningAssigns_holds (fun _ h=>by cases h) (by kernel_rfl) (fun _ h=>by cases h) meaningAssigns_row_tie rfl ⟨rfl,rfl⟩ (by kernel_rfl) rfl
  (fun f fn hf hfn => by
    obtain rfl : f = 3 := Option.some.inj ((show Tryz.prog.funcNamed "arbac/arbaclaw20.MeaningAssigns" = some 3 by kernel_rfl).symm.trans hf) |>.symm
    obtain rfl : fn = Tryz.f3 := (Option.some.inj (Tryz.func3.symm.trans hfn)).symm
    exact ⟨by kernel_rfl,fun j t ht => by
     rw [show Tryz.f3.params = #[25,27,5] by kernel_rfl] at ht
     have hm : t∈[25,27,5] := by simpa using Array.mem_of_getElem? ht
     have hall : ([25,27,5].all fun u => !Tryz.prog.wantsStandIn u) = true := by kernel_rfl
     exact (show Tryz.prog.wantsStandIn t = false by simpa using List.all_eq_true.1 hall t hm)⟩)
  (by kernel_rfl)
#print axioms meaningAssigns_card
end Go.Proofs.YtcoehdmpjflmlaaGreatDoor
