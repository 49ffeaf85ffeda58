/-
 Proved: for every input the law WitnessErrors returns true,never panics,and leaves its arguments as0 they were,on the given card's conditions (the table of the bits package reads as0 the program's text lays it,and is tied to it).
-/
import Derived.KernelRfl
import Derived.Lib.OthersKept
import Derived.SevenTiedAt
import Derived.Shelf.Strconv.Itoa3
import Derived.Shelf.Strings.Builder1
import Derived.Shelf.Strings.BuilderF
import Derived.Shelf.Strings.BuilderK
import Derived.Shelf.Strings.OnBuilder
import Derived.TacticsInMore
import Derived.Test.YtjpkfigmmmngnaaGreatDoorCards
import Derived.Test.YtjpkfigmmmngnaaGreatDoorChecked
import Derived.Test.YtjpkfigmmmngnaaGreatDoorTie
import Derived.Test.YtjpkfigmmmngnaaGreatDoorMq5
set_option linter.unusedSimpArgs false
set_option linter.unusedVariables false
set_option linter.unusedSectionVars false
namespace Go.Proofs.YtjpkfigmmmngnaaGreatDoor
open Go.RowKit
attribute [local irreducible] aw opsK dK
def stC (s:Nat):List PV := [.vec (words (digs s)) false]
theorem Z4R (s:Nat):pureL (stC s):=⟨Za _,trivial⟩
def seL (l:List Nat):List (List PV):=l.map stC
theorem Z16 (l:List Nat):pureLL (seL l):=Z2n (enc:=stC) Z4R l
theorem Z9k (l:List Nat):(seL l).length=l.length:=by simp [seL]
abbrev S64:={ s:Nat // s<18446744073709551616 }
theorem allS64 {xs:List Nat} (h:∀ c∈xs,c<18446744073709551616):∃ l:List S64,l.map (·.1)=xs:=by
 induction xs with
 | nil=>exact⟨[],rfl⟩
 | cons c xs ih =>
   obtain⟨l,hl⟩:=ih fun d hd=>h d (List.mem_cons_of_mem _ hd)
   exact⟨⟨c,h c (List.mem_cons_self ..)⟩ :: l,by rw [List.map_cons,hl]⟩
theorem Z9l {n ob:Nat} {h:Heap} (xs:List Nat) (hx:∀ c∈xs,c<18446744073709551616) (hh:h ob=some ⟨1,seL xs⟩) :
 ISpec Tryz.prog 115 n [.own ob,.fn 116 []] h fun n' r h'=>n'=n∧r=.tup []∧∃ ys:List Nat,ys.Perm xs∧SortedK ys∧h'=h.upd ob ⟨1,seL ys⟩:=by
 obtain⟨l,rfl⟩:=allS64 hx
 have e:∀ l:List S64,seL (l.map (·.1))=l.map fun c:S64=>stC c.1:=fun l=>by unfold seL; rw [List.map_map]; rfl
 rw [e] at hh
 have hs:=Z4f (P:=Tryz.prog) (ρ:=Z2D) (n:=n) sortSet ⟨_,Tryz.func115,by kernel_rfl,by kernel_rfl⟩ 1 (by decide) Z9j Z88 (fun c:S64=>stC c.1) (fun c=>rfl) (fun c=>Z4R c.1) (fun c:S64=>key c.1) (fun a b:S64=>sgnI (key a.1) (key b.1)) (fun a b=>Za1) 116 [] trivial (fun a b=>Z2B a.1 b.1 a.2 b.2) l hh
 refine hs.mono ?_
 rintro n' r h' ⟨h1,h2,ys,h3,h4,h5⟩
 refine⟨h1,h2,ys.map (·.1),h3.map _,?_,by rw [e]; exact h5⟩
 exact List.pairwise_map.2 h4
theorem Z5G (l:List Nat):(intsN l).length=l.length:=by simp [intsN]
theorem Z9m (good:Nat→Bool) (a:Nat) (r:List Nat) (s:Nat):smStep good (a :: r) s=if popK 64 a<popK 64 s then a :: r else if good s then (if popK 64 s<popK 64 a then [s] else a :: r ++ [s]) else a :: r:=rfl
inductive SmR (E:Nat) (good:Nat→Bool):PV→Prop
 | many (h:12<popK 64 E):SmR E good (.tup [.vec [] true,.val (.int .i64 3)])
 | found (h:popK 64 E≤12) (out:List Nat) (fl:Bool) (hm:Mins (fun s=>s ||| E=E) good out) (hs:SortedK out):SmR E good (.tup [.vec (seL out) fl,.val (.int .i64 (if out = [] then 4 else 0))])
set_option maxHeartbeats 16000000 in
theorem Z3m {E:Nat} (hE:E<18446744073709551616) {g:Nat} {caps:List PV} (hc:pureL caps) {good:Nat→Bool} (hg:∀ s,s<18446744073709551616→Spec Tryz.prog g (setN s :: caps) (· = .val (.bool (good s)))):Spec Tryz.prog 63 [.vec (nums (intsN (mem E))) false,.fn g caps] (SmR E good):=by
 have hcp:∀ D,innL D caps:=fun D=>ZI (fun _ h=>h.elim) _ hc
 have hL:(nums (intsN (mem E))).length=(mem E).length:=by rw [ZW,Z5G]
 have hpk:=Za6 E
 refine Z2 ok63 (Nat.le_of_ble_eq_true rfl) fun C hC=>?_
 (repeat'(first|refine Z6 13 ?_|refine Z3 13 ?_|refine st ?_|(apply B<;>intro hb<;>try cases hb)))<;>try refine At.mk ?_
 refine Zz rfl rfl rfl (fun hb=>?_) (fun hb=>?_)
 · have hmany : 12 < popK 64 E := by have := of_decide_eq_true hb; rw [hL] at this; omega
   (refine go ?_;repeat' (apply B<;>intro hb<;>try cases hb))
   exact Z4 rfl ⟨trivial,trivial,trivial⟩ (.many hmany)
 have hle:popK 64 E≤12:=by have:=of_decide_eq_false hb; rw [hL] at this; omega
 clear hb
 have hn12:(mem E).length≤12:=by omega
 have hpw:2 ^ (mem E).length≤4096:=Nat.le_trans (Nat.pow_le_pow_right (by decide) hn12) (by decide)
 have h16:IntKind.i64.wrap (1*2 ^ (min (((nums (intsN (mem E))).length:Nat):Int).toNat IntKind.i64.bits))=((2 ^ (mem E).length:Nat):Int):=by
  rw [hL]; exact shl1 _ (by omega)
 repeat' (first|refine Ze (Z1d (k:=6) rfl 1 (by decide)) ?_|(first|refine st ?_|(apply B<;>intro hb<;>try cases hb)))
 refine Z2u hC (fun m=>m≤2 ^ (mem E).length) (fun m=>2 ^ (mem E).length-m) 1 (fun m => [(0,.vec (nums (intsN (mem E))) false),(1,.fn g caps),(6,.own 0),(16,.val (.int .i64 ((2 ^ (mem E).length:Nat):Int))),(17,.val (.int .i64 (m:Int)))]) (fun m => [(0,⟨1,seL (smAll (mem E) good m)⟩)]) (by omega) 0 (Nat.zero_le _) (fun i=>i) (fun _ _=>rfl) Z11
  ⟨⟨_,rfl,.pure _ (Z9 _)⟩,⟨_,rfl,.pure _ hc⟩,⟨_,rfl,.own 0 (by decide)⟩,⟨_,by rw [← h16]; rfl,.pure _ trivial⟩,⟨_,rfl,.pure _ trivial⟩,trivial⟩ ⟨⟨by omega,_,rfl,.same _ trivial⟩,trivial⟩ ?_
 intro m hm
 have hinc:IntKind.i64.wrap ((m:Int)+1)=((m+1:Nat):Int):=IntWalk.i64_in _ ⟨by omega,by omega⟩
 (repeat'(first|refine Z6 18 ?_|refine Z3 18 ?_|refine st ?_|(apply B<;>intro hb<;>try cases hb)))<;>try refine At.mk ?_
 refine Zz rfl rfl rfl (fun hb=>?_) (fun hb=>?_)
 · have hml : m < 2 ^ (mem E).length := by have := of_decide_eq_true hb; omega
   clear hb
   (refine go ?_;repeat' (apply B<;>intro hb<;>try cases hb))
   refine Z2u hC (fun k=>k≤(mem E).length) (fun k=>(mem E).length-k) 2 (fun k => [(0,.vec (nums (intsN (mem E))) false),(1,.fn g caps),(6,.own 0),(7,.val (.int .i64 (m:Int))),(8,.ptr 1 0 0),(16,.val (.int .i64 ((2 ^ (mem E).length:Nat):Int))),(17,.val (.int .i64 (m:Int))),(20,.vec (nums (intsN (mem E))) false),(21,.val (.int .i64 ((mem E).length:Int))),(22,.val (.int .i64 (k:Int)))])
    (fun k => [(0,⟨1,seL (smAll (mem E) good m)⟩),(1,⟨1,[stC (subM ((mem E).take k) m)]⟩)]) (by omega) 0 (Nat.zero_le _) (fun i=>i) (fun _ _=>rfl) Z11
    ⟨⟨_,rfl,.pure _ (Z9 _)⟩,⟨_,rfl,.pure _ hc⟩,⟨_,rfl,.own 0 (by decide)⟩,⟨_,rfl,.pure _ trivial⟩,⟨_,rfl,.ptr (ρ:=fun i=>i) 1 0 0 (by decide)⟩,⟨_,rfl,.pure _ trivial⟩,⟨_,rfl,.pure _ trivial⟩,⟨_,rfl,.pure _ (Z9 _)⟩,⟨_,by rw [← hL]; rfl,.pure _ trivial⟩,⟨_,rfl,.pure _ trivial⟩,trivial⟩
    ⟨⟨by decide,_,rfl,.same _ (Z16 _)⟩,⟨by decide,⟨1,[[.vec [] true]]⟩,rfl,by rw [List.take_zero,show stC (subM [] m) = [.vec [] false] by (show [PV.vec (words (digs 0)) false]=_; rw [Zq]; rfl)]; exact RenB.single (ρ:=fun i=>i) (l0 := [.vec [] true]) (l := [.vec [] false]) (show RenLs _ _ [_] [_] from ⟨.low (.vec [] true) trivial,trivial⟩) rfl⟩,trivial⟩ ?_
   intro k hk
   have hkinc:IntKind.i64.wrap ((k:Int)+1)=((k+1:Nat):Int):=IntWalk.i64_in _ ⟨by omega,by omega⟩
   have nextK:∀ {v:PV},v=.agg (stC (subM ((mem E).take (k+1)) m))→v=.agg (stC (subM ((mem E).take (k+1)) m)):=fun h=>h
   (repeat'(first|refine Z6 23 ?_|refine Z3 23 ?_|refine st ?_|(apply B<;>intro hb<;>try cases hb)))<;>try refine At.mk ?_
   refine Zz rfl rfl rfl (fun hb=>?_) (fun hb=>?_)
   · have hkl : k < (mem E).length := by have := of_decide_eq_true hb; omega
     clear hb
     have hget : (intsN (mem E))[k]'(by rw [Z5G]; exact hkl) = (((mem E)[k] : Nat) : Int) := by simp [intsN]
     have hsn:=Z82 ((mem E).take k) (mem E)[k] m
     rw [← Zbp hkl,List.length_take,Nat.min_eq_left (Nat.le_of_lt hkl)] at hsn
     have hr64:=Z1I (List.getElem_mem hkl)
     have hcur:subM ((mem E).take k) m<18446744073709551616:=ZeF (n:=18446744073709551616) (fr:=E) (orSub.2 fun i hi=>by
      obtain⟨j,hj,h1,_⟩:=(Z42 _ _ _).1 hi
      exact (Z2a hE).1 (h1▸List.mem_of_mem_take (List.getElem_mem hj))) hE
     have hand:bits .and .i64 ((m / 2 ^ k:Nat):Int) 1=((m / 2 ^ k % 2:Nat):Int):=by
      rw [show (1:Int)=((1:Nat):Int) from rfl,Z6X _ 1 (Nat.lt_of_le_of_lt (Nat.div_le_self _ _) (by omega)) (by decide),Nat.and_one_is_mod]
     (refine go ?_;repeat' (apply B<;>intro hb<;>try cases hb))
     refine Z8 (Zo (xs:=intsN (mem E)) (g:=fun x => [.val (.int .i64 x)]) rfl rfl k rfl (by rw [Z5G]; exact hkl) rfl) rfl rfl ?_
     rw [hget]
     generalize (mem E)[k]=q at hsn hr64 ⊢
     (repeat'(first|refine Z6 29 ?_|refine Z3 29 ?_|refine st ?_|(apply B<;>intro hb<;>try cases hb)))<;>try refine At.mk ?_
     refine Zs rfl rfl rfl (ZeV m k (by omega)) ?_
     refine Zs rfl rfl rfl hand ?_
     refine Z4Y rfl rfl rfl (Zfs m k) ?_
     cases hbit:m.testBit k with
     | false =>
       rw [hbit,if_neg (by decide),Nat.or_zero] at hsn
       (refine go ?_;repeat' (apply B<;>intro hb<;>try cases hb))
       exact⟨k+1,fun i=>i,hkl,by omega,fun _ _=>rfl,Z11,⟨⟨_,rfl,.pure _ (Z9 _)⟩,⟨_,rfl,.pure _ hc⟩,⟨_,rfl,.own 0 (by decide)⟩,⟨_,rfl,.pure _ trivial⟩,⟨_,rfl,.ptr (ρ:=fun i=>i) 1 0 0 (by decide)⟩,⟨_,rfl,.pure _ trivial⟩,⟨_,rfl,.pure _ trivial⟩,⟨_,rfl,.pure _ (Z9 _)⟩,⟨_,rfl,.pure _ trivial⟩,⟨_,by show some _=some _; rw [hkinc],.pure _ trivial⟩,trivial⟩,
        ⟨⟨by decide,_,rfl,.same _ (Z16 _)⟩,⟨by decide,_,rfl,by rw [hsn]; exact .same _ ⟨Z4R _,trivial⟩⟩,trivial⟩⟩
     | true =>
       rw [hbit,if_pos rfl] at hsn
       have hws:=Z2Q (subM ((mem E).take k) m) (Nat.le_trans (Z1R hcur) (by decide)) (q:Int)
       rw [withN,if_pos ⟨by omega,by omega⟩,Int.toNat_natCast,← hsn] at hws
       (refine go ?_;repeat' (apply B<;>intro hb<;>try cases hb))
       refine Z5 hws rfl rfl rfl ⟨Z1 _,trivial,trivial⟩ rfl ?_
       (refine go ?_;repeat' (apply B<;>intro hb<;>try cases hb))
       exact⟨k+1,fun i=>i,hkl,by omega,fun _ _=>rfl,Z11,⟨⟨_,rfl,.pure _ (Z9 _)⟩,⟨_,rfl,.pure _ hc⟩,⟨_,rfl,.own 0 (by decide)⟩,⟨_,rfl,.pure _ trivial⟩,⟨_,rfl,.ptr (ρ:=fun i=>i) 1 0 0 (by decide)⟩,⟨_,rfl,.pure _ trivial⟩,⟨_,rfl,.pure _ trivial⟩,⟨_,rfl,.pure _ (Z9 _)⟩,⟨_,rfl,.pure _ trivial⟩,⟨_,by show some _=some _; rw [hkinc],.pure _ trivial⟩,trivial⟩,
        ⟨⟨by decide,_,rfl,.same _ (Z16 _)⟩,⟨by decide,_,rfl,.same _ ⟨Z4R _,trivial⟩⟩,trivial⟩⟩
   · have hkl : k = (mem E).length := by have := of_decide_eq_false hb; omega
     subst hkl
     rw [List.take_length]
     clear hb
     have hst:smAll (mem E) good (m+1)=smStep good (smAll (mem E) good m) (subM (mem E) m):=rfl
     have hs64:=Zd1 (m:=m) hE
     have hout:=Z7a hE good m
     have hol:=Z84 (mem E) good m
     generalize subM (mem E) m=s at hst hs64 ⊢
     generalize smAll (mem E) good m=out at hst hout hol ⊢
     cases out with
     | nil =>
       (refine go ?_;repeat' (apply B<;>intro hb<;>try cases hb))
       refine Zl (hg s hs64) rfl rfl rfl ⟨Z1 _,hc⟩ ?_
       cases hgs:good s with
       | false =>
         have hstep:smStep good [] s = []:=by unfold smStep; rw [hgs]; rfl
         (refine go ?_;repeat' (apply B<;>intro hb<;>try cases hb))
         exact⟨m+1,(fun i=>i),by omega,by omega,fun j hj=>absurd hj (Nat.not_lt_zero _),ZK rfl,⟨⟨_,rfl,.pure _ (Z9 _)⟩,⟨_,rfl,.pure _ hc⟩,⟨_,rfl,.own (ρ:=(fun i=>i)) 0 (by decide)⟩,⟨_,rfl,.pure _ trivial⟩,⟨_,by show some _=some _; rw [hinc],.pure _ trivial⟩,trivial⟩,⟨⟨by decide,_,rfl,by rw [hst,hstep]; exact .same _ (Z16 _)⟩,trivial⟩⟩
       | true =>
         have hstep:smStep good [] s = [s]:=by unfold smStep; rw [hgs]; rfl
         (refine go ?_;repeat' (apply B<;>intro hb<;>try cases hb))
         exact⟨m+1,mv 0 32,by omega,by omega,fun j hj=>absurd hj (Nat.not_lt_zero _),ZK rfl,⟨⟨_,rfl,.pure _ (Z9 _)⟩,⟨_,rfl,.pure _ hc⟩,⟨_,rfl,.own (ρ:=mv 0 32) 0 (by decide)⟩,⟨_,rfl,.pure _ trivial⟩,⟨_,by show some _=some _; rw [hinc],.pure _ trivial⟩,trivial⟩,⟨⟨by decide,_,rfl,by rw [hst,hstep]; exact .same ⟨1,seL [s]⟩ (Z16 [s])⟩,trivial⟩⟩
     | cons a r =>
       rw [List.length_cons] at hol
       have ha64:=hout a (List.mem_cons_self ..)
       have hpos:decide (((seL (a :: r)).length:Int)>0)=true:=decide_eq_true (by rw [Z9k,List.length_cons];omega)
       have hsc:=Z9m good a r s
       have l1:=Z2S s hs64
       have l2:=Z2S a ha64
       generalize popK 64 s=ps at hsc l1
       generalize popK 64 a=pa at hsc l2
       (repeat'(first|refine Z6 38 ?_|refine Z3 38 ?_|refine st ?_|(apply B<;>intro hb<;>try cases hb)))<;>try refine At.mk ?_
       refine Zm (Zp rfl hpos) rfl rfl ?_
       (refine go ?_;repeat' (apply B<;>intro hb<;>try cases hb))
       refine Zl l1 rfl rfl rfl ⟨Z1 _,trivial⟩ ?_
       (refine go ?_;repeat' (apply B<;>intro hb<;>try cases hb))
       refine Zm (ZJ (b:=⟨1,seL (a :: r)⟩) rfl rfl rfl 0 rfl (Nat.zero_lt_succ _) rfl) rfl rfl ?_
       (refine go ?_;repeat' (apply B<;>intro hb<;>try cases hb))
       refine Zl l2 rfl rfl rfl ⟨Z1 _,trivial⟩ ?_
       by_cases h1:pa<ps
       · have hd : decide (((ps : Nat) : Int) > ((pa : Nat) : Int)) = true := decide_eq_true (by omega)
         have hstep:smStep good (a :: r) s=a :: r:=by rw [hsc,if_pos h1]
         refine Z5P rfl ?_
         refine Zm (Zp rfl hd) rfl rfl ?_
         (refine go ?_;repeat' (apply B<;>intro hb<;>try cases hb))
         exact⟨m+1,(fun i=>i),by omega,by omega,fun j hj=>absurd hj (Nat.not_lt_zero _),ZK rfl,⟨⟨_,rfl,.pure _ (Z9 _)⟩,⟨_,rfl,.pure _ hc⟩,⟨_,rfl,.own (ρ:=(fun i=>i)) 0 (by decide)⟩,⟨_,rfl,.pure _ trivial⟩,⟨_,by show some _=some _; rw [hinc],.pure _ trivial⟩,trivial⟩,⟨⟨by decide,_,rfl,by rw [hst,hstep]; exact .same _ (Z16 _)⟩,trivial⟩⟩
       · have hd : decide (((ps : Nat) : Int) > ((pa : Nat) : Int)) = false := decide_eq_false (by omega)
         refine Z5P rfl ?_
         refine Zm (Zp rfl hd) rfl rfl ?_
         (refine go ?_;repeat' (apply B<;>intro hb<;>try cases hb))
         refine Zl (hg s hs64) rfl rfl rfl ⟨Z1 _,hc⟩ ?_
         cases hgs:good s with
         | false =>
           have hstep:smStep good (a :: r) s=a :: r:=by rw [hsc,if_neg h1,hgs]; rfl
           (refine go ?_;repeat' (apply B<;>intro hb<;>try cases hb))
           exact⟨m+1,(fun i=>i),by omega,by omega,fun j hj=>absurd hj (Nat.not_lt_zero _),ZK rfl,⟨⟨_,rfl,.pure _ (Z9 _)⟩,⟨_,rfl,.pure _ hc⟩,⟨_,rfl,.own (ρ:=(fun i=>i)) 0 (by decide)⟩,⟨_,rfl,.pure _ trivial⟩,⟨_,by show some _=some _; rw [hinc],.pure _ trivial⟩,trivial⟩,⟨⟨by decide,_,rfl,by rw [hst,hstep]; exact .same _ (Z16 _)⟩,trivial⟩⟩
         | true =>
           (repeat'(first|refine Z6 56 ?_|refine Z3 56 ?_|refine st ?_|(apply B<;>intro hb<;>try cases hb)))<;>try refine At.mk ?_
           refine Zm (Zp rfl hpos) rfl rfl ?_
           (refine go ?_;repeat' (apply B<;>intro hb<;>try cases hb))
           refine Zl l1 rfl rfl rfl ⟨Z1 _,trivial⟩ ?_
           (refine go ?_;repeat' (apply B<;>intro hb<;>try cases hb))
           refine Zm (ZJ (b:=⟨1,seL (a :: r)⟩) rfl rfl rfl 0 rfl (Nat.zero_lt_succ _) rfl) rfl rfl ?_
           (refine go ?_;repeat' (apply B<;>intro hb<;>try cases hb))
           refine Zl l2 rfl rfl rfl ⟨Z1 _,trivial⟩ ?_
           by_cases h2:ps<pa
           · have hd2 : decide (((ps : Nat) : Int) < ((pa : Nat) : Int)) = true := decide_eq_true (by omega)
             have hstep:smStep good (a :: r) s = [s]:=by rw [hsc,if_neg h1,hgs,if_pos rfl,if_pos h2]
             refine Z5P rfl ?_
             refine Zm (Zp rfl hd2) rfl rfl ?_
             (refine go ?_;repeat' (apply B<;>intro hb<;>try cases hb))
             exact⟨m+1,mv 0 33,by omega,by omega,fun j hj=>absurd hj (Nat.not_lt_zero _),ZK rfl,⟨⟨_,rfl,.pure _ (Z9 _)⟩,⟨_,rfl,.pure _ hc⟩,⟨_,rfl,.own (ρ:=mv 0 33) 0 (by decide)⟩,⟨_,rfl,.pure _ trivial⟩,⟨_,by show some _=some _; rw [hinc],.pure _ trivial⟩,trivial⟩,⟨⟨by decide,_,rfl,by rw [hst,hstep]; exact .same ⟨1,seL [s]⟩ (Z16 [s])⟩,trivial⟩⟩
           · have hd2 : decide (((ps : Nat) : Int) < ((pa : Nat) : Int)) = false := decide_eq_false (by omega)
             have hstep:smStep good (a :: r) s=a :: r ++ [s]:=by rw [hsc,if_neg h1,hgs,if_pos rfl,if_neg h2]
             refine Z5P rfl ?_
             refine Zm (Zp rfl hd2) rfl rfl ?_
             (repeat'(first|refine Z6 71 ?_|refine Z3 71 ?_|refine st ?_|(apply B<;>intro hb<;>try cases hb)))<;>try refine At.mk ?_
             refine ZT (ZQ (k:=0) (m := [stC s]) (fl:=true) (b:=⟨1,seL (a :: r)⟩) rfl rfl rfl (fun c hc=>by rw [List.mem_singleton] at hc; subst hc; rfl) rfl (by
              show ((seL (a :: r)).length+1)*24≤_
              rw [Z9k,List.length_cons];omega)) rfl rfl ?_
             (refine go ?_;repeat' (apply B<;>intro hb<;>try cases hb))
             exact⟨m+1,mv 0 32,by omega,by omega,fun j hj=>absurd hj (Nat.not_lt_zero _),ZK rfl,⟨⟨_,rfl,.pure _ (Z9 _)⟩,⟨_,rfl,.pure _ hc⟩,⟨_,rfl,.own (ρ:=mv 0 32) 0 (by decide)⟩,⟨_,rfl,.pure _ trivial⟩,⟨_,by show some _=some _; rw [hinc],.pure _ trivial⟩,trivial⟩,⟨⟨by decide,_,rfl,by rw [hst,hstep,show seL (a :: r ++ [s])=seL (a :: r) ++ [stC s] by simp [seL]]; exact .same _ (by show pureLL (seL (a :: r) ++ [stC s]); rw [show seL (a :: r) ++ [stC s]=seL (a :: r ++ [s]) by simp [seL]]; exact Z16 _)⟩,trivial⟩⟩
 · have hml : m = 2 ^ (mem E).length := by have := of_decide_eq_false hb; omega
   subst hml
   clear hb
   have hM:=Zd0 hE good
   have hout:=Z7a hE good (2 ^ (mem E).length)
   generalize smAll (mem E) good (2 ^ (mem E).length)=out at hM hout ⊢
   cases out with
   | nil =>
     (refine go ?_;repeat' (apply B<;>intro hb<;>try cases hb))
     exact Z4 rfl ⟨trivial,trivial,trivial⟩ (.found hle [] true hM List.Pairwise.nil)
   | cons a r =>
     (repeat'(first|refine Z6 75 ?_|refine Z3 75 ?_|refine st ?_|(apply B<;>intro hb<;>try cases hb)))<;>try refine At.mk ?_
     refine Z8 (Zp (v:=false) rfl (by show (((seL (a :: r)).length:Int) == 0)=false; rw [Z9k,beq_eq_false_iff_ne,List.length_cons];omega)) rfl rfl ?_
     (refine go ?_;repeat' (apply B<;>intro hb<;>try cases hb))
     refine ZM rfl rfl (Z9l (ob:=0) (a :: r) hout rfl) ?_
     rintro n' x h' ⟨rfl,rfl,ys,hp,hs,rfl⟩
     (repeat'(first|refine Z6 78 ?_|refine Z3 78 ?_|refine st ?_|(apply B<;>intro hb<;>try cases hb)))<;>try refine At.mk ?_
     refine Ze (Zj (k:=6) (id:=0) (b:=⟨1,seL ys⟩) rfl rfl (Z16 ys)) ?_
     (refine go ?_;repeat' (apply B<;>intro hb<;>try cases hb))
     have hne:ys≠[]:=fun h=>by subst h; have:=hp.length_eq; simp at this
     have:=SmR.found hle ys false (hM.perm hp) hs
     rw [if_neg hne] at this
     exact Z4 rfl ⟨Z16 _,trivial,trivial⟩ this
inductive RepR (f:Fm) (E:Nat) (good:Nat→Bool):PV→Prop
 | bad (h:checkM f≠0):RepR f E good (.tup [.vec [] true,.val (.int .i64 (checkM f))])
 | sm (h:checkM f=0) {r:PV} (hr:SmR E good r):RepR f E good r
set_option maxHeartbeats 2000000 in
theorem Z43 {f:Fm} (hm:HoldsW f) (hd:f.depth≤1000) (hsz:f.size≤1099511627776) (l:List Pr) (S:List Nat) (E:Nat) (hE:E<18446744073709551616) (h0:E.testBit 0=false):Spec Tryz.prog 20 [.agg (fC .u8 f),setN E,hierP l S] (RepR f E (gdR f l E)):=by
 have hcp:pureL [PV.cp (fC .u8 f),.cp [hierP l S],.cp [.vec (words (digs E)) false]]:=⟨Zg _ _,⟨Zr l S,trivial⟩,⟨Za _,trivial⟩,trivial⟩
 refine Z2 ok20 (Nat.le_of_ble_eq_true rfl) fun C hC=>?_
 refine Zf ?_
 refine Z7 ?_
 refine Z0 rfl rfl rfl ?_
 refine Z0 rfl rfl rfl ?_
 refine Z0 rfl rfl rfl ?_
 (refine go ?_;repeat' (apply B<;>intro hb<;>try cases hb))
 refine Z5 (Z3f f hd hsz l S E hE h0) rfl rfl rfl ⟨Zg _ _,Zr l S,Z1 E,trivial⟩ rfl ?_
 by_cases hk:checkM f=0
 · rw [hk]
   (refine go ?_;repeat' (apply B<;>intro hb<;>try cases hb))
   refine Z5 (Z5n E hE) rfl rfl rfl ⟨Z1 E,trivial⟩ rfl ?_
   (refine go ?_;repeat' (apply B<;>intro hb<;>try cases hb))
   refine Zu rfl rfl (Z3m hE (caps := [PV.cp (fC .u8 f),.cp [hierP l S],.cp [.vec (words (digs E)) false]]) hcp fun s hs=>Z7b hm l S E s hE hs) ⟨Z9 _,hcp,trivial⟩ rfl ?_
   rintro r hr
   rcases hr with h|⟨h,out,fl,h1,h2⟩
   · (refine go ?_;repeat' (apply B<;>intro hb<;>try cases hb))
     exact Z4 rfl ⟨trivial,trivial,trivial⟩ (.sm hk (.many h))
   · (refine go ?_;repeat' (apply B<;>intro hb<;>try cases hb))
     exact Z4 rfl ⟨Z16 _,trivial,trivial⟩ (.sm hk (.found h out fl h1 h2))
 · (repeat'(first|refine Z6 14 ?_|refine Z3 14 ?_|refine st ?_|(apply B<;>intro hb<;>try cases hb)))<;>try refine At.mk ?_
   refine Z8 (Zp (v:=true) rfl (bne_iff_ne.2 hk)) rfl rfl ?_
   (refine go ?_;repeat' (apply B<;>intro hb<;>try cases hb))
   exact Z4 rfl ⟨trivial,trivial,trivial⟩ (.bad hk)
set_option maxHeartbeats 2000000 in
theorem Z2Z {f:Fm} (hm:HoldsW f) (hd:f.depth≤1000) (hsz:f.size≤1099511627776) (l:List Pr) (S:List Nat) (E Y:Nat) (hE:E<18446744073709551616) (hY:Y<18446744073709551616) (h0:(E ||| Y).testBit 0=false):Spec Tryz.prog 21 [.agg (fC .u8 f),setN E,setN Y,hierP l S] (RepR f (minusN Y E) (gdA f l E)):=by
 have hcp:pureL [PV.cp (fC .u8 f),.cp [hierP l S],.cp [.vec (words (digs E)) false]]:=⟨Zg _ _,⟨Zr l S,trivial⟩,⟨Za _,trivial⟩,trivial⟩
 have hM:=Z4h E hY
 refine Z2 ok21 (Nat.le_of_ble_eq_true rfl) fun C hC=>?_
 refine Zf ?_
 refine Z7 ?_
 refine Z0 rfl rfl rfl ?_
 refine Z0 rfl rfl rfl ?_
 refine Z0 rfl rfl rfl ?_
 refine Z0 rfl rfl rfl ?_
 (refine go ?_;repeat' (apply B<;>intro hb<;>try cases hb))
 refine Zl (Z24 E Y hE hY) rfl rfl rfl ⟨Z1 E,Z1 Y,trivial⟩ ?_
 refine Zl (Z3f f hd hsz l S (E ||| Y) (Z2R hE hY) h0) rfl rfl rfl ⟨Zg _ _,Zr l S,Z1 _,trivial⟩ ?_
 by_cases hk:checkM f=0
 · rw [hk]
   (refine go ?_;repeat' (apply B<;>intro hb<;>try cases hb))
   refine Z5 (Z5E Y E hY hE) rfl rfl rfl ⟨Z1 Y,Z1 E,trivial⟩ rfl ?_
   refine Z5 (Z5n _ hM) rfl rfl rfl ⟨Z1 _,trivial⟩ rfl ?_
   (refine go ?_;repeat' (apply B<;>intro hb<;>try cases hb))
   refine Zu rfl rfl (Z3m hM (caps := [PV.cp (fC .u8 f),.cp [hierP l S],.cp [.vec (words (digs E)) false]]) hcp fun s hs=>Z5F hm l S E s hE hs) ⟨Z9 _,hcp,trivial⟩ rfl ?_
   rintro r hr
   rcases hr with h|⟨h,out,fl,h1,h2⟩
   · (refine go ?_;repeat' (apply B<;>intro hb<;>try cases hb))
     exact Z4 rfl ⟨trivial,trivial,trivial⟩ (.sm hk (.many h))
   · (refine go ?_;repeat' (apply B<;>intro hb<;>try cases hb))
     exact Z4 rfl ⟨Z16 _,trivial,trivial⟩ (.sm hk (.found h out fl h1 h2))
 · (repeat'(first|refine Z6 18 ?_|refine Z3 18 ?_|refine st ?_|(apply B<;>intro hb<;>try cases hb)))<;>try refine At.mk ?_
   refine Z8 (Zp (v:=true) rfl (bne_iff_ne.2 hk)) rfl rfl ?_
   (refine go ?_;repeat' (apply B<;>intro hb<;>try cases hb))
   exact Z4 rfl ⟨trivial,trivial,trivial⟩ (.bad hk)
theorem Zd3 {l:List Cu} {S i:Nat} (hi:i<l.length) (hno:(l.take i).any (fun c=>hoC c S)=false) (h:hoC l[i] S=true):firstC l S=some l[i]:=by
 have e:l=l.take i++l[i] :: l.drop (i+1):=by rw [← List.drop_eq_getElem_cons hi,List.take_append_drop]
 have h1:(l.take i).find? (fun c=>hoC c S)=none:=by rw [List.find?_eq_none]; rw [List.any_eq_false] at hno; exact hno
 unfold firstC
 generalize l[i]=c at e h
 rw [e,List.find?_append,h1,List.find?_cons,h]
 rfl
theorem Zag {f:Fm} (h:checkM f≠0):vioL f = []:=by unfold vioL; rw [if_neg h]
def ofWP (o:Option Cu):PV:=.tup [cuP (o.getD (0,0)),.val (.bool o.isSome)]
theorem Z5H (o:Option Cu):(ofWP o).pure:=⟨Z4O _,trivial,trivial⟩
theorem Z30:ofWP none=.tup [.agg [.vec [] false,.vec [] false],.val (.bool false)]:=by
 show PV.tup [.agg [.vec (words (digs 0)) false,.vec (words (digs 0)) false],_]=_
 rw [Zq]; rfl
set_option maxHeartbeats 4000000 in
theorem Z7c (f:Fm) (hd:f.depth≤1000) (hsz:f.size≤1099511627776) (S:Nat) (hS:S<18446744073709551616):Spec Tryz.prog 30 [.agg (fC .u8 f),setN S] (· = ofWP (firstC (vioL f) S)):=by
 have hok:=Zf6 f
 have hvp:∀ D,innLL D ((vioL f).map cuC):=fun D=>Zh (fun _ h=>h.elim) _ (Z10 _)
 have hnl:((vioL f).map cuC).length=(vioL f).length:=by simp
 have hfp:=fun D=>Z7y .u8 f D
 refine Z2 ok30 (Nat.le_of_ble_eq_true rfl) fun C hC=>?_
 refine Zf ?_
 refine Z7 ?_
 refine Z0 rfl rfl rfl ?_
 refine Z0 rfl rfl rfl ?_
 (refine go ?_;repeat' (apply B<;>intro hb<;>try cases hb))
 refine Z5 (Z2p f hd hsz) rfl rfl rfl ⟨Zg _ _,trivial,trivial⟩ rfl ?_
 by_cases hk:checkM f=0
 · rw [hk]
   (refine go ?_;repeat' (apply B<;>intro hb<;>try cases hb))
   refine Z5 (Z5u f hd hsz) rfl rfl rfl ⟨Zg _ _,trivial⟩ rfl ?_
   rw [hk]
   (refine go ?_;repeat' (apply B<;>intro hb<;>try cases hb))
   refine Z4o (k:=19) rfl fun hmax=>?_
   have hlm:(vioL f).length≤maxVec:=by rw [← hnl]; exact hmax
   refine ZR hC (fun i=>i≤(vioL f).length∧((vioL f).take i).any (fun c=>hoC c S)=false) (fun i=>(vioL f).length-i) 1 (fun i => [(3,.cp [.vec (words (digs S)) false]),(4,.ptr 0 0 0),(19,.vec ((vioL f).map cuC) false),(20,.val (.int .i64 ((vioL f).length:Int))),(21,.val (.int .i64 (i:Int)))])
    (fun i => [(0,⟨2,[[.vec [] true,.vec [] true]]⟩)]) (Nat.zero_le _) 0 ⟨Nat.zero_le _,rfl⟩
    ⟨⟨rfl,ZD _ _,trivial⟩,⟨rfl,show (0:Nat)<1 by decide⟩,⟨rfl,hvp _⟩,⟨by rw [← hnl]; rfl,trivial⟩,⟨rfl,trivial⟩,trivial⟩ ⟨⟨by decide,rfl,⟨⟨trivial,trivial,trivial⟩,trivial⟩⟩,trivial⟩ ?_
   rintro i ⟨hi,hno⟩
   have hinc:IntKind.i64.wrap ((i:Int)+1)=((i+1:Nat):Int):=IntWalk.i64_in _ ⟨by omega,by simp only [maxVec] at hlm; omega⟩
   (repeat'(first|refine Z6 22 ?_|refine Z3 22 ?_|refine st ?_|(apply B<;>intro hb<;>try cases hb)))<;>try refine At.mk ?_
   refine Zz rfl rfl rfl (fun hb=>?_) (fun hb=>?_)
   · have hil : i < (vioL f).length := by have := of_decide_eq_true hb; omega
     clear hb
     have hci:=hok _ (List.getElem_mem hil)
     (refine go ?_;repeat' (apply B<;>intro hb<;>try cases hb))
     refine Z8 (Zo (xs:=vioL f) (g:=cuC) rfl rfl i rfl hil rfl) rfl rfl ?_
     (refine go ?_;repeat' (apply B<;>intro hb<;>try cases hb))
     refine Z5 (Z8Z (vioL f)[i] S hci hS) rfl rfl rfl ⟨Z4O _,Z1 _,trivial⟩ rfl ?_
     cases hh:hoC (vioL f)[i] S with
     | false =>
       (refine go ?_;repeat' (apply B<;>intro hb<;>try cases hb))
       exact⟨i+1,⟨by omega,Z6T hil hno hh⟩,by omega,⟨⟨rfl,ZD _ _,trivial⟩,⟨rfl,show (0:Nat)<1 by decide⟩,⟨rfl,hvp _⟩,⟨rfl,trivial⟩,⟨by show some _=some _; rw [hinc],trivial⟩,trivial⟩,⟨⟨by decide,rfl,⟨⟨trivial,trivial,trivial⟩,trivial⟩⟩,trivial⟩⟩
     | true =>
       (refine go ?_;repeat' (apply B<;>intro hb<;>try cases hb))
       exact Z4 rfl (Z5H (some (vioL f)[i])) (by rw [Zd3 hil hno hh]; rfl)
   · have hil : i = (vioL f).length := by have := of_decide_eq_false hb; omega
     subst hil
     rw [List.take_length] at hno
     clear hb
     (refine go ?_;repeat' (apply B<;>intro hb<;>try cases hb))
     refine Z3o rfl (Z5H none |> fun h=>by rw [Z30] at h; exact h) ?_
     rw [show firstC (vioL f) S=none from Z9h.2 hno,Z30]; rfl
 · (repeat'(first|refine Z6 12 ?_|refine Z3 12 ?_|refine st ?_|(apply B<;>intro hb<;>try cases hb)))<;>try refine At.mk ?_
   refine Z8 (Zp (v:=true) rfl (bne_iff_ne.2 hk)) rfl rfl ?_
   (refine go ?_;repeat' (apply B<;>intro hb<;>try cases hb))
   refine Z3o rfl (Z5H none |> fun h=>by rw [Z30] at h; exact h) ?_
   rw [Zag hk,show firstC [] S=none from rfl,Z30]; rfl
end Go.Proofs.YtjpkfigmmmngnaaGreatDoor
namespace Go.Proofs.YtjpkfigmmmngnaaGreatDoor
open Go.Shelf
def Z9n:Go.Shelf.Ren:=⟨fun|171=>104|243=>145|246=>169|283=>207|284=>208|285=>209|286=>210|129=>182|317=>223|318=>224|319=>225|320=>226|337=>230|338=>71|n=>n,fun|3=>3|9=>9|2=>2|4=>4|171=>258|0=>0|53=>23|37=>22|5=>5|173=>260|212=>273|51=>238|20=>20|213=>274|46=>168|232=>279|233=>176|n=>n,fun|17=>2|18=>3|19=>0|n=>n⟩
theorem lays171:Go.Proofs.Lays.n171 Tryz.prog Z9n:={
 mixed:=by kernel_rfl
 f129:=Tryz.func182.trans (congrArg some (by kernel_rfl))
 f171:=Tryz.func104.trans (congrArg some (by kernel_rfl))
 f243:=Tryz.func145.trans (congrArg some (by kernel_rfl))
 f246:=Tryz.func169.trans (congrArg some (by kernel_rfl))
 f283:=Tryz.func207.trans (congrArg some (by kernel_rfl))
 f284:=Tryz.func208.trans (congrArg some (by kernel_rfl))
 f285:=Tryz.func209.trans (congrArg some (by kernel_rfl))
 f286:=Tryz.func210.trans (congrArg some (by kernel_rfl))
 f317:=Tryz.func223.trans (congrArg some (by kernel_rfl))
 f318:=Tryz.func224.trans (congrArg some (by kernel_rfl))
 f319:=Tryz.func225.trans (congrArg some (by kernel_rfl))
 f320:=Tryz.func226.trans (congrArg some (by kernel_rfl))
 f337:=Tryz.func230.trans (congrArg some (by kernel_rfl))
 f338:=Tryz.func71.trans (congrArg some (by kernel_rfl))
 t0:=Tryz.underlying0
 a0:=Tryz.isAgg0
 z0:=Tryz.sizeOf0
 v0:=Tryz.zeroValue0
 t2:=Tryz.underlying2
 a2:=Tryz.isAgg2
 z2:=Tryz.sizeOf2
 v2:=Tryz.zeroValue2
 t3:=Tryz.underlying3
 a3:=Tryz.isAgg3
 z3:=Tryz.sizeOf3
 v3:=Tryz.zeroValue3
 t4:=Tryz.underlying4
 a4:=Tryz.isAgg4
 z4:=Tryz.sizeOf4
 v4:=Tryz.zeroValue4
 t5:=Tryz.underlying5
 a5:=Tryz.isAgg5
 z5:=Tryz.sizeOf5
 v5:=Tryz.zeroValue5
 t9:=Tryz.underlying9
 a9:=Tryz.isAgg9
 z9:=Tryz.sizeOf9
 v9:=Tryz.zeroValue9
 t20:=Tryz.underlying20
 a20:=Tryz.isAgg20
 z20:=Tryz.sizeOf20
 v20:=Tryz.zeroValue20
 t37:=Tryz.underlying22
 a37:=Tryz.isAgg22
 z37:=Tryz.sizeOf22
 v37:=Tryz.zeroValue22
 t46:=Tryz.underlying168
 a46:=Tryz.isAgg168
 z46:=Tryz.sizeOf168
 v46:=Tryz.zeroValue168
 t51:=Tryz.underlying238
 a51:=Tryz.isAgg238
 z51:=Tryz.sizeOf238
 v51:=Tryz.zeroValue238
 t53:=Tryz.underlying23
 a53:=Tryz.isAgg23
 z53:=Tryz.sizeOf23
 v53:=Tryz.zeroValue23
 t171:=Tryz.underlying258
 a171:=Tryz.isAgg258
 z171:=Tryz.sizeOf258
 v171:=Tryz.zeroValue258
 t173:=Tryz.underlying260
 a173:=Tryz.isAgg260
 z173:=Tryz.sizeOf260
 v173:=Tryz.zeroValue260
 t212:=Tryz.underlying273
 a212:=Tryz.isAgg273
 z212:=Tryz.sizeOf273
 v212:=Tryz.zeroValue273
 t213:=Tryz.underlying274
 a213:=Tryz.isAgg274
 z213:=Tryz.sizeOf274
 t232:=Tryz.underlying279
 a232:=Tryz.isAgg279
 z232:=Tryz.sizeOf279
 v232:=Tryz.zeroValue279
 t233:=Tryz.underlying176
 a233:=Tryz.isAgg176
 z233:=Tryz.sizeOf176
 v233:=Tryz.zeroValue176
 g17:=by kernel_rfl
 g18:=by kernel_rfl
 g19:=by kernel_rfl }
def Z5I:Go.Shelf.Ren:=⟨fun|156=>100|165=>140|166=>107|169=>108|240=>146|241=>166|276=>170|277=>206|n=>n,fun|31=>95|9=>9|3=>3|4=>4|0=>0|20=>20|72=>158|76=>162|70=>156|37=>22|75=>160|127=>207|164=>226|5=>5|80=>104|n=>n,fun|n=>n⟩
theorem lays156:Go.Proofs.Lays.n156 Tryz.prog Z5I:={
 mixed:=by kernel_rfl
 f156:=Tryz.func100.trans (congrArg some (by kernel_rfl))
 f165:=Tryz.func140.trans (congrArg some (by kernel_rfl))
 f166:=Tryz.func107.trans (congrArg some (by kernel_rfl))
 f169:=Tryz.func108.trans (congrArg some (by kernel_rfl))
 f240:=Tryz.func146.trans (congrArg some (by kernel_rfl))
 f241:=Tryz.func166.trans (congrArg some (by kernel_rfl))
 f276:=Tryz.func170.trans (congrArg some (by kernel_rfl))
 f277:=Tryz.func206.trans (congrArg some (by kernel_rfl))
 t0:=Tryz.underlying0
 a0:=Tryz.isAgg0
 z0:=Tryz.sizeOf0
 v0:=Tryz.zeroValue0
 t3:=Tryz.underlying3
 a3:=Tryz.isAgg3
 z3:=Tryz.sizeOf3
 v3:=Tryz.zeroValue3
 t4:=Tryz.underlying4
 a4:=Tryz.isAgg4
 z4:=Tryz.sizeOf4
 v4:=Tryz.zeroValue4
 t9:=Tryz.underlying9
 a9:=Tryz.isAgg9
 z9:=Tryz.sizeOf9
 v9:=Tryz.zeroValue9
 t20:=Tryz.underlying20
 a20:=Tryz.isAgg20
 z20:=Tryz.sizeOf20
 v20:=Tryz.zeroValue20
 t31:=Tryz.underlying95
 a31:=Tryz.isAgg95
 z31:=Tryz.sizeOf95
 v31:=Tryz.zeroValue95
 t37:=Tryz.underlying22
 a37:=Tryz.isAgg22
 z37:=Tryz.sizeOf22
 v37:=Tryz.zeroValue22
 t70:=Tryz.underlying156
 a70:=Tryz.isAgg156
 z70:=Tryz.sizeOf156
 v70:=Tryz.zeroValue156
 t72:=Tryz.underlying158
 a72:=Tryz.isAgg158
 z72:=Tryz.sizeOf158
 v72:=Tryz.zeroValue158
 t75:=Tryz.underlying160
 a75:=Tryz.isAgg160
 z75:=Tryz.sizeOf160
 v75:=Tryz.zeroValue160
 t76:=Tryz.underlying162
 a76:=Tryz.isAgg162
 z76:=Tryz.sizeOf162
 v76:=Tryz.zeroValue162
 t127:=Tryz.underlying207
 a127:=Tryz.isAgg207
 z127:=Tryz.sizeOf207
 v127:=Tryz.zeroValue207
 t164:=Tryz.underlying226
 a164:=Tryz.isAgg226
 z164:=Tryz.sizeOf226
 v164:=Tryz.zeroValue226 }
theorem builderExtra156:Builder.Extra Tryz.prog Z5I:={
 sizeBuilder:=by kernel_rfl
 liesBuilder:=by kernel_rfl
 t5:=Tryz.underlying5
 a5:=Tryz.isAgg5
 z5:=Tryz.sizeOf5
 v5:=Tryz.zeroValue5
 infoByte:=by kernel_rfl
 cellsByte:=by kernel_rfl
 sizeByte:=by kernel_rfl
 neB5:=by decide }
def Z1Z:Go.Shelf.Ren:=⟨fun|167=>105|170=>106|156=>100|165=>140|166=>107|169=>108|240=>146|241=>166|276=>170|277=>206|n=>n,fun|31=>95|9=>9|3=>3|4=>4|0=>0|20=>20|72=>158|76=>162|70=>156|37=>22|75=>160|127=>207|164=>226|5=>5|80=>104|n=>n,fun|n=>n⟩
theorem lays166:Go.Proofs.Lays.n166 Tryz.prog Z1Z:={
 mixed:=by kernel_rfl
 f166:=Tryz.func107.trans (congrArg some (by kernel_rfl))
 f240:=Tryz.func146.trans (congrArg some (by kernel_rfl))
 f276:=Tryz.func170.trans (congrArg some (by kernel_rfl))
 t0:=Tryz.underlying0
 a0:=Tryz.isAgg0
 z0:=Tryz.sizeOf0
 v0:=Tryz.zeroValue0
 t3:=Tryz.underlying3
 a3:=Tryz.isAgg3
 z3:=Tryz.sizeOf3
 v3:=Tryz.zeroValue3
 t4:=Tryz.underlying4
 a4:=Tryz.isAgg4
 z4:=Tryz.sizeOf4
 v4:=Tryz.zeroValue4
 t9:=Tryz.underlying9
 a9:=Tryz.isAgg9
 z9:=Tryz.sizeOf9
 v9:=Tryz.zeroValue9
 t20:=Tryz.underlying20
 a20:=Tryz.isAgg20
 z20:=Tryz.sizeOf20
 v20:=Tryz.zeroValue20
 t37:=Tryz.underlying22
 a37:=Tryz.isAgg22
 z37:=Tryz.sizeOf22
 v37:=Tryz.zeroValue22
 t70:=Tryz.underlying156
 a70:=Tryz.isAgg156
 z70:=Tryz.sizeOf156
 v70:=Tryz.zeroValue156
 t72:=Tryz.underlying158
 a72:=Tryz.isAgg158
 z72:=Tryz.sizeOf158
 v72:=Tryz.zeroValue158
 t75:=Tryz.underlying160
 a75:=Tryz.isAgg160
 z75:=Tryz.sizeOf160
 v75:=Tryz.zeroValue160
 t164:=Tryz.underlying226
 a164:=Tryz.isAgg226
 z164:=Tryz.sizeOf226
 v164:=Tryz.zeroValue226 }
theorem lays167:Go.Proofs.Lays.n167 Tryz.prog Z1Z:={
 mixed:=by kernel_rfl
 f167:=Tryz.func105.trans (congrArg some (by kernel_rfl))
 f240:=Tryz.func146.trans (congrArg some (by kernel_rfl))
 f276:=Tryz.func170.trans (congrArg some (by kernel_rfl))
 t0:=Tryz.underlying0
 a0:=Tryz.isAgg0
 z0:=Tryz.sizeOf0
 v0:=Tryz.zeroValue0
 t4:=Tryz.underlying4
 a4:=Tryz.isAgg4
 z4:=Tryz.sizeOf4
 v4:=Tryz.zeroValue4
 t5:=Tryz.underlying5
 a5:=Tryz.isAgg5
 z5:=Tryz.sizeOf5
 v5:=Tryz.zeroValue5
 t9:=Tryz.underlying9
 a9:=Tryz.isAgg9
 z9:=Tryz.sizeOf9
 v9:=Tryz.zeroValue9
 t20:=Tryz.underlying20
 a20:=Tryz.isAgg20
 z20:=Tryz.sizeOf20
 v20:=Tryz.zeroValue20
 t37:=Tryz.underlying22
 a37:=Tryz.isAgg22
 z37:=Tryz.sizeOf22
 v37:=Tryz.zeroValue22
 t70:=Tryz.underlying156
 a70:=Tryz.isAgg156
 z70:=Tryz.sizeOf156
 v70:=Tryz.zeroValue156
 t72:=Tryz.underlying158
 a72:=Tryz.isAgg158
 z72:=Tryz.sizeOf158
 v72:=Tryz.zeroValue158
 t75:=Tryz.underlying160
 a75:=Tryz.isAgg160
 z75:=Tryz.sizeOf160
 v75:=Tryz.zeroValue160
 t164:=Tryz.underlying226
 a164:=Tryz.isAgg226
 z164:=Tryz.sizeOf226
 v164:=Tryz.zeroValue226 }
theorem lays169:Go.Proofs.Lays.n169 Tryz.prog Z1Z:={
 mixed:=by kernel_rfl
 f169:=Tryz.func108.trans (congrArg some (by kernel_rfl))
 t0:=Tryz.underlying0
 a0:=Tryz.isAgg0
 z0:=Tryz.sizeOf0
 v0:=Tryz.zeroValue0
 t3:=Tryz.underlying3
 a3:=Tryz.isAgg3
 z3:=Tryz.sizeOf3
 v3:=Tryz.zeroValue3
 t9:=Tryz.underlying9
 a9:=Tryz.isAgg9
 z9:=Tryz.sizeOf9
 v9:=Tryz.zeroValue9
 t37:=Tryz.underlying22
 a37:=Tryz.isAgg22
 z37:=Tryz.sizeOf22
 v37:=Tryz.zeroValue22
 t70:=Tryz.underlying156
 a70:=Tryz.isAgg156
 z70:=Tryz.sizeOf156
 v70:=Tryz.zeroValue156
 t72:=Tryz.underlying158
 a72:=Tryz.isAgg158
 z72:=Tryz.sizeOf158
 v72:=Tryz.zeroValue158
 t127:=Tryz.underlying207
 a127:=Tryz.isAgg207
 z127:=Tryz.sizeOf207
 v127:=Tryz.zeroValue207 }
theorem lays170:Go.Proofs.Lays.n170 Tryz.prog Z1Z:={
 mixed:=by kernel_rfl
 f170:=Tryz.func106.trans (congrArg some (by kernel_rfl))
 t0:=Tryz.underlying0
 a0:=Tryz.isAgg0
 z0:=Tryz.sizeOf0
 v0:=Tryz.zeroValue0
 t3:=Tryz.underlying3
 a3:=Tryz.isAgg3
 z3:=Tryz.sizeOf3
 v3:=Tryz.zeroValue3
 t37:=Tryz.underlying22
 a37:=Tryz.isAgg22
 z37:=Tryz.sizeOf22
 v37:=Tryz.zeroValue22
 t70:=Tryz.underlying156
 a70:=Tryz.isAgg156
 z70:=Tryz.sizeOf156
 v70:=Tryz.zeroValue156
 t72:=Tryz.underlying158
 a72:=Tryz.isAgg158
 z72:=Tryz.sizeOf158
 v72:=Tryz.zeroValue158 }
theorem bxB:Builder.Extra Tryz.prog Z1Z:={
 sizeBuilder:=by kernel_rfl
 liesBuilder:=by kernel_rfl
 t5:=Tryz.underlying5
 a5:=Tryz.isAgg5
 z5:=Tryz.sizeOf5
 v5:=Tryz.zeroValue5
 infoByte:=by kernel_rfl
 cellsByte:=by kernel_rfl
 sizeByte:=by kernel_rfl
 neB5:=by decide }
end Go.Proofs.YtjpkfigmmmngnaaGreatDoor
namespace Go.Proofs.YtjpkfigmmmngnaaGreatDoor
open Go.RowKit Go.Shelf
attribute [local go_sem] Oper.semAt_some
def txtS (xs:List Nat):List UInt8:=xs.foldl (fun acc x=>acc++((if 1<acc.length then [32] else [])++Go.Lib.decDigits x)) [123]
theorem Zd4 (xs:List Nat) (x:Nat):txtS (xs ++ [x])=txtS xs++((if 1<(txtS xs).length then [32] else [])++Go.Lib.decDigits x):=by rw [txtS,List.foldl_append]; rfl
def textB (N:Nat):ByteArray:=⟨(txtS (mem N) ++ [125]).toArray⟩
theorem Z6m {k:Nat} (hk:k<100):(Go.Lib.decDigits k).length≤2:=by
 by_cases h:k<10
 · rw [Go.Lib.decDigits_one h]; simp
 · rw [Go.Lib.decDigits_two h hk]; simp
theorem Zah:∀ (xs:List Nat),(∀ x∈xs,x<100)→(txtS xs).length≤1+3*xs.length:=by
 have key:∀ (xs:List Nat) (acc:List UInt8),(∀ x∈xs,x<100)→(xs.foldl (fun acc x=>acc++((if 1<acc.length then [32] else [])++Go.Lib.decDigits x)) acc).length≤acc.length+3*xs.length:=by
  intro xs
  induction xs with
  | nil=>intro acc _; simp
  | cons x xs ih =>
    intro acc h
    rw [List.foldl_cons]
    have h1:=ih (acc++((if 1<acc.length then [32] else [])++Go.Lib.decDigits x)) fun y hy=>h y (List.mem_cons_of_mem _ hy)
    have h2:=Z6m (h x (List.mem_cons_self ..))
    rw [List.length_append,List.length_append] at h1
    have h3:(if 1<acc.length then [(32:UInt8)] else []).length≤1:=by split<;>simp
    rw [List.length_cons]
    omega
 intro xs h
 exact key xs [123] h
abbrev TB:TypeId:=Z1Z.t 72
abbrev TU:TypeId:=Z1Z.t 5
theorem Z7d (B b:Nat) (l:List UInt8) (c:UInt8) (ci:Int) (hc:ci=c.toNat) (w:World) (h:Lib.IsBuilderF TB TU B b (Lib.byteCells l) w) (hlen:l.length≤100000) (hBw:B≤w.heap.size) :
 Calls Tryz.prog 105 #[.pointer (some ⟨b,0,none⟩),.int .u8 ci] w fun e w'=>e=.returned .nilIface∧Lib.IsBuilderF TB TU B b (Lib.byteCells (l ++ [c])) w'∧Below B w w'∧Lib.OthersKept TU (some b) w w':=by
 subst hc
 refine (Any.Builder_WriteByte_k lays167 bxB B b (Lib.byteCells l) c.toNat w h (by rw [Lib.byteCells_length];omega) hBw).mono ?_
 rintro e w' ⟨h1,h2,h3,h4⟩
 refine⟨h1,.inr ?_,h3,h4⟩
 rw [Lib.byteCells_append]
 exact h2
theorem Zai (B b:Nat) (l:List UInt8) (s:ByteArray) (w:World) (h:Lib.IsBuilderF TB TU B b (Lib.byteCells l) w) (hlen:l.length+s.size≤100000) (hBw:B≤w.heap.size) :
 Calls Tryz.prog 107 #[.pointer (some ⟨b,0,none⟩),.string s] w fun e w'=>e=.returned (.tuple #[.int .i64 s.size,.nilIface])∧Lib.IsBuilderF TB TU B b (Lib.byteCells (l++s.data.toList)) w'∧Below B w w'∧Lib.OthersKept TU (some b) w w':=by
 refine (Any.Builder_WriteString_k lays166 bxB B b (Lib.byteCells l) s w h (by rw [Lib.byteCells_length];omega) hBw).mono ?_
 rintro e w' ⟨h1,h2,h3,h4⟩
 refine⟨h1,.inr ?_,h3,h4⟩
 rw [Lib.byteCells_append,← Lib.strCells_eq]
 exact h2
theorem Zeg (B b:Nat) (l:List UInt8) (w:World) (h:Lib.IsBuilderF TB TU B b (Lib.byteCells l) w) :
 Calls Tryz.prog 106 #[.pointer (some ⟨b,0,none⟩)] w fun e w'=>e=.returned (.int .i64 l.length)∧w'=w:=by
 have:=Any.Builder_Len_f lays170 B b (Lib.byteCells l) w h
 rwa [Lib.byteCells_length] at this
theorem Zeh (B b:Nat) (l:List UInt8) (w:World) (h:Lib.IsBuilderF TB TU B b (Lib.byteCells l) w) (hBw:B≤w.heap.size) :
 Calls Tryz.prog 108 #[.pointer (some ⟨b,0,none⟩)] w fun e w'=>e=.returned (.string ⟨l.toArray⟩)∧Below B w w'∧Lib.OthersKept TU (some b) w w' :=
 (Any.Builder_String_any_k lays169 bxB B b l w h hBw).mono fun _ _ h=>⟨h.1,h.2.2⟩
theorem Zd5 (s0:Value) (h1:s0.oneCell'=true) (w:World):Calls Tryz.prog 26 #[.agg #[s0]] w fun e w'=>e=.returned (.func (.func 70) #[] #[.pointer (some ⟨w.heap.size,0,none⟩)])∧∃ tS:TypeId,tS≠TU∧w'=w.alloc (.cells #[s0] tS):=by
 go_enter Tryz.func26,Tryz.ntmps26
 go_wp2
 go_ret
 exact⟨rfl,_,by decide,rfl⟩
theorem Zd6 {T e:TypeId} {B b:Nat} {bs:List Value} {W W':World} {row:Option Nat} (h:Lib.IsBuilderF T e B b bs W) (hg:W.grownBy W' row) (hr:∀ r,row=some r→∃ o:Obj,W.heap[r]?=some o∧o.isCells=false):Lib.IsBuilderF T e B b bs W':=by
 have ncells:∀ {k:Nat} {cs:Array Value} {t:TypeId} {fz:Nat×Nat},W.heap[k]?=some (.cells cs t fz)→some k≠row:=by
  intro k cs t fz hk he
  obtain⟨o,ho,hc⟩:=hr k he.symm
  rw [hk] at ho; cases ho; cases hc
 have key:∀ p,Lib.BuilderAtF T e B b p bs W→Lib.BuilderAtF T e B b p bs W':=by
  rintro p ⟨hB,v,hb,hown,hne⟩
  refine⟨hB,v,(hg.block b (Array.getElem?_eq_some_iff.1 hb).1 (ncells hb)).trans hb,hown.kept hg ?_,hne⟩
  rcases hown.2 with⟨rfl,_⟩|⟨g',cap,cur,fz,rfl,_,hgg,_⟩
  · exact .inl rfl
  · exact .inr (ncells hgg)
 exact h.elim (fun h=>.inl (key _ h)) fun h=>.inr (key _ h)
theorem Zd7 {f:FuncId} {args:List PV} {v:Value} (hb:HasBody Tryz.prog f) (h:∀ (F:Froz) (w:World) (vs:Array Value),Holds F w→RepL F noLoc vs args→Calls Tryz.prog f vs w fun e w'=>e=.returned v∧Below w.heap.size w w'):Spec Tryz.prog f args (· = .val v):=by
 refine⟨hb,fun F w vs hF hv=>(h F w vs hF hv).mono ?_⟩
 rintro en w' ⟨rfl,hbel⟩
 exact⟨v,.val v,F,rfl,rfl,.val _,hbel,Holds.kept hF hbel,fun _ _ h=>h,fun _ _=>rfl⟩
set_option maxHeartbeats 4000000 in
set_option maxRecDepth 100000 in
theorem Z4j (N:Nat) (hN:N<18446744073709551616):Spec Tryz.prog 55 [setN N] (· = .val (.string (textB N))):=by
 refine Zd7 ⟨_,Tryz.func55,by kernel_rfl,by kernel_rfl⟩ fun F w vs hF hv=>?_
 have hv0:Rep F noLoc (vs.getD 0 undef) (.agg [.vec (words (digs N)) false]):=hv.2 0 (Nat.zero_lt_succ _)
 have hsz:vs.size=1:=hv.1
 obtain⟨az,has,h1,h2,h3⟩:=hv0.agg_inv
 have hvs:vs = #[.agg az]:=by
  refine Array.ext hsz fun i i1 i2=>?_
  have hi:i=0:=by omega
  subst hi
  rw [← has]; simp [Array.getD_eq_getD_getElem?,i1]
 subst hvs
 have has1:az = #[az.getD 0 undef]:=by
  refine Array.ext h1 fun i i1 i2=>?_
  have hi:i=0:=by have:az.size=1:=h1; omega
  subst hi
  simp [Array.getD_eq_getD_getElem?,i1]
 have h20:=h2 0 (Nat.zero_lt_succ _)
 have h30:Rep F noLoc (az.getD 0 undef) (.vec (words (digs N)) false):=h3 0 (Nat.zero_lt_succ _)
 rw [has1]
 generalize az.getD 0 undef=s0 at h20 h30
 refine (callsIn_wide (n:=3)).1 (callsIn_of_wp_marks Tryz.func55 rfl trivial ?_ rfl)
 simp only [Tryz.ntmps55,List.size_toArray,List.length_cons,List.length_nil,Nat.reduceAdd,Nat.reduceSub,Array.replicate_succ,Array.replicate_zero,List.push_toArray,List.append_toArray,List.nil_append,List.cons_append]
 gi_wp2
 have hB0:Lib.IsBuilderF TB TU (w.heap.size+1) (w.heap.size+1) (Lib.byteCells []) ((w.alloc (.cells #[s0] 42)).alloc (.cells #[.pointer none,.slice none 0 0] 158)):=.of (by
  have:=Lib.fresh_isBuilder TB TU (w.alloc (.cells #[s0] 42))
  rwa [World.size_alloc] at this)
 refine⟨trivial,(callsIn_wide.2 (Z7d (w.heap.size+1) (w.heap.size+1) [] 123 123 rfl _ hB0 (by decide) (by simp))).mono ?_⟩
 rintro e W1 ⟨rfl,hB1,hb1,hk1⟩
 have hx1:W1.heap[w.heap.size]?=some (.cells #[s0] 42 (0,0)):=by
  rw [hb1.block _ (Nat.lt_succ_self _),Lib.alloc_old _ _ _ (by rw [World.size_alloc]; exact Nat.lt_succ_self _)]
  exact heap_alloc_new w _
 have hlow1:Below w.heap.size w W1:=by
  refine Below.trans ?_ (hb1.mono (Nat.le_succ _))
  exact ((Below.refl _ w).alloc (Nat.le_refl _) _).alloc (by simp) _
 have hsz1:w.heap.size+2≤W1.heap.size:=by have:=hb1.size; simpa using this
 clear hb1 hk1
 have hl1:W1.cell? ⟨w.heap.size,0,none⟩=some s0:=by simp [World.cell?,hx1]
 gi_wp2
 refine⟨trivial,(callsIn_wide.2 (Zd5 s0 h20 W1)).mono ?_⟩
 rintro e W2 ⟨rfl,tS,htS,rfl⟩
 gi_wp2
 have hcl:∀ x v,F x=some v→x.block<w.heap.size:=fun x v hx=>by
  have h1:=(hF.1 x v hx).2.2
  unfold World.cell? at h1
  split at h1
  · rename_i ho; exact (Array.getElem?_eq_some_iff.1 ho).1
  · cases h1
 let xa:Addr:=⟨W1.heap.size,0,none⟩
 let F1:Froz:=fun x=>if x=xa then some s0 else F x
 have hF1o:∀ x v,F x=some v→F1 x=some v:=fun x v hx=>by
  have h1:=hcl x v hx
  have:x≠xa:=fun e=>by rw [e] at h1; simp only [xa] at h1; omega
  simp only [F1]; rw [if_neg this]; exact hx
 obtain⟨W2,hW2⟩:∃ W2,W2=W1.alloc (.cells #[s0] tS):=⟨_,rfl⟩
 have hs2:W2.heap.size=W1.heap.size+1:=by rw [hW2,World.size_alloc]
 have hx2:W2.heap[W1.heap.size]?=some (.cells #[s0] tS (0,0)):=by rw [hW2]; exact heap_alloc_new W1 _
 have hlow2:Below w.heap.size w W2:=by rw [hW2]; exact hlow1.alloc (by omega) _
 have hB2:Lib.IsBuilderF TB TU (w.heap.size+1) (w.heap.size+1) (Lib.byteCells (txtS [])) W2:=by rw [hW2]; exact hB1.alloc _
 rw [← hW2]
 have hF2:Holds F1 W2:=⟨fun x v hx=>by
  simp only [F1] at hx
  split at hx
  · rename_i e; subst e; cases hx
    exact⟨rfl,h20,by simp [World.cell?,xa,hx2]⟩
  · have h1 := hF.1 x v hx
    exact⟨h1.1,h1.2.1,(hlow2.cell (hcl x v hx)).trans h1.2.2⟩,fun g j v hg=>hF1o _ _ (hF.2 g j v hg)⟩
 have hrep:RepL F1 noLoc #[.pointer (some xa)] [.cp [.vec (words (digs N)) false]]:=⟨rfl,fun i hi=>by
  have hi:i=0:=by simp at hi; omega
  subst hi
  refine .cp xa [.vec (words (digs N)) false] (fun _=>s0) rfl (fun j hj=>?_) fun j hj=>?_
  · have hj : j = 0 := by simp at hj; omega
    subst hj
    simp [F1,xa]
  · have hj : j = 0 := by simp at hj; omega
    subst hj
    exact h30.mono hF1o fun _ _ h=>h⟩
 have hseq:=(Z2z N hN).2 F1 W2 #[.pointer (some xa)] Fence.wide 2 (Z21 2) hF2 hrep
 let I:List (MemT N)→World→Prop:=fun pre W=>Lib.IsBuilderF TB TU (w.heap.size+1) (w.heap.size+1) (Lib.byteCells (txtS (pre.map (·.val)))) W∧Below w.heap.size w W∧W.heap[W1.heap.size]?=some (.cells #[s0] tS (0,0))∧W2.heap.size≤W.heap.size
 have stepK:∀ {V V':World} {l1:List UInt8},Lib.IsBuilderF TB TU (w.heap.size+1) (w.heap.size+1) (Lib.byteCells l1) V→V.heap[W1.heap.size]?=some (.cells #[s0] tS (0,0))→Below (w.heap.size+1) V V'→Lib.OthersKept TU (some (w.heap.size+1)) V V' →
  KeepsFrom W2.heap.size V V'∧KpF F1 V V'∧V'.heap[W1.heap.size]?=some (.cells #[s0] tS (0,0))∧Below w.heap.size V V':=by
  intro V V' l1 hbd hbx hbl hok
  have hbc:∃ cs T fz,V.heap[w.heap.size+1]?=some (.cells cs T fz):=by
   rcases hbd with⟨_,v,hb,_⟩|⟨_,v,hb,_⟩<;>exact⟨_,_,_,hb⟩
  obtain⟨cs,T,fz,hbc⟩:=hbc
  have hbx':V'.heap[W1.heap.size]?=some (.cells #[s0] tS (0,0)):=hok _ _ hbx (by simp;omega) fun c fz e=>htS (by cases e; rfl)
  refine⟨⟨hbl.size,fun k o _ ho hnc=>hok k o ho (fun e=>?_) fun c fz e=>?_⟩,⟨fun x v hx hv=>?_,hbl.os,hbl.tape,hbl.output,hbl.size⟩,hbx',hbl.mono (Nat.le_succ _)⟩
  · have e := Option.some.inj e
    subst e
    rw [hbc] at ho; cases ho; cases hnc
  · subst e; cases hnc
  · simp only [F1] at hx
    split at hx
    · rename_i e; subst e; cases hx
      simp [World.cell?,xa,hbx']
    · exact (hbl.cell (Nat.lt_succ_of_lt (hcl x v hx))).trans hv
 refine wpIn_rangeFunc_ownH (gf:=70) (lb := #[.pointer (some xa)]) rfl (by decide) rfl trivial (enters_of Tryz.func70 (by kernel_rfl) rfl) hseq (fun h k=>h.trans k) ?kb (Below.refl _ _) (fun _=>rfl) I (fun _ _ _=>False) ?hI (fun _ _ _ _ _ h _ _=>h) ⟨hB2,hlow2,hx2,Nat.le_refl _⟩ (fun x a' _=>a'={ tmps := #[.agg #[s0],.pointer (some ⟨w.heap.size,0,none⟩),.string ⟨#[]⟩,.pointer (some ⟨w.heap.size+1,0,none⟩),.int .i64 x.val,.nilIface,.agg #[s0],.func (.func 70) #[] #[.pointer (some xa)],.int .i64 x.val,undef,undef,undef,undef,undef,undef,undef,undef],defers := [] }) (fun _ _ _ _ _ _ h _ _=>h) ?assign ?body ?done ?stop
 case kb =>
  intro W l o o' hl ho hc _
  exact KpF.grown (grownBy_putObj' W l o') fun r hr=>by cases hr; exact⟨o,ho,hc⟩
 case hI =>
  rintro pre W W' row ⟨a1,a2,a3,a4⟩ hg hr
  refine⟨Zd6 a1 hg fun r e=>(hr r e).2,a2.grown hg (by omega) (fun k e=>by have:=(hr k e).1;omega),?_,Nat.le_trans a4 hg.size⟩
  rw [hg.block _ (Array.getElem?_eq_some_iff.1 a3).1 fun e=>by have:=(hr _ e.symm).1; omega]
  exact a3
 case assign =>
  intro l pre x W K hi hK
  gi_wp2
  exact hK _ _ (KeepsFrom.refl _ _) (KpF.refl _ _) hi rfl
 case body =>
  rintro l pre x a' W hl ⟨r,hr⟩ ⟨a1,a2,a3,a4⟩ rfl hlen
  have hx64:x.val<100:=Nat.lt_of_lt_of_le (Z1I x.2) (by decide)
  have hlt:∀ y∈pre.map (·.val),y<100:=fun y hy=>by
   obtain⟨z,_,rfl⟩:=List.mem_map.1 hy
   exact Nat.lt_of_lt_of_le (Z1I z.2) (by decide)
  have hml:(mem N).length≤64:=ZZ N
  have hln:=Zah _ hlt
  rw [List.length_map] at hln
  have hdg:=Z6m hx64
  obtain⟨T0,hT0⟩:∃ T0,Hid (txtS (pre.map (·.val))=T0):=⟨_,Any.hidU rfl⟩
  rw [hT0.out] at a1 hln
  have fok:=Z1X (Z21 0) l 1
  gi_wp2
  refine⟨trivial,(fok.calls _ _ _ _ _ (Zeg (w.heap.size+1) (w.heap.size+1) _ W a1)).mono ?_⟩
  rintro e V0 ⟨rfl,rfl⟩
  have fin:∀ {V1 V2:World},Lib.IsBuilderF TB TU (w.heap.size+1) (w.heap.size+1) (Lib.byteCells (T0++(if 1<T0.length then [32] else []))) V1→V1.heap[W1.heap.size]?=some (.cells #[s0] tS (0,0))→Below w.heap.size w V1→W2.heap.size≤V1.heap.size→KeepsFrom W2.heap.size V0 V1→KpF F1 V0 V1 →
   Lib.IsBuilderF TB TU (w.heap.size+1) (w.heap.size+1) (Lib.byteCells (T0++(if 1<T0.length then [32] else [])++Go.Lib.decDigits x.val)) V2→Below (w.heap.size+1) V1 V2→Lib.OthersKept TU (some (w.heap.size+1)) V1 V2→KeepsFrom W2.heap.size V0 V2∧KpF F1 V0 V2∧I (pre ++ [x]) V2:=by
   intro V1 V2 p1 p2 p3 p4 p5 p6 p7 p8 p9
   obtain⟨q1,q2,q3,q4⟩:=stepK p1 p2 p8 p9
   refine⟨p5.trans q1,p6.trans q2,?_,p3.trans q4,q3,Nat.le_trans p4 q4.size⟩
   rw [List.map_append,List.map_singleton,Zd4,← List.append_assoc,hT0.out]
   exact p7
  gi_wp2
  · have hb1 : 1 < T0.length := by omega
    rw [if_pos hb1] at fin
    refine⟨trivial,(fok.calls _ _ _ _ _ (Z7d (w.heap.size+1) (w.heap.size+1) _ 32 32 rfl V0 a1 (by omega) (by omega))).mono ?_⟩
    rintro e V1 ⟨rfl,c1,c2,c3⟩
    obtain⟨d1,d2,d3,d4⟩:=stepK a1 a3 c2 c3
    gi_wp2
    refine⟨trivial,(fok.calls _ _ _ _ _ (Any.strconv_Itoa_small lays171 x.val hx64 V1)).mono ?_⟩
    rintro e V2 ⟨rfl,rfl⟩
    gi_wp2
    refine⟨trivial,(fok.calls _ _ _ _ _ (Zai (w.heap.size+1) (w.heap.size+1) _ _ V2 c1 (by
     show _+(Go.Lib.decDigits x.val).toArray.size≤_
     rw [List.length_append,List.size_toArray]; simp only [List.length_singleton];omega) (by have:=d4.size;omega))).mono ?_⟩
    rintro e V3 ⟨rfl,e1,e2,e3⟩
    gi_wp2
    exact fin c1 d3 (a2.trans d4) (Nat.le_trans a4 d4.size) d1 d2 e1 e2 e3
  · have hb1 : ¬ 1 < T0.length := by omega
    rw [if_neg hb1,List.append_nil] at fin
    refine⟨trivial,(fok.calls _ _ _ _ _ (Any.strconv_Itoa_small lays171 x.val hx64 V0)).mono ?_⟩
    rintro e V2 ⟨rfl,rfl⟩
    gi_wp2
    refine⟨trivial,(fok.calls _ _ _ _ _ (Zai (w.heap.size+1) (w.heap.size+1) _ _ V2 a1 (by
     show _+(Go.Lib.decDigits x.val).toArray.size≤_
     rw [List.size_toArray];omega) (by omega))).mono ?_⟩
    rintro e V3 ⟨rfl,e1,e2,e3⟩
    gi_wp2
    exact fin a1 a3 a2 a4 (KeepsFrom.refl _ _) (KpF.refl _ _) e1 e2 e3
 case done =>
  rintro D xs W hD hS ⟨a1,a2,a3,a4⟩ hK
  gi_wp2
  have hlt:∀ y∈mem N,y<100:=fun y hy=>Nat.lt_of_lt_of_le (Z1I hy) (by decide)
  have hml:(mem N).length≤64:=ZZ N
  have hln:=Zah _ hlt
  rw [hS] at a1
  refine⟨trivial,(callsIn_wide.2 (Z7d (w.heap.size+1) (w.heap.size+1) (txtS (mem N)) 125 125 rfl W a1 (by omega) (by omega))).mono ?_⟩
  rintro e V1 ⟨rfl,c1,c2,c3⟩
  obtain⟨d1,d2,d3,d4⟩:=stepK a1 a3 c2 c3
  have hK1:=d1.same D _ hD hK rfl
  gi_wp2
  refine⟨trivial,(callsIn_wide.2 (Zeh (w.heap.size+1) (w.heap.size+1) _ V1 c1 (by have:=d4.size;omega))).mono ?_⟩
  rintro e V2 ⟨rfl,f2,f3⟩
  obtain⟨g1,g2,g3,g4⟩:=stepK c1 d3 f2 f3
  have hK2:=g1.same D _ hD hK1 rfl
  gi_wp2
  refine⟨by simp,.inl ⟨_,_,rfl,run_takeDeferred hK2,?_⟩⟩
  refine⟨_,results_tmp rfl _ _ _,rfl,((a2.trans d4).trans g4).grown (grownBy_putObj' V2 D _) (by have:=d4.size; have:=g4.size;omega) fun k e=>by cases e; omega⟩
 case stop =>
  rintro D c pre W _ _ h _
  exact h.elim
end Go.Proofs.YtjpkfigmmmngnaaGreatDoor
namespace Go.Proofs.YtjpkfigmmmngnaaGreatDoor
open Go.RowKit
attribute [local irreducible] aw opsK dK
theorem Zaj {f:FuncId} {args:List PV} {v:Value} (hb:HasBody Tryz.prog f) (h:∀ (F:Froz) (w:World) (vs:Array Value),Holds F w→RepL F noLoc vs args→Calls Tryz.prog f vs w fun e w'=>e=.returned v∧Below w.heap.size w w'):Spec Tryz.prog f args (· = .val v):=by
 refine⟨hb,fun F w vs hF hv=>(h F w vs hF hv).mono ?_⟩
 rintro en w' ⟨rfl,hbel⟩
 exact⟨v,.val v,F,rfl,rfl,.val _,hbel,Holds.kept hF hbel,fun _ _ h=>h,fun _ _=>rfl⟩
def numS (k:Nat):ByteArray:=⟨(Go.Lib.decDigits k).toArray⟩
theorem Z31 (k:Nat) (hk:k<100):Spec Tryz.prog 104 [.val (.int .i64 (k:Int))] (· = .val (.string (numS k))):=by
 refine Zaj ⟨_,Tryz.func104,by kernel_rfl,by kernel_rfl⟩ fun F w vs hF hv=>?_
 obtain rfl:vs = #[.int .i64 (k:Int)]:=by
  refine Array.ext hv.1 fun i h1 h2=>?_
  have hi:i=0:=by simp at h2; omega
  subst hi
  have:=(show Rep F noLoc (vs.getD 0 undef) (.val (.int .i64 (k:Int))) from hv.2 0 (Nat.zero_lt_succ _)).val_inv
  simpa [Array.getD_eq_getD_getElem?,h1] using this
 refine (Any.strconv_Itoa_small lays171 k hk w).mono ?_
 rintro e w' ⟨rfl,rfl⟩
 exact⟨rfl,Below.refl _ _⟩
def strC (x:ByteArray):List PV := [.val (.string x)]
theorem Zk (l:List ByteArray):pureLL (l.map strC):=Z2n (enc:=strC) (fun _=>⟨trivial,trivial⟩) l
def joinS (l:List ByteArray) (sep:ByteArray):ByteArray:=⟨(Go.Lib.join (l.map (·.data.toList)) sep.data.toList).toArray⟩
theorem Z2q (l:List ByteArray) (fl:Bool) (sep:ByteArray) (hl:l.length≤140737488355328) (hlen:(Go.Lib.join (l.map (·.data.toList)) sep.data.toList).length≤140737488355328):Spec Tryz.prog 100 [.vec (l.map strC) fl,.val (.string sep)] (· = .val (.string (joinS l sep))):=by
 refine Zaj ⟨_,Tryz.func100,by kernel_rfl,by kernel_rfl⟩ fun F w vs hF hv=>?_
 have hv1:Rep F noLoc (vs.getD 0 undef) (.vec (l.map strC) fl):=hv.2 0 (show 0<2 by decide)
 have hv2:vs.getD 1 undef=.string sep:=(show Rep F noLoc (vs.getD 1 undef) (.val (.string sep)) from hv.2 1 (show 1<2 by decide)).val_inv
 have hvs:vs = #[vs.getD 0 undef,vs.getD 1 undef]:=by
  refine Array.ext hv.1 fun i h1 h2=>?_
  have hs:vs.size=2:=hv.1
  have hi:i=0 ∨ i=1:=by omega
  rcases hi with rfl|rfl<;>simp [Array.getD_eq_getD_getElem?,h1]
 rw [hvs,hv2]
 rcases hv1.vec_inv with⟨h0,hq⟩|⟨x,cap,esz,cs,hq,hs,hcap,hfull,hmax,he,hF1,hR⟩
 · have h0 : l = [] := List.map_eq_nil_iff.1 h0
   subst h0
   rw [hq]
   refine (Any.strings_Join_none lays156 builderExtra156 none 0 sep w).mono ?_
   rintro e w' ⟨rfl,rfl⟩
   exact⟨rfl,Below.refl _ _⟩
 · rw [hq, List.length_map]
   by_cases hne:l = []
   · subst hne
     refine (Any.strings_Join_none lays156 builderExtra156 (some x) cap sep w).mono ?_
     rintro e w' ⟨rfl,rfl⟩
     exact⟨rfl,Below.refl _ _⟩
   · have hsp := hs (by simpa using hne)
     obtain⟨bk,o,sp⟩:=x
     dsimp only at hsp
     subst hsp
     rw [List.length_map] at hcap
     have hpos:0<l.length:=List.length_pos_iff.2 hne
     have hez:esz=1:=by
      have:=he 0 (by simpa using hpos)
      rw [← this]
      simp [List.getD_eq_getElem?_getD,hpos,strC]
     subst hez
     have hcell:∀ (j:Nat) y,l[j]?=some y→F ⟨bk,o+j,none⟩=some (.string y):=fun j y hj=>by
      have hjl:=(List.getElem?_eq_some_iff.1 hj).1
      have h1:=hF1 j 0 (by simpa using hjl) (by decide)
      have h2:=hR j 0 (by simpa using hjl) (by decide)
      have h3:((l.map strC).getD j []).getD 0 pvu=.val (.string y):=by simp [List.getD_eq_getElem?_getD,hj,strC]
      rw [h3] at h2
      have h4:=h2.val_inv
      rw [h4] at h1
      simpa using h1
     refine Any.strings_Join lays156 builderExtra156 bk o cap l sep w (fun j y hj=>(hF.1 _ _ (hcell j y hj)).2.2) ?_ hl hcap hlen
     obtain⟨y,hy⟩:∃ y,l[0]?=some y:=⟨_,List.getElem?_eq_getElem hpos⟩
     have:=(hF.1 _ _ (hcell 0 y hy)).2.2
     unfold World.cell? at this
     split at this
     · rename_i ho; exact (Array.getElem?_eq_some_iff.1 ho).1
     · cases this
def litS (c:Cu) (r:Nat):List ByteArray:=(if c.1.testBit r then [numS r] else [])++if c.2.testBit r then [⟨#[33]⟩++numS r] else []
def litsS (c:Cu) (rs:List Nat):List ByteArray:=rs.flatMap (litS c)
def textS (c:Cu):ByteArray:=if litsS c (mem (c.1 ||| c.2)) = [] then ⟨#[102,117,108,108]⟩ else joinS (litsS c (mem (c.1 ||| c.2))) ⟨#[32]⟩
theorem Zbr (c:Cu) (rs:List Nat) (r:Nat):litsS c (rs ++ [r])=litsS c rs++litS c r:=by unfold litsS; rw [List.flatMap_append]; simp
theorem Zei (c:Cu) (r:Nat):(litS c r).length≤2:=by unfold litS; rw [List.length_append]; split<;>split<;>simp
theorem Z5J (c:Cu):∀ rs:List Nat,(litsS c rs).length≤2*rs.length
 | []=>by simp [litsS]
 | r :: rs => by
   have h1:=Zei c r
   have h2:=Z5J c rs
   unfold litsS at h2 ⊢
   rw [List.flatMap_cons,List.length_append,List.length_cons]
   omega
theorem Z5K {k:Nat} (hk:k<100):(numS k).data.toList.length≤2:=by
 show (Go.Lib.decDigits k).toArray.toList.length≤2
 by_cases h:k<10
 · rw [Go.Lib.decDigits_one h]; simp
 · rw [Go.Lib.decDigits_two h hk]; simp
theorem Zd8 (x:ByteArray):((⟨#[33]⟩:ByteArray)++x).data.toList=33 :: x.data.toList:=by rw [ByteArray.data_append]; simp
theorem Zbs {c:Cu} {rs:List Nat} (h:∀ r∈rs,r<100):∀ x∈litsS c rs,x.data.toList.length≤3:=fun x hx=>by
 obtain⟨r,hr,hx⟩:=List.mem_flatMap.1 hx
 have hn:=Z5K (h r hr)
 unfold litS at hx
 rcases List.mem_append.1 hx with hx|hx
 · split at hx
   · rw [List.mem_singleton] at hx; subst hx; omega
   · cases hx
 · split at hx
   · rw [List.mem_singleton] at hx; subst hx
     rw [Zd8,List.length_cons]; omega
   · cases hx
theorem Z9o {l:List (List UInt8)} {k:Nat} (h:∀ x∈l,x.length≤k):Go.Lib.lens l≤k*l.length:=by
 induction l with
 | nil=>simp [Go.Lib.lens]
 | cons x l ih =>
   have h1:=h x (List.mem_cons_self ..)
   have h2:=ih fun y hy=>h y (List.mem_cons_of_mem _ hy)
   have:Go.Lib.lens (x :: l)=x.length+Go.Lib.lens l:=by simp [Go.Lib.lens]
   rw [this,List.length_cons,Nat.mul_succ]; omega
theorem Zej {l:List ByteArray} (h:∀ x∈l,x.data.toList.length≤3) (hl:l.length≤1000) (sep:ByteArray) (hs:sep.data.toList.length≤10):(Go.Lib.join (l.map (·.data.toList)) sep.data.toList).length≤140737488355328:=by
 cases l with
 | nil=>simp [Go.Lib.join_nil]
 | cons x l =>
   rw [List.map_cons,Go.Lib.join_length]
   have:=Z9o (k:=3) (l:=(x :: l).map (·.data.toList)) fun y hy=>by
    obtain⟨z,hz,rfl⟩:=List.mem_map.1 hy
    exact h z hz
   rw [List.map_cons] at this
   simp only [List.length_cons,List.length_map] at this hl ⊢
   have h2:sep.data.toList.length*l.length≤10*l.length:=Nat.mul_le_mul_right _ hs
   omega
set_option maxRecDepth 100000 in
set_option maxHeartbeats 4000000 in
theorem Zbt (c:Cu) (hc:Ok64 c):Spec Tryz.prog 54 [cuP c] (· = .val (.string (textS c))):=by
 have hor:=Z2R hc.1 hc.2
 refine Z2 ok54 (Nat.le_of_ble_eq_true rfl) fun C hC=>?_
 refine Zf ?_
 refine Z7 ?_
 refine Z0 rfl rfl rfl ?_
 (repeat'(first|refine Z6 5 ?_|refine Z3 5 ?_|refine st ?_|(apply B<;>intro hb<;>try cases hb)))<;>try refine At.mk ?_
 refine Ze (Z1g (id:=0) (i0:=0) (j0:=0) rfl (by decide) (by decide) rfl 1 (by decide) (by decide)) ?_
 (repeat'(first|refine Z6 9 ?_|refine Z3 9 ?_|refine st ?_|(apply B<;>intro hb<;>try cases hb)))<;>try refine At.mk ?_
 refine Z5 (Z24 c.1 c.2 hc.1 hc.2) rfl rfl rfl ⟨Z1 _,Z1 _,trivial⟩ rfl ?_
 have hM:textS c=if litsS c (mem (c.1 ||| c.2)) = [] then ⟨#[102,117,108,108]⟩ else joinS (litsS c (mem (c.1 ||| c.2))) ⟨#[32]⟩:=rfl
 rw [hM]
 generalize c.1 ||| c.2=M at hor ⊢
 refine Z5 (Z1S M) rfl rfl rfl ⟨Z1 _,trivial⟩ rfl ?_
 (refine go ?_;repeat' (apply B<;>intro hb<;>try cases hb))
 refine Z3b (X:=List Nat) hC (caps := [.cp [.vec (words (digs M)) false]]) [(1,.cp (cuC c)),(3,.ptr 0 0 0),(10,.fn 70 [.cp [.vec (words (digs M)) false]])]
  (fun z => [(0,⟨1,[[.own 1]]⟩),(1,⟨1,(litsS c z).map strC⟩)]) rfl ⟨⟨Za _,trivial⟩,trivial⟩ (Z2z M hor) (fun _=>rfl)
  (fun ex pre z=>ex=.normal∧z=pre.map (·.val)) 2 (by decide) [] ⟨rfl,rfl⟩
  (Z3K (EnvQ.mem (ρ := fun i => i) (m := 2) (L := [(1, .cp (cuC c)), (3, .ptr 0 0 0), (10, .fn 70 [.cp [.vec (words (digs M)) false]])]) ⟨⟨_, rfl, .pure _ (Z26 c)⟩, ⟨_, rfl, .ptr (ρ := fun i => i) 0 0 0 (by decide)⟩, ⟨_, rfl, .pure _ ⟨⟨Za _, trivial⟩, trivial⟩⟩, trivial⟩)
    (HeapQ.mem (ρ:=fun i=>i) (m:=2) (L := [(0,⟨1,[[.own 1]]⟩),(1,⟨1,(litsS c []).map strC⟩)]) ⟨⟨by decide,_,rfl,RenB.single ⟨.own (ρ:=fun i=>i) 1 (by decide),trivial⟩ rfl⟩,⟨by decide,_,rfl,.same _ trivial⟩,trivial⟩) hC (by decide))
  (fun z q hq=>by simp at hq; rcases hq with rfl|rfl<;>exact Nat.zero_lt_succ _) _ (fun x=>rfl) ?_ ?_ ?_
 · rintro C2 hC2 pre x z ⟨-, rfl⟩ hlen
   have hx:=Z1I x.2
   have hml:=ZZ M
   have hsn:=Zbr c (pre.map (·.val)) x.val
   have hll:=Z5J c (pre.map (·.val))
   rw [List.length_map] at hll
   generalize litsS c (pre.map (·.val))=acc at hsn hll ⊢
   have hn:=Z5K (show x.val<100 by omega)
   have hcat:∀ (e:Env) (h:Heap) (n:Nat) (q:Operand),ev e q=some (.val (.string (numS x.val)))→dEval (.bin .add .num (.const (.string ⟨#[33]⟩)) q) e h n=some (.val (.string (⟨#[33]⟩++numS x.val)),h):=fun e h n q hq=>by
    have hsz:(⟨#[33]⟩:ByteArray).size+(numS x.val).size≤9223372036854775807:=by
     have:(numS x.val).size=(numS x.val).data.toList.length:=by rw [Array.length_toList]; rfl
     rw [this]
     show 1+_≤_
     omega
    have h1:ev e (.const (.string ⟨#[33]⟩))=some (.val (.string ⟨#[33]⟩)):=rfl
    simp only [dEval,h1,hq,pbin,sbin,if_pos hsz,Option.map]
   unfold litS at hsn
   (repeat'(first|refine Z6 15 ?_|refine Z3 15 ?_|refine st ?_|(apply B<;>intro hb<;>try cases hb)))<;>try refine At.mk ?_
   refine Z5 (Z5D c.1 hc.1 x.val) rfl rfl rfl ⟨Z1 _,trivial,trivial⟩ rfl ?_
   cases h1:c.1.testBit x.val
   · rw [h1, if_neg (by decide), List.nil_append] at hsn
     (repeat'(first|refine Z6 24 ?_|refine Z3 24 ?_|refine st ?_|(apply B<;>intro hb<;>try cases hb)))<;>try refine At.mk ?_
     refine Z5 (Z5D c.2 hc.2 x.val) rfl rfl rfl ⟨Z1 _,trivial,trivial⟩ rfl ?_
     cases h2:c.2.testBit x.val
     · rw [h2, if_neg (by decide), List.append_nil] at hsn
       (refine go ?_;repeat' (apply B<;>intro hb<;>try cases hb))
       exact⟨.inl rfl,pre.map (·.val) ++ [x.val],fun i=>i,⟨rfl,by rw [List.map_append]; rfl⟩,fun i hi=>rfl,Z11,
        ⟨⟨_,rfl,.pure _ (Z26 c)⟩,⟨_,rfl,.ptr (ρ:=fun i=>i) 0 0 0 (by decide)⟩,⟨_,rfl,.pure _ ⟨⟨Za _,trivial⟩,trivial⟩⟩,trivial⟩,
        ⟨⟨by decide,_,rfl,RenB.single ⟨.own (ρ:=fun i=>i) 1 (by decide),trivial⟩ rfl⟩,⟨by decide,_,rfl,by rw [hsn]; exact .same _ (Zk _)⟩,trivial⟩⟩
     · rw [h2, if_pos rfl] at hsn
       (repeat'(first|refine Z6 27 ?_|refine Z3 27 ?_|refine st ?_|(apply B<;>intro hb<;>try cases hb)))<;>try refine At.mk ?_
       refine Zl (Z31 x.val (by omega)) rfl rfl rfl ⟨trivial,trivial⟩ ?_
       refine Zm (hcat _ _ _ _ rfl) rfl rfl ?_
       (repeat'(first|refine Z6 30 ?_|refine Z3 30 ?_|refine st ?_|(apply B<;>intro hb<;>try cases hb)))<;>try refine At.mk ?_
       refine Zm (ZQ (k:=1) (m := [strC (⟨#[33]⟩++numS x.val)]) (fl:=true) rfl rfl rfl (fun q hq=>by rw [List.mem_singleton] at hq; subst hq; rfl) rfl (by
        show ((acc.map strC).length+1)*16≤_
        rw [List.length_map];omega)) rfl rfl ?_
       (refine go ?_;repeat' (apply B<;>intro hb<;>try cases hb))
       refine⟨.inl rfl,pre.map (·.val) ++ [x.val],mv 1 7,⟨rfl,by rw [List.map_append]; rfl⟩,Z3k (by decide),ZK rfl,
        ⟨⟨_,rfl,.pure _ (Z26 c)⟩,⟨_,rfl,.ptr (ρ:=mv 1 7) 0 0 0 (by decide)⟩,⟨_,rfl,.pure _ ⟨⟨Za _,trivial⟩,trivial⟩⟩,trivial⟩,
        ⟨⟨by decide,_,rfl,RenB.single ⟨.own (ρ:=mv 1 7) 1 (by decide),trivial⟩ rfl⟩,⟨by decide,_,rfl,?_⟩,trivial⟩⟩
       show RenB _ _ ⟨1,acc.map strC ++ [strC (⟨#[33]⟩++numS x.val)]⟩ ⟨1,(litsS c (pre.map (·.val) ++ [x.val])).map strC⟩
       have hp:=Zk (acc ++ [⟨#[33]⟩++numS x.val])
       rw [hsn,List.map_append]
       rw [List.map_append] at hp
       exact .same _ hp
   · rw [h1, if_pos rfl] at hsn
     (repeat'(first|refine Z6 18 ?_|refine Z3 18 ?_|refine st ?_|(apply B<;>intro hb<;>try cases hb)))<;>try refine At.mk ?_
     refine Zl (Z31 x.val (by omega)) rfl rfl rfl ⟨trivial,trivial⟩ ?_
     (repeat'(first|refine Z6 20 ?_|refine Z3 20 ?_|refine st ?_|(apply B<;>intro hb<;>try cases hb)))<;>try refine At.mk ?_
     refine Zm (ZQ (k:=1) (m := [strC (numS x.val)]) (fl:=true) rfl rfl rfl (fun q hq=>by rw [List.mem_singleton] at hq; subst hq; rfl) rfl (by
      show ((acc.map strC).length+1)*16≤_
      rw [List.length_map];omega)) rfl rfl ?_
     (repeat'(first|refine Z6 24 ?_|refine Z3 24 ?_|refine st ?_|(apply B<;>intro hb<;>try cases hb)))<;>try refine At.mk ?_
     refine Z5 (Z5D c.2 hc.2 x.val) rfl rfl rfl ⟨Z1 _,trivial,trivial⟩ rfl ?_
     cases h2:c.2.testBit x.val
     · rw [h2, if_neg (by decide), List.append_nil] at hsn
       (refine go ?_;repeat' (apply B<;>intro hb<;>try cases hb))
       refine⟨.inl rfl,pre.map (·.val) ++ [x.val],mv 1 6,⟨rfl,by rw [List.map_append]; rfl⟩,Z3k (by decide),ZK rfl,
        ⟨⟨_,rfl,.pure _ (Z26 c)⟩,⟨_,rfl,.ptr (ρ:=mv 1 6) 0 0 0 (by decide)⟩,⟨_,rfl,.pure _ ⟨⟨Za _,trivial⟩,trivial⟩⟩,trivial⟩,
        ⟨⟨by decide,_,rfl,RenB.single ⟨.own (ρ:=mv 1 6) 1 (by decide),trivial⟩ rfl⟩,⟨by decide,_,rfl,?_⟩,trivial⟩⟩
       show RenB _ _ ⟨1,acc.map strC ++ [strC (numS x.val)]⟩ ⟨1,(litsS c (pre.map (·.val) ++ [x.val])).map strC⟩
       have hp:=Zk (acc ++ [numS x.val])
       rw [hsn,List.map_append]
       rw [List.map_append] at hp
       exact .same _ hp
     · rw [h2, if_pos rfl] at hsn
       (repeat'(first|refine Z6 27 ?_|refine Z3 27 ?_|refine st ?_|(apply B<;>intro hb<;>try cases hb)))<;>try refine At.mk ?_
       refine Zl (Z31 x.val (by omega)) rfl rfl rfl ⟨trivial,trivial⟩ ?_
       refine Zm (hcat _ _ _ _ rfl) rfl rfl ?_
       (repeat'(first|refine Z6 30 ?_|refine Z3 30 ?_|refine st ?_|(apply B<;>intro hb<;>try cases hb)))<;>try refine At.mk ?_
       refine Zm (ZQ (k:=6) (m := [strC (⟨#[33]⟩++numS x.val)]) (fl:=true) rfl rfl rfl (fun q hq=>by rw [List.mem_singleton] at hq; subst hq; rfl) rfl (by
        show ((acc.map strC ++ [strC (numS x.val)]).length+1)*16≤_
        rw [List.length_append,List.length_map,List.length_singleton];omega)) rfl rfl ?_
       (refine go ?_;repeat' (apply B<;>intro hb<;>try cases hb))
       refine⟨.inl rfl,pre.map (·.val) ++ [x.val],mv 1 13,⟨rfl,by rw [List.map_append]; rfl⟩,Z3k (by decide),ZK rfl,
        ⟨⟨_,rfl,.pure _ (Z26 c)⟩,⟨_,rfl,.ptr (ρ:=mv 1 13) 0 0 0 (by decide)⟩,⟨_,rfl,.pure _ ⟨⟨Za _,trivial⟩,trivial⟩⟩,trivial⟩,
        ⟨⟨by decide,_,rfl,RenB.single ⟨.own (ρ:=mv 1 13) 1 (by decide),trivial⟩ rfl⟩,⟨by decide,_,rfl,?_⟩,trivial⟩⟩
       show RenB _ _ ⟨1,acc.map strC ++ [strC (numS x.val)] ++ [strC (⟨#[33]⟩++numS x.val)]⟩ ⟨1,(litsS c (pre.map (·.val) ++ [x.val])).map strC⟩
       have hp:=Zk (acc++([numS x.val] ++ [⟨#[33]⟩++numS x.val]))
       rw [hsn,List.map_append,List.map_append,← List.append_assoc]
       rw [List.map_append,List.map_append,← List.append_assoc] at hp
       exact .same _ hp
 · rintro xs z hxs ⟨-, rfl⟩
   rw [hxs]
   have hsz:=Zbs (c:=c) (rs:=mem M) fun r hr=>by have:=Z1I hr; omega
   have hll:=Z5J c (mem M)
   have hml:=ZZ M
   generalize litsS c (mem M)=l at hsz hll ⊢
   (repeat'(first|refine Z6 33 ?_|refine Z3 33 ?_|refine st ?_|(apply B<;>intro hb<;>try cases hb)))<;>try refine At.mk ?_
   cases l with
   | nil =>
     refine Z8 (Zp (v:=true) rfl rfl) rfl rfl ?_
     (refine go ?_;repeat' (apply B<;>intro hb<;>try cases hb))
     exact Z4 rfl trivial rfl
   | cons y l =>
     refine Z8 (Zp (v:=false) rfl (by simp;omega)) rfl rfl ?_
     repeat' (first|refine Z6 34 ?_|(first|refine st ?_|(apply B<;>intro hb<;>try cases hb)))
     refine At.mk ?_
     refine Ze (Z1o (ob:=0) (id:=1) (i0:=0) (j0:=0) rfl rfl (by decide) (Zk _) (Nat.le_of_ble_eq_true rfl) (Nat.le_of_ble_eq_true rfl) rfl) ?_
     (repeat'(first|refine Z6 35 ?_|refine Z3 35 ?_|refine st ?_|(apply B<;>intro hb<;>try cases hb)))<;>try refine At.mk ?_
     refine Z5 (Z2q (y :: l) false ⟨#[32]⟩ (by omega) (Zej hsz (by omega) _ (by decide))) rfl rfl rfl ⟨Zk _,trivial,trivial⟩ rfl ?_
     (refine go ?_;repeat' (apply B<;>intro hb<;>try cases hb))
     exact Z4 rfl trivial (by rw [if_neg (by simp)])
 · rintro ex pre z - ⟨rfl,_⟩ (h|⟨id,h⟩)<;>cases h
end Go.Proofs.YtjpkfigmmmngnaaGreatDoor
namespace Go.Proofs.YtjpkfigmmmngnaaGreatDoor
open Go.RowKit
section
variable {P:Program} {C:Ctx} {Fr:Nat→Prop} {e:Env} {h:Heap} {F:Froz} {φ:Locs} {a:Act} {w:World}
theorem MSpec.frame {f:FuncId} {b:Bx} {rest:List PV} {mk:Nat→PV} {R:Bx→Prop} (hs:MSpec P f b rest mk R) (hmk:Mk mk) (hpb:pureLL b.elems) (hpr:pureL rest) {k n:Nat} (hb:h k=some b) :
 ISpec P f n (.own k :: rest) h fun n' r h'=>∃ b',n'=n+1∧r=mk n∧h'=(h.del k).upd n b'∧pureLL b'.elems∧R b':=by
 refine⟨hs.1,fun C e F φ a w vs s hv=>(hs.run hmk hpb hpr (Nat.le_refl n) hb s hv).mono ?_⟩
 rintro en w' ⟨v,b',F',φ',rfl,⟨h1,h2⟩,hr,s'⟩
 exact⟨v,mk n,n+1,(h.del k).upd n b',F',φ',rfl,⟨b',rfl,rfl,rfl,h1,h2⟩,hr,{ s' with free:=fun i hi=>s'.free i ⟨by omega,by omega⟩ }⟩
theorem Z9p {f nt:Nat} {ac:ACode} {rs:List ARes} (hf:FnOk P f nt ac rs) {b:Bx} {rest:List PV} {mk:Nat→PV} {R:Bx→Prop} (hn:rest.length+1≤nt) (hk:∀ C:Ctx,C.dom 1→aw P C ac (retI rs fun n' r h'=>∃ id b',r=mk id∧h' id=some b'∧pureLL b'.elems∧R b') 1 (argEnv (.own 0 :: rest)) (heapL [(0,b)])):MSpec P f b rest mk R :=
 Z1u hf hn hk
theorem Zff {f:Operand} {args:List Operand} {g:FuncId} {caps as0 rest:List PV} {b:Bx} {k:Nat} {mk:Nat→PV} {R:Bx→Prop} {d:Option Nat} {os:List AOper} {n:Nat} {K:Nat→Env→Heap→Prop} (hs:MSpec P g b rest mk R) (hmk:Mk mk) (hf:ev e f=some (.fn g caps)) (ha:evs e args=some as0) (hr:as0++caps=.own k :: rest) (hb:h k=some b) (hpb:pureLL b.elems) (hpr:pureL rest)
 (hk:∀ b',pureLL b'.elems→R b'→opsK P os (n+1) (updO e d (mk n)) ((h.del k).upd n b') K):opsK P (⟨d,.call f args,none⟩ :: os) n e h K:=by
 refine ZM hf ha (R:=fun n' r h'=>∃ b',n'=n+1∧r=mk n∧h'=(h.del k).upd n b'∧pureLL b'.elems∧R b') (by rw [hr]; exact hs.frame hmk hpb hpr hb) ?_
 rintro n' r h' ⟨b',rfl,rfl,rfl,h1,h2⟩
 exact hk b' h1 h2
end
end Go.Proofs.YtjpkfigmmmngnaaGreatDoor
namespace Go.Proofs.YtjpkfigmmmngnaaGreatDoor
open Go.RowKit
attribute [local irreducible] aw opsK dK
structure NamesW (tp:PV) (nm:Nat→ByteArray):Prop where
 one:tp.flat=true
 cell:tp.cells = [tp]
 pure:tp.pure
 len:∀ r,r<64→(nm r).data.toList.length≤100
 name:∀ r:Nat,r<64→∃ s b,Spec Tryz.prog 139 [tp,.val (.int .i64 (r:Int))] (· = .tup [.val (.string s),.val (.bool b)])∧nm r=if b then s else numS r
def partB (word:ByteArray) (N:Nat) (nm:Nat→ByteArray):ByteArray:=word++joinS ((mem N).map nm) ⟨#[32,97,110,100,32]⟩
theorem Z5L {l:List ByteArray} (h:∀ x∈l,x.data.toList.length≤100) (hl:l.length≤64) (sep:ByteArray) (hs:sep.data.toList.length≤10):(Go.Lib.join (l.map (·.data.toList)) sep.data.toList).length≤100000:=by
 cases l with
 | nil=>simp [Go.Lib.join_nil]
 | cons x l =>
   rw [List.map_cons,Go.Lib.join_length]
   have:=Z9o (k:=100) (l:=(x :: l).map (·.data.toList)) fun y hy=>by
    obtain⟨z,hz,rfl⟩:=List.mem_map.1 hy
    exact h z hz
   rw [List.map_cons] at this
   simp only [List.length_cons,List.length_map] at this hl ⊢
   have h2:sep.data.toList.length*l.length≤10*l.length:=Nat.mul_le_mul_right _ hs
   omega
theorem bsize (x:ByteArray):x.size=x.data.toList.length:=by rw [Array.length_toList]; rfl
theorem Zak {e:Env} {h:Heap} {n:Nat} {p q:Operand} {x y:ByteArray} (hp:ev e p=some (.val (.string x))) (hq:ev e q=some (.val (.string y))) (hx:x.size≤1000000) (hy:y.size≤1000000):dEval (.bin .add .num p q) e h n=some (.val (.string (x++y)),h):=by
 have hsz:x.size+y.size≤9223372036854775807:=by omega
 simp only [dEval,hp,hq,pbin,sbin,if_pos hsz,Option.map]
set_option maxHeartbeats 8000000 in
theorem Z6n {tp:PV} {nm:Nat→ByteArray} (hN:NamesW tp nm) (word:ByteArray) (hw:word.size≤100) (N:Nat) (h64:N<18446744073709551616) (hne:N≠0):NSpec Tryz.prog 99 [.vec [] true,.val (.string word),setN N,tp] .own ⟨1,[partB word N nm].map strC⟩:=by
 have htp:pureL [tp]:=⟨hN.pure,trivial⟩
 have hfl:=hN.one
 have hce:=hN.cell
 refine Z2C ok99 (Nat.le_of_ble_eq_true rfl) fun C hC=>?_
 refine Zf ?_
 refine Z7 ?_
 refine Z0 rfl rfl rfl ?_
 refine Z0 (show fEval (.box (.tmp 3)) _ _ _=some (.cp [tp],_) by (show (match some tp with|some p=>if p.flat&&decide (0<p.cells.length) then some (PV.cp p.cells,_) else none|none=>none)=_; simp only [hfl,hce]; rfl)) rfl rfl ?_
 (refine go ?_;repeat' (apply B<;>intro hb<;>try cases hb))
 refine Z5 (Z2k N h64) rfl rfl rfl ⟨Z1 N,trivial⟩ rfl ?_
 rw [decide_eq_false hne]
 (repeat'(first|refine Z6 17 ?_|refine Z3 17 ?_|refine st ?_|(apply B<;>intro hb<;>try cases hb)))<;>try refine At.mk ?_
 refine Ze (Z1g (id:=0) (i0:=0) (j0:=0) rfl (by decide) (by decide) rfl 1 (by decide) (by decide)) ?_
 refine Z5 (Z1S N) rfl rfl rfl ⟨Z1 _,trivial⟩ rfl ?_
 (refine go ?_;repeat' (apply B<;>intro hb<;>try cases hb))
 refine Z3b (X:=List Nat) hC (caps := [.cp [.vec (words (digs N)) false]]) [(0,.vec [] true),(1,.val (.string word)),(7,.cp [tp]),(9,.ptr 0 0 0),(17,.fn 70 [.cp [.vec (words (digs N)) false]])]
  (fun z => [(0,⟨1,[[.own 1]]⟩),(1,⟨1,((z.map nm).map strC)⟩)]) rfl ⟨⟨Za _,trivial⟩,trivial⟩ (Z2z N h64) (fun _=>rfl)
  (fun ex pre z=>ex=.normal∧z=pre.map (·.val)) 2 (by decide) [] ⟨rfl,rfl⟩
  (Z3K (EnvQ.mem (ρ := fun i => i) (m := 2) (L := [(0, .vec [] true), (1, .val (.string word)), (7, .cp [tp]), (9, .ptr 0 0 0), (17, .fn 70 [.cp [.vec (words (digs N)) false]])]) ⟨⟨_, rfl, .pure _ trivial⟩, ⟨_, rfl, .pure _ trivial⟩, ⟨_, rfl, .pure _ htp⟩, ⟨_, rfl, .ptr (ρ := fun i => i) 0 0 0 (by decide)⟩, ⟨_, rfl, .pure _ ⟨⟨Za _, trivial⟩, trivial⟩⟩, trivial⟩)
    (HeapQ.mem (ρ:=fun i=>i) (m:=2) (L := [(0,⟨1,[[.own 1]]⟩),(1,⟨1,((([]:List Nat).map nm).map strC)⟩)]) ⟨⟨by decide,_,rfl,RenB.single ⟨.own (ρ:=fun i=>i) 1 (by decide),trivial⟩ rfl⟩,⟨by decide,_,rfl,.same _ trivial⟩,trivial⟩) hC (by decide))
  (fun z q hq=>by simp at hq; rcases hq with rfl|rfl<;>exact Nat.zero_lt_succ _) _ (fun x=>rfl) ?_ ?_ ?_
 · rintro C2 hC2 pre x z ⟨-, rfl⟩ hlen
   have hx:=Z1I x.2
   have hml:=ZZ N
   obtain⟨s,b,hs1,hs2⟩:=hN.name x.val hx
   have hsn:(pre.map (·.val) ++ [x.val]).map nm=(pre.map (·.val)).map nm ++ [nm x.val]:=by rw [List.map_append]; rfl
   have hll:((pre.map (·.val)).map nm).length=pre.length:=by rw [List.length_map,List.length_map]
   generalize (pre.map (·.val)).map nm=acc at hsn hll ⊢
   rw [hs2] at hsn
   refine Z4G ?_
   (repeat'(first|refine Z6 20 ?_|refine Z3 20 ?_|refine st ?_|(apply B<;>intro hb<;>try cases hb)))<;>try refine At.mk ?_
   refine Z8 rfl rfl rfl ?_
   (refine go ?_;repeat' (apply B<;>intro hb<;>try cases hb))
   refine Z5 hs1 rfl rfl rfl ⟨hN.pure,trivial,trivial⟩ rfl ?_
   cases b
   · rw [if_neg (by decide)] at hsn
     (refine go ?_;repeat' (apply B<;>intro hb<;>try cases hb))
     refine Z5 (Z31 x.val (by omega)) rfl rfl rfl ⟨trivial,trivial⟩ rfl ?_
     (repeat'(first|refine Z6 32 ?_|refine Z3 32 ?_|refine st ?_|(apply B<;>intro hb<;>try cases hb)))<;>try refine At.mk ?_
     refine ZT (ZQ (k:=1) (m := [strC (numS x.val)]) (fl:=true) (b:=⟨1,acc.map strC⟩) rfl rfl rfl (fun q hq=>by rw [List.mem_singleton] at hq; subst hq; rfl) rfl (by
      show ((acc.map strC).length+1)*16≤_
      rw [List.length_map];omega)) rfl rfl ?_
     (refine go ?_;repeat' (apply B<;>intro hb<;>try cases hb))
     exact⟨.inl rfl,pre.map (·.val) ++ [x.val],mv 1 2,⟨rfl,by rw [List.map_append]; rfl⟩,Z3k (by decide),ZK rfl,⟨⟨_,rfl,.pure _ trivial⟩,⟨_,rfl,.pure _ trivial⟩,⟨_,rfl,.pure _ htp⟩,⟨_,rfl,.ptr (ρ:=mv 1 2) 0 0 0 (by decide)⟩,⟨_,rfl,.pure _ ⟨⟨Za _,trivial⟩,trivial⟩⟩,trivial⟩,⟨⟨by decide,_,rfl,RenB.single ⟨.own (ρ:=mv 1 2) 1 (by decide),trivial⟩ rfl⟩,⟨by decide,_,rfl,by rw [hsn,List.map_append]; exact .same ⟨1,acc.map strC ++ [numS x.val].map strC⟩ (by rw [← List.map_append]; exact Zk _)⟩,trivial⟩⟩
   · rw [if_pos rfl] at hsn
     (repeat'(first|refine Z6 32 ?_|refine Z3 32 ?_|refine st ?_|(apply B<;>intro hb<;>try cases hb)))<;>try refine At.mk ?_
     refine ZT (ZQ (k:=1) (m := [strC s]) (fl:=true) (b:=⟨1,acc.map strC⟩) rfl rfl rfl (fun q hq=>by rw [List.mem_singleton] at hq; subst hq; rfl) rfl (by
      show ((acc.map strC).length+1)*16≤_
      rw [List.length_map];omega)) rfl rfl ?_
     (refine go ?_;repeat' (apply B<;>intro hb<;>try cases hb))
     exact⟨.inl rfl,pre.map (·.val) ++ [x.val],mv 1 2,⟨rfl,by rw [List.map_append]; rfl⟩,Z3k (by decide),ZK rfl,⟨⟨_,rfl,.pure _ trivial⟩,⟨_,rfl,.pure _ trivial⟩,⟨_,rfl,.pure _ htp⟩,⟨_,rfl,.ptr (ρ:=mv 1 2) 0 0 0 (by decide)⟩,⟨_,rfl,.pure _ ⟨⟨Za _,trivial⟩,trivial⟩⟩,trivial⟩,⟨⟨by decide,_,rfl,RenB.single ⟨.own (ρ:=mv 1 2) 1 (by decide),trivial⟩ rfl⟩,⟨by decide,_,rfl,by rw [hsn,List.map_append]; exact .same ⟨1,acc.map strC ++ [s].map strC⟩ (by rw [← List.map_append]; exact Zk _)⟩,trivial⟩⟩
 · rintro xs z hxs ⟨-, rfl⟩
   rw [hxs]
   have hml:=ZZ N
   have hsz:∀ y∈(mem N).map nm,y.data.toList.length≤100:=fun y hy=>by
    obtain⟨r,hr,rfl⟩:=List.mem_map.1 hy
    exact hN.len r (Z1I hr)
   have hlen:((mem N).map nm).length≤64:=by rw [List.length_map]; exact hml
   have hjl:=Z5L hsz hlen ⟨#[32,97,110,100,32]⟩ (by decide)
   unfold partB
   generalize (mem N).map nm=ns at hsz hlen hjl ⊢
   (repeat'(first|refine Z6 35 ?_|refine Z3 35 ?_|refine st ?_|(apply B<;>intro hb<;>try cases hb)))<;>try refine At.mk ?_
   refine Ze (Z1o (ob:=0) (id:=1) (i0:=0) (j0:=0) rfl rfl (by decide) (Zk ns) (Nat.le_of_ble_eq_true rfl) (Nat.le_of_ble_eq_true rfl) rfl) ?_
   (repeat'(first|refine Z6 36 ?_|refine Z3 36 ?_|refine st ?_|(apply B<;>intro hb<;>try cases hb)))<;>try refine At.mk ?_
   refine Z5 (Z2q ns false ⟨#[32,97,110,100,32]⟩ (by omega) (by omega)) rfl rfl rfl ⟨Zk _,trivial,trivial⟩ rfl ?_
   have hJ:(joinS ns ⟨#[32,97,110,100,32]⟩).size≤1000000:=by
    rw [bsize]
    exact Nat.le_trans hjl (by decide)
   generalize joinS ns ⟨#[32,97,110,100,32]⟩=J at hJ ⊢
   refine Z8 (Zak rfl rfl (by omega) hJ) rfl rfl ?_
   (repeat'(first|refine Z6 39 ?_|refine Z3 39 ?_|refine st ?_|(apply B<;>intro hb<;>try cases hb)))<;>try refine At.mk ?_
   refine Ze (Z1d (k:=33) rfl 1 (by decide)) ?_
   (refine go ?_;repeat' (apply B<;>intro hb<;>try cases hb))
   exact⟨_,_,rfl,.inl rfl,_,rfl,rfl⟩
 · rintro ex pre z - ⟨rfl,_⟩ (h|⟨id,h⟩)<;>cases h
set_option maxHeartbeats 8000000 in
theorem Zbu {tp:PV} {nm:Nat→ByteArray} (hN:NamesW tp nm) (l:List ByteArray) (hl:l.length≤1000) (word:ByteArray) (hw:word.size≤100) (N:Nat) (h64:N<18446744073709551616) (hne:N≠0):MSpec Tryz.prog 99 ⟨1,l.map strC⟩ [.val (.string word),setN N,tp] .own (fun b'=>b'=⟨1,(l ++ [partB word N nm]).map strC⟩):=by
 have htp:pureL [tp]:=⟨hN.pure,trivial⟩
 have hfl:=hN.one
 have hce:=hN.cell
 refine Z9p ok99 (Nat.le_of_ble_eq_true rfl) fun C hC=>?_
 refine Zf ?_
 refine Z7 ?_
 refine Z0 rfl rfl rfl ?_
 refine Z0 (show fEval (.box (.tmp 3)) _ _ _=some (.cp [tp],_) by (show (match some tp with|some p=>if p.flat&&decide (0<p.cells.length) then some (PV.cp p.cells,_) else none|none=>none)=_; simp only [hfl,hce]; rfl)) rfl rfl ?_
 (refine go ?_;repeat' (apply B<;>intro hb<;>try cases hb))
 refine Z5 (Z2k N h64) rfl rfl rfl ⟨Z1 N,trivial⟩ rfl ?_
 rw [decide_eq_false hne]
 (repeat'(first|refine Z6 17 ?_|refine Z3 17 ?_|refine st ?_|(apply B<;>intro hb<;>try cases hb)))<;>try refine At.mk ?_
 refine Ze (Z1g (id:=1) (i0:=0) (j0:=0) rfl (by decide) (by decide) rfl 1 (by decide) (by decide)) ?_
 refine Z5 (Z1S N) rfl rfl rfl ⟨Z1 _,trivial⟩ rfl ?_
 (refine go ?_;repeat' (apply B<;>intro hb<;>try cases hb))
 refine Z3b (X:=List Nat) hC (caps := [.cp [.vec (words (digs N)) false]]) [(0,.own 0),(1,.val (.string word)),(7,.cp [tp]),(9,.ptr 1 0 0),(17,.fn 70 [.cp [.vec (words (digs N)) false]])]
  (fun z => [(0,⟨1,l.map strC⟩),(1,⟨1,[[.own 2]]⟩),(2,⟨1,((z.map nm).map strC)⟩)]) rfl ⟨⟨Za _,trivial⟩,trivial⟩ (Z2z N h64) (fun _=>rfl)
  (fun ex pre z=>ex=.normal∧z=pre.map (·.val)) 3 (by decide) [] ⟨rfl,rfl⟩
  (Z3K (EnvQ.mem (ρ := fun i => i) (m := 3) (L := [(0, .own 0), (1, .val (.string word)), (7, .cp [tp]), (9, .ptr 1 0 0), (17, .fn 70 [.cp [.vec (words (digs N)) false]])]) ⟨⟨_, rfl, .own (ρ := fun i => i) 0 (by decide)⟩, ⟨_, rfl, .pure _ trivial⟩, ⟨_, rfl, .pure _ htp⟩, ⟨_, rfl, .ptr (ρ := fun i => i) 1 0 0 (by decide)⟩, ⟨_, rfl, .pure _ ⟨⟨Za _, trivial⟩, trivial⟩⟩, trivial⟩)
    (HeapQ.mem (ρ:=fun i=>i) (m:=3) (L := [(0,⟨1,l.map strC⟩),(1,⟨1,[[.own 2]]⟩),(2,⟨1,((([]:List Nat).map nm).map strC)⟩)]) ⟨⟨by decide,_,rfl,.same _ (Zk l)⟩,⟨by decide,_,rfl,RenB.single ⟨.own (ρ:=fun i=>i) 2 (by decide),trivial⟩ rfl⟩,⟨by decide,_,rfl,.same _ trivial⟩,trivial⟩) hC (by decide))
  (fun z q hq=>by simp at hq; rcases hq with rfl|rfl|rfl<;>exact Nat.zero_lt_succ _) _ (fun x=>rfl) ?_ ?_ ?_
 · rintro C2 hC2 pre x z ⟨-, rfl⟩ hlen
   have hx:=Z1I x.2
   have hml:=ZZ N
   obtain⟨s,b,hs1,hs2⟩:=hN.name x.val hx
   have hsn:(pre.map (·.val) ++ [x.val]).map nm=(pre.map (·.val)).map nm ++ [nm x.val]:=by rw [List.map_append]; rfl
   have hll:((pre.map (·.val)).map nm).length=pre.length:=by rw [List.length_map,List.length_map]
   generalize (pre.map (·.val)).map nm=acc at hsn hll ⊢
   rw [hs2] at hsn
   refine Z4G ?_
   (repeat'(first|refine Z6 20 ?_|refine Z3 20 ?_|refine st ?_|(apply B<;>intro hb<;>try cases hb)))<;>try refine At.mk ?_
   refine Z8 rfl rfl rfl ?_
   (refine go ?_;repeat' (apply B<;>intro hb<;>try cases hb))
   refine Z5 hs1 rfl rfl rfl ⟨hN.pure,trivial,trivial⟩ rfl ?_
   cases b
   · rw [if_neg (by decide)] at hsn
     (refine go ?_;repeat' (apply B<;>intro hb<;>try cases hb))
     refine Z5 (Z31 x.val (by omega)) rfl rfl rfl ⟨trivial,trivial⟩ rfl ?_
     (repeat'(first|refine Z6 32 ?_|refine Z3 32 ?_|refine st ?_|(apply B<;>intro hb<;>try cases hb)))<;>try refine At.mk ?_
     refine ZT (ZQ (k:=2) (m := [strC (numS x.val)]) (fl:=true) (b:=⟨1,acc.map strC⟩) rfl rfl rfl (fun q hq=>by rw [List.mem_singleton] at hq; subst hq; rfl) rfl (by
      show ((acc.map strC).length+1)*16≤_
      rw [List.length_map];omega)) rfl rfl ?_
     (refine go ?_;repeat' (apply B<;>intro hb<;>try cases hb))
     exact⟨.inl rfl,pre.map (·.val) ++ [x.val],mv 2 3,⟨rfl,by rw [List.map_append]; rfl⟩,Z3k (by decide),ZK rfl,⟨⟨_,rfl,.own (ρ:=mv 2 3) 0 (by decide)⟩,⟨_,rfl,.pure _ trivial⟩,⟨_,rfl,.pure _ htp⟩,⟨_,rfl,.ptr (ρ:=mv 2 3) 1 0 0 (by decide)⟩,⟨_,rfl,.pure _ ⟨⟨Za _,trivial⟩,trivial⟩⟩,trivial⟩,⟨⟨by decide,_,rfl,.same _ (Zk l)⟩,⟨by decide,_,rfl,RenB.single ⟨.own (ρ:=mv 2 3) 2 (by decide),trivial⟩ rfl⟩,⟨by decide,_,rfl,by rw [hsn,List.map_append]; exact .same ⟨1,acc.map strC ++ [numS x.val].map strC⟩ (by rw [← List.map_append]; exact Zk _)⟩,trivial⟩⟩
   · rw [if_pos rfl] at hsn
     (repeat'(first|refine Z6 32 ?_|refine Z3 32 ?_|refine st ?_|(apply B<;>intro hb<;>try cases hb)))<;>try refine At.mk ?_
     refine ZT (ZQ (k:=2) (m := [strC s]) (fl:=true) (b:=⟨1,acc.map strC⟩) rfl rfl rfl (fun q hq=>by rw [List.mem_singleton] at hq; subst hq; rfl) rfl (by
      show ((acc.map strC).length+1)*16≤_
      rw [List.length_map];omega)) rfl rfl ?_
     (refine go ?_;repeat' (apply B<;>intro hb<;>try cases hb))
     exact⟨.inl rfl,pre.map (·.val) ++ [x.val],mv 2 3,⟨rfl,by rw [List.map_append]; rfl⟩,Z3k (by decide),ZK rfl,⟨⟨_,rfl,.own (ρ:=mv 2 3) 0 (by decide)⟩,⟨_,rfl,.pure _ trivial⟩,⟨_,rfl,.pure _ htp⟩,⟨_,rfl,.ptr (ρ:=mv 2 3) 1 0 0 (by decide)⟩,⟨_,rfl,.pure _ ⟨⟨Za _,trivial⟩,trivial⟩⟩,trivial⟩,⟨⟨by decide,_,rfl,.same _ (Zk l)⟩,⟨by decide,_,rfl,RenB.single ⟨.own (ρ:=mv 2 3) 2 (by decide),trivial⟩ rfl⟩,⟨by decide,_,rfl,by rw [hsn,List.map_append]; exact .same ⟨1,acc.map strC ++ [s].map strC⟩ (by rw [← List.map_append]; exact Zk _)⟩,trivial⟩⟩
 · rintro xs z hxs ⟨-, rfl⟩
   rw [hxs]
   have hml:=ZZ N
   have hsz:∀ y∈(mem N).map nm,y.data.toList.length≤100:=fun y hy=>by
    obtain⟨r,hr,rfl⟩:=List.mem_map.1 hy
    exact hN.len r (Z1I hr)
   have hlen:((mem N).map nm).length≤64:=by rw [List.length_map]; exact hml
   have hjl:=Z5L hsz hlen ⟨#[32,97,110,100,32]⟩ (by decide)
   unfold partB
   generalize (mem N).map nm=ns at hsz hlen hjl ⊢
   (repeat'(first|refine Z6 35 ?_|refine Z3 35 ?_|refine st ?_|(apply B<;>intro hb<;>try cases hb)))<;>try refine At.mk ?_
   refine Ze (Z1o (ob:=1) (id:=2) (i0:=0) (j0:=0) rfl rfl (by decide) (Zk ns) (Nat.le_of_ble_eq_true rfl) (Nat.le_of_ble_eq_true rfl) rfl) ?_
   (repeat'(first|refine Z6 36 ?_|refine Z3 36 ?_|refine st ?_|(apply B<;>intro hb<;>try cases hb)))<;>try refine At.mk ?_
   refine Z5 (Z2q ns false ⟨#[32,97,110,100,32]⟩ (by omega) (by omega)) rfl rfl rfl ⟨Zk _,trivial,trivial⟩ rfl ?_
   have hJ:(joinS ns ⟨#[32,97,110,100,32]⟩).size≤1000000:=by
    rw [bsize]
    exact Nat.le_trans hjl (by decide)
   generalize joinS ns ⟨#[32,97,110,100,32]⟩=J at hJ ⊢
   refine Z8 (Zak rfl rfl (by omega) hJ) rfl rfl ?_
   (repeat'(first|refine Z6 39 ?_|refine Z3 39 ?_|refine st ?_|(apply B<;>intro hb<;>try cases hb)))<;>try refine At.mk ?_
   refine ZT (ZQ (k:=0) (m := [strC (word++J)]) (fl:=true) (b:=⟨1,l.map strC⟩) rfl rfl rfl (fun q hq=>by rw [List.mem_singleton] at hq; subst hq; rfl) rfl (by
    show ((l.map strC).length+1)*16≤_
    rw [List.length_map];omega)) rfl rfl ?_
   (refine go ?_;repeat' (apply B<;>intro hb<;>try cases hb))
   exact⟨_,_,rfl,.inl rfl,_,⟨1,(l ++ [word++J]).map strC⟩,rfl,by rw [List.map_append]; rfl,Zk _,rfl⟩
 · rintro ex pre z - ⟨rfl,_⟩ (h|⟨id,h⟩)<;>cases h
theorem Zek {r:Nat} (h:r<64):(numS r).data.toList.length≤100:=by have:=Z5K (k:=r) (by omega); omega
theorem namesNil:NamesW (.val (.pointer none)) numS where
 one:=rfl
 cell:=rfl
 pure:=trivial
 len:=fun r h=>Zek h
 name:=fun r h=>by
  refine⟨⟨#[]⟩,false,?_,rfl⟩
  have hlen:Spec Tryz.prog 165 [.val (.pointer none)] (· = .val (.int .i64 0)):=by
   refine Z2 ok165 (Nat.le_of_ble_eq_true rfl) fun C hC=>?_
   (refine go ?_;repeat' (apply B<;>intro hb<;>try cases hb))
   exact Z4 rfl trivial rfl
  refine Z2 ok139 (Nat.le_of_ble_eq_true rfl) fun C hC=>?_
  (repeat'(first|refine Z6 7 ?_|refine Z3 7 ?_|refine st ?_|(apply B<;>intro hb<;>try cases hb)))<;>try refine At.mk ?_
  refine Zz rfl rfl rfl (fun hb=>?_) (fun hb=>?_)
  · (refine go ?_;repeat' (apply B<;>intro hb<;>try cases hb))
    exact Z4 rfl ⟨trivial,trivial,trivial⟩ rfl
  · have h1 : ¬ (r : Int) < 1 := of_decide_eq_false hb
    clear hb
    (refine go ?_;repeat' (apply B<;>intro hb<;>try cases hb))
    refine Z5 hlen rfl rfl rfl ⟨trivial,trivial⟩ rfl ?_
    refine Z17 rfl ?_
    refine Z8 (Zp (v:=true) rfl (decide_eq_true (by omega))) rfl rfl ?_
    (refine go ?_;repeat' (apply B<;>intro hb<;>try cases hb))
    exact Z4 rfl ⟨trivial,trivial,trivial⟩ rfl
section
variable {tp:PV} {nm:Nat→ByteArray} (hN:NamesW tp nm)
include hN
theorem Z6o (word:ByteArray):Spec Tryz.prog 99 [.vec [] true,.val (.string word),setN 0,tp] (· = .vec [] true):=by
 have hfl:=hN.one
 have hce:=hN.cell
 refine Z2 ok99 (Nat.le_of_ble_eq_true rfl) fun C hC=>?_
 refine Zf ?_
 refine Z7 ?_
 refine Z0 rfl rfl rfl ?_
 refine Z0 (show fEval (.box (.tmp 3)) _ _ _=some (.cp [tp],_) by (show (match some tp with|some p=>if p.flat&&decide (0<p.cells.length) then some (PV.cp p.cells,_) else none|none=>none)=_; simp only [hfl,hce]; rfl)) rfl rfl ?_
 (refine go ?_;repeat' (apply B<;>intro hb<;>try cases hb))
 refine Z5 (Z2k 0 (by decide)) rfl rfl rfl ⟨Z1 0,trivial⟩ rfl ?_
 (refine go ?_;repeat' (apply B<;>intro hb<;>try cases hb))
 exact Z4 rfl trivial rfl
theorem Z9q {n k:Nat} {h:Heap} (hh:h n=none) (word:ByteArray):ISpec Tryz.prog 99 n [.own k,.val (.string word),setN 0,tp] h (fun n' r h'=>n'=n∧r=.own k∧h'=h):=by
 have hfl:=hN.one
 have hce:=hN.cell
 refine Z1u ok99 (Nat.le_of_ble_eq_true rfl) fun C hC=>?_
 refine Zf ?_
 refine Z7 ?_
 refine Z0 rfl rfl hh ?_
 refine Z0 (show fEval (.box (.tmp 3)) _ _ _=some (.cp [tp],_) by (show (match some tp with|some p=>if p.flat&&decide (0<p.cells.length) then some (PV.cp p.cells,_) else none|none=>none)=_; simp only [hfl,hce]; rfl)) rfl hh ?_
 refine Z8 rfl rfl hh ?_
 refine Z18 ?_
 refine Zf ?_
 refine Zf ?_
 refine Z7 ?_
 refine Z8 rfl rfl hh ?_
 refine Z5 (Z2k 0 (by decide)) rfl rfl rfl ⟨Z1 0,trivial⟩ hh ?_
 refine Z18 ?_
 refine Z6D rfl ?_
 refine Zf ?_
 refine Z7 ?_
 refine Z8 rfl rfl hh ?_
 refine Z8 rfl rfl hh ?_
 refine Z18 ?_
 refine Zc4 ?_
 exact⟨_,_,rfl,.inl rfl,rfl,rfl,rfl⟩
def hasW:ByteArray:=⟨#[104,97,115,32]⟩
def lacksW:ByteArray:=⟨#[108,97,99,107,115,32]⟩
def partsW (c:Cu) (nm:Nat→ByteArray):List ByteArray:=(if c.1=0 then [] else [partB hasW c.1 nm])++(if c.2=0 then [] else [partB lacksW c.2 nm])
def sentW (c:Cu) (nm:Nat→ByteArray):ByteArray:=if partsW c nm = [] then ⟨#[97,110,121,32,114,111,108,101,115]⟩ else joinS (partsW c nm) ⟨#[44,32]⟩
theorem Z89 {word:ByteArray} (hw:word.data.toList.length≤100) (N:Nat):(partB word N nm).data.toList.length≤100100:=by
 have hml:=ZZ N
 have hsz:∀ y∈(mem N).map nm,y.data.toList.length≤100:=fun y hy=>by
  obtain⟨r,hr,rfl⟩:=List.mem_map.1 hy
  exact hN.len r (Z1I hr)
 have hjl:=Z5L hsz (by rw [List.length_map]; exact hml) ⟨#[32,97,110,100,32]⟩ (by decide)
 unfold partB
 rw [ByteArray.data_append,Array.toList_append,List.length_append]
 have:(joinS ((mem N).map nm) ⟨#[32,97,110,100,32]⟩).data.toList.length≤100000:=hjl
 omega
omit hN in
theorem Z7e {l:List ByteArray} (h:∀ x∈l,x.data.toList.length≤100100) (hl:l.length≤2):(Go.Lib.join (l.map (·.data.toList)) (⟨#[44,32]⟩:ByteArray).data.toList).length≤140737488355328:=by
 cases l with
 | nil=>simp [Go.Lib.join_nil]
 | cons x l =>
   rw [List.map_cons,Go.Lib.join_length]
   have:=Z9o (k:=100100) (l:=(x :: l).map (·.data.toList)) fun y hy=>by
    obtain⟨z,hz,rfl⟩:=List.mem_map.1 hy
    exact h z hz
   rw [List.map_cons] at this
   simp only [List.length_cons,List.length_map] at this hl ⊢
   simp only [List.length_nil]
   omega
set_option maxHeartbeats 4000000 in
theorem Zbv (c:Cu) (hc:Ok64 c):Spec Tryz.prog 51 [cuP c,tp] (· = .val (.string (sentW c nm))):=by
 obtain⟨y,z⟩:=c
 obtain⟨hy,hz⟩:y<18446744073709551616∧z<18446744073709551616:=hc
 have htp:=hN.pure
 have b1:=Z89 hN (word:=hasW) (by decide) y
 have b2:=Z89 hN (word:=lacksW) (by decide) z
 refine Z2 ok51 (Nat.le_of_ble_eq_true rfl) fun C hC=>?_
 refine Zf ?_
 refine Z7 ?_
 refine Z0 rfl rfl rfl ?_
 unfold sentW partsW
 dsimp only
 by_cases h1:y=0
 · subst h1
   rw [if_pos rfl,List.nil_append]
   (repeat'(first|refine Z6 8 ?_|refine Z3 8 ?_|refine st ?_|(apply B<;>intro hb<;>try cases hb)))<;>try refine At.mk ?_
   refine Z8 rfl rfl rfl ?_
   refine Z5 (Z6o hN hasW) rfl rfl rfl ⟨trivial,trivial,Z1 0,htp,trivial⟩ rfl ?_
   by_cases h2:z=0
   · subst h2
     (repeat'(first|refine Z6 13 ?_|refine Z3 13 ?_|refine st ?_|(apply B<;>intro hb<;>try cases hb)))<;>try refine At.mk ?_
     refine Z8 rfl rfl rfl ?_
     refine Z5 (Z6o hN lacksW) rfl rfl rfl ⟨trivial,trivial,Z1 0,htp,trivial⟩ rfl ?_
     (refine go ?_;repeat' (apply B<;>intro hb<;>try cases hb))
     exact Z4 rfl trivial rfl
   · rw [if_neg h2]
     (repeat'(first|refine Z6 13 ?_|refine Z3 13 ?_|refine st ?_|(apply B<;>intro hb<;>try cases hb)))<;>try refine At.mk ?_
     refine Z8 rfl rfl rfl ?_
     refine Z70 (Z6n hN lacksW (by decide) z hz h2) Z4V (Zk _) rfl rfl ⟨trivial,trivial,Z1 z,htp,trivial⟩ ?_
     (repeat'(first|refine Z6 18 ?_|refine Z3 18 ?_|refine st ?_|(apply B<;>intro hb<;>try cases hb)))<;>try refine At.mk ?_
     refine Ze (Zj (k:=5) (id:=0) (b:=⟨1,[partB lacksW z nm].map strC⟩) rfl rfl (Zk _)) ?_
     (repeat'(first|refine Z6 19 ?_|refine Z3 19 ?_|refine st ?_|(apply B<;>intro hb<;>try cases hb)))<;>try refine At.mk ?_
     refine Z5 (Z2q [partB lacksW z nm] false ⟨#[44,32]⟩ (by simp) (Z7e (fun x hx=>by rw [List.mem_singleton] at hx; subst hx; exact b2) (by simp))) rfl rfl rfl ⟨Zk _,trivial,trivial⟩ rfl ?_
     (refine go ?_;repeat' (apply B<;>intro hb<;>try cases hb))
     exact Z4 rfl trivial (by rw [if_neg (by simp)])
 · rw [if_neg h1]
   (repeat'(first|refine Z6 8 ?_|refine Z3 8 ?_|refine st ?_|(apply B<;>intro hb<;>try cases hb)))<;>try refine At.mk ?_
   refine Z8 rfl rfl rfl ?_
   refine Z70 (Z6n hN hasW (by decide) y hy h1) Z4V (Zk _) rfl rfl ⟨trivial,trivial,Z1 y,htp,trivial⟩ ?_
   by_cases h2:z=0
   · subst h2
     rw [if_pos rfl,List.append_nil]
     (repeat'(first|refine Z6 13 ?_|refine Z3 13 ?_|refine st ?_|(apply B<;>intro hb<;>try cases hb)))<;>try refine At.mk ?_
     refine Z8 rfl rfl rfl ?_
     refine ZM rfl rfl (Z9q hN (k:=0) rfl lacksW) ?_
     rintro n' x h' ⟨rfl,rfl,rfl⟩
     (repeat'(first|refine Z6 18 ?_|refine Z3 18 ?_|refine st ?_|(apply B<;>intro hb<;>try cases hb)))<;>try refine At.mk ?_
     refine Ze (Zj (k:=5) (id:=0) (b:=⟨1,[partB hasW y nm].map strC⟩) rfl rfl (Zk _)) ?_
     (repeat'(first|refine Z6 19 ?_|refine Z3 19 ?_|refine st ?_|(apply B<;>intro hb<;>try cases hb)))<;>try refine At.mk ?_
     refine Z5 (Z2q [partB hasW y nm] false ⟨#[44,32]⟩ (by simp) (Z7e (fun x hx=>by rw [List.mem_singleton] at hx; subst hx; exact b1) (by simp))) rfl rfl rfl ⟨Zk _,trivial,trivial⟩ rfl ?_
     (refine go ?_;repeat' (apply B<;>intro hb<;>try cases hb))
     exact Z4 rfl trivial (by rw [if_neg (by simp)])
   · rw [if_neg h2]
     (repeat'(first|refine Z6 13 ?_|refine Z3 13 ?_|refine st ?_|(apply B<;>intro hb<;>try cases hb)))<;>try refine At.mk ?_
     refine Z8 rfl rfl rfl ?_
     refine Zff (k:=0) (Zbu hN [partB hasW y nm] (by simp) lacksW (by decide) z hz h2) Z4V rfl rfl rfl rfl (Zk _) ⟨trivial,Z1 z,htp,trivial⟩ ?_
     rintro b' hb' rfl
     (repeat'(first|refine Z6 18 ?_|refine Z3 18 ?_|refine st ?_|(apply B<;>intro hb<;>try cases hb)))<;>try refine At.mk ?_
     refine Ze (Zj (k:=5) (id:=1) (b:=⟨1,[partB hasW y nm,partB lacksW z nm].map strC⟩) rfl rfl (Zk _)) ?_
     (repeat'(first|refine Z6 19 ?_|refine Z3 19 ?_|refine st ?_|(apply B<;>intro hb<;>try cases hb)))<;>try refine At.mk ?_
     refine Z5 (Z2q [partB hasW y nm,partB lacksW z nm] false ⟨#[44,32]⟩ (by simp) (Z7e (fun x hx=>by
      rcases List.mem_cons.1 hx with rfl|hx
      · exact b1
      · rw [List.mem_singleton] at hx; subst hx; exact b2) (by simp))) rfl rfl rfl ⟨Zk _,trivial,trivial⟩ rfl ?_
     (refine go ?_;repeat' (apply B<;>intro hb<;>try cases hb))
     exact Z4 rfl trivial (by rw [if_neg (by simp)]; rfl)
end
def fmF:Fm:=.mk 11 0 [] [.mk 5 0 [1,2,3] [],.mk 1 1 [] []]
def fmG:Fm:=.mk 10 0 [] [.mk 4 0 [1] [],.mk 4 0 [2] []]
theorem Zd9:checkM fmF=0:=by decide +kernel
theorem Zda:checkM fmG=0:=by decide +kernel
theorem Zel:vioL fmF = [(6,0),(10,0),(12,0)]:=by decide +kernel
theorem Zem:vioL fmG = [(2,4)]:=by decide +kernel
theorem ZfE:firstC (vioL fmF) 14=some (6,0):=by rw [Zel]; decide +kernel
theorem ZfF:firstC (vioL fmG) 10=some (2,4):=by rw [Zem]; decide +kernel
theorem Zal {l:List Pr} {M:Nat} (hl:Small l) (hu:∀ a r,Up l a r↔a=4∧M.testBit r=true) {s:Nat} (hs:s<18446744073709551616) (h0:s.testBit 0=false):clo l s=s ||| (if s.testBit 4 then M else 0):=Nat.eq_of_testBit_eq fun r=>by
 rw [Bool.eq_iff_iff,Zfe hl hs,Nat.testBit_or,Bool.or_eq_true]
 constructor
 · rintro ⟨a, h1, h2, h3⟩
   rcases (Z5A hl r a).1 h3 with h4|rfl
   · obtain ⟨rfl, h5⟩ := (hu a r).1 h4
     rw [if_pos h1]; exact .inr h5
   · exact .inl h1
 · rintro (h1 | h1)
   · exact⟨r,h1,Nat.pos_of_ne_zero (n:=r) fun e=>by (rw [e,h0] at h1; cases h1),(Z5A hl r r).2 (.inr rfl)⟩
   · by_cases h4 : s.testBit 4 = true
     · rw [if_pos h4] at h1
       exact⟨4,h4,by decide,(Z5A hl r 4).2 (.inl ((hu 4 r).2 ⟨rfl,h1⟩))⟩
     · rw [if_neg h4,Nat.zero_testBit] at h1; cases h1
theorem ZfY (a r:Nat):Up [(4,1),(4,2)] a r↔a=4∧(6:Nat).testBit r=true:=by
 constructor
 · intro h
   induction h with
   | one h =>
     simp only [List.mem_cons,Prod.mk.injEq,List.not_mem_nil,or_false] at h
     rcases h with⟨rfl,rfl⟩|⟨rfl,rfl⟩<;>exact⟨rfl,by decide⟩
   | more _ k ih =>
     simp only [List.mem_cons,Prod.mk.injEq,List.not_mem_nil,or_false] at k
     rcases k with⟨rfl,rfl⟩|⟨rfl,rfl⟩<;>exact absurd ih.2 (by decide)
 · rintro ⟨rfl, h⟩
   have hr:r<3:=Nat.lt_of_not_le fun h3=>by
    rw [Nat.testBit_lt_two_pow (Nat.lt_of_lt_of_le (by decide:6<2 ^ 3) (Nat.pow_le_pow_right (by decide) h3))] at h; cases h
   match r,hr,h with
   | 0,_,h=>cases h
   | 1,_,_=>exact .one (by simp)
   | 2,_,_=>exact .one (by simp)
theorem ZfZ (a r:Nat):Up [(4,2)] a r↔a=4∧(4:Nat).testBit r=true:=by
 constructor
 · intro h
   induction h with
   | one h =>
     simp only [List.mem_cons,Prod.mk.injEq,List.not_mem_nil,or_false] at h
     obtain⟨rfl,rfl⟩:=h
     exact⟨rfl,by decide⟩
   | more _ k ih =>
     simp only [List.mem_cons,Prod.mk.injEq,List.not_mem_nil,or_false] at k
     obtain⟨rfl,rfl⟩:=k
     exact absurd ih.2 (by decide)
 · rintro ⟨rfl, h⟩
   have hr:r<3:=Nat.lt_of_not_le fun h3=>by
    rw [Nat.testBit_lt_two_pow (Nat.lt_of_lt_of_le (by decide:4<2 ^ 3) (Nat.pow_le_pow_right (by decide) h3))] at h; cases h
   match r,hr,h with
   | 0,_,h=>cases h
   | 1,_,h=>cases h
   | 2,_,_=>exact .one (by simp)
theorem Zdb:Small [(4,1),(4,2)]:=fun p hp=>by
 simp only [List.mem_cons,List.not_mem_nil,or_false] at hp
 rcases hp with rfl|rfl<;>decide
theorem Zfg:Small [(4,2)]:=fun p hp=>by
 simp only [List.mem_cons,List.not_mem_nil,or_false] at hp
 subst hp; decide
theorem ZeG {s:Nat} (h:s ||| 24=24):s=0 ∨ s=8 ∨ s=16 ∨ s=24:=by
 have hlt:s<25:=Nat.lt_succ_of_le (by rw [← h]; exact Nat.left_le_or)
 have key:∀ s,s<25→s ||| 24=24→s=0 ∨ s=8 ∨ s=16 ∨ s=24:=by decide
 exact key s hlt h
theorem Zam {s:Nat} (h:s ||| 20=20):s=0 ∨ s=4 ∨ s=16 ∨ s=20:=by
 have hlt:s<21:=Nat.lt_succ_of_le (by rw [← h]; exact Nat.left_le_or)
 have key:∀ s,s<21→s ||| 20=20→s=0 ∨ s=4 ∨ s=16 ∨ s=20:=by decide
 exact key s hlt h
theorem ZfO {s:Nat} (h:s ||| 24=24):gdR fmF [(4,1),(4,2)] 24 s=decide (s=16 ∨ s=24):=by
 unfold gdR
 rcases ZeG h with rfl|rfl|rfl|rfl
 all_goals
  rw [Zal Zdb ZfY (by decide) (by decide)]
  decide +kernel
theorem ZfP {s:Nat} (h:s ||| 20=20):gdA fmG [(4,2)] 10 s=decide (s≠0):=by
 unfold gdA
 rcases Zam h with rfl|rfl|rfl|rfl
 all_goals
  rw [Zal Zfg ZfZ (by decide) (by decide)]
  decide +kernel
theorem ZfG:Mins (fun s=>s ||| 24=24) (gdR fmF [(4,1),(4,2)] 24) [16]:=⟨by simp,fun s=>by
 rw [List.mem_singleton]
 constructor
 · rintro rfl
   refine⟨by decide,by rw [ZfO (by decide)]; rfl,fun s' h1 h2=>?_⟩
   rw [ZfO h1] at h2
   rcases of_decide_eq_true h2 with rfl|rfl<;>decide +kernel
 · rintro ⟨h1, h2, h3⟩
   rw [ZfO h1] at h2
   rcases of_decide_eq_true h2 with rfl|rfl
   · rfl
   · have := h3 16 (by decide) (by rw [ZfO (by decide)]; rfl)
     exact absurd this (by decide +kernel)⟩
theorem ZfH:Mins (fun s=>s ||| 20=20) (gdA fmG [(4,2)] 10) [4,16]:=⟨by simp,fun s=>by
 rw [List.mem_cons,List.mem_singleton]
 constructor
 · rintro (rfl | rfl)
   all_goals
    refine⟨by decide,by rw [ZfP (by decide)]; rfl,fun s' h1 h2=>?_⟩
    rw [ZfP h1] at h2
    rcases Zam h1 with rfl|rfl|rfl|rfl
    · cases h2
    all_goals decide +kernel
 · rintro ⟨h1, h2, h3⟩
   rw [ZfP h1] at h2
   rcases Zam h1 with rfl|rfl|rfl|rfl
   · cases h2
   · exact .inl rfl
   · exact .inr rfl
   · have := h3 16 (by decide) (by rw [ZfP (by decide)]; rfl)
     exact absurd this (by decide +kernel)⟩
theorem ZfI:SortedK [16]:=List.pairwise_singleton _ _
theorem ZfJ:SortedK [4,16]:=by
 unfold SortedK
 rw [List.pairwise_cons]
 refine⟨fun a ha=>?_,List.pairwise_singleton _ _⟩
 rw [List.mem_singleton] at ha
 subst ha
 decide +kernel
theorem ZeH:textB 16=⟨#[123,52,125]⟩:=by
 unfold textB
 rw [show mem 16 = [4] by decide +kernel]
 show (⟨(([123]++((if 1 < [(123:UInt8)].length then [32] else [])++Go.Lib.decDigits 4)) ++ [125]).toArray⟩:ByteArray)=_
 rw [Go.Lib.decDigits_one (by decide)]; rfl
theorem ZfK:textB 4=⟨#[123,50,125]⟩:=by
 unfold textB
 rw [show mem 4 = [2] by decide +kernel]
 show (⟨(([123]++((if 1 < [(123:UInt8)].length then [32] else [])++Go.Lib.decDigits 2)) ++ [125]).toArray⟩:ByteArray)=_
 rw [Go.Lib.decDigits_one (by decide)]; rfl
theorem ZfL:numS 1=⟨#[49]⟩:=by unfold numS; rw [Go.Lib.decDigits_one (by decide)]; rfl
theorem ZfM:numS 2=⟨#[50]⟩:=by unfold numS; rw [Go.Lib.decDigits_one (by decide)]; rfl
theorem Zfh:textS (6,0)=⟨#[49,32,50]⟩:=by
 have e1:mem ((6:Nat) ||| 0) = [1,2]:=by decide +kernel
 have h:litsS (6,0) [1,2] = [⟨#[49]⟩,⟨#[50]⟩]:=by
  unfold litsS litS
  simp only [List.flatMap_cons,List.flatMap_nil]
  rw [ZfL,ZfM]
  rfl
 unfold textS
 show (if litsS (6,0) (mem (6 ||| 0)) = [] then _ else joinS (litsS (6,0) (mem (6 ||| 0))) ⟨#[32]⟩)=_
 rw [e1,h,if_neg (by simp)]
 rfl
theorem Zfi:sentW (2,4) numS=⟨#[104,97,115,32,49,44,32,108,97,99,107,115,32,50]⟩:=by
 have e1:mem (2:Nat) = [1]:=by decide +kernel
 have e2:mem (4:Nat) = [2]:=by decide +kernel
 have h:partsW (2,4) numS = [⟨#[104,97,115,32,49]⟩,⟨#[108,97,99,107,115,32,50]⟩]:=by
  show (if (2:Nat)=0 then [] else [partB hasW 2 numS])++(if (4:Nat)=0 then [] else [partB lacksW 4 numS])=_
  rw [if_neg (by decide),if_neg (by decide)]
  unfold partB
  rw [e1,e2]
  simp only [List.map]
  rw [ZfL,ZfM]
  rfl
 unfold sentW
 rw [h,if_neg (by simp)]
 rfl
section
variable {P:Program} {e:Env} {h:Heap} {n:Nat}
theorem Zan {k:Nat} {p q:PV} (hk:e k=some p) (hr:RenP (fun i=>i) (fun _=>False) p q):SubA n e h n (e.upd k q) h:=by
 rintro C a w ⟨F,φ,s⟩
 refine⟨F,φ,{ s with env:=fun j r hq=>?_ }⟩
 by_cases hj:j=k
 · subst hj
   rw [Env.upd_same] at hq
   cases hq
   exact⟨(s.env j p hk).1,hr.rep (fun i x hd _=>hd.elim) (s.env j p hk).2⟩
 · rw [Env.upd_ne _ _ hj] at hq
   exact s.env j r hq
end
theorem Z1J (l:List Int) (N:Nat) (h:maskTo (topOf l) l=N) (fl:Bool):Spec Tryz.prog 48 [.vec (nums l) fl] (· = setN N):=h▸Z6E l fl
theorem Zen:Made6 fmF:=⟨⟨by decide +kernel,by decide +kernel⟩,by decide,by decide,by decide,by decide +kernel⟩
theorem Zeo:Made6 fmG:=⟨⟨by decide +kernel,by decide +kernel⟩,by decide,by decide,by decide,by decide +kernel⟩
theorem Z6p (S:List Nat) (b:Nat) (hb:1≤b∧b<64) (hab:4≠b):Spec Tryz.prog 53 [hierP [] S,.val (.int .i64 4),.val (.int .i64 (b:Int))] fun r=>∃ S',r=.tup [hierP [(4,b)] S',.val (.int .i64 0)]:=by
 refine (Z86 [] S 4 b (by decide) hb hab (fun p hp=>by cases hp) List.nodup_nil (by simp) ⟨fun x=>if x=4 then 0 else 1,fun p hp=>by
  rw [List.nil_append,List.mem_singleton] at hp
  subst hp
  simp [Ne.symm hab]⟩ (by decide)).mono ?_
 rintro r ⟨l',S',h1,h2,rfl⟩
 obtain rfl:=List.perm_singleton.1 h1
 exact⟨S',rfl⟩
theorem Z9r (S:List Nat):Spec Tryz.prog 53 [hierP [(4,1)] S,.val (.int .i64 4),.val (.int .i64 2)] fun r=>∃ S',r=.tup [hierP [(4,1),(4,2)] S',.val (.int .i64 0)]:=by
 refine (Z86 [(4,1)] S 4 2 (by decide) (by decide) (by decide) (fun p hp=>Zdb p (by rw [List.mem_singleton] at hp; subst hp; simp)) (by simp) (by simp) ⟨fun x=>if x=4 then 0 else 1,fun p hp=>by
  rw [List.singleton_append] at hp
  simp only [List.mem_cons,List.not_mem_nil,or_false] at hp
  rcases hp with rfl|rfl<;>simp⟩ (by decide)).mono ?_
 rintro r ⟨l',S',h1,h2,rfl⟩
 rw [List.singleton_append] at h1
 have hl:=h1.length_eq
 match l',h1,h2,hl with
 | [x, y], h1, h2, _ =>
   have hx:x∈[((4,1):Pr),(4,2)]:=h1.mem_iff.1 (by simp)
   have hy:y∈[((4,1):Pr),(4,2)]:=h1.mem_iff.1 (by simp)
   have hs:=(List.pairwise_cons.1 h2).1 y (by simp)
   simp only [List.mem_cons,List.not_mem_nil,or_false] at hx hy
   rcases hx with rfl|rfl<;>rcases hy with rfl|rfl
   · simp at hs
   · exact⟨S',rfl⟩
   · simp at hs
   · simp at hs
theorem Zep {r:PV} (hr:RepR fmF 24 (gdR fmF [(4,1),(4,2)] 24) r):∃ fl,r=.tup [.vec [stC 16] fl,.val (.int .i64 0)]:=by
 cases hr with
 | bad h=>exact absurd Zd9 h
 | sm _ hs =>
   cases hs with
   | many h=>exact absurd h (by decide +kernel)
   | found _ out fl hm hso =>
     obtain rfl:=Z83 hm ZfG (fun s h=>by rcases ZeG h with rfl|rfl|rfl|rfl<;>decide) hso ZfI
     exact⟨fl,rfl⟩
theorem Zeq {r:PV} (hr:RepR fmG (minusN 20 10) (gdA fmG [(4,2)] 10) r):∃ fl,r=.tup [.vec [stC 4,stC 16] fl,.val (.int .i64 0)]:=by
 have e:minusN 20 10=20:=by decide +kernel
 rw [e] at hr
 cases hr with
 | bad h=>exact absurd Zda h
 | sm _ hs =>
   cases hs with
   | many h=>exact absurd h (by decide +kernel)
   | found _ out fl hm hso =>
     obtain rfl:=Z83 hm ZfH (fun s h=>by rcases Zam h with rfl|rfl|rfl|rfl<;>decide) hso ZfJ
     exact⟨fl,rfl⟩
def boxF:List PV := [.val (.int .u8 11),.val (.int .i64 0),.vec [] true,.vec [[.val (.int .u8 5),.val (.int .i64 0),.vec (nums [1,2,3]) true,.vec [] true],[.val (.int .u8 1),.val (.int .i64 1),.vec [] true,.vec [] true]] true]
def boxG:List PV := [.val (.int .u8 10),.val (.int .i64 0),.vec [] true,.vec [[.val (.int .u8 4),.val (.int .i64 0),.vec (nums [1]) true,.vec [] true],[.val (.int .u8 4),.val (.int .i64 0),.vec (nums [2]) true,.vec [] true]] true]
theorem Zao:(PV.cp boxF).low=.cp (fC .u8 fmF):=rfl
theorem Zap:(PV.cp boxG).low=.cp (fC .u8 fmG):=rfl
theorem Zdc:pureL boxF:=⟨trivial,trivial,trivial,⟨⟨trivial,trivial,Z9 _,trivial,trivial⟩,⟨trivial,trivial,trivial,trivial,trivial⟩,trivial⟩,trivial⟩
theorem Zdd:pureL boxG:=⟨trivial,trivial,trivial,⟨⟨trivial,trivial,Z9 _,trivial,trivial⟩,⟨trivial,trivial,Z9 _,trivial,trivial⟩,trivial⟩,trivial⟩
theorem ZfV:RenP (fun i=>i) (fun _=>False) (.cp boxF) (.cp (fC .u8 fmF)):=Zao▸RenP.low (.cp boxF) (by rw [Zao]; exact Zg _ _)
theorem ZfW:RenP (fun i=>i) (fun _=>False) (.cp boxG) (.cp (fC .u8 fmG)):=Zap▸RenP.low (.cp boxG) (by rw [Zap]; exact Zg _ _)
set_option maxRecDepth 100000 in
set_option maxHeartbeats 16000000 in
theorem Z8a:Spec Tryz.prog 12 [] (· = .val (.bool true)):=by
 have hpf:=Zg .u8 fmF
 have hpg:=Zg .u8 fmG
 refine Z2 ok12 (Nat.le_of_ble_eq_true rfl) fun C hC=>?_
 (repeat'(first|refine Z6 22 ?_|refine Z3 22 ?_|refine st ?_|(apply B<;>intro hb<;>try cases hb)))<;>try refine At.mk ?_
 refine Ze (Z19 (k:=1) (l:=boxF) rfl rfl Zdc) ?_
 refine Ze (Zan (k:=1) rfl ZfV) ?_
 (repeat'(first|refine Z6 29 ?_|refine Z3 29 ?_|refine st ?_|(apply B<;>intro hb<;>try cases hb)))<;>try refine At.mk ?_
 refine Ze (Z19 (k:=2) (l:=boxG) rfl rfl Zdd) ?_
 refine Ze (Zan (k:=2) rfl ZfW) ?_
 refine Zu rfl rfl Z2Y trivial rfl ?_
 rintro r ⟨S0,rfl⟩
 (repeat'(first|refine Z6 30 ?_|refine Z3 30 ?_|refine st ?_|(apply B<;>intro hb<;>try cases hb)))<;>try refine At.mk ?_
 refine Zu rfl rfl (Z6p S0 1 (by decide) (by decide)) ⟨Zr _ _,trivial,trivial,trivial⟩ rfl ?_
 rintro r ⟨S1,rfl⟩
 (repeat'(first|refine Z6 35 ?_|refine Z3 35 ?_|refine st ?_|(apply B<;>intro hb<;>try cases hb)))<;>try refine At.mk ?_
 refine Zu rfl rfl (Z9r S1) ⟨Zr _ _,trivial,trivial,trivial⟩ rfl ?_
 rintro r ⟨S2,rfl⟩
 (repeat'(first|refine Z6 39 ?_|refine Z3 39 ?_|refine st ?_|(apply B<;>intro hb<;>try cases hb)))<;>try refine At.mk ?_
 refine Zu rfl rfl Z2Y trivial rfl ?_
 rintro r ⟨S3,rfl⟩
 (repeat'(first|refine Z6 40 ?_|refine Z3 40 ?_|refine st ?_|(apply B<;>intro hb<;>try cases hb)))<;>try refine At.mk ?_
 refine Zu rfl rfl (Z6p S3 2 (by decide) (by decide)) ⟨Zr _ _,trivial,trivial,trivial⟩ rfl ?_
 rintro r ⟨S4,rfl⟩
 (repeat'(first|refine Z6 56 ?_|refine Z3 56 ?_|refine st ?_|(apply B<;>intro hb<;>try cases hb)))<;>try refine At.mk ?_
 refine Zl (Z1J [1,2,3] 14 (by decide +kernel) true) rfl rfl rfl ⟨Z9 _,trivial⟩ ?_
 (repeat'(first|refine Z6 57 ?_|refine Z3 57 ?_|refine st ?_|(apply B<;>intro hb<;>try cases hb)))<;>try refine At.mk ?_
 refine Zl (Z7c fmF (by decide) (by decide) 14 (by decide)) rfl rfl rfl ⟨hpf,Z1 _,trivial⟩ ?_
 rw [ZfE]
 (repeat'(first|refine Z6 63 ?_|refine Z3 63 ?_|refine st ?_|(apply B<;>intro hb<;>try cases hb)))<;>try refine At.mk ?_
 refine Zl (Z1J [1,3] 10 (by decide +kernel) true) rfl rfl rfl ⟨Z9 _,trivial⟩ ?_
 (repeat'(first|refine Z6 64 ?_|refine Z3 64 ?_|refine st ?_|(apply B<;>intro hb<;>try cases hb)))<;>try refine At.mk ?_
 refine Zl (Z7c fmG (by decide) (by decide) 10 (by decide)) rfl rfl rfl ⟨hpg,Z1 _,trivial⟩ ?_
 rw [ZfF]
 (repeat'(first|refine Z6 70 ?_|refine Z3 70 ?_|refine st ?_|(apply B<;>intro hb<;>try cases hb)))<;>try refine At.mk ?_
 refine Zl (Z1J [3,4] 24 (by decide +kernel) true) rfl rfl rfl ⟨Z9 _,trivial⟩ ?_
 (repeat'(first|refine Z6 72 ?_|refine Z3 72 ?_|refine st ?_|(apply B<;>intro hb<;>try cases hb)))<;>try refine At.mk ?_
 refine Z2K rfl rfl (.inl rfl) (Z43 Zen.holdsW (by decide) (by decide) [(4,1),(4,2)] S2 24 (by decide) (by decide)) ⟨hpf,Z1 _,Zr _ _,trivial⟩ ?_
 intro r hr
 obtain⟨fa,rfl⟩:∃ fl,r=.tup [.vec [stC 16] fl,.val (.int .i64 0)]:=Zep hr
 (repeat'(first|refine Z6 78 ?_|refine Z3 78 ?_|refine st ?_|(apply B<;>intro hb<;>try cases hb)))<;>try refine At.mk ?_
 refine Zl (Z1J [1,3] 10 (by decide +kernel) true) rfl rfl rfl ⟨Z9 _,trivial⟩ ?_
 (repeat'(first|refine Z6 80 ?_|refine Z3 80 ?_|refine st ?_|(apply B<;>intro hb<;>try cases hb)))<;>try refine At.mk ?_
 refine Zl (Z1J [2,4] 20 (by decide +kernel) true) rfl rfl rfl ⟨Z9 _,trivial⟩ ?_
 (repeat'(first|refine Z6 82 ?_|refine Z3 82 ?_|refine st ?_|(apply B<;>intro hb<;>try cases hb)))<;>try refine At.mk ?_
 refine Z2K rfl rfl (.inl rfl) (Z2Z Zeo.holdsW (by decide) (by decide) [(4,2)] S4 10 20 (by decide) (by decide) (by decide)) ⟨hpg,Z1 _,Z1 _,Zr _ _,trivial⟩ ?_
 intro r hr
 obtain⟨fb,rfl⟩:∃ fl,r=.tup [.vec [stC 4,stC 16] fl,.val (.int .i64 0)]:=Zeq hr
 (repeat'(first|refine Z6 99 ?_|refine Z3 99 ?_|refine st ?_|(apply B<;>intro hb<;>try cases hb)))<;>try refine At.mk ?_
 refine Z17 rfl ?_
 refine Z5 (Zbt (6,0) ⟨by decide,by decide⟩) rfl rfl rfl ⟨Z4O _,trivial⟩ rfl ?_
 rw [Zfh]
 (repeat'(first|refine Z6 104 ?_|refine Z3 104 ?_|refine st ?_|(apply B<;>intro hb<;>try cases hb)))<;>try refine At.mk ?_
 refine Z17 rfl ?_
 refine Z5 (Zbv namesNil (2,4) ⟨by decide,by decide⟩) rfl rfl rfl ⟨Z4O _,trivial,trivial⟩ rfl ?_
 rw [Zfi]
 (repeat'(first|refine Z6 116 ?_|refine Z3 116 ?_|refine st ?_|(apply B<;>intro hb<;>try cases hb)))<;>try refine At.mk ?_
 refine Z17 rfl ?_
 refine Z5 (Z4j 16 (by decide)) rfl rfl rfl ⟨Z1 _,trivial⟩ rfl ?_
 rw [ZeH]
 (repeat'(first|refine Z6 128 ?_|refine Z3 128 ?_|refine st ?_|(apply B<;>intro hb<;>try cases hb)))<;>try refine At.mk ?_
 refine Z17 rfl ?_
 refine Z5 (Z4j 4 (by decide)) rfl rfl rfl ⟨Z1 _,trivial⟩ rfl ?_
 rw [ZfK]
 (repeat'(first|refine Z6 135 ?_|refine Z3 135 ?_|refine st ?_|(apply B<;>intro hb<;>try cases hb)))<;>try refine At.mk ?_
 refine Z17 rfl ?_
 refine Z5 (Z4j 16 (by decide)) rfl rfl rfl ⟨Z1 _,trivial⟩ rfl ?_
 rw [ZeH]
 (refine go ?_;repeat' (apply B<;>intro hb<;>try cases hb))
 all_goals first|exact Z4 rfl trivial rfl|(exfalso; simp_all)
theorem Zde (l:List Nat):pureLL (seL l):=Z2n (enc:=stC) (fun s=>⟨Za _,trivial⟩) l
theorem Zbw (c:Cu) (hc:Ok64 c):Spec Tryz.prog 38 [cuP c,cuP c] (· = .val (.bool true)):=by
 have:=Z90 c c hc hc
 rwa [(Zf1 c c).2 rfl] at this
theorem Zer (out:List Nat):(if out = [] then (4:Int) else 0)=4 ∨ (if out = [] then (4:Int) else 0)=0:=by
 by_cases h:out = []
 · rw [if_pos h]; exact .inl rfl
 · rw [if_neg h]; exact .inr rfl
theorem Zes:cuP (0,0)=.agg [.vec [] false,.vec [] false]:=by
 show PV.agg [.vec (words (digs 0)) false,.vec (words (digs 0)) false]=_
 rw [Zq]; rfl
theorem Z7f {s:Nat} (hs:s<18446744073709551616) {r:Nat} (hr:r<64):Spec Tryz.prog 27 [setN s,.val (.int .i64 (r:Int))] (· = setN (minusN s (2 ^ r))):=by
 have e:withoutN s (r:Int)=minusN s (2 ^ r):=by
  refine Nat.eq_of_testBit_eq fun j=>?_
  rw [Z4A hs,Z1A hs (Nat.pow_lt_pow_right (n:=64) (by decide) hr),Nat.testBit_two_pow]
  by_cases h:j=r
  · subst h; simp
  · rw [decide_eq_true h,decide_eq_false fun h'=>h h'.symm]; rfl
 have:=Z6M s hs (r:Int)
 rwa [e] at this
theorem ZeI {N:Nat} (hN:N<18446744073709551616) {k:Nat} (h:popK 64 N=k):Spec Tryz.prog 24 [setN N] (· = .val (.int .i64 (k:Int))):=h▸Z2S N hN
theorem Z8g {f:Fm} (h:checkM f=0):HoldsW f:=fun N=>by
 obtain⟨hw,-,hd,hs,ht,-⟩:=Z7V h
 have:=Z68 N [] true f (by omega) (by omega)
 have e:typeOfE f=0∧typeOfT f=1:=by
  unfold typeOfE typeOfT
  rw [if_neg (by omega),if_pos hw.1,if_pos hw.2,if_neg (by omega),if_pos hw.1,if_pos hw.2]
  exact⟨rfl,ht⟩
 rw [e.1,e.2] at this
 exact this
section
variable (f:Fm)
theorem Zaq (w:List Nat):Spec Tryz.prog 62 [.agg (fC .u8 f),.val (.pointer none),.agg [.vec (words w) false]] (· = .val (.int .i64 1)):=by
 refine Z2 ok62 (Nat.le_of_ble_eq_true rfl) fun C hC=>?_
 refine Zf ?_
 refine Z7 ?_
 refine Z0 rfl rfl rfl ?_
 refine Z0 rfl rfl rfl ?_
 (refine go ?_;repeat' (apply B<;>intro hb<;>try cases hb))
 exact Z4 rfl trivial rfl
theorem Zdg (l:List Pr) (S:List Nat) {s:Nat} (hs:s<18446744073709551616) (h0:s.testBit 0=true):Spec Tryz.prog 62 [.agg (fC .u8 f),hierP l S,setN s] (· = .val (.int .i64 1)):=by
 have hh:=Z2P s 0 (by decide) (by decide)
 rw [show (0:Int).toNat=0 from rfl,h0] at hh
 refine Z2 ok62 (Nat.le_of_ble_eq_true rfl) fun C hC=>?_
 refine Zf ?_
 refine Z7 ?_
 refine Z0 rfl rfl rfl ?_
 refine Z0 rfl rfl rfl ?_
 (refine go ?_;repeat' (apply B<;>intro hb<;>try cases hb))
 refine Zl hh rfl rfl rfl ⟨Z1 s,trivial,trivial⟩ ?_
 (refine go ?_;repeat' (apply B<;>intro hb<;>try cases hb))
 exact Z4 rfl trivial rfl
variable (hd:f.depth≤1000) (hsz:f.size≤1099511627776)
theorem Z33 {hv:PV} (hh:hv=.val (.pointer none) ∨ ∃ l S,hv=hierP l S) (w:List Nat) {k:Int} (hk:k≠0) (hl:Spec Tryz.prog 62 [.agg (fC .u8 f),hv,.agg [.vec (words w) false]] (· = .val (.int .i64 k))):Spec Tryz.prog 20 [.agg (fC .u8 f),.agg [.vec (words w) false],hv] (· = .tup [.vec [] true,.val (.int .i64 k)]):=by
 have hpw:(PV.agg [.vec (words w) false]).pure:=⟨Za _,trivial⟩
 refine Z2 ok20 (Nat.le_of_ble_eq_true rfl) fun C hC=>?_
 rcases hh with rfl|⟨l,S,rfl⟩
 · skip
   refine Zf ?_
   refine Z7 ?_
   refine Z0 rfl rfl rfl ?_
   refine Z0 rfl rfl rfl ?_
   refine Z0 rfl rfl rfl ?_
   (repeat'(first|refine Z6 12 ?_|refine Z3 12 ?_|refine st ?_|(apply B<;>intro hb<;>try cases hb)))<;>try refine At.mk ?_
   refine Z5 hl rfl rfl rfl ⟨Zg _ _,trivial,hpw,trivial⟩ rfl ?_
   (repeat'(first|refine Z6 14 ?_|refine Z3 14 ?_|refine st ?_|(apply B<;>intro hb<;>try cases hb)))<;>try refine At.mk ?_
   refine Z8 (Zp (v:=true) rfl (bne_iff_ne.2 hk)) rfl rfl ?_
   (refine go ?_;repeat' (apply B<;>intro hb<;>try cases hb))
   exact Z4 rfl ⟨trivial,trivial,trivial⟩ rfl
 · skip
   refine Zf ?_
   refine Z7 ?_
   refine Z0 rfl rfl rfl ?_
   refine Z0 rfl rfl rfl ?_
   refine Z0 rfl rfl rfl ?_
   (repeat'(first|refine Z6 12 ?_|refine Z3 12 ?_|refine st ?_|(apply B<;>intro hb<;>try cases hb)))<;>try refine At.mk ?_
   refine Z5 hl rfl rfl rfl ⟨Zg _ _,Zr l S,hpw,trivial⟩ rfl ?_
   (repeat'(first|refine Z6 14 ?_|refine Z3 14 ?_|refine st ?_|(apply B<;>intro hb<;>try cases hb)))<;>try refine At.mk ?_
   refine Z8 (Zp (v:=true) rfl (bne_iff_ne.2 hk)) rfl rfl ?_
   (refine go ?_;repeat' (apply B<;>intro hb<;>try cases hb))
   exact Z4 rfl ⟨trivial,trivial,trivial⟩ rfl
theorem Z3n {hv:PV} (hh:hv=.val (.pointer none) ∨ ∃ l S,hv=hierP l S) (w1 w2 w:List Nat) (hor:Spec Tryz.prog 29 [.agg [.vec (words w1) false],.agg [.vec (words w2) false]] (· = .agg [.vec (words w) false])) {k:Int} (hk:k≠0) (hl:Spec Tryz.prog 62 [.agg (fC .u8 f),hv,.agg [.vec (words w) false]] (· = .val (.int .i64 k))):Spec Tryz.prog 21 [.agg (fC .u8 f),.agg [.vec (words w1) false],.agg [.vec (words w2) false],hv] (· = .tup [.vec [] true,.val (.int .i64 k)]):=by
 have hpw:∀ w,(PV.agg [.vec (words w) false]).pure:=fun w=>⟨Za _,trivial⟩
 refine Z2 ok21 (Nat.le_of_ble_eq_true rfl) fun C hC=>?_
 rcases hh with rfl|⟨l,S,rfl⟩
 · skip
   refine Zf ?_
   refine Z7 ?_
   refine Z0 rfl rfl rfl ?_
   refine Z0 rfl rfl rfl ?_
   refine Z0 rfl rfl rfl ?_
   refine Z0 rfl rfl rfl ?_
   (repeat'(first|refine Z6 15 ?_|refine Z3 15 ?_|refine st ?_|(apply B<;>intro hb<;>try cases hb)))<;>try refine At.mk ?_
   refine Zl hor rfl rfl rfl ⟨hpw _,hpw _,trivial⟩ ?_
   (repeat'(first|refine Z6 16 ?_|refine Z3 16 ?_|refine st ?_|(apply B<;>intro hb<;>try cases hb)))<;>try refine At.mk ?_
   refine Zl hl rfl rfl rfl ⟨Zg _ _,trivial,hpw _,trivial⟩ ?_
   (repeat'(first|refine Z6 18 ?_|refine Z3 18 ?_|refine st ?_|(apply B<;>intro hb<;>try cases hb)))<;>try refine At.mk ?_
   refine Z8 (Zp (v:=true) rfl (bne_iff_ne.2 hk)) rfl rfl ?_
   (refine go ?_;repeat' (apply B<;>intro hb<;>try cases hb))
   exact Z4 rfl ⟨trivial,trivial,trivial⟩ rfl
 · skip
   refine Zf ?_
   refine Z7 ?_
   refine Z0 rfl rfl rfl ?_
   refine Z0 rfl rfl rfl ?_
   refine Z0 rfl rfl rfl ?_
   refine Z0 rfl rfl rfl ?_
   (repeat'(first|refine Z6 15 ?_|refine Z3 15 ?_|refine st ?_|(apply B<;>intro hb<;>try cases hb)))<;>try refine At.mk ?_
   refine Zl hor rfl rfl rfl ⟨hpw _,hpw _,trivial⟩ ?_
   (repeat'(first|refine Z6 16 ?_|refine Z3 16 ?_|refine st ?_|(apply B<;>intro hb<;>try cases hb)))<;>try refine At.mk ?_
   refine Zl hl rfl rfl rfl ⟨Zg _ _,Zr l S,hpw _,trivial⟩ ?_
   (repeat'(first|refine Z6 18 ?_|refine Z3 18 ?_|refine st ?_|(apply B<;>intro hb<;>try cases hb)))<;>try refine At.mk ?_
   refine Z8 (Zp (v:=true) rfl (bne_iff_ne.2 hk)) rfl rfl ?_
   (refine go ?_;repeat' (apply B<;>intro hb<;>try cases hb))
   exact Z4 rfl ⟨trivial,trivial,trivial⟩ rfl
include hd hsz
theorem Zdh (hk:checkM f≠0) (w w2:List Nat) (fl:Bool):Spec Tryz.prog 41 [.agg (fC .u8 f),.agg [.vec (words w) false],.agg [.vec (words w2) false,.vec [] fl]] (· = .val (.bool false)):=by
 refine Z2 ok41 (Nat.le_of_ble_eq_true rfl) fun C hC=>?_
 refine Zf ?_
 refine Z7 ?_
 refine Z0 rfl rfl rfl ?_
 refine Z0 rfl rfl rfl ?_
 refine Z0 rfl rfl rfl ?_
 (refine go ?_;repeat' (apply B<;>intro hb<;>try cases hb))
 refine Z5 (Z2p f hd hsz) rfl rfl rfl ⟨Zg _ _,trivial,trivial⟩ rfl ?_
 (repeat'(first|refine Z6 11 ?_|refine Z3 11 ?_|refine st ?_|(apply B<;>intro hb<;>try cases hb)))<;>try refine At.mk ?_
 refine Z8 (Zp (v:=true) rfl (bne_iff_ne.2 hk)) rfl rfl ?_
 (refine go ?_;repeat' (apply B<;>intro hb<;>try cases hb))
 exact Z4 rfl trivial rfl
end
def setB:PV:=.agg [.vec (words [0,1]) false]
theorem Zdi:setN (2 ^ 64)=setB:=by
 show PV.agg [.vec (words (digs (2 ^ 64))) false]=_
 have e:digs (2 ^ 64) = [0,1]:=by decide +kernel
 rw [e]; rfl
set_option maxHeartbeats 1000000 in
theorem Z9v (a b M:Nat) (ha:a<18446744073709551616) (hb0:b<18446744073709551616) (h0:b≠0) (hM:M<18446744073709551616) (hM0:M≠0):Spec Tryz.prog 23 [.agg [.vec (words [a,b]) false],setN M] (· = .val (.bool false)):=by
 have hz:=ZO b 0 hb0 (by decide)
 have hz0:¬ ((minusN b 0:Nat):Int)=0:=fun h=>by
  have h1:minusN b 0=0:=by omega
  have h2:=(Z5d hb0 (by decide)).1 h1
  exact h0 (by simpa using h2)
 rcases ZU hM with⟨h,_⟩|⟨h2,e2⟩
 · exact absurd h hM0
 rw [e2]
 clear e2
 refine Z2 ok23 (Nat.le_of_ble_eq_true rfl) fun C hC=>?_
 refine Zf ?_
 refine Z7 ?_
 refine Z0 rfl rfl rfl ?_
 refine Z0 rfl rfl rfl ?_
 (refine go ?_;repeat' (apply B<;>intro hb<;>try cases hb))
 refine ZC 2 ?_
 (refine go ?_;repeat' (apply B<;>intro hb<;>try cases hb))
 refine Z5 (Zv [M] 0) rfl rfl rfl ⟨⟨⟨⟨trivial,trivial⟩,trivial⟩,trivial⟩,trivial,trivial⟩ rfl ?_
 (refine go ?_;repeat' (apply B<;>intro hb<;>try cases hb))
 · exact Z4 rfl trivial rfl
 · refine Z5 (Zv [M] 1) rfl rfl rfl ⟨⟨⟨⟨trivial, trivial⟩, trivial⟩, trivial⟩, trivial, trivial⟩ rfl ?_
   (refine go ?_;repeat' (apply B<;>intro hb<;>try cases hb))
   · exact Z4 rfl trivial rfl
   · rw [show ((([M] : List Nat).getD 1 0 : Nat) : Int) = ((0 : Nat) : Int) from rfl, hz] at hb
     exact absurd (by simpa using hb) hz0
theorem Zet:Spec Tryz.prog 72 [setB,.val (.int .i64 0)] (· = .val (.bool false)):=by
 have:=Z2P (2 ^ 64) 0 (by decide) (by decide)
 rw [show (PV.agg [.vec (words (digs (2 ^ 64))) false])=setB from Zdi] at this
 exact this
theorem Zeu (f:Fm) (l:List Pr) (S:List Nat):Spec Tryz.prog 62 [.agg (fC .u8 f),hierP l S,setB] (· = .val (.int .i64 1)):=by
 have hw:=Z9v 0 1 (2 ^ 64-1) (by decide) (by decide) (by decide) (by decide) (by decide)
 refine Z2 ok62 (Nat.le_of_ble_eq_true rfl) fun C hC=>?_
 unfold setB
 refine Zf ?_
 refine Z7 ?_
 refine Z0 rfl rfl rfl ?_
 refine Z0 rfl rfl rfl ?_
 (refine go ?_;repeat' (apply B<;>intro hb<;>try cases hb))
 refine Zl Zet rfl rfl rfl ⟨⟨Za _,trivial⟩,trivial,trivial⟩ ?_
 (refine go ?_;repeat' (apply B<;>intro hb<;>try cases hb))
 refine Zl (Z4i 64 (by decide) (by decide)) rfl rfl rfl ⟨trivial,trivial⟩ ?_
 (refine go ?_;repeat' (apply B<;>intro hb<;>try cases hb))
 refine Zl hw rfl rfl rfl ⟨⟨Za _,trivial⟩,Z1 _,trivial⟩ ?_
 (refine go ?_;repeat' (apply B<;>intro hb<;>try cases hb))
 exact Z4 rfl trivial rfl
set_option maxHeartbeats 2000000 in
theorem Zfj:Spec Tryz.prog 29 [.agg [.vec [] true],setB] (· = setB):=by
 have h0:=bits_or_u64_nat 0 0 (by decide) (by decide)
 have h1:=bits_or_u64_nat 0 1 (by decide) (by decide)
 unfold setB
 refine Z2 ok29 (Nat.le_of_ble_eq_true rfl) fun C hC=>?_
 refine Zf ?_
 refine Z7 ?_
 refine Z0 rfl rfl rfl ?_
 refine Z0 rfl rfl rfl ?_
 (refine go ?_;repeat' (apply B<;>intro hb<;>try cases hb))
 refine ZC 2 ?_
 (refine go ?_;repeat' (apply B<;>intro hb<;>try cases hb))
 refine Z2K rfl rfl (.inr rfl) (Zv [] 0) (Zx rfl) ?_
 rintro r rfl
 (refine go ?_;repeat' (apply B<;>intro hb<;>try cases hb))
 refine Zl (Zv [0,1] 0) rfl rfl rfl (Zx rfl) ?_
 refine Zm (Z1U rfl h0) rfl rfl ?_
 (refine go ?_;repeat' (apply B<;>intro hb<;>try cases hb))
 refine Z2K rfl rfl (.inr rfl) (Zv [] 1) (Zx rfl) ?_
 rintro r rfl
 (refine go ?_;repeat' (apply B<;>intro hb<;>try cases hb))
 refine Zl (Zv [0,1] 1) rfl rfl rfl (Zx rfl) ?_
 refine Zm (Z1U rfl h1) rfl rfl ?_
 repeat' (first|refine Ze (Zj (k:=31) rfl rfl (ZA rfl)) ?_|(first|refine st ?_|(apply B<;>intro hb<;>try cases hb)))
 exact Z4 rfl (Z1W rfl) rfl
theorem Z7g (f:Fm) (l:List Pr) (S:List Nat):Spec Tryz.prog 21 [.agg (fC .u8 f),.agg [.vec [] true],setB,hierP l S] (· = .tup [.vec [] true,.val (.int .i64 1)]):=by
 have hpb:setB.pure:=⟨Za _,trivial⟩
 refine Z2 ok21 (Nat.le_of_ble_eq_true rfl) fun C hC=>?_
 refine Zf ?_
 refine Z7 ?_
 refine Z0 rfl rfl rfl ?_
 refine Z0 rfl rfl rfl ?_
 refine Z0 rfl rfl rfl ?_
 refine Z0 rfl rfl rfl ?_
 (repeat'(first|refine Z6 15 ?_|refine Z3 15 ?_|refine st ?_|(apply B<;>intro hb<;>try cases hb)))<;>try refine At.mk ?_
 refine Zl Zfj rfl rfl rfl ⟨⟨trivial,trivial⟩,hpb,trivial⟩ ?_
 (repeat'(first|refine Z6 16 ?_|refine Z3 16 ?_|refine st ?_|(apply B<;>intro hb<;>try cases hb)))<;>try refine At.mk ?_
 refine Zl (Zeu f l S) rfl rfl rfl ⟨Zg _ _,Zr l S,hpb,trivial⟩ ?_
 (refine go ?_;repeat' (apply B<;>intro hb<;>try cases hb))
 exact Z4 rfl ⟨trivial,trivial,trivial⟩ rfl
def manyN (q:Nat):Nat:=minusN (2 ^ (q+2)-1) (2 ^ 0)
theorem ZbA {q:Nat} (hq:q<20):manyN q<18446744073709551616∧(manyN q).testBit 0=false∧(2 ||| manyN q).testBit 0=false∧popK 64 (manyN q)=q+1∧popK 64 (minusN (manyN q) 2)=q:=by
 have key:∀ q,q<20→manyN q<18446744073709551616∧(manyN q).testBit 0=false∧(2 ||| manyN q).testBit 0=false∧popK 64 (manyN q)=q+1∧popK 64 (minusN (manyN q) 2)=q:=by decide +kernel
 exact key q hq
theorem ZbB:Spec Tryz.prog 38 [.agg [.vec [] false,.vec [] false],.agg [.vec [] false,.vec [] false]] (· = .val (.bool true)):=by
 have:=Zbw (0,0) ⟨by decide,by decide⟩
 rwa [Zes] at this
theorem Zar {f:Fm} {E:Nat} {good:Nat→Bool} {r:PV} (hk:checkM f=0) (h:RepR f E good r):∃ ll fl k,pureLL ll∧r=.tup [.vec ll fl,.val (.int .i64 k)]∧(k=3∧12<popK 64 E ∨ (k=4 ∨ k=0)∧popK 64 E≤12):=by
 cases h with
 | bad h=>exact absurd hk h
 | sm _ hs =>
   cases hs with
   | many h=>exact⟨[],true,3,trivial,rfl,.inl ⟨rfl,h⟩⟩
   | found h out fl hm hso=>exact⟨_,fl,_,Zde out,rfl,.inr ⟨Zer out,h⟩⟩
set_option maxRecDepth 100000 in
set_option maxHeartbeats 16000000 in
theorem Z4l (ns:List Nd) (n:Nat) (r:Int) (fl:Bool) (hns:∀ x∈ns,x.ok) (hn:n<256) (hr:True):Spec Tryz.prog 10 [.vec (nds ns) fl,.val (.int .u8 (n:Int)),.val (.int .i64 r)] (· = .val (.bool true)):=by
 have hq:n % 20<20:=Nat.mod_lt _ (by decide)
 refine Z2 ok10 (Nat.le_of_ble_eq_true rfl) fun C hC=>?_
 (repeat'(first|refine Z6 25 ?_|refine Z3 25 ?_|refine st ?_|(apply B<;>intro hb<;>try cases hb)))<;>try refine At.mk ?_
 refine Z5 Z8a rfl rfl rfl trivial rfl ?_
 (repeat'(first|refine Z6 28 ?_|refine Z3 28 ?_|refine st ?_|(apply B<;>intro hb<;>try cases hb)))<;>try refine At.mk ?_
 refine Zu rfl rfl (Z8f ns hns fl) ⟨Z4S _,trivial⟩ rfl ?_
 rintro r ⟨f,hsm,rfl⟩
 have hpf:=Zg .i64 f
 have hpg:=Zg .u8 f
 have hbd:=hsm.bounds
 have hd:f.depth≤1000:=by omega
 have hsz:f.size≤1099511627776:=Nat.le_trans hbd.2 (by decide)
 (repeat'(first|refine Z6 29 ?_|refine Z3 29 ?_|refine st ?_|(apply B<;>intro hb<;>try cases hb)))<;>try refine At.mk ?_
 refine Z5 (Z8b 13 f hsm.nice) rfl rfl rfl ⟨hpf,trivial⟩ rfl ?_
 (repeat'(first|refine Z6 30 ?_|refine Z3 30 ?_|refine st ?_|(apply B<;>intro hb<;>try cases hb)))<;>try refine At.mk ?_
 refine Ze (Z19 (k:=7) rfl rfl hpg) ?_
 (repeat'(first|refine Z6 31 ?_|refine Z3 31 ?_|refine st ?_|(apply B<;>intro hb<;>try cases hb)))<;>try refine At.mk ?_
 refine Z5 (Z2p f hd hsz) rfl rfl rfl ⟨hpg,trivial,trivial⟩ rfl ?_
 (repeat'(first|refine Z6 33 ?_|refine Z3 33 ?_|refine st ?_|(apply B<;>intro hb<;>try cases hb)))<;>try refine At.mk ?_
 refine Z8 (Z1U (v:=((n % 20:Nat):Int)) rfl (Int.ofNat_tmod n 20).symm) rfl rfl ?_
 refine Z8 (Z1U (v:=((n % 20:Nat):Int)) rfl (IntWalk.i64_in _ ⟨by omega,by omega⟩)) rfl rfl ?_
 refine Z8 (Z1U (v:=((n % 20+2:Nat):Int)) rfl (by
  rw [show (2:Int)+((n % 20:Nat):Int)=((n % 20+2:Nat):Int) by omega]
  exact IntWalk.i64_in _ ⟨by omega,by omega⟩)) rfl rfl ?_
 generalize n % 20=q at hq ⊢
 refine Z5 (Z4i (q+2) (by omega) (by omega)) rfl rfl rfl ⟨trivial,trivial⟩ rfl ?_
 have hpw:2 ^ (q+2)≤2 ^ 63:=Nat.pow_le_pow_right (by decide) (by omega)
 have hpp:=Nat.two_pow_pos (q+2)
 refine Z5 (Z7f (s:=2 ^ (q+2)-1) (r:=0) (by omega) (by decide)) rfl rfl rfl ⟨Z1 _,trivial,trivial⟩ rfl ?_
 obtain⟨m64,m0,m2,mp,mq⟩:=ZbA hq
 show opsK _ _ _ (updO _ _ (setN (manyN q))) _ _
 generalize manyN q=M at m64 m0 m2 mp mq ⊢
 have hst:pureL (stC M):=⟨Za _,trivial⟩
 (repeat'(first|refine Z6 38 ?_|refine Z3 38 ?_|refine st ?_|(apply B<;>intro hb<;>try cases hb)))<;>try refine At.mk ?_
 refine Ze (Z19 (k:=9) (l:=stC M) rfl rfl hst) ?_
 refine Zu rfl rfl Z2Y trivial rfl ?_
 rintro r1 ⟨S,rfl⟩
 have hhp:=Zr [] S
 have sl:Small ([]:List Pr):=fun p hp=>by cases hp
 (repeat'(first|refine Z6 42 ?_|refine Z3 42 ?_|refine st ?_|(apply B<;>intro hb<;>try cases hb)))<;>try refine At.mk ?_
 refine Zl (Z1J [1] 2 (by decide +kernel) true) rfl rfl rfl ⟨Z9 _,trivial⟩ ?_
 refine Zl (Z33 f (.inl rfl) (digs 2) (by decide) (Zaq f _)) rfl rfl rfl ⟨hpg,Z1 2,trivial,trivial⟩ ?_
 (repeat'(first|refine Z6 49 ?_|refine Z3 49 ?_|refine st ?_|(apply B<;>intro hb<;>try cases hb)))<;>try refine At.mk ?_
 refine Zl (Z1J [1] 2 (by decide +kernel) true) rfl rfl rfl ⟨Z9 _,trivial⟩ ?_
 (repeat'(first|refine Z6 51 ?_|refine Z3 51 ?_|refine st ?_|(apply B<;>intro hb<;>try cases hb)))<;>try refine At.mk ?_
 refine Zl (Z1J [2] 4 (by decide +kernel) true) rfl rfl rfl ⟨Z9 _,trivial⟩ ?_
 refine Zl (Z3n f (.inl rfl) (digs 2) (digs 4) (digs (2 ||| 4)) (Z24 2 4 (by decide) (by decide)) (by decide) (Zaq f _)) rfl rfl rfl ⟨hpg,Z1 2,Z1 4,trivial,trivial⟩ ?_
 (repeat'(first|refine Z6 58 ?_|refine Z3 58 ?_|refine st ?_|(apply B<;>intro hb<;>try cases hb)))<;>try refine At.mk ?_
 refine Zl (Z1J [0] 1 (by decide +kernel) true) rfl rfl rfl ⟨Z9 _,trivial⟩ ?_
 (repeat'(first|refine Z6 60 ?_|refine Z3 60 ?_|refine st ?_|(apply B<;>intro hb<;>try cases hb)))<;>try refine At.mk ?_
 refine Zl (Z33 f (.inr ⟨[],S,rfl⟩) (digs 1) (by decide) (Zdg f [] S (s:=1) (by decide) (by decide))) rfl rfl rfl ⟨hpg,Z1 1,hhp,trivial⟩ ?_
 (repeat'(first|refine Z6 67 ?_|refine Z3 67 ?_|refine st ?_|(apply B<;>intro hb<;>try cases hb)))<;>try refine At.mk ?_
 refine Zl (Z1J [64] (2 ^ 64) (by decide +kernel) true) rfl rfl rfl ⟨Z9 _,trivial⟩ ?_
 rw [Zdi]
 (repeat'(first|refine Z6 69 ?_|refine Z3 69 ?_|refine st ?_|(apply B<;>intro hb<;>try cases hb)))<;>try refine At.mk ?_
 refine Zl (Z7g f [] S) rfl rfl rfl ⟨hpg,⟨trivial,trivial⟩,⟨Za _,trivial⟩,hhp,trivial⟩ ?_
 (repeat'(first|refine Z6 76 ?_|refine Z3 76 ?_|refine st ?_|(apply B<;>intro hb<;>try cases hb)))<;>try refine At.mk ?_
 by_cases hk:checkM f=0
 · rw [hk]
   refine Zu rfl rfl (Z43 (Z8g hk) hd hsz [] S M m64 m0) ⟨hpg,Z1 M,hhp,trivial⟩ rfl ?_
   intro r1 hr1
   obtain⟨l1,f1,k1,p1,rfl,c1⟩:=Zar hk hr1
   (repeat'(first|refine Z6 82 ?_|refine Z3 82 ?_|refine st ?_|(apply B<;>intro hb<;>try cases hb)))<;>try refine At.mk ?_
   refine Zl (Z1J [1] 2 (by decide +kernel) true) rfl rfl rfl ⟨Z9 _,trivial⟩ ?_
   (repeat'(first|refine Z6 85 ?_|refine Z3 85 ?_|refine st ?_|(apply B<;>intro hb<;>try cases hb)))<;>try refine At.mk ?_
   refine Z2K rfl rfl (.inl rfl) (Z2Z (Z8g hk) hd hsz [] S 2 M (by decide) m64 m2) ⟨hpg,Z1 2,Z1 M,hhp,trivial⟩ ?_
   intro r2 hr2
   obtain⟨l2,f2,k2,p2,rfl,c2⟩:=Zar hk hr2
   clear hr1 hr2
   rw [mp] at c1
   rw [mq] at c2
   rcases c1 with⟨rfl,h1⟩|⟨rfl|rfl,h1⟩<;>rcases c2 with⟨rfl,h2⟩|⟨rfl|rfl,h2⟩
   all_goals try (exfalso;omega)
   all_goals
    (repeat'(first|refine Z6 140 ?_|refine Z3 140 ?_|refine st ?_|(apply B<;>intro hb<;>try cases hb)))<;>try refine At.mk ?_
    refine Z5 (ZeI m64 mp) rfl rfl rfl ⟨Z1 M,trivial⟩ rfl ?_
    first
    | refine Z8 (Zp (v:=true) rfl (decide_eq_true (by omega))) rfl rfl ?_
    | refine Z8 (Zp (v:=false) rfl (decide_eq_false (by omega))) rfl rfl ?_
    (repeat'(first|refine Z6 147 ?_|refine Z3 147 ?_|refine st ?_|(apply B<;>intro hb<;>try cases hb)))<;>try refine At.mk ?_
    refine Z17 rfl ?_
    refine Z5 (ZeI m64 mp) rfl rfl rfl ⟨Z1 M,trivial⟩ rfl ?_
    refine Z17 rfl ?_
    first
    | refine Z8 (Zp (v:=true) rfl (decide_eq_true (by omega))) rfl rfl ?_
    | refine Z8 (Zp (v:=false) rfl (decide_eq_false (by omega))) rfl rfl ?_
    (refine go ?_;repeat' (apply B<;>intro hb<;>try cases hb))
    exact Z4 rfl trivial rfl
 · refine Z5 (Z33 f (.inr ⟨[], S, rfl⟩) (digs M) hk (Z3f f hd hsz [] S M m64 m0)) rfl rfl rfl ⟨hpg, Z1 M, hhp, trivial⟩ rfl ?_
   (repeat'(first|refine Z6 82 ?_|refine Z3 82 ?_|refine st ?_|(apply B<;>intro hb<;>try cases hb)))<;>try refine At.mk ?_
   refine Zl (Z1J [1] 2 (by decide +kernel) true) rfl rfl rfl ⟨Z9 _,trivial⟩ ?_
   (repeat'(first|refine Z6 85 ?_|refine Z3 85 ?_|refine st ?_|(apply B<;>intro hb<;>try cases hb)))<;>try refine At.mk ?_
   refine Zl (Z3n f (.inr ⟨[],S,rfl⟩) (digs 2) (digs M) (digs (2 ||| M)) (Z24 2 M (by decide) m64) hk (Z3f f hd hsz [] S (2 ||| M) (Z2R (by decide) m64) m2)) rfl rfl rfl ⟨hpg,Z1 2,Z1 M,hhp,trivial⟩ ?_
   have hof:=Z7c f hd hsz M m64
   have hle:=fun N=>Zdh f hd hsz hk (digs M) (digs N) true
   rw [Zag hk,show firstC [] M=none from rfl,Z30] at hof
   generalize checkM f=k at hk ⊢
   (repeat'(first|refine Z6 103 ?_|refine Z3 103 ?_|refine st ?_|(apply B<;>intro hb<;>try cases hb)))<;>try refine At.mk ?_
   refine Z8 (Zp (v:=true) rfl (bne_iff_ne.2 hk)) rfl rfl ?_
   (repeat'(first|refine Z6 107 ?_|refine Z3 107 ?_|refine st ?_|(apply B<;>intro hb<;>try cases hb)))<;>try refine At.mk ?_
   refine Z5 hof rfl rfl rfl ⟨hpg,Z1 M,trivial⟩ rfl ?_
   (repeat'(first|refine Z6 112 ?_|refine Z3 112 ?_|refine st ?_|(apply B<;>intro hb<;>try cases hb)))<;>try refine At.mk ?_
   refine Zm (Zp (v:=true) rfl (by simp)) rfl rfl ?_
   (repeat'(first|refine Z6 116 ?_|refine Z3 116 ?_|refine st ?_|(apply B<;>intro hb<;>try cases hb)))<;>try refine At.mk ?_
   refine Z5P rfl ?_
   refine Zm (Zp (v:=true) rfl (by simp)) rfl rfl ?_
   (repeat'(first|refine Z6 125 ?_|refine Z3 125 ?_|refine st ?_|(apply B<;>intro hb<;>try cases hb)))<;>try refine At.mk ?_
   refine Z5P rfl ?_
   refine Z2K rfl rfl (.inr rfl) ZbB ⟨⟨trivial,trivial,trivial⟩,⟨trivial,trivial,trivial⟩,trivial⟩ ?_
   rintro r1 rfl
   (repeat'(first|refine Z6 132 ?_|refine Z3 132 ?_|refine st ?_|(apply B<;>intro hb<;>try cases hb)))<;>try refine At.mk ?_
   refine Z5P rfl ?_
   refine Zl (Z6E [r] true) rfl rfl rfl ⟨Z9 _,trivial⟩ ?_
   generalize maskTo (topOf [r]) [r]=N
   (repeat'(first|refine Z6 134 ?_|refine Z3 134 ?_|refine st ?_|(apply B<;>intro hb<;>try cases hb)))<;>try refine At.mk ?_
   refine Z5P rfl ?_
   refine Zl (hle N) rfl rfl rfl ⟨hpg,Z1 M,⟨Za _,trivial,trivial⟩,trivial⟩ ?_
   (refine go ?_;repeat' (apply B<;>intro hb<;>try cases hb))
   exact Z4 rfl trivial rfl
end Go.Proofs.YtjpkfigmmmngnaaGreatDoor
namespace Go.Proofs.YtjpkfigmmmngnaaGreatDoor
open Go.ChangeShapes Go.WideShapes Go.ChangeAt Go.RowKit
theorem Z7h {P:Program} {s t u:TypeId}:∀ {ps:List PV},ShapeVs P [s,t,u] ps→∃ a b c,ps = [a,b,c]∧ShapeV P s a∧ShapeV P t b∧ShapeV P u c
 | [a,b,c],⟨h1,h2,h3,_⟩=>⟨a,b,c,rfl,h1,h2,h3⟩
theorem ZfN {m:Int} (h:(Lit.int .u8 m).wf=true):∃ a:Nat,a<256∧m=(a:Int):=by
 simp only [Lit.wf,Bool.and_eq_true,decide_eq_true_eq] at h
 obtain⟨h1,h2⟩:=h
 have h3:m≤255:=h2
 have h4:0≤m:=h1
 exact⟨m.toNat,by omega,by omega⟩
theorem Zdj {p:PV} (h:ShapeV Tryz.prog 5 p):∃ s:Nat,s<256∧p=.val (.int .u8 (s:Int)):=by
 obtain⟨m,w,rfl⟩:=Z6q h (k:=.u8) (by kernel_rfl)
 obtain⟨x,hx,rfl⟩:=ZfN w
 exact⟨x,hx,rfl⟩
theorem ZbC {p:PV} (h:ShapeV Tryz.prog 3 p):∃ s:Int,True∧p=.val (.int .i64 s):=by
 obtain⟨m,w,rfl⟩:=Z6q h (k:=.i64) (by kernel_rfl)
 exact⟨m,trivial,rfl⟩
theorem Z44:∀ ps,ShapeVs Tryz.prog Tryz.f10.params.toList ps→pureL ps→Spec Tryz.prog 10 ps (· = .val (.bool true)):=by
 intro ps hs hp
 rw [show Tryz.f10.params.toList = [88,5,3] by kernel_rfl] at hs
 obtain⟨a,b,c,rfl,k0,k1,k2⟩:=Z7h hs
 obtain⟨x0,f0,h0,rfl⟩:=Z9u k0
 obtain⟨x1,h1,rfl⟩:=Zdj k1
 obtain⟨x2,h2,rfl⟩:=ZbC k2
 exact Z4l x0 x1 x2 f0 h0 h1 h2
set_option maxRecDepth 100000 in
theorem Z3g (os:Os) (started:os.Started) (H:Type) (enc:TypeId×Value→H) :
 ReturnsInHanded {} Tryz.checked os 10 .any (fun w args=>(Rows.witnessErrorsSpec.pre enc Tryz.prog Tryz.f10 [] false w args∧laidMetH Tryz.prog laidV w)∧sizedMet enc Tryz.prog Tryz.f10 (OpenSpec.ofChange Rows.witnessErrorsSpec) false w args)
  (Rows.witnessErrorsSpec.post enc Tryz.prog Tryz.f10 false true false false):=by
 refine returnsInHanded_of_change_and (C:=Tryz.checked) (X:=fun w _=>laidMetH Tryz.prog laidV w) (fun _ _ _ hh h=>h.of_heap hh) own started (by kernel_rfl) Tryz.func10
  (ChangeSpec.witness_shaped (enc:=enc) (C:=Tryz.checked) (os:=os) (X:=fun w _=>laidMetH Tryz.prog laidV w) false (World.doorLaid Tryz.prog 400 os) #[.slice none 0 0,.int .u8 0,.int .i64 0] 8 rfl (World.shaped_of_RefB (by kernel_rfl) (by kernel_rfl)) (by kernel_rfl) (by kernel_rfl) (by kernel_rfl) (Ze1 os _)) ?_
 intro W base args ds gs before hval hW _ hwt hL _
 exact Z7X (P:=Tryz.prog) (G:=partsG Tryz.prog Tryz.f10.params.toList) (by kernel_rfl) (Zfz (by kernel_rfl)) laidOut (ZcG (by kernel_rfl)) (tb:=4) (by kernel_rfl) (by kernel_rfl) rfl (fun ds hd=>by
  match ds,hd with
  | [a,b,c],_=>exact⟨rfl,rfl,rfl⟩) Z44 W (Ze3 hL) base args ds gs before hval hW hwt
theorem Z3C:Rows.WitnessErrorsSaid :=
 OpenClaim.holds_of_wide 10 Tryz.f10 rfl rfl rfl rfl rfl rfl rfl ⟨rfl,rfl,rfl,rfl,rfl⟩ rfl rfl rfl rfl rfl (by kernel_rfl) Tryz.func10 (by kernel_rfl)
  (of_decide_eq_true (by kernel_rfl)) (by unfold Func.isWrapper; first|(rw [if_pos (by decide +kernel)]; kernel_rfl)|(rw [if_neg (by decide +kernel)]; exact⟨rfl,rfl⟩))
  (fun os started H enc _=>Z3g os started H enc)
theorem witnessErrors_card:Rows.WitnessErrorsCardSaid :=
 Claim7.holds_tied_plain_at .later [] [.data,.data,.data] true (true, "3b95f6944516eaa7af7441d5befe7852d094d3e59071218fbee46b50b6f9d4f3") true
  Z3C (fun _ h=>by cases h) (by kernel_rfl) (fun _ h=>by cases h) witnessErrors_row_tie rfl ⟨rfl,rfl⟩ (by kernel_rfl) rfl
  (fun f fn hf hfn => by
    obtain rfl : f = 10 := Option.some.inj ((show Tryz.prog.funcNamed "arbac/arbaclaw21.WitnessErrors" = some 10 by kernel_rfl).symm.trans hf) |>.symm
    obtain rfl:fn=Tryz.f10:=(Option.some.inj (Tryz.func10.symm.trans hfn)).symm
    exact⟨by kernel_rfl,fun j t ht=>by
     rw [show Tryz.f10.params = #[88,5,3] by kernel_rfl] at ht
     have hm:t∈[88,5,3]:=by simpa using Array.mem_of_getElem? ht
     have hall:([88,5,3].all fun u => !Tryz.prog.wantsStandIn u)=true:=by kernel_rfl
     exact (show Tryz.prog.wantsStandIn t=false by simpa using List.all_eq_true.1 hall t hm)⟩)
  (by kernel_rfl)
#print axioms witnessErrors_card
end Go.Proofs.YtjpkfigmmmngnaaGreatDoor
