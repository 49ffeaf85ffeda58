/-
 Proved: for every input the law WitnessTexts returns true,never panics,and leaves its arguments as0 they were,on the given card's conditions (the table of the bits package reads as0 the program's text lays it,and is tied to it).
-/
import Derived.KernelRfl
import Derived.Lib.OthersKept
import Derived.SevenTiedAt
import Derived.Shelf.SlMaps.Clone
import Derived.Shelf.SlSortCmp.NoneTotal
import Derived.Shelf.Strconv.Itoa3
import Derived.Shelf.Strings.Builder1
import Derived.Shelf.Strings.BuilderF
import Derived.Shelf.Strings.BuilderK
import Derived.Shelf.Strings.OnBuilder
import Derived.TacticsInMore
import Derived.Test.YtojlnagiaibgkaaGreatDoorCards
import Derived.Test.YtojlnagiaibgkaaGreatDoorChecked
import Derived.Test.YtojlnagiaibgkaaGreatDoorTie
import Derived.Test.YtojlnagiaibgkaaGreatDoorMq4
set_option linter.unusedSimpArgs false
set_option linter.unusedVariables false
set_option linter.unusedSectionVars false
namespace Go.Proofs.YtojlnagiaibgkaaGreatDoor
open Go.Shelf
def Z2w:Go.Shelf.Ren:=⟨fun|6=>76|15=>92|14=>105|28=>126|29=>127|20=>131|21=>132|22=>133|23=>134|24=>135|25=>136|26=>137|27=>138|46=>159|47=>146|48=>147|49=>160|50=>161|57=>170|n=>n,fun|22=>55|24=>36|25=>126|3=>3|39=>101|0=>0|53=>178|55=>25|4=>4|46=>171|45=>170|50=>175|5=>5|9=>9|66=>192|70=>196|76=>210|77=>147|n=>n,fun|n=>n⟩
theorem sortSet:Go.Proofs.SlLaysF0.n6 Tryz.prog Z2w:={
 mixed:=by kernel_rfl
 f6:=⟨Tryz.f76.name,by decide,Tryz.func76.trans (congrArg some (by kernel_rfl))⟩
 f14:=⟨Tryz.f105.name,by decide,Tryz.func105.trans (congrArg some (by kernel_rfl))⟩
 f15:=Tryz.func92.trans (congrArg some (by kernel_rfl))
 f20:=⟨Tryz.f131.name,by decide,Tryz.func131.trans (congrArg some (by kernel_rfl))⟩
 f21:=⟨Tryz.f132.name,by decide,Tryz.func132.trans (congrArg some (by kernel_rfl))⟩
 f22:=⟨Tryz.f133.name,by decide,Tryz.func133.trans (congrArg some (by kernel_rfl))⟩
 f23:=⟨Tryz.f134.name,by decide,Tryz.func134.trans (congrArg some (by kernel_rfl))⟩
 f24:=⟨Tryz.f135.name,by decide,Tryz.func135.trans (congrArg some (by kernel_rfl))⟩
 f25:=⟨Tryz.f136.name,by decide,Tryz.func136.trans (congrArg some (by kernel_rfl))⟩
 f26:=⟨Tryz.f137.name,by decide,Tryz.func137.trans (congrArg some (by kernel_rfl))⟩
 f27:=⟨Tryz.f138.name,by decide,Tryz.func138.trans (congrArg some (by kernel_rfl))⟩
 f28:=Tryz.func126.trans (congrArg some (by kernel_rfl))
 f29:=Tryz.func127.trans (congrArg some (by kernel_rfl))
 f46:=⟨Tryz.f159.name,by decide,Tryz.func159.trans (congrArg some (by kernel_rfl))⟩
 f47:=Tryz.func146.trans (congrArg some (by kernel_rfl))
 f48:=Tryz.func147.trans (congrArg some (by kernel_rfl))
 f49:=⟨Tryz.f160.name,by decide,Tryz.func160.trans (congrArg some (by kernel_rfl))⟩
 f50:=⟨Tryz.f161.name,by decide,Tryz.func161.trans (congrArg some (by kernel_rfl))⟩
 f57:=⟨Tryz.f170.name,by decide,Tryz.func170.trans (congrArg some (by kernel_rfl))⟩
 t0:=Tryz.underlying0
 a0:=Tryz.isAgg0
 z0:=Tryz.sizeOf0
 v0:=Tryz.zeroValue0
 t3:=Tryz.underlying3
 a3:=Tryz.isAgg3
 z3:=Tryz.sizeOf3
 v3:=Tryz.zeroValue3
 t4:=Tryz.underlying4
 a4:=Tryz.isAgg4
 z4:=Tryz.sizeOf4
 v4:=Tryz.zeroValue4
 t5:=Tryz.underlying5
 a5:=Tryz.isAgg5
 z5:=Tryz.sizeOf5
 v5:=Tryz.zeroValue5
 t9:=Tryz.underlying9
 a9:=Tryz.isAgg9
 z9:=Tryz.sizeOf9
 v9:=Tryz.zeroValue9
 t22:=Tryz.underlying55
 a22:=Tryz.isAgg55
 z22:=Tryz.sizeOf55
 v22:=Tryz.zeroValue55
 t25:=Tryz.underlying126
 a25:=Tryz.isAgg126
 z25:=Tryz.sizeOf126
 v25:=Tryz.zeroValue126
 t39:=Tryz.underlying101
 a39:=Tryz.isAgg101
 z39:=Tryz.sizeOf101
 v39:=Tryz.zeroValue101
 t45:=Tryz.underlying170
 a45:=Tryz.isAgg170
 z45:=Tryz.sizeOf170
 v45:=Tryz.zeroValue170
 t46:=Tryz.underlying171
 a46:=Tryz.isAgg171
 z46:=Tryz.sizeOf171
 v46:=Tryz.zeroValue171
 t50:=Tryz.underlying175
 a50:=Tryz.isAgg175
 z50:=Tryz.sizeOf175
 v50:=Tryz.zeroValue175
 t53:=Tryz.underlying178
 a53:=Tryz.isAgg178
 z53:=Tryz.sizeOf178
 v53:=Tryz.zeroValue178
 t55:=Tryz.underlying25
 a55:=Tryz.isAgg25
 z55:=Tryz.sizeOf25
 v55:=Tryz.zeroValue25
 t66:=Tryz.underlying192
 a66:=Tryz.isAgg192
 z66:=Tryz.sizeOf192
 v66:=Tryz.zeroValue192
 t70:=Tryz.underlying196
 a70:=Tryz.isAgg196
 z70:=Tryz.sizeOf196
 v70:=Tryz.zeroValue196
 t76:=Tryz.underlying210
 a76:=Tryz.isAgg210
 z76:=Tryz.sizeOf210
 v76:=Tryz.zeroValue210
 t77:=Tryz.underlying147
 a77:=Tryz.isAgg147
 z77:=Tryz.sizeOf147
 v77:=Tryz.zeroValue147 }
theorem Z9y:∀ w,(isAgg (Z2w.t 24)).run Tryz.prog w=.ok true w:=Tryz.isAgg36
theorem Z8m:∀ w,(Go.sizeOf (Z2w.t 24)).run Tryz.prog w=.ok 1 w:=Tryz.sizeOf36
end Go.Proofs.YtojlnagiaibgkaaGreatDoor
namespace Go.Proofs.YtojlnagiaibgkaaGreatDoor
open Go.RowKit
attribute [local irreducible] aw opsK dK
def stC (s:Nat):List PV := [.vec (words (digs s)) false]
theorem Z4Q (s:Nat):pureL (stC s):=⟨Zd _,trivial⟩
def seL (l:List Nat):List (List PV):=l.map stC
theorem Z17 (l:List Nat):pureLL (seL l):=Z34 (enc:=stC) Z4Q l
theorem Z9z (l:List Nat):(seL l).length=l.length:=by simp [seL]
abbrev S64:={ s:Nat // s<18446744073709551616 }
theorem allS64 {xs:List Nat} (h:∀ c∈xs,c<18446744073709551616):∃ l:List S64,l.map (·.1)=xs:=by
 induction xs with
 | nil=>exact⟨[],rfl⟩
 | cons c xs ih =>
   obtain⟨l,hl⟩:=ih fun d hd=>h d (List.mem_cons_of_mem _ hd)
   exact⟨⟨c,h c (List.mem_cons_self ..)⟩ :: l,by rw [List.map_cons,hl]⟩
theorem Z9A {n ob:Nat} {h:Heap} (xs:List Nat) (hx:∀ c∈xs,c<18446744073709551616) (hh:h ob=some ⟨1,seL xs⟩) :
 ISpec Tryz.prog 76 n [.own ob,.fn 77 []] h fun n' r h'=>n'=n∧r=.tup []∧∃ ys:List Nat,ys.Perm xs∧SortedK ys∧h'=h.upd ob ⟨1,seL ys⟩:=by
 obtain⟨l,rfl⟩:=allS64 hx
 have e:∀ l:List S64,seL (l.map (·.1))=l.map fun c:S64=>stC c.1:=fun l=>by unfold seL; rw [List.map_map]; rfl
 rw [e] at hh
 have hs:=Z48 (P:=Tryz.prog) (ρ:=Z2w) (n:=n) sortSet ⟨_,Tryz.func76,by kernel_rfl,by kernel_rfl⟩ 1 (by decide) Z9y Z8m (fun c:S64=>stC c.1) (fun c=>rfl) (fun c=>Z4Q c.1) (fun c:S64=>key c.1) (fun a b:S64=>sgnI (key a.1) (key b.1)) (fun a b=>Zai) 77 [] trivial (fun a b=>Z2v a.1 b.1 a.2 b.2) l hh
 refine hs.mono ?_
 rintro n' r h' ⟨h1,h2,ys,h3,h4,h5⟩
 refine⟨h1,h2,ys.map (·.1),h3.map _,?_,by rw [e]; exact h5⟩
 exact List.pairwise_map.2 h4
theorem Z5H (l:List Nat):(intsN l).length=l.length:=by simp [intsN]
theorem Z9B (good:Nat→Bool) (a:Nat) (r:List Nat) (s:Nat):smStep good (a :: r) s=if popK 64 a<popK 64 s then a :: r else if good s then (if popK 64 s<popK 64 a then [s] else a :: r ++ [s]) else a :: r:=rfl
inductive SmR (E:Nat) (good:Nat→Bool):PV→Prop
 | many (h:12<popK 64 E):SmR E good (.tup [.vec [] true,.val (.int .i64 3)])
 | found (h:popK 64 E≤12) (out:List Nat) (fl:Bool) (hm:Mins (fun s=>s ||| E=E) good out) (hs:SortedK out):SmR E good (.tup [.vec (seL out) fl,.val (.int .i64 (if out = [] then 4 else 0))])
set_option maxHeartbeats 16000000 in
theorem Z3b {E:Nat} (hE:E<18446744073709551616) {g:Nat} {caps:List PV} (hc:pureL caps) {good:Nat→Bool} (hg:∀ s,s<18446744073709551616→Spec Tryz.prog g (setN s :: caps) (· = .val (.bool (good s)))):Spec Tryz.prog 33 [.vec (nums (intsN (mem E))) false,.fn g caps] (SmR E good):=by
 have hcp:∀ D,innL D caps:=fun D=>ZJ (fun _ h=>h.elim) _ hc
 have hL:(nums (intsN (mem E))).length=(mem E).length:=by rw [Z1d,Z5H]
 have hpk:=Zan E
 refine Z2 ok33 (Nat.le_of_ble_eq_true rfl) fun C hC=>?_
 (repeat'(first|refine Z4 13 ?_|refine Z0 13 ?_|refine st ?_|(apply B<;>intro hb<;>try cases hb)))<;>try refine At.mk ?_
 refine Zs rfl rfl rfl (fun hb=>?_) (fun hb=>?_)
 · have hmany : 12 < popK 64 E := by have := of_decide_eq_true hb; rw [hL] at this; omega
   (refine go ?_;repeat' (apply B<;>intro hb<;>try cases hb))
   exact Z3 rfl ⟨trivial,trivial,trivial⟩ (.many hmany)
 have hle:popK 64 E≤12:=by have:=of_decide_eq_false hb; rw [hL] at this; omega
 clear hb
 have hn12:(mem E).length≤12:=by omega
 have hpw:2 ^ (mem E).length≤4096:=Nat.le_trans (Nat.pow_le_pow_right (by decide) hn12) (by decide)
 have h16:IntKind.i64.wrap (1*2 ^ (min (((nums (intsN (mem E))).length:Nat):Int).toNat IntKind.i64.bits))=((2 ^ (mem E).length:Nat):Int):=by
  rw [hL]; exact shl1 _ (by omega)
 repeat' (first|refine Zg (ZH (k:=6) rfl 1 (by decide)) ?_|(first|refine st ?_|(apply B<;>intro hb<;>try cases hb)))
 refine Z1Y hC (fun m=>m≤2 ^ (mem E).length) (fun m=>2 ^ (mem E).length-m) 1 (fun m => [(0,.vec (nums (intsN (mem E))) false),(1,.fn g caps),(6,.own 0),(16,.val (.int .i64 ((2 ^ (mem E).length:Nat):Int))),(17,.val (.int .i64 (m:Int)))]) (fun m => [(0,⟨1,seL (smAll (mem E) good m)⟩)]) (by omega) 0 (Nat.zero_le _) (fun i=>i) (fun _ _=>rfl) ZU
  ⟨⟨_,rfl,.pure _ (Z9 _)⟩,⟨_,rfl,.pure _ hc⟩,⟨_,rfl,.own 0 (by decide)⟩,⟨_,by rw [← h16]; rfl,.pure _ trivial⟩,⟨_,rfl,.pure _ trivial⟩,trivial⟩ ⟨⟨by omega,_,rfl,.same _ trivial⟩,trivial⟩ ?_
 intro m hm
 have hinc:IntKind.i64.wrap ((m:Int)+1)=((m+1:Nat):Int):=IntWalk.i64_in _ ⟨by omega,by omega⟩
 (repeat'(first|refine Z4 18 ?_|refine Z0 18 ?_|refine st ?_|(apply B<;>intro hb<;>try cases hb)))<;>try refine At.mk ?_
 refine Zs rfl rfl rfl (fun hb=>?_) (fun hb=>?_)
 · have hml : m < 2 ^ (mem E).length := by have := of_decide_eq_true hb; omega
   clear hb
   (refine go ?_;repeat' (apply B<;>intro hb<;>try cases hb))
   refine Z1Y hC (fun k=>k≤(mem E).length) (fun k=>(mem E).length-k) 2 (fun k => [(0,.vec (nums (intsN (mem E))) false),(1,.fn g caps),(6,.own 0),(7,.val (.int .i64 (m:Int))),(8,.ptr 1 0 0),(16,.val (.int .i64 ((2 ^ (mem E).length:Nat):Int))),(17,.val (.int .i64 (m:Int))),(20,.vec (nums (intsN (mem E))) false),(21,.val (.int .i64 ((mem E).length:Int))),(22,.val (.int .i64 (k:Int)))])
    (fun k => [(0,⟨1,seL (smAll (mem E) good m)⟩),(1,⟨1,[stC (subM ((mem E).take k) m)]⟩)]) (by omega) 0 (Nat.zero_le _) (fun i=>i) (fun _ _=>rfl) ZU
    ⟨⟨_,rfl,.pure _ (Z9 _)⟩,⟨_,rfl,.pure _ hc⟩,⟨_,rfl,.own 0 (by decide)⟩,⟨_,rfl,.pure _ trivial⟩,⟨_,rfl,.ptr (ρ:=fun i=>i) 1 0 0 (by decide)⟩,⟨_,rfl,.pure _ trivial⟩,⟨_,rfl,.pure _ trivial⟩,⟨_,rfl,.pure _ (Z9 _)⟩,⟨_,by rw [← hL]; rfl,.pure _ trivial⟩,⟨_,rfl,.pure _ trivial⟩,trivial⟩
    ⟨⟨by decide,_,rfl,.same _ (Z17 _)⟩,⟨by decide,⟨1,[[.vec [] true]]⟩,rfl,by rw [List.take_zero,show stC (subM [] m) = [.vec [] false] by (show [PV.vec (words (digs 0)) false]=_; rw [Zr]; rfl)]; exact RenB.single (ρ:=fun i=>i) (l0 := [.vec [] true]) (l := [.vec [] false]) (show RenLs _ _ [_] [_] from ⟨.low (.vec [] true) trivial,trivial⟩) rfl⟩,trivial⟩ ?_
   intro k hk
   have hkinc:IntKind.i64.wrap ((k:Int)+1)=((k+1:Nat):Int):=IntWalk.i64_in _ ⟨by omega,by omega⟩
   have nextK:∀ {v:PV},v=.agg (stC (subM ((mem E).take (k+1)) m))→v=.agg (stC (subM ((mem E).take (k+1)) m)):=fun h=>h
   (repeat'(first|refine Z4 23 ?_|refine Z0 23 ?_|refine st ?_|(apply B<;>intro hb<;>try cases hb)))<;>try refine At.mk ?_
   refine Zs rfl rfl rfl (fun hb=>?_) (fun hb=>?_)
   · have hkl : k < (mem E).length := by have := of_decide_eq_true hb; omega
     clear hb
     have hget : (intsN (mem E))[k]'(by rw [Z5H]; exact hkl) = (((mem E)[k] : Nat) : Int) := by simp [intsN]
     have hsn:=Z8g ((mem E).take k) (mem E)[k] m
     rw [← ZbJ hkl,List.length_take,Nat.min_eq_left (Nat.le_of_lt hkl)] at hsn
     have hr64:=Z1r (List.getElem_mem hkl)
     have hcur:subM ((mem E).take k) m<18446744073709551616:=Zf9 (n:=18446744073709551616) (fr:=E) (orSub.2 fun i hi=>by
      obtain⟨j,hj,h1,_⟩:=(Z3V _ _ _).1 hi
      exact (Z1l hE).1 (h1▸List.mem_of_mem_take (List.getElem_mem hj))) hE
     have hand:bits .and .i64 ((m / 2 ^ k:Nat):Int) 1=((m / 2 ^ k % 2:Nat):Int):=by
      rw [show (1:Int)=((1:Nat):Int) from rfl,Z7d _ 1 (Nat.lt_of_le_of_lt (Nat.div_le_self _ _) (by omega)) (by decide),Nat.and_one_is_mod]
     (refine go ?_;repeat' (apply B<;>intro hb<;>try cases hb))
     refine Z5 (Zl (xs:=intsN (mem E)) (g:=fun x => [.val (.int .i64 x)]) rfl rfl k rfl (by rw [Z5H]; exact hkl) rfl) rfl rfl ?_
     rw [hget]
     generalize (mem E)[k]=q at hsn hr64 ⊢
     (repeat'(first|refine Z4 29 ?_|refine Z0 29 ?_|refine st ?_|(apply B<;>intro hb<;>try cases hb)))<;>try refine At.mk ?_
     refine Zo rfl rfl rfl (Z93 m k (by omega)) ?_
     refine Zo rfl rfl rfl hand ?_
     refine Z3c rfl rfl rfl (ZcC m k) ?_
     cases hbit:m.testBit k with
     | false =>
       rw [hbit,if_neg (by decide),Nat.or_zero] at hsn
       (refine go ?_;repeat' (apply B<;>intro hb<;>try cases hb))
       exact⟨k+1,fun i=>i,hkl,by omega,fun _ _=>rfl,ZU,⟨⟨_,rfl,.pure _ (Z9 _)⟩,⟨_,rfl,.pure _ hc⟩,⟨_,rfl,.own 0 (by decide)⟩,⟨_,rfl,.pure _ trivial⟩,⟨_,rfl,.ptr (ρ:=fun i=>i) 1 0 0 (by decide)⟩,⟨_,rfl,.pure _ trivial⟩,⟨_,rfl,.pure _ trivial⟩,⟨_,rfl,.pure _ (Z9 _)⟩,⟨_,rfl,.pure _ trivial⟩,⟨_,by show some _=some _; rw [hkinc],.pure _ trivial⟩,trivial⟩,
        ⟨⟨by decide,_,rfl,.same _ (Z17 _)⟩,⟨by decide,_,rfl,by rw [hsn]; exact .same _ ⟨Z4Q _,trivial⟩⟩,trivial⟩⟩
     | true =>
       rw [hbit,if_pos rfl] at hsn
       have hws:=Z2I (subM ((mem E).take k) m) (Nat.le_trans (Z1P hcur) (by decide)) (q:Int)
       rw [withN,if_pos ⟨by omega,by omega⟩,Int.toNat_natCast,← hsn] at hws
       (refine go ?_;repeat' (apply B<;>intro hb<;>try cases hb))
       refine Z7 hws rfl rfl rfl ⟨Z1 _,trivial,trivial⟩ rfl ?_
       (refine go ?_;repeat' (apply B<;>intro hb<;>try cases hb))
       exact⟨k+1,fun i=>i,hkl,by omega,fun _ _=>rfl,ZU,⟨⟨_,rfl,.pure _ (Z9 _)⟩,⟨_,rfl,.pure _ hc⟩,⟨_,rfl,.own 0 (by decide)⟩,⟨_,rfl,.pure _ trivial⟩,⟨_,rfl,.ptr (ρ:=fun i=>i) 1 0 0 (by decide)⟩,⟨_,rfl,.pure _ trivial⟩,⟨_,rfl,.pure _ trivial⟩,⟨_,rfl,.pure _ (Z9 _)⟩,⟨_,rfl,.pure _ trivial⟩,⟨_,by show some _=some _; rw [hkinc],.pure _ trivial⟩,trivial⟩,
        ⟨⟨by decide,_,rfl,.same _ (Z17 _)⟩,⟨by decide,_,rfl,.same _ ⟨Z4Q _,trivial⟩⟩,trivial⟩⟩
   · have hkl : k = (mem E).length := by have := of_decide_eq_false hb; omega
     subst hkl
     rw [List.take_length]
     clear hb
     have hst:smAll (mem E) good (m+1)=smStep good (smAll (mem E) good m) (subM (mem E) m):=rfl
     have hs64:=Zdq (m:=m) hE
     have hout:=Z7q hE good m
     have hol:=Z8i (mem E) good m
     generalize subM (mem E) m=s at hst hs64 ⊢
     generalize smAll (mem E) good m=out at hst hout hol ⊢
     cases out with
     | nil =>
       (refine go ?_;repeat' (apply B<;>intro hb<;>try cases hb))
       refine Zq (hg s hs64) rfl rfl rfl ⟨Z1 _,hc⟩ ?_
       cases hgs:good s with
       | false =>
         have hstep:smStep good [] s = []:=by unfold smStep; rw [hgs]; rfl
         (refine go ?_;repeat' (apply B<;>intro hb<;>try cases hb))
         exact⟨m+1,(fun i=>i),by omega,by omega,fun j hj=>absurd hj (Nat.not_lt_zero _),ZE rfl,⟨⟨_,rfl,.pure _ (Z9 _)⟩,⟨_,rfl,.pure _ hc⟩,⟨_,rfl,.own (ρ:=(fun i=>i)) 0 (by decide)⟩,⟨_,rfl,.pure _ trivial⟩,⟨_,by show some _=some _; rw [hinc],.pure _ trivial⟩,trivial⟩,⟨⟨by decide,_,rfl,by rw [hst,hstep]; exact .same _ (Z17 _)⟩,trivial⟩⟩
       | true =>
         have hstep:smStep good [] s = [s]:=by unfold smStep; rw [hgs]; rfl
         (refine go ?_;repeat' (apply B<;>intro hb<;>try cases hb))
         exact⟨m+1,mv 0 32,by omega,by omega,fun j hj=>absurd hj (Nat.not_lt_zero _),ZE rfl,⟨⟨_,rfl,.pure _ (Z9 _)⟩,⟨_,rfl,.pure _ hc⟩,⟨_,rfl,.own (ρ:=mv 0 32) 0 (by decide)⟩,⟨_,rfl,.pure _ trivial⟩,⟨_,by show some _=some _; rw [hinc],.pure _ trivial⟩,trivial⟩,⟨⟨by decide,_,rfl,by rw [hst,hstep]; exact .same ⟨1,seL [s]⟩ (Z17 [s])⟩,trivial⟩⟩
     | cons a r =>
       rw [List.length_cons] at hol
       have ha64:=hout a (List.mem_cons_self ..)
       have hpos:decide (((seL (a :: r)).length:Int)>0)=true:=decide_eq_true (by rw [Z9z,List.length_cons];omega)
       have hsc:=Z9B good a r s
       have l1:=Z3M s hs64
       have l2:=Z3M a ha64
       generalize popK 64 s=ps at hsc l1
       generalize popK 64 a=pa at hsc l2
       (repeat'(first|refine Z4 38 ?_|refine Z0 38 ?_|refine st ?_|(apply B<;>intro hb<;>try cases hb)))<;>try refine At.mk ?_
       refine Zp (Zf rfl hpos) rfl rfl ?_
       (refine go ?_;repeat' (apply B<;>intro hb<;>try cases hb))
       refine Zq l1 rfl rfl rfl ⟨Z1 _,trivial⟩ ?_
       (refine go ?_;repeat' (apply B<;>intro hb<;>try cases hb))
       refine Zp (ZM (b:=⟨1,seL (a :: r)⟩) rfl rfl rfl 0 rfl (Nat.zero_lt_succ _) rfl) rfl rfl ?_
       (refine go ?_;repeat' (apply B<;>intro hb<;>try cases hb))
       refine Zq l2 rfl rfl rfl ⟨Z1 _,trivial⟩ ?_
       by_cases h1:pa<ps
       · have hd : decide (((ps : Nat) : Int) > ((pa : Nat) : Int)) = true := decide_eq_true (by omega)
         have hstep:smStep good (a :: r) s=a :: r:=by rw [hsc,if_pos h1]
         refine Z3d rfl ?_
         refine Zp (Zf rfl hd) rfl rfl ?_
         (refine go ?_;repeat' (apply B<;>intro hb<;>try cases hb))
         exact⟨m+1,(fun i=>i),by omega,by omega,fun j hj=>absurd hj (Nat.not_lt_zero _),ZE rfl,⟨⟨_,rfl,.pure _ (Z9 _)⟩,⟨_,rfl,.pure _ hc⟩,⟨_,rfl,.own (ρ:=(fun i=>i)) 0 (by decide)⟩,⟨_,rfl,.pure _ trivial⟩,⟨_,by show some _=some _; rw [hinc],.pure _ trivial⟩,trivial⟩,⟨⟨by decide,_,rfl,by rw [hst,hstep]; exact .same _ (Z17 _)⟩,trivial⟩⟩
       · have hd : decide (((ps : Nat) : Int) > ((pa : Nat) : Int)) = false := decide_eq_false (by omega)
         refine Z3d rfl ?_
         refine Zp (Zf rfl hd) rfl rfl ?_
         (refine go ?_;repeat' (apply B<;>intro hb<;>try cases hb))
         refine Zq (hg s hs64) rfl rfl rfl ⟨Z1 _,hc⟩ ?_
         cases hgs:good s with
         | false =>
           have hstep:smStep good (a :: r) s=a :: r:=by rw [hsc,if_neg h1,hgs]; rfl
           (refine go ?_;repeat' (apply B<;>intro hb<;>try cases hb))
           exact⟨m+1,(fun i=>i),by omega,by omega,fun j hj=>absurd hj (Nat.not_lt_zero _),ZE rfl,⟨⟨_,rfl,.pure _ (Z9 _)⟩,⟨_,rfl,.pure _ hc⟩,⟨_,rfl,.own (ρ:=(fun i=>i)) 0 (by decide)⟩,⟨_,rfl,.pure _ trivial⟩,⟨_,by show some _=some _; rw [hinc],.pure _ trivial⟩,trivial⟩,⟨⟨by decide,_,rfl,by rw [hst,hstep]; exact .same _ (Z17 _)⟩,trivial⟩⟩
         | true =>
           (repeat'(first|refine Z4 56 ?_|refine Z0 56 ?_|refine st ?_|(apply B<;>intro hb<;>try cases hb)))<;>try refine At.mk ?_
           refine Zp (Zf rfl hpos) rfl rfl ?_
           (refine go ?_;repeat' (apply B<;>intro hb<;>try cases hb))
           refine Zq l1 rfl rfl rfl ⟨Z1 _,trivial⟩ ?_
           (refine go ?_;repeat' (apply B<;>intro hb<;>try cases hb))
           refine Zp (ZM (b:=⟨1,seL (a :: r)⟩) rfl rfl rfl 0 rfl (Nat.zero_lt_succ _) rfl) rfl rfl ?_
           (refine go ?_;repeat' (apply B<;>intro hb<;>try cases hb))
           refine Zq l2 rfl rfl rfl ⟨Z1 _,trivial⟩ ?_
           by_cases h2:ps<pa
           · have hd2 : decide (((ps : Nat) : Int) < ((pa : Nat) : Int)) = true := decide_eq_true (by omega)
             have hstep:smStep good (a :: r) s = [s]:=by rw [hsc,if_neg h1,hgs,if_pos rfl,if_pos h2]
             refine Z3d rfl ?_
             refine Zp (Zf rfl hd2) rfl rfl ?_
             (refine go ?_;repeat' (apply B<;>intro hb<;>try cases hb))
             exact⟨m+1,mv 0 33,by omega,by omega,fun j hj=>absurd hj (Nat.not_lt_zero _),ZE rfl,⟨⟨_,rfl,.pure _ (Z9 _)⟩,⟨_,rfl,.pure _ hc⟩,⟨_,rfl,.own (ρ:=mv 0 33) 0 (by decide)⟩,⟨_,rfl,.pure _ trivial⟩,⟨_,by show some _=some _; rw [hinc],.pure _ trivial⟩,trivial⟩,⟨⟨by decide,_,rfl,by rw [hst,hstep]; exact .same ⟨1,seL [s]⟩ (Z17 [s])⟩,trivial⟩⟩
           · have hd2 : decide (((ps : Nat) : Int) < ((pa : Nat) : Int)) = false := decide_eq_false (by omega)
             have hstep:smStep good (a :: r) s=a :: r ++ [s]:=by rw [hsc,if_neg h1,hgs,if_pos rfl,if_neg h2]
             refine Z3d rfl ?_
             refine Zp (Zf rfl hd2) rfl rfl ?_
             (repeat'(first|refine Z4 71 ?_|refine Z0 71 ?_|refine st ?_|(apply B<;>intro hb<;>try cases hb)))<;>try refine At.mk ?_
             refine ZL (ZQ (k:=0) (m := [stC s]) (fl:=true) (b:=⟨1,seL (a :: r)⟩) rfl rfl rfl (fun c hc=>by rw [List.mem_singleton] at hc; subst hc; rfl) rfl (by
              show ((seL (a :: r)).length+1)*24≤_
              rw [Z9z,List.length_cons];omega)) rfl rfl ?_
             (refine go ?_;repeat' (apply B<;>intro hb<;>try cases hb))
             exact⟨m+1,mv 0 32,by omega,by omega,fun j hj=>absurd hj (Nat.not_lt_zero _),ZE rfl,⟨⟨_,rfl,.pure _ (Z9 _)⟩,⟨_,rfl,.pure _ hc⟩,⟨_,rfl,.own (ρ:=mv 0 32) 0 (by decide)⟩,⟨_,rfl,.pure _ trivial⟩,⟨_,by show some _=some _; rw [hinc],.pure _ trivial⟩,trivial⟩,⟨⟨by decide,_,rfl,by rw [hst,hstep,show seL (a :: r ++ [s])=seL (a :: r) ++ [stC s] by simp [seL]]; exact .same _ (by show pureLL (seL (a :: r) ++ [stC s]); rw [show seL (a :: r) ++ [stC s]=seL (a :: r ++ [s]) by simp [seL]]; exact Z17 _)⟩,trivial⟩⟩
 · have hml : m = 2 ^ (mem E).length := by have := of_decide_eq_false hb; omega
   subst hml
   clear hb
   have hM:=Zdp hE good
   have hout:=Z7q hE good (2 ^ (mem E).length)
   generalize smAll (mem E) good (2 ^ (mem E).length)=out at hM hout ⊢
   cases out with
   | nil =>
     (refine go ?_;repeat' (apply B<;>intro hb<;>try cases hb))
     exact Z3 rfl ⟨trivial,trivial,trivial⟩ (.found hle [] true hM List.Pairwise.nil)
   | cons a r =>
     (repeat'(first|refine Z4 75 ?_|refine Z0 75 ?_|refine st ?_|(apply B<;>intro hb<;>try cases hb)))<;>try refine At.mk ?_
     refine Z5 (Zf (v:=false) rfl (by show (((seL (a :: r)).length:Int) == 0)=false; rw [Z9z,beq_eq_false_iff_ne,List.length_cons];omega)) rfl rfl ?_
     (refine go ?_;repeat' (apply B<;>intro hb<;>try cases hb))
     refine Zx rfl rfl (Z9A (ob:=0) (a :: r) hout rfl) ?_
     rintro n' x h' ⟨rfl,rfl,ys,hp,hs,rfl⟩
     (repeat'(first|refine Z4 78 ?_|refine Z0 78 ?_|refine st ?_|(apply B<;>intro hb<;>try cases hb)))<;>try refine At.mk ?_
     refine Zg (Zk (k:=6) (id:=0) (b:=⟨1,seL ys⟩) rfl rfl (Z17 ys)) ?_
     (refine go ?_;repeat' (apply B<;>intro hb<;>try cases hb))
     have hne:ys≠[]:=fun h=>by subst h; have:=hp.length_eq; simp at this
     have:=SmR.found hle ys false (hM.perm hp) hs
     rw [if_neg hne] at this
     exact Z3 rfl ⟨Z17 _,trivial,trivial⟩ this
inductive RepR (f:Fm) (E:Nat) (good:Nat→Bool):PV→Prop
 | bad (h:checkM f≠0):RepR f E good (.tup [.vec [] true,.val (.int .i64 (checkM f))])
 | sm (h:checkM f=0) {r:PV} (hr:SmR E good r):RepR f E good r
set_option maxHeartbeats 2000000 in
theorem Z7s {f:Fm} (hm:HoldsW f) (hd:f.depth≤1000) (hsz:f.size≤1099511627776) (l:List Pr) (S:List Nat) (E:Nat) (hE:E<18446744073709551616) (h0:E.testBit 0=false):Spec Tryz.prog 15 [.agg (fC .u8 f),setN E,hierP l S] (RepR f E (gdR f l E)):=by
 have hcp:pureL [PV.cp (fC .u8 f),.cp [hierP l S],.cp [.vec (words (digs E)) false]]:=⟨Zm _ _,⟨ZF l S,trivial⟩,⟨Zd _,trivial⟩,trivial⟩
 refine Z2 ok15 (Nat.le_of_ble_eq_true rfl) fun C hC=>?_
 refine Zh ?_
 refine Za ?_
 refine Z6 rfl rfl rfl ?_
 refine Z6 rfl rfl rfl ?_
 refine Z6 rfl rfl rfl ?_
 (refine go ?_;repeat' (apply B<;>intro hb<;>try cases hb))
 refine Z7 (Z6w f hd hsz l S E hE h0) rfl rfl rfl ⟨Zm _ _,ZF l S,Z1 E,trivial⟩ rfl ?_
 by_cases hk:checkM f=0
 · rw [hk]
   (refine go ?_;repeat' (apply B<;>intro hb<;>try cases hb))
   refine Z7 (Z5l E hE) rfl rfl rfl ⟨Z1 E,trivial⟩ rfl ?_
   (refine go ?_;repeat' (apply B<;>intro hb<;>try cases hb))
   refine Zz rfl rfl (Z3b hE (caps := [PV.cp (fC .u8 f),.cp [hierP l S],.cp [.vec (words (digs E)) false]]) hcp fun s hs=>Z7r hm l S E s hE hs) ⟨Z9 _,hcp,trivial⟩ rfl ?_
   rintro r hr
   rcases hr with h|⟨h,out,fl,h1,h2⟩
   · (refine go ?_;repeat' (apply B<;>intro hb<;>try cases hb))
     exact Z3 rfl ⟨trivial,trivial,trivial⟩ (.sm hk (.many h))
   · (refine go ?_;repeat' (apply B<;>intro hb<;>try cases hb))
     exact Z3 rfl ⟨Z17 _,trivial,trivial⟩ (.sm hk (.found h out fl h1 h2))
 · (repeat'(first|refine Z4 14 ?_|refine Z0 14 ?_|refine st ?_|(apply B<;>intro hb<;>try cases hb)))<;>try refine At.mk ?_
   refine Z5 (Zf (v:=true) rfl (bne_iff_ne.2 hk)) rfl rfl ?_
   (refine go ?_;repeat' (apply B<;>intro hb<;>try cases hb))
   exact Z3 rfl ⟨trivial,trivial,trivial⟩ (.bad hk)
set_option maxHeartbeats 2000000 in
theorem Z5I {f:Fm} (hm:HoldsW f) (hd:f.depth≤1000) (hsz:f.size≤1099511627776) (l:List Pr) (S:List Nat) (E Y:Nat) (hE:E<18446744073709551616) (hY:Y<18446744073709551616) (h0:(E ||| Y).testBit 0=false):Spec Tryz.prog 16 [.agg (fC .u8 f),setN E,setN Y,hierP l S] (RepR f (minusN Y E) (gdA f l E)):=by
 have hcp:pureL [PV.cp (fC .u8 f),.cp [hierP l S],.cp [.vec (words (digs E)) false]]:=⟨Zm _ _,⟨ZF l S,trivial⟩,⟨Zd _,trivial⟩,trivial⟩
 have hM:=Z4c E hY
 refine Z2 ok16 (Nat.le_of_ble_eq_true rfl) fun C hC=>?_
 refine Zh ?_
 refine Za ?_
 refine Z6 rfl rfl rfl ?_
 refine Z6 rfl rfl rfl ?_
 refine Z6 rfl rfl rfl ?_
 refine Z6 rfl rfl rfl ?_
 (refine go ?_;repeat' (apply B<;>intro hb<;>try cases hb))
 refine Zq (Z31 E Y hE hY) rfl rfl rfl ⟨Z1 E,Z1 Y,trivial⟩ ?_
 refine Zq (Z6w f hd hsz l S (E ||| Y) (Z36 hE hY) h0) rfl rfl rfl ⟨Zm _ _,ZF l S,Z1 _,trivial⟩ ?_
 by_cases hk:checkM f=0
 · rw [hk]
   (refine go ?_;repeat' (apply B<;>intro hb<;>try cases hb))
   refine Z7 (Z5F Y E hY hE) rfl rfl rfl ⟨Z1 Y,Z1 E,trivial⟩ rfl ?_
   refine Z7 (Z5l _ hM) rfl rfl rfl ⟨Z1 _,trivial⟩ rfl ?_
   (refine go ?_;repeat' (apply B<;>intro hb<;>try cases hb))
   refine Zz rfl rfl (Z3b hM (caps := [PV.cp (fC .u8 f),.cp [hierP l S],.cp [.vec (words (digs E)) false]]) hcp fun s hs=>Z5G hm l S E s hE hs) ⟨Z9 _,hcp,trivial⟩ rfl ?_
   rintro r hr
   rcases hr with h|⟨h,out,fl,h1,h2⟩
   · (refine go ?_;repeat' (apply B<;>intro hb<;>try cases hb))
     exact Z3 rfl ⟨trivial,trivial,trivial⟩ (.sm hk (.many h))
   · (refine go ?_;repeat' (apply B<;>intro hb<;>try cases hb))
     exact Z3 rfl ⟨Z17 _,trivial,trivial⟩ (.sm hk (.found h out fl h1 h2))
 · (repeat'(first|refine Z4 18 ?_|refine Z0 18 ?_|refine st ?_|(apply B<;>intro hb<;>try cases hb)))<;>try refine At.mk ?_
   refine Z5 (Zf (v:=true) rfl (bne_iff_ne.2 hk)) rfl rfl ?_
   (refine go ?_;repeat' (apply B<;>intro hb<;>try cases hb))
   exact Z3 rfl ⟨trivial,trivial,trivial⟩ (.bad hk)
theorem Zds {l:List Cu} {S i:Nat} (hi:i<l.length) (hno:(l.take i).any (fun c=>hoC c S)=false) (h:hoC l[i] S=true):firstC l S=some l[i]:=by
 have e:l=l.take i++l[i] :: l.drop (i+1):=by rw [← List.drop_eq_getElem_cons hi,List.take_append_drop]
 have h1:(l.take i).find? (fun c=>hoC c S)=none:=by rw [List.find?_eq_none]; rw [List.any_eq_false] at hno; exact hno
 unfold firstC
 generalize l[i]=c at e h
 rw [e,List.find?_append,h1,List.find?_cons,h]
 rfl
theorem ZeL {f:Fm} (h:checkM f≠0):vioL f = []:=by unfold vioL; rw [if_neg h]
def ofWP (o:Option Cu):PV:=.tup [cuP (o.getD (0,0)),.val (.bool o.isSome)]
theorem Z5J (o:Option Cu):(ofWP o).pure:=⟨Z2u _,trivial,trivial⟩
theorem Z3W:ofWP none=.tup [.agg [.vec [] false,.vec [] false],.val (.bool false)]:=by
 show PV.tup [.agg [.vec (words (digs 0)) false,.vec (words (digs 0)) false],_]=_
 rw [Zr]; rfl
set_option maxHeartbeats 4000000 in
theorem Zay (f:Fm) (hd:f.depth≤1000) (hsz:f.size≤1099511627776) (S:Nat) (hS:S<18446744073709551616):Spec Tryz.prog 13 [.agg (fC .u8 f),setN S] (· = ofWP (firstC (vioL f) S)):=by
 have hok:=Zfz f
 have hvp:∀ D,innLL D ((vioL f).map cuC):=fun D=>Zi (fun _ h=>h.elim) _ (Z11 _)
 have hnl:((vioL f).map cuC).length=(vioL f).length:=by simp
 have hfp:=fun D=>Z7L .u8 f D
 refine Z2 ok13 (Nat.le_of_ble_eq_true rfl) fun C hC=>?_
 refine Zh ?_
 refine Za ?_
 refine Z6 rfl rfl rfl ?_
 refine Z6 rfl rfl rfl ?_
 (refine go ?_;repeat' (apply B<;>intro hb<;>try cases hb))
 refine Z7 (Z4b f hd hsz) rfl rfl rfl ⟨Zm _ _,trivial,trivial⟩ rfl ?_
 by_cases hk:checkM f=0
 · rw [hk]
   (refine go ?_;repeat' (apply B<;>intro hb<;>try cases hb))
   refine Z7 (Z5t f hd hsz) rfl rfl rfl ⟨Zm _ _,trivial⟩ rfl ?_
   rw [hk]
   (refine go ?_;repeat' (apply B<;>intro hb<;>try cases hb))
   refine Z3B (k:=19) rfl fun hmax=>?_
   have hlm:(vioL f).length≤maxVec:=by rw [← hnl]; exact hmax
   refine ZD hC (fun i=>i≤(vioL f).length∧((vioL f).take i).any (fun c=>hoC c S)=false) (fun i=>(vioL f).length-i) 1 (fun i => [(3,.cp [.vec (words (digs S)) false]),(4,.ptr 0 0 0),(19,.vec ((vioL f).map cuC) false),(20,.val (.int .i64 ((vioL f).length:Int))),(21,.val (.int .i64 (i:Int)))])
    (fun i => [(0,⟨2,[[.vec [] true,.vec [] true]]⟩)]) (Nat.zero_le _) 0 ⟨Nat.zero_le _,rfl⟩
    ⟨⟨rfl,ZA _ _,trivial⟩,⟨rfl,show (0:Nat)<1 by decide⟩,⟨rfl,hvp _⟩,⟨by rw [← hnl]; rfl,trivial⟩,⟨rfl,trivial⟩,trivial⟩ ⟨⟨by decide,rfl,⟨⟨trivial,trivial,trivial⟩,trivial⟩⟩,trivial⟩ ?_
   rintro i ⟨hi,hno⟩
   have hinc:IntKind.i64.wrap ((i:Int)+1)=((i+1:Nat):Int):=IntWalk.i64_in _ ⟨by omega,by simp only [maxVec] at hlm; omega⟩
   (repeat'(first|refine Z4 22 ?_|refine Z0 22 ?_|refine st ?_|(apply B<;>intro hb<;>try cases hb)))<;>try refine At.mk ?_
   refine Zs rfl rfl rfl (fun hb=>?_) (fun hb=>?_)
   · have hil : i < (vioL f).length := by have := of_decide_eq_true hb; omega
     clear hb
     have hci:=hok _ (List.getElem_mem hil)
     (refine go ?_;repeat' (apply B<;>intro hb<;>try cases hb))
     refine Z5 (Zl (xs:=vioL f) (g:=cuC) rfl rfl i rfl hil rfl) rfl rfl ?_
     (refine go ?_;repeat' (apply B<;>intro hb<;>try cases hb))
     refine Z7 (Z9f (vioL f)[i] S hci hS) rfl rfl rfl ⟨Z2u _,Z1 _,trivial⟩ rfl ?_
     cases hh:hoC (vioL f)[i] S with
     | false =>
       (refine go ?_;repeat' (apply B<;>intro hb<;>try cases hb))
       exact⟨i+1,⟨by omega,Z4N hil hno hh⟩,by omega,⟨⟨rfl,ZA _ _,trivial⟩,⟨rfl,show (0:Nat)<1 by decide⟩,⟨rfl,hvp _⟩,⟨rfl,trivial⟩,⟨by show some _=some _; rw [hinc],trivial⟩,trivial⟩,⟨⟨by decide,rfl,⟨⟨trivial,trivial,trivial⟩,trivial⟩⟩,trivial⟩⟩
     | true =>
       (refine go ?_;repeat' (apply B<;>intro hb<;>try cases hb))
       exact Z3 rfl (Z5J (some (vioL f)[i])) (by rw [Zds hil hno hh]; rfl)
   · have hil : i = (vioL f).length := by have := of_decide_eq_false hb; omega
     subst hil
     rw [List.take_length] at hno
     clear hb
     (refine go ?_;repeat' (apply B<;>intro hb<;>try cases hb))
     refine Z3e rfl (Z5J none |> fun h=>by rw [Z3W] at h; exact h) ?_
     rw [show firstC (vioL f) S=none from Z9w.2 hno,Z3W]; rfl
 · (repeat'(first|refine Z4 12 ?_|refine Z0 12 ?_|refine st ?_|(apply B<;>intro hb<;>try cases hb)))<;>try refine At.mk ?_
   refine Z5 (Zf (v:=true) rfl (bne_iff_ne.2 hk)) rfl rfl ?_
   (refine go ?_;repeat' (apply B<;>intro hb<;>try cases hb))
   refine Z3e rfl (Z5J none |> fun h=>by rw [Z3W] at h; exact h) ?_
   rw [ZeL hk,show firstC [] S=none from rfl,Z3W]; rfl
end Go.Proofs.YtojlnagiaibgkaaGreatDoor
namespace Go.Proofs.YtojlnagiaibgkaaGreatDoor
open Go.Shelf
def Z9C:Go.Shelf.Ren:=⟨fun|171=>43|243=>84|246=>110|283=>140|284=>141|285=>142|286=>143|129=>127|317=>162|318=>163|319=>164|320=>165|337=>171|338=>83|n=>n,fun|3=>3|9=>9|2=>2|4=>4|171=>187|0=>0|53=>25|37=>92|5=>5|173=>189|212=>208|51=>178|20=>20|213=>209|46=>101|232=>216|233=>160|n=>n,fun|17=>2|18=>3|19=>0|n=>n⟩
theorem lays171:Go.Proofs.Lays.n171 Tryz.prog Z9C:={
 mixed:=by kernel_rfl
 f129:=Tryz.func127.trans (congrArg some (by kernel_rfl))
 f171:=Tryz.func43.trans (congrArg some (by kernel_rfl))
 f243:=Tryz.func84.trans (congrArg some (by kernel_rfl))
 f246:=Tryz.func110.trans (congrArg some (by kernel_rfl))
 f283:=Tryz.func140.trans (congrArg some (by kernel_rfl))
 f284:=Tryz.func141.trans (congrArg some (by kernel_rfl))
 f285:=Tryz.func142.trans (congrArg some (by kernel_rfl))
 f286:=Tryz.func143.trans (congrArg some (by kernel_rfl))
 f317:=Tryz.func162.trans (congrArg some (by kernel_rfl))
 f318:=Tryz.func163.trans (congrArg some (by kernel_rfl))
 f319:=Tryz.func164.trans (congrArg some (by kernel_rfl))
 f320:=Tryz.func165.trans (congrArg some (by kernel_rfl))
 f337:=Tryz.func171.trans (congrArg some (by kernel_rfl))
 f338:=Tryz.func83.trans (congrArg some (by kernel_rfl))
 t0:=Tryz.underlying0
 a0:=Tryz.isAgg0
 z0:=Tryz.sizeOf0
 v0:=Tryz.zeroValue0
 t2:=Tryz.underlying2
 a2:=Tryz.isAgg2
 z2:=Tryz.sizeOf2
 v2:=Tryz.zeroValue2
 t3:=Tryz.underlying3
 a3:=Tryz.isAgg3
 z3:=Tryz.sizeOf3
 v3:=Tryz.zeroValue3
 t4:=Tryz.underlying4
 a4:=Tryz.isAgg4
 z4:=Tryz.sizeOf4
 v4:=Tryz.zeroValue4
 t5:=Tryz.underlying5
 a5:=Tryz.isAgg5
 z5:=Tryz.sizeOf5
 v5:=Tryz.zeroValue5
 t9:=Tryz.underlying9
 a9:=Tryz.isAgg9
 z9:=Tryz.sizeOf9
 v9:=Tryz.zeroValue9
 t20:=Tryz.underlying20
 a20:=Tryz.isAgg20
 z20:=Tryz.sizeOf20
 v20:=Tryz.zeroValue20
 t37:=Tryz.underlying92
 a37:=Tryz.isAgg92
 z37:=Tryz.sizeOf92
 v37:=Tryz.zeroValue92
 t46:=Tryz.underlying101
 a46:=Tryz.isAgg101
 z46:=Tryz.sizeOf101
 v46:=Tryz.zeroValue101
 t51:=Tryz.underlying178
 a51:=Tryz.isAgg178
 z51:=Tryz.sizeOf178
 v51:=Tryz.zeroValue178
 t53:=Tryz.underlying25
 a53:=Tryz.isAgg25
 z53:=Tryz.sizeOf25
 v53:=Tryz.zeroValue25
 t171:=Tryz.underlying187
 a171:=Tryz.isAgg187
 z171:=Tryz.sizeOf187
 v171:=Tryz.zeroValue187
 t173:=Tryz.underlying189
 a173:=Tryz.isAgg189
 z173:=Tryz.sizeOf189
 v173:=Tryz.zeroValue189
 t212:=Tryz.underlying208
 a212:=Tryz.isAgg208
 z212:=Tryz.sizeOf208
 v212:=Tryz.zeroValue208
 t213:=Tryz.underlying209
 a213:=Tryz.isAgg209
 z213:=Tryz.sizeOf209
 t232:=Tryz.underlying216
 a232:=Tryz.isAgg216
 z232:=Tryz.sizeOf216
 v232:=Tryz.zeroValue216
 t233:=Tryz.underlying160
 a233:=Tryz.isAgg160
 z233:=Tryz.sizeOf160
 v233:=Tryz.zeroValue160
 g17:=by kernel_rfl
 g18:=by kernel_rfl
 g19:=by kernel_rfl }
def Z5K:Go.Shelf.Ren:=⟨fun|156=>22|165=>52|166=>46|169=>47|240=>85|241=>90|276=>111|277=>117|n=>n,fun|31=>29|9=>9|3=>3|4=>4|0=>0|20=>20|72=>94|76=>99|70=>91|37=>92|75=>96|127=>135|164=>162|5=>5|80=>59|n=>n,fun|n=>n⟩
theorem lays156:Go.Proofs.Lays.n156 Tryz.prog Z5K:={
 mixed:=by kernel_rfl
 f156:=Tryz.func22.trans (congrArg some (by kernel_rfl))
 f165:=Tryz.func52.trans (congrArg some (by kernel_rfl))
 f166:=Tryz.func46.trans (congrArg some (by kernel_rfl))
 f169:=Tryz.func47.trans (congrArg some (by kernel_rfl))
 f240:=Tryz.func85.trans (congrArg some (by kernel_rfl))
 f241:=Tryz.func90.trans (congrArg some (by kernel_rfl))
 f276:=Tryz.func111.trans (congrArg some (by kernel_rfl))
 f277:=Tryz.func117.trans (congrArg some (by kernel_rfl))
 t0:=Tryz.underlying0
 a0:=Tryz.isAgg0
 z0:=Tryz.sizeOf0
 v0:=Tryz.zeroValue0
 t3:=Tryz.underlying3
 a3:=Tryz.isAgg3
 z3:=Tryz.sizeOf3
 v3:=Tryz.zeroValue3
 t4:=Tryz.underlying4
 a4:=Tryz.isAgg4
 z4:=Tryz.sizeOf4
 v4:=Tryz.zeroValue4
 t9:=Tryz.underlying9
 a9:=Tryz.isAgg9
 z9:=Tryz.sizeOf9
 v9:=Tryz.zeroValue9
 t20:=Tryz.underlying20
 a20:=Tryz.isAgg20
 z20:=Tryz.sizeOf20
 v20:=Tryz.zeroValue20
 t31:=Tryz.underlying29
 a31:=Tryz.isAgg29
 z31:=Tryz.sizeOf29
 v31:=Tryz.zeroValue29
 t37:=Tryz.underlying92
 a37:=Tryz.isAgg92
 z37:=Tryz.sizeOf92
 v37:=Tryz.zeroValue92
 t70:=Tryz.underlying91
 a70:=Tryz.isAgg91
 z70:=Tryz.sizeOf91
 v70:=Tryz.zeroValue91
 t72:=Tryz.underlying94
 a72:=Tryz.isAgg94
 z72:=Tryz.sizeOf94
 v72:=Tryz.zeroValue94
 t75:=Tryz.underlying96
 a75:=Tryz.isAgg96
 z75:=Tryz.sizeOf96
 v75:=Tryz.zeroValue96
 t76:=Tryz.underlying99
 a76:=Tryz.isAgg99
 z76:=Tryz.sizeOf99
 v76:=Tryz.zeroValue99
 t127:=Tryz.underlying135
 a127:=Tryz.isAgg135
 z127:=Tryz.sizeOf135
 v127:=Tryz.zeroValue135
 t164:=Tryz.underlying162
 a164:=Tryz.isAgg162
 z164:=Tryz.sizeOf162
 v164:=Tryz.zeroValue162 }
theorem builderExtra156:Builder.Extra Tryz.prog Z5K:={
 sizeBuilder:=by kernel_rfl
 liesBuilder:=by kernel_rfl
 t5:=Tryz.underlying5
 a5:=Tryz.isAgg5
 z5:=Tryz.sizeOf5
 v5:=Tryz.zeroValue5
 infoByte:=by kernel_rfl
 cellsByte:=by kernel_rfl
 sizeByte:=by kernel_rfl
 neB5:=by decide }
def Z1W:Go.Shelf.Ren:=⟨fun|167=>44|170=>45|156=>22|165=>52|166=>46|169=>47|240=>85|241=>90|276=>111|277=>117|n=>n,fun|31=>29|9=>9|3=>3|4=>4|0=>0|20=>20|72=>94|76=>99|70=>91|37=>92|75=>96|127=>135|164=>162|5=>5|80=>59|n=>n,fun|n=>n⟩
theorem lays166:Go.Proofs.Lays.n166 Tryz.prog Z1W:={
 mixed:=by kernel_rfl
 f166:=Tryz.func46.trans (congrArg some (by kernel_rfl))
 f240:=Tryz.func85.trans (congrArg some (by kernel_rfl))
 f276:=Tryz.func111.trans (congrArg some (by kernel_rfl))
 t0:=Tryz.underlying0
 a0:=Tryz.isAgg0
 z0:=Tryz.sizeOf0
 v0:=Tryz.zeroValue0
 t3:=Tryz.underlying3
 a3:=Tryz.isAgg3
 z3:=Tryz.sizeOf3
 v3:=Tryz.zeroValue3
 t4:=Tryz.underlying4
 a4:=Tryz.isAgg4
 z4:=Tryz.sizeOf4
 v4:=Tryz.zeroValue4
 t9:=Tryz.underlying9
 a9:=Tryz.isAgg9
 z9:=Tryz.sizeOf9
 v9:=Tryz.zeroValue9
 t20:=Tryz.underlying20
 a20:=Tryz.isAgg20
 z20:=Tryz.sizeOf20
 v20:=Tryz.zeroValue20
 t37:=Tryz.underlying92
 a37:=Tryz.isAgg92
 z37:=Tryz.sizeOf92
 v37:=Tryz.zeroValue92
 t70:=Tryz.underlying91
 a70:=Tryz.isAgg91
 z70:=Tryz.sizeOf91
 v70:=Tryz.zeroValue91
 t72:=Tryz.underlying94
 a72:=Tryz.isAgg94
 z72:=Tryz.sizeOf94
 v72:=Tryz.zeroValue94
 t75:=Tryz.underlying96
 a75:=Tryz.isAgg96
 z75:=Tryz.sizeOf96
 v75:=Tryz.zeroValue96
 t164:=Tryz.underlying162
 a164:=Tryz.isAgg162
 z164:=Tryz.sizeOf162
 v164:=Tryz.zeroValue162 }
theorem lays167:Go.Proofs.Lays.n167 Tryz.prog Z1W:={
 mixed:=by kernel_rfl
 f167:=Tryz.func44.trans (congrArg some (by kernel_rfl))
 f240:=Tryz.func85.trans (congrArg some (by kernel_rfl))
 f276:=Tryz.func111.trans (congrArg some (by kernel_rfl))
 t0:=Tryz.underlying0
 a0:=Tryz.isAgg0
 z0:=Tryz.sizeOf0
 v0:=Tryz.zeroValue0
 t4:=Tryz.underlying4
 a4:=Tryz.isAgg4
 z4:=Tryz.sizeOf4
 v4:=Tryz.zeroValue4
 t5:=Tryz.underlying5
 a5:=Tryz.isAgg5
 z5:=Tryz.sizeOf5
 v5:=Tryz.zeroValue5
 t9:=Tryz.underlying9
 a9:=Tryz.isAgg9
 z9:=Tryz.sizeOf9
 v9:=Tryz.zeroValue9
 t20:=Tryz.underlying20
 a20:=Tryz.isAgg20
 z20:=Tryz.sizeOf20
 v20:=Tryz.zeroValue20
 t37:=Tryz.underlying92
 a37:=Tryz.isAgg92
 z37:=Tryz.sizeOf92
 v37:=Tryz.zeroValue92
 t70:=Tryz.underlying91
 a70:=Tryz.isAgg91
 z70:=Tryz.sizeOf91
 v70:=Tryz.zeroValue91
 t72:=Tryz.underlying94
 a72:=Tryz.isAgg94
 z72:=Tryz.sizeOf94
 v72:=Tryz.zeroValue94
 t75:=Tryz.underlying96
 a75:=Tryz.isAgg96
 z75:=Tryz.sizeOf96
 v75:=Tryz.zeroValue96
 t164:=Tryz.underlying162
 a164:=Tryz.isAgg162
 z164:=Tryz.sizeOf162
 v164:=Tryz.zeroValue162 }
theorem lays169:Go.Proofs.Lays.n169 Tryz.prog Z1W:={
 mixed:=by kernel_rfl
 f169:=Tryz.func47.trans (congrArg some (by kernel_rfl))
 t0:=Tryz.underlying0
 a0:=Tryz.isAgg0
 z0:=Tryz.sizeOf0
 v0:=Tryz.zeroValue0
 t3:=Tryz.underlying3
 a3:=Tryz.isAgg3
 z3:=Tryz.sizeOf3
 v3:=Tryz.zeroValue3
 t9:=Tryz.underlying9
 a9:=Tryz.isAgg9
 z9:=Tryz.sizeOf9
 v9:=Tryz.zeroValue9
 t37:=Tryz.underlying92
 a37:=Tryz.isAgg92
 z37:=Tryz.sizeOf92
 v37:=Tryz.zeroValue92
 t70:=Tryz.underlying91
 a70:=Tryz.isAgg91
 z70:=Tryz.sizeOf91
 v70:=Tryz.zeroValue91
 t72:=Tryz.underlying94
 a72:=Tryz.isAgg94
 z72:=Tryz.sizeOf94
 v72:=Tryz.zeroValue94
 t127:=Tryz.underlying135
 a127:=Tryz.isAgg135
 z127:=Tryz.sizeOf135
 v127:=Tryz.zeroValue135 }
theorem lays170:Go.Proofs.Lays.n170 Tryz.prog Z1W:={
 mixed:=by kernel_rfl
 f170:=Tryz.func45.trans (congrArg some (by kernel_rfl))
 t0:=Tryz.underlying0
 a0:=Tryz.isAgg0
 z0:=Tryz.sizeOf0
 v0:=Tryz.zeroValue0
 t3:=Tryz.underlying3
 a3:=Tryz.isAgg3
 z3:=Tryz.sizeOf3
 v3:=Tryz.zeroValue3
 t37:=Tryz.underlying92
 a37:=Tryz.isAgg92
 z37:=Tryz.sizeOf92
 v37:=Tryz.zeroValue92
 t70:=Tryz.underlying91
 a70:=Tryz.isAgg91
 z70:=Tryz.sizeOf91
 v70:=Tryz.zeroValue91
 t72:=Tryz.underlying94
 a72:=Tryz.isAgg94
 z72:=Tryz.sizeOf94
 v72:=Tryz.zeroValue94 }
theorem bxB:Builder.Extra Tryz.prog Z1W:={
 sizeBuilder:=by kernel_rfl
 liesBuilder:=by kernel_rfl
 t5:=Tryz.underlying5
 a5:=Tryz.isAgg5
 z5:=Tryz.sizeOf5
 v5:=Tryz.zeroValue5
 infoByte:=by kernel_rfl
 cellsByte:=by kernel_rfl
 sizeByte:=by kernel_rfl
 neB5:=by decide }
end Go.Proofs.YtojlnagiaibgkaaGreatDoor
namespace Go.Proofs.YtojlnagiaibgkaaGreatDoor
open Go.RowKit Go.Shelf
attribute [local go_sem] Oper.semAt_some
def txtS (xs:List Nat):List UInt8:=xs.foldl (fun acc x=>acc++((if 1<acc.length then [32] else [])++Go.Lib.decDigits x)) [123]
theorem Zdt (xs:List Nat) (x:Nat):txtS (xs ++ [x])=txtS xs++((if 1<(txtS xs).length then [32] else [])++Go.Lib.decDigits x):=by rw [txtS,List.foldl_append]; rfl
def textB (N:Nat):ByteArray:=⟨(txtS (mem N) ++ [125]).toArray⟩
theorem Z6x {k:Nat} (hk:k<100):(Go.Lib.decDigits k).length≤2:=by
 by_cases h:k<10
 · rw [Go.Lib.decDigits_one h]; simp
 · rw [Go.Lib.decDigits_two h hk]; simp
theorem Zaz:∀ (xs:List Nat),(∀ x∈xs,x<100)→(txtS xs).length≤1+3*xs.length:=by
 have key:∀ (xs:List Nat) (acc:List UInt8),(∀ x∈xs,x<100)→(xs.foldl (fun acc x=>acc++((if 1<acc.length then [32] else [])++Go.Lib.decDigits x)) acc).length≤acc.length+3*xs.length:=by
  intro xs
  induction xs with
  | nil=>intro acc _; simp
  | cons x xs ih =>
    intro acc h
    rw [List.foldl_cons]
    have h1:=ih (acc++((if 1<acc.length then [32] else [])++Go.Lib.decDigits x)) fun y hy=>h y (List.mem_cons_of_mem _ hy)
    have h2:=Z6x (h x (List.mem_cons_self ..))
    rw [List.length_append,List.length_append] at h1
    have h3:(if 1<acc.length then [(32:UInt8)] else []).length≤1:=by split<;>simp
    rw [List.length_cons]
    omega
 intro xs h
 exact key xs [123] h
abbrev TB:TypeId:=Z1W.t 72
abbrev TU:TypeId:=Z1W.t 5
theorem Z7t (B b:Nat) (l:List UInt8) (c:UInt8) (ci:Int) (hc:ci=c.toNat) (w:World) (h:Lib.IsBuilderF TB TU B b (Lib.byteCells l) w) (hlen:l.length≤100000) (hBw:B≤w.heap.size) :
 Calls Tryz.prog 44 #[.pointer (some ⟨b,0,none⟩),.int .u8 ci] w fun e w'=>e=.returned .nilIface∧Lib.IsBuilderF TB TU B b (Lib.byteCells (l ++ [c])) w'∧Below B w w'∧Lib.OthersKept TU (some b) w w':=by
 subst hc
 refine (Any.Builder_WriteByte_k lays167 bxB B b (Lib.byteCells l) c.toNat w h (by rw [Lib.byteCells_length];omega) hBw).mono ?_
 rintro e w' ⟨h1,h2,h3,h4⟩
 refine⟨h1,.inr ?_,h3,h4⟩
 rw [Lib.byteCells_append]
 exact h2
theorem ZaA (B b:Nat) (l:List UInt8) (s:ByteArray) (w:World) (h:Lib.IsBuilderF TB TU B b (Lib.byteCells l) w) (hlen:l.length+s.size≤100000) (hBw:B≤w.heap.size) :
 Calls Tryz.prog 46 #[.pointer (some ⟨b,0,none⟩),.string s] w fun e w'=>e=.returned (.tuple #[.int .i64 s.size,.nilIface])∧Lib.IsBuilderF TB TU B b (Lib.byteCells (l++s.data.toList)) w'∧Below B w w'∧Lib.OthersKept TU (some b) w w':=by
 refine (Any.Builder_WriteString_k lays166 bxB B b (Lib.byteCells l) s w h (by rw [Lib.byteCells_length];omega) hBw).mono ?_
 rintro e w' ⟨h1,h2,h3,h4⟩
 refine⟨h1,.inr ?_,h3,h4⟩
 rw [Lib.byteCells_append,← Lib.strCells_eq]
 exact h2
theorem ZeM (B b:Nat) (l:List UInt8) (w:World) (h:Lib.IsBuilderF TB TU B b (Lib.byteCells l) w) :
 Calls Tryz.prog 45 #[.pointer (some ⟨b,0,none⟩)] w fun e w'=>e=.returned (.int .i64 l.length)∧w'=w:=by
 have:=Any.Builder_Len_f lays170 B b (Lib.byteCells l) w h
 rwa [Lib.byteCells_length] at this
theorem ZeN (B b:Nat) (l:List UInt8) (w:World) (h:Lib.IsBuilderF TB TU B b (Lib.byteCells l) w) (hBw:B≤w.heap.size) :
 Calls Tryz.prog 47 #[.pointer (some ⟨b,0,none⟩)] w fun e w'=>e=.returned (.string ⟨l.toArray⟩)∧Below B w w'∧Lib.OthersKept TU (some b) w w' :=
 (Any.Builder_String_any_k lays169 bxB B b l w h hBw).mono fun _ _ h=>⟨h.1,h.2.2⟩
theorem Zdu (s0:Value) (h1:s0.oneCell'=true) (w:World):Calls Tryz.prog 41 #[.agg #[s0]] w fun e w'=>e=.returned (.func (.func 82) #[] #[.pointer (some ⟨w.heap.size,0,none⟩)])∧∃ tS:TypeId,tS≠TU∧w'=w.alloc (.cells #[s0] tS):=by
 go_enter Tryz.func41,Tryz.ntmps41
 go_wp2
 go_ret
 exact⟨rfl,_,by decide,rfl⟩
theorem Zdv {T e:TypeId} {B b:Nat} {bs:List Value} {W W':World} {row:Option Nat} (h:Lib.IsBuilderF T e B b bs W) (hg:W.grownBy W' row) (hr:∀ r,row=some r→∃ o:Obj,W.heap[r]?=some o∧o.isCells=false):Lib.IsBuilderF T e B b bs W':=by
 have ncells:∀ {k:Nat} {cs:Array Value} {t:TypeId} {fz:Nat×Nat},W.heap[k]?=some (.cells cs t fz)→some k≠row:=by
  intro k cs t fz hk he
  obtain⟨o,ho,hc⟩:=hr k he.symm
  rw [hk] at ho; cases ho; cases hc
 have key:∀ p,Lib.BuilderAtF T e B b p bs W→Lib.BuilderAtF T e B b p bs W':=by
  rintro p ⟨hB,v,hb,hown,hne⟩
  refine⟨hB,v,(hg.block b (Array.getElem?_eq_some_iff.1 hb).1 (ncells hb)).trans hb,hown.kept hg ?_,hne⟩
  rcases hown.2 with⟨rfl,_⟩|⟨g',cap,cur,fz,rfl,_,hgg,_⟩
  · exact .inl rfl
  · exact .inr (ncells hgg)
 exact h.elim (fun h=>.inl (key _ h)) fun h=>.inr (key _ h)
theorem Zdw {f:FuncId} {args:List PV} {v:Value} (hb:HasBody Tryz.prog f) (h:∀ (F:Froz) (w:World) (vs:Array Value),Holds F w→RepL F noLoc vs args→Calls Tryz.prog f vs w fun e w'=>e=.returned v∧Below w.heap.size w w'):Spec Tryz.prog f args (· = .val v):=by
 refine⟨hb,fun F w vs hF hv=>(h F w vs hF hv).mono ?_⟩
 rintro en w' ⟨rfl,hbel⟩
 exact⟨v,.val v,F,rfl,rfl,.val _,hbel,Holds.kept hF hbel,fun _ _ h=>h,fun _ _=>rfl⟩
set_option maxHeartbeats 4000000 in
set_option maxRecDepth 100000 in
theorem Z4d (N:Nat) (hN:N<18446744073709551616):Spec Tryz.prog 18 [setN N] (· = .val (.string (textB N))):=by
 refine Zdw ⟨_,Tryz.func18,by kernel_rfl,by kernel_rfl⟩ fun F w vs hF hv=>?_
 have hv0:Rep F noLoc (vs.getD 0 undef) (.agg [.vec (words (digs N)) false]):=hv.2 0 (Nat.zero_lt_succ _)
 have hsz:vs.size=1:=hv.1
 obtain⟨az,has,h1,h2,h3⟩:=hv0.agg_inv
 have hvs:vs = #[.agg az]:=by
  refine Array.ext hsz fun i i1 i2=>?_
  have hi:i=0:=by omega
  subst hi
  rw [← has]; simp [Array.getD_eq_getD_getElem?,i1]
 subst hvs
 have has1:az = #[az.getD 0 undef]:=by
  refine Array.ext h1 fun i i1 i2=>?_
  have hi:i=0:=by have:az.size=1:=h1; omega
  subst hi
  simp [Array.getD_eq_getD_getElem?,i1]
 have h20:=h2 0 (Nat.zero_lt_succ _)
 have h30:Rep F noLoc (az.getD 0 undef) (.vec (words (digs N)) false):=h3 0 (Nat.zero_lt_succ _)
 rw [has1]
 generalize az.getD 0 undef=s0 at h20 h30
 refine (callsIn_wide (n:=3)).1 (callsIn_of_wp_marks Tryz.func18 rfl trivial ?_ rfl)
 simp only [Tryz.ntmps18,List.size_toArray,List.length_cons,List.length_nil,Nat.reduceAdd,Nat.reduceSub,Array.replicate_succ,Array.replicate_zero,List.push_toArray,List.append_toArray,List.nil_append,List.cons_append]
 gi_wp2
 have hB0:Lib.IsBuilderF TB TU (w.heap.size+1) (w.heap.size+1) (Lib.byteCells []) ((w.alloc (.cells #[s0] 36)).alloc (.cells #[.pointer none,.slice none 0 0] 94)):=.of (by
  have:=Lib.fresh_isBuilder TB TU (w.alloc (.cells #[s0] 36))
  rwa [World.size_alloc] at this)
 refine⟨trivial,(callsIn_wide.2 (Z7t (w.heap.size+1) (w.heap.size+1) [] 123 123 rfl _ hB0 (by decide) (by simp))).mono ?_⟩
 rintro e W1 ⟨rfl,hB1,hb1,hk1⟩
 have hx1:W1.heap[w.heap.size]?=some (.cells #[s0] 36 (0,0)):=by
  rw [hb1.block _ (Nat.lt_succ_self _),Lib.alloc_old _ _ _ (by rw [World.size_alloc]; exact Nat.lt_succ_self _)]
  exact heap_alloc_new w _
 have hlow1:Below w.heap.size w W1:=by
  refine Below.trans ?_ (hb1.mono (Nat.le_succ _))
  exact ((Below.refl _ w).alloc (Nat.le_refl _) _).alloc (by simp) _
 have hsz1:w.heap.size+2≤W1.heap.size:=by have:=hb1.size; simpa using this
 clear hb1 hk1
 have hl1:W1.cell? ⟨w.heap.size,0,none⟩=some s0:=by simp [World.cell?,hx1]
 gi_wp2
 refine⟨trivial,(callsIn_wide.2 (Zdu s0 h20 W1)).mono ?_⟩
 rintro e W2 ⟨rfl,tS,htS,rfl⟩
 gi_wp2
 have hcl:∀ x v,F x=some v→x.block<w.heap.size:=fun x v hx=>by
  have h1:=(hF.1 x v hx).2.2
  unfold World.cell? at h1
  split at h1
  · rename_i ho; exact (Array.getElem?_eq_some_iff.1 ho).1
  · cases h1
 let xa:Addr:=⟨W1.heap.size,0,none⟩
 let F1:Froz:=fun x=>if x=xa then some s0 else F x
 have hF1o:∀ x v,F x=some v→F1 x=some v:=fun x v hx=>by
  have h1:=hcl x v hx
  have:x≠xa:=fun e=>by rw [e] at h1; simp only [xa] at h1; omega
  simp only [F1]; rw [if_neg this]; exact hx
 obtain⟨W2,hW2⟩:∃ W2,W2=W1.alloc (.cells #[s0] tS):=⟨_,rfl⟩
 have hs2:W2.heap.size=W1.heap.size+1:=by rw [hW2,World.size_alloc]
 have hx2:W2.heap[W1.heap.size]?=some (.cells #[s0] tS (0,0)):=by rw [hW2]; exact heap_alloc_new W1 _
 have hlow2:Below w.heap.size w W2:=by rw [hW2]; exact hlow1.alloc (by omega) _
 have hB2:Lib.IsBuilderF TB TU (w.heap.size+1) (w.heap.size+1) (Lib.byteCells (txtS [])) W2:=by rw [hW2]; exact hB1.alloc _
 rw [← hW2]
 have hF2:Holds F1 W2:=⟨fun x v hx=>by
  simp only [F1] at hx
  split at hx
  · rename_i e; subst e; cases hx
    exact⟨rfl,h20,by simp [World.cell?,xa,hx2]⟩
  · have h1 := hF.1 x v hx
    exact⟨h1.1,h1.2.1,(hlow2.cell (hcl x v hx)).trans h1.2.2⟩,fun g j v hg=>hF1o _ _ (hF.2 g j v hg)⟩
 have hrep:RepL F1 noLoc #[.pointer (some xa)] [.cp [.vec (words (digs N)) false]]:=⟨rfl,fun i hi=>by
  have hi:i=0:=by simp at hi; omega
  subst hi
  refine .cp xa [.vec (words (digs N)) false] (fun _=>s0) rfl (fun j hj=>?_) fun j hj=>?_
  · have hj : j = 0 := by simp at hj; omega
    subst hj
    simp [F1,xa]
  · have hj : j = 0 := by simp at hj; omega
    subst hj
    exact h30.mono hF1o fun _ _ h=>h⟩
 have hseq:=(Z2s N hN).2 F1 W2 #[.pointer (some xa)] Fence.wide 2 (Z1X 2) hF2 hrep
 let I:List (MemT N)→World→Prop:=fun pre W=>Lib.IsBuilderF TB TU (w.heap.size+1) (w.heap.size+1) (Lib.byteCells (txtS (pre.map (·.val)))) W∧Below w.heap.size w W∧W.heap[W1.heap.size]?=some (.cells #[s0] tS (0,0))∧W2.heap.size≤W.heap.size
 have stepK:∀ {V V':World} {l1:List UInt8},Lib.IsBuilderF TB TU (w.heap.size+1) (w.heap.size+1) (Lib.byteCells l1) V→V.heap[W1.heap.size]?=some (.cells #[s0] tS (0,0))→Below (w.heap.size+1) V V'→Lib.OthersKept TU (some (w.heap.size+1)) V V' →
  KeepsFrom W2.heap.size V V'∧KpF F1 V V'∧V'.heap[W1.heap.size]?=some (.cells #[s0] tS (0,0))∧Below w.heap.size V V':=by
  intro V V' l1 hbd hbx hbl hok
  have hbc:∃ cs T fz,V.heap[w.heap.size+1]?=some (.cells cs T fz):=by
   rcases hbd with⟨_,v,hb,_⟩|⟨_,v,hb,_⟩<;>exact⟨_,_,_,hb⟩
  obtain⟨cs,T,fz,hbc⟩:=hbc
  have hbx':V'.heap[W1.heap.size]?=some (.cells #[s0] tS (0,0)):=hok _ _ hbx (by simp;omega) fun c fz e=>htS (by cases e; rfl)
  refine⟨⟨hbl.size,fun k o _ ho hnc=>hok k o ho (fun e=>?_) fun c fz e=>?_⟩,⟨fun x v hx hv=>?_,hbl.os,hbl.tape,hbl.output,hbl.size⟩,hbx',hbl.mono (Nat.le_succ _)⟩
  · have e := Option.some.inj e
    subst e
    rw [hbc] at ho; cases ho; cases hnc
  · subst e; cases hnc
  · simp only [F1] at hx
    split at hx
    · rename_i e; subst e; cases hx
      simp [World.cell?,xa,hbx']
    · exact (hbl.cell (Nat.lt_succ_of_lt (hcl x v hx))).trans hv
 refine wpIn_rangeFunc_ownH (gf:=82) (lb := #[.pointer (some xa)]) rfl (by decide) rfl trivial (enters_of Tryz.func82 (by kernel_rfl) rfl) hseq (fun h k=>h.trans k) ?kb (Below.refl _ _) (fun _=>rfl) I (fun _ _ _=>False) ?hI (fun _ _ _ _ _ h _ _=>h) ⟨hB2,hlow2,hx2,Nat.le_refl _⟩ (fun x a' _=>a'={ tmps := #[.agg #[s0],.pointer (some ⟨w.heap.size,0,none⟩),.string ⟨#[]⟩,.pointer (some ⟨w.heap.size+1,0,none⟩),.int .i64 x.val,.nilIface,.agg #[s0],.func (.func 82) #[] #[.pointer (some xa)],.int .i64 x.val,undef,undef,undef,undef,undef,undef,undef,undef],defers := [] }) (fun _ _ _ _ _ _ h _ _=>h) ?assign ?body ?done ?stop
 case kb =>
  intro W l o o' hl ho hc _
  exact KpF.grown (grownBy_putObj' W l o') fun r hr=>by cases hr; exact⟨o,ho,hc⟩
 case hI =>
  rintro pre W W' row ⟨a1,a2,a3,a4⟩ hg hr
  refine⟨Zdv a1 hg fun r e=>(hr r e).2,a2.grown hg (by omega) (fun k e=>by have:=(hr k e).1;omega),?_,Nat.le_trans a4 hg.size⟩
  rw [hg.block _ (Array.getElem?_eq_some_iff.1 a3).1 fun e=>by have:=(hr _ e.symm).1; omega]
  exact a3
 case assign =>
  intro l pre x W K hi hK
  gi_wp2
  exact hK _ _ (KeepsFrom.refl _ _) (KpF.refl _ _) hi rfl
 case body =>
  rintro l pre x a' W hl ⟨r,hr⟩ ⟨a1,a2,a3,a4⟩ rfl hlen
  have hx64:x.val<100:=Nat.lt_of_lt_of_le (Z1r x.2) (by decide)
  have hlt:∀ y∈pre.map (·.val),y<100:=fun y hy=>by
   obtain⟨z,_,rfl⟩:=List.mem_map.1 hy
   exact Nat.lt_of_lt_of_le (Z1r z.2) (by decide)
  have hml:(mem N).length≤64:=ZO N
  have hln:=Zaz _ hlt
  rw [List.length_map] at hln
  have hdg:=Z6x hx64
  obtain⟨T0,hT0⟩:∃ T0,Hid (txtS (pre.map (·.val))=T0):=⟨_,Any.hidU rfl⟩
  rw [hT0.out] at a1 hln
  have fok:=Z1T (Z1X 0) l 1
  gi_wp2
  refine⟨trivial,(fok.calls _ _ _ _ _ (ZeM (w.heap.size+1) (w.heap.size+1) _ W a1)).mono ?_⟩
  rintro e V0 ⟨rfl,rfl⟩
  have fin:∀ {V1 V2:World},Lib.IsBuilderF TB TU (w.heap.size+1) (w.heap.size+1) (Lib.byteCells (T0++(if 1<T0.length then [32] else []))) V1→V1.heap[W1.heap.size]?=some (.cells #[s0] tS (0,0))→Below w.heap.size w V1→W2.heap.size≤V1.heap.size→KeepsFrom W2.heap.size V0 V1→KpF F1 V0 V1 →
   Lib.IsBuilderF TB TU (w.heap.size+1) (w.heap.size+1) (Lib.byteCells (T0++(if 1<T0.length then [32] else [])++Go.Lib.decDigits x.val)) V2→Below (w.heap.size+1) V1 V2→Lib.OthersKept TU (some (w.heap.size+1)) V1 V2→KeepsFrom W2.heap.size V0 V2∧KpF F1 V0 V2∧I (pre ++ [x]) V2:=by
   intro V1 V2 p1 p2 p3 p4 p5 p6 p7 p8 p9
   obtain⟨q1,q2,q3,q4⟩:=stepK p1 p2 p8 p9
   refine⟨p5.trans q1,p6.trans q2,?_,p3.trans q4,q3,Nat.le_trans p4 q4.size⟩
   rw [List.map_append,List.map_singleton,Zdt,← List.append_assoc,hT0.out]
   exact p7
  gi_wp2
  · have hb1 : 1 < T0.length := by omega
    rw [if_pos hb1] at fin
    refine⟨trivial,(fok.calls _ _ _ _ _ (Z7t (w.heap.size+1) (w.heap.size+1) _ 32 32 rfl V0 a1 (by omega) (by omega))).mono ?_⟩
    rintro e V1 ⟨rfl,c1,c2,c3⟩
    obtain⟨d1,d2,d3,d4⟩:=stepK a1 a3 c2 c3
    gi_wp2
    refine⟨trivial,(fok.calls _ _ _ _ _ (Any.strconv_Itoa_small lays171 x.val hx64 V1)).mono ?_⟩
    rintro e V2 ⟨rfl,rfl⟩
    gi_wp2
    refine⟨trivial,(fok.calls _ _ _ _ _ (ZaA (w.heap.size+1) (w.heap.size+1) _ _ V2 c1 (by
     show _+(Go.Lib.decDigits x.val).toArray.size≤_
     rw [List.length_append,List.size_toArray]; simp only [List.length_singleton];omega) (by have:=d4.size;omega))).mono ?_⟩
    rintro e V3 ⟨rfl,e1,e2,e3⟩
    gi_wp2
    exact fin c1 d3 (a2.trans d4) (Nat.le_trans a4 d4.size) d1 d2 e1 e2 e3
  · have hb1 : ¬ 1 < T0.length := by omega
    rw [if_neg hb1,List.append_nil] at fin
    refine⟨trivial,(fok.calls _ _ _ _ _ (Any.strconv_Itoa_small lays171 x.val hx64 V0)).mono ?_⟩
    rintro e V2 ⟨rfl,rfl⟩
    gi_wp2
    refine⟨trivial,(fok.calls _ _ _ _ _ (ZaA (w.heap.size+1) (w.heap.size+1) _ _ V2 a1 (by
     show _+(Go.Lib.decDigits x.val).toArray.size≤_
     rw [List.size_toArray];omega) (by omega))).mono ?_⟩
    rintro e V3 ⟨rfl,e1,e2,e3⟩
    gi_wp2
    exact fin a1 a3 a2 a4 (KeepsFrom.refl _ _) (KpF.refl _ _) e1 e2 e3
 case done =>
  rintro D xs W hD hS ⟨a1,a2,a3,a4⟩ hK
  gi_wp2
  have hlt:∀ y∈mem N,y<100:=fun y hy=>Nat.lt_of_lt_of_le (Z1r hy) (by decide)
  have hml:(mem N).length≤64:=ZO N
  have hln:=Zaz _ hlt
  rw [hS] at a1
  refine⟨trivial,(callsIn_wide.2 (Z7t (w.heap.size+1) (w.heap.size+1) (txtS (mem N)) 125 125 rfl W a1 (by omega) (by omega))).mono ?_⟩
  rintro e V1 ⟨rfl,c1,c2,c3⟩
  obtain⟨d1,d2,d3,d4⟩:=stepK a1 a3 c2 c3
  have hK1:=d1.same D _ hD hK rfl
  gi_wp2
  refine⟨trivial,(callsIn_wide.2 (ZeN (w.heap.size+1) (w.heap.size+1) _ V1 c1 (by have:=d4.size;omega))).mono ?_⟩
  rintro e V2 ⟨rfl,f2,f3⟩
  obtain⟨g1,g2,g3,g4⟩:=stepK c1 d3 f2 f3
  have hK2:=g1.same D _ hD hK1 rfl
  gi_wp2
  refine⟨by simp,.inl ⟨_,_,rfl,run_takeDeferred hK2,?_⟩⟩
  refine⟨_,results_tmp rfl _ _ _,rfl,((a2.trans d4).trans g4).grown (grownBy_putObj' V2 D _) (by have:=d4.size; have:=g4.size;omega) fun k e=>by cases e; omega⟩
 case stop =>
  rintro D c pre W _ _ h _
  exact h.elim
end Go.Proofs.YtojlnagiaibgkaaGreatDoor
namespace Go.Proofs.YtojlnagiaibgkaaGreatDoor
open Go.RowKit
attribute [local irreducible] aw opsK dK
theorem ZaB {f:FuncId} {args:List PV} {v:Value} (hb:HasBody Tryz.prog f) (h:∀ (F:Froz) (w:World) (vs:Array Value),Holds F w→RepL F noLoc vs args→Calls Tryz.prog f vs w fun e w'=>e=.returned v∧Below w.heap.size w w'):Spec Tryz.prog f args (· = .val v):=by
 refine⟨hb,fun F w vs hF hv=>(h F w vs hF hv).mono ?_⟩
 rintro en w' ⟨rfl,hbel⟩
 exact⟨v,.val v,F,rfl,rfl,.val _,hbel,Holds.kept hF hbel,fun _ _ h=>h,fun _ _=>rfl⟩
def numS (k:Nat):ByteArray:=⟨(Go.Lib.decDigits k).toArray⟩
theorem Z2P (k:Nat) (hk:k<100):Spec Tryz.prog 43 [.val (.int .i64 (k:Int))] (· = .val (.string (numS k))):=by
 refine ZaB ⟨_,Tryz.func43,by kernel_rfl,by kernel_rfl⟩ fun F w vs hF hv=>?_
 obtain rfl:vs = #[.int .i64 (k:Int)]:=by
  refine Array.ext hv.1 fun i h1 h2=>?_
  have hi:i=0:=by simp at h2; omega
  subst hi
  have:=(show Rep F noLoc (vs.getD 0 undef) (.val (.int .i64 (k:Int))) from hv.2 0 (Nat.zero_lt_succ _)).val_inv
  simpa [Array.getD_eq_getD_getElem?,h1] using this
 refine (Any.strconv_Itoa_small lays171 k hk w).mono ?_
 rintro e w' ⟨rfl,rfl⟩
 exact⟨rfl,Below.refl _ _⟩
def strC (x:ByteArray):List PV := [.val (.string x)]
theorem Zc (l:List ByteArray):pureLL (l.map strC):=Z34 (enc:=strC) (fun _=>⟨trivial,trivial⟩) l
def joinS (l:List ByteArray) (sep:ByteArray):ByteArray:=⟨(Go.Lib.join (l.map (·.data.toList)) sep.data.toList).toArray⟩
theorem Z2m (l:List ByteArray) (fl:Bool) (sep:ByteArray) (hl:l.length≤140737488355328) (hlen:(Go.Lib.join (l.map (·.data.toList)) sep.data.toList).length≤140737488355328):Spec Tryz.prog 22 [.vec (l.map strC) fl,.val (.string sep)] (· = .val (.string (joinS l sep))):=by
 refine ZaB ⟨_,Tryz.func22,by kernel_rfl,by kernel_rfl⟩ fun F w vs hF hv=>?_
 have hv1:Rep F noLoc (vs.getD 0 undef) (.vec (l.map strC) fl):=hv.2 0 (show 0<2 by decide)
 have hv2:vs.getD 1 undef=.string sep:=(show Rep F noLoc (vs.getD 1 undef) (.val (.string sep)) from hv.2 1 (show 1<2 by decide)).val_inv
 have hvs:vs = #[vs.getD 0 undef,vs.getD 1 undef]:=by
  refine Array.ext hv.1 fun i h1 h2=>?_
  have hs:vs.size=2:=hv.1
  have hi:i=0 ∨ i=1:=by omega
  rcases hi with rfl|rfl<;>simp [Array.getD_eq_getD_getElem?,h1]
 rw [hvs,hv2]
 rcases hv1.vec_inv with⟨h0,hq⟩|⟨x,cap,esz,cs,hq,hs,hcap,hfull,hmax,he,hF1,hR⟩
 · have h0 : l = [] := List.map_eq_nil_iff.1 h0
   subst h0
   rw [hq]
   refine (Any.strings_Join_none lays156 builderExtra156 none 0 sep w).mono ?_
   rintro e w' ⟨rfl,rfl⟩
   exact⟨rfl,Below.refl _ _⟩
 · rw [hq, List.length_map]
   by_cases hne:l = []
   · subst hne
     refine (Any.strings_Join_none lays156 builderExtra156 (some x) cap sep w).mono ?_
     rintro e w' ⟨rfl,rfl⟩
     exact⟨rfl,Below.refl _ _⟩
   · have hsp := hs (by simpa using hne)
     obtain⟨bk,o,sp⟩:=x
     dsimp only at hsp
     subst hsp
     rw [List.length_map] at hcap
     have hpos:0<l.length:=List.length_pos_iff.2 hne
     have hez:esz=1:=by
      have:=he 0 (by simpa using hpos)
      rw [← this]
      simp [List.getD_eq_getElem?_getD,hpos,strC]
     subst hez
     have hcell:∀ (j:Nat) y,l[j]?=some y→F ⟨bk,o+j,none⟩=some (.string y):=fun j y hj=>by
      have hjl:=(List.getElem?_eq_some_iff.1 hj).1
      have h1:=hF1 j 0 (by simpa using hjl) (by decide)
      have h2:=hR j 0 (by simpa using hjl) (by decide)
      have h3:((l.map strC).getD j []).getD 0 pvu=.val (.string y):=by simp [List.getD_eq_getElem?_getD,hj,strC]
      rw [h3] at h2
      have h4:=h2.val_inv
      rw [h4] at h1
      simpa using h1
     refine Any.strings_Join lays156 builderExtra156 bk o cap l sep w (fun j y hj=>(hF.1 _ _ (hcell j y hj)).2.2) ?_ hl hcap hlen
     obtain⟨y,hy⟩:∃ y,l[0]?=some y:=⟨_,List.getElem?_eq_getElem hpos⟩
     have:=(hF.1 _ _ (hcell 0 y hy)).2.2
     unfold World.cell? at this
     split at this
     · rename_i ho; exact (Array.getElem?_eq_some_iff.1 ho).1
     · cases this
def litS (c:Cu) (r:Nat):List ByteArray:=(if c.1.testBit r then [numS r] else [])++if c.2.testBit r then [⟨#[33]⟩++numS r] else []
def litsS (c:Cu) (rs:List Nat):List ByteArray:=rs.flatMap (litS c)
def textS (c:Cu):ByteArray:=if litsS c (mem (c.1 ||| c.2)) = [] then ⟨#[102,117,108,108]⟩ else joinS (litsS c (mem (c.1 ||| c.2))) ⟨#[32]⟩
theorem ZbM (c:Cu) (rs:List Nat) (r:Nat):litsS c (rs ++ [r])=litsS c rs++litS c r:=by unfold litsS; rw [List.flatMap_append]; simp
theorem ZeO (c:Cu) (r:Nat):(litS c r).length≤2:=by unfold litS; rw [List.length_append]; split<;>split<;>simp
theorem Z5L (c:Cu):∀ rs:List Nat,(litsS c rs).length≤2*rs.length
 | []=>by simp [litsS]
 | r :: rs => by
   have h1:=ZeO c r
   have h2:=Z5L c rs
   unfold litsS at h2 ⊢
   rw [List.flatMap_cons,List.length_append,List.length_cons]
   omega
theorem Z2Q {k:Nat} (hk:k<100):(numS k).data.toList.length≤2:=by
 show (Go.Lib.decDigits k).toArray.toList.length≤2
 by_cases h:k<10
 · rw [Go.Lib.decDigits_one h]; simp
 · rw [Go.Lib.decDigits_two h hk]; simp
theorem Zdx (x:ByteArray):((⟨#[33]⟩:ByteArray)++x).data.toList=33 :: x.data.toList:=by rw [ByteArray.data_append]; simp
theorem ZbN {c:Cu} {rs:List Nat} (h:∀ r∈rs,r<100):∀ x∈litsS c rs,x.data.toList.length≤3:=fun x hx=>by
 obtain⟨r,hr,hx⟩:=List.mem_flatMap.1 hx
 have hn:=Z2Q (h r hr)
 unfold litS at hx
 rcases List.mem_append.1 hx with hx|hx
 · split at hx
   · rw [List.mem_singleton] at hx; subst hx; omega
   · cases hx
 · split at hx
   · rw [List.mem_singleton] at hx; subst hx
     rw [Zdx,List.length_cons]; omega
   · cases hx
theorem Z9D {l:List (List UInt8)} {k:Nat} (h:∀ x∈l,x.length≤k):Go.Lib.lens l≤k*l.length:=by
 induction l with
 | nil=>simp [Go.Lib.lens]
 | cons x l ih =>
   have h1:=h x (List.mem_cons_self ..)
   have h2:=ih fun y hy=>h y (List.mem_cons_of_mem _ hy)
   have:Go.Lib.lens (x :: l)=x.length+Go.Lib.lens l:=by simp [Go.Lib.lens]
   rw [this,List.length_cons,Nat.mul_succ]; omega
theorem ZeP {l:List ByteArray} (h:∀ x∈l,x.data.toList.length≤3) (hl:l.length≤1000) (sep:ByteArray) (hs:sep.data.toList.length≤10):(Go.Lib.join (l.map (·.data.toList)) sep.data.toList).length≤140737488355328:=by
 cases l with
 | nil=>simp [Go.Lib.join_nil]
 | cons x l =>
   rw [List.map_cons,Go.Lib.join_length]
   have:=Z9D (k:=3) (l:=(x :: l).map (·.data.toList)) fun y hy=>by
    obtain⟨z,hz,rfl⟩:=List.mem_map.1 hy
    exact h z hz
   rw [List.map_cons] at this
   simp only [List.length_cons,List.length_map] at this hl ⊢
   have h2:sep.data.toList.length*l.length≤10*l.length:=Nat.mul_le_mul_right _ hs
   omega
set_option maxRecDepth 100000 in
set_option maxHeartbeats 4000000 in
theorem ZbO (c:Cu) (hc:Ok64 c):Spec Tryz.prog 17 [cuP c] (· = .val (.string (textS c))):=by
 have hor:=Z36 hc.1 hc.2
 refine Z2 ok17 (Nat.le_of_ble_eq_true rfl) fun C hC=>?_
 refine Zh ?_
 refine Za ?_
 refine Z6 rfl rfl rfl ?_
 (repeat'(first|refine Z4 5 ?_|refine Z0 5 ?_|refine st ?_|(apply B<;>intro hb<;>try cases hb)))<;>try refine At.mk ?_
 refine Zg (Z21 (id:=0) (i0:=0) (j0:=0) rfl (by decide) (by decide) rfl 1 (by decide) (by decide)) ?_
 (repeat'(first|refine Z4 9 ?_|refine Z0 9 ?_|refine st ?_|(apply B<;>intro hb<;>try cases hb)))<;>try refine At.mk ?_
 refine Z7 (Z31 c.1 c.2 hc.1 hc.2) rfl rfl rfl ⟨Z1 _,Z1 _,trivial⟩ rfl ?_
 have hM:textS c=if litsS c (mem (c.1 ||| c.2)) = [] then ⟨#[102,117,108,108]⟩ else joinS (litsS c (mem (c.1 ||| c.2))) ⟨#[32]⟩:=rfl
 rw [hM]
 generalize c.1 ||| c.2=M at hor ⊢
 refine Z7 (Z1Q M) rfl rfl rfl ⟨Z1 _,trivial⟩ rfl ?_
 (refine go ?_;repeat' (apply B<;>intro hb<;>try cases hb))
 refine Z2Z (X:=List Nat) hC (caps := [.cp [.vec (words (digs M)) false]]) [(1,.cp (cuC c)),(3,.ptr 0 0 0),(10,.fn 82 [.cp [.vec (words (digs M)) false]])]
  (fun z => [(0,⟨1,[[.own 1]]⟩),(1,⟨1,(litsS c z).map strC⟩)]) rfl ⟨⟨Zd _,trivial⟩,trivial⟩ (Z2s M hor) (fun _=>rfl)
  (fun ex pre z=>ex=.normal∧z=pre.map (·.val)) 2 (by decide) [] ⟨rfl,rfl⟩
  (Z3A (EnvQ.mem (ρ := fun i => i) (m := 2) (L := [(1, .cp (cuC c)), (3, .ptr 0 0 0), (10, .fn 82 [.cp [.vec (words (digs M)) false]])]) ⟨⟨_, rfl, .pure _ (Z23 c)⟩, ⟨_, rfl, .ptr (ρ := fun i => i) 0 0 0 (by decide)⟩, ⟨_, rfl, .pure _ ⟨⟨Zd _, trivial⟩, trivial⟩⟩, trivial⟩)
    (HeapQ.mem (ρ:=fun i=>i) (m:=2) (L := [(0,⟨1,[[.own 1]]⟩),(1,⟨1,(litsS c []).map strC⟩)]) ⟨⟨by decide,_,rfl,RenB.single ⟨.own (ρ:=fun i=>i) 1 (by decide),trivial⟩ rfl⟩,⟨by decide,_,rfl,.same _ trivial⟩,trivial⟩) hC (by decide))
  (fun z q hq=>by simp at hq; rcases hq with rfl|rfl<;>exact Nat.zero_lt_succ _) _ (fun x=>rfl) ?_ ?_ ?_
 · rintro C2 hC2 pre x z ⟨-, rfl⟩ hlen
   have hx:=Z1r x.2
   have hml:=ZO M
   have hsn:=ZbM c (pre.map (·.val)) x.val
   have hll:=Z5L c (pre.map (·.val))
   rw [List.length_map] at hll
   generalize litsS c (pre.map (·.val))=acc at hsn hll ⊢
   have hn:=Z2Q (show x.val<100 by omega)
   have hcat:∀ (e:Env) (h:Heap) (n:Nat) (q:Operand),ev e q=some (.val (.string (numS x.val)))→dEval (.bin .add .num (.const (.string ⟨#[33]⟩)) q) e h n=some (.val (.string (⟨#[33]⟩++numS x.val)),h):=fun e h n q hq=>by
    have hsz:(⟨#[33]⟩:ByteArray).size+(numS x.val).size≤9223372036854775807:=by
     have:(numS x.val).size=(numS x.val).data.toList.length:=by rw [Array.length_toList]; rfl
     rw [this]
     show 1+_≤_
     omega
    have h1:ev e (.const (.string ⟨#[33]⟩))=some (.val (.string ⟨#[33]⟩)):=rfl
    simp only [dEval,h1,hq,pbin,sbin,if_pos hsz,Option.map]
   unfold litS at hsn
   (repeat'(first|refine Z4 15 ?_|refine Z0 15 ?_|refine st ?_|(apply B<;>intro hb<;>try cases hb)))<;>try refine At.mk ?_
   refine Z7 (Z5E c.1 hc.1 x.val) rfl rfl rfl ⟨Z1 _,trivial,trivial⟩ rfl ?_
   cases h1:c.1.testBit x.val
   · rw [h1, if_neg (by decide), List.nil_append] at hsn
     (repeat'(first|refine Z4 24 ?_|refine Z0 24 ?_|refine st ?_|(apply B<;>intro hb<;>try cases hb)))<;>try refine At.mk ?_
     refine Z7 (Z5E c.2 hc.2 x.val) rfl rfl rfl ⟨Z1 _,trivial,trivial⟩ rfl ?_
     cases h2:c.2.testBit x.val
     · rw [h2, if_neg (by decide), List.append_nil] at hsn
       (refine go ?_;repeat' (apply B<;>intro hb<;>try cases hb))
       exact⟨.inl rfl,pre.map (·.val) ++ [x.val],fun i=>i,⟨rfl,by rw [List.map_append]; rfl⟩,fun i hi=>rfl,ZU,
        ⟨⟨_,rfl,.pure _ (Z23 c)⟩,⟨_,rfl,.ptr (ρ:=fun i=>i) 0 0 0 (by decide)⟩,⟨_,rfl,.pure _ ⟨⟨Zd _,trivial⟩,trivial⟩⟩,trivial⟩,
        ⟨⟨by decide,_,rfl,RenB.single ⟨.own (ρ:=fun i=>i) 1 (by decide),trivial⟩ rfl⟩,⟨by decide,_,rfl,by rw [hsn]; exact .same _ (Zc _)⟩,trivial⟩⟩
     · rw [h2, if_pos rfl] at hsn
       (repeat'(first|refine Z4 27 ?_|refine Z0 27 ?_|refine st ?_|(apply B<;>intro hb<;>try cases hb)))<;>try refine At.mk ?_
       refine Zq (Z2P x.val (by omega)) rfl rfl rfl ⟨trivial,trivial⟩ ?_
       refine Zp (hcat _ _ _ _ rfl) rfl rfl ?_
       (repeat'(first|refine Z4 30 ?_|refine Z0 30 ?_|refine st ?_|(apply B<;>intro hb<;>try cases hb)))<;>try refine At.mk ?_
       refine Zp (ZQ (k:=1) (m := [strC (⟨#[33]⟩++numS x.val)]) (fl:=true) rfl rfl rfl (fun q hq=>by rw [List.mem_singleton] at hq; subst hq; rfl) rfl (by
        show ((acc.map strC).length+1)*16≤_
        rw [List.length_map];omega)) rfl rfl ?_
       (refine go ?_;repeat' (apply B<;>intro hb<;>try cases hb))
       refine⟨.inl rfl,pre.map (·.val) ++ [x.val],mv 1 7,⟨rfl,by rw [List.map_append]; rfl⟩,Z4q (by decide),ZE rfl,
        ⟨⟨_,rfl,.pure _ (Z23 c)⟩,⟨_,rfl,.ptr (ρ:=mv 1 7) 0 0 0 (by decide)⟩,⟨_,rfl,.pure _ ⟨⟨Zd _,trivial⟩,trivial⟩⟩,trivial⟩,
        ⟨⟨by decide,_,rfl,RenB.single ⟨.own (ρ:=mv 1 7) 1 (by decide),trivial⟩ rfl⟩,⟨by decide,_,rfl,?_⟩,trivial⟩⟩
       show RenB _ _ ⟨1,acc.map strC ++ [strC (⟨#[33]⟩++numS x.val)]⟩ ⟨1,(litsS c (pre.map (·.val) ++ [x.val])).map strC⟩
       have hp:=Zc (acc ++ [⟨#[33]⟩++numS x.val])
       rw [hsn,List.map_append]
       rw [List.map_append] at hp
       exact .same _ hp
   · rw [h1, if_pos rfl] at hsn
     (repeat'(first|refine Z4 18 ?_|refine Z0 18 ?_|refine st ?_|(apply B<;>intro hb<;>try cases hb)))<;>try refine At.mk ?_
     refine Zq (Z2P x.val (by omega)) rfl rfl rfl ⟨trivial,trivial⟩ ?_
     (repeat'(first|refine Z4 20 ?_|refine Z0 20 ?_|refine st ?_|(apply B<;>intro hb<;>try cases hb)))<;>try refine At.mk ?_
     refine Zp (ZQ (k:=1) (m := [strC (numS x.val)]) (fl:=true) rfl rfl rfl (fun q hq=>by rw [List.mem_singleton] at hq; subst hq; rfl) rfl (by
      show ((acc.map strC).length+1)*16≤_
      rw [List.length_map];omega)) rfl rfl ?_
     (repeat'(first|refine Z4 24 ?_|refine Z0 24 ?_|refine st ?_|(apply B<;>intro hb<;>try cases hb)))<;>try refine At.mk ?_
     refine Z7 (Z5E c.2 hc.2 x.val) rfl rfl rfl ⟨Z1 _,trivial,trivial⟩ rfl ?_
     cases h2:c.2.testBit x.val
     · rw [h2, if_neg (by decide), List.append_nil] at hsn
       (refine go ?_;repeat' (apply B<;>intro hb<;>try cases hb))
       refine⟨.inl rfl,pre.map (·.val) ++ [x.val],mv 1 6,⟨rfl,by rw [List.map_append]; rfl⟩,Z4q (by decide),ZE rfl,
        ⟨⟨_,rfl,.pure _ (Z23 c)⟩,⟨_,rfl,.ptr (ρ:=mv 1 6) 0 0 0 (by decide)⟩,⟨_,rfl,.pure _ ⟨⟨Zd _,trivial⟩,trivial⟩⟩,trivial⟩,
        ⟨⟨by decide,_,rfl,RenB.single ⟨.own (ρ:=mv 1 6) 1 (by decide),trivial⟩ rfl⟩,⟨by decide,_,rfl,?_⟩,trivial⟩⟩
       show RenB _ _ ⟨1,acc.map strC ++ [strC (numS x.val)]⟩ ⟨1,(litsS c (pre.map (·.val) ++ [x.val])).map strC⟩
       have hp:=Zc (acc ++ [numS x.val])
       rw [hsn,List.map_append]
       rw [List.map_append] at hp
       exact .same _ hp
     · rw [h2, if_pos rfl] at hsn
       (repeat'(first|refine Z4 27 ?_|refine Z0 27 ?_|refine st ?_|(apply B<;>intro hb<;>try cases hb)))<;>try refine At.mk ?_
       refine Zq (Z2P x.val (by omega)) rfl rfl rfl ⟨trivial,trivial⟩ ?_
       refine Zp (hcat _ _ _ _ rfl) rfl rfl ?_
       (repeat'(first|refine Z4 30 ?_|refine Z0 30 ?_|refine st ?_|(apply B<;>intro hb<;>try cases hb)))<;>try refine At.mk ?_
       refine Zp (ZQ (k:=6) (m := [strC (⟨#[33]⟩++numS x.val)]) (fl:=true) rfl rfl rfl (fun q hq=>by rw [List.mem_singleton] at hq; subst hq; rfl) rfl (by
        show ((acc.map strC ++ [strC (numS x.val)]).length+1)*16≤_
        rw [List.length_append,List.length_map,List.length_singleton];omega)) rfl rfl ?_
       (refine go ?_;repeat' (apply B<;>intro hb<;>try cases hb))
       refine⟨.inl rfl,pre.map (·.val) ++ [x.val],mv 1 13,⟨rfl,by rw [List.map_append]; rfl⟩,Z4q (by decide),ZE rfl,
        ⟨⟨_,rfl,.pure _ (Z23 c)⟩,⟨_,rfl,.ptr (ρ:=mv 1 13) 0 0 0 (by decide)⟩,⟨_,rfl,.pure _ ⟨⟨Zd _,trivial⟩,trivial⟩⟩,trivial⟩,
        ⟨⟨by decide,_,rfl,RenB.single ⟨.own (ρ:=mv 1 13) 1 (by decide),trivial⟩ rfl⟩,⟨by decide,_,rfl,?_⟩,trivial⟩⟩
       show RenB _ _ ⟨1,acc.map strC ++ [strC (numS x.val)] ++ [strC (⟨#[33]⟩++numS x.val)]⟩ ⟨1,(litsS c (pre.map (·.val) ++ [x.val])).map strC⟩
       have hp:=Zc (acc++([numS x.val] ++ [⟨#[33]⟩++numS x.val]))
       rw [hsn,List.map_append,List.map_append,← List.append_assoc]
       rw [List.map_append,List.map_append,← List.append_assoc] at hp
       exact .same _ hp
 · rintro xs z hxs ⟨-, rfl⟩
   rw [hxs]
   have hsz:=ZbN (c:=c) (rs:=mem M) fun r hr=>by have:=Z1r hr; omega
   have hll:=Z5L c (mem M)
   have hml:=ZO M
   generalize litsS c (mem M)=l at hsz hll ⊢
   (repeat'(first|refine Z4 33 ?_|refine Z0 33 ?_|refine st ?_|(apply B<;>intro hb<;>try cases hb)))<;>try refine At.mk ?_
   cases l with
   | nil =>
     refine Z5 (Zf (v:=true) rfl rfl) rfl rfl ?_
     (refine go ?_;repeat' (apply B<;>intro hb<;>try cases hb))
     exact Z3 rfl trivial rfl
   | cons y l =>
     refine Z5 (Zf (v:=false) rfl (by simp;omega)) rfl rfl ?_
     repeat' (first|refine Z4 34 ?_|(first|refine st ?_|(apply B<;>intro hb<;>try cases hb)))
     refine At.mk ?_
     refine Zg (Z1o (ob:=0) (id:=1) (i0:=0) (j0:=0) rfl rfl (by decide) (Zc _) (Nat.le_of_ble_eq_true rfl) (Nat.le_of_ble_eq_true rfl) rfl) ?_
     (repeat'(first|refine Z4 35 ?_|refine Z0 35 ?_|refine st ?_|(apply B<;>intro hb<;>try cases hb)))<;>try refine At.mk ?_
     refine Z7 (Z2m (y :: l) false ⟨#[32]⟩ (by omega) (ZeP hsz (by omega) _ (by decide))) rfl rfl rfl ⟨Zc _,trivial,trivial⟩ rfl ?_
     (refine go ?_;repeat' (apply B<;>intro hb<;>try cases hb))
     exact Z3 rfl trivial (by rw [if_neg (by simp)])
 · rintro ex pre z - ⟨rfl,_⟩ (h|⟨id,h⟩)<;>cases h
end Go.Proofs.YtojlnagiaibgkaaGreatDoor
namespace Go.Proofs.YtojlnagiaibgkaaGreatDoor
open Go.RowKit
section
variable {P:Program} {C:Ctx} {Fr:Nat→Prop} {e:Env} {h:Heap} {F:Froz} {φ:Locs} {a:Act} {w:World}
theorem MSpec.frame {f:FuncId} {b:Bx} {rest:List PV} {mk:Nat→PV} {R:Bx→Prop} (hs:MSpec P f b rest mk R) (hmk:Mk mk) (hpb:pureLL b.elems) (hpr:pureL rest) {k n:Nat} (hb:h k=some b) :
 ISpec P f n (.own k :: rest) h fun n' r h'=>∃ b',n'=n+1∧r=mk n∧h'=(h.del k).upd n b'∧pureLL b'.elems∧R b':=by
 refine⟨hs.1,fun C e F φ a w vs s hv=>(hs.run hmk hpb hpr (Nat.le_refl n) hb s hv).mono ?_⟩
 rintro en w' ⟨v,b',F',φ',rfl,⟨h1,h2⟩,hr,s'⟩
 exact⟨v,mk n,n+1,(h.del k).upd n b',F',φ',rfl,⟨b',rfl,rfl,rfl,h1,h2⟩,hr,{ s' with free:=fun i hi=>s'.free i ⟨by omega,by omega⟩ }⟩
theorem Z9E {f nt:Nat} {ac:ACode} {rs:List ARes} (hf:FnOk P f nt ac rs) {b:Bx} {rest:List PV} {mk:Nat→PV} {R:Bx→Prop} (hn:rest.length+1≤nt) (hk:∀ C:Ctx,C.dom 1→aw P C ac (retI rs fun n' r h'=>∃ id b',r=mk id∧h' id=some b'∧pureLL b'.elems∧R b') 1 (argEnv (.own 0 :: rest)) (heapL [(0,b)])):MSpec P f b rest mk R :=
 ZX hf hn hk
theorem ZfI {f:Operand} {args:List Operand} {g:FuncId} {caps as0 rest:List PV} {b:Bx} {k:Nat} {mk:Nat→PV} {R:Bx→Prop} {d:Option Nat} {os:List AOper} {n:Nat} {K:Nat→Env→Heap→Prop} (hs:MSpec P g b rest mk R) (hmk:Mk mk) (hf:ev e f=some (.fn g caps)) (ha:evs e args=some as0) (hr:as0++caps=.own k :: rest) (hb:h k=some b) (hpb:pureLL b.elems) (hpr:pureL rest)
 (hk:∀ b',pureLL b'.elems→R b'→opsK P os (n+1) (updO e d (mk n)) ((h.del k).upd n b') K):opsK P (⟨d,.call f args,none⟩ :: os) n e h K:=by
 refine Zx hf ha (R:=fun n' r h'=>∃ b',n'=n+1∧r=mk n∧h'=(h.del k).upd n b'∧pureLL b'.elems∧R b') (by rw [hr]; exact hs.frame hmk hpb hpr hb) ?_
 rintro n' r h' ⟨b',rfl,rfl,rfl,h1,h2⟩
 exact hk b' h1 h2
end
end Go.Proofs.YtojlnagiaibgkaaGreatDoor
namespace Go.Proofs.YtojlnagiaibgkaaGreatDoor
open Go.RowKit
attribute [local irreducible] aw opsK dK
structure NamesW (tp:PV) (nm:Nat→ByteArray):Prop where
 one:tp.flat=true
 cell:tp.cells = [tp]
 pure:tp.pure
 len:∀ r,r<64→(nm r).data.toList.length≤100
 name:∀ r:Nat,r<64→∃ s b,Spec Tryz.prog 51 [tp,.val (.int .i64 (r:Int))] (· = .tup [.val (.string s),.val (.bool b)])∧nm r=if b then s else numS r
def partB (word:ByteArray) (N:Nat) (nm:Nat→ByteArray):ByteArray:=word++joinS ((mem N).map nm) ⟨#[32,97,110,100,32]⟩
theorem Z3X {l:List ByteArray} (h:∀ x∈l,x.data.toList.length≤100) (hl:l.length≤64) (sep:ByteArray) (hs:sep.data.toList.length≤10):(Go.Lib.join (l.map (·.data.toList)) sep.data.toList).length≤100000:=by
 cases l with
 | nil=>simp [Go.Lib.join_nil]
 | cons x l =>
   rw [List.map_cons,Go.Lib.join_length]
   have:=Z9D (k:=100) (l:=(x :: l).map (·.data.toList)) fun y hy=>by
    obtain⟨z,hz,rfl⟩:=List.mem_map.1 hy
    exact h z hz
   rw [List.map_cons] at this
   simp only [List.length_cons,List.length_map] at this hl ⊢
   have h2:sep.data.toList.length*l.length≤10*l.length:=Nat.mul_le_mul_right _ hs
   omega
theorem bsize (x:ByteArray):x.size=x.data.toList.length:=by rw [Array.length_toList]; rfl
theorem Z1A {e:Env} {h:Heap} {n:Nat} {p q:Operand} {x y:ByteArray} (hp:ev e p=some (.val (.string x))) (hq:ev e q=some (.val (.string y))) (hx:x.size≤1000000) (hy:y.size≤1000000):dEval (.bin .add .num p q) e h n=some (.val (.string (x++y)),h):=by
 have hsz:x.size+y.size≤9223372036854775807:=by omega
 simp only [dEval,hp,hq,pbin,sbin,if_pos hsz,Option.map]
set_option maxHeartbeats 8000000 in
theorem Z6y {tp:PV} {nm:Nat→ByteArray} (hN:NamesW tp nm) (word:ByteArray) (hw:word.size≤100) (N:Nat) (h64:N<18446744073709551616) (hne:N≠0):NSpec Tryz.prog 21 [.vec [] true,.val (.string word),setN N,tp] .own ⟨1,[partB word N nm].map strC⟩:=by
 have htp:pureL [tp]:=⟨hN.pure,trivial⟩
 have hfl:=hN.one
 have hce:=hN.cell
 refine Z1V ok21 (Nat.le_of_ble_eq_true rfl) fun C hC=>?_
 refine Zh ?_
 refine Za ?_
 refine Z6 rfl rfl rfl ?_
 refine Z6 (show fEval (.box (.tmp 3)) _ _ _=some (.cp [tp],_) by (show (match some tp with|some p=>if p.flat&&decide (0<p.cells.length) then some (PV.cp p.cells,_) else none|none=>none)=_; simp only [hfl,hce]; rfl)) rfl rfl ?_
 (refine go ?_;repeat' (apply B<;>intro hb<;>try cases hb))
 refine Z7 (Z2i N h64) rfl rfl rfl ⟨Z1 N,trivial⟩ rfl ?_
 rw [decide_eq_false hne]
 (repeat'(first|refine Z4 17 ?_|refine Z0 17 ?_|refine st ?_|(apply B<;>intro hb<;>try cases hb)))<;>try refine At.mk ?_
 refine Zg (Z21 (id:=0) (i0:=0) (j0:=0) rfl (by decide) (by decide) rfl 1 (by decide) (by decide)) ?_
 refine Z7 (Z1Q N) rfl rfl rfl ⟨Z1 _,trivial⟩ rfl ?_
 (refine go ?_;repeat' (apply B<;>intro hb<;>try cases hb))
 refine Z2Z (X:=List Nat) hC (caps := [.cp [.vec (words (digs N)) false]]) [(0,.vec [] true),(1,.val (.string word)),(7,.cp [tp]),(9,.ptr 0 0 0),(17,.fn 82 [.cp [.vec (words (digs N)) false]])]
  (fun z => [(0,⟨1,[[.own 1]]⟩),(1,⟨1,((z.map nm).map strC)⟩)]) rfl ⟨⟨Zd _,trivial⟩,trivial⟩ (Z2s N h64) (fun _=>rfl)
  (fun ex pre z=>ex=.normal∧z=pre.map (·.val)) 2 (by decide) [] ⟨rfl,rfl⟩
  (Z3A (EnvQ.mem (ρ := fun i => i) (m := 2) (L := [(0, .vec [] true), (1, .val (.string word)), (7, .cp [tp]), (9, .ptr 0 0 0), (17, .fn 82 [.cp [.vec (words (digs N)) false]])]) ⟨⟨_, rfl, .pure _ trivial⟩, ⟨_, rfl, .pure _ trivial⟩, ⟨_, rfl, .pure _ htp⟩, ⟨_, rfl, .ptr (ρ := fun i => i) 0 0 0 (by decide)⟩, ⟨_, rfl, .pure _ ⟨⟨Zd _, trivial⟩, trivial⟩⟩, trivial⟩)
    (HeapQ.mem (ρ:=fun i=>i) (m:=2) (L := [(0,⟨1,[[.own 1]]⟩),(1,⟨1,((([]:List Nat).map nm).map strC)⟩)]) ⟨⟨by decide,_,rfl,RenB.single ⟨.own (ρ:=fun i=>i) 1 (by decide),trivial⟩ rfl⟩,⟨by decide,_,rfl,.same _ trivial⟩,trivial⟩) hC (by decide))
  (fun z q hq=>by simp at hq; rcases hq with rfl|rfl<;>exact Nat.zero_lt_succ _) _ (fun x=>rfl) ?_ ?_ ?_
 · rintro C2 hC2 pre x z ⟨-, rfl⟩ hlen
   have hx:=Z1r x.2
   have hml:=ZO N
   obtain⟨s,b,hs1,hs2⟩:=hN.name x.val hx
   have hsn:(pre.map (·.val) ++ [x.val]).map nm=(pre.map (·.val)).map nm ++ [nm x.val]:=by rw [List.map_append]; rfl
   have hll:((pre.map (·.val)).map nm).length=pre.length:=by rw [List.length_map,List.length_map]
   generalize (pre.map (·.val)).map nm=acc at hsn hll ⊢
   rw [hs2] at hsn
   refine Z4F ?_
   (repeat'(first|refine Z4 20 ?_|refine Z0 20 ?_|refine st ?_|(apply B<;>intro hb<;>try cases hb)))<;>try refine At.mk ?_
   refine Z5 rfl rfl rfl ?_
   (refine go ?_;repeat' (apply B<;>intro hb<;>try cases hb))
   refine Z7 hs1 rfl rfl rfl ⟨hN.pure,trivial,trivial⟩ rfl ?_
   cases b
   · rw [if_neg (by decide)] at hsn
     (refine go ?_;repeat' (apply B<;>intro hb<;>try cases hb))
     refine Z7 (Z2P x.val (by omega)) rfl rfl rfl ⟨trivial,trivial⟩ rfl ?_
     (repeat'(first|refine Z4 32 ?_|refine Z0 32 ?_|refine st ?_|(apply B<;>intro hb<;>try cases hb)))<;>try refine At.mk ?_
     refine ZL (ZQ (k:=1) (m := [strC (numS x.val)]) (fl:=true) (b:=⟨1,acc.map strC⟩) rfl rfl rfl (fun q hq=>by rw [List.mem_singleton] at hq; subst hq; rfl) rfl (by
      show ((acc.map strC).length+1)*16≤_
      rw [List.length_map];omega)) rfl rfl ?_
     (refine go ?_;repeat' (apply B<;>intro hb<;>try cases hb))
     exact⟨.inl rfl,pre.map (·.val) ++ [x.val],mv 1 2,⟨rfl,by rw [List.map_append]; rfl⟩,Z4q (by decide),ZE rfl,⟨⟨_,rfl,.pure _ trivial⟩,⟨_,rfl,.pure _ trivial⟩,⟨_,rfl,.pure _ htp⟩,⟨_,rfl,.ptr (ρ:=mv 1 2) 0 0 0 (by decide)⟩,⟨_,rfl,.pure _ ⟨⟨Zd _,trivial⟩,trivial⟩⟩,trivial⟩,⟨⟨by decide,_,rfl,RenB.single ⟨.own (ρ:=mv 1 2) 1 (by decide),trivial⟩ rfl⟩,⟨by decide,_,rfl,by rw [hsn,List.map_append]; exact .same ⟨1,acc.map strC ++ [numS x.val].map strC⟩ (by rw [← List.map_append]; exact Zc _)⟩,trivial⟩⟩
   · rw [if_pos rfl] at hsn
     (repeat'(first|refine Z4 32 ?_|refine Z0 32 ?_|refine st ?_|(apply B<;>intro hb<;>try cases hb)))<;>try refine At.mk ?_
     refine ZL (ZQ (k:=1) (m := [strC s]) (fl:=true) (b:=⟨1,acc.map strC⟩) rfl rfl rfl (fun q hq=>by rw [List.mem_singleton] at hq; subst hq; rfl) rfl (by
      show ((acc.map strC).length+1)*16≤_
      rw [List.length_map];omega)) rfl rfl ?_
     (refine go ?_;repeat' (apply B<;>intro hb<;>try cases hb))
     exact⟨.inl rfl,pre.map (·.val) ++ [x.val],mv 1 2,⟨rfl,by rw [List.map_append]; rfl⟩,Z4q (by decide),ZE rfl,⟨⟨_,rfl,.pure _ trivial⟩,⟨_,rfl,.pure _ trivial⟩,⟨_,rfl,.pure _ htp⟩,⟨_,rfl,.ptr (ρ:=mv 1 2) 0 0 0 (by decide)⟩,⟨_,rfl,.pure _ ⟨⟨Zd _,trivial⟩,trivial⟩⟩,trivial⟩,⟨⟨by decide,_,rfl,RenB.single ⟨.own (ρ:=mv 1 2) 1 (by decide),trivial⟩ rfl⟩,⟨by decide,_,rfl,by rw [hsn,List.map_append]; exact .same ⟨1,acc.map strC ++ [s].map strC⟩ (by rw [← List.map_append]; exact Zc _)⟩,trivial⟩⟩
 · rintro xs z hxs ⟨-, rfl⟩
   rw [hxs]
   have hml:=ZO N
   have hsz:∀ y∈(mem N).map nm,y.data.toList.length≤100:=fun y hy=>by
    obtain⟨r,hr,rfl⟩:=List.mem_map.1 hy
    exact hN.len r (Z1r hr)
   have hlen:((mem N).map nm).length≤64:=by rw [List.length_map]; exact hml
   have hjl:=Z3X hsz hlen ⟨#[32,97,110,100,32]⟩ (by decide)
   unfold partB
   generalize (mem N).map nm=ns at hsz hlen hjl ⊢
   (repeat'(first|refine Z4 35 ?_|refine Z0 35 ?_|refine st ?_|(apply B<;>intro hb<;>try cases hb)))<;>try refine At.mk ?_
   refine Zg (Z1o (ob:=0) (id:=1) (i0:=0) (j0:=0) rfl rfl (by decide) (Zc ns) (Nat.le_of_ble_eq_true rfl) (Nat.le_of_ble_eq_true rfl) rfl) ?_
   (repeat'(first|refine Z4 36 ?_|refine Z0 36 ?_|refine st ?_|(apply B<;>intro hb<;>try cases hb)))<;>try refine At.mk ?_
   refine Z7 (Z2m ns false ⟨#[32,97,110,100,32]⟩ (by omega) (by omega)) rfl rfl rfl ⟨Zc _,trivial,trivial⟩ rfl ?_
   have hJ:(joinS ns ⟨#[32,97,110,100,32]⟩).size≤1000000:=by
    rw [bsize]
    exact Nat.le_trans hjl (by decide)
   generalize joinS ns ⟨#[32,97,110,100,32]⟩=J at hJ ⊢
   refine Z5 (Z1A rfl rfl (by omega) hJ) rfl rfl ?_
   (repeat'(first|refine Z4 39 ?_|refine Z0 39 ?_|refine st ?_|(apply B<;>intro hb<;>try cases hb)))<;>try refine At.mk ?_
   refine Zg (ZH (k:=33) rfl 1 (by decide)) ?_
   (refine go ?_;repeat' (apply B<;>intro hb<;>try cases hb))
   exact⟨_,_,rfl,.inl rfl,_,rfl,rfl⟩
 · rintro ex pre z - ⟨rfl,_⟩ (h|⟨id,h⟩)<;>cases h
set_option maxHeartbeats 8000000 in
theorem ZbP {tp:PV} {nm:Nat→ByteArray} (hN:NamesW tp nm) (l:List ByteArray) (hl:l.length≤1000) (word:ByteArray) (hw:word.size≤100) (N:Nat) (h64:N<18446744073709551616) (hne:N≠0):MSpec Tryz.prog 21 ⟨1,l.map strC⟩ [.val (.string word),setN N,tp] .own (fun b'=>b'=⟨1,(l ++ [partB word N nm]).map strC⟩):=by
 have htp:pureL [tp]:=⟨hN.pure,trivial⟩
 have hfl:=hN.one
 have hce:=hN.cell
 refine Z9E ok21 (Nat.le_of_ble_eq_true rfl) fun C hC=>?_
 refine Zh ?_
 refine Za ?_
 refine Z6 rfl rfl rfl ?_
 refine Z6 (show fEval (.box (.tmp 3)) _ _ _=some (.cp [tp],_) by (show (match some tp with|some p=>if p.flat&&decide (0<p.cells.length) then some (PV.cp p.cells,_) else none|none=>none)=_; simp only [hfl,hce]; rfl)) rfl rfl ?_
 (refine go ?_;repeat' (apply B<;>intro hb<;>try cases hb))
 refine Z7 (Z2i N h64) rfl rfl rfl ⟨Z1 N,trivial⟩ rfl ?_
 rw [decide_eq_false hne]
 (repeat'(first|refine Z4 17 ?_|refine Z0 17 ?_|refine st ?_|(apply B<;>intro hb<;>try cases hb)))<;>try refine At.mk ?_
 refine Zg (Z21 (id:=1) (i0:=0) (j0:=0) rfl (by decide) (by decide) rfl 1 (by decide) (by decide)) ?_
 refine Z7 (Z1Q N) rfl rfl rfl ⟨Z1 _,trivial⟩ rfl ?_
 (refine go ?_;repeat' (apply B<;>intro hb<;>try cases hb))
 refine Z2Z (X:=List Nat) hC (caps := [.cp [.vec (words (digs N)) false]]) [(0,.own 0),(1,.val (.string word)),(7,.cp [tp]),(9,.ptr 1 0 0),(17,.fn 82 [.cp [.vec (words (digs N)) false]])]
  (fun z => [(0,⟨1,l.map strC⟩),(1,⟨1,[[.own 2]]⟩),(2,⟨1,((z.map nm).map strC)⟩)]) rfl ⟨⟨Zd _,trivial⟩,trivial⟩ (Z2s N h64) (fun _=>rfl)
  (fun ex pre z=>ex=.normal∧z=pre.map (·.val)) 3 (by decide) [] ⟨rfl,rfl⟩
  (Z3A (EnvQ.mem (ρ := fun i => i) (m := 3) (L := [(0, .own 0), (1, .val (.string word)), (7, .cp [tp]), (9, .ptr 1 0 0), (17, .fn 82 [.cp [.vec (words (digs N)) false]])]) ⟨⟨_, rfl, .own (ρ := fun i => i) 0 (by decide)⟩, ⟨_, rfl, .pure _ trivial⟩, ⟨_, rfl, .pure _ htp⟩, ⟨_, rfl, .ptr (ρ := fun i => i) 1 0 0 (by decide)⟩, ⟨_, rfl, .pure _ ⟨⟨Zd _, trivial⟩, trivial⟩⟩, trivial⟩)
    (HeapQ.mem (ρ:=fun i=>i) (m:=3) (L := [(0,⟨1,l.map strC⟩),(1,⟨1,[[.own 2]]⟩),(2,⟨1,((([]:List Nat).map nm).map strC)⟩)]) ⟨⟨by decide,_,rfl,.same _ (Zc l)⟩,⟨by decide,_,rfl,RenB.single ⟨.own (ρ:=fun i=>i) 2 (by decide),trivial⟩ rfl⟩,⟨by decide,_,rfl,.same _ trivial⟩,trivial⟩) hC (by decide))
  (fun z q hq=>by simp at hq; rcases hq with rfl|rfl|rfl<;>exact Nat.zero_lt_succ _) _ (fun x=>rfl) ?_ ?_ ?_
 · rintro C2 hC2 pre x z ⟨-, rfl⟩ hlen
   have hx:=Z1r x.2
   have hml:=ZO N
   obtain⟨s,b,hs1,hs2⟩:=hN.name x.val hx
   have hsn:(pre.map (·.val) ++ [x.val]).map nm=(pre.map (·.val)).map nm ++ [nm x.val]:=by rw [List.map_append]; rfl
   have hll:((pre.map (·.val)).map nm).length=pre.length:=by rw [List.length_map,List.length_map]
   generalize (pre.map (·.val)).map nm=acc at hsn hll ⊢
   rw [hs2] at hsn
   refine Z4F ?_
   (repeat'(first|refine Z4 20 ?_|refine Z0 20 ?_|refine st ?_|(apply B<;>intro hb<;>try cases hb)))<;>try refine At.mk ?_
   refine Z5 rfl rfl rfl ?_
   (refine go ?_;repeat' (apply B<;>intro hb<;>try cases hb))
   refine Z7 hs1 rfl rfl rfl ⟨hN.pure,trivial,trivial⟩ rfl ?_
   cases b
   · rw [if_neg (by decide)] at hsn
     (refine go ?_;repeat' (apply B<;>intro hb<;>try cases hb))
     refine Z7 (Z2P x.val (by omega)) rfl rfl rfl ⟨trivial,trivial⟩ rfl ?_
     (repeat'(first|refine Z4 32 ?_|refine Z0 32 ?_|refine st ?_|(apply B<;>intro hb<;>try cases hb)))<;>try refine At.mk ?_
     refine ZL (ZQ (k:=2) (m := [strC (numS x.val)]) (fl:=true) (b:=⟨1,acc.map strC⟩) rfl rfl rfl (fun q hq=>by rw [List.mem_singleton] at hq; subst hq; rfl) rfl (by
      show ((acc.map strC).length+1)*16≤_
      rw [List.length_map];omega)) rfl rfl ?_
     (refine go ?_;repeat' (apply B<;>intro hb<;>try cases hb))
     exact⟨.inl rfl,pre.map (·.val) ++ [x.val],mv 2 3,⟨rfl,by rw [List.map_append]; rfl⟩,Z4q (by decide),ZE rfl,⟨⟨_,rfl,.own (ρ:=mv 2 3) 0 (by decide)⟩,⟨_,rfl,.pure _ trivial⟩,⟨_,rfl,.pure _ htp⟩,⟨_,rfl,.ptr (ρ:=mv 2 3) 1 0 0 (by decide)⟩,⟨_,rfl,.pure _ ⟨⟨Zd _,trivial⟩,trivial⟩⟩,trivial⟩,⟨⟨by decide,_,rfl,.same _ (Zc l)⟩,⟨by decide,_,rfl,RenB.single ⟨.own (ρ:=mv 2 3) 2 (by decide),trivial⟩ rfl⟩,⟨by decide,_,rfl,by rw [hsn,List.map_append]; exact .same ⟨1,acc.map strC ++ [numS x.val].map strC⟩ (by rw [← List.map_append]; exact Zc _)⟩,trivial⟩⟩
   · rw [if_pos rfl] at hsn
     (repeat'(first|refine Z4 32 ?_|refine Z0 32 ?_|refine st ?_|(apply B<;>intro hb<;>try cases hb)))<;>try refine At.mk ?_
     refine ZL (ZQ (k:=2) (m := [strC s]) (fl:=true) (b:=⟨1,acc.map strC⟩) rfl rfl rfl (fun q hq=>by rw [List.mem_singleton] at hq; subst hq; rfl) rfl (by
      show ((acc.map strC).length+1)*16≤_
      rw [List.length_map];omega)) rfl rfl ?_
     (refine go ?_;repeat' (apply B<;>intro hb<;>try cases hb))
     exact⟨.inl rfl,pre.map (·.val) ++ [x.val],mv 2 3,⟨rfl,by rw [List.map_append]; rfl⟩,Z4q (by decide),ZE rfl,⟨⟨_,rfl,.own (ρ:=mv 2 3) 0 (by decide)⟩,⟨_,rfl,.pure _ trivial⟩,⟨_,rfl,.pure _ htp⟩,⟨_,rfl,.ptr (ρ:=mv 2 3) 1 0 0 (by decide)⟩,⟨_,rfl,.pure _ ⟨⟨Zd _,trivial⟩,trivial⟩⟩,trivial⟩,⟨⟨by decide,_,rfl,.same _ (Zc l)⟩,⟨by decide,_,rfl,RenB.single ⟨.own (ρ:=mv 2 3) 2 (by decide),trivial⟩ rfl⟩,⟨by decide,_,rfl,by rw [hsn,List.map_append]; exact .same ⟨1,acc.map strC ++ [s].map strC⟩ (by rw [← List.map_append]; exact Zc _)⟩,trivial⟩⟩
 · rintro xs z hxs ⟨-, rfl⟩
   rw [hxs]
   have hml:=ZO N
   have hsz:∀ y∈(mem N).map nm,y.data.toList.length≤100:=fun y hy=>by
    obtain⟨r,hr,rfl⟩:=List.mem_map.1 hy
    exact hN.len r (Z1r hr)
   have hlen:((mem N).map nm).length≤64:=by rw [List.length_map]; exact hml
   have hjl:=Z3X hsz hlen ⟨#[32,97,110,100,32]⟩ (by decide)
   unfold partB
   generalize (mem N).map nm=ns at hsz hlen hjl ⊢
   (repeat'(first|refine Z4 35 ?_|refine Z0 35 ?_|refine st ?_|(apply B<;>intro hb<;>try cases hb)))<;>try refine At.mk ?_
   refine Zg (Z1o (ob:=1) (id:=2) (i0:=0) (j0:=0) rfl rfl (by decide) (Zc ns) (Nat.le_of_ble_eq_true rfl) (Nat.le_of_ble_eq_true rfl) rfl) ?_
   (repeat'(first|refine Z4 36 ?_|refine Z0 36 ?_|refine st ?_|(apply B<;>intro hb<;>try cases hb)))<;>try refine At.mk ?_
   refine Z7 (Z2m ns false ⟨#[32,97,110,100,32]⟩ (by omega) (by omega)) rfl rfl rfl ⟨Zc _,trivial,trivial⟩ rfl ?_
   have hJ:(joinS ns ⟨#[32,97,110,100,32]⟩).size≤1000000:=by
    rw [bsize]
    exact Nat.le_trans hjl (by decide)
   generalize joinS ns ⟨#[32,97,110,100,32]⟩=J at hJ ⊢
   refine Z5 (Z1A rfl rfl (by omega) hJ) rfl rfl ?_
   (repeat'(first|refine Z4 39 ?_|refine Z0 39 ?_|refine st ?_|(apply B<;>intro hb<;>try cases hb)))<;>try refine At.mk ?_
   refine ZL (ZQ (k:=0) (m := [strC (word++J)]) (fl:=true) (b:=⟨1,l.map strC⟩) rfl rfl rfl (fun q hq=>by rw [List.mem_singleton] at hq; subst hq; rfl) rfl (by
    show ((l.map strC).length+1)*16≤_
    rw [List.length_map];omega)) rfl rfl ?_
   (refine go ?_;repeat' (apply B<;>intro hb<;>try cases hb))
   exact⟨_,_,rfl,.inl rfl,_,⟨1,(l ++ [word++J]).map strC⟩,rfl,by rw [List.map_append]; rfl,Zc _,rfl⟩
 · rintro ex pre z - ⟨rfl,_⟩ (h|⟨id,h⟩)<;>cases h
theorem ZaC {r:Nat} (h:r<64):(numS r).data.toList.length≤100:=by have:=Z2Q (k:=r) (by omega); omega
theorem namesNil:NamesW (.val (.pointer none)) numS where
 one:=rfl
 cell:=rfl
 pure:=trivial
 len:=fun r h=>ZaC h
 name:=fun r h=>by
  refine⟨⟨#[]⟩,false,?_,rfl⟩
  have hlen:Spec Tryz.prog 89 [.val (.pointer none)] (· = .val (.int .i64 0)):=by
   refine Z2 ok89 (Nat.le_of_ble_eq_true rfl) fun C hC=>?_
   (refine go ?_;repeat' (apply B<;>intro hb<;>try cases hb))
   exact Z3 rfl trivial rfl
  refine Z2 ok51 (Nat.le_of_ble_eq_true rfl) fun C hC=>?_
  (repeat'(first|refine Z4 7 ?_|refine Z0 7 ?_|refine st ?_|(apply B<;>intro hb<;>try cases hb)))<;>try refine At.mk ?_
  refine Zs rfl rfl rfl (fun hb=>?_) (fun hb=>?_)
  · (refine go ?_;repeat' (apply B<;>intro hb<;>try cases hb))
    exact Z3 rfl ⟨trivial,trivial,trivial⟩ rfl
  · have h1 : ¬ (r : Int) < 1 := of_decide_eq_false hb
    clear hb
    (refine go ?_;repeat' (apply B<;>intro hb<;>try cases hb))
    refine Z7 hlen rfl rfl rfl ⟨trivial,trivial⟩ rfl ?_
    refine Zv rfl ?_
    refine Z5 (Zf (v:=true) rfl (decide_eq_true (by omega))) rfl rfl ?_
    (refine go ?_;repeat' (apply B<;>intro hb<;>try cases hb))
    exact Z3 rfl ⟨trivial,trivial,trivial⟩ rfl
section
variable {tp:PV} {nm:Nat→ByteArray} (hN:NamesW tp nm)
include hN
theorem Z6z (word:ByteArray):Spec Tryz.prog 21 [.vec [] true,.val (.string word),setN 0,tp] (· = .vec [] true):=by
 have hfl:=hN.one
 have hce:=hN.cell
 refine Z2 ok21 (Nat.le_of_ble_eq_true rfl) fun C hC=>?_
 refine Zh ?_
 refine Za ?_
 refine Z6 rfl rfl rfl ?_
 refine Z6 (show fEval (.box (.tmp 3)) _ _ _=some (.cp [tp],_) by (show (match some tp with|some p=>if p.flat&&decide (0<p.cells.length) then some (PV.cp p.cells,_) else none|none=>none)=_; simp only [hfl,hce]; rfl)) rfl rfl ?_
 (refine go ?_;repeat' (apply B<;>intro hb<;>try cases hb))
 refine Z7 (Z2i 0 (by decide)) rfl rfl rfl ⟨Z1 0,trivial⟩ rfl ?_
 (refine go ?_;repeat' (apply B<;>intro hb<;>try cases hb))
 exact Z3 rfl trivial rfl
theorem Z9F {n k:Nat} {h:Heap} (hh:h n=none) (word:ByteArray):ISpec Tryz.prog 21 n [.own k,.val (.string word),setN 0,tp] h (fun n' r h'=>n'=n∧r=.own k∧h'=h):=by
 have hfl:=hN.one
 have hce:=hN.cell
 refine ZX ok21 (Nat.le_of_ble_eq_true rfl) fun C hC=>?_
 refine Zh ?_
 refine Za ?_
 refine Z6 rfl rfl hh ?_
 refine Z6 (show fEval (.box (.tmp 3)) _ _ _=some (.cp [tp],_) by (show (match some tp with|some p=>if p.flat&&decide (0<p.cells.length) then some (PV.cp p.cells,_) else none|none=>none)=_; simp only [hfl,hce]; rfl)) rfl hh ?_
 refine Z5 rfl rfl hh ?_
 refine Z13 ?_
 refine Zh ?_
 refine Zh ?_
 refine Za ?_
 refine Z5 rfl rfl hh ?_
 refine Z7 (Z2i 0 (by decide)) rfl rfl rfl ⟨Z1 0,trivial⟩ hh ?_
 refine Z13 ?_
 refine Z6V rfl ?_
 refine Zh ?_
 refine Za ?_
 refine Z5 rfl rfl hh ?_
 refine Z5 rfl rfl hh ?_
 refine Z13 ?_
 refine Zcp ?_
 exact⟨_,_,rfl,.inl rfl,rfl,rfl,rfl⟩
def hasW:ByteArray:=⟨#[104,97,115,32]⟩
def lacksW:ByteArray:=⟨#[108,97,99,107,115,32]⟩
def partsW (c:Cu) (nm:Nat→ByteArray):List ByteArray:=(if c.1=0 then [] else [partB hasW c.1 nm])++(if c.2=0 then [] else [partB lacksW c.2 nm])
def sentW (c:Cu) (nm:Nat→ByteArray):ByteArray:=if partsW c nm = [] then ⟨#[97,110,121,32,114,111,108,101,115]⟩ else joinS (partsW c nm) ⟨#[44,32]⟩
theorem Z8n {word:ByteArray} (hw:word.data.toList.length≤100) (N:Nat):(partB word N nm).data.toList.length≤100100:=by
 have hml:=ZO N
 have hsz:∀ y∈(mem N).map nm,y.data.toList.length≤100:=fun y hy=>by
  obtain⟨r,hr,rfl⟩:=List.mem_map.1 hy
  exact hN.len r (Z1r hr)
 have hjl:=Z3X hsz (by rw [List.length_map]; exact hml) ⟨#[32,97,110,100,32]⟩ (by decide)
 unfold partB
 rw [ByteArray.data_append,Array.toList_append,List.length_append]
 have:(joinS ((mem N).map nm) ⟨#[32,97,110,100,32]⟩).data.toList.length≤100000:=hjl
 omega
omit hN in
theorem Z7u {l:List ByteArray} (h:∀ x∈l,x.data.toList.length≤100100) (hl:l.length≤2):(Go.Lib.join (l.map (·.data.toList)) (⟨#[44,32]⟩:ByteArray).data.toList).length≤140737488355328:=by
 cases l with
 | nil=>simp [Go.Lib.join_nil]
 | cons x l =>
   rw [List.map_cons,Go.Lib.join_length]
   have:=Z9D (k:=100100) (l:=(x :: l).map (·.data.toList)) fun y hy=>by
    obtain⟨z,hz,rfl⟩:=List.mem_map.1 hy
    exact h z hz
   rw [List.map_cons] at this
   simp only [List.length_cons,List.length_map] at this hl ⊢
   simp only [List.length_nil]
   omega
set_option maxHeartbeats 4000000 in
theorem Z4e (c:Cu) (hc:Ok64 c):Spec Tryz.prog 8 [cuP c,tp] (· = .val (.string (sentW c nm))):=by
 obtain⟨y,z⟩:=c
 obtain⟨hy,hz⟩:y<18446744073709551616∧z<18446744073709551616:=hc
 have htp:=hN.pure
 have b1:=Z8n hN (word:=hasW) (by decide) y
 have b2:=Z8n hN (word:=lacksW) (by decide) z
 refine Z2 ok8 (Nat.le_of_ble_eq_true rfl) fun C hC=>?_
 refine Zh ?_
 refine Za ?_
 refine Z6 rfl rfl rfl ?_
 unfold sentW partsW
 dsimp only
 by_cases h1:y=0
 · subst h1
   rw [if_pos rfl,List.nil_append]
   (repeat'(first|refine Z4 8 ?_|refine Z0 8 ?_|refine st ?_|(apply B<;>intro hb<;>try cases hb)))<;>try refine At.mk ?_
   refine Z5 rfl rfl rfl ?_
   refine Z7 (Z6z hN hasW) rfl rfl rfl ⟨trivial,trivial,Z1 0,htp,trivial⟩ rfl ?_
   by_cases h2:z=0
   · subst h2
     (repeat'(first|refine Z4 13 ?_|refine Z0 13 ?_|refine st ?_|(apply B<;>intro hb<;>try cases hb)))<;>try refine At.mk ?_
     refine Z5 rfl rfl rfl ?_
     refine Z7 (Z6z hN lacksW) rfl rfl rfl ⟨trivial,trivial,Z1 0,htp,trivial⟩ rfl ?_
     (refine go ?_;repeat' (apply B<;>intro hb<;>try cases hb))
     exact Z3 rfl trivial rfl
   · rw [if_neg h2]
     (repeat'(first|refine Z4 13 ?_|refine Z0 13 ?_|refine st ?_|(apply B<;>intro hb<;>try cases hb)))<;>try refine At.mk ?_
     refine Z5 rfl rfl rfl ?_
     refine Z7g (Z6y hN lacksW (by decide) z hz h2) Z3x (Zc _) rfl rfl ⟨trivial,trivial,Z1 z,htp,trivial⟩ ?_
     (repeat'(first|refine Z4 18 ?_|refine Z0 18 ?_|refine st ?_|(apply B<;>intro hb<;>try cases hb)))<;>try refine At.mk ?_
     refine Zg (Zk (k:=5) (id:=0) (b:=⟨1,[partB lacksW z nm].map strC⟩) rfl rfl (Zc _)) ?_
     (repeat'(first|refine Z4 19 ?_|refine Z0 19 ?_|refine st ?_|(apply B<;>intro hb<;>try cases hb)))<;>try refine At.mk ?_
     refine Z7 (Z2m [partB lacksW z nm] false ⟨#[44,32]⟩ (by simp) (Z7u (fun x hx=>by rw [List.mem_singleton] at hx; subst hx; exact b2) (by simp))) rfl rfl rfl ⟨Zc _,trivial,trivial⟩ rfl ?_
     (refine go ?_;repeat' (apply B<;>intro hb<;>try cases hb))
     exact Z3 rfl trivial (by rw [if_neg (by simp)])
 · rw [if_neg h1]
   (repeat'(first|refine Z4 8 ?_|refine Z0 8 ?_|refine st ?_|(apply B<;>intro hb<;>try cases hb)))<;>try refine At.mk ?_
   refine Z5 rfl rfl rfl ?_
   refine Z7g (Z6y hN hasW (by decide) y hy h1) Z3x (Zc _) rfl rfl ⟨trivial,trivial,Z1 y,htp,trivial⟩ ?_
   by_cases h2:z=0
   · subst h2
     rw [if_pos rfl,List.append_nil]
     (repeat'(first|refine Z4 13 ?_|refine Z0 13 ?_|refine st ?_|(apply B<;>intro hb<;>try cases hb)))<;>try refine At.mk ?_
     refine Z5 rfl rfl rfl ?_
     refine Zx rfl rfl (Z9F hN (k:=0) rfl lacksW) ?_
     rintro n' x h' ⟨rfl,rfl,rfl⟩
     (repeat'(first|refine Z4 18 ?_|refine Z0 18 ?_|refine st ?_|(apply B<;>intro hb<;>try cases hb)))<;>try refine At.mk ?_
     refine Zg (Zk (k:=5) (id:=0) (b:=⟨1,[partB hasW y nm].map strC⟩) rfl rfl (Zc _)) ?_
     (repeat'(first|refine Z4 19 ?_|refine Z0 19 ?_|refine st ?_|(apply B<;>intro hb<;>try cases hb)))<;>try refine At.mk ?_
     refine Z7 (Z2m [partB hasW y nm] false ⟨#[44,32]⟩ (by simp) (Z7u (fun x hx=>by rw [List.mem_singleton] at hx; subst hx; exact b1) (by simp))) rfl rfl rfl ⟨Zc _,trivial,trivial⟩ rfl ?_
     (refine go ?_;repeat' (apply B<;>intro hb<;>try cases hb))
     exact Z3 rfl trivial (by rw [if_neg (by simp)])
   · rw [if_neg h2]
     (repeat'(first|refine Z4 13 ?_|refine Z0 13 ?_|refine st ?_|(apply B<;>intro hb<;>try cases hb)))<;>try refine At.mk ?_
     refine Z5 rfl rfl rfl ?_
     refine ZfI (k:=0) (ZbP hN [partB hasW y nm] (by simp) lacksW (by decide) z hz h2) Z3x rfl rfl rfl rfl (Zc _) ⟨trivial,Z1 z,htp,trivial⟩ ?_
     rintro b' hb' rfl
     (repeat'(first|refine Z4 18 ?_|refine Z0 18 ?_|refine st ?_|(apply B<;>intro hb<;>try cases hb)))<;>try refine At.mk ?_
     refine Zg (Zk (k:=5) (id:=1) (b:=⟨1,[partB hasW y nm,partB lacksW z nm].map strC⟩) rfl rfl (Zc _)) ?_
     (repeat'(first|refine Z4 19 ?_|refine Z0 19 ?_|refine st ?_|(apply B<;>intro hb<;>try cases hb)))<;>try refine At.mk ?_
     refine Z7 (Z2m [partB hasW y nm,partB lacksW z nm] false ⟨#[44,32]⟩ (by simp) (Z7u (fun x hx=>by
      rcases List.mem_cons.1 hx with rfl|hx
      · exact b1
      · rw [List.mem_singleton] at hx; subst hx; exact b2) (by simp))) rfl rfl rfl ⟨Zc _,trivial,trivial⟩ rfl ?_
     (refine go ?_;repeat' (apply B<;>intro hb<;>try cases hb))
     exact Z3 rfl trivial (by rw [if_neg (by simp)]; rfl)
end
def sepA:ByteArray:=⟨#[32,97,110,100,32]⟩
def accB (word:ByteArray):List ByteArray→ByteArray
 | []=>⟨#[]⟩
 | n :: r=>r.foldl (fun a m=>a++(sepA++m)) (word++⟨#[32]⟩++n)
theorem Zdy (word:ByteArray) (l:List ByteArray) (n:ByteArray):accB word (l ++ [n])=if l = [] then word++⟨#[32]⟩++n else accB word l++(sepA++n):=by
 cases l with
 | nil=>rfl
 | cons x r=>simp [accB,List.foldl_append]
theorem catL (a b:ByteArray):(a++b).data.toList=a.data.toList++b.data.toList:=by rw [ByteArray.data_append,Array.toList_append]
theorem Z8o:∀ (r:List ByteArray) (a:ByteArray),(r.foldl (fun a m=>a++(sepA++m)) a).data.toList=a.data.toList++Go.Lib.joinTail sepA.data.toList (r.map (·.data.toList))
 | [],a=>by simp [Go.Lib.joinTail]
 | y :: r, a => by
   rw [List.foldl_cons,Z8o r,catL,catL]
   simp [Go.Lib.joinTail]
theorem Z5M (word x:ByteArray) (r:List ByteArray):(accB word (x :: r)).data.toList=(word.data.toList ++ [32])++Go.Lib.join ((x :: r).map (·.data.toList)) sepA.data.toList:=by
 show (r.foldl (fun a m=>a++(sepA++m)) (word++⟨#[32]⟩++x)).data.toList=_
 rw [Z8o,catL,catL,List.map_cons,Go.Lib.join_cons]
 simp
theorem Z2R {a b:ByteArray} (h:a.data.toList=b.data.toList):a=b:=ByteArray.ext (Array.ext' h)
theorem Zdz {word w2:ByteArray} (hw:word.data.toList ++ [32]=w2.data.toList) {l:List ByteArray} (hl:l≠[]):accB word l=w2++joinS l sepA:=by
 cases l with
 | nil=>exact absurd rfl hl
 | cons x r =>
   refine Z2R ?_
   rw [Z5M,catL,hw]
   rfl
theorem Z5N {word:ByteArray} (hw:word.size≤10) {l:List ByteArray} (h:∀ x∈l,x.data.toList.length≤100) (hl:l.length≤64):(accB word l).size≤200000:=by
 cases l with
 | nil=>exact Nat.zero_le _
 | cons x r =>
   rw [bsize,Z5M,List.length_append,List.length_append]
   have:=Z3X h hl sepA (by decide)
   rw [bsize] at hw
   simp only [List.length_cons,List.length_nil] at this ⊢
   omega
theorem Z5O {word:ByteArray} {l:List ByteArray}:((accB word l).toList == (⟨#[]⟩:ByteArray).toList)=decide (l = []):=by
 rw [ByteArray.toList_eq,ByteArray.toList_eq]
 cases l with
 | nil=>rfl
 | cons x r =>
   rw [Z5M,decide_eq_false (by simp)]
   simp
def nmR (ns:List ByteArray) (r:Nat):ByteArray:=if 1≤r∧r≤ns.length then ns.getD (r-1) ⟨#[]⟩ else numS r
theorem Zfa {e:Env} {h:Heap} {n:Nat} {x lo hi:Operand} {s:ByteArray} {a b:Nat} (hx:ev e x=some (.val (.string s))) (hlo:intAt (ev e lo)=some (a:Int)) (hhi:intAt (ev e hi)=some (b:Int)) (hab:a≤b) (hb:b≤s.size):dEval (.slcS x (some lo) (some hi)) e h n=some (.val (.string (s.extract a b)),h):=by
 simp only [dEval,hx,bndAt,hlo,hhi]
 rw [if_pos ⟨by omega,by omega,by omega⟩]
 simp
theorem Z9G (r:Nat) (hr:r<10):Spec Tryz.prog 54 [.val (.int .i64 (r:Int))] (· = .val (.string (numS r))):=by
 have hn:numS r=(⟨#[48,49,50,51,52,53,54,55,56,57]⟩:ByteArray).extract r (r+1):=by
  have key:∀ r,r<10→(⟨#[48,49,50,51,52,53,54,55,56,57]⟩:ByteArray).extract r (r+1)=⟨[UInt8.ofNat (48+r)].toArray⟩:=by decide +kernel
  rw [key r hr]
  unfold numS
  rw [Go.Lib.decDigits_one hr]
 refine Z2 ok54 (Nat.le_of_ble_eq_true rfl) fun C hC=>?_
 (repeat'(first|refine Z4 4 ?_|refine Z0 4 ?_|refine st ?_|(apply B<;>intro hb<;>try cases hb)))<;>try refine At.mk ?_
 refine Z5 (Zf (v:=true) rfl (decide_eq_true (by omega))) rfl rfl ?_
 (repeat'(first|refine Z4 7 ?_|refine Z0 7 ?_|refine st ?_|(apply B<;>intro hb<;>try cases hb)))<;>try refine At.mk ?_
 refine Z5 (Z2p (v:=((r+1:Nat):Int)) rfl (IntWalk.i64_in _ ⟨by omega,by omega⟩)) rfl rfl ?_
 refine Z5 (Zfa (s:=⟨#[48,49,50,51,52,53,54,55,56,57]⟩) (a:=r) (b:=r+1) rfl rfl rfl (by omega) (by show r+1≤10;omega)) rfl rfl ?_
 rw [← hn]
 (refine go ?_;repeat' (apply B<;>intro hb<;>try cases hb))
 exact Z3 rfl trivial rfl
set_option maxHeartbeats 4000000 in
theorem Z4y {word:ByteArray} (hw:word.size≤10) {s:Nat} (hs:s<256) (ns:List ByteArray) (fl:Bool) (hns:∀ x∈ns,x.data.toList.length≤100) (hnl:ns.length≤100):Spec Tryz.prog 24 [.val (.string word),.val (.int .u64 (s:Int)),.vec (ns.map strC) fl] (· = .val (.string (accB word ((mem s).map (nmR ns))))):=by
 have hs64:s<18446744073709551616:=by omega
 have hml:=ZO s
 have hnn:(ns.map strC).length=ns.length:=by simp
 have hnp:∀ D,innLL D (ns.map strC):=fun D=>Zi (fun _ h=>h.elim) _ (Zc ns)
 have hil:(nums (intsN (mem s))).length=(mem s).length:=by rw [Z1d]; simp [intsN]
 have hlt:∀ r∈mem s,r<8:=fun r hr=>Nat.lt_of_not_le fun h8=>by
  have hb:=(Z1l hs64).1 hr
  rw [Nat.testBit_lt_two_pow (Nat.lt_of_lt_of_le hs (Nat.pow_le_pow_right (n:=2) (by decide) h8))] at hb; cases hb
 have hnm:∀ r,r<8→(nmR ns r).data.toList.length≤100:=fun r hr=>by
  unfold nmR
  split
  · rename_i h
    have h1:r-1<ns.length:=by omega
    rw [List.getD_eq_getElem?_getD,List.getElem?_eq_getElem h1]
    exact hns _ (List.getElem_mem h1)
  · have := Z2Q (show r < 100 by omega)
    omega
 refine Z2 ok24 (Nat.le_of_ble_eq_true rfl) fun C hC=>?_
 (repeat'(first|refine Z4 12 ?_|refine Z0 12 ?_|refine st ?_|(apply B<;>intro hb<;>try cases hb)))<;>try refine At.mk ?_
 refine Z7 (Z3N s hs64) rfl rfl rfl ⟨trivial,trivial⟩ rfl ?_
 generalize hme:mem s=ms at *
 (refine go ?_;repeat' (apply B<;>intro hb<;>try cases hb))
 refine ZD hC (fun (i:Nat)=>i≤ms.length) (fun i=>ms.length-i) 0 (fun i => [(0,.val (.string word)),(2,.vec (ns.map strC) fl),(7,.val (.string (accB word ((ms.take i).map (nmR ns))))),(12,.vec (nums (intsN ms)) false),(13,.val (.int .i64 (ms.length:Int))),(14,.val (.int .i64 (i:Int)))])
  (fun _=>[]) (Nat.le_refl _) 0 (Nat.zero_le _) ⟨⟨rfl,trivial⟩,⟨rfl,hnp _⟩,⟨rfl,trivial⟩,⟨rfl,Zt _ _⟩,⟨by rw [← hil]; rfl,trivial⟩,⟨rfl,trivial⟩,trivial⟩ trivial ?_
 rintro i hi
 have hinc:IntKind.i64.wrap ((i:Int)+1)=((i+1:Nat):Int):=IntWalk.i64_in _ ⟨by omega,by omega⟩
 (repeat'(first|refine Z4 15 ?_|refine Z0 15 ?_|refine st ?_|(apply B<;>intro hb<;>try cases hb)))<;>try refine At.mk ?_
 refine Zs rfl rfl rfl (fun hb=>?_) (fun hb=>?_)
 · have hil2 : i < ms.length := by have := of_decide_eq_true hb; omega
   have hil3:i<(intsN ms).length:=by simpa [intsN] using hil2
   have hel:(intsN ms)[i]=((ms[i]:Nat):Int):=by simp [intsN]
   have htk:(ms.take (i+1)).map (nmR ns)=(ms.take i).map (nmR ns) ++ [nmR ns ms[i]]:=by rw [List.take_add_one,List.getElem?_eq_getElem hil2,List.map_append]; rfl
   have hr8:=hlt _ (List.getElem_mem hil2)
   have hll:((ms.take i).map (nmR ns)).length≤64:=by rw [List.length_map,List.length_take]; omega
   have hal:∀ x∈(ms.take i).map (nmR ns),x.data.toList.length≤100:=fun x hx=>by
    obtain⟨r,hr,rfl⟩:=List.mem_map.1 hx
    exact hnm r (hlt r (List.mem_of_mem_take hr))
   have hsz:=Z5N hw hal hll
   have hsn:=Zdy word ((ms.take i).map (nmR ns)) (nmR ns ms[i])
   have hno:=Z5O (word:=word) (l:=(ms.take i).map (nmR ns))
   rw [← htk] at hsn
   clear hb
   (repeat'(first|refine Z4 16 ?_|refine Z0 16 ?_|refine st ?_|(apply B<;>intro hb<;>try cases hb)))<;>try refine At.mk ?_
   refine Z5 (Zl (xs:=intsN ms) (g:=fun (x:Int) => [PV.val (.int .i64 x)]) rfl rfl i rfl hil3 rfl) rfl rfl ?_
   rw [hel]
   generalize ms[i]=r at hr8 hsn ⊢
   generalize (ms.take i).map (nmR ns)=acc at hsn hno hsz ⊢
   have hnr:=hnm r hr8
   (repeat'(first|refine Z4 19 ?_|refine Z0 19 ?_|refine st ?_|(apply B<;>intro hb<;>try cases hb)))<;>try refine At.mk ?_
   refine Z7 (Z9G r (by omega)) rfl rfl rfl ⟨trivial,trivial⟩ rfl ?_
   have hnz:(nmR ns r).size≤1000:=by rw [bsize]; omega
   obtain⟨nv,hnv⟩:∃ nv,nmR ns r=nv:=⟨_,rfl⟩
   rw [hnv] at hsn hnz
   refine Z5 rfl rfl rfl ?_
   refine Z13 ?_
   refine Z2x hC True 0 [(0,.val (.string word)),(2,.vec (ns.map strC) fl),(7,.val (.string (accB word acc))),(10,.val (.string nv)),(12,.vec (nums (intsN ms)) false),(13,.val (.int .i64 (ms.length:Int))),(14,.val (.int .i64 (i:Int)))] [] (Nat.le_refl _) ?_ fun _=>?_
   · by_cases hr : 1 ≤ r ∧ r ≤ ns.length
     · have h1 : r - 1 < ns.length := by omega
       have hge:ns[r-1]=nv:=by
        rw [← hnv]
        unfold nmR
        rw [if_pos hr,List.getD_eq_getElem?_getD,List.getElem?_eq_getElem h1]
        rfl
       (repeat'(first|refine Z4 21 ?_|refine Z0 21 ?_|refine st ?_|(apply B<;>intro hb<;>try cases hb)))<;>try refine At.mk ?_
       refine Z5 (Zf (v:=true) rfl (decide_eq_true (by omega))) rfl rfl ?_
       (repeat'(first|refine Z4 26 ?_|refine Z0 26 ?_|refine st ?_|(apply B<;>intro hb<;>try cases hb)))<;>try refine At.mk ?_
       refine Zv rfl ?_
       refine Z5 (Zf (v:=true) rfl (decide_eq_true (by rw [hnn];omega))) rfl rfl ?_
       (repeat'(first|refine Z4 30 ?_|refine Z0 30 ?_|refine st ?_|(apply B<;>intro hb<;>try cases hb)))<;>try refine At.mk ?_
       refine Z5 (Z2p (v:=((r-1:Nat):Int)) rfl (by
        rw [show (r:Int)-1=((r-1:Nat):Int) by omega]
        exact IntWalk.i64_in _ ⟨by omega,by omega⟩)) rfl rfl ?_
       refine Z5 (Zl (xs:=ns) (g:=strC) rfl rfl (r-1) rfl h1 rfl) rfl rfl ?_
       rw [hge]
       (refine go ?_;repeat' (apply B<;>intro hb<;>try cases hb))
       exact⟨trivial,⟨⟨rfl,trivial⟩,⟨rfl,hnp _⟩,⟨rfl,trivial⟩,⟨rfl,trivial⟩,⟨rfl,Zt _ _⟩,⟨rfl,trivial⟩,⟨rfl,trivial⟩,trivial⟩,trivial⟩
     · have hge : numS r = nv := by
        rw [← hnv]
        unfold nmR
        rw [if_neg hr]
       rw [hge]
       by_cases hr0:1≤r
       · skip
         (repeat'(first|refine Z4 21 ?_|refine Z0 21 ?_|refine st ?_|(apply B<;>intro hb<;>try cases hb)))<;>try refine At.mk ?_
         refine Z5 (Zf (v:=true) rfl (decide_eq_true (by omega))) rfl rfl ?_
         (repeat'(first|refine Z4 26 ?_|refine Z0 26 ?_|refine st ?_|(apply B<;>intro hb<;>try cases hb)))<;>try refine At.mk ?_
         refine Zv rfl ?_
         refine Z5 (Zf (v:=false) rfl (decide_eq_false (by rw [hnn];omega))) rfl rfl ?_
         (refine go ?_;repeat' (apply B<;>intro hb<;>try cases hb))
         exact⟨trivial,⟨⟨rfl,trivial⟩,⟨rfl,hnp _⟩,⟨rfl,trivial⟩,⟨rfl,trivial⟩,⟨rfl,Zt _ _⟩,⟨rfl,trivial⟩,⟨rfl,trivial⟩,trivial⟩,trivial⟩
       · skip
         (repeat'(first|refine Z4 21 ?_|refine Z0 21 ?_|refine st ?_|(apply B<;>intro hb<;>try cases hb)))<;>try refine At.mk ?_
         refine Z5 (Zf (v:=false) rfl (decide_eq_false (by omega))) rfl rfl ?_
         (refine go ?_;repeat' (apply B<;>intro hb<;>try cases hb))
         exact⟨trivial,⟨⟨rfl,trivial⟩,⟨rfl,hnp _⟩,⟨rfl,trivial⟩,⟨rfl,trivial⟩,⟨rfl,Zt _ _⟩,⟨rfl,trivial⟩,⟨rfl,trivial⟩,trivial⟩,trivial⟩
   have hw1:(word++(⟨#[32]⟩:ByteArray)).size≤1000000:=by rw [ByteArray.size_append]; show word.size+1≤_; omega
   have hw2:(sepA++nv).size≤1000000:=by rw [ByteArray.size_append]; show 5+nv.size≤_; omega
   by_cases hac:acc = []
   · rw [if_pos hac] at hsn
     rw [decide_eq_true hac] at hno
     (repeat'(first|refine Z4 34 ?_|refine Z0 34 ?_|refine st ?_|(apply B<;>intro hb<;>try cases hb)))<;>try refine At.mk ?_
     refine Z5 (Zf (v:=true) rfl hno) rfl rfl ?_
     (repeat'(first|refine Z4 36 ?_|refine Z0 36 ?_|refine st ?_|(apply B<;>intro hb<;>try cases hb)))<;>try refine At.mk ?_
     refine Z5 (Z1A (y:=⟨#[32]⟩) rfl rfl (by omega) (by decide)) rfl rfl ?_
     (repeat'(first|refine Z4 38 ?_|refine Z0 38 ?_|refine st ?_|(apply B<;>intro hb<;>try cases hb)))<;>try refine At.mk ?_
     refine Z5 (Z1A rfl rfl hw1 (by omega)) rfl rfl ?_
     (refine go ?_;repeat' (apply B<;>intro hb<;>try cases hb))
     exact⟨i+1,hil2,by omega,⟨⟨rfl,trivial⟩,⟨rfl,hnp _⟩,⟨by show some _=some _; rw [hsn],trivial⟩,⟨rfl,Zt _ _⟩,⟨rfl,trivial⟩,⟨by show some _=some _; rw [hinc],trivial⟩,trivial⟩,trivial⟩
   · rw [if_neg hac] at hsn
     rw [decide_eq_false hac] at hno
     (repeat'(first|refine Z4 34 ?_|refine Z0 34 ?_|refine st ?_|(apply B<;>intro hb<;>try cases hb)))<;>try refine At.mk ?_
     refine Z5 (Zf (v:=false) rfl hno) rfl rfl ?_
     (repeat'(first|refine Z4 41 ?_|refine Z0 41 ?_|refine st ?_|(apply B<;>intro hb<;>try cases hb)))<;>try refine At.mk ?_
     refine Z5 (Z1A (x:=sepA) rfl rfl (by decide) (by omega)) rfl rfl ?_
     refine Z5 (Z1A rfl rfl (by omega) hw2) rfl rfl ?_
     (refine go ?_;repeat' (apply B<;>intro hb<;>try cases hb))
     exact⟨i+1,hil2,by omega,⟨⟨rfl,trivial⟩,⟨rfl,hnp _⟩,⟨by show some _=some _; rw [hsn],trivial⟩,⟨rfl,Zt _ _⟩,⟨rfl,trivial⟩,⟨by show some _=some _; rw [hinc],trivial⟩,trivial⟩,trivial⟩
 · have hil2 : i = ms.length := by have := of_decide_eq_false hb; omega
   subst hil2
   clear hb
   (refine go ?_;repeat' (apply B<;>intro hb<;>try cases hb))
   exact Z3 rfl trivial (by rw [List.take_length])
theorem ZdA (x y sep:ByteArray):joinS [x,y] sep=(x++sep)++y:=Z2R (by
 rw [catL,catL]
 show Go.Lib.join [x.data.toList,y.data.toList] sep.data.toList=_
 rw [Go.Lib.join_cons]
 simp [Go.Lib.joinTail])
theorem Z8p (x sep:ByteArray):joinS [x] sep=x:=Z2R (by
 show Go.Lib.join [x.data.toList] sep.data.toList=_
 rw [Go.Lib.join_one])
theorem Z5P {s:Nat} (hs:s<18446744073709551616):mem s = []↔s=0:=by
 constructor
 · intro h
   refine Nat.eq_of_testBit_eq fun i=>?_
   rw [Nat.zero_testBit]
   exact Bool.eq_false_iff.2 fun hb=>by
    have:=(Z1l hs).2 hb
    rw [h] at this
    cases this
 · rintro rfl
   decide +kernel
def hasR:ByteArray:=⟨#[104,97,115]⟩
def lacksR:ByteArray:=⟨#[108,97,99,107,115]⟩
theorem ZfJ (a:ByteArray):a++(⟨#[]⟩:ByteArray)=a:=Z2R (by rw [catL]; simp)
theorem ZfK (a:ByteArray):(⟨#[]⟩:ByteArray)++a=a:=Z2R (by rw [catL]; simp)
theorem ZaD {s:Nat} (hs:s<18446744073709551616) (h0:s≠0) (nm:Nat→ByteArray):partB hasW s nm=accB hasR ((mem s).map nm):=(Zdz (word:=hasR) (w2:=hasW) rfl (by rw [ne_eq,List.map_eq_nil_iff,Z5P hs]; exact h0)).symm
theorem Z6A {s:Nat} (hs:s<18446744073709551616) (h0:s≠0) (nm:Nat→ByteArray):partB lacksW s nm=accB lacksR ((mem s).map nm):=(Zdz (word:=lacksR) (w2:=lacksW) rfl (by rw [ne_eq,List.map_eq_nil_iff,Z5P hs]; exact h0)).symm
theorem ZaE {s:Nat} (hs:s<18446744073709551616) (h0:s=0) (w:ByteArray) (nm:Nat→ByteArray):accB w ((mem s).map nm)=⟨#[]⟩:=by rw [(Z5P hs).2 h0]; rfl
set_option maxHeartbeats 4000000 in
theorem Z6B (c:Cu) (h1:c.1<256) (h2:c.2<256) (ns:List ByteArray) (fl:Bool) (hns:∀ x∈ns,x.data.toList.length≤100) (hnl:ns.length≤100):Spec Tryz.prog 10 [.agg (raC c),.vec (ns.map strC) fl] (· = .val (.string (sentW c (nmR ns)))):=by
 obtain⟨y,z⟩:=c
 dsimp only at h1 h2
 have hnp:=Zc ns
 have p1:=Z4y (word:=hasR) (by decide) h1 ns fl hns hnl
 have p2:=Z4y (word:=lacksR) (by decide) h2 ns fl hns hnl
 have y64:y<18446744073709551616:=by omega
 have z64:z<18446744073709551616:=by omega
 have n1:=Z5O (word:=hasR) (l:=(mem y).map (nmR ns))
 have n2:=Z5O (word:=lacksR) (l:=(mem z).map (nmR ns))
 have hnm:∀ r,r<8→(nmR ns r).data.toList.length≤100:=fun r hr=>by
  unfold nmR
  split
  · rename_i h
    have h1:r-1<ns.length:=by omega
    rw [List.getD_eq_getElem?_getD,List.getElem?_eq_getElem h1]
    exact hns _ (List.getElem_mem h1)
  · have := Z2Q (show r < 100 by omega)
    omega
 have hlt:∀ {s:Nat},s<256→∀ x∈(mem s).map (nmR ns),x.data.toList.length≤100:=fun {s} hs x hx=>by
  obtain⟨r,hr,rfl⟩:=List.mem_map.1 hx
  refine hnm r (Nat.lt_of_not_le fun h8=>?_)
  have hb:=(Z1l (by omega)).1 hr
  rw [Nat.testBit_lt_two_pow (Nat.lt_of_lt_of_le hs (Nat.pow_le_pow_right (n:=2) (by decide) h8))] at hb; cases hb
 have s1:=Z5N (word:=hasR) (by decide) (hlt h1) (by rw [List.length_map]; exact ZO y)
 have s2:=Z5N (word:=lacksR) (by decide) (hlt h2) (by rw [List.length_map]; exact ZO z)
 have e0:(decide ((mem y).map (nmR ns) = []))=decide (y=0):=decide_eq_decide.2 (by rw [List.map_eq_nil_iff,Z5P y64])
 have e1:(decide ((mem z).map (nmR ns) = []))=decide (z=0):=decide_eq_decide.2 (by rw [List.map_eq_nil_iff,Z5P z64])
 rw [e0] at n1
 rw [e1] at n2
 have hsen:sentW (y,z) (nmR ns)=if y=0 then (if z=0 then ⟨#[97,110,121,32,114,111,108,101,115]⟩ else accB lacksR ((mem z).map (nmR ns))) else (if z=0 then accB hasR ((mem y).map (nmR ns)) else (accB hasR ((mem y).map (nmR ns))++⟨#[44,32]⟩)++accB lacksR ((mem z).map (nmR ns))):=by
  unfold sentW partsW
  dsimp only
  by_cases hy:y=0<;>by_cases hz:z=0
  · rw [if_pos hy,if_pos hz,if_pos hy,if_pos hz]; rfl
  · rw [if_pos hy,if_neg hz,if_pos hy,if_neg hz,List.nil_append,if_neg (by simp),Z8p,Z6A z64 hz]
  · rw [if_neg hy,if_pos hz,if_neg hy,if_pos hz,List.append_nil,if_neg (by simp),Z8p,ZaD y64 hy]
  · rw [if_neg hy,if_neg hz,if_neg hy,if_neg hz,List.singleton_append,if_neg (by simp),ZdA,Z6A z64 hz,ZaD y64 hy]
 have t1:=fun h=>ZaE y64 h hasR (nmR ns)
 have t2:=fun h=>ZaE z64 h lacksR (nmR ns)
 refine Z2 ok10 (Nat.le_of_ble_eq_true rfl) fun C hC=>?_
 refine Zh ?_
 refine Za ?_
 refine Z6 rfl rfl rfl ?_
 (repeat'(first|refine Z4 10 ?_|refine Z0 10 ?_|refine st ?_|(apply B<;>intro hb<;>try cases hb)))<;>try refine At.mk ?_
 refine Zq p1 rfl rfl rfl ⟨trivial,trivial,hnp,trivial⟩ ?_
 (repeat'(first|refine Z4 14 ?_|refine Z0 14 ?_|refine st ?_|(apply B<;>intro hb<;>try cases hb)))<;>try refine At.mk ?_
 refine Zq p2 rfl rfl rfl ⟨trivial,trivial,hnp,trivial⟩ ?_
 generalize accB hasR ((mem y).map (nmR ns))=A at *
 generalize accB lacksR ((mem z).map (nmR ns))=B at *
 rw [hsen]
 have hA:(A++(⟨#[44,32]⟩:ByteArray)).size≤1000000:=by rw [ByteArray.size_append]; show A.size+2≤_; omega
 have b1:(A.toList != (⟨#[]⟩:ByteArray).toList) = !decide (y=0):=by rw [← n1]; rfl
 have b2:(B.toList != (⟨#[]⟩:ByteArray).toList) = !decide (z=0):=by rw [← n2]; rfl
 by_cases hy:y=0<;>by_cases hz:z=0
 · rw [if_pos hy, if_pos hz]
   rw [decide_eq_true hy] at b1 n1
   rw [decide_eq_true hz] at b2 n2
   (repeat'(first|refine Z4 17 ?_|refine Z0 17 ?_|refine st ?_|(apply B<;>intro hb<;>try cases hb)))<;>try refine At.mk ?_
   refine Z5 (Zf (v:=false) rfl b1) rfl rfl ?_
   (repeat'(first|refine Z4 28 ?_|refine Z0 28 ?_|refine st ?_|(apply B<;>intro hb<;>try cases hb)))<;>try refine At.mk ?_
   refine Z5 (Zf (v:=true) rfl n1) rfl rfl ?_
   (repeat'(first|refine Z4 31 ?_|refine Z0 31 ?_|refine st ?_|(apply B<;>intro hb<;>try cases hb)))<;>try refine At.mk ?_
   refine Zv rfl ?_
   refine Z5 (Zf (v:=true) rfl n2) rfl rfl ?_
   (refine go ?_;repeat' (apply B<;>intro hb<;>try cases hb))
   exact Z3 rfl trivial rfl
 · rw [if_pos hy, if_neg hz]
   rw [decide_eq_true hy] at b1 n1
   rw [decide_eq_false hz] at b2 n2
   (repeat'(first|refine Z4 17 ?_|refine Z0 17 ?_|refine st ?_|(apply B<;>intro hb<;>try cases hb)))<;>try refine At.mk ?_
   refine Z5 (Zf (v:=false) rfl b1) rfl rfl ?_
   (repeat'(first|refine Z4 28 ?_|refine Z0 28 ?_|refine st ?_|(apply B<;>intro hb<;>try cases hb)))<;>try refine At.mk ?_
   refine Z5 (Zf (v:=true) rfl n1) rfl rfl ?_
   (repeat'(first|refine Z4 31 ?_|refine Z0 31 ?_|refine st ?_|(apply B<;>intro hb<;>try cases hb)))<;>try refine At.mk ?_
   refine Zv rfl ?_
   refine Z5 (Zf (v:=false) rfl n2) rfl rfl ?_
   (repeat'(first|refine Z4 35 ?_|refine Z0 35 ?_|refine st ?_|(apply B<;>intro hb<;>try cases hb)))<;>try refine At.mk ?_
   refine Z5 (Z1A rfl rfl (by omega) (by omega)) rfl rfl ?_
   rw [t1 hy,ZfK]
   (refine go ?_;repeat' (apply B<;>intro hb<;>try cases hb))
   exact Z3 rfl trivial rfl
 · rw [if_neg hy, if_pos hz]
   rw [decide_eq_false hy] at b1 n1
   rw [decide_eq_true hz] at b2 n2
   (repeat'(first|refine Z4 17 ?_|refine Z0 17 ?_|refine st ?_|(apply B<;>intro hb<;>try cases hb)))<;>try refine At.mk ?_
   refine Z5 (Zf (v:=true) rfl b1) rfl rfl ?_
   (repeat'(first|refine Z4 20 ?_|refine Z0 20 ?_|refine st ?_|(apply B<;>intro hb<;>try cases hb)))<;>try refine At.mk ?_
   refine Zv rfl ?_
   refine Z5 (Zf (v:=false) rfl b2) rfl rfl ?_
   (repeat'(first|refine Z4 28 ?_|refine Z0 28 ?_|refine st ?_|(apply B<;>intro hb<;>try cases hb)))<;>try refine At.mk ?_
   refine Z5 (Zf (v:=false) rfl n1) rfl rfl ?_
   (repeat'(first|refine Z4 35 ?_|refine Z0 35 ?_|refine st ?_|(apply B<;>intro hb<;>try cases hb)))<;>try refine At.mk ?_
   refine Z5 (Z1A rfl rfl (by omega) (by omega)) rfl rfl ?_
   rw [t2 hz,ZfJ]
   (refine go ?_;repeat' (apply B<;>intro hb<;>try cases hb))
   exact Z3 rfl trivial rfl
 · rw [if_neg hy, if_neg hz]
   rw [decide_eq_false hy] at b1 n1
   rw [decide_eq_false hz] at b2 n2
   (repeat'(first|refine Z4 17 ?_|refine Z0 17 ?_|refine st ?_|(apply B<;>intro hb<;>try cases hb)))<;>try refine At.mk ?_
   refine Z5 (Zf (v:=true) rfl b1) rfl rfl ?_
   (repeat'(first|refine Z4 20 ?_|refine Z0 20 ?_|refine st ?_|(apply B<;>intro hb<;>try cases hb)))<;>try refine At.mk ?_
   refine Zv rfl ?_
   refine Z5 (Zf (v:=true) rfl b2) rfl rfl ?_
   (repeat'(first|refine Z4 23 ?_|refine Z0 23 ?_|refine st ?_|(apply B<;>intro hb<;>try cases hb)))<;>try refine At.mk ?_
   refine Z5 (Z1A (y:=⟨#[44,32]⟩) rfl rfl (by omega) (by decide)) rfl rfl ?_
   (repeat'(first|refine Z4 25 ?_|refine Z0 25 ?_|refine st ?_|(apply B<;>intro hb<;>try cases hb)))<;>try refine At.mk ?_
   refine Z5 (Z1A rfl rfl hA (by omega)) rfl rfl ?_
   (refine go ?_;repeat' (apply B<;>intro hb<;>try cases hb))
   exact Z3 rfl trivial rfl
def fmF:Fm:=.mk 11 0 [] [.mk 5 0 [1,2,3] [],.mk 1 1 [] []]
def fmG:Fm:=.mk 10 0 [] [.mk 4 0 [1] [],.mk 4 0 [2] []]
theorem ZdB:checkM fmF=0:=by decide +kernel
theorem ZdC:checkM fmG=0:=by decide +kernel
theorem ZeQ:vioL fmF = [(6,0),(10,0),(12,0)]:=by decide +kernel
theorem ZeR:vioL fmG = [(2,4)]:=by decide +kernel
theorem Zga:firstC (vioL fmF) 14=some (6,0):=by rw [ZeQ]; decide +kernel
theorem Zgb:firstC (vioL fmG) 10=some (2,4):=by rw [ZeR]; decide +kernel
theorem ZaF {l:List Pr} {M:Nat} (hl:Small l) (hu:∀ a r,Up l a r↔a=4∧M.testBit r=true) {s:Nat} (hs:s<18446744073709551616) (h0:s.testBit 0=false):clo l s=s ||| (if s.testBit 4 then M else 0):=Nat.eq_of_testBit_eq fun r=>by
 rw [Bool.eq_iff_iff,ZfH hl hs,Nat.testBit_or,Bool.or_eq_true]
 constructor
 · rintro ⟨a, h1, h2, h3⟩
   rcases (Z5B hl r a).1 h3 with h4|rfl
   · obtain ⟨rfl, h5⟩ := (hu a r).1 h4
     rw [if_pos h1]; exact .inr h5
   · exact .inl h1
 · rintro (h1 | h1)
   · exact⟨r,h1,Nat.pos_of_ne_zero (n:=r) fun e=>by (rw [e,h0] at h1; cases h1),(Z5B hl r r).2 (.inr rfl)⟩
   · by_cases h4 : s.testBit 4 = true
     · rw [if_pos h4] at h1
       exact⟨4,h4,by decide,(Z5B hl r 4).2 (.inl ((hu 4 r).2 ⟨rfl,h1⟩))⟩
     · rw [if_neg h4,Nat.zero_testBit] at h1; cases h1
theorem Zgv (a r:Nat):Up [(4,1),(4,2)] a r↔a=4∧(6:Nat).testBit r=true:=by
 constructor
 · intro h
   induction h with
   | one h =>
     simp only [List.mem_cons,Prod.mk.injEq,List.not_mem_nil,or_false] at h
     rcases h with⟨rfl,rfl⟩|⟨rfl,rfl⟩<;>exact⟨rfl,by decide⟩
   | more _ k ih =>
     simp only [List.mem_cons,Prod.mk.injEq,List.not_mem_nil,or_false] at k
     rcases k with⟨rfl,rfl⟩|⟨rfl,rfl⟩<;>exact absurd ih.2 (by decide)
 · rintro ⟨rfl, h⟩
   have hr:r<3:=Nat.lt_of_not_le fun h3=>by
    rw [Nat.testBit_lt_two_pow (Nat.lt_of_lt_of_le (by decide:6<2 ^ 3) (Nat.pow_le_pow_right (by decide) h3))] at h; cases h
   match r,hr,h with
   | 0,_,h=>cases h
   | 1,_,_=>exact .one (by simp)
   | 2,_,_=>exact .one (by simp)
theorem Zgw (a r:Nat):Up [(4,2)] a r↔a=4∧(4:Nat).testBit r=true:=by
 constructor
 · intro h
   induction h with
   | one h =>
     simp only [List.mem_cons,Prod.mk.injEq,List.not_mem_nil,or_false] at h
     obtain⟨rfl,rfl⟩:=h
     exact⟨rfl,by decide⟩
   | more _ k ih =>
     simp only [List.mem_cons,Prod.mk.injEq,List.not_mem_nil,or_false] at k
     obtain⟨rfl,rfl⟩:=k
     exact absurd ih.2 (by decide)
 · rintro ⟨rfl, h⟩
   have hr:r<3:=Nat.lt_of_not_le fun h3=>by
    rw [Nat.testBit_lt_two_pow (Nat.lt_of_lt_of_le (by decide:4<2 ^ 3) (Nat.pow_le_pow_right (by decide) h3))] at h; cases h
   match r,hr,h with
   | 0,_,h=>cases h
   | 1,_,h=>cases h
   | 2,_,_=>exact .one (by simp)
theorem ZdD:Small [(4,1),(4,2)]:=fun p hp=>by
 simp only [List.mem_cons,List.not_mem_nil,or_false] at hp
 rcases hp with rfl|rfl<;>decide
theorem ZfL:Small [(4,2)]:=fun p hp=>by
 simp only [List.mem_cons,List.not_mem_nil,or_false] at hp
 subst hp; decide
theorem Zfb {s:Nat} (h:s ||| 24=24):s=0 ∨ s=8 ∨ s=16 ∨ s=24:=by
 have hlt:s<25:=Nat.lt_succ_of_le (by rw [← h]; exact Nat.left_le_or)
 have key:∀ s,s<25→s ||| 24=24→s=0 ∨ s=8 ∨ s=16 ∨ s=24:=by decide
 exact key s hlt h
theorem ZaG {s:Nat} (h:s ||| 20=20):s=0 ∨ s=4 ∨ s=16 ∨ s=20:=by
 have hlt:s<21:=Nat.lt_succ_of_le (by rw [← h]; exact Nat.left_le_or)
 have key:∀ s,s<21→s ||| 20=20→s=0 ∨ s=4 ∨ s=16 ∨ s=20:=by decide
 exact key s hlt h
theorem Zgl {s:Nat} (h:s ||| 24=24):gdR fmF [(4,1),(4,2)] 24 s=decide (s=16 ∨ s=24):=by
 unfold gdR
 rcases Zfb h with rfl|rfl|rfl|rfl
 all_goals
  rw [ZaF ZdD Zgv (by decide) (by decide)]
  decide +kernel
theorem Zgm {s:Nat} (h:s ||| 20=20):gdA fmG [(4,2)] 10 s=decide (s≠0):=by
 unfold gdA
 rcases ZaG h with rfl|rfl|rfl|rfl
 all_goals
  rw [ZaF ZfL Zgw (by decide) (by decide)]
  decide +kernel
theorem Zgc:Mins (fun s=>s ||| 24=24) (gdR fmF [(4,1),(4,2)] 24) [16]:=⟨by simp,fun s=>by
 rw [List.mem_singleton]
 constructor
 · rintro rfl
   refine⟨by decide,by rw [Zgl (by decide)]; rfl,fun s' h1 h2=>?_⟩
   rw [Zgl h1] at h2
   rcases of_decide_eq_true h2 with rfl|rfl<;>decide +kernel
 · rintro ⟨h1, h2, h3⟩
   rw [Zgl h1] at h2
   rcases of_decide_eq_true h2 with rfl|rfl
   · rfl
   · have := h3 16 (by decide) (by rw [Zgl (by decide)]; rfl)
     exact absurd this (by decide +kernel)⟩
theorem Zgd:Mins (fun s=>s ||| 20=20) (gdA fmG [(4,2)] 10) [4,16]:=⟨by simp,fun s=>by
 rw [List.mem_cons,List.mem_singleton]
 constructor
 · rintro (rfl | rfl)
   all_goals
    refine⟨by decide,by rw [Zgm (by decide)]; rfl,fun s' h1 h2=>?_⟩
    rw [Zgm h1] at h2
    rcases ZaG h1 with rfl|rfl|rfl|rfl
    · cases h2
    all_goals decide +kernel
 · rintro ⟨h1, h2, h3⟩
   rw [Zgm h1] at h2
   rcases ZaG h1 with rfl|rfl|rfl|rfl
   · cases h2
   · exact .inl rfl
   · exact .inr rfl
   · have := h3 16 (by decide) (by rw [Zgm (by decide)]; rfl)
     exact absurd this (by decide +kernel)⟩
theorem Zge:SortedK [16]:=List.pairwise_singleton _ _
theorem Zgf:SortedK [4,16]:=by
 unfold SortedK
 rw [List.pairwise_cons]
 refine⟨fun a ha=>?_,List.pairwise_singleton _ _⟩
 rw [List.mem_singleton] at ha
 subst ha
 decide +kernel
theorem Zfc:textB 16=⟨#[123,52,125]⟩:=by
 unfold textB
 rw [show mem 16 = [4] by decide +kernel]
 show (⟨(([123]++((if 1 < [(123:UInt8)].length then [32] else [])++Go.Lib.decDigits 4)) ++ [125]).toArray⟩:ByteArray)=_
 rw [Go.Lib.decDigits_one (by decide)]; rfl
theorem Zgg:textB 4=⟨#[123,50,125]⟩:=by
 unfold textB
 rw [show mem 4 = [2] by decide +kernel]
 show (⟨(([123]++((if 1 < [(123:UInt8)].length then [32] else [])++Go.Lib.decDigits 2)) ++ [125]).toArray⟩:ByteArray)=_
 rw [Go.Lib.decDigits_one (by decide)]; rfl
theorem Zgh:numS 1=⟨#[49]⟩:=by unfold numS; rw [Go.Lib.decDigits_one (by decide)]; rfl
theorem Zgi:numS 2=⟨#[50]⟩:=by unfold numS; rw [Go.Lib.decDigits_one (by decide)]; rfl
theorem ZfM:textS (6,0)=⟨#[49,32,50]⟩:=by
 have e1:mem ((6:Nat) ||| 0) = [1,2]:=by decide +kernel
 have h:litsS (6,0) [1,2] = [⟨#[49]⟩,⟨#[50]⟩]:=by
  unfold litsS litS
  simp only [List.flatMap_cons,List.flatMap_nil]
  rw [Zgh,Zgi]
  rfl
 unfold textS
 show (if litsS (6,0) (mem (6 ||| 0)) = [] then _ else joinS (litsS (6,0) (mem (6 ||| 0))) ⟨#[32]⟩)=_
 rw [e1,h,if_neg (by simp)]
 rfl
theorem ZfN:sentW (2,4) numS=⟨#[104,97,115,32,49,44,32,108,97,99,107,115,32,50]⟩:=by
 have e1:mem (2:Nat) = [1]:=by decide +kernel
 have e2:mem (4:Nat) = [2]:=by decide +kernel
 have h:partsW (2,4) numS = [⟨#[104,97,115,32,49]⟩,⟨#[108,97,99,107,115,32,50]⟩]:=by
  show (if (2:Nat)=0 then [] else [partB hasW 2 numS])++(if (4:Nat)=0 then [] else [partB lacksW 4 numS])=_
  rw [if_neg (by decide),if_neg (by decide)]
  unfold partB
  rw [e1,e2]
  simp only [List.map]
  rw [Zgh,Zgi]
  rfl
 unfold sentW
 rw [h,if_neg (by simp)]
 rfl
section
variable {P:Program} {e:Env} {h:Heap} {n:Nat}
theorem ZaH {k:Nat} {p q:PV} (hk:e k=some p) (hr:RenP (fun i=>i) (fun _=>False) p q):SubA n e h n (e.upd k q) h:=by
 rintro C a w ⟨F,φ,s⟩
 refine⟨F,φ,{ s with env:=fun j r hq=>?_ }⟩
 by_cases hj:j=k
 · subst hj
   rw [Env.upd_same] at hq
   cases hq
   exact⟨(s.env j p hk).1,hr.rep (fun i x hd _=>hd.elim) (s.env j p hk).2⟩
 · rw [Env.upd_ne _ _ hj] at hq
   exact s.env j r hq
end
theorem Z5Q (l:List Int) (N:Nat) (h:maskTo (topOf l) l=N) (fl:Bool):Spec Tryz.prog 14 [.vec (nums l) fl] (· = setN N):=h▸Z6X l fl
theorem ZeS:Made6 fmF:=⟨⟨by decide +kernel,by decide +kernel⟩,by decide,by decide,by decide,by decide +kernel⟩
theorem ZeT:Made6 fmG:=⟨⟨by decide +kernel,by decide +kernel⟩,by decide,by decide,by decide,by decide +kernel⟩
theorem Z6C (S:List Nat) (b:Nat) (hb:1≤b∧b<64) (hab:4≠b):Spec Tryz.prog 12 [hierP [] S,.val (.int .i64 4),.val (.int .i64 (b:Int))] fun r=>∃ S',r=.tup [hierP [(4,b)] S',.val (.int .i64 0)]:=by
 refine (Z8k [] S 4 b (by decide) hb hab (fun p hp=>by cases hp) List.nodup_nil (by simp) ⟨fun x=>if x=4 then 0 else 1,fun p hp=>by
  rw [List.nil_append,List.mem_singleton] at hp
  subst hp
  simp [Ne.symm hab]⟩ (by decide)).mono ?_
 rintro r ⟨l',S',h1,h2,rfl⟩
 obtain rfl:=List.perm_singleton.1 h1
 exact⟨S',rfl⟩
theorem Z9H (S:List Nat):Spec Tryz.prog 12 [hierP [(4,1)] S,.val (.int .i64 4),.val (.int .i64 2)] fun r=>∃ S',r=.tup [hierP [(4,1),(4,2)] S',.val (.int .i64 0)]:=by
 refine (Z8k [(4,1)] S 4 2 (by decide) (by decide) (by decide) (fun p hp=>ZdD p (by rw [List.mem_singleton] at hp; subst hp; simp)) (by simp) (by simp) ⟨fun x=>if x=4 then 0 else 1,fun p hp=>by
  rw [List.singleton_append] at hp
  simp only [List.mem_cons,List.not_mem_nil,or_false] at hp
  rcases hp with rfl|rfl<;>simp⟩ (by decide)).mono ?_
 rintro r ⟨l',S',h1,h2,rfl⟩
 rw [List.singleton_append] at h1
 have hl:=h1.length_eq
 match l',h1,h2,hl with
 | [x, y], h1, h2, _ =>
   have hx:x∈[((4,1):Pr),(4,2)]:=h1.mem_iff.1 (by simp)
   have hy:y∈[((4,1):Pr),(4,2)]:=h1.mem_iff.1 (by simp)
   have hs:=(List.pairwise_cons.1 h2).1 y (by simp)
   simp only [List.mem_cons,List.not_mem_nil,or_false] at hx hy
   rcases hx with rfl|rfl<;>rcases hy with rfl|rfl
   · simp at hs
   · exact⟨S',rfl⟩
   · simp at hs
   · simp at hs
theorem ZeU {r:PV} (hr:RepR fmF 24 (gdR fmF [(4,1),(4,2)] 24) r):∃ fl,r=.tup [.vec [stC 16] fl,.val (.int .i64 0)]:=by
 cases hr with
 | bad h=>exact absurd ZdB h
 | sm _ hs =>
   cases hs with
   | many h=>exact absurd h (by decide +kernel)
   | found _ out fl hm hso =>
     obtain rfl:=Z8h hm Zgc (fun s h=>by rcases Zfb h with rfl|rfl|rfl|rfl<;>decide) hso Zge
     exact⟨fl,rfl⟩
theorem ZeV {r:PV} (hr:RepR fmG (minusN 20 10) (gdA fmG [(4,2)] 10) r):∃ fl,r=.tup [.vec [stC 4,stC 16] fl,.val (.int .i64 0)]:=by
 have e:minusN 20 10=20:=by decide +kernel
 rw [e] at hr
 cases hr with
 | bad h=>exact absurd ZdC h
 | sm _ hs =>
   cases hs with
   | many h=>exact absurd h (by decide +kernel)
   | found _ out fl hm hso =>
     obtain rfl:=Z8h hm Zgd (fun s h=>by rcases ZaG h with rfl|rfl|rfl|rfl<;>decide) hso Zgf
     exact⟨fl,rfl⟩
def boxF:List PV := [.val (.int .u8 11),.val (.int .i64 0),.vec [] true,.vec [[.val (.int .u8 5),.val (.int .i64 0),.vec (nums [1,2,3]) true,.vec [] true],[.val (.int .u8 1),.val (.int .i64 1),.vec [] true,.vec [] true]] true]
def boxG:List PV := [.val (.int .u8 10),.val (.int .i64 0),.vec [] true,.vec [[.val (.int .u8 4),.val (.int .i64 0),.vec (nums [1]) true,.vec [] true],[.val (.int .u8 4),.val (.int .i64 0),.vec (nums [2]) true,.vec [] true]] true]
theorem ZaI:(PV.cp boxF).low=.cp (fC .u8 fmF):=rfl
theorem ZaJ:(PV.cp boxG).low=.cp (fC .u8 fmG):=rfl
theorem ZdE:pureL boxF:=⟨trivial,trivial,trivial,⟨⟨trivial,trivial,Z9 _,trivial,trivial⟩,⟨trivial,trivial,trivial,trivial,trivial⟩,trivial⟩,trivial⟩
theorem ZdF:pureL boxG:=⟨trivial,trivial,trivial,⟨⟨trivial,trivial,Z9 _,trivial,trivial⟩,⟨trivial,trivial,Z9 _,trivial,trivial⟩,trivial⟩,trivial⟩
theorem Zgs:RenP (fun i=>i) (fun _=>False) (.cp boxF) (.cp (fC .u8 fmF)):=ZaI▸RenP.low (.cp boxF) (by rw [ZaI]; exact Zm _ _)
theorem Zgt:RenP (fun i=>i) (fun _=>False) (.cp boxG) (.cp (fC .u8 fmG)):=ZaJ▸RenP.low (.cp boxG) (by rw [ZaJ]; exact Zm _ _)
set_option maxRecDepth 100000 in
set_option maxHeartbeats 16000000 in
theorem Z8q:Spec Tryz.prog 4 [] (· = .val (.bool true)):=by
 have hpf:=Zm .u8 fmF
 have hpg:=Zm .u8 fmG
 refine Z2 ok4 (Nat.le_of_ble_eq_true rfl) fun C hC=>?_
 (repeat'(first|refine Z4 22 ?_|refine Z0 22 ?_|refine st ?_|(apply B<;>intro hb<;>try cases hb)))<;>try refine At.mk ?_
 refine Zg (Z18 (k:=1) (l:=boxF) rfl rfl ZdE) ?_
 refine Zg (ZaH (k:=1) rfl Zgs) ?_
 (repeat'(first|refine Z4 29 ?_|refine Z0 29 ?_|refine st ?_|(apply B<;>intro hb<;>try cases hb)))<;>try refine At.mk ?_
 refine Zg (Z18 (k:=2) (l:=boxG) rfl rfl ZdF) ?_
 refine Zg (ZaH (k:=2) rfl Zgt) ?_
 refine Zz rfl rfl Z4w trivial rfl ?_
 rintro r ⟨S0,rfl⟩
 (repeat'(first|refine Z4 30 ?_|refine Z0 30 ?_|refine st ?_|(apply B<;>intro hb<;>try cases hb)))<;>try refine At.mk ?_
 refine Zz rfl rfl (Z6C S0 1 (by decide) (by decide)) ⟨ZF _ _,trivial,trivial,trivial⟩ rfl ?_
 rintro r ⟨S1,rfl⟩
 (repeat'(first|refine Z4 35 ?_|refine Z0 35 ?_|refine st ?_|(apply B<;>intro hb<;>try cases hb)))<;>try refine At.mk ?_
 refine Zz rfl rfl (Z9H S1) ⟨ZF _ _,trivial,trivial,trivial⟩ rfl ?_
 rintro r ⟨S2,rfl⟩
 (repeat'(first|refine Z4 39 ?_|refine Z0 39 ?_|refine st ?_|(apply B<;>intro hb<;>try cases hb)))<;>try refine At.mk ?_
 refine Zz rfl rfl Z4w trivial rfl ?_
 rintro r ⟨S3,rfl⟩
 (repeat'(first|refine Z4 40 ?_|refine Z0 40 ?_|refine st ?_|(apply B<;>intro hb<;>try cases hb)))<;>try refine At.mk ?_
 refine Zz rfl rfl (Z6C S3 2 (by decide) (by decide)) ⟨ZF _ _,trivial,trivial,trivial⟩ rfl ?_
 rintro r ⟨S4,rfl⟩
 (repeat'(first|refine Z4 56 ?_|refine Z0 56 ?_|refine st ?_|(apply B<;>intro hb<;>try cases hb)))<;>try refine At.mk ?_
 refine Zq (Z5Q [1,2,3] 14 (by decide +kernel) true) rfl rfl rfl ⟨Z9 _,trivial⟩ ?_
 (repeat'(first|refine Z4 57 ?_|refine Z0 57 ?_|refine st ?_|(apply B<;>intro hb<;>try cases hb)))<;>try refine At.mk ?_
 refine Zq (Zay fmF (by decide) (by decide) 14 (by decide)) rfl rfl rfl ⟨hpf,Z1 _,trivial⟩ ?_
 rw [Zga]
 (repeat'(first|refine Z4 63 ?_|refine Z0 63 ?_|refine st ?_|(apply B<;>intro hb<;>try cases hb)))<;>try refine At.mk ?_
 refine Zq (Z5Q [1,3] 10 (by decide +kernel) true) rfl rfl rfl ⟨Z9 _,trivial⟩ ?_
 (repeat'(first|refine Z4 64 ?_|refine Z0 64 ?_|refine st ?_|(apply B<;>intro hb<;>try cases hb)))<;>try refine At.mk ?_
 refine Zq (Zay fmG (by decide) (by decide) 10 (by decide)) rfl rfl rfl ⟨hpg,Z1 _,trivial⟩ ?_
 rw [Zgb]
 (repeat'(first|refine Z4 70 ?_|refine Z0 70 ?_|refine st ?_|(apply B<;>intro hb<;>try cases hb)))<;>try refine At.mk ?_
 refine Zq (Z5Q [3,4] 24 (by decide +kernel) true) rfl rfl rfl ⟨Z9 _,trivial⟩ ?_
 (repeat'(first|refine Z4 72 ?_|refine Z0 72 ?_|refine st ?_|(apply B<;>intro hb<;>try cases hb)))<;>try refine At.mk ?_
 refine Z6R rfl rfl (.inl rfl) (Z7s ZeS.holdsW (by decide) (by decide) [(4,1),(4,2)] S2 24 (by decide) (by decide)) ⟨hpf,Z1 _,ZF _ _,trivial⟩ ?_
 intro r hr
 obtain⟨fa,rfl⟩:∃ fl,r=.tup [.vec [stC 16] fl,.val (.int .i64 0)]:=ZeU hr
 (repeat'(first|refine Z4 78 ?_|refine Z0 78 ?_|refine st ?_|(apply B<;>intro hb<;>try cases hb)))<;>try refine At.mk ?_
 refine Zq (Z5Q [1,3] 10 (by decide +kernel) true) rfl rfl rfl ⟨Z9 _,trivial⟩ ?_
 (repeat'(first|refine Z4 80 ?_|refine Z0 80 ?_|refine st ?_|(apply B<;>intro hb<;>try cases hb)))<;>try refine At.mk ?_
 refine Zq (Z5Q [2,4] 20 (by decide +kernel) true) rfl rfl rfl ⟨Z9 _,trivial⟩ ?_
 (repeat'(first|refine Z4 82 ?_|refine Z0 82 ?_|refine st ?_|(apply B<;>intro hb<;>try cases hb)))<;>try refine At.mk ?_
 refine Z6R rfl rfl (.inl rfl) (Z5I ZeT.holdsW (by decide) (by decide) [(4,2)] S4 10 20 (by decide) (by decide) (by decide)) ⟨hpg,Z1 _,Z1 _,ZF _ _,trivial⟩ ?_
 intro r hr
 obtain⟨fb,rfl⟩:∃ fl,r=.tup [.vec [stC 4,stC 16] fl,.val (.int .i64 0)]:=ZeV hr
 (repeat'(first|refine Z4 99 ?_|refine Z0 99 ?_|refine st ?_|(apply B<;>intro hb<;>try cases hb)))<;>try refine At.mk ?_
 refine Zv rfl ?_
 refine Z7 (ZbO (6,0) ⟨by decide,by decide⟩) rfl rfl rfl ⟨Z2u _,trivial⟩ rfl ?_
 rw [ZfM]
 (repeat'(first|refine Z4 104 ?_|refine Z0 104 ?_|refine st ?_|(apply B<;>intro hb<;>try cases hb)))<;>try refine At.mk ?_
 refine Zv rfl ?_
 refine Z7 (Z4e namesNil (2,4) ⟨by decide,by decide⟩) rfl rfl rfl ⟨Z2u _,trivial,trivial⟩ rfl ?_
 rw [ZfN]
 (repeat'(first|refine Z4 116 ?_|refine Z0 116 ?_|refine st ?_|(apply B<;>intro hb<;>try cases hb)))<;>try refine At.mk ?_
 refine Zv rfl ?_
 refine Z7 (Z4d 16 (by decide)) rfl rfl rfl ⟨Z1 _,trivial⟩ rfl ?_
 rw [Zfc]
 (repeat'(first|refine Z4 128 ?_|refine Z0 128 ?_|refine st ?_|(apply B<;>intro hb<;>try cases hb)))<;>try refine At.mk ?_
 refine Zv rfl ?_
 refine Z7 (Z4d 4 (by decide)) rfl rfl rfl ⟨Z1 _,trivial⟩ rfl ?_
 rw [Zgg]
 (repeat'(first|refine Z4 135 ?_|refine Z0 135 ?_|refine st ?_|(apply B<;>intro hb<;>try cases hb)))<;>try refine At.mk ?_
 refine Zv rfl ?_
 refine Z7 (Z4d 16 (by decide)) rfl rfl rfl ⟨Z1 _,trivial⟩ rfl ?_
 rw [Zfc]
 (refine go ?_;repeat' (apply B<;>intro hb<;>try cases hb))
 all_goals first|exact Z3 rfl trivial rfl|(exfalso; simp_all)
theorem Zgj {x:RawX} (hx:RawXok x):(fitC x).1<256∧(fitC x).2<256:=by
 obtain⟨a,b,o⟩:=x
 obtain⟨ha,hb⟩:a<256∧b<256:=hx
 unfold fitC makC
 dsimp only
 split
 · exact⟨Nat.lt_of_le_of_lt Nat.and_le_left ha,Nat.lt_of_le_of_lt Nat.and_le_left hb⟩
 · have h1 : a &&& b &&& 63 ≤ 63 := Nat.and_le_right
   have h2:a &&& 63 &&& (255-b)≤63:=Nat.le_trans Nat.and_le_left Nat.and_le_right
   exact⟨by show 2*(a &&& b &&& 63)<256; omega,by show 2*(a &&& 63 &&& (255-b))<256; omega⟩
theorem Zgk {e:Env} {h:Heap} {n:Nat} {x y:Operand} {s t:ByteArray} (hx:ev e x=some (.val (.string s))) (hy:ev e y=some (.val (.string t))) (hz:s.size+t.size≤9223372036854775807):dEval (.bin .add .num x y) e h n=some (.val (.string (s++t)),h):=by
 simp [dEval,hx,hy,pbin,sbin,hz]
def nmV (i:Nat):ByteArray:=(⟨#[114]⟩:ByteArray)++(⟨#[48,49,50,51,52,53,54,55,56,57]⟩:ByteArray).extract i (i+1)
def nmU (n:Nat):List ByteArray:=(List.range n).map fun j=>nmV (j+1)
set_option maxHeartbeats 2000000 in
theorem Z9I (n:Nat) (hn:n≤7):Spec Tryz.prog 6 [.val (.int .i64 (n:Int))] (· = .vec ((nmU n).map strC) false):=by
 refine Z2 ok6 (Nat.le_of_ble_eq_true rfl) fun C hC=>?_
 repeat' (first|refine Zg (ZH (k:=3) rfl 1 (by decide)) ?_|(first|refine st ?_|(apply B<;>intro hb<;>try cases hb)))
 refine Z1Y hC (fun i=>i≤n) (fun i=>n-i) 1 (fun i => [(0,.val (.int .i64 (n:Int))),(3,.own 0),(4,.val (.int .i64 ((i+1:Nat):Int)))])
  (fun i => [(0,⟨1,(nmU i).map strC⟩)]) (by omega) 0 (Nat.zero_le _) (fun i=>i) (fun _ _=>rfl) ZU
  ⟨⟨_,rfl,.pure _ trivial⟩,⟨_,rfl,.own 0 (by decide)⟩,⟨_,rfl,.pure _ trivial⟩,trivial⟩ ⟨⟨by decide,_,rfl,.same _ trivial⟩,trivial⟩ ?_
 intro i hi
 have hinc:IntKind.i64.wrap (((i+1:Nat):Int)+1)=((i+1+1:Nat):Int):=IntWalk.i64_in _ ⟨by omega,by omega⟩
 have hnl:(nmU i).length=i:=by simp [nmU]
 (repeat'(first|refine Z4 7 ?_|refine Z0 7 ?_|refine st ?_|(apply B<;>intro hb<;>try cases hb)))<;>try refine At.mk ?_
 refine Zs rfl rfl rfl (fun hb=>?_) (fun hb=>?_)
 · have hin : i < n := by have := of_decide_eq_true hb; omega
   clear hb
   have d1:decide (((i+1:Nat):Int)<10)=true:=decide_eq_true (by omega)
   (repeat'(first|refine Z4 11 ?_|refine Z0 11 ?_|refine st ?_|(apply B<;>intro hb<;>try cases hb)))<;>try refine At.mk ?_
   refine Z5 (Zf rfl d1) rfl rfl ?_
   (repeat'(first|refine Z4 15 ?_|refine Z0 15 ?_|refine st ?_|(apply B<;>intro hb<;>try cases hb)))<;>try refine At.mk ?_
   refine Zo rfl rfl rfl hinc ?_
   refine Z5 (Zfa (a:=i+1) (b:=i+1+1) rfl rfl rfl (by omega) (show i+1+1≤10 by omega)) rfl rfl ?_
   refine Z5 (Zgk rfl rfl (by
    rw [ByteArray.size_extract]
    show 1+(min (i+1+1) 10-(i+1))≤_
    omega)) rfl rfl ?_
   (repeat'(first|refine Z4 19 ?_|refine Z0 19 ?_|refine st ?_|(apply B<;>intro hb<;>try cases hb)))<;>try refine At.mk ?_
   have happ:(nmU i).map strC ++ [strC (nmV (i+1))]=(nmU (i+1)).map strC:=by simp [nmU,List.range_succ]
   refine ZL (ZQ (k:=0) (m := [strC (nmV (i+1))]) (fl:=true) (b:=⟨1,(nmU i).map strC⟩) rfl rfl rfl (fun q hq=>by rw [List.mem_singleton] at hq; subst hq; rfl) rfl (by
    show (((nmU i).map strC).length+1)*16≤_
    rw [List.length_map];omega)) rfl rfl ?_
   simp only
   rw [happ]
   (refine go ?_;repeat' (apply B<;>intro hb<;>try cases hb))
   exact⟨i+1,mv 0 1,hin,by omega,fun j hj=>absurd hj (Nat.not_lt_zero _),ZE rfl,
    ⟨⟨_,rfl,.pure _ trivial⟩,⟨_,rfl,.own 0 (by decide)⟩,⟨_,by show some _=some _; rw [hinc],.pure _ trivial⟩,trivial⟩,⟨⟨by decide,_,rfl,.same _ (Zc _)⟩,trivial⟩⟩
 · have hin : i = n := by have := of_decide_eq_false hb; omega
   subst hin
   clear hb
   (repeat'(first|refine Z4 37 ?_|refine Z0 37 ?_|refine st ?_|(apply B<;>intro hb<;>try cases hb)))<;>try refine At.mk ?_
   refine Zg (Zk (k:=3) rfl rfl (Zc _)) ?_
   (refine go ?_;repeat' (apply B<;>intro hb<;>try cases hb))
   exact Z3 rfl (Zc _) rfl
theorem ZfO:nmR []=numS:=funext fun r=>by
 unfold nmR
 rw [if_neg (by simp;omega)]
theorem Z4f (k:Nat):(nmU k).length=k:=by simp [nmU]
theorem Z8r {k:Nat} (hk:k≤7):∀ x∈nmU k,x.data.toList.length≤100:=fun x hx=>by
 obtain⟨j,hj,rfl⟩:=List.mem_map.1 hx
 rw [← bsize]
 unfold nmV
 rw [ByteArray.size_append,ByteArray.size_extract]
 rw [List.mem_range] at hj
 show 1+(min (j+1+1) 10-(j+1))≤_
 omega
def TableOk:Prop:=∀ k,k≤7→Spec Tryz.prog 7 [.vec ((nmU k).map strC) false] fun r=>∃ l,r=.cp l∧NamesW r (nmR (nmU k))
set_option maxHeartbeats 8000000 in
theorem Z4g (hT:TableOk) (x:RawX) (n:Nat) (hx:RawXok x) (hn:n<256):Spec Tryz.prog 3 [.agg (rawC x),.val (.int .u8 (n:Int))] (· = .val (.bool true)):=by
 obtain⟨hc1,hc2⟩:=Zgj hx
 have hc:Ok64 (fitC x):=⟨by omega,by omega⟩
 have hk:n % 8≤7:=by omega
 refine Z2 ok3 (Nat.le_of_ble_eq_true rfl) fun C hC=>?_
 (repeat'(first|refine Z4 8 ?_|refine Z0 8 ?_|refine st ?_|(apply B<;>intro hb<;>try cases hb)))<;>try refine At.mk ?_
 refine Z7 Z8q rfl rfl rfl trivial rfl ?_
 (repeat'(first|refine Z4 11 ?_|refine Z0 11 ?_|refine st ?_|(apply B<;>intro hb<;>try cases hb)))<;>try refine At.mk ?_
 refine Z7 (ZbH x hx) rfl rfl rfl ⟨Zdm x,trivial⟩ rfl ?_
 generalize fitC x=c at hc1 hc2 hc ⊢
 (repeat'(first|refine Z4 13 ?_|refine Z0 13 ?_|refine st ?_|(apply B<;>intro hb<;>try cases hb)))<;>try refine At.mk ?_
 refine Z5 (Z2p (v:=((n % 8:Nat):Int)) rfl (Int.ofNat_tmod n 8).symm) rfl rfl ?_
 refine Z5 (Z2p (v:=((n % 8:Nat):Int)) rfl (IntWalk.i64_in _ ⟨by omega,by omega⟩)) rfl rfl ?_
 generalize n % 8=k at hk ⊢
 refine Z7 (Z9I k hk) rfl rfl rfl ⟨trivial,trivial⟩ rfl ?_
 have hus:=Z8r hk
 have hul:=Z4f k
 have hTk:=hT k hk
 generalize nmU k=ns at hus hul hTk ⊢
 have hnp:=Zc ns
 (repeat'(first|refine Z4 17 ?_|refine Z0 17 ?_|refine st ?_|(apply B<;>intro hb<;>try cases hb)))<;>try refine At.mk ?_
 refine Zz rfl rfl hTk ⟨hnp,trivial⟩ rfl ?_
 rintro r ⟨l,rfl,hN⟩
 have htp:=hN.pure
 have hr1:=Z6B c hc1 hc2 ns false hus (by omega)
 have hr2:=Z6B c hc1 hc2 [] true (fun x hx=>by cases hx) (by decide)
 rw [ZfO] at hr2
 (repeat'(first|refine Z4 22 ?_|refine Z0 22 ?_|refine st ?_|(apply B<;>intro hb<;>try cases hb)))<;>try refine At.mk ?_
 refine Z3d rfl ?_
 refine Zq (Z5v c hc) rfl rfl rfl ⟨Z3O c,trivial⟩ ?_
 (repeat'(first|refine Z4 24 ?_|refine Z0 24 ?_|refine st ?_|(apply B<;>intro hb<;>try cases hb)))<;>try refine At.mk ?_
 refine Z3d rfl ?_
 refine Zq (Z4e hN c hc) rfl rfl rfl ⟨Z2u c,htp,trivial⟩ ?_
 (repeat'(first|refine Z4 27 ?_|refine Z0 27 ?_|refine st ?_|(apply B<;>intro hb<;>try cases hb)))<;>try refine At.mk ?_
 refine Z3d rfl ?_
 refine Zq hr1 rfl rfl rfl ⟨Z3O c,hnp,trivial⟩ ?_
 refine Z3d rfl ?_
 refine Zp (Zf (v:=true) rfl (by simp)) rfl rfl ?_
 (repeat'(first|refine Z4 32 ?_|refine Z0 32 ?_|refine st ?_|(apply B<;>intro hb<;>try cases hb)))<;>try refine At.mk ?_
 refine Z3d rfl ?_
 refine Zq (Z5v c hc) rfl rfl rfl ⟨Z3O c,trivial⟩ ?_
 refine Z3d rfl ?_
 refine Zq (Z4e namesNil c hc) rfl rfl rfl ⟨Z2u c,trivial,trivial⟩ ?_
 (repeat'(first|refine Z4 35 ?_|refine Z0 35 ?_|refine st ?_|(apply B<;>intro hb<;>try cases hb)))<;>try refine At.mk ?_
 refine Z3d rfl ?_
 refine Zq hr2 rfl rfl rfl ⟨Z3O c,trivial,trivial⟩ ?_
 refine Z3d rfl ?_
 refine Zp (Zf (v:=true) rfl (by simp)) rfl rfl ?_
 (refine go ?_;repeat' (apply B<;>intro hb<;>try cases hb))
 exact Z3 rfl trivial rfl
theorem Z4R (l:List ByteArray):(l.map strC).length=l.length:=by simp
theorem Z9J (xs:List ByteArray) (v:ByteArray) (fl:Bool):Spec Tryz.prog 144 [.vec (xs.map strC) fl,.val (.string v)] (· = .val (.int .i64 (idxI (fun x=>v.toList == x.toList) xs))):=by
 have hnl:=Z4R xs
 have hpi:∀ D,innLL D (xs.map strC):=fun D=>Zi (fun _ h=>h.elim) _ (Zc xs)
 refine Z2 ok144 (Nat.le_of_ble_eq_true rfl) fun C hC=>?_
 refine Z3B (k:=0) rfl fun hmax=>?_
 have hlm:xs.length≤maxVec:=by rw [← hnl]; exact hmax
 (refine go ?_;repeat' (apply B<;>intro hb<;>try cases hb))
 refine ZD hC (fun i=>i≤xs.length∧(xs.take i).any (fun x=>v.toList == x.toList)=false) (fun i=>xs.length-i) 0 (fun i => [(0,.vec (xs.map strC) fl),(1,.val (.string v)),(7,.val (.int .i64 (xs.length:Int))),(8,.val (.int .i64 (i:Int)))]) (fun _=>[]) (Nat.zero_le _) 0 ⟨Nat.zero_le _,rfl⟩ ⟨⟨rfl,hpi _⟩,⟨rfl,trivial⟩,⟨by rw [← hnl]; rfl,trivial⟩,⟨rfl,trivial⟩,trivial⟩ trivial ?_
 rintro i ⟨hi,hno⟩
 have hinc:IntKind.i64.wrap ((i:Int)+1)=((i+1:Nat):Int):=IntWalk.i64_in _ ⟨by omega,by simp only [maxVec] at hlm; omega⟩
 (repeat'(first|refine Z4 9 ?_|refine Z0 9 ?_|refine st ?_|(apply B<;>intro hb<;>try cases hb)))<;>try refine At.mk ?_
 refine Zs rfl rfl rfl (fun hb=>?_) (fun hb=>?_)
 · have hil : i < xs.length := by have := of_decide_eq_true hb; omega
   clear hb
   (refine go ?_;repeat' (apply B<;>intro hb<;>try cases hb))
   refine Z5 (Zl (xs:=xs) (g:=strC) rfl rfl i rfl hil rfl) rfl rfl ?_
   iterate 1 (first|refine st ?_|(apply B<;>intro hb<;>try cases hb))
   refine Zs rfl rfl rfl (fun hx=>?_) (fun hx=>?_)
   · (refine go ?_;repeat' (apply B<;>intro hb<;>try cases hb))
     exact Z3 rfl trivial (by rw [Z79 hil hno hx])
   · (refine go ?_;repeat' (apply B<;>intro hb<;>try cases hb))
     exact⟨i+1,⟨by omega,Z4N hil hno hx⟩,by omega,⟨⟨rfl,hpi _⟩,⟨rfl,trivial⟩,⟨rfl,trivial⟩,⟨by show some _=some _; rw [hinc],trivial⟩,trivial⟩,trivial⟩
 · have hil : i = xs.length := by have := of_decide_eq_false hb; omega
   subst hil
   rw [List.take_length] at hno
   (refine go ?_;repeat' (apply B<;>intro hb<;>try cases hb))
   exact Z3 rfl trivial (by rw [Z2J hno]; rfl)
theorem Z5Y (xs:List ByteArray) (v:ByteArray) (fl:Bool):Spec Tryz.prog 112 [.vec (xs.map strC) fl,.val (.string v)] (· = .val (.bool (decide (idxI (fun x=>v.toList == x.toList) xs≥0)))):=by
 refine Z2 ok112 (Nat.le_of_ble_eq_true rfl) fun C hC=>?_
 (repeat'(first|refine Z4 7 ?_|refine Z0 7 ?_|refine st ?_|(apply B<;>intro hb<;>try cases hb)))<;>try refine At.mk ?_
 refine Z7 (Z9J xs v fl) rfl rfl rfl ⟨Zc xs,trivial,trivial⟩ rfl ?_
 (repeat'(first|refine Z4 8 ?_|refine Z0 8 ?_|refine st ?_|(apply B<;>intro hb<;>try cases hb)))<;>try refine At.mk ?_
 refine Z3c (v:=decide (idxI (fun x=>v.toList == x.toList) xs≥0)) rfl rfl rfl rfl ?_
 generalize decide (idxI (fun x=>v.toList == x.toList) xs≥0)=b
 (refine go ?_;repeat' (apply B<;>intro hb<;>try cases hb))
 all_goals exact Z3 rfl trivial rfl
def kwL:List ByteArray := [⟨#[97,108,108]⟩,⟨#[97,110,100]⟩,⟨#[97,115,115,105,103,110]⟩,⟨#[98,121]⟩,⟨#[99,111,117,110,116]⟩,⟨#[100,101,99,108,97,114,101]⟩,⟨#[100,121,110,97,109,105,99]⟩,⟨#[101,110,102,111,114,99,101]⟩,⟨#[102,97,108,115,101]⟩,⟨#[102,111,114]⟩,⟨#[105,102]⟩,⟨#[109,101,109,98,101,114,115]⟩,⟨#[110,111,110,101]⟩,⟨#[110,111,116]⟩,⟨#[111,110]⟩,⟨#[111,114]⟩,⟨#[114,101,118,111,107,101]⟩,⟨#[115,116,97,116,105,99]⟩,⟨#[116,114,117,101]⟩,⟨#[117,115,101,114,115]⟩]
theorem ZeW:Spec Tryz.prog 113 [] (· = .vec (kwL.map strC) true):=by
 refine Z2 ok113 (Nat.le_of_ble_eq_true rfl) fun C hC=>?_
 (refine go ?_;repeat' (apply B<;>intro hb<;>try cases hb))
 exact Z3 rfl (Zc kwL) rfl
theorem ZfP:∀ d∈[49,50,51,52,53,54,55],idxI (fun x=>(⟨#[114,d]⟩:ByteArray).toList == x.toList) kwL = -1:=by
 intro d hd
 simp only [List.mem_cons,List.not_mem_nil,or_false] at hd
 rcases hd with rfl|rfl|rfl|rfl|rfl|rfl|rfl<;>kernel_rfl
theorem Z5R (c:Nat):Spec Tryz.prog 114 [.val (.int .u8 (c:Int))] (· = .val (.bool (decide (97≤c∧c≤122)))):=by
 refine Z2 ok114 (Nat.le_of_ble_eq_true rfl) fun C hC=>?_
 (refine go ?_;repeat' (apply B<;>intro hb<;>try cases hb))
 all_goals
  simp only [decide_eq_true_eq,decide_eq_false_iff_not] at *
  first
   | exact Z3 rfl trivial (by rw [decide_eq_true (show 97≤c∧c≤122 by omega)])
   | exact Z3 rfl trivial (by rw [decide_eq_false (show ¬ (97≤c∧c≤122) by omega)])
def letP:PV:=.cp [.fn 114 []]
theorem Z8s:letP.pure:=⟨trivial,trivial⟩
theorem Z6D (c:Nat) (hc:(97≤c∧c≤122) ∨ (48≤c∧c≤57)):Spec Tryz.prog 115 [.val (.int .u8 (c:Int)),letP] (· = .val (.bool true)):=by
 refine Z2 ok115 (Nat.le_of_ble_eq_true rfl) fun C hC=>?_
 (repeat'(first|refine Z4 6 ?_|refine Z0 6 ?_|refine st ?_|(apply B<;>intro hb<;>try cases hb)))<;>try refine At.mk ?_
 refine Z7 (Z5R c) rfl rfl rfl ⟨trivial,trivial⟩ rfl ?_
 by_cases h1:97≤c∧c≤122
 · rw [decide_eq_true h1]
   (refine go ?_;repeat' (apply B<;>intro hb<;>try cases hb))
   exact Z3 rfl trivial rfl
 · rw [decide_eq_false h1]
   have d1:decide ((c:Int)≥48)=true:=decide_eq_true (by omega)
   have d2:decide ((c:Int)≤57)=true:=decide_eq_true (by omega)
   (repeat'(first|refine Z4 9 ?_|refine Z0 9 ?_|refine st ?_|(apply B<;>intro hb<;>try cases hb)))<;>try refine At.mk ?_
   refine Zv rfl ?_
   refine Z5 (Zf rfl d1) rfl rfl ?_
   (repeat'(first|refine Z4 12 ?_|refine Z0 12 ?_|refine st ?_|(apply B<;>intro hb<;>try cases hb)))<;>try refine At.mk ?_
   refine Zv rfl ?_
   refine Z5 (Zf rfl d2) rfl rfl ?_
   (refine go ?_;repeat' (apply B<;>intro hb<;>try cases hb))
   exact Z3 rfl trivial rfl
theorem Z5S (d:UInt8) (hd:d∈[49,50,51,52,53,54,55]):Spec Tryz.prog 86 [.val (.string ⟨#[114,d]⟩)] (· = .val (.bool true)):=by
 have hkw:=Z5Y kwL ⟨#[114,d]⟩ true
 rw [ZfP d hd] at hkw
 have hdn:48≤d.toNat∧d.toNat≤57:=by
  simp only [List.mem_cons,List.not_mem_nil,or_false] at hd
  rcases hd with rfl|rfl|rfl|rfl|rfl|rfl|rfl<;>decide
 refine Z2 ok86 (Nat.le_of_ble_eq_true rfl) fun C hC=>?_
 (repeat'(first|refine Z4 15 ?_|refine Z0 15 ?_|refine st ?_|(apply B<;>intro hb<;>try cases hb)))<;>try refine At.mk ?_
 refine Zv rfl ?_
 refine Z7 ZeW rfl rfl rfl trivial rfl ?_
 (repeat'(first|refine Z4 17 ?_|refine Z0 17 ?_|refine st ?_|(apply B<;>intro hb<;>try cases hb)))<;>try refine At.mk ?_
 refine Zv rfl ?_
 refine Z7 hkw rfl rfl rfl ⟨Zc kwL,trivial,trivial⟩ rfl ?_
 (repeat'(first|refine Z4 19 ?_|refine Z0 19 ?_|refine st ?_|(apply B<;>intro hb<;>try cases hb)))<;>try refine At.mk ?_
 refine Zg (Z18 (k:=3) (l := [.fn 114 []]) rfl rfl ⟨trivial,trivial⟩) ?_
 (refine go ?_;repeat' (apply B<;>intro hb<;>try cases hb))
 refine ZT 2 ?_
 unfold roundsQ
 (repeat'(first|refine Z4 29 ?_|refine Z0 29 ?_|refine st ?_|(apply B<;>intro hb<;>try cases hb)))<;>try refine At.mk ?_
 refine Zq (Z6D 114 (.inl (by decide))) rfl rfl rfl ⟨trivial,Z8s,trivial⟩ ?_
 (repeat'(first|refine Z4 39 ?_|refine Z0 39 ?_|refine st ?_|(apply B<;>intro hb<;>try cases hb)))<;>try refine At.mk ?_
 refine Z3d rfl ?_
 refine Zq (Z5R 114) rfl rfl rfl ⟨trivial,trivial⟩ ?_
 (refine go ?_;repeat' (apply B<;>intro hb<;>try cases hb))
 unfold roundsQ
 (repeat'(first|refine Z4 29 ?_|refine Z0 29 ?_|refine st ?_|(apply B<;>intro hb<;>try cases hb)))<;>try refine At.mk ?_
 refine Zq (Z6D d.toNat (.inr hdn)) rfl rfl rfl ⟨trivial,Z8s,trivial⟩ ?_
 (refine go ?_;repeat' (apply B<;>intro hb<;>try cases hb))
 exact Z3 rfl trivial rfl
end Go.Proofs.YtojlnagiaibgkaaGreatDoor
namespace Go.Proofs.YtojlnagiaibgkaaGreatDoor
open Go.Shelf
def Z8t:Go.Shelf.Ren:=⟨fun|5=>88|7=>116|n=>n,fun|23=>136|25=>9|3=>3|4=>4|20=>20|n=>n,fun|n=>n⟩
theorem mapClone:Go.Proofs.SlLaysW.n5 Tryz.prog Z8t:={
 mixed:=by kernel_rfl
 f5:=⟨Tryz.f88.name,by decide,Tryz.func88.trans (congrArg some (by kernel_rfl))⟩
 f7:=Tryz.func116.trans (congrArg some (by kernel_rfl))
 t4:=Tryz.underlying4
 a4:=Tryz.isAgg4
 z4:=Tryz.sizeOf4
 v4:=Tryz.zeroValue4
 t20:=Tryz.underlying20
 a20:=Tryz.isAgg20
 z20:=Tryz.sizeOf20
 v20:=Tryz.zeroValue20
 t23:=Tryz.underlying136
 a23:=Tryz.isAgg136
 z23:=Tryz.sizeOf136
 v23:=Tryz.zeroValue136 }
end Go.Proofs.YtojlnagiaibgkaaGreatDoor
namespace Go.Proofs.YtojlnagiaibgkaaGreatDoor
open Go.RowKit
attribute [local irreducible] aw opsK dK
theorem hasBodyT {P:Program} {f nt:Nat} {ac:ACode} {rs:List ARes} (hf:FnOk P f nt ac rs):HasBody P f:=by
 obtain⟨hm,fn,c,hfn,hname,hb,rfl,hc,hr⟩:=hf
 exact⟨fn,hfn,hname,by rw [hb]; rfl⟩
set_option maxHeartbeats 1000000 in
theorem Z6E (xs:List ByteArray) (fl:Bool) (hlen:xs.length≤1000000):NSpec Tryz.prog 87 [.vec (xs.map strC) fl] .own ⟨1,xs.map strC⟩:=by
 refine Z1V ok87 (Nat.le_of_ble_eq_true rfl) fun C hC=>?_
 have fin:∀ (x:ByteArray) (xs:List ByteArray),(∀ c∈(x :: xs).map strC,c.length=1):=fun x xs c hc=>by obtain⟨y,_,rfl⟩:=List.mem_map.1 hc; rfl
 cases xs with
 | nil =>
   (refine go ?_;repeat' (apply B<;>intro hb<;>try cases hb))
   refine Z6r (.inl ⟨_,_,rfl⟩) rfl fun b=>?_
   cases b
   · repeat' (first | refine Zg (ZH (k := 5) rfl 1 (by decide)) ?_ | (first|refine st ?_|(apply B<;>intro hb<;>try cases hb)))
     exact⟨_,_,rfl,.inl rfl,_,rfl,rfl⟩
   · iterate 6 (first|refine st ?_|(apply B<;>intro hb<;>try cases hb))
     refine Z2d (ZH (k:=2) rfl 1 (by decide) _) ?_
     (refine go ?_;repeat' (apply B<;>intro hb<;>try cases hb))
     exact⟨_,_,rfl,.inl rfl,_,rfl,rfl⟩
 | cons x xs =>
   repeat' (first|refine Zg (ZH (k:=5) rfl 1 (by decide)) ?_|(first|refine st ?_|(apply B<;>intro hb<;>try cases hb)))
   refine ZL (ZQ (k:=0) (m:=(x :: xs).map strC) (fl:=fl) rfl rfl rfl (fin x xs) rfl (by
    show (([]:List (List PV)).length+((x :: xs).map strC).length)*16≤_
    rw [List.length_map,List.length_nil];omega)) rfl rfl ?_
   (refine go ?_;repeat' (apply B<;>intro hb<;>try cases hb))
   exact⟨_,_,rfl,.inl rfl,_,rfl,by rw [List.nil_append]; rfl⟩
theorem Z7v:Spec Tryz.prog 88 [.val (.map none)] (· = .val (.map none)):=by
 refine Z2 ok88 (Nat.le_of_ble_eq_true rfl) fun C hC=>?_
 (refine go ?_;repeat' (apply B<;>intro hb<;>try cases hb))
 exact Z3 rfl trivial rfl
theorem Z9K (k:Nat) (rows:List (List PV)):NRun Tryz.prog 88 (some (k,⟨0,rows⟩)) [.mp k] .mp ⟨0,rows⟩ :=
 ZbQ (hasBodyT ok88) (fun b es clock w hb=>AnyW.maps_Clone mapClone b es clock w hb) k rows
theorem beqB (s x:ByteArray):(s == x)=(s.data == x.data):=by cases s; cases x; rfl
theorem ZfQ {s x:ByteArray} (h:s≠x):(s == x)=false:=by
 rw [beqB,beq_eq_false_iff_ne]
 exact fun e=>h (ByteArray.ext e)
def rowF (j:Nat) (x:ByteArray):List PV := [.val (.string x),.val (.int .i64 (j:Int))]
def rowsF:Nat→List ByteArray→List (List PV)
 | _,[] => []
 | j,x :: r=>rowF (j+1) x :: rowsF (j+1) r
theorem Z6F (s:ByteArray):∀ (xs:List ByteArray) (j:Nat),rowsF j (xs ++ [s])=rowsF j xs ++ [rowF (j+xs.length+1) s]
 | [],j=>rfl
 | x :: r, j => by
   show rowF (j+1) x :: rowsF (j+1) (r ++ [s])=rowF (j+1) x :: (rowsF (j+1) r++_)
   rw [Z6F s r (j+1),List.length_cons,show j+1+r.length+1=j+(r.length+1)+1 by omega]
theorem Z4h {s:ByteArray}:∀ {xs:List ByteArray} {j:Nat},(∀ x∈xs,s≠x)→mfind (.one 2) (.val (.string s)) (rowsF j xs)=some none
 | [],j,_=>rfl
 | x :: r, j, h => by
   have h1:pkeq (.one 2) (.val (.string s)) ((rowF (j+1) x).getD 0 pvu)=some false:=by
    show some (s == x)=some false
    rw [ZfQ (h x (List.mem_cons_self ..))]
   show mfind (.one 2) (.val (.string s)) (rowF (j+1) x :: rowsF (j+1) r)=some none
   simp only [mfind,h1,Z4h (j:=j+1) fun y hy=>h y (List.mem_cons_of_mem _ hy)]
theorem Z4i:∀ (j:Nat) (xs:List ByteArray),pureLL (rowsF j xs)
 | _,[]=>trivial
 | j,x :: r=>⟨⟨trivial,trivial,trivial⟩,Z4i (j+1) r⟩
theorem keyS (s:ByteArray):pkeq (.one 2) (.val (.string s)) (.val (.string s))=some true:=by
 show some (s == s)=some true
 rw [beqB,beq_self_eq_true]
theorem ZeX {n:Nat} {e:Env} {h:Heap} {agg:Bool} {z:List Value} {x y:Operand} {i:Nat} {b:Bx} {c:KC} {kp:PV} (hx:ev e x=some (.mp i)) (hy:ev e y=some kp) (hb:h i=some b) (hz:b.esz=0) (hk:pkeq c kp kp=some true) (hf:mfind c kp b.elems=some none) :
 dEval (.lookup c agg z false x y) e h n=some (zval agg z,h):=by
 simp [dEval,hx,hy,hb,hz,hk,hf]
theorem ZdG {n:Nat} {e:Env} {h:Heap} {agg:Bool} {z:List Value} {x y:Operand} {c:KC} {kp:PV} (hx:ev e x=some (.val (.map none))) (hy:ev e y=some kp) (hk:pkeq c kp kp=some true) :
 fEval (.lookup c agg z false x y) e h n=some (zval agg z,h):=by
 simp [fEval,hx,hy,hk]
theorem ZaL {n:Nat} {e:Env} {h:Heap} {x y v:Operand} {i:Nat} {rows:List (List PV)} {c:KC} {kp p:PV} (hx:ev e x=some (.mp i)) (hy:ev e y=some kp) (hv:ev e v=some p) (hb:h i=some ⟨0,rows⟩) (hk:pkeq c kp kp=some true) (hf:mfind c kp rows=some none) :
 dEval (.mapset c x y v) e h n=some (pvu,h.upd i ⟨0,rows ++ [[kp,p]]⟩):=by
 simp [dEval,hx,hy,hv,hb,hk,hf]
def tabZ:Bx:=⟨2,[[.vec [] true,.val (.map none)]]⟩
def tabW (xs:List ByteArray) (m:Nat):Bx:=⟨2,[[.vec (xs.map strC) false,.mp m]]⟩
def tabR (xs:List ByteArray):Bx:=⟨0,rowsF 0 xs⟩
theorem ZbR:ISpec Tryz.prog 48 0 [] (fun _=>none) fun n' r h'=>n'=1∧r=.ptr 0 0 0∧h'=Heap.upd (fun _=>none) 0 tabZ:=by
 refine ZX ok48 (Nat.le_of_ble_eq_true rfl) fun C hC=>?_
 (refine go ?_;repeat' (apply B<;>intro hb<;>try cases hb))
 exact⟨_,_,rfl,.inl rfl,rfl,rfl,rfl⟩
set_option maxRecDepth 100000 in
set_option maxHeartbeats 4000000 in
theorem ZbS {s:ByteArray} (hs:Spec Tryz.prog 86 [.val (.string s)] (· = .val (.bool true))) (xs:List ByteArray) (hno:∀ x∈xs,s≠x) (hl:xs.length<63) :
 ISpec Tryz.prog 49 2 [.ptr 0 0 0,.val (.string s),.val (.int .i64 63)] (heapL [(0,tabW xs 1),(1,tabR xs)]) fun n' r h'=>n'=38∧r=.tup [.ptr 16 0 0,.val (.int .i64 ((xs.length+1:Nat):Int)),.val (.int .i64 0)]∧h'=heapL [(16,tabW (xs ++ [s]) 14),(14,tabR (xs ++ [s]))]:=by
 refine ISpec.less (R:=fun n' r h'=>n'=38∧r=.tup [.ptr 16 0 0,.val (.int .i64 ((xs.length+1:Nat):Int)),.val (.int .i64 0)]∧h' 16=some (tabW (xs ++ [s]) 14)∧h' 14=some (tabR (xs ++ [s]))) ?_ fun n' r h' ⟨h1,h2,h3,h4⟩=>⟨_,ZaK h3 h4,h1,h2,rfl⟩
 have hsl:=Z4R xs
 refine ZX ok49 (Nat.le_of_ble_eq_true rfl) fun C hC=>?_
 (repeat'(first|refine Z4 15 ?_|refine Z0 15 ?_|refine st ?_|(apply B<;>intro hb<;>try cases hb)))<;>try refine At.mk ?_
 refine Z7 hs rfl rfl rfl ⟨trivial,trivial⟩ rfl ?_
 (repeat'(first|refine Z4 23 ?_|refine Z0 23 ?_|refine st ?_|(apply B<;>intro hb<;>try cases hb)))<;>try refine At.mk ?_
 refine Z5 (ZeX (b:=tabR xs) rfl rfl rfl rfl (keyS s) (Z4h hno)) rfl rfl ?_
 (repeat'(first|refine Z4 32 ?_|refine Z0 32 ?_|refine st ?_|(apply B<;>intro hb<;>try cases hb)))<;>try refine At.mk ?_
 refine Z5 (Zf (v:=false) rfl (decide_eq_false (by rw [hsl];omega))) rfl rfl ?_
 (repeat'(first|refine Z4 39 ?_|refine Z0 39 ?_|refine st ?_|(apply B<;>intro hb<;>try cases hb)))<;>try refine At.mk ?_
 refine Zv rfl ?_
 refine Z5 (Zf (v:=false) rfl (decide_eq_false (by rw [hsl];omega))) rfl rfl ?_
 repeat' (first|refine Ze2 [7] 1 (by decide) ?_|refine Z0 45 ?_|(first|refine st ?_|(apply B<;>intro hb<;>try cases hb)))
 refine At.mk ?_
 refine Z6S (Z6E xs false (by omega)) Z3x (Zc _) rfl rfl rfl ⟨Zc _,trivial⟩ ?_
 (repeat'(first|refine Z4 48 ?_|refine Z0 48 ?_|refine st ?_|(apply B<;>intro hb<;>try cases hb)))<;>try refine At.mk ?_
 refine Z8R (k:=6) (m := [strC s]) (fl:=true) (b:=⟨1,xs.map strC⟩) rfl rfl rfl (fun c hc=>by rw [List.mem_singleton] at hc; subst hc; rfl) rfl (by
  show ((xs.map strC).length+1)*16≤_
  rw [hsl];omega) (by show pureLL (xs.map strC ++ [strC s]); have:=Zc (xs ++ [s]); rwa [List.map_append] at this) rfl rfl ?_
 have happ:xs.map strC ++ [strC s]=(xs ++ [s]).map strC:=by rw [List.map_append]; rfl
 show dK _ _ _ _ (Env.upd _ 48 (.vec (xs.map strC ++ [strC s]) false)) _ _
 rw [happ]
 have hl2:=Z4R (xs ++ [s])
 rw [List.length_append,List.length_singleton] at hl2
 generalize hys:(xs ++ [s]).map strC=ys at hl2
 (repeat'(first|refine Z4 53 ?_|refine Z0 53 ?_|refine st ?_|(apply B<;>intro hb<;>try cases hb)))<;>try refine At.mk ?_
 refine Ze5 (Z9K 1 (rowsF 0 xs)) rfl rfl rfl rfl ?_
 (repeat'(first|refine Z4 74 ?_|refine Z0 74 ?_|refine st ?_|(apply B<;>intro hb<;>try cases hb)))<;>try refine At.mk ?_
 refine Zp (Z2p (v:=((xs.length+1:Nat):Int)) rfl (by rw [hl2])) rfl rfl ?_
 refine Zp (ZaL (i:=14) rfl rfl rfl rfl (keyS s) (Z4h hno)) rfl rfl ?_
 have hrow:rowsF 0 xs ++ [[.val (.string s),.val (.int .i64 ((xs.length+1:Nat):Int))]]=rowsF 0 (xs ++ [s]):=by
  rw [Z6F,Nat.zero_add]; rfl
 rw [hrow]
 (repeat'(first|refine Z4 80 ?_|refine Z0 80 ?_|refine st ?_|(apply B<;>intro hb<;>try cases hb)))<;>try refine At.mk ?_
 refine Zp (Z2p (v:=((xs.length+1:Nat):Int)) rfl (by rw [hl2])) rfl rfl ?_
 (refine go ?_;repeat' (apply B<;>intro hb<;>try cases hb))
 exact⟨_,_,rfl,.inl rfl,rfl,rfl,by unfold tabW; rw [hys]; rfl,rfl⟩
set_option maxRecDepth 100000 in
set_option maxHeartbeats 4000000 in
theorem ZbT {s:ByteArray} (hs:Spec Tryz.prog 86 [.val (.string s)] (· = .val (.bool true))) :
 ISpec Tryz.prog 49 2 [.ptr 0 0 0,.val (.string s),.val (.int .i64 63)] (heapL [(0,tabZ)]) fun n' r h'=>n'=39∧r=.tup [.ptr 16 0 0,.val (.int .i64 1),.val (.int .i64 0)]∧h'=heapL [(16,tabW [s] 18),(18,tabR [s])]:=by
 refine ISpec.less (R:=fun n' r h'=>n'=39∧r=.tup [.ptr 16 0 0,.val (.int .i64 1),.val (.int .i64 0)]∧h' 16=some (tabW [s] 18)∧h' 18=some (tabR [s])) ?_ fun n' r h' ⟨h1,h2,h3,h4⟩=>⟨_,ZaK h3 h4,h1,h2,rfl⟩
 refine ZX ok49 (Nat.le_of_ble_eq_true rfl) fun C hC=>?_
 (repeat'(first|refine Z4 15 ?_|refine Z0 15 ?_|refine st ?_|(apply B<;>intro hb<;>try cases hb)))<;>try refine At.mk ?_
 refine Z7 hs rfl rfl rfl ⟨trivial,trivial⟩ rfl ?_
 (repeat'(first|refine Z4 23 ?_|refine Z0 23 ?_|refine st ?_|(apply B<;>intro hb<;>try cases hb)))<;>try refine At.mk ?_
 refine Z6 (ZdG rfl rfl (keyS s)) rfl rfl ?_
 repeat' (first|refine Z4W [7] ?_|refine Z0 45 ?_|(first|refine st ?_|(apply B<;>intro hb<;>try cases hb)))
 refine At.mk ?_
 refine Z6S (Z6E [] true (by decide)) Z3x trivial rfl rfl rfl ⟨trivial,trivial⟩ ?_
 (repeat'(first|refine Z4 48 ?_|refine Z0 48 ?_|refine st ?_|(apply B<;>intro hb<;>try cases hb)))<;>try refine At.mk ?_
 refine Z8R (k:=6) (m := [strC s]) (fl:=true) (b:=⟨1,[]⟩) rfl rfl rfl (fun c hc=>by rw [List.mem_singleton] at hc; subst hc; rfl) rfl (by show (0+1)*16≤_;omega) (by exact Zc [s]) rfl rfl ?_
 (repeat'(first|refine Z4 53 ?_|refine Z0 53 ?_|refine st ?_|(apply B<;>intro hb<;>try cases hb)))<;>try refine At.mk ?_
 refine Zq Z7v rfl rfl rfl ⟨trivial,trivial⟩ ?_
 repeat' (first|refine Z4W [] ?_|refine Z0 74 ?_|(first|refine st ?_|(apply B<;>intro hb<;>try cases hb)))
 refine At.mk ?_
 iterate 1 (first|refine st ?_|(apply B<;>intro hb<;>try cases hb))
 refine Zp (ZaL (i:=18) (rows := []) rfl rfl rfl rfl (keyS s) rfl) rfl rfl ?_
 (refine go ?_;repeat' (apply B<;>intro hb<;>try cases hb))
 exact⟨_,_,rfl,.inl rfl,rfl,rfl,rfl,rfl⟩
theorem Zfd:∀ j,j<7→∃ d:UInt8,d∈([49,50,51,52,53,54,55]:List UInt8)∧nmV (j+1)=⟨#[114,d]⟩:=by
 intro j hj
 refine⟨UInt8.ofNat (49+j),?_,?_⟩
 · have : ∀ j, j < 7 → UInt8.ofNat (49 + j) ∈ ([49, 50, 51, 52, 53, 54, 55] : List UInt8) := by decide
   exact this j hj
 · have : ∀ j, j < 7 → nmV (j + 1) = ⟨#[114, UInt8.ofNat (49 + j)]⟩ := by decide +kernel
   exact this j hj
theorem ZfR:∀ i,i<7→∀ j,j<7→nmV (i+1)=nmV (j+1)→i=j:=by decide +kernel
theorem ZeY (i:Nat):nmU (i+1)=nmU i ++ [nmV (i+1)]:=by simp [nmU,List.range_succ]
theorem ZdH (k i : Nat) (h : i < k) : (nmU k)[i]'(by rw [Z4f]; exact h) = nmV (i + 1) := by simp [nmU]
theorem ZfS {i:Nat} (hi:i<7):∀ x∈nmU i,nmV (i+1)≠x:=by
 intro x hx e
 obtain⟨j,hj,rfl⟩:=List.mem_map.1 hx
 rw [List.mem_range] at hj
 have:=ZfR i hi j (by omega) e
 omega
def tabHL:Nat→List (Nat×Bx)
 | 0 => [(0,tabZ)]
 | i+1 => [(0,tabW (nmU (i+1)) 1),(1,tabR (nmU (i+1)))]
def twoR (A B:Nat):Nat→Nat:=fun i=>bif Nat.beq i 0 then A else bif Nat.beq i 1 then B else i
set_option maxRecDepth 100000 in
set_option maxHeartbeats 4000000 in
theorem ZeZ (k:Nat) (hk:k≤7):Spec Tryz.prog 20 [.vec ((nmU k).map strC) false,.val (.int .i64 63)] fun r=>∃ fl v,r=.tup [.cp [.vec ((nmU k).map strC) fl,.val v],.val (.int .i64 0)]:=by
 have hkl:((nmU k).map strC).length=k:=by simp [nmU]
 refine Z2 ok20 (Nat.le_of_ble_eq_true rfl) fun C hC=>?_
 (repeat'(first|refine Z4 12 ?_|refine Z0 12 ?_|refine st ?_|(apply B<;>intro hb<;>try cases hb)))<;>try refine At.mk ?_
 refine Zx rfl rfl ZbR ?_
 rintro n' r h' ⟨rfl,rfl,rfl⟩
 (repeat'(first|refine Z4 14 ?_|refine Z0 14 ?_|refine st ?_|(apply B<;>intro hb<;>try cases hb)))<;>try refine At.mk ?_
 refine Zo (v:=(k:Int)) rfl rfl rfl (by rw [hkl]) ?_
 (refine go ?_;repeat' (apply B<;>intro hb<;>try cases hb))
 refine Z1Y hC (fun i=>i≤k) (fun i=>k-i) 2 (fun i => [(1,.val (.int .i64 63)),(6,.ptr 0 0 0),(13,.vec ((nmU k).map strC) false),(14,.val (.int .i64 (k:Int))),(15,.val (.int .i64 (i:Int)))])
  tabHL (by omega) 0 (Nat.zero_le _) (fun i=>i) (fun _ _=>rfl) ZU
  ⟨⟨_,rfl,.pure _ trivial⟩,⟨_,rfl,.ptr 0 0 0 (by decide)⟩,⟨_,rfl,.pure _ (Zc _)⟩,⟨_,rfl,.pure _ trivial⟩,⟨_,rfl,.pure _ trivial⟩,trivial⟩ ⟨⟨by decide,_,rfl,.same _ ⟨⟨trivial,trivial,trivial⟩,trivial⟩⟩,trivial⟩ ?_
 intro i hi
 have hinc:IntKind.i64.wrap ((i:Int)+1)=((i+1:Nat):Int):=IntWalk.i64_in _ ⟨by omega,by omega⟩
 cases i with
 | zero =>
   (repeat'(first|refine Z4 16 ?_|refine Z0 16 ?_|refine st ?_|(apply B<;>intro hb<;>try cases hb)))<;>try refine At.mk ?_
   by_cases hik:0<k
   · refine Z5 (Zf (v := true) rfl (decide_eq_true (Int.ofNat_lt.2 hik))) rfl rfl ?_
     (repeat'(first|refine Z4 17 ?_|refine Z0 17 ?_|refine st ?_|(apply B<;>intro hb<;>try cases hb)))<;>try refine At.mk ?_
     refine Z5 (Zl (xs:=nmU k) (g:=strC) rfl rfl (0) rfl (by rw [Z4f]; exact hik) rfl) rfl rfl ?_
     rw [ZdH k (0) hik]
     obtain⟨d,hd,he⟩:=Zfd (0) (by omega)
     have hv:=Z5S d hd
     rw [← he] at hv
     (repeat'(first|refine Z4 23 ?_|refine Z0 23 ?_|refine st ?_|(apply B<;>intro hb<;>try cases hb)))<;>try refine At.mk ?_
     refine Zx rfl rfl (ZbT hv) ?_
     rintro n' r h' ⟨rfl,rfl,rfl⟩
     (refine go ?_;repeat' (apply B<;>intro hb<;>try cases hb))
     exact⟨0+1,twoR 16 18,by omega,by omega,fun j hj=>absurd hj (Nat.not_lt_zero _),ZE rfl,
      ⟨⟨_,rfl,.pure _ trivial⟩,⟨_,rfl,.ptr 0 0 0 (by decide)⟩,⟨_,rfl,.pure _ (Zc _)⟩,⟨_,rfl,.pure _ trivial⟩,⟨_,by show some _=some _; rw [hinc],.pure _ trivial⟩,trivial⟩,
      ⟨by decide,_,rfl,RenB.single ⟨.pure _ (Zc _),.mp 1 (by decide),trivial⟩ rfl⟩,⟨by decide,_,rfl,.same _ (Z4i _ _)⟩,trivial⟩
   · have hik : k = 0 := by omega
     refine Z5 (Zf (v:=false) rfl (decide_eq_false (by omega))) rfl rfl ?_
     iterate 4 (first|refine st ?_|(apply B<;>intro hb<;>try cases hb))
     show aw _ _ _ _ _ _ _
     subst hik
     refine Z2d (Z18 (k:=6) (l := [.vec [] true,.val (.map none)]) rfl rfl ⟨trivial,trivial,trivial⟩ _) ?_
     (refine go ?_;repeat' (apply B<;>intro hb<;>try cases hb))
     exact Z3 rfl ⟨⟨trivial,trivial,trivial⟩,trivial,trivial⟩ ⟨true,_,rfl⟩
 | succ i =>
   (repeat'(first|refine Z4 16 ?_|refine Z0 16 ?_|refine st ?_|(apply B<;>intro hb<;>try cases hb)))<;>try refine At.mk ?_
   by_cases hik:i+1<k
   · refine Z5 (Zf (v := true) rfl (decide_eq_true (Int.ofNat_lt.2 hik))) rfl rfl ?_
     (repeat'(first|refine Z4 17 ?_|refine Z0 17 ?_|refine st ?_|(apply B<;>intro hb<;>try cases hb)))<;>try refine At.mk ?_
     refine Z5 (Zl (xs:=nmU k) (g:=strC) rfl rfl (i+1) rfl (by rw [Z4f]; exact hik) rfl) rfl rfl ?_
     rw [ZdH k (i+1) hik]
     obtain⟨d,hd,he⟩:=Zfd (i+1) (by omega)
     have hv:=Z5S d hd
     rw [← he] at hv
     (repeat'(first|refine Z4 23 ?_|refine Z0 23 ?_|refine st ?_|(apply B<;>intro hb<;>try cases hb)))<;>try refine At.mk ?_
     refine Zx rfl rfl (ZbS hv (nmU (i+1)) (ZfS (by omega)) (by rw [Z4f];omega)) ?_
     rintro n' r h' ⟨rfl,rfl,rfl⟩
     rw [← ZeY]
     (refine go ?_;repeat' (apply B<;>intro hb<;>try cases hb))
     exact⟨i+1+1,twoR 16 14,by omega,by omega,fun j hj=>absurd hj (Nat.not_lt_zero _),ZE rfl,
      ⟨⟨_,rfl,.pure _ trivial⟩,⟨_,rfl,.ptr 0 0 0 (by decide)⟩,⟨_,rfl,.pure _ (Zc _)⟩,⟨_,rfl,.pure _ trivial⟩,⟨_,by show some _=some _; rw [hinc],.pure _ trivial⟩,trivial⟩,
      ⟨by decide,_,rfl,RenB.single ⟨.pure _ (Zc _),.mp 1 (by decide),trivial⟩ rfl⟩,⟨by decide,_,rfl,.same _ (Z4i _ _)⟩,trivial⟩
   · have hik : k = i + 1 := by omega
     refine Z5 (Zf (v:=false) rfl (decide_eq_false (by omega))) rfl rfl ?_
     iterate 4 (first|refine st ?_|(apply B<;>intro hb<;>try cases hb))
     show aw _ _ _ _ _ _ _
     subst hik
     refine Z2d (Z4Y (k:=6) rfl rfl _) ?_
     refine Z8u (k:=6) rfl fun v=>?_
     (refine go ?_;repeat' (apply B<;>intro hb<;>try cases hb))
     exact Z3 rfl ⟨⟨Zc _,trivial,trivial⟩,trivial,trivial⟩ ⟨false,_,rfl⟩
theorem Z8v (ns:List ByteArray) (fl:Bool) (v:Value):Spec Tryz.prog 89 [.cp [.vec (ns.map strC) fl,.val v]] (· = .val (.int .i64 (ns.length:Int))):=by
 refine Z2 ok89 (Nat.le_of_ble_eq_true rfl) fun C hC=>?_
 (refine go ?_;repeat' (apply B<;>intro hb<;>try cases hb))
 exact Z3 rfl trivial (by rw [Z4R])
theorem namesT {ns:List ByteArray} (fl:Bool) (v:Value) (hl:ns.length≤7) (hs:∀ x∈ns,x.data.toList.length≤100):NamesW (.cp [.vec (ns.map strC) fl,.val v]) (nmR ns) where
 one:=rfl
 cell:=rfl
 pure:=⟨Zc _,trivial,trivial⟩
 len:=fun r h=>by
  unfold nmR
  split
  · rename_i hr
    have hlt:r-1<ns.length:=by omega
    rw [List.getD_eq_getElem?_getD,List.getElem?_eq_getElem hlt]
    exact hs _ (List.getElem_mem hlt)
  · exact ZaC h
 name:=fun r h=>by
  have htp:pureL [.cp [.vec (ns.map strC) fl,.val v]]:=⟨⟨Zc _,trivial,trivial⟩,trivial⟩
  by_cases hr:1≤r∧r≤ns.length
  · have hlt : r - 1 < ns.length := by omega
    refine⟨ns[r-1],true,?_,by unfold nmR; rw [if_pos hr,List.getD_eq_getElem?_getD,List.getElem?_eq_getElem hlt]; rfl⟩
    refine Z2 ok51 (Nat.le_of_ble_eq_true rfl) fun C hC=>?_
    (repeat'(first|refine Z4 7 ?_|refine Z0 7 ?_|refine st ?_|(apply B<;>intro hb<;>try cases hb)))<;>try refine At.mk ?_
    refine Z5 (Zf (v:=false) rfl (decide_eq_false (by omega))) rfl rfl ?_
    (repeat'(first|refine Z4 11 ?_|refine Z0 11 ?_|refine st ?_|(apply B<;>intro hb<;>try cases hb)))<;>try refine At.mk ?_
    refine Zv rfl ?_
    refine Z7 (Z8v ns fl v) rfl rfl rfl htp rfl ?_
    (repeat'(first|refine Z4 12 ?_|refine Z0 12 ?_|refine st ?_|(apply B<;>intro hb<;>try cases hb)))<;>try refine At.mk ?_
    refine Zv rfl ?_
    refine Z5 (Zf (v:=false) rfl (decide_eq_false (by omega))) rfl rfl ?_
    (repeat'(first|refine Z4 19 ?_|refine Z0 19 ?_|refine st ?_|(apply B<;>intro hb<;>try cases hb)))<;>try refine At.mk ?_
    refine Zo (v:=((r-1:Nat):Int)) rfl rfl rfl (by
     rw [show ((r:Int)-1)=((r-1:Nat):Int) by omega]
     exact IntWalk.i64_in _ ⟨by omega,by omega⟩) ?_
    refine Z5 (Zl (xs:=ns) (g:=strC) rfl rfl (r-1) rfl hlt rfl) rfl rfl ?_
    (refine go ?_;repeat' (apply B<;>intro hb<;>try cases hb))
    exact Z3 rfl ⟨trivial,trivial,trivial⟩ rfl
  · refine ⟨⟨#[]⟩, false, ?_, by unfold nmR; rw [if_neg hr]; rfl⟩
    refine Z2 ok51 (Nat.le_of_ble_eq_true rfl) fun C hC=>?_
    by_cases h0:r=0
    · subst h0
      (refine go ?_;repeat' (apply B<;>intro hb<;>try cases hb))
      exact Z3 rfl ⟨trivial,trivial,trivial⟩ rfl
    · (repeat'(first|refine Z4 7 ?_|refine Z0 7 ?_|refine st ?_|(apply B<;>intro hb<;>try cases hb)))<;>try refine At.mk ?_
      refine Z5 (Zf (v:=false) rfl (decide_eq_false (by omega))) rfl rfl ?_
      (repeat'(first|refine Z4 11 ?_|refine Z0 11 ?_|refine st ?_|(apply B<;>intro hb<;>try cases hb)))<;>try refine At.mk ?_
      refine Zv rfl ?_
      refine Z7 (Z8v ns fl v) rfl rfl rfl htp rfl ?_
      (repeat'(first|refine Z4 12 ?_|refine Z0 12 ?_|refine st ?_|(apply B<;>intro hb<;>try cases hb)))<;>try refine At.mk ?_
      refine Zv rfl ?_
      refine Z5 (Zf (v:=true) rfl (decide_eq_true (by omega))) rfl rfl ?_
      (refine go ?_;repeat' (apply B<;>intro hb<;>try cases hb))
      exact Z3 rfl ⟨trivial,trivial,trivial⟩ rfl
theorem tableOk:TableOk:=fun k hk=>by
 refine Z2 ok7 (Nat.le_of_ble_eq_true rfl) fun C hC=>?_
 (repeat'(first|refine Z4 7 ?_|refine Z0 7 ?_|refine st ?_|(apply B<;>intro hb<;>try cases hb)))<;>try refine At.mk ?_
 refine Zz rfl rfl (ZeZ k hk) ⟨Zc _,trivial,trivial⟩ rfl ?_
 rintro r ⟨fl,v,rfl⟩
 (refine go ?_;repeat' (apply B<;>intro hb<;>try cases hb))
 exact Z3 rfl ⟨Zc _,trivial,trivial⟩ ⟨_,rfl,namesT fl v (by rw [Z4f]; exact hk) (Z8r hk)⟩
theorem Z4D (x:RawX) (n:Nat) (hx:RawXok x) (hn:n<256):Spec Tryz.prog 3 [.agg (rawC x),.val (.int .u8 (n:Int))] (· = .val (.bool true)):=Z4g tableOk x n hx hn
end Go.Proofs.YtojlnagiaibgkaaGreatDoor
namespace Go.Proofs.YtojlnagiaibgkaaGreatDoor
open Go.ChangeShapes Go.WideShapes Go.ChangeAt Go.RowKit
theorem Z9M {P:Program} {s t:TypeId}:∀ {ps:List PV},ShapeVs P [s,t] ps→∃ a b,ps = [a,b]∧ShapeV P s a∧ShapeV P t b
 | [a,b],⟨h1,h2,_⟩=>⟨a,b,rfl,h1,h2⟩
theorem ZdJ {m:Int} (h:(Lit.int .u8 m).wf=true):∃ a:Nat,a<256∧m=(a:Int):=by
 simp only [Lit.wf,Bool.and_eq_true,decide_eq_true_eq] at h
 obtain⟨h1,h2⟩:=h
 have h3:m≤255:=h2
 have h4:0≤m:=h1
 exact⟨m.toNat,by omega,by omega⟩
theorem ZdK {n:Nat} {l:List PV} (h:Shape Tryz.prog n 23 l):∃ x:RawX,RawXok x∧l=rawC x:=by
 have hl:=ZdI h (k:=3) (by kernel_rfl)
 obtain⟨n1,h1⟩:=Z3q h (i:=0) (off:=0) (ty:=5) (sz:=1) (by kernel_rfl)
 obtain⟨n2,h2⟩:=Z3q h (i:=1) (off:=1) (ty:=5) (sz:=1) (by kernel_rfl)
 obtain⟨n3,h3⟩:=Z3q h (i:=2) (off:=2) (ty:=4) (sz:=1) (by kernel_rfl)
 match l,hl with
 | [a, b, c], _ =>
   obtain⟨m1,w1,e1⟩:=Z5T (show Shape _ n1 _ [a] from h1) (k:=.u8) (by kernel_rfl)
   obtain⟨m2,w2,e2⟩:=Z5T (show Shape _ n2 _ [b] from h2) (k:=.u8) (by kernel_rfl)
   obtain⟨o,e3⟩:=ZbV (show Shape _ n3 _ [c] from h3) (by kernel_rfl)
   obtain⟨x,hx,rfl⟩:=ZdJ w1
   obtain⟨y,hy,rfl⟩:=ZdJ w2
   simp only [List.cons.injEq,and_true] at e1 e2 e3
   subst e1; subst e2; subst e3
   exact⟨(x,y,o),⟨hx,hy⟩,rfl⟩
theorem ZbX {p:PV} (h:ShapeV Tryz.prog 23 p):∃ x:RawX,RawXok x∧p=.agg (rawC x):=by
 obtain⟨n,ps,rfl,h2⟩:=Z7w h (k:=3) (by kernel_rfl)
 obtain⟨x,hx,rfl⟩:=ZdK h2
 exact⟨x,hx,rfl⟩
theorem ZdL {p:PV} (h:ShapeV Tryz.prog 5 p):∃ s:Nat,s<256∧p=.val (.int .u8 (s:Int)):=by
 obtain⟨m,w,rfl⟩:=ZbW h (k:=.u8) (by kernel_rfl)
 obtain⟨x,hx,rfl⟩:=ZdJ w
 exact⟨x,hx,rfl⟩
theorem Z4j:∀ ps,ShapeVs Tryz.prog Tryz.f3.params.toList ps→pureL ps→Spec Tryz.prog 3 ps (· = .val (.bool true)):=by
 intro ps hs hp
 rw [show Tryz.f3.params.toList = [23,5] by kernel_rfl] at hs
 obtain⟨a,b,rfl,k0,k1⟩:=Z9M hs
 obtain⟨x0,h0,rfl⟩:=ZbX k0
 obtain⟨x1,h1,rfl⟩:=ZdL k1
 exact Z4D x0 x1 h0 h1
set_option maxRecDepth 100000 in
theorem Z3r (os:Os) (started:os.Started) (H:Type) (enc:TypeId×Value→H) :
 ReturnsInHanded {} Tryz.checked os 3 .any (fun w args=>(Rows.witnessTextsSpec.pre enc Tryz.prog Tryz.f3 [] false w args∧laidMetH Tryz.prog laidV w)∧sizedMet enc Tryz.prog Tryz.f3 (OpenSpec.ofChange Rows.witnessTextsSpec) false w args)
  (Rows.witnessTextsSpec.post enc Tryz.prog Tryz.f3 false true false false):=by
 refine returnsInHanded_of_change_and (C:=Tryz.checked) (X:=fun w _=>laidMetH Tryz.prog laidV w) (fun _ _ _ hh h=>h.of_heap hh) own started (by kernel_rfl) Tryz.func3
  (ChangeSpec.witness_shaped (enc:=enc) (C:=Tryz.checked) (os:=os) (X:=fun w _=>laidMetH Tryz.prog laidV w) false (World.doorLaid Tryz.prog 400 os) #[.agg #[.int .u8 0,.int .u8 0,.bool false],.int .u8 0] 8 rfl (World.shaped_of_RefB (by kernel_rfl) (by kernel_rfl)) (by kernel_rfl) (by kernel_rfl) (by kernel_rfl) (Zew os _)) ?_
 intro W base args ds gs before hval hW _ hwt hL _
 exact Z8a (P:=Tryz.prog) (G:=partsG Tryz.prog Tryz.f3.params.toList) (by kernel_rfl) (Zg5 (by kernel_rfl)) laidOut (Zd4 (by kernel_rfl)) (tb:=4) (by kernel_rfl) (by kernel_rfl) rfl (fun ds hd=>by
  match ds,hd with
  | [a,b],_=>exact⟨rfl,rfl,rfl⟩) Z4j W (Zey hL) base args ds gs before hval hW hwt
theorem Z3Y:Rows.WitnessTextsSaid :=
 OpenClaim.holds_of_wide 3 Tryz.f3 rfl rfl rfl rfl rfl rfl rfl ⟨rfl,rfl,rfl,rfl,rfl⟩ rfl rfl rfl rfl rfl (by kernel_rfl) Tryz.func3 (by kernel_rfl)
  (of_decide_eq_true (by kernel_rfl)) (by unfold Func.isWrapper; first|(rw [if_pos (by decide +kernel)]; kernel_rfl)|(rw [if_neg (by decide +kernel)]; exact⟨rfl,rfl⟩))
  (fun os started H enc _=>Z3r os started H enc)
theorem witnessTexts_card:Rows.WitnessTextsCardSaid :=
 Claim7.holds_tied_plain_at .later [] [.data,.data,.data] true (true, "1e13616ea4fcfe3a4104b755dc50e6bcb3a280bf5b40520d6b8b9e9470f4c1f0") true
  Z3Y (fun _ h=>by cases h) (by kernel_rfl) (fun _ h=>by cases h) witnessTexts_row_tie rfl ⟨rfl,rfl⟩ (by kernel_rfl) rfl
  (fun f fn hf hfn => by
    obtain rfl : f = 3 := Option.some.inj ((show Tryz.prog.funcNamed "arbac/arbaclaw21.WitnessTexts" = some 3 by kernel_rfl).symm.trans hf) |>.symm
    obtain rfl:fn=Tryz.f3:=(Option.some.inj (Tryz.func3.symm.trans hfn)).symm
    exact⟨by kernel_rfl,fun j t ht=>by
     rw [show Tryz.f3.params = #[23,5] by kernel_rfl] at ht
     have hm:t∈[23,5]:=by simpa using Array.mem_of_getElem? ht
     have hall:([23,5].all fun u => !Tryz.prog.wantsStandIn u)=true:=by kernel_rfl
     exact (show Tryz.prog.wantsStandIn t=false by simpa using List.all_eq_true.1 hall t hm)⟩)
  (by kernel_rfl)
#print axioms witnessTexts_card
end Go.Proofs.YtojlnagiaibgkaaGreatDoor
