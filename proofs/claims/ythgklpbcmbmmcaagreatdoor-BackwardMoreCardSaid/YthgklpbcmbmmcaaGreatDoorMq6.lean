/-
 Proved: for every input the law BackwardMore returns true,never panics,and leaves its arguments as0 they were,on the given card's conditions (the table of the bits package reads as0 the program's text lays it,and is tied to it).
-/
import Derived.KernelRfl
import Derived.SevenTiedAt
import Derived.Shelf.Strconv.Itoa3
import Derived.Shelf.Strings.OnBuilder
import Derived.Test.YthgklpbcmbmmcaaGreatDoorCards
import Derived.Test.YthgklpbcmbmmcaaGreatDoorChecked
import Derived.Test.YthgklpbcmbmmcaaGreatDoorTie
import Derived.Test.YthgklpbcmbmmcaaGreatDoorMq5
set_option linter.unusedSimpArgs false
set_option linter.unusedVariables false
set_option linter.unusedSectionVars false
namespace Go.Proofs.YthgklpbcmbmmcaaGreatDoor
open Go.RowKit
attribute [local irreducible] aw opsK dK
inductive SrRes (t:PB) (L:Int):PV→Prop
 | yes (p:List Nat) (hp:PlanOk t p) (hl:p.length≤32):SrRes t L (.tup [.vec (inL p) false,.vec [] true,.val (.bool true),.val (.int .i64 0)])
 | no (ks:List KE) (hk:NotFound t ks):SrRes t L (.tup [.vec [] true,.vec ((kcs ks).map cuC) false,.val (.bool false),.val (.int .i64 0)])
 | lim (hl:L<((2 ^ t.n:Nat):Int)):SrRes t L (.tup [.vec [] true,.vec [] true,.val (.bool false),.val (.int .i64 3)])
set_option maxRecDepth 100000 in
set_option maxHeartbeats 8000000 in
theorem Z3Q {t:PB} (h:PbOk t) (hn:t.n≤5) (S:List Nat) (L:Int) (hL:1≤L):Spec Tryz.prog 31 [.agg (pbP t S),.val (.int .i64 L)] (SrRes t L):=by
 have hpp:=Z1e t S
 have hsr:=Z3y t S
 have h32:2 ^ t.n≤32:=Nat.pow_le_pow_right (n:=2) (by decide) hn
 have hti:=ZgJ h
 have htn:=Zh1 t
 have hts:=fun S (hS:InS t S)=>ZgK h hS
 have hte:∀ c∈tgtL t,emC c=false:=fun c hc=>(Z1H hc).2
 have htg:=Z4Y h S
 refine Z2 ok31 (Nat.le_of_ble_eq_true rfl) fun C hC=>?_
 refine Zk ?_
 refine Z9 ?_
 refine Z4 rfl rfl rfl ?_
 refine gd 18 ⟨?_⟩
 refine Z5 (Z7M h S) rfl rfl rfl ⟨hpp,trivial⟩ rfl ?_
 refine gd 23 ⟨?_⟩
 refine Z3 (Zb (v:=false) rfl (decide_eq_false (by omega))) rfl rfl ?_
 refine gd 26 ⟨?_⟩
 refine Z5 (Z50 h S) rfl rfl rfl ⟨hpp,trivial⟩ rfl ?_
 refine gd 34 ⟨?_⟩
 refine Z5 htg rfl rfl rfl ⟨hpp,trivial⟩ rfl ?_
 generalize tgtL t=l at hti htn hts hte ⊢
 have hnl:(l.map cuC).length=l.length:=by simp
 refine gd 43 ⟨?_⟩
 refine Za (ZK (id:=0) (i0:=0) (j0:=0) rfl (Nat.le_of_ble_eq_true rfl) (Nat.le_of_ble_eq_true rfl) rfl 2 (by decide) (by decide)) ?_
 refine Za (ZK (id:=0) (i0:=0) (j0:=1) rfl (Nat.le_of_ble_eq_true rfl) (Nat.le_of_ble_eq_true rfl) rfl 2 (by decide) (by decide)) ?_
 refine go ?_
 refine ZN hC (fun (z:Nat×List KE)=>z.1≤l.length∧KInv t z.2∧CovAll (l.take z.1) z.2) (fun z=>l.length-z.1) 3 (fun z => [(2,.cp (pbP t S)),(9,.cp (srC t S)),(11,.ptr 0 0 0),(43,.vec (l.map cuC) false),(44,.val (.int .i64 (l.length:Int))),(45,.val (.int .i64 (z.1:Int)))])
  (fun z => [(0,⟨3,[[.own 1,.own 2,.val (.int .i64 L)]]⟩),(1,⟨2,(kcs z.2).map cuC⟩),(2,⟨2,z.2.map hwC⟩)]) (Nat.zero_le _) (0,[]) ⟨Nat.zero_le _,KInv.nil t,fun c hc=>(by cases hc)⟩ (fun i=>i) (fun _ _=>rfl) Zu
  ⟨⟨_,rfl,.pure _ hpp⟩,⟨_,rfl,.pure _ hsr⟩,⟨_,rfl,.ptr (ρ:=fun i=>i) 0 0 0 (by decide)⟩,⟨_,rfl,.pure _ (Z0 _)⟩,⟨_,by rw [← hnl]; rfl,.pure _ trivial⟩,⟨_,rfl,.pure _ trivial⟩,trivial⟩
  ⟨⟨by decide,_,rfl,RenB.single ⟨.own (ρ:=fun i=>i) 1 (by decide),.own (ρ:=fun i=>i) 2 (by decide),.pure _ trivial,trivial⟩ rfl⟩,⟨by decide,_,rfl,.same _ trivial⟩,⟨by decide,_,rfl,.same _ trivial⟩,trivial⟩ ?_
 rintro⟨j,k1⟩ ⟨hj,hk1,hcov⟩
 dsimp only at hj hk1 hcov ⊢
 have hjnc:IntKind.i64.wrap ((j:Int)+1)=((j+1:Nat):Int):=IntWalk.i64_in _ ⟨by omega,by omega⟩
 have hkl:=hk1.len
 refine gd 46 ⟨?_⟩
 by_cases hjl:j<l.length
 · refine Z3 (Zb (v := true) rfl (decide_eq_true (Int.ofNat_lt.2 hjl))) rfl rfl ?_
   have htk:=Z1a hjl
   have hcm:=List.getElem_mem hjl
   refine gd 47 ⟨?_⟩
   refine Z3 (Zn (xs:=l) (g:=cuC) rfl rfl j rfl hjl rfl) rfl rfl ?_
   generalize l[j]=c at htk hcm ⊢
   have hc1:=hti.1 c hcm
   have hadd:=Zba k1 hk1.c64 (by omega) (c,((-1:Int),0)) (hc1.lt (by decide)) L
   refine gd 52 ⟨?_⟩
   refine Za7 hadd rfl rfl rfl rfl rfl rfl (by decide) (by decide) (by decide) trivial ⟨Zm _,⟨trivial,trivial,trivial⟩,trivial⟩ ⟨trivial,trivial⟩ (Z0 _) (ZX _) ?_
   rintro v b1' b2' - - - ⟨k2,rfl,rfl,ha⟩
   have hst:∀ S,InS t S→hoC c S=true→goodB t S=true∧reachB t S=true:=fun S hS hc=>by
    have h1:=hts S hS
    rw [show soC l S=true from List.any_eq_true.2 ⟨c,hcm,hc⟩] at h1
    have h1:=h1.symm
    rw [Bool.and_eq_true] at h1
    exact h1
   obtain⟨p1,p2,p3,p4⟩:=ha.keep (t:=t) hk1 ⟨hc1,htn c hcm,hte c hcm⟩ (.inl ⟨rfl,hst⟩)
   rcases p4 with rfl|⟨rfl,p4⟩
   · refine go ?_
     refine⟨(j+1,k2),fun i=>mv 1 4 (mv 2 5 i),⟨hjl,p2,?_⟩,by show l.length-(j+1)<l.length-j; omega,fun i hi=>absurd hi (Nat.not_lt_zero i),ZB rfl,
      ⟨⟨_,rfl,.pure _ hpp⟩,⟨_,rfl,.pure _ hsr⟩,⟨_,rfl,.ptr (ρ:=fun i=>mv 1 4 (mv 2 5 i)) 0 0 0 (by decide)⟩,⟨_,rfl,.pure _ (Z0 _)⟩,⟨_,rfl,.pure _ trivial⟩,⟨_,by show some _=some _; rw [hjnc],.pure _ trivial⟩,trivial⟩,
      ⟨⟨by decide,_,rfl,RenB.single ⟨.own (ρ:=fun i=>mv 1 4 (mv 2 5 i)) 1 (by decide),.own (ρ:=fun i=>mv 1 4 (mv 2 5 i)) 2 (by decide),.pure _ trivial,trivial⟩ rfl⟩,⟨by decide,_,rfl,.same _ (Z0 _)⟩,⟨by decide,_,rfl,.same _ (ZX _)⟩,trivial⟩⟩
     rw [htk]
     intro c' hc' S hS
     rcases List.mem_append.1 hc' with hc' | hc'
     · exact Z7R p1 (hcov c' hc' S hS)
     · rw [List.mem_singleton] at hc'; subst hc'; exact p3 S hS
   · refine go ?_
     have:=p2.len
     exact Z6 rfl ⟨trivial,trivial,trivial,trivial,trivial⟩ (.lim (by omega))
 have hjl:j=l.length:=by omega
 rw [hjl,List.take_length] at hcov
 have htin:TgtIn t k1:=fun S hS hg hr=>by
  have h1:=hts S hS
  rw [hg,hr] at h1
  obtain⟨c,hc,h2⟩:=List.any_eq_true.1 (show soC l S=true from h1)
  exact hcov c hc S h2
 refine Z3 (Zb (v:=false) rfl (decide_eq_false (by omega))) rfl rfl ?_
 clear hcov hts
 refine go ?_
 refine ZN hC (fun (z:Nat×List KE)=>z.1≤z.2.length∧KInv t z.2∧TgtIn t z.2∧∀ i e,i<z.1→z.2[i]?=some e→ExpA t e.1 z.2∧hoC e.1 t.st=false) (fun z=>2 ^ t.n-z.1) 3 (fun z => [(2,.cp (pbP t S)),(9,.cp (srC t S)),(11,.ptr 0 0 0),(15,.val (.int .i64 (z.1:Int)))])
  (fun z => [(0,⟨3,[[.own 1,.own 2,.val (.int .i64 L)]]⟩),(1,⟨2,(kcs z.2).map cuC⟩),(2,⟨2,z.2.map hwC⟩)]) (Nat.zero_le _) (0,k1) ⟨Nat.zero_le _,hk1,htin,fun i e hi=>absurd hi (Nat.not_lt_zero i)⟩ (fun i=>i) (fun _ _=>rfl) Zu
  ⟨⟨_,rfl,.pure _ hpp⟩,⟨_,rfl,.pure _ hsr⟩,⟨_,rfl,.ptr (ρ:=fun i=>i) 0 0 0 (by decide)⟩,⟨_,rfl,.pure _ trivial⟩,trivial⟩
  ⟨⟨by decide,_,rfl,RenB.single ⟨.own (ρ:=fun i=>i) 1 (by decide),.own (ρ:=fun i=>i) 2 (by decide),.pure _ trivial,trivial⟩ rfl⟩,⟨by decide,_,rfl,.same _ (Z0 _)⟩,⟨by decide,_,rfl,.same _ (ZX _)⟩,trivial⟩ ?_
 clear hk1 htin hkl hjnc
 rintro⟨i,ks⟩ ⟨hi,hk,htin,hex⟩
 dsimp only at hi hk htin hex ⊢
 have hkl:=hk.len
 have hinc:IntKind.i64.wrap ((i:Int)+1)=((i+1:Nat):Int):=IntWalk.i64_in _ ⟨by omega,by omega⟩
 have hcl:((kcs ks).map cuC).length=ks.length:=by simp [kcs]
 refine gd 63 ⟨?_⟩
 by_cases hil:i<ks.length
 case neg =>
  refine Za (Zl (ob:=0) (id:=1) (i0:=0) (j0:=0) rfl rfl (by decide) (Z0 _) (Nat.le_of_ble_eq_true rfl) (Nat.le_of_ble_eq_true rfl) rfl) ?_
  refine Z3 (Zb (v:=false) rfl (decide_eq_false (by rw [hcl];omega))) rfl rfl ?_
  refine go ?_
  refine Z6 rfl ⟨trivial,Z0 _,trivial,trivial,trivial⟩ (.no ks ⟨hk,htin,fun e he=>?_,?_⟩)
  · obtain ⟨m, hm, rfl⟩ := List.mem_iff_getElem.1 he
    exact (hex m _ (by omega) (List.getElem?_eq_getElem hm)).1
  · refine Bool.eq_false_iff.2 fun hso => ?_
    obtain⟨c,hc,hho⟩:=List.any_eq_true.1 hso
    obtain⟨e,he,rfl⟩:=List.mem_map.1 hc
    obtain⟨m,hm,rfl⟩:=List.mem_iff_getElem.1 he
    rw [(hex m _ (by omega) (List.getElem?_eq_getElem hm)).2] at hho
    cases hho
 refine Z3 (Zb (v:=true) rfl (decide_eq_true (by rw [hcl];omega))) rfl rfl ?_
 obtain⟨e,he⟩:∃ e,ks[i]?=some e:=⟨_,List.getElem?_eq_getElem hil⟩
 obtain⟨g1,g2⟩:=ZdR he
 have hem:=hk.mem e (List.mem_of_getElem? he)
 have hst64:=InS.lt h.n.2 (show InS t t.st from h.st)
 refine gd 71 ⟨?_⟩
 refine Zt (ZL (k:=.i64) rfl rfl rfl i rfl g2 rfl) rfl rfl ?_
 refine Zt (Z2T (p:=cuP e.1) rfl rfl g2 (by show cutAt true 2 0 (((kcs ks).map cuC).getD i [])=_; rw [g1]; rfl)) rfl rfl ?_
 refine gd 75 ⟨?_⟩
 refine Zz (Z3L e.1 t.st (hem.1.lt (by decide)) hst64) rfl rfl rfl ⟨Zm _,Z1 _,trivial⟩ ?_
 cases hho:hoC e.1 t.st
 case true =>
  obtain⟨p,hp⟩:=hk.path (i+1) i (Nat.lt_succ_self _) hil
  have hpl:=hp.len hk
  have hpo:=hk.plan h he hho hp
  refine gd 76 ⟨?_⟩
  refine Za (Zl (ob:=0) (id:=1) (i0:=0) (j0:=0) rfl rfl (by decide) (Z0 _) (Nat.le_of_ble_eq_true rfl) (Nat.le_of_ble_eq_true rfl) rfl) ?_
  refine Za (Zl (ob:=0) (id:=2) (i0:=0) (j0:=1) rfl rfl (by decide) (ZX _) (Nat.le_of_ble_eq_true rfl) (Nat.le_of_ble_eq_true rfl) rfl) ?_
  refine Za (Z1o (k:=11) (l:=kpC ks L) rfl rfl (Z7S ks L)) ?_
  refine gd 78 ⟨?_⟩
  refine Z5 (ZdQ hn hk L hp) rfl rfl rfl ⟨Z7S ks L,trivial,trivial⟩ rfl ?_
  refine go ?_
  exact Z6 rfl ⟨Z2S _,trivial,trivial,trivial,trivial⟩ (.yes p hpo (by omega))
 have hexp:=Za8 h hn S hk i e he L
 refine gd 82 ⟨?_⟩
 refine Za7 hexp rfl rfl rfl rfl rfl rfl (by decide) (by decide) (by decide) ⟨hsr,trivial⟩ ⟨trivial,trivial⟩ ⟨trivial,trivial⟩ (Z0 _) (ZX _) ?_
 rintro v b1' b2' - - - ⟨k2,rfl,rfl,p1,p2,p3⟩
 rcases p3 with⟨rfl,p3⟩|⟨rfl,p3⟩
 · refine go ?_
   have:=p2.len
   have:=p1.length_le
   refine⟨(i+1,k2),fun i=>mv 1 13 (mv 2 14 i),⟨by show i+1≤k2.length; omega,p2,htin.pre p1,fun m e' hm he'=>?_⟩,by show 2 ^ t.n-(i+1)<2 ^ t.n-i; omega,fun i hi=>absurd hi (Nat.not_lt_zero i),ZB rfl,
    ⟨⟨_,rfl,.pure _ hpp⟩,⟨_,rfl,.pure _ hsr⟩,⟨_,rfl,.ptr (ρ:=fun i=>mv 1 13 (mv 2 14 i)) 0 0 0 (by decide)⟩,⟨_,by show some _=some _; rw [hinc],.pure _ trivial⟩,trivial⟩,
    ⟨⟨by decide,_,rfl,RenB.single ⟨.own (ρ:=fun i=>mv 1 13 (mv 2 14 i)) 1 (by decide),.own (ρ:=fun i=>mv 1 13 (mv 2 14 i)) 2 (by decide),.pure _ trivial,trivial⟩ rfl⟩,⟨by decide,_,rfl,.same _ (Z0 _)⟩,⟨by decide,_,rfl,.same _ (ZX _)⟩,trivial⟩⟩
   by_cases hmi:m<i
   · have := hex m e' hmi (pre_get' p1 he' (by omega))
     exact⟨this.1.pre p1,this.2⟩
   · obtain rfl : m = i := by omega
     rw [Za5 p1 he] at he'
     cases he'
     exact⟨p3,hho⟩
 · refine go ?_
   have:=p2.len
   exact Z6 rfl ⟨trivial,trivial,trivial,trivial,trivial⟩ (.lim (by omega))
end Go.Proofs.YthgklpbcmbmmcaaGreatDoor
namespace Go.Proofs.YthgklpbcmbmmcaaGreatDoor
open Go.Shelf
def Za9:Go.Shelf.Ren:=⟨fun|171=>94|243=>132|246=>164|283=>185|284=>186|285=>187|286=>188|129=>152|317=>196|318=>197|319=>198|320=>199|337=>201|338=>131|n=>n,fun|3=>3|9=>9|2=>2|4=>4|171=>237|0=>0|53=>33|37=>22|5=>5|173=>239|212=>252|51=>215|20=>20|213=>253|46=>97|232=>255|233=>221|n=>n,fun|17=>1|18=>3|19=>0|n=>n⟩
theorem lays171:Go.Proofs.Lays.n171 Tryz.prog Za9:={
 mixed:=by kernel_rfl
 f129:=Tryz.func152.trans (congrArg some (by kernel_rfl))
 f171:=Tryz.func94.trans (congrArg some (by kernel_rfl))
 f243:=Tryz.func132.trans (congrArg some (by kernel_rfl))
 f246:=Tryz.func164.trans (congrArg some (by kernel_rfl))
 f283:=Tryz.func185.trans (congrArg some (by kernel_rfl))
 f284:=Tryz.func186.trans (congrArg some (by kernel_rfl))
 f285:=Tryz.func187.trans (congrArg some (by kernel_rfl))
 f286:=Tryz.func188.trans (congrArg some (by kernel_rfl))
 f317:=Tryz.func196.trans (congrArg some (by kernel_rfl))
 f318:=Tryz.func197.trans (congrArg some (by kernel_rfl))
 f319:=Tryz.func198.trans (congrArg some (by kernel_rfl))
 f320:=Tryz.func199.trans (congrArg some (by kernel_rfl))
 f337:=Tryz.func201.trans (congrArg some (by kernel_rfl))
 f338:=Tryz.func131.trans (congrArg some (by kernel_rfl))
 t0:=Tryz.underlying0
 a0:=Tryz.isAgg0
 z0:=Tryz.sizeOf0
 v0:=Tryz.zeroValue0
 t2:=Tryz.underlying2
 a2:=Tryz.isAgg2
 z2:=Tryz.sizeOf2
 v2:=Tryz.zeroValue2
 t3:=Tryz.underlying3
 a3:=Tryz.isAgg3
 z3:=Tryz.sizeOf3
 v3:=Tryz.zeroValue3
 t4:=Tryz.underlying4
 a4:=Tryz.isAgg4
 z4:=Tryz.sizeOf4
 v4:=Tryz.zeroValue4
 t5:=Tryz.underlying5
 a5:=Tryz.isAgg5
 z5:=Tryz.sizeOf5
 v5:=Tryz.zeroValue5
 t9:=Tryz.underlying9
 a9:=Tryz.isAgg9
 z9:=Tryz.sizeOf9
 v9:=Tryz.zeroValue9
 t20:=Tryz.underlying20
 a20:=Tryz.isAgg20
 z20:=Tryz.sizeOf20
 v20:=Tryz.zeroValue20
 t37:=Tryz.underlying22
 a37:=Tryz.isAgg22
 z37:=Tryz.sizeOf22
 v37:=Tryz.zeroValue22
 t46:=Tryz.underlying97
 a46:=Tryz.isAgg97
 z46:=Tryz.sizeOf97
 v46:=Tryz.zeroValue97
 t51:=Tryz.underlying215
 a51:=Tryz.isAgg215
 z51:=Tryz.sizeOf215
 v51:=Tryz.zeroValue215
 t53:=Tryz.underlying33
 a53:=Tryz.isAgg33
 z53:=Tryz.sizeOf33
 v53:=Tryz.zeroValue33
 t171:=Tryz.underlying237
 a171:=Tryz.isAgg237
 z171:=Tryz.sizeOf237
 v171:=Tryz.zeroValue237
 t173:=Tryz.underlying239
 a173:=Tryz.isAgg239
 z173:=Tryz.sizeOf239
 v173:=Tryz.zeroValue239
 t212:=Tryz.underlying252
 a212:=Tryz.isAgg252
 z212:=Tryz.sizeOf252
 v212:=Tryz.zeroValue252
 t213:=Tryz.underlying253
 a213:=Tryz.isAgg253
 z213:=Tryz.sizeOf253
 t232:=Tryz.underlying255
 a232:=Tryz.isAgg255
 z232:=Tryz.sizeOf255
 v232:=Tryz.zeroValue255
 t233:=Tryz.underlying221
 a233:=Tryz.isAgg221
 z233:=Tryz.sizeOf221
 v233:=Tryz.zeroValue221
 g17:=by kernel_rfl
 g18:=by kernel_rfl
 g19:=by kernel_rfl }
def Z66:Go.Shelf.Ren:=⟨fun|156=>95|165=>133|166=>134|169=>135|240=>165|241=>166|276=>189|277=>190|n=>n,fun|31=>152|9=>9|3=>3|4=>4|0=>0|20=>20|72=>198|76=>202|70=>196|37=>22|75=>201|127=>223|164=>241|5=>5|80=>91|n=>n,fun|n=>n⟩
theorem lays156:Go.Proofs.Lays.n156 Tryz.prog Z66:={
 mixed:=by kernel_rfl
 f156:=Tryz.func95.trans (congrArg some (by kernel_rfl))
 f165:=Tryz.func133.trans (congrArg some (by kernel_rfl))
 f166:=Tryz.func134.trans (congrArg some (by kernel_rfl))
 f169:=Tryz.func135.trans (congrArg some (by kernel_rfl))
 f240:=Tryz.func165.trans (congrArg some (by kernel_rfl))
 f241:=Tryz.func166.trans (congrArg some (by kernel_rfl))
 f276:=Tryz.func189.trans (congrArg some (by kernel_rfl))
 f277:=Tryz.func190.trans (congrArg some (by kernel_rfl))
 t0:=Tryz.underlying0
 a0:=Tryz.isAgg0
 z0:=Tryz.sizeOf0
 v0:=Tryz.zeroValue0
 t3:=Tryz.underlying3
 a3:=Tryz.isAgg3
 z3:=Tryz.sizeOf3
 v3:=Tryz.zeroValue3
 t4:=Tryz.underlying4
 a4:=Tryz.isAgg4
 z4:=Tryz.sizeOf4
 v4:=Tryz.zeroValue4
 t9:=Tryz.underlying9
 a9:=Tryz.isAgg9
 z9:=Tryz.sizeOf9
 v9:=Tryz.zeroValue9
 t20:=Tryz.underlying20
 a20:=Tryz.isAgg20
 z20:=Tryz.sizeOf20
 v20:=Tryz.zeroValue20
 t31:=Tryz.underlying152
 a31:=Tryz.isAgg152
 z31:=Tryz.sizeOf152
 v31:=Tryz.zeroValue152
 t37:=Tryz.underlying22
 a37:=Tryz.isAgg22
 z37:=Tryz.sizeOf22
 v37:=Tryz.zeroValue22
 t70:=Tryz.underlying196
 a70:=Tryz.isAgg196
 z70:=Tryz.sizeOf196
 v70:=Tryz.zeroValue196
 t72:=Tryz.underlying198
 a72:=Tryz.isAgg198
 z72:=Tryz.sizeOf198
 v72:=Tryz.zeroValue198
 t75:=Tryz.underlying201
 a75:=Tryz.isAgg201
 z75:=Tryz.sizeOf201
 v75:=Tryz.zeroValue201
 t76:=Tryz.underlying202
 a76:=Tryz.isAgg202
 z76:=Tryz.sizeOf202
 v76:=Tryz.zeroValue202
 t127:=Tryz.underlying223
 a127:=Tryz.isAgg223
 z127:=Tryz.sizeOf223
 v127:=Tryz.zeroValue223
 t164:=Tryz.underlying241
 a164:=Tryz.isAgg241
 z164:=Tryz.sizeOf241
 v164:=Tryz.zeroValue241 }
theorem builderExtra156:Builder.Extra Tryz.prog Z66:={
 sizeBuilder:=by kernel_rfl
 liesBuilder:=by kernel_rfl
 t5:=Tryz.underlying5
 a5:=Tryz.isAgg5
 z5:=Tryz.sizeOf5
 v5:=Tryz.zeroValue5
 infoByte:=by kernel_rfl
 cellsByte:=by kernel_rfl
 sizeByte:=by kernel_rfl
 neB5:=by decide }
end Go.Proofs.YthgklpbcmbmmcaaGreatDoor
namespace Go.Proofs.YthgklpbcmbmmcaaGreatDoor
open Go.RowKit
attribute [local irreducible] aw opsK dK
theorem Zbb {f:FuncId} {args:List PV} {v:Value} (hb:HasBody Tryz.prog f) (h:∀ (F:Froz) (w:World) (vs:Array Value),Holds F w→RepL F noLoc vs args→Calls Tryz.prog f vs w fun e w'=>e=.returned v∧Below w.heap.size w w'):Spec Tryz.prog f args (· = .val v):=by
 refine⟨hb,fun F w vs hF hv=>(h F w vs hF hv).mono ?_⟩
 rintro en w' ⟨rfl,hbel⟩
 exact⟨v,.val v,F,rfl,rfl,.val _,hbel,Holds.kept hF hbel,fun _ _ h=>h,fun _ _=>rfl⟩
def numS (k:Nat):ByteArray:=⟨(Go.Lib.decDigits k).toArray⟩
theorem Z67 (k:Nat) (hk:k<100):Spec Tryz.prog 94 [.val (.int .i64 (k:Int))] (· = .val (.string (numS k))):=by
 refine Zbb ⟨_,Tryz.func94,by kernel_rfl,by kernel_rfl⟩ fun F w vs hF hv=>?_
 obtain rfl:vs = #[.int .i64 (k:Int)]:=by
  refine Array.ext hv.1 fun i h1 h2=>?_
  have hi:i=0:=by simp at h2; omega
  subst hi
  have:=(show Rep F noLoc (vs.getD 0 undef) (.val (.int .i64 (k:Int))) from hv.2 0 (Nat.zero_lt_succ _)).val_inv
  simpa [Array.getD_eq_getD_getElem?,h1] using this
 refine (Any.strconv_Itoa_small lays171 k hk w).mono ?_
 rintro e w' ⟨rfl,rfl⟩
 exact⟨rfl,Below.refl _ _⟩
def strC (x:ByteArray):List PV := [.val (.string x)]
theorem Z2B (l:List ByteArray):pureLL (l.map strC):=Zf (enc:=strC) (fun _=>⟨trivial,trivial⟩) l
def joinS (l:List ByteArray) (sep:ByteArray):ByteArray:=⟨(Go.Lib.join (l.map (·.data.toList)) sep.data.toList).toArray⟩
theorem ZdS (l:List ByteArray) (fl:Bool) (sep:ByteArray) (hl:l.length≤140737488355328) (hlen:(Go.Lib.join (l.map (·.data.toList)) sep.data.toList).length≤140737488355328):Spec Tryz.prog 95 [.vec (l.map strC) fl,.val (.string sep)] (· = .val (.string (joinS l sep))):=by
 refine Zbb ⟨_,Tryz.func95,by kernel_rfl,by kernel_rfl⟩ fun F w vs hF hv=>?_
 have hv1:Rep F noLoc (vs.getD 0 undef) (.vec (l.map strC) fl):=hv.2 0 (show 0<2 by decide)
 have hv2:vs.getD 1 undef=.string sep:=(show Rep F noLoc (vs.getD 1 undef) (.val (.string sep)) from hv.2 1 (show 1<2 by decide)).val_inv
 have hvs:vs = #[vs.getD 0 undef,vs.getD 1 undef]:=by
  refine Array.ext hv.1 fun i h1 h2=>?_
  have hs:vs.size=2:=hv.1
  have hi:i=0 ∨ i=1:=by omega
  rcases hi with rfl|rfl<;>simp [Array.getD_eq_getD_getElem?,h1]
 rw [hvs,hv2]
 rcases hv1.vec_inv with⟨h0,hq⟩|⟨x,cap,esz,cs,hq,hs,hcap,hfull,hmax,he,hF1,hR⟩
 · have h0 : l = [] := List.map_eq_nil_iff.1 h0
   subst h0
   rw [hq]
   refine (Any.strings_Join_none lays156 builderExtra156 none 0 sep w).mono ?_
   rintro e w' ⟨rfl,rfl⟩
   exact⟨rfl,Below.refl _ _⟩
 · rw [hq, List.length_map]
   by_cases hne:l = []
   · subst hne
     refine (Any.strings_Join_none lays156 builderExtra156 (some x) cap sep w).mono ?_
     rintro e w' ⟨rfl,rfl⟩
     exact⟨rfl,Below.refl _ _⟩
   · have hsp := hs (by simpa using hne)
     obtain⟨bk,o,sp⟩:=x
     dsimp only at hsp
     subst hsp
     rw [List.length_map] at hcap
     have hpos:0<l.length:=List.length_pos_iff.2 hne
     have hez:esz=1:=by
      have:=he 0 (by simpa using hpos)
      rw [← this]
      simp [List.getD_eq_getElem?_getD,hpos,strC]
     subst hez
     have hcell:∀ (j:Nat) y,l[j]?=some y→F ⟨bk,o+j,none⟩=some (.string y):=fun j y hj=>by
      have hjl:=(List.getElem?_eq_some_iff.1 hj).1
      have h1:=hF1 j 0 (by simpa using hjl) (by decide)
      have h2:=hR j 0 (by simpa using hjl) (by decide)
      have h3:((l.map strC).getD j []).getD 0 pvu=.val (.string y):=by simp [List.getD_eq_getElem?_getD,hj,strC]
      rw [h3] at h2
      have h4:=h2.val_inv
      rw [h4] at h1
      simpa using h1
     refine Any.strings_Join lays156 builderExtra156 bk o cap l sep w (fun j y hj=>(hF.1 _ _ (hcell j y hj)).2.2) ?_ hl hcap hlen
     obtain⟨y,hy⟩:∃ y,l[0]?=some y:=⟨_,List.getElem?_eq_getElem hpos⟩
     have:=(hF.1 _ _ (hcell 0 y hy)).2.2
     unfold World.cell? at this
     split at this
     · rename_i ho; exact (Array.getElem?_eq_some_iff.1 ho).1
     · cases this
def litS (c:Cu) (r:Nat):List ByteArray:=(if c.1.testBit r then [numS r] else [])++if c.2.testBit r then [⟨#[33]⟩++numS r] else []
def litsS (c:Cu) (rs:List Nat):List ByteArray:=rs.flatMap (litS c)
def textS (c:Cu):ByteArray:=if litsS c (mem (c.1 ||| c.2)) = [] then ⟨#[102,117,108,108]⟩ else joinS (litsS c (mem (c.1 ||| c.2))) ⟨#[32]⟩
theorem Zc8 (c:Cu) (rs:List Nat) (r:Nat):litsS c (rs ++ [r])=litsS c rs++litS c r:=by unfold litsS; rw [List.flatMap_append]; simp
theorem Zfi (c:Cu) (r:Nat):(litS c r).length≤2:=by unfold litS; rw [List.length_append]; split<;>split<;>simp
theorem Z68 (c:Cu):∀ rs:List Nat,(litsS c rs).length≤2*rs.length
 | []=>by simp [litsS]
 | r :: rs => by
   have h1:=Zfi c r
   have h2:=Z68 c rs
   unfold litsS at h2 ⊢
   rw [List.flatMap_cons,List.length_append,List.length_cons]
   omega
theorem Z8L {k:Nat} (hk:k<100):(numS k).data.toList.length≤2:=by
 show (Go.Lib.decDigits k).toArray.toList.length≤2
 by_cases h:k<10
 · rw [Go.Lib.decDigits_one h]; simp
 · rw [Go.Lib.decDigits_two h hk]; simp
theorem ZdT (x:ByteArray):((⟨#[33]⟩:ByteArray)++x).data.toList=33 :: x.data.toList:=by rw [ByteArray.data_append]; simp
theorem Zc9 {c:Cu} {rs:List Nat} (h:∀ r∈rs,r<100):∀ x∈litsS c rs,x.data.toList.length≤3:=fun x hx=>by
 obtain⟨r,hr,hx⟩:=List.mem_flatMap.1 hx
 have hn:=Z8L (h r hr)
 unfold litS at hx
 rcases List.mem_append.1 hx with hx|hx
 · split at hx
   · rw [List.mem_singleton] at hx; subst hx; omega
   · cases hx
 · split at hx
   · rw [List.mem_singleton] at hx; subst hx
     rw [ZdT,List.length_cons]; omega
   · cases hx
theorem Zgi {l:List (List UInt8)} {k:Nat} (h:∀ x∈l,x.length≤k):Go.Lib.lens l≤k*l.length:=by
 induction l with
 | nil=>simp [Go.Lib.lens]
 | cons x l ih =>
   have h1:=h x (List.mem_cons_self ..)
   have h2:=ih fun y hy=>h y (List.mem_cons_of_mem _ hy)
   have:Go.Lib.lens (x :: l)=x.length+Go.Lib.lens l:=by simp [Go.Lib.lens]
   rw [this,List.length_cons,Nat.mul_succ]; omega
theorem Zfj {l:List ByteArray} (h:∀ x∈l,x.data.toList.length≤3) (hl:l.length≤1000) (sep:ByteArray) (hs:sep.data.toList.length≤10):(Go.Lib.join (l.map (·.data.toList)) sep.data.toList).length≤140737488355328:=by
 cases l with
 | nil=>simp [Go.Lib.join_nil]
 | cons x l =>
   rw [List.map_cons,Go.Lib.join_length]
   have:=Zgi (k:=3) (l:=(x :: l).map (·.data.toList)) fun y hy=>by
    obtain⟨z,hz,rfl⟩:=List.mem_map.1 hy
    exact h z hz
   rw [List.map_cons] at this
   simp only [List.length_cons,List.length_map] at this hl ⊢
   have h2:sep.data.toList.length*l.length≤10*l.length:=Nat.mul_le_mul_right _ hs
   omega
set_option maxRecDepth 100000 in
set_option maxHeartbeats 4000000 in
theorem Zca (c:Cu) (hc:Ok64 c):Spec Tryz.prog 45 [cuP c] (· = .val (.string (textS c))):=by
 have hor:=Z1W hc.1 hc.2
 refine Z2 ok45 (Nat.le_of_ble_eq_true rfl) fun C hC=>?_
 refine Zk ?_
 refine Z9 ?_
 refine Z4 rfl rfl rfl ?_
 refine gd 5 ⟨?_⟩
 refine Za (ZK (id:=0) (i0:=0) (j0:=0) rfl (by decide) (by decide) rfl 1 (by decide) (by decide)) ?_
 refine gd 9 ⟨?_⟩
 refine Z5 (Z1Q c.1 c.2 hc.1 hc.2) rfl rfl rfl ⟨Z1 _,Z1 _,trivial⟩ rfl ?_
 have hM:textS c=if litsS c (mem (c.1 ||| c.2)) = [] then ⟨#[102,117,108,108]⟩ else joinS (litsS c (mem (c.1 ||| c.2))) ⟨#[32]⟩:=rfl
 rw [hM]
 generalize c.1 ||| c.2=M at hor ⊢
 refine Z5 (Z1O M) rfl rfl rfl ⟨Z1 _,trivial⟩ rfl ?_
 refine go ?_
 refine Z2J (X:=List Nat) hC (caps := [.cp [.vec (words (digs M)) false]]) [(1,.cp (cuC c)),(3,.ptr 0 0 0),(10,.fn 130 [.cp [.vec (words (digs M)) false]])]
  (fun z => [(0,⟨1,[[.own 1]]⟩),(1,⟨1,(litsS c z).map strC⟩)]) rfl ⟨⟨Z8 _,trivial⟩,trivial⟩ (Z2M M hor) (fun _=>rfl)
  (fun ex pre z=>ex=.normal∧z=pre.map (·.val)) 2 (by decide) [] ⟨rfl,rfl⟩
  (Z3k (EnvQ.mem (ρ := fun i => i) (m := 2) (L := [(1, .cp (cuC c)), (3, .ptr 0 0 0), (10, .fn 130 [.cp [.vec (words (digs M)) false]])]) ⟨⟨_, rfl, .pure _ (Zh c)⟩, ⟨_, rfl, .ptr (ρ := fun i => i) 0 0 0 (by decide)⟩, ⟨_, rfl, .pure _ ⟨⟨Z8 _, trivial⟩, trivial⟩⟩, trivial⟩)
    (HeapQ.mem (ρ:=fun i=>i) (m:=2) (L := [(0,⟨1,[[.own 1]]⟩),(1,⟨1,(litsS c []).map strC⟩)]) ⟨⟨by decide,_,rfl,RenB.single ⟨.own (ρ:=fun i=>i) 1 (by decide),trivial⟩ rfl⟩,⟨by decide,_,rfl,.same _ trivial⟩,trivial⟩) hC (by decide))
  (fun z q hq=>by simp at hq; rcases hq with rfl|rfl<;>exact Nat.zero_lt_succ _) _ (fun x=>rfl) ?_ ?_ ?_
 · rintro C2 hC2 pre x z ⟨-, rfl⟩ hlen
   have hx:=Z2x x.2
   have hml:=Z24 M
   have hsn:=Zc8 c (pre.map (·.val)) x.val
   have hll:=Z68 c (pre.map (·.val))
   rw [List.length_map] at hll
   generalize litsS c (pre.map (·.val))=acc at hsn hll ⊢
   have hn:=Z8L (show x.val<100 by omega)
   have hcat:∀ (e:Env) (h:Heap) (n:Nat) (q:Operand),ev e q=some (.val (.string (numS x.val)))→dEval (.bin .add .num (.const (.string ⟨#[33]⟩)) q) e h n=some (.val (.string (⟨#[33]⟩++numS x.val)),h):=fun e h n q hq=>by
    have hsz:(⟨#[33]⟩:ByteArray).size+(numS x.val).size≤9223372036854775807:=by
     have:(numS x.val).size=(numS x.val).data.toList.length:=by rw [Array.length_toList]; rfl
     rw [this]
     show 1+_≤_
     omega
    have h1:ev e (.const (.string ⟨#[33]⟩))=some (.val (.string ⟨#[33]⟩)):=rfl
    simp only [dEval,h1,hq,pbin,sbin,if_pos hsz,Option.map]
   unfold litS at hsn
   refine gd 15 ⟨?_⟩
   refine Z5 (Z17 c.1 hc.1 x.val) rfl rfl rfl ⟨Z1 _,trivial,trivial⟩ rfl ?_
   cases h1:c.1.testBit x.val
   · rw [h1, if_neg (by decide), List.nil_append] at hsn
     refine gd 24 ⟨?_⟩
     refine Z5 (Z17 c.2 hc.2 x.val) rfl rfl rfl ⟨Z1 _,trivial,trivial⟩ rfl ?_
     cases h2:c.2.testBit x.val
     · rw [h2, if_neg (by decide), List.append_nil] at hsn
       refine go ?_
       exact⟨.inl rfl,pre.map (·.val) ++ [x.val],fun i=>i,⟨rfl,by rw [List.map_append]; rfl⟩,fun i hi=>rfl,Zu,
        ⟨⟨_,rfl,.pure _ (Zh c)⟩,⟨_,rfl,.ptr (ρ:=fun i=>i) 0 0 0 (by decide)⟩,⟨_,rfl,.pure _ ⟨⟨Z8 _,trivial⟩,trivial⟩⟩,trivial⟩,
        ⟨⟨by decide,_,rfl,RenB.single ⟨.own (ρ:=fun i=>i) 1 (by decide),trivial⟩ rfl⟩,⟨by decide,_,rfl,by rw [hsn]; exact .same _ (Z2B _)⟩,trivial⟩⟩
     · rw [h2, if_pos rfl] at hsn
       refine gd 27 ⟨?_⟩
       refine Zz (Z67 x.val (by omega)) rfl rfl rfl ⟨trivial,trivial⟩ ?_
       refine Zt (hcat _ _ _ _ rfl) rfl rfl ?_
       refine gd 30 ⟨?_⟩
       refine Zt (Zp (k:=1) (m := [strC (⟨#[33]⟩++numS x.val)]) (fl:=true) rfl rfl rfl (fun q hq=>by rw [List.mem_singleton] at hq; subst hq; rfl) rfl (by
        show ((acc.map strC).length+1)*16≤_
        rw [List.length_map];omega)) rfl rfl ?_
       refine go ?_
       refine⟨.inl rfl,pre.map (·.val) ++ [x.val],mv 1 7,⟨rfl,by rw [List.map_append]; rfl⟩,Z5A (by decide),ZB rfl,
        ⟨⟨_,rfl,.pure _ (Zh c)⟩,⟨_,rfl,.ptr (ρ:=mv 1 7) 0 0 0 (by decide)⟩,⟨_,rfl,.pure _ ⟨⟨Z8 _,trivial⟩,trivial⟩⟩,trivial⟩,
        ⟨⟨by decide,_,rfl,RenB.single ⟨.own (ρ:=mv 1 7) 1 (by decide),trivial⟩ rfl⟩,⟨by decide,_,rfl,?_⟩,trivial⟩⟩
       show RenB _ _ ⟨1,acc.map strC ++ [strC (⟨#[33]⟩++numS x.val)]⟩ ⟨1,(litsS c (pre.map (·.val) ++ [x.val])).map strC⟩
       have hp:=Z2B (acc ++ [⟨#[33]⟩++numS x.val])
       rw [hsn,List.map_append]
       rw [List.map_append] at hp
       exact .same _ hp
   · rw [h1, if_pos rfl] at hsn
     refine gd 18 ⟨?_⟩
     refine Zz (Z67 x.val (by omega)) rfl rfl rfl ⟨trivial,trivial⟩ ?_
     refine gd 20 ⟨?_⟩
     refine Zt (Zp (k:=1) (m := [strC (numS x.val)]) (fl:=true) rfl rfl rfl (fun q hq=>by rw [List.mem_singleton] at hq; subst hq; rfl) rfl (by
      show ((acc.map strC).length+1)*16≤_
      rw [List.length_map];omega)) rfl rfl ?_
     refine gd 24 ⟨?_⟩
     refine Z5 (Z17 c.2 hc.2 x.val) rfl rfl rfl ⟨Z1 _,trivial,trivial⟩ rfl ?_
     cases h2:c.2.testBit x.val
     · rw [h2, if_neg (by decide), List.append_nil] at hsn
       refine go ?_
       refine⟨.inl rfl,pre.map (·.val) ++ [x.val],mv 1 6,⟨rfl,by rw [List.map_append]; rfl⟩,Z5A (by decide),ZB rfl,
        ⟨⟨_,rfl,.pure _ (Zh c)⟩,⟨_,rfl,.ptr (ρ:=mv 1 6) 0 0 0 (by decide)⟩,⟨_,rfl,.pure _ ⟨⟨Z8 _,trivial⟩,trivial⟩⟩,trivial⟩,
        ⟨⟨by decide,_,rfl,RenB.single ⟨.own (ρ:=mv 1 6) 1 (by decide),trivial⟩ rfl⟩,⟨by decide,_,rfl,?_⟩,trivial⟩⟩
       show RenB _ _ ⟨1,acc.map strC ++ [strC (numS x.val)]⟩ ⟨1,(litsS c (pre.map (·.val) ++ [x.val])).map strC⟩
       have hp:=Z2B (acc ++ [numS x.val])
       rw [hsn,List.map_append]
       rw [List.map_append] at hp
       exact .same _ hp
     · rw [h2, if_pos rfl] at hsn
       refine gd 27 ⟨?_⟩
       refine Zz (Z67 x.val (by omega)) rfl rfl rfl ⟨trivial,trivial⟩ ?_
       refine Zt (hcat _ _ _ _ rfl) rfl rfl ?_
       refine gd 30 ⟨?_⟩
       refine Zt (Zp (k:=6) (m := [strC (⟨#[33]⟩++numS x.val)]) (fl:=true) rfl rfl rfl (fun q hq=>by rw [List.mem_singleton] at hq; subst hq; rfl) rfl (by
        show ((acc.map strC ++ [strC (numS x.val)]).length+1)*16≤_
        rw [List.length_append,List.length_map,List.length_singleton];omega)) rfl rfl ?_
       refine go ?_
       refine⟨.inl rfl,pre.map (·.val) ++ [x.val],mv 1 13,⟨rfl,by rw [List.map_append]; rfl⟩,Z5A (by decide),ZB rfl,
        ⟨⟨_,rfl,.pure _ (Zh c)⟩,⟨_,rfl,.ptr (ρ:=mv 1 13) 0 0 0 (by decide)⟩,⟨_,rfl,.pure _ ⟨⟨Z8 _,trivial⟩,trivial⟩⟩,trivial⟩,
        ⟨⟨by decide,_,rfl,RenB.single ⟨.own (ρ:=mv 1 13) 1 (by decide),trivial⟩ rfl⟩,⟨by decide,_,rfl,?_⟩,trivial⟩⟩
       show RenB _ _ ⟨1,acc.map strC ++ [strC (numS x.val)] ++ [strC (⟨#[33]⟩++numS x.val)]⟩ ⟨1,(litsS c (pre.map (·.val) ++ [x.val])).map strC⟩
       have hp:=Z2B (acc++([numS x.val] ++ [⟨#[33]⟩++numS x.val]))
       rw [hsn,List.map_append,List.map_append,← List.append_assoc]
       rw [List.map_append,List.map_append,← List.append_assoc] at hp
       exact .same _ hp
 · rintro xs z hxs ⟨-, rfl⟩
   rw [hxs]
   have hsz:=Zc9 (c:=c) (rs:=mem M) fun r hr=>by have:=Z2x hr; omega
   have hll:=Z68 c (mem M)
   have hml:=Z24 M
   generalize litsS c (mem M)=l at hsz hll ⊢
   refine gd 33 ⟨?_⟩
   cases l with
   | nil =>
     refine Z3 (Zb (v:=true) rfl rfl) rfl rfl ?_
     refine go ?_
     exact Z6 rfl trivial rfl
   | cons y l =>
     refine Z3 (Zb (v:=false) rfl (by simp;omega)) rfl rfl ?_
     repeat' (first|refine Zfq 34 ?_|(first|refine st ?_|(apply B<;>intro hb<;>try cases hb)))
     refine At.mk ?_
     refine Za (Zl (ob:=0) (id:=1) (i0:=0) (j0:=0) rfl rfl (by decide) (Z2B _) (Nat.le_of_ble_eq_true rfl) (Nat.le_of_ble_eq_true rfl) rfl) ?_
     refine gd 35 ⟨?_⟩
     refine Z5 (ZdS (y :: l) false ⟨#[32]⟩ (by omega) (Zfj hsz (by omega) _ (by decide))) rfl rfl rfl ⟨Z2B _,trivial,trivial⟩ rfl ?_
     refine go ?_
     exact Z6 rfl trivial (by rw [if_neg (by simp)])
 · rintro ex pre z - ⟨rfl,_⟩ (h|⟨id,h⟩)<;>cases h
section
variable {P:Program} {e:Env} {h:Heap} {n:Nat}
theorem Z3R {d:Option Nat} {z:Rsv} {i mask:Nat} {op:AOp} {iso:Nat} {alt:Bool} {g:Nat×Bool} {xs:List DItem} {K:Env→Heap→Prop} (hw:wantB (some g) e=some false) (hk:dK P z n xs (updO e d pvu) h K):dK P z n (⟨i,⟨d,op,some g⟩,mask,iso,alt⟩ :: xs) e h K:=by
 unfold dK
 exact⟨_,.skip hw,fun p' f' hh=>by obtain⟨rfl,rfl⟩:=hh; exact hk⟩
end
theorem ZfE:setN 0=.agg [.vec [] false]:=by unfold setN; rw [ZC]; rfl
theorem Zfk {x:RU} (hx:x.tg<64) {s:Nat} (hs:s<18446744073709551616):nextR x s<18446744073709551616:=by
 unfold nextR
 split
 · exact Nat.lt_of_le_of_lt Nat.and_le_left hs
 · exact Z1W hs (ZM hx)
def stepP (x:RU) (s:Nat) (ok:Bool):PV:=.tup [setN (if ok then nextR x s else 0),.val (.bool ok)]
theorem Z4r (x:RU) (s:Nat):PV.tup [.agg [.vec [] false],.val (.bool false)]=stepP x s false:=by
 show _=PV.tup [setN 0,.val (.bool false)]
 rw [ZfE]
set_option maxRecDepth 100000 in
set_option maxHeartbeats 8000000 in
theorem Zcb {t:PB} (h:PbOk t) (S:List Nat) (s:Nat) (hs:s<18446744073709551616) (k:Nat) (hk:k<t.rs.length):Spec Tryz.prog 91 [.agg (pbP t S),setN s,.val (.int .i64 (k:Int))] (· = stepP t.rs[k] s (stepR t t.rs[k] s)):=by
 have hro:=h.rs _ (List.getElem_mem hk)
 have hpp:=Z1e t S
 have hrl:(t.rs.map ruP).length=t.rs.length:=by simp
 refine Z2 ok91 (Nat.le_of_ble_eq_true rfl) fun C hC=>?_
 refine Zk ?_
 refine Z9 ?_
 refine Z4 rfl rfl rfl ?_
 refine Z4 rfl rfl rfl ?_
 refine gd 15 ⟨?_⟩
 refine Zq rfl ?_
 refine Z3 (Zb (v:=false) rfl (decide_eq_false (by omega))) rfl rfl ?_
 refine gd 22 ⟨?_⟩
 refine Zq rfl ?_
 refine Z3 (Zb (v:=false) rfl (decide_eq_false (by rw [hrl];omega))) rfl rfl ?_
 refine gd 28 ⟨?_⟩
 refine Z3 (Zn (xs:=t.rs) (g:=ruP) rfl rfl k rfl hk rfl) rfl rfl ?_
 generalize t.rs[k]=x at hro ⊢
 have hxt:=hro.tg
 have hx64:=hro.m.lt (by decide)
 have hnx:=Zfk (x:=x) (show x.tg<64 by omega) hs
 have hgood:=ZbW h S (nextR x s) hnx
 have hclo:=Z2l t.l S s hs
 have hho:=Z3L x.cu (clo t.l s) hx64 (Z8o _ _)
 have hhas:=Z17 s hs x.tg
 have hne:=ZaZ (r:=x) (show x.tg<64 by omega) hs
 have hw:=Z1x s hs x.tg (by omega)
 have hst:stepR t x s=(decide (s.testBit x.tg=x.rev)&&(goodB t (nextR x s)&&(x.rev||hoC x.cu (clo t.l s)))):=by
  unfold stepR
  rw [decide_eq_decide.2 hne]
 rw [hst]
 refine gd 33 ⟨?_⟩
 refine Z5 hw rfl rfl rfl ⟨Z1 _,trivial,trivial⟩ rfl ?_
 cases hv:x.rev
 · have hnv : nextR x s = s ||| 2 ^ x.tg := by unfold nextR; rw [hv]; rfl
   rw [← hnv]
   refine gd 35 ⟨?_⟩
   refine Z3 (Zb (v:=false) rfl hv) rfl rfl ?_
   refine gd 43 ⟨?_⟩
   refine Zz hhas rfl rfl rfl ⟨Z1 _,trivial,trivial⟩ ?_
   refine gd 45 ⟨?_⟩
   refine Zt (Zb (v:=false) rfl hv) rfl rfl ?_
   cases hb:s.testBit x.tg
   case true =>
    repeat' (first|refine Z3R rfl ?_|(first|refine st ?_|(apply B<;>intro hb<;>try cases hb)))
    exact Z1b (r:=.tup [.agg [.vec [] true],.val (.bool false)]) rfl ⟨⟨trivial,trivial⟩,trivial,trivial⟩ (Z4r x s)
   refine gd 49 ⟨?_⟩
   refine Z2t rfl ?_
   refine Zt (Zb (v:=false) rfl hv) rfl rfl ?_
   refine gd 57 ⟨?_⟩
   refine Z2t rfl ?_
   refine Zz hclo rfl rfl rfl ⟨Zs _ _,Z1 _,trivial⟩ ?_
   refine Z2t rfl ?_
   refine Zz hho rfl rfl rfl ⟨Zm _,Z1 _,trivial⟩ ?_
   cases hh:hoC x.cu (clo t.l s)
   case false =>
    repeat' (first|refine Z3R rfl ?_|(first|refine st ?_|(apply B<;>intro hb<;>try cases hb)))
    exact Z1b (r:=.tup [.agg [.vec [] true],.val (.bool false)]) rfl ⟨⟨trivial,trivial⟩,trivial,trivial⟩ (by cases goodB t (nextR x s)<;>exact Z4r x s)
   refine gd 65 ⟨?_⟩
   refine Z2t rfl ?_
   refine Zz hgood rfl rfl rfl ⟨hpp,Z1 _,trivial⟩ ?_
   cases hg:goodB t (nextR x s)
   case false =>
    repeat' (first|refine Z3R rfl ?_|(first|refine st ?_|(apply B<;>intro hb<;>try cases hb)))
    exact Z1b (r:=.tup [.agg [.vec [] true],.val (.bool false)]) rfl ⟨⟨trivial,trivial⟩,trivial,trivial⟩ (Z4r x s)
   repeat' (first|refine Z3R rfl ?_|(first|refine st ?_|(apply B<;>intro hb<;>try cases hb)))
   exact Z6 rfl ⟨Z1 _,trivial,trivial⟩ rfl
 · have hnv : nextR x s = minusN s (2 ^ x.tg) := by unfold nextR; rw [hv]; rfl
   have hwo:=Z1D s hs (x.tg:Int)
   rw [Z2R hs (by omega),← hnv] at hwo
   refine gd 35 ⟨?_⟩
   refine Z3 (Zb (v:=true) rfl hv) rfl rfl ?_
   refine gd 39 ⟨?_⟩
   refine Z5 hwo rfl rfl rfl ⟨Z1 _,trivial,trivial⟩ rfl ?_
   refine gd 43 ⟨?_⟩
   refine Zz hhas rfl rfl rfl ⟨Z1 _,trivial,trivial⟩ ?_
   refine gd 45 ⟨?_⟩
   refine Zt (Zb (v:=true) rfl hv) rfl rfl ?_
   cases hb:s.testBit x.tg
   case false =>
    repeat' (first|refine Z3R rfl ?_|(first|refine st ?_|(apply B<;>intro hb<;>try cases hb)))
    exact Z1b (r:=.tup [.agg [.vec [] true],.val (.bool false)]) rfl ⟨⟨trivial,trivial⟩,trivial,trivial⟩ (Z4r x s)
   refine gd 49 ⟨?_⟩
   refine Z2t rfl ?_
   refine Zt (Zb (v:=true) rfl hv) rfl rfl ?_
   refine gd 65 ⟨?_⟩
   refine Z2t rfl ?_
   refine Zz hgood rfl rfl rfl ⟨hpp,Z1 _,trivial⟩ ?_
   cases hg:goodB t (nextR x s)
   case false =>
    repeat' (first|refine Z3R rfl ?_|(first|refine st ?_|(apply B<;>intro hb<;>try cases hb)))
    exact Z1b (r:=.tup [.agg [.vec [] true],.val (.bool false)]) rfl ⟨⟨trivial,trivial⟩,trivial,trivial⟩ (Z4r x s)
   repeat' (first|refine Z3R rfl ?_|(first|refine st ?_|(apply B<;>intro hb<;>try cases hb)))
   exact Z6 rfl ⟨Z1 _,trivial,trivial⟩ rfl
set_option maxHeartbeats 4000000 in
theorem ZdU {t:PB} (h:PbOk t) (S:List Nat) (p:List Nat) (fl:Bool) (hl:p.length≤1000000) {E:Nat} (hr:RunOk t t.st p E):Spec Tryz.prog 43 [.agg (pbP t S),.vec (inL p) fl] (· = .tup [setN E,.val (.int .i64 (p.length:Int)),.val (.bool true)]):=by
 have hpp:=Z1e t S
 have hpl:=Z2S p
 have hlen:=Za4 p
 refine Z2 ok43 (Nat.le_of_ble_eq_true rfl) fun C hC=>?_
 have hpc:∀ D,innL D (pbP t S):=fun D=>Z1f (fun _ h=>h.elim) _ hpp
 have hpi:∀ D,innLL D (inL p):=fun D=>Zi (fun _ h=>h.elim) _ hpl
 refine Zk ?_
 refine Z9 ?_
 refine Z4 rfl rfl rfl ?_
 refine go ?_
 refine ZH hC (fun (z:Nat×Nat)=>z.1≤p.length∧InS t z.2∧RunOk t z.2 (p.drop z.1) E) (fun z=>p.length-z.1) 2 (fun z => [(1,.vec (inL p) fl),(2,.cp (pbP t S)),(4,.ptr 0 0 0),(7,.ptr 1 0 0),(18,.vec (inL p) fl),(19,.val (.int .i64 (p.length:Int))),(20,.val (.int .i64 (z.1:Int)))]) (fun z => [(0,⟨1,[[.vec [] true]]⟩),(1,⟨1,[[.vec (words (digs z.2)) false]]⟩)]) (Nat.zero_le _) (0,t.st) ⟨Nat.zero_le _,h.st,hr⟩
  ⟨⟨rfl,hpi _⟩,⟨rfl,hpc _⟩,⟨rfl,show (0:Nat)<2 by decide⟩,⟨rfl,show (1:Nat)<2 by decide⟩,⟨rfl,hpi _⟩,⟨by rw [← hlen]; rfl,trivial⟩,⟨rfl,trivial⟩,trivial⟩ ⟨⟨by decide,rfl,⟨⟨trivial,trivial⟩,trivial⟩⟩,⟨by decide,rfl,⟨⟨Zg _ _,trivial⟩,trivial⟩⟩,trivial⟩ ?_
 rintro⟨i,s⟩ ⟨hi,hs,hrun⟩
 dsimp only at hi hs hrun ⊢
 have hinc:IntKind.i64.wrap ((i:Int)+1)=((i+1:Nat):Int):=IntWalk.i64_in _ ⟨by omega,by omega⟩
 refine gd 21 ⟨?_⟩
 by_cases hil:i<p.length
 · refine Z3 (Zb (v := true) rfl (decide_eq_true (Int.ofNat_lt.2 hil))) rfl rfl ?_
   rw [List.drop_eq_getElem_cons hil] at hrun
   refine gd 23 ⟨?_⟩
   refine Z3 (Zn (xs:=p) (g:=inC1) rfl rfl i rfl hil rfl) rfl rfl ?_
   generalize p[i]=k at hrun ⊢
   obtain⟨x,hx,hst,hrun⟩:=hrun
   obtain⟨hkl,rfl⟩:=List.getElem?_eq_some_iff.1 hx
   refine gd 29 ⟨?_⟩
   refine Z5 (Zcb h S s (hs.lt h.n.2) k hkl) rfl rfl rfl ⟨hpp,Z1 _,trivial,trivial⟩ rfl ?_
   rw [hst]
   refine go ?_
   exact⟨(i+1,nextR t.rs[k] s),⟨hil,Z4q h (List.getElem_mem hkl) hs,hrun⟩,by show p.length-(i+1)<p.length-i; omega,⟨⟨rfl,hpi _⟩,⟨rfl,hpc _⟩,⟨rfl,show (0:Nat)<2 by decide⟩,⟨rfl,show (1:Nat)<2 by decide⟩,⟨rfl,hpi _⟩,⟨rfl,trivial⟩,⟨by show some _=some _; rw [hinc],trivial⟩,trivial⟩,⟨⟨by decide,rfl,⟨⟨trivial,trivial⟩,trivial⟩⟩,⟨by decide,rfl,⟨⟨Zg _ _,trivial⟩,trivial⟩⟩,trivial⟩⟩
 · refine Z3 (Zb (v := false) rfl (decide_eq_false (by omega))) rfl rfl ?_
   refine go ?_
   rw [List.drop_eq_nil_of_le (by omega)] at hrun
   obtain rfl:=Za3 hrun
   exact Z6 rfl ⟨Z1 _,trivial,trivial,trivial⟩ (by rw [hlen]; rfl)
section
variable {P:Program} {e:Env} {h:Heap} {n:Nat}
theorem Z7T {k:Nat} {p q:PV} (hk:e k=some p) (hr:RenP (fun i=>i) (fun _=>False) p q):SubA n e h n (e.upd k q) h:=by
 rintro C a w ⟨F,φ,s⟩
 refine⟨F,φ,{ s with env:=fun j r hq=>?_ }⟩
 by_cases hj:j=k
 · subst hj
   rw [Env.upd_same] at hq
   cases hq
   exact⟨(s.env j p hk).1,hr.rep (fun i x hd _=>hd.elim) (s.env j p hk).2⟩
 · rw [Env.upd_ne _ _ hj] at hq
   exact s.env j r hq
theorem RenLs.agg {ρ:Nat→Nat} {D:Nat→Prop} {l m:List PV} (h:RenLs ρ D l m):RenP ρ D (.agg l) (.agg m):=by
 obtain⟨h1,h2⟩:=h.get
 exact .agg l m h1 fun i hi=>h2 i (by omega)
end
theorem Z2p (l:List Int) (N:Nat) (h:maskTo (topOf l) l=N) (fl:Bool):Spec Tryz.prog 38 [.vec (nums l) fl] (· = setN N):=h▸ZcN l fl
theorem Z4s:Small ([]:List Pr):=fun p hp=>by cases hp
theorem ZfF {a b:Nat} (h:Up [] a b):False:=by
 cases h with
 | one h=>cases h
 | more _ h=>cases h
theorem Z7U {s m:Nat} (hs:s ||| mkN m=mkN m) (hm:m≤63):clo [] s=s:=by
 have hlt:s<18446744073709551616:=by
  have h1:s≤mkN m:=by rw [← hs]; exact Nat.left_le_or
  have:=Z3D hm
  omega
 refine Nat.eq_of_testBit_eq fun i=>?_
 rw [Bool.eq_iff_iff,Z5Z Z4s hlt]
 constructor
 · rintro ⟨a, h1, h2, h3⟩
   rcases (Z3O Z4s i a).1 h3 with h4|rfl
   · exact (ZfF h4).elim
   · exact h1
 · intro h1
   have h2:=orSub.1 hs i h1
   rw [Z1I,Bool.and_eq_true,decide_eq_true_eq] at h2
   exact⟨i,h1,h2.1,(Z3O Z4s i i).2 (.inr rfl)⟩
def rsE:List RU := [⟨false,(0,0),1,0⟩,⟨false,(2,0),2,0⟩,⟨true,(0,0),1,0⟩]
def tE (nv:List Cu):PB:=⟨3,[],0,rsE,nv,[(4,2)]⟩
theorem inC3 {c:Cu} (h1:c.1 ||| 14=14) (h2:c.2 ||| 14=14) (h3:emC c=false):InC 3 c∧InM 62 c:=⟨⟨h1,h2,h3⟩,Z3v h1 (by decide),Z3v h2 (by decide)⟩
theorem ZgQ (nv:List Cu) (hl:nv.length≤64) (h:∀ c∈nv,InC 3 c∧InM 62 c) (h0:soC nv 0=false):PbOk (tE nv):=by
 refine⟨show 1≤3∧3≤63 by decide,⟨List.Pairwise.nil,fun p hp=>(by cases hp),⟨fun _=>0,fun p hp=>(by cases hp)⟩⟩,fun p hp=>(by cases hp),show 0 ||| mkN 3=mkN 3 by decide,show rsE.length≤64 by decide,fun r hr=>?_,hl,h,show 1≤64 by decide,fun c hc=>?_,?_⟩
 · have hr : r ∈ rsE := hr
   unfold rsE at hr
   simp only [List.mem_cons,List.not_mem_nil,or_false] at hr
   rcases hr with rfl|rfl|rfl
   · have := inC3 (c := (0, 0)) (by decide) (by decide) (by decide)
     exact⟨this.1,this.2,show 1≤1∧1≤3∧1≤5 by decide,fun _=>rfl⟩
   · have := inC3 (c := (2, 0)) (by decide) (by decide) (by decide)
     exact⟨this.1,this.2,show 1≤2∧2≤3∧2≤5 by decide,fun h=>by cases h⟩
   · have := inC3 (c := (0, 0)) (by decide) (by decide) (by decide)
     exact⟨this.1,this.2,show 1≤1∧1≤3∧1≤5 by decide,fun _=>rfl⟩
 · have hc : c ∈ [((4, 2) : Cu)] := hc
   rw [List.mem_singleton] at hc
   subst hc
   exact inC3 (by decide) (by decide) (by decide)
 · show soC nv (clo [] 0) = false
   rw [Z7U (m:=3) (by decide) (by decide)]; exact h0
def t0:PB:=tE []
def t1:PB:=tE [(6,0)]
theorem Z7V:PbOk t0:=ZgQ [] (by decide) (fun c hc=>by cases hc) rfl
theorem Zcc:PbOk t1:=ZgQ [(6,0)] (by decide) (fun c hc=>by
 rw [List.mem_singleton] at hc
 subst hc
 exact inC3 (by decide) (by decide) (by decide)) (by decide)
theorem goodE {nv:List Cu} {s:Nat} (hs:s ||| 14=14):goodB (tE nv) s = !soC nv s:=by
 show (!soC nv (clo [] s))=_
 rw [Z7U (m:=3) hs (by decide)]
theorem reachE {nv:List Cu} {s:Nat} (hs:s ||| 14=14):reachB (tE nv) s=soC [(4,2)] s:=by
 show soC [(4,2)] (clo [] s)=_
 rw [Z7U (m:=3) hs (by decide)]
theorem stepE {nv:List Cu} {x:RU} {s:Nat} (hs:s ||| 14=14) (hn:nextR x s ||| 14=14):stepR (tE nv) x s=(decide (nextR x s≠s)&&(!soC nv (nextR x s)&&(x.rev||hoC x.cu s))):=by
 unfold stepR
 rw [goodE hn]
 show (_&&(_&&(x.rev||hoC x.cu (clo [] s))))=_
 rw [Z7U (m:=3) hs (by decide)]
theorem able0:Able t0 t0.st:=by
 have r0:(⟨false,(0,0),1,0⟩:RU)∈t0.rs:=by show _∈rsE; unfold rsE; simp
 have r1:(⟨false,(2,0),2,0⟩:RU)∈t0.rs:=by show _∈rsE; unfold rsE; simp
 have r2:(⟨true,(0,0),1,0⟩:RU)∈t0.rs:=by show _∈rsE; unfold rsE; simp
 refine .step (S:=0) (x:=⟨false,(0,0),1,0⟩) (by show _ ||| 14=14; decide) (by unfold t0; rw [goodE (by decide)]; rfl) r0 (by unfold t0; rw [stepE (by decide) (by decide)]; decide) ?_
 refine .step (S:=2) (x:=⟨false,(2,0),2,0⟩) (by show _ ||| 14=14; decide) (by unfold t0; rw [goodE (by decide)]; rfl) r1 (by unfold t0; rw [stepE (by decide) (by decide)]; decide) ?_
 refine .step (S:=6) (x:=⟨true,(0,0),1,0⟩) (by show _ ||| 14=14; decide) (by unfold t0; rw [goodE (by decide)]; rfl) r2 (by unfold t0; rw [stepE (by decide) (by decide)]; decide) ?_
 exact .base (S:=4) (by show _ ||| 14=14; decide) (by unfold t0; rw [goodE (by decide)]; rfl) (by unfold t0; rw [reachE (by decide)]; decide)
theorem Z69 {S:Nat} (h:Able t1 S):S.testBit 2=true:=by
 induction h with
 | base hS hg hr =>
   unfold t1 at hr
   rw [reachE hS,Z3M] at hr
   exact ((Z10 _ _).1 hr).1 2 (by decide)
 | step hS hg hx hs ha ih =>
   rename_i S x
   have hl:=hS.lt (t:=t1) (by decide)
   have hx':x∈rsE:=hx
   unfold rsE at hx'
   simp only [List.mem_cons,List.not_mem_nil,or_false] at hx'
   have hb:=ZT (r:=x) (by rcases hx' with rfl|rfl|rfl<;>decide) hl 2
   rw [ih] at hb
   rcases hx' with rfl|rfl|rfl
   · rw [if_neg (by decide)] at hb; exact hb.symm
   · exfalso
     unfold t1 at hs
     rw [stepE hS (Z4q Zcc hx hS)] at hs
     rw [Bool.and_eq_true,Bool.and_eq_true,Bool.not_eq_true',Z3M] at hs
     have h1:hoC (2,0) S=true:=hs.2.2
     have h2:S.testBit 1=true:=((Z10 _ _).1 h1).1 1 (by decide)
     have h3:hoC (6,0) (nextR ⟨false,(2,0),2,0⟩ S)=true:=(Z10 _ _).2 ⟨fun i hi=>by
      rw [ZT (by decide) hl]
      have:i=1 ∨ i=2:=by
       have hi2:i<3:=Nat.lt_of_not_le fun h=>by
        rw [Nat.testBit_lt_two_pow (Nat.lt_of_lt_of_le (show (6:Nat)<2 ^ 3 by decide) (Nat.pow_le_pow_right (by decide) h))] at hi
        cases hi
       have:i≠0:=fun e=>by subst e; revert hi; decide
       omega
      rcases this with rfl|rfl
      · rw [if_neg (by decide)]; exact h2
      · rfl,fun i hi=>by simp at hi⟩
     rw [h3] at hs
     exact absurd hs.2.1 (by decide)
   · rw [if_neg (by decide)] at hb; exact hb.symm
theorem ZdV (r:Nat):sen [] r=2 ^ r:=Nat.eq_of_testBit_eq fun a=>by
 rw [Bool.eq_iff_iff,Z3O Z4s,Nat.testBit_two_pow,decide_eq_true_eq]
 exact⟨fun h=>h.elim (fun h=>(ZfF h).elim) Eq.symm,fun h=>.inr h.symm⟩
theorem Z6a (c:Cu) (hc:Ok64 c) (he:emC c=false) {S:Nat} (hS:hoC c S=true):simL [c] = [c]:=by
 have h64:∀ x∈[c],Ok64 x:=fun x hx=>by rw [List.mem_singleton] at hx; subst hx; exact hc
 have hm:∀ x∈simL [c],x=c:=fun x hx=>List.mem_singleton.1 (Z1H hx).1
 have hn:=Z3u h64
 have hso:=Z5Y h64 S
 rw [Z3M,hS] at hso
 generalize simL [c]=l at hm hn hso
 match l,hm,hn,hso with
 | [],_,_,hso=>cases hso
 | [x],hm,_,_=>rw [hm x (List.mem_cons_self ..)]
 | x :: y :: r, hm, hn, _ =>
   have h1:=hm x (by simp)
   have h2:=hm y (by simp)
   rw [List.nodup_cons] at hn
   exact absurd (by rw [h1,h2]; simp) hn.1
theorem Zfl:simL [] = []:=by
 cases h:simL [] with
 | nil=>rfl
 | cons c l=>exact absurd (Z1H (show c∈simL [] by rw [h]; simp)).1 (by simp)
theorem tgt0:tgtL t0 = [(4,2)]:=by
 have h1:badL t0 = []:=Zfl
 have h2:exL [] 3 (4,2) = [(4,2)]:=by
  have e1:mem 2 = [1]:=by decide +kernel
  have e2:mem 4 = [2]:=by decide +kernel
  have e3:exN [] 3 (mem 2)=2:=by rw [e1]; unfold exN; simp only [List.foldl]; rw [ZdV]; decide
  unfold exL
  show exF [] 3 (mem 4) [(0,exN [] 3 (mem 2))]=_
  rw [e3,e2]
  unfold exF
  simp only [List.foldl]
  have e4:exX [] 3 2 [(0,2)] = [(4,2)]:=by
   unfold exX
   rw [ZdV]
   have:mem (2 ^ 2 &&& mkN 3) = [2]:=by decide +kernel
   simp only [this,List.flatMap_cons,List.flatMap_nil,List.map]
   decide
  rw [e4]
  exact Z6a (4,2) ⟨by decide,by decide⟩ (by decide) (S:=4) (by decide)
 have h3:expAll t0 t0.gl = [(4,2)]:=by
  unfold expAll
  show ([(4,2)]:List Cu).flatMap (exL [] 3)=_
  rw [List.flatMap_cons,List.flatMap_nil,h2]; rfl
 unfold tgtL
 rw [h1,h3]
 have h4:splAll [] [(4,2)] = [(4,2)]:=by decide
 rw [h4]
 exact Z6a (4,2) ⟨by decide,by decide⟩ (by decide) (S:=4) (by decide)
theorem text0:textS (4,2)=⟨#[33,49,32,50]⟩:=by
 have e1:mem ((4:Nat) ||| 2) = [1,2]:=by decide +kernel
 have n1:numS 1=⟨#[49]⟩:=by unfold numS; rw [Go.Lib.decDigits_one (by decide)]; rfl
 have n2:numS 2=⟨#[50]⟩:=by unfold numS; rw [Go.Lib.decDigits_one (by decide)]; rfl
 have h:litsS (4,2) [1,2] = [⟨#[33,49]⟩,⟨#[50]⟩]:=by
  unfold litsS litS
  simp only [List.flatMap_cons,List.flatMap_nil]
  rw [n1,n2]
  rfl
 unfold textS
 show (if litsS (4,2) (mem (4 ||| 2)) = [] then _ else joinS (litsS (4,2) (mem (4 ||| 2))) ⟨#[32]⟩)=_
 rw [e1,h,if_neg (by simp)]
 rfl
theorem bf0:bfV t0 (4,2) 2=.tup [.vec ((bfL t0 ⟨true,(0,0),1,0⟩ (4,2)).map cuC) false,.val (.int .i64 0)]:=by
 unfold bfV
 rw [dif_pos (show 0≤(2:Int)∧(2:Int).toNat<t0.rs.length by decide),if_pos (by decide)]
 rfl
theorem ZgR:RuOk 3 ⟨true,(0,0),1,0⟩:=by
 have:=inC3 (c:=(0,0)) (by decide) (by decide) (by decide)
 exact⟨this.1,this.2,by decide,fun _=>rfl⟩
theorem c42:InM 62 ((4,2):Cu):=⟨by decide,by decide⟩
theorem ZfG {S:Nat} (hS:S ||| 14=14) (hn:nextR ⟨true,(0,0),1,0⟩ S ||| 14=14):soC (bfL t0 ⟨true,(0,0),1,0⟩ (4,2)) S=(decide (nextR ⟨true,(0,0),1,0⟩ S≠S)&&hoC (4,2) (nextR ⟨true,(0,0),1,0⟩ S)):=by
 rw [ZgM Z7V ZgR c42 hS]
 unfold t0
 rw [goodE hS,stepE hS hn]
 simp [soC]
theorem pb0 (S:List Nat):PV.agg (pbP t0 S)=.agg [.val (.int .i64 3),hierP [] S,.vec [] false,.vec [[.val (.bool false),.vec [] false,.vec [] false,.val (.int .i64 1),.val (.int .i64 0)],[.val (.bool false),.vec (words (digs 2)) false,.vec [] false,.val (.int .i64 2),.val (.int .i64 0)],[.val (.bool true),.vec [] false,.vec [] false,.val (.int .i64 1),.val (.int .i64 0)]] false,.vec [] false,.vec [[.vec (words (digs 4)) false,.vec (words (digs 2)) false]] false]:=by
 have h:ruP ⟨false,(2,0),2,0⟩ = [.val (.bool false),.vec (words (digs 2)) false,.vec (words (digs 0)) false,.val (.int .i64 2),.val (.int .i64 0)]:=rfl
 have h0:words (digs 0) = []:=by rw [ZC]; rfl
 unfold t0 tE pbP rsE
 simp only [List.map,ruP,cuC,h0]
 rfl
set_option maxRecDepth 100000 in
set_option maxHeartbeats 16000000 in
theorem Z8M:Spec Tryz.prog 13 [] (· = .val (.bool true)):=by
 have h0:words (digs 0) = []:=by rw [ZC]; rfl
 refine Z2 ok13 (Nat.le_of_ble_eq_true rfl) fun C hC=>?_
 refine gd 15 ⟨?_⟩
 refine ZF rfl rfl Z4U trivial rfl ?_
 rintro r ⟨S,rfl⟩
 have hpp0:=Z1e t0 S
 have hpp1:=Z1e t1 S
 refine gd 18 ⟨?_⟩
 refine Z5 (Z2p [1] 2 (by decide +kernel) true) rfl rfl rfl ⟨Zr _,trivial⟩ rfl ?_
 refine gd 24 ⟨?_⟩
 refine Z5 (Z2p [2] 4 (by decide +kernel) true) rfl rfl rfl ⟨Zr _,trivial⟩ rfl ?_
 refine gd 26 ⟨?_⟩
 refine Z5 (Z2p [1] 2 (by decide +kernel) true) rfl rfl rfl ⟨Zr _,trivial⟩ rfl ?_
 refine gd 1 ⟨?_⟩
 refine Za (Z7T (k:=29) (q:=.agg (pbP t0 S)) rfl (by
  rw [pb0]
  refine RenLs.agg ⟨.pure _ trivial,.pure _ (Zs _ _),.low (.vec [] true) trivial,?_,.low (.vec [] true) trivial,?_,trivial⟩
  · have := RenP.low (ρ := fun i => i) (D := fun _ => False) (.vec [[.val (.bool false), .vec [] true, .vec [] true, .val (.int .i64 1), .val (.int .i64 0)], [.val (.bool false), .vec (words (digs 2)) false, .vec [] true, .val (.int .i64 2), .val (.int .i64 0)], [.val (.bool true), .vec [] true, .vec [] true, .val (.int .i64 1), .val (.int .i64 0)]] true) (by
     show pureLL [_,[_,.vec (lowLL (words (digs 2))) false,_,_,_],_]
     rw [ZV]
     exact⟨⟨trivial,trivial,trivial,trivial,trivial,trivial⟩,⟨trivial,Z8 _,trivial,trivial,trivial,trivial⟩,⟨trivial,trivial,trivial,trivial,trivial,trivial⟩,trivial⟩)
    have e:(PV.vec [[.val (.bool false),.vec [] true,.vec [] true,.val (.int .i64 1),.val (.int .i64 0)],[.val (.bool false),.vec (words (digs 2)) false,.vec [] true,.val (.int .i64 2),.val (.int .i64 0)],[.val (.bool true),.vec [] true,.vec [] true,.val (.int .i64 1),.val (.int .i64 0)]] true).low=.vec [[.val (.bool false),.vec [] false,.vec [] false,.val (.int .i64 1),.val (.int .i64 0)],[.val (.bool false),.vec (lowLL (words (digs 2))) false,.vec [] false,.val (.int .i64 2),.val (.int .i64 0)],[.val (.bool true),.vec [] false,.vec [] false,.val (.int .i64 1),.val (.int .i64 0)]] false:=rfl
    rw [e,ZV] at this
    exact this
  · have := RenP.low (ρ := fun i => i) (D := fun _ => False) (.vec [[.vec (words (digs 4)) false, .vec (words (digs 2)) false]] true) (by
     show pureLL [[.vec (lowLL (words (digs 4))) false,.vec (lowLL (words (digs 2))) false]]
     rw [ZV,ZV]
     exact⟨⟨Z8 _,Z8 _,trivial⟩,trivial⟩)
    have e:(PV.vec [[.vec (words (digs 4)) false,.vec (words (digs 2)) false]] true).low=.vec [[.vec (lowLL (words (digs 4))) false,.vec (lowLL (words (digs 2))) false]] false:=rfl
    rw [e,ZV,ZV] at this
    exact this)) ?_
 refine gd 32 ⟨?_⟩
 refine ZF rfl rfl (Z3Q Z7V (by decide) S 8 (by decide)) ⟨hpp0,trivial,trivial⟩ rfl ?_
 intro v hv
 cases hv with
 | no ks hk=>exact absurd able0 (hk.not_able Z7V)
 | lim hl=>exact absurd hl (by decide)
 | yes p hp hpl =>
   obtain⟨E,hrun,hre⟩:=hp
   have hE:InS t0 E:=(ZdN p .base hrun).inS Z7V
   have hlen:=Za4 p
   refine gd 39 ⟨?_⟩
   refine Z5 (Z4Y Z7V S) rfl rfl rfl ⟨hpp0,trivial⟩ rfl ?_
   rw [tgt0]
   refine gd 45 ⟨?_⟩
   refine Zz (Z2p [2] 4 (by decide +kernel) true) rfl rfl rfl ⟨Zr _,trivial⟩ ?_
   refine gd 47 ⟨?_⟩
   refine Zz (Z2p [1] 2 (by decide +kernel) true) rfl rfl rfl ⟨Zr _,trivial⟩ ?_
   refine gd 49 ⟨?_⟩
   refine Zz (Z8I Z7V S (4,2) ⟨by decide,by decide⟩ (by decide) (fun _=>c42) 2) rfl rfl rfl ⟨hpp0,Zm _,trivial,trivial⟩ ?_
   rw [bf0]
   have hb6:=ZfG (S:=6) (by decide) (by decide)
   have hb4:=ZfG (S:=4) (by decide) (by decide)
   have hb64:=Z2Q fun c hc=>((ZgN Z7V ZgR c42).1 c hc).1
   generalize bfL t0 ⟨true,(0,0),1,0⟩ (4,2)=L at hb6 hb4 hb64 ⊢
   refine gd 55 ⟨?_⟩
   refine Z5 (ZdU Z7V S p false (by omega) hrun) rfl rfl rfl ⟨hpp0,Z2S _,trivial⟩ rfl ?_
   refine gd 81 ⟨?_⟩
   refine Zq rfl ?_
   refine Z3 (Zb (v:=false) rfl (by rw [hlen]; simp)) rfl rfl ?_
   refine gd 86 ⟨?_⟩
   refine Zq rfl ?_
   refine Z5 (Z9M Z7V S E (hE.lt (by decide))) rfl rfl rfl ⟨hpp0,Z1 _,trivial⟩ rfl ?_
   rw [hre]
   refine gd 98 ⟨?_⟩
   refine Zq rfl ?_
   refine Z5 (Zca (4,2) ⟨by decide,by decide⟩) rfl rfl rfl ⟨Zm _,trivial⟩ rfl ?_
   rw [text0]
   refine gd 99 ⟨?_⟩
   refine Zq rfl ?_
   refine Z3 (Zb (v:=false) rfl (by simp)) rfl rfl ?_
   refine gd 104 ⟨?_⟩
   refine Zq rfl ?_
   refine Z5 (Z2p [1,2] 6 (by decide +kernel) true) rfl rfl rfl ⟨Zr _,trivial⟩ rfl ?_
   refine Zq rfl ?_
   refine Z5 (Z1w L false 6 hb64 (by decide)) rfl rfl rfl ⟨Z0 _,Z1 _,trivial⟩ rfl ?_
   rw [hb6]
   refine gd 111 ⟨?_⟩
   refine Zq rfl ?_
   refine Z5 (Z2p [2] 4 (by decide +kernel) true) rfl rfl rfl ⟨Zr _,trivial⟩ rfl ?_
   refine Zq rfl ?_
   refine Z5 (Z1w L false 4 hb64 (by decide)) rfl rfl rfl ⟨Z0 _,Z1 _,trivial⟩ rfl ?_
   rw [hb4]
   refine gd 115 ⟨?_⟩
   refine Z5 (Z2p [1,2] 6 (by decide +kernel) true) rfl rfl rfl ⟨Zr _,trivial⟩ rfl ?_
   refine gd 118 ⟨?_⟩
   refine Za (Z7T (k:=117) (q:=.vec ([((6,0):Cu)].map cuC) false) rfl (by
    have e:PV.vec ([((6,0):Cu)].map cuC) false=(PV.vec [[.vec (words (digs 6)) false,.vec [] true]] true).low:=by
     show PV.vec [[.vec (words (digs 6)) false,.vec (words (digs 0)) false]] false=PV.vec [[.vec (lowLL (words (digs 6))) false,.vec [] false]] false
     rw [ZV,h0]
    rw [e]
    refine .low _ ?_
    show (PV.vec [[.vec (words (digs 6)) false,.vec [] true]] true).low.pure
    rw [← e]
    exact Z0 _)) ?_
   refine gd 121 ⟨?_⟩
   refine ZF rfl rfl (Z3Q Zcc (by decide) S 8 (by decide)) ⟨hpp1,trivial,trivial⟩ rfl ?_
   intro v hv
   cases hv with
   | lim hl=>exact absurd hl (by decide)
   | yes p hp hpl=>exact absurd (Z69 (hp.able Zcc)) (by decide)
   | no ks hk =>
     have s4:soC (kcs ks) 4=true:=(hk.able_iff Zcc (by show _ ||| 14=14; decide)).2 (.base (by show _ ||| 14=14; decide) (by unfold t1; rw [goodE (by decide)]; decide) (by unfold t1; rw [reachE (by decide)]; decide))
     have s2:soC (kcs ks) 2=false:=Bool.eq_false_iff.2 fun h=>absurd (Z69 ((hk.able_iff Zcc (by show _ ||| 14=14; decide)).1 h)) (by decide)
     have s0:soC (kcs ks) 0=false:=Bool.eq_false_iff.2 fun h=>absurd (Z69 ((hk.able_iff Zcc (by show _ ||| 14=14; decide)).1 h)) (by decide)
     have hk64:=hk.inv.c64
     refine gd 135 ⟨?_⟩
     refine Zq rfl ?_
     refine Z5 (Z2p [2] 4 (by decide +kernel) true) rfl rfl rfl ⟨Zr _,trivial⟩ rfl ?_
     refine Zq rfl ?_
     refine Z5 (Z1w (kcs ks) false 4 hk64 (by decide)) rfl rfl rfl ⟨Z0 _,Z1 _,trivial⟩ rfl ?_
     rw [s4]
     refine gd 141 ⟨?_⟩
     refine Zq rfl ?_
     refine Z5 (Z2p [1] 2 (by decide +kernel) true) rfl rfl rfl ⟨Zr _,trivial⟩ rfl ?_
     refine Zq rfl ?_
     refine Z5 (Z1w (kcs ks) false 2 hk64 (by decide)) rfl rfl rfl ⟨Z0 _,Z1 _,trivial⟩ rfl ?_
     rw [s2]
     refine gd 148 ⟨?_⟩
     refine Zq rfl ?_
     refine Zbv (Z1w (kcs ks) false 0 hk64 (by decide)) rfl rfl (by
      show [PV.vec (lowLL ((kcs ks).map cuC)) false,.agg [.vec [] false]] = [_,setN 0]
      rw [Z2O,ZfE]) ⟨Z0 _,Z1 _,trivial⟩ rfl ?_
     rw [s0]
     refine go ?_
     exact Z6 rfl trivial rfl
theorem Zgj {a b:Nat} (ha:a<256) (hb:b<256):InM 126 (makC a b):=by
 have h1:∀ x:Nat,x<64→2*x ||| 126=126:=by decide +kernel
 refine⟨h1 _ (Nat.lt_of_le_of_lt Nat.and_le_right (by decide)),h1 _ (Nat.lt_of_le_of_lt (Nat.le_trans Nat.and_le_left Nat.and_le_right) (by decide))⟩
theorem ZdW {m n:Nat} (h:m ||| 126=126) (hn:n≤5) (hm:m<2 ^ (n+1)):m ||| 62=62:=orSub.2 fun i hi=>by
 have h1:=orSub.1 h i hi
 have h2:1≤i:=Nat.pos_of_ne_zero fun e=>by subst e; exact absurd h1 (by decide)
 have h3:i<n+1:=Nat.lt_of_not_le fun hk=>by
  rw [Nat.testBit_lt_two_pow (Nat.lt_of_lt_of_le hm (Nat.pow_le_pow_right (by decide) hk))] at hi
  cases hi
 exact bit62 h2 (by omega)
end Go.Proofs.YthgklpbcmbmmcaaGreatDoor
namespace Go.Proofs.YthgklpbcmbmmcaaGreatDoor
open Go.RowKit
section
variable {P:Program} {C:Ctx} {e:Env} {h:Heap} {n:Nat} {F:Froz} {φ:Locs} {a:Act} {w:World}
theorem ZdX {F:Froz} {φ φ':Locs} {l m:List PV} (hl:l.length=m.length) (h:∀ i v,i<m.length→Rep F φ v (l.getD i pvu)→Rep F φ' v (m.getD i pvu)) {v:Value} (hr:Rep F φ v (.agg l)):Rep F φ' v (.agg m):=by
 obtain⟨vs,rfl,h1,h2,h3⟩:=hr.agg_inv
 exact .agg vs m (by rw [h1,hl]) (fun i hi=>h2 i (by rw [hl]; exact hi)) fun i hi=>h i _ hi (h3 i (by rw [hl]; exact hi))
end
end Go.Proofs.YthgklpbcmbmmcaaGreatDoor
namespace Go.Proofs.YthgklpbcmbmmcaaGreatDoor
open Go.RowKit
attribute [local irreducible] aw opsK dK
section
variable {v0 v1 v2 v3 v4 v5:PV} {e:Int}
end
theorem Zaa {n:Int} {l:List Pr} {s0:Nat} {rs:List RI} {nv gl:List Cu} (hc:chkI n l s0 rs nv gl=0):(1≤n∧n≤63)∧rs.length≤64∧knB (mkN n.toNat) l s0 rs (cubI rs nv gl)=true∧(cubI rs nv gl).any emC=false∧rs.all revB=true∧soC nv (clo l s0)=false:=by
 unfold chkI at hc
 by_cases h1:n<1 ∨ 63<n
 · rw [if_pos h1] at hc; exact absurd hc (by decide)
 rw [if_neg h1] at hc
 by_cases h2:64<rs.length ∨ 2000<nv.length ∨ 2000<gl.length
 · rw [if_pos h2] at hc; exact absurd hc (by decide)
 rw [if_neg h2] at hc
 cases h3:knB (mkN n.toNat) l s0 rs (cubI rs nv gl) with
 | false=>rw [h3,if_pos rfl] at hc; exact absurd hc (by decide)
 | true =>
   rw [h3,if_neg (by decide)] at hc
   cases h4:(cubI rs nv gl).any emC with
   | true=>rw [h4,if_pos (.inl rfl)] at hc; exact absurd hc (by decide)
   | false =>
     cases h5:rs.all revB with
     | false=>rw [h5,if_pos (.inr rfl)] at hc; exact absurd hc (by decide)
     | true =>
       rw [h4,h5,if_neg (by simp)] at hc
       cases h6:soC nv (clo l s0) with
       | true=>rw [h6,if_pos rfl] at hc; exact absurd hc (by decide)
       | false=>exact⟨by omega,by omega,rfl,rfl,rfl,rfl⟩
structure PbBase (t:PB):Prop where
 good:GoodL t.l
 l5:∀ p∈t.l,p.1≤5∧p.2≤5
 st:t.st<18446744073709551616
 rl:t.rs.length≤10000
 rm:∀ r∈t.rs,InM 62 r.cu
 rt:∀ r∈t.rs,r.tg≤t.n→r.tg≤5
 nl:t.nv.length≤64
 nv:∀ c∈t.nv,InM 62 c
 gk:t.gl.length≤64
 gl:∀ c∈t.gl,InM 62 c
theorem Zfm {c:Cu} (h:InM 62 c):Ok64 c:=by
 have h1:c.1≤62:=by rw [← h.1]; exact Nat.left_le_or
 have h2:c.2≤62:=by rw [← h.2]; exact Nat.left_le_or
 exact⟨by omega,by omega⟩
theorem PbBase.fine {t:PB} (h:PbBase t):Fine t.l t.st (t.rs.map toI) t.nv t.gl:=by
 have h2:=h.nl
 have h3:=h.gk
 refine⟨Nat.le_trans (Z7K h.good) (by decide),h.st,by rw [List.length_map]; exact h.rl,by omega,by omega,fun c hc=>Zfm ?_⟩
 unfold cubI at hc
 rw [List.mem_append,List.mem_append,List.map_map,List.mem_map] at hc
 rcases hc with (⟨x,hx,rfl⟩|hc)|hc
 · exact h.rm x hx
 · exact h.nv c hc
 · exact h.gl c hc
theorem Z8N {t:PB} (h:PbBase t) (hc:chkI t.n t.l t.st (t.rs.map toI) t.nv t.gl=0):PbOk t:=by
 obtain⟨hn,hrl,hk,he,hr,hs⟩:=Zaa hc
 have hn':1≤t.n∧t.n≤63:=by omega
 rw [List.length_map] at hrl
 rw [Int.toNat_natCast] at hk
 unfold knB at hk
 rw [Bool.and_eq_true,Bool.and_eq_true,Bool.and_eq_true,List.all_eq_true,List.all_eq_true,List.all_eq_true] at hk
 obtain⟨k1,k2,k3,k4⟩:=hk
 have hcu:∀ c∈cubI (t.rs.map toI) t.nv t.gl,InC t.n c:=fun c hc=>by
  have h1:=of_decide_eq_true (k4 c hc)
  have h2:emC c=false:=Bool.eq_false_iff.2 fun h0=>by
   rw [List.any_eq_false] at he
   exact he c hc h0
  refine⟨orSub.2 fun i hi=>orSub.1 h1 i ?_,orSub.2 fun i hi=>orSub.1 h1 i ?_,h2⟩
  · rw [Nat.testBit_or,hi]; rfl
  · rw [Nat.testBit_or,hi,Bool.or_true]
 refine⟨hn',h.good,fun p hp=>?_,of_decide_eq_true k1,hrl,fun r hr'=>?_,h.nl,fun c hc=>⟨hcu c (by unfold cubI; simp [hc]),h.nv c hc⟩,h.gk,fun c hc=>⟨hcu c (by unfold cubI; simp [hc]),h.gl c hc⟩,hs⟩
 · have h1 := k2 p hp
   rw [Bool.and_eq_true,Z1I,Z1I,Bool.and_eq_true,Bool.and_eq_true] at h1
   exact⟨of_decide_eq_true h1.1.2,of_decide_eq_true h1.2.2,h.l5 p hp⟩
 · have hm : toI r ∈ t.rs.map toI := List.mem_map.2 ⟨r, hr', rfl⟩
   have h1:=k3 _ hm
   have h1:(decide (0≤(r.tg:Int))&&(mkN t.n).testBit (r.tg:Int).toNat)=true:=h1
   rw [Bool.and_eq_true,Int.toNat_natCast,Z1I,Bool.and_eq_true] at h1
   have h2:=of_decide_eq_true h1.2.2
   refine⟨hcu r.cu (by unfold cubI; rw [List.map_map]; exact List.mem_append.2 (.inl (List.mem_append.2 (.inl (List.mem_map.2 ⟨r,hr',rfl⟩))))),h.rm r hr',⟨of_decide_eq_true h1.2.1,h2,h.rt r hr' h2⟩,fun hv=>?_⟩
   have h3:=(List.all_eq_true.1 hr) _ hm
   have h3:(!r.rev||(decide (r.cu.1=0)&&decide (r.cu.2=0)))=true:=h3
   rw [hv,Bool.not_true,Bool.false_or,Bool.and_eq_true] at h3
   exact Prod.ext (of_decide_eq_true h3.1) (of_decide_eq_true h3.2)
theorem PbOk.base {t:PB} (h:PbOk t):PbBase t:=by
 have hs:t.st<18446744073709551616:=(ZdF h).fs
 exact⟨h.good,fun p hp=>(h.lk p hp).2.2,hs,by have:=h.rl; omega,fun r hr=>(h.rs r hr).m,fun r hr _=>(h.rs r hr).tg.2.2,h.nl,fun c hc=>(h.nv c hc).2,h.gk,fun c hc=>(h.gl c hc).2⟩
set_option maxHeartbeats 1000000 in
theorem Z6X (xs:List RU) (fl:Bool) (hlen:xs.length≤1000000):NSpec Tryz.prog 84 [.vec (xs.map ruP) fl] .own ⟨5,xs.map ruP⟩:=by
 refine Z1s ok84 (Nat.le_of_ble_eq_true rfl) fun C hC=>?_
 have fin:∀ (x:RU) (xs:List RU),(∀ c∈(x :: xs).map ruP,c.length=5):=fun x xs c hc=>by obtain⟨y,_,rfl⟩:=List.mem_map.1 hc; rfl
 cases xs with
 | nil =>
   refine go ?_
   refine Z4E (.inl ⟨_,_,rfl⟩) rfl fun b=>?_
   cases b
   · repeat' (first | refine Za (Zy (k := 5) rfl 5 (by decide)) ?_ | (first|refine st ?_|(apply B<;>intro hb<;>try cases hb)))
     exact⟨_,_,rfl,.inl rfl,_,rfl,rfl⟩
   · iterate 6 (first|refine st ?_|(apply B<;>intro hb<;>try cases hb))
     refine Z2s (Zy (k:=2) rfl 5 (by decide) _) ?_
     refine go ?_
     exact⟨_,_,rfl,.inl rfl,_,rfl,rfl⟩
 | cons x xs =>
   repeat' (first|refine Za (Zy (k:=5) rfl 5 (by decide)) ?_|(first|refine st ?_|(apply B<;>intro hb<;>try cases hb)))
   refine ZA (Zp (k:=0) (m:=(x :: xs).map ruP) (fl:=fl) rfl rfl rfl (fin x xs) rfl (by
    show (([]:List (List PV)).length+((x :: xs).map ruP).length)*72≤_
    rw [List.length_map,List.length_nil];omega)) rfl rfl ?_
   refine go ?_
   exact⟨_,_,rfl,.inl rfl,_,rfl,by rw [List.nil_append]; rfl⟩
theorem Z3z (xs:List Cu) (fl:Bool) (hlen:xs.length≤1000000):NSpec Tryz.prog 85 [.vec (xs.map cuC) fl] .own ⟨2,xs.map cuC⟩:=by
 refine Z1s ok85 (Nat.le_of_ble_eq_true rfl) fun C hC=>?_
 refine gd 4 ⟨?_⟩
 refine Z7l (Z6L xs fl hlen) Z27 (Z0 _) rfl rfl ⟨Z0 _,trivial⟩ ?_
 refine go ?_
 exact⟨_,_,rfl,.inl rfl,0,rfl,rfl⟩
noncomputable def pbOR (t:PB) (S:List Nat) (i:Nat):List PV := [.val (.int .i64 (t.n:Int)),hierP t.l S,.vec (words (digs t.st)) false,.own i,.vec (t.nv.map cuC) false,.vec (t.gl.map cuC) false]
noncomputable def pbON (t:PB) (S:List Nat) (i:Nat):List PV := [.val (.int .i64 (t.n:Int)),hierP t.l S,.vec (words (digs t.st)) false,.vec (t.rs.map ruP) false,.own i,.vec (t.gl.map cuC) false]
theorem Zgk (t:PB) (S:List Nat):Mk fun i=>.agg (pbOR t S i):=by
 intro F φ φ' v i n hn hv
 show Rep F φ' v (.agg (pbOR t S n))
 refine ZdX (l:=pbOR t S i) (m:=pbOR t S n) rfl (fun m v hm hv=>?_) hv
 match m,hm with
 | 0,_=>exact hv.pure trivial
 | 1,_=>exact hv.pure (Zs _ _)
 | 2,_=>exact hv.pure (Z8 _)
 | 3,_=>exact Z27 F φ φ' v i n hn hv
 | 4,_=>exact hv.pure (Z0 _)
 | 5,_=>exact hv.pure (Z0 _)
 | m+6,h=>exact absurd h (by show ¬ m+6<6;omega)
theorem Zgl (t:PB) (S:List Nat):Mk fun i=>.agg (pbON t S i):=by
 intro F φ φ' v i n hn hv
 show Rep F φ' v (.agg (pbON t S n))
 refine ZdX (l:=pbON t S i) (m:=pbON t S n) rfl (fun m v hm hv=>?_) hv
 match m,hm with
 | 0,_=>exact hv.pure trivial
 | 1,_=>exact hv.pure (Zs _ _)
 | 2,_=>exact hv.pure (Z8 _)
 | 3,_=>exact hv.pure (ZD _)
 | 4,_=>exact Z27 F φ φ' v i n hn hv
 | 5,_=>exact hv.pure (Z0 _)
 | m+6,h=>exact absurd h (by show ¬ m+6<6;omega)
set_option maxRecDepth 100000 in
set_option maxHeartbeats 4000000 in
theorem ZdY {t:PB} (h:PbOk t) (S:List Nat):NSpec Tryz.prog 40 [.agg (pbP t S)] (fun i=>.agg (pbOR t S i)) ⟨5,t.rs.map ruP⟩:=by
 have hrl:=h.rl
 have hnl:=h.nl
 have hgk:=h.gk
 refine Z1s ok40 (Nat.le_of_ble_eq_true rfl) fun C hC=>?_
 refine gd 5 ⟨?_⟩
 refine Z20 (Z6X t.rs false (by omega)) Z27 (ZD _) rfl rfl rfl ⟨ZD _,trivial⟩ ?_
 refine gd 8 ⟨?_⟩
 refine Z20 (Z3z t.nv false (by omega)) Z27 (Z0 _) rfl rfl rfl ⟨Z0 _,trivial⟩ ?_
 refine gd 11 ⟨?_⟩
 refine Z20 (Z3z t.gl false (by omega)) Z27 (Z0 _) rfl rfl rfl ⟨Z0 _,trivial⟩ ?_
 refine gd 15 ⟨?_⟩
 refine Za (Zl (ob:=0) (id:=7) (i0:=0) (j0:=4) rfl rfl (by decide) (Z0 _) (Nat.le_of_ble_eq_true rfl) (Nat.le_of_ble_eq_true rfl) rfl) ?_
 refine Za (Zl (ob:=0) (id:=10) (i0:=0) (j0:=5) rfl rfl (by decide) (Z0 _) (Nat.le_of_ble_eq_true rfl) (Nat.le_of_ble_eq_true rfl) rfl) ?_
 refine go ?_
 exact⟨_,_,rfl,.inl rfl,4,rfl,rfl⟩
set_option maxRecDepth 100000 in
set_option maxHeartbeats 4000000 in
theorem ZdZ {t:PB} (h:PbOk t) (S:List Nat):NSpec Tryz.prog 40 [.agg (pbP t S)] (fun i=>.agg (pbON t S i)) ⟨2,t.nv.map cuC⟩:=by
 have hrl:=h.rl
 have hnl:=h.nl
 have hgk:=h.gk
 refine Z1s ok40 (Nat.le_of_ble_eq_true rfl) fun C hC=>?_
 refine gd 5 ⟨?_⟩
 refine Z20 (Z6X t.rs false (by omega)) Z27 (ZD _) rfl rfl rfl ⟨ZD _,trivial⟩ ?_
 refine gd 8 ⟨?_⟩
 refine Z20 (Z3z t.nv false (by omega)) Z27 (Z0 _) rfl rfl rfl ⟨Z0 _,trivial⟩ ?_
 refine gd 11 ⟨?_⟩
 refine Z20 (Z3z t.gl false (by omega)) Z27 (Z0 _) rfl rfl rfl ⟨Z0 _,trivial⟩ ?_
 refine gd 15 ⟨?_⟩
 refine Za (Zl (ob:=0) (id:=4) (i0:=0) (j0:=3) rfl rfl (by decide) (ZD _) (Nat.le_of_ble_eq_true rfl) (Nat.le_of_ble_eq_true rfl) rfl) ?_
 refine Za (Zl (ob:=0) (id:=10) (i0:=0) (j0:=5) rfl rfl (by decide) (Z0 _) (Nat.le_of_ble_eq_true rfl) (Nat.le_of_ble_eq_true rfl) rfl) ?_
 refine go ?_
 exact⟨_,_,rfl,.inl rfl,7,rfl,rfl⟩
theorem Z3c {t:PB} (h:PbOk t) (hn:t.n≤5) (S:List Nat):Spec Tryz.prog 31 [.agg (pbP t S),.val (.int .i64 64)] fun r=>∃ (b:Bool) (x y:List (List PV)) (fx fy:Bool),pureLL x∧pureLL y∧(b=true↔Able t t.st)∧r=.tup [.vec x fx,.vec y fy,.val (.bool b),.val (.int .i64 0)]:=by
 have h32:2 ^ t.n≤32:=Nat.pow_le_pow_right (n:=2) (by decide) hn
 refine (Z3Q h hn S 64 (by decide)).mono fun r hr=>?_
 cases hr with
 | yes q hq hl=>exact⟨true,_,[],_,_,Z2S _,trivial,⟨fun _=>hq.able h,fun _=>rfl⟩,rfl⟩
 | no ks hk=>exact⟨false,[],_,_,_,trivial,Z0 _,⟨fun e=>Bool.noConfusion e,fun ha=>absurd ha (hk.not_able h)⟩,rfl⟩
 | lim hl=>exact absurd hl (by omega)
theorem Ze0 {t:PB} {r:RU} {S:Nat} (h:Able t S):Able { t with rs:=t.rs ++ [r] } S:=by
 induction h with
 | base hS hg hr=>exact .base hS hg hr
 | step hS hg hx hs _ ih=>exact .step hS hg (List.mem_append.2 (.inl hx)) hs ih
theorem Z6b {t:PB} {c:Cu} {S:Nat} (h:goodB { t with nv:=t.nv ++ [c] } S=true):goodB t S=true:=by
 unfold goodB soC at h ⊢
 dsimp only at h
 rw [List.any_append,Bool.not_or,Bool.and_eq_true] at h
 exact h.1
theorem Ze1 {t:PB} {c:Cu} {S:Nat} (h:Able { t with nv:=t.nv ++ [c] } S):Able t S:=by
 induction h with
 | base hS hg hr=>exact .base hS (Z6b hg) hr
 | step hS hg hx hs _ ih =>
   refine .step hS (Z6b hg) hx ?_ ih
   unfold stepR at hs ⊢
   rw [Bool.and_eq_true,Bool.and_eq_true] at hs ⊢
   exact⟨hs.1,Z6b hs.2.1,hs.2.2⟩
theorem Zgm {t:PB} (hm:MkOk t) {k:Int} {rev:Bool} (S:List Nat):Spec Tryz.prog 39 [.agg [.val (.int .i64 (t.n:Int)),hierP t.l S,.vec (words (digs t.st)) false,.vec (t.rs.map ruP ++ [ruI (rev,(0,0),k,0)]) false,.vec (t.nv.map cuC) false,.vec (t.gl.map cuC) false]] (· = .val (.int .i64 (chkI t.n t.l t.st (t.rs.map toI ++ [(rev,(0,0),k,0)]) t.nv t.gl)))∧pureL [.val (.int .i64 (t.n:Int)),hierP t.l S,.vec (words (digs t.st)) false,.vec (t.rs.map ruP ++ [ruI (rev,(0,0),k,0)]) false,.vec (t.nv.map cuC) false,.vec (t.gl.map cuC) false] ∧
 (chkI t.n t.l t.st (t.rs.map toI ++ [(rev,(0,0),k,0)]) t.nv t.gl=0→∃ j,PbOk { t with rs:=t.rs ++ [⟨rev,(0,0),j,0⟩] }∧pbP { t with rs:=t.rs ++ [⟨rev,(0,0),j,0⟩] } S = [.val (.int .i64 (t.n:Int)),hierP t.l S,.vec (words (digs t.st)) false,.vec (t.rs.map ruP ++ [ruI (rev,(0,0),k,0)]) false,.vec (t.nv.map cuC) false,.vec (t.gl.map cuC) false]):=by
 have h:=hm.ok
 have hba:=h.base
 have hfi:=hba.fine
 have hrI:t.rs.map ruP=(t.rs.map toI).map ruI:=by rw [List.map_map]; rfl
 have hf5:Fine t.l t.st (t.rs.map toI ++ [(rev,(0,0),k,0)]) t.nv t.gl:=⟨hfi.fl,hfi.fs,by have:=hm.rs; simp only [List.length_append,List.length_singleton,List.length_map]; omega,hfi.fv,hfi.fg,fun c hc=>by
  have hf:=hfi.fc
  unfold cubI at hc hf
  rw [List.map_append] at hc
  rcases List.mem_append.1 hc with hc|hc
  · rcases List.mem_append.1 hc with hc | hc
    · rcases List.mem_append.1 hc with hc | hc
      · exact hf c (List.mem_append.2 (.inl (List.mem_append.2 (.inl hc))))
      · obtain rfl : c = (0, 0) := List.mem_singleton.1 hc
        exact⟨by decide,by decide⟩
    · exact hf c (List.mem_append.2 (.inl (List.mem_append.2 (.inr hc))))
  · exact hf c (List.mem_append.2 (.inr hc))⟩
 have h1:=Z3P t.n t.l S t.st (t.rs.map toI ++ [(rev,(0,0),k,0)]) t.nv t.gl hf5
 have h2:=Z3a t.n t.l S t.st (t.rs.map toI ++ [(rev,(0,0),k,0)]) t.nv t.gl
 unfold prbI at h1 h2
 rw [List.map_append,← hrI] at h1 h2
 refine⟨h1,h2,fun hc=>?_⟩
 have hk0:0≤k:=by
  have hk:=(Zaa hc).2.2.1
  unfold knB at hk
  rw [Bool.and_eq_true,Bool.and_eq_true,Bool.and_eq_true,List.all_eq_true,List.all_eq_true,List.all_eq_true] at hk
  have h1:=hk.2.2.1 (rev,(0,0),k,0) (List.mem_append.2 (.inr (List.mem_singleton.2 rfl)))
  rw [Bool.and_eq_true] at h1
  exact of_decide_eq_true h1.1
 obtain⟨j,rfl⟩:∃ j:Nat,k=(j:Int):=⟨k.toNat,by omega⟩
 refine⟨j,Z8N (t:={ t with rs:=t.rs ++ [⟨rev,(0,0),j,0⟩] }) { hba with rl:=by have:=hm.rs; simp only [List.length_append,List.length_singleton]; omega,rm:=fun r hr=>(List.mem_append.1 hr).elim (hba.rm r) fun hr=>by rw [List.mem_singleton] at hr; subst hr; exact⟨show 0 ||| 62=62 by decide,show 0 ||| 62=62 by decide⟩,rt:=fun r hr hl=>(List.mem_append.1 hr).elim (fun hr=>hba.rt r hr hl) fun hr=>Nat.le_trans hl hm.n.2 } (by dsimp only; rw [List.map_append]; exact hc),?_⟩
 unfold pbP
 dsimp only
 rw [List.map_append]
 rfl
theorem Zgn {t:PB} (hm:MkOk t) {c:Cu} (hci:InM 126 c) (S:List Nat):Spec Tryz.prog 39 [.agg [.val (.int .i64 (t.n:Int)),hierP t.l S,.vec (words (digs t.st)) false,.vec (t.rs.map ruP) false,.vec (t.nv.map cuC ++ [cuC c]) false,.vec (t.gl.map cuC) false]] (· = .val (.int .i64 (chkI t.n t.l t.st (t.rs.map toI) (t.nv ++ [c]) t.gl)))∧pureL [.val (.int .i64 (t.n:Int)),hierP t.l S,.vec (words (digs t.st)) false,.vec (t.rs.map ruP) false,.vec (t.nv.map cuC ++ [cuC c]) false,.vec (t.gl.map cuC) false] ∧
 (chkI t.n t.l t.st (t.rs.map toI) (t.nv ++ [c]) t.gl=0→PbOk { t with nv:=t.nv ++ [c] }∧pbP { t with nv:=t.nv ++ [c] } S = [.val (.int .i64 (t.n:Int)),hierP t.l S,.vec (words (digs t.st)) false,.vec (t.rs.map ruP) false,.vec (t.nv.map cuC ++ [cuC c]) false,.vec (t.gl.map cuC) false]):=by
 have h:=hm.ok
 have hba:=h.base
 have hfi:=hba.fine
 have hrI:t.rs.map ruP=(t.rs.map toI).map ruI:=by rw [List.map_map]; rfl
 have hf5:Fine t.l t.st (t.rs.map toI) (t.nv ++ [c]) t.gl:=⟨hfi.fl,hfi.fs,hfi.fr,by have:=hm.nv; simp only [List.length_append,List.length_singleton]; omega,hfi.fg,fun d hc=>by
  have hf:=hfi.fc
  unfold cubI at hc hf
  rcases List.mem_append.1 hc with hc|hc
  · rcases List.mem_append.1 hc with hc | hc
    · exact hf d (List.mem_append.2 (.inl (List.mem_append.2 (.inl hc))))
    · rcases List.mem_append.1 hc with hc | hc
      · exact hf d (List.mem_append.2 (.inl (List.mem_append.2 (.inr hc))))
      · obtain rfl : d = c := List.mem_singleton.1 hc
        exact hci.lt (by decide)
  · exact hf d (List.mem_append.2 (.inr hc))⟩
 have h1:=Z3P t.n t.l S t.st (t.rs.map toI) (t.nv ++ [c]) t.gl hf5
 have h2:=Z3a t.n t.l S t.st (t.rs.map toI) (t.nv ++ [c]) t.gl
 unfold prbI at h1 h2
 rw [List.map_append,← hrI] at h1 h2
 refine⟨h1,h2,fun hc=>?_⟩
 have h62:InM 62 c:=by
  have hk:=(Zaa hc).2.2.1
  unfold knB at hk
  rw [Bool.and_eq_true,Bool.and_eq_true,Bool.and_eq_true,List.all_eq_true,List.all_eq_true,List.all_eq_true,Int.toNat_natCast] at hk
  have h1:=of_decide_eq_true (hk.2.2.2 c (by unfold cubI; simp))
  have h2:c.1 ||| c.2≤mkN t.n:=by rw [← h1]; exact Nat.left_le_or
  have h3:=Nat.two_pow_pos t.n
  have h4:c.1 ||| c.2<2 ^ (t.n+1):=by
   unfold mkN at h2
   rw [Nat.pow_succ]; omega
  exact⟨ZdW hci.1 hm.n.2 (Nat.lt_of_le_of_lt Nat.left_le_or h4),ZdW hci.2 hm.n.2 (Nat.lt_of_le_of_lt Nat.right_le_or h4)⟩
 refine⟨Z8N (t:={ t with nv:=t.nv ++ [c] }) { hba with nl:=by have:=hm.nv; simp only [List.length_append,List.length_singleton]; omega,nv:=fun d hd=>(List.mem_append.1 hd).elim (hba.nv d) fun hd=>by rw [List.mem_singleton] at hd; subst hd; exact h62 } hc,?_⟩
 unfold pbP
 dsimp only
 rw [List.map_append]
 rfl
set_option maxRecDepth 100000 in
set_option maxHeartbeats 8000000 in
theorem Z56 (p:List Nat) (m:Bool×Int) (x:RawX) (fl:Bool) (hp:Bytes p) (hm : -128≤m.2∧m.2≤127) (hx:RawXok x):Spec Tryz.prog 11 [.vec (bys p) fl,.agg [.val (.bool m.1),.val (.int .i8 m.2)],.agg (rawC x)] (· = .val (.bool true)):=by
 obtain⟨rev,k⟩:=m
 dsimp only at hm ⊢
 have hcv:IntKind.i64.wrap k=k:=IntWalk.i64_in _ ⟨by omega,by omega⟩
 have hci:=Zgj hx.1 hx.2
 have hmk14:=Z8A x.1 x.2.1 hx.1 hx.2
 refine Z2 ok11 (Nat.le_of_ble_eq_true rfl) fun C hC=>?_
 refine Zk ?_
 refine Z9 ?_
 refine Z4 rfl rfl rfl ?_
 refine Z4 rfl rfl rfl ?_
 refine gd 24 ⟨?_⟩
 refine Z5 Z8M rfl rfl rfl trivial rfl ?_
 refine gd 28 ⟨?_⟩
 refine ZF rfl rfl (ZbY p fl hp) ⟨Z7D p,trivial⟩ rfl ?_
 rintro r ⟨t,S,hmk,rfl⟩
 have h:=hmk.ok
 have hn:=hmk.n.2
 have hpp:=Z1e t S
 have hpr:=Z5m t
 have hrb:=hmk.rs
 have hnb:=hmk.nv
 refine gd 34 ⟨?_⟩
 refine ZF rfl rfl (Z3c h hn S) ⟨hpp,trivial,trivial⟩ rfl ?_
 rintro r ⟨b1,x1,x2,f1,f2,hx1,hx2,hb1,rfl⟩
 refine gd 37 ⟨?_⟩
 refine Z3 rfl rfl rfl ?_
 refine gd 12 ⟨?_⟩
 refine Z3 rfl rfl rfl ?_
 refine gd 46 ⟨?_⟩
 refine Z20 (ZdY h S) (Zgk t S) (ZD _) rfl rfl rfl ⟨hpp,trivial⟩ ?_
 refine gd 48 ⟨?_⟩
 refine Z20 (ZdZ h S) (Zgl t S) (Z0 _) rfl rfl rfl ⟨hpp,trivial⟩ ?_
 refine gd 52 ⟨?_⟩
 refine Z3 rfl rfl rfl ?_
 refine gd 55 ⟨?_⟩
 refine Zv rfl rfl rfl hcv ?_
 refine gd 58 ⟨?_⟩
 refine Za (Z7T (k:=57) (q:=.vec ([((rev,(0,0),k,0):RI)].map ruI) false) rfl (by
  have e:PV.vec ([((rev,(0,0),k,0):RI)].map ruI) false=(PV.vec [[.val (.bool rev),.vec [] true,.vec [] true,.val (.int .i64 k),.val (.int .i64 0)]] true).low:=by
   show PV.vec [[.val (.bool rev),.vec (words (digs 0)) false,.vec (words (digs 0)) false,.val (.int .i64 k),.val (.int .i64 0)]] false=PV.vec [[.val (.bool rev),.vec [] false,.vec [] false,.val (.int .i64 k),.val (.int .i64 0)]] false
   rw [ZC]; rfl
  rw [e]
  exact .low _ ⟨⟨trivial,trivial,trivial,trivial,trivial,trivial⟩,trivial⟩)) ?_
 refine ZA (Zp (k:=3) (m := [ruI (rev,(0,0),k,0)]) (fl:=false) rfl rfl rfl (fun c hc=>by rw [List.mem_singleton] at hc; subst hc; rfl) rfl (by
  show ((t.rs.map ruP).length+1)*72≤_
  rw [List.length_map];omega)) rfl rfl ?_
 refine gd 66 ⟨?_⟩
 refine Zz hmk14 rfl rfl rfl ⟨trivial,trivial,trivial⟩ ?_
 generalize makC x.1 x.2.1=c at hci ⊢
 have hc64:=hci.lt (by decide)
 refine Zz (Z3N c hc64) rfl rfl rfl ⟨Z3t _,trivial⟩ ?_
 refine gd 69 ⟨?_⟩
 refine Zt (Zp (k:=5) (m := [cuC c]) (fl:=true) rfl rfl rfl (fun d hd=>by rw [List.mem_singleton] at hd; subst hd; rfl) rfl (by
  show ((t.nv.map cuC).length+1)*48≤_
  rw [List.length_map];omega)) rfl rfl ?_
 obtain⟨hck1,hq1,hok1⟩:=Zgm (k:=k) (rev:=rev) hmk S
 obtain⟨hck2,hq2,hok2⟩:=Zgn hmk hci S
 iterate 3 (first|refine st ?_|(apply B<;>intro hb<;>try cases hb))
 show aw _ _ _ _ _ _ _
 have hpl:pureLL (t.nv.map cuC ++ [cuC c]):=by
  have:=Z0 (t.nv ++ [c]); rwa [List.map_append] at this
 have hhp:∀ D,(hierP t.l S).inn D:=fun D=>PV.inn_mono (fun _ h=>h.elim) _ (Zs t.l S)
 have hcu:∀ (l:List Cu) D,innLL D (l.map cuC):=fun l D=>Zi (fun _ h=>h.elim) _ (Z0 l)
 have hru:∀ D,innLL D (t.rs.map ruP):=fun D=>Zi (fun _ h=>h.elim) _ (ZD t.rs)
 have hI1:∀ D:Nat→Prop,D 20→innLL D [[.val (.int .i64 (t.n:Int)),hierP t.l S,.vec (words (digs t.st)) false,.vec (t.rs.map ruP) false,.own 20,.vec (t.gl.map cuC) false]]:=fun D hD=>⟨⟨trivial,hhp _,Zg _ _,hru _,hD,hcu _ _,trivial⟩,trivial⟩
 have hI2:∀ D,innLL D (t.nv.map cuC ++ [cuC c]):=fun D=>Zi (fun _ h=>h.elim) _ hpl
 refine ZcI hC True 30 [(12,.val (.bool b1)),(15,.ptr 7 0 0)] [(7,⟨6,[[.val (.int .i64 (t.n:Int)),hierP t.l S,.vec (words (digs t.st)) false,.vec (t.rs.map ruP) false,.own 20,.vec (t.gl.map cuC) false]]⟩),(20,⟨2,t.nv.map cuC ++ [cuC c]⟩)] (by decide) ?_ ?_
 · refine gd 71 ⟨?_⟩
   refine Za (Zl (ob:=6) (id:=10) (i0:=0) (j0:=3) rfl rfl (by decide) (by
    have:=Z2z (t.rs.map toI ++ [(rev,(0,0),k,0)]); rwa [List.map_append,show (t.rs.map toI).map ruI=t.rs.map ruP by rw [List.map_map]; rfl] at this) (Nat.le_of_ble_eq_true rfl) (Nat.le_of_ble_eq_true rfl) rfl) ?_
   refine gd 72 ⟨?_⟩
   refine Z5 hck1 rfl rfl rfl ⟨hq1,trivial⟩ rfl ?_
   by_cases hc1:chkI t.n t.l t.st (t.rs.map toI ++ [(rev,(0,0),k,0)]) t.nv t.gl=0
   · refine Z3 (Zb (v := true) rfl (by simpa using hc1)) rfl rfl ?_
     obtain⟨j,ho1,hqe⟩:=hok1 hc1
     have hse:=Z3c ho1 hn S
     rw [hqe] at hse
     refine gd 76 ⟨?_⟩
     refine ZF rfl rfl hse ⟨hq1,trivial,trivial⟩ rfl ?_
     rintro r ⟨b2,y1,y2,g1,g2,hy1,hy2,hb2,rfl⟩
     have hmo:b1=true→b2=true:=fun e=>hb2.2 (Ze0 (hb1.1 e))
     cases b2
     · obtain rfl : b1 = false := Bool.eq_false_iff.2 fun e => Bool.noConfusion (hmo e)
       refine go ?_
       exact⟨trivial,⟨⟨rfl,trivial⟩,⟨rfl,show (7:Nat)<30 by decide⟩,trivial⟩,⟨Nat.le_of_ble_eq_true rfl,rfl,hI1 _ (Nat.le_of_ble_eq_true rfl)⟩,⟨Nat.le_of_ble_eq_true rfl,rfl,hI2 _⟩,trivial⟩
     · cases b1
       all_goals
        refine go ?_
        exact⟨trivial,⟨⟨rfl,trivial⟩,⟨rfl,show (7:Nat)<30 by decide⟩,trivial⟩,⟨Nat.le_of_ble_eq_true rfl,rfl,hI1 _ (Nat.le_of_ble_eq_true rfl)⟩,⟨Nat.le_of_ble_eq_true rfl,rfl,hI2 _⟩,trivial⟩
   · refine Z3 (Zb (v := false) rfl (by simpa using hc1)) rfl rfl ?_
     refine go ?_
     exact⟨trivial,⟨⟨rfl,trivial⟩,⟨rfl,show (7:Nat)<30 by decide⟩,trivial⟩,⟨Nat.le_of_ble_eq_true rfl,rfl,hI1 _ (Nat.le_of_ble_eq_true rfl)⟩,⟨Nat.le_of_ble_eq_true rfl,rfl,hI2 _⟩,trivial⟩
 · intro _
   clear hok1 hck1 hq1
   refine gd 90 ⟨?_⟩
   refine Za (Zl (ob:=7) (id:=20) (i0:=0) (j0:=4) rfl rfl (by decide) hpl (Nat.le_of_ble_eq_true rfl) (Nat.le_of_ble_eq_true rfl) rfl) ?_
   refine gd 91 ⟨?_⟩
   refine Z5 hck2 rfl rfl rfl ⟨hq2,trivial⟩ rfl ?_
   by_cases hc2:chkI t.n t.l t.st (t.rs.map toI) (t.nv ++ [c]) t.gl=0
   · refine Z3 (Zb (v := true) rfl (by simpa using hc2)) rfl rfl ?_
     obtain⟨ho2,hqe⟩:=hok2 hc2
     have hse:=Z3c ho2 hn S
     rw [hqe] at hse
     refine gd 95 ⟨?_⟩
     refine ZF rfl rfl hse ⟨hq2,trivial,trivial⟩ rfl ?_
     rintro r ⟨b2,y1,y2,g1,g2,hy1,hy2,hb2,rfl⟩
     have hmo:b2=true→b1=true:=fun e=>hb1.2 (Ze1 (hb2.1 e))
     cases b2
     · cases b1
       all_goals
        refine go ?_
        exact Z6 rfl trivial rfl
     · obtain rfl : b1 = true := hmo rfl
       refine go ?_
       exact Z6 rfl trivial rfl
   · refine Z3 (Zb (v := false) rfl (by simpa using hc2)) rfl rfl ?_
     refine go ?_
     exact Z6 rfl trivial rfl
end Go.Proofs.YthgklpbcmbmmcaaGreatDoor
namespace Go.Proofs.YthgklpbcmbmmcaaGreatDoor
open Go.ChangeShapes Go.WideShapes Go.ChangeAt Go.RowKit
theorem Zbc {α:Type} {enc:α→List PV} {Q:α→Prop}:∀ {ll:List (List PV)},(∀ l∈ll,∃ x,Q x∧l=enc x)→∃ xs:List α,(∀ x∈xs,Q x)∧ll=xs.map enc
 | [],_=>⟨[],fun _ h=>(by cases h),rfl⟩
 | l :: ll, h => by
   obtain⟨x,h1,rfl⟩:=h l (List.mem_cons_self ..)
   obtain⟨xs,h2,rfl⟩:=Zbc fun l hl=>h l (List.mem_cons_of_mem _ hl)
   refine⟨x :: xs,fun y hy=>?_,rfl⟩
   rcases List.mem_cons.1 hy with rfl|hy
   · exact h1
   · exact h2 y hy
theorem Z7W {P:Program} {s t u:TypeId}:∀ {ps:List PV},ShapeVs P [s,t,u] ps→∃ a b c,ps = [a,b,c]∧ShapeV P s a∧ShapeV P t b∧ShapeV P u c
 | [a,b,c],⟨h1,h2,h3,_⟩=>⟨a,b,c,rfl,h1,h2,h3⟩
theorem Ze3 {m:Int} (h:(Lit.int .u8 m).wf=true):∃ a:Nat,a<256∧m=(a:Int):=by
 simp only [Lit.wf,Bool.and_eq_true,decide_eq_true_eq] at h
 obtain⟨h1,h2⟩:=h
 have h3:m≤255:=h2
 have h4:0≤m:=h1
 exact⟨m.toNat,by omega,by omega⟩
theorem Ze4 {n:Nat} {l:List PV} (h:Shape Tryz.prog n 53 l):∃ x:RawX,RawXok x∧l=rawC x:=by
 have hl:=Z8O h (k:=3) (by kernel_rfl)
 obtain⟨n1,h1⟩:=Z2f h (i:=0) (off:=0) (ty:=5) (sz:=1) (by kernel_rfl)
 obtain⟨n2,h2⟩:=Z2f h (i:=1) (off:=1) (ty:=5) (sz:=1) (by kernel_rfl)
 obtain⟨n3,h3⟩:=Z2f h (i:=2) (off:=2) (ty:=4) (sz:=1) (by kernel_rfl)
 match l,hl with
 | [a, b, c], _ =>
   obtain⟨m1,w1,e1⟩:=Z4t (show Shape _ n1 _ [a] from h1) (k:=.u8) (by kernel_rfl)
   obtain⟨m2,w2,e2⟩:=Z4t (show Shape _ n2 _ [b] from h2) (k:=.u8) (by kernel_rfl)
   obtain⟨o,e3⟩:=Z6Y (show Shape _ n3 _ [c] from h3) (by kernel_rfl)
   obtain⟨x,hx,rfl⟩:=Ze3 w1
   obtain⟨y,hy,rfl⟩:=Ze3 w2
   simp only [List.cons.injEq,and_true] at e1 e2 e3
   subst e1; subst e2; subst e3
   exact⟨(x,y,o),⟨hx,hy⟩,rfl⟩
theorem Zce {p:PV} (h:ShapeV Tryz.prog 53 p):∃ x:RawX,RawXok x∧p=.agg (rawC x):=by
 obtain⟨n,ps,rfl,h2⟩:=Z4u h (k:=3) (by kernel_rfl)
 obtain⟨x,hx,rfl⟩:=Ze4 h2
 exact⟨x,hx,rfl⟩
theorem Zfn {n:Nat} {l:List PV} (h:Shape Tryz.prog n 5 l):∃ x:Nat,x≤255∧l = [PV.val (.int .u8 (x:Int))]:=by
 obtain⟨m1,w1,e1⟩:=Z4t h (k:=.u8) (by kernel_rfl)
 obtain⟨x,hx,rfl⟩:=Ze3 w1
 exact⟨x,by omega,e1⟩
theorem Zad {p:PV} (h:ShapeV Tryz.prog 22 p):∃ (l:List Nat) (fl:Bool),Bytes l∧p=.vec (bys l) fl:=by
 obtain⟨n,ll,fl,_,h2,rfl⟩:=Z8P h (e:=5) (by kernel_rfl)
 obtain⟨xs,h3,rfl⟩:=Zbc (enc:=fun (x:Nat) => [PV.val (.int .u8 (x:Int))]) (Q:=fun (x:Nat)=>x≤255) fun l hl=>Zfn (h2 l hl)
 exact⟨xs,fl,h3,rfl⟩
theorem ZgS {m:Int} (h:(Lit.int .i8 m).wf=true) : -128≤m∧m≤127:=by
 simp only [Lit.wf,Bool.and_eq_true,decide_eq_true_eq] at h
 obtain⟨h1,h2⟩:=h
 have h3:m≤127:=h2
 have h4 : -128≤m:=h1
 exact⟨h4,h3⟩
theorem Zae {p:PV} (h:ShapeV Tryz.prog 80 p):∃ x:Bool×Int,(-128≤x.2∧x.2≤127)∧p=.agg [.val (.bool x.1),.val (.int .i8 x.2)]:=by
 obtain⟨n,l,rfl,h2⟩:=Z4u h (k:=2) (by kernel_rfl)
 replace h:=h2
 have hl:=Z8O h (k:=2) (by kernel_rfl)
 obtain⟨n1,h1⟩:=Z2f h (i:=0) (off:=0) (ty:=4) (sz:=1) (by kernel_rfl)
 obtain⟨n2,h2⟩:=Z2f h (i:=1) (off:=1) (ty:=54) (sz:=1) (by kernel_rfl)
 match l,hl with
 | [a, b], _ =>
   obtain⟨o,e1⟩:=Z6Y (show Shape _ n1 _ [a] from h1) (by kernel_rfl)
   obtain⟨m,w,e2⟩:=Z4t (show Shape _ n2 _ [b] from h2) (k:=.i8) (by kernel_rfl)
   simp only [List.cons.injEq,and_true] at e1 e2
   subst e1; subst e2
   exact⟨(o,m),ZgS w,rfl⟩
theorem Z4M:∀ ps,ShapeVs Tryz.prog Tryz.f11.params.toList ps→pureL ps→Spec Tryz.prog 11 ps (· = .val (.bool true)):=by
 intro ps hs hp
 rw [show Tryz.f11.params.toList = [22,80,53] by kernel_rfl] at hs
 obtain⟨a,b,c,rfl,k0,k1,k2⟩:=Z7W hs
 obtain⟨x0,f0,h0,rfl⟩:=Zad k0
 obtain⟨x1,h1,rfl⟩:=Zae k1
 obtain⟨x2,h2,rfl⟩:=Zce k2
 exact Z56 x0 x1 x2 f0 h0 h1 h2
set_option maxRecDepth 100000 in
theorem Z3S (os:Os) (started:os.Started) (H:Type) (enc:TypeId×Value→H) :
 ReturnsInHanded {} Tryz.checked os 11 .any (fun w args=>(Rows.backwardMoreSpec.pre enc Tryz.prog Tryz.f11 [] false w args∧laidMetH Tryz.prog laidV w)∧sizedMet enc Tryz.prog Tryz.f11 (OpenSpec.ofChange Rows.backwardMoreSpec) false w args)
  (Rows.backwardMoreSpec.post enc Tryz.prog Tryz.f11 false true false false):=by
 refine returnsInHanded_of_change_and (C:=Tryz.checked) (X:=fun w _=>laidMetH Tryz.prog laidV w) (fun _ _ _ hh h=>h.of_heap hh) own started (by kernel_rfl) Tryz.func11
  (ChangeSpec.witness_shaped (enc:=enc) (C:=Tryz.checked) (os:=os) (X:=fun w _=>laidMetH Tryz.prog laidV w) false (World.doorLaid Tryz.prog 400 os) #[.slice none 0 0,.agg #[.bool false,.int .i8 0],.agg #[.int .u8 0,.int .u8 0,.bool false]] 8 rfl (World.shaped_of_RefB (by kernel_rfl) (by kernel_rfl)) (by kernel_rfl) (by kernel_rfl) (by kernel_rfl) (Zer os _)) ?_
 intro W base args ds gs before hval hW _ hwt hL _
 exact Z8c (P:=Tryz.prog) (G:=partsG Tryz.prog Tryz.f11.params.toList) (by kernel_rfl) (Zgt (by kernel_rfl)) laidOut (ZcM (by kernel_rfl)) (tb:=4) (by kernel_rfl) (by kernel_rfl) rfl (fun ds hd=>by
  match ds,hd with
  | [a,b,c],_=>exact⟨rfl,rfl,rfl⟩) Z4M W (Zet hL) base args ds gs before hval hW hwt
theorem Z4v:Rows.BackwardMoreSaid :=
 OpenClaim.holds_of_wide 11 Tryz.f11 rfl rfl rfl rfl rfl rfl rfl ⟨rfl,rfl,rfl,rfl,rfl⟩ rfl rfl rfl rfl rfl (by kernel_rfl) Tryz.func11 (by kernel_rfl)
  (of_decide_eq_true (by kernel_rfl)) (by unfold Func.isWrapper; first|(rw [if_pos (by decide +kernel)]; kernel_rfl)|(rw [if_neg (by decide +kernel)]; exact⟨rfl,rfl⟩))
  (fun os started H enc _=>Z3S os started H enc)
theorem backwardMore_card:Rows.BackwardMoreCardSaid :=
 Claim7.holds_tied_plain_at .later [] [.data,.data,.data] true (true, "014fd6b22e4042236147d53ae712baa1ad29d63ef9f6a0c47d7df3ac22154ff4") false
  Z4v (fun _ h=>by cases h) (by kernel_rfl) (fun _ h=>by cases h) backwardMore_row_tie rfl ⟨rfl,rfl⟩ (by kernel_rfl) rfl
  (fun f fn hf hfn => by
    obtain rfl : f = 11 := Option.some.inj ((show Tryz.prog.funcNamed "arbac/arbaclaw34.BackwardMore" = some 11 by kernel_rfl).symm.trans hf) |>.symm
    obtain rfl:fn=Tryz.f11:=(Option.some.inj (Tryz.func11.symm.trans hfn)).symm
    exact⟨by kernel_rfl,fun j t ht=>by
     rw [show Tryz.f11.params = #[22,80,53] by kernel_rfl] at ht
     have hm:t∈[22,80,53]:=by simpa using Array.mem_of_getElem? ht
     have hall:([22,80,53].all fun u => !Tryz.prog.wantsStandIn u)=true:=by kernel_rfl
     exact (show Tryz.prog.wantsStandIn t=false by simpa using List.all_eq_true.1 hall t hm)⟩)
  (by kernel_rfl)
#print axioms backwardMore_card
end Go.Proofs.YthgklpbcmbmmcaaGreatDoor
