/-
 Proved: for every input the law BackwardCubes returns true,never panics,and leaves its arguments as0 they were,on the given card's conditions (the table of the bits package reads as0 the program's text lays it,and is tied to it).
-/
import Derived.KernelRfl
import Derived.SevenTiedAt
import Derived.Shelf.Strconv.Itoa3
import Derived.Shelf.Strings.OnBuilder
import Derived.Test.YthgklpbcmbmmcaaGreatDoorCards
import Derived.Test.YthgklpbcmbmmcaaGreatDoorChecked
import Derived.Test.YthgklpbcmbmmcaaGreatDoorTie
import Derived.Test.YthgklpbcmbmmcaaGreatDoorMq5
set_option linter.unusedSimpArgs false
set_option linter.unusedVariables false
set_option linter.unusedSectionVars false
namespace Go.Proofs.YthgklpbcmbmmcaaGreatDoor
open Go.RowKit
attribute [local irreducible] aw opsK dK
theorem PathK.len {t:PB} {ks:List KE} (hk:KInv t ks) {i:Nat} {p:List Nat} (hp:PathK ks i p):p.length≤i:=by
 induction hp with
 | stop _ _=>exact Nat.zero_le _
 | step he hr _ ih =>
   rcases hk.how _ _ he with h4|⟨r',to',x,e',h4,h5,h6,h7,h8⟩
   · rw [hr] at h4; simp only at h4; omega
   · rw [hr] at h4
     obtain⟨h41,h42⟩:=Prod.mk.inj h4
     subst h42
     rw [List.length_cons]; omega
def kpC (ks:List KE) (L:Int):List PV := [.vec ((kcs ks).map cuC) false,.vec (ks.map hwC) false,.val (.int .i64 L)]
theorem Z7R (ks:List KE) (L:Int):pureL (kpC ks L):=⟨Z0 _,ZY _,trivial,trivial⟩
set_option maxRecDepth 100000 in
set_option maxHeartbeats 4000000 in
theorem ZdN {t:PB} (hn:t.n≤5) {ks:List KE} (hk:KInv t ks) (L:Int) {i:Nat} {p:List Nat} (hp:PathK ks i p):Spec Tryz.prog 71 [.cp (kpC ks L),.val (.int .i64 (i:Int))] (· = .vec (inL p) false):=by
 have hkp:=Z7R ks L
 have hkl:=hk.len
 have h32:2 ^ t.n≤32:=Nat.pow_le_pow_right (n:=2) (by decide) hn
 have hpl:p.length≤i:=hp.len hk
 have hil:i<ks.length:=by cases hp<;>exact (List.getElem?_eq_some_iff.1 (by assumption)).1
 refine Z2 ok71 (Nat.le_of_ble_eq_true rfl) fun C hC=>?_
 refine go ?_
 refine Z2U (Z6r (k:=5) rfl 1 (by decide)) ?_
 refine ZE hC (fun (z:Nat×List Nat×List Nat)=>PathK ks z.1 z.2.2∧p=z.2.1++z.2.2) (fun z=>z.2.2.length) 1 (fun z => [(0,.cp (kpC ks L)),(1,.val (.int .i64 (z.1:Int))),(5,.own 0)]) (fun z => [(0,⟨1,inL z.2.1⟩)]) (Nat.zero_le _) (i,[],p) ⟨hp,rfl⟩ (fun i=>i) (fun _ _=>rfl) Zi
  ⟨⟨_,rfl,.pure _ hkp⟩,⟨_,rfl,.pure _ trivial⟩,⟨_,rfl,.own 0 (by decide)⟩,trivial⟩ ⟨⟨by decide,_,rfl,.same _ trivial⟩,trivial⟩ ?_
 rintro⟨j,out,q⟩ ⟨hq,hpq⟩
 dsimp only at hq hpq ⊢
 have hol:out.length≤32:=by rw [hpq,List.length_append] at hpl; omega
 cases hq with
 | stop he hr =>
   rename_i e
   obtain⟨hjl,hje⟩:=List.getElem?_eq_some_iff.1 he
   refine gd 11 ⟨?_⟩
   refine Z3 (Zm (xs:=ks) (g:=hwC) rfl rfl j rfl hjl rfl) rfl rfl ?_
   rw [hje]
   refine gd 14 ⟨?_⟩
   refine Z3 (Z8 (v:=false) rfl (decide_eq_false (by omega))) rfl rfl ?_
   repeat' (first|refine Zb (Zo (k:=5) rfl rfl (Z3E _)) ?_|(first|refine st ?_|(apply B<;>intro hb<;>try cases hb)))
   rw [List.append_nil] at hpq
   exact Z6 rfl (Z3E _) (by rw [hpq])
 | step he hr hq =>
   rename_i r to e q
   obtain⟨hjl,hje⟩:=List.getElem?_eq_some_iff.1 he
   have h1:hwC e = [.val (.int .i64 (r:Int)),.val (.int .i64 (to:Int))]:=by unfold hwC; rw [hr]
   refine gd 11 ⟨?_⟩
   refine Z3 (Zm (xs:=ks) (g:=hwC) rfl rfl j rfl hjl rfl) rfl rfl ?_
   rw [hje,h1]
   refine gd 14 ⟨?_⟩
   refine Z3 (Z8 (v:=true) rfl (decide_eq_true (by omega))) rfl rfl ?_
   refine gd 21 ⟨?_⟩
   refine Z3 (Zm (xs:=ks) (g:=hwC) rfl rfl j rfl hjl rfl) rfl rfl ?_
   rw [hje,h1]
   refine gd 25 ⟨?_⟩
   refine ZA (Zr (k:=0) (m := [inC1 r]) (fl:=true) rfl rfl rfl (fun q hq=>by rw [List.mem_singleton] at hq; subst hq; rfl) rfl (by
    show ((inL out).length+1)*8≤_
    rw [Z9Y];omega)) rfl rfl ?_
   refine gd 31 ⟨?_⟩
   refine Z3 (Zm (xs:=ks) (g:=hwC) rfl rfl j rfl hjl rfl) rfl rfl ?_
   rw [hje,h1]
   refine go ?_
   refine⟨(to,out ++ [r],q),mv 0 1,⟨hq,by rw [hpq,List.append_assoc]; rfl⟩,by show q.length<q.length+1; omega,fun i hi=>absurd hi (Nat.not_lt_zero i),Zy rfl,
    ⟨⟨_,rfl,.pure _ hkp⟩,⟨_,rfl,.pure _ trivial⟩,⟨_,rfl,.own 0 (by decide)⟩,trivial⟩,⟨⟨by decide,_,rfl,?_⟩,trivial⟩⟩
   show RenB _ _ ⟨1,inL out ++ [inC1 r]⟩ ⟨1,inL (out ++ [r])⟩
   rw [Zf8]
   exact .same _ (Z3E _)
theorem ZdO {ks:List KE} {i:Nat} {e:KE} (he:ks[i]?=some e):((kcs ks).map cuC).getD i []=cuC e.1∧i<((kcs ks).map cuC).length:=by
 obtain⟨h1,rfl⟩:=List.getElem?_eq_some_iff.1 he
 refine⟨?_,by simp [kcs,h1]⟩
 simp [kcs,List.getD_eq_getElem?_getD,h1]
def ExpR (t:PB) (ks:List KE) (e:KE) (L:Int) (ks':List KE) (v:PV):Prop:=ks <+: ks'∧KInv t ks'∧((v=.val (.int .i64 0)∧ExpA t e.1 ks') ∨ (v=.val (.int .i64 3)∧L<(ks'.length:Int)))
def CovAll (l:List Cu) (ks:List KE):Prop:=∀ c∈l,∀ S,hoC c S=true→soC (kcs ks) S=true
theorem AddR.keep {t:PB} {ks ks':List KE} {e:KE} {L:Int} {v:PV} (ha:AddR ks e L ks' v) (hk:KInv t ks) (hm:InM 62 e.1∧InM (mkN t.n) e.1∧emC e.1=false)
 (hh : (e.2.1 = -1 ∧ ∀ S, InS t S → hoC e.1 S = true → goodB t S = true ∧ reachB t S = true) ∨
   ∃ (r to:Nat) (x:RU) (e':KE),e.2=((r:Int),to)∧t.rs[r]?=some x∧ks[to]?=some e'∧∀ S,InS t S→hoC e.1 S=true→goodB t S=true∧stepR t x S=true∧hoC e'.1 (nextR x S)=true) :
 ks <+: ks'∧KInv t ks'∧(∀ S,hoC e.1 S=true→soC (kcs ks') S=true)∧(v=.val (.int .i64 0) ∨ (v=.val (.int .i64 3)∧L<(ks'.length:Int))):=by
 rcases ha with⟨h1,rfl,rfl⟩|⟨h1,rfl,rfl⟩
 · exact⟨List.prefix_refl _,hk,fun S hS=>ZgK hk h1 hS,.inl rfl⟩
 · refine ⟨List.prefix_append _ _, hk.add hm h1 hh, fun S hS => by rw [Z7O, Z5h, hS, Bool.or_true], ?_⟩
   by_cases hL:L<((ks.length+1:Nat):Int)
   · exact .inr ⟨by rw [if_pos hL],by rw [List.length_append]; exact hL⟩
   · exact .inl (by rw [if_neg hL])
theorem low3 {a b i:Nat} (hi:i<3):mv 3 a (mv 4 b i)=i:=by
 rw [Z5y (m:=3) (by decide) i hi,Z5y (m:=3) (Nat.le_refl 3) i hi]
set_option maxRecDepth 100000 in
set_option maxHeartbeats 8000000 in
theorem Za2 {t:PB} (h:PbOk t) (hn:t.n≤5) (S:List Nat) {ks:List KE} (hk:KInv t ks) (i:Nat) (e:KE) (he:ks[i]?=some e) (L:Int):K2Spec Tryz.prog 72 [.cp (srC t S)] [.val (.int .i64 (i:Int))] [.val (.int .i64 L)] ⟨2,(kcs ks).map cuC⟩ ⟨2,ks.map hwC⟩ fun v b1 b2=>∃ ks',b1=⟨2,(kcs ks').map cuC⟩∧b2=⟨2,ks'.map hwC⟩∧ExpR t ks e L ks' v:=by
 have hsr:=Z3D t S
 have hrb:=h.rl
 have hrl:(t.rs.map ruP).length=t.rs.length:=by simp
 have h32:2 ^ t.n≤32:=Nat.pow_le_pow_right (n:=2) (by decide) hn
 refine Zb3 ok72 (Nat.le_of_ble_eq_true rfl) fun C hC=>?_
 refine go ?_
 refine ZE hC (fun (z:Nat×List KE)=>z.1≤t.rs.length∧ks <+: z.2∧KInv t z.2∧∀ j x,j<z.1→t.rs[j]?=some x→Exp1 t e.1 x z.2) (fun z=>t.rs.length-z.1) 5 (fun z => [(0,.cp (srC t S)),(1,.ptr 0 0 0),(2,.val (.int .i64 (i:Int))),(18,.val (.int .i64 (t.rs.length:Int))),(19,.val (.int .i64 (z.1:Int)))])
  (fun z => [(0,⟨3,[[.own 3,.own 4,.val (.int .i64 L)]]⟩),(3,⟨2,(kcs z.2).map cuC⟩),(4,⟨2,z.2.map hwC⟩)]) (by decide) (0,ks) ⟨Nat.zero_le _,List.prefix_refl _,hk,fun j x hj=>absurd hj (Nat.not_lt_zero j)⟩ (fun i=>mv 3 1 (mv 4 2 i)) (fun i hi=>low3 hi) (Zy rfl)
  ⟨⟨_,rfl,.pure _ hsr⟩,⟨_,rfl,.ptr (ρ:=fun i=>mv 3 1 (mv 4 2 i)) 0 0 0 (by decide)⟩,⟨_,rfl,.pure _ trivial⟩,⟨_,by rw [← hrl]; rfl,.pure _ trivial⟩,⟨_,rfl,.pure _ trivial⟩,trivial⟩
  ⟨⟨by decide,_,rfl,RenB.single ⟨.own (ρ:=fun i=>mv 3 1 (mv 4 2 i)) 3 (by decide),.own (ρ:=fun i=>mv 3 1 (mv 4 2 i)) 4 (by decide),.pure _ trivial,trivial⟩ rfl⟩,⟨by decide,_,rfl,.same _ (Z0 _)⟩,⟨by decide,_,rfl,.same _ (ZY _)⟩,trivial⟩ ?_
 rintro⟨r,k1⟩ ⟨hr,hpre,hk1,hex⟩
 dsimp only at hr hpre hk1 hex ⊢
 have hinc:IntKind.i64.wrap ((r:Int)+1)=((r+1:Nat):Int):=IntWalk.i64_in _ ⟨by omega,by omega⟩
 refine gd 20 ⟨?_⟩
 by_cases hrt:r<t.rs.length
 case neg =>
  refine Z3 (Z8 (v:=false) rfl (decide_eq_false (by omega))) rfl rfl ?_
  refine go ?_
  refine⟨_,_,rfl,.inl rfl,3,4,_,_,by decide,by decide,by decide,rfl,rfl,rfl,trivial,Z0 _,ZY _,k1,rfl,rfl,hpre,hk1,.inl ⟨rfl,fun x hx=>?_⟩⟩
  obtain⟨j,hj,rfl⟩:=List.mem_iff_getElem.1 hx
  exact hex j _ (by omega) (List.getElem?_eq_getElem hj)
 refine Z3 (Z8 (v:=true) rfl (decide_eq_true (Int.ofNat_lt.2 hrt))) rfl rfl ?_
 have he1:=Z9Z hpre he
 obtain⟨g1,g2⟩:=ZdO he1
 have hem:=hk1.mem e (List.mem_of_getElem? he1)
 have hro:=h.rs _ (List.getElem_mem hrt)
 have hxr:=List.getElem?_eq_getElem hrt
 refine gd 29 ⟨?_⟩
 refine Z3 (ZN (k:=.i64) rfl rfl rfl i rfl g2 rfl) rfl rfl ?_
 refine gd 30 ⟨?_⟩
 refine Z3 (Z2V (p:=cuP e.1) rfl rfl g2 (by show cutAt true 2 0 (((kcs k1).map cuC).getD i [])=_; rw [g1]; rfl)) rfl rfl ?_
 refine gd 32 ⟨?_⟩
 refine Z4 (Z51 h S e.1 hem.1 r hrt) rfl rfl rfl ⟨hsr,Zp _,trivial,trivial⟩ rfl ?_
 generalize t.rs[r]=x at hro hxr ⊢
 have hbi:=ZgI h hro hem.1
 have hbn:=ZgZ h hro hem.2.1
 have hbs:=fun S (hS:InS t S)=>ZgH h hro hem.1 hS
 generalize hl0:bfL t x e.1=l at hbi hbn hbs ⊢
 obtain⟨hbi,hbl⟩:=hbi
 have hll:(l.map cuC).length=l.length:=by simp
 refine go ?_
 refine ZE hC (fun (z:Nat×List KE)=>z.1≤l.length∧ks <+: z.2∧k1 <+: z.2∧KInv t z.2∧CovAll (l.take z.1) z.2) (fun z=>l.length-z.1) 5 (fun z => [(0,.cp (srC t S)),(1,.ptr 0 0 0),(2,.val (.int .i64 (i:Int))),(7,.val (.int .i64 (r:Int))),(18,.val (.int .i64 (t.rs.length:Int))),(19,.val (.int .i64 (r:Int))),(38,.vec (l.map cuC) false),(39,.val (.int .i64 (l.length:Int))),(40,.val (.int .i64 (z.1:Int)))])
  (fun z => [(0,⟨3,[[.own 3,.own 4,.val (.int .i64 L)]]⟩),(3,⟨2,(kcs z.2).map cuC⟩),(4,⟨2,z.2.map hwC⟩)]) (by decide) (0,k1) ⟨Nat.zero_le _,hpre,List.prefix_refl _,hk1,fun c hc=>(by cases hc)⟩ (fun i=>i) (fun _ _=>rfl) Zi
  ⟨⟨_,rfl,.pure _ hsr⟩,⟨_,rfl,.ptr (ρ:=fun i=>i) 0 0 0 (by decide)⟩,⟨_,rfl,.pure _ trivial⟩,⟨_,rfl,.pure _ trivial⟩,⟨_,rfl,.pure _ trivial⟩,⟨_,rfl,.pure _ trivial⟩,⟨_,rfl,.pure _ (Z0 _)⟩,⟨_,by rw [← hll]; rfl,.pure _ trivial⟩,⟨_,rfl,.pure _ trivial⟩,trivial⟩
  ⟨⟨by decide,_,rfl,RenB.single ⟨.own (ρ:=fun i=>i) 3 (by decide),.own (ρ:=fun i=>i) 4 (by decide),.pure _ trivial,trivial⟩ rfl⟩,⟨by decide,_,rfl,.same _ (Z0 _)⟩,⟨by decide,_,rfl,.same _ (ZY _)⟩,trivial⟩ ?_
 rintro⟨j,k2⟩ ⟨hj,hpre2,hpre3,hk2,hcov⟩
 dsimp only at hj hpre2 hpre3 hk2 hcov ⊢
 have hjnc:IntKind.i64.wrap ((j:Int)+1)=((j+1:Nat):Int):=IntWalk.i64_in _ ⟨by omega,by omega⟩
 have hkl2:=hk2.len
 refine gd 41 ⟨?_⟩
 by_cases hjl:j<l.length
 case neg =>
  refine Z3 (Z8 (v:=false) rfl (decide_eq_false (by omega))) rfl rfl ?_
  refine go ?_
  have hjl:j=l.length:=by omega
  rw [hjl,List.take_length] at hcov
  refine⟨(r+1,k2),fun i=>i,⟨hrt,hpre2,hk2,fun j y hjr hy=>?_⟩,by show t.rs.length-(r+1)<t.rs.length-r; omega,fun _ _=>rfl,Zi,
   ⟨⟨_,rfl,.pure _ hsr⟩,⟨_,rfl,.ptr (ρ:=fun i=>i) 0 0 0 (by decide)⟩,⟨_,rfl,.pure _ trivial⟩,⟨_,rfl,.pure _ trivial⟩,⟨_,by show some _=some _; rw [hinc],.pure _ trivial⟩,trivial⟩,
   ⟨⟨by decide,_,rfl,RenB.single ⟨.own (ρ:=fun i=>i) 3 (by decide),.own (ρ:=fun i=>i) 4 (by decide),.pure _ trivial,trivial⟩ rfl⟩,⟨by decide,_,rfl,.same _ (Z0 _)⟩,⟨by decide,_,rfl,.same _ (ZY _)⟩,trivial⟩⟩
  by_cases hjr2:j<r
  · exact (hex j y hjr2 hy).pre hpre3
  · obtain rfl : j = r := by omega
    rw [hxr] at hy; cases hy
    intro S hS hg hs hho
    have h1:=hbs S hS
    rw [hg,hs,hho] at h1
    obtain⟨c,hc,h2⟩:=List.any_eq_true.1 (show soC l S=true from h1)
    exact hcov c hc S h2
 refine Z3 (Z8 (v:=true) rfl (decide_eq_true (Int.ofNat_lt.2 hjl))) rfl rfl ?_
 have htk:=Z12 hjl
 have hcm:=List.getElem_mem hjl
 refine gd 42 ⟨?_⟩
 refine Z3 (Zm (xs:=l) (g:=cuC) rfl rfl j rfl hjl rfl) rfl rfl ?_
 generalize l[j]=c at htk hcm ⊢
 obtain⟨hc1,hc2⟩:=hbi c hcm
 have hc3:=hbn c hcm
 have hadd:=Zb4 k2 hk2.c64 (by omega) (c,((r:Int),i)) (hc1.lt (by decide)) L
 refine gd 49 ⟨?_⟩
 refine Za1 hadd rfl rfl rfl rfl rfl rfl (by decide) (by decide) (by decide) trivial ⟨Zp _,⟨trivial,trivial,trivial⟩,trivial⟩ ⟨trivial,trivial⟩ (Z0 _) (ZY _) ?_
 rintro v b1' b2' - - - ⟨k3,rfl,rfl,ha⟩
 have hst:∀ S,InS t S→hoC c S=true→goodB t S=true∧stepR t x S=true∧hoC e.1 (nextR x S)=true:=fun S hS hc=>by
  have h1:=hbs S hS
  have h2:soC l S=true:=List.any_eq_true.2 ⟨c,hcm,hc⟩
  rw [h2] at h1
  have h1:=h1.symm
  rw [Bool.and_eq_true,Bool.and_eq_true] at h1
  exact h1
 obtain⟨p1,p2,p3,p4⟩:=ha.keep (t:=t) hk2 ⟨hc1,hc3,hc2⟩ (.inr ⟨r,i,x,e,rfl,hxr,Z9Z hpre2 he,hst⟩)
 rcases p4 with rfl|⟨rfl,p4⟩
 · refine go ?_
   refine⟨(j+1,k3),fun i=>mv 3 6 (mv 4 7 i),⟨hjl,hpre2.trans p1,hpre3.trans p1,p2,?_⟩,by show l.length-(j+1)<l.length-j; omega,fun i hi=>low3 hi,Zy rfl,
    ⟨⟨_,rfl,.pure _ hsr⟩,⟨_,rfl,.ptr (ρ:=fun i=>mv 3 6 (mv 4 7 i)) 0 0 0 (by decide)⟩,⟨_,rfl,.pure _ trivial⟩,⟨_,rfl,.pure _ trivial⟩,⟨_,rfl,.pure _ trivial⟩,⟨_,rfl,.pure _ trivial⟩,⟨_,rfl,.pure _ (Z0 _)⟩,⟨_,rfl,.pure _ trivial⟩,⟨_,by show some _=some _; rw [hjnc],.pure _ trivial⟩,trivial⟩,
    ⟨⟨by decide,_,rfl,RenB.single ⟨.own (ρ:=fun i=>mv 3 6 (mv 4 7 i)) 3 (by decide),.own (ρ:=fun i=>mv 3 6 (mv 4 7 i)) 4 (by decide),.pure _ trivial,trivial⟩ rfl⟩,⟨by decide,_,rfl,.same _ (Z0 _)⟩,⟨by decide,_,rfl,.same _ (ZY _)⟩,trivial⟩⟩
   rw [htk]
   intro c' hc' S hS
   rcases List.mem_append.1 hc' with hc' | hc'
   · exact Z7Q p1 (hcov c' hc' S hS)
   · rw [List.mem_singleton] at hc'; subst hc'; exact p3 S hS
 · refine go ?_
   exact⟨_,_,rfl,.inl rfl,6,7,_,_,by decide,by decide,by decide,rfl,rfl,rfl,trivial,Z0 _,ZY _,k3,rfl,rfl,hpre2.trans p1,p2,.inr ⟨rfl,p4⟩⟩
inductive SrRes (t:PB) (L:Int):PV→Prop
 | yes (p:List Nat) (hp:PlanOk t p) (hl:p.length≤32):SrRes t L (.tup [.vec (inL p) false,.vec [] true,.val (.bool true),.val (.int .i64 0)])
 | no (ks:List KE) (hk:NotFound t ks):SrRes t L (.tup [.vec [] true,.vec ((kcs ks).map cuC) false,.val (.bool false),.val (.int .i64 0)])
 | lim (hl:L<((2 ^ t.n:Nat):Int)):SrRes t L (.tup [.vec [] true,.vec [] true,.val (.bool false),.val (.int .i64 3)])
set_option maxRecDepth 100000 in
set_option maxHeartbeats 8000000 in
theorem Z3U {t:PB} (h:PbOk t) (hn:t.n≤5) (S:List Nat) (L:Int) (hL:1≤L):Spec Tryz.prog 31 [.agg (pbP t S),.val (.int .i64 L)] (SrRes t L):=by
 have hpp:=Z1h t S
 have hsr:=Z3D t S
 have h32:2 ^ t.n≤32:=Nat.pow_le_pow_right (n:=2) (by decide) hn
 have hti:=ZgE h
 have htn:=ZgW t
 have hts:=fun S (hS:InS t S)=>ZgF h hS
 have hte:∀ c∈tgtL t,emC c=false:=fun c hc=>(Z1R hc).2
 have htg:=Z4Y h S
 refine Z2 ok31 (Nat.le_of_ble_eq_true rfl) fun C hC=>?_
 refine Zk ?_
 refine Z9 ?_
 refine Z5 rfl rfl rfl ?_
 refine gd 18 ⟨?_⟩
 refine Z4 (Z7M h S) rfl rfl rfl ⟨hpp,trivial⟩ rfl ?_
 refine gd 23 ⟨?_⟩
 refine Z3 (Z8 (v:=false) rfl (decide_eq_false (by omega))) rfl rfl ?_
 refine gd 26 ⟨?_⟩
 refine Z4 (Z50 h S) rfl rfl rfl ⟨hpp,trivial⟩ rfl ?_
 refine gd 34 ⟨?_⟩
 refine Z4 htg rfl rfl rfl ⟨hpp,trivial⟩ rfl ?_
 generalize tgtL t=l at hti htn hts hte ⊢
 have hnl:(l.map cuC).length=l.length:=by simp
 refine gd 43 ⟨?_⟩
 refine Zb (ZM (id:=0) (i0:=0) (j0:=0) rfl (Nat.le_of_ble_eq_true rfl) (Nat.le_of_ble_eq_true rfl) rfl 2 (by decide) (by decide)) ?_
 refine Zb (ZM (id:=0) (i0:=0) (j0:=1) rfl (Nat.le_of_ble_eq_true rfl) (Nat.le_of_ble_eq_true rfl) rfl 2 (by decide) (by decide)) ?_
 refine go ?_
 refine ZE hC (fun (z:Nat×List KE)=>z.1≤l.length∧KInv t z.2∧CovAll (l.take z.1) z.2) (fun z=>l.length-z.1) 3 (fun z => [(2,.cp (pbP t S)),(9,.cp (srC t S)),(11,.ptr 0 0 0),(43,.vec (l.map cuC) false),(44,.val (.int .i64 (l.length:Int))),(45,.val (.int .i64 (z.1:Int)))])
  (fun z => [(0,⟨3,[[.own 1,.own 2,.val (.int .i64 L)]]⟩),(1,⟨2,(kcs z.2).map cuC⟩),(2,⟨2,z.2.map hwC⟩)]) (Nat.zero_le _) (0,[]) ⟨Nat.zero_le _,KInv.nil t,fun c hc=>(by cases hc)⟩ (fun i=>i) (fun _ _=>rfl) Zi
  ⟨⟨_,rfl,.pure _ hpp⟩,⟨_,rfl,.pure _ hsr⟩,⟨_,rfl,.ptr (ρ:=fun i=>i) 0 0 0 (by decide)⟩,⟨_,rfl,.pure _ (Z0 _)⟩,⟨_,by rw [← hnl]; rfl,.pure _ trivial⟩,⟨_,rfl,.pure _ trivial⟩,trivial⟩
  ⟨⟨by decide,_,rfl,RenB.single ⟨.own (ρ:=fun i=>i) 1 (by decide),.own (ρ:=fun i=>i) 2 (by decide),.pure _ trivial,trivial⟩ rfl⟩,⟨by decide,_,rfl,.same _ trivial⟩,⟨by decide,_,rfl,.same _ trivial⟩,trivial⟩ ?_
 rintro⟨j,k1⟩ ⟨hj,hk1,hcov⟩
 dsimp only at hj hk1 hcov ⊢
 have hjnc:IntKind.i64.wrap ((j:Int)+1)=((j+1:Nat):Int):=IntWalk.i64_in _ ⟨by omega,by omega⟩
 have hkl:=hk1.len
 refine gd 46 ⟨?_⟩
 by_cases hjl:j<l.length
 · refine Z3 (Z8 (v := true) rfl (decide_eq_true (Int.ofNat_lt.2 hjl))) rfl rfl ?_
   have htk:=Z12 hjl
   have hcm:=List.getElem_mem hjl
   refine gd 47 ⟨?_⟩
   refine Z3 (Zm (xs:=l) (g:=cuC) rfl rfl j rfl hjl rfl) rfl rfl ?_
   generalize l[j]=c at htk hcm ⊢
   have hc1:=hti.1 c hcm
   have hadd:=Zb4 k1 hk1.c64 (by omega) (c,((-1:Int),0)) (hc1.lt (by decide)) L
   refine gd 52 ⟨?_⟩
   refine Za1 hadd rfl rfl rfl rfl rfl rfl (by decide) (by decide) (by decide) trivial ⟨Zp _,⟨trivial,trivial,trivial⟩,trivial⟩ ⟨trivial,trivial⟩ (Z0 _) (ZY _) ?_
   rintro v b1' b2' - - - ⟨k2,rfl,rfl,ha⟩
   have hst:∀ S,InS t S→hoC c S=true→goodB t S=true∧reachB t S=true:=fun S hS hc=>by
    have h1:=hts S hS
    rw [show soC l S=true from List.any_eq_true.2 ⟨c,hcm,hc⟩] at h1
    have h1:=h1.symm
    rw [Bool.and_eq_true] at h1
    exact h1
   obtain⟨p1,p2,p3,p4⟩:=ha.keep (t:=t) hk1 ⟨hc1,htn c hcm,hte c hcm⟩ (.inl ⟨rfl,hst⟩)
   rcases p4 with rfl|⟨rfl,p4⟩
   · refine go ?_
     refine⟨(j+1,k2),fun i=>mv 1 4 (mv 2 5 i),⟨hjl,p2,?_⟩,by show l.length-(j+1)<l.length-j; omega,fun i hi=>absurd hi (Nat.not_lt_zero i),Zy rfl,
      ⟨⟨_,rfl,.pure _ hpp⟩,⟨_,rfl,.pure _ hsr⟩,⟨_,rfl,.ptr (ρ:=fun i=>mv 1 4 (mv 2 5 i)) 0 0 0 (by decide)⟩,⟨_,rfl,.pure _ (Z0 _)⟩,⟨_,rfl,.pure _ trivial⟩,⟨_,by show some _=some _; rw [hjnc],.pure _ trivial⟩,trivial⟩,
      ⟨⟨by decide,_,rfl,RenB.single ⟨.own (ρ:=fun i=>mv 1 4 (mv 2 5 i)) 1 (by decide),.own (ρ:=fun i=>mv 1 4 (mv 2 5 i)) 2 (by decide),.pure _ trivial,trivial⟩ rfl⟩,⟨by decide,_,rfl,.same _ (Z0 _)⟩,⟨by decide,_,rfl,.same _ (ZY _)⟩,trivial⟩⟩
     rw [htk]
     intro c' hc' S hS
     rcases List.mem_append.1 hc' with hc' | hc'
     · exact Z7Q p1 (hcov c' hc' S hS)
     · rw [List.mem_singleton] at hc'; subst hc'; exact p3 S hS
   · refine go ?_
     have:=p2.len
     exact Z6 rfl ⟨trivial,trivial,trivial,trivial,trivial⟩ (.lim (by omega))
 have hjl:j=l.length:=by omega
 rw [hjl,List.take_length] at hcov
 have htin:TgtIn t k1:=fun S hS hg hr=>by
  have h1:=hts S hS
  rw [hg,hr] at h1
  obtain⟨c,hc,h2⟩:=List.any_eq_true.1 (show soC l S=true from h1)
  exact hcov c hc S h2
 refine Z3 (Z8 (v:=false) rfl (decide_eq_false (by omega))) rfl rfl ?_
 clear hcov hts
 refine go ?_
 refine ZE hC (fun (z:Nat×List KE)=>z.1≤z.2.length∧KInv t z.2∧TgtIn t z.2∧∀ i e,i<z.1→z.2[i]?=some e→ExpA t e.1 z.2∧hoC e.1 t.st=false) (fun z=>2 ^ t.n-z.1) 3 (fun z => [(2,.cp (pbP t S)),(9,.cp (srC t S)),(11,.ptr 0 0 0),(15,.val (.int .i64 (z.1:Int)))])
  (fun z => [(0,⟨3,[[.own 1,.own 2,.val (.int .i64 L)]]⟩),(1,⟨2,(kcs z.2).map cuC⟩),(2,⟨2,z.2.map hwC⟩)]) (Nat.zero_le _) (0,k1) ⟨Nat.zero_le _,hk1,htin,fun i e hi=>absurd hi (Nat.not_lt_zero i)⟩ (fun i=>i) (fun _ _=>rfl) Zi
  ⟨⟨_,rfl,.pure _ hpp⟩,⟨_,rfl,.pure _ hsr⟩,⟨_,rfl,.ptr (ρ:=fun i=>i) 0 0 0 (by decide)⟩,⟨_,rfl,.pure _ trivial⟩,trivial⟩
  ⟨⟨by decide,_,rfl,RenB.single ⟨.own (ρ:=fun i=>i) 1 (by decide),.own (ρ:=fun i=>i) 2 (by decide),.pure _ trivial,trivial⟩ rfl⟩,⟨by decide,_,rfl,.same _ (Z0 _)⟩,⟨by decide,_,rfl,.same _ (ZY _)⟩,trivial⟩ ?_
 clear hk1 htin hkl hjnc
 rintro⟨i,ks⟩ ⟨hi,hk,htin,hex⟩
 dsimp only at hi hk htin hex ⊢
 have hkl:=hk.len
 have hinc:IntKind.i64.wrap ((i:Int)+1)=((i+1:Nat):Int):=IntWalk.i64_in _ ⟨by omega,by omega⟩
 have hcl:((kcs ks).map cuC).length=ks.length:=by simp [kcs]
 refine gd 63 ⟨?_⟩
 by_cases hil:i<ks.length
 case neg =>
  refine Zb (ZC (ob:=0) (id:=1) (i0:=0) (j0:=0) rfl rfl (by decide) (Z0 _) (Nat.le_of_ble_eq_true rfl) (Nat.le_of_ble_eq_true rfl) rfl) ?_
  refine Z3 (Z8 (v:=false) rfl (decide_eq_false (by rw [hcl];omega))) rfl rfl ?_
  refine go ?_
  refine Z6 rfl ⟨trivial,Z0 _,trivial,trivial,trivial⟩ (.no ks ⟨hk,htin,fun e he=>?_,?_⟩)
  · obtain ⟨m, hm, rfl⟩ := List.mem_iff_getElem.1 he
    exact (hex m _ (by omega) (List.getElem?_eq_getElem hm)).1
  · refine Bool.eq_false_iff.2 fun hso => ?_
    obtain⟨c,hc,hho⟩:=List.any_eq_true.1 hso
    obtain⟨e,he,rfl⟩:=List.mem_map.1 hc
    obtain⟨m,hm,rfl⟩:=List.mem_iff_getElem.1 he
    rw [(hex m _ (by omega) (List.getElem?_eq_getElem hm)).2] at hho
    cases hho
 refine Z3 (Z8 (v:=true) rfl (decide_eq_true (by rw [hcl];omega))) rfl rfl ?_
 obtain⟨e,he⟩:∃ e,ks[i]?=some e:=⟨_,List.getElem?_eq_getElem hil⟩
 obtain⟨g1,g2⟩:=ZdO he
 have hem:=hk.mem e (List.mem_of_getElem? he)
 have hst64:=InS.lt h.n.2 (show InS t t.st from h.st)
 refine gd 71 ⟨?_⟩
 refine Zt (ZN (k:=.i64) rfl rfl rfl i rfl g2 rfl) rfl rfl ?_
 refine Zt (Z2V (p:=cuP e.1) rfl rfl g2 (by show cutAt true 2 0 (((kcs ks).map cuC).getD i [])=_; rw [g1]; rfl)) rfl rfl ?_
 refine gd 75 ⟨?_⟩
 refine Zw (Z3Q e.1 t.st (hem.1.lt (by decide)) hst64) rfl rfl rfl ⟨Zp _,Z1 _,trivial⟩ ?_
 cases hho:hoC e.1 t.st
 case true =>
  obtain⟨p,hp⟩:=hk.path (i+1) i (Nat.lt_succ_self _) hil
  have hpl:=hp.len hk
  have hpo:=hk.plan h he hho hp
  refine gd 76 ⟨?_⟩
  refine Zb (ZC (ob:=0) (id:=1) (i0:=0) (j0:=0) rfl rfl (by decide) (Z0 _) (Nat.le_of_ble_eq_true rfl) (Nat.le_of_ble_eq_true rfl) rfl) ?_
  refine Zb (ZC (ob:=0) (id:=2) (i0:=0) (j0:=1) rfl rfl (by decide) (ZY _) (Nat.le_of_ble_eq_true rfl) (Nat.le_of_ble_eq_true rfl) rfl) ?_
  refine Zb (Z1p (k:=11) (l:=kpC ks L) rfl rfl (Z7R ks L)) ?_
  refine gd 78 ⟨?_⟩
  refine Z4 (ZdN hn hk L hp) rfl rfl rfl ⟨Z7R ks L,trivial,trivial⟩ rfl ?_
  refine go ?_
  exact Z6 rfl ⟨Z3E _,trivial,trivial,trivial,trivial⟩ (.yes p hpo (by omega))
 have hexp:=Za2 h hn S hk i e he L
 refine gd 82 ⟨?_⟩
 refine Za1 hexp rfl rfl rfl rfl rfl rfl (by decide) (by decide) (by decide) ⟨hsr,trivial⟩ ⟨trivial,trivial⟩ ⟨trivial,trivial⟩ (Z0 _) (ZY _) ?_
 rintro v b1' b2' - - - ⟨k2,rfl,rfl,p1,p2,p3⟩
 rcases p3 with⟨rfl,p3⟩|⟨rfl,p3⟩
 · refine go ?_
   have:=p2.len
   have:=p1.length_le
   refine⟨(i+1,k2),fun i=>mv 1 13 (mv 2 14 i),⟨by show i+1≤k2.length; omega,p2,htin.pre p1,fun m e' hm he'=>?_⟩,by show 2 ^ t.n-(i+1)<2 ^ t.n-i; omega,fun i hi=>absurd hi (Nat.not_lt_zero i),Zy rfl,
    ⟨⟨_,rfl,.pure _ hpp⟩,⟨_,rfl,.pure _ hsr⟩,⟨_,rfl,.ptr (ρ:=fun i=>mv 1 13 (mv 2 14 i)) 0 0 0 (by decide)⟩,⟨_,by show some _=some _; rw [hinc],.pure _ trivial⟩,trivial⟩,
    ⟨⟨by decide,_,rfl,RenB.single ⟨.own (ρ:=fun i=>mv 1 13 (mv 2 14 i)) 1 (by decide),.own (ρ:=fun i=>mv 1 13 (mv 2 14 i)) 2 (by decide),.pure _ trivial,trivial⟩ rfl⟩,⟨by decide,_,rfl,.same _ (Z0 _)⟩,⟨by decide,_,rfl,.same _ (ZY _)⟩,trivial⟩⟩
   by_cases hmi:m<i
   · have := hex m e' hmi (pre_get' p1 he' (by omega))
     exact⟨this.1.pre p1,this.2⟩
   · obtain rfl : m = i := by omega
     rw [Z9Z p1 he] at he'
     cases he'
     exact⟨p3,hho⟩
 · refine go ?_
   have:=p2.len
   exact Z6 rfl ⟨trivial,trivial,trivial,trivial,trivial⟩ (.lim (by omega))
end Go.Proofs.YthgklpbcmbmmcaaGreatDoor
namespace Go.Proofs.YthgklpbcmbmmcaaGreatDoor
open Go.Shelf
def Za3:Go.Shelf.Ren:=⟨fun|171=>94|243=>132|246=>164|283=>185|284=>186|285=>187|286=>188|129=>152|317=>196|318=>197|319=>198|320=>199|337=>201|338=>131|n=>n,fun|3=>3|9=>9|2=>2|4=>4|171=>237|0=>0|53=>33|37=>22|5=>5|173=>239|212=>252|51=>215|20=>20|213=>253|46=>97|232=>255|233=>221|n=>n,fun|17=>1|18=>3|19=>0|n=>n⟩
theorem lays171:Go.Proofs.Lays.n171 Tryz.prog Za3:={
 mixed:=by kernel_rfl
 f129:=Tryz.func152.trans (congrArg some (by kernel_rfl))
 f171:=Tryz.func94.trans (congrArg some (by kernel_rfl))
 f243:=Tryz.func132.trans (congrArg some (by kernel_rfl))
 f246:=Tryz.func164.trans (congrArg some (by kernel_rfl))
 f283:=Tryz.func185.trans (congrArg some (by kernel_rfl))
 f284:=Tryz.func186.trans (congrArg some (by kernel_rfl))
 f285:=Tryz.func187.trans (congrArg some (by kernel_rfl))
 f286:=Tryz.func188.trans (congrArg some (by kernel_rfl))
 f317:=Tryz.func196.trans (congrArg some (by kernel_rfl))
 f318:=Tryz.func197.trans (congrArg some (by kernel_rfl))
 f319:=Tryz.func198.trans (congrArg some (by kernel_rfl))
 f320:=Tryz.func199.trans (congrArg some (by kernel_rfl))
 f337:=Tryz.func201.trans (congrArg some (by kernel_rfl))
 f338:=Tryz.func131.trans (congrArg some (by kernel_rfl))
 t0:=Tryz.underlying0
 a0:=Tryz.isAgg0
 z0:=Tryz.sizeOf0
 v0:=Tryz.zeroValue0
 t2:=Tryz.underlying2
 a2:=Tryz.isAgg2
 z2:=Tryz.sizeOf2
 v2:=Tryz.zeroValue2
 t3:=Tryz.underlying3
 a3:=Tryz.isAgg3
 z3:=Tryz.sizeOf3
 v3:=Tryz.zeroValue3
 t4:=Tryz.underlying4
 a4:=Tryz.isAgg4
 z4:=Tryz.sizeOf4
 v4:=Tryz.zeroValue4
 t5:=Tryz.underlying5
 a5:=Tryz.isAgg5
 z5:=Tryz.sizeOf5
 v5:=Tryz.zeroValue5
 t9:=Tryz.underlying9
 a9:=Tryz.isAgg9
 z9:=Tryz.sizeOf9
 v9:=Tryz.zeroValue9
 t20:=Tryz.underlying20
 a20:=Tryz.isAgg20
 z20:=Tryz.sizeOf20
 v20:=Tryz.zeroValue20
 t37:=Tryz.underlying22
 a37:=Tryz.isAgg22
 z37:=Tryz.sizeOf22
 v37:=Tryz.zeroValue22
 t46:=Tryz.underlying97
 a46:=Tryz.isAgg97
 z46:=Tryz.sizeOf97
 v46:=Tryz.zeroValue97
 t51:=Tryz.underlying215
 a51:=Tryz.isAgg215
 z51:=Tryz.sizeOf215
 v51:=Tryz.zeroValue215
 t53:=Tryz.underlying33
 a53:=Tryz.isAgg33
 z53:=Tryz.sizeOf33
 v53:=Tryz.zeroValue33
 t171:=Tryz.underlying237
 a171:=Tryz.isAgg237
 z171:=Tryz.sizeOf237
 v171:=Tryz.zeroValue237
 t173:=Tryz.underlying239
 a173:=Tryz.isAgg239
 z173:=Tryz.sizeOf239
 v173:=Tryz.zeroValue239
 t212:=Tryz.underlying252
 a212:=Tryz.isAgg252
 z212:=Tryz.sizeOf252
 v212:=Tryz.zeroValue252
 t213:=Tryz.underlying253
 a213:=Tryz.isAgg253
 z213:=Tryz.sizeOf253
 t232:=Tryz.underlying255
 a232:=Tryz.isAgg255
 z232:=Tryz.sizeOf255
 v232:=Tryz.zeroValue255
 t233:=Tryz.underlying221
 a233:=Tryz.isAgg221
 z233:=Tryz.sizeOf221
 v233:=Tryz.zeroValue221
 g17:=by kernel_rfl
 g18:=by kernel_rfl
 g19:=by kernel_rfl }
def Z67:Go.Shelf.Ren:=⟨fun|156=>95|165=>133|166=>134|169=>135|240=>165|241=>166|276=>189|277=>190|n=>n,fun|31=>152|9=>9|3=>3|4=>4|0=>0|20=>20|72=>198|76=>202|70=>196|37=>22|75=>201|127=>223|164=>241|5=>5|80=>91|n=>n,fun|n=>n⟩
theorem lays156:Go.Proofs.Lays.n156 Tryz.prog Z67:={
 mixed:=by kernel_rfl
 f156:=Tryz.func95.trans (congrArg some (by kernel_rfl))
 f165:=Tryz.func133.trans (congrArg some (by kernel_rfl))
 f166:=Tryz.func134.trans (congrArg some (by kernel_rfl))
 f169:=Tryz.func135.trans (congrArg some (by kernel_rfl))
 f240:=Tryz.func165.trans (congrArg some (by kernel_rfl))
 f241:=Tryz.func166.trans (congrArg some (by kernel_rfl))
 f276:=Tryz.func189.trans (congrArg some (by kernel_rfl))
 f277:=Tryz.func190.trans (congrArg some (by kernel_rfl))
 t0:=Tryz.underlying0
 a0:=Tryz.isAgg0
 z0:=Tryz.sizeOf0
 v0:=Tryz.zeroValue0
 t3:=Tryz.underlying3
 a3:=Tryz.isAgg3
 z3:=Tryz.sizeOf3
 v3:=Tryz.zeroValue3
 t4:=Tryz.underlying4
 a4:=Tryz.isAgg4
 z4:=Tryz.sizeOf4
 v4:=Tryz.zeroValue4
 t9:=Tryz.underlying9
 a9:=Tryz.isAgg9
 z9:=Tryz.sizeOf9
 v9:=Tryz.zeroValue9
 t20:=Tryz.underlying20
 a20:=Tryz.isAgg20
 z20:=Tryz.sizeOf20
 v20:=Tryz.zeroValue20
 t31:=Tryz.underlying152
 a31:=Tryz.isAgg152
 z31:=Tryz.sizeOf152
 v31:=Tryz.zeroValue152
 t37:=Tryz.underlying22
 a37:=Tryz.isAgg22
 z37:=Tryz.sizeOf22
 v37:=Tryz.zeroValue22
 t70:=Tryz.underlying196
 a70:=Tryz.isAgg196
 z70:=Tryz.sizeOf196
 v70:=Tryz.zeroValue196
 t72:=Tryz.underlying198
 a72:=Tryz.isAgg198
 z72:=Tryz.sizeOf198
 v72:=Tryz.zeroValue198
 t75:=Tryz.underlying201
 a75:=Tryz.isAgg201
 z75:=Tryz.sizeOf201
 v75:=Tryz.zeroValue201
 t76:=Tryz.underlying202
 a76:=Tryz.isAgg202
 z76:=Tryz.sizeOf202
 v76:=Tryz.zeroValue202
 t127:=Tryz.underlying223
 a127:=Tryz.isAgg223
 z127:=Tryz.sizeOf223
 v127:=Tryz.zeroValue223
 t164:=Tryz.underlying241
 a164:=Tryz.isAgg241
 z164:=Tryz.sizeOf241
 v164:=Tryz.zeroValue241 }
theorem builderExtra156:Builder.Extra Tryz.prog Z67:={
 sizeBuilder:=by kernel_rfl
 liesBuilder:=by kernel_rfl
 t5:=Tryz.underlying5
 a5:=Tryz.isAgg5
 z5:=Tryz.sizeOf5
 v5:=Tryz.zeroValue5
 infoByte:=by kernel_rfl
 cellsByte:=by kernel_rfl
 sizeByte:=by kernel_rfl
 neB5:=by decide }
end Go.Proofs.YthgklpbcmbmmcaaGreatDoor
namespace Go.Proofs.YthgklpbcmbmmcaaGreatDoor
open Go.RowKit
attribute [local irreducible] aw opsK dK
theorem Zb5 {f:FuncId} {args:List PV} {v:Value} (hb:HasBody Tryz.prog f) (h:∀ (F:Froz) (w:World) (vs:Array Value),Holds F w→RepL F noLoc vs args→Calls Tryz.prog f vs w fun e w'=>e=.returned v∧Below w.heap.size w w'):Spec Tryz.prog f args (· = .val v):=by
 refine⟨hb,fun F w vs hF hv=>(h F w vs hF hv).mono ?_⟩
 rintro en w' ⟨rfl,hbel⟩
 exact⟨v,.val v,F,rfl,rfl,.val _,hbel,Holds.kept hF hbel,fun _ _ h=>h,fun _ _=>rfl⟩
def numS (k:Nat):ByteArray:=⟨(Go.Lib.decDigits k).toArray⟩
theorem Z68 (k:Nat) (hk:k<100):Spec Tryz.prog 94 [.val (.int .i64 (k:Int))] (· = .val (.string (numS k))):=by
 refine Zb5 ⟨_,Tryz.func94,by kernel_rfl,by kernel_rfl⟩ fun F w vs hF hv=>?_
 obtain rfl:vs = #[.int .i64 (k:Int)]:=by
  refine Array.ext hv.1 fun i h1 h2=>?_
  have hi:i=0:=by simp at h2; omega
  subst hi
  have:=(show Rep F noLoc (vs.getD 0 undef) (.val (.int .i64 (k:Int))) from hv.2 0 (Nat.zero_lt_succ _)).val_inv
  simpa [Array.getD_eq_getD_getElem?,h1] using this
 refine (Any.strconv_Itoa_small lays171 k hk w).mono ?_
 rintro e w' ⟨rfl,rfl⟩
 exact⟨rfl,Below.refl _ _⟩
def strC (x:ByteArray):List PV := [.val (.string x)]
theorem Z2A (l:List ByteArray):pureLL (l.map strC):=Ze (enc:=strC) (fun _=>⟨trivial,trivial⟩) l
def joinS (l:List ByteArray) (sep:ByteArray):ByteArray:=⟨(Go.Lib.join (l.map (·.data.toList)) sep.data.toList).toArray⟩
theorem ZdP (l:List ByteArray) (fl:Bool) (sep:ByteArray) (hl:l.length≤140737488355328) (hlen:(Go.Lib.join (l.map (·.data.toList)) sep.data.toList).length≤140737488355328):Spec Tryz.prog 95 [.vec (l.map strC) fl,.val (.string sep)] (· = .val (.string (joinS l sep))):=by
 refine Zb5 ⟨_,Tryz.func95,by kernel_rfl,by kernel_rfl⟩ fun F w vs hF hv=>?_
 have hv1:Rep F noLoc (vs.getD 0 undef) (.vec (l.map strC) fl):=hv.2 0 (show 0<2 by decide)
 have hv2:vs.getD 1 undef=.string sep:=(show Rep F noLoc (vs.getD 1 undef) (.val (.string sep)) from hv.2 1 (show 1<2 by decide)).val_inv
 have hvs:vs = #[vs.getD 0 undef,vs.getD 1 undef]:=by
  refine Array.ext hv.1 fun i h1 h2=>?_
  have hs:vs.size=2:=hv.1
  have hi:i=0 ∨ i=1:=by omega
  rcases hi with rfl|rfl<;>simp [Array.getD_eq_getD_getElem?,h1]
 rw [hvs,hv2]
 rcases hv1.vec_inv with⟨h0,hq⟩|⟨x,cap,esz,cs,hq,hs,hcap,hfull,hmax,he,hF1,hR⟩
 · have h0 : l = [] := List.map_eq_nil_iff.1 h0
   subst h0
   rw [hq]
   refine (Any.strings_Join_none lays156 builderExtra156 none 0 sep w).mono ?_
   rintro e w' ⟨rfl,rfl⟩
   exact⟨rfl,Below.refl _ _⟩
 · rw [hq, List.length_map]
   by_cases hne:l = []
   · subst hne
     refine (Any.strings_Join_none lays156 builderExtra156 (some x) cap sep w).mono ?_
     rintro e w' ⟨rfl,rfl⟩
     exact⟨rfl,Below.refl _ _⟩
   · have hsp := hs (by simpa using hne)
     obtain⟨bk,o,sp⟩:=x
     dsimp only at hsp
     subst hsp
     rw [List.length_map] at hcap
     have hpos:0<l.length:=List.length_pos_iff.2 hne
     have hez:esz=1:=by
      have:=he 0 (by simpa using hpos)
      rw [← this]
      simp [List.getD_eq_getElem?_getD,hpos,strC]
     subst hez
     have hcell:∀ (j:Nat) y,l[j]?=some y→F ⟨bk,o+j,none⟩=some (.string y):=fun j y hj=>by
      have hjl:=(List.getElem?_eq_some_iff.1 hj).1
      have h1:=hF1 j 0 (by simpa using hjl) (by decide)
      have h2:=hR j 0 (by simpa using hjl) (by decide)
      have h3:((l.map strC).getD j []).getD 0 pvu=.val (.string y):=by simp [List.getD_eq_getElem?_getD,hj,strC]
      rw [h3] at h2
      have h4:=h2.val_inv
      rw [h4] at h1
      simpa using h1
     refine Any.strings_Join lays156 builderExtra156 bk o cap l sep w (fun j y hj=>(hF.1 _ _ (hcell j y hj)).2.2) ?_ hl hcap hlen
     obtain⟨y,hy⟩:∃ y,l[0]?=some y:=⟨_,List.getElem?_eq_getElem hpos⟩
     have:=(hF.1 _ _ (hcell 0 y hy)).2.2
     unfold World.cell? at this
     split at this
     · rename_i ho; exact (Array.getElem?_eq_some_iff.1 ho).1
     · cases this
def litS (c:Cu) (r:Nat):List ByteArray:=(if c.1.testBit r then [numS r] else [])++if c.2.testBit r then [⟨#[33]⟩++numS r] else []
def litsS (c:Cu) (rs:List Nat):List ByteArray:=rs.flatMap (litS c)
def textS (c:Cu):ByteArray:=if litsS c (mem (c.1 ||| c.2)) = [] then ⟨#[102,117,108,108]⟩ else joinS (litsS c (mem (c.1 ||| c.2))) ⟨#[32]⟩
theorem Zc8 (c:Cu) (rs:List Nat) (r:Nat):litsS c (rs ++ [r])=litsS c rs++litS c r:=by unfold litsS; rw [List.flatMap_append]; simp
theorem Zfa (c:Cu) (r:Nat):(litS c r).length≤2:=by unfold litS; rw [List.length_append]; split<;>split<;>simp
theorem Z69 (c:Cu):∀ rs:List Nat,(litsS c rs).length≤2*rs.length
 | []=>by simp [litsS]
 | r :: rs => by
   have h1:=Zfa c r
   have h2:=Z69 c rs
   unfold litsS at h2 ⊢
   rw [List.flatMap_cons,List.length_append,List.length_cons]
   omega
theorem Z8G {k:Nat} (hk:k<100):(numS k).data.toList.length≤2:=by
 show (Go.Lib.decDigits k).toArray.toList.length≤2
 by_cases h:k<10
 · rw [Go.Lib.decDigits_one h]; simp
 · rw [Go.Lib.decDigits_two h hk]; simp
theorem ZdQ (x:ByteArray):((⟨#[33]⟩:ByteArray)++x).data.toList=33 :: x.data.toList:=by rw [ByteArray.data_append]; simp
theorem Zc9 {c:Cu} {rs:List Nat} (h:∀ r∈rs,r<100):∀ x∈litsS c rs,x.data.toList.length≤3:=fun x hx=>by
 obtain⟨r,hr,hx⟩:=List.mem_flatMap.1 hx
 have hn:=Z8G (h r hr)
 unfold litS at hx
 rcases List.mem_append.1 hx with hx|hx
 · split at hx
   · rw [List.mem_singleton] at hx; subst hx; omega
   · cases hx
 · split at hx
   · rw [List.mem_singleton] at hx; subst hx
     rw [ZdQ,List.length_cons]; omega
   · cases hx
theorem Zge {l:List (List UInt8)} {k:Nat} (h:∀ x∈l,x.length≤k):Go.Lib.lens l≤k*l.length:=by
 induction l with
 | nil=>simp [Go.Lib.lens]
 | cons x l ih =>
   have h1:=h x (List.mem_cons_self ..)
   have h2:=ih fun y hy=>h y (List.mem_cons_of_mem _ hy)
   have:Go.Lib.lens (x :: l)=x.length+Go.Lib.lens l:=by simp [Go.Lib.lens]
   rw [this,List.length_cons,Nat.mul_succ]; omega
theorem Zfb {l:List ByteArray} (h:∀ x∈l,x.data.toList.length≤3) (hl:l.length≤1000) (sep:ByteArray) (hs:sep.data.toList.length≤10):(Go.Lib.join (l.map (·.data.toList)) sep.data.toList).length≤140737488355328:=by
 cases l with
 | nil=>simp [Go.Lib.join_nil]
 | cons x l =>
   rw [List.map_cons,Go.Lib.join_length]
   have:=Zge (k:=3) (l:=(x :: l).map (·.data.toList)) fun y hy=>by
    obtain⟨z,hz,rfl⟩:=List.mem_map.1 hy
    exact h z hz
   rw [List.map_cons] at this
   simp only [List.length_cons,List.length_map] at this hl ⊢
   have h2:sep.data.toList.length*l.length≤10*l.length:=Nat.mul_le_mul_right _ hs
   omega
set_option maxRecDepth 100000 in
set_option maxHeartbeats 4000000 in
theorem Zca (c:Cu) (hc:Ok64 c):Spec Tryz.prog 45 [cuP c] (· = .val (.string (textS c))):=by
 have hor:=Z1V hc.1 hc.2
 refine Z2 ok45 (Nat.le_of_ble_eq_true rfl) fun C hC=>?_
 refine Zk ?_
 refine Z9 ?_
 refine Z5 rfl rfl rfl ?_
 refine gd 5 ⟨?_⟩
 refine Zb (ZM (id:=0) (i0:=0) (j0:=0) rfl (by decide) (by decide) rfl 1 (by decide) (by decide)) ?_
 refine gd 9 ⟨?_⟩
 refine Z4 (Z1P c.1 c.2 hc.1 hc.2) rfl rfl rfl ⟨Z1 _,Z1 _,trivial⟩ rfl ?_
 have hM:textS c=if litsS c (mem (c.1 ||| c.2)) = [] then ⟨#[102,117,108,108]⟩ else joinS (litsS c (mem (c.1 ||| c.2))) ⟨#[32]⟩:=rfl
 rw [hM]
 generalize c.1 ||| c.2=M at hor ⊢
 refine Z4 (Z1N M) rfl rfl rfl ⟨Z1 _,trivial⟩ rfl ?_
 refine go ?_
 refine Z2I (X:=List Nat) hC (caps := [.cp [.vec (words (digs M)) false]]) [(1,.cp (cuC c)),(3,.ptr 0 0 0),(10,.fn 130 [.cp [.vec (words (digs M)) false]])]
  (fun z => [(0,⟨1,[[.own 1]]⟩),(1,⟨1,(litsS c z).map strC⟩)]) rfl ⟨⟨Za _,trivial⟩,trivial⟩ (Z2L M hor) (fun _=>rfl)
  (fun ex pre z=>ex=.normal∧z=pre.map (·.val)) 2 (by decide) [] ⟨rfl,rfl⟩
  (Z3p (EnvQ.mem (ρ := fun i => i) (m := 2) (L := [(1, .cp (cuC c)), (3, .ptr 0 0 0), (10, .fn 130 [.cp [.vec (words (digs M)) false]])]) ⟨⟨_, rfl, .pure _ (Zj c)⟩, ⟨_, rfl, .ptr (ρ := fun i => i) 0 0 0 (by decide)⟩, ⟨_, rfl, .pure _ ⟨⟨Za _, trivial⟩, trivial⟩⟩, trivial⟩)
    (HeapQ.mem (ρ:=fun i=>i) (m:=2) (L := [(0,⟨1,[[.own 1]]⟩),(1,⟨1,(litsS c []).map strC⟩)]) ⟨⟨by decide,_,rfl,RenB.single ⟨.own (ρ:=fun i=>i) 1 (by decide),trivial⟩ rfl⟩,⟨by decide,_,rfl,.same _ trivial⟩,trivial⟩) hC (by decide))
  (fun z q hq=>by simp at hq; rcases hq with rfl|rfl<;>exact Nat.zero_lt_succ _) _ (fun x=>rfl) ?_ ?_ ?_
 · rintro C2 hC2 pre x z ⟨-, rfl⟩ hlen
   have hx:=Z2v x.2
   have hml:=Z27 M
   have hsn:=Zc8 c (pre.map (·.val)) x.val
   have hll:=Z69 c (pre.map (·.val))
   rw [List.length_map] at hll
   generalize litsS c (pre.map (·.val))=acc at hsn hll ⊢
   have hn:=Z8G (show x.val<100 by omega)
   have hcat:∀ (e:Env) (h:Heap) (n:Nat) (q:Operand),ev e q=some (.val (.string (numS x.val)))→dEval (.bin .add .num (.const (.string ⟨#[33]⟩)) q) e h n=some (.val (.string (⟨#[33]⟩++numS x.val)),h):=fun e h n q hq=>by
    have hsz:(⟨#[33]⟩:ByteArray).size+(numS x.val).size≤9223372036854775807:=by
     have:(numS x.val).size=(numS x.val).data.toList.length:=by rw [Array.length_toList]; rfl
     rw [this]
     show 1+_≤_
     omega
    have h1:ev e (.const (.string ⟨#[33]⟩))=some (.val (.string ⟨#[33]⟩)):=rfl
    simp only [dEval,h1,hq,pbin,sbin,if_pos hsz,Option.map]
   unfold litS at hsn
   refine gd 15 ⟨?_⟩
   refine Z4 (Z1a c.1 hc.1 x.val) rfl rfl rfl ⟨Z1 _,trivial,trivial⟩ rfl ?_
   cases h1:c.1.testBit x.val
   · rw [h1, if_neg (by decide), List.nil_append] at hsn
     refine gd 24 ⟨?_⟩
     refine Z4 (Z1a c.2 hc.2 x.val) rfl rfl rfl ⟨Z1 _,trivial,trivial⟩ rfl ?_
     cases h2:c.2.testBit x.val
     · rw [h2, if_neg (by decide), List.append_nil] at hsn
       refine go ?_
       exact⟨.inl rfl,pre.map (·.val) ++ [x.val],fun i=>i,⟨rfl,by rw [List.map_append]; rfl⟩,fun i hi=>rfl,Zi,
        ⟨⟨_,rfl,.pure _ (Zj c)⟩,⟨_,rfl,.ptr (ρ:=fun i=>i) 0 0 0 (by decide)⟩,⟨_,rfl,.pure _ ⟨⟨Za _,trivial⟩,trivial⟩⟩,trivial⟩,
        ⟨⟨by decide,_,rfl,RenB.single ⟨.own (ρ:=fun i=>i) 1 (by decide),trivial⟩ rfl⟩,⟨by decide,_,rfl,by rw [hsn]; exact .same _ (Z2A _)⟩,trivial⟩⟩
     · rw [h2, if_pos rfl] at hsn
       refine gd 27 ⟨?_⟩
       refine Zw (Z68 x.val (by omega)) rfl rfl rfl ⟨trivial,trivial⟩ ?_
       refine Zt (hcat _ _ _ _ rfl) rfl rfl ?_
       refine gd 30 ⟨?_⟩
       refine Zt (Zr (k:=1) (m := [strC (⟨#[33]⟩++numS x.val)]) (fl:=true) rfl rfl rfl (fun q hq=>by rw [List.mem_singleton] at hq; subst hq; rfl) rfl (by
        show ((acc.map strC).length+1)*16≤_
        rw [List.length_map];omega)) rfl rfl ?_
       refine go ?_
       refine⟨.inl rfl,pre.map (·.val) ++ [x.val],mv 1 7,⟨rfl,by rw [List.map_append]; rfl⟩,Z5y (by decide),Zy rfl,
        ⟨⟨_,rfl,.pure _ (Zj c)⟩,⟨_,rfl,.ptr (ρ:=mv 1 7) 0 0 0 (by decide)⟩,⟨_,rfl,.pure _ ⟨⟨Za _,trivial⟩,trivial⟩⟩,trivial⟩,
        ⟨⟨by decide,_,rfl,RenB.single ⟨.own (ρ:=mv 1 7) 1 (by decide),trivial⟩ rfl⟩,⟨by decide,_,rfl,?_⟩,trivial⟩⟩
       show RenB _ _ ⟨1,acc.map strC ++ [strC (⟨#[33]⟩++numS x.val)]⟩ ⟨1,(litsS c (pre.map (·.val) ++ [x.val])).map strC⟩
       have hp:=Z2A (acc ++ [⟨#[33]⟩++numS x.val])
       rw [hsn,List.map_append]
       rw [List.map_append] at hp
       exact .same _ hp
   · rw [h1, if_pos rfl] at hsn
     refine gd 18 ⟨?_⟩
     refine Zw (Z68 x.val (by omega)) rfl rfl rfl ⟨trivial,trivial⟩ ?_
     refine gd 20 ⟨?_⟩
     refine Zt (Zr (k:=1) (m := [strC (numS x.val)]) (fl:=true) rfl rfl rfl (fun q hq=>by rw [List.mem_singleton] at hq; subst hq; rfl) rfl (by
      show ((acc.map strC).length+1)*16≤_
      rw [List.length_map];omega)) rfl rfl ?_
     refine gd 24 ⟨?_⟩
     refine Z4 (Z1a c.2 hc.2 x.val) rfl rfl rfl ⟨Z1 _,trivial,trivial⟩ rfl ?_
     cases h2:c.2.testBit x.val
     · rw [h2, if_neg (by decide), List.append_nil] at hsn
       refine go ?_
       refine⟨.inl rfl,pre.map (·.val) ++ [x.val],mv 1 6,⟨rfl,by rw [List.map_append]; rfl⟩,Z5y (by decide),Zy rfl,
        ⟨⟨_,rfl,.pure _ (Zj c)⟩,⟨_,rfl,.ptr (ρ:=mv 1 6) 0 0 0 (by decide)⟩,⟨_,rfl,.pure _ ⟨⟨Za _,trivial⟩,trivial⟩⟩,trivial⟩,
        ⟨⟨by decide,_,rfl,RenB.single ⟨.own (ρ:=mv 1 6) 1 (by decide),trivial⟩ rfl⟩,⟨by decide,_,rfl,?_⟩,trivial⟩⟩
       show RenB _ _ ⟨1,acc.map strC ++ [strC (numS x.val)]⟩ ⟨1,(litsS c (pre.map (·.val) ++ [x.val])).map strC⟩
       have hp:=Z2A (acc ++ [numS x.val])
       rw [hsn,List.map_append]
       rw [List.map_append] at hp
       exact .same _ hp
     · rw [h2, if_pos rfl] at hsn
       refine gd 27 ⟨?_⟩
       refine Zw (Z68 x.val (by omega)) rfl rfl rfl ⟨trivial,trivial⟩ ?_
       refine Zt (hcat _ _ _ _ rfl) rfl rfl ?_
       refine gd 30 ⟨?_⟩
       refine Zt (Zr (k:=6) (m := [strC (⟨#[33]⟩++numS x.val)]) (fl:=true) rfl rfl rfl (fun q hq=>by rw [List.mem_singleton] at hq; subst hq; rfl) rfl (by
        show ((acc.map strC ++ [strC (numS x.val)]).length+1)*16≤_
        rw [List.length_append,List.length_map,List.length_singleton];omega)) rfl rfl ?_
       refine go ?_
       refine⟨.inl rfl,pre.map (·.val) ++ [x.val],mv 1 13,⟨rfl,by rw [List.map_append]; rfl⟩,Z5y (by decide),Zy rfl,
        ⟨⟨_,rfl,.pure _ (Zj c)⟩,⟨_,rfl,.ptr (ρ:=mv 1 13) 0 0 0 (by decide)⟩,⟨_,rfl,.pure _ ⟨⟨Za _,trivial⟩,trivial⟩⟩,trivial⟩,
        ⟨⟨by decide,_,rfl,RenB.single ⟨.own (ρ:=mv 1 13) 1 (by decide),trivial⟩ rfl⟩,⟨by decide,_,rfl,?_⟩,trivial⟩⟩
       show RenB _ _ ⟨1,acc.map strC ++ [strC (numS x.val)] ++ [strC (⟨#[33]⟩++numS x.val)]⟩ ⟨1,(litsS c (pre.map (·.val) ++ [x.val])).map strC⟩
       have hp:=Z2A (acc++([numS x.val] ++ [⟨#[33]⟩++numS x.val]))
       rw [hsn,List.map_append,List.map_append,← List.append_assoc]
       rw [List.map_append,List.map_append,← List.append_assoc] at hp
       exact .same _ hp
 · rintro xs z hxs ⟨-, rfl⟩
   rw [hxs]
   have hsz:=Zc9 (c:=c) (rs:=mem M) fun r hr=>by have:=Z2v hr; omega
   have hll:=Z69 c (mem M)
   have hml:=Z27 M
   generalize litsS c (mem M)=l at hsz hll ⊢
   refine gd 33 ⟨?_⟩
   cases l with
   | nil =>
     refine Z3 (Z8 (v:=true) rfl rfl) rfl rfl ?_
     refine go ?_
     exact Z6 rfl trivial rfl
   | cons y l =>
     refine Z3 (Z8 (v:=false) rfl (by simp;omega)) rfl rfl ?_
     repeat' (first|refine Zfl 34 ?_|(first|refine st ?_|(apply B<;>intro hb<;>try cases hb)))
     refine At.mk ?_
     refine Zb (ZC (ob:=0) (id:=1) (i0:=0) (j0:=0) rfl rfl (by decide) (Z2A _) (Nat.le_of_ble_eq_true rfl) (Nat.le_of_ble_eq_true rfl) rfl) ?_
     refine gd 35 ⟨?_⟩
     refine Z4 (ZdP (y :: l) false ⟨#[32]⟩ (by omega) (Zfb hsz (by omega) _ (by decide))) rfl rfl rfl ⟨Z2A _,trivial,trivial⟩ rfl ?_
     refine go ?_
     exact Z6 rfl trivial (by rw [if_neg (by simp)])
 · rintro ex pre z - ⟨rfl,_⟩ (h|⟨id,h⟩)<;>cases h
def stepN (t:PB) (x:RU) (s:Nat) (ok:Bool):PV:=.tup [.val (.int .u64 ((if ok then nextR x s else 0:Nat):Int)),.val (.bool ok)]
set_option maxRecDepth 100000 in
set_option maxHeartbeats 4000000 in
theorem Za4 {t:PB} (h:PbOk t) (s:Nat) (hs:s<18446744073709551616) (k:Nat) (hk:k<t.rs.length):Spec Tryz.prog 29 [.agg (pbR t),.val (.int .u64 (s:Int)),.val (.int .i64 (k:Int))] (· = stepN t t.rs[k] s (stepR t t.rs[k] s)):=by
 have hro:=h.rs _ (List.getElem_mem hk)
 have hpp:=Z1H t
 have hrl:=Z7K t.rs
 refine Z2 ok29 (Nat.le_of_ble_eq_true rfl) fun C hC=>?_
 refine Zk ?_
 refine Z9 ?_
 refine Z5 rfl rfl rfl ?_
 refine gd 12 ⟨?_⟩
 refine Z3 (Z8 (v:=false) rfl (decide_eq_false (by omega))) rfl rfl ?_
 refine gd 18 ⟨?_⟩
 refine Zn rfl ?_
 refine Z3 (Z8 (v:=false) rfl (decide_eq_false (by rw [hrl];omega))) rfl rfl ?_
 refine gd 23 ⟨?_⟩
 refine Z3 (Zm (xs:=t.rs) (g:=ruR) rfl rfl k rfl hk rfl) rfl rfl ?_
 generalize t.rs[k]=x at hro ⊢
 have hxt:=hro.tg
 have hp:=ZJ (show x.tg<64 by omega)
 have hx64:=hro.m.lt (by decide)
 refine gd 27 ⟨?_⟩
 refine Zu rfl rfl rfl (show IntKind.u64.wrap ((x.tg:Nat):Int)=((x.tg:Nat):Int) from IntWalk.u64_in _ ⟨by omega,by omega⟩) ?_
 refine Z7a rfl rfl (by omega) (Z7u x.tg (by omega)) rfl ?_
 refine gd 31 ⟨?_⟩
 refine Zu rfl rfl rfl (bits_or_u64_nat s (2 ^ x.tg) hs hp) ?_
 refine gd 33 ⟨?_⟩
 have hnx:nextR x s<18446744073709551616:=by
  unfold nextR
  split
  · exact Nat.lt_of_le_of_lt Nat.and_le_left hs
  · exact Z1V hs hp
 have hgood:=Z2P h (nextR x s) hnx
 have hclo:=Z25 t.l false h.good.small s hs
 have hho:=Z3c x.cu (clo t.l s) hx64 (Z4S _ _)
 have hst:stepR t x s=(!decide (((nextR x s:Nat):Int)=(s:Int))&&(goodB t (nextR x s)&&(x.rev||hoC x.cu (clo t.l s)))):=by
  unfold stepR
  congr 1
  by_cases e:nextR x s=s
  · rw [decide_eq_false (fun h=>h e),decide_eq_true (by rw [e])]; rfl
  · rw [decide_eq_true e,decide_eq_false (show ¬ ((nextR x s:Nat):Int)=(s:Int) from fun h=>e (Int.ofNat.inj h))]; rfl
 rw [hst]
 cases hv:x.rev
 · have hnv : nextR x s = s ||| 2 ^ x.tg := by unfold nextR; rw [hv]; rfl
   rw [← hnv]
   refine Z3 (Z8 (v:=false) rfl hv) rfl rfl ?_
   refine gd 39 ⟨?_⟩
   cases hne:decide (((nextR x s:Nat):Int)=(s:Int))
   case true =>
    refine Z3 (Z8 (v:=true) rfl hne) rfl rfl ?_
    refine go ?_
    exact Z6 rfl ⟨trivial,trivial,trivial⟩ rfl
   refine Z3 (Z8 (v:=false) rfl hne) rfl rfl ?_
   refine gd 43 ⟨?_⟩
   refine Zn rfl ?_
   refine Z4 hgood rfl rfl rfl ⟨hpp,trivial,trivial⟩ rfl ?_
   cases hg:goodB t (nextR x s)
   case false =>
    refine go ?_
    exact Z6 rfl ⟨trivial,trivial,trivial⟩ rfl
   refine gd 47 ⟨?_⟩
   refine Zt (Z8 (v:=false) rfl hv) rfl rfl ?_
   refine gd 55 ⟨?_⟩
   refine Z2f rfl ?_
   refine Zw hclo rfl rfl rfl ⟨Zd _,trivial,trivial⟩ ?_
   refine gd 56 ⟨?_⟩
   refine Z2f rfl ?_
   refine Zw hho rfl rfl rfl ⟨Z2k _,trivial,trivial⟩ ?_
   cases hh:hoC x.cu (clo t.l s)
   all_goals
    refine go ?_
    exact Z6 rfl ⟨trivial,trivial,trivial⟩ rfl
 · have hnv : nextR x s = minusN s (2 ^ x.tg) := by unfold nextR; rw [hv]; rfl
   refine Z3 (Z8 (v:=true) rfl hv) rfl rfl ?_
   refine gd 36 ⟨?_⟩
   refine Zu rfl rfl rfl (Z1s s (2 ^ x.tg) hs hp) ?_
   rw [← hnv]
   refine gd 39 ⟨?_⟩
   cases hne:decide (((nextR x s:Nat):Int)=(s:Int))
   case true =>
    refine Z3 (Z8 (v:=true) rfl hne) rfl rfl ?_
    refine go ?_
    exact Z6 rfl ⟨trivial,trivial,trivial⟩ rfl
   refine Z3 (Z8 (v:=false) rfl hne) rfl rfl ?_
   refine gd 43 ⟨?_⟩
   refine Zn rfl ?_
   refine Z4 hgood rfl rfl rfl ⟨hpp,trivial,trivial⟩ rfl ?_
   cases hg:goodB t (nextR x s)
   case false =>
    refine go ?_
    exact Z6 rfl ⟨trivial,trivial,trivial⟩ rfl
   refine gd 47 ⟨?_⟩
   refine Zt (Z8 (v:=true) rfl hv) rfl rfl ?_
   refine go ?_
   exact Z6 rfl ⟨trivial,trivial,trivial⟩ rfl
def u64C (s:Nat):List PV := [.val (.int .u64 (s:Int))]
def nsL (l:List Nat):List (List PV):=l.map u64C
theorem Zq (l:List Nat):pureLL (nsL l):=Ze (enc:=u64C) (fun _=>⟨trivial,trivial⟩) l
theorem Z3g (l:List Nat):(nsL l).length=l.length:=by simp [nsL]
theorem Zb6 (l:List Nat) (k:Nat):nsL l ++ [u64C k]=nsL (l ++ [k]):=by simp [nsL]
set_option maxHeartbeats 2000000 in
theorem Z4t (l:List Nat) (fl:Bool) (s:Nat) (hl:l.length≤1000000):Spec Tryz.prog 74 [.vec (nsL l) fl,.val (.int .u64 (s:Int))] (· = .val (.bool (decide (s∈l)))):=by
 refine Z2 ok74 (Nat.le_of_ble_eq_true rfl) fun C hC=>?_
 have hp:∀ D,innLL D (nsL l):=fun D=>Zh (fun _ h=>h.elim) _ (Zq l)
 refine go ?_
 refine ZD hC (fun i=>i≤l.length∧s ∉ l.take i) (fun i=>l.length-i) 0 (fun i => [(1,.val (.int .u64 (s:Int))),(7,.vec (nsL l) fl),(8,.val (.int .i64 (l.length:Int))),(9,.val (.int .i64 (i:Int)))]) (fun _=>[]) (Nat.zero_le _) 0 ⟨Nat.zero_le _,by simp⟩
  ⟨⟨rfl,trivial⟩,⟨rfl,hp _⟩,⟨by rw [← Z3g]; rfl,trivial⟩,⟨rfl,trivial⟩,trivial⟩ trivial ?_
 rintro i ⟨hi,hno⟩
 have hinc:IntKind.i64.wrap ((i:Int)+1)=((i+1:Nat):Int):=IntWalk.i64_in _ ⟨by omega,by omega⟩
 refine gd 10 ⟨?_⟩
 by_cases hil:i<l.length
 · refine Z3 (Z8 (v := true) rfl (decide_eq_true (Int.ofNat_lt.2 hil))) rfl rfl ?_
   have htk:=Z12 hil
   have hm:=List.getElem_mem hil
   refine gd 11 ⟨?_⟩
   refine Z3 (Zm (xs:=l) (g:=u64C) rfl rfl i rfl hil rfl) rfl rfl ?_
   generalize l[i]=x at htk hm ⊢
   refine gd 15 ⟨?_⟩
   by_cases hx:x=s
   · refine Z3 (Z8 (v := true) rfl (decide_eq_true (by rw [hx]))) rfl rfl ?_
     refine go ?_
     exact Z6 rfl trivial (by rw [decide_eq_true (hx▸hm)])
   · refine Z3 (Z8 (v := false) rfl (decide_eq_false (fun h => hx (Int.ofNat.inj h)))) rfl rfl ?_
     refine go ?_
     refine⟨i+1,⟨hil,?_⟩,by omega,⟨⟨rfl,trivial⟩,⟨rfl,hp _⟩,⟨rfl,trivial⟩,⟨by show some _=some _; rw [hinc],trivial⟩,trivial⟩,trivial⟩
     rw [htk]
     intro h
     rcases List.mem_append.1 h with h|h
     · exact hno h
     · rw [List.mem_singleton] at h; exact hx h.symm
 · refine Z3 (Z8 (v := false) rfl (decide_eq_false (by omega))) rfl rfl ?_
   refine go ?_
   have:i=l.length:=by omega
   rw [this,List.take_length] at hno
   exact Z6 rfl trivial (by rw [decide_eq_false hno])
section
variable {P:Program} {e:Env} {h:Heap} {n:Nat}
theorem Z3V {d:Option Nat} {z:Rsv} {i mask:Nat} {op:AOp} {iso:Nat} {alt:Bool} {g:Nat×Bool} {xs:List DItem} {K:Env→Heap→Prop} (hw:wantB (some g) e=some false) (hk:dK P z n xs (updO e d pvu) h K):dK P z n (⟨i,⟨d,op,some g⟩,mask,iso,alt⟩ :: xs) e h K:=by
 unfold dK
 exact⟨_,.skip hw,fun p' f' hh=>by obtain⟨rfl,rfl⟩:=hh; exact hk⟩
end
theorem Zfz:setN 0=.agg [.vec [] false]:=by unfold setN; rw [ZG]; rfl
theorem Zfc {x:RU} (hx:x.tg<64) {s:Nat} (hs:s<18446744073709551616):nextR x s<18446744073709551616:=by
 unfold nextR
 split
 · exact Nat.lt_of_le_of_lt Nat.and_le_left hs
 · exact Z1V hs (ZJ hx)
def stepP (x:RU) (s:Nat) (ok:Bool):PV:=.tup [setN (if ok then nextR x s else 0),.val (.bool ok)]
theorem Z4u (x:RU) (s:Nat):PV.tup [.agg [.vec [] false],.val (.bool false)]=stepP x s false:=by
 show _=PV.tup [setN 0,.val (.bool false)]
 rw [Zfz]
set_option maxRecDepth 100000 in
set_option maxHeartbeats 8000000 in
theorem Zcb {t:PB} (h:PbOk t) (S:List Nat) (s:Nat) (hs:s<18446744073709551616) (k:Nat) (hk:k<t.rs.length):Spec Tryz.prog 91 [.agg (pbP t S),setN s,.val (.int .i64 (k:Int))] (· = stepP t.rs[k] s (stepR t t.rs[k] s)):=by
 have hro:=h.rs _ (List.getElem_mem hk)
 have hpp:=Z1h t S
 have hrl:(t.rs.map ruP).length=t.rs.length:=by simp
 refine Z2 ok91 (Nat.le_of_ble_eq_true rfl) fun C hC=>?_
 refine Zk ?_
 refine Z9 ?_
 refine Z5 rfl rfl rfl ?_
 refine Z5 rfl rfl rfl ?_
 refine gd 15 ⟨?_⟩
 refine Zn rfl ?_
 refine Z3 (Z8 (v:=false) rfl (decide_eq_false (by omega))) rfl rfl ?_
 refine gd 22 ⟨?_⟩
 refine Zn rfl ?_
 refine Z3 (Z8 (v:=false) rfl (decide_eq_false (by rw [hrl];omega))) rfl rfl ?_
 refine gd 28 ⟨?_⟩
 refine Z3 (Zm (xs:=t.rs) (g:=ruP) rfl rfl k rfl hk rfl) rfl rfl ?_
 generalize t.rs[k]=x at hro ⊢
 have hxt:=hro.tg
 have hx64:=hro.m.lt (by decide)
 have hnx:=Zfc (x:=x) (show x.tg<64 by omega) hs
 have hgood:=ZbV h S (nextR x s) hnx
 have hclo:=Z2l t.l S s hs
 have hho:=Z3Q x.cu (clo t.l s) hx64 (Z4S _ _)
 have hhas:=Z1a s hs x.tg
 have hne:=ZaS (r:=x) (show x.tg<64 by omega) hs
 have hw:=Z1x s hs x.tg (by omega)
 have hst:stepR t x s=(decide (s.testBit x.tg=x.rev)&&(goodB t (nextR x s)&&(x.rev||hoC x.cu (clo t.l s)))):=by
  unfold stepR
  rw [decide_eq_decide.2 hne]
 rw [hst]
 refine gd 33 ⟨?_⟩
 refine Z4 hw rfl rfl rfl ⟨Z1 _,trivial,trivial⟩ rfl ?_
 cases hv:x.rev
 · have hnv : nextR x s = s ||| 2 ^ x.tg := by unfold nextR; rw [hv]; rfl
   rw [← hnv]
   refine gd 35 ⟨?_⟩
   refine Z3 (Z8 (v:=false) rfl hv) rfl rfl ?_
   refine gd 43 ⟨?_⟩
   refine Zw hhas rfl rfl rfl ⟨Z1 _,trivial,trivial⟩ ?_
   refine gd 45 ⟨?_⟩
   refine Zt (Z8 (v:=false) rfl hv) rfl rfl ?_
   cases hb:s.testBit x.tg
   case true =>
    repeat' (first|refine Z3V rfl ?_|(first|refine st ?_|(apply B<;>intro hb<;>try cases hb)))
    exact Z1e (r:=.tup [.agg [.vec [] true],.val (.bool false)]) rfl ⟨⟨trivial,trivial⟩,trivial,trivial⟩ (Z4u x s)
   refine gd 49 ⟨?_⟩
   refine Z2f rfl ?_
   refine Zt (Z8 (v:=false) rfl hv) rfl rfl ?_
   refine gd 57 ⟨?_⟩
   refine Z2f rfl ?_
   refine Zw hclo rfl rfl rfl ⟨Zv _ _,Z1 _,trivial⟩ ?_
   refine Z2f rfl ?_
   refine Zw hho rfl rfl rfl ⟨Zp _,Z1 _,trivial⟩ ?_
   cases hh:hoC x.cu (clo t.l s)
   case false =>
    repeat' (first|refine Z3V rfl ?_|(first|refine st ?_|(apply B<;>intro hb<;>try cases hb)))
    exact Z1e (r:=.tup [.agg [.vec [] true],.val (.bool false)]) rfl ⟨⟨trivial,trivial⟩,trivial,trivial⟩ (by cases goodB t (nextR x s)<;>exact Z4u x s)
   refine gd 65 ⟨?_⟩
   refine Z2f rfl ?_
   refine Zw hgood rfl rfl rfl ⟨hpp,Z1 _,trivial⟩ ?_
   cases hg:goodB t (nextR x s)
   case false =>
    repeat' (first|refine Z3V rfl ?_|(first|refine st ?_|(apply B<;>intro hb<;>try cases hb)))
    exact Z1e (r:=.tup [.agg [.vec [] true],.val (.bool false)]) rfl ⟨⟨trivial,trivial⟩,trivial,trivial⟩ (Z4u x s)
   repeat' (first|refine Z3V rfl ?_|(first|refine st ?_|(apply B<;>intro hb<;>try cases hb)))
   exact Z6 rfl ⟨Z1 _,trivial,trivial⟩ rfl
 · have hnv : nextR x s = minusN s (2 ^ x.tg) := by unfold nextR; rw [hv]; rfl
   have hwo:=Z1D s hs (x.tg:Int)
   rw [Z2T hs (by omega),← hnv] at hwo
   refine gd 35 ⟨?_⟩
   refine Z3 (Z8 (v:=true) rfl hv) rfl rfl ?_
   refine gd 39 ⟨?_⟩
   refine Z4 hwo rfl rfl rfl ⟨Z1 _,trivial,trivial⟩ rfl ?_
   refine gd 43 ⟨?_⟩
   refine Zw hhas rfl rfl rfl ⟨Z1 _,trivial,trivial⟩ ?_
   refine gd 45 ⟨?_⟩
   refine Zt (Z8 (v:=true) rfl hv) rfl rfl ?_
   cases hb:s.testBit x.tg
   case false =>
    repeat' (first|refine Z3V rfl ?_|(first|refine st ?_|(apply B<;>intro hb<;>try cases hb)))
    exact Z1e (r:=.tup [.agg [.vec [] true],.val (.bool false)]) rfl ⟨⟨trivial,trivial⟩,trivial,trivial⟩ (Z4u x s)
   refine gd 49 ⟨?_⟩
   refine Z2f rfl ?_
   refine Zt (Z8 (v:=true) rfl hv) rfl rfl ?_
   refine gd 65 ⟨?_⟩
   refine Z2f rfl ?_
   refine Zw hgood rfl rfl rfl ⟨hpp,Z1 _,trivial⟩ ?_
   cases hg:goodB t (nextR x s)
   case false =>
    repeat' (first|refine Z3V rfl ?_|(first|refine st ?_|(apply B<;>intro hb<;>try cases hb)))
    exact Z1e (r:=.tup [.agg [.vec [] true],.val (.bool false)]) rfl ⟨⟨trivial,trivial⟩,trivial,trivial⟩ (Z4u x s)
   repeat' (first|refine Z3V rfl ?_|(first|refine st ?_|(apply B<;>intro hb<;>try cases hb)))
   exact Z6 rfl ⟨Z1 _,trivial,trivial⟩ rfl
set_option maxHeartbeats 4000000 in
theorem ZdR {t:PB} (h:PbOk t) (S:List Nat) (p:List Nat) (fl:Bool) (hl:p.length≤1000000) {E:Nat} (hr:RunOk t t.st p E):Spec Tryz.prog 43 [.agg (pbP t S),.vec (inL p) fl] (· = .tup [setN E,.val (.int .i64 (p.length:Int)),.val (.bool true)]):=by
 have hpp:=Z1h t S
 have hpl:=Z3E p
 have hlen:=Z9Y p
 refine Z2 ok43 (Nat.le_of_ble_eq_true rfl) fun C hC=>?_
 have hpc:∀ D,innL D (pbP t S):=fun D=>Z16 (fun _ h=>h.elim) _ hpp
 have hpi:∀ D,innLL D (inL p):=fun D=>Zh (fun _ h=>h.elim) _ hpl
 refine Zk ?_
 refine Z9 ?_
 refine Z5 rfl rfl rfl ?_
 refine go ?_
 refine ZD hC (fun (z:Nat×Nat)=>z.1≤p.length∧InS t z.2∧RunOk t z.2 (p.drop z.1) E) (fun z=>p.length-z.1) 2 (fun z => [(1,.vec (inL p) fl),(2,.cp (pbP t S)),(4,.ptr 0 0 0),(7,.ptr 1 0 0),(18,.vec (inL p) fl),(19,.val (.int .i64 (p.length:Int))),(20,.val (.int .i64 (z.1:Int)))]) (fun z => [(0,⟨1,[[.vec [] true]]⟩),(1,⟨1,[[.vec (words (digs z.2)) false]]⟩)]) (Nat.zero_le _) (0,t.st) ⟨Nat.zero_le _,h.st,hr⟩
  ⟨⟨rfl,hpi _⟩,⟨rfl,hpc _⟩,⟨rfl,show (0:Nat)<2 by decide⟩,⟨rfl,show (1:Nat)<2 by decide⟩,⟨rfl,hpi _⟩,⟨by rw [← hlen]; rfl,trivial⟩,⟨rfl,trivial⟩,trivial⟩ ⟨⟨by decide,rfl,⟨⟨trivial,trivial⟩,trivial⟩⟩,⟨by decide,rfl,⟨⟨Zg _ _,trivial⟩,trivial⟩⟩,trivial⟩ ?_
 rintro⟨i,s⟩ ⟨hi,hs,hrun⟩
 dsimp only at hi hs hrun ⊢
 have hinc:IntKind.i64.wrap ((i:Int)+1)=((i+1:Nat):Int):=IntWalk.i64_in _ ⟨by omega,by omega⟩
 refine gd 21 ⟨?_⟩
 by_cases hil:i<p.length
 · refine Z3 (Z8 (v := true) rfl (decide_eq_true (Int.ofNat_lt.2 hil))) rfl rfl ?_
   rw [List.drop_eq_getElem_cons hil] at hrun
   refine gd 23 ⟨?_⟩
   refine Z3 (Zm (xs:=p) (g:=inC1) rfl rfl i rfl hil rfl) rfl rfl ?_
   generalize p[i]=k at hrun ⊢
   obtain⟨x,hx,hst,hrun⟩:=hrun
   obtain⟨hkl,rfl⟩:=List.getElem?_eq_some_iff.1 hx
   refine gd 29 ⟨?_⟩
   refine Z4 (Zcb h S s (hs.lt h.n.2) k hkl) rfl rfl rfl ⟨hpp,Z1 _,trivial,trivial⟩ rfl ?_
   rw [hst]
   refine go ?_
   exact⟨(i+1,nextR t.rs[k] s),⟨hil,Z4s h (List.getElem_mem hkl) hs,hrun⟩,by show p.length-(i+1)<p.length-i; omega,⟨⟨rfl,hpi _⟩,⟨rfl,hpc _⟩,⟨rfl,show (0:Nat)<2 by decide⟩,⟨rfl,show (1:Nat)<2 by decide⟩,⟨rfl,hpi _⟩,⟨rfl,trivial⟩,⟨by show some _=some _; rw [hinc],trivial⟩,trivial⟩,⟨⟨by decide,rfl,⟨⟨trivial,trivial⟩,trivial⟩⟩,⟨by decide,rfl,⟨⟨Zg _ _,trivial⟩,trivial⟩⟩,trivial⟩⟩
 · refine Z3 (Z8 (v := false) rfl (decide_eq_false (by omega))) rfl rfl ?_
   refine go ?_
   rw [List.drop_eq_nil_of_le (by omega)] at hrun
   obtain rfl:=Z9W hrun
   exact Z6 rfl ⟨Z1 _,trivial,trivial,trivial⟩ (by rw [hlen]; rfl)
section
variable {P:Program} {e:Env} {h:Heap} {n:Nat}
theorem Zb7 {k:Nat} {p q:PV} (hk:e k=some p) (hr:RenP (fun i=>i) (fun _=>False) p q):SubA n e h n (e.upd k q) h:=by
 rintro C a w ⟨F,φ,s⟩
 refine⟨F,φ,{ s with env:=fun j r hq=>?_ }⟩
 by_cases hj:j=k
 · subst hj
   rw [Env.upd_same] at hq
   cases hq
   exact⟨(s.env j p hk).1,hr.rep (fun i x hd _=>hd.elim) (s.env j p hk).2⟩
 · rw [Env.upd_ne _ _ hj] at hq
   exact s.env j r hq
theorem RenLs.agg {ρ:Nat→Nat} {D:Nat→Prop} {l m:List PV} (h:RenLs ρ D l m):RenP ρ D (.agg l) (.agg m):=by
 obtain⟨h1,h2⟩:=h.get
 exact .agg l m h1 fun i hi=>h2 i (by omega)
end
theorem Z2q (l:List Int) (N:Nat) (h:maskTo (topOf l) l=N) (fl:Bool):Spec Tryz.prog 38 [.vec (nums l) fl] (· = setN N):=h▸ZcL l fl
theorem Z4v:Small ([]:List Pr):=fun p hp=>by cases hp
theorem ZfA {a b:Nat} (h:Up [] a b):False:=by
 cases h with
 | one h=>cases h
 | more _ h=>cases h
theorem Z7S {s m:Nat} (hs:s ||| mkN m=mkN m) (hm:m≤63):clo [] s=s:=by
 have hlt:s<18446744073709551616:=by
  have h1:s≤mkN m:=by rw [← hs]; exact Nat.left_le_or
  have:=Z3I hm
  omega
 refine Nat.eq_of_testBit_eq fun i=>?_
 rw [Bool.eq_iff_iff,Z5Y Z4v hlt]
 constructor
 · rintro ⟨a, h1, h2, h3⟩
   rcases (Z3S Z4v i a).1 h3 with h4|rfl
   · exact (ZfA h4).elim
   · exact h1
 · intro h1
   have h2:=orSub.1 hs i h1
   rw [Z1Y,Bool.and_eq_true,decide_eq_true_eq] at h2
   exact⟨i,h1,h2.1,(Z3S Z4v i i).2 (.inr rfl)⟩
def rsE:List RU := [⟨false,(0,0),1,0⟩,⟨false,(2,0),2,0⟩,⟨true,(0,0),1,0⟩]
def tE (nv:List Cu):PB:=⟨3,[],0,rsE,nv,[(4,2)]⟩
theorem inC3 {c:Cu} (h1:c.1 ||| 14=14) (h2:c.2 ||| 14=14) (h3:emC c=false):InC 3 c∧InM 62 c:=⟨⟨h1,h2,h3⟩,Z3A h1 (by decide),Z3A h2 (by decide)⟩
theorem ZgL (nv:List Cu) (hl:nv.length≤64) (h:∀ c∈nv,InC 3 c∧InM 62 c) (h0:soC nv 0=false):PbOk (tE nv):=by
 refine⟨show 1≤3∧3≤63 by decide,⟨List.Pairwise.nil,fun p hp=>(by cases hp),⟨fun _=>0,fun p hp=>(by cases hp)⟩⟩,fun p hp=>(by cases hp),show 0 ||| mkN 3=mkN 3 by decide,show rsE.length≤64 by decide,fun r hr=>?_,hl,h,show 1≤64 by decide,fun c hc=>?_,?_⟩
 · have hr : r ∈ rsE := hr
   unfold rsE at hr
   simp only [List.mem_cons,List.not_mem_nil,or_false] at hr
   rcases hr with rfl|rfl|rfl
   · have := inC3 (c := (0, 0)) (by decide) (by decide) (by decide)
     exact⟨this.1,this.2,show 1≤1∧1≤3∧1≤5 by decide,fun _=>rfl⟩
   · have := inC3 (c := (2, 0)) (by decide) (by decide) (by decide)
     exact⟨this.1,this.2,show 1≤2∧2≤3∧2≤5 by decide,fun h=>by cases h⟩
   · have := inC3 (c := (0, 0)) (by decide) (by decide) (by decide)
     exact⟨this.1,this.2,show 1≤1∧1≤3∧1≤5 by decide,fun _=>rfl⟩
 · have hc : c ∈ [((4, 2) : Cu)] := hc
   rw [List.mem_singleton] at hc
   subst hc
   exact inC3 (by decide) (by decide) (by decide)
 · show soC nv (clo [] 0) = false
   rw [Z7S (m:=3) (by decide) (by decide)]; exact h0
def t0:PB:=tE []
def t1:PB:=tE [(6,0)]
theorem Z7T:PbOk t0:=ZgL [] (by decide) (fun c hc=>by cases hc) rfl
theorem Zcc:PbOk t1:=ZgL [(6,0)] (by decide) (fun c hc=>by
 rw [List.mem_singleton] at hc
 subst hc
 exact inC3 (by decide) (by decide) (by decide)) (by decide)
theorem goodE {nv:List Cu} {s:Nat} (hs:s ||| 14=14):goodB (tE nv) s = !soC nv s:=by
 show (!soC nv (clo [] s))=_
 rw [Z7S (m:=3) hs (by decide)]
theorem reachE {nv:List Cu} {s:Nat} (hs:s ||| 14=14):reachB (tE nv) s=soC [(4,2)] s:=by
 show soC [(4,2)] (clo [] s)=_
 rw [Z7S (m:=3) hs (by decide)]
theorem stepE {nv:List Cu} {x:RU} {s:Nat} (hs:s ||| 14=14) (hn:nextR x s ||| 14=14):stepR (tE nv) x s=(decide (nextR x s≠s)&&(!soC nv (nextR x s)&&(x.rev||hoC x.cu s))):=by
 unfold stepR
 rw [goodE hn]
 show (_&&(_&&(x.rev||hoC x.cu (clo [] s))))=_
 rw [Z7S (m:=3) hs (by decide)]
theorem able0:Able t0 t0.st:=by
 have r0:(⟨false,(0,0),1,0⟩:RU)∈t0.rs:=by show _∈rsE; unfold rsE; simp
 have r1:(⟨false,(2,0),2,0⟩:RU)∈t0.rs:=by show _∈rsE; unfold rsE; simp
 have r2:(⟨true,(0,0),1,0⟩:RU)∈t0.rs:=by show _∈rsE; unfold rsE; simp
 refine .step (S:=0) (x:=⟨false,(0,0),1,0⟩) (by show _ ||| 14=14; decide) (by unfold t0; rw [goodE (by decide)]; rfl) r0 (by unfold t0; rw [stepE (by decide) (by decide)]; decide) ?_
 refine .step (S:=2) (x:=⟨false,(2,0),2,0⟩) (by show _ ||| 14=14; decide) (by unfold t0; rw [goodE (by decide)]; rfl) r1 (by unfold t0; rw [stepE (by decide) (by decide)]; decide) ?_
 refine .step (S:=6) (x:=⟨true,(0,0),1,0⟩) (by show _ ||| 14=14; decide) (by unfold t0; rw [goodE (by decide)]; rfl) r2 (by unfold t0; rw [stepE (by decide) (by decide)]; decide) ?_
 exact .base (S:=4) (by show _ ||| 14=14; decide) (by unfold t0; rw [goodE (by decide)]; rfl) (by unfold t0; rw [reachE (by decide)]; decide)
theorem Z6a {S:Nat} (h:Able t1 S):S.testBit 2=true:=by
 induction h with
 | base hS hg hr =>
   unfold t1 at hr
   rw [reachE hS,Z3R] at hr
   exact ((Z13 _ _).1 hr).1 2 (by decide)
 | step hS hg hx hs ha ih =>
   rename_i S x
   have hl:=hS.lt (t:=t1) (by decide)
   have hx':x∈rsE:=hx
   unfold rsE at hx'
   simp only [List.mem_cons,List.not_mem_nil,or_false] at hx'
   have hb:=ZT (r:=x) (by rcases hx' with rfl|rfl|rfl<;>decide) hl 2
   rw [ih] at hb
   rcases hx' with rfl|rfl|rfl
   · rw [if_neg (by decide)] at hb; exact hb.symm
   · exfalso
     unfold t1 at hs
     rw [stepE hS (Z4s Zcc hx hS)] at hs
     rw [Bool.and_eq_true,Bool.and_eq_true,Bool.not_eq_true',Z3R] at hs
     have h1:hoC (2,0) S=true:=hs.2.2
     have h2:S.testBit 1=true:=((Z13 _ _).1 h1).1 1 (by decide)
     have h3:hoC (6,0) (nextR ⟨false,(2,0),2,0⟩ S)=true:=(Z13 _ _).2 ⟨fun i hi=>by
      rw [ZT (by decide) hl]
      have:i=1 ∨ i=2:=by
       have hi2:i<3:=Nat.lt_of_not_le fun h=>by
        rw [Nat.testBit_lt_two_pow (Nat.lt_of_lt_of_le (show (6:Nat)<2 ^ 3 by decide) (Nat.pow_le_pow_right (by decide) h))] at hi
        cases hi
       have:i≠0:=fun e=>by subst e; revert hi; decide
       omega
      rcases this with rfl|rfl
      · rw [if_neg (by decide)]; exact h2
      · rfl,fun i hi=>by simp at hi⟩
     rw [h3] at hs
     exact absurd hs.2.1 (by decide)
   · rw [if_neg (by decide)] at hb; exact hb.symm
theorem ZdS (r:Nat):sen [] r=2 ^ r:=Nat.eq_of_testBit_eq fun a=>by
 rw [Bool.eq_iff_iff,Z3S Z4v,Nat.testBit_two_pow,decide_eq_true_eq]
 exact⟨fun h=>h.elim (fun h=>(ZfA h).elim) Eq.symm,fun h=>.inr h.symm⟩
theorem Z6b (c:Cu) (hc:Ok64 c) (he:emC c=false) {S:Nat} (hS:hoC c S=true):simL [c] = [c]:=by
 have h64:∀ x∈[c],Ok64 x:=fun x hx=>by rw [List.mem_singleton] at hx; subst hx; exact hc
 have hm:∀ x∈simL [c],x=c:=fun x hx=>List.mem_singleton.1 (Z1R hx).1
 have hn:=Z3z h64
 have hso:=Z5X h64 S
 rw [Z3R,hS] at hso
 generalize simL [c]=l at hm hn hso
 match l,hm,hn,hso with
 | [],_,_,hso=>cases hso
 | [x],hm,_,_=>rw [hm x (List.mem_cons_self ..)]
 | x :: y :: r, hm, hn, _ =>
   have h1:=hm x (by simp)
   have h2:=hm y (by simp)
   rw [List.nodup_cons] at hn
   exact absurd (by rw [h1,h2]; simp) hn.1
theorem Zfd:simL [] = []:=by
 cases h:simL [] with
 | nil=>rfl
 | cons c l=>exact absurd (Z1R (show c∈simL [] by rw [h]; simp)).1 (by simp)
theorem tgt0:tgtL t0 = [(4,2)]:=by
 have h1:badL t0 = []:=Zfd
 have h2:exL [] 3 (4,2) = [(4,2)]:=by
  have e1:mem 2 = [1]:=by decide +kernel
  have e2:mem 4 = [2]:=by decide +kernel
  have e3:exN [] 3 (mem 2)=2:=by rw [e1]; unfold exN; simp only [List.foldl]; rw [ZdS]; decide
  unfold exL
  show exF [] 3 (mem 4) [(0,exN [] 3 (mem 2))]=_
  rw [e3,e2]
  unfold exF
  simp only [List.foldl]
  have e4:exX [] 3 2 [(0,2)] = [(4,2)]:=by
   unfold exX
   rw [ZdS]
   have:mem (2 ^ 2 &&& mkN 3) = [2]:=by decide +kernel
   simp only [this,List.flatMap_cons,List.flatMap_nil,List.map]
   decide
  rw [e4]
  exact Z6b (4,2) ⟨by decide,by decide⟩ (by decide) (S:=4) (by decide)
 have h3:expAll t0 t0.gl = [(4,2)]:=by
  unfold expAll
  show ([(4,2)]:List Cu).flatMap (exL [] 3)=_
  rw [List.flatMap_cons,List.flatMap_nil,h2]; rfl
 unfold tgtL
 rw [h1,h3]
 have h4:splAll [] [(4,2)] = [(4,2)]:=by decide
 rw [h4]
 exact Z6b (4,2) ⟨by decide,by decide⟩ (by decide) (S:=4) (by decide)
theorem text0:textS (4,2)=⟨#[33,49,32,50]⟩:=by
 have e1:mem ((4:Nat) ||| 2) = [1,2]:=by decide +kernel
 have n1:numS 1=⟨#[49]⟩:=by unfold numS; rw [Go.Lib.decDigits_one (by decide)]; rfl
 have n2:numS 2=⟨#[50]⟩:=by unfold numS; rw [Go.Lib.decDigits_one (by decide)]; rfl
 have h:litsS (4,2) [1,2] = [⟨#[33,49]⟩,⟨#[50]⟩]:=by
  unfold litsS litS
  simp only [List.flatMap_cons,List.flatMap_nil]
  rw [n1,n2]
  rfl
 unfold textS
 show (if litsS (4,2) (mem (4 ||| 2)) = [] then _ else joinS (litsS (4,2) (mem (4 ||| 2))) ⟨#[32]⟩)=_
 rw [e1,h,if_neg (by simp)]
 rfl
theorem bf0:bfV t0 (4,2) 2=.tup [.vec ((bfL t0 ⟨true,(0,0),1,0⟩ (4,2)).map cuC) false,.val (.int .i64 0)]:=by
 unfold bfV
 rw [dif_pos (show 0≤(2:Int)∧(2:Int).toNat<t0.rs.length by decide),if_pos (by decide)]
 rfl
theorem ZgM:RuOk 3 ⟨true,(0,0),1,0⟩:=by
 have:=inC3 (c:=(0,0)) (by decide) (by decide) (by decide)
 exact⟨this.1,this.2,by decide,fun _=>rfl⟩
theorem c42:InM 62 ((4,2):Cu):=⟨by decide,by decide⟩
theorem ZfB {S:Nat} (hS:S ||| 14=14) (hn:nextR ⟨true,(0,0),1,0⟩ S ||| 14=14):soC (bfL t0 ⟨true,(0,0),1,0⟩ (4,2)) S=(decide (nextR ⟨true,(0,0),1,0⟩ S≠S)&&hoC (4,2) (nextR ⟨true,(0,0),1,0⟩ S)):=by
 rw [ZgH Z7T ZgM c42 hS]
 unfold t0
 rw [goodE hS,stepE hS hn]
 simp [soC]
theorem pb0 (S:List Nat):PV.agg (pbP t0 S)=.agg [.val (.int .i64 3),hierP [] S,.vec [] false,.vec [[.val (.bool false),.vec [] false,.vec [] false,.val (.int .i64 1),.val (.int .i64 0)],[.val (.bool false),.vec (words (digs 2)) false,.vec [] false,.val (.int .i64 2),.val (.int .i64 0)],[.val (.bool true),.vec [] false,.vec [] false,.val (.int .i64 1),.val (.int .i64 0)]] false,.vec [] false,.vec [[.vec (words (digs 4)) false,.vec (words (digs 2)) false]] false]:=by
 have h:ruP ⟨false,(2,0),2,0⟩ = [.val (.bool false),.vec (words (digs 2)) false,.vec (words (digs 0)) false,.val (.int .i64 2),.val (.int .i64 0)]:=rfl
 have h0:words (digs 0) = []:=by rw [ZG]; rfl
 unfold t0 tE pbP rsE
 simp only [List.map,ruP,cuC,h0]
 rfl
set_option maxRecDepth 100000 in
set_option maxHeartbeats 16000000 in
theorem Z8H:Spec Tryz.prog 13 [] (· = .val (.bool true)):=by
 have h0:words (digs 0) = []:=by rw [ZG]; rfl
 refine Z2 ok13 (Nat.le_of_ble_eq_true rfl) fun C hC=>?_
 refine gd 15 ⟨?_⟩
 refine ZF rfl rfl Z4U trivial rfl ?_
 rintro r ⟨S,rfl⟩
 have hpp0:=Z1h t0 S
 have hpp1:=Z1h t1 S
 refine gd 18 ⟨?_⟩
 refine Z4 (Z2q [1] 2 (by decide +kernel) true) rfl rfl rfl ⟨Zs _,trivial⟩ rfl ?_
 refine gd 24 ⟨?_⟩
 refine Z4 (Z2q [2] 4 (by decide +kernel) true) rfl rfl rfl ⟨Zs _,trivial⟩ rfl ?_
 refine gd 26 ⟨?_⟩
 refine Z4 (Z2q [1] 2 (by decide +kernel) true) rfl rfl rfl ⟨Zs _,trivial⟩ rfl ?_
 refine gd 1 ⟨?_⟩
 refine Zb (Zb7 (k:=29) (q:=.agg (pbP t0 S)) rfl (by
  rw [pb0]
  refine RenLs.agg ⟨.pure _ trivial,.pure _ (Zv _ _),.low (.vec [] true) trivial,?_,.low (.vec [] true) trivial,?_,trivial⟩
  · have := RenP.low (ρ := fun i => i) (D := fun _ => False) (.vec [[.val (.bool false), .vec [] true, .vec [] true, .val (.int .i64 1), .val (.int .i64 0)], [.val (.bool false), .vec (words (digs 2)) false, .vec [] true, .val (.int .i64 2), .val (.int .i64 0)], [.val (.bool true), .vec [] true, .vec [] true, .val (.int .i64 1), .val (.int .i64 0)]] true) (by
     show pureLL [_,[_,.vec (lowLL (words (digs 2))) false,_,_,_],_]
     rw [ZW]
     exact⟨⟨trivial,trivial,trivial,trivial,trivial,trivial⟩,⟨trivial,Za _,trivial,trivial,trivial,trivial⟩,⟨trivial,trivial,trivial,trivial,trivial,trivial⟩,trivial⟩)
    have e:(PV.vec [[.val (.bool false),.vec [] true,.vec [] true,.val (.int .i64 1),.val (.int .i64 0)],[.val (.bool false),.vec (words (digs 2)) false,.vec [] true,.val (.int .i64 2),.val (.int .i64 0)],[.val (.bool true),.vec [] true,.vec [] true,.val (.int .i64 1),.val (.int .i64 0)]] true).low=.vec [[.val (.bool false),.vec [] false,.vec [] false,.val (.int .i64 1),.val (.int .i64 0)],[.val (.bool false),.vec (lowLL (words (digs 2))) false,.vec [] false,.val (.int .i64 2),.val (.int .i64 0)],[.val (.bool true),.vec [] false,.vec [] false,.val (.int .i64 1),.val (.int .i64 0)]] false:=rfl
    rw [e,ZW] at this
    exact this
  · have := RenP.low (ρ := fun i => i) (D := fun _ => False) (.vec [[.vec (words (digs 4)) false, .vec (words (digs 2)) false]] true) (by
     show pureLL [[.vec (lowLL (words (digs 4))) false,.vec (lowLL (words (digs 2))) false]]
     rw [ZW,ZW]
     exact⟨⟨Za _,Za _,trivial⟩,trivial⟩)
    have e:(PV.vec [[.vec (words (digs 4)) false,.vec (words (digs 2)) false]] true).low=.vec [[.vec (lowLL (words (digs 4))) false,.vec (lowLL (words (digs 2))) false]] false:=rfl
    rw [e,ZW,ZW] at this
    exact this)) ?_
 refine gd 32 ⟨?_⟩
 refine ZF rfl rfl (Z3U Z7T (by decide) S 8 (by decide)) ⟨hpp0,trivial,trivial⟩ rfl ?_
 intro v hv
 cases hv with
 | no ks hk=>exact absurd able0 (hk.not_able Z7T)
 | lim hl=>exact absurd hl (by decide)
 | yes p hp hpl =>
   obtain⟨E,hrun,hre⟩:=hp
   have hE:InS t0 E:=(ZdK p .base hrun).inS Z7T
   have hlen:=Z9Y p
   refine gd 39 ⟨?_⟩
   refine Z4 (Z4Y Z7T S) rfl rfl rfl ⟨hpp0,trivial⟩ rfl ?_
   rw [tgt0]
   refine gd 45 ⟨?_⟩
   refine Zw (Z2q [2] 4 (by decide +kernel) true) rfl rfl rfl ⟨Zs _,trivial⟩ ?_
   refine gd 47 ⟨?_⟩
   refine Zw (Z2q [1] 2 (by decide +kernel) true) rfl rfl rfl ⟨Zs _,trivial⟩ ?_
   refine gd 49 ⟨?_⟩
   refine Zw (Z8D Z7T S (4,2) ⟨by decide,by decide⟩ (by decide) (fun _=>c42) 2) rfl rfl rfl ⟨hpp0,Zp _,trivial,trivial⟩ ?_
   rw [bf0]
   have hb6:=ZfB (S:=6) (by decide) (by decide)
   have hb4:=ZfB (S:=4) (by decide) (by decide)
   have hb64:=Z2S fun c hc=>((ZgI Z7T ZgM c42).1 c hc).1
   generalize bfL t0 ⟨true,(0,0),1,0⟩ (4,2)=L at hb6 hb4 hb64 ⊢
   refine gd 55 ⟨?_⟩
   refine Z4 (ZdR Z7T S p false (by omega) hrun) rfl rfl rfl ⟨hpp0,Z3E _,trivial⟩ rfl ?_
   refine gd 81 ⟨?_⟩
   refine Zn rfl ?_
   refine Z3 (Z8 (v:=false) rfl (by rw [hlen]; simp)) rfl rfl ?_
   refine gd 86 ⟨?_⟩
   refine Zn rfl ?_
   refine Z4 (Z9E Z7T S E (hE.lt (by decide))) rfl rfl rfl ⟨hpp0,Z1 _,trivial⟩ rfl ?_
   rw [hre]
   refine gd 98 ⟨?_⟩
   refine Zn rfl ?_
   refine Z4 (Zca (4,2) ⟨by decide,by decide⟩) rfl rfl rfl ⟨Zp _,trivial⟩ rfl ?_
   rw [text0]
   refine gd 99 ⟨?_⟩
   refine Zn rfl ?_
   refine Z3 (Z8 (v:=false) rfl (by simp)) rfl rfl ?_
   refine gd 104 ⟨?_⟩
   refine Zn rfl ?_
   refine Z4 (Z2q [1,2] 6 (by decide +kernel) true) rfl rfl rfl ⟨Zs _,trivial⟩ rfl ?_
   refine Zn rfl ?_
   refine Z4 (Z1c L false 6 hb64 (by decide)) rfl rfl rfl ⟨Z0 _,Z1 _,trivial⟩ rfl ?_
   rw [hb6]
   refine gd 111 ⟨?_⟩
   refine Zn rfl ?_
   refine Z4 (Z2q [2] 4 (by decide +kernel) true) rfl rfl rfl ⟨Zs _,trivial⟩ rfl ?_
   refine Zn rfl ?_
   refine Z4 (Z1c L false 4 hb64 (by decide)) rfl rfl rfl ⟨Z0 _,Z1 _,trivial⟩ rfl ?_
   rw [hb4]
   refine gd 115 ⟨?_⟩
   refine Z4 (Z2q [1,2] 6 (by decide +kernel) true) rfl rfl rfl ⟨Zs _,trivial⟩ rfl ?_
   refine gd 118 ⟨?_⟩
   refine Zb (Zb7 (k:=117) (q:=.vec ([((6,0):Cu)].map cuC) false) rfl (by
    have e:PV.vec ([((6,0):Cu)].map cuC) false=(PV.vec [[.vec (words (digs 6)) false,.vec [] true]] true).low:=by
     show PV.vec [[.vec (words (digs 6)) false,.vec (words (digs 0)) false]] false=PV.vec [[.vec (lowLL (words (digs 6))) false,.vec [] false]] false
     rw [ZW,h0]
    rw [e]
    refine .low _ ?_
    show (PV.vec [[.vec (words (digs 6)) false,.vec [] true]] true).low.pure
    rw [← e]
    exact Z0 _)) ?_
   refine gd 121 ⟨?_⟩
   refine ZF rfl rfl (Z3U Zcc (by decide) S 8 (by decide)) ⟨hpp1,trivial,trivial⟩ rfl ?_
   intro v hv
   cases hv with
   | lim hl=>exact absurd hl (by decide)
   | yes p hp hpl=>exact absurd (Z6a (hp.able Zcc)) (by decide)
   | no ks hk =>
     have s4:soC (kcs ks) 4=true:=(hk.able_iff Zcc (by show _ ||| 14=14; decide)).2 (.base (by show _ ||| 14=14; decide) (by unfold t1; rw [goodE (by decide)]; decide) (by unfold t1; rw [reachE (by decide)]; decide))
     have s2:soC (kcs ks) 2=false:=Bool.eq_false_iff.2 fun h=>absurd (Z6a ((hk.able_iff Zcc (by show _ ||| 14=14; decide)).1 h)) (by decide)
     have s0:soC (kcs ks) 0=false:=Bool.eq_false_iff.2 fun h=>absurd (Z6a ((hk.able_iff Zcc (by show _ ||| 14=14; decide)).1 h)) (by decide)
     have hk64:=hk.inv.c64
     refine gd 135 ⟨?_⟩
     refine Zn rfl ?_
     refine Z4 (Z2q [2] 4 (by decide +kernel) true) rfl rfl rfl ⟨Zs _,trivial⟩ rfl ?_
     refine Zn rfl ?_
     refine Z4 (Z1c (kcs ks) false 4 hk64 (by decide)) rfl rfl rfl ⟨Z0 _,Z1 _,trivial⟩ rfl ?_
     rw [s4]
     refine gd 141 ⟨?_⟩
     refine Zn rfl ?_
     refine Z4 (Z2q [1] 2 (by decide +kernel) true) rfl rfl rfl ⟨Zs _,trivial⟩ rfl ?_
     refine Zn rfl ?_
     refine Z4 (Z1c (kcs ks) false 2 hk64 (by decide)) rfl rfl rfl ⟨Z0 _,Z1 _,trivial⟩ rfl ?_
     rw [s2]
     refine gd 148 ⟨?_⟩
     refine Zn rfl ?_
     refine Zbt (Z1c (kcs ks) false 0 hk64 (by decide)) rfl rfl (by
      show [PV.vec (lowLL ((kcs ks).map cuC)) false,.agg [.vec [] false]] = [_,setN 0]
      rw [Z2Q,Zfz]) ⟨Z0 _,Z1 _,trivial⟩ rfl ?_
     rw [s0]
     refine go ?_
     exact Z6 rfl trivial rfl
def evS (i:Nat):List Nat:=(List.range i).map (2*·)
theorem Za5 (i:Nat):stL i=nsL (evS i):=by unfold stL nsL evS; rw [List.map_map]; rfl
theorem Z3h (i:Nat):(evS i).length=i:=by simp [evS]
theorem Za6 {n j:Nat} (h:j<(evS n).length):(evS n)[j]=2*j:=by simp [evS]
theorem Zb8 (j:Nat):evS (j+1)=evS j ++ [2*j]:=by unfold evS; rw [List.range_succ,List.map_append]; rfl
theorem ZfC (n:Nat):(evS n).Nodup:=by
 unfold evS
 rw [List.nodup_iff_pairwise_ne,List.pairwise_map]
 exact List.Pairwise.imp (fun h e=>h (by omega)) (List.nodup_iff_pairwise_ne.1 List.nodup_range)
theorem Zgf {n s:Nat}:s∈evS n↔s % 2=0∧s / 2<n:=by
 unfold evS
 rw [List.mem_map]
 constructor
 · rintro ⟨i, hi, rfl⟩
   rw [List.mem_range] at hi
   omega
 · intro h
   exact⟨s / 2,List.mem_range.2 h.2,by omega⟩
theorem Zb9 {t:PB} {s:Nat}:s∈evS (2 ^ t.n)↔InS t s:=by
 rw [Zgf]
 constructor
 · intro h
   have:s=2*(s / 2):=by omega
   rw [this]; exact Z66 h.2
 · exact Z2m
noncomputable def tgN (t:PB) (i:Nat):List Nat:=(evS i).filter fun s=>goodB t s&&reachB t s
theorem Zfe (t:PB) (j:Nat):tgN t (j+1)=tgN t j++if goodB t (2*j)&&reachB t (2*j) then [2*j] else []:=by
 unfold tgN
 rw [Zb8,List.filter_append]
 cases h:goodB t (2*j)&&reachB t (2*j)<;>simp [h]
theorem Zgg (t:PB) (i:Nat):(tgN t i).length≤i:=by
 have:=List.length_filter_le (fun s=>goodB t s&&reachB t s) (evS i)
 rw [Z3h] at this
 exact this
theorem Zff (t:PB):AbI t (tgN t (2 ^ t.n)):=by
 refine⟨(List.filter_sublist).nodup (ZfC _),fun s hs=>?_,fun s hs hg hr=>?_⟩
 · obtain ⟨h1, h2⟩ := List.mem_filter.1 hs
   rw [Bool.and_eq_true] at h2
   exact .base (Zb9.1 h1) h2.1 h2.2
 · exact List.mem_filter.2 ⟨Zb9.2 hs,by rw [hg,hr]; rfl⟩
set_option maxHeartbeats 4000000 in
theorem Z6i {t:PB} (h:PbOk t) (hn:t.n≤5):NSpec Tryz.prog 23 [.agg (pbR t)] .own ⟨1,nsL (tgN t (2 ^ t.n))⟩:=by
 have hpp:=Z1H t
 have h32:2 ^ t.n≤32:=Nat.pow_le_pow_right (n:=2) (by decide) hn
 have hs31:=h.n.2
 refine Z2M ok23 (Nat.le_of_ble_eq_true rfl) fun C hC=>?_
 refine Zk ?_
 refine Z9 ?_
 refine Z5 rfl rfl rfl ?_
 refine gd 7 ⟨?_⟩
 refine Z4 (Z3T hn) rfl rfl rfl ⟨hpp,trivial⟩ rfl ?_
 rw [Za5]
 repeat' (first|refine Zb (ZB (k:=3) rfl 1 (by decide)) ?_|(first|refine st ?_|(apply B<;>intro hb<;>try cases hb)))
 refine ZE hC (fun i=>i≤2 ^ t.n) (fun i=>2 ^ t.n-i) 1 (fun i => [(1,.cp (pbR t)),(3,.own 0),(7,.vec (nsL (evS (2 ^ t.n))) false),(8,.val (.int .i64 ((2 ^ t.n:Nat):Int))),(9,.val (.int .i64 (i:Int)))]) (fun i => [(0,⟨1,nsL (tgN t i)⟩)]) (Nat.zero_le _) 0 (Nat.zero_le _) (fun i=>i) (fun _ _=>rfl) Zi
  ⟨⟨_,rfl,.pure _ hpp⟩,⟨_,rfl,.own (ρ:=fun i=>i) 0 (by decide)⟩,⟨_,rfl,.pure _ (Zq _)⟩,⟨_,by show some _=some _; rw [Z3g,Z3h],.pure _ trivial⟩,⟨_,rfl,.pure _ trivial⟩,trivial⟩ ⟨⟨by decide,_,rfl,.same _ trivial⟩,trivial⟩ ?_
 intro i hi
 have hinc:IntKind.i64.wrap ((i:Int)+1)=((i+1:Nat):Int):=IntWalk.i64_in _ ⟨by omega,by omega⟩
 refine gd 10 ⟨?_⟩
 by_cases hil:i<2 ^ t.n
 · refine Z3 (Z8 (v := true) rfl (decide_eq_true (Int.ofNat_lt.2 hil))) rfl rfl ?_
   have hsn:=Zfe t i
   have hs:=(Z66 hil).lt h.n.2
   have htl:=Zgg t i
   refine gd 11 ⟨?_⟩
   refine Z3 (Zm (xs:=evS (2 ^ t.n)) (g:=u64C) rfl rfl i rfl (by rw [Z3h]; exact hil) rfl) rfl rfl ?_
   rw [Za6]
   generalize tgN t i=acc at hsn htl ⊢
   refine gd 15 ⟨?_⟩
   refine Z4 (Z2P h (2*i) hs) rfl rfl rfl ⟨hpp,trivial,trivial⟩ rfl ?_
   cases hg:goodB t (2*i)
   case false =>
    rw [hg,Bool.false_and,if_neg (by decide),List.append_nil] at hsn
    refine go ?_
    exact⟨i+1,fun i=>i,hil,by omega,fun _ _=>rfl,Zi,
     ⟨⟨_,rfl,.pure _ hpp⟩,⟨_,rfl,.own (ρ:=fun i=>i) 0 (by decide)⟩,⟨_,rfl,.pure _ (Zq _)⟩,⟨_,rfl,.pure _ trivial⟩,⟨_,by show some _=some _; rw [hinc],.pure _ trivial⟩,trivial⟩,⟨⟨by decide,_,rfl,by rw [hsn]; exact .same _ (Zq _)⟩,trivial⟩⟩
   refine gd 19 ⟨?_⟩
   refine Zn rfl ?_
   refine Z4 (Z8w h (2*i) hs) rfl rfl rfl ⟨hpp,trivial,trivial⟩ rfl ?_
   rw [hg,Bool.true_and] at hsn
   cases hr:reachB t (2*i)
   case false =>
    rw [hr,if_neg (by decide),List.append_nil] at hsn
    refine go ?_
    exact⟨i+1,fun i=>i,hil,by omega,fun _ _=>rfl,Zi,
     ⟨⟨_,rfl,.pure _ hpp⟩,⟨_,rfl,.own (ρ:=fun i=>i) 0 (by decide)⟩,⟨_,rfl,.pure _ (Zq _)⟩,⟨_,rfl,.pure _ trivial⟩,⟨_,by show some _=some _; rw [hinc],.pure _ trivial⟩,trivial⟩,⟨⟨by decide,_,rfl,by rw [hsn]; exact .same _ (Zq _)⟩,trivial⟩⟩
   rw [hr,if_pos rfl] at hsn
   refine gd 24 ⟨?_⟩
   refine ZA (Zr (k:=0) (m := [u64C (2*i)]) (fl:=true) rfl rfl rfl (fun q hq=>by rw [List.mem_singleton] at hq; subst hq; rfl) rfl (by
    show ((nsL acc).length+1)*8≤_
    rw [Z3g];omega)) rfl rfl ?_
   simp only
   rw [Zb6,← hsn]
   refine go ?_
   exact⟨i+1,mv 0 1,hil,by omega,fun i hi=>absurd hi (Nat.not_lt_zero i),Zy rfl,
    ⟨⟨_,rfl,.pure _ hpp⟩,⟨_,rfl,.own (ρ:=mv 0 1) 0 (by decide)⟩,⟨_,rfl,.pure _ (Zq _)⟩,⟨_,rfl,.pure _ trivial⟩,⟨_,by show some _=some _; rw [hinc],.pure _ trivial⟩,trivial⟩,⟨⟨by decide,_,rfl,.same _ (Zq _)⟩,trivial⟩⟩
 · refine Z3 (Z8 (v := false) rfl (decide_eq_false (by omega))) rfl rfl ?_
   have hie:i=2 ^ t.n:=by omega
   subst hie
   refine go ?_
   exact⟨_,_,rfl,.inl rfl,0,rfl,rfl⟩
set_option maxRecDepth 100000 in
set_option maxHeartbeats 8000000 in
theorem Z6c {t:PB} (h:PbOk t) (hn:t.n≤5):Spec Tryz.prog 35 [.agg (pbR t)] fun r=>∃ out:List Nat,out.Nodup∧(∀ s,s∈out↔Able t s)∧r=.vec (nsL out) false:=by
 have hpp:=Z1H t
 have hrb:=h.rl
 have hrl:=Z7K t.rs
 have h32:2 ^ t.n≤32:=Nat.pow_le_pow_right (n:=2) (by decide) hn
 refine Z2 ok35 (Nat.le_of_ble_eq_true rfl) fun C hC=>?_
 refine Zk ?_
 refine Z9 ?_
 refine Z5 rfl rfl rfl ?_
 refine gd 11 ⟨?_⟩
 refine Z7l (Z6i h hn) Z5n (Zq _) rfl rfl ⟨hpp,trivial⟩ ?_
 have hb:=Zff t
 generalize tgN t (2 ^ t.n)=o0 at hb ⊢
 refine go ?_
 refine ZE hC (fun (z:List Nat×Bool)=>AbI t z.1∧(z.2=false→∀ S,Able t S→S∈z.1)) (fun z=>2*(2 ^ t.n-z.1.length)+if z.2 then 1 else 0) 1 (fun z => [(1,.cp (pbR t)),(3,.own 0),(4,.val (.bool z.2))]) (fun z => [(0,⟨1,nsL z.1⟩)]) (Nat.zero_le _) (o0,true) ⟨hb,fun h=>by cases h⟩ (fun i=>i) (fun _ _=>rfl) Zi
  ⟨⟨_,rfl,.pure _ hpp⟩,⟨_,rfl,.own (ρ:=fun i=>i) 0 (by decide)⟩,⟨_,rfl,.pure _ trivial⟩,trivial⟩ ⟨⟨by decide,_,rfl,.same _ (Zq _)⟩,trivial⟩ ?_
 clear hb o0
 rintro⟨o0,more⟩ ⟨hb,hall⟩
 dsimp only at hb hall ⊢
 cases more
 case false =>
  repeat' (first|refine Zb (Zo (k:=3) rfl rfl (Zq _)) ?_|(first|refine st ?_|(apply B<;>intro hb<;>try cases hb)))
  exact Z6 rfl (Zq _) ⟨o0,hb.nd,fun s=>⟨hb.ab s,hall rfl s⟩,rfl⟩
 have hol0:=hb.len
 refine gd 14 ⟨?_⟩
 refine Z4 (Z3T hn) rfl rfl rfl ⟨hpp,trivial⟩ rfl ?_
 rw [Za5]
 refine go ?_
 refine ZE hC (fun (z:Nat×List Nat)=>z.1≤2 ^ t.n∧AbJ t o0 z.1 z.2) (fun z=>2 ^ t.n-z.1) 1 (fun z => [(1,.cp (pbR t)),(3,.own 0),(4,.val (.bool (decide (o0.length<z.2.length)))),(14,.vec (nsL (evS (2 ^ t.n))) false),(15,.val (.int .i64 ((2 ^ t.n:Nat):Int))),(16,.val (.int .i64 (z.1:Int)))]) (fun z => [(0,⟨1,nsL z.2⟩)]) (Nat.zero_le _) (0,o0) ⟨Nat.zero_le _,hb.begin⟩ (fun i=>i) (fun _ _=>rfl) Zi
  ⟨⟨_,rfl,.pure _ hpp⟩,⟨_,rfl,.own (ρ:=fun i=>i) 0 (by decide)⟩,⟨_,by show some _=some _; rw [decide_eq_false (Nat.lt_irrefl _)],.pure _ trivial⟩,⟨_,rfl,.pure _ (Zq _)⟩,⟨_,by show some _=some _; rw [Z3g,Z3h],.pure _ trivial⟩,⟨_,rfl,.pure _ trivial⟩,trivial⟩ ⟨⟨by decide,_,rfl,.same _ (Zq _)⟩,trivial⟩ ?_
 rintro⟨i,out⟩ ⟨hi,hj⟩
 dsimp only at hi hj ⊢
 have hinc:IntKind.i64.wrap ((i:Int)+1)=((i+1:Nat):Int):=IntWalk.i64_in _ ⟨by omega,by omega⟩
 have hol:=hj.inv.len
 have hop:=hj.pre.length_le
 refine gd 17 ⟨?_⟩
 by_cases hil:i<2 ^ t.n
 case neg =>
  refine Z3 (Z8 (v:=false) rfl (decide_eq_false (by omega))) rfl rfl ?_
  refine go ?_
  refine⟨(out,decide (o0.length<out.length)),fun i=>i,⟨hj.inv,fun hd S hS=>hj.all (by omega) (by have:=of_decide_eq_false hd;omega) hS⟩,?_,fun _ _=>rfl,Zi,
   ⟨⟨_,rfl,.pure _ hpp⟩,⟨_,rfl,.own (ρ:=fun i=>i) 0 (by decide)⟩,⟨_,rfl,.pure _ trivial⟩,trivial⟩,⟨⟨by decide,_,rfl,.same _ (Zq _)⟩,trivial⟩⟩
  show 2*(2 ^ t.n-out.length)+(if decide (o0.length<out.length)=true then 1 else 0)<2*(2 ^ t.n-o0.length)+1
  by_cases hd:o0.length<out.length
  · rw [decide_eq_true hd,if_pos rfl]; omega
  · rw [decide_eq_false hd,if_neg (by decide)]; omega
 refine Z3 (Z8 (v:=true) rfl (decide_eq_true (Int.ofNat_lt.2 hil))) rfl rfl ?_
 have hs:=(Z66 hil).lt h.n.2
 refine gd 18 ⟨?_⟩
 refine Z3 (Zm (xs:=evS (2 ^ t.n)) (g:=u64C) rfl rfl i rfl (by rw [Z3h]; exact hil) rfl) rfl rfl ?_
 rw [Za6]
 refine gd 22 ⟨?_⟩
 refine Z4 (Z2P h (2*i) hs) rfl rfl rfl ⟨hpp,trivial,trivial⟩ rfl ?_
 cases hg:goodB t (2*i)
 case false =>
  refine go ?_
  exact⟨(i+1,out),fun i=>i,⟨hil,hj.skip (.inl hg)⟩,by show 2 ^ t.n-(i+1)<2 ^ t.n-i; omega,fun _ _=>rfl,Zi,
   ⟨⟨_,rfl,.pure _ hpp⟩,⟨_,rfl,.own (ρ:=fun i=>i) 0 (by decide)⟩,⟨_,rfl,.pure _ trivial⟩,⟨_,rfl,.pure _ (Zq _)⟩,⟨_,rfl,.pure _ trivial⟩,⟨_,by show some _=some _; rw [hinc],.pure _ trivial⟩,trivial⟩,⟨⟨by decide,_,rfl,.same _ (Zq _)⟩,trivial⟩⟩
 refine gd 27 ⟨?_⟩
 refine Zn rfl ?_
 refine Z7m (i:=0) (Z4t out false (2*i) (by omega)) rfl rfl rfl rfl rfl (Zq _) ⟨Zq _,trivial,trivial⟩ ?_
 by_cases him:2*i∈out
 · rw [decide_eq_true him]
   refine go ?_
   exact⟨(i+1,out),fun i=>i,⟨hil,hj.skip (.inr him)⟩,by show 2 ^ t.n-(i+1)<2 ^ t.n-i; omega,fun _ _=>rfl,Zi,
    ⟨⟨_,rfl,.pure _ hpp⟩,⟨_,rfl,.own (ρ:=fun i=>i) 0 (by decide)⟩,⟨_,rfl,.pure _ trivial⟩,⟨_,rfl,.pure _ (Zq _)⟩,⟨_,rfl,.pure _ trivial⟩,⟨_,by show some _=some _; rw [hinc],.pure _ trivial⟩,trivial⟩,⟨⟨by decide,_,rfl,.same _ (Zq _)⟩,trivial⟩⟩
 rw [decide_eq_false him]
 refine go ?_
 refine ZE hC (fun (z:Nat×List Nat)=>z.1≤t.rs.length∧AbK t o0 i z.1 z.2) (fun z=>t.rs.length-z.1) 1 (fun z => [(1,.cp (pbR t)),(3,.own 0),(4,.val (.bool (decide (o0.length<z.2.length)))),(6,.val (.int .u64 ((2*i:Nat):Int))),(14,.vec (nsL (evS (2 ^ t.n))) false),(15,.val (.int .i64 ((2 ^ t.n:Nat):Int))),(16,.val (.int .i64 (i:Int))),(31,.val (.int .i64 (t.rs.length:Int))),(32,.val (.int .i64 (z.1:Int)))]) (fun z => [(0,⟨1,nsL z.2⟩)]) (Nat.zero_le _) (0,out) ⟨Nat.zero_le _,hj.begin⟩ (fun i=>i) (fun _ _=>rfl) Zi
  ⟨⟨_,rfl,.pure _ hpp⟩,⟨_,rfl,.own (ρ:=fun i=>i) 0 (by decide)⟩,⟨_,rfl,.pure _ trivial⟩,⟨_,rfl,.pure _ trivial⟩,⟨_,rfl,.pure _ (Zq _)⟩,⟨_,rfl,.pure _ trivial⟩,⟨_,rfl,.pure _ trivial⟩,⟨_,by rw [← hrl]; rfl,.pure _ trivial⟩,⟨_,rfl,.pure _ trivial⟩,trivial⟩ ⟨⟨by decide,_,rfl,.same _ (Zq _)⟩,trivial⟩ ?_
 clear hj hol hop him out
 rintro⟨k,out⟩ ⟨hk,hj⟩
 dsimp only at hk hj ⊢
 have hkinc:IntKind.i64.wrap ((k:Int)+1)=((k+1:Nat):Int):=IntWalk.i64_in _ ⟨by omega,by omega⟩
 have hol:=hj.j.inv.len
 have hop:=hj.j.pre.length_le
 refine gd 33 ⟨?_⟩
 by_cases hkl:k<t.rs.length
 case neg =>
  refine Z3 (Z8 (v:=false) rfl (decide_eq_false (by omega))) rfl rfl ?_
  refine go ?_
  exact⟨(i+1,out),fun i=>i,⟨hil,hj.done (by omega)⟩,by show 2 ^ t.n-(i+1)<2 ^ t.n-i; omega,fun _ _=>rfl,Zi,
   ⟨⟨_,rfl,.pure _ hpp⟩,⟨_,rfl,.own (ρ:=fun i=>i) 0 (by decide)⟩,⟨_,rfl,.pure _ trivial⟩,⟨_,rfl,.pure _ (Zq _)⟩,⟨_,rfl,.pure _ trivial⟩,⟨_,by show some _=some _; rw [hinc],.pure _ trivial⟩,trivial⟩,⟨⟨by decide,_,rfl,.same _ (Zq _)⟩,trivial⟩⟩
 refine Z3 (Z8 (v:=true) rfl (decide_eq_true (Int.ofNat_lt.2 hkl))) rfl rfl ?_
 have hxk:=List.getElem?_eq_getElem hkl
 have hst:=Za4 h (2*i) hs k hkl
 generalize t.rs[k]=x at hxk hst
 refine gd 39 ⟨?_⟩
 refine Z4 hst rfl rfl rfl ⟨hpp,trivial,trivial,trivial⟩ rfl ?_
 cases hsx:stepR t x (2*i)
 case false =>
  refine go ?_
  exact⟨(k+1,out),fun i=>i,⟨hkl,hj.skip hxk (.inl hsx)⟩,by show t.rs.length-(k+1)<t.rs.length-k; omega,fun _ _=>rfl,Zi,
   ⟨⟨_,rfl,.pure _ hpp⟩,⟨_,rfl,.own (ρ:=fun i=>i) 0 (by decide)⟩,⟨_,rfl,.pure _ trivial⟩,⟨_,rfl,.pure _ trivial⟩,⟨_,rfl,.pure _ (Zq _)⟩,⟨_,rfl,.pure _ trivial⟩,⟨_,rfl,.pure _ trivial⟩,⟨_,rfl,.pure _ trivial⟩,⟨_,by show some _=some _; rw [hkinc],.pure _ trivial⟩,trivial⟩,⟨⟨by decide,_,rfl,.same _ (Zq _)⟩,trivial⟩⟩
 have hstn:stepN t x (2*i) true=.tup [.val (.int .u64 ((nextR x (2*i):Nat):Int)),.val (.bool true)]:=rfl
 rw [hstn]
 refine gd 46 ⟨?_⟩
 refine Zn rfl ?_
 refine Z7m (i:=0) (Z4t out false (nextR x (2*i)) (by omega)) rfl rfl rfl rfl rfl (Zq _) ⟨Zq _,trivial,trivial⟩ ?_
 by_cases hnm:nextR x (2*i)∈out
 case neg =>
  rw [decide_eq_false hnm]
  refine go ?_
  exact⟨(k+1,out),fun i=>i,⟨hkl,hj.skip hxk (.inr (.inl hnm))⟩,by show t.rs.length-(k+1)<t.rs.length-k; omega,fun _ _=>rfl,Zi,
   ⟨⟨_,rfl,.pure _ hpp⟩,⟨_,rfl,.own (ρ:=fun i=>i) 0 (by decide)⟩,⟨_,rfl,.pure _ trivial⟩,⟨_,rfl,.pure _ trivial⟩,⟨_,rfl,.pure _ (Zq _)⟩,⟨_,rfl,.pure _ trivial⟩,⟨_,rfl,.pure _ trivial⟩,⟨_,rfl,.pure _ trivial⟩,⟨_,by show some _=some _; rw [hkinc],.pure _ trivial⟩,trivial⟩,⟨⟨by decide,_,rfl,.same _ (Zq _)⟩,trivial⟩⟩
 rw [decide_eq_true hnm]
 refine gd 51 ⟨?_⟩
 refine Zn rfl ?_
 refine Z7m (i:=0) (Z4t out false (2*i) (by omega)) rfl rfl rfl rfl rfl (Zq _) ⟨Zq _,trivial,trivial⟩ ?_
 by_cases him:2*i∈out
 · rw [decide_eq_true him]
   refine go ?_
   exact⟨(k+1,out),fun i=>i,⟨hkl,hj.skip hxk (.inr (.inr him))⟩,by show t.rs.length-(k+1)<t.rs.length-k; omega,fun _ _=>rfl,Zi,
    ⟨⟨_,rfl,.pure _ hpp⟩,⟨_,rfl,.own (ρ:=fun i=>i) 0 (by decide)⟩,⟨_,rfl,.pure _ trivial⟩,⟨_,rfl,.pure _ trivial⟩,⟨_,rfl,.pure _ (Zq _)⟩,⟨_,rfl,.pure _ trivial⟩,⟨_,rfl,.pure _ trivial⟩,⟨_,rfl,.pure _ trivial⟩,⟨_,by show some _=some _; rw [hkinc],.pure _ trivial⟩,trivial⟩,⟨⟨by decide,_,rfl,.same _ (Zq _)⟩,trivial⟩⟩
 rw [decide_eq_false him]
 refine gd 57 ⟨?_⟩
 refine ZA (Zr (k:=0) (m := [u64C (2*i)]) (fl:=true) rfl rfl rfl (fun q hq=>by rw [List.mem_singleton] at hq; subst hq; rfl) rfl (by
  show ((nsL out).length+1)*8≤_
  rw [Z3g];omega)) rfl rfl ?_
 simp only
 rw [Zb6]
 refine go ?_
 exact⟨(k+1,out ++ [2*i]),mv 0 1,⟨hkl,hj.add hil hg hxk hsx hnm him⟩,by show t.rs.length-(k+1)<t.rs.length-k; omega,fun i hi=>absurd hi (Nat.not_lt_zero i),Zy rfl,
  ⟨⟨_,rfl,.pure _ hpp⟩,⟨_,rfl,.own (ρ:=mv 0 1) 0 (by decide)⟩,⟨_,by show some _=some _; rw [decide_eq_true (show o0.length<(out ++ [2*i]).length by rw [List.length_append,List.length_singleton];omega)],.pure _ trivial⟩,⟨_,rfl,.pure _ trivial⟩,⟨_,rfl,.pure _ (Zq _)⟩,⟨_,rfl,.pure _ trivial⟩,⟨_,rfl,.pure _ trivial⟩,⟨_,rfl,.pure _ trivial⟩,⟨_,by show some _=some _; rw [hkinc],.pure _ trivial⟩,trivial⟩,⟨⟨by decide,_,rfl,.same _ (Zq _)⟩,trivial⟩⟩
theorem Zcd {t:PB} (h:PbOk t) (hn:t.n≤5) (s:Nat):Spec Tryz.prog 34 [.agg (pbR t),.val (.int .u64 (s:Int))] fun r=>∃ b:Bool,(b=true↔Able t s)∧r=.val (.bool b):=by
 have hpp:=Z1H t
 have h32:2 ^ t.n≤32:=Nat.pow_le_pow_right (n:=2) (by decide) hn
 refine Z2 ok34 (Nat.le_of_ble_eq_true rfl) fun C hC=>?_
 refine Zk ?_
 refine Z9 ?_
 refine Z5 rfl rfl rfl ?_
 refine gd 6 ⟨?_⟩
 refine ZF rfl rfl (Z6c h hn) ⟨hpp,trivial⟩ rfl ?_
 rintro r ⟨out,h1,h2,rfl⟩
 have hl:out.length≤2 ^ t.n:=Z9X h1 fun s hs=>((h2 s).1 hs).good.1
 refine gd 8 ⟨?_⟩
 refine Z4 (Z4t out false s (by omega)) rfl rfl rfl ⟨Zq _,trivial,trivial⟩ rfl ?_
 by_cases hm:s∈out
 · rw [decide_eq_true hm]
   refine go ?_
   exact Z6 rfl trivial ⟨true,⟨fun _=>(h2 s).1 hm,fun _=>rfl⟩,rfl⟩
 · rw [decide_eq_false hm]
   refine go ?_
   exact Z6 rfl trivial ⟨false,⟨fun h=>(by cases h),fun h=>absurd ((h2 s).2 h) hm⟩,rfl⟩
noncomputable def ckN (t:PB) (l:List Cu) (i:Nat):List Nat:=(evS i).filter fun s=>goodB t s&&soC l s
theorem Zfg (t:PB) (l:List Cu) (j:Nat):(ckN t l (j+1)).length=(ckN t l j).length+if goodB t (2*j)&&soC l (2*j) then 1 else 0:=by
 unfold ckN
 rw [Zb8,List.filter_append,List.length_append]
 cases h:goodB t (2*j)&&soC l (2*j)<;>simp [h]
theorem Zgh (t:PB) (l:List Cu) (i:Nat):(ckN t l i).length≤i:=by
 have:=List.length_filter_le (fun s=>goodB t s&&soC l s) (evS i)
 rw [Z3h] at this
 exact this
theorem Zgi {t:PB} (h:PbOk t) {ks:List KE} (hk:NotFound t ks) {out:List Nat} (h1:out.Nodup) (h2:∀ s,s∈out↔Able t s):(ckN t (kcs ks) (2 ^ t.n)).length=out.length:=by
 have hn:(ckN t (kcs ks) (2 ^ t.n)).Nodup:=(List.filter_sublist).nodup (ZfC _)
 refine ((List.perm_ext_iff_of_nodup hn h1).2 fun s=>?_).length_eq
 rw [h2 s]
 unfold ckN
 rw [List.mem_filter,Bool.and_eq_true]
 constructor
 · rintro ⟨a, b, c⟩
   exact (hk.able_iff h (Zb9.1 a)).1 c
 · intro ha
   have hS:=ha.good
   exact⟨Zb9.2 hS.1,hS.2,(hk.able_iff h hS.1).2 ha⟩
set_option maxRecDepth 100000 in
set_option maxHeartbeats 8000000 in
theorem Z4L (p:List Nat) (fl:Bool) (hp:Bytes p):Spec Tryz.prog 7 [.vec (bys p) fl] (· = .val (.bool true)):=by
 refine Z2 ok7 (Nat.le_of_ble_eq_true rfl) fun C hC=>?_
 refine gd 16 ⟨?_⟩
 refine Z4 Z8H rfl rfl rfl trivial rfl ?_
 refine gd 20 ⟨?_⟩
 refine ZF rfl rfl (ZbX p fl hp) ⟨Z7C p,trivial⟩ rfl ?_
 rintro r ⟨t,S,hmk,rfl⟩
 have h:=hmk.ok
 have hn:=hmk.n.2
 have hpp:=Z1h t S
 have hpr:=Z1H t
 have hp1:∀ D,innLL D [pbP t S]:=fun D=>Zh (fun _ h=>h.elim) _ ⟨hpp,trivial⟩
 have hp2:∀ D,innLL D [pbR t]:=fun D=>Zh (fun _ h=>h.elim) _ ⟨hpr,trivial⟩
 have h32:2 ^ t.n≤32:=Nat.pow_le_pow_right (n:=2) (by decide) hn
 refine gd 26 ⟨?_⟩
 refine ZF rfl rfl (Z3U h hn S 64 (by decide)) ⟨hpp,trivial,trivial⟩ rfl ?_
 intro v hv
 cases hv with
 | lim hl=>exact absurd hl (by omega)
 | yes q hq hql =>
   have hab:=hq.able h
   refine gd 41 ⟨?_⟩
   refine ZF rfl rfl (Zcd h hn t.st) ⟨hpr,trivial,trivial⟩ rfl ?_
   rintro r ⟨b,hb,rfl⟩
   obtain rfl:=hb.2 hab
   refine go ?_
   exact Z6 rfl trivial rfl
 | no ks hk =>
   have hk64:=hk.inv.c64
   have hcl:∀ D,innLL D ((kcs ks).map cuC):=fun D=>Zh (fun _ h=>h.elim) _ (Z0 _)
   have hev:∀ D,innLL D (nsL (evS (2 ^ t.n))):=fun D=>Zh (fun _ h=>h.elim) _ (Zq _)
   refine gd 43 ⟨?_⟩
   refine ZF rfl rfl (Z6c h hn) ⟨hpr,trivial⟩ rfl ?_
   rintro r ⟨out,h1,h2,rfl⟩
   have hol:out.length≤2 ^ t.n:=Z9X h1 fun s hs=>((h2 s).1 hs).good.1
   have hout:∀ D,innLL D (nsL out):=fun D=>Zh (fun _ h=>h.elim) _ (Zq _)
   have hall:=Zgi h hk h1 h2
   refine gd 45 ⟨?_⟩
   refine Z4 (Z3T hn) rfl rfl rfl ⟨hpr,trivial⟩ rfl ?_
   rw [Za5]
   refine go ?_
   refine ZD hC (fun i=>i≤2 ^ t.n) (fun i=>2 ^ t.n-i) 2 (fun i => [(4,.ptr 1 0 0),(7,.vec ((kcs ks).map cuC) false),(10,.vec (nsL out) false),(11,.val (.int .i64 ((ckN t (kcs ks) i).length:Int))),(45,.vec (nsL (evS (2 ^ t.n))) false),(46,.val (.int .i64 ((2 ^ t.n:Nat):Int))),(47,.val (.int .i64 (i:Int)))]) (fun _ => [(1,⟨6,[pbR t]⟩)]) (Nat.zero_le _) 0 (Nat.zero_le _)
    ⟨⟨rfl,show (1:Nat)<2 by decide⟩,⟨rfl,hcl _⟩,⟨rfl,hout _⟩,⟨rfl,trivial⟩,⟨rfl,hev _⟩,⟨by show some _=some _; rw [Z3g,Z3h],trivial⟩,⟨rfl,trivial⟩,trivial⟩ ⟨⟨by decide,rfl,hp2 _⟩,trivial⟩ ?_
   intro i hi
   have hinc:IntKind.i64.wrap ((i:Int)+1)=((i+1:Nat):Int):=IntWalk.i64_in _ ⟨by omega,by omega⟩
   have htl:=Zgh t (kcs ks) i
   refine gd 48 ⟨?_⟩
   by_cases hil:i<2 ^ t.n
   · refine Z3 (Z8 (v := true) rfl (decide_eq_true (Int.ofNat_lt.2 hil))) rfl rfl ?_
     have hs:=Z66 hil
     have hs64:=hs.lt h.n.2
     have hsn:=Zfg t (kcs ks) i
     generalize (ckN t (kcs ks) i).length=c at hsn htl ⊢
     have hcinc:IntKind.i64.wrap ((c:Int)+1)=((c+1:Nat):Int):=IntWalk.i64_in _ ⟨by omega,by omega⟩
     refine gd 49 ⟨?_⟩
     refine Z3 (Zm (xs:=evS (2 ^ t.n)) (g:=u64C) rfl rfl i rfl (by rw [Z3h]; exact hil) rfl) rfl rfl ?_
     rw [Za6]
     refine gd 53 ⟨?_⟩
     refine Z4 (Z2P h (2*i) hs64) rfl rfl rfl ⟨hpr,trivial,trivial⟩ rfl ?_
     cases hg:goodB t (2*i)
     case false =>
      rw [hg,Bool.false_and] at hsn
      refine go ?_
      exact⟨i+1,hil,by omega,⟨⟨rfl,show (1:Nat)<2 by decide⟩,⟨rfl,hcl _⟩,⟨rfl,hout _⟩,⟨by show some _=some _; rw [hsn]; rfl,trivial⟩,⟨rfl,hev _⟩,⟨rfl,trivial⟩,⟨by show some _=some _; rw [hinc],trivial⟩,trivial⟩,⟨⟨by decide,rfl,hp2 _⟩,trivial⟩⟩
     rw [hg,Bool.true_and] at hsn
     refine gd 57 ⟨?_⟩
     refine Zn rfl ?_
     refine Z4 (Z2y (2*i) hs64) rfl rfl rfl ⟨trivial,trivial⟩ rfl ?_
     refine Zn rfl ?_
     refine Z4 (Z1c (kcs ks) false (2*i) hk64 hs64) rfl rfl rfl ⟨Z0 _,Z1 _,trivial⟩ rfl ?_
     cases hso:soC (kcs ks) (2*i)
     all_goals
      rw [hso] at hsn
      refine go ?_
      exact⟨i+1,hil,by omega,⟨⟨rfl,show (1:Nat)<2 by decide⟩,⟨rfl,hcl _⟩,⟨rfl,hout _⟩,⟨by show some _=some _; rw [hsn]; first|rfl|rw [hcinc]; rfl,trivial⟩,⟨rfl,hev _⟩,⟨rfl,trivial⟩,⟨by show some _=some _; rw [hinc],trivial⟩,trivial⟩,⟨⟨by decide,rfl,hp2 _⟩,trivial⟩⟩
   · refine Z3 (Z8 (v := false) rfl (decide_eq_false (by omega))) rfl rfl ?_
     have hie:i=2 ^ t.n:=by omega
     rw [hie,hall]
     refine go ?_
     refine ZD hC (fun i=>i≤out.length) (fun i=>out.length-i) 2 (fun i => [(7,.vec ((kcs ks).map cuC) false),(10,.vec (nsL out) false),(11,.val (.int .i64 (out.length:Int))),(63,.vec (nsL out) false),(64,.val (.int .i64 (out.length:Int))),(65,.val (.int .i64 (i:Int)))]) (fun _=>[]) (Nat.zero_le _) 0 (Nat.zero_le _)
      ⟨⟨rfl,hcl _⟩,⟨rfl,hout _⟩,⟨rfl,trivial⟩,⟨rfl,hout _⟩,⟨by rw [← Z3g]; rfl,trivial⟩,⟨rfl,trivial⟩,trivial⟩ trivial ?_
     intro j hj
     have hjnc:IntKind.i64.wrap ((j:Int)+1)=((j+1:Nat):Int):=IntWalk.i64_in _ ⟨by omega,by omega⟩
     refine gd 66 ⟨?_⟩
     by_cases hjl:j<out.length
     · refine Z3 (Z8 (v := true) rfl (decide_eq_true (Int.ofNat_lt.2 hjl))) rfl rfl ?_
       have hm:=(h2 _).1 (List.getElem_mem hjl)
       refine gd 67 ⟨?_⟩
       refine Z3 (Zm (xs:=out) (g:=u64C) rfl rfl j rfl hjl rfl) rfl rfl ?_
       generalize out[j]=s at hm ⊢
       have hs:=hm.good.1
       have hs64:=hs.lt h.n.2
       have hso:=(hk.able_iff h hs).2 hm
       refine gd 71 ⟨?_⟩
       refine Z4 (Z2y s hs64) rfl rfl rfl ⟨trivial,trivial⟩ rfl ?_
       refine Z4 (Z1c (kcs ks) false s hk64 hs64) rfl rfl rfl ⟨Z0 _,Z1 _,trivial⟩ rfl ?_
       rw [hso]
       refine go ?_
       exact⟨j+1,hjl,by omega,⟨⟨rfl,hcl _⟩,⟨rfl,hout _⟩,⟨rfl,trivial⟩,⟨rfl,hout _⟩,⟨rfl,trivial⟩,⟨by show some _=some _; rw [hjnc],trivial⟩,trivial⟩,trivial⟩
     · refine Z3 (Z8 (v := false) rfl (decide_eq_false (by omega))) rfl rfl ?_
       refine gd 78 ⟨?_⟩
       refine Z3 (Z8 (v:=true) rfl (by rw [Z3g]; simp)) rfl rfl ?_
       refine go ?_
       exact Z6 rfl trivial rfl
end Go.Proofs.YthgklpbcmbmmcaaGreatDoor
namespace Go.Proofs.YthgklpbcmbmmcaaGreatDoor
open Go.ChangeShapes Go.WideShapes Go.ChangeAt Go.RowKit
theorem Zba {α:Type} {enc:α→List PV} {Q:α→Prop}:∀ {ll:List (List PV)},(∀ l∈ll,∃ x,Q x∧l=enc x)→∃ xs:List α,(∀ x∈xs,Q x)∧ll=xs.map enc
 | [],_=>⟨[],fun _ h=>(by cases h),rfl⟩
 | l :: ll, h => by
   obtain⟨x,h1,rfl⟩:=h l (List.mem_cons_self ..)
   obtain⟨xs,h2,rfl⟩:=Zba fun l hl=>h l (List.mem_cons_of_mem _ hl)
   refine⟨x :: xs,fun y hy=>?_,rfl⟩
   rcases List.mem_cons.1 hy with rfl|hy
   · exact h1
   · exact h2 y hy
theorem Za8 {P:Program} {s:TypeId}:∀ {ps:List PV},ShapeVs P [s] ps→∃ a,ps = [a]∧ShapeV P s a
 | [a],⟨h,_⟩=>⟨a,rfl,h⟩
theorem ZgN {m:Int} (h:(Lit.int .u8 m).wf=true):∃ a:Nat,a<256∧m=(a:Int):=by
 simp only [Lit.wf,Bool.and_eq_true,decide_eq_true_eq] at h
 obtain⟨h1,h2⟩:=h
 have h3:m≤255:=h2
 have h4:0≤m:=h1
 exact⟨m.toNat,by omega,by omega⟩
theorem Zfh {n:Nat} {l:List PV} (h:Shape Tryz.prog n 5 l):∃ x:Nat,x≤255∧l = [PV.val (.int .u8 (x:Int))]:=by
 obtain⟨m1,w1,e1⟩:=ZdU h (k:=.u8) (by kernel_rfl)
 obtain⟨x,hx,rfl⟩:=ZgN w1
 exact⟨x,by omega,e1⟩
theorem Za9 {p:PV} (h:ShapeV Tryz.prog 22 p):∃ (l:List Nat) (fl:Bool),Bytes l∧p=.vec (bys l) fl:=by
 obtain⟨n,ll,fl,_,h2,rfl⟩:=Z8I h (e:=5) (by kernel_rfl)
 obtain⟨xs,h3,rfl⟩:=Zba (enc:=fun (x:Nat) => [PV.val (.int .u8 (x:Int))]) (Q:=fun (x:Nat)=>x≤255) fun l hl=>Zfh (h2 l hl)
 exact⟨xs,fl,h3,rfl⟩
theorem Z4w:∀ ps,ShapeVs Tryz.prog Tryz.f7.params.toList ps→pureL ps→Spec Tryz.prog 7 ps (· = .val (.bool true)):=by
 intro ps hs hp
 rw [show Tryz.f7.params.toList = [22] by kernel_rfl] at hs
 obtain⟨a,rfl,k0⟩:=Za8 hs
 obtain⟨x0,f0,h0,rfl⟩:=Za9 k0
 exact Z4L x0 f0 h0
set_option maxRecDepth 100000 in
theorem Z3F (os:Os) (started:os.Started) (H:Type) (enc:TypeId×Value→H) :
 ReturnsInHanded {} Tryz.checked os 7 .any (fun w args=>(Rows.backwardCubesSpec.pre enc Tryz.prog Tryz.f7 [] false w args∧laidMetH Tryz.prog laidV w)∧sizedMet enc Tryz.prog Tryz.f7 (OpenSpec.ofChange Rows.backwardCubesSpec) false w args)
  (Rows.backwardCubesSpec.post enc Tryz.prog Tryz.f7 false true false false):=by
 refine returnsInHanded_of_change_and (C:=Tryz.checked) (X:=fun w _=>laidMetH Tryz.prog laidV w) (fun _ _ _ hh h=>h.of_heap hh) own started (by kernel_rfl) Tryz.func7
  (ChangeSpec.witness_shaped (enc:=enc) (C:=Tryz.checked) (os:=os) (X:=fun w _=>laidMetH Tryz.prog laidV w) false (World.doorLaid Tryz.prog 400 os) #[.slice none 0 0] 8 rfl (World.shaped_of_RefB (by kernel_rfl) (by kernel_rfl)) (by kernel_rfl) (by kernel_rfl) (by kernel_rfl) (Zei os _)) ?_
 intro W base args ds gs before hval hW _ hwt hL _
 exact Z89 (P:=Tryz.prog) (G:=partsG Tryz.prog Tryz.f7.params.toList) (by kernel_rfl) (Zgo (by kernel_rfl)) laidOut (ZcK (by kernel_rfl)) (tb:=4) (by kernel_rfl) (by kernel_rfl) rfl (fun ds hd=>by
  match ds,hd with
  | [a],_=>exact⟨rfl,rfl,rfl⟩) Z4w W (Zek hL) base args ds gs before hval hW hwt
theorem Z3W:Rows.BackwardCubesSaid :=
 OpenClaim.holds_of_wide 7 Tryz.f7 rfl rfl rfl rfl rfl rfl rfl ⟨rfl,rfl,rfl,rfl,rfl⟩ rfl rfl rfl rfl rfl (by kernel_rfl) Tryz.func7 (by kernel_rfl)
  (of_decide_eq_true (by kernel_rfl)) (by unfold Func.isWrapper; first|(rw [if_pos (by decide +kernel)]; kernel_rfl)|(rw [if_neg (by decide +kernel)]; exact⟨rfl,rfl⟩))
  (fun os started H enc _=>Z3F os started H enc)
theorem backwardCubes_card:Rows.BackwardCubesCardSaid :=
 Claim7.holds_tied_plain_at .later [] [.data,.data,.data] true (true, "014fd6b22e4042236147d53ae712baa1ad29d63ef9f6a0c47d7df3ac22154ff4") false
  Z3W (fun _ h=>by cases h) (by kernel_rfl) (fun _ h=>by cases h) backwardCubes_row_tie rfl ⟨rfl,rfl⟩ (by kernel_rfl) rfl
  (fun f fn hf hfn => by
    obtain rfl : f = 7 := Option.some.inj ((show Tryz.prog.funcNamed "arbac/arbaclaw34.BackwardCubes" = some 7 by kernel_rfl).symm.trans hf) |>.symm
    obtain rfl:fn=Tryz.f7:=(Option.some.inj (Tryz.func7.symm.trans hfn)).symm
    exact⟨by kernel_rfl,fun j t ht=>by
     rw [show Tryz.f7.params = #[22] by kernel_rfl] at ht
     have hm:t∈[22]:=by simpa using Array.mem_of_getElem? ht
     have hall:([22].all fun u => !Tryz.prog.wantsStandIn u)=true:=by kernel_rfl
     exact (show Tryz.prog.wantsStandIn t=false by simpa using List.all_eq_true.1 hall t hm)⟩)
  (by kernel_rfl)
#print axioms backwardCubes_card
end Go.Proofs.YthgklpbcmbmmcaaGreatDoor
