/-
 Proved: for every input the law SafetyDecides returns true,never panics,and leaves its arguments as0 they were,on the given card's conditions (the table of the bits package reads as0 the program's text lays it,and is tied to it).
-/
import Derived.Laws.BitsAllLaws
import Derived.SevenTiedAt
import Derived.Test.YtofglfpgfdahaaaGreatDoorCards
import Derived.Test.YtofglfpgfdahaaaGreatDoorTie
import Derived.Test.YtofglfpgfdahaaaGreatDoorMq5
set_option linter.unusedSimpArgs false
set_option linter.unusedVariables false
set_option linter.unusedSectionVars false
set_option maxRecDepth 100000
set_option maxHeartbeats 16000000
namespace Go.Proofs.YtofglfpgfdahaaaGreatDoor
section
open Go.RowKit
attribute [local irreducible] aw Xm dK
theorem X2H.len {t:PB} {ks:List KE} (hk:X23 t ks) {i:Nat} {p:List Nat} (hp:X2H ks i p):p.length<=i:=by
 induction hp with
 | stop _ _=>exact Y0l _
 | step he hr _ ih =>
   rcases hk.how _ _ he with h4|⟨r',to',x,e',h4,h5,h6,h7,h8⟩
   . rw [hr] at h4; simp only at h4; omega
   . rw [hr] at h4;obtain⟨h41,h42⟩:=Y3A h4;subst h42;rw [Y04]; omega
def kpC (ks:List KE) (L:Int):List PV := [.vec ((kcs ks).map cuC) false,.vec (ks.map hwC) false,.val (.int .i64 L)]
theorem Z9n (ks:List KE) (L:Int):X6 (kpC ks L):=⟨Z1 _,Z1d _,Yt,Yt⟩
theorem ZgA {t:PB} (hn:t.n<=5) {ks:List KE} (hk:X23 t ks) (L:Int) {i:Nat} {p:List Nat} (hp:X2H ks i p):X7 Tryz.prog 121 [.cp (kpC ks L),Yv i] (· = .vec (inL p) false):=by
 have hkp:=Z9n ks L;have hkl:=hk.len;have h32:2 ^ t.n<=32:=YO (n:=2) (by decide) hn;have hpl:p.length<=i:=hp.len hk;have hil:i<ks.length:=by cases hp<;>exact (Y7.1 (by assumption)).1
 refine Yp ok121 fun C hC=>?_;refine go ?_;refine Z24 (Z7M (k:=5) rfl 1 (by decide)) ?_;refine ZA hC (fun (z:Nat×List Nat×List Nat)=>X2H ks z.1 z.2.2/\p=z.2.1++z.2.2) (fun z=>z.2.2.length) 1 (fun z => [(0,.cp (kpC ks L)),(1,Yv z.1),(5,.own 0)]) (fun z => [(0,⟨1,inL z.2.1⟩)]) (Y0l _) (i,[],p) ⟨hp,rfl⟩ (fun i=>i) (fun _ _=>rfl) Zk
  ⟨Qp hkp,Qp Yt,⟨_,rfl,.own 0 (by decide)⟩,Yt⟩ ⟨Qs Yt,Yt⟩ ?_
 rintro⟨j,out,q⟩ ⟨hq,hpq⟩;dsimp only at hq hpq ⊢;have hol:out.length<=32:=by rw [hpq,Y0e] at hpl; omega
 cases hq with
 | stop he hr =>
   rename_i e;obtain⟨hjl,hje⟩:=Y7.1 he;refine gd 11 ⟨?_⟩;refine Qo (Zn (xs:=ks) (g:=hwC) rfl rfl j rfl hjl rfl) ?_;rw [hje];refine gd 14 ⟨?_⟩;refine Qo (Qz rfl (by omega)) ?_
   repeat' (first|refine Zb (Zm (k:=5) rfl rfl (Zw _)) ?_|(first|refine st ?_|(apply B<;>intro hb<;>try cases hb)))
   rw [Y0p] at hpq;exact Z8 rfl (Zw _) (by rw [hpq])
 | step he hr hq =>
   rename_i r to e q;obtain⟨hjl,hje⟩:=Y7.1 he;have h1:hwC e = [.val (.int .i64 (r:Int)),.val (.int .i64 (to:Int))]:=by unfold hwC; rw [hr]
   refine gd 11 ⟨?_⟩;refine Qo (Zn (xs:=ks) (g:=hwC) rfl rfl j rfl hjl rfl) ?_;rw [hje,h1];refine gd 14 ⟨?_⟩;refine Qo (Qy rfl (by omega)) ?_;refine gd 21 ⟨?_⟩;refine Qo (Zn (xs:=ks) (g:=hwC) rfl rfl j rfl hjl rfl) ?_;rw [hje,h1];refine gd 25 ⟨?_⟩
   refine ZF (Zt (k:=0) (m := [X33 r]) (fl:=true) rfl rfl rfl (fun q hq=>by rw [Y0g] at hq; subst hq; rfl) rfl (by
    show ((inL out).length+1)*8<=_
    rw [Z2n];omega)) rfl rfl ?_
   refine gd 31 ⟨?_⟩;refine Qo (Zn (xs:=ks) (g:=hwC) rfl rfl j rfl hjl rfl) ?_;rw [hje,h1];refine go ?_
   refine⟨(to,out ++ [r],q),mv 0 1,⟨hq,by rw [hpq,YV]; rfl⟩,by show q.length<q.length+1; omega,fun i hi=>absurd hi (YE i),Zu rfl,
    ⟨Qp hkp,Qp Yt,⟨_,rfl,.own 0 (by decide)⟩,Yt⟩,⟨⟨by decide,_,rfl,?_⟩,Yt⟩⟩
   show Xu _ _ ⟨1,inL out ++ [X33 r]⟩ ⟨1,inL (out ++ [r])⟩;rw [Zi4];exact .same _ (Zw _)
theorem ZgB {ks:List KE} {i:Nat} {e:KE} (he:ks[i]?=some e):((kcs ks).map cuC).getD i []=cuC e.1/\i<((kcs ks).map cuC).length:=by
 obtain⟨h1,rfl⟩:=Y7.1 he;refine⟨?_,by simp [kcs,h1]⟩;simp [kcs,Y0b,h1]
def X7G (t:PB) (ks:List KE) (e:KE) (L:Int) (ks':List KE) (v:PV):Prop:=ks <+: ks'/\X23 t ks'/\((v=.val (.int .i64 0)/\X5q t e.1 ks') \/ (v=.val (.int .i64 3)/\L<(ks'.length:Int)))
def X53 (l:List Cu) (ks:List KE):Prop:=∀ c∈l,∀ S,hoC c S=true->soC (kcs ks) S=true
theorem X6v.keep {t:PB} {ks ks':List KE} {e:KE} {L:Int} {v:PV} (ha:X6v ks e L ks' v) (hk:X23 t ks) (hm:InM 62 e.1/\InM (mkN t.n) e.1/\emC e.1=false)
 (hh : (e.2.1 = -1 /\ ∀ S, InS t S -> hoC e.1 S = true -> Xl t S = true /\ Xr t S = true) \/
   ∃ (r to:Nat) (x:RU) (e':KE),e.2=((r:Int),to)/\t.rs[r]?=some x/\ks[to]?=some e'/\∀ S,InS t S->hoC e.1 S=true->Xl t S=true/\XK t x S=true/\hoC e'.1 (Xc x S)=true) :
 ks <+: ks'/\X23 t ks'/\(∀ S,hoC e.1 S=true->soC (kcs ks') S=true)/\(v=.val (.int .i64 0) \/ (v=.val (.int .i64 3)/\L<(ks'.length:Int))):=by
 rcases ha with⟨h1,rfl,rfl⟩|⟨h1,rfl,rfl⟩
 . exact⟨Y3H _,hk,fun S hS=>ZkE hk h1 hS,.inl rfl⟩
 . refine ⟨List.prefix_append _ _, hk.add hm h1 hh, fun S hS => by rw [Z9c, Z6n, hS, Y38], ?_⟩;by_cases hL:L<((ks.length+1:Nat):Int)
   . exact .inr ⟨by rw [Y5 hL],by rw [Y0e]; exact hL⟩
   . exact .inl (by rw [Y6 hL])
theorem X6X {a b i:Nat} (hi:i<3):mv 3 a (mv 4 b i)=i:=by
 rw [Z57 (m:=3) (by decide) i hi,Z57 (m:=3) (Y0m 3) i hi]
theorem Zc0 {t:PB} (h:Xt t) (hn:t.n<=5) (S:List Nat) {ks:List KE} (hk:X23 t ks) (i:Nat) (e:KE) (he:ks[i]?=some e) (L:Int):X2f Tryz.prog 122 [.cp (srC t S)] [Yv i] [.val (.int .i64 L)] ⟨2,(kcs ks).map cuC⟩ ⟨2,ks.map hwC⟩ fun v b1 b2=>∃ ks',b1=⟨2,(kcs ks').map cuC⟩/\b2=⟨2,ks'.map hwC⟩/\X7G t ks e L ks' v:=by
 have hsr:=Z5t t S;have hrb:=h.rl;have hrl:(t.rs.map ruP).length=t.rs.length:=by simp
 have h32:2 ^ t.n<=32:=YO (n:=2) (by decide) hn;refine Zdg ok122 (Y0 rfl) fun C hC=>?_;refine go ?_;refine ZA hC (fun (z:Nat×List KE)=>z.1<=t.rs.length/\ks <+: z.2/\X23 t z.2/\∀ j x,j<z.1->t.rs[j]?=some x->X62 t e.1 x z.2) (fun z=>t.rs.length-z.1) 5 (fun z => [(0,.cp (srC t S)),(1,.ptr 0 0 0),(2,Yv i),(18,.val (.int .i64 (t.rs.length:Int))),(19,Yv z.1)])
  (fun z => [(0,⟨3,[[.own 3,.own 4,.val (.int .i64 L)]]⟩),(3,⟨2,(kcs z.2).map cuC⟩),(4,⟨2,z.2.map hwC⟩)]) (by decide) (0,ks) ⟨Y0l _,Y3H _,hk,fun j x hj=>absurd hj (YE j)⟩ (fun i=>mv 3 1 (mv 4 2 i)) (fun i hi=>X6X hi) (Zu rfl)
  ⟨Qp hsr,Qt 0 0 0,Qp Yt,⟨_,by rw [<- hrl]; rfl,.pure _ Yt⟩,Qp Yt,Yt⟩
  ⟨⟨by decide,_,rfl,Xu.single ⟨.own (ρ:=fun i=>mv 3 1 (mv 4 2 i)) 3 (by decide),.own (ρ:=fun i=>mv 3 1 (mv 4 2 i)) 4 (by decide),.pure _ Yt,Yt⟩ rfl⟩,Qs (Z1 _),Qs (Z1d _),Yt⟩ ?_
 rintro⟨r,k1⟩ ⟨hr,hpre,hk1,hex⟩;dsimp only at hr hpre hk1 hex ⊢;have hinc:IntKind.i64.wrap ((r:Int)+1)=((r+1:Nat):Int):=Y0v _ ⟨by omega,by omega⟩;refine gd 20 ⟨?_⟩;by_cases hrt:r<t.rs.length
 case neg =>
  refine Qo (Qz rfl (by omega)) ?_;refine go ?_;refine⟨_,_,rfl,.inl rfl,3,4,_,_,by decide,by decide,by decide,rfl,rfl,rfl,Yt,Z1 _,Z1d _,k1,rfl,rfl,hpre,hk1,.inl ⟨rfl,fun x hx=>?_⟩⟩;obtain⟨j,hj,rfl⟩:=Y1B.1 hx;exact hex j _ (by omega) (Y0c hj)
 refine Qo (Qy rfl (Y1V.2 hrt)) ?_;have he1:=Z9e hpre he;obtain⟨g1,g2⟩:=ZgB he1;have hem:=hk1.mem e (YX he1);have hro:=h.rs _ (Y0j hrt);have hxr:=Y0c hrt;refine gd 29 ⟨?_⟩;refine Qo (ZL (k:=.i64) rfl rfl rfl i rfl g2 rfl) ?_;refine gd 30 ⟨?_⟩;refine Qo (Z25 (p:=cuP e.1) rfl rfl g2 (by show X10 true 2 0 (((kcs k1).map cuC).getD i [])=_; rw [g1]; rfl)) ?_;refine gd 32 ⟨?_⟩;refine Qe (Zac h S e.1 hem.1 r hrt) ⟨hsr,Zz _,Yt,Yt⟩ ?_;generalize t.rs[r]=x at hro hxr ⊢;have hbi:=Zlh h hro hem.1;have hbn:=Zlz h hro hem.2.1;have hbs:=fun S (hS:InS t S)=>Zlg h hro hem.1 hS;generalize hl0:bfL t x e.1=l at hbi hbn hbs ⊢;obtain⟨hbi,hbl⟩:=hbi;have hll:(l.map cuC).length=l.length:=by simp
 refine go ?_;refine ZA hC (fun (z:Nat×List KE)=>z.1<=l.length/\ks <+: z.2/\k1 <+: z.2/\X23 t z.2/\X53 (l.take z.1) z.2) (fun z=>l.length-z.1) 5 (fun z => [(0,.cp (srC t S)),(1,.ptr 0 0 0),(2,Yv i),(7,.val (.int .i64 (r:Int))),(18,.val (.int .i64 (t.rs.length:Int))),(19,.val (.int .i64 (r:Int))),(38,.vec (l.map cuC) false),(39,.val (.int .i64 (l.length:Int))),(40,Yv z.1)])
  (fun z => [(0,⟨3,[[.own 3,.own 4,.val (.int .i64 L)]]⟩),(3,⟨2,(kcs z.2).map cuC⟩),(4,⟨2,z.2.map hwC⟩)]) (by decide) (0,k1) ⟨Y0l _,hpre,Y3H _,hk1,fun c hc=>(by cases hc)⟩ (fun i=>i) (fun _ _=>rfl) Zk
  ⟨Qp hsr,Qt 0 0 0,Qp Yt,Qp Yt,Qp Yt,Qp Yt,Qp (Z1 _),⟨_,by rw [<- hll]; rfl,.pure _ Yt⟩,Qp Yt,Yt⟩
  ⟨⟨by decide,_,rfl,Xu.single ⟨.own (ρ:=fun i=>i) 3 (by decide),.own (ρ:=fun i=>i) 4 (by decide),.pure _ Yt,Yt⟩ rfl⟩,Qs (Z1 _),Qs (Z1d _),Yt⟩ ?_
 rintro⟨j,k2⟩ ⟨hj,hpre2,hpre3,hk2,hcov⟩;dsimp only at hj hpre2 hpre3 hk2 hcov ⊢;have hjnc:IntKind.i64.wrap ((j:Int)+1)=((j+1:Nat):Int):=Y0v _ ⟨by omega,by omega⟩;have hkl2:=hk2.len;refine gd 41 ⟨?_⟩;by_cases hjl:j<l.length
 case neg =>
  refine Qo (Qz rfl (by omega)) ?_;refine go ?_;have hjl:j=l.length:=by omega
  rw [hjl,Y0q] at hcov
  refine⟨(r+1,k2),fun i=>i,⟨hrt,hpre2,hk2,fun j y hjr hy=>?_⟩,by show t.rs.length-(r+1)<t.rs.length-r; omega,fun _ _=>rfl,Zk,
   ⟨Qp hsr,Qt 0 0 0,Qp Yt,Qp Yt,⟨_,by show some _=some _; rw [hinc],.pure _ Yt⟩,Yt⟩,
   ⟨⟨by decide,_,rfl,Xu.single ⟨.own (ρ:=fun i=>i) 3 (by decide),.own (ρ:=fun i=>i) 4 (by decide),.pure _ Yt,Yt⟩ rfl⟩,Qs (Z1 _),Qs (Z1d _),Yt⟩⟩
  by_cases hjr2:j<r
  . exact (hex j y hjr2 hy).pre hpre3
  . obtain rfl : j = r := by omega
    rw [hxr] at hy; cases hy;intro S hS hg hs hho;have h1:=hbs S hS;rw [hg,hs,hho] at h1;obtain⟨c,hc,h2⟩:=Y01.1 (show soC l S=true from h1);exact hcov c hc S h2
 refine Qo (Qy rfl (Y1V.2 hjl)) ?_;have htk:=ZS hjl;have hcm:=Y0j hjl;refine gd 42 ⟨?_⟩;refine Qo (Zn (xs:=l) (g:=cuC) rfl rfl j rfl hjl rfl) ?_;generalize l[j]=c at htk hcm ⊢;obtain⟨hc1,hc2⟩:=hbi c hcm;have hc3:=hbn c hcm;have hadd:=Zdh k2 hk2.c64 (by omega) (c,((r:Int),i)) (hc1.lt (by decide)) L;refine gd 49 ⟨?_⟩;refine ZbZ hadd rfl rfl rfl rfl rfl rfl (by decide) (by decide) (by decide) Yt ⟨Zz _,⟨Yt,Yt,Yt⟩,Yt⟩ ⟨Yt,Yt⟩ (Z1 _) (Z1d _) ?_;rintro v b1' b2' - - - ⟨k3,rfl,rfl,ha⟩;have hst:∀ S,InS t S->hoC c S=true->Xl t S=true/\XK t x S=true/\hoC e.1 (Xc x S)=true:=fun S hS hc=>by
  have h1:=hbs S hS;have h2:soC l S=true:=Y01.2 ⟨c,hcm,hc⟩;rw [h2] at h1;have h1:=h1.symm;rw [Y0k,Y0k] at h1;exact h1
 obtain⟨p1,p2,p3,p4⟩:=ha.keep (t:=t) hk2 ⟨hc1,hc3,hc2⟩ (.inr ⟨r,i,x,e,rfl,hxr,Z9e hpre2 he,hst⟩);rcases p4 with rfl|⟨rfl,p4⟩
 . refine go ?_
   refine⟨(j+1,k3),fun i=>mv 3 6 (mv 4 7 i),⟨hjl,hpre2.trans p1,hpre3.trans p1,p2,?_⟩,by show l.length-(j+1)<l.length-j; omega,fun i hi=>X6X hi,Zu rfl,
    ⟨Qp hsr,Qt 0 0 0,Qp Yt,Qp Yt,Qp Yt,Qp Yt,Qp (Z1 _),Qp Yt,⟨_,by show some _=some _; rw [hjnc],.pure _ Yt⟩,Yt⟩,
    ⟨⟨by decide,_,rfl,Xu.single ⟨.own (ρ:=fun i=>mv 3 6 (mv 4 7 i)) 3 (by decide),.own (ρ:=fun i=>mv 3 6 (mv 4 7 i)) 4 (by decide),.pure _ Yt,Yt⟩ rfl⟩,Qs (Z1 _),Qs (Z1d _),Yt⟩⟩
   rw [htk];intro c' hc' S hS;rcases Y0h.1 hc' with hc' | hc'
   . exact Z9d p1 (hcov c' hc' S hS)
   . rw [Y0g] at hc'; subst hc'; exact p3 S hS
 . refine go ?_;exact⟨_,_,rfl,.inl rfl,6,7,_,_,by decide,by decide,by decide,rfl,rfl,rfl,Yt,Z1 _,Z1d _,k3,rfl,rfl,hpre2.trans p1,p2,.inr ⟨rfl,p4⟩⟩
inductive X4L (t:PB) (L:Int):PV->Prop
 | yes (p:List Nat) (hp:X1D t p) (hl:p.length<=32):X4L t L (.tup [.vec (inL p) false,.vec [] true,.val (.bool true),.val (.int .i64 0)])
 | no (ks:List KE) (hk:X1H t ks):X4L t L (.tup [.vec [] true,.vec ((kcs ks).map cuC) false,.val (.bool false),.val (.int .i64 0)])
 | lim (hl:L<((2 ^ t.n:Nat):Int)):X4L t L (.tup [.vec [] true,.vec [] true,.val (.bool false),.val (.int .i64 3)])
theorem Zc1 {t:PB} (h:Xt t) (hn:t.n<=5) (S:List Nat) (L:Int) (hL:1<=L):X7 Tryz.prog 59 [.agg (pbP t S),.val (.int .i64 L)] (X4L t L):=by
 have hpp:=ZH t S;have hsr:=Z5t t S;have h32:2 ^ t.n<=32:=YO (n:=2) (by decide) hn;have hti:=ZkA h;have htn:=Zli t;have hts:=fun S (hS:InS t S)=>ZkB h hS;have hte:∀ c∈X52 t,emC c=false:=fun c hc=>(Z2U hc).2;have htg:=Zaa h S;refine Yp ok59 fun C hC=>?_;refine Zo ?_;refine Za ?_;refine Z5 rfl rfl rfl ?_;refine gd 18 ⟨?_⟩;refine Qe (Z2z h S) ⟨hpp,Yt⟩ ?_;refine gd 23 ⟨?_⟩;refine Qo (Qz rfl (by omega)) ?_;refine gd 26 ⟨?_⟩;refine Qe (Zab h S) ⟨hpp,Yt⟩ ?_;refine gd 34 ⟨?_⟩;refine Qe htg ⟨hpp,Yt⟩ ?_;generalize X52 t=l at hti htn hts hte ⊢;have hnl:(l.map cuC).length=l.length:=by simp
 refine gd 43 ⟨?_⟩;refine Zb (ZP (id:=0) (i0:=0) (j0:=0) rfl (Y0 rfl) (Y0 rfl) rfl 2 (by decide) (by decide)) ?_;refine Zb (ZP (id:=0) (i0:=0) (j0:=1) rfl (Y0 rfl) (Y0 rfl) rfl 2 (by decide) (by decide)) ?_;refine go ?_;refine ZA hC (fun (z:Nat×List KE)=>z.1<=l.length/\X23 t z.2/\X53 (l.take z.1) z.2) (fun z=>l.length-z.1) 3 (fun z => [(2,.cp (pbP t S)),(9,.cp (srC t S)),(11,.ptr 0 0 0),(43,.vec (l.map cuC) false),(44,.val (.int .i64 (l.length:Int))),(45,Yv z.1)])
  (fun z => [(0,⟨3,[[.own 1,.own 2,.val (.int .i64 L)]]⟩),(1,⟨2,(kcs z.2).map cuC⟩),(2,⟨2,z.2.map hwC⟩)]) (Y0l _) (0,[]) ⟨Y0l _,X23.nil t,fun c hc=>(by cases hc)⟩ (fun i=>i) (fun _ _=>rfl) Zk
  ⟨Qp hpp,Qp hsr,Qt 0 0 0,Qp (Z1 _),⟨_,by rw [<- hnl]; rfl,.pure _ Yt⟩,Qp Yt,Yt⟩
  ⟨⟨by decide,_,rfl,Xu.single ⟨.own (ρ:=fun i=>i) 1 (by decide),.own (ρ:=fun i=>i) 2 (by decide),.pure _ Yt,Yt⟩ rfl⟩,Qs Yt,Qs Yt,Yt⟩ ?_
 rintro⟨j,k1⟩ ⟨hj,hk1,hcov⟩;dsimp only at hj hk1 hcov ⊢;have hjnc:IntKind.i64.wrap ((j:Int)+1)=((j+1:Nat):Int):=Y0v _ ⟨by omega,by omega⟩;have hkl:=hk1.len;refine gd 46 ⟨?_⟩;by_cases hjl:j<l.length
 . refine Qo (Qy rfl (Y1V.2 hjl)) ?_;have htk:=ZS hjl;have hcm:=Y0j hjl;refine gd 47 ⟨?_⟩;refine Qo (Zn (xs:=l) (g:=cuC) rfl rfl j rfl hjl rfl) ?_;generalize l[j]=c at htk hcm ⊢;have hc1:=hti.1 c hcm;have hadd:=Zdh k1 hk1.c64 (by omega) (c,((-1:Int),0)) (hc1.lt (by decide)) L;refine gd 52 ⟨?_⟩;refine ZbZ hadd rfl rfl rfl rfl rfl rfl (by decide) (by decide) (by decide) Yt ⟨Zz _,⟨Yt,Yt,Yt⟩,Yt⟩ ⟨Yt,Yt⟩ (Z1 _) (Z1d _) ?_;rintro v b1' b2' - - - ⟨k2,rfl,rfl,ha⟩;have hst:∀ S,InS t S->hoC c S=true->Xl t S=true/\Xr t S=true:=fun S hS hc=>by
    have h1:=hts S hS;rw [show soC l S=true from Y01.2 ⟨c,hcm,hc⟩] at h1;have h1:=h1.symm;rw [Y0k] at h1;exact h1
   obtain⟨p1,p2,p3,p4⟩:=ha.keep (t:=t) hk1 ⟨hc1,htn c hcm,hte c hcm⟩ (.inl ⟨rfl,hst⟩);rcases p4 with rfl|⟨rfl,p4⟩
   . refine go ?_
     refine⟨(j+1,k2),fun i=>mv 1 4 (mv 2 5 i),⟨hjl,p2,?_⟩,by show l.length-(j+1)<l.length-j; omega,fun i hi=>absurd hi (YE i),Zu rfl,
      ⟨Qp hpp,Qp hsr,Qt 0 0 0,Qp (Z1 _),Qp Yt,⟨_,by show some _=some _; rw [hjnc],.pure _ Yt⟩,Yt⟩,
      ⟨⟨by decide,_,rfl,Xu.single ⟨.own (ρ:=fun i=>mv 1 4 (mv 2 5 i)) 1 (by decide),.own (ρ:=fun i=>mv 1 4 (mv 2 5 i)) 2 (by decide),.pure _ Yt,Yt⟩ rfl⟩,Qs (Z1 _),Qs (Z1d _),Yt⟩⟩
     rw [htk];intro c' hc' S hS;rcases Y0h.1 hc' with hc' | hc'
     . exact Z9d p1 (hcov c' hc' S hS)
     . rw [Y0g] at hc'; subst hc'; exact p3 S hS
   . refine go ?_;have:=p2.len;exact Z8 rfl ⟨Yt,Yt,Yt,Yt,Yt⟩ (.lim (by omega))
 have hjl:j=l.length:=by omega
 rw [hjl,Y0q] at hcov;have htin:X3A t k1:=fun S hS hg hr=>by
  have h1:=hts S hS;rw [hg,hr] at h1;obtain⟨c,hc,h2⟩:=Y01.1 (show soC l S=true from h1);exact hcov c hc S h2
 refine Qo (Qz rfl (by omega)) ?_;clear hcov hts;refine go ?_;refine ZA hC (fun (z:Nat×List KE)=>z.1<=z.2.length/\X23 t z.2/\X3A t z.2/\∀ i e,i<z.1->z.2[i]?=some e->X5q t e.1 z.2/\hoC e.1 t.st=false) (fun z=>2 ^ t.n-z.1) 3 (fun z => [(2,.cp (pbP t S)),(9,.cp (srC t S)),(11,.ptr 0 0 0),(15,Yv z.1)])
  (fun z => [(0,⟨3,[[.own 1,.own 2,.val (.int .i64 L)]]⟩),(1,⟨2,(kcs z.2).map cuC⟩),(2,⟨2,z.2.map hwC⟩)]) (Y0l _) (0,k1) ⟨Y0l _,hk1,htin,fun i e hi=>absurd hi (YE i)⟩ (fun i=>i) (fun _ _=>rfl) Zk
  ⟨Qp hpp,Qp hsr,Qt 0 0 0,Qp Yt,Yt⟩
  ⟨⟨by decide,_,rfl,Xu.single ⟨.own (ρ:=fun i=>i) 1 (by decide),.own (ρ:=fun i=>i) 2 (by decide),.pure _ Yt,Yt⟩ rfl⟩,Qs (Z1 _),Qs (Z1d _),Yt⟩ ?_
 clear hk1 htin hkl hjnc;rintro⟨i,ks⟩ ⟨hi,hk,htin,hex⟩;dsimp only at hi hk htin hex ⊢;have hkl:=hk.len;have hinc:IntKind.i64.wrap ((i:Int)+1)=((i+1:Nat):Int):=Y0v _ ⟨by omega,by omega⟩;have hcl:((kcs ks).map cuC).length=ks.length:=by simp [kcs]
 refine gd 63 ⟨?_⟩;by_cases hil:i<ks.length
 case neg =>
  refine Zb (Zs (ob:=0) (id:=1) (i0:=0) (j0:=0) rfl rfl (by decide) (Z1 _) (Y0 rfl) (Y0 rfl) rfl) ?_;refine Qo (Qz rfl (by rw [hcl];omega)) ?_;refine go ?_;refine Z8 rfl ⟨Yt,Z1 _,Yt,Yt,Yt⟩ (.no ks ⟨hk,htin,fun e he=>?_,?_⟩)
  . obtain ⟨m, hm, rfl⟩ := Y1B.1 he;exact (hex m _ (by omega) (Y0c hm)).1
  . refine Yy.2 fun hso => ?_;obtain⟨c,hc,hho⟩:=Y01.1 hso;obtain⟨e,he,rfl⟩:=Y0i.1 hc;obtain⟨m,hm,rfl⟩:=Y1B.1 he;rw [(hex m _ (by omega) (Y0c hm)).2] at hho;cases hho
 refine Qo (Qy rfl (by rw [hcl];omega)) ?_;obtain⟨e,he⟩:∃ e,ks[i]?=some e:=⟨_,Y0c hil⟩
 obtain⟨g1,g2⟩:=ZgB he;have hem:=hk.mem e (YX he);have hst64:=InS.lt h.n.2 (show InS t t.st from h.st);refine gd 71 ⟨?_⟩;refine Qr (ZL (k:=.i64) rfl rfl rfl i rfl g2 rfl) ?_;refine Qr (Z25 (p:=cuP e.1) rfl rfl g2 (by show X10 true 2 0 (((kcs ks).map cuC).getD i [])=_; rw [g1]; rfl)) ?_;refine gd 75 ⟨?_⟩;refine Qd (Z4N e.1 t.st (hem.1.lt (by decide)) hst64) ⟨Zz _,Z2 _,Yt⟩ ?_;cases hho:hoC e.1 t.st
 case true =>
  obtain⟨p,hp⟩:=hk.path (i+1) i (Y2N _) hil;have hpl:=hp.len hk;have hpo:=hk.plan h he hho hp;refine gd 76 ⟨?_⟩;refine Zb (Zs (ob:=0) (id:=1) (i0:=0) (j0:=0) rfl rfl (by decide) (Z1 _) (Y0 rfl) (Y0 rfl) rfl) ?_;refine Zb (Zs (ob:=0) (id:=2) (i0:=0) (j0:=1) rfl rfl (by decide) (Z1d _) (Y0 rfl) (Y0 rfl) rfl) ?_;refine Zb (Z1o (k:=11) (l:=kpC ks L) rfl rfl (Z9n ks L)) ?_;refine gd 78 ⟨?_⟩;refine Qe (ZgA hn hk L hp) ⟨Z9n ks L,Yt,Yt⟩ ?_;refine go ?_;exact Z8 rfl ⟨Zw _,Yt,Yt,Yt,Yt⟩ (.yes p hpo (by omega))
 have hexp:=Zc0 h hn S hk i e he L;refine gd 82 ⟨?_⟩;refine ZbZ hexp rfl rfl rfl rfl rfl rfl (by decide) (by decide) (by decide) ⟨hsr,Yt⟩ ⟨Yt,Yt⟩ ⟨Yt,Yt⟩ (Z1 _) (Z1d _) ?_;rintro v b1' b2' - - - ⟨k2,rfl,rfl,p1,p2,p3⟩;rcases p3 with⟨rfl,p3⟩|⟨rfl,p3⟩
 . refine go ?_;have:=p2.len;have:=p1.length_le
   refine⟨(i+1,k2),fun i=>mv 1 13 (mv 2 14 i),⟨by show i+1<=k2.length; omega,p2,htin.pre p1,fun m e' hm he'=>?_⟩,by show 2 ^ t.n-(i+1)<2 ^ t.n-i; omega,fun i hi=>absurd hi (YE i),Zu rfl,
    ⟨Qp hpp,Qp hsr,Qt 0 0 0,⟨_,by show some _=some _; rw [hinc],.pure _ Yt⟩,Yt⟩,
    ⟨⟨by decide,_,rfl,Xu.single ⟨.own (ρ:=fun i=>mv 1 13 (mv 2 14 i)) 1 (by decide),.own (ρ:=fun i=>mv 1 13 (mv 2 14 i)) 2 (by decide),.pure _ Yt,Yt⟩ rfl⟩,Qs (Z1 _),Qs (Z1d _),Yt⟩⟩
   by_cases hmi:m<i
   . have := hex m e' hmi (pre_get' p1 he' (by omega));exact⟨this.1.pre p1,this.2⟩
   . obtain rfl : m = i := by omega
     rw [Z9e p1 he] at he';cases he';exact⟨p3,hho⟩
 . refine go ?_;have:=p2.len;exact Z8 rfl ⟨Yt,Yt,Yt,Yt,Yt⟩ (.lim (by omega))
section
variable {P:Program} {e:Env} {h:X1} {n:Nat}
end
theorem Z5Q (l:List Int) (N:Nat) (h:X1p (X1g l) l=N) (fl:Bool):X7 Tryz.prog 10 [.vec (XE l) fl] (· = XD N):=h▸Zba l fl
theorem Zaq:XL ([]:List Pr):=fun p hp=>by cases hp
theorem ZiR {a b:Nat} (h:Up [] a b):False:=by
 cases h with
 | one h=>cases h
 | more _ h=>cases h
def rsE:List RU := [⟨false,(0,0),1,0⟩,⟨false,(2,0),2,0⟩,⟨true,(0,0),1,0⟩]
def tE (nv:List Cu):PB:=⟨3,[],0,rsE,nv,[(4,2)]⟩
def t0:PB:=tE []
def t1:PB:=tE [(6,0)]
theorem ZgC (r:Nat):sen [] r=2 ^ r:=YD fun a=>by
 rw [YN,Z4O Zaq,YH,Y0n];exact⟨fun h=>h.elim (fun h=>(ZiR h).elim) Eq.symm,fun h=>.inr h.symm⟩
def X4g (s:Nat):Nat:=((List.range 64).find? fun i=>s.testBit i).getD 0
def mOf (d:ND):Nat:=X3T d.so ||| X3T d.no
def X7B (sn:Nat->Nat) (d:ND) (o:Nat) (l:List Nat):Nat:=l.foldl (fun o r=>if d.cl then o ||| sn r else o) o
def X86 (sn:Nat->Nat) (ds:List ND):Nat:=ds.foldl (fun o d=>X7B sn d (o ||| mOf d) (mem (mOf d))) 0
def X77 (cl:Nat->Nat) (ds:List ND) (lo hi:Nat):Nat:=ds.foldl (fun a d=>min a (X8b cl d lo hi)) 2
def X6K (cl:Nat->Nat) (ds:List ND):Nat->Nat->Nat->Option Nat
 | 0,_,_=>none
 | f + 1, left, s =>
   if X77 cl ds s (s ||| left)=2 then some s else if X77 cl ds s (s ||| left)=0 then none else if left=0 then none else
    match X6K cl ds f (Xg left (2 ^ X4g left)) s with
    | some o=>some o
    | none=>X6K cl ds f (Xg left (2 ^ X4g left)) (s ||| 2 ^ X4g left)
def X3J (cl sn:Nat->Nat) (n:Nat) (ds:List ND):Option Nat:=X6K cl ds 65 (X86 sn ds &&& (2 ^ (n+1)-1)) 0
noncomputable def X4S (t:PB) (s:Nat) (k:Int):Option Nat:=if 0<=k then (match t.rs[k.toNat]? with|some r=>if XK t r s then some (Xc r s) else none|none=>none) else none
section
variable {P:Program} {C:Ctx} {e:Env} {h:X1} {n:Nat} {Q:Exit->Nat->Env->X1->Prop}
end
theorem Zim:∀ r:Nat,r<64->X1p (X1g [(r:Int)]) [(r:Int)]=2 ^ r:=by decide +kernel
theorem Zes (r:Nat) (hr:r<64) (fl:Bool):X7 Tryz.prog 10 [.vec [[.val (.int .i64 (r:Int))]] fl] (· = XD (2 ^ r)):=Zim r hr▸Zba [(r:Int)] fl
def X5Z (n:Nat):Nat:=2 ^ (n+1)-1
def X49 (n:Nat) (l:List Cu):Bool := !(X3T l).testBit 0&&decide (X3T l ||| X5Z n=X5Z n)
abbrev Fd:=Nat×Nat×Nat
noncomputable def X2X (t:PB):Nat->List Nat->Nat->Fd
 | s,[],_=>if Xr t s then (1,0,0) else (5,0,0)
 | s, k :: p, i => match X4S t s (k : Int) with
   | some o=>X2X t o p (i+1)
   | none=>(4,i,k)
def X6V (t:PB) (l:List Cu) (fl:Bool):List ND := [⟨true,false,false,0,[],t.nv,true,false⟩,⟨true,false,true,0,t.gl,[],false,true⟩,⟨false,false,false,0,[],l,true,fl⟩]
def X6N (t:PB) (l:List Cu) (fl:Bool) (c:Cu) (r:RU):List ND := [⟨true,false,false,0,[],t.nv,true,false⟩,⟨false,false,false,0,[],l,true,fl⟩,⟨false,false,true,0,[if r.rev then (2 ^ r.tg,0) else (0,2 ^ r.tg)],[],true,true⟩,⟨true,false,true,0,[r.cu],[],true,true⟩,⟨true,r.rev,false,r.tg,[],t.nv,true,false⟩,⟨false,r.rev,true,r.tg,[c],[],false,true⟩]
noncomputable def X6B (t:PB) (l:List Cu) (fl:Bool):Option Nat:=X3J (clo t.l) (sen t.l) t.n (X6V t l fl)
noncomputable def X6Q (t:PB) (l:List Cu) (fl:Bool) (c:Cu) (r:RU):Option Nat:=X3J (clo t.l) (sen t.l) t.n (X6N t l fl c r)
def X4V (e:Nat->Bool):Nat->Nat->Option Nat
 | 0,_=>none
 | c+1,k=>if e k then some k else X4V e c (k+1)
def X5u (e:Nat->Nat->Bool) (m:Nat):Nat->Nat->Option (Nat×Nat)
 | 0,_=>none
 | c + 1, i => match X4V (e i) m 0 with
   | some k=>some (i,k)
   | none=>X5u e m c (i+1)
def cu0 (l:List Cu) (i:Nat):Cu:=l.getD i (0,0)
def ru0 (l:List RU) (k:Nat):RU:=l.getD k ⟨false,(0,0),0,0⟩
noncomputable def X6t (t:PB) (l:List Cu) (fl:Bool) (i k:Nat):Bool:=(X6Q t l fl (cu0 l i) (ru0 t.rs k)).isSome
def X5L:Option (Nat×Nat)->Fd
 | some (i,k)=>(8,i,k)
 | none=>(1,0,0)
noncomputable def X3q (t:PB) (l:List Cu) (fl:Bool):Fd :=
 match X4V (fun i=>hoC (cu0 l i) t.st) l.length 0 with
 | some i=>(6,i,0)
 | none=>if (X6B t l fl).isSome then (7,0,0) else X5L (X5u (X6t t l fl) t.rs.length l.length 0)
theorem ZlB {n i mask id:Nat} {P:Program} {e:Env} {h:X1} {d:Option Nat} {f:Operand} {as0:List Operand} {iso:Nat} {alt:Bool} {xs:List Xa} {K:Env->X1->Prop} {g:FuncId} {caps as1:List PV} {args:Nat->List PV} {b:Bx} {R:PV->Bx->Prop} (hs:X2s P g args b R) (hm:MkL args) (hf:ev e f=some (.fn g caps)) (ha:evs e as0=some as1) (hr:as1++caps=args id) (hb:h id=some b) (hpb:X3 b.elems)
 (hk:∀ r b',r.pure->X3 b'.elems->R r b'->dK P (.to id) n xs (Xy e d r) (h.upd id b') K):dK P (.to id) n (⟨i,⟨d,.call f as0,none⟩,mask,iso,alt⟩ :: xs) e h K:=by
 unfold dK;refine⟨_,.callP rfl f as0 rfl id rfl b hb R ⟨g,caps,as1,hf,ha,by rw [hr]; exact hs.prun hm hpb id⟩,?_⟩;rintro p' f' ⟨b',rfl,h1,h2,h3⟩;exact hk p' b' h1 h2 h3
def HS.zero (t:Nat):HS:=⟨List.replicate 25 0,List.replicate 136 0,0,t⟩
theorem ZgD (t:Nat):HOk (HS.zero t):=⟨rfl,fun w hw=>by rw [Y1o hw]; decide,rfl,fun w hw=>by rw [Y1o hw]; decide,by show 0<136; decide⟩
theorem Zc2:X1u Tryz.prog 172 [] (fun i=>.ptr i 0 0) (hBx (HS.zero 0)):=by
 refine Z1z ok172 (Y0 rfl) fun C hC=>?_;refine go ?_;exact⟨_,_,rfl,.inl rfl,_,rfl,by show some _=some _; kernel_rfl⟩
theorem ZjO (h0:HS) (hh0:HOk h0) (p:List Nat) (fl0:Bool) (hp:W8 p) (hlen:h0.total+p.length<1000000000000):X2d Tryz.prog 173 (hBx h0) [.vec (bys p) fl0] (fun r b'=>b'=hBx (HS.puts (p.length+1) ⟨h0.st,h0.bl,h0.used,h0.total+p.length⟩ p)):=by
 refine Z1Q ok173 (Y0 rfl) fun C hC=>?_;have hbl:∀ l:List Nat,(bys l).length=l.length:=fun l=>by simp [bys]
 have hC0:=Z8m (u:=.val (.int .i64 (h0.used:Int))) (t:=.val (.int .u64 (h0.total:Int))) hh0.sl hh0.bl;refine gd 10 ⟨?_⟩;refine Qo (Z7D (l:=Xx h0.st h0.bl (.val (.int .i64 (h0.used:Int))) (.val (.int .u64 (h0.total:Int)))) rfl rfl (by rw [hC0]; decide) (ZlA hh0.sl hh0.bl)) ?_;refine gd 13 ⟨?_⟩;refine Zh (v:=(p.length:Int)) rfl rfl rfl (by rw [hbl]; exact Y0x _ ⟨by omega,by omega⟩) ?_;refine Zh (v:=((h0.total+p.length:Nat):Int)) rfl rfl rfl (Y0x _ ⟨by omega,by omega⟩) ?_
 iterate 2 (first|refine st ?_|(apply B<;>intro hb<;>try cases hb))
 refine Qo (ZjN (l:=Xx h0.st h0.bl (.val (.int .i64 (h0.used:Int))) (.val (.int .u64 (h0.total:Int)))) rfl rfl rfl (by decide) (ZjL hh0.sl hh0.bl _)) ?_;have hh1:HOk ⟨h0.st,h0.bl,h0.used,h0.total+p.length⟩:=⟨hh0.sl,hh0.sw,hh0.bl,hh0.bw,hh0.us⟩
 generalize hX0:(⟨h0.st,h0.bl,h0.used,h0.total+p.length⟩:HS)=X0 at hh1;generalize hfin:HS.puts (p.length+1) X0 p=fin;refine go ?_;refine Zy hC (fun x:HS×List Nat×Bool=>HOk x.1/\W8 x.2.1/\x.2.1.length<=p.length/\HS.puts (p.length+1) x.1 x.2.1=fin) (fun x=>x.2.1.length) 1 (fun x => [(0,.ptr 0 0 0),(1,.vec (bys x.2.1) x.2.2)]) (fun x => [(0,hBx x.1)]) (by decide) (X0,p,fl0) ⟨hh1,hp,Y0m _,hfin⟩
  ⟨⟨rfl,show 0<1 by decide⟩,⟨rfl,ZbB _ _⟩,Yt⟩ ⟨⟨by decide,by rw [<- hX0]; rfl,Z5P _ _⟩,Yt⟩ ?_
 rintro⟨x,q,fl⟩ ⟨hx,hq,hql,hqf⟩;dsimp only at hx hq hql hqf;have hCx:=fun (u t:PV)=>Z8m (u:=u) (t:=t) hx.sl hx.bl;have hus:=hx.us;have hbq:=hbl q;refine gd 19 ⟨?_⟩;by_cases hq0:q.length=0
 . refine Qo (Qz rfl (by show ¬ (((bys q).length : Int) > 0); omega)) ?_;rw [Z7n hq0] at hqf;subst hqf;refine go ?_;exact⟨_,_,rfl,.inl rfl,_,rfl,Yt,Z3C _,rfl⟩
 . refine Qo (Qy rfl (by show ((bys q).length : Int) > 0; omega)) ?_;rw [Zgt hx hq hq0 (by omega)] at hqf;have hput:=ZiQ x q;have hpok:=Zdf hx hq;have hnl:=Z9m hx q;have hnw:=Zde hx hq;have hcp:=ZjM (u:=.val (.int .i64 (x.used:Int))) (t:=.val (.int .u64 (x.total:Int))) hx.sl hx.bl hus q;change _=Xx x.st (X3I x q) _ _ at hcp;generalize hnn:min q.length (136-x.used)=nn at hqf hput;have hCn:=fun (u t:PV)=>Z8m (u:=u) (t:=t) hx.sl hnl;refine gd 26 ⟨?_⟩;refine Qr (Z7D (l:=Xx x.st x.bl (.val (.int .i64 (x.used:Int))) (.val (.int .u64 (x.total:Int)))) rfl rfl (by rw [hCx]; decide) (ZkR hx.sl hx.bl)) ?_;refine Qr (Zik rfl x.used 136 rfl rfl (by omega) (by omega) (by omega)) ?_;refine gd 29 ⟨?_⟩;refine Qr (Zln (l:=Xx x.st x.bl (.val (.int .i64 (x.used:Int))) (.val (.int .u64 (x.total:Int)))) rfl rfl rfl (by omega) hcp) ?_;rw [hnn];refine gd 32 ⟨?_⟩;refine Qo (Zf8 (xs:=q) (g:=fun (x:Nat) => [.val (.int .u8 (x:Int))]) rfl nn q.length rfl (by show some ((List.map (fun (x:Nat) => [PV.val (.int .u8 (x:Int))]) q).length:Int)=_; rw [Y0f]) (by omega) (Y0m _) (fun _=>rfl)) ?_;rw [Y0q];refine gd 36 ⟨?_⟩;refine Qo (Z7D (l:=Xx x.st (X3I x q) (.val (.int .i64 (x.used:Int))) (.val (.int .u64 (x.total:Int)))) rfl rfl (by rw [hCn]; decide) (ZkR hx.sl hnl)) ?_;refine gd 38 ⟨?_⟩;refine Zh (v:=((x.used+nn:Nat):Int)) rfl rfl rfl (wi (x.used+nn) (by omega)) ?_
   iterate 2 (first|refine st ?_|(apply B<;>intro hb<;>try cases hb))
   refine Qo (ZjN (l:=Xx x.st (X3I x q) (.val (.int .i64 (x.used:Int))) (.val (.int .u64 (x.total:Int)))) rfl rfl rfl (by decide) (Zgv hx.sl hnl _)) ?_;refine gd 44 ⟨?_⟩;refine Qo (Z7D (l:=Xx x.st (X3I x q) (.val (.int .i64 ((x.used+nn:Nat):Int))) (.val (.int .u64 (x.total:Int)))) rfl rfl (by rw [hCn]; decide) (ZkR hx.sl hnl)) ?_;by_cases h136:x.used+nn=136
   . refine Qo (Qy rfl (by rw [h136]; rfl)) ?_;rw [Y5 h136] at hput
     repeat' (first|refine Zcu [] 0 (by decide) ?_|refine Z8E 52 ?_|(first|refine st ?_|(apply B<;>intro hb<;>try cases hb)))
     refine At.mk ?_;refine Qr (Zik rfl 0 136 rfl rfl (by decide) (by decide) (by decide)) ?_;refine ZlB (Zii x.st (X3I x q) hx.sl hx.sw hnl hnw [.val (.int .i64 ((x.used+nn:Nat):Int)),.val (.int .u64 (x.total:Int))] ⟨Yt,Yt,Yt⟩) (Z9i (Z7j 0 0) (Z9i (ZkJ 0 25 136 136) Zgn)) rfl rfl rfl rfl ⟨Zgw Yt Yt,Yt⟩ ?_;rintro r b' hr1 hr2 rfl;refine gd 56 ⟨?_⟩;(first|refine st ?_|(apply B<;>intro hb<;>try cases hb));refine Qo (ZjN (l:=Xx (X1N x.st (X3I x q)) (X3I x q) (.val (.int .i64 ((x.used+nn:Nat):Int))) (.val (.int .u64 (x.total:Int)))) rfl rfl rfl (show 161+1<=163 by decide) (Zgv (Z5O hx.sl) hnl _)) ?_;refine go ?_;exact⟨(x.put q,q.drop nn,false),⟨hpok,hq.sub fun x hx=>Y1b hx,by show (q.drop nn).length<=_; rw [YT]; omega,hqf⟩,by show (q.drop nn).length<q.length; rw [YT]; omega,⟨⟨rfl,show 0<1 by decide⟩,⟨rfl,ZbB _ _⟩,Yt⟩,⟨⟨by decide,by show _=some (hBx (x.put q)); rw [hput]; rfl,Z5P _ _⟩,Yt⟩⟩
   . refine Qo (Qz rfl (by omega)) ?_;rw [Y6 h136] at hput;refine go ?_;exact⟨(x.put q,q.drop nn,false),⟨hpok,hq.sub fun x hx=>Y1b hx,by show (q.drop nn).length<=_; rw [YT]; omega,hqf⟩,by show (q.drop nn).length<q.length; rw [YT]; omega,⟨⟨rfl,show 0<1 by decide⟩,⟨rfl,ZbB _ _⟩,Yt⟩,⟨⟨by decide,by show _=some (hBx (x.put q)); rw [hput]; rfl,Z5P _ _⟩,Yt⟩⟩
theorem ZgE (kd:IntKind) (l:List Nat) (n:Nat):(Xh kd l).take n=Xh kd (l.take n):=by unfold Xh; rw [Y2m]
theorem ZgF (kd:IntKind) (l:List Nat) (n:Nat):(Xh kd l).drop n=Xh kd (l.drop n):=by unfold Xh; rw [Y3C]
theorem Zin (kd:IntKind) (l m:List Nat):Xh kd (l++m)=Xh kd l++Xh kd m:=by unfold Xh; rw [Y0r]
section
variable {e:Env} {h:X1} {n k:Nat} {Eb:Nat}
theorem Z4e {a:Operand} {l r:List PV} {off size:Nat} (ha:ev e a=some (.ptr k 0 off)) (hb:h k=some ⟨Eb,[l]⟩) (hl:off+size<=l.length) (hv:(l.drop off).take size=r):X4 (.load true size a) e h n=some (.agg r,h):=by
 subst hv;exact Z25 ha hb Y1I (by show X10 true size off l=_; unfold X10; rw [Y5 hl])
theorem Z3L {a v:Operand} {l r:List PV} {size:Nat} (ha:ev e a=some (.ptr k 0 0)) (hv:ev e v=some (.agg r)) (hb:h k=some ⟨size,[l]⟩) (hr:r.length=size) (hl:l.length=size):X4 (.store size a v) e h n=some (pvu,h.upd k ⟨size,[r ++ []]⟩):=by
 have h1:=Z1U (n:=n) (size:=size) ha hv hb rfl hr Y1I (by show 0+size<=size;omega);rw [h1];have e1:Xj l 0 r=r ++ []:=by
  unfold Xj;rw [Y1u,Y1g,Y1P (by omega)]
 show some (pvu,h.upd k ⟨size,[Xj l 0 r]⟩)=_;rw [e1]
theorem ZkS {d s:Operand} {k2 Eb2 o o2 len len2 cap cap2:Nat} {l l2 l':List PV} (hd:ev e d=some (.sl k 0 o len cap)) (hs:ev e s=some (.sl k2 0 o2 len2 cap2)) (hb:h k=some ⟨Eb,[l]⟩) (hb2:h k2=some ⟨Eb2,[l2]⟩) (hE:o+len<=Eb) (hE2:o2+len2<=Eb2) (hl:Xj l o (((l2.drop o2).take len2).take len)=l'):X4 (.copy 1 d s) e h n=some (.val (.int .i64 ((min len2 len:Nat):Int)),h.upd k ⟨Eb,[l']⟩):=by
 subst hl;simp only [X4,hd,hs,hb,hb2];rw [Y5 ⟨Yt,show 0<1 by decide,hE,show 0<1 by decide,hE2⟩]
 rfl
end
theorem Z2a {e:Env} {h:X1} {a size:Nat} {r:PV} (hd:X4 (.load true size (.tmp a)) e h 0=some (r,h)):XU [.cell a true size] e h=some r:=by
 simp [XU,X31,X5F,hd]
def X21 (h:HS):List Nat:=h.bl.take h.used++List.replicate (136-h.used) 0
theorem Zar {h:HS} (hh:HOk h):(X21 h).length=136:=by
 have h1:=hh.bl;have h2:=hh.us;simp only [X21,Y0e,Y0o,Y3U];omega
theorem ZgG {h:HS} (hh:HOk h):W8 (X21 h):=fun x hx=>by
 rcases Y0h.1 hx with h1|h1
 . exact hh.bw x (YM h1)
 . rw [Y1o h1]; decide
theorem W8.set {l:List Nat} (h:W8 l) {i x:Nat} (hx:x<256):W8 (l.set i x):=fun w hw=>by
 rcases Y1T hw with hw|rfl
 . exact h w hw
 . exact hx
theorem Z9o (h:HS):X30 h.bl h.used=((X21 h).set h.used 6).set 135 (g0 ((X21 h).set h.used 6) 135 ^^^ 128):=rfl
theorem ZjP {a b:Nat} (ha:a<256) (hb:b<256):a ^^^ b<256:=Y47 (n:=8) ha hb
theorem ZgH {h:HS} (hh:HOk h):(X30 h.bl h.used).length=136:=by rw [Z9o,Y14,Y14,Zar hh]
theorem ZgI {h:HS} (hh:HOk h):W8 (X30 h.bl h.used):=by
 rw [Z9o];have h1:W8 ((X21 h).set h.used 6):=(ZgG hh).set (by decide);exact h1.set (ZjP (h1.g _) (by decide))
theorem ZgJ {h:HS} (hh:HOk h) (u t:PV):Xj (Xh .u8 (List.replicate 136 0)) 0 ((((Xx h.st h.bl u t).drop 25).take h.used).take 136)=Xh .u8 (X21 h) ++ []:=by
 have h1:=hh.bl;have h2:=hh.us;have hst:(Xh .u64 h.st).length=25:=by rw [ZI,hh.sl]
 have e1:(((Xx h.st h.bl u t).drop 25).take h.used).take 136=Xh .u8 (h.bl.take h.used):=by
  unfold Xx;rw [Y2t,hst,Y1P (by omega),show 25-25=0 by decide,Y13,Y1g,Y2O,ZI,show h.used-h.bl.length=0 by omega,Y1u,Y0p,Y3u,Nat.min_eq_right (by omega),ZgE]
 rw [e1];unfold Xj;rw [Y1u,Y1g,ZI,Y0o,show min h.used h.bl.length=h.used by omega,Y1a,ZgF,List.drop_replicate,<- Zin,Y0p]
 rfl
def X2U (st:List Nat) (i:Nat):List Nat:=(List.range 32).map fun k=>if k<i then X5I st k else 0
theorem Z4f (st:List Nat) (i:Nat):(X2U st i).length=32:=by simp [X2U]
theorem Zet (st:List Nat) {i:Nat} (h:i<32):(X2U st i).set i (X5I st i)=X2U st (i+1):=by
 refine Z5N (by rw [Y14,Z4f,Z4f]) fun x hx=>?_;rw [Y14,Z4f] at hx;rw [Zgq,Z4f];unfold X2U;rw [Z4b _ hx,Z4b _ hx];by_cases h1:x=i
 . subst h1; rw [Y5 ⟨rfl,h⟩,Y5 (by omega)]
 . rw [Y6 (by omega)];by_cases h2:x<i
   . rw [Y5 h2,Y5 (by omega)]
   . rw [Y6 h2,Y6 (by omega)]
theorem ZgK (st:List Nat):X2U st 32=(List.range 32).map (X5I st):=Y2n fun x hx=>by rw [Y5 (Y1w.1 hx)]
def X3v (h:HS):List Nat:=(List.range 32).map (X5I (X1N h.st (X30 h.bl h.used)))
theorem Zlo (x:HS) (hx:HOk x):X2d Tryz.prog 174 (hBx x) [] (fun r b'=>r=.agg (Xh .u8 (X3v x))/\b'=hBx x):=by
 refine Z1Q ok174 (Y0 rfl) fun C hC=>?_;have hCx:=fun (u t:PV)=>Z8m (u:=u) (t:=t) hx.sl hx.bl;have hus:=hx.us;have hl0:=Zar hx;have hw0:=ZgG hx;refine gd 13 ⟨?_⟩
 refine Qo (Z4e (l:=Xx x.st x.bl (.val (.int .i64 (x.used:Int))) (.val (.int .u64 (x.total:Int)))) (r:=Xh .u64 x.st) rfl rfl (by rw [hCx]; decide) (by
  unfold Xx
  rw [Y13,Y2O,ZI,hx.sl,Y35,Y1u,Y0p,Y9 (by rw [ZI,hx.sl]; exact Y0m _)])) ?_
 (first|refine st ?_|(apply B<;>intro hb<;>try cases hb));refine Qo (Z3L (l:=Xh .u64 (List.replicate 25 0)) rfl rfl rfl (by rw [ZI,hx.sl]) rfl) ?_;refine gd 21 ⟨?_⟩;refine Qr (Z7D (l:=Xx x.st x.bl (.val (.int .i64 (x.used:Int))) (.val (.int .u64 (x.total:Int)))) rfl rfl (by rw [hCx]; decide) (ZkR hx.sl hx.bl)) ?_;refine Qr (Zik rfl 0 x.used rfl rfl (by omega) (by omega) (by omega)) ?_;refine Qr (ZkS (l:=Xh .u8 (List.replicate 136 0)) (l2:=Xx x.st x.bl (.val (.int .i64 (x.used:Int))) (.val (.int .u64 (x.total:Int)))) rfl rfl rfl rfl (by decide) (by show 25+0+(x.used-0)<=163;omega) (ZgJ hx _ _)) ?_;refine gd 27 ⟨?_⟩;refine Qo (Z7D (l:=Xx x.st x.bl (.val (.int .i64 (x.used:Int))) (.val (.int .u64 (x.total:Int)))) rfl rfl (by rw [hCx]; decide) (ZkR hx.sl hx.bl)) ?_;refine Qo (Z33 rfl rfl x.used rfl (by omega)) ?_;refine Qo (Z9j (kd:=.u8) (L:=X21 x) (x:=6) (Eb:=136) (pre := []) (post := []) (o:=0) rfl rfl rfl rfl (by omega) (by omega)) ?_;have hs1:((X21 x).set x.used 6).length=136:=by rw [Y14]; exact hl0
 have hs2:W8 ((X21 x).set x.used 6):=hw0.set (by decide);refine gd 30 ⟨?_⟩;refine Qo (Z3K (kd:=.u8) (L:=(X21 x).set x.used 6) (pre := []) (post := []) (o:=0) (j:=135) rfl rfl rfl (by omega)) ?_;refine Zh (v:=((g0 ((X21 x).set x.used 6) 135 ^^^ 128:Nat):Int)) rfl rfl rfl (u8_xor_nat _ 128 (hs2.g _) (by decide)) ?_;(first|refine st ?_|(apply B<;>intro hb<;>try cases hb));refine Qo (Z9j (kd:=.u8) (L:=(X21 x).set x.used 6) (x:=g0 ((X21 x).set x.used 6) 135 ^^^ 128) (Eb:=136) (pre := []) (post := []) (o:=0) (j:=135) rfl rfl rfl rfl (by omega) (by omega)) ?_;rw [<- Z9o]
 iterate 1 (first|refine st ?_|(apply B<;>intro hb<;>try cases hb))
 refine Z6F hC (n':=4) [(2,.ptr 1 0 0),(3,.ptr 2 0 0),(4,.ptr 3 0 0)] [(0,hBx x),(1,⟨32,[Xh .u8 (List.replicate 32 0)]⟩),(2,⟨25,[Xh .u64 x.st ++ []]⟩),(3,⟨136,[Xh .u8 (X30 x.bl x.used) ++ []]⟩)] (by decide)
  ⟨⟨rfl,show 1<4 by decide⟩,⟨rfl,show 2<4 by decide⟩,⟨rfl,show 3<4 by decide⟩,Yt⟩ ⟨⟨by decide,rfl,Z5P _ _⟩,⟨by decide,by kernel_rfl,Ze (fun _ h=>h.elim) _ (show X3 [Xh .u8 (List.replicate 32 0)] from ⟨ZO _ _,Yt⟩)⟩,⟨by decide,rfl,X1j Yt⟩,⟨by decide,rfl,X1j Yt⟩,Yt⟩ ?_
 iterate 2 (first|refine st ?_|(apply B<;>intro hb<;>try cases hb))
 refine Qo (Zik rfl 0 136 rfl rfl (by decide) (by decide) (by decide)) ?_;refine Z1v rfl rfl (Zij x.st (X30 x.bl x.used) hx.sl hx.sw (ZgH hx) (ZgI hx) (hBx x) _ (Z3C x) (show X3 [Xh .u8 (List.replicate 32 0)] from ⟨ZO _ _,Yt⟩)) ?_;rintro n' r h' ⟨rfl,hr,rfl⟩;have hsl:=Z5O (bl:=X30 x.bl x.used) hx.sl;have hsw:=Zdd hx.sw (ZgI hx);have hfin:X3v x=X2U (X1N x.st (X30 x.bl x.used)) 32:=(ZgK _).symm;generalize X1N x.st (X30 x.bl x.used)=ws at hsl hsw hfin;have hz:X3 [Xh .u8 (List.replicate 32 0)]:=⟨ZO _ _,Yt⟩
 refine go ?_;refine Zy hC (fun i=>i<=32) (fun i=>32-i) 5 (fun i => [(2,.ptr 1 0 0),(3,.ptr 2 0 0),(5,.ptr 4 0 0),(35,Yv i)]) (fun i => [(0,hBx x),(1,⟨32,[Xh .u8 (List.replicate 32 0)]⟩),(2,⟨25,[Xh .u64 ws ++ []]⟩),(4,⟨32,[Xh .u8 (X2U ws i) ++ []]⟩)]) (by decide) 0 (Y0l _)
  ⟨⟨rfl,show 1<5 by decide⟩,⟨rfl,show 2<5 by decide⟩,⟨rfl,show 4<5 by decide⟩,⟨rfl,Yt⟩,Yt⟩ ⟨⟨by decide,rfl,Z5P _ _⟩,⟨by decide,rfl,Ze (fun _ h=>h.elim) _ hz⟩,⟨by decide,rfl,X1j Yt⟩,⟨by decide,by kernel_rfl,X1j Yt⟩,Yt⟩ ?_
 intro i hi;have hinc:IntKind.i64.wrap ((i:Int)+1)=((i+1:Nat):Int):=wi (i+1) (by omega);have hdl:=Z4f ws i;refine gd 36 ⟨?_⟩;by_cases hil:i<32
 . refine Qo (Qy rfl (by omega)) ?_;refine gd 40 ⟨?_⟩
   refine Zh (v:=((i / 8:Nat):Int)) rfl rfl rfl (by
    rw [show Int.tdiv (i:Int) 8=((i / 8:Nat):Int) from (Int.ofNat_tdiv i 8).symm]
    exact wi _ (by omega)) ?_
   refine Qo (Z33 rfl rfl (i / 8) rfl (by omega)) ?_;refine Qo (Z3K (kd:=.u64) (L:=ws) (pre := []) (post := []) (o:=0) rfl rfl rfl (by omega)) ?_;refine gd 44 ⟨?_⟩;refine Zh (v:=((i % 8:Nat):Int)) rfl rfl rfl (Y2M i 8).symm ?_;refine Zh (v:=((8*(i % 8):Nat):Int)) rfl rfl rfl (wi (8*(i % 8)) (by omega)) ?_;refine Z3m rfl rfl (by omega) (X5l (g0 ws (i / 8)) (8*(i % 8)) (by omega)) rfl ?_;refine Zh (v:=((X5I ws i:Nat):Int)) rfl rfl rfl (by rw [IntKind.wrap_u8]; rfl) ?_;refine Qo (Z33 rfl rfl i rfl (by omega)) ?_;refine Qo (Z9j (kd:=.u8) (L:=X2U ws i) (x:=X5I ws i) (Eb:=32) (pre := []) (post := []) (o:=0) rfl rfl rfl rfl (by omega) (by omega)) ?_;rw [Zet ws hil];refine go ?_;exact⟨i+1,by omega,by omega,⟨⟨rfl,show 1<5 by decide⟩,⟨rfl,show 2<5 by decide⟩,⟨rfl,show 4<5 by decide⟩,⟨by show some _=some _; rw [hinc],Yt⟩,Yt⟩,⟨⟨by decide,rfl,Z5P _ _⟩,⟨by decide,rfl,Ze (fun _ h=>h.elim) _ hz⟩,⟨by decide,rfl,X1j Yt⟩,⟨by decide,rfl,X1j Yt⟩,Yt⟩⟩
 . obtain rfl : i = 32 := by omega
   refine Qo (Qz rfl (by omega)) ?_;rw [<- hfin] at hdl;rw [<- hfin];have hcl:(Xh .u8 (X3v x)).length=32:=by rw [ZI,hdl]
   generalize hcc:Xh .u8 (X3v x)=cc at hcl;have hcp:X6 cc:=hcc▸ZO _ _;refine gd 50 ⟨?_⟩;refine Qo (Z4e (l:=cc ++ []) (r:=cc) rfl rfl (by rw [Y0p,hcl]; decide) (by rw [Y0p,Y13,Y9 (by rw [hcl]; exact Y0m _)])) ?_;refine Qo (Z3L (l:=Xh .u8 (List.replicate 32 0)) rfl rfl rfl hcl rfl) ?_;refine go ?_;refine⟨_,.agg cc,?_,.inl rfl,_,rfl,hcp,Z3C x,rfl,rfl⟩;exact Z2a (Z4e (l:=cc ++ []) (r:=cc) rfl rfl (by rw [Y0p,hcl]; decide) (by rw [Y0p,Y13,Y9 (by rw [hcl]; exact Y0m _)]))
end
section
open Go.RowKit
end
section
open Go.RowKit
attribute [local irreducible] aw Xm dK
theorem Zc3:X7 Tryz.prog 130 [XD 0] (· = .vec [] true):=by
 refine Yp ok130 fun C hC=>?_;refine Zo ?_;refine Za ?_;refine Z5 rfl rfl rfl ?_;refine gd 9 ⟨?_⟩;refine Qe (Z3u 0 (by decide)) ⟨Z2 0,Yt⟩ ?_;refine go ?_;exact Z8 rfl Yt rfl
theorem Zeu (N:Nat) (h0:N≠0) (hN:N<256):X7 Tryz.prog 130 [XD N] (· = .vec (bys [N]) false):=by
 have h64:N<18446744073709551616:=by omega
 have hs:XD N=.agg [.vec [[.val (.int .u64 (N:Int))]] false]:=by unfold XD; rw [Z59 h64 h0]; rfl
 have hg:=Z3u N h64;rw [Y8 h0] at hg;have hb:=ZfM (k:=8) hN;have hp:=Z6Z h0;have ht:X5J N=(bl N:Int)-1:=by unfold X5J; rw [Y6 h0]
 have hq:IntKind.i64.wrap (Int.tdiv (X5J N) 8)=0:=by
  rw [ht];obtain⟨k,hk⟩:∃ k:Nat,(bl N:Int)-1=(k:Int)/\k<8:=⟨bl N-1,by omega,by omega⟩
  rw [hk.1];have:∀ k,k<8->IntKind.i64.wrap (Int.tdiv ((k:Nat):Int) 8)=0:=by decide
  exact this k hk.2
 refine Yp ok130 fun C hC=>?_;rw [hs];refine Zo ?_;refine Za ?_;refine Z5 rfl rfl rfl ?_;refine gd 9 ⟨?_⟩;rw [hs] at hg;refine Qe hg ⟨⟨⟨⟨Yt,Yt⟩,Yt⟩,Yt⟩,Yt⟩ ?_;refine gd 15 ⟨?_⟩;refine Zh rfl rfl rfl hq ?_;refine go ?_;refine Z1x 1 ?_;unfold X2e;refine gd 34 ⟨?_⟩;refine Z3m rfl rfl (by decide) (Z3U N 0 (by decide)) rfl ?_
 refine Zh (v:=(N:Int)) rfl rfl rfl (by
  rw [Nat.pow_zero,Nat.div_one]
  exact Y3E _ ⟨by omega,by omega⟩) ?_
 refine gd 38 ⟨?_⟩;refine Zb (Zm (k:=5) (b:=⟨1,bys [N]⟩) rfl rfl (Zg [N])) ?_;refine go ?_;exact Z8 rfl (Zg [N]) rfl
def X6l (N:Nat):PV:=if N=0 then .vec [] true else .vec (bys [N]) false
theorem Zc4 (N:Nat) (hN:N<256):X7 Tryz.prog 130 [XD N] (· = X6l N):=by
 unfold X6l;by_cases h0:N=0
 . subst h0; rw [Y5 rfl]; exact Zc3
 . rw [Y6 h0]; exact Zeu N h0 hN
def X6E (kd:IntKind) (x:Nat):List PV := [.val (.int kd (x:Int))]
def X14 (kd:IntKind) (l:List Nat):List (List PV):=l.map (X6E kd)
theorem Z3D (kd:IntKind) (l:List Nat):X3 (X14 kd l):=Zc (enc:=X6E kd) (fun _=>⟨Yt,Yt⟩) l
theorem Z2b (kd:IntKind) (l:List Nat):(X14 kd l).length=l.length:=by simp [X14]
theorem Z8o (kd:IntKind) (l:List Nat) {j:Nat} (hj:j<l.length):(X14 kd l).getD j []=X6E kd (l.getD j 0):=by
 unfold X14;simp [Y0b,hj]
theorem ZkT {kd:IntKind} {e:Env} {h:X1} {n:Nat} {a:Operand} {k j:Nat} {L:List Nat} (ha:ev e a=some (.ptr k j 0)) (hb:h k=some ⟨1,X14 kd L⟩) (hj:j<L.length) :
 X4 (.load false 1 a) e h n=some (.val (.int kd ((L.getD j 0:Nat):Int)),h) :=
 Z25 ha hb (by rw [Z2b]; exact hj) (by rw [Z8o kd L hj]; rfl)
theorem ZkU {kd:IntKind} {e:Env} {h:X1} {n:Nat} {a v:Operand} {k j x:Nat} {L:List Nat} (ha:ev e a=some (.ptr k j 0)) (hv:ev e v=some (.val (.int kd (x:Int)))) (hb:h k=some ⟨1,X14 kd L⟩) (hj:j<L.length) :
 X4 (.store 1 a v) e h n=some (pvu,h.upd k ⟨1,X14 kd (L.set j x)⟩):=by
 have:=Z1U (n:=n) (size:=1) ha hv hb rfl rfl (show j<(X14 kd L).length by rw [Z2b]; exact hj) (Y0m 1);rw [this];have e1:(X14 kd L).set j (Xj ((X14 kd L).getD j []) 0 (PV.val (.int kd (x:Int))).cells)=X14 kd (L.set j x):=by
  rw [Z8o kd L hj];unfold X14;rw [Y4i]
  rfl
 simp only;rw [e1]
def X3o (l:List Nat) (i:Nat):List Nat:=(List.range l.length).map fun x=>if x<i \/ l.length-i<=x then l.getD (l.length-1-x) 0 else l.getD x 0
theorem Z2V (l:List Nat) (i:Nat):(X3o l i).length=l.length:=by simp [X3o]
theorem Z4z (l:List Nat) (i:Nat) {x:Nat} (hx:x<l.length):(X3o l i).getD x 0=if x<i \/ l.length-i<=x then l.getD (l.length-1-x) 0 else l.getD x 0:=by
 unfold X3o;simp [Y0b,hx]
theorem Z7p {l m:List Nat} (hl:l.length=m.length) (h:∀ x,x<l.length->l.getD x 0=m.getD x 0):l=m:=by
 refine Y4l hl fun i h1 h2=>?_;have:=h i h1;simpa [Y0b,h1,h2] using this
theorem ZgL (l:List Nat):X3o l 0=l:=Z7p (Z2V l 0) fun x hx=>by
 rw [Z2V] at hx;rw [Z4z l 0 hx,Y6 (by omega)]
theorem Zio (l:List Nat) {i:Nat} (hi:l.length<=2*i+1):X3o l i=l.reverse:=Z7p (by rw [Z2V,List.length_reverse]) fun x hx=>by
 rw [Z2V] at hx;rw [Z4z l i hx];have hr:l.reverse.getD x 0=l.getD (l.length-1-x) 0:=by
  simp only [Y0b];rw [List.getElem?_reverse hx]
 rw [hr]
 split
 . rfl
 . rw [show x = l.length - 1 - x by omega];rw [show l.length-1-(l.length-1-x)=x by omega];rw [show l.length-1-x=x by omega]
theorem Zas (L:List Nat) (j x y:Nat):(L.set j x).getD y 0=if y=j/\j<L.length then x else L.getD y 0:=by
 simp only [Y0b,YY];by_cases h:j=y
 . subst h;by_cases hj:j<L.length
   . simp [hj]
   . simp [hj]
 . rw [Y6 h,Y6 (fun c=>h c.1.symm)]
theorem ZgM (l:List Nat) {i:Nat} (hi:2*i+1<l.length):((X3o l i).set i ((X3o l i).getD (l.length-1-i) 0)).set (l.length-1-i) ((X3o l i).getD i 0)=X3o l (i+1):=by
 refine Z7p (by simp [Z2V]) fun x hx=>?_;have hx:x<l.length:=by simpa [Z2V] using hx
 rw [Zas,Zas,Y14,Z2V,Z4z l (i+1) hx,Z4z l i hx,Z4z l i (show l.length-1-i<l.length by omega),Z4z l i (show i<l.length by omega)];by_cases h1:x=l.length-1-i
 . rw [Y5 ⟨h1, by omega⟩, Y6 (by omega), Y5 (by omega)];rw [h1,show l.length-1-(l.length-1-i)=i by omega]
 . rw [Y6 (fun c => h1 c.1)];by_cases h2:x=i
   . rw [Y5 ⟨h2,by omega⟩,Y6 (by omega),Y5 (by omega),h2]
   . rw [Y6 (fun c => h2 c.1)];by_cases h3:x<i \/ l.length-i<=x
     . rw [Y5 h3,Y5 (by omega)]
     . rw [Y6 h3,Y6 (by omega)]
theorem Zev (l:List Nat) (hl:l.length<=1000000):X2s Tryz.prog 170 (fun i => [.own i]) ⟨1,X14 .u8 l⟩ fun r b'=>b'=⟨1,X14 .u8 l.reverse⟩:=by
 have hl1:=Z2b .u8 l;refine Z7k ok170 (Y0 rfl) fun C hC=>?_;refine gd 5 ⟨?_⟩;refine Zh (v:=(l.length:Int)) rfl rfl rfl (by rw [hl1]) ?_;refine Zh (v:=(l.length:Int)-1-((0:Nat):Int)) rfl rfl rfl (by rw [Int.natCast_zero,Int.sub_zero]; exact Y0v _ ⟨by omega,by omega⟩) ?_;refine go ?_;refine Zy hC (fun i=>2*i<=l.length+1) (fun i=>l.length+1-i) 1 (fun i => [(0,.own 0),(2,Yv i),(3,.val (.int .i64 ((l.length:Int)-1-(i:Int))))]) (fun i => [(0,⟨1,X14 .u8 (X3o l i)⟩)]) (by decide) 0 (by omega)
  ⟨⟨rfl,Y1I⟩,⟨rfl,Yt⟩,⟨rfl,Yt⟩,Yt⟩ ⟨⟨by decide,by rw [ZgL]; rfl,Ze (fun _ h=>h.elim) _ (Z3D _ _)⟩,Yt⟩ ?_
 intro i hi;have hrl:=Z2V l i;have hinc:IntKind.i64.wrap ((i:Int)+1)=((i+1:Nat):Int):=Y0v _ ⟨by omega,by omega⟩;have hdec:IntKind.i64.wrap ((l.length:Int)-1-(i:Int)-1)=(l.length:Int)-1-((i+1:Nat):Int):=by
  rw [show (l.length:Int)-1-(i:Int)-1=(l.length:Int)-1-((i+1:Nat):Int) by omega];exact Y0v _ ⟨by omega,by omega⟩
 refine gd 9 ⟨?_⟩;by_cases hil:2*i+1<l.length
 . refine Qo (Qy rfl (by omega)) ?_;have hj:l.length-1-i<(X3o l i).length:=by omega
   have hi2:i<(X3o l i).length:=by omega
   refine gd 20 ⟨?_⟩;refine Qr (ZL rfl rfl rfl (l.length-1-i) (by omega) (by rw [Z2b]; exact hj) rfl) ?_;refine Qr (ZkT (kd:=.u8) (L:=X3o l i) rfl rfl hj) ?_;refine gd 24 ⟨?_⟩;refine Qr (ZL rfl rfl rfl i rfl (by rw [Z2b]; exact hi2) rfl) ?_;refine Qr (ZkT (kd:=.u8) (L:=X3o l i) rfl rfl hi2) ?_;refine Qr (ZL rfl rfl rfl i rfl (by rw [Z2b]; exact hi2) rfl) ?_;refine Qr (ZkU (kd:=.u8) (L:=X3o l i) rfl rfl rfl hi2) ?_;refine Qr (ZL rfl rfl rfl (l.length-1-i) (by omega) (by rw [Z2b,Y14]; exact hj) rfl) ?_;refine Qr (ZkU (kd:=.u8) rfl rfl rfl (by rw [Y14]; exact hj)) ?_;rw [ZgM l hil];refine go ?_;exact⟨i+1,by omega,by omega,⟨⟨rfl,Y1I⟩,⟨by show some _=some _; rw [hinc],Yt⟩,⟨by show some _=some _; rw [hdec],Yt⟩,Yt⟩,⟨⟨by decide,rfl,Ze (fun _ h=>h.elim) _ (Z3D _ _)⟩,Yt⟩⟩
 . refine Qo (Qz rfl (by omega)) ?_;refine go ?_;exact⟨_,_,rfl,.inl rfl,_,rfl,Yt,Z3D _ _,by rw [Zio l (by omega)]⟩
end
section
open Go.RowKit
def kid1 (q:List PV) (i:Nat):Bx:=⟨q.length+1,[.own i :: q]⟩
section
variable {P:Program} {C:Ctx} {Fr:Nat->Prop} {e:Env} {h:X1} {n:Nat} {F:XI} {φ:XH} {a:Act} {w:World}
theorem X2q.kid1 {φ':XH} {loc:Loc} {q:List PV} {i i':Nat} (h2:X2q F φ w loc (kid1 q i)) (hi:φ i=φ' i') (hq:X6 q):X2q F φ' w loc (Go.Proofs.YtofglfpgfdahaaaGreatDoor.kid1 q i'):=by
 have h2:=h2.cellsB (show 0<q.length+1 by omega);refine .inl ⟨h2.esz,h2.pos,h2.len,h2.cap,h2.max,fun c hc=>?_,fun hc=>?_⟩
 . have hc : c ∈ [PV.own i' :: q] := hc;rw [Y0g] at hc;subst hc;rw [<- h2.esz]; rfl
 . obtain ⟨x, hx, hs, cells, t, hg, hsz, hrep⟩ := h2.room hc;refine⟨x,hx,hs,cells,t,hg,hsz,fun a b ha hb=>⟨(hrep a b ha hb).1,?_⟩⟩;have hr:=(hrep a b ha hb).2;have hl:loc.len=1:=by rw [<- h2.len]; rfl
   obtain rfl:a=0:=by omega
   match b,hr with
   | 0,hr=>exact Z7o hi hr
   | b+1,hr=>exact Rep.pure (p:=q.getD b pvu) hr (ZN hq b)
def X1k (P:Program) (f:FuncId) (pre post q:List PV) (b1:Bx) (R:PV->Bx->Prop):Prop :=
 X12 P f 2 (pre++.ptr 0 0 0 :: post) (XF [(0,kid1 q 1),(1,b1)]) fun n' r h'=>∃ j1 b1',j1≠0/\h' 0=some (kid1 q j1)/\h' j1=some b1'/\r.pure/\X3 b1'.elems/\R r b1'
theorem X1k.run {f:FuncId} {pre post q:List PV} {b1:Bx} {R:PV->Bx->Prop} (hs:X1k P f pre post q b1 R) (hpre:X6 pre) (hpost:X6 post) (hq:X6 q) (hp1:X3 b1.elems) {k i n:Nat} (hn:Fr n) (hk:h k=some (kid1 q i)) (hi:h i=some b1) (hik:i≠k)
 (s:St' C Fr e h F φ a w) {vs:Array Value} (hv:X1C F φ vs (pre++.ptr k 0 0 :: post)) :
 Calls P f vs w fun en w'=>∃ v r b1' F' φ',en=.returned v/\(r.pure/\X3 b1'.elems/\R r b1')/\Rep F' φ' v r/\St' C (fun x=>Fr x/\x≠n) e (((h.del i).upd k (kid1 q n)).upd n b1') F' φ' a w':=by
 obtain⟨lk,hlk,hbk,hhk⟩:=s.live k _ hk;obtain⟨li,hli,hbi,hhi⟩:=s.live i _ hi
 let φ1:XH:=fun x=>if x=0 then some lk else if x=1 then some li else none
 let C1:Ctx:=⟨w,fun g=>lk.has g \/ li.has g,F,C.nt,φ1⟩
 have hφn:φ n=none:=s.free n hn;have hnone:∀ {x:Nat} {bx:Bx},h x=some bx->x≠n:=by
  intro x bx hx;obtain⟨loc,h1,_⟩:=s.live x bx hx;exact fun e=>(by rw [e,hφn] at h1; cases h1)
 have hG:∀ g,C1.G g->C.w0.heap.size<=g \/ C.G g:=fun g hg=>hg.elim (fun h=>(hhk g h).1) fun h=>(hhi g h).1;have hth:∀ {loc:Loc} {b:Bx} {g:Nat},X2q F φ w loc b->loc.has g->∀ o:Obj,w.heap[g]?=some o->¬ o=.deferred (some []):=by
  rintro loc b g hb hg o ho rfl;rcases hb.there hg with⟨cells,t,hg⟩|⟨es,t,hg⟩
  . rw [hg] at ho; cases ho
  . rw [hg] at ho; cases ho
 have hcells:∀ g,C1.G g->∀ o:Obj,w.heap[g]?=some o->¬ o=.deferred (some []):=fun g hg=>hg.elim (hth hbk) (hth hbi);have h0:∀ {x:Nat} {b0:Bx},(XF [(0,kid1 q 1),(1,b1)]) x=some b0->(x=0/\b0=kid1 q 1) \/ (x=1/\b0=b1):=by
  intro x b0 hx;have:=Z1F hx;simp only [YB,Y2S,Y2s,Y45] at this;exact this
 have s1:St' C1 (fun x=>2<=x) (fun _=>none) (XF [(0,kid1 q 1),(1,b1)]) F φ1 { a with defers := [] } w:=by
  refine { nt:=s.nt,glob:=s.glob,marks:=X1q.nil rfl,loc0:=fun i x hx=>hx,free:=fun i hi=>?_,env:=fun j p hp=>(by cases hp),froz:=s.froz,ext:=fun _ _ h=>h,old:=fun _ _ _=>rfl,os:=rfl,tape:=rfl,output:=rfl,size:=Y0m _,kept:=fun _ _ _=>rfl,live:=fun x b0 hx=>?_,sep:=fun x y bx bY lx ly g hx hy hlx hly hgx hgy=>?_ }
  . simp only [φ1]; rw [Y6 (by omega),Y6 (by omega)]
  . rcases h0 hx with ⟨rfl, rfl⟩ | ⟨rfl, rfl⟩
    . exact⟨lk,rfl,hbk.kid1 (by rw [hli]; rfl) hq,fun g hg=>⟨.inr (.inl hg),(hhk g hg).2⟩⟩
    . exact⟨li,rfl,hbi.names hp1,fun g hg=>⟨.inr (.inr hg),(hhi g hg).2⟩⟩
  . rcases h0 hx with ⟨rfl, rfl⟩ | ⟨rfl, rfl⟩ <;> rcases h0 hy with ⟨rfl, rfl⟩ | ⟨rfl, rfl⟩ <;> first | rfl | skip
    all_goals
     obtain rfl:=YQ hlx;obtain rfl:=YQ hly;exfalso
    . exact hik (s.sep k i _ _ _ _ g hk hi hlk hli hgx hgy).symm
    . exact hik (s.sep i k _ _ _ _ g hi hk hli hlk hgx hgy)
 have hv1:X1C F φ1 vs (pre++.ptr 0 0 0 :: post):=Z8n hpre hpost (fun v hr=>by
  obtain⟨loc',x,g1,gz,g2,g3,g4⟩:=hr.ptr_inv;obtain rfl:loc'=lk:=by rw [hlk] at g1; simpa using g1.symm
  rw [g4]
  exact .ptr 0 0 0 loc' x rfl gz g2 g3) hv
 refine (hs.2 C1 _ F φ1 { a with defers := [] } w vs s1 hv1).mono ?_;rintro en w' ⟨v,r,n',h',F',φ',rfl,⟨j1,b1',hj10,hh0,hh1,hrp,hp1',hR⟩,hvr,s'⟩;obtain⟨l0,m01,m02,m03⟩:=s'.live 0 _ hh0;obtain⟨l1,m11,m12,m13⟩:=s'.live j1 _ hh1;obtain rfl:l0=lk:=by
  have:=s'.loc0 0 lk rfl;rw [m01] at this; exact YQ this
 let φ2:XH:=fun x=>if x=n then some l1 else φ x
 have hφ2:φ2 n=some l1:=by simp [φ2]
 have hφ3:∀ {x:Nat},x≠n->φ2 x=φ x:=fun {x} h1=>by simp only [φ2]; rw [Y6 h1]
 have hφ4:∀ x y,φ x=some y->φ2 x=some y:=fun x y hx=>by
  rw [hφ3 (fun e=>by rw [e,hφn] at hx; cases hx)]; exact hx
 have hkn:=hnone hk;have src:∀ {x:Nat} {bx:Bx},(((h.del i).upd k (kid1 q n)).upd n b1') x=some bx ->
  (x=n/\bx=b1') \/ (x=k/\bx=kid1 q n) \/ (x≠k/\x≠i/\h x=some bx):=by
  intro x bx hx;by_cases e2:x=n
  . subst e2; rw [X1.upd_same] at hx; exact .inl ⟨rfl,(YQ hx).symm⟩
  rw [X1.upd_ne _ _ e2] at hx;by_cases e3:x=k
  . subst e3; rw [X1.upd_same] at hx; exact .inr (.inl ⟨rfl,(YQ hx).symm⟩)
  rw [X1.upd_ne _ _ e3] at hx;obtain⟨e5,hx⟩:=X1.del_some hx;exact .inr (.inr ⟨e3,e5,hx⟩)
 have hold:∀ {x:Nat} {bx:Bx} {lx:Loc} {g:Nat},x≠k->x≠i->h x=some bx->φ x=some lx->lx.has g->¬ C1.G g:=by
  intro x bx lx g h1 h2 hx hlx hg hG;rcases hG with hg' | hg'
  . exact h1 (s.sep x k _ _ _ _ g hx hk hlx hlk hg hg')
  . exact h2 (s.sep x i _ _ _ _ g hx hi hlx hli hg hg')
 have hnew:∀ {lx:Loc} {g:Nat},(w.heap.size<=g \/ C1.G g)->C.w0.heap.size<=g \/ C.G g:=fun {lx g} h1=>h1.elim (fun h1=>.inl (Y03 s.size h1)) (hG g);refine⟨v,r,b1',F',φ2,rfl,⟨hrp,hp1',hR⟩,hvr.pure hrp,?_⟩
 refine { nt := s.nt, glob := s'.glob, marks := s.marks.mono (fun g hg => by rw [s'.kept g (Ye.1 hg).1 (fun hg' => hcells g hg' _ hg rfl)]; exact hg), loc0 := fun i x hx => hφ4 i x (s.loc0 i x hx), free := fun x hx => by rw [hφ3 hx.2]; exact s.free x hx.1, env := fun j p hp => ⟨(s.env j p hp).1, (s.env j p hp).2.mono s'.ext hφ4⟩, froz := s'.froz, ext := fun x v hx => s'.ext _ _ (s.ext x v hx),
          old:=fun x hx hg=>?_,os:=s'.os.trans s.os,tape:=s'.tape.trans s.tape,output:=s'.output.trans s.output,size:=Y03 s.size s'.size,kept:=fun g hk hg=>?_,live:=fun x bx hx=>?_,sep:=fun x y bx bY lx ly g hx hy hlx hly hgx hgy=>?_ }
 . have hx2 : x.block < w.heap.size := YF hx s.size;rw [s'.old x hx2 fun hg'=>(hG _ hg').elim (fun h1=>absurd hx (Y1W.2 h1)) hg];exact s.old x hx hg
 . rw [s'.kept g (YF hk s.size) fun hg' => (hG _ hg').elim (fun h1 => absurd hk (Y1W.2 h1)) hg];exact s.kept g hk hg
 . rcases src hx with ⟨rfl, rfl⟩ | ⟨rfl, rfl⟩ | ⟨h1, h2, hx⟩
   . exact⟨l1,hφ2,m12.names hp1',fun g hg=>⟨hnew (lx:=l1) (m13 g hg).1,(m13 g hg).2⟩⟩
   . exact⟨l0,hφ4 _ _ hlk,m02.kid1 (by rw [m11,hφ2]) hq,fun g hg=>⟨(hhk g hg).1,(m03 g hg).2⟩⟩
   . obtain ⟨lx, g1, g2, g3⟩ := s.live x bx hx;have hout:∀ g,lx.has g->¬ C1.G g:=fun g hg=>hold h1 h2 hx g1 hg;have hblk:∀ g,lx.has g->w'.heap[g]?=w.heap[g]?:=fun g hg=>s'.kept g (s.has_lt hx g1 hg) (hout g hg);have hne:=hnone hx;refine⟨lx,by rw [hφ3 hne]; exact g1,g2.mono s'.ext hφ4 hblk,fun g hg=>⟨(g3 g hg).1,fun z hz=>?_⟩⟩;rw [s'.old z (by rw [hz]; exact s.has_lt hx g1 hg) (by rw [hz]; exact hout g hg)];exact (g3 g hg).2 z hz
 . have cls : ∀ {x : Nat} {bx : Bx} {lx : Loc} {g : Nat}, (((h.del i).upd k (kid1 q n)).upd n b1') x = some bx -> φ2 x = some lx -> lx.has g ->
    (h x=some bx/\φ x=some lx/\g<w.heap.size/\¬ C1.G g) \/ ((w.heap.size<=g \/ C1.G g)/\∃ y b',h' y=some b'/\φ' y=some lx/\((x=n/\y=j1) \/ (x=k/\y=0))):=by
    intro x bx lx g hx hlx hg;rcases src hx with⟨rfl,rfl⟩|⟨rfl,rfl⟩|⟨h1,h2,hx⟩
    . rw [hφ2] at hlx; cases hlx;exact .inr ⟨(m13 g hg).1,j1,_,hh1,m11,.inl ⟨rfl,rfl⟩⟩
    . rw [hφ4 _ _ hlk] at hlx; cases hlx;exact .inr ⟨(m03 g hg).1,0,_,hh0,m01,.inr ⟨rfl,rfl⟩⟩
    . have hne := hnone hx;rw [hφ3 hne] at hlx;exact .inl ⟨hx,hlx,s.has_lt hx hlx hg,hold h1 h2 hx hlx hg⟩
   rcases cls hx hlx hgx with⟨a1,a2,a3,a4⟩|⟨a1,y1,c1,a2,a3,a4⟩<;>rcases cls hy hly hgy with⟨d1,d2,d3,d4⟩|⟨d1,y2,c2,d2,d3,d4⟩
   . exact s.sep x y bx bY lx ly g a1 d1 a2 d2 hgx hgy
   . rcases d1 with d1 | d1
     . omega
     . exact absurd d1 a4
   . rcases a1 with a1 | a1
     . omega
     . exact absurd a1 d4
   . have := s'.sep y1 y2 c1 c2 lx ly g a2 d2 a3 d3 hgx hgy;subst this;rcases a4 with⟨rfl,rfl⟩|⟨rfl,rfl⟩<;>rcases d4 with⟨rfl,e⟩|⟨rfl,e⟩<;>first|rfl|omega
theorem X1k.frame {f:FuncId} {pre post q:List PV} {b1:Bx} {R:PV->Bx->Prop} (hs:X1k P f pre post q b1 R) (hpre:X6 pre) (hpost:X6 post) (hq:X6 q) (hp1:X3 b1.elems) {k i n:Nat} (hk:h k=some (kid1 q i)) (hi:h i=some b1) (hik:i≠k) :
 X12 P f n (pre++.ptr k 0 0 :: post) h fun n' r h'=>∃ b1',n'=n+1/\h'=((h.del i).upd k (kid1 q n)).upd n b1'/\r.pure/\X3 b1'.elems/\R r b1':=by
 refine⟨hs.1,fun C e F φ a w vs s hv=>(hs.run hpre hpost hq hp1 (n:=n) (Y0m n) hk hi hik s hv).mono ?_⟩;rintro en w' ⟨v,r,b1',F',φ',rfl,⟨h1,h2,h3⟩,hr,s'⟩;exact⟨v,r,n+1,_,F',φ',rfl,⟨b1',rfl,rfl,h1,h2,h3⟩,hr,{ s' with free:=fun i hi=>s'.free i ⟨by omega,by omega⟩ }⟩
theorem Z14 {f:Operand} {args:List Operand} {g:FuncId} {caps as0 pre post q:List PV} {b1:Bx} {k i:Nat} {R:PV->Bx->Prop} {d:Option Nat} {os:List Xn} {n:Nat} {K:Nat->Env->X1->Prop} (hs:X1k P g pre post q b1 R) (hf:ev e f=some (.fn g caps)) (ha:evs e args=some as0) (hr:as0++caps=pre++.ptr k 0 0 :: post) (hk:h k=some (kid1 q i)) (hi:h i=some b1) (hik:i≠k) (hpre:X6 pre) (hpost:X6 post) (hq:X6 q) (hp1:X3 b1.elems)
 (hK:∀ r b1',r.pure->X3 b1'.elems->R r b1'->Xm P os (n+1) (Xy e d r) (((h.del i).upd k (kid1 q n)).upd n b1') K):Xm P (⟨d,.call f args,none⟩ :: os) n e h K:=by
 refine Z1v hf ha (R:=fun n' r h'=>∃ b1',n'=n+1/\h'=((h.del i).upd k (kid1 q n)).upd n b1'/\r.pure/\X3 b1'.elems/\R r b1') (by rw [hr]; exact hs.frame hpre hpost hq hp1 hk hi hik) ?_;rintro n' r h' ⟨b1',rfl,rfl,h1,h2,h3⟩;exact hK r b1' h1 h2 h3
theorem Z2W {f nt:Nat} {ac:X2} {rs:List X2g} (hf:X42 P f nt ac rs) {pre post q:List PV} {b1:Bx} {R:PV->Bx->Prop} (hn:(pre++.ptr 0 0 0 :: post).length<=nt)
 (hk:∀ C:Ctx,C.dom 2->aw P C ac (X5G rs fun n' r h'=>∃ j1 b1',j1≠0/\h' 0=some (kid1 q j1)/\h' j1=some b1'/\r.pure/\X3 b1'.elems/\R r b1') 2 (XT (pre++.ptr 0 0 0 :: post)) (XF [(0,kid1 q 1),(1,b1)])):X1k P f pre post q b1 R :=
 Z1P hf hn hk
theorem Z7E {ob i0 j0:Nat} {bo:Bx} (esz:Nat) (hp:0<esz) (hob:h ob=some bo) (hi0:i0<bo.elems.length) (hj0:j0<(bo.elems.getD i0 []).length) (hcell:(bo.elems.getD i0 []).getD j0 pvu=.vec [] true) (hz:0<bo.esz:=by exact Y0 rfl) :
 Sub C n e h (n+1) e ((h.upd n ⟨esz,[]⟩).upd ob ⟨bo.esz,bo.elems.set i0 ((bo.elems.getD i0 []).set j0 (.own n))⟩):=by
 rintro a w ⟨F,φ,s⟩;obtain⟨lo,o1,o2,o3⟩:=s.live ob bo hob;have o2:=o2.cellsB hz;have hcl:(bo.elems.getD i0 []).length=lo.esz:=o2.el _ (by simp [Y0b,hi0]);have hc0o:lo.cap≠0:=by have:=o2.cap; have:=o2.len; omega
 obtain⟨ado,hbaseo,hso,cellso,cto,hgo,hroomo,hrepo⟩:=o2.room hc0o;have hr0:=(hrepo i0 j0 (by rw [<- o2.len]; exact hi0) (by rw [<- hcl]; exact hj0)).2;rw [hcell] at hr0;have hbase:∃ base,cellso.getD (ado.off+(i0*lo.esz+j0)) undef=.slice base 0 0:=by
  rcases hr0.vec_inv with⟨_,h⟩|⟨x,cap,esz',cs,h,_,_,hf,_⟩
  . exact⟨none,h⟩
  . exact⟨some x,by rw [h,hf rfl]; rfl⟩
 obtain⟨base,hb⟩:=hbase;have hno:ob≠n:=fun e1=>by
  have:=s.free n (Y0m n);rw [<- e1,o1] at this; cases this
 have hfr:∀ i,n+1<=i->n<=i/\i≠n:=fun i hi=>⟨by omega,by omega⟩
 have s1:=(s.allocNil (Y0m n) base esz hp).weaken hfr;have hext:=Z1E (s.free n (Y0m n)) ⟨base,esz,0,0⟩;have o1':=hext _ _ o1;have hdel:(h.upd n ⟨esz,[]⟩) ob=some bo:=by rw [X1.upd_ne _ _ hno]; exact hob
 have fin:∀ {φ':XH},(∀ x v,φ x=some v->φ' x=some v)->φ' ob=some lo->St' C (fun i=>n+1<=i) e (h.upd n ⟨esz,[]⟩) F φ' a w->Rep F φ' (cellso.getD (ado.off+(i0*lo.esz+j0)) undef) (.own n) ->
  St C (fun i=>n+1<=i) e ((h.upd n ⟨esz,[]⟩).upd ob ⟨bo.esz,bo.elems.set i0 ((bo.elems.getD i0 []).set j0 (.own n))⟩) a w:=by
  intro φ' hx ho' s2 hrep;refine⟨F,φ',{ s2 with live:=fun i bi hi=>?_,sep:=fun i j bi bj li lj k hi hj hli hlj hki hkj=>?_ }⟩
  . by_cases hio : i = ob
    . subst hio;rw [X1.upd_same] at hi;cases hi;obtain⟨l2,g1,g2,g3⟩:=s2.live i bo hdel;obtain rfl:l2=lo:=by rw [g1] at ho'; simpa using ho'
      refine⟨l2,g1,.inl ⟨o2.esz,o2.pos,by simpa using o2.len,o2.cap,o2.max,fun c hc=>?_,fun _=>⟨ado,hbaseo,hso,cellso,cto,hgo,hroomo,fun i' j' hi' hj'=>?_⟩⟩,g3⟩
      . rcases Y1T hc with h | h
        . exact o2.el c h
        . rw [h,Y14]; exact hcl
      . refine ⟨(hrepo i' j' hi' hj').1, ?_⟩;by_cases hii:i'=i0
        . subst hii;have e1:(bo.elems.set i' ((bo.elems.getD i' []).set j0 (.own n))).getD i' []=(bo.elems.getD i' []).set j0 (.own n):=by
           rw [Y0b,YY]; simp [hi0]
          rw [e1];by_cases hjj:j'=j0
          . subst hjj;have e2:((bo.elems.getD i' []).set j' (.own n)).getD j' pvu=.own n:=by
             rw [Y0b,YY,Y5 rfl,Y5 hj0]; rfl
            rw [e2];exact hrep
          . have e2 : ((bo.elems.getD i' []).set j0 (.own n)).getD j' pvu = (bo.elems.getD i' []).getD j' pvu := by
             rw [Y0b,YY,Y6 (Y25 hjj),<- Y0b]
            rw [e2];exact (hrepo i' j' hi' hj').2.mono (fun _ _ h=>h) hx
        . have e1 : (bo.elems.set i0 ((bo.elems.getD i0 []).set j0 (.own n))).getD i' [] = bo.elems.getD i' [] := by
           rw [Y0b,YY,Y6 (Y25 hii),<- Y0b]
          rw [e1];exact (hrepo i' j' hi' hj').2.mono (fun _ _ h=>h) hx
    . rw [X1.upd_ne _ _ hio] at hi;exact s2.live i bi hi
  . have conv : ∀ {i : Nat} {bi : Bx}, ((h.upd n ⟨esz, []⟩).upd ob ⟨bo.esz, bo.elems.set i0 ((bo.elems.getD i0 []).set j0 (.own n))⟩) i = some bi -> ∃ b0, (h.upd n ⟨esz, []⟩) i = some b0 := by
     intro i bi hi;by_cases hio:i=ob
     . subst hio; exact⟨bo,hdel⟩
     . rw [X1.upd_ne _ _ hio] at hi; exact⟨bi,hi⟩
    obtain⟨b1,g1⟩:=conv hi
    obtain⟨b2,g2⟩:=conv hj
    exact s2.sep i j b1 b2 li lj k g1 g2 hli hlj hki hkj
 refine fin hext o1' s1 ?_;rw [hb];exact .own n ⟨base,esz,0,0⟩ (by simp [Xk]) hp
theorem Z2M {ob i0 j0:Nat} {bo:Bx} (esz:Nat) (hp:0<esz) (hob:h ob=some bo) (hi0:i0<bo.elems.length) (hj0:j0<(bo.elems.getD i0 []).length) (hcell:(bo.elems.getD i0 []).getD j0 pvu=.vec [] true) (hz:0<bo.esz:=by exact Y0 rfl) :
 X4o n e h (n+1) e ((h.upd n ⟨esz,[]⟩).upd ob ⟨bo.esz,bo.elems.set i0 ((bo.elems.getD i0 []).set j0 (.own n))⟩):=fun _=>Z7E esz hp hob hi0 hj0 hcell hz
end
end
section
open Go.RowKit
attribute [local irreducible] aw Xm dK
def gR:Nat->Nat->List Nat
 | 0,_ => []
 | f+1,v=>if v=0 then [] else ((v &&& 127) ||| 128) :: gR f (v / 128)
def grp (v:Nat):List Nat:=((v &&& 127) :: gR v (v / 128)).reverse
theorem Zc5:∀ (f f' v:Nat),v<=f->v<=f'->gR f v=gR f' v
 | 0,0,_,_,_=>rfl
 | 0, f' + 1, v, h, _ => by
   obtain rfl:v=0:=by omega
   rfl
 | f + 1, 0, v, _, h => by
   obtain rfl:v=0:=by omega
   rfl
 | f + 1, f' + 1, v, h, h' => by
   show (if v=0 then [] else _)=(if v=0 then [] else _)
   split
   . rfl
   . rw [Zc5 f f' (v / 128) (by omega) (by omega)]
theorem ZjQ (f:Nat):gR f 0 = []:=by cases f<;>rfl
theorem ZjR {v:Nat} (h:v≠0):gR v v=((v &&& 127) ||| 128) :: gR (v / 128) (v / 128):=by
 obtain⟨f,rfl⟩:∃ f,v=f+1:=⟨v-1,by omega⟩
 show (if f+1=0 then [] else ((f+1 &&& 127) ||| 128) :: gR f ((f+1) / 128))=_;rw [Y6 (by omega),Zc5 f ((f+1) / 128) ((f+1) / 128) (by omega) (Y0m _)]
theorem ZiS:∀ (f v:Nat),(gR f v).length<=v
 | 0,v=>Y0l _
 | f + 1, v => by
   show (if v=0 then [] else ((v &&& 127) ||| 128) :: gR f (v / 128)).length<=v
   split
   . exact Y0l _
   . have := ZiS f (v / 128);rw [Y04];omega
theorem Z1K (v:Nat):(grp v).length<=v+1:=by
 unfold grp;rw [List.length_reverse,Y04];have:=ZiS v (v / 128);omega
theorem Zlu:∀ (f v:Nat),W8 (gR f v)
 | 0,_=>fun _ hx=>by cases hx
 | f + 1, v => fun x hx => by
   change x∈(if v=0 then [] else ((v &&& 127) ||| 128) :: gR f (v / 128)) at hx
   split at hx
   . cases hx
   . rcases YB.1 hx with rfl | hx
     . exact Y2k (n:=8) (Y02 Y28 (by decide)) (by decide)
     . exact Zlu f _ x hx
theorem Zat (v:Nat):W8 (grp v):=fun x hx=>by
 rcases YB.1 (List.mem_reverse.1 hx) with rfl|hx
 . exact Y02 Y28 (by decide)
 . exact Zlu _ _ x hx
theorem Z9p (l m:List Nat):bys (l++m)=bys l++bys m:=by unfold bys; rw [Y0r]
theorem Z7q (l:List Nat):(bys l).length=l.length:=by simp [bys]
theorem ZgN (l:List Nat):∀ c∈bys l,c.length=1:=fun c hc=>by obtain⟨y,_,rfl⟩:=Y0i.1 hc; rfl
theorem Zip (v:Nat) (hv:v<1000000):X7 Tryz.prog 128 [.val (.int .u64 (v:Int))] (· = .vec (bys (grp v)) false):=by
 refine Yp ok128 fun C hC=>?_;have hshr:∀ x:Nat,Int.fdiv (x:Int) (2 ^ (min ((7:Nat):Int).toNat IntKind.u64.bits))=((x / 128:Nat):Int):=fun x=>X5l x 7 (by decide);have hand:∀ x:Nat,x<1000000->bits .and .u64 (x:Int) ((127:Nat):Int)=((x &&& 127:Nat):Int):=fun x hx=>Y27 x 127 (by omega) (by decide);have hu8:∀ x:Nat,IntKind.u8.wrap ((x &&& 127:Nat):Int)=((x &&& 127:Nat):Int):=fun x=>by
  have:x &&& 127<=127:=Y28;exact Y3E _ ⟨by omega,by omega⟩
 refine gd 5 ⟨?_⟩;refine Zh (v:=((v &&& 127:Nat):Int)) rfl rfl rfl (hand v hv) ?_;refine Zh (v:=((v &&& 127:Nat):Int)) rfl rfl rfl (hu8 v) ?_;refine Z3k rfl rfl rfl ?_;refine gd 9 ⟨?_⟩;refine Z3m rfl rfl (by decide) (hshr v) rfl ?_;refine go ?_;refine ZA hC (fun x:List Nat×Nat=>x.2<1000000/\x.1.length+x.2<=v+1/\x.1++gR x.2 x.2=(v &&& 127) :: gR v (v / 128)) (fun x=>x.2) 1 (fun x => [(0,.val (.int .u64 (x.2:Int))),(3,.own 0)]) (fun x => [(0,⟨1,bys x.1⟩)]) (by decide) ([v &&& 127],v / 128) ⟨by show v / 128<_; omega,by show 1+v / 128<=_; omega,by show _ :: gR (v / 128) (v / 128)=_; rw [Zc5 (v / 128) v (v / 128) (Y0m _) (by omega)]⟩
  (fun i=>i) (fun _ _=>rfl) (Zu rfl) ⟨Qp Yt,⟨_,rfl,.own 0 (by decide)⟩,Yt⟩ ⟨⟨by decide,⟨1,bys [v &&& 127]⟩,rfl,.same _ (Zg _)⟩,Yt⟩ ?_
 rintro⟨acc,y⟩ ⟨hy,hyl,hyt⟩;dsimp only at hy hyl hyt;refine gd 11 ⟨?_⟩;by_cases h0:y=0
 . refine Qo (Qz rfl (by show ¬ ((y : Int) > 0); omega)) ?_;rw [h0,ZjQ,Y0p] at hyt;refine gd 22 ⟨?_⟩;refine ZkK 0 (Zev acc (by omega)) (Z9i Z3M Zgn) rfl rfl rfl rfl (Zg _) ?_;rintro r b' hr1 hr2 rfl;refine gd 23 ⟨?_⟩;refine Zb (Zm (k:=3) (b:=⟨1,X14 .u8 acc.reverse⟩) rfl rfl (Z3D _ _)) ?_;refine go ?_;exact Z8 rfl (Zg _) (by show PV.vec (bys acc.reverse) false=_; rw [hyt]; rfl)
 . refine Qo (Qy rfl (by show ((y : Int) > 0); omega)) ?_;rw [ZjR h0] at hyt;refine gd 16 ⟨?_⟩;refine Zh (v:=((y &&& 127:Nat):Int)) rfl rfl rfl (hand y hy) ?_;refine Zh (v:=((y &&& 127:Nat):Int)) rfl rfl rfl (hu8 y) ?_;refine Zh (v:=(((y &&& 127) ||| 128:Nat):Int)) rfl rfl rfl (u8_or_nat (y &&& 127) 128 (Y02 Y28 (by decide)) (by decide)) ?_;(first|refine st ?_|(apply B<;>intro hb<;>try cases hb))
   refine ZF (Zt (k:=0) (m:=bys [(y &&& 127) ||| 128]) (fl:=true) rfl rfl rfl (ZgN _) rfl (by
    show ((bys acc).length+1)*1<=_
    rw [Z7q];omega)) rfl rfl ?_
   refine gd 13 ⟨?_⟩;refine Z3m rfl rfl (by decide) (hshr y) rfl ?_;refine go ?_;refine⟨(acc ++ [(y &&& 127) ||| 128],y / 128),mv 0 1,⟨by show y / 128<_; omega,by show (acc ++ [_]).length+y / 128<=_; rw [Y0e,Y0s]; omega,by show (acc ++ [_])++gR (y / 128) (y / 128)=_; rw [YV]; exact hyt⟩,by show y / 128<y; omega,Z57 (by decide),Zu rfl,⟨Qp Yt,⟨_,rfl,.own 0 (by decide)⟩,Yt⟩,⟨⟨by decide,_,rfl,by rw [Z9p]; exact .same _ (by rw [<- Z9p]; exact Zg _)⟩,Yt⟩⟩
abbrev wBx (l:List Nat):Bx:=⟨1,bys l⟩
theorem Ziq (l p:List Nat) (fl:Bool) (hb:l.length+p.length<=1000000):X1k Tryz.prog 127 [] [.vec (bys p) fl] [] (wBx l) (fun _ b'=>b'=wBx (l++p)):=by
 refine Z2W ok127 (Y0 rfl) fun C hC=>?_;refine gd 12 ⟨?_⟩
 refine ZF (Zt (k:=1) (m:=bys p) (fl:=fl) (b:=wBx l) rfl rfl rfl (ZgN _) rfl (by
  show ((bys l).length+(bys p).length)*1<=_
  rw [Z7q,Z7q];omega)) rfl rfl ?_
 iterate 2 (first|refine st ?_|(apply B<;>intro hb<;>try cases hb))
 refine Qo (Z1U (size:=1) (k:=0) (i:=0) (off:=0) (b:=kid1 [] 1) (p:=.own 2) rfl rfl rfl rfl rfl (by decide) (by decide)) ?_;refine go ?_;exact⟨_,_,rfl,.inl rfl,2,_,by decide,rfl,rfl,Yt,by show X3 (bys l++bys p); rw [<- Z9p]; exact Zg _,by show (⟨1,bys l++bys p⟩:Bx)=_; rw [<- Z9p]⟩
theorem Z64 (l:List Nat) (v:Nat) (hv:v<1000000) (hb:l.length+v<1000000):X1k Tryz.prog 66 [] [.val (.int .u64 (v:Int))] [] (wBx l) (fun _ b'=>b'=wBx (l++grp v)):=by
 refine Z2W ok66 (Y0 rfl) fun C hC=>?_;have hgl:=Z1K v;refine gd 6 ⟨?_⟩;refine Qe (Zip v hv) ⟨Yt,Yt⟩ ?_;refine Z14 (k:=0) (i:=1) (Ziq l (grp v) false (by omega)) rfl rfl rfl rfl rfl (by decide) Yt ⟨Zg _,Yt⟩ Yt (Zg _) ?_;rintro r b' hr1 hr2 rfl;refine go ?_;exact⟨_,_,rfl,.inl rfl,2,_,by decide,rfl,rfl,Yt,Zg _,rfl⟩
def wB (p:List Nat):List Nat:=grp p.length++p
theorem Z6w (l p:List Nat) (fl:Bool) (hb:l.length+2*p.length<900000):X1k Tryz.prog 67 [] [.vec (bys p) fl] [] (wBx l) (fun _ b'=>b'=wBx (l++wB p)):=by
 refine Z2W ok67 (Y0 rfl) fun C hC=>?_;have hgl:=Z1K p.length;refine gd 7 ⟨?_⟩;refine Zh (v:=(p.length:Int)) rfl rfl rfl (by rw [Z7q]; exact Y0x _ ⟨by omega,by omega⟩) ?_;refine Z14 (k:=0) (i:=1) (Z64 l p.length (by omega) (by omega)) rfl rfl rfl rfl rfl (by decide) Yt ⟨Yt,Yt⟩ Yt (Zg _) ?_;rintro r b' hr1 hr2 rfl;refine gd 11 ⟨?_⟩;refine Z14 (k:=0) (i:=2) (Ziq (l++grp p.length) p fl (by rw [Y0e];omega)) rfl rfl rfl rfl rfl (by decide) Yt ⟨Zg _,Yt⟩ Yt (Zg _) ?_;rintro r b' hr1 hr2 rfl;refine go ?_;exact⟨_,_,rfl,.inl rfl,3,_,by decide,rfl,rfl,Yt,Zg _,by rw [YV]; rfl⟩
theorem ZkV (l:List Nat) (b:Bool) (hb:l.length<900000):X1k Tryz.prog 70 [] [.val (.bool b)] [] (wBx l) (fun _ b'=>b'=wBx (l ++ [cond b 1 0])):=by
 refine Z2W ok70 (Y0 rfl) fun C hC=>?_;cases b with
 | true =>
   refine gd 7 ⟨?_⟩;refine Z14 (k:=0) (i:=1) (Ziq l [1] true (by show l.length+1<=_;omega)) rfl rfl rfl rfl rfl (by decide) Yt ⟨Zg _,Yt⟩ Yt (Zg _) ?_;rintro r b' hr1 hr2 rfl;refine go ?_;exact⟨_,_,rfl,.inl rfl,2,_,by decide,rfl,rfl,Yt,Zg _,rfl⟩
 | false =>
   refine gd 10 ⟨?_⟩;refine Z14 (k:=0) (i:=1) (Ziq l [0] true (by show l.length+1<=_;omega)) rfl rfl rfl rfl rfl (by decide) Yt ⟨Zg _,Yt⟩ Yt (Zg _) ?_;rintro r b' hr1 hr2 rfl;refine go ?_;exact⟨_,_,rfl,.inl rfl,2,_,by decide,rfl,rfl,Yt,Zg _,rfl⟩
def sB (N:Nat):List Nat:=if N=0 then [] else [N]
theorem ZjS (N:Nat):X6l N=.vec (bys (sB N)) (decide (N=0)):=by
 unfold X6l sB;by_cases h:N=0
 . subst h; rfl
 . rw [Y6 h,Y6 h,Y0w h]
theorem Z8p (N:Nat):(sB N).length<=1:=by
 unfold sB
 split<;>simp
theorem ZjT (l:List Nat) (N:Nat) (hN:N<256) (hb:l.length<800000):X1k Tryz.prog 69 [] [XD N] [] (wBx l) (fun _ b'=>b'=wBx (l++wB (sB N))):=by
 refine Z2W ok69 (Y0 rfl) fun C hC=>?_;have hsl:=Z8p N;refine gd 6 ⟨?_⟩;refine Qe (Zc4 N hN) ⟨Z2 N,Yt⟩ ?_;rw [ZjS];refine Z14 (k:=0) (i:=1) (Z6w l (sB N) (decide (N=0)) (by omega)) rfl rfl rfl rfl rfl (by decide) Yt ⟨Zg _,Yt⟩ Yt (Zg _) ?_;rintro r b' hr1 hr2 rfl;refine go ?_;exact⟨_,_,rfl,.inl rfl,_,_,by decide,rfl,rfl,Yt,Zg _,rfl⟩
def cB (c:Cu):List Nat:=wB (sB c.1)++wB (sB c.2)
theorem Z5v (p:List Nat):(wB p).length<=2*p.length+1:=by
 unfold wB;rw [Y0e];have:=Z1K p.length;omega
theorem ZgO (c:Cu):(cB c).length<=6:=by
 unfold cB;rw [Y0e];have h1:=Z5v (sB c.1);have h2:=Z5v (sB c.2);have h3:=Z8p c.1;have h4:=Z8p c.2;omega
theorem ZkW (l:List Nat) (c:Cu) (hc:c.1<256/\c.2<256) (hb:l.length<700000):X1k Tryz.prog 71 [] [cuP c] [] (wBx l) (fun _ b'=>b'=wBx (l++cB c)):=by
 refine Z2W ok71 (Y0 rfl) fun C hC=>?_;have h1:=Z5v (sB c.1);have h3:=Z8p c.1;refine gd 7 ⟨?_⟩;refine Z14 (k:=0) (i:=1) (ZjT l c.1 hc.1 (by omega)) rfl rfl rfl rfl rfl (by decide) Yt ⟨Z2 _,Yt⟩ Yt (Zg _) ?_;rintro r b' hr1 hr2 rfl;refine gd 11 ⟨?_⟩;refine Z14 (k:=0) (i:=3) (ZjT (l++wB (sB c.1)) c.2 hc.2 (by rw [Y0e];omega)) rfl rfl rfl rfl rfl (by decide) Yt ⟨Z2 _,Yt⟩ Yt (Zg _) ?_;rintro r b' hr1 hr2 rfl;refine go ?_;exact⟨_,_,rfl,.inl rfl,4,_,by decide,rfl,rfl,Yt,Zg _,by rw [YV]; rfl⟩
def lB (cs:List Cu):List Nat:=grp cs.length++cs.flatMap cB
theorem Zau (cs:List Cu):(cs.flatMap cB).length<=6*cs.length:=by
 induction cs with
 | nil=>exact Y0m _
 | cons c cs ih =>
   rw [Y1Q,Y0e,Y04];have:=ZgO c;omega
theorem ZiT (cs:List Cu):(lB cs).length<=7*cs.length+1:=by
 unfold lB;rw [Y0e];have:=Zau cs;have:=Z1K cs.length;omega
theorem Zew (cs:List Cu) {i:Nat} (hi:i<cs.length):(cs.take (i+1)).flatMap cB=(cs.take i).flatMap cB++cB cs[i]:=by
 rw [Y30 hi,Y1G,Y3M]
theorem ZiU (l:List Nat) (cs:List Cu) (fl:Bool) (hcs:∀ c∈cs,c.1<256/\c.2<256) (hb:l.length+10*cs.length<600000):X1k Tryz.prog 72 [] [.vec (cs.map cuC) fl] [] (wBx l) (fun _ b'=>b'=wBx (l++lB cs)):=by
 refine Z2W ok72 (Y0 rfl) fun C hC=>?_;have hgl:=Z1K cs.length;have hml:(cs.map cuC).length=cs.length:=Y0f ..;have hpi:∀ D,Xs D (cs.map cuC):=fun D=>Ze (fun _ h=>h.elim) _ (Zc Zi cs);refine gd 9 ⟨?_⟩;refine Zh (v:=(cs.length:Int)) rfl rfl rfl (by rw [hml]; exact Y0x _ ⟨by omega,by omega⟩) ?_;refine Z14 (k:=0) (i:=1) (Z64 l cs.length (by omega) (by omega)) rfl rfl rfl rfl rfl (by decide) Yt ⟨Yt,Yt⟩ Yt (Zg _) ?_;rintro r b' hr1 hr2 rfl;refine go ?_;refine ZA hC (fun i=>i<=cs.length) (fun i=>cs.length-i) 3 (fun i => [(0,.ptr 0 0 0),(1,.vec (cs.map cuC) fl),(11,.vec (cs.map cuC) fl),(12,.val (.int .i64 (cs.length:Int))),(13,Yv i)]) (fun i => [(0,kid1 [] 2),(2,wBx (l++grp cs.length++(cs.take i).flatMap cB))]) (by decide) 0 (Y0l _)
  (fun i=>i) (fun _ _=>rfl) (Zu rfl) ⟨Qt 0 0 0,Qp (Zc Zi cs),Qp (Zc Zi cs),⟨_,by rw [<- hml]; rfl,.pure _ Yt⟩,Qp Yt,Yt⟩
  ⟨⟨by decide,_,rfl,Xu.single ⟨.own 2 (by decide),Yt⟩ rfl⟩,⟨by decide,wBx (l++grp cs.length++(cs.take 0).flatMap cB),by rw [Y1u,Y3J,Y0p]; rfl,.same _ (Zg _)⟩,Yt⟩ ?_
 intro i hi;have hfl:=Zau (cs.take i);rw [Y0o,Y1D hi] at hfl;have hinc:IntKind.i64.wrap ((i:Int)+1)=((i+1:Nat):Int):=wi (i+1) (by omega);refine gd 14 ⟨?_⟩;by_cases hil:i<cs.length
 . refine Qo (Qy rfl (by omega)) ?_;have hci:=hcs cs[i] (Y0j hil);have hft:=Zew cs hil;refine gd 15 ⟨?_⟩;refine Qo (Zn (xs:=cs) (g:=cuC) rfl rfl i rfl hil rfl) ?_;generalize cs[i]=c at hci hft;refine gd 19 ⟨?_⟩;refine Z14 (k:=0) (i:=2) (ZkW (l++grp cs.length++(cs.take i).flatMap cB) c hci (by rw [Y0e,Y0e];omega)) rfl rfl rfl rfl rfl (by decide) Yt ⟨Zz _,Yt⟩ Yt (Zg _) ?_;rintro r b' hr1 hr2 rfl;refine go ?_;exact⟨i+1,mv 2 4,by omega,by omega,Z57 (by decide),Zu rfl,⟨Qt 0 0 0,Qp (Zc Zi cs),Qp (Zc Zi cs),Qp Yt,⟨_,by show some _=some _; rw [hinc],.pure _ Yt⟩,Yt⟩,⟨⟨by decide,_,rfl,Xu.single ⟨.own 2 (by decide),Yt⟩ rfl⟩,⟨by decide,_,rfl,by rw [hft,<- YV]; exact .same _ (Zg _)⟩,Yt⟩⟩
 . obtain rfl : i = cs.length := by omega
   refine Qo (Qz rfl (by omega)) ?_;rw [Y0q];refine go ?_;exact⟨_,_,rfl,.inl rfl,2,_,by decide,rfl,rfl,Yt,Zg _,by rw [YV]; rfl⟩
def dig (p:List Nat):List Nat:=X3v (HS.puts (p.length+1) ⟨List.replicate 25 0,List.replicate 136 0,0,0+p.length⟩ p)
theorem Z5R (p:List Nat):(dig p).length=32:=by simp [dig,X3v]
theorem ZgP (p:List Nat) (fl:Bool) (hp:W8 p) (hb:p.length<1000000):X7 Tryz.prog 132 [.vec (bys p) fl] (· = .agg (Xh .u8 (dig p))):=by
 refine Yp ok132 fun C hC=>?_;have hz:=ZgD (0+p.length);have hpok:=Zgu (p.length+1) (HS.zero (0+p.length)) p hz hp;refine gd 4 ⟨?_⟩;refine Z3r (Zc2) (Z7j 0 0) (Z3C _) rfl rfl Yt ?_;refine gd 7 ⟨?_⟩;refine ZU (id:=1) (ZjO (HS.zero 0) (ZgD 0) p fl hp (by show 0+p.length<_;omega)) rfl rfl rfl rfl (Z3C _) ⟨Zg _,Yt⟩ ?_;rintro r b' hr1 hr2 rfl;refine gd 9 ⟨?_⟩;refine ZU (id:=1) (Zlo _ hpok) rfl rfl rfl rfl (Z3C _) Yt ?_;rintro r b' hr1 hr2 ⟨rfl,rfl⟩;have hcl:(Xh .u8 (X3v (HS.puts (p.length+1) (HS.zero (0+p.length)) p))).length=32:=by rw [ZI]; exact Z5R p
 refine Qo (Z3L (l:=Xh .u8 (List.replicate 32 0)) rfl rfl rfl hcl rfl) ?_;refine go ?_;refine Z8 (Z2a (Z4e (l:=Xh .u8 (dig p) ++ []) (r:=Xh .u8 (dig p)) rfl rfl ?_ ?_)) (ZO _ _) rfl
 . rw [Y0p,ZI,Z5R]; decide
 . rw [Y0p,Y13,Y9 (by rw [ZI,Z5R]; exact Y0m _)]
theorem Z9q:X1u Tryz.prog 65 [] (fun i=>.ptr i 0 0) ⟨1,[[.vec [] true]]⟩:=by
 refine Z1z ok65 (Y0 rfl) fun C hC=>?_;refine go ?_;exact⟨_,_,rfl,.inl rfl,_,rfl,rfl⟩
theorem Zc6 (x:Nat) (l:List Nat) (fl:Bool) (hb:l.length<1000000):X7 Tryz.prog 133 [.vec (bys (x :: l)) fl] (· = .vec (bys (x :: l)) false):=by
 refine Yp ok133 fun C hC=>?_;refine gd 7 ⟨?_⟩
 refine Z5 (Z9H (l := []) (m:=bys (x :: l)) (fl:=fl) rfl rfl (fun c hc=>by cases hc) (ZgN _) (by
  show (0+(bys (x :: l)).length)*1<=_
  rw [Z7q,Y04];omega)) rfl rfl ?_
 refine go ?_;exact Z8 rfl (Zg _) rfl
theorem ZjU (x:Nat) (l:List Nat) (fl:Bool) (hb:l.length<1000000):X2d Tryz.prog 74 ⟨1,[[.vec (bys (x :: l)) fl]]⟩ [] (fun r b'=>r=.vec (bys (x :: l)) false/\b'=⟨1,[[.vec (bys (x :: l)) fl]]⟩):=by
 refine Z1Q ok74 (Y0 rfl) fun C hC=>?_;refine gd 9 ⟨?_⟩;refine Qe (Zc6 x l fl hb) ⟨Zg _,Yt⟩ ?_;refine go ?_;exact⟨_,_,rfl,.inl rfl,_,rfl,Zg _,⟨⟨Zg _,Yt⟩,Yt⟩,rfl,rfl⟩
def X3E (s:ByteArray):List Nat:=s.data.toList.map fun b=>b.toNat
theorem Zex (s:ByteArray):X1G s=bys (X3E s):=by
 unfold X1G bys X3E;rw [Y2C]
 rfl
theorem Zdi (s:ByteArray):(X3E s).length=s.size:=by
 unfold X3E;rw [Y0f]
 rfl
theorem Zlp (l:List Nat) (s:ByteArray) (hb:l.length+2*s.size<800000):X1k Tryz.prog 131 [] [.val (.string s)] [] (wBx l) (fun _ b'=>b'=wBx (l++wB (X3E s))):=by
 refine Z2W ok131 (Y0 rfl) fun C hC=>?_;have hs:=Zdi s;have hd:∀ (e:Env) (h:X1) (n:Nat) (x:Operand),ev e x=some (.val (.string s))->X4 (.s2b x) e h n=some (.vec (bys (X3E s)) false,h):=fun e h n x hx=>by
  simp only [X4,hx];rw [Y5 (by omega),Zex]
 refine gd 6 ⟨?_⟩;refine Qo (hd _ _ _ _ rfl) ?_;refine Z14 (k:=0) (i:=1) (Z6w l (X3E s) false (by omega)) rfl rfl rfl rfl rfl (by decide) Yt ⟨Zg _,Yt⟩ Yt (Zg _) ?_;rintro r b' hr1 hr2 rfl;refine go ?_;exact⟨_,_,rfl,.inl rfl,2,_,by decide,rfl,rfl,Yt,Zg _,rfl⟩
theorem Zkd {p:List Nat} (h:W8 p):W8 (wB p):=fun x hx=>(Y0h.1 hx).elim (Zat _ x) (h x)
theorem ZjV (p:List Nat):∃ x l,wB p=x :: l:=by
 unfold wB grp;rw [List.reverse_cons];cases h:(gR p.length (p.length / 128)).reverse with
 | nil=>exact⟨_,_,rfl⟩
 | cons a b=>exact⟨_,_,rfl⟩
theorem Zdj (v:Nat):∃ x l,grp v=x :: l:=by
 unfold grp;rw [List.reverse_cons];cases h:(gR v (v / 128)).reverse with
 | nil=>exact⟨_,_,rfl⟩
 | cons a b=>exact⟨_,_,rfl⟩
theorem Z7r:X3 (⟨1,[[PV.vec [] true]]⟩:Bx).elems:=⟨⟨Yt,Yt⟩,Yt⟩
def X4N (s:ByteArray) (p:List Nat):List Nat:=wB (X3E s)++wB p
theorem ZkX (s:ByteArray):W8 (X3E s):=fun x hx=>by
 obtain⟨b,_,rfl⟩:=Y0i.1 hx;exact b.toNat_lt
theorem Zc7 (s:ByteArray) (p:List Nat) (fp:Bool) (hp:W8 p) (hs:s.size<100) (hb:p.length<200000):X7 Tryz.prog 73 [.val (.string s),.vec [[.vec (bys p) fp]] true] (· = .agg (Xh .u8 (dig (X4N s p)))):=by
 refine Yp ok73 fun C hC=>?_;have hsl:=Zdi s;have hwl:=Z5v (X3E s);have hwp:=Z5v p;have hpp:X3 [[PV.vec (bys p) fp]]:=⟨⟨Zg _,Yt⟩,Yt⟩
 refine gd 8 ⟨?_⟩;refine Z3r Z9q (Z7j 0 0) Z7r rfl rfl Yt ?_;refine Zb (Z2M (ob:=1) (i0:=0) (j0:=0) (bo:=⟨1,[[.vec [] true]]⟩) 1 (by decide) rfl (by decide) (by decide) rfl) ?_;refine gd 11 ⟨?_⟩;refine Z14 (k:=1) (i:=2) (q := []) (b1:=wBx []) (Zlp [] s (by show 0+_<_;omega)) rfl rfl rfl rfl rfl (by decide) Yt ⟨Yt,Yt⟩ Yt Yt ?_;rintro r b' hr1 hr2 rfl;rw [Y1g];refine go ?_;refine ZA hC (fun i=>i<=1) (fun i=>1-i) 4 (fun i => [(4,.ptr 0 0 0),(5,.ptr 1 0 0),(12,.vec [[.vec (bys p) fp]] true),(13,.val (.int .i64 1)),(14,Yv i)]) (fun i => [(0,⟨32,[Xh .u8 (List.replicate 32 0)]⟩),(1,kid1 [] 3),(3,wBx (wB (X3E s)++(if i=0 then [] else wB p)))]) (by decide) 0 (Y0l _)
  (fun i=>i) (fun _ _=>rfl) (Zu rfl) ⟨Qt 0 0 0,Qt 1 0 0,Qp hpp,Qp Yt,Qp Yt,Yt⟩
  ⟨⟨by decide,⟨32,[Xh .u8 (List.replicate 32 0)]⟩,by kernel_rfl,.same _ ⟨ZO _ _,Yt⟩⟩,⟨by decide,_,rfl,Xu.single ⟨.own 3 (by decide),Yt⟩ rfl⟩,⟨by decide,wBx (wB (X3E s) ++ []),by rw [Y0p]; rfl,.same _ (Zg _)⟩,Yt⟩ ?_
 intro i hi;have hinc:IntKind.i64.wrap ((i:Int)+1)=((i+1:Nat):Int):=wi (i+1) (by omega);refine gd 15 ⟨?_⟩;by_cases hil:i<1
 . obtain rfl : i = 0 := by omega
   refine Qo (Qy rfl (by omega)) ?_;rw [Y5 rfl,Y0p];refine gd 20 ⟨?_⟩;refine Z14 (k:=1) (i:=3) (Z6w (wB (X3E s)) p fp (by omega)) rfl rfl rfl rfl rfl (by decide) Yt ⟨Zg _,Yt⟩ Yt (Zg _) ?_;rintro r b' hr1 hr2 rfl;refine go ?_;exact⟨1,mv 3 4,by omega,by omega,Z57 (by decide),Zu rfl,⟨Qt 0 0 0,Qt 1 0 0,Qp hpp,Qp Yt,Qp Yt,Yt⟩,⟨Qs ⟨ZO _ _,Yt⟩,⟨by decide,_,rfl,Xu.single ⟨.own 3 (by decide),Yt⟩ rfl⟩,⟨by decide,_,rfl,by rw [Y6 (by decide)]; exact .same _ (Zg _)⟩,Yt⟩⟩
 . obtain rfl : i = 1 := by omega
   refine Qo (Qz rfl (by omega)) ?_;rw [Y6 (by decide)];have hWt:W8 (X4N s p):=fun x hx=>(Y0h.1 hx).elim (Zkd (ZkX s) x) (Zkd hp x);have htl:(X4N s p).length<500000:=by unfold X4N; rw [Y0e]; omega
   obtain⟨x,l,hxl⟩:∃ x l,X4N s p=x :: l:=by
    obtain⟨x,l,h⟩:=ZjV (X3E s);exact⟨x,l++wB p,by unfold X4N; rw [h]; rfl⟩
   change Xm _ _ _ _ (XF [(0,⟨32,[Xh .u8 (List.replicate 32 0)]⟩),(1,kid1 [] 3),(3,wBx (X4N s p))]) _;rw [hxl] at hWt htl ⊢;rw [Y04] at htl;refine gd 23 ⟨?_⟩;refine Zb (Zs (ob:=1) (id:=3) (i0:=0) (j0:=0) (bo:=kid1 [] 3) (b:=wBx (x :: l)) rfl rfl (by decide) (Zg _) (by decide) (by decide) rfl) ?_;refine ZU (id:=1) (ZjU x l false (by omega)) rfl rfl rfl rfl ⟨⟨Zg _,Yt⟩,Yt⟩ Yt ?_;rintro r b' hr1 hr2 ⟨rfl,rfl⟩;refine Qe (ZgP (x :: l) false hWt (by rw [Y04];omega)) ⟨Zg _,Yt⟩ ?_;have hcl:(Xh .u8 (dig (x :: l))).length=32:=by rw [ZI,Z5R]
   refine Qo (Z3L (l:=Xh .u8 (List.replicate 32 0)) rfl rfl rfl hcl rfl) ?_;refine go ?_;refine Z8 (Z2a (Z4e (l:=Xh .u8 (dig (x :: l)) ++ []) (r:=Xh .u8 (dig (x :: l))) rfl rfl ?_ ?_)) (ZO _ _) rfl
   . rw [Y0p,hcl]; decide
   . rw [Y0p,Y13,Y9 (by rw [hcl]; exact Y0m _)]
def prW (p:Pr):List Nat:=grp p.1++grp p.2
def hyB (l:List Pr):List Nat:=grp l.length++l.flatMap prW
theorem ZjW {p:Pr} (h:p.1<=63/\p.2<=63):(prW p).length<=130:=by
 unfold prW;rw [Y0e];have:=Z1K p.1;have:=Z1K p.2;omega
theorem Z7s:∀ (l:List Pr),(∀ p∈l,p.1<=63/\p.2<=63)->(l.flatMap prW).length<=130*l.length
 | [],_=>Y0m _
 | p :: l, h => by
   rw [Y1Q,Y0e,Y04];have:=ZjW (h p (Y0t ..));have:=Z7s l fun q hq=>h q (YA _ hq);omega
theorem Zc8 {l:List Pr} (h:∀ p∈l,p.1<=63/\p.2<=63):(hyB l).length<=131*l.length+1:=by
 unfold hyB;rw [Y0e];have:=Z1K l.length;have:=Z7s l h;omega
theorem Zlq (l:List Pr):W8 (hyB l):=fun x hx=>by
 rcases Y0h.1 hx with h|h
 . exact Zat _ x h
 . obtain ⟨p, _, h⟩ := Y1d.1 h;exact (Y0h.1 h).elim (Zat _ x) (Zat _ x)
theorem Zc9 (l:List Pr) (S:List Nat) (h:∀ p∈l,p.1<=63/\p.2<=63) (hb:l.length<=1000):X7 Tryz.prog 68 [X15 l S] (· = .vec (bys (hyB l)) false):=by
 refine Yp ok68 fun C hC=>?_;have hgl:=Z1K l.length;have hml:(l.map prC).length=l.length:=Y0f ..;refine gd 9 ⟨?_⟩;refine Z3r Z9q (Z7j 0 0) Z7r rfl rfl Yt ?_;refine Zb (Z2M (ob:=0) (i0:=0) (j0:=0) (bo:=⟨1,[[.vec [] true]]⟩) 1 (by decide) rfl (by decide) (by decide) rfl) ?_;refine gd 11 ⟨?_⟩;refine Qe (Z8e l S (by omega)) ⟨Zq _ _,Yt⟩ ?_;refine gd 15 ⟨?_⟩;refine Zh (v:=(l.length:Int)) rfl rfl rfl (by rw [hml]; exact Y0x _ ⟨by omega,by omega⟩) ?_;refine Z14 (k:=0) (i:=1) (q := []) (b1:=wBx []) (Z64 [] l.length (by omega) (by show 0+_<_;omega)) rfl rfl rfl rfl rfl (by decide) Yt ⟨Yt,Yt⟩ Yt Yt ?_;rintro r b' hr1 hr2 rfl;rw [Y1g];refine go ?_;refine ZA hC (fun i=>i<=l.length) (fun i=>l.length-i) 3 (fun i => [(3,.ptr 0 0 0),(17,.vec (l.map prC) false),(18,.val (.int .i64 (l.length:Int))),(19,Yv i)]) (fun i => [(0,kid1 [] 2),(2,wBx (grp l.length++(l.take i).flatMap prW))]) (by decide) 0 (Y0l _)
  (fun i=>i) (fun _ _=>rfl) (Zu rfl) ⟨Qt 0 0 0,Qp (Zl _),⟨_,by rw [<- hml]; rfl,.pure _ Yt⟩,Qp Yt,Yt⟩
  ⟨⟨by decide,_,rfl,Xu.single ⟨.own 2 (by decide),Yt⟩ rfl⟩,⟨by decide,wBx (grp l.length++(l.take 0).flatMap prW),by rw [Y1u,Y3J,Y0p]; rfl,.same _ (Zg _)⟩,Yt⟩ ?_
 intro i hi;have hfl:=Z7s (l.take i) fun p hp=>h p (YM hp);rw [Y0o,Y1D hi] at hfl;have hinc:IntKind.i64.wrap ((i:Int)+1)=((i+1:Nat):Int):=wi (i+1) (by omega);refine gd 20 ⟨?_⟩;by_cases hil:i<l.length
 . refine Qo (Qy rfl (by omega)) ?_;have hci:=h l[i] (Y0j hil);have hft:(l.take (i+1)).flatMap prW=(l.take i).flatMap prW++prW l[i]:=by
    rw [Y30 hil,Y1G,Y3M]
   refine gd 21 ⟨?_⟩;refine Qo (Zn (xs:=l) (g:=prC) rfl rfl i rfl hil rfl) ?_;generalize l[i]=p at hci hft;have g1:=Z1K p.1;refine gd 26 ⟨?_⟩;refine Zh (v:=(p.1:Int)) rfl rfl rfl (Y0x _ ⟨by omega,by omega⟩) ?_;refine Z14 (k:=0) (i:=2) (Z64 (grp l.length++(l.take i).flatMap prW) p.1 (by omega) (by rw [Y0e];omega)) rfl rfl rfl rfl rfl (by decide) Yt ⟨Yt,Yt⟩ Yt (Zg _) ?_;rintro r b' hr1 hr2 rfl;refine gd 31 ⟨?_⟩;refine Zh (v:=(p.2:Int)) rfl rfl rfl (Y0x _ ⟨by omega,by omega⟩) ?_;refine Z14 (k:=0) (i:=4) (Z64 (grp l.length++(l.take i).flatMap prW++grp p.1) p.2 (by omega) (by rw [Y0e,Y0e];omega)) rfl rfl rfl rfl rfl (by decide) Yt ⟨Yt,Yt⟩ Yt (Zg _) ?_;rintro r b' hr1 hr2 rfl;refine go ?_;exact⟨i+1,mv 2 5,by omega,by omega,Z57 (by decide),Zu rfl,⟨Qt 0 0 0,Qp (Zl _),Qp Yt,⟨_,by show some _=some _; rw [hinc],.pure _ Yt⟩,Yt⟩,⟨⟨by decide,_,rfl,Xu.single ⟨.own 2 (by decide),Yt⟩ rfl⟩,⟨by decide,_,rfl,by rw [hft,show grp l.length++((l.take i).flatMap prW++prW p)=grp l.length++(l.take i).flatMap prW++grp p.1++grp p.2 by unfold prW; simp only [YV]]; exact .same _ (Zg _)⟩,Yt⟩⟩
 . obtain rfl : i = l.length := by omega
   refine Qo (Qz rfl (by omega)) ?_;have hyl:=Zc8 h;obtain⟨x,m,hxm⟩:∃ x m,hyB l=x :: m:=by
    obtain⟨x,m,h⟩:=Zdj l.length;exact⟨x,m++l.flatMap prW,by unfold hyB; rw [h]; rfl⟩
   rw [Y0q];change Xm _ _ _ _ (XF [(0,kid1 [] 2),(2,wBx (hyB l))]) _;rw [hxm] at hyl ⊢;rw [Y04] at hyl;refine gd 35 ⟨?_⟩;refine Zb (Zs (ob:=0) (id:=2) (i0:=0) (j0:=0) (bo:=kid1 [] 2) (b:=wBx (x :: m)) rfl rfl (by decide) (Zg _) (by decide) (by decide) rfl) ?_;refine ZU (id:=0) (ZjU x m false (by omega)) rfl rfl rfl rfl ⟨⟨Zg _,Yt⟩,Yt⟩ Yt ?_;rintro r b' hr1 hr2 ⟨rfl,rfl⟩;refine go ?_;exact Z8 rfl (Zg _) rfl
structure PbW (t:PB):Prop where
 n:t.n<=63
 st:t.st<256
 rs:∀ r∈t.rs,r.cu.1<256/\r.cu.2<256/\r.tg<=63
 nv:∀ c∈t.nv,c.1<256/\c.2<256
 gl:∀ c∈t.gl,c.1<256/\c.2<256
 lk:∀ p∈t.l,p.1<=63/\p.2<=63
 ll:t.l.length<=100
 rl:t.rs.length<=100
 nl:t.nv.length<=100
 gn:t.gl.length<=100
def rB (r:RU):List Nat := [cond r.rev 1 0]++cB r.cu++grp r.tg
def hdB (t:PB):List Nat:=grp t.n++wB (hyB t.l)++wB (sB t.st)++grp t.rs.length
def pbB (t:PB):List Nat:=hdB t++t.rs.flatMap rB++lB t.nv++lB t.gl
theorem ZkY {r:RU} (h:r.tg<=63):(rB r).length<=71:=by
 unfold rB;rw [Y0e,Y0e];have:=Z1K r.tg;have:=ZgO r.cu;show 1+_+_<=_;omega
theorem Zav:∀ (l:List RU),(∀ r∈l,r.tg<=63)->(l.flatMap rB).length<=71*l.length
 | [],_=>Y0m _
 | p :: l, h => by
   rw [Y1Q,Y0e,Y04];have:=ZkY (h p (Y0t ..));have:=Zav l fun q hq=>h q (YA _ hq);omega
theorem ZjX {t:PB} (h:PbW t):(hdB t).length<=30000:=by
 unfold hdB;rw [Y0e,Y0e,Y0e];have h1:=Z1K t.n;have h2:=Z5v (hyB t.l);have h3:=Zc8 h.lk;have h4:=Z5v (sB t.st);have h5:=Z8p t.st;have h6:=Z1K t.rs.length;have:=h.n; have:=h.ll; have:=h.rl;omega
theorem Zlr {N:Nat} (h:N<256):W8 (sB N):=fun x hx=>by
 unfold sB at hx
 split at hx
 . cases hx
 . rw [Y0g] at hx; rw [hx]; exact h
theorem Zlv {c:Cu} (h:c.1<256/\c.2<256):W8 (cB c):=fun x hx=>(Y0h.1 hx).elim (Zkd (Zlr h.1) x) (Zkd (Zlr h.2) x)
theorem Zlw {cs:List Cu} (h:∀ c∈cs,c.1<256/\c.2<256):W8 (lB cs):=fun x hx=>by
 rcases Y0h.1 hx with hx|hx
 . exact Zat _ x hx
 . obtain ⟨c, hc, hx⟩ := Y1d.1 hx;exact Zlv (h c hc) x hx
theorem W8.app {l m:List Nat} (hl:W8 l) (hm:W8 m):W8 (l++m):=fun x hx=>(Y0h.1 hx).elim (hl x) (hm x)
theorem Zls {t:PB} (h:PbW t):W8 (pbB t):=by
 refine W8.app (W8.app (W8.app (W8.app (W8.app (W8.app (Zat _) (Zkd (Zlq _))) (Zkd (Zlr h.st))) (Zat _)) fun x hx=>?_) (Zlw h.nv)) (Zlw h.gl);obtain⟨r,hr,hx⟩:=Y1d.1 hx;have hc:=h.rs r hr;exact W8.app (W8.app (fun x hx=>by rw [Y0g] at hx; rw [hx]; cases r.rev<;>decide) (Zlv ⟨hc.1,hc.2.1⟩)) (Zat _) x hx
def XQ (t:PB):List Nat:=dig (X4N ⟨#[112,114,111,98,108,101,109]⟩ (pbB t))
theorem Z34 {t:PB} (h:Xt t) (hw:PbW t) (S:List Nat):X7 Tryz.prog 27 [.agg (pbP t S)] (· = .agg (Xh .u8 (XQ t))):=by
 refine Yp ok27 fun C hC=>?_;have hl1:=Z1K t.n;have hl2:=Z5v (hyB t.l);have hl3:=Zc8 hw.lk;have hl4:=Z5v (sB t.st);have hl5:=Z8p t.st;have hl6:=Z1K t.rs.length;have hn:=hw.n; have hll:=hw.ll; have hrl:=hw.rl; have hnl:=hw.nl; have hgl:=hw.gn;have hhl:=ZjX hw;have hml:(t.rs.map ruP).length=t.rs.length:=Y0f ..;refine gd 7 ⟨?_⟩;refine Qe (Z2z h S) ⟨ZH _ _,Yt⟩ ?_;refine gd 10 ⟨?_⟩;refine Z3r Z9q (Z7j 0 0) Z7r rfl rfl Yt ?_;refine Zb (Z2M (ob:=2) (i0:=0) (j0:=0) (bo:=⟨1,[[.vec [] true]]⟩) 1 (by decide) rfl (by decide) (by decide) rfl) ?_;refine gd 14 ⟨?_⟩;refine Zh (v:=(t.n:Int)) rfl rfl rfl (Y0x _ ⟨by omega,by omega⟩) ?_;refine Z14 (k:=2) (i:=3) (q := []) (b1:=wBx []) (Z64 [] t.n (by omega) (by show 0+_<_;omega)) rfl rfl rfl rfl rfl (by decide) Yt ⟨Yt,Yt⟩ Yt Yt ?_;rintro r b' hr1 hr2 rfl;rw [Y1g];refine gd 19 ⟨?_⟩;refine Qe (Zc9 t.l S hw.lk (by omega)) ⟨Zq _ _,Yt⟩ ?_;refine Z14 (k:=2) (i:=4) (Z6w (grp t.n) (hyB t.l) false (by omega)) rfl rfl rfl rfl rfl (by decide) Yt ⟨Zg _,Yt⟩ Yt (Zg _) ?_;rintro r b' hr1 hr2 rfl;refine gd 24 ⟨?_⟩;refine Z14 (k:=2) (i:=5) (ZjT (grp t.n++wB (hyB t.l)) t.st hw.st (by rw [Y0e];omega)) rfl rfl rfl rfl rfl (by decide) Yt ⟨Z2 _,Yt⟩ Yt (Zg _) ?_;rintro r b' hr1 hr2 rfl;refine gd 29 ⟨?_⟩;refine Zh (v:=(t.rs.length:Int)) rfl rfl rfl (by rw [hml]; exact Y0x _ ⟨by omega,by omega⟩) ?_;refine Z14 (k:=2) (i:=6) (Z64 (grp t.n++wB (hyB t.l)++wB (sB t.st)) t.rs.length (by omega) (by rw [Y0e,Y0e];omega)) rfl rfl rfl rfl rfl (by decide) Yt ⟨Yt,Yt⟩ Yt (Zg _) ?_;rintro r b' hr1 hr2 rfl;change Xm _ _ _ _ (X1.upd _ _ (wBx (hdB t))) _;refine go ?_;refine ZA hC (fun i=>i<=t.rs.length) (fun i=>t.rs.length-i) 8 (fun i => [(1,.ptr 0 0 0),(2,.ptr 1 0 0),(3,.ptr 2 0 0),(32,.vec (t.rs.map ruP) false),(33,.val (.int .i64 (t.rs.length:Int))),(34,Yv i)]) (fun i => [(0,⟨6,[pbP t S]⟩),(1,⟨32,[Xh .u8 (List.replicate 32 0)]⟩),(2,kid1 [] 7),(7,wBx (hdB t++(t.rs.take i).flatMap rB))]) (by decide) 0 (Y0l _)
  (fun i=>i) (fun _ _=>rfl) (Zu rfl) ⟨Qt 0 0 0,Qt 1 0 0,Qt 2 0 0,Qp (ZE _),⟨_,by rw [<- hml]; rfl,.pure _ Yt⟩,Qp Yt,Yt⟩
  ⟨Qs ⟨ZH t S,Yt⟩,⟨by decide,⟨32,[Xh .u8 (List.replicate 32 0)]⟩,by kernel_rfl,.same _ ⟨ZO _ _,Yt⟩⟩,⟨by decide,_,rfl,Xu.single ⟨.own 7 (by decide),Yt⟩ rfl⟩,⟨by decide,wBx (hdB t++(t.rs.take 0).flatMap rB),by rw [Y1u,Y3J,Y0p]; rfl,.same _ (Zg _)⟩,Yt⟩ ?_
 intro i hi;have hfl:=Zav (t.rs.take i) fun r hr=>(hw.rs r (YM hr)).2.2;rw [Y0o,Y1D hi] at hfl;have hinc:IntKind.i64.wrap ((i:Int)+1)=((i+1:Nat):Int):=wi (i+1) (by omega);refine gd 35 ⟨?_⟩;by_cases hil:i<t.rs.length
 . refine Qo (Qy rfl (by omega)) ?_;have hci:=hw.rs t.rs[i] (Y0j hil);have hft:(t.rs.take (i+1)).flatMap rB=(t.rs.take i).flatMap rB++rB t.rs[i]:=by
    rw [Y30 hil,Y1G,Y3M]
   refine gd 36 ⟨?_⟩;refine Qo (Zn (xs:=t.rs) (g:=ruP) rfl rfl i rfl hil rfl) ?_;generalize t.rs[i]=u at hci hft;have hg:=Z1K u.tg;have hcl:=ZgO u.cu;have htot:(hdB t++(t.rs.take i).flatMap rB).length<=40000:=by rw [Y0e]; omega
   generalize hww:hdB t++(t.rs.take i).flatMap rB=ww at htot;refine gd 40 ⟨?_⟩;refine Z0 (p:=.val (.bool u.rev)) rfl rfl rfl ?_;refine Z14 (k:=2) (i:=7) (ZkV ww u.rev (by omega)) rfl rfl rfl rfl rfl (by decide) Yt ⟨Yt,Yt⟩ Yt (Zg _) ?_;rintro r b' hr1 hr2 rfl;refine gd 45 ⟨?_⟩;refine Z14 (k:=2) (i:=9) (ZkW (ww ++ [cond u.rev 1 0]) u.cu ⟨hci.1,hci.2.1⟩ (by rw [Y0e,Y0s];omega)) rfl rfl rfl rfl rfl (by decide) Yt ⟨Zz _,Yt⟩ Yt (Zg _) ?_;rintro r b' hr1 hr2 rfl;refine gd 49 ⟨?_⟩;refine Zh (v:=(u.tg:Int)) rfl rfl rfl (Y0x _ ⟨by omega,by omega⟩) ?_;refine Z14 (k:=2) (i:=10) (Z64 (ww ++ [cond u.rev 1 0]++cB u.cu) u.tg (by omega) (by rw [Y0e,Y0e,Y0s];omega)) rfl rfl rfl rfl rfl (by decide) Yt ⟨Yt,Yt⟩ Yt (Zg _) ?_;rintro r b' hr1 hr2 rfl;refine go ?_;exact⟨i+1,mv 7 11,by omega,by omega,Z57 (by decide),Zu rfl,⟨Qt 0 0 0,Qt 1 0 0,Qt 2 0 0,Qp (ZE _),Qp Yt,⟨_,by show some _=some _; rw [hinc],.pure _ Yt⟩,Yt⟩,⟨Qs ⟨ZH t S,Yt⟩,Qs ⟨ZO _ _,Yt⟩,⟨by decide,_,rfl,Xu.single ⟨.own 7 (by decide),Yt⟩ rfl⟩,⟨by decide,_,rfl,by rw [hft,show hdB t++((t.rs.take i).flatMap rB++rB u)=ww ++ [cond u.rev 1 0]++cB u.cu++grp u.tg by rw [<- hww]; unfold rB; simp only [YV]]; exact .same _ (Zg _)⟩,Yt⟩⟩
 . obtain rfl : i = t.rs.length := by omega
   refine Qo (Qz rfl (by omega)) ?_;rw [Y0q] at hfl ⊢;have htot:(hdB t++t.rs.flatMap rB).length<=40000:=by rw [Y0e]; omega
   have hpb:pbB t=hdB t++t.rs.flatMap rB++lB t.nv++lB t.gl:=rfl;have hlb:=ZiT t.nv;have hlg:=ZiT t.gl;have hpW:=Zls hw;generalize hww:hdB t++t.rs.flatMap rB=ww at htot hpb;refine gd 55 ⟨?_⟩;refine Z14 (k:=2) (i:=7) (ZiU ww t.nv false hw.nv (by omega)) rfl rfl rfl rfl rfl (by decide) Yt ⟨Zc Zi _,Yt⟩ Yt (Zg _) ?_;rintro r b' hr1 hr2 rfl;refine gd 59 ⟨?_⟩;refine Z14 (k:=2) (i:=8) (ZiU (ww++lB t.nv) t.gl false hw.gl (by rw [Y0e];omega)) rfl rfl rfl rfl rfl (by decide) Yt ⟨Zc Zi _,Yt⟩ Yt (Zg _) ?_;rintro r b' hr1 hr2 rfl;have hpl:(pbB t).length<100000:=by rw [hpb,Y0e,Y0e]; omega
   have hid:XQ t=dig (X4N ⟨#[112,114,111,98,108,101,109]⟩ (pbB t)):=rfl;rw [<- hpb];obtain⟨x,m,hxm⟩:∃ x m,pbB t=x :: m:=by
    obtain⟨x,m,h⟩:=Zdj t.n;exact⟨x,m++(wB (hyB t.l)++(wB (sB t.st)++(grp t.rs.length++(t.rs.flatMap rB++(lB t.nv++lB t.gl))))),by unfold pbB hdB; rw [h]; simp only [YV,Y4n]⟩
   rw [hxm] at hpl hpW hid ⊢;rw [Y04] at hpl;refine gd 61 ⟨?_⟩;refine Zb (Zs (ob:=2) (id:=9) (i0:=0) (j0:=0) (bo:=kid1 [] 9) (b:=wBx (x :: m)) rfl rfl (by decide) (Zg _) (by decide) (by decide) rfl) ?_;refine ZU (id:=2) (ZjU x m false (by omega)) rfl rfl rfl rfl ⟨⟨Zg _,Yt⟩,Yt⟩ Yt ?_;rintro r b' hr1 hr2 ⟨rfl,rfl⟩;refine gd 63 ⟨?_⟩;refine Qe (Zc7 ⟨#[112,114,111,98,108,101,109]⟩ (x :: m) false hpW (by decide) (by rw [Y04];omega)) ⟨Yt,⟨⟨Zg _,Yt⟩,Yt⟩,Yt⟩ ?_;rw [<- hid];have hcl:(Xh .u8 (XQ t)).length=32:=by rw [ZI]; exact Z5R _
   generalize hcc:Xh .u8 (XQ t)=cc at hcl;have hcp:X6 cc:=hcc▸ZO _ _;refine Qo (Z3L (l:=Xh .u8 (List.replicate 32 0)) rfl rfl rfl hcl rfl) ?_;refine go ?_;refine Z8 (Z2a (Z4e (l:=cc ++ []) (r:=cc) rfl rfl ?_ ?_)) hcp rfl
   . rw [Y0p,hcl]; decide
   . rw [Y0p,Y13,Y9 (by rw [hcl]; exact Y0m _)]
theorem Zey (xs:List Nat) (fl:Bool) (hlen:xs.length<=1000000):X1u Tryz.prog 126 [.vec (inL xs) fl] .own ⟨1,inL xs⟩:=by
 refine Z1z ok126 (Y0 rfl) fun C hC=>?_;have fin:∀ (x:Nat) (xs:List Nat),(∀ c∈inL (x :: xs),c.length=1):=fun x xs c hc=>by obtain⟨y,_,rfl⟩:=Y0i.1 hc; rfl
 cases xs with
 | nil =>
   refine go ?_;refine Z4q (.inl ⟨_,_,rfl⟩) rfl fun b=>?_;cases b
   . repeat' (first | refine Zb (Zx (k := 5) rfl 1 (by decide)) ?_ | (first|refine st ?_|(apply B<;>intro hb<;>try cases hb)))
     exact⟨_,_,rfl,.inl rfl,_,rfl,rfl⟩
   . iterate 6 (first|refine st ?_|(apply B<;>intro hb<;>try cases hb))
     refine Z24 (Zx (k:=2) rfl 1 (by decide) _) ?_;refine go ?_;exact⟨_,_,rfl,.inl rfl,_,rfl,rfl⟩
 | cons x xs =>
   repeat' (first|refine Zb (Zx (k:=5) rfl 1 (by decide)) ?_|(first|refine st ?_|(apply B<;>intro hb<;>try cases hb)))
   refine ZF (Zt (k:=0) (m:=inL (x :: xs)) (fl:=fl) rfl rfl rfl (fin x xs) rfl (by
    show (([]:List (List PV)).length+(inL (x :: xs)).length)*8<=_
    rw [Z2n,Y2X];omega)) rfl rfl ?_
   refine go ?_;exact⟨_,_,rfl,.inl rfl,_,rfl,by rw [Y1g]; rfl⟩
theorem Z7t (xs:List Nat) (fl:Bool) (g:Nat) (p:Nat->Bool) (hg:∀ x∈xs,X7 Tryz.prog g [.val (.int .i64 (x:Int))] (· = .val (.bool (p x)))) :
 X7 Tryz.prog 134 [.vec (inL xs) fl,.fn g []] (· = .val (.int .i64 (X2A p xs))):=by
 refine Yp ok134 fun C hC=>?_;refine Z3H (k:=0) rfl fun hmax=>?_;have hnl:(inL xs).length=xs.length:=by simp [inL]
 have hlm:xs.length<=Xd:=by rw [<- hnl]; exact hmax
 refine go ?_;refine Z3n (fun i=>i<=xs.length/\(xs.take i).any p=false) (fun i=>xs.length-i) (fun i => [(0,.vec (inL xs) fl),(1,.fn g []),(7,.val (.int .i64 (xs.length:Int))),(8,Yv i)]) 0 ⟨Y0l _,rfl⟩ ⟨rfl,rfl,by rw [<- hnl]; rfl,rfl,Yt⟩ ?_;rintro i ⟨hi,hno⟩;have hinc:IntKind.i64.wrap ((i:Int)+1)=((i+1:Nat):Int):=Y0v _ ⟨by omega,by simp only [Xd] at hlm; omega⟩;(refine go ?_;repeat' (apply B<;>intro hb<;>try cases hb))
 . have hil : i < xs.length := by simpa using hb
   refine Qo (Zn (xs:=xs) (g:=X33) rfl rfl i rfl hil rfl) ?_;(first|refine st ?_|(apply B<;>intro hb<;>try cases hb));refine Qe (hg _ (Y0j hil)) ⟨Yt,Yt⟩ ?_;refine Z1w ?_;refine Z4F rfl (fun hx=>?_) (fun hx=>?_)
   . refine go ?_;exact Z8 rfl Yt (by rw [Z4L hil hno hx])
   . (refine go ?_;repeat' (apply B<;>intro hb<;>try cases hb));exact⟨i+1,⟨by omega,Z3s hil hno hx⟩,by omega,rfl,rfl,⟨rfl,rfl,rfl,by show some _=some _; rw [hinc],Yt⟩⟩
 . have hil : i = xs.length := by simp at hb; omega
   subst hil;rw [Y0q] at hno;exact Z8 rfl Yt (by rw [Z2i hno]; rfl)
theorem Z5w (xs:List Nat) (fl:Bool) (g:Nat) (p:Nat->Bool) (hg:∀ x∈xs,X7 Tryz.prog g [.val (.int .i64 (x:Int))] (· = .val (.bool (p x)))) :
 X7 Tryz.prog 75 [.vec (inL xs) fl,.fn g []] (· = .val (.bool (xs.any p))):=by
 refine Yp ok75 fun C hC=>?_;refine go ?_;refine Qe (Z7t xs fl g p hg) ⟨Zw xs,Yt,Yt⟩ ?_;refine Qo (Z6 rfl (Z5d (p:=p) (xs:=xs))) ?_;(refine go ?_;repeat' (apply B<;>intro hb<;>try cases hb))
 all_goals exact Z8 rfl Yt (by rw [hb])
theorem ZgQ (k:Nat):X7 Tryz.prog 76 [.val (.int .i64 (k:Int))] (· = .val (.bool (decide (64<=k)))):=by
 refine Yp ok76 fun C hC=>?_;refine gd 4 ⟨?_⟩;refine Qo (Qz rfl (by omega)) ?_;refine gd 7 ⟨?_⟩;refine Zr rfl ?_;refine Qo (Z6 (v:=decide (64<=k)) rfl (Y26.2 (by omega))) ?_;cases decide (64<=k)
 . refine go ?_;exact Z8 rfl Yt rfl
 . refine go ?_;exact Z8 rfl Yt rfl
def Xq (id:List Nat) (b:Bool) (p:List Nat) (fp:Bool) (l:List Cu) (fl:Bool):List PV:=Xh .u8 id ++ [.val (.bool b),.vec (inL p) fp,.vec (l.map cuC) fl]
theorem Z17 (id:List Nat) (b:Bool) (p:List Nat) (fp:Bool) (l:List Cu) (fl:Bool):X6 (Xq id b p fp l fl):=Z1C (ZO _ _) ⟨Yt,Zw _,Zc Zi _,Yt⟩
theorem Z5S (cc t cs:List PV) (n j:Nat) (h:cc.length=n):Xj (cc++t) (n+j) cs=cc++Xj t j cs:=by
 subst h;unfold Xj;rw [Y2O,Y9 (by omega),Y2U,Y1J,Y2t,Y1P (by omega),Y2U,Y1g,YV,YV,YV]
theorem ZjY {e:Env} {a b c:Operand} {cc:List PV} {q:PV} (ha:ev e a=some (.agg cc)) (hc:ev e c=some q) (hq:q.flat=true) (hq1:q.cells = [q]) (hl:cc.length=32) (z:List PV) (hz:z.length=35) (x:PV) (hb:ev e b=some (.val (.bool true))) (hzd:z.drop 32 = [.val (.bool false),.vec [] true,.vec [] true]):X19 e z [(0,32,a),(32,1,b),(33,1,c)]=some (cc ++ [.val (.bool true),q,.vec [] true]):=by
 have h1:Xj z 0 cc=cc ++ [.val (.bool false),.vec [] true,.vec [] true]:=by
  unfold Xj;rw [Y1u,Y1g,hl,Y1a,hzd]
 have e1:(PV.agg cc).cells=cc:=rfl;have e2:(PV.val (.bool true)).cells = [.val (.bool true)]:=rfl;have f1:(PV.agg cc).flat=true:=rfl;have f2:(PV.val (.bool true)).flat=true:=rfl;simp only [X19,ha,hb,hc,e1,e2,f1,f2,hq,hq1,hl,hz,h1,Y1i,Y0s,beq_self_eq_true];rw [Y5 (by decide)];rw [show Xj (cc ++ [PV.val (.bool false),.vec [] true,.vec [] true]) 32 [.val (.bool true)]=cc ++ [.val (.bool true),.vec [] true,.vec [] true] from Z5S cc _ _ 32 0 hl];rw [Y5 (by rw [Y0e,hl]; decide)];rw [show Xj (cc ++ [PV.val (.bool true),.vec [] true,.vec [] true]) 33 [q]=cc ++ [.val (.bool true),q,.vec [] true] from Z5S cc _ _ 32 1 hl];rw [Y5 (by rw [Y0e,hl]; decide)]
theorem Zir {e:Env} {a c:Operand} {cc:List PV} {q:PV} (ha:ev e a=some (.agg cc)) (hc:ev e c=some q) (hq:q.flat=true) (hq1:q.cells = [q]) (hl:cc.length=32) (z:List PV) (hz:z.length=35) (hzd:z.drop 32 = [.val (.bool false),.vec [] true,.vec [] true]):X19 e z [(0,32,a),(34,1,c)]=some (cc ++ [.val (.bool false),.vec [] true,q]):=by
 have h1:Xj z 0 cc=cc ++ [.val (.bool false),.vec [] true,.vec [] true]:=by
  unfold Xj;rw [Y1u,Y1g,hl,Y1a,hzd]
 have e1:(PV.agg cc).cells=cc:=rfl;have f1:(PV.agg cc).flat=true:=rfl;simp only [X19,ha,hc,e1,f1,hq,hq1,hl,hz,h1,Y1i,Y0s,beq_self_eq_true];rw [Y5 (by decide)];rw [Y5 (by rw [Y0e,hl]; decide)];rw [show Xj (cc ++ [PV.val (.bool false),.vec [] true,.vec [] true]) 34 [q]=cc ++ [.val (.bool false),.vec [] true,q] from Z5S cc _ _ 32 2 hl]
theorem ZkZ {e:Env} {h:X1} {n:Nat} {z:List Value} {ps:List (Nat×Nat×Operand)} {l:List PV} (hb:X19 e (zpv z) ps=some l):X4 (.build z ps) e h n=some (.agg l,h):=by
 simp only [X4,hb]
def X5V:List PV:=Xh .u8 (List.replicate 32 0) ++ [.val (.bool false),.vec [] true,.vec [] true]
theorem Z2A (t:PB):(XQ t).length=32:=Z5R _
theorem Z65 {t:PB} (h:Xt t) (hw:PbW t) (S:List Nat) (p:List Nat) (fl:Bool) (hp:p.length<=1000000):X7 Tryz.prog 62 [.agg (pbP t S),.vec (inL p) fl] (· = .agg (Xq (XQ t) true p false [] true)):=by
 refine Yp ok62 fun C hC=>?_;have hpp:=ZH t S;have hil:=Z2A t;have hcl:(Xh .u8 (XQ t)).length=32:=by rw [ZI,hil]
 have hlen:(Xq (XQ t) true p false [] true).length=35:=by unfold Xq; rw [Y0e,hcl]; rfl
 have hcp:=Z17 (XQ t) true p false [] true;have hid:=Z34 h hw S;have hcd:Xq (XQ t) true p false [] true=Xh .u8 (XQ t) ++ [.val (.bool true),.vec (inL p) false,.vec [] true]:=rfl;generalize Xq (XQ t) true p false [] true=cc at hlen hcp hcd ⊢;generalize Xh .u8 (XQ t)=ci at hid hcl hcd;have hcip:X6 ci:=by rw [hcd] at hcp; exact (Z1i _ _).2 fun q hq=>(Z1i _ _).1 hcp q (Y3d _ hq)
 refine gd 2 ⟨?_⟩;refine Z5 rfl rfl rfl ?_;refine gd 6 ⟨?_⟩;refine Qe hid ⟨hpp,Yt⟩ ?_;refine gd 8 ⟨?_⟩;refine Qe ((Zey p fl hp).spec (Zw p) (fun _=>.own) (Zw p)) ⟨Zw p,Yt⟩ ?_;refine Qo (ZkZ (l:=cc) (by rw [hcd]; exact ZjY rfl rfl rfl rfl hcl _ (by kernel_rfl) pvu rfl (by kernel_rfl))) ?_;refine Qo (Z3L (l:=X5V) rfl rfl (by kernel_rfl) hlen (by kernel_rfl)) ?_;refine go ?_;refine Z8 (Z2a (Z4e (l:=cc ++ []) (r:=cc) rfl rfl ?_ ?_)) hcp rfl
 . rw [Y0p,hlen]; decide
 . rw [Y0p,Y13,Y9 (by rw [hlen]; exact Y0m _)]
theorem Z66 {t:PB} (h:Xt t) (hw:PbW t) (S:List Nat) (l:List Cu) (fl:Bool) (hl:l.length<=1000000):X7 Tryz.prog 63 [.agg (pbP t S),.vec (l.map cuC) fl] (· = .agg (Xq (XQ t) false [] true l false)):=by
 refine Yp ok63 fun C hC=>?_;have hpp:=ZH t S;have hil:=Z2A t;have hcl:(Xh .u8 (XQ t)).length=32:=by rw [ZI,hil]
 have hlen:(Xq (XQ t) false [] true l false).length=35:=by unfold Xq; rw [Y0e,hcl]; rfl
 have hcp:=Z17 (XQ t) false [] true l false;have hid:=Z34 h hw S;have hcd:Xq (XQ t) false [] true l false=Xh .u8 (XQ t) ++ [.val (.bool false),.vec [] true,.vec (l.map cuC) false]:=rfl;generalize Xq (XQ t) false [] true l false=cc at hlen hcp hcd ⊢;generalize Xh .u8 (XQ t)=ci at hid hcl hcd;have hcip:X6 ci:=by rw [hcd] at hcp; exact (Z1i _ _).2 fun q hq=>(Z1i _ _).1 hcp q (Y3d _ hq)
 refine gd 2 ⟨?_⟩;refine Z5 rfl rfl rfl ?_;refine gd 6 ⟨?_⟩;refine Qe hid ⟨hpp,Yt⟩ ?_;refine gd 8 ⟨?_⟩;refine Qe ((Z5E l fl hl).spec (Zc Zi l) (fun _=>.own) (Zc Zi l)) ⟨Zc Zi l,Yt⟩ ?_;refine Qo (ZkZ (l:=cc) (by rw [hcd]; exact Zir rfl rfl rfl rfl hcl _ (by kernel_rfl) (by kernel_rfl))) ?_;refine Qo (Z3L (l:=X5V) rfl rfl (by kernel_rfl) hlen (by kernel_rfl)) ?_;refine go ?_;refine Z8 (Z2a (Z4e (l:=cc ++ []) (r:=cc) rfl rfl ?_ ?_)) hcp rfl
 . rw [Y0p,hlen]; decide
 . rw [Y0p,Y13,Y9 (by rw [hlen]; exact Y0m _)]
def X1v:Nat:=XW (2 ^ 64-1) 0
theorem ZgR:X1v<18446744073709551616:=Zbg (by decide) 0
def cT:List Cu->Nat
 | []=>0
 | c :: r=>if decide (c.1 ||| c.2 ||| X1v=X1v) then (if emC c then 6 else cT r) else 2
def X51 (p:List Nat) (l:List Cu):Nat:=if p.any (fun k=>decide (64<=k)) then 2 else cT l
def X5P (b:Bool) (p:List Nat) (l:List Cu):Prop:=(b=true/\l = []) \/ (b=false/\p = [])
section
variable {id p:List Nat} {b fp fl:Bool} {l:List Cu}
theorem Z6x (hid:id.length=32):(Xq id b p fp l fl).drop 32=.val (.bool b) :: [.vec (inL p) fp,.vec (l.map cuC) fl]:=by
 unfold Xq;rw [Y2t,ZI,hid,Y1P (by rw [ZI,hid]; exact Y0m _)]
 rfl
theorem Z9r (hid:id.length=32):(Xq id b p fp l fl).drop 33=.vec (inL p) fp :: [.vec (l.map cuC) fl]:=by
 unfold Xq;rw [Y2t,ZI,hid,Y1P (by rw [ZI,hid]; decide)]
 rfl
theorem Z9s (hid:id.length=32):(Xq id b p fp l fl).drop 34=.vec (l.map cuC) fl :: []:=by
 unfold Xq;rw [Y2t,ZI,hid,Y1P (by rw [ZI,hid]; decide)]
 rfl
theorem Z1D (hid:id.length=32):(Xq id b p fp l fl).length=35:=by
 unfold Xq;rw [Y0e,ZI,hid]
 rfl
end
theorem Zca (id:List Nat) (hid:id.length=32) (b:Bool) (p:List Nat) (fp:Bool) (l:List Cu) (fl:Bool) (hf:X5P b p l) (hp:p.length<=10000) (hll:l.length<=2000) (hl:∀ c∈l,Xv c):X7 Tryz.prog 28 [.agg (Xq id b p fp l fl)] (· = .val (.int .i64 ((X51 p l:Nat):Int))):=by
 refine Yp ok28 fun C hC=>?_;have d32:=Z6x (b:=b) (p:=p) (fp:=fp) (l:=l) (fl:=fl) hid;have d33:=Z9r (b:=b) (p:=p) (fp:=fp) (l:=l) (fl:=fl) hid;have d34:=Z9s (b:=b) (p:=p) (fp:=fp) (l:=l) (fl:=fl) hid;have hlen:=Z1D (b:=b) (p:=p) (fp:=fp) (l:=l) (fl:=fl) hid;have hcp:=Z17 id b p fp l fl;have hil:=Z2n p;have hml:(l.map cuC).length=l.length:=Y0f ..;have hlp:X3 (l.map cuC):=Zc Zi l;generalize Xq id b p fp l fl=cc at d32 d33 d34 hlen hcp;have hcf:=Z5w p fp 76 (fun k=>decide (64<=k)) (fun k _=>ZgQ k);have hbe:=Z5J 64 (by decide) (by decide);have hwo:=Z1G (2 ^ 64-1) (by decide) 0;change X7 _ _ _ (· = XD X1v) at hwo;have hrl:=ZgR;refine gd 1 ⟨?_⟩;refine Z5 (Z4Q rfl (by rw [hlen]; decide)) rfl rfl ?_
 iterate 2 (first|refine st ?_|(apply B<;>intro hb<;>try cases hb))
 have hci:∀ D,X1I D cc:=fun D=>ZC (fun _ h=>h.elim) _ hcp;have hli:∀ D,Xs D (l.map cuC):=fun D=>Ze (fun _ h=>h.elim) _ hlp;refine Zf9 hC (p.any (fun k=>decide (64<=k))=false) 0 [(1,.cp cc)] [] (Y0l _) ?_ (fun hany=>?_)
 . refine gd 8 ⟨?_⟩;refine Qo (Z4c rfl d33) ?_;refine gd 10 ⟨?_⟩;refine Qo (Qz rfl (by rw [hil];omega)) ?_;refine gd 13 ⟨?_⟩;refine Zr rfl ?_;refine Qo (Z4c rfl d34) ?_;refine gd 15 ⟨?_⟩;refine Zr rfl ?_;refine Qo (Qz rfl (by rw [hml];omega)) ?_;refine gd 19 ⟨?_⟩;refine Qo (Z4c rfl d32) ?_;rcases hf with⟨rfl,rfl⟩|⟨rfl,rfl⟩
   . refine gd 22 ⟨?_⟩;refine Zr rfl ?_;refine Qo (Z4c rfl d34) ?_;refine gd 28 ⟨?_⟩;refine Zr rfl ?_;refine Qo (Z4c rfl d32) ?_;refine gd 39 ⟨?_⟩;refine Qo (Z4c rfl d33) ?_;refine Qe hcf ⟨Zw p,Yt,Yt⟩ ?_;cases ha:p.any fun k=>decide (64<=k)
     . refine go ?_;exact⟨rfl,⟨⟨rfl,hci _⟩,Yt⟩,Yt⟩
     . refine go ?_;exact Z8 rfl Yt (by unfold X51; rw [ha]; rfl)
   . refine gd 28 ⟨?_⟩;refine Zr rfl ?_;refine Qo (Z4c rfl d32) ?_;refine gd 32 ⟨?_⟩;refine Zr rfl ?_;refine Qo (Z4c rfl d33) ?_;refine gd 39 ⟨?_⟩;refine Qo (Z4c rfl d33) ?_;refine Qe hcf ⟨Zw _,Yt,Yt⟩ ?_;refine go ?_;exact⟨rfl,⟨⟨rfl,hci _⟩,Yt⟩,Yt⟩
 . have hct : X51 p l = cT l := by unfold X51; rw [hany]; rfl
   rw [hct];generalize hfin:cT l=fin;refine gd 41 ⟨?_⟩;refine Qe hbe ⟨Yt,Yt⟩ ?_;refine Qe hwo ⟨Z2 _,Yt,Yt⟩ ?_;refine gd 44 ⟨?_⟩;refine Qo (Z4c rfl d34) ?_;refine go ?_;refine Zy hC (fun i=>i<=l.length/\cT (l.drop i)=fin) (fun i=>l.length-i) 1 (fun i => [(3,.ptr 0 0 0),(44,.vec (l.map cuC) fl),(45,.val (.int .i64 (l.length:Int))),(46,Yv i)]) (fun _ => [(0,sBx X1v)]) (by decide) 0 ⟨Y0l _,hfin⟩
    ⟨⟨rfl,show 0<1 by decide⟩,⟨rfl,hli _⟩,⟨by rw [<- hml]; rfl,Yt⟩,⟨rfl,Yt⟩,Yt⟩ ⟨⟨by decide,rfl,Zgx _ _⟩,Yt⟩ ?_
   rintro i ⟨hi,hk⟩;have hinc:IntKind.i64.wrap ((i:Int)+1)=((i+1:Nat):Int):=Y0v _ ⟨by omega,by omega⟩;refine gd 47 ⟨?_⟩;by_cases hil2:i<l.length
   . refine Qo (Qy rfl (by omega)) ?_;have hdr:l.drop i=l[i] :: l.drop (i+1):=Y1k hil2;rw [hdr] at hk;have hc64:=hl _ (Y0j hil2);refine gd 48 ⟨?_⟩;refine Qo (Zn (xs:=l) (g:=cuC) rfl rfl i rfl hil2 rfl) ?_;generalize l[i]=c at hk hc64;have hor:=ZbV hc64.1 hc64.2;have hwi:=Z1y (c.1 ||| c.2) X1v hor hrl;change (if decide (c.1 ||| c.2 ||| X1v=X1v) then (if emC c then 6 else cT (l.drop (i+1))) else 2)=fin at hk;refine gd 54 ⟨?_⟩;refine Qd (Z1r c.1 c.2 hc64.1 hc64.2) ⟨Z2 _,Z2 _,Yt⟩ ?_;refine gd 56 ⟨?_⟩;refine Qd hwi ⟨Z2 _,Z2 _,Yt⟩ ?_;cases hw:decide (c.1 ||| c.2 ||| X1v=X1v)
     . rw [hw, Y6 (by decide)] at hk;refine go ?_;exact Z8 rfl Yt (by rw [<- hk]; rfl)
     rw [hw,Y5 rfl] at hk;refine gd 59 ⟨?_⟩;refine Qe (Z1c c hc64) ⟨Zz _,Yt⟩ ?_;cases he:emC c
     . rw [he, Y6 (by decide)] at hk;refine go ?_;exact⟨i+1,⟨hil2,hk⟩,by omega,⟨⟨rfl,show 0<1 by decide⟩,⟨rfl,hli _⟩,⟨rfl,Yt⟩,⟨by show some _=some _; rw [hinc],Yt⟩,Yt⟩,⟨⟨by decide,rfl,Zgx _ _⟩,Yt⟩⟩
     . rw [he, Y5 rfl] at hk;refine go ?_;exact Z8 rfl Yt (by rw [<- hk]; rfl)
   . obtain rfl : i = l.length := by omega
     refine Qo (Qz rfl (by omega)) ?_;rw [Y4m] at hk;refine go ?_;exact Z8 rfl Yt (by rw [<- hk]; rfl)
end
section
open Go.RowKit
theorem b126 {i:Nat} (h1:1<=i) (h2:i<=6):(126:Nat).testBit i=true:=by
 have:i=1 \/ i=2 \/ i=3 \/ i=4 \/ i=5 \/ i=6:=by omega
 rcases this with rfl|rfl|rfl|rfl|rfl|rfl<;>decide
theorem X5X {i:Nat} (h:(126:Nat).testBit i=true):1<=i/\i<=6:=by
 have hi:i<7:=by
  apply Decidable.byContradiction;intro hn;rw [Y1O (YF (show 126<2 ^ 7 by decide) (YO (by decide) (by omega)))] at h;cases h
 have:i≠0:=fun e=>by subst e; exact absurd h (by decide)
 omega
theorem ZjZ {l:List Pr} (hl:X3S l) {a b:Nat} (h:Up l a b):1<=a/\a<=6:=by
 induction h with
 | one hm=>have:=hl.role _ hm; omega
 | more _ _ ih=>exact ih
theorem Z9t {t:PB} (h:Xt t) (hn:t.n<=5) {c:Cu} (hc:InC t.n c):X1d t.l c ||| 126=126:=Xe.2 fun i hi=>by
 have h64:=hc.lt h.n.2;unfold X1d at hi;rw [Z9f] at hi;obtain⟨x,hx,hb⟩:=hi;obtain⟨b,hbm,rfl⟩:=Y0i.1 hx;rw [ZY (Z1S h64.1 h64.2),Y00,YP] at hbm;have hb1:(mkN t.n).testBit b=true:=hbm.elim (fun h=>Xe.1 hc.y b h) fun h=>Xe.1 hc.n b h;rw [Z29,Y0k,Y0n,Y0n] at hb1;rcases (Z4O h.good.small b i).1 hb with hu|rfl
 . have := ZjZ h.good hu;exact b126 this.1 this.2
 . exact b126 hb1.1 (by omega)
theorem Zdk {t:PB} (h:Xt t) (hn:t.n<=5) {c:Cu} (hc:InC t.n c):X1d t.l c<18446744073709551616:=by
 have:=Z9t h hn hc;have h2:X1d t.l c<=126:=by rw [<- this]; exact YU
 omega
theorem X11.b126 {t:PB} (h:Xt t) (hn:t.n<=5) {R:Nat} (hR:X11 t R):R ||| 126=126 :=
 hR.least 126 ⟨fun c hc=>Z9t h hn (h.gl c hc).1,fun x hx _ _=>Z9t h hn (h.rs x hx).cu,fun c hc _=>Z9t h hn (h.nv c hc).1⟩
structure Snd (t:PB) (b:Bool) (p:List Nat) (l:List Cu):Prop where
 form:X5P b p l
 plan:b=true->X1D t p/\p.length<=100
 inv:b=false->X4t t fun S=>soC l S=true
 len:l.length<=100
 cub:∀ c∈l,(c.1 ||| c.2) ||| 126=126/\emC c=false
theorem Snd.ok64 {t:PB} {b:Bool} {p:List Nat} {l:List Cu} (h:Snd t b p l):∀ c∈l,Xv c:=fun c hc=>by
 have h1:=(h.cub c hc).1;have h2:c.1 ||| c.2<=126:=by rw [<- h1]; exact YU
 have h3:c.1<=c.1 ||| c.2:=YU
 have h4:c.2<=c.1 ||| c.2:=Nat.right_le_or
 exact⟨by omega,by omega⟩
theorem Zez:(126:Nat) ||| X1v=X1v:=by decide +kernel
theorem ZgS:∀ {l:List Cu},(∀ c∈l,(c.1 ||| c.2) ||| 126=126/\emC c=false)->cT l=0
 | [],_=>rfl
 | c :: l, h => by
   obtain⟨h1,h2⟩:=h c (Y0t ..);unfold cT;rw [Y5 (Y8 (Z3f h1 Zez)),h2,Y6 (by decide)];exact ZgS fun d hd=>h d (YA _ hd)
theorem ZiV {t:PB}:∀ (p:List Nat) {S E:Nat},X1h t S p E->∀ k∈p,k<t.rs.length
 | [],S,E,hr,k,hk=>by cases hk
 | j :: p, S, E, ⟨x, hx, hs, hr⟩, k, hk => by
   rcases YB.1 hk with rfl|hk
   . exact (Y7.1 hx).1
   . exact ZiV p hr k hk
theorem Snd.chk {t:PB} (h:Xt t) {b:Bool} {p:List Nat} {l:List Cu} (hs:Snd t b p l):X51 p l=0:=by
 unfold X51;have hp:p.any (fun k=>decide (64<=k))=false:=by
  rw [Y1R];intro k hk;rw [Y0n];cases b with
  | true =>
    obtain⟨⟨E,hr,_⟩,_⟩:=hs.plan rfl;have:=ZiV p hr k hk;have:=h.rl;omega
  | false =>
    rcases hs.form with⟨hb,_⟩|⟨_,rfl⟩
    . cases hb
    . cases hk
 rw [hp,Y6 (by decide)];exact ZgS hs.cub
theorem Snd.able {t:PB} (h:Xt t) {b:Bool} {p:List Nat} {l:List Cu} (hs:Snd t b p l):b=true↔X20 t t.st:=by
 cases b with
 | true=>exact⟨fun _=>(hs.plan rfl).1.able h,fun _=>rfl⟩
 | false=>exact⟨(fun hb=>by cases hb),fun ha=>absurd ha ((hs.inv rfl).not_able h)⟩
theorem Zk0 {R:Nat} (hR:R ||| 126=126) (c:Cu):((X1R R c).1 ||| (X1R R c).2) ||| 126=126:=by
 refine Zgg (Xe.2 fun i hi=>?_) (Xe.2 fun i hi=>?_)
 . have hi : (c.1 &&& R).testBit i = true := hi;rw [Y0z,Y0k] at hi;exact Xe.1 hR i hi.2
 . have hi : (c.2 &&& R).testBit i = true := hi;rw [Y0z,Y0k] at hi;exact Xe.1 hR i hi.2
theorem Zl0 {R:Nat} {c:Cu} (h:emC c=false):emC (X1R R c)=false:=by
 unfold emC at h ⊢;rw [Y3y] at h ⊢;rw [Y3w] at h ⊢;refine YD fun i=>?_;have:=congrArg (fun n=>n.testBit i) h;simp only [Y0z,Y1E,X1R] at this ⊢;cases h1:c.1.testBit i with
 | false=>rfl
 | true=>rw [h1,Y1i] at this; rw [this]; simp
end
section
open Go.RowKit
attribute [local irreducible] aw Xm dK
theorem Z9u (x:Nat):∀ l:List Nat,orL (l ++ [x])=orL l ||| x
 | []=>by show x ||| 0=0 ||| x; rw [Nat.or_zero,Y40]
 | y :: l=>by show y ||| orL (l ++ [x])=(y ||| orL l) ||| x; rw [Z9u x l,Y3s]
noncomputable def X5H (l:List Pr) (xs:List Nat):Nat:=orL (xs.map (sen l))
theorem ZgT (l:List Pr) (xs:List Nat) (x:Nat):X5H l (xs ++ [x])=X5H l xs ||| sen l x:=by unfold X5H; rw [Y0r]; exact Z9u _ _
theorem Zk1 {l:List Pr} (hl:XL l) {xs:List Nat} (h:∀ x∈xs,x<64):X5H l xs<18446744073709551616:=Zgj fun y hy=>by
 obtain⟨x,hx,rfl⟩:=Y0i.1 hy;exact ZcV l hl (h x hx)
theorem Zl1 (l:List Pr) (c:Cu):X1d l c=X5H l (mem (c.1 ||| c.2)):=rfl
theorem Zk2 {n:Nat} (hn:n<=5) {c:Cu} (hc:InC n c) {r:Nat} (hr:r∈mem (c.1 ||| c.2)):1<=r/\r<=5:=by
 have h64:=hc.lt (by omega);rw [ZY (Z1S h64.1 h64.2),Y00,YP] at hr;have hb1:(mkN n).testBit r=true:=hr.elim (fun h=>Xe.1 hc.y r h) fun h=>Xe.1 hc.n r h;rw [Z29,Y0k,Y0n,Y0n] at hb1;omega
theorem Z2X {t:PB} (h:Xt t) (hn:t.n<=5) (S:List Nat) (c:Cu) (hc:InC t.n c):X7 Tryz.prog 37 [.agg (pbP t S),.agg (cuC c)] (· = XD (X1d t.l c)):=by
 have hpp:=ZH t S;have h64:=hc.lt h.n.2;have hM:=Z1S h64.1 h64.2;have hmem:=fun r (hr:r∈mem (c.1 ||| c.2))=>Zk2 hn hc hr;have hpi:∀ D,X1I D (pbP t S):=fun D=>ZC (fun _ h=>h.elim) _ hpp;have hci:∀ D,X1I D (cuC c):=fun D=>ZC (fun _ h=>h.elim) _ (Zi c);refine Yp ok37 fun C hC=>?_;rw [Zl1];refine Zo ?_;refine Za ?_;refine Z5 rfl rfl rfl ?_;refine Z5 rfl rfl rfl ?_;refine gd 11 ⟨?_⟩;refine Qe (Z1r c.1 c.2 h64.1 h64.2) ⟨Z2 _,Z2 _,Yt⟩ ?_;generalize c.1 ||| c.2=M at hM hmem
 refine Qe (Z1H M) ⟨Z2 _,Yt⟩ ?_;refine go ?_;refine Z2q (X:=List Nat) hC (caps := [.cp [.vec (X5 (X9 M)) false]]) [(2,.cp (pbP t S)),(3,.cp (cuC c)),(4,.ptr 0 0 0),(5,.ptr 1 0 0),(12,.fn 142 [.cp [.vec (X5 (X9 M)) false]])]
  (fun z => [(0,⟨1,[[.vec [] true]]⟩),(1,sBx (X5H t.l z))]) rfl ⟨⟨Z7 _,Yt⟩,Yt⟩ (Z2s M hM) (fun _=>rfl)
  (fun ex pre z=>ex=.normal/\z=pre.map (·.val)) 2 (by decide) [] ⟨rfl,rfl⟩
  (Z2P (X3n.mem (ρ := fun i => i) (m := 2) (L := [(2, .cp (pbP t S)), (3, .cp (cuC c)), (4, .ptr 0 0 0), (5, .ptr 1 0 0), (12, .fn 142 [.cp [.vec (X5 (X9 M)) false]])]) ⟨Qp hpp, Qp (Zi c), Qt 0 0 0, Qt 1 0 0, Qp ⟨⟨Z7 _, Yt⟩, Yt⟩, Yt⟩)
    (X1y.mem (ρ:=fun i=>i) (m:=2) (L := [(0,⟨1,[[.vec [] true]]⟩),(1,sBx 0)]) ⟨Qs ⟨⟨Yt,Yt⟩,Yt⟩,⟨by decide,⟨1,[[.vec [] true]]⟩,rfl,by show Xu _ _ _ ⟨1,[[.vec (X5 (X9 0)) false]]⟩; rw [ZM]; exact Xu.single (ρ:=fun i=>i) (l0 := [.vec [] true]) (l := [.vec [] false]) (show X2j _ _ [_] [_] from ⟨.low (.vec [] true) Yt,Yt⟩) rfl⟩,Yt⟩) hC (by decide))
  (fun z q hq=>by simp at hq; rcases hq with rfl|rfl<;>exact Y1s _) _ (fun x=>rfl) ?_ ?_ ?_
 . rintro C2 hC2 pre x z ⟨-, rfl⟩ hlen;have hx:=hmem x.val x.2;have hst:=ZgT t.l (pre.map (·.val)) x.val;have hz:=Zk1 h.good.small (xs:=pre.map (·.val)) fun r hr=>by obtain⟨y,_,rfl⟩:=Y0i.1 hr; have:=hmem _ y.2; omega
   have hsl:=ZcV t.l h.good.small (show x.val<64 by omega);refine gd 18 ⟨?_⟩;refine Qd (Z46 t.l S x.val hx.1 (by omega)) ⟨Zq _ _,Yt,Yt⟩ ?_;refine Qd (Z1r _ _ hz hsl) ⟨Z2 _,Z2 _,Yt⟩ ?_;rw [<- hst];refine go ?_
   exact⟨.inl rfl,pre.map (·.val) ++ [x.val],fun i=>i,⟨rfl,by rw [Y0r]; rfl⟩,fun i hi=>rfl,Zk,
    ⟨Qp hpp,Qp (Zi c),Qt 0 0 0,Qt 1 0 0,Qp ⟨⟨Z7 _,Yt⟩,Yt⟩,Yt⟩,
    ⟨Qs ⟨⟨Yt,Yt⟩,Yt⟩,Qs ⟨⟨Z7 _,Yt⟩,Yt⟩,Yt⟩⟩
 . rintro xs z hxs ⟨-, rfl⟩;rw [hxs];refine go ?_;exact Z8 rfl (Z2 _) rfl
 . rintro ex pre z - ⟨rfl,_⟩ (h|⟨id,h⟩)<;>cases h
theorem Z2N {t:PB} (h:Xt t) (hn:t.n<=5) (S:List Nat):X7 Tryz.prog 34 [.agg (pbP t S)] fun r=>∃ R,X11 t R/\r=XD R:=by
 have hpp:=ZH t S;have hrb:=h.rl;have hnb:=h.nl;have hgb:=h.gk;have hgm:(t.gl.map cuC).length=t.gl.length:=Y0f ..;have hrm:(t.rs.map ruP).length=t.rs.length:=Y0f ..;have hnm:(t.nv.map cuC).length=t.nv.length:=Y0f ..;have hgp:=Zc Zi t.gl;have hnp:=Zc Zi t.nv;have hrp:=ZE t.rs;refine Yp ok34 fun C hC=>?_;refine Zo ?_;refine Za ?_;refine Z5 rfl rfl rfl ?_;refine gd 13 ⟨?_⟩;refine Qe (Z2z h S) ⟨hpp,Yt⟩ ?_;refine go ?_;refine ZA hC (fun (z:Nat×Nat)=>z.1<=t.gl.length/\X4y t z.2/\∀ c∈t.gl.take z.1,X1d t.l c ||| z.2=z.2) (fun z=>t.gl.length-z.1) 2 (fun z => [(1,.cp (pbP t S)),(2,.ptr 0 0 0),(3,.ptr 1 0 0),(17,.vec (t.gl.map cuC) false),(18,.val (.int .i64 (t.gl.length:Int))),(19,Yv z.1)]) (fun z => [(0,⟨1,[[.vec [] true]]⟩),(1,sBx z.2)]) (by decide) (0,0) ⟨Y0l _,X4y.zero t,fun c hc=>by simp at hc⟩
  (fun i=>i) (fun _ _=>rfl) (Zu rfl) ⟨Qp hpp,Qt 0 0 0,Qt 1 0 0,Qp hgp,⟨_,by rw [<- hgm]; rfl,.pure _ Yt⟩,Qp Yt,Yt⟩
  ⟨Qs ⟨⟨Yt,Yt⟩,Yt⟩,⟨by decide,⟨1,[[.vec [] true]]⟩,rfl,by show Xu _ _ _ ⟨1,[[.vec (X5 (X9 0)) false]]⟩; rw [ZM]; exact Xu.single (ρ:=fun i=>i) (l0 := [.vec [] true]) (l := [.vec [] false]) (show X2j _ _ [_] [_] from ⟨.low (.vec [] true) Yt,Yt⟩) rfl⟩,Yt⟩ ?_
 rintro⟨i,acc⟩ ⟨hi,hl,hg⟩;dsimp only at hi hl hg ⊢;have hinc:IntKind.i64.wrap ((i:Int)+1)=((i+1:Nat):Int):=Y0v _ ⟨by omega,by omega⟩;refine gd 20 ⟨?_⟩;by_cases hil:i<t.gl.length
 . refine Qo (Qy rfl (by omega)) ?_;have hc:=(h.gl _ (Y0j hil)).1;have htk:∀ x,x∈t.gl.take (i+1)↔x∈t.gl.take i \/ x=t.gl[i]:=fun x=>Z22 hil;have hget:=Y0j hil;refine gd 21 ⟨?_⟩;refine Qo (Zn (xs:=t.gl) (g:=cuC) rfl rfl i rfl hil rfl) ?_;generalize t.gl[i]=c at hc htk hget;have hd:=Zdk h hn hc;refine gd 26 ⟨?_⟩;refine Qd (Z2X h hn S c hc) ⟨hpp,Zi c,Yt⟩ ?_;refine Qd (Z1r acc (X1d t.l c) hl.lt hd) ⟨Z2 _,Z2 _,Yt⟩ ?_;refine go ?_
   refine⟨(i+1,acc ||| X1d t.l c),fun i=>i,⟨hil,hl.add hd fun R' h' _=>h'.gl c hget,fun x hx=>?_⟩,by show t.gl.length-(i+1)<t.gl.length-i; omega,fun _ _=>rfl,Zk,
    ⟨Qp hpp,Qt 0 0 0,Qt 1 0 0,Qp hgp,Qp Yt,⟨_,by show some _=some _; rw [hinc],.pure _ Yt⟩,Yt⟩,⟨Qs ⟨⟨Yt,Yt⟩,Yt⟩,Qs ⟨⟨Z7 _,Yt⟩,Yt⟩,Yt⟩⟩
   rcases (htk x).1 hx with hx|rfl
   . exact Z3f (hg x hx) (Z8l _ _)
   . exact ZkH _ _
 have hg0:X67 t acc:=⟨hl,fun c hc=>hg c (by rw [Y9 (by omega)]; exact hc)⟩
 clear hl hg hinc;refine Qo (Qz rfl (by omega)) ?_;refine go ?_;refine ZA hC (fun (a:Nat)=>X67 t a) (fun a=>18446744073709551616-a) 2 (fun a => [(1,.cp (pbP t S)),(2,.ptr 0 0 0),(3,.ptr 1 0 0)]) (fun a => [(0,⟨1,[[.vec [] true]]⟩),(1,sBx a)]) (by decide) acc hg0 (fun i=>i) (fun _ _=>rfl) Zk
  ⟨Qp hpp,Qt 0 0 0,Qt 1 0 0,Yt⟩ ⟨Qs ⟨⟨Yt,Yt⟩,Yt⟩,Qs ⟨⟨Z7 _,Yt⟩,Yt⟩,Yt⟩ ?_
 clear hg0 hi hil;intro old ho;refine go ?_;refine ZA hC (fun (z:Nat×Nat)=>z.1<=t.rs.length/\X4U t old z.1 z.2) (fun z=>t.rs.length-z.1) 3 (fun z => [(1,.cp (pbP t S)),(2,.ptr 0 0 0),(3,.ptr 1 0 0),(6,.ptr 2 0 0),(31,.vec (t.rs.map ruP) false),(32,.val (.int .i64 (t.rs.length:Int))),(33,Yv z.1)]) (fun z => [(0,⟨1,[[.vec [] true]]⟩),(1,sBx z.2),(2,sBx old)]) (by decide) (0,old) ⟨Y0l _,⟨ho.l,Nat.or_self _,fun _ x hx=>by simp at hx⟩⟩
  (fun i=>i) (fun _ _=>rfl) (Zu rfl) ⟨Qp hpp,Qt 0 0 0,Qt 1 0 0,Qt 2 0 0,Qp hrp,⟨_,by rw [<- hrm]; rfl,.pure _ Yt⟩,Qp Yt,Yt⟩
  ⟨Qs ⟨⟨Yt,Yt⟩,Yt⟩,Qs ⟨⟨Z7 _,Yt⟩,Yt⟩,Qs ⟨⟨Z7 _,Yt⟩,Yt⟩,Yt⟩ ?_
 clear i acc;rintro⟨i,acc⟩ ⟨hi,hR⟩;dsimp only at hi hR ⊢;have hinc:IntKind.i64.wrap ((i:Int)+1)=((i+1:Nat):Int):=Y0v _ ⟨by omega,by omega⟩;refine gd 34 ⟨?_⟩;by_cases hil:i<t.rs.length
 . refine Qo (Qy rfl (by omega)) ?_;have hx:=h.rs _ (Y0j hil);have hsk:=hR.skip hil;have had:=hR.add hil;have hal:=hR.l.lt;refine gd 35 ⟨?_⟩;refine Qo (Zn (xs:=t.rs) (g:=ruP) rfl rfl i rfl hil rfl) ?_;generalize t.rs[i]=x at hx hsk had;have hd:=Zdk h hn hx.cu;have hxt:=hx.tg;have hh:=Z1m acc hal x.tg;cases hv:x.rev
   case true =>
    refine gd 38 ⟨?_⟩;refine Qo (Z6 (v:=true) rfl hv) ?_;refine go ?_
    exact⟨(i+1,acc),fun i=>i,⟨hil,hsk (.inl hv)⟩,by show t.rs.length-(i+1)<t.rs.length-i; omega,fun _ _=>rfl,Zk,
     ⟨Qp hpp,Qt 0 0 0,Qt 1 0 0,Qt 2 0 0,Qp hrp,Qp Yt,⟨_,by show some _=some _; rw [hinc],.pure _ Yt⟩,Yt⟩,⟨Qs ⟨⟨Yt,Yt⟩,Yt⟩,Qs ⟨⟨Z7 _,Yt⟩,Yt⟩,Qs ⟨⟨Z7 _,Yt⟩,Yt⟩,Yt⟩⟩
   refine gd 38 ⟨?_⟩;refine Qo (Z6 (v:=false) rfl hv) ?_;refine gd 44 ⟨?_⟩;refine Zr rfl ?_;refine Qe hh ⟨Z2 _,Yt,Yt⟩ ?_;cases hb:acc.testBit x.tg
   case false =>
    refine go ?_
    exact⟨(i+1,acc),fun i=>i,⟨hil,hsk (.inr hb)⟩,by show t.rs.length-(i+1)<t.rs.length-i; omega,fun _ _=>rfl,Zk,
     ⟨Qp hpp,Qt 0 0 0,Qt 1 0 0,Qt 2 0 0,Qp hrp,Qp Yt,⟨_,by show some _=some _; rw [hinc],.pure _ Yt⟩,Yt⟩,⟨Qs ⟨⟨Yt,Yt⟩,Yt⟩,Qs ⟨⟨Z7 _,Yt⟩,Yt⟩,Qs ⟨⟨Z7 _,Yt⟩,Yt⟩,Yt⟩⟩
   refine gd 50 ⟨?_⟩;refine Qd (Z2X h hn S x.cu hx.cu) ⟨hpp,Zi x.cu,Yt⟩ ?_;refine Qd (Z1r acc (X1d t.l x.cu) hal hd) ⟨Z2 _,Z2 _,Yt⟩ ?_;refine go ?_
   exact⟨(i+1,acc ||| X1d t.l x.cu),fun i=>i,⟨hil,had hd hv hb⟩,by show t.rs.length-(i+1)<t.rs.length-i; omega,fun _ _=>rfl,Zk,
    ⟨Qp hpp,Qt 0 0 0,Qt 1 0 0,Qt 2 0 0,Qp hrp,Qp Yt,⟨_,by show some _=some _; rw [hinc],.pure _ Yt⟩,Yt⟩,⟨Qs ⟨⟨Yt,Yt⟩,Yt⟩,Qs ⟨⟨Z7 _,Yt⟩,Yt⟩,Qs ⟨⟨Z7 _,Yt⟩,Yt⟩,Yt⟩⟩
 have hN:=hR.done (by omega);clear hR hinc;refine Qo (Qz rfl (by omega)) ?_;refine go ?_;refine ZA hC (fun (z:Nat×Nat)=>z.1<=t.nv.length/\X43 t old z.1 z.2) (fun z=>t.nv.length-z.1) 3 (fun z => [(1,.cp (pbP t S)),(2,.ptr 0 0 0),(3,.ptr 1 0 0),(6,.ptr 2 0 0),(54,.vec (t.nv.map cuC) false),(55,.val (.int .i64 (t.nv.length:Int))),(56,Yv z.1)]) (fun z => [(0,⟨1,[[.vec [] true]]⟩),(1,sBx z.2),(2,sBx old)]) (by decide) (0,acc) ⟨Y0l _,hN⟩
  (fun i=>i) (fun _ _=>rfl) (Zu rfl) ⟨Qp hpp,Qt 0 0 0,Qt 1 0 0,Qt 2 0 0,Qp hnp,⟨_,by rw [<- hnm]; rfl,.pure _ Yt⟩,Qp Yt,Yt⟩
  ⟨Qs ⟨⟨Yt,Yt⟩,Yt⟩,Qs ⟨⟨Z7 _,Yt⟩,Yt⟩,Qs ⟨⟨Z7 _,Yt⟩,Yt⟩,Yt⟩ ?_
 clear hN hi hil;rintro⟨i,acc⟩ ⟨hi,hR⟩;dsimp only at hi hR ⊢;have hinc:IntKind.i64.wrap ((i:Int)+1)=((i+1:Nat):Int):=Y0v _ ⟨by omega,by omega⟩;have hal:=hR.l.lt;refine gd 57 ⟨?_⟩;by_cases hil:i<t.nv.length
 . refine Qo (Qy rfl (by omega)) ?_;have hx:=(h.nv _ (Y0j hil)).1;have hsk:=hR.skip hil;have had:=hR.add hil;refine gd 58 ⟨?_⟩;refine Qo (Zn (xs:=t.nv) (g:=cuC) rfl rfl i rfl hil rfl) ?_;generalize t.nv[i]=c at hx hsk had;have hd:=Zdk h hn hx;refine gd 62 ⟨?_⟩;refine Qe (Z2X h hn S c hx) ⟨hpp,Zi c,Yt⟩ ?_;refine gd 65 ⟨?_⟩;refine Qe (Z4n (X1d t.l c) acc hd hal) ⟨Z2 _,Z2 _,Yt⟩ ?_;by_cases hm:X1d t.l c &&& acc=0
   . rw [Y0w (Y3w.2 hm)];refine go ?_
     exact⟨(i+1,acc),fun i=>i,⟨hil,hsk hm⟩,by show t.nv.length-(i+1)<t.nv.length-i; omega,fun _ _=>rfl,Zk,
      ⟨Qp hpp,Qt 0 0 0,Qt 1 0 0,Qt 2 0 0,Qp hnp,Qp Yt,⟨_,by show some _=some _; rw [hinc],.pure _ Yt⟩,Yt⟩,⟨Qs ⟨⟨Yt,Yt⟩,Yt⟩,Qs ⟨⟨Z7 _,Yt⟩,Yt⟩,Qs ⟨⟨Z7 _,Yt⟩,Yt⟩,Yt⟩⟩
   rw [Y8 hm];refine gd 68 ⟨?_⟩;refine Qe (Z1r acc (X1d t.l c) hal hd) ⟨Z2 _,Z2 _,Yt⟩ ?_;refine go ?_
   exact⟨(i+1,acc ||| X1d t.l c),fun i=>i,⟨hil,had hd hm⟩,by show t.nv.length-(i+1)<t.nv.length-i; omega,fun _ _=>rfl,Zk,
    ⟨Qp hpp,Qt 0 0 0,Qt 1 0 0,Qt 2 0 0,Qp hnp,Qp Yt,⟨_,by show some _=some _; rw [hinc],.pure _ Yt⟩,Yt⟩,⟨Qs ⟨⟨Yt,Yt⟩,Yt⟩,Qs ⟨⟨Z7 _,Yt⟩,Yt⟩,Qs ⟨⟨Z7 _,Yt⟩,Yt⟩,Yt⟩⟩
 refine Qo (Qz rfl (by omega)) ?_;refine gd 72 ⟨?_⟩;refine Qe (Z4H acc old hal ho.l.lt) ⟨Z2 _,Z2 _,Yt⟩ ?_;by_cases he:acc=old
 . rw [Y8 he];subst he;refine go ?_;exact Z8 rfl (Z2 _) ⟨acc,hR.done ho (by omega),rfl⟩
 rw [Y0w he];have hlt:=Zgi hR.sub he;refine go ?_
 exact⟨acc,fun i=>i,hR.next ho,by omega,fun _ _=>rfl,Zk,
  ⟨Qp hpp,Qt 0 0 0,Qt 1 0 0,Yt⟩,⟨Qs ⟨⟨Yt,Yt⟩,Yt⟩,Qs ⟨⟨Z7 _,Yt⟩,Yt⟩,Yt⟩⟩
section
variable {v0 v1 v2 v3 v4 v5:PV} {e:Int}
end
theorem ZeA (xs:List RU) (fl:Bool) (hlen:xs.length<=1000000):X1u Tryz.prog 24 [.vec (xs.map ruP) fl] .own ⟨5,xs.map ruP⟩:=by
 refine Z1z ok24 (Y0 rfl) fun C hC=>?_;have fin:∀ (x:RU) (xs:List RU),(∀ c∈(x :: xs).map ruP,c.length=5):=fun x xs c hc=>by obtain⟨y,_,rfl⟩:=Y0i.1 hc; rfl
 cases xs with
 | nil =>
   refine go ?_;refine Z4q (.inl ⟨_,_,rfl⟩) rfl fun b=>?_;cases b
   . repeat' (first | refine Zb (Zx (k := 5) rfl 5 (by decide)) ?_ | (first|refine st ?_|(apply B<;>intro hb<;>try cases hb)))
     exact⟨_,_,rfl,.inl rfl,_,rfl,rfl⟩
   . iterate 6 (first|refine st ?_|(apply B<;>intro hb<;>try cases hb))
     refine Z24 (Zx (k:=2) rfl 5 (by decide) _) ?_;refine go ?_;exact⟨_,_,rfl,.inl rfl,_,rfl,rfl⟩
 | cons x xs =>
   repeat' (first|refine Zb (Zx (k:=5) rfl 5 (by decide)) ?_|(first|refine st ?_|(apply B<;>intro hb<;>try cases hb)))
   refine ZF (Zt (k:=0) (m:=(x :: xs).map ruP) (fl:=fl) rfl rfl rfl (fin x xs) rfl (by
    show (([]:List (List PV)).length+((x :: xs).map ruP).length)*72<=_
    rw [Y0f,Y2X];omega)) rfl rfl ?_
   refine go ?_;exact⟨_,_,rfl,.inl rfl,_,rfl,by rw [Y1g]; rfl⟩
theorem Z8q (xs:List Cu) (fl:Bool) (hlen:xs.length<=1000000):X1u Tryz.prog 25 [.vec (xs.map cuC) fl] .own ⟨2,xs.map cuC⟩:=by
 refine Z1z ok25 (Y0 rfl) fun C hC=>?_;refine gd 4 ⟨?_⟩;refine Z3r (Z5E xs fl hlen) Z3M (Z1 _) rfl rfl ⟨Z1 _,Yt⟩ ?_;refine go ?_;exact⟨_,_,rfl,.inl rfl,0,rfl,rfl⟩
def ruK (q:RU×Nat):List PV:=ruP q.1
def kzP (t:PB) (R i:Nat):List (RU×Nat):=(t.rs.zipIdx.take i).filter fun q=>R.testBit q.1.tg
theorem Zis {t:PB} {R i:Nat} (h:i<t.rs.length):kzP t R (i+1)=kzP t R i++if R.testBit t.rs[i].tg then [(t.rs[i],i)] else []:=by
 unfold kzP;have hl:i<t.rs.zipIdx.length:=by rw [Y49]; exact h
 rw [YZ,Y0c hl,Y2x];congr 1;have:t.rs.zipIdx[i]=(t.rs[i],i):=by simp
 rw [this];show List.filter _ [_]=_;rw [List.filter_cons]
 rfl
theorem Zk3 {t:PB} {R i:Nat} (h:t.rs.length<=i):kzP t R i=kzL t R:=by
 unfold kzP kzL;rw [Y9 (by rw [Y49]; exact h)]
theorem Zk4 (t:PB) (R i:Nat):(kzP t R i).length<=i:=Y03 (Y1H ..) (by rw [Y0o]; exact Y3m _ _)
noncomputable def nvP (t:PB) (R i:Nat):List Cu:=(t.nv.take i).filter fun c=>decide (X1d t.l c &&& R≠0)
theorem Zit {t:PB} {R i:Nat} (h:i<t.nv.length):nvP t R (i+1)=nvP t R i++if decide (X1d t.l t.nv[i] &&& R≠0) then [t.nv[i]] else []:=by
 unfold nvP;rw [YZ,Y0c h,Y2x];congr 1;show List.filter _ [_]=_;rw [List.filter_cons]
 rfl
theorem Zk5 (t:PB) (R i:Nat):(nvP t R i).length<=i:=Y03 (Y1H ..) (by rw [Y0o]; exact Y3m _ _)
theorem Ziu (l:List (RU×Nat)) (x:RU) (i:Nat):l.map ruK ++ [ruP x]=(l ++ [(x,i)]).map ruK:=by simp [ruK]
theorem Ziv (l:List (RU×Nat)) (x:RU) (i:Nat):inL (l.map (·.2)) ++ [X33 i]=inL ((l ++ [(x,i)]).map (·.2)):=by simp [inL]
theorem Zk6 (l:List Cu) (c:Cu):l.map cuC ++ [cuC c]=(l ++ [c]).map cuC:=by simp
theorem Z3E (l:List (RU×Nat)):X3 (l.map ruK):=Zc (enc:=ruK) (fun q=>by have:=ZE [q.1]; exact this.1) l
def z6:List PV := [.val (.int .i64 0),.val (.pointer none),.vec [] true,.vec [] true,.vec [] true,.vec [] true]
theorem ZeB {t:PB} (h:Xt t) (S:List Nat):X7 Tryz.prog 9 [.agg (pbP t S)] (· = .agg (pbP t S)):=by
 have hrl:=h.rl;have hnl:=h.nl;have hgk:=h.gk;refine Yp ok9 fun C hC=>?_;refine gd 5 ⟨?_⟩;refine Z6d (ZeA t.rs false (by omega)) Z3M (ZE _) rfl rfl rfl ⟨ZE _,Yt⟩ ?_;refine gd 8 ⟨?_⟩;refine Z6d (Z8q t.nv false (by omega)) Z3M (Z1 _) rfl rfl rfl ⟨Z1 _,Yt⟩ ?_;refine gd 11 ⟨?_⟩;refine Z6d (Z8q t.gl false (by omega)) Z3M (Z1 _) rfl rfl rfl ⟨Z1 _,Yt⟩ ?_;refine gd 15 ⟨?_⟩;refine Zb (Zs (ob:=0) (id:=4) (i0:=0) (j0:=3) rfl rfl (by decide) (ZE _) (Y0 rfl) (Y0 rfl) rfl) ?_;refine Zb (Zs (ob:=0) (id:=7) (i0:=0) (j0:=4) rfl rfl (by decide) (Z1 _) (Y0 rfl) (Y0 rfl) rfl) ?_;refine Zb (Zs (ob:=0) (id:=10) (i0:=0) (j0:=5) rfl rfl (by decide) (Z1 _) (Y0 rfl) (Y0 rfl) rfl) ?_;refine go ?_;exact Z8 rfl (ZH t S) rfl
theorem Zaw {t:PB} (h:Xt t) (hn:t.n<=5) (S:List Nat):X7 Tryz.prog 13 [.agg (pbP t S)] fun r=>∃ R,X11 t R/\r=.tup [.agg (pbP (Xo t R) S),.vec (inL (X1U t R)) false,.val (.int .i64 0)]:=by
 have hpp:=ZH t S;have hrb:=h.rl;have hnb:=h.nl;have hrm:(t.rs.map ruP).length=t.rs.length:=Y0f ..;have hnm:(t.nv.map cuC).length=t.nv.length:=Y0f ..;have hnp:=Zc Zi t.nv;have hrp:=ZE t.rs;refine Yp ok13 fun C hC=>?_;refine Zo ?_;refine Za ?_;refine Z5 rfl rfl rfl ?_;refine gd 15 ⟨?_⟩;refine Qe (Z2z h S) ⟨hpp,Yt⟩ ?_;refine gd 21 ⟨?_⟩;refine ZD rfl rfl (Z2N h hn S) ⟨hpp,Yt⟩ rfl ?_;rintro r ⟨R,hR,rfl⟩;refine gd 23 ⟨?_⟩;refine Qe (ZeB h S) ⟨hpp,Yt⟩ ?_;refine gd 31 ⟨?_⟩;refine Qd (Z2K t.st R (InS.lt h.n.2 h.st) hR.lt) ⟨Z2 _,Z2 _,Yt⟩ ?_;refine gd 35 ⟨?_⟩;refine Zb (ZP (id:=14) (i0:=0) (j0:=3) rfl (Y0 rfl) (Y0 rfl) rfl 5 (by decide) (by decide)) ?_;refine Zb (Zx (k:=9) rfl 1 (by decide)) ?_;refine go ?_;have hz6:∀ D,X1I D z6:=fun D=>⟨Yt,Yt,Yt,Yt,Yt,Yt,Yt⟩
 refine ZA hC (fun i=>i<=t.rs.length) (fun i=>t.rs.length-i) 18 (fun i => [(1,.cp (pbP t S)),(2,.ptr 0 0 0),(6,.ptr 1 0 0),(7,.ptr 2 0 0),(8,.ptr 14 0 0),(9,.own 17),(36,.vec (t.rs.map ruP) false),(37,.val (.int .i64 (t.rs.length:Int))),(38,Yv i)]) (fun i => [(0,⟨6,[z6]⟩),(1,sBx R),(2,⟨6,[pbP t S]⟩),(14,⟨6,[[.val (.int .i64 (t.n:Int)),X15 t.l S,.vec (X5 (X9 (t.st &&& R))) false,.own 16,.vec [] true,.vec (t.gl.map cuC) false]]⟩),(16,⟨5,(kzP t R i).map ruK⟩),(17,⟨1,inL ((kzP t R i).map (·.2))⟩)]) (by decide) 0 (Y0l _)
  (fun i=>i) (fun _ _=>rfl) Zk ⟨Qp hpp,Qt 0 0 0,Qt 1 0 0,Qt 2 0 0,Qt 14 0 0,Qw 17,Qp hrp,⟨_,by rw [<- hrm]; rfl,.pure _ Yt⟩,Qp Yt,Yt⟩ ⟨Qs ⟨⟨Yt,Yt,Yt,Yt,Yt,Yt,Yt⟩,Yt⟩,Qs ⟨⟨Z7 _,Yt⟩,Yt⟩,Qs ⟨hpp,Yt⟩,⟨by decide,_,rfl,Xu.single ⟨.pure _ Yt,.pure _ (Zq _ _),.pure _ (Z7 _),.own (ρ:=fun i=>i) 16 (by decide),.pure _ Yt,.pure _ (Z1 _),Yt⟩ rfl⟩,Qs Yt,Qs Yt,Yt⟩ ?_
 intro i hi;have hinc:IntKind.i64.wrap ((i:Int)+1)=((i+1:Nat):Int):=Y0v _ ⟨by omega,by omega⟩;refine gd 39 ⟨?_⟩;by_cases hil:i<t.rs.length
 . refine Qo (Qy rfl (by omega)) ?_;have hsu:=Zis (R:=R) hil;have hkl:=Zk4 t R i;have hxo:=h.rs _ (Y0j hil);generalize kzP t R i=K at hsu hkl;refine gd 41 ⟨?_⟩;refine Qo (Zn (xs:=t.rs) (g:=ruP) rfl rfl i rfl hil rfl) ?_;generalize t.rs[i]=x at hsu hxo;refine gd 46 ⟨?_⟩;refine Qe (Z1m R hR.lt x.tg) ⟨Z2 _,Yt,Yt⟩ ?_;cases hb:R.testBit x.tg
   case false =>
    rw [hb,Y6 (by decide),Y0p] at hsu;refine go ?_
    exact⟨i+1,fun i=>i,hil,by omega,fun _ _=>rfl,Zk,
     ⟨Qp hpp,Qt 0 0 0,Qt 1 0 0,Qt 2 0 0,Qt 14 0 0,Qw 17,Qp hrp,Qp Yt,⟨_,by show some _=some _; rw [hinc],.pure _ Yt⟩,Yt⟩,⟨Qs ⟨⟨Yt,Yt,Yt,Yt,Yt,Yt,Yt⟩,Yt⟩,Qs ⟨⟨Z7 _,Yt⟩,Yt⟩,Qs ⟨hpp,Yt⟩,⟨by decide,_,rfl,Xu.single ⟨.pure _ Yt,.pure _ (Zq _ _),.pure _ (Z7 _),.own (ρ:=fun i=>i) 16 (by decide),.pure _ Yt,.pure _ (Z1 _),Yt⟩ rfl⟩,⟨by decide,_,rfl,by rw [hsu]; exact .same _ (Z3E _)⟩,⟨by decide,_,rfl,by rw [hsu]; exact .same _ (Zw _)⟩,Yt⟩⟩
   rw [hb,Y5 rfl] at hsu;refine gd 51 ⟨?_⟩
   refine ZF (Zt (k:=16) (m := [ruP x]) (fl:=true) rfl rfl rfl (fun q hq=>by rw [Y0g] at hq; subst hq; rfl) rfl (by
    show ((K.map ruK).length+1)*72<=_
    rw [Y0f];omega)) rfl rfl ?_
   simp only;rw [Ziu K x i];refine gd 55 ⟨?_⟩
   refine ZF (Zt (k:=17) (m := [X33 i]) (fl:=true) rfl rfl rfl (fun q hq=>by rw [Y0g] at hq; subst hq; rfl) rfl (by
    show ((inL (K.map (·.2))).length+1)*8<=_
    rw [Z2n,Y0f];omega)) rfl rfl ?_
   simp only;rw [Ziv K x i];refine go ?_
   exact⟨i+1,fun i=>mv 16 19 (mv 17 20 i),hil,by omega,fun i hi=>absurd hi (YE i),Zu rfl,
    ⟨Qp hpp,Qt 0 0 0,Qt 1 0 0,Qt 2 0 0,Qt 14 0 0,Qw 17,Qp hrp,Qp Yt,⟨_,by show some _=some _; rw [hinc],.pure _ Yt⟩,Yt⟩,⟨Qs ⟨⟨Yt,Yt,Yt,Yt,Yt,Yt,Yt⟩,Yt⟩,Qs ⟨⟨Z7 _,Yt⟩,Yt⟩,Qs ⟨hpp,Yt⟩,⟨by decide,_,rfl,Xu.single ⟨.pure _ Yt,.pure _ (Zq _ _),.pure _ (Z7 _),.own (ρ:=fun i=>mv 16 19 (mv 17 20 i)) 16 (by decide),.pure _ Yt,.pure _ (Z1 _),Yt⟩ rfl⟩,⟨by decide,_,rfl,by rw [hsu]; exact .same _ (Z3E _)⟩,⟨by decide,_,rfl,by rw [hsu]; exact .same _ (Zw _)⟩,Yt⟩⟩
 have hie:t.rs.length<=i:=by omega
 rw [Zk3 hie];refine Qo (Qz rfl (by omega)) ?_;refine gd 58 ⟨?_⟩;refine Zb (Zs (ob:=14) (id:=16) (i0:=0) (j0:=3) rfl rfl (by decide) (Z3E _) (Y0 rfl) (Y0 rfl) rfl) ?_;refine Zb (Zm (k:=9) (id:=17) (b:=⟨1,inL ((kzL t R).map (·.2))⟩) rfl rfl (Zw _)) ?_;refine Zb (ZP (id:=14) (i0:=0) (j0:=4) rfl (Y0 rfl) (Y0 rfl) rfl 2 (by decide) (by decide)) ?_;refine go ?_;refine ZA hC (fun i=>i<=t.nv.length) (fun i=>t.nv.length-i) 19 (fun i => [(1,.cp (pbP t S)),(2,.ptr 0 0 0),(6,.ptr 1 0 0),(8,.ptr 14 0 0),(9,.vec (inL ((kzL t R).map (·.2))) false),(59,.vec (t.nv.map cuC) false),(60,.val (.int .i64 (t.nv.length:Int))),(61,Yv i)]) (fun i => [(0,⟨6,[z6]⟩),(1,sBx R),(14,⟨6,[[.val (.int .i64 (t.n:Int)),X15 t.l S,.vec (X5 (X9 (t.st &&& R))) false,.vec ((kzL t R).map ruK) false,.own 18,.vec (t.gl.map cuC) false]]⟩),(18,⟨2,(nvP t R i).map cuC⟩)]) (by decide) 0 (Y0l _)
  (fun i=>i) (fun _ _=>rfl) Zk ⟨Qp hpp,Qt 0 0 0,Qt 1 0 0,Qt 14 0 0,Qp (Zw _),Qp hnp,⟨_,by rw [<- hnm]; rfl,.pure _ Yt⟩,Qp Yt,Yt⟩ ⟨Qs ⟨⟨Yt,Yt,Yt,Yt,Yt,Yt,Yt⟩,Yt⟩,Qs ⟨⟨Z7 _,Yt⟩,Yt⟩,⟨by decide,_,rfl,Xu.single ⟨.pure _ Yt,.pure _ (Zq _ _),.pure _ (Z7 _),.pure (.vec ((kzL t R).map ruK) false) (Z3E _),.own (ρ:=fun i=>i) 18 (by decide),.pure _ (Z1 _),Yt⟩ rfl⟩,Qs Yt,Yt⟩ ?_
 intro i hi;have hinc:IntKind.i64.wrap ((i:Int)+1)=((i+1:Nat):Int):=Y0v _ ⟨by omega,by omega⟩;refine gd 62 ⟨?_⟩;by_cases hil:i<t.nv.length
 . refine Qo (Qy rfl (by omega)) ?_;have hsu:=Zit (R:=R) hil;have hkl:=Zk5 t R i;have hx:=(h.nv _ (Y0j hil)).1;generalize nvP t R i=K at hsu hkl;refine gd 63 ⟨?_⟩;refine Qo (Zn (xs:=t.nv) (g:=cuC) rfl rfl i rfl hil rfl) ?_;generalize t.nv[i]=c at hsu hx;have hd:=Zdk h hn hx;refine gd 67 ⟨?_⟩;refine Qd (Z2X h hn S c hx) ⟨hpp,Zi c,Yt⟩ ?_;refine gd 69 ⟨?_⟩;refine Qd (Z4n (X1d t.l c) R hd hR.lt) ⟨Z2 _,Z2 _,Yt⟩ ?_;cases hb:decide (X1d t.l c &&& R≠0)
   case false =>
    rw [hb,Y6 (by decide),Y0p] at hsu;refine go ?_
    exact⟨i+1,fun i=>i,hil,by omega,fun _ _=>rfl,Zk,
     ⟨Qp hpp,Qt 0 0 0,Qt 1 0 0,Qt 14 0 0,Qp (Zw _),Qp hnp,Qp Yt,⟨_,by show some _=some _; rw [hinc],.pure _ Yt⟩,Yt⟩,⟨Qs ⟨⟨Yt,Yt,Yt,Yt,Yt,Yt,Yt⟩,Yt⟩,Qs ⟨⟨Z7 _,Yt⟩,Yt⟩,⟨by decide,_,rfl,Xu.single ⟨.pure _ Yt,.pure _ (Zq _ _),.pure _ (Z7 _),.pure (.vec ((kzL t R).map ruK) false) (Z3E _),.own (ρ:=fun i=>i) 18 (by decide),.pure _ (Z1 _),Yt⟩ rfl⟩,⟨by decide,_,rfl,by rw [hsu]; exact .same _ (Z1 _)⟩,Yt⟩⟩
   rw [hb,Y5 rfl] at hsu;refine gd 74 ⟨?_⟩
   refine ZF (Zt (k:=18) (m := [cuC c]) (fl:=true) rfl rfl rfl (fun q hq=>by rw [Y0g] at hq; subst hq; rfl) rfl (by
    show ((K.map cuC).length+1)*48<=_
    rw [Y0f];omega)) rfl rfl ?_
   simp only;rw [Zk6];refine go ?_
   exact⟨i+1,mv 18 25,hil,by omega,fun i hi=>absurd hi (YE i),Zu rfl,
    ⟨Qp hpp,Qt 0 0 0,Qt 1 0 0,Qt 14 0 0,Qp (Zw _),Qp hnp,Qp Yt,⟨_,by show some _=some _; rw [hinc],.pure _ Yt⟩,Yt⟩,⟨Qs ⟨⟨Yt,Yt,Yt,Yt,Yt,Yt,Yt⟩,Yt⟩,Qs ⟨⟨Z7 _,Yt⟩,Yt⟩,⟨by decide,_,rfl,Xu.single ⟨.pure _ Yt,.pure _ (Zq _ _),.pure _ (Z7 _),.pure (.vec ((kzL t R).map ruK) false) (Z3E _),.own (ρ:=mv 18 25) 18 (by decide),.pure _ (Z1 _),Yt⟩ rfl⟩,⟨by decide,_,rfl,by rw [hsu]; exact .same _ (Z1 _)⟩,Yt⟩⟩
 have hie:t.nv.length<=i:=by omega
 have hnv:nvP t R i=(Xo t R).nv:=by unfold nvP; rw [Y9 hie]; rfl
 rw [hnv];refine Qo (Qz rfl (by omega)) ?_;refine gd 77 ⟨?_⟩;refine Zb (Zs (ob:=14) (id:=18) (i0:=0) (j0:=4) rfl rfl (by decide) (Z1 _) (Y0 rfl) (Y0 rfl) rfl) ?_;refine go ?_;have hrs:(kzL t R).map ruK=(Xo t R).rs.map ruP:=by unfold Xo; rw [Y2C]; rfl
 refine Z8 (r:=.tup [.agg [.val (.int .i64 (t.n:Int)),X15 t.l S,.vec (X5 (X9 (t.st &&& R))) false,.vec ((kzL t R).map ruK) false,.vec ((Xo t R).nv.map cuC) false,.vec (t.gl.map cuC) false],.vec (inL ((kzL t R).map (·.2))) false,.val (.int .i64 0)]) rfl ⟨⟨Yt,Zq _ _,Z7 _,Z3E _,Z1 _,Z1 _,Yt⟩,Zw _,Yt,Yt⟩ ⟨R,hR,?_⟩;rw [hrs]
 rfl
end
section
open Go.RowKit
section
variable {P:Program} {e:Env} {h:X1} {n:Nat} {K:Nat->Env->X1->Prop} {os:List Xn} {d:Option Nat}
theorem Zax {vs:Array Value} {x:Value} {j:Nat} (hj:j<vs.size):(vs.push x).getD j undef=vs.getD j undef:=by
 rw [Y0d,Y0d,Array.getElem?_push,Y6 (by omega)]
theorem Zay {vs:Array Value} {x:Value}:(vs.push x).getD vs.size undef=x:=by
 rw [Y0d,Array.getElem?_push,Y5 rfl]; rfl
theorem X7.roF {g g2:FuncId} {args:List PV} {i k esz:Nat} {l caps:List PV} {v:Value} (hs:X7 P g (args.set i (.fn g2 (.cp l :: caps))) (· = .val v)) (hi:args[i]?=some (.fn g2 (.ptr k 0 0 :: caps))) (hb:h k=some ⟨esz,[l]⟩) (hpr:X6 (args.set i (.fn g2 (.cp l :: caps)))) :
 X12 P g n args h fun n' r h'=>n'=n/\r=.val v/\h'=h:=by
 refine⟨hs.1,fun C e F φ a w vs s hv=>?_⟩;have hil:i<args.length:=(Y7.1 hi).1;have hgi:args.getD i pvu=.fn g2 (.ptr k 0 0 :: caps):=by rw [Y0b,hi]; rfl
 have h0:=hv.2 i hil;rw [hgi] at h0;obtain⟨cv,hcv,hcs,hcr⟩:=h0.fn_inv;have hp0:=hcr 0 (by simp)
 let C1:Ctx:=⟨C.w0,C.G,C.F0,vs.size+1,C.φ0⟩
 let a1:Act:={ a with tmps:=vs.push (cv.getD 0 undef) }
 let e1:Env:=(XT args).upd args.length (.ptr k 0 0)
 have s1:St' C1 (fun j=>n<=j) e1 h F φ a1 w:=by
  refine { nt:=by show (vs.push _).size=_; rw [Array.size_push],glob:=s.glob,marks:=⟨s.marks.nd,s.marks.all⟩,loc0:=s.loc0,free:=s.free,env:=fun j p hp=>?_,froz:=s.froz,ext:=s.ext,old:=s.old,os:=s.os,tape:=s.tape,output:=s.output,size:=s.size,kept:=s.kept,live:=s.live,sep:=s.sep };by_cases hj:j=args.length
  . subst hj;have hp:((XT args).upd args.length (.ptr k 0 0)) args.length=some p:=hp;rw [Env.upd_same] at hp;cases hp;refine⟨by show args.length<vs.size+1; rw [hv.1]; omega,?_⟩;show Rep F φ ((vs.push (cv.getD 0 undef)).getD args.length undef) _;rw [<- hv.1,Zay];exact hp0
  . have hp : ((XT args).upd args.length (.ptr k 0 0)) j = some p := hp;rw [Env.upd_ne _ _ hj] at hp;have hjl:j<args.length:=(Y7.1 hp).1;refine⟨by show j<vs.size+1; rw [hv.1]; omega,?_⟩;show Rep F φ ((vs.push (cv.getD 0 undef)).getD j undef) _;rw [Zax (by rw [hv.1]; exact hjl)];have h1:=hv.2 j hjl;have e2:args.getD j pvu=p:=by
     rw [Y0b];have hp':args[j]?=some p:=hp;rw [hp']; rfl
    rw [<- e2];exact h1
 obtain⟨F2,φ2,s2⟩:=Z2o (k:=args.length) (id:=k) (e:=e1) (Env.upd_same _ _ _) hb a1 w ⟨F,φ,s1⟩;have hcp:Rep F2 φ2 (cv.getD 0 undef) (.cp l):=by
  have:=(s2.env args.length (.cp l) (Env.upd_same _ _ _)).2;have e2:a1.tmps.getD args.length undef=cv.getD 0 undef:=by
   show (vs.push (cv.getD 0 undef)).getD args.length undef=_;rw [<- hv.1,Zay]
  rwa [e2] at this
 have hold:∀ j,j<args.length->Rep F2 φ2 (vs.getD j undef) (args.getD j pvu):=fun j hj=>by
  have he:(e1.upd args.length (.cp l)) j=some (args.getD j pvu):=by
   rw [Env.upd_ne _ _ (by omega)];show ((XT args).upd args.length (.ptr k 0 0)) j=_;rw [Env.upd_ne _ _ (by omega),Y0b];show args[j]?=_;rw [Y0c hj]
   rfl
  have:=(s2.env j _ he).2;have e2:a1.tmps.getD j undef=vs.getD j undef:=Zax (by rw [hv.1]; exact hj)
  rwa [e2] at this
 have hrep:X1C F2 XB vs (args.set i (.fn g2 (.cp l :: caps))):=by
  refine⟨by rw [hv.1,Y14],fun j hj=>?_⟩;have hj':j<args.length:=by rwa [Y14] at hj
  have hpj:=ZN hpr j;by_cases hji:j=i
  . subst hji;have e2:(args.set j (.fn g2 (.cp l :: caps))).getD j pvu=.fn g2 (.cp l :: caps):=by rw [Y0b,Y3L hj']; rfl
    rw [e2] at hpj ⊢;refine Rep.pure (φ:=φ2) ?_ hpj;rw [hcv];refine .fn g2 cv _ (by rw [hcs]; rfl) fun m hm=>?_;cases m with
    | zero=>exact hcp
    | succ m =>
      have h1:=hold j hj';rw [hgi,hcv] at h1;obtain⟨cv',h2,h3,h4⟩:=h1.fn_inv;cases h2;exact h4 (m+1) hm
  . have e2 : (args.set i (.fn g2 (.cp l :: caps))).getD j pvu = args.getD j pvu := by rw [Y0b, Y0b, Y3e (Y25 hji)]
    rw [e2] at hpj ⊢;exact Rep.pure (φ:=φ2) (hold j hj') hpj
 refine (hs.2 F2 w vs ⟨s2.froz,s2.glob⟩ hrep).mono ?_;rintro en w' ⟨v',r,F3,rfl,rfl,hr,hbel,-,-,-⟩;obtain rfl:v'=v:=hr.val_inv;exact⟨v',.val v',n,h,F,φ,rfl,⟨rfl,rfl,rfl⟩,.val _,s.called hbel (Holds.kept ⟨s.froz,s.glob⟩ hbel) (fun _ _ h=>h) fun _ _=>rfl⟩
theorem Ziw {f:Operand} {args:List Operand} {g g2:FuncId} {caps caps2 as0 args':List PV} {i k esz:Nat} {l:List PV} {v:Value} (hs:X7 P g args' (· = .val v)) (hf:ev e f=some (.fn g caps)) (ha:evs e args=some as0) (hi:(as0++caps)[i]?=some (.fn g2 (.ptr k 0 0 :: caps2))) (hb:h k=some ⟨esz,[l]⟩) (hargs:(as0++caps).set i (.fn g2 (.cp l :: caps2))=args') (hpr:X6 args')
 (hk:Xm P os n (Xy e d (.val v)) h K):Xm P (⟨d,.call f args,none⟩ :: os) n e h K:=by
 subst hargs;exact Z1v hf ha (hs.roF hi hb hpr) fun n' r h' hh=>by obtain⟨rfl,rfl,rfl⟩:=hh; exact hk
end
end
section
open Go.RowKit
attribute [local irreducible] aw Xm dK
def X1J (t:PB):Bool:=decide (t.nv.length=0)&&(t.rs.all (fun x=>decide (x.cu.2=0))&&t.gl.all fun c=>decide (c.2=0))
theorem Zcb {t:PB} (h:X1J t=true):X5E t:=by
 unfold X1J at h;rw [Y0k,Y0k,Y0n,YL,YL] at h;exact⟨List.length_eq_zero_iff.1 h.1,fun x hx=>Y0u (h.2.1 x hx),fun c hc=>Y0u (h.2.2 c hc)⟩
theorem ZeC (c:Cu) (hc:Xv c):X7 Tryz.prog 41 [.agg (cuC c)] (· = .val (.bool (!decide (c.2=0)))):=by
 refine Yp ok41 fun C hC=>?_;refine Zo ?_;refine Za ?_;refine Z5 rfl rfl rfl ?_;refine gd 5 ⟨?_⟩;refine Qe (Z3a c.2 hc.2) ⟨Z2 _,Yt⟩ ?_;generalize decide (c.2=0)=b;cases b
 all_goals
  refine go ?_;exact Z8 rfl Yt rfl
theorem Z3F {t:PB} (h:Xt t) (S:List Nat):X7 Tryz.prog 15 [.agg (pbP t S)] (· = .val (.bool (X1J t))):=by
 have hpp:=ZH t S;have hrb:=h.rl;have hrm:(t.rs.map ruP).length=t.rs.length:=Y0f ..;have hnm:(t.nv.map cuC).length=t.nv.length:=Y0f ..;have hpi:∀ D,X1I D (pbP t S):=fun D=>ZC (fun _ h=>h.elim) _ hpp;have hri:∀ D,Xs D (t.rs.map ruP):=fun D=>Ze (fun _ h=>h.elim) _ (ZE t.rs);refine Yp ok15 fun C hC=>?_;refine Zo ?_;refine Za ?_;refine Z5 rfl rfl rfl ?_;refine gd 6 ⟨?_⟩;refine Qe (Z2z h S) ⟨hpp,Yt⟩ ?_;refine gd 12 ⟨?_⟩;refine Zr rfl ?_;by_cases h0:t.nv.length=0
 case neg =>
  refine Qo (Qy rfl (by rw [hnm];omega)) ?_;have e:X1J t=false:=by unfold X1J; rw [Y0w h0]; rfl
  rw [e];refine go ?_;exact Z8 rfl Yt rfl
 refine Qo (Qz rfl (by rw [hnm];omega)) ?_;have e:X1J t=(t.rs.all (fun x=>decide (x.cu.2=0))&&t.gl.all fun c=>decide (c.2=0)):=by unfold X1J; rw [Y8 h0]; rfl
 rw [e];refine go ?_;refine Zy hC (fun i=>i<=t.rs.length/\(t.rs.take i).all (fun x=>decide (x.cu.2=0))=true) (fun i=>t.rs.length-i) 0 (fun i => [(1,.cp (pbP t S)),(15,.vec (t.rs.map ruP) false),(16,.val (.int .i64 (t.rs.length:Int))),(17,Yv i)]) (fun _=>[]) (Y0l _) 0 ⟨Y0l _,rfl⟩
  ⟨⟨rfl,hpi _⟩,⟨rfl,hri _⟩,⟨by rw [<- hrm]; rfl,Yt⟩,⟨rfl,Yt⟩,Yt⟩ Yt ?_
 rintro i ⟨hi,hall⟩;have hinc:IntKind.i64.wrap ((i:Int)+1)=((i+1:Nat):Int):=Y0v _ ⟨by omega,by omega⟩;refine gd 18 ⟨?_⟩;by_cases hil:i<t.rs.length
 . refine Qo (Qy rfl (by omega)) ?_;have htk:=ZS hil;have hx:=(h.rs _ (Y0j hil)).cu.lt h.n.2;have hmem:=Y0j hil;refine gd 19 ⟨?_⟩;refine Qo (Zn (xs:=t.rs) (g:=ruP) rfl rfl i rfl hil rfl) ?_;generalize t.rs[i]=x at htk hx hmem;refine gd 24 ⟨?_⟩;refine Qe (Z3a x.cu.2 hx.2) ⟨Z2 _,Yt⟩ ?_;cases hb:decide (x.cu.2=0)
   . have e2 : t.rs.all (fun x => decide (x.cu.2 = 0)) = false := by
      rw [List.all_eq_false];exact⟨x,hmem,by rw [hb]; decide⟩
     rw [e2];refine go ?_;exact Z8 rfl Yt rfl
   . refine go ?_;exact⟨i+1,⟨hil,by rw [htk,List.all_append,hall]; simp only [List.all_cons,List.all_nil,hb]; rfl⟩,by omega,⟨⟨rfl,hpi _⟩,⟨rfl,hri _⟩,⟨rfl,Yt⟩,⟨by show some _=some _; rw [hinc],Yt⟩,Yt⟩,Yt⟩
 . refine Qo (Qz rfl (by omega)) ?_;rw [Y9 (by omega)] at hall;rw [hall,Y1i,<- Z99];refine gd 29 ⟨?_⟩;refine Qe (Z1s t.gl cuC false 41 [] (fun c => !decide (c.2=0)) (fun _=>rfl) Zi Yt fun c hc=>ZeC c (h.gl64 c hc)) ⟨Zc Zi _,Yt,Yt⟩ ?_;generalize (t.gl.any fun c => !decide (c.2=0))=b;cases b
   all_goals
    refine go ?_;exact Z8 rfl Yt rfl
theorem ZgU {t:PB} (h:Xt t) (fin:Nat) (hf:fin<18446744073709551616) (x:RU) (hx:x∈t.rs):X7 Tryz.prog 153 [.agg (ruP x),.cp [.vec (X5 (X9 fin)) false],.cp [.vec (X5 (X9 (clo t.l fin))) false]] (· = .val (.bool (X3p t fin x))):=by
 have hx64:=(h.rs x hx).cu.lt h.n.2;refine Yp ok153 fun C hC=>?_;unfold X3p;refine Zo ?_;refine Za ?_;refine Z5 rfl rfl rfl ?_;refine gd 6 ⟨?_⟩;cases hv:x.rev
 case true =>
  refine Qo (Z6 (v:=true) rfl hv) ?_;refine go ?_;exact Z8 rfl Yt rfl
 refine Qo (Z6 (v:=false) rfl hv) ?_;refine gd 12 ⟨?_⟩;refine Zr rfl ?_;refine Qe (Z1m fin hf x.tg) ⟨Z2 _,Yt,Yt⟩ ?_;cases hb:fin.testBit x.tg
 case true =>
  refine go ?_;exact Z8 rfl Yt rfl
 refine gd 20 ⟨?_⟩;refine Zr rfl ?_;refine Qe (Z1y x.cu.1 (clo t.l fin) hx64.1 (Z5h _ _)) ⟨Z2 _,Z2 _,Yt⟩ ?_;generalize decide (x.cu.1 ||| clo t.l fin=clo t.l fin)=b;cases b
 all_goals
  refine go ?_;exact Z8 rfl Yt rfl
theorem ZeD {α:Type} (p:α->Bool) (xs:List α):(X2A p xs = -1/\∀ x∈xs,p x=false) \/ ∃ (k:Nat) (h:k<xs.length),X2A p xs=(k:Int)/\p xs[k]=true:=by
 induction xs with
 | nil=>exact .inl ⟨rfl,fun x hx=>absurd hx (by simp)⟩
 | cons x xs ih =>
   unfold X2A;cases hp:p x with
   | true=>exact .inr ⟨0,Nat.succ_pos _,by simp,hp⟩
   | false =>
     rcases ih with⟨h1,h2⟩|⟨k,hk,h1,h2⟩
     . exact .inl ⟨by simp [h1],fun y hy=>(YB.1 hy).elim (fun e=>e▸hp) (h2 y)⟩
     . exact .inr ⟨k+1,Nat.succ_lt_succ hk,by simp [h1]; omega,h2⟩
theorem Z7u {t:PB} (h:Xt t) (hn:t.n<=5) (hf:X5E t) (S:List Nat):X7 Tryz.prog 116 [.agg (pbP t S)] fun r=>∃ (fin:Nat) (used:List Nat),X4k t fin used/\(∀ x∈t.rs,X3p t fin x=false)/\r=.tup [XD fin,.vec (inL used) false]:=by
 have hpp:=ZH t S;have hrp:=ZE t.rs;have hrl:∀ x,(ruP x).length=5:=fun _=>rfl;have hru:∀ x,X6 (ruP x):=fun x=>(ZE [x]).1;refine Yp ok116 fun C hC=>?_;refine Zo ?_;refine Za ?_;refine Z5 rfl rfl rfl ?_;refine gd 8 ⟨?_⟩;refine go ?_;refine Z24 (Zx (k:=5) rfl 1 (by decide) C) ?_;refine ZA hC (fun (z:Nat×List Nat)=>X4k t z.1 z.2) (fun z=>100-z.1) 3 (fun z => [(1,.cp (pbP t S)),(2,.ptr 0 0 0),(4,.ptr 1 0 0),(5,.own 2)]) (fun z => [(0,⟨1,[[.vec [] true]]⟩),(1,sBx z.1),(2,⟨1,inL z.2⟩)]) (by decide) (t.st,[]) (X4k.base h) (fun i=>i) (fun _ _=>rfl) Zk
  ⟨Qp hpp,Qt 0 0 0,Qt 1 0 0,Qw 2,Yt⟩ ⟨Qs ⟨⟨Yt,Yt⟩,Yt⟩,Qs ⟨⟨Z7 _,Yt⟩,Yt⟩,Qs Yt,Yt⟩ ?_
 rintro⟨fin,used⟩ hj;dsimp only at hj ⊢;have hle:=InS.le hn hj.i.ins;have hul:=hj.ln;have hf64:fin<18446744073709551616:=by omega
 have hidx:=Z47 t.rs ruP false 153 [.cp [.vec (X5 (X9 fin)) false],.cp [.vec (X5 (X9 (clo t.l fin))) false]] (X3p t fin) hrl hru ⟨⟨Z7 _,Yt⟩,⟨Z7 _,Yt⟩,Yt⟩ fun x hx=>ZgU h fin hf64 x hx;refine gd 13 ⟨?_⟩;refine Qe (Z2j t.l S fin hf64) ⟨Zq _ _,Z2 _,Yt⟩ ?_;refine gd 14 ⟨?_⟩;refine Zb (Z1o (k:=6) (id:=3) (l := [.vec (X5 (X9 (clo t.l fin))) false]) rfl rfl ⟨Z7 _,Yt⟩) ?_;refine gd 17 ⟨?_⟩;refine Ziw (i:=1) (k:=1) hidx rfl rfl rfl rfl rfl ⟨hrp,⟨⟨Z7 _,Yt⟩,⟨Z7 _,Yt⟩,Yt⟩,Yt⟩ ?_;rcases ZeD (X3p t fin) t.rs with⟨e1,hno⟩|⟨k,hk,e1,hyes⟩
 . rw [e1];refine gd 20 ⟨?_⟩;refine Zb (Zm (k:=5) (id:=2) (b:=⟨1,inL used⟩) rfl rfl (Zw _)) ?_;refine go ?_;exact Z8 rfl ⟨Z2 _,Zw _,Yt⟩ ⟨fin,used,hj,hno,rfl⟩
 rw [e1];have hxo:=h.rs _ (Y0j hk);have hst:=hj.step h hn hf (Y0c hk) hyes;have hgr:fin<fin ||| 2 ^ t.rs[k].tg:=by
  have hy:=hyes;unfold X3p at hy;rw [Y0k,Y0k,Y12,Y12] at hy;exact Zgk hy.2.1
 refine gd 19 ⟨?_⟩;refine Qo (Qz rfl (by omega)) ?_;refine gd 26 ⟨?_⟩;refine Qr (Zn (xs:=t.rs) (g:=ruP) rfl rfl k rfl hk rfl) ?_;generalize t.rs[k]=x at hxo hst hgr;have hxt:=hxo.tg;refine gd 29 ⟨?_⟩;refine Qd (Z1q fin hf64 x.tg (by omega)) ⟨Z2 _,Yt,Yt⟩ ?_;refine gd 33 ⟨?_⟩
 refine Qr (Zt (k:=2) (m := [X33 k]) (fl:=true) rfl rfl rfl (fun q hq=>by rw [Y0g] at hq; subst hq; rfl) rfl (by
  show ((inL used).length+1)*8<=_
  rw [Z2n];omega)) ?_
 simp only;have hsn:inL used ++ [X33 k]=inL (used ++ [k]):=by simp [inL]
 rw [hsn];refine go ?_
 exact⟨(fin ||| 2 ^ x.tg,used ++ [k]),mv 2 15,hst,by dsimp only; omega,fun i hi=>absurd hi (YE i),Zu rfl,
  ⟨Qp hpp,Qt 0 0 0,Qt 1 0 0,Qw 2,Yt⟩,⟨Qs ⟨⟨Yt,Yt⟩,Yt⟩,Qs ⟨⟨Z7 _,Yt⟩,Yt⟩,Qs (Zw _),Yt⟩⟩
theorem Zcc (N M:Nat) (hN:N<18446744073709551616) (hM:M<18446744073709551616):X7 Tryz.prog 117 [XD N,XD M] (· = XD (Xg N M)):=by
 have hlt:=Z3X (b:=M) hN;have hz:∀ M,Xg 0 M=0:=fun M=>Nat.le_zero.1 Y1m;have fin:∀ {r:PV} {x:Nat},x<18446744073709551616->X3C [x] r->r=XD x:=fun {r x} hx hr=>by
  have e1:=hr.set (fun y hy=>by rw [Y0g.1 hy]; exact hx);have e2:ofW [x]=x:=by simp [ofW]
  rw [e2] at e1;exact e1
 rcases Z19 hN with⟨rfl,e1⟩|⟨h1,e1⟩<;>rcases Z19 hM with⟨rfl,e2⟩|⟨h2,e2⟩<;>rw [e1]<;>(try rw [e2])<;>clear e1 e2
 all_goals
  refine Yp ok117 fun C hC=>?_;refine Zo ?_;refine Za ?_;refine Z5 rfl rfl rfl ?_;refine Z5 rfl rfl rfl ?_;refine go ?_;refine Z1x 1 ?_
 . repeat' (first | refine Zb (Zm (k := 29) rfl rfl (ZV rfl)) ?_ | (first|refine st ?_|(apply B<;>intro hb<;>try cases hb)))
   refine ZD rfl rfl (Z2g []) (ZZ rfl) rfl fun r hr=>?_;have e1:=hr.set (fun x hx=>by cases hx);subst e1;refine go ?_;exact Z8 rfl (Z2 _) (show XD (ofW [])=_ by rw [hz]; simp [ofW])
 . repeat' (first | refine Zb (Zm (k := 29) rfl rfl (ZV rfl)) ?_ | (first|refine st ?_|(apply B<;>intro hb<;>try cases hb)))
   refine ZD rfl rfl (Z2g []) (ZZ rfl) rfl fun r hr=>?_;have e1:=hr.set (fun x hx=>by cases hx);subst e1;refine go ?_;exact Z8 rfl (Z2 _) (show XD (ofW [])=_ by rw [hz]; simp [ofW])
 . refine gd 25 ⟨?_⟩;refine Qd (Z1e [] 0) (ZZ rfl) ?_;refine Qr (Z10 rfl (Z15 N 0 hN hM)) ?_
   repeat' (first|refine Zb (Zm (k:=29) rfl rfl (ZV rfl)) ?_|(first|refine st ?_|(apply B<;>intro hb<;>try cases hb)))
   refine ZD rfl rfl (Z2g [Xg N 0]) (ZZ rfl) rfl fun r hr=>?_;obtain rfl:=fin hlt hr;refine go ?_;exact Z8 rfl (Z2 _) rfl
 . refine gd 25 ⟨?_⟩;refine Qd (Z1e [M] 0) (ZZ rfl) ?_;refine Qr (Z10 rfl (Z15 N M hN hM)) ?_
   repeat' (first|refine Zb (Zm (k:=29) rfl rfl (ZV rfl)) ?_|(first|refine st ?_|(apply B<;>intro hb<;>try cases hb)))
   refine ZD rfl rfl (Z2g [Xg N M]) (ZZ rfl) rfl fun r hr=>?_;obtain rfl:=fin hlt hr;refine go ?_;exact Z8 rfl (Z2 _) rfl
theorem Zl2 {α:Type} {esz:Nat} {e:Env} {h:X1} {n:Nat} {x hi mx:Operand} {xs:List α} {g:α->List PV} {fl:Bool} (hx:ev e x=some (.vec (xs.map g) fl)) (b:Nat) (hhi:ev e hi=some (.val (.int .i64 (b:Int)))) (hmx:ev e mx=some (.val (.int .i64 (b:Int)))) (hb:b<=xs.length) (hg:∀ x,(g x).length=esz) :
 X4 (.slc esz x none (some hi) (some mx)) e h n=some (.vec ((xs.take b).map g) true,h):=by
 have h1:XJ e 0 none=some ((0:Nat):Int):=rfl;have h2:XJ e ((xs.map g).length:Nat) (some hi)=some (b:Int):=by simp only [XJ,X1F,hhi]
 have h3:X1F (ev e mx)=some (b:Int):=by simp only [X1F,hmx]
 simp only [X4,hx];have hall:∀ c∈xs.map g,c.length=esz:=fun c hc=>by obtain⟨y,_,rfl⟩:=Y0i.1 hc; exact hg y
 rw [h1,h2,h3];dsimp only;rw [Y5 ⟨⟨by omega,by omega,by omega,by simp; omega⟩,hall⟩];simp [Y2m]
def X3G (x:Nat):List PV := [.vec (X5 (X9 (2 ^ x))) false,.vec [] true]
theorem Zaz (x:Nat):X6 (X3G x):=⟨Z7 _,Yt,Yt⟩
theorem Zix (x:Nat):X2w (X3G x)=cuC (X5v x):=by
 show [PV.vec (XA (X5 (X9 (2 ^ x)))) false,PV.vec [] false] = [PV.vec (X5 (X9 (2 ^ x))) false,.vec (X5 (X9 0)) false];rw [Z1A,ZM]; rfl
theorem ZaA:∀ l:List Nat,XA (l.map X3G)=(l.map X5v).map cuC
 | []=>rfl
 | x :: l => by
   show X2w (X3G x) :: XA (l.map X3G)=_;rw [Zix,ZaA l]; rfl
inductive X3L (t:PB):PV->Prop
 | yes (p:List Nat) (fp fl:Bool) (hp:X1D t p) (hl:p.length<=62):X3L t (.tup [.vec (inL p) fp,.vec [] fl,.val (.bool true),.val (.int .i64 0)])
 | no (fin R:Nat) (used:List Nat) (fl:Bool) (hR:X11 t R) (hj:X4k t fin used) (hend:∀ x∈t.rs,X3p t fin x=false) (hno:Xr t fin=false):X3L t (.tup [.vec [] fl,.vec ((X4F (Xg R fin)).map cuC) false,.val (.bool false),.val (.int .i64 0)])
theorem Z7F {t:PB} (h:Xt t) (hn:t.n<=5) (hfr:X1J t=true) (S0:List Nat):X7 Tryz.prog 58 [.agg (pbP t S0)] (X3L t):=by
 have hpp:=ZH t S0;have hrp:=ZE t.rs;have hpi:∀ D,X1I D (pbP t S0):=fun D=>ZC (fun _ h=>h.elim) _ hpp;refine Yp ok58 fun C hC=>?_;refine Zo ?_;refine Za ?_;refine Z5 rfl rfl rfl ?_;refine gd 13 ⟨?_⟩;refine Qe (Z2z h S0) ⟨hpp,Yt⟩ ?_;refine gd 18 ⟨?_⟩;refine Qe (Z3F h S0) ⟨hpp,Yt⟩ ?_;rw [hfr];refine gd 22 ⟨?_⟩;refine ZD rfl rfl (Z7u h hn (Zcb hfr) S0) ⟨hpp,Yt⟩ rfl ?_;rintro r ⟨fin,used,hj,hend,rfl⟩;have hfi:=hj.i.ins;have hle:=InS.le hn hfi;have hul:=hj.ln;have hlen:=Z2n used;have hui:∀ D,Xs D (inL used):=fun D=>Ze (fun _ h=>h.elim) _ (Zw used);refine go ?_;refine ZA hC (fun (z:Nat×Nat)=>z.1<=used.length+1/\InS t z.2/\(z.1<=used.length->SaP t used fin z.1 z.2)/\(used.length<z.1->Xr t fin=false)) (fun z=>used.length+1-z.1) 3 (fun z => [(1,.cp (pbP t S0)),(3,.ptr 0 0 0),(7,.ptr 1 0 0),(8,.vec (inL used) false),(9,.ptr 2 0 0),(10,Yv z.1)]) (fun z => [(0,⟨1,[[.vec [] true]]⟩),(1,sBx fin),(2,sBx z.2)]) (by decide) (0,t.st) ⟨Y0l _,h.st,fun _=>SaP.base hj.i.run,fun h=>absurd h (by omega)⟩ (fun i=>i) (fun _ _=>rfl) Zk
  ⟨Qp hpp,Qt 0 0 0,Qt 1 0 0,Qp (Zw _),Qt 2 0 0,Qp Yt,Yt⟩ ⟨Qs ⟨⟨Yt,Yt⟩,Yt⟩,Qs ⟨⟨Z7 _,Yt⟩,Yt⟩,Qs ⟨⟨Z7 _,Yt⟩,Yt⟩,Yt⟩ ?_
 rintro⟨i,s⟩ ⟨hi,hs,hsp,hno⟩;dsimp only at hi hs hsp hno ⊢;have hinc:IntKind.i64.wrap ((i:Int)+1)=((i+1:Nat):Int):=Y0v _ ⟨by omega,by omega⟩;have hs64:=hs.lt h.n.2;refine gd 30 ⟨?_⟩;by_cases hil:i<=used.length
 . refine Qo (Qy rfl (by rw [hlen]; omega)) ?_;have hP:=hsp hil;refine gd 35 ⟨?_⟩;refine Qe (Z7d h S0 s hs64) ⟨hpp,Z2 _,Yt⟩ ?_;cases hr:Xr t s
   case true =>
    refine gd 39 ⟨?_⟩;refine Qo (Zl2 (xs:=used) (g:=X33) rfl i rfl rfl hil (fun _=>rfl)) ?_;refine go ?_;exact Z8 rfl ⟨Zw _,Yt,Yt,Yt,Yt⟩ (.yes (used.take i) true true ⟨s,hP.pre,hr⟩ (by rw [Y0o];omega))
   refine gd 43 ⟨?_⟩;by_cases hlt:i<used.length
   . refine Qo (Qy rfl (by rw [hlen]; omega)) ?_;obtain⟨x,hx,hP2⟩:=hP.step hlt hj.rv;have hxm:=YX hx;have hxt:=(h.rs x hxm).tg;obtain⟨hkl,hke⟩:=Y7.1 hx;refine gd 49 ⟨?_⟩;refine Qr (Zn (xs:=used) (g:=X33) rfl rfl i rfl hlt rfl) ?_;generalize used[i]=k at hx hkl hke;refine gd 51 ⟨?_⟩;refine Qr (Zn (xs:=t.rs) (g:=ruP) rfl rfl k rfl hkl rfl) ?_;rw [hke];refine gd 54 ⟨?_⟩;refine Qd (Z1q s hs64 x.tg (by omega)) ⟨Z2 _,Yt,Yt⟩ ?_;have hin:InS t (s ||| 2 ^ x.tg):=Z9h h _ h.st hP2.pre;refine go ?_
     exact⟨(i+1,s ||| 2 ^ x.tg),fun i=>i,⟨by dsimp only; omega,hin,fun _=>hP2,fun h=>absurd h (by dsimp only;omega)⟩,by show used.length+1-(i+1)<used.length+1-i; omega,fun _ _=>rfl,Zk,
      ⟨Qp hpp,Qt 0 0 0,Qt 1 0 0,Qp (Zw _),Qt 2 0 0,⟨_,by show some _=some _; rw [hinc],.pure _ Yt⟩,Yt⟩,⟨Qs ⟨⟨Yt,Yt⟩,Yt⟩,Qs ⟨⟨Z7 _,Yt⟩,Yt⟩,Qs ⟨⟨Z7 _,Yt⟩,Yt⟩,Yt⟩⟩
   . refine Qo (Qz rfl (by rw [hlen]; omega)) ?_;have hsf:=hP.fin (by omega);refine go ?_
     exact⟨(i+1,s),fun i=>i,⟨by dsimp only; omega,hs,fun h=>absurd h (by dsimp only;omega),fun _=>by rw [<- hsf]; exact hr⟩,by show used.length+1-(i+1)<used.length+1-i; omega,fun _ _=>rfl,Zk,
      ⟨Qp hpp,Qt 0 0 0,Qt 1 0 0,Qp (Zw _),Qt 2 0 0,⟨_,by show some _=some _; rw [hinc],.pure _ Yt⟩,Yt⟩,⟨Qs ⟨⟨Yt,Yt⟩,Yt⟩,Qs ⟨⟨Z7 _,Yt⟩,Yt⟩,Qs ⟨⟨Z7 _,Yt⟩,Yt⟩,Yt⟩⟩
 have hnor:=hno (by omega);refine Qo (Qz rfl (by rw [hlen];omega)) ?_;have hf64:fin<18446744073709551616:=by omega
 refine gd 56 ⟨?_⟩;refine Z3R rfl rfl (.inl rfl) (Z2N h hn S0) ⟨hpp,Yt⟩ ?_;rintro r ⟨R,hR,rfl⟩;have hM:=Z3X (b:=fin) hR.lt;have hRb:=X11.b126 h hn hR;have hmem:∀ r∈mem (Xg R fin),1<=r/\r<=6:=fun r hr=>by
  rw [ZY hM,ZG hR.lt hf64,Y0k] at hr;exact X5X (Xe.1 hRb r hr.1)
 have hml:=Z2C (Xg R fin);refine gd 58 ⟨?_⟩;refine Qd (Zcc R fin hR.lt hf64) ⟨Z2 _,Z2 _,Yt⟩ ?_;refine Qd (Z1H (Xg R fin)) ⟨Z2 _,Yt⟩ ?_;have hgoal:∀ fl,X3L t (.tup [.vec [] fl,.vec ((X4F (Xg R fin)).map cuC) false,.val (.bool false),.val (.int .i64 0)]):=fun fl=>.no fin R used fl hR hj hend hnor;have hlow:=ZaA (mem (Xg R fin));have hsl:(mem (Xg R fin)).map X5v=X4F (Xg R fin):=rfl;rw [hsl] at hlow;generalize X4F (Xg R fin)=L at hgoal hlow;generalize Xg R fin=M at hM hmem hml hlow;refine go ?_;refine Z24 (ZP (id:=0) (i0:=0) (j0:=0) rfl (Y0 rfl) (Y0 rfl) rfl 2 (by decide) (by decide) (Y0 rfl) C) ?_;refine Z2q (X:=List Nat) hC (caps := [.cp [.vec (X5 (X9 M)) false]]) [(3,.ptr 0 0 0),(59,.fn 142 [.cp [.vec (X5 (X9 M)) false]])]
  (fun z => [(0,⟨1,[[.own 8]]⟩),(8,⟨2,z.map X3G⟩)]) rfl ⟨⟨Z7 _,Yt⟩,Yt⟩ (Z2s M hM) (fun _=>rfl)
  (fun ex pre z=>ex=.normal/\z=pre.map (·.val)) 9 (by decide) [] ⟨rfl,rfl⟩
  (Z2P (X3n.mem (ρ := fun i => i) (m := 9) (L := [(3, .ptr 0 0 0), (59, .fn 142 [.cp [.vec (X5 (X9 M)) false]])]) ⟨Qt 0 0 0, Qp ⟨⟨Z7 _, Yt⟩, Yt⟩, Yt⟩)
    (X1y.mem (ρ:=fun i=>i) (m:=9) (L := [(0,⟨1,[[.own 8]]⟩),(8,⟨2,[]⟩)]) ⟨⟨by decide,_,rfl,Xu.single ⟨.own (ρ:=fun i=>i) 8 (by decide),Yt⟩ rfl⟩,Qs Yt,Yt⟩) hC (by decide))
  (fun z q hq=>by simp at hq; rcases hq with rfl|rfl<;>exact Y1s _) _ (fun x=>rfl) ?_ ?_ ?_
 . rintro C2 hC2 pre x z ⟨-, rfl⟩ hlen2;have hx:=hmem x.val x.2;have hpl:(pre.map (·.val)).length<=64:=by rw [Y0f]; omega
   refine gd 64 ⟨?_⟩;refine Qd (Zes x.val (by omega) true) ⟨⟨⟨Yt,Yt⟩,Yt⟩,Yt⟩ ?_;refine gd 67 ⟨?_⟩
   refine Qr (Zt (k:=8) (m := [X3G x.val]) (fl:=true) rfl rfl rfl (fun q hq=>by rw [Y0g] at hq; subst hq; rfl) rfl (by
    show (((pre.map (·.val)).map X3G).length+1)*48<=_
    rw [Y0f];omega)) ?_
   refine go ?_
   refine⟨.inl rfl,pre.map (·.val) ++ [x.val],mv 8 15,⟨rfl,by rw [Y0r]; rfl⟩,fun i hi=>absurd hi (by omega),Zu rfl,
    ⟨Qt 0 0 0,Qp ⟨⟨Z7 _,Yt⟩,Yt⟩,Yt⟩,⟨⟨by decide,_,rfl,Xu.single ⟨.own (ρ:=mv 8 15) 8 (by decide),Yt⟩ rfl⟩,⟨by decide,_,rfl,?_⟩,Yt⟩⟩
   show Xu _ _ ⟨2,(pre.map (·.val)).map X3G ++ [X3G x.val]⟩ ⟨2,(pre.map (·.val) ++ [x.val]).map X3G⟩;rw [Y0r];exact .same _ (by rw [<- Y19,<- Y0r]; exact Zc Zaz _)
 . rintro xs z hxs ⟨-, rfl⟩;rw [hxs];refine Z24 (fun a w hh=>(Zs (ob:=0) (id:=8) (i0:=0) (j0:=0) rfl rfl (by decide) (Zc Zaz _) (Y0 rfl) (Y0 rfl) rfl) C a w hh) ?_;refine go ?_;refine Z1J (r:=.tup [.vec [] true,.vec ((mem M).map X3G) false,.val (.bool false),.val (.int .i64 0)]) rfl ⟨Yt,by show X3 (XA _); rw [hlow]; exact Z1 _,Yt,Yt,Yt⟩ ?_;have e:PV.low (.tup [.vec [] true,.vec ((mem M).map X3G) false,.val (.bool false),.val (.int .i64 0)])=.tup [.vec [] false,.vec (L.map cuC) false,.val (.bool false),.val (.int .i64 0)]:=by
    show PV.tup [.vec [] false,.vec (XA ((mem M).map X3G)) false,_,_]=_;rw [hlow]; rfl
   rw [e];exact hgoal false
 . rintro ex pre z - ⟨rfl,_⟩ (h|⟨id,h⟩)<;>cases h
structure X3F (t:PB) (R:Nat) (l:List Cu):Prop where
 em:∀ c∈l,Xv c/\emC c=false
 len:l.length<=64
 inv:X4t t fun S=>soC (l.map (X1R R)) S=true
theorem X3F.snd {t:PB} {R:Nat} {l:List Cu} (h:X3F t R l) (hR:R ||| 126=126):Snd t false [] (l.map (X1R R)) where
 form:=.inr ⟨rfl,rfl⟩
 plan:=fun h=>by cases h
 inv:=fun _=>h.inv
 len:=by rw [Y0f]; have:=h.len; omega
 cub:=fun c hc=>by
  obtain⟨d,hd,rfl⟩:=Y0i.1 hc;exact⟨Zk0 hR d,Zl0 (h.em d hd).2⟩
theorem Zcd {t:PB} (h:Xt t) (hn:t.n<=5) {R:Nat} (hR:X11 t R) {ks:List KE} (hk:X1H (Xo t R) ks):X3F t R (kcs ks):=by
 have hp:=Z4S h hR.a.ok;have hmem:∀ c∈kcs ks,InM (mkN t.n) c/\emC c=false:=fun c hc=>by
  obtain⟨e,he,rfl⟩:=Y0i.1 hc;exact (hk.inv.mem e he).2
 refine⟨fun c hc=>⟨hk.inv.c64 c hc,(hmem c hc).2⟩,?_,Zi9 h hR.a.ok hmem (fun S hS _=>hk.able_iff hp hS) fun ha=>hk.not_able hp ((Z8k h hR.a.ok).2 ha)⟩;have h1:=hk.inv.len;have h2:2 ^ t.n<=32:=YO (n:=2) (by decide) hn;have h3:(kcs ks).length=ks.length:=by simp [kcs]
 have h4:ks.length<=2 ^ t.n:=h1;omega
theorem ZeE {t:PB} (h:Xt t) {R R':Nat} (hR:X11 t R) (hR':X11 (Xo t R) R') (hf:X5E (Xo t R)) {fin:Nat} {used:List Nat} (hj:X4k (Xo t R) fin used) (hend:∀ x∈(Xo t R).rs,X3p (Xo t R) fin x=false) (hno:Xr (Xo t R) fin=false):X3F t R (X4F (Xg R' fin)):=by
 refine⟨fun c hc=>?_,by unfold X4F; rw [Y0f]; exact Z2C _,Zic h hR hR' hf hj hend hno⟩;obtain⟨r,hr,rfl⟩:=Y0i.1 hc;exact⟨⟨ZQ (Z3J hr),Y1s _⟩,by unfold emC X5v; simp⟩
theorem Zdl {t:PB} (h:Xt t) {R:Nat} (hR:X11 t R) {p:List Nat} (hp:X1D (Xo t R) p) (hl:p.length<=62):(∀ k∈p,k<(X1U t R).length)/\Snd t true (p.map fun j=>(X1U t R).getD j 0) []:=by
 obtain⟨h1,h2⟩:=Z8j h hR.a.ok hp;exact⟨h1,⟨.inl ⟨rfl,rfl⟩,fun _=>⟨h2,by rw [Y0f]; omega⟩,(fun h=>by cases h),Y0l _,(fun c hc=>by cases hc)⟩⟩
theorem Z7v (p kept:List Nat) (fp fk:Bool) (hp:∀ k∈p,k<kept.length) (hl:p.length<=1000):X7 Tryz.prog 61 [.vec (inL p) fp,.vec (inL kept) fk] (· = .tup [.vec (inL (p.map fun j=>kept.getD j 0)) false,.val (.int .i64 0)]):=by
 have hpl:=Z2n p;have hkl:=Z2n kept;refine Yp ok61 fun C hC=>?_
 repeat' (first|refine Zb (Zx (k:=6) rfl 1 (by decide)) ?_|(first|refine st ?_|(apply B<;>intro hb<;>try cases hb)))
 refine ZA hC (fun i=>i<=p.length) (fun i=>p.length-i) 1 (fun i => [(1,.vec (inL kept) fk),(6,.own 0),(9,.vec (inL p) fp),(10,.val (.int .i64 (p.length:Int))),(11,Yv i)]) (fun i => [(0,⟨1,inL ((p.take i).map fun j=>kept.getD j 0)⟩)]) (Y0l _) 0 (Y0l _) (fun i=>i) (fun _ _=>rfl) Zk
  ⟨Qp (Zw _),Qw 0,Qp (Zw _),⟨_,by show some _=some _; rw [hpl],.pure _ Yt⟩,Qp Yt,Yt⟩ ⟨Qs Yt,Yt⟩ ?_
 intro i hi;have hinc:IntKind.i64.wrap ((i:Int)+1)=((i+1:Nat):Int):=Y0v _ ⟨by omega,by omega⟩;refine gd 12 ⟨?_⟩;by_cases hil:i<p.length
 . refine Qo (Qy rfl (by omega)) ?_;have hk:=hp _ (Y0j hil);have htk:=ZS hil;have hol:((p.take i).map fun j=>kept.getD j 0).length<=i:=by rw [Y0f,Y0o]; omega
   refine gd 13 ⟨?_⟩;refine Qo (Zn (xs:=p) (g:=X33) rfl rfl i rfl hil rfl) ?_;generalize p[i]=k at hk htk;have hgd:kept.getD k 0=kept[k]:=by rw [Y0b,Y0c hk]; rfl
   have hsn:inL ((p.take i).map fun j=>kept.getD j 0) ++ [X33 kept[k]]=inL ((p.take (i+1)).map fun j=>kept.getD j 0):=by rw [htk,Y0r,<- hgd]; simp [inL]
   refine gd 16 ⟨?_⟩;refine Qo (Qz rfl (by omega)) ?_;refine gd 21 ⟨?_⟩;refine Zr rfl ?_;refine Qo (Qz rfl (by rw [hkl];omega)) ?_;refine gd 26 ⟨?_⟩;refine Qo (Zn (xs:=kept) (g:=X33) rfl rfl k rfl hk rfl) ?_;generalize kept[k]=m at hsn;refine gd 29 ⟨?_⟩
   refine ZF (Zt (k:=0) (m := [X33 m]) (fl:=true) rfl rfl rfl (fun q hq=>by rw [Y0g] at hq; subst hq; rfl) rfl (by
    show ((inL ((p.take i).map fun j=>kept.getD j 0)).length+1)*8<=_
    rw [Z2n];omega)) rfl rfl ?_
   simp only;rw [hsn];refine go ?_
   exact⟨i+1,mv 0 1,hil,by omega,fun i hi=>absurd hi (YE i),Zu rfl,
    ⟨Qp (Zw _),Qw 0,Qp (Zw _),Qp Yt,⟨_,by show some _=some _; rw [hinc],.pure _ Yt⟩,Yt⟩,⟨Qs (Zw _),Yt⟩⟩
 . have htk : p.take i = p := Y9 (by omega);rw [htk];refine Qo (Qz rfl (by omega)) ?_
   repeat' (first|refine Zb (Zm (k:=6) (id:=0) (b:=⟨1,inL (p.map fun j=>kept.getD j 0)⟩) rfl rfl (Zw _)) ?_|(first|refine st ?_|(apply B<;>intro hb<;>try cases hb)))
   exact Z8 rfl ⟨Zw _,Yt,Yt⟩ rfl
noncomputable def prX (t:PB) (R:Nat) (S:List Nat):List PV := [.val (.int .i64 (t.n:Int)),X15 t.l S,.vec (X5 (X9 t.st)) false,.vec (t.rs.map ruP) false,.vec (t.nv.map cuC) false,.vec (t.gl.map cuC) false,
 .val (.int .i64 (t.n:Int)),X15 t.l S,.vec (X5 (X9 (t.st &&& R))) false,.vec ((Xo t R).rs.map ruP) false,.vec ((Xo t R).nv.map cuC) false,.vec (t.gl.map cuC) false,.vec (inL (X1U t R)) false,.vec (X5 (X9 R)) false]
theorem Z6y (t:PB) (R:Nat) (S:List Nat):X6 (prX t R S):=⟨Yt,Zq _ _,Z7 _,ZE _,Z1 _,Z1 _,Yt,Zq _ _,Z7 _,ZE _,Z1 _,Z1 _,Zw _,Z7 _,Yt⟩
theorem ZeF {t:PB} (h:Xt t) (hn:t.n<=5) (S:List Nat) (L:Int) (hL:1<=L):X7 Tryz.prog 22 [.agg (pbP t S),.val (.int .i64 L)] fun r=>∃ R,X11 t R/\r=.tup [.agg (prX t R S),.val (.int .i64 0)]:=by
 have hpp:=ZH t S;refine Yp ok22 fun C hC=>?_;refine Zo ?_;refine Za ?_;refine Z5 rfl rfl rfl ?_;refine gd 11 ⟨?_⟩;refine Qo (Qz rfl (by omega)) ?_;refine gd 14 ⟨?_⟩;refine Qe (Z2z h S) ⟨hpp,Yt⟩ ?_;refine gd 21 ⟨?_⟩;refine ZD rfl rfl (Zaw h hn S) ⟨hpp,Yt⟩ rfl ?_;rintro r ⟨R,hR,rfl⟩;refine gd 29 ⟨?_⟩;refine Z3R rfl rfl (.inl rfl) (Z2N h hn S) ⟨hpp,Yt⟩ ?_;rintro r ⟨R2,hR2,rfl⟩;obtain rfl:=hR2.uniq hR;refine go ?_;exact Z8 (r:=.tup [.agg (prX t R2 S),.val (.int .i64 0)]) rfl ⟨Z6y t R2 S,Yt,Yt⟩ ⟨R2,hR,rfl⟩
theorem X4Q {e:Env} {h:X1} {a b s:Nat} {r v:PV} (h1:X4 (.load true s (.tmp a)) e h 0=some (r,h)) (h2:e b=some v):XU [.cell a true s,.tmp b] e h=some (.tup [r,v]):=by
 simp [XU,X31,X5F,h1,h2]
def X4I:List PV:=Xq (List.replicate 32 0) false [] true [] true
theorem Z3g:X6 X4I:=Z17 _ _ _ _ _ _
inductive X4H (t:PB) (m:Nat) (L:Int):PV->Prop
 | ok (b:Bool) (p:List Nat) (fp:Bool) (l:List Cu) (fl:Bool) (hs:Snd t b p l):X4H t m L (.tup [.agg (Xq (XQ t) b p fp l fl),.val (.int .i64 0)])
 | lim (hm:m=2) (hl:L<((2 ^ t.n:Nat):Int)):X4H t m L (.tup [.agg X4I,.val (.int .i64 3)])
 | scope (R:Nat) (hm:m=1) (hR:X11 t R) (hf:X1J (Xo t R)=false):X4H t m L (.tup [.agg X4I,.val (.int .i64 15)])
theorem ZeG {t:PB} (h:Xt t) (hfr:X1J t=false) (S0:List Nat):X7 Tryz.prog 58 [.agg (pbP t S0)] (· = .tup [.vec [] true,.vec [] true,.val (.bool false),.val (.int .i64 15)]):=by
 have hpp:=ZH t S0;refine Yp ok58 fun C hC=>?_;refine Zo ?_;refine Za ?_;refine Z5 rfl rfl rfl ?_;refine gd 13 ⟨?_⟩;refine Qe (Z2z h S0) ⟨hpp,Yt⟩ ?_;refine gd 18 ⟨?_⟩;refine Qe (Z3F h S0) ⟨hpp,Yt⟩ ?_;rw [hfr];refine go ?_;exact Z8 rfl ⟨Yt,Yt,Yt,Yt,Yt⟩ rfl
section
variable {t:PB} (h:Xt t) (hn:t.n<=5) (hw:PbW t) (S:List Nat) {R:Nat} (hR:X11 t R) (L:Int)
include h hn hw hR
theorem ZaB:X7 Tryz.prog 23 [.agg (prX t R S),.val (.int .u8 1),.val (.int .i64 L)] (X4H t 1 L):=by
 have hpp:=ZH t S;have hxp:=Z6y t R S;have hpo:=Z4S h hR.a.ok;have hpq:=ZH (Xo t R) S;have hid0:=Z2A t;have hRb:=X11.b126 h hn hR;refine Yp ok23 fun C hC=>?_;refine Zo ?_;refine Za ?_;refine Z5 (Z4Q rfl (by show 0<14; decide)) rfl rfl ?_;refine gd 31 ⟨?_⟩;cases hfr:X1J (Xo t R)
 case false =>
  refine Qe (ZeG hpo hfr S) ⟨hpq,Yt⟩ ?_;refine go ?_;exact Z8 (r:=.tup [.agg X4I,.val (.int .i64 15)]) rfl ⟨Z3g,Yt,Yt⟩ (.scope R rfl hR hfr)
 refine ZD rfl rfl (Z7F hpo hn hfr S) ⟨hpq,Yt⟩ rfl ?_;intro r hr;cases hr with
 | yes p fp fl hp hl =>
   obtain⟨h1,hsnd⟩:=Zdl h hR hp (by omega);refine gd 56 ⟨?_⟩;refine Qe (Z7v p (X1U t R) _ false h1 (by omega)) ⟨Zw p,Zw _,Yt⟩ ?_;generalize p.map (fun j=>(X1U t R).getD j 0)=q at hsnd;have hql:=(hsnd.plan rfl).2;refine gd 66 ⟨?_⟩;refine Qe (Z65 h hw S q false (by omega)) ⟨hpp,Zw q,Yt⟩ ?_;have hc1:(Xq (XQ t) true q false [] true).length=35:=Z1D hid0;have hcp:=Z17 (XQ t) true q false [] true;have hRR:X4H t 1 L (.tup [.agg (Xq (XQ t) true q false [] true),.val (.int .i64 0)]):=.ok true q false [] true hsnd;generalize Xq (XQ t) true q false [] true=cc at hc1 hcp hRR;have hcl:(cc ++ []).length=35:=by rw [Y0p]; exact hc1
   have htk:((cc ++ []).drop 0).take 35=cc:=by rw [Y0p,Y13,Y9 (by omega)]
   refine Qo (Z3L rfl rfl rfl hc1 rfl) ?_;refine go ?_;exact Z8 (X4Q (Z4e (l:=cc ++ []) (r:=cc) rfl rfl (by omega) htk) rfl) ⟨hcp,Yt,Yt⟩ hRR
 | no fin R2 used fl hR2 hj hend hno0 =>
   have hno:=ZeE h hR hR2 (Zcb hfr) hj hend hno0;clear hj hend hno0;generalize X4F (Xg R2 fin)=l at hno;have hpl:=hno.len;have hnm:(l.map cuC).length=l.length:=Y0f ..;have hsnd:=hno.snd hRb;have hle:∀ c∈l,Xv c:=fun c hc=>(hno.em c hc).1;clear hno
   repeat' (first|refine Zb (Zx (k:=14) rfl 2 (by decide)) ?_|(first|refine st ?_|(apply B<;>intro hb<;>try cases hb)))
   refine ZA hC (fun i=>i<=l.length) (fun i=>l.length-i) 2 (fun i => [(3,.cp (prX t R S)),(6,.ptr 0 0 0),(14,.own 1),(67,.vec (l.map cuC) false),(68,.val (.int .i64 (l.length:Int))),(69,Yv i)]) (fun i => [(0,⟨35,[X4I]⟩),(1,⟨2,((l.take i).map (X1R R)).map cuC⟩)]) (by decide) 0 (Y0l _) (fun i=>i) (fun _ _=>rfl) Zk
    ⟨Qp hxp,Qt 0 0 0,Qw 1,Qp (Z1 _),⟨_,by rw [<- hnm]; rfl,.pure _ Yt⟩,Qp Yt,Yt⟩ ⟨Qs ⟨Z3g,Yt⟩,Qs Yt,Yt⟩ ?_
   intro i hi;have hinc:IntKind.i64.wrap ((i:Int)+1)=((i+1:Nat):Int):=Y0v _ ⟨by omega,by omega⟩;refine gd 70 ⟨?_⟩;by_cases hil:i<l.length
   . refine Qo (Qy rfl (by omega)) ?_;have hc:=hle _ (Y0j hil);have htk:=ZS hil;have hol:((l.take i).map (X1R R)).length<=i:=by rw [Y0f,Y0o]; omega
     refine gd 71 ⟨?_⟩;refine Qo (Zn (xs:=l) (g:=cuC) rfl rfl i rfl hil rfl) ?_;generalize l[i]=c at hc htk;have hsn:((l.take i).map (X1R R)).map cuC ++ [cuC (X1R R c)]=((l.take (i+1)).map (X1R R)).map cuC:=by rw [htk]; simp
     refine gd 78 ⟨?_⟩;refine Qd (Z2K c.1 R hc.1 hR.lt) ⟨Z2 _,Z2 _,Yt⟩ ?_;refine gd 83 ⟨?_⟩;refine Qd (Z2K c.2 R hc.2 hR.lt) ⟨Z2 _,Z2 _,Yt⟩ ?_;refine gd 86 ⟨?_⟩
     refine Qr (Zt (k:=1) (m := [cuC (X1R R c)]) (fl:=true) rfl rfl rfl (fun q hq=>by rw [Y0g] at hq; subst hq; rfl) rfl (by
      show ((((l.take i).map (X1R R)).map cuC).length+1)*48<=_
      rw [Y0f];omega)) ?_
     simp only;rw [hsn];refine go ?_
     exact⟨i+1,mv 1 16,hil,by omega,fun i hi=>absurd hi (YE i),Zu rfl,
      ⟨Qp hxp,Qt 0 0 0,Qw 1,Qp (Z1 _),Qp Yt,⟨_,by show some _=some _; rw [hinc],.pure _ Yt⟩,Yt⟩,⟨Qs ⟨Z3g,Yt⟩,Qs (Z1 _),Yt⟩⟩
   have htk:l.take i=l:=Y9 (by omega);rw [htk];refine Qo (Qz rfl (by omega)) ?_;refine gd 88 ⟨?_⟩;refine Zb (Zm (k:=14) (id:=1) (b:=⟨2,(l.map (X1R R)).map cuC⟩) rfl rfl (Z1 _)) ?_;have hll:=hsnd.len;generalize l.map (X1R R)=q at hsnd hll;refine gd 91 ⟨?_⟩;refine Qe (Z66 h hw S q false (by omega)) ⟨hpp,Z1 q,Yt⟩ ?_;have hc1:(Xq (XQ t) false [] true q false).length=35:=Z1D hid0;have hcp:=Z17 (XQ t) false [] true q false;have hRR:X4H t 1 L (.tup [.agg (Xq (XQ t) false [] true q false),.val (.int .i64 0)]):=.ok false [] true q false hsnd;generalize Xq (XQ t) false [] true q false=cc at hc1 hcp hRR;have hcl:(cc ++ []).length=35:=by rw [Y0p]; exact hc1
   have htk2:((cc ++ []).drop 0).take 35=cc:=by rw [Y0p,Y13,Y9 (by omega)]
   refine Qo (Z3L (l:=X4I) rfl rfl rfl hc1 rfl) ?_;refine go ?_;exact Z8 (X4Q (Z4e (l:=cc ++ []) (r:=cc) rfl rfl (by omega) htk2) rfl) ⟨hcp,Yt,Yt⟩ hRR
theorem ZaC (hL:1<=L):X7 Tryz.prog 23 [.agg (prX t R S),.val (.int .u8 2),.val (.int .i64 L)] (X4H t 2 L):=by
 have hpp:=ZH t S;have hxp:=Z6y t R S;have hpo:=Z4S h hR.a.ok;have hpq:=ZH (Xo t R) S;have hid0:=Z2A t;have hRb:=X11.b126 h hn hR;refine Yp ok23 fun C hC=>?_;refine Zo ?_;refine Za ?_;refine Z5 (Z4Q rfl (by show 0<14; decide)) rfl rfl ?_;refine gd 42 ⟨?_⟩;refine ZD rfl rfl (Zc1 hpo hn S L hL) ⟨hpq,Yt,Yt⟩ rfl ?_;intro r hr;cases hr with
 | lim hl =>
   refine go ?_;exact Z8 (r:=.tup [.agg X4I,.val (.int .i64 3)]) rfl ⟨Z3g,Yt,Yt⟩ (.lim rfl hl)
 | yes p hp hl =>
   obtain⟨h1,hsnd⟩:=Zdl h hR hp (by omega);refine gd 56 ⟨?_⟩;refine Qe (Z7v p (X1U t R) _ false h1 (by omega)) ⟨Zw p,Zw _,Yt⟩ ?_;generalize p.map (fun j=>(X1U t R).getD j 0)=q at hsnd;have hql:=(hsnd.plan rfl).2;refine gd 66 ⟨?_⟩;refine Qe (Z65 h hw S q false (by omega)) ⟨hpp,Zw q,Yt⟩ ?_;have hc1:(Xq (XQ t) true q false [] true).length=35:=Z1D hid0;have hcp:=Z17 (XQ t) true q false [] true;have hRR:X4H t 2 L (.tup [.agg (Xq (XQ t) true q false [] true),.val (.int .i64 0)]):=.ok true q false [] true hsnd;generalize Xq (XQ t) true q false [] true=cc at hc1 hcp hRR;have hcl:(cc ++ []).length=35:=by rw [Y0p]; exact hc1
   have htk:((cc ++ []).drop 0).take 35=cc:=by rw [Y0p,Y13,Y9 (by omega)]
   refine Qo (Z3L rfl rfl rfl hc1 rfl) ?_;refine go ?_;exact Z8 (X4Q (Z4e (l:=cc ++ []) (r:=cc) rfl rfl (by omega) htk) rfl) ⟨hcp,Yt,Yt⟩ hRR
 | no ks hk =>
   have hno:=Zcd h hn hR hk;clear hk;generalize kcs ks=l at hno;have hpl:=hno.len;have hnm:(l.map cuC).length=l.length:=Y0f ..;have hsnd:=hno.snd hRb;have hle:∀ c∈l,Xv c:=fun c hc=>(hno.em c hc).1;clear hno
   repeat' (first|refine Zb (Zx (k:=14) rfl 2 (by decide)) ?_|(first|refine st ?_|(apply B<;>intro hb<;>try cases hb)))
   refine ZA hC (fun i=>i<=l.length) (fun i=>l.length-i) 2 (fun i => [(3,.cp (prX t R S)),(6,.ptr 0 0 0),(14,.own 1),(67,.vec (l.map cuC) false),(68,.val (.int .i64 (l.length:Int))),(69,Yv i)]) (fun i => [(0,⟨35,[X4I]⟩),(1,⟨2,((l.take i).map (X1R R)).map cuC⟩)]) (by decide) 0 (Y0l _) (fun i=>i) (fun _ _=>rfl) Zk
    ⟨Qp hxp,Qt 0 0 0,Qw 1,Qp (Z1 _),⟨_,by rw [<- hnm]; rfl,.pure _ Yt⟩,Qp Yt,Yt⟩ ⟨Qs ⟨Z3g,Yt⟩,Qs Yt,Yt⟩ ?_
   intro i hi;have hinc:IntKind.i64.wrap ((i:Int)+1)=((i+1:Nat):Int):=Y0v _ ⟨by omega,by omega⟩;refine gd 70 ⟨?_⟩;by_cases hil:i<l.length
   . refine Qo (Qy rfl (by omega)) ?_;have hc:=hle _ (Y0j hil);have htk:=ZS hil;have hol:((l.take i).map (X1R R)).length<=i:=by rw [Y0f,Y0o]; omega
     refine gd 71 ⟨?_⟩;refine Qo (Zn (xs:=l) (g:=cuC) rfl rfl i rfl hil rfl) ?_;generalize l[i]=c at hc htk;have hsn:((l.take i).map (X1R R)).map cuC ++ [cuC (X1R R c)]=((l.take (i+1)).map (X1R R)).map cuC:=by rw [htk]; simp
     refine gd 78 ⟨?_⟩;refine Qd (Z2K c.1 R hc.1 hR.lt) ⟨Z2 _,Z2 _,Yt⟩ ?_;refine gd 83 ⟨?_⟩;refine Qd (Z2K c.2 R hc.2 hR.lt) ⟨Z2 _,Z2 _,Yt⟩ ?_;refine gd 86 ⟨?_⟩
     refine Qr (Zt (k:=1) (m := [cuC (X1R R c)]) (fl:=true) rfl rfl rfl (fun q hq=>by rw [Y0g] at hq; subst hq; rfl) rfl (by
      show ((((l.take i).map (X1R R)).map cuC).length+1)*48<=_
      rw [Y0f];omega)) ?_
     simp only;rw [hsn];refine go ?_
     exact⟨i+1,mv 1 16,hil,by omega,fun i hi=>absurd hi (YE i),Zu rfl,
      ⟨Qp hxp,Qt 0 0 0,Qw 1,Qp (Z1 _),Qp Yt,⟨_,by show some _=some _; rw [hinc],.pure _ Yt⟩,Yt⟩,⟨Qs ⟨Z3g,Yt⟩,Qs (Z1 _),Yt⟩⟩
   have htk:l.take i=l:=Y9 (by omega);rw [htk];refine Qo (Qz rfl (by omega)) ?_;refine gd 88 ⟨?_⟩;refine Zb (Zm (k:=14) (id:=1) (b:=⟨2,(l.map (X1R R)).map cuC⟩) rfl rfl (Z1 _)) ?_;have hll:=hsnd.len;generalize l.map (X1R R)=q at hsnd hll;refine gd 91 ⟨?_⟩;refine Qe (Z66 h hw S q false (by omega)) ⟨hpp,Z1 q,Yt⟩ ?_;have hc1:(Xq (XQ t) false [] true q false).length=35:=Z1D hid0;have hcp:=Z17 (XQ t) false [] true q false;have hRR:X4H t 2 L (.tup [.agg (Xq (XQ t) false [] true q false),.val (.int .i64 0)]):=.ok false [] true q false hsnd;generalize Xq (XQ t) false [] true q false=cc at hc1 hcp hRR;have hcl:(cc ++ []).length=35:=by rw [Y0p]; exact hc1
   have htk2:((cc ++ []).drop 0).take 35=cc:=by rw [Y0p,Y13,Y9 (by omega)]
   refine Qo (Z3L (l:=X4I) rfl rfl rfl hc1 rfl) ?_;refine go ?_;exact Z8 (X4Q (Z4e (l:=cc ++ []) (r:=cc) rfl rfl (by omega) htk2) rfl) ⟨hcp,Yt,Yt⟩ hRR
end
theorem X60 {e:Env} {h:X1} {a b c s:Nat} {r v w:PV} (h1:X4 (.load true s (.tmp a)) e h 0=some (r,h)) (h2:e b=some v) (h3:e c=some w):XU [.cell a true s,.tmp b,.tmp c] e h=some (.tup [r,v,w]):=by
 simp [XU,X31,X5F,h1,h2,h3]
inductive DcR (t:PB):PV->Prop
 | mk (m:Int) (R:Nat) (b:Bool) (p:List Nat) (fp:Bool) (l:List Cu) (fl:Bool) (hR:X11 t R) (hm:m=if X1J (Xo t R) then 1 else 2) (hs:Snd t b p l):DcR t (.tup [.agg (Xq (XQ t) b p fp l fl),.val (.int .u8 m),.val (.int .i64 0)])
theorem Z3G {t:PB} (h:Xt t) (hn:t.n<=5) (hw:PbW t) (S:List Nat) (L:Int) (hL:64<=L):X7 Tryz.prog 8 [.agg (pbP t S),.val (.int .i64 L)] (DcR t):=by
 have hpp:=ZH t S;have hid0:=Z2A t;have h32:2 ^ t.n<=32:=YO (n:=2) (by decide) hn;refine Yp ok8 fun C hC=>?_;refine Zo ?_;refine Za ?_;refine Z5 rfl rfl rfl ?_;refine gd 14 ⟨?_⟩;refine ZD rfl rfl (ZeF h hn S L (by omega)) ⟨hpp,Yt,Yt⟩ rfl ?_;rintro r ⟨R,hR,rfl⟩;have hxp:=Z6y t R S;have hpo:=Z4S h hR.a.ok;have hpq:=ZH (Xo t R) S;refine gd 23 ⟨?_⟩;refine Qe (Z3F hpo S) ⟨hpq,Yt⟩ ?_;cases hfr:X1J (Xo t R)
 case true =>
  refine gd 28 ⟨?_⟩;refine ZD rfl rfl (ZaB h hn hw S hR L) ⟨hxp,Yt,Yt,Yt⟩ rfl ?_;intro r hr;cases hr with
  | lim hm hl=>exact absurd hm (by decide)
  | scope R2 hm hR2 hf=>rw [hR2.uniq hR,hfr] at hf; cases hf
  | ok b p fp l fl hs =>
    have hc1:(Xq (XQ t) b p fp l fl).length=35:=Z1D hid0;have hcp:=Z17 (XQ t) b p fp l fl;have hRR:DcR t (.tup [.agg (Xq (XQ t) b p fp l fl),.val (.int .u8 1),.val (.int .i64 0)]):=.mk 1 R b p fp l fl hR (by rw [hfr]; rfl) hs;generalize Xq (XQ t) b p fp l fl=cc at hc1 hcp hRR;have hcl:(cc ++ []).length=35:=by rw [Y0p]; exact hc1
    have htk:((cc ++ []).drop 0).take 35=cc:=by rw [Y0p,Y13,Y9 (by omega)]
    iterate 4 (first|refine st ?_|(apply B<;>intro hb<;>try cases hb))
    refine Qo (Z3L rfl rfl rfl hc1 rfl) ?_;refine gd 48 ⟨?_⟩;refine Qo (Z4e (l:=cc ++ []) (r:=cc) rfl rfl (by omega) htk) ?_
    iterate 1 (first|refine st ?_|(apply B<;>intro hb<;>try cases hb))
    refine Qo (Z3L rfl rfl rfl hc1 rfl) ?_;refine go ?_;exact Z8 (X60 (Z4e (l:=cc ++ []) (r:=cc) rfl rfl (by omega) htk) rfl rfl) ⟨hcp,Yt,Yt,Yt⟩ hRR
 case false =>
  refine gd 28 ⟨?_⟩;refine ZD rfl rfl (ZaC h hn hw S hR L (by omega)) ⟨hxp,Yt,Yt,Yt⟩ rfl ?_;intro r hr;cases hr with
  | lim hm hl=>exact absurd hl (by omega)
  | scope R2 hm hR2 hf=>exact absurd hm (by decide)
  | ok b p fp l fl hs =>
    have hc1:(Xq (XQ t) b p fp l fl).length=35:=Z1D hid0;have hcp:=Z17 (XQ t) b p fp l fl;have hRR:DcR t (.tup [.agg (Xq (XQ t) b p fp l fl),.val (.int .u8 2),.val (.int .i64 0)]):=.mk 2 R b p fp l fl hR (by rw [hfr]; rfl) hs;generalize Xq (XQ t) b p fp l fl=cc at hc1 hcp hRR;have hcl:(cc ++ []).length=35:=by rw [Y0p]; exact hc1
    have htk:((cc ++ []).drop 0).take 35=cc:=by rw [Y0p,Y13,Y9 (by omega)]
    iterate 4 (first|refine st ?_|(apply B<;>intro hb<;>try cases hb))
    refine Qo (Z3L rfl rfl rfl hc1 rfl) ?_;refine gd 48 ⟨?_⟩;refine Qo (Z4e (l:=cc ++ []) (r:=cc) rfl rfl (by omega) htk) ?_
    iterate 1 (first|refine st ?_|(apply B<;>intro hb<;>try cases hb))
    refine Qo (Z3L rfl rfl rfl hc1 rfl) ?_;refine go ?_;exact Z8 (X60 (Z4e (l:=cc ++ []) (r:=cc) rfl rfl (by omega) htk) rfl rfl) ⟨hcp,Yt,Yt,Yt⟩ hRR
theorem X58:∀ (n:Nat) (a b:List Nat),a.length=n->b.length=n->Xz (List.replicate n 0) (Xh .u8 a) (Xh .u8 b)=some (decide (a=b))
 | 0,[],[],_,_=>rfl
 | n + 1, x :: a, y :: b, ha, hb => by
   have ih:=X58 n a b (Nat.succ.inj ha) (Nat.succ.inj hb);show (match X2x 0 (.val (.int .u8 (x:Int))) (.val (.int .u8 (y:Int))),Xz (List.replicate n 0) (Xh .u8 a) (Xh .u8 b) with|some x,some y=>some (x&&y)|_,_=>none)=_;rw [ih];have e1:X2x 0 (.val (.int .u8 (x:Int))) (.val (.int .u8 (y:Int)))=some (decide (x=y)):=by
    show (if (0=0/\IntKind.u8=IntKind.u8) then some (((x:Int)) == (y:Int)) else none)=_;rw [Y5 ⟨rfl,rfl⟩];congr 1;by_cases h:x=y
    . subst h; simp
    . rw [Y0w h];exact Y3k.2 (by omega)
   rw [e1];show some (decide (x=y)&&decide (a=b))=_;congr 1;rw [<- Bool.decide_and];exact Y26.2 (by rw [List.cons.injEq])
section
variable {e:Env} {h:X1} {n:Nat} {x y:Operand} {a b:List Nat}
theorem ZgV (hx:ev e x=some (.agg (Xh .u8 a))) (hy:ev e y=some (.agg (Xh .u8 b))) (ha:a.length=32) (hb:b.length=32):X4 (.bin .neq (.cells (List.replicate 32 0)) x y) e h n=some (.val (.bool (!decide (a=b))),h):=by
 simp only [X4,hx,hy,X4B,X58 32 a b ha hb]
theorem ZiW {l r:List PV} {size:Nat} (hx:ev e x=some (.cp l)) (hl:size<=l.length) (hr:l.take size=r):X4 (.load true size x) e h n=some (.agg r,h):=by
 subst hr;simp only [X4,hx,X10];rw [Y5 (by omega)]
 rfl
end
noncomputable def X5d (t:PB) (b:Bool) (p:List Nat) (l:List Cu) (fl:Bool):Fd :=
 if XQ t=List.replicate 32 0 then (2,0,0) else if X51 p l≠0 then (3,0,0) else if X49 t.n l then
  (if p.any (fun k=>decide (t.rs.length<=k)) then (3,0,0) else if b then X2X t t.st p 0 else X3q t l fl) else (3,0,0)
def orP (l:List Nat):Nat:=orL (l.map (2 ^ ·))
theorem Zk7 {N:Nat} (h:N<18446744073709551616):orP (mem N)=N:=YD fun i=>by
 rw [YN,orP,Z9f];constructor
 . rintro ⟨x, hx, hb⟩;obtain⟨r,hr,rfl⟩:=Y0i.1 hx;rw [YH,Y0n] at hb;subst hb;exact (ZY h).1 hr
 . intro hi;exact⟨2 ^ i,Y1F (f:=(2 ^ ·)) ((ZY h).2 hi),Y2j⟩
theorem Ziy (l:List Nat) (x:Nat):orP (l ++ [x])=orP l ||| 2 ^ x:=by unfold orP; rw [Y0r]; exact Z9u _ _
theorem Zl3 {l:List Nat} (h:∀ x∈l,x<64):orP l<18446744073709551616:=Zgj fun y hy=>by
 obtain⟨x,hx,rfl⟩:=Y0i.1 hy;exact ZQ (h x hx)
theorem Z7w (N:Nat) (hN:N ||| 126=126):X7 Tryz.prog 85 [XD N] (· = .tup [.val (.int .u64 (N:Int)),.val (.bool true)]):=by
 have h64:N<18446744073709551616:=by
  have:N<=126:=by rw [<- hN]; exact YU
  omega
 have hmem:∀ r∈mem N,1<=r/\r<=6:=fun r hr=>X5X (Xe.1 hN r ((ZY h64).1 hr));have hor:=Zk7 h64;refine Yp ok85 fun C hC=>?_;refine Zo ?_;refine Za ?_;refine Z5 rfl rfl rfl ?_;refine gd 7 ⟨?_⟩;refine Qe (Z1H N) ⟨Z2 _,Yt⟩ ?_;refine go ?_;have hwi:∀ D,X1I D [PV.vec (X5 (X9 N)) false]:=fun D=>⟨Zp _ _,Yt⟩
 refine Z2q (X:=List Nat) hC (caps := [.cp [.vec (X5 (X9 N)) false]]) [(2,.ptr 0 0 0),(3,.ptr 1 0 0),(4,.ptr 2 0 0),(7,.fn 142 [.cp [.vec (X5 (X9 N)) false]])]
  (fun z => [(0,⟨1,[[.val (.int .u64 0)]]⟩),(1,⟨1,[[.val (.bool false)]]⟩),(2,⟨1,[[.val (.int .u64 (orP z:Int))]]⟩)]) rfl ⟨⟨Z7 _,Yt⟩,Yt⟩ (Z2s N h64) (fun _=>rfl)
  (fun ex pre z=>ex=.normal/\z=pre.map (·.val)) 3 (by decide) [] ⟨rfl,rfl⟩
  (Z4k hC (by decide) ⟨⟨rfl,show 0<3 by decide⟩,⟨rfl,show 1<3 by decide⟩,⟨rfl,show 2<3 by decide⟩,⟨rfl,⟨Zp _ _,Yt⟩,Yt⟩,Yt⟩ ⟨⟨by decide,rfl,⟨⟨Yt,Yt⟩,Yt⟩⟩,⟨by decide,rfl,⟨⟨Yt,Yt⟩,Yt⟩⟩,⟨by decide,rfl,⟨⟨Yt,Yt⟩,Yt⟩⟩,Yt⟩)
  (fun z q hq=>by simp at hq; rcases hq with rfl|rfl|rfl<;>exact Y1s _) _ (fun x=>rfl) ?_ ?_ ?_
 . rintro C2 hC2 pre x z ⟨-, rfl⟩ hlen;have hx:=hmem x.val x.2;have hst:=Ziy (pre.map (·.val)) x.val;have hz:=Zl3 (l:=pre.map (·.val)) fun r hr=>by obtain⟨y,_,rfl⟩:=Y0i.1 hr; have:=hmem _ y.2; omega
   refine gd 10 ⟨?_⟩;refine Qo (Qz rfl (by omega)) ?_;refine gd 13 ⟨?_⟩;refine Qr (ZdF rfl rfl (by omega) (Z8U x.val (by omega))) ?_;refine Qr (Z10 rfl (Y1C _ _ hz (ZQ (by omega)))) ?_;rw [<- hst];refine go ?_
   exact⟨.inl rfl,pre.map (·.val) ++ [x.val],fun i=>i,⟨rfl,by rw [Y0r]; rfl⟩,fun i hi=>rfl,Zk,
    ⟨Qt 0 0 0,Qt 1 0 0,Qt 2 0 0,Qp ⟨⟨Z7 _,Yt⟩,Yt⟩,Yt⟩,
    ⟨Qs ⟨⟨Yt,Yt⟩,Yt⟩,Qs ⟨⟨Yt,Yt⟩,Yt⟩,Qs ⟨⟨Yt,Yt⟩,Yt⟩,Yt⟩⟩
 . rintro xs z hxs ⟨-, rfl⟩;rw [hxs];refine go ?_;exact Z8 (r:=.tup [.val (.int .u64 (orP (mem N):Int)),.val (.bool true)]) rfl ⟨Yt,Yt,Yt⟩ (by rw [hor])
 . rintro ex pre z - ⟨rfl,_⟩ (h|⟨id,h⟩)<;>cases h
theorem ZaD (l:List Cu) (fl:Bool) (hl:∀ c∈l,(c.1 ||| c.2) ||| 126=126) (hll:l.length<=1000):X7 Tryz.prog 31 [.vec (l.map cuC) fl] (· = .tup [.vec (l.map raC) false,.val (.bool true)]):=by
 have hnl:(l.map cuC).length=l.length:=Y0f ..;refine Yp ok31 fun C hC=>?_
 repeat' (first|refine Zb (Zx (k:=4) rfl 2 (by decide)) ?_|(first|refine st ?_|(apply B<;>intro hb<;>try cases hb)))
 refine ZA hC (fun i=>i<=l.length) (fun i=>l.length-i) 1 (fun i => [(4,.own 0),(11,.vec (l.map cuC) fl),(12,.val (.int .i64 (l.length:Int))),(13,Yv i)]) (fun i => [(0,⟨2,(l.take i).map raC⟩)]) (Y0l _) 0 (Y0l _) (fun i=>i) (fun _ _=>rfl) Zk
  ⟨Qw 0,Qp (Z1 _),⟨_,by rw [<- hnl]; rfl,.pure _ Yt⟩,Qp Yt,Yt⟩ ⟨Qs Yt,Yt⟩ ?_
 intro i hi;have hinc:IntKind.i64.wrap ((i:Int)+1)=((i+1:Nat):Int):=Y0v _ ⟨by omega,by omega⟩;refine gd 14 ⟨?_⟩;by_cases hil:i<l.length
 . refine Qo (Qy rfl (by omega)) ?_;have hc:=hl _ (Y0j hil);have htk:=ZS hil;have hol:(l.take i).length<=i:=by rw [Y0o]; omega
   refine gd 15 ⟨?_⟩;refine Qo (Zn (xs:=l) (g:=cuC) rfl rfl i rfl hil rfl) ?_;generalize l[i]=c at hc htk;have hc1:c.1 ||| 126=126:=Xe.2 fun j hj=>Xe.1 hc j (by rw [Y00,hj,Y2E])
   have hc2:c.2 ||| 126=126:=Xe.2 fun j hj=>Xe.1 hc j (by rw [Y00,hj,Y38])
   have hsn:(l.take i).map raC ++ [raC c]=(l.take (i+1)).map raC:=by rw [htk]; simp
   refine gd 20 ⟨?_⟩;refine Qe (Z7w c.1 hc1) ⟨Z2 _,Yt⟩ ?_;refine gd 26 ⟨?_⟩;refine Qe (Z7w c.2 hc2) ⟨Z2 _,Yt⟩ ?_;refine gd 40 ⟨?_⟩
   refine ZF (Zt (k:=0) (m := [raC c]) (fl:=true) rfl rfl rfl (fun q hq=>by rw [Y0g] at hq; subst hq; rfl) rfl (by
    show (((l.take i).map raC).length+1)*16<=_
    rw [Y0f];omega)) rfl rfl ?_
   simp only;rw [hsn];refine go ?_
   exact⟨i+1,mv 0 2,hil,by omega,fun i hi=>absurd hi (YE i),Zu rfl,
    ⟨Qw 0,Qp (Z1 _),Qp Yt,⟨_,by show some _=some _; rw [hinc],.pure _ Yt⟩,Yt⟩,⟨Qs (Z3x _),Yt⟩⟩
 . have htk : l.take i = l := Y9 (by omega);rw [htk];refine Qo (Qz rfl (by omega)) ?_
   repeat' (first|refine Zb (Zm (k:=4) (id:=0) (b:=⟨2,l.map raC⟩) rfl rfl (Z3x _)) ?_|(first|refine st ?_|(apply B<;>intro hb<;>try cases hb)))
   exact Z8 rfl ⟨Z3x _,Yt,Yt⟩ rfl
theorem Zce {t:PB} (h:Xt t) (p:List Nat) (fl:Bool) (hl:p.length<=1000) (hp:X1D t p):X7 Tryz.prog 30 [.agg (pbR t),.vec (inL p) fl] (· = .val (.bool true)):=by
 obtain⟨E,h1,h2⟩:=hp;have hpp:=Z21 t;have hE:=Z9h h p h.st h1;have hr:=Z45 h E (hE.lt h.n.2);rw [h2] at hr;refine Yp ok30 fun C hC=>?_;refine Zo ?_;refine Za ?_;refine Z5 rfl rfl rfl ?_;refine gd 10 ⟨?_⟩;refine Qe (Zei h p fl (by omega) h1) ⟨hpp,Zw p,Yt⟩ ?_;refine gd 16 ⟨?_⟩;refine Qo (Qy rfl (by rw [Z2n])) ?_;refine gd 20 ⟨?_⟩;refine Zr rfl ?_;refine Qe hr ⟨hpp,Yt,Yt⟩ ?_;refine go ?_;exact Z8 rfl Yt rfl
theorem ZeH {t:PB} (h:Xt t) (hn:1<=t.n/\t.n<=5) (l:List Cu) (fl:Bool) (hl:∀ c∈l,Xv c) (hv:X4t t fun S=>soC l S=true):X7 Tryz.prog 32 [.agg (pbR t),.vec (l.map raC) fl] (· = .val (.bool true)):=by
 have hpp:=Z21 t;have hst:=InS.lt h.n.2 h.st;have hrb:=h.rl;have hrl:=Z6q t.rs;have h32:2 ^ t.n<=32:=YO (n:=2) (by decide) hn.2;have hpc:∀ D,X1I D (pbR t):=fun D=>ZC (fun _ h=>h.elim) _ hpp;have h0:=Z2J l fl t.st hl hst;rw [show soC l t.st=false from Yy.2 hv.st] at h0;refine Yp ok32 fun C hC=>?_;refine Zo ?_;refine Za ?_;refine Z5 rfl rfl rfl ?_;refine gd 12 ⟨?_⟩;refine Qe h0 ⟨Z3x l,Yt,Yt⟩ ?_;refine go ?_;refine Zy hC (fun i=>i<=2 ^ t.n) (fun i=>2 ^ t.n-i) 0 (fun i => [(1,.vec (l.map raC) fl),(2,.cp (pbR t)),(5,.val (.int .u64 ((2*i:Nat):Int)))]) (fun _=>[]) (Y0l _) 0 (Y0l _)
  ⟨⟨rfl,Z3w l _⟩,⟨rfl,hpc _⟩,⟨rfl,Yt⟩,Yt⟩ Yt ?_
 intro i hi;have hinc:IntKind.u64.wrap (((2*i:Nat):Int)+2)=((2*(i+1):Nat):Int):=by rw [show ((2*i:Nat):Int)+2=((2*(i+1):Nat):Int) by omega]; exact Y0x _ ⟨by omega,by omega⟩
 refine gd 16 ⟨?_⟩
 refine Z3l rfl rfl (by omega) (v:=((2*2 ^ t.n:Nat):Int)) (by
  have:t.n=1 \/ t.n=2 \/ t.n=3 \/ t.n=4 \/ t.n=5:=by omega
  rcases this with e|e|e|e|e<;>rw [e]<;>decide) rfl ?_
 by_cases hil:i<2 ^ t.n
 case neg =>
  refine Qo (Qz rfl (by omega)) ?_;refine go ?_;exact Z8 rfl Yt rfl
 refine Qo (Qy rfl (by omega)) ?_;have hS:=ZjD (t:=t) hil;have hs:=hS.lt h.n.2;refine gd 22 ⟨?_⟩;refine Qe (Z7c h (2*i) hs) ⟨hpp,Yt,Yt⟩ ?_;cases hg:Xl t (2*i)
 case false =>
  refine go ?_;exact⟨i+1,hil,by omega,⟨⟨rfl,Z3w l _⟩,⟨rfl,hpc _⟩,⟨by show some _=some _; rw [hinc],Yt⟩,Yt⟩,Yt⟩
 refine gd 27 ⟨?_⟩;refine Zr rfl ?_;refine Qe (Z2J l fl (2*i) hl hs) ⟨Z3x l,Yt,Yt⟩ ?_;cases hso:soC l (2*i)
 case true =>
  refine go ?_;exact⟨i+1,hil,by omega,⟨⟨rfl,Z3w l _⟩,⟨rfl,hpc _⟩,⟨by show some _=some _; rw [hinc],Yt⟩,Yt⟩,Yt⟩
 have hnr:Xr t (2*i)=false:=Yy.2 fun hr=>by rw [hv.tg _ hS hg hr] at hso; cases hso
 have hrs:=Z45 h (2*i) hs;rw [hnr] at hrs;refine gd 31 ⟨?_⟩;refine Qe hrs ⟨hpp,Yt,Yt⟩ ?_;refine go ?_;refine Zy hC (fun k=>k<=t.rs.length) (fun k=>t.rs.length-k) 0 (fun k => [(1,.vec (l.map raC) fl),(2,.cp (pbR t)),(5,.val (.int .u64 ((2*i:Nat):Int))),(34,.val (.int .i64 (t.rs.length:Int))),(35,.val (.int .i64 (k:Int)))]) (fun _=>[]) (Y0l _) 0 (Y0l _)
  ⟨⟨rfl,Z3w l _⟩,⟨rfl,hpc _⟩,⟨rfl,Yt⟩,⟨by rw [<- hrl]; rfl,Yt⟩,⟨rfl,Yt⟩,Yt⟩ Yt ?_
 intro k hk;have hkinc:IntKind.i64.wrap ((k:Int)+1)=((k+1:Nat):Int):=Y0v _ ⟨by omega,by omega⟩;refine gd 36 ⟨?_⟩;by_cases hkl:k<t.rs.length
 case neg =>
  refine Qo (Qz rfl (by omega)) ?_;refine go ?_;exact⟨i+1,hil,by omega,⟨⟨rfl,Z3w l _⟩,⟨rfl,hpc _⟩,⟨by show some _=some _; rw [hinc],Yt⟩,Yt⟩,Yt⟩
 refine Qo (Qy rfl (Y1V.2 hkl)) ?_;have hstp:=Z4T h (2*i) hs k hkl;have hmem:=Y0j hkl;generalize t.rs[k]=x at hstp hmem;refine gd 42 ⟨?_⟩;cases hb:XK t x (2*i)
 case false =>
  rw [hb] at hstp;refine Qe hstp ⟨hpp,Yt,Yt,Yt⟩ ?_;refine go ?_;exact⟨k+1,hkl,by omega,⟨⟨rfl,Z3w l _⟩,⟨rfl,hpc _⟩,⟨rfl,Yt⟩,⟨rfl,Yt⟩,⟨by show some _=some _; rw [hkinc],Yt⟩,Yt⟩,Yt⟩
 rw [hb] at hstp;have hnx:=Z1M h hmem hS;have hns:soC l (Xc x (2*i))=false:=Yy.2 fun hr=>by rw [hv.cl _ hS hg x hmem hb hr] at hso; cases hso
 have hsn:=Z2J l fl (Xc x (2*i)) hl (hnx.lt h.n.2);rw [hns] at hsn;have hstn:X5g t x (2*i) true=.tup [.val (.int .u64 ((Xc x (2*i):Nat):Int)),.val (.bool true)]:=rfl;rw [hstn] at hstp;refine Qe hstp ⟨hpp,Yt,Yt,Yt⟩ ?_;refine gd 49 ⟨?_⟩;refine Zr rfl ?_;refine Qe hsn ⟨Z3x l,Yt,Yt⟩ ?_;refine go ?_;exact⟨k+1,hkl,by omega,⟨⟨rfl,Z3w l _⟩,⟨rfl,hpc _⟩,⟨rfl,Yt⟩,⟨rfl,Yt⟩,⟨by show some _=some _; rw [hkinc],Yt⟩,Yt⟩,Yt⟩
theorem Zdm:∀ (l:List Pr) (a:Nat),(l.Pairwise fun p q=>p.1<q.1 \/ p.1=q.1/\p.2<q.2)->(∀ p∈l,a<=p.1*7+p.2/\p.1*7+p.2<49/\p.2<=6)->l.length<=49-a
 | [],a,_,_=>Y0l _
 | p :: l, a, hp, h => by
   have h1:=h p (Y0t ..);rw [Y15] at hp;have:=Zdm l (p.1*7+p.2+1) hp.2 fun q hq=>by
    have h2:=hp.1 q hq;have h3:=h q (YA _ hq);refine⟨?_,h3.2⟩;rcases h2 with h2|⟨h2,h4⟩<;>omega
   rw [Y04];omega
theorem Zk8 {t:PB} (h:X6f t):PbW t:=by
 have hn:=h.n;have hok:=h.ok;have hst:t.st<=mkN t.n:=by rw [<- hok.st]; exact YU
 have h32:2 ^ t.n<=32:=YO (n:=2) (by decide) hn.2;have hm:mkN t.n<=62:=by unfold mkN; omega
 have h62:∀ c:Cu,InM 62 c->c.1<256/\c.2<256:=fun c hc=>by
  have h1:c.1<=62:=by rw [<- hc.1]; exact YU
  have h2:c.2<=62:=by rw [<- hc.2]; exact YU
  omega
 refine⟨by omega,by omega,fun r hr=>?_,fun c hc=>h62 c (hok.nv c hc).2,fun c hc=>h62 c (hok.gl c hc).2,fun p hp=>?_,?_,by have:=h.rs; omega,by have:=h.nv; omega,by have:=h.gl; omega⟩
 . have hro := hok.rs r hr;have:=h62 _ hro.m;have:=hro.tg;omega
 . have := hok.lk p hp;omega
 . have := Zdm t.l 0 hok.good.asc fun p hp => by
    have:=hok.good.role p hp;have:=hok.lk p hp;omega
   omega
theorem ZeI {e:Env} {h:X1} {n:Nat} {x y:Operand} {a:List Nat} (hx:ev e x=some (.agg (Xh .u8 a))) (hy:ev e y=some (.agg (Xh .u8 a))) (ha:a.length=32):X4 (.bin .neq (.cells (List.replicate 32 0)) x y) e h n=some (.val (.bool false),h):=by
 rw [ZgV hx hy ha ha];simp
theorem ZaE {t:PB} (h:Xt t) (hn:1<=t.n/\t.n<=5) (hw:PbW t) (S:List Nat) (b:Bool) (p:List Nat) (fp:Bool) (l:List Cu) (fl:Bool) (hs:Snd t b p l):X7 Tryz.prog 12 [.agg (pbP t S),.agg (pbR t),.agg (Xq (XQ t) b p fp l fl)] (· = .val (.bool true)):=by
 have hid:=Z2A t;have hpp:=ZH t S;have hpr:=Z21 t;have d32:=Z6x (b:=b) (p:=p) (fp:=fp) (l:=l) (fl:=fl) hid;have d33:=Z9r (b:=b) (p:=p) (fp:=fp) (l:=l) (fl:=fl) hid;have d34:=Z9s (b:=b) (p:=p) (fp:=fp) (l:=l) (fl:=fl) hid;have hlen:(Xq (XQ t) b p fp l fl).length=35:=Z1D hid;have hcp:=Z17 (XQ t) b p fp l fl;have htk:(Xq (XQ t) b p fp l fl).take 32=Xh .u8 (XQ t):=by
  unfold Xq;rw [Y2O,ZI,hid,Y35,Y1u,Y0p,Y9 (by rw [ZI,hid]; exact Y0m _)]
 have hpl:p.length<=100:=by
  cases b with
  | true=>exact (hs.plan rfl).2
  | false => rcases hs.form with ⟨hb, _⟩ | ⟨_, rfl⟩
             . cases hb
             . exact Y0l _
 have hll:=hs.len;have hck:=Zca (XQ t) hid b p fp l fl hs.form (by omega) (by omega) hs.ok64;rw [hs.chk h] at hck;have hpid:=Z34 h hw S;have hable:=hs.able h;generalize Xq (XQ t) b p fp l fl=cc at d32 d33 d34 hlen hcp htk hck;generalize XQ t=ii at hid htk hpid;refine Yp ok12 fun C hC=>?_;refine Zo ?_;refine Za ?_;refine Z5 rfl rfl rfl ?_;refine Z5 rfl rfl rfl ?_;refine Z5 (Z4Q rfl (by rw [hlen]; decide)) rfl rfl ?_;refine gd 10 ⟨?_⟩;refine Qr (ZiW (r:=Xh .u8 ii) rfl (by rw [Y13,hlen]; decide) (by rw [Y13,htk])) ?_;refine gd 12 ⟨?_⟩;refine Qd hpid ⟨hpp,Yt⟩ ?_;refine Qr (ZeI rfl rfl hid) ?_;refine gd 15 ⟨?_⟩;refine Z2p rfl ?_;refine Qr (ZiW (r:=cc) rfl (by rw [hlen]; decide) (Y9 (by rw [hlen]; exact Y0m _))) ?_;refine Z2p rfl ?_;refine Qd hck ⟨hcp,Yt⟩ ?_;refine gd 21 ⟨?_⟩;refine Z2p rfl ?_;refine Qr (Z4c rfl d32) ?_;refine gd 23 ⟨?_⟩;refine Z2p rfl ?_;refine Z3R rfl rfl (.inl rfl) (Z7C h hn.2) ⟨hpr,Yt⟩ ?_;rintro r ⟨b',hb',rfl⟩;have hbb:b'=b:=by cases b<;>cases b'<;>simp_all
 subst hbb;refine gd 24 ⟨?_⟩;refine Z2p rfl ?_;refine Qr (Z6 (v:=false) rfl (by cases b'<;>rfl)) ?_;refine gd 27 ⟨?_⟩;refine Qo (Z4c rfl d32) ?_;cases b'
 . rcases hs.form with ⟨hb, _⟩ | ⟨_, rfl⟩
   . cases hb
   refine gd 40 ⟨?_⟩;refine Qo (Z4c rfl d34) ?_;refine Qe (ZaD l fl (fun c hc=>(hs.cub c hc).1) (by omega)) ⟨Z1 l,Yt⟩ ?_;refine gd 47 ⟨?_⟩;refine Zr rfl ?_;refine Qo (Z4c rfl d33) ?_;refine gd 54 ⟨?_⟩;refine Zr rfl ?_;refine Qe (ZeH h hn l false hs.ok64 (hs.inv rfl)) ⟨hpr,Z3x l,Yt⟩ ?_;refine go ?_;exact Z8 rfl Yt rfl
 . rcases hs.form with ⟨_, rfl⟩ | ⟨hb, _⟩
   . refine gd 29 ⟨?_⟩;refine Qo (Z4c rfl d34) ?_;refine gd 35 ⟨?_⟩;refine Zr rfl ?_;refine Qo (Z4c rfl d33) ?_;refine gd 36 ⟨?_⟩;refine Zr rfl ?_;refine Qe (Zce h p fp (by omega) (hs.plan rfl).1) ⟨hpr,Zw p,Yt⟩ ?_;refine go ?_;exact Z8 rfl Yt rfl
   . cases hb
end
section
theorem Zk9 (r:Nat):jun [] r=2 ^ r:=YD fun b=>by
 rw [YN,Z6W Zaq,YH,Y0n];exact⟨fun h=>h.elim (fun h=>(ZiR h).elim) Eq.symm,fun h=>.inr h.symm⟩
def cl0 (s:Nat):Nat:=(mem s).foldl (fun o r=>if 1<=r then o ||| 2 ^ r else o) 0
theorem Z4A:clo []=cl0:=funext fun s=>by
 rw [Zbt];simp only [Zk9]
 rfl
def sn0 (r:Nat):Nat:=2 ^ r
theorem Zdn:sen []=sn0:=funext ZgC
def X5k (t:PB) (s:Nat):Bool := !soC t.nv (cl0 s)
def X5r (t:PB) (r:RU) (s:Nat):Bool:=decide (Xc r s≠s)&&(X5k t (Xc r s)&&(r.rev||hoC r.cu (cl0 s)))
def X36 (t:PB) (s:Nat) (k:Int):Option Nat:=if 0<=k then (match t.rs[k.toNat]? with|some r=>if X5r t r s then some (Xc r s) else none|none=>none) else none
def X2T (t:PB):Nat->List Nat->Nat->Fd
 | s,[],_=>if soC t.gl (cl0 s) then (1,0,0) else (5,0,0)
 | s, k :: p, i => match X36 t s (k : Int) with
   | some o=>X2T t o p (i+1)
   | none=>(4,i,k)
def X6y (t:PB) (l:List Cu) (fl:Bool):Option Nat:=X3J cl0 sn0 t.n (X6V t l fl)
def X7h (t:PB) (l:List Cu) (fl:Bool) (c:Cu) (r:RU):Option Nat:=X3J cl0 sn0 t.n (X6N t l fl c r)
def X5w (t:PB) (l:List Cu) (fl:Bool) (i k:Nat):Bool:=(X7h t l fl (cu0 l i) (ru0 t.rs k)).isSome
def X3z (t:PB) (l:List Cu) (fl:Bool):Fd :=
 match X4V (fun i=>hoC (cu0 l i) t.st) l.length 0 with
 | some i=>(6,i,0)
 | none=>if (X6y t l fl).isSome then (7,0,0) else X5L (X5u (X5w t l fl) t.rs.length l.length 0)
def X6W (t:PB) (b:Bool) (p:List Nat) (l:List Cu) (fl:Bool):Fd :=
 if XQ t=List.replicate 32 0 then (2,0,0) else if X51 p l≠0 then (3,0,0) else if X49 t.n l then
  (if p.any (fun k=>decide (t.rs.length<=k)) then (3,0,0) else if b then X2T t t.st p 0 else X3z t l fl) else (3,0,0)
section
variable {t:PB} (hl:t.l = [])
include hl
theorem Zl4 (s:Nat):Xl t s=X5k t s:=by unfold Xl X5k; rw [hl,Z4A]
theorem ZaF (r:RU) (s:Nat):XK t r s=X5r t r s:=by unfold XK X5r; rw [Zl4 hl,hl,Z4A]
theorem Zka (s:Nat) (k:Int):X4S t s k=X36 t s k:=by
 unfold X4S X36;simp only [ZaF hl]
 all_goals rfl
theorem Zdo:∀ (p:List Nat) (s i:Nat),X2X t s p i=X2T t s p i
 | [], s, i => by
   show (if Xr t s then ((1,0,0):Fd) else (5,0,0))=(if soC t.gl (cl0 s) then (1,0,0) else (5,0,0))
   unfold Xr;rw [hl,Z4A]
 | k :: p, s, i => by
   show (match X4S t s (k:Int) with|some o=>X2X t o p (i+1)|none=>((4,i,k):Fd))=(match X36 t s (k:Int) with|some o=>X2T t o p (i+1)|none=>(4,i,k))
   rw [Zka hl];cases X36 t s (k:Int) with
   | some o=>exact Zdo p o (i+1)
   | none=>rfl
theorem Ziz (l:List Cu) (fl:Bool):X3q t l fl=X3z t l fl:=by
 have e1:X6B t l fl=X6y t l fl:=by unfold X6B X6y; rw [hl,Z4A,Zdn]
 have e2:X6t t l fl=X5w t l fl:=funext fun i=>funext fun k=>by unfold X6t X5w X6Q X7h; rw [hl,Z4A,Zdn]
 unfold X3q X3z;rw [e1,e2]
 all_goals rfl
theorem ZgW (b:Bool) (p:List Nat) (l:List Cu) (fl:Bool):X5d t b p l fl=X6W t b p l fl:=by
 unfold X5d X6W;rw [Zdo hl,Ziz hl]
end
def tJ (nv:List Cu):PB:=⟨2,[],0,[⟨false,(0,0),1,0⟩,⟨false,(2,0),2,0⟩],nv,[(4,0)]⟩
def t1J:PB:=tJ []
set_option maxRecDepth 100000
theorem v1 (fl:Bool):X5d t1J true [0,1] [] fl=(1,0,0):=by rw [ZgW rfl]; cases fl<;>decide +kernel
theorem v2 (fl:Bool):X5d t1J true [1,0] [] fl=(4,0,1):=by rw [ZgW rfl]; cases fl<;>decide +kernel
theorem v3 (fl:Bool):X5d t1J true [0] [] fl=(5,0,0):=by rw [ZgW rfl]; cases fl<;>decide +kernel
theorem v4 (fl:Bool):X5d t1J false [] [(4,0)] fl=(8,0,1):=by rw [ZgW rfl]; cases fl<;>decide +kernel
theorem v5 (fl:Bool):X5d t1J false [] [(2,0),(4,0)] fl=(8,0,0):=by rw [ZgW rfl]; cases fl<;>decide +kernel
end
section
open Go.RowKit
attribute [local irreducible] aw Xm dK
def tSf (st:Nat) (rs:List RU):PB:=⟨3,[],st,rs,[],[(8,0)]⟩
def rsA:List RU := [⟨false,(0,0),1,0⟩,⟨false,(2,0),2,0⟩,⟨false,(4,2),3,0⟩,⟨true,(0,0),1,0⟩]
def rsB:List RU := [⟨false,(2,0),2,0⟩]
theorem X5y {c:Cu} (h1:c.1 ||| 14=14) (h2:c.2 ||| 14=14) (h3:emC c=false):InC 3 c/\InM 62 c:=⟨⟨h1,h2,h3⟩,Z4u h1 (by decide),Z4u h2 (by decide)⟩
theorem ZiX {st:Nat} {rs:List RU} (hs:st ||| 14=14) (hl:rs.length<=64) (hr:∀ r∈rs,X3H 3 r):Xt (tSf st rs):=by
 refine⟨show 1<=3/\3<=63 by decide,⟨List.Pairwise.nil,fun p hp=>(by cases hp),⟨fun _=>0,fun p hp=>(by cases hp)⟩⟩,fun p hp=>(by cases hp),hs,hl,hr,show 0<=64 by decide,fun c hc=>(by cases hc),show 1<=64 by decide,fun c hc=>?_,rfl⟩;have hc:c∈[((8,0):Cu)]:=hc;rw [Y0g] at hc;subst hc;exact X5y (by decide) (by decide) (by decide)
theorem Zl5 {st:Nat} {rs:List RU} (hs:st<256) (hl:rs.length<=100) (hr:∀ r∈rs,r.cu.1<256/\r.cu.2<256/\r.tg<=63):PbW (tSf st rs) :=
 ⟨show 3<=63 by decide,hs,hr,fun c hc=>(by cases hc),fun c hc=>(by
  have hc:c∈[((8,0):Cu)]:=hc;rw [Y0g] at hc;subst hc
  exact⟨by decide,by decide⟩),fun p hp=>(by cases hp),show 0<=100 by decide,hl,show 0<=100 by decide,show 1<=100 by decide⟩
def tA:PB:=tSf 0 rsA
def tB:PB:=tSf 2 rsB
theorem ZiY:∀ r∈rsA,X3H 3 r/\r.cu.1<256/\r.cu.2<256/\r.tg<=63:=by
 intro r hr;simp only [rsA,YB,Y2s,Y45] at hr;rcases hr with rfl|rfl|rfl|rfl
 . have := X5y (c := (0, 0)) (by decide) (by decide) (by decide);exact⟨⟨this.1,this.2,show 1<=1/\1<=3/\1<=5 by decide,fun _=>rfl⟩,by decide,by decide,by decide⟩
 . have := X5y (c := (2, 0)) (by decide) (by decide) (by decide);exact⟨⟨this.1,this.2,show 1<=2/\2<=3/\2<=5 by decide,fun h=>by cases h⟩,by decide,by decide,by decide⟩
 . have := X5y (c := (4, 2)) (by decide) (by decide) (by decide);exact⟨⟨this.1,this.2,show 1<=3/\3<=3/\3<=5 by decide,fun h=>by cases h⟩,by decide,by decide,by decide⟩
 . have := X5y (c := (0, 0)) (by decide) (by decide) (by decide);exact⟨⟨this.1,this.2,show 1<=1/\1<=3/\1<=5 by decide,fun _=>rfl⟩,by decide,by decide,by decide⟩
theorem ZiZ:∀ r∈rsB,X3H 3 r/\r.cu.1<256/\r.cu.2<256/\r.tg<=63:=by
 intro r hr;simp only [rsB,YB,Y2s,Y45] at hr;subst hr;have:=X5y (c:=(2,0)) (by decide) (by decide) (by decide);exact⟨⟨this.1,this.2,show 1<=2/\2<=3/\2<=5 by decide,fun h=>by cases h⟩,by decide,by decide,by decide⟩
theorem Zcf:Xt tA:=ZiX (by decide) (by decide) fun r hr=>(ZiY r hr).1
theorem ZgX:Xt tB:=ZiX (by decide) (by decide) fun r hr=>(ZiZ r hr).1
theorem ZlC:PbW tA:=Zl5 (by decide) (by decide) fun r hr=>(ZiY r hr).2
theorem ZlD:PbW tB:=Zl5 (by decide) (by decide) fun r hr=>(ZiZ r hr).2
theorem Zcg {t:PB} (hl:t.l = []) (s:Nat):Xr t s=soC t.gl (cl0 s):=by unfold Xr; rw [hl,Z4A]
theorem Zkb:X20 tA tA.st:=by
 have h:X1D tA [0,1,3,2]:=by
  refine⟨12,⟨rsA[0],rfl,?_,rsA[1],rfl,?_,rsA[3],rfl,?_,rsA[2],rfl,?_,?_⟩,?_⟩
  . rw [ZaF rfl]; decide +kernel
  . rw [ZaF rfl]; decide +kernel
  . rw [ZaF rfl]; decide +kernel
  . rw [ZaF rfl]; decide +kernel
  . show (12:Nat)=_; decide +kernel
  . rw [Zcg rfl]; decide +kernel
 exact h.able Zcf
theorem ZiA:∀ s<16,s.testBit 3=false->soC [((8,0):Cu)] (cl0 s)=false:=by decide +kernel
theorem Zl6:¬ X20 tB tB.st:=by
 rw [able_iff ZgX];rintro⟨E,hr,he⟩;have key:∀ {S},Rch tB S->S.testBit 3=false:=fun {S} hr=>by
  induction hr with
  | base=>decide
  | @step S x h hx hs ih =>
    have hx:x∈rsB:=hx;simp only [rsB,YB,Y2s,Y45] at hx;subst hx;rw [ZR (by decide) ((h.inS ZgX).lt (by decide)),Y6 (by decide)];exact ih
 have hin:=hr.inS ZgX;have hE:E<16:=by
  have h1:E ||| mkN 3=mkN 3:=hin
  have:E<=mkN 3:=by rw [<- h1]; exact YU
  have e:mkN 3=14:=by decide
  omega
 rw [Zcg rfl] at he;have h2:=ZiA E hE (key hr);have he:soC [((8,0):Cu)] (cl0 E)=true:=he;rw [h2] at he;cases he
theorem X7y {st:Nat} {rs:List RU} {R:Nat} (hR:X11 (tSf st rs) R):R.testBit 3=true:=by
 refine Xe.1 (hR.a.gl (8,0) (Y0g.2 rfl)) 3 (Z9g (b:=3) ⟨by decide,by decide⟩ (.inl (by decide)) ?_);show (sen [] 3).testBit 3=true;rw [ZgC]; decide
theorem frA {R:Nat} (hR:X11 tA R):X1J (Xo tA R)=false:=by
 refine Yy.2 fun h=>?_;have:=(Zcb h).rs ⟨false,(4,2),3,0⟩ (Z3A.2 ⟨by show _∈rsA; simp [rsA],X7y hR⟩);exact absurd this (by decide)
theorem frB {R:Nat} (hR:X11 tB R):X1J (Xo tB R)=true:=by
 unfold X1J;rw [Y0k,Y0k,Y0n,YL,YL];refine⟨rfl,fun x hx=>?_,fun c hc=>?_⟩
 . have hx := (Z3A.1 hx).1;have hx:x∈rsB:=hx;simp only [rsB,YB,Y2s,Y45] at hx;subst hx; decide
 . have hc : c ∈ [((8, 0) : Cu)] := hc;rw [Y0g] at hc;subst hc; decide
theorem Zlt {l:List Cu} (hs:Snd tB false [] l):0<l.length:=by
 have h1:=(hs.inv rfl).tg 14 (show 14 ||| mkN 3=mkN 3 by decide) rfl (by rw [Zcg rfl]; decide +kernel);cases l with
 | nil=>cases h1
 | cons c l=>exact Nat.succ_pos _
theorem Z6z {cc r:List PV} {x:PV} {k:Nat} (h:cc.drop k=x :: r):(cc ++ []).getD k pvu=x:=by
 have:cc[k]?=some x:=by
  have:=congrArg (fun m=>m[0]?) h;simpa [Y1q] using this
 rw [Y0p,Y0b,this]; rfl
def X7k:List (List PV) := [[.val (.bool false),.vec [] true,.vec [] true,.val (.int .i64 1),.val (.int .i64 0)],[.val (.bool false),.vec (X5 (X9 2)) false,.vec [] true,.val (.int .i64 2),.val (.int .i64 0)],[.val (.bool false),.vec (X5 (X9 4)) false,.vec (X5 (X9 2)) false,.val (.int .i64 3),.val (.int .i64 0)],[.val (.bool true),.vec [] true,.vec [] true,.val (.int .i64 1),.val (.int .i64 0)]]
def X7p:List (List PV) := [[.val (.bool false),.vec (X5 (X9 2)) false,.vec [] true,.val (.int .i64 2),.val (.int .i64 0)]]
def X6F:List (List PV) := [[.vec (X5 (X9 8)) false,.vec [] true]]
theorem w00:X5 (X9 0) = []:=by rw [ZM]; rfl
theorem X7F:XA X7k=rsA.map ruP:=by
 show [[PV.val (.bool false),.vec [] false,.vec [] false,.val (.int .i64 1),.val (.int .i64 0)],[.val (.bool false),.vec (XA (X5 (X9 2))) false,.vec [] false,.val (.int .i64 2),.val (.int .i64 0)],[.val (.bool false),.vec (XA (X5 (X9 4))) false,.vec (XA (X5 (X9 2))) false,.val (.int .i64 3),.val (.int .i64 0)],[.val (.bool true),.vec [] false,.vec [] false,.val (.int .i64 1),.val (.int .i64 0)]] =
  [[PV.val (.bool false),.vec (X5 (X9 0)) false,.vec (X5 (X9 0)) false,.val (.int .i64 1),.val (.int .i64 0)],[.val (.bool false),.vec (X5 (X9 2)) false,.vec (X5 (X9 0)) false,.val (.int .i64 2),.val (.int .i64 0)],[.val (.bool false),.vec (X5 (X9 4)) false,.vec (X5 (X9 2)) false,.val (.int .i64 3),.val (.int .i64 0)],[.val (.bool true),.vec (X5 (X9 0)) false,.vec (X5 (X9 0)) false,.val (.int .i64 1),.val (.int .i64 0)]]
 rw [Z1A,Z1A,w00]
theorem X7Y:XA X7p=rsB.map ruP:=by
 show [[PV.val (.bool false),.vec (XA (X5 (X9 2))) false,.vec [] false,.val (.int .i64 2),.val (.int .i64 0)]] = [[PV.val (.bool false),.vec (X5 (X9 2)) false,.vec (X5 (X9 0)) false,.val (.int .i64 2),.val (.int .i64 0)]];rw [Z1A,w00]
theorem X79:XA X6F = [((8,0):Cu)].map cuC:=by
 show [[PV.vec (XA (X5 (X9 8))) false,.vec [] false]] = [[PV.vec (X5 (X9 8)) false,.vec (X5 (X9 0)) false]];rw [Z1A,w00]
theorem Z9v {ρ:Nat->Nat} {D:Nat->Prop} {r m:List (List PV)} {fl:Bool} (h:XA r=m) (hm:X3 m):X1B ρ D (.vec r fl) (.vec m false):=by
 have:=X1B.low (ρ:=ρ) (D:=D) (.vec r fl) (by show X3 (XA r); rw [h]; exact hm);have e:PV.low (.vec r fl)=.vec m false:=by show PV.vec (XA r) false=_; rw [h]
 rwa [e] at this
theorem Zkc {ρ:Nat->Nat} {D:Nat->Prop}:X1B ρ D (.vec [] true) (.vec (X5 (X9 0)) false):=by rw [w00]; exact .low (.vec [] true) Yt
theorem ZaG:X7 Tryz.prog 6 [] (· = .val (.bool true)):=by
 refine Yp ok6 fun C hC=>?_;refine gd 12 ⟨?_⟩;refine ZD rfl rfl Z44 Yt rfl ?_;rintro r ⟨S1,rfl⟩;refine gd 14 ⟨?_⟩;refine Qe (Z5Q [3] 8 (by decide +kernel) true) ⟨ZJ _,Yt⟩ ?_;refine gd 19 ⟨?_⟩;refine Qe (Z5Q [1] 2 (by decide +kernel) true) ⟨ZJ _,Yt⟩ ?_;refine gd 23 ⟨?_⟩;refine Qe (Z5Q [2] 4 (by decide +kernel) true) ⟨ZJ _,Yt⟩ ?_;refine gd 25 ⟨?_⟩;refine Qe (Z5Q [1] 2 (by decide +kernel) true) ⟨ZJ _,Yt⟩ ?_;refine gd 31 ⟨?_⟩;refine Z3R rfl rfl (.inl rfl) Z44 Yt ?_;rintro r ⟨S2,rfl⟩;refine gd 33 ⟨?_⟩;refine Qd (Z5Q [1] 2 (by decide +kernel) true) ⟨ZJ _,Yt⟩ ?_;refine gd 37 ⟨?_⟩;refine Qd (Z5Q [1] 2 (by decide +kernel) true) ⟨ZJ _,Yt⟩ ?_
 iterate 7 (first|refine st ?_|(apply B<;>intro hb<;>try cases hb))
 have hA:=ZH tA S1;have hB:=ZH tB S2
 refine Z24 (Z2P (X3n.mem (ρ:=fun i=>i) (m:=14) (L := [(1,.ptr 0 0 0),(2,.ptr 12 0 0)]) ⟨Qt 0 0 0,Qt 12 0 0,Yt⟩)
  (X1y.mem (ρ := fun i => i) (m := 14) (L := [(0, ⟨6, [pbP tA S1]⟩), (12, ⟨6, [pbP tB S2]⟩)]) ⟨⟨by decide, ⟨6, [[.val (.int .i64 3), X15 [] S1, .vec [] true, .vec X7k true, .vec [] true, .vec X6F true]]⟩, rfl,
    Xu.single (l:=pbP tA S1) ⟨.pure _ Yt,.pure _ (Zq _ _),Zkc,Z9v X7F (ZE rsA),.low (.vec [] true) Yt,Z9v X79 (Z1 _),Yt⟩ rfl⟩,⟨by decide,⟨6,[[.val (.int .i64 3),X15 [] S2,.vec (X5 (X9 2)) false,.vec X7p true,.vec [] true,.vec X6F true]]⟩,rfl,
    Xu.single (l:=pbP tB S2) ⟨.pure _ Yt,.pure _ (Zq _ _),.pure _ (Z7 _),Z9v X7Y (ZE rsB),.low (.vec [] true) Yt,Z9v X79 (Z1 _),Yt⟩ rfl⟩,Yt⟩) hC (by decide)) ?_
 refine gd 44 ⟨?_⟩;refine ZD rfl rfl (Z3G Zcf (by decide) ZlC S1 2000 (by decide)) ⟨hA,Yt,Yt⟩ rfl ?_;intro r hr;obtain⟨m,R,b,p,fp,l,fl,hR,hm,hs⟩:=hr;obtain rfl:b=true:=(hs.able Zcf).2 Zkb;rw [frA hR] at hm;obtain rfl:m=2:=hm;obtain⟨⟨E,hrun,hre⟩,hpl⟩:=hs.plan rfl;have hid:=Z2A tA;have hc1:(Xq (XQ tA) true p fp l fl).length=35:=Z1D hid;have d32:=Z6z (Z6x (b:=true) (p:=p) (fp:=fp) (l:=l) (fl:=fl) hid);have d33:=Z6z (Z9r (b:=true) (p:=p) (fp:=fp) (l:=l) (fl:=fl) hid);generalize Xq (XQ tA) true p fp l fl=ca at hc1 d32 d33;have hca:(ca ++ []).length=35:=by rw [Y0p]; exact hc1
 iterate 5 (first|refine st ?_|(apply B<;>intro hb<;>try cases hb))
 refine Qo (Z3L rfl rfl rfl hc1 rfl) ?_;refine gd 50 ⟨?_⟩;refine ZD rfl rfl (Z3G ZgX (by decide) ZlD S2 2000 (by decide)) ⟨hB,Yt,Yt⟩ rfl ?_;intro r hr;obtain⟨m,R2,b,q,fq,l2,fl2,hR2,hm,hs2⟩:=hr;obtain rfl:b=false:=Yy.2 fun hb=>Zl6 ((hs2.able ZgX).1 hb);rw [frB hR2] at hm;obtain rfl:m=1:=hm;have hq:q = []:=by
  rcases hs2.form with⟨hb,_⟩|⟨_,hq⟩
  . cases hb
  . exact hq
 subst hq;have hne:=Zlt hs2;have hid2:=Z2A tB;have hc2:(Xq (XQ tB) false [] fq l2 fl2).length=35:=Z1D hid2;have e32:=Z6z (Z6x (b:=false) (p := []) (fp:=fq) (l:=l2) (fl:=fl2) hid2);have e34:=Z6z (Z9s (b:=false) (p := []) (fp:=fq) (l:=l2) (fl:=fl2) hid2);generalize Xq (XQ tB) false [] fq l2 fl2=cb at hc2 e32 e34;have hcb:(cb ++ []).length=35:=by rw [Y0p]; exact hc2
 iterate 5 (first|refine st ?_|(apply B<;>intro hb<;>try cases hb))
 refine Qo (Z3L rfl rfl rfl hc2 rfl) ?_;refine gd 57 ⟨?_⟩;refine Qo (Z7D (l:=ca ++ []) (off:=33) (v:=.vec (inL p) fp) rfl rfl (by omega) d33) ?_;refine Qe (Zgm Zcf S1 p fp (by omega) hrun) ⟨hA,Zw p,Yt⟩ ?_;refine gd 66 ⟨?_⟩;refine Zr rfl ?_;refine Qo (Z7D (l:=ca ++ []) (off:=32) (v:=.val (.bool true)) rfl rfl (by omega) d32) ?_;have hE:=Z9h Zcf p Zcf.st hrun;have hrS:=Z7d Zcf S1 E (InS.lt (by decide) hE);rw [hre] at hrS;refine gd 78 ⟨?_⟩;refine Zr rfl ?_;refine Qe hrS ⟨hA,Z2 _,Yt⟩ ?_;refine gd 86 ⟨?_⟩;refine Zr rfl ?_;refine Qo (Z7D (l:=cb ++ []) (off:=32) (v:=.val (.bool false)) rfl rfl (by omega) e32) ?_;refine gd 95 ⟨?_⟩;refine Zr rfl ?_;refine Qo (Z7D (l:=cb ++ []) (off:=34) (v:=.vec (l2.map cuC) fl2) rfl rfl (by omega) e34) ?_;have hnl:(l2.map cuC).length=l2.length:=Y0f ..;refine gd 97 ⟨?_⟩;refine Zr rfl ?_;refine Qo (Qy rfl (by rw [hnl];omega)) ?_;refine go ?_;exact Z8 rfl Yt rfl
theorem Z5T (p:List Nat) (fl:Bool) (hp:X4r p):X7 Tryz.prog 4 [.vec (bys p) fl] (· = .val (.bool true)):=by
 refine Yp ok4 fun C hC=>?_;refine gd 9 ⟨?_⟩;refine Qe ZaG Yt ?_;refine gd 13 ⟨?_⟩;refine ZD rfl rfl (Ze9 p fl hp) ⟨Zg p,Yt⟩ rfl ?_;rintro r ⟨t,S,hmk,rfl⟩;have h:=hmk.ok;have hn:=hmk.n;have hw:=Zk8 hmk;have hpp:=ZH t S;have hpr:=Z21 t;have hid:=Z2A t;refine gd 21 ⟨?_⟩;refine ZD rfl rfl (Z3G h hn.2 hw S 2000 (by decide)) ⟨hpp,Yt,Yt⟩ rfl ?_;intro r hr;obtain⟨m,R,b,q,fq,l,fl2,hR,hm,hs⟩:=hr;have hm12:m=1 \/ m=2:=by rw [hm]; split<;>simp
 have hc1:(Xq (XQ t) b q fq l fl2).length=35:=Z1D hid;have hcp:=Z17 (XQ t) b q fq l fl2;have hso:=ZaE h ⟨by omega,hn.2⟩ hw S b q fq l fl2 hs;generalize Xq (XQ t) b q fq l fl2=cc at hc1 hcp hso;have hcl:(cc ++ []).length=35:=by rw [Y0p]; exact hc1
 have htk:((cc ++ []).drop 0).take 35=cc:=by rw [Y0p,Y13,Y9 (by omega)]
 iterate 5 (first|refine st ?_|(apply B<;>intro hb<;>try cases hb))
 refine Qo (Z3L rfl rfl rfl hc1 rfl) ?_;refine gd 29 ⟨?_⟩;refine Zr rfl ?_;refine Qo (Qy rfl (by omega)) ?_;refine gd 33 ⟨?_⟩;refine Zr rfl ?_;refine Qo (Qy rfl (by omega)) ?_;refine gd 38 ⟨?_⟩;refine Zr rfl ?_;refine Qo (Z4e (l:=cc ++ []) (r:=cc) rfl rfl (by omega) htk) ?_;refine Zr rfl ?_;refine Qe hso ⟨hpp,hpr,hcp,Yt⟩ ?_;refine go ?_;exact Z8 rfl Yt rfl
end
section
open Go.ChangeShapes Go.WideShapes Go.ChangeAt Go.RowKit
theorem Zdp {α:Type} {enc:α->List PV} {Q:α->Prop}:∀ {ll:List (List PV)},(∀ l∈ll,∃ x,Q x/\l=enc x)->∃ xs:List α,(∀ x∈xs,Q x)/\ll=xs.map enc
 | [],_=>⟨[],fun _ h=>(by cases h),rfl⟩
 | l :: ll, h => by
   obtain⟨x,h1,rfl⟩:=h l (Y0t ..);obtain⟨xs,h2,rfl⟩:=Zdp fun l hl=>h l (YA _ hl);refine⟨x :: xs,fun y hy=>?_,rfl⟩;rcases YB.1 hy with rfl|hy
   . exact h1
   . exact h2 y hy
theorem Zci {P:Program} {s:TypeId}:∀ {ps:List PV},X2y P [s] ps->∃ a,ps = [a]/\X3d P s a
 | [a],⟨h,_⟩=>⟨a,rfl,h⟩
theorem Zl7 {m:Int} (h:(Lit.int .u8 m).wf=true):∃ a:Nat,a<256/\m=(a:Int):=by
 simp only [Lit.wf,Y0k,Y0n] at h;obtain⟨h1,h2⟩:=h;have h3:m<=255:=h2;have h4:0<=m:=h1;exact⟨m.toNat,by omega,by omega⟩
theorem ZiB {n:Nat} {l:List PV} (h:XO Tryz.prog n 5 l):∃ x:Nat,x<=255/\l = [PV.val (.int .u8 (x:Int))]:=by
 obtain⟨m1,w1,e1⟩:=ZgZ h (k:=.u8) (by kernel_rfl);obtain⟨x,hx,rfl⟩:=Zl7 w1;exact⟨x,by omega,e1⟩
theorem Zcj {p:PV} (h:X3d Tryz.prog 22 p):∃ (l:List Nat) (fl:Bool),X4r l/\p=.vec (bys l) fl:=by
 obtain⟨n,ll,fl,_,h2,rfl⟩:=ZaH h (e:=5) (by kernel_rfl);obtain⟨xs,h3,rfl⟩:=Zdp (enc:=fun (x:Nat) => [PV.val (.int .u8 (x:Int))]) (Q:=fun (x:Nat)=>x<=255) fun l hl=>ZiB (h2 l hl);exact⟨xs,fl,h3,rfl⟩
theorem Z5x:∀ ps,X2y Tryz.prog Tryz.f4.params.toList ps->X6 ps->X7 Tryz.prog 4 ps (· = .val (.bool true)):=by
 intro ps hs hp;rw [show Tryz.f4.params.toList = [22] by kernel_rfl] at hs;obtain⟨a,rfl,k0⟩:=Zci hs;obtain⟨x0,f0,h0,rfl⟩:=Zcj k0;exact Z5T x0 f0 h0
theorem Z4B (os:Os) (started:os.Started) (H:Type) (enc:TypeId×Value->H) :
 ReturnsInHanded {} Tryz.checked os 4 .any (fun w args=>(Rows.safetyDecidesSpec.pre enc Tryz.prog Tryz.f4 [] false w args/\laidMetH Tryz.prog X3e w)/\sizedMet enc Tryz.prog Tryz.f4 (OpenSpec.ofChange Rows.safetyDecidesSpec) false w args)
  (Rows.safetyDecidesSpec.post enc Tryz.prog Tryz.f4 false true false false):=by
 refine returnsInHanded_of_change_and (C:=Tryz.checked) (X:=fun w _=>laidMetH Tryz.prog X3e w) (fun _ _ _ hh h=>h.of_heap hh) own started (by kernel_rfl) Tryz.func4
  (ChangeSpec.witness_shaped (enc:=enc) (C:=Tryz.checked) (os:=os) (X:=fun w _=>laidMetH Tryz.prog X3e w) false (World.doorLaid Tryz.prog 400 os) #[.slice none 0 0] 8 rfl (World.shaped_of_RefB (by kernel_rfl) (by kernel_rfl)) (by kernel_rfl) (by kernel_rfl) (by kernel_rfl) (Zhg os _)) ?_
 intro W base args ds gs before hval hW _ hwt hL _
 exact Z9J (P:=Tryz.prog) (G:=X5S Tryz.prog Tryz.f4.params.toList) (by kernel_rfl) (Zkk (by kernel_rfl)) X5f (Zfd (by kernel_rfl)) (tb:=4) (by kernel_rfl) (by kernel_rfl) rfl (fun ds hd=>by
  match ds,hd with
  | [a],_=>exact⟨rfl,rfl,rfl⟩) Z5x W (Zhi hL) base args ds gs before hval hW hwt
theorem Z4V:Rows.SafetyDecidesSaid :=
 OpenClaim.holds_of_wide 4 Tryz.f4 rfl rfl rfl rfl rfl rfl rfl ⟨rfl,rfl,rfl,rfl,rfl⟩ rfl rfl rfl rfl rfl (by kernel_rfl) Tryz.func4 (by kernel_rfl)
  (Y0u (by kernel_rfl)) (by unfold Func.isWrapper; first|(rw [Y5 (by decide +kernel)]; kernel_rfl)|(rw [Y6 (by decide +kernel)]; exact⟨rfl,rfl⟩))
  (fun os started H enc _=>Z4B os started H enc)
theorem safetyDecides_card:Rows.SafetyDecidesCardSaid :=
 Claim7.holds_tied_plain_at .later [] [.data,.data,.data] true (true, "82d01a3b199734626ad56c45fd2436a7acdd5f1a23d52d30349db228a08eaf4e") false
  Z4V (fun _ h=>by cases h) (by kernel_rfl) (fun _ h=>by cases h) safetyDecides_row_tie rfl ⟨rfl,rfl⟩ (by kernel_rfl) rfl
  (fun f fn hf hfn => by
    obtain rfl : f = 4 := YQ ((show Tryz.prog.funcNamed "arbac/arbaclaw37.SafetyDecides" = some 4 by kernel_rfl).symm.trans hf) |>.symm
    obtain rfl:fn=Tryz.f4:=(YQ (Tryz.func4.symm.trans hfn)).symm
    exact⟨by kernel_rfl,fun j t ht=>by
     rw [show Tryz.f4.params = #[22] by kernel_rfl] at ht;have hm:t∈[22]:=by simpa using Array.mem_of_getElem? ht
     have hall:([22].all fun u => !Tryz.prog.wantsStandIn u)=true:=by kernel_rfl
     exact (show Tryz.prog.wantsStandIn t=false by simpa using YL.1 hall t hm)⟩)
  (by kernel_rfl)
#print axioms safetyDecides_card
end
end Go.Proofs.YtofglfpgfdahaaaGreatDoor
