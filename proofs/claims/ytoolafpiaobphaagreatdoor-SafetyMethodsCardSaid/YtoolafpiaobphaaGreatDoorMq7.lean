/-
 Proved: for every input the law SafetyMethods returns true,never panics,and leaves its arguments as0 they were,on the given card's conditions (the table of the bits package reads as0 the program's text lays it,and is tied to it).
-/
import Derived.SevenTiedAt
import Derived.Test.YtoolafpiaobphaaGreatDoorCards
import Derived.Test.YtoolafpiaobphaaGreatDoorTie
import Derived.Test.YtoolafpiaobphaaGreatDoorMq6
set_option linter.unusedSimpArgs false
set_option linter.unusedVariables false
set_option linter.unusedSectionVars false
set_option linter.defProp false
set_option maxRecDepth 100000
set_option maxHeartbeats 16000000
namespace Go.Proofs.YtoolafpiaobphaaGreatDoor
section
open Go.RowKit
attribute [local irreducible] aw Xr dK
theorem X4Q:∀ (n:Nat) (a b:List Nat),a.length=n->b.length=n->Xk (List.replicate n 0) (Xi .u8 a) (Xi .u8 b)=some (decide (a=b))
 | 0,[],[],_,_=>rfl
 | n + 1, x :: a, y :: b, ha, hb => by
   have ih:=X4Q n a b (Nat.succ.inj ha) (Nat.succ.inj hb);show (match X1W 0 (.val (.int .u8 (x:Int))) (.val (.int .u8 (y:Int))),Xk (List.replicate n 0) (Xi .u8 a) (Xi .u8 b) with|some x,some y=>some (x&&y)|_,_=>none)=_;rw [ih];have e1:X1W 0 (.val (.int .u8 (x:Int))) (.val (.int .u8 (y:Int)))=some (decide (x=y)):=by
    show (if (0=0/\IntKind.u8=IntKind.u8) then some (((x:Int)) == (y:Int)) else none)=_;rw [Y6 ⟨rfl,rfl⟩];congr 1;by_cases h:x=y
    . subst h; simp
    . rw [Y0w h];exact Y2p.2 (by omega)
   rw [e1];show some (decide (x=y)&&decide (a=b))=_;congr 1;rw [<- Bool.decide_and];exact Y27.2 (by rw [List.cons.injEq])
section
variable {e:Env} {h:X2} {n:Nat} {x y:Operand} {a b:List Nat}
theorem Zi7 (hx:ev e x=some (.agg (Xi .u8 a))) (hy:ev e y=some (.agg (Xi .u8 b))) (ha:a.length=32) (hb:b.length=32):X3 (.bin .eql (.cells (List.replicate 32 0)) x y) e h n=some (.val (.bool (decide (a=b))),h):=by
 simp only [X3,hx,hy,X4l,X4Q 32 a b ha hb]
theorem Zi8 (hx:ev e x=some (.agg (Xi .u8 a))) (hy:ev e y=some (.agg (Xi .u8 b))) (ha:a.length=32) (hb:b.length=32):X3 (.bin .neq (.cells (List.replicate 32 0)) x y) e h n=some (.val (.bool (!decide (a=b))),h):=by
 simp only [X3,hx,hy,X4l,X4Q 32 a b ha hb]
theorem Zkk {l r:List PV} {size:Nat} (hx:ev e x=some (.cp l)) (hl:size<=l.length) (hr:l.take size=r):X3 (.load true size x) e h n=some (.agg r,h):=by
 subst hr;simp only [X3,hx,X17];rw [Y6 (by omega)]
 rfl
end
noncomputable def X5Q (t:PB) (b:Bool) (p:List Nat) (l:List Cu) (fl:Bool):Fd :=
 if X1e t=List.replicate 32 0 then (2,0,0) else if X5u p l≠0 then (3,0,0) else if X4M t.n l then
  (if p.any (fun k=>decide (t.rs.length<=k)) then (3,0,0) else if b then X3f t t.st p 0 else X3N t l fl) else (3,0,0)
def orP (l:List Nat):Nat:=orL (l.map (2 ^ ·))
theorem Zlw {N:Nat} (h:N<18446744073709551616):orP (mem N)=N:=YE fun i=>by
 rw [YQ,orP,Z7L];constructor
 . rintro ⟨x, hx, hb⟩;obtain⟨r,hr,rfl⟩:=Y0i.1 hx;rw [YI,Y0n] at hb;subst hb;exact (ZY h).1 hr
 . intro hi;exact⟨2 ^ i,Y1D (f:=(2 ^ ·)) ((ZY h).2 hi),Y2m⟩
theorem ZjQ (l:List Nat) (x:Nat):orP (l ++ [x])=orP l ||| 2 ^ x:=by unfold orP; rw [Y0r]; exact Za1 _ _
theorem Zmq {l:List Nat} (h:∀ x∈l,x<64):orP l<18446744073709551616:=Zht fun y hy=>by
 obtain⟨x,hx,rfl⟩:=Y0i.1 hy;exact ZP (h x hx)
theorem Z7Z (N:Nat) (hN:N ||| 126=126):X7 Tryz.prog 91 [XG N] (· = .tup [.val (.int .u64 (N:Int)),.val (.bool true)]):=by
 have h64:N<18446744073709551616:=by
  have:N<=126:=by rw [<- hN]; exact YN
  omega
 have hmem:∀ r∈mem N,1<=r/\r<=6:=fun r hr=>X6L (Xc.1 hN r ((ZY h64).1 hr));have hor:=Zlw h64;refine Yp ok91 fun C hC=>?_;refine Zm ?_;refine Z9 ?_;refine Z5 rfl rfl rfl ?_;refine gd 7 ⟨?_⟩;refine Qe (Z1F N) ⟨Z2 _,Yt⟩ ?_;refine go ?_;have hwi:∀ D,X1S D [PV.vec (X4 (Xb N)) false]:=fun D=>⟨Zp _ _,Yt⟩
 refine Z2v (X:=List Nat) hC (caps := [.cp [.vec (X4 (Xb N)) false]]) [(2,.ptr 0 0 0),(3,.ptr 1 0 0),(4,.ptr 2 0 0),(7,.fn 121 [.cp [.vec (X4 (Xb N)) false]])]
  (fun z => [(0,⟨1,[[.val (.int .u64 0)]]⟩),(1,⟨1,[[.val (.bool false)]]⟩),(2,⟨1,[[.val (.int .u64 (orP z:Int))]]⟩)]) rfl ⟨⟨Z7 _,Yt⟩,Yt⟩ (Z2x N h64) (fun _=>rfl)
  (fun ex pre z=>ex=.normal/\z=pre.map (·.val)) 3 (by decide) [] ⟨rfl,rfl⟩
  (Z4B hC (by decide) ⟨⟨rfl,show 0<3 by decide⟩,⟨rfl,show 1<3 by decide⟩,⟨rfl,show 2<3 by decide⟩,⟨rfl,⟨Zp _ _,Yt⟩,Yt⟩,Yt⟩ ⟨⟨by decide,rfl,⟨⟨Yt,Yt⟩,Yt⟩⟩,⟨by decide,rfl,⟨⟨Yt,Yt⟩,Yt⟩⟩,⟨by decide,rfl,⟨⟨Yt,Yt⟩,Yt⟩⟩,Yt⟩)
  (fun z q hq=>by simp at hq; rcases hq with rfl|rfl|rfl<;>exact Y1u _) _ (fun x=>rfl) ?_ ?_ ?_
 . rintro C2 hC2 pre x z ⟨-, rfl⟩ hlen;have hx:=hmem x.val x.2;have hst:=ZjQ (pre.map (·.val)) x.val;have hz:=Zmq (l:=pre.map (·.val)) fun r hr=>by obtain⟨y,_,rfl⟩:=Y0i.1 hr; have:=hmem _ y.2; omega
   refine gd 10 ⟨?_⟩;refine Qo (Qz rfl (by omega)) ?_;refine gd 13 ⟨?_⟩;refine Qr (ZeE rfl rfl (by omega) (Z9t x.val (by omega))) ?_;refine Qr (ZS rfl (Y1H _ _ hz (ZP (by omega)))) ?_;rw [<- hst];refine go ?_
   exact⟨.inl rfl,pre.map (·.val) ++ [x.val],fun i=>i,⟨rfl,by rw [Y0r]; rfl⟩,fun i hi=>rfl,Zf,
    ⟨Qt 0 0 0,Qt 1 0 0,Qt 2 0 0,Qp ⟨⟨Z7 _,Yt⟩,Yt⟩,Yt⟩,
    ⟨Qs ⟨⟨Yt,Yt⟩,Yt⟩,Qs ⟨⟨Yt,Yt⟩,Yt⟩,Qs ⟨⟨Yt,Yt⟩,Yt⟩,Yt⟩⟩
 . rintro xs z hxs ⟨-, rfl⟩;rw [hxs];refine go ?_;exact Z8 (r:=.tup [.val (.int .u64 (orP (mem N):Int)),.val (.bool true)]) rfl ⟨Yt,Yt,Yt⟩ (by rw [hor])
 . rintro ex pre z - ⟨rfl,_⟩ (h|⟨id,h⟩)<;>cases h
theorem Zbj (l:List Cu) (fl:Bool) (hl:∀ c∈l,(c.1 ||| c.2) ||| 126=126) (hll:l.length<=1000):X7 Tryz.prog 37 [.vec (l.map cuC) fl] (· = .tup [.vec (l.map raC) false,.val (.bool true)]):=by
 have hnl:(l.map cuC).length=l.length:=Y0f ..;refine Yp ok37 fun C hC=>?_
 repeat' (first|refine Za (Zy (k:=4) rfl 2 (by decide)) ?_|(first|refine st ?_|(apply B<;>intro hb<;>try cases hb)))
 refine Zv hC (fun i=>i<=l.length) (fun i=>l.length-i) 1 (fun i => [(4,.own 0),(11,.vec (l.map cuC) fl),(12,.val (.int .i64 (l.length:Int))),(13,Yv i)]) (fun i => [(0,⟨2,(l.take i).map raC⟩)]) (Y0l _) 0 (Y0l _) (fun i=>i) (fun _ _=>rfl) Zf
  ⟨Qw 0,Qp (Z1 _),⟨_,by rw [<- hnl]; rfl,.pure _ Yt⟩,Qp Yt,Yt⟩ ⟨Qs Yt,Yt⟩ ?_
 intro i hi;have hinc:IntKind.i64.wrap ((i:Int)+1)=((i+1:Nat):Int):=Y0v _ ⟨by omega,by omega⟩;refine gd 14 ⟨?_⟩;by_cases hil:i<l.length
 . refine Qo (Qy rfl (by omega)) ?_;have hc:=hl _ (Y0j hil);have htk:=ZR hil;have hol:(l.take i).length<=i:=by rw [Y0o]; omega
   refine gd 15 ⟨?_⟩;refine Qo (Zl (xs:=l) (g:=cuC) rfl rfl i rfl hil rfl) ?_;generalize l[i]=c at hc htk;have hc1:c.1 ||| 126=126:=Xc.2 fun j hj=>Xc.1 hc j (by rw [Y00,hj,Y2G])
   have hc2:c.2 ||| 126=126:=Xc.2 fun j hj=>Xc.1 hc j (by rw [Y00,hj,Y39])
   have hsn:(l.take i).map raC ++ [raC c]=(l.take (i+1)).map raC:=by rw [htk]; simp
   refine gd 20 ⟨?_⟩;refine Qe (Z7Z c.1 hc1) ⟨Z2 _,Yt⟩ ?_;refine gd 26 ⟨?_⟩;refine Qe (Z7Z c.2 hc2) ⟨Z2 _,Yt⟩ ?_;refine gd 40 ⟨?_⟩
   refine ZH (Zu (k:=0) (m := [raC c]) (fl:=true) rfl rfl rfl (fun q hq=>by rw [Y0g] at hq; subst hq; rfl) rfl (by
    show (((l.take i).map raC).length+1)*16<=_
    rw [Y0f];omega)) rfl rfl ?_
   simp only;rw [hsn];refine go ?_
   exact⟨i+1,mv 0 2,hil,by omega,fun i hi=>absurd hi (Ye i),Zq rfl,
    ⟨Qw 0,Qp (Z1 _),Qp Yt,⟨_,by show some _=some _; rw [hinc],.pure _ Yt⟩,Yt⟩,⟨Qs (Z3H _),Yt⟩⟩
 . have htk : l.take i = l := YA (by omega);rw [htk];refine Qo (Qz rfl (by omega)) ?_
   repeat' (first|refine Za (Zj (k:=4) (id:=0) (b:=⟨2,l.map raC⟩) rfl rfl (Z3H _)) ?_|(first|refine st ?_|(apply B<;>intro hb<;>try cases hb)))
   exact Z8 rfl ⟨Z3H _,Yt,Yt⟩ rfl
theorem Zd4 {t:PB} (h:Xo t) (p:List Nat) (fl:Bool) (hl:p.length<=1000) (hp:XY t p):X7 Tryz.prog 36 [.agg (pbR t),.vec (inL p) fl] (· = .val (.bool true)):=by
 obtain⟨E,h1,h2⟩:=hp;have hpp:=Z22 t;have hE:=Z9P h p h.st h1;have hr:=Z4h h E (hE.lt h.n.2);rw [h2] at hr;refine Yp ok36 fun C hC=>?_;refine Zm ?_;refine Z9 ?_;refine Z5 rfl rfl rfl ?_;refine gd 10 ⟨?_⟩;refine Qe (Zfg h p fl (by omega) h1) ⟨hpp,Zs p,Yt⟩ ?_;refine gd 16 ⟨?_⟩;refine Qo (Qy rfl (by rw [Z23])) ?_;refine gd 20 ⟨?_⟩;refine Zn rfl ?_;refine Qe hr ⟨hpp,Yt,Yt⟩ ?_;refine go ?_;exact Z8 rfl Yt rfl
theorem ZfJ {t:PB} (h:Xo t) (hn:1<=t.n/\t.n<=5) (l:List Cu) (fl:Bool) (hl:∀ c∈l,Xy c) (hv:X4n t fun S=>soC l S=true):X7 Tryz.prog 38 [.agg (pbR t),.vec (l.map raC) fl] (· = .val (.bool true)):=by
 have hpp:=Z22 t;have hst:=InS.lt h.n.2 h.st;have hrb:=h.rl;have hrl:=Z6S t.rs;have h32:2 ^ t.n<=32:=YJ (n:=2) (by decide) hn.2;have hpc:∀ D,X1S D (pbR t):=fun D=>ZG (fun _ h=>h.elim) _ hpp;have h0:=Z2Q l fl t.st hl hst;rw [show soC l t.st=false from Yy.2 hv.st] at h0;refine Yp ok38 fun C hC=>?_;refine Zm ?_;refine Z9 ?_;refine Z5 rfl rfl rfl ?_;refine gd 12 ⟨?_⟩;refine Qe h0 ⟨Z3H l,Yt,Yt⟩ ?_;refine go ?_;refine Zz hC (fun i=>i<=2 ^ t.n) (fun i=>2 ^ t.n-i) 0 (fun i => [(1,.vec (l.map raC) fl),(2,.cp (pbR t)),(5,.val (.int .u64 ((2*i:Nat):Int)))]) (fun _=>[]) (Y0l _) 0 (Y0l _)
  ⟨⟨rfl,Z3G l _⟩,⟨rfl,hpc _⟩,⟨rfl,Yt⟩,Yt⟩ Yt ?_
 intro i hi;have hinc:IntKind.u64.wrap (((2*i:Nat):Int)+2)=((2*(i+1):Nat):Int):=by rw [show ((2*i:Nat):Int)+2=((2*(i+1):Nat):Int) by omega]; exact Y0x _ ⟨by omega,by omega⟩
 refine gd 16 ⟨?_⟩
 refine Z3w rfl rfl (by omega) (v:=((2*2 ^ t.n:Nat):Int)) (by
  have:t.n=1 \/ t.n=2 \/ t.n=3 \/ t.n=4 \/ t.n=5:=by omega
  rcases this with e|e|e|e|e<;>rw [e]<;>decide) rfl ?_
 by_cases hil:i<2 ^ t.n
 case neg =>
  refine Qo (Qz rfl (by omega)) ?_;refine go ?_;exact Z8 rfl Yt rfl
 refine Qo (Qy rfl (by omega)) ?_;have hS:=Zl0 (t:=t) hil;have hs:=hS.lt h.n.2;refine gd 22 ⟨?_⟩;refine Qe (Z7D h (2*i) hs) ⟨hpp,Yt,Yt⟩ ?_;cases hg:Xq t (2*i)
 case false =>
  refine go ?_;exact⟨i+1,hil,by omega,⟨⟨rfl,Z3G l _⟩,⟨rfl,hpc _⟩,⟨by show some _=some _; rw [hinc],Yt⟩,Yt⟩,Yt⟩
 refine gd 27 ⟨?_⟩;refine Zn rfl ?_;refine Qe (Z2Q l fl (2*i) hl hs) ⟨Z3H l,Yt,Yt⟩ ?_;cases hso:soC l (2*i)
 case true =>
  refine go ?_;exact⟨i+1,hil,by omega,⟨⟨rfl,Z3G l _⟩,⟨rfl,hpc _⟩,⟨by show some _=some _; rw [hinc],Yt⟩,Yt⟩,Yt⟩
 have hnr:Xp t (2*i)=false:=Yy.2 fun hr=>by rw [hv.tg _ hS hg hr] at hso; cases hso
 have hrs:=Z4h h (2*i) hs;rw [hnr] at hrs;refine gd 31 ⟨?_⟩;refine Qe hrs ⟨hpp,Yt,Yt⟩ ?_;refine go ?_;refine Zz hC (fun k=>k<=t.rs.length) (fun k=>t.rs.length-k) 0 (fun k => [(1,.vec (l.map raC) fl),(2,.cp (pbR t)),(5,.val (.int .u64 ((2*i:Nat):Int))),(34,.val (.int .i64 (t.rs.length:Int))),(35,.val (.int .i64 (k:Int)))]) (fun _=>[]) (Y0l _) 0 (Y0l _)
  ⟨⟨rfl,Z3G l _⟩,⟨rfl,hpc _⟩,⟨rfl,Yt⟩,⟨by rw [<- hrl]; rfl,Yt⟩,⟨rfl,Yt⟩,Yt⟩ Yt ?_
 intro k hk;have hkinc:IntKind.i64.wrap ((k:Int)+1)=((k+1:Nat):Int):=Y0v _ ⟨by omega,by omega⟩;refine gd 36 ⟨?_⟩;by_cases hkl:k<t.rs.length
 case neg =>
  refine Qo (Qz rfl (by omega)) ?_;refine go ?_;exact⟨i+1,hil,by omega,⟨⟨rfl,Z3G l _⟩,⟨rfl,hpc _⟩,⟨by show some _=some _; rw [hinc],Yt⟩,Yt⟩,Yt⟩
 refine Qo (Qy rfl (Y1z.2 hkl)) ?_;have hstp:=Z5b h (2*i) hs k hkl;have hmem:=Y0j hkl;generalize t.rs[k]=x at hstp hmem;refine gd 42 ⟨?_⟩;cases hb:XB t x (2*i)
 case false =>
  rw [hb] at hstp;refine Qe hstp ⟨hpp,Yt,Yt,Yt⟩ ?_;refine go ?_;exact⟨k+1,hkl,by omega,⟨⟨rfl,Z3G l _⟩,⟨rfl,hpc _⟩,⟨rfl,Yt⟩,⟨rfl,Yt⟩,⟨by show some _=some _; rw [hkinc],Yt⟩,Yt⟩,Yt⟩
 rw [hb] at hstp;have hnx:=Z1H h hmem hS;have hns:soC l (X9 x (2*i))=false:=Yy.2 fun hr=>by rw [hv.cl _ hS hg x hmem hb hr] at hso; cases hso
 have hsn:=Z2Q l fl (X9 x (2*i)) hl (hnx.lt h.n.2);rw [hns] at hsn;have hstn:X5T t x (2*i) true=.tup [.val (.int .u64 ((X9 x (2*i):Nat):Int)),.val (.bool true)]:=rfl;rw [hstn] at hstp;refine Qe hstp ⟨hpp,Yt,Yt,Yt⟩ ?_;refine gd 49 ⟨?_⟩;refine Zn rfl ?_;refine Qe hsn ⟨Z3H l,Yt,Yt⟩ ?_;refine go ?_;exact⟨k+1,hkl,by omega,⟨⟨rfl,Z3G l _⟩,⟨rfl,hpc _⟩,⟨rfl,Yt⟩,⟨rfl,Yt⟩,⟨by show some _=some _; rw [hkinc],Yt⟩,Yt⟩,Yt⟩
theorem Zei:∀ (l:List Pr) (a:Nat),(l.Pairwise fun p q=>p.1<q.1 \/ p.1=q.1/\p.2<q.2)->(∀ p∈l,a<=p.1*7+p.2/\p.1*7+p.2<49/\p.2<=6)->l.length<=49-a
 | [],a,_,_=>Y0l _
 | p :: l, a, hp, h => by
   have h1:=h p (Y0t ..);rw [Y14] at hp;have:=Zei l (p.1*7+p.2+1) hp.2 fun q hq=>by
    have h2:=hp.1 q hq;have h3:=h q (YB _ hq);refine⟨?_,h3.2⟩;rcases h2 with h2|⟨h2,h4⟩<;>omega
   rw [Y04];omega
theorem Zlx {t:PB} (h:X6V t):PbW t:=by
 have hn:=h.n;have hok:=h.ok;have hst:t.st<=mkN t.n:=by rw [<- hok.st]; exact YN
 have h32:2 ^ t.n<=32:=YJ (n:=2) (by decide) hn.2;have hm:mkN t.n<=62:=by unfold mkN; omega
 have h62:∀ c:Cu,InM 62 c->c.1<256/\c.2<256:=fun c hc=>by
  have h1:c.1<=62:=by rw [<- hc.1]; exact YN
  have h2:c.2<=62:=by rw [<- hc.2]; exact YN
  omega
 refine⟨by omega,by omega,fun r hr=>?_,fun c hc=>h62 c (hok.nv c hc).2,fun c hc=>h62 c (hok.gl c hc).2,fun p hp=>?_,?_,by have:=h.rs; omega,by have:=h.nv; omega,by have:=h.gl; omega⟩
 . have hro := hok.rs r hr;have:=h62 _ hro.m;have:=hro.tg;omega
 . have := hok.lk p hp;omega
 . have := Zei t.l 0 hok.good.asc fun p hp => by
    have:=hok.good.role p hp;have:=hok.lk p hp;omega
   omega
theorem ZfK {e:Env} {h:X2} {n:Nat} {x y:Operand} {a:List Nat} (hx:ev e x=some (.agg (Xi .u8 a))) (hy:ev e y=some (.agg (Xi .u8 a))) (ha:a.length=32):X3 (.bin .neq (.cells (List.replicate 32 0)) x y) e h n=some (.val (.bool false),h):=by
 rw [Zi8 hx hy ha ha];simp
theorem Zbk {t:PB} (h:Xo t) (hn:1<=t.n/\t.n<=5) (hw:PbW t) (S:List Nat) (b:Bool) (p:List Nat) (fp:Bool) (l:List Cu) (fl:Bool) (hs:Snd t b p l):X7 Tryz.prog 10 [.agg (pbP t S),.agg (pbR t),.agg (XI (X1e t) b p fp l fl)] (· = .val (.bool true)):=by
 have hid:=Z2E t;have hpp:=ZC t S;have hpr:=Z22 t;have d32:=Z6Z (b:=b) (p:=p) (fp:=fp) (l:=l) (fl:=fl) hid;have d33:=Z9Y (b:=b) (p:=p) (fp:=fp) (l:=l) (fl:=fl) hid;have d34:=Z9Z (b:=b) (p:=p) (fp:=fp) (l:=l) (fl:=fl) hid;have hlen:(XI (X1e t) b p fp l fl).length=35:=Z26 hid;have hcp:=Z1J (X1e t) b p fp l fl;have htk:(XI (X1e t) b p fp l fl).take 32=Xi .u8 (X1e t):=by
  unfold XI;rw [Y2S,ZI,hid,Y1W,Y1r,Y0p,YA (by rw [ZI,hid]; exact Y0m _)]
 have hpl:p.length<=100:=by
  cases b with
  | true=>exact (hs.plan rfl).2
  | false => rcases hs.form with ⟨hb, _⟩ | ⟨_, rfl⟩
             . cases hb
             . exact Y0l _
 have hll:=hs.len;have hck:=ZcY (X1e t) hid b p fp l fl hs.form (by omega) (by omega) hs.ok64;rw [hs.chk h] at hck;have hpid:=Z3f h hw S;have hable:=hs.able h;generalize XI (X1e t) b p fp l fl=cc at d32 d33 d34 hlen hcp htk hck;generalize X1e t=ii at hid htk hpid;refine Yp ok10 fun C hC=>?_;refine Zm ?_;refine Z9 ?_;refine Z5 rfl rfl rfl ?_;refine Z5 rfl rfl rfl ?_;refine Z5 (Z5a rfl (by rw [hlen]; decide)) rfl rfl ?_;refine gd 10 ⟨?_⟩;refine Qr (Zkk (r:=Xi .u8 ii) rfl (by rw [Y12,hlen]; decide) (by rw [Y12,htk])) ?_;refine gd 12 ⟨?_⟩;refine Qd hpid ⟨hpp,Yt⟩ ?_;refine Qr (ZfK rfl rfl hid) ?_;refine gd 15 ⟨?_⟩;refine Z2d rfl ?_;refine Qr (Zkk (r:=cc) rfl (by rw [hlen]; decide) (YA (by rw [hlen]; exact Y0m _))) ?_;refine Z2d rfl ?_;refine Qd hck ⟨hcp,Yt⟩ ?_;refine gd 21 ⟨?_⟩;refine Z2d rfl ?_;refine Qr (Z4p rfl d32) ?_;refine gd 23 ⟨?_⟩;refine Z2d rfl ?_;refine Z41 rfl rfl (.inl rfl) (Z86 h hn.2) ⟨hpr,Yt⟩ ?_;rintro r ⟨b',hb',rfl⟩;have hbb:b'=b:=by cases b<;>cases b'<;>simp_all
 subst hbb;refine gd 24 ⟨?_⟩;refine Z2d rfl ?_;refine Qr (Z4 (v:=false) rfl (by cases b'<;>rfl)) ?_;refine gd 27 ⟨?_⟩;refine Qo (Z4p rfl d32) ?_;cases b'
 . rcases hs.form with ⟨hb, _⟩ | ⟨_, rfl⟩
   . cases hb
   refine gd 40 ⟨?_⟩;refine Qo (Z4p rfl d34) ?_;refine Qe (Zbj l fl (fun c hc=>(hs.cub c hc).1) (by omega)) ⟨Z1 l,Yt⟩ ?_;refine gd 47 ⟨?_⟩;refine Zn rfl ?_;refine Qo (Z4p rfl d33) ?_;refine gd 54 ⟨?_⟩;refine Zn rfl ?_;refine Qe (ZfJ h hn l false hs.ok64 (hs.inv rfl)) ⟨hpr,Z3H l,Yt⟩ ?_;refine go ?_;exact Z8 rfl Yt rfl
 . rcases hs.form with ⟨_, rfl⟩ | ⟨hb, _⟩
   . refine gd 29 ⟨?_⟩;refine Qo (Z4p rfl d34) ?_;refine gd 35 ⟨?_⟩;refine Zn rfl ?_;refine Qo (Z4p rfl d33) ?_;refine gd 36 ⟨?_⟩;refine Zn rfl ?_;refine Qe (Zd4 h p fp (by omega) (hs.plan rfl).1) ⟨hpr,Zs p,Yt⟩ ?_;refine go ?_;exact Z8 rfl Yt rfl
   . cases hb
end
section
theorem Zly (r:Nat):jun [] r=2 ^ r:=YE fun b=>by
 rw [YQ,Z7n Zb3,YI,Y0n];exact⟨fun h=>h.elim (fun h=>(Zke h).elim) Eq.symm,fun h=>.inr h.symm⟩
def cl0 (s:Nat):Nat:=(mem s).foldl (fun o r=>if 1<=r then o ||| 2 ^ r else o) 0
theorem Z4U:clo []=cl0:=funext fun s=>by
 rw [Zce];simp only [Zly]
 rfl
def sn0 (r:Nat):Nat:=2 ^ r
theorem Zej:sen []=sn0:=funext ZhK
def X5K (t:PB) (s:Nat):Bool := !soC t.nv (cl0 s)
def X5E (t:PB) (r:RU) (s:Nat):Bool:=decide (X9 r s≠s)&&(X5K t (X9 r s)&&(r.rev||hoC r.cu (cl0 s)))
def X3G (t:PB) (s:Nat) (k:Int):Option Nat:=if 0<=k then (match t.rs[k.toNat]? with|some r=>if X5E t r s then some (X9 r s) else none|none=>none) else none
def X3g (t:PB):Nat->List Nat->Nat->Fd
 | s,[],_=>if soC t.gl (cl0 s) then (1,0,0) else (5,0,0)
 | s, k :: p, i => match X3G t s (k : Int) with
   | some o=>X3g t o p (i+1)
   | none=>(4,i,k)
def X7s (t:PB) (l:List Cu) (fl:Bool):Option Nat:=X44 cl0 sn0 t.n (X7J t l fl)
def X7E (t:PB) (l:List Cu) (fl:Bool) (c:Cu) (r:RU):Option Nat:=X44 cl0 sn0 t.n (X8a t l fl c r)
def X5I (t:PB) (l:List Cu) (fl:Bool) (i k:Nat):Bool:=(X7E t l fl (cu0 l i) (ru0 t.rs k)).isSome
def X3S (t:PB) (l:List Cu) (fl:Bool):Fd :=
 match X5h (fun i=>hoC (cu0 l i) t.st) l.length 0 with
 | some i=>(6,i,0)
 | none=>if (X7s t l fl).isSome then (7,0,0) else X6p (X5X (X5I t l fl) t.rs.length l.length 0)
def X82 (t:PB) (b:Bool) (p:List Nat) (l:List Cu) (fl:Bool):Fd :=
 if X1e t=List.replicate 32 0 then (2,0,0) else if X5u p l≠0 then (3,0,0) else if X4M t.n l then
  (if p.any (fun k=>decide (t.rs.length<=k)) then (3,0,0) else if b then X3g t t.st p 0 else X3S t l fl) else (3,0,0)
section
variable {t:PB} (hl:t.l = [])
include hl
theorem Zmr (s:Nat):Xq t s=X5K t s:=by unfold Xq X5K; rw [hl,Z4U]
theorem Zbl (r:RU) (s:Nat):XB t r s=X5E t r s:=by unfold XB X5E; rw [Zmr hl,hl,Z4U]
theorem Zlz (s:Nat) (k:Int):X5l t s k=X3G t s k:=by
 unfold X5l X3G;simp only [Zbl hl]
 all_goals rfl
theorem Zek:∀ (p:List Nat) (s i:Nat),X3f t s p i=X3g t s p i
 | [], s, i => by
   show (if Xp t s then ((1,0,0):Fd) else (5,0,0))=(if soC t.gl (cl0 s) then (1,0,0) else (5,0,0))
   unfold Xp;rw [hl,Z4U]
 | k :: p, s, i => by
   show (match X5l t s (k:Int) with|some o=>X3f t o p (i+1)|none=>((4,i,k):Fd))=(match X3G t s (k:Int) with|some o=>X3g t o p (i+1)|none=>(4,i,k))
   rw [Zlz hl];cases X3G t s (k:Int) with
   | some o=>exact Zek p o (i+1)
   | none=>rfl
theorem ZjR (l:List Cu) (fl:Bool):X3N t l fl=X3S t l fl:=by
 have e1:X7q t l fl=X7s t l fl:=by unfold X7q X7s; rw [hl,Z4U,Zej]
 have e2:X7o t l fl=X5I t l fl:=funext fun i=>funext fun k=>by unfold X7o X5I X7Q X7E; rw [hl,Z4U,Zej]
 unfold X3N X3S;rw [e1,e2]
 all_goals rfl
theorem Zi9 (b:Bool) (p:List Nat) (l:List Cu) (fl:Bool):X5Q t b p l fl=X82 t b p l fl:=by
 unfold X5Q X82;rw [Zek hl,ZjR hl]
end
def tJ (nv:List Cu):PB:=⟨2,[],0,[⟨false,(0,0),1,0⟩,⟨false,(2,0),2,0⟩],nv,[(4,0)]⟩
def t1J:PB:=tJ []
set_option maxRecDepth 100000
theorem v1 (fl:Bool):X5Q t1J true [0,1] [] fl=(1,0,0):=by rw [Zi9 rfl]; cases fl<;>decide +kernel
theorem v2 (fl:Bool):X5Q t1J true [1,0] [] fl=(4,0,1):=by rw [Zi9 rfl]; cases fl<;>decide +kernel
theorem v3 (fl:Bool):X5Q t1J true [0] [] fl=(5,0,0):=by rw [Zi9 rfl]; cases fl<;>decide +kernel
theorem v4 (fl:Bool):X5Q t1J false [] [(4,0)] fl=(8,0,1):=by rw [Zi9 rfl]; cases fl<;>decide +kernel
theorem v5 (fl:Bool):X5Q t1J false [] [(2,0),(4,0)] fl=(8,0,0):=by rw [Zi9 rfl]; cases fl<;>decide +kernel
end
section
open Go.RowKit
attribute [local irreducible] aw Xr dK
def tSf (st:Nat) (rs:List RU):PB:=⟨3,[],st,rs,[],[(8,0)]⟩
def rsA:List RU := [⟨false,(0,0),1,0⟩,⟨false,(2,0),2,0⟩,⟨false,(4,2),3,0⟩,⟨true,(0,0),1,0⟩]
def rsB:List RU := [⟨false,(2,0),2,0⟩]
theorem X65 {c:Cu} (h1:c.1 ||| 14=14) (h2:c.2 ||| 14=14) (h3:emC c=false):InC 3 c/\InM 62 c:=⟨⟨h1,h2,h3⟩,Z4L h1 (by decide),Z4L h2 (by decide)⟩
theorem Zkl {st:Nat} {rs:List RU} (hs:st ||| 14=14) (hl:rs.length<=64) (hr:∀ r∈rs,X42 3 r):Xo (tSf st rs):=by
 refine⟨show 1<=3/\3<=63 by decide,⟨List.Pairwise.nil,fun p hp=>(by cases hp),⟨fun _=>0,fun p hp=>(by cases hp)⟩⟩,fun p hp=>(by cases hp),hs,hl,hr,show 0<=64 by decide,fun c hc=>(by cases hc),show 1<=64 by decide,fun c hc=>?_,rfl⟩;have hc:c∈[((8,0):Cu)]:=hc;rw [Y0g] at hc;subst hc;exact X65 (by decide) (by decide) (by decide)
theorem Zms {st:Nat} {rs:List RU} (hs:st<256) (hl:rs.length<=100) (hr:∀ r∈rs,r.cu.1<256/\r.cu.2<256/\r.tg<=63):PbW (tSf st rs) :=
 ⟨show 3<=63 by decide,hs,hr,fun c hc=>(by cases hc),fun c hc=>(by
  have hc:c∈[((8,0):Cu)]:=hc;rw [Y0g] at hc;subst hc
  exact⟨by decide,by decide⟩),fun p hp=>(by cases hp),show 0<=100 by decide,hl,show 0<=100 by decide,show 1<=100 by decide⟩
def tA:PB:=tSf 0 rsA
def tB:PB:=tSf 2 rsB
theorem Zkm:∀ r∈rsA,X42 3 r/\r.cu.1<256/\r.cu.2<256/\r.tg<=63:=by
 intro r hr;simp only [rsA,YD,Y2T,Y4v] at hr;rcases hr with rfl|rfl|rfl|rfl
 . have := X65 (c := (0, 0)) (by decide) (by decide) (by decide);exact⟨⟨this.1,this.2,show 1<=1/\1<=3/\1<=5 by decide,fun _=>rfl⟩,by decide,by decide,by decide⟩
 . have := X65 (c := (2, 0)) (by decide) (by decide) (by decide);exact⟨⟨this.1,this.2,show 1<=2/\2<=3/\2<=5 by decide,fun h=>by cases h⟩,by decide,by decide,by decide⟩
 . have := X65 (c := (4, 2)) (by decide) (by decide) (by decide);exact⟨⟨this.1,this.2,show 1<=3/\3<=3/\3<=5 by decide,fun h=>by cases h⟩,by decide,by decide,by decide⟩
 . have := X65 (c := (0, 0)) (by decide) (by decide) (by decide);exact⟨⟨this.1,this.2,show 1<=1/\1<=3/\1<=5 by decide,fun _=>rfl⟩,by decide,by decide,by decide⟩
theorem Zkn:∀ r∈rsB,X42 3 r/\r.cu.1<256/\r.cu.2<256/\r.tg<=63:=by
 intro r hr;simp only [rsB,YD,Y2T,Y4v] at hr;subst hr;have:=X65 (c:=(2,0)) (by decide) (by decide) (by decide);exact⟨⟨this.1,this.2,show 1<=2/\2<=3/\2<=5 by decide,fun h=>by cases h⟩,by decide,by decide,by decide⟩
theorem Zd5:Xo tA:=Zkl (by decide) (by decide) fun r hr=>(Zkm r hr).1
theorem Zia:Xo tB:=Zkl (by decide) (by decide) fun r hr=>(Zkn r hr).1
theorem ZmZ:PbW tA:=Zms (by decide) (by decide) fun r hr=>(Zkm r hr).2
theorem Zn0:PbW tB:=Zms (by decide) (by decide) fun r hr=>(Zkn r hr).2
theorem Zd6 {t:PB} (hl:t.l = []) (s:Nat):Xp t s=soC t.gl (cl0 s):=by unfold Xp; rw [hl,Z4U]
theorem ZlA:X1I tA tA.st:=by
 have h:XY tA [0,1,3,2]:=by
  refine⟨12,⟨rsA[0],rfl,?_,rsA[1],rfl,?_,rsA[3],rfl,?_,rsA[2],rfl,?_,?_⟩,?_⟩
  . rw [Zbl rfl]; decide +kernel
  . rw [Zbl rfl]; decide +kernel
  . rw [Zbl rfl]; decide +kernel
  . rw [Zbl rfl]; decide +kernel
  . show (12:Nat)=_; decide +kernel
  . rw [Zd6 rfl]; decide +kernel
 exact h.able Zd5
theorem ZjS:∀ s<16,s.testBit 3=false->soC [((8,0):Cu)] (cl0 s)=false:=by decide +kernel
theorem Zmt:¬ X1I tB tB.st:=by
 rw [able_iff Zia];rintro⟨E,hr,he⟩;have key:∀ {S},Rch tB S->S.testBit 3=false:=fun {S} hr=>by
  induction hr with
  | base=>decide
  | @step S x h hx hs ih =>
    have hx:x∈rsB:=hx;simp only [rsB,YD,Y2T,Y4v] at hx;subst hx;rw [ZQ (by decide) ((h.inS Zia).lt (by decide)),Y8 (by decide)];exact ih
 have hin:=hr.inS Zia;have hE:E<16:=by
  have h1:E ||| mkN 3=mkN 3:=hin
  have:E<=mkN 3:=by rw [<- h1]; exact YN
  have e:mkN 3=14:=by decide
  omega
 rw [Zd6 rfl] at he;have h2:=ZjS E hE (key hr);have he:soC [((8,0):Cu)] (cl0 E)=true:=he;rw [h2] at he;cases he
theorem X8W {st:Nat} {rs:List RU} {R:Nat} (hR:XQ (tSf st rs) R):R.testBit 3=true:=by
 refine Xc.1 (hR.a.gl (8,0) (Y0g.2 rfl)) 3 (Z9O (b:=3) ⟨by decide,by decide⟩ (.inl (by decide)) ?_);show (sen [] 3).testBit 3=true;rw [ZhK]; decide
theorem frA {R:Nat} (hR:XQ tA R):X1i (Xh tA R)=false:=by
 refine Yy.2 fun h=>?_;have:=(ZcZ h).rs ⟨false,(4,2),3,0⟩ (Z2U.2 ⟨by show _∈rsA; simp [rsA],X8W hR⟩);exact absurd this (by decide)
theorem frB {R:Nat} (hR:XQ tB R):X1i (Xh tB R)=true:=by
 unfold X1i;rw [Y0k,Y0k,Y0n,YK,YK];refine⟨rfl,fun x hx=>?_,fun c hc=>?_⟩
 . have hx := (Z2U.1 hx).1;have hx:x∈rsB:=hx;simp only [rsB,YD,Y2T,Y4v] at hx;subst hx; decide
 . have hc : c ∈ [((8, 0) : Cu)] := hc;rw [Y0g] at hc;subst hc; decide
theorem ZmQ {l:List Cu} (hs:Snd tB false [] l):0<l.length:=by
 have h1:=(hs.inv rfl).tg 14 (show 14 ||| mkN 3=mkN 3 by decide) rfl (by rw [Zd6 rfl]; decide +kernel);cases l with
 | nil=>cases h1
 | cons c l=>exact Nat.succ_pos _
theorem Z70 {cc r:List PV} {x:PV} {k:Nat} (h:cc.drop k=x :: r):(cc ++ []).getD k pvu=x:=by
 have:cc[k]?=some x:=by
  have:=congrArg (fun m=>m[0]?) h;simpa [Y1B] using this
 rw [Y0p,Y0b,this]; rfl
def X7B:List (List PV) := [[.val (.bool false),.vec [] true,.vec [] true,.val (.int .i64 1),.val (.int .i64 0)],[.val (.bool false),.vec (X4 (Xb 2)) false,.vec [] true,.val (.int .i64 2),.val (.int .i64 0)],[.val (.bool false),.vec (X4 (Xb 4)) false,.vec (X4 (Xb 2)) false,.val (.int .i64 3),.val (.int .i64 0)],[.val (.bool true),.vec [] true,.vec [] true,.val (.int .i64 1),.val (.int .i64 0)]]
def X7R:List (List PV) := [[.val (.bool false),.vec (X4 (Xb 2)) false,.vec [] true,.val (.int .i64 2),.val (.int .i64 0)]]
def X7f:List (List PV) := [[.vec (X4 (Xb 8)) false,.vec [] true]]
theorem w00:X4 (Xb 0) = []:=by rw [ZL]; rfl
theorem X8T:XE X7B=rsA.map ruP:=by
 show [[PV.val (.bool false),.vec [] false,.vec [] false,.val (.int .i64 1),.val (.int .i64 0)],[.val (.bool false),.vec (XE (X4 (Xb 2))) false,.vec [] false,.val (.int .i64 2),.val (.int .i64 0)],[.val (.bool false),.vec (XE (X4 (Xb 4))) false,.vec (XE (X4 (Xb 2))) false,.val (.int .i64 3),.val (.int .i64 0)],[.val (.bool true),.vec [] false,.vec [] false,.val (.int .i64 1),.val (.int .i64 0)]] =
  [[PV.val (.bool false),.vec (X4 (Xb 0)) false,.vec (X4 (Xb 0)) false,.val (.int .i64 1),.val (.int .i64 0)],[.val (.bool false),.vec (X4 (Xb 2)) false,.vec (X4 (Xb 0)) false,.val (.int .i64 2),.val (.int .i64 0)],[.val (.bool false),.vec (X4 (Xb 4)) false,.vec (X4 (Xb 2)) false,.val (.int .i64 3),.val (.int .i64 0)],[.val (.bool true),.vec (X4 (Xb 0)) false,.vec (X4 (Xb 0)) false,.val (.int .i64 1),.val (.int .i64 0)]]
 rw [Z1B,Z1B,w00]
theorem X8E:XE X7R=rsB.map ruP:=by
 show [[PV.val (.bool false),.vec (XE (X4 (Xb 2))) false,.vec [] false,.val (.int .i64 2),.val (.int .i64 0)]] = [[PV.val (.bool false),.vec (X4 (Xb 2)) false,.vec (X4 (Xb 0)) false,.val (.int .i64 2),.val (.int .i64 0)]];rw [Z1B,w00]
theorem X81:XE X7f = [((8,0):Cu)].map cuC:=by
 show [[PV.vec (XE (X4 (Xb 8))) false,.vec [] false]] = [[PV.vec (X4 (Xb 8)) false,.vec (X4 (Xb 0)) false]];rw [Z1B,w00]
theorem Za3 {ρ:Nat->Nat} {D:Nat->Prop} {r m:List (List PV)} {fl:Bool} (h:XE r=m) (hm:X1 m):X1J ρ D (.vec r fl) (.vec m false):=by
 have:=X1J.low (ρ:=ρ) (D:=D) (.vec r fl) (by show X1 (XE r); rw [h]; exact hm);have e:PV.low (.vec r fl)=.vec m false:=by show PV.vec (XE r) false=_; rw [h]
 rwa [e] at this
theorem ZlB {ρ:Nat->Nat} {D:Nat->Prop}:X1J ρ D (.vec [] true) (.vec (X4 (Xb 0)) false):=by rw [w00]; exact .low (.vec [] true) Yt
theorem Zbm:X7 Tryz.prog 4 [] (· = .val (.bool true)):=by
 refine Yp ok4 fun C hC=>?_;refine gd 12 ⟨?_⟩;refine Zw rfl rfl Z4g Yt rfl ?_;rintro r ⟨S1,rfl⟩;refine gd 14 ⟨?_⟩;refine Qe (Z6h [3] 8 (by decide +kernel) true) ⟨ZJ _,Yt⟩ ?_;refine gd 19 ⟨?_⟩;refine Qe (Z6h [1] 2 (by decide +kernel) true) ⟨ZJ _,Yt⟩ ?_;refine gd 23 ⟨?_⟩;refine Qe (Z6h [2] 4 (by decide +kernel) true) ⟨ZJ _,Yt⟩ ?_;refine gd 25 ⟨?_⟩;refine Qe (Z6h [1] 2 (by decide +kernel) true) ⟨ZJ _,Yt⟩ ?_;refine gd 31 ⟨?_⟩;refine Z41 rfl rfl (.inl rfl) Z4g Yt ?_;rintro r ⟨S2,rfl⟩;refine gd 33 ⟨?_⟩;refine Qd (Z6h [1] 2 (by decide +kernel) true) ⟨ZJ _,Yt⟩ ?_;refine gd 37 ⟨?_⟩;refine Qd (Z6h [1] 2 (by decide +kernel) true) ⟨ZJ _,Yt⟩ ?_
 iterate 7 (first|refine st ?_|(apply B<;>intro hb<;>try cases hb))
 have hA:=ZC tA S1;have hB:=ZC tB S2
 refine Z1U (Z30 (X3r.mem (ρ:=fun i=>i) (m:=14) (L := [(1,.ptr 0 0 0),(2,.ptr 12 0 0)]) ⟨Qt 0 0 0,Qt 12 0 0,Yt⟩)
  (X1o.mem (ρ := fun i => i) (m := 14) (L := [(0, ⟨6, [pbP tA S1]⟩), (12, ⟨6, [pbP tB S2]⟩)]) ⟨⟨by decide, ⟨6, [[.val (.int .i64 3), X16 [] S1, .vec [] true, .vec X7B true, .vec [] true, .vec X7f true]]⟩, rfl,
    Xw.single (l:=pbP tA S1) ⟨.pure _ Yt,.pure _ (Zo _ _),ZlB,Za3 X8T (ZE rsA),.low (.vec [] true) Yt,Za3 X81 (Z1 _),Yt⟩ rfl⟩,⟨by decide,⟨6,[[.val (.int .i64 3),X16 [] S2,.vec (X4 (Xb 2)) false,.vec X7R true,.vec [] true,.vec X7f true]]⟩,rfl,
    Xw.single (l:=pbP tB S2) ⟨.pure _ Yt,.pure _ (Zo _ _),.pure _ (Z7 _),Za3 X8E (ZE rsB),.low (.vec [] true) Yt,Za3 X81 (Z1 _),Yt⟩ rfl⟩,Yt⟩) hC (by decide)) ?_
 refine gd 44 ⟨?_⟩;refine Zw rfl rfl (Z5S Zd5 (by decide) ZmZ S1 2000 (by decide)) ⟨hA,Yt,Yt⟩ rfl ?_;intro r hr;obtain⟨m,R,b,p,fp,l,fl,hR,hm,hs⟩:=hr;obtain rfl:b=true:=(hs.able Zd5).2 ZlA;rw [frA hR] at hm;obtain rfl:m=2:=hm;obtain⟨⟨E,hrun,hre⟩,hpl⟩:=hs.plan rfl;have hid:=Z2E tA;have hc1:(XI (X1e tA) true p fp l fl).length=35:=Z26 hid;have d32:=Z70 (Z6Z (b:=true) (p:=p) (fp:=fp) (l:=l) (fl:=fl) hid);have d33:=Z70 (Z9Y (b:=true) (p:=p) (fp:=fp) (l:=l) (fl:=fl) hid);generalize XI (X1e tA) true p fp l fl=ca at hc1 d32 d33;have hca:(ca ++ []).length=35:=by rw [Y0p]; exact hc1
 iterate 5 (first|refine st ?_|(apply B<;>intro hb<;>try cases hb))
 refine Qo (Z5d rfl rfl rfl hc1 rfl) ?_;refine gd 50 ⟨?_⟩;refine Zw rfl rfl (Z5S Zia (by decide) Zn0 S2 2000 (by decide)) ⟨hB,Yt,Yt⟩ rfl ?_;intro r hr;obtain⟨m,R2,b,q,fq,l2,fl2,hR2,hm,hs2⟩:=hr;obtain rfl:b=false:=Yy.2 fun hb=>Zmt ((hs2.able Zia).1 hb);rw [frB hR2] at hm;obtain rfl:m=1:=hm;have hq:q = []:=by
  rcases hs2.form with⟨hb,_⟩|⟨_,hq⟩
  . cases hb
  . exact hq
 subst hq;have hne:=ZmQ hs2;have hid2:=Z2E tB;have hc2:(XI (X1e tB) false [] fq l2 fl2).length=35:=Z26 hid2;have e32:=Z70 (Z6Z (b:=false) (p := []) (fp:=fq) (l:=l2) (fl:=fl2) hid2);have e34:=Z70 (Z9Z (b:=false) (p := []) (fp:=fq) (l:=l2) (fl:=fl2) hid2);generalize XI (X1e tB) false [] fq l2 fl2=cb at hc2 e32 e34;have hcb:(cb ++ []).length=35:=by rw [Y0p]; exact hc2
 iterate 5 (first|refine st ?_|(apply B<;>intro hb<;>try cases hb))
 refine Qo (Z5d rfl rfl rfl hc2 rfl) ?_;refine gd 57 ⟨?_⟩;refine Qo (Z87 (l:=ca ++ []) (off:=33) (v:=.vec (inL p) fp) rfl rfl (by omega) d33) ?_;refine Qe (Zhm Zd5 S1 p fp (by omega) hrun) ⟨hA,Zs p,Yt⟩ ?_;refine gd 66 ⟨?_⟩;refine Zn rfl ?_;refine Qo (Z87 (l:=ca ++ []) (off:=32) (v:=.val (.bool true)) rfl rfl (by omega) d32) ?_;have hE:=Z9P Zd5 p Zd5.st hrun;have hrS:=Z58 Zd5 S1 E (InS.lt (by decide) hE);rw [hre] at hrS;refine gd 78 ⟨?_⟩;refine Zn rfl ?_;refine Qe hrS ⟨hA,Z2 _,Yt⟩ ?_;refine gd 86 ⟨?_⟩;refine Zn rfl ?_;refine Qo (Z87 (l:=cb ++ []) (off:=32) (v:=.val (.bool false)) rfl rfl (by omega) e32) ?_;refine gd 95 ⟨?_⟩;refine Zn rfl ?_;refine Qo (Z87 (l:=cb ++ []) (off:=34) (v:=.vec (l2.map cuC) fl2) rfl rfl (by omega) e34) ?_;have hnl:(l2.map cuC).length=l2.length:=Y0f ..;refine gd 97 ⟨?_⟩;refine Zn rfl ?_;refine Qo (Qy rfl (by rw [hnl];omega)) ?_;refine go ?_;exact Z8 rfl Yt rfl
theorem Zib (f1 f2:Bool) (g:Nat) (caps:List PV) (hc:X5 caps):X7 Tryz.prog 31 [.vec [] f1,.vec [] f2,.fn g caps] (· = .val (.bool true)):=by
 refine Yp ok31 fun C hC=>?_;refine go ?_;refine Z1i 0 ?_;unfold X1N;refine go ?_;exact Z8 rfl Yt rfl
theorem Zic (f1 f2:Bool):X7 Tryz.prog 30 [.vec [] f1,.vec [] f2] (· = .val (.bool true)):=by
 refine Yp ok30 fun C hC=>?_;refine go ?_;refine Z1i 0 ?_;unfold X1N;refine go ?_;exact Z8 rfl Yt rfl
theorem Z80:X7 Tryz.prog 9 [.agg X2X,.agg X2X] (· = .val (.bool true)):=by
 refine Yp ok9 fun C hC=>?_;refine Zm ?_;refine Z9 ?_;refine Z5 rfl rfl rfl ?_;refine Z5 rfl rfl rfl ?_;refine gd 9 ⟨?_⟩;refine Qo (Zi7 (a:=List.replicate 32 0) (b:=List.replicate 32 0) (by kernel_rfl) (by kernel_rfl) rfl rfl) ?_;refine gd 22 ⟨?_⟩;refine Zn rfl ?_;refine Qe (Zic true true) ⟨Yt,Yt,Yt⟩ ?_;refine gd 29 ⟨?_⟩;refine Zn rfl ?_;refine Qe (Zib true true _ [] Yt) ⟨Yt,Yt,Yt,Yt⟩ ?_;refine go ?_;exact Z8 rfl Yt rfl
def m8 (x:Nat):List PV := [.val (.int .u8 (x:Int))]
theorem Z6k (p:List Nat) (lim:Nat) (fl:Bool) (hp:X4K p) (hlim:lim<256):X7 Tryz.prog 3 [.vec (bys p) fl,.val (.int .u8 (lim:Int))] (· = .val (.bool true)):=by
 refine Yp ok3 fun C hC=>?_;refine gd 17 ⟨?_⟩;refine Qe Zbm Yt ?_;refine gd 21 ⟨?_⟩;refine Zw rfl rfl (Zf7 p fl hp) ⟨Zg p,Yt⟩ rfl ?_;rintro r ⟨t,S,hmk,rfl⟩;have h:=hmk.ok;have hn:=hmk.n;have hw:=Zlx hmk;have hpp:=ZC t S;have hpr:=Z22 t;have hid:=Z2E t;refine gd 29 ⟨?_⟩;refine Zw rfl rfl (Z6y h hn.2 S) ⟨hpp,Yt⟩ rfl ?_;rintro r ⟨R,hR,rfl⟩;have hpo:=Z3d h hR.a.ok;have hpq:=ZC (Xh t R) S;have hfs:=Z2F hpo S;generalize hfb:X1i (Xh t R)=fb at hfs;have hcv:IntKind.i64.wrap (lim:Int)=(lim:Int):=Y0v _ ⟨by omega,by omega⟩;have hcw:IntKind.i64.wrap (1+(lim:Int))=((lim+1:Nat):Int):=by rw [Y0v _ ⟨by omega,by omega⟩]; omega
 refine gd 36 ⟨?_⟩;refine Ze rfl rfl rfl hcv ?_;refine Ze rfl rfl rfl hcw ?_;refine go ?_;refine Zv hC (fun i=>i<=3) (fun i=>3-i) 3 (fun i => [(5,.ptr 0 0 0),(6,.ptr 1 0 0),(8,.ptr 2 0 0),(11,.val (.int .i64 ((lim+1:Nat):Int))),(38,.vec ([1,2,3].map m8) true),(39,.val (.int .i64 3)),(40,Yv i)]) (fun i => [(0,⟨6,[pbP t S]⟩),(1,⟨6,[pbR t]⟩),(2,⟨6,[pbP (Xh t R) S]⟩)]) (by decide) 0 (Y0l _) (fun i=>i) (fun _ _=>rfl) Zf
  ⟨Qt 0 0 0,Qt 1 0 0,Qt 2 0 0,Qp Yt,Qp ⟨⟨Yt,Yt⟩,⟨Yt,Yt⟩,⟨Yt,Yt⟩,Yt⟩,Qp Yt,Qp Yt,Yt⟩
  ⟨Qs ⟨hpp,Yt⟩,Qs ⟨hpr,Yt⟩,Qs ⟨hpq,Yt⟩,Yt⟩ ?_
 intro i hi;have hinc:IntKind.i64.wrap ((i:Int)+1)=((i+1:Nat):Int):=Y0v _ ⟨by omega,by omega⟩;have next:∀ (n1:Nat) (e1:Env) (h1:X2),i<3->e1 5=some (.ptr 0 0 0)->e1 6=some (.ptr 1 0 0)->e1 8=some (.ptr 2 0 0)->e1 11=some (.val (.int .i64 ((lim+1:Nat):Int)))->e1 38=some (.vec ([1,2,3].map m8) true)->e1 39=some (.val (.int .i64 3))->e1 40=some (.val (.int .i64 ((i+1:Nat):Int)))->h1 0=some ⟨6,[pbP t S]⟩->h1 1=some ⟨6,[pbR t]⟩->h1 2=some ⟨6,[pbP (Xh t R) S]⟩ ->
  ∃ (x':Nat) (ρ:Nat->Nat),x'<=3/\3-x'<3-i/\(∀ i,i<0->ρ i=i)/\X3Q ρ [(0,⟨6,[pbP t S]⟩),(1,⟨6,[pbR t]⟩),(2,⟨6,[pbP (Xh t R) S]⟩)]/\X3r ρ e1 3 [(5,.ptr 0 0 0),(6,.ptr 1 0 0),(8,.ptr 2 0 0),(11,.val (.int .i64 ((lim+1:Nat):Int))),(38,.vec ([1,2,3].map m8) true),(39,.val (.int .i64 3)),(40,.val (.int .i64 (x':Int)))]/\X1o ρ h1 3 [(0,⟨6,[pbP t S]⟩),(1,⟨6,[pbR t]⟩),(2,⟨6,[pbP (Xh t R) S]⟩)] :=
  fun n1 e1 h1 hi3 a5 a6 a8 a11 a38 a39 a40 b0 b1 b2=>⟨i+1,fun j=>j,hi3,by omega,fun i hi=>absurd hi (Ye i),Zf,⟨⟨_,a5,.ptr (ρ:=fun j=>j) 0 0 0 (by decide)⟩,⟨_,a6,.ptr (ρ:=fun j=>j) 1 0 0 (by decide)⟩,⟨_,a8,.ptr (ρ:=fun j=>j) 2 0 0 (by decide)⟩,⟨_,a11,.pure _ Yt⟩,⟨_,a38,.pure _ ⟨⟨Yt,Yt⟩,⟨Yt,Yt⟩,⟨Yt,Yt⟩,Yt⟩⟩,⟨_,a39,.pure _ Yt⟩,⟨_,a40,.pure _ Yt⟩,Yt⟩,
   ⟨⟨by decide,_,b0,.same _ ⟨hpp,Yt⟩⟩,⟨by decide,_,b1,.same _ ⟨hpr,Yt⟩⟩,⟨by decide,_,b2,.same _ ⟨hpq,Yt⟩⟩,Yt⟩⟩
 refine gd 41 ⟨?_⟩;by_cases hil:i<3
 . refine Qo (Qy rfl (by omega)) ?_;refine gd 42 ⟨?_⟩;have hml:i<([1,2,3]:List Nat).length:=hil;refine Qo (Zl (xs := [1,2,3]) (g:=m8) rfl rfl i rfl hml rfl) ?_;have hm:([1,2,3]:List Nat)[i]=i+1:=by
    have:i=0 \/ i=1 \/ i=2:=by omega
    rcases this with rfl|rfl|rfl<;>rfl
   rw [hm];have hwi:=Zd3 h hn.2 hw S ((lim+1:Nat):Int) (i+1) ⟨by omega,by omega⟩ (by omega);generalize hmm:i+1=m at hwi ⊢;refine gd 48 ⟨?_⟩;refine Zw rfl rfl hwi ⟨hpp,Yt,Yt,Yt⟩ rfl ?_;rintro r ⟨R2,cc,e,hR2,hwr,rfl⟩;obtain rfl:R2=R:=hR2.uniq hR;obtain⟨hc1,hcp⟩:=hwr.cell;have hcl:(cc ++ []).length=35:=by rw [Y0p]; exact hc1
   have htk:((cc ++ []).drop 0).take 35=cc:=by rw [Y0p,Y12,YA (by omega)]
   subst hmm
   iterate 4 (first|refine st ?_|(apply B<;>intro hb<;>try cases hb))
   refine Qo (Z5d (l:=X2X) rfl rfl rfl hc1 rfl) ?_;rcases hwr with⟨rfl,hfr,b,q,fq,l,fl2,hs,hcc⟩|⟨he,hfr,hcc⟩
   . have hso := Zbk h ⟨by omega, hn.2⟩ hw S b q fq l fl2 hs;rw [<- hcc] at hso;refine gd 74 ⟨?_⟩;refine Qo (Z4V (l:=cc ++ []) (r:=cc) rfl rfl (by omega) htk) ?_;refine Qe hso ⟨hpp,hpr,hcp,Yt⟩ ?_;refine gd 79 ⟨?_⟩;refine Zn rfl ?_;by_cases hm1:i+1=1
     . refine Qo (Z4 (v := true) rfl (by simp; omega)) ?_;have hft:=hfr hm1;rw [hfb] at hft;rw [hft] at hfs;refine gd 82 ⟨?_⟩;refine Zn rfl ?_;refine Qe hfs ⟨hpq,Yt⟩ ?_;refine go ?_;exact next 0 _ _ hil rfl rfl rfl rfl rfl rfl (by show some _=some _; rw [hinc]) rfl rfl rfl
     . refine Qo (Z4 (v := false) rfl (by simp; omega)) ?_;refine go ?_;exact next 0 _ _ hil rfl rfl rfl rfl rfl rfl (by show some _=some _; rw [hinc]) rfl rfl rfl
   . subst hcc;by_cases hm1:i+1=1
     . rw [Y6 hm1] at he;subst he;have hft:=hfr hm1;rw [hfb] at hft;rw [hft] at hfs;refine gd 54 ⟨?_⟩;refine Qo (Z4 (v:=true) rfl (by simp;omega)) ?_;refine gd 60 ⟨?_⟩;refine Zn rfl ?_;refine Qo (Z4 (v:=true) rfl (by simp;omega)) ?_;refine gd 63 ⟨?_⟩;refine Zn rfl ?_;refine Qe hfs ⟨hpq,Yt⟩ ?_;refine gd 67 ⟨?_⟩;refine Zn rfl ?_;refine Qo (Z4V (l:=X2X ++ []) (r:=X2X) rfl rfl (by omega) htk) ?_;refine gd 69 ⟨?_⟩;refine Zn rfl ?_;refine Z6 Z80 rfl rfl (by kernel_rfl) ⟨Z1N,Z1N,Yt⟩ rfl ?_;refine go ?_;exact next 0 _ _ hil rfl rfl rfl rfl rfl rfl (by show some _=some _; rw [hinc]) rfl rfl rfl
     . rw [Y8 hm1] at he;subst he;refine gd 54 ⟨?_⟩;refine Qo (Z4 (v:=false) rfl (by simp;omega)) ?_;refine gd 60 ⟨?_⟩;refine Zn rfl ?_;refine Qo (Z4 (v:=false) rfl (by simp;omega)) ?_;refine gd 67 ⟨?_⟩;refine Zn rfl ?_;refine Qo (Z4V (l:=X2X ++ []) (r:=X2X) rfl rfl (by omega) htk) ?_;refine gd 69 ⟨?_⟩;refine Zn rfl ?_;refine Z6 Z80 rfl rfl (by kernel_rfl) ⟨Z1N,Z1N,Yt⟩ rfl ?_;refine go ?_;exact next 0 _ _ hil rfl rfl rfl rfl rfl rfl (by show some _=some _; rw [hinc]) rfl rfl rfl
 . have hi3 : i = 3 := by omega
   subst hi3;refine Qo (Qz rfl (by omega)) ?_;refine go ?_;exact Z8 rfl Yt rfl
end
section
open Go.ChangeShapes Go.WideShapes Go.ChangeAt Go.RowKit
theorem Zel {α:Type} {enc:α->List PV} {Q:α->Prop}:∀ {ll:List (List PV)},(∀ l∈ll,∃ x,Q x/\l=enc x)->∃ xs:List α,(∀ x∈xs,Q x)/\ll=xs.map enc
 | [],_=>⟨[],fun _ h=>(by cases h),rfl⟩
 | l :: ll, h => by
   obtain⟨x,h1,rfl⟩:=h l (Y0t ..);obtain⟨xs,h2,rfl⟩:=Zel fun l hl=>h l (YB _ hl);refine⟨x :: xs,fun y hy=>?_,rfl⟩;rcases YD.1 hy with rfl|hy
   . exact h1
   . exact h2 y hy
theorem Zd8 {P:Program} {s t:TypeId}:∀ {ps:List PV},X2M P [s,t] ps->∃ a b,ps = [a,b]/\X2t P s a/\X2t P t b
 | [a,b],⟨h1,h2,_⟩=>⟨a,b,rfl,h1,h2⟩
theorem Zko {m:Int} (h:(Lit.int .u8 m).wf=true):∃ a:Nat,a<256/\m=(a:Int):=by
 simp only [Lit.wf,Y0k,Y0n] at h;obtain⟨h1,h2⟩:=h;have h3:m<=255:=h2;have h4:0<=m:=h1;exact⟨m.toNat,by omega,by omega⟩
theorem ZjT {n:Nat} {l:List PV} (h:XR Tryz.prog n 5 l):∃ x:Nat,x<=255/\l = [PV.val (.int .u8 (x:Int))]:=by
 obtain⟨m1,w1,e1⟩:=Zbo h (k:=.u8) (by kernel_rfl);obtain⟨x,hx,rfl⟩:=Zko w1;exact⟨x,by omega,e1⟩
theorem Zd9 {p:PV} (h:X2t Tryz.prog 22 p):∃ (l:List Nat) (fl:Bool),X4K l/\p=.vec (bys l) fl:=by
 obtain⟨n,ll,fl,_,h2,rfl⟩:=Zbp h (e:=5) (by kernel_rfl);obtain⟨xs,h3,rfl⟩:=Zel (enc:=fun (x:Nat) => [PV.val (.int .u8 (x:Int))]) (Q:=fun (x:Nat)=>x<=255) fun l hl=>ZjT (h2 l hl);exact⟨xs,fl,h3,rfl⟩
theorem Zid {p:PV} (h:X2t Tryz.prog 5 p):∃ s:Nat,s<256/\p=.val (.int .u8 (s:Int)):=by
 obtain⟨m,w,rfl⟩:=ZfL h (k:=.u8) (by kernel_rfl);obtain⟨x,hx,rfl⟩:=Zko w;exact⟨x,hx,rfl⟩
theorem Z5T:∀ ps,X2M Tryz.prog Tryz.f3.params.toList ps->X5 ps->X7 Tryz.prog 3 ps (· = .val (.bool true)):=by
 intro ps hs hp;rw [show Tryz.f3.params.toList = [22,5] by kernel_rfl] at hs;obtain⟨a,b,rfl,k0,k1⟩:=Zd8 hs;obtain⟨x0,f0,h0,rfl⟩:=Zd9 k0;obtain⟨x1,h1,rfl⟩:=Zid k1;exact Z6k x0 x1 f0 h0 h1
theorem Z4W (os:Os) (started:os.Started) (H:Type) (enc:TypeId×Value->H) :
 ReturnsInHanded {} Tryz.checked os 3 .any (fun w args=>(Rows.safetyMethodsSpec.pre enc Tryz.prog Tryz.f3 [] false w args/\laidMetH Tryz.prog X3H w)/\sizedMet enc Tryz.prog Tryz.f3 (OpenSpec.ofChange Rows.safetyMethodsSpec) false w args)
  (Rows.safetyMethodsSpec.post enc Tryz.prog Tryz.f3 false true false false):=by
 refine returnsInHanded_of_change_and (C:=Tryz.checked) (X:=fun w _=>laidMetH Tryz.prog X3H w) (fun _ _ _ hh h=>h.of_heap hh) own started (by kernel_rfl) Tryz.func3
  (ChangeSpec.witness_shaped (enc:=enc) (C:=Tryz.checked) (os:=os) (X:=fun w _=>laidMetH Tryz.prog X3H w) false (World.doorLaid Tryz.prog 400 os) #[.slice none 0 0,.int .u8 0] 8 rfl (World.shaped_of_RefB (by kernel_rfl) (by kernel_rfl)) (by kernel_rfl) (by kernel_rfl) (by kernel_rfl) (Ziw os _)) ?_
 intro W base args ds gs before hval hW _ hwt hL _
 exact Zak (P:=Tryz.prog) (G:=X6B Tryz.prog Tryz.f3.params.toList) (by kernel_rfl) (ZlJ (by kernel_rfl)) X5C (Zgg (by kernel_rfl)) (tb:=4) (by kernel_rfl) (by kernel_rfl) rfl (fun ds hd=>by
  match ds,hd with
  | [a,b],_=>exact⟨rfl,rfl,rfl⟩) Z5T W (Ziy hL) base args ds gs before hval hW hwt
theorem Z5e:Rows.SafetyMethodsSaid :=
 OpenClaim.holds_of_wide 3 Tryz.f3 rfl rfl rfl rfl rfl rfl rfl ⟨rfl,rfl,rfl,rfl,rfl⟩ rfl rfl rfl rfl rfl (by kernel_rfl) Tryz.func3 (by kernel_rfl)
  (Y0u (by kernel_rfl)) (by unfold Func.isWrapper; first|(rw [Y6 (by decide +kernel)]; kernel_rfl)|(rw [Y8 (by decide +kernel)]; exact⟨rfl,rfl⟩))
  (fun os started H enc _=>Z4W os started H enc)
theorem safetyMethods_card:Rows.SafetyMethodsCardSaid :=
 Claim7.holds_tied_plain_at .later [] [.data,.data,.data] true (true, "3088316f71852518db33349027f7c82f1e80c83f62cef4e305d71ba967af0e80") false
  Z5e (fun _ h=>by cases h) (by kernel_rfl) (fun _ h=>by cases h) safetyMethods_row_tie rfl ⟨rfl,rfl⟩ (by kernel_rfl) rfl
  (fun f fn hf hfn => by
    obtain rfl : f = 3 := Y13 ((show Tryz.prog.funcNamed "arbac/arbaclaw37.SafetyMethods" = some 3 by kernel_rfl).symm.trans hf) |>.symm
    obtain rfl:fn=Tryz.f3:=(Y13 (Tryz.func3.symm.trans hfn)).symm
    exact⟨by kernel_rfl,fun j t ht=>by
     rw [show Tryz.f3.params = #[22,5] by kernel_rfl] at ht;have hm:t∈[22,5]:=by simpa using Array.mem_of_getElem? ht
     have hall:([22,5].all fun u => !Tryz.prog.wantsStandIn u)=true:=by kernel_rfl
     exact (show Tryz.prog.wantsStandIn t=false by simpa using YK.1 hall t hm)⟩)
  (by kernel_rfl)
#print axioms safetyMethods_card
end
end Go.Proofs.YtoolafpiaobphaaGreatDoor
