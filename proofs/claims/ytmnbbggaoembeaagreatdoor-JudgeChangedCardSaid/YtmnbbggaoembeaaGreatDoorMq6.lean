/-
 Proved: for every input the law JudgeChanged returns true,never panics,and leaves its arguments as0 they were,on the given card's conditions (the table of the bits package reads as0 the program's text lays it,and is tied to it).
-/
import Derived.Laws.BitsAllLaws
import Derived.SevenTiedAt
import Derived.Test.YtmnbbggaoembeaaGreatDoorCards
import Derived.Test.YtmnbbggaoembeaaGreatDoorTie
import Derived.Test.YtmnbbggaoembeaaGreatDoorMq5
set_option linter.unusedSimpArgs false
set_option linter.unusedVariables false
set_option linter.unusedSectionVars false
set_option maxRecDepth 100000
set_option maxHeartbeats 16000000
namespace Go.Proofs.YtmnbbggaoembeaaGreatDoor
section
open Go.RowKit
attribute [local irreducible] aw opsK dK
def minT (cl:Nat->Nat) (ds:List ND) (lo hi:Nat):Nat:=ds.foldl (fun a d=>min a (valT cl d lo hi)) 2
theorem Zg2 {cl:Nat->Nat} {ds:List ND} {i:Nat} (hi:i<ds.length) (lo hh:Nat):minT cl (ds.take (i+1)) lo hh=min (minT cl (ds.take i) lo hh) (valT cl ds[i] lo hh):=by
 unfold minT;rw [List.take_succ_eq_append_getElem hi,List.foldl_append]
 rfl
theorem Z5L (cl:Nat->Nat) (lo hi:Nat):∀ (ds:List ND) (a:Nat),a<=2->ds.foldl (fun a d=>min a (valT cl d lo hi)) a<=2
 | [],a,h=>h
 | d :: ds,a,h=>Z5L cl lo hi ds _ (Y03 (Nat.min_le_left ..) h)
theorem Zj7 (cl:Nat->Nat) (ds:List ND) (lo hi:Nat):minT cl ds lo hi<=2:=Z5L cl lo hi ds 2 (Y0m _)
def tryT (cl:Nat->Nat) (ds:List ND):Nat->Nat->Nat->Option Nat
 | 0,_,_=>none
 | f + 1, left, s =>
   if minT cl ds s (s ||| left)=2 then some s else if minT cl ds s (s ||| left)=0 then none else if left=0 then none else
    match tryT cl ds f (minusN left (2 ^ leastN left)) s with
    | some o=>some o
    | none=>tryT cl ds f (minusN left (2 ^ leastN left)) (s ||| 2 ^ leastN left)
def resO:Option Nat->PV
 | some o=>.tup [setN o,.val (.bool true)]
 | none=>.tup [setN 0,.val (.bool false)]
theorem Z3s:PV.tup [.agg [.vec [] false],.val (.bool false)]=resO none:=by
 show _=PV.tup [setN 0,.val (.bool false)];rw [ZfK]
def SetQ (q:PV) (s:Nat):Prop:=q=setN s \/ (s=0/\q=.agg [.vec [] true])
theorem SetQ.ren {q:PV} {s:Nat} (h:SetQ q s):RenP (fun i=>i) (fun _=>False) q (setN s):=by
 rcases h with rfl|⟨rfl,rfl⟩
 . exact .pure _ (Z1 _)
 . rw [ZfK]; exact .low (.agg [.vec [] true]) ⟨Yt,Yt⟩
def TryOk (t:PB) (S:List Nat) (ds:List ND) (fl:Bool) (f:Nat):Prop:=∀ (left s:Nat) (q:PV),SetQ q s->left<18446744073709551616->s<18446744073709551616->(∀ i,left.testBit i=true->64<=i+f)->Spec Tryz.prog 159 [.agg (pbP t S),.vec (ds.map ndP) fl,setN left,q] (· = resO (tryT (clo t.l) ds (f+1) left s))
theorem ZcV (t:PB) (S:List Nat) (ds:List ND) (fl:Bool) (hds:∀ d∈ds,NdOk d) (hdl:ds.length<900000) (f:Nat) (ih:∀ f',f=f'+1->TryOk t S ds fl f'):TryOk t S ds fl f:=by
 intro left s q hq hl hs hf;have hT:tryT (clo t.l) ds (f+1) left s=if minT (clo t.l) ds s (s ||| left)=2 then some s else if minT (clo t.l) ds s (s ||| left)=0 then none else if left=0 then none else
  match tryT (clo t.l) ds f (minusN left (2 ^ leastN left)) s with
  | some o=>some o
  | none=>tryT (clo t.l) ds f (minusN left (2 ^ leastN left)) (s ||| 2 ^ leastN left):=rfl
 have hpp:=ZL t S;have hdp:pureLL (ds.map ndP):=Z9 Z2s ds;have hml:(ds.map ndP).length=ds.length:=Y0f ..;have hpi:∀ D,innL D (pbP t S):=fun D=>Zv (fun _ h=>h.elim) _ hpp;have hdi:∀ D,innLL D (ds.map ndP):=fun D=>Zb (fun _ h=>h.elim) _ hdp;have hor:=Z2C hs hl;have hmin:=Zj7 (clo t.l) ds s (s ||| left);refine Yp ok159 fun C hC=>?_;refine Z20 (ZhK (k:=3) rfl hq.ren _) ?_;refine gd 4 ⟨?_⟩;refine Z5 rfl rfl rfl ?_;refine Z5 rfl rfl rfl ?_;refine Z5 rfl rfl rfl ?_;refine go ?_;refine Zn hC (fun i=>i<=ds.length) (fun i=>ds.length-i) 1 (fun i => [(1,.vec (ds.map ndP) fl),(4,.cp (pbP t S)),(6,.cp [.vec (words (digs left)) false]),(7,.cp [.vec (words (digs s)) false]),(8,.ptr 0 0 0),(10,.val (.int .u8 ((minT (clo t.l) (ds.take i) s (s ||| left):Nat):Int))),(17,.vec (ds.map ndP) fl),(18,.val (.int .i64 (ds.length:Int))),(19,Yv i)]) (fun _ => [(0,⟨1,[[.vec [] true]]⟩)]) (by decide) 0 (Y0l _)
  ⟨⟨rfl,hdi _⟩,⟨rfl,hpi _⟩,⟨rfl,Zj _ _,Yt⟩,⟨rfl,Zj _ _,Yt⟩,⟨rfl,show 0<1 by decide⟩,⟨rfl,Yt⟩,⟨rfl,hdi _⟩,⟨by rw [<- hml]; rfl,Yt⟩,⟨rfl,Yt⟩,Yt⟩ ⟨⟨by decide,rfl,⟨⟨Yt,Yt⟩,Yt⟩⟩,Yt⟩ ?_
 intro i hi;have hinc:IntKind.i64.wrap ((i:Int)+1)=((i+1:Nat):Int):=Y0v _ ⟨by omega,by omega⟩;refine gd 20 ⟨?_⟩;by_cases hil:i<ds.length
 . refine Qo (Qy rfl (by omega)) ?_;have hd:=hds ds[i] (Y0j hil);have hst:=Zg2 (cl:=clo t.l) hil s (s ||| left);refine gd 21 ⟨?_⟩;refine Qo (Zm (xs:=ds) (g:=ndP) rfl rfl i rfl hil rfl) ?_;generalize ds[i]=d at hd hst;refine gd 29 ⟨?_⟩;refine Qd (Z1j s left hs hl) ⟨Z1 _,Z1 _,Yt⟩ ?_;refine Qd (Zbv d hd t S s (s ||| left) hs hor) ⟨Z2s d,hpp,Z1 _,Z1 _,Yt⟩ ?_;refine Qr (ZR (v:=((minT (clo t.l) (ds.take (i+1)) s (s ||| left):Nat):Int)) rfl (by rw [hst]; split<;>omega)) ?_;refine go ?_;exact⟨i+1,by omega,by omega,⟨⟨rfl,hdi _⟩,⟨rfl,hpi _⟩,⟨rfl,Zj _ _,Yt⟩,⟨rfl,Zj _ _,Yt⟩,⟨rfl,show 0<1 by decide⟩,⟨rfl,Yt⟩,⟨rfl,hdi _⟩,⟨rfl,Yt⟩,⟨by show some _=some _; rw [hinc],Yt⟩,Yt⟩,⟨⟨by decide,rfl,⟨⟨Yt,Yt⟩,Yt⟩⟩,Yt⟩⟩
 . obtain rfl : i = ds.length := by omega
   refine Qo (Qz rfl (by omega)) ?_;rw [Y0q];generalize minT (clo t.l) ds s (s ||| left)=a at hmin hT;refine gd 34 ⟨?_⟩;by_cases ha2:a=2
   . rw [if_pos ha2] at hT;rw [hT];refine Qo (Qy rfl (by rw [ha2]; rfl)) ?_;refine go ?_;exact Z7 rfl ⟨Z1 _,Yt,Yt⟩ rfl
   rw [if_neg ha2] at hT;refine Qo (Qz rfl (by omega)) ?_;refine gd 37 ⟨?_⟩;by_cases ha0:a=0
   . rw [if_pos ha0] at hT;rw [hT];refine Qo (Qy rfl (by rw [ha0]; rfl)) ?_;refine go ?_;exact Z1a (r:=.tup [.agg [.vec [] true],.val (.bool false)]) rfl ⟨⟨Yt,Yt⟩,Yt,Yt⟩ Z3s
   rw [if_neg ha0] at hT;refine Qo (Qz rfl (by omega)) ?_;refine gd 41 ⟨?_⟩;refine Qe (ZbB left hl) ⟨Z1 _,Yt⟩ ?_;by_cases hl0:left=0
   . rw [if_pos hl0] at hT;rw [hT,Y0w (fun h=>h hl0)];refine go ?_;exact Z1a (r:=.tup [.agg [.vec [] true],.val (.bool false)]) rfl ⟨⟨Yt,Yt⟩,Yt,Yt⟩ Z3s
   rw [if_neg hl0] at hT;rw [if_neg hl0,decide_eq_true hl0];have hlb:=Z7T hl hl0;have hl64:=Z9T left;have hf1:=hf _ hlb.1;obtain⟨f',rfl⟩:∃ f',f=f'+1:=⟨f-1,by omega⟩
   have hm:=Z7R left (2 ^ leastN left);have hbits:∀ i,(minusN left (2 ^ leastN left)).testBit i=true->64<=i+f':=fun i hi=>by
    rw [ZB hl (ZI hl64),Nat.testBit_two_pow] at hi;simp only [Y0k,Bool.not_eq_true',decide_eq_false_iff_not] at hi;have h1:leastN left<i:=by
     rcases Nat.lt_trichotomy i (leastN left) with h|h|h
     . rw [hlb.2 i h] at hi; cases hi.1
     . exact absurd h.symm hi.2
     . exact h
    omega
   have hwo:=Z10 left hl (leastN left:Int);rw [Z1z hl hl64] at hwo;have hml':minusN left (2 ^ leastN left)<18446744073709551616:=by omega
   have ih1:=ih f' rfl _ s (setN s) (.inl rfl) hml' hs hbits;have hw:=Z13 s hs (leastN left) hl64;have hsw:=Z2C hs (ZI hl64);have ih2:=ih f' rfl _ (s ||| 2 ^ leastN left) (setN (s ||| 2 ^ leastN left)) (.inl rfl) hml' hsw hbits;generalize minusN left (2 ^ leastN left)=left' at hwo ih1 ih2 hT hml';refine gd 52 ⟨?_⟩;refine Qd hwo ⟨Z1 _,Yt,Yt⟩ ?_;refine gd 54 ⟨?_⟩;refine Qd ih1 ⟨hpp,hdp,Z1 _,Z1 _,Yt⟩ ?_;cases h1:tryT (clo t.l) ds (f'+1) left' s with
   | some o =>
     rw [h1] at hT;rw [hT];show dK _ _ _ _ (updO _ _ (.tup [setN o,.val (.bool true)])) _ _;refine go ?_;exact Z7 rfl ⟨Z1 _,Yt,Yt⟩ rfl
   | none =>
     rw [h1] at hT;rw [hT];show dK _ _ _ _ (updO _ _ (.tup [setN 0,.val (.bool false)])) _ _;refine gd 63 ⟨?_⟩;refine Qd hwo ⟨Z1 _,Yt,Yt⟩ ?_;refine gd 66 ⟨?_⟩;refine Qd hw ⟨Z1 _,Yt,Yt⟩ ?_;refine Qd ih2 ⟨hpp,hdp,Z1 _,Z1 _,Yt⟩ ?_;cases h2:tryT (clo t.l) ds (f'+1) left' (s ||| 2 ^ leastN left) with
     | some o =>
       show dK _ _ _ _ (updO _ _ (.tup [setN o,.val (.bool true)])) _ _;refine go ?_;exact Z7 rfl ⟨Z1 _,Yt,Yt⟩ rfl
     | none =>
       show dK _ _ _ _ (updO _ _ (.tup [setN 0,.val (.bool false)])) _ _;refine go ?_;exact Z7 rfl ⟨Z1 _,Yt,Yt⟩ rfl
theorem ZcW (t:PB) (S:List Nat) (ds:List ND) (fl:Bool) (hds:∀ d∈ds,NdOk d) (hdl:ds.length<900000):∀ f,TryOk t S ds fl f
 | 0=>ZcV t S ds fl hds hdl 0 fun f' h=>by omega
 | f + 1 => ZcV t S ds fl hds hdl (f + 1) fun f' h => by
   cases h;exact ZcW t S ds fl hds hdl f
def solveT (cl sn:Nat->Nat) (n:Nat) (ds:List ND):Option Nat:=tryT cl ds 65 (relT sn ds &&& (2 ^ (n+1)-1)) 0
theorem Z7U (t:PB) (hn:t.n<=63) (hsm:Small t.l) (S:List Nat) (ds:List ND) (fl:Bool) (hds:∀ d∈ds,NdZ d) (hdl:ds.length<900000):Spec Tryz.prog 126 [.agg (pbP t S),.vec (ds.map ndP) fl] (· = resO (solveT (clo t.l) (sen t.l) t.n ds)):=by
 refine Yp ok126 fun C hC=>?_;have hpp:=ZL t S;have hdp:pureLL (ds.map ndP):=Z9 Z2s ds;have hsn:∀ r,r<64->sen t.l r<18446744073709551616:=fun r hr=>Zcx t.l hsm hr;have hrl:relT (sen t.l) ds<18446744073709551616:=ZbD hsn ds 0 (fun d hd=>(hds d hd).toNdOk) (by decide);have hbn:2 ^ (t.n+1)-1<18446744073709551616:=by
  have:2 ^ (t.n+1)<=2 ^ 64:=Nat.pow_le_pow_right (by decide) (by omega);omega
 have hal:relT (sen t.l) ds &&& (2 ^ (t.n+1)-1)<18446744073709551616:=Y02 Nat.and_le_left hrl;have htry:=ZcW t S ds fl (fun d hd=>(hds d hd).toNdOk) hdl 64 (relT (sen t.l) ds &&& (2 ^ (t.n+1)-1)) 0 (.agg [.vec [] true]) (.inr ⟨rfl,rfl⟩) hal (by decide) (fun i _=>by omega);change Spec _ _ _ (· = resO (solveT (clo t.l) (sen t.l) t.n ds)) at htry;generalize solveT (clo t.l) (sen t.l) t.n ds=res at htry;refine gd 2 ⟨?_⟩;refine Z5 rfl rfl rfl ?_;refine gd 10 ⟨?_⟩;refine Qd (Z8V t hsm S ds fl hds hdl) ⟨hpp,hdp,Yt⟩ ?_;refine gd 13 ⟨?_⟩;refine Qr (ZR (v:=((t.n+1:Nat):Int)) rfl (Y0v _ ⟨by omega,by omega⟩)) ?_;refine Qd (Z36 (t.n+1) (by omega) (by omega)) ⟨Yt,Yt⟩ ?_;refine Qd (Z6N _ _ hrl hbn) ⟨Z1 _,Z1 _,Yt⟩ ?_;refine gd 17 ⟨?_⟩;refine Qd htry ⟨hpp,hdp,Z1 _,⟨Yt,Yt⟩,Yt⟩ ?_;cases res with
 | some o =>
   show dK _ _ _ _ (updO _ _ (.tup [setN o,.val (.bool true)])) _ _;refine go ?_;exact Z7 rfl ⟨Z1 _,Yt,Yt⟩ rfl
 | none =>
   show dK _ _ _ _ (updO _ _ (.tup [setN 0,.val (.bool false)])) _ _;refine go ?_;exact Z7 rfl ⟨Z1 _,Yt,Yt⟩ rfl
theorem Ze6 {t:PB} (hnv:∀ c∈t.nv,Ok64 c) (S:List Nat) (s:Nat) (hs:s<18446744073709551616):Spec Tryz.prog 88 [.agg (pbP t S),setN s] (· = .val (.bool (goodB t s))):=by
 refine Yp ok88 fun C hC=>?_;have hclo:=Z1P t.l S s hs;have hso:=Z5p t.nv false (clo t.l s) hnv (Z51 _ _);refine gd 2 ⟨?_⟩;refine Z5 rfl rfl rfl ?_;refine Z5 rfl rfl rfl ?_;refine gd 14 ⟨?_⟩;refine Z2R rfl ?_;refine Qd hclo ⟨Zw _ _,Z1 _,Yt⟩ ?_;refine Z2R rfl ?_;refine Qd hso ⟨Z9 Ze _,Z1 _,Yt⟩ ?_;show dK _ _ _ _ (updO _ _ (.val (.bool (soC t.nv (clo t.l s))))) _ _;unfold goodB;cases soC t.nv (clo t.l s)
 . refine go ?_;exact Z7 rfl Yt rfl
 . refine go ?_;exact Z7 rfl Yt rfl
noncomputable def jstep (t:PB) (s:Nat) (k:Int):Option Nat:=if 0<=k then (match t.rs[k.toNat]? with|some r=>if stepR t r s then some (nextR r s) else none|none=>none) else none
theorem Ze7 {t:PB} (h:PbOk t) (S:List Nat) (s:Nat) (hs:s<18446744073709551616) (k:Int):Spec Tryz.prog 39 [.agg (pbP t S),setN s,.val (.int .i64 k)] (· = resO (jstep t s k)):=by
 have hpp:=ZL t S;have hrl:(t.rs.map ruP).length=t.rs.length:=by simp
 refine Yp ok39 fun C hC=>?_;by_cases h0:k<0
 . have e1 : jstep t s k = none := by unfold jstep; rw [if_neg (by omega)]
   rw [e1];refine gd 3 ⟨?_⟩;refine Z5 rfl rfl rfl ?_;refine Z5 rfl rfl rfl ?_;refine gd 15 ⟨?_⟩;refine Zo rfl ?_;refine Qo (Qy rfl (by omega)) ?_;refine go ?_;exact Z1a (r:=.tup [.agg [.vec [] true],.val (.bool false)]) rfl ⟨⟨Yt,Yt⟩,Yt,Yt⟩ Z3s
 by_cases h1:(t.rs.length:Int)<=k
 . have e1 : jstep t s k = none := by unfold jstep; rw [if_pos (by omega), List.getElem?_eq_none (by omega)]
   rw [e1];refine gd 3 ⟨?_⟩;refine Z5 rfl rfl rfl ?_;refine Z5 rfl rfl rfl ?_;refine gd 15 ⟨?_⟩;refine Zo rfl ?_;refine Qo (Qz rfl (by omega)) ?_;refine gd 22 ⟨?_⟩;refine Zo rfl ?_;refine Qo (Qy rfl (by rw [hrl];omega)) ?_;refine go ?_;exact Z1a (r:=.tup [.agg [.vec [] true],.val (.bool false)]) rfl ⟨⟨Yt,Yt⟩,Yt,Yt⟩ Z3s
 obtain⟨j,rfl⟩:∃ j:Nat,k=(j:Int):=⟨k.toNat,by omega⟩
 have hk:j<t.rs.length:=by omega
 have hro:=h.rs _ (Y0j hk);have e1:jstep t s (j:Int)=if stepR t t.rs[j] s then some (nextR t.rs[j] s) else none:=by
  unfold jstep;rw [if_pos (by omega),Int.toNat_natCast,Y0c hk]
 rw [e1];refine gd 3 ⟨?_⟩;refine Z5 rfl rfl rfl ?_;refine Z5 rfl rfl rfl ?_;refine gd 15 ⟨?_⟩;refine Zo rfl ?_;refine Qo (Qz rfl (by omega)) ?_;refine gd 22 ⟨?_⟩;refine Zo rfl ?_;refine Qo (Qz rfl (by rw [hrl];omega)) ?_;refine gd 28 ⟨?_⟩;refine Qo (Zm (xs:=t.rs) (g:=ruP) rfl rfl j rfl hk rfl) ?_;generalize t.rs[j]=x at hro ⊢;have hxt:=hro.tg;have hx64:=hro.m.lt (by decide);have hnx:=ZcO (x:=x) (show x.tg<64 by omega) hs;have hgood:=Ze6 h.nv64 S (nextR x s) hnx;have hclo:=Z1P t.l S s hs;have hho:=Z3j x.cu (clo t.l s) hx64 (Z51 _ _);have heq:=Z4u (nextR x s) s hnx hs;have hw:=Z13 s hs x.tg (by omega);have hst:stepR t x s=(!decide (nextR x s=s)&&(goodB t (nextR x s)&&(x.rev||hoC x.cu (clo t.l s)))):=by
  unfold stepR;congr 1;exact decide_not
 rw [hst];refine gd 33 ⟨?_⟩;refine Qe hw ⟨Z1 _,Yt,Yt⟩ ?_;cases hv:x.rev
 . have hnv : nextR x s = s ||| 2 ^ x.tg := by unfold nextR; rw [hv]; rfl
   rw [<- hnv];refine gd 35 ⟨?_⟩;refine Qo (Z4 (v:=false) rfl hv) ?_;refine gd 42 ⟨?_⟩;refine Qd heq ⟨Z1 _,Z1 _,Yt⟩ ?_;cases he:decide (nextR x s=s)
   case true =>
    repeat' (first|refine Z3q rfl ?_|(first|refine st ?_|(apply B<;>intro hb<;>try cases hb)))
    exact Z1a (r:=.tup [.agg [.vec [] true],.val (.bool false)]) rfl ⟨⟨Yt,Yt⟩,Yt,Yt⟩ Z3s
   refine gd 46 ⟨?_⟩;refine Z2R rfl ?_;refine Qd hgood ⟨hpp,Z1 _,Yt⟩ ?_;cases hg:goodB t (nextR x s)
   case false =>
    repeat' (first|refine Z3q rfl ?_|(first|refine st ?_|(apply B<;>intro hb<;>try cases hb)))
    exact Z1a (r:=.tup [.agg [.vec [] true],.val (.bool false)]) rfl ⟨⟨Yt,Yt⟩,Yt,Yt⟩ Z3s
   refine gd 51 ⟨?_⟩;refine Z2R rfl ?_;refine Qr (Z4 (v:=false) rfl hv) ?_;refine gd 59 ⟨?_⟩;refine Z2R rfl ?_;refine Qd hclo ⟨Zw _ _,Z1 _,Yt⟩ ?_;refine Z2R rfl ?_;refine Qd hho ⟨Zu _,Z1 _,Yt⟩ ?_;cases hh:hoC x.cu (clo t.l s)
   case false =>
    repeat' (first|refine Z3q rfl ?_|(first|refine st ?_|(apply B<;>intro hb<;>try cases hb)))
    exact Z1a (r:=.tup [.agg [.vec [] true],.val (.bool false)]) rfl ⟨⟨Yt,Yt⟩,Yt,Yt⟩ Z3s
   repeat' (first|refine Z3q rfl ?_|(first|refine st ?_|(apply B<;>intro hb<;>try cases hb)))
   exact Z7 rfl ⟨Z1 _,Yt,Yt⟩ rfl
 . have hnv : nextR x s = minusN s (2 ^ x.tg) := by unfold nextR; rw [hv]; rfl
   have hwo:=Z10 s hs (x.tg:Int);rw [Z1z hs (by omega),<- hnv] at hwo;refine gd 35 ⟨?_⟩;refine Qo (Z4 (v:=true) rfl hv) ?_;refine gd 39 ⟨?_⟩;refine Qe hwo ⟨Z1 _,Yt,Yt⟩ ?_;refine gd 42 ⟨?_⟩;refine Qd heq ⟨Z1 _,Z1 _,Yt⟩ ?_;cases he:decide (nextR x s=s)
   case true =>
    repeat' (first|refine Z3q rfl ?_|(first|refine st ?_|(apply B<;>intro hb<;>try cases hb)))
    exact Z1a (r:=.tup [.agg [.vec [] true],.val (.bool false)]) rfl ⟨⟨Yt,Yt⟩,Yt,Yt⟩ Z3s
   refine gd 46 ⟨?_⟩;refine Z2R rfl ?_;refine Qd hgood ⟨hpp,Z1 _,Yt⟩ ?_;cases hg:goodB t (nextR x s)
   case false =>
    repeat' (first|refine Z3q rfl ?_|(first|refine st ?_|(apply B<;>intro hb<;>try cases hb)))
    exact Z1a (r:=.tup [.agg [.vec [] true],.val (.bool false)]) rfl ⟨⟨Yt,Yt⟩,Yt,Yt⟩ Z3s
   refine gd 51 ⟨?_⟩;refine Z2R rfl ?_;refine Qr (Z4 (v:=true) rfl hv) ?_
   repeat' (first|refine Z3q rfl ?_|(first|refine st ?_|(apply B<;>intro hb<;>try cases hb)))
   exact Z7 rfl ⟨Z1 _,Yt,Yt⟩ rfl
section
variable {P:Program} {C:Ctx} {e:Env} {h:Heap} {n:Nat} {Q:Exit->Nat->Env->Heap->Prop}
theorem Zj8 {m:Nat} (hdom:C.dom m) (N:Nat) (L:List (Nat×PV)) (HL:List (Nat×Bx)) {x y:ACode} (hm:m<=N) (h1:aw P C x (thenQ (fun n e h=>EnvQ (fun i=>i) e N L/\HeapQ (fun i=>i) h N HL) Q) n e h) (h2:aw P C y Q N (envL L) (heapL HL)):aw P C (.seq x y) Q n e h :=
 Zs (Z5j h1 fun ex n e h hq=>by
  cases ex with
  | normal=>obtain⟨h3,h4⟩:=hq; exact Z20 (Z2m h3.mem h4.mem hdom hm) h2
  | _=>exact hq)
end
theorem ZhM:∀ r:Nat,r<64->maskTo (topOf [(r:Int)]) [(r:Int)]=2 ^ r:=by decide +kernel
theorem Z7V (r:Nat) (hr:r<64) (fl:Bool):Spec Tryz.prog 17 [.vec [[.val (.int .i64 (r:Int))]] fl] (· = setN (2 ^ r)):=ZhM r hr▸ZaB [(r:Int)] fl
def fullN (n:Nat):Nat:=2 ^ (n+1)-1
def properT (n:Nat) (l:List Cu):Bool := !(mentC l).testBit 0&&decide (mentC l ||| fullN n=fullN n)
theorem ZhN {n:Nat} (h:n<=63):fullN n<18446744073709551616:=by
 unfold fullN;have:2 ^ (n+1)<=2 ^ 64:=Nat.pow_le_pow_right (by decide) (by omega);omega
theorem ZbE (t:PB) (hn:t.n<=63) (S:List Nat) (l:List Cu) (fl:Bool) (hl:∀ c∈l,Ok64 c):Spec Tryz.prog 28 [.agg (pbP t S),.vec (l.map cuC) fl] (· = .val (.bool (properT t.n l))):=by
 refine Yp ok28 fun C hC=>?_;have hml:=Z49 hl;have hh:=Z1G (mentC l) hml 0;have hfl:=ZhN hn;have hbe:=Z36 (t.n+1) (by omega) (by omega);change Spec _ _ _ (· = setN (fullN t.n)) at hbe;have hwi:=Z1i (mentC l) (fullN t.n) hml hfl;have hd:properT t.n l=(!(decide ((0:Int)<=0)&&(mentC l).testBit (0:Int).toNat)&&decide (mentC l ||| fullN t.n=fullN t.n)):=rfl;rw [hd];refine gd 2 ⟨?_⟩;refine Z5 rfl rfl rfl ?_;refine gd 7 ⟨?_⟩;refine Qe (Z2A l fl hl) ⟨Z9 Ze _,Yt⟩ ?_;generalize mentC l=M at hh hwi ⊢;refine gd 9 ⟨?_⟩;refine Qd hh ⟨Z1 _,Yt,Yt⟩ ?_;cases decide ((0:Int)<=0)&&M.testBit (0:Int).toNat
 . refine gd 15 ⟨?_⟩;refine Z2R rfl ?_;refine Qr (ZR (v:=((t.n+1:Nat):Int)) rfl (Y0v _ ⟨by omega,by omega⟩)) ?_;refine Z2R rfl ?_;refine Qd hbe ⟨Yt,Yt⟩ ?_;refine Z2R rfl ?_;refine Qd hwi ⟨Z1 _,Z1 _,Yt⟩ ?_;cases decide (M ||| fullN t.n=fullN t.n)
   . refine go ?_;exact Z7 rfl Yt rfl
   . refine go ?_;exact Z7 rfl Yt rfl
 . repeat' (first | refine Z3q rfl ?_ | (first|refine st ?_|(apply B<;>intro hb<;>try cases hb)))
   exact Z7 rfl Yt rfl
abbrev Fd:=Nat×Nat×Nat
def fdP (f:Fd):PV:=.agg [.val (.int .u8 (f.1:Int)),.val (.int .i64 (f.2.1:Int)),.val (.int .i64 (f.2.2:Int))]
theorem Z1A (f:Fd):(fdP f).pure:=⟨Yt,Yt,Yt,Yt⟩
noncomputable def followT (t:PB):Nat->List Nat->Nat->Fd
 | s,[],_=>if reachB t s then (1,0,0) else (5,0,0)
 | s, k :: p, i => match jstep t s (k : Int) with
   | some o=>followT t o p (i+1)
   | none=>(4,i,k)
theorem ZhO {t:PB} (h:PbOk t) {s:Nat} (hs:s<18446744073709551616) {k:Int} {o:Nat} (ho:jstep t s k=some o):o<18446744073709551616:=by
 unfold jstep at ho
 split at ho
 . cases hr : t.rs[k.toNat]? with
   | none=>rw [hr] at ho; cases ho
   | some r =>
     rw [hr] at ho;dsimp only at ho
     split at ho
     . have hro := h.rs r (List.mem_of_getElem? hr);have:=hro.tg;rw [<- Option.some.inj ho];exact ZcO (by omega) hs
     . cases ho
 . cases ho
theorem ZbF {t:PB} (h:PbOk t) (S:List Nat) (p:List Nat) (fl:Bool) (hp:p.length<900000) (hst0:t.st<18446744073709551616):Spec Tryz.prog 29 [.agg (pbP t S),.vec (inL p) fl] (· = fdP (followT t t.st p 0)):=by
 refine Yp ok29 fun C hC=>?_;have hpp:=ZL t S;have hpi:∀ D,innL D (pbP t S):=fun D=>Zv (fun _ h=>h.elim) _ hpp;have hil':=Z6U p;have hii:∀ D,innLL D (inL p):=fun D=>Zb (fun _ h=>h.elim) _ (Z16 p);have hz:∀ D,innLL D [[PV.val (.int .u8 0),.val (.int .i64 0),.val (.int .i64 0)]]:=fun D=>⟨⟨Yt,Yt,Yt,Yt⟩,Yt⟩
 refine gd 2 ⟨?_⟩;refine Z5 rfl rfl rfl ?_;generalize hfin:followT t t.st p 0=fin;refine go ?_;refine Zn hC (fun x:Nat×Nat=>x.1<=p.length/\x.2<18446744073709551616/\followT t x.2 (p.drop x.1) x.1=fin) (fun x=>p.length-x.1) 2 (fun x => [(2,.cp (pbP t S)),(4,.ptr 0 0 0),(5,.ptr 1 0 0),(12,.vec (inL p) fl),(13,.val (.int .i64 (p.length:Int))),(14,.val (.int .i64 (x.1:Int)))]) (fun x => [(0,⟨3,[[.val (.int .u8 0),.val (.int .i64 0),.val (.int .i64 0)]]⟩),(1,sBx x.2)]) (by decide) (0,t.st) ⟨Y0l _,hst0,hfin⟩
  ⟨⟨rfl,hpi _⟩,⟨rfl,show 0<2 by decide⟩,⟨rfl,show 1<2 by decide⟩,⟨rfl,hii _⟩,⟨by rw [<- hil']; rfl,Yt⟩,⟨rfl,Yt⟩,Yt⟩ ⟨⟨by decide,rfl,hz _⟩,⟨by decide,rfl,Z2D _ _⟩,Yt⟩ ?_
 rintro⟨i,s⟩ ⟨hi,hs,hf⟩;dsimp only at hi hs hf;have hinc:IntKind.i64.wrap ((i:Int)+1)=((i+1:Nat):Int):=Y0v _ ⟨by omega,by omega⟩;refine gd 15 ⟨?_⟩;by_cases hil:i<p.length
 . refine Qo (Qy rfl (by show (i : Int) < (p.length : Int); omega)) ?_;have hdr:p.drop i=p[i] :: p.drop (i+1):=List.drop_eq_getElem_cons hil;rw [hdr] at hf;refine gd 17 ⟨?_⟩;refine Qo (Zm (xs:=p) (g:=inC1) rfl rfl i rfl hil rfl) ?_;generalize p[i]=k at hf;refine gd 23 ⟨?_⟩;refine Qe (Ze7 h S s hs (k:Int)) ⟨hpp,Z1 _,Yt,Yt⟩ ?_;cases hj:jstep t s (k:Int) with
   | some o =>
     have hol:=ZhO h hs hj;have hf2:followT t o (p.drop (i+1)) (i+1)=fin:=by rw [<- hf]; show _=(match jstep t s (k:Int) with|some o=>followT t o (p.drop (i+1)) (i+1)|none=>(4,i,k)); rw [hj]
     show opsK _ _ _ (updO _ _ (.tup [setN o,.val (.bool true)])) _ _;refine go ?_;exact⟨(i+1,o),⟨hil,hol,hf2⟩,by show p.length-(i+1)<p.length-i; omega,⟨⟨rfl,hpi _⟩,⟨rfl,show 0<2 by decide⟩,⟨rfl,show 1<2 by decide⟩,⟨rfl,hii _⟩,⟨rfl,Yt⟩,⟨by show some _=some _; rw [hinc],Yt⟩,Yt⟩,⟨⟨by decide,rfl,hz _⟩,⟨by decide,rfl,Z2D _ _⟩,Yt⟩⟩
   | none =>
     have hf2:((4,i,k):Fd)=fin:=by rw [<- hf]; show _=(match jstep t s (k:Int) with|some o=>followT t o (p.drop (i+1)) (i+1)|none=>(4,i,k)); rw [hj]
     show opsK _ _ _ (updO _ _ (.tup [setN 0,.val (.bool false)])) _ _;refine go ?_;exact Z7 rfl (Z1A (4,i,k)) (by rw [<- hf2]; rfl)
 . obtain rfl : i = p.length := by omega
   refine Qo (Qz rfl (by show ¬ ((p.length:Int)<(p.length:Int));omega)) ?_;rw [List.drop_length] at hf;change (if reachB t s then ((1,0,0):Fd) else (5,0,0))=fin at hf;refine gd 38 ⟨?_⟩;refine Qd (Z1P t.l S s hs) ⟨Zw _ _,Z1 _,Yt⟩ ?_;refine Qd (Z5p t.gl false (clo t.l s) h.gl64 (Z51 _ _)) ⟨Z9 Ze _,Z1 _,Yt⟩ ?_;change dK _ _ _ _ (updO _ _ (.val (.bool (reachB t s)))) _ _;cases hr:reachB t s
   . rw [hr] at hf;refine go ?_;exact Z7 rfl (Z1A (5,0,0)) (by rw [<- hf]; rfl)
   . rw [hr] at hf;refine go ?_;exact Z7 rfl (Z1A (1,0,0)) (by rw [<- hf]; rfl)
def outN (t:PB) (l:List Cu) (fl:Bool):List ND := [⟨true,false,false,0,[],t.nv,true,false⟩,⟨true,false,true,0,t.gl,[],false,true⟩,⟨false,false,false,0,[],l,true,fl⟩]
def escN (t:PB) (l:List Cu) (fl:Bool) (c:Cu) (r:RU):List ND := [⟨true,false,false,0,[],t.nv,true,false⟩,⟨false,false,false,0,[],l,true,fl⟩,⟨false,false,true,0,[if r.rev then (2 ^ r.tg,0) else (0,2 ^ r.tg)],[],true,true⟩,⟨true,false,true,0,[r.cu],[],true,true⟩,⟨true,r.rev,false,r.tg,[],t.nv,true,false⟩,⟨false,r.rev,true,r.tg,[c],[],false,true⟩]
noncomputable def outT (t:PB) (l:List Cu) (fl:Bool):Option Nat:=solveT (clo t.l) (sen t.l) t.n (outN t l fl)
noncomputable def escT (t:PB) (l:List Cu) (fl:Bool) (c:Cu) (r:RU):Option Nat:=solveT (clo t.l) (sen t.l) t.n (escN t l fl c r)
theorem Zg3 (l:List Cu) (h:∀ c∈l,c.1.testBit 0=false/\c.2.testBit 0=false):(mentC l).testBit 0=false:=by
 unfold mentC
 suffices hs:∀ a:Nat,a.testBit 0=false->(l.foldl (fun s c=>(s ||| c.1) ||| c.2) a).testBit 0=false from hs 0 (by simp)
 induction l with
 | nil=>exact fun a ha=>ha
 | cons c l ih =>
   intro a ha;refine ih (fun c hc=>h c (List.mem_cons_of_mem _ hc)) _ ?_;rw [Y00,Y00,ha,(h c (Y0t ..)).1,(h c (Y0t ..)).2]
   rfl
theorem Zk0 {x n:Nat} (h:x ||| mkN n=mkN n):x.testBit 0=false:=by
 have:(x ||| mkN n).testBit 0=false:=by rw [h,Z2k]; rfl
 rw [Y00,Bool.or_eq_false_iff] at this;exact this.1
theorem InC.z {n:Nat} {c:Cu} (h:InC n c):c.1.testBit 0=false/\c.2.testBit 0=false:=⟨Zk0 h.y,Zk0 h.n⟩
theorem ndz {d:ND} (haf:d.af<64) (hso:∀ c∈d.so,Ok64 c/\c.1.testBit 0=false/\c.2.testBit 0=false) (hno:∀ c∈d.no,Ok64 c/\c.1.testBit 0=false/\c.2.testBit 0=false) (hsl:d.so.length<900000) (hnl:d.no.length<900000):NdZ d :=
 ⟨⟨haf,fun c hc=>(hso c hc).1,fun c hc=>(hno c hc).1,hsl,hnl⟩,(by unfold mOf; rw [Y00,Zg3 _ fun c hc=>(hso c hc).2,Zg3 _ fun c hc=>(hno c hc).2]; rfl)⟩
def CuZ (l:List Cu):Prop:=∀ c∈l,Ok64 c/\c.1.testBit 0=false/\c.2.testBit 0=false
theorem zL:(0:Nat)<900000:=by decide
theorem oL:(1:Nat)<900000:=by decide
theorem zA:(0:Nat)<64:=by decide
theorem Z3t:CuZ []:=fun c hc=>by cases hc
theorem PbOk.nvz {t:PB} (h:PbOk t):CuZ t.nv:=fun c hc=>⟨h.nv64 c hc,(h.nv c hc).1.z⟩
theorem PbOk.glz {t:PB} (h:PbOk t):CuZ t.gl:=fun c hc=>⟨h.gl64 c hc,(h.gl c hc).1.z⟩
theorem Zk1 {t:PB} (h:PbOk t) {l:List Cu} (fl:Bool) (hl:CuZ l) (hll:l.length<900000):∀ d∈outN t l fl,NdZ d:=fun d hd=>by
 have h1:=h.nl;have h2:=h.gk;simp only [outN,List.mem_cons,List.not_mem_nil,or_false] at hd;rcases hd with rfl|rfl|rfl
 . exact ndz zA Z3t h.nvz zL (by show t.nv.length<_;omega)
 . exact ndz zA h.glz Z3t (by show t.gl.length<_;omega) zL
 . exact ndz zA Z3t hl zL hll
theorem Zkz {r:Nat} (h:1<=r):(2 ^ r).testBit 0=false:=by
 rw [Nat.testBit_two_pow]; exact Y0w (by omega)
theorem Zk2 {t:PB} (h:PbOk t) {l:List Cu} (fl:Bool) (hl:CuZ l) (hll:l.length<900000) {c:Cu} (hc:c∈l) {r:RU} (hr:r∈t.rs):∀ d∈escN t l fl c r,NdZ d:=fun d hd=>by
 have h1:=h.nl;have hro:=h.rs r hr;have htg:=hro.tg;have hcc:=hl c hc;have h64:(2:Nat) ^ r.tg<18446744073709551616:=ZI (by omega);have h2z:=Zkz htg.1;simp only [escN,List.mem_cons,List.not_mem_nil,or_false] at hd;rcases hd with rfl|rfl|rfl|rfl|rfl|rfl
 . exact ndz zA Z3t h.nvz zL (by show t.nv.length<_;omega)
 . exact ndz zA Z3t hl zL hll
 . refine ndz zA (fun q hq => ?_) Z3t oL zL;rw [Y0g] at hq;subst hq;cases r.rev
   . exact⟨⟨show (0:Nat)<_ by decide,h64⟩,show (0:Nat).testBit 0=false by decide,h2z⟩
   . exact⟨⟨h64,show (0:Nat)<_ by decide⟩,h2z,show (0:Nat).testBit 0=false by decide⟩
 . refine ndz zA (fun q hq => ?_) Z3t oL zL;rw [Y0g] at hq;subst hq;exact⟨hro.m.lt (by decide),hro.cu.z⟩
 . exact ndz (by show r.tg<64;omega) Z3t h.nvz zL (by show t.nv.length<_;omega)
 . refine ndz (by show r.tg < 64; omega) (fun q hq => ?_) Z3t oL zL;rw [Y0g] at hq;subst hq;exact hcc
theorem Z9U {t:PB} (h:PbOk t) (S:List Nat) (l:List Cu) (fl:Bool) (hl:CuZ l) (hll:l.length<900000):Spec Tryz.prog 79 [.agg (pbP t S),.vec (l.map cuC) fl] (· = resO (outT t l fl)):=by
 refine Yp ok79 fun C hC=>?_;have hpp:=ZL t S;have hso:=Z7U t h.n.2 h.good.small S (outN t l fl) true (Zk1 h fl hl hll) (show 3<900000 by decide);change Spec _ _ _ (· = resO (outT t l fl)) at hso;refine gd 2 ⟨?_⟩;refine Z5 rfl rfl rfl ?_;refine gd 16 ⟨?_⟩;refine Qe hso ⟨hpp,Z9 Z2s _,Yt⟩ ?_;cases outT t l fl with
 | some o =>
   show opsK _ _ _ (updO _ _ (.tup [setN o,.val (.bool true)])) _ _;refine go ?_;exact Z7 rfl ⟨Z1 _,Yt,Yt⟩ rfl
 | none =>
   show opsK _ _ _ (updO _ _ (.tup [setN 0,.val (.bool false)])) _ _;refine go ?_;exact Z7 rfl ⟨Z1 _,Yt,Yt⟩ rfl
theorem Z9V {t:PB} (h:PbOk t) (S:List Nat) (l:List Cu) (fl:Bool) (hl:CuZ l) (hll:l.length<900000) (i k:Nat) (hi:i<l.length) (hk:k<t.rs.length):Spec Tryz.prog 80 [.agg (pbP t S),.vec (l.map cuC) fl,Yv i,.val (.int .i64 (k:Int))] (· = resO (escT t l fl l[i] t.rs[k])):=by
 refine Yp ok80 fun C hC=>?_;have hpp:=ZL t S;have hro:=h.rs _ (Y0j hk);have htg:=hro.tg;have hso:=Z7U t h.n.2 h.good.small S (escN t l fl l[i] t.rs[k]) true (Zk2 h fl hl hll (Y0j hi) (Y0j hk)) (show 6<900000 by decide);change Spec _ _ _ (· = resO (escT t l fl l[i] t.rs[k])) at hso;have hslc:((l.take (i+1)).drop i).map cuC = [cuC l[i]]:=by
  rw [List.take_succ_eq_append_getElem hi,List.drop_append,List.drop_of_length_le (by rw [Y0o];omega),Y0o,show i-min i l.length=0 by omega]
  rfl
 refine gd 4 ⟨?_⟩;refine Z5 rfl rfl rfl ?_;refine gd 15 ⟨?_⟩;refine Qo (Zm (xs:=t.rs) (g:=ruP) rfl rfl k rfl hk rfl) ?_;generalize hres:escT t l fl l[i] t.rs[k]=res at hso;generalize t.rs[k]=r at htg hso;generalize l[i]=c at hslc hso;unfold escN at hso;generalize hqq:(if r.rev=true then ((2 ^ r.tg,0):Cu) else (0,2 ^ r.tg))=q at hso;have hci:∀ D,innLL D (l.map cuC):=fun D=>Zb (fun _ h=>h.elim) _ (Z9 Ze l);have e0:words (digs 0) = []:=by rw [ZJ]; rfl
 have lowN:∀ w:List (List PV),pureLL w->RenLs (fun i=>i) (fun i=>i<3) [PV.vec [] true,.vec w false] [.vec [] false,.vec w false]:=fun w hw=>⟨.low (.vec [] true) Yt,.pure _ hw,Yt⟩
 have lowY:∀ w:List (List PV),pureLL w->RenLs (fun i=>i) (fun i=>i<3) [.vec w false,PV.vec [] true] [.vec w false,.vec [] false]:=fun w hw=>⟨.pure _ hw,.low (.vec [] true) Yt,Yt⟩
 refine gd 20 ⟨?_⟩;refine Qe (Z7V r.tg (by omega) true) ⟨⟨⟨Yt,Yt⟩,Yt⟩,Yt⟩ ?_
 iterate 4 (first|refine st ?_|(apply B<;>intro hb<;>try cases hb))
 refine Zj8 hC 3 [(1,.vec (l.map cuC) fl),(2,Yv i),(4,.cp (pbP t S)),(8,.ptr 0 0 0),(10,.ptr 1 0 0),(11,.ptr 2 0 0)] [(0,⟨1,[[.vec [] true]]⟩),(1,⟨5,[ruP r]⟩),(2,⟨2,[cuC q]⟩)] (by decide) ?_ ?_
 . refine gd 23 ⟨?_⟩;cases hv:r.rev
   . have hqv : q = (0, 2 ^ r.tg) := by rw [<- hqq, hv]; rfl
     refine Qo (Z4 (v:=false) rfl hv) ?_;refine go ?_
     exact⟨⟨Qp (Z9 Ze l),Qp Yt,Qp hpp,Qt 0 0 0,Qt 1 0 0,Qt 2 0 0,Yt⟩,
      ⟨Qs ⟨⟨Yt,Yt⟩,Yt⟩,Qs ⟨Z4c r,Yt⟩,⟨by decide,⟨2,[[.vec [] true,.vec (words (digs (2 ^ r.tg))) false]]⟩,rfl,by
       rw [hqv];show RenB _ _ _ ⟨2,[[.vec (words (digs 0)) false,.vec (words (digs (2 ^ r.tg))) false]]⟩;rw [e0]
       exact RenB.single (lowN _ (Za _)) rfl⟩,Yt⟩⟩
   . have hqv : q = (2 ^ r.tg, 0) := by rw [<- hqq, hv]; rfl
     refine Qo (Z4 (v:=true) rfl hv) ?_;refine gd 27 ⟨?_⟩;refine Qe (Z7V r.tg (by omega) true) ⟨⟨⟨Yt,Yt⟩,Yt⟩,Yt⟩ ?_;refine go ?_
     exact⟨⟨Qp (Z9 Ze l),Qp Yt,Qp hpp,Qt 0 0 0,Qt 1 0 0,Qt 2 0 0,Yt⟩,
      ⟨Qs ⟨⟨Yt,Yt⟩,Yt⟩,Qs ⟨Z4c r,Yt⟩,⟨by decide,⟨2,[[.vec (words (digs (2 ^ r.tg))) false,.vec [] true]]⟩,rfl,by
       rw [hqv];show RenB _ _ _ ⟨2,[[.vec (words (digs (2 ^ r.tg))) false,.vec (words (digs 0)) false]]⟩;rw [e0]
       exact RenB.single (lowY _ (Za _)) rfl⟩,Yt⟩⟩
 . refine gd 45 ⟨?_⟩;refine Zd (p:=.val (.bool r.rev)) rfl rfl rfl ?_;refine gd 52 ⟨?_⟩;refine Zd (p:=.val (.bool r.rev)) rfl rfl rfl ?_;refine gd 56 ⟨?_⟩;refine Qr (ZR (v:=((i+1:Nat):Int)) rfl (Y0v _ ⟨by omega,by omega⟩)) ?_;refine Qr (Z9c (xs:=l) (g:=cuC) rfl i (i+1) rfl rfl (by omega) (by omega) (fun _=>rfl)) ?_;rw [hslc];refine gd 60 ⟨?_⟩;refine Qd hso ⟨hpp,Z9 Z2s _,Yt⟩ ?_;cases res with
   | some o =>
     show dK _ _ _ _ (updO _ _ (.tup [setN o,.val (.bool true)])) _ _;refine go ?_;exact Z7 rfl ⟨Z1 _,Yt,Yt⟩ rfl
   | none =>
     show dK _ _ _ _ (updO _ _ (.tup [setN 0,.val (.bool false)])) _ _;refine go ?_;exact Z7 rfl ⟨Z1 _,Yt,Yt⟩ rfl
def kFind (e:Nat->Bool):Nat->Nat->Option Nat
 | 0,_=>none
 | c+1,k=>if e k then some k else kFind e c (k+1)
def iFind (e:Nat->Nat->Bool) (m:Nat):Nat->Nat->Option (Nat×Nat)
 | 0,_=>none
 | c + 1, i => match kFind (e i) m 0 with
   | some k=>some (i,k)
   | none=>iFind e m c (i+1)
theorem Z7W {e:Nat->Bool} {n i:Nat} (h:i<n):kFind e (n-i) i=if e i then some i else kFind e (n-(i+1)) (i+1):=by
 obtain⟨c,hc⟩:∃ c,n-i=c+1:=⟨n-i-1,by omega⟩
 rw [hc,show n-(i+1)=c by omega]
 rfl
theorem Ze8 {e:Nat->Nat->Bool} {m n i:Nat} (h:i<n):iFind e m (n-i) i=match kFind (e i) m 0 with|some k=>some (i,k)|none=>iFind e m (n-(i+1)) (i+1):=by
 obtain⟨c,hc⟩:∃ c,n-i=c+1:=⟨n-i-1,by omega⟩
 rw [hc,show n-(i+1)=c by omega]
 rfl
def cu0 (l:List Cu) (i:Nat):Cu:=l.getD i (0,0)
def ru0 (l:List RU) (k:Nat):RU:=l.getD k ⟨false,(0,0),0,0⟩
noncomputable def escE (t:PB) (l:List Cu) (fl:Bool) (i k:Nat):Bool:=(escT t l fl (cu0 l i) (ru0 t.rs k)).isSome
def leakF:Option (Nat×Nat)->Fd
 | some (i,k)=>(8,i,k)
 | none=>(1,0,0)
noncomputable def closedT (t:PB) (l:List Cu) (fl:Bool):Fd :=
 match kFind (fun i=>hoC (cu0 l i) t.st) l.length 0 with
 | some i=>(6,i,0)
 | none=>if (outT t l fl).isSome then (7,0,0) else leakF (iFind (escE t l fl) t.rs.length l.length 0)
theorem Zg4 {l:List Cu} {i:Nat} (h:i<l.length):cu0 l i=l[i]:=by simp [cu0,Y0b,h]
theorem Zj9 {l:List RU} {i:Nat} (h:i<l.length):ru0 l i=l[i]:=by simp [ru0,Y0b,h]
theorem ZbG {t:PB} (h:PbOk t) (S:List Nat) (l:List Cu) (fl:Bool) (hl:CuZ l) (hll:l.length<900000) (hst:t.st<18446744073709551616):Spec Tryz.prog 30 [.agg (pbP t S),.vec (l.map cuC) fl] (· = fdP (closedT t l fl)):=by
 refine Yp ok30 fun C hC=>?_;have hpp:=ZL t S;have hpi:∀ D,innL D (pbP t S):=fun D=>Zv (fun _ h=>h.elim) _ hpp;have hml:(l.map cuC).length=l.length:=Y0f ..;have hmr:(t.rs.map ruP).length=t.rs.length:=Y0f ..;have hrl:=h.rl;have hcp:pureLL (l.map cuC):=Z9 Ze l;have hci:∀ D,innLL D (l.map cuC):=fun D=>Zb (fun _ h=>h.elim) _ hcp;have hri:∀ D,innLL D (t.rs.map ruP):=fun D=>Zb (fun _ h=>h.elim) _ (ZX _);have hz:∀ D,innLL D [[PV.val (.int .u8 0),.val (.int .i64 0),.val (.int .i64 0)]]:=fun D=>⟨⟨Yt,Yt,Yt,Yt⟩,Yt⟩
 have hfin:closedT t l fl=match kFind (fun i=>hoC (cu0 l i) t.st) l.length 0 with
  | some i=>(6,i,0)
  | none=>if (outT t l fl).isSome then (7,0,0) else leakF (iFind (escE t l fl) t.rs.length l.length 0):=rfl
 generalize hK:kFind (fun i=>hoC (cu0 l i) t.st) l.length 0=K at hfin;refine gd 2 ⟨?_⟩;refine Z5 rfl rfl rfl ?_;refine go ?_;refine Zn hC (fun i=>i<=l.length/\kFind (fun i=>hoC (cu0 l i) t.st) (l.length-i) i=K) (fun i=>l.length-i) 1 (fun i => [(1,.vec (l.map cuC) fl),(2,.cp (pbP t S)),(4,.ptr 0 0 0),(13,.vec (l.map cuC) fl),(14,.val (.int .i64 (l.length:Int))),(15,Yv i)]) (fun _ => [(0,⟨3,[[.val (.int .u8 0),.val (.int .i64 0),.val (.int .i64 0)]]⟩)]) (by decide) 0 ⟨Y0l _,hK⟩
  ⟨⟨rfl,hci _⟩,⟨rfl,hpi _⟩,⟨rfl,show 0<1 by decide⟩,⟨rfl,hci _⟩,⟨by rw [<- hml]; rfl,Yt⟩,⟨rfl,Yt⟩,Yt⟩ ⟨⟨by decide,rfl,hz _⟩,Yt⟩ ?_
 rintro i ⟨hi,hk⟩;have hinc:IntKind.i64.wrap ((i:Int)+1)=((i+1:Nat):Int):=Y0v _ ⟨by omega,by omega⟩;refine gd 16 ⟨?_⟩;by_cases hil:i<l.length
 . refine Qo (Qy rfl (by omega)) ?_;rw [Z7W hil,Zg4 hil] at hk;have hc64:=(hl _ (Y0j hil)).1;refine gd 18 ⟨?_⟩;refine Qo (Zm (xs:=l) (g:=cuC) rfl rfl i rfl hil rfl) ?_;generalize l[i]=c at hk hc64;have hho:=Z3j c t.st hc64 hst;refine gd 23 ⟨?_⟩;refine Qe hho ⟨Zu _,Z1 _,Yt⟩ ?_;cases hb:hoC c t.st
   . rw [hb] at hk;refine go ?_;exact⟨i+1,⟨hil,hk⟩,by omega,⟨⟨rfl,hci _⟩,⟨rfl,hpi _⟩,⟨rfl,show 0<1 by decide⟩,⟨rfl,hci _⟩,⟨rfl,Yt⟩,⟨by show some _=some _; rw [hinc],Yt⟩,Yt⟩,⟨⟨by decide,rfl,hz _⟩,Yt⟩⟩
   . rw [hb, if_pos rfl] at hk;rw [hfin,<- hk];refine go ?_;exact Z7 rfl (Z1A (6,i,0)) rfl
 obtain rfl:i=l.length:=by omega
 refine Qo (Qz rfl (by omega)) ?_;rw [Nat.sub_self] at hk;have hKn:K=none:=hk.symm;rw [hKn] at hfin;dsimp only at hfin;rw [hfin];have ho:=Z9U h S l fl hl hll;generalize outT t l fl=O at ho;refine gd 30 ⟨?_⟩;refine Qe ho ⟨hpp,hcp,Yt⟩ ?_;cases O with
 | some o =>
   show opsK _ _ _ (updO _ _ (.tup [setN o,.val (.bool true)])) _ _;refine go ?_;exact Z7 rfl (Z1A (7,0,0)) rfl
 | none =>
 show opsK _ _ _ (updO _ _ (.tup [setN 0,.val (.bool false)])) _ _;show opsK _ _ _ _ _ _;rw [show (if (Option.isSome (none:Option Nat))=true then ((7,0,0):Fd) else leakF (iFind (escE t l fl) t.rs.length l.length 0))=leakF (iFind (escE t l fl) t.rs.length l.length 0) from rfl];generalize hL:iFind (escE t l fl) t.rs.length l.length 0=L;refine go ?_;refine Zn hC (fun i=>i<=l.length/\iFind (escE t l fl) t.rs.length (l.length-i) i=L) (fun i=>l.length-i) 1 (fun i => [(1,.vec (l.map cuC) fl),(2,.cp (pbP t S)),(4,.ptr 0 0 0),(36,.val (.int .i64 (l.length:Int))),(37,Yv i)]) (fun _ => [(0,⟨3,[[.val (.int .u8 0),.val (.int .i64 0),.val (.int .i64 0)]]⟩)]) (by decide) 0 ⟨Y0l _,hL⟩
  ⟨⟨rfl,hci _⟩,⟨rfl,hpi _⟩,⟨rfl,show 0<1 by decide⟩,⟨by rw [<- hml]; rfl,Yt⟩,⟨rfl,Yt⟩,Yt⟩ ⟨⟨by decide,rfl,hz _⟩,Yt⟩ ?_
 rintro i ⟨hi,hk⟩;have hinc:IntKind.i64.wrap ((i:Int)+1)=((i+1:Nat):Int):=Y0v _ ⟨by omega,by omega⟩;refine gd 38 ⟨?_⟩;by_cases hil:i<l.length
 . refine Qo (Qy rfl (by omega)) ?_;rw [Ze8 hil] at hk;generalize hM:kFind (escE t l fl i) t.rs.length 0=M at hk;refine go ?_;refine Zn hC (fun k=>k<=t.rs.length/\kFind (escE t l fl i) (t.rs.length-k) k=M) (fun k=>t.rs.length-k) 1 (fun k => [(1,.vec (l.map cuC) fl),(2,.cp (pbP t S)),(4,.ptr 0 0 0),(9,Yv i),(36,.val (.int .i64 (l.length:Int))),(37,Yv i),(42,.val (.int .i64 (t.rs.length:Int))),(43,.val (.int .i64 (k:Int)))]) (fun _ => [(0,⟨3,[[.val (.int .u8 0),.val (.int .i64 0),.val (.int .i64 0)]]⟩)]) (by decide) 0 ⟨Y0l _,hM⟩
    ⟨⟨rfl,hci _⟩,⟨rfl,hpi _⟩,⟨rfl,show 0<1 by decide⟩,⟨rfl,Yt⟩,⟨rfl,Yt⟩,⟨rfl,Yt⟩,⟨by rw [<- hmr]; rfl,Yt⟩,⟨rfl,Yt⟩,Yt⟩ ⟨⟨by decide,rfl,hz _⟩,Yt⟩ ?_
   rintro k ⟨hk1,hk2⟩;have hink:IntKind.i64.wrap ((k:Int)+1)=((k+1:Nat):Int):=Y0v _ ⟨by omega,by omega⟩;refine gd 44 ⟨?_⟩;by_cases hkl:k<t.rs.length
   . refine Qo (Qy rfl (by omega)) ?_;rw [Z7W hkl] at hk2;have he:=Z9V h S l fl hl hll i k hil hkl;have hee:escE t l fl i k=(escT t l fl l[i] t.rs[k]).isSome:=by unfold escE; rw [Zg4 hil,Zj9 hkl]
     rw [hee] at hk2;generalize escT t l fl l[i] t.rs[k]=O at he hk2;refine gd 51 ⟨?_⟩;refine Qe he ⟨hpp,hcp,Yt,Yt,Yt⟩ ?_;cases O with
     | some o =>
       have hMs:M=some k:=hk2.symm;rw [hMs] at hk;have hLs:L=some (i,k):=hk.symm;rw [hLs];show opsK _ _ _ (updO _ _ (.tup [setN o,.val (.bool true)])) _ _;refine go ?_;exact Z7 rfl (Z1A (8,i,k)) rfl
     | none =>
       show opsK _ _ _ (updO _ _ (.tup [setN 0,.val (.bool false)])) _ _;refine go ?_;exact⟨k+1,⟨hkl,hk2⟩,by omega,⟨⟨rfl,hci _⟩,⟨rfl,hpi _⟩,⟨rfl,show 0<1 by decide⟩,⟨rfl,Yt⟩,⟨rfl,Yt⟩,⟨rfl,Yt⟩,⟨rfl,Yt⟩,⟨by show some _=some _; rw [hink],Yt⟩,Yt⟩,⟨⟨by decide,rfl,hz _⟩,Yt⟩⟩
   . obtain rfl : k = t.rs.length := by omega
     refine Qo (Qz rfl (by omega)) ?_;rw [Nat.sub_self] at hk2;have hMn:M=none:=hk2.symm;rw [hMn] at hk;refine go ?_;exact⟨i+1,⟨hil,hk⟩,by omega,⟨⟨rfl,hci _⟩,⟨rfl,hpi _⟩,⟨rfl,show 0<1 by decide⟩,⟨rfl,Yt⟩,⟨by show some _=some _; rw [hinc],Yt⟩,Yt⟩,⟨⟨by decide,rfl,hz _⟩,Yt⟩⟩
 . obtain rfl : i = l.length := by omega
   refine Qo (Qz rfl (by omega)) ?_;rw [Nat.sub_self] at hk;have hLn:L=none:=hk.symm;rw [hLn];refine go ?_;exact Z7 rfl (Z1A (1,0,0)) rfl
theorem ZkO {n i mask id:Nat} {P:Program} {e:Env} {h:Heap} {d:Option Nat} {f:Operand} {as0:List Operand} {iso:Nat} {alt:Bool} {xs:List DItem} {K:Env->Heap->Prop} {g:FuncId} {caps as1:List PV} {args:Nat->List PV} {b:Bx} {R:PV->Bx->Prop} (hs:QSpec P g args b R) (hm:MkL args) (hf:ev e f=some (.fn g caps)) (ha:evs e as0=some as1) (hr:as1++caps=args id) (hb:h id=some b) (hpb:pureLL b.elems)
 (hk:∀ r b',r.pure->pureLL b'.elems->R r b'->dK P (.to id) n xs (updO e d r) (h.upd id b') K):dK P (.to id) n (⟨i,⟨d,.call f as0,none⟩,mask,iso,alt⟩ :: xs) e h K:=by
 unfold dK;refine⟨_,.callP rfl f as0 rfl id rfl b hb R ⟨g,caps,as1,hf,ha,by rw [hr]; exact hs.prun hm hpb id⟩,?_⟩;rintro p' f' ⟨b',rfl,h1,h2,h3⟩;exact hk p' b' h1 h2 h3
def HS.zero (t:Nat):HS:=⟨List.replicate 25 0,List.replicate 136 0,0,t⟩
theorem Zg5 (t:Nat):HOk (HS.zero t):=⟨rfl,fun w hw=>by rw [List.eq_of_mem_replicate hw]; decide,rfl,fun w hw=>by rw [List.eq_of_mem_replicate hw]; decide,by show 0<136; decide⟩
theorem ZbH:NSpec Tryz.prog 156 [] (fun i=>.ptr i 0 0) (hBx (HS.zero 0)):=by
 refine Z26 ok156 (Nat.le_of_ble_eq_true rfl) fun C hC=>?_;refine go ?_;exact⟨_,_,rfl,.inl rfl,_,rfl,by show some _=some _; kernel_rfl⟩
theorem Zja (h0:HS) (hh0:HOk h0) (p:List Nat) (fl0:Bool) (hp:W8 p) (hlen:h0.total+p.length<1000000000000):PSpec Tryz.prog 157 (hBx h0) [.vec (bys p) fl0] (fun r b'=>b'=hBx (HS.puts (p.length+1) ⟨h0.st,h0.bl,h0.used,h0.total+p.length⟩ p)):=by
 refine Z1M ok157 (Nat.le_of_ble_eq_true rfl) fun C hC=>?_;have hbl:∀ l:List Nat,(bys l).length=l.length:=fun l=>by simp [bys]
 have hC0:=Z7Q (u:=.val (.int .i64 (h0.used:Int))) (t:=.val (.int .u64 (h0.total:Int))) hh0.sl hh0.bl;refine gd 10 ⟨?_⟩;refine Qo (Ze2 (l:=hCells h0.st h0.bl (.val (.int .i64 (h0.used:Int))) (.val (.int .u64 (h0.total:Int)))) rfl rfl (by rw [hC0]; decide) (ZkN hh0.sl hh0.bl)) ?_;refine gd 13 ⟨?_⟩;refine Zg (v:=(p.length:Int)) rfl rfl rfl (by rw [hbl]; exact Y0x _ ⟨by omega,by omega⟩) ?_;refine Zg (v:=((h0.total+p.length:Nat):Int)) rfl rfl rfl (Y0x _ ⟨by omega,by omega⟩) ?_
 iterate 2 (first|refine st ?_|(apply B<;>intro hb<;>try cases hb))
 refine Qo (Zj3 (l:=hCells h0.st h0.bl (.val (.int .i64 (h0.used:Int))) (.val (.int .u64 (h0.total:Int)))) rfl rfl rfl (by decide) (Zj1 hh0.sl hh0.bl _)) ?_;have hh1:HOk ⟨h0.st,h0.bl,h0.used,h0.total+p.length⟩:=⟨hh0.sl,hh0.sw,hh0.bl,hh0.bw,hh0.us⟩
 generalize hX0:(⟨h0.st,h0.bl,h0.used,h0.total+p.length⟩:HS)=X0 at hh1;generalize hfin:HS.puts (p.length+1) X0 p=fin;refine go ?_;refine Zn hC (fun x:HS×List Nat×Bool=>HOk x.1/\W8 x.2.1/\x.2.1.length<=p.length/\HS.puts (p.length+1) x.1 x.2.1=fin) (fun x=>x.2.1.length) 1 (fun x => [(0,.ptr 0 0 0),(1,.vec (bys x.2.1) x.2.2)]) (fun x => [(0,hBx x.1)]) (by decide) (X0,p,fl0) ⟨hh1,hp,Y0m _,hfin⟩
  ⟨⟨rfl,show 0<1 by decide⟩,⟨rfl,Zb4 _ _⟩,Yt⟩ ⟨⟨by decide,by rw [<- hX0]; rfl,Z5y _ _⟩,Yt⟩ ?_
 rintro⟨x,q,fl⟩ ⟨hx,hq,hql,hqf⟩;dsimp only at hx hq hql hqf;have hCx:=fun (u t:PV)=>Z7Q (u:=u) (t:=t) hx.sl hx.bl;have hus:=hx.us;have hbq:=hbl q;refine gd 19 ⟨?_⟩;by_cases hq0:q.length=0
 . refine Qo (Qz rfl (by show ¬ (((bys q).length : Int) > 0); omega)) ?_;rw [Z6Z hq0] at hqf;subst hqf;refine go ?_;exact⟨_,_,rfl,.inl rfl,_,rfl,Yt,Z3r _,rfl⟩
 . refine Qo (Qy rfl (by show ((bys q).length : Int) > 0; omega)) ?_;rw [ZfR hx hq hq0 (by omega)] at hqf;have hput:=Zib x q;have hpok:=ZcS hx hq;have hnl:=Z8T hx q;have hnw:=ZcR hx hq;have hcp:=Zj2 (u:=.val (.int .i64 (x.used:Int))) (t:=.val (.int .u64 (x.total:Int))) hx.sl hx.bl hus q;change _=hCells x.st (nblk x q) _ _ at hcp;generalize hnn:min q.length (136-x.used)=nn at hqf hput;have hCn:=fun (u t:PV)=>Z7Q (u:=u) (t:=t) hx.sl hnl;refine gd 26 ⟨?_⟩;refine Qr (Ze2 (l:=hCells x.st x.bl (.val (.int .i64 (x.used:Int))) (.val (.int .u64 (x.total:Int)))) rfl rfl (by rw [hCx]; decide) (ZjZ hx.sl hx.bl)) ?_;refine Qr (ZhG rfl x.used 136 rfl rfl (by omega) (by omega) (by omega)) ?_;refine gd 29 ⟨?_⟩;refine Qr (Zky (l:=hCells x.st x.bl (.val (.int .i64 (x.used:Int))) (.val (.int .u64 (x.total:Int)))) rfl rfl rfl (by omega) hcp) ?_;rw [hnn];refine gd 32 ⟨?_⟩;refine Qo (Z9c (xs:=q) (g:=fun (x:Nat) => [.val (.int .u8 (x:Int))]) rfl nn q.length rfl (by show some ((List.map (fun (x:Nat) => [PV.val (.int .u8 (x:Int))]) q).length:Int)=_; rw [Y0f]) (by omega) (Y0m _) (fun _=>rfl)) ?_;rw [Y0q];refine gd 36 ⟨?_⟩;refine Qo (Ze2 (l:=hCells x.st (nblk x q) (.val (.int .i64 (x.used:Int))) (.val (.int .u64 (x.total:Int)))) rfl rfl (by rw [hCn]; decide) (ZjZ hx.sl hnl)) ?_;refine gd 38 ⟨?_⟩;refine Zg (v:=((x.used+nn:Nat):Int)) rfl rfl rfl (wi (x.used+nn) (by omega)) ?_
   iterate 2 (first|refine st ?_|(apply B<;>intro hb<;>try cases hb))
   refine Qo (Zj3 (l:=hCells x.st (nblk x q) (.val (.int .i64 (x.used:Int))) (.val (.int .u64 (x.total:Int)))) rfl rfl rfl (by decide) (ZfT hx.sl hnl _)) ?_;refine gd 44 ⟨?_⟩;refine Qo (Ze2 (l:=hCells x.st (nblk x q) (.val (.int .i64 ((x.used+nn:Nat):Int))) (.val (.int .u64 (x.total:Int)))) rfl rfl (by rw [hCn]; decide) (ZjZ hx.sl hnl)) ?_;by_cases h136:x.used+nn=136
   . refine Qo (Qy rfl (by rw [h136]; rfl)) ?_;rw [if_pos h136] at hput
     repeat' (first|refine Zc3 [] 0 (by decide) ?_|refine Z8d 52 ?_|(first|refine st ?_|(apply B<;>intro hb<;>try cases hb)))
     refine At.mk ?_;refine Qr (ZhG rfl 0 136 rfl rfl (by decide) (by decide) (by decide)) ?_;refine ZkO (ZhE x.st (nblk x q) hx.sl hx.sw hnl hnw [.val (.int .i64 ((x.used+nn:Nat):Int)),.val (.int .u64 (x.total:Int))] ⟨Yt,Yt,Yt⟩) (Z8P (Z6V 0 0) (Z8P (ZjR 0 25 136 136) ZfL)) rfl rfl rfl rfl ⟨ZfU Yt Yt,Yt⟩ ?_;rintro r b' hr1 hr2 rfl;refine gd 56 ⟨?_⟩;(first|refine st ?_|(apply B<;>intro hb<;>try cases hb));refine Qo (Zj3 (l:=hCells (absorb x.st (nblk x q)) (nblk x q) (.val (.int .i64 ((x.used+nn:Nat):Int))) (.val (.int .u64 (x.total:Int)))) rfl rfl rfl (show 161+1<=163 by decide) (ZfT (Z5x hx.sl) hnl _)) ?_;refine go ?_;exact⟨(x.put q,q.drop nn,false),⟨hpok,hq.sub fun x hx=>List.mem_of_mem_drop hx,by show (q.drop nn).length<=_; rw [List.length_drop]; omega,hqf⟩,by show (q.drop nn).length<q.length; rw [List.length_drop]; omega,⟨⟨rfl,show 0<1 by decide⟩,⟨rfl,Zb4 _ _⟩,Yt⟩,⟨⟨by decide,by show _=some (hBx (x.put q)); rw [hput]; rfl,Z5y _ _⟩,Yt⟩⟩
   . refine Qo (Qz rfl (by omega)) ?_;rw [if_neg h136] at hput;refine go ?_;exact⟨(x.put q,q.drop nn,false),⟨hpok,hq.sub fun x hx=>List.mem_of_mem_drop hx,by show (q.drop nn).length<=_; rw [List.length_drop]; omega,hqf⟩,by show (q.drop nn).length<q.length; rw [List.length_drop]; omega,⟨⟨rfl,show 0<1 by decide⟩,⟨rfl,Zb4 _ _⟩,Yt⟩,⟨⟨by decide,by show _=some (hBx (x.put q)); rw [hput]; rfl,Z5y _ _⟩,Yt⟩⟩
theorem Zg6 (kd:IntKind) (l:List Nat) (n:Nat):(crow kd l).take n=crow kd (l.take n):=by unfold crow; rw [List.map_take]
theorem Zg7 (kd:IntKind) (l:List Nat) (n:Nat):(crow kd l).drop n=crow kd (l.drop n):=by unfold crow; rw [List.map_drop]
theorem ZhP (kd:IntKind) (l m:List Nat):crow kd (l++m)=crow kd l++crow kd m:=by unfold crow; rw [Y0r]
section
variable {e:Env} {h:Heap} {n k:Nat} {Eb:Nat}
theorem Z5R {a:Operand} {l r:List PV} {off size:Nat} (ha:ev e a=some (.ptr k 0 off)) (hb:h k=some ⟨Eb,[l]⟩) (hl:off+size<=l.length) (hv:(l.drop off).take size=r):dEval (.load true size a) e h n=some (.agg r,h):=by
 subst hv;exact Z1S ha hb Nat.zero_lt_one (by show cutAt true size off l=_; unfold cutAt; rw [if_pos hl])
theorem Z8W {a v:Operand} {l r:List PV} {size:Nat} (ha:ev e a=some (.ptr k 0 0)) (hv:ev e v=some (.agg r)) (hb:h k=some ⟨size,[l]⟩) (hr:r.length=size) (hl:l.length=size):dEval (.store size a v) e h n=some (pvu,h.upd k ⟨size,[r ++ []]⟩):=by
 have h1:=Z1L (n:=n) (size:=size) ha hv hb rfl hr Nat.zero_lt_one (by show 0+size<=size;omega);rw [h1];have e1:setAt l 0 r=r ++ []:=by
  unfold setAt;rw [List.take_zero,List.nil_append,List.drop_of_length_le (by omega)]
 show some (pvu,h.upd k ⟨size,[setAt l 0 r]⟩)=_;rw [e1]
theorem Zk3 {d s:Operand} {k2 Eb2 o o2 len len2 cap cap2:Nat} {l l2 l':List PV} (hd:ev e d=some (.sl k 0 o len cap)) (hs:ev e s=some (.sl k2 0 o2 len2 cap2)) (hb:h k=some ⟨Eb,[l]⟩) (hb2:h k2=some ⟨Eb2,[l2]⟩) (hE:o+len<=Eb) (hE2:o2+len2<=Eb2) (hl:setAt l o (((l2.drop o2).take len2).take len)=l'):dEval (.copy 1 d s) e h n=some (.val (.int .i64 ((min len2 len:Nat):Int)),h.upd k ⟨Eb,[l']⟩):=by
 subst hl;simp only [dEval,hd,hs,hb,hb2];rw [if_pos ⟨Yt,show 0<1 by decide,hE,show 0<1 by decide,hE2⟩]
 rfl
end
theorem Z27 {e:Env} {h:Heap} {a size:Nat} {r:PV} (hd:dEval (.load true size (.tmp a)) e h 0=some (r,h)):retAll [.cell a true size] e h=some r:=by
 simp [retAll,retVs,retV,hd]
def last0 (h:HS):List Nat:=h.bl.take h.used++List.replicate (136-h.used) 0
theorem Z9W {h:HS} (hh:HOk h):(last0 h).length=136:=by
 have h1:=hh.bl;have h2:=hh.us;simp only [last0,Y0e,Y0o,List.length_replicate];omega
theorem Zg8 {h:HS} (hh:HOk h):W8 (last0 h):=fun x hx=>by
 rcases Y0h.1 hx with h1|h1
 . exact hh.bw x (List.mem_of_mem_take h1)
 . rw [List.eq_of_mem_replicate h1]; decide
theorem W8.set {l:List Nat} (h:W8 l) {i x:Nat} (hx:x<256):W8 (l.set i x):=fun w hw=>by
 rcases List.mem_or_eq_of_mem_set hw with hw|rfl
 . exact h w hw
 . exact hx
theorem Z8X (h:HS):lastB h.bl h.used=((last0 h).set h.used 6).set 135 (g0 ((last0 h).set h.used 6) 135 ^^^ 128):=rfl
theorem Zjb {a b:Nat} (ha:a<256) (hb:b<256):a ^^^ b<256:=Nat.xor_lt_two_pow (n:=8) ha hb
theorem Zg9 {h:HS} (hh:HOk h):(lastB h.bl h.used).length=136:=by rw [Z8X,List.length_set,List.length_set,Z9W hh]
theorem Zga {h:HS} (hh:HOk h):W8 (lastB h.bl h.used):=by
 rw [Z8X];have h1:W8 ((last0 h).set h.used 6):=(Zg8 hh).set (by decide);exact h1.set (Zjb (h1.g _) (by decide))
theorem Zgb {h:HS} (hh:HOk h) (u t:PV):setAt (crow .u8 (List.replicate 136 0)) 0 ((((hCells h.st h.bl u t).drop 25).take h.used).take 136)=crow .u8 (last0 h) ++ []:=by
 have h1:=hh.bl;have h2:=hh.us;have hst:(crow .u64 h.st).length=25:=by rw [Zz,hh.sl]
 have e1:(((hCells h.st h.bl u t).drop 25).take h.used).take 136=crow .u8 (h.bl.take h.used):=by
  unfold hCells;rw [List.drop_append,hst,List.drop_of_length_le (by omega),show 25-25=0 by decide,List.drop_zero,List.nil_append,List.take_append,Zz,show h.used-h.bl.length=0 by omega,List.take_zero,Y0p,List.take_take,Nat.min_eq_right (by omega),Zg6]
 rw [e1];unfold setAt;rw [List.take_zero,List.nil_append,Zz,Y0o,show min h.used h.bl.length=h.used by omega,Nat.zero_add,Zg7,List.drop_replicate,<- ZhP,Y0p]
 rfl
def dPart (st:List Nat) (i:Nat):List Nat:=(List.range 32).map fun k=>if k<i then digI st k else 0
theorem Z3T (st:List Nat) (i:Nat):(dPart st i).length=32:=by simp [dPart]
theorem Ze9 (st:List Nat) {i:Nat} (h:i<32):(dPart st i).set i (digI st i)=dPart st (i+1):=by
 refine Z5w (by rw [List.length_set,Z3T,Z3T]) fun x hx=>?_;rw [List.length_set,Z3T] at hx;rw [ZfO,Z3T];unfold dPart;rw [Z3Q _ hx,Z3Q _ hx];by_cases h1:x=i
 . subst h1; rw [if_pos ⟨rfl,h⟩,if_pos (by omega)]
 . rw [if_neg (by omega)];by_cases h2:x<i
   . rw [if_pos h2,if_pos (by omega)]
   . rw [if_neg h2,if_neg (by omega)]
theorem Zgc (st:List Nat):dPart st 32=(List.range 32).map (digI st):=List.map_congr_left fun x hx=>by rw [if_pos (List.mem_range.1 hx)]
def sumOf (h:HS):List Nat:=(List.range 32).map (digI (absorb h.st (lastB h.bl h.used)))
theorem ZkA (x:HS) (hx:HOk x):PSpec Tryz.prog 158 (hBx x) [] (fun r b'=>r=.agg (crow .u8 (sumOf x))/\b'=hBx x):=by
 refine Z1M ok158 (Nat.le_of_ble_eq_true rfl) fun C hC=>?_;have hCx:=fun (u t:PV)=>Z7Q (u:=u) (t:=t) hx.sl hx.bl;have hus:=hx.us;have hl0:=Z9W hx;have hw0:=Zg8 hx;refine gd 13 ⟨?_⟩
 refine Qo (Z5R (l:=hCells x.st x.bl (.val (.int .i64 (x.used:Int))) (.val (.int .u64 (x.total:Int)))) (r:=crow .u64 x.st) rfl rfl (by rw [hCx]; decide) (by
  unfold hCells
  rw [List.drop_zero,List.take_append,Zz,hx.sl,Nat.sub_self,List.take_zero,Y0p,List.take_of_length_le (by rw [Zz,hx.sl]; exact Y0m _)])) ?_
 (first|refine st ?_|(apply B<;>intro hb<;>try cases hb));refine Qo (Z8W (l:=crow .u64 (List.replicate 25 0)) rfl rfl rfl (by rw [Zz,hx.sl]) rfl) ?_;refine gd 21 ⟨?_⟩;refine Qr (Ze2 (l:=hCells x.st x.bl (.val (.int .i64 (x.used:Int))) (.val (.int .u64 (x.total:Int)))) rfl rfl (by rw [hCx]; decide) (ZjZ hx.sl hx.bl)) ?_;refine Qr (ZhG rfl 0 x.used rfl rfl (by omega) (by omega) (by omega)) ?_;refine Qr (Zk3 (l:=crow .u8 (List.replicate 136 0)) (l2:=hCells x.st x.bl (.val (.int .i64 (x.used:Int))) (.val (.int .u64 (x.total:Int)))) rfl rfl rfl rfl (by decide) (by show 25+0+(x.used-0)<=163;omega) (Zgb hx _ _)) ?_;refine gd 27 ⟨?_⟩;refine Qo (Ze2 (l:=hCells x.st x.bl (.val (.int .i64 (x.used:Int))) (.val (.int .u64 (x.total:Int)))) rfl rfl (by rw [hCx]; decide) (ZjZ hx.sl hx.bl)) ?_;refine Qo (Z2V rfl rfl x.used rfl (by omega)) ?_;refine Qo (Z8Q (kd:=.u8) (L:=last0 x) (x:=6) (Eb:=136) (pre := []) (post := []) (o:=0) rfl rfl rfl rfl (by omega) (by omega)) ?_;have hs1:((last0 x).set x.used 6).length=136:=by rw [List.length_set]; exact hl0
 have hs2:W8 ((last0 x).set x.used 6):=hw0.set (by decide);refine gd 30 ⟨?_⟩;refine Qo (Z3w (kd:=.u8) (L:=(last0 x).set x.used 6) (pre := []) (post := []) (o:=0) (j:=135) rfl rfl rfl (by omega)) ?_;refine Zg (v:=((g0 ((last0 x).set x.used 6) 135 ^^^ 128:Nat):Int)) rfl rfl rfl (u8_xor_nat _ 128 (hs2.g _) (by decide)) ?_;(first|refine st ?_|(apply B<;>intro hb<;>try cases hb));refine Qo (Z8Q (kd:=.u8) (L:=(last0 x).set x.used 6) (x:=g0 ((last0 x).set x.used 6) 135 ^^^ 128) (Eb:=136) (pre := []) (post := []) (o:=0) (j:=135) rfl rfl rfl rfl (by omega) (by omega)) ?_;rw [<- Z8X]
 iterate 1 (first|refine st ?_|(apply B<;>intro hb<;>try cases hb))
 refine Z6e hC (n':=4) [(2,.ptr 1 0 0),(3,.ptr 2 0 0),(4,.ptr 3 0 0)] [(0,hBx x),(1,⟨32,[crow .u8 (List.replicate 32 0)]⟩),(2,⟨25,[crow .u64 x.st ++ []]⟩),(3,⟨136,[crow .u8 (lastB x.bl x.used) ++ []]⟩)] (by decide)
  ⟨⟨rfl,show 1<4 by decide⟩,⟨rfl,show 2<4 by decide⟩,⟨rfl,show 3<4 by decide⟩,Yt⟩ ⟨⟨by decide,rfl,Z5y _ _⟩,⟨by decide,by kernel_rfl,Zb (fun _ h=>h.elim) _ (show pureLL [crow .u8 (List.replicate 32 0)] from ⟨ZM _ _,Yt⟩)⟩,⟨by decide,rfl,inn1 Yt⟩,⟨by decide,rfl,inn1 Yt⟩,Yt⟩ ?_
 iterate 2 (first|refine st ?_|(apply B<;>intro hb<;>try cases hb))
 refine Qo (ZhG rfl 0 136 rfl rfl (by decide) (by decide) (by decide)) ?_;refine Z1D rfl rfl (ZhF x.st (lastB x.bl x.used) hx.sl hx.sw (Zg9 hx) (Zga hx) (hBx x) _ (Z3r x) (show pureLL [crow .u8 (List.replicate 32 0)] from ⟨ZM _ _,Yt⟩)) ?_;rintro n' r h' ⟨rfl,hr,rfl⟩;have hsl:=Z5x (bl:=lastB x.bl x.used) hx.sl;have hsw:=ZcQ hx.sw (Zga hx);have hfin:sumOf x=dPart (absorb x.st (lastB x.bl x.used)) 32:=(Zgc _).symm;generalize absorb x.st (lastB x.bl x.used)=ws at hsl hsw hfin;have hz:pureLL [crow .u8 (List.replicate 32 0)]:=⟨ZM _ _,Yt⟩
 refine go ?_;refine Zn hC (fun i=>i<=32) (fun i=>32-i) 5 (fun i => [(2,.ptr 1 0 0),(3,.ptr 2 0 0),(5,.ptr 4 0 0),(35,Yv i)]) (fun i => [(0,hBx x),(1,⟨32,[crow .u8 (List.replicate 32 0)]⟩),(2,⟨25,[crow .u64 ws ++ []]⟩),(4,⟨32,[crow .u8 (dPart ws i) ++ []]⟩)]) (by decide) 0 (Y0l _)
  ⟨⟨rfl,show 1<5 by decide⟩,⟨rfl,show 2<5 by decide⟩,⟨rfl,show 4<5 by decide⟩,⟨rfl,Yt⟩,Yt⟩ ⟨⟨by decide,rfl,Z5y _ _⟩,⟨by decide,rfl,Zb (fun _ h=>h.elim) _ hz⟩,⟨by decide,rfl,inn1 Yt⟩,⟨by decide,by kernel_rfl,inn1 Yt⟩,Yt⟩ ?_
 intro i hi;have hinc:IntKind.i64.wrap ((i:Int)+1)=((i+1:Nat):Int):=wi (i+1) (by omega);have hdl:=Z3T ws i;refine gd 36 ⟨?_⟩;by_cases hil:i<32
 . refine Qo (Qy rfl (by omega)) ?_;refine gd 40 ⟨?_⟩
   refine Zg (v:=((i / 8:Nat):Int)) rfl rfl rfl (by
    rw [show Int.tdiv (i:Int) 8=((i / 8:Nat):Int) from (Int.ofNat_tdiv i 8).symm]
    exact wi _ (by omega)) ?_
   refine Qo (Z2V rfl rfl (i / 8) rfl (by omega)) ?_;refine Qo (Z3w (kd:=.u64) (L:=ws) (pre := []) (post := []) (o:=0) rfl rfl rfl (by omega)) ?_;refine gd 44 ⟨?_⟩;refine Zg (v:=((i % 8:Nat):Int)) rfl rfl rfl (Int.ofNat_tmod i 8).symm ?_;refine Zg (v:=((8*(i % 8):Nat):Int)) rfl rfl rfl (wi (8*(i % 8)) (by omega)) ?_;refine Z3b rfl rfl (by omega) (shr64 (g0 ws (i / 8)) (8*(i % 8)) (by omega)) rfl ?_;refine Zg (v:=((digI ws i:Nat):Int)) rfl rfl rfl (by rw [IntKind.wrap_u8]; rfl) ?_;refine Qo (Z2V rfl rfl i rfl (by omega)) ?_;refine Qo (Z8Q (kd:=.u8) (L:=dPart ws i) (x:=digI ws i) (Eb:=32) (pre := []) (post := []) (o:=0) rfl rfl rfl rfl (by omega) (by omega)) ?_;rw [Ze9 ws hil];refine go ?_;exact⟨i+1,by omega,by omega,⟨⟨rfl,show 1<5 by decide⟩,⟨rfl,show 2<5 by decide⟩,⟨rfl,show 4<5 by decide⟩,⟨by show some _=some _; rw [hinc],Yt⟩,Yt⟩,⟨⟨by decide,rfl,Z5y _ _⟩,⟨by decide,rfl,Zb (fun _ h=>h.elim) _ hz⟩,⟨by decide,rfl,inn1 Yt⟩,⟨by decide,rfl,inn1 Yt⟩,Yt⟩⟩
 . obtain rfl : i = 32 := by omega
   refine Qo (Qz rfl (by omega)) ?_;rw [<- hfin] at hdl;rw [<- hfin];have hcl:(crow .u8 (sumOf x)).length=32:=by rw [Zz,hdl]
   generalize hcc:crow .u8 (sumOf x)=cc at hcl;have hcp:pureL cc:=hcc▸ZM _ _;refine gd 50 ⟨?_⟩;refine Qo (Z5R (l:=cc ++ []) (r:=cc) rfl rfl (by rw [Y0p,hcl]; decide) (by rw [Y0p,List.drop_zero,List.take_of_length_le (by rw [hcl]; exact Y0m _)])) ?_;refine Qo (Z8W (l:=crow .u8 (List.replicate 32 0)) rfl rfl rfl hcl rfl) ?_;refine go ?_;refine⟨_,.agg cc,?_,.inl rfl,_,rfl,hcp,Z3r x,rfl,rfl⟩;exact Z27 (Z5R (l:=cc ++ []) (r:=cc) rfl rfl (by rw [Y0p,hcl]; decide) (by rw [Y0p,List.drop_zero,List.take_of_length_le (by rw [hcl]; exact Y0m _)]))
end
section
open Go.RowKit
end
section
open Go.RowKit
attribute [local irreducible] aw opsK dK
theorem ZbI:Spec Tryz.prog 120 [setN 0] (· = .vec [] true):=by
 refine Yp ok120 fun C hC=>?_;refine Zs ?_;refine Zc ?_;refine Z5 rfl rfl rfl ?_;refine gd 9 ⟨?_⟩;refine Qe (Z3l 0 (by decide)) ⟨Z1 0,Yt⟩ ?_;refine go ?_;exact Z7 rfl Yt rfl
theorem Zea (N:Nat) (h0:N≠0) (hN:N<256):Spec Tryz.prog 120 [setN N] (· = .vec (bys [N]) false):=by
 have h64:N<18446744073709551616:=by omega
 have hs:setN N=.agg [.vec [[.val (.int .u64 (N:Int))]] false]:=by unfold setN; rw [Z43 h64 h0]; rfl
 have hg:=Z3l N h64;rw [decide_eq_true h0] at hg;have hb:=Zfg (k:=8) hN;have hp:=Z6y h0;have ht:topN N=(bl N:Int)-1:=by unfold topN; rw [if_neg h0]
 have hq:IntKind.i64.wrap (Int.tdiv (topN N) 8)=0:=by
  rw [ht];obtain⟨k,hk⟩:∃ k:Nat,(bl N:Int)-1=(k:Int)/\k<8:=⟨bl N-1,by omega,by omega⟩
  rw [hk.1];have:∀ k,k<8->IntKind.i64.wrap (Int.tdiv ((k:Nat):Int) 8)=0:=by decide
  exact this k hk.2
 refine Yp ok120 fun C hC=>?_;rw [hs];refine Zs ?_;refine Zc ?_;refine Z5 rfl rfl rfl ?_;refine gd 9 ⟨?_⟩;rw [hs] at hg;refine Qe hg ⟨⟨⟨⟨Yt,Yt⟩,Yt⟩,Yt⟩,Yt⟩ ?_;refine gd 15 ⟨?_⟩;refine Zg rfl rfl rfl hq ?_;refine go ?_;refine Z1F 1 ?_;unfold roundsQ;refine gd 34 ⟨?_⟩;refine Z3b rfl rfl (by decide) (Z3D N 0 (by decide)) rfl ?_
 refine Zg (v:=(N:Int)) rfl rfl rfl (by
  rw [Nat.pow_zero,Nat.div_one]
  exact IntWalk.u8_in _ ⟨by omega,by omega⟩) ?_
 refine gd 38 ⟨?_⟩;refine Zf (Zp (k:=5) (b:=⟨1,bys [N]⟩) rfl rfl (Zi [N])) ?_;refine go ?_;exact Z7 rfl (Zi [N]) rfl
def bysS (N:Nat):PV:=if N=0 then .vec [] true else .vec (bys [N]) false
theorem ZbJ (N:Nat) (hN:N<256):Spec Tryz.prog 120 [setN N] (· = bysS N):=by
 unfold bysS;by_cases h0:N=0
 . subst h0; rw [if_pos rfl]; exact ZbI
 . rw [if_neg h0]; exact Zea N h0 hN
def celK (kd:IntKind) (x:Nat):List PV := [.val (.int kd (x:Int))]
def rowsK1 (kd:IntKind) (l:List Nat):List (List PV):=l.map (celK kd)
theorem Z3u (kd:IntKind) (l:List Nat):pureLL (rowsK1 kd l):=Z9 (enc:=celK kd) (fun _=>⟨Yt,Yt⟩) l
theorem Z28 (kd:IntKind) (l:List Nat):(rowsK1 kd l).length=l.length:=by simp [rowsK1]
theorem Z7X (kd:IntKind) (l:List Nat) {j:Nat} (hj:j<l.length):(rowsK1 kd l).getD j []=celK kd (l.getD j 0):=by
 unfold rowsK1;simp [Y0b,hj]
theorem Zk4 {kd:IntKind} {e:Env} {h:Heap} {n:Nat} {a:Operand} {k j:Nat} {L:List Nat} (ha:ev e a=some (.ptr k j 0)) (hb:h k=some ⟨1,rowsK1 kd L⟩) (hj:j<L.length) :
 dEval (.load false 1 a) e h n=some (.val (.int kd ((L.getD j 0:Nat):Int)),h) :=
 Z1S ha hb (by rw [Z28]; exact hj) (by rw [Z7X kd L hj]; rfl)
theorem Zk5 {kd:IntKind} {e:Env} {h:Heap} {n:Nat} {a v:Operand} {k j x:Nat} {L:List Nat} (ha:ev e a=some (.ptr k j 0)) (hv:ev e v=some (.val (.int kd (x:Int)))) (hb:h k=some ⟨1,rowsK1 kd L⟩) (hj:j<L.length) :
 dEval (.store 1 a v) e h n=some (pvu,h.upd k ⟨1,rowsK1 kd (L.set j x)⟩):=by
 have:=Z1L (n:=n) (size:=1) ha hv hb rfl rfl (show j<(rowsK1 kd L).length by rw [Z28]; exact hj) (Y0m 1);rw [this];have e1:(rowsK1 kd L).set j (setAt ((rowsK1 kd L).getD j []) 0 (PV.val (.int kd (x:Int))).cells)=rowsK1 kd (L.set j x):=by
  rw [Z7X kd L hj];unfold rowsK1;rw [List.map_set]
  rfl
 simp only;rw [e1]
def revI (l:List Nat) (i:Nat):List Nat:=(List.range l.length).map fun x=>if x<i \/ l.length-i<=x then l.getD (l.length-1-x) 0 else l.getD x 0
theorem Z2M (l:List Nat) (i:Nat):(revI l i).length=l.length:=by simp [revI]
theorem Z4j (l:List Nat) (i:Nat) {x:Nat} (hx:x<l.length):(revI l i).getD x 0=if x<i \/ l.length-i<=x then l.getD (l.length-1-x) 0 else l.getD x 0:=by
 unfold revI;simp [Y0b,hx]
theorem Z71 {l m:List Nat} (hl:l.length=m.length) (h:∀ x,x<l.length->l.getD x 0=m.getD x 0):l=m:=by
 refine List.ext_getElem hl fun i h1 h2=>?_;have:=h i h1;simpa [Y0b,h1,h2] using this
theorem Zgd (l:List Nat):revI l 0=l:=Z71 (Z2M l 0) fun x hx=>by
 rw [Z2M] at hx;rw [Z4j l 0 hx,if_neg (by omega)]
theorem ZhQ (l:List Nat) {i:Nat} (hi:l.length<=2*i+1):revI l i=l.reverse:=Z71 (by rw [Z2M,List.length_reverse]) fun x hx=>by
 rw [Z2M] at hx;rw [Z4j l i hx];have hr:l.reverse.getD x 0=l.getD (l.length-1-x) 0:=by
  simp only [Y0b];rw [List.getElem?_reverse hx]
 rw [hr]
 split
 . rfl
 . rw [show x = l.length - 1 - x by omega];rw [show l.length-1-(l.length-1-x)=x by omega];rw [show l.length-1-x=x by omega]
theorem Z9X (L:List Nat) (j x y:Nat):(L.set j x).getD y 0=if y=j/\j<L.length then x else L.getD y 0:=by
 simp only [Y0b,List.getElem?_set];by_cases h:j=y
 . subst h;by_cases hj:j<L.length
   . simp [hj]
   . simp [hj]
 . rw [if_neg h,if_neg (fun c=>h c.1.symm)]
theorem Zge (l:List Nat) {i:Nat} (hi:2*i+1<l.length):((revI l i).set i ((revI l i).getD (l.length-1-i) 0)).set (l.length-1-i) ((revI l i).getD i 0)=revI l (i+1):=by
 refine Z71 (by simp [Z2M]) fun x hx=>?_;have hx:x<l.length:=by simpa [Z2M] using hx
 rw [Z9X,Z9X,List.length_set,Z2M,Z4j l (i+1) hx,Z4j l i hx,Z4j l i (show l.length-1-i<l.length by omega),Z4j l i (show i<l.length by omega)];by_cases h1:x=l.length-1-i
 . rw [if_pos ⟨h1, by omega⟩, if_neg (by omega), if_pos (by omega)];rw [h1,show l.length-1-(l.length-1-i)=i by omega]
 . rw [if_neg (fun c => h1 c.1)];by_cases h2:x=i
   . rw [if_pos ⟨h2,by omega⟩,if_neg (by omega),if_pos (by omega),h2]
   . rw [if_neg (fun c => h2 c.1)];by_cases h3:x<i \/ l.length-i<=x
     . rw [if_pos h3,if_pos (by omega)]
     . rw [if_neg h3,if_neg (by omega)]
theorem Zeb (l:List Nat) (hl:l.length<=1000000):QSpec Tryz.prog 154 (fun i => [.own i]) ⟨1,rowsK1 .u8 l⟩ fun r b'=>b'=⟨1,rowsK1 .u8 l.reverse⟩:=by
 have hl1:=Z28 .u8 l;refine Z6W ok154 (Nat.le_of_ble_eq_true rfl) fun C hC=>?_;refine gd 5 ⟨?_⟩;refine Zg (v:=(l.length:Int)) rfl rfl rfl (by rw [hl1]) ?_;refine Zg (v:=(l.length:Int)-1-((0:Nat):Int)) rfl rfl rfl (by rw [Int.natCast_zero,Int.sub_zero]; exact Y0v _ ⟨by omega,by omega⟩) ?_;refine go ?_;refine Zn hC (fun i=>2*i<=l.length+1) (fun i=>l.length+1-i) 1 (fun i => [(0,.own 0),(2,Yv i),(3,.val (.int .i64 ((l.length:Int)-1-(i:Int))))]) (fun i => [(0,⟨1,rowsK1 .u8 (revI l i)⟩)]) (by decide) 0 (by omega)
  ⟨⟨rfl,Nat.zero_lt_one⟩,⟨rfl,Yt⟩,⟨rfl,Yt⟩,Yt⟩ ⟨⟨by decide,by rw [Zgd]; rfl,Zb (fun _ h=>h.elim) _ (Z3u _ _)⟩,Yt⟩ ?_
 intro i hi;have hrl:=Z2M l i;have hinc:IntKind.i64.wrap ((i:Int)+1)=((i+1:Nat):Int):=Y0v _ ⟨by omega,by omega⟩;have hdec:IntKind.i64.wrap ((l.length:Int)-1-(i:Int)-1)=(l.length:Int)-1-((i+1:Nat):Int):=by
  rw [show (l.length:Int)-1-(i:Int)-1=(l.length:Int)-1-((i+1:Nat):Int) by omega];exact Y0v _ ⟨by omega,by omega⟩
 refine gd 9 ⟨?_⟩;by_cases hil:2*i+1<l.length
 . refine Qo (Qy rfl (by omega)) ?_;have hj:l.length-1-i<(revI l i).length:=by omega
   have hi2:i<(revI l i).length:=by omega
   refine gd 20 ⟨?_⟩;refine Qr (ZE rfl rfl rfl (l.length-1-i) (by omega) (by rw [Z28]; exact hj) rfl) ?_;refine Qr (Zk4 (kd:=.u8) (L:=revI l i) rfl rfl hj) ?_;refine gd 24 ⟨?_⟩;refine Qr (ZE rfl rfl rfl i rfl (by rw [Z28]; exact hi2) rfl) ?_;refine Qr (Zk4 (kd:=.u8) (L:=revI l i) rfl rfl hi2) ?_;refine Qr (ZE rfl rfl rfl i rfl (by rw [Z28]; exact hi2) rfl) ?_;refine Qr (Zk5 (kd:=.u8) (L:=revI l i) rfl rfl rfl hi2) ?_;refine Qr (ZE rfl rfl rfl (l.length-1-i) (by omega) (by rw [Z28,List.length_set]; exact hj) rfl) ?_;refine Qr (Zk5 (kd:=.u8) rfl rfl rfl (by rw [List.length_set]; exact hj)) ?_;rw [Zge l hil];refine go ?_;exact⟨i+1,by omega,by omega,⟨⟨rfl,Nat.zero_lt_one⟩,⟨by show some _=some _; rw [hinc],Yt⟩,⟨by show some _=some _; rw [hdec],Yt⟩,Yt⟩,⟨⟨by decide,rfl,Zb (fun _ h=>h.elim) _ (Z3u _ _)⟩,Yt⟩⟩
 . refine Qo (Qz rfl (by omega)) ?_;refine go ?_;exact⟨_,_,rfl,.inl rfl,_,rfl,Yt,Z3u _ _,by rw [ZhQ l (by omega)]⟩
end
section
open Go.RowKit
def kid1 (q:List PV) (i:Nat):Bx:=⟨q.length+1,[.own i :: q]⟩
section
variable {P:Program} {C:Ctx} {Fr:Nat->Prop} {e:Env} {h:Heap} {n:Nat} {F:Froz} {φ:Locs} {a:Act} {w:World}
theorem ObAt.kid1 {φ':Locs} {loc:Loc} {q:List PV} {i i':Nat} (h2:ObAt F φ w loc (kid1 q i)) (hi:φ i=φ' i') (hq:pureL q):ObAt F φ' w loc (Go.Proofs.YtmnbbggaoembeaaGreatDoor.kid1 q i'):=by
 have h2:=h2.cellsB (show 0<q.length+1 by omega);refine .inl ⟨h2.esz,h2.pos,h2.len,h2.cap,h2.max,fun c hc=>?_,fun hc=>?_⟩
 . have hc : c ∈ [PV.own i' :: q] := hc;rw [Y0g] at hc;subst hc;rw [<- h2.esz]; rfl
 . obtain ⟨x, hx, hs, cells, t, hg, hsz, hrep⟩ := h2.room hc;refine⟨x,hx,hs,cells,t,hg,hsz,fun a b ha hb=>⟨(hrep a b ha hb).1,?_⟩⟩;have hr:=(hrep a b ha hb).2;have hl:loc.len=1:=by rw [<- h2.len]; rfl
   obtain rfl:a=0:=by omega
   match b,hr with
   | 0,hr=>exact Z70 hi hr
   | b+1,hr=>exact Rep.pure (p:=q.getD b pvu) hr (ZN hq b)
def K1Spec (P:Program) (f:FuncId) (pre post q:List PV) (b1:Bx) (R:PV->Bx->Prop):Prop :=
 ISpec P f 2 (pre++.ptr 0 0 0 :: post) (heapL [(0,kid1 q 1),(1,b1)]) fun n' r h'=>∃ j1 b1',j1≠0/\h' 0=some (kid1 q j1)/\h' j1=some b1'/\r.pure/\pureLL b1'.elems/\R r b1'
theorem K1Spec.run {f:FuncId} {pre post q:List PV} {b1:Bx} {R:PV->Bx->Prop} (hs:K1Spec P f pre post q b1 R) (hpre:pureL pre) (hpost:pureL post) (hq:pureL q) (hp1:pureLL b1.elems) {k i n:Nat} (hn:Fr n) (hk:h k=some (kid1 q i)) (hi:h i=some b1) (hik:i≠k)
 (s:St' C Fr e h F φ a w) {vs:Array Value} (hv:RepL F φ vs (pre++.ptr k 0 0 :: post)) :
 Calls P f vs w fun en w'=>∃ v r b1' F' φ',en=.returned v/\(r.pure/\pureLL b1'.elems/\R r b1')/\Rep F' φ' v r/\St' C (fun x=>Fr x/\x≠n) e (((h.del i).upd k (kid1 q n)).upd n b1') F' φ' a w':=by
 obtain⟨lk,hlk,hbk,hhk⟩:=s.live k _ hk;obtain⟨li,hli,hbi,hhi⟩:=s.live i _ hi
 let φ1:Locs:=fun x=>if x=0 then some lk else if x=1 then some li else none
 let C1:Ctx:=⟨w,fun g=>lk.has g \/ li.has g,F,C.nt,φ1⟩
 have hφn:φ n=none:=s.free n hn;have hnone:∀ {x:Nat} {bx:Bx},h x=some bx->x≠n:=by
  intro x bx hx;obtain⟨loc,h1,_⟩:=s.live x bx hx;exact fun e=>(by rw [e,hφn] at h1; cases h1)
 have hG:∀ g,C1.G g->C.w0.heap.size<=g \/ C.G g:=fun g hg=>hg.elim (fun h=>(hhk g h).1) fun h=>(hhi g h).1;have hth:∀ {loc:Loc} {b:Bx} {g:Nat},ObAt F φ w loc b->loc.has g->∀ o:Obj,w.heap[g]?=some o->¬ o=.deferred (some []):=by
  rintro loc b g hb hg o ho rfl;rcases hb.there hg with⟨cells,t,hg⟩|⟨es,t,hg⟩
  . rw [hg] at ho; cases ho
  . rw [hg] at ho; cases ho
 have hcells:∀ g,C1.G g->∀ o:Obj,w.heap[g]?=some o->¬ o=.deferred (some []):=fun g hg=>hg.elim (hth hbk) (hth hbi);have h0:∀ {x:Nat} {b0:Bx},(heapL [(0,kid1 q 1),(1,b1)]) x=some b0->(x=0/\b0=kid1 q 1) \/ (x=1/\b0=b1):=by
  intro x b0 hx;have:=Z1x hx;simp only [List.mem_cons,Prod.mk.injEq,List.not_mem_nil,or_false] at this;exact this
 have s1:St' C1 (fun x=>2<=x) (fun _=>none) (heapL [(0,kid1 q 1),(1,b1)]) F φ1 { a with defers := [] } w:=by
  refine { nt:=s.nt,glob:=s.glob,marks:=Marks.nil rfl,loc0:=fun i x hx=>hx,free:=fun i hi=>?_,env:=fun j p hp=>(by cases hp),froz:=s.froz,ext:=fun _ _ h=>h,old:=fun _ _ _=>rfl,os:=rfl,tape:=rfl,output:=rfl,size:=Y0m _,kept:=fun _ _ _=>rfl,live:=fun x b0 hx=>?_,sep:=fun x y bx bY lx ly g hx hy hlx hly hgx hgy=>?_ }
  . simp only [φ1]; rw [if_neg (by omega),if_neg (by omega)]
  . rcases h0 hx with ⟨rfl, rfl⟩ | ⟨rfl, rfl⟩
    . exact⟨lk,rfl,hbk.kid1 (by rw [hli]; rfl) hq,fun g hg=>⟨.inr (.inl hg),(hhk g hg).2⟩⟩
    . exact⟨li,rfl,hbi.names hp1,fun g hg=>⟨.inr (.inr hg),(hhi g hg).2⟩⟩
  . rcases h0 hx with ⟨rfl, rfl⟩ | ⟨rfl, rfl⟩ <;> rcases h0 hy with ⟨rfl, rfl⟩ | ⟨rfl, rfl⟩ <;> first | rfl | skip
    all_goals
     obtain rfl:=Option.some.inj hlx;obtain rfl:=Option.some.inj hly;exfalso
    . exact hik (s.sep k i _ _ _ _ g hk hi hlk hli hgx hgy).symm
    . exact hik (s.sep i k _ _ _ _ g hi hk hli hlk hgx hgy)
 have hv1:RepL F φ1 vs (pre++.ptr 0 0 0 :: post):=Z7S hpre hpost (fun v hr=>by
  obtain⟨loc',x,g1,gz,g2,g3,g4⟩:=hr.ptr_inv;obtain rfl:loc'=lk:=by rw [hlk] at g1; simpa using g1.symm
  rw [g4]
  exact .ptr 0 0 0 loc' x rfl gz g2 g3) hv
 refine (hs.2 C1 _ F φ1 { a with defers := [] } w vs s1 hv1).mono ?_;rintro en w' ⟨v,r,n',h',F',φ',rfl,⟨j1,b1',hj10,hh0,hh1,hrp,hp1',hR⟩,hvr,s'⟩;obtain⟨l0,m01,m02,m03⟩:=s'.live 0 _ hh0;obtain⟨l1,m11,m12,m13⟩:=s'.live j1 _ hh1;obtain rfl:l0=lk:=by
  have:=s'.loc0 0 lk rfl;rw [m01] at this; exact Option.some.inj this
 let φ2:Locs:=fun x=>if x=n then some l1 else φ x
 have hφ2:φ2 n=some l1:=by simp [φ2]
 have hφ3:∀ {x:Nat},x≠n->φ2 x=φ x:=fun {x} h1=>by simp only [φ2]; rw [if_neg h1]
 have hφ4:∀ x y,φ x=some y->φ2 x=some y:=fun x y hx=>by
  rw [hφ3 (fun e=>by rw [e,hφn] at hx; cases hx)]; exact hx
 have hkn:=hnone hk;have src:∀ {x:Nat} {bx:Bx},(((h.del i).upd k (kid1 q n)).upd n b1') x=some bx ->
  (x=n/\bx=b1') \/ (x=k/\bx=kid1 q n) \/ (x≠k/\x≠i/\h x=some bx):=by
  intro x bx hx;by_cases e2:x=n
  . subst e2; rw [Heap.upd_same] at hx; exact .inl ⟨rfl,(Option.some.inj hx).symm⟩
  rw [Heap.upd_ne _ _ e2] at hx;by_cases e3:x=k
  . subst e3; rw [Heap.upd_same] at hx; exact .inr (.inl ⟨rfl,(Option.some.inj hx).symm⟩)
  rw [Heap.upd_ne _ _ e3] at hx;obtain⟨e5,hx⟩:=Heap.del_some hx;exact .inr (.inr ⟨e3,e5,hx⟩)
 have hold:∀ {x:Nat} {bx:Bx} {lx:Loc} {g:Nat},x≠k->x≠i->h x=some bx->φ x=some lx->lx.has g->¬ C1.G g:=by
  intro x bx lx g h1 h2 hx hlx hg hG;rcases hG with hg' | hg'
  . exact h1 (s.sep x k _ _ _ _ g hx hk hlx hlk hg hg')
  . exact h2 (s.sep x i _ _ _ _ g hx hi hlx hli hg hg')
 have hnew:∀ {lx:Loc} {g:Nat},(w.heap.size<=g \/ C1.G g)->C.w0.heap.size<=g \/ C.G g:=fun {lx g} h1=>h1.elim (fun h1=>.inl (Y03 s.size h1)) (hG g);refine⟨v,r,b1',F',φ2,rfl,⟨hrp,hp1',hR⟩,hvr.pure hrp,?_⟩
 refine { nt := s.nt, glob := s'.glob, marks := s.marks.mono (fun g hg => by rw [s'.kept g (Array.getElem?_eq_some_iff.1 hg).1 (fun hg' => hcells g hg' _ hg rfl)]; exact hg), loc0 := fun i x hx => hφ4 i x (s.loc0 i x hx), free := fun x hx => by rw [hφ3 hx.2]; exact s.free x hx.1, env := fun j p hp => ⟨(s.env j p hp).1, (s.env j p hp).2.mono s'.ext hφ4⟩, froz := s'.froz, ext := fun x v hx => s'.ext _ _ (s.ext x v hx),
          old:=fun x hx hg=>?_,os:=s'.os.trans s.os,tape:=s'.tape.trans s.tape,output:=s'.output.trans s.output,size:=Y03 s.size s'.size,kept:=fun g hk hg=>?_,live:=fun x bx hx=>?_,sep:=fun x y bx bY lx ly g hx hy hlx hly hgx hgy=>?_ }
 . have hx2 : x.block < w.heap.size := Nat.lt_of_lt_of_le hx s.size;rw [s'.old x hx2 fun hg'=>(hG _ hg').elim (fun h1=>absurd hx (Nat.not_lt.2 h1)) hg];exact s.old x hx hg
 . rw [s'.kept g (Nat.lt_of_lt_of_le hk s.size) fun hg' => (hG _ hg').elim (fun h1 => absurd hk (Nat.not_lt.2 h1)) hg];exact s.kept g hk hg
 . rcases src hx with ⟨rfl, rfl⟩ | ⟨rfl, rfl⟩ | ⟨h1, h2, hx⟩
   . exact⟨l1,hφ2,m12.names hp1',fun g hg=>⟨hnew (lx:=l1) (m13 g hg).1,(m13 g hg).2⟩⟩
   . exact⟨l0,hφ4 _ _ hlk,m02.kid1 (by rw [m11,hφ2]) hq,fun g hg=>⟨(hhk g hg).1,(m03 g hg).2⟩⟩
   . obtain ⟨lx, g1, g2, g3⟩ := s.live x bx hx;have hout:∀ g,lx.has g->¬ C1.G g:=fun g hg=>hold h1 h2 hx g1 hg;have hblk:∀ g,lx.has g->w'.heap[g]?=w.heap[g]?:=fun g hg=>s'.kept g (s.has_lt hx g1 hg) (hout g hg);have hne:=hnone hx;refine⟨lx,by rw [hφ3 hne]; exact g1,g2.mono s'.ext hφ4 hblk,fun g hg=>⟨(g3 g hg).1,fun z hz=>?_⟩⟩;rw [s'.old z (by rw [hz]; exact s.has_lt hx g1 hg) (by rw [hz]; exact hout g hg)];exact (g3 g hg).2 z hz
 . have cls : ∀ {x : Nat} {bx : Bx} {lx : Loc} {g : Nat}, (((h.del i).upd k (kid1 q n)).upd n b1') x = some bx -> φ2 x = some lx -> lx.has g ->
    (h x=some bx/\φ x=some lx/\g<w.heap.size/\¬ C1.G g) \/ ((w.heap.size<=g \/ C1.G g)/\∃ y b',h' y=some b'/\φ' y=some lx/\((x=n/\y=j1) \/ (x=k/\y=0))):=by
    intro x bx lx g hx hlx hg;rcases src hx with⟨rfl,rfl⟩|⟨rfl,rfl⟩|⟨h1,h2,hx⟩
    . rw [hφ2] at hlx; cases hlx;exact .inr ⟨(m13 g hg).1,j1,_,hh1,m11,.inl ⟨rfl,rfl⟩⟩
    . rw [hφ4 _ _ hlk] at hlx; cases hlx;exact .inr ⟨(m03 g hg).1,0,_,hh0,m01,.inr ⟨rfl,rfl⟩⟩
    . have hne := hnone hx;rw [hφ3 hne] at hlx;exact .inl ⟨hx,hlx,s.has_lt hx hlx hg,hold h1 h2 hx hlx hg⟩
   rcases cls hx hlx hgx with⟨a1,a2,a3,a4⟩|⟨a1,y1,c1,a2,a3,a4⟩<;>rcases cls hy hly hgy with⟨d1,d2,d3,d4⟩|⟨d1,y2,c2,d2,d3,d4⟩
   . exact s.sep x y bx bY lx ly g a1 d1 a2 d2 hgx hgy
   . rcases d1 with d1 | d1
     . omega
     . exact absurd d1 a4
   . rcases a1 with a1 | a1
     . omega
     . exact absurd a1 d4
   . have := s'.sep y1 y2 c1 c2 lx ly g a2 d2 a3 d3 hgx hgy;subst this;rcases a4 with⟨rfl,rfl⟩|⟨rfl,rfl⟩<;>rcases d4 with⟨rfl,e⟩|⟨rfl,e⟩<;>first|rfl|omega
theorem K1Spec.frame {f:FuncId} {pre post q:List PV} {b1:Bx} {R:PV->Bx->Prop} (hs:K1Spec P f pre post q b1 R) (hpre:pureL pre) (hpost:pureL post) (hq:pureL q) (hp1:pureLL b1.elems) {k i n:Nat} (hk:h k=some (kid1 q i)) (hi:h i=some b1) (hik:i≠k) :
 ISpec P f n (pre++.ptr k 0 0 :: post) h fun n' r h'=>∃ b1',n'=n+1/\h'=((h.del i).upd k (kid1 q n)).upd n b1'/\r.pure/\pureLL b1'.elems/\R r b1':=by
 refine⟨hs.1,fun C e F φ a w vs s hv=>(hs.run hpre hpost hq hp1 (n:=n) (Y0m n) hk hi hik s hv).mono ?_⟩;rintro en w' ⟨v,r,b1',F',φ',rfl,⟨h1,h2,h3⟩,hr,s'⟩;exact⟨v,r,n+1,_,F',φ',rfl,⟨b1',rfl,rfl,h1,h2,h3⟩,hr,{ s' with free:=fun i hi=>s'.free i ⟨by omega,by omega⟩ }⟩
theorem ZZ {f:Operand} {args:List Operand} {g:FuncId} {caps as0 pre post q:List PV} {b1:Bx} {k i:Nat} {R:PV->Bx->Prop} {d:Option Nat} {os:List AOper} {n:Nat} {K:Nat->Env->Heap->Prop} (hs:K1Spec P g pre post q b1 R) (hf:ev e f=some (.fn g caps)) (ha:evs e args=some as0) (hr:as0++caps=pre++.ptr k 0 0 :: post) (hk:h k=some (kid1 q i)) (hi:h i=some b1) (hik:i≠k) (hpre:pureL pre) (hpost:pureL post) (hq:pureL q) (hp1:pureLL b1.elems)
 (hK:∀ r b1',r.pure->pureLL b1'.elems->R r b1'->opsK P os (n+1) (updO e d r) (((h.del i).upd k (kid1 q n)).upd n b1') K):opsK P (⟨d,.call f args,none⟩ :: os) n e h K:=by
 refine Z1D hf ha (R:=fun n' r h'=>∃ b1',n'=n+1/\h'=((h.del i).upd k (kid1 q n)).upd n b1'/\r.pure/\pureLL b1'.elems/\R r b1') (by rw [hr]; exact hs.frame hpre hpost hq hp1 hk hi hik) ?_;rintro n' r h' ⟨b1',rfl,rfl,h1,h2,h3⟩;exact hK r b1' h1 h2 h3
theorem Z2N {f nt:Nat} {ac:ACode} {rs:List ARes} (hf:FnOk P f nt ac rs) {pre post q:List PV} {b1:Bx} {R:PV->Bx->Prop} (hn:(pre++.ptr 0 0 0 :: post).length<=nt)
 (hk:∀ C:Ctx,C.dom 2->aw P C ac (retI rs fun n' r h'=>∃ j1 b1',j1≠0/\h' 0=some (kid1 q j1)/\h' j1=some b1'/\r.pure/\pureLL b1'.elems/\R r b1') 2 (argEnv (pre++.ptr 0 0 0 :: post)) (heapL [(0,kid1 q 1),(1,b1)])):K1Spec P f pre post q b1 R :=
 Z1K hf hn hk
theorem Z7c {ob i0 j0:Nat} {bo:Bx} (esz:Nat) (hp:0<esz) (hob:h ob=some bo) (hi0:i0<bo.elems.length) (hj0:j0<(bo.elems.getD i0 []).length) (hcell:(bo.elems.getD i0 []).getD j0 pvu=.vec [] true) (hz:0<bo.esz:=by exact Nat.le_of_ble_eq_true rfl) :
 Sub C n e h (n+1) e ((h.upd n ⟨esz,[]⟩).upd ob ⟨bo.esz,bo.elems.set i0 ((bo.elems.getD i0 []).set j0 (.own n))⟩):=by
 rintro a w ⟨F,φ,s⟩;obtain⟨lo,o1,o2,o3⟩:=s.live ob bo hob;have o2:=o2.cellsB hz;have hcl:(bo.elems.getD i0 []).length=lo.esz:=o2.el _ (by simp [Y0b,hi0]);have hc0o:lo.cap≠0:=by have:=o2.cap; have:=o2.len; omega
 obtain⟨ado,hbaseo,hso,cellso,cto,hgo,hroomo,hrepo⟩:=o2.room hc0o;have hr0:=(hrepo i0 j0 (by rw [<- o2.len]; exact hi0) (by rw [<- hcl]; exact hj0)).2;rw [hcell] at hr0;have hbase:∃ base,cellso.getD (ado.off+(i0*lo.esz+j0)) undef=.slice base 0 0:=by
  rcases hr0.vec_inv with⟨_,h⟩|⟨x,cap,esz',cs,h,_,_,hf,_⟩
  . exact⟨none,h⟩
  . exact⟨some x,by rw [h,hf rfl]; rfl⟩
 obtain⟨base,hb⟩:=hbase;have hno:ob≠n:=fun e1=>by
  have:=s.free n (Y0m n);rw [<- e1,o1] at this; cases this
 have hfr:∀ i,n+1<=i->n<=i/\i≠n:=fun i hi=>⟨by omega,by omega⟩
 have s1:=(s.allocNil (Y0m n) base esz hp).weaken hfr;have hext:=Z1w (s.free n (Y0m n)) ⟨base,esz,0,0⟩;have o1':=hext _ _ o1;have hdel:(h.upd n ⟨esz,[]⟩) ob=some bo:=by rw [Heap.upd_ne _ _ hno]; exact hob
 have fin:∀ {φ':Locs},(∀ x v,φ x=some v->φ' x=some v)->φ' ob=some lo->St' C (fun i=>n+1<=i) e (h.upd n ⟨esz,[]⟩) F φ' a w->Rep F φ' (cellso.getD (ado.off+(i0*lo.esz+j0)) undef) (.own n) ->
  St C (fun i=>n+1<=i) e ((h.upd n ⟨esz,[]⟩).upd ob ⟨bo.esz,bo.elems.set i0 ((bo.elems.getD i0 []).set j0 (.own n))⟩) a w:=by
  intro φ' hx ho' s2 hrep;refine⟨F,φ',{ s2 with live:=fun i bi hi=>?_,sep:=fun i j bi bj li lj k hi hj hli hlj hki hkj=>?_ }⟩
  . by_cases hio : i = ob
    . subst hio;rw [Heap.upd_same] at hi;cases hi;obtain⟨l2,g1,g2,g3⟩:=s2.live i bo hdel;obtain rfl:l2=lo:=by rw [g1] at ho'; simpa using ho'
      refine⟨l2,g1,.inl ⟨o2.esz,o2.pos,by simpa using o2.len,o2.cap,o2.max,fun c hc=>?_,fun _=>⟨ado,hbaseo,hso,cellso,cto,hgo,hroomo,fun i' j' hi' hj'=>?_⟩⟩,g3⟩
      . rcases List.mem_or_eq_of_mem_set hc with h | h
        . exact o2.el c h
        . rw [h,List.length_set]; exact hcl
      . refine ⟨(hrepo i' j' hi' hj').1, ?_⟩;by_cases hii:i'=i0
        . subst hii;have e1:(bo.elems.set i' ((bo.elems.getD i' []).set j0 (.own n))).getD i' []=(bo.elems.getD i' []).set j0 (.own n):=by
           rw [Y0b,List.getElem?_set]; simp [hi0]
          rw [e1];by_cases hjj:j'=j0
          . subst hjj;have e2:((bo.elems.getD i' []).set j' (.own n)).getD j' pvu=.own n:=by
             rw [Y0b,List.getElem?_set,if_pos rfl,if_pos hj0]; rfl
            rw [e2];exact hrep
          . have e2 : ((bo.elems.getD i' []).set j0 (.own n)).getD j' pvu = (bo.elems.getD i' []).getD j' pvu := by
             rw [Y0b,List.getElem?_set,if_neg (Ne.symm hjj),<- Y0b]
            rw [e2];exact (hrepo i' j' hi' hj').2.mono (fun _ _ h=>h) hx
        . have e1 : (bo.elems.set i0 ((bo.elems.getD i0 []).set j0 (.own n))).getD i' [] = bo.elems.getD i' [] := by
           rw [Y0b,List.getElem?_set,if_neg (Ne.symm hii),<- Y0b]
          rw [e1];exact (hrepo i' j' hi' hj').2.mono (fun _ _ h=>h) hx
    . rw [Heap.upd_ne _ _ hio] at hi;exact s2.live i bi hi
  . have conv : ∀ {i : Nat} {bi : Bx}, ((h.upd n ⟨esz, []⟩).upd ob ⟨bo.esz, bo.elems.set i0 ((bo.elems.getD i0 []).set j0 (.own n))⟩) i = some bi -> ∃ b0, (h.upd n ⟨esz, []⟩) i = some b0 := by
     intro i bi hi;by_cases hio:i=ob
     . subst hio; exact⟨bo,hdel⟩
     . rw [Heap.upd_ne _ _ hio] at hi; exact⟨bi,hi⟩
    obtain⟨b1,g1⟩:=conv hi
    obtain⟨b2,g2⟩:=conv hj
    exact s2.sep i j b1 b2 li lj k g1 g2 hli hlj hki hkj
 refine fin hext o1' s1 ?_;rw [hb];exact .own n ⟨base,esz,0,0⟩ (by simp [locUpd]) hp
theorem Z2E {ob i0 j0:Nat} {bo:Bx} (esz:Nat) (hp:0<esz) (hob:h ob=some bo) (hi0:i0<bo.elems.length) (hj0:j0<(bo.elems.getD i0 []).length) (hcell:(bo.elems.getD i0 []).getD j0 pvu=.vec [] true) (hz:0<bo.esz:=by exact Nat.le_of_ble_eq_true rfl) :
 SubA n e h (n+1) e ((h.upd n ⟨esz,[]⟩).upd ob ⟨bo.esz,bo.elems.set i0 ((bo.elems.getD i0 []).set j0 (.own n))⟩):=fun _=>Z7c esz hp hob hi0 hj0 hcell hz
end
end
section
open Go.RowKit
attribute [local irreducible] aw opsK dK
def gR:Nat->Nat->List Nat
 | 0,_ => []
 | f+1,v=>if v=0 then [] else ((v &&& 127) ||| 128) :: gR f (v / 128)
def grp (v:Nat):List Nat:=((v &&& 127) :: gR v (v / 128)).reverse
theorem ZbK:∀ (f f' v:Nat),v<=f->v<=f'->gR f v=gR f' v
 | 0,0,_,_,_=>rfl
 | 0, f' + 1, v, h, _ => by
   obtain rfl:v=0:=by omega
   rfl
 | f + 1, 0, v, _, h => by
   obtain rfl:v=0:=by omega
   rfl
 | f + 1, f' + 1, v, h, h' => by
   show (if v=0 then [] else _)=(if v=0 then [] else _)
   split
   . rfl
   . rw [ZbK f f' (v / 128) (by omega) (by omega)]
theorem Zjc (f:Nat):gR f 0 = []:=by cases f<;>rfl
theorem Zjd {v:Nat} (h:v≠0):gR v v=((v &&& 127) ||| 128) :: gR (v / 128) (v / 128):=by
 obtain⟨f,rfl⟩:∃ f,v=f+1:=⟨v-1,by omega⟩
 show (if f+1=0 then [] else ((f+1 &&& 127) ||| 128) :: gR f ((f+1) / 128))=_;rw [if_neg (by omega),ZbK f ((f+1) / 128) ((f+1) / 128) (by omega) (Y0m _)]
theorem Zid:∀ (f v:Nat),(gR f v).length<=v
 | 0,v=>Y0l _
 | f + 1, v => by
   show (if v=0 then [] else ((v &&& 127) ||| 128) :: gR f (v / 128)).length<=v
   split
   . exact Y0l _
   . have := Zid f (v / 128);rw [Y04];omega
theorem Z1B (v:Nat):(grp v).length<=v+1:=by
 unfold grp;rw [List.length_reverse,Y04];have:=Zid v (v / 128);omega
theorem ZkG:∀ (f v:Nat),W8 (gR f v)
 | 0,_=>fun _ hx=>by cases hx
 | f + 1, v => fun x hx => by
   change x∈(if v=0 then [] else ((v &&& 127) ||| 128) :: gR f (v / 128)) at hx
   split at hx
   . cases hx
   . rcases List.mem_cons.1 hx with rfl | hx
     . exact Nat.or_lt_two_pow (n:=8) (Y02 Nat.and_le_right (by decide)) (by decide)
     . exact ZkG f _ x hx
theorem Z9Y (v:Nat):W8 (grp v):=fun x hx=>by
 rcases List.mem_cons.1 (List.mem_reverse.1 hx) with rfl|hx
 . exact Y02 Nat.and_le_right (by decide)
 . exact ZkG _ _ x hx
theorem Z8Y (l m:List Nat):bys (l++m)=bys l++bys m:=by unfold bys; rw [Y0r]
theorem Z72 (l:List Nat):(bys l).length=l.length:=by simp [bys]
theorem Zgf (l:List Nat):∀ c∈bys l,c.length=1:=fun c hc=>by obtain⟨y,_,rfl⟩:=Y0i.1 hc; rfl
theorem ZhR (v:Nat) (hv:v<1000000):Spec Tryz.prog 118 [.val (.int .u64 (v:Int))] (· = .vec (bys (grp v)) false):=by
 refine Yp ok118 fun C hC=>?_;have hshr:∀ x:Nat,Int.fdiv (x:Int) (2 ^ (min ((7:Nat):Int).toNat IntKind.u64.bits))=((x / 128:Nat):Int):=fun x=>shr64 x 7 (by decide);have hand:∀ x:Nat,x<1000000->bits .and .u64 (x:Int) ((127:Nat):Int)=((x &&& 127:Nat):Int):=fun x hx=>bits_and_u64_nat x 127 (by omega) (by decide);have hu8:∀ x:Nat,IntKind.u8.wrap ((x &&& 127:Nat):Int)=((x &&& 127:Nat):Int):=fun x=>by
  have:x &&& 127<=127:=Nat.and_le_right;exact IntWalk.u8_in _ ⟨by omega,by omega⟩
 refine gd 5 ⟨?_⟩;refine Zg (v:=((v &&& 127:Nat):Int)) rfl rfl rfl (hand v hv) ?_;refine Zg (v:=((v &&& 127:Nat):Int)) rfl rfl rfl (hu8 v) ?_;refine Z2x rfl rfl rfl ?_;refine gd 9 ⟨?_⟩;refine Z3b rfl rfl (by decide) (hshr v) rfl ?_;refine go ?_;refine ZF hC (fun x:List Nat×Nat=>x.2<1000000/\x.1.length+x.2<=v+1/\x.1++gR x.2 x.2=(v &&& 127) :: gR v (v / 128)) (fun x=>x.2) 1 (fun x => [(0,.val (.int .u64 (x.2:Int))),(3,.own 0)]) (fun x => [(0,⟨1,bys x.1⟩)]) (by decide) ([v &&& 127],v / 128) ⟨by show v / 128<_; omega,by show 1+v / 128<=_; omega,by show _ :: gR (v / 128) (v / 128)=_; rw [ZbK (v / 128) v (v / 128) (Y0m _) (by omega)]⟩
  (fun i=>i) (fun _ _=>rfl) (Zy rfl) ⟨Qp Yt,⟨_,rfl,.own 0 (by decide)⟩,Yt⟩ ⟨⟨by decide,⟨1,bys [v &&& 127]⟩,rfl,.same _ (Zi _)⟩,Yt⟩ ?_
 rintro⟨acc,y⟩ ⟨hy,hyl,hyt⟩;dsimp only at hy hyl hyt;refine gd 11 ⟨?_⟩;by_cases h0:y=0
 . refine Qo (Qz rfl (by show ¬ ((y : Int) > 0); omega)) ?_;rw [h0,Zjc,Y0p] at hyt;refine gd 22 ⟨?_⟩;refine ZjS 0 (Zeb acc (by omega)) (Z8P Z6b ZfL) rfl rfl rfl rfl (Zi _) ?_;rintro r b' hr1 hr2 rfl;refine gd 23 ⟨?_⟩;refine Zf (Zp (k:=3) (b:=⟨1,rowsK1 .u8 acc.reverse⟩) rfl rfl (Z3u _ _)) ?_;refine go ?_;exact Z7 rfl (Zi _) (by show PV.vec (bys acc.reverse) false=_; rw [hyt]; rfl)
 . refine Qo (Qy rfl (by show ((y : Int) > 0); omega)) ?_;rw [Zjd h0] at hyt;refine gd 16 ⟨?_⟩;refine Zg (v:=((y &&& 127:Nat):Int)) rfl rfl rfl (hand y hy) ?_;refine Zg (v:=((y &&& 127:Nat):Int)) rfl rfl rfl (hu8 y) ?_;refine Zg (v:=(((y &&& 127) ||| 128:Nat):Int)) rfl rfl rfl (u8_or_nat (y &&& 127) 128 (Y02 Nat.and_le_right (by decide)) (by decide)) ?_;(first|refine st ?_|(apply B<;>intro hb<;>try cases hb))
   refine ZD (Zx (k:=0) (m:=bys [(y &&& 127) ||| 128]) (fl:=true) rfl rfl rfl (Zgf _) rfl (by
    show ((bys acc).length+1)*1<=_
    rw [Z72];omega)) rfl rfl ?_
   refine gd 13 ⟨?_⟩;refine Z3b rfl rfl (by decide) (hshr y) rfl ?_;refine go ?_;refine⟨(acc ++ [(y &&& 127) ||| 128],y / 128),mv 0 1,⟨by show y / 128<_; omega,by show (acc ++ [_]).length+y / 128<=_; rw [Y0e,Y0s]; omega,by show (acc ++ [_])++gR (y / 128) (y / 128)=_; rw [List.append_assoc]; exact hyt⟩,by show y / 128<y; omega,Z4Q (by decide),Zy rfl,⟨Qp Yt,⟨_,rfl,.own 0 (by decide)⟩,Yt⟩,⟨⟨by decide,_,rfl,by rw [Z8Y]; exact .same _ (by rw [<- Z8Y]; exact Zi _)⟩,Yt⟩⟩
abbrev wBx (l:List Nat):Bx:=⟨1,bys l⟩
theorem ZhS (l p:List Nat) (fl:Bool) (hb:l.length+p.length<=1000000):K1Spec Tryz.prog 117 [] [.vec (bys p) fl] [] (wBx l) (fun _ b'=>b'=wBx (l++p)):=by
 refine Z2N ok117 (Nat.le_of_ble_eq_true rfl) fun C hC=>?_;refine gd 12 ⟨?_⟩
 refine ZD (Zx (k:=1) (m:=bys p) (fl:=fl) (b:=wBx l) rfl rfl rfl (Zgf _) rfl (by
  show ((bys l).length+(bys p).length)*1<=_
  rw [Z72,Z72];omega)) rfl rfl ?_
 iterate 2 (first|refine st ?_|(apply B<;>intro hb<;>try cases hb))
 refine Qo (Z1L (size:=1) (k:=0) (i:=0) (off:=0) (b:=kid1 [] 1) (p:=.own 2) rfl rfl rfl rfl rfl (by decide) (by decide)) ?_;refine go ?_;exact⟨_,_,rfl,.inl rfl,2,_,by decide,rfl,rfl,Yt,by show pureLL (bys l++bys p); rw [<- Z8Y]; exact Zi _,by show (⟨1,bys l++bys p⟩:Bx)=_; rw [<- Z8Y]⟩
theorem Z5M (l:List Nat) (v:Nat) (hv:v<1000000) (hb:l.length+v<1000000):K1Spec Tryz.prog 62 [] [.val (.int .u64 (v:Int))] [] (wBx l) (fun _ b'=>b'=wBx (l++grp v)):=by
 refine Z2N ok62 (Nat.le_of_ble_eq_true rfl) fun C hC=>?_;have hgl:=Z1B v;refine gd 6 ⟨?_⟩;refine Qe (ZhR v hv) ⟨Yt,Yt⟩ ?_;refine ZZ (k:=0) (i:=1) (ZhS l (grp v) false (by omega)) rfl rfl rfl rfl rfl (by decide) Yt ⟨Zi _,Yt⟩ Yt (Zi _) ?_;rintro r b' hr1 hr2 rfl;refine go ?_;exact⟨_,_,rfl,.inl rfl,2,_,by decide,rfl,rfl,Yt,Zi _,rfl⟩
def wB (p:List Nat):List Nat:=grp p.length++p
theorem Z67 (l p:List Nat) (fl:Bool) (hb:l.length+2*p.length<900000):K1Spec Tryz.prog 63 [] [.vec (bys p) fl] [] (wBx l) (fun _ b'=>b'=wBx (l++wB p)):=by
 refine Z2N ok63 (Nat.le_of_ble_eq_true rfl) fun C hC=>?_;have hgl:=Z1B p.length;refine gd 7 ⟨?_⟩;refine Zg (v:=(p.length:Int)) rfl rfl rfl (by rw [Z72]; exact Y0x _ ⟨by omega,by omega⟩) ?_;refine ZZ (k:=0) (i:=1) (Z5M l p.length (by omega) (by omega)) rfl rfl rfl rfl rfl (by decide) Yt ⟨Yt,Yt⟩ Yt (Zi _) ?_;rintro r b' hr1 hr2 rfl;refine gd 11 ⟨?_⟩;refine ZZ (k:=0) (i:=2) (ZhS (l++grp p.length) p fl (by rw [Y0e];omega)) rfl rfl rfl rfl rfl (by decide) Yt ⟨Zi _,Yt⟩ Yt (Zi _) ?_;rintro r b' hr1 hr2 rfl;refine go ?_;exact⟨_,_,rfl,.inl rfl,3,_,by decide,rfl,rfl,Yt,Zi _,by rw [List.append_assoc]; rfl⟩
theorem Zk6 (l:List Nat) (b:Bool) (hb:l.length<900000):K1Spec Tryz.prog 66 [] [.val (.bool b)] [] (wBx l) (fun _ b'=>b'=wBx (l ++ [cond b 1 0])):=by
 refine Z2N ok66 (Nat.le_of_ble_eq_true rfl) fun C hC=>?_;cases b with
 | true =>
   refine gd 7 ⟨?_⟩;refine ZZ (k:=0) (i:=1) (ZhS l [1] true (by show l.length+1<=_;omega)) rfl rfl rfl rfl rfl (by decide) Yt ⟨Zi _,Yt⟩ Yt (Zi _) ?_;rintro r b' hr1 hr2 rfl;refine go ?_;exact⟨_,_,rfl,.inl rfl,2,_,by decide,rfl,rfl,Yt,Zi _,rfl⟩
 | false =>
   refine gd 10 ⟨?_⟩;refine ZZ (k:=0) (i:=1) (ZhS l [0] true (by show l.length+1<=_;omega)) rfl rfl rfl rfl rfl (by decide) Yt ⟨Zi _,Yt⟩ Yt (Zi _) ?_;rintro r b' hr1 hr2 rfl;refine go ?_;exact⟨_,_,rfl,.inl rfl,2,_,by decide,rfl,rfl,Yt,Zi _,rfl⟩
def sB (N:Nat):List Nat:=if N=0 then [] else [N]
theorem Zje (N:Nat):bysS N=.vec (bys (sB N)) (decide (N=0)):=by
 unfold bysS sB;by_cases h:N=0
 . subst h; rfl
 . rw [if_neg h,if_neg h,Y0w h]
theorem Z7Y (N:Nat):(sB N).length<=1:=by
 unfold sB
 split<;>simp
theorem Zjf (l:List Nat) (N:Nat) (hN:N<256) (hb:l.length<800000):K1Spec Tryz.prog 65 [] [setN N] [] (wBx l) (fun _ b'=>b'=wBx (l++wB (sB N))):=by
 refine Z2N ok65 (Nat.le_of_ble_eq_true rfl) fun C hC=>?_;have hsl:=Z7Y N;refine gd 6 ⟨?_⟩;refine Qe (ZbJ N hN) ⟨Z1 N,Yt⟩ ?_;rw [Zje];refine ZZ (k:=0) (i:=1) (Z67 l (sB N) (decide (N=0)) (by omega)) rfl rfl rfl rfl rfl (by decide) Yt ⟨Zi _,Yt⟩ Yt (Zi _) ?_;rintro r b' hr1 hr2 rfl;refine go ?_;exact⟨_,_,rfl,.inl rfl,_,_,by decide,rfl,rfl,Yt,Zi _,rfl⟩
def cB (c:Cu):List Nat:=wB (sB c.1)++wB (sB c.2)
theorem Z5d (p:List Nat):(wB p).length<=2*p.length+1:=by
 unfold wB;rw [Y0e];have:=Z1B p.length;omega
theorem Zgg (c:Cu):(cB c).length<=6:=by
 unfold cB;rw [Y0e];have h1:=Z5d (sB c.1);have h2:=Z5d (sB c.2);have h3:=Z7Y c.1;have h4:=Z7Y c.2;omega
theorem Zk7 (l:List Nat) (c:Cu) (hc:c.1<256/\c.2<256) (hb:l.length<700000):K1Spec Tryz.prog 67 [] [cuP c] [] (wBx l) (fun _ b'=>b'=wBx (l++cB c)):=by
 refine Z2N ok67 (Nat.le_of_ble_eq_true rfl) fun C hC=>?_;have h1:=Z5d (sB c.1);have h3:=Z7Y c.1;refine gd 7 ⟨?_⟩;refine ZZ (k:=0) (i:=1) (Zjf l c.1 hc.1 (by omega)) rfl rfl rfl rfl rfl (by decide) Yt ⟨Z1 _,Yt⟩ Yt (Zi _) ?_;rintro r b' hr1 hr2 rfl;refine gd 11 ⟨?_⟩;refine ZZ (k:=0) (i:=3) (Zjf (l++wB (sB c.1)) c.2 hc.2 (by rw [Y0e];omega)) rfl rfl rfl rfl rfl (by decide) Yt ⟨Z1 _,Yt⟩ Yt (Zi _) ?_;rintro r b' hr1 hr2 rfl;refine go ?_;exact⟨_,_,rfl,.inl rfl,4,_,by decide,rfl,rfl,Yt,Zi _,by rw [List.append_assoc]; rfl⟩
def lB (cs:List Cu):List Nat:=grp cs.length++cs.flatMap cB
theorem Z9Z (cs:List Cu):(cs.flatMap cB).length<=6*cs.length:=by
 induction cs with
 | nil=>exact Y0m _
 | cons c cs ih =>
   rw [List.flatMap_cons,Y0e,Y04];have:=Zgg c;omega
theorem Zie (cs:List Cu):(lB cs).length<=7*cs.length+1:=by
 unfold lB;rw [Y0e];have:=Z9Z cs;have:=Z1B cs.length;omega
theorem Zec (cs:List Cu) {i:Nat} (hi:i<cs.length):(cs.take (i+1)).flatMap cB=(cs.take i).flatMap cB++cB cs[i]:=by
 rw [List.take_succ_eq_append_getElem hi,List.flatMap_append,List.flatMap_singleton]
theorem Zif (l:List Nat) (cs:List Cu) (fl:Bool) (hcs:∀ c∈cs,c.1<256/\c.2<256) (hb:l.length+10*cs.length<600000):K1Spec Tryz.prog 68 [] [.vec (cs.map cuC) fl] [] (wBx l) (fun _ b'=>b'=wBx (l++lB cs)):=by
 refine Z2N ok68 (Nat.le_of_ble_eq_true rfl) fun C hC=>?_;have hgl:=Z1B cs.length;have hml:(cs.map cuC).length=cs.length:=Y0f ..;have hpi:∀ D,innLL D (cs.map cuC):=fun D=>Zb (fun _ h=>h.elim) _ (Z9 Ze cs);refine gd 9 ⟨?_⟩;refine Zg (v:=(cs.length:Int)) rfl rfl rfl (by rw [hml]; exact Y0x _ ⟨by omega,by omega⟩) ?_;refine ZZ (k:=0) (i:=1) (Z5M l cs.length (by omega) (by omega)) rfl rfl rfl rfl rfl (by decide) Yt ⟨Yt,Yt⟩ Yt (Zi _) ?_;rintro r b' hr1 hr2 rfl;refine go ?_;refine ZF hC (fun i=>i<=cs.length) (fun i=>cs.length-i) 3 (fun i => [(0,.ptr 0 0 0),(1,.vec (cs.map cuC) fl),(11,.vec (cs.map cuC) fl),(12,.val (.int .i64 (cs.length:Int))),(13,Yv i)]) (fun i => [(0,kid1 [] 2),(2,wBx (l++grp cs.length++(cs.take i).flatMap cB))]) (by decide) 0 (Y0l _)
  (fun i=>i) (fun _ _=>rfl) (Zy rfl) ⟨Qt 0 0 0,Qp (Z9 Ze cs),Qp (Z9 Ze cs),⟨_,by rw [<- hml]; rfl,.pure _ Yt⟩,Qp Yt,Yt⟩
  ⟨⟨by decide,_,rfl,RenB.single ⟨.own 2 (by decide),Yt⟩ rfl⟩,⟨by decide,wBx (l++grp cs.length++(cs.take 0).flatMap cB),by rw [List.take_zero,List.flatMap_nil,Y0p]; rfl,.same _ (Zi _)⟩,Yt⟩ ?_
 intro i hi;have hfl:=Z9Z (cs.take i);rw [Y0o,Nat.min_eq_left hi] at hfl;have hinc:IntKind.i64.wrap ((i:Int)+1)=((i+1:Nat):Int):=wi (i+1) (by omega);refine gd 14 ⟨?_⟩;by_cases hil:i<cs.length
 . refine Qo (Qy rfl (by omega)) ?_;have hci:=hcs cs[i] (Y0j hil);have hft:=Zec cs hil;refine gd 15 ⟨?_⟩;refine Qo (Zm (xs:=cs) (g:=cuC) rfl rfl i rfl hil rfl) ?_;generalize cs[i]=c at hci hft;refine gd 19 ⟨?_⟩;refine ZZ (k:=0) (i:=2) (Zk7 (l++grp cs.length++(cs.take i).flatMap cB) c hci (by rw [Y0e,Y0e];omega)) rfl rfl rfl rfl rfl (by decide) Yt ⟨Zu _,Yt⟩ Yt (Zi _) ?_;rintro r b' hr1 hr2 rfl;refine go ?_;exact⟨i+1,mv 2 4,by omega,by omega,Z4Q (by decide),Zy rfl,⟨Qt 0 0 0,Qp (Z9 Ze cs),Qp (Z9 Ze cs),Qp Yt,⟨_,by show some _=some _; rw [hinc],.pure _ Yt⟩,Yt⟩,⟨⟨by decide,_,rfl,RenB.single ⟨.own 2 (by decide),Yt⟩ rfl⟩,⟨by decide,_,rfl,by rw [hft,<- List.append_assoc]; exact .same _ (Zi _)⟩,Yt⟩⟩
 . obtain rfl : i = cs.length := by omega
   refine Qo (Qz rfl (by omega)) ?_;rw [Y0q];refine go ?_;exact⟨_,_,rfl,.inl rfl,2,_,by decide,rfl,rfl,Yt,Zi _,by rw [List.append_assoc]; rfl⟩
def dig (p:List Nat):List Nat:=sumOf (HS.puts (p.length+1) ⟨List.replicate 25 0,List.replicate 136 0,0,0+p.length⟩ p)
theorem Z5z (p:List Nat):(dig p).length=32:=by simp [dig,sumOf]
theorem Zgh (p:List Nat) (fl:Bool) (hp:W8 p) (hb:p.length<1000000):Spec Tryz.prog 122 [.vec (bys p) fl] (· = .agg (crow .u8 (dig p))):=by
 refine Yp ok122 fun C hC=>?_;have hz:=Zg5 (0+p.length);have hpok:=ZfS (p.length+1) (HS.zero (0+p.length)) p hz hp;refine gd 4 ⟨?_⟩;refine Z47 (ZbH) (Z6V 0 0) (Z3r _) rfl rfl Yt ?_;refine gd 7 ⟨?_⟩;refine ZP (id:=1) (Zja (HS.zero 0) (Zg5 0) p fl hp (by show 0+p.length<_;omega)) rfl rfl rfl rfl (Z3r _) ⟨Zi _,Yt⟩ ?_;rintro r b' hr1 hr2 rfl;refine gd 9 ⟨?_⟩;refine ZP (id:=1) (ZkA _ hpok) rfl rfl rfl rfl (Z3r _) Yt ?_;rintro r b' hr1 hr2 ⟨rfl,rfl⟩;have hcl:(crow .u8 (sumOf (HS.puts (p.length+1) (HS.zero (0+p.length)) p))).length=32:=by rw [Zz]; exact Z5z p
 refine Qo (Z8W (l:=crow .u8 (List.replicate 32 0)) rfl rfl rfl hcl rfl) ?_;refine go ?_;refine Z7 (Z27 (Z5R (l:=crow .u8 (dig p) ++ []) (r:=crow .u8 (dig p)) rfl rfl ?_ ?_)) (ZM _ _) rfl
 . rw [Y0p,Zz,Z5z]; decide
 . rw [Y0p,List.drop_zero,List.take_of_length_le (by rw [Zz,Z5z]; exact Y0m _)]
theorem Z8Z:NSpec Tryz.prog 61 [] (fun i=>.ptr i 0 0) ⟨1,[[.vec [] true]]⟩:=by
 refine Z26 ok61 (Nat.le_of_ble_eq_true rfl) fun C hC=>?_;refine go ?_;exact⟨_,_,rfl,.inl rfl,_,rfl,rfl⟩
theorem ZbL (x:Nat) (l:List Nat) (fl:Bool) (hb:l.length<1000000):Spec Tryz.prog 123 [.vec (bys (x :: l)) fl] (· = .vec (bys (x :: l)) false):=by
 refine Yp ok123 fun C hC=>?_;refine gd 7 ⟨?_⟩
 refine Z5 (Z9d (l := []) (m:=bys (x :: l)) (fl:=fl) rfl rfl (fun c hc=>by cases hc) (Zgf _) (by
  show (0+(bys (x :: l)).length)*1<=_
  rw [Z72,Y04];omega)) rfl rfl ?_
 refine go ?_;exact Z7 rfl (Zi _) rfl
theorem Zjg (x:Nat) (l:List Nat) (fl:Bool) (hb:l.length<1000000):PSpec Tryz.prog 70 ⟨1,[[.vec (bys (x :: l)) fl]]⟩ [] (fun r b'=>r=.vec (bys (x :: l)) false/\b'=⟨1,[[.vec (bys (x :: l)) fl]]⟩):=by
 refine Z1M ok70 (Nat.le_of_ble_eq_true rfl) fun C hC=>?_;refine gd 9 ⟨?_⟩;refine Qe (ZbL x l fl hb) ⟨Zi _,Yt⟩ ?_;refine go ?_;exact⟨_,_,rfl,.inl rfl,_,rfl,Zi _,⟨⟨Zi _,Yt⟩,Yt⟩,rfl,rfl⟩
def strN (s:ByteArray):List Nat:=s.data.toList.map fun b=>b.toNat
theorem Zed (s:ByteArray):strRows s=bys (strN s):=by
 unfold strRows bys strN;rw [List.map_map]
 rfl
theorem ZcX (s:ByteArray):(strN s).length=s.size:=by
 unfold strN;rw [Y0f]
 rfl
theorem ZkB (l:List Nat) (s:ByteArray) (hb:l.length+2*s.size<800000):K1Spec Tryz.prog 121 [] [.val (.string s)] [] (wBx l) (fun _ b'=>b'=wBx (l++wB (strN s))):=by
 refine Z2N ok121 (Nat.le_of_ble_eq_true rfl) fun C hC=>?_;have hs:=ZcX s;have hd:∀ (e:Env) (h:Heap) (n:Nat) (x:Operand),ev e x=some (.val (.string s))->dEval (.s2b x) e h n=some (.vec (bys (strN s)) false,h):=fun e h n x hx=>by
  simp only [dEval,hx];rw [if_pos (by omega),Zed]
 refine gd 6 ⟨?_⟩;refine Qo (hd _ _ _ _ rfl) ?_;refine ZZ (k:=0) (i:=1) (Z67 l (strN s) false (by omega)) rfl rfl rfl rfl rfl (by decide) Yt ⟨Zi _,Yt⟩ Yt (Zi _) ?_;rintro r b' hr1 hr2 rfl;refine go ?_;exact⟨_,_,rfl,.inl rfl,2,_,by decide,rfl,rfl,Yt,Zi _,rfl⟩
theorem Zjo {p:List Nat} (h:W8 p):W8 (wB p):=fun x hx=>(Y0h.1 hx).elim (Z9Y _ x) (h x)
theorem Zjh (p:List Nat):∃ x l,wB p=x :: l:=by
 unfold wB grp;rw [List.reverse_cons];cases h:(gR p.length (p.length / 128)).reverse with
 | nil=>exact⟨_,_,rfl⟩
 | cons a b=>exact⟨_,_,rfl⟩
theorem ZcY (v:Nat):∃ x l,grp v=x :: l:=by
 unfold grp;rw [List.reverse_cons];cases h:(gR v (v / 128)).reverse with
 | nil=>exact⟨_,_,rfl⟩
 | cons a b=>exact⟨_,_,rfl⟩
theorem Z73:pureLL (⟨1,[[PV.vec [] true]]⟩:Bx).elems:=⟨⟨Yt,Yt⟩,Yt⟩
def tagB (s:ByteArray) (p:List Nat):List Nat:=wB (strN s)++wB p
theorem Zk8 (s:ByteArray):W8 (strN s):=fun x hx=>by
 obtain⟨b,_,rfl⟩:=Y0i.1 hx;exact b.toNat_lt
theorem ZbM (s:ByteArray) (p:List Nat) (fp:Bool) (hp:W8 p) (hs:s.size<100) (hb:p.length<200000):Spec Tryz.prog 69 [.val (.string s),.vec [[.vec (bys p) fp]] true] (· = .agg (crow .u8 (dig (tagB s p)))):=by
 refine Yp ok69 fun C hC=>?_;have hsl:=ZcX s;have hwl:=Z5d (strN s);have hwp:=Z5d p;have hpp:pureLL [[PV.vec (bys p) fp]]:=⟨⟨Zi _,Yt⟩,Yt⟩
 refine gd 8 ⟨?_⟩;refine Z47 Z8Z (Z6V 0 0) Z73 rfl rfl Yt ?_;refine Zf (Z2E (ob:=1) (i0:=0) (j0:=0) (bo:=⟨1,[[.vec [] true]]⟩) 1 (by decide) rfl (by decide) (by decide) rfl) ?_;refine gd 11 ⟨?_⟩;refine ZZ (k:=1) (i:=2) (q := []) (b1:=wBx []) (ZkB [] s (by show 0+_<_;omega)) rfl rfl rfl rfl rfl (by decide) Yt ⟨Yt,Yt⟩ Yt Yt ?_;rintro r b' hr1 hr2 rfl;rw [List.nil_append];refine go ?_;refine ZF hC (fun i=>i<=1) (fun i=>1-i) 4 (fun i => [(4,.ptr 0 0 0),(5,.ptr 1 0 0),(12,.vec [[.vec (bys p) fp]] true),(13,.val (.int .i64 1)),(14,Yv i)]) (fun i => [(0,⟨32,[crow .u8 (List.replicate 32 0)]⟩),(1,kid1 [] 3),(3,wBx (wB (strN s)++(if i=0 then [] else wB p)))]) (by decide) 0 (Y0l _)
  (fun i=>i) (fun _ _=>rfl) (Zy rfl) ⟨Qt 0 0 0,Qt 1 0 0,Qp hpp,Qp Yt,Qp Yt,Yt⟩
  ⟨⟨by decide,⟨32,[crow .u8 (List.replicate 32 0)]⟩,by kernel_rfl,.same _ ⟨ZM _ _,Yt⟩⟩,⟨by decide,_,rfl,RenB.single ⟨.own 3 (by decide),Yt⟩ rfl⟩,⟨by decide,wBx (wB (strN s) ++ []),by rw [Y0p]; rfl,.same _ (Zi _)⟩,Yt⟩ ?_
 intro i hi;have hinc:IntKind.i64.wrap ((i:Int)+1)=((i+1:Nat):Int):=wi (i+1) (by omega);refine gd 15 ⟨?_⟩;by_cases hil:i<1
 . obtain rfl : i = 0 := by omega
   refine Qo (Qy rfl (by omega)) ?_;rw [if_pos rfl,Y0p];refine gd 20 ⟨?_⟩;refine ZZ (k:=1) (i:=3) (Z67 (wB (strN s)) p fp (by omega)) rfl rfl rfl rfl rfl (by decide) Yt ⟨Zi _,Yt⟩ Yt (Zi _) ?_;rintro r b' hr1 hr2 rfl;refine go ?_;exact⟨1,mv 3 4,by omega,by omega,Z4Q (by decide),Zy rfl,⟨Qt 0 0 0,Qt 1 0 0,Qp hpp,Qp Yt,Qp Yt,Yt⟩,⟨Qs ⟨ZM _ _,Yt⟩,⟨by decide,_,rfl,RenB.single ⟨.own 3 (by decide),Yt⟩ rfl⟩,⟨by decide,_,rfl,by rw [if_neg (by decide)]; exact .same _ (Zi _)⟩,Yt⟩⟩
 . obtain rfl : i = 1 := by omega
   refine Qo (Qz rfl (by omega)) ?_;rw [if_neg (by decide)];have hWt:W8 (tagB s p):=fun x hx=>(Y0h.1 hx).elim (Zjo (Zk8 s) x) (Zjo hp x);have htl:(tagB s p).length<500000:=by unfold tagB; rw [Y0e]; omega
   obtain⟨x,l,hxl⟩:∃ x l,tagB s p=x :: l:=by
    obtain⟨x,l,h⟩:=Zjh (strN s);exact⟨x,l++wB p,by unfold tagB; rw [h]; rfl⟩
   change opsK _ _ _ _ (heapL [(0,⟨32,[crow .u8 (List.replicate 32 0)]⟩),(1,kid1 [] 3),(3,wBx (tagB s p))]) _;rw [hxl] at hWt htl ⊢;rw [Y04] at htl;refine gd 23 ⟨?_⟩;refine Zf (ZA (ob:=1) (id:=3) (i0:=0) (j0:=0) (bo:=kid1 [] 3) (b:=wBx (x :: l)) rfl rfl (by decide) (Zi _) (by decide) (by decide) rfl) ?_;refine ZP (id:=1) (Zjg x l false (by omega)) rfl rfl rfl rfl ⟨⟨Zi _,Yt⟩,Yt⟩ Yt ?_;rintro r b' hr1 hr2 ⟨rfl,rfl⟩;refine Qe (Zgh (x :: l) false hWt (by rw [Y04];omega)) ⟨Zi _,Yt⟩ ?_;have hcl:(crow .u8 (dig (x :: l))).length=32:=by rw [Zz,Z5z]
   refine Qo (Z8W (l:=crow .u8 (List.replicate 32 0)) rfl rfl rfl hcl rfl) ?_;refine go ?_;refine Z7 (Z27 (Z5R (l:=crow .u8 (dig (x :: l)) ++ []) (r:=crow .u8 (dig (x :: l))) rfl rfl ?_ ?_)) (ZM _ _) rfl
   . rw [Y0p,hcl]; decide
   . rw [Y0p,List.drop_zero,List.take_of_length_le (by rw [hcl]; exact Y0m _)]
def prW (p:Pr):List Nat:=grp p.1++grp p.2
def hyB (l:List Pr):List Nat:=grp l.length++l.flatMap prW
theorem Zji {p:Pr} (h:p.1<=63/\p.2<=63):(prW p).length<=130:=by
 unfold prW;rw [Y0e];have:=Z1B p.1;have:=Z1B p.2;omega
theorem Z74:∀ (l:List Pr),(∀ p∈l,p.1<=63/\p.2<=63)->(l.flatMap prW).length<=130*l.length
 | [],_=>Y0m _
 | p :: l, h => by
   rw [List.flatMap_cons,Y0e,Y04];have:=Zji (h p (Y0t ..));have:=Z74 l fun q hq=>h q (List.mem_cons_of_mem _ hq);omega
theorem ZbN {l:List Pr} (h:∀ p∈l,p.1<=63/\p.2<=63):(hyB l).length<=131*l.length+1:=by
 unfold hyB;rw [Y0e];have:=Z1B l.length;have:=Z74 l h;omega
theorem ZkC (l:List Pr):W8 (hyB l):=fun x hx=>by
 rcases Y0h.1 hx with h|h
 . exact Z9Y _ x h
 . obtain ⟨p, _, h⟩ := List.mem_flatMap.1 h;exact (Y0h.1 h).elim (Z9Y _ x) (Z9Y _ x)
theorem ZbO (l:List Pr) (S:List Nat) (h:∀ p∈l,p.1<=63/\p.2<=63) (hb:l.length<=1000):Spec Tryz.prog 64 [hierP l S] (· = .vec (bys (hyB l)) false):=by
 refine Yp ok64 fun C hC=>?_;have hgl:=Z1B l.length;have hml:(l.map prC).length=l.length:=Y0f ..;refine gd 9 ⟨?_⟩;refine Z47 Z8Z (Z6V 0 0) Z73 rfl rfl Yt ?_;refine Zf (Z2E (ob:=0) (i0:=0) (j0:=0) (bo:=⟨1,[[.vec [] true]]⟩) 1 (by decide) rfl (by decide) (by decide) rfl) ?_;refine gd 11 ⟨?_⟩;refine Qe (Z7M l S (by omega)) ⟨Zw _ _,Yt⟩ ?_;refine gd 15 ⟨?_⟩;refine Zg (v:=(l.length:Int)) rfl rfl rfl (by rw [hml]; exact Y0x _ ⟨by omega,by omega⟩) ?_;refine ZZ (k:=0) (i:=1) (q := []) (b1:=wBx []) (Z5M [] l.length (by omega) (by show 0+_<_;omega)) rfl rfl rfl rfl rfl (by decide) Yt ⟨Yt,Yt⟩ Yt Yt ?_;rintro r b' hr1 hr2 rfl;rw [List.nil_append];refine go ?_;refine ZF hC (fun i=>i<=l.length) (fun i=>l.length-i) 3 (fun i => [(3,.ptr 0 0 0),(17,.vec (l.map prC) false),(18,.val (.int .i64 (l.length:Int))),(19,Yv i)]) (fun i => [(0,kid1 [] 2),(2,wBx (grp l.length++(l.take i).flatMap prW))]) (by decide) 0 (Y0l _)
  (fun i=>i) (fun _ _=>rfl) (Zy rfl) ⟨Qt 0 0 0,Qp (Zl _),⟨_,by rw [<- hml]; rfl,.pure _ Yt⟩,Qp Yt,Yt⟩
  ⟨⟨by decide,_,rfl,RenB.single ⟨.own 2 (by decide),Yt⟩ rfl⟩,⟨by decide,wBx (grp l.length++(l.take 0).flatMap prW),by rw [List.take_zero,List.flatMap_nil,Y0p]; rfl,.same _ (Zi _)⟩,Yt⟩ ?_
 intro i hi;have hfl:=Z74 (l.take i) fun p hp=>h p (List.mem_of_mem_take hp);rw [Y0o,Nat.min_eq_left hi] at hfl;have hinc:IntKind.i64.wrap ((i:Int)+1)=((i+1:Nat):Int):=wi (i+1) (by omega);refine gd 20 ⟨?_⟩;by_cases hil:i<l.length
 . refine Qo (Qy rfl (by omega)) ?_;have hci:=h l[i] (Y0j hil);have hft:(l.take (i+1)).flatMap prW=(l.take i).flatMap prW++prW l[i]:=by
    rw [List.take_succ_eq_append_getElem hil,List.flatMap_append,List.flatMap_singleton]
   refine gd 21 ⟨?_⟩;refine Qo (Zm (xs:=l) (g:=prC) rfl rfl i rfl hil rfl) ?_;generalize l[i]=p at hci hft;have g1:=Z1B p.1;refine gd 26 ⟨?_⟩;refine Zg (v:=(p.1:Int)) rfl rfl rfl (Y0x _ ⟨by omega,by omega⟩) ?_;refine ZZ (k:=0) (i:=2) (Z5M (grp l.length++(l.take i).flatMap prW) p.1 (by omega) (by rw [Y0e];omega)) rfl rfl rfl rfl rfl (by decide) Yt ⟨Yt,Yt⟩ Yt (Zi _) ?_;rintro r b' hr1 hr2 rfl;refine gd 31 ⟨?_⟩;refine Zg (v:=(p.2:Int)) rfl rfl rfl (Y0x _ ⟨by omega,by omega⟩) ?_;refine ZZ (k:=0) (i:=4) (Z5M (grp l.length++(l.take i).flatMap prW++grp p.1) p.2 (by omega) (by rw [Y0e,Y0e];omega)) rfl rfl rfl rfl rfl (by decide) Yt ⟨Yt,Yt⟩ Yt (Zi _) ?_;rintro r b' hr1 hr2 rfl;refine go ?_;exact⟨i+1,mv 2 5,by omega,by omega,Z4Q (by decide),Zy rfl,⟨Qt 0 0 0,Qp (Zl _),Qp Yt,⟨_,by show some _=some _; rw [hinc],.pure _ Yt⟩,Yt⟩,⟨⟨by decide,_,rfl,RenB.single ⟨.own 2 (by decide),Yt⟩ rfl⟩,⟨by decide,_,rfl,by rw [hft,show grp l.length++((l.take i).flatMap prW++prW p)=grp l.length++(l.take i).flatMap prW++grp p.1++grp p.2 by unfold prW; simp only [List.append_assoc]]; exact .same _ (Zi _)⟩,Yt⟩⟩
 . obtain rfl : i = l.length := by omega
   refine Qo (Qz rfl (by omega)) ?_;have hyl:=ZbN h;obtain⟨x,m,hxm⟩:∃ x m,hyB l=x :: m:=by
    obtain⟨x,m,h⟩:=ZcY l.length;exact⟨x,m++l.flatMap prW,by unfold hyB; rw [h]; rfl⟩
   rw [Y0q];change opsK _ _ _ _ (heapL [(0,kid1 [] 2),(2,wBx (hyB l))]) _;rw [hxm] at hyl ⊢;rw [Y04] at hyl;refine gd 35 ⟨?_⟩;refine Zf (ZA (ob:=0) (id:=2) (i0:=0) (j0:=0) (bo:=kid1 [] 2) (b:=wBx (x :: m)) rfl rfl (by decide) (Zi _) (by decide) (by decide) rfl) ?_;refine ZP (id:=0) (Zjg x m false (by omega)) rfl rfl rfl rfl ⟨⟨Zi _,Yt⟩,Yt⟩ Yt ?_;rintro r b' hr1 hr2 ⟨rfl,rfl⟩;refine go ?_;exact Z7 rfl (Zi _) rfl
structure PbW (t:PB):Prop where
 n:t.n<=63
 st:t.st<256
 rs:∀ r∈t.rs,r.cu.1<256/\r.cu.2<256/\r.tg<=63
 nv:∀ c∈t.nv,c.1<256/\c.2<256
 gl:∀ c∈t.gl,c.1<256/\c.2<256
 lk:∀ p∈t.l,p.1<=63/\p.2<=63
 ll:t.l.length<=100
 rl:t.rs.length<=100
 nl:t.nv.length<=100
 gn:t.gl.length<=100
def rB (r:RU):List Nat := [cond r.rev 1 0]++cB r.cu++grp r.tg
def hdB (t:PB):List Nat:=grp t.n++wB (hyB t.l)++wB (sB t.st)++grp t.rs.length
def pbB (t:PB):List Nat:=hdB t++t.rs.flatMap rB++lB t.nv++lB t.gl
theorem Zk9 {r:RU} (h:r.tg<=63):(rB r).length<=71:=by
 unfold rB;rw [Y0e,Y0e];have:=Z1B r.tg;have:=Zgg r.cu;show 1+_+_<=_;omega
theorem Za0:∀ (l:List RU),(∀ r∈l,r.tg<=63)->(l.flatMap rB).length<=71*l.length
 | [],_=>Y0m _
 | p :: l, h => by
   rw [List.flatMap_cons,Y0e,Y04];have:=Zk9 (h p (Y0t ..));have:=Za0 l fun q hq=>h q (List.mem_cons_of_mem _ hq);omega
theorem Zjj {t:PB} (h:PbW t):(hdB t).length<=30000:=by
 unfold hdB;rw [Y0e,Y0e,Y0e];have h1:=Z1B t.n;have h2:=Z5d (hyB t.l);have h3:=ZbN h.lk;have h4:=Z5d (sB t.st);have h5:=Z7Y t.st;have h6:=Z1B t.rs.length;have:=h.n; have:=h.ll; have:=h.rl;omega
theorem ZkD {N:Nat} (h:N<256):W8 (sB N):=fun x hx=>by
 unfold sB at hx
 split at hx
 . cases hx
 . rw [Y0g] at hx; rw [hx]; exact h
theorem ZkH {c:Cu} (h:c.1<256/\c.2<256):W8 (cB c):=fun x hx=>(Y0h.1 hx).elim (Zjo (ZkD h.1) x) (Zjo (ZkD h.2) x)
theorem ZkI {cs:List Cu} (h:∀ c∈cs,c.1<256/\c.2<256):W8 (lB cs):=fun x hx=>by
 rcases Y0h.1 hx with hx|hx
 . exact Z9Y _ x hx
 . obtain ⟨c, hc, hx⟩ := List.mem_flatMap.1 hx;exact ZkH (h c hc) x hx
theorem W8.app {l m:List Nat} (hl:W8 l) (hm:W8 m):W8 (l++m):=fun x hx=>(Y0h.1 hx).elim (hl x) (hm x)
theorem ZkE {t:PB} (h:PbW t):W8 (pbB t):=by
 refine W8.app (W8.app (W8.app (W8.app (W8.app (W8.app (Z9Y _) (Zjo (ZkC _))) (Zjo (ZkD h.st))) (Z9Y _)) fun x hx=>?_) (ZkI h.nv)) (ZkI h.gl);obtain⟨r,hr,hx⟩:=List.mem_flatMap.1 hx;have hc:=h.rs r hr;exact W8.app (W8.app (fun x hx=>by rw [Y0g] at hx; rw [hx]; cases r.rev<;>decide) (ZkH ⟨hc.1,hc.2.1⟩)) (Z9Y _) x hx
def idOf (t:PB):List Nat:=dig (tagB ⟨#[112,114,111,98,108,101,109]⟩ (pbB t))
theorem Z2W {t:PB} (h:PbOk t) (hw:PbW t) (S:List Nat):Spec Tryz.prog 26 [.agg (pbP t S)] (· = .agg (crow .u8 (idOf t))):=by
 refine Yp ok26 fun C hC=>?_;have hl1:=Z1B t.n;have hl2:=Z5d (hyB t.l);have hl3:=ZbN hw.lk;have hl4:=Z5d (sB t.st);have hl5:=Z7Y t.st;have hl6:=Z1B t.rs.length;have hn:=hw.n; have hll:=hw.ll; have hrl:=hw.rl; have hnl:=hw.nl; have hgl:=hw.gn;have hhl:=Zjj hw;have hml:(t.rs.map ruP).length=t.rs.length:=Y0f ..;refine gd 7 ⟨?_⟩;refine Qe (Z8J h S) ⟨ZL _ _,Yt⟩ ?_;refine gd 10 ⟨?_⟩;refine Z47 Z8Z (Z6V 0 0) Z73 rfl rfl Yt ?_;refine Zf (Z2E (ob:=2) (i0:=0) (j0:=0) (bo:=⟨1,[[.vec [] true]]⟩) 1 (by decide) rfl (by decide) (by decide) rfl) ?_;refine gd 14 ⟨?_⟩;refine Zg (v:=(t.n:Int)) rfl rfl rfl (Y0x _ ⟨by omega,by omega⟩) ?_;refine ZZ (k:=2) (i:=3) (q := []) (b1:=wBx []) (Z5M [] t.n (by omega) (by show 0+_<_;omega)) rfl rfl rfl rfl rfl (by decide) Yt ⟨Yt,Yt⟩ Yt Yt ?_;rintro r b' hr1 hr2 rfl;rw [List.nil_append];refine gd 19 ⟨?_⟩;refine Qe (ZbO t.l S hw.lk (by omega)) ⟨Zw _ _,Yt⟩ ?_;refine ZZ (k:=2) (i:=4) (Z67 (grp t.n) (hyB t.l) false (by omega)) rfl rfl rfl rfl rfl (by decide) Yt ⟨Zi _,Yt⟩ Yt (Zi _) ?_;rintro r b' hr1 hr2 rfl;refine gd 24 ⟨?_⟩;refine ZZ (k:=2) (i:=5) (Zjf (grp t.n++wB (hyB t.l)) t.st hw.st (by rw [Y0e];omega)) rfl rfl rfl rfl rfl (by decide) Yt ⟨Z1 _,Yt⟩ Yt (Zi _) ?_;rintro r b' hr1 hr2 rfl;refine gd 29 ⟨?_⟩;refine Zg (v:=(t.rs.length:Int)) rfl rfl rfl (by rw [hml]; exact Y0x _ ⟨by omega,by omega⟩) ?_;refine ZZ (k:=2) (i:=6) (Z5M (grp t.n++wB (hyB t.l)++wB (sB t.st)) t.rs.length (by omega) (by rw [Y0e,Y0e];omega)) rfl rfl rfl rfl rfl (by decide) Yt ⟨Yt,Yt⟩ Yt (Zi _) ?_;rintro r b' hr1 hr2 rfl;change opsK _ _ _ _ (Heap.upd _ _ (wBx (hdB t))) _;refine go ?_;refine ZF hC (fun i=>i<=t.rs.length) (fun i=>t.rs.length-i) 8 (fun i => [(1,.ptr 0 0 0),(2,.ptr 1 0 0),(3,.ptr 2 0 0),(32,.vec (t.rs.map ruP) false),(33,.val (.int .i64 (t.rs.length:Int))),(34,Yv i)]) (fun i => [(0,⟨6,[pbP t S]⟩),(1,⟨32,[crow .u8 (List.replicate 32 0)]⟩),(2,kid1 [] 7),(7,wBx (hdB t++(t.rs.take i).flatMap rB))]) (by decide) 0 (Y0l _)
  (fun i=>i) (fun _ _=>rfl) (Zy rfl) ⟨Qt 0 0 0,Qt 1 0 0,Qt 2 0 0,Qp (ZX _),⟨_,by rw [<- hml]; rfl,.pure _ Yt⟩,Qp Yt,Yt⟩
  ⟨Qs ⟨ZL t S,Yt⟩,⟨by decide,⟨32,[crow .u8 (List.replicate 32 0)]⟩,by kernel_rfl,.same _ ⟨ZM _ _,Yt⟩⟩,⟨by decide,_,rfl,RenB.single ⟨.own 7 (by decide),Yt⟩ rfl⟩,⟨by decide,wBx (hdB t++(t.rs.take 0).flatMap rB),by rw [List.take_zero,List.flatMap_nil,Y0p]; rfl,.same _ (Zi _)⟩,Yt⟩ ?_
 intro i hi;have hfl:=Za0 (t.rs.take i) fun r hr=>(hw.rs r (List.mem_of_mem_take hr)).2.2;rw [Y0o,Nat.min_eq_left hi] at hfl;have hinc:IntKind.i64.wrap ((i:Int)+1)=((i+1:Nat):Int):=wi (i+1) (by omega);refine gd 35 ⟨?_⟩;by_cases hil:i<t.rs.length
 . refine Qo (Qy rfl (by omega)) ?_;have hci:=hw.rs t.rs[i] (Y0j hil);have hft:(t.rs.take (i+1)).flatMap rB=(t.rs.take i).flatMap rB++rB t.rs[i]:=by
    rw [List.take_succ_eq_append_getElem hil,List.flatMap_append,List.flatMap_singleton]
   refine gd 36 ⟨?_⟩;refine Qo (Zm (xs:=t.rs) (g:=ruP) rfl rfl i rfl hil rfl) ?_;generalize t.rs[i]=u at hci hft;have hg:=Z1B u.tg;have hcl:=Zgg u.cu;have htot:(hdB t++(t.rs.take i).flatMap rB).length<=40000:=by rw [Y0e]; omega
   generalize hww:hdB t++(t.rs.take i).flatMap rB=ww at htot;refine gd 40 ⟨?_⟩;refine Z0 (p:=.val (.bool u.rev)) rfl rfl rfl ?_;refine ZZ (k:=2) (i:=7) (Zk6 ww u.rev (by omega)) rfl rfl rfl rfl rfl (by decide) Yt ⟨Yt,Yt⟩ Yt (Zi _) ?_;rintro r b' hr1 hr2 rfl;refine gd 45 ⟨?_⟩;refine ZZ (k:=2) (i:=9) (Zk7 (ww ++ [cond u.rev 1 0]) u.cu ⟨hci.1,hci.2.1⟩ (by rw [Y0e,Y0s];omega)) rfl rfl rfl rfl rfl (by decide) Yt ⟨Zu _,Yt⟩ Yt (Zi _) ?_;rintro r b' hr1 hr2 rfl;refine gd 49 ⟨?_⟩;refine Zg (v:=(u.tg:Int)) rfl rfl rfl (Y0x _ ⟨by omega,by omega⟩) ?_;refine ZZ (k:=2) (i:=10) (Z5M (ww ++ [cond u.rev 1 0]++cB u.cu) u.tg (by omega) (by rw [Y0e,Y0e,Y0s];omega)) rfl rfl rfl rfl rfl (by decide) Yt ⟨Yt,Yt⟩ Yt (Zi _) ?_;rintro r b' hr1 hr2 rfl;refine go ?_;exact⟨i+1,mv 7 11,by omega,by omega,Z4Q (by decide),Zy rfl,⟨Qt 0 0 0,Qt 1 0 0,Qt 2 0 0,Qp (ZX _),Qp Yt,⟨_,by show some _=some _; rw [hinc],.pure _ Yt⟩,Yt⟩,⟨Qs ⟨ZL t S,Yt⟩,Qs ⟨ZM _ _,Yt⟩,⟨by decide,_,rfl,RenB.single ⟨.own 7 (by decide),Yt⟩ rfl⟩,⟨by decide,_,rfl,by rw [hft,show hdB t++((t.rs.take i).flatMap rB++rB u)=ww ++ [cond u.rev 1 0]++cB u.cu++grp u.tg by rw [<- hww]; unfold rB; simp only [List.append_assoc]]; exact .same _ (Zi _)⟩,Yt⟩⟩
 . obtain rfl : i = t.rs.length := by omega
   refine Qo (Qz rfl (by omega)) ?_;rw [Y0q] at hfl ⊢;have htot:(hdB t++t.rs.flatMap rB).length<=40000:=by rw [Y0e]; omega
   have hpb:pbB t=hdB t++t.rs.flatMap rB++lB t.nv++lB t.gl:=rfl;have hlb:=Zie t.nv;have hlg:=Zie t.gl;have hpW:=ZkE hw;generalize hww:hdB t++t.rs.flatMap rB=ww at htot hpb;refine gd 55 ⟨?_⟩;refine ZZ (k:=2) (i:=7) (Zif ww t.nv false hw.nv (by omega)) rfl rfl rfl rfl rfl (by decide) Yt ⟨Z9 Ze _,Yt⟩ Yt (Zi _) ?_;rintro r b' hr1 hr2 rfl;refine gd 59 ⟨?_⟩;refine ZZ (k:=2) (i:=8) (Zif (ww++lB t.nv) t.gl false hw.gl (by rw [Y0e];omega)) rfl rfl rfl rfl rfl (by decide) Yt ⟨Z9 Ze _,Yt⟩ Yt (Zi _) ?_;rintro r b' hr1 hr2 rfl;have hpl:(pbB t).length<100000:=by rw [hpb,Y0e,Y0e]; omega
   have hid:idOf t=dig (tagB ⟨#[112,114,111,98,108,101,109]⟩ (pbB t)):=rfl;rw [<- hpb];obtain⟨x,m,hxm⟩:∃ x m,pbB t=x :: m:=by
    obtain⟨x,m,h⟩:=ZcY t.n;exact⟨x,m++(wB (hyB t.l)++(wB (sB t.st)++(grp t.rs.length++(t.rs.flatMap rB++(lB t.nv++lB t.gl))))),by unfold pbB hdB; rw [h]; simp only [List.append_assoc,List.cons_append]⟩
   rw [hxm] at hpl hpW hid ⊢;rw [Y04] at hpl;refine gd 61 ⟨?_⟩;refine Zf (ZA (ob:=2) (id:=9) (i0:=0) (j0:=0) (bo:=kid1 [] 9) (b:=wBx (x :: m)) rfl rfl (by decide) (Zi _) (by decide) (by decide) rfl) ?_;refine ZP (id:=2) (Zjg x m false (by omega)) rfl rfl rfl rfl ⟨⟨Zi _,Yt⟩,Yt⟩ Yt ?_;rintro r b' hr1 hr2 ⟨rfl,rfl⟩;refine gd 63 ⟨?_⟩;refine Qe (ZbM ⟨#[112,114,111,98,108,101,109]⟩ (x :: m) false hpW (by decide) (by rw [Y04];omega)) ⟨Yt,⟨⟨Zi _,Yt⟩,Yt⟩,Yt⟩ ?_;rw [<- hid];have hcl:(crow .u8 (idOf t)).length=32:=by rw [Zz]; exact Z5z _
   generalize hcc:crow .u8 (idOf t)=cc at hcl;have hcp:pureL cc:=hcc▸ZM _ _;refine Qo (Z8W (l:=crow .u8 (List.replicate 32 0)) rfl rfl rfl hcl rfl) ?_;refine go ?_;refine Z7 (Z27 (Z5R (l:=cc ++ []) (r:=cc) rfl rfl ?_ ?_)) hcp rfl
   . rw [Y0p,hcl]; decide
   . rw [Y0p,List.drop_zero,List.take_of_length_le (by rw [hcl]; exact Y0m _)]
theorem Zee (xs:List Nat) (fl:Bool) (hlen:xs.length<=1000000):NSpec Tryz.prog 49 [.vec (inL xs) fl] .own ⟨1,inL xs⟩:=by
 refine Z26 ok49 (Nat.le_of_ble_eq_true rfl) fun C hC=>?_;have fin:∀ (x:Nat) (xs:List Nat),(∀ c∈inL (x :: xs),c.length=1):=fun x xs c hc=>by obtain⟨y,_,rfl⟩:=Y0i.1 hc; rfl
 cases xs with
 | nil =>
   refine go ?_;refine Z5o (.inl ⟨_,_,rfl⟩) rfl fun b=>?_;cases b
   . repeat' (first | refine Zf (ZG (k := 5) rfl 1 (by decide)) ?_ | (first|refine st ?_|(apply B<;>intro hb<;>try cases hb)))
     exact⟨_,_,rfl,.inl rfl,_,rfl,rfl⟩
   . iterate 6 (first|refine st ?_|(apply B<;>intro hb<;>try cases hb))
     refine Z20 (ZG (k:=2) rfl 1 (by decide) _) ?_;refine go ?_;exact⟨_,_,rfl,.inl rfl,_,rfl,rfl⟩
 | cons x xs =>
   repeat' (first|refine Zf (ZG (k:=5) rfl 1 (by decide)) ?_|(first|refine st ?_|(apply B<;>intro hb<;>try cases hb)))
   refine ZD (Zx (k:=0) (m:=inL (x :: xs)) (fl:=fl) rfl rfl rfl (fin x xs) rfl (by
    show (([]:List (List PV)).length+(inL (x :: xs)).length)*8<=_
    rw [Z6U,List.length_nil];omega)) rfl rfl ?_
   refine go ?_;exact⟨_,_,rfl,.inl rfl,_,rfl,by rw [List.nil_append]; rfl⟩
theorem Z75 (xs:List Nat) (fl:Bool) (g:Nat) (p:Nat->Bool) (hg:∀ x∈xs,Spec Tryz.prog g [.val (.int .i64 (x:Int))] (· = .val (.bool (p x)))) :
 Spec Tryz.prog 124 [.vec (inL xs) fl,.fn g []] (· = .val (.int .i64 (idxI p xs))):=by
 refine Yp ok124 fun C hC=>?_;refine Z2Z (k:=0) rfl fun hmax=>?_;have hnl:(inL xs).length=xs.length:=by simp [inL]
 have hlm:xs.length<=maxVec:=by rw [<- hnl]; exact hmax
 refine go ?_;refine Z3c (fun i=>i<=xs.length/\(xs.take i).any p=false) (fun i=>xs.length-i) (fun i => [(0,.vec (inL xs) fl),(1,.fn g []),(7,.val (.int .i64 (xs.length:Int))),(8,Yv i)]) 0 ⟨Y0l _,rfl⟩ ⟨rfl,rfl,by rw [<- hnl]; rfl,rfl,Yt⟩ ?_;rintro i ⟨hi,hno⟩;have hinc:IntKind.i64.wrap ((i:Int)+1)=((i+1:Nat):Int):=Y0v _ ⟨by omega,by simp only [maxVec] at hlm; omega⟩;(refine go ?_;repeat' (apply B<;>intro hb<;>try cases hb))
 . have hil : i < xs.length := by simpa using hb
   refine Qo (Zm (xs:=xs) (g:=inC1) rfl rfl i rfl hil rfl) ?_;(first|refine st ?_|(apply B<;>intro hb<;>try cases hb));refine Qe (hg _ (Y0j hil)) ⟨Yt,Yt⟩ ?_;refine Z1s ?_;refine Z4q rfl (fun hx=>?_) (fun hx=>?_)
   . refine go ?_;exact Z7 rfl Yt (by rw [Z4y hil hno hx])
   . (refine go ?_;repeat' (apply B<;>intro hb<;>try cases hb));exact⟨i+1,⟨by omega,Z3i hil hno hx⟩,by omega,rfl,rfl,⟨rfl,rfl,rfl,by show some _=some _; rw [hinc],Yt⟩⟩
 . have hil : i = xs.length := by simp at hb; omega
   subst hil;rw [Y0q] at hno;exact Z7 rfl Yt (by rw [Z2e hno]; rfl)
theorem Z5e (xs:List Nat) (fl:Bool) (g:Nat) (p:Nat->Bool) (hg:∀ x∈xs,Spec Tryz.prog g [.val (.int .i64 (x:Int))] (· = .val (.bool (p x)))) :
 Spec Tryz.prog 71 [.vec (inL xs) fl,.fn g []] (· = .val (.bool (xs.any p))):=by
 refine Yp ok71 fun C hC=>?_;refine go ?_;refine Qe (Z75 xs fl g p hg) ⟨Z16 xs,Yt,Yt⟩ ?_;refine Qo (Z4 rfl (Z4X (p:=p) (xs:=xs))) ?_;(refine go ?_;repeat' (apply B<;>intro hb<;>try cases hb))
 all_goals exact Z7 rfl Yt (by rw [hb])
theorem Zgi (k:Nat):Spec Tryz.prog 72 [.val (.int .i64 (k:Int))] (· = .val (.bool (decide (64<=k)))):=by
 refine Yp ok72 fun C hC=>?_;refine gd 4 ⟨?_⟩;refine Qo (Qz rfl (by omega)) ?_;refine gd 7 ⟨?_⟩;refine Zo rfl ?_;refine Qo (Z4 (v:=decide (64<=k)) rfl (decide_eq_decide.2 (by omega))) ?_;cases decide (64<=k)
 . refine go ?_;exact Z7 rfl Yt rfl
 . refine go ?_;exact Z7 rfl Yt rfl
def certL (id:List Nat) (b:Bool) (p:List Nat) (fp:Bool) (l:List Cu) (fl:Bool):List PV:=crow .u8 id ++ [.val (.bool b),.vec (inL p) fp,.vec (l.map cuC) fl]
theorem Z1Q (id:List Nat) (b:Bool) (p:List Nat) (fp:Bool) (l:List Cu) (fl:Bool):pureL (certL id b p fp l fl):=Z1n (ZM _ _) ⟨Yt,Z16 _,Z9 Ze _,Yt⟩
theorem Z4k (cc t cs:List PV) (n j:Nat) (h:cc.length=n):setAt (cc++t) (n+j) cs=cc++setAt t j cs:=by
 subst h;unfold setAt;rw [List.take_append,List.take_of_length_le (by omega),Nat.add_sub_cancel_left,Nat.add_assoc,List.drop_append,List.drop_of_length_le (by omega),Nat.add_sub_cancel_left,List.nil_append,List.append_assoc,List.append_assoc,List.append_assoc]
theorem Zjk {e:Env} {a b c:Operand} {cc:List PV} {q:PV} (ha:ev e a=some (.agg cc)) (hc:ev e c=some q) (hq:q.flat=true) (hq1:q.cells = [q]) (hl:cc.length=32) (z:List PV) (hz:z.length=35) (x:PV) (hb:ev e b=some (.val (.bool true))) (hzd:z.drop 32 = [.val (.bool false),.vec [] true,.vec [] true]):buildL e z [(0,32,a),(32,1,b),(33,1,c)]=some (cc ++ [.val (.bool true),q,.vec [] true]):=by
 have h1:setAt z 0 cc=cc ++ [.val (.bool false),.vec [] true,.vec [] true]:=by
  unfold setAt;rw [List.take_zero,List.nil_append,hl,Nat.zero_add,hzd]
 have e1:(PV.agg cc).cells=cc:=rfl;have e2:(PV.val (.bool true)).cells = [.val (.bool true)]:=rfl;have f1:(PV.agg cc).flat=true:=rfl;have f2:(PV.val (.bool true)).flat=true:=rfl;simp only [buildL,ha,hb,hc,e1,e2,f1,f2,hq,hq1,hl,hz,h1,Bool.true_and,Y0s,beq_self_eq_true];rw [if_pos (by decide)];rw [show setAt (cc ++ [PV.val (.bool false),.vec [] true,.vec [] true]) 32 [.val (.bool true)]=cc ++ [.val (.bool true),.vec [] true,.vec [] true] from Z4k cc _ _ 32 0 hl];rw [if_pos (by rw [Y0e,hl]; decide)];rw [show setAt (cc ++ [PV.val (.bool true),.vec [] true,.vec [] true]) 33 [q]=cc ++ [.val (.bool true),q,.vec [] true] from Z4k cc _ _ 32 1 hl];rw [if_pos (by rw [Y0e,hl]; decide)]
theorem ZhT {e:Env} {a c:Operand} {cc:List PV} {q:PV} (ha:ev e a=some (.agg cc)) (hc:ev e c=some q) (hq:q.flat=true) (hq1:q.cells = [q]) (hl:cc.length=32) (z:List PV) (hz:z.length=35) (hzd:z.drop 32 = [.val (.bool false),.vec [] true,.vec [] true]):buildL e z [(0,32,a),(34,1,c)]=some (cc ++ [.val (.bool false),.vec [] true,q]):=by
 have h1:setAt z 0 cc=cc ++ [.val (.bool false),.vec [] true,.vec [] true]:=by
  unfold setAt;rw [List.take_zero,List.nil_append,hl,Nat.zero_add,hzd]
 have e1:(PV.agg cc).cells=cc:=rfl;have f1:(PV.agg cc).flat=true:=rfl;simp only [buildL,ha,hc,e1,f1,hq,hq1,hl,hz,h1,Bool.true_and,Y0s,beq_self_eq_true];rw [if_pos (by decide)];rw [if_pos (by rw [Y0e,hl]; decide)];rw [show setAt (cc ++ [PV.val (.bool false),.vec [] true,.vec [] true]) 34 [q]=cc ++ [.val (.bool false),.vec [] true,q] from Z4k cc _ _ 32 2 hl]
theorem Za1 {e:Env} {h:Heap} {n:Nat} {z:List Value} {ps:List (Nat×Nat×Operand)} {l:List PV} (hb:buildL e (zpv z) ps=some l):dEval (.build z ps) e h n=some (.agg l,h):=by
 simp only [dEval,hb]
def zCert:List PV:=crow .u8 (List.replicate 32 0) ++ [.val (.bool false),.vec [] true,.vec [] true]
theorem Z68 (t:PB):(idOf t).length=32:=Z5z _
theorem Za2 {t:PB} (h:PbOk t) (hw:PbW t) (S:List Nat) (p:List Nat) (fl:Bool) (hp:p.length<=1000000):Spec Tryz.prog 19 [.agg (pbP t S),.vec (inL p) fl] (· = .agg (certL (idOf t) true p false [] true)):=by
 refine Yp ok19 fun C hC=>?_;have hpp:=ZL t S;have hil:=Z68 t;have hcl:(crow .u8 (idOf t)).length=32:=by rw [Zz,hil]
 have hlen:(certL (idOf t) true p false [] true).length=35:=by unfold certL; rw [Y0e,hcl]; rfl
 have hcp:=Z1Q (idOf t) true p false [] true;have hid:=Z2W h hw S;have hcd:certL (idOf t) true p false [] true=crow .u8 (idOf t) ++ [.val (.bool true),.vec (inL p) false,.vec [] true]:=rfl;generalize certL (idOf t) true p false [] true=cc at hlen hcp hcd ⊢;generalize crow .u8 (idOf t)=ci at hid hcl hcd;have hcip:pureL ci:=by rw [hcd] at hcp; exact (Z1f _ _).2 fun q hq=>(Z1f _ _).1 hcp q (List.mem_append_left _ hq)
 refine gd 2 ⟨?_⟩;refine Z5 rfl rfl rfl ?_;refine gd 6 ⟨?_⟩;refine Qe hid ⟨hpp,Yt⟩ ?_;refine gd 8 ⟨?_⟩;refine Qe ((Zee p fl hp).spec (Z16 p) (fun _=>.own) (Z16 p)) ⟨Z16 p,Yt⟩ ?_;refine Qo (Za1 (l:=cc) (by rw [hcd]; exact Zjk rfl rfl rfl rfl hcl _ (by kernel_rfl) pvu rfl (by kernel_rfl))) ?_;refine Qo (Z8W (l:=zCert) rfl rfl (by kernel_rfl) hlen (by kernel_rfl)) ?_;refine go ?_;refine Z7 (Z27 (Z5R (l:=cc ++ []) (r:=cc) rfl rfl ?_ ?_)) hcp rfl
 . rw [Y0p,hlen]; decide
 . rw [Y0p,List.drop_zero,List.take_of_length_le (by rw [hlen]; exact Y0m _)]
theorem Z3U {t:PB} (h:PbOk t) (hw:PbW t) (S:List Nat) (l:List Cu) (fl:Bool) (hl:l.length<=1000000):Spec Tryz.prog 16 [.agg (pbP t S),.vec (l.map cuC) fl] (· = .agg (certL (idOf t) false [] true l false)):=by
 refine Yp ok16 fun C hC=>?_;have hpp:=ZL t S;have hil:=Z68 t;have hcl:(crow .u8 (idOf t)).length=32:=by rw [Zz,hil]
 have hlen:(certL (idOf t) false [] true l false).length=35:=by unfold certL; rw [Y0e,hcl]; rfl
 have hcp:=Z1Q (idOf t) false [] true l false;have hid:=Z2W h hw S;have hcd:certL (idOf t) false [] true l false=crow .u8 (idOf t) ++ [.val (.bool false),.vec [] true,.vec (l.map cuC) false]:=rfl;generalize certL (idOf t) false [] true l false=cc at hlen hcp hcd ⊢;generalize crow .u8 (idOf t)=ci at hid hcl hcd;have hcip:pureL ci:=by rw [hcd] at hcp; exact (Z1f _ _).2 fun q hq=>(Z1f _ _).1 hcp q (List.mem_append_left _ hq)
 refine gd 2 ⟨?_⟩;refine Z5 rfl rfl rfl ?_;refine gd 6 ⟨?_⟩;refine Qe hid ⟨hpp,Yt⟩ ?_;refine gd 8 ⟨?_⟩;refine Qe ((Z7E l fl hl).spec (Z9 Ze l) (fun _=>.own) (Z9 Ze l)) ⟨Z9 Ze l,Yt⟩ ?_;refine Qo (Za1 (l:=cc) (by rw [hcd]; exact ZhT rfl rfl rfl rfl hcl _ (by kernel_rfl) (by kernel_rfl))) ?_;refine Qo (Z8W (l:=zCert) rfl rfl (by kernel_rfl) hlen (by kernel_rfl)) ?_;refine go ?_;refine Z7 (Z27 (Z5R (l:=cc ++ []) (r:=cc) rfl rfl ?_ ?_)) hcp rfl
 . rw [Y0p,hlen]; decide
 . rw [Y0p,List.drop_zero,List.take_of_length_le (by rw [hlen]; exact Y0m _)]
def rolesN:Nat:=withoutN (2 ^ 64-1) 0
theorem Zgj:rolesN<18446744073709551616:=ZaH (by decide) 0
def cT:List Cu->Nat
 | []=>0
 | c :: r=>if decide (c.1 ||| c.2 ||| rolesN=rolesN) then (if emC c then 6 else cT r) else 2
def chkT (p:List Nat) (l:List Cu):Nat:=if p.any (fun k=>decide (64<=k)) then 2 else cT l
def FormC (b:Bool) (p:List Nat) (l:List Cu):Prop:=(b=true/\l = []) \/ (b=false/\p = [])
section
variable {id p:List Nat} {b fp fl:Bool} {l:List Cu}
theorem ZcZ (hid:id.length=32):(certL id b p fp l fl).drop 32=.val (.bool b) :: [.vec (inL p) fp,.vec (l.map cuC) fl]:=by
 unfold certL;rw [List.drop_append,Zz,hid,List.drop_of_length_le (by rw [Zz,hid]; exact Y0m _)]
 rfl
theorem Zd0 (hid:id.length=32):(certL id b p fp l fl).drop 33=.vec (inL p) fp :: [.vec (l.map cuC) fl]:=by
 unfold certL;rw [List.drop_append,Zz,hid,List.drop_of_length_le (by rw [Zz,hid]; decide)]
 rfl
theorem Zd1 (hid:id.length=32):(certL id b p fp l fl).drop 34=.vec (l.map cuC) fl :: []:=by
 unfold certL;rw [List.drop_append,Zz,hid,List.drop_of_length_le (by rw [Zz,hid]; decide)]
 rfl
theorem Z76 (hid:id.length=32):(certL id b p fp l fl).length=35:=by
 unfold certL;rw [Y0e,Zz,hid]
 rfl
end
theorem ZbP (id:List Nat) (hid:id.length=32) (b:Bool) (p:List Nat) (fp:Bool) (l:List Cu) (fl:Bool) (hf:FormC b p l) (hp:p.length<=10000) (hll:l.length<=2000) (hl:∀ c∈l,Ok64 c):Spec Tryz.prog 27 [.agg (certL id b p fp l fl)] (· = .val (.int .i64 ((chkT p l:Nat):Int))):=by
 refine Yp ok27 fun C hC=>?_;have d32:=ZcZ (b:=b) (p:=p) (fp:=fp) (l:=l) (fl:=fl) hid;have d33:=Zd0 (b:=b) (p:=p) (fp:=fp) (l:=l) (fl:=fl) hid;have d34:=Zd1 (b:=b) (p:=p) (fp:=fp) (l:=l) (fl:=fl) hid;have hlen:=Z76 (b:=b) (p:=p) (fp:=fp) (l:=l) (fl:=fl) hid;have hcp:=Z1Q id b p fp l fl;have hil:=Z6U p;have hml:(l.map cuC).length=l.length:=Y0f ..;have hlp:pureLL (l.map cuC):=Z9 Ze l;generalize certL id b p fp l fl=cc at d32 d33 d34 hlen hcp;have hcf:=Z5e p fp 72 (fun k=>decide (64<=k)) (fun k _=>Zgi k);have hbe:=Z36 64 (by decide) (by decide);have hwo:=Z10 (2 ^ 64-1) (by decide) 0;change Spec _ _ _ (· = setN rolesN) at hwo;have hrl:=Zgj;refine gd 1 ⟨?_⟩;refine Z5 (Z6O rfl (by rw [hlen]; decide)) rfl rfl ?_
 iterate 2 (first|refine st ?_|(apply B<;>intro hb<;>try cases hb))
 have hci:∀ D,innL D cc:=fun D=>Zv (fun _ h=>h.elim) _ hcp;have hli:∀ D,innLL D (l.map cuC):=fun D=>Zb (fun _ h=>h.elim) _ hlp;refine Zca hC (p.any (fun k=>decide (64<=k))=false) 0 [(1,.cp cc)] [] (Y0l _) ?_ (fun hany=>?_)
 . refine gd 8 ⟨?_⟩;refine Qo (Z4l rfl d33) ?_;refine gd 10 ⟨?_⟩;refine Qo (Qz rfl (by rw [hil];omega)) ?_;refine gd 13 ⟨?_⟩;refine Zo rfl ?_;refine Qo (Z4l rfl d34) ?_;refine gd 15 ⟨?_⟩;refine Zo rfl ?_;refine Qo (Qz rfl (by rw [hml];omega)) ?_;refine gd 19 ⟨?_⟩;refine Qo (Z4l rfl d32) ?_;rcases hf with⟨rfl,rfl⟩|⟨rfl,rfl⟩
   . refine gd 22 ⟨?_⟩;refine Zo rfl ?_;refine Qo (Z4l rfl d34) ?_;refine gd 28 ⟨?_⟩;refine Zo rfl ?_;refine Qo (Z4l rfl d32) ?_;refine gd 39 ⟨?_⟩;refine Qo (Z4l rfl d33) ?_;refine Qe hcf ⟨Z16 p,Yt,Yt⟩ ?_;cases ha:p.any fun k=>decide (64<=k)
     . refine go ?_;exact⟨rfl,⟨⟨rfl,hci _⟩,Yt⟩,Yt⟩
     . refine go ?_;exact Z7 rfl Yt (by unfold chkT; rw [ha]; rfl)
   . refine gd 28 ⟨?_⟩;refine Zo rfl ?_;refine Qo (Z4l rfl d32) ?_;refine gd 32 ⟨?_⟩;refine Zo rfl ?_;refine Qo (Z4l rfl d33) ?_;refine gd 39 ⟨?_⟩;refine Qo (Z4l rfl d33) ?_;refine Qe hcf ⟨Z16 _,Yt,Yt⟩ ?_;refine go ?_;exact⟨rfl,⟨⟨rfl,hci _⟩,Yt⟩,Yt⟩
 . have hct : chkT p l = cT l := by unfold chkT; rw [hany]; rfl
   rw [hct];generalize hfin:cT l=fin;refine gd 41 ⟨?_⟩;refine Qe hbe ⟨Yt,Yt⟩ ?_;refine Qe hwo ⟨Z1 _,Yt,Yt⟩ ?_;refine gd 44 ⟨?_⟩;refine Qo (Z4l rfl d34) ?_;refine go ?_;refine Zn hC (fun i=>i<=l.length/\cT (l.drop i)=fin) (fun i=>l.length-i) 1 (fun i => [(3,.ptr 0 0 0),(44,.vec (l.map cuC) fl),(45,.val (.int .i64 (l.length:Int))),(46,Yv i)]) (fun _ => [(0,sBx rolesN)]) (by decide) 0 ⟨Y0l _,hfin⟩
    ⟨⟨rfl,show 0<1 by decide⟩,⟨rfl,hli _⟩,⟨by rw [<- hml]; rfl,Yt⟩,⟨rfl,Yt⟩,Yt⟩ ⟨⟨by decide,rfl,Z2D _ _⟩,Yt⟩ ?_
   rintro i ⟨hi,hk⟩;have hinc:IntKind.i64.wrap ((i:Int)+1)=((i+1:Nat):Int):=Y0v _ ⟨by omega,by omega⟩;refine gd 47 ⟨?_⟩;by_cases hil2:i<l.length
   . refine Qo (Qy rfl (by omega)) ?_;have hdr:l.drop i=l[i] :: l.drop (i+1):=List.drop_eq_getElem_cons hil2;rw [hdr] at hk;have hc64:=hl _ (Y0j hil2);refine gd 48 ⟨?_⟩;refine Qo (Zm (xs:=l) (g:=cuC) rfl rfl i rfl hil2 rfl) ?_;generalize l[i]=c at hk hc64;have hor:=Z2C hc64.1 hc64.2;have hwi:=Z1i (c.1 ||| c.2) rolesN hor hrl;change (if decide (c.1 ||| c.2 ||| rolesN=rolesN) then (if emC c then 6 else cT (l.drop (i+1))) else 2)=fin at hk;refine gd 54 ⟨?_⟩;refine Qd (Z1j c.1 c.2 hc64.1 hc64.2) ⟨Z1 _,Z1 _,Yt⟩ ?_;refine gd 56 ⟨?_⟩;refine Qd hwi ⟨Z1 _,Z1 _,Yt⟩ ?_;cases hw:decide (c.1 ||| c.2 ||| rolesN=rolesN)
     . rw [hw, if_neg (by decide)] at hk;refine go ?_;exact Z7 rfl Yt (by rw [<- hk]; rfl)
     rw [hw,if_pos rfl] at hk;refine gd 59 ⟨?_⟩;refine Qe (Z18 c hc64) ⟨Zu _,Yt⟩ ?_;cases he:emC c
     . rw [he, if_neg (by decide)] at hk;refine go ?_;exact⟨i+1,⟨hil2,hk⟩,by omega,⟨⟨rfl,show 0<1 by decide⟩,⟨rfl,hli _⟩,⟨rfl,Yt⟩,⟨by show some _=some _; rw [hinc],Yt⟩,Yt⟩,⟨⟨by decide,rfl,Z2D _ _⟩,Yt⟩⟩
     . rw [he, if_pos rfl] at hk;refine go ?_;exact Z7 rfl Yt (by rw [<- hk]; rfl)
   . obtain rfl : i = l.length := by omega
     refine Qo (Qz rfl (by omega)) ?_;rw [List.drop_length] at hk;refine go ?_;exact Z7 rfl Yt (by rw [<- hk]; rfl)
theorem eqCrow:∀ (n:Nat) (a b:List Nat),a.length=n->b.length=n->eqCells (List.replicate n 0) (crow .u8 a) (crow .u8 b)=some (decide (a=b))
 | 0,[],[],_,_=>rfl
 | n + 1, x :: a, y :: b, ha, hb => by
   have ih:=eqCrow n a b (Nat.succ.inj ha) (Nat.succ.inj hb);show (match eqCell 0 (.val (.int .u8 (x:Int))) (.val (.int .u8 (y:Int))),eqCells (List.replicate n 0) (crow .u8 a) (crow .u8 b) with|some x,some y=>some (x&&y)|_,_=>none)=_;rw [ih];have e1:eqCell 0 (.val (.int .u8 (x:Int))) (.val (.int .u8 (y:Int)))=some (decide (x=y)):=by
    show (if (0=0/\IntKind.u8=IntKind.u8) then some (((x:Int)) == (y:Int)) else none)=_;rw [if_pos ⟨rfl,rfl⟩];congr 1;by_cases h:x=y
    . subst h; simp
    . rw [Y0w h];exact beq_eq_false_iff_ne.2 (by omega)
   rw [e1];show some (decide (x=y)&&decide (a=b))=_;congr 1;rw [<- Bool.decide_and];exact decide_eq_decide.2 (by rw [List.cons.injEq])
section
variable {e:Env} {h:Heap} {n:Nat} {x y:Operand} {a b:List Nat}
theorem Zgk (hx:ev e x=some (.agg (crow .u8 a))) (hy:ev e y=some (.agg (crow .u8 b))) (ha:a.length=32) (hb:b.length=32):dEval (.bin .eql (.cells (List.replicate 32 0)) x y) e h n=some (.val (.bool (decide (a=b))),h):=by
 simp only [dEval,hx,hy,pbin,eqCrow 32 a b ha hb]
theorem Zgl (hx:ev e x=some (.agg (crow .u8 a))) (hy:ev e y=some (.agg (crow .u8 b))) (ha:a.length=32) (hb:b.length=32):dEval (.bin .neq (.cells (List.replicate 32 0)) x y) e h n=some (.val (.bool (!decide (a=b))),h):=by
 simp only [dEval,hx,hy,pbin,eqCrow 32 a b ha hb]
theorem Zgm {l r:List PV} {size:Nat} (hx:ev e x=some (.cp l)) (hl:size<=l.length) (hr:l.take size=r):dEval (.load true size x) e h n=some (.agg r,h):=by
 subst hr;simp only [dEval,hx,cutAt];rw [if_pos (by omega)]
 rfl
end
theorem ZhU {l:List Cu} {c:Cu} (hc:c∈l):c.1 ||| mentC l=mentC l/\c.2 ||| mentC l=mentC l:=by
 have gen:∀ (l:List Cu) (a:Nat),a ||| l.foldl (fun s c=>(s ||| c.1) ||| c.2) a=l.foldl (fun s c=>(s ||| c.1) ||| c.2) a:=by
  intro l
  induction l with
  | nil=>exact fun a=>Nat.or_self a
  | cons x l ih =>
    intro a;have h1:=ih ((a ||| x.1) ||| x.2);show a ||| l.foldl _ ((a ||| x.1) ||| x.2)=l.foldl _ ((a ||| x.1) ||| x.2)
    rw [<- h1];apply Nat.eq_of_testBit_eq;intro i;simp only [Y00];cases a.testBit i<;>simp
 have gen2:∀ (l:List Cu) (a:Nat) (c:Cu),c∈l->c.1 ||| l.foldl (fun s c=>(s ||| c.1) ||| c.2) a=l.foldl (fun s c=>(s ||| c.1) ||| c.2) a/\c.2 ||| l.foldl (fun s c=>(s ||| c.1) ||| c.2) a=l.foldl (fun s c=>(s ||| c.1) ||| c.2) a:=by
  intro l
  induction l with
  | nil=>exact fun a c hc=>by cases hc
  | cons x l ih =>
    intro a c hc;rcases List.mem_cons.1 hc with rfl|hc
    . have h1 := gen l ((a ||| c.1) ||| c.2);show c.1 ||| l.foldl _ ((a ||| c.1) ||| c.2)=l.foldl _ ((a ||| c.1) ||| c.2)/\c.2 ||| l.foldl _ ((a ||| c.1) ||| c.2)=l.foldl _ ((a ||| c.1) ||| c.2)
      rw [<- h1];constructor
      . apply Nat.eq_of_testBit_eq;intro i;simp only [Y00];cases c.1.testBit i<;>simp
      . apply Nat.eq_of_testBit_eq;intro i;simp only [Y00];cases c.2.testBit i<;>simp
    . exact ih _ c hc
 exact gen2 l 0 c hc
theorem Zka {l:List Cu} (hl:∀ c∈l,Ok64 c) (h0:(mentC l).testBit 0=false):CuZ l:=fun c hc=>by
 obtain⟨h1,h2⟩:=ZhU hc;refine⟨hl c hc,?_,?_⟩
 . have := congrArg (fun x => x.testBit 0) h1;simp only [Y00,h0,Bool.or_false] at this;exact this
 . have := congrArg (fun x => x.testBit 0) h2;simp only [Y00,h0,Bool.or_false] at this;exact this
noncomputable def chkJ (t:PB) (b:Bool) (p:List Nat) (l:List Cu) (fl:Bool):Fd :=
 if idOf t=List.replicate 32 0 then (2,0,0) else if chkT p l≠0 then (3,0,0) else if properT t.n l then
  (if p.any (fun k=>decide (t.rs.length<=k)) then (3,0,0) else if b then followT t t.st p 0 else closedT t l fl) else (3,0,0)
theorem Z4C {t:PB} (h:PbOk t) (hw:PbW t) (S:List Nat) (b:Bool) (p:List Nat) (fp:Bool) (l:List Cu) (fl:Bool) (hf:FormC b p l) (hp:p.length<=10000) (hll:l.length<=2000) (hl:∀ c∈l,Ok64 c):Spec Tryz.prog 9 [.agg (pbP t S),.agg (certL (idOf t) b p fp l fl)] (· = fdP (chkJ t b p l fl)):=by
 refine Yp ok9 fun C hC=>?_;have hpp:=ZL t S;have hpi:∀ D,innL D (pbP t S):=fun D=>Zv (fun _ h=>h.elim) _ hpp;have hid:=Z68 t;have d32:=ZcZ (b:=b) (p:=p) (fp:=fp) (l:=l) (fl:=fl) hid;have d33:=Zd0 (b:=b) (p:=p) (fp:=fp) (l:=l) (fl:=fl) hid;have d34:=Zd1 (b:=b) (p:=p) (fp:=fp) (l:=l) (fl:=fl) hid;have hlen:=Z76 (b:=b) (p:=p) (fp:=fp) (l:=l) (fl:=fl) hid;have hcp:=Z1Q (idOf t) b p fp l fl;have htk:(certL (idOf t) b p fp l fl).take 32=crow .u8 (idOf t):=by
  unfold certL;rw [List.take_append,Zz,hid,Nat.sub_self,List.take_zero,Y0p,List.take_of_length_le (by rw [Zz,hid]; exact Y0m _)]
 have hck:=ZbP (idOf t) hid b p fp l fl hf hp hll hl;have hpr:=Z2W h hw S;have hcl:(crow .u8 (idOf t)).length=32:=by rw [Zz,hid]
 have hJ:chkJ t b p l fl=if idOf t=List.replicate 32 0 then (2,0,0) else if chkT p l≠0 then (3,0,0) else if properT t.n l then
  (if p.any (fun k=>decide (t.rs.length<=k)) then (3,0,0) else if b then followT t t.st p 0 else closedT t l fl) else (3,0,0):=rfl
 generalize certL (idOf t) b p fp l fl=cc at d32 d33 d34 hlen hcp htk hck;have hci:∀ D,innL D cc:=fun D=>Zv (fun _ h=>h.elim) _ hcp;have hz:∀ D,innLL D [[PV.val (.int .u8 0),.val (.int .i64 0),.val (.int .i64 0)]]:=fun D=>⟨⟨Yt,Yt,Yt,Yt⟩,Yt⟩
 generalize hii:idOf t=ii at hid htk hpr hcl hJ;refine gd 2 ⟨?_⟩;refine Z5 rfl rfl rfl ?_;refine Z5 (Z6O rfl (by rw [hlen]; decide)) rfl rfl ?_;refine gd 9 ⟨?_⟩;refine Qe hpr ⟨hpp,Yt⟩ ?_;(first|refine st ?_|(apply B<;>intro hb<;>try cases hb));refine Qo (Z8W (l:=crow .u8 (List.replicate 32 0)) rfl rfl rfl hcl rfl) ?_;refine gd 11 ⟨?_⟩;refine Qo (Zgm (r:=crow .u8 ii) rfl (by rw [List.drop_zero,hlen]; decide) (by rw [List.drop_zero,htk])) ?_;refine Qo (Z5R (l:=crow .u8 ii ++ []) (r:=crow .u8 ii) rfl rfl (by rw [Y0p,hcl]; decide) (by rw [Y0p,List.drop_zero,List.take_of_length_le (by rw [hcl]; exact Y0m _)])) ?_;refine Qo (Zgl rfl rfl hid hid) ?_;rw [decide_eq_true rfl];refine gd 15 ⟨?_⟩;refine Zo rfl ?_;refine Qo (Z5R (l:=crow .u8 ii ++ []) (r:=crow .u8 ii) rfl rfl (by rw [Y0p,hcl]; decide) (by rw [Y0p,List.drop_zero,List.take_of_length_le (by rw [hcl]; exact Y0m _)])) ?_;refine gd 17 ⟨?_⟩;refine Zo rfl ?_;refine Qo (Zgk (b:=List.replicate 32 0) rfl (by kernel_rfl) hid rfl) ?_;by_cases h0:ii=List.replicate 32 0
 . rw [if_pos h0] at hJ;rw [hJ,decide_eq_true h0];refine go ?_;exact Z7 rfl (Z1A (2,0,0)) rfl
 rw [if_neg h0] at hJ;rw [Y0w h0];refine gd 20 ⟨?_⟩;refine Qo (Zgm (r:=cc) rfl (by rw [hlen]; decide) (List.take_of_length_le (by rw [hlen]; exact Y0m _))) ?_;refine Qe hck ⟨hcp,Yt⟩ ?_;by_cases hc0:chkT p l≠0
 . rw [if_pos hc0] at hJ;rw [hJ];refine Qo (Z4 (v:=true) rfl (bne_iff_ne.2 (by omega))) ?_;refine go ?_;exact Z7 rfl (Z1A (3,0,0)) rfl
 rw [if_neg hc0] at hJ;have hc0:chkT p l=0:=by omega
 rw [hc0];refine gd 26 ⟨?_⟩;refine Zo rfl ?_;refine Qo (Z4l rfl d34) ?_;refine Zo rfl ?_;refine Qe (ZbE t h.n.2 S l fl hl) ⟨hpp,Z9 Ze l,Yt⟩ ?_;cases hpr:properT t.n l
 . rw [hpr, if_neg (by decide)] at hJ;rw [hJ];refine go ?_;exact Z7 rfl (Z1A (3,0,0)) rfl
 rw [hpr,if_pos rfl] at hJ
 have hcz:CuZ l:=Zka hl (by
  unfold properT at hpr;simp only [Y0k,Bool.not_eq_true'] at hpr
  exact hpr.1)
 have hmr:(t.rs.map ruP).length=t.rs.length:=Y0f ..;have hip:=Z6U p;have hii2:∀ D,innLL D (inL p):=fun D=>Zb (fun _ h=>h.elim) _ (Z16 p);have hst:t.st<18446744073709551616:=Nat.lt_trans hw.st (by decide);have hfo:=ZbF h S p fp (by omega) hst;have hclo:=ZbG h S l fl hcz (by omega) hst;generalize followT t t.st p 0=F at hfo hJ;generalize closedT t l fl=G at hclo hJ;refine gd 32 ⟨?_⟩;refine Qo (Z4l rfl d33) ?_;refine go ?_;refine Zn hC (fun i=>i<=p.length/\(p.take i).any (fun k=>decide (t.rs.length<=k))=false) (fun i=>p.length-i) 1 (fun i => [(2,.cp (pbP t S)),(3,.cp cc),(4,.ptr 0 0 0),(32,.vec (inL p) fp),(33,.val (.int .i64 (p.length:Int))),(34,Yv i)]) (fun _ => [(0,⟨3,[[.val (.int .u8 0),.val (.int .i64 0),.val (.int .i64 0)]]⟩)]) (by decide) 0 ⟨Y0l _,rfl⟩
  ⟨⟨rfl,hpi _⟩,⟨rfl,hci _⟩,⟨rfl,show 0<1 by decide⟩,⟨rfl,hii2 _⟩,⟨by rw [<- hip]; rfl,Yt⟩,⟨rfl,Yt⟩,Yt⟩ ⟨⟨by decide,rfl,hz _⟩,Yt⟩ ?_
 rintro i ⟨hi,hno⟩;have hinc:IntKind.i64.wrap ((i:Int)+1)=((i+1:Nat):Int):=Y0v _ ⟨by omega,by omega⟩;refine gd 35 ⟨?_⟩;by_cases hil:i<p.length
 . refine Qo (Qy rfl (by omega)) ?_;have hst2:(p.take (i+1)).any (fun k=>decide (t.rs.length<=k))=decide (t.rs.length<=p[i]):=by
    rw [List.take_succ_eq_append_getElem hil,List.any_append,hno];simp
   refine gd 36 ⟨?_⟩;refine Qo (Zm (xs:=p) (g:=inC1) rfl rfl i rfl hil rfl) ?_;have hmem:p[i]∈p:=Y0j hil;generalize p[i]=k at hst2 hmem;refine gd 39 ⟨?_⟩;refine Qo (Qz rfl (by omega)) ?_;refine gd 45 ⟨?_⟩;refine Zo rfl ?_;by_cases hk:t.rs.length<=k
   . refine Qo (Qy rfl (by rw [hmr]; omega)) ?_;rw [if_pos (Y01.2 ⟨k,hmem,decide_eq_true hk⟩)] at hJ;rw [hJ];refine go ?_;exact Z7 rfl (Z1A (3,0,0)) rfl
   . refine Qo (Qz rfl (by rw [hmr]; omega)) ?_;rw [Y0w hk] at hst2;refine go ?_;exact⟨i+1,⟨hil,hst2⟩,by omega,⟨⟨rfl,hpi _⟩,⟨rfl,hci _⟩,⟨rfl,show 0<1 by decide⟩,⟨rfl,hii2 _⟩,⟨rfl,Yt⟩,⟨by show some _=some _; rw [hinc],Yt⟩,Yt⟩,⟨⟨by decide,rfl,hz _⟩,Yt⟩⟩
 . obtain rfl : i = p.length := by omega
   refine Qo (Qz rfl (by omega)) ?_;rw [Y0q] at hno;rw [hno,if_neg (by decide)] at hJ;refine gd 50 ⟨?_⟩;refine Qo (Z4l rfl d32) ?_;cases b
   . rw [if_neg (by decide)] at hJ;rw [hJ];refine gd 57 ⟨?_⟩;refine Qo (Z4l rfl d34) ?_;refine Qe hclo ⟨hpp,Z9 Ze l,Yt⟩ ?_;refine go ?_;exact Z7 rfl (Z1A _) rfl
   . rw [if_pos rfl] at hJ;rw [hJ];refine gd 53 ⟨?_⟩;refine Qo (Z4l rfl d33) ?_;refine Qe hfo ⟨hpp,Z16 p,Yt⟩ ?_;refine go ?_;exact Z7 rfl (Z1A _) rfl
end
section
theorem Zjl (r:Nat):jun [] r=2 ^ r:=Nat.eq_of_testBit_eq fun b=>by
 rw [Bool.eq_iff_iff,Z8r Z3S,Nat.testBit_two_pow,Y0n];exact⟨fun h=>h.elim (fun h=>(Zg0 h).elim) Eq.symm,fun h=>.inr h.symm⟩
def cl0 (s:Nat):Nat:=(mem s).foldl (fun o r=>if 1<=r then o ||| 2 ^ r else o) 0
theorem Z5f:clo []=cl0:=funext fun s=>by
 rw [ZaV];simp only [Zjl]
 rfl
def sn0 (r:Nat):Nat:=2 ^ r
theorem Zd2:sen []=sn0:=funext Zj6
def good0 (t:PB) (s:Nat):Bool := !soC t.nv (cl0 s)
def step0 (t:PB) (r:RU) (s:Nat):Bool:=decide (nextR r s≠s)&&(good0 t (nextR r s)&&(r.rev||hoC r.cu (cl0 s)))
def jstep0 (t:PB) (s:Nat) (k:Int):Option Nat:=if 0<=k then (match t.rs[k.toNat]? with|some r=>if step0 t r s then some (nextR r s) else none|none=>none) else none
def follow0 (t:PB):Nat->List Nat->Nat->Fd
 | s,[],_=>if soC t.gl (cl0 s) then (1,0,0) else (5,0,0)
 | s, k :: p, i => match jstep0 t s (k : Int) with
   | some o=>follow0 t o p (i+1)
   | none=>(4,i,k)
def out0 (t:PB) (l:List Cu) (fl:Bool):Option Nat:=solveT cl0 sn0 t.n (outN t l fl)
def esc0 (t:PB) (l:List Cu) (fl:Bool) (c:Cu) (r:RU):Option Nat:=solveT cl0 sn0 t.n (escN t l fl c r)
def escE0 (t:PB) (l:List Cu) (fl:Bool) (i k:Nat):Bool:=(esc0 t l fl (cu0 l i) (ru0 t.rs k)).isSome
def closed0 (t:PB) (l:List Cu) (fl:Bool):Fd :=
 match kFind (fun i=>hoC (cu0 l i) t.st) l.length 0 with
 | some i=>(6,i,0)
 | none=>if (out0 t l fl).isSome then (7,0,0) else leakF (iFind (escE0 t l fl) t.rs.length l.length 0)
def chk0 (t:PB) (b:Bool) (p:List Nat) (l:List Cu) (fl:Bool):Fd :=
 if idOf t=List.replicate 32 0 then (2,0,0) else if chkT p l≠0 then (3,0,0) else if properT t.n l then
  (if p.any (fun k=>decide (t.rs.length<=k)) then (3,0,0) else if b then follow0 t t.st p 0 else closed0 t l fl) else (3,0,0)
section
variable {t:PB} (hl:t.l = [])
include hl
theorem Zkb (s:Nat):goodB t s=good0 t s:=by unfold goodB good0; rw [hl,Z5f]
theorem Zkc (r:RU) (s:Nat):stepR t r s=step0 t r s:=by unfold stepR step0; rw [Zkb hl,hl,Z5f]
theorem Zjm (s:Nat) (k:Int):jstep t s k=jstep0 t s k:=by
 unfold jstep jstep0;simp only [Zkc hl]
 all_goals rfl
theorem Zd3:∀ (p:List Nat) (s i:Nat),followT t s p i=follow0 t s p i
 | [], s, i => by
   show (if reachB t s then ((1,0,0):Fd) else (5,0,0))=(if soC t.gl (cl0 s) then (1,0,0) else (5,0,0))
   unfold reachB;rw [hl,Z5f]
 | k :: p, s, i => by
   show (match jstep t s (k:Int) with|some o=>followT t o p (i+1)|none=>((4,i,k):Fd))=(match jstep0 t s (k:Int) with|some o=>follow0 t o p (i+1)|none=>(4,i,k))
   rw [Zjm hl];cases jstep0 t s (k:Int) with
   | some o=>exact Zd3 p o (i+1)
   | none=>rfl
theorem ZhV (l:List Cu) (fl:Bool):closedT t l fl=closed0 t l fl:=by
 have e1:outT t l fl=out0 t l fl:=by unfold outT out0; rw [hl,Z5f,Zd2]
 have e2:escE t l fl=escE0 t l fl:=funext fun i=>funext fun k=>by unfold escE escE0 escT esc0; rw [hl,Z5f,Zd2]
 unfold closedT closed0;rw [e1,e2]
 all_goals rfl
theorem ZbQ (b:Bool) (p:List Nat) (l:List Cu) (fl:Bool):chkJ t b p l fl=chk0 t b p l fl:=by
 unfold chkJ chk0;rw [Zd3 hl,ZhV hl]
end
def tJ (nv:List Cu):PB:=⟨2,[],0,[⟨false,(0,0),1,0⟩,⟨false,(2,0),2,0⟩],nv,[(4,0)]⟩
theorem inC2 {c:Cu} (h1:c.1 ||| 6=6) (h2:c.2 ||| 6=6) (h3:emC c=false):InC 2 c/\InM 62 c:=⟨⟨h1,h2,h3⟩,Z4d h1 (by decide),Z4d h2 (by decide)⟩
theorem Zkd (nv:List Cu) (hn:nv.length<=64) (h:∀ c∈nv,InC 2 c/\InM 62 c) (h0:soC nv 0=false):PbOk (tJ nv):=by
 refine⟨show 1<=2/\2<=63 by decide,⟨List.Pairwise.nil,fun p hp=>(by cases hp),⟨fun _=>0,fun p hp=>(by cases hp)⟩⟩,fun p hp=>(by cases hp),show 0 ||| mkN 2=mkN 2 by decide,show 2<=64 by decide,fun r hr=>?_,hn,h,show 1<=64 by decide,fun c hc=>?_,?_⟩
 . have hr : r ∈ [(⟨false, (0, 0), 1, 0⟩ : RU), ⟨false, (2, 0), 2, 0⟩] := hr;simp only [List.mem_cons,List.not_mem_nil,or_false] at hr;rcases hr with rfl|rfl
   . have := inC2 (c := (0, 0)) (by decide) (by decide) (by decide);exact⟨this.1,this.2,show 1<=1/\1<=2/\1<=5 by decide,fun _=>rfl⟩
   . have := inC2 (c := (2, 0)) (by decide) (by decide) (by decide);exact⟨this.1,this.2,show 1<=2/\2<=2/\2<=5 by decide,fun h=>by cases h⟩
 . have hc : c ∈ [((4, 0) : Cu)] := hc;rw [Y0g] at hc;subst hc;exact inC2 (by decide) (by decide) (by decide)
 . show soC nv (clo [] 0) = false;rw [Zj5 (m:=2) (by decide) (by decide)]; exact h0
theorem ZkJ (nv:List Cu) (hn:nv.length<=64) (h:∀ c∈nv,c.1<256/\c.2<256):PbW (tJ nv) :=
 ⟨show 2<=63 by decide,show 0<256 by decide,fun r hr=>(by
  have hr:r∈[(⟨false,(0,0),1,0⟩:RU),⟨false,(2,0),2,0⟩]:=hr;simp only [List.mem_cons,List.not_mem_nil,or_false] at hr
  rcases hr with rfl|rfl<;>exact⟨by decide,by decide,by decide⟩),h,fun c hc=>(by
  have hc:c∈[((4,0):Cu)]:=hc;rw [Y0g] at hc;subst hc
  exact⟨by decide,by decide⟩),fun p hp=>(by cases hp),show 0<=100 by decide,show 2<=100 by decide,Y03 hn (by decide),show 1<=100 by decide⟩
def t1J:PB:=tJ []
def t2J:PB:=tJ [(6,0)]
theorem Zgn:PbOk t1J:=Zkd [] (by decide) (fun c hc=>by cases hc) rfl
theorem Zig:PbOk t2J:=Zkd [(6,0)] (by decide) (fun c hc=>by
 rw [Y0g] at hc;subst hc
 exact inC2 (by decide) (by decide) (by decide)) (by decide)
theorem Zjn:PbW t1J:=ZkJ [] (by decide) fun c hc=>by cases hc
theorem Zke:PbW t2J:=ZkJ [(6,0)] (by decide) fun c hc=>by
 rw [Y0g] at hc;subst hc;exact⟨by decide,by decide⟩
set_option maxRecDepth 100000
theorem v1 (fl:Bool):chkJ t1J true [0,1] [] fl=(1,0,0):=by rw [ZbQ rfl]; cases fl<;>decide +kernel
theorem v2 (fl:Bool):chkJ t1J true [1,0] [] fl=(4,0,1):=by rw [ZbQ rfl]; cases fl<;>decide +kernel
theorem v3 (fl:Bool):chkJ t1J true [0] [] fl=(5,0,0):=by rw [ZbQ rfl]; cases fl<;>decide +kernel
theorem v4 (fl:Bool):chkJ t1J false [] [(4,0)] fl=(8,0,1):=by rw [ZbQ rfl]; cases fl<;>decide +kernel
theorem v5 (fl:Bool):chkJ t1J false [] [(2,0),(4,0)] fl=(8,0,0):=by rw [ZbQ rfl]; cases fl<;>decide +kernel
theorem v6 (fl:Bool):chkJ t1J false [] [] fl=(7,0,0):=by rw [ZbQ rfl]; cases fl<;>decide +kernel
theorem v7 (fl:Bool):chkJ t2J false [] [(4,0)] fl=(1,0,0):=by rw [ZbQ rfl]; cases fl<;>decide +kernel
end
section
open Go.RowKit
attribute [local irreducible] aw opsK dK
abbrev Wt:=Bool×List Nat×List Cu×Bool×Bool×Fd
def fdC (f:Fd):List PV := [.val (.int .u8 (f.1:Int)),.val (.int .i64 (f.2.1:Int)),.val (.int .i64 (f.2.2:Int))]
def rowW (w:Wt):List PV:=certL (idOf t1J) w.1 w.2.1 w.2.2.2.1 w.2.2.1 w.2.2.2.2.1++fdC w.2.2.2.2.2
theorem Z2O (w:Wt):(certL (idOf t1J) w.1 w.2.1 w.2.2.2.1 w.2.2.1 w.2.2.2.2.1).length=35:=Z76 (Z68 _)
theorem Z2P (w:Wt):(rowW w).length=38:=by unfold rowW; rw [Y0e,Z2O]; rfl
theorem Za3 (w:Wt):pureL (rowW w):=Z1n (Z1Q _ _ _ _ _ _) ⟨Yt,Yt,Yt,Yt⟩
def wants:List Wt := [(true,[0,1],[],false,true,(1,0,0)),(true,[1,0],[],false,true,(4,0,1)),(true,[0],[],false,true,(5,0,0)),(false,[],[(4,0)],true,false,(8,0,1)),(false,[],[(2,0),(4,0)],true,false,(8,0,0)),(false,[],[],true,false,(7,0,0))]
theorem ZhW:∀ w∈wants,FormC w.1 w.2.1 w.2.2.1/\w.2.1.length<=10000/\w.2.2.1.length<=2000/\(∀ c∈w.2.2.1,Ok64 c)/\chkJ t1J w.1 w.2.1 w.2.2.1 w.2.2.2.2.1=w.2.2.2.2.2:=by
 intro w hw;simp only [wants,List.mem_cons,List.not_mem_nil,or_false] at hw;have h4:∀ c∈[((4,0):Cu)],Ok64 c:=fun c hc=>by
  rw [Y0g] at hc; subst hc; exact⟨by decide,by decide⟩
 have h24:∀ c∈[((2,0):Cu),(4,0)],Ok64 c:=fun c hc=>by
  simp only [List.mem_cons,List.not_mem_nil,or_false] at hc;rcases hc with rfl|rfl<;>exact⟨by decide,by decide⟩
 have h00:∀ c∈([]:List Cu),Ok64 c:=fun c hc=>by cases hc
 rcases hw with rfl|rfl|rfl|rfl|rfl|rfl
 . exact⟨.inl ⟨rfl,rfl⟩,show 2<=10000 by decide,Y0l _,h00,v1 _⟩
 . exact⟨.inl ⟨rfl,rfl⟩,show 2<=10000 by decide,Y0l _,h00,v2 _⟩
 . exact⟨.inl ⟨rfl,rfl⟩,show 1<=10000 by decide,Y0l _,h00,v3 _⟩
 . exact⟨.inr ⟨rfl,rfl⟩,Y0l _,show 1<=2000 by decide,h4,v4 _⟩
 . exact⟨.inr ⟨rfl,rfl⟩,Y0l _,show 2<=2000 by decide,h24,v5 _⟩
 . exact⟨.inr ⟨rfl,rfl⟩,Y0l _,Y0l _,h00,v6 _⟩
theorem Z7Z {e:Env} {a b:Operand} {cc:List PV} {x y w:PV} (ha:ev e a=some (.agg cc)) (hb:ev e b=some (.agg [x,y,w])) (hl:cc.length=35) (z:List PV) (hz:z.length=38):buildL e z [(0,35,a),(35,3,b)]=some (cc ++ [x,y,w]):=by
 have h1:setAt z 0 cc=cc++z.drop 35:=by
  unfold setAt;rw [List.take_zero,List.nil_append,hl]
 have hd:(z.drop 35).length=3:=by rw [List.length_drop,hz]
 have e1:(PV.agg cc).cells=cc:=rfl;have e2:(PV.agg [x,y,w]).cells = [x,y,w]:=rfl;have f1:(PV.agg cc).flat=true:=rfl;have f2:(PV.agg [x,y,w]).flat=true:=rfl;simp only [buildL,ha,hb,e1,e2,f1,f2,hl,hz,h1,Bool.true_and,beq_self_eq_true];rw [if_pos (by decide)];have h2:setAt (cc++z.drop 35) 35 [x,y,w]=cc ++ [x,y,w]:=by
  have:=Z4k cc (z.drop 35) [x,y,w] 35 0 hl;rw [show 35+0=35 from rfl] at this;rw [this];unfold setAt;rw [List.take_zero,List.nil_append,List.drop_of_length_le (by show (z.drop 35).length<=0+3;omega),Y0p]
 rw [h2,if_pos (by rw [Y0e,hl,hd]; rfl)]
theorem Zkf {e:Env} {a0 a1 a2 a3 a4 a5:Operand} {r0 r1 r2 r3 r4 r5:List PV} (h0:ev e a0=some (.agg r0)) (h1:ev e a1=some (.agg r1)) (h2:ev e a2=some (.agg r2)) (h3:ev e a3=some (.agg r3)) (h4:ev e a4=some (.agg r4)) (h5:ev e a5=some (.agg r5))
 (l0:r0.length=38) (l1:r1.length=38) (l2:r2.length=38) (l3:r3.length=38) (l4:r4.length=38) (l5:r5.length=38) (z:List PV):buildS e 38 (List.replicate 6 z) [(0,a0),(1,a1),(2,a2),(3,a3),(4,a4),(5,a5)]=some [r0,r1,r2,r3,r4,r5]:=by
 have f:∀ r,(PV.agg r).flat=true:=fun _=>rfl;have c:∀ r,(PV.agg r).cells=r:=fun _=>rfl;simp only [buildS,h0,h1,h2,h3,h4,h5,f,c,l0,l1,l2,l3,l4,l5,Bool.true_and,beq_self_eq_true]
 rfl
theorem ZkF {e:Env} {h:Heap} {n k:Nat} {z:List Value} {ps:List (Nat×Operand)} {l:List (List PV)} (hb:buildS e z.length (List.replicate k (zpv z)) ps=some l):dEval (.bslice z k ps) e h n=some (.vec l true,h):=by
 simp only [dEval,hb]
theorem Zkg {e:Env} {h:Heap} {n:Nat} {x y:Operand} {f:Fd} (hx:ev e x=some (fdP f)) (hy:ev e y=some (.agg (fdC f))):dEval (.bin .neq (.cells [0,0,0]) x y) e h n=some (.val (.bool false),h):=by
 unfold fdP at hx;unfold fdC at hy;simp [dEval,hx,hy,pbin,eqCells,eqCell]
theorem Zkh {e:Env} {h:Heap} {n:Nat} {x y:Operand} {f:Fd} (hx:ev e x=some (fdP f)) (hy:ev e y=some (.agg (fdC f))):dEval (.bin .eql (.cells [0,0,0]) x y) e h n=some (.val (.bool true),h):=by
 unfold fdP at hx;unfold fdC at hy;simp [dEval,hx,hy,pbin,eqCells,eqCell]
theorem wants4:∀ c∈[((4,0):Cu)],Ok64 c:=fun c hc=>by
 rw [Y0g] at hc; subst hc; exact⟨by decide,by decide⟩
theorem Za4:Spec Tryz.prog 6 [] (· = .val (.bool true)):=by
 have h0:words (digs 0) = []:=by rw [ZJ]; rfl
 refine Yp ok6 fun C hC=>?_;have lowY:∀ (m:Nat) (w:List (List PV)),pureLL w->RenLs (fun i=>i) (fun i=>i<m) [.vec w false,PV.vec [] true] [.vec w false,.vec [] false]:=fun m w hw=>⟨.pure _ hw,.low (.vec [] true) Yt,Yt⟩
 refine gd 7 ⟨?_⟩;refine Qe (ZbA [1] 2 (by decide +kernel) true) ⟨ZH _,Yt⟩ ?_;refine gd 10 ⟨?_⟩;refine Qe (ZbA [2] 4 (by decide +kernel) true) ⟨ZH _,Yt⟩ ?_
 iterate 6 (first|refine st ?_|(apply B<;>intro hb<;>try cases hb))
 refine Z20 (Z2m (EnvQ.mem (ρ:=fun i=>i) (m:=2) (L := [(1,.ptr 0 0 0),(2,.ptr 1 0 0)]) ⟨Qt 0 0 0,Qt 1 0 0,Yt⟩)
  (HeapQ.mem (ρ := fun i => i) (m := 2) (L := [(0, ⟨2, [cuC (2, 0)]⟩), (1, ⟨2, [cuC (4, 0)]⟩)]) ⟨⟨by decide, ⟨2, [[.vec (words (digs 2)) false, .vec [] true]]⟩, rfl, by
    show RenB _ _ _ ⟨2,[[.vec (words (digs 2)) false,.vec (words (digs 0)) false]]⟩;rw [h0]
    exact RenB.single (lowY _ _ (Za _)) rfl⟩,⟨by decide,⟨2,[[.vec (words (digs 4)) false,.vec [] true]]⟩,rfl,by
    show RenB _ _ _ ⟨2,[[.vec (words (digs 4)) false,.vec (words (digs 0)) false]]⟩;rw [h0]
    exact RenB.single (lowY _ _ (Za _)) rfl⟩,Yt⟩) hC (by decide)) ?_
 iterate 2 (first|refine st ?_|(apply B<;>intro hb<;>try cases hb))
 refine gd 12 ⟨?_⟩;refine Z4s rfl rfl (.inl rfl) Z5H Yt ?_;rintro r ⟨S,rfl⟩;have hpp:=ZL t1J S
 iterate 10 (first|refine st ?_|(apply B<;>intro hb<;>try cases hb))
 have lr:RenP (fun i=>i) (fun i=>i<11) (.vec [[.val (.bool false),.vec [] true,.vec [] true,.val (.int .i64 1),.val (.int .i64 0)],[.val (.bool false),.vec (words (digs 2)) false,.vec (words (digs 0)) false,.val (.int .i64 2),.val (.int .i64 0)]] true) (.vec [[.val (.bool false),.vec [] false,.vec [] false,.val (.int .i64 1),.val (.int .i64 0)],[.val (.bool false),.vec (words (digs 2)) false,.vec [] false,.val (.int .i64 2),.val (.int .i64 0)]] false):=by
  have:=RenP.low (ρ:=fun i=>i) (D:=fun i=>i<11) (.vec [[.val (.bool false),.vec [] true,.vec [] true,.val (.int .i64 1),.val (.int .i64 0)],[.val (.bool false),.vec (words (digs 2)) false,.vec (words (digs 0)) false,.val (.int .i64 2),.val (.int .i64 0)]] true) (by
   show pureLL [_,[_,.vec (lowLL (words (digs 2))) false,.vec (lowLL (words (digs 0))) false,_,_]];rw [ZK,ZK]
   exact⟨⟨Yt,Yt,Yt,Yt,Yt,Yt⟩,⟨Yt,Za _,Za _,Yt,Yt,Yt⟩,Yt⟩)
  have e:(PV.vec [[.val (.bool false),.vec [] true,.vec [] true,.val (.int .i64 1),.val (.int .i64 0)],[.val (.bool false),.vec (words (digs 2)) false,.vec (words (digs 0)) false,.val (.int .i64 2),.val (.int .i64 0)]] true).low=.vec [[.val (.bool false),.vec [] false,.vec [] false,.val (.int .i64 1),.val (.int .i64 0)],[.val (.bool false),.vec (lowLL (words (digs 2))) false,.vec (lowLL (words (digs 0))) false,.val (.int .i64 2),.val (.int .i64 0)]] false:=rfl;rw [e,ZK,ZK,h0] at this;rw [h0];exact this
 have lg:RenP (fun i=>i) (fun i=>i<11) (.vec [[.vec (words (digs 4)) false,.vec (words (digs 0)) false]] true) (.vec [[.vec (words (digs 4)) false,.vec [] false]] false):=by
  have:=RenP.low (ρ:=fun i=>i) (D:=fun i=>i<11) (.vec [[.vec (words (digs 4)) false,.vec (words (digs 0)) false]] true) (by
   show pureLL [[.vec (lowLL (words (digs 4))) false,.vec (lowLL (words (digs 0))) false]];rw [ZK,ZK]
   exact⟨⟨Za _,Za _,Yt⟩,Yt⟩)
  have e:(PV.vec [[.vec (words (digs 4)) false,.vec (words (digs 0)) false]] true).low=.vec [[.vec (lowLL (words (digs 4))) false,.vec (lowLL (words (digs 0))) false]] false:=rfl;rw [e,ZK,ZK,h0] at this;rw [h0];exact this
 have hpb:pbP t1J S = [.val (.int .i64 2),hierP [] S,.vec [] false,.vec [[.val (.bool false),.vec [] false,.vec [] false,.val (.int .i64 1),.val (.int .i64 0)],[.val (.bool false),.vec (words (digs 2)) false,.vec [] false,.val (.int .i64 2),.val (.int .i64 0)]] false,.vec [] false,.vec [[.vec (words (digs 4)) false,.vec [] false]] false]:=by
  show [PV.val (.int .i64 2),hierP [] S,.vec (words (digs 0)) false,.vec [[.val (.bool false),.vec (words (digs 0)) false,.vec (words (digs 0)) false,.val (.int .i64 1),.val (.int .i64 0)],[.val (.bool false),.vec (words (digs 2)) false,.vec (words (digs 0)) false,.val (.int .i64 2),.val (.int .i64 0)]] false,.vec [] false,.vec [[.vec (words (digs 4)) false,.vec (words (digs 0)) false]] false]=_;rw [h0]
 refine Z20 (Z2m (EnvQ.mem (ρ:=fun i=>i) (m:=11) (L := [(1,.ptr 0 0 0),(2,.ptr 1 0 0),(3,.ptr 10 0 0)]) ⟨Qt 0 0 0,Qt 1 0 0,Qt 10 0 0,Yt⟩)
  (HeapQ.mem (ρ := fun i => i) (m := 11) (L := [(0, ⟨2, [cuC (2, 0)]⟩), (1, ⟨2, [cuC (4, 0)]⟩), (10, ⟨6, [pbP t1J S]⟩)]) ⟨Qs ⟨Ze _, Yt⟩, Qs ⟨Ze _, Yt⟩, ⟨by decide, ⟨6, [[.val (.int .i64 2), hierP [] S, .vec [] true, .vec [[.val (.bool false), .vec [] true, .vec [] true, .val (.int .i64 1), .val (.int .i64 0)], [.val (.bool false), .vec (words (digs 2)) false, .vec (words (digs 0)) false, .val (.int .i64 2), .val (.int .i64 0)]] true, .vec [] true, .vec [[.vec (words (digs 4)) false, .vec (words (digs 0)) false]] true]]⟩, rfl, by
    rw [hpb]
    exact RenB.single ⟨.pure _ Yt,.pure _ (Zw _ _),.low (.vec [] true) Yt,lr,.low (.vec [] true) Yt,lg,Yt⟩ rfl⟩,Yt⟩) hC (by decide)) ?_
 have hr:=fun p hp=>Za2 Zgn Zjn S p true hp;have hc:=fun l hl=>Z3U Zgn Zjn S l true hl;refine gd 22 ⟨?_⟩;refine Qd (hr [0,1] (by decide)) ⟨hpp,Z16 _,Yt⟩ ?_;(first|refine st ?_|(apply B<;>intro hb<;>try cases hb));refine Qr (Za1 (Z7Z rfl rfl (Z2O (true,[0,1],[],false,true,(1,0,0))) _ (by kernel_rfl))) ?_;refine gd 27 ⟨?_⟩;refine Qd (hr [1,0] (by decide)) ⟨hpp,Z16 _,Yt⟩ ?_;(first|refine st ?_|(apply B<;>intro hb<;>try cases hb));refine Qr (Za1 (Z7Z rfl rfl (Z2O (true,[1,0],[],false,true,(4,0,1))) _ (by kernel_rfl))) ?_;refine gd 32 ⟨?_⟩;refine Qd (hr [0] (by decide)) ⟨hpp,Z16 _,Yt⟩ ?_;(first|refine st ?_|(apply B<;>intro hb<;>try cases hb));refine Qr (Za1 (Z7Z rfl rfl (Z2O (true,[0],[],false,true,(5,0,0))) _ (by kernel_rfl))) ?_;refine gd 38 ⟨?_⟩;refine Qd (hc [(4,0)] (by decide)) ⟨hpp,Z9 Ze _,Yt⟩ ?_;(first|refine st ?_|(apply B<;>intro hb<;>try cases hb));refine Qr (Za1 (Z7Z rfl rfl (Z2O (false,[],[(4,0)],true,false,(8,0,1))) _ (by kernel_rfl))) ?_;refine gd 45 ⟨?_⟩;refine Qd (hc [(2,0),(4,0)] (by decide)) ⟨hpp,Z9 Ze _,Yt⟩ ?_;(first|refine st ?_|(apply B<;>intro hb<;>try cases hb));refine Qr (Za1 (Z7Z rfl rfl (Z2O (false,[],[(2,0),(4,0)],true,false,(8,0,0))) _ (by kernel_rfl))) ?_;refine gd 49 ⟨?_⟩;refine Qd (hc [] (by decide)) ⟨hpp,Yt,Yt⟩ ?_;(first|refine st ?_|(apply B<;>intro hb<;>try cases hb));refine Qr (Za1 (Z7Z rfl rfl (Z2O (false,[],[],true,false,(7,0,0))) _ (by kernel_rfl))) ?_;refine Qr (ZkF (Zkf rfl rfl rfl rfl rfl rfl (Z2P (true,[0,1],[],false,true,(1,0,0))) (Z2P (true,[1,0],[],false,true,(4,0,1))) (Z2P (true,[0],[],false,true,(5,0,0))) (Z2P (false,[],[(4,0)],true,false,(8,0,1))) (Z2P (false,[],[(2,0),(4,0)],true,false,(8,0,0))) (Z2P (false,[],[],true,false,(7,0,0))) _)) ?_;have hwp:pureLL (wants.map rowW):=Z9 Za3 _;have hwi:∀ D,innLL D (wants.map rowW):=fun D=>Zb (fun _ h=>h.elim) _ hwp;have hp1:∀ D,innL D (pbP t1J S):=fun D=>Zv (fun _ h=>h.elim) _ hpp;have hcu:∀ (D:Nat->Prop) (c:Cu),innLL D [cuC c]:=fun D c=>Zb (fun _ h=>h.elim) _ (show pureLL [cuC c] from ⟨Ze c,Yt⟩);refine go ?_;refine Zn hC (fun i=>i<=6) (fun i=>6-i) 11 (fun i => [(1,.ptr 0 0 0),(2,.ptr 1 0 0),(3,.ptr 10 0 0),(52,.vec (wants.map rowW) true),(53,.val (.int .i64 6)),(54,Yv i)]) (fun _ => [(0,⟨2,[cuC (2,0)]⟩),(1,⟨2,[cuC (4,0)]⟩),(10,⟨6,[pbP t1J S]⟩)]) (by decide) 0 (Y0l _)
  ⟨⟨rfl,show 0<11 by decide⟩,⟨rfl,show 1<11 by decide⟩,⟨rfl,show 10<11 by decide⟩,⟨rfl,hwi _⟩,⟨rfl,Yt⟩,⟨rfl,Yt⟩,Yt⟩ ⟨⟨by decide,rfl,hcu _ _⟩,⟨by decide,rfl,hcu _ _⟩,⟨by decide,rfl,hp1 _,Yt⟩,Yt⟩ ?_
 intro i hi;have hinc:IntKind.i64.wrap ((i:Int)+1)=((i+1:Nat):Int):=wi (i+1) (by omega);refine gd 55 ⟨?_⟩;by_cases hil:i<6
 . refine Qo (Qy rfl (by omega)) ?_;obtain⟨w1,w2,w3,w4,w5⟩:=ZhW wants[i] (Y0j hil);refine gd 56 ⟨?_⟩;refine Qo (Zm (xs:=wants) (g:=rowW) rfl rfl i rfl hil (Z2P _)) ?_;generalize wants[i]=w at w1 w2 w3 w4 w5;have hrl:=Z2P w;have hrp:=Za3 w;refine Qo (Zgm (r:=rowW w) rfl (by rw [hrl]; decide) (List.take_of_length_le (by rw [hrl]; exact Y0m _))) ?_;(first|refine st ?_|(apply B<;>intro hb<;>try cases hb));refine Qo (Z8W (l:=zCert ++ [.val (.int .u8 0),.val (.int .i64 0),.val (.int .i64 0)]) rfl rfl (by kernel_rfl) hrl (by kernel_rfl)) ?_;have hcl:=Z2O w;have hck:=Z4C Zgn Zjn S w.1 w.2.1 w.2.2.2.1 w.2.2.1 w.2.2.2.2.1 w1 w2 w3 w4;rw [w5] at hck;have hcp:=Z1Q (idOf t1J) w.1 w.2.1 w.2.2.2.1 w.2.2.1 w.2.2.2.2.1;have hrow:rowW w=certL (idOf t1J) w.1 w.2.1 w.2.2.2.1 w.2.2.1 w.2.2.2.2.1++fdC w.2.2.2.2.2:=rfl;generalize certL (idOf t1J) w.1 w.2.1 w.2.2.2.1 w.2.2.1 w.2.2.2.2.1=cc at hcl hck hcp hrow;rw [hrow];refine gd 60 ⟨?_⟩;refine Qr (Z5R (l:=(cc++fdC w.2.2.2.2.2) ++ []) (r:=cc) rfl rfl (by rw [Y0p,Y0e,hcl]; exact Nat.le_add_right 35 3) (by rw [Y0p,List.drop_zero,List.take_append,hcl,Nat.sub_self,List.take_zero,Y0p,List.take_of_length_le (by rw [hcl]; exact Y0m _)])) ?_;refine Qd hck ⟨hpp,hcp,Yt⟩ ?_;refine gd 63 ⟨?_⟩;refine Qr (Z5R (l:=(cc++fdC w.2.2.2.2.2) ++ []) (r:=fdC w.2.2.2.2.2) rfl rfl (by rw [Y0p,Y0e,hcl]; exact Y0m 38) (by rw [Y0p,List.drop_append,hcl,Nat.sub_self,List.drop_of_length_le (by rw [hcl]; exact Y0m _)]; rfl)) ?_;refine Qr (Zkg (f:=w.2.2.2.2.2) rfl rfl) ?_;refine go ?_;exact⟨i+1,by omega,by omega,⟨⟨rfl,show 0<11 by decide⟩,⟨rfl,show 1<11 by decide⟩,⟨rfl,show 10<11 by decide⟩,⟨rfl,hwi _⟩,⟨rfl,Yt⟩,⟨by show some _=some _; rw [hinc],Yt⟩,Yt⟩,⟨⟨by decide,rfl,hcu _ _⟩,⟨by decide,rfl,hcu _ _⟩,⟨by decide,rfl,hp1 _,Yt⟩,Yt⟩⟩
 . obtain rfl : i = 6 := by omega
   refine Qo (Qz rfl (by omega)) ?_;have hpp2:=ZL t2J S;have lv:RenP (fun i=>i) (fun i=>i<11) (.vec [[.vec (words (digs 6)) false,.vec [] true]] true) (.vec [[.vec (words (digs 6)) false,.vec [] false]] false):=by
    have:=RenP.low (ρ:=fun i=>i) (D:=fun i=>i<11) (.vec [[.vec (words (digs 6)) false,.vec [] true]] true) (by
     show pureLL [[.vec (lowLL (words (digs 6))) false,.vec [] false]];rw [ZK]
     exact⟨⟨Za _,Yt,Yt⟩,Yt⟩)
    have e:(PV.vec [[.vec (words (digs 6)) false,.vec [] true]] true).low=.vec [[.vec (lowLL (words (digs 6))) false,.vec [] false]] false:=rfl;rw [e,ZK] at this;exact this
   have hpb2:pbP t2J S = [.val (.int .i64 2),hierP [] S,.vec [] false,.vec [[.val (.bool false),.vec [] false,.vec [] false,.val (.int .i64 1),.val (.int .i64 0)],[.val (.bool false),.vec (words (digs 2)) false,.vec [] false,.val (.int .i64 2),.val (.int .i64 0)]] false,.vec [[.vec (words (digs 6)) false,.vec [] false]] false,.vec [[.vec (words (digs 4)) false,.vec [] false]] false]:=by
    show [PV.val (.int .i64 2),hierP [] S,.vec (words (digs 0)) false,.vec [[.val (.bool false),.vec (words (digs 0)) false,.vec (words (digs 0)) false,.val (.int .i64 1),.val (.int .i64 0)],[.val (.bool false),.vec (words (digs 2)) false,.vec (words (digs 0)) false,.val (.int .i64 2),.val (.int .i64 0)]] false,.vec [[.vec (words (digs 6)) false,.vec (words (digs 0)) false]] false,.vec [[.vec (words (digs 4)) false,.vec (words (digs 0)) false]] false]=_;rw [h0]
   rw [hpb];refine gd 67 ⟨?_⟩;refine Qe (ZbA [1,2] 6 (by decide +kernel) true) ⟨ZH _,Yt⟩ ?_
   iterate 5 (first|refine st ?_|(apply B<;>intro hb<;>try cases hb))
   refine Z20 (Z2m (EnvQ.mem (ρ:=fun i=>i) (m:=11) (L := [(2,.ptr 1 0 0),(3,.ptr 10 0 0)]) ⟨Qt 1 0 0,Qt 10 0 0,Yt⟩)
    (HeapQ.mem (ρ := fun i => i) (m := 11) (L := [(1, ⟨2, [cuC (4, 0)]⟩), (10, ⟨6, [pbP t2J S]⟩)]) ⟨Qs ⟨Ze _, Yt⟩, ⟨by decide, ⟨6, [[.val (.int .i64 2), hierP [] S, .vec [] false, .vec [[.val (.bool false), .vec [] false, .vec [] false, .val (.int .i64 1), .val (.int .i64 0)], [.val (.bool false), .vec (words (digs 2)) false, .vec [] false, .val (.int .i64 2), .val (.int .i64 0)]] false, .vec [[.vec (words (digs 6)) false, .vec [] true]] true, .vec [[.vec (words (digs 4)) false, .vec [] false]] false]]⟩, rfl, by
      rw [hpb2]
      exact RenB.single ⟨.pure _ Yt,.pure _ (Zw _ _),.pure _ Yt,.pure _ ⟨⟨Yt,Yt,Yt,Yt,Yt,Yt⟩,⟨Yt,Za _,Yt,Yt,Yt,Yt⟩,Yt⟩,lv,.pure _ ⟨⟨Za _,Yt,Yt⟩,Yt⟩,Yt⟩ rfl⟩,Yt⟩) hC (by decide)) ?_
   have hok:=wants4;refine gd 75 ⟨?_⟩;refine Qd (Z3U Zig Zke S [(4,0)] true (by decide)) ⟨hpp2,Z9 Ze _,Yt⟩ ?_;refine Qd (Z4C Zig Zke S false [] true [(4,0)] false (.inr ⟨rfl,rfl⟩) (Y0l _) (by decide) hok) ⟨hpp2,Z1Q _ _ _ _ _ _,Yt⟩ ?_;rw [v7];refine gd 78 ⟨?_⟩;refine Qr (Zkh (f:=(1,0,0)) rfl rfl) ?_;refine go ?_;exact Z7 rfl Yt rfl
def cubR (m:List Cu):List PV := [.vec (m.map cuC) false]
theorem Zgo:∀ (l:List Pr) (a:Nat),(l.Pairwise fun p q=>p.1<q.1 \/ p.1=q.1/\p.2<q.2)->(∀ p∈l,a<=p.1*7+p.2/\p.1*7+p.2<49/\p.2<=6)->l.length<=49-a
 | [],a,_,_=>Y0l _
 | p :: l, a, hp, h => by
   have h1:=h p (Y0t ..);rw [List.pairwise_cons] at hp;have:=Zgo l (p.1*7+p.2+1) hp.2 fun q hq=>by
    have h2:=hp.1 q hq;have h3:=h q (List.mem_cons_of_mem _ hq);refine⟨?_,h3.2⟩;rcases h2 with h2|⟨h2,h4⟩<;>omega
   rw [Y04];omega
theorem Zki {t:PB} (h:MkOk t):PbW t:=by
 have hn:=h.n;have hok:=h.ok;have hst:t.st<=mkN t.n:=by rw [<- hok.st]; exact Nat.left_le_or
 have h32:2 ^ t.n<=32:=Nat.pow_le_pow_right (n:=2) (by decide) hn.2;have hm:mkN t.n<=62:=by unfold mkN; omega
 have h62:∀ c:Cu,InM 62 c->c.1<256/\c.2<256:=fun c hc=>by
  have h1:c.1<=62:=by rw [<- hc.1]; exact Nat.left_le_or
  have h2:c.2<=62:=by rw [<- hc.2]; exact Nat.left_le_or
  omega
 refine⟨by omega,by omega,fun r hr=>?_,fun c hc=>h62 c (hok.nv c hc).2,fun c hc=>h62 c (hok.gl c hc).2,fun p hp=>?_,?_,by have:=h.rs; omega,by have:=h.nv; omega,by have:=h.gl; omega⟩
 . have hro := hok.rs r hr;have:=h62 _ hro.m;have:=hro.tg;omega
 . have := hok.lk p hp;omega
 . have := Zgo t.l 0 hok.good.asc fun p hp => by
    have:=hok.good.role p hp;have:=hok.lk p hp;omega
   omega
theorem Z5S (p:List Nat) (x y:Nat) (fl:Bool) (hp:Bytes p) (hx:x<256) (hy:y<256):Spec Tryz.prog 5 [.vec (bys p) fl,.val (.int .u8 (x:Int)),.val (.int .u8 (y:Int))] (· = .val (.bool true)):=by
 refine Yp ok5 fun C hC=>?_;refine gd 19 ⟨?_⟩;refine Qe Za4 Yt ?_;refine gd 23 ⟨?_⟩;refine ZT rfl rfl (ZdO p fl hp) ⟨Zi p,Yt⟩ rfl ?_;rintro r ⟨t,S,hmk,rfl⟩;have h:=hmk.ok;have hn:=hmk.n;have hw:=Zki hmk;have hpp:=ZL t S;have hpr:=Z3n t;have hp1:∀ D,innL D (pbP t S):=fun D=>Zv (fun _ h=>h.elim) _ hpp;have hp2:∀ D,innL D (pbR t):=fun D=>Zv (fun _ h=>h.elim) _ hpr;have h32:2 ^ t.n<=32:=Nat.pow_le_pow_right (n:=2) (by decide) hn.2;refine gd 29 ⟨?_⟩;refine ZT rfl rfl (Zbz h hn.2 S 64 (by decide)) ⟨hpp,Yt,Yt⟩ rfl ?_;intro v hv;cases hv with
 | lim hl=>exact absurd hl (by omega)
 | yes q hq hql =>
   refine go ?_;exact Z7 rfl Yt rfl
 | no ks hk =>
   have hna:=hk.not_able h;have hkl:=hk.inv.len;have hkcl:(kcs ks).length=ks.length:=by simp [kcs]
   have hk64:=hk.inv.c64;generalize kcs ks=l at hkcl hk64;have hml:(l.map cuC).length=l.length:=Y0f ..;have hc0:∀ c:Cu,(cuC c).length=2:=fun _=>rfl;refine gd 44 ⟨?_⟩;refine Zo rfl ?_;by_cases hl0:l.length=0
   . refine Qo (Qy rfl (by rw [hml]; omega)) ?_;refine go ?_;exact Z7 rfl Yt rfl
   refine Qo (Qz rfl (by rw [hml];omega)) ?_;refine gd 47 ⟨?_⟩;refine Zg (v:=(x:Int)) rfl rfl rfl (Y0v _ ⟨by omega,by omega⟩) ?_;refine gd 50 ⟨?_⟩;refine Zg (v:=((x % l.length:Nat):Int)) (ZcF (b:=((l.map cuC).length:Int)) rfl rfl (by rw [hml];omega)) rfl rfl (by rw [hml]; exact (Int.ofNat_tmod x l.length).symm) ?_;have hil:x % l.length<l.length:=Nat.mod_lt _ (by omega);generalize x % l.length=i at hil;have hlm:l.length<=32:=by omega
   have hc2:∀ m:List Cu,∀ q∈m.map cuC,q.length=2:=fun m q hq=>by obtain⟨z,_,rfl⟩:=Y0i.1 hq; rfl
   have happ:(l.take i).map cuC++(l.drop (i+1)).map cuC=(l.take i++l.drop (i+1)).map cuC:=(Y0r ..).symm
   iterate 3 (first|refine st ?_|(apply B<;>intro hb<;>try cases hb))
   refine Z4r [0] ?_;refine Zc8 rfl rfl rfl ?_;refine gd 54 ⟨?_⟩;refine Qr (Z9c (xs:=l) (g:=cuC) rfl 0 i rfl rfl (Y0l _) (by omega) hc0) ?_;rw [List.drop_zero]
   refine Qr (Zx (k:=2) (m:=(l.take i).map cuC) (fl:=false) (b:=⟨2,[]⟩) rfl rfl rfl (hc2 _) rfl (by
    show (0+((l.take i).map cuC).length)*48<=_
    rw [Y0f,Y0o];omega)) ?_
   refine gd 58 ⟨?_⟩;refine Qr (ZR (v:=((i+1:Nat):Int)) rfl (Y0v _ ⟨by omega,by omega⟩)) ?_;refine Qr (Z9c (xs:=l) (g:=cuC) rfl (i+1) l.length rfl (by show some ((List.map cuC l).length:Int)=_; rw [hml]) (by omega) (Y0m _) hc0) ?_;rw [Y0q]
   refine Qr (Zx (k:=6) (m:=(l.drop (i+1)).map cuC) (fl:=false) (b:=⟨2,[]++(l.take i).map cuC⟩) rfl rfl rfl (hc2 _) rfl (by
    show (((l.take i).map cuC).length+((l.drop (i+1)).map cuC).length)*48<=_
    rw [Y0f,Y0f,Y0o,List.length_drop];omega)) ?_
   refine gd 61 ⟨?_⟩;refine Z2x rfl rfl rfl ?_;(first|refine st ?_|(apply B<;>intro hb<;>try cases hb))
   refine ZD (Zx (k:=13) (m:=l.map cuC) (fl:=false) (b:=⟨2,[]⟩) rfl rfl rfl (hc2 _) rfl (by
    show (0+(l.map cuC).length)*48<=_
    rw [Y0f];omega)) rfl rfl ?_
   have hget:(l.map cuC).getD i []=cuC l[i]:=by simp [Y0b,hil]
   have hci:=hk64 l[i] (Y0j hil);have hn0:((t.n:Nat):Int)≠0:=by omega
   have hrl:1+y % t.n<64:=by have:=Nat.mod_lt y (show 0<t.n by omega); omega
   have hset:(l.map cuC).set i (setAt ((l.map cuC).getD i []) 0 [.vec (words (digs (l[i].1 ||| 2 ^ (1+y % t.n)))) false])=(l.set i (l[i].1 ||| 2 ^ (1+y % t.n),l[i].2)).map cuC:=by
    rw [hget,List.map_set]
    rfl
   have hws:=Z13 l[i].1 hci.1 (1+y % t.n) hrl;have hmo:∀ c∈l.set i (l[i].1 ||| 2 ^ (1+y % t.n),l[i].2),Ok64 c:=fun c hc=>by
    rcases List.mem_or_eq_of_mem_set hc with hc|rfl
    . exact hk64 c hc
    . exact⟨Z2C hci.1 (ZI hrl),hci.2⟩
   have hmol:(l.set i (l[i].1 ||| 2 ^ (1+y % t.n),l[i].2)).length=l.length:=List.length_set ..;generalize l[i]=c at hget hci hset hws hmo hmol;generalize l.set i (c.1 ||| 2 ^ (1+y % t.n),c.2)=more at hset hmo hmol;refine gd 68 ⟨?_⟩;refine Qr (ZE rfl rfl rfl i rfl (by show i<(l.map cuC).length; rw [hml]; exact hil) rfl) ?_;(first|refine st ?_|(apply B<;>intro hb<;>try cases hb));refine Qr (Z1S (p:=setN c.1) rfl rfl (by show i<(l.map cuC).length; rw [hml]; exact hil) (by show cutAt true 1 0 ((l.map cuC).getD i [])=_; rw [hget]; rfl)) ?_;refine gd 72 ⟨?_⟩;refine Qr (ZR (v:=(y:Int)) rfl (Y0v _ ⟨by omega,by omega⟩)) ?_;refine gd 75 ⟨?_⟩;refine Qr (ZR (v:=((y % t.n:Nat):Int)) (ZcF rfl rfl hn0) (Int.ofNat_tmod y t.n).symm) ?_;refine Qr (ZR (v:=((1+y % t.n:Nat):Int)) rfl (Y0v _ ⟨by omega,by omega⟩)) ?_;refine Qd hws ⟨Z1 _,Yt,Yt⟩ ?_;refine Qr (ZE rfl rfl rfl i rfl (by show i<(l.map cuC).length; rw [hml]; exact hil) rfl) ?_;(first|refine st ?_|(apply B<;>intro hb<;>try cases hb));refine Qr (Z1L (size:=1) (p:=setN (c.1 ||| 2 ^ (1+y % t.n))) rfl rfl rfl rfl rfl (by show i<(l.map cuC).length; rw [hml]; exact hil) (show 1<=2 by decide)) ?_;have hlo:∀ c∈l.take i++l.drop (i+1),Ok64 c:=fun c hc=>(Y0h.1 hc).elim (fun h=>hk64 c (List.mem_of_mem_take h)) fun h=>hk64 c (List.mem_of_mem_drop h);have hll:(l.take i++l.drop (i+1)).length<=32:=by rw [Y0e,Y0o,List.length_drop]; omega
   refine gd 80 ⟨?_⟩
   refine Zf (Zp (k:=15) (id:=11) (b:=⟨2,(l.take i++l.drop (i+1)).map cuC⟩) rfl (by
    show some (⟨2,([]++(l.take i).map cuC)++(l.drop (i+1)).map cuC⟩:Bx)=_
    rw [List.nil_append,happ]) (Z9 Ze _)) ?_
   refine Zf (Zp (k:=16) (id:=14) (b:=⟨2,more.map cuC⟩) rfl (by
    show some (⟨2,(l.map cuC).set i (setAt ((l.map cuC).getD i []) 0 [.vec (words (digs (c.1 ||| 2 ^ (1+y % t.n)))) false])⟩:Bx)=_
    rw [hset]) (Z9 Ze _)) ?_
   generalize l.take i++l.drop (i+1)=less at hlo hll;have hall:∀ m∈[less,more],(∀ c∈m,Ok64 c)/\m.length<=32:=fun m hm=>by
    simp only [List.mem_cons,List.not_mem_nil,or_false] at hm;rcases hm with rfl|rfl
    . exact⟨hlo,hll⟩
    . exact⟨hmo,by omega⟩
   have hvp:pureLL ([less,more].map cubR):=Z9 (enc:=cubR) (fun m=>⟨Z9 Ze m,Yt⟩) _;have hvi:∀ D,innLL D ([less,more].map cubR):=fun D=>Zb (fun _ h=>h.elim) _ hvp;refine go ?_;refine Zn hC (fun j=>j<=2) (fun j=>2-j) 2 (fun j => [(7,.ptr 0 0 0),(8,.ptr 1 0 0),(82,.vec ([less,more].map cubR) true),(83,.val (.int .i64 2)),(84,Yv j)]) (fun _ => [(0,⟨6,[pbP t S]⟩),(1,⟨6,[pbR t]⟩)]) (by decide) 0 (Y0l _)
    ⟨⟨rfl,show 0<2 by decide⟩,⟨rfl,show 1<2 by decide⟩,⟨rfl,hvi _⟩,⟨rfl,Yt⟩,⟨rfl,Yt⟩,Yt⟩ ⟨⟨by decide,rfl,hp1 _,Yt⟩,⟨by decide,rfl,hp2 _,Yt⟩,Yt⟩ ?_
   intro j hj;have hinc:IntKind.i64.wrap ((j:Int)+1)=((j+1:Nat):Int):=wi (j+1) (by omega);refine gd 85 ⟨?_⟩;by_cases hjl:j<2
   . refine Qo (Qy rfl (by omega)) ?_;obtain⟨hm1,hm2⟩:=hall [less,more][j] (Y0j hjl);refine gd 86 ⟨?_⟩;refine Qo (Zm (xs := [less,more]) (g:=cubR) rfl rfl j rfl hjl rfl) ?_;generalize [less,more][j]=m at hm1 hm2;refine gd 91 ⟨?_⟩;refine Qd (Z3U h hw S m false (by omega)) ⟨hpp,Z9 Ze m,Yt⟩ ?_;refine Qd (Z4C h hw S false [] true m false (.inr ⟨rfl,rfl⟩) (Y0l _) (by omega) hm1) ⟨hpp,Z1Q _ _ _ _ _ _,Yt⟩ ?_;generalize chkJ t false [] m false=F;refine gd 94 ⟨?_⟩;by_cases hF:F.1=1
     . refine Qr (Qy rfl (by omega)) ?_;refine gd 97 ⟨?_⟩;refine Z2R rfl ?_;refine Z4s rfl rfl (.inl rfl) (Z4p h hn.2) ⟨hpr,Yt⟩ ?_;rintro r ⟨b,hb,rfl⟩;have hbf:b=false:=Bool.eq_false_iff.2 fun hbt=>hna (hb.1 hbt);subst hbf;refine go ?_;exact⟨j+1,by omega,by omega,⟨⟨rfl,show 0<2 by decide⟩,⟨rfl,show 1<2 by decide⟩,⟨rfl,hvi _⟩,⟨rfl,Yt⟩,⟨by show some _=some _; rw [hinc],Yt⟩,Yt⟩,⟨⟨by decide,rfl,hp1 _,Yt⟩,⟨by decide,rfl,hp2 _,Yt⟩,Yt⟩⟩
     . refine Qr (Qz rfl (by omega)) ?_
       repeat' (first|refine Z3q rfl ?_|(first|refine st ?_|(apply B<;>intro hb<;>try cases hb)))
       exact⟨j+1,by omega,by omega,⟨⟨rfl,show 0<2 by decide⟩,⟨rfl,show 1<2 by decide⟩,⟨rfl,hvi _⟩,⟨rfl,Yt⟩,⟨by show some _=some _; rw [hinc],Yt⟩,Yt⟩,⟨⟨by decide,rfl,hp1 _,Yt⟩,⟨by decide,rfl,hp2 _,Yt⟩,Yt⟩⟩
   . obtain rfl : j = 2 := by omega
     refine Qo (Qz rfl (by omega)) ?_;refine gd 101 ⟨?_⟩;refine ZT rfl rfl (Z4p h hn.2) ⟨hpr,Yt⟩ rfl ?_;rintro r ⟨b,hb,rfl⟩;have hbf:b=false:=Bool.eq_false_iff.2 fun hbt=>hna (hb.1 hbt);subst hbf;refine go ?_;exact Z7 rfl Yt rfl
end
section
open Go.ChangeShapes Go.WideShapes Go.ChangeAt Go.RowKit
theorem Zd4 {α:Type} {enc:α->List PV} {Q:α->Prop}:∀ {ll:List (List PV)},(∀ l∈ll,∃ x,Q x/\l=enc x)->∃ xs:List α,(∀ x∈xs,Q x)/\ll=xs.map enc
 | [],_=>⟨[],fun _ h=>(by cases h),rfl⟩
 | l :: ll, h => by
   obtain⟨x,h1,rfl⟩:=h l (Y0t ..);obtain⟨xs,h2,rfl⟩:=Zd4 fun l hl=>h l (List.mem_cons_of_mem _ hl);refine⟨x :: xs,fun y hy=>?_,rfl⟩;rcases List.mem_cons.1 hy with rfl|hy
   . exact h1
   . exact h2 y hy
theorem Z90 {P:Program} {s t u:TypeId}:∀ {ps:List PV},ShapeVs P [s,t,u] ps->∃ a b c,ps = [a,b,c]/\ShapeV P s a/\ShapeV P t b/\ShapeV P u c
 | [a,b,c],⟨h1,h2,h3,_⟩=>⟨a,b,c,rfl,h1,h2,h3⟩
theorem Zih {m:Int} (h:(Lit.int .u8 m).wf=true):∃ a:Nat,a<256/\m=(a:Int):=by
 simp only [Lit.wf,Y0k,Y0n] at h;obtain⟨h1,h2⟩:=h;have h3:m<=255:=h2;have h4:0<=m:=h1;exact⟨m.toNat,by omega,by omega⟩
theorem ZhX {n:Nat} {l:List PV} (h:Shape Tryz.prog n 5 l):∃ x:Nat,x<=255/\l = [PV.val (.int .u8 (x:Int))]:=by
 obtain⟨m1,w1,e1⟩:=Za6 h (k:=.u8) (by kernel_rfl);obtain⟨x,hx,rfl⟩:=Zih w1;exact⟨x,by omega,e1⟩
theorem ZbS {p:PV} (h:ShapeV Tryz.prog 22 p):∃ (l:List Nat) (fl:Bool),Bytes l/\p=.vec (bys l) fl:=by
 obtain⟨n,ll,fl,_,h2,rfl⟩:=Za7 h (e:=5) (by kernel_rfl);obtain⟨xs,h3,rfl⟩:=Zd4 (enc:=fun (x:Nat) => [PV.val (.int .u8 (x:Int))]) (Q:=fun (x:Nat)=>x<=255) fun l hl=>ZhX (h2 l hl);exact⟨xs,fl,h3,rfl⟩
theorem Za8 {p:PV} (h:ShapeV Tryz.prog 5 p):∃ s:Nat,s<256/\p=.val (.int .u8 (s:Int)):=by
 obtain⟨m,w,rfl⟩:=Zef h (k:=.u8) (by kernel_rfl);obtain⟨x,hx,rfl⟩:=Zih w;exact⟨x,hx,rfl⟩
theorem Z5A:∀ ps,ShapeVs Tryz.prog Tryz.f5.params.toList ps->pureL ps->Spec Tryz.prog 5 ps (· = .val (.bool true)):=by
 intro ps hs hp;rw [show Tryz.f5.params.toList = [22,5,5] by kernel_rfl] at hs;obtain⟨a,b,c,rfl,k0,k1,k2⟩:=Z90 hs;obtain⟨x0,f0,h0,rfl⟩:=ZbS k0;obtain⟨x1,h1,rfl⟩:=Za8 k1;obtain⟨x2,h2,rfl⟩:=Za8 k2;exact Z5S x0 x1 x2 f0 h0 h1 h2
theorem Z4D (os:Os) (started:os.Started) (H:Type) (enc:TypeId×Value->H) :
 ReturnsInHanded {} Tryz.checked os 5 .any (fun w args=>(Rows.judgeChangedSpec.pre enc Tryz.prog Tryz.f5 [] false w args/\laidMetH Tryz.prog laidV w)/\sizedMet enc Tryz.prog Tryz.f5 (OpenSpec.ofChange Rows.judgeChangedSpec) false w args)
  (Rows.judgeChangedSpec.post enc Tryz.prog Tryz.f5 false true false false):=by
 refine returnsInHanded_of_change_and (C:=Tryz.checked) (X:=fun w _=>laidMetH Tryz.prog laidV w) (fun _ _ _ hh h=>h.of_heap hh) own started (by kernel_rfl) Tryz.func5
  (ChangeSpec.witness_shaped (enc:=enc) (C:=Tryz.checked) (os:=os) (X:=fun w _=>laidMetH Tryz.prog laidV w) false (World.doorLaid Tryz.prog 400 os) #[.slice none 0 0,.int .u8 0,.int .u8 0] 8 rfl (World.shaped_of_RefB (by kernel_rfl) (by kernel_rfl)) (by kernel_rfl) (by kernel_rfl) (by kernel_rfl) (ZgF os _)) ?_
 intro W base args ds gs before hval hW _ hwt hL _
 exact Z9f (P:=Tryz.prog) (G:=partsG Tryz.prog Tryz.f5.params.toList) (by kernel_rfl) (Zjv (by kernel_rfl)) laidOut (ZeJ (by kernel_rfl)) (tb:=4) (by kernel_rfl) (by kernel_rfl) rfl (fun ds hd=>by
  match ds,hd with
  | [a,b,c],_=>exact⟨rfl,rfl,rfl⟩) Z5A W (ZgH hL) base args ds gs before hval hW hwt
theorem Z5g:Rows.JudgeChangedSaid :=
 OpenClaim.holds_of_wide 5 Tryz.f5 rfl rfl rfl rfl rfl rfl rfl ⟨rfl,rfl,rfl,rfl,rfl⟩ rfl rfl rfl rfl rfl (by kernel_rfl) Tryz.func5 (by kernel_rfl)
  (Y0u (by kernel_rfl)) (by unfold Func.isWrapper; first|(rw [if_pos (by decide +kernel)]; kernel_rfl)|(rw [if_neg (by decide +kernel)]; exact⟨rfl,rfl⟩))
  (fun os started H enc _=>Z4D os started H enc)
theorem judgeChanged_card:Rows.JudgeChangedCardSaid :=
 Claim7.holds_tied_plain_at .later [] [.data,.data,.data] true (true, "73c21f7196f0b4087c3a3f595dd59d7deb88aa91980cc43c0013793faae3e45c") false
  Z5g (fun _ h=>by cases h) (by kernel_rfl) (fun _ h=>by cases h) judgeChanged_row_tie rfl ⟨rfl,rfl⟩ (by kernel_rfl) rfl
  (fun f fn hf hfn => by
    obtain rfl : f = 5 := Option.some.inj ((show Tryz.prog.funcNamed "arbac/arbaclaw38.JudgeChanged" = some 5 by kernel_rfl).symm.trans hf) |>.symm
    obtain rfl:fn=Tryz.f5:=(Option.some.inj (Tryz.func5.symm.trans hfn)).symm
    exact⟨by kernel_rfl,fun j t ht=>by
     rw [show Tryz.f5.params = #[22,5,5] by kernel_rfl] at ht;have hm:t∈[22,5,5]:=by simpa using Array.mem_of_getElem? ht
     have hall:([22,5,5].all fun u => !Tryz.prog.wantsStandIn u)=true:=by kernel_rfl
     exact (show Tryz.prog.wantsStandIn t=false by simpa using List.all_eq_true.1 hall t hm)⟩)
  (by kernel_rfl)
#print axioms judgeChanged_card
end
end Go.Proofs.YtmnbbggaoembeaaGreatDoor
