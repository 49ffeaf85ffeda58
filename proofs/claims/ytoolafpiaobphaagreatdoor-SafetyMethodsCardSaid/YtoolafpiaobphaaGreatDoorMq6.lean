/-
  Merged from the texts that this claim's theorem needs, part 7 of 8. No statement of the seat is proved here.
-/
import Derived.KernelRfl
import Derived.Laws.BitsAllLaws
import Derived.Shelf.SlSortCmp.NoneTotal
import Derived.Test.YtoolafpiaobphaaGreatDoorChecked
import Derived.Test.YtoolafpiaobphaaGreatDoorMq5
set_option linter.unusedSimpArgs false
set_option linter.unusedVariables false
set_option linter.unusedSectionVars false
set_option linter.defProp false
set_option maxRecDepth 100000
set_option maxHeartbeats 16000000
namespace Go.Proofs.YtoolafpiaobphaaGreatDoor
section
open Go.RowKit
structure X69 (t:PB):Prop where
 nv:t.nv = []
 rs:∀ x∈t.rs,x.cu.2=0
 gl:∀ c∈t.gl,c.2=0
theorem Ze6 {c:Cu} (h:c.2=0) {S:Nat}:hoC c S=true↔∀ i,c.1.testBit i=true->S.testBit i=true:=by
 rw [Z1a,h];simp
structure X76 (t:PB) (set:Nat) (used:List Nat):Prop where
 run:X11 t t.st used set
 up:∀ i,t.st.testBit i=true->set.testBit i=true
 ins:InS t set
 nd:used.length<=64
noncomputable def X3P (t:PB) (set:Nat) (x:RU):Bool := !x.rev&&(!set.testBit x.tg&&decide (x.cu.1 ||| clo t.l set=clo t.l set))
section
variable {t:PB} (h:Xo t) (hf:X69 t)
include h hf
theorem Zhp (S:Nat):Xq t S=true:=by
 unfold Xq; rw [hf.nv]; rfl
theorem Zjt {set:Nat} {used:List Nat} (hi:X76 t set used) (hu:used.length<64) {k:Nat} {x:RU} (hx:t.rs[k]?=some x) (hb:X3P t set x=true):X76 t (set ||| 2 ^ x.tg) (used ++ [k]):=by
 have hm:=YG hx;have hl:x.tg<64:=by have:=(h.rs x hm).tg; omega
 have h64:=hi.ins.lt h.n.2;unfold X3P at hb;rw [Y0k,Y0k,Y10,Y10,Y0n] at hb;obtain⟨hr,ht,hc⟩:=hb;have hn:X9 x set=set ||| 2 ^ x.tg:=by unfold X9; rw [hr]; rfl
 have hs:XB t x set=true:=by
  unfold XB;rw [Y0k,Y0k,Y0n,Z2D hl h64,Zhp h hf,hr];exact⟨ht,rfl,(Ze6 (hf.rs x hm)).2 fun i hi=>Xc.1 hc i hi⟩
 refine⟨?_,fun i hi'=>?_,?_,?_⟩
 . rw [<- hn]; exact Z4P used hi.run hx hs
 . rw [Y00,hi.up i hi',Y2G]
 . rw [<- hn]; exact Z1H h hm hi.ins
 . rw [Y0e,Y0s]; omega
theorem Zl4 {w:PB} (hw:Xo w) {R:Nat} (hwR:X3s w R) (htw:t=Xh w R) {R':Nat} (hR':X3s t R') (hsub:∀ i,R'.testBit i=true->R.testBit i=true) {fin:Nat} (hfi:InS t fin) (hup:∀ i,t.st.testBit i=true->fin.testBit i=true)
 (hend:∀ x∈t.rs,X3P t fin x=false) (hno:Xp t fin=false):X4n w fun S=>∃ r,R'.testBit r=true/\fin.testBit r=false/\S.testBit r=true:=by
 have hgl:w.gl=t.gl:=by rw [htw]; rfl
 have hll:w.l=t.l:=by rw [htw]; rfl
 have f64:=hfi.lt h.n.2;have below:∀ {S},InS w S->¬ (∃ r,R'.testBit r=true/\fin.testBit r=false/\S.testBit r=true)->∀ {c:Cu},Xy c->c.2=0->(∀ r,1<=r->(X1h t.l c).testBit r=true->R'.testBit r=true)->hoC c (clo w.l S)=true->∀ i,c.1.testBit i=true->(clo t.l fin).testBit i=true:=by
  intro S hS hv c h64 hc hd hh i hi;have S64:=hS.lt hw.n.2;rw [hll,Ze6 hc] at hh;have:=hh i hi;rw [Z6W h.good.small S i S64] at this;rw [Z6W h.good.small fin i f64];obtain⟨r,h1,h2,h3⟩:=this;refine⟨r,?_,h2,h3⟩;cases hb:fin.testBit r with
  | true=>rfl
  | false=>exact absurd ⟨r,hd r h2 (Z9O h64 (.inl hi) h3),hb,h1⟩ hv
 refine⟨?_,fun S hS hg hr=>?_,fun S hS hg x hx hs hv=>?_⟩
 . rintro ⟨r, h1, h2, h3⟩;have:t.st.testBit r=true:=by
    rw [htw]; show (w.st &&& R).testBit r=true;rw [Y0z,h3,hsub r h1]; rfl
   rw [hup r this] at h2; cases h2
 . apply YU;intro hv;unfold Xp soC at hr hno;rw [Y01,hgl] at hr;rw [Y1U] at hno;obtain⟨c,hc,hh⟩:=hr;exact hno c hc ((Ze6 (hf.gl c hc)).2 (below hS hv (h.c64 (.inr hc)) (hf.gl c hc) (hR'.gl c hc) hh))
 . apply YU;intro hvS;obtain⟨r,h1,h2,h3⟩:=hv;have S64:=hS.lt hw.n.2;have hl:x.tg<64:=by have:=(hw.rs x hx).tg; omega
   rw [ZQ hl S64] at h3;by_cases hrt:r=x.tg
   . subst hrt;rw [Y6 rfl,Y10] at h3;have hxt:x∈t.rs:=by rw [htw]; exact Z2U.2 ⟨hx,hsub _ h1⟩
     have hcond:hoC x.cu (clo w.l S)=true:=by
      unfold XB at hs;rw [Y0k,Y0k,h3] at hs;exact hs.2.2
     have:=below hS hvS ((h.rs x hxt).cu.lt h.n.2) (hf.rs x hxt) (hR'.rs x hxt h3 h1) hcond;have he:=hend x hxt;unfold X3P at he;rw [h3,h2,Yw (Xc.2 this)] at he;cases he
   . rw [Y8 hrt] at h3;exact hvS ⟨r,h1,h2,h3⟩
end
theorem Zl5 {t:PB} (h:Xo t) {R:Nat} (hR:X3s t R) {L:List Nat} (hL:∀ S,S∈L↔Rch (Xh t R) S) (hno:¬ X1I t t.st):X4n t fun S=>S &&& R ∉ L:=by
 have hpo:=Z3d h hR;refine⟨fun hv=>hv ((hL _).2 .base),fun S hS hg hr hm=>?_,fun S hS hg x hx hs hv hm=>?_⟩
 . have := (hL _).1 hm;exact hno ((Z4S h hR).1 ((able_iff hpo).2 ⟨_,this,by rw [Z4R h hR hS]; exact hr⟩))
 . have hr := (hL _).1 hm;refine hv ((hL _).2 ?_);by_cases ht:R.testBit x.tg=true
   . rw [<- Z2W h hR hx ht hS];exact .step hr (Z2U.2 ⟨hx,ht⟩) (Z7N h hR hx ht hS hs)
   . rw [Z7M h hR hx (Yy.2 ht) hS]; exact hr
theorem X4n.congr {t:PB} {V W:Nat->Prop} (h:X4n t V) (hw:∀ S,V S↔W S):X4n t W:=⟨fun hv=>h.st ((hw _).2 hv),fun S a b c=>(hw S).1 (h.tg S a b c),fun S a b x hx hs hv=>(hw S).1 (h.cl S a b x hx hs ((hw _).2 hv))⟩
theorem Zl6 {R:Nat} {l:List Cu} {L:List Nat} (he:∀ c∈l,emC c=false) (hl:∀ T,soC l T=true↔T &&& R ∉ L) (S:Nat):S &&& R ∉ L↔soC (l.map (X2I R)) S=true:=by
 constructor
 . intro hv;have:=(hl (S &&& R)).2 (by rw [Nat.and_assoc,Nat.and_self]; exact hv);unfold soC at this ⊢;rw [Y01] at this ⊢;obtain⟨c,hc,hh⟩:=this;exact⟨_,Y1D hc,Zka hh⟩
 . intro hv;unfold soC at hv;rw [Y01] at hv;obtain⟨d,hd,hh⟩:=hv;obtain⟨c,hc,rfl⟩:=Y0i.1 hd;obtain⟨T,h1,h2,_⟩:=Zkb (he c hc) hh;rw [<- h2];exact (hl T).1 (Y01.2 ⟨c,hc,h1⟩)
structure X5n (t:PB) (R:Nat):Prop where
 gl:∀ c∈t.gl,X1h t.l c ||| R=R
 rs:∀ x∈t.rs,x.rev=false->R.testBit x.tg=true->X1h t.l x.cu ||| R=R
 nv:∀ c∈t.nv,X1h t.l c &&& R≠0->X1h t.l c ||| R=R
theorem X5n.ok {t:PB} {R:Nat} (h:X5n t R):X3s t R :=
 ⟨fun c hc r _ hr=>Xc.1 (h.gl c hc) r hr,fun x hx hv ht r _ hr=>Xc.1 (h.rs x hx hv ht) r hr,fun c hc hd r _ hr=>Xc.1 (h.nv c hc hd) r hr⟩
structure XQ (t:PB) (R:Nat):Prop where
 a:X5n t R
 lt:R<18446744073709551616
 least:∀ R',X5n t R'->R ||| R'=R'
theorem Z7O {a b:Nat} (h1:a ||| b=b) (h2:b ||| a=a):a=b:=by rw [<- h2,Y4A]; exact h1
theorem XQ.uniq {t:PB} {R R':Nat} (h:XQ t R) (h':XQ t R'):R=R':=Z7O (h.least R' h'.a) (h'.least R h.a)
structure X52 (t:PB) (acc:Nat):Prop where
 lt:acc<18446744073709551616
 least:∀ R',X5n t R'->acc ||| R'=R'
theorem Z3s {a b c:Nat} (h1:a ||| b=b) (h2:b ||| c=c):a ||| c=c:=Xc.2 fun i hi=>Xc.1 h2 i (Xc.1 h1 i hi)
theorem Zhq {a b c:Nat} (h1:a ||| c=c) (h2:b ||| c=c):(a ||| b) ||| c=c:=by rw [Y3t,h2,h1]
theorem Z8S (a b:Nat):a ||| (a ||| b)=a ||| b:=by rw [<- Y3t,Nat.or_self]
theorem Zm8 (a b:Nat):b ||| (a ||| b)=a ||| b:=by rw [Y4A a b]; exact Z8S b a
theorem X52.zero (t:PB):X52 t 0:=⟨by decide,fun R' _=>Y46 R'⟩
theorem X52.add {t:PB} {acc d:Nat} (h:X52 t acc) (hd:d<18446744073709551616) (hl:∀ R',X5n t R'->acc ||| R'=R'->d ||| R'=R'):X52 t (acc ||| d) :=
 ⟨Z1S h.lt hd,fun R' h'=>Zhq (h.least R' h') (hl R' h' (h.least R' h'))⟩
theorem Zju {d a b:Nat} (h:d &&& a≠0) (hs:a ||| b=b):d &&& b≠0:=by
 intro h0;apply h;refine YE fun i=>?_;rw [Y1I,Y0z];cases hd:d.testBit i with
 | false=>rfl
 | true =>
   cases ha:a.testBit i with
   | false=>rfl
   | true =>
     have:(d &&& b).testBit i=true:=by rw [Y0z,hd,Xc.1 hs i ha]; rfl
     rw [h0] at this; simp at this
theorem Zhr {t:PB} {R:Nat} (h:X5n t R):X5n (Xh t R) R :=
 ⟨h.gl,fun x hx=>h.rs x (Z2U.1 hx).1,fun c hc=>h.nv c (Y1f.1 (show c∈t.nv.filter _ from hc)).1⟩
theorem ZaV {t:PB} {R R':Nat} (h:XQ t R) (h':XQ (Xh t R) R'):R' ||| R=R:=h'.least R (Zhr h.a)
structure X6s (t:PB) (acc:Nat):Prop where
 l:X52 t acc
 gl:∀ c∈t.gl,X1h t.l c ||| acc=acc
structure X5m (t:PB) (old:Nat) (i acc:Nat):Prop where
 l:X52 t acc
 sub:old ||| acc=acc
 rs:acc=old->∀ x∈t.rs.take i,x.rev=false->old.testBit x.tg=true->X1h t.l x.cu ||| old=old
theorem Z25 {α:Type} {l:List α} {i:Nat} (h:i<l.length) {x:α}:x∈l.take (i+1)↔x∈l.take i \/ x=l[i]:=by
 rw [YW,Y0c h];show x∈l.take i ++ [l[i]]↔_;rw [Y0h,Y0g]
theorem X5m.skip {t:PB} {old i acc:Nat} (h:X5m t old i acc) (hi:i<t.rs.length) (hs:t.rs[i].rev=true \/ acc.testBit t.rs[i].tg=false):X5m t old (i+1) acc:=by
 refine⟨h.l,h.sub,fun he x hx hv ht=>?_⟩;rcases (Z25 hi).1 hx with hx|rfl
 . exact h.rs he x hx hv ht
 . rcases hs with hs | hs
   . rw [hs] at hv; cases hv
   . rw [he,ht] at hs; cases hs
theorem X5m.add {t:PB} {old i acc:Nat} (h:X5m t old i acc) (hi:i<t.rs.length) (hd:X1h t.l t.rs[i].cu<18446744073709551616) (hv:t.rs[i].rev=false) (ht:acc.testBit t.rs[i].tg=true):X5m t old (i+1) (acc ||| X1h t.l t.rs[i].cu):=by
 refine⟨h.l.add hd fun R' h' hs=>h'.rs _ (Y0j hi) hv (Xc.1 hs _ ht),Z3s h.sub (Z8S _ _),fun he x hx hv ht=>?_⟩;have h1:acc=old:=Z7O (by rw [<- he]; exact Z8S _ _) h.sub;rcases (Z25 hi).1 hx with hx|rfl
 . exact h.rs h1 x hx hv ht
 . rw [h1] at he;rw [Y4A]; exact he
structure X4o (t:PB) (old:Nat) (i acc:Nat):Prop where
 l:X52 t acc
 sub:old ||| acc=acc
 rs:acc=old->∀ x∈t.rs,x.rev=false->old.testBit x.tg=true->X1h t.l x.cu ||| old=old
 nv:acc=old->∀ c∈t.nv.take i,X1h t.l c &&& old≠0->X1h t.l c ||| old=old
theorem X5m.done {t:PB} {old acc i:Nat} (h:X5m t old i acc) (hi:t.rs.length<=i):X4o t old 0 acc :=
 ⟨h.l,h.sub,fun he=>by have:=h.rs he; rwa [YA hi] at this,fun _ c hc=>by simp at hc⟩
theorem X4o.skip {t:PB} {old i acc:Nat} (h:X4o t old i acc) (hi:i<t.nv.length) (hs:X1h t.l t.nv[i] &&& acc=0):X4o t old (i+1) acc:=by
 refine⟨h.l,h.sub,h.rs,fun he c hc hd=>?_⟩;rcases (Z25 hi).1 hc with hc|rfl
 . exact h.nv he c hc hd
 . rw [he] at hs; exact absurd hs hd
theorem X4o.add {t:PB} {old i acc:Nat} (h:X4o t old i acc) (hi:i<t.nv.length) (hd:X1h t.l t.nv[i]<18446744073709551616) (hm:X1h t.l t.nv[i] &&& acc≠0):X4o t old (i+1) (acc ||| X1h t.l t.nv[i]):=by
 have h1:acc ||| X1h t.l t.nv[i]=old->acc=old:=fun he=>Z7O (by rw [<- he]; exact Z8S _ _) h.sub
 refine⟨h.l.add hd fun R' h' hs=>h'.nv _ (Y0j hi) (Zju hm hs),Z3s h.sub (Z8S _ _),fun he=>h.rs (h1 he),fun he c hc hm'=>?_⟩;rcases (Z25 hi).1 hc with hc|rfl
 . exact h.nv (h1 he) c hc hm'
 . have h2 := h1 he;rw [h2] at he;rw [Y4A]; exact he
theorem X4o.next {t:PB} {old acc i:Nat} (h:X4o t old i acc) (hg:X6s t old):X6s t acc:=⟨h.l,fun c hc=>Z3s (hg.gl c hc) h.sub⟩
theorem X4o.done {t:PB} {old i:Nat} (h:X4o t old i old) (hg:X6s t old) (hi:t.nv.length<=i):XQ t old :=
 ⟨⟨hg.gl,h.rs rfl,fun c hc=>by have:=h.nv rfl; rw [YA hi] at this; exact this c hc⟩,h.l.lt,h.l.least⟩
theorem Zhs {a b:Nat} (h:a ||| b=b) (hn:b≠a):a<b:=Nat.lt_of_le_of_ne (by rw [<- h]; exact YN) fun e=>hn e.symm
theorem Zht:∀ {l:List Nat},(∀ x∈l,x<18446744073709551616)->orL l<18446744073709551616
 | [],_=>by decide
 | x :: l,h=>Z1S (h x (Y0t ..)) (Zht fun y hy=>h y (YB _ hy))
structure X4E (t:PB) (fin:Nat) (used:List Nat):Prop where
 i:X76 t fin used
 rv:∀ k∈used,∃ x,t.rs[k]?=some x/\x.rev=false
 ln:used.length<=fin
theorem Zhu {s b:Nat} (hs:s.testBit b=false):s<s ||| 2 ^ b:=by
 refine Nat.lt_of_le_of_ne YN fun e=>?_;have:=congrArg (fun n=>n.testBit b) e;simp only [Y00,hs,Y2m,Y39] at this;cases this
theorem X4E.base {t:PB} (h:Xo t):X4E t t.st []:=⟨⟨rfl,fun _ h=>h,h.st,Y0l _⟩,fun k hk=>absurd hk (by simp),Y0l _⟩
theorem InS.le {t:PB} (hn:t.n<=5) {s:Nat} (h:InS t s):s<=62:=by
 have h1:s<=mkN t.n:=by rw [<- h]; exact YN
 have h32:2 ^ t.n<=32:=YJ (n:=2) (by decide) hn;unfold mkN at h1;omega
theorem X4E.step {t:PB} (h:Xo t) (hn:t.n<=5) (hf:X69 t) {fin:Nat} {used:List Nat} (hj:X4E t fin used) {k:Nat} {x:RU} (hx:t.rs[k]?=some x) (hb:X3P t fin x=true):X4E t (fin ||| 2 ^ x.tg) (used ++ [k]):=by
 have hl:=hj.ln;have hi:=InS.le hn hj.i.ins;have hb2:=hb;unfold X3P at hb2;rw [Y0k,Y0k,Y10,Y10] at hb2;have hg:=Zhu hb2.2.1;refine⟨Zjt h hf hj.i (by omega) hx hb,fun j hm=>?_,by rw [Y0e,Y0s]; omega⟩;rcases Y0h.1 hm with hm|hm
 . exact hj.rv j hm
 . rw [Y0g] at hm; subst hm; exact⟨x,hx,hb2.1⟩
structure SaP (t:PB) (used:List Nat) (fin i S:Nat):Prop where
 pre:X11 t t.st (used.take i) S
 post:X11 t S (used.drop i) fin
theorem SaP.base {t:PB} {used:List Nat} {fin:Nat} (h:X11 t t.st used fin):SaP t used fin 0 t.st:=⟨rfl,h⟩
theorem SaP.step {t:PB} {used:List Nat} {fin i S:Nat} (h:SaP t used fin i S) (hi:i<used.length) (hrv:∀ k∈used,∃ x,t.rs[k]?=some x/\x.rev=false):∃ x,t.rs[used[i]]?=some x/\SaP t used fin (i+1) (S ||| 2 ^ x.tg):=by
 have hp:=h.post;rw [Y1n hi] at hp;obtain⟨x,hx,hs,hr⟩:=hp;obtain⟨y,hy,hv⟩:=hrv _ (Y0j hi);have:x=y:=Y13 (hx.symm.trans hy);subst this;have hn:X9 x S=S ||| 2 ^ x.tg:=by unfold X9; rw [hv]; rfl
 refine⟨x,hx,?_,by rw [<- hn]; exact hr⟩;have:used.take (i+1)=used.take i ++ [used[i]]:=by rw [YW,Y0c hi]; rfl
 rw [this,<- hn];exact Z4P _ h.pre hx hs
theorem SaP.fin {t:PB} {used:List Nat} {fin i S:Nat} (h:SaP t used fin i S) (hi:used.length<=i):S=fin:=by
 have hp:=h.post;rw [Y2z hi] at hp;exact (Z3K hp).symm
theorem Z9P {t:PB} (h:Xo t):∀ (p:List Nat) {S E:Nat},InS t S->X11 t S p E->InS t E
 | [],S,E,hS,hr=>by cases hr; exact hS
 | k :: p,S,E,hS,⟨x,hx,hs,hr⟩=>Z9P h p (Z1H h (YG hx) hS) hr
def X5M (r:Nat):Cu:=(2 ^ r,0)
def X5r (N:Nat):List Cu:=(mem N).map X5M
theorem Zhv {r R S:Nat} (hr:R.testBit r=true):hoC (X2I R (X5M r)) S=true↔S.testBit r=true:=by
 rw [Ze6 (by show (0 &&& R)=0; exact Nat.zero_and R)];constructor
 . intro h;refine h r ?_;show (2 ^ r &&& R).testBit r=true;rw [Y0z,Y2m,hr]; rfl
 . intro h i hi;have hi:(2 ^ r &&& R).testBit i=true:=hi;rw [Y0z,Y0k,YI] at hi;have:=Y0u hi.1;subst this;exact h
theorem Zjv {w:PB} (hw:Xo w) {R R':Nat} (hR:XQ w R) (hR':XQ (Xh w R) R') (hf:X69 (Xh w R)) {fin:Nat} {used:List Nat} (hj:X4E (Xh w R) fin used) (hend:∀ x∈(Xh w R).rs,X3P (Xh w R) fin x=false) (hno:Xp (Xh w R) fin=false) :
 X4n w fun S=>soC ((X5r (Xg R' fin)).map (X2I R)) S=true:=by
 have hsub:∀ i,R'.testBit i=true->R.testBit i=true:=fun i hi=>Xc.1 (ZaV hR hR') i hi;have f64:=hj.i.ins.lt hw.n.2;have hN:Xg R' fin<18446744073709551616:=Y02 Y1o hR'.lt;refine (Zl4 (Z3d hw hR.a.ok) hf hw hR.a.ok rfl hR'.a.ok hsub hj.i.ins hj.i.up hend hno).congr fun S=>?_;have hb:∀ r,(Xg R' fin).testBit r=true↔R'.testBit r=true/\fin.testBit r=false:=fun r=>by
  rw [ZB hR'.lt f64];simp
 unfold soC X5r;rw [Y01];constructor
 . rintro ⟨r, h1, h2, h3⟩;exact⟨X2I R (X5M r),Y1D (Y1D ((ZY hN).2 ((hb r).2 ⟨h1,h2⟩))),(Zhv (hsub r h1)).2 h3⟩
 . rintro ⟨c, hc, hh⟩;obtain⟨d,hd,rfl⟩:=Y0i.1 hc;obtain⟨r,hr,rfl⟩:=Y0i.1 hd;obtain⟨h1,h2⟩:=(hb r).1 ((ZY hN).1 hr);exact⟨r,h1,h2,(Zhv (hsub r h1)).1 hh⟩
end
section
open Go.RowKit
attribute [local irreducible] aw Xr dK
def X8R (c:Cu) (lo hi:Nat):Nat:=if !decide (c.1 ||| hi=hi)||decide (c.2 &&& lo≠0) then 0 else if decide (c.1 ||| lo=lo) && !decide (c.2 &&& hi≠0) then 2 else 1
def X5Y (l:List Cu) (lo hi:Nat):Nat:=l.foldl (fun a c=>max a (X8R c lo hi)) 0
structure ND where
 cl:Bool
 dr:Bool
 mu:Bool
 af:Nat
 so:List Cu
 no:List Cu
 sf:Bool
 nf:Bool
def X7X (d:ND) (x:Nat):Nat:=if 0<d.af then (if d.dr then Xg x (2 ^ d.af) else x ||| 2 ^ d.af) else x
def X6b (cl:Nat->Nat) (d:ND) (x:Nat):Nat:=if d.cl then cl (X7X d x) else X7X d x
abbrev sBx (N:Nat):Bx:=⟨1,[[.vec (X4 (Xb N)) false]]⟩
theorem ZhF (D:Nat->Prop) (N:Nat):Xt D (sBx N).elems:=⟨⟨Zp _ _,Yt⟩,Yt⟩
def X8w (cl:Nat->Nat) (d:ND) (lo hi:Nat):Nat :=
 if d.mu then min (2-X5Y d.no (X6b cl d lo) (X6b cl d hi)) (X5Y d.so (X6b cl d lo) (X6b cl d hi)) else 2-X5Y d.no (X6b cl d lo) (X6b cl d hi)
theorem Zfr {α:Type} (p:α->Bool) {l:List α} {i:Nat} (hi:i<l.length):(l.take (i+1)).all p=((l.take i).all p&&p l[i]):=by
 rw [YW,Y0c hi,List.all_append];simp
theorem ZcO {α:Type} (p:α->Bool) {l:List α} {i:Nat} (h:(l.take i).all p=false):l.all p=false:=by
 apply tb2;intro h2;rw [YK] at h2;rw [List.all_eq_false] at h;obtain⟨x,hx,h3⟩:=h;exact h3 (h2 x (YM hx))
theorem ZhG {b c:Cu} {l:List Cu} (h1:emC c=false) (h2:emC (X19 c b)=true):X2h (b :: l) c=X2h l c:=by
 rw [X2h,h1,Y1O,Y6 h2]
theorem ZhH {b c:Cu} {l:List Cu} (h1:emC c=false) (h2:emC (X19 c b)=false):X2h (b :: l) c=(X2d c b).all fun x=>X2h l x:=by
 rw [X2h,h1,Y1O,Y8 (by rw [h2]; decide)]
theorem Zfs:∀ (m:Nat) (l:List Cu),l.length<m->l.length<=1000000->(∀ c∈l,Xy c)->∀ (c:Cu) (fl:Bool),Xy c->X7 Tryz.prog 160 [cuP c,.vec (l.map cuC) fl] (· = .val (.bool (X2h l c))):=by
 intro m
 induction m with
 | zero=>intro l hm; omega
 | succ m ih =>
   intro l hm hlen hl c fl hc;have hlp:∀ (l:List Cu) D,Xt D (l.map cuC):=fun i D=>Zd (fun _ h=>h.elim) _ (Zb Zh _);refine Yp ok160 fun C hC=>?_;refine Zm ?_;refine Z9 ?_;refine Z5 rfl rfl rfl ?_;refine go ?_;refine Qe (Z1f c hc) ⟨ZA c,Yt⟩ ?_;cases hec:emC c
   case true =>
    refine go ?_;have h1:X2h l c=true:=by cases l<;>(unfold X2h; rw [hec]; try rfl)
    exact Z8 rfl Yt (by rw [h1])
   refine go ?_;refine Zz hC (fun (x:Nat×Bool)=>x.1<=l.length/\X2h l c=X2h (l.drop x.1) c) (fun x=>l.length-x.1) 0 (fun x => [(1,.vec ((l.drop x.1).map cuC) x.2),(2,.cp (cuC c))]) (fun _=>[]) (Y0m _) (0,fl) ⟨Y0l _,rfl⟩
    ⟨⟨rfl,hlp _ _⟩,⟨rfl,Zp _ _,Zp _ _,Yt⟩,Yt⟩ Yt ?_
   rintro⟨i,fl2⟩ ⟨hi,hcov⟩;dsimp only at hi hcov ⊢;have hrest:l.drop (i+1)=(l.drop i).drop 1:=by rw [Y4H]
   have hdl:(l.drop i).length=l.length-i:=YV;have hmem:∀ x∈l.drop i,Xy x:=fun x hx=>hl x (Y1j hx);generalize l.drop i=lr at hcov hrest hdl hmem ⊢;cases lr with
   | nil =>
     refine go ?_;exact Z8 rfl Yt (by rw [hcov,X2h,hec])
   | cons b rest =>
     have hb0:Xy b:=hmem b (Y0t ..);have hro:∀ x∈rest,Xy x:=fun x hx=>hmem x (YB _ hx);rw [Y04] at hdl;rw [List.drop_succ_cons,Y12] at hrest;have htd:((b :: rest).take (rest.length+1)).drop 1=rest:=by simp
     iterate 5 (first|refine st ?_|(apply B<;>intro hb<;>try cases hb))
     refine Qr (Z4 (v:=true) rfl (by simp; try omega)) ?_;refine go ?_;refine Qr (Zl (xs:=b :: rest) (g:=cuC) rfl rfl 0 rfl (Y1u _) rfl) ?_;rw [show (b :: rest)[0]=b from rfl];refine go ?_;refine Qd (Z8z c b hc hb0) ⟨ZA c,ZA b,Yt⟩ ?_;refine go ?_;refine Qd (Z1f (X19 c b) (ZdF hc hb0)) ⟨ZA _,Yt⟩ ?_;cases hm2:emC (X19 c b)
     case true =>
      refine go ?_;refine Qo (Zgc (xs:=b :: rest) (g:=cuC) rfl 1 (rest.length+1) rfl (by show some _=some _; simp) (by omega) (by simp) (fun _=>rfl)) ?_;rw [htd];refine go ?_;exact⟨(i+1,false),⟨by show i+1<=_; omega,by show _=X2h (l.drop (i+1)) c; rw [hcov,hrest,ZhG hec hm2]⟩,by show _-(i+1)<_-i; omega,⟨⟨by show _=some (PV.vec ((l.drop (i+1)).map cuC) false); rw [hrest]; rfl,hlp _ _⟩,⟨rfl,Zp _ _,Zp _ _,Yt⟩,Yt⟩,Yt⟩
     have hst:=ZhH (l:=rest) hec hm2;rw [<- hcov] at hst
     iterate 14 (first|refine st ?_|(apply B<;>intro hb<;>try cases hb))
     refine go ?_;refine Qr (Zl (xs:=b :: rest) (g:=cuC) rfl rfl 0 rfl (Y1u _) rfl) ?_;rw [show (b :: rest)[0]=b from rfl];refine go ?_;refine Qd (Z8J c b hc hb0) ⟨ZA c,ZA b,Yt⟩ ?_;have hml:=ZdL c b hc;have hmo:=ZkM (b:=b) hc;generalize X2d c b=ms at hst hml hmo ⊢;have hmll:(ms.map cuC).length=ms.length:=by simp
     refine go ?_;refine Zz hC (fun j=>j<=ms.length/\((ms.take j).all fun x=>X2h rest x)=true) (fun j=>ms.length-j) 0 (fun j => [(1,.vec ((b :: rest).map cuC) fl2),(29,.vec (ms.map cuC) false),(30,.val (.int .i64 ms.length)),(31,Yv j)]) (fun _=>[]) (Y0l _) 0 ⟨Y0l _,rfl⟩
      ⟨⟨rfl,hlp _ _⟩,⟨rfl,hlp _ _⟩,⟨by rw [<- hmll]; rfl,Yt⟩,⟨rfl,Yt⟩,Yt⟩ Yt ?_
     rintro j ⟨hj,hall⟩;have hinc:IntKind.i64.wrap ((j:Int)+1)=((j+1:Nat):Int):=Y0v _ ⟨by omega,by omega⟩
     iterate 2 (first|refine st ?_|(apply B<;>intro hb<;>try cases hb))
     refine Zt rfl rfl rfl (fun hb=>?_) (fun hb=>?_)
     . have hjl : j < ms.length := by have := Y0u hb; omega
       have hxo:=hmo _ (Y0j hjl);have hsx:=Zfr (fun x=>X2h rest x) hjl;rw [hall,Y1g] at hsx;clear hb;refine go ?_;refine Qo (Zl (xs:=ms) (g:=cuC) rfl rfl j rfl hjl rfl) ?_;refine go ?_;refine Qr (Zgc (xs:=b :: rest) (g:=cuC) rfl 1 (rest.length+1) rfl (by show some _=some _; simp) (by omega) (by simp) (fun _=>rfl)) ?_;rw [htd];refine go ?_;refine Qd (ih rest (by omega) (by omega) hro ms[j] false hxo) ⟨ZA _,Zb Zh _,Yt⟩ ?_;generalize X2h rest ms[j]=v at hsx;cases v
       . refine go ?_;exact Z8 rfl Yt (by rw [hst,ZcO _ hsx])
       . refine go ?_;exact⟨j+1,⟨by omega,hsx⟩,by omega,⟨⟨rfl,hlp _ _⟩,⟨rfl,hlp _ _⟩,⟨rfl,Yt⟩,⟨by show some _=some _; rw [hinc],Yt⟩,Yt⟩,Yt⟩
     . have hjl : j = ms.length := by have := YC hb; omega
       subst hjl;rw [Y0q] at hall;clear hb;refine go ?_;exact Z8 rfl Yt (by rw [hst,hall])
end
section
open Go.RowKit
def X3K (q:List PV) (i j:Nat):Bx:=⟨q.length+2,[.own i :: .own j :: q]⟩
section
variable {P:Program} {C:Ctx} {Fr:Nat->Prop} {e:Env} {h:X2} {n:Nat} {F:XL} {φ:XO} {a:Act} {w:World}
theorem Z7S {φ':XO} {v:Value} {i i':Nat} (hi:φ i=φ' i') (hr:Rep F φ v (.own i)):Rep F φ' v (.own i'):=Z3j F φ φ' v i i' hi hr
theorem X1Q.kid {φ':XO} {loc:Loc} {q:List PV} {i j i' j':Nat} (h2:X1Q F φ w loc (X3K q i j)) (hi:φ i=φ' i') (hj:φ j=φ' j') (hq:X5 q):X1Q F φ' w loc (X3K q i' j'):=by
 have h2:=h2.cellsB (show 0<q.length+2 by omega);refine .inl ⟨h2.esz,h2.pos,h2.len,h2.cap,h2.max,fun c hc=>?_,fun hc=>?_⟩
 . have hc : c ∈ [PV.own i' :: .own j' :: q] := hc;rw [Y0g] at hc;subst hc;rw [<- h2.esz]; rfl
 . obtain ⟨x, hx, hs, cells, t, hg, hsz, hrep⟩ := h2.room hc;refine⟨x,hx,hs,cells,t,hg,hsz,fun a b ha hb=>⟨(hrep a b ha hb).1,?_⟩⟩;have hr:=(hrep a b ha hb).2;have hl:loc.len=1:=by rw [<- h2.len]; rfl
   obtain rfl:a=0:=by omega
   match b,hr with
   | 0,hr=>exact Z7S hi hr
   | 1,hr=>exact Z7S hj hr
   | b+2,hr=>exact Rep.pure (p:=q.getD b pvu) hr (ZM hq b)
def X2s (P:Program) (f:FuncId) (pre post q:List PV) (b1 b2:Bx) (R:PV->Bx->Bx->Prop):Prop :=
 XF P f 3 (pre++.ptr 0 0 0 :: post) (Xv [(0,X3K q 1 2),(1,b1),(2,b2)]) fun n' r h'=>∃ j1 j2 b1' b2',j1≠j2/\j1≠0/\j2≠0/\h' 0=some (X3K q j1 j2)/\h' j1=some b1'/\h' j2=some b2'/\r.pure/\X1 b1'.elems/\X1 b2'.elems/\R r b1' b2'
theorem Z8U {F:XL} {φ φ':XO} {vs:Array Value} {pre post:List PV} {p p':PV} (hpre:X5 pre) (hpost:X5 post) (hp:∀ v,Rep F φ v p->Rep F φ' v p') (hv:X27 F φ vs (pre++p :: post)):X27 F φ' vs (pre++p' :: post):=by
 refine⟨by rw [hv.1]; simp,fun i hi=>?_⟩;have hr:=hv.2 i (by simp at hi ⊢; exact hi);by_cases h1:i<pre.length
 . have e1 : (pre ++ p :: post).getD i pvu = pre.getD i pvu := by simp [Y0b, YO h1]
   have e2:(pre++p' :: post).getD i pvu=pre.getD i pvu:=by simp [Y0b,YO h1]
   rw [e1] at hr; rw [e2];exact hr.pure (ZM hpre i)
 . have e1 : (pre ++ p :: post).getD i pvu = (p :: post).getD (i - pre.length) pvu := by simp [Y0b, YL (Y4q h1)]
   have e2:(pre++p' :: post).getD i pvu=(p' :: post).getD (i-pre.length) pvu:=by simp [Y0b,YL (Y4q h1)]
   rw [e1] at hr; rw [e2]
   match hk:i-pre.length,hr with
   | 0,hr=>exact hp _ hr
   | k+1,hr=>exact Rep.pure (p:=post.getD k pvu) hr (ZM hpost k)
theorem X2s.run {f:FuncId} {pre post q:List PV} {b1 b2:Bx} {R:PV->Bx->Bx->Prop} (hs:X2s P f pre post q b1 b2 R) (hpre:X5 pre) (hpost:X5 post) (hq:X5 q) (hp1:X1 b1.elems) (hp2:X1 b2.elems) {k i j n:Nat} (hn:Fr n) (hn1:Fr (n+1)) (hk:h k=some (X3K q i j)) (hi:h i=some b1) (hj:h j=some b2) (hij:i≠j) (hik:i≠k) (hjk:j≠k)
 (s:St' C Fr e h F φ a w) {vs:Array Value} (hv:X27 F φ vs (pre++.ptr k 0 0 :: post)) :
 Calls P f vs w fun en w'=>∃ v r b1' b2' F' φ',en=.returned v/\(r.pure/\X1 b1'.elems/\X1 b2'.elems/\R r b1' b2')/\Rep F' φ' v r/\St' C (fun x=>Fr x/\x≠n/\x≠n+1) e (((((h.del i).del j).upd k (X3K q n (n+1))).upd n b1').upd (n+1) b2') F' φ' a w':=by
 obtain⟨lk,hlk,_⟩:=s.live k _ hk;obtain⟨li,hli,_⟩:=s.live i _ hi;obtain⟨lj,hlj,_⟩:=s.live j _ hj;have h0:∀ {x b0},(Xv [(0,X3K q 1 2),(1,b1),(2,b2)]) x=some b0->(x=0/\b0=X3K q 1 2) \/ (x=1/\b0=b1) \/ (x=2/\b0=b2):=fun hx=>by simpa using Z1r hx
 refine (X6Q hs s (φ1:=fun x=>if x=0 then φ k else if x=1 then φ i else if x=2 then φ j else none) (fun x=>if x=0 then k else if x=1 then i else j) (fun x hx=>by rw [Y8 (by omega),Y8 (by omega),Y8 (by omega)]) (fun x b0 hx=>?_) (fun x y hx hy hxy=>?_) (Z8U hpre hpost (fun v hr=>?_) hv)).mono ?_
 . rcases h0 hx with ⟨rfl, rfl⟩ | ⟨rfl, rfl⟩ | ⟨rfl, rfl⟩
   . exact⟨lk,_,hlk,hlk,hk,fun h=>h.kid rfl rfl hq⟩
   . exact⟨li,_,hli,hli,hi,fun h=>h.names hp1⟩
   . exact⟨lj,_,hlj,hlj,hj,fun h=>h.names hp2⟩
 . obtain ⟨_, hx⟩ := Y1s.1 hx;obtain⟨_,hy⟩:=Y1s.1 hy;rcases h0 hx with⟨rfl,_⟩|⟨rfl,_⟩|⟨rfl,_⟩<;>rcases h0 hy with⟨rfl,_⟩|⟨rfl,_⟩|⟨rfl,_⟩<;>first|rfl|(simp only [Y25,Y8 (show ¬ (1:Nat)=0 by decide),Y8 (show ¬ (2:Nat)=0 by decide),Y8 (show ¬ (2:Nat)=1 by decide)] at hxy;omega)
 . obtain ⟨loc', x, g1, gz, g2, g3, rfl⟩ := hr.ptr_inv;exact .ptr 0 0 0 loc' x g1 gz g2 g3
 rintro en w' ⟨v,r,n',h',F',φ',rfl,⟨j1,j2,b1',b2',hj12,hj10,hj20,hh0,hh1,hh2,hrp,hp1',hp2',hR⟩,hvr,hφ,hob,hst⟩;obtain⟨l1,m1,_⟩:=hob j1 _ hh1;obtain⟨l2,m2,_⟩:=hob j2 _ hh2;have hφn:=s.free n hn;have hφ1:X8 φ n l1 (n+1)=none:=by simp [X8,s.free _ hn1]
 have hkn:∀ {x},φ x≠none->x≠n/\x≠n+1:=fun hx=>⟨fun e=>hx (e▸hφn),fun e=>hx (e▸s.free _ hn1)⟩
 refine⟨v,r,b1',b2',F',X8 (X8 φ n l1) (n+1) l2,rfl,⟨hrp,hp1',hp2',hR⟩,hvr.pure hrp,hst (fun x y=>(x=n/\y=j1) \/ (x=n+1/\y=j2) \/ (x=k/\y=0)) (fun x y hx=>Z1b hφ1 l2 x y (Z1b hφn l1 x y hx)) (fun x hx=>by simp [X8,hx.2,s.free x hx.1]) (fun x y z h1 h2=>by omega) fun x bx hx=>?_⟩;rcases Z3u hx with⟨rfl,rfl⟩|⟨e0,hx⟩
 . exact .inl ⟨j2,_,l2,.inr (.inl ⟨rfl,rfl⟩),hh2,m2,by simp [X8],fun h=>h.names hp2'⟩
 rcases Z3u hx with⟨rfl,rfl⟩|⟨e1,hx⟩
 . exact .inl ⟨j1,_,l1,.inl ⟨rfl,rfl⟩,hh1,m1,by simp [X8],fun h=>h.names hp1'⟩
 rcases Z3u hx with⟨rfl,rfl⟩|⟨e2,hx⟩
 . exact .inl ⟨0,_,lk,.inr (.inr ⟨rfl,rfl⟩),hh0,hφ 0 lk hlk,by simp [X8,e0,e1,hlk],fun h=>h.kid (by rw [m1]; simp [X8]) (by rw [m2]; simp [X8]) hq⟩
 . obtain ⟨e3, hx⟩ := X2.del_some hx;obtain⟨e4,hx⟩:=X2.del_some hx
   exact .inr ⟨hx, by simp [X8, e0, e1], fun y _=>by (repeat' split)<;>assumption⟩
theorem X2s.frame {f:FuncId} {pre post q:List PV} {b1 b2:Bx} {R:PV->Bx->Bx->Prop} (hs:X2s P f pre post q b1 b2 R) (hpre:X5 pre) (hpost:X5 post) (hq:X5 q) (hp1:X1 b1.elems) (hp2:X1 b2.elems) {k i j n:Nat} (hk:h k=some (X3K q i j)) (hi:h i=some b1) (hj:h j=some b2) (hij:i≠j) (hik:i≠k) (hjk:j≠k) :
 XF P f n (pre++.ptr k 0 0 :: post) h fun n' r h'=>∃ b1' b2',n'=n+2/\h'=((((h.del i).del j).upd k (X3K q n (n+1))).upd n b1').upd (n+1) b2'/\r.pure/\X1 b1'.elems/\X1 b2'.elems/\R r b1' b2':=by
 refine⟨hs.1,fun C e F φ a w vs s hv=>(hs.run hpre hpost hq hp1 hp2 (n:=n) (Y0m n) (Y47 n) hk hi hj hij hik hjk s hv).mono ?_⟩;rintro en w' ⟨v,r,b1',b2',F',φ',rfl,⟨h1,h2,h3,h4⟩,hr,s'⟩;exact⟨v,r,n+2,_,F',φ',rfl,⟨b1',b2',rfl,rfl,h1,h2,h3,h4⟩,hr,{ s' with free:=fun i hi=>s'.free i ⟨by omega,by omega,by omega⟩ }⟩
theorem ZcP {f:Operand} {args:List Operand} {g:FuncId} {caps as0 pre post q:List PV} {b1 b2:Bx} {k i j:Nat} {R:PV->Bx->Bx->Prop} {d:Option Nat} {os:List Xs} {n:Nat} {K:Nat->Env->X2->Prop} (hs:X2s P g pre post q b1 b2 R) (hf:ev e f=some (.fn g caps)) (ha:evs e args=some as0) (hr:as0++caps=pre++.ptr k 0 0 :: post) (hk:h k=some (X3K q i j)) (hi:h i=some b1) (hj:h j=some b2) (hij:i≠j) (hik:i≠k) (hjk:j≠k) (hpre:X5 pre) (hpost:X5 post) (hq:X5 q) (hp1:X1 b1.elems) (hp2:X1 b2.elems)
 (hK:∀ r b1' b2',r.pure->X1 b1'.elems->X1 b2'.elems->R r b1' b2'->Xr P os (n+2) (XC e d r) (((((h.del i).del j).upd k (X3K q n (n+1))).upd n b1').upd (n+1) b2') K):Xr P (⟨d,.call f args,none⟩ :: os) n e h K:=by
 refine Z10 hf ha (R:=fun n' r h'=>∃ b1' b2',n'=n+2/\h'=((((h.del i).del j).upd k (X3K q n (n+1))).upd n b1').upd (n+1) b2'/\r.pure/\X1 b1'.elems/\X1 b2'.elems/\R r b1' b2') (by rw [hr]; exact hs.frame hpre hpost hq hp1 hp2 hk hi hj hij hik hjk) ?_;rintro n' r h' ⟨b1',b2',rfl,rfl,h1,h2,h3,h4⟩;exact hK r b1' b2' h1 h2 h3 h4
theorem Zeb {f nt:Nat} {ac:X6} {rs:List X2g} (hf:X3O P f nt ac rs) {pre post q:List PV} {b1 b2:Bx} {R:PV->Bx->Bx->Prop} (hn:(pre++.ptr 0 0 0 :: post).length<=nt)
 (hk:∀ C:Ctx,C.dom 3->aw P C ac (X6h rs fun n' r h'=>∃ j1 j2 b1' b2',j1≠j2/\j1≠0/\j2≠0/\h' 0=some (X3K q j1 j2)/\h' j1=some b1'/\h' j2=some b2'/\r.pure/\X1 b1'.elems/\X1 b2'.elems/\R r b1' b2') 3 (XV (pre++.ptr 0 0 0 :: post)) (Xv [(0,X3K q 1 2),(1,b1),(2,b2)])):X2s P f pre post q b1 b2 R :=
 Z18 hf hn hk
end
end
section
open Go.RowKit
attribute [local irreducible] aw Xr dK
def hwC (e:KE):List PV := [.val (.int .i64 e.2.1),.val (.int .i64 (e.2.2:Int))]
theorem ZjC (e:KE):X5 (hwC e):=⟨Yt,Yt,Yt⟩
theorem Z1h (l:List KE):X1 (l.map hwC):=Zb ZjC l
def X7t (ks:List KE) (e:KE) (L:Int) (ks':List KE) (v:PV):Prop:=(X2h (kcs ks) e.1=true/\ks'=ks/\v=.val (.int .i64 0)) \/ (X2h (kcs ks) e.1=false/\ks'=ks ++ [e]/\v=.val (.int .i64 (if L<((ks.length+1:Nat):Int) then 3 else 0)))
theorem Zec (ks:List KE) (h64:∀ c∈kcs ks,Xy c) (hl:ks.length<=1000) (e:KE) (he:Xy e.1) (L:Int):X2s Tryz.prog 128 [] [cuP e.1,.agg (hwC e)] [.val (.int .i64 L)] ⟨2,(kcs ks).map cuC⟩ ⟨2,ks.map hwC⟩ fun v b1 b2=>∃ ks',b1=⟨2,(kcs ks').map cuC⟩/\b2=⟨2,ks'.map hwC⟩/\X7t ks e L ks' v:=by
 have hkl:(kcs ks).length=ks.length:=by simp [kcs]
 have hcs:=Zfs ((kcs ks).length+1) (kcs ks) (Y2R _) (by omega) h64 e.1 false he;refine Zeb ok128 (Y0 rfl) fun C hC=>?_;refine Zm ?_;refine Z9 ?_;refine Z5 rfl rfl rfl ?_;refine Z5 rfl rfl rfl ?_
 iterate 4 (first|refine st ?_|(apply B<;>intro hb<;>try cases hb))
 refine Zdl [] 1 (by decide) ?_;refine gd 12 ⟨?_⟩;refine Zmu hcs rfl rfl (j:=1) rfl rfl rfl (Z1 _) ⟨ZA _,Z1 _,Yt⟩ ?_;cases hcov:X2h (kcs ks) e.1
 case true =>
  refine go ?_;exact⟨_,_,rfl,.inl rfl,1,2,_,_,by decide,by decide,by decide,rfl,rfl,rfl,Yt,Z1 _,Z1h _,ks,rfl,rfl,.inl ⟨hcov,rfl,rfl⟩⟩
 repeat' (first|refine Z3v [] [(1,256)] [4194303,4194303,4194303,4194303,4194303,4194303,4194303,4194303,4194047,4194303,4194303,4194303,4194303,4194303,4194303,4194303,4194303,4194303,4194303,4194303,4194303,4194303] (by kernel_rfl) ?_|refine Z9d 21 ?_|(first|refine st ?_|(apply B<;>intro hb<;>try cases hb)))
 refine At.mk ?_
 refine Qr (Zu (k:=1) (m := [cuC e.1]) (fl:=true) rfl rfl rfl (fun q hq=>by rw [Y0g] at hq; subst hq; rfl) rfl (by
  show (((kcs ks).map cuC).length+1)*48<=_
  rw [Y0f];omega)) ?_
 refine gd 28 ⟨?_⟩
 refine Qr (Zu (k:=2) (m := [hwC e]) (fl:=true) rfl rfl rfl (fun q hq=>by rw [Y0g] at hq; subst hq; rfl) rfl (by
  show ((ks.map hwC).length+1)*16<=_
  rw [Y0f];omega)) ?_
 have hp1:X1 ((kcs ks).map cuC ++ [cuC e.1]):=by rw [<- Y1c,<- Y0r]; exact Z1 _
 have hp2:X1 (ks.map hwC ++ [hwC e]):=by rw [<- Y1c,<- Y0r]; exact Z1h _
 have e1:(kcs ks).map cuC ++ [cuC e.1]=(kcs (ks ++ [e])).map cuC:=by rw [Z9M,Y0r]; rfl
 have e2:ks.map hwC ++ [hwC e]=(ks ++ [e]).map hwC:=by rw [Y0r]; rfl
 have hlen:(((kcs ks).map cuC ++ [cuC e.1]).length:Int)=((ks.length+1:Nat):Int):=by simp [hkl]
 rw [e1] at hp1 hlen ⊢;rw [e2] at hp2 ⊢;refine gd 42 ⟨?_⟩;by_cases hL:L<((ks.length+1:Nat):Int)
 . refine Qr (Qy rfl (by rw [hlen]; exact hL)) ?_;refine go ?_;exact⟨_,_,rfl,.inl rfl,17,24,_,_,by decide,by decide,by decide,rfl,rfl,rfl,Yt,hp1,hp2,ks ++ [e],rfl,rfl,.inr ⟨hcov,rfl,by rw [Y6 hL]; rfl⟩⟩
 . refine Qr (Qz rfl (by rw [hlen]; exact hL)) ?_;refine gd 49 ⟨?_⟩;refine Z2d rfl ?_;refine Qr (Qz rfl (by rw [hlen];omega)) ?_;refine go ?_;exact⟨_,_,rfl,.inl rfl,17,24,_,_,by decide,by decide,by decide,rfl,rfl,rfl,Yt,hp1,hp2,ks ++ [e],rfl,rfl,.inr ⟨hcov,rfl,by rw [Y8 hL]; rfl⟩⟩
theorem X2S.len {t:PB} {ks:List KE} (hk:X26 t ks) {i:Nat} {p:List Nat} (hp:X2S ks i p):p.length<=i:=by
 induction hp with
 | stop _ _=>exact Y0l _
 | step he hr _ ih =>
   rcases hk.how _ _ he with h4|⟨r',to',x,e',h4,h5,h6,h7,h8⟩
   . rw [hr] at h4; simp only at h4; omega
   . rw [hr] at h4;obtain⟨h41,h42⟩:=Y3E h4;subst h42;rw [Y04]; omega
def kpC (ks:List KE) (L:Int):List PV := [.vec ((kcs ks).map cuC) false,.vec (ks.map hwC) false,.val (.int .i64 L)]
theorem Z9U (ks:List KE) (L:Int):X5 (kpC ks L):=⟨Z1 _,Z1h _,Yt,Yt⟩
theorem ZhI {t:PB} (hn:t.n<=5) {ks:List KE} (hk:X26 t ks) (L:Int) {i:Nat} {p:List Nat} (hp:X2S ks i p):X7 Tryz.prog 129 [.cp (kpC ks L),Yv i] (· = .vec (inL p) false):=by
 have hkp:=Z9U ks L;have hkl:=hk.len;have h32:2 ^ t.n<=32:=YJ (n:=2) (by decide) hn;have hpl:p.length<=i:=hp.len hk;have hil:i<ks.length:=by cases hp<;>exact (Y7.1 (by assumption)).1
 refine Yp ok129 fun C hC=>?_;refine go ?_;refine Z1U (Z8h (k:=5) rfl 1 (by decide)) ?_;refine Zv hC (fun (z:Nat×List Nat×List Nat)=>X2S ks z.1 z.2.2/\p=z.2.1++z.2.2) (fun z=>z.2.2.length) 1 (fun z => [(0,.cp (kpC ks L)),(1,Yv z.1),(5,.own 0)]) (fun z => [(0,⟨1,inL z.2.1⟩)]) (Y0l _) (i,[],p) ⟨hp,rfl⟩ (fun i=>i) (fun _ _=>rfl) Zf
  ⟨Qp hkp,Qp Yt,⟨_,rfl,.own 0 (by decide)⟩,Yt⟩ ⟨Qs Yt,Yt⟩ ?_
 rintro⟨j,out,q⟩ ⟨hq,hpq⟩;dsimp only at hq hpq ⊢;have hol:out.length<=32:=by rw [hpq,Y0e] at hpl; omega
 cases hq with
 | stop he hr =>
   rename_i e;obtain⟨hjl,hje⟩:=Y7.1 he;refine gd 11 ⟨?_⟩;refine Qo (Zl (xs:=ks) (g:=hwC) rfl rfl j rfl hjl rfl) ?_;rw [hje];refine gd 14 ⟨?_⟩;refine Qo (Qz rfl (by omega)) ?_
   repeat' (first|refine Za (Zj (k:=5) rfl rfl (Zs _)) ?_|(first|refine st ?_|(apply B<;>intro hb<;>try cases hb)))
   rw [Y0p] at hpq;exact Z8 rfl (Zs _) (by rw [hpq])
 | step he hr hq =>
   rename_i r to e q;obtain⟨hjl,hje⟩:=Y7.1 he;have h1:hwC e = [.val (.int .i64 (r:Int)),.val (.int .i64 (to:Int))]:=by unfold hwC; rw [hr]
   refine gd 11 ⟨?_⟩;refine Qo (Zl (xs:=ks) (g:=hwC) rfl rfl j rfl hjl rfl) ?_;rw [hje,h1];refine gd 14 ⟨?_⟩;refine Qo (Qy rfl (by omega)) ?_;refine gd 21 ⟨?_⟩;refine Qo (Zl (xs:=ks) (g:=hwC) rfl rfl j rfl hjl rfl) ?_;rw [hje,h1];refine gd 25 ⟨?_⟩
   refine ZH (Zu (k:=0) (m := [X31 r]) (fl:=true) rfl rfl rfl (fun q hq=>by rw [Y0g] at hq; subst hq; rfl) rfl (by
    show ((inL out).length+1)*8<=_
    rw [Z23];omega)) rfl rfl ?_
   refine gd 31 ⟨?_⟩;refine Qo (Zl (xs:=ks) (g:=hwC) rfl rfl j rfl hjl rfl) ?_;rw [hje,h1];refine go ?_
   refine⟨(to,out ++ [r],q),mv 0 1,⟨hq,by rw [hpq,YT]; rfl⟩,by show q.length<q.length+1; omega,fun i hi=>absurd hi (Ye i),Zq rfl,
    ⟨Qp hkp,Qp Yt,⟨_,rfl,.own 0 (by decide)⟩,Yt⟩,⟨⟨by decide,_,rfl,?_⟩,Yt⟩⟩
   show Xw _ _ ⟨1,inL out ++ [X31 r]⟩ ⟨1,inL (out ++ [r])⟩;rw [Zjj];exact .same _ (Zs _)
theorem ZhJ {ks:List KE} {i:Nat} {e:KE} (he:ks[i]?=some e):((kcs ks).map cuC).getD i []=cuC e.1/\i<((kcs ks).map cuC).length:=by
 obtain⟨h1,rfl⟩:=Y7.1 he;refine⟨?_,by simp [kcs,h1]⟩;simp [kcs,Y0b,h1]
def X8o (t:PB) (ks:List KE) (e:KE) (L:Int) (ks':List KE) (v:PV):Prop:=ks <+: ks'/\X26 t ks'/\((v=.val (.int .i64 0)/\X5O t e.1 ks') \/ (v=.val (.int .i64 3)/\L<(ks'.length:Int)))
def X5v (l:List Cu) (ks:List KE):Prop:=∀ c∈l,∀ S,hoC c S=true->soC (kcs ks) S=true
theorem X7t.keep {t:PB} {ks ks':List KE} {e:KE} {L:Int} {v:PV} (ha:X7t ks e L ks' v) (hk:X26 t ks) (hm:InM 62 e.1/\InM (mkN t.n) e.1/\emC e.1=false)
 (hh : (e.2.1 = -1 /\ ∀ S, InS t S -> hoC e.1 S = true -> Xq t S = true /\ Xp t S = true) \/
   ∃ (r to:Nat) (x:RU) (e':KE),e.2=((r:Int),to)/\t.rs[r]?=some x/\ks[to]?=some e'/\∀ S,InS t S->hoC e.1 S=true->Xq t S=true/\XB t x S=true/\hoC e'.1 (X9 x S)=true) :
 ks <+: ks'/\X26 t ks'/\(∀ S,hoC e.1 S=true->soC (kcs ks') S=true)/\(v=.val (.int .i64 0) \/ (v=.val (.int .i64 3)/\L<(ks'.length:Int))):=by
 rcases ha with⟨h1,rfl,rfl⟩|⟨h1,rfl,rfl⟩
 . exact⟨Y3c _,hk,fun S hS=>Zm3 hk h1 hS,.inl rfl⟩
 . refine ⟨Y4c _ _, hk.add hm h1 hh, fun S hS => by rw [Z9M, Z6P, hS, Y39], ?_⟩;by_cases hL:L<((ks.length+1:Nat):Int)
   . exact .inr ⟨by rw [Y6 hL],by rw [Y0e]; exact hL⟩
   . exact .inl (by rw [Y8 hL])
theorem X7A {a b i:Nat} (hi:i<3):mv 3 a (mv 4 b i)=i:=by
 rw [Z3n (m:=3) (by decide) i hi,Z3n (m:=3) (Y0m 3) i hi]
theorem ZcQ {t:PB} (h:Xo t) (hn:t.n<=5) (S:List Nat) {ks:List KE} (hk:X26 t ks) (i:Nat) (e:KE) (he:ks[i]?=some e) (L:Int):X2s Tryz.prog 130 [.cp (srC t S)] [Yv i] [.val (.int .i64 L)] ⟨2,(kcs ks).map cuC⟩ ⟨2,ks.map hwC⟩ fun v b1 b2=>∃ ks',b1=⟨2,(kcs ks').map cuC⟩/\b2=⟨2,ks'.map hwC⟩/\X8o t ks e L ks' v:=by
 have hsr:=Z5L t S;have hrb:=h.rl;have hrl:(t.rs.map ruP).length=t.rs.length:=by simp
 have h32:2 ^ t.n<=32:=YJ (n:=2) (by decide) hn;refine Zeb ok130 (Y0 rfl) fun C hC=>?_;refine go ?_;refine Zv hC (fun (z:Nat×List KE)=>z.1<=t.rs.length/\ks <+: z.2/\X26 t z.2/\∀ j x,j<z.1->t.rs[j]?=some x->X6q t e.1 x z.2) (fun z=>t.rs.length-z.1) 5 (fun z => [(0,.cp (srC t S)),(1,.ptr 0 0 0),(2,Yv i),(18,.val (.int .i64 (t.rs.length:Int))),(19,Yv z.1)])
  (fun z => [(0,⟨3,[[.own 3,.own 4,.val (.int .i64 L)]]⟩),(3,⟨2,(kcs z.2).map cuC⟩),(4,⟨2,z.2.map hwC⟩)]) (by decide) (0,ks) ⟨Y0l _,Y3c _,hk,fun j x hj=>absurd hj (Ye j)⟩ (fun i=>mv 3 1 (mv 4 2 i)) (fun i hi=>X7A hi) (Zq rfl)
  ⟨Qp hsr,Qt 0 0 0,Qp Yt,⟨_,by rw [<- hrl]; rfl,.pure _ Yt⟩,Qp Yt,Yt⟩
  ⟨⟨by decide,_,rfl,Xw.single ⟨.own (ρ:=fun i=>mv 3 1 (mv 4 2 i)) 3 (by decide),.own (ρ:=fun i=>mv 3 1 (mv 4 2 i)) 4 (by decide),.pure _ Yt,Yt⟩ rfl⟩,Qs (Z1 _),Qs (Z1h _),Yt⟩ ?_
 rintro⟨r,k1⟩ ⟨hr,hpre,hk1,hex⟩;dsimp only at hr hpre hk1 hex ⊢;have hinc:IntKind.i64.wrap ((r:Int)+1)=((r+1:Nat):Int):=Y0v _ ⟨by omega,by omega⟩;refine gd 20 ⟨?_⟩;by_cases hrt:r<t.rs.length
 case neg =>
  refine Qo (Qz rfl (by omega)) ?_;refine go ?_;refine⟨_,_,rfl,.inl rfl,3,4,_,_,by decide,by decide,by decide,rfl,rfl,rfl,Yt,Z1 _,Z1h _,k1,rfl,rfl,hpre,hk1,.inl ⟨rfl,fun x hx=>?_⟩⟩;obtain⟨j,hj,rfl⟩:=Y19.1 hx;exact hex j _ (by omega) (Y0c hj)
 refine Qo (Qy rfl (Y1z.2 hrt)) ?_;have he1:=Z2R hpre he;obtain⟨g1,g2⟩:=ZhJ he1;have hem:=hk1.mem e (YG he1);have hro:=h.rs _ (Y0j hrt);have hxr:=Y0c hrt;refine gd 29 ⟨?_⟩;refine Qo (ZF (k:=.i64) rfl rfl rfl i rfl g2 rfl) ?_;refine gd 30 ⟨?_⟩;refine Qo (Z1v (p:=cuP e.1) rfl rfl g2 (by show X17 true 2 0 (((kcs k1).map cuC).getD i [])=_; rw [g1]; rfl)) ?_;refine gd 32 ⟨?_⟩;refine Qe (ZaN h S e.1 hem.1 r hrt) ⟨hsr,ZA _,Yt,Yt⟩ ?_;generalize t.rs[r]=x at hro hxr ⊢;have hbi:=ZmD h hro hem.1;have hbn:=ZmW h hro hem.2.1;have hbs:=fun S (hS:InS t S)=>ZmC h hro hem.1 hS;generalize hl0:bfL t x e.1=l at hbi hbn hbs ⊢;obtain⟨hbi,hbl⟩:=hbi;have hll:(l.map cuC).length=l.length:=by simp
 refine go ?_;refine Zv hC (fun (z:Nat×List KE)=>z.1<=l.length/\ks <+: z.2/\k1 <+: z.2/\X26 t z.2/\X5v (l.take z.1) z.2) (fun z=>l.length-z.1) 5 (fun z => [(0,.cp (srC t S)),(1,.ptr 0 0 0),(2,Yv i),(7,.val (.int .i64 (r:Int))),(18,.val (.int .i64 (t.rs.length:Int))),(19,.val (.int .i64 (r:Int))),(38,.vec (l.map cuC) false),(39,.val (.int .i64 (l.length:Int))),(40,Yv z.1)])
  (fun z => [(0,⟨3,[[.own 3,.own 4,.val (.int .i64 L)]]⟩),(3,⟨2,(kcs z.2).map cuC⟩),(4,⟨2,z.2.map hwC⟩)]) (by decide) (0,k1) ⟨Y0l _,hpre,Y3c _,hk1,fun c hc=>(by cases hc)⟩ (fun i=>i) (fun _ _=>rfl) Zf
  ⟨Qp hsr,Qt 0 0 0,Qp Yt,Qp Yt,Qp Yt,Qp Yt,Qp (Z1 _),⟨_,by rw [<- hll]; rfl,.pure _ Yt⟩,Qp Yt,Yt⟩
  ⟨⟨by decide,_,rfl,Xw.single ⟨.own (ρ:=fun i=>i) 3 (by decide),.own (ρ:=fun i=>i) 4 (by decide),.pure _ Yt,Yt⟩ rfl⟩,Qs (Z1 _),Qs (Z1h _),Yt⟩ ?_
 rintro⟨j,k2⟩ ⟨hj,hpre2,hpre3,hk2,hcov⟩;dsimp only at hj hpre2 hpre3 hk2 hcov ⊢;have hjnc:IntKind.i64.wrap ((j:Int)+1)=((j+1:Nat):Int):=Y0v _ ⟨by omega,by omega⟩;have hkl2:=hk2.len;refine gd 41 ⟨?_⟩;by_cases hjl:j<l.length
 case neg =>
  refine Qo (Qz rfl (by omega)) ?_;refine go ?_;have hjl:j=l.length:=by omega
  rw [hjl,Y0q] at hcov
  refine⟨(r+1,k2),fun i=>i,⟨hrt,hpre2,hk2,fun j y hjr hy=>?_⟩,by show t.rs.length-(r+1)<t.rs.length-r; omega,fun _ _=>rfl,Zf,
   ⟨Qp hsr,Qt 0 0 0,Qp Yt,Qp Yt,⟨_,by show some _=some _; rw [hinc],.pure _ Yt⟩,Yt⟩,
   ⟨⟨by decide,_,rfl,Xw.single ⟨.own (ρ:=fun i=>i) 3 (by decide),.own (ρ:=fun i=>i) 4 (by decide),.pure _ Yt,Yt⟩ rfl⟩,Qs (Z1 _),Qs (Z1h _),Yt⟩⟩
  by_cases hjr2:j<r
  . exact (hex j y hjr2 hy).pre hpre3
  . obtain rfl : j = r := by omega
    rw [hxr] at hy; cases hy;intro S hS hg hs hho;have h1:=hbs S hS;rw [hg,hs,hho] at h1;obtain⟨c,hc,h2⟩:=Y01.1 (show soC l S=true from h1);exact hcov c hc S h2
 refine Qo (Qy rfl (Y1z.2 hjl)) ?_;have htk:=ZR hjl;have hcm:=Y0j hjl;refine gd 42 ⟨?_⟩;refine Qo (Zl (xs:=l) (g:=cuC) rfl rfl j rfl hjl rfl) ?_;generalize l[j]=c at htk hcm ⊢;obtain⟨hc1,hc2⟩:=hbi c hcm;have hc3:=hbn c hcm;have hadd:=Zec k2 hk2.c64 (by omega) (c,((r:Int),i)) (hc1.lt (by decide)) L;refine gd 49 ⟨?_⟩;refine ZcP hadd rfl rfl rfl rfl rfl rfl (by decide) (by decide) (by decide) Yt ⟨ZA _,⟨Yt,Yt,Yt⟩,Yt⟩ ⟨Yt,Yt⟩ (Z1 _) (Z1h _) ?_;rintro v b1' b2' - - - ⟨k3,rfl,rfl,ha⟩;have hst:∀ S,InS t S->hoC c S=true->Xq t S=true/\XB t x S=true/\hoC e.1 (X9 x S)=true:=fun S hS hc=>by
  have h1:=hbs S hS;have h2:soC l S=true:=Y01.2 ⟨c,hcm,hc⟩;rw [h2] at h1;have h1:=h1.symm;rw [Y0k,Y0k] at h1;exact h1
 obtain⟨p1,p2,p3,p4⟩:=ha.keep (t:=t) hk2 ⟨hc1,hc3,hc2⟩ (.inr ⟨r,i,x,e,rfl,hxr,Z2R hpre2 he,hst⟩);rcases p4 with rfl|⟨rfl,p4⟩
 . refine go ?_
   refine⟨(j+1,k3),fun i=>mv 3 6 (mv 4 7 i),⟨hjl,hpre2.trans p1,hpre3.trans p1,p2,?_⟩,by show l.length-(j+1)<l.length-j; omega,fun i hi=>X7A hi,Zq rfl,
    ⟨Qp hsr,Qt 0 0 0,Qp Yt,Qp Yt,Qp Yt,Qp Yt,Qp (Z1 _),Qp Yt,⟨_,by show some _=some _; rw [hjnc],.pure _ Yt⟩,Yt⟩,
    ⟨⟨by decide,_,rfl,Xw.single ⟨.own (ρ:=fun i=>mv 3 6 (mv 4 7 i)) 3 (by decide),.own (ρ:=fun i=>mv 3 6 (mv 4 7 i)) 4 (by decide),.pure _ Yt,Yt⟩ rfl⟩,Qs (Z1 _),Qs (Z1h _),Yt⟩⟩
   rw [htk];intro c' hc' S hS;rcases Y0h.1 hc' with hc' | hc'
   . exact Z9N p1 (hcov c' hc' S hS)
   . rw [Y0g] at hc'; subst hc'; exact p3 S hS
 . refine go ?_;exact⟨_,_,rfl,.inl rfl,6,7,_,_,by decide,by decide,by decide,rfl,rfl,rfl,Yt,Z1 _,Z1h _,k3,rfl,rfl,hpre2.trans p1,p2,.inr ⟨rfl,p4⟩⟩
inductive X5f (t:PB) (L:Int):PV->Prop
 | yes (p:List Nat) (hp:XY t p) (hl:p.length<=32):X5f t L (.tup [.vec (inL p) false,.vec [] true,.val (.bool true),.val (.int .i64 0)])
 | no (ks:List KE) (hk:X1R t ks):X5f t L (.tup [.vec [] true,.vec ((kcs ks).map cuC) false,.val (.bool false),.val (.int .i64 0)])
 | lim (hl:L<((2 ^ t.n:Nat):Int)):X5f t L (.tup [.vec [] true,.vec [] true,.val (.bool false),.val (.int .i64 3)])
theorem ZcR {t:PB} (h:Xo t) (hn:t.n<=5) (S:List Nat) (L:Int) (hL:1<=L):X7 Tryz.prog 67 [.agg (pbP t S),.val (.int .i64 L)] (X5f t L):=by
 have hpp:=ZC t S;have hsr:=Z5L t S;have h32:2 ^ t.n<=32:=YJ (n:=2) (by decide) hn;have hti:=ZlZ h;have htn:=ZmE t;have hts:=fun S (hS:InS t S)=>Zm0 h hS;have hte:∀ c∈X5y t,emC c=false:=fun c hc=>(Z35 hc).2;have htg:=ZaL h S;refine Yp ok67 fun C hC=>?_;refine Zm ?_;refine Z9 ?_;refine Z5 rfl rfl rfl ?_;refine gd 18 ⟨?_⟩;refine Qe (Z2i h S) ⟨hpp,Yt⟩ ?_;refine gd 23 ⟨?_⟩;refine Qo (Qz rfl (by omega)) ?_;refine gd 26 ⟨?_⟩;refine Qe (ZaM h S) ⟨hpp,Yt⟩ ?_;refine gd 34 ⟨?_⟩;refine Qe htg ⟨hpp,Yt⟩ ?_;generalize X5y t=l at hti htn hts hte ⊢;have hnl:(l.map cuC).length=l.length:=by simp
 refine gd 43 ⟨?_⟩;refine Za (ZO (id:=0) (i0:=0) (j0:=0) rfl (Y0 rfl) (Y0 rfl) rfl 2 (by decide) (by decide)) ?_;refine Za (ZO (id:=0) (i0:=0) (j0:=1) rfl (Y0 rfl) (Y0 rfl) rfl 2 (by decide) (by decide)) ?_;refine go ?_;refine Zv hC (fun (z:Nat×List KE)=>z.1<=l.length/\X26 t z.2/\X5v (l.take z.1) z.2) (fun z=>l.length-z.1) 3 (fun z => [(2,.cp (pbP t S)),(9,.cp (srC t S)),(11,.ptr 0 0 0),(43,.vec (l.map cuC) false),(44,.val (.int .i64 (l.length:Int))),(45,Yv z.1)])
  (fun z => [(0,⟨3,[[.own 1,.own 2,.val (.int .i64 L)]]⟩),(1,⟨2,(kcs z.2).map cuC⟩),(2,⟨2,z.2.map hwC⟩)]) (Y0l _) (0,[]) ⟨Y0l _,X26.nil t,fun c hc=>(by cases hc)⟩ (fun i=>i) (fun _ _=>rfl) Zf
  ⟨Qp hpp,Qp hsr,Qt 0 0 0,Qp (Z1 _),⟨_,by rw [<- hnl]; rfl,.pure _ Yt⟩,Qp Yt,Yt⟩
  ⟨⟨by decide,_,rfl,Xw.single ⟨.own (ρ:=fun i=>i) 1 (by decide),.own (ρ:=fun i=>i) 2 (by decide),.pure _ Yt,Yt⟩ rfl⟩,Qs Yt,Qs Yt,Yt⟩ ?_
 rintro⟨j,k1⟩ ⟨hj,hk1,hcov⟩;dsimp only at hj hk1 hcov ⊢;have hjnc:IntKind.i64.wrap ((j:Int)+1)=((j+1:Nat):Int):=Y0v _ ⟨by omega,by omega⟩;have hkl:=hk1.len;refine gd 46 ⟨?_⟩;by_cases hjl:j<l.length
 . refine Qo (Qy rfl (Y1z.2 hjl)) ?_;have htk:=ZR hjl;have hcm:=Y0j hjl;refine gd 47 ⟨?_⟩;refine Qo (Zl (xs:=l) (g:=cuC) rfl rfl j rfl hjl rfl) ?_;generalize l[j]=c at htk hcm ⊢;have hc1:=hti.1 c hcm;have hadd:=Zec k1 hk1.c64 (by omega) (c,((-1:Int),0)) (hc1.lt (by decide)) L;refine gd 52 ⟨?_⟩;refine ZcP hadd rfl rfl rfl rfl rfl rfl (by decide) (by decide) (by decide) Yt ⟨ZA _,⟨Yt,Yt,Yt⟩,Yt⟩ ⟨Yt,Yt⟩ (Z1 _) (Z1h _) ?_;rintro v b1' b2' - - - ⟨k2,rfl,rfl,ha⟩;have hst:∀ S,InS t S->hoC c S=true->Xq t S=true/\Xp t S=true:=fun S hS hc=>by
    have h1:=hts S hS;rw [show soC l S=true from Y01.2 ⟨c,hcm,hc⟩] at h1;have h1:=h1.symm;rw [Y0k] at h1;exact h1
   obtain⟨p1,p2,p3,p4⟩:=ha.keep (t:=t) hk1 ⟨hc1,htn c hcm,hte c hcm⟩ (.inl ⟨rfl,hst⟩);rcases p4 with rfl|⟨rfl,p4⟩
   . refine go ?_
     refine⟨(j+1,k2),fun i=>mv 1 4 (mv 2 5 i),⟨hjl,p2,?_⟩,by show l.length-(j+1)<l.length-j; omega,fun i hi=>absurd hi (Ye i),Zq rfl,
      ⟨Qp hpp,Qp hsr,Qt 0 0 0,Qp (Z1 _),Qp Yt,⟨_,by show some _=some _; rw [hjnc],.pure _ Yt⟩,Yt⟩,
      ⟨⟨by decide,_,rfl,Xw.single ⟨.own (ρ:=fun i=>mv 1 4 (mv 2 5 i)) 1 (by decide),.own (ρ:=fun i=>mv 1 4 (mv 2 5 i)) 2 (by decide),.pure _ Yt,Yt⟩ rfl⟩,Qs (Z1 _),Qs (Z1h _),Yt⟩⟩
     rw [htk];intro c' hc' S hS;rcases Y0h.1 hc' with hc' | hc'
     . exact Z9N p1 (hcov c' hc' S hS)
     . rw [Y0g] at hc'; subst hc'; exact p3 S hS
   . refine go ?_;have:=p2.len;exact Z8 rfl ⟨Yt,Yt,Yt,Yt,Yt⟩ (.lim (by omega))
 have hjl:j=l.length:=by omega
 rw [hjl,Y0q] at hcov;have htin:X3L t k1:=fun S hS hg hr=>by
  have h1:=hts S hS;rw [hg,hr] at h1;obtain⟨c,hc,h2⟩:=Y01.1 (show soC l S=true from h1);exact hcov c hc S h2
 refine Qo (Qz rfl (by omega)) ?_;clear hcov hts;refine go ?_;refine Zv hC (fun (z:Nat×List KE)=>z.1<=z.2.length/\X26 t z.2/\X3L t z.2/\∀ i e,i<z.1->z.2[i]?=some e->X5O t e.1 z.2/\hoC e.1 t.st=false) (fun z=>2 ^ t.n-z.1) 3 (fun z => [(2,.cp (pbP t S)),(9,.cp (srC t S)),(11,.ptr 0 0 0),(15,Yv z.1)])
  (fun z => [(0,⟨3,[[.own 1,.own 2,.val (.int .i64 L)]]⟩),(1,⟨2,(kcs z.2).map cuC⟩),(2,⟨2,z.2.map hwC⟩)]) (Y0l _) (0,k1) ⟨Y0l _,hk1,htin,fun i e hi=>absurd hi (Ye i)⟩ (fun i=>i) (fun _ _=>rfl) Zf
  ⟨Qp hpp,Qp hsr,Qt 0 0 0,Qp Yt,Yt⟩
  ⟨⟨by decide,_,rfl,Xw.single ⟨.own (ρ:=fun i=>i) 1 (by decide),.own (ρ:=fun i=>i) 2 (by decide),.pure _ Yt,Yt⟩ rfl⟩,Qs (Z1 _),Qs (Z1h _),Yt⟩ ?_
 clear hk1 htin hkl hjnc;rintro⟨i,ks⟩ ⟨hi,hk,htin,hex⟩;dsimp only at hi hk htin hex ⊢;have hkl:=hk.len;have hinc:IntKind.i64.wrap ((i:Int)+1)=((i+1:Nat):Int):=Y0v _ ⟨by omega,by omega⟩;have hcl:((kcs ks).map cuC).length=ks.length:=by simp [kcs]
 refine gd 63 ⟨?_⟩;by_cases hil:i<ks.length
 case neg =>
  refine Za (Zx (ob:=0) (id:=1) (i0:=0) (j0:=0) rfl rfl (by decide) (Z1 _) (Y0 rfl) (Y0 rfl) rfl) ?_;refine Qo (Qz rfl (by rw [hcl];omega)) ?_;refine go ?_;refine Z8 rfl ⟨Yt,Z1 _,Yt,Yt,Yt⟩ (.no ks ⟨hk,htin,fun e he=>?_,?_⟩)
  . obtain ⟨m, hm, rfl⟩ := Y19.1 he;exact (hex m _ (by omega) (Y0c hm)).1
  . refine Yy.2 fun hso => ?_;obtain⟨c,hc,hho⟩:=Y01.1 hso;obtain⟨e,he,rfl⟩:=Y0i.1 hc;obtain⟨m,hm,rfl⟩:=Y19.1 he;rw [(hex m _ (by omega) (Y0c hm)).2] at hho;cases hho
 refine Qo (Qy rfl (by rw [hcl];omega)) ?_;obtain⟨e,he⟩:∃ e,ks[i]?=some e:=⟨_,Y0c hil⟩
 obtain⟨g1,g2⟩:=ZhJ he;have hem:=hk.mem e (YG he);have hst64:=InS.lt h.n.2 (show InS t t.st from h.st);refine gd 71 ⟨?_⟩;refine Qr (ZF (k:=.i64) rfl rfl rfl i rfl g2 rfl) ?_;refine Qr (Z1v (p:=cuP e.1) rfl rfl g2 (by show X17 true 2 0 (((kcs ks).map cuC).getD i [])=_; rw [g1]; rfl)) ?_;refine gd 75 ⟨?_⟩;refine Qd (Z57 e.1 t.st (hem.1.lt (by decide)) hst64) ⟨ZA _,Z2 _,Yt⟩ ?_;cases hho:hoC e.1 t.st
 case true =>
  obtain⟨p,hp⟩:=hk.path (i+1) i (Y2R _) hil;have hpl:=hp.len hk;have hpo:=hk.plan h he hho hp;refine gd 76 ⟨?_⟩;refine Za (Zx (ob:=0) (id:=1) (i0:=0) (j0:=0) rfl rfl (by decide) (Z1 _) (Y0 rfl) (Y0 rfl) rfl) ?_;refine Za (Zx (ob:=0) (id:=2) (i0:=0) (j0:=1) rfl rfl (by decide) (Z1h _) (Y0 rfl) (Y0 rfl) rfl) ?_;refine Za (Z1s (k:=11) (l:=kpC ks L) rfl rfl (Z9U ks L)) ?_;refine gd 78 ⟨?_⟩;refine Qe (ZhI hn hk L hp) ⟨Z9U ks L,Yt,Yt⟩ ?_;refine go ?_;exact Z8 rfl ⟨Zs _,Yt,Yt,Yt,Yt⟩ (.yes p hpo (by omega))
 have hexp:=ZcQ h hn S hk i e he L;refine gd 82 ⟨?_⟩;refine ZcP hexp rfl rfl rfl rfl rfl rfl (by decide) (by decide) (by decide) ⟨hsr,Yt⟩ ⟨Yt,Yt⟩ ⟨Yt,Yt⟩ (Z1 _) (Z1h _) ?_;rintro v b1' b2' - - - ⟨k2,rfl,rfl,p1,p2,p3⟩;rcases p3 with⟨rfl,p3⟩|⟨rfl,p3⟩
 . refine go ?_;have:=p2.len;have:=p1.length_le
   refine⟨(i+1,k2),fun i=>mv 1 13 (mv 2 14 i),⟨by show i+1<=k2.length; omega,p2,htin.pre p1,fun m e' hm he'=>?_⟩,by show 2 ^ t.n-(i+1)<2 ^ t.n-i; omega,fun i hi=>absurd hi (Ye i),Zq rfl,
    ⟨Qp hpp,Qp hsr,Qt 0 0 0,⟨_,by show some _=some _; rw [hinc],.pure _ Yt⟩,Yt⟩,
    ⟨⟨by decide,_,rfl,Xw.single ⟨.own (ρ:=fun i=>mv 1 13 (mv 2 14 i)) 1 (by decide),.own (ρ:=fun i=>mv 1 13 (mv 2 14 i)) 2 (by decide),.pure _ Yt,Yt⟩ rfl⟩,Qs (Z1 _),Qs (Z1h _),Yt⟩⟩
   by_cases hmi:m<i
   . have := hex m e' hmi (pre_get' p1 he' (by omega));exact⟨this.1.pre p1,this.2⟩
   . obtain rfl : m = i := by omega
     rw [Z2R p1 he] at he';cases he';exact⟨p3,hho⟩
 . refine go ?_;have:=p2.len;exact Z8 rfl ⟨Yt,Yt,Yt,Yt,Yt⟩ (.lim (by omega))
section
variable {P:Program} {e:Env} {h:X2} {n:Nat}
end
theorem Z6h (l:List Int) (N:Nat) (h:X1v (X1p l) l=N) (fl:Bool):X7 Tryz.prog 12 [.vec (XJ l) fl] (· = XG N):=h▸ZbU l fl
theorem Zb3:XN ([]:List Pr):=fun p hp=>by cases hp
theorem Zke {a b:Nat} (h:Up [] a b):False:=by
 cases h with
 | one h=>cases h
 | more _ h=>cases h
def rsE:List RU := [⟨false,(0,0),1,0⟩,⟨false,(2,0),2,0⟩,⟨true,(0,0),1,0⟩]
def tE (nv:List Cu):PB:=⟨3,[],0,rsE,nv,[(4,2)]⟩
def t0:PB:=tE []
def t1:PB:=tE [(6,0)]
theorem ZhK (r:Nat):sen [] r=2 ^ r:=YE fun a=>by
 rw [YQ,Z4e Zb3,YI,Y0n];exact⟨fun h=>h.elim (fun h=>(Zke h).elim) Eq.symm,fun h=>.inr h.symm⟩
def X4t (s:Nat):Nat:=((List.range 64).find? fun i=>s.testBit i).getD 0
def mOf (d:ND):Nat:=X4i d.so ||| X4i d.no
def X8c (sn:Nat->Nat) (d:ND) (o:Nat) (l:List Nat):Nat:=l.foldl (fun o r=>if d.cl then o ||| sn r else o) o
def X8V (sn:Nat->Nat) (ds:List ND):Nat:=ds.foldl (fun o d=>X8c sn d (o ||| mOf d) (mem (mOf d))) 0
def X80 (cl:Nat->Nat) (ds:List ND) (lo hi:Nat):Nat:=ds.foldl (fun a d=>min a (X8w cl d lo hi)) 2
def X7w (cl:Nat->Nat) (ds:List ND):Nat->Nat->Nat->Option Nat
 | 0,_,_=>none
 | f + 1, left, s =>
   if X80 cl ds s (s ||| left)=2 then some s else if X80 cl ds s (s ||| left)=0 then none else if left=0 then none else
    match X7w cl ds f (Xg left (2 ^ X4t left)) s with
    | some o=>some o
    | none=>X7w cl ds f (Xg left (2 ^ X4t left)) (s ||| 2 ^ X4t left)
def X44 (cl sn:Nat->Nat) (n:Nat) (ds:List ND):Option Nat:=X7w cl ds 65 (X8V sn ds &&& (2 ^ (n+1)-1)) 0
noncomputable def X5l (t:PB) (s:Nat) (k:Int):Option Nat:=if 0<=k then (match t.rs[k.toNat]? with|some r=>if XB t r s then some (X9 r s) else none|none=>none) else none
section
variable {P:Program} {C:Ctx} {e:Env} {h:X2} {n:Nat} {Q:Exit->Nat->Env->X2->Prop}
end
theorem ZjD:∀ r:Nat,r<64->X1v (X1p [(r:Int)]) [(r:Int)]=2 ^ r:=by decide +kernel
theorem Zft (r:Nat) (hr:r<64) (fl:Bool):X7 Tryz.prog 12 [.vec [[.val (.int .i64 (r:Int))]] fl] (· = XG (2 ^ r)):=ZjD r hr▸ZbU [(r:Int)] fl
def X6o (n:Nat):Nat:=2 ^ (n+1)-1
def X4M (n:Nat) (l:List Cu):Bool := !(X4i l).testBit 0&&decide (X4i l ||| X6o n=X6o n)
abbrev Fd:=Nat×Nat×Nat
noncomputable def X3f (t:PB):Nat->List Nat->Nat->Fd
 | s,[],_=>if Xp t s then (1,0,0) else (5,0,0)
 | s, k :: p, i => match X5l t s (k : Int) with
   | some o=>X3f t o p (i+1)
   | none=>(4,i,k)
def X7J (t:PB) (l:List Cu) (fl:Bool):List ND := [⟨true,false,false,0,[],t.nv,true,false⟩,⟨true,false,true,0,t.gl,[],false,true⟩,⟨false,false,false,0,[],l,true,fl⟩]
def X8a (t:PB) (l:List Cu) (fl:Bool) (c:Cu) (r:RU):List ND := [⟨true,false,false,0,[],t.nv,true,false⟩,⟨false,false,false,0,[],l,true,fl⟩,⟨false,false,true,0,[if r.rev then (2 ^ r.tg,0) else (0,2 ^ r.tg)],[],true,true⟩,⟨true,false,true,0,[r.cu],[],true,true⟩,⟨true,r.rev,false,r.tg,[],t.nv,true,false⟩,⟨false,r.rev,true,r.tg,[c],[],false,true⟩]
noncomputable def X7q (t:PB) (l:List Cu) (fl:Bool):Option Nat:=X44 (clo t.l) (sen t.l) t.n (X7J t l fl)
noncomputable def X7Q (t:PB) (l:List Cu) (fl:Bool) (c:Cu) (r:RU):Option Nat:=X44 (clo t.l) (sen t.l) t.n (X8a t l fl c r)
def X5h (e:Nat->Bool):Nat->Nat->Option Nat
 | 0,_=>none
 | c+1,k=>if e k then some k else X5h e c (k+1)
def X5X (e:Nat->Nat->Bool) (m:Nat):Nat->Nat->Option (Nat×Nat)
 | 0,_=>none
 | c + 1, i => match X5h (e i) m 0 with
   | some k=>some (i,k)
   | none=>X5X e m c (i+1)
def cu0 (l:List Cu) (i:Nat):Cu:=l.getD i (0,0)
def ru0 (l:List RU) (k:Nat):RU:=l.getD k ⟨false,(0,0),0,0⟩
noncomputable def X7o (t:PB) (l:List Cu) (fl:Bool) (i k:Nat):Bool:=(X7Q t l fl (cu0 l i) (ru0 t.rs k)).isSome
def X6p:Option (Nat×Nat)->Fd
 | some (i,k)=>(8,i,k)
 | none=>(1,0,0)
noncomputable def X3N (t:PB) (l:List Cu) (fl:Bool):Fd :=
 match X5h (fun i=>hoC (cu0 l i) t.st) l.length 0 with
 | some i=>(6,i,0)
 | none=>if (X7q t l fl).isSome then (7,0,0) else X6p (X5X (X7o t l fl) t.rs.length l.length 0)
theorem ZmY {n i mask id:Nat} {P:Program} {e:Env} {h:X2} {d:Option Nat} {f:Operand} {as0:List Operand} {iso:Nat} {alt:Bool} {xs:List Xd} {K:Env->X2->Prop} {g:FuncId} {caps as1:List PV} {args:Nat->List PV} {b:Bx} {R:PV->Bx->Prop} (hs:X2n P g args b R) (hm:MkL args) (hf:ev e f=some (.fn g caps)) (ha:evs e as0=some as1) (hr:as1++caps=args id) (hb:h id=some b) (hpb:X1 b.elems)
 (hk:∀ r b',r.pure->X1 b'.elems->R r b'->dK P (.to id) n xs (XC e d r) (h.upd id b') K):dK P (.to id) n (⟨i,⟨d,.call f as0,none⟩,mask,iso,alt⟩ :: xs) e h K:=by
 unfold dK;refine⟨_,.callP rfl f as0 rfl id rfl b hb R ⟨g,caps,as1,hf,ha,by rw [hr]; exact hs.prun hm hpb id⟩,?_⟩;rintro p' f' ⟨b',rfl,h1,h2,h3⟩;exact hk p' b' h1 h2 h3
def HS.zero (t:Nat):HS:=⟨List.replicate 25 0,List.replicate 136 0,0,t⟩
theorem ZhL (t:Nat):HOk (HS.zero t):=⟨rfl,fun w hw=>by rw [Y1q hw]; decide,rfl,fun w hw=>by rw [Y1q hw]; decide,by show 0<136; decide⟩
theorem ZcS:X1y Tryz.prog 172 [] (fun i=>.ptr i 0 0) (hBx (HS.zero 0)):=by
 refine Z1A ok172 (Y0 rfl) fun C hC=>?_;refine go ?_;exact⟨_,_,rfl,.inl rfl,_,rfl,by show some _=some _; kernel_rfl⟩
theorem Zle (h0:HS) (hh0:HOk h0) (p:List Nat) (fl0:Bool) (hp:W8 p) (hlen:h0.total+p.length<1000000000000):X2l Tryz.prog 173 (hBx h0) [.vec (bys p) fl0] (fun r b'=>b'=hBx (HS.puts (p.length+1) ⟨h0.st,h0.bl,h0.used,h0.total+p.length⟩ p)):=by
 refine Z1R ok173 (Y0 rfl) fun C hC=>?_;have hbl:∀ l:List Nat,(bys l).length=l.length:=fun l=>by simp [bys]
 have hC0:=Z8T (u:=.val (.int .i64 (h0.used:Int))) (t:=.val (.int .u64 (h0.total:Int))) hh0.sl hh0.bl;refine gd 10 ⟨?_⟩;refine Qo (Z87 (l:=Xx h0.st h0.bl (.val (.int .i64 (h0.used:Int))) (.val (.int .u64 (h0.total:Int)))) rfl rfl (by rw [hC0]; decide) (ZmX hh0.sl hh0.bl)) ?_;refine gd 13 ⟨?_⟩;refine Ze (v:=(p.length:Int)) rfl rfl rfl (by rw [hbl]; exact Y0x _ ⟨by omega,by omega⟩) ?_;refine Ze (v:=((h0.total+p.length:Nat):Int)) rfl rfl rfl (Y0x _ ⟨by omega,by omega⟩) ?_
 iterate 2 (first|refine st ?_|(apply B<;>intro hb<;>try cases hb))
 refine Qo (Zld (l:=Xx h0.st h0.bl (.val (.int .i64 (h0.used:Int))) (.val (.int .u64 (h0.total:Int)))) rfl rfl rfl (by decide) (Zlb hh0.sl hh0.bl _)) ?_;have hh1:HOk ⟨h0.st,h0.bl,h0.used,h0.total+p.length⟩:=⟨hh0.sl,hh0.sw,hh0.bl,hh0.bw,hh0.us⟩
 generalize hX0:(⟨h0.st,h0.bl,h0.used,h0.total+p.length⟩:HS)=X0 at hh1;generalize hfin:HS.puts (p.length+1) X0 p=fin;refine go ?_;refine Zz hC (fun x:HS×List Nat×Bool=>HOk x.1/\W8 x.2.1/\x.2.1.length<=p.length/\HS.puts (p.length+1) x.1 x.2.1=fin) (fun x=>x.2.1.length) 1 (fun x => [(0,.ptr 0 0 0),(1,.vec (bys x.2.1) x.2.2)]) (fun x => [(0,hBx x.1)]) (by decide) (X0,p,fl0) ⟨hh1,hp,Y0m _,hfin⟩
  ⟨⟨rfl,show 0<1 by decide⟩,⟨rfl,Zcm _ _⟩,Yt⟩ ⟨⟨by decide,by rw [<- hX0]; rfl,Z6g _ _⟩,Yt⟩ ?_
 rintro⟨x,q,fl⟩ ⟨hx,hq,hql,hqf⟩;dsimp only at hx hq hql hqf;have hCx:=fun (u t:PV)=>Z8T (u:=u) (t:=t) hx.sl hx.bl;have hus:=hx.us;have hbq:=hbl q;refine gd 19 ⟨?_⟩;by_cases hq0:q.length=0
 . refine Qo (Qz rfl (by show ¬ (((bys q).length : Int) > 0); omega)) ?_;rw [Z7R hq0] at hqf;subst hqf;refine go ?_;exact⟨_,_,rfl,.inl rfl,_,rfl,Yt,Z3P _,rfl⟩
 . refine Qo (Qy rfl (by show ((bys q).length : Int) > 0; omega)) ?_;rw [ZhB hx hq hq0 (by omega)] at hqf;have hput:=Zkd x q;have hpok:=Zea hx hq;have hnl:=Z9T hx q;have hnw:=Ze9 hx hq;have hcp:=Zlc (u:=.val (.int .i64 (x.used:Int))) (t:=.val (.int .u64 (x.total:Int))) hx.sl hx.bl hus q;change _=Xx x.st (X3Y x q) _ _ at hcp;generalize hnn:min q.length (136-x.used)=nn at hqf hput;have hCn:=fun (u t:PV)=>Z8T (u:=u) (t:=t) hx.sl hnl;refine gd 26 ⟨?_⟩;refine Qr (Z87 (l:=Xx x.st x.bl (.val (.int .i64 (x.used:Int))) (.val (.int .u64 (x.total:Int)))) rfl rfl (by rw [hCx]; decide) (Zmf hx.sl hx.bl)) ?_;refine Qr (ZjB rfl x.used 136 rfl rfl (by omega) (by omega) (by omega)) ?_;refine gd 29 ⟨?_⟩;refine Qr (ZmJ (l:=Xx x.st x.bl (.val (.int .i64 (x.used:Int))) (.val (.int .u64 (x.total:Int)))) rfl rfl rfl (by omega) hcp) ?_;rw [hnn];refine gd 32 ⟨?_⟩;refine Qo (Zgc (xs:=q) (g:=fun (x:Nat) => [.val (.int .u8 (x:Int))]) rfl nn q.length rfl (by show some ((List.map (fun (x:Nat) => [PV.val (.int .u8 (x:Int))]) q).length:Int)=_; rw [Y0f]) (by omega) (Y0m _) (fun _=>rfl)) ?_;rw [Y0q];refine gd 36 ⟨?_⟩;refine Qo (Z87 (l:=Xx x.st (X3Y x q) (.val (.int .i64 (x.used:Int))) (.val (.int .u64 (x.total:Int)))) rfl rfl (by rw [hCn]; decide) (Zmf hx.sl hnl)) ?_;refine gd 38 ⟨?_⟩;refine Ze (v:=((x.used+nn:Nat):Int)) rfl rfl rfl (wi (x.used+nn) (by omega)) ?_
   iterate 2 (first|refine st ?_|(apply B<;>intro hb<;>try cases hb))
   refine Qo (Zld (l:=Xx x.st (X3Y x q) (.val (.int .i64 (x.used:Int))) (.val (.int .u64 (x.total:Int)))) rfl rfl rfl (by decide) (ZhD hx.sl hnl _)) ?_;refine gd 44 ⟨?_⟩;refine Qo (Z87 (l:=Xx x.st (X3Y x q) (.val (.int .i64 ((x.used+nn:Nat):Int))) (.val (.int .u64 (x.total:Int)))) rfl rfl (by rw [hCn]; decide) (Zmf hx.sl hnl)) ?_;by_cases h136:x.used+nn=136
   . refine Qo (Qy rfl (by rw [h136]; rfl)) ?_;rw [Y6 h136] at hput
     repeat' (first|refine Zdl [] 0 (by decide) ?_|refine Z9d 52 ?_|(first|refine st ?_|(apply B<;>intro hb<;>try cases hb)))
     refine At.mk ?_;refine Qr (ZjB rfl 0 136 rfl rfl (by decide) (by decide) (by decide)) ?_;refine ZmY (Zjz x.st (X3Y x q) hx.sl hx.sw hnl hnw [.val (.int .i64 ((x.used+nn:Nat):Int)),.val (.int .u64 (x.total:Int))] ⟨Yt,Yt,Yt⟩) (Z6V (Z7I 0 0) (Z6V (Zm4 0 25 136 136) ZcG)) rfl rfl rfl rfl ⟨ZhE Yt Yt,Yt⟩ ?_;rintro r b' hr1 hr2 rfl;refine gd 56 ⟨?_⟩;(first|refine st ?_|(apply B<;>intro hb<;>try cases hb));refine Qo (Zld (l:=Xx (X1V x.st (X3Y x q)) (X3Y x q) (.val (.int .i64 ((x.used+nn:Nat):Int))) (.val (.int .u64 (x.total:Int)))) rfl rfl rfl (show 161+1<=163 by decide) (ZhD (Z6f hx.sl) hnl _)) ?_;refine go ?_;exact⟨(x.put q,q.drop nn,false),⟨hpok,hq.sub fun x hx=>Y1j hx,by show (q.drop nn).length<=_; rw [YV]; omega,hqf⟩,by show (q.drop nn).length<q.length; rw [YV]; omega,⟨⟨rfl,show 0<1 by decide⟩,⟨rfl,Zcm _ _⟩,Yt⟩,⟨⟨by decide,by show _=some (hBx (x.put q)); rw [hput]; rfl,Z6g _ _⟩,Yt⟩⟩
   . refine Qo (Qz rfl (by omega)) ?_;rw [Y8 h136] at hput;refine go ?_;exact⟨(x.put q,q.drop nn,false),⟨hpok,hq.sub fun x hx=>Y1j hx,by show (q.drop nn).length<=_; rw [YV]; omega,hqf⟩,by show (q.drop nn).length<q.length; rw [YV]; omega,⟨⟨rfl,show 0<1 by decide⟩,⟨rfl,Zcm _ _⟩,Yt⟩,⟨⟨by decide,by show _=some (hBx (x.put q)); rw [hput]; rfl,Z6g _ _⟩,Yt⟩⟩
theorem ZhM (kd:IntKind) (l:List Nat) (n:Nat):(Xi kd l).take n=Xi kd (l.take n):=by unfold Xi; rw [Y2r]
theorem ZhN (kd:IntKind) (l:List Nat) (n:Nat):(Xi kd l).drop n=Xi kd (l.drop n):=by unfold Xi; rw [Y3G]
theorem ZjE (kd:IntKind) (l m:List Nat):Xi kd (l++m)=Xi kd l++Xi kd m:=by unfold Xi; rw [Y0r]
section
variable {e:Env} {h:X2} {n k:Nat} {Eb:Nat}
theorem Z4V {a:Operand} {l r:List PV} {off size:Nat} (ha:ev e a=some (.ptr k 0 off)) (hb:h k=some ⟨Eb,[l]⟩) (hl:off+size<=l.length) (hv:(l.drop off).take size=r):X3 (.load true size a) e h n=some (.agg r,h):=by
 subst hv;exact Z1v ha hb Y1M (by show X17 true size off l=_; unfold X17; rw [Y6 hl])
theorem Z5d {a v:Operand} {l r:List PV} {size:Nat} (ha:ev e a=some (.ptr k 0 0)) (hv:ev e v=some (.agg r)) (hb:h k=some ⟨size,[l]⟩) (hr:r.length=size) (hl:l.length=size):X3 (.store size a v) e h n=some (pvu,h.upd k ⟨size,[r ++ []]⟩):=by
 have h1:=Z1Q (n:=n) (size:=size) ha hv hb rfl hr Y1M (by show 0+size<=size;omega);rw [h1];have e1:Xl l 0 r=r ++ []:=by
  unfold Xl;rw [Y1r,Y1e,Y1G (by omega)]
 show some (pvu,h.upd k ⟨size,[Xl l 0 r]⟩)=_;rw [e1]
theorem Zmg {d s:Operand} {k2 Eb2 o o2 len len2 cap cap2:Nat} {l l2 l':List PV} (hd:ev e d=some (.sl k 0 o len cap)) (hs:ev e s=some (.sl k2 0 o2 len2 cap2)) (hb:h k=some ⟨Eb,[l]⟩) (hb2:h k2=some ⟨Eb2,[l2]⟩) (hE:o+len<=Eb) (hE2:o2+len2<=Eb2) (hl:Xl l o (((l2.drop o2).take len2).take len)=l'):X3 (.copy 1 d s) e h n=some (.val (.int .i64 ((min len2 len:Nat):Int)),h.upd k ⟨Eb,[l']⟩):=by
 subst hl;simp only [X3,hd,hs,hb,hb2];rw [Y6 ⟨Yt,show 0<1 by decide,hE,show 0<1 by decide,hE2⟩]
 rfl
end
theorem Z2f {e:Env} {h:X2} {a size:Nat} {r:PV} (hd:X3 (.load true size (.tmp a)) e h 0=some (r,h)):XZ [.cell a true size] e h=some r:=by
 simp [XZ,X3k,X6a,hd]
def X2a (h:HS):List Nat:=h.bl.take h.used++List.replicate (136-h.used) 0
theorem Zb4 {h:HS} (hh:HOk h):(X2a h).length=136:=by
 have h1:=hh.bl;have h2:=hh.us;simp only [X2a,Y0e,Y0o,Y37];omega
theorem ZhO {h:HS} (hh:HOk h):W8 (X2a h):=fun x hx=>by
 rcases Y0h.1 hx with h1|h1
 . exact hh.bw x (YM h1)
 . rw [Y1q h1]; decide
theorem W8.set {l:List Nat} (h:W8 l) {i x:Nat} (hx:x<256):W8 (l.set i x):=fun w hw=>by
 rcases Y2O hw with hw|rfl
 . exact h w hw
 . exact hx
theorem Z9V (h:HS):X37 h.bl h.used=((X2a h).set h.used 6).set 135 (g0 ((X2a h).set h.used 6) 135 ^^^ 128):=rfl
theorem Zlf {a b:Nat} (ha:a<256) (hb:b<256):a ^^^ b<256:=Y4b (n:=8) ha hb
theorem ZhP {h:HS} (hh:HOk h):(X37 h.bl h.used).length=136:=by rw [Z9V,Y18,Y18,Zb4 hh]
theorem ZhQ {h:HS} (hh:HOk h):W8 (X37 h.bl h.used):=by
 rw [Z9V];have h1:W8 ((X2a h).set h.used 6):=(ZhO hh).set (by decide);exact h1.set (Zlf (h1.g _) (by decide))
theorem ZhR {h:HS} (hh:HOk h) (u t:PV):Xl (Xi .u8 (List.replicate 136 0)) 0 ((((Xx h.st h.bl u t).drop 25).take h.used).take 136)=Xi .u8 (X2a h) ++ []:=by
 have h1:=hh.bl;have h2:=hh.us;have hst:(Xi .u64 h.st).length=25:=by rw [ZI,hh.sl]
 have e1:(((Xx h.st h.bl u t).drop 25).take h.used).take 136=Xi .u8 (h.bl.take h.used):=by
  unfold Xx;rw [Y2x,hst,Y1G (by omega),show 25-25=0 by decide,Y12,Y1e,Y2S,ZI,show h.used-h.bl.length=0 by omega,Y1r,Y0p,Y3w,Nat.min_eq_right (by omega),ZhM]
 rw [e1];unfold Xl;rw [Y1r,Y1e,ZI,Y0o,show min h.used h.bl.length=h.used by omega,Y15,ZhN,List.drop_replicate,<- ZjE,Y0p]
 rfl
def X3n (st:List Nat) (i:Nat):List Nat:=(List.range 32).map fun k=>if k<i then X63 st k else 0
theorem Z4r (st:List Nat) (i:Nat):(X3n st i).length=32:=by simp [X3n]
theorem Zfu (st:List Nat) {i:Nat} (h:i<32):(X3n st i).set i (X63 st i)=X3n st (i+1):=by
 refine Z6e (by rw [Y18,Z4r,Z4r]) fun x hx=>?_;rw [Y18,Z4r] at hx;rw [Zhy,Z4r];unfold X3n;rw [Z4o _ hx,Z4o _ hx];by_cases h1:x=i
 . subst h1; rw [Y6 ⟨rfl,h⟩,Y6 (by omega)]
 . rw [Y8 (by omega)];by_cases h2:x<i
   . rw [Y6 h2,Y6 (by omega)]
   . rw [Y8 h2,Y8 (by omega)]
theorem ZhS (st:List Nat):X3n st 32=(List.range 32).map (X63 st):=Y2s fun x hx=>by rw [Y6 (Y1x.1 hx)]
def X3M (h:HS):List Nat:=(List.range 32).map (X63 (X1V h.st (X37 h.bl h.used)))
theorem ZmK (x:HS) (hx:HOk x):X2l Tryz.prog 174 (hBx x) [] (fun r b'=>r=.agg (Xi .u8 (X3M x))/\b'=hBx x):=by
 refine Z1R ok174 (Y0 rfl) fun C hC=>?_;have hCx:=fun (u t:PV)=>Z8T (u:=u) (t:=t) hx.sl hx.bl;have hus:=hx.us;have hl0:=Zb4 hx;have hw0:=ZhO hx;refine gd 13 ⟨?_⟩
 refine Qo (Z4V (l:=Xx x.st x.bl (.val (.int .i64 (x.used:Int))) (.val (.int .u64 (x.total:Int)))) (r:=Xi .u64 x.st) rfl rfl (by rw [hCx]; decide) (by
  unfold Xx
  rw [Y12,Y2S,ZI,hx.sl,Y1W,Y1r,Y0p,YA (by rw [ZI,hx.sl]; exact Y0m _)])) ?_
 (first|refine st ?_|(apply B<;>intro hb<;>try cases hb));refine Qo (Z5d (l:=Xi .u64 (List.replicate 25 0)) rfl rfl rfl (by rw [ZI,hx.sl]) rfl) ?_;refine gd 21 ⟨?_⟩;refine Qr (Z87 (l:=Xx x.st x.bl (.val (.int .i64 (x.used:Int))) (.val (.int .u64 (x.total:Int)))) rfl rfl (by rw [hCx]; decide) (Zmf hx.sl hx.bl)) ?_;refine Qr (ZjB rfl 0 x.used rfl rfl (by omega) (by omega) (by omega)) ?_;refine Qr (Zmg (l:=Xi .u8 (List.replicate 136 0)) (l2:=Xx x.st x.bl (.val (.int .i64 (x.used:Int))) (.val (.int .u64 (x.total:Int)))) rfl rfl rfl rfl (by decide) (by show 25+0+(x.used-0)<=163;omega) (ZhR hx _ _)) ?_;refine gd 27 ⟨?_⟩;refine Qo (Z87 (l:=Xx x.st x.bl (.val (.int .i64 (x.used:Int))) (.val (.int .u64 (x.total:Int)))) rfl rfl (by rw [hCx]; decide) (Zmf hx.sl hx.bl)) ?_;refine Qo (Z3e rfl rfl x.used rfl (by omega)) ?_;refine Qo (Z9Q (kd:=.u8) (L:=X2a x) (x:=6) (Eb:=136) (pre := []) (post := []) (o:=0) rfl rfl rfl rfl (by omega) (by omega)) ?_;have hs1:((X2a x).set x.used 6).length=136:=by rw [Y18]; exact hl0
 have hs2:W8 ((X2a x).set x.used 6):=hw0.set (by decide);refine gd 30 ⟨?_⟩;refine Qo (Z3V (kd:=.u8) (L:=(X2a x).set x.used 6) (pre := []) (post := []) (o:=0) (j:=135) rfl rfl rfl (by omega)) ?_;refine Ze (v:=((g0 ((X2a x).set x.used 6) 135 ^^^ 128:Nat):Int)) rfl rfl rfl (u8_xor_nat _ 128 (hs2.g _) (by decide)) ?_;(first|refine st ?_|(apply B<;>intro hb<;>try cases hb));refine Qo (Z9Q (kd:=.u8) (L:=(X2a x).set x.used 6) (x:=g0 ((X2a x).set x.used 6) 135 ^^^ 128) (Eb:=136) (pre := []) (post := []) (o:=0) (j:=135) rfl rfl rfl rfl (by omega) (by omega)) ?_;rw [<- Z9V]
 iterate 1 (first|refine st ?_|(apply B<;>intro hb<;>try cases hb))
 refine Z76 hC (n':=4) [(2,.ptr 1 0 0),(3,.ptr 2 0 0),(4,.ptr 3 0 0)] [(0,hBx x),(1,⟨32,[Xi .u8 (List.replicate 32 0)]⟩),(2,⟨25,[Xi .u64 x.st ++ []]⟩),(3,⟨136,[Xi .u8 (X37 x.bl x.used) ++ []]⟩)] (by decide)
  ⟨⟨rfl,show 1<4 by decide⟩,⟨rfl,show 2<4 by decide⟩,⟨rfl,show 3<4 by decide⟩,Yt⟩ ⟨⟨by decide,rfl,Z6g _ _⟩,⟨by decide,by kernel_rfl,Zd (fun _ h=>h.elim) _ (show X1 [Xi .u8 (List.replicate 32 0)] from ⟨ZN _ _,Yt⟩)⟩,⟨by decide,rfl,X1t Yt⟩,⟨by decide,rfl,X1t Yt⟩,Yt⟩ ?_
 iterate 2 (first|refine st ?_|(apply B<;>intro hb<;>try cases hb))
 refine Qo (ZjB rfl 0 136 rfl rfl (by decide) (by decide) (by decide)) ?_;refine Z10 rfl rfl (ZjA x.st (X37 x.bl x.used) hx.sl hx.sw (ZhP hx) (ZhQ hx) (hBx x) _ (Z3P x) (show X1 [Xi .u8 (List.replicate 32 0)] from ⟨ZN _ _,Yt⟩)) ?_;rintro n' r h' ⟨rfl,hr,rfl⟩;have hsl:=Z6f (bl:=X37 x.bl x.used) hx.sl;have hsw:=Ze8 hx.sw (ZhQ hx);have hfin:X3M x=X3n (X1V x.st (X37 x.bl x.used)) 32:=(ZhS _).symm;generalize X1V x.st (X37 x.bl x.used)=ws at hsl hsw hfin;have hz:X1 [Xi .u8 (List.replicate 32 0)]:=⟨ZN _ _,Yt⟩
 refine go ?_;refine Zz hC (fun i=>i<=32) (fun i=>32-i) 5 (fun i => [(2,.ptr 1 0 0),(3,.ptr 2 0 0),(5,.ptr 4 0 0),(35,Yv i)]) (fun i => [(0,hBx x),(1,⟨32,[Xi .u8 (List.replicate 32 0)]⟩),(2,⟨25,[Xi .u64 ws ++ []]⟩),(4,⟨32,[Xi .u8 (X3n ws i) ++ []]⟩)]) (by decide) 0 (Y0l _)
  ⟨⟨rfl,show 1<5 by decide⟩,⟨rfl,show 2<5 by decide⟩,⟨rfl,show 4<5 by decide⟩,⟨rfl,Yt⟩,Yt⟩ ⟨⟨by decide,rfl,Z6g _ _⟩,⟨by decide,rfl,Zd (fun _ h=>h.elim) _ hz⟩,⟨by decide,rfl,X1t Yt⟩,⟨by decide,by kernel_rfl,X1t Yt⟩,Yt⟩ ?_
 intro i hi;have hinc:IntKind.i64.wrap ((i:Int)+1)=((i+1:Nat):Int):=wi (i+1) (by omega);have hdl:=Z4r ws i;refine gd 36 ⟨?_⟩;by_cases hil:i<32
 . refine Qo (Qy rfl (by omega)) ?_;refine gd 40 ⟨?_⟩
   refine Ze (v:=((i / 8:Nat):Int)) rfl rfl rfl (by
    rw [show Int.tdiv (i:Int) 8=((i / 8:Nat):Int) from (Int.ofNat_tdiv i 8).symm]
    exact wi _ (by omega)) ?_
   refine Qo (Z3e rfl rfl (i / 8) rfl (by omega)) ?_;refine Qo (Z3V (kd:=.u64) (L:=ws) (pre := []) (post := []) (o:=0) rfl rfl rfl (by omega)) ?_;refine gd 44 ⟨?_⟩;refine Ze (v:=((i % 8:Nat):Int)) rfl rfl rfl (Y2P i 8).symm ?_;refine Ze (v:=((8*(i % 8):Nat):Int)) rfl rfl rfl (wi (8*(i % 8)) (by omega)) ?_;refine Z3x rfl rfl (by omega) (X61 (g0 ws (i / 8)) (8*(i % 8)) (by omega)) rfl ?_;refine Ze (v:=((X63 ws i:Nat):Int)) rfl rfl rfl (by rw [IntKind.wrap_u8]; rfl) ?_;refine Qo (Z3e rfl rfl i rfl (by omega)) ?_;refine Qo (Z9Q (kd:=.u8) (L:=X3n ws i) (x:=X63 ws i) (Eb:=32) (pre := []) (post := []) (o:=0) rfl rfl rfl rfl (by omega) (by omega)) ?_;rw [Zfu ws hil];refine go ?_;exact⟨i+1,by omega,by omega,⟨⟨rfl,show 1<5 by decide⟩,⟨rfl,show 2<5 by decide⟩,⟨rfl,show 4<5 by decide⟩,⟨by show some _=some _; rw [hinc],Yt⟩,Yt⟩,⟨⟨by decide,rfl,Z6g _ _⟩,⟨by decide,rfl,Zd (fun _ h=>h.elim) _ hz⟩,⟨by decide,rfl,X1t Yt⟩,⟨by decide,rfl,X1t Yt⟩,Yt⟩⟩
 . obtain rfl : i = 32 := by omega
   refine Qo (Qz rfl (by omega)) ?_;rw [<- hfin] at hdl;rw [<- hfin];have hcl:(Xi .u8 (X3M x)).length=32:=by rw [ZI,hdl]
   generalize hcc:Xi .u8 (X3M x)=cc at hcl;have hcp:X5 cc:=hcc▸ZN _ _;refine gd 50 ⟨?_⟩;refine Qo (Z4V (l:=cc ++ []) (r:=cc) rfl rfl (by rw [Y0p,hcl]; decide) (by rw [Y0p,Y12,YA (by rw [hcl]; exact Y0m _)])) ?_;refine Qo (Z5d (l:=Xi .u8 (List.replicate 32 0)) rfl rfl rfl hcl rfl) ?_;refine go ?_;refine⟨_,.agg cc,?_,.inl rfl,_,rfl,hcp,Z3P x,rfl,rfl⟩;exact Z2f (Z4V (l:=cc ++ []) (r:=cc) rfl rfl (by rw [Y0p,hcl]; decide) (by rw [Y0p,Y12,YA (by rw [hcl]; exact Y0m _)]))
end
section
open Go.RowKit
def kid1 (q:List PV) (i:Nat):Bx:=⟨q.length+1,[.own i :: q]⟩
section
variable {P:Program} {C:Ctx} {Fr:Nat->Prop} {e:Env} {h:X2} {n:Nat} {F:XL} {φ:XO} {a:Act} {w:World}
theorem X1Q.kid1 {φ':XO} {loc:Loc} {q:List PV} {i i':Nat} (h2:X1Q F φ w loc (kid1 q i)) (hi:φ i=φ' i') (hq:X5 q):X1Q F φ' w loc (Go.Proofs.YtoolafpiaobphaaGreatDoor.kid1 q i'):=by
 have h2:=h2.cellsB (show 0<q.length+1 by omega);refine .inl ⟨h2.esz,h2.pos,h2.len,h2.cap,h2.max,fun c hc=>?_,fun hc=>?_⟩
 . have hc : c ∈ [PV.own i' :: q] := hc;rw [Y0g] at hc;subst hc;rw [<- h2.esz]; rfl
 . obtain ⟨x, hx, hs, cells, t, hg, hsz, hrep⟩ := h2.room hc;refine⟨x,hx,hs,cells,t,hg,hsz,fun a b ha hb=>⟨(hrep a b ha hb).1,?_⟩⟩;have hr:=(hrep a b ha hb).2;have hl:loc.len=1:=by rw [<- h2.len]; rfl
   obtain rfl:a=0:=by omega
   match b,hr with
   | 0,hr=>exact Z7S hi hr
   | b+1,hr=>exact Rep.pure (p:=q.getD b pvu) hr (ZM hq b)
def X1q (P:Program) (f:FuncId) (pre post q:List PV) (b1:Bx) (R:PV->Bx->Prop):Prop :=
 XF P f 2 (pre++.ptr 0 0 0 :: post) (Xv [(0,kid1 q 1),(1,b1)]) fun n' r h'=>∃ j1 b1',j1≠0/\h' 0=some (kid1 q j1)/\h' j1=some b1'/\r.pure/\X1 b1'.elems/\R r b1'
theorem X1q.run {f:FuncId} {pre post q:List PV} {b1:Bx} {R:PV->Bx->Prop} (hs:X1q P f pre post q b1 R) (hpre:X5 pre) (hpost:X5 post) (hq:X5 q) (hp1:X1 b1.elems) {k i n:Nat} (hn:Fr n) (hk:h k=some (kid1 q i)) (hi:h i=some b1) (hik:i≠k)
 (s:St' C Fr e h F φ a w) {vs:Array Value} (hv:X27 F φ vs (pre++.ptr k 0 0 :: post)) :
 Calls P f vs w fun en w'=>∃ v r b1' F' φ',en=.returned v/\(r.pure/\X1 b1'.elems/\R r b1')/\Rep F' φ' v r/\St' C (fun x=>Fr x/\x≠n) e (((h.del i).upd k (kid1 q n)).upd n b1') F' φ' a w':=by
 obtain⟨lk,hlk,_⟩:=s.live k _ hk;obtain⟨li,hli,_⟩:=s.live i _ hi;have h0:∀ {x b0},(Xv [(0,kid1 q 1),(1,b1)]) x=some b0->(x=0/\b0=kid1 q 1) \/ (x=1/\b0=b1):=fun hx=>by simpa using Z1r hx
 refine (X6Q hs s (φ1:=fun x=>if x=0 then φ k else if x=1 then φ i else none) (fun x=>if x=0 then k else i) (fun x hx=>by rw [Y8 (by omega),Y8 (by omega)]) (fun x b0 hx=>?_) (fun x y hx hy hxy=>?_) (Z8U hpre hpost (fun v hr=>?_) hv)).mono ?_
 . rcases h0 hx with ⟨rfl, rfl⟩ | ⟨rfl, rfl⟩
   . exact⟨lk,_,hlk,hlk,hk,fun h=>h.kid1 rfl hq⟩
   . exact⟨li,_,hli,hli,hi,fun h=>h.names hp1⟩
 . obtain ⟨_, hx⟩ := Y1s.1 hx;obtain⟨_,hy⟩:=Y1s.1 hy;rcases h0 hx with⟨rfl,_⟩|⟨rfl,_⟩<;>rcases h0 hy with⟨rfl,_⟩|⟨rfl,_⟩<;>simp_all
 . obtain ⟨loc', x, g1, gz, g2, g3, rfl⟩ := hr.ptr_inv;exact .ptr 0 0 0 loc' x g1 gz g2 g3
 rintro en w' ⟨v,r,n',h',F',φ',rfl,⟨j1,b1',hj,hh0,hh1,hrp,hp1',hR⟩,hvr,hφ,hob,hst⟩;obtain⟨l1,m1,_⟩:=hob j1 _ hh1;have hφn:=s.free n hn;refine⟨v,r,b1',F',X8 φ n l1,rfl,⟨hrp,hp1',hR⟩,hvr.pure hrp,hst (fun x y=>(x=n/\y=j1) \/ (x=k/\y=0)) (Z1b hφn l1) (fun x hx=>by simp [X8,hx.2,s.free x hx.1]) (fun x y z h1 h2=>by omega) fun x bx hx=>?_⟩;rcases Z3u hx with⟨rfl,rfl⟩|⟨e1,hx⟩
 . exact .inl ⟨j1,_,l1,.inl ⟨rfl,rfl⟩,hh1,m1,by simp [X8],fun h=>h.names hp1'⟩
 rcases Z3u hx with⟨rfl,rfl⟩|⟨e2,hx⟩
 . exact .inl ⟨0,_,lk,.inr ⟨rfl,rfl⟩,hh0,hφ 0 lk hlk,by simp [X8,e1,hlk],fun h=>h.kid1 (by rw [m1]; simp [X8]) hq⟩
 . obtain ⟨e3, hx⟩ := X2.del_some hx;exact .inr ⟨hx,by simp [X8,e1],fun y _=>by split<;>assumption⟩
theorem X1q.frame {f:FuncId} {pre post q:List PV} {b1:Bx} {R:PV->Bx->Prop} (hs:X1q P f pre post q b1 R) (hpre:X5 pre) (hpost:X5 post) (hq:X5 q) (hp1:X1 b1.elems) {k i n:Nat} (hk:h k=some (kid1 q i)) (hi:h i=some b1) (hik:i≠k) :
 XF P f n (pre++.ptr k 0 0 :: post) h fun n' r h'=>∃ b1',n'=n+1/\h'=((h.del i).upd k (kid1 q n)).upd n b1'/\r.pure/\X1 b1'.elems/\R r b1':=by
 refine⟨hs.1,fun C e F φ a w vs s hv=>(hs.run hpre hpost hq hp1 (n:=n) (Y0m n) hk hi hik s hv).mono ?_⟩;rintro en w' ⟨v,r,b1',F',φ',rfl,⟨h1,h2,h3⟩,hr,s'⟩;exact⟨v,r,n+1,_,F',φ',rfl,⟨b1',rfl,rfl,h1,h2,h3⟩,hr,{ s' with free:=fun i hi=>s'.free i ⟨by omega,by omega⟩ }⟩
theorem Z17 {f:Operand} {args:List Operand} {g:FuncId} {caps as0 pre post q:List PV} {b1:Bx} {k i:Nat} {R:PV->Bx->Prop} {d:Option Nat} {os:List Xs} {n:Nat} {K:Nat->Env->X2->Prop} (hs:X1q P g pre post q b1 R) (hf:ev e f=some (.fn g caps)) (ha:evs e args=some as0) (hr:as0++caps=pre++.ptr k 0 0 :: post) (hk:h k=some (kid1 q i)) (hi:h i=some b1) (hik:i≠k) (hpre:X5 pre) (hpost:X5 post) (hq:X5 q) (hp1:X1 b1.elems)
 (hK:∀ r b1',r.pure->X1 b1'.elems->R r b1'->Xr P os (n+1) (XC e d r) (((h.del i).upd k (kid1 q n)).upd n b1') K):Xr P (⟨d,.call f args,none⟩ :: os) n e h K:=by
 refine Z10 hf ha (R:=fun n' r h'=>∃ b1',n'=n+1/\h'=((h.del i).upd k (kid1 q n)).upd n b1'/\r.pure/\X1 b1'.elems/\R r b1') (by rw [hr]; exact hs.frame hpre hpost hq hp1 hk hi hik) ?_;rintro n' r h' ⟨b1',rfl,rfl,h1,h2,h3⟩;exact hK r b1' h1 h2 h3
theorem Z37 {f nt:Nat} {ac:X6} {rs:List X2g} (hf:X3O P f nt ac rs) {pre post q:List PV} {b1:Bx} {R:PV->Bx->Prop} (hn:(pre++.ptr 0 0 0 :: post).length<=nt)
 (hk:∀ C:Ctx,C.dom 2->aw P C ac (X6h rs fun n' r h'=>∃ j1 b1',j1≠0/\h' 0=some (kid1 q j1)/\h' j1=some b1'/\r.pure/\X1 b1'.elems/\R r b1') 2 (XV (pre++.ptr 0 0 0 :: post)) (Xv [(0,kid1 q 1),(1,b1)])):X1q P f pre post q b1 R :=
 Z18 hf hn hk
theorem Z2X {ob i0 j0:Nat} {bo:Bx} (esz:Nat) (hp:0<esz) (hob:h ob=some bo) (hi0:i0<bo.elems.length) (hj0:j0<(bo.elems.getD i0 []).length) (hcell:(bo.elems.getD i0 []).getD j0 pvu=.vec [] true) (hz:0<bo.esz:=by exact Y0 rfl) :
 X4m n e h (n+1) e ((h.upd n ⟨esz,[]⟩).upd ob ⟨bo.esz,bo.elems.set i0 ((bo.elems.getD i0 []).set j0 (.own n))⟩):=fun _=>Z4Y esz hp hob hi0 hj0 hcell hz
end
end
section
open Go.RowKit
attribute [local irreducible] aw Xr dK
def gR:Nat->Nat->List Nat
 | 0,_ => []
 | f+1,v=>if v=0 then [] else ((v &&& 127) ||| 128) :: gR f (v / 128)
def grp (v:Nat):List Nat:=((v &&& 127) :: gR v (v / 128)).reverse
theorem ZcT:∀ (f f' v:Nat),v<=f->v<=f'->gR f v=gR f' v
 | 0,0,_,_,_=>rfl
 | 0, f' + 1, v, h, _ => by
   obtain rfl:v=0:=by omega
   rfl
 | f + 1, 0, v, _, h => by
   obtain rfl:v=0:=by omega
   rfl
 | f + 1, f' + 1, v, h, h' => by
   show (if v=0 then [] else _)=(if v=0 then [] else _)
   split
   . rfl
   . rw [ZcT f f' (v / 128) (by omega) (by omega)]
theorem Zlg (f:Nat):gR f 0 = []:=by cases f<;>rfl
theorem Zlh {v:Nat} (h:v≠0):gR v v=((v &&& 127) ||| 128) :: gR (v / 128) (v / 128):=by
 obtain⟨f,rfl⟩:∃ f,v=f+1:=⟨v-1,by omega⟩
 show (if f+1=0 then [] else ((f+1 &&& 127) ||| 128) :: gR f ((f+1) / 128))=_;rw [Y8 (by omega),ZcT f ((f+1) / 128) ((f+1) / 128) (by omega) (Y0m _)]
theorem Zkf:∀ (f v:Nat),(gR f v).length<=v
 | 0,v=>Y0l _
 | f + 1, v => by
   show (if v=0 then [] else ((v &&& 127) ||| 128) :: gR f (v / 128)).length<=v
   split
   . exact Y0l _
   . have := Zkf f (v / 128);rw [Y04];omega
theorem Z1L (v:Nat):(grp v).length<=v+1:=by
 unfold grp;rw [List.length_reverse,Y04];have:=Zkf v (v / 128);omega
theorem ZmR:∀ (f v:Nat),W8 (gR f v)
 | 0,_=>fun _ hx=>by cases hx
 | f + 1, v => fun x hx => by
   change x∈(if v=0 then [] else ((v &&& 127) ||| 128) :: gR f (v / 128)) at hx
   split at hx
   . cases hx
   . rcases YD.1 hx with rfl | hx
     . exact Y2n (n:=8) (Y02 Y2b (by decide)) (by decide)
     . exact ZmR f _ x hx
theorem Zb5 (v:Nat):W8 (grp v):=fun x hx=>by
 rcases YD.1 (List.mem_reverse.1 hx) with rfl|hx
 . exact Y02 Y2b (by decide)
 . exact ZmR _ _ x hx
theorem Z9W (l m:List Nat):bys (l++m)=bys l++bys m:=by unfold bys; rw [Y0r]
theorem Z7T (l:List Nat):(bys l).length=l.length:=by simp [bys]
theorem ZhT (l:List Nat):∀ c∈bys l,c.length=1:=fun c hc=>by obtain⟨y,_,rfl⟩:=Y0i.1 hc; rfl
theorem ZjF (v:Nat) (hv:v<1000000):X7 Tryz.prog 136 [.val (.int .u64 (v:Int))] (· = .vec (bys (grp v)) false):=by
 refine Yp ok136 fun C hC=>?_;have hshr:∀ x:Nat,Int.fdiv (x:Int) (2 ^ (min ((7:Nat):Int).toNat IntKind.u64.bits))=((x / 128:Nat):Int):=fun x=>X61 x 7 (by decide);have hand:∀ x:Nat,x<1000000->bits .and .u64 (x:Int) ((127:Nat):Int)=((x &&& 127:Nat):Int):=fun x hx=>Y28 x 127 (by omega) (by decide);have hu8:∀ x:Nat,IntKind.u8.wrap ((x &&& 127:Nat):Int)=((x &&& 127:Nat):Int):=fun x=>by
  have:x &&& 127<=127:=Y2b;exact Y3I _ ⟨by omega,by omega⟩
 refine gd 5 ⟨?_⟩;refine Ze (v:=((v &&& 127:Nat):Int)) rfl rfl rfl (hand v hv) ?_;refine Ze (v:=((v &&& 127:Nat):Int)) rfl rfl rfl (hu8 v) ?_;refine Z2c rfl rfl rfl ?_;refine gd 9 ⟨?_⟩;refine Z3x rfl rfl (by decide) (hshr v) rfl ?_;refine go ?_;refine Zv hC (fun x:List Nat×Nat=>x.2<1000000/\x.1.length+x.2<=v+1/\x.1++gR x.2 x.2=(v &&& 127) :: gR v (v / 128)) (fun x=>x.2) 1 (fun x => [(0,.val (.int .u64 (x.2:Int))),(3,.own 0)]) (fun x => [(0,⟨1,bys x.1⟩)]) (by decide) ([v &&& 127],v / 128) ⟨by show v / 128<_; omega,by show 1+v / 128<=_; omega,by show _ :: gR (v / 128) (v / 128)=_; rw [ZcT (v / 128) v (v / 128) (Y0m _) (by omega)]⟩
  (fun i=>i) (fun _ _=>rfl) (Zq rfl) ⟨Qp Yt,⟨_,rfl,.own 0 (by decide)⟩,Yt⟩ ⟨⟨by decide,⟨1,bys [v &&& 127]⟩,rfl,.same _ (Zg _)⟩,Yt⟩ ?_
 rintro⟨acc,y⟩ ⟨hy,hyl,hyt⟩;dsimp only at hy hyl hyt;refine gd 11 ⟨?_⟩;by_cases h0:y=0
 . refine Qo (Qz rfl (by show ¬ ((y : Int) > 0); omega)) ?_;rw [h0,Zlg,Y0p] at hyt;refine gd 22 ⟨?_⟩;refine Zk8 0 (Zff acc (by omega)) (Z6V Z3j ZcG) rfl rfl rfl rfl (Zg _) ?_;rintro r b' hr1 hr2 rfl;refine gd 23 ⟨?_⟩;refine Za (Zj (k:=3) (b:=⟨1,Xn .u8 acc.reverse⟩) rfl rfl (Z1g _ _)) ?_;refine go ?_;exact Z8 rfl (Zg _) (by show PV.vec (bys acc.reverse) false=_; rw [hyt]; rfl)
 . refine Qo (Qy rfl (by show ((y : Int) > 0); omega)) ?_;rw [Zlh h0] at hyt;refine gd 16 ⟨?_⟩;refine Ze (v:=((y &&& 127:Nat):Int)) rfl rfl rfl (hand y hy) ?_;refine Ze (v:=((y &&& 127:Nat):Int)) rfl rfl rfl (hu8 y) ?_;refine Ze (v:=(((y &&& 127) ||| 128:Nat):Int)) rfl rfl rfl (u8_or_nat (y &&& 127) 128 (Y02 Y2b (by decide)) (by decide)) ?_;(first|refine st ?_|(apply B<;>intro hb<;>try cases hb))
   refine ZH (Zu (k:=0) (m:=bys [(y &&& 127) ||| 128]) (fl:=true) rfl rfl rfl (ZhT _) rfl (by
    show ((bys acc).length+1)*1<=_
    rw [Z7T];omega)) rfl rfl ?_
   refine gd 13 ⟨?_⟩;refine Z3x rfl rfl (by decide) (hshr y) rfl ?_;refine go ?_;refine⟨(acc ++ [(y &&& 127) ||| 128],y / 128),mv 0 1,⟨by show y / 128<_; omega,by show (acc ++ [_]).length+y / 128<=_; rw [Y0e,Y0s]; omega,by show (acc ++ [_])++gR (y / 128) (y / 128)=_; rw [YT]; exact hyt⟩,by show y / 128<y; omega,Z3n (by decide),Zq rfl,⟨Qp Yt,⟨_,rfl,.own 0 (by decide)⟩,Yt⟩,⟨⟨by decide,_,rfl,by rw [Z9W]; exact .same _ (by rw [<- Z9W]; exact Zg _)⟩,Yt⟩⟩
abbrev wBx (l:List Nat):Bx:=⟨1,bys l⟩
theorem ZjG (l p:List Nat) (fl:Bool) (hb:l.length+p.length<=1000000):X1q Tryz.prog 135 [] [.vec (bys p) fl] [] (wBx l) (fun _ b'=>b'=wBx (l++p)):=by
 refine Z37 ok135 (Y0 rfl) fun C hC=>?_;refine gd 12 ⟨?_⟩
 refine ZH (Zu (k:=1) (m:=bys p) (fl:=fl) (b:=wBx l) rfl rfl rfl (ZhT _) rfl (by
  show ((bys l).length+(bys p).length)*1<=_
  rw [Z7T,Z7T];omega)) rfl rfl ?_
 iterate 2 (first|refine st ?_|(apply B<;>intro hb<;>try cases hb))
 refine Qo (Z1Q (size:=1) (k:=0) (i:=0) (off:=0) (b:=kid1 [] 1) (p:=.own 2) rfl rfl rfl rfl rfl (by decide) (by decide)) ?_;refine go ?_;exact⟨_,_,rfl,.inl rfl,2,_,by decide,rfl,rfl,Yt,by show X1 (bys l++bys p); rw [<- Z9W]; exact Zg _,by show (⟨1,bys l++bys p⟩:Bx)=_; rw [<- Z9W]⟩
theorem Z6x (l:List Nat) (v:Nat) (hv:v<1000000) (hb:l.length+v<1000000):X1q Tryz.prog 74 [] [.val (.int .u64 (v:Int))] [] (wBx l) (fun _ b'=>b'=wBx (l++grp v)):=by
 refine Z37 ok74 (Y0 rfl) fun C hC=>?_;have hgl:=Z1L v;refine gd 6 ⟨?_⟩;refine Qe (ZjF v hv) ⟨Yt,Yt⟩ ?_;refine Z17 (k:=0) (i:=1) (ZjG l (grp v) false (by omega)) rfl rfl rfl rfl rfl (by decide) Yt ⟨Zg _,Yt⟩ Yt (Zg _) ?_;rintro r b' hr1 hr2 rfl;refine go ?_;exact⟨_,_,rfl,.inl rfl,2,_,by decide,rfl,rfl,Yt,Zg _,rfl⟩
def wB (p:List Nat):List Nat:=grp p.length++p
theorem Z6Y (l p:List Nat) (fl:Bool) (hb:l.length+2*p.length<900000):X1q Tryz.prog 75 [] [.vec (bys p) fl] [] (wBx l) (fun _ b'=>b'=wBx (l++wB p)):=by
 refine Z37 ok75 (Y0 rfl) fun C hC=>?_;have hgl:=Z1L p.length;refine gd 7 ⟨?_⟩;refine Ze (v:=(p.length:Int)) rfl rfl rfl (by rw [Z7T]; exact Y0x _ ⟨by omega,by omega⟩) ?_;refine Z17 (k:=0) (i:=1) (Z6x l p.length (by omega) (by omega)) rfl rfl rfl rfl rfl (by decide) Yt ⟨Yt,Yt⟩ Yt (Zg _) ?_;rintro r b' hr1 hr2 rfl;refine gd 11 ⟨?_⟩;refine Z17 (k:=0) (i:=2) (ZjG (l++grp p.length) p fl (by rw [Y0e];omega)) rfl rfl rfl rfl rfl (by decide) Yt ⟨Zg _,Yt⟩ Yt (Zg _) ?_;rintro r b' hr1 hr2 rfl;refine go ?_;exact⟨_,_,rfl,.inl rfl,3,_,by decide,rfl,rfl,Yt,Zg _,by rw [YT]; rfl⟩
theorem Zmh (l:List Nat) (b:Bool) (hb:l.length<900000):X1q Tryz.prog 78 [] [.val (.bool b)] [] (wBx l) (fun _ b'=>b'=wBx (l ++ [cond b 1 0])):=by
 refine Z37 ok78 (Y0 rfl) fun C hC=>?_;cases b with
 | true =>
   refine gd 7 ⟨?_⟩;refine Z17 (k:=0) (i:=1) (ZjG l [1] true (by show l.length+1<=_;omega)) rfl rfl rfl rfl rfl (by decide) Yt ⟨Zg _,Yt⟩ Yt (Zg _) ?_;rintro r b' hr1 hr2 rfl;refine go ?_;exact⟨_,_,rfl,.inl rfl,2,_,by decide,rfl,rfl,Yt,Zg _,rfl⟩
 | false =>
   refine gd 10 ⟨?_⟩;refine Z17 (k:=0) (i:=1) (ZjG l [0] true (by show l.length+1<=_;omega)) rfl rfl rfl rfl rfl (by decide) Yt ⟨Zg _,Yt⟩ Yt (Zg _) ?_;rintro r b' hr1 hr2 rfl;refine go ?_;exact⟨_,_,rfl,.inl rfl,2,_,by decide,rfl,rfl,Yt,Zg _,rfl⟩
def sB (N:Nat):List Nat:=if N=0 then [] else [N]
theorem Zli (N:Nat):X66 N=.vec (bys (sB N)) (decide (N=0)):=by
 unfold X66 sB;by_cases h:N=0
 . subst h; rfl
 . rw [Y8 h,Y8 h,Y0w h]
theorem Z8V (N:Nat):(sB N).length<=1:=by
 unfold sB
 split<;>simp
theorem Zlj (l:List Nat) (N:Nat) (hN:N<256) (hb:l.length<800000):X1q Tryz.prog 77 [] [XG N] [] (wBx l) (fun _ b'=>b'=wBx (l++wB (sB N))):=by
 refine Z37 ok77 (Y0 rfl) fun C hC=>?_;have hsl:=Z8V N;refine gd 6 ⟨?_⟩;refine Qe (Z3L N hN) ⟨Z2 N,Yt⟩ ?_;rw [Zli];refine Z17 (k:=0) (i:=1) (Z6Y l (sB N) (decide (N=0)) (by omega)) rfl rfl rfl rfl rfl (by decide) Yt ⟨Zg _,Yt⟩ Yt (Zg _) ?_;rintro r b' hr1 hr2 rfl;refine go ?_;exact⟨_,_,rfl,.inl rfl,_,_,by decide,rfl,rfl,Yt,Zg _,rfl⟩
def cB (c:Cu):List Nat:=wB (sB c.1)++wB (sB c.2)
theorem Z5O (p:List Nat):(wB p).length<=2*p.length+1:=by
 unfold wB;rw [Y0e];have:=Z1L p.length;omega
theorem ZhU (c:Cu):(cB c).length<=6:=by
 unfold cB;rw [Y0e];have h1:=Z5O (sB c.1);have h2:=Z5O (sB c.2);have h3:=Z8V c.1;have h4:=Z8V c.2;omega
theorem Zmi (l:List Nat) (c:Cu) (hc:c.1<256/\c.2<256) (hb:l.length<700000):X1q Tryz.prog 79 [] [cuP c] [] (wBx l) (fun _ b'=>b'=wBx (l++cB c)):=by
 refine Z37 ok79 (Y0 rfl) fun C hC=>?_;have h1:=Z5O (sB c.1);have h3:=Z8V c.1;refine gd 7 ⟨?_⟩;refine Z17 (k:=0) (i:=1) (Zlj l c.1 hc.1 (by omega)) rfl rfl rfl rfl rfl (by decide) Yt ⟨Z2 _,Yt⟩ Yt (Zg _) ?_;rintro r b' hr1 hr2 rfl;refine gd 11 ⟨?_⟩;refine Z17 (k:=0) (i:=3) (Zlj (l++wB (sB c.1)) c.2 hc.2 (by rw [Y0e];omega)) rfl rfl rfl rfl rfl (by decide) Yt ⟨Z2 _,Yt⟩ Yt (Zg _) ?_;rintro r b' hr1 hr2 rfl;refine go ?_;exact⟨_,_,rfl,.inl rfl,4,_,by decide,rfl,rfl,Yt,Zg _,by rw [YT]; rfl⟩
def lB (cs:List Cu):List Nat:=grp cs.length++cs.flatMap cB
theorem Zb6 (cs:List Cu):(cs.flatMap cB).length<=6*cs.length:=by
 induction cs with
 | nil=>exact Y0m _
 | cons c cs ih =>
   rw [Y1T,Y0e,Y04];have:=ZhU c;omega
theorem Zkg (cs:List Cu):(lB cs).length<=7*cs.length+1:=by
 unfold lB;rw [Y0e];have:=Zb6 cs;have:=Z1L cs.length;omega
theorem Zfv (cs:List Cu) {i:Nat} (hi:i<cs.length):(cs.take (i+1)).flatMap cB=(cs.take i).flatMap cB++cB cs[i]:=by
 rw [Y33 hi,Y1K,Y3R]
theorem Zkh (l:List Nat) (cs:List Cu) (fl:Bool) (hcs:∀ c∈cs,c.1<256/\c.2<256) (hb:l.length+10*cs.length<600000):X1q Tryz.prog 80 [] [.vec (cs.map cuC) fl] [] (wBx l) (fun _ b'=>b'=wBx (l++lB cs)):=by
 refine Z37 ok80 (Y0 rfl) fun C hC=>?_;have hgl:=Z1L cs.length;have hml:(cs.map cuC).length=cs.length:=Y0f ..;have hpi:∀ D,Xt D (cs.map cuC):=fun D=>Zd (fun _ h=>h.elim) _ (Zb Zh cs);refine gd 9 ⟨?_⟩;refine Ze (v:=(cs.length:Int)) rfl rfl rfl (by rw [hml]; exact Y0x _ ⟨by omega,by omega⟩) ?_;refine Z17 (k:=0) (i:=1) (Z6x l cs.length (by omega) (by omega)) rfl rfl rfl rfl rfl (by decide) Yt ⟨Yt,Yt⟩ Yt (Zg _) ?_;rintro r b' hr1 hr2 rfl;refine go ?_;refine Zv hC (fun i=>i<=cs.length) (fun i=>cs.length-i) 3 (fun i => [(0,.ptr 0 0 0),(1,.vec (cs.map cuC) fl),(11,.vec (cs.map cuC) fl),(12,.val (.int .i64 (cs.length:Int))),(13,Yv i)]) (fun i => [(0,kid1 [] 2),(2,wBx (l++grp cs.length++(cs.take i).flatMap cB))]) (by decide) 0 (Y0l _)
  (fun i=>i) (fun _ _=>rfl) (Zq rfl) ⟨Qt 0 0 0,Qp (Zb Zh cs),Qp (Zb Zh cs),⟨_,by rw [<- hml]; rfl,.pure _ Yt⟩,Qp Yt,Yt⟩
  ⟨⟨by decide,_,rfl,Xw.single ⟨.own 2 (by decide),Yt⟩ rfl⟩,⟨by decide,wBx (l++grp cs.length++(cs.take 0).flatMap cB),by rw [Y1r,Y3M,Y0p]; rfl,.same _ (Zg _)⟩,Yt⟩ ?_
 intro i hi;have hfl:=Zb6 (cs.take i);rw [Y0o,Y1X hi] at hfl;have hinc:IntKind.i64.wrap ((i:Int)+1)=((i+1:Nat):Int):=wi (i+1) (by omega);refine gd 14 ⟨?_⟩;by_cases hil:i<cs.length
 . refine Qo (Qy rfl (by omega)) ?_;have hci:=hcs cs[i] (Y0j hil);have hft:=Zfv cs hil;refine gd 15 ⟨?_⟩;refine Qo (Zl (xs:=cs) (g:=cuC) rfl rfl i rfl hil rfl) ?_;generalize cs[i]=c at hci hft;refine gd 19 ⟨?_⟩;refine Z17 (k:=0) (i:=2) (Zmi (l++grp cs.length++(cs.take i).flatMap cB) c hci (by rw [Y0e,Y0e];omega)) rfl rfl rfl rfl rfl (by decide) Yt ⟨ZA _,Yt⟩ Yt (Zg _) ?_;rintro r b' hr1 hr2 rfl;refine go ?_;exact⟨i+1,mv 2 4,by omega,by omega,Z3n (by decide),Zq rfl,⟨Qt 0 0 0,Qp (Zb Zh cs),Qp (Zb Zh cs),Qp Yt,⟨_,by show some _=some _; rw [hinc],.pure _ Yt⟩,Yt⟩,⟨⟨by decide,_,rfl,Xw.single ⟨.own 2 (by decide),Yt⟩ rfl⟩,⟨by decide,_,rfl,by rw [hft,<- YT]; exact .same _ (Zg _)⟩,Yt⟩⟩
 . obtain rfl : i = cs.length := by omega
   refine Qo (Qz rfl (by omega)) ?_;rw [Y0q];refine go ?_;exact⟨_,_,rfl,.inl rfl,2,_,by decide,rfl,rfl,Yt,Zg _,by rw [YT]; rfl⟩
def dig (p:List Nat):List Nat:=X3M (HS.puts (p.length+1) ⟨List.replicate 25 0,List.replicate 136 0,0,0+p.length⟩ p)
theorem Z6i (p:List Nat):(dig p).length=32:=by simp [dig,X3M]
theorem ZhV (p:List Nat) (fl:Bool) (hp:W8 p) (hb:p.length<1000000):X7 Tryz.prog 139 [.vec (bys p) fl] (· = .agg (Xi .u8 (dig p))):=by
 refine Yp ok139 fun C hC=>?_;have hz:=ZhL (0+p.length);have hpok:=ZhC (p.length+1) (HS.zero (0+p.length)) p hz hp;refine gd 4 ⟨?_⟩;refine Z3B (ZcS) (Z7I 0 0) (Z3P _) rfl rfl Yt ?_;refine gd 7 ⟨?_⟩;refine ZU (id:=1) (Zle (HS.zero 0) (ZhL 0) p fl hp (by show 0+p.length<_;omega)) rfl rfl rfl rfl (Z3P _) ⟨Zg _,Yt⟩ ?_;rintro r b' hr1 hr2 rfl;refine gd 9 ⟨?_⟩;refine ZU (id:=1) (ZmK _ hpok) rfl rfl rfl rfl (Z3P _) Yt ?_;rintro r b' hr1 hr2 ⟨rfl,rfl⟩;have hcl:(Xi .u8 (X3M (HS.puts (p.length+1) (HS.zero (0+p.length)) p))).length=32:=by rw [ZI]; exact Z6i p
 refine Qo (Z5d (l:=Xi .u8 (List.replicate 32 0)) rfl rfl rfl hcl rfl) ?_;refine go ?_;refine Z8 (Z2f (Z4V (l:=Xi .u8 (dig p) ++ []) (r:=Xi .u8 (dig p)) rfl rfl ?_ ?_)) (ZN _ _) rfl
 . rw [Y0p,ZI,Z6i]; decide
 . rw [Y0p,Y12,YA (by rw [ZI,Z6i]; exact Y0m _)]
theorem Z9X:X1y Tryz.prog 73 [] (fun i=>.ptr i 0 0) ⟨1,[[.vec [] true]]⟩:=by
 refine Z1A ok73 (Y0 rfl) fun C hC=>?_;refine go ?_;exact⟨_,_,rfl,.inl rfl,_,rfl,rfl⟩
theorem ZcU (x:Nat) (l:List Nat) (fl:Bool) (hb:l.length<1000000):X7 Tryz.prog 140 [.vec (bys (x :: l)) fl] (· = .vec (bys (x :: l)) false):=by
 refine Yp ok140 fun C hC=>?_;refine gd 7 ⟨?_⟩
 refine Z5 (Zai (l := []) (m:=bys (x :: l)) (fl:=fl) rfl rfl (fun c hc=>by cases hc) (ZhT _) (by
  show (0+(bys (x :: l)).length)*1<=_
  rw [Z7T,Y04];omega)) rfl rfl ?_
 refine go ?_;exact Z8 rfl (Zg _) rfl
theorem Zlk (x:Nat) (l:List Nat) (fl:Bool) (hb:l.length<1000000):X2l Tryz.prog 82 ⟨1,[[.vec (bys (x :: l)) fl]]⟩ [] (fun r b'=>r=.vec (bys (x :: l)) false/\b'=⟨1,[[.vec (bys (x :: l)) fl]]⟩):=by
 refine Z1R ok82 (Y0 rfl) fun C hC=>?_;refine gd 9 ⟨?_⟩;refine Qe (ZcU x l fl hb) ⟨Zg _,Yt⟩ ?_;refine go ?_;exact⟨_,_,rfl,.inl rfl,_,rfl,Zg _,⟨⟨Zg _,Yt⟩,Yt⟩,rfl,rfl⟩
def X4e (s:ByteArray):List Nat:=s.data.toList.map fun b=>b.toNat
theorem Zfw (s:ByteArray):X1L s=bys (X4e s):=by
 unfold X1L bys X4e;rw [Y2o]
 rfl
theorem Zed (s:ByteArray):(X4e s).length=s.size:=by
 unfold X4e;rw [Y0f]
 rfl
theorem ZmL (l:List Nat) (s:ByteArray) (hb:l.length+2*s.size<800000):X1q Tryz.prog 138 [] [.val (.string s)] [] (wBx l) (fun _ b'=>b'=wBx (l++wB (X4e s))):=by
 refine Z37 ok138 (Y0 rfl) fun C hC=>?_;have hs:=Zed s;have hd:∀ (e:Env) (h:X2) (n:Nat) (x:Operand),ev e x=some (.val (.string s))->X3 (.s2b x) e h n=some (.vec (bys (X4e s)) false,h):=fun e h n x hx=>by
  simp only [X3,hx];rw [Y6 (by omega),Zfw]
 refine gd 6 ⟨?_⟩;refine Qo (hd _ _ _ _ rfl) ?_;refine Z17 (k:=0) (i:=1) (Z6Y l (X4e s) false (by omega)) rfl rfl rfl rfl rfl (by decide) Yt ⟨Zg _,Yt⟩ Yt (Zg _) ?_;rintro r b' hr1 hr2 rfl;refine go ?_;exact⟨_,_,rfl,.inl rfl,2,_,by decide,rfl,rfl,Yt,Zg _,rfl⟩
theorem ZlC {p:List Nat} (h:W8 p):W8 (wB p):=fun x hx=>(Y0h.1 hx).elim (Zb5 _ x) (h x)
theorem Zll (p:List Nat):∃ x l,wB p=x :: l:=by
 unfold wB grp;rw [List.reverse_cons];cases h:(gR p.length (p.length / 128)).reverse with
 | nil=>exact⟨_,_,rfl⟩
 | cons a b=>exact⟨_,_,rfl⟩
theorem Zee (v:Nat):∃ x l,grp v=x :: l:=by
 unfold grp;rw [List.reverse_cons];cases h:(gR v (v / 128)).reverse with
 | nil=>exact⟨_,_,rfl⟩
 | cons a b=>exact⟨_,_,rfl⟩
theorem Z7U:X1 (⟨1,[[PV.vec [] true]]⟩:Bx).elems:=⟨⟨Yt,Yt⟩,Yt⟩
def X56 (s:ByteArray) (p:List Nat):List Nat:=wB (X4e s)++wB p
theorem Zmj (s:ByteArray):W8 (X4e s):=fun x hx=>by
 obtain⟨b,_,rfl⟩:=Y0i.1 hx;exact b.toNat_lt
theorem ZcV (s:ByteArray) (p:List Nat) (fp:Bool) (hp:W8 p) (hs:s.size<100) (hb:p.length<200000):X7 Tryz.prog 81 [.val (.string s),.vec [[.vec (bys p) fp]] true] (· = .agg (Xi .u8 (dig (X56 s p)))):=by
 refine Yp ok81 fun C hC=>?_;have hsl:=Zed s;have hwl:=Z5O (X4e s);have hwp:=Z5O p;have hpp:X1 [[PV.vec (bys p) fp]]:=⟨⟨Zg _,Yt⟩,Yt⟩
 refine gd 8 ⟨?_⟩;refine Z3B Z9X (Z7I 0 0) Z7U rfl rfl Yt ?_;refine Za (Z2X (ob:=1) (i0:=0) (j0:=0) (bo:=⟨1,[[.vec [] true]]⟩) 1 (by decide) rfl (by decide) (by decide) rfl) ?_;refine gd 11 ⟨?_⟩;refine Z17 (k:=1) (i:=2) (q := []) (b1:=wBx []) (ZmL [] s (by show 0+_<_;omega)) rfl rfl rfl rfl rfl (by decide) Yt ⟨Yt,Yt⟩ Yt Yt ?_;rintro r b' hr1 hr2 rfl;rw [Y1e];refine go ?_;refine Zv hC (fun i=>i<=1) (fun i=>1-i) 4 (fun i => [(4,.ptr 0 0 0),(5,.ptr 1 0 0),(12,.vec [[.vec (bys p) fp]] true),(13,.val (.int .i64 1)),(14,Yv i)]) (fun i => [(0,⟨32,[Xi .u8 (List.replicate 32 0)]⟩),(1,kid1 [] 3),(3,wBx (wB (X4e s)++(if i=0 then [] else wB p)))]) (by decide) 0 (Y0l _)
  (fun i=>i) (fun _ _=>rfl) (Zq rfl) ⟨Qt 0 0 0,Qt 1 0 0,Qp hpp,Qp Yt,Qp Yt,Yt⟩
  ⟨⟨by decide,⟨32,[Xi .u8 (List.replicate 32 0)]⟩,by kernel_rfl,.same _ ⟨ZN _ _,Yt⟩⟩,⟨by decide,_,rfl,Xw.single ⟨.own 3 (by decide),Yt⟩ rfl⟩,⟨by decide,wBx (wB (X4e s) ++ []),by rw [Y0p]; rfl,.same _ (Zg _)⟩,Yt⟩ ?_
 intro i hi;have hinc:IntKind.i64.wrap ((i:Int)+1)=((i+1:Nat):Int):=wi (i+1) (by omega);refine gd 15 ⟨?_⟩;by_cases hil:i<1
 . obtain rfl : i = 0 := by omega
   refine Qo (Qy rfl (by omega)) ?_;rw [Y6 rfl,Y0p];refine gd 20 ⟨?_⟩;refine Z17 (k:=1) (i:=3) (Z6Y (wB (X4e s)) p fp (by omega)) rfl rfl rfl rfl rfl (by decide) Yt ⟨Zg _,Yt⟩ Yt (Zg _) ?_;rintro r b' hr1 hr2 rfl;refine go ?_;exact⟨1,mv 3 4,by omega,by omega,Z3n (by decide),Zq rfl,⟨Qt 0 0 0,Qt 1 0 0,Qp hpp,Qp Yt,Qp Yt,Yt⟩,⟨Qs ⟨ZN _ _,Yt⟩,⟨by decide,_,rfl,Xw.single ⟨.own 3 (by decide),Yt⟩ rfl⟩,⟨by decide,_,rfl,by rw [Y8 (by decide)]; exact .same _ (Zg _)⟩,Yt⟩⟩
 . obtain rfl : i = 1 := by omega
   refine Qo (Qz rfl (by omega)) ?_;rw [Y8 (by decide)];have hWt:W8 (X56 s p):=fun x hx=>(Y0h.1 hx).elim (ZlC (Zmj s) x) (ZlC hp x);have htl:(X56 s p).length<500000:=by unfold X56; rw [Y0e]; omega
   obtain⟨x,l,hxl⟩:∃ x l,X56 s p=x :: l:=by
    obtain⟨x,l,h⟩:=Zll (X4e s);exact⟨x,l++wB p,by unfold X56; rw [h]; rfl⟩
   change Xr _ _ _ _ (Xv [(0,⟨32,[Xi .u8 (List.replicate 32 0)]⟩),(1,kid1 [] 3),(3,wBx (X56 s p))]) _;rw [hxl] at hWt htl ⊢;rw [Y04] at htl;refine gd 23 ⟨?_⟩;refine Za (Zx (ob:=1) (id:=3) (i0:=0) (j0:=0) (bo:=kid1 [] 3) (b:=wBx (x :: l)) rfl rfl (by decide) (Zg _) (by decide) (by decide) rfl) ?_;refine ZU (id:=1) (Zlk x l false (by omega)) rfl rfl rfl rfl ⟨⟨Zg _,Yt⟩,Yt⟩ Yt ?_;rintro r b' hr1 hr2 ⟨rfl,rfl⟩;refine Qe (ZhV (x :: l) false hWt (by rw [Y04];omega)) ⟨Zg _,Yt⟩ ?_;have hcl:(Xi .u8 (dig (x :: l))).length=32:=by rw [ZI,Z6i]
   refine Qo (Z5d (l:=Xi .u8 (List.replicate 32 0)) rfl rfl rfl hcl rfl) ?_;refine go ?_;refine Z8 (Z2f (Z4V (l:=Xi .u8 (dig (x :: l)) ++ []) (r:=Xi .u8 (dig (x :: l))) rfl rfl ?_ ?_)) (ZN _ _) rfl
   . rw [Y0p,hcl]; decide
   . rw [Y0p,Y12,YA (by rw [hcl]; exact Y0m _)]
def prW (p:Pr):List Nat:=grp p.1++grp p.2
def hyB (l:List Pr):List Nat:=grp l.length++l.flatMap prW
theorem Zlm {p:Pr} (h:p.1<=63/\p.2<=63):(prW p).length<=130:=by
 unfold prW;rw [Y0e];have:=Z1L p.1;have:=Z1L p.2;omega
theorem Z7V:∀ (l:List Pr),(∀ p∈l,p.1<=63/\p.2<=63)->(l.flatMap prW).length<=130*l.length
 | [],_=>Y0m _
 | p :: l, h => by
   rw [Y1T,Y0e,Y04];have:=Zlm (h p (Y0t ..));have:=Z7V l fun q hq=>h q (YB _ hq);omega
theorem ZcW {l:List Pr} (h:∀ p∈l,p.1<=63/\p.2<=63):(hyB l).length<=131*l.length+1:=by
 unfold hyB;rw [Y0e];have:=Z1L l.length;have:=Z7V l h;omega
theorem ZmM (l:List Pr):W8 (hyB l):=fun x hx=>by
 rcases Y0h.1 hx with h|h
 . exact Zb5 _ x h
 . obtain ⟨p, _, h⟩ := Y1h.1 h;exact (Y0h.1 h).elim (Zb5 _ x) (Zb5 _ x)
theorem ZcX (l:List Pr) (S:List Nat) (h:∀ p∈l,p.1<=63/\p.2<=63) (hb:l.length<=1000):X7 Tryz.prog 76 [X16 l S] (· = .vec (bys (hyB l)) false):=by
 refine Yp ok76 fun C hC=>?_;have hgl:=Z1L l.length;have hml:(l.map prC).length=l.length:=Y0f ..;refine gd 9 ⟨?_⟩;refine Z3B Z9X (Z7I 0 0) Z7U rfl rfl Yt ?_;refine Za (Z2X (ob:=0) (i0:=0) (j0:=0) (bo:=⟨1,[[.vec [] true]]⟩) 1 (by decide) rfl (by decide) (by decide) rfl) ?_;refine gd 11 ⟨?_⟩;refine Qe (Z8I l S (by omega)) ⟨Zo _ _,Yt⟩ ?_;refine gd 15 ⟨?_⟩;refine Ze (v:=(l.length:Int)) rfl rfl rfl (by rw [hml]; exact Y0x _ ⟨by omega,by omega⟩) ?_;refine Z17 (k:=0) (i:=1) (q := []) (b1:=wBx []) (Z6x [] l.length (by omega) (by show 0+_<_;omega)) rfl rfl rfl rfl rfl (by decide) Yt ⟨Yt,Yt⟩ Yt Yt ?_;rintro r b' hr1 hr2 rfl;rw [Y1e];refine go ?_;refine Zv hC (fun i=>i<=l.length) (fun i=>l.length-i) 3 (fun i => [(3,.ptr 0 0 0),(17,.vec (l.map prC) false),(18,.val (.int .i64 (l.length:Int))),(19,Yv i)]) (fun i => [(0,kid1 [] 2),(2,wBx (grp l.length++(l.take i).flatMap prW))]) (by decide) 0 (Y0l _)
  (fun i=>i) (fun _ _=>rfl) (Zq rfl) ⟨Qt 0 0 0,Qp (Zk _),⟨_,by rw [<- hml]; rfl,.pure _ Yt⟩,Qp Yt,Yt⟩
  ⟨⟨by decide,_,rfl,Xw.single ⟨.own 2 (by decide),Yt⟩ rfl⟩,⟨by decide,wBx (grp l.length++(l.take 0).flatMap prW),by rw [Y1r,Y3M,Y0p]; rfl,.same _ (Zg _)⟩,Yt⟩ ?_
 intro i hi;have hfl:=Z7V (l.take i) fun p hp=>h p (YM hp);rw [Y0o,Y1X hi] at hfl;have hinc:IntKind.i64.wrap ((i:Int)+1)=((i+1:Nat):Int):=wi (i+1) (by omega);refine gd 20 ⟨?_⟩;by_cases hil:i<l.length
 . refine Qo (Qy rfl (by omega)) ?_;have hci:=h l[i] (Y0j hil);have hft:(l.take (i+1)).flatMap prW=(l.take i).flatMap prW++prW l[i]:=by
    rw [Y33 hil,Y1K,Y3R]
   refine gd 21 ⟨?_⟩;refine Qo (Zl (xs:=l) (g:=prC) rfl rfl i rfl hil rfl) ?_;generalize l[i]=p at hci hft;have g1:=Z1L p.1;refine gd 26 ⟨?_⟩;refine Ze (v:=(p.1:Int)) rfl rfl rfl (Y0x _ ⟨by omega,by omega⟩) ?_;refine Z17 (k:=0) (i:=2) (Z6x (grp l.length++(l.take i).flatMap prW) p.1 (by omega) (by rw [Y0e];omega)) rfl rfl rfl rfl rfl (by decide) Yt ⟨Yt,Yt⟩ Yt (Zg _) ?_;rintro r b' hr1 hr2 rfl;refine gd 31 ⟨?_⟩;refine Ze (v:=(p.2:Int)) rfl rfl rfl (Y0x _ ⟨by omega,by omega⟩) ?_;refine Z17 (k:=0) (i:=4) (Z6x (grp l.length++(l.take i).flatMap prW++grp p.1) p.2 (by omega) (by rw [Y0e,Y0e];omega)) rfl rfl rfl rfl rfl (by decide) Yt ⟨Yt,Yt⟩ Yt (Zg _) ?_;rintro r b' hr1 hr2 rfl;refine go ?_;exact⟨i+1,mv 2 5,by omega,by omega,Z3n (by decide),Zq rfl,⟨Qt 0 0 0,Qp (Zk _),Qp Yt,⟨_,by show some _=some _; rw [hinc],.pure _ Yt⟩,Yt⟩,⟨⟨by decide,_,rfl,Xw.single ⟨.own 2 (by decide),Yt⟩ rfl⟩,⟨by decide,_,rfl,by rw [hft,show grp l.length++((l.take i).flatMap prW++prW p)=grp l.length++(l.take i).flatMap prW++grp p.1++grp p.2 by unfold prW; simp only [YT]]; exact .same _ (Zg _)⟩,Yt⟩⟩
 . obtain rfl : i = l.length := by omega
   refine Qo (Qz rfl (by omega)) ?_;have hyl:=ZcW h;obtain⟨x,m,hxm⟩:∃ x m,hyB l=x :: m:=by
    obtain⟨x,m,h⟩:=Zee l.length;exact⟨x,m++l.flatMap prW,by unfold hyB; rw [h]; rfl⟩
   rw [Y0q];change Xr _ _ _ _ (Xv [(0,kid1 [] 2),(2,wBx (hyB l))]) _;rw [hxm] at hyl ⊢;rw [Y04] at hyl;refine gd 35 ⟨?_⟩;refine Za (Zx (ob:=0) (id:=2) (i0:=0) (j0:=0) (bo:=kid1 [] 2) (b:=wBx (x :: m)) rfl rfl (by decide) (Zg _) (by decide) (by decide) rfl) ?_;refine ZU (id:=0) (Zlk x m false (by omega)) rfl rfl rfl rfl ⟨⟨Zg _,Yt⟩,Yt⟩ Yt ?_;rintro r b' hr1 hr2 ⟨rfl,rfl⟩;refine go ?_;exact Z8 rfl (Zg _) rfl
structure PbW (t:PB):Prop where
 n:t.n<=63
 st:t.st<256
 rs:∀ r∈t.rs,r.cu.1<256/\r.cu.2<256/\r.tg<=63
 nv:∀ c∈t.nv,c.1<256/\c.2<256
 gl:∀ c∈t.gl,c.1<256/\c.2<256
 lk:∀ p∈t.l,p.1<=63/\p.2<=63
 ll:t.l.length<=100
 rl:t.rs.length<=100
 nl:t.nv.length<=100
 gn:t.gl.length<=100
def rB (r:RU):List Nat := [cond r.rev 1 0]++cB r.cu++grp r.tg
def hdB (t:PB):List Nat:=grp t.n++wB (hyB t.l)++wB (sB t.st)++grp t.rs.length
def pbB (t:PB):List Nat:=hdB t++t.rs.flatMap rB++lB t.nv++lB t.gl
theorem Zmk {r:RU} (h:r.tg<=63):(rB r).length<=71:=by
 unfold rB;rw [Y0e,Y0e];have:=Z1L r.tg;have:=ZhU r.cu;show 1+_+_<=_;omega
theorem Zb7:∀ (l:List RU),(∀ r∈l,r.tg<=63)->(l.flatMap rB).length<=71*l.length
 | [],_=>Y0m _
 | p :: l, h => by
   rw [Y1T,Y0e,Y04];have:=Zmk (h p (Y0t ..));have:=Zb7 l fun q hq=>h q (YB _ hq);omega
theorem Zln {t:PB} (h:PbW t):(hdB t).length<=30000:=by
 unfold hdB;rw [Y0e,Y0e,Y0e];have h1:=Z1L t.n;have h2:=Z5O (hyB t.l);have h3:=ZcW h.lk;have h4:=Z5O (sB t.st);have h5:=Z8V t.st;have h6:=Z1L t.rs.length;have:=h.n; have:=h.ll; have:=h.rl;omega
theorem ZmN {N:Nat} (h:N<256):W8 (sB N):=fun x hx=>by
 unfold sB at hx
 split at hx
 . cases hx
 . rw [Y0g] at hx; rw [hx]; exact h
theorem ZmS {c:Cu} (h:c.1<256/\c.2<256):W8 (cB c):=fun x hx=>(Y0h.1 hx).elim (ZlC (ZmN h.1) x) (ZlC (ZmN h.2) x)
theorem ZmT {cs:List Cu} (h:∀ c∈cs,c.1<256/\c.2<256):W8 (lB cs):=fun x hx=>by
 rcases Y0h.1 hx with hx|hx
 . exact Zb5 _ x hx
 . obtain ⟨c, hc, hx⟩ := Y1h.1 hx;exact ZmS (h c hc) x hx
theorem W8.app {l m:List Nat} (hl:W8 l) (hm:W8 m):W8 (l++m):=fun x hx=>(Y0h.1 hx).elim (hl x) (hm x)
theorem ZmO {t:PB} (h:PbW t):W8 (pbB t):=by
 refine W8.app (W8.app (W8.app (W8.app (W8.app (W8.app (Zb5 _) (ZlC (ZmM _))) (ZlC (ZmN h.st))) (Zb5 _)) fun x hx=>?_) (ZmT h.nv)) (ZmT h.gl);obtain⟨r,hr,hx⟩:=Y1h.1 hx;have hc:=h.rs r hr;exact W8.app (W8.app (fun x hx=>by rw [Y0g] at hx; rw [hx]; cases r.rev<;>decide) (ZmS ⟨hc.1,hc.2.1⟩)) (Zb5 _) x hx
def X1e (t:PB):List Nat:=dig (X56 ⟨#[112,114,111,98,108,101,109]⟩ (pbB t))
theorem Z3f {t:PB} (h:Xo t) (hw:PbW t) (S:List Nat):X7 Tryz.prog 33 [.agg (pbP t S)] (· = .agg (Xi .u8 (X1e t))):=by
 refine Yp ok33 fun C hC=>?_;have hl1:=Z1L t.n;have hl2:=Z5O (hyB t.l);have hl3:=ZcW hw.lk;have hl4:=Z5O (sB t.st);have hl5:=Z8V t.st;have hl6:=Z1L t.rs.length;have hn:=hw.n; have hll:=hw.ll; have hrl:=hw.rl; have hnl:=hw.nl; have hgl:=hw.gn;have hhl:=Zln hw;have hml:(t.rs.map ruP).length=t.rs.length:=Y0f ..;refine gd 7 ⟨?_⟩;refine Qe (Z2i h S) ⟨ZC _ _,Yt⟩ ?_;refine gd 10 ⟨?_⟩;refine Z3B Z9X (Z7I 0 0) Z7U rfl rfl Yt ?_;refine Za (Z2X (ob:=2) (i0:=0) (j0:=0) (bo:=⟨1,[[.vec [] true]]⟩) 1 (by decide) rfl (by decide) (by decide) rfl) ?_;refine gd 14 ⟨?_⟩;refine Ze (v:=(t.n:Int)) rfl rfl rfl (Y0x _ ⟨by omega,by omega⟩) ?_;refine Z17 (k:=2) (i:=3) (q := []) (b1:=wBx []) (Z6x [] t.n (by omega) (by show 0+_<_;omega)) rfl rfl rfl rfl rfl (by decide) Yt ⟨Yt,Yt⟩ Yt Yt ?_;rintro r b' hr1 hr2 rfl;rw [Y1e];refine gd 19 ⟨?_⟩;refine Qe (ZcX t.l S hw.lk (by omega)) ⟨Zo _ _,Yt⟩ ?_;refine Z17 (k:=2) (i:=4) (Z6Y (grp t.n) (hyB t.l) false (by omega)) rfl rfl rfl rfl rfl (by decide) Yt ⟨Zg _,Yt⟩ Yt (Zg _) ?_;rintro r b' hr1 hr2 rfl;refine gd 24 ⟨?_⟩;refine Z17 (k:=2) (i:=5) (Zlj (grp t.n++wB (hyB t.l)) t.st hw.st (by rw [Y0e];omega)) rfl rfl rfl rfl rfl (by decide) Yt ⟨Z2 _,Yt⟩ Yt (Zg _) ?_;rintro r b' hr1 hr2 rfl;refine gd 29 ⟨?_⟩;refine Ze (v:=(t.rs.length:Int)) rfl rfl rfl (by rw [hml]; exact Y0x _ ⟨by omega,by omega⟩) ?_;refine Z17 (k:=2) (i:=6) (Z6x (grp t.n++wB (hyB t.l)++wB (sB t.st)) t.rs.length (by omega) (by rw [Y0e,Y0e];omega)) rfl rfl rfl rfl rfl (by decide) Yt ⟨Yt,Yt⟩ Yt (Zg _) ?_;rintro r b' hr1 hr2 rfl;change Xr _ _ _ _ (X2.upd _ _ (wBx (hdB t))) _;refine go ?_;refine Zv hC (fun i=>i<=t.rs.length) (fun i=>t.rs.length-i) 8 (fun i => [(1,.ptr 0 0 0),(2,.ptr 1 0 0),(3,.ptr 2 0 0),(32,.vec (t.rs.map ruP) false),(33,.val (.int .i64 (t.rs.length:Int))),(34,Yv i)]) (fun i => [(0,⟨6,[pbP t S]⟩),(1,⟨32,[Xi .u8 (List.replicate 32 0)]⟩),(2,kid1 [] 7),(7,wBx (hdB t++(t.rs.take i).flatMap rB))]) (by decide) 0 (Y0l _)
  (fun i=>i) (fun _ _=>rfl) (Zq rfl) ⟨Qt 0 0 0,Qt 1 0 0,Qt 2 0 0,Qp (ZE _),⟨_,by rw [<- hml]; rfl,.pure _ Yt⟩,Qp Yt,Yt⟩
  ⟨Qs ⟨ZC t S,Yt⟩,⟨by decide,⟨32,[Xi .u8 (List.replicate 32 0)]⟩,by kernel_rfl,.same _ ⟨ZN _ _,Yt⟩⟩,⟨by decide,_,rfl,Xw.single ⟨.own 7 (by decide),Yt⟩ rfl⟩,⟨by decide,wBx (hdB t++(t.rs.take 0).flatMap rB),by rw [Y1r,Y3M,Y0p]; rfl,.same _ (Zg _)⟩,Yt⟩ ?_
 intro i hi;have hfl:=Zb7 (t.rs.take i) fun r hr=>(hw.rs r (YM hr)).2.2;rw [Y0o,Y1X hi] at hfl;have hinc:IntKind.i64.wrap ((i:Int)+1)=((i+1:Nat):Int):=wi (i+1) (by omega);refine gd 35 ⟨?_⟩;by_cases hil:i<t.rs.length
 . refine Qo (Qy rfl (by omega)) ?_;have hci:=hw.rs t.rs[i] (Y0j hil);have hft:(t.rs.take (i+1)).flatMap rB=(t.rs.take i).flatMap rB++rB t.rs[i]:=by
    rw [Y33 hil,Y1K,Y3R]
   refine gd 36 ⟨?_⟩;refine Qo (Zl (xs:=t.rs) (g:=ruP) rfl rfl i rfl hil rfl) ?_;generalize t.rs[i]=u at hci hft;have hg:=Z1L u.tg;have hcl:=ZhU u.cu;have htot:(hdB t++(t.rs.take i).flatMap rB).length<=40000:=by rw [Y0e]; omega
   generalize hww:hdB t++(t.rs.take i).flatMap rB=ww at htot;refine gd 40 ⟨?_⟩;refine Z0 (p:=.val (.bool u.rev)) rfl rfl rfl ?_;refine Z17 (k:=2) (i:=7) (Zmh ww u.rev (by omega)) rfl rfl rfl rfl rfl (by decide) Yt ⟨Yt,Yt⟩ Yt (Zg _) ?_;rintro r b' hr1 hr2 rfl;refine gd 45 ⟨?_⟩;refine Z17 (k:=2) (i:=9) (Zmi (ww ++ [cond u.rev 1 0]) u.cu ⟨hci.1,hci.2.1⟩ (by rw [Y0e,Y0s];omega)) rfl rfl rfl rfl rfl (by decide) Yt ⟨ZA _,Yt⟩ Yt (Zg _) ?_;rintro r b' hr1 hr2 rfl;refine gd 49 ⟨?_⟩;refine Ze (v:=(u.tg:Int)) rfl rfl rfl (Y0x _ ⟨by omega,by omega⟩) ?_;refine Z17 (k:=2) (i:=10) (Z6x (ww ++ [cond u.rev 1 0]++cB u.cu) u.tg (by omega) (by rw [Y0e,Y0e,Y0s];omega)) rfl rfl rfl rfl rfl (by decide) Yt ⟨Yt,Yt⟩ Yt (Zg _) ?_;rintro r b' hr1 hr2 rfl;refine go ?_;exact⟨i+1,mv 7 11,by omega,by omega,Z3n (by decide),Zq rfl,⟨Qt 0 0 0,Qt 1 0 0,Qt 2 0 0,Qp (ZE _),Qp Yt,⟨_,by show some _=some _; rw [hinc],.pure _ Yt⟩,Yt⟩,⟨Qs ⟨ZC t S,Yt⟩,Qs ⟨ZN _ _,Yt⟩,⟨by decide,_,rfl,Xw.single ⟨.own 7 (by decide),Yt⟩ rfl⟩,⟨by decide,_,rfl,by rw [hft,show hdB t++((t.rs.take i).flatMap rB++rB u)=ww ++ [cond u.rev 1 0]++cB u.cu++grp u.tg by rw [<- hww]; unfold rB; simp only [YT]]; exact .same _ (Zg _)⟩,Yt⟩⟩
 . obtain rfl : i = t.rs.length := by omega
   refine Qo (Qz rfl (by omega)) ?_;rw [Y0q] at hfl ⊢;have htot:(hdB t++t.rs.flatMap rB).length<=40000:=by rw [Y0e]; omega
   have hpb:pbB t=hdB t++t.rs.flatMap rB++lB t.nv++lB t.gl:=rfl;have hlb:=Zkg t.nv;have hlg:=Zkg t.gl;have hpW:=ZmO hw;generalize hww:hdB t++t.rs.flatMap rB=ww at htot hpb;refine gd 55 ⟨?_⟩;refine Z17 (k:=2) (i:=7) (Zkh ww t.nv false hw.nv (by omega)) rfl rfl rfl rfl rfl (by decide) Yt ⟨Zb Zh _,Yt⟩ Yt (Zg _) ?_;rintro r b' hr1 hr2 rfl;refine gd 59 ⟨?_⟩;refine Z17 (k:=2) (i:=8) (Zkh (ww++lB t.nv) t.gl false hw.gl (by rw [Y0e];omega)) rfl rfl rfl rfl rfl (by decide) Yt ⟨Zb Zh _,Yt⟩ Yt (Zg _) ?_;rintro r b' hr1 hr2 rfl;have hpl:(pbB t).length<100000:=by rw [hpb,Y0e,Y0e]; omega
   have hid:X1e t=dig (X56 ⟨#[112,114,111,98,108,101,109]⟩ (pbB t)):=rfl;rw [<- hpb];obtain⟨x,m,hxm⟩:∃ x m,pbB t=x :: m:=by
    obtain⟨x,m,h⟩:=Zee t.n;exact⟨x,m++(wB (hyB t.l)++(wB (sB t.st)++(grp t.rs.length++(t.rs.flatMap rB++(lB t.nv++lB t.gl))))),by unfold pbB hdB; rw [h]; simp only [YT,Y3O]⟩
   rw [hxm] at hpl hpW hid ⊢;rw [Y04] at hpl;refine gd 61 ⟨?_⟩;refine Za (Zx (ob:=2) (id:=9) (i0:=0) (j0:=0) (bo:=kid1 [] 9) (b:=wBx (x :: m)) rfl rfl (by decide) (Zg _) (by decide) (by decide) rfl) ?_;refine ZU (id:=2) (Zlk x m false (by omega)) rfl rfl rfl rfl ⟨⟨Zg _,Yt⟩,Yt⟩ Yt ?_;rintro r b' hr1 hr2 ⟨rfl,rfl⟩;refine gd 63 ⟨?_⟩;refine Qe (ZcV ⟨#[112,114,111,98,108,101,109]⟩ (x :: m) false hpW (by decide) (by rw [Y04];omega)) ⟨Yt,⟨⟨Zg _,Yt⟩,Yt⟩,Yt⟩ ?_;rw [<- hid];have hcl:(Xi .u8 (X1e t)).length=32:=by rw [ZI]; exact Z6i _
   generalize hcc:Xi .u8 (X1e t)=cc at hcl;have hcp:X5 cc:=hcc▸ZN _ _;refine Qo (Z5d (l:=Xi .u8 (List.replicate 32 0)) rfl rfl rfl hcl rfl) ?_;refine go ?_;refine Z8 (Z2f (Z4V (l:=cc ++ []) (r:=cc) rfl rfl ?_ ?_)) hcp rfl
   . rw [Y0p,hcl]; decide
   . rw [Y0p,Y12,YA (by rw [hcl]; exact Y0m _)]
theorem Zfx (xs:List Nat) (fl:Bool) (hlen:xs.length<=1000000):X1y Tryz.prog 134 [.vec (inL xs) fl] .own ⟨1,inL xs⟩:=by
 refine Z1A ok134 (Y0 rfl) fun C hC=>?_;have fin:∀ (x:Nat) (xs:List Nat),(∀ c∈inL (x :: xs),c.length=1):=fun x xs c hc=>by obtain⟨y,_,rfl⟩:=Y0i.1 hc; rfl
 cases xs with
 | nil =>
   refine go ?_;refine Z4H (.inl ⟨_,_,rfl⟩) rfl fun b=>?_;cases b
   . repeat' (first | refine Za (Zy (k := 5) rfl 1 (by decide)) ?_ | (first|refine st ?_|(apply B<;>intro hb<;>try cases hb)))
     exact⟨_,_,rfl,.inl rfl,_,rfl,rfl⟩
   . iterate 6 (first|refine st ?_|(apply B<;>intro hb<;>try cases hb))
     refine Z1U (Zy (k:=2) rfl 1 (by decide) _) ?_;refine go ?_;exact⟨_,_,rfl,.inl rfl,_,rfl,rfl⟩
 | cons x xs =>
   repeat' (first|refine Za (Zy (k:=5) rfl 1 (by decide)) ?_|(first|refine st ?_|(apply B<;>intro hb<;>try cases hb)))
   refine ZH (Zu (k:=0) (m:=inL (x :: xs)) (fl:=fl) rfl rfl rfl (fin x xs) rfl (by
    show (([]:List (List PV)).length+(inL (x :: xs)).length)*8<=_
    rw [Z23,Y2E];omega)) rfl rfl ?_
   refine go ?_;exact⟨_,_,rfl,.inl rfl,_,rfl,by rw [Y1e]; rfl⟩
theorem Z7W (xs:List Nat) (fl:Bool) (g:Nat) (p:Nat->Bool) (hg:∀ x∈xs,X7 Tryz.prog g [.val (.int .i64 (x:Int))] (· = .val (.bool (p x)))) :
 X7 Tryz.prog 141 [.vec (inL xs) fl,.fn g []] (· = .val (.int .i64 (X2L p xs))):=by
 refine Yp ok141 fun C hC=>?_;refine Z40 (k:=0) rfl fun hmax=>?_;have hnl:(inL xs).length=xs.length:=by simp [inL]
 have hlm:xs.length<=Xj:=by rw [<- hnl]; exact hmax
 refine go ?_;refine Z4A (fun i=>i<=xs.length/\(xs.take i).any p=false) (fun i=>xs.length-i) (fun i => [(0,.vec (inL xs) fl),(1,.fn g []),(7,.val (.int .i64 (xs.length:Int))),(8,Yv i)]) 0 ⟨Y0l _,rfl⟩ ⟨rfl,rfl,by rw [<- hnl]; rfl,rfl,Yt⟩ ?_;rintro i ⟨hi,hno⟩;have hinc:IntKind.i64.wrap ((i:Int)+1)=((i+1:Nat):Int):=Y0v _ ⟨by omega,by simp only [Xj] at hlm; omega⟩;(refine go ?_;repeat' (apply B<;>intro hb<;>try cases hb))
 . have hil : i < xs.length := by simpa using hb
   refine Qo (Zl (xs:=xs) (g:=X31) rfl rfl i rfl hil rfl) ?_;(first|refine st ?_|(apply B<;>intro hb<;>try cases hb));refine Qe (hg _ (Y0j hil)) ⟨Yt,Yt⟩ ?_;refine Z1M ?_;refine Z5Z rfl (fun hx=>?_) (fun hx=>?_)
   . refine go ?_;exact Z8 rfl Yt (by rw [Z64 hil hno hx])
   . (refine go ?_;repeat' (apply B<;>intro hb<;>try cases hb));exact⟨i+1,⟨by omega,Z4I hil hno hx⟩,by omega,rfl,rfl,⟨rfl,rfl,rfl,by show some _=some _; rw [hinc],Yt⟩⟩
 . have hil : i = xs.length := by simp at hb; omega
   subst hil;rw [Y0q] at hno;exact Z8 rfl Yt (by rw [Z2O hno]; rfl)
theorem Z5P (xs:List Nat) (fl:Bool) (g:Nat) (p:Nat->Bool) (hg:∀ x∈xs,X7 Tryz.prog g [.val (.int .i64 (x:Int))] (· = .val (.bool (p x)))) :
 X7 Tryz.prog 83 [.vec (inL xs) fl,.fn g []] (· = .val (.bool (xs.any p))):=by
 refine Yp ok83 fun C hC=>?_;refine go ?_;refine Qe (Z7W xs fl g p hg) ⟨Zs xs,Yt,Yt⟩ ?_;refine Qo (Z4 rfl (Z5w (p:=p) (xs:=xs))) ?_;(refine go ?_;repeat' (apply B<;>intro hb<;>try cases hb))
 all_goals exact Z8 rfl Yt (by rw [hb])
theorem ZhW (k:Nat):X7 Tryz.prog 84 [.val (.int .i64 (k:Int))] (· = .val (.bool (decide (64<=k)))):=by
 refine Yp ok84 fun C hC=>?_;refine gd 4 ⟨?_⟩;refine Qo (Qz rfl (by omega)) ?_;refine gd 7 ⟨?_⟩;refine Zn rfl ?_;refine Qo (Z4 (v:=decide (64<=k)) rfl (Y27.2 (by omega))) ?_;cases decide (64<=k)
 . refine go ?_;exact Z8 rfl Yt rfl
 . refine go ?_;exact Z8 rfl Yt rfl
def XI (id:List Nat) (b:Bool) (p:List Nat) (fp:Bool) (l:List Cu) (fl:Bool):List PV:=Xi .u8 id ++ [.val (.bool b),.vec (inL p) fp,.vec (l.map cuC) fl]
theorem Z1J (id:List Nat) (b:Bool) (p:List Nat) (fp:Bool) (l:List Cu) (fl:Bool):X5 (XI id b p fp l fl):=Z1D (ZN _ _) ⟨Yt,Zs _,Zb Zh _,Yt⟩
theorem Z6j (cc t cs:List PV) (n j:Nat) (h:cc.length=n):Xl (cc++t) (n+j) cs=cc++Xl t j cs:=by
 subst h;unfold Xl;rw [Y2S,YA (by omega),Y2q,Y1N,Y2x,Y1G (by omega),Y2q,Y1e,YT,YT,YT]
theorem Zlo {e:Env} {a b c:Operand} {cc:List PV} {q:PV} (ha:ev e a=some (.agg cc)) (hc:ev e c=some q) (hq:q.flat=true) (hq1:q.cells = [q]) (hl:cc.length=32) (z:List PV) (hz:z.length=35) (x:PV) (hb:ev e b=some (.val (.bool true))) (hzd:z.drop 32 = [.val (.bool false),.vec [] true,.vec [] true]):X1b e z [(0,32,a),(32,1,b),(33,1,c)]=some (cc ++ [.val (.bool true),q,.vec [] true]):=by
 have h1:Xl z 0 cc=cc ++ [.val (.bool false),.vec [] true,.vec [] true]:=by
  unfold Xl;rw [Y1r,Y1e,hl,Y15,hzd]
 have e1:(PV.agg cc).cells=cc:=rfl;have e2:(PV.val (.bool true)).cells = [.val (.bool true)]:=rfl;have f1:(PV.agg cc).flat=true:=rfl;have f2:(PV.val (.bool true)).flat=true:=rfl;simp only [X1b,ha,hb,hc,e1,e2,f1,f2,hq,hq1,hl,hz,h1,Y1g,Y0s,Y4o];rw [Y6 (by decide)];rw [show Xl (cc ++ [PV.val (.bool false),.vec [] true,.vec [] true]) 32 [.val (.bool true)]=cc ++ [.val (.bool true),.vec [] true,.vec [] true] from Z6j cc _ _ 32 0 hl];rw [Y6 (by rw [Y0e,hl]; decide)];rw [show Xl (cc ++ [PV.val (.bool true),.vec [] true,.vec [] true]) 33 [q]=cc ++ [.val (.bool true),q,.vec [] true] from Z6j cc _ _ 32 1 hl];rw [Y6 (by rw [Y0e,hl]; decide)]
theorem ZjH {e:Env} {a c:Operand} {cc:List PV} {q:PV} (ha:ev e a=some (.agg cc)) (hc:ev e c=some q) (hq:q.flat=true) (hq1:q.cells = [q]) (hl:cc.length=32) (z:List PV) (hz:z.length=35) (hzd:z.drop 32 = [.val (.bool false),.vec [] true,.vec [] true]):X1b e z [(0,32,a),(34,1,c)]=some (cc ++ [.val (.bool false),.vec [] true,q]):=by
 have h1:Xl z 0 cc=cc ++ [.val (.bool false),.vec [] true,.vec [] true]:=by
  unfold Xl;rw [Y1r,Y1e,hl,Y15,hzd]
 have e1:(PV.agg cc).cells=cc:=rfl;have f1:(PV.agg cc).flat=true:=rfl;simp only [X1b,ha,hc,e1,f1,hq,hq1,hl,hz,h1,Y1g,Y0s,Y4o];rw [Y6 (by decide)];rw [Y6 (by rw [Y0e,hl]; decide)];rw [show Xl (cc ++ [PV.val (.bool false),.vec [] true,.vec [] true]) 34 [q]=cc ++ [.val (.bool false),.vec [] true,q] from Z6j cc _ _ 32 2 hl]
theorem Zml {e:Env} {h:X2} {n:Nat} {z:List Value} {ps:List (Nat×Nat×Operand)} {l:List PV} (hb:X1b e (zpv z) ps=some l):X3 (.build z ps) e h n=some (.agg l,h):=by
 simp only [X3,hb]
def X6M:List PV:=Xi .u8 (List.replicate 32 0) ++ [.val (.bool false),.vec [] true,.vec [] true]
theorem Z2E (t:PB):(X1e t).length=32:=Z6i _
theorem Zb8 {t:PB} (h:Xo t) (hw:PbW t) (S:List Nat) (p:List Nat) (fl:Bool) (hp:p.length<=1000000):X7 Tryz.prog 70 [.agg (pbP t S),.vec (inL p) fl] (· = .agg (XI (X1e t) true p false [] true)):=by
 refine Yp ok70 fun C hC=>?_;have hpp:=ZC t S;have hil:=Z2E t;have hcl:(Xi .u8 (X1e t)).length=32:=by rw [ZI,hil]
 have hlen:(XI (X1e t) true p false [] true).length=35:=by unfold XI; rw [Y0e,hcl]; rfl
 have hcp:=Z1J (X1e t) true p false [] true;have hid:=Z3f h hw S;have hcd:XI (X1e t) true p false [] true=Xi .u8 (X1e t) ++ [.val (.bool true),.vec (inL p) false,.vec [] true]:=rfl;generalize XI (X1e t) true p false [] true=cc at hlen hcp hcd ⊢;generalize Xi .u8 (X1e t)=ci at hid hcl hcd;have hcip:X5 ci:=by rw [hcd] at hcp; exact (Z1n _ _).2 fun q hq=>(Z1n _ _).1 hcp q (Y2M _ hq)
 refine gd 2 ⟨?_⟩;refine Z5 rfl rfl rfl ?_;refine gd 6 ⟨?_⟩;refine Qe hid ⟨hpp,Yt⟩ ?_;refine gd 8 ⟨?_⟩;refine Qe ((Zfx p fl hp).spec (Zs p) (fun _=>.own) (Zs p)) ⟨Zs p,Yt⟩ ?_;refine Qo (Zml (l:=cc) (by rw [hcd]; exact Zlo rfl rfl rfl rfl hcl _ (by kernel_rfl) pvu rfl (by kernel_rfl))) ?_;refine Qo (Z5d (l:=X6M) rfl rfl (by kernel_rfl) hlen (by kernel_rfl)) ?_;refine go ?_;refine Z8 (Z2f (Z4V (l:=cc ++ []) (r:=cc) rfl rfl ?_ ?_)) hcp rfl
 . rw [Y0p,hlen]; decide
 . rw [Y0p,Y12,YA (by rw [hlen]; exact Y0m _)]
theorem Zb9 {t:PB} (h:Xo t) (hw:PbW t) (S:List Nat) (l:List Cu) (fl:Bool) (hl:l.length<=1000000):X7 Tryz.prog 71 [.agg (pbP t S),.vec (l.map cuC) fl] (· = .agg (XI (X1e t) false [] true l false)):=by
 refine Yp ok71 fun C hC=>?_;have hpp:=ZC t S;have hil:=Z2E t;have hcl:(Xi .u8 (X1e t)).length=32:=by rw [ZI,hil]
 have hlen:(XI (X1e t) false [] true l false).length=35:=by unfold XI; rw [Y0e,hcl]; rfl
 have hcp:=Z1J (X1e t) false [] true l false;have hid:=Z3f h hw S;have hcd:XI (X1e t) false [] true l false=Xi .u8 (X1e t) ++ [.val (.bool false),.vec [] true,.vec (l.map cuC) false]:=rfl;generalize XI (X1e t) false [] true l false=cc at hlen hcp hcd ⊢;generalize Xi .u8 (X1e t)=ci at hid hcl hcd;have hcip:X5 ci:=by rw [hcd] at hcp; exact (Z1n _ _).2 fun q hq=>(Z1n _ _).1 hcp q (Y2M _ hq)
 refine gd 2 ⟨?_⟩;refine Z5 rfl rfl rfl ?_;refine gd 6 ⟨?_⟩;refine Qe hid ⟨hpp,Yt⟩ ?_;refine gd 8 ⟨?_⟩;refine Qe ((Z66 l fl hl).spec (Zb Zh l) (fun _=>.own) (Zb Zh l)) ⟨Zb Zh l,Yt⟩ ?_;refine Qo (Zml (l:=cc) (by rw [hcd]; exact ZjH rfl rfl rfl rfl hcl _ (by kernel_rfl) (by kernel_rfl))) ?_;refine Qo (Z5d (l:=X6M) rfl rfl (by kernel_rfl) hlen (by kernel_rfl)) ?_;refine go ?_;refine Z8 (Z2f (Z4V (l:=cc ++ []) (r:=cc) rfl rfl ?_ ?_)) hcp rfl
 . rw [Y0p,hlen]; decide
 . rw [Y0p,Y12,YA (by rw [hlen]; exact Y0m _)]
def X1C:Nat:=X10 (2 ^ 64-1) 0
theorem ZhX:X1C<18446744073709551616:=Zc1 (by decide) 0
def cT:List Cu->Nat
 | []=>0
 | c :: r=>if decide (c.1 ||| c.2 ||| X1C=X1C) then (if emC c then 6 else cT r) else 2
def X5u (p:List Nat) (l:List Cu):Nat:=if p.any (fun k=>decide (64<=k)) then 2 else cT l
def X6D (b:Bool) (p:List Nat) (l:List Cu):Prop:=(b=true/\l = []) \/ (b=false/\p = [])
section
variable {id p:List Nat} {b fp fl:Bool} {l:List Cu}
theorem Z6Z (hid:id.length=32):(XI id b p fp l fl).drop 32=.val (.bool b) :: [.vec (inL p) fp,.vec (l.map cuC) fl]:=by
 unfold XI;rw [Y2x,ZI,hid,Y1G (by rw [ZI,hid]; exact Y0m _)]
 rfl
theorem Z9Y (hid:id.length=32):(XI id b p fp l fl).drop 33=.vec (inL p) fp :: [.vec (l.map cuC) fl]:=by
 unfold XI;rw [Y2x,ZI,hid,Y1G (by rw [ZI,hid]; decide)]
 rfl
theorem Z9Z (hid:id.length=32):(XI id b p fp l fl).drop 34=.vec (l.map cuC) fl :: []:=by
 unfold XI;rw [Y2x,ZI,hid,Y1G (by rw [ZI,hid]; decide)]
 rfl
theorem Z26 (hid:id.length=32):(XI id b p fp l fl).length=35:=by
 unfold XI;rw [Y0e,ZI,hid]
 rfl
end
theorem ZcY (id:List Nat) (hid:id.length=32) (b:Bool) (p:List Nat) (fp:Bool) (l:List Cu) (fl:Bool) (hf:X6D b p l) (hp:p.length<=10000) (hll:l.length<=2000) (hl:∀ c∈l,Xy c):X7 Tryz.prog 34 [.agg (XI id b p fp l fl)] (· = .val (.int .i64 ((X5u p l:Nat):Int))):=by
 refine Yp ok34 fun C hC=>?_;have d32:=Z6Z (b:=b) (p:=p) (fp:=fp) (l:=l) (fl:=fl) hid;have d33:=Z9Y (b:=b) (p:=p) (fp:=fp) (l:=l) (fl:=fl) hid;have d34:=Z9Z (b:=b) (p:=p) (fp:=fp) (l:=l) (fl:=fl) hid;have hlen:=Z26 (b:=b) (p:=p) (fp:=fp) (l:=l) (fl:=fl) hid;have hcp:=Z1J id b p fp l fl;have hil:=Z23 p;have hml:(l.map cuC).length=l.length:=Y0f ..;have hlp:X1 (l.map cuC):=Zb Zh l;generalize XI id b p fp l fl=cc at d32 d33 d34 hlen hcp;have hcf:=Z5P p fp 84 (fun k=>decide (64<=k)) (fun k _=>ZhW k);have hbe:=Z6b 64 (by decide) (by decide);have hwo:=Z1E (2 ^ 64-1) (by decide) 0;change X7 _ _ _ (· = XG X1C) at hwo;have hrl:=ZhX;refine gd 1 ⟨?_⟩;refine Z5 (Z5a rfl (by rw [hlen]; decide)) rfl rfl ?_
 iterate 2 (first|refine st ?_|(apply B<;>intro hb<;>try cases hb))
 have hci:∀ D,X1S D cc:=fun D=>ZG (fun _ h=>h.elim) _ hcp;have hli:∀ D,Xt D (l.map cuC):=fun D=>Zd (fun _ h=>h.elim) _ hlp;refine Zdq hC (p.any (fun k=>decide (64<=k))=false) 0 [(1,.cp cc)] [] (Y0l _) ?_ (fun hany=>?_)
 . refine gd 8 ⟨?_⟩;refine Qo (Z4p rfl d33) ?_;refine gd 10 ⟨?_⟩;refine Qo (Qz rfl (by rw [hil];omega)) ?_;refine gd 13 ⟨?_⟩;refine Zn rfl ?_;refine Qo (Z4p rfl d34) ?_;refine gd 15 ⟨?_⟩;refine Zn rfl ?_;refine Qo (Qz rfl (by rw [hml];omega)) ?_;refine gd 19 ⟨?_⟩;refine Qo (Z4p rfl d32) ?_;rcases hf with⟨rfl,rfl⟩|⟨rfl,rfl⟩
   . refine gd 22 ⟨?_⟩;refine Zn rfl ?_;refine Qo (Z4p rfl d34) ?_;refine gd 28 ⟨?_⟩;refine Zn rfl ?_;refine Qo (Z4p rfl d32) ?_;refine gd 39 ⟨?_⟩;refine Qo (Z4p rfl d33) ?_;refine Qe hcf ⟨Zs p,Yt,Yt⟩ ?_;cases ha:p.any fun k=>decide (64<=k)
     . refine go ?_;exact⟨rfl,⟨⟨rfl,hci _⟩,Yt⟩,Yt⟩
     . refine go ?_;exact Z8 rfl Yt (by unfold X5u; rw [ha]; rfl)
   . refine gd 28 ⟨?_⟩;refine Zn rfl ?_;refine Qo (Z4p rfl d32) ?_;refine gd 32 ⟨?_⟩;refine Zn rfl ?_;refine Qo (Z4p rfl d33) ?_;refine gd 39 ⟨?_⟩;refine Qo (Z4p rfl d33) ?_;refine Qe hcf ⟨Zs _,Yt,Yt⟩ ?_;refine go ?_;exact⟨rfl,⟨⟨rfl,hci _⟩,Yt⟩,Yt⟩
 . have hct : X5u p l = cT l := by unfold X5u; rw [hany]; rfl
   rw [hct];generalize hfin:cT l=fin;refine gd 41 ⟨?_⟩;refine Qe hbe ⟨Yt,Yt⟩ ?_;refine Qe hwo ⟨Z2 _,Yt,Yt⟩ ?_;refine gd 44 ⟨?_⟩;refine Qo (Z4p rfl d34) ?_;refine go ?_;refine Zz hC (fun i=>i<=l.length/\cT (l.drop i)=fin) (fun i=>l.length-i) 1 (fun i => [(3,.ptr 0 0 0),(44,.vec (l.map cuC) fl),(45,.val (.int .i64 (l.length:Int))),(46,Yv i)]) (fun _ => [(0,sBx X1C)]) (by decide) 0 ⟨Y0l _,hfin⟩
    ⟨⟨rfl,show 0<1 by decide⟩,⟨rfl,hli _⟩,⟨by rw [<- hml]; rfl,Yt⟩,⟨rfl,Yt⟩,Yt⟩ ⟨⟨by decide,rfl,ZhF _ _⟩,Yt⟩ ?_
   rintro i ⟨hi,hk⟩;have hinc:IntKind.i64.wrap ((i:Int)+1)=((i+1:Nat):Int):=Y0v _ ⟨by omega,by omega⟩;refine gd 47 ⟨?_⟩;by_cases hil2:i<l.length
   . refine Qo (Qy rfl (by omega)) ?_;have hdr:l.drop i=l[i] :: l.drop (i+1):=Y1n hil2;rw [hdr] at hk;have hc64:=hl _ (Y0j hil2);refine gd 48 ⟨?_⟩;refine Qo (Zl (xs:=l) (g:=cuC) rfl rfl i rfl hil2 rfl) ?_;generalize l[i]=c at hk hc64;have hor:=ZcL hc64.1 hc64.2;have hwi:=Z1z (c.1 ||| c.2) X1C hor hrl;change (if decide (c.1 ||| c.2 ||| X1C=X1C) then (if emC c then 6 else cT (l.drop (i+1))) else 2)=fin at hk;refine gd 54 ⟨?_⟩;refine Qd (Z1w c.1 c.2 hc64.1 hc64.2) ⟨Z2 _,Z2 _,Yt⟩ ?_;refine gd 56 ⟨?_⟩;refine Qd hwi ⟨Z2 _,Z2 _,Yt⟩ ?_;cases hw:decide (c.1 ||| c.2 ||| X1C=X1C)
     . rw [hw, Y8 (by decide)] at hk;refine go ?_;exact Z8 rfl Yt (by rw [<- hk]; rfl)
     rw [hw,Y6 rfl] at hk;refine gd 59 ⟨?_⟩;refine Qe (Z1f c hc64) ⟨ZA _,Yt⟩ ?_;cases he:emC c
     . rw [he, Y8 (by decide)] at hk;refine go ?_;exact⟨i+1,⟨hil2,hk⟩,by omega,⟨⟨rfl,show 0<1 by decide⟩,⟨rfl,hli _⟩,⟨rfl,Yt⟩,⟨by show some _=some _; rw [hinc],Yt⟩,Yt⟩,⟨⟨by decide,rfl,ZhF _ _⟩,Yt⟩⟩
     . rw [he, Y6 rfl] at hk;refine go ?_;exact Z8 rfl Yt (by rw [<- hk]; rfl)
   . obtain rfl : i = l.length := by omega
     refine Qo (Qz rfl (by omega)) ?_;rw [Y3N] at hk;refine go ?_;exact Z8 rfl Yt (by rw [<- hk]; rfl)
end
section
open Go.RowKit
theorem b126 {i:Nat} (h1:1<=i) (h2:i<=6):(126:Nat).testBit i=true:=by
 have:i=1 \/ i=2 \/ i=3 \/ i=4 \/ i=5 \/ i=6:=by omega
 rcases this with rfl|rfl|rfl|rfl|rfl|rfl<;>decide
theorem X6L {i:Nat} (h:(126:Nat).testBit i=true):1<=i/\i<=6:=by
 have hi:i<7:=by
  apply Decidable.byContradiction;intro hn;rw [Y1R (YY (show 126<2 ^ 7 by decide) (YJ (by decide) (by omega)))] at h;cases h
 have:i≠0:=fun e=>by subst e; exact absurd h (by decide)
 omega
theorem ZhY {l:List Pr} (hl:X4g l) {a b:Nat} (h:Up l a b):1<=a/\a<=6:=by
 induction h with
 | one hm=>have:=hl.role _ hm; omega
 | more _ _ ih=>exact ih
theorem Za0 {t:PB} (h:Xo t) (hn:t.n<=5) {c:Cu} (hc:InC t.n c):X1h t.l c ||| 126=126:=Xc.2 fun i hi=>by
 have h64:=hc.lt h.n.2;unfold X1h at hi;rw [Z7L] at hi;obtain⟨x,hx,hb⟩:=hi;obtain⟨b,hbm,rfl⟩:=Y0i.1 hx;rw [ZY (Z1S h64.1 h64.2),Y00,YR] at hbm;have hb1:(mkN t.n).testBit b=true:=hbm.elim (fun h=>Xc.1 hc.y b h) fun h=>Xc.1 hc.n b h;rw [Z21,Y0k,Y0n,Y0n] at hb1;rcases (Z4e h.good.small b i).1 hb with hu|rfl
 . have := ZhY h.good hu;exact b126 this.1 this.2
 . exact b126 hb1.1 (by omega)
theorem Zef {t:PB} (h:Xo t) (hn:t.n<=5) {c:Cu} (hc:InC t.n c):X1h t.l c<18446744073709551616:=by
 have:=Za0 h hn hc;have h2:X1h t.l c<=126:=by rw [<- this]; exact YN
 omega
theorem XQ.b126 {t:PB} (h:Xo t) (hn:t.n<=5) {R:Nat} (hR:XQ t R):R ||| 126=126 :=
 hR.least 126 ⟨fun c hc=>Za0 h hn (h.gl c hc).1,fun x hx _ _=>Za0 h hn (h.rs x hx).cu,fun c hc _=>Za0 h hn (h.nv c hc).1⟩
structure Snd (t:PB) (b:Bool) (p:List Nat) (l:List Cu):Prop where
 form:X6D b p l
 plan:b=true->XY t p/\p.length<=100
 inv:b=false->X4n t fun S=>soC l S=true
 len:l.length<=100
 cub:∀ c∈l,(c.1 ||| c.2) ||| 126=126/\emC c=false
theorem Snd.ok64 {t:PB} {b:Bool} {p:List Nat} {l:List Cu} (h:Snd t b p l):∀ c∈l,Xy c:=fun c hc=>by
 have h1:=(h.cub c hc).1;have h2:c.1 ||| c.2<=126:=by rw [<- h1]; exact YN
 have h3:c.1<=c.1 ||| c.2:=YN
 have h4:c.2<=c.1 ||| c.2:=Nat.right_le_or
 exact⟨by omega,by omega⟩
theorem Zfy:(126:Nat) ||| X1C=X1C:=by decide +kernel
theorem ZhZ:∀ {l:List Cu},(∀ c∈l,(c.1 ||| c.2) ||| 126=126/\emC c=false)->cT l=0
 | [],_=>rfl
 | c :: l, h => by
   obtain⟨h1,h2⟩:=h c (Y0t ..);unfold cT;rw [Y6 (Yw (Z3s h1 Zfy)),h2,Y8 (by decide)];exact ZhZ fun d hd=>h d (YB _ hd)
theorem Zki {t:PB}:∀ (p:List Nat) {S E:Nat},X11 t S p E->∀ k∈p,k<t.rs.length
 | [],S,E,hr,k,hk=>by cases hk
 | j :: p, S, E, ⟨x, hx, hs, hr⟩, k, hk => by
   rcases YD.1 hk with rfl|hk
   . exact (Y7.1 hx).1
   . exact Zki p hr k hk
theorem Snd.chk {t:PB} (h:Xo t) {b:Bool} {p:List Nat} {l:List Cu} (hs:Snd t b p l):X5u p l=0:=by
 unfold X5u;have hp:p.any (fun k=>decide (64<=k))=false:=by
  rw [Y1U];intro k hk;rw [Y0n];cases b with
  | true =>
    obtain⟨⟨E,hr,_⟩,_⟩:=hs.plan rfl;have:=Zki p hr k hk;have:=h.rl;omega
  | false =>
    rcases hs.form with⟨hb,_⟩|⟨_,rfl⟩
    . cases hb
    . cases hk
 rw [hp,Y8 (by decide)];exact ZhZ hs.cub
theorem Snd.able {t:PB} (h:Xo t) {b:Bool} {p:List Nat} {l:List Cu} (hs:Snd t b p l):b=true↔X1I t t.st:=by
 cases b with
 | true=>exact⟨fun _=>(hs.plan rfl).1.able h,fun _=>rfl⟩
 | false=>exact⟨(fun hb=>by cases hb),fun ha=>absurd ha ((hs.inv rfl).not_able h)⟩
theorem Zlp {R:Nat} (hR:R ||| 126=126) (c:Cu):((X2I R c).1 ||| (X2I R c).2) ||| 126=126:=by
 refine Zhq (Xc.2 fun i hi=>?_) (Xc.2 fun i hi=>?_)
 . have hi : (c.1 &&& R).testBit i = true := hi;rw [Y0z,Y0k] at hi;exact Xc.1 hR i hi.2
 . have hi : (c.2 &&& R).testBit i = true := hi;rw [Y0z,Y0k] at hi;exact Xc.1 hR i hi.2
theorem Zmm {R:Nat} {c:Cu} (h:emC c=false):emC (X2I R c)=false:=by
 unfold emC at h ⊢;rw [Y3B] at h ⊢;rw [Y3A] at h ⊢;refine YE fun i=>?_;have:=congrArg (fun n=>n.testBit i) h;simp only [Y0z,Y1I,X2I] at this ⊢;cases h1:c.1.testBit i with
 | false=>rfl
 | true=>rw [h1,Y1g] at this; rw [this]; simp
end
section
open Go.RowKit
attribute [local irreducible] aw Xr dK
theorem Za1 (x:Nat):∀ l:List Nat,orL (l ++ [x])=orL l ||| x
 | []=>by show x ||| 0=0 ||| x; rw [Nat.or_zero,Y46]
 | y :: l=>by show y ||| orL (l ++ [x])=(y ||| orL l) ||| x; rw [Za1 x l,Y3t]
noncomputable def X6g (l:List Pr) (xs:List Nat):Nat:=orL (xs.map (sen l))
theorem Zi0 (l:List Pr) (xs:List Nat) (x:Nat):X6g l (xs ++ [x])=X6g l xs ||| sen l x:=by unfold X6g; rw [Y0r]; exact Za1 _ _
theorem Zlq {l:List Pr} (hl:XN l) {xs:List Nat} (h:∀ x∈xs,x<64):X6g l xs<18446744073709551616:=Zht fun y hy=>by
 obtain⟨x,hx,rfl⟩:=Y0i.1 hy;exact ZdN l hl (h x hx)
theorem Zmn (l:List Pr) (c:Cu):X1h l c=X6g l (mem (c.1 ||| c.2)):=rfl
theorem Zlr {n:Nat} (hn:n<=5) {c:Cu} (hc:InC n c) {r:Nat} (hr:r∈mem (c.1 ||| c.2)):1<=r/\r<=5:=by
 have h64:=hc.lt (by omega);rw [ZY (Z1S h64.1 h64.2),Y00,YR] at hr;have hb1:(mkN n).testBit r=true:=hr.elim (fun h=>Xc.1 hc.y r h) fun h=>Xc.1 hc.n r h;rw [Z21,Y0k,Y0n,Y0n] at hb1;omega
theorem Z38 {t:PB} (h:Xo t) (hn:t.n<=5) (S:List Nat) (c:Cu) (hc:InC t.n c):X7 Tryz.prog 23 [.agg (pbP t S),.agg (cuC c)] (· = XG (X1h t.l c)):=by
 have hpp:=ZC t S;have h64:=hc.lt h.n.2;have hM:=Z1S h64.1 h64.2;have hmem:=fun r (hr:r∈mem (c.1 ||| c.2))=>Zlr hn hc hr;have hpi:∀ D,X1S D (pbP t S):=fun D=>ZG (fun _ h=>h.elim) _ hpp;have hci:∀ D,X1S D (cuC c):=fun D=>ZG (fun _ h=>h.elim) _ (Zh c);refine Yp ok23 fun C hC=>?_;rw [Zmn];refine Zm ?_;refine Z9 ?_;refine Z5 rfl rfl rfl ?_;refine Z5 rfl rfl rfl ?_;refine gd 11 ⟨?_⟩;refine Qe (Z1w c.1 c.2 h64.1 h64.2) ⟨Z2 _,Z2 _,Yt⟩ ?_;generalize c.1 ||| c.2=M at hM hmem
 refine Qe (Z1F M) ⟨Z2 _,Yt⟩ ?_;refine go ?_;refine Z2v (X:=List Nat) hC (caps := [.cp [.vec (X4 (Xb M)) false]]) [(2,.cp (pbP t S)),(3,.cp (cuC c)),(4,.ptr 0 0 0),(5,.ptr 1 0 0),(12,.fn 121 [.cp [.vec (X4 (Xb M)) false]])]
  (fun z => [(0,⟨1,[[.vec [] true]]⟩),(1,sBx (X6g t.l z))]) rfl ⟨⟨Z7 _,Yt⟩,Yt⟩ (Z2x M hM) (fun _=>rfl)
  (fun ex pre z=>ex=.normal/\z=pre.map (·.val)) 2 (by decide) [] ⟨rfl,rfl⟩
  (Z30 (X3r.mem (ρ := fun i => i) (m := 2) (L := [(2, .cp (pbP t S)), (3, .cp (cuC c)), (4, .ptr 0 0 0), (5, .ptr 1 0 0), (12, .fn 121 [.cp [.vec (X4 (Xb M)) false]])]) ⟨Qp hpp, Qp (Zh c), Qt 0 0 0, Qt 1 0 0, Qp ⟨⟨Z7 _, Yt⟩, Yt⟩, Yt⟩)
    (X1o.mem (ρ:=fun i=>i) (m:=2) (L := [(0,⟨1,[[.vec [] true]]⟩),(1,sBx 0)]) ⟨Qs ⟨⟨Yt,Yt⟩,Yt⟩,⟨by decide,⟨1,[[.vec [] true]]⟩,rfl,by show Xw _ _ _ ⟨1,[[.vec (X4 (Xb 0)) false]]⟩; rw [ZL]; exact Xw.single (ρ:=fun i=>i) (l0 := [.vec [] true]) (l := [.vec [] false]) (show X2v _ _ [_] [_] from ⟨.low (.vec [] true) Yt,Yt⟩) rfl⟩,Yt⟩) hC (by decide))
  (fun z q hq=>by simp at hq; rcases hq with rfl|rfl<;>exact Y1u _) _ (fun x=>rfl) ?_ ?_ ?_
 . rintro C2 hC2 pre x z ⟨-, rfl⟩ hlen;have hx:=hmem x.val x.2;have hst:=Zi0 t.l (pre.map (·.val)) x.val;have hz:=Zlq h.good.small (xs:=pre.map (·.val)) fun r hr=>by obtain⟨y,_,rfl⟩:=Y0i.1 hr; have:=hmem _ y.2; omega
   have hsl:=ZdN t.l h.good.small (show x.val<64 by omega);refine gd 18 ⟨?_⟩;refine Qd (Z4i t.l S x.val hx.1 (by omega)) ⟨Zo _ _,Yt,Yt⟩ ?_;refine Qd (Z1w _ _ hz hsl) ⟨Z2 _,Z2 _,Yt⟩ ?_;rw [<- hst];refine go ?_
   exact⟨.inl rfl,pre.map (·.val) ++ [x.val],fun i=>i,⟨rfl,by rw [Y0r]; rfl⟩,fun i hi=>rfl,Zf,
    ⟨Qp hpp,Qp (Zh c),Qt 0 0 0,Qt 1 0 0,Qp ⟨⟨Z7 _,Yt⟩,Yt⟩,Yt⟩,
    ⟨Qs ⟨⟨Yt,Yt⟩,Yt⟩,Qs ⟨⟨Z7 _,Yt⟩,Yt⟩,Yt⟩⟩
 . rintro xs z hxs ⟨-, rfl⟩;rw [hxs];refine go ?_;exact Z8 rfl (Z2 _) rfl
 . rintro ex pre z - ⟨rfl,_⟩ (h|⟨id,h⟩)<;>cases h
theorem Z2Y {t:PB} (h:Xo t) (hn:t.n<=5) (S:List Nat):X7 Tryz.prog 19 [.agg (pbP t S)] fun r=>∃ R,XQ t R/\r=XG R:=by
 have hpp:=ZC t S;have hrb:=h.rl;have hnb:=h.nl;have hgb:=h.gk;have hgm:(t.gl.map cuC).length=t.gl.length:=Y0f ..;have hrm:(t.rs.map ruP).length=t.rs.length:=Y0f ..;have hnm:(t.nv.map cuC).length=t.nv.length:=Y0f ..;have hgp:=Zb Zh t.gl;have hnp:=Zb Zh t.nv;have hrp:=ZE t.rs;refine Yp ok19 fun C hC=>?_;refine Zm ?_;refine Z9 ?_;refine Z5 rfl rfl rfl ?_;refine gd 13 ⟨?_⟩;refine Qe (Z2i h S) ⟨hpp,Yt⟩ ?_;refine go ?_;refine Zv hC (fun (z:Nat×Nat)=>z.1<=t.gl.length/\X52 t z.2/\∀ c∈t.gl.take z.1,X1h t.l c ||| z.2=z.2) (fun z=>t.gl.length-z.1) 2 (fun z => [(1,.cp (pbP t S)),(2,.ptr 0 0 0),(3,.ptr 1 0 0),(17,.vec (t.gl.map cuC) false),(18,.val (.int .i64 (t.gl.length:Int))),(19,Yv z.1)]) (fun z => [(0,⟨1,[[.vec [] true]]⟩),(1,sBx z.2)]) (by decide) (0,0) ⟨Y0l _,X52.zero t,fun c hc=>by simp at hc⟩
  (fun i=>i) (fun _ _=>rfl) (Zq rfl) ⟨Qp hpp,Qt 0 0 0,Qt 1 0 0,Qp hgp,⟨_,by rw [<- hgm]; rfl,.pure _ Yt⟩,Qp Yt,Yt⟩
  ⟨Qs ⟨⟨Yt,Yt⟩,Yt⟩,⟨by decide,⟨1,[[.vec [] true]]⟩,rfl,by show Xw _ _ _ ⟨1,[[.vec (X4 (Xb 0)) false]]⟩; rw [ZL]; exact Xw.single (ρ:=fun i=>i) (l0 := [.vec [] true]) (l := [.vec [] false]) (show X2v _ _ [_] [_] from ⟨.low (.vec [] true) Yt,Yt⟩) rfl⟩,Yt⟩ ?_
 rintro⟨i,acc⟩ ⟨hi,hl,hg⟩;dsimp only at hi hl hg ⊢;have hinc:IntKind.i64.wrap ((i:Int)+1)=((i+1:Nat):Int):=Y0v _ ⟨by omega,by omega⟩;refine gd 20 ⟨?_⟩;by_cases hil:i<t.gl.length
 . refine Qo (Qy rfl (by omega)) ?_;have hc:=(h.gl _ (Y0j hil)).1;have htk:∀ x,x∈t.gl.take (i+1)↔x∈t.gl.take i \/ x=t.gl[i]:=fun x=>Z25 hil;have hget:=Y0j hil;refine gd 21 ⟨?_⟩;refine Qo (Zl (xs:=t.gl) (g:=cuC) rfl rfl i rfl hil rfl) ?_;generalize t.gl[i]=c at hc htk hget;have hd:=Zef h hn hc;refine gd 26 ⟨?_⟩;refine Qd (Z38 h hn S c hc) ⟨hpp,Zh c,Yt⟩ ?_;refine Qd (Z1w acc (X1h t.l c) hl.lt hd) ⟨Z2 _,Z2 _,Yt⟩ ?_;refine go ?_
   refine⟨(i+1,acc ||| X1h t.l c),fun i=>i,⟨hil,hl.add hd fun R' h' _=>h'.gl c hget,fun x hx=>?_⟩,by show t.gl.length-(i+1)<t.gl.length-i; omega,fun _ _=>rfl,Zf,
    ⟨Qp hpp,Qt 0 0 0,Qt 1 0 0,Qp hgp,Qp Yt,⟨_,by show some _=some _; rw [hinc],.pure _ Yt⟩,Yt⟩,⟨Qs ⟨⟨Yt,Yt⟩,Yt⟩,Qs ⟨⟨Z7 _,Yt⟩,Yt⟩,Yt⟩⟩
   rcases (htk x).1 hx with hx|rfl
   . exact Z3s (hg x hx) (Z8S _ _)
   . exact Zm8 _ _
 have hg0:X6s t acc:=⟨hl,fun c hc=>hg c (by rw [YA (by omega)]; exact hc)⟩
 clear hl hg hinc;refine Qo (Qz rfl (by omega)) ?_;refine go ?_;refine Zv hC (fun (a:Nat)=>X6s t a) (fun a=>18446744073709551616-a) 2 (fun a => [(1,.cp (pbP t S)),(2,.ptr 0 0 0),(3,.ptr 1 0 0)]) (fun a => [(0,⟨1,[[.vec [] true]]⟩),(1,sBx a)]) (by decide) acc hg0 (fun i=>i) (fun _ _=>rfl) Zf
  ⟨Qp hpp,Qt 0 0 0,Qt 1 0 0,Yt⟩ ⟨Qs ⟨⟨Yt,Yt⟩,Yt⟩,Qs ⟨⟨Z7 _,Yt⟩,Yt⟩,Yt⟩ ?_
 clear hg0 hi hil;intro old ho;refine go ?_;refine Zv hC (fun (z:Nat×Nat)=>z.1<=t.rs.length/\X5m t old z.1 z.2) (fun z=>t.rs.length-z.1) 3 (fun z => [(1,.cp (pbP t S)),(2,.ptr 0 0 0),(3,.ptr 1 0 0),(6,.ptr 2 0 0),(31,.vec (t.rs.map ruP) false),(32,.val (.int .i64 (t.rs.length:Int))),(33,Yv z.1)]) (fun z => [(0,⟨1,[[.vec [] true]]⟩),(1,sBx z.2),(2,sBx old)]) (by decide) (0,old) ⟨Y0l _,⟨ho.l,Nat.or_self _,fun _ x hx=>by simp at hx⟩⟩
  (fun i=>i) (fun _ _=>rfl) (Zq rfl) ⟨Qp hpp,Qt 0 0 0,Qt 1 0 0,Qt 2 0 0,Qp hrp,⟨_,by rw [<- hrm]; rfl,.pure _ Yt⟩,Qp Yt,Yt⟩
  ⟨Qs ⟨⟨Yt,Yt⟩,Yt⟩,Qs ⟨⟨Z7 _,Yt⟩,Yt⟩,Qs ⟨⟨Z7 _,Yt⟩,Yt⟩,Yt⟩ ?_
 clear i acc;rintro⟨i,acc⟩ ⟨hi,hR⟩;dsimp only at hi hR ⊢;have hinc:IntKind.i64.wrap ((i:Int)+1)=((i+1:Nat):Int):=Y0v _ ⟨by omega,by omega⟩;refine gd 34 ⟨?_⟩;by_cases hil:i<t.rs.length
 . refine Qo (Qy rfl (by omega)) ?_;have hx:=h.rs _ (Y0j hil);have hsk:=hR.skip hil;have had:=hR.add hil;have hal:=hR.l.lt;refine gd 35 ⟨?_⟩;refine Qo (Zl (xs:=t.rs) (g:=ruP) rfl rfl i rfl hil rfl) ?_;generalize t.rs[i]=x at hx hsk had;have hd:=Zef h hn hx.cu;have hxt:=hx.tg;have hh:=Z1p acc hal x.tg;cases hv:x.rev
   case true =>
    refine gd 38 ⟨?_⟩;refine Qo (Z4 (v:=true) rfl hv) ?_;refine go ?_
    exact⟨(i+1,acc),fun i=>i,⟨hil,hsk (.inl hv)⟩,by show t.rs.length-(i+1)<t.rs.length-i; omega,fun _ _=>rfl,Zf,
     ⟨Qp hpp,Qt 0 0 0,Qt 1 0 0,Qt 2 0 0,Qp hrp,Qp Yt,⟨_,by show some _=some _; rw [hinc],.pure _ Yt⟩,Yt⟩,⟨Qs ⟨⟨Yt,Yt⟩,Yt⟩,Qs ⟨⟨Z7 _,Yt⟩,Yt⟩,Qs ⟨⟨Z7 _,Yt⟩,Yt⟩,Yt⟩⟩
   refine gd 38 ⟨?_⟩;refine Qo (Z4 (v:=false) rfl hv) ?_;refine gd 44 ⟨?_⟩;refine Zn rfl ?_;refine Qe hh ⟨Z2 _,Yt,Yt⟩ ?_;cases hb:acc.testBit x.tg
   case false =>
    refine go ?_
    exact⟨(i+1,acc),fun i=>i,⟨hil,hsk (.inr hb)⟩,by show t.rs.length-(i+1)<t.rs.length-i; omega,fun _ _=>rfl,Zf,
     ⟨Qp hpp,Qt 0 0 0,Qt 1 0 0,Qt 2 0 0,Qp hrp,Qp Yt,⟨_,by show some _=some _; rw [hinc],.pure _ Yt⟩,Yt⟩,⟨Qs ⟨⟨Yt,Yt⟩,Yt⟩,Qs ⟨⟨Z7 _,Yt⟩,Yt⟩,Qs ⟨⟨Z7 _,Yt⟩,Yt⟩,Yt⟩⟩
   refine gd 50 ⟨?_⟩;refine Qd (Z38 h hn S x.cu hx.cu) ⟨hpp,Zh x.cu,Yt⟩ ?_;refine Qd (Z1w acc (X1h t.l x.cu) hal hd) ⟨Z2 _,Z2 _,Yt⟩ ?_;refine go ?_
   exact⟨(i+1,acc ||| X1h t.l x.cu),fun i=>i,⟨hil,had hd hv hb⟩,by show t.rs.length-(i+1)<t.rs.length-i; omega,fun _ _=>rfl,Zf,
    ⟨Qp hpp,Qt 0 0 0,Qt 1 0 0,Qt 2 0 0,Qp hrp,Qp Yt,⟨_,by show some _=some _; rw [hinc],.pure _ Yt⟩,Yt⟩,⟨Qs ⟨⟨Yt,Yt⟩,Yt⟩,Qs ⟨⟨Z7 _,Yt⟩,Yt⟩,Qs ⟨⟨Z7 _,Yt⟩,Yt⟩,Yt⟩⟩
 have hN:=hR.done (by omega);clear hR hinc;refine Qo (Qz rfl (by omega)) ?_;refine go ?_;refine Zv hC (fun (z:Nat×Nat)=>z.1<=t.nv.length/\X4o t old z.1 z.2) (fun z=>t.nv.length-z.1) 3 (fun z => [(1,.cp (pbP t S)),(2,.ptr 0 0 0),(3,.ptr 1 0 0),(6,.ptr 2 0 0),(54,.vec (t.nv.map cuC) false),(55,.val (.int .i64 (t.nv.length:Int))),(56,Yv z.1)]) (fun z => [(0,⟨1,[[.vec [] true]]⟩),(1,sBx z.2),(2,sBx old)]) (by decide) (0,acc) ⟨Y0l _,hN⟩
  (fun i=>i) (fun _ _=>rfl) (Zq rfl) ⟨Qp hpp,Qt 0 0 0,Qt 1 0 0,Qt 2 0 0,Qp hnp,⟨_,by rw [<- hnm]; rfl,.pure _ Yt⟩,Qp Yt,Yt⟩
  ⟨Qs ⟨⟨Yt,Yt⟩,Yt⟩,Qs ⟨⟨Z7 _,Yt⟩,Yt⟩,Qs ⟨⟨Z7 _,Yt⟩,Yt⟩,Yt⟩ ?_
 clear hN hi hil;rintro⟨i,acc⟩ ⟨hi,hR⟩;dsimp only at hi hR ⊢;have hinc:IntKind.i64.wrap ((i:Int)+1)=((i+1:Nat):Int):=Y0v _ ⟨by omega,by omega⟩;have hal:=hR.l.lt;refine gd 57 ⟨?_⟩;by_cases hil:i<t.nv.length
 . refine Qo (Qy rfl (by omega)) ?_;have hx:=(h.nv _ (Y0j hil)).1;have hsk:=hR.skip hil;have had:=hR.add hil;refine gd 58 ⟨?_⟩;refine Qo (Zl (xs:=t.nv) (g:=cuC) rfl rfl i rfl hil rfl) ?_;generalize t.nv[i]=c at hx hsk had;have hd:=Zef h hn hx;refine gd 62 ⟨?_⟩;refine Qe (Z38 h hn S c hx) ⟨hpp,Zh c,Yt⟩ ?_;refine gd 65 ⟨?_⟩;refine Qe (Z4E (X1h t.l c) acc hd hal) ⟨Z2 _,Z2 _,Yt⟩ ?_;by_cases hm:X1h t.l c &&& acc=0
   . rw [Y0w (Y3A.2 hm)];refine go ?_
     exact⟨(i+1,acc),fun i=>i,⟨hil,hsk hm⟩,by show t.nv.length-(i+1)<t.nv.length-i; omega,fun _ _=>rfl,Zf,
      ⟨Qp hpp,Qt 0 0 0,Qt 1 0 0,Qt 2 0 0,Qp hnp,Qp Yt,⟨_,by show some _=some _; rw [hinc],.pure _ Yt⟩,Yt⟩,⟨Qs ⟨⟨Yt,Yt⟩,Yt⟩,Qs ⟨⟨Z7 _,Yt⟩,Yt⟩,Qs ⟨⟨Z7 _,Yt⟩,Yt⟩,Yt⟩⟩
   rw [Yw hm];refine gd 68 ⟨?_⟩;refine Qe (Z1w acc (X1h t.l c) hal hd) ⟨Z2 _,Z2 _,Yt⟩ ?_;refine go ?_
   exact⟨(i+1,acc ||| X1h t.l c),fun i=>i,⟨hil,had hd hm⟩,by show t.nv.length-(i+1)<t.nv.length-i; omega,fun _ _=>rfl,Zf,
    ⟨Qp hpp,Qt 0 0 0,Qt 1 0 0,Qt 2 0 0,Qp hnp,Qp Yt,⟨_,by show some _=some _; rw [hinc],.pure _ Yt⟩,Yt⟩,⟨Qs ⟨⟨Yt,Yt⟩,Yt⟩,Qs ⟨⟨Z7 _,Yt⟩,Yt⟩,Qs ⟨⟨Z7 _,Yt⟩,Yt⟩,Yt⟩⟩
 refine Qo (Qz rfl (by omega)) ?_;refine gd 72 ⟨?_⟩;refine Qe (Z52 acc old hal ho.l.lt) ⟨Z2 _,Z2 _,Yt⟩ ?_;by_cases he:acc=old
 . rw [Yw he];subst he;refine go ?_;exact Z8 rfl (Z2 _) ⟨acc,hR.done ho (by omega),rfl⟩
 rw [Y0w he];have hlt:=Zhs hR.sub he;refine go ?_
 exact⟨acc,fun i=>i,hR.next ho,by omega,fun _ _=>rfl,Zf,
  ⟨Qp hpp,Qt 0 0 0,Qt 1 0 0,Yt⟩,⟨Qs ⟨⟨Yt,Yt⟩,Yt⟩,Qs ⟨⟨Z7 _,Yt⟩,Yt⟩,Yt⟩⟩
section
variable {v0 v1 v2 v3 v4 v5:PV} {e:Int}
end
theorem Zfz (xs:List RU) (fl:Bool) (hlen:xs.length<=1000000):X1y Tryz.prog 61 [.vec (xs.map ruP) fl] .own ⟨5,xs.map ruP⟩:=by
 refine Z1A ok61 (Y0 rfl) fun C hC=>?_;have fin:∀ (x:RU) (xs:List RU),(∀ c∈(x :: xs).map ruP,c.length=5):=fun x xs c hc=>by obtain⟨y,_,rfl⟩:=Y0i.1 hc; rfl
 cases xs with
 | nil =>
   refine go ?_;refine Z4H (.inl ⟨_,_,rfl⟩) rfl fun b=>?_;cases b
   . repeat' (first | refine Za (Zy (k := 5) rfl 5 (by decide)) ?_ | (first|refine st ?_|(apply B<;>intro hb<;>try cases hb)))
     exact⟨_,_,rfl,.inl rfl,_,rfl,rfl⟩
   . iterate 6 (first|refine st ?_|(apply B<;>intro hb<;>try cases hb))
     refine Z1U (Zy (k:=2) rfl 5 (by decide) _) ?_;refine go ?_;exact⟨_,_,rfl,.inl rfl,_,rfl,rfl⟩
 | cons x xs =>
   repeat' (first|refine Za (Zy (k:=5) rfl 5 (by decide)) ?_|(first|refine st ?_|(apply B<;>intro hb<;>try cases hb)))
   refine ZH (Zu (k:=0) (m:=(x :: xs).map ruP) (fl:=fl) rfl rfl rfl (fin x xs) rfl (by
    show (([]:List (List PV)).length+((x :: xs).map ruP).length)*72<=_
    rw [Y0f,Y2E];omega)) rfl rfl ?_
   refine go ?_;exact⟨_,_,rfl,.inl rfl,_,rfl,by rw [Y1e]; rfl⟩
theorem Z8W (xs:List Cu) (fl:Bool) (hlen:xs.length<=1000000):X1y Tryz.prog 62 [.vec (xs.map cuC) fl] .own ⟨2,xs.map cuC⟩:=by
 refine Z1A ok62 (Y0 rfl) fun C hC=>?_;refine gd 4 ⟨?_⟩;refine Z3B (Z66 xs fl hlen) Z3j (Z1 _) rfl rfl ⟨Z1 _,Yt⟩ ?_;refine go ?_;exact⟨_,_,rfl,.inl rfl,0,rfl,rfl⟩
def ruK (q:RU×Nat):List PV:=ruP q.1
def kzP (t:PB) (R i:Nat):List (RU×Nat):=(t.rs.zipIdx.take i).filter fun q=>R.testBit q.1.tg
theorem ZjI {t:PB} {R i:Nat} (h:i<t.rs.length):kzP t R (i+1)=kzP t R i++if R.testBit t.rs[i].tg then [(t.rs[i],i)] else []:=by
 unfold kzP;have hl:i<t.rs.zipIdx.length:=by rw [Y4d]; exact h
 rw [YW,Y0c hl,Y2B];congr 1;have:t.rs.zipIdx[i]=(t.rs[i],i):=by simp
 rw [this];show List.filter _ [_]=_;rw [List.filter_cons]
 rfl
theorem Zls {t:PB} {R i:Nat} (h:t.rs.length<=i):kzP t R i=kzL t R:=by
 unfold kzP kzL;rw [YA (by rw [Y4d]; exact h)]
theorem Zlt (t:PB) (R i:Nat):(kzP t R i).length<=i:=Y03 (Y1L ..) (by rw [Y0o]; exact Y3m _ _)
noncomputable def nvP (t:PB) (R i:Nat):List Cu:=(t.nv.take i).filter fun c=>decide (X1h t.l c &&& R≠0)
theorem ZjJ {t:PB} {R i:Nat} (h:i<t.nv.length):nvP t R (i+1)=nvP t R i++if decide (X1h t.l t.nv[i] &&& R≠0) then [t.nv[i]] else []:=by
 unfold nvP;rw [YW,Y0c h,Y2B];congr 1;show List.filter _ [_]=_;rw [List.filter_cons]
 rfl
theorem Zlu (t:PB) (R i:Nat):(nvP t R i).length<=i:=Y03 (Y1L ..) (by rw [Y0o]; exact Y3m _ _)
theorem ZjK (l:List (RU×Nat)) (x:RU) (i:Nat):l.map ruK ++ [ruP x]=(l ++ [(x,i)]).map ruK:=by simp [ruK]
theorem ZjL (l:List (RU×Nat)) (x:RU) (i:Nat):inL (l.map (·.2)) ++ [X31 i]=inL ((l ++ [(x,i)]).map (·.2)):=by simp [inL]
theorem Zlv (l:List Cu) (c:Cu):l.map cuC ++ [cuC c]=(l ++ [c]).map cuC:=by simp
theorem Z3Q (l:List (RU×Nat)):X1 (l.map ruK):=Zb (enc:=ruK) (fun q=>by have:=ZE [q.1]; exact this.1) l
def z6:List PV := [.val (.int .i64 0),.val (.pointer none),.vec [] true,.vec [] true,.vec [] true,.vec [] true]
theorem ZfA {t:PB} (h:Xo t) (S:List Nat):X7 Tryz.prog 20 [.agg (pbP t S)] (· = .agg (pbP t S)):=by
 have hrl:=h.rl;have hnl:=h.nl;have hgk:=h.gk;refine Yp ok20 fun C hC=>?_;refine gd 5 ⟨?_⟩;refine Z6F (Zfz t.rs false (by omega)) Z3j (ZE _) rfl rfl rfl ⟨ZE _,Yt⟩ ?_;refine gd 8 ⟨?_⟩;refine Z6F (Z8W t.nv false (by omega)) Z3j (Z1 _) rfl rfl rfl ⟨Z1 _,Yt⟩ ?_;refine gd 11 ⟨?_⟩;refine Z6F (Z8W t.gl false (by omega)) Z3j (Z1 _) rfl rfl rfl ⟨Z1 _,Yt⟩ ?_;refine gd 15 ⟨?_⟩;refine Za (Zx (ob:=0) (id:=4) (i0:=0) (j0:=3) rfl rfl (by decide) (ZE _) (Y0 rfl) (Y0 rfl) rfl) ?_;refine Za (Zx (ob:=0) (id:=7) (i0:=0) (j0:=4) rfl rfl (by decide) (Z1 _) (Y0 rfl) (Y0 rfl) rfl) ?_;refine Za (Zx (ob:=0) (id:=10) (i0:=0) (j0:=5) rfl rfl (by decide) (Z1 _) (Y0 rfl) (Y0 rfl) rfl) ?_;refine go ?_;exact Z8 rfl (ZC t S) rfl
theorem Z6y {t:PB} (h:Xo t) (hn:t.n<=5) (S:List Nat):X7 Tryz.prog 6 [.agg (pbP t S)] fun r=>∃ R,XQ t R/\r=.tup [.agg (pbP (Xh t R) S),.vec (inL (X2k t R)) false,.val (.int .i64 0)]:=by
 have hpp:=ZC t S;have hrb:=h.rl;have hnb:=h.nl;have hrm:(t.rs.map ruP).length=t.rs.length:=Y0f ..;have hnm:(t.nv.map cuC).length=t.nv.length:=Y0f ..;have hnp:=Zb Zh t.nv;have hrp:=ZE t.rs;refine Yp ok6 fun C hC=>?_;refine Zm ?_;refine Z9 ?_;refine Z5 rfl rfl rfl ?_;refine gd 15 ⟨?_⟩;refine Qe (Z2i h S) ⟨hpp,Yt⟩ ?_;refine gd 21 ⟨?_⟩;refine Zw rfl rfl (Z2Y h hn S) ⟨hpp,Yt⟩ rfl ?_;rintro r ⟨R,hR,rfl⟩;refine gd 23 ⟨?_⟩;refine Qe (ZfA h S) ⟨hpp,Yt⟩ ?_;refine gd 31 ⟨?_⟩;refine Qd (Z4j t.st R (InS.lt h.n.2 h.st) hR.lt) ⟨Z2 _,Z2 _,Yt⟩ ?_;refine gd 35 ⟨?_⟩;refine Za (ZO (id:=14) (i0:=0) (j0:=3) rfl (Y0 rfl) (Y0 rfl) rfl 5 (by decide) (by decide)) ?_;refine Za (Zy (k:=9) rfl 1 (by decide)) ?_;refine go ?_;have hz6:∀ D,X1S D z6:=fun D=>⟨Yt,Yt,Yt,Yt,Yt,Yt,Yt⟩
 refine Zv hC (fun i=>i<=t.rs.length) (fun i=>t.rs.length-i) 18 (fun i => [(1,.cp (pbP t S)),(2,.ptr 0 0 0),(6,.ptr 1 0 0),(7,.ptr 2 0 0),(8,.ptr 14 0 0),(9,.own 17),(36,.vec (t.rs.map ruP) false),(37,.val (.int .i64 (t.rs.length:Int))),(38,Yv i)]) (fun i => [(0,⟨6,[z6]⟩),(1,sBx R),(2,⟨6,[pbP t S]⟩),(14,⟨6,[[.val (.int .i64 (t.n:Int)),X16 t.l S,.vec (X4 (Xb (t.st &&& R))) false,.own 16,.vec [] true,.vec (t.gl.map cuC) false]]⟩),(16,⟨5,(kzP t R i).map ruK⟩),(17,⟨1,inL ((kzP t R i).map (·.2))⟩)]) (by decide) 0 (Y0l _)
  (fun i=>i) (fun _ _=>rfl) Zf ⟨Qp hpp,Qt 0 0 0,Qt 1 0 0,Qt 2 0 0,Qt 14 0 0,Qw 17,Qp hrp,⟨_,by rw [<- hrm]; rfl,.pure _ Yt⟩,Qp Yt,Yt⟩ ⟨Qs ⟨⟨Yt,Yt,Yt,Yt,Yt,Yt,Yt⟩,Yt⟩,Qs ⟨⟨Z7 _,Yt⟩,Yt⟩,Qs ⟨hpp,Yt⟩,⟨by decide,_,rfl,Xw.single ⟨.pure _ Yt,.pure _ (Zo _ _),.pure _ (Z7 _),.own (ρ:=fun i=>i) 16 (by decide),.pure _ Yt,.pure _ (Z1 _),Yt⟩ rfl⟩,Qs Yt,Qs Yt,Yt⟩ ?_
 intro i hi;have hinc:IntKind.i64.wrap ((i:Int)+1)=((i+1:Nat):Int):=Y0v _ ⟨by omega,by omega⟩;refine gd 39 ⟨?_⟩;by_cases hil:i<t.rs.length
 . refine Qo (Qy rfl (by omega)) ?_;have hsu:=ZjI (R:=R) hil;have hkl:=Zlt t R i;have hxo:=h.rs _ (Y0j hil);generalize kzP t R i=K at hsu hkl;refine gd 41 ⟨?_⟩;refine Qo (Zl (xs:=t.rs) (g:=ruP) rfl rfl i rfl hil rfl) ?_;generalize t.rs[i]=x at hsu hxo;refine gd 46 ⟨?_⟩;refine Qe (Z1p R hR.lt x.tg) ⟨Z2 _,Yt,Yt⟩ ?_;cases hb:R.testBit x.tg
   case false =>
    rw [hb,Y8 (by decide),Y0p] at hsu;refine go ?_
    exact⟨i+1,fun i=>i,hil,by omega,fun _ _=>rfl,Zf,
     ⟨Qp hpp,Qt 0 0 0,Qt 1 0 0,Qt 2 0 0,Qt 14 0 0,Qw 17,Qp hrp,Qp Yt,⟨_,by show some _=some _; rw [hinc],.pure _ Yt⟩,Yt⟩,⟨Qs ⟨⟨Yt,Yt,Yt,Yt,Yt,Yt,Yt⟩,Yt⟩,Qs ⟨⟨Z7 _,Yt⟩,Yt⟩,Qs ⟨hpp,Yt⟩,⟨by decide,_,rfl,Xw.single ⟨.pure _ Yt,.pure _ (Zo _ _),.pure _ (Z7 _),.own (ρ:=fun i=>i) 16 (by decide),.pure _ Yt,.pure _ (Z1 _),Yt⟩ rfl⟩,⟨by decide,_,rfl,by rw [hsu]; exact .same _ (Z3Q _)⟩,⟨by decide,_,rfl,by rw [hsu]; exact .same _ (Zs _)⟩,Yt⟩⟩
   rw [hb,Y6 rfl] at hsu;refine gd 51 ⟨?_⟩
   refine ZH (Zu (k:=16) (m := [ruP x]) (fl:=true) rfl rfl rfl (fun q hq=>by rw [Y0g] at hq; subst hq; rfl) rfl (by
    show ((K.map ruK).length+1)*72<=_
    rw [Y0f];omega)) rfl rfl ?_
   simp only;rw [ZjK K x i];refine gd 55 ⟨?_⟩
   refine ZH (Zu (k:=17) (m := [X31 i]) (fl:=true) rfl rfl rfl (fun q hq=>by rw [Y0g] at hq; subst hq; rfl) rfl (by
    show ((inL (K.map (·.2))).length+1)*8<=_
    rw [Z23,Y0f];omega)) rfl rfl ?_
   simp only;rw [ZjL K x i];refine go ?_
   exact⟨i+1,fun i=>mv 16 19 (mv 17 20 i),hil,by omega,fun i hi=>absurd hi (Ye i),Zq rfl,
    ⟨Qp hpp,Qt 0 0 0,Qt 1 0 0,Qt 2 0 0,Qt 14 0 0,Qw 17,Qp hrp,Qp Yt,⟨_,by show some _=some _; rw [hinc],.pure _ Yt⟩,Yt⟩,⟨Qs ⟨⟨Yt,Yt,Yt,Yt,Yt,Yt,Yt⟩,Yt⟩,Qs ⟨⟨Z7 _,Yt⟩,Yt⟩,Qs ⟨hpp,Yt⟩,⟨by decide,_,rfl,Xw.single ⟨.pure _ Yt,.pure _ (Zo _ _),.pure _ (Z7 _),.own (ρ:=fun i=>mv 16 19 (mv 17 20 i)) 16 (by decide),.pure _ Yt,.pure _ (Z1 _),Yt⟩ rfl⟩,⟨by decide,_,rfl,by rw [hsu]; exact .same _ (Z3Q _)⟩,⟨by decide,_,rfl,by rw [hsu]; exact .same _ (Zs _)⟩,Yt⟩⟩
 have hie:t.rs.length<=i:=by omega
 rw [Zls hie];refine Qo (Qz rfl (by omega)) ?_;refine gd 58 ⟨?_⟩;refine Za (Zx (ob:=14) (id:=16) (i0:=0) (j0:=3) rfl rfl (by decide) (Z3Q _) (Y0 rfl) (Y0 rfl) rfl) ?_;refine Za (Zj (k:=9) (id:=17) (b:=⟨1,inL ((kzL t R).map (·.2))⟩) rfl rfl (Zs _)) ?_;refine Za (ZO (id:=14) (i0:=0) (j0:=4) rfl (Y0 rfl) (Y0 rfl) rfl 2 (by decide) (by decide)) ?_;refine go ?_;refine Zv hC (fun i=>i<=t.nv.length) (fun i=>t.nv.length-i) 19 (fun i => [(1,.cp (pbP t S)),(2,.ptr 0 0 0),(6,.ptr 1 0 0),(8,.ptr 14 0 0),(9,.vec (inL ((kzL t R).map (·.2))) false),(59,.vec (t.nv.map cuC) false),(60,.val (.int .i64 (t.nv.length:Int))),(61,Yv i)]) (fun i => [(0,⟨6,[z6]⟩),(1,sBx R),(14,⟨6,[[.val (.int .i64 (t.n:Int)),X16 t.l S,.vec (X4 (Xb (t.st &&& R))) false,.vec ((kzL t R).map ruK) false,.own 18,.vec (t.gl.map cuC) false]]⟩),(18,⟨2,(nvP t R i).map cuC⟩)]) (by decide) 0 (Y0l _)
  (fun i=>i) (fun _ _=>rfl) Zf ⟨Qp hpp,Qt 0 0 0,Qt 1 0 0,Qt 14 0 0,Qp (Zs _),Qp hnp,⟨_,by rw [<- hnm]; rfl,.pure _ Yt⟩,Qp Yt,Yt⟩ ⟨Qs ⟨⟨Yt,Yt,Yt,Yt,Yt,Yt,Yt⟩,Yt⟩,Qs ⟨⟨Z7 _,Yt⟩,Yt⟩,⟨by decide,_,rfl,Xw.single ⟨.pure _ Yt,.pure _ (Zo _ _),.pure _ (Z7 _),.pure (.vec ((kzL t R).map ruK) false) (Z3Q _),.own (ρ:=fun i=>i) 18 (by decide),.pure _ (Z1 _),Yt⟩ rfl⟩,Qs Yt,Yt⟩ ?_
 intro i hi;have hinc:IntKind.i64.wrap ((i:Int)+1)=((i+1:Nat):Int):=Y0v _ ⟨by omega,by omega⟩;refine gd 62 ⟨?_⟩;by_cases hil:i<t.nv.length
 . refine Qo (Qy rfl (by omega)) ?_;have hsu:=ZjJ (R:=R) hil;have hkl:=Zlu t R i;have hx:=(h.nv _ (Y0j hil)).1;generalize nvP t R i=K at hsu hkl;refine gd 63 ⟨?_⟩;refine Qo (Zl (xs:=t.nv) (g:=cuC) rfl rfl i rfl hil rfl) ?_;generalize t.nv[i]=c at hsu hx;have hd:=Zef h hn hx;refine gd 67 ⟨?_⟩;refine Qd (Z38 h hn S c hx) ⟨hpp,Zh c,Yt⟩ ?_;refine gd 69 ⟨?_⟩;refine Qd (Z4E (X1h t.l c) R hd hR.lt) ⟨Z2 _,Z2 _,Yt⟩ ?_;cases hb:decide (X1h t.l c &&& R≠0)
   case false =>
    rw [hb,Y8 (by decide),Y0p] at hsu;refine go ?_
    exact⟨i+1,fun i=>i,hil,by omega,fun _ _=>rfl,Zf,
     ⟨Qp hpp,Qt 0 0 0,Qt 1 0 0,Qt 14 0 0,Qp (Zs _),Qp hnp,Qp Yt,⟨_,by show some _=some _; rw [hinc],.pure _ Yt⟩,Yt⟩,⟨Qs ⟨⟨Yt,Yt,Yt,Yt,Yt,Yt,Yt⟩,Yt⟩,Qs ⟨⟨Z7 _,Yt⟩,Yt⟩,⟨by decide,_,rfl,Xw.single ⟨.pure _ Yt,.pure _ (Zo _ _),.pure _ (Z7 _),.pure (.vec ((kzL t R).map ruK) false) (Z3Q _),.own (ρ:=fun i=>i) 18 (by decide),.pure _ (Z1 _),Yt⟩ rfl⟩,⟨by decide,_,rfl,by rw [hsu]; exact .same _ (Z1 _)⟩,Yt⟩⟩
   rw [hb,Y6 rfl] at hsu;refine gd 74 ⟨?_⟩
   refine ZH (Zu (k:=18) (m := [cuC c]) (fl:=true) rfl rfl rfl (fun q hq=>by rw [Y0g] at hq; subst hq; rfl) rfl (by
    show ((K.map cuC).length+1)*48<=_
    rw [Y0f];omega)) rfl rfl ?_
   simp only;rw [Zlv];refine go ?_
   exact⟨i+1,mv 18 25,hil,by omega,fun i hi=>absurd hi (Ye i),Zq rfl,
    ⟨Qp hpp,Qt 0 0 0,Qt 1 0 0,Qt 14 0 0,Qp (Zs _),Qp hnp,Qp Yt,⟨_,by show some _=some _; rw [hinc],.pure _ Yt⟩,Yt⟩,⟨Qs ⟨⟨Yt,Yt,Yt,Yt,Yt,Yt,Yt⟩,Yt⟩,Qs ⟨⟨Z7 _,Yt⟩,Yt⟩,⟨by decide,_,rfl,Xw.single ⟨.pure _ Yt,.pure _ (Zo _ _),.pure _ (Z7 _),.pure (.vec ((kzL t R).map ruK) false) (Z3Q _),.own (ρ:=mv 18 25) 18 (by decide),.pure _ (Z1 _),Yt⟩ rfl⟩,⟨by decide,_,rfl,by rw [hsu]; exact .same _ (Z1 _)⟩,Yt⟩⟩
 have hie:t.nv.length<=i:=by omega
 have hnv:nvP t R i=(Xh t R).nv:=by unfold nvP; rw [YA hie]; rfl
 rw [hnv];refine Qo (Qz rfl (by omega)) ?_;refine gd 77 ⟨?_⟩;refine Za (Zx (ob:=14) (id:=18) (i0:=0) (j0:=4) rfl rfl (by decide) (Z1 _) (Y0 rfl) (Y0 rfl) rfl) ?_;refine go ?_;have hrs:(kzL t R).map ruK=(Xh t R).rs.map ruP:=by unfold Xh; rw [Y2o]; rfl
 refine Z8 (r:=.tup [.agg [.val (.int .i64 (t.n:Int)),X16 t.l S,.vec (X4 (Xb (t.st &&& R))) false,.vec ((kzL t R).map ruK) false,.vec ((Xh t R).nv.map cuC) false,.vec (t.gl.map cuC) false],.vec (inL ((kzL t R).map (·.2))) false,.val (.int .i64 0)]) rfl ⟨⟨Yt,Zo _ _,Z7 _,Z3Q _,Z1 _,Z1 _,Yt⟩,Zs _,Yt,Yt⟩ ⟨R,hR,?_⟩;rw [hrs]
 rfl
end
section
open Go.RowKit
section
variable {P:Program} {e:Env} {h:X2} {n:Nat} {K:Nat->Env->X2->Prop} {os:List Xs} {d:Option Nat}
theorem Zba {vs:Array Value} {x:Value} {j:Nat} (hj:j<vs.size):(vs.push x).getD j undef=vs.getD j undef:=by
 rw [Y0d,Y0d,Array.getElem?_push,Y8 (by omega)]
theorem Zbb {vs:Array Value} {x:Value}:(vs.push x).getD vs.size undef=x:=by
 rw [Y0d,Array.getElem?_push,Y6 rfl]; rfl
theorem X7.roF {g g2:FuncId} {args:List PV} {i k esz:Nat} {l caps:List PV} {v:Value} (hs:X7 P g (args.set i (.fn g2 (.cp l :: caps))) (· = .val v)) (hi:args[i]?=some (.fn g2 (.ptr k 0 0 :: caps))) (hb:h k=some ⟨esz,[l]⟩) (hpr:X5 (args.set i (.fn g2 (.cp l :: caps)))) :
 XF P g n args h fun n' r h'=>n'=n/\r=.val v/\h'=h:=by
 refine⟨hs.1,fun C e F φ a w vs s hv=>?_⟩;have hil:i<args.length:=(Y7.1 hi).1;have hgi:args.getD i pvu=.fn g2 (.ptr k 0 0 :: caps):=by rw [Y0b,hi]; rfl
 have h0:=hv.2 i hil;rw [hgi] at h0;obtain⟨cv,hcv,hcs,hcr⟩:=h0.fn_inv;have hp0:=hcr 0 (by simp)
 let C1:Ctx:=⟨C.w0,C.G,C.F0,vs.size+1,C.φ0⟩
 let a1:Act:={ a with tmps:=vs.push (cv.getD 0 undef) }
 let e1:Env:=(XV args).upd args.length (.ptr k 0 0)
 have s1:St' C1 (fun j=>n<=j) e1 h F φ a1 w:=by
  refine { nt:=by show (vs.push _).size=_; rw [Array.size_push],glob:=s.glob,marks:=⟨s.marks.nd,s.marks.all⟩,loc0:=s.loc0,free:=s.free,env:=fun j p hp=>?_,froz:=s.froz,ext:=s.ext,old:=s.old,os:=s.os,tape:=s.tape,output:=s.output,size:=s.size,kept:=s.kept,live:=s.live,sep:=s.sep };by_cases hj:j=args.length
  . subst hj;have hp:((XV args).upd args.length (.ptr k 0 0)) args.length=some p:=hp;rw [Env.upd_same] at hp;cases hp;refine⟨by show args.length<vs.size+1; rw [hv.1]; omega,?_⟩;show Rep F φ ((vs.push (cv.getD 0 undef)).getD args.length undef) _;rw [<- hv.1,Zbb];exact hp0
  . have hp : ((XV args).upd args.length (.ptr k 0 0)) j = some p := hp;rw [Env.upd_ne _ _ hj] at hp;have hjl:j<args.length:=(Y7.1 hp).1;refine⟨by show j<vs.size+1; rw [hv.1]; omega,?_⟩;show Rep F φ ((vs.push (cv.getD 0 undef)).getD j undef) _;rw [Zba (by rw [hv.1]; exact hjl)];have h1:=hv.2 j hjl;have e2:args.getD j pvu=p:=by
     rw [Y0b];have hp':args[j]?=some p:=hp;rw [hp']; rfl
    rw [<- e2];exact h1
 obtain⟨F2,φ2,s2⟩:=Z2u (k:=args.length) (id:=k) (e:=e1) (Env.upd_same _ _ _) hb a1 w ⟨F,φ,s1⟩;have hcp:Rep F2 φ2 (cv.getD 0 undef) (.cp l):=by
  have:=(s2.env args.length (.cp l) (Env.upd_same _ _ _)).2;have e2:a1.tmps.getD args.length undef=cv.getD 0 undef:=by
   show (vs.push (cv.getD 0 undef)).getD args.length undef=_;rw [<- hv.1,Zbb]
  rwa [e2] at this
 have hold:∀ j,j<args.length->Rep F2 φ2 (vs.getD j undef) (args.getD j pvu):=fun j hj=>by
  have he:(e1.upd args.length (.cp l)) j=some (args.getD j pvu):=by
   rw [Env.upd_ne _ _ (by omega)];show ((XV args).upd args.length (.ptr k 0 0)) j=_;rw [Env.upd_ne _ _ (by omega),Y0b];show args[j]?=_;rw [Y0c hj]
   rfl
  have:=(s2.env j _ he).2;have e2:a1.tmps.getD j undef=vs.getD j undef:=Zba (by rw [hv.1]; exact hj)
  rwa [e2] at this
 have hrep:X27 F2 XP vs (args.set i (.fn g2 (.cp l :: caps))):=by
  refine⟨by rw [hv.1,Y18],fun j hj=>?_⟩;have hj':j<args.length:=by rwa [Y18] at hj
  have hpj:=ZM hpr j;by_cases hji:j=i
  . subst hji;have e2:(args.set j (.fn g2 (.cp l :: caps))).getD j pvu=.fn g2 (.cp l :: caps):=by rw [Y0b,Y3Q hj']; rfl
    rw [e2] at hpj ⊢;refine Rep.pure (φ:=φ2) ?_ hpj;rw [hcv];refine .fn g2 cv _ (by rw [hcs]; rfl) fun m hm=>?_;cases m with
    | zero=>exact hcp
    | succ m =>
      have h1:=hold j hj';rw [hgi,hcv] at h1;obtain⟨cv',h2,h3,h4⟩:=h1.fn_inv;cases h2;exact h4 (m+1) hm
  . have e2 : (args.set i (.fn g2 (.cp l :: caps))).getD j pvu = args.getD j pvu := by rw [Y0b, Y0b, Y3e (Y2L hji)]
    rw [e2] at hpj ⊢;exact Rep.pure (φ:=φ2) (hold j hj') hpj
 refine (hs.2 F2 w vs ⟨s2.froz,s2.glob⟩ hrep).mono ?_;rintro en w' ⟨v',r,F3,rfl,rfl,hr,hbel,-,-,-⟩;obtain rfl:v'=v:=hr.val_inv;exact⟨v',.val v',n,h,F,φ,rfl,⟨rfl,rfl,rfl⟩,.val _,s.called hbel (Holds.kept ⟨s.froz,s.glob⟩ hbel) (fun _ _ h=>h) fun _ _=>rfl⟩
theorem ZjM {f:Operand} {args:List Operand} {g g2:FuncId} {caps caps2 as0 args':List PV} {i k esz:Nat} {l:List PV} {v:Value} (hs:X7 P g args' (· = .val v)) (hf:ev e f=some (.fn g caps)) (ha:evs e args=some as0) (hi:(as0++caps)[i]?=some (.fn g2 (.ptr k 0 0 :: caps2))) (hb:h k=some ⟨esz,[l]⟩) (hargs:(as0++caps).set i (.fn g2 (.cp l :: caps2))=args') (hpr:X5 args')
 (hk:Xr P os n (XC e d (.val v)) h K):Xr P (⟨d,.call f args,none⟩ :: os) n e h K:=by
 subst hargs;exact Z10 hf ha (hs.roF hi hb hpr) fun n' r h' hh=>by obtain⟨rfl,rfl,rfl⟩:=hh; exact hk
end
end
section
open Go.RowKit
attribute [local irreducible] aw Xr dK
def X1i (t:PB):Bool:=decide (t.nv.length=0)&&(t.rs.all (fun x=>decide (x.cu.2=0))&&t.gl.all fun c=>decide (c.2=0))
theorem ZcZ {t:PB} (h:X1i t=true):X69 t:=by
 unfold X1i at h;rw [Y0k,Y0k,Y0n,YK,YK] at h;exact⟨Y30.1 h.1,fun x hx=>Y0u (h.2.1 x hx),fun c hc=>Y0u (h.2.2 c hc)⟩
theorem ZfB (c:Cu) (hc:Xy c):X7 Tryz.prog 29 [.agg (cuC c)] (· = .val (.bool (!decide (c.2=0)))):=by
 refine Yp ok29 fun C hC=>?_;refine Zm ?_;refine Z9 ?_;refine Z5 rfl rfl rfl ?_;refine gd 5 ⟨?_⟩;refine Qe (Z3o c.2 hc.2) ⟨Z2 _,Yt⟩ ?_;generalize decide (c.2=0)=b;cases b
 all_goals
  refine go ?_;exact Z8 rfl Yt rfl
theorem Z2F {t:PB} (h:Xo t) (S:List Nat):X7 Tryz.prog 8 [.agg (pbP t S)] (· = .val (.bool (X1i t))):=by
 have hpp:=ZC t S;have hrb:=h.rl;have hrm:(t.rs.map ruP).length=t.rs.length:=Y0f ..;have hnm:(t.nv.map cuC).length=t.nv.length:=Y0f ..;have hpi:∀ D,X1S D (pbP t S):=fun D=>ZG (fun _ h=>h.elim) _ hpp;have hri:∀ D,Xt D (t.rs.map ruP):=fun D=>Zd (fun _ h=>h.elim) _ (ZE t.rs);refine Yp ok8 fun C hC=>?_;refine Zm ?_;refine Z9 ?_;refine Z5 rfl rfl rfl ?_;refine gd 6 ⟨?_⟩;refine Qe (Z2i h S) ⟨hpp,Yt⟩ ?_;refine gd 12 ⟨?_⟩;refine Zn rfl ?_;by_cases h0:t.nv.length=0
 case neg =>
  refine Qo (Qy rfl (by rw [hnm];omega)) ?_;have e:X1i t=false:=by unfold X1i; rw [Y0w h0]; rfl
  rw [e];refine go ?_;exact Z8 rfl Yt rfl
 refine Qo (Qz rfl (by rw [hnm];omega)) ?_;have e:X1i t=(t.rs.all (fun x=>decide (x.cu.2=0))&&t.gl.all fun c=>decide (c.2=0)):=by unfold X1i; rw [Yw h0]; rfl
 rw [e];refine go ?_;refine Zz hC (fun i=>i<=t.rs.length/\(t.rs.take i).all (fun x=>decide (x.cu.2=0))=true) (fun i=>t.rs.length-i) 0 (fun i => [(1,.cp (pbP t S)),(15,.vec (t.rs.map ruP) false),(16,.val (.int .i64 (t.rs.length:Int))),(17,Yv i)]) (fun _=>[]) (Y0l _) 0 ⟨Y0l _,rfl⟩
  ⟨⟨rfl,hpi _⟩,⟨rfl,hri _⟩,⟨by rw [<- hrm]; rfl,Yt⟩,⟨rfl,Yt⟩,Yt⟩ Yt ?_
 rintro i ⟨hi,hall⟩;have hinc:IntKind.i64.wrap ((i:Int)+1)=((i+1:Nat):Int):=Y0v _ ⟨by omega,by omega⟩;refine gd 18 ⟨?_⟩;by_cases hil:i<t.rs.length
 . refine Qo (Qy rfl (by omega)) ?_;have htk:=ZR hil;have hx:=(h.rs _ (Y0j hil)).cu.lt h.n.2;have hmem:=Y0j hil;refine gd 19 ⟨?_⟩;refine Qo (Zl (xs:=t.rs) (g:=ruP) rfl rfl i rfl hil rfl) ?_;generalize t.rs[i]=x at htk hx hmem;refine gd 24 ⟨?_⟩;refine Qe (Z3o x.cu.2 hx.2) ⟨Z2 _,Yt⟩ ?_;cases hb:decide (x.cu.2=0)
   . have e2 : t.rs.all (fun x => decide (x.cu.2 = 0)) = false := by
      rw [List.all_eq_false];exact⟨x,hmem,by rw [hb]; decide⟩
     rw [e2];refine go ?_;exact Z8 rfl Yt rfl
   . refine go ?_;exact⟨i+1,⟨hil,by rw [htk,List.all_append,hall]; simp only [Y4Q,List.all_nil,hb]; rfl⟩,by omega,⟨⟨rfl,hpi _⟩,⟨rfl,hri _⟩,⟨rfl,Yt⟩,⟨by show some _=some _; rw [hinc],Yt⟩,Yt⟩,Yt⟩
 . refine Qo (Qz rfl (by omega)) ?_;rw [YA (by omega)] at hall;rw [hall,Y1g,<- Z9I];refine gd 29 ⟨?_⟩;refine Qe (Z1x t.gl cuC false 29 [] (fun c => !decide (c.2=0)) (fun _=>rfl) Zh Yt fun c hc=>ZfB c (h.gl64 c hc)) ⟨Zb Zh _,Yt,Yt⟩ ?_;generalize (t.gl.any fun c => !decide (c.2=0))=b;cases b
   all_goals
    refine go ?_;exact Z8 rfl Yt rfl
theorem Zi1 {t:PB} (h:Xo t) (fin:Nat) (hf:fin<18446744073709551616) (x:RU) (hx:x∈t.rs):X7 Tryz.prog 153 [.agg (ruP x),.cp [.vec (X4 (Xb fin)) false],.cp [.vec (X4 (Xb (clo t.l fin))) false]] (· = .val (.bool (X3P t fin x))):=by
 have hx64:=(h.rs x hx).cu.lt h.n.2;refine Yp ok153 fun C hC=>?_;unfold X3P;refine Zm ?_;refine Z9 ?_;refine Z5 rfl rfl rfl ?_;refine gd 6 ⟨?_⟩;cases hv:x.rev
 case true =>
  refine Qo (Z4 (v:=true) rfl hv) ?_;refine go ?_;exact Z8 rfl Yt rfl
 refine Qo (Z4 (v:=false) rfl hv) ?_;refine gd 12 ⟨?_⟩;refine Zn rfl ?_;refine Qe (Z1p fin hf x.tg) ⟨Z2 _,Yt,Yt⟩ ?_;cases hb:fin.testBit x.tg
 case true =>
  refine go ?_;exact Z8 rfl Yt rfl
 refine gd 20 ⟨?_⟩;refine Zn rfl ?_;refine Qe (Z1z x.cu.1 (clo t.l fin) hx64.1 (Z5A _ _)) ⟨Z2 _,Z2 _,Yt⟩ ?_;generalize decide (x.cu.1 ||| clo t.l fin=clo t.l fin)=b;cases b
 all_goals
  refine go ?_;exact Z8 rfl Yt rfl
theorem ZfC {α:Type} (p:α->Bool) (xs:List α):(X2L p xs = -1/\∀ x∈xs,p x=false) \/ ∃ (k:Nat) (h:k<xs.length),X2L p xs=(k:Int)/\p xs[k]=true:=by
 induction xs with
 | nil=>exact .inl ⟨rfl,fun x hx=>absurd hx (by simp)⟩
 | cons x xs ih =>
   unfold X2L;cases hp:p x with
   | true=>exact .inr ⟨0,Nat.succ_pos _,by simp,hp⟩
   | false =>
     rcases ih with⟨h1,h2⟩|⟨k,hk,h1,h2⟩
     . exact .inl ⟨by simp [h1],fun y hy=>(YD.1 hy).elim (fun e=>e▸hp) (h2 y)⟩
     . exact .inr ⟨k+1,Nat.succ_lt_succ hk,by simp [h1]; omega,h2⟩
theorem Z7X {t:PB} (h:Xo t) (hn:t.n<=5) (hf:X69 t) (S:List Nat):X7 Tryz.prog 124 [.agg (pbP t S)] fun r=>∃ (fin:Nat) (used:List Nat),X4E t fin used/\(∀ x∈t.rs,X3P t fin x=false)/\r=.tup [XG fin,.vec (inL used) false]:=by
 have hpp:=ZC t S;have hrp:=ZE t.rs;have hrl:∀ x,(ruP x).length=5:=fun _=>rfl;have hru:∀ x,X5 (ruP x):=fun x=>(ZE [x]).1;refine Yp ok124 fun C hC=>?_;refine Zm ?_;refine Z9 ?_;refine Z5 rfl rfl rfl ?_;refine gd 8 ⟨?_⟩;refine go ?_;refine Z1U (Zy (k:=5) rfl 1 (by decide) C) ?_;refine Zv hC (fun (z:Nat×List Nat)=>X4E t z.1 z.2) (fun z=>100-z.1) 3 (fun z => [(1,.cp (pbP t S)),(2,.ptr 0 0 0),(4,.ptr 1 0 0),(5,.own 2)]) (fun z => [(0,⟨1,[[.vec [] true]]⟩),(1,sBx z.1),(2,⟨1,inL z.2⟩)]) (by decide) (t.st,[]) (X4E.base h) (fun i=>i) (fun _ _=>rfl) Zf
  ⟨Qp hpp,Qt 0 0 0,Qt 1 0 0,Qw 2,Yt⟩ ⟨Qs ⟨⟨Yt,Yt⟩,Yt⟩,Qs ⟨⟨Z7 _,Yt⟩,Yt⟩,Qs Yt,Yt⟩ ?_
 rintro⟨fin,used⟩ hj;dsimp only at hj ⊢;have hle:=InS.le hn hj.i.ins;have hul:=hj.ln;have hf64:fin<18446744073709551616:=by omega
 have hidx:=Z4k t.rs ruP false 153 [.cp [.vec (X4 (Xb fin)) false],.cp [.vec (X4 (Xb (clo t.l fin))) false]] (X3P t fin) hrl hru ⟨⟨Z7 _,Yt⟩,⟨Z7 _,Yt⟩,Yt⟩ fun x hx=>Zi1 h fin hf64 x hx;refine gd 13 ⟨?_⟩;refine Qe (Z2n t.l S fin hf64) ⟨Zo _ _,Z2 _,Yt⟩ ?_;refine gd 14 ⟨?_⟩;refine Za (Z1s (k:=6) (id:=3) (l := [.vec (X4 (Xb (clo t.l fin))) false]) rfl rfl ⟨Z7 _,Yt⟩) ?_;refine gd 17 ⟨?_⟩;refine ZjM (i:=1) (k:=1) hidx rfl rfl rfl rfl rfl ⟨hrp,⟨⟨Z7 _,Yt⟩,⟨Z7 _,Yt⟩,Yt⟩,Yt⟩ ?_;rcases ZfC (X3P t fin) t.rs with⟨e1,hno⟩|⟨k,hk,e1,hyes⟩
 . rw [e1];refine gd 20 ⟨?_⟩;refine Za (Zj (k:=5) (id:=2) (b:=⟨1,inL used⟩) rfl rfl (Zs _)) ?_;refine go ?_;exact Z8 rfl ⟨Z2 _,Zs _,Yt⟩ ⟨fin,used,hj,hno,rfl⟩
 rw [e1];have hxo:=h.rs _ (Y0j hk);have hst:=hj.step h hn hf (Y0c hk) hyes;have hgr:fin<fin ||| 2 ^ t.rs[k].tg:=by
  have hy:=hyes;unfold X3P at hy;rw [Y0k,Y0k,Y10,Y10] at hy;exact Zhu hy.2.1
 refine gd 19 ⟨?_⟩;refine Qo (Qz rfl (by omega)) ?_;refine gd 26 ⟨?_⟩;refine Qr (Zl (xs:=t.rs) (g:=ruP) rfl rfl k rfl hk rfl) ?_;generalize t.rs[k]=x at hxo hst hgr;have hxt:=hxo.tg;refine gd 29 ⟨?_⟩;refine Qd (Z1u fin hf64 x.tg (by omega)) ⟨Z2 _,Yt,Yt⟩ ?_;refine gd 33 ⟨?_⟩
 refine Qr (Zu (k:=2) (m := [X31 k]) (fl:=true) rfl rfl rfl (fun q hq=>by rw [Y0g] at hq; subst hq; rfl) rfl (by
  show ((inL used).length+1)*8<=_
  rw [Z23];omega)) ?_
 simp only;have hsn:inL used ++ [X31 k]=inL (used ++ [k]):=by simp [inL]
 rw [hsn];refine go ?_
 exact⟨(fin ||| 2 ^ x.tg,used ++ [k]),mv 2 15,hst,by dsimp only; omega,fun i hi=>absurd hi (Ye i),Zq rfl,
  ⟨Qp hpp,Qt 0 0 0,Qt 1 0 0,Qw 2,Yt⟩,⟨Qs ⟨⟨Yt,Yt⟩,Yt⟩,Qs ⟨⟨Z7 _,Yt⟩,Yt⟩,Qs (Zs _),Yt⟩⟩
theorem Z7Y (N M:Nat) (hN:N<18446744073709551616) (hM:M<18446744073709551616):X7 Tryz.prog 125 [XG N,XG M] (· = XG (Xg N M)):=by
 have hlt:=Z47 (b:=M) hN;have hz:∀ M,Xg 0 M=0:=fun M=>Nat.le_zero.1 Y1o;have fin:∀ {r:PV} {x:Nat},x<18446744073709551616->X40 [x] r->r=XG x:=fun {r x} hx hr=>by
  have e1:=hr.set (fun y hy=>by rw [Y0g.1 hy]; exact hx);have e2:ofW [x]=x:=by simp [ofW]
  rw [e2] at e1;exact e1
 rcases Z1d hN with⟨rfl,e1⟩|⟨h1,e1⟩<;>rcases Z1d hM with⟨rfl,e2⟩|⟨h2,e2⟩<;>rw [e1]<;>(try rw [e2])<;>clear e1 e2
 all_goals
  refine Yp ok125 fun C hC=>?_;refine Zm ?_;refine Z9 ?_;refine Z5 rfl rfl rfl ?_;refine Z5 rfl rfl rfl ?_;refine go ?_;refine Z1i 1 ?_
 . repeat' (first | refine Za (Zj (k := 29) rfl rfl (ZV rfl)) ?_ | (first|refine st ?_|(apply B<;>intro hb<;>try cases hb)))
   refine Zw rfl rfl (Z2l []) (Z13 rfl) rfl fun r hr=>?_;have e1:=hr.set (fun x hx=>by cases hx);subst e1;refine go ?_;exact Z8 rfl (Z2 _) (show XG (ofW [])=_ by rw [hz]; simp [ofW])
 . repeat' (first | refine Za (Zj (k := 29) rfl rfl (ZV rfl)) ?_ | (first|refine st ?_|(apply B<;>intro hb<;>try cases hb)))
   refine Zw rfl rfl (Z2l []) (Z13 rfl) rfl fun r hr=>?_;have e1:=hr.set (fun x hx=>by cases hx);subst e1;refine go ?_;exact Z8 rfl (Z2 _) (show XG (ofW [])=_ by rw [hz]; simp [ofW])
 . refine gd 25 ⟨?_⟩;refine Qd (Z1j [] 0) (Z13 rfl) ?_;refine Qr (ZS rfl (Z19 N 0 hN hM)) ?_
   repeat' (first|refine Za (Zj (k:=29) rfl rfl (ZV rfl)) ?_|(first|refine st ?_|(apply B<;>intro hb<;>try cases hb)))
   refine Zw rfl rfl (Z2l [Xg N 0]) (Z13 rfl) rfl fun r hr=>?_;obtain rfl:=fin hlt hr;refine go ?_;exact Z8 rfl (Z2 _) rfl
 . refine gd 25 ⟨?_⟩;refine Qd (Z1j [M] 0) (Z13 rfl) ?_;refine Qr (ZS rfl (Z19 N M hN hM)) ?_
   repeat' (first|refine Za (Zj (k:=29) rfl rfl (ZV rfl)) ?_|(first|refine st ?_|(apply B<;>intro hb<;>try cases hb)))
   refine Zw rfl rfl (Z2l [Xg N M]) (Z13 rfl) rfl fun r hr=>?_;obtain rfl:=fin hlt hr;refine go ?_;exact Z8 rfl (Z2 _) rfl
theorem Zmo {α:Type} {esz:Nat} {e:Env} {h:X2} {n:Nat} {x hi mx:Operand} {xs:List α} {g:α->List PV} {fl:Bool} (hx:ev e x=some (.vec (xs.map g) fl)) (b:Nat) (hhi:ev e hi=some (.val (.int .i64 (b:Int)))) (hmx:ev e mx=some (.val (.int .i64 (b:Int)))) (hb:b<=xs.length) (hg:∀ x,(g x).length=esz) :
 X3 (.slc esz x none (some hi) (some mx)) e h n=some (.vec ((xs.take b).map g) true,h):=by
 have h1:XM e 0 none=some ((0:Nat):Int):=rfl;have h2:XM e ((xs.map g).length:Nat) (some hi)=some (b:Int):=by simp only [XM,X1O,hhi]
 have h3:X1O (ev e mx)=some (b:Int):=by simp only [X1O,hmx]
 simp only [X3,hx];have hall:∀ c∈xs.map g,c.length=esz:=fun c hc=>by obtain⟨y,_,rfl⟩:=Y0i.1 hc; exact hg y
 rw [h1,h2,h3];dsimp only;rw [Y6 ⟨⟨by omega,by omega,by omega,by simp; omega⟩,hall⟩];simp [Y2r]
def X48 (x:Nat):List PV := [.vec (X4 (Xb (2 ^ x))) false,.vec [] true]
theorem Zbc (x:Nat):X5 (X48 x):=⟨Z7 _,Yt,Yt⟩
theorem ZjN (x:Nat):X2C (X48 x)=cuC (X5M x):=by
 show [PV.vec (XE (X4 (Xb (2 ^ x)))) false,PV.vec [] false] = [PV.vec (X4 (Xb (2 ^ x))) false,.vec (X4 (Xb 0)) false];rw [Z1B,ZL]; rfl
theorem Zbd:∀ l:List Nat,XE (l.map X48)=(l.map X5M).map cuC
 | []=>rfl
 | x :: l => by
   show X2C (X48 x) :: XE (l.map X48)=_;rw [ZjN,Zbd l]; rfl
inductive X45 (t:PB):PV->Prop
 | yes (p:List Nat) (fp fl:Bool) (hp:XY t p) (hl:p.length<=62):X45 t (.tup [.vec (inL p) fp,.vec [] fl,.val (.bool true),.val (.int .i64 0)])
 | no (fin R:Nat) (used:List Nat) (fl:Bool) (hR:XQ t R) (hj:X4E t fin used) (hend:∀ x∈t.rs,X3P t fin x=false) (hno:Xp t fin=false):X45 t (.tup [.vec [] fl,.vec ((X5r (Xg R fin)).map cuC) false,.val (.bool false),.val (.int .i64 0)])
theorem Z88 {t:PB} (h:Xo t) (hn:t.n<=5) (hfr:X1i t=true) (S0:List Nat):X7 Tryz.prog 66 [.agg (pbP t S0)] (X45 t):=by
 have hpp:=ZC t S0;have hrp:=ZE t.rs;have hpi:∀ D,X1S D (pbP t S0):=fun D=>ZG (fun _ h=>h.elim) _ hpp;refine Yp ok66 fun C hC=>?_;refine Zm ?_;refine Z9 ?_;refine Z5 rfl rfl rfl ?_;refine gd 13 ⟨?_⟩;refine Qe (Z2i h S0) ⟨hpp,Yt⟩ ?_;refine gd 18 ⟨?_⟩;refine Qe (Z2F h S0) ⟨hpp,Yt⟩ ?_;rw [hfr];refine gd 22 ⟨?_⟩;refine Zw rfl rfl (Z7X h hn (ZcZ hfr) S0) ⟨hpp,Yt⟩ rfl ?_;rintro r ⟨fin,used,hj,hend,rfl⟩;have hfi:=hj.i.ins;have hle:=InS.le hn hfi;have hul:=hj.ln;have hlen:=Z23 used;have hui:∀ D,Xt D (inL used):=fun D=>Zd (fun _ h=>h.elim) _ (Zs used);refine go ?_;refine Zv hC (fun (z:Nat×Nat)=>z.1<=used.length+1/\InS t z.2/\(z.1<=used.length->SaP t used fin z.1 z.2)/\(used.length<z.1->Xp t fin=false)) (fun z=>used.length+1-z.1) 3 (fun z => [(1,.cp (pbP t S0)),(3,.ptr 0 0 0),(7,.ptr 1 0 0),(8,.vec (inL used) false),(9,.ptr 2 0 0),(10,Yv z.1)]) (fun z => [(0,⟨1,[[.vec [] true]]⟩),(1,sBx fin),(2,sBx z.2)]) (by decide) (0,t.st) ⟨Y0l _,h.st,fun _=>SaP.base hj.i.run,fun h=>absurd h (by omega)⟩ (fun i=>i) (fun _ _=>rfl) Zf
  ⟨Qp hpp,Qt 0 0 0,Qt 1 0 0,Qp (Zs _),Qt 2 0 0,Qp Yt,Yt⟩ ⟨Qs ⟨⟨Yt,Yt⟩,Yt⟩,Qs ⟨⟨Z7 _,Yt⟩,Yt⟩,Qs ⟨⟨Z7 _,Yt⟩,Yt⟩,Yt⟩ ?_
 rintro⟨i,s⟩ ⟨hi,hs,hsp,hno⟩;dsimp only at hi hs hsp hno ⊢;have hinc:IntKind.i64.wrap ((i:Int)+1)=((i+1:Nat):Int):=Y0v _ ⟨by omega,by omega⟩;have hs64:=hs.lt h.n.2;refine gd 30 ⟨?_⟩;by_cases hil:i<=used.length
 . refine Qo (Qy rfl (by rw [hlen]; omega)) ?_;have hP:=hsp hil;refine gd 35 ⟨?_⟩;refine Qe (Z58 h S0 s hs64) ⟨hpp,Z2 _,Yt⟩ ?_;cases hr:Xp t s
   case true =>
    refine gd 39 ⟨?_⟩;refine Qo (Zmo (xs:=used) (g:=X31) rfl i rfl rfl hil (fun _=>rfl)) ?_;refine go ?_;exact Z8 rfl ⟨Zs _,Yt,Yt,Yt,Yt⟩ (.yes (used.take i) true true ⟨s,hP.pre,hr⟩ (by rw [Y0o];omega))
   refine gd 43 ⟨?_⟩;by_cases hlt:i<used.length
   . refine Qo (Qy rfl (by rw [hlen]; omega)) ?_;obtain⟨x,hx,hP2⟩:=hP.step hlt hj.rv;have hxm:=YG hx;have hxt:=(h.rs x hxm).tg;obtain⟨hkl,hke⟩:=Y7.1 hx;refine gd 49 ⟨?_⟩;refine Qr (Zl (xs:=used) (g:=X31) rfl rfl i rfl hlt rfl) ?_;generalize used[i]=k at hx hkl hke;refine gd 51 ⟨?_⟩;refine Qr (Zl (xs:=t.rs) (g:=ruP) rfl rfl k rfl hkl rfl) ?_;rw [hke];refine gd 54 ⟨?_⟩;refine Qd (Z1u s hs64 x.tg (by omega)) ⟨Z2 _,Yt,Yt⟩ ?_;have hin:InS t (s ||| 2 ^ x.tg):=Z9P h _ h.st hP2.pre;refine go ?_
     exact⟨(i+1,s ||| 2 ^ x.tg),fun i=>i,⟨by dsimp only; omega,hin,fun _=>hP2,fun h=>absurd h (by dsimp only;omega)⟩,by show used.length+1-(i+1)<used.length+1-i; omega,fun _ _=>rfl,Zf,
      ⟨Qp hpp,Qt 0 0 0,Qt 1 0 0,Qp (Zs _),Qt 2 0 0,⟨_,by show some _=some _; rw [hinc],.pure _ Yt⟩,Yt⟩,⟨Qs ⟨⟨Yt,Yt⟩,Yt⟩,Qs ⟨⟨Z7 _,Yt⟩,Yt⟩,Qs ⟨⟨Z7 _,Yt⟩,Yt⟩,Yt⟩⟩
   . refine Qo (Qz rfl (by rw [hlen]; omega)) ?_;have hsf:=hP.fin (by omega);refine go ?_
     exact⟨(i+1,s),fun i=>i,⟨by dsimp only; omega,hs,fun h=>absurd h (by dsimp only;omega),fun _=>by rw [<- hsf]; exact hr⟩,by show used.length+1-(i+1)<used.length+1-i; omega,fun _ _=>rfl,Zf,
      ⟨Qp hpp,Qt 0 0 0,Qt 1 0 0,Qp (Zs _),Qt 2 0 0,⟨_,by show some _=some _; rw [hinc],.pure _ Yt⟩,Yt⟩,⟨Qs ⟨⟨Yt,Yt⟩,Yt⟩,Qs ⟨⟨Z7 _,Yt⟩,Yt⟩,Qs ⟨⟨Z7 _,Yt⟩,Yt⟩,Yt⟩⟩
 have hnor:=hno (by omega);refine Qo (Qz rfl (by rw [hlen];omega)) ?_;have hf64:fin<18446744073709551616:=by omega
 refine gd 56 ⟨?_⟩;refine Z41 rfl rfl (.inl rfl) (Z2Y h hn S0) ⟨hpp,Yt⟩ ?_;rintro r ⟨R,hR,rfl⟩;have hM:=Z47 (b:=fin) hR.lt;have hRb:=XQ.b126 h hn hR;have hmem:∀ r∈mem (Xg R fin),1<=r/\r<=6:=fun r hr=>by
  rw [ZY hM,ZB hR.lt hf64,Y0k] at hr;exact X6L (Xc.1 hRb r hr.1)
 have hml:=Z2H (Xg R fin);refine gd 58 ⟨?_⟩;refine Qd (Z7Y R fin hR.lt hf64) ⟨Z2 _,Z2 _,Yt⟩ ?_;refine Qd (Z1F (Xg R fin)) ⟨Z2 _,Yt⟩ ?_;have hgoal:∀ fl,X45 t (.tup [.vec [] fl,.vec ((X5r (Xg R fin)).map cuC) false,.val (.bool false),.val (.int .i64 0)]):=fun fl=>.no fin R used fl hR hj hend hnor;have hlow:=Zbd (mem (Xg R fin));have hsl:(mem (Xg R fin)).map X5M=X5r (Xg R fin):=rfl;rw [hsl] at hlow;generalize X5r (Xg R fin)=L at hgoal hlow;generalize Xg R fin=M at hM hmem hml hlow;refine go ?_;refine Z1U (ZO (id:=0) (i0:=0) (j0:=0) rfl (Y0 rfl) (Y0 rfl) rfl 2 (by decide) (by decide) (Y0 rfl) C) ?_;refine Z2v (X:=List Nat) hC (caps := [.cp [.vec (X4 (Xb M)) false]]) [(3,.ptr 0 0 0),(59,.fn 121 [.cp [.vec (X4 (Xb M)) false]])]
  (fun z => [(0,⟨1,[[.own 8]]⟩),(8,⟨2,z.map X48⟩)]) rfl ⟨⟨Z7 _,Yt⟩,Yt⟩ (Z2x M hM) (fun _=>rfl)
  (fun ex pre z=>ex=.normal/\z=pre.map (·.val)) 9 (by decide) [] ⟨rfl,rfl⟩
  (Z30 (X3r.mem (ρ := fun i => i) (m := 9) (L := [(3, .ptr 0 0 0), (59, .fn 121 [.cp [.vec (X4 (Xb M)) false]])]) ⟨Qt 0 0 0, Qp ⟨⟨Z7 _, Yt⟩, Yt⟩, Yt⟩)
    (X1o.mem (ρ:=fun i=>i) (m:=9) (L := [(0,⟨1,[[.own 8]]⟩),(8,⟨2,[]⟩)]) ⟨⟨by decide,_,rfl,Xw.single ⟨.own (ρ:=fun i=>i) 8 (by decide),Yt⟩ rfl⟩,Qs Yt,Yt⟩) hC (by decide))
  (fun z q hq=>by simp at hq; rcases hq with rfl|rfl<;>exact Y1u _) _ (fun x=>rfl) ?_ ?_ ?_
 . rintro C2 hC2 pre x z ⟨-, rfl⟩ hlen2;have hx:=hmem x.val x.2;have hpl:(pre.map (·.val)).length<=64:=by rw [Y0f]; omega
   refine gd 64 ⟨?_⟩;refine Qd (Zft x.val (by omega) true) ⟨⟨⟨Yt,Yt⟩,Yt⟩,Yt⟩ ?_;refine gd 67 ⟨?_⟩
   refine Qr (Zu (k:=8) (m := [X48 x.val]) (fl:=true) rfl rfl rfl (fun q hq=>by rw [Y0g] at hq; subst hq; rfl) rfl (by
    show (((pre.map (·.val)).map X48).length+1)*48<=_
    rw [Y0f];omega)) ?_
   refine go ?_
   refine⟨.inl rfl,pre.map (·.val) ++ [x.val],mv 8 15,⟨rfl,by rw [Y0r]; rfl⟩,fun i hi=>absurd hi (by omega),Zq rfl,
    ⟨Qt 0 0 0,Qp ⟨⟨Z7 _,Yt⟩,Yt⟩,Yt⟩,⟨⟨by decide,_,rfl,Xw.single ⟨.own (ρ:=mv 8 15) 8 (by decide),Yt⟩ rfl⟩,⟨by decide,_,rfl,?_⟩,Yt⟩⟩
   show Xw _ _ ⟨2,(pre.map (·.val)).map X48 ++ [X48 x.val]⟩ ⟨2,(pre.map (·.val) ++ [x.val]).map X48⟩;rw [Y0r];exact .same _ (by rw [<- Y1c,<- Y0r]; exact Zb Zbc _)
 . rintro xs z hxs ⟨-, rfl⟩;rw [hxs];refine Z1U (fun a w hh=>(Zx (ob:=0) (id:=8) (i0:=0) (j0:=0) rfl rfl (by decide) (Zb Zbc _) (Y0 rfl) (Y0 rfl) rfl) C a w hh) ?_;refine go ?_;refine Z1K (r:=.tup [.vec [] true,.vec ((mem M).map X48) false,.val (.bool false),.val (.int .i64 0)]) rfl ⟨Yt,by show X1 (XE _); rw [hlow]; exact Z1 _,Yt,Yt,Yt⟩ ?_;have e:PV.low (.tup [.vec [] true,.vec ((mem M).map X48) false,.val (.bool false),.val (.int .i64 0)])=.tup [.vec [] false,.vec (L.map cuC) false,.val (.bool false),.val (.int .i64 0)]:=by
    show PV.tup [.vec [] false,.vec (XE ((mem M).map X48)) false,_,_]=_;rw [hlow]; rfl
   rw [e];exact hgoal false
 . rintro ex pre z - ⟨rfl,_⟩ (h|⟨id,h⟩)<;>cases h
structure X2H (t:PB) (R:Nat) (l:List Cu):Prop where
 em:∀ c∈l,Xy c/\emC c=false
 len:l.length<=64
 inv:X4n t fun S=>soC (l.map (X2I R)) S=true
theorem X2H.snd {t:PB} {R:Nat} {l:List Cu} (h:X2H t R l) (hR:R ||| 126=126):Snd t false [] (l.map (X2I R)) where
 form:=.inr ⟨rfl,rfl⟩
 plan:=fun h=>by cases h
 inv:=fun _=>h.inv
 len:=by rw [Y0f]; have:=h.len; omega
 cub:=fun c hc=>by
  obtain⟨d,hd,rfl⟩:=Y0i.1 hc;exact⟨Zlp hR d,Zmm (h.em d hd).2⟩
theorem Zd0 {t:PB} (h:Xo t) (hn:t.n<=5) {R:Nat} (hR:XQ t R) {ks:List KE} (hk:X1R (Xh t R) ks):X2H t R (kcs ks):=by
 have hp:=Z3d h hR.a.ok;have hmem:∀ c∈kcs ks,InM (mkN t.n) c/\emC c=false:=fun c hc=>by
  obtain⟨e,he,rfl⟩:=Y0i.1 hc;exact (hk.inv.mem e he).2
 refine⟨fun c hc=>⟨hk.inv.c64 c hc,(hmem c hc).2⟩,?_,Zjs h hR.a.ok hmem (fun S hS _=>hk.able_iff hp hS) fun ha=>hk.not_able hp ((Z4S h hR.a.ok).2 ha)⟩;have h1:=hk.inv.len;have h2:2 ^ t.n<=32:=YJ (n:=2) (by decide) hn;have h3:(kcs ks).length=ks.length:=by simp [kcs]
 have h4:ks.length<=2 ^ t.n:=h1;omega
theorem ZfD {t:PB} (h:Xo t) {R R':Nat} (hR:XQ t R) (hR':XQ (Xh t R) R') (hf:X69 (Xh t R)) {fin:Nat} {used:List Nat} (hj:X4E (Xh t R) fin used) (hend:∀ x∈(Xh t R).rs,X3P (Xh t R) fin x=false) (hno:Xp (Xh t R) fin=false):X2H t R (X5r (Xg R' fin)):=by
 refine⟨fun c hc=>?_,by unfold X5r; rw [Y0f]; exact Z2H _,Zjv h hR hR' hf hj hend hno⟩;obtain⟨r,hr,rfl⟩:=Y0i.1 hc;exact⟨⟨ZP (Z3T hr),Y1u _⟩,by unfold emC X5M; simp⟩
theorem ZjO {t:PB} (h:Xo t) {R:Nat} (hR:XQ t R) {p:List Nat} (hp:XY (Xh t R) p) (hl:p.length<=62):(∀ k∈p,k<(X2k t R).length)/\Snd t true (p.map fun j=>(X2k t R).getD j 0) []:=by
 obtain⟨h1,h2⟩:=Z8R h hR.a.ok hp;exact⟨h1,⟨.inl ⟨rfl,rfl⟩,fun _=>⟨h2,by rw [Y0f]; omega⟩,(fun h=>by cases h),Y0l _,(fun c hc=>by cases hc)⟩⟩
theorem Zd1 (p kept:List Nat) (fp fk:Bool) (hp:∀ k∈p,k<kept.length) (hl:p.length<=1000):X7 Tryz.prog 69 [.vec (inL p) fp,.vec (inL kept) fk] (· = .tup [.vec (inL (p.map fun j=>kept.getD j 0)) false,.val (.int .i64 0)]):=by
 have hpl:=Z23 p;have hkl:=Z23 kept;refine Yp ok69 fun C hC=>?_
 repeat' (first|refine Za (Zy (k:=6) rfl 1 (by decide)) ?_|(first|refine st ?_|(apply B<;>intro hb<;>try cases hb)))
 refine Zv hC (fun i=>i<=p.length) (fun i=>p.length-i) 1 (fun i => [(1,.vec (inL kept) fk),(6,.own 0),(9,.vec (inL p) fp),(10,.val (.int .i64 (p.length:Int))),(11,Yv i)]) (fun i => [(0,⟨1,inL ((p.take i).map fun j=>kept.getD j 0)⟩)]) (Y0l _) 0 (Y0l _) (fun i=>i) (fun _ _=>rfl) Zf
  ⟨Qp (Zs _),Qw 0,Qp (Zs _),⟨_,by show some _=some _; rw [hpl],.pure _ Yt⟩,Qp Yt,Yt⟩ ⟨Qs Yt,Yt⟩ ?_
 intro i hi;have hinc:IntKind.i64.wrap ((i:Int)+1)=((i+1:Nat):Int):=Y0v _ ⟨by omega,by omega⟩;refine gd 12 ⟨?_⟩;by_cases hil:i<p.length
 . refine Qo (Qy rfl (by omega)) ?_;have hk:=hp _ (Y0j hil);have htk:=ZR hil;have hol:((p.take i).map fun j=>kept.getD j 0).length<=i:=by rw [Y0f,Y0o]; omega
   refine gd 13 ⟨?_⟩;refine Qo (Zl (xs:=p) (g:=X31) rfl rfl i rfl hil rfl) ?_;generalize p[i]=k at hk htk;have hgd:kept.getD k 0=kept[k]:=by rw [Y0b,Y0c hk]; rfl
   have hsn:inL ((p.take i).map fun j=>kept.getD j 0) ++ [X31 kept[k]]=inL ((p.take (i+1)).map fun j=>kept.getD j 0):=by rw [htk,Y0r,<- hgd]; simp [inL]
   refine gd 16 ⟨?_⟩;refine Qo (Qz rfl (by omega)) ?_;refine gd 21 ⟨?_⟩;refine Zn rfl ?_;refine Qo (Qz rfl (by rw [hkl];omega)) ?_;refine gd 26 ⟨?_⟩;refine Qo (Zl (xs:=kept) (g:=X31) rfl rfl k rfl hk rfl) ?_;generalize kept[k]=m at hsn;refine gd 29 ⟨?_⟩
   refine ZH (Zu (k:=0) (m := [X31 m]) (fl:=true) rfl rfl rfl (fun q hq=>by rw [Y0g] at hq; subst hq; rfl) rfl (by
    show ((inL ((p.take i).map fun j=>kept.getD j 0)).length+1)*8<=_
    rw [Z23];omega)) rfl rfl ?_
   simp only;rw [hsn];refine go ?_
   exact⟨i+1,mv 0 1,hil,by omega,fun i hi=>absurd hi (Ye i),Zq rfl,
    ⟨Qp (Zs _),Qw 0,Qp (Zs _),Qp Yt,⟨_,by show some _=some _; rw [hinc],.pure _ Yt⟩,Yt⟩,⟨Qs (Zs _),Yt⟩⟩
 . have htk : p.take i = p := YA (by omega);rw [htk];refine Qo (Qz rfl (by omega)) ?_
   repeat' (first|refine Za (Zj (k:=6) (id:=0) (b:=⟨1,inL (p.map fun j=>kept.getD j 0)⟩) rfl rfl (Zs _)) ?_|(first|refine st ?_|(apply B<;>intro hb<;>try cases hb)))
   exact Z8 rfl ⟨Zs _,Yt,Yt⟩ rfl
noncomputable def prX (t:PB) (R:Nat) (S:List Nat):List PV := [.val (.int .i64 (t.n:Int)),X16 t.l S,.vec (X4 (Xb t.st)) false,.vec (t.rs.map ruP) false,.vec (t.nv.map cuC) false,.vec (t.gl.map cuC) false,
 .val (.int .i64 (t.n:Int)),X16 t.l S,.vec (X4 (Xb (t.st &&& R))) false,.vec ((Xh t R).rs.map ruP) false,.vec ((Xh t R).nv.map cuC) false,.vec (t.gl.map cuC) false,.vec (inL (X2k t R)) false,.vec (X4 (Xb R)) false]
theorem Z5Q (t:PB) (R:Nat) (S:List Nat):X5 (prX t R S):=⟨Yt,Zo _ _,Z7 _,ZE _,Z1 _,Z1 _,Yt,Zo _ _,Z7 _,ZE _,Z1 _,Z1 _,Zs _,Z7 _,Yt⟩
theorem Z8X {t:PB} (h:Xo t) (hn:t.n<=5) (S:List Nat) (L:Int) (hL:1<=L):X7 Tryz.prog 25 [.agg (pbP t S),.val (.int .i64 L)] fun r=>∃ R,XQ t R/\r=.tup [.agg (prX t R S),.val (.int .i64 0)]:=by
 have hpp:=ZC t S;refine Yp ok25 fun C hC=>?_;refine Zm ?_;refine Z9 ?_;refine Z5 rfl rfl rfl ?_;refine gd 11 ⟨?_⟩;refine Qo (Qz rfl (by omega)) ?_;refine gd 14 ⟨?_⟩;refine Qe (Z2i h S) ⟨hpp,Yt⟩ ?_;refine gd 21 ⟨?_⟩;refine Zw rfl rfl (Z6y h hn S) ⟨hpp,Yt⟩ rfl ?_;rintro r ⟨R,hR,rfl⟩;refine gd 29 ⟨?_⟩;refine Z41 rfl rfl (.inl rfl) (Z2Y h hn S) ⟨hpp,Yt⟩ ?_;rintro r ⟨R2,hR2,rfl⟩;obtain rfl:=hR2.uniq hR;refine go ?_;exact Z8 (r:=.tup [.agg (prX t R2 S),.val (.int .i64 0)]) rfl ⟨Z5Q t R2 S,Yt,Yt⟩ ⟨R2,hR,rfl⟩
end
section
open Go.RowKit
theorem b62 {i:Nat} (h1:1<=i) (h2:i<=5):(62:Nat).testBit i=true:=by
 have:i=1 \/ i=2 \/ i=3 \/ i=4 \/ i=5:=by omega
 rcases this with rfl|rfl|rfl|rfl|rfl<;>decide
theorem ZjP {t:PB} (h:Xo t) {a b:Nat} (hu:Up t.l a b):1<=a/\a<=5:=by
 refine⟨(ZhY h.good hu).1,?_⟩
 induction hu with
 | one hm=>have:=h.lk _ hm; omega
 | more _ _ ih=>exact ih
theorem Zi2 {t:PB} (h:Xo t) (hn:t.n<=5) {c:Cu} (hc:InC t.n c):X1h t.l c ||| 62=62:=Xc.2 fun i hi=>by
 have h64:=hc.lt h.n.2;unfold X1h at hi;rw [Z7L] at hi;obtain⟨x,hx,hb⟩:=hi;obtain⟨b,hbm,rfl⟩:=Y0i.1 hx;rw [ZY (Z1S h64.1 h64.2),Y00,YR] at hbm;have hb1:(mkN t.n).testBit b=true:=hbm.elim (fun h=>Xc.1 hc.y b h) fun h=>Xc.1 hc.n b h;rw [Z21,Y0k,Y0n,Y0n] at hb1;rcases (Z4e h.good.small b i).1 hb with hu|rfl
 . have := ZjP h hu;exact b62 this.1 this.2
 . exact b62 hb1.1 (by omega)
theorem XQ.b62 {t:PB} (h:Xo t) (hn:t.n<=5) {R:Nat} (hR:XQ t R):R ||| 62=62 :=
 hR.least 62 ⟨fun c hc=>Zi2 h hn (h.gl c hc).1,fun x hx _ _=>Zi2 h hn (h.rs x hx).cu,fun c hc _=>Zi2 h hn (h.nv c hc).1⟩
theorem Zeg {t:PB} (h:Xo t) {R:Nat} (hR:X3s t R) {S:Nat} (hr:Rch (Xh t R) S):S ||| R=R:=by
 have hp:=Z3d h hR
 induction hr with
 | base =>
   refine Xc.2 fun i hi=>?_;have hi:(t.st &&& R).testBit i=true:=hi;rw [Y0z,Y0k] at hi;exact hi.2
 | @step S x hr hx hs ih =>
   have S64:=(hr.inS hp).lt hp.n.2;have hl:x.tg<64:=by have:=(hp.rs x hx).tg; omega
   refine Xc.2 fun i hi=>?_;rw [ZQ hl S64] at hi;by_cases hit:i=x.tg
   . subst hit; exact (Z2U.1 hx).2
   . rw [Y8 hit] at hi; exact Xc.1 ih i hi
def fwC (R s:Nat):Cu:=(s,Xg R s)
theorem Zmp {R s S:Nat} (hR:R<18446744073709551616) (hs:s ||| R=R):hoC (fwC R s) S=true↔S &&& R=s:=by
 have hs64:s<18446744073709551616:=Y02 (by rw [<- hs]; exact YN) hR;rw [Z1a];constructor
 . rintro ⟨h1, h2⟩;refine YE fun i=>?_;rw [Y0z];cases hb:s.testBit i with
   | true=>rw [h1 i hb,Xc.1 hs i hb]; rfl
   | false =>
     cases hr:R.testBit i with
     | false=>rw [Y3y]
     | true=>rw [h2 i (by show (Xg R s).testBit i=true; rw [ZB hR hs64,hr,hb]; rfl),Y2Q]
 . intro e;refine⟨fun i hi=>?_,fun i hi=>?_⟩
   . have hi : s.testBit i = true := hi;rw [<- e,Y0z,Y0k] at hi;exact hi.1
   . have hi : (Xg R s).testBit i = true := hi;rw [ZB hR hs64,Y0k] at hi;cases hb:S.testBit i with
     | false=>rfl
     | true =>
       have:s.testBit i=true:=by rw [<- e,Y0z,hb,hi.1]; rfl
       rw [this] at hi; exact absurd hi.2 (by decide)
def fwL (R:Nat) (L:List Nat):List Cu:=X34 (L.map (fwC R)) (0,0)
theorem Zkj {R s:Nat} (hR:R ||| 62=62) (hs:s ||| R=R):InM 62 (fwC R s):=by
 have hR64:R<18446744073709551616:=Y02 (show R<=62 by rw [<- hR]; exact YN) (by decide);have hs64:s<18446744073709551616:=Y02 (by rw [<- hs]; exact YN) hR64;refine⟨Xc.2 fun i hi=>Xc.1 hR i (Xc.1 hs i hi),Xc.2 fun i hi=>?_⟩;have hi:(Xg R s).testBit i=true:=hi;rw [ZB hR64 hs64,Y0k] at hi;exact Xc.1 hR i hi.1
theorem in0:InM 62 ((0,0):Cu):=⟨by decide,by decide⟩
theorem ZfE {t:PB} (h:Xo t) (hn:t.n<=5) {R:Nat} (hR:XQ t R) {L:List Nat} (hL:∀ S,S∈L↔Rch (Xh t R) S) (hno:¬ X1I (Xh t R) (Xh t R).st):X2H t R (fwL R L):=by
 have hR62:=XQ.b62 h hn hR;have hR64:R<18446744073709551616:=Y02 (show R<=62 by rw [<- hR62]; exact YN) (by decide);have hsub:∀ s∈L,s ||| R=R:=fun s hs=>Zeg h hR.a.ok ((hL s).1 hs)
 have hin:∀ b∈L.map (fwC R),InM 62 b:=fun b hb=>by
  obtain⟨s,hs,rfl⟩:=Y0i.1 hb;exact Zkj hR62 (hsub s hs)
 obtain⟨h1,h2,h3⟩:=Z9K hin in0;refine⟨fun c hc=>⟨(h2 c hc).lt (by decide),h1.1 c hc⟩,h3,(Zl5 h hR.a.ok hL fun ha=>hno ((Z4S h hR.a.ok).2 ha)).congr fun S=>Zl6 (fun c hc=>h1.1 c hc) (fun T=>?_) S⟩;show soC (X34 (L.map (fwC R)) (0,0)) T=true↔_;rw [ZgW (fun b hb=>(hin b hb).lt (by decide))];have h0:hoC ((0,0):Cu) T=true:=(Z1a _ _).2 ⟨fun i hi=>by simp at hi,fun i hi=>by simp at hi⟩;rw [h0,Y1g,Y10,Yy,ne_eq,not_congr];unfold soC;rw [Y01];constructor
 . rintro ⟨c, hc, ho⟩;obtain⟨s,hs,rfl⟩:=Y0i.1 hc;rw [(Zmp hR64 (hsub s hs)).1 ho];exact hs
 . intro hm;exact⟨fwC R (T &&& R),Y0i.2 ⟨_,hm,rfl⟩,(Zmp hR64 (hsub _ hm)).2 rfl⟩
theorem BG.whole {t:PB} (h:Xo t) {d lo i:Nat} {L0 L:List FE} (g:BG t d lo L0 i 0 L) (hi:L0.length<=i) (hlen:L.length=L0.length) (S:Nat):S∈L0.map FE.s↔Rch t S:=by
 have hL:L0=L:=g.pre.eq_of_length hlen.symm;subst hL;constructor
 . intro hm;obtain⟨e,he,rfl⟩:=Y0i.1 hm;exact g.rch e he
 . intro hr
   induction hr with
   | base =>
     obtain⟨j,e,h1,h2⟩:=g.b.all [] t.st rfl (Y0l _);exact Y0i.2 ⟨e,YG h1,h2⟩
   | step _ hx hs ih =>
     obtain⟨e,he,rfl⟩:=Y0i.1 ih;obtain⟨j,hj,rfl⟩:=Y19.1 he;exact g.step hi (Y0c hj) hx hs
theorem Zi3 {t:PB} (h:Xo t) (hno:¬ X1I t t.st) {lo:Nat} {L:List FE} (hr:∀ e∈L,Rch t e.s):X3v t lo L:=fun i e _ he=>by
 refine Yy.2 fun hg=>hno ((able_iff h).2 ⟨e.s,hr e (YG he),hg⟩)
end
section
open Go.Shelf
def Z3R:Go.Shelf.Ren:=⟨fun|6=>167|15=>143|14=>193|28=>183|29=>184|20=>206|21=>207|22=>208|23=>209|24=>210|25=>211|26=>212|27=>213|46=>217|47=>197|48=>198|49=>218|50=>219|57=>229|n=>n,fun|22=>164|24=>27|25=>240|3=>3|39=>107|0=>0|53=>256|55=>33|4=>4|46=>250|45=>249|50=>243|5=>5|9=>9|66=>269|70=>273|76=>284|77=>285|n=>n,fun|n=>n⟩
theorem X60:Go.Proofs.SlLaysF0.n6 Tryz.prog Z3R:={
 mixed:=by kernel_rfl
 f6:=⟨Tryz.f167.name,by decide,Tryz.func167.trans (congrArg some (by kernel_rfl))⟩
 f14:=⟨Tryz.f193.name,by decide,Tryz.func193.trans (congrArg some (by kernel_rfl))⟩
 f15:=Tryz.func143.trans (congrArg some (by kernel_rfl))
 f20:=⟨Tryz.f206.name,by decide,Tryz.func206.trans (congrArg some (by kernel_rfl))⟩
 f21:=⟨Tryz.f207.name,by decide,Tryz.func207.trans (congrArg some (by kernel_rfl))⟩
 f22:=⟨Tryz.f208.name,by decide,Tryz.func208.trans (congrArg some (by kernel_rfl))⟩
 f23:=⟨Tryz.f209.name,by decide,Tryz.func209.trans (congrArg some (by kernel_rfl))⟩
 f24:=⟨Tryz.f210.name,by decide,Tryz.func210.trans (congrArg some (by kernel_rfl))⟩
 f25:=⟨Tryz.f211.name,by decide,Tryz.func211.trans (congrArg some (by kernel_rfl))⟩
 f26:=⟨Tryz.f212.name,by decide,Tryz.func212.trans (congrArg some (by kernel_rfl))⟩
 f27:=⟨Tryz.f213.name,by decide,Tryz.func213.trans (congrArg some (by kernel_rfl))⟩
 f28:=Tryz.func183.trans (congrArg some (by kernel_rfl))
 f29:=Tryz.func184.trans (congrArg some (by kernel_rfl))
 f46:=⟨Tryz.f217.name,by decide,Tryz.func217.trans (congrArg some (by kernel_rfl))⟩
 f47:=Tryz.func197.trans (congrArg some (by kernel_rfl))
 f48:=Tryz.func198.trans (congrArg some (by kernel_rfl))
 f49:=⟨Tryz.f218.name,by decide,Tryz.func218.trans (congrArg some (by kernel_rfl))⟩
 f50:=⟨Tryz.f219.name,by decide,Tryz.func219.trans (congrArg some (by kernel_rfl))⟩
 f57:=⟨Tryz.f229.name,by decide,Tryz.func229.trans (congrArg some (by kernel_rfl))⟩
 t0:=Tryz.underlying0
 a0:=Tryz.isAgg0
 z0:=Tryz.sizeOf0
 v0:=Tryz.zeroValue0
 t3:=Tryz.underlying3
 a3:=Tryz.isAgg3
 z3:=Tryz.sizeOf3
 v3:=Tryz.zeroValue3
 t4:=Tryz.underlying4
 a4:=Tryz.isAgg4
 z4:=Tryz.sizeOf4
 v4:=Tryz.zeroValue4
 t5:=Tryz.underlying5
 a5:=Tryz.isAgg5
 z5:=Tryz.sizeOf5
 v5:=Tryz.zeroValue5
 t9:=Tryz.underlying9
 a9:=Tryz.isAgg9
 z9:=Tryz.sizeOf9
 v9:=Tryz.zeroValue9
 t22:=Tryz.underlying164
 a22:=Tryz.isAgg164
 z22:=Tryz.sizeOf164
 v22:=Tryz.zeroValue164
 t25:=Tryz.underlying240
 a25:=Tryz.isAgg240
 z25:=Tryz.sizeOf240
 v25:=Tryz.zeroValue240
 t39:=Tryz.underlying107
 a39:=Tryz.isAgg107
 z39:=Tryz.sizeOf107
 v39:=Tryz.zeroValue107
 t45:=Tryz.underlying249
 a45:=Tryz.isAgg249
 z45:=Tryz.sizeOf249
 v45:=Tryz.zeroValue249
 t46:=Tryz.underlying250
 a46:=Tryz.isAgg250
 z46:=Tryz.sizeOf250
 v46:=Tryz.zeroValue250
 t50:=Tryz.underlying243
 a50:=Tryz.isAgg243
 z50:=Tryz.sizeOf243
 v50:=Tryz.zeroValue243
 t53:=Tryz.underlying256
 a53:=Tryz.isAgg256
 z53:=Tryz.sizeOf256
 v53:=Tryz.zeroValue256
 t55:=Tryz.underlying33
 a55:=Tryz.isAgg33
 z55:=Tryz.sizeOf33
 v55:=Tryz.zeroValue33
 t66:=Tryz.underlying269
 a66:=Tryz.isAgg269
 z66:=Tryz.sizeOf269
 v66:=Tryz.zeroValue269
 t70:=Tryz.underlying273
 a70:=Tryz.isAgg273
 z70:=Tryz.sizeOf273
 v70:=Tryz.zeroValue273
 t76:=Tryz.underlying284
 a76:=Tryz.isAgg284
 z76:=Tryz.sizeOf284
 v76:=Tryz.zeroValue284
 t77:=Tryz.underlying285
 a77:=Tryz.isAgg285
 z77:=Tryz.sizeOf285
 v77:=Tryz.zeroValue285 }
theorem Zd2:∀ w,(isAgg (Z3R.t 24)).run Tryz.prog w=.ok true w:=Tryz.isAgg27
theorem Zbe:∀ w,(Go.sizeOf (Z3R.t 24)).run Tryz.prog w=.ok 1 w:=Tryz.sizeOf27
end
section
open Go.RowKit
attribute [local irreducible] aw Xr dK
def stC (s:Nat):List PV := [.vec (X4 (Xb s)) false]
theorem Zeh (s:Nat):X5 (stC s):=⟨Z7 _,Yt⟩
def seL (l:List Nat):List (List PV):=l.map stC
theorem Z5R (l:List Nat):X1 (seL l):=Zb (enc:=stC) Zeh l
theorem Za2 (l:List Nat):(seL l).length=l.length:=by simp [seL]
abbrev S64:={ s:Nat // s<18446744073709551616 }
theorem X6y {xs:List Nat} (h:∀ c∈xs,c<18446744073709551616):∃ l:List S64,l.map (·.1)=xs:=by
 induction xs with
 | nil=>exact⟨[],rfl⟩
 | cons c xs ih =>
   obtain⟨l,hl⟩:=ih fun d hd=>h d (YB _ hd);exact⟨⟨c,h c (Y0t ..)⟩ :: l,by rw [Y1J,hl]⟩
theorem Zbf {n ob:Nat} {h:X2} (xs:List Nat) (hx:∀ c∈xs,c<18446744073709551616) (hh:h ob=some ⟨1,seL xs⟩) :
 XF Tryz.prog 167 n [.own ob,.fn 168 []] h fun n' r h'=>n'=n/\r=.tup []/\∃ ys:List Nat,ys.Perm xs/\h'=h.upd ob ⟨1,seL ys⟩:=by
 obtain⟨l,rfl⟩:=X6y hx;have e:∀ l:List S64,seL (l.map (·.1))=l.map fun c:S64=>stC c.1:=fun l=>by unfold seL; rw [Y2o]; rfl
 rw [e] at hh;have hs:=Z63 (P:=Tryz.prog) (ρ:=Z3R) (n:=n) X60 ⟨_,Tryz.func167,by kernel_rfl,by kernel_rfl⟩ 1 (by decide) Zd2 Zbe (fun c:S64=>stC c.1) (fun c=>rfl) (fun c=>Zeh c.1) (fun c:S64=>key c.1) (fun a b:S64=>X24 (key a.1) (key b.1)) (fun a b=>ZdG) 168 [] Yt (fun a b=>Z3E a.1 b.1 a.2 b.2) l hh;refine hs.mono ?_;rintro n' r h' ⟨h1,h2,ys,h3,h4,h5⟩;exact⟨h1,h2,ys.map (·.1),h3.map _,by rw [e]; exact h5⟩
def X7Z (t:PB) (S:List Nat) (lim:Int) {B:Bx} (n':Nat) (r:PV) (h':X2):Prop :=
 (n'=72/\r=.val (.int .i64 3)/\h'=Xv [])
 \/ (n'=40/\r=.val (.int .i64 0)/\∃ (L:List FE) (E:List Nat),(∀ s,s∈L.map FE.s↔Rch t s)/\L.length<=2 ^ t.n/\h'=Xv (X15 t S lim L E 7 4 6 ++ [(0,B)]))
def X5k (t:PB) (S:List Nat) (lim:Int) {B:Bx} (n':Nat) (r:PV) (h':X2):Prop :=
 (n'=72/\r=.val (.int .i64 3)/\X5b h' [])
 \/ (n'=40/\r=.val (.int .i64 0)/\∃ (L:List FE) (E:List Nat),(∀ s,s∈L.map FE.s↔Rch t s)/\L.length<=2 ^ t.n/\X5b h' (X15 t S lim L E 7 4 6 ++ [(0,B)]))
theorem X5k.less {t:PB} {S:List Nat} {lim:Int} {B:Bx} (n':Nat) (r:PV) (h':X2) (hd:X5k t S lim (B:=B) n' r h'):∃ h2:X2,(∀ i b,h2 i=some b->h' i=some b)/\X7Z t S lim (B:=B) n' r h2:=by
 rcases hd with⟨h1,h2,h3⟩|⟨h1,h2,L,E,h3,h4,h5⟩
 . exact⟨_,Z3O h3.mem,.inl ⟨h1,h2,rfl⟩⟩
 . exact⟨_,Z3O h5.mem,.inr ⟨h1,h2,L,E,h3,h4,rfl⟩⟩
theorem ZfF {t:PB} (h:Xo t) (hn:t.n<=5) (S:List Nat) (lim:Int) (hlim:1<=lim) (hno:¬ X1I t t.st) {B:Bx} (hB:X1 B.elems) :
 XF Tryz.prog 166 5 [.ptr 3 0 0] (Xv (X15 t S lim [feS t] [1] 1 4 2 ++ [(0,B)])) (X7Z t S lim (B:=B)):=by
 refine XF.less (R:=X5k t S lim (B:=B)) ?_ X5k.less;have h32:2 ^ t.n<=32:=YJ (n:=2) (by decide) hn;refine Z18 ok166 (Y0 rfl) fun C hC=>?_;refine gd 2 ⟨?_⟩
 iterate 3 (first|refine st ?_|(apply B<;>intro hb<;>try cases hb))
 refine Zv hC (fun x:(Nat×Nat)×List FE×List Nat=>FwI t lim x.1.1 x.1.2 x.2.1 x.2.2) (fun x=>2 ^ t.n+1-x.2.1.length) 7 (fun x => [(0,.ptr 3 0 0)]) (fun x=>X15 t S lim x.2.1 x.2.2 5 4 6 ++ [(0,B)]) (by decide) ((0,0),[feS t],[1])
  ⟨.start t,.base,hlim,Y0m _,Y0l _⟩ (alR 1 2) (Zhn 1 2) (Zq rfl) ⟨Qt 3 0 0,Yt⟩
  (Z3U (by decide) (by decide) (by decide) (by decide) rfl rfl rfl rfl (by decide) hB rfl rfl rfl rfl rfl rfl) ?_
 rintro⟨⟨d,lo⟩,L,E⟩ hI;obtain⟨hb,hE,hll,hel,hdl⟩:=(show FwI t lim d lo L E from hI)
 have hLn:=hb.len h;have hng:X3v t lo L:=Zi3 h hno hb.rch;refine gd 7 ⟨?_⟩;refine Z10 rfl rfl (Z5N h hn S lim hlim hb hll hE (by omega) (B:=B) hB) ?_;rintro n' r h' (⟨rfl,rfl,⟨M,m1,m2,m3⟩,rfl⟩|⟨rfl,rfl,hg,rfl⟩|⟨rfl,rfl,M,m1,m2,hg,rfl⟩)
 . refine go ?_;exact⟨_,_,rfl,.inl rfl,.inl ⟨rfl,rfl,Yt⟩⟩
 . refine go ?_;exact⟨_,_,rfl,.inl rfl,.inr ⟨rfl,rfl,L,E,hg.whole h (Y0m _) rfl,hLn,⟨rfl,rfl,rfl,rfl,rfl,Yt⟩⟩⟩
 . have hMn := hg.len h;refine go ?_
   exact⟨((d+1,L.length),M,E ++ [M.length]),alR 7 51,⟨hg.finish (Y0m _) hng,hE.snoc M.length,m2,by show (E ++ [M.length]).length<=M.length; rw [Y0e,Y0s]; omega,by show d+1<=M.length; omega⟩,by show 2 ^ t.n+1-M.length<2 ^ t.n+1-L.length; omega,Zhn 7 51,Zq rfl,
    ⟨Qt 3 0 0,Yt⟩,
    Z3U (by decide) (by decide) (by decide) (by decide) rfl rfl rfl rfl (by decide) hB rfl rfl rfl rfl rfl rfl⟩
inductive X4I (t:PB):PV->Prop
 | lim:X4I t (.tup [.vec [] true,.val (.int .i64 3)])
 | ok (L:List Nat) (fl:Bool) (hL:∀ s,s∈L↔Rch t s) (hl:L.length<=32):X4I t (.tup [.vec (seL L) fl,.val (.int .i64 0)])
def X1E (L:List FE) (i:Nat):List (List PV):=seL ((L.take i).map FE.s)++List.replicate (L.length-i) [.vec [] true]
theorem Zbg (L:List FE) {i:Nat} (hi:i<=L.length):(X1E L i).length=L.length:=by
 unfold X1E;rw [Y0e,Za2,Y0f,Y0o,Y37];omega
theorem ZfG (L:List FE):X1E L 0=List.replicate L.length [.vec [] true]:=by unfold X1E; rfl
theorem Zi4 (L:List FE):X1E L L.length=seL (L.map FE.s):=by
 unfold X1E;rw [Y0q,Y1W];simp
theorem Zbh (L:List FE) {i:Nat} (hi:i<L.length):(X1E L i).set i (stC L[i].s)=X1E L (i+1):=by
 have hl:(seL ((L.take i).map FE.s)).length=i:=by rw [Za2,Y0f,Y0o]; omega
 unfold X1E;rw [List.set_append,Y8 (by omega),hl,Y1W,show L.length-i=(L.length-(i+1))+1 by omega,Y3n,List.set_cons_zero,YW,Y0c hi];show _=seL ((L.take i ++ [L[i]]).map FE.s)++_;unfold seL;rw [Y0r,Y0r,YT]
 rfl
theorem Zi5 (L:List FE) {i:Nat} (hi:i<L.length):(X1E L i).getD i [] = [.vec [] true]:=by
 have hl:(seL ((L.take i).map FE.s)).length=i:=by rw [Za2,Y0f,Y0o]; omega
 unfold X1E;rw [Y0b,YL (by omega),hl,Y1W,show L.length-i=(L.length-(i+1))+1 by omega,Y3n]
 rfl
theorem ZmP {e:Env} {h:X2} {n:Nat} {a v:Operand} {k i s:Nat} {L:List FE} (ha:ev e a=some (.ptr k i 0)) (hv:ev e v=some (XG s)) (hb:h k=some ⟨1,X1E L i⟩) (hi:i<L.length) (hs:s=L[i].s) :
 X3 (.store 1 a v) e h n=some (pvu,h.upd k ⟨1,X1E L (i+1)⟩):=by
 have h1:=Z1Q (n:=n) (size:=1) ha hv hb rfl rfl (show i<(X1E L i).length by rw [Zbg L (by omega)]; exact hi) (Y0m 1);rw [h1,<- Zbh L hi,<- hs];show some (pvu,h.upd k ⟨1,(X1E L i).set i (Xl ((X1E L i).getD i []) 0 (XG s).cells)⟩)=_;rw [Zi5 L hi]
 rfl
theorem Z8Y (L:List FE) (i:Nat):X1 (X1E L i):=by
 have:∀ (a b:List (List PV)),X1 a->X1 b->X1 (a++b):=fun a b ha hb=>by
  induction a with
  | nil=>exact hb
  | cons x a ih=>exact⟨ha.1,ih ha.2⟩
 refine this _ _ (Z5R _) ?_;generalize L.length-i=k
 induction k with
 | zero=>exact Yt
 | succ k ih=>exact⟨⟨Yt,Yt⟩,ih⟩
def fiR:Nat->Nat:=fun i=>bif Nat.beq i 0 then 7 else bif Nat.beq i 1 then 40 else i
theorem Zi6 {t:PB} (h:Xo t) (hn:t.n<=5) (S:List Nat) (lim:Int) (hlim:1<=lim) (hno:¬ X1I t t.st):X7 Tryz.prog 132 [.agg (pbP t S),.val (.int .i64 lim)] (X4I t):=by
 have h32:2 ^ t.n<=32:=YJ (n:=2) (by decide) hn;have hpp:=ZC t S;refine Yp ok132 fun C hC=>?_;refine gd 15 ⟨?_⟩;refine Z10 rfl rfl (Z6w h hn S lim hlim (B:=⟨6,[pbP t S]⟩) ⟨hpp,Yt⟩) ?_;rintro n' r h' ⟨rfl,rfl,rfl⟩;refine gd 22 ⟨?_⟩;refine Z10 rfl rfl (ZfF h hn S lim hlim hno (B:=⟨6,[pbP t S]⟩) ⟨hpp,Yt⟩) ?_;rintro n' r h' (⟨rfl,rfl,rfl⟩|⟨rfl,rfl,L,E,hL,hLl,rfl⟩)
 . refine go ?_;exact Z8 rfl ⟨Yt,Yt,Yt⟩ .lim
 have hLr:=Z2J L;have h64:∀ e∈L,e.s<18446744073709551616:=fun e he=>(((hL e.s).1 (Y0i.2 ⟨e,he,rfl⟩)).inS h).lt h.n.2;refine gd 30 ⟨?_⟩;refine Ze (v:=(L.length:Int)) rfl rfl rfl (by rw [hLr]) ?_;refine ZH (Z9b (a:=L.length) (b:=L.length) rfl rfl (Y0m _) (by omega)) rfl rfl ?_;refine gd 36 ⟨?_⟩;refine Ze (v:=(L.length:Int)) rfl rfl rfl (by rw [hLr]) ?_
 iterate 3 (first|refine st ?_|(apply B<;>intro hb<;>try cases hb))
 refine Zv hC (fun i=>i<=L.length) (fun i=>L.length-i) 2 (fun i => [(9,.own 1),(35,.own 0),(36,.val (.int .i64 (L.length:Int))),(37,Yv i)]) (fun i => [(0,⟨3,X14 L⟩),(1,⟨1,X1E L i⟩)]) (by decide) 0 (Y0l _)
  fiR (fun i hi=>absurd hi (Ye _)) (Zq rfl) ⟨Qw 1,Qw 0,Qp Yt,Qp Yt,Yt⟩
  ⟨Qs (Z2S _),⟨by decide,_,by rw [ZfG]; rfl,.same _ (Z8Y _ _)⟩,Yt⟩ ?_
 intro i hi;have hinc:IntKind.i64.wrap ((i:Int)+1)=((i+1:Nat):Int):=Y0v _ ⟨by omega,by omega⟩;have hfl:=Zbg L hi;refine gd 38 ⟨?_⟩;by_cases hil:i<L.length
 . refine Qo (Qy rfl (Y1z.2 hil)) ?_;have hset:=Zbh L hil;have he0:L[i]?=some L[i]:=Y0c hil;refine gd 40 ⟨?_⟩;refine Qo (ZF rfl rfl rfl i rfl (by rw [hLr]; exact hil) rfl) ?_;refine Qo (Z1v (p:=.agg (feC L[i])) rfl rfl (by rw [hLr]; exact hil) (by rw [Z2K he0]; rfl)) ?_;refine gd 46 ⟨?_⟩;refine Qo (ZF rfl rfl rfl i rfl (by rw [hfl]; exact hil) rfl) ?_;refine Qo (ZmP (s:=L[i].s) (L:=L) rfl rfl rfl hil rfl) ?_;refine go ?_
   exact⟨i+1,fun j=>j,hil,by omega,fun i hi=>absurd hi (Ye i),Zf,⟨Qw 1,Qw 0,Qp Yt,⟨_,by show some _=some _; rw [hinc],.pure _ Yt⟩,Yt⟩,
    ⟨Qs (Z2S _),Qs (Z8Y _ _),Yt⟩⟩
 . have hie : i = L.length := by omega
   subst hie;refine Qo (Qz rfl (by omega)) ?_;rw [Zi4];have hx:∀ c∈L.map FE.s,c<18446744073709551616:=fun c hc=>by
    obtain⟨e,he,rfl⟩:=Y0i.1 hc;exact h64 e he
   have hlm:(L.map FE.s).length<=32:=by rw [Y0f]; omega
   generalize L.map FE.s=Z at hL hx hlm ⊢;refine gd 49 ⟨?_⟩;refine Z10 rfl rfl (Zbf (ob:=1) Z hx rfl) ?_;rintro n' r h' ⟨rfl,rfl,ys,hp,rfl⟩;refine gd 50 ⟨?_⟩;refine Za (Zj (k:=9) (id:=1) (b:=⟨1,seL ys⟩) rfl rfl (Z5R _)) ?_;refine go ?_;exact Z8 rfl ⟨Z5R _,Yt,Yt⟩ (.ok ys false (fun s=>hp.mem_iff.trans (hL s)) (by rw [hp.length_eq]; exact hlm))
theorem X5W {e:Env} {h:X2} {a b s:Nat} {r v:PV} (h1:X3 (.load true s (.tmp a)) e h 0=some (r,h)) (h2:e b=some v):XZ [.cell a true s,.tmp b] e h=some (.tup [r,v]):=by
 simp [XZ,X3k,X6a,h1,h2]
def X2X:List PV:=XI (List.replicate 32 0) false [] true [] true
theorem Z1N:X5 X2X:=Z1J _ _ _ _ _ _
theorem ZfH {t:PB} (h:Xo t) (hfr:X1i t=false) (S0:List Nat):X7 Tryz.prog 66 [.agg (pbP t S0)] (· = .tup [.vec [] true,.vec [] true,.val (.bool false),.val (.int .i64 15)]):=by
 have hpp:=ZC t S0;refine Yp ok66 fun C hC=>?_;refine Zm ?_;refine Z9 ?_;refine Z5 rfl rfl rfl ?_;refine gd 13 ⟨?_⟩;refine Qe (Z2i h S0) ⟨hpp,Yt⟩ ?_;refine gd 18 ⟨?_⟩;refine Qe (Z2F h S0) ⟨hpp,Yt⟩ ?_;rw [hfr];refine go ?_;exact Z8 rfl ⟨Yt,Yt,Yt,Yt,Yt⟩ rfl
section
variable {t:PB} (h:Xo t) (hn:t.n<=5) (hw:PbW t) (S:List Nat) {R:Nat} (hR:XQ t R) (L:Int)
include h hn hw hR
end
inductive FrR (t:PB) (R:Nat):PV->Prop
 | lim (b:Bool):FrR t R (.tup [.vec [] true,.vec [] true,.val (.bool b),.val (.int .i64 3)])
 | yes (p:List Nat) (fp:Bool) (hp:XY (Xh t R) p) (hl:p.length<=62):FrR t R (.tup [.vec (inL p) fp,.vec [] true,.val (.bool true),.val (.int .i64 0)])
 | no (l:List Cu) (fl:Bool) (h:X2H t R l):FrR t R (.tup [.vec [] true,.vec (l.map cuC) fl,.val (.bool false),.val (.int .i64 0)])
theorem ZfI {t:PB} (h:Xo t) (hn:t.n<=5) (S:List Nat) {R:Nat} (hR:XQ t R) (L:Int) (hL:1<=L):X7 Tryz.prog 68 [.agg (prX t R S),.val (.int .i64 L)] (FrR t R):=by
 have hxp:=Z5Q t R S;have hpo:=Z3d h hR.a.ok;have hpq:=ZC (Xh t R) S;have hR62:=XQ.b62 h hn hR;have hR64:R<18446744073709551616:=Y02 (show R<=62 by rw [<- hR62]; exact YN) (by decide);refine Yp ok68 fun C hC=>?_;refine Zm ?_;refine Z9 ?_;refine Z5 (Z5a rfl (by show 0<14; decide)) rfl rfl ?_;refine gd 19 ⟨?_⟩;refine Zw rfl rfl (Zfj hpo hn S L hL) ⟨hpq,Yt,Yt⟩ rfl ?_;intro r hr;cases hr with
 | lim M h1 h2 h3 =>
   refine go ?_;exact Z8 rfl ⟨Yt,Yt,Yt,Yt,Yt⟩ (.lim false)
 | yes n p fl hp hs hl =>
   refine go ?_;exact Z8 rfl ⟨Zs p,Yt,Yt,Yt,Yt⟩ (.yes p fl hp hl)
 | no n hno =>
   refine gd 37 ⟨?_⟩;refine Zw rfl rfl (Zi6 hpo hn S L hL hno) ⟨hpq,Yt,Yt⟩ rfl ?_;intro r hr;cases hr with
   | lim =>
     refine go ?_;exact Z8 rfl ⟨Yt,Yt,Yt,Yt,Yt⟩ (.lim false)
   | ok Z fl hZ hZl =>
     have hpn:=ZfE h hn hR hZ hno;have hsub:∀ s∈Z,s ||| R=R:=fun s hs=>Zeg h hR.a.ok ((hZ s).1 hs)
     have hZr:=Za2 Z;have hin:∀ b∈Z.map (fwC R),InM 62 b:=fun b hb=>by
      obtain⟨s,hs,rfl⟩:=Y0i.1 hb;exact Zkj hR62 (hsub s hs)
     have hsp:=Z8K (Z.map (fwC R)) false (0,0) 62 (by decide) hin in0 (by rw [Y0f];omega);rw [show cuP (0,0)=.agg [.vec [] false,.vec [] false] by (show PV.agg [.vec (X4 (Xb 0)) false,.vec (X4 (Xb 0)) false]=_; rw [ZL]; rfl)] at hsp
     repeat' (first|refine Za (Zy (k:=11) rfl 2 (by decide)) ?_|(first|refine st ?_|(apply B<;>intro hb<;>try cases hb)))
     refine Zv hC (fun i=>i<=Z.length) (fun i=>Z.length-i) 2 (fun i => [(2,.cp (prX t R S)),(11,.own 1),(43,.vec (seL Z) fl),(44,.val (.int .i64 (Z.length:Int))),(45,Yv i)]) (fun i => [(1,⟨2,((Z.take i).map (fwC R)).map cuC⟩)]) (by decide) 0 (Y0l _) (fun i=>i) (fun _ _=>rfl) Zf
      ⟨Qp hxp,Qw 1,Qp (Z5R _),⟨_,by rw [<- hZr]; rfl,.pure _ Yt⟩,Qp Yt,Yt⟩ ⟨⟨by decide,_,rfl,.same ⟨2,[]⟩ Yt⟩,Yt⟩ ?_
     intro i hi;have hinc:IntKind.i64.wrap ((i:Int)+1)=((i+1:Nat):Int):=Y0v _ ⟨by omega,by omega⟩;refine gd 46 ⟨?_⟩;by_cases hil:i<Z.length
     . refine Qo (Qy rfl (by omega)) ?_;have hs:=hsub _ (Y0j hil);have htk:=ZR hil;have hol:((Z.take i).map (fwC R)).length<=i:=by rw [Y0f,Y0o]; omega
       refine gd 47 ⟨?_⟩;refine Qo (Zl (xs:=Z) (g:=stC) rfl rfl i rfl hil rfl) ?_;generalize Z[i]=s at hs htk;have hs64:s<18446744073709551616:=Y02 (show s<=R by rw [<- hs]; exact YN) hR64;have hsn:((Z.take i).map (fwC R)).map cuC ++ [cuC (fwC R s)]=((Z.take (i+1)).map (fwC R)).map cuC:=by rw [htk]; simp
       refine gd 54 ⟨?_⟩;refine Qd (Z7Y R s hR64 hs64) ⟨Z2 _,Z2 _,Yt⟩ ?_;refine gd 57 ⟨?_⟩
       refine Qr (Zu (k:=1) (m := [cuC (fwC R s)]) (fl:=true) rfl rfl rfl (fun q hq=>by rw [Y0g] at hq; subst hq; rfl) rfl (by
        show ((((Z.take i).map (fwC R)).map cuC).length+1)*48<=_
        rw [Y0f];omega)) ?_
       simp only;rw [hsn];refine go ?_
       exact⟨i+1,mv 1 11,hil,by omega,fun i hi=>absurd hi (Ye i),Zq rfl,
        ⟨Qp hxp,Qw 1,Qp (Z5R _),Qp Yt,⟨_,by show some _=some _; rw [hinc],.pure _ Yt⟩,Yt⟩,⟨Qs (Z1 _),Yt⟩⟩
     have htk:Z.take i=Z:=YA (by omega);rw [htk];refine Qo (Qz rfl (by omega)) ?_;refine gd 61 ⟨?_⟩;refine Za (Zj (k:=11) (id:=1) (b:=⟨2,(Z.map (fwC R)).map cuC⟩) rfl rfl (Z1 _)) ?_;refine Za (ZgA (k:=60) (p:=.agg [.vec [] true,.vec [] true]) rfl) ?_;refine gd 62 ⟨?_⟩;refine Qe hsp ⟨⟨Yt,Yt,Yt⟩,Z1 _,Yt⟩ ?_;refine go ?_;exact Z8 rfl ⟨Yt,Z1 _,Yt,Yt,Yt⟩ (.no _ false hpn)
inductive X62 (t:PB) (R m:Nat) (L:Int):PV->Prop
 | ok (b:Bool) (p:List Nat) (fp:Bool) (l:List Cu) (fl:Bool) (hs:Snd t b p l) (hf:m=1->X1i (Xh t R)=true):X62 t R m L (.tup [.agg (XI (X1e t) b p fp l fl),.val (.int .i64 0)])
 | lim (hm:m≠1) (hl:m=2->L<((2 ^ t.n:Nat):Int)):X62 t R m L (.tup [.agg X2X,.val (.int .i64 3)])
 | scope (hm:m=1) (hf:X1i (Xh t R)=false):X62 t R m L (.tup [.agg X2X,.val (.int .i64 15)])
inductive DZ (t:PB) (R m:Nat) (L:Int):PV->PV->Bool->Int->Prop
 | lim (x y:PV) (b:Bool) (hx:x.pure) (hy:y.pure) (hm:m≠1) (hl:m=2->L<((2 ^ t.n:Nat):Int)):DZ t R m L x y b 3
 | scope (x y:PV) (b:Bool) (hx:x.pure) (hy:y.pure) (hm:m=1) (hf:X1i (Xh t R)=false):DZ t R m L x y b 15
 | yes (p:List Nat) (fp:Bool) (y:PV) (hy:y.pure) (hp:XY (Xh t R) p) (hl:p.length<=62) (hf:m=1->X1i (Xh t R)=true):DZ t R m L (.vec (inL p) fp) y true 0
 | no (x:PV) (l:List Cu) (fl:Bool) (hx:x.pure) (hno:X2H t R l) (hf:m=1->X1i (Xh t R)=true):DZ t R m L x (.vec (l.map cuC) fl) false 0
theorem DZ.pures {t:PB} {R m:Nat} {L:Int} {x y:PV} {b:Bool} {e:Int} (h:DZ t R m L x y b e):x.pure/\y.pure:=by
 cases h with
 | lim _ _ _ hx hy=>exact⟨hx,hy⟩
 | scope _ _ _ hx hy=>exact⟨hx,hy⟩
 | yes p fp _ hy=>exact⟨Zs p,hy⟩
 | no _ l fl hx=>exact⟨hx,Z1 l⟩
section
variable {t:PB} (h:Xo t) (hn:t.n<=5) (hw:PbW t) (S:List Nat) {R:Nat} (hR:XQ t R) (L:Int)
include h hn hw hR
theorem Z4s (hL:1<=L) {m:Nat} (hm:m=1 \/ m=2 \/ m=3):X7 Tryz.prog 26 [.agg (prX t R S),.val (.int .u8 (m:Int)),.val (.int .i64 L)] (X62 t R m L):=by
 have hpp:=ZC t S;have hxp:=Z5Q t R S;have hpo:=Z3d h hR.a.ok;have hpq:=ZC (Xh t R) S;have hid0:=Z2E t;have hRb:=XQ.b126 h hn hR;refine Yp ok26 fun C hC=>?_;refine Zm ?_;refine Z9 ?_;refine Z5 (Z5a rfl (by show 0<14; decide)) rfl rfl ?_
 iterate 19 (first|refine st ?_|(apply B<;>intro hb<;>try cases hb))
 show aw _ _ _ _ _ _ _;have fin:∀ {e:Env} {hh:X2} {x y:PV} {b:Bool} {er:Int},DZ t R m L x y b er->e 3=some (.cp (prX t R S))->e 6=some (.ptr 0 0 0)->e 8=some x->e 9=some y->e 10=some (.val (.bool b))->e 11=some (.val (.int .i64 er))->hh 0=some ⟨35,[X2X]⟩ ->
  ∃ z:PV×PV×Bool×Int,DZ t R m L z.1 z.2.1 z.2.2.1 z.2.2.2/\X50 e 1 [(3,.cp (prX t R S)),(6,.ptr 0 0 0),(8,z.1),(9,z.2.1),(10,.val (.bool z.2.2.1)),(11,.val (.int .i64 z.2.2.2))]/\X2N hh 1 [(0,⟨35,[X2X]⟩)] :=
  fun {e hh x y b er} hz h3 h6 h8 h9 h10 h11 h0=>⟨(x,y,b,er),hz,⟨⟨h3,PV.inn_mono (D:=fun _=>False) (fun _ h=>h.elim) (.cp (prX t R S)) hxp⟩,⟨h6,show 0<1 by decide⟩,⟨h8,PV.inn_mono (D:=fun _=>False) (fun _ h=>h.elim) _ hz.pures.1⟩,⟨h9,PV.inn_mono (D:=fun _=>False) (fun _ h=>h.elim) _ hz.pures.2⟩,⟨h10,Yt⟩,⟨h11,Yt⟩,Yt⟩,⟨⟨by decide,h0,Zd (fun _ h=>h.elim) _ ⟨Z1N,Yt⟩⟩,Yt⟩⟩
 refine ZbW hC (fun z:PV×PV×Bool×Int=>DZ t R m L z.1 z.2.1 z.2.2.1 z.2.2.2) 1 (fun z => [(3,.cp (prX t R S)),(6,.ptr 0 0 0),(8,z.1),(9,z.2.1),(10,.val (.bool z.2.2.1)),(11,.val (.int .i64 z.2.2.2))]) (fun _ => [(0,⟨35,[X2X]⟩)]) (by decide) ?_ fun z hz=>?_
 . rcases hm with rfl | rfl | rfl
   . refine gd 31 ⟨?_⟩;cases hfr:X1i (Xh t R)
     case false =>
      refine Qe (ZfH hpo hfr S) ⟨hpq,Yt⟩ ?_;refine go ?_;exact fin (.scope (.vec [] true) (.vec [] true) false Yt Yt rfl hfr) rfl rfl rfl rfl rfl rfl rfl
     refine Zw rfl rfl (Z88 hpo hn hfr S) ⟨hpq,Yt⟩ rfl ?_;intro r hr;cases hr with
     | yes p fp fl hp hl =>
       refine go ?_;exact fin (.yes p fp (.vec [] fl) Yt hp (by omega) fun _=>hfr) rfl rfl rfl rfl rfl rfl rfl
     | no fn R2 used fl hR2 hj hend hno0 =>
       refine go ?_;exact fin (.no (.vec [] fl) _ _ Yt (ZfD h hR hR2 (ZcZ hfr) hj hend hno0) fun _=>hfr) rfl rfl rfl rfl rfl rfl rfl
   . refine gd 42 ⟨?_⟩;refine Zw rfl rfl (ZcR hpo hn S L hL) ⟨hpq,Yt,Yt⟩ rfl ?_;intro r hr;cases hr with
     | lim hl =>
       refine go ?_;exact fin (.lim (.vec [] true) (.vec [] true) false Yt Yt (by decide) fun _=>hl) rfl rfl rfl rfl rfl rfl rfl
     | yes p hp hl =>
       refine go ?_;exact fin (.yes p _ (.vec [] true) Yt hp (by omega) (fun h=>absurd h (by decide))) rfl rfl rfl rfl rfl rfl rfl
     | no ks hk =>
       refine go ?_;exact fin (.no (.vec [] true) _ _ Yt (Zd0 h hn hR hk) (fun h=>absurd h (by decide))) rfl rfl rfl rfl rfl rfl rfl
   . refine gd 21 ⟨?_⟩;refine Zw rfl rfl (ZfI h hn S hR L hL) ⟨hxp,Yt,Yt⟩ rfl ?_;intro r hr;cases hr with
     | lim b =>
       cases b
       all_goals
        refine go ?_;exact fin (.lim (.vec [] true) (.vec [] true) _ Yt Yt (by decide) (fun h=>absurd h (by decide))) rfl rfl rfl rfl rfl rfl rfl
     | yes p fp hp hl =>
       refine go ?_;exact fin (.yes p _ (.vec [] true) Yt hp (by omega) (fun h=>absurd h (by decide))) rfl rfl rfl rfl rfl rfl rfl
     | no l fl hno =>
       refine go ?_;exact fin (.no (.vec [] true) _ _ Yt hno (fun h=>absurd h (by decide))) rfl rfl rfl rfl rfl rfl rfl
 obtain⟨x,y,b,er⟩:=z;cases (show DZ t R m L x y b er from hz) with
 | lim _ _ _ hx hy hm hl =>
   refine go ?_;exact Z8 (r:=.tup [.agg X2X,.val (.int .i64 3)]) rfl ⟨Z1N,Yt,Yt⟩ (.lim hm hl)
 | scope _ _ _ hx hy hm hf =>
   refine go ?_;exact Z8 (r:=.tup [.agg X2X,.val (.int .i64 15)]) rfl ⟨Z1N,Yt,Yt⟩ (.scope hm hf)
 | yes p fp _ hy hp hl hf =>
   obtain⟨h1,hsnd⟩:=ZjO h hR hp (by omega);refine gd 56 ⟨?_⟩;refine Qe (Zd1 p (X2k t R) _ false h1 (by omega)) ⟨Zs p,Zs _,Yt⟩ ?_;generalize p.map (fun j=>(X2k t R).getD j 0)=q at hsnd;have hql:=(hsnd.plan rfl).2;refine gd 66 ⟨?_⟩;refine Qe (Zb8 h hw S q false (by omega)) ⟨hpp,Zs q,Yt⟩ ?_;have hc1:(XI (X1e t) true q false [] true).length=35:=Z26 hid0;have hcp:=Z1J (X1e t) true q false [] true;have hRR:X62 t R m L (.tup [.agg (XI (X1e t) true q false [] true),.val (.int .i64 0)]):=.ok true q false [] true hsnd hf;generalize XI (X1e t) true q false [] true=cc at hc1 hcp hRR;have hcl:(cc ++ []).length=35:=by rw [Y0p]; exact hc1
   have htk:((cc ++ []).drop 0).take 35=cc:=by rw [Y0p,Y12,YA (by omega)]
   refine Qo (Z5d rfl rfl rfl hc1 rfl) ?_;refine go ?_;exact Z8 (X5W (Z4V (l:=cc ++ []) (r:=cc) rfl rfl (by omega) htk) rfl) ⟨hcp,Yt,Yt⟩ hRR
 | no _ l fl hx hno hf =>
   have hpl:=hno.len;have hnm:(l.map cuC).length=l.length:=Y0f ..;have hsnd:=hno.snd hRb;have hle:∀ c∈l,Xy c:=fun c hc=>(hno.em c hc).1;clear hno
   repeat' (first|refine Za (Zy (k:=14) rfl 2 (by decide)) ?_|(first|refine st ?_|(apply B<;>intro hb<;>try cases hb)))
   refine Zv hC (fun i=>i<=l.length) (fun i=>l.length-i) 2 (fun i => [(3,.cp (prX t R S)),(6,.ptr 0 0 0),(14,.own 1),(67,.vec (l.map cuC) fl),(68,.val (.int .i64 (l.length:Int))),(69,Yv i)]) (fun i => [(0,⟨35,[X2X]⟩),(1,⟨2,((l.take i).map (X2I R)).map cuC⟩)]) (by decide) 0 (Y0l _) (fun i=>i) (fun _ _=>rfl) Zf
    ⟨Qp hxp,Qt 0 0 0,Qw 1,Qp (Z1 _),⟨_,by rw [<- hnm]; rfl,.pure _ Yt⟩,Qp Yt,Yt⟩ ⟨Qs ⟨Z1N,Yt⟩,Qs Yt,Yt⟩ ?_
   intro i hi;have hinc:IntKind.i64.wrap ((i:Int)+1)=((i+1:Nat):Int):=Y0v _ ⟨by omega,by omega⟩;refine gd 70 ⟨?_⟩;by_cases hil:i<l.length
   . refine Qo (Qy rfl (by omega)) ?_;have hc:=hle _ (Y0j hil);have htk:=ZR hil;have hol:((l.take i).map (X2I R)).length<=i:=by rw [Y0f,Y0o]; omega
     refine gd 71 ⟨?_⟩;refine Qo (Zl (xs:=l) (g:=cuC) rfl rfl i rfl hil rfl) ?_;generalize l[i]=c at hc htk;have hsn:((l.take i).map (X2I R)).map cuC ++ [cuC (X2I R c)]=((l.take (i+1)).map (X2I R)).map cuC:=by rw [htk]; simp
     refine gd 78 ⟨?_⟩;refine Qd (Z4j c.1 R hc.1 hR.lt) ⟨Z2 _,Z2 _,Yt⟩ ?_;refine gd 83 ⟨?_⟩;refine Qd (Z4j c.2 R hc.2 hR.lt) ⟨Z2 _,Z2 _,Yt⟩ ?_;refine gd 86 ⟨?_⟩
     refine Qr (Zu (k:=1) (m := [cuC (X2I R c)]) (fl:=true) rfl rfl rfl (fun q hq=>by rw [Y0g] at hq; subst hq; rfl) rfl (by
      show ((((l.take i).map (X2I R)).map cuC).length+1)*48<=_
      rw [Y0f];omega)) ?_
     simp only;rw [hsn];refine go ?_
     exact⟨i+1,mv 1 16,hil,by omega,fun i hi=>absurd hi (Ye i),Zq rfl,
      ⟨Qp hxp,Qt 0 0 0,Qw 1,Qp (Z1 _),Qp Yt,⟨_,by show some _=some _; rw [hinc],.pure _ Yt⟩,Yt⟩,⟨Qs ⟨Z1N,Yt⟩,Qs (Z1 _),Yt⟩⟩
   have htk:l.take i=l:=YA (by omega);rw [htk];refine Qo (Qz rfl (by omega)) ?_;refine gd 88 ⟨?_⟩;refine Za (Zj (k:=14) (id:=1) (b:=⟨2,(l.map (X2I R)).map cuC⟩) rfl rfl (Z1 _)) ?_;have hll:=hsnd.len;generalize l.map (X2I R)=q at hsnd hll;refine gd 91 ⟨?_⟩;refine Qe (Zb9 h hw S q false (by omega)) ⟨hpp,Z1 q,Yt⟩ ?_;have hc1:(XI (X1e t) false [] true q false).length=35:=Z26 hid0;have hcp:=Z1J (X1e t) false [] true q false;have hRR:X62 t R m L (.tup [.agg (XI (X1e t) false [] true q false),.val (.int .i64 0)]):=.ok false [] true q false hsnd hf;generalize XI (X1e t) false [] true q false=cc at hc1 hcp hRR;have hcl:(cc ++ []).length=35:=by rw [Y0p]; exact hc1
   have htk2:((cc ++ []).drop 0).take 35=cc:=by rw [Y0p,Y12,YA (by omega)]
   refine Qo (Z5d (l:=X2X) rfl rfl rfl hc1 rfl) ?_;refine go ?_;exact Z8 (X5W (Z4V (l:=cc ++ []) (r:=cc) rfl rfl (by omega) htk2) rfl) ⟨hcp,Yt,Yt⟩ hRR
end
theorem X73 {e:Env} {h:X2} {a b c s:Nat} {r v w:PV} (h1:X3 (.load true s (.tmp a)) e h 0=some (r,h)) (h2:e b=some v) (h3:e c=some w):XZ [.cell a true s,.tmp b,.tmp c] e h=some (.tup [r,v,w]):=by
 simp [XZ,X3k,X6a,h1,h2,h3]
inductive DcR (t:PB):PV->Prop
 | mk (m:Int) (R:Nat) (b:Bool) (p:List Nat) (fp:Bool) (l:List Cu) (fl:Bool) (hR:XQ t R) (hm:m=if X1i (Xh t R) then 1 else 2) (hs:Snd t b p l):DcR t (.tup [.agg (XI (X1e t) b p fp l fl),.val (.int .u8 m),.val (.int .i64 0)])
theorem Z5S {t:PB} (h:Xo t) (hn:t.n<=5) (hw:PbW t) (S:List Nat) (L:Int) (hL:64<=L):X7 Tryz.prog 13 [.agg (pbP t S),.val (.int .i64 L)] (DcR t):=by
 have hpp:=ZC t S;have hid0:=Z2E t;have h32:2 ^ t.n<=32:=YJ (n:=2) (by decide) hn;refine Yp ok13 fun C hC=>?_;refine Zm ?_;refine Z9 ?_;refine Z5 rfl rfl rfl ?_;refine gd 14 ⟨?_⟩;refine Zw rfl rfl (Z8X h hn S L (by omega)) ⟨hpp,Yt,Yt⟩ rfl ?_;rintro r ⟨R,hR,rfl⟩;have hxp:=Z5Q t R S;have hpo:=Z3d h hR.a.ok;have hpq:=ZC (Xh t R) S;refine gd 23 ⟨?_⟩;refine Qe (Z2F hpo S) ⟨hpq,Yt⟩ ?_;cases hfr:X1i (Xh t R)
 all_goals
  refine gd 28 ⟨?_⟩
  first
   | refine Zw rfl rfl (Z4s h hn hw S hR L (by omega) (m:=1) (.inl rfl)) ⟨hxp,Yt,Yt,Yt⟩ rfl ?_
   | refine Zw rfl rfl (Z4s h hn hw S hR L (by omega) (m:=2) (.inr (.inl rfl))) ⟨hxp,Yt,Yt,Yt⟩ rfl ?_
  intro r hr;cases hr with
  | lim hm hl=>first|exact absurd rfl hm|exact absurd (hl rfl) (by omega)
  | scope hm hf=>first|exact absurd hm (by decide)|(rw [hfr] at hf; cases hf)
  | ok b p fp l fl hs _ =>
    have hc1:(XI (X1e t) b p fp l fl).length=35:=Z26 hid0;have hcp:=Z1J (X1e t) b p fp l fl;have hRR:DcR t (.tup [.agg (XI (X1e t) b p fp l fl),.val (.int .u8 (if X1i (Xh t R) then 1 else 2)),.val (.int .i64 0)]):=.mk _ R b p fp l fl hR rfl hs;simp only [hfr,Y25,Y2e,Y26] at hRR;generalize XI (X1e t) b p fp l fl=cc at hc1 hcp hRR;have hcl:(cc ++ []).length=35:=by rw [Y0p]; exact hc1
    have htk:((cc ++ []).drop 0).take 35=cc:=by rw [Y0p,Y12,YA (by omega)]
    iterate 4 (first|refine st ?_|(apply B<;>intro hb<;>try cases hb))
    refine Qo (Z5d rfl rfl rfl hc1 rfl) ?_;refine gd 48 ⟨?_⟩;refine Qo (Z4V (l:=cc ++ []) (r:=cc) rfl rfl (by omega) htk) ?_
    iterate 1 (first|refine st ?_|(apply B<;>intro hb<;>try cases hb))
    refine Qo (Z5d rfl rfl rfl hc1 rfl) ?_;refine go ?_;exact Z8 (X73 (Z4V (l:=cc ++ []) (r:=cc) rfl rfl (by omega) htk) rfl rfl) ⟨hcp,Yt,Yt,Yt⟩ hRR
section
variable {t:PB} (h:Xo t) (hn:t.n<=5) (hw:PbW t) (S:List Nat) {R:Nat} (hR:XQ t R) (L:Int)
include h hn hw hR
def WiR (t:PB) (R m:Nat) (cc:List PV) (e:Int):Prop :=
 (e=0/\(m=1->X1i (Xh t R)=true)/\∃ (b:Bool) (p:List Nat) (fp:Bool) (l:List Cu) (fl:Bool),Snd t b p l/\cc=XI (X1e t) b p fp l fl)
 \/ (e=(if m=1 then 15 else 3)/\(m=1->X1i (Xh t R)=false)/\cc=X2X)
omit h hn hw hR in
theorem WiR.cell {t:PB} {R m:Nat} {cc:List PV} {e:Int} (hw:WiR t R m cc e):cc.length=35/\X5 cc:=by
 rcases hw with⟨-,-,b,p,fp,l,fl,-,rfl⟩|⟨-,-,rfl⟩
 . exact⟨Z26 (Z2E t),Z1J _ _ _ _ _ _⟩
 . exact⟨Z26 (by simp),Z1N⟩
theorem Zbi (m:Nat) (hm:1<=m/\m<=3) (hL:1<=L):X7 Tryz.prog 26 [.agg (prX t R S),.val (.int .u8 (m:Int)),.val (.int .i64 L)] fun r=>∃ cc e,WiR t R m cc e/\r=.tup [.agg cc,.val (.int .i64 e)]:=by
 refine (Z4s h hn hw S hR L hL (show m=1 \/ m=2 \/ m=3 by omega)).mono fun r hr=>?_;cases hr with
 | ok b p fp l fl hs hf=>exact⟨_,_,.inl ⟨rfl,hf,b,p,fp,l,fl,hs,rfl⟩,rfl⟩
 | lim hm1 hl=>exact⟨X2X,3,.inr ⟨(Y8 hm1).symm,fun hh=>absurd hh hm1,rfl⟩,rfl⟩
 | scope hm1 hf=>exact⟨X2X,15,.inr ⟨(Y6 hm1).symm,fun _=>hf,rfl⟩,rfl⟩
end
theorem Zd3 {t:PB} (h:Xo t) (hn:t.n<=5) (hw:PbW t) (S:List Nat) (L:Int) (m:Nat) (hm:1<=m/\m<=3) (hL:1<=L):X7 Tryz.prog 7 [.agg (pbP t S),.val (.int .u8 (m:Int)),.val (.int .i64 L)] fun r=>∃ R cc e,XQ t R/\WiR t R m cc e/\r=.tup [.agg cc,.val (.int .i64 e)]:=by
 have hpp:=ZC t S;refine Yp ok7 fun C hC=>?_;refine Zm ?_;refine Z9 ?_;refine Z5 rfl rfl rfl ?_;refine gd 11 ⟨?_⟩;refine Qo (Qz rfl (by omega)) ?_;refine gd 14 ⟨?_⟩;refine Zn rfl ?_;refine Qo (Qz rfl (by omega)) ?_;refine gd 20 ⟨?_⟩;refine Zw rfl rfl (Z8X h hn S L hL) ⟨hpp,Yt,Yt⟩ rfl ?_;rintro r ⟨R,hR,rfl⟩;have hxp:=Z5Q t R S;refine gd 30 ⟨?_⟩;refine Zw rfl rfl (Zbi h hn hw S hR L m hm hL) ⟨hxp,Yt,Yt,Yt⟩ rfl ?_;rintro r ⟨cc,e,hwi,rfl⟩;obtain⟨hc1,hcp⟩:=hwi.cell;have hcl:(cc ++ []).length=35:=by rw [Y0p]; exact hc1
 have htk:((cc ++ []).drop 0).take 35=cc:=by rw [Y0p,Y12,YA (by omega)]
 iterate 2 (first|refine st ?_|(apply B<;>intro hb<;>try cases hb))
 refine Qo (Z5d (l:=X2X) rfl rfl rfl hc1 rfl) ?_;refine go ?_;exact Z8 (X5W (Z4V (l:=cc ++ []) (r:=cc) rfl rfl (by omega) htk) rfl) ⟨hcp,Yt,Yt⟩ ⟨R,cc,e,hR,hwi,rfl⟩
end
end Go.Proofs.YtoolafpiaobphaaGreatDoor
