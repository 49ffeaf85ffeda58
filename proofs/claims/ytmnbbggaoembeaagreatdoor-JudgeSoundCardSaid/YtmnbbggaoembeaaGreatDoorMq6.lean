/-
  Merged from the texts that this claim's theorem needs, part 7 of 8. No statement of the seat is proved here.
-/
import Derived.Laws.BitsAllLaws
import Derived.Test.YtmnbbggaoembeaaGreatDoorMq5
set_option linter.unusedSimpArgs false
set_option linter.unusedVariables false
set_option linter.unusedSectionVars false
set_option maxRecDepth 100000
set_option maxHeartbeats 16000000
namespace Go.Proofs.YtmnbbggaoembeaaGreatDoor
section
open Go.RowKit
theorem Z5O {t:PB} {w:Nat} (h:InS t w):w % 2=0∧w / 2<2 ^ t.n:=by
 have h0:w.testBit 0=false:=Bool.eq_false_iff.2 fun h0=>by
  have:=orSub.1 h 0 h0;rw [Z2N] at this; cases this
 rw [Nat.testBit_zero] at h0;have h1:¬ w % 2=1:=of_decide_eq_false h0;have h2:w≤mkN t.n:=by rw [← h]; exact Nat.left_le_or
 unfold mkN at h2;have:=Nat.two_pow_pos t.n;omega
inductive Able (t:PB):Nat→Prop
 | base {S:Nat} (hS:InS t S) (hg:goodB t S=true) (hr:reachB t S=true):Able t S
 | step {S:Nat} {x:RU} (hS:InS t S) (hg:goodB t S=true) (hx:x∈t.rs) (hs:stepR t x S=true) (h:Able t (nextR x S)):Able t S
def RunOk (t:PB):Nat→List Nat→Nat→Prop
 | S,[],E=>E=S
 | S,k :: p,E=>∃ x,t.rs[k]?=some x∧stepR t x S=true∧RunOk t (nextR x S) p E
theorem ZcY {t:PB} {x:RU} {S:Nat} (h:stepR t x S=true):goodB t (nextR x S)=true:=by
 unfold stepR at h;rw [Y0k,Y0k] at h;exact h.2.1
theorem Z5P {t:PB} (h:PbOk t) {x:RU} (hx:x∈t.rs) {S:Nat} (hS:InS t S):InS t (nextR x S):=Zgf (h.rs x hx).tg.1 (h.rs x hx).tg.2.1 h.n.2 hS
theorem ZbH {t:PB} (h:PbOk t):∀ (p:List Nat) {S E:Nat},InS t S→goodB t S=true→RunOk t S p E→reachB t E=true→Able t S
 | [],S,E,hS,hg,hr,he=>by cases hr; exact .base hS hg he
 | k :: p, S, E, hS, hg, ⟨x, hx, hs, hr⟩, he => by
   have hxm:=List.mem_of_getElem? hx;exact .step hS hg hxm hs (ZbH h p (Z5P h hxm hS) (ZcY hs) hr he)
inductive Rch (t:PB):Nat→Prop
 | base:Rch t t.st
 | step {S:Nat} {x:RU} (h:Rch t S) (hx:x∈t.rs) (hs:stepR t x S=true):Rch t (nextR x S)
theorem Rch.inS {t:PB} (h:PbOk t) {S:Nat} (hr:Rch t S):InS t S:=by
 induction hr with
 | base=>exact h.st
 | step _ hx _ ih=>exact Z5P h hx ih
theorem PbOk.sgood {t:PB} (h:PbOk t):goodB t t.st=true:=by unfold goodB; rw [h.sg]; rfl
theorem Zgm {t:PB} {S:Nat} (ha:Able t S):∃ p E,RunOk t S p E∧reachB t E=true:=by
 induction ha with
 | base hS hg hr=>exact⟨[],_,rfl,hr⟩
 | step hS hg hx hs _ ih =>
   obtain⟨p,E,h1,h2⟩:=ih;obtain⟨k,hk,rfl⟩:=List.mem_iff_getElem.1 hx;exact⟨k :: p,E,⟨_,Y0c hk,hs,h1⟩,h2⟩
theorem ZeA {t:PB}:∀ (p:List Nat) {S E:Nat},Rch t S→RunOk t S p E→Rch t E
 | [],S,E,h,hr=>by cases hr; exact h
 | k :: p,S,E,h,⟨x,hx,hs,hr⟩=>ZeA p (.step h (List.mem_of_getElem? hx) hs) hr
theorem ZbI {t:PB}:∀ (p:List Nat) {S E:Nat} {k:Nat} {x:RU},RunOk t S p E→t.rs[k]?=some x→stepR t x E=true→RunOk t S (p ++ [k]) (nextR x E)
 | [],S,E,k,x,hr,hx,hs=>by cases hr; exact⟨x,hx,hs,rfl⟩
 | j :: p,S,E,k,x,⟨y,hy,h1,h2⟩,hx,hs=>⟨y,hy,h1,ZbI p h2 hx hs⟩
theorem Zhx {t:PB} {S:Nat} (h:Rch t S):∃ p,RunOk t t.st p S:=by
 induction h with
 | base=>exact⟨[],rfl⟩
 | step _ hx hs ih =>
   obtain⟨p,hp⟩:=ih;obtain⟨k,hk,rfl⟩:=List.mem_iff_getElem.1 hx;exact⟨p ++ [k],ZbI p hp (Y0c hk) hs⟩
theorem able_iff {t:PB} (h:PbOk t):Able t t.st↔∃ E,Rch t E∧reachB t E=true:=by
 constructor
 · intro ha;obtain⟨p,E,h1,h2⟩:=Zgm ha;exact⟨E,ZeA p .base h1,h2⟩
 · rintro ⟨E, h1, h2⟩;obtain⟨p,hp⟩:=Zhx h1;exact ZbH h p h.st h.sgood hp h2
theorem Zhy {t:PB} {l:List Nat} (hn:l.Nodup) (hl:∀ s∈l,InS t s):l.length≤2 ^ t.n:=by
 have hnd:(l.map (· / 2)).Nodup:=by
  rw [List.nodup_iff_pairwise_ne,List.pairwise_map];refine List.Pairwise.imp_of_mem (fun {a b} ha hb hab e=>hab ?_) (List.nodup_iff_pairwise_ne.1 hn);have x1:=Z5O (hl a ha);have x2:=Z5O (hl b hb);omega
 have:=Z4F (2 ^ t.n) _ hnd fun x hx=>by
  obtain⟨w,hw,rfl⟩:=Y0i.1 hx;exact (Z5O (hl w hw)).2
 rwa [Y0f] at this
theorem Z8j {t:PB} {i:Nat} (hi:i<2 ^ t.n):InS t (2*i):=orSub.2 fun j hj=>by
 rw [Z2N];cases j with
 | zero=>simp at hj
 | succ j =>
   rw [Nat.testBit_succ,show 2*i / 2=i by omega] at hj;have:j<t.n:=Nat.lt_of_not_le fun h=>by
    rw [Nat.testBit_lt_two_pow (Nat.lt_of_lt_of_le hi (Nat.pow_le_pow_right (by decide) h))] at hj;cases hj
   rw [decide_eq_true (show 1≤j+1 by omega),decide_eq_true (show j+1≤t.n by omega)]; rfl
theorem ZcZ {l:List Nat} {a:Nat} (h:l.Nodup) (ha:a ∉ l):(l ++ [a]).Nodup:=by
 rw [List.nodup_append];exact⟨h,by simp,fun x hx y hy e=>by rw [Y0g] at hy; subst hy; subst e; exact ha hx⟩
def inC1 (k:Nat):List PV := [.val (.int .i64 (k:Int))]
def inL (l:List Nat):List (List PV):=l.map inC1
theorem Zz (l:List Nat):pureLL (inL l):=Za (enc:=inC1) (fun _=>⟨Yt,Yt⟩) l
theorem Z3z (l:List Nat):(inL l).length=l.length:=by simp [inL]
def addN (out:List Nat) (s:Nat):List Nat:=if s∈out then out else out ++ [s]
theorem Zgn (out:List Nat) (s:Nat):s∈addN out s:=by unfold addN; split<;>simp_all
theorem Zgo (out:List Nat) (s:Nat):out <+: addN out s:=by
 unfold addN
 split
 · exact List.prefix_refl _
 · exact List.prefix_append _ _
theorem Zhz {out:List Nat} (h:out.Nodup) (s:Nat):(addN out s).Nodup:=by
 unfold addN
 split
 · exact h
 · rename_i hs; exact ZcZ h hs
theorem Zgp {out:List Nat} {p:Nat→Prop} (h:∀ x∈out,p x) {s:Nat} (hs:p s):∀ x∈addN out s,p x:=fun x hx=>by
 unfold addN at hx
 split at hx
 · exact h x hx
 · rcases Y0h.1 hx with hx | hx
   · exact h x hx
   · rw [Y0g] at hx; subst hx; exact hs
structure AllI (t:PB) (at':Nat) (out:List Nat):Prop where
 nd:out.Nodup
 rch:∀ s∈out,Rch t s
 st:t.st∈out
 le:at'≤out.length
 cl:∀ i S,i<at'→out[i]?=some S→∀ x∈t.rs,stepR t x S=true→nextR x S∈out
structure AllK (t:PB) (at':Nat) (S k:Nat) (out:List Nat):Prop where
 i:AllI t at' out
 s:out[at']?=some S
 ok:∀ j x,j<k→t.rs[j]?=some x→stepR t x S=true→nextR x S∈out
theorem AllI.base (t:PB):AllI t 0 [t.st]:=⟨by simp,fun s hs=>by rw [Y0g] at hs; subst hs; exact .base,by simp,Y0l _,fun i S hi=>absurd hi (Nat.not_lt_zero i)⟩
theorem AllI.len {t:PB} (h:PbOk t) {a:Nat} {out:List Nat} (hi:AllI t a out):out.length≤2 ^ t.n:=Zhy hi.nd fun s hs=>(hi.rch s hs).inS h
theorem AllI.begin {t:PB} {a:Nat} {out:List Nat} (hi:AllI t a out) {S:Nat} (hs:out[a]?=some S):AllK t a S 0 out:=⟨hi,hs,fun j x hj=>absurd hj (Nat.not_lt_zero j)⟩
theorem ZhA {α:Type} {out out':List α} (h:out <+: out') {i:Nat} {S:α} (hs:out[i]?=some S):out'[i]?=some S:=by
 obtain⟨u,rfl⟩:=h;rw [List.getElem?_append_left (List.getElem?_eq_some_iff.1 hs).1]; exact hs
theorem pre_get' {α:Type} {out out':List α} (h:out <+: out') {i:Nat} {S:α} (hs:out'[i]?=some S) (hi:i<out.length):out[i]?=some S:=by
 obtain⟨u,rfl⟩:=h
 rwa [List.getElem?_append_left hi] at hs
theorem AllK.skip {t:PB} {a S k:Nat} {out:List Nat} (h:AllK t a S k out) {x:RU} (hx:t.rs[k]?=some x) (hn:stepR t x S=false):AllK t a S (k+1) out :=
 ⟨h.i,h.s,fun j y hj hy hs=>by
  by_cases e:j<k
  · exact h.ok j y e hy hs
  · obtain rfl : j = k := by omega
    rw [hx] at hy; cases hy
    rw [hn] at hs; cases hs⟩
theorem AllK.add {t:PB} {a S k:Nat} {out:List Nat} (h:AllK t a S k out) {x:RU} (hx:t.rs[k]?=some x) (hs:stepR t x S=true):AllK t a S (k+1) (addN out (nextR x S)):=by
 have hp:=Zgo out (nextR x S);have hS:Rch t S:=h.i.rch S (List.mem_of_getElem? h.s);refine⟨⟨Zhz h.i.nd _,Zgp h.i.rch (.step hS (List.mem_of_getElem? hx) hs),hp.subset h.i.st,Y03 h.i.le hp.length_le,fun i T hi hT y hy hs'=>?_⟩,ZhA hp h.s,fun j y hj hy hs'=>?_⟩
 · exact hp.subset (h.i.cl i T hi (pre_get' hp hT (Nat.lt_of_lt_of_le hi h.i.le)) y hy hs')
 · by_cases e : j < k
   · exact hp.subset (h.ok j y e hy hs')
   · obtain rfl : j = k := by omega
     rw [hx] at hy; cases hy;exact Zgn _ _
theorem AllK.done {t:PB} {a S k:Nat} {out:List Nat} (h:AllK t a S k out) (hk:t.rs.length≤k):AllI t (a+1) out :=
 ⟨h.i.nd,h.i.rch,h.i.st,(List.getElem?_eq_some_iff.1 h.s).1,fun i T hi hT y hy hs=>by
  by_cases e:i<a
  · exact h.i.cl i T e hT y hy hs
  · obtain rfl : i = a := by omega
    rw [h.s] at hT; cases hT;obtain⟨j,hj,rfl⟩:=List.mem_iff_getElem.1 hy
    exact h.ok j _ (by omega) (Y0c hj) hs⟩
theorem AllI.all {t:PB} {out:List Nat} (h:AllI t out.length out) {S:Nat} (hr:Rch t S):S∈out:=by
 induction hr with
 | base=>exact h.st
 | step _ hx hs ih =>
   obtain⟨i,hi,rfl⟩:=List.mem_iff_getElem.1 ih;exact h.cl i _ hi (Y0c hi) _ hx hs
theorem AllI.able {t:PB} (h:PbOk t) {out:List Nat} (hi:AllI t out.length out):out.any (reachB t)=true↔Able t t.st:=by
 rw [able_iff h,Y01];exact exists_congr fun S=>and_congr_left fun _=>⟨hi.rch S,hi.all⟩
end
section
open Go.RowKit
attribute [local irreducible] aw opsK dK
def stepN (t:PB) (x:RU) (s:Nat) (ok:Bool):PV:=.tup [.val (.int .u64 ((if ok then nextR x s else 0:Nat):Int)),.val (.bool ok)]
theorem Z4i {t:PB} (h:PbOk t) (s:Nat) (hs:s<18446744073709551616) (k:Nat) (hk:k<t.rs.length):Spec Tryz.prog 81 [.agg (pbR t),.val (.int .u64 (s:Int)),.val (.int .i64 (k:Int))] (· = stepN t t.rs[k] s (stepR t t.rs[k] s)):=by
 have hro:=h.rs _ (Y0j hk);have hpp:=Z11 t;have hrl:=Z3X t.rs;refine Yp ok81 fun C hC=>?_;refine Zs ?_;refine Zc ?_;refine Z4 rfl rfl rfl ?_;refine gd 12 ⟨?_⟩;refine Z0 (Z1 (v:=false) rfl (Y0w (by omega))) rfl rfl ?_;refine gd 18 ⟨?_⟩;refine Zl rfl ?_;refine Z0 (Z1 (v:=false) rfl (Y0w (by rw [hrl];omega))) rfl rfl ?_;refine gd 23 ⟨?_⟩;refine Z0 (Zo (xs:=t.rs) (g:=ruR) rfl rfl k rfl hk rfl) rfl rfl ?_;generalize t.rs[k]=x at hro ⊢;have hxt:=hro.tg;have hp:=ZG (show x.tg<64 by omega);have hx64:=hro.m.lt (by decide);refine gd 27 ⟨?_⟩;refine Z8 rfl rfl rfl (show IntKind.u64.wrap ((x.tg:Nat):Int)=((x.tg:Nat):Int) from Y0x _ ⟨by omega,by omega⟩) ?_;refine Z2B rfl rfl (by omega) (Z8b x.tg (by omega)) rfl ?_;refine gd 31 ⟨?_⟩;refine Z8 rfl rfl rfl (bits_or_u64_nat s (2 ^ x.tg) hs hp) ?_;refine gd 33 ⟨?_⟩;have hnx:nextR x s<18446744073709551616:=by
  unfold nextR
  split
  · exact Y02 Nat.and_le_left hs
  · exact Z43 hs hp
 have hgood:=Z3a h (nextR x s) hnx;have hclo:=Z2h t.l false h.good.small s hs;have hho:=Z28 x.cu (clo t.l s) hx64 (Z4M _ _);have hst:stepR t x s=(!decide (((nextR x s:Nat):Int)=(s:Int))&&(goodB t (nextR x s)&&(x.rev||hoC x.cu (clo t.l s)))):=by
  unfold stepR;congr 1;by_cases e:nextR x s=s
  · rw [Y0w (fun h=>h e),decide_eq_true (by rw [e])]; rfl
  · rw [decide_eq_true e,Y0w (show ¬ ((nextR x s:Nat):Int)=(s:Int) from fun h=>e (Int.ofNat.inj h))]; rfl
 rw [hst];cases hv:x.rev
 · have hnv : nextR x s = s ||| 2 ^ x.tg := by unfold nextR; rw [hv]; rfl
   rw [← hnv];refine Z0 (Z1 (v:=false) rfl hv) rfl rfl ?_;refine gd 39 ⟨?_⟩;cases hne:decide (((nextR x s:Nat):Int)=(s:Int))
   case true =>
    refine Z0 (Z1 (v:=true) rfl hne) rfl rfl ?_;refine go ?_;exact Z5 rfl ⟨Yt,Yt,Yt⟩ rfl
   refine Z0 (Z1 (v:=false) rfl hne) rfl rfl ?_;refine gd 43 ⟨?_⟩;refine Zl rfl ?_;refine Z6 hgood rfl rfl rfl ⟨hpp,Yt,Yt⟩ rfl ?_;cases hg:goodB t (nextR x s)
   case false =>
    refine go ?_;exact Z5 rfl ⟨Yt,Yt,Yt⟩ rfl
   refine gd 47 ⟨?_⟩;refine Ze (Z1 (v:=false) rfl hv) rfl rfl ?_;refine gd 55 ⟨?_⟩;refine Z2J rfl ?_;refine Zy hclo rfl rfl rfl ⟨Zh _,Yt,Yt⟩ ?_;refine gd 56 ⟨?_⟩;refine Z2J rfl ?_;refine Zy hho rfl rfl rfl ⟨Z1j _,Yt,Yt⟩ ?_;cases hh:hoC x.cu (clo t.l s)
   all_goals
    refine go ?_;exact Z5 rfl ⟨Yt,Yt,Yt⟩ rfl
 · have hnv : nextR x s = minusN s (2 ^ x.tg) := by unfold nextR; rw [hv]; rfl
   refine Z0 (Z1 (v:=true) rfl hv) rfl rfl ?_;refine gd 36 ⟨?_⟩;refine Z8 rfl rfl rfl (Z1A s (2 ^ x.tg) hs hp) ?_;rw [← hnv];refine gd 39 ⟨?_⟩;cases hne:decide (((nextR x s:Nat):Int)=(s:Int))
   case true =>
    refine Z0 (Z1 (v:=true) rfl hne) rfl rfl ?_;refine go ?_;exact Z5 rfl ⟨Yt,Yt,Yt⟩ rfl
   refine Z0 (Z1 (v:=false) rfl hne) rfl rfl ?_;refine gd 43 ⟨?_⟩;refine Zl rfl ?_;refine Z6 hgood rfl rfl rfl ⟨hpp,Yt,Yt⟩ rfl ?_;cases hg:goodB t (nextR x s)
   case false =>
    refine go ?_;exact Z5 rfl ⟨Yt,Yt,Yt⟩ rfl
   refine gd 47 ⟨?_⟩;refine Ze (Z1 (v:=true) rfl hv) rfl rfl ?_;refine go ?_;exact Z5 rfl ⟨Yt,Yt,Yt⟩ rfl
def u64C (s:Nat):List PV := [.val (.int .u64 (s:Int))]
def nsL (l:List Nat):List (List PV):=l.map u64C
theorem Zr (l:List Nat):pureLL (nsL l):=Za (enc:=u64C) (fun _=>⟨Yt,Yt⟩) l
theorem Z1C (l:List Nat):(nsL l).length=l.length:=by simp [nsL]
theorem Z5Q (l:List Nat) (k:Nat):nsL l ++ [u64C k]=nsL (l ++ [k]):=by simp [nsL]
theorem Zd0 {t:PB} (h:PbOk t) (hn:t.n≤5):Spec Tryz.prog 31 [.agg (pbR t)] fun r=>∃ out,AllI t out.length out∧r=.vec (nsL out) false:=by
 have hpp:=Z11 t;have hrb:=h.rl;have hrl:=Z3X t.rs;have h32:2 ^ t.n≤32:=Nat.pow_le_pow_right (n:=2) (by decide) hn;refine Yp ok31 fun C hC=>?_;refine Zs ?_;refine Zc ?_;refine Z4 rfl rfl rfl ?_;refine gd 13 ⟨?_⟩;refine Z4a rfl rfl rfl ?_;refine go ?_;refine ZJ hC (fun (z:Nat×List Nat)=>AllI t z.1 z.2) (fun z=>2 ^ t.n-z.1) 1 (fun z => [(1,.cp (pbR t)),(3,.own 0),(4,Yv z.1)]) (fun z => [(0,⟨1,nsL z.2⟩)]) (Y0l _) (0,[t.st]) (AllI.base t) (fun i=>i) (fun _ _=>rfl) Zu
  ⟨⟨_,rfl,.pure _ hpp⟩,⟨_,rfl,.own (ρ:=fun i=>i) 0 (by decide)⟩,⟨_,rfl,.pure _ Yt⟩,Yt⟩ ⟨⟨by decide,_,rfl,.same _ ⟨⟨Yt,Yt⟩,Yt⟩⟩,Yt⟩ ?_
 rintro⟨a,out⟩ hi;dsimp only at hi ⊢;have hal:a≤out.length:=hi.le;have hol:=hi.len h;have hinc:IntKind.i64.wrap ((a:Int)+1)=((a+1:Nat):Int):=Y0v _ ⟨by omega,by omega⟩;refine gd 17 ⟨?_⟩;by_cases hlt:a<out.length
 case neg =>
  refine Zi (Zq (k:=3) rfl rfl (Zr _)) ?_;refine Z0 (Z1 (v:=false) rfl (Y0w (by rw [Z1C];omega))) rfl rfl ?_;refine go ?_;have hae:a=out.length:=by omega
  exact Z5 rfl (Zr out) ⟨out,by rw [← hae]; exact hi,rfl⟩
 refine Z0 (Z1 (v:=true) rfl (decide_eq_true (by rw [Z1C];omega))) rfl rfl ?_;obtain⟨S,hS⟩:∃ S,out[a]?=some S:=⟨_,Y0c hlt⟩
 refine go ?_;refine ZJ hC (fun (z:Nat×List Nat)=>z.1≤t.rs.length∧AllK t a S z.1 z.2) (fun z=>t.rs.length-z.1) 1 (fun z => [(1,.cp (pbR t)),(3,.own 0),(4,.val (.int .i64 (a:Int))),(22,.val (.int .i64 (t.rs.length:Int))),(23,Yv z.1)]) (fun z => [(0,⟨1,nsL z.2⟩)]) (Y0l _) (0,out) ⟨Y0l _,hi.begin hS⟩ (fun i=>i) (fun _ _=>rfl) Zu
  ⟨⟨_,rfl,.pure _ hpp⟩,⟨_,rfl,.own (ρ:=fun i=>i) 0 (by decide)⟩,⟨_,rfl,.pure _ Yt⟩,⟨_,by rw [← hrl]; rfl,.pure _ Yt⟩,⟨_,rfl,.pure _ Yt⟩,Yt⟩ ⟨⟨by decide,_,rfl,.same _ (Zr out)⟩,Yt⟩ ?_
 clear hi hal hol hlt hS out;rintro⟨k,out⟩ ⟨hk,hi⟩;dsimp only at hk hi ⊢;have hkinc:IntKind.i64.wrap ((k:Int)+1)=((k+1:Nat):Int):=Y0v _ ⟨by omega,by omega⟩;have hol:=hi.i.len h;refine gd 24 ⟨?_⟩;by_cases hkl:k<t.rs.length
 case neg =>
  refine Z0 (Z1 (v:=false) rfl (Y0w (by omega))) rfl rfl ?_;refine go ?_;have h1:=hi.done (by omega);have h2:=h1.le
  refine⟨(a+1,out),fun i=>i,h1,by show 2 ^ t.n-(a+1)<2 ^ t.n-a; omega,fun _ _=>rfl,Zu,
   ⟨⟨_,rfl,.pure _ hpp⟩,⟨_,rfl,.own (ρ:=fun i=>i) 0 (by decide)⟩,⟨_,by show some _=some _; rw [hinc],.pure _ Yt⟩,Yt⟩,⟨⟨by decide,_,rfl,.same _ (Zr out)⟩,Yt⟩⟩
 refine Z0 (Z1 (v:=true) rfl (decide_eq_true (Int.ofNat_lt.2 hkl))) rfl rfl ?_;have hsl:=(List.getElem?_eq_some_iff.1 hi.s).1;have hSi:InS t S:=(hi.i.rch S (List.mem_of_getElem? hi.s)).inS h;have hge:(nsL out).getD a []=u64C S:=by simp [nsL,Y0b,hi.s]
 have hst:=Z4i h S (hSi.lt h.n.2) k hkl;have hxk:=Y0c hkl;refine gd 30 ⟨?_⟩;refine Ze (ZL (k:=.i64) rfl rfl rfl a rfl (by show a<(nsL out).length; rw [Z1C]; exact hsl) rfl) rfl rfl ?_;refine Ze (Z2t (p:=.val (.int .u64 (S:Int))) rfl rfl (by show a<(nsL out).length; rw [Z1C]; exact hsl) (by show cutAt false 1 0 ((nsL out).getD a [])=_; rw [hge]; rfl)) rfl rfl ?_;refine gd 33 ⟨?_⟩;refine Zy hst rfl rfl rfl ⟨hpp,Yt,Yt,Yt⟩ ?_;generalize t.rs[k]=x at hxk ⊢;cases hs:stepR t x S
 case false =>
  refine go ?_
  refine⟨(k+1,out),fun i=>i,⟨hkl,hi.skip hxk hs⟩,by show t.rs.length-(k+1)<t.rs.length-k; omega,fun _ _=>rfl,Zu,
   ⟨⟨_,rfl,.pure _ hpp⟩,⟨_,rfl,.own (ρ:=fun i=>i) 0 (by decide)⟩,⟨_,rfl,.pure _ Yt⟩,⟨_,rfl,.pure _ Yt⟩,⟨_,by show some _=some _; rw [hkinc],.pure _ Yt⟩,Yt⟩,⟨⟨by decide,_,rfl,.same _ (Zr out)⟩,Yt⟩⟩
 have hadd:=hi.add hxk hs;have hstn:stepN t x S true=.tup [.val (.int .u64 ((nextR x S:Nat):Int)),.val (.bool true)]:=rfl;rw [hstn];generalize nextR x S=nx at hadd ⊢;refine go ?_;refine ZJ hC (fun (i:Nat)=>i≤out.length) (fun i=>out.length-i) 1 (fun i => [(1,.cp (pbR t)),(3,.own 0),(4,.val (.int .i64 (a:Int))),(6,.val (.int .u64 (nx:Int))),(8,.val (.bool (decide (nx∈out.take i)))),(22,.val (.int .i64 (t.rs.length:Int))),(23,.val (.int .i64 (k:Int))),(38,.own 0),(39,.val (.int .i64 (out.length:Int))),(40,Yv i)]) (fun _ => [(0,⟨1,nsL out⟩)]) (Y0l _) 0 (Y0l _) (fun i=>i) (fun _ _=>rfl) Zu
  ⟨⟨_,rfl,.pure _ hpp⟩,⟨_,rfl,.own (ρ:=fun i=>i) 0 (by decide)⟩,⟨_,rfl,.pure _ Yt⟩,⟨_,rfl,.pure _ Yt⟩,⟨_,by show some _=some _; rw [Y0w (by simp)],.pure _ Yt⟩,⟨_,rfl,.pure _ Yt⟩,⟨_,rfl,.pure _ Yt⟩,⟨_,rfl,.own (ρ:=fun i=>i) 0 (by decide)⟩,⟨_,by rw [← Z1C]; rfl,.pure _ Yt⟩,⟨_,rfl,.pure _ Yt⟩,Yt⟩ ⟨⟨by decide,_,rfl,.same _ (Zr out)⟩,Yt⟩ ?_
 intro i hio;have hiinc:IntKind.i64.wrap ((i:Int)+1)=((i+1:Nat):Int):=Y0v _ ⟨by omega,by omega⟩;refine gd 41 ⟨?_⟩;by_cases hil:i<out.length
 · refine Z0 (Z1 (v := true) rfl (decide_eq_true (Int.ofNat_lt.2 hil))) rfl rfl ?_;have htk:=Z2n hil;have hgi:(nsL out).getD i []=u64C out[i]:=by simp [nsL,Y0b,hil]
   generalize out[i]=y at htk hgi;refine gd 42 ⟨?_⟩;refine Z0 (ZL (k:=.i64) rfl rfl rfl i rfl (by show i<(nsL out).length; rw [Z1C]; exact hil) rfl) rfl rfl ?_;refine Z0 (Z2t (p:=.val (.int .u64 (y:Int))) rfl rfl (by show i<(nsL out).length; rw [Z1C]; exact hil) (by show cutAt false 1 0 ((nsL out).getD i [])=_; rw [hgi]; rfl)) rfl rfl ?_;refine gd 46 ⟨?_⟩;by_cases hyn:y=nx
   · refine Z0 (Z1 (v := true) rfl (decide_eq_true (by rw [hyn]))) rfl rfl ?_;refine go ?_
     exact⟨i+1,fun i=>i,hil,by show out.length-(i+1)<out.length-i; omega,fun _ _=>rfl,Zu,
      ⟨⟨_,rfl,.pure _ hpp⟩,⟨_,rfl,.own (ρ:=fun i=>i) 0 (by decide)⟩,⟨_,rfl,.pure _ Yt⟩,⟨_,rfl,.pure _ Yt⟩,⟨_,by show some _=some _; rw [decide_eq_true (by rw [htk,hyn]; simp)],.pure _ Yt⟩,⟨_,rfl,.pure _ Yt⟩,⟨_,rfl,.pure _ Yt⟩,⟨_,rfl,.own (ρ:=fun i=>i) 0 (by decide)⟩,⟨_,rfl,.pure _ Yt⟩,⟨_,by show some _=some _; rw [hiinc],.pure _ Yt⟩,Yt⟩,⟨⟨by decide,_,rfl,.same _ (Zr out)⟩,Yt⟩⟩
   · refine Z0 (Z1 (v := false) rfl (Y0w (fun h => hyn (Int.ofNat.inj h)))) rfl rfl ?_;refine go ?_
     exact⟨i+1,fun i=>i,hil,by show out.length-(i+1)<out.length-i; omega,fun _ _=>rfl,Zu,
      ⟨⟨_,rfl,.pure _ hpp⟩,⟨_,rfl,.own (ρ:=fun i=>i) 0 (by decide)⟩,⟨_,rfl,.pure _ Yt⟩,⟨_,rfl,.pure _ Yt⟩,⟨_,by show some (PV.val (.bool (decide (nx∈out.take i))))=some _; rw [htk,decide_eq_decide.2 (show nx∈out.take i↔nx∈out.take i ++ [y] by rw [Y0h,Y0g]; exact⟨.inl,fun h=>h.elim (fun h=>h) fun h=>absurd h.symm hyn⟩)],.pure _ Yt⟩,⟨_,rfl,.pure _ Yt⟩,⟨_,rfl,.pure _ Yt⟩,⟨_,rfl,.own (ρ:=fun i=>i) 0 (by decide)⟩,⟨_,rfl,.pure _ Yt⟩,⟨_,by show some _=some _; rw [hiinc],.pure _ Yt⟩,Yt⟩,⟨⟨by decide,_,rfl,.same _ (Zr out)⟩,Yt⟩⟩
 · refine Z0 (Z1 (v := false) rfl (Y0w (by omega))) rfl rfl ?_;have hie:i=out.length:=by omega
   rw [hie,Y0q];unfold addN at hadd;by_cases hm:nx∈out
   · rw [if_pos hm] at hadd;rw [decide_eq_true hm];refine go ?_
     exact⟨(k+1,out),fun i=>i,⟨hkl,hadd⟩,by show t.rs.length-(k+1)<t.rs.length-k; omega,fun _ _=>rfl,Zu,
      ⟨⟨_,rfl,.pure _ hpp⟩,⟨_,rfl,.own (ρ:=fun i=>i) 0 (by decide)⟩,⟨_,rfl,.pure _ Yt⟩,⟨_,rfl,.pure _ Yt⟩,⟨_,by show some _=some _; rw [hkinc],.pure _ Yt⟩,Yt⟩,⟨⟨by decide,_,rfl,.same _ (Zr out)⟩,Yt⟩⟩
   · rw [if_neg hm] at hadd;rw [Y0w hm];refine gd 53 ⟨?_⟩
     refine ZD (ZB (k:=0) (m := [u64C nx]) (fl:=true) rfl rfl rfl (fun q hq=>by rw [Y0g] at hq; subst hq; rfl) rfl (by
      show ((nsL out).length+1)*8≤_
      rw [Z1C];omega)) rfl rfl ?_
     simp only;rw [Z5Q];refine go ?_
     exact⟨(k+1,out ++ [nx]),mv 0 1,⟨hkl,hadd⟩,by show t.rs.length-(k+1)<t.rs.length-k; omega,fun i hi=>absurd hi (Nat.not_lt_zero i),Zw rfl,
      ⟨⟨_,rfl,.pure _ hpp⟩,⟨_,rfl,.own (ρ:=mv 0 1) 0 (by decide)⟩,⟨_,rfl,.pure _ Yt⟩,⟨_,rfl,.pure _ Yt⟩,⟨_,by show some _=some _; rw [hkinc],.pure _ Yt⟩,Yt⟩,⟨⟨by decide,_,rfl,.same _ (Zr _)⟩,Yt⟩⟩
theorem Z6Q {t:PB} (h:PbOk t) (hn:t.n≤5):Spec Tryz.prog 10 [.agg (pbR t)] fun r=>∃ b:Bool,(b=true↔Able t t.st)∧r=.val (.bool b):=by
 have hpp:=Z11 t;have h32:2 ^ t.n≤32:=Nat.pow_le_pow_right (n:=2) (by decide) hn;have hpc:∀ D,innL D (pbR t):=fun D=>Zm (fun _ h=>h.elim) _ hpp;refine Yp ok10 fun C hC=>?_;refine Zs ?_;refine Zc ?_;refine Z4 rfl rfl rfl ?_;refine gd 6 ⟨?_⟩;refine ZH rfl rfl (Zd0 h hn) ⟨hpp,Yt⟩ rfl ?_;rintro r ⟨out,hi,rfl⟩;have hab:=hi.able h;have hol:=hi.len h;have hp:∀ D,innLL D (nsL out):=fun D=>Z9 (fun _ h=>h.elim) _ (Zr out);refine go ?_;refine Zn hC (fun i=>i≤out.length∧(out.take i).any (reachB t)=false) (fun i=>out.length-i) 0 (fun i => [(1,.cp (pbR t)),(6,.vec (nsL out) false),(7,.val (.int .i64 (out.length:Int))),(8,Yv i)]) (fun _=>[]) (Y0l _) 0 ⟨Y0l _,by simp⟩
  ⟨⟨rfl,hpc _⟩,⟨rfl,hp _⟩,⟨by rw [← Z1C]; rfl,Yt⟩,⟨rfl,Yt⟩,Yt⟩ Yt ?_
 rintro i ⟨hi2,hno⟩;have hinc:IntKind.i64.wrap ((i:Int)+1)=((i+1:Nat):Int):=Y0v _ ⟨by omega,by omega⟩;refine gd 9 ⟨?_⟩;by_cases hil:i<out.length
 · refine Z0 (Z1 (v := true) rfl (decide_eq_true (Int.ofNat_lt.2 hil))) rfl rfl ?_;have htk:=Z2n hil;have hm:=Y0j hil;refine gd 10 ⟨?_⟩;refine Z0 (Zo (xs:=out) (g:=u64C) rfl rfl i rfl hil rfl) rfl rfl ?_;generalize out[i]=x at htk hm ⊢;have hx:=(hi.rch x hm).inS h;refine gd 14 ⟨?_⟩;refine Z6 (Z3x h x (hx.lt h.n.2)) rfl rfl rfl ⟨hpp,Yt,Yt⟩ rfl ?_;cases hr:reachB t x
   · refine go ?_;exact⟨i+1,⟨hil,by rw [htk,List.any_append,hno]; simp [hr]⟩,by omega,⟨⟨rfl,hpc _⟩,⟨rfl,hp _⟩,⟨rfl,Yt⟩,⟨by show some _=some _; rw [hinc],Yt⟩,Yt⟩,Yt⟩
   · refine go ?_;exact Z5 rfl Yt ⟨true,⟨fun _=>hab.1 (Y01.2 ⟨x,hm,hr⟩),fun _=>rfl⟩,rfl⟩
 · refine Z0 (Z1 (v := false) rfl (Y0w (by omega))) rfl rfl ?_;refine go ?_;have:i=out.length:=by omega
   rw [this,Y0q] at hno;exact Z5 rfl Yt ⟨false,⟨fun h=>(by cases h),fun h=>by rw [hab.2 h] at hno; cases hno⟩,rfl⟩
section
variable {P:Program} {e:Env} {h:Heap} {n:Nat}
theorem Z3c {d:Option Nat} {z:Rsv} {i mask:Nat} {op:AOp} {iso:Nat} {alt:Bool} {g:Nat×Bool} {xs:List DItem} {K:Env→Heap→Prop} (hw:wantB (some g) e=some false) (hk:dK P z n xs (updO e d pvu) h K):dK P z n (⟨i,⟨d,op,some g⟩,mask,iso,alt⟩ :: xs) e h K:=by
 unfold dK;exact⟨_,.skip hw,fun p' f' hh=>by obtain⟨rfl,rfl⟩:=hh; exact hk⟩
end
theorem ZeB:setN 0=.agg [.vec [] false]:=by unfold setN; rw [ZT]; rfl
theorem ZbJ {x:RU} (hx:x.tg<64) {s:Nat} (hs:s<18446744073709551616):nextR x s<18446744073709551616:=by
 unfold nextR
 split
 · exact Y02 Nat.and_le_left hs
 · exact Z43 hs (ZG hx)
theorem Z2a {N M:Nat} (hN:N<18446744073709551616) (hM:M<18446744073709551616) {b:Bool} (h:decide (N ||| M=M)=b):Spec Tryz.prog 75 [setN N,setN M] (· = .val (.bool b)):=h▸Z1T N M hN hM
theorem Z3Z {N M:Nat} (hN:N<18446744073709551616) (hM:M<18446744073709551616) {b:Bool} (h:decide (N &&& M≠0)=b):Spec Tryz.prog 84 [setN N,setN M] (· = .val (.bool b)):=h▸Z56 N M hN hM
def satT (c:Cu) (lo hi:Nat):Nat:=if !decide (c.1 ||| hi=hi)||decide (c.2 &&& lo≠0) then 0 else if decide (c.1 ||| lo=lo) && !decide (c.2 &&& hi≠0) then 2 else 1
theorem ZhI (c:Cu) (lo hi:Nat):satT c lo hi≤2:=by
 unfold satT
 split
 · omega
 · split<;>omega
theorem Zgw (c:Cu) (lo hi:Nat) (hc:Ok64 c) (hlo:lo<18446744073709551616) (hhi:hi<18446744073709551616):Spec Tryz.prog 208 [cuP c,setN lo,setN hi] (· = .val (.int .u8 ((satT c lo hi:Nat):Int))):=by
 refine Yp ok208 fun C hC=>?_;have hp2:∀ a b:Nat,pureL [setN a,setN b]:=fun a b=>⟨Z3 a,Z3 b,Yt⟩
 cases h1:decide (c.1 ||| hi=hi)
 case false =>
  refine gd 11 ⟨?_⟩;refine Z6 (Z2a hc.1 hhi h1) rfl rfl rfl (hp2 _ _) rfl ?_;refine go ?_;exact Z5 rfl Yt (by unfold satT; rw [h1]; rfl)
 cases h2:decide (c.2 &&& lo≠0)
 case true =>
  refine gd 11 ⟨?_⟩;refine Z6 (Z2a hc.1 hhi h1) rfl rfl rfl (hp2 _ _) rfl ?_;refine gd 17 ⟨?_⟩;refine Zl rfl ?_;refine Z6 (Z3Z hc.2 hlo h2) rfl rfl rfl (hp2 _ _) rfl ?_;refine go ?_;exact Z5 rfl Yt (by unfold satT; rw [h1,h2]; rfl)
 cases h3:decide (c.1 ||| lo=lo)
 case false =>
  refine gd 11 ⟨?_⟩;refine Z6 (Z2a hc.1 hhi h1) rfl rfl rfl (hp2 _ _) rfl ?_;refine gd 17 ⟨?_⟩;refine Zl rfl ?_;refine Z6 (Z3Z hc.2 hlo h2) rfl rfl rfl (hp2 _ _) rfl ?_;refine gd 23 ⟨?_⟩;refine Z6 (Z2a hc.1 hlo h3) rfl rfl rfl (hp2 _ _) rfl ?_;refine go ?_;exact Z5 rfl Yt (by unfold satT; rw [h1,h2,h3]; rfl)
 cases h4:decide (c.2 &&& hi≠0)
 case true =>
  refine gd 11 ⟨?_⟩;refine Z6 (Z2a hc.1 hhi h1) rfl rfl rfl (hp2 _ _) rfl ?_;refine gd 17 ⟨?_⟩;refine Zl rfl ?_;refine Z6 (Z3Z hc.2 hlo h2) rfl rfl rfl (hp2 _ _) rfl ?_;refine gd 23 ⟨?_⟩;refine Z6 (Z2a hc.1 hlo h3) rfl rfl rfl (hp2 _ _) rfl ?_;refine gd 28 ⟨?_⟩;refine Zl rfl ?_;refine Z6 (Z3Z hc.2 hhi h4) rfl rfl rfl (hp2 _ _) rfl ?_;refine go ?_;exact Z5 rfl Yt (by unfold satT; rw [h1,h2,h3,h4]; rfl)
 case false =>
  refine gd 11 ⟨?_⟩;refine Z6 (Z2a hc.1 hhi h1) rfl rfl rfl (hp2 _ _) rfl ?_;refine gd 17 ⟨?_⟩;refine Zl rfl ?_;refine Z6 (Z3Z hc.2 hlo h2) rfl rfl rfl (hp2 _ _) rfl ?_;refine gd 23 ⟨?_⟩;refine Z6 (Z2a hc.1 hlo h3) rfl rfl rfl (hp2 _ _) rfl ?_;refine gd 28 ⟨?_⟩;refine Zl rfl ?_;refine Z6 (Z3Z hc.2 hhi h4) rfl rfl rfl (hp2 _ _) rfl ?_;refine go ?_;exact Z5 rfl Yt (by unfold satT; rw [h1,h2,h3,h4]; rfl)
def someT (l:List Cu) (lo hi:Nat):Nat:=l.foldl (fun a c=>max a (satT c lo hi)) 0
theorem Zd6 {l:List Cu} {i:Nat} (hi:i<l.length) (lo hh:Nat):someT (l.take (i+1)) lo hh=max (someT (l.take i) lo hh) (satT l[i] lo hh):=by
 unfold someT;rw [List.take_succ_eq_append_getElem hi,List.foldl_append]
 rfl
theorem Z9f (l:List Cu) (lo hi:Nat):∀ a,a≤2→l.foldl (fun a c=>max a (satT c lo hi)) a≤2:=by
 induction l with
 | nil=>exact fun a h=>h
 | cons c l ih=>exact fun a h=>ih _ (Nat.max_le.2 ⟨h,ZhI _ _ _⟩)
theorem ZbO (l:List Cu) (lo hi:Nat):someT l lo hi≤2:=Z9f l lo hi 0 (by decide)
theorem Z9g (l:List Cu) (fl:Bool) (lo hi:Nat) (hl:∀ c∈l,Ok64 c) (hll:l.length<900000) (hlo:lo<18446744073709551616) (hhi:hi<18446744073709551616):Spec Tryz.prog 196 [.vec (l.map cuC) fl,setN lo,setN hi] (· = .val (.int .u8 ((someT l lo hi:Nat):Int))):=by
 refine Yp ok196 fun C hC=>?_;have hml:(l.map cuC).length=l.length:=Y0f ..;have hpi:∀ D,innLL D (l.map cuC):=fun D=>Z9 (fun _ h=>h.elim) _ (Za Zp l);refine gd 4 ⟨?_⟩;refine Z4 rfl rfl rfl ?_;refine Z4 rfl rfl rfl ?_;refine go ?_;refine Zn hC (fun i=>i≤l.length) (fun i=>l.length-i) 0 (fun i => [(4,.cp [.vec (words (digs lo)) false]),(5,.cp [.vec (words (digs hi)) false]),(7,.val (.int .u8 ((someT (l.take i) lo hi:Nat):Int))),(10,.vec (l.map cuC) fl),(11,.val (.int .i64 (l.length:Int))),(12,Yv i)]) (fun _=>[]) (Y0l _) 0 (Y0l _)
  ⟨⟨rfl,ZU _ _,Yt⟩,⟨rfl,ZU _ _,Yt⟩,⟨rfl,Yt⟩,⟨rfl,hpi _⟩,⟨by rw [← hml]; rfl,Yt⟩,⟨rfl,Yt⟩,Yt⟩ Yt ?_
 intro i hi';have hinc:IntKind.i64.wrap ((i:Int)+1)=((i+1:Nat):Int):=Y0v _ ⟨by omega,by omega⟩;refine gd 13 ⟨?_⟩;by_cases hil:i<l.length
 · refine Z0 (Z1 (v := true) rfl (decide_eq_true (by omega))) rfl rfl ?_;have hci:=hl l[i] (Y0j hil);have hst:=Zd6 hil lo hi;refine gd 14 ⟨?_⟩;refine Z0 (Zo (xs:=l) (g:=cuC) rfl rfl i rfl hil rfl) rfl rfl ?_;generalize l[i]=c at hci hst;refine gd 20 ⟨?_⟩;refine Z6 (Zgw c lo hi hci hlo hhi) rfl rfl rfl ⟨Z39 _,Z3 _,Z3 _,Yt⟩ rfl ?_;refine Z8 (v:=((someT (l.take (i+1)) lo hi:Nat):Int)) rfl rfl rfl (by rw [hst]; split<;>omega) ?_;refine go ?_;exact⟨i+1,by omega,by omega,⟨⟨rfl,ZU _ _,Yt⟩,⟨rfl,ZU _ _,Yt⟩,⟨rfl,Yt⟩,⟨rfl,hpi _⟩,⟨rfl,Yt⟩,⟨by show some _=some _; rw [hinc],Yt⟩,Yt⟩,Yt⟩
 · obtain rfl : i = l.length := by omega
   refine Z0 (Z1 (v:=false) rfl (Y0w (by omega))) rfl rfl ?_;rw [Y0q];refine go ?_;exact Z5 rfl Yt rfl
theorem Z5h (a b:Nat):minusN a b≤a:=Nat.and_le_left
structure ND where
 cl:Bool
 dr:Bool
 mu:Bool
 af:Nat
 so:List Cu
 no:List Cu
 sf:Bool
 nf:Bool
def ndP (d:ND):List PV := [.val (.bool d.cl),.val (.bool d.dr),.val (.bool d.mu),.val (.int .i64 (d.af:Int)),.vec (d.so.map cuC) d.sf,.vec (d.no.map cuC) d.nf]
theorem Z2j (d:ND):pureL (ndP d):=⟨Yt,Yt,Yt,Yt,Za Zp _,Za Zp _,Yt⟩
structure NdOk (d:ND):Prop where
 af:d.af<64
 so:∀ c∈d.so,Ok64 c
 no:∀ c∈d.no,Ok64 c
 sl:d.so.length<900000
 nl:d.no.length<900000
def aftN (d:ND) (x:Nat):Nat:=if 0<d.af then (if d.dr then minusN x (2 ^ d.af) else x ||| 2 ^ d.af) else x
def bndN (cl:Nat→Nat) (d:ND) (x:Nat):Nat:=if d.cl then cl (aftN d x) else aftN d x
theorem Z4j {d:ND} (hd:d.af<64) {x:Nat} (hx:x<18446744073709551616):aftN d x<18446744073709551616:=by
 unfold aftN
 split
 · split
   · exact Y02 (Z5h ..) hx
   · exact Z1U hx (ZG hd)
 · exact hx
theorem ZeM {d:ND} (hd:d.af<64) (l:List Pr) {x:Nat} (hx:x<18446744073709551616):bndN (clo l) d x<18446744073709551616:=by
 unfold bndN
 split
 · exact Z4M _ _
 · exact Z4j hd hx
abbrev sBx (N:Nat):Bx:=⟨1,[[.vec (words (digs N)) false]]⟩
theorem Z2x (D:Nat→Prop) (N:Nat):innLL D (sBx N).elems:=⟨⟨ZU _ _,Yt⟩,Yt⟩
theorem ZaH (d:ND) (hd:NdOk d) (t:PB) (S:List Nat) (lo hi:Nat) (hlo:lo<18446744073709551616) (hhi:hi<18446744073709551616):Spec Tryz.prog 195 [.agg (ndP d),.agg (pbP t S),setN lo,setN hi] (· = .tup [setN (bndN (clo t.l) d lo),setN (bndN (clo t.l) d hi)]):=by
 refine Yp ok195 fun C hC=>?_;have hnp:=Z2j d;have hpp:=ZR t S;have hni:∀ D,innL D (ndP d):=fun D=>Zm (fun _ h=>h.elim) _ hnp;have hpi:∀ D,innL D (pbP t S):=fun D=>Zm (fun _ h=>h.elim) _ hpp;have haf:=hd.af;have hal:=Z4j haf hlo;have hah:=Z4j haf hhi;have hp2:∀ (a:Nat) (k:Int),pureL [setN a,.val (.int .i64 k)]:=fun a k=>⟨Z3 a,Yt,Yt⟩
 refine gd 4 ⟨?_⟩;refine Z4 rfl rfl rfl ?_;refine Z4 rfl rfl rfl ?_
 iterate 4 (first|refine st ?_|(apply B<;>intro hb<;>try cases hb))
 iterate 1 (first|refine st ?_|(apply B<;>intro hb<;>try cases hb))
 refine ZgU hC True 4 [(4,.cp (ndP d)),(5,.cp (pbP t S)),(6,.ptr 0 0 0),(7,.ptr 1 0 0),(8,.ptr 2 0 0),(9,.ptr 3 0 0)] [(0,sBx (aftN d lo)),(1,sBx (aftN d hi)),(2,⟨1,[[.vec [] true]]⟩),(3,⟨1,[[.vec [] true]]⟩)] (by decide) ?_ (fun _=>?_)
 · by_cases h0 : 0 < d.af
   · cases hdr : d.dr
     · have e1 : ∀ x, aftN d x = x ||| 2 ^ d.af := fun x => by unfold aftN; rw [if_pos h0, hdr]; rfl
       refine gd 12 ⟨?_⟩;refine Z0 (Z1 (v:=true) rfl (decide_eq_true (by omega))) rfl rfl ?_;refine gd 15 ⟨?_⟩;refine Zl rfl ?_;refine Z0 (Z1 (v:=false) rfl hdr) rfl rfl ?_;refine gd 27 ⟨?_⟩;refine Z0 (Z1 (v:=true) rfl (decide_eq_true (by omega))) rfl rfl ?_;refine gd 31 ⟨?_⟩;refine Zy (Z3T lo hlo d.af haf) rfl rfl rfl (hp2 _ _) ?_;refine gd 35 ⟨?_⟩;refine Zy (Z3T hi hhi d.af haf) rfl rfl rfl (hp2 _ _) ?_;refine go ?_;exact⟨Yt,⟨⟨rfl,hni _⟩,⟨rfl,hpi _⟩,⟨rfl,show 0<4 by decide⟩,⟨rfl,show 1<4 by decide⟩,⟨rfl,show 2<4 by decide⟩,⟨rfl,show 3<4 by decide⟩,Yt⟩,⟨⟨by decide,by rw [e1]; rfl,Z2x _ _⟩,⟨by decide,by rw [e1]; rfl,Z2x _ _⟩,⟨by decide,rfl,⟨⟨Yt,Yt⟩,Yt⟩⟩,⟨by decide,rfl,⟨⟨Yt,Yt⟩,Yt⟩⟩,Yt⟩⟩
     · have e1 : ∀ x, aftN d x = minusN x (2 ^ d.af) := fun x => by unfold aftN; rw [if_pos h0, hdr]; rfl
       have w1:=Z1p lo hlo (d.af:Int);have w2:=Z1p hi hhi (d.af:Int);rw [Z2i hlo haf] at w1;rw [Z2i hhi haf] at w2;refine gd 12 ⟨?_⟩;refine Z0 (Z1 (v:=true) rfl (decide_eq_true (by omega))) rfl rfl ?_;refine gd 15 ⟨?_⟩;refine Zl rfl ?_;refine Z0 (Z1 (v:=true) rfl hdr) rfl rfl ?_;refine gd 20 ⟨?_⟩;refine Zy w1 rfl rfl rfl (hp2 _ _) ?_;refine gd 24 ⟨?_⟩;refine Zy w2 rfl rfl rfl (hp2 _ _) ?_;refine go ?_;exact⟨Yt,⟨⟨rfl,hni _⟩,⟨rfl,hpi _⟩,⟨rfl,show 0<4 by decide⟩,⟨rfl,show 1<4 by decide⟩,⟨rfl,show 2<4 by decide⟩,⟨rfl,show 3<4 by decide⟩,Yt⟩,⟨⟨by decide,by rw [e1]; rfl,Z2x _ _⟩,⟨by decide,by rw [e1]; rfl,Z2x _ _⟩,⟨by decide,rfl,⟨⟨Yt,Yt⟩,Yt⟩⟩,⟨by decide,rfl,⟨⟨Yt,Yt⟩,Yt⟩⟩,Yt⟩⟩
   · have e1 : ∀ x, aftN d x = x := fun x => by unfold aftN; rw [if_neg h0]
     refine gd 12 ⟨?_⟩;refine Z0 (Z1 (v:=false) rfl (Y0w (by omega))) rfl rfl ?_;refine gd 27 ⟨?_⟩;refine Z0 (Z1 (v:=false) rfl (Y0w (by omega))) rfl rfl ?_;refine go ?_;exact⟨Yt,⟨⟨rfl,hni _⟩,⟨rfl,hpi _⟩,⟨rfl,show 0<4 by decide⟩,⟨rfl,show 1<4 by decide⟩,⟨rfl,show 2<4 by decide⟩,⟨rfl,show 3<4 by decide⟩,Yt⟩,⟨⟨by decide,by rw [e1]; rfl,Z2x _ _⟩,⟨by decide,by rw [e1]; rfl,Z2x _ _⟩,⟨by decide,rfl,⟨⟨Yt,Yt⟩,Yt⟩⟩,⟨by decide,rfl,⟨⟨Yt,Yt⟩,Yt⟩⟩,Yt⟩⟩
 · cases hcl : d.cl
   · have e2 : ∀ x, bndN (clo t.l) d x = aftN d x := fun x => by unfold bndN; rw [hcl]; rfl
     rw [e2,e2];refine gd 37 ⟨?_⟩;refine Z0 (Z1 (v:=false) rfl hcl) rfl rfl ?_
     repeat' (first|refine Z2Z [] [(2,4)] [15,15,11,15] (by kernel_rfl) ?_|(first|refine st ?_|(apply B<;>intro hb<;>try cases hb)))
     exact Z5 rfl ⟨Z3 _,Z3 _,Yt⟩ rfl
   · have e2 : ∀ x, bndN (clo t.l) d x = clo t.l (aftN d x) := fun x => by unfold bndN; rw [hcl]; rfl
     rw [e2,e2];refine gd 37 ⟨?_⟩;refine Z0 (Z1 (v:=true) rfl hcl) rfl rfl ?_;refine gd 41 ⟨?_⟩;refine Zy (Z1G t.l S _ hal) rfl rfl rfl ⟨ZE _ _,Z3 _,Yt⟩ ?_;refine gd 45 ⟨?_⟩;refine Zy (Z1G t.l S _ hah) rfl rfl rfl ⟨ZE _ _,Z3 _,Yt⟩ ?_
     repeat' (first|refine Z2Z [] [(2,4)] [15,15,11,15] (by kernel_rfl) ?_|(first|refine st ?_|(apply B<;>intro hb<;>try cases hb)))
     exact Z5 rfl ⟨Z3 _,Z3 _,Yt⟩ rfl
def valT (cl:Nat→Nat) (d:ND) (lo hi:Nat):Nat :=
 if d.mu then min (2-someT d.no (bndN cl d lo) (bndN cl d hi)) (someT d.so (bndN cl d lo) (bndN cl d hi)) else 2-someT d.no (bndN cl d lo) (bndN cl d hi)
theorem ZaI (d:ND) (hd:NdOk d) (t:PB) (S:List Nat) (lo hi:Nat) (hlo:lo<18446744073709551616) (hhi:hi<18446744073709551616):Spec Tryz.prog 184 [.agg (ndP d),.agg (pbP t S),setN lo,setN hi] (· = .val (.int .u8 ((valT (clo t.l) d lo hi:Nat):Int))):=by
 refine Yp ok184 fun C hC=>?_;have hnp:=Z2j d;have hpp:=ZR t S;have hb:=ZaH d hd t S lo hi hlo hhi;have hbl:=ZeM hd.af t.l hlo;have hbh:=ZeM hd.af t.l hhi;have hn2:=ZbO d.no (bndN (clo t.l) d lo) (bndN (clo t.l) d hi);have hno:=Z9g d.no d.nf _ _ hd.no hd.nl hbl hbh;have hso:=Z9g d.so d.sf _ _ hd.so hd.sl hbl hbh;have hv:valT (clo t.l) d lo hi=if d.mu then min (2-someT d.no (bndN (clo t.l) d lo) (bndN (clo t.l) d hi)) (someT d.so (bndN (clo t.l) d lo) (bndN (clo t.l) d hi)) else 2-someT d.no (bndN (clo t.l) d lo) (bndN (clo t.l) d hi):=rfl
 generalize bndN (clo t.l) d lo=x at *;generalize bndN (clo t.l) d hi=y at *;refine gd 4 ⟨?_⟩;refine Z4 rfl rfl rfl ?_;refine Z4 rfl rfl rfl ?_;refine gd 15 ⟨?_⟩;refine Z6 hb rfl rfl rfl ⟨hnp,hpp,Z3 _,Z3 _,Yt⟩ rfl ?_;refine gd 22 ⟨?_⟩;refine Z6 hno rfl rfl rfl ⟨Za Zp _,Z3 _,Z3 _,Yt⟩ rfl ?_
 refine Z8 (v:=((2-someT d.no x y:Nat):Int)) rfl rfl rfl (by
  rw [show (2:Int)-((someT d.no x y:Nat):Int)=((2-someT d.no x y:Nat):Int) by omega]
  exact IntWalk.u8_in _ ⟨by omega,by omega⟩) ?_
 refine gd 25 ⟨?_⟩;cases hm:d.mu
 · refine Z0 (Z1 (v := false) rfl hm) rfl rfl ?_;rw [hm] at hv;rw [hv];refine go ?_;exact Z5 rfl Yt rfl
 · refine Z0 (Z1 (v := true) rfl hm) rfl rfl ?_;rw [hm] at hv;refine gd 31 ⟨?_⟩;refine Z6 hso rfl rfl rfl ⟨Za Zp _,Z3 _,Z3 _,Yt⟩ rfl ?_;refine Z8 (v:=((valT (clo t.l) d lo hi:Nat):Int)) rfl rfl rfl (by rw [hv,if_pos rfl]; split<;>omega) ?_;refine go ?_;exact Z5 rfl Yt rfl
end
section
open Go.RowKit
section
variable {P:Program} {C:Ctx} {Fr:Nat→Prop} {e:Env} {h:Heap} {n:Nat} {F:Froz} {φ:Locs} {a:Act} {w:World}
theorem ZeN {φ':Locs} {v:Value} {i i':Nat} (hi:φ i=φ' i') (hr:Rep F φ v (.own i)):Rep F φ' v (.own i'):=Z5Z F φ φ' v i i' hi hr
theorem Zd7 {F:Froz} {φ φ':Locs} {vs:Array Value} {pre post:List PV} {p p':PV} (hpre:pureL pre) (hpost:pureL post) (hp:∀ v,Rep F φ v p→Rep F φ' v p') (hv:RepL F φ vs (pre++p :: post)):RepL F φ' vs (pre++p' :: post):=by
 refine⟨by rw [hv.1]; simp,fun i hi=>?_⟩;have hr:=hv.2 i (by simp at hi ⊢; exact hi);by_cases h1:i<pre.length
 · have e1 : (pre ++ p :: post).getD i pvu = pre.getD i pvu := by simp [Y0b, List.getElem?_append_left h1]
   have e2:(pre++p' :: post).getD i pvu=pre.getD i pvu:=by simp [Y0b,List.getElem?_append_left h1]
   rw [e1] at hr; rw [e2];exact hr.pure (ZS hpre i)
 · have e1 : (pre ++ p :: post).getD i pvu = (p :: post).getD (i - pre.length) pvu := by simp [Y0b, List.getElem?_append_right (Nat.le_of_not_lt h1)]
   have e2:(pre++p' :: post).getD i pvu=(p' :: post).getD (i-pre.length) pvu:=by simp [Y0b,List.getElem?_append_right (Nat.le_of_not_lt h1)]
   rw [e1] at hr; rw [e2]
   match hk:i-pre.length,hr with
   | 0,hr=>exact hp _ hr
   | k+1,hr=>exact Rep.pure (p:=post.getD k pvu) hr (ZS hpost k)
end
end
section
open Go.RowKit
attribute [local irreducible] aw opsK dK
section
variable {P:Program} {e:Env} {h:Heap} {n:Nat}
theorem Zgx {k:Nat} {p q:PV} (hk:e k=some p) (hr:RenP (fun i=>i) (fun _=>False) p q):SubA n e h n (e.upd k q) h:=by
 rintro C a w ⟨F,φ,s⟩;refine⟨F,φ,{ s with env:=fun j r hq=>?_ }⟩;by_cases hj:j=k
 · subst hj;rw [Env.upd_same] at hq;cases hq;exact⟨(s.env j p hk).1,hr.rep (fun i x hd _=>hd.elim) (s.env j p hk).2⟩
 · rw [Env.upd_ne _ _ hj] at hq;exact s.env j r hq
end
theorem ZaJ (l:List Int) (N:Nat) (h:maskTo (topOf l) l=N) (fl:Bool):Spec Tryz.prog 17 [.vec (nums l) fl] (· = setN N):=h▸Za6 l fl
theorem Z3C:Small ([]:List Pr):=fun p hp=>by cases hp
theorem ZeO {a b:Nat} (h:Up [] a b):False:=by
 cases h with
 | one h=>cases h
 | more _ h=>cases h
theorem ZhJ {s m:Nat} (hs:s ||| mkN m=mkN m) (hm:m≤63):clo [] s=s:=by
 have hlt:s<18446744073709551616:=by
  have h1:s≤mkN m:=by rw [← hs]; exact Nat.left_le_or
  have:=Z6o hm;omega
 refine Nat.eq_of_testBit_eq fun i=>?_;rw [Bool.eq_iff_iff,Zhs Z3C hlt];constructor
 · rintro ⟨a, h1, h2, h3⟩;rcases (Z3w Z3C i a).1 h3 with h4|rfl
   · exact (ZeO h4).elim
   · exact h1
 · intro h1;have h2:=orSub.1 hs i h1;rw [Z2N,Y0k,Y0n] at h2;exact⟨i,h1,h2.1,(Z3w Z3C i i).2 (.inr rfl)⟩
def rsE:List RU := [⟨false,(0,0),1,0⟩,⟨false,(2,0),2,0⟩,⟨true,(0,0),1,0⟩]
def tE (nv:List Cu):PB:=⟨3,[],0,rsE,nv,[(4,2)]⟩
def t0:PB:=tE []
def t1:PB:=tE [(6,0)]
theorem ZhK (r:Nat):sen [] r=2 ^ r:=Nat.eq_of_testBit_eq fun a=>by
 rw [Bool.eq_iff_iff,Z3w Z3C,Nat.testBit_two_pow,Y0n];exact⟨fun h=>h.elim (fun h=>(ZeO h).elim) Eq.symm,fun h=>.inr h.symm⟩
def leastN (s:Nat):Nat:=((List.range 64).find? fun i=>s.testBit i).getD 0
theorem Z5i {s:Nat} (hs:s<18446744073709551616) (h:s≠0):s.testBit (leastN s)=true∧∀ i,i<leastN s→s.testBit i=false:=by
 obtain⟨i,hi⟩:=Nat.exists_testBit_of_ne_zero h;have hi64:=Z5t hs hi;unfold leastN;cases hf:(List.range 64).find? fun i=>s.testBit i with
 | none=>exact absurd hi (List.find?_eq_none.1 hf i (List.mem_range.2 hi64))
 | some k =>
   refine⟨List.find?_some hf,fun j hj=>?_⟩;have hj:j<k:=hj;have hk:=List.mem_range.1 (List.mem_of_find?_eq_some hf);obtain⟨h1,aa,bs,hab,hno⟩:=List.find?_eq_some_iff_append.1 hf;have hlen:aa.length=k:=by
    have h2:(List.range 64)[aa.length]?=some k:=by rw [hab]; simp
    have h3:aa.length<64:=by
     have:(List.range 64).length=aa.length+(1+bs.length):=by rw [hab]; simp; omega
     simp at this;omega
    rw [List.getElem?_range h3] at h2;exact Option.some.inj h2
   have hja:j∈aa:=by
    have h2:(List.range 64)[j]?=some j:=List.getElem?_range (by omega);rw [hab,List.getElem?_append_left (by omega)] at h2;exact List.mem_of_getElem? h2
   have:=hno j hja;simpa using this
theorem Z6B (s:Nat):leastN s<64:=by
 unfold leastN;cases hf:(List.range 64).find? fun i=>s.testBit i with
 | none=>exact Nat.zero_lt_succ _
 | some k=>exact List.mem_range.1 (List.mem_of_find?_eq_some hf)
theorem Zgy {x:Nat} (hx:x<18446744073709551616) (h:x≠0):tz x=leastN x:=by
 obtain⟨m,hm⟩:=Z4D h;obtain⟨h1,h2⟩:=Z5i hx h;have hb:∀ j,x.testBit j=(decide (tz x≤j)&&(2*m+1).testBit (j-tz x)):=fun j=>by
  conv=>lhs; rw [hm]
  rw [Nat.testBit_two_pow_mul]
 rcases Nat.lt_trichotomy (tz x) (leastN x) with h3|h3|h3
 · have := h2 _ h3;rw [hb,Nat.sub_self] at this;simp at this
 · exact h3
 · rw [hb, Y0w (by omega)] at h1;cases h1
theorem ZaK (N:Nat) (hN:N<18446744073709551616):Spec Tryz.prog 185 [setN N] (· = .tup [.val (.int .i64 ((if N=0 then 0 else leastN N:Nat):Int)),.val (.bool (decide (N≠0)))]):=by
 refine Yp ok185 fun C hC=>?_;by_cases h0:N=0
 · rw [if_pos h0, Y0w (fun h => h h0)];have hs:setN N=.agg [.vec [] false]:=by rw [h0]; exact ZeB
   rw [hs];refine gd 1 ⟨?_⟩;refine Z4 rfl rfl rfl ?_;refine go ?_;refine Zn hC (fun _:Unit=>True) (fun _=>0) 0 (fun _ => [(8,.val (.int .i64 0)),(9,.val (.int .i64 0))]) (fun _=>[]) (Y0l _) () Yt ⟨⟨rfl,Yt⟩,⟨rfl,Yt⟩,Yt⟩ Yt ?_;intro _ _;refine go ?_;exact Z5 rfl ⟨Yt,Yt,Yt⟩ rfl
 · rw [if_neg h0, decide_eq_true h0];have hs:setN N=.agg [.vec [[.val (.int .u64 (N:Int))]] false]:=by unfold setN; rw [Z5M hN h0]; rfl
   have htz:=Ze4 N hN h0;rw [Zgy hN h0] at htz;have hlo:=Z6B N;rw [hs];refine gd 1 ⟨?_⟩;refine Z4 rfl rfl rfl ?_;refine go ?_;refine Zn hC (fun _:Unit=>True) (fun _=>0) 0 (fun _ => [(7,.vec [[.val (.int .u64 (N:Int))]] false),(8,.val (.int .i64 1)),(9,.val (.int .i64 0))]) (fun _=>[]) (Y0l _) () Yt ⟨⟨rfl,⟨Yt,Yt⟩,Yt⟩,⟨rfl,Yt⟩,⟨rfl,Yt⟩,Yt⟩ Yt ?_;intro _ _;refine gd 15 ⟨?_⟩;refine Z0 (Z1 (v:=true) rfl (bne_iff_ne.2 (by omega))) rfl rfl ?_;refine gd 19 ⟨?_⟩;refine Z6 htz rfl rfl rfl ⟨Yt,Yt⟩ rfl ?_
   refine Z8 (v:=((leastN N:Nat):Int)) rfl rfl rfl (by
    rw [show IntKind.i64.wrap ((64:Int)*0)=0 by decide,Int.zero_add]
    exact Y0v _ ⟨by omega,by omega⟩) ?_
   refine go ?_;exact Z5 rfl ⟨Yt,Yt,Yt⟩ rfl
def mOf (d:ND):Nat:=mentC d.so ||| mentC d.no
def relS (sn:Nat→Nat) (d:ND) (o:Nat) (l:List Nat):Nat:=l.foldl (fun o r=>if d.cl then o ||| sn r else o) o
def relT (sn:Nat→Nat) (ds:List ND):Nat:=ds.foldl (fun o d=>relS sn d (o ||| mOf d) (mem (mOf d))) 0
theorem ZaL {sn:Nat→Nat} (hsn:∀ r,r<64→sn r<18446744073709551616) (d:ND):∀ (l:List Nat) (o:Nat),(∀ r∈l,r<64)→o<18446744073709551616→relS sn d o l<18446744073709551616
 | [],o,_,h=>h
 | r :: l, o, hl, h => by
   refine ZaL hsn d l _ (fun r hr=>hl r (List.mem_cons_of_mem _ hr)) ?_;show (if d.cl then o ||| sn r else o)<_
   split
   · exact Z1U h (hsn r (hl r (Y0t ..)))
   · exact h
theorem ZeP {sn:Nat→Nat} {ds:List ND} {i:Nat} (hi:i<ds.length):relT sn (ds.take (i+1))=relS sn ds[i] (relT sn (ds.take i) ||| mOf ds[i]) (mem (mOf ds[i])):=by
 unfold relT;rw [List.take_succ_eq_append_getElem hi,List.foldl_append]
 rfl
structure NdZ (d:ND):Prop extends NdOk d where
 z:(mOf d).testBit 0=false
theorem ZeQ {d:ND} (h:NdOk d):mOf d<18446744073709551616:=Z1U (Z3U h.so) (Z3U h.no)
theorem Z8p {sn:Nat→Nat} (hsn:∀ r,r<64→sn r<18446744073709551616):∀ (ds:List ND) (o:Nat),(∀ d∈ds,NdOk d)→o<18446744073709551616→ds.foldl (fun o d=>relS sn d (o ||| mOf d) (mem (mOf d))) o<18446744073709551616
 | [],o,_,h=>h
 | d :: ds,o,hd,h=>Z8p hsn ds _ (fun d hd'=>hd d (List.mem_cons_of_mem _ hd')) (ZaL hsn d _ _ (fun r hr=>Z6a hr) (Z1U h (ZeQ (hd d (Y0t ..)))))
theorem Z8q (t:PB) (hsm:Small t.l) (S:List Nat) (ds:List ND) (fl:Bool) (hds:∀ d∈ds,NdZ d) (hdl:ds.length<900000):Spec Tryz.prog 160 [.agg (pbP t S),.vec (ds.map ndP) fl] (· = setN (relT (sen t.l) ds)):=by
 refine Yp ok160 fun C hC=>?_;have hpp:=ZR t S;have hml:(ds.map ndP).length=ds.length:=Y0f ..;have hdp:pureLL (ds.map ndP):=Za Z2j ds;have hsn:∀ r,r<64→sen t.l r<18446744073709551616:=fun r hr=>Zes t.l hsm hr;refine gd 2 ⟨?_⟩;refine Z4 rfl rfl rfl ?_;refine go ?_;refine ZJ hC (fun i=>i≤ds.length) (fun i=>ds.length-i) 2 (fun i => [(2,.cp (pbP t S)),(4,.ptr 0 0 0),(5,.ptr 1 0 0),(10,.vec (ds.map ndP) fl),(11,.val (.int .i64 (ds.length:Int))),(12,Yv i)]) (fun i => [(0,⟨1,[[.vec [] true]]⟩),(1,sBx (relT (sen t.l) (ds.take i)))]) (by decide) 0 (Y0l _)
  (fun i=>i) (fun _ _=>rfl) (Zw rfl) ⟨⟨_,rfl,.pure _ hpp⟩,⟨_,rfl,.ptr 0 0 0 (by decide)⟩,⟨_,rfl,.ptr 1 0 0 (by decide)⟩,⟨_,rfl,.pure _ hdp⟩,⟨_,by rw [← hml]; rfl,.pure _ Yt⟩,⟨_,rfl,.pure _ Yt⟩,Yt⟩
  ⟨⟨by decide,_,rfl,.same _ ⟨⟨Yt,Yt⟩,Yt⟩⟩,⟨by decide,⟨1,[[.vec [] true]]⟩,rfl,by rw [show relT (sen t.l) (ds.take 0)=0 from rfl]; show RenB _ _ _ ⟨1,[[.vec (words (digs 0)) false]]⟩; rw [ZT]; exact RenB.single (ρ:=fun i=>i) (l0 := [.vec [] true]) (l := [.vec [] false]) (show RenLs _ _ [_] [_] from ⟨.low (.vec [] true) Yt,Yt⟩) rfl⟩,Yt⟩ ?_
 intro i hi;have hinc:IntKind.i64.wrap ((i:Int)+1)=((i+1:Nat):Int):=Y0v _ ⟨by omega,by omega⟩;have hrl:relT (sen t.l) (ds.take i)<18446744073709551616:=Z8p hsn _ 0 (fun d hd=>(hds d (List.mem_of_mem_take hd)).toNdOk) (by decide);refine gd 13 ⟨?_⟩;by_cases hil:i<ds.length
 · refine Z0 (Z1 (v := true) rfl (decide_eq_true (by omega))) rfl rfl ?_;have hd:=hds ds[i] (Y0j hil);have hst:=ZeP (sn:=sen t.l) hil;refine gd 14 ⟨?_⟩;refine Z0 (Zo (xs:=ds) (g:=ndP) rfl rfl i rfl hil rfl) rfl rfl ?_;generalize ds[i]=d at hd hst;have hmo:=ZeQ hd.toNdOk;generalize relT (sen t.l) (ds.take i)=o at hrl hst;have hom:=Z1U hrl hmo;refine gd 18 ⟨?_⟩;refine Zy (Z2v d.so d.sf hd.so) rfl rfl rfl ⟨Za Zp _,Yt⟩ ?_;refine gd 21 ⟨?_⟩;refine Zy (Z2v d.no d.nf hd.no) rfl rfl rfl ⟨Za Zp _,Yt⟩ ?_;refine Zy (Z1Y _ _ (Z3U hd.so) (Z3U hd.no)) rfl rfl rfl ⟨Z3 _,Z3 _,Yt⟩ ?_;change dK _ _ _ _ (updO _ _ (setN (mOf d))) _ _;have hzz:=hd.z;generalize hMM:mOf d=M at hmo hst hom hzz;refine gd 25 ⟨?_⟩;refine Z6 (Z1Y o M hrl hmo) rfl rfl rfl ⟨Z3 _,Z3 _,Yt⟩ rfl ?_;refine gd 27 ⟨?_⟩;refine Z6 (Z58 M) rfl rfl rfl ⟨Z3 _,Yt⟩ rfl ?_;refine go ?_;have hnp:=Z2j d;have hni:∀ D,innL D (ndP d):=fun D=>Zm (fun _ h=>h.elim) _ hnp;have hpi:∀ D,innL D (pbP t S):=fun D=>Zm (fun _ h=>h.elim) _ hpp;have hdi:∀ D,innLL D (ds.map ndP):=fun D=>Z9 (fun _ h=>h.elim) _ hdp
   have hpos:∀ r∈mem M,1≤r∧r<64:=fun r hr=>⟨by
    rcases Nat.eq_zero_or_pos r with h|h
    · rw [h,Z37 hmo] at hr; rw [hr] at hzz; cases hzz
    · exact h,Z6a hr⟩
   refine Z7W (X:=List Nat) hC (caps := [.cp [.vec (words (digs M)) false]]) [(2,.cp (pbP t S)),(4,.ptr 0 0 0),(5,.ptr 1 0 0),(7,.ptr 2 0 0),(10,.vec (ds.map ndP) fl),(11,.val (.int .i64 (ds.length:Int))),(12,Yv i),(27,.fn 128 [.cp [.vec (words (digs M)) false]])]
    (fun z => [(0,⟨1,[[.vec [] true]]⟩),(1,sBx (relS (sen t.l) d (o ||| M) z)),(2,⟨6,[ndP d]⟩)]) rfl ⟨⟨Zk _,Yt⟩,Yt⟩ (Z7Y M hmo) (fun _=>rfl)
    (fun ex pre z=>ex=.normal∧z=pre.map (·.val)) 3 (by decide) [] ⟨rfl,rfl⟩
    (Z4v hC (by decide) ⟨⟨rfl,hpi _⟩,⟨rfl,show 0<3 by decide⟩,⟨rfl,show 1<3 by decide⟩,⟨rfl,show 2<3 by decide⟩,⟨rfl,hdi _⟩,⟨rfl,Yt⟩,⟨rfl,Yt⟩,⟨rfl,⟨ZU _ _,Yt⟩,Yt⟩,Yt⟩ ⟨⟨by decide,rfl,⟨⟨Yt,Yt⟩,Yt⟩⟩,⟨by decide,rfl,Z2x _ _⟩,⟨by decide,rfl,hni _,Yt⟩,Yt⟩)
    (fun z q hq=>by simp at hq; rcases hq with rfl|rfl|rfl<;>exact Nat.zero_lt_succ _) _ (fun x=>rfl) ?_ ?_ ?_
   · rintro C2 hC2 pre x z ⟨-, rfl⟩ hlen;have hx:=hpos x.val x.2;have hstp:relS (sen t.l) d (o ||| M) (pre.map (·.val) ++ [x.val])=if d.cl then relS (sen t.l) d (o ||| M) (pre.map (·.val)) ||| sen t.l x.val else relS (sen t.l) d (o ||| M) (pre.map (·.val)):=by unfold relS; rw [List.foldl_append]; rfl
     have hz:=ZaL hsn d (pre.map (·.val)) _ (fun r hr=>by obtain⟨y,_,rfl⟩:=Y0i.1 hr; exact (hpos _ y.2).2) hom;refine gd 30 ⟨?_⟩;cases hcl:d.cl
     · rw [hcl, if_neg (by decide)] at hstp;refine Z0 (Z1 (v:=false) rfl hcl) rfl rfl ?_;refine go ?_
       exact⟨.inl rfl,pre.map (·.val) ++ [x.val],fun i=>i,⟨rfl,by rw [Y0r]; rfl⟩,fun i hi=>rfl,Zu,
        ⟨⟨_,rfl,.pure _ hpp⟩,⟨_,rfl,.ptr (ρ:=fun i=>i) 0 0 0 (by decide)⟩,⟨_,rfl,.ptr (ρ:=fun i=>i) 1 0 0 (by decide)⟩,⟨_,rfl,.ptr (ρ:=fun i=>i) 2 0 0 (by decide)⟩,⟨_,rfl,.pure _ hdp⟩,⟨_,rfl,.pure _ Yt⟩,⟨_,rfl,.pure _ Yt⟩,⟨_,rfl,.pure _ ⟨⟨Zk _,Yt⟩,Yt⟩⟩,Yt⟩,
        ⟨⟨by decide,_,rfl,.same _ ⟨⟨Yt,Yt⟩,Yt⟩⟩,⟨by decide,_,rfl,by rw [hstp]; exact .same _ ⟨⟨Zk _,Yt⟩,Yt⟩⟩,⟨by decide,_,rfl,.same _ ⟨hnp,Yt⟩⟩,Yt⟩⟩
     · rw [hcl, if_pos rfl] at hstp;refine Z0 (Z1 (v:=true) rfl hcl) rfl rfl ?_;refine gd 35 ⟨?_⟩;refine Zy (Z95 t.l S x.val hx.1 hx.2) rfl rfl rfl ⟨ZE _ _,Yt,Yt⟩ ?_;refine Zy (Z1Y _ _ hz (hsn _ hx.2)) rfl rfl rfl ⟨Z3 _,Z3 _,Yt⟩ ?_;rw [← hstp];refine go ?_
       exact⟨.inl rfl,pre.map (·.val) ++ [x.val],fun i=>i,⟨rfl,by rw [Y0r]; rfl⟩,fun i hi=>rfl,Zu,
        ⟨⟨_,rfl,.pure _ hpp⟩,⟨_,rfl,.ptr (ρ:=fun i=>i) 0 0 0 (by decide)⟩,⟨_,rfl,.ptr (ρ:=fun i=>i) 1 0 0 (by decide)⟩,⟨_,rfl,.ptr (ρ:=fun i=>i) 2 0 0 (by decide)⟩,⟨_,rfl,.pure _ hdp⟩,⟨_,rfl,.pure _ Yt⟩,⟨_,rfl,.pure _ Yt⟩,⟨_,rfl,.pure _ ⟨⟨Zk _,Yt⟩,Yt⟩⟩,Yt⟩,
        ⟨⟨by decide,_,rfl,.same _ ⟨⟨Yt,Yt⟩,Yt⟩⟩,⟨by decide,_,rfl,.same _ ⟨⟨Zk _,Yt⟩,Yt⟩⟩,⟨by decide,_,rfl,.same _ ⟨hnp,Yt⟩⟩,Yt⟩⟩
   · rintro xs z hxs ⟨-, rfl⟩;rw [hxs];refine go ?_
     exact⟨i+1,fun i=>i,by omega,by omega,fun _ _=>rfl,Zu,⟨⟨_,rfl,.pure _ hpp⟩,⟨_,rfl,.ptr (ρ:=fun i=>i) 0 0 0 (by decide)⟩,⟨_,rfl,.ptr (ρ:=fun i=>i) 1 0 0 (by decide)⟩,⟨_,rfl,.pure _ hdp⟩,⟨_,rfl,.pure _ Yt⟩,⟨_,by show some _=some _; rw [hinc],.pure _ Yt⟩,Yt⟩,
      ⟨⟨by decide,_,rfl,.same _ ⟨⟨Yt,Yt⟩,Yt⟩⟩,⟨by decide,_,rfl,by rw [hst]; exact .same _ ⟨⟨Zk _,Yt⟩,Yt⟩⟩,Yt⟩⟩
   · rintro ex pre z - ⟨rfl,_⟩ (h|⟨id,h⟩)<;>cases h
 · obtain rfl : i = ds.length := by omega
   refine Z0 (Z1 (v:=false) rfl (Y0w (by omega))) rfl rfl ?_;rw [Y0q];refine go ?_;exact Z5 rfl (Z3 _) rfl
def minT (cl:Nat→Nat) (ds:List ND) (lo hi:Nat):Nat:=ds.foldl (fun a d=>min a (valT cl d lo hi)) 2
theorem ZeR {cl:Nat→Nat} {ds:List ND} {i:Nat} (hi:i<ds.length) (lo hh:Nat):minT cl (ds.take (i+1)) lo hh=min (minT cl (ds.take i) lo hh) (valT cl ds[i] lo hh):=by
 unfold minT;rw [List.take_succ_eq_append_getElem hi,List.foldl_append]
 rfl
theorem Z5y (cl:Nat→Nat) (lo hi:Nat):∀ (ds:List ND) (a:Nat),a≤2→ds.foldl (fun a d=>min a (valT cl d lo hi)) a≤2
 | [],a,h=>h
 | d :: ds,a,h=>Z5y cl lo hi ds _ (Y03 (Nat.min_le_left ..) h)
theorem ZhL (cl:Nat→Nat) (ds:List ND) (lo hi:Nat):minT cl ds lo hi≤2:=Z5y cl lo hi ds 2 (Y0m _)
def tryT (cl:Nat→Nat) (ds:List ND):Nat→Nat→Nat→Option Nat
 | 0,_,_=>none
 | f + 1, left, s =>
   if minT cl ds s (s ||| left)=2 then some s else if minT cl ds s (s ||| left)=0 then none else if left=0 then none else
    match tryT cl ds f (minusN left (2 ^ leastN left)) s with
    | some o=>some o
    | none=>tryT cl ds f (minusN left (2 ^ leastN left)) (s ||| 2 ^ leastN left)
def resO:Option Nat→PV
 | some o=>.tup [setN o,.val (.bool true)]
 | none=>.tup [setN 0,.val (.bool false)]
theorem Z3e:PV.tup [.agg [.vec [] false],.val (.bool false)]=resO none:=by
 show _=PV.tup [setN 0,.val (.bool false)];rw [ZeB]
def SetQ (q:PV) (s:Nat):Prop:=q=setN s ∨ (s=0∧q=.agg [.vec [] true])
theorem SetQ.ren {q:PV} {s:Nat} (h:SetQ q s):RenP (fun i=>i) (fun _=>False) q (setN s):=by
 rcases h with rfl|⟨rfl,rfl⟩
 · exact .pure _ (Z3 _)
 · rw [ZeB]; exact .low (.agg [.vec [] true]) ⟨Yt,Yt⟩
def TryOk (t:PB) (S:List Nat) (ds:List ND) (fl:Bool) (f:Nat):Prop:=∀ (left s:Nat) (q:PV),SetQ q s→left<18446744073709551616→s<18446744073709551616→(∀ i,left.testBit i=true→64≤i+f)→Spec Tryz.prog 159 [.agg (pbP t S),.vec (ds.map ndP) fl,setN left,q] (· = resO (tryT (clo t.l) ds (f+1) left s))
theorem ZbP (t:PB) (S:List Nat) (ds:List ND) (fl:Bool) (hds:∀ d∈ds,NdOk d) (hdl:ds.length<900000) (f:Nat) (ih:∀ f',f=f'+1→TryOk t S ds fl f'):TryOk t S ds fl f:=by
 intro left s q hq hl hs hf;have hT:tryT (clo t.l) ds (f+1) left s=if minT (clo t.l) ds s (s ||| left)=2 then some s else if minT (clo t.l) ds s (s ||| left)=0 then none else if left=0 then none else
  match tryT (clo t.l) ds f (minusN left (2 ^ leastN left)) s with
  | some o=>some o
  | none=>tryT (clo t.l) ds f (minusN left (2 ^ leastN left)) (s ||| 2 ^ leastN left):=rfl
 have hpp:=ZR t S;have hdp:pureLL (ds.map ndP):=Za Z2j ds;have hml:(ds.map ndP).length=ds.length:=Y0f ..;have hpi:∀ D,innL D (pbP t S):=fun D=>Zm (fun _ h=>h.elim) _ hpp;have hdi:∀ D,innLL D (ds.map ndP):=fun D=>Z9 (fun _ h=>h.elim) _ hdp;have hor:=Z1U hs hl;have hmin:=ZhL (clo t.l) ds s (s ||| left);refine Yp ok159 fun C hC=>?_;refine Z22 (Zgx (k:=3) rfl hq.ren _) ?_;refine gd 4 ⟨?_⟩;refine Z4 rfl rfl rfl ?_;refine Z4 rfl rfl rfl ?_;refine Z4 rfl rfl rfl ?_;refine go ?_;refine Zn hC (fun i=>i≤ds.length) (fun i=>ds.length-i) 1 (fun i => [(1,.vec (ds.map ndP) fl),(4,.cp (pbP t S)),(6,.cp [.vec (words (digs left)) false]),(7,.cp [.vec (words (digs s)) false]),(8,.ptr 0 0 0),(10,.val (.int .u8 ((minT (clo t.l) (ds.take i) s (s ||| left):Nat):Int))),(17,.vec (ds.map ndP) fl),(18,.val (.int .i64 (ds.length:Int))),(19,Yv i)]) (fun _ => [(0,⟨1,[[.vec [] true]]⟩)]) (by decide) 0 (Y0l _)
  ⟨⟨rfl,hdi _⟩,⟨rfl,hpi _⟩,⟨rfl,ZU _ _,Yt⟩,⟨rfl,ZU _ _,Yt⟩,⟨rfl,show 0<1 by decide⟩,⟨rfl,Yt⟩,⟨rfl,hdi _⟩,⟨by rw [← hml]; rfl,Yt⟩,⟨rfl,Yt⟩,Yt⟩ ⟨⟨by decide,rfl,⟨⟨Yt,Yt⟩,Yt⟩⟩,Yt⟩ ?_
 intro i hi;have hinc:IntKind.i64.wrap ((i:Int)+1)=((i+1:Nat):Int):=Y0v _ ⟨by omega,by omega⟩;refine gd 20 ⟨?_⟩;by_cases hil:i<ds.length
 · refine Z0 (Z1 (v := true) rfl (decide_eq_true (by omega))) rfl rfl ?_;have hd:=hds ds[i] (Y0j hil);have hst:=ZeR (cl:=clo t.l) hil s (s ||| left);refine gd 21 ⟨?_⟩;refine Z0 (Zo (xs:=ds) (g:=ndP) rfl rfl i rfl hil rfl) rfl rfl ?_;generalize ds[i]=d at hd hst;refine gd 29 ⟨?_⟩;refine Zy (Z1Y s left hs hl) rfl rfl rfl ⟨Z3 _,Z3 _,Yt⟩ ?_;refine Zy (ZaI d hd t S s (s ||| left) hs hor) rfl rfl rfl ⟨Z2j d,hpp,Z3 _,Z3 _,Yt⟩ ?_;refine Ze (ZY (v:=((minT (clo t.l) (ds.take (i+1)) s (s ||| left):Nat):Int)) rfl (by rw [hst]; split<;>omega)) rfl rfl ?_;refine go ?_;exact⟨i+1,by omega,by omega,⟨⟨rfl,hdi _⟩,⟨rfl,hpi _⟩,⟨rfl,ZU _ _,Yt⟩,⟨rfl,ZU _ _,Yt⟩,⟨rfl,show 0<1 by decide⟩,⟨rfl,Yt⟩,⟨rfl,hdi _⟩,⟨rfl,Yt⟩,⟨by show some _=some _; rw [hinc],Yt⟩,Yt⟩,⟨⟨by decide,rfl,⟨⟨Yt,Yt⟩,Yt⟩⟩,Yt⟩⟩
 · obtain rfl : i = ds.length := by omega
   refine Z0 (Z1 (v:=false) rfl (Y0w (by omega))) rfl rfl ?_;rw [Y0q];generalize minT (clo t.l) ds s (s ||| left)=a at hmin hT;refine gd 34 ⟨?_⟩;by_cases ha2:a=2
   · rw [if_pos ha2] at hT;rw [hT];refine Z0 (Z1 (v:=true) rfl (decide_eq_true (by rw [ha2]; rfl))) rfl rfl ?_;refine go ?_;exact Z5 rfl ⟨Z3 _,Yt,Yt⟩ rfl
   rw [if_neg ha2] at hT;refine Z0 (Z1 (v:=false) rfl (Y0w (by omega))) rfl rfl ?_;refine gd 37 ⟨?_⟩;by_cases ha0:a=0
   · rw [if_pos ha0] at hT;rw [hT];refine Z0 (Z1 (v:=true) rfl (decide_eq_true (by rw [ha0]; rfl))) rfl rfl ?_;refine go ?_;exact Z1y (r:=.tup [.agg [.vec [] true],.val (.bool false)]) rfl ⟨⟨Yt,Yt⟩,Yt,Yt⟩ Z3e
   rw [if_neg ha0] at hT;refine Z0 (Z1 (v:=false) rfl (Y0w (by omega))) rfl rfl ?_;refine gd 41 ⟨?_⟩;refine Z6 (ZaK left hl) rfl rfl rfl ⟨Z3 _,Yt⟩ rfl ?_;by_cases hl0:left=0
   · rw [if_pos hl0] at hT;rw [hT,Y0w (fun h=>h hl0)];refine go ?_;exact Z1y (r:=.tup [.agg [.vec [] true],.val (.bool false)]) rfl ⟨⟨Yt,Yt⟩,Yt,Yt⟩ Z3e
   rw [if_neg hl0] at hT;rw [if_neg hl0,decide_eq_true hl0];have hlb:=Z5i hl hl0;have hl64:=Z6B left;have hf1:=hf _ hlb.1;obtain⟨f',rfl⟩:∃ f',f=f'+1:=⟨f-1,by omega⟩
   have hm:=Z5h left (2 ^ leastN left);have hbits:∀ i,(minusN left (2 ^ leastN left)).testBit i=true→64≤i+f':=fun i hi=>by
    rw [ZA hl (ZG hl64),Nat.testBit_two_pow] at hi;simp only [Y0k,Bool.not_eq_true',decide_eq_false_iff_not] at hi;have h1:leastN left<i:=by
     rcases Nat.lt_trichotomy i (leastN left) with h|h|h
     · rw [hlb.2 i h] at hi; cases hi.1
     · exact absurd h.symm hi.2
     · exact h
    omega
   have hwo:=Z1p left hl (leastN left:Int);rw [Z2i hl hl64] at hwo;have hml':minusN left (2 ^ leastN left)<18446744073709551616:=by omega
   have ih1:=ih f' rfl _ s (setN s) (.inl rfl) hml' hs hbits;have hw:=Z3T s hs (leastN left) hl64;have hsw:=Z1U hs (ZG hl64);have ih2:=ih f' rfl _ (s ||| 2 ^ leastN left) (setN (s ||| 2 ^ leastN left)) (.inl rfl) hml' hsw hbits;generalize minusN left (2 ^ leastN left)=left' at hwo ih1 ih2 hT hml';refine gd 52 ⟨?_⟩;refine Zy hwo rfl rfl rfl ⟨Z3 _,Yt,Yt⟩ ?_;refine gd 54 ⟨?_⟩;refine Zy ih1 rfl rfl rfl ⟨hpp,hdp,Z3 _,Z3 _,Yt⟩ ?_;cases h1:tryT (clo t.l) ds (f'+1) left' s with
   | some o =>
     rw [h1] at hT;rw [hT];show dK _ _ _ _ (updO _ _ (.tup [setN o,.val (.bool true)])) _ _;refine go ?_;exact Z5 rfl ⟨Z3 _,Yt,Yt⟩ rfl
   | none =>
     rw [h1] at hT;rw [hT];show dK _ _ _ _ (updO _ _ (.tup [setN 0,.val (.bool false)])) _ _;refine gd 63 ⟨?_⟩;refine Zy hwo rfl rfl rfl ⟨Z3 _,Yt,Yt⟩ ?_;refine gd 66 ⟨?_⟩;refine Zy hw rfl rfl rfl ⟨Z3 _,Yt,Yt⟩ ?_;refine Zy ih2 rfl rfl rfl ⟨hpp,hdp,Z3 _,Z3 _,Yt⟩ ?_;cases h2:tryT (clo t.l) ds (f'+1) left' (s ||| 2 ^ leastN left) with
     | some o =>
       show dK _ _ _ _ (updO _ _ (.tup [setN o,.val (.bool true)])) _ _;refine go ?_;exact Z5 rfl ⟨Z3 _,Yt,Yt⟩ rfl
     | none =>
       show dK _ _ _ _ (updO _ _ (.tup [setN 0,.val (.bool false)])) _ _;refine go ?_;exact Z5 rfl ⟨Z3 _,Yt,Yt⟩ rfl
theorem ZbQ (t:PB) (S:List Nat) (ds:List ND) (fl:Bool) (hds:∀ d∈ds,NdOk d) (hdl:ds.length<900000):∀ f,TryOk t S ds fl f
 | 0=>ZbP t S ds fl hds hdl 0 fun f' h=>by omega
 | f + 1 => ZbP t S ds fl hds hdl (f + 1) fun f' h => by
   cases h;exact ZbQ t S ds fl hds hdl f
def solveT (cl sn:Nat→Nat) (n:Nat) (ds:List ND):Option Nat:=tryT cl ds 65 (relT sn ds &&& (2 ^ (n+1)-1)) 0
theorem Z7v (t:PB) (hn:t.n≤63) (hsm:Small t.l) (S:List Nat) (ds:List ND) (fl:Bool) (hds:∀ d∈ds,NdZ d) (hdl:ds.length<900000):Spec Tryz.prog 126 [.agg (pbP t S),.vec (ds.map ndP) fl] (· = resO (solveT (clo t.l) (sen t.l) t.n ds)):=by
 refine Yp ok126 fun C hC=>?_;have hpp:=ZR t S;have hdp:pureLL (ds.map ndP):=Za Z2j ds;have hsn:∀ r,r<64→sen t.l r<18446744073709551616:=fun r hr=>Zes t.l hsm hr;have hrl:relT (sen t.l) ds<18446744073709551616:=Z8p hsn ds 0 (fun d hd=>(hds d hd).toNdOk) (by decide);have hbn:2 ^ (t.n+1)-1<18446744073709551616:=by
  have:2 ^ (t.n+1)≤2 ^ 64:=Nat.pow_le_pow_right (by decide) (by omega);omega
 have hal:relT (sen t.l) ds &&& (2 ^ (t.n+1)-1)<18446744073709551616:=Y02 Nat.and_le_left hrl;have htry:=ZbQ t S ds fl (fun d hd=>(hds d hd).toNdOk) hdl 64 (relT (sen t.l) ds &&& (2 ^ (t.n+1)-1)) 0 (.agg [.vec [] true]) (.inr ⟨rfl,rfl⟩) hal (by decide) (fun i _=>by omega);change Spec _ _ _ (· = resO (solveT (clo t.l) (sen t.l) t.n ds)) at htry;generalize solveT (clo t.l) (sen t.l) t.n ds=res at htry;refine gd 2 ⟨?_⟩;refine Z4 rfl rfl rfl ?_;refine gd 10 ⟨?_⟩;refine Zy (Z8q t hsm S ds fl hds hdl) rfl rfl rfl ⟨hpp,hdp,Yt⟩ ?_;refine gd 13 ⟨?_⟩;refine Ze (ZY (v:=((t.n+1:Nat):Int)) rfl (Y0v _ ⟨by omega,by omega⟩)) rfl rfl ?_;refine Zy (Z3V (t.n+1) (by omega) (by omega)) rfl rfl rfl ⟨Yt,Yt⟩ ?_;refine Zy (Zex _ _ hrl hbn) rfl rfl rfl ⟨Z3 _,Z3 _,Yt⟩ ?_;refine gd 17 ⟨?_⟩;refine Zy htry rfl rfl rfl ⟨hpp,hdp,Z3 _,⟨Yt,Yt⟩,Yt⟩ ?_;cases res with
 | some o =>
   show dK _ _ _ _ (updO _ _ (.tup [setN o,.val (.bool true)])) _ _;refine go ?_;exact Z5 rfl ⟨Z3 _,Yt,Yt⟩ rfl
 | none =>
   show dK _ _ _ _ (updO _ _ (.tup [setN 0,.val (.bool false)])) _ _;refine go ?_;exact Z5 rfl ⟨Z3 _,Yt,Yt⟩ rfl
theorem Zd8 {t:PB} (hnv:∀ c∈t.nv,Ok64 c) (S:List Nat) (s:Nat) (hs:s<18446744073709551616):Spec Tryz.prog 88 [.agg (pbP t S),setN s] (· = .val (.bool (goodB t s))):=by
 refine Yp ok88 fun C hC=>?_;have hclo:=Z1G t.l S s hs;have hso:=Z5b t.nv false (clo t.l s) hnv (Z4M _ _);refine gd 2 ⟨?_⟩;refine Z4 rfl rfl rfl ?_;refine Z4 rfl rfl rfl ?_;refine gd 14 ⟨?_⟩;refine Z2J rfl ?_;refine Zy hclo rfl rfl rfl ⟨ZE _ _,Z3 _,Yt⟩ ?_;refine Z2J rfl ?_;refine Zy hso rfl rfl rfl ⟨Za Zp _,Z3 _,Yt⟩ ?_;show dK _ _ _ _ (updO _ _ (.val (.bool (soC t.nv (clo t.l s))))) _ _;unfold goodB;cases soC t.nv (clo t.l s)
 · refine go ?_;exact Z5 rfl Yt rfl
 · refine go ?_;exact Z5 rfl Yt rfl
noncomputable def jstep (t:PB) (s:Nat) (k:Int):Option Nat:=if 0≤k then (match t.rs[k.toNat]? with|some r=>if stepR t r s then some (nextR r s) else none|none=>none) else none
theorem Zd9 {t:PB} (h:PbOk t) (S:List Nat) (s:Nat) (hs:s<18446744073709551616) (k:Int):Spec Tryz.prog 39 [.agg (pbP t S),setN s,.val (.int .i64 k)] (· = resO (jstep t s k)):=by
 have hpp:=ZR t S;have hrl:(t.rs.map ruP).length=t.rs.length:=by simp
 refine Yp ok39 fun C hC=>?_;by_cases h0:k<0
 · have e1 : jstep t s k = none := by unfold jstep; rw [if_neg (by omega)]
   rw [e1];refine gd 3 ⟨?_⟩;refine Z4 rfl rfl rfl ?_;refine Z4 rfl rfl rfl ?_;refine gd 15 ⟨?_⟩;refine Zl rfl ?_;refine Z0 (Z1 (v:=true) rfl (decide_eq_true (by omega))) rfl rfl ?_;refine go ?_;exact Z1y (r:=.tup [.agg [.vec [] true],.val (.bool false)]) rfl ⟨⟨Yt,Yt⟩,Yt,Yt⟩ Z3e
 by_cases h1:(t.rs.length:Int)≤k
 · have e1 : jstep t s k = none := by unfold jstep; rw [if_pos (by omega), List.getElem?_eq_none (by omega)]
   rw [e1];refine gd 3 ⟨?_⟩;refine Z4 rfl rfl rfl ?_;refine Z4 rfl rfl rfl ?_;refine gd 15 ⟨?_⟩;refine Zl rfl ?_;refine Z0 (Z1 (v:=false) rfl (Y0w (by omega))) rfl rfl ?_;refine gd 22 ⟨?_⟩;refine Zl rfl ?_;refine Z0 (Z1 (v:=true) rfl (decide_eq_true (by rw [hrl];omega))) rfl rfl ?_;refine go ?_;exact Z1y (r:=.tup [.agg [.vec [] true],.val (.bool false)]) rfl ⟨⟨Yt,Yt⟩,Yt,Yt⟩ Z3e
 obtain⟨j,rfl⟩:∃ j:Nat,k=(j:Int):=⟨k.toNat,by omega⟩
 have hk:j<t.rs.length:=by omega
 have hro:=h.rs _ (Y0j hk);have e1:jstep t s (j:Int)=if stepR t t.rs[j] s then some (nextR t.rs[j] s) else none:=by
  unfold jstep;rw [if_pos (by omega),Int.toNat_natCast,Y0c hk]
 rw [e1];refine gd 3 ⟨?_⟩;refine Z4 rfl rfl rfl ?_;refine Z4 rfl rfl rfl ?_;refine gd 15 ⟨?_⟩;refine Zl rfl ?_;refine Z0 (Z1 (v:=false) rfl (Y0w (by omega))) rfl rfl ?_;refine gd 22 ⟨?_⟩;refine Zl rfl ?_;refine Z0 (Z1 (v:=false) rfl (Y0w (by rw [hrl];omega))) rfl rfl ?_;refine gd 28 ⟨?_⟩;refine Z0 (Zo (xs:=t.rs) (g:=ruP) rfl rfl j rfl hk rfl) rfl rfl ?_;generalize t.rs[j]=x at hro ⊢;have hxt:=hro.tg;have hx64:=hro.m.lt (by decide);have hnx:=ZbJ (x:=x) (show x.tg<64 by omega) hs;have hgood:=Zd8 h.nv64 S (nextR x s) hnx;have hclo:=Z1G t.l S s hs;have hho:=Z4h x.cu (clo t.l s) hx64 (Z4M _ _);have heq:=Zac (nextR x s) s hnx hs;have hw:=Z3T s hs x.tg (by omega);have hst:stepR t x s=(!decide (nextR x s=s)&&(goodB t (nextR x s)&&(x.rev||hoC x.cu (clo t.l s)))):=by
  unfold stepR;congr 1;exact decide_not
 rw [hst];refine gd 33 ⟨?_⟩;refine Z6 hw rfl rfl rfl ⟨Z3 _,Yt,Yt⟩ rfl ?_;cases hv:x.rev
 · have hnv : nextR x s = s ||| 2 ^ x.tg := by unfold nextR; rw [hv]; rfl
   rw [← hnv];refine gd 35 ⟨?_⟩;refine Z0 (Z1 (v:=false) rfl hv) rfl rfl ?_;refine gd 42 ⟨?_⟩;refine Zy heq rfl rfl rfl ⟨Z3 _,Z3 _,Yt⟩ ?_;cases he:decide (nextR x s=s)
   case true =>
    repeat' (first|refine Z3c rfl ?_|(first|refine st ?_|(apply B<;>intro hb<;>try cases hb)))
    exact Z1y (r:=.tup [.agg [.vec [] true],.val (.bool false)]) rfl ⟨⟨Yt,Yt⟩,Yt,Yt⟩ Z3e
   refine gd 46 ⟨?_⟩;refine Z2J rfl ?_;refine Zy hgood rfl rfl rfl ⟨hpp,Z3 _,Yt⟩ ?_;cases hg:goodB t (nextR x s)
   case false =>
    repeat' (first|refine Z3c rfl ?_|(first|refine st ?_|(apply B<;>intro hb<;>try cases hb)))
    exact Z1y (r:=.tup [.agg [.vec [] true],.val (.bool false)]) rfl ⟨⟨Yt,Yt⟩,Yt,Yt⟩ Z3e
   refine gd 51 ⟨?_⟩;refine Z2J rfl ?_;refine Ze (Z1 (v:=false) rfl hv) rfl rfl ?_;refine gd 59 ⟨?_⟩;refine Z2J rfl ?_;refine Zy hclo rfl rfl rfl ⟨ZE _ _,Z3 _,Yt⟩ ?_;refine Z2J rfl ?_;refine Zy hho rfl rfl rfl ⟨Z39 _,Z3 _,Yt⟩ ?_;cases hh:hoC x.cu (clo t.l s)
   case false =>
    repeat' (first|refine Z3c rfl ?_|(first|refine st ?_|(apply B<;>intro hb<;>try cases hb)))
    exact Z1y (r:=.tup [.agg [.vec [] true],.val (.bool false)]) rfl ⟨⟨Yt,Yt⟩,Yt,Yt⟩ Z3e
   repeat' (first|refine Z3c rfl ?_|(first|refine st ?_|(apply B<;>intro hb<;>try cases hb)))
   exact Z5 rfl ⟨Z3 _,Yt,Yt⟩ rfl
 · have hnv : nextR x s = minusN s (2 ^ x.tg) := by unfold nextR; rw [hv]; rfl
   have hwo:=Z1p s hs (x.tg:Int);rw [Z2i hs (by omega),← hnv] at hwo;refine gd 35 ⟨?_⟩;refine Z0 (Z1 (v:=true) rfl hv) rfl rfl ?_;refine gd 39 ⟨?_⟩;refine Z6 hwo rfl rfl rfl ⟨Z3 _,Yt,Yt⟩ rfl ?_;refine gd 42 ⟨?_⟩;refine Zy heq rfl rfl rfl ⟨Z3 _,Z3 _,Yt⟩ ?_;cases he:decide (nextR x s=s)
   case true =>
    repeat' (first|refine Z3c rfl ?_|(first|refine st ?_|(apply B<;>intro hb<;>try cases hb)))
    exact Z1y (r:=.tup [.agg [.vec [] true],.val (.bool false)]) rfl ⟨⟨Yt,Yt⟩,Yt,Yt⟩ Z3e
   refine gd 46 ⟨?_⟩;refine Z2J rfl ?_;refine Zy hgood rfl rfl rfl ⟨hpp,Z3 _,Yt⟩ ?_;cases hg:goodB t (nextR x s)
   case false =>
    repeat' (first|refine Z3c rfl ?_|(first|refine st ?_|(apply B<;>intro hb<;>try cases hb)))
    exact Z1y (r:=.tup [.agg [.vec [] true],.val (.bool false)]) rfl ⟨⟨Yt,Yt⟩,Yt,Yt⟩ Z3e
   refine gd 51 ⟨?_⟩;refine Z2J rfl ?_;refine Ze (Z1 (v:=true) rfl hv) rfl rfl ?_
   repeat' (first|refine Z3c rfl ?_|(first|refine st ?_|(apply B<;>intro hb<;>try cases hb)))
   exact Z5 rfl ⟨Z3 _,Yt,Yt⟩ rfl
section
variable {P:Program} {C:Ctx} {e:Env} {h:Heap} {n:Nat} {Q:Exit→Nat→Env→Heap→Prop}
theorem ZhM {m:Nat} (hdom:C.dom m) (N:Nat) (L:List (Nat×PV)) (HL:List (Nat×Bx)) {x y:ACode} (hm:m≤N) (h1:aw P C x (thenQ (fun n e h=>EnvQ (fun i=>i) e N L∧HeapQ (fun i=>i) h N HL) Q) n e h) (h2:aw P C y Q N (envL L) (heapL HL)):aw P C (.seq x y) Q n e h :=
 Zs (Z54 h1 fun ex n e h hq=>by
  cases ex with
  | normal=>obtain⟨h3,h4⟩:=hq; exact Z22 (Z3M h3.mem h4.mem hdom hm) h2
  | _=>exact hq)
end
theorem Zgz:∀ r:Nat,r<64→maskTo (topOf [(r:Int)]) [(r:Int)]=2 ^ r:=by decide +kernel
theorem Z7w (r:Nat) (hr:r<64) (fl:Bool):Spec Tryz.prog 17 [.vec [[.val (.int .i64 (r:Int))]] fl] (· = setN (2 ^ r)):=Zgz r hr▸Za6 [(r:Int)] fl
def fullN (n:Nat):Nat:=2 ^ (n+1)-1
def properT (n:Nat) (l:List Cu):Bool := !(mentC l).testBit 0&&decide (mentC l ||| fullN n=fullN n)
theorem ZgA {n:Nat} (h:n≤63):fullN n<18446744073709551616:=by
 unfold fullN;have:2 ^ (n+1)≤2 ^ 64:=Nat.pow_le_pow_right (by decide) (by omega);omega
theorem ZaM (t:PB) (hn:t.n≤63) (S:List Nat) (l:List Cu) (fl:Bool) (hl:∀ c∈l,Ok64 c):Spec Tryz.prog 28 [.agg (pbP t S),.vec (l.map cuC) fl] (· = .val (.bool (properT t.n l))):=by
 refine Yp ok28 fun C hC=>?_;have hml:=Z3U hl;have hh:=Z4C (mentC l) hml 0;have hfl:=ZgA hn;have hbe:=Z3V (t.n+1) (by omega) (by omega);change Spec _ _ _ (· = setN (fullN t.n)) at hbe;have hwi:=Z1T (mentC l) (fullN t.n) hml hfl;have hd:properT t.n l=(!(decide ((0:Int)≤0)&&(mentC l).testBit (0:Int).toNat)&&decide (mentC l ||| fullN t.n=fullN t.n)):=rfl;rw [hd];refine gd 2 ⟨?_⟩;refine Z4 rfl rfl rfl ?_;refine gd 7 ⟨?_⟩;refine Z6 (Z2v l fl hl) rfl rfl rfl ⟨Za Zp _,Yt⟩ rfl ?_;generalize mentC l=M at hh hwi ⊢;refine gd 9 ⟨?_⟩;refine Zy hh rfl rfl rfl ⟨Z3 _,Yt,Yt⟩ ?_;cases decide ((0:Int)≤0)&&M.testBit (0:Int).toNat
 · refine gd 15 ⟨?_⟩;refine Z2J rfl ?_;refine Ze (ZY (v:=((t.n+1:Nat):Int)) rfl (Y0v _ ⟨by omega,by omega⟩)) rfl rfl ?_;refine Z2J rfl ?_;refine Zy hbe rfl rfl rfl ⟨Yt,Yt⟩ ?_;refine Z2J rfl ?_;refine Zy hwi rfl rfl rfl ⟨Z3 _,Z3 _,Yt⟩ ?_;cases decide (M ||| fullN t.n=fullN t.n)
   · refine go ?_;exact Z5 rfl Yt rfl
   · refine go ?_;exact Z5 rfl Yt rfl
 · repeat' (first | refine Z3c rfl ?_ | (first|refine st ?_|(apply B<;>intro hb<;>try cases hb)))
   exact Z5 rfl Yt rfl
abbrev Fd:=Nat×Nat×Nat
def fdP (f:Fd):PV:=.agg [.val (.int .u8 (f.1:Int)),.val (.int .i64 (f.2.1:Int)),.val (.int .i64 (f.2.2:Int))]
theorem Z1s (f:Fd):(fdP f).pure:=⟨Yt,Yt,Yt,Yt⟩
noncomputable def followT (t:PB):Nat→List Nat→Nat→Fd
 | s,[],_=>if reachB t s then (1,0,0) else (5,0,0)
 | s, k :: p, i => match jstep t s (k : Int) with
   | some o=>followT t o p (i+1)
   | none=>(4,i,k)
theorem ZgB {t:PB} (h:PbOk t) {s:Nat} (hs:s<18446744073709551616) {k:Int} {o:Nat} (ho:jstep t s k=some o):o<18446744073709551616:=by
 unfold jstep at ho
 split at ho
 · cases hr : t.rs[k.toNat]? with
   | none=>rw [hr] at ho; cases ho
   | some r =>
     rw [hr] at ho;dsimp only at ho
     split at ho
     · have hro := h.rs r (List.mem_of_getElem? hr);have:=hro.tg;rw [← Option.some.inj ho];exact ZbJ (by omega) hs
     · cases ho
 · cases ho
theorem ZaN {t:PB} (h:PbOk t) (S:List Nat) (p:List Nat) (fl:Bool) (hp:p.length<900000) (hst0:t.st<18446744073709551616):Spec Tryz.prog 29 [.agg (pbP t S),.vec (inL p) fl] (· = fdP (followT t t.st p 0)):=by
 refine Yp ok29 fun C hC=>?_;have hpp:=ZR t S;have hpi:∀ D,innL D (pbP t S):=fun D=>Zm (fun _ h=>h.elim) _ hpp;have hil':=Z3z p;have hii:∀ D,innLL D (inL p):=fun D=>Z9 (fun _ h=>h.elim) _ (Zz p);have hz:∀ D,innLL D [[PV.val (.int .u8 0),.val (.int .i64 0),.val (.int .i64 0)]]:=fun D=>⟨⟨Yt,Yt,Yt,Yt⟩,Yt⟩
 refine gd 2 ⟨?_⟩;refine Z4 rfl rfl rfl ?_;generalize hfin:followT t t.st p 0=fin;refine go ?_;refine Zn hC (fun x:Nat×Nat=>x.1≤p.length∧x.2<18446744073709551616∧followT t x.2 (p.drop x.1) x.1=fin) (fun x=>p.length-x.1) 2 (fun x => [(2,.cp (pbP t S)),(4,.ptr 0 0 0),(5,.ptr 1 0 0),(12,.vec (inL p) fl),(13,.val (.int .i64 (p.length:Int))),(14,.val (.int .i64 (x.1:Int)))]) (fun x => [(0,⟨3,[[.val (.int .u8 0),.val (.int .i64 0),.val (.int .i64 0)]]⟩),(1,sBx x.2)]) (by decide) (0,t.st) ⟨Y0l _,hst0,hfin⟩
  ⟨⟨rfl,hpi _⟩,⟨rfl,show 0<2 by decide⟩,⟨rfl,show 1<2 by decide⟩,⟨rfl,hii _⟩,⟨by rw [← hil']; rfl,Yt⟩,⟨rfl,Yt⟩,Yt⟩ ⟨⟨by decide,rfl,hz _⟩,⟨by decide,rfl,Z2x _ _⟩,Yt⟩ ?_
 rintro⟨i,s⟩ ⟨hi,hs,hf⟩;dsimp only at hi hs hf;have hinc:IntKind.i64.wrap ((i:Int)+1)=((i+1:Nat):Int):=Y0v _ ⟨by omega,by omega⟩;refine gd 15 ⟨?_⟩;by_cases hil:i<p.length
 · refine Z0 (Z1 (v := true) rfl (decide_eq_true (by show (i : Int) < (p.length : Int); omega))) rfl rfl ?_;have hdr:p.drop i=p[i] :: p.drop (i+1):=List.drop_eq_getElem_cons hil;rw [hdr] at hf;refine gd 17 ⟨?_⟩;refine Z0 (Zo (xs:=p) (g:=inC1) rfl rfl i rfl hil rfl) rfl rfl ?_;generalize p[i]=k at hf;refine gd 23 ⟨?_⟩;refine Z6 (Zd9 h S s hs (k:Int)) rfl rfl rfl ⟨hpp,Z3 _,Yt,Yt⟩ rfl ?_;cases hj:jstep t s (k:Int) with
   | some o =>
     have hol:=ZgB h hs hj;have hf2:followT t o (p.drop (i+1)) (i+1)=fin:=by rw [← hf]; show _=(match jstep t s (k:Int) with|some o=>followT t o (p.drop (i+1)) (i+1)|none=>(4,i,k)); rw [hj]
     show opsK _ _ _ (updO _ _ (.tup [setN o,.val (.bool true)])) _ _;refine go ?_;exact⟨(i+1,o),⟨hil,hol,hf2⟩,by show p.length-(i+1)<p.length-i; omega,⟨⟨rfl,hpi _⟩,⟨rfl,show 0<2 by decide⟩,⟨rfl,show 1<2 by decide⟩,⟨rfl,hii _⟩,⟨rfl,Yt⟩,⟨by show some _=some _; rw [hinc],Yt⟩,Yt⟩,⟨⟨by decide,rfl,hz _⟩,⟨by decide,rfl,Z2x _ _⟩,Yt⟩⟩
   | none =>
     have hf2:((4,i,k):Fd)=fin:=by rw [← hf]; show _=(match jstep t s (k:Int) with|some o=>followT t o (p.drop (i+1)) (i+1)|none=>(4,i,k)); rw [hj]
     show opsK _ _ _ (updO _ _ (.tup [setN 0,.val (.bool false)])) _ _;refine go ?_;exact Z5 rfl (Z1s (4,i,k)) (by rw [← hf2]; rfl)
 · obtain rfl : i = p.length := by omega
   refine Z0 (Z1 (v:=false) rfl (Y0w (by show ¬ ((p.length:Int)<(p.length:Int));omega))) rfl rfl ?_;rw [List.drop_length] at hf;change (if reachB t s then ((1,0,0):Fd) else (5,0,0))=fin at hf;refine gd 38 ⟨?_⟩;refine Zy (Z1G t.l S s hs) rfl rfl rfl ⟨ZE _ _,Z3 _,Yt⟩ ?_;refine Zy (Z5b t.gl false (clo t.l s) h.gl64 (Z4M _ _)) rfl rfl rfl ⟨Za Zp _,Z3 _,Yt⟩ ?_;change dK _ _ _ _ (updO _ _ (.val (.bool (reachB t s)))) _ _;cases hr:reachB t s
   · rw [hr] at hf;refine go ?_;exact Z5 rfl (Z1s (5,0,0)) (by rw [← hf]; rfl)
   · rw [hr] at hf;refine go ?_;exact Z5 rfl (Z1s (1,0,0)) (by rw [← hf]; rfl)
def outN (t:PB) (l:List Cu) (fl:Bool):List ND := [⟨true,false,false,0,[],t.nv,true,false⟩,⟨true,false,true,0,t.gl,[],false,true⟩,⟨false,false,false,0,[],l,true,fl⟩]
def escN (t:PB) (l:List Cu) (fl:Bool) (c:Cu) (r:RU):List ND := [⟨true,false,false,0,[],t.nv,true,false⟩,⟨false,false,false,0,[],l,true,fl⟩,⟨false,false,true,0,[if r.rev then (2 ^ r.tg,0) else (0,2 ^ r.tg)],[],true,true⟩,⟨true,false,true,0,[r.cu],[],true,true⟩,⟨true,r.rev,false,r.tg,[],t.nv,true,false⟩,⟨false,r.rev,true,r.tg,[c],[],false,true⟩]
noncomputable def outT (t:PB) (l:List Cu) (fl:Bool):Option Nat:=solveT (clo t.l) (sen t.l) t.n (outN t l fl)
noncomputable def escT (t:PB) (l:List Cu) (fl:Bool) (c:Cu) (r:RU):Option Nat:=solveT (clo t.l) (sen t.l) t.n (escN t l fl c r)
theorem ZeS (l:List Cu) (h:∀ c∈l,c.1.testBit 0=false∧c.2.testBit 0=false):(mentC l).testBit 0=false:=by
 unfold mentC
 suffices hs:∀ a:Nat,a.testBit 0=false→(l.foldl (fun s c=>(s ||| c.1) ||| c.2) a).testBit 0=false from hs 0 (by simp)
 induction l with
 | nil=>exact fun a ha=>ha
 | cons c l ih =>
   intro a ha;refine ih (fun c hc=>h c (List.mem_cons_of_mem _ hc)) _ ?_;rw [Y00,Y00,ha,(h c (Y0t ..)).1,(h c (Y0t ..)).2]
   rfl
theorem Ziv {x n:Nat} (h:x ||| mkN n=mkN n):x.testBit 0=false:=by
 have:(x ||| mkN n).testBit 0=false:=by rw [h,Z2N]; rfl
 rw [Y00,Bool.or_eq_false_iff] at this;exact this.1
theorem InC.z {n:Nat} {c:Cu} (h:InC n c):c.1.testBit 0=false∧c.2.testBit 0=false:=⟨Ziv h.y,Ziv h.n⟩
theorem ndz {d:ND} (haf:d.af<64) (hso:∀ c∈d.so,Ok64 c∧c.1.testBit 0=false∧c.2.testBit 0=false) (hno:∀ c∈d.no,Ok64 c∧c.1.testBit 0=false∧c.2.testBit 0=false) (hsl:d.so.length<900000) (hnl:d.no.length<900000):NdZ d :=
 ⟨⟨haf,fun c hc=>(hso c hc).1,fun c hc=>(hno c hc).1,hsl,hnl⟩,(by unfold mOf; rw [Y00,ZeS _ fun c hc=>(hso c hc).2,ZeS _ fun c hc=>(hno c hc).2]; rfl)⟩
def CuZ (l:List Cu):Prop:=∀ c∈l,Ok64 c∧c.1.testBit 0=false∧c.2.testBit 0=false
theorem zL:(0:Nat)<900000:=by decide
theorem oL:(1:Nat)<900000:=by decide
theorem zA:(0:Nat)<64:=by decide
theorem Z3f:CuZ []:=fun c hc=>by cases hc
theorem PbOk.nvz {t:PB} (h:PbOk t):CuZ t.nv:=fun c hc=>⟨h.nv64 c hc,(h.nv c hc).1.z⟩
theorem PbOk.glz {t:PB} (h:PbOk t):CuZ t.gl:=fun c hc=>⟨h.gl64 c hc,(h.gl c hc).1.z⟩
theorem Zh0 {t:PB} (h:PbOk t) {l:List Cu} (fl:Bool) (hl:CuZ l) (hll:l.length<900000):∀ d∈outN t l fl,NdZ d:=fun d hd=>by
 have h1:=h.nl;have h2:=h.gk;simp only [outN,List.mem_cons,List.not_mem_nil,or_false] at hd;rcases hd with rfl|rfl|rfl
 · exact ndz zA Z3f h.nvz zL (by show t.nv.length<_;omega)
 · exact ndz zA h.glz Z3f (by show t.gl.length<_;omega) zL
 · exact ndz zA Z3f hl zL hll
theorem ZiV {r:Nat} (h:1≤r):(2 ^ r).testBit 0=false:=by
 rw [Nat.testBit_two_pow]; exact Y0w (by omega)
theorem Zh1 {t:PB} (h:PbOk t) {l:List Cu} (fl:Bool) (hl:CuZ l) (hll:l.length<900000) {c:Cu} (hc:c∈l) {r:RU} (hr:r∈t.rs):∀ d∈escN t l fl c r,NdZ d:=fun d hd=>by
 have h1:=h.nl;have hro:=h.rs r hr;have htg:=hro.tg;have hcc:=hl c hc;have h64:(2:Nat) ^ r.tg<18446744073709551616:=ZG (by omega);have h2z:=ZiV htg.1;simp only [escN,List.mem_cons,List.not_mem_nil,or_false] at hd;rcases hd with rfl|rfl|rfl|rfl|rfl|rfl
 · exact ndz zA Z3f h.nvz zL (by show t.nv.length<_;omega)
 · exact ndz zA Z3f hl zL hll
 · refine ndz zA (fun q hq => ?_) Z3f oL zL;rw [Y0g] at hq;subst hq;cases r.rev
   · exact⟨⟨show (0:Nat)<_ by decide,h64⟩,show (0:Nat).testBit 0=false by decide,h2z⟩
   · exact⟨⟨h64,show (0:Nat)<_ by decide⟩,h2z,show (0:Nat).testBit 0=false by decide⟩
 · refine ndz zA (fun q hq => ?_) Z3f oL zL;rw [Y0g] at hq;subst hq;exact⟨hro.m.lt (by decide),hro.cu.z⟩
 · exact ndz (by show r.tg<64;omega) Z3f h.nvz zL (by show t.nv.length<_;omega)
 · refine ndz (by show r.tg < 64; omega) (fun q hq => ?_) Z3f oL zL;rw [Y0g] at hq;subst hq;exact hcc
theorem Z9h {t:PB} (h:PbOk t) (S:List Nat) (l:List Cu) (fl:Bool) (hl:CuZ l) (hll:l.length<900000):Spec Tryz.prog 79 [.agg (pbP t S),.vec (l.map cuC) fl] (· = resO (outT t l fl)):=by
 refine Yp ok79 fun C hC=>?_;have hpp:=ZR t S;have hso:=Z7v t h.n.2 h.good.small S (outN t l fl) true (Zh0 h fl hl hll) (show 3<900000 by decide);change Spec _ _ _ (· = resO (outT t l fl)) at hso;refine gd 2 ⟨?_⟩;refine Z4 rfl rfl rfl ?_;refine gd 16 ⟨?_⟩;refine Z6 hso rfl rfl rfl ⟨hpp,Za Z2j _,Yt⟩ rfl ?_;cases outT t l fl with
 | some o =>
   show opsK _ _ _ (updO _ _ (.tup [setN o,.val (.bool true)])) _ _;refine go ?_;exact Z5 rfl ⟨Z3 _,Yt,Yt⟩ rfl
 | none =>
   show opsK _ _ _ (updO _ _ (.tup [setN 0,.val (.bool false)])) _ _;refine go ?_;exact Z5 rfl ⟨Z3 _,Yt,Yt⟩ rfl
theorem Z9i {t:PB} (h:PbOk t) (S:List Nat) (l:List Cu) (fl:Bool) (hl:CuZ l) (hll:l.length<900000) (i k:Nat) (hi:i<l.length) (hk:k<t.rs.length):Spec Tryz.prog 80 [.agg (pbP t S),.vec (l.map cuC) fl,Yv i,.val (.int .i64 (k:Int))] (· = resO (escT t l fl l[i] t.rs[k])):=by
 refine Yp ok80 fun C hC=>?_;have hpp:=ZR t S;have hro:=h.rs _ (Y0j hk);have htg:=hro.tg;have hso:=Z7v t h.n.2 h.good.small S (escN t l fl l[i] t.rs[k]) true (Zh1 h fl hl hll (Y0j hi) (Y0j hk)) (show 6<900000 by decide);change Spec _ _ _ (· = resO (escT t l fl l[i] t.rs[k])) at hso;have hslc:((l.take (i+1)).drop i).map cuC = [cuC l[i]]:=by
  rw [List.take_succ_eq_append_getElem hi,List.drop_append,List.drop_of_length_le (by rw [Y0o];omega),Y0o,show i-min i l.length=0 by omega]
  rfl
 refine gd 4 ⟨?_⟩;refine Z4 rfl rfl rfl ?_;refine gd 15 ⟨?_⟩;refine Z0 (Zo (xs:=t.rs) (g:=ruP) rfl rfl k rfl hk rfl) rfl rfl ?_;generalize hres:escT t l fl l[i] t.rs[k]=res at hso;generalize t.rs[k]=r at htg hso;generalize l[i]=c at hslc hso;unfold escN at hso;generalize hqq:(if r.rev=true then ((2 ^ r.tg,0):Cu) else (0,2 ^ r.tg))=q at hso;have hci:∀ D,innLL D (l.map cuC):=fun D=>Z9 (fun _ h=>h.elim) _ (Za Zp l);have e0:words (digs 0) = []:=by rw [ZT]; rfl
 have lowN:∀ w:List (List PV),pureLL w→RenLs (fun i=>i) (fun i=>i<3) [PV.vec [] true,.vec w false] [.vec [] false,.vec w false]:=fun w hw=>⟨.low (.vec [] true) Yt,.pure _ hw,Yt⟩
 have lowY:∀ w:List (List PV),pureLL w→RenLs (fun i=>i) (fun i=>i<3) [.vec w false,PV.vec [] true] [.vec w false,.vec [] false]:=fun w hw=>⟨.pure _ hw,.low (.vec [] true) Yt,Yt⟩
 refine gd 20 ⟨?_⟩;refine Z6 (Z7w r.tg (by omega) true) rfl rfl rfl ⟨⟨⟨Yt,Yt⟩,Yt⟩,Yt⟩ rfl ?_
 iterate 4 (first|refine st ?_|(apply B<;>intro hb<;>try cases hb))
 refine ZhM hC 3 [(1,.vec (l.map cuC) fl),(2,Yv i),(4,.cp (pbP t S)),(8,.ptr 0 0 0),(10,.ptr 1 0 0),(11,.ptr 2 0 0)] [(0,⟨1,[[.vec [] true]]⟩),(1,⟨5,[ruP r]⟩),(2,⟨2,[cuC q]⟩)] (by decide) ?_ ?_
 · refine gd 23 ⟨?_⟩;cases hv:r.rev
   · have hqv : q = (0, 2 ^ r.tg) := by rw [← hqq, hv]; rfl
     refine Z0 (Z1 (v:=false) rfl hv) rfl rfl ?_;refine go ?_
     exact⟨⟨⟨_,rfl,.pure _ (Za Zp l)⟩,⟨_,rfl,.pure _ Yt⟩,⟨_,rfl,.pure _ hpp⟩,⟨_,rfl,.ptr (ρ:=fun i=>i) 0 0 0 (by decide)⟩,⟨_,rfl,.ptr (ρ:=fun i=>i) 1 0 0 (by decide)⟩,⟨_,rfl,.ptr (ρ:=fun i=>i) 2 0 0 (by decide)⟩,Yt⟩,
      ⟨⟨by decide, _, rfl, .same _ ⟨⟨Yt, Yt⟩, Yt⟩⟩, ⟨by decide, _, rfl, .same _ ⟨Z8f r, Yt⟩⟩, ⟨by decide, ⟨2, [[.vec [] true, .vec (words (digs (2 ^ r.tg))) false]]⟩, rfl, by
        rw [hqv];show RenB _ _ _ ⟨2,[[.vec (words (digs 0)) false,.vec (words (digs (2 ^ r.tg))) false]]⟩;rw [e0]
        exact RenB.single (lowN _ (Zk _)) rfl⟩,Yt⟩⟩
   · have hqv : q = (2 ^ r.tg, 0) := by rw [← hqq, hv]; rfl
     refine Z0 (Z1 (v:=true) rfl hv) rfl rfl ?_;refine gd 27 ⟨?_⟩;refine Z6 (Z7w r.tg (by omega) true) rfl rfl rfl ⟨⟨⟨Yt,Yt⟩,Yt⟩,Yt⟩ rfl ?_;refine go ?_
     exact⟨⟨⟨_,rfl,.pure _ (Za Zp l)⟩,⟨_,rfl,.pure _ Yt⟩,⟨_,rfl,.pure _ hpp⟩,⟨_,rfl,.ptr (ρ:=fun i=>i) 0 0 0 (by decide)⟩,⟨_,rfl,.ptr (ρ:=fun i=>i) 1 0 0 (by decide)⟩,⟨_,rfl,.ptr (ρ:=fun i=>i) 2 0 0 (by decide)⟩,Yt⟩,
      ⟨⟨by decide, _, rfl, .same _ ⟨⟨Yt, Yt⟩, Yt⟩⟩, ⟨by decide, _, rfl, .same _ ⟨Z8f r, Yt⟩⟩, ⟨by decide, ⟨2, [[.vec (words (digs (2 ^ r.tg))) false, .vec [] true]]⟩, rfl, by
        rw [hqv];show RenB _ _ _ ⟨2,[[.vec (words (digs (2 ^ r.tg))) false,.vec (words (digs 0)) false]]⟩;rw [e0]
        exact RenB.single (lowY _ (Zk _)) rfl⟩,Yt⟩⟩
 · refine gd 45 ⟨?_⟩;refine Ze (p:=.val (.bool r.rev)) rfl rfl rfl ?_;refine gd 52 ⟨?_⟩;refine Ze (p:=.val (.bool r.rev)) rfl rfl rfl ?_;refine gd 56 ⟨?_⟩;refine Ze (ZY (v:=((i+1:Nat):Int)) rfl (Y0v _ ⟨by omega,by omega⟩)) rfl rfl ?_;refine Ze (Z8M (xs:=l) (g:=cuC) rfl i (i+1) rfl rfl (by omega) (by omega) (fun _=>rfl)) rfl rfl ?_;rw [hslc];refine gd 60 ⟨?_⟩;refine Zy hso rfl rfl rfl ⟨hpp,Za Z2j _,Yt⟩ ?_;cases res with
   | some o =>
     show dK _ _ _ _ (updO _ _ (.tup [setN o,.val (.bool true)])) _ _;refine go ?_;exact Z5 rfl ⟨Z3 _,Yt,Yt⟩ rfl
   | none =>
     show dK _ _ _ _ (updO _ _ (.tup [setN 0,.val (.bool false)])) _ _;refine go ?_;exact Z5 rfl ⟨Z3 _,Yt,Yt⟩ rfl
def kFind (e:Nat→Bool):Nat→Nat→Option Nat
 | 0,_=>none
 | c+1,k=>if e k then some k else kFind e c (k+1)
def iFind (e:Nat→Nat→Bool) (m:Nat):Nat→Nat→Option (Nat×Nat)
 | 0,_=>none
 | c + 1, i => match kFind (e i) m 0 with
   | some k=>some (i,k)
   | none=>iFind e m c (i+1)
theorem Z7x {e:Nat→Bool} {n i:Nat} (h:i<n):kFind e (n-i) i=if e i then some i else kFind e (n-(i+1)) (i+1):=by
 obtain⟨c,hc⟩:∃ c,n-i=c+1:=⟨n-i-1,by omega⟩
 rw [hc,show n-(i+1)=c by omega]
 rfl
theorem Zda {e:Nat→Nat→Bool} {m n i:Nat} (h:i<n):iFind e m (n-i) i=match kFind (e i) m 0 with|some k=>some (i,k)|none=>iFind e m (n-(i+1)) (i+1):=by
 obtain⟨c,hc⟩:∃ c,n-i=c+1:=⟨n-i-1,by omega⟩
 rw [hc,show n-(i+1)=c by omega]
 rfl
def cu0 (l:List Cu) (i:Nat):Cu:=l.getD i (0,0)
def ru0 (l:List RU) (k:Nat):RU:=l.getD k ⟨false,(0,0),0,0⟩
noncomputable def escE (t:PB) (l:List Cu) (fl:Bool) (i k:Nat):Bool:=(escT t l fl (cu0 l i) (ru0 t.rs k)).isSome
def leakF:Option (Nat×Nat)→Fd
 | some (i,k)=>(8,i,k)
 | none=>(1,0,0)
noncomputable def closedT (t:PB) (l:List Cu) (fl:Bool):Fd :=
 match kFind (fun i=>hoC (cu0 l i) t.st) l.length 0 with
 | some i=>(6,i,0)
 | none=>if (outT t l fl).isSome then (7,0,0) else leakF (iFind (escE t l fl) t.rs.length l.length 0)
theorem Z8r {l:List Cu} {i:Nat} (h:i<l.length):cu0 l i=l[i]:=by simp [cu0,Y0b,h]
theorem ZeT {l:List RU} {i:Nat} (h:i<l.length):ru0 l i=l[i]:=by simp [ru0,Y0b,h]
theorem ZaO {t:PB} (h:PbOk t) (S:List Nat) (l:List Cu) (fl:Bool) (hl:CuZ l) (hll:l.length<900000) (hst:t.st<18446744073709551616):Spec Tryz.prog 30 [.agg (pbP t S),.vec (l.map cuC) fl] (· = fdP (closedT t l fl)):=by
 refine Yp ok30 fun C hC=>?_;have hpp:=ZR t S;have hpi:∀ D,innL D (pbP t S):=fun D=>Zm (fun _ h=>h.elim) _ hpp;have hml:(l.map cuC).length=l.length:=Y0f ..;have hmr:(t.rs.map ruP).length=t.rs.length:=Y0f ..;have hrl:=h.rl;have hcp:pureLL (l.map cuC):=Za Zp l;have hci:∀ D,innLL D (l.map cuC):=fun D=>Z9 (fun _ h=>h.elim) _ hcp;have hri:∀ D,innLL D (t.rs.map ruP):=fun D=>Z9 (fun _ h=>h.elim) _ (Z2W _);have hz:∀ D,innLL D [[PV.val (.int .u8 0),.val (.int .i64 0),.val (.int .i64 0)]]:=fun D=>⟨⟨Yt,Yt,Yt,Yt⟩,Yt⟩
 have hfin:closedT t l fl=match kFind (fun i=>hoC (cu0 l i) t.st) l.length 0 with
  | some i=>(6,i,0)
  | none=>if (outT t l fl).isSome then (7,0,0) else leakF (iFind (escE t l fl) t.rs.length l.length 0):=rfl
 generalize hK:kFind (fun i=>hoC (cu0 l i) t.st) l.length 0=K at hfin;refine gd 2 ⟨?_⟩;refine Z4 rfl rfl rfl ?_;refine go ?_;refine Zn hC (fun i=>i≤l.length∧kFind (fun i=>hoC (cu0 l i) t.st) (l.length-i) i=K) (fun i=>l.length-i) 1 (fun i => [(1,.vec (l.map cuC) fl),(2,.cp (pbP t S)),(4,.ptr 0 0 0),(13,.vec (l.map cuC) fl),(14,.val (.int .i64 (l.length:Int))),(15,Yv i)]) (fun _ => [(0,⟨3,[[.val (.int .u8 0),.val (.int .i64 0),.val (.int .i64 0)]]⟩)]) (by decide) 0 ⟨Y0l _,hK⟩
  ⟨⟨rfl,hci _⟩,⟨rfl,hpi _⟩,⟨rfl,show 0<1 by decide⟩,⟨rfl,hci _⟩,⟨by rw [← hml]; rfl,Yt⟩,⟨rfl,Yt⟩,Yt⟩ ⟨⟨by decide,rfl,hz _⟩,Yt⟩ ?_
 rintro i ⟨hi,hk⟩;have hinc:IntKind.i64.wrap ((i:Int)+1)=((i+1:Nat):Int):=Y0v _ ⟨by omega,by omega⟩;refine gd 16 ⟨?_⟩;by_cases hil:i<l.length
 · refine Z0 (Z1 (v := true) rfl (decide_eq_true (by omega))) rfl rfl ?_;rw [Z7x hil,Z8r hil] at hk;have hc64:=(hl _ (Y0j hil)).1;refine gd 18 ⟨?_⟩;refine Z0 (Zo (xs:=l) (g:=cuC) rfl rfl i rfl hil rfl) rfl rfl ?_;generalize l[i]=c at hk hc64;have hho:=Z4h c t.st hc64 hst;refine gd 23 ⟨?_⟩;refine Z6 hho rfl rfl rfl ⟨Z39 _,Z3 _,Yt⟩ rfl ?_;cases hb:hoC c t.st
   · rw [hb] at hk;refine go ?_;exact⟨i+1,⟨hil,hk⟩,by omega,⟨⟨rfl,hci _⟩,⟨rfl,hpi _⟩,⟨rfl,show 0<1 by decide⟩,⟨rfl,hci _⟩,⟨rfl,Yt⟩,⟨by show some _=some _; rw [hinc],Yt⟩,Yt⟩,⟨⟨by decide,rfl,hz _⟩,Yt⟩⟩
   · rw [hb, if_pos rfl] at hk;rw [hfin,← hk];refine go ?_;exact Z5 rfl (Z1s (6,i,0)) rfl
 obtain rfl:i=l.length:=by omega
 refine Z0 (Z1 (v:=false) rfl (Y0w (by omega))) rfl rfl ?_;rw [Nat.sub_self] at hk;have hKn:K=none:=hk.symm;rw [hKn] at hfin;dsimp only at hfin;rw [hfin];have ho:=Z9h h S l fl hl hll;generalize outT t l fl=O at ho;refine gd 30 ⟨?_⟩;refine Z6 ho rfl rfl rfl ⟨hpp,hcp,Yt⟩ rfl ?_;cases O with
 | some o =>
   show opsK _ _ _ (updO _ _ (.tup [setN o,.val (.bool true)])) _ _;refine go ?_;exact Z5 rfl (Z1s (7,0,0)) rfl
 | none =>
 show opsK _ _ _ (updO _ _ (.tup [setN 0,.val (.bool false)])) _ _;show opsK _ _ _ _ _ _;rw [show (if (Option.isSome (none:Option Nat))=true then ((7,0,0):Fd) else leakF (iFind (escE t l fl) t.rs.length l.length 0))=leakF (iFind (escE t l fl) t.rs.length l.length 0) from rfl];generalize hL:iFind (escE t l fl) t.rs.length l.length 0=L;refine go ?_;refine Zn hC (fun i=>i≤l.length∧iFind (escE t l fl) t.rs.length (l.length-i) i=L) (fun i=>l.length-i) 1 (fun i => [(1,.vec (l.map cuC) fl),(2,.cp (pbP t S)),(4,.ptr 0 0 0),(36,.val (.int .i64 (l.length:Int))),(37,Yv i)]) (fun _ => [(0,⟨3,[[.val (.int .u8 0),.val (.int .i64 0),.val (.int .i64 0)]]⟩)]) (by decide) 0 ⟨Y0l _,hL⟩
  ⟨⟨rfl,hci _⟩,⟨rfl,hpi _⟩,⟨rfl,show 0<1 by decide⟩,⟨by rw [← hml]; rfl,Yt⟩,⟨rfl,Yt⟩,Yt⟩ ⟨⟨by decide,rfl,hz _⟩,Yt⟩ ?_
 rintro i ⟨hi,hk⟩;have hinc:IntKind.i64.wrap ((i:Int)+1)=((i+1:Nat):Int):=Y0v _ ⟨by omega,by omega⟩;refine gd 38 ⟨?_⟩;by_cases hil:i<l.length
 · refine Z0 (Z1 (v := true) rfl (decide_eq_true (by omega))) rfl rfl ?_;rw [Zda hil] at hk;generalize hM:kFind (escE t l fl i) t.rs.length 0=M at hk;refine go ?_;refine Zn hC (fun k=>k≤t.rs.length∧kFind (escE t l fl i) (t.rs.length-k) k=M) (fun k=>t.rs.length-k) 1 (fun k => [(1,.vec (l.map cuC) fl),(2,.cp (pbP t S)),(4,.ptr 0 0 0),(9,Yv i),(36,.val (.int .i64 (l.length:Int))),(37,Yv i),(42,.val (.int .i64 (t.rs.length:Int))),(43,.val (.int .i64 (k:Int)))]) (fun _ => [(0,⟨3,[[.val (.int .u8 0),.val (.int .i64 0),.val (.int .i64 0)]]⟩)]) (by decide) 0 ⟨Y0l _,hM⟩
    ⟨⟨rfl,hci _⟩,⟨rfl,hpi _⟩,⟨rfl,show 0<1 by decide⟩,⟨rfl,Yt⟩,⟨rfl,Yt⟩,⟨rfl,Yt⟩,⟨by rw [← hmr]; rfl,Yt⟩,⟨rfl,Yt⟩,Yt⟩ ⟨⟨by decide,rfl,hz _⟩,Yt⟩ ?_
   rintro k ⟨hk1,hk2⟩;have hink:IntKind.i64.wrap ((k:Int)+1)=((k+1:Nat):Int):=Y0v _ ⟨by omega,by omega⟩;refine gd 44 ⟨?_⟩;by_cases hkl:k<t.rs.length
   · refine Z0 (Z1 (v := true) rfl (decide_eq_true (by omega))) rfl rfl ?_;rw [Z7x hkl] at hk2;have he:=Z9i h S l fl hl hll i k hil hkl;have hee:escE t l fl i k=(escT t l fl l[i] t.rs[k]).isSome:=by unfold escE; rw [Z8r hil,ZeT hkl]
     rw [hee] at hk2;generalize escT t l fl l[i] t.rs[k]=O at he hk2;refine gd 51 ⟨?_⟩;refine Z6 he rfl rfl rfl ⟨hpp,hcp,Yt,Yt,Yt⟩ rfl ?_;cases O with
     | some o =>
       have hMs:M=some k:=hk2.symm;rw [hMs] at hk;have hLs:L=some (i,k):=hk.symm;rw [hLs];show opsK _ _ _ (updO _ _ (.tup [setN o,.val (.bool true)])) _ _;refine go ?_;exact Z5 rfl (Z1s (8,i,k)) rfl
     | none =>
       show opsK _ _ _ (updO _ _ (.tup [setN 0,.val (.bool false)])) _ _;refine go ?_;exact⟨k+1,⟨hkl,hk2⟩,by omega,⟨⟨rfl,hci _⟩,⟨rfl,hpi _⟩,⟨rfl,show 0<1 by decide⟩,⟨rfl,Yt⟩,⟨rfl,Yt⟩,⟨rfl,Yt⟩,⟨rfl,Yt⟩,⟨by show some _=some _; rw [hink],Yt⟩,Yt⟩,⟨⟨by decide,rfl,hz _⟩,Yt⟩⟩
   · obtain rfl : k = t.rs.length := by omega
     refine Z0 (Z1 (v:=false) rfl (Y0w (by omega))) rfl rfl ?_;rw [Nat.sub_self] at hk2;have hMn:M=none:=hk2.symm;rw [hMn] at hk;refine go ?_;exact⟨i+1,⟨hil,hk⟩,by omega,⟨⟨rfl,hci _⟩,⟨rfl,hpi _⟩,⟨rfl,show 0<1 by decide⟩,⟨rfl,Yt⟩,⟨by show some _=some _; rw [hinc],Yt⟩,Yt⟩,⟨⟨by decide,rfl,hz _⟩,Yt⟩⟩
 · obtain rfl : i = l.length := by omega
   refine Z0 (Z1 (v:=false) rfl (Y0w (by omega))) rfl rfl ?_;rw [Nat.sub_self] at hk;have hLn:L=none:=hk.symm;rw [hLn];refine go ?_;exact Z5 rfl (Z1s (1,0,0)) rfl
end
section
open Go.RowKit
def orL:List Nat→Nat
 | []=>0
 | x :: r=>x ||| orL r
noncomputable def depN (l:List Pr) (c:Cu):Nat:=orL ((mem (c.1 ||| c.2)).map (sen l))
theorem Z5S {l:List Pr} (hl:Small l) (s b:Nat) (hs:s<18446744073709551616):(clo l s).testBit b=true↔∃ r,s.testBit r=true∧1≤r∧(sen l b).testBit r=true:=by
 rw [Zen _ _ hs];refine exists_congr fun r=>and_congr_right fun _=>and_congr_right fun _=>?_;rw [Z6k hl,Z3w hl];exact or_congr_right eq_comm
theorem ZgC {l:List Pr} (hl:Small l) {s s':Nat} (hs:s<18446744073709551616) (hs':s'<18446744073709551616) (b:Nat) (he:∀ r,1≤r→(sen l b).testBit r=true→s.testBit r=s'.testBit r):(clo l s).testBit b=(clo l s').testBit b:=by
 rw [Bool.eq_iff_iff,Z5S hl s b hs,Z5S hl s' b hs'];constructor
 · rintro ⟨r, h1, h2, h3⟩;exact⟨r,by rw [← he r h2 h3]; exact h1,h2,h3⟩
 · rintro ⟨r, h1, h2, h3⟩;exact⟨r,by rw [he r h2 h3]; exact h1,h2,h3⟩
structure RelOk (t:PB) (R:Nat):Prop where
 gl:∀ c∈t.gl,∀ r,1≤r→(depN t.l c).testBit r=true→R.testBit r=true
 rs:∀ x∈t.rs,x.rev=false→R.testBit x.tg=true→∀ r,1≤r→(depN t.l x.cu).testBit r=true→R.testBit r=true
 nv:∀ c∈t.nv,depN t.l c &&& R≠0→∀ r,1≤r→(depN t.l c).testBit r=true→R.testBit r=true
section
variable {t:PB} (h:PbOk t) {R:Nat} (hR:RelOk t R)
include h
end
section
variable {t:PB} (h:PbOk t) {R:Nat} (hR:RelOk t R)
include h hR
end
theorem ZgD {l:List Pr} (hl:Small l) {s s':Nat} (hs:s<18446744073709551616) (hs':s'<18446744073709551616) (h:∀ i,s.testBit i=true→s'.testBit i=true) {b:Nat} (hb:(clo l s).testBit b=true):(clo l s').testBit b=true:=by
 rw [Z5S hl s b hs] at hb;rw [Z5S hl s' b hs'];obtain⟨r,h1,h2,h3⟩:=hb;exact⟨r,h _ h1,h2,h3⟩
structure Frag (t:PB):Prop where
 nv:t.nv = []
 rs:∀ x∈t.rs,x.cu.2=0
 gl:∀ c∈t.gl,c.2=0
section
variable {t:PB} (h:PbOk t) (hf:Frag t)
include h hf
end
end
section
def Sb (a b:Nat):Prop:=∀ i,a.testBit i=true→b.testBit i=true
theorem Sb.refl (a:Nat):Sb a a:=fun _ h=>h
theorem Z9j {a b:Nat}:a ||| b=b↔Sb a b:=orSub
theorem ZbR {a b:Nat}:a &&& b≠0↔∃ i,a.testBit i=true∧b.testBit i=true:=by
 constructor
 · intro h;obtain⟨i,hi⟩:=Nat.exists_testBit_of_ne_zero h;rw [Y0z,Y0k] at hi;exact⟨i,hi⟩
 · rintro ⟨i, h1, h2⟩ h;have:(a &&& b).testBit i=true:=by rw [Y0z,h1,h2]; rfl
   rw [h] at this;simp at this
theorem ZeU {c:Cu} {lo s hi:Nat} (h1:Sb lo s) (h2:Sb s hi) (h:satT c lo hi=0):hoC c s=false:=by
 apply Bool.eq_false_iff.2;intro hh;obtain⟨ha,hb⟩:=(Z7o c s).1 hh;unfold satT at h;have e1:decide (c.1 ||| hi=hi)=true:=decide_eq_true (Z9j.2 fun i hi'=>h2 i (ha i hi'));have e2:decide (c.2 &&& lo≠0)=false:=Y0w fun hm=>by
  obtain⟨i,h3,h4⟩:=ZbR.1 hm;have:=hb i h3;rw [h1 i h4] at this;cases this
 rw [e1,e2] at h;simp only [Bool.not_true,Bool.or_self,Bool.false_eq_true,if_false] at h
 split at h<;>cases h
theorem ZgE {c:Cu} {lo s hi:Nat} (h1:Sb lo s) (h2:Sb s hi) (h:satT c lo hi=2):hoC c s=true:=by
 unfold satT at h
 split at h
 · cases h
 split at h
 · rename_i hc;rw [Y0k,Y0n,Bool.not_eq_true',decide_eq_false_iff_not] at hc;refine (Z7o c s).2 ⟨fun i hi'=>h1 i (Z9j.1 hc.1 i hi'),fun i hi'=>Bool.eq_false_iff.2 fun hs=>hc.2 (ZbR.2 ⟨i,hi',h2 i hs⟩)⟩
 · cases h
theorem ZeV {c:Cu} {s:Nat}:satT c s s=0 ∨ satT c s s=2:=by
 unfold satT;by_cases h1:c.1 ||| s=s
 · by_cases h2 : c.2 &&& s ≠ 0
   · left; rw [decide_eq_true h1,decide_eq_true h2]; rfl
   · right; rw [decide_eq_true h1,Y0w h2]; rfl
 · left; rw [Y0w h1]; rfl
theorem Z5z (lo hi:Nat):∀ (l:List Cu) (a:Nat),a≤l.foldl (fun a c=>max a (satT c lo hi)) a
 | [],a=>Y0m _
 | c :: l,a=>Y03 (Nat.le_max_left ..) (Z5z lo hi l _)
theorem Z4T (lo hi:Nat):∀ (l:List Cu) (a:Nat) (c:Cu),c∈l→satT c lo hi≤l.foldl (fun a c=>max a (satT c lo hi)) a
 | x :: l, a, c, hc => by
   rcases List.mem_cons.1 hc with rfl|hc
   · exact Y03 (Nat.le_max_right a _) (Z5z lo hi l _)
   · exact Z4T lo hi l _ c hc
theorem Z3D (lo hi:Nat):∀ (l:List Cu) (a:Nat),l.foldl (fun a c=>max a (satT c lo hi)) a=a ∨ ∃ c∈l,l.foldl (fun a c=>max a (satT c lo hi)) a=satT c lo hi
 | [],a=>.inl rfl
 | x :: l, a => by
   rcases Z3D lo hi l (max a (satT x lo hi)) with h|⟨c,hc,h⟩
   · rcases Nat.le_total a (satT x lo hi) with h1 | h1
     · exact .inr ⟨x,Y0t ..,by show l.foldl _ (max a (satT x lo hi))=_; rw [h,Nat.max_eq_right h1]⟩
     · exact .inl (by show l.foldl _ (max a (satT x lo hi))=_; rw [h,Nat.max_eq_left h1])
   · exact .inr ⟨c,List.mem_cons_of_mem _ hc,h⟩
theorem Zdb {l:List Cu} {lo s hi:Nat} (h1:Sb lo s) (h2:Sb s hi) (h:someT l lo hi=0):soC l s=false:=by
 unfold soC;rw [List.any_eq_false];intro c hc;have:=Z4T lo hi l 0 c hc;change satT c lo hi≤someT l lo hi at this;rw [ZeU h1 h2 (by omega)]
 decide
theorem ZeW {l:List Cu} {lo s hi:Nat} (h1:Sb lo s) (h2:Sb s hi) (h:someT l lo hi=2):soC l s=true:=by
 rcases Z3D lo hi l 0 with h3|⟨c,hc,h3⟩
 · change someT l lo hi=0 at h3; omega
 · change someT l lo hi = _ at h3;exact Y01.2 ⟨c,hc,ZgE h1 h2 (by omega)⟩
theorem Z7y {l:List Cu} {s:Nat}:someT l s s=0 ∨ someT l s s=2:=by
 rcases Z3D s s l 0 with h3|⟨c,hc,h3⟩
 · exact .inl h3
 · have : someT l s s = satT c s s := h3;rw [this];exact ZeV
def Hold (cl:Nat→Nat) (d:ND) (s:Nat):Prop:=soC d.no (bndN cl d s)=false∧(d.mu=true→soC d.so (bndN cl d s)=true)
def MonC (cl:Nat→Nat):Prop:=∀ a b,a<18446744073709551616→b<18446744073709551616→Sb a b→Sb (cl a) (cl b)
theorem ZbS {d:ND} (hd:d.af<64) {a b:Nat} (ha:a<18446744073709551616) (hb:b<18446744073709551616) (h:Sb a b):Sb (aftN d a) (aftN d b):=fun i hi=>by
 unfold aftN at hi ⊢
 split
 · rename_i h0;rw [if_pos h0] at hi
   split
   · rename_i h3;rw [if_pos h3,ZA ha (ZG hd),Y0k] at hi;rw [ZA hb (ZG hd),Y0k];exact⟨h i hi.1,hi.2⟩
   · rename_i h3;rw [if_neg h3,Y00,Bool.or_eq_true] at hi;rw [Y00,Bool.or_eq_true];exact hi.imp (h i) id
 · rename_i h0;rw [if_neg h0] at hi;exact h i hi
theorem ZbT {cl:Nat→Nat} (hc:MonC cl) {d:ND} (hd:d.af<64) {a b:Nat} (ha:a<18446744073709551616) (hb:b<18446744073709551616) (h:Sb a b):Sb (bndN cl d a) (bndN cl d b):=by
 unfold bndN
 split
 · exact hc _ _ (Z4j hd ha) (Z4j hd hb) (ZbS hd ha hb h)
 · exact ZbS hd ha hb h
theorem Z9k {cl:Nat→Nat} (hc:MonC cl) {d:ND} (hd:d.af<64) {lo s hi:Nat} (hl:lo<18446744073709551616) (hs:s<18446744073709551616) (hh:hi<18446744073709551616) (h1:Sb lo s) (h2:Sb s hi) (h:valT cl d lo hi=0):¬ Hold cl d s:=by
 rintro⟨h3,h4⟩;have m1:=ZbT hc hd hl hs h1;have m2:=ZbT hc hd hs hh h2;have hno:someT d.no (bndN cl d lo) (bndN cl d hi)≠2:=fun e=>by rw [ZeW m1 m2 e] at h3; cases h3
 have hle:=ZbO d.no (bndN cl d lo) (bndN cl d hi);unfold valT at h
 split at h
 · rename_i hm;have hso:someT d.so (bndN cl d lo) (bndN cl d hi)≠0:=fun e=>by rw [Zdb m1 m2 e] at h4; cases h4 hm
   omega
 · omega
theorem Z3E (cl:Nat→Nat) (lo hi:Nat):∀ (ds:List ND) (a:Nat),ds.foldl (fun a d=>min a (valT cl d lo hi)) a=a ∨ ∃ d∈ds,ds.foldl (fun a d=>min a (valT cl d lo hi)) a=valT cl d lo hi
 | [],a=>.inl rfl
 | x :: ds, a => by
   rcases Z3E cl lo hi ds (min a (valT cl x lo hi)) with h|⟨c,hc,h⟩
   · rcases Nat.le_total a (valT cl x lo hi) with h1 | h1
     · exact .inl (by show ds.foldl _ (min a (valT cl x lo hi))=_; rw [h,Nat.min_eq_left h1])
     · exact .inr ⟨x,Y0t ..,by show ds.foldl _ (min a (valT cl x lo hi))=_; rw [h,Nat.min_eq_right h1]⟩
   · exact .inr ⟨c,List.mem_cons_of_mem _ hc,h⟩
theorem Z9l {cl:Nat→Nat} {d:ND} {s:Nat}:valT cl d s s=0 ∨ valT cl d s s=2:=by
 have h1:=Z7y (l:=d.no) (s:=bndN cl d s);have h2:=Z7y (l:=d.so) (s:=bndN cl d s);unfold valT
 split<;>omega
theorem ZeX {cl:Nat→Nat} (hc:MonC cl) {ds:List ND} (hds:∀ d∈ds,d.af<64):∀ (f left s:Nat),left<18446744073709551616→s<18446744073709551616→(∀ i,left.testBit i=true→64≤i+f)→tryT cl ds (f+1) left s=none→∀ x,x<18446744073709551616→Sb s x→Sb x (s ||| left)→¬ ∀ d∈ds,Hold cl d x:=by
 intro f
 induction f with
 | zero =>
   intro left s hl hs hf hT x hx hsx hxl hall;have hl0:left=0:=by
    apply Nat.eq_of_testBit_eq;intro i;rw [Nat.zero_testBit];apply Bool.eq_false_iff.2;intro hi;have h1:=hf i hi;have h2:=Z5t hl hi;omega
   subst hl0;have hor:=Z1U hs hl;change (if minT cl ds s (s ||| 0)=2 then some s else if minT cl ds s (s ||| 0)=0 then none else if 0=0 then none else _)=none at hT;rw [Nat.or_zero] at hT hxl hor;have hmin:minT cl ds s s=2 ∨ ∃ d∈ds,minT cl ds s s=valT cl d s s:=Z3E cl s s ds 2;by_cases h2:minT cl ds s s=2
   · rw [if_pos h2] at hT; cases hT
   rcases hmin with h|⟨d,hd,h⟩
   · exact h2 h
   · rcases Z9l (cl := cl) (d := d) (s := s) with h3 | h3
     · exact Z9k hc (hds d hd) hs hx hs hsx hxl h3 (hall d hd)
     · exact h2 (by omega)
 | succ f ih =>
   intro left s hl hs hf hT x hx hsx hxl hall;have hor:=Z1U hs hl
   change (if minT cl ds s (s ||| left)=2 then some s else if minT cl ds s (s ||| left)=0 then none else if left=0 then none else
    match tryT cl ds (f+1) (minusN left (2 ^ leastN left)) s with
    | some o=>some o
    | none=>tryT cl ds (f+1) (minusN left (2 ^ leastN left)) (s ||| 2 ^ leastN left))=none at hT
   have hmin:minT cl ds s (s ||| left)=2 ∨ ∃ d∈ds,minT cl ds s (s ||| left)=valT cl d s (s ||| left):=Z3E cl s (s ||| left) ds 2;by_cases h2:minT cl ds s (s ||| left)=2
   · rw [if_pos h2] at hT; cases hT
   rw [if_neg h2] at hT;by_cases h0:minT cl ds s (s ||| left)=0
   · rcases hmin with h | ⟨d, hd, h⟩
     · exact h2 h
     · exact Z9k hc (hds d hd) hs hx hor hsx hxl (by omega) (hall d hd)
   rw [if_neg h0] at hT;by_cases hl0:left=0
   · subst hl0;rw [Nat.or_zero] at h2 h0 hmin;rcases hmin with h|⟨d,hd,h⟩
     · exact h2 h
     · rcases Z9l (cl := cl) (d := d) (s := s) with h3 | h3
       · exact h0 (by omega)
       · exact h2 (by omega)
   rw [if_neg hl0] at hT;have hlb:=Z5i hl hl0;have hl64:=Z6B left;have hm:=Z5h left (2 ^ leastN left);have hmb:∀ i,(minusN left (2 ^ leastN left)).testBit i=true↔left.testBit i=true∧i≠leastN left:=fun i=>by
    rw [ZA hl (ZG hl64),Nat.testBit_two_pow];simp only [Y0k,Bool.not_eq_true',decide_eq_false_iff_not];exact⟨fun h=>⟨h.1,fun e=>h.2 e.symm⟩,fun h=>⟨h.1,fun e=>h.2 e.symm⟩⟩
   have hbits:∀ i,(minusN left (2 ^ leastN left)).testBit i=true→64≤i+f:=fun i hi=>by
    obtain⟨h3,h4⟩:=(hmb i).1 hi;have h1:leastN left<i:=by
     rcases Nat.lt_trichotomy i (leastN left) with h|h|h
     · rw [hlb.2 i h] at h3; cases h3
     · exact absurd h h4
     · exact h
    have:=hf _ hlb.1;omega
   cases h1:tryT cl ds (f+1) (minusN left (2 ^ leastN left)) s with
   | some o=>rw [h1] at hT; cases hT
   | none =>
     rw [h1] at hT;dsimp only at hT;by_cases hxr:x.testBit (leastN left)=true
     · refine ih _ _ (by omega) (Z1U hs (ZG hl64)) hbits hT x hx (fun i hi => ?_) (fun i hi => ?_) hall
       · rw [Y00, Bool.or_eq_true, Nat.testBit_two_pow, Y0n] at hi;rcases hi with hi|rfl
         · exact hsx i hi
         · exact hxr
       · have := hxl i hi;rw [Y00,Bool.or_eq_true] at this;rw [Y00,Y00,Bool.or_eq_true,Bool.or_eq_true,Nat.testBit_two_pow,Y0n,hmb];by_cases he:i=leastN left
         · exact .inl (.inr he.symm)
         · exact this.elim (fun h=>.inl (.inl h)) fun h=>.inr ⟨h,he⟩
     · refine ih _ _ (by omega) hs hbits h1 x hx hsx (fun i hi => ?_) hall;have:=hxl i hi;rw [Y00,Bool.or_eq_true] at this;rw [Y00,Bool.or_eq_true,hmb];refine this.imp id fun h=>⟨h,fun e=>hxr ?_⟩
       subst e;exact hi
theorem ZgF {l:List Pr} (hl:Small l):MonC (clo l):=fun a b ha hb h i hi=>ZgD hl ha hb h hi
theorem Z8s (sn:Nat→Nat) (d:ND):∀ (l:List Nat) (o:Nat),Sb o (relS sn d o l)
 | [],o=>Sb.refl o
 | r :: l, o => fun i hi => Z8s sn d l _ i (by
   show (if d.cl then o ||| sn r else o).testBit i=true
   split
   · rw [Y00,hi]; rfl
   · exact hi)
theorem ZbU (sn:Nat→Nat) {d:ND} (hc:d.cl=true):∀ (l:List Nat) (o:Nat) {r:Nat},r∈l→Sb (sn r) (relS sn d o l)
 | x :: l, o, r, hr => by
   rcases List.mem_cons.1 hr with rfl|hr
   · intro i hi;refine Z8s sn d l _ i ?_;show (if d.cl then o ||| sn r else o).testBit i=true;rw [hc,if_pos rfl,Y00,hi,Bool.or_true]
   · exact ZbU sn hc l _ hr
theorem ZaP (sn:Nat→Nat):∀ (ds:List ND) (o:Nat),Sb o (ds.foldl (fun o d=>relS sn d (o ||| mOf d) (mem (mOf d))) o)
 | [],o=>Sb.refl o
 | d :: ds,o=>fun i hi=>ZaP sn ds _ i (Z8s sn d _ _ i (by rw [Y00,hi]; rfl))
theorem ZbV (sn:Nat→Nat):∀ (ds:List ND) (o:Nat) {d:ND},d∈ds→Sb (mOf d) (ds.foldl (fun o d=>relS sn d (o ||| mOf d) (mem (mOf d))) o)∧(d.cl=true→∀ r∈mem (mOf d),Sb (sn r) (ds.foldl (fun o d=>relS sn d (o ||| mOf d) (mem (mOf d))) o))
 | x :: ds, o, d, hd => by
   rcases List.mem_cons.1 hd with rfl|hd
   · exact⟨fun i hi=>ZaP sn ds _ i (Z8s sn d _ _ i (by rw [Y00,hi,Bool.or_true])),fun hc r hr i hi=>ZaP sn ds _ i (ZbU sn hc _ _ hr i hi)⟩
   · exact ZbV sn ds _ hd
theorem ZgG {l:List Pr} {a r:Nat} (h:Up l a r):∃ b,(a,b)∈l:=by
 induction h with
 | one h=>exact⟨_,h⟩
 | more _ _ ih=>exact ih
theorem Z4U (n i:Nat):(fullN n).testBit i=decide (i<n+1):=Nat.testBit_two_pow_sub_one (n+1) i
theorem Z9m {d:ND} (hd:d.af<64) {a b:Nat} (ha:a<18446744073709551616) (hb:b<18446744073709551616) {i:Nat} (h:a.testBit i=b.testBit i):(aftN d a).testBit i=(aftN d b).testBit i:=by
 unfold aftN
 split
 · split
   · rw [ZA ha (ZG hd),ZA hb (ZG hd),h]
   · rw [Y00,Y00,h]
 · exact h
theorem ZeY {c:Cu} {a b:Nat} (h:∀ i,c.1.testBit i=true ∨ c.2.testBit i=true→a.testBit i=b.testBit i):hoC c a=hoC c b:=by
 rw [Bool.eq_iff_iff,Z7o,Z7o];constructor
 · rintro ⟨h1, h2⟩;exact⟨fun i hi=>by rw [← h i (.inl hi)]; exact h1 i hi,fun i hi=>by rw [← h i (.inr hi)]; exact h2 i hi⟩
 · rintro ⟨h1, h2⟩;exact⟨fun i hi=>by rw [h i (.inl hi)]; exact h1 i hi,fun i hi=>by rw [h i (.inr hi)]; exact h2 i hi⟩
theorem Z9n {l:List Cu} {a b:Nat} (h:∀ i,(mentC l).testBit i=true→a.testBit i=b.testBit i):soC l a=soC l b:=by
 have hm:∀ (l:List Cu) (x:Nat),Sb x (l.foldl (fun s c=>(s ||| c.1) ||| c.2) x):=by
  intro l
  induction l with
  | nil=>exact fun x=>Sb.refl x
  | cons c l ih=>exact fun x i hi=>ih _ i (by rw [Y00,Y00,hi]; rfl)
 have hc:∀ (l:List Cu) (x:Nat) (c:Cu),c∈l→∀ i,c.1.testBit i=true ∨ c.2.testBit i=true→(l.foldl (fun s c=>(s ||| c.1) ||| c.2) x).testBit i=true:=by
  intro l
  induction l with
  | nil=>exact fun x c hc=>by cases hc
  | cons y l ih =>
    intro x c hc i hi;rcases List.mem_cons.1 hc with rfl|hc
    · exact hm l _ i (by rw [Y00,Y00]; rcases hi with hi|hi<;>simp [hi])
    · exact ih _ c hc i hi
 unfold soC;have e:∀ c∈l,hoC c a=hoC c b:=fun c hcl=>ZeY fun i hi=>h i (hc l 0 c hcl i hi);rw [Bool.eq_iff_iff,Y01,Y01];exact⟨fun ⟨c,h1,h2⟩=>⟨c,h1,by rw [← e c h1]; exact h2⟩,fun ⟨c,h1,h2⟩=>⟨c,h1,by rw [e c h1]; exact h2⟩⟩
theorem Z6C {t:PB} (h:PbOk t) {ds:List ND} (hds:∀ d∈ds,NdZ d) (hfl:∀ d∈ds,Sb (mOf d) (fullN t.n)) (hT:solveT (clo t.l) (sen t.l) t.n ds=none) {s:Nat} (hs:s<18446744073709551616):¬ ∀ d∈ds,Hold (clo t.l) d s:=by
 intro hall;have hsm:=h.good.small;have hrl:relT (sen t.l) ds<18446744073709551616:=Z8p (fun r hr=>Zes t.l hsm hr) ds 0 (fun d hd=>(hds d hd).toNdOk) (by decide);have hleft:relT (sen t.l) ds &&& fullN t.n<18446744073709551616:=Y02 Nat.and_le_left hrl;have hx:s &&& (relT (sen t.l) ds &&& fullN t.n)<18446744073709551616:=Y02 Nat.and_le_left hs
 refine ZeX (ZgF hsm) (fun d hd=>(hds d hd).af) 64 (relT (sen t.l) ds &&& fullN t.n) 0 hleft (by decide) (fun i _=>by omega) hT (s &&& (relT (sen t.l) ds &&& fullN t.n)) hx (fun i hi=>by simp at hi) (fun i hi=>by
  rw [Y0z,Y0k] at hi
  rw [Nat.zero_or]; exact hi.2) fun d hd=>?_
 obtain⟨h1,h2⟩:=hall d hd;obtain⟨hm1,hm2⟩:=ZbV (sen t.l) ds 0 hd;have hdz:=hds d hd;have hmf:=hfl d hd;have agr:∀ i,(relT (sen t.l) ds).testBit i=true→(fullN t.n).testBit i=true→s.testBit i=(s &&& (relT (sen t.l) ds &&& fullN t.n)).testBit i:=fun i h3 h4=>by
  rw [Y0z,Y0z,h3,h4]; simp
 have key:∀ i,(mOf d).testBit i=true→(bndN (clo t.l) d s).testBit i=(bndN (clo t.l) d (s &&& (relT (sen t.l) ds &&& fullN t.n))).testBit i:=fun i hi=>by
  unfold bndN
  split
  · rename_i hcl;have him:i∈mem (mOf d):=(Z37 (ZeQ hdz.toNdOk)).2 hi;refine ZgC hsm (Z4j hdz.af hs) (Z4j hdz.af hx) i fun r hr1 hr2=>Z9m hdz.af hs hx (agr r (hm2 hcl i him r hr2) ?_);rw [Z4U,Y0n];rcases (Z3w hsm i r).1 hr2 with hu|rfl
    · obtain ⟨b, hb⟩ := ZgG hu;have:=(h.lk _ hb).1;omega
    · have := hmf r hi;rw [Z4U,Y0n] at this;exact this
  · exact Z9m hdz.af hs hx (agr i (hm1 i hi) (hmf i hi))
 refine⟨?_,fun hm=>?_⟩
 · rw [← Z9n (l := d.no) fun i hi => key i (by unfold mOf; rw [Y00, hi, Bool.or_true])];exact h1
 · rw [← Z9n (l := d.so) fun i hi => key i (by unfold mOf; rw [Y00, hi]; rfl)];exact h2 hm
end
section
open Go.RowKit
attribute [local irreducible] aw opsK dK
theorem Zj9 {n i mask id:Nat} {P:Program} {e:Env} {h:Heap} {d:Option Nat} {f:Operand} {as0:List Operand} {iso:Nat} {alt:Bool} {xs:List DItem} {K:Env→Heap→Prop} {g:FuncId} {caps as1:List PV} {args:Nat→List PV} {b:Bx} {R:PV→Bx→Prop} (hs:QSpec P g args b R) (hm:MkL args) (hf:ev e f=some (.fn g caps)) (ha:evs e as0=some as1) (hr:as1++caps=args id) (hb:h id=some b) (hpb:pureLL b.elems)
 (hk:∀ r b',r.pure→pureLL b'.elems→R r b'→dK P (.to id) n xs (updO e d r) (h.upd id b') K):dK P (.to id) n (⟨i,⟨d,.call f as0,none⟩,mask,iso,alt⟩ :: xs) e h K:=by
 unfold dK;refine⟨_,.callP rfl f as0 rfl id rfl b hb R ⟨g,caps,as1,hf,ha,by rw [hr]; exact hs.prun hm hpb id⟩,?_⟩;rintro p' f' ⟨b',rfl,h1,h2,h3⟩;exact hk p' b' h1 h2 h3
def HS.zero (t:Nat):HS:=⟨List.replicate 25 0,List.replicate 136 0,0,t⟩
theorem ZeZ (t:Nat):HOk (HS.zero t):=⟨rfl,fun w hw=>by rw [List.eq_of_mem_replicate hw]; decide,rfl,fun w hw=>by rw [List.eq_of_mem_replicate hw]; decide,by show 0<136; decide⟩
theorem ZaQ:NSpec Tryz.prog 156 [] (fun i=>.ptr i 0 0) (hBx (HS.zero 0)):=by
 refine Z1B ok156 (Nat.le_of_ble_eq_true rfl) fun C hC=>?_;refine go ?_;exact⟨_,_,rfl,.inl rfl,_,rfl,by show some _=some _; kernel_rfl⟩
theorem ZhN (h0:HS) (hh0:HOk h0) (p:List Nat) (fl0:Bool) (hp:W8 p) (hlen:h0.total+p.length<1000000000000):PSpec Tryz.prog 157 (hBx h0) [.vec (bys p) fl0] (fun r b'=>b'=hBx (HS.puts (p.length+1) ⟨h0.st,h0.bl,h0.used,h0.total+p.length⟩ p)):=by
 refine Z1z ok157 (Nat.le_of_ble_eq_true rfl) fun C hC=>?_;have hbl:∀ l:List Nat,(bys l).length=l.length:=fun l=>by simp [bys]
 have hC0:=Z7u (u:=.val (.int .i64 (h0.used:Int))) (t:=.val (.int .u64 (h0.total:Int))) hh0.sl hh0.bl;refine gd 10 ⟨?_⟩;refine Z0 (ZaG (l:=hCells h0.st h0.bl (.val (.int .i64 (h0.used:Int))) (.val (.int .u64 (h0.total:Int)))) rfl rfl (by rw [hC0]; decide) (Zj8 hh0.sl hh0.bl)) rfl rfl ?_;refine gd 13 ⟨?_⟩;refine Z8 (v:=(p.length:Int)) rfl rfl rfl (by rw [hbl]; exact Y0x _ ⟨by omega,by omega⟩) ?_;refine Z8 (v:=((h0.total+p.length:Nat):Int)) rfl rfl rfl (Y0x _ ⟨by omega,by omega⟩) ?_
 iterate 2 (first|refine st ?_|(apply B<;>intro hb<;>try cases hb))
 refine Z0 (ZhH (l:=hCells h0.st h0.bl (.val (.int .i64 (h0.used:Int))) (.val (.int .u64 (h0.total:Int)))) rfl rfl rfl (by decide) (ZhF hh0.sl hh0.bl _)) rfl rfl ?_;have hh1:HOk ⟨h0.st,h0.bl,h0.used,h0.total+p.length⟩:=⟨hh0.sl,hh0.sw,hh0.bl,hh0.bw,hh0.us⟩
 generalize hX0:(⟨h0.st,h0.bl,h0.used,h0.total+p.length⟩:HS)=X0 at hh1;generalize hfin:HS.puts (p.length+1) X0 p=fin;refine go ?_;refine Zn hC (fun x:HS×List Nat×Bool=>HOk x.1∧W8 x.2.1∧x.2.1.length≤p.length∧HS.puts (p.length+1) x.1 x.2.1=fin) (fun x=>x.2.1.length) 1 (fun x => [(0,.ptr 0 0 0),(1,.vec (bys x.2.1) x.2.2)]) (fun x => [(0,hBx x.1)]) (by decide) (X0,p,fl0) ⟨hh1,hp,Y0m _,hfin⟩
  ⟨⟨rfl,show 0<1 by decide⟩,⟨rfl,Zav _ _⟩,Yt⟩ ⟨⟨by decide,by rw [← hX0]; rfl,Z5g _ _⟩,Yt⟩ ?_
 rintro⟨x,q,fl⟩ ⟨hx,hq,hql,hqf⟩;dsimp only at hx hq hql hqf;have hCx:=fun (u t:PV)=>Z7u (u:=u) (t:=t) hx.sl hx.bl;have hus:=hx.us;have hbq:=hbl q;refine gd 19 ⟨?_⟩;by_cases hq0:q.length=0
 · refine Z0 (Z1 (v := false) rfl (Y0w (by show ¬ (((bys q).length : Int) > 0); omega))) rfl rfl ?_;rw [Z6A hq0] at hqf;subst hqf;refine go ?_;exact⟨_,_,rfl,.inl rfl,_,rfl,Yt,Z3d _,rfl⟩
 · refine Z0 (Z1 (v := true) rfl (decide_eq_true (by show ((bys q).length : Int) > 0; omega))) rfl rfl ?_;rw [ZeI hx hq hq0 (by omega)] at hqf;have hput:=ZgZ x q;have hpok:=ZbN hx hq;have hnl:=Z8o hx q;have hnw:=ZbM hx hq;have hcp:=ZhG (u:=.val (.int .i64 (x.used:Int))) (t:=.val (.int .u64 (x.total:Int))) hx.sl hx.bl hus q;change _=hCells x.st (nblk x q) _ _ at hcp;generalize hnn:min q.length (136-x.used)=nn at hqf hput;have hCn:=fun (u t:PV)=>Z7u (u:=u) (t:=t) hx.sl hnl;refine gd 26 ⟨?_⟩;refine Ze (ZaG (l:=hCells x.st x.bl (.val (.int .i64 (x.used:Int))) (.val (.int .u64 (x.total:Int)))) rfl rfl (by rw [hCx]; decide) (Ziu hx.sl hx.bl)) rfl rfl ?_;refine Ze (Zgv rfl x.used 136 rfl rfl (by omega) (by omega) (by omega)) rfl rfl ?_;refine gd 29 ⟨?_⟩;refine Ze (ZiU (l:=hCells x.st x.bl (.val (.int .i64 (x.used:Int))) (.val (.int .u64 (x.total:Int)))) rfl rfl rfl (by omega) hcp) rfl rfl ?_;rw [hnn];refine gd 32 ⟨?_⟩;refine Z0 (Z8M (xs:=q) (g:=fun (x:Nat) => [.val (.int .u8 (x:Int))]) rfl nn q.length rfl (by show some ((List.map (fun (x:Nat) => [PV.val (.int .u8 (x:Int))]) q).length:Int)=_; rw [Y0f]) (by omega) (Y0m _) (fun _=>rfl)) rfl rfl ?_;rw [Y0q];refine gd 36 ⟨?_⟩;refine Z0 (ZaG (l:=hCells x.st (nblk x q) (.val (.int .i64 (x.used:Int))) (.val (.int .u64 (x.total:Int)))) rfl rfl (by rw [hCn]; decide) (Ziu hx.sl hnl)) rfl rfl ?_;refine gd 38 ⟨?_⟩;refine Z8 (v:=((x.used+nn:Nat):Int)) rfl rfl rfl (wi (x.used+nn) (by omega)) ?_
   iterate 2 (first|refine st ?_|(apply B<;>intro hb<;>try cases hb))
   refine Z0 (ZhH (l:=hCells x.st (nblk x q) (.val (.int .i64 (x.used:Int))) (.val (.int .u64 (x.total:Int)))) rfl rfl rfl (by decide) (ZeK hx.sl hnl _)) rfl rfl ?_;refine gd 44 ⟨?_⟩;refine Z0 (ZaG (l:=hCells x.st (nblk x q) (.val (.int .i64 ((x.used+nn:Nat):Int))) (.val (.int .u64 (x.total:Int)))) rfl rfl (by rw [hCn]; decide) (Ziu hx.sl hnl)) rfl rfl ?_;by_cases h136:x.used+nn=136
   · refine Z0 (Z1 (v := true) rfl (decide_eq_true (by rw [h136]; rfl))) rfl rfl ?_;rw [if_pos h136] at hput
     repeat' (first|refine ZfH [] 0 (by decide) ?_|refine Zb 52 ?_|(first|refine st ?_|(apply B<;>intro hb<;>try cases hb)))
     refine At.mk ?_;refine Ze (Zgv rfl 0 136 rfl rfl (by decide) (by decide) (by decide)) rfl rfl ?_;refine Zj9 (Zgt x.st (nblk x q) hx.sl hx.sw hnl hnw [.val (.int .i64 ((x.used+nn:Nat):Int)),.val (.int .u64 (x.total:Int))] ⟨Yt,Yt,Yt⟩) (Z8k (Z6w 0 0) (Z8k (Zim 0 25 136 136) ZeC)) rfl rfl rfl rfl ⟨ZeL Yt Yt,Yt⟩ ?_;rintro r b' hr1 hr2 rfl;refine gd 56 ⟨?_⟩;(first|refine st ?_|(apply B<;>intro hb<;>try cases hb));refine Z0 (ZhH (l:=hCells (absorb x.st (nblk x q)) (nblk x q) (.val (.int .i64 ((x.used+nn:Nat):Int))) (.val (.int .u64 (x.total:Int)))) rfl rfl rfl (show 161+1≤163 by decide) (ZeK (Z5f hx.sl) hnl _)) rfl rfl ?_;refine go ?_;exact⟨(x.put q,q.drop nn,false),⟨hpok,hq.sub fun x hx=>List.mem_of_mem_drop hx,by show (q.drop nn).length≤_; rw [List.length_drop]; omega,hqf⟩,by show (q.drop nn).length<q.length; rw [List.length_drop]; omega,⟨⟨rfl,show 0<1 by decide⟩,⟨rfl,Zav _ _⟩,Yt⟩,⟨⟨by decide,by show _=some (hBx (x.put q)); rw [hput]; rfl,Z5g _ _⟩,Yt⟩⟩
   · refine Z0 (Z1 (v := false) rfl (Y0w (by omega))) rfl rfl ?_;rw [if_neg h136] at hput;refine go ?_;exact⟨(x.put q,q.drop nn,false),⟨hpok,hq.sub fun x hx=>List.mem_of_mem_drop hx,by show (q.drop nn).length≤_; rw [List.length_drop]; omega,hqf⟩,by show (q.drop nn).length<q.length; rw [List.length_drop]; omega,⟨⟨rfl,show 0<1 by decide⟩,⟨rfl,Zav _ _⟩,Yt⟩,⟨⟨by decide,by show _=some (hBx (x.put q)); rw [hput]; rfl,Z5g _ _⟩,Yt⟩⟩
theorem Zf0 (kd:IntKind) (l:List Nat) (n:Nat):(crow kd l).take n=crow kd (l.take n):=by unfold crow; rw [List.map_take]
theorem Zf1 (kd:IntKind) (l:List Nat) (n:Nat):(crow kd l).drop n=crow kd (l.drop n):=by unfold crow; rw [List.map_drop]
theorem ZgH (kd:IntKind) (l m:List Nat):crow kd (l++m)=crow kd l++crow kd m:=by unfold crow; rw [Y0r]
section
variable {e:Env} {h:Heap} {n k:Nat} {Eb:Nat}
theorem Z3F {a:Operand} {l r:List PV} {off size:Nat} (ha:ev e a=some (.ptr k 0 off)) (hb:h k=some ⟨Eb,[l]⟩) (hl:off+size≤l.length) (hv:(l.drop off).take size=r):dEval (.load true size a) e h n=some (.agg r,h):=by
 subst hv;exact Z2t ha hb Nat.zero_lt_one (by show cutAt true size off l=_; unfold cutAt; rw [if_pos hl])
theorem Z4k {a v:Operand} {l r:List PV} {size:Nat} (ha:ev e a=some (.ptr k 0 0)) (hv:ev e v=some (.agg r)) (hb:h k=some ⟨size,[l]⟩) (hr:r.length=size) (hl:l.length=size):dEval (.store size a v) e h n=some (pvu,h.upd k ⟨size,[r ++ []]⟩):=by
 have h1:=Z1R (n:=n) (size:=size) ha hv hb rfl hr Nat.zero_lt_one (by show 0+size≤size;omega);rw [h1];have e1:setAt l 0 r=r ++ []:=by
  unfold setAt;rw [List.take_zero,List.nil_append,List.drop_of_length_le (by omega)]
 show some (pvu,h.upd k ⟨size,[setAt l 0 r]⟩)=_;rw [e1]
theorem Ziw {d s:Operand} {k2 Eb2 o o2 len len2 cap cap2:Nat} {l l2 l':List PV} (hd:ev e d=some (.sl k 0 o len cap)) (hs:ev e s=some (.sl k2 0 o2 len2 cap2)) (hb:h k=some ⟨Eb,[l]⟩) (hb2:h k2=some ⟨Eb2,[l2]⟩) (hE:o+len≤Eb) (hE2:o2+len2≤Eb2) (hl:setAt l o (((l2.drop o2).take len2).take len)=l'):dEval (.copy 1 d s) e h n=some (.val (.int .i64 ((min len2 len:Nat):Int)),h.upd k ⟨Eb,[l']⟩):=by
 subst hl;simp only [dEval,hd,hs,hb,hb2];rw [if_pos ⟨Yt,show 0<1 by decide,hE,show 0<1 by decide,hE2⟩]
 rfl
end
theorem Z1V {e:Env} {h:Heap} {a size:Nat} {r:PV} (hd:dEval (.load true size (.tmp a)) e h 0=some (r,h)):retAll [.cell a true size] e h=some r:=by
 simp [retAll,retVs,retV,hd]
def last0 (h:HS):List Nat:=h.bl.take h.used++List.replicate (136-h.used) 0
theorem Z9o {h:HS} (hh:HOk h):(last0 h).length=136:=by
 have h1:=hh.bl;have h2:=hh.us;simp only [last0,Y0e,Y0o,List.length_replicate];omega
theorem Zf2 {h:HS} (hh:HOk h):W8 (last0 h):=fun x hx=>by
 rcases Y0h.1 hx with h1|h1
 · exact hh.bw x (List.mem_of_mem_take h1)
 · rw [List.eq_of_mem_replicate h1]; decide
theorem W8.set {l:List Nat} (h:W8 l) {i x:Nat} (hx:x<256):W8 (l.set i x):=fun w hw=>by
 rcases List.mem_or_eq_of_mem_set hw with hw|rfl
 · exact h w hw
 · exact hx
theorem Z8t (h:HS):lastB h.bl h.used=((last0 h).set h.used 6).set 135 (g0 ((last0 h).set h.used 6) 135 ^^^ 128):=rfl
theorem ZhO {a b:Nat} (ha:a<256) (hb:b<256):a ^^^ b<256:=Nat.xor_lt_two_pow (n:=8) ha hb
theorem Zf3 {h:HS} (hh:HOk h):(lastB h.bl h.used).length=136:=by rw [Z8t,List.length_set,List.length_set,Z9o hh]
theorem Zf4 {h:HS} (hh:HOk h):W8 (lastB h.bl h.used):=by
 rw [Z8t];have h1:W8 ((last0 h).set h.used 6):=(Zf2 hh).set (by decide);exact h1.set (ZhO (h1.g _) (by decide))
theorem Zf5 {h:HS} (hh:HOk h) (u t:PV):setAt (crow .u8 (List.replicate 136 0)) 0 ((((hCells h.st h.bl u t).drop 25).take h.used).take 136)=crow .u8 (last0 h) ++ []:=by
 have h1:=hh.bl;have h2:=hh.us;have hst:(crow .u64 h.st).length=25:=by rw [Zx,hh.sl]
 have e1:(((hCells h.st h.bl u t).drop 25).take h.used).take 136=crow .u8 (h.bl.take h.used):=by
  unfold hCells;rw [List.drop_append,hst,List.drop_of_length_le (by omega),show 25-25=0 by decide,List.drop_zero,List.nil_append,List.take_append,Zx,show h.used-h.bl.length=0 by omega,List.take_zero,Y0p,List.take_take,Nat.min_eq_right (by omega),Zf0]
 rw [e1];unfold setAt;rw [List.take_zero,List.nil_append,Zx,Y0o,show min h.used h.bl.length=h.used by omega,Nat.zero_add,Zf1,List.drop_replicate,← ZgH,Y0p]
 rfl
def dPart (st:List Nat) (i:Nat):List Nat:=(List.range 32).map fun k=>if k<i then digI st k else 0
theorem Z3G (st:List Nat) (i:Nat):(dPart st i).length=32:=by simp [dPart]
theorem Zdc (st:List Nat) {i:Nat} (h:i<32):(dPart st i).set i (digI st i)=dPart st (i+1):=by
 refine Z5e (by rw [List.length_set,Z3G,Z3G]) fun x hx=>?_;rw [List.length_set,Z3G] at hx;rw [ZeF,Z3G];unfold dPart;rw [Z3A _ hx,Z3A _ hx];by_cases h1:x=i
 · subst h1; rw [if_pos ⟨rfl,h⟩,if_pos (by omega)]
 · rw [if_neg (by omega)];by_cases h2:x<i
   · rw [if_pos h2,if_pos (by omega)]
   · rw [if_neg h2,if_neg (by omega)]
theorem Zf6 (st:List Nat):dPart st 32=(List.range 32).map (digI st):=List.map_congr_left fun x hx=>by rw [if_pos (List.mem_range.1 hx)]
def sumOf (h:HS):List Nat:=(List.range 32).map (digI (absorb h.st (lastB h.bl h.used)))
theorem ZiW (x:HS) (hx:HOk x):PSpec Tryz.prog 158 (hBx x) [] (fun r b'=>r=.agg (crow .u8 (sumOf x))∧b'=hBx x):=by
 refine Z1z ok158 (Nat.le_of_ble_eq_true rfl) fun C hC=>?_;have hCx:=fun (u t:PV)=>Z7u (u:=u) (t:=t) hx.sl hx.bl;have hus:=hx.us;have hl0:=Z9o hx;have hw0:=Zf2 hx;refine gd 13 ⟨?_⟩
 refine Z0 (Z3F (l:=hCells x.st x.bl (.val (.int .i64 (x.used:Int))) (.val (.int .u64 (x.total:Int)))) (r:=crow .u64 x.st) rfl rfl (by rw [hCx]; decide) (by
  unfold hCells
  rw [List.drop_zero,List.take_append,Zx,hx.sl,Nat.sub_self,List.take_zero,Y0p,List.take_of_length_le (by rw [Zx,hx.sl]; exact Y0m _)])) rfl rfl ?_
 (first|refine st ?_|(apply B<;>intro hb<;>try cases hb));refine Z0 (Z4k (l:=crow .u64 (List.replicate 25 0)) rfl rfl rfl (by rw [Zx,hx.sl]) rfl) rfl rfl ?_;refine gd 21 ⟨?_⟩;refine Ze (ZaG (l:=hCells x.st x.bl (.val (.int .i64 (x.used:Int))) (.val (.int .u64 (x.total:Int)))) rfl rfl (by rw [hCx]; decide) (Ziu hx.sl hx.bl)) rfl rfl ?_;refine Ze (Zgv rfl 0 x.used rfl rfl (by omega) (by omega) (by omega)) rfl rfl ?_;refine Ze (Ziw (l:=crow .u8 (List.replicate 136 0)) (l2:=hCells x.st x.bl (.val (.int .i64 (x.used:Int))) (.val (.int .u64 (x.total:Int)))) rfl rfl rfl rfl (by decide) (by show 25+0+(x.used-0)≤163;omega) (Zf5 hx _ _)) rfl rfl ?_;refine gd 27 ⟨?_⟩;refine Z0 (ZaG (l:=hCells x.st x.bl (.val (.int .i64 (x.used:Int))) (.val (.int .u64 (x.total:Int)))) rfl rfl (by rw [hCx]; decide) (Ziu hx.sl hx.bl)) rfl rfl ?_;refine Z0 (Z2O rfl rfl x.used rfl (by omega)) rfl rfl ?_;refine Z0 (Z8l (kd:=.u8) (L:=last0 x) (x:=6) (Eb:=136) (pre := []) (post := []) (o:=0) rfl rfl rfl rfl (by omega) (by omega)) rfl rfl ?_;have hs1:((last0 x).set x.used 6).length=136:=by rw [List.length_set]; exact hl0
 have hs2:W8 ((last0 x).set x.used 6):=hw0.set (by decide);refine gd 30 ⟨?_⟩;refine Z0 (Z3i (kd:=.u8) (L:=(last0 x).set x.used 6) (pre := []) (post := []) (o:=0) (j:=135) rfl rfl rfl (by omega)) rfl rfl ?_;refine Z8 (v:=((g0 ((last0 x).set x.used 6) 135 ^^^ 128:Nat):Int)) rfl rfl rfl (u8_xor_nat _ 128 (hs2.g _) (by decide)) ?_;(first|refine st ?_|(apply B<;>intro hb<;>try cases hb));refine Z0 (Z8l (kd:=.u8) (L:=(last0 x).set x.used 6) (x:=g0 ((last0 x).set x.used 6) 135 ^^^ 128) (Eb:=136) (pre := []) (post := []) (o:=0) (j:=135) rfl rfl rfl rfl (by omega) (by omega)) rfl rfl ?_;rw [← Z8t]
 iterate 1 (first|refine st ?_|(apply B<;>intro hb<;>try cases hb))
 refine Z7T hC (n':=4) [(2,.ptr 1 0 0),(3,.ptr 2 0 0),(4,.ptr 3 0 0)] [(0,hBx x),(1,⟨32,[crow .u8 (List.replicate 32 0)]⟩),(2,⟨25,[crow .u64 x.st ++ []]⟩),(3,⟨136,[crow .u8 (lastB x.bl x.used) ++ []]⟩)] (by decide)
  ⟨⟨rfl,show 1<4 by decide⟩,⟨rfl,show 2<4 by decide⟩,⟨rfl,show 3<4 by decide⟩,Yt⟩ ⟨⟨by decide,rfl,Z5g _ _⟩,⟨by decide,by kernel_rfl,Z9 (fun _ h=>h.elim) _ (show pureLL [crow .u8 (List.replicate 32 0)] from ⟨ZI _ _,Yt⟩)⟩,⟨by decide,rfl,inn1 Yt⟩,⟨by decide,rfl,inn1 Yt⟩,Yt⟩ ?_
 iterate 2 (first|refine st ?_|(apply B<;>intro hb<;>try cases hb))
 refine Z0 (Zgv rfl 0 136 rfl rfl (by decide) (by decide) (by decide)) rfl rfl ?_;refine Z2s rfl rfl (Zgu x.st (lastB x.bl x.used) hx.sl hx.sw (Zf3 hx) (Zf4 hx) (hBx x) _ (Z3d x) (show pureLL [crow .u8 (List.replicate 32 0)] from ⟨ZI _ _,Yt⟩)) ?_;rintro n' r h' ⟨rfl,hr,rfl⟩;have hsl:=Z5f (bl:=lastB x.bl x.used) hx.sl;have hsw:=ZbL hx.sw (Zf4 hx);have hfin:sumOf x=dPart (absorb x.st (lastB x.bl x.used)) 32:=(Zf6 _).symm;generalize absorb x.st (lastB x.bl x.used)=ws at hsl hsw hfin;have hz:pureLL [crow .u8 (List.replicate 32 0)]:=⟨ZI _ _,Yt⟩
 refine go ?_;refine Zn hC (fun i=>i≤32) (fun i=>32-i) 5 (fun i => [(2,.ptr 1 0 0),(3,.ptr 2 0 0),(5,.ptr 4 0 0),(35,Yv i)]) (fun i => [(0,hBx x),(1,⟨32,[crow .u8 (List.replicate 32 0)]⟩),(2,⟨25,[crow .u64 ws ++ []]⟩),(4,⟨32,[crow .u8 (dPart ws i) ++ []]⟩)]) (by decide) 0 (Y0l _)
  ⟨⟨rfl,show 1<5 by decide⟩,⟨rfl,show 2<5 by decide⟩,⟨rfl,show 4<5 by decide⟩,⟨rfl,Yt⟩,Yt⟩ ⟨⟨by decide,rfl,Z5g _ _⟩,⟨by decide,rfl,Z9 (fun _ h=>h.elim) _ hz⟩,⟨by decide,rfl,inn1 Yt⟩,⟨by decide,by kernel_rfl,inn1 Yt⟩,Yt⟩ ?_
 intro i hi;have hinc:IntKind.i64.wrap ((i:Int)+1)=((i+1:Nat):Int):=wi (i+1) (by omega);have hdl:=Z3G ws i;refine gd 36 ⟨?_⟩;by_cases hil:i<32
 · refine Z0 (Z1 (v := true) rfl (decide_eq_true (by omega))) rfl rfl ?_;refine gd 40 ⟨?_⟩
   refine Z8 (v:=((i / 8:Nat):Int)) rfl rfl rfl (by
    rw [show Int.tdiv (i:Int) 8=((i / 8:Nat):Int) from (Int.ofNat_tdiv i 8).symm]
    exact wi _ (by omega)) ?_
   refine Z0 (Z2O rfl rfl (i / 8) rfl (by omega)) rfl rfl ?_;refine Z0 (Z3i (kd:=.u64) (L:=ws) (pre := []) (post := []) (o:=0) rfl rfl rfl (by omega)) rfl rfl ?_;refine gd 44 ⟨?_⟩;refine Z8 (v:=((i % 8:Nat):Int)) rfl rfl rfl (Int.ofNat_tmod i 8).symm ?_;refine Z8 (v:=((8*(i % 8):Nat):Int)) rfl rfl rfl (wi (8*(i % 8)) (by omega)) ?_;refine Z2C rfl rfl (by omega) (shr64 (g0 ws (i / 8)) (8*(i % 8)) (by omega)) rfl ?_;refine Z8 (v:=((digI ws i:Nat):Int)) rfl rfl rfl (by rw [IntKind.wrap_u8]; rfl) ?_;refine Z0 (Z2O rfl rfl i rfl (by omega)) rfl rfl ?_;refine Z0 (Z8l (kd:=.u8) (L:=dPart ws i) (x:=digI ws i) (Eb:=32) (pre := []) (post := []) (o:=0) rfl rfl rfl rfl (by omega) (by omega)) rfl rfl ?_;rw [Zdc ws hil];refine go ?_;exact⟨i+1,by omega,by omega,⟨⟨rfl,show 1<5 by decide⟩,⟨rfl,show 2<5 by decide⟩,⟨rfl,show 4<5 by decide⟩,⟨by show some _=some _; rw [hinc],Yt⟩,Yt⟩,⟨⟨by decide,rfl,Z5g _ _⟩,⟨by decide,rfl,Z9 (fun _ h=>h.elim) _ hz⟩,⟨by decide,rfl,inn1 Yt⟩,⟨by decide,rfl,inn1 Yt⟩,Yt⟩⟩
 · obtain rfl : i = 32 := by omega
   refine Z0 (Z1 (v:=false) rfl (Y0w (by omega))) rfl rfl ?_;rw [← hfin] at hdl;rw [← hfin];have hcl:(crow .u8 (sumOf x)).length=32:=by rw [Zx,hdl]
   generalize hcc:crow .u8 (sumOf x)=cc at hcl;have hcp:pureL cc:=hcc▸ZI _ _;refine gd 50 ⟨?_⟩;refine Z0 (Z3F (l:=cc ++ []) (r:=cc) rfl rfl (by rw [Y0p,hcl]; decide) (by rw [Y0p,List.drop_zero,List.take_of_length_le (by rw [hcl]; exact Y0m _)])) rfl rfl ?_;refine Z0 (Z4k (l:=crow .u8 (List.replicate 32 0)) rfl rfl rfl hcl rfl) rfl rfl ?_;refine go ?_;refine⟨_,.agg cc,?_,.inl rfl,_,rfl,hcp,Z3d x,rfl,rfl⟩;exact Z1V (Z3F (l:=cc ++ []) (r:=cc) rfl rfl (by rw [Y0p,hcl]; decide) (by rw [Y0p,List.drop_zero,List.take_of_length_le (by rw [hcl]; exact Y0m _)]))
end
section
open Go.RowKit
end
section
open Go.RowKit
attribute [local irreducible] aw opsK dK
theorem ZaR:Spec Tryz.prog 120 [setN 0] (· = .vec [] true):=by
 refine Yp ok120 fun C hC=>?_;refine Zs ?_;refine Zc ?_;refine Z4 rfl rfl rfl ?_;refine gd 9 ⟨?_⟩;refine Z6 (Z4P 0 (by decide)) rfl rfl rfl ⟨Z3 0,Yt⟩ rfl ?_;refine go ?_;exact Z5 rfl Yt rfl
theorem Zdd (N:Nat) (h0:N≠0) (hN:N<256):Spec Tryz.prog 120 [setN N] (· = .vec (bys [N]) false):=by
 have h64:N<18446744073709551616:=by omega
 have hs:setN N=.agg [.vec [[.val (.int .u64 (N:Int))]] false]:=by unfold setN; rw [Z5M h64 h0]; rfl
 have hg:=Z4P N h64;rw [decide_eq_true h0] at hg;have hb:=Zgb (k:=8) hN;have hp:=Z8d h0;have ht:topN N=(bl N:Int)-1:=by unfold topN; rw [if_neg h0]
 have hq:IntKind.i64.wrap (Int.tdiv (topN N) 8)=0:=by
  rw [ht];obtain⟨k,hk⟩:∃ k:Nat,(bl N:Int)-1=(k:Int)∧k<8:=⟨bl N-1,by omega,by omega⟩
  rw [hk.1];have:∀ k,k<8→IntKind.i64.wrap (Int.tdiv ((k:Nat):Int) 8)=0:=by decide
  exact this k hk.2
 refine Yp ok120 fun C hC=>?_;rw [hs];refine Zs ?_;refine Zc ?_;refine Z4 rfl rfl rfl ?_;refine gd 9 ⟨?_⟩;rw [hs] at hg;refine Z6 hg rfl rfl rfl ⟨⟨⟨⟨Yt,Yt⟩,Yt⟩,Yt⟩,Yt⟩ rfl ?_;refine gd 15 ⟨?_⟩;refine Z8 rfl rfl rfl hq ?_;refine go ?_;refine Z23 1 ?_;unfold roundsQ;refine gd 34 ⟨?_⟩;refine Z2C rfl rfl (by decide) (Z32 N 0 (by decide)) rfl ?_
 refine Z8 (v:=(N:Int)) rfl rfl rfl (by
  rw [Nat.pow_zero,Nat.div_one]
  exact IntWalk.u8_in _ ⟨by omega,by omega⟩) ?_
 refine gd 38 ⟨?_⟩;refine Zi (Zq (k:=5) (b:=⟨1,bys [N]⟩) rfl rfl (Zd [N])) ?_;refine go ?_;exact Z5 rfl (Zd [N]) rfl
def bysS (N:Nat):PV:=if N=0 then .vec [] true else .vec (bys [N]) false
theorem ZaS (N:Nat) (hN:N<256):Spec Tryz.prog 120 [setN N] (· = bysS N):=by
 unfold bysS;by_cases h0:N=0
 · subst h0; rw [if_pos rfl]; exact ZaR
 · rw [if_neg h0]; exact Zdd N h0 hN
def celK (kd:IntKind) (x:Nat):List PV := [.val (.int kd (x:Int))]
def rowsK1 (kd:IntKind) (l:List Nat):List (List PV):=l.map (celK kd)
theorem Z3g (kd:IntKind) (l:List Nat):pureLL (rowsK1 kd l):=Za (enc:=celK kd) (fun _=>⟨Yt,Yt⟩) l
theorem Z1W (kd:IntKind) (l:List Nat):(rowsK1 kd l).length=l.length:=by simp [rowsK1]
theorem Z7z (kd:IntKind) (l:List Nat) {j:Nat} (hj:j<l.length):(rowsK1 kd l).getD j []=celK kd (l.getD j 0):=by
 unfold rowsK1;simp [Y0b,hj]
theorem Zix {kd:IntKind} {e:Env} {h:Heap} {n:Nat} {a:Operand} {k j:Nat} {L:List Nat} (ha:ev e a=some (.ptr k j 0)) (hb:h k=some ⟨1,rowsK1 kd L⟩) (hj:j<L.length) :
 dEval (.load false 1 a) e h n=some (.val (.int kd ((L.getD j 0:Nat):Int)),h) :=
 Z2t ha hb (by rw [Z1W]; exact hj) (by rw [Z7z kd L hj]; rfl)
theorem Ziy {kd:IntKind} {e:Env} {h:Heap} {n:Nat} {a v:Operand} {k j x:Nat} {L:List Nat} (ha:ev e a=some (.ptr k j 0)) (hv:ev e v=some (.val (.int kd (x:Int)))) (hb:h k=some ⟨1,rowsK1 kd L⟩) (hj:j<L.length) :
 dEval (.store 1 a v) e h n=some (pvu,h.upd k ⟨1,rowsK1 kd (L.set j x)⟩):=by
 have:=Z1R (n:=n) (size:=1) ha hv hb rfl rfl (show j<(rowsK1 kd L).length by rw [Z1W]; exact hj) (Y0m 1);rw [this];have e1:(rowsK1 kd L).set j (setAt ((rowsK1 kd L).getD j []) 0 (PV.val (.int kd (x:Int))).cells)=rowsK1 kd (L.set j x):=by
  rw [Z7z kd L hj];unfold rowsK1;rw [List.map_set]
  rfl
 simp only;rw [e1]
def revI (l:List Nat) (i:Nat):List Nat:=(List.range l.length).map fun x=>if x<i ∨ l.length-i≤x then l.getD (l.length-1-x) 0 else l.getD x 0
theorem Z2F (l:List Nat) (i:Nat):(revI l i).length=l.length:=by simp [revI]
theorem Z40 (l:List Nat) (i:Nat) {x:Nat} (hx:x<l.length):(revI l i).getD x 0=if x<i ∨ l.length-i≤x then l.getD (l.length-1-x) 0 else l.getD x 0:=by
 unfold revI;simp [Y0b,hx]
theorem Z6D {l m:List Nat} (hl:l.length=m.length) (h:∀ x,x<l.length→l.getD x 0=m.getD x 0):l=m:=by
 refine List.ext_getElem hl fun i h1 h2=>?_;have:=h i h1;simpa [Y0b,h1,h2] using this
theorem Zf7 (l:List Nat):revI l 0=l:=Z6D (Z2F l 0) fun x hx=>by
 rw [Z2F] at hx;rw [Z40 l 0 hx,if_neg (by omega)]
theorem ZgI (l:List Nat) {i:Nat} (hi:l.length≤2*i+1):revI l i=l.reverse:=Z6D (by rw [Z2F,List.length_reverse]) fun x hx=>by
 rw [Z2F] at hx;rw [Z40 l i hx];have hr:l.reverse.getD x 0=l.getD (l.length-1-x) 0:=by
  simp only [Y0b];rw [List.getElem?_reverse hx]
 rw [hr]
 split
 · rfl
 · rw [show x = l.length - 1 - x by omega];rw [show l.length-1-(l.length-1-x)=x by omega];rw [show l.length-1-x=x by omega]
theorem Z9p (L:List Nat) (j x y:Nat):(L.set j x).getD y 0=if y=j∧j<L.length then x else L.getD y 0:=by
 simp only [Y0b,List.getElem?_set];by_cases h:j=y
 · subst h;by_cases hj:j<L.length
   · simp [hj]
   · simp [hj]
 · rw [if_neg h,if_neg (fun c=>h c.1.symm)]
theorem Zf8 (l:List Nat) {i:Nat} (hi:2*i+1<l.length):((revI l i).set i ((revI l i).getD (l.length-1-i) 0)).set (l.length-1-i) ((revI l i).getD i 0)=revI l (i+1):=by
 refine Z6D (by simp [Z2F]) fun x hx=>?_;have hx:x<l.length:=by simpa [Z2F] using hx
 rw [Z9p,Z9p,List.length_set,Z2F,Z40 l (i+1) hx,Z40 l i hx,Z40 l i (show l.length-1-i<l.length by omega),Z40 l i (show i<l.length by omega)];by_cases h1:x=l.length-1-i
 · rw [if_pos ⟨h1, by omega⟩, if_neg (by omega), if_pos (by omega)];rw [h1,show l.length-1-(l.length-1-i)=i by omega]
 · rw [if_neg (fun c => h1 c.1)];by_cases h2:x=i
   · rw [if_pos ⟨h2,by omega⟩,if_neg (by omega),if_pos (by omega),h2]
   · rw [if_neg (fun c => h2 c.1)];by_cases h3:x<i ∨ l.length-i≤x
     · rw [if_pos h3,if_pos (by omega)]
     · rw [if_neg h3,if_neg (by omega)]
theorem Zde (l:List Nat) (hl:l.length≤1000000):QSpec Tryz.prog 154 (fun i => [.own i]) ⟨1,rowsK1 .u8 l⟩ fun r b'=>b'=⟨1,rowsK1 .u8 l.reverse⟩:=by
 have hl1:=Z1W .u8 l;refine Z6x ok154 (Nat.le_of_ble_eq_true rfl) fun C hC=>?_;refine gd 5 ⟨?_⟩;refine Z8 (v:=(l.length:Int)) rfl rfl rfl (by rw [hl1]) ?_;refine Z8 (v:=(l.length:Int)-1-((0:Nat):Int)) rfl rfl rfl (by rw [Int.natCast_zero,Int.sub_zero]; exact Y0v _ ⟨by omega,by omega⟩) ?_;refine go ?_;refine Zn hC (fun i=>2*i≤l.length+1) (fun i=>l.length+1-i) 1 (fun i => [(0,.own 0),(2,Yv i),(3,.val (.int .i64 ((l.length:Int)-1-(i:Int))))]) (fun i => [(0,⟨1,rowsK1 .u8 (revI l i)⟩)]) (by decide) 0 (by omega)
  ⟨⟨rfl,Nat.zero_lt_one⟩,⟨rfl,Yt⟩,⟨rfl,Yt⟩,Yt⟩ ⟨⟨by decide,by rw [Zf7]; rfl,Z9 (fun _ h=>h.elim) _ (Z3g _ _)⟩,Yt⟩ ?_
 intro i hi;have hrl:=Z2F l i;have hinc:IntKind.i64.wrap ((i:Int)+1)=((i+1:Nat):Int):=Y0v _ ⟨by omega,by omega⟩;have hdec:IntKind.i64.wrap ((l.length:Int)-1-(i:Int)-1)=(l.length:Int)-1-((i+1:Nat):Int):=by
  rw [show (l.length:Int)-1-(i:Int)-1=(l.length:Int)-1-((i+1:Nat):Int) by omega];exact Y0v _ ⟨by omega,by omega⟩
 refine gd 9 ⟨?_⟩;by_cases hil:2*i+1<l.length
 · refine Z0 (Z1 (v := true) rfl (decide_eq_true (by omega))) rfl rfl ?_;have hj:l.length-1-i<(revI l i).length:=by omega
   have hi2:i<(revI l i).length:=by omega
   refine gd 20 ⟨?_⟩;refine Ze (ZL rfl rfl rfl (l.length-1-i) (by omega) (by rw [Z1W]; exact hj) rfl) rfl rfl ?_;refine Ze (Zix (kd:=.u8) (L:=revI l i) rfl rfl hj) rfl rfl ?_;refine gd 24 ⟨?_⟩;refine Ze (ZL rfl rfl rfl i rfl (by rw [Z1W]; exact hi2) rfl) rfl rfl ?_;refine Ze (Zix (kd:=.u8) (L:=revI l i) rfl rfl hi2) rfl rfl ?_;refine Ze (ZL rfl rfl rfl i rfl (by rw [Z1W]; exact hi2) rfl) rfl rfl ?_;refine Ze (Ziy (kd:=.u8) (L:=revI l i) rfl rfl rfl hi2) rfl rfl ?_;refine Ze (ZL rfl rfl rfl (l.length-1-i) (by omega) (by rw [Z1W,List.length_set]; exact hj) rfl) rfl rfl ?_;refine Ze (Ziy (kd:=.u8) rfl rfl rfl (by rw [List.length_set]; exact hj)) rfl rfl ?_;rw [Zf8 l hil];refine go ?_;exact⟨i+1,by omega,by omega,⟨⟨rfl,Nat.zero_lt_one⟩,⟨by show some _=some _; rw [hinc],Yt⟩,⟨by show some _=some _; rw [hdec],Yt⟩,Yt⟩,⟨⟨by decide,rfl,Z9 (fun _ h=>h.elim) _ (Z3g _ _)⟩,Yt⟩⟩
 · refine Z0 (Z1 (v := false) rfl (Y0w (by omega))) rfl rfl ?_;refine go ?_;exact⟨_,_,rfl,.inl rfl,_,rfl,Yt,Z3g _ _,by rw [ZgI l (by omega)]⟩
end
section
open Go.RowKit
def kid1 (q:List PV) (i:Nat):Bx:=⟨q.length+1,[.own i :: q]⟩
section
variable {P:Program} {C:Ctx} {Fr:Nat→Prop} {e:Env} {h:Heap} {n:Nat} {F:Froz} {φ:Locs} {a:Act} {w:World}
theorem ObAt.kid1 {φ':Locs} {loc:Loc} {q:List PV} {i i':Nat} (h2:ObAt F φ w loc (kid1 q i)) (hi:φ i=φ' i') (hq:pureL q):ObAt F φ' w loc (Go.Proofs.YtmnbbggaoembeaaGreatDoor.kid1 q i'):=by
 have h2:=h2.cellsB (show 0<q.length+1 by omega);refine .inl ⟨h2.esz,h2.pos,h2.len,h2.cap,h2.max,fun c hc=>?_,fun hc=>?_⟩
 · have hc : c ∈ [PV.own i' :: q] := hc;rw [Y0g] at hc;subst hc;rw [← h2.esz]; rfl
 · obtain ⟨x, hx, hs, cells, t, hg, hsz, hrep⟩ := h2.room hc;refine⟨x,hx,hs,cells,t,hg,hsz,fun a b ha hb=>⟨(hrep a b ha hb).1,?_⟩⟩;have hr:=(hrep a b ha hb).2;have hl:loc.len=1:=by rw [← h2.len]; rfl
   obtain rfl:a=0:=by omega
   match b,hr with
   | 0,hr=>exact ZeN hi hr
   | b+1,hr=>exact Rep.pure (p:=q.getD b pvu) hr (ZS hq b)
def K1Spec (P:Program) (f:FuncId) (pre post q:List PV) (b1:Bx) (R:PV→Bx→Prop):Prop :=
 ISpec P f 2 (pre++.ptr 0 0 0 :: post) (heapL [(0,kid1 q 1),(1,b1)]) fun n' r h'=>∃ j1 b1',j1≠0∧h' 0=some (kid1 q j1)∧h' j1=some b1'∧r.pure∧pureLL b1'.elems∧R r b1'
theorem K1Spec.run {f:FuncId} {pre post q:List PV} {b1:Bx} {R:PV→Bx→Prop} (hs:K1Spec P f pre post q b1 R) (hpre:pureL pre) (hpost:pureL post) (hq:pureL q) (hp1:pureLL b1.elems) {k i n:Nat} (hn:Fr n) (hk:h k=some (kid1 q i)) (hi:h i=some b1) (hik:i≠k)
 (s:St' C Fr e h F φ a w) {vs:Array Value} (hv:RepL F φ vs (pre++.ptr k 0 0 :: post)) :
 Calls P f vs w fun en w'=>∃ v r b1' F' φ',en=.returned v∧(r.pure∧pureLL b1'.elems∧R r b1')∧Rep F' φ' v r∧St' C (fun x=>Fr x∧x≠n) e (((h.del i).upd k (kid1 q n)).upd n b1') F' φ' a w':=by
 obtain⟨lk,hlk,hbk,hhk⟩:=s.live k _ hk;obtain⟨li,hli,hbi,hhi⟩:=s.live i _ hi
 let φ1:Locs:=fun x=>if x=0 then some lk else if x=1 then some li else none
 let C1:Ctx:=⟨w,fun g=>lk.has g ∨ li.has g,F,C.nt,φ1⟩
 have hφn:φ n=none:=s.free n hn;have hnone:∀ {x:Nat} {bx:Bx},h x=some bx→x≠n:=by
  intro x bx hx;obtain⟨loc,h1,_⟩:=s.live x bx hx;exact fun e=>(by rw [e,hφn] at h1; cases h1)
 have hG:∀ g,C1.G g→C.w0.heap.size≤g ∨ C.G g:=fun g hg=>hg.elim (fun h=>(hhk g h).1) fun h=>(hhi g h).1;have hth:∀ {loc:Loc} {b:Bx} {g:Nat},ObAt F φ w loc b→loc.has g→∀ o:Obj,w.heap[g]?=some o→¬ o=.deferred (some []):=by
  rintro loc b g hb hg o ho rfl;rcases hb.there hg with⟨cells,t,hg⟩|⟨es,t,hg⟩
  · rw [hg] at ho; cases ho
  · rw [hg] at ho; cases ho
 have hcells:∀ g,C1.G g→∀ o:Obj,w.heap[g]?=some o→¬ o=.deferred (some []):=fun g hg=>hg.elim (hth hbk) (hth hbi);have h0:∀ {x:Nat} {b0:Bx},(heapL [(0,kid1 q 1),(1,b1)]) x=some b0→(x=0∧b0=kid1 q 1) ∨ (x=1∧b0=b1):=by
  intro x b0 hx;have:=Z1F hx;simp only [List.mem_cons,Prod.mk.injEq,List.not_mem_nil,or_false] at this;exact this
 have s1:St' C1 (fun x=>2≤x) (fun _=>none) (heapL [(0,kid1 q 1),(1,b1)]) F φ1 { a with defers := [] } w:=by
  refine { nt:=s.nt,glob:=s.glob,marks:=Marks.nil rfl,loc0:=fun i x hx=>hx,free:=fun i hi=>?_,env:=fun j p hp=>(by cases hp),froz:=s.froz,ext:=fun _ _ h=>h,old:=fun _ _ _=>rfl,os:=rfl,tape:=rfl,output:=rfl,size:=Y0m _,kept:=fun _ _ _=>rfl,live:=fun x b0 hx=>?_,sep:=fun x y bx bY lx ly g hx hy hlx hly hgx hgy=>?_ }
  · simp only [φ1]; rw [if_neg (by omega),if_neg (by omega)]
  · rcases h0 hx with ⟨rfl, rfl⟩ | ⟨rfl, rfl⟩
    · exact⟨lk,rfl,hbk.kid1 (by rw [hli]; rfl) hq,fun g hg=>⟨.inr (.inl hg),(hhk g hg).2⟩⟩
    · exact⟨li,rfl,hbi.names hp1,fun g hg=>⟨.inr (.inr hg),(hhi g hg).2⟩⟩
  · rcases h0 hx with ⟨rfl, rfl⟩ | ⟨rfl, rfl⟩ <;> rcases h0 hy with ⟨rfl, rfl⟩ | ⟨rfl, rfl⟩ <;> first | rfl | skip
    all_goals
     obtain rfl:=Option.some.inj hlx;obtain rfl:=Option.some.inj hly;exfalso
    · exact hik (s.sep k i _ _ _ _ g hk hi hlk hli hgx hgy).symm
    · exact hik (s.sep i k _ _ _ _ g hi hk hli hlk hgx hgy)
 have hv1:RepL F φ1 vs (pre++.ptr 0 0 0 :: post):=Zd7 hpre hpost (fun v hr=>by
  obtain⟨loc',x,g1,gz,g2,g3,g4⟩:=hr.ptr_inv;obtain rfl:loc'=lk:=by rw [hlk] at g1; simpa using g1.symm
  rw [g4]
  exact .ptr 0 0 0 loc' x rfl gz g2 g3) hv
 refine (hs.2 C1 _ F φ1 { a with defers := [] } w vs s1 hv1).mono ?_;rintro en w' ⟨v,r,n',h',F',φ',rfl,⟨j1,b1',hj10,hh0,hh1,hrp,hp1',hR⟩,hvr,s'⟩;obtain⟨l0,m01,m02,m03⟩:=s'.live 0 _ hh0;obtain⟨l1,m11,m12,m13⟩:=s'.live j1 _ hh1;obtain rfl:l0=lk:=by
  have:=s'.loc0 0 lk rfl;rw [m01] at this; exact Option.some.inj this
 let φ2:Locs:=fun x=>if x=n then some l1 else φ x
 have hφ2:φ2 n=some l1:=by simp [φ2]
 have hφ3:∀ {x:Nat},x≠n→φ2 x=φ x:=fun {x} h1=>by simp only [φ2]; rw [if_neg h1]
 have hφ4:∀ x y,φ x=some y→φ2 x=some y:=fun x y hx=>by
  rw [hφ3 (fun e=>by rw [e,hφn] at hx; cases hx)]; exact hx
 have hkn:=hnone hk;have src:∀ {x:Nat} {bx:Bx},(((h.del i).upd k (kid1 q n)).upd n b1') x=some bx →
  (x=n∧bx=b1') ∨ (x=k∧bx=kid1 q n) ∨ (x≠k∧x≠i∧h x=some bx):=by
  intro x bx hx;by_cases e2:x=n
  · subst e2; rw [Heap.upd_same] at hx; exact .inl ⟨rfl,(Option.some.inj hx).symm⟩
  rw [Heap.upd_ne _ _ e2] at hx;by_cases e3:x=k
  · subst e3; rw [Heap.upd_same] at hx; exact .inr (.inl ⟨rfl,(Option.some.inj hx).symm⟩)
  rw [Heap.upd_ne _ _ e3] at hx;obtain⟨e5,hx⟩:=Heap.del_some hx;exact .inr (.inr ⟨e3,e5,hx⟩)
 have hold:∀ {x:Nat} {bx:Bx} {lx:Loc} {g:Nat},x≠k→x≠i→h x=some bx→φ x=some lx→lx.has g→¬ C1.G g:=by
  intro x bx lx g h1 h2 hx hlx hg hG;rcases hG with hg' | hg'
  · exact h1 (s.sep x k _ _ _ _ g hx hk hlx hlk hg hg')
  · exact h2 (s.sep x i _ _ _ _ g hx hi hlx hli hg hg')
 have hnew:∀ {lx:Loc} {g:Nat},(w.heap.size≤g ∨ C1.G g)→C.w0.heap.size≤g ∨ C.G g:=fun {lx g} h1=>h1.elim (fun h1=>.inl (Y03 s.size h1)) (hG g);refine⟨v,r,b1',F',φ2,rfl,⟨hrp,hp1',hR⟩,hvr.pure hrp,?_⟩
 refine { nt := s.nt, glob := s'.glob, marks := s.marks.mono (fun g hg => by rw [s'.kept g (Array.getElem?_eq_some_iff.1 hg).1 (fun hg' => hcells g hg' _ hg rfl)]; exact hg), loc0 := fun i x hx => hφ4 i x (s.loc0 i x hx), free := fun x hx => by rw [hφ3 hx.2]; exact s.free x hx.1, env := fun j p hp => ⟨(s.env j p hp).1, (s.env j p hp).2.mono s'.ext hφ4⟩, froz := s'.froz, ext := fun x v hx => s'.ext _ _ (s.ext x v hx),
          old:=fun x hx hg=>?_,os:=s'.os.trans s.os,tape:=s'.tape.trans s.tape,output:=s'.output.trans s.output,size:=Y03 s.size s'.size,kept:=fun g hk hg=>?_,live:=fun x bx hx=>?_,sep:=fun x y bx bY lx ly g hx hy hlx hly hgx hgy=>?_ }
 · have hx2 : x.block < w.heap.size := Nat.lt_of_lt_of_le hx s.size;rw [s'.old x hx2 fun hg'=>(hG _ hg').elim (fun h1=>absurd hx (Nat.not_lt.2 h1)) hg];exact s.old x hx hg
 · rw [s'.kept g (Nat.lt_of_lt_of_le hk s.size) fun hg' => (hG _ hg').elim (fun h1 => absurd hk (Nat.not_lt.2 h1)) hg];exact s.kept g hk hg
 · rcases src hx with ⟨rfl, rfl⟩ | ⟨rfl, rfl⟩ | ⟨h1, h2, hx⟩
   · exact⟨l1,hφ2,m12.names hp1',fun g hg=>⟨hnew (lx:=l1) (m13 g hg).1,(m13 g hg).2⟩⟩
   · exact⟨l0,hφ4 _ _ hlk,m02.kid1 (by rw [m11,hφ2]) hq,fun g hg=>⟨(hhk g hg).1,(m03 g hg).2⟩⟩
   · obtain ⟨lx, g1, g2, g3⟩ := s.live x bx hx;have hout:∀ g,lx.has g→¬ C1.G g:=fun g hg=>hold h1 h2 hx g1 hg;have hblk:∀ g,lx.has g→w'.heap[g]?=w.heap[g]?:=fun g hg=>s'.kept g (s.has_lt hx g1 hg) (hout g hg);have hne:=hnone hx;refine⟨lx,by rw [hφ3 hne]; exact g1,g2.mono s'.ext hφ4 hblk,fun g hg=>⟨(g3 g hg).1,fun z hz=>?_⟩⟩;rw [s'.old z (by rw [hz]; exact s.has_lt hx g1 hg) (by rw [hz]; exact hout g hg)];exact (g3 g hg).2 z hz
 · have cls : ∀ {x : Nat} {bx : Bx} {lx : Loc} {g : Nat}, (((h.del i).upd k (kid1 q n)).upd n b1') x = some bx → φ2 x = some lx → lx.has g →
    (h x=some bx∧φ x=some lx∧g<w.heap.size∧¬ C1.G g) ∨ ((w.heap.size≤g ∨ C1.G g)∧∃ y b',h' y=some b'∧φ' y=some lx∧((x=n∧y=j1) ∨ (x=k∧y=0))):=by
    intro x bx lx g hx hlx hg;rcases src hx with⟨rfl,rfl⟩|⟨rfl,rfl⟩|⟨h1,h2,hx⟩
    · rw [hφ2] at hlx; cases hlx;exact .inr ⟨(m13 g hg).1,j1,_,hh1,m11,.inl ⟨rfl,rfl⟩⟩
    · rw [hφ4 _ _ hlk] at hlx; cases hlx;exact .inr ⟨(m03 g hg).1,0,_,hh0,m01,.inr ⟨rfl,rfl⟩⟩
    · have hne := hnone hx;rw [hφ3 hne] at hlx;exact .inl ⟨hx,hlx,s.has_lt hx hlx hg,hold h1 h2 hx hlx hg⟩
   rcases cls hx hlx hgx with⟨a1,a2,a3,a4⟩|⟨a1,y1,c1,a2,a3,a4⟩<;>rcases cls hy hly hgy with⟨d1,d2,d3,d4⟩|⟨d1,y2,c2,d2,d3,d4⟩
   · exact s.sep x y bx bY lx ly g a1 d1 a2 d2 hgx hgy
   · rcases d1 with d1 | d1
     · omega
     · exact absurd d1 a4
   · rcases a1 with a1 | a1
     · omega
     · exact absurd a1 d4
   · have := s'.sep y1 y2 c1 c2 lx ly g a2 d2 a3 d3 hgx hgy;subst this;rcases a4 with⟨rfl,rfl⟩|⟨rfl,rfl⟩<;>rcases d4 with⟨rfl,e⟩|⟨rfl,e⟩<;>first|rfl|omega
theorem K1Spec.frame {f:FuncId} {pre post q:List PV} {b1:Bx} {R:PV→Bx→Prop} (hs:K1Spec P f pre post q b1 R) (hpre:pureL pre) (hpost:pureL post) (hq:pureL q) (hp1:pureLL b1.elems) {k i n:Nat} (hk:h k=some (kid1 q i)) (hi:h i=some b1) (hik:i≠k) :
 ISpec P f n (pre++.ptr k 0 0 :: post) h fun n' r h'=>∃ b1',n'=n+1∧h'=((h.del i).upd k (kid1 q n)).upd n b1'∧r.pure∧pureLL b1'.elems∧R r b1':=by
 refine⟨hs.1,fun C e F φ a w vs s hv=>(hs.run hpre hpost hq hp1 (n:=n) (Y0m n) hk hi hik s hv).mono ?_⟩;rintro en w' ⟨v,r,b1',F',φ',rfl,⟨h1,h2,h3⟩,hr,s'⟩;exact⟨v,r,n+1,_,F',φ',rfl,⟨b1',rfl,rfl,h1,h2,h3⟩,hr,{ s' with free:=fun i hi=>s'.free i ⟨by omega,by omega⟩ }⟩
theorem Z10 {f:Operand} {args:List Operand} {g:FuncId} {caps as0 pre post q:List PV} {b1:Bx} {k i:Nat} {R:PV→Bx→Prop} {d:Option Nat} {os:List AOper} {n:Nat} {K:Nat→Env→Heap→Prop} (hs:K1Spec P g pre post q b1 R) (hf:ev e f=some (.fn g caps)) (ha:evs e args=some as0) (hr:as0++caps=pre++.ptr k 0 0 :: post) (hk:h k=some (kid1 q i)) (hi:h i=some b1) (hik:i≠k) (hpre:pureL pre) (hpost:pureL post) (hq:pureL q) (hp1:pureLL b1.elems)
 (hK:∀ r b1',r.pure→pureLL b1'.elems→R r b1'→opsK P os (n+1) (updO e d r) (((h.del i).upd k (kid1 q n)).upd n b1') K):opsK P (⟨d,.call f args,none⟩ :: os) n e h K:=by
 refine Z2s hf ha (R:=fun n' r h'=>∃ b1',n'=n+1∧h'=((h.del i).upd k (kid1 q n)).upd n b1'∧r.pure∧pureLL b1'.elems∧R r b1') (by rw [hr]; exact hs.frame hpre hpost hq hp1 hk hi hik) ?_;rintro n' r h' ⟨b1',rfl,rfl,h1,h2,h3⟩;exact hK r b1' h1 h2 h3
theorem Z2G {f nt:Nat} {ac:ACode} {rs:List ARes} (hf:FnOk P f nt ac rs) {pre post q:List PV} {b1:Bx} {R:PV→Bx→Prop} (hn:(pre++.ptr 0 0 0 :: post).length≤nt)
 (hk:∀ C:Ctx,C.dom 2→aw P C ac (retI rs fun n' r h'=>∃ j1 b1',j1≠0∧h' 0=some (kid1 q j1)∧h' j1=some b1'∧r.pure∧pureLL b1'.elems∧R r b1') 2 (argEnv (pre++.ptr 0 0 0 :: post)) (heapL [(0,kid1 q 1),(1,b1)])):K1Spec P f pre post q b1 R :=
 Z2q hf hn hk
theorem Z6R {ob i0 j0:Nat} {bo:Bx} (esz:Nat) (hp:0<esz) (hob:h ob=some bo) (hi0:i0<bo.elems.length) (hj0:j0<(bo.elems.getD i0 []).length) (hcell:(bo.elems.getD i0 []).getD j0 pvu=.vec [] true) (hz:0<bo.esz:=by exact Nat.le_of_ble_eq_true rfl) :
 Sub C n e h (n+1) e ((h.upd n ⟨esz,[]⟩).upd ob ⟨bo.esz,bo.elems.set i0 ((bo.elems.getD i0 []).set j0 (.own n))⟩):=by
 rintro a w ⟨F,φ,s⟩;obtain⟨lo,o1,o2,o3⟩:=s.live ob bo hob;have o2:=o2.cellsB hz;have hcl:(bo.elems.getD i0 []).length=lo.esz:=o2.el _ (by simp [Y0b,hi0]);have hc0o:lo.cap≠0:=by have:=o2.cap; have:=o2.len; omega
 obtain⟨ado,hbaseo,hso,cellso,cto,hgo,hroomo,hrepo⟩:=o2.room hc0o;have hr0:=(hrepo i0 j0 (by rw [← o2.len]; exact hi0) (by rw [← hcl]; exact hj0)).2;rw [hcell] at hr0;have hbase:∃ base,cellso.getD (ado.off+(i0*lo.esz+j0)) undef=.slice base 0 0:=by
  rcases hr0.vec_inv with⟨_,h⟩|⟨x,cap,esz',cs,h,_,_,hf,_⟩
  · exact⟨none,h⟩
  · exact⟨some x,by rw [h,hf rfl]; rfl⟩
 obtain⟨base,hb⟩:=hbase;have hno:ob≠n:=fun e1=>by
  have:=s.free n (Y0m n);rw [← e1,o1] at this; cases this
 have hfr:∀ i,n+1≤i→n≤i∧i≠n:=fun i hi=>⟨by omega,by omega⟩
 have s1:=(s.allocNil (Y0m n) base esz hp).weaken hfr;have hext:=Z1g (s.free n (Y0m n)) ⟨base,esz,0,0⟩;have o1':=hext _ _ o1;have hdel:(h.upd n ⟨esz,[]⟩) ob=some bo:=by rw [Heap.upd_ne _ _ hno]; exact hob
 have fin:∀ {φ':Locs},(∀ x v,φ x=some v→φ' x=some v)→φ' ob=some lo→St' C (fun i=>n+1≤i) e (h.upd n ⟨esz,[]⟩) F φ' a w→Rep F φ' (cellso.getD (ado.off+(i0*lo.esz+j0)) undef) (.own n) →
  St C (fun i=>n+1≤i) e ((h.upd n ⟨esz,[]⟩).upd ob ⟨bo.esz,bo.elems.set i0 ((bo.elems.getD i0 []).set j0 (.own n))⟩) a w:=by
  intro φ' hx ho' s2 hrep;refine⟨F,φ',{ s2 with live:=fun i bi hi=>?_,sep:=fun i j bi bj li lj k hi hj hli hlj hki hkj=>?_ }⟩
  · by_cases hio : i = ob
    · subst hio;rw [Heap.upd_same] at hi;cases hi;obtain⟨l2,g1,g2,g3⟩:=s2.live i bo hdel;obtain rfl:l2=lo:=by rw [g1] at ho'; simpa using ho'
      refine⟨l2,g1,.inl ⟨o2.esz,o2.pos,by simpa using o2.len,o2.cap,o2.max,fun c hc=>?_,fun _=>⟨ado,hbaseo,hso,cellso,cto,hgo,hroomo,fun i' j' hi' hj'=>?_⟩⟩,g3⟩
      · rcases List.mem_or_eq_of_mem_set hc with h | h
        · exact o2.el c h
        · rw [h,List.length_set]; exact hcl
      · refine ⟨(hrepo i' j' hi' hj').1, ?_⟩;by_cases hii:i'=i0
        · subst hii;have e1:(bo.elems.set i' ((bo.elems.getD i' []).set j0 (.own n))).getD i' []=(bo.elems.getD i' []).set j0 (.own n):=by
           rw [Y0b,List.getElem?_set]; simp [hi0]
          rw [e1];by_cases hjj:j'=j0
          · subst hjj;have e2:((bo.elems.getD i' []).set j' (.own n)).getD j' pvu=.own n:=by
             rw [Y0b,List.getElem?_set,if_pos rfl,if_pos hj0]; rfl
            rw [e2];exact hrep
          · have e2 : ((bo.elems.getD i' []).set j0 (.own n)).getD j' pvu = (bo.elems.getD i' []).getD j' pvu := by
             rw [Y0b,List.getElem?_set,if_neg (Ne.symm hjj),← Y0b]
            rw [e2];exact (hrepo i' j' hi' hj').2.mono (fun _ _ h=>h) hx
        · have e1 : (bo.elems.set i0 ((bo.elems.getD i0 []).set j0 (.own n))).getD i' [] = bo.elems.getD i' [] := by
           rw [Y0b,List.getElem?_set,if_neg (Ne.symm hii),← Y0b]
          rw [e1];exact (hrepo i' j' hi' hj').2.mono (fun _ _ h=>h) hx
    · rw [Heap.upd_ne _ _ hio] at hi;exact s2.live i bi hi
  · have conv : ∀ {i : Nat} {bi : Bx}, ((h.upd n ⟨esz, []⟩).upd ob ⟨bo.esz, bo.elems.set i0 ((bo.elems.getD i0 []).set j0 (.own n))⟩) i = some bi → ∃ b0, (h.upd n ⟨esz, []⟩) i = some b0 := by
     intro i bi hi;by_cases hio:i=ob
     · subst hio; exact⟨bo,hdel⟩
     · rw [Heap.upd_ne _ _ hio] at hi; exact⟨bi,hi⟩
    obtain⟨b1,g1⟩:=conv hi
    obtain⟨b2,g2⟩:=conv hj
    exact s2.sep i j b1 b2 li lj k g1 g2 hli hlj hki hkj
 refine fin hext o1' s1 ?_;rw [hb];exact .own n ⟨base,esz,0,0⟩ (by simp [locUpd]) hp
theorem Z2y {ob i0 j0:Nat} {bo:Bx} (esz:Nat) (hp:0<esz) (hob:h ob=some bo) (hi0:i0<bo.elems.length) (hj0:j0<(bo.elems.getD i0 []).length) (hcell:(bo.elems.getD i0 []).getD j0 pvu=.vec [] true) (hz:0<bo.esz:=by exact Nat.le_of_ble_eq_true rfl) :
 SubA n e h (n+1) e ((h.upd n ⟨esz,[]⟩).upd ob ⟨bo.esz,bo.elems.set i0 ((bo.elems.getD i0 []).set j0 (.own n))⟩):=fun _=>Z6R esz hp hob hi0 hj0 hcell hz
end
end
section
open Go.RowKit
attribute [local irreducible] aw opsK dK
def gR:Nat→Nat→List Nat
 | 0,_ => []
 | f+1,v=>if v=0 then [] else ((v &&& 127) ||| 128) :: gR f (v / 128)
def grp (v:Nat):List Nat:=((v &&& 127) :: gR v (v / 128)).reverse
theorem ZaT:∀ (f f' v:Nat),v≤f→v≤f'→gR f v=gR f' v
 | 0,0,_,_,_=>rfl
 | 0, f' + 1, v, h, _ => by
   obtain rfl:v=0:=by omega
   rfl
 | f + 1, 0, v, _, h => by
   obtain rfl:v=0:=by omega
   rfl
 | f + 1, f' + 1, v, h, h' => by
   show (if v=0 then [] else _)=(if v=0 then [] else _)
   split
   · rfl
   · rw [ZaT f f' (v / 128) (by omega) (by omega)]
theorem ZhP (f:Nat):gR f 0 = []:=by cases f<;>rfl
theorem ZhQ {v:Nat} (h:v≠0):gR v v=((v &&& 127) ||| 128) :: gR (v / 128) (v / 128):=by
 obtain⟨f,rfl⟩:∃ f,v=f+1:=⟨v-1,by omega⟩
 show (if f+1=0 then [] else ((f+1 &&& 127) ||| 128) :: gR f ((f+1) / 128))=_;rw [if_neg (by omega),ZaT f ((f+1) / 128) ((f+1) / 128) (by omega) (Y0m _)]
theorem Zh2:∀ (f v:Nat),(gR f v).length≤v
 | 0,v=>Y0l _
 | f + 1, v => by
   show (if v=0 then [] else ((v &&& 127) ||| 128) :: gR f (v / 128)).length≤v
   split
   · exact Y0l _
   · have := Zh2 f (v / 128);rw [Y04];omega
theorem Z1t (v:Nat):(grp v).length≤v+1:=by
 unfold grp;rw [List.length_reverse,Y04];have:=Zh2 v (v / 128);omega
theorem Zj2:∀ (f v:Nat),W8 (gR f v)
 | 0,_=>fun _ hx=>by cases hx
 | f + 1, v => fun x hx => by
   change x∈(if v=0 then [] else ((v &&& 127) ||| 128) :: gR f (v / 128)) at hx
   split at hx
   · cases hx
   · rcases List.mem_cons.1 hx with rfl | hx
     · exact Nat.or_lt_two_pow (n:=8) (Y02 Nat.and_le_right (by decide)) (by decide)
     · exact Zj2 f _ x hx
theorem Z9q (v:Nat):W8 (grp v):=fun x hx=>by
 rcases List.mem_cons.1 (List.mem_reverse.1 hx) with rfl|hx
 · exact Y02 Nat.and_le_right (by decide)
 · exact Zj2 _ _ x hx
theorem Z8u (l m:List Nat):bys (l++m)=bys l++bys m:=by unfold bys; rw [Y0r]
theorem Z6E (l:List Nat):(bys l).length=l.length:=by simp [bys]
theorem Zf9 (l:List Nat):∀ c∈bys l,c.length=1:=fun c hc=>by obtain⟨y,_,rfl⟩:=Y0i.1 hc; rfl
theorem ZgJ (v:Nat) (hv:v<1000000):Spec Tryz.prog 118 [.val (.int .u64 (v:Int))] (· = .vec (bys (grp v)) false):=by
 refine Yp ok118 fun C hC=>?_;have hshr:∀ x:Nat,Int.fdiv (x:Int) (2 ^ (min ((7:Nat):Int).toNat IntKind.u64.bits))=((x / 128:Nat):Int):=fun x=>shr64 x 7 (by decide);have hand:∀ x:Nat,x<1000000→bits .and .u64 (x:Int) ((127:Nat):Int)=((x &&& 127:Nat):Int):=fun x hx=>bits_and_u64_nat x 127 (by omega) (by decide);have hu8:∀ x:Nat,IntKind.u8.wrap ((x &&& 127:Nat):Int)=((x &&& 127:Nat):Int):=fun x=>by
  have:x &&& 127≤127:=Nat.and_le_right;exact IntWalk.u8_in _ ⟨by omega,by omega⟩
 refine gd 5 ⟨?_⟩;refine Z8 (v:=((v &&& 127:Nat):Int)) rfl rfl rfl (hand v hv) ?_;refine Z8 (v:=((v &&& 127:Nat):Int)) rfl rfl rfl (hu8 v) ?_;refine Z4a rfl rfl rfl ?_;refine gd 9 ⟨?_⟩;refine Z2C rfl rfl (by decide) (hshr v) rfl ?_;refine go ?_;refine ZJ hC (fun x:List Nat×Nat=>x.2<1000000∧x.1.length+x.2≤v+1∧x.1++gR x.2 x.2=(v &&& 127) :: gR v (v / 128)) (fun x=>x.2) 1 (fun x => [(0,.val (.int .u64 (x.2:Int))),(3,.own 0)]) (fun x => [(0,⟨1,bys x.1⟩)]) (by decide) ([v &&& 127],v / 128) ⟨by show v / 128<_; omega,by show 1+v / 128≤_; omega,by show _ :: gR (v / 128) (v / 128)=_; rw [ZaT (v / 128) v (v / 128) (Y0m _) (by omega)]⟩
  (fun i=>i) (fun _ _=>rfl) (Zw rfl) ⟨⟨_,rfl,.pure _ Yt⟩,⟨_,rfl,.own 0 (by decide)⟩,Yt⟩ ⟨⟨by decide,⟨1,bys [v &&& 127]⟩,rfl,.same _ (Zd _)⟩,Yt⟩ ?_
 rintro⟨acc,y⟩ ⟨hy,hyl,hyt⟩;dsimp only at hy hyl hyt;refine gd 11 ⟨?_⟩;by_cases h0:y=0
 · refine Z0 (Z1 (v := false) rfl (Y0w (by show ¬ ((y : Int) > 0); omega))) rfl rfl ?_;rw [h0,ZhP,Y0p] at hyt;refine gd 22 ⟨?_⟩;refine Zin 0 (Zde acc (by omega)) (Z8k Z5Z ZeC) rfl rfl rfl rfl (Zd _) ?_;rintro r b' hr1 hr2 rfl;refine gd 23 ⟨?_⟩;refine Zi (Zq (k:=3) (b:=⟨1,rowsK1 .u8 acc.reverse⟩) rfl rfl (Z3g _ _)) ?_;refine go ?_;exact Z5 rfl (Zd _) (by show PV.vec (bys acc.reverse) false=_; rw [hyt]; rfl)
 · refine Z0 (Z1 (v := true) rfl (decide_eq_true (by show ((y : Int) > 0); omega))) rfl rfl ?_;rw [ZhQ h0] at hyt;refine gd 16 ⟨?_⟩;refine Z8 (v:=((y &&& 127:Nat):Int)) rfl rfl rfl (hand y hy) ?_;refine Z8 (v:=((y &&& 127:Nat):Int)) rfl rfl rfl (hu8 y) ?_;refine Z8 (v:=(((y &&& 127) ||| 128:Nat):Int)) rfl rfl rfl (u8_or_nat (y &&& 127) 128 (Y02 Nat.and_le_right (by decide)) (by decide)) ?_;(first|refine st ?_|(apply B<;>intro hb<;>try cases hb))
   refine ZD (ZB (k:=0) (m:=bys [(y &&& 127) ||| 128]) (fl:=true) rfl rfl rfl (Zf9 _) rfl (by
    show ((bys acc).length+1)*1≤_
    rw [Z6E];omega)) rfl rfl ?_
   refine gd 13 ⟨?_⟩;refine Z2C rfl rfl (by decide) (hshr y) rfl ?_;refine go ?_;refine⟨(acc ++ [(y &&& 127) ||| 128],y / 128),mv 0 1,⟨by show y / 128<_; omega,by show (acc ++ [_]).length+y / 128≤_; rw [Y0e,Y0s]; omega,by show (acc ++ [_])++gR (y / 128) (y / 128)=_; rw [List.append_assoc]; exact hyt⟩,by show y / 128<y; omega,Z7c (by decide),Zw rfl,⟨⟨_,rfl,.pure _ Yt⟩,⟨_,rfl,.own 0 (by decide)⟩,Yt⟩,⟨⟨by decide,_,rfl,by rw [Z8u]; exact .same _ (by rw [← Z8u]; exact Zd _)⟩,Yt⟩⟩
abbrev wBx (l:List Nat):Bx:=⟨1,bys l⟩
theorem ZgK (l p:List Nat) (fl:Bool) (hb:l.length+p.length≤1000000):K1Spec Tryz.prog 117 [] [.vec (bys p) fl] [] (wBx l) (fun _ b'=>b'=wBx (l++p)):=by
 refine Z2G ok117 (Nat.le_of_ble_eq_true rfl) fun C hC=>?_;refine gd 12 ⟨?_⟩
 refine ZD (ZB (k:=1) (m:=bys p) (fl:=fl) (b:=wBx l) rfl rfl rfl (Zf9 _) rfl (by
  show ((bys l).length+(bys p).length)*1≤_
  rw [Z6E,Z6E];omega)) rfl rfl ?_
 iterate 2 (first|refine st ?_|(apply B<;>intro hb<;>try cases hb))
 refine Z0 (Z1R (size:=1) (k:=0) (i:=0) (off:=0) (b:=kid1 [] 1) (p:=.own 2) rfl rfl rfl rfl rfl (by decide) (by decide)) rfl rfl ?_;refine go ?_;exact⟨_,_,rfl,.inl rfl,2,_,by decide,rfl,rfl,Yt,by show pureLL (bys l++bys p); rw [← Z8u]; exact Zd _,by show (⟨1,bys l++bys p⟩:Bx)=_; rw [← Z8u]⟩
theorem Z5A (l:List Nat) (v:Nat) (hv:v<1000000) (hb:l.length+v<1000000):K1Spec Tryz.prog 62 [] [.val (.int .u64 (v:Int))] [] (wBx l) (fun _ b'=>b'=wBx (l++grp v)):=by
 refine Z2G ok62 (Nat.le_of_ble_eq_true rfl) fun C hC=>?_;have hgl:=Z1t v;refine gd 6 ⟨?_⟩;refine Z6 (ZgJ v hv) rfl rfl rfl ⟨Yt,Yt⟩ rfl ?_;refine Z10 (k:=0) (i:=1) (ZgK l (grp v) false (by omega)) rfl rfl rfl rfl rfl (by decide) Yt ⟨Zd _,Yt⟩ Yt (Zd _) ?_;rintro r b' hr1 hr2 rfl;refine go ?_;exact⟨_,_,rfl,.inl rfl,2,_,by decide,rfl,rfl,Yt,Zd _,rfl⟩
def wB (p:List Nat):List Nat:=grp p.length++p
theorem Z5T (l p:List Nat) (fl:Bool) (hb:l.length+2*p.length<900000):K1Spec Tryz.prog 63 [] [.vec (bys p) fl] [] (wBx l) (fun _ b'=>b'=wBx (l++wB p)):=by
 refine Z2G ok63 (Nat.le_of_ble_eq_true rfl) fun C hC=>?_;have hgl:=Z1t p.length;refine gd 7 ⟨?_⟩;refine Z8 (v:=(p.length:Int)) rfl rfl rfl (by rw [Z6E]; exact Y0x _ ⟨by omega,by omega⟩) ?_;refine Z10 (k:=0) (i:=1) (Z5A l p.length (by omega) (by omega)) rfl rfl rfl rfl rfl (by decide) Yt ⟨Yt,Yt⟩ Yt (Zd _) ?_;rintro r b' hr1 hr2 rfl;refine gd 11 ⟨?_⟩;refine Z10 (k:=0) (i:=2) (ZgK (l++grp p.length) p fl (by rw [Y0e];omega)) rfl rfl rfl rfl rfl (by decide) Yt ⟨Zd _,Yt⟩ Yt (Zd _) ?_;rintro r b' hr1 hr2 rfl;refine go ?_;exact⟨_,_,rfl,.inl rfl,3,_,by decide,rfl,rfl,Yt,Zd _,by rw [List.append_assoc]; rfl⟩
theorem Ziz (l:List Nat) (b:Bool) (hb:l.length<900000):K1Spec Tryz.prog 66 [] [.val (.bool b)] [] (wBx l) (fun _ b'=>b'=wBx (l ++ [cond b 1 0])):=by
 refine Z2G ok66 (Nat.le_of_ble_eq_true rfl) fun C hC=>?_;cases b with
 | true =>
   refine gd 7 ⟨?_⟩;refine Z10 (k:=0) (i:=1) (ZgK l [1] true (by show l.length+1≤_;omega)) rfl rfl rfl rfl rfl (by decide) Yt ⟨Zd _,Yt⟩ Yt (Zd _) ?_;rintro r b' hr1 hr2 rfl;refine go ?_;exact⟨_,_,rfl,.inl rfl,2,_,by decide,rfl,rfl,Yt,Zd _,rfl⟩
 | false =>
   refine gd 10 ⟨?_⟩;refine Z10 (k:=0) (i:=1) (ZgK l [0] true (by show l.length+1≤_;omega)) rfl rfl rfl rfl rfl (by decide) Yt ⟨Zd _,Yt⟩ Yt (Zd _) ?_;rintro r b' hr1 hr2 rfl;refine go ?_;exact⟨_,_,rfl,.inl rfl,2,_,by decide,rfl,rfl,Yt,Zd _,rfl⟩
def sB (N:Nat):List Nat:=if N=0 then [] else [N]
theorem ZhR (N:Nat):bysS N=.vec (bys (sB N)) (decide (N=0)):=by
 unfold bysS sB;by_cases h:N=0
 · subst h; rfl
 · rw [if_neg h,if_neg h,Y0w h]
theorem Z7A (N:Nat):(sB N).length≤1:=by
 unfold sB
 split<;>simp
theorem ZhS (l:List Nat) (N:Nat) (hN:N<256) (hb:l.length<800000):K1Spec Tryz.prog 65 [] [setN N] [] (wBx l) (fun _ b'=>b'=wBx (l++wB (sB N))):=by
 refine Z2G ok65 (Nat.le_of_ble_eq_true rfl) fun C hC=>?_;have hsl:=Z7A N;refine gd 6 ⟨?_⟩;refine Z6 (ZaS N hN) rfl rfl rfl ⟨Z3 N,Yt⟩ rfl ?_;rw [ZhR];refine Z10 (k:=0) (i:=1) (Z5T l (sB N) (decide (N=0)) (by omega)) rfl rfl rfl rfl rfl (by decide) Yt ⟨Zd _,Yt⟩ Yt (Zd _) ?_;rintro r b' hr1 hr2 rfl;refine go ?_;exact⟨_,_,rfl,.inl rfl,_,_,by decide,rfl,rfl,Yt,Zd _,rfl⟩
def cB (c:Cu):List Nat:=wB (sB c.1)++wB (sB c.2)
theorem Z4V (p:List Nat):(wB p).length≤2*p.length+1:=by
 unfold wB;rw [Y0e];have:=Z1t p.length;omega
theorem Zfa (c:Cu):(cB c).length≤6:=by
 unfold cB;rw [Y0e];have h1:=Z4V (sB c.1);have h2:=Z4V (sB c.2);have h3:=Z7A c.1;have h4:=Z7A c.2;omega
theorem ZiA (l:List Nat) (c:Cu) (hc:c.1<256∧c.2<256) (hb:l.length<700000):K1Spec Tryz.prog 67 [] [cuP c] [] (wBx l) (fun _ b'=>b'=wBx (l++cB c)):=by
 refine Z2G ok67 (Nat.le_of_ble_eq_true rfl) fun C hC=>?_;have h1:=Z4V (sB c.1);have h3:=Z7A c.1;refine gd 7 ⟨?_⟩;refine Z10 (k:=0) (i:=1) (ZhS l c.1 hc.1 (by omega)) rfl rfl rfl rfl rfl (by decide) Yt ⟨Z3 _,Yt⟩ Yt (Zd _) ?_;rintro r b' hr1 hr2 rfl;refine gd 11 ⟨?_⟩;refine Z10 (k:=0) (i:=3) (ZhS (l++wB (sB c.1)) c.2 hc.2 (by rw [Y0e];omega)) rfl rfl rfl rfl rfl (by decide) Yt ⟨Z3 _,Yt⟩ Yt (Zd _) ?_;rintro r b' hr1 hr2 rfl;refine go ?_;exact⟨_,_,rfl,.inl rfl,4,_,by decide,rfl,rfl,Yt,Zd _,by rw [List.append_assoc]; rfl⟩
def lB (cs:List Cu):List Nat:=grp cs.length++cs.flatMap cB
theorem Z9r (cs:List Cu):(cs.flatMap cB).length≤6*cs.length:=by
 induction cs with
 | nil=>exact Y0m _
 | cons c cs ih =>
   rw [List.flatMap_cons,Y0e,Y04];have:=Zfa c;omega
theorem Zh3 (cs:List Cu):(lB cs).length≤7*cs.length+1:=by
 unfold lB;rw [Y0e];have:=Z9r cs;have:=Z1t cs.length;omega
theorem Zdf (cs:List Cu) {i:Nat} (hi:i<cs.length):(cs.take (i+1)).flatMap cB=(cs.take i).flatMap cB++cB cs[i]:=by
 rw [List.take_succ_eq_append_getElem hi,List.flatMap_append,List.flatMap_singleton]
theorem Zh4 (l:List Nat) (cs:List Cu) (fl:Bool) (hcs:∀ c∈cs,c.1<256∧c.2<256) (hb:l.length+10*cs.length<600000):K1Spec Tryz.prog 68 [] [.vec (cs.map cuC) fl] [] (wBx l) (fun _ b'=>b'=wBx (l++lB cs)):=by
 refine Z2G ok68 (Nat.le_of_ble_eq_true rfl) fun C hC=>?_;have hgl:=Z1t cs.length;have hml:(cs.map cuC).length=cs.length:=Y0f ..;have hpi:∀ D,innLL D (cs.map cuC):=fun D=>Z9 (fun _ h=>h.elim) _ (Za Zp cs);refine gd 9 ⟨?_⟩;refine Z8 (v:=(cs.length:Int)) rfl rfl rfl (by rw [hml]; exact Y0x _ ⟨by omega,by omega⟩) ?_;refine Z10 (k:=0) (i:=1) (Z5A l cs.length (by omega) (by omega)) rfl rfl rfl rfl rfl (by decide) Yt ⟨Yt,Yt⟩ Yt (Zd _) ?_;rintro r b' hr1 hr2 rfl;refine go ?_;refine ZJ hC (fun i=>i≤cs.length) (fun i=>cs.length-i) 3 (fun i => [(0,.ptr 0 0 0),(1,.vec (cs.map cuC) fl),(11,.vec (cs.map cuC) fl),(12,.val (.int .i64 (cs.length:Int))),(13,Yv i)]) (fun i => [(0,kid1 [] 2),(2,wBx (l++grp cs.length++(cs.take i).flatMap cB))]) (by decide) 0 (Y0l _)
  (fun i=>i) (fun _ _=>rfl) (Zw rfl) ⟨⟨_,rfl,.ptr 0 0 0 (by decide)⟩,⟨_,rfl,.pure _ (Za Zp cs)⟩,⟨_,rfl,.pure _ (Za Zp cs)⟩,⟨_,by rw [← hml]; rfl,.pure _ Yt⟩,⟨_,rfl,.pure _ Yt⟩,Yt⟩
  ⟨⟨by decide,_,rfl,RenB.single ⟨.own 2 (by decide),Yt⟩ rfl⟩,⟨by decide,wBx (l++grp cs.length++(cs.take 0).flatMap cB),by rw [List.take_zero,List.flatMap_nil,Y0p]; rfl,.same _ (Zd _)⟩,Yt⟩ ?_
 intro i hi;have hfl:=Z9r (cs.take i);rw [Y0o,Nat.min_eq_left hi] at hfl;have hinc:IntKind.i64.wrap ((i:Int)+1)=((i+1:Nat):Int):=wi (i+1) (by omega);refine gd 14 ⟨?_⟩;by_cases hil:i<cs.length
 · refine Z0 (Z1 (v := true) rfl (decide_eq_true (by omega))) rfl rfl ?_;have hci:=hcs cs[i] (Y0j hil);have hft:=Zdf cs hil;refine gd 15 ⟨?_⟩;refine Z0 (Zo (xs:=cs) (g:=cuC) rfl rfl i rfl hil rfl) rfl rfl ?_;generalize cs[i]=c at hci hft;refine gd 19 ⟨?_⟩;refine Z10 (k:=0) (i:=2) (ZiA (l++grp cs.length++(cs.take i).flatMap cB) c hci (by rw [Y0e,Y0e];omega)) rfl rfl rfl rfl rfl (by decide) Yt ⟨Z39 _,Yt⟩ Yt (Zd _) ?_;rintro r b' hr1 hr2 rfl;refine go ?_;exact⟨i+1,mv 2 4,by omega,by omega,Z7c (by decide),Zw rfl,⟨⟨_,rfl,.ptr 0 0 0 (by decide)⟩,⟨_,rfl,.pure _ (Za Zp cs)⟩,⟨_,rfl,.pure _ (Za Zp cs)⟩,⟨_,rfl,.pure _ Yt⟩,⟨_,by show some _=some _; rw [hinc],.pure _ Yt⟩,Yt⟩,⟨⟨by decide,_,rfl,RenB.single ⟨.own 2 (by decide),Yt⟩ rfl⟩,⟨by decide,_,rfl,by rw [hft,← List.append_assoc]; exact .same _ (Zd _)⟩,Yt⟩⟩
 · obtain rfl : i = cs.length := by omega
   refine Z0 (Z1 (v:=false) rfl (Y0w (by omega))) rfl rfl ?_;rw [Y0q];refine go ?_;exact⟨_,_,rfl,.inl rfl,2,_,by decide,rfl,rfl,Yt,Zd _,by rw [List.append_assoc]; rfl⟩
def dig (p:List Nat):List Nat:=sumOf (HS.puts (p.length+1) ⟨List.replicate 25 0,List.replicate 136 0,0,0+p.length⟩ p)
theorem Z5j (p:List Nat):(dig p).length=32:=by simp [dig,sumOf]
theorem Zfb (p:List Nat) (fl:Bool) (hp:W8 p) (hb:p.length<1000000):Spec Tryz.prog 122 [.vec (bys p) fl] (· = .agg (crow .u8 (dig p))):=by
 refine Yp ok122 fun C hC=>?_;have hz:=ZeZ (0+p.length);have hpok:=ZeJ (p.length+1) (HS.zero (0+p.length)) p hz hp;refine gd 4 ⟨?_⟩;refine Z3R (ZaQ) (Z6w 0 0) (Z3d _) rfl rfl Yt ?_;refine gd 7 ⟨?_⟩;refine ZM (id:=1) (ZhN (HS.zero 0) (ZeZ 0) p fl hp (by show 0+p.length<_;omega)) rfl rfl rfl rfl (Z3d _) ⟨Zd _,Yt⟩ ?_;rintro r b' hr1 hr2 rfl;refine gd 9 ⟨?_⟩;refine ZM (id:=1) (ZiW _ hpok) rfl rfl rfl rfl (Z3d _) Yt ?_;rintro r b' hr1 hr2 ⟨rfl,rfl⟩;have hcl:(crow .u8 (sumOf (HS.puts (p.length+1) (HS.zero (0+p.length)) p))).length=32:=by rw [Zx]; exact Z5j p
 refine Z0 (Z4k (l:=crow .u8 (List.replicate 32 0)) rfl rfl rfl hcl rfl) rfl rfl ?_;refine go ?_;refine Z5 (Z1V (Z3F (l:=crow .u8 (dig p) ++ []) (r:=crow .u8 (dig p)) rfl rfl ?_ ?_)) (ZI _ _) rfl
 · rw [Y0p,Zx,Z5j]; decide
 · rw [Y0p,List.drop_zero,List.take_of_length_le (by rw [Zx,Z5j]; exact Y0m _)]
theorem Z8v:NSpec Tryz.prog 61 [] (fun i=>.ptr i 0 0) ⟨1,[[.vec [] true]]⟩:=by
 refine Z1B ok61 (Nat.le_of_ble_eq_true rfl) fun C hC=>?_;refine go ?_;exact⟨_,_,rfl,.inl rfl,_,rfl,rfl⟩
theorem ZaU (x:Nat) (l:List Nat) (fl:Bool) (hb:l.length<1000000):Spec Tryz.prog 123 [.vec (bys (x :: l)) fl] (· = .vec (bys (x :: l)) false):=by
 refine Yp ok123 fun C hC=>?_;refine gd 7 ⟨?_⟩
 refine Z4 (ZdP (l := []) (m:=bys (x :: l)) (fl:=fl) rfl rfl (fun c hc=>by cases hc) (Zf9 _) (by
  show (0+(bys (x :: l)).length)*1≤_
  rw [Z6E,Y04];omega)) rfl rfl ?_
 refine go ?_;exact Z5 rfl (Zd _) rfl
theorem ZhT (x:Nat) (l:List Nat) (fl:Bool) (hb:l.length<1000000):PSpec Tryz.prog 70 ⟨1,[[.vec (bys (x :: l)) fl]]⟩ [] (fun r b'=>r=.vec (bys (x :: l)) false∧b'=⟨1,[[.vec (bys (x :: l)) fl]]⟩):=by
 refine Z1z ok70 (Nat.le_of_ble_eq_true rfl) fun C hC=>?_;refine gd 9 ⟨?_⟩;refine Z6 (ZaU x l fl hb) rfl rfl rfl ⟨Zd _,Yt⟩ rfl ?_;refine go ?_;exact⟨_,_,rfl,.inl rfl,_,rfl,Zd _,⟨⟨Zd _,Yt⟩,Yt⟩,rfl,rfl⟩
def strN (s:ByteArray):List Nat:=s.data.toList.map fun b=>b.toNat
theorem Zdg (s:ByteArray):strRows s=bys (strN s):=by
 unfold strRows bys strN;rw [List.map_map]
 rfl
theorem ZbW (s:ByteArray):(strN s).length=s.size:=by
 unfold strN;rw [Y0f]
 rfl
theorem ZiX (l:List Nat) (s:ByteArray) (hb:l.length+2*s.size<800000):K1Spec Tryz.prog 121 [] [.val (.string s)] [] (wBx l) (fun _ b'=>b'=wBx (l++wB (strN s))):=by
 refine Z2G ok121 (Nat.le_of_ble_eq_true rfl) fun C hC=>?_;have hs:=ZbW s;have hd:∀ (e:Env) (h:Heap) (n:Nat) (x:Operand),ev e x=some (.val (.string s))→dEval (.s2b x) e h n=some (.vec (bys (strN s)) false,h):=fun e h n x hx=>by
  simp only [dEval,hx];rw [if_pos (by omega),Zdg]
 refine gd 6 ⟨?_⟩;refine Z0 (hd _ _ _ _ rfl) rfl rfl ?_;refine Z10 (k:=0) (i:=1) (Z5T l (strN s) false (by omega)) rfl rfl rfl rfl rfl (by decide) Yt ⟨Zd _,Yt⟩ Yt (Zd _) ?_;rintro r b' hr1 hr2 rfl;refine go ?_;exact⟨_,_,rfl,.inl rfl,2,_,by decide,rfl,rfl,Yt,Zd _,rfl⟩
theorem Zi2 {p:List Nat} (h:W8 p):W8 (wB p):=fun x hx=>(Y0h.1 hx).elim (Z9q _ x) (h x)
theorem ZhU (p:List Nat):∃ x l,wB p=x :: l:=by
 unfold wB grp;rw [List.reverse_cons];cases h:(gR p.length (p.length / 128)).reverse with
 | nil=>exact⟨_,_,rfl⟩
 | cons a b=>exact⟨_,_,rfl⟩
theorem ZbX (v:Nat):∃ x l,grp v=x :: l:=by
 unfold grp;rw [List.reverse_cons];cases h:(gR v (v / 128)).reverse with
 | nil=>exact⟨_,_,rfl⟩
 | cons a b=>exact⟨_,_,rfl⟩
theorem Z6F:pureLL (⟨1,[[PV.vec [] true]]⟩:Bx).elems:=⟨⟨Yt,Yt⟩,Yt⟩
def tagB (s:ByteArray) (p:List Nat):List Nat:=wB (strN s)++wB p
theorem ZiB (s:ByteArray):W8 (strN s):=fun x hx=>by
 obtain⟨b,_,rfl⟩:=Y0i.1 hx;exact b.toNat_lt
theorem ZaV (s:ByteArray) (p:List Nat) (fp:Bool) (hp:W8 p) (hs:s.size<100) (hb:p.length<200000):Spec Tryz.prog 69 [.val (.string s),.vec [[.vec (bys p) fp]] true] (· = .agg (crow .u8 (dig (tagB s p)))):=by
 refine Yp ok69 fun C hC=>?_;have hsl:=ZbW s;have hwl:=Z4V (strN s);have hwp:=Z4V p;have hpp:pureLL [[PV.vec (bys p) fp]]:=⟨⟨Zd _,Yt⟩,Yt⟩
 refine gd 8 ⟨?_⟩;refine Z3R Z8v (Z6w 0 0) Z6F rfl rfl Yt ?_;refine Zi (Z2y (ob:=1) (i0:=0) (j0:=0) (bo:=⟨1,[[.vec [] true]]⟩) 1 (by decide) rfl (by decide) (by decide) rfl) ?_;refine gd 11 ⟨?_⟩;refine Z10 (k:=1) (i:=2) (q := []) (b1:=wBx []) (ZiX [] s (by show 0+_<_;omega)) rfl rfl rfl rfl rfl (by decide) Yt ⟨Yt,Yt⟩ Yt Yt ?_;rintro r b' hr1 hr2 rfl;rw [List.nil_append];refine go ?_;refine ZJ hC (fun i=>i≤1) (fun i=>1-i) 4 (fun i => [(4,.ptr 0 0 0),(5,.ptr 1 0 0),(12,.vec [[.vec (bys p) fp]] true),(13,.val (.int .i64 1)),(14,Yv i)]) (fun i => [(0,⟨32,[crow .u8 (List.replicate 32 0)]⟩),(1,kid1 [] 3),(3,wBx (wB (strN s)++(if i=0 then [] else wB p)))]) (by decide) 0 (Y0l _)
  (fun i=>i) (fun _ _=>rfl) (Zw rfl) ⟨⟨_,rfl,.ptr 0 0 0 (by decide)⟩,⟨_,rfl,.ptr 1 0 0 (by decide)⟩,⟨_,rfl,.pure _ hpp⟩,⟨_,rfl,.pure _ Yt⟩,⟨_,rfl,.pure _ Yt⟩,Yt⟩
  ⟨⟨by decide,⟨32,[crow .u8 (List.replicate 32 0)]⟩,by kernel_rfl,.same _ ⟨ZI _ _,Yt⟩⟩,⟨by decide,_,rfl,RenB.single ⟨.own 3 (by decide),Yt⟩ rfl⟩,⟨by decide,wBx (wB (strN s) ++ []),by rw [Y0p]; rfl,.same _ (Zd _)⟩,Yt⟩ ?_
 intro i hi;have hinc:IntKind.i64.wrap ((i:Int)+1)=((i+1:Nat):Int):=wi (i+1) (by omega);refine gd 15 ⟨?_⟩;by_cases hil:i<1
 · obtain rfl : i = 0 := by omega
   refine Z0 (Z1 (v:=true) rfl (decide_eq_true (by omega))) rfl rfl ?_;rw [if_pos rfl,Y0p];refine gd 20 ⟨?_⟩;refine Z10 (k:=1) (i:=3) (Z5T (wB (strN s)) p fp (by omega)) rfl rfl rfl rfl rfl (by decide) Yt ⟨Zd _,Yt⟩ Yt (Zd _) ?_;rintro r b' hr1 hr2 rfl;refine go ?_;exact⟨1,mv 3 4,by omega,by omega,Z7c (by decide),Zw rfl,⟨⟨_,rfl,.ptr 0 0 0 (by decide)⟩,⟨_,rfl,.ptr 1 0 0 (by decide)⟩,⟨_,rfl,.pure _ hpp⟩,⟨_,rfl,.pure _ Yt⟩,⟨_,rfl,.pure _ Yt⟩,Yt⟩,⟨⟨by decide,_,rfl,.same _ ⟨ZI _ _,Yt⟩⟩,⟨by decide,_,rfl,RenB.single ⟨.own 3 (by decide),Yt⟩ rfl⟩,⟨by decide,_,rfl,by rw [if_neg (by decide)]; exact .same _ (Zd _)⟩,Yt⟩⟩
 · obtain rfl : i = 1 := by omega
   refine Z0 (Z1 (v:=false) rfl (Y0w (by omega))) rfl rfl ?_;rw [if_neg (by decide)];have hWt:W8 (tagB s p):=fun x hx=>(Y0h.1 hx).elim (Zi2 (ZiB s) x) (Zi2 hp x);have htl:(tagB s p).length<500000:=by unfold tagB; rw [Y0e]; omega
   obtain⟨x,l,hxl⟩:∃ x l,tagB s p=x :: l:=by
    obtain⟨x,l,h⟩:=ZhU (strN s);exact⟨x,l++wB p,by unfold tagB; rw [h]; rfl⟩
   change opsK _ _ _ _ (heapL [(0,⟨32,[crow .u8 (List.replicate 32 0)]⟩),(1,kid1 [] 3),(3,wBx (tagB s p))]) _;rw [hxl] at hWt htl ⊢;rw [Y04] at htl;refine gd 23 ⟨?_⟩;refine Zi (ZX (ob:=1) (id:=3) (i0:=0) (j0:=0) (bo:=kid1 [] 3) (b:=wBx (x :: l)) rfl rfl (by decide) (Zd _) (by decide) (by decide) rfl) ?_;refine ZM (id:=1) (ZhT x l false (by omega)) rfl rfl rfl rfl ⟨⟨Zd _,Yt⟩,Yt⟩ Yt ?_;rintro r b' hr1 hr2 ⟨rfl,rfl⟩;refine Z6 (Zfb (x :: l) false hWt (by rw [Y04];omega)) rfl rfl rfl ⟨Zd _,Yt⟩ rfl ?_;have hcl:(crow .u8 (dig (x :: l))).length=32:=by rw [Zx,Z5j]
   refine Z0 (Z4k (l:=crow .u8 (List.replicate 32 0)) rfl rfl rfl hcl rfl) rfl rfl ?_;refine go ?_;refine Z5 (Z1V (Z3F (l:=crow .u8 (dig (x :: l)) ++ []) (r:=crow .u8 (dig (x :: l))) rfl rfl ?_ ?_)) (ZI _ _) rfl
   · rw [Y0p,hcl]; decide
   · rw [Y0p,List.drop_zero,List.take_of_length_le (by rw [hcl]; exact Y0m _)]
def prW (p:Pr):List Nat:=grp p.1++grp p.2
def hyB (l:List Pr):List Nat:=grp l.length++l.flatMap prW
theorem ZhV {p:Pr} (h:p.1≤63∧p.2≤63):(prW p).length≤130:=by
 unfold prW;rw [Y0e];have:=Z1t p.1;have:=Z1t p.2;omega
theorem Z6G:∀ (l:List Pr),(∀ p∈l,p.1≤63∧p.2≤63)→(l.flatMap prW).length≤130*l.length
 | [],_=>Y0m _
 | p :: l, h => by
   rw [List.flatMap_cons,Y0e,Y04];have:=ZhV (h p (Y0t ..));have:=Z6G l fun q hq=>h q (List.mem_cons_of_mem _ hq);omega
theorem ZaW {l:List Pr} (h:∀ p∈l,p.1≤63∧p.2≤63):(hyB l).length≤131*l.length+1:=by
 unfold hyB;rw [Y0e];have:=Z1t l.length;have:=Z6G l h;omega
theorem ZiY (l:List Pr):W8 (hyB l):=fun x hx=>by
 rcases Y0h.1 hx with h|h
 · exact Z9q _ x h
 · obtain ⟨p, _, h⟩ := List.mem_flatMap.1 h;exact (Y0h.1 h).elim (Z9q _ x) (Z9q _ x)
theorem ZaX (l:List Pr) (S:List Nat) (h:∀ p∈l,p.1≤63∧p.2≤63) (hb:l.length≤1000):Spec Tryz.prog 64 [hierP l S] (· = .vec (bys (hyB l)) false):=by
 refine Yp ok64 fun C hC=>?_;have hgl:=Z1t l.length;have hml:(l.map prC).length=l.length:=Y0f ..;refine gd 9 ⟨?_⟩;refine Z3R Z8v (Z6w 0 0) Z6F rfl rfl Yt ?_;refine Zi (Z2y (ob:=0) (i0:=0) (j0:=0) (bo:=⟨1,[[.vec [] true]]⟩) 1 (by decide) rfl (by decide) (by decide) rfl) ?_;refine gd 11 ⟨?_⟩;refine Z6 (Z7s l S (by omega)) rfl rfl rfl ⟨ZE _ _,Yt⟩ rfl ?_;refine gd 15 ⟨?_⟩;refine Z8 (v:=(l.length:Int)) rfl rfl rfl (by rw [hml]; exact Y0x _ ⟨by omega,by omega⟩) ?_;refine Z10 (k:=0) (i:=1) (q := []) (b1:=wBx []) (Z5A [] l.length (by omega) (by show 0+_<_;omega)) rfl rfl rfl rfl rfl (by decide) Yt ⟨Yt,Yt⟩ Yt Yt ?_;rintro r b' hr1 hr2 rfl;rw [List.nil_append];refine go ?_;refine ZJ hC (fun i=>i≤l.length) (fun i=>l.length-i) 3 (fun i => [(3,.ptr 0 0 0),(17,.vec (l.map prC) false),(18,.val (.int .i64 (l.length:Int))),(19,Yv i)]) (fun i => [(0,kid1 [] 2),(2,wBx (grp l.length++(l.take i).flatMap prW))]) (by decide) 0 (Y0l _)
  (fun i=>i) (fun _ _=>rfl) (Zw rfl) ⟨⟨_,rfl,.ptr 0 0 0 (by decide)⟩,⟨_,rfl,.pure _ (Zh _)⟩,⟨_,by rw [← hml]; rfl,.pure _ Yt⟩,⟨_,rfl,.pure _ Yt⟩,Yt⟩
  ⟨⟨by decide,_,rfl,RenB.single ⟨.own 2 (by decide),Yt⟩ rfl⟩,⟨by decide,wBx (grp l.length++(l.take 0).flatMap prW),by rw [List.take_zero,List.flatMap_nil,Y0p]; rfl,.same _ (Zd _)⟩,Yt⟩ ?_
 intro i hi;have hfl:=Z6G (l.take i) fun p hp=>h p (List.mem_of_mem_take hp);rw [Y0o,Nat.min_eq_left hi] at hfl;have hinc:IntKind.i64.wrap ((i:Int)+1)=((i+1:Nat):Int):=wi (i+1) (by omega);refine gd 20 ⟨?_⟩;by_cases hil:i<l.length
 · refine Z0 (Z1 (v := true) rfl (decide_eq_true (by omega))) rfl rfl ?_;have hci:=h l[i] (Y0j hil);have hft:(l.take (i+1)).flatMap prW=(l.take i).flatMap prW++prW l[i]:=by
    rw [List.take_succ_eq_append_getElem hil,List.flatMap_append,List.flatMap_singleton]
   refine gd 21 ⟨?_⟩;refine Z0 (Zo (xs:=l) (g:=prC) rfl rfl i rfl hil rfl) rfl rfl ?_;generalize l[i]=p at hci hft;have g1:=Z1t p.1;refine gd 26 ⟨?_⟩;refine Z8 (v:=(p.1:Int)) rfl rfl rfl (Y0x _ ⟨by omega,by omega⟩) ?_;refine Z10 (k:=0) (i:=2) (Z5A (grp l.length++(l.take i).flatMap prW) p.1 (by omega) (by rw [Y0e];omega)) rfl rfl rfl rfl rfl (by decide) Yt ⟨Yt,Yt⟩ Yt (Zd _) ?_;rintro r b' hr1 hr2 rfl;refine gd 31 ⟨?_⟩;refine Z8 (v:=(p.2:Int)) rfl rfl rfl (Y0x _ ⟨by omega,by omega⟩) ?_;refine Z10 (k:=0) (i:=4) (Z5A (grp l.length++(l.take i).flatMap prW++grp p.1) p.2 (by omega) (by rw [Y0e,Y0e];omega)) rfl rfl rfl rfl rfl (by decide) Yt ⟨Yt,Yt⟩ Yt (Zd _) ?_;rintro r b' hr1 hr2 rfl;refine go ?_;exact⟨i+1,mv 2 5,by omega,by omega,Z7c (by decide),Zw rfl,⟨⟨_,rfl,.ptr 0 0 0 (by decide)⟩,⟨_,rfl,.pure _ (Zh _)⟩,⟨_,rfl,.pure _ Yt⟩,⟨_,by show some _=some _; rw [hinc],.pure _ Yt⟩,Yt⟩,⟨⟨by decide,_,rfl,RenB.single ⟨.own 2 (by decide),Yt⟩ rfl⟩,⟨by decide,_,rfl,by rw [hft,show grp l.length++((l.take i).flatMap prW++prW p)=grp l.length++(l.take i).flatMap prW++grp p.1++grp p.2 by unfold prW; simp only [List.append_assoc]]; exact .same _ (Zd _)⟩,Yt⟩⟩
 · obtain rfl : i = l.length := by omega
   refine Z0 (Z1 (v:=false) rfl (Y0w (by omega))) rfl rfl ?_;have hyl:=ZaW h;obtain⟨x,m,hxm⟩:∃ x m,hyB l=x :: m:=by
    obtain⟨x,m,h⟩:=ZbX l.length;exact⟨x,m++l.flatMap prW,by unfold hyB; rw [h]; rfl⟩
   rw [Y0q];change opsK _ _ _ _ (heapL [(0,kid1 [] 2),(2,wBx (hyB l))]) _;rw [hxm] at hyl ⊢;rw [Y04] at hyl;refine gd 35 ⟨?_⟩;refine Zi (ZX (ob:=0) (id:=2) (i0:=0) (j0:=0) (bo:=kid1 [] 2) (b:=wBx (x :: m)) rfl rfl (by decide) (Zd _) (by decide) (by decide) rfl) ?_;refine ZM (id:=0) (ZhT x m false (by omega)) rfl rfl rfl rfl ⟨⟨Zd _,Yt⟩,Yt⟩ Yt ?_;rintro r b' hr1 hr2 ⟨rfl,rfl⟩;refine go ?_;exact Z5 rfl (Zd _) rfl
structure PbW (t:PB):Prop where
 n:t.n≤63
 st:t.st<256
 rs:∀ r∈t.rs,r.cu.1<256∧r.cu.2<256∧r.tg≤63
 nv:∀ c∈t.nv,c.1<256∧c.2<256
 gl:∀ c∈t.gl,c.1<256∧c.2<256
 lk:∀ p∈t.l,p.1≤63∧p.2≤63
 ll:t.l.length≤100
 rl:t.rs.length≤100
 nl:t.nv.length≤100
 gn:t.gl.length≤100
def rB (r:RU):List Nat := [cond r.rev 1 0]++cB r.cu++grp r.tg
def hdB (t:PB):List Nat:=grp t.n++wB (hyB t.l)++wB (sB t.st)++grp t.rs.length
def pbB (t:PB):List Nat:=hdB t++t.rs.flatMap rB++lB t.nv++lB t.gl
theorem ZiC {r:RU} (h:r.tg≤63):(rB r).length≤71:=by
 unfold rB;rw [Y0e,Y0e];have:=Z1t r.tg;have:=Zfa r.cu;show 1+_+_≤_;omega
theorem Z9s:∀ (l:List RU),(∀ r∈l,r.tg≤63)→(l.flatMap rB).length≤71*l.length
 | [],_=>Y0m _
 | p :: l, h => by
   rw [List.flatMap_cons,Y0e,Y04];have:=ZiC (h p (Y0t ..));have:=Z9s l fun q hq=>h q (List.mem_cons_of_mem _ hq);omega
theorem ZhW {t:PB} (h:PbW t):(hdB t).length≤30000:=by
 unfold hdB;rw [Y0e,Y0e,Y0e];have h1:=Z1t t.n;have h2:=Z4V (hyB t.l);have h3:=ZaW h.lk;have h4:=Z4V (sB t.st);have h5:=Z7A t.st;have h6:=Z1t t.rs.length;have:=h.n; have:=h.ll; have:=h.rl;omega
theorem ZiZ {N:Nat} (h:N<256):W8 (sB N):=fun x hx=>by
 unfold sB at hx
 split at hx
 · cases hx
 · rw [Y0g] at hx; rw [hx]; exact h
theorem Zj3 {c:Cu} (h:c.1<256∧c.2<256):W8 (cB c):=fun x hx=>(Y0h.1 hx).elim (Zi2 (ZiZ h.1) x) (Zi2 (ZiZ h.2) x)
theorem Zj4 {cs:List Cu} (h:∀ c∈cs,c.1<256∧c.2<256):W8 (lB cs):=fun x hx=>by
 rcases Y0h.1 hx with hx|hx
 · exact Z9q _ x hx
 · obtain ⟨c, hc, hx⟩ := List.mem_flatMap.1 hx;exact Zj3 (h c hc) x hx
theorem W8.app {l m:List Nat} (hl:W8 l) (hm:W8 m):W8 (l++m):=fun x hx=>(Y0h.1 hx).elim (hl x) (hm x)
theorem Zj0 {t:PB} (h:PbW t):W8 (pbB t):=by
 refine W8.app (W8.app (W8.app (W8.app (W8.app (W8.app (Z9q _) (Zi2 (ZiY _))) (Zi2 (ZiZ h.st))) (Z9q _)) fun x hx=>?_) (Zj4 h.nv)) (Zj4 h.gl);obtain⟨r,hr,hx⟩:=List.mem_flatMap.1 hx;have hc:=h.rs r hr;exact W8.app (W8.app (fun x hx=>by rw [Y0g] at hx; rw [hx]; cases r.rev<;>decide) (Zj3 ⟨hc.1,hc.2.1⟩)) (Z9q _) x hx
def idOf (t:PB):List Nat:=dig (tagB ⟨#[112,114,111,98,108,101,109]⟩ (pbB t))
theorem Z2P {t:PB} (h:PbOk t) (hw:PbW t) (S:List Nat):Spec Tryz.prog 26 [.agg (pbP t S)] (· = .agg (crow .u8 (idOf t))):=by
 refine Yp ok26 fun C hC=>?_;have hl1:=Z1t t.n;have hl2:=Z4V (hyB t.l);have hl3:=ZaW hw.lk;have hl4:=Z4V (sB t.st);have hl5:=Z7A t.st;have hl6:=Z1t t.rs.length;have hn:=hw.n; have hll:=hw.ll; have hrl:=hw.rl; have hnl:=hw.nl; have hgl:=hw.gn;have hhl:=ZhW hw;have hml:(t.rs.map ruP).length=t.rs.length:=Y0f ..;refine gd 7 ⟨?_⟩;refine Z6 (Zgl h S) rfl rfl rfl ⟨ZR _ _,Yt⟩ rfl ?_;refine gd 10 ⟨?_⟩;refine Z3R Z8v (Z6w 0 0) Z6F rfl rfl Yt ?_;refine Zi (Z2y (ob:=2) (i0:=0) (j0:=0) (bo:=⟨1,[[.vec [] true]]⟩) 1 (by decide) rfl (by decide) (by decide) rfl) ?_;refine gd 14 ⟨?_⟩;refine Z8 (v:=(t.n:Int)) rfl rfl rfl (Y0x _ ⟨by omega,by omega⟩) ?_;refine Z10 (k:=2) (i:=3) (q := []) (b1:=wBx []) (Z5A [] t.n (by omega) (by show 0+_<_;omega)) rfl rfl rfl rfl rfl (by decide) Yt ⟨Yt,Yt⟩ Yt Yt ?_;rintro r b' hr1 hr2 rfl;rw [List.nil_append];refine gd 19 ⟨?_⟩;refine Z6 (ZaX t.l S hw.lk (by omega)) rfl rfl rfl ⟨ZE _ _,Yt⟩ rfl ?_;refine Z10 (k:=2) (i:=4) (Z5T (grp t.n) (hyB t.l) false (by omega)) rfl rfl rfl rfl rfl (by decide) Yt ⟨Zd _,Yt⟩ Yt (Zd _) ?_;rintro r b' hr1 hr2 rfl;refine gd 24 ⟨?_⟩;refine Z10 (k:=2) (i:=5) (ZhS (grp t.n++wB (hyB t.l)) t.st hw.st (by rw [Y0e];omega)) rfl rfl rfl rfl rfl (by decide) Yt ⟨Z3 _,Yt⟩ Yt (Zd _) ?_;rintro r b' hr1 hr2 rfl;refine gd 29 ⟨?_⟩;refine Z8 (v:=(t.rs.length:Int)) rfl rfl rfl (by rw [hml]; exact Y0x _ ⟨by omega,by omega⟩) ?_;refine Z10 (k:=2) (i:=6) (Z5A (grp t.n++wB (hyB t.l)++wB (sB t.st)) t.rs.length (by omega) (by rw [Y0e,Y0e];omega)) rfl rfl rfl rfl rfl (by decide) Yt ⟨Yt,Yt⟩ Yt (Zd _) ?_;rintro r b' hr1 hr2 rfl;change opsK _ _ _ _ (Heap.upd _ _ (wBx (hdB t))) _;refine go ?_;refine ZJ hC (fun i=>i≤t.rs.length) (fun i=>t.rs.length-i) 8 (fun i => [(1,.ptr 0 0 0),(2,.ptr 1 0 0),(3,.ptr 2 0 0),(32,.vec (t.rs.map ruP) false),(33,.val (.int .i64 (t.rs.length:Int))),(34,Yv i)]) (fun i => [(0,⟨6,[pbP t S]⟩),(1,⟨32,[crow .u8 (List.replicate 32 0)]⟩),(2,kid1 [] 7),(7,wBx (hdB t++(t.rs.take i).flatMap rB))]) (by decide) 0 (Y0l _)
  (fun i=>i) (fun _ _=>rfl) (Zw rfl) ⟨⟨_,rfl,.ptr 0 0 0 (by decide)⟩,⟨_,rfl,.ptr 1 0 0 (by decide)⟩,⟨_,rfl,.ptr 2 0 0 (by decide)⟩,⟨_,rfl,.pure _ (Z2W _)⟩,⟨_,by rw [← hml]; rfl,.pure _ Yt⟩,⟨_,rfl,.pure _ Yt⟩,Yt⟩
  ⟨⟨by decide,_,rfl,.same _ ⟨ZR t S,Yt⟩⟩,⟨by decide,⟨32,[crow .u8 (List.replicate 32 0)]⟩,by kernel_rfl,.same _ ⟨ZI _ _,Yt⟩⟩,⟨by decide,_,rfl,RenB.single ⟨.own 7 (by decide),Yt⟩ rfl⟩,⟨by decide,wBx (hdB t++(t.rs.take 0).flatMap rB),by rw [List.take_zero,List.flatMap_nil,Y0p]; rfl,.same _ (Zd _)⟩,Yt⟩ ?_
 intro i hi;have hfl:=Z9s (t.rs.take i) fun r hr=>(hw.rs r (List.mem_of_mem_take hr)).2.2;rw [Y0o,Nat.min_eq_left hi] at hfl;have hinc:IntKind.i64.wrap ((i:Int)+1)=((i+1:Nat):Int):=wi (i+1) (by omega);refine gd 35 ⟨?_⟩;by_cases hil:i<t.rs.length
 · refine Z0 (Z1 (v := true) rfl (decide_eq_true (by omega))) rfl rfl ?_;have hci:=hw.rs t.rs[i] (Y0j hil);have hft:(t.rs.take (i+1)).flatMap rB=(t.rs.take i).flatMap rB++rB t.rs[i]:=by
    rw [List.take_succ_eq_append_getElem hil,List.flatMap_append,List.flatMap_singleton]
   refine gd 36 ⟨?_⟩;refine Z0 (Zo (xs:=t.rs) (g:=ruP) rfl rfl i rfl hil rfl) rfl rfl ?_;generalize t.rs[i]=u at hci hft;have hg:=Z1t u.tg;have hcl:=Zfa u.cu;have htot:(hdB t++(t.rs.take i).flatMap rB).length≤40000:=by rw [Y0e]; omega
   generalize hww:hdB t++(t.rs.take i).flatMap rB=ww at htot;refine gd 40 ⟨?_⟩;refine Z0 (p:=.val (.bool u.rev)) rfl rfl rfl ?_;refine Z10 (k:=2) (i:=7) (Ziz ww u.rev (by omega)) rfl rfl rfl rfl rfl (by decide) Yt ⟨Yt,Yt⟩ Yt (Zd _) ?_;rintro r b' hr1 hr2 rfl;refine gd 45 ⟨?_⟩;refine Z10 (k:=2) (i:=9) (ZiA (ww ++ [cond u.rev 1 0]) u.cu ⟨hci.1,hci.2.1⟩ (by rw [Y0e,Y0s];omega)) rfl rfl rfl rfl rfl (by decide) Yt ⟨Z39 _,Yt⟩ Yt (Zd _) ?_;rintro r b' hr1 hr2 rfl;refine gd 49 ⟨?_⟩;refine Z8 (v:=(u.tg:Int)) rfl rfl rfl (Y0x _ ⟨by omega,by omega⟩) ?_;refine Z10 (k:=2) (i:=10) (Z5A (ww ++ [cond u.rev 1 0]++cB u.cu) u.tg (by omega) (by rw [Y0e,Y0e,Y0s];omega)) rfl rfl rfl rfl rfl (by decide) Yt ⟨Yt,Yt⟩ Yt (Zd _) ?_;rintro r b' hr1 hr2 rfl;refine go ?_;exact⟨i+1,mv 7 11,by omega,by omega,Z7c (by decide),Zw rfl,⟨⟨_,rfl,.ptr 0 0 0 (by decide)⟩,⟨_,rfl,.ptr 1 0 0 (by decide)⟩,⟨_,rfl,.ptr 2 0 0 (by decide)⟩,⟨_,rfl,.pure _ (Z2W _)⟩,⟨_,rfl,.pure _ Yt⟩,⟨_,by show some _=some _; rw [hinc],.pure _ Yt⟩,Yt⟩,⟨⟨by decide,_,rfl,.same _ ⟨ZR t S,Yt⟩⟩,⟨by decide,_,rfl,.same _ ⟨ZI _ _,Yt⟩⟩,⟨by decide,_,rfl,RenB.single ⟨.own 7 (by decide),Yt⟩ rfl⟩,⟨by decide,_,rfl,by rw [hft,show hdB t++((t.rs.take i).flatMap rB++rB u)=ww ++ [cond u.rev 1 0]++cB u.cu++grp u.tg by rw [← hww]; unfold rB; simp only [List.append_assoc]]; exact .same _ (Zd _)⟩,Yt⟩⟩
 · obtain rfl : i = t.rs.length := by omega
   refine Z0 (Z1 (v:=false) rfl (Y0w (by omega))) rfl rfl ?_;rw [Y0q] at hfl ⊢;have htot:(hdB t++t.rs.flatMap rB).length≤40000:=by rw [Y0e]; omega
   have hpb:pbB t=hdB t++t.rs.flatMap rB++lB t.nv++lB t.gl:=rfl;have hlb:=Zh3 t.nv;have hlg:=Zh3 t.gl;have hpW:=Zj0 hw;generalize hww:hdB t++t.rs.flatMap rB=ww at htot hpb;refine gd 55 ⟨?_⟩;refine Z10 (k:=2) (i:=7) (Zh4 ww t.nv false hw.nv (by omega)) rfl rfl rfl rfl rfl (by decide) Yt ⟨Za Zp _,Yt⟩ Yt (Zd _) ?_;rintro r b' hr1 hr2 rfl;refine gd 59 ⟨?_⟩;refine Z10 (k:=2) (i:=8) (Zh4 (ww++lB t.nv) t.gl false hw.gl (by rw [Y0e];omega)) rfl rfl rfl rfl rfl (by decide) Yt ⟨Za Zp _,Yt⟩ Yt (Zd _) ?_;rintro r b' hr1 hr2 rfl;have hpl:(pbB t).length<100000:=by rw [hpb,Y0e,Y0e]; omega
   have hid:idOf t=dig (tagB ⟨#[112,114,111,98,108,101,109]⟩ (pbB t)):=rfl;rw [← hpb];obtain⟨x,m,hxm⟩:∃ x m,pbB t=x :: m:=by
    obtain⟨x,m,h⟩:=ZbX t.n;exact⟨x,m++(wB (hyB t.l)++(wB (sB t.st)++(grp t.rs.length++(t.rs.flatMap rB++(lB t.nv++lB t.gl))))),by unfold pbB hdB; rw [h]; simp only [List.append_assoc,List.cons_append]⟩
   rw [hxm] at hpl hpW hid ⊢;rw [Y04] at hpl;refine gd 61 ⟨?_⟩;refine Zi (ZX (ob:=2) (id:=9) (i0:=0) (j0:=0) (bo:=kid1 [] 9) (b:=wBx (x :: m)) rfl rfl (by decide) (Zd _) (by decide) (by decide) rfl) ?_;refine ZM (id:=2) (ZhT x m false (by omega)) rfl rfl rfl rfl ⟨⟨Zd _,Yt⟩,Yt⟩ Yt ?_;rintro r b' hr1 hr2 ⟨rfl,rfl⟩;refine gd 63 ⟨?_⟩;refine Z6 (ZaV ⟨#[112,114,111,98,108,101,109]⟩ (x :: m) false hpW (by decide) (by rw [Y04];omega)) rfl rfl rfl ⟨Yt,⟨⟨Zd _,Yt⟩,Yt⟩,Yt⟩ rfl ?_;rw [← hid];have hcl:(crow .u8 (idOf t)).length=32:=by rw [Zx]; exact Z5j _
   generalize hcc:crow .u8 (idOf t)=cc at hcl;have hcp:pureL cc:=hcc▸ZI _ _;refine Z0 (Z4k (l:=crow .u8 (List.replicate 32 0)) rfl rfl rfl hcl rfl) rfl rfl ?_;refine go ?_;refine Z5 (Z1V (Z3F (l:=cc ++ []) (r:=cc) rfl rfl ?_ ?_)) hcp rfl
   · rw [Y0p,hcl]; decide
   · rw [Y0p,List.drop_zero,List.take_of_length_le (by rw [hcl]; exact Y0m _)]
theorem Zdh (xs:List Nat) (fl:Bool) (hlen:xs.length≤1000000):NSpec Tryz.prog 49 [.vec (inL xs) fl] .own ⟨1,inL xs⟩:=by
 refine Z1B ok49 (Nat.le_of_ble_eq_true rfl) fun C hC=>?_;have fin:∀ (x:Nat) (xs:List Nat),(∀ c∈inL (x :: xs),c.length=1):=fun x xs c hc=>by obtain⟨y,_,rfl⟩:=Y0i.1 hc; rfl
 cases xs with
 | nil =>
   refine go ?_;refine Z5a (.inl ⟨_,_,rfl⟩) rfl fun b=>?_;cases b
   · repeat' (first | refine Zi (Zv (k := 5) rfl 1 (by decide)) ?_ | (first|refine st ?_|(apply B<;>intro hb<;>try cases hb)))
     exact⟨_,_,rfl,.inl rfl,_,rfl,rfl⟩
   · iterate 6 (first|refine st ?_|(apply B<;>intro hb<;>try cases hb))
     refine Z22 (Zv (k:=2) rfl 1 (by decide) _) ?_;refine go ?_;exact⟨_,_,rfl,.inl rfl,_,rfl,rfl⟩
 | cons x xs =>
   repeat' (first|refine Zi (Zv (k:=5) rfl 1 (by decide)) ?_|(first|refine st ?_|(apply B<;>intro hb<;>try cases hb)))
   refine ZD (ZB (k:=0) (m:=inL (x :: xs)) (fl:=fl) rfl rfl rfl (fin x xs) rfl (by
    show (([]:List (List PV)).length+(inL (x :: xs)).length)*8≤_
    rw [Z3z,List.length_nil];omega)) rfl rfl ?_
   refine go ?_;exact⟨_,_,rfl,.inl rfl,_,rfl,by rw [List.nil_append]; rfl⟩
theorem Z6H (xs:List Nat) (fl:Bool) (g:Nat) (p:Nat→Bool) (hg:∀ x∈xs,Spec Tryz.prog g [.val (.int .i64 (x:Int))] (· = .val (.bool (p x)))) :
 Spec Tryz.prog 124 [.vec (inL xs) fl,.fn g []] (· = .val (.int .i64 (idxI p xs))):=by
 refine Yp ok124 fun C hC=>?_;refine Z2S (k:=0) rfl fun hmax=>?_;have hnl:(inL xs).length=xs.length:=by simp [inL]
 have hlm:xs.length≤maxVec:=by rw [← hnl]; exact hmax
 refine go ?_;refine Z31 (fun i=>i≤xs.length∧(xs.take i).any p=false) (fun i=>xs.length-i) (fun i => [(0,.vec (inL xs) fl),(1,.fn g []),(7,.val (.int .i64 (xs.length:Int))),(8,Yv i)]) 0 ⟨Y0l _,rfl⟩ ⟨rfl,rfl,by rw [← hnl]; rfl,rfl,Yt⟩ ?_;rintro i ⟨hi,hno⟩;have hinc:IntKind.i64.wrap ((i:Int)+1)=((i+1:Nat):Int):=Y0v _ ⟨by omega,by simp only [maxVec] at hlm; omega⟩;(refine go ?_;repeat' (apply B<;>intro hb<;>try cases hb))
 · have hil : i < xs.length := by simpa using hb
   refine Z0 (Zo (xs:=xs) (g:=inC1) rfl rfl i rfl hil rfl) rfl rfl ?_;(first|refine st ?_|(apply B<;>intro hb<;>try cases hb));refine Z6 (hg _ (Y0j hil)) rfl rfl rfl ⟨Yt,Yt⟩ rfl ?_;refine Z1m ?_;refine Z3m rfl (fun hx=>?_) (fun hx=>?_)
   · refine go ?_;exact Z5 rfl Yt (by rw [Z4f hil hno hx])
   · (refine go ?_;repeat' (apply B<;>intro hb<;>try cases hb));exact⟨i+1,⟨by omega,Z38 hil hno hx⟩,by omega,rfl,rfl,⟨rfl,rfl,rfl,by show some _=some _; rw [hinc],Yt⟩⟩
 · have hil : i = xs.length := by simp at hb; omega
   subst hil;rw [Y0q] at hno;exact Z5 rfl Yt (by rw [Z27 hno]; rfl)
theorem Z4W (xs:List Nat) (fl:Bool) (g:Nat) (p:Nat→Bool) (hg:∀ x∈xs,Spec Tryz.prog g [.val (.int .i64 (x:Int))] (· = .val (.bool (p x)))) :
 Spec Tryz.prog 71 [.vec (inL xs) fl,.fn g []] (· = .val (.bool (xs.any p))):=by
 refine Yp ok71 fun C hC=>?_;refine go ?_;refine Z6 (Z6H xs fl g p hg) rfl rfl rfl ⟨Zz xs,Yt,Yt⟩ rfl ?_;refine Z0 (Z1 rfl (Z4I (p:=p) (xs:=xs))) rfl rfl ?_;(refine go ?_;repeat' (apply B<;>intro hb<;>try cases hb))
 all_goals exact Z5 rfl Yt (by rw [hb])
theorem Zfc (k:Nat):Spec Tryz.prog 72 [.val (.int .i64 (k:Int))] (· = .val (.bool (decide (64≤k)))):=by
 refine Yp ok72 fun C hC=>?_;refine gd 4 ⟨?_⟩;refine Z0 (Z1 (v:=false) rfl (Y0w (by omega))) rfl rfl ?_;refine gd 7 ⟨?_⟩;refine Zl rfl ?_;refine Z0 (Z1 (v:=decide (64≤k)) rfl (decide_eq_decide.2 (by omega))) rfl rfl ?_;cases decide (64≤k)
 · refine go ?_;exact Z5 rfl Yt rfl
 · refine go ?_;exact Z5 rfl Yt rfl
def certL (id:List Nat) (b:Bool) (p:List Nat) (fp:Bool) (l:List Cu) (fl:Bool):List PV:=crow .u8 id ++ [.val (.bool b),.vec (inL p) fp,.vec (l.map cuC) fl]
theorem Z1i (id:List Nat) (b:Bool) (p:List Nat) (fp:Bool) (l:List Cu) (fl:Bool):pureL (certL id b p fp l fl):=Z1f (ZI _ _) ⟨Yt,Zz _,Za Zp _,Yt⟩
theorem Z41 (cc t cs:List PV) (n j:Nat) (h:cc.length=n):setAt (cc++t) (n+j) cs=cc++setAt t j cs:=by
 subst h;unfold setAt;rw [List.take_append,List.take_of_length_le (by omega),Nat.add_sub_cancel_left,Nat.add_assoc,List.drop_append,List.drop_of_length_le (by omega),Nat.add_sub_cancel_left,List.nil_append,List.append_assoc,List.append_assoc,List.append_assoc]
theorem ZhX {e:Env} {a b c:Operand} {cc:List PV} {q:PV} (ha:ev e a=some (.agg cc)) (hc:ev e c=some q) (hq:q.flat=true) (hq1:q.cells = [q]) (hl:cc.length=32) (z:List PV) (hz:z.length=35) (x:PV) (hb:ev e b=some (.val (.bool true))) (hzd:z.drop 32 = [.val (.bool false),.vec [] true,.vec [] true]):buildL e z [(0,32,a),(32,1,b),(33,1,c)]=some (cc ++ [.val (.bool true),q,.vec [] true]):=by
 have h1:setAt z 0 cc=cc ++ [.val (.bool false),.vec [] true,.vec [] true]:=by
  unfold setAt;rw [List.take_zero,List.nil_append,hl,Nat.zero_add,hzd]
 have e1:(PV.agg cc).cells=cc:=rfl;have e2:(PV.val (.bool true)).cells = [.val (.bool true)]:=rfl;have f1:(PV.agg cc).flat=true:=rfl;have f2:(PV.val (.bool true)).flat=true:=rfl;simp only [buildL,ha,hb,hc,e1,e2,f1,f2,hq,hq1,hl,hz,h1,Bool.true_and,Y0s,beq_self_eq_true];rw [if_pos (by decide)];rw [show setAt (cc ++ [PV.val (.bool false),.vec [] true,.vec [] true]) 32 [.val (.bool true)]=cc ++ [.val (.bool true),.vec [] true,.vec [] true] from Z41 cc _ _ 32 0 hl];rw [if_pos (by rw [Y0e,hl]; decide)];rw [show setAt (cc ++ [PV.val (.bool true),.vec [] true,.vec [] true]) 33 [q]=cc ++ [.val (.bool true),q,.vec [] true] from Z41 cc _ _ 32 1 hl];rw [if_pos (by rw [Y0e,hl]; decide)]
theorem ZgL {e:Env} {a c:Operand} {cc:List PV} {q:PV} (ha:ev e a=some (.agg cc)) (hc:ev e c=some q) (hq:q.flat=true) (hq1:q.cells = [q]) (hl:cc.length=32) (z:List PV) (hz:z.length=35) (hzd:z.drop 32 = [.val (.bool false),.vec [] true,.vec [] true]):buildL e z [(0,32,a),(34,1,c)]=some (cc ++ [.val (.bool false),.vec [] true,q]):=by
 have h1:setAt z 0 cc=cc ++ [.val (.bool false),.vec [] true,.vec [] true]:=by
  unfold setAt;rw [List.take_zero,List.nil_append,hl,Nat.zero_add,hzd]
 have e1:(PV.agg cc).cells=cc:=rfl;have f1:(PV.agg cc).flat=true:=rfl;simp only [buildL,ha,hc,e1,f1,hq,hq1,hl,hz,h1,Bool.true_and,Y0s,beq_self_eq_true];rw [if_pos (by decide)];rw [if_pos (by rw [Y0e,hl]; decide)];rw [show setAt (cc ++ [PV.val (.bool false),.vec [] true,.vec [] true]) 34 [q]=cc ++ [.val (.bool false),.vec [] true,q] from Z41 cc _ _ 32 2 hl]
theorem Z9t {e:Env} {h:Heap} {n:Nat} {z:List Value} {ps:List (Nat×Nat×Operand)} {l:List PV} (hb:buildL e (zpv z) ps=some l):dEval (.build z ps) e h n=some (.agg l,h):=by
 simp only [dEval,hb]
def zCert:List PV:=crow .u8 (List.replicate 32 0) ++ [.val (.bool false),.vec [] true,.vec [] true]
theorem Z42 (t:PB):(idOf t).length=32:=Z5j _
theorem Z5B {t:PB} (h:PbOk t) (hw:PbW t) (S:List Nat) (p:List Nat) (fl:Bool) (hp:p.length≤1000000):Spec Tryz.prog 19 [.agg (pbP t S),.vec (inL p) fl] (· = .agg (certL (idOf t) true p false [] true)):=by
 refine Yp ok19 fun C hC=>?_;have hpp:=ZR t S;have hil:=Z42 t;have hcl:(crow .u8 (idOf t)).length=32:=by rw [Zx,hil]
 have hlen:(certL (idOf t) true p false [] true).length=35:=by unfold certL; rw [Y0e,hcl]; rfl
 have hcp:=Z1i (idOf t) true p false [] true;have hid:=Z2P h hw S;have hcd:certL (idOf t) true p false [] true=crow .u8 (idOf t) ++ [.val (.bool true),.vec (inL p) false,.vec [] true]:=rfl;generalize certL (idOf t) true p false [] true=cc at hlen hcp hcd ⊢;generalize crow .u8 (idOf t)=ci at hid hcl hcd;have hcip:pureL ci:=by rw [hcd] at hcp; exact (Z1b _ _).2 fun q hq=>(Z1b _ _).1 hcp q (List.mem_append_left _ hq)
 refine gd 2 ⟨?_⟩;refine Z4 rfl rfl rfl ?_;refine gd 6 ⟨?_⟩;refine Z6 hid rfl rfl rfl ⟨hpp,Yt⟩ rfl ?_;refine gd 8 ⟨?_⟩;refine Z6 ((Zdh p fl hp).spec (Zz p) (fun _=>.own) (Zz p)) rfl rfl rfl ⟨Zz p,Yt⟩ rfl ?_;refine Z0 (Z9t (l:=cc) (by rw [hcd]; exact ZhX rfl rfl rfl rfl hcl _ (by kernel_rfl) pvu rfl (by kernel_rfl))) rfl rfl ?_;refine Z0 (Z4k (l:=zCert) rfl rfl (by kernel_rfl) hlen (by kernel_rfl)) rfl rfl ?_;refine go ?_;refine Z5 (Z1V (Z3F (l:=cc ++ []) (r:=cc) rfl rfl ?_ ?_)) hcp rfl
 · rw [Y0p,hlen]; decide
 · rw [Y0p,List.drop_zero,List.take_of_length_le (by rw [hlen]; exact Y0m _)]
theorem Z3H {t:PB} (h:PbOk t) (hw:PbW t) (S:List Nat) (l:List Cu) (fl:Bool) (hl:l.length≤1000000):Spec Tryz.prog 16 [.agg (pbP t S),.vec (l.map cuC) fl] (· = .agg (certL (idOf t) false [] true l false)):=by
 refine Yp ok16 fun C hC=>?_;have hpp:=ZR t S;have hil:=Z42 t;have hcl:(crow .u8 (idOf t)).length=32:=by rw [Zx,hil]
 have hlen:(certL (idOf t) false [] true l false).length=35:=by unfold certL; rw [Y0e,hcl]; rfl
 have hcp:=Z1i (idOf t) false [] true l false;have hid:=Z2P h hw S;have hcd:certL (idOf t) false [] true l false=crow .u8 (idOf t) ++ [.val (.bool false),.vec [] true,.vec (l.map cuC) false]:=rfl;generalize certL (idOf t) false [] true l false=cc at hlen hcp hcd ⊢;generalize crow .u8 (idOf t)=ci at hid hcl hcd;have hcip:pureL ci:=by rw [hcd] at hcp; exact (Z1b _ _).2 fun q hq=>(Z1b _ _).1 hcp q (List.mem_append_left _ hq)
 refine gd 2 ⟨?_⟩;refine Z4 rfl rfl rfl ?_;refine gd 6 ⟨?_⟩;refine Z6 hid rfl rfl rfl ⟨hpp,Yt⟩ rfl ?_;refine gd 8 ⟨?_⟩;refine Z6 ((ZcN l fl hl).spec (Za Zp l) (fun _=>.own) (Za Zp l)) rfl rfl rfl ⟨Za Zp l,Yt⟩ rfl ?_;refine Z0 (Z9t (l:=cc) (by rw [hcd]; exact ZgL rfl rfl rfl rfl hcl _ (by kernel_rfl) (by kernel_rfl))) rfl rfl ?_;refine Z0 (Z4k (l:=zCert) rfl rfl (by kernel_rfl) hlen (by kernel_rfl)) rfl rfl ?_;refine go ?_;refine Z5 (Z1V (Z3F (l:=cc ++ []) (r:=cc) rfl rfl ?_ ?_)) hcp rfl
 · rw [Y0p,hlen]; decide
 · rw [Y0p,List.drop_zero,List.take_of_length_le (by rw [hlen]; exact Y0m _)]
def rolesN:Nat:=withoutN (2 ^ 64-1) 0
theorem Zfd:rolesN<18446744073709551616:=Zad (by decide) 0
def cT:List Cu→Nat
 | []=>0
 | c :: r=>if decide (c.1 ||| c.2 ||| rolesN=rolesN) then (if emC c then 6 else cT r) else 2
def chkT (p:List Nat) (l:List Cu):Nat:=if p.any (fun k=>decide (64≤k)) then 2 else cT l
def FormC (b:Bool) (p:List Nat) (l:List Cu):Prop:=(b=true∧l = []) ∨ (b=false∧p = [])
section
variable {id p:List Nat} {b fp fl:Bool} {l:List Cu}
theorem Z8w (hid:id.length=32):(certL id b p fp l fl).drop 32=.val (.bool b) :: [.vec (inL p) fp,.vec (l.map cuC) fl]:=by
 unfold certL;rw [List.drop_append,Zx,hid,List.drop_of_length_le (by rw [Zx,hid]; exact Y0m _)]
 rfl
theorem ZbY (hid:id.length=32):(certL id b p fp l fl).drop 33=.vec (inL p) fp :: [.vec (l.map cuC) fl]:=by
 unfold certL;rw [List.drop_append,Zx,hid,List.drop_of_length_le (by rw [Zx,hid]; decide)]
 rfl
theorem ZbZ (hid:id.length=32):(certL id b p fp l fl).drop 34=.vec (l.map cuC) fl :: []:=by
 unfold certL;rw [List.drop_append,Zx,hid,List.drop_of_length_le (by rw [Zx,hid]; decide)]
 rfl
theorem Z2X (hid:id.length=32):(certL id b p fp l fl).length=35:=by
 unfold certL;rw [Y0e,Zx,hid]
 rfl
end
theorem ZaY (id:List Nat) (hid:id.length=32) (b:Bool) (p:List Nat) (fp:Bool) (l:List Cu) (fl:Bool) (hf:FormC b p l) (hp:p.length≤10000) (hll:l.length≤2000) (hl:∀ c∈l,Ok64 c):Spec Tryz.prog 27 [.agg (certL id b p fp l fl)] (· = .val (.int .i64 ((chkT p l:Nat):Int))):=by
 refine Yp ok27 fun C hC=>?_;have d32:=Z8w (b:=b) (p:=p) (fp:=fp) (l:=l) (fl:=fl) hid;have d33:=ZbY (b:=b) (p:=p) (fp:=fp) (l:=l) (fl:=fl) hid;have d34:=ZbZ (b:=b) (p:=p) (fp:=fp) (l:=l) (fl:=fl) hid;have hlen:=Z2X (b:=b) (p:=p) (fp:=fp) (l:=l) (fl:=fl) hid;have hcp:=Z1i id b p fp l fl;have hil:=Z3z p;have hml:(l.map cuC).length=l.length:=Y0f ..;have hlp:pureLL (l.map cuC):=Za Zp l;generalize certL id b p fp l fl=cc at d32 d33 d34 hlen hcp;have hcf:=Z4W p fp 72 (fun k=>decide (64≤k)) (fun k _=>Zfc k);have hbe:=Z3V 64 (by decide) (by decide);have hwo:=Z1p (2 ^ 64-1) (by decide) 0;change Spec _ _ _ (· = setN rolesN) at hwo;have hrl:=Zfd;refine gd 1 ⟨?_⟩;refine Z4 (Z6s rfl (by rw [hlen]; decide)) rfl rfl ?_
 iterate 2 (first|refine st ?_|(apply B<;>intro hb<;>try cases hb))
 have hci:∀ D,innL D cc:=fun D=>Zm (fun _ h=>h.elim) _ hcp;have hli:∀ D,innLL D (l.map cuC):=fun D=>Z9 (fun _ h=>h.elim) _ hlp;refine ZgU hC (p.any (fun k=>decide (64≤k))=false) 0 [(1,.cp cc)] [] (Y0l _) ?_ (fun hany=>?_)
 · refine gd 8 ⟨?_⟩;refine Z0 (Z44 rfl d33) rfl rfl ?_;refine gd 10 ⟨?_⟩;refine Z0 (Z1 (v:=false) rfl (Y0w (by rw [hil];omega))) rfl rfl ?_;refine gd 13 ⟨?_⟩;refine Zl rfl ?_;refine Z0 (Z44 rfl d34) rfl rfl ?_;refine gd 15 ⟨?_⟩;refine Zl rfl ?_;refine Z0 (Z1 (v:=false) rfl (Y0w (by rw [hml];omega))) rfl rfl ?_;refine gd 19 ⟨?_⟩;refine Z0 (Z44 rfl d32) rfl rfl ?_;rcases hf with⟨rfl,rfl⟩|⟨rfl,rfl⟩
   · refine gd 22 ⟨?_⟩;refine Zl rfl ?_;refine Z0 (Z44 rfl d34) rfl rfl ?_;refine gd 28 ⟨?_⟩;refine Zl rfl ?_;refine Z0 (Z44 rfl d32) rfl rfl ?_;refine gd 39 ⟨?_⟩;refine Z0 (Z44 rfl d33) rfl rfl ?_;refine Z6 hcf rfl rfl rfl ⟨Zz p,Yt,Yt⟩ rfl ?_;cases ha:p.any fun k=>decide (64≤k)
     · refine go ?_;exact⟨rfl,⟨⟨rfl,hci _⟩,Yt⟩,Yt⟩
     · refine go ?_;exact Z5 rfl Yt (by unfold chkT; rw [ha]; rfl)
   · refine gd 28 ⟨?_⟩;refine Zl rfl ?_;refine Z0 (Z44 rfl d32) rfl rfl ?_;refine gd 32 ⟨?_⟩;refine Zl rfl ?_;refine Z0 (Z44 rfl d33) rfl rfl ?_;refine gd 39 ⟨?_⟩;refine Z0 (Z44 rfl d33) rfl rfl ?_;refine Z6 hcf rfl rfl rfl ⟨Zz _,Yt,Yt⟩ rfl ?_;refine go ?_;exact⟨rfl,⟨⟨rfl,hci _⟩,Yt⟩,Yt⟩
 · have hct : chkT p l = cT l := by unfold chkT; rw [hany]; rfl
   rw [hct];generalize hfin:cT l=fin;refine gd 41 ⟨?_⟩;refine Z6 hbe rfl rfl rfl ⟨Yt,Yt⟩ rfl ?_;refine Z6 hwo rfl rfl rfl ⟨Z3 _,Yt,Yt⟩ rfl ?_;refine gd 44 ⟨?_⟩;refine Z0 (Z44 rfl d34) rfl rfl ?_;refine go ?_;refine Zn hC (fun i=>i≤l.length∧cT (l.drop i)=fin) (fun i=>l.length-i) 1 (fun i => [(3,.ptr 0 0 0),(44,.vec (l.map cuC) fl),(45,.val (.int .i64 (l.length:Int))),(46,Yv i)]) (fun _ => [(0,sBx rolesN)]) (by decide) 0 ⟨Y0l _,hfin⟩
    ⟨⟨rfl,show 0<1 by decide⟩,⟨rfl,hli _⟩,⟨by rw [← hml]; rfl,Yt⟩,⟨rfl,Yt⟩,Yt⟩ ⟨⟨by decide,rfl,Z2x _ _⟩,Yt⟩ ?_
   rintro i ⟨hi,hk⟩;have hinc:IntKind.i64.wrap ((i:Int)+1)=((i+1:Nat):Int):=Y0v _ ⟨by omega,by omega⟩;refine gd 47 ⟨?_⟩;by_cases hil2:i<l.length
   · refine Z0 (Z1 (v := true) rfl (decide_eq_true (by omega))) rfl rfl ?_;have hdr:l.drop i=l[i] :: l.drop (i+1):=List.drop_eq_getElem_cons hil2;rw [hdr] at hk;have hc64:=hl _ (Y0j hil2);refine gd 48 ⟨?_⟩;refine Z0 (Zo (xs:=l) (g:=cuC) rfl rfl i rfl hil2 rfl) rfl rfl ?_;generalize l[i]=c at hk hc64;have hor:=Z1U hc64.1 hc64.2;have hwi:=Z1T (c.1 ||| c.2) rolesN hor hrl;change (if decide (c.1 ||| c.2 ||| rolesN=rolesN) then (if emC c then 6 else cT (l.drop (i+1))) else 2)=fin at hk;refine gd 54 ⟨?_⟩;refine Zy (Z1Y c.1 c.2 hc64.1 hc64.2) rfl rfl rfl ⟨Z3 _,Z3 _,Yt⟩ ?_;refine gd 56 ⟨?_⟩;refine Zy hwi rfl rfl rfl ⟨Z3 _,Z3 _,Yt⟩ ?_;cases hw:decide (c.1 ||| c.2 ||| rolesN=rolesN)
     · rw [hw, if_neg (by decide)] at hk;refine go ?_;exact Z5 rfl Yt (by rw [← hk]; rfl)
     rw [hw,if_pos rfl] at hk;refine gd 59 ⟨?_⟩;refine Z6 (Z6l c hc64) rfl rfl rfl ⟨Z39 _,Yt⟩ rfl ?_;cases he:emC c
     · rw [he, if_neg (by decide)] at hk;refine go ?_;exact⟨i+1,⟨hil2,hk⟩,by omega,⟨⟨rfl,show 0<1 by decide⟩,⟨rfl,hli _⟩,⟨rfl,Yt⟩,⟨by show some _=some _; rw [hinc],Yt⟩,Yt⟩,⟨⟨by decide,rfl,Z2x _ _⟩,Yt⟩⟩
     · rw [he, if_pos rfl] at hk;refine go ?_;exact Z5 rfl Yt (by rw [← hk]; rfl)
   · obtain rfl : i = l.length := by omega
     refine Z0 (Z1 (v:=false) rfl (Y0w (by omega))) rfl rfl ?_;rw [List.drop_length] at hk;refine go ?_;exact Z5 rfl Yt (by rw [← hk]; rfl)
theorem eqCrow:∀ (n:Nat) (a b:List Nat),a.length=n→b.length=n→eqCells (List.replicate n 0) (crow .u8 a) (crow .u8 b)=some (decide (a=b))
 | 0,[],[],_,_=>rfl
 | n + 1, x :: a, y :: b, ha, hb => by
   have ih:=eqCrow n a b (Nat.succ.inj ha) (Nat.succ.inj hb);show (match eqCell 0 (.val (.int .u8 (x:Int))) (.val (.int .u8 (y:Int))),eqCells (List.replicate n 0) (crow .u8 a) (crow .u8 b) with|some x,some y=>some (x&&y)|_,_=>none)=_;rw [ih];have e1:eqCell 0 (.val (.int .u8 (x:Int))) (.val (.int .u8 (y:Int)))=some (decide (x=y)):=by
    show (if (0=0∧IntKind.u8=IntKind.u8) then some (((x:Int)) == (y:Int)) else none)=_;rw [if_pos ⟨rfl,rfl⟩];congr 1;by_cases h:x=y
    · subst h; simp
    · rw [Y0w h];exact beq_eq_false_iff_ne.2 (by omega)
   rw [e1];show some (decide (x=y)&&decide (a=b))=_;congr 1;rw [← Bool.decide_and];exact decide_eq_decide.2 (by rw [List.cons.injEq])
section
variable {e:Env} {h:Heap} {n:Nat} {x y:Operand} {a b:List Nat}
theorem Zfe (hx:ev e x=some (.agg (crow .u8 a))) (hy:ev e y=some (.agg (crow .u8 b))) (ha:a.length=32) (hb:b.length=32):dEval (.bin .eql (.cells (List.replicate 32 0)) x y) e h n=some (.val (.bool (decide (a=b))),h):=by
 simp only [dEval,hx,hy,pbin,eqCrow 32 a b ha hb]
theorem Zff (hx:ev e x=some (.agg (crow .u8 a))) (hy:ev e y=some (.agg (crow .u8 b))) (ha:a.length=32) (hb:b.length=32):dEval (.bin .neq (.cells (List.replicate 32 0)) x y) e h n=some (.val (.bool (!decide (a=b))),h):=by
 simp only [dEval,hx,hy,pbin,eqCrow 32 a b ha hb]
theorem Zfg {l r:List PV} {size:Nat} (hx:ev e x=some (.cp l)) (hl:size≤l.length) (hr:l.take size=r):dEval (.load true size x) e h n=some (.agg r,h):=by
 subst hr;simp only [dEval,hx,cutAt];rw [if_pos (by omega)]
 rfl
end
theorem Zc0 {l:List Cu} {c:Cu} (hc:c∈l):c.1 ||| mentC l=mentC l∧c.2 ||| mentC l=mentC l:=by
 have gen:∀ (l:List Cu) (a:Nat),a ||| l.foldl (fun s c=>(s ||| c.1) ||| c.2) a=l.foldl (fun s c=>(s ||| c.1) ||| c.2) a:=by
  intro l
  induction l with
  | nil=>exact fun a=>Nat.or_self a
  | cons x l ih =>
    intro a;have h1:=ih ((a ||| x.1) ||| x.2);show a ||| l.foldl _ ((a ||| x.1) ||| x.2)=l.foldl _ ((a ||| x.1) ||| x.2)
    rw [← h1];apply Nat.eq_of_testBit_eq;intro i;simp only [Y00];cases a.testBit i<;>simp
 have gen2:∀ (l:List Cu) (a:Nat) (c:Cu),c∈l→c.1 ||| l.foldl (fun s c=>(s ||| c.1) ||| c.2) a=l.foldl (fun s c=>(s ||| c.1) ||| c.2) a∧c.2 ||| l.foldl (fun s c=>(s ||| c.1) ||| c.2) a=l.foldl (fun s c=>(s ||| c.1) ||| c.2) a:=by
  intro l
  induction l with
  | nil=>exact fun a c hc=>by cases hc
  | cons x l ih =>
    intro a c hc;rcases List.mem_cons.1 hc with rfl|hc
    · have h1 := gen l ((a ||| c.1) ||| c.2);show c.1 ||| l.foldl _ ((a ||| c.1) ||| c.2)=l.foldl _ ((a ||| c.1) ||| c.2)∧c.2 ||| l.foldl _ ((a ||| c.1) ||| c.2)=l.foldl _ ((a ||| c.1) ||| c.2)
      rw [← h1];constructor
      · apply Nat.eq_of_testBit_eq;intro i;simp only [Y00];cases c.1.testBit i<;>simp
      · apply Nat.eq_of_testBit_eq;intro i;simp only [Y00];cases c.2.testBit i<;>simp
    · exact ih _ c hc
 exact gen2 l 0 c hc
theorem Zh5 {l:List Cu} (hl:∀ c∈l,Ok64 c) (h0:(mentC l).testBit 0=false):CuZ l:=fun c hc=>by
 obtain⟨h1,h2⟩:=Zc0 hc;refine⟨hl c hc,?_,?_⟩
 · have := congrArg (fun x => x.testBit 0) h1;simp only [Y00,h0,Bool.or_false] at this;exact this
 · have := congrArg (fun x => x.testBit 0) h2;simp only [Y00,h0,Bool.or_false] at this;exact this
noncomputable def chkJ (t:PB) (b:Bool) (p:List Nat) (l:List Cu) (fl:Bool):Fd :=
 if idOf t=List.replicate 32 0 then (2,0,0) else if chkT p l≠0 then (3,0,0) else if properT t.n l then
  (if p.any (fun k=>decide (t.rs.length≤k)) then (3,0,0) else if b then followT t t.st p 0 else closedT t l fl) else (3,0,0)
theorem Z4l {t:PB} (h:PbOk t) (hw:PbW t) (S:List Nat) (b:Bool) (p:List Nat) (fp:Bool) (l:List Cu) (fl:Bool) (hf:FormC b p l) (hp:p.length≤10000) (hll:l.length≤2000) (hl:∀ c∈l,Ok64 c):Spec Tryz.prog 9 [.agg (pbP t S),.agg (certL (idOf t) b p fp l fl)] (· = fdP (chkJ t b p l fl)):=by
 refine Yp ok9 fun C hC=>?_;have hpp:=ZR t S;have hpi:∀ D,innL D (pbP t S):=fun D=>Zm (fun _ h=>h.elim) _ hpp;have hid:=Z42 t;have d32:=Z8w (b:=b) (p:=p) (fp:=fp) (l:=l) (fl:=fl) hid;have d33:=ZbY (b:=b) (p:=p) (fp:=fp) (l:=l) (fl:=fl) hid;have d34:=ZbZ (b:=b) (p:=p) (fp:=fp) (l:=l) (fl:=fl) hid;have hlen:=Z2X (b:=b) (p:=p) (fp:=fp) (l:=l) (fl:=fl) hid;have hcp:=Z1i (idOf t) b p fp l fl;have htk:(certL (idOf t) b p fp l fl).take 32=crow .u8 (idOf t):=by
  unfold certL;rw [List.take_append,Zx,hid,Nat.sub_self,List.take_zero,Y0p,List.take_of_length_le (by rw [Zx,hid]; exact Y0m _)]
 have hck:=ZaY (idOf t) hid b p fp l fl hf hp hll hl;have hpr:=Z2P h hw S;have hcl:(crow .u8 (idOf t)).length=32:=by rw [Zx,hid]
 have hJ:chkJ t b p l fl=if idOf t=List.replicate 32 0 then (2,0,0) else if chkT p l≠0 then (3,0,0) else if properT t.n l then
  (if p.any (fun k=>decide (t.rs.length≤k)) then (3,0,0) else if b then followT t t.st p 0 else closedT t l fl) else (3,0,0):=rfl
 generalize certL (idOf t) b p fp l fl=cc at d32 d33 d34 hlen hcp htk hck;have hci:∀ D,innL D cc:=fun D=>Zm (fun _ h=>h.elim) _ hcp;have hz:∀ D,innLL D [[PV.val (.int .u8 0),.val (.int .i64 0),.val (.int .i64 0)]]:=fun D=>⟨⟨Yt,Yt,Yt,Yt⟩,Yt⟩
 generalize hii:idOf t=ii at hid htk hpr hcl hJ;refine gd 2 ⟨?_⟩;refine Z4 rfl rfl rfl ?_;refine Z4 (Z6s rfl (by rw [hlen]; decide)) rfl rfl ?_;refine gd 9 ⟨?_⟩;refine Z6 hpr rfl rfl rfl ⟨hpp,Yt⟩ rfl ?_;(first|refine st ?_|(apply B<;>intro hb<;>try cases hb));refine Z0 (Z4k (l:=crow .u8 (List.replicate 32 0)) rfl rfl rfl hcl rfl) rfl rfl ?_;refine gd 11 ⟨?_⟩;refine Z0 (Zfg (r:=crow .u8 ii) rfl (by rw [List.drop_zero,hlen]; decide) (by rw [List.drop_zero,htk])) rfl rfl ?_;refine Z0 (Z3F (l:=crow .u8 ii ++ []) (r:=crow .u8 ii) rfl rfl (by rw [Y0p,hcl]; decide) (by rw [Y0p,List.drop_zero,List.take_of_length_le (by rw [hcl]; exact Y0m _)])) rfl rfl ?_;refine Z0 (Zff rfl rfl hid hid) rfl rfl ?_;rw [decide_eq_true rfl];refine gd 15 ⟨?_⟩;refine Zl rfl ?_;refine Z0 (Z3F (l:=crow .u8 ii ++ []) (r:=crow .u8 ii) rfl rfl (by rw [Y0p,hcl]; decide) (by rw [Y0p,List.drop_zero,List.take_of_length_le (by rw [hcl]; exact Y0m _)])) rfl rfl ?_;refine gd 17 ⟨?_⟩;refine Zl rfl ?_;refine Z0 (Zfe (b:=List.replicate 32 0) rfl (by kernel_rfl) hid rfl) rfl rfl ?_;by_cases h0:ii=List.replicate 32 0
 · rw [if_pos h0] at hJ;rw [hJ,decide_eq_true h0];refine go ?_;exact Z5 rfl (Z1s (2,0,0)) rfl
 rw [if_neg h0] at hJ;rw [Y0w h0];refine gd 20 ⟨?_⟩;refine Z0 (Zfg (r:=cc) rfl (by rw [hlen]; decide) (List.take_of_length_le (by rw [hlen]; exact Y0m _))) rfl rfl ?_;refine Z6 hck rfl rfl rfl ⟨hcp,Yt⟩ rfl ?_;by_cases hc0:chkT p l≠0
 · rw [if_pos hc0] at hJ;rw [hJ];refine Z0 (Z1 (v:=true) rfl (bne_iff_ne.2 (by omega))) rfl rfl ?_;refine go ?_;exact Z5 rfl (Z1s (3,0,0)) rfl
 rw [if_neg hc0] at hJ;have hc0:chkT p l=0:=by omega
 rw [hc0];refine gd 26 ⟨?_⟩;refine Zl rfl ?_;refine Z0 (Z44 rfl d34) rfl rfl ?_;refine Zl rfl ?_;refine Z6 (ZaM t h.n.2 S l fl hl) rfl rfl rfl ⟨hpp,Za Zp l,Yt⟩ rfl ?_;cases hpr:properT t.n l
 · rw [hpr, if_neg (by decide)] at hJ;rw [hJ];refine go ?_;exact Z5 rfl (Z1s (3,0,0)) rfl
 rw [hpr,if_pos rfl] at hJ
 have hcz:CuZ l:=Zh5 hl (by
  unfold properT at hpr;simp only [Y0k,Bool.not_eq_true'] at hpr
  exact hpr.1)
 have hmr:(t.rs.map ruP).length=t.rs.length:=Y0f ..;have hip:=Z3z p;have hii2:∀ D,innLL D (inL p):=fun D=>Z9 (fun _ h=>h.elim) _ (Zz p);have hst:t.st<18446744073709551616:=Nat.lt_trans hw.st (by decide);have hfo:=ZaN h S p fp (by omega) hst;have hclo:=ZaO h S l fl hcz (by omega) hst;generalize followT t t.st p 0=F at hfo hJ;generalize closedT t l fl=G at hclo hJ;refine gd 32 ⟨?_⟩;refine Z0 (Z44 rfl d33) rfl rfl ?_;refine go ?_;refine Zn hC (fun i=>i≤p.length∧(p.take i).any (fun k=>decide (t.rs.length≤k))=false) (fun i=>p.length-i) 1 (fun i => [(2,.cp (pbP t S)),(3,.cp cc),(4,.ptr 0 0 0),(32,.vec (inL p) fp),(33,.val (.int .i64 (p.length:Int))),(34,Yv i)]) (fun _ => [(0,⟨3,[[.val (.int .u8 0),.val (.int .i64 0),.val (.int .i64 0)]]⟩)]) (by decide) 0 ⟨Y0l _,rfl⟩
  ⟨⟨rfl,hpi _⟩,⟨rfl,hci _⟩,⟨rfl,show 0<1 by decide⟩,⟨rfl,hii2 _⟩,⟨by rw [← hip]; rfl,Yt⟩,⟨rfl,Yt⟩,Yt⟩ ⟨⟨by decide,rfl,hz _⟩,Yt⟩ ?_
 rintro i ⟨hi,hno⟩;have hinc:IntKind.i64.wrap ((i:Int)+1)=((i+1:Nat):Int):=Y0v _ ⟨by omega,by omega⟩;refine gd 35 ⟨?_⟩;by_cases hil:i<p.length
 · refine Z0 (Z1 (v := true) rfl (decide_eq_true (by omega))) rfl rfl ?_;have hst2:(p.take (i+1)).any (fun k=>decide (t.rs.length≤k))=decide (t.rs.length≤p[i]):=by
    rw [List.take_succ_eq_append_getElem hil,List.any_append,hno];simp
   refine gd 36 ⟨?_⟩;refine Z0 (Zo (xs:=p) (g:=inC1) rfl rfl i rfl hil rfl) rfl rfl ?_;have hmem:p[i]∈p:=Y0j hil;generalize p[i]=k at hst2 hmem;refine gd 39 ⟨?_⟩;refine Z0 (Z1 (v:=false) rfl (Y0w (by omega))) rfl rfl ?_;refine gd 45 ⟨?_⟩;refine Zl rfl ?_;by_cases hk:t.rs.length≤k
   · refine Z0 (Z1 (v := true) rfl (decide_eq_true (by rw [hmr]; omega))) rfl rfl ?_;rw [if_pos (Y01.2 ⟨k,hmem,decide_eq_true hk⟩)] at hJ;rw [hJ];refine go ?_;exact Z5 rfl (Z1s (3,0,0)) rfl
   · refine Z0 (Z1 (v := false) rfl (Y0w (by rw [hmr]; omega))) rfl rfl ?_;rw [Y0w hk] at hst2;refine go ?_;exact⟨i+1,⟨hil,hst2⟩,by omega,⟨⟨rfl,hpi _⟩,⟨rfl,hci _⟩,⟨rfl,show 0<1 by decide⟩,⟨rfl,hii2 _⟩,⟨rfl,Yt⟩,⟨by show some _=some _; rw [hinc],Yt⟩,Yt⟩,⟨⟨by decide,rfl,hz _⟩,Yt⟩⟩
 · obtain rfl : i = p.length := by omega
   refine Z0 (Z1 (v:=false) rfl (Y0w (by omega))) rfl rfl ?_;rw [Y0q] at hno;rw [hno,if_neg (by decide)] at hJ;refine gd 50 ⟨?_⟩;refine Z0 (Z44 rfl d32) rfl rfl ?_;cases b
   · rw [if_neg (by decide)] at hJ;rw [hJ];refine gd 57 ⟨?_⟩;refine Z0 (Z44 rfl d34) rfl rfl ?_;refine Z6 hclo rfl rfl rfl ⟨hpp,Za Zp l,Yt⟩ rfl ?_;refine go ?_;exact Z5 rfl (Z1s _) rfl
   · rw [if_pos rfl] at hJ;rw [hJ];refine gd 53 ⟨?_⟩;refine Z0 (Z44 rfl d33) rfl rfl ?_;refine Z6 hfo rfl rfl rfl ⟨hpp,Zz p,Yt⟩ rfl ?_;refine go ?_;exact Z5 rfl (Z1s _) rfl
end
section
theorem Z5k {e:Nat→Bool}:∀ (c k:Nat),kFind e c k=none→∀ j,k≤j→j<k+c→e j=false
 | 0,k,_,j,h1,h2=>by omega
 | c + 1, k, h, j, h1, h2 => by
   change (if e k then some k else kFind e c (k+1))=none at h
   split at h
   · cases h
   · rename_i hk;by_cases hj:j=k
     · subst hj; exact Bool.eq_false_iff.2 hk
     · exact Z5k c (k+1) h j (by omega) (by omega)
theorem Z7B {e:Nat→Nat→Bool} {m:Nat}:∀ (c i:Nat),iFind e m c i=none→∀ j,i≤j→j<i+c→∀ k,k<m→e j k=false
 | 0,i,_,j,h1,h2=>by omega
 | c + 1, i, h, j, h1, h2 => by
   change (match kFind (e i) m 0 with|some k=>some (i,k)|none=>iFind e m c (i+1))=none at h;intro k hk;cases hf:kFind (e i) m 0 with
   | some k0=>rw [hf] at h; cases h
   | none =>
     rw [hf] at h;by_cases hj:j=i
     · subst hj; exact Z5k m 0 hf k (Y0l _) (by omega)
     · exact Z7B c (i+1) h j (by omega) (by omega) k hk
theorem Zc1 {l:List Cu} {F:Nat} (h:∀ c∈l,Sb c.1 F∧Sb c.2 F):Sb (mentC l) F:=by
 suffices hs:∀ (l:List Cu) (a:Nat),(∀ c∈l,Sb c.1 F∧Sb c.2 F)→Sb a F→Sb (l.foldl (fun s c=>(s ||| c.1) ||| c.2) a) F from hs l 0 h fun i hi=>by simp at hi
 intro l
 induction l with
 | nil=>exact fun a _ h=>h
 | cons c l ih =>
   intro a hc ha;refine ih _ (fun x hx=>hc x (List.mem_cons_of_mem _ hx)) fun i hi=>?_;rw [Y00,Y00,Bool.or_eq_true,Bool.or_eq_true] at hi;rcases hi with (hi|hi)|hi
   · exact ha i hi
   · exact (hc c (Y0t ..)).1 i hi
   · exact (hc c (Y0t ..)).2 i hi
theorem Zc2 (n:Nat):Sb (mkN n) (fullN n):=fun i hi=>by
 rw [Z2N,Y0k,Y0n,Y0n] at hi;rw [Z4U,Y0n];omega
theorem InC.full {n:Nat} {c:Cu} (h:InC n c):Sb c.1 (fullN n)∧Sb c.2 (fullN n):=⟨fun i hi=>Zc2 n i (Z9j.1 h.y i hi),fun i hi=>Zc2 n i (Z9j.1 h.n i hi)⟩
theorem Z2k {n:Nat} {d:ND} (h1:∀ c∈d.so,Sb c.1 (fullN n)∧Sb c.2 (fullN n)) (h2:∀ c∈d.no,Sb c.1 (fullN n)∧Sb c.2 (fullN n)):Sb (mOf d) (fullN n):=fun i hi=>by
 unfold mOf at hi;rw [Y00,Bool.or_eq_true] at hi;exact hi.elim (Zc1 h1 i) (Zc1 h2 i)
theorem ZaZ {n:Nat} {l:List Cu} (h:properT n l=true):∀ c∈l,Sb c.1 (fullN n)∧Sb c.2 (fullN n):=fun c hc=>by
 unfold properT at h;rw [Y0k,Y0n] at h;obtain⟨h1,h2⟩:=Zc0 hc;exact⟨fun i hi=>Z9j.1 h.2 i (Z9j.1 h1 i hi),fun i hi=>Z9j.1 h.2 i (Z9j.1 h2 i hi)⟩
theorem Z2l {F:Nat}:∀ c∈([]:List Cu),Sb c.1 F∧Sb c.2 F:=fun c hc=>by cases hc
theorem Zfh (s:Nat):hoC (0,0) s=true:=(Z7o _ _).2 ⟨fun i hi=>by simp at hi,fun i hi=>by simp at hi⟩
theorem ZgM {t:PB} {l:List Cu} {fl:Bool} {s:Nat} (hg:goodB t s=true) (hr:reachB t s=true) (hl:soC l s=false):∀ d∈outN t l fl,Hold (clo t.l) d s:=fun d hd=>by
 simp only [outN,List.mem_cons,List.not_mem_nil,or_false] at hd;unfold goodB at hg;rw [Bool.not_eq_true'] at hg;rcases hd with rfl|rfl|rfl
 · exact⟨hg,fun h=>by cases h⟩
 · exact⟨rfl,fun _=>hr⟩
 · exact⟨hl,fun h=>by cases h⟩
theorem ZgN {t:PB} (h:PbOk t) {l:List Cu} {fl:Bool} {s:Nat} (hs:s<18446744073709551616) (hg:goodB t s=true) (hl:soC l s=false) {r:RU} (hr:r∈t.rs) (hst:stepR t r s=true) {c:Cu} (hc:hoC c (nextR r s)=true):∀ d∈escN t l fl c r,Hold (clo t.l) d s:=fun d hd=>by
 have hro:=h.rs r hr;have htg:=hro.tg;simp only [escN,List.mem_cons,List.not_mem_nil,or_false] at hd;unfold goodB at hg;rw [Bool.not_eq_true'] at hg;unfold stepR at hst;rw [Y0k,Y0k,Y0n] at hst;obtain⟨h1,h2,h3⟩:=hst;have hbit:=(Zgg (r:=r) (show r.tg<64 by omega) hs).1 h1;unfold goodB at h2;rw [Bool.not_eq_true'] at h2;have haft:∀ (a b c d':Bool) (so no:List Cu) (f1 f2:Bool),aftN ⟨a,r.rev,c,r.tg,so,no,f1,f2⟩ s=nextR r s:=fun a b c d' so no f1 f2=>by
  unfold aftN nextR;rw [if_pos (show 0<r.tg by omega)]
 rcases hd with rfl|rfl|rfl|rfl|rfl|rfl
 · exact⟨hg,fun h=>by cases h⟩
 · exact⟨hl,fun h=>by cases h⟩
 · refine ⟨rfl, fun _ => ?_⟩;show soC [if r.rev then (2 ^ r.tg,0) else (0,2 ^ r.tg)] s=true;rw [Zaw,Z7o];cases hv:r.rev
   · rw [hv] at hbit
     exact⟨fun i hi=>by simp at hi,fun i hi=>by
      have hi:(2 ^ r.tg).testBit i=true:=hi;rw [Nat.testBit_two_pow,Y0n] at hi
      rw [← hi]; exact hbit⟩
   · rw [hv] at hbit
     exact⟨fun i hi=>by
      have hi:(2 ^ r.tg).testBit i=true:=hi;rw [Nat.testBit_two_pow,Y0n] at hi
      rw [← hi]; exact hbit,fun i hi=>by simp at hi⟩
 · refine ⟨rfl, fun _ => ?_⟩;show soC [r.cu] (clo t.l s)=true;rw [Zaw];cases hv:r.rev
   · rw [hv] at h3; exact h3
   · rw [hro.rv hv]; exact Zfh _
 · refine ⟨?_, fun h => by cases h⟩;show soC t.nv (clo t.l (aftN ⟨true,r.rev,false,r.tg,[],t.nv,true,false⟩ s))=false;rw [haft true true false true [] t.nv true false];exact h2
 · refine ⟨rfl, fun _ => ?_⟩;show soC [c] (aftN ⟨false,r.rev,true,r.tg,[c],[],false,true⟩ s)=true;rw [haft false true true true [c] [] false true,Zaw];exact hc
theorem Z9u {t:PB} (h:PbOk t) {l:List Cu} {fl:Bool} (hl:CuZ l) (hll:l.length<900000) (hpr:properT t.n l=true) (hc:closedT t l fl=(1,0,0)):¬ Able t t.st:=by
 have hlf:=ZaZ hpr;have hnf:∀ c∈t.nv,Sb c.1 (fullN t.n)∧Sb c.2 (fullN t.n):=fun c hc=>(h.nv c hc).1.full;have hgf:∀ c∈t.gl,Sb c.1 (fullN t.n)∧Sb c.2 (fullN t.n):=fun c hc=>(h.gl c hc).1.full;unfold closedT at hc;cases hk:kFind (fun i=>hoC (cu0 l i) t.st) l.length 0 with
 | some i=>rw [hk] at hc; cases hc
 | none =>
 rw [hk] at hc;cases ho:outT t l fl with
 | some o=>rw [ho] at hc; cases hc
 | none =>
 rw [ho] at hc;change leakF (iFind (escE t l fl) t.rs.length l.length 0)=(1,0,0) at hc;cases hi:iFind (escE t l fl) t.rs.length l.length 0 with
 | some q=>rw [hi] at hc; cases hc
 | none =>
 have hA:soC l t.st=false:=by
  unfold soC;rw [List.any_eq_false];intro c hcl;obtain⟨j,hj,rfl⟩:=List.getElem_of_mem hcl;have:=Z5k _ _ hk j (Y0l _) (by omega);rw [Z8r hj] at this;rw [this]; decide
 have hB:∀ s,InS t s→goodB t s=true→reachB t s=true→soC l s=true:=fun s hs hg hr=>by
  apply Bool.eq_false_imp_eq_true.1;intro hn;refine absurd (ZgM (fl:=fl) hg hr hn) (Z6C h (Zh0 h fl hl hll) (fun d hd=>?_) ho (hs.lt h.n.2));simp only [outN,List.mem_cons,List.not_mem_nil,or_false] at hd;rcases hd with rfl|rfl|rfl
  · exact Z2k Z2l hnf
  · exact Z2k hgf Z2l
  · exact Z2k Z2l hlf
 have hC:∀ s r,InS t s→goodB t s=true→soC l s=false→r∈t.rs→stepR t r s=true→soC l (nextR r s)=false:=fun s r hs hg hn hr hst=>by
  apply Bool.eq_false_iff.2;intro hy;unfold soC at hy;obtain⟨c,hcl,hy⟩:=Y01.1 hy;obtain⟨i,hil,rfl⟩:=List.getElem_of_mem hcl;obtain⟨k,hkl,rfl⟩:=List.getElem_of_mem hr;have he:=Z7B _ _ hi i (Y0l _) (by omega) k hkl;unfold escE at he;rw [Z8r hil,ZeT hkl] at he;have he':escT t l fl l[i] t.rs[k]=none:=by
   cases hh:escT t l fl l[i] t.rs[k] with
   | none=>rfl
   | some o=>rw [hh] at he; cases he
  have htg:=(h.rs _ (Y0j hkl)).tg;refine absurd (ZgN h (fl:=fl) (hs.lt h.n.2) hg hn (Y0j hkl) hst hy) (Z6C h (Zh1 h fl hl hll (Y0j hil) (Y0j hkl)) (fun d hd=>?_) he' (hs.lt h.n.2));have h2f:Sb (2 ^ (t.rs[k]).tg) (fullN t.n):=fun j hj=>by
   rw [Nat.testBit_two_pow,Y0n] at hj;rw [Z4U,Y0n];omega
  have h0f:Sb 0 (fullN t.n):=fun j hj=>by simp at hj
  simp only [escN,List.mem_cons,List.not_mem_nil,or_false] at hd;rcases hd with rfl|rfl|rfl|rfl|rfl|rfl
  · exact Z2k Z2l hnf
  · exact Z2k Z2l hlf
  · refine Z2k (fun q hq => ?_) Z2l;rw [Y0g] at hq;subst hq
    split
    · exact⟨h2f,h0f⟩
    · exact⟨h0f,h2f⟩
  · refine Z2k (fun q hq => ?_) Z2l;rw [Y0g] at hq;subst hq;exact (h.rs _ (Y0j hkl)).cu.full
  · exact Z2k Z2l hnf
  · refine Z2k (fun q hq => ?_) Z2l;rw [Y0g] at hq;subst hq;exact hlf _ (Y0j hil)
 have hinv:∀ S,Rch t S→goodB t S=true∧soC l S=false:=fun S hS=>by
  induction hS with
  | base=>exact⟨by unfold goodB; rw [h.sg]; rfl,hA⟩
  | step hr hx hs ih =>
    refine⟨?_,hC _ _ (hr.inS h) ih.1 ih.2 hx hs⟩;unfold stepR at hs;rw [Y0k,Y0k] at hs;exact hs.2.1
 intro ha;obtain⟨E,hE,hr⟩:=(able_iff h).1 ha;obtain⟨h1,h2⟩:=hinv E hE;rw [hB E (hE.inS h) h1 hr] at h2;cases h2
theorem Z6I {t:PB} (h:PbOk t):∀ (p:List Nat) (s i:Nat),Rch t s→(followT t s p i).1=1→Able t t.st
 | [], s, i, hs, hf => by
   change (if reachB t s then ((1,0,0):Fd) else (5,0,0)).1=1 at hf;cases hr:reachB t s
   · rw [hr] at hf; cases hf
   · exact (able_iff h).2 ⟨s,hs,hr⟩
 | k :: p, s, i, hs, hf => by
   change (match jstep t s (k:Int) with|some o=>followT t o p (i+1)|none=>((4,i,k):Fd)).1=1 at hf;cases hj:jstep t s (k:Int) with
   | none=>rw [hj] at hf; cases hf
   | some o =>
     rw [hj] at hf;refine Z6I h p o (i+1) ?_ hf;unfold jstep at hj;rw [if_pos (by omega),Int.toNat_natCast] at hj;cases hr:t.rs[k]? with
     | none=>rw [hr] at hj; cases hj
     | some r =>
       rw [hr] at hj;dsimp only at hj
       split at hj
       · rename_i hst;cases hj;exact .step hs (List.mem_of_getElem? hr) hst
       · cases hj
theorem Zdi {t:PB} {l:List Cu} {fl:Bool} (h:(closedT t l fl).1=1):closedT t l fl=(1,0,0):=by
 unfold closedT at h ⊢;cases hk:kFind (fun i=>hoC (cu0 l i) t.st) l.length 0 with
 | some i=>rw [hk] at h; cases h
 | none =>
   rw [hk] at h;cases ho:outT t l fl with
   | some o=>rw [ho] at h; cases h
   | none =>
     rw [ho] at h;cases hi:iFind (escE t l fl) t.rs.length l.length 0 with
     | some q =>
       change (leakF (iFind (escE t l fl) t.rs.length l.length 0)).1=1 at h;rw [hi] at h; cases h
     | none=>rfl
theorem Zdj {t:PB} (h:PbOk t) {b:Bool} {p:List Nat} {l:List Cu} {fl:Bool} (hl:∀ c∈l,Ok64 c) (hll:l.length<900000) (hc:(chkJ t b p l fl).1=1):b=true↔Able t t.st:=by
 unfold chkJ at hc
 split at hc
 · cases hc
 split at hc
 · cases hc
 split at hc
 · rename_i hpr
   split at hc
   · cases hc
   split at hc
   · rename_i hb;exact⟨fun _=>Z6I h p t.st 0 .base hc,fun _=>hb⟩
   · rename_i hb
     have hz:CuZ l:=Zh5 hl (by
      unfold properT at hpr;simp only [Y0k,Bool.not_eq_true'] at hpr
      exact hpr.1)
     exact⟨fun hb'=>absurd hb' hb,fun ha=>absurd ha (Z9u h hz hll hpr (Zdi hc))⟩
 · cases hc
end
section
open Go.RowKit
attribute [local irreducible] aw opsK dK
def evS (i:Nat):List Nat:=(List.range i).map (2*·)
theorem Zfi (i:Nat):stL i=nsL (evS i):=by unfold stL nsL evS; rw [List.map_map]; rfl
theorem Z5l (i:Nat):(evS i).length=i:=by simp [evS]
theorem Zb0 {n j:Nat} (h:j<(evS n).length):(evS n)[j]=2*j:=by simp [evS]
theorem ZgO (j:Nat):evS (j+1)=evS j ++ [2*j]:=by unfold evS; rw [List.range_succ,Y0r]; rfl
theorem ZhY {n s:Nat}:s∈evS n↔s % 2=0∧s / 2<n:=by
 unfold evS;rw [Y0i];constructor
 · rintro ⟨i, hi, rfl⟩;rw [List.mem_range] at hi;omega
 · intro h;exact⟨s / 2,List.mem_range.2 h.2,by omega⟩
theorem ZiD {t:PB} {s:Nat}:s∈evS (2 ^ t.n)↔InS t s:=by
 rw [ZhY];constructor
 · intro h;have:s=2*(s / 2):=by omega
   rw [this]; exact Z8j h.2
 · exact Z5O
noncomputable def tgN (t:PB) (i:Nat):List Nat:=(evS i).filter fun s=>goodB t s&&reachB t s
theorem ZgP (t:PB) (j:Nat):tgN t (j+1)=tgN t j++if goodB t (2*j)&&reachB t (2*j) then [2*j] else []:=by
 unfold tgN;rw [ZgO,List.filter_append];cases h:goodB t (2*j)&&reachB t (2*j)<;>simp [h]
theorem Zfj (t:PB) (i:Nat):(tgN t i).length≤i:=by
 have:=List.length_filter_le (fun s=>goodB t s&&reachB t s) (evS i);rw [Z5l] at this;exact this
theorem Z6S {t:PB} (h:PbOk t) (hn:t.n≤5):NSpec Tryz.prog 152 [.agg (pbR t)] .own ⟨1,nsL (tgN t (2 ^ t.n))⟩:=by
 have hpp:=Z11 t;have h32:2 ^ t.n≤32:=Nat.pow_le_pow_right (n:=2) (by decide) hn;have hs31:=h.n.2;refine Z1B ok152 (Nat.le_of_ble_eq_true rfl) fun C hC=>?_;refine Zs ?_;refine Zc ?_;refine Z4 rfl rfl rfl ?_;(repeat'(first|refine Zj 7 ?_|refine Zb 7 ?_|refine st ?_|(apply B<;>intro hb<;>try cases hb)))<;>try refine At.mk ?_
 refine Z6 (Z6r hn) rfl rfl rfl ⟨hpp,Yt⟩ rfl ?_;rw [Zfi]
 repeat' (first|refine Zi (Zv (k:=3) rfl 1 (by decide)) ?_|(first|refine st ?_|(apply B<;>intro hb<;>try cases hb)))
 refine ZJ hC (fun i=>i≤2 ^ t.n) (fun i=>2 ^ t.n-i) 1 (fun i => [(1,.cp (pbR t)),(3,.own 0),(7,.vec (nsL (evS (2 ^ t.n))) false),(8,.val (.int .i64 ((2 ^ t.n:Nat):Int))),(9,Yv i)]) (fun i => [(0,⟨1,nsL (tgN t i)⟩)]) (Y0l _) 0 (Y0l _) (fun i=>i) (fun _ _=>rfl) Zu
  ⟨⟨_,rfl,.pure _ hpp⟩,⟨_,rfl,.own (ρ:=fun i=>i) 0 (by decide)⟩,⟨_,rfl,.pure _ (Zr _)⟩,⟨_,by show some _=some _; rw [Z1C,Z5l],.pure _ Yt⟩,⟨_,rfl,.pure _ Yt⟩,Yt⟩ ⟨⟨by decide,_,rfl,.same _ Yt⟩,Yt⟩ ?_
 intro i hi;have hinc:IntKind.i64.wrap ((i:Int)+1)=((i+1:Nat):Int):=Y0v _ ⟨by omega,by omega⟩;(repeat'(first|refine Zj 10 ?_|refine Zb 10 ?_|refine st ?_|(apply B<;>intro hb<;>try cases hb)))<;>try refine At.mk ?_
 by_cases hil:i<2 ^ t.n
 · refine Z0 (Z1 (v := true) rfl (decide_eq_true (Int.ofNat_lt.2 hil))) rfl rfl ?_;have hsn:=ZgP t i;have hs:=(Z8j hil).lt h.n.2;have htl:=Zfj t i;(repeat'(first|refine Zj 11 ?_|refine Zb 11 ?_|refine st ?_|(apply B<;>intro hb<;>try cases hb)))<;>try refine At.mk ?_
   refine Z0 (Zo (xs:=evS (2 ^ t.n)) (g:=u64C) rfl rfl i rfl (by rw [Z5l]; exact hil) rfl) rfl rfl ?_;rw [Zb0];generalize tgN t i=acc at hsn htl ⊢;(repeat'(first|refine Zj 15 ?_|refine Zb 15 ?_|refine st ?_|(apply B<;>intro hb<;>try cases hb)))<;>try refine At.mk ?_
   refine Z6 (Z3a h (2*i) hs) rfl rfl rfl ⟨hpp,Yt,Yt⟩ rfl ?_;cases hg:goodB t (2*i)
   case false =>
    rw [hg,Bool.false_and,if_neg (by decide),Y0p] at hsn;(refine go ?_;repeat' (apply B<;>intro hb<;>try cases hb))
    exact⟨i+1,fun i=>i,hil,by omega,fun _ _=>rfl,Zu,
     ⟨⟨_,rfl,.pure _ hpp⟩,⟨_,rfl,.own (ρ:=fun i=>i) 0 (by decide)⟩,⟨_,rfl,.pure _ (Zr _)⟩,⟨_,rfl,.pure _ Yt⟩,⟨_,by show some _=some _; rw [hinc],.pure _ Yt⟩,Yt⟩,⟨⟨by decide,_,rfl,by rw [hsn]; exact .same _ (Zr _)⟩,Yt⟩⟩
   (repeat'(first|refine Zj 19 ?_|refine Zb 19 ?_|refine st ?_|(apply B<;>intro hb<;>try cases hb)))<;>try refine At.mk ?_
   refine Zl rfl ?_;refine Z6 (Z3x h (2*i) hs) rfl rfl rfl ⟨hpp,Yt,Yt⟩ rfl ?_;rw [hg,Bool.true_and] at hsn;cases hr:reachB t (2*i)
   case false =>
    rw [hr,if_neg (by decide),Y0p] at hsn;(refine go ?_;repeat' (apply B<;>intro hb<;>try cases hb))
    exact⟨i+1,fun i=>i,hil,by omega,fun _ _=>rfl,Zu,
     ⟨⟨_,rfl,.pure _ hpp⟩,⟨_,rfl,.own (ρ:=fun i=>i) 0 (by decide)⟩,⟨_,rfl,.pure _ (Zr _)⟩,⟨_,rfl,.pure _ Yt⟩,⟨_,by show some _=some _; rw [hinc],.pure _ Yt⟩,Yt⟩,⟨⟨by decide,_,rfl,by rw [hsn]; exact .same _ (Zr _)⟩,Yt⟩⟩
   rw [hr,if_pos rfl] at hsn;(repeat'(first|refine Zj 24 ?_|refine Zb 24 ?_|refine st ?_|(apply B<;>intro hb<;>try cases hb)))<;>try refine At.mk ?_
   refine ZD (ZB (k:=0) (m := [u64C (2*i)]) (fl:=true) rfl rfl rfl (fun q hq=>by rw [Y0g] at hq; subst hq; rfl) rfl (by
    show ((nsL acc).length+1)*8≤_
    rw [Z1C];omega)) rfl rfl ?_
   simp only;rw [Z5Q,← hsn];(refine go ?_;repeat' (apply B<;>intro hb<;>try cases hb))
   exact⟨i+1,mv 0 1,hil,by omega,fun i hi=>absurd hi (Nat.not_lt_zero i),Zw rfl,
    ⟨⟨_,rfl,.pure _ hpp⟩,⟨_,rfl,.own (ρ:=mv 0 1) 0 (by decide)⟩,⟨_,rfl,.pure _ (Zr _)⟩,⟨_,rfl,.pure _ Yt⟩,⟨_,by show some _=some _; rw [hinc],.pure _ Yt⟩,Yt⟩,⟨⟨by decide,_,rfl,.same _ (Zr _)⟩,Yt⟩⟩
 · refine Z0 (Z1 (v := false) rfl (Y0w (by omega))) rfl rfl ?_;have hie:i=2 ^ t.n:=by omega
   subst hie;(refine go ?_;repeat' (apply B<;>intro hb<;>try cases hb));exact⟨_,_,rfl,.inl rfl,0,rfl,rfl⟩
end
end Go.Proofs.YtmnbbggaoembeaaGreatDoor
