/-
  Merged from the texts that this claim's theorem needs, part 6 of 8. No statement of the seat is proved here.
-/
import Derived.Test.YtoolafpiaobphaaGreatDoorMq4
set_option linter.unusedSimpArgs false
set_option linter.unusedVariables false
set_option linter.unusedSectionVars false
set_option linter.defProp false
set_option maxRecDepth 100000
set_option maxHeartbeats 16000000
namespace Go.Proofs.YtoolafpiaobphaaGreatDoor
section
open Go.RowKit
attribute [local irreducible] aw Xr dK
theorem ZmA {l:List Pr} {m:Nat} (hl:∀ p∈l,p.1<=m/\p.2<=m) {a b:Nat} (h:Up l a b):a<=m/\b<=m:=by
 induction h with
 | one h=>exact hl _ h
 | more _ k ih=>exact⟨ih.1,(hl _ k).2⟩
theorem X6w {i:Nat} (h1:1<=i) (h2:i<=5):(62:Nat).testBit i=true:=by
 have:i=1 \/ i=2 \/ i=3 \/ i=4 \/ i=5:=by omega
 rcases this with rfl|rfl|rfl|rfl|rfl<;>rfl
theorem ZdS {i:Nat} (h:(62:Nat).testBit i=true):1<=i/\i<=5:=by
 have:=Z6p (N:=62) (by decide) h;have hi:i<6:=Nat.lt_of_not_le fun h6=>by
  rw [Y1R (show 62<2 ^ i from YY (by decide) (YJ (by decide) h6))] at h; cases h
 refine⟨Nat.one_le_iff_ne_zero.2 fun h0=>?_,by omega⟩;subst h0; cases h
theorem Zk4 {t:PB} (h:Xo t) {r:Nat} (hr:r<=5):(sen t.l r &&& mkN t.n) ||| 62=62:=Xc.2 fun i hi=>by
 rw [Y0z,Y0k,Z21,Y0k,Y0n,Y0n] at hi;refine X6w hi.2.1 ?_;rcases (Z4e h.good.small r i).1 hi.1 with h1|h1
 . exact (ZmA (m:=5) (fun p hp=>(h.lk p hp).2.2) h1).1
 . omega
def X2Y (N:Nat) (l:List Cu):Prop:=∀ c∈l,c.1 ||| 62=62/\c.2=N
theorem Zcr {N:Nat} {l:List Cu} (h:X2Y N l) (hn:l.Nodup):l.length<=64:=by
 have hnd:(l.map (·.1)).Nodup:=by
  rw [Y16,Y1w];refine Y1C (fun {a b} ha hb hab e=>hab ?_) (Y16.1 hn);exact Y4a e ((h a ha).2.trans (h b hb).2.symm)
 have:=Z2y 64 _ hnd fun x hx=>by
  obtain⟨c,hc,rfl⟩:=Y0i.1 hx;have:c.1<=62:=by have:=(h c hc).1; rw [<- this]; exact YN
  omega
 rwa [Y0f] at this
theorem Zcs {t:PB} (h:Xo t) {r:Nat} (hr:r<=5) {N:Nat} {x:List Cu} (hx:X2Y N x):X2Y N (exX t.l t.n r x):=fun c hc=>by
 obtain⟨y,hy,hc⟩:=Y1h.1 hc;obtain⟨a,ha,rfl⟩:=Y0i.1 hc;refine⟨Xc.2 fun i hi=>?_,(hx y hy).2⟩;rw [Y00,YR,YI,Y0n] at hi;rcases hi with hi|rfl
 . exact Xc.1 (hx y hy).1 i hi
 . exact Xc.1 (Zk4 h hr) _ ((ZY (Z4f h.n.2)).1 ha)
theorem ZdT {N:Nat} {l:List Cu} (h:X2Y N l):X2Y N (X3q l):=fun c hc=>h c (Z35 hc).1
theorem ZdU {N:Nat} (hN:N<18446744073709551616) {l:List Cu} (h:X2Y N l):∀ c∈l,Xy c:=fun c hc=>by
 have:c.1<=62:=by have:=(h c hc).1; rw [<- this]; exact YN
 exact⟨by omega,by rw [(h c hc).2]; exact hN⟩
theorem Zh7 (l:List Pr) {n:Nat} (hn:n<=63) (rs:List Nat):exN l n rs<18446744073709551616:=by
 have:∀ (rs:List Nat) (o:Nat),o<18446744073709551616->rs.foldl (fun o r=>o ||| (sen l r &&& mkN n)) o<18446744073709551616:=by
  intro rs
  induction rs with
  | nil=>exact fun o h=>h
  | cons r rs ih=>exact fun o h=>ih _ (Z1S h (Z4f hn))
 exact this _ 0 (by decide)
theorem ZlV {t:PB} (h:Xo t) {rs:List Nat} (hr:∀ r∈rs,r<=5):exN t.l t.n rs ||| 62=62:=Xc.2 fun i hi=>by
 rcases (Z7B t.l t.n i rs 0).1 hi with h1|⟨r,hr',h1,h2⟩
 . simp at h1
 . exact Xc.1 (Zk4 h (hr r hr')) i (by rw [Y0z,h1,h2]; rfl)
theorem Zct {t:PB} (h:Xo t) {N:Nat} (hN:N<18446744073709551616):∀ (rs:List Nat),(∀ r∈rs,r<=5)->∀ x,X2Y N x->x.Nodup->X2Y N (exF t.l t.n rs x)/\(exF t.l t.n rs x).Nodup
 | [],_,x,h1,h2=>⟨h1,h2⟩
 | r :: rs,hr,x,h1,h2=>Zct h hN rs (fun a ha=>hr a (YB _ ha)) _ (ZdT (Zcs h (hr r (Y0t ..)) h1)) (Z69 (ZdU hN (Zcs h (hr r (Y0t ..)) h1)))
theorem InM.le5 {c:Cu} (h:InM 62 c):(∀ r∈mem c.1,1<=r/\r<=5)/\∀ r∈mem c.2,1<=r/\r<=5:=by
 have h64:=h.lt (by decide);exact⟨fun r hr=>ZdS (Xc.1 h.1 r ((ZY h64.1).1 hr)),fun r hr=>ZdS (Xc.1 h.2 r ((ZY h64.2).1 hr))⟩
theorem Z8L {t:PB} (h:Xo t) {c:Cu} (hm:InM 62 c):X2Y (exN t.l t.n (mem c.2)) (exL t.l t.n c)/\(exL t.l t.n c).Nodup/\(exL t.l t.n c).length<=64/\∀ c'∈exL t.l t.n c,InM 62 c':=by
 have h1:=Zct h (Zh7 t.l h.n.2 (mem c.2)) (mem c.1) (fun r hr=>(hm.le5.1 r hr).2) [(0,exN t.l t.n (mem c.2))] (fun c hc=>by rw [Y0g] at hc; subst hc; exact⟨(by decide:(0:Nat) ||| 62=62),rfl⟩) (by simp);refine⟨h1.1,h1.2,Zcr h1.1 h1.2,fun c' hc'=>⟨(h1.1 c' hc').1,?_⟩⟩;rw [(h1.1 c' hc').2];exact ZlV h fun r hr=>(hm.le5.2 r hr).2
theorem Zcu (l:List Pr) (n r:Nat):∀ x:List Cu,(exX l n r x).length<=64*x.length
 | []=>by simp [exX]
 | y :: x => by
   have ih:=Zcu l n r x;have:exX l n r (y :: x)=(mem (sen l r &&& mkN n)).map (fun a=>(y.1 ||| 2 ^ a,y.2))++exX l n r x:=by simp [exX]
   rw [this,Y0e,Y0f,Y04];have:=Z2H (sen l r &&& mkN n);omega
theorem Z5F (n:Nat) (hn:n<=63):X10 (2 ^ (n+1)-1) 0=mkN n:=by
 refine YE fun i=>?_;have hp:2 ^ (n+1)<=2 ^ 64:=YJ (by decide) (by omega);have:=Z3S (N:=2 ^ (n+1)-1) (by have:=Y2X (n+1);omega) 0 i;rw [show ((0:Nat):Int)=0 from rfl] at this;rw [this,Y3l,Z21,YQ];simp;omega
theorem Z5G {t:PB} (h:Xo t) (S:List Nat) (c:Cu) (hc:InC t.n c) (hm:InM 62 c):X7 Tryz.prog 155 [.agg (pbP t S),cuP c] (· = .tup [.vec ((exL t.l t.n c).map cuC) false,.val (.int .i64 0)]):=by
 have hc64:=hm.lt (by decide);have hn:=h.n;have hp1:2 ^ (t.n+1)<=2 ^ 64:=YJ (by decide) (by omega);have hp0:=Y2X (t.n+1);have hmk:=Z5E hn.2;have hinc0:IntKind.i64.wrap ((t.n:Int)+1)=((t.n+1:Nat):Int):=Y0v _ ⟨by omega,by omega⟩;have hbw:=Z1E (2 ^ (t.n+1)-1) (by omega) 0;rw [Z5F t.n hn.2] at hbw;have hwi:=Z1z (c.1 ||| c.2) (mkN t.n) (Z1S hc64.1 hc64.2) hmk;rw [Yw (show c.1 ||| c.2 ||| mkN t.n=mkN t.n by rw [Y3t,hc.n,hc.y])] at hwi;refine Yp ok155 fun C hC=>?_;refine Zm ?_;refine Z9 ?_;refine Z5 rfl rfl rfl ?_;refine Z5 rfl rfl rfl ?_;refine gd 20 ⟨?_⟩;refine Ze rfl rfl rfl hinc0 ?_;refine Qe (Z6b (t.n+1) (by omega) (by omega)) ⟨Yt,Yt⟩ ?_;refine Qe hbw ⟨Z2 _,Yt,Yt⟩ ?_;refine gd 27 ⟨?_⟩;refine Qd (Z1w c.1 c.2 hc64.1 hc64.2) ⟨Z2 _,Z2 _,Yt⟩ ?_;refine gd 29 ⟨?_⟩;refine Qd hwi ⟨Z2 _,Z2 _,Yt⟩ ?_;refine gd 33 ⟨?_⟩;refine Qe (Z1F c.2) ⟨Z2 _,Yt⟩ ?_;refine go ?_;have hpp:=ZC t S;have hI0:=hm.le5;refine Z2v (X:=List Nat) hC (caps := [.cp [.vec (X4 (Xb c.2)) false]]) [(2,.cp (pbP t S)),(3,.cp (cuC c)),(4,.ptr 0 0 0),(5,.ptr 1 0 0),(6,.ptr 2 0 0),(7,.ptr 11 0 0),(33,.fn 121 [.cp [.vec (X4 (Xb c.2)) false]])]
  (fun z => [(0,⟨1,[[.vec [] true]]⟩),(1,⟨1,[[.val (.int .i64 0)]]⟩),(2,⟨1,[[.vec (X4 (Xb (mkN t.n))) false]]⟩),(11,⟨1,[[.vec (X4 (Xb (exN t.l t.n z))) false]]⟩)]) rfl ⟨⟨Z7 _,Yt⟩,Yt⟩ (Z2x c.2 hc64.2) (fun _=>rfl)
  (fun ex pre z=>ex=.normal/\z=pre.map (·.val)) 12 (by decide) [] ⟨rfl,rfl⟩
  (Z30 (X3r.mem (ρ := fun i => i) (m := 12) (L := [(2, .cp (pbP t S)), (3, .cp (cuC c)), (4, .ptr 0 0 0), (5, .ptr 1 0 0), (6, .ptr 2 0 0), (7, .ptr 11 0 0), (33, .fn 121 [.cp [.vec (X4 (Xb c.2)) false]])]) ⟨Qp hpp, Qp (Zh c), Qt 0 0 0, Qt 1 0 0, Qt 2 0 0, Qt 11 0 0, Qp ⟨⟨Z7 _, Yt⟩, Yt⟩, Yt⟩)
    (X1o.mem (ρ:=fun i=>i) (m:=12) (L := [(0,⟨1,[[.vec [] true]]⟩),(1,⟨1,[[.val (.int .i64 0)]]⟩),(2,⟨1,[[.vec (X4 (Xb (mkN t.n))) false]]⟩),(11,⟨1,[[.vec (X4 (Xb (exN t.l t.n []))) false]]⟩)]) ⟨Qs ⟨⟨Yt,Yt⟩,Yt⟩,Qs ⟨⟨Yt,Yt⟩,Yt⟩,Qs ⟨⟨Z7 _,Yt⟩,Yt⟩,⟨by decide,⟨1,[[.vec [] true]]⟩,rfl,by rw [show exN t.l t.n []=0 from rfl,ZL]; exact Xw.single (ρ:=fun i=>i) (l0 := [.vec [] true]) (l := [.vec [] false]) (show X2v _ _ [_] [_] from ⟨.low (.vec [] true) Yt,Yt⟩) rfl⟩,Yt⟩) hC (by decide))
  (fun z q hq=>by simp at hq; rcases hq with rfl|rfl|rfl|rfl<;>exact Y1u _) _ (fun x=>rfl) ?_ ?_ ?_
 . rintro C2 hC2 pre x z ⟨-, rfl⟩ hlen;have hx:=hI0.2 x.val x.2;have hst:exN t.l t.n (pre.map (·.val) ++ [x.val])=exN t.l t.n (pre.map (·.val)) ||| (sen t.l x.val &&& mkN t.n):=by unfold exN; rw [Y1y]; rfl
   have hz:=Zh7 t.l hn.2 (pre.map (·.val));have hsl:=ZdN t.l h.good.small (show x.val<64 by omega);refine gd 39 ⟨?_⟩;refine Qd (Z4i t.l S x.val hx.1 (by omega)) ⟨Zo _ _,Yt,Yt⟩ ?_;refine gd 41 ⟨?_⟩;refine Qd (Z4j (sen t.l x.val) (mkN t.n) hsl hmk) ⟨Z2 _,Z2 _,Yt⟩ ?_;refine Qd (Z1w _ _ hz (Z9H hsl)) ⟨Z2 _,Z2 _,Yt⟩ ?_;rw [<- hst];refine go ?_
   exact⟨.inl rfl,pre.map (·.val) ++ [x.val],fun i=>i,⟨rfl,by rw [Y0r]; rfl⟩,fun i hi=>rfl,Zf,
    ⟨Qp hpp,Qp (Zh c),Qt 0 0 0,Qt 1 0 0,Qt 2 0 0,Qt 11 0 0,Qp ⟨⟨Z7 _,Yt⟩,Yt⟩,Yt⟩,
    ⟨Qs ⟨⟨Yt,Yt⟩,Yt⟩,Qs ⟨⟨Yt,Yt⟩,Yt⟩,Qs ⟨⟨Z7 _,Yt⟩,Yt⟩,Qs ⟨⟨Z7 _,Yt⟩,Yt⟩,Yt⟩⟩
 . rintro xs z hxs ⟨-, rfl⟩;rw [hxs];have hN0:=Zh7 t.l hn.2 (mem c.2);generalize hN0e:exN t.l t.n (mem c.2)=N0 at hN0;refine gd 48 ⟨?_⟩;refine Qe (Z1F c.1) ⟨Z2 _,Yt⟩ ?_;refine go ?_;have hlow:([(0,N0)]:List Cu).map cuC=XE [[.vec [] true,.vec (X4 (Xb N0)) false]]:=by
    show [[PV.vec (X4 (Xb 0)) false,.vec (X4 (Xb N0)) false]] = [[PV.vec [] false,.vec (XE (X4 (Xb N0))) false]];rw [ZL,Z1B]; rfl
   have hone:∀ rs:List Nat,(∀ r∈rs,r<=5)->X2Y N0 (exF t.l t.n rs [(0,N0)])/\(exF t.l t.n rs [(0,N0)]).Nodup:=fun rs hr=>Zct h hN0 rs hr _ (fun c hc=>by rw [Y0g] at hc; subst hc; exact⟨(by decide:(0:Nat) ||| 62=62),rfl⟩) (by simp);refine Z2v (X:=List Nat) hC (caps := [.cp [.vec (X4 (Xb c.1)) false]]) [(2,.cp (pbP t S)),(4,.ptr 0 0 0),(5,.ptr 1 0 0),(6,.ptr 2 0 0),(9,.ptr 12 0 0),(48,.fn 121 [.cp [.vec (X4 (Xb c.1)) false]])]
    (fun z => [(0,⟨1,[[.vec [] true]]⟩),(1,⟨1,[[.val (.int .i64 0)]]⟩),(2,⟨1,[[.vec (X4 (Xb (mkN t.n))) false]]⟩),(12,⟨1,[[.vec ((exF t.l t.n z [(0,N0)]).map cuC) false]]⟩)]) rfl ⟨⟨Z7 _,Yt⟩,Yt⟩ (Z2x c.1 hc64.1) (fun _=>rfl)
    (fun ex pre z=>ex=.normal/\z=pre.map (·.val)) 13 (by decide) [] ⟨rfl,rfl⟩
    (Z30 (X3r.mem (ρ := fun i => i) (m := 13) (L := [(2, .cp (pbP t S)), (4, .ptr 0 0 0), (5, .ptr 1 0 0), (6, .ptr 2 0 0), (9, .ptr 12 0 0), (48, .fn 121 [.cp [.vec (X4 (Xb c.1)) false]])]) ⟨Qp hpp, Qt 0 0 0, Qt 1 0 0, Qt 2 0 0, Qt 12 0 0, Qp ⟨⟨Z7 _, Yt⟩, Yt⟩, Yt⟩)
      (X1o.mem (ρ:=fun i=>i) (m:=13) (L := [(0,⟨1,[[.vec [] true]]⟩),(1,⟨1,[[.val (.int .i64 0)]]⟩),(2,⟨1,[[.vec (X4 (Xb (mkN t.n))) false]]⟩),(12,⟨1,[[.vec (([(0,N0)]:List Cu).map cuC) false]]⟩)]) ⟨Qs ⟨⟨Yt,Yt⟩,Yt⟩,Qs ⟨⟨Yt,Yt⟩,Yt⟩,Qs ⟨⟨Z7 _,Yt⟩,Yt⟩,⟨by decide,_,rfl,by rw [hlow]; exact Xw.single (ρ:=fun i=>i) (l := [.vec (XE [[.vec [] true,.vec (X4 (Xb N0)) false]]) false]) (show X2v _ _ [_] [_] from ⟨.low (.vec [[.vec [] true,.vec (X4 (Xb N0)) false]] true) (by show X1 (XE _); rw [<- hlow]; exact Z1 [(0,N0)]),Yt⟩) rfl⟩,Yt⟩) hC (by decide))
    (fun z q hq=>by simp at hq; rcases hq with rfl|rfl|rfl|rfl<;>exact Y1u _) _ (fun x=>rfl) ?_ ?_ ?_
   . rintro C2 hC2 pre x z ⟨-, rfl⟩ hlen;have hx:=hI0.1 x.val x.2;obtain⟨ho1,ho2⟩:=hone (pre.map (·.val)) fun r hr=>by obtain⟨y,_,rfl⟩:=Y0i.1 hr; exact (hI0.1 _ y.2).2
     have hst:exF t.l t.n (pre.map (·.val) ++ [x.val]) [(0,N0)]=X3q (exX t.l t.n x.val (exF t.l t.n (pre.map (·.val)) [(0,N0)])):=by unfold exF; rw [Y1y]; rfl
     generalize exF t.l t.n (pre.map (·.val)) [(0,N0)]=zs at ho1 ho2 hst ⊢;have hzl:=Zcr ho1 ho2;have hz64:=ZdU hN0 ho1;have hsl:=ZdN t.l h.good.small (show x.val<64 by omega);have hM:=Z9H (M:=mkN t.n) hsl;have hxo:=Zcs h hx.2 ho1;have hxn:=Z69 (ZdU hN0 hxo);have hxl:=Zcr (ZdT hxo) hxn;have hxll:=Zcu t.l t.n x.val zs;refine gd 50 ⟨?_⟩;refine Za (ZO (id:=13) (i0:=0) (j0:=0) rfl (by decide) (by decide) rfl 2 (by decide) (by decide)) ?_;refine go ?_;have hnl:(zs.map cuC).length=zs.length:=by simp
     refine Zv hC2 (fun (j:Nat)=>j<=zs.length) (fun j=>zs.length-j) 15
      (fun j => [(2,.cp (pbP t S)),(6,.ptr 2 0 0),(9,.ptr 12 0 0),(10,.val (.int .i64 (x.val:Int))),(11,.ptr 13 0 0),(50,.vec (zs.map cuC) false),(51,.val (.int .i64 (zs.length:Int))),(52,Yv j)])
      (fun j => [(0,⟨1,[[.vec [] true]]⟩),(1,⟨1,[[.val (.int .i64 0)]]⟩),(2,⟨1,[[.vec (X4 (Xb (mkN t.n))) false]]⟩),(12,⟨1,[[.vec (zs.map cuC) false]]⟩),(13,⟨1,[[.own 14]]⟩),(14,⟨2,(exX t.l t.n x.val (zs.take j)).map cuC⟩)]) (by decide) 0 (Y0l _) (fun i=>i) (fun _ _=>rfl) Zf
      ⟨Qp hpp,Qt 2 0 0,Qt 12 0 0,Qp Yt,Qt 13 0 0,Qp (Z1 _),⟨_,by rw [<- hnl]; rfl,.pure _ Yt⟩,Qp Yt,Yt⟩
      ⟨Qs ⟨⟨Yt,Yt⟩,Yt⟩,Qs ⟨⟨Yt,Yt⟩,Yt⟩,Qs ⟨⟨Z7 _,Yt⟩,Yt⟩,Qs ⟨⟨Z1 _,Yt⟩,Yt⟩,⟨by decide,_,rfl,Xw.single ⟨.own (ρ:=fun i=>i) 14 (by decide),Yt⟩ rfl⟩,Qs Yt,Yt⟩ ?_
     intro j hj;have hinc:IntKind.i64.wrap ((j:Int)+1)=((j+1:Nat):Int):=Y0v _ ⟨by omega,by omega⟩
     iterate 2 (first|refine st ?_|(apply B<;>intro hb<;>try cases hb))
     refine Zt rfl rfl rfl (fun hb=>?_) (fun hb=>?_)
     . have hjl : j < zs.length := by have := Y0u hb; omega
       clear hb;have hy:=hz64 _ (Y0j hjl);have hsj:exX t.l t.n x.val (zs.take (j+1))=exX t.l t.n x.val (zs.take j)++(mem (sen t.l x.val &&& mkN t.n)).map fun a=>(zs[j].1 ||| 2 ^ a,zs[j].2):=by
        unfold exX;rw [YW,Y0c hjl,Y1K];simp
       have hlj:(exX t.l t.n x.val (zs.take j)).length<=4096:=by
        have:=Zcu t.l t.n x.val (zs.take j);rw [Y0o] at this;omega
       generalize hy0:zs[j]=y at hy hsj;generalize exX t.l t.n x.val (zs.take j)=acc at hsj hlj ⊢;refine go ?_;refine Qo (Zl (xs:=zs) (g:=cuC) rfl rfl j rfl hjl rfl) ?_;rw [hy0];refine gd 59 ⟨?_⟩;refine Qd (Z4i t.l S x.val hx.1 (by omega)) ⟨Zo _ _,Yt,Yt⟩ ?_;refine gd 61 ⟨?_⟩;refine Qd (Z4j (sen t.l x.val) (mkN t.n) hsl hmk) ⟨Z2 _,Z2 _,Yt⟩ ?_;generalize sen t.l x.val &&& mkN t.n=M at hM hsj ⊢;refine Qd (Z1F M) ⟨Z2 _,Yt⟩ ?_;refine go ?_;refine Z2v (X:=List Nat) hC2 (caps := [.cp [.vec (X4 (Xb M)) false]]) [(2,.cp (pbP t S)),(6,.ptr 2 0 0),(9,.ptr 12 0 0),(10,.val (.int .i64 (x.val:Int))),(11,.ptr 13 0 0),(13,.ptr 15 0 0),(50,.vec (zs.map cuC) false),(51,.val (.int .i64 (zs.length:Int))),(52,Yv j),(62,.fn 121 [.cp [.vec (X4 (Xb M)) false]])]
        (fun w => [(0,⟨1,[[.vec [] true]]⟩),(1,⟨1,[[.val (.int .i64 0)]]⟩),(2,⟨1,[[.vec (X4 (Xb (mkN t.n))) false]]⟩),(12,⟨1,[[.vec (zs.map cuC) false]]⟩),(13,⟨1,[[.own 14]]⟩),(14,⟨2,(acc++w.map fun a=>(y.1 ||| 2 ^ a,y.2)).map cuC⟩),(15,⟨2,[cuC y]⟩)]) rfl ⟨⟨Z7 _,Yt⟩,Yt⟩ (Z2x M hM) (fun _=>rfl)
        (fun ex pre z=>ex=.normal/\z=pre.map (·.val)) 23 (by decide) [] ⟨rfl,rfl⟩
        (Z30 (X3r.mem (ρ := fun i => i) (m := 23) (L := [(2, .cp (pbP t S)), (6, .ptr 2 0 0), (9, .ptr 12 0 0), (10, .val (.int .i64 (x.val : Int))), (11, .ptr 13 0 0), (13, .ptr 15 0 0), (50, .vec (zs.map cuC) false), (51, .val (.int .i64 (zs.length : Int))), (52, Yv j), (62, .fn 121 [.cp [.vec (X4 (Xb M)) false]])]) ⟨Qp hpp, Qt 2 0 0, Qt 12 0 0, Qp Yt, Qt 13 0 0, Qt 15 0 0, Qp (Z1 _), Qp Yt, Qp Yt, Qp ⟨⟨Z7 _, Yt⟩, Yt⟩, Yt⟩)
          (X1o.mem (ρ:=fun i=>i) (m:=23) (L := [(0,⟨1,[[.vec [] true]]⟩),(1,⟨1,[[.val (.int .i64 0)]]⟩),(2,⟨1,[[.vec (X4 (Xb (mkN t.n))) false]]⟩),(12,⟨1,[[.vec (zs.map cuC) false]]⟩),(13,⟨1,[[.own 14]]⟩),(14,⟨2,(acc++([]:List Nat).map fun a=>(y.1 ||| 2 ^ a,y.2)).map cuC⟩),(15,⟨2,[cuC y]⟩)]) ⟨Qs ⟨⟨Yt,Yt⟩,Yt⟩,Qs ⟨⟨Yt,Yt⟩,Yt⟩,Qs ⟨⟨Z7 _,Yt⟩,Yt⟩,Qs ⟨⟨Z1 _,Yt⟩,Yt⟩,⟨by decide,_,rfl,Xw.single ⟨.own (ρ:=fun i=>i) 14 (by decide),Yt⟩ rfl⟩,⟨by decide,_,rfl,by rw [List.map_nil,Y0p]; exact .same _ (Z1 _)⟩,Qs ⟨Zh y,Yt⟩,Yt⟩) hC2 (by decide))
        (fun z q hq=>by simp at hq; rcases hq with rfl|rfl|rfl|rfl|rfl|rfl|rfl<;>exact Y1u _) _ (fun x=>rfl) ?_ ?_ ?_
       . rintro C3 hC3 pre2 a w ⟨-, rfl⟩ hlen2;have ha:=Z3T a.2;have hml:=Z2H M;have hsn:acc++(pre2.map (·.val) ++ [a.val]).map (fun a=>(y.1 ||| 2 ^ a,y.2))=(acc++(pre2.map (·.val)).map fun a=>(y.1 ||| 2 ^ a,y.2)) ++ [(y.1 ||| 2 ^ a.val,y.2)]:=by simp
         have hal:(acc++(pre2.map (·.val)).map fun a=>(y.1 ||| 2 ^ a,y.2)).length<=5000:=by simp; omega
         generalize (acc++(pre2.map (·.val)).map fun a=>(y.1 ||| 2 ^ a,y.2))=acc2 at hsn hal ⊢;refine gd 68 ⟨?_⟩;refine Qd (Z1u y.1 hy.1 a.val ha) ⟨Z2 _,Yt,Yt⟩ ?_;refine gd 73 ⟨?_⟩
         refine Qr (Zu (k:=14) (m := [cuC (y.1 ||| 2 ^ a.val,y.2)]) (fl:=true) rfl rfl rfl (fun q hq=>by rw [Y0g] at hq; subst hq; rfl) rfl (by
          show ((acc2.map cuC).length+1)*48<=_
          rw [Y0f];omega)) ?_
         refine go ?_
         refine⟨.inl rfl,pre2.map (·.val) ++ [a.val],mv 14 32,⟨rfl,by rw [Y0r]; rfl⟩,Z3n (by decide),Zq rfl,
          ⟨Qp hpp,Qt 2 0 0,Qt 12 0 0,Qp Yt,Qt 13 0 0,Qt 15 0 0,Qp (Z1 _),Qp Yt,Qp Yt,Qp ⟨⟨Z7 _,Yt⟩,Yt⟩,Yt⟩,?_⟩
         show X1o _ _ _ [_,_,_,_,_,(14,⟨2,(acc++(pre2.map (·.val) ++ [a.val]).map fun a=>(y.1 ||| 2 ^ a,y.2)).map cuC⟩),_];rw [hsn];refine⟨Qs ⟨⟨Yt,Yt⟩,Yt⟩,Qs ⟨⟨Yt,Yt⟩,Yt⟩,Qs ⟨⟨Z7 _,Yt⟩,Yt⟩,Qs ⟨⟨Z1 _,Yt⟩,Yt⟩,⟨by decide,_,rfl,Xw.single ⟨.own (ρ:=mv 14 32) 14 (by decide),Yt⟩ rfl⟩,⟨by decide,_,rfl,?_⟩,Qs ⟨Zh y,Yt⟩,Yt⟩;show Xw _ _ ⟨2,acc2.map cuC ++ [cuC (y.1 ||| 2 ^ a.val,y.2)]⟩ ⟨2,(acc2 ++ [(y.1 ||| 2 ^ a.val,y.2)]).map cuC⟩;rw [Y0r];exact .same _ (by rw [<- Y1c,<- Y0r]; exact Z1 _)
       . rintro xs w hxs2 ⟨-, rfl⟩;rw [hxs2];refine go ?_
         refine⟨j+1,fun i=>i,hjl,by omega,fun _ _=>rfl,Zf,
          ⟨Qp hpp,Qt 2 0 0,Qt 12 0 0,Qp Yt,Qt 13 0 0,Qp (Z1 _),Qp Yt,⟨_,by show some _=some _; rw [hinc],.pure _ Yt⟩,Yt⟩,?_⟩
         show X1o _ _ _ [_,_,_,_,_,(14,⟨2,(exX t.l t.n x.val (zs.take (j+1))).map cuC⟩)];rw [hsj];exact⟨Qs ⟨⟨Yt,Yt⟩,Yt⟩,Qs ⟨⟨Yt,Yt⟩,Yt⟩,Qs ⟨⟨Z7 _,Yt⟩,Yt⟩,Qs ⟨⟨Z1 _,Yt⟩,Yt⟩,⟨by decide,_,rfl,Xw.single ⟨.own (ρ:=fun i=>i) 14 (by decide),Yt⟩ rfl⟩,Qs (Z1 _),Yt⟩
       . rintro ex pre2 w - ⟨rfl,_⟩ (h|⟨id,h⟩)<;>cases h
     . have hjl : j = zs.length := by have := YC hb; omega
       subst hjl;clear hb;rw [Y0q]
       repeat' (first|refine Za (Zj (k:=75) rfl rfl (Z1 _)) ?_|(first|refine st ?_|(apply B<;>intro hb<;>try cases hb)))
       refine Qe (Z7A _ false (ZdU hN0 hxo) (by omega)) ⟨Z1 _,Yt⟩ ?_;refine gd 79 ⟨?_⟩;refine Qo (Z4 (v:=false) rfl (by simp;omega)) ?_;refine go ?_
       refine⟨.inl rfl,pre.map (·.val) ++ [x.val],fun i=>i,⟨rfl,by rw [Y0r]; rfl⟩,fun i hi=>rfl,Zf,
        ⟨Qp hpp,Qt 0 0 0,Qt 1 0 0,Qt 2 0 0,Qt 12 0 0,Qp ⟨⟨Z7 _,Yt⟩,Yt⟩,Yt⟩,?_⟩
       show X1o _ _ _ [_,_,_,(12,⟨1,[[.vec ((exF t.l t.n (pre.map (·.val) ++ [x.val]) [(0,N0)]).map cuC) false]]⟩)];rw [hst];exact⟨Qs ⟨⟨Yt,Yt⟩,Yt⟩,Qs ⟨⟨Yt,Yt⟩,Yt⟩,Qs ⟨⟨Z7 _,Yt⟩,Yt⟩,Qs ⟨⟨Z1 _,Yt⟩,Yt⟩,Yt⟩
   . rintro xs z hxs ⟨-, rfl⟩;rw [hxs];have he:exF t.l t.n (mem c.1) [(0,N0)]=exL t.l t.n c:=by unfold exL; rw [hN0e]
     rw [he];refine go ?_;exact Z8 rfl ⟨Z1 _,Yt,Yt⟩ rfl
   . rintro ex pre z - ⟨rfl,_⟩ (h|⟨id,h⟩)<;>cases h
 . rintro ex pre z - ⟨rfl,_⟩ (h|⟨id,h⟩)<;>cases h
theorem Zk5 {e:Env} {h:X2} {n:Nat} {x y:Operand} {a b:Int} (hx:ev e x=some (.val (.int .i64 a))) (hy:ev e y=some (.val (.int .i64 b))) (hb:b≠0):X3 (.bin .rem .num x y) e h n=some (.val (.int .i64 (a.tmod b)),h):=by
 simp [X3,hx,hy,X4l,X53,hb]
theorem Z5H {α:Type} {f:α->List PV} (hf:∀ x,X2C (f x)=f x):∀ l:List α,XE (l.map f)=l.map f
 | []=>rfl
 | c :: l => by
   show X2C (f c) :: XE (l.map f)=_;rw [hf,Z5H hf l]; rfl
structure X6V (t:PB):Prop where
 ok:Xo t
 n:2<=t.n/\t.n<=5
 rs:t.rs.length<=6
 nv:t.nv.length<=3
 gl:1<=t.gl.length/\t.gl.length<=3
structure LJ (n:Nat) (l:List Pr) (k:Nat):Prop where
 asc:Xz l
 len:l.length<=k
 mem:∀ p∈l,1<=p.1/\p.1<p.2/\p.2<=n
theorem LJ.nil (n:Nat):LJ n [] 0:=⟨List.Pairwise.nil,Y0m _,fun _ h=>by cases h⟩
theorem LJ.mono {n:Nat} {l:List Pr} {k k':Nat} (h:LJ n l k) (hk:k<=k'):LJ n l k':=⟨h.asc,Y03 h.len hk,h.mem⟩
theorem LJ.step {n:Nat} {l:List Pr} {k a b:Nat} (h:LJ n l k) {l':List Pr} (hL:X2r l (a,b) l') (ha:1<=a) (hab:a<b) (hb:b<=n):LJ n l' (k+1) :=
 ⟨hL.sorted h.asc,Y03 hL.len (Nat.succ_le_succ h.len),fun p hp=>(hL.mem p hp).elim (h.mem p) fun e=>by subst e; exact⟨ha,hab,hb⟩⟩
theorem LJ.good {n:Nat} (hn:n<=5) {l:List Pr} {k:Nat} (h:LJ n l k):X4g l :=
 ⟨h.asc,fun p hp=>by have:=h.mem p hp; omega,⟨fun i=>i,fun p hp=>(h.mem p hp).2.1⟩⟩
theorem ZlW {n:Nat} (h1:2<=n) (h2:n<=5):IntKind.u8.wrap (2*2 ^ (min ((n:Nat):Int).toNat IntKind.u8.bits))=((2*2 ^ n:Nat):Int)/\IntKind.u8.wrap (((2*2 ^ n:Nat):Int)-2)=((mkN n:Nat):Int)/\mkN n<64/\mkN n ||| 62=62:=by
 have:n=2 \/ n=3 \/ n=4 \/ n=5:=by omega
 rcases this with rfl|rfl|rfl|rfl<;>decide
theorem ZkS (X:Int) (m:Nat) (hm:m<256):∃ s:Nat,s ||| m=m/\bits .and .u8 X (m:Int)=(s:Int):=by
 refine⟨(BitVec.ofInt 8 X).toNat &&& m,Zh0 _ m,?_⟩;rw [<- Zk0 _ _ (BitVec.ofInt 8 X).isLt hm];show IntKind.u8.wrap ((BitVec.ofInt 8 X &&& BitVec.ofInt 8 (m:Int)).toNat:Int)=IntKind.u8.wrap ((BitVec.ofInt 8 ((BitVec.ofInt 8 X).toNat:Int) &&& BitVec.ofInt 8 (m:Int)).toNat:Int);rw [show BitVec.ofInt 8 ((BitVec.ofInt 8 X).toNat:Int)=BitVec.ofInt 8 X by rw [Y1A,BitVec.ofNat_toNat,BitVec.setWidth_eq]]
theorem Z3I (a b:Nat):((a:Nat):Int).tmod ((b:Nat):Int)=((a % b:Nat):Int):=by rw [Y2P]
theorem InM.inC {n:Nat} {c:Cu} (h:InM (mkN n) c) (he:emC c=false):InC n c:=⟨h.1,h.2,he⟩
theorem Z4L {a b c:Nat} (h1:a ||| b=b) (h2:b ||| c=c):a ||| c=c:=Xc.2 fun i hi=>Xc.1 h2 i (Xc.1 h1 i hi)
theorem X42.mk0 {n:Nat} (hn:n<=5) {c:Cu} {rev:Bool} {tg og:Nat} (hc:InM (mkN n) c) (h62:mkN n ||| 62=62) (he:emC c=false) (ht:1<=tg/\tg<=n) (hr:rev=true->c=(0,0)):X42 n ⟨rev,c,tg,og⟩ :=
 ⟨hc.inC he,⟨Z4L hc.1 h62,Z4L hc.2 h62⟩,⟨ht.1,ht.2,by show tg<=5; omega⟩,hr⟩
theorem Zcv (p:List Nat) (fl:Bool) (hp:X4K p):X7 Tryz.prog 16 [.vec (bys p) fl] fun r=>∃ t:PB,X6V t/\r=.agg (pbR t):=by
 have hpl:∀ (l:List Pr) D,Xt D (l.map prC):=fun l D=>Zd (fun _ h=>h.elim) _ (Zk l);have hsi:∀ t D,Xt D (X54 p fl t).elems:=fun t D=>ZiY p fl t D;refine Yp ok16 fun C hC=>?_;refine gd 30 ⟨?_⟩;refine ZU (ZW p hp fl 0 (by omega)) rfl rfl rfl rfl (ZK p fl 0) Yt ?_;rintro r b' - - ⟨v1,hv1,rfl,rfl⟩;refine Ze rfl rfl rfl (Z3I v1 4) ?_;have hn4:=Y1F v1 (show 0<4 by decide);refine Ze rfl rfl rfl (show IntKind.i64.wrap (2+((v1 % 4:Nat):Int))=((2+v1 % 4:Nat):Int) from by rw [Y0v _ ⟨by omega,by omega⟩];omega) ?_;obtain⟨n,hn⟩:∃ n,2+v1 % 4=n:=⟨_,rfl⟩
 rw [hn];have hn2:2<=n/\n<=5:=by omega
 obtain⟨hm1,hm2,hm64,hm62⟩:=ZlW hn2.1 hn2.2;clear hn hn4 hv1;refine gd 36 ⟨?_⟩;refine Ze rfl rfl rfl (show IntKind.u64.wrap ((n:Nat):Int)=((n:Nat):Int) from Y0x _ ⟨by omega,by omega⟩) ?_;refine Z3w rfl rfl (by omega) hm1 rfl ?_;refine Ze rfl rfl rfl hm2 ?_;refine gd 40 ⟨?_⟩;refine ZU (ZW p hp fl 1 (by omega)) rfl rfl rfl rfl (ZK p fl 1) Yt ?_;rintro r b' - - ⟨v2,hv2,rfl,rfl⟩;refine go ?_;refine Zz hC (fun (z:Nat×Nat×List Pr×Bool)=>1<=z.1/\z.1<=n/\z.2.1<=10*z.1/\LJ n z.2.2.1 z.2.1) (fun z=>n-z.1) 3 (fun z => [(2,.ptr 0 0 0),(3,.ptr 1 0 0),(4,.ptr 2 0 0),(5,.val (.int .u8 (mkN n:Nat))),(6,.val (.int .i64 (v2:Int))),(7,.val (.int .i64 (z.2.1:Int))),(8,Yv z.1)])
  (fun z => [(0,⟨6,[zpv [.int .i64 0,.slice none 0 0,.int .u64 0,.slice none 0 0,.slice none 0 0,.slice none 0 0]]⟩),(1,X54 p fl 2),(2,⟨6,[[.val (.int .i64 (n:Int)),.vec (z.2.2.1.map prC) z.2.2.2,.val (.int .u64 0),.vec [] true,.vec [] true,.vec [] true]]⟩)]) (Y0l _) (1,0,[],true) ⟨Y0m _,by show 1<=n; omega,by show 0<=_; omega,LJ.nil n⟩
  ⟨⟨rfl,show (0:Nat)<3 by decide⟩,⟨rfl,show (1:Nat)<3 by decide⟩,⟨rfl,show (2:Nat)<3 by decide⟩,⟨rfl,Yt⟩,⟨rfl,Yt⟩,⟨rfl,Yt⟩,⟨rfl,Yt⟩,Yt⟩
  ⟨⟨by decide,rfl,⟨⟨Yt,Yt,Yt,Yt,Yt,Yt,Yt⟩,Yt⟩⟩,⟨by decide,rfl,hsi 2 _⟩,⟨by decide,rfl,⟨⟨Yt,Yt,Yt,Yt,Yt,Yt,Yt⟩,Yt⟩⟩,Yt⟩ ?_
 rintro⟨a,k,l,fk⟩ ⟨ha1,han,hk,hl⟩;dsimp only at ha1 han hk hl;have hainc:IntKind.i64.wrap ((a:Int)+1)=((a+1:Nat):Int):=Y0v _ ⟨by omega,by omega⟩;refine gd 44 ⟨?_⟩;refine Zt rfl rfl rfl (fun hb=>?_) (fun hb=>?_)
 . have hal : a < n := by have := Y0u hb; omega
   clear hb;refine go ?_;refine Zz hC (fun (z:Nat×Nat×List Pr×Bool)=>a+1<=z.1/\z.1<=n+1/\z.2.1<=10*a+z.1/\LJ n z.2.2.1 z.2.1) (fun z=>n+1-z.1) 3 (fun z => [(2,.ptr 0 0 0),(3,.ptr 1 0 0),(4,.ptr 2 0 0),(5,.val (.int .u8 (mkN n:Nat))),(6,.val (.int .i64 (v2:Int))),(7,.val (.int .i64 (z.2.1:Int))),(8,.val (.int .i64 (a:Int))),(9,Yv z.1)])
    (fun z => [(0,⟨6,[zpv [.int .i64 0,.slice none 0 0,.int .u64 0,.slice none 0 0,.slice none 0 0,.slice none 0 0]]⟩),(1,X54 p fl 2),(2,⟨6,[[.val (.int .i64 (n:Int)),.vec (z.2.2.1.map prC) z.2.2.2,.val (.int .u64 0),.vec [] true,.vec [] true,.vec [] true]]⟩)]) (Y0l _) (a+1,k,l,fk) ⟨Y0m _,by show a+1<=n+1; omega,by show k<=10*a+(a+1); omega,hl⟩
    ⟨⟨rfl,show (0:Nat)<3 by decide⟩,⟨rfl,show (1:Nat)<3 by decide⟩,⟨rfl,show (2:Nat)<3 by decide⟩,⟨rfl,Yt⟩,⟨rfl,Yt⟩,⟨rfl,Yt⟩,⟨rfl,Yt⟩,⟨by show some _=some _; rw [hainc],Yt⟩,Yt⟩
    ⟨⟨by decide,rfl,⟨⟨Yt,Yt,Yt,Yt,Yt,Yt,Yt⟩,Yt⟩⟩,⟨by decide,rfl,hsi 2 _⟩,⟨by decide,rfl,⟨⟨Yt,hpl _ _,Yt,Yt,Yt,Yt,Yt⟩,Yt⟩⟩,Yt⟩ ?_
   clear hk hl;rintro⟨c,k,l,fk⟩ ⟨hc1,hcn,hk,hl⟩;dsimp only at hc1 hcn hk hl;have hcinc:IntKind.i64.wrap ((c:Int)+1)=((c+1:Nat):Int):=Y0v _ ⟨by omega,by omega⟩;have hkinc:IntKind.i64.wrap ((k:Int)+1)=((k+1:Nat):Int):=Y0v _ ⟨by omega,by omega⟩;have hend:∀ l' fk',LJ n l' (k+1)->c<=n->(fun (z:Nat×Nat×List Pr×Bool)=>a+1<=z.1/\z.1<=n+1/\z.2.1<=10*a+z.1/\LJ n z.2.2.1 z.2.1) (c+1,k+1,l',fk'):=fun l' fk' h1 h2=>⟨by show a+1<=c+1; omega,by show c+1<=n+1; omega,by show k+1<=10*a+(c+1); omega,h1⟩
   refine gd 52 ⟨?_⟩;refine Zt rfl rfl rfl (fun hb=>?_) (fun hb=>?_)
   . have hcl : c <= n := by have := Y0u hb; omega
     clear hb;refine gd 57 ⟨?_⟩;refine Ze rfl rfl rfl (Z3I k 8) ?_;have hk8:=Y1F k (show 0<8 by decide);refine Ze rfl rfl rfl (show IntKind.u64.wrap ((k % 8:Nat):Int)=((k % 8:Nat):Int) from Y0x _ ⟨by omega,by omega⟩) ?_;refine Z3x rfl rfl (by omega) rfl rfl ?_;refine gd 61 ⟨?_⟩;refine Zt rfl rfl rfl (fun hb=>?_) (fun hb=>?_)
     . clear hb;refine gd 65 ⟨?_⟩;refine Zn rfl ?_;refine Zt rfl rfl rfl (fun hb=>?_) (fun hb=>?_)
       . clear hb;refine gd 72 ⟨?_⟩;refine Zw rfl rfl (Zf1 l fk (hl.good hn2.2).small a c ⟨ha1,by omega⟩ ⟨by omega,by omega⟩ (by omega) (by have:=hl.len;omega)) ⟨Zk l,Yt,Yt,Yt⟩ rfl ?_;rintro r ⟨l',fl',er,hL,rfl⟩;refine go ?_;exact⟨(c+1,k+1,l',fl'),hend l' fl' (hl.step hL ha1 (by omega) hcl) hcl,by show n+1-(c+1)<n+1-c; omega,⟨⟨rfl,show (0:Nat)<3 by decide⟩,⟨rfl,show (1:Nat)<3 by decide⟩,⟨rfl,show (2:Nat)<3 by decide⟩,⟨rfl,Yt⟩,⟨rfl,Yt⟩,⟨by show some _=some _; rw [hkinc],Yt⟩,⟨rfl,Yt⟩,⟨by show some _=some _; rw [hcinc],Yt⟩,Yt⟩,⟨⟨by decide,rfl,⟨⟨Yt,Yt,Yt,Yt,Yt,Yt,Yt⟩,Yt⟩⟩,⟨by decide,rfl,hsi 2 _⟩,⟨by decide,rfl,⟨⟨Yt,hpl _ _,Yt,Yt,Yt,Yt,Yt⟩,Yt⟩⟩,Yt⟩⟩
       . clear hb;refine go ?_;exact⟨(c+1,k+1,l,fk),hend l fk (hl.mono (Y47 k)) hcl,by show n+1-(c+1)<n+1-c; omega,⟨⟨rfl,show (0:Nat)<3 by decide⟩,⟨rfl,show (1:Nat)<3 by decide⟩,⟨rfl,show (2:Nat)<3 by decide⟩,⟨rfl,Yt⟩,⟨rfl,Yt⟩,⟨by show some _=some _; rw [hkinc],Yt⟩,⟨rfl,Yt⟩,⟨by show some _=some _; rw [hcinc],Yt⟩,Yt⟩,⟨⟨by decide,rfl,⟨⟨Yt,Yt,Yt,Yt,Yt,Yt,Yt⟩,Yt⟩⟩,⟨by decide,rfl,hsi 2 _⟩,⟨by decide,rfl,⟨⟨Yt,hpl _ _,Yt,Yt,Yt,Yt,Yt⟩,Yt⟩⟩,Yt⟩⟩
     . clear hb;refine go ?_;exact⟨(c+1,k+1,l,fk),hend l fk (hl.mono (Y47 k)) hcl,by show n+1-(c+1)<n+1-c; omega,⟨⟨rfl,show (0:Nat)<3 by decide⟩,⟨rfl,show (1:Nat)<3 by decide⟩,⟨rfl,show (2:Nat)<3 by decide⟩,⟨rfl,Yt⟩,⟨rfl,Yt⟩,⟨by show some _=some _; rw [hkinc],Yt⟩,⟨rfl,Yt⟩,⟨by show some _=some _; rw [hcinc],Yt⟩,Yt⟩,⟨⟨by decide,rfl,⟨⟨Yt,Yt,Yt,Yt,Yt,Yt,Yt⟩,Yt⟩⟩,⟨by decide,rfl,hsi 2 _⟩,⟨by decide,rfl,⟨⟨Yt,hpl _ _,Yt,Yt,Yt,Yt,Yt⟩,Yt⟩⟩,Yt⟩⟩
   . have hcl : c = n + 1 := by have := YC hb; omega
     clear hb;refine go ?_;exact⟨(a+1,k,l,fk),⟨by show 1<=a+1; omega,by show a+1<=n; omega,by show k<=10*(a+1); omega,hl⟩,by show n-(a+1)<n-a; omega,⟨⟨rfl,show (0:Nat)<3 by decide⟩,⟨rfl,show (1:Nat)<3 by decide⟩,⟨rfl,show (2:Nat)<3 by decide⟩,⟨rfl,Yt⟩,⟨rfl,Yt⟩,⟨rfl,Yt⟩,⟨by show some _=some _; rw [hainc],Yt⟩,Yt⟩,⟨⟨by decide,rfl,⟨⟨Yt,Yt,Yt,Yt,Yt,Yt,Yt⟩,Yt⟩⟩,⟨by decide,rfl,hsi 2 _⟩,⟨by decide,rfl,⟨⟨Yt,hpl _ _,Yt,Yt,Yt,Yt,Yt⟩,Yt⟩⟩,Yt⟩⟩
 . have hal : a = n := by have := YC hb; omega
   clear hb;have hgl:=hl.good hn2.2;have hlm:=hl.mem;clear hl hk hv2 hainc;refine gd 79 ⟨?_⟩;refine ZU (ZW p hp fl 2 (by omega)) rfl rfl rfl rfl (ZK p fl 2) Yt ?_;rintro r b' - - ⟨v3,hv3,rfl,rfl⟩;refine gd 82 ⟨?_⟩;obtain⟨s,hs1,hs2⟩:=ZkS (IntKind.u8.wrap (v3:Int)) (mkN n) (by omega);have hs3:s<=mkN n:=by rw [<- hs1]; exact YN
   refine Ze rfl rfl rfl hs2 ?_;refine Ze rfl rfl rfl (show IntKind.u64.wrap ((s:Nat):Int)=((s:Nat):Int) from Y0x _ ⟨by omega,by omega⟩) ?_;clear hs2 hv3;refine gd 86 ⟨?_⟩;refine ZU (ZW p hp fl 3 (by omega)) rfl rfl rfl rfl (ZK p fl 3) Yt ?_;rintro r b' - - ⟨v4,hv4,rfl,rfl⟩;refine Ze rfl rfl rfl (Z3I v4 7) ?_;have hc6:=Y1F v4 (show 0<7 by decide);generalize v4 % 7=cnt at hc6 ⊢;clear hv4;refine gd 11 ⟨?_⟩;refine Za (ZO (id:=2) (i0:=0) (j0:=3) rfl (Y0 rfl) (Y0 rfl) rfl 5 (by decide) (by decide)) ?_;refine go ?_;refine Zv hC (fun (z:Nat×Nat×List RU)=>z.1<=cnt/\z.2.1<=4+4*z.1/\z.2.2.length=z.1/\∀ r∈z.2.2,X42 n r) (fun z=>cnt-z.1) 4 (fun z => [(2,.ptr 0 0 0),(3,.ptr 1 0 0),(4,.ptr 2 0 0),(5,.val (.int .u8 (mkN n:Nat))),(10,.val (.int .i64 (cnt:Int))),(11,Yv z.1)])
    (fun z => [(0,⟨6,[zpv [.int .i64 0,.slice none 0 0,.int .u64 0,.slice none 0 0,.slice none 0 0,.slice none 0 0]]⟩),(1,X54 p fl z.2.1),(2,⟨6,[[.val (.int .i64 (n:Int)),.vec (l.map prC) fk,.val (.int .u64 (s:Int)),.own 3,.vec [] true,.vec [] true]]⟩),(3,⟨5,z.2.2.map ruR⟩)]) (Y0l _) (0,3+1,[]) ⟨Y0l _,Y0m _,rfl,fun r hr=>by cases hr⟩ (fun i=>i) (fun _ _=>rfl) Zf
    ⟨Qt 0 0 0,Qt 1 0 0,Qt 2 0 0,Qp Yt,Qp Yt,Qp Yt,Yt⟩
    ⟨Qs ⟨⟨Yt,Yt,Yt,Yt,Yt,Yt,Yt⟩,Yt⟩,Qs (ZK p fl _),⟨by decide,_,rfl,Xw.single ⟨.pure _ Yt,.pure _ (Zk l),.pure _ Yt,.own (ρ:=fun i=>i) 3 (by decide),.pure _ Yt,.pure _ Yt,Yt⟩ rfl⟩,Qs Yt,Yt⟩ ?_
   rintro⟨i,t,rs⟩ ⟨hi,ht,hrl,hro⟩;dsimp only at hi ht hrl hro;have hinc:IntKind.i64.wrap ((i:Int)+1)=((i+1:Nat):Int):=Y0v _ ⟨by omega,by omega⟩;refine gd 90 ⟨?_⟩;refine Zt rfl rfl rfl (fun hb=>?_) (fun hb=>?_)
   . have hil : i < cnt := by have := Y0u hb; omega
     clear hb;refine gd 94 ⟨?_⟩;refine ZU (ZW p hp fl t (by omega)) rfl rfl rfl rfl (ZK p fl _) Yt ?_;rintro r b' - - ⟨w1,hw1,rfl,rfl⟩;refine gd 96 ⟨?_⟩;refine ZU (ZW p hp fl (t+1) (by omega)) rfl rfl rfl rfl (ZK p fl _) Yt ?_;rintro r b' - - ⟨w2,hw2,rfl,rfl⟩;refine gd 98 ⟨?_⟩;refine ZU (ZW p hp fl (t+1+1) (by omega)) rfl rfl rfl rfl (ZK p fl _) Yt ?_;rintro r b' - - ⟨w3,hw3,rfl,rfl⟩;refine gd 100 ⟨?_⟩;refine ZU (ZW p hp fl (t+1+1+1) (by omega)) rfl rfl rfl rfl (ZK p fl _) Yt ?_;rintro r b' - - ⟨w4,hw4,rfl,rfl⟩;refine gd 103 ⟨?_⟩;refine Z0 rfl rfl rfl ?_;generalize ((w1:Int).tmod 4 == 3)=rev;refine gd 107 ⟨?_⟩;refine Qo (Zk5 rfl rfl (by omega)) ?_;rw [Z3I w2 n];have hw:=Y1F w2 (show 0<n by omega);refine Ze rfl rfl rfl (show IntKind.i64.wrap (1+((w2 % n:Nat):Int))=((1+w2 % n:Nat):Int) from by rw [Y0v _ ⟨by omega,by omega⟩];omega) ?_;cases rev
     . refine gd 117 ⟨?_⟩;refine Zw rfl rfl (Z6a (w3:Int) (w4:Int) (mkN n) (by omega)) ⟨Yt,Yt,Yt,Yt⟩ rfl ?_;rintro r ⟨c,hc1,hc2,rfl⟩;refine gd 123 ⟨?_⟩
       refine ZH (Zu (k:=3) (m := [ruR (RU.mk false c (1+w2 % n) i)]) (fl:=true) rfl rfl rfl (fun q hq=>by rw [Y0g] at hq; subst hq; rfl) rfl (by
        show ((rs.map ruR).length+1)*40<=_
        rw [Y0f];omega)) rfl rfl ?_
       refine go ?_
       refine⟨(i+1,t+1+1+1+1,rs ++ [(RU.mk false c (1+w2 % n) i)]),mv 3 5,⟨by show i+1<=cnt; omega,by show t+1+1+1+1<=4+4*(i+1); omega,by rw [Y0e,hrl]; rfl,fun r hr=>(Y0h.1 hr).elim (hro r) fun e=>by
        rw [Y0g] at e; subst e
        exact X42.mk0 hn2.2 hc1 hm62 hc2 ⟨by omega,by omega⟩ (fun h=>by cases h)⟩,by show cnt-(i+1)<cnt-i; omega,fun i hi=>absurd hi (Ye i),Zq rfl,
        ⟨Qt 0 0 0,Qt 1 0 0,Qt 2 0 0,Qp Yt,Qp Yt,⟨_,by show some _=some _; rw [hinc],.pure _ Yt⟩,Yt⟩,
        ⟨Qs ⟨⟨Yt,Yt,Yt,Yt,Yt,Yt,Yt⟩,Yt⟩,Qs (ZK p fl _),⟨by decide,_,rfl,Xw.single ⟨.pure _ Yt,.pure _ (Zk l),.pure _ Yt,.own (ρ:=mv 3 5) 3 (by decide),.pure _ Yt,.pure _ Yt,Yt⟩ rfl⟩,⟨by decide,_,rfl,?_⟩,Yt⟩⟩
       show Xw _ _ ⟨5,rs.map ruR ++ [ruR (RU.mk false c (1+w2 % n) i)]⟩ ⟨5,(rs ++ [(RU.mk false c (1+w2 % n) i)]).map ruR⟩;rw [Y0r];exact .same _ (by rw [<- Y1c,<- Y0r]; exact Z1C _)
     . refine gd 123 ⟨?_⟩
       refine ZH (Zu (k:=3) (m := [ruR (RU.mk true (0,0) (1+w2 % n) i)]) (fl:=true) rfl rfl rfl (fun q hq=>by rw [Y0g] at hq; subst hq; rfl) rfl (by
        show ((rs.map ruR).length+1)*40<=_
        rw [Y0f];omega)) rfl rfl ?_
       refine go ?_
       refine⟨(i+1,t+1+1+1+1,rs ++ [(RU.mk true (0,0) (1+w2 % n) i)]),mv 3 5,⟨by show i+1<=cnt; omega,by show t+1+1+1+1<=4+4*(i+1); omega,by rw [Y0e,hrl]; rfl,fun r hr=>(Y0h.1 hr).elim (hro r) fun e=>by
        rw [Y0g] at e; subst e
        exact X42.mk0 hn2.2 ⟨Y46 _,Y46 _⟩ hm62 rfl ⟨by omega,by omega⟩ (fun h=>rfl)⟩,by show cnt-(i+1)<cnt-i; omega,fun i hi=>absurd hi (Ye i),Zq rfl,
        ⟨Qt 0 0 0,Qt 1 0 0,Qt 2 0 0,Qp Yt,Qp Yt,⟨_,by show some _=some _; rw [hinc],.pure _ Yt⟩,Yt⟩,
        ⟨Qs ⟨⟨Yt,Yt,Yt,Yt,Yt,Yt,Yt⟩,Yt⟩,Qs (ZK p fl _),⟨by decide,_,rfl,Xw.single ⟨.pure _ Yt,.pure _ (Zk l),.pure _ Yt,.own (ρ:=mv 3 5) 3 (by decide),.pure _ Yt,.pure _ Yt,Yt⟩ rfl⟩,⟨by decide,_,rfl,?_⟩,Yt⟩⟩
       show Xw _ _ ⟨5,rs.map ruR ++ [ruR (RU.mk true (0,0) (1+w2 % n) i)]⟩ ⟨5,(rs ++ [(RU.mk true (0,0) (1+w2 % n) i)]).map ruR⟩;rw [Y0r];exact .same _ (by rw [<- Y1c,<- Y0r]; exact Z1C _)
   . have hil : i = cnt := by have := YC hb; omega
     clear hb hinc;rw [hil] at hrl;have ht28:t<=28:=by omega
     clear hi hil ht;refine gd 126 ⟨?_⟩;refine ZU (ZW p hp fl t (by omega)) rfl rfl rfl rfl (ZK p fl _) Yt ?_;rintro r b' - - ⟨w1,hw1,rfl,rfl⟩;refine Za (Zx (ob:=2) (id:=3) (i0:=0) (j0:=3) rfl rfl (by decide) (Z1C rs) (Y0 rfl) (Y0 rfl) rfl) ?_;refine Ze rfl rfl rfl (Z3I w1 4) ?_;have hv4:=Y1F w1 (show 0<4 by decide);generalize w1 % 4=nvc at hv4 ⊢;clear hw1;refine gd 129 ⟨?_⟩;refine ZU (ZW p hp fl (t+1) (by omega)) rfl rfl rfl rfl (ZK p fl _) Yt ?_;rintro r b' - - ⟨w1,hw1,rfl,rfl⟩;refine Ze rfl rfl rfl (Z3I w1 3) ?_;have hv3:=Y1F w1 (show 0<3 by decide);refine Ze rfl rfl rfl (show IntKind.i64.wrap (1+((w1 % 3:Nat):Int))=((1+w1 % 3:Nat):Int) from by rw [Y0v _ ⟨by omega,by omega⟩];omega) ?_;obtain⟨glc,hglc⟩:∃ g,1+w1 % 3=g:=⟨_,rfl⟩
     rw [hglc];have hgl3:1<=glc/\glc<=3:=by omega
     clear hglc hv3 hw1;refine gd 19 ⟨?_⟩;refine Za (ZO (id:=2) (i0:=0) (j0:=4) rfl (Y0 rfl) (Y0 rfl) rfl 2 (by decide) (by decide)) ?_;refine go ?_;refine Zv hC (fun (z:Nat×Nat×List Cu)=>z.1<=nvc/\z.2.1<=30+2*z.1/\z.2.2.length<=z.1/\∀ c∈z.2.2,InM (mkN n) c/\emC c=false/\hoC c (clo l s)=false) (fun z=>nvc-z.1) 5 (fun z => [(2,.ptr 0 0 0),(3,.ptr 1 0 0),(4,.ptr 2 0 0),(5,.val (.int .u8 (mkN n:Nat))),(17,.val (.int .i64 (nvc:Int))),(18,.val (.int .i64 (glc:Int))),(19,Yv z.1)])
      (fun z => [(0,⟨6,[zpv [.int .i64 0,.slice none 0 0,.int .u64 0,.slice none 0 0,.slice none 0 0,.slice none 0 0]]⟩),(1,X54 p fl z.2.1),(2,⟨6,[[.val (.int .i64 (n:Int)),.vec (l.map prC) fk,.val (.int .u64 (s:Int)),.vec (rs.map ruR) false,.own 4,.vec [] true]]⟩),(4,⟨2,z.2.2.map raC⟩)]) (Y0l _) (0,t+1+1,[]) ⟨Y0l _,by show t+1+1<=30+2*0; omega,Y0m _,fun r hr=>by cases hr⟩ (fun i=>i) (fun _ _=>rfl) Zf
      ⟨Qt 0 0 0,Qt 1 0 0,Qt 2 0 0,Qp Yt,Qp Yt,Qp Yt,Qp Yt,Yt⟩
      ⟨Qs ⟨⟨Yt,Yt,Yt,Yt,Yt,Yt,Yt⟩,Yt⟩,Qs (ZK p fl _),⟨by decide,_,rfl,Xw.single ⟨.pure _ Yt,.pure _ (Zk l),.pure _ Yt,.pure _ (Z1C rs),.own (ρ:=fun i=>i) 4 (by decide),.pure _ Yt,Yt⟩ rfl⟩,Qs Yt,Yt⟩ ?_
     clear ht28;rintro⟨i,t,nv⟩ ⟨hi,ht,hnl,hno⟩;dsimp only at hi ht hnl hno;have hinc:IntKind.i64.wrap ((i:Int)+1)=((i+1:Nat):Int):=Y0v _ ⟨by omega,by omega⟩;refine gd 134 ⟨?_⟩;refine Zt rfl rfl rfl (fun hb=>?_) (fun hb=>?_)
     . have hil : i < nvc := by have := Y0u hb; omega
       clear hb;refine gd 138 ⟨?_⟩;refine ZU (ZW p hp fl t (by omega)) rfl rfl rfl rfl (ZK p fl _) Yt ?_;rintro r b' - - ⟨w1,hw1,rfl,rfl⟩;refine gd 140 ⟨?_⟩;refine ZU (ZW p hp fl (t+1) (by omega)) rfl rfl rfl rfl (ZK p fl _) Yt ?_;rintro r b' - - ⟨w2,hw2,rfl,rfl⟩;refine gd 145 ⟨?_⟩;refine Qo (Zk5 rfl rfl (by omega)) ?_;rw [Z3I i n];have hw:=Y1F i (show 0<n by omega);refine Ze rfl rfl rfl (show IntKind.u64.wrap ((i % n:Nat):Int)=((i % n:Nat):Int) from Y0x _ ⟨by omega,by omega⟩) ?_;refine Z3w rfl rfl (by omega) rfl rfl ?_;refine gd 151 ⟨?_⟩;refine Zw rfl rfl (Z6a _ (w2:Int) (mkN n) (by omega)) ⟨Yt,Yt,Yt,Yt⟩ rfl ?_;rintro r ⟨c,hc1,hc2,rfl⟩;have hcl:=Z2B l fk hgl.small s (by omega);have hc64:=hc1.lt (by omega);have hho:=Z4d c (clo l s) hc64 (Z5A _ _);refine gd 157 ⟨?_⟩;refine Qd hcl ⟨Zk _,Yt,Yt⟩ ?_;refine Qd hho ⟨Z2C c,Yt,Yt⟩ ?_;cases hb:hoC c (clo l s)
       . refine gd 164 ⟨?_⟩
         refine ZH (Zu (k:=4) (m := [raC c]) (fl:=true) rfl rfl rfl (fun q hq=>by rw [Y0g] at hq; subst hq; rfl) rfl (by
         show ((nv.map raC).length+1)*16<=_
         rw [Y0f];omega)) rfl rfl ?_
         refine go ?_
         refine⟨(i+1,t+1+1,nv ++ [c]),mv 4 14,⟨by show i+1<=nvc; omega,by show t+1+1<=30+2*(i+1); omega,by rw [Y0e]; show nv.length+1<=i+1; omega,fun c' hc'=>(Y0h.1 hc').elim (hno c') fun e=>by rw [Y0g] at e; subst e; exact⟨hc1,hc2,hb⟩⟩,by show nvc-(i+1)<nvc-i; omega,fun i hi=>absurd hi (Ye i),Zq rfl,
          ⟨Qt 0 0 0,Qt 1 0 0,Qt 2 0 0,Qp Yt,Qp Yt,Qp Yt,⟨_,by show some _=some _; rw [hinc],.pure _ Yt⟩,Yt⟩,
          ⟨Qs ⟨⟨Yt,Yt,Yt,Yt,Yt,Yt,Yt⟩,Yt⟩,Qs (ZK p fl _),⟨by decide,_,rfl,Xw.single ⟨.pure _ Yt,.pure _ (Zk l),.pure _ Yt,.pure _ (Z1C rs),.own (ρ:=mv 4 14) 4 (by decide),.pure _ Yt,Yt⟩ rfl⟩,⟨by decide,_,rfl,?_⟩,Yt⟩⟩
         show Xw _ _ ⟨2,nv.map raC ++ [raC c]⟩ ⟨2,(nv ++ [c]).map raC⟩;rw [Y0r];exact .same _ (by rw [<- Y1c,<- Y0r]; exact Z1m _)
       . refine go ?_
         exact⟨(i+1,t+1+1,nv),fun i=>i,⟨by show i+1<=nvc; omega,by show t+1+1<=30+2*(i+1); omega,by show nv.length<=i+1; omega,hno⟩,by show nvc-(i+1)<nvc-i; omega,fun i hi=>rfl,Zf,
          ⟨Qt 0 0 0,Qt 1 0 0,Qt 2 0 0,Qp Yt,Qp Yt,Qp Yt,⟨_,by show some _=some _; rw [hinc],.pure _ Yt⟩,Yt⟩,
          ⟨Qs ⟨⟨Yt,Yt,Yt,Yt,Yt,Yt,Yt⟩,Yt⟩,Qs (ZK p fl _),⟨by decide,_,rfl,Xw.single ⟨.pure _ Yt,.pure _ (Zk l),.pure _ Yt,.pure _ (Z1C rs),.own (ρ:=fun i=>i) 4 (by decide),.pure _ Yt,Yt⟩ rfl⟩,Qs (Z1m _),Yt⟩⟩
     . have hil : i = nvc := by have := YC hb; omega
       clear hb hinc;rw [hil] at hnl;have ht40:t<=40:=by omega
       clear hi hil ht;refine gd 23 ⟨?_⟩;refine Za (Zx (ob:=2) (id:=4) (i0:=0) (j0:=4) rfl rfl (by decide) (Z1m nv) (Y0 rfl) (Y0 rfl) rfl) ?_;refine Za (ZO (id:=2) (i0:=0) (j0:=5) rfl (Y0 rfl) (Y0 rfl) rfl 2 (by decide) (by decide)) ?_;refine go ?_;refine Zv hC (fun (z:Nat×Nat×List Cu)=>z.1<=glc/\z.2.1<=40+2*z.1/\z.2.2.length=z.1/\∀ c∈z.2.2,InM (mkN n) c/\emC c=false) (fun z=>glc-z.1) 6 (fun z => [(2,.ptr 0 0 0),(3,.ptr 1 0 0),(4,.ptr 2 0 0),(5,.val (.int .u8 (mkN n:Nat))),(18,.val (.int .i64 (glc:Int))),(23,Yv z.1)])
        (fun z => [(0,⟨6,[zpv [.int .i64 0,.slice none 0 0,.int .u64 0,.slice none 0 0,.slice none 0 0,.slice none 0 0]]⟩),(1,X54 p fl z.2.1),(2,⟨6,[[.val (.int .i64 (n:Int)),.vec (l.map prC) fk,.val (.int .u64 (s:Int)),.vec (rs.map ruR) false,.vec (nv.map raC) false,.own 5]]⟩),(5,⟨2,z.2.2.map raC⟩)]) (Y0l _) (0,t,[]) ⟨Y0l _,by show t<=40+2*0; omega,rfl,fun r hr=>by cases hr⟩ (fun i=>i) (fun _ _=>rfl) Zf
        ⟨Qt 0 0 0,Qt 1 0 0,Qt 2 0 0,Qp Yt,Qp Yt,Qp Yt,Yt⟩
        ⟨Qs ⟨⟨Yt,Yt,Yt,Yt,Yt,Yt,Yt⟩,Yt⟩,Qs (ZK p fl _),⟨by decide,_,rfl,Xw.single ⟨.pure _ Yt,.pure _ (Zk l),.pure _ Yt,.pure _ (Z1C rs),.pure _ (Z1m nv),.own (ρ:=fun i=>i) 5 (by decide),Yt⟩ rfl⟩,Qs Yt,Yt⟩ ?_
       clear ht40;rintro⟨i,t,gs⟩ ⟨hi,ht,hgn,hgo⟩;dsimp only at hi ht hgn hgo;have hinc:IntKind.i64.wrap ((i:Int)+1)=((i+1:Nat):Int):=Y0v _ ⟨by omega,by omega⟩;refine gd 168 ⟨?_⟩;refine Zt rfl rfl rfl (fun hb=>?_) (fun hb=>?_)
       . have hil : i < glc := by have := Y0u hb; omega
         clear hb;refine gd 172 ⟨?_⟩;refine ZU (ZW p hp fl t (by omega)) rfl rfl rfl rfl (ZK p fl _) Yt ?_;rintro r b' - - ⟨w1,hw1,rfl,rfl⟩;refine gd 174 ⟨?_⟩;refine ZU (ZW p hp fl (t+1) (by omega)) rfl rfl rfl rfl (ZK p fl _) Yt ?_;rintro r b' - - ⟨w2,hw2,rfl,rfl⟩;refine gd 180 ⟨?_⟩;refine Z41 rfl rfl (.inl rfl) (Z6a (w1:Int) (w2:Int) (mkN n) (by omega)) ⟨Yt,Yt,Yt,Yt⟩ ?_;rintro r ⟨c,hc1,hc2,rfl⟩;refine gd 182 ⟨?_⟩
         refine Qr (Zu (k:=5) (m := [raC c]) (fl:=true) rfl rfl rfl (fun q hq=>by rw [Y0g] at hq; subst hq; rfl) rfl (by
          show ((gs.map raC).length+1)*16<=_
          rw [Y0f];omega)) ?_
         refine go ?_
         refine⟨(i+1,t+1+1,gs ++ [c]),mv 5 13,⟨by show i+1<=glc; omega,by show t+1+1<=40+2*(i+1); omega,by rw [Y0e,hgn]; rfl,fun c' hc'=>(Y0h.1 hc').elim (hgo c') fun e=>by rw [Y0g] at e; subst e; exact⟨hc1,hc2⟩⟩,by show glc-(i+1)<glc-i; omega,fun i hi=>absurd hi (Ye i),Zq rfl,
          ⟨Qt 0 0 0,Qt 1 0 0,Qt 2 0 0,Qp Yt,Qp Yt,⟨_,by show some _=some _; rw [hinc],.pure _ Yt⟩,Yt⟩,
          ⟨Qs ⟨⟨Yt,Yt,Yt,Yt,Yt,Yt,Yt⟩,Yt⟩,Qs (ZK p fl _),⟨by decide,_,rfl,Xw.single ⟨.pure _ Yt,.pure _ (Zk l),.pure _ Yt,.pure _ (Z1C rs),.pure _ (Z1m nv),.own (ρ:=mv 5 13) 5 (by decide),Yt⟩ rfl⟩,⟨by decide,_,rfl,?_⟩,Yt⟩⟩
         show Xw _ _ ⟨2,gs.map raC ++ [raC c]⟩ ⟨2,(gs ++ [c]).map raC⟩;rw [Y0r];exact .same _ (by rw [<- Y1c,<- Y0r]; exact Z1m _)
       . have hil : i = glc := by have := YC hb; omega
         clear hb hinc;rw [hil] at hgn;refine gd 184 ⟨?_⟩;refine Za (Zx (ob:=2) (id:=5) (i0:=0) (j0:=5) rfl rfl (by decide) (Z1m gs) (Y0 rfl) (Y0 rfl) rfl) ?_;refine go ?_;have hlo1:XE (l.map prC)=l.map prC:=Z5H (fun _=>rfl) l;have hlo2:XE (rs.map ruR)=rs.map ruR:=Z5H (fun _=>rfl) rs;have hlo3:∀ x:List Cu,XE (x.map raC)=x.map raC:=Z5H (fun _=>rfl);have hcI:∀ c:Cu,InM (mkN n) c->InM 62 c:=fun c hc=>⟨Z4L hc.1 hm62,Z4L hc.2 hm62⟩
         have hOk:X6V ⟨n,l,s,rs,nv,gs⟩:=by
          refine⟨⟨⟨by show 1<=n; omega,by show n<=63; omega⟩,hgl,fun p hp=>?_,hs1,by show rs.length<=64; omega,hro,by show nv.length<=64; omega,fun c hc=>⟨(hno c hc).1.inC (hno c hc).2.1,hcI c (hno c hc).1⟩,by show gs.length<=64; omega,fun c hc=>⟨(hgo c hc).1.inC (hgo c hc).2,hcI c (hgo c hc).1⟩,?_⟩,hn2,by show rs.length<=6; omega,by show nv.length<=3; omega,by show 1<=gs.length/\gs.length<=3; omega⟩
          . have := hlm p hp;show p.1<=n/\p.2<=n/\p.1<=5/\p.2<=5;omega
          . show soC nv (clo l s) = false;refine Yy.2 fun h=>?_;obtain⟨c,hc,h⟩:=Y01.1 h;rw [(hno c hc).2.2] at h; cases h
         have he:(PV.agg [.val (.int .i64 (n:Int)),.vec (l.map prC) fk,.val (.int .u64 (s:Int)),.vec (rs.map ruR) false,.vec (nv.map raC) false,.vec (gs.map raC) false]).low=.agg (pbR ⟨n,l,s,rs,nv,gs⟩):=by
          show PV.agg [.val (.int .i64 (n:Int)),.vec (XE (l.map prC)) false,.val (.int .u64 (s:Int)),.vec (XE (rs.map ruR)) false,.vec (XE (nv.map raC)) false,.vec (XE (gs.map raC)) false]=_;rw [hlo1,hlo2,hlo3,hlo3]; rfl
         refine Z1K (r:=.agg [.val (.int .i64 (n:Int)),.vec (l.map prC) fk,.val (.int .u64 (s:Int)),.vec (rs.map ruR) false,.vec (nv.map raC) false,.vec (gs.map raC) false]) rfl ?_ ⟨_,hOk,he⟩;rw [he];exact Z22 _
theorem Z6S (l:List RU):(l.map ruR).length=l.length:=by simp
theorem Z6s:∀ {l m:List Pr},Xz l->Xz m->l.Perm m->l=m
 | [],m,_,_,h=>(List.Perm.nil_eq h)
 | a :: l,[],_,_,h=>by have:=h.length_eq; simp at this
 | a :: l, b :: m, h1, h2, h => by
   have h1':=Y14.1 h1;have h2':=Y14.1 h2;have hab:a=b:=by
    rcases YD.1 (h.mem_iff.1 (Y0t (a:=a) (l:=l))) with e|ha
    . exact e
    rcases YD.1 (h.mem_iff.2 (Y0t (a:=b) (l:=m))) with e|hb
    . exact e.symm
    have x1:=h1'.1 b hb;have x2:=h2'.1 a ha;omega
   subst hab;rw [Z6s h1'.2 h2'.2 (List.Perm.cons_inv h)]
theorem Xz.tk {l:List Pr} (h:Xz l) (i:Nat):Xz (l.take i):=List.Pairwise.sublist (List.take_sublist i l) h
theorem Xz.nd {l:List Pr} (h:Xz l):l.Nodup:=List.Pairwise.imp (fun {a b} h e=>by subst e;omega) h
theorem ZdV {l:List Pr} (h:X4g l):l.length<=4096:=by
 have hn:(l.map fun p=>p.1*64+p.2).Nodup:=by
  rw [Y16,Y1w];refine Y1C (fun {a b} ha hb hab=>?_) h.asc;have h1:=h.small a ha;have h2:=h.small b hb;show a.1*64+a.2≠b.1*64+b.2;omega
 have:=Z2y 4096 _ hn fun x hx=>by
  obtain⟨p,hp,rfl⟩:=Y0i.1 hx;have:=h.small p hp;show p.1*64+p.2<4096;omega
 rwa [Y0f] at this
theorem ZR {α:Type} {l:List α} {i:Nat} (hi:i<l.length):l.take (i+1)=l.take i ++ [l[i]]:=by rw [YW,Y0c hi]; rfl
theorem ZaH {t:PB} (h:Xo t):X7 Tryz.prog 17 [.agg (pbR t)] fun r=>∃ S,r=.tup [.agg (pbP t S),.val (.bool true)]:=by
 have hpr:=Z22 t;have hgl:=h.good;have hll:=ZdV hgl;have hnl:=Z2q t.l;have hst:t.st<18446744073709551616:=by
  have h1:t.st<=mkN t.n:=by rw [<- h.st]; exact YN
  have:=Z5E h.n.2;omega
 have hpl:∀ D,Xt D (t.l.map prC):=fun D=>Zd (fun _ h=>h.elim) _ (Zk t.l);have hpc:∀ D,X1S D (pbR t):=fun D=>ZG (fun _ h=>h.elim) _ hpr;have hhp:∀ D l S,(X16 l S).inn D:=fun D l S=>PV.inn_mono (fun _ h=>h.elim) _ (Zo l S);have hcu:∀ (l:List Cu) D,Xt D (l.map cuC):=fun l D=>Zd (fun _ h=>h.elim) _ (Z11 l);refine Yp ok17 fun C hC=>?_;refine Zm ?_;refine Z9 ?_;refine Z5 rfl rfl rfl ?_;refine gd 13 ⟨?_⟩;refine Z41 rfl rfl (.inl rfl) Z4g Yt ?_;rintro r ⟨S0,rfl⟩;refine gd 16 ⟨?_⟩;refine Qd (Z68 t.st hst) ⟨Yt,Yt⟩ ?_;refine gd 19 ⟨?_⟩;refine Qd (Z6r t.nv false h.nv64 (by have:=h.nl;omega)) ⟨Z1m _,Yt⟩ ?_;refine gd 22 ⟨?_⟩;refine Qd (Z6r t.gl false h.gl64 (by have:=h.gk;omega)) ⟨Z1m _,Yt⟩ ?_;refine go ?_;refine Zz hC (fun (z:Nat×List Nat)=>z.1<=t.l.length) (fun z=>t.l.length-z.1) 16 (fun z => [(1,.cp (pbR t)),(2,.ptr 0 0 0),(4,.ptr 14 0 0),(25,.vec (t.l.map prC) false),(26,.val (.int .i64 t.l.length)),(27,Yv z.1)])
  (fun z => [(0,⟨6,[zpv [.int .i64 0,.pointer none,.slice none 0 0,.slice none 0 0,.slice none 0 0,.slice none 0 0]]⟩),(14,⟨6,[[.val (.int .i64 (t.n:Int)),X16 (t.l.take z.1) z.2,.vec (X4 (Xb t.st)) false,.vec [] true,.vec (t.nv.map cuC) false,.vec (t.gl.map cuC) false]]⟩)]) (Y0l _) (0,S0) (Y0l _)
  ⟨⟨rfl,hpc _⟩,⟨rfl,show (0:Nat)<16 by decide⟩,⟨rfl,show (14:Nat)<16 by decide⟩,⟨rfl,hpl _⟩,⟨by rw [<- hnl]; rfl,Yt⟩,⟨rfl,Yt⟩,Yt⟩
  ⟨⟨by decide,rfl,⟨⟨Yt,Yt,Yt,Yt,Yt,Yt,Yt⟩,Yt⟩⟩,⟨by decide,rfl,⟨⟨Yt,hhp _ _ _,Zp _ _,Yt,hcu _ _,hcu _ _,Yt⟩,Yt⟩⟩,Yt⟩ ?_
 rintro⟨i,S⟩ hi;dsimp only at hi;have hinc:IntKind.i64.wrap ((i:Int)+1)=((i+1:Nat):Int):=Y0v _ ⟨by omega,by omega⟩;refine gd 28 ⟨?_⟩;refine Zt rfl rfl rfl (fun hb=>?_) (fun hb=>?_)
 . have hil : i < t.l.length := by have := Y0u hb; omega
   have htk:=ZR hil;have hro:=hgl.role _ (Y0j hil);have hsub:∀ p∈t.l.take i ++ [t.l[i]],p∈t.l:=fun p hp=>by rw [<- htk] at hp; exact YM hp
   have hno:t.l[i] ∉ t.l.take i:=fun h=>by
    have hnd:=Xz.nd (Xz.tk hgl.asc (i+1));rw [htk,Y2I] at hnd;exact hnd.2.2 _ h _ (Y0g.2 rfl) rfl
   clear hb;refine go ?_;refine Qo (Zl (xs:=t.l) (g:=prC) rfl rfl i rfl hil rfl) ?_;generalize t.l[i]=p at htk hro hsub hno ⊢;have hls:=Zh1 (t.l.take i) S p.1 p.2 (by omega) (by omega) hro.2.2.2.2 (fun q hq=>hgl.small q (YM hq)) (Xz.nd (Xz.tk hgl.asc i)) hno (hgl.acy.sub hsub) (by rw [Y0o];omega);refine gd 38 ⟨?_⟩;refine Zw rfl rfl hls ⟨Zo _ _,Yt,Yt,Yt⟩ rfl ?_;rintro r ⟨l',S',hpm,hst,rfl⟩;have hle:l'=t.l.take (i+1):=by
    have hx1:l'.Perm (t.l.take (i+1)):=by rw [htk]; exact hpm
    exact Z6s hst (Xz.tk hgl.asc (i+1)) hx1
   subst hle;refine go ?_
   exact⟨(i+1,S'),hil,by show t.l.length-(i+1)<t.l.length-i; omega,⟨⟨rfl,hpc _⟩,⟨rfl,show (0:Nat)<16 by decide⟩,⟨rfl,show (14:Nat)<16 by decide⟩,⟨rfl,hpl _⟩,⟨rfl,Yt⟩,⟨by show some _=some _; rw [hinc],Yt⟩,Yt⟩,
    ⟨⟨by decide,rfl,⟨⟨Yt,Yt,Yt,Yt,Yt,Yt,Yt⟩,Yt⟩⟩,⟨by decide,rfl,⟨⟨Yt,hhp _ _ _,Zp _ _,Yt,hcu _ _,hcu _ _,Yt⟩,Yt⟩⟩,Yt⟩⟩
 . have hil : i = t.l.length := by have := YC hb; omega
   subst hil;clear hb hinc hi;rw [Y0q];refine gd 50 ⟨?_⟩;refine Za (ZO (id:=14) (i0:=0) (j0:=3) rfl (Y0 rfl) (Y0 rfl) rfl 5 (by decide) (by decide)) ?_;refine go ?_;have hnr:=Z6S t.rs;have hrl:=h.rl;refine Zv hC (fun (i:Nat)=>i<=t.rs.length) (fun i=>t.rs.length-i) 17 (fun i => [(2,.ptr 0 0 0),(4,.ptr 14 0 0),(48,.vec (t.rs.map ruR) false),(49,.val (.int .i64 (t.rs.length:Int))),(50,Yv i)])
    (fun i => [(0,⟨6,[zpv [.int .i64 0,.pointer none,.slice none 0 0,.slice none 0 0,.slice none 0 0,.slice none 0 0]]⟩),(14,⟨6,[[.val (.int .i64 (t.n:Int)),X16 t.l S,.vec (X4 (Xb t.st)) false,.own 16,.vec (t.nv.map cuC) false,.vec (t.gl.map cuC) false]]⟩),(16,⟨5,(t.rs.take i).map ruP⟩)]) (Y0l _) 0 (Y0l _) (fun i=>i) (fun _ _=>rfl) Zf
    ⟨Qt 0 0 0,Qt 14 0 0,Qp (Z1C _),⟨_,by rw [<- hnr]; rfl,.pure _ Yt⟩,Qp Yt,Yt⟩
    ⟨Qs ⟨⟨Yt,Yt,Yt,Yt,Yt,Yt,Yt⟩,Yt⟩,⟨by decide,_,rfl,Xw.single ⟨.pure _ Yt,.pure _ (Zo _ _),.pure _ (Z7 _),.own (ρ:=fun i=>i) 16 (by decide),.pure _ (Z11 _),.pure _ (Z11 _),Yt⟩ rfl⟩,Qs Yt,Yt⟩ ?_
   intro i hi;have hinc:IntKind.i64.wrap ((i:Int)+1)=((i+1:Nat):Int):=Y0v _ ⟨by omega,by omega⟩;refine gd 51 ⟨?_⟩;by_cases hil:i<t.rs.length
   . have htk := ZR hil;have hcu64:=(h.rs _ (Y0j hil)).cu.lt h.n.2;refine Qo (Qy rfl (Y1z.2 hil)) ?_;refine go ?_;refine Qo (Zl (xs:=t.rs) (g:=ruR) rfl rfl i rfl hil rfl) ?_;generalize t.rs[i]=x at htk hcu64 ⊢;refine gd 57 ⟨?_⟩;refine Zc rfl rfl rfl ?_;refine gd 60 ⟨?_⟩;refine Qd (Z7y x.cu hcu64) ⟨Z2C _,Yt⟩ ?_;refine gd 67 ⟨?_⟩
     refine Qr (Zu (k:=16) (m := [ruP x]) (fl:=true) rfl rfl rfl (fun q hq=>by rw [Y0g] at hq; subst hq; rfl) rfl (by
      show (((t.rs.take i).map ruP).length+1)*72<=_
      rw [Y0f,Y0o];omega)) ?_
     refine go ?_
     refine⟨i+1,mv 16 31,hil,by show t.rs.length-(i+1)<t.rs.length-i; omega,fun i hi=>absurd hi (Ye i),Zq rfl,
      ⟨Qt 0 0 0,Qt 14 0 0,Qp (Z1C _),Qp Yt,⟨_,by show some _=some _; rw [hinc],.pure _ Yt⟩,Yt⟩,
      ⟨Qs ⟨⟨Yt,Yt,Yt,Yt,Yt,Yt,Yt⟩,Yt⟩,⟨by decide,_,rfl,Xw.single ⟨.pure _ Yt,.pure _ (Zo _ _),.pure _ (Z7 _),.own (ρ:=mv 16 31) 16 (by decide),.pure _ (Z11 _),.pure _ (Z11 _),Yt⟩ rfl⟩,⟨by decide,_,rfl,?_⟩,Yt⟩⟩
     show Xw _ _ ⟨5,(t.rs.take i).map ruP ++ [ruP x]⟩ ⟨5,(t.rs.take (i+1)).map ruP⟩;rw [htk,Y0r];exact .same _ (by rw [<- Y1c,<- Y0r]; exact ZE _)
   . have hil : i = t.rs.length := by omega
     subst hil;rw [Y0q];refine Za (Zx (ob:=14) (id:=16) (i0:=0) (j0:=3) rfl rfl (by decide) (ZE t.rs) (Y0 rfl) (Y0 rfl) rfl) ?_;refine Qo (Qz rfl (Y4e _)) ?_
     repeat' (first|refine Z3v [] [(0,16)] [63,63,63,63,47,63] (by kernel_rfl) ?_|(first|refine st ?_|(apply B<;>intro hb<;>try cases hb)))
     exact Z8 rfl ⟨ZC t S,Yt,Yt⟩ ⟨S,rfl⟩
theorem Zf7 (p:List Nat) (fl:Bool) (hp:X4K p):X7 Tryz.prog 5 [.vec (bys p) fl] fun r=>∃ t S,X6V t/\r=.tup [.agg (pbP t S),.agg (pbR t),.val (.bool true)]:=by
 refine Yp ok5 fun C hC=>?_;refine gd 9 ⟨?_⟩;refine Zw rfl rfl (Zcv p fl hp) ⟨Zg p,Yt⟩ rfl ?_;rintro r ⟨t,ht,rfl⟩;have hpr:=Z22 t;refine gd 12 ⟨?_⟩;refine Zw rfl rfl (ZaH ht.ok) ⟨hpr,Yt⟩ rfl ?_;rintro r ⟨S,rfl⟩;have hpp:=ZC t S
 repeat' (first|refine Z3v [] [(0,8)] [63,63,63,55,63,63] (by kernel_rfl) ?_|(first|refine st ?_|(apply B<;>intro hb<;>try cases hb)))
 exact Z8 rfl ⟨hpp,hpr,Yt,Yt⟩ ⟨t,S,ht,rfl⟩
theorem Z9I {α:Type} (p:α->Bool) (xs:List α):(!xs.any fun x => !p x)=xs.all p:=by
 induction xs with
 | nil=>rfl
 | cons x xs ih=>rw [Y3i,Y4Q,Bool.not_or,ih,Bool.not_not]
theorem Z5a {n:Nat} {e:Env} {h:X2} {a:Operand} {l:List PV} (ha:ev e a=some (.agg l)) (hl:0<l.length):XH (.box a) e h n=some (.cp l,h):=by
 simp only [XH,ha];rw [Y6 (by show (true&&decide (0<l.length))=true; rw [Yw hl]; rfl)]
 rfl
theorem Z4k {α:Type} (xs:List α) (enc:α->List PV) (fl:Bool) (g:Nat) (caps:List PV) (p:α->Bool) (hl:∀ x,(enc x).length=5) (hp:∀ x,X5 (enc x)) (hc:X5 caps) (hg:∀ x∈xs,X7 Tryz.prog g (.agg (enc x) :: caps) (· = .val (.bool (p x)))) :
 X7 Tryz.prog 152 [.vec (xs.map enc) fl,.fn g caps] (· = .val (.int .i64 (X2L p xs))):=by
 refine Yp ok152 fun C hC=>?_;refine Z40 (k:=0) rfl fun hmax=>?_;have hnl:(xs.map enc).length=xs.length:=by simp
 have hlm:xs.length<=Xj:=by simpa using hmax
 refine go ?_;refine Z4A (fun i=>i<=xs.length/\(xs.take i).any p=false) (fun i=>xs.length-i) (fun i => [(0,.vec (xs.map enc) fl),(1,.fn g caps),(7,.val (.int .i64 (xs.length:Int))),(8,Yv i)]) 0 ⟨Y0l _,rfl⟩ ⟨rfl,rfl,by rw [<- hnl]; rfl,rfl,Yt⟩ ?_;rintro i ⟨hi,hno⟩;have hinc:IntKind.i64.wrap ((i:Int)+1)=((i+1:Nat):Int):=Y0v _ ⟨by omega,by simp only [Xj] at hlm; omega⟩;(refine go ?_;repeat' (apply B<;>intro hb<;>try cases hb))
 . have hil : i < xs.length := by simpa using hb
   refine Qo (Zl (xs:=xs) rfl rfl i rfl hil (hl _)) ?_;refine Qo (Z5v rfl (hl _)) ?_;refine Qe (hg _ (Y0j hil)) ⟨hp _,hc⟩ ?_;refine Z1M ?_;refine Z5Z rfl (fun hx=>?_) (fun hx=>?_)
   . refine go ?_;exact Z8 rfl Yt (by rw [Z64 hil hno hx])
   . (refine go ?_;repeat' (apply B<;>intro hb<;>try cases hb));exact⟨i+1,⟨by omega,Z4I hil hno hx⟩,by omega,rfl,rfl,⟨rfl,rfl,rfl,by show some _=some _; rw [hinc],Yt⟩⟩
 . have hil : i = xs.length := by simp at hb; omega
   subst hil;rw [Y0q] at hno;exact Z8 rfl Yt (by rw [Z2O hno]; rfl)
theorem Z5I {α:Type} (xs:List α) (enc:α->List PV) (fl:Bool) (g:Nat) (caps:List PV) (p:α->Bool) (hl:∀ x,(enc x).length=5) (hp:∀ x,X5 (enc x)) (hc:X5 caps) (hg:∀ x∈xs,X7 Tryz.prog g (.agg (enc x) :: caps) (· = .val (.bool (p x)))) :
 X7 Tryz.prog 118 [.vec (xs.map enc) fl,.fn g caps] (· = .val (.bool (xs.any p))):=by
 refine Yp ok118 fun C hC=>?_;refine go ?_;refine Qe (Z4k xs enc fl g caps p hl hp hc hg) ⟨Zb hp xs,hc,Yt⟩ ?_;refine Qo (Z4 rfl (Z5w (p:=p) (xs:=xs))) ?_;(refine go ?_;repeat' (apply B<;>intro hb<;>try cases hb))
 all_goals exact Z8 rfl Yt (by rw [hb])
theorem Z7E {α:Type} (xs:List α) (enc:α->List PV) (fl:Bool) (g:Nat) (caps:List PV) (p:α->Bool) (hl:∀ x,(enc x).length=2) (hp:∀ x,X5 (enc x)) (hc:X5 caps) (hg:∀ x∈xs,X7 Tryz.prog g (.agg (enc x) :: caps) (· = .val (.bool (p x)))) :
 X7 Tryz.prog 187 [.vec (xs.map enc) fl,.fn g caps] (· = .val (.int .i64 (X2L p xs))):=Z49 ok187 (by decide) xs enc fl g caps p hl hp hc hg
theorem Z5J {α:Type} (xs:List α) (enc:α->List PV) (fl:Bool) (g:Nat) (caps:List PV) (p:α->Bool) (hl:∀ x,(enc x).length=2) (hp:∀ x,X5 (enc x)) (hc:X5 caps) (hg:∀ x∈xs,X7 Tryz.prog g (.agg (enc x) :: caps) (· = .val (.bool (p x)))) :
 X7 Tryz.prog 149 [.vec (xs.map enc) fl,.fn g caps] (· = .val (.bool (xs.any p))):=by
 refine Yp ok149 fun C hC=>?_;refine go ?_;refine Qe (Z7E xs enc fl g caps p hl hp hc hg) ⟨Zb hp xs,hc,Yt⟩ ?_;refine Qo (Z4 rfl (Z5w (p:=p) (xs:=xs))) ?_;(refine go ?_;repeat' (apply B<;>intro hb<;>try cases hb))
 all_goals exact Z8 rfl Yt (by rw [hb])
theorem Zf8 {α:Type} (enc:α->List PV) (g:Nat) (caps:List PV) (p:α->Bool) (hl:∀ x,(enc x).length=5) (hp:∀ x,X5 (enc x)) (hc:X5 caps) (x:α) (hg:X7 Tryz.prog g (.agg (enc x) :: caps) (· = .val (.bool (p x)))) :
 X7 Tryz.prog 119 [.agg (enc x),.cp [.fn g caps]] (· = .val (.bool (!p x))):=by
 refine Yp ok119 fun C hC=>?_;refine Zm ?_;refine Z9 ?_;refine Z5 (Z5a rfl (by rw [hl]; decide)) rfl rfl ?_;refine gd 5 ⟨?_⟩;refine Qo (Z5v rfl (hl _)) ?_;refine Qe hg ⟨hp _,hc⟩ ?_;generalize p x=b;cases b
 all_goals
  (refine go ?_;repeat' (apply B<;>intro hb<;>try cases hb));exact Z8 rfl Yt rfl
theorem ZaI {α:Type} (xs:List α) (enc:α->List PV) (fl:Bool) (g:Nat) (caps:List PV) (p:α->Bool) (hl:∀ x,(enc x).length=5) (hp:∀ x,X5 (enc x)) (hc:X5 caps) (hg:∀ x∈xs,X7 Tryz.prog g (.agg (enc x) :: caps) (· = .val (.bool (p x)))) :
 X7 Tryz.prog 57 [.vec (xs.map enc) fl,.fn g caps] (· = .val (.bool (xs.all p))):=by
 have hcs:X5 [PV.cp [PV.fn g caps]]:=⟨⟨hc,Yt⟩,Yt⟩
 have h1:=Z5I xs enc fl 119 [.cp [.fn g caps]] (fun x => !p x) hl hp hcs fun x hx=>Zf8 enc g caps p hl hp hc x (hg x hx);rw [<- Z9I];refine Yp ok57 fun C hC=>?_;refine Zm ?_;refine Z9 ?_;refine Z5 rfl rfl rfl ?_;refine gd 7 ⟨?_⟩;refine Qe h1 ⟨Zb hp xs,hcs,Yt⟩ ?_;generalize (xs.any fun x => !p x)=b;cases b
 all_goals
  (refine go ?_;repeat' (apply B<;>intro hb<;>try cases hb));exact Z8 rfl Yt rfl
theorem Zf9 {α:Type} (enc:α->List PV) (g:Nat) (caps:List PV) (p:α->Bool) (hl:∀ x,(enc x).length=2) (hp:∀ x,X5 (enc x)) (hc:X5 caps) (x:α) (hg:X7 Tryz.prog g (.agg (enc x) :: caps) (· = .val (.bool (p x)))) :
 X7 Tryz.prog 150 [.agg (enc x),.cp [.fn g caps]] (· = .val (.bool (!p x))):=by
 refine Yp ok150 fun C hC=>?_;refine Zm ?_;refine Z9 ?_;refine Z5 (Z5a rfl (by rw [hl]; decide)) rfl rfl ?_;refine gd 5 ⟨?_⟩;refine Qo (Z5v rfl (hl _)) ?_;refine Qe hg ⟨hp _,hc⟩ ?_;generalize p x=b;cases b
 all_goals
  refine go ?_;exact Z8 rfl Yt rfl
theorem Zh8 {α:Type} (xs:List α) (enc:α->List PV) (fl:Bool) (g:Nat) (caps:List PV) (p:α->Bool) (hl:∀ x,(enc x).length=2) (hp:∀ x,X5 (enc x)) (hc:X5 caps) (hg:∀ x∈xs,X7 Tryz.prog g (.agg (enc x) :: caps) (· = .val (.bool (p x)))) :
 X7 Tryz.prog 112 [.vec (xs.map enc) fl,.fn g caps] (· = .val (.bool (xs.all p))):=by
 have hcs:X5 [PV.cp [PV.fn g caps]]:=⟨⟨hc,Yt⟩,Yt⟩
 have h1:=Z5J xs enc fl 150 [.cp [.fn g caps]] (fun x => !p x) hl hp hcs fun x hx=>Zf9 enc g caps p hl hp hc x (hg x hx);rw [<- Z9I];refine Yp ok112 fun C hC=>?_;refine Zm ?_;refine Z9 ?_;refine Z5 rfl rfl rfl ?_;refine gd 7 ⟨?_⟩;refine Qe h1 ⟨Zb hp xs,hcs,Yt⟩ ?_;generalize (xs.any fun x => !p x)=b;cases b
 all_goals
  refine go ?_;exact Z8 rfl Yt rfl
theorem Zfa {α:Type} (enc:α->List PV) (g:Nat) (caps:List PV) (p:α->Bool) (hl:∀ x,(enc x).length=2) (hp:∀ x,X5 (enc x)) (hc:X5 caps) (x:α) (hg:X7 Tryz.prog g (.agg (enc x) :: caps) (· = .val (.bool (p x)))) :
 X7 Tryz.prog 151 [.agg (enc x),.cp [.fn g caps]] (· = .val (.bool (!p x))):=by
 refine Yp ok151 fun C hC=>?_;refine Zm ?_;refine Z9 ?_;refine Z5 (Z5a rfl (by rw [hl]; decide)) rfl rfl ?_;refine gd 5 ⟨?_⟩;refine Qo (Z5v rfl (hl _)) ?_;refine Qe hg ⟨hp _,hc⟩ ?_;generalize p x=b;cases b
 all_goals
  refine go ?_;exact Z8 rfl Yt rfl
theorem Zh9 {α:Type} (xs:List α) (enc:α->List PV) (fl:Bool) (g:Nat) (caps:List PV) (p:α->Bool) (hl:∀ x,(enc x).length=2) (hp:∀ x,X5 (enc x)) (hc:X5 caps) (hg:∀ x∈xs,X7 Tryz.prog g (.agg (enc x) :: caps) (· = .val (.bool (p x)))) :
 X7 Tryz.prog 116 [.vec (xs.map enc) fl,.fn g caps] (· = .val (.bool (xs.all p))):=by
 have hcs:X5 [PV.cp [PV.fn g caps]]:=⟨⟨hc,Yt⟩,Yt⟩
 have h1:=Z1x xs enc fl 151 [.cp [.fn g caps]] (fun x => !p x) hl hp hcs fun x hx=>Zfa enc g caps p hl hp hc x (hg x hx);rw [<- Z9I];refine Yp ok116 fun C hC=>?_;refine Zm ?_;refine Z9 ?_;refine Z5 rfl rfl rfl ?_;refine gd 7 ⟨?_⟩;refine Qe h1 ⟨Zb hp xs,hcs,Yt⟩ ?_;generalize (xs.any fun x => !p x)=b;cases b
 all_goals
  refine go ?_;exact Z8 rfl Yt rfl
abbrev RI:=Bool×Cu×Int×Int
def ruI (x:RI):List PV := [.val (.bool x.1),.vec (X4 (Xb x.2.1.1)) false,.vec (X4 (Xb x.2.1.2)) false,.val (.int .i64 x.2.2.1),.val (.int .i64 x.2.2.2)]
def toI (r:RU):RI:=(r.rev,r.cu,(r.tg:Int),(r.og:Int))
theorem Z9J (x:RI):X5 (ruI x):=⟨Yt,Z7 _,Z7 _,Yt,Yt,Yt⟩
theorem Z4l (l:List RI):X1 (l.map ruI):=Zb Z9J l
noncomputable def X5p (n:Int) (l:List Pr) (S:List Nat) (s0:Nat) (rs:List RI) (nv gl:List Cu):List PV := [.val (.int .i64 n),X16 l S,.vec (X4 (Xb s0)) false,.vec (rs.map ruI) false,.vec (nv.map cuC) false,.vec (gl.map cuC) false]
theorem Z7F (n:Int) (l:List Pr) (S:List Nat) (s0:Nat) (rs:List RI) (nv gl:List Cu):X5 (X5p n l S s0 rs nv gl):=⟨Yt,Zo _ _,Z7 _,Z4l _,Z11 _,Z11 _,Yt⟩
theorem ZmB (t:PB) (S:List Nat):pbP t S=X5p t.n t.l S t.st (t.rs.map toI) t.nv t.gl:=by
 unfold pbP X5p;rw [Y2o]; rfl
def X3w (rs:List RI) (nv gl:List Cu):List Cu:=rs.map (·.2.1)++nv++gl
theorem Z8M (n:Int) (l:List Pr) (S:List Nat) (s0:Nat) (rs:List RI) (nv gl:List Cu) (h1:rs.length<=10000) (h2:nv.length<=10000) (h3:gl.length<=10000):X7 Tryz.prog 55 [.agg (X5p n l S s0 rs nv gl)] (· = .vec ((X3w rs nv gl).map cuC) false):=by
 have hpp:=Z7F n l S s0 rs nv gl;have hrl:(rs.map ruI).length=rs.length:=by simp
 refine Yp ok55 fun C hC=>?_;refine Zm ?_;refine Z9 ?_;refine Z5 rfl rfl rfl ?_
 repeat' (first|refine Za (Zy (k:=3) rfl 2 (by decide)) ?_|(first|refine st ?_|(apply B<;>intro hb<;>try cases hb)))
 refine Zv hC (fun (i:Nat)=>i<=rs.length) (fun i=>rs.length-i) 1 (fun i => [(1,.cp (X5p n l S s0 rs nv gl)),(3,.own 0),(7,.vec (rs.map ruI) false),(8,.val (.int .i64 (rs.length:Int))),(9,Yv i)])
  (fun i => [(0,⟨2,((rs.take i).map (·.2.1)).map cuC⟩)]) (Y0l _) 0 (Y0l _) (fun i=>i) (fun _ _=>rfl) Zf
  ⟨Qp hpp,⟨_,rfl,.own 0 (by decide)⟩,Qp (Z4l _),⟨_,by rw [<- hrl]; rfl,.pure _ Yt⟩,Qp Yt,Yt⟩ ⟨Qs Yt,Yt⟩ ?_
 intro i hi;have hinc:IntKind.i64.wrap ((i:Int)+1)=((i+1:Nat):Int):=Y0v _ ⟨by omega,by omega⟩
 iterate 2 (first|refine st ?_|(apply B<;>intro hb<;>try cases hb))
 refine Zt rfl rfl rfl (fun hb=>?_) (fun hb=>?_)
 . have hil : i < rs.length := by have := Y0u hb; omega
   have htake:=ZR hil;clear hb;refine go ?_;refine Qo (Zl (xs:=rs) (g:=ruI) rfl rfl i rfl hil rfl) ?_;generalize rs[i]=x at htake ⊢;refine gd 17 ⟨?_⟩
   refine ZH (Zu (k:=0) (m := [cuC x.2.1]) (fl:=true) rfl rfl rfl (fun c hc=>by rw [Y0g] at hc; subst hc; rfl) rfl (by
    show ((((rs.take i).map (·.2.1)).map cuC).length+1)*48<=_;rw [Y0f,Y0f,Y0o]
    omega)) rfl rfl ?_
   refine go ?_
   refine⟨i+1,mv 0 2,by omega,by omega,fun i hi=>absurd hi (Ye i),Zq rfl,
    ⟨Qp hpp,⟨_,rfl,.own 0 (by decide)⟩,Qp (Z4l _),Qp Yt,⟨_,by show some _=some _; rw [hinc],.pure _ Yt⟩,Yt⟩,
    ⟨⟨by decide,_,rfl,?_⟩,Yt⟩⟩
   show Xw _ _ ⟨2,((rs.take i).map (·.2.1)).map cuC ++ [cuC x.2.1]⟩ ⟨2,((rs.take (i+1)).map (·.2.1)).map cuC⟩;rw [htake,Y0r,Y0r];exact .same _ (by show X1 (((rs.take i).map (·.2.1)).map cuC ++ [x.2.1].map cuC); rw [<- Y0r]; exact Z1 _)
 . have hil : i = rs.length := by have := YC hb; omega
   subst hil;clear hb;rw [Y0q]
   repeat' (first|refine Z3v [6] [(0,8)] [255,255,255,247,255,255,255,255] (by kernel_rfl) ?_|refine Z9d 22 ?_|(first|refine st ?_|(apply B<;>intro hb<;>try cases hb)))
   refine At.mk ?_
   refine Qr (Zu (k:=0) (m:=nv.map cuC) (fl:=false) rfl rfl rfl (fun c hc=>by obtain⟨x,_,rfl⟩:=Y0i.1 hc; rfl) rfl (by
    show (((rs.map (·.2.1)).map cuC).length+(nv.map cuC).length)*48<=_
    rw [Y0f,Y0f,Y0f];omega)) ?_
   have happ:((rs.map (·.2.1)).map cuC++nv.map cuC)++gl.map cuC=(X3w rs nv gl).map cuC:=by
    unfold X3w;rw [Y0r,Y0r]
   refine gd 25 ⟨?_⟩
   refine ZbM (k:=4) (m:=gl.map cuC) (fl:=false) (b:=⟨2,(rs.map (·.2.1)).map cuC++nv.map cuC⟩) rfl rfl rfl (fun c hc=>by obtain⟨x,_,rfl⟩:=Y0i.1 hc; rfl) rfl (by
    show ((((rs.map (·.2.1)).map cuC)++nv.map cuC).length+(gl.map cuC).length)*48<=_
    rw [Y0e,Y0f,Y0f,Y0f,Y0f];omega) (by show X1 (((rs.map (·.2.1)).map cuC++nv.map cuC)++gl.map cuC); rw [happ]; exact Z1 _) rfl rfl ?_
   refine go ?_;refine Z8 (r:=.vec (((rs.map (·.2.1)).map cuC++nv.map cuC)++gl.map cuC) false) rfl ?_ ?_
   . rw [happ]; exact Z1 _
   . rw [happ]
theorem Zcw (m:Nat) (hm:m<18446744073709551616) (p:Pr):X7 Tryz.prog 114 [.agg (prC p),.cp [.vec (X4 (Xb m)) false]] (· = .val (.bool (m.testBit p.1&&m.testBit p.2))):=by
 refine Yp ok114 fun C hC=>?_;refine Zm ?_;refine Z9 ?_;refine Z5 rfl rfl rfl ?_;refine gd 7 ⟨?_⟩;refine Qe (Z1p m hm p.1) ⟨Z2 _,Yt,Yt⟩ ?_;generalize m.testBit p.1=b;cases b
 . refine go ?_;exact Z8 rfl Yt rfl
 . refine gd 12 ⟨?_⟩;refine Zn rfl ?_;refine Qe (Z1p m hm p.2) ⟨Z2 _,Yt,Yt⟩ ?_;generalize m.testBit p.2=b;cases b
   all_goals
    refine go ?_;exact Z8 rfl Yt rfl
theorem Zcx (m:Nat) (hm:m<18446744073709551616) (x:RI):X7 Tryz.prog 115 [.agg (ruI x),.cp [.vec (X4 (Xb m)) false]] (· = .val (.bool (decide (0<=x.2.2.1)&&m.testBit x.2.2.1.toNat))):=by
 refine Yp ok115 fun C hC=>?_;refine Zm ?_;refine Z9 ?_;refine Z5 rfl rfl rfl ?_;refine gd 7 ⟨?_⟩;refine Qe (Z1Y m hm x.2.2.1) ⟨Z2 _,Yt,Yt⟩ ?_;generalize (decide (0<=x.2.2.1)&&m.testBit x.2.2.1.toNat)=b;cases b
 all_goals
  refine go ?_;exact Z8 rfl Yt rfl
theorem Zcy (m:Nat) (hm:m<18446744073709551616) (c:Cu) (hc:Xy c):X7 Tryz.prog 117 [.agg (cuC c),.cp [.vec (X4 (Xb m)) false]] (· = .val (.bool (decide (c.1 ||| c.2 ||| m=m)))):=by
 refine Yp ok117 fun C hC=>?_;refine Zm ?_;refine Z9 ?_;refine Z5 rfl rfl rfl ?_;refine gd 8 ⟨?_⟩;refine Qd (Z1w c.1 c.2 hc.1 hc.2) ⟨Z2 _,Z2 _,Yt⟩ ?_;refine gd 10 ⟨?_⟩;refine Qd (Z1z (c.1 ||| c.2) m (Z1S hc.1 hc.2) hm) ⟨Z2 _,Z2 _,Yt⟩ ?_;generalize decide (c.1 ||| c.2 ||| m=m)=b;cases b
 all_goals
  refine go ?_;exact Z8 rfl Yt rfl
def knB (m:Nat) (l:List Pr) (s0:Nat) (rs:List RI) (cs:List Cu):Bool:=decide (s0 ||| m=m)&&(l.all (fun p=>m.testBit p.1&&m.testBit p.2)&&(rs.all (fun x=>decide (0<=x.2.2.1)&&m.testBit x.2.2.1.toNat)&&cs.all fun c=>decide (c.1 ||| c.2 ||| m=m)))
structure X7p (l:List Pr) (s0:Nat) (rs:List RI) (nv gl:List Cu):Prop where
 fl:l.length<=10000
 fs:s0<18446744073709551616
 fr:rs.length<=10000
 fv:nv.length<=10000
 fg:gl.length<=10000
 fc:∀ c∈X3w rs nv gl,Xy c
theorem Zfb (n:Nat) (h1:1<=n) (h2:n<=63) (l:List Pr) (S:List Nat) (s0:Nat) (rs:List RI) (nv gl:List Cu) (hf:X7p l s0 rs nv gl):X7 Tryz.prog 54 [.agg (X5p (n:Int) l S s0 rs nv gl)] (· = .val (.bool (knB (mkN n) l s0 rs (X3w rs nv gl)))):=by
 have hp1:2 ^ (n+1)<=2 ^ 64:=YJ (by decide) (by omega);have hp0:=Y2X (n+1);have hmk:=Z5E h2;have hinc0:IntKind.i64.wrap ((n:Int)+1)=((n+1:Nat):Int):=Y0v _ ⟨by omega,by omega⟩;have hbw:=Z1E (2 ^ (n+1)-1) (by omega) 0;rw [Z5F n h2] at hbw;have hw:=Z1z s0 (mkN n) hf.fs hmk;have hc1:X5 [PV.vec (X4 (Xb (mkN n))) false]:=⟨Z7 _,Yt⟩
 have hcc:X5 [PV.cp [PV.vec (X4 (Xb (mkN n))) false]]:=⟨hc1,Yt⟩
 have hl:=Z8I l S (by have:=hf.fl;omega);have ha1:=Zh8 l prC false 114 [.cp [.vec (X4 (Xb (mkN n))) false]] _ (fun _=>rfl) (fun x=>Z4F x) hcc fun p _=>Zcw (mkN n) hmk p;have ha2:=ZaI rs ruI false 115 [.cp [.vec (X4 (Xb (mkN n))) false]] _ (fun _=>rfl) Z9J hcc fun p _=>Zcx (mkN n) hmk p;have hcb:=Z8M (n:Int) l S s0 rs nv gl hf.fr hf.fv hf.fg;have ha3:=Zh9 (X3w rs nv gl) cuC false 117 [.cp [.vec (X4 (Xb (mkN n))) false]] _ (fun _=>rfl) Zh hcc fun p hp=>Zcy (mkN n) hmk p (hf.fc p hp);have hpp:=Z7F (n:Int) l S s0 rs nv gl;refine Yp ok54 fun C hC=>?_;refine Zm ?_;refine Z9 ?_;refine Z5 rfl rfl rfl ?_;refine gd 6 ⟨?_⟩;refine Ze rfl rfl rfl hinc0 ?_;refine Qe (Z6b (n+1) (by omega) (by omega)) ⟨Yt,Yt⟩ ?_;refine Qe hbw ⟨Z2 _,Yt,Yt⟩ ?_;refine gd 9 ⟨?_⟩;refine Za (Z1s (k:=3) rfl rfl hc1) ?_;refine gd 12 ⟨?_⟩;refine Qe hw ⟨Z2 _,Z2 _,Yt⟩ ?_;unfold knB;generalize decide (s0 ||| mkN n=mkN n)=b1;cases b1
 . refine go ?_;exact Z8 rfl Yt rfl
 refine gd 16 ⟨?_⟩;refine Zn rfl ?_;refine Qe hl ⟨Zo _ _,Yt⟩ ?_;refine gd 18 ⟨?_⟩;refine Zn rfl ?_;refine Qe ha1 ⟨Zk l,hcc,Yt⟩ ?_;generalize (l.all fun p=>(mkN n).testBit p.1&&(mkN n).testBit p.2)=b2;cases b2
 . refine go ?_;exact Z8 rfl Yt rfl
 refine gd 24 ⟨?_⟩;refine Zn rfl ?_;refine Qe ha2 ⟨Z4l rs,hcc,Yt⟩ ?_;generalize (rs.all fun x=>decide (0<=x.2.2.1)&&(mkN n).testBit x.2.2.1.toNat)=b3;cases b3
 . refine go ?_;exact Z8 rfl Yt rfl
 refine gd 28 ⟨?_⟩;refine Zn rfl ?_;refine Qe hcb ⟨hpp,Yt⟩ ?_;refine gd 30 ⟨?_⟩;refine Zn rfl ?_;refine Qe ha3 ⟨Z1 _,hcc,Yt⟩ ?_;generalize ((X3w rs nv gl).all fun c=>decide (c.1 ||| c.2 ||| mkN n=mkN n))=b4;cases b4
 all_goals
  refine go ?_;exact Z8 rfl Yt rfl
def X5F (x:RI):Bool := !x.1||(decide (x.2.1.1=0)&&decide (x.2.1.2=0))
theorem Zcz (x:RI) (hc:Xy x.2.1):X7 Tryz.prog 53 [.agg (ruI x)] (· = .val (.bool (X5F x))):=by
 obtain⟨rv,c,tg,og⟩:=x;have e1:=Z3o c.1 hc.1;have e2:=Z3o c.2 hc.2;unfold X5F;refine Yp ok53 fun C hC=>?_;refine Zm ?_;refine Z9 ?_;refine Z5 rfl rfl rfl ?_;cases rv
 . refine go ?_;exact Z8 rfl Yt rfl
 refine gd 10 ⟨?_⟩;refine Zn rfl ?_;refine Qe e1 ⟨Z2 _,Yt⟩ ?_;dsimp only;generalize decide (c.1=0)=b1;cases b1
 . refine go ?_;exact Z8 rfl Yt rfl
 refine gd 15 ⟨?_⟩;refine Zn rfl ?_;refine Qe e2 ⟨Z2 _,Yt⟩ ?_;generalize decide (c.2=0)=b2;cases b2
 all_goals
  refine go ?_;exact Z8 rfl Yt rfl
theorem Zfc (n:Int) (l:List Pr) (S:List Nat) (s0:Nat) (rs:List RI) (nv gl:List Cu) (h64:∀ c∈nv,Xy c) (s:Nat) (hs:s<18446744073709551616):X7 Tryz.prog 58 [.agg (X5p n l S s0 rs nv gl),XG s] (· = .val (.bool (!soC nv (clo l s)))):=by
 have hc:=Z2n l S s hs;have hso:=Z65 nv false (clo l s) h64 (Z5A _ _);refine Yp ok58 fun C hC=>?_;refine Zm ?_;refine Z9 ?_;refine Z5 rfl rfl rfl ?_;refine Z5 rfl rfl rfl ?_;refine gd 14 ⟨?_⟩;refine Z2d rfl ?_;refine Qd hc ⟨Zo _ _,Z2 _,Yt⟩ ?_;refine gd 15 ⟨?_⟩;refine Z2d rfl ?_;refine Qd hso ⟨Z11 _,Z2 _,Yt⟩ ?_;generalize soC nv (clo l s)=b;cases b
 all_goals
  refine go ?_;exact Z8 rfl Yt rfl
noncomputable def X6S (n:Int) (l:List Pr) (s0:Nat) (rs:List RI) (nv gl:List Cu):Int :=
 if n<1 \/ 63<n then 1 else
 if 64<rs.length \/ 2000<nv.length \/ 2000<gl.length then 3 else
 if knB (mkN n.toNat) l s0 rs (X3w rs nv gl)=false then 4 else
 if (X3w rs nv gl).any emC=true \/ rs.all X5F=false then 6 else
 if soC nv (clo l s0)=true then 7 else 0
theorem ZcA (n:Int) (l:List Pr) (S:List Nat) (s0:Nat) (rs:List RI) (nv gl:List Cu) (hf:X7p l s0 rs nv gl):X7 Tryz.prog 18 [.agg (X5p n l S s0 rs nv gl)] (· = .val (.int .i64 (X6S n l s0 rs nv gl))):=by
 have hpp:=Z7F n l S s0 rs nv gl;have hr1:(rs.map ruI).length=rs.length:=by simp
 have hr2:(nv.map cuC).length=nv.length:=by simp
 have hr3:(gl.map cuC).length=gl.length:=by simp
 have hcb:=Z8M n l S s0 rs nv gl hf.fr hf.fv hf.fg;have hn64:∀ c∈nv,Xy c:=fun c hc=>hf.fc c (Y0h.2 (.inl (Y0h.2 (.inr hc))));have hr64:∀ x∈rs,Xy x.2.1:=fun x hx=>hf.fc _ (Y0h.2 (.inl (Y0h.2 (.inl (Y0i.2 ⟨x,hx,rfl⟩)))));have hce:=Z1x (X3w rs nv gl) cuC false 56 [] emC (fun _=>rfl) Zh Yt fun c hc=>Z1f c (hf.fc c hc);have har:=ZaI rs ruI false 53 [] X5F (fun _=>rfl) Z9J Yt fun x hx=>Zcz x (hr64 x hx);have hgo:=Zfc n l S s0 rs nv gl hn64 s0 hf.fs;unfold X6S;refine Yp ok18 fun C hC=>?_;refine Zm ?_;refine Z9 ?_;refine Z5 rfl rfl rfl ?_;refine gd 11 ⟨?_⟩;refine Zn rfl ?_;by_cases h1:n<1
 . rw [Y6 (.inl h1)];refine Qo (Qy rfl h1) ?_;refine go ?_;exact Z8 rfl Yt rfl
 refine Qo (Qz rfl h1) ?_;refine gd 16 ⟨?_⟩;refine Zn rfl ?_;by_cases h2:63<n
 . rw [Y6 (.inr h2)];refine Qo (Qy rfl h2) ?_;refine go ?_;exact Z8 rfl Yt rfl
 refine Qo (Qz rfl h2) ?_;rw [Y8 (show ¬ (n<1 \/ 63<n) by omega)];refine gd 22 ⟨?_⟩;by_cases h3:64<rs.length
 . rw [Y6 (.inl h3)];refine Qo (Qy rfl (by rw [hr1];omega)) ?_;refine go ?_;exact Z8 rfl Yt rfl
 refine Qo (Qz rfl (by rw [hr1];omega)) ?_;refine gd 27 ⟨?_⟩;refine Zn rfl ?_;by_cases h4:2000<nv.length
 . rw [Y6 (.inr (.inl h4))];refine Qo (Qy rfl (by rw [hr2];omega)) ?_;refine go ?_;exact Z8 rfl Yt rfl
 refine Qo (Qz rfl (by rw [hr2];omega)) ?_;refine gd 33 ⟨?_⟩;refine Zn rfl ?_;by_cases h5:2000<gl.length
 . rw [Y6 (.inr (.inr h5))];refine Qo (Qy rfl (by rw [hr3];omega)) ?_;refine go ?_;exact Z8 rfl Yt rfl
 refine Qo (Qz rfl (by rw [hr3];omega)) ?_;rw [Y8 (show ¬ (64<rs.length \/ 2000<nv.length \/ 2000<gl.length) by omega)];obtain⟨k,rfl⟩:∃ k:Nat,n=(k:Int):=⟨n.toNat,by omega⟩
 have hkn:=Zfb k (by omega) (by omega) l S s0 rs nv gl hf;rw [YZ];refine gd 37 ⟨?_⟩;refine Qe hkn ⟨hpp,Yt⟩ ?_;generalize knB (mkN k) l s0 rs (X3w rs nv gl)=b1;cases b1
 . rw [Y6 rfl];refine go ?_;exact Z8 rfl Yt rfl
 rw [Y8 (by decide)];refine gd 41 ⟨?_⟩;refine Qe hcb ⟨hpp,Yt⟩ ?_;refine Qe hce ⟨Z1 _,Yt,Yt⟩ ?_;generalize (X3w rs nv gl).any emC=b2;cases b2
 case true =>
  rw [Y6 (.inl rfl)];refine go ?_;exact Z8 rfl Yt rfl
 refine gd 47 ⟨?_⟩;refine Zn rfl ?_;refine Qe har ⟨Z4l rs,Yt,Yt⟩ ?_;generalize rs.all X5F=b3;cases b3
 . rw [Y6 (.inr rfl)];refine go ?_;exact Z8 rfl Yt rfl
 rw [Y8 (by simp)];refine gd 54 ⟨?_⟩;refine Qe hgo ⟨hpp,Z2 _,Yt⟩ ?_;generalize soC nv (clo l s0)=b4;cases b4
 . rw [Y8 (by decide)];refine go ?_;exact Z8 rfl Yt rfl
 . rw [Y6 rfl];refine go ?_;exact Z8 rfl Yt rfl
theorem ZkT {t:PB} (h:Xo t):X7p t.l t.st (t.rs.map toI) t.nv t.gl:=by
 have h1:=h.rl;have h2:=h.nl;have h3:=h.gk;refine⟨Y03 (ZdV h.good) (by decide),?_,by rw [Y0f]; omega,by omega,by omega,fun c hc=>?_⟩
 . have h1 : t.st <= mkN t.n := by rw [<- h.st]; exact YN
   have:=Z5E h.n.2;omega
 . unfold X3w at hc;rw [Y0h,Y0h,Y2o,Y0i] at hc;rcases hc with (⟨x,hx,rfl⟩|hc)|hc
   . exact (h.rs x hx).cu.lt h.n.2
   . exact h.nv64 c hc
   . exact h.gl64 c hc
theorem ZlX {n:Nat} {c:Cu} (h:InC n c):c.1 ||| c.2 ||| mkN n=mkN n:=by rw [Y3t,h.n,h.y]
theorem ZdW {t:PB} (h:Xo t):∀ c∈X3w (t.rs.map toI) t.nv t.gl,InC t.n c:=fun c hc=>by
 unfold X3w at hc;rw [Y0h,Y0h,Y2o,Y0i] at hc;rcases hc with (⟨x,hx,rfl⟩|hc)|hc
 . exact (h.rs x hx).cu
 . exact (h.nv c hc).1
 . exact (h.gl c hc).1
theorem ZlY {t:PB} (h:Xo t):X6S t.n t.l t.st (t.rs.map toI) t.nv t.gl=0:=by
 have hn:=h.n;have h1:=h.rl;have h2:=h.nl;have h3:=h.gk;unfold X6S;rw [Y8 (by omega),Y8 (by rw [Y0f];omega),YZ];have hk:knB (mkN t.n) t.l t.st (t.rs.map toI) (X3w (t.rs.map toI) t.nv t.gl)=true:=by
  unfold knB;rw [Yw h.st,Y1g,Y0k,Y0k,YK,YK,YK];refine⟨fun p hp=>?_,fun x hx=>?_,fun c hc=>Yw (ZlX (ZdW h c hc))⟩
  . have ha := h.lk p hp;have hb:=h.good.role p hp;rw [Z21,Z21,Yw (show 1<=p.1 by omega),Yw ha.1,Yw (show 1<=p.2 by omega),Yw ha.2.1]; rfl
  . obtain ⟨r, hr, rfl⟩ := Y0i.1 hx;have ht:=(h.rs r hr).tg;show (decide (0<=(r.tg:Int))&&(mkN t.n).testBit (r.tg:Int).toNat)=true;rw [YZ,Yw (Y1Y _),Z21,Yw ht.1,Yw ht.2.1]; rfl
 rw [hk,Y8 (by decide)];have he:(X3w (t.rs.map toI) t.nv t.gl).any emC=false:=Yy.2 fun h0=>by
  obtain⟨c,hc,h1⟩:=Y01.1 h0;rw [(ZdW h c hc).e] at h1; cases h1
 have hr:(t.rs.map toI).all X5F=true:=by
  rw [YK];intro x hx;obtain⟨r,hr,rfl⟩:=Y0i.1 hx;unfold X5F;show (!r.rev||(decide (r.cu.1=0)&&decide (r.cu.2=0)))=true;cases hv:r.rev with
  | false=>rfl
  | true=>rw [(h.rs r hr).rv hv]; rfl
 rw [he,hr,Y8 (by simp),h.sg,Y8 (by decide)]
theorem Z2i {t:PB} (h:Xo t) (S:List Nat):X7 Tryz.prog 18 [.agg (pbP t S)] (· = .val (.int .i64 0)):=by
 have:=ZcA t.n t.l S t.st (t.rs.map toI) t.nv t.gl (ZkT h)
 rwa [ZlY h,<- ZmB] at this
noncomputable def X13 (t:PB) (l:List Cu):List Cu:=l.flatMap (exL t.l t.n)
def X1k (bad l:List Cu):List Cu:=l.flatMap (X34 bad)
theorem Z5K {α:Type} {f:α->List Cu} {k:Nat}:∀ {l:List α},(∀ x∈l,(f x).length<=k)->(l.flatMap f).length<=k*l.length
 | [],_=>by simp
 | x :: l, h => by
   rw [Y1T,Y0e,Y04,Nat.mul_succ];have h1:=h x (Y0t ..);have h2:=Z5K (l:=l) fun y hy=>h y (YB _ hy);omega
theorem Z6c {t:PB} (h:Xo t) (l:List Cu) (hl:∀ c∈l,InC t.n c/\InM 62 c):(X13 t l).length<=64*l.length:=Z5K fun c hc=>(Z8L h (hl c hc).2).2.2.1
theorem Z9K {l:List Cu} {c:Cu} (hl:∀ b∈l,InM 62 b) (hc:InM 62 c):Dis (X34 l c)/\(∀ c'∈X34 l c,InM 62 c')/\(X34 l c).length<=64:=by
 have h1:=Zh5 (m:=62) (by decide) hl hc l.length;have he:X4d l c l.length=X34 l c:=by unfold X4d X34; rw [Y0q]
 rw [he] at h1;exact⟨h1.1,h1.2,Zcq h1.1 h1.2 (by decide)⟩
theorem Z6d {bad:List Cu} (hb:∀ b∈bad,InM 62 b) (l:List Cu) (hl:∀ c∈l,InM 62 c):(X1k bad l).length<=64*l.length:=Z5K fun c hc=>(Z9K hb (hl c hc)).2.2
theorem Z6t {t:PB} (h:Xo t) (S:List Nat) (l:List Cu) (fl:Bool) (hl:∀ c∈l,InC t.n c/\InM 62 c) (hlen:l.length<=10000):X7 Tryz.prog 157 [.agg (pbP t S),.vec (l.map cuC) fl] (· = .tup [.vec ((X13 t l).map cuC) false,.val (.int .i64 0)]):=by
 have hnl:(l.map cuC).length=l.length:=by simp
 have hpp:=ZC t S;refine Yp ok157 fun C hC=>?_;refine Zm ?_;refine Z9 ?_;refine Z5 rfl rfl rfl ?_
 repeat' (first|refine Za (Zy (k:=6) rfl 2 (by decide)) ?_|(first|refine st ?_|(apply B<;>intro hb<;>try cases hb)))
 refine Zv hC (fun (i:Nat)=>i<=l.length) (fun i=>l.length-i) 1 (fun i => [(2,.cp (pbP t S)),(6,.own 0),(11,.vec (l.map cuC) fl),(12,.val (.int .i64 (l.length:Int))),(13,Yv i)])
  (fun i => [(0,⟨2,(X13 t (l.take i)).map cuC⟩)]) (Y0l _) 0 (Y0l _) (fun i=>i) (fun _ _=>rfl) Zf
  ⟨Qp hpp,⟨_,rfl,.own 0 (by decide)⟩,Qp (Z1 _),⟨_,by rw [<- hnl]; rfl,.pure _ Yt⟩,Qp Yt,Yt⟩ ⟨Qs Yt,Yt⟩ ?_
 intro i hi;have hinc:IntKind.i64.wrap ((i:Int)+1)=((i+1:Nat):Int):=Y0v _ ⟨by omega,by omega⟩
 iterate 2 (first|refine st ?_|(apply B<;>intro hb<;>try cases hb))
 refine Zt rfl rfl rfl (fun hb=>?_) (fun hb=>?_)
 . have hil : i < l.length := by have := Y0u hb; omega
   have htake:=ZR hil;clear hb;have hci:=hl _ (Y0j hil);have hacc:=Z6c h (l.take i) (fun c hc=>hl c (YM hc));rw [Y0o] at hacc;refine go ?_;refine Qo (Zl (xs:=l) (g:=cuC) rfl rfl i rfl hil rfl) ?_;generalize l[i]=x at htake hci ⊢;have hone:=(Z8L h hci.2).2.2.1;have hsn:X13 t (l.take (i+1))=X13 t (l.take i)++exL t.l t.n x:=by rw [htake]; unfold X13; rw [Y1K]; simp
   generalize X13 t (l.take i)=acc at hacc hsn ⊢;refine gd 20 ⟨?_⟩;refine Qe (Z5G h S x hci.1 hci.2) ⟨hpp,ZA _,Yt⟩ ?_;refine gd 28 ⟨?_⟩
   refine ZH (Zu (k:=0) (m:=(exL t.l t.n x).map cuC) (fl:=false) rfl rfl rfl (fun c hc=>by obtain⟨y,_,rfl⟩:=Y0i.1 hc; rfl) rfl (by
    show ((acc.map cuC).length+((exL t.l t.n x).map cuC).length)*48<=_;rw [Y0f,Y0f]
    omega)) rfl rfl ?_
   refine go ?_
   refine⟨i+1,mv 0 2,by omega,by omega,fun i hi=>absurd hi (Ye i),Zq rfl,
    ⟨Qp hpp,⟨_,rfl,.own 0 (by decide)⟩,Qp (Z1 _),Qp Yt,⟨_,by show some _=some _; rw [hinc],.pure _ Yt⟩,Yt⟩,
    ⟨⟨by decide,_,rfl,?_⟩,Yt⟩⟩
   show Xw _ _ ⟨2,acc.map cuC++(exL t.l t.n x).map cuC⟩ ⟨2,(X13 t (l.take (i+1))).map cuC⟩;rw [hsn,Y0r];exact .same _ (by rw [<- Y0r]; exact Z1 _)
 . have hil : i = l.length := by have := YC hb; omega
   subst hil;clear hb;rw [Y0q]
   repeat' (first|refine Za (Zj (k:=6) rfl rfl (Z1 _)) ?_|(first|refine st ?_|(apply B<;>intro hb<;>try cases hb)))
   exact Z8 rfl ⟨Z1 _,Yt,Yt⟩ rfl
theorem Z7G (bad l:List Cu) (f2 fl:Bool) (hb0:∀ b∈bad,InM 62 b) (hbl:bad.length<=100000) (hl:∀ c∈l,InM 62 c) (hlen:l.length<=10000):X7 Tryz.prog 158 [.vec (l.map cuC) fl,.vec (bad.map cuC) f2] (· = .tup [.vec ((X1k bad l).map cuC) false,.val (.int .i64 0)]):=by
 have hnl:(l.map cuC).length=l.length:=by simp
 refine Yp ok158 fun C hC=>?_
 repeat' (first|refine Za (Zy (k:=6) rfl 2 (by decide)) ?_|(first|refine st ?_|(apply B<;>intro hb<;>try cases hb)))
 refine Zv hC (fun (i:Nat)=>i<=l.length) (fun i=>l.length-i) 1 (fun i => [(1,.vec (bad.map cuC) f2),(6,.own 0),(11,.vec (l.map cuC) fl),(12,.val (.int .i64 (l.length:Int))),(13,Yv i)])
  (fun i => [(0,⟨2,(X1k bad (l.take i)).map cuC⟩)]) (Y0l _) 0 (Y0l _) (fun i=>i) (fun _ _=>rfl) Zf
  ⟨Qp (Z1 _),⟨_,rfl,.own 0 (by decide)⟩,Qp (Z1 _),⟨_,by rw [<- hnl]; rfl,.pure _ Yt⟩,Qp Yt,Yt⟩ ⟨Qs Yt,Yt⟩ ?_
 intro i hi;have hinc:IntKind.i64.wrap ((i:Int)+1)=((i+1:Nat):Int):=Y0v _ ⟨by omega,by omega⟩
 iterate 2 (first|refine st ?_|(apply B<;>intro hb<;>try cases hb))
 refine Zt rfl rfl rfl (fun hb=>?_) (fun hb=>?_)
 . have hil : i < l.length := by have := Y0u hb; omega
   have htake:=ZR hil;clear hb;have hci:=hl _ (Y0j hil);have hacc:=Z6d hb0 (l.take i) (fun c hc=>hl c (YM hc));rw [Y0o] at hacc;refine go ?_;refine Qo (Zl (xs:=l) (g:=cuC) rfl rfl i rfl hil rfl) ?_;generalize l[i]=x at htake hci ⊢;have hone:=(Z9K hb0 hci).2.2;have hsn:X1k bad (l.take (i+1))=X1k bad (l.take i)++X34 bad x:=by rw [htake]; unfold X1k; rw [Y1K]; simp
   generalize X1k bad (l.take i)=acc at hacc hsn ⊢;refine gd 20 ⟨?_⟩;refine Qe (Z8K bad f2 x 62 (by decide) hb0 hci hbl) ⟨ZA _,Z1 _,Yt⟩ ?_;refine gd 28 ⟨?_⟩
   refine ZH (Zu (k:=0) (m:=(X34 bad x).map cuC) (fl:=false) rfl rfl rfl (fun c hc=>by obtain⟨y,_,rfl⟩:=Y0i.1 hc; rfl) rfl (by
    show ((acc.map cuC).length+((X34 bad x).map cuC).length)*48<=_;rw [Y0f,Y0f]
    omega)) rfl rfl ?_
   refine go ?_
   refine⟨i+1,mv 0 2,by omega,by omega,fun i hi=>absurd hi (Ye i),Zq rfl,
    ⟨Qp (Z1 _),⟨_,rfl,.own 0 (by decide)⟩,Qp (Z1 _),Qp Yt,⟨_,by show some _=some _; rw [hinc],.pure _ Yt⟩,Yt⟩,
    ⟨⟨by decide,_,rfl,?_⟩,Yt⟩⟩
   show Xw _ _ ⟨2,acc.map cuC++(X34 bad x).map cuC⟩ ⟨2,(X1k bad (l.take (i+1))).map cuC⟩;rw [hsn,Y0r];exact .same _ (by rw [<- Y0r]; exact Z1 _)
 . have hil : i = l.length := by have := YC hb; omega
   subst hil;clear hb;rw [Y0q]
   repeat' (first|refine Za (Zj (k:=6) rfl rfl (Z1 _)) ?_|(first|refine st ?_|(apply B<;>intro hb<;>try cases hb)))
   exact Z8 rfl ⟨Z1 _,Yt,Yt⟩ rfl
theorem X32 {a:Nat} (h:a ||| 62=62):a % 2=0/\a<=62:=by
 have h1:a<=62:=by rw [<- h]; exact YN
 refine⟨?_,h1⟩;have h2:a.testBit 0=false:=Yy.2 fun h0=>by
  have:=Xc.1 h 0 h0;cases this
 rw [Y2v] at h2;have:=Y1F a (show 0<2 by decide);have h3:¬ a % 2=1:=YC h2;omega
theorem Zjd {l:List Cu} (hn:l.Nodup) (hl:∀ c∈l,InM 62 c):l.length<=1024:=by
 have hnd:(l.map fun c=>c.1 / 2*32+c.2 / 2).Nodup:=by
  rw [Y16,Y1w];refine Y1C (fun {a b} ha hb hab e=>hab ?_) (Y16.1 hn);have a1:=X32 (hl a ha).1;have a2:=X32 (hl a ha).2;have b1:=X32 (hl b hb).1;have b2:=X32 (hl b hb).2;exact Y4a (by omega) (by omega)
 have:=Z2y 1024 _ hnd fun x hx=>by
  obtain⟨c,hc,rfl⟩:=Y0i.1 hx;have a1:=X32 (hl c hc).1;have a2:=X32 (hl c hc).2;show c.1 / 2*32+c.2 / 2<1024;omega
 rwa [Y0f] at this
theorem Z4m {l:List Cu} (hl:∀ c∈l,InM 62 c):∀ c∈l,Xy c:=fun c hc=>(hl c hc).lt (by decide)
theorem X57 {l:List Cu} (hl:∀ c∈l,InM 62 c):(∀ c∈X3q l,InM 62 c)/\(X3q l).length<=1024:=by
 have h1:∀ c∈X3q l,InM 62 c:=fun c hc=>hl c (Z35 hc).1;exact⟨h1,Zjd (Z69 (Z4m hl)) h1⟩
theorem Z4n (l:List Cu) (fl:Bool) (hl:∀ c∈l,InM 62 c) (hlen:l.length<=1000000):X7 Tryz.prog 159 [.vec (l.map cuC) fl] (· = .tup [.vec ((X3q l).map cuC) false,.val (.int .i64 0)]):=by
 have h1:=(X57 hl).2;refine Yp ok159 fun C hC=>?_;refine gd 5 ⟨?_⟩;refine Qe (Z7A l fl (Z4m hl) hlen) ⟨Z1 _,Yt⟩ ?_;refine gd 8 ⟨?_⟩;refine Qo (Z4 (v:=false) rfl (by simp;omega)) ?_;refine go ?_;exact Z8 rfl ⟨Z1 _,Yt,Yt⟩ rfl
noncomputable def X1u (t:PB):List Cu:=X3q (X13 t t.nv)
noncomputable def X5y (t:PB):List Cu:=X3q (X1k (X1u t) (X13 t t.gl))
theorem Z2o {t:PB} (h:Xo t) {l:List Cu} (hl:∀ c∈l,InC t.n c/\InM 62 c):∀ c∈X13 t l,InM 62 c:=fun c hc=>by
 obtain⟨x,hx,hc⟩:=Y1h.1 hc;exact (Z8L h (hl x hx).2).2.2.2 c hc
theorem Z3r {bad l:List Cu} (hb:∀ b∈bad,InM 62 b) (hl:∀ c∈l,InM 62 c):∀ c∈X1k bad l,InM 62 c:=fun c hc=>by
 obtain⟨x,hx,hc⟩:=Y1h.1 hc;exact (Z9K hb (hl x hx)).2.1 c hc
theorem Z7H {t:PB} (h:Xo t):(∀ c∈X1u t,InM 62 c)/\(X1u t).length<=1024:=X57 (Z2o h h.nv)
theorem ZlZ {t:PB} (h:Xo t):(∀ c∈X5y t,InM 62 c)/\(X5y t).length<=1024:=X57 (Z3r (Z7H h).1 (Z2o h h.gl))
theorem Z9L {α:Type} (f:α->List Cu) (l:List α) (S:Nat):soC (l.flatMap f) S=l.any fun x=>soC (f x) S:=by unfold soC; exact List.any_flatMap
theorem ZaJ {t:PB} (h:Xo t) {l:List Cu} (hl:∀ c∈l,InC t.n c/\InM 62 c) {S:Nat} (hS:InS t S):soC (X13 t l) S=soC l (clo t.l S):=by
 unfold X13;rw [Z9L];unfold soC;rw [YQ,Y01,Y01];exact Y3r fun c=>Y2D fun hc=>by rw [<- Zk3 h.good.small h.n.2 (hl c hc).1 hS]; rfl
theorem ZaK {bad:List Cu} (hb:∀ b∈bad,InM 62 b) (l:List Cu) (S:Nat):soC (X1k bad l) S=(soC l S && !soC bad S):=by
 unfold X1k;rw [Z9L]
 induction l with
 | nil=>rfl
 | cons c l ih =>
   rw [Y3i,ih,ZgW (Z4m hb),Z3F];cases hoC c S<;>cases soC bad S<;>cases soC l S<;>rfl
theorem Zha {t:PB} (h:Xo t) {S:Nat} (hS:InS t S):soC (X1u t) S = !Xq t S:=by
 unfold X1u Xq;rw [Z9D (Z4m (Z2o h h.nv)),ZaJ h h.nv hS,Bool.not_not]
theorem Zm0 {t:PB} (h:Xo t) {S:Nat} (hS:InS t S):soC (X5y t) S=(Xq t S&&Xp t S):=by
 unfold X5y;rw [Z9D (Z4m (Z3r (Z7H h).1 (Z2o h h.gl))),ZaK (Z7H h).1,ZaJ h h.gl hS,Zha h hS,Bool.not_not,Bool.and_comm]
 rfl
theorem ZdX {t:PB} (h:Xo t) (S:List Nat):X7 Tryz.prog 154 [.agg (pbP t S)] (· = .tup [.vec ((X1u t).map cuC) false,.val (.int .i64 0)]):=by
 have hpp:=ZC t S;have hl:=Z6c h t.nv h.nv;have hnl:=h.nl;refine Yp ok154 fun C hC=>?_;refine Zm ?_;refine Z9 ?_;refine Z5 rfl rfl rfl ?_;refine gd 8 ⟨?_⟩;refine Qe (Z2i h S) ⟨hpp,Yt⟩ ?_;refine gd 16 ⟨?_⟩;refine Qe (Z6t h S t.nv false h.nv (by omega)) ⟨hpp,Z1 _,Yt⟩ ?_;refine gd 23 ⟨?_⟩;refine Qe (Z4n (X13 t t.nv) false (Z2o h h.nv) (by omega)) ⟨Z1 _,Yt⟩ ?_;refine go ?_;exact Z8 rfl ⟨Z1 _,Yt,Yt⟩ rfl
theorem ZaL {t:PB} (h:Xo t) (S:List Nat):X7 Tryz.prog 127 [.agg (pbP t S)] (· = .tup [.vec ((X5y t).map cuC) false,.val (.int .i64 0)]):=by
 have hpp:=ZC t S;have hl:=Z6c h t.gl h.gl;have hnl:=h.gk;have hbi:=Z7H h;have hl2:=Z6d hbi.1 (X13 t t.gl) (Z2o h h.gl);refine Yp ok127 fun C hC=>?_;refine Zm ?_;refine Z9 ?_;refine Z5 rfl rfl rfl ?_;refine gd 9 ⟨?_⟩;refine Qe (ZdX h S) ⟨hpp,Yt⟩ ?_;refine gd 19 ⟨?_⟩;refine Qe (Z6t h S t.gl false h.gl (by omega)) ⟨hpp,Z1 _,Yt⟩ ?_;refine gd 28 ⟨?_⟩;refine Qe (Z7G (X1u t) (X13 t t.gl) false false hbi.1 (by omega) (Z2o h h.gl) (by omega)) ⟨Z1 _,Z1 _,Yt⟩ ?_;refine gd 35 ⟨?_⟩;refine Qe (Z4n (X1k (X1u t) (X13 t t.gl)) false (Z3r hbi.1 (Z2o h h.gl)) (by omega)) ⟨Z1 _,Yt⟩ ?_;refine go ?_;exact Z8 rfl ⟨Z1 _,Yt,Yt⟩ rfl
theorem Z3J {N:Nat} (hN:N<18446744073709551616) {i:Nat} (hi:i<64):X10 N (i:Int)=Xg N (2 ^ i):=by
 refine YE fun j=>?_;rw [Z3S hN,ZB hN (ZP hi),YI];by_cases h:j=i
 . subst h; simp
 . rw [Yw h,Y0w fun h'=>h h'.symm]; rfl
theorem Z6u (c:Cu) (hc:Xy c) (tg:Nat) (ht:tg<64) (rev:Bool):X7 Tryz.prog 156 [cuP c,.val (.int .i64 (tg:Int)),.val (.bool rev)] (· = .tup [cuP (X2W c tg rev),.val (.bool (X4s c tg rev))]):=by
 have hw1:=Z1E c.1 hc.1 (tg:Int);have hw2:=Z1E c.2 hc.2 (tg:Int);rw [Z3J hc.1 ht] at hw1;rw [Z3J hc.2 ht] at hw2;have hh1:=Z1p c.1 hc.1 tg;have hh2:=Z1p c.2 hc.2 tg;refine Yp ok156 fun C hC=>?_;refine Zm ?_;refine Z9 ?_;refine Z5 rfl rfl rfl ?_;cases rev
 . refine gd 24 ⟨?_⟩;refine Qd hw1 ⟨Z2 _,Yt,Yt⟩ ?_;refine gd 31 ⟨?_⟩;refine Qd hh2 ⟨Z2 _,Yt,Yt⟩ ?_;unfold X4s;rw [Y8 (by decide)];generalize c.2.testBit tg=b;cases b
   all_goals
    refine go ?_;exact Z8 (r:=.tup [cuP (X2W c tg false),.val (.bool _)]) rfl ⟨ZA _,Yt,Yt⟩ rfl
 . refine gd 14 ⟨?_⟩;refine Qd hw2 ⟨Z2 _,Yt,Yt⟩ ?_;refine gd 19 ⟨?_⟩;refine Qd hh1 ⟨Z2 _,Yt,Yt⟩ ?_;unfold X4s;rw [Y6 rfl];generalize c.1.testBit tg=b;cases b
   all_goals
    refine go ?_;exact Z8 (r:=.tup [cuP (X2W c tg true),.val (.bool _)]) rfl ⟨ZA _,Yt,Yt⟩ rfl
def X4C (tg:Nat) (rev:Bool) (b:Cu):List Cu:=if X4s b tg rev then [X2W b tg rev] else []
def X4j (bad:List Cu) (tg:Nat) (rev:Bool) (i:Nat):List Cu:=bad++(bad.take i).flatMap (X4C tg rev)
theorem Zhb (bad:List Cu) (tg:Nat) (rev:Bool) {i:Nat} (hi:i<bad.length):X4j bad tg rev (i+1)=X4j bad tg rev i++X4C tg rev bad[i]:=by
 unfold X4j;rw [ZR hi,Y1K,<- YT];simp
theorem Zje (tg:Nat) (rev:Bool) (b:Cu):(X4C tg rev b).length<=1:=by unfold X4C; split<;>simp
theorem ZdY (bad:List Cu) (tg:Nat) (rev:Bool) (i:Nat):(X4j bad tg rev i).length<=2*bad.length:=by
 unfold X4j;rw [Y0e];have:=Z5K (l:=bad.take i) (f:=X4C tg rev) (k:=1) fun x _=>Zje tg rev x;rw [Y0o] at this;omega
noncomputable def X4u (t:PB) (r:RU):List Cu:=X4j (X1u t) r.tg r.rev (X1u t).length
noncomputable def ifR (t:PB) (r:RU):List PV := [.vec ((exL t.l t.n r.cu).map cuC) false]
noncomputable def afR (t:PB) (r:RU):List PV := [.vec ((X4u t r).map cuC) false]
theorem Z4M (t:PB) (r:RU):X5 (ifR t r):=⟨Z1 _,Yt⟩
theorem Z4N (t:PB) (r:RU):X5 (afR t r):=⟨Z1 _,Yt⟩
noncomputable def srC (t:PB) (S:List Nat):List PV := [.val (.int .i64 (t.n:Int)),X16 t.l S,.vec (X4 (Xb t.st)) false,.vec (t.rs.map ruP) false,.vec (t.nv.map cuC) false,.vec (t.gl.map cuC) false,.vec ((X1u t).map cuC) false,.vec (t.rs.map (ifR t)) false,.vec (t.rs.map (afR t)) false]
theorem Z5L (t:PB) (S:List Nat):X5 (srC t S):=⟨Yt,Zo _ _,Z7 _,ZE _,Z1 _,Z1 _,Z1 _,Zb (Z4M t) _,Zb (Z4N t) _,Yt⟩
theorem ZaM {t:PB} (h:Xo t) (S:List Nat):X7 Tryz.prog 126 [.agg (pbP t S)] (· = .tup [.cp (srC t S),.val (.int .i64 0)]):=by
 have hpp:=ZC t S;have hbi:=Z7H h;have hrl:=h.rl;have hnr:(t.rs.map ruP).length=t.rs.length:=by simp
 have hnb:((X1u t).map cuC).length=(X1u t).length:=by simp
 refine Yp ok126 fun C hC=>?_;refine Zm ?_;refine Z9 ?_;refine Z5 rfl rfl rfl ?_;refine gd 18 ⟨?_⟩;refine Qe (ZdX h S) ⟨hpp,Yt⟩ ?_;refine gd 28 ⟨?_⟩;refine Za (ZO (id:=0) (i0:=0) (j0:=7) rfl (Y0 rfl) (Y0 rfl) rfl 1 (by decide) (by decide)) ?_;refine Za (ZO (id:=0) (i0:=0) (j0:=8) rfl (Y0 rfl) (Y0 rfl) rfl 1 (by decide) (by decide)) ?_;refine go ?_;refine Zv hC (fun (i:Nat)=>i<=t.rs.length) (fun i=>t.rs.length-i) 3 (fun i => [(1,.cp (pbP t S)),(4,.vec ((X1u t).map cuC) false),(6,.ptr 0 0 0),(29,.vec (t.rs.map ruP) false),(30,.val (.int .i64 (t.rs.length:Int))),(31,Yv i)])
  (fun i => [(0,⟨9,[[.val (.int .i64 (t.n:Int)),X16 t.l S,.vec (X4 (Xb t.st)) false,.vec (t.rs.map ruP) false,.vec (t.nv.map cuC) false,.vec (t.gl.map cuC) false,.vec ((X1u t).map cuC) false,.own 1,.own 2]]⟩),(1,⟨1,(t.rs.take i).map (ifR t)⟩),(2,⟨1,(t.rs.take i).map (afR t)⟩)]) (Y0l _) 0 (Y0l _) (fun i=>i) (fun _ _=>rfl) Zf
  ⟨Qp hpp,Qp (Z1 _),Qt 0 0 0,Qp (ZE _),⟨_,by rw [<- hnr]; rfl,.pure _ Yt⟩,Qp Yt,Yt⟩
  ⟨⟨by decide,_,rfl,Xw.single ⟨.pure _ Yt,.pure _ (Zo _ _),.pure _ (Z7 _),.pure _ (ZE _),.pure _ (Z1 _),.pure _ (Z1 _),.pure _ (Z1 _),.own (ρ:=fun i=>i) 1 (by decide),.own (ρ:=fun i=>i) 2 (by decide),Yt⟩ rfl⟩,Qs Yt,Qs Yt,Yt⟩ ?_
 intro i hi;have hinc:IntKind.i64.wrap ((i:Int)+1)=((i+1:Nat):Int):=Y0v _ ⟨by omega,by omega⟩;refine gd 32 ⟨?_⟩;by_cases hil:i<t.rs.length
 . have htk := ZR hil;have hro:=h.rs _ (Y0j hil);have htl:(t.rs.take i).length<=64:=by rw [Y0o]; omega
   refine Qo (Qy rfl (Y1z.2 hil)) ?_;refine go ?_;refine Qo (Zl (xs:=t.rs) (g:=ruP) rfl rfl i rfl hil rfl) ?_;generalize t.rs[i]=x at htk hro ⊢;have hxt:=hro.tg;generalize t.rs.take i=tk at htk htl ⊢;refine gd 39 ⟨?_⟩;refine Qe (Z5G h S x.cu hro.cu hro.m) ⟨hpp,ZA _,Yt⟩ ?_;refine gd 45 ⟨?_⟩;refine Z2c rfl rfl rfl ?_
   iterate 1 (first|refine st ?_|(apply B<;>intro hb<;>try cases hb))
   refine ZH (Zu (k:=4) (m:=(X1u t).map cuC) (fl:=false) rfl rfl rfl (fun q hq=>by obtain⟨y,_,rfl⟩:=Y0i.1 hq; rfl) rfl (by
    show (0+((X1u t).map cuC).length)*48<=_
    rw [Y0f];omega)) rfl rfl ?_
   refine go ?_;refine Zv hC (fun (j:Nat)=>j<=(X1u t).length) (fun j=>(X1u t).length-j) 6 (fun j => [(1,.cp (pbP t S)),(4,.vec ((X1u t).map cuC) false),(6,.ptr 0 0 0),(8,.ptr 3 0 0),(9,.vec ((exL t.l t.n x.cu).map cuC) false),(11,.own 5),(29,.vec (t.rs.map ruP) false),(30,.val (.int .i64 (t.rs.length:Int))),(31,Yv i),(48,.vec ((X1u t).map cuC) false),(49,.val (.int .i64 ((X1u t).length:Int))),(50,Yv j)])
    (fun j => [(0,⟨9,[[.val (.int .i64 (t.n:Int)),X16 t.l S,.vec (X4 (Xb t.st)) false,.vec (t.rs.map ruP) false,.vec (t.nv.map cuC) false,.vec (t.gl.map cuC) false,.vec ((X1u t).map cuC) false,.own 1,.own 2]]⟩),(1,⟨1,tk.map (ifR t)⟩),(2,⟨1,tk.map (afR t)⟩),(3,⟨5,[ruP x]⟩),(5,⟨2,(X4j (X1u t) x.tg x.rev j).map cuC⟩)]) (Y0l _) 0 (Y0l _) (fun i=>i) (fun _ _=>rfl) Zf
    ⟨Qp hpp,Qp (Z1 _),Qt 0 0 0,Qt 3 0 0,Qp (Z1 _),Qw 5,Qp (ZE _),Qp Yt,Qp Yt,Qp (Z1 _),⟨_,by rw [<- hnb]; rfl,.pure _ Yt⟩,Qp Yt,Yt⟩
    ⟨⟨by decide,_,rfl,Xw.single ⟨.pure _ Yt,.pure _ (Zo _ _),.pure _ (Z7 _),.pure _ (ZE _),.pure _ (Z1 _),.pure _ (Z1 _),.pure _ (Z1 _),.own (ρ:=fun i=>i) 1 (by decide),.own (ρ:=fun i=>i) 2 (by decide),Yt⟩ rfl⟩,Qs (Zb (Z4M t) _),Qs (Zb (Z4N t) _),Qs ⟨Z6R x,Yt⟩,⟨by decide,_,rfl,by unfold X4j; rw [Y1r,Y3M,Y0p]; exact .same _ (Z1 _)⟩,Yt⟩ ?_
   intro j hj;have hjnc:IntKind.i64.wrap ((j:Int)+1)=((j+1:Nat):Int):=Y0v _ ⟨by omega,by omega⟩;have hal:=ZdY (X1u t) x.tg x.rev j;refine gd 51 ⟨?_⟩;by_cases hjl:j<(X1u t).length
   . have hsn := Zhb (X1u t) x.tg x.rev hjl;have hb64:=Z4m hbi.1 _ (Y0j hjl);refine Qo (Qy rfl (Y1z.2 hjl)) ?_;refine go ?_;refine Qo (Zl (xs:=X1u t) (g:=cuC) rfl rfl j rfl hjl rfl) ?_;generalize (X1u t)[j]=y at hsn hb64 ⊢;generalize X4j (X1u t) x.tg x.rev j=acc at hsn hal ⊢;refine gd 59 ⟨?_⟩;refine Z0 rfl rfl rfl ?_;refine Qe (Z6u y hb64 x.tg (by omega) x.rev) ⟨ZA _,Yt,Yt,Yt⟩ ?_;unfold X4C at hsn;generalize X2W y x.tg x.rev=bc at hsn ⊢;generalize X4s y x.tg x.rev=bb at hsn ⊢;cases bb
     . rw [Y8 (by decide), Y0p] at hsn;refine go ?_
       refine⟨j+1,fun i=>i,hjl,by show (X1u t).length-(j+1)<(X1u t).length-j; omega,fun _ _=>rfl,Zf,
        ⟨Qp hpp,Qp (Z1 _),Qt 0 0 0,Qt 3 0 0,Qp (Z1 _),Qw 5,Qp (ZE _),Qp Yt,Qp Yt,Qp (Z1 _),Qp Yt,⟨_,by show some _=some _; rw [hjnc],.pure _ Yt⟩,Yt⟩,
        ⟨⟨by decide,_,rfl,Xw.single ⟨.pure _ Yt,.pure _ (Zo _ _),.pure _ (Z7 _),.pure _ (ZE _),.pure _ (Z1 _),.pure _ (Z1 _),.pure _ (Z1 _),.own (ρ:=fun i=>i) 1 (by decide),.own (ρ:=fun i=>i) 2 (by decide),Yt⟩ rfl⟩,Qs (Zb (Z4M t) _),Qs (Zb (Z4N t) _),Qs ⟨Z6R x,Yt⟩,⟨by decide,_,rfl,?_⟩,Yt⟩⟩
       rw [hsn];exact .same _ (Z1 _)
     . rw [Y6 rfl] at hsn;refine gd 67 ⟨?_⟩
       refine ZH (Zu (k:=5) (m := [cuC bc]) (fl:=true) rfl rfl rfl (fun q hq=>by rw [Y0g] at hq; subst hq; rfl) rfl (by
        show ((acc.map cuC).length+1)*48<=_
        rw [Y0f];omega)) rfl rfl ?_
       refine go ?_
       refine⟨j+1,mv 5 8,hjl,by show (X1u t).length-(j+1)<(X1u t).length-j; omega,fun i hi=>absurd hi (Ye i),Zq rfl,
        ⟨Qp hpp,Qp (Z1 _),Qt 0 0 0,Qt 3 0 0,Qp (Z1 _),Qw 5,Qp (ZE _),Qp Yt,Qp Yt,Qp (Z1 _),Qp Yt,⟨_,by show some _=some _; rw [hjnc],.pure _ Yt⟩,Yt⟩,
        ⟨⟨by decide,_,rfl,Xw.single ⟨.pure _ Yt,.pure _ (Zo _ _),.pure _ (Z7 _),.pure _ (ZE _),.pure _ (Z1 _),.pure _ (Z1 _),.pure _ (Z1 _),.own (ρ:=mv 5 8) 1 (by decide),.own (ρ:=mv 5 8) 2 (by decide),Yt⟩ rfl⟩,Qs (Zb (Z4M t) _),Qs (Zb (Z4N t) _),Qs ⟨Z6R x,Yt⟩,⟨by decide,_,rfl,?_⟩,Yt⟩⟩
       show Xw _ _ ⟨2,acc.map cuC ++ [cuC bc]⟩ ⟨2,(X4j (X1u t) x.tg x.rev (j+1)).map cuC⟩;rw [hsn,Y0r];exact .same _ (by show X1 (acc.map cuC ++ [bc].map cuC); rw [<- Y0r]; exact Z1 _)
   . have hjl : j = (X1u t).length := by omega
     subst hjl;refine Za (Zj (k:=11) rfl rfl (Z1 _)) ?_;refine Qo (Qz rfl (Y4e _)) ?_
     repeat' (first|refine Z3v [] [(1,256)] [4194303,4194303,4194303,4194303,4194303,4194303,4194303,4194303,4194047,4194303,4194303,4194303,4194303,4194303,4194303,4194303,4194303,4194303,4194303,4194303,4194303,4194303] (by kernel_rfl) ?_|refine Z9d 77 ?_|(first|refine st ?_|(apply B<;>intro hb<;>try cases hb)))
     refine At.mk ?_
     refine Qr (Zu (k:=1) (m := [ifR t x]) (fl:=true) rfl rfl rfl (fun q hq=>by rw [Y0g] at hq; subst hq; rfl) rfl (by
      show ((tk.map (ifR t)).length+1)*24<=_
      rw [Y0f];omega)) ?_
     refine gd 84 ⟨?_⟩
     refine Qr (Zu (k:=2) (m := [afR t x]) (fl:=true) rfl rfl rfl (fun q hq=>by rw [Y0g] at hq; subst hq; rfl) rfl (by
      show ((tk.map (afR t)).length+1)*24<=_
      rw [Y0f];omega)) ?_
     refine go ?_
     refine⟨i+1,fun i=>mv 1 14 (mv 2 21 i),hil,by show t.rs.length-(i+1)<t.rs.length-i; omega,fun i hi=>absurd hi (Ye i),Zq rfl,
      ⟨Qp hpp,Qp (Z1 _),Qt 0 0 0,Qp (ZE _),Qp Yt,⟨_,by show some _=some _; rw [hinc],.pure _ Yt⟩,Yt⟩,
      ⟨⟨by decide,_,rfl,Xw.single ⟨.pure _ Yt,.pure _ (Zo _ _),.pure _ (Z7 _),.pure _ (ZE _),.pure _ (Z1 _),.pure _ (Z1 _),.pure _ (Z1 _),.own (ρ:=fun i=>mv 1 14 (mv 2 21 i)) 1 (by decide),.own (ρ:=fun i=>mv 1 14 (mv 2 21 i)) 2 (by decide),Yt⟩ rfl⟩,⟨by decide,_,rfl,?_⟩,⟨by decide,_,rfl,?_⟩,Yt⟩⟩
     . show Xw _ _ ⟨1, tk.map (ifR t) ++ [ifR t x]⟩ ⟨1, (t.rs.take (i + 1)).map (ifR t)⟩;rw [htk,Y0r];exact .same _ (by rw [<- Y1c,<- Y0r]; exact Zb (Z4M t) _)
     . show Xw _ _ ⟨1, tk.map (afR t) ++ [afR t x]⟩ ⟨1, (t.rs.take (i + 1)).map (afR t)⟩;rw [htk,Y0r];exact .same _ (by rw [<- Y1c,<- Y0r]; exact Zb (Z4N t) _)
 . have hil : i = t.rs.length := by omega
   subst hil;rw [Y0q];refine Za (Zx (ob:=0) (id:=1) (i0:=0) (j0:=7) rfl rfl (by decide) (Zb (Z4M t) _) (Y0 rfl) (Y0 rfl) rfl) ?_;refine Za (Zx (ob:=0) (id:=2) (i0:=0) (j0:=8) rfl rfl (by decide) (Zb (Z4N t) _) (Y0 rfl) (Y0 rfl) rfl) ?_;refine Za (Z1s (k:=6) (l:=srC t S) rfl rfl (Z5L t S)) ?_;refine Qo (Qz rfl (Y4e _)) ?_;refine go ?_;exact Z8 rfl ⟨Z5L t S,Yt,Yt⟩ rfl
theorem Z6T {m a b:Nat} (ha:a<18446744073709551616) (hb:b<18446744073709551616) (h:a ||| m=m):Xg a b ||| m=m:=Xc.2 fun i hi=>by
 rw [ZB ha hb,Y0k] at hi;exact Xc.1 h i hi.1
theorem ZcB {c:Cu} (h:InM 62 c) {tg:Nat} (ht:tg<64) (rev:Bool):InM 62 (X2W c tg rev):=by
 have h64:=h.lt (by decide);have hp:=ZP ht;unfold X2W
 split
 . exact⟨h.1,Z6T h64.2 hp h.2⟩
 . exact⟨Z6T h64.1 hp h.1,h.2⟩
theorem ZcC {c:Cu} (h:InM 62 c) {tg:Nat} (ht:1<=tg/\tg<=5) (rev:Bool):InM 62 (X4f c tg rev):=by
 have h1:=ZcB h (show tg<64 by omega) rev;have hb:=X6w ht.1 ht.2;unfold X4f
 split
 . exact Z9G h1 hb
 . exact ZdP h1 hb
theorem Zhc {t:PB} (h:Xo t) {r:RU} (hr:X42 t.n r):(∀ c∈X4u t r,InM 62 c)/\(X4u t r).length<=2048:=by
 have hb:=Z7H h;have ht:=hr.tg;refine⟨fun c hc=>?_,by have:=ZdY (X1u t) r.tg r.rev (X1u t).length; unfold X4u; omega⟩;unfold X4u X4j at hc;rcases Y0h.1 hc with hc|hc
 . exact hb.1 c hc
 . obtain ⟨x, hx, hc⟩ := Y1h.1 hc;unfold X4C at hc
   split at hc
   . rw [Y0g] at hc; subst hc;exact ZcB (hb.1 x (YM hx)) (by omega) _
   . cases hc
def X4N (y i:Cu):List Cu:=if (meC y i).2 then [(meC y i).1] else []
def X3U (y:Cu) (l:List Cu):List Cu:=l.flatMap (X4N y)
theorem Zhd {a b:Cu} {m:Nat} (ha:InM m a) (hb:InM m b):InM m (X19 a b):=⟨Xc.2 fun i hi=>by
 rw [show (X19 a b).1=a.1 ||| b.1 from rfl,Y00,YR] at hi;exact hi.elim (Xc.1 ha.1 i) (Xc.1 hb.1 i),Xc.2 fun i hi=>by
 rw [show (X19 a b).2=a.2 ||| b.2 from rfl,Y00,YR] at hi
 exact hi.elim (Xc.1 ha.2 i) (Xc.1 hb.2 i)⟩
theorem ZkU {y i:Cu} (hy:InM 62 y) (hi:InM 62 i):∀ c∈X4N y i,InM 62 c:=fun c hc=>by
 unfold X4N meC at hc;by_cases h:emC (X19 y i)=true
 . rw [Y6 h,Y8 (by decide)] at hc; cases hc
 . rw [Y8 h,Y6 rfl,Y0g] at hc; subst hc; exact Zhd hy hi
theorem Zjf (y i:Cu):(X4N y i).length<=1:=by unfold X4N; split<;>simp
theorem ZcD {y:Cu} (hy:InM 62 y) {l:List Cu} (hl:∀ i∈l,InM 62 i):∀ c∈X3U y l,InM 62 c:=fun c hc=>by
 obtain⟨i,hi,hc⟩:=Y1h.1 hc;exact ZkU hy (hl i hi) c hc
theorem Zjg (y:Cu) (l:List Cu):(X3U y l).length<=l.length:=by
 have:=Z5K (l:=l) (f:=X4N y) (k:=1) fun x _=>Zjf y x;unfold X3U; omega
theorem Zhe (y:Cu) {l:List Cu} {j:Nat} (hj:j<l.length):X3U y (l.take (j+1))=X3U y (l.take j)++X4N y l[j]:=by
 unfold X3U;rw [ZR hj,Y1K]; simp
noncomputable def bfL (t:PB) (r:RU) (c:Cu):List Cu:=if X4s c r.tg r.rev then X3q (X1k (X4u t r) (X3U (X4f c r.tg r.rev) (exL t.l t.n r.cu))) else []
theorem ZaN {t:PB} (h:Xo t) (S:List Nat) (c:Cu) (hc:InM 62 c) (k:Nat) (hk:k<t.rs.length):X7 Tryz.prog 161 [.cp (srC t S),cuP c,.val (.int .i64 (k:Int))] (· = .tup [.vec ((bfL t t.rs[k] c).map cuC) false,.val (.int .i64 0)]):=by
 have hsr:=Z5L t S;have hro:=h.rs _ (Y0j hk);have hc64:=hc.lt (by decide);refine Yp ok161 fun C hC=>?_;refine Zm ?_;refine Z9 ?_;refine Z5 rfl rfl rfl ?_;refine gd 23 ⟨?_⟩;refine Qo (Zl (xs:=t.rs) (g:=ruP) rfl rfl k rfl hk rfl) ?_;generalize hx:t.rs[k]=x at hro ⊢;have hxt:=hro.tg;refine gd 30 ⟨?_⟩;refine Z0 rfl rfl rfl ?_;refine Qe (Z6u c hc64 x.tg (by omega) x.rev) ⟨ZA _,Yt,Yt,Yt⟩ ?_;unfold bfL;cases hbb:X4s c x.tg x.rev
 . rw [Y8 (by decide)];refine go ?_;exact Z1K rfl ⟨Yt,Yt,Yt⟩ rfl
 rw [Y6 rfl];have hbc:=(ZcB hc (show x.tg<64 by omega) x.rev).lt (by decide);refine gd 34 ⟨?_⟩;refine Z0 rfl rfl rfl ?_
 iterate 4 (first|refine st ?_|(apply B<;>intro hb<;>try cases hb))
 refine Zdq hC True 2 [(0,.cp (srC t S)),(2,.val (.int .i64 (k:Int))),(9,.ptr 1 0 0)] [(1,⟨2,[cuC (X4f c x.tg x.rev)]⟩)] (Y0l _) ?_ fun _=>?_
 . have hbd : X4f c x.tg x.rev = if x.rev then ((X2W c x.tg x.rev).1 ||| 2 ^ x.tg, (X2W c x.tg x.rev).2) else ((X2W c x.tg x.rev).1, (X2W c x.tg x.rev).2 ||| 2 ^ x.tg) := rfl
   rw [hbd];generalize X2W c x.tg x.rev=bc at hbc ⊢;refine gd 37 ⟨?_⟩;cases hv:x.rev
   . rw [Y8 (by decide)];refine Qo (Z4 (v:=false) rfl hv) ?_;refine gd 48 ⟨?_⟩;refine Qe (Z1u _ hbc.2 x.tg (by omega)) ⟨Z2 _,Yt,Yt⟩ ?_;refine go ?_;exact⟨Yt,⟨⟨rfl,ZG (fun _ h=>h.elim) _ hsr⟩,⟨rfl,Yt⟩,⟨rfl,show (1:Nat)<2 by decide⟩,Yt⟩,⟨by decide,rfl,⟨Zp _ _,Zp _ _,Yt⟩,Yt⟩,Yt⟩
   . rw [Y6 rfl];refine Qo (Z4 (v:=true) rfl hv) ?_;refine gd 42 ⟨?_⟩;refine Qe (Z1u _ hbc.1 x.tg (by omega)) ⟨Z2 _,Yt,Yt⟩ ?_;refine go ?_;exact⟨Yt,⟨⟨rfl,ZG (fun _ h=>h.elim) _ hsr⟩,⟨rfl,Yt⟩,⟨rfl,show (1:Nat)<2 by decide⟩,Yt⟩,⟨by decide,rfl,⟨Zp _ _,Zp _ _,Yt⟩,Yt⟩,Yt⟩
 have hy:=ZcC hc ⟨hxt.1,hxt.2.2⟩ x.rev;generalize X4f c x.tg x.rev=y at hy ⊢;have hy64:=hy.lt (by decide);obtain⟨-,-,hel,hei⟩:=Z8L h hro.m;have haf:=Zhc h hro
 repeat' (first|refine Za (Zy (k:=11) rfl 2 (by decide)) ?_|(first|refine st ?_|(apply B<;>intro hb<;>try cases hb)))
 refine Qo (Zl (xs:=t.rs) (g:=ifR t) rfl rfl k rfl hk rfl) ?_;rw [hx];refine go ?_;have hnl:((exL t.l t.n x.cu).map cuC).length=(exL t.l t.n x.cu).length:=by simp
 refine Zv hC (fun (j:Nat)=>j<=(exL t.l t.n x.cu).length) (fun j=>(exL t.l t.n x.cu).length-j) 3 (fun j => [(0,.cp (srC t S)),(2,.val (.int .i64 (k:Int))),(9,.ptr 1 0 0),(11,.own 2),(56,.vec ((exL t.l t.n x.cu).map cuC) false),(57,.val (.int .i64 ((exL t.l t.n x.cu).length:Int))),(58,Yv j)])
  (fun j => [(1,⟨2,[cuC y]⟩),(2,⟨2,(X3U y ((exL t.l t.n x.cu).take j)).map cuC⟩)]) (Y0l _) 0 (Y0l _) (fun i=>i) (fun _ _=>rfl) Zf
  ⟨Qp hsr,Qp Yt,Qt 1 0 0,Qw 2,Qp (Z1 _),⟨_,by rw [<- hnl]; rfl,.pure _ Yt⟩,Qp Yt,Yt⟩ ⟨Qs ⟨Zh y,Yt⟩,Qs Yt,Yt⟩ ?_
 intro j hj;have hinc:IntKind.i64.wrap ((j:Int)+1)=((j+1:Nat):Int):=Y0v _ ⟨by omega,by omega⟩;have hml:=Zjg y ((exL t.l t.n x.cu).take j);rw [Y0o] at hml;refine gd 59 ⟨?_⟩;by_cases hjl:j<(exL t.l t.n x.cu).length
 . have hsn := Zhe y hjl;have hz:=(hei _ (Y0j hjl)).lt (by decide);refine Qo (Qy rfl (Y1z.2 hjl)) ?_;refine go ?_;refine Qo (Zl (xs:=exL t.l t.n x.cu) (g:=cuC) rfl rfl j rfl hjl rfl) ?_;generalize (exL t.l t.n x.cu)[j]=z at hsn hz ⊢;generalize X3U y ((exL t.l t.n x.cu).take j)=acc at hsn hml ⊢;refine gd 65 ⟨?_⟩;refine Qe (Z8A y z hy64 hz) ⟨ZA _,ZA _,Yt⟩ ?_;unfold X4N at hsn;generalize meC y z=mz at hsn ⊢;obtain⟨mc,mb⟩:=mz;cases mb
   . have hsn : X3U y ((exL t.l t.n x.cu).take (j + 1)) = acc ++ [] := hsn;rw [Y0p] at hsn;refine go ?_
     refine⟨j+1,fun i=>i,hjl,by show (exL t.l t.n x.cu).length-(j+1)<(exL t.l t.n x.cu).length-j; omega,fun _ _=>rfl,Zf,
      ⟨Qp hsr,Qp Yt,Qt 1 0 0,Qw 2,Qp (Z1 _),Qp Yt,⟨_,by show some _=some _; rw [hinc],.pure _ Yt⟩,Yt⟩,⟨Qs ⟨Zh y,Yt⟩,⟨by decide,_,rfl,?_⟩,Yt⟩⟩
     rw [hsn];exact .same _ (Z1 _)
   . have hsn : X3U y ((exL t.l t.n x.cu).take (j + 1)) = acc ++ [mc] := hsn;refine gd 72 ⟨?_⟩
     refine ZH (Zu (k:=2) (m := [cuC mc]) (fl:=true) rfl rfl rfl (fun q hq=>by rw [Y0g] at hq; subst hq; rfl) rfl (by
      show ((acc.map cuC).length+1)*48<=_
      rw [Y0f];omega)) rfl rfl ?_
     refine go ?_
     refine⟨j+1,mv 2 5,hjl,by show (exL t.l t.n x.cu).length-(j+1)<(exL t.l t.n x.cu).length-j; omega,fun i hi=>absurd hi (Ye i),Zq rfl,
      ⟨Qp hsr,Qp Yt,Qt 1 0 0,Qw 2,Qp (Z1 _),Qp Yt,⟨_,by show some _=some _; rw [hinc],.pure _ Yt⟩,Yt⟩,⟨Qs ⟨Zh y,Yt⟩,⟨by decide,_,rfl,?_⟩,Yt⟩⟩
     show Xw _ _ ⟨2,acc.map cuC ++ [cuC mc]⟩ ⟨2,(X3U y ((exL t.l t.n x.cu).take (j+1))).map cuC⟩;rw [hsn,Y0r];exact .same _ (by show X1 (acc.map cuC ++ [mc].map cuC); rw [<- Y0r]; exact Z1 _)
 . have hjl : j = (exL t.l t.n x.cu).length := by omega
   subst hjl;rw [Y0q] at hml ⊢;have hmi:=ZcD hy hei;have hsl:=Z6d haf.1 _ hmi;refine Za (Zj (k:=11) rfl rfl (Z1 _)) ?_;refine Qo (Qz rfl (Y4e _)) ?_;refine gd 81 ⟨?_⟩;refine Qo (Zl (xs:=t.rs) (g:=afR t) rfl rfl k rfl hk rfl) ?_;rw [hx];refine gd 83 ⟨?_⟩;refine Qe (Z7G (X4u t x) _ false false haf.1 (by omega) hmi (by omega)) ⟨Z1 _,Z1 _,Yt⟩ ?_;refine gd 90 ⟨?_⟩;refine Qe (Z4n _ false (Z3r haf.1 hmi) (by omega)) ⟨Z1 _,Yt⟩ ?_;refine go ?_;exact Z8 rfl ⟨Z1 _,Yt,Yt⟩ rfl
theorem Zjh (S:Nat):hoC (0,0) S=true:=(Z1a _ _).2 ⟨fun i hi=>by simp at hi,fun i hi=>by simp at hi⟩
theorem ZkV (y:Cu) (l:List Cu) (S:Nat):soC (X3U y l) S=(hoC y S&&soC l S):=by
 unfold X3U;rw [Z9L]
 induction l with
 | nil=>simp [soC]
 | cons i l ih =>
   rw [Y3i,ih,Z3F];have e:soC (X4N y i) S=(hoC y S&&hoC i S):=by
    unfold X4N meC;by_cases h:emC (X19 y i)=true
    . rw [Y6 h,Y8 (by decide),<- Z67,Z2P h]; rfl
    . rw [Y8 h,Y6 rfl,Z9A,Z67]
   rw [e];cases hoC y S<;>cases hoC i S<;>cases soC l S<;>rfl
theorem Zm1 {t:PB} (h:Xo t) {r:RU} (hr:X42 t.n r) {S:Nat} (hS:InS t S):soC (X4u t r) S=(!Xq t S || !Xq t (X9 r S)):=by
 have hb:=Z7H h;have ht:=hr.tg;have hn:=ZdR ht.1 ht.2.1 h.n.2 hS;rw [<- Zha h hS,<- Zha h hn];unfold X4u X4j;rw [Y0q];have e:soC (X1u t++(X1u t).flatMap (X4C r.tg r.rev)) S=(soC (X1u t) S||soC ((X1u t).flatMap (X4C r.tg r.rev)) S):=Y31;rw [e,Z9L];congr 1;unfold soC;rw [YQ,Y01,Y01];refine Y3r fun b=>Y2D fun hbm=>?_;rw [ZgY (Z4m hb.1 b hbm) (show r.tg<64 by omega) (hS.lt h.n.2)];unfold X4C;cases X4s b r.tg r.rev with
 | true=>rw [Y6 rfl,Y1g]; simp [soC]
 | false=>rw [Y8 (by decide),Y2Q]; simp [soC]
theorem ZmC {t:PB} (h:Xo t) {r:RU} (hr:X42 t.n r) {c:Cu} (hc:InM 62 c) {S:Nat} (hS:InS t S):soC (bfL t r c) S=(Xq t S&&(XB t r S&&hoC c (X9 r S))):=by
 have ht:=hr.tg;have hc64:=hc.lt (by decide);have hbd:=Zj9 hc64 (show r.tg<64 by omega) (hS.lt h.n.2);have hex:=Zk3 h.good.small h.n.2 hr.cu hS;obtain⟨-,-,hel,hei⟩:=Z8L h hr.m;have haf:=Zhc h hr;have hrv:(r.rev||hoC r.cu (clo t.l S))=hoC r.cu (clo t.l S):=by
  cases hv:r.rev with
  | false=>rfl
  | true=>rw [hr.rv hv,Zjh]; rfl
 unfold XB;rw [hrv];unfold bfL;cases hbb:X4s c r.tg r.rev with
 | false =>
   rw [Y8 (by decide)];rw [hbb,Y2Q] at hbd;show false=_;generalize Xq t S=g1;generalize Xq t (X9 r S)=g2;generalize hoC r.cu (clo t.l S)=g3;generalize decide (X9 r S≠S)=g4 at hbd ⊢;generalize hoC c (X9 r S)=g5 at hbd ⊢
   revert hbd
   cases g1<;>cases g2<;>cases g3<;>cases g4<;>cases g5<;>decide
 | true =>
   rw [Y6 rfl];rw [hbb,Y1g] at hbd;have hyi:=ZcC hc ⟨ht.1,ht.2.2⟩ r.rev;rw [Z9D (Z4m (Z3r haf.1 (ZcD hyi hei))),ZaK haf.1,ZkV,hex,Zm1 h hr hS,hbd];generalize Xq t S=g1;generalize Xq t (X9 r S)=g2;generalize hoC r.cu (clo t.l S)=g3;generalize decide (X9 r S≠S)=g4;generalize hoC c (X9 r S)=g5;cases g1<;>cases g2<;>cases g3<;>cases g4<;>cases g5<;>decide
theorem ZmD {t:PB} (h:Xo t) {r:RU} (hr:X42 t.n r) {c:Cu} (hc:InM 62 c):(∀ c'∈bfL t r c,InM 62 c'/\emC c'=false)/\(bfL t r c).length<=1024:=by
 have ht:=hr.tg;obtain⟨-,-,hel,hei⟩:=Z8L h hr.m;have haf:=Zhc h hr;have hyi:=ZcC hc ⟨ht.1,ht.2.2⟩ r.rev;have h2:=X57 (Z3r haf.1 (ZcD hyi hei));unfold bfL
 split
 . exact⟨fun c' hc'=>⟨h2.1 c' hc',(Z35 hc').2⟩,h2.2⟩
 . exact⟨(fun c' hc'=>by cases hc'),by simp⟩
end
section
open Go.RowKit
theorem Zk6 {l:List Pr} {n N:Nat}:∀ (rs:List Nat) (x:List Cu),(∀ c∈x,c.1 ||| mkN n=mkN n/\c.2=N)->∀ c∈exF l n rs x,c.1 ||| mkN n=mkN n/\c.2=N
 | [],x,h=>h
 | r :: rs, x, h => Zk6 rs _ fun c hc => by
   obtain⟨y,hy,hc⟩:=Y1h.1 (Z35 hc).1;obtain⟨a,ha,rfl⟩:=Y0i.1 hc;refine⟨Xc.2 fun i hi=>?_,(h y hy).2⟩;rw [Y00,YR,YI,Y0n] at hi;rcases hi with hi|rfl
   . exact Xc.1 (h y hy).1 i hi
   . have := (Y1f.1 ha).2;rw [Y0z,Y0k] at this;exact this.2
theorem Zm2 {t:PB} (c:Cu):∀ c'∈exL t.l t.n c,InM (mkN t.n) c':=fun c' hc'=>by
 have h1:=Zk6 (l:=t.l) (n:=t.n) (mem c.1) [(0,exN t.l t.n (mem c.2))] (fun c hc=>by rw [Y0g] at hc; subst hc; exact⟨Y46 _,rfl⟩) c' hc';refine⟨h1.1,?_⟩;rw [h1.2];refine Xc.2 fun i hi=>?_;rcases (Z7B t.l t.n i (mem c.2) 0).1 hi with h2|⟨r,hr',h2,h3⟩
 . simp at h2
 . exact h3
theorem ZcE {m:Nat} {l:List Cu} (hl:∀ c∈l,InM m c):∀ c∈X3q l,InM m c:=fun c hc=>hl c (Z35 hc).1
theorem ZkW {m:Nat} {l:List Cu} {c:Cu} (hl:∀ b∈l,InM m b) (hc:InM m c):∀ c'∈X34 l c,InM m c':=by
 have main:∀ (l:List Cu),(∀ b∈l,InM m b)->∀ out:List Cu,(∀ c∈out,InM m c)->∀ c∈l.foldl X49 out,InM m c:=by
  intro l
  induction l with
  | nil=>exact fun _ out h=>h
  | cons b l ih=>exact fun hl out h=>ih (fun x hx=>hl x (YB _ hx)) _ (Zcp h (hl b (Y0t ..)))
 refine main l hl _ fun c' hc'=>?_
 split at hc'
 . cases hc'
 . rw [Y0g] at hc'; subst hc'; exact hc
theorem ZdZ {m:Nat} {bad l:List Cu} (hb:∀ b∈bad,InM m b) (hl:∀ c∈l,InM m c):∀ c∈X1k bad l,InM m c:=fun c hc=>by
 obtain⟨x,hx,hc⟩:=Y1h.1 hc;exact ZkW hb (hl x hx) c hc
theorem Ze0 (t:PB) (l:List Cu):∀ c∈X13 t l,InM (mkN t.n) c:=fun c hc=>by
 obtain⟨x,hx,hc⟩:=Y1h.1 hc;exact Zm2 x c hc
theorem ZkX (t:PB):∀ c∈X1u t,InM (mkN t.n) c:=ZcE (Ze0 t t.nv)
theorem ZmE (t:PB):∀ c∈X5y t,InM (mkN t.n) c:=ZcE (ZdZ (ZkX t) (Ze0 t t.gl))
theorem Zk7 {m:Nat} {c:Cu} (h:InM m c) (hm:m<18446744073709551616) {tg:Nat} (ht:tg<64) (rev:Bool):InM m (X2W c tg rev):=by
 have h64:=h.lt hm;have hp:=ZP ht;unfold X2W
 split
 . exact⟨h.1,Z6T h64.2 hp h.2⟩
 . exact⟨Z6T h64.1 hp h.1,h.2⟩
theorem ZmW {t:PB} (h:Xo t) {r:RU} (hr:X42 t.n r) {c:Cu} (hc:InM (mkN t.n) c):∀ c'∈bfL t r c,InM (mkN t.n) c':=by
 have ht:=hr.tg;have hm:=Z5E h.n.2;have hbit:(mkN t.n).testBit r.tg=true:=by rw [Z21,Yw ht.1,Yw ht.2.1]; rfl
 have h1:=Zk7 hc hm (show r.tg<64 by omega) r.rev;have hy:InM (mkN t.n) (X4f c r.tg r.rev):=by
  unfold X4f
  split
  . exact Z9G h1 hbit
  . exact ZdP h1 hbit
 have ha:∀ c∈X4u t r,InM (mkN t.n) c:=fun c hc=>by
  unfold X4u X4j at hc;rcases Y0h.1 hc with hc|hc
  . exact ZkX t c hc
  . obtain ⟨x, hx, hc⟩ := Y1h.1 hc;unfold X4C at hc
    split at hc
    . rw [Y0g] at hc; subst hc;exact Zk7 (ZkX t x (YM hx)) hm (by omega) _
    . cases hc
 have hml:∀ c'∈X3U (X4f c r.tg r.rev) (exL t.l t.n r.cu),InM (mkN t.n) c':=fun c' hc'=>by
  obtain⟨i,hi,hc'⟩:=Y1h.1 hc';have hi:=Zm2 r.cu i hi;unfold X4N meC at hc';by_cases h:emC (X19 (X4f c r.tg r.rev) i)=true
  . rw [Y6 h,Y8 (by decide)] at hc'; cases hc'
  . rw [Y8 h,Y6 rfl,Y0g] at hc'; subst hc'; exact Zhd hy hi
 unfold bfL
 split
 . exact ZcE (ZdZ ha hml)
 . exact fun c' hc'=>by cases hc'
theorem Zhf {m:Nat} {c:Cu} (h:InM m c) (S:Nat):hoC c (S &&& m)=hoC c S:=by
 rw [YQ,Z1a,Z1a];refine and_congr (forall_congr' fun i=>Y3k fun hi=>?_) (forall_congr' fun i=>Y3k fun hi=>?_)
 . rw [Y0z,Xc.1 h.1 i hi,Y1m]
 . rw [Y0z,Xc.1 h.2 i hi,Y1m]
theorem ZkY {m:Nat} {l:List Cu} (h:∀ c∈l,InM m c) (S:Nat):soC l (S &&& m)=soC l S:=by
 unfold soC;rw [YQ,Y01,Y01];exact Y3r fun c=>Y2D fun hc=>by rw [Zhf (h c hc)]
theorem Zji (t:PB) (S:Nat):InS t (S &&& mkN t.n):=Xc.2 fun i hi=>by
 rw [Y0z,Y0k] at hi;exact hi.2
abbrev KE:=Cu×Int×Nat
def kcs (ks:List KE):List Cu:=ks.map (·.1)
structure X26 (t:PB) (ks:List KE):Prop where
 mem:∀ e∈ks,InM 62 e.1/\InM (mkN t.n) e.1/\emC e.1=false
 how:∀ i e,ks[i]?=some e->(e.2.1 = -1/\∀ S,InS t S->hoC e.1 S=true->Xq t S=true/\Xp t S=true) \/
  ∃ (r to:Nat) (x:RU) (e':KE),e.2=((r:Int),to)/\t.rs[r]?=some x/\to<i/\ks[to]?=some e'/\∀ S,InS t S->hoC e.1 S=true->Xq t S=true/\XB t x S=true/\hoC e'.1 (X9 x S)=true
 ws:∃ ws:List Nat,ws.length=ks.length/\ws.Nodup/\∀ w∈ws,InS t w/\soC (kcs ks) w=true
theorem X26.nil (t:PB):X26 t []:=⟨fun e he=>(by cases he),fun i e he=>(by simp at he),⟨[],rfl,Y3x,fun w hw=>(by cases hw)⟩⟩
theorem Z4O {t:PB} {w:Nat} (h:InS t w):w % 2=0/\w / 2<2 ^ t.n:=by
 have h0:w.testBit 0=false:=Yy.2 fun h0=>by
  have:=Xc.1 h 0 h0;rw [Z21] at this; cases this
 rw [Y2v] at h0;have h1:¬ w % 2=1:=YC h0;have h2:w<=mkN t.n:=by rw [<- h]; exact YN
 unfold mkN at h2;have:=Y2X t.n;omega
theorem X26.len {t:PB} {ks:List KE} (h:X26 t ks):ks.length<=2 ^ t.n:=by
 obtain⟨ws,h1,h2,h3⟩:=h.ws;have hnd:(ws.map (· / 2)).Nodup:=by
  rw [Y16,Y1w];refine Y1C (fun {a b} ha hb hab e=>hab ?_) (Y16.1 h2);have x1:=Z4O (h3 a ha).1;have x2:=Z4O (h3 b hb).1;omega
 have:=Z2y (2 ^ t.n) _ hnd fun x hx=>by
  obtain⟨w,hw,rfl⟩:=Y0i.1 hx;exact (Z4O (h3 w hw).1).2
 rw [Y0f] at this;omega
theorem X26.c64 {t:PB} {ks:List KE} (h:X26 t ks):∀ c∈kcs ks,Xy c:=fun c hc=>by
 obtain⟨e,he,rfl⟩:=Y0i.1 hc;exact (h.mem e he).1.lt (by decide)
theorem Z9M (ks:List KE) (e:KE):kcs (ks ++ [e])=kcs ks ++ [e.1]:=by simp [kcs]
theorem Zhg {a b:List Cu} {S:Nat} (h:soC a S=true):soC (a++b) S=true:=by
 have e:soC (a++b) S=(soC a S||soC b S):=Y31;rw [e,h,Y2G]
theorem X26.add {t:PB} {ks:List KE} (h:X26 t ks) {e:KE} (hm:InM 62 e.1/\InM (mkN t.n) e.1/\emC e.1=false) (hcov:X2h (kcs ks) e.1=false)
 (hh : (e.2.1 = -1 /\ ∀ S, InS t S -> hoC e.1 S = true -> Xq t S = true /\ Xp t S = true) \/
   ∃ (r to:Nat) (x:RU) (e':KE),e.2=((r:Int),to)/\t.rs[r]?=some x/\ks[to]?=some e'/\∀ S,InS t S->hoC e.1 S=true->Xq t S=true/\XB t x S=true/\hoC e'.1 (X9 x S)=true):X26 t (ks ++ [e]):=by
 obtain⟨ws,h1,h2,h3⟩:=h.ws;refine⟨fun x hx=>(Y0h.1 hx).elim (h.mem x) fun hx=>by rw [Y0g] at hx; subst hx; exact hm,fun i x hx=>?_,?_⟩
 . by_cases hi : i < ks.length
   . rw [YO hi] at hx;rcases h.how i x hx with h4|⟨r,to,y,e',h4,h5,h6,h7,h8⟩
     . exact .inl h4
     . exact .inr ⟨r,to,y,e',h4,h5,h6,by rw [YO (by omega)]; exact h7,h8⟩
   . have hi2 : i = ks.length := by
      have:=(Y7.1 hx).1;rw [Y0e,Y0s] at this;omega
     subst hi2;rw [YL (Y0m _),Y1W] at hx;cases hx;rcases hh with h4|⟨r,to,y,e',h4,h5,h7,h8⟩
     . exact .inl h4
     . have hlt := (Y7.1 h7).1;exact .inr ⟨r,to,y,e',h4,h5,hlt,by rw [YO hlt]; exact h7,h8⟩
 . obtain ⟨S, hS1, hS2⟩ : ∃ S, hoC e.1 S = true /\ soC (kcs ks) S = false := by
    apply YU;intro hn;have:X2h (kcs ks) e.1=true:=(Z9B _ h.c64 _).2 fun S hS=>by
     cases hso:soC (kcs ks) S with
     | true=>rfl
     | false=>exact absurd ⟨S,hS,hso⟩ hn
    rw [hcov] at this; cases this
   have hn:∀ c∈kcs ks,InM (mkN t.n) c:=fun c hc=>by
    obtain⟨e,he,rfl⟩:=Y0i.1 hc;exact (h.mem e he).2.1
   refine⟨ws ++ [S &&& mkN t.n],by rw [Y0e,Y0e,h1]; rfl,?_,fun w hw=>?_⟩
   . rw [Y2I];refine⟨h2,by simp,fun a ha b hb hab=>?_⟩;rw [Y0g] at hb;subst hb;subst hab;have:=(h3 _ ha).2;rw [ZkY hn,hS2] at this; cases this
   . rw [Z9M];rcases Y0h.1 hw with hw|hw
     . exact⟨(h3 w hw).1,Zhg (h3 w hw).2⟩
     . rw [Y0g] at hw; subst hw;refine⟨Zji t S,?_⟩;rw [Z6P,Zhf hm.2.1,hS1,Y39]
inductive X1I (t:PB):Nat->Prop
 | base {S:Nat} (hS:InS t S) (hg:Xq t S=true) (hr:Xp t S=true):X1I t S
 | step {S:Nat} {x:RU} (hS:InS t S) (hg:Xq t S=true) (hx:x∈t.rs) (hs:XB t x S=true) (h:X1I t (X9 x S)):X1I t S
def X11 (t:PB):Nat->List Nat->Nat->Prop
 | S,[],E=>E=S
 | S,k :: p,E=>∃ x,t.rs[k]?=some x/\XB t x S=true/\X11 t (X9 x S) p E
theorem X1I.good {t:PB} {S:Nat} (h:X1I t S):InS t S/\Xq t S=true:=by
 cases h with
 | base h1 h2 _=>exact⟨h1,h2⟩
 | step h1 h2 _ _ _=>exact⟨h1,h2⟩
theorem Z8N {t:PB} {x:RU} {S:Nat} (h:XB t x S=true):Xq t (X9 x S)=true:=by
 unfold XB at h;rw [Y0k,Y0k] at h;exact h.2.1
theorem Z1H {t:PB} (h:Xo t) {x:RU} (hx:x∈t.rs) {S:Nat} (hS:InS t S):InS t (X9 x S):=ZdR (h.rs x hx).tg.1 (h.rs x hx).tg.2.1 h.n.2 hS
theorem Z6U {t:PB} (h:Xo t):∀ (p:List Nat) {S E:Nat},InS t S->Xq t S=true->X11 t S p E->Xp t E=true->X1I t S
 | [],S,E,hS,hg,hr,he=>by cases hr; exact .base hS hg he
 | k :: p, S, E, hS, hg, ⟨x, hx, hs, hr⟩, he => by
   have hxm:=YG hx;exact .step hS hg hxm hs (Z6U h p (Z1H h hxm hS) (Z8N hs) hr he)
inductive X2S (ks:List KE):Nat->List Nat->Prop
 | stop {i:Nat} {e:KE} (h:ks[i]?=some e) (hr:e.2.1<0):X2S ks i []
 | step {i r to:Nat} {e:KE} {p:List Nat} (h:ks[i]?=some e) (hr:e.2=((r:Int),to)) (hp:X2S ks to p):X2S ks i (r :: p)
theorem Ze1 {t:PB} (h:Xo t) {ks:List KE} (hk:X26 t ks) {i:Nat} {p:List Nat} (hp:X2S ks i p):∀ {e:KE},ks[i]?=some e->∀ {S:Nat},InS t S->hoC e.1 S=true->Xq t S=true/\∃ E,X11 t S p E/\Xp t E=true:=by
 induction hp with
 | stop he hr =>
   rename_i i e0;intro e he' S hS hho;rw [he] at he'; cases he';rcases hk.how _ _ he with h4|⟨r,to,x,e',h4,_⟩
   . exact⟨(h4.2 S hS hho).1,S,rfl,(h4.2 S hS hho).2⟩
   . rw [h4] at hr; simp only at hr; omega
 | step he hr hp ih =>
   rename_i i r to e0 p;intro e he' S hS hho;rw [he] at he'; cases he';rcases hk.how _ _ he with h4|⟨r',to',x,e',h4,h5,h6,h7,h8⟩
   . rw [hr] at h4; simp only at h4; omega
   . rw [hr] at h4;obtain⟨h41,h42⟩:=Y3E h4;obtain rfl:r=r':=Y4R h41;subst h42;obtain⟨a1,a2,a3⟩:=h8 S hS hho;have hxm:=YG h5;obtain⟨b1,E,b2,b3⟩:=ih h7 (Z1H h hxm hS) a3;exact⟨a1,E,⟨x,h5,a2,b2⟩,b3⟩
theorem X26.path {t:PB} {ks:List KE} (hk:X26 t ks):∀ (m i:Nat),i<m->i<ks.length->∃ p,X2S ks i p
 | 0,i,h,_=>absurd h (by omega)
 | m + 1, i, h, hi => by
   have he:=Y0c hi;rcases hk.how i _ he with h4|⟨r,to,x,e',h4,h5,h6,h7,h8⟩
   . exact⟨[],.stop he (by rw [h4.1]; decide)⟩
   . obtain ⟨p, hp⟩ := hk.path m to (by omega) (Y7.1 h7).1;exact⟨r :: p,.step he h4 hp⟩
theorem X26.able {t:PB} (h:Xo t) {ks:List KE} (hk:X26 t ks) {S:Nat} (hS:InS t S) (hso:soC (kcs ks) S=true):X1I t S:=by
 obtain⟨c,hc,hho⟩:=Y01.1 hso;obtain⟨e,he,rfl⟩:=Y0i.1 hc;obtain⟨i,hi,rfl⟩:=Y19.1 he;obtain⟨p,hp⟩:=hk.path (i+1) i (Y2R _) hi;obtain⟨hg,E,h1,h2⟩:=Ze1 h hk hp (Y0c hi) hS hho;exact Z6U h p hS hg h1 h2
def X6q (t:PB) (c:Cu) (x:RU) (ks:List KE):Prop:=∀ S,InS t S->Xq t S=true->XB t x S=true->hoC c (X9 x S)=true->soC (kcs ks) S=true
def X5O (t:PB) (c:Cu) (ks:List KE):Prop:=∀ x∈t.rs,X6q t c x ks
def X3L (t:PB) (ks:List KE):Prop:=∀ S,InS t S->Xq t S=true->Xp t S=true->soC (kcs ks) S=true
theorem Z9N {ks ks':List KE} (h:ks <+: ks') {S:Nat} (hs:soC (kcs ks) S=true):soC (kcs ks') S=true:=by
 obtain⟨u,rfl⟩:=h;have:kcs (ks++u)=kcs ks++kcs u:=by simp [kcs]
 rw [this];exact Zhg hs
theorem X6q.pre {t:PB} {c:Cu} {x:RU} {ks ks':List KE} (h:X6q t c x ks) (hp:ks <+: ks'):X6q t c x ks':=fun S a b d e=>Z9N hp (h S a b d e)
theorem X5O.pre {t:PB} {c:Cu} {ks ks':List KE} (h:X5O t c ks) (hp:ks <+: ks'):X5O t c ks':=fun x hx=>(h x hx).pre hp
theorem X3L.pre {t:PB} {ks ks':List KE} (h:X3L t ks) (hp:ks <+: ks'):X3L t ks':=fun S a b c=>Z9N hp (h S a b c)
theorem ZaO {t:PB} (h:Xo t) {ks:List KE} (ht:X3L t ks) (he:∀ e∈ks,X5O t e.1 ks) {S:Nat} (ha:X1I t S):soC (kcs ks) S=true:=by
 induction ha with
 | base hS hg hr=>exact ht _ hS hg hr
 | step hS hg hx hs _ ih =>
   obtain⟨c,hc,hho⟩:=Y01.1 ih;obtain⟨e,hem,rfl⟩:=Y0i.1 hc;exact he e hem _ hx _ hS hg hs hho
theorem Zm3 {t:PB} {ks:List KE} (hk:X26 t ks) {c:Cu} (h:X2h (kcs ks) c=true) {S:Nat} (hs:hoC c S=true):soC (kcs ks) S=true:=(Z9B _ hk.c64 _).1 h S hs
inductive Rch (t:PB):Nat->Prop
 | base:Rch t t.st
 | step {S:Nat} {x:RU} (h:Rch t S) (hx:x∈t.rs) (hs:XB t x S=true):Rch t (X9 x S)
theorem Rch.inS {t:PB} (h:Xo t) {S:Nat} (hr:Rch t S):InS t S:=by
 induction hr with
 | base=>exact h.st
 | step _ hx _ ih=>exact Z1H h hx ih
theorem Xo.sgood {t:PB} (h:Xo t):Xq t t.st=true:=by unfold Xq; rw [h.sg]; rfl
theorem Ze2 {t:PB} {S:Nat} (ha:X1I t S):∃ p E,X11 t S p E/\Xp t E=true:=by
 induction ha with
 | base hS hg hr=>exact⟨[],_,rfl,hr⟩
 | step hS hg hx hs _ ih =>
   obtain⟨p,E,h1,h2⟩:=ih;obtain⟨k,hk,rfl⟩:=Y19.1 hx;exact⟨k :: p,E,⟨_,Y0c hk,hs,h1⟩,h2⟩
theorem Zhh {t:PB}:∀ (p:List Nat) {S E:Nat},Rch t S->X11 t S p E->Rch t E
 | [],S,E,h,hr=>by cases hr; exact h
 | k :: p,S,E,h,⟨x,hx,hs,hr⟩=>Zhh p (.step h (YG hx) hs) hr
theorem Z4P {t:PB}:∀ (p:List Nat) {S E:Nat} {k:Nat} {x:RU},X11 t S p E->t.rs[k]?=some x->XB t x E=true->X11 t S (p ++ [k]) (X9 x E)
 | [],S,E,k,x,hr,hx,hs=>by cases hr; exact⟨x,hx,hs,rfl⟩
 | j :: p,S,E,k,x,⟨y,hy,h1,h2⟩,hx,hs=>⟨y,hy,h1,Z4P p h2 hx hs⟩
theorem ZkZ {t:PB} {S:Nat} (h:Rch t S):∃ p,X11 t t.st p S:=by
 induction h with
 | base=>exact⟨[],rfl⟩
 | step _ hx hs ih =>
   obtain⟨p,hp⟩:=ih;obtain⟨k,hk,rfl⟩:=Y19.1 hx;exact⟨p ++ [k],Z4P p hp (Y0c hk) hs⟩
theorem able_iff {t:PB} (h:Xo t):X1I t t.st↔∃ E,Rch t E/\Xp t E=true:=by
 constructor
 . intro ha;obtain⟨p,E,h1,h2⟩:=Ze2 ha;exact⟨E,Zhh p .base h1,h2⟩
 . rintro ⟨E, h1, h2⟩;obtain⟨p,hp⟩:=ZkZ h1;exact Z6U h p h.st h.sgood hp h2
structure X1R (t:PB) (ks:List KE):Prop where
 inv:X26 t ks
 tgt:X3L t ks
 exp:∀ e∈ks,X5O t e.1 ks
 no:soC (kcs ks) t.st=false
theorem X1R.not_able {t:PB} (h:Xo t) {ks:List KE} (hn:X1R t ks):¬ X1I t t.st:=fun ha=>by
 have:=ZaO h hn.tgt hn.exp ha;rw [hn.no] at this; cases this
theorem X1R.able_iff {t:PB} (h:Xo t) {ks:List KE} (hn:X1R t ks) {S:Nat} (hS:InS t S):soC (kcs ks) S=true↔X1I t S:=⟨hn.inv.able h hS,ZaO h hn.tgt hn.exp⟩
def XY (t:PB) (p:List Nat):Prop:=∃ E,X11 t t.st p E/\Xp t E=true
theorem XY.able {t:PB} (h:Xo t) {p:List Nat} (hp:XY t p):X1I t t.st:=by
 obtain⟨E,h1,h2⟩:=hp;exact Z6U h p h.st h.sgood h1 h2
theorem X26.plan {t:PB} (h:Xo t) {ks:List KE} (hk:X26 t ks) {i:Nat} {e:KE} (he:ks[i]?=some e) (hs:hoC e.1 t.st=true) {p:List Nat} (hp:X2S ks i p):XY t p:=by
 obtain⟨_,E,h1,h2⟩:=Ze1 h hk hp he h.st hs;exact⟨E,h1,h2⟩
theorem Z3K {t:PB} {S E:Nat} (h:X11 t S [] E):E=S:=h
theorem ZcF {t:PB} {l:List Nat} (hn:l.Nodup) (hl:∀ s∈l,InS t s):l.length<=2 ^ t.n:=by
 have hnd:(l.map (· / 2)).Nodup:=by
  rw [Y16,Y1w];refine Y1C (fun {a b} ha hb hab e=>hab ?_) (Y16.1 hn);have x1:=Z4O (hl a ha);have x2:=Z4O (hl b hb);omega
 have:=Z2y (2 ^ t.n) _ hnd fun x hx=>by
  obtain⟨w,hw,rfl⟩:=Y0i.1 hx;exact (Z4O (hl w hw)).2
 rwa [Y0f] at this
theorem Zl0 {t:PB} {i:Nat} (hi:i<2 ^ t.n):InS t (2*i):=Xc.2 fun j hj=>by
 rw [Z21];cases j with
 | zero=>simp at hj
 | succ j =>
   rw [Y2w,show 2*i / 2=i by omega] at hj;have:j<t.n:=Nat.lt_of_not_le fun h=>by
    rw [Y1R (YY hi (YJ (by decide) h))] at hj;cases hj
   rw [Yw (show 1<=j+1 by omega),Yw (show j+1<=t.n by omega)]; rfl
theorem Z8O {l:List Nat} {a:Nat} (h:l.Nodup) (ha:a ∉ l):(l ++ [a]).Nodup:=by
 rw [Y2I];exact⟨h,by simp,fun x hx y hy e=>by rw [Y0g] at hy; subst hy; subst e; exact ha hx⟩
def X31 (k:Nat):List PV := [.val (.int .i64 (k:Int))]
def inL (l:List Nat):List (List PV):=l.map X31
theorem Zs (l:List Nat):X1 (inL l):=Zb (enc:=X31) (fun _=>⟨Yt,Yt⟩) l
theorem Z23 (l:List Nat):(inL l).length=l.length:=by simp [inL]
theorem Zjj (l:List Nat) (k:Nat):inL l ++ [X31 k]=inL (l ++ [k]):=by simp [inL]
def X4Y (out:List Nat) (s:Nat):List Nat:=if s∈out then out else out ++ [s]
theorem Zjk (out:List Nat) (s:Nat):s∈X4Y out s:=by unfold X4Y; split<;>simp_all
theorem Zjl (out:List Nat) (s:Nat):out <+: X4Y out s:=by
 unfold X4Y
 split
 . exact Y3c _
 . exact Y4c _ _
theorem Zl1 {out:List Nat} (h:out.Nodup) (s:Nat):(X4Y out s).Nodup:=by
 unfold X4Y
 split
 . exact h
 . rename_i hs; exact Z8O h hs
theorem Zjm {out:List Nat} {p:Nat->Prop} (h:∀ x∈out,p x) {s:Nat} (hs:p s):∀ x∈X4Y out s,p x:=fun x hx=>by
 unfold X4Y at hx
 split at hx
 . exact h x hx
 . rcases Y0h.1 hx with hx | hx
   . exact h x hx
   . rw [Y0g] at hx; subst hx; exact hs
structure X3X (t:PB) (at':Nat) (out:List Nat):Prop where
 nd:out.Nodup
 rch:∀ s∈out,Rch t s
 st:t.st∈out
 le:at'<=out.length
 cl:∀ i S,i<at'->out[i]?=some S->∀ x∈t.rs,XB t x S=true->X9 x S∈out
structure X4V (t:PB) (at':Nat) (S k:Nat) (out:List Nat):Prop where
 i:X3X t at' out
 s:out[at']?=some S
 ok:∀ j x,j<k->t.rs[j]?=some x->XB t x S=true->X9 x S∈out
theorem X3X.base (t:PB):X3X t 0 [t.st]:=⟨by simp,fun s hs=>by rw [Y0g] at hs; subst hs; exact .base,by simp,Y0l _,fun i S hi=>absurd hi (Ye i)⟩
theorem X3X.len {t:PB} (h:Xo t) {a:Nat} {out:List Nat} (hi:X3X t a out):out.length<=2 ^ t.n:=ZcF hi.nd fun s hs=>(hi.rch s hs).inS h
theorem X3X.begin {t:PB} {a:Nat} {out:List Nat} (hi:X3X t a out) {S:Nat} (hs:out[a]?=some S):X4V t a S 0 out:=⟨hi,hs,fun j x hj=>absurd hj (Ye j)⟩
theorem Z2R {α:Type} {out out':List α} (h:out <+: out') {i:Nat} {S:α} (hs:out[i]?=some S):out'[i]?=some S:=by
 obtain⟨u,rfl⟩:=h;rw [YO (Y7.1 hs).1]; exact hs
theorem pre_get' {α:Type} {out out':List α} (h:out <+: out') {i:Nat} {S:α} (hs:out'[i]?=some S) (hi:i<out.length):out[i]?=some S:=by
 obtain⟨u,rfl⟩:=h
 rwa [YO hi] at hs
theorem X4V.skip {t:PB} {a S k:Nat} {out:List Nat} (h:X4V t a S k out) {x:RU} (hx:t.rs[k]?=some x) (hn:XB t x S=false):X4V t a S (k+1) out :=
 ⟨h.i,h.s,fun j y hj hy hs=>by
  by_cases e:j<k
  . exact h.ok j y e hy hs
  . obtain rfl : j = k := by omega
    rw [hx] at hy; cases hy
    rw [hn] at hs; cases hs⟩
theorem X4V.add {t:PB} {a S k:Nat} {out:List Nat} (h:X4V t a S k out) {x:RU} (hx:t.rs[k]?=some x) (hs:XB t x S=true):X4V t a S (k+1) (X4Y out (X9 x S)):=by
 have hp:=Zjl out (X9 x S);have hS:Rch t S:=h.i.rch S (YG h.s);refine⟨⟨Zl1 h.i.nd _,Zjm h.i.rch (.step hS (YG hx) hs),hp.subset h.i.st,Y03 h.i.le hp.length_le,fun i T hi hT y hy hs'=>?_⟩,Z2R hp h.s,fun j y hj hy hs'=>?_⟩
 . exact hp.subset (h.i.cl i T hi (pre_get' hp hT (YY hi h.i.le)) y hy hs')
 . by_cases e : j < k
   . exact hp.subset (h.ok j y e hy hs')
   . obtain rfl : j = k := by omega
     rw [hx] at hy; cases hy;exact Zjk _ _
theorem X4V.done {t:PB} {a S k:Nat} {out:List Nat} (h:X4V t a S k out) (hk:t.rs.length<=k):X3X t (a+1) out :=
 ⟨h.i.nd,h.i.rch,h.i.st,(Y7.1 h.s).1,fun i T hi hT y hy hs=>by
  by_cases e:i<a
  . exact h.i.cl i T e hT y hy hs
  . obtain rfl : i = a := by omega
    rw [h.s] at hT; cases hT;obtain⟨j,hj,rfl⟩:=Y19.1 hy
    exact h.ok j _ (by omega) (Y0c hj) hs⟩
theorem X3X.all {t:PB} {out:List Nat} (h:X3X t out.length out) {S:Nat} (hr:Rch t S):S∈out:=by
 induction hr with
 | base=>exact h.st
 | step _ hx hs ih =>
   obtain⟨i,hi,rfl⟩:=Y19.1 ih;exact h.cl i _ hi (Y0c hi) _ hx hs
theorem X3X.able {t:PB} (h:Xo t) {out:List Nat} (hi:X3X t out.length out):out.any (Xp t)=true↔X1I t t.st:=by
 rw [able_iff h,Y01];exact Y3r fun S=>and_congr_left fun _=>⟨hi.rch S,hi.all⟩
structure FE where
 s:Nat
 fr:Int
 k:Int
inductive X28 (L:List FE):Nat->List Nat->Prop
 | base {i:Nat} {e:FE} (h:L[i]?=some e) (hf:e.fr<0):X28 L i []
 | step {i j k:Nat} {e:FE} {p:List Nat} (h:L[i]?=some e) (hf:e.fr=(j:Int)) (hj:j<i) (hk:e.k=(k:Int)) (hp:X28 L j p):X28 L i (p ++ [k])
theorem X28.mono {L L':List FE} (hpre:L <+: L') {i:Nat} {p:List Nat} (h:X28 L i p):X28 L' i p:=by
 induction h with
 | base h hf=>exact .base (Z2R hpre h) hf
 | step h hf hj hk _ ih=>exact .step (Z2R hpre h) hf hj hk ih
theorem Z6v {t:PB}:∀ (p:List Nat) {S E k:Nat},X11 t S (p ++ [k]) E->∃ E' x,X11 t S p E'/\t.rs[k]?=some x/\XB t x E'=true/\E=X9 x E'
 | [],S,E,k,⟨x,hx,hs,hr⟩=>⟨S,x,rfl,hx,hs,hr⟩
 | j :: p, S, E, k, ⟨y, hy, h1, h2⟩ => by
   obtain⟨E',x,h3,h4,h5,h6⟩:=Z6v p h2;exact⟨E',x,⟨y,hy,h1,h3⟩,h4,h5,h6⟩
structure BF (t:PB) (d lo:Nat) (L:List FE):Prop where
 nd:(L.map FE.s).Nodup
 le:lo<=L.length
 rch:∀ e∈L,Rch t e.s
 old:∀ (i:Nat) (e:FE),i<lo->L[i]?=some e->∃ p,X11 t t.st p e.s/\p.length<d
 new:∀ (i:Nat) (e:FE),lo<=i->L[i]?=some e->∃ p,X28 L i p/\X11 t t.st p e.s/\p.length=d
 low:∀ p E,X11 t t.st p E->p.length<d->∃ (i:Nat) (e:FE),i<lo/\L[i]?=some e/\e.s=E
 all:∀ p E,X11 t t.st p E->p.length<=d->∃ (i:Nat) (e:FE),L[i]?=some e/\e.s=E
 no:∀ (i:Nat) (e:FE),i<lo->L[i]?=some e->Xp t e.s=false
def feS (t:PB):FE:=⟨t.st,-1,-1⟩
theorem BF.start (t:PB):BF t 0 0 [feS t] where
 nd:=by simp
 le:=Y0l _
 rch:=fun e he=>by rw [Y0g] at he; subst he; exact .base
 old:=fun i e hi=>absurd hi (Ye i)
 new:=fun i e _ he=>by
  match i,he with
  | 0, he =>
    have he:some (feS t)=some e:=he;cases he;exact⟨[],.base (e:=feS t) rfl (show (-1:Int)<0 by decide),rfl,rfl⟩
 low:=fun p E _ hp=>absurd hp (Ye _)
 all:=fun p E hr hp=>by
  obtain rfl:=Y30.1 (Nat.le_zero.1 hp);exact⟨0,feS t,rfl,(Z3K hr).symm⟩
 no:=fun i e hi=>absurd hi (Ye i)
theorem BF.len {t:PB} (h:Xo t) {d lo:Nat} {L:List FE} (b:BF t d lo L):L.length<=2 ^ t.n:=by
 have:=ZcF (t:=t) b.nd fun s hs=>by
  obtain⟨e,he,rfl⟩:=Y0i.1 hs;exact (b.rch e he).inS h
 rwa [Y0f] at this
theorem BF.short {t:PB} {d lo:Nat} {L:List FE} (b:BF t d lo L) {p:List Nat} (hp:XY t p):d<=p.length:=by
 refine Y4q fun hlt=>?_;obtain⟨E,h1,h2⟩:=hp;obtain⟨i,e,h3,h4,rfl⟩:=b.low p E h1 hlt;rw [b.no i e h3 h4] at h2; cases h2
structure BG (t:PB) (d lo:Nat) (L0:List FE) (i k:Nat) (L:List FE):Prop where
 b:BF t d lo L0
 pre:L0 <+: L
 nd:(L.map FE.s).Nodup
 rch:∀ e∈L,Rch t e.s
 new:∀ (j:Nat) (e:FE),L0.length<=j->L[j]?=some e->∃ p,X28 L j p/\X11 t t.st p e.s/\p.length=d+1
 done:∀ (j:Nat) (e:FE),lo<=j->j<i->L0[j]?=some e->∀ x∈t.rs,XB t x e.s=true->X9 x e.s∈L.map FE.s
 cur:∀ (e:FE),L0[i]?=some e->∀ (j:Nat) (x:RU),j<k->t.rs[j]?=some x->XB t x e.s=true->X9 x e.s∈L.map FE.s
theorem BG.begin {t:PB} {d lo:Nat} {L:List FE} (b:BF t d lo L):BG t d lo L lo 0 L where
 b:=b
 pre:=Y3c _
 nd:=b.nd
 rch:=b.rch
 new:=fun j e hj he=>absurd (Y7.1 he).1 (by omega)
 done:=fun j e h1 h2=>absurd h1 (by omega)
 cur:=fun e _ j x hj=>absurd hj (Ye j)
theorem BG.len {t:PB} (h:Xo t) {d lo i k:Nat} {L0 L:List FE} (g:BG t d lo L0 i k L):L.length<=2 ^ t.n:=by
 have:=ZcF (t:=t) g.nd fun s hs=>by
  obtain⟨e,he,rfl⟩:=Y0i.1 hs;exact (g.rch e he).inS h
 rwa [Y0f] at this
theorem BG.skip {t:PB} {d lo i k:Nat} {L0 L:List FE} (g:BG t d lo L0 i k L) {e:FE} (he:L0[i]?=some e) {x:RU} (hx:t.rs[k]?=some x) (hn:XB t x e.s=false \/ X9 x e.s∈L.map FE.s):BG t d lo L0 i (k+1) L :=
 ⟨g.b,g.pre,g.nd,g.rch,g.new,g.done,fun e' he' j y hj hy hs=>by
  rw [he] at he'; cases he';by_cases hjk:j=k
  . subst hjk;rw [hx] at hy; cases hy;rcases hn with hn|hn
    . rw [hn] at hs; cases hs
    . exact hn
  . exact g.cur e he j y (by omega) hy hs⟩
theorem BG.add {t:PB} {d lo i k:Nat} {L0 L:List FE} (g:BG t d lo L0 i k L) (hlo:lo<=i) {e:FE} (he:L0[i]?=some e) {x:RU} (hx:t.rs[k]?=some x) (hs:XB t x e.s=true) (hn:X9 x e.s ∉ L.map FE.s):BG t d lo L0 i (k+1) (L ++ [⟨X9 x e.s,(i:Int),(k:Int)⟩]):=by
 have hpre:L <+: L ++ [⟨X9 x e.s,(i:Int),(k:Int)⟩]:=Y4c _ _;have hsub:∀ {s:Nat},s∈L.map FE.s->s∈(L ++ [(⟨X9 x e.s,(i:Int),(k:Int)⟩:FE)]).map FE.s:=fun hm=>by rw [Y0r]; exact Y2M _ hm
 have hil:i<L0.length:=(Y7.1 he).1;have hle:L0.length<=L.length:=g.pre.length_le;refine⟨g.b,g.pre.trans hpre,?_,fun y hy=>?_,fun j y hj hy=>?_,fun j y h1 h2 h3 z hz h4=>hsub (g.done j y h1 h2 h3 z hz h4),fun e' he' j y hj hy hst=>?_⟩
 . rw [Y0r];exact Z8O g.nd hn
 . rcases Y0h.1 hy with hy | hy
   . exact g.rch y hy
   . rw [Y0g] at hy; subst hy;exact .step (g.rch e (YG (Z2R g.pre he))) (YG hx) hs
 . by_cases hjl : j < L.length
   . rw [YO hjl] at hy;obtain⟨p,h1,h2,h3⟩:=g.new j y hj hy;exact⟨p,h1.mono hpre,h2,h3⟩
   . have hjl2 : j = L.length := by
      have:=(Y7.1 hy).1;rw [Y0e,Y0s] at this;omega
     subst hjl2;rw [YL (Y0m _),Y1W] at hy;have hy:some (⟨X9 x e.s,(i:Int),(k:Int)⟩:FE)=some y:=hy;cases hy;obtain⟨p,h1,h2,h3⟩:=g.b.new i e hlo he;refine⟨p ++ [k],.step (e:=⟨X9 x e.s,(i:Int),(k:Int)⟩) (by rw [YL (Y0m _),Y1W]; rfl) rfl (by omega) rfl ((h1.mono g.pre).mono hpre),Z4P p h2 hx hs,?_⟩;rw [Y0e,Y0s,h3]
 . rw [he] at he'; cases he';by_cases hjk:j=k
   . subst hjk;rw [hx] at hy; cases hy;rw [Y0r];exact List.mem_append_right _ (by simp)
   . exact hsub (g.cur e he j y (by omega) hy hst)
theorem BG.next {t:PB} {d lo i k:Nat} {L0 L:List FE} (g:BG t d lo L0 i k L) (hk:t.rs.length<=k):BG t d lo L0 (i+1) 0 L :=
 ⟨g.b,g.pre,g.nd,g.rch,g.new,fun j e h1 h2 he x hx hs=>by
  by_cases hj:j=i
  . subst hj;obtain⟨m,hm,rfl⟩:=Y19.1 hx;exact g.cur e he m _ (by omega) (Y0c hm) hs
  . exact g.done j e h1 (by omega) he x hx hs,fun e _ j x hj=>absurd hj (Ye j)⟩
def X3v (t:PB) (lo:Nat) (L:List FE):Prop:=∀ (i:Nat) (e:FE),lo<=i->L[i]?=some e->Xp t e.s=false
theorem BG.step {t:PB} {d lo i:Nat} {L0 L:List FE} (g:BG t d lo L0 i 0 L) (hi:L0.length<=i) {e:FE} {j:Nat} (he:L0[j]?=some e) {x:RU} (hx:x∈t.rs) (hs:XB t x e.s=true):X9 x e.s∈L.map FE.s:=by
 have hjl:=(Y7.1 he).1;by_cases hj:lo<=j
 . exact g.done j e hj (by omega) he x hx hs
 . obtain ⟨p, h1, h2⟩ := g.b.old j e (by omega) he;obtain⟨k,hk,rfl⟩:=Y19.1 hx;obtain⟨i',e',h3,h4⟩:=g.b.all (p ++ [k]) _ (Z4P p h1 (Y0c hk) hs) (by rw [Y0e,Y0s];omega);rw [<- h4];exact Y0i.2 ⟨e',YG (Z2R g.pre h3),rfl⟩
theorem BG.finish {t:PB} {d lo i:Nat} {L0 L:List FE} (g:BG t d lo L0 i 0 L) (hi:L0.length<=i) (hng:X3v t lo L0):BF t (d+1) L0.length L where
 nd:=g.nd
 le:=g.pre.length_le
 rch:=g.rch
 old:=fun j e hj he=>by
  have he':=pre_get' g.pre he hj;by_cases h:j<lo
  . obtain ⟨p, h1, h2⟩ := g.b.old j e h he';exact⟨p,h1,by omega⟩
  . obtain ⟨p, _, h1, h2⟩ := g.b.new j e (by omega) he';exact⟨p,h1,by omega⟩
 new:=g.new
 low:=fun p E hr hp=>by
  obtain⟨j,e,h1,h2⟩:=g.b.all p E hr (by omega);exact⟨j,e,(Y7.1 h1).1,Z2R g.pre h1,h2⟩
 all:=fun p E hr hp=>by
  by_cases h:p.length<=d
  . obtain ⟨j, e, h1, h2⟩ := g.b.all p E hr h;exact⟨j,e,Z2R g.pre h1,h2⟩
  . rcases List.eq_nil_or_concat p with rfl | ⟨q, k, rfl⟩
    . exact absurd (Y0l d) h
    . rw [List.concat_eq_append] at hr hp;obtain⟨E',x,h1,h2,h3,rfl⟩:=Z6v q hr;rw [Y0e,Y0s] at hp;obtain⟨j,e,h4,rfl⟩:=g.b.all q E' h1 (by omega);obtain⟨e',h5,h6⟩:=Y0i.1 (g.step hi h4 (YG h2) h3);obtain⟨m,hm,rfl⟩:=Y19.1 h5;exact⟨m,_,Y0c hm,h6⟩
 no:=fun j e hj he=>by
  have he':=pre_get' g.pre he hj;by_cases h:j<lo
  . exact g.b.no j e h he'
  . exact hng j e (by omega) he'
theorem BG.closed {t:PB} (h:Xo t) {d lo i:Nat} {L0 L:List FE} (g:BG t d lo L0 i 0 L) (hi:L0.length<=i) (hng:X3v t lo L0) (hlen:L.length=L0.length):¬ X1I t t.st:=by
 have hL:L0=L:=g.pre.eq_of_length hlen.symm;subst hL;have hall:∀ S,Rch t S->∃ (j:Nat) (e:FE),L0[j]?=some e/\e.s=S:=fun S hr=>by
  induction hr with
  | base=>exact g.b.all [] t.st rfl (Y0l _)
  | step _ hx hs ih =>
    obtain⟨j,e,h1,rfl⟩:=ih;obtain⟨e',h5,h6⟩:=Y0i.1 (g.step hi h1 hx hs);obtain⟨m,hm,rfl⟩:=Y19.1 h5;exact⟨m,_,Y0c hm,h6⟩
 intro ha;obtain⟨E,h1,h2⟩:=(able_iff h).1 ha;obtain⟨j,e,h3,rfl⟩:=hall E h1;by_cases hj:j<lo
 . rw [g.b.no j e hj h3] at h2; cases h2
 . rw [hng j e (by omega) h3] at h2; cases h2
end
section
open Go.RowKit
attribute [local irreducible] aw Xr dK
theorem ZcH:X7 Tryz.prog 137 [XG 0] (· = .vec [] true):=by
 refine Yp ok137 fun C hC=>?_;refine Zm ?_;refine Z9 ?_;refine Z5 rfl rfl rfl ?_;refine gd 9 ⟨?_⟩;refine Qe (Z3D 0 (by decide)) ⟨Z2 0,Yt⟩ ?_;refine go ?_;exact Z8 rfl Yt rfl
theorem Zfd (N:Nat) (h0:N≠0) (hN:N<256):X7 Tryz.prog 137 [XG N] (· = .vec (bys [N]) false):=by
 have h64:N<18446744073709551616:=by omega
 have hs:XG N=.agg [.vec [[.val (.int .u64 (N:Int))]] false]:=by unfold XG; rw [Z5r h64 h0]; rfl
 have hg:=Z3D N h64;rw [Yw h0] at hg;have hb:=ZgP (k:=8) hN;have hp:=Z7q h0;have ht:X67 N=(bl N:Int)-1:=by unfold X67; rw [Y8 h0]
 have hq:IntKind.i64.wrap (Int.tdiv (X67 N) 8)=0:=by
  rw [ht];obtain⟨k,hk⟩:∃ k:Nat,(bl N:Int)-1=(k:Int)/\k<8:=⟨bl N-1,by omega,by omega⟩
  rw [hk.1];have:∀ k,k<8->IntKind.i64.wrap (Int.tdiv ((k:Nat):Int) 8)=0:=by decide
  exact this k hk.2
 refine Yp ok137 fun C hC=>?_;rw [hs];refine Zm ?_;refine Z9 ?_;refine Z5 rfl rfl rfl ?_;refine gd 9 ⟨?_⟩;rw [hs] at hg;refine Qe hg ⟨⟨⟨⟨Yt,Yt⟩,Yt⟩,Yt⟩,Yt⟩ ?_;refine gd 15 ⟨?_⟩;refine Ze rfl rfl rfl hq ?_;refine go ?_;refine Z1i 1 ?_;unfold X1N;refine gd 34 ⟨?_⟩;refine Z3x rfl rfl (by decide) (Z44 N 0 (by decide)) rfl ?_
 refine Ze (v:=(N:Int)) rfl rfl rfl (by
  rw [Nat.pow_zero,Nat.div_one]
  exact Y3I _ ⟨by omega,by omega⟩) ?_
 refine gd 38 ⟨?_⟩;refine Za (Zj (k:=5) (b:=⟨1,bys [N]⟩) rfl rfl (Zg [N])) ?_;refine go ?_;exact Z8 rfl (Zg [N]) rfl
def X66 (N:Nat):PV:=if N=0 then .vec [] true else .vec (bys [N]) false
theorem Z3L (N:Nat) (hN:N<256):X7 Tryz.prog 137 [XG N] (· = X66 N):=by
 unfold X66;by_cases h0:N=0
 . subst h0; rw [Y6 rfl]; exact ZcH
 . rw [Y8 h0]; exact Zfd N h0 hN
def X36 (N:Nat):ByteArray:=strOfNums (if N=0 then [] else [(N:Int)])
theorem Zhi {e:Env} {h:X2} {n:Nat} {x:Operand} {N:Nat} (hx:ev e x=some (X66 N)):X3 (.b2s x) e h n=some (.val (.string (X36 N)),h):=by
 unfold X36;unfold X66 at hx;by_cases h0:N=0
 . rw [Y6 h0] at hx ⊢;simp only [X3,hx]
   rfl
 . rw [Y8 h0] at hx ⊢;simp only [X3,hx]
   rfl
theorem Ze3 {N M:Nat} (hN:N<256) (hM:M<256) (h:X36 N=X36 M):N=M:=by
 have h1:=congrArg (fun b:ByteArray=>b.data.toList) h;unfold X36 at h1;simp only [strOfNums_data] at h1;by_cases hn:N=0
 . by_cases hm : M = 0
   . omega
   . rw [Y6 hn,Y8 hm] at h1; simp at h1
 . by_cases hm : M = 0
   . rw [Y8 hn,Y6 hm] at h1; simp at h1
   . rw [Y8 hn, Y8 hm] at h1;simp only [Y1J,List.map_nil,List.cons.injEq,and_true,YZ] at h1;have h2:=congrArg UInt8.toNat h1;simp only [UInt8.toNat_ofNat'] at h2;omega
theorem ZaP (m:Int):X7 Tryz.prog 205 [.val (.int .i64 m)] (· = .val (.bool false)):=by
 refine Yp ok205 fun C hC=>?_;refine gd 5 ⟨?_⟩;refine Qo (Z4 (v:=false) rfl (by simp)) ?_;refine go ?_;exact Z8 rfl Yt rfl
theorem ZcI (a b:Int):X7 Tryz.prog 192 [.val (.int .i64 a),.val (.int .i64 b)] fun r=>∃ c:Int,r=.val (.int .i64 c):=by
 refine Yp ok192 fun C hC=>?_;refine gd 8 ⟨?_⟩;refine Qe (ZaP a) ⟨Yt,Yt⟩ ?_;refine gd 10 ⟨?_⟩;refine Qe (ZaP b) ⟨Yt,Yt⟩ ?_;(refine go ?_;repeat' (apply B<;>intro hb<;>try cases hb))
 all_goals exact Z8 rfl Yt ⟨_,rfl⟩
theorem ZaQ (p q:List Nat) (fp fq:Bool) (hp:p.length<=1000000) (hq:q.length<=1000000):X7 Tryz.prog 164 [.vec (inL p) fp,.vec (inL q) fq] fun r=>∃ c:Int,r=.val (.int .i64 c):=by
 have ip:∀ D,Xt D (inL p):=fun D=>Zd (fun _ h=>h.elim) _ (Zs p);have iq:∀ D,Xt D (inL q):=fun D=>Zd (fun _ h=>h.elim) _ (Zs q);have lp:=Z23 p;have lq:=Z23 q;refine Yp ok164 fun C hC=>?_;refine gd 10 ⟨?_⟩;refine Ze (v:=(p.length:Int)) rfl rfl rfl (by rw [lp]) ?_;refine go ?_;refine Zz hC (fun i=>i<=p.length) (fun i=>p.length-i) 0 (fun i => [(0,.vec (inL p) fp),(1,.vec (inL q) fq),(9,.vec (inL p) fp),(10,.val (.int .i64 (p.length:Int))),(11,Yv i)]) (fun _=>[]) (Y0l _) 0 (Y0l _)
  ⟨⟨rfl,ip _⟩,⟨rfl,iq _⟩,⟨rfl,ip _⟩,⟨rfl,Yt⟩,⟨rfl,Yt⟩,Yt⟩ Yt ?_
 intro i hi;have hinc:IntKind.i64.wrap ((i:Int)+1)=((i+1:Nat):Int):=Y0v _ ⟨by omega,by omega⟩;refine gd 12 ⟨?_⟩;by_cases hil:i<p.length
 . refine Qo (Qy rfl (Y1z.2 hil)) ?_;refine gd 14 ⟨?_⟩;refine Qo (Zl (xs:=p) (g:=X31) rfl rfl i rfl hil rfl) ?_;refine gd 18 ⟨?_⟩;refine Ze (v:=(q.length:Int)) rfl rfl rfl (by rw [lq]) ?_;by_cases hiq:i<q.length
   . refine Qo (Qz rfl (by omega)) ?_;refine gd 22 ⟨?_⟩;refine Qo (Zl (xs:=q) (g:=X31) rfl rfl i rfl hiq rfl) ?_;refine gd 26 ⟨?_⟩;refine Zw rfl rfl (ZcI _ _) ⟨Yt,Yt,Yt⟩ rfl ?_;rintro r ⟨c,rfl⟩;refine gd 28 ⟨?_⟩;refine Zt rfl rfl rfl (fun hb=>?_) (fun hb=>?_)
     . refine go ?_;exact Z8 rfl Yt ⟨_,rfl⟩
     . refine go ?_;exact⟨i+1,hil,by omega,⟨⟨rfl,ip _⟩,⟨rfl,iq _⟩,⟨rfl,ip _⟩,⟨rfl,Yt⟩,⟨by show some _=some _; rw [hinc],Yt⟩,Yt⟩,Yt⟩
   . refine Qo (Qy rfl (by omega)) ?_;refine go ?_;exact Z8 rfl Yt ⟨_,rfl⟩
 . refine Qo (Qz rfl (by omega)) ?_;refine gd 35 ⟨?_⟩;refine Zt rfl rfl rfl (fun hb=>?_) (fun hb=>?_)
   all_goals
    refine go ?_;exact Z8 rfl Yt ⟨_,rfl⟩
def X78 (kd:IntKind) (x:Nat):List PV := [.val (.int kd (x:Int))]
def Xn (kd:IntKind) (l:List Nat):List (List PV):=l.map (X78 kd)
theorem Z1g (kd:IntKind) (l:List Nat):X1 (Xn kd l):=Zb (enc:=X78 kd) (fun _=>⟨Yt,Yt⟩) l
theorem Z1I (kd:IntKind) (l:List Nat):(Xn kd l).length=l.length:=by simp [Xn]
theorem Z8P (kd:IntKind) (l:List Nat) {j:Nat} (hj:j<l.length):(Xn kd l).getD j []=X78 kd (l.getD j 0):=by
 unfold Xn;simp [Y0b,hj]
theorem Zhj {kd:IntKind} {e:Env} {h:X2} {n:Nat} {a:Operand} {k j:Nat} {L:List Nat} (ha:ev e a=some (.ptr k j 0)) (hb:h k=some ⟨1,Xn kd L⟩) (hj:j<L.length) :
 X3 (.load false 1 a) e h n=some (.val (.int kd ((L.getD j 0:Nat):Int)),h) :=
 Z1v ha hb (by rw [Z1I]; exact hj) (by rw [Z8P kd L hj]; rfl)
theorem Zm5 {kd:IntKind} {e:Env} {h:X2} {n:Nat} {a v:Operand} {k j x:Nat} {L:List Nat} (ha:ev e a=some (.ptr k j 0)) (hv:ev e v=some (.val (.int kd (x:Int)))) (hb:h k=some ⟨1,Xn kd L⟩) (hj:j<L.length) :
 X3 (.store 1 a v) e h n=some (pvu,h.upd k ⟨1,Xn kd (L.set j x)⟩):=by
 have:=Z1Q (n:=n) (size:=1) ha hv hb rfl rfl (show j<(Xn kd L).length by rw [Z1I]; exact hj) (Y0m 1);rw [this];have e1:(Xn kd L).set j (Xl ((Xn kd L).getD j []) 0 (PV.val (.int kd (x:Int))).cells)=Xn kd (L.set j x):=by
  rw [Z8P kd L hj];unfold Xn;rw [Y4m]
  rfl
 simp only;rw [e1]
def X3I (l:List Nat) (i:Nat):List Nat:=(List.range l.length).map fun x=>if x<i \/ l.length-i<=x then l.getD (l.length-1-x) 0 else l.getD x 0
theorem Z36 (l:List Nat) (i:Nat):(X3I l i).length=l.length:=by simp [X3I]
theorem Z4Q (l:List Nat) (i:Nat) {x:Nat} (hx:x<l.length):(X3I l i).getD x 0=if x<i \/ l.length-i<=x then l.getD (l.length-1-x) 0 else l.getD x 0:=by
 unfold X3I;simp [Y0b,hx]
theorem Z7K {l m:List Nat} (hl:l.length=m.length) (h:∀ x,x<l.length->l.getD x 0=m.getD x 0):l=m:=by
 refine Y4s hl fun i h1 h2=>?_;have:=h i h1;simpa [Y0b,h1,h2] using this
theorem Zhk (l:List Nat):X3I l 0=l:=Z7K (Z36 l 0) fun x hx=>by
 rw [Z36] at hx;rw [Z4Q l 0 hx,Y8 (by omega)]
theorem Zjn (l:List Nat) {i:Nat} (hi:l.length<=2*i+1):X3I l i=l.reverse:=Z7K (by rw [Z36,List.length_reverse]) fun x hx=>by
 rw [Z36] at hx;rw [Z4Q l i hx];have hr:l.reverse.getD x 0=l.getD (l.length-1-x) 0:=by
  simp only [Y0b];rw [List.getElem?_reverse hx]
 rw [hr]
 split
 . rfl
 . rw [show x = l.length - 1 - x by omega];rw [show l.length-1-(l.length-1-x)=x by omega];rw [show l.length-1-x=x by omega]
theorem ZaR (L:List Nat) (j x y:Nat):(L.set j x).getD y 0=if y=j/\j<L.length then x else L.getD y 0:=by
 simp only [Y0b,Y1p];by_cases h:j=y
 . subst h;by_cases hj:j<L.length
   . simp [hj]
   . simp [hj]
 . rw [Y8 h,Y8 (fun c=>h c.1.symm)]
theorem Zhl (l:List Nat) {i:Nat} (hi:2*i+1<l.length):((X3I l i).set i ((X3I l i).getD (l.length-1-i) 0)).set (l.length-1-i) ((X3I l i).getD i 0)=X3I l (i+1):=by
 refine Z7K (by simp [Z36]) fun x hx=>?_;have hx:x<l.length:=by simpa [Z36] using hx
 rw [ZaR,ZaR,Y18,Z36,Z4Q l (i+1) hx,Z4Q l i hx,Z4Q l i (show l.length-1-i<l.length by omega),Z4Q l i (show i<l.length by omega)];by_cases h1:x=l.length-1-i
 . rw [Y6 ⟨h1, by omega⟩, Y8 (by omega), Y6 (by omega)];rw [h1,show l.length-1-(l.length-1-i)=i by omega]
 . rw [Y8 (fun c => h1 c.1)];by_cases h2:x=i
   . rw [Y6 ⟨h2,by omega⟩,Y8 (by omega),Y6 (by omega),h2]
   . rw [Y8 (fun c => h2 c.1)];by_cases h3:x<i \/ l.length-i<=x
     . rw [Y6 h3,Y6 (by omega)]
     . rw [Y8 h3,Y8 (by omega)]
theorem ZaS {kd:IntKind} {f nt:Nat} (ok:X3O Tryz.prog f nt ir191 []) (hn:1<=nt) (l:List Nat) (hl:l.length<=1000000):X2n Tryz.prog f (fun i => [.own i]) ⟨1,Xn kd l⟩ fun r b'=>b'=⟨1,Xn kd l.reverse⟩:=by
 have hl1:=Z1I kd l;refine Z7J ok hn fun C hC=>?_;refine gd 5 ⟨?_⟩;refine Ze (v:=(l.length:Int)) rfl rfl rfl (by rw [hl1]) ?_;refine Ze (v:=(l.length:Int)-1-((0:Nat):Int)) rfl rfl rfl (by rw [Int.natCast_zero,Int.sub_zero]; exact Y0v _ ⟨by omega,by omega⟩) ?_;refine go ?_;refine Zz hC (fun i=>2*i<=l.length+1) (fun i=>l.length+1-i) 1 (fun i => [(0,.own 0),(2,Yv i),(3,.val (.int .i64 ((l.length:Int)-1-(i:Int))))]) (fun i => [(0,⟨1,Xn kd (X3I l i)⟩)]) (by decide) 0 (by omega)
  ⟨⟨rfl,Y1M⟩,⟨rfl,Yt⟩,⟨rfl,Yt⟩,Yt⟩ ⟨⟨by decide,by rw [Zhk]; rfl,Zd (fun _ h=>h.elim) _ (Z1g _ _)⟩,Yt⟩ ?_
 intro i hi;have hrl:=Z36 l i;have hinc:IntKind.i64.wrap ((i:Int)+1)=((i+1:Nat):Int):=Y0v _ ⟨by omega,by omega⟩;have hdec:IntKind.i64.wrap ((l.length:Int)-1-(i:Int)-1)=(l.length:Int)-1-((i+1:Nat):Int):=by
  rw [show (l.length:Int)-1-(i:Int)-1=(l.length:Int)-1-((i+1:Nat):Int) by omega];exact Y0v _ ⟨by omega,by omega⟩
 refine gd 9 ⟨?_⟩;by_cases hil:2*i+1<l.length
 . refine Qo (Qy rfl (by omega)) ?_;have hj:l.length-1-i<(X3I l i).length:=by omega
   have hi2:i<(X3I l i).length:=by omega
   refine gd 20 ⟨?_⟩;refine Qr (ZF rfl rfl rfl (l.length-1-i) (by omega) (by rw [Z1I]; exact hj) rfl) ?_;refine Qr (Zhj (kd:=kd) (L:=X3I l i) rfl rfl hj) ?_;refine gd 24 ⟨?_⟩;refine Qr (ZF rfl rfl rfl i rfl (by rw [Z1I]; exact hi2) rfl) ?_;refine Qr (Zhj (kd:=kd) (L:=X3I l i) rfl rfl hi2) ?_;refine Qr (ZF rfl rfl rfl i rfl (by rw [Z1I]; exact hi2) rfl) ?_;refine Qr (Zm5 (kd:=kd) (L:=X3I l i) rfl rfl rfl hi2) ?_;refine Qr (ZF rfl rfl rfl (l.length-1-i) (by omega) (by rw [Z1I,Y18]; exact hj) rfl) ?_;refine Qr (Zm5 (kd:=kd) rfl rfl rfl (by rw [Y18]; exact hj)) ?_;rw [Zhl l hil];refine go ?_;exact⟨i+1,by omega,by omega,⟨⟨rfl,Y1M⟩,⟨by show some _=some _; rw [hinc],Yt⟩,⟨by show some _=some _; rw [hdec],Yt⟩,Yt⟩,⟨⟨by decide,rfl,Zd (fun _ h=>h.elim) _ (Z1g _ _)⟩,Yt⟩⟩
 . refine Qo (Qz rfl (by omega)) ?_;refine go ?_;exact⟨_,_,rfl,.inl rfl,_,rfl,Yt,Z1g _ _,by rw [Zjn l (by omega)]⟩
theorem Zfe (l:List Nat) (hl:l.length<=1000000):X2n Tryz.prog 191 (fun i => [.own i]) ⟨1,Xn .i64 l⟩ fun r b'=>b'=⟨1,Xn .i64 l.reverse⟩:=ZaS ok191 (by decide) l hl
theorem Zff (l:List Nat) (hl:l.length<=1000000):X2n Tryz.prog 170 (fun i => [.own i]) ⟨1,Xn .u8 l⟩ fun r b'=>b'=⟨1,Xn .u8 l.reverse⟩:=ZaS ok170 (by decide) l hl
def X5T (t:PB) (x:RU) (s:Nat) (ok:Bool):PV:=.tup [.val (.int .u64 ((if ok then X9 x s else 0:Nat):Int)),.val (.bool ok)]
theorem Z5b {t:PB} (h:Xo t) (s:Nat) (hs:s<18446744073709551616) (k:Nat) (hk:k<t.rs.length):X7 Tryz.prog 94 [.agg (pbR t),.val (.int .u64 (s:Int)),.val (.int .i64 (k:Int))] (· = X5T t t.rs[k] s (XB t t.rs[k] s)):=by
 have hro:=h.rs _ (Y0j hk);have hpp:=Z22 t;have hrl:=Z6S t.rs;refine Yp ok94 fun C hC=>?_;refine Zm ?_;refine Z9 ?_;refine Z5 rfl rfl rfl ?_;refine gd 12 ⟨?_⟩;refine Qo (Qz rfl (by omega)) ?_;refine gd 18 ⟨?_⟩;refine Zn rfl ?_;refine Qo (Qz rfl (by rw [hrl];omega)) ?_;refine gd 23 ⟨?_⟩;refine Qo (Zl (xs:=t.rs) (g:=ruR) rfl rfl k rfl hk rfl) ?_;generalize t.rs[k]=x at hro ⊢;have hxt:=hro.tg;have hp:=ZP (show x.tg<64 by omega);have hx64:=hro.m.lt (by decide);refine gd 27 ⟨?_⟩;refine Ze rfl rfl rfl (show IntKind.u64.wrap ((x.tg:Nat):Int)=((x.tg:Nat):Int) from Y0x _ ⟨by omega,by omega⟩) ?_;refine Z3w rfl rfl (by omega) (Z9t x.tg (by omega)) rfl ?_;refine gd 31 ⟨?_⟩;refine Ze rfl rfl rfl (Y1H s (2 ^ x.tg) hs hp) ?_;refine gd 33 ⟨?_⟩;have hnx:X9 x s<18446744073709551616:=by
  unfold X9
  split
  . exact Y02 Y1o hs
  . exact Z1S hs hp
 have hgood:=Z7D h (X9 x s) hnx;have hclo:=Z2B t.l false h.good.small s hs;have hho:=Z4d x.cu (clo t.l s) hx64 (Z5A _ _);have hst:XB t x s=(!decide (((X9 x s:Nat):Int)=(s:Int))&&(Xq t (X9 x s)&&(x.rev||hoC x.cu (clo t.l s)))):=by
  unfold XB;congr 1;by_cases e:X9 x s=s
  . rw [Y0w (fun h=>h e),Yw (by rw [e])]; rfl
  . rw [Yw e,Y0w (show ¬ ((X9 x s:Nat):Int)=(s:Int) from fun h=>e (Y4R h))]; rfl
 rw [hst];cases hv:x.rev
 . have hnv : X9 x s = s ||| 2 ^ x.tg := by unfold X9; rw [hv]; rfl
   rw [<- hnv];refine Qo (Z4 (v:=false) rfl hv) ?_;refine gd 39 ⟨?_⟩;cases hne:decide (((X9 x s:Nat):Int)=(s:Int))
   case true =>
    refine Qo (Z4 (v:=true) rfl hne) ?_;refine go ?_;exact Z8 rfl ⟨Yt,Yt,Yt⟩ rfl
   refine Qo (Z4 (v:=false) rfl hne) ?_;refine gd 43 ⟨?_⟩;refine Zn rfl ?_;refine Qe hgood ⟨hpp,Yt,Yt⟩ ?_;cases hg:Xq t (X9 x s)
   case false =>
    refine go ?_;exact Z8 rfl ⟨Yt,Yt,Yt⟩ rfl
   refine gd 47 ⟨?_⟩;refine Qr (Z4 (v:=false) rfl hv) ?_;refine gd 55 ⟨?_⟩;refine Z2d rfl ?_;refine Qd hclo ⟨Zk _,Yt,Yt⟩ ?_;refine gd 56 ⟨?_⟩;refine Z2d rfl ?_;refine Qd hho ⟨Z2C _,Yt,Yt⟩ ?_;cases hh:hoC x.cu (clo t.l s)
   all_goals
    refine go ?_;exact Z8 rfl ⟨Yt,Yt,Yt⟩ rfl
 . have hnv : X9 x s = Xg s (2 ^ x.tg) := by unfold X9; rw [hv]; rfl
   refine Qo (Z4 (v:=true) rfl hv) ?_;refine gd 36 ⟨?_⟩;refine Ze rfl rfl rfl (Z19 s (2 ^ x.tg) hs hp) ?_;rw [<- hnv];refine gd 39 ⟨?_⟩;cases hne:decide (((X9 x s:Nat):Int)=(s:Int))
   case true =>
    refine Qo (Z4 (v:=true) rfl hne) ?_;refine go ?_;exact Z8 rfl ⟨Yt,Yt,Yt⟩ rfl
   refine Qo (Z4 (v:=false) rfl hne) ?_;refine gd 43 ⟨?_⟩;refine Zn rfl ?_;refine Qe hgood ⟨hpp,Yt,Yt⟩ ?_;cases hg:Xq t (X9 x s)
   case false =>
    refine go ?_;exact Z8 rfl ⟨Yt,Yt,Yt⟩ rfl
   refine gd 47 ⟨?_⟩;refine Qr (Z4 (v:=true) rfl hv) ?_;refine go ?_;exact Z8 rfl ⟨Yt,Yt,Yt⟩ rfl
def X5U (s:Nat):List PV := [.val (.int .u64 (s:Int))]
def nsL (l:List Nat):List (List PV):=l.map X5U
theorem Z24 (l:List Nat):X1 (nsL l):=Zb (enc:=X5U) (fun _=>⟨Yt,Yt⟩) l
theorem Z3M (l:List Nat):(nsL l).length=l.length:=by simp [nsL]
theorem Zjo (l:List Nat) (k:Nat):nsL l ++ [X5U k]=nsL (l ++ [k]):=by simp [nsL]
theorem Zfg {t:PB} (h:Xo t) (p:List Nat) (fl:Bool) (hl:p.length<=1000000) {E:Nat} (hr:X11 t t.st p E):X7 Tryz.prog 90 [.agg (pbR t),.vec (inL p) fl] (· = .tup [.val (.int .u64 (E:Int)),.val (.int .i64 (p.length:Int))]):=by
 have hpp:=Z22 t;have hpl:=Zs p;have hlen:=Z23 p;refine Yp ok90 fun C hC=>?_;have hpc:∀ D,X1S D (pbR t):=fun D=>ZG (fun _ h=>h.elim) _ hpp;have hpi:∀ D,Xt D (inL p):=fun D=>Zd (fun _ h=>h.elim) _ hpl;refine Zm ?_;refine Z9 ?_;refine Z5 rfl rfl rfl ?_;refine go ?_;refine Zz hC (fun (z:Nat×Nat)=>z.1<=p.length/\InS t z.2/\X11 t z.2 (p.drop z.1) E) (fun z=>p.length-z.1) 0 (fun z => [(1,.vec (inL p) fl),(2,.cp (pbR t)),(6,.val (.int .u64 (z.2:Int))),(13,.vec (inL p) fl),(14,.val (.int .i64 (p.length:Int))),(15,Yv z.1)]) (fun _=>[]) (Y0l _) (0,t.st) ⟨Y0l _,h.st,hr⟩
  ⟨⟨rfl,hpi _⟩,⟨rfl,hpc _⟩,⟨rfl,Yt⟩,⟨rfl,hpi _⟩,⟨by rw [<- hlen]; rfl,Yt⟩,⟨rfl,Yt⟩,Yt⟩ Yt ?_
 rintro⟨i,s⟩ ⟨hi,hs,hrun⟩;dsimp only at hi hs hrun;have hinc:IntKind.i64.wrap ((i:Int)+1)=((i+1:Nat):Int):=Y0v _ ⟨by omega,by omega⟩;refine gd 16 ⟨?_⟩;by_cases hil:i<p.length
 . refine Qo (Qy rfl (Y1z.2 hil)) ?_;rw [Y1n hil] at hrun;refine gd 18 ⟨?_⟩;refine Qo (Zl (xs:=p) (g:=X31) rfl rfl i rfl hil rfl) ?_;generalize p[i]=k at hrun ⊢;obtain⟨x,hx,hst,hrun⟩:=hrun;obtain⟨hkl,rfl⟩:=Y7.1 hx;refine gd 24 ⟨?_⟩;refine Qe (Z5b h s (hs.lt h.n.2) k hkl) ⟨hpp,Yt,Yt,Yt⟩ ?_;rw [hst];refine go ?_;exact⟨(i+1,X9 t.rs[k] s),⟨hil,Z1H h (Y0j hkl) hs,hrun⟩,by show p.length-(i+1)<p.length-i; omega,⟨⟨rfl,hpi _⟩,⟨rfl,hpc _⟩,⟨rfl,Yt⟩,⟨rfl,hpi _⟩,⟨rfl,Yt⟩,⟨by show some _=some _; rw [hinc],Yt⟩,Yt⟩,Yt⟩
 . refine Qo (Qz rfl (by omega)) ?_;refine go ?_;rw [Y2z (by omega)] at hrun;obtain rfl:=Z3K hrun;exact Z8 rfl ⟨Yt,Yt,Yt⟩ (by rw [hlen])
theorem Zfh {t:PB} (h:Xo t) (hn:t.n<=5):X7 Tryz.prog 88 [.agg (pbR t)] fun r=>∃ out,X3X t out.length out/\r=.vec (nsL out) false:=by
 have hpp:=Z22 t;have hrb:=h.rl;have hrl:=Z6S t.rs;have h32:2 ^ t.n<=32:=YJ (n:=2) (by decide) hn;refine Yp ok88 fun C hC=>?_;refine Zm ?_;refine Z9 ?_;refine Z5 rfl rfl rfl ?_;refine gd 13 ⟨?_⟩;refine Z2c rfl rfl rfl ?_;refine go ?_;refine Zv hC (fun (z:Nat×List Nat)=>X3X t z.1 z.2) (fun z=>2 ^ t.n-z.1) 1 (fun z => [(1,.cp (pbR t)),(3,.own 0),(4,Yv z.1)]) (fun z => [(0,⟨1,nsL z.2⟩)]) (Y0l _) (0,[t.st]) (X3X.base t) (fun i=>i) (fun _ _=>rfl) Zf
  ⟨Qp hpp,Qw 0,Qp Yt,Yt⟩ ⟨Qs ⟨⟨Yt,Yt⟩,Yt⟩,Yt⟩ ?_
 rintro⟨a,out⟩ hi;dsimp only at hi ⊢;have hal:a<=out.length:=hi.le;have hol:=hi.len h;have hinc:IntKind.i64.wrap ((a:Int)+1)=((a+1:Nat):Int):=Y0v _ ⟨by omega,by omega⟩;refine gd 17 ⟨?_⟩;by_cases hlt:a<out.length
 case neg =>
  refine Za (Zj (k:=3) rfl rfl (Z24 _)) ?_;refine Qo (Qz rfl (by rw [Z3M];omega)) ?_;refine go ?_;have hae:a=out.length:=by omega
  exact Z8 rfl (Z24 out) ⟨out,by rw [<- hae]; exact hi,rfl⟩
 refine Qo (Qy rfl (by rw [Z3M];omega)) ?_;obtain⟨S,hS⟩:∃ S,out[a]?=some S:=⟨_,Y0c hlt⟩
 refine go ?_;refine Zv hC (fun (z:Nat×List Nat)=>z.1<=t.rs.length/\X4V t a S z.1 z.2) (fun z=>t.rs.length-z.1) 1 (fun z => [(1,.cp (pbR t)),(3,.own 0),(4,.val (.int .i64 (a:Int))),(22,.val (.int .i64 (t.rs.length:Int))),(23,Yv z.1)]) (fun z => [(0,⟨1,nsL z.2⟩)]) (Y0l _) (0,out) ⟨Y0l _,hi.begin hS⟩ (fun i=>i) (fun _ _=>rfl) Zf
  ⟨Qp hpp,Qw 0,Qp Yt,⟨_,by rw [<- hrl]; rfl,.pure _ Yt⟩,Qp Yt,Yt⟩ ⟨Qs (Z24 out),Yt⟩ ?_
 clear hi hal hol hlt hS out;rintro⟨k,out⟩ ⟨hk,hi⟩;dsimp only at hk hi ⊢;have hkinc:IntKind.i64.wrap ((k:Int)+1)=((k+1:Nat):Int):=Y0v _ ⟨by omega,by omega⟩;have hol:=hi.i.len h;refine gd 24 ⟨?_⟩;by_cases hkl:k<t.rs.length
 case neg =>
  refine Qo (Qz rfl (by omega)) ?_;refine go ?_;have h1:=hi.done (by omega);have h2:=h1.le
  refine⟨(a+1,out),fun i=>i,h1,by show 2 ^ t.n-(a+1)<2 ^ t.n-a; omega,fun _ _=>rfl,Zf,
   ⟨Qp hpp,Qw 0,⟨_,by show some _=some _; rw [hinc],.pure _ Yt⟩,Yt⟩,⟨Qs (Z24 out),Yt⟩⟩
 refine Qo (Qy rfl (Y1z.2 hkl)) ?_;have hsl:=(Y7.1 hi.s).1;have hSi:InS t S:=(hi.i.rch S (YG hi.s)).inS h;have hge:(nsL out).getD a []=X5U S:=by simp [nsL,Y0b,hi.s]
 have hst:=Z5b h S (hSi.lt h.n.2) k hkl;have hxk:=Y0c hkl;refine gd 30 ⟨?_⟩;refine Qr (ZF (k:=.i64) rfl rfl rfl a rfl (by show a<(nsL out).length; rw [Z3M]; exact hsl) rfl) ?_;refine Qr (Z1v (p:=.val (.int .u64 (S:Int))) rfl rfl (by show a<(nsL out).length; rw [Z3M]; exact hsl) (by show X17 false 1 0 ((nsL out).getD a [])=_; rw [hge]; rfl)) ?_;refine gd 33 ⟨?_⟩;refine Qd hst ⟨hpp,Yt,Yt,Yt⟩ ?_;generalize t.rs[k]=x at hxk ⊢;cases hs:XB t x S
 case false =>
  refine go ?_
  refine⟨(k+1,out),fun i=>i,⟨hkl,hi.skip hxk hs⟩,by show t.rs.length-(k+1)<t.rs.length-k; omega,fun _ _=>rfl,Zf,
   ⟨Qp hpp,Qw 0,Qp Yt,Qp Yt,⟨_,by show some _=some _; rw [hkinc],.pure _ Yt⟩,Yt⟩,⟨Qs (Z24 out),Yt⟩⟩
 have hadd:=hi.add hxk hs;have hstn:X5T t x S true=.tup [.val (.int .u64 ((X9 x S:Nat):Int)),.val (.bool true)]:=rfl;rw [hstn];generalize X9 x S=nx at hadd ⊢;refine go ?_;refine Zv hC (fun (i:Nat)=>i<=out.length) (fun i=>out.length-i) 1 (fun i => [(1,.cp (pbR t)),(3,.own 0),(4,.val (.int .i64 (a:Int))),(6,.val (.int .u64 (nx:Int))),(8,.val (.bool (decide (nx∈out.take i)))),(22,.val (.int .i64 (t.rs.length:Int))),(23,.val (.int .i64 (k:Int))),(38,.own 0),(39,.val (.int .i64 (out.length:Int))),(40,Yv i)]) (fun _ => [(0,⟨1,nsL out⟩)]) (Y0l _) 0 (Y0l _) (fun i=>i) (fun _ _=>rfl) Zf
  ⟨Qp hpp,Qw 0,Qp Yt,Qp Yt,⟨_,by show some _=some _; rw [Y0w (by simp)],.pure _ Yt⟩,Qp Yt,Qp Yt,Qw 0,⟨_,by rw [<- Z3M]; rfl,.pure _ Yt⟩,Qp Yt,Yt⟩ ⟨Qs (Z24 out),Yt⟩ ?_
 intro i hio;have hiinc:IntKind.i64.wrap ((i:Int)+1)=((i+1:Nat):Int):=Y0v _ ⟨by omega,by omega⟩;refine gd 41 ⟨?_⟩;by_cases hil:i<out.length
 . refine Qo (Qy rfl (Y1z.2 hil)) ?_;have htk:=ZR hil;have hgi:(nsL out).getD i []=X5U out[i]:=by simp [nsL,Y0b,hil]
   generalize out[i]=y at htk hgi;refine gd 42 ⟨?_⟩;refine Qo (ZF (k:=.i64) rfl rfl rfl i rfl (by show i<(nsL out).length; rw [Z3M]; exact hil) rfl) ?_;refine Qo (Z1v (p:=.val (.int .u64 (y:Int))) rfl rfl (by show i<(nsL out).length; rw [Z3M]; exact hil) (by show X17 false 1 0 ((nsL out).getD i [])=_; rw [hgi]; rfl)) ?_;refine gd 46 ⟨?_⟩;by_cases hyn:y=nx
   . refine Qo (Qy rfl (by rw [hyn])) ?_;refine go ?_
     exact⟨i+1,fun i=>i,hil,by show out.length-(i+1)<out.length-i; omega,fun _ _=>rfl,Zf,
      ⟨Qp hpp,Qw 0,Qp Yt,Qp Yt,⟨_,by show some _=some _; rw [Yw (by rw [htk,hyn]; simp)],.pure _ Yt⟩,Qp Yt,Qp Yt,Qw 0,Qp Yt,⟨_,by show some _=some _; rw [hiinc],.pure _ Yt⟩,Yt⟩,⟨Qs (Z24 out),Yt⟩⟩
   . refine Qo (Qz rfl (fun h => hyn (Y4R h))) ?_;refine go ?_
     exact⟨i+1,fun i=>i,hil,by show out.length-(i+1)<out.length-i; omega,fun _ _=>rfl,Zf,
      ⟨Qp hpp,Qw 0,Qp Yt,Qp Yt,⟨_,by show some (PV.val (.bool (decide (nx∈out.take i))))=some _; rw [htk,Y27.2 (show nx∈out.take i↔nx∈out.take i ++ [y] by rw [Y0h,Y0g]; exact⟨.inl,fun h=>h.elim (fun h=>h) fun h=>absurd h.symm hyn⟩)],.pure _ Yt⟩,Qp Yt,Qp Yt,Qw 0,Qp Yt,⟨_,by show some _=some _; rw [hiinc],.pure _ Yt⟩,Yt⟩,⟨Qs (Z24 out),Yt⟩⟩
 . refine Qo (Qz rfl (by omega)) ?_;have hie:i=out.length:=by omega
   rw [hie,Y0q];unfold X4Y at hadd;by_cases hm:nx∈out
   . rw [Y6 hm] at hadd;rw [Yw hm];refine go ?_
     exact⟨(k+1,out),fun i=>i,⟨hkl,hadd⟩,by show t.rs.length-(k+1)<t.rs.length-k; omega,fun _ _=>rfl,Zf,
      ⟨Qp hpp,Qw 0,Qp Yt,Qp Yt,⟨_,by show some _=some _; rw [hkinc],.pure _ Yt⟩,Yt⟩,⟨Qs (Z24 out),Yt⟩⟩
   . rw [Y8 hm] at hadd;rw [Y0w hm];refine gd 53 ⟨?_⟩
     refine ZH (Zu (k:=0) (m := [X5U nx]) (fl:=true) rfl rfl rfl (fun q hq=>by rw [Y0g] at hq; subst hq; rfl) rfl (by
      show ((nsL out).length+1)*8<=_
      rw [Z3M];omega)) rfl rfl ?_
     simp only;rw [Zjo];refine go ?_
     exact⟨(k+1,out ++ [nx]),mv 0 1,⟨hkl,hadd⟩,by show t.rs.length-(k+1)<t.rs.length-k; omega,fun i hi=>absurd hi (Ye i),Zq rfl,
      ⟨Qp hpp,Qw 0,Qp Yt,Qp Yt,⟨_,by show some _=some _; rw [hkinc],.pure _ Yt⟩,Yt⟩,⟨Qs (Z24 _),Yt⟩⟩
theorem Z86 {t:PB} (h:Xo t) (hn:t.n<=5):X7 Tryz.prog 35 [.agg (pbR t)] fun r=>∃ b:Bool,(b=true↔X1I t t.st)/\r=.val (.bool b):=by
 have hpp:=Z22 t;have h32:2 ^ t.n<=32:=YJ (n:=2) (by decide) hn;have hpc:∀ D,X1S D (pbR t):=fun D=>ZG (fun _ h=>h.elim) _ hpp;refine Yp ok35 fun C hC=>?_;refine Zm ?_;refine Z9 ?_;refine Z5 rfl rfl rfl ?_;refine gd 6 ⟨?_⟩;refine Zw rfl rfl (Zfh h hn) ⟨hpp,Yt⟩ rfl ?_;rintro r ⟨out,hi,rfl⟩;have hab:=hi.able h;have hol:=hi.len h;have hp:∀ D,Xt D (nsL out):=fun D=>Zd (fun _ h=>h.elim) _ (Z24 out);refine go ?_;refine Zz hC (fun i=>i<=out.length/\(out.take i).any (Xp t)=false) (fun i=>out.length-i) 0 (fun i => [(1,.cp (pbR t)),(6,.vec (nsL out) false),(7,.val (.int .i64 (out.length:Int))),(8,Yv i)]) (fun _=>[]) (Y0l _) 0 ⟨Y0l _,by simp⟩
  ⟨⟨rfl,hpc _⟩,⟨rfl,hp _⟩,⟨by rw [<- Z3M]; rfl,Yt⟩,⟨rfl,Yt⟩,Yt⟩ Yt ?_
 rintro i ⟨hi2,hno⟩;have hinc:IntKind.i64.wrap ((i:Int)+1)=((i+1:Nat):Int):=Y0v _ ⟨by omega,by omega⟩;refine gd 9 ⟨?_⟩;by_cases hil:i<out.length
 . refine Qo (Qy rfl (Y1z.2 hil)) ?_;have htk:=ZR hil;have hm:=Y0j hil;refine gd 10 ⟨?_⟩;refine Qo (Zl (xs:=out) (g:=X5U) rfl rfl i rfl hil rfl) ?_;generalize out[i]=x at htk hm ⊢;have hx:=(hi.rch x hm).inS h;refine gd 14 ⟨?_⟩;refine Qe (Z4h h x (hx.lt h.n.2)) ⟨hpp,Yt,Yt⟩ ?_;cases hr:Xp t x
   . refine go ?_;exact⟨i+1,⟨hil,by rw [htk,Y31,hno]; simp [hr]⟩,by omega,⟨⟨rfl,hpc _⟩,⟨rfl,hp _⟩,⟨rfl,Yt⟩,⟨by show some _=some _; rw [hinc],Yt⟩,Yt⟩,Yt⟩
   . refine go ?_;exact Z8 rfl Yt ⟨true,⟨fun _=>hab.1 (Y01.2 ⟨x,hm,hr⟩),fun _=>rfl⟩,rfl⟩
 . refine Qo (Qz rfl (by omega)) ?_;refine go ?_;have:i=out.length:=by omega
   rw [this,Y0q] at hno;exact Z8 rfl Yt ⟨false,⟨fun h=>(by cases h),fun h=>by rw [hab.2 h] at hno; cases hno⟩,rfl⟩
section
variable {P:Program} {e:Env} {h:X2} {n:Nat}
theorem Z5c {d:Option Nat} {z:Rsv} {i mask:Nat} {op:AOp} {iso:Nat} {alt:Bool} {g:Nat×Bool} {xs:List Xd} {K:Env->X2->Prop} (hw:X1w (some g) e=some false) (hk:dK P z n xs (XC e d pvu) h K):dK P z n (⟨i,⟨d,op,some g⟩,mask,iso,alt⟩ :: xs) e h K:=by
 unfold dK;exact⟨_,.skip hw,fun p' f' hh=>by obtain⟨rfl,rfl⟩:=hh; exact hk⟩
end
theorem Zm6:XG 0=.agg [.vec [] false]:=by unfold XG; rw [ZL]; rfl
theorem Zjp {x:RU} (hx:x.tg<64) {s:Nat} (hs:s<18446744073709551616):X9 x s<18446744073709551616:=by
 unfold X9
 split
 . exact Y02 Y1o hs
 . exact Z1S hs (ZP hx)
def X5H (x:RU) (s:Nat) (ok:Bool):PV:=.tup [XG (if ok then X9 x s else 0),.val (.bool ok)]
theorem Z5M (x:RU) (s:Nat):PV.tup [.agg [.vec [] false],.val (.bool false)]=X5H x s false:=by
 show _=PV.tup [XG 0,.val (.bool false)];rw [Zm6]
theorem Z8Q {t:PB} (h:Xo t) (S:List Nat) (s:Nat) (hs:s<18446744073709551616) (k:Nat) (hk:k<t.rs.length):X7 Tryz.prog 41 [.agg (pbP t S),XG s,.val (.int .i64 (k:Int))] (· = X5H t.rs[k] s (XB t t.rs[k] s)):=by
 have hro:=h.rs _ (Y0j hk);have hpp:=ZC t S;have hrl:(t.rs.map ruP).length=t.rs.length:=by simp
 refine Yp ok41 fun C hC=>?_;refine Zm ?_;refine Z9 ?_;refine Z5 rfl rfl rfl ?_;refine Z5 rfl rfl rfl ?_;refine gd 15 ⟨?_⟩;refine Zn rfl ?_;refine Qo (Qz rfl (by omega)) ?_;refine gd 22 ⟨?_⟩;refine Zn rfl ?_;refine Qo (Qz rfl (by rw [hrl];omega)) ?_;refine gd 28 ⟨?_⟩;refine Qo (Zl (xs:=t.rs) (g:=ruP) rfl rfl k rfl hk rfl) ?_;generalize t.rs[k]=x at hro ⊢;have hxt:=hro.tg;have hx64:=hro.m.lt (by decide);have hnx:=Zjp (x:=x) (show x.tg<64 by omega) hs;have hgood:=Zf6 h S (X9 x s) hnx;have hclo:=Z2n t.l S s hs;have hho:=Z57 x.cu (clo t.l s) hx64 (Z5A _ _);have hhas:=Z1p s hs x.tg;have hne:=Z2D (r:=x) (show x.tg<64 by omega) hs;have hw:=Z1u s hs x.tg (by omega);have hst:XB t x s=(decide (s.testBit x.tg=x.rev)&&(Xq t (X9 x s)&&(x.rev||hoC x.cu (clo t.l s)))):=by
  unfold XB;rw [Y27.2 hne]
 rw [hst];refine gd 33 ⟨?_⟩;refine Qe hw ⟨Z2 _,Yt,Yt⟩ ?_;cases hv:x.rev
 . have hnv : X9 x s = s ||| 2 ^ x.tg := by unfold X9; rw [hv]; rfl
   rw [<- hnv];refine gd 35 ⟨?_⟩;refine Qo (Z4 (v:=false) rfl hv) ?_;refine gd 43 ⟨?_⟩;refine Qd hhas ⟨Z2 _,Yt,Yt⟩ ?_;refine gd 45 ⟨?_⟩;refine Qr (Z4 (v:=false) rfl hv) ?_;cases hb:s.testBit x.tg
   case true =>
    repeat' (first|refine Z5c rfl ?_|(first|refine st ?_|(apply B<;>intro hb<;>try cases hb)))
    exact Z1K (r:=.tup [.agg [.vec [] true],.val (.bool false)]) rfl ⟨⟨Yt,Yt⟩,Yt,Yt⟩ (Z5M x s)
   refine gd 49 ⟨?_⟩;refine Z2d rfl ?_;refine Qr (Z4 (v:=false) rfl hv) ?_;refine gd 57 ⟨?_⟩;refine Z2d rfl ?_;refine Qd hclo ⟨Zo _ _,Z2 _,Yt⟩ ?_;refine Z2d rfl ?_;refine Qd hho ⟨ZA _,Z2 _,Yt⟩ ?_;cases hh:hoC x.cu (clo t.l s)
   case false =>
    repeat' (first|refine Z5c rfl ?_|(first|refine st ?_|(apply B<;>intro hb<;>try cases hb)))
    exact Z1K (r:=.tup [.agg [.vec [] true],.val (.bool false)]) rfl ⟨⟨Yt,Yt⟩,Yt,Yt⟩ (by cases Xq t (X9 x s)<;>exact Z5M x s)
   refine gd 65 ⟨?_⟩;refine Z2d rfl ?_;refine Qd hgood ⟨hpp,Z2 _,Yt⟩ ?_;cases hg:Xq t (X9 x s)
   case false =>
    repeat' (first|refine Z5c rfl ?_|(first|refine st ?_|(apply B<;>intro hb<;>try cases hb)))
    exact Z1K (r:=.tup [.agg [.vec [] true],.val (.bool false)]) rfl ⟨⟨Yt,Yt⟩,Yt,Yt⟩ (Z5M x s)
   repeat' (first|refine Z5c rfl ?_|(first|refine st ?_|(apply B<;>intro hb<;>try cases hb)))
   exact Z8 rfl ⟨Z2 _,Yt,Yt⟩ rfl
 . have hnv : X9 x s = Xg s (2 ^ x.tg) := by unfold X9; rw [hv]; rfl
   have hwo:=Z1E s hs (x.tg:Int);rw [Z3J hs (by omega),<- hnv] at hwo;refine gd 35 ⟨?_⟩;refine Qo (Z4 (v:=true) rfl hv) ?_;refine gd 39 ⟨?_⟩;refine Qe hwo ⟨Z2 _,Yt,Yt⟩ ?_;refine gd 43 ⟨?_⟩;refine Qd hhas ⟨Z2 _,Yt,Yt⟩ ?_;refine gd 45 ⟨?_⟩;refine Qr (Z4 (v:=true) rfl hv) ?_;cases hb:s.testBit x.tg
   case false =>
    repeat' (first|refine Z5c rfl ?_|(first|refine st ?_|(apply B<;>intro hb<;>try cases hb)))
    exact Z1K (r:=.tup [.agg [.vec [] true],.val (.bool false)]) rfl ⟨⟨Yt,Yt⟩,Yt,Yt⟩ (Z5M x s)
   refine gd 49 ⟨?_⟩;refine Z2d rfl ?_;refine Qr (Z4 (v:=true) rfl hv) ?_;refine gd 65 ⟨?_⟩;refine Z2d rfl ?_;refine Qd hgood ⟨hpp,Z2 _,Yt⟩ ?_;cases hg:Xq t (X9 x s)
   case false =>
    repeat' (first|refine Z5c rfl ?_|(first|refine st ?_|(apply B<;>intro hb<;>try cases hb)))
    exact Z1K (r:=.tup [.agg [.vec [] true],.val (.bool false)]) rfl ⟨⟨Yt,Yt⟩,Yt,Yt⟩ (Z5M x s)
   repeat' (first|refine Z5c rfl ?_|(first|refine st ?_|(apply B<;>intro hb<;>try cases hb)))
   exact Z8 rfl ⟨Z2 _,Yt,Yt⟩ rfl
theorem Zhm {t:PB} (h:Xo t) (S:List Nat) (p:List Nat) (fl:Bool) (hl:p.length<=1000000) {E:Nat} (hr:X11 t t.st p E):X7 Tryz.prog 14 [.agg (pbP t S),.vec (inL p) fl] (· = .tup [XG E,.val (.int .i64 (p.length:Int)),.val (.bool true)]):=by
 have hpp:=ZC t S;have hpl:=Zs p;have hlen:=Z23 p;refine Yp ok14 fun C hC=>?_;have hpc:∀ D,X1S D (pbP t S):=fun D=>ZG (fun _ h=>h.elim) _ hpp;have hpi:∀ D,Xt D (inL p):=fun D=>Zd (fun _ h=>h.elim) _ hpl;refine Zm ?_;refine Z9 ?_;refine Z5 rfl rfl rfl ?_;refine go ?_;refine Zz hC (fun (z:Nat×Nat)=>z.1<=p.length/\InS t z.2/\X11 t z.2 (p.drop z.1) E) (fun z=>p.length-z.1) 2 (fun z => [(1,.vec (inL p) fl),(2,.cp (pbP t S)),(4,.ptr 0 0 0),(7,.ptr 1 0 0),(18,.vec (inL p) fl),(19,.val (.int .i64 (p.length:Int))),(20,Yv z.1)]) (fun z => [(0,⟨1,[[.vec [] true]]⟩),(1,⟨1,[[.vec (X4 (Xb z.2)) false]]⟩)]) (Y0l _) (0,t.st) ⟨Y0l _,h.st,hr⟩
  ⟨⟨rfl,hpi _⟩,⟨rfl,hpc _⟩,⟨rfl,show (0:Nat)<2 by decide⟩,⟨rfl,show (1:Nat)<2 by decide⟩,⟨rfl,hpi _⟩,⟨by rw [<- hlen]; rfl,Yt⟩,⟨rfl,Yt⟩,Yt⟩ ⟨⟨by decide,rfl,⟨⟨Yt,Yt⟩,Yt⟩⟩,⟨by decide,rfl,⟨⟨Zp _ _,Yt⟩,Yt⟩⟩,Yt⟩ ?_
 rintro⟨i,s⟩ ⟨hi,hs,hrun⟩;dsimp only at hi hs hrun ⊢;have hinc:IntKind.i64.wrap ((i:Int)+1)=((i+1:Nat):Int):=Y0v _ ⟨by omega,by omega⟩;refine gd 21 ⟨?_⟩;by_cases hil:i<p.length
 . refine Qo (Qy rfl (Y1z.2 hil)) ?_;rw [Y1n hil] at hrun;refine gd 23 ⟨?_⟩;refine Qo (Zl (xs:=p) (g:=X31) rfl rfl i rfl hil rfl) ?_;generalize p[i]=k at hrun ⊢;obtain⟨x,hx,hst,hrun⟩:=hrun;obtain⟨hkl,rfl⟩:=Y7.1 hx;refine gd 29 ⟨?_⟩;refine Qe (Z8Q h S s (hs.lt h.n.2) k hkl) ⟨hpp,Z2 _,Yt,Yt⟩ ?_;rw [hst];refine go ?_;exact⟨(i+1,X9 t.rs[k] s),⟨hil,Z1H h (Y0j hkl) hs,hrun⟩,by show p.length-(i+1)<p.length-i; omega,⟨⟨rfl,hpi _⟩,⟨rfl,hpc _⟩,⟨rfl,show (0:Nat)<2 by decide⟩,⟨rfl,show (1:Nat)<2 by decide⟩,⟨rfl,hpi _⟩,⟨rfl,Yt⟩,⟨by show some _=some _; rw [hinc],Yt⟩,Yt⟩,⟨⟨by decide,rfl,⟨⟨Yt,Yt⟩,Yt⟩⟩,⟨by decide,rfl,⟨⟨Zp _ _,Yt⟩,Yt⟩⟩,Yt⟩⟩
 . refine Qo (Qz rfl (by omega)) ?_;refine go ?_;rw [Y2z (by omega)] at hrun;obtain rfl:=Z3K hrun;exact Z8 rfl ⟨Z2 _,Yt,Yt,Yt⟩ (by rw [hlen]; rfl)
def feC (e:FE):List PV := [.vec (X4 (Xb e.s)) false,.val (.int .i64 e.fr),.val (.int .i64 e.k)]
def X14 (L:List FE):List (List PV):=L.map feC
theorem Zjq (e:FE):X5 (feC e):=⟨Z7 _,Yt,Yt,Yt⟩
theorem Z2S (L:List FE):X1 (X14 L):=Zb (enc:=feC) Zjq L
theorem Z2J (L:List FE):(X14 L).length=L.length:=by simp [X14]
theorem Z2K {L:List FE} {i:Nat} {e:FE} (h:L[i]?=some e):(X14 L).getD i []=feC e:=by
 unfold X14;rw [Y0b,Y0y,h]; rfl
def X3h (e:FE):List PV := [.val (.string (X36 e.s)),.val (.bool true)]
def XA (L:List FE):List (List PV):=L.map X3h
theorem Z3N (L:List FE):X1 (XA L):=Zb (enc:=X3h) (fun _=>⟨Yt,Yt,Yt⟩) L
theorem X7c (s x:ByteArray):(s == x)=(s.data == x.data):=by cases s; cases x; rfl
theorem X4R (s:ByteArray):X3c (.one 2) (.val (.string s)) (.val (.string s))=some true:=by
 show some (s == s)=some true;rw [X7c,Y4o]
theorem ZcJ {N:Nat} (hN:N<256):∀ {L:List FE},(∀ e∈L,e.s<256)->N ∉ L.map FE.s->X1g (.one 2) (.val (.string (X36 N))) (XA L)=some none
 | [],_,_=>rfl
 | e :: r, hL, h => by
   rw [Y1J,YD,not_or] at h;have h1:X3c (.one 2) (.val (.string (X36 N))) ((X3h e).getD 0 pvu)=some false:=by
    show some (X36 N == X36 e.s)=some false;rw [X7c,Y2p.2 (fun he=>h.1 (Ze3 hN (hL e (Y0t ..)) (Y4S he)))]
   show X1g (.one 2) (.val (.string (X36 N))) (X3h e :: XA r)=some none;simp only [X1g,h1,ZcJ hN (fun e' he'=>hL e' (YB _ he')) h.2]
theorem Ze4 {N:Nat} (hN:N<256):∀ {L:List FE},(∀ e∈L,e.s<256)->N∈L.map FE.s->∃ j,X1g (.one 2) (.val (.string (X36 N))) (XA L)=some (some j)/\((XA L).getD j []).getD 1 pvu=.val (.bool true)
 | [],_,h=>by simp at h
 | e :: r, hL, h => by
   by_cases he:N=e.s
   . refine ⟨0, ?_, rfl⟩;have h1:X3c (.one 2) (.val (.string (X36 N))) ((X3h e).getD 0 pvu)=some true:=by rw [he]; exact X4R _
     show X1g (.one 2) (.val (.string (X36 N))) (X3h e :: XA r)=some (some 0);simp only [X1g,h1]
   . rw [Y1J, YD] at h;obtain⟨j,h2,h3⟩:=Ze4 hN (fun e' he'=>hL e' (YB _ he')) (h.resolve_left he);have h1:X3c (.one 2) (.val (.string (X36 N))) ((X3h e).getD 0 pvu)=some false:=by
      show some (X36 N == X36 e.s)=some false;rw [X7c,Y2p.2 (fun hh=>he (Ze3 hN (hL e (Y0t ..)) (Y4S hh)))]
     refine⟨j+1,?_,?_⟩
     . show X1g (.one 2) (.val (.string (X36 N))) (X3h e :: XA r) = some (some (j + 1));simp only [X1g,h1,h2]
     . show ((X3h e :: XA r).getD (j + 1) []).getD 1 pvu = _;rw [List.getD_cons_succ]; exact h3
theorem Zm7 {n:Nat} {e:Env} {h:X2} {agg:Bool} {z:List Value} {x y:Operand} {i:Nat} {b:Bx} {c:KC} {kp:PV} (hx:ev e x=some (.mp i)) (hy:ev e y=some kp) (hb:h i=some b) (hz:b.esz=0) (hk:X3c c kp kp=some true) (hf:X1g c kp b.elems=some none) :
 X3 (.lookup c agg z false x y) e h n=some (X6N agg z,h):=by
 simp [X3,hx,hy,hb,hz,hk,hf]
theorem Zl2 {n:Nat} {e:Env} {h:X2} {agg:Bool} {z:List Value} {x y:Operand} {i j:Nat} {b:Bx} {c:KC} {kp:PV} (hx:ev e x=some (.mp i)) (hy:ev e y=some kp) (hb:h i=some b) (hz:b.esz=0) (hk:X3c c kp kp=some true) (hf:X1g c kp b.elems=some (some j)) :
 X3 (.lookup c agg z false x y) e h n=some ((b.elems.getD j []).getD 1 pvu,h):=by
 simp [X3,hx,hy,hb,hz,hk,hf]
theorem Ze5 {n:Nat} {e:Env} {h:X2} {x y v:Operand} {i:Nat} {rows:List (List PV)} {c:KC} {kp p:PV} (hx:ev e x=some (.mp i)) (hy:ev e y=some kp) (hv:ev e v=some p) (hb:h i=some ⟨0,rows⟩) (hk:X3c c kp kp=some true) (hf:X1g c kp rows=some none) :
 X3 (.mapset c x y v) e h n=some (pvu,h.upd i ⟨0,rows ++ [[kp,p]]⟩):=by
 simp [X3,hx,hy,hv,hb,hk,hf]
noncomputable def X64 (t:PB) (S:List Nat) (lim:Int) (li mi ei:Nat):Bx:=⟨10,[[.val (.int .i64 (t.n:Int)),X16 t.l S,.vec (X4 (Xb t.st)) false,.vec (t.rs.map ruP) false,.vec (t.nv.map cuC) false,.vec (t.gl.map cuC) false,.val (.int .i64 lim),.own li,.mp mi,.own ei]]⟩
noncomputable def X15 (t:PB) (S:List Nat) (lim:Int) (L:List FE) (E:List Nat) (li mi ei:Nat):List (Nat×Bx) := [(3,X64 t S lim li mi ei),(li,⟨3,X14 L⟩),(mi,⟨0,XA L⟩),(ei,⟨1,Xn .i64 E⟩)]
structure X2D (E:List Nat) (lo len:Nat):Prop where
 pos:1<=E.length
 last:E.getD (E.length-1) 0=len
 lo:lo=if 1<E.length then E.getD (E.length-2) 0 else 0
theorem X2D.base:X2D [1] 0 1:=⟨by decide,rfl,rfl⟩
theorem X2D.snoc {E:List Nat} {lo len:Nat} (h:X2D E lo len) (len':Nat):X2D (E ++ [len']) len len':=by
 have hl:(E ++ [len']).length=E.length+1:=by simp
 have hp:=h.pos;refine⟨by omega,?_,?_⟩
 . rw [hl,Y2A,Y0b,YL (Y0m _),Y1W]; rfl
 . rw [hl, Y6 (by omega), show E.length + 1 - 2 = E.length - 1 by omega, Y0b, YO (by omega), <- Y0b];exact h.last.symm
theorem Z3O {h':X2} {HL:List (Nat×Bx)} (hh:∀ q∈HL,h' q.1=some q.2):∀ k x,Xv HL k=some x->h' k=some x:=fun k x hk=>hh _ (Z1r hk)
def X5b (h:X2):List (Nat×Bx)->Prop
 | []=>True
 | (k,b) :: r=>h k=some b/\X5b h r
theorem X5b.mem {h:X2}:∀ {HL:List (Nat×Bx)},X5b h HL->∀ q∈HL,h q.1=some q.2
 | [],_,q,hq=>by cases hq
 | (k, b) :: r, hh, q, hq => by
   rcases YD.1 hq with rfl|hq
   . exact hh.1
   . exact hh.2.mem q hq
theorem BG.small {t:PB} (h:Xo t) (hn:t.n<=5) {d lo i k:Nat} {L0 L:List FE} (g:BG t d lo L0 i k L):∀ e∈L,e.s<256:=fun e he=>by
 have h1:e.s<=mkN t.n:=by rw [<- (g.rch e he).inS h]; exact YN
 have:2 ^ t.n<=2 ^ 5:=YJ (by decide) hn;unfold mkN at h1;omega
theorem Zk9 {t:PB} {S:List Nat} {lim:Int} {L:List FE} {E:List Nat} {li mi ei N:Nat} {B:Bx} {h:X2} (h3:3<N) (hli:li<N) (hmi:mi<N) (hei:ei<N) (h00:0<N) (hB:X1 B.elems) (e3:h 3=some (X64 t S lim li mi ei)) (e1:h li=some ⟨3,X14 L⟩) (e4:h mi=some ⟨0,XA L⟩) (e2:h ei=some ⟨1,Xn .i64 E⟩) (e0:h 0=some B):X2N h N (X15 t S lim L E li mi ei ++ [(0,B)]) :=
 ⟨⟨h3, e3, ⟨⟨Yt, (Zo _ _).inn _, Zd (fun _ h => h.elim) _ (Z7 _), Zd (fun _ h => h.elim) _ (ZE _), Zd (fun _ h => h.elim) _ (Z11 _), Zd (fun _ h => h.elim) _ (Z11 _), Yt, hli, hmi, hei, Yt⟩, Yt⟩⟩,
   ⟨hli,e1,Zd (fun _ h=>h.elim) _ (Z2S _)⟩,⟨hmi,e4,Zd (fun _ h=>h.elim) _ (Z3N _)⟩,⟨hei,e2,Zd (fun _ h=>h.elim) _ (Z1g _ _)⟩,⟨h00,e0,Zd (fun _ h=>h.elim) _ hB⟩,Yt⟩
theorem Z3U {t:PB} {S:List Nat} {lim:Int} {L:List FE} {E:List Nat} {li mi ei li' mi' ei' N:Nat} {B:Bx} {ρ:Nat->Nat} {h:X2} (h3:3<N) (hli:li<N) (hmi:mi<N) (hei:ei<N) (r3:ρ 3=3) (r1:ρ li=li') (r4:ρ mi=mi') (r2:ρ ei=ei') (h00:0<N) (hB:X1 B.elems) (r0:ρ 0=0) (e3:h 3=some (X64 t S lim li' mi' ei')) (e1:h li'=some ⟨3,X14 L⟩) (e4:h mi'=some ⟨0,XA L⟩) (e2:h ei'=some ⟨1,Xn .i64 E⟩) (e0:h 0=some B):X1o ρ h N (X15 t S lim L E li mi ei ++ [(0,B)]):=by
 subst r1 r4 r2
 exact⟨⟨h3,_,by rw [r3]; exact e3,by unfold X64; exact Xw.single ⟨.pure _ Yt,.pure _ (Zo _ _),.pure _ (Z7 _),.pure _ (ZE _),.pure _ (Z11 _),.pure _ (Z11 _),.pure _ Yt,.own li hli,.mp mi hmi,.own ei hei,Yt⟩ rfl⟩,
  ⟨hli,_,e1,.same _ (Z2S _)⟩,⟨hmi,_,e4,.same _ (Z3N _)⟩,⟨hei,_,e2,.same _ (Z1g _ _)⟩,⟨h00,_,by rw [r0]; exact e0,.same _ hB⟩,Yt⟩
theorem Z6w {t:PB} (h:Xo t) (hn:t.n<=5) (S:List Nat) (lim:Int) (hlim:1<=lim) {B:Bx} (hB:X1 B.elems):XF Tryz.prog 162 1 [.agg (pbP t S),.val (.int .i64 lim)] (Xv [(0,B)]) fun n' r h'=>n'=5/\r=.tup [.ptr 3 0 0,.val (.int .i64 0)]/\h'=Xv (X15 t S lim [feS t] [1] 1 4 2 ++ [(0,B)]):=by
 refine XF.less (R:=fun n' r h'=>n'=5/\r=.tup [.ptr 3 0 0,.val (.int .i64 0)]/\∀ q∈X15 t S lim [feS t] [1] 1 4 2 ++ [(0,B)],h' q.1=some q.2) ?_ fun n' r h' ⟨h1,h2,h3⟩=>⟨_,Z3O h3,h1,h2,rfl⟩
 have hst:t.st<256:=by
  have h1:t.st<=mkN t.n:=by rw [<- h.st]; exact YN
  have:2 ^ t.n<=2 ^ 5:=YJ (by decide) hn;unfold mkN at h1;omega
 refine Z18 ok162 (Y0 rfl) fun C hC=>?_;refine Zm ?_;refine Z9 ?_;refine Z5 rfl rfl rfl ?_;refine gd 9 ⟨?_⟩;refine Qo (Qz rfl (by omega)) ?_;refine gd 11 ⟨?_⟩;refine Qe (Z2i h S) ⟨ZC t S,Yt⟩ ?_;refine gd 20 ⟨?_⟩;refine Z2c rfl rfl rfl ?_;refine Z2c rfl rfl rfl ?_;refine gd 28 ⟨?_⟩;refine Qe (Z3L t.st hst) ⟨Z2 _,Yt⟩ ?_;refine Qo (Zhi rfl) ?_;refine Qo (Ze5 (rows := []) (p:=.val (.bool true)) rfl rfl rfl rfl (X4R _) rfl) ?_;refine go ?_;refine⟨_,_,rfl,.inl rfl,rfl,rfl,fun q hq=>?_⟩;simp only [X15,Y3O,Y1e,YD,Y2T,Y4v] at hq;rcases hq with rfl|rfl|rfl|rfl|rfl<;>rfl
def X6x (t:PB) (S:List Nat) (lim:Int) (d lo:Nat) (L0:List FE) (E:List Nat) {B:Bx} (n':Nat) (r:PV) (h':X2):Prop :=
 (n'=72/\r=.tup [.val (.bool false),.val (.int .i64 3)]/\(∃ L:List FE,lim<(L.length:Int)/\(∀ e∈L,Rch t e.s)/\(L.map FE.s).Nodup)/\h'=Xv [(0,B)])
 \/ (n'=40/\r=.tup [.val (.bool false),.val (.int .i64 0)]/\BG t d lo L0 L0.length 0 L0/\h'=Xv (X15 t S lim L0 E 7 4 6 ++ [(0,B)]))
 \/ (n'=55/\r=.tup [.val (.bool true),.val (.int .i64 0)]/\∃ L:List FE,L0.length<L.length/\(L.length:Int)<=lim/\BG t d lo L0 L0.length 0 L/\h'=Xv (X15 t S lim L (E ++ [L.length]) 7 4 51 ++ [(0,B)]))
def X41 (t:PB) (S:List Nat) (lim:Int) (d lo:Nat) (L0:List FE) (E:List Nat) {B:Bx} (n':Nat) (r:PV) (h':X2):Prop :=
 (n'=72/\r=.tup [.val (.bool false),.val (.int .i64 3)]/\(∃ L:List FE,lim<(L.length:Int)/\(∀ e∈L,Rch t e.s)/\(L.map FE.s).Nodup)/\X5b h' [(0,B)])
 \/ (n'=40/\r=.tup [.val (.bool false),.val (.int .i64 0)]/\BG t d lo L0 L0.length 0 L0/\X5b h' (X15 t S lim L0 E 7 4 6 ++ [(0,B)]))
 \/ (n'=55/\r=.tup [.val (.bool true),.val (.int .i64 0)]/\∃ L:List FE,L0.length<L.length/\(L.length:Int)<=lim/\BG t d lo L0 L0.length 0 L/\X5b h' (X15 t S lim L (E ++ [L.length]) 7 4 51 ++ [(0,B)]))
theorem X41.less {t:PB} {S:List Nat} {lim:Int} {d lo:Nat} {L0:List FE} {E:List Nat} {B:Bx} (n':Nat) (r:PV) (h':X2) (hd:X41 t S lim d lo L0 E (B:=B) n' r h'):∃ h2:X2,(∀ i b,h2 i=some b->h' i=some b)/\X6x t S lim d lo L0 E (B:=B) n' r h2:=by
 rcases hd with⟨h1,h2,h3,h4⟩|⟨h1,h2,h3,h4⟩|⟨h1,h2,L,h3,h4,h5,h6⟩
 . exact⟨_,Z3O h4.mem,.inl ⟨h1,h2,h3,rfl⟩⟩
 . exact⟨_,Z3O h4.mem,.inr (.inl ⟨h1,h2,h3,rfl⟩)⟩
 . exact⟨_,Z3O h6.mem,.inr (.inr ⟨h1,h2,L,h3,h4,h5,rfl⟩)⟩
theorem Z5N {t:PB} (h:Xo t) (hn:t.n<=5) (S:List Nat) (lim:Int) (hl0:1<=lim) {d lo:Nat} {L0:List FE} (hb:BF t d lo L0) (hll:(L0.length:Int)<=lim) {E:List Nat} (hE:X2D E lo L0.length) (hEl:E.length<=1000000) {B:Bx} (hB:X1 B.elems) :
 XF Tryz.prog 165 7 [.ptr 3 0 0] (Xv (X15 t S lim L0 E 5 4 6 ++ [(0,B)])) (X6x t S lim d lo L0 E (B:=B)):=by
 refine XF.less (R:=X41 t S lim d lo L0 E (B:=B)) ?_ X41.less;have hEp:=hE.pos;have hrl:=h.rl;have h32:2 ^ t.n<=32:=YJ (n:=2) (by decide) hn;have hL0:=hb.len h;have hel:(Xn .i64 E).length=E.length:=Z1I _ _;have hrul:(t.rs.map ruP).length=t.rs.length:=by simp
 refine Z18 ok165 (Y0 rfl) fun C hC=>?_
 iterate 9 (first|refine st ?_|(apply B<;>intro hb<;>try cases hb))
 show aw _ _ _ _ _ _ _;refine Zdq hC True 7 [(0,.ptr 3 0 0),(4,.val (.int .i64 (lo:Int)))] (X15 t S lim L0 E 5 4 6 ++ [(0,B)]) (by decide) ?_ fun _=>?_
 . refine gd 14 ⟨?_⟩;refine Ze (v:=(E.length:Int)) rfl rfl rfl (by rw [hel]) ?_;refine gd 16 ⟨?_⟩;have fin:∀ {v:Int},v=(lo:Int)->v=(lo:Int):=fun h=>h;by_cases h1:1<E.length
   . have hlo : lo = E.getD (E.length - 2) 0 := by rw [hE.lo, Y6 h1]
     refine Qo (Qy rfl (by omega)) ?_;refine gd 22 ⟨?_⟩
     refine Ze (v:=((E.length-2:Nat):Int)) rfl rfl rfl (by
      rw [show (E.length:Int)-2=((E.length-2:Nat):Int) by omega]
      exact Y0v _ ⟨by omega,by omega⟩) ?_
     refine Qo (ZF rfl rfl rfl (E.length-2) rfl (by rw [hel];omega) rfl) ?_;refine Qo (Zhj (kd:=.i64) (L:=E) rfl rfl (by omega)) ?_;rw [<- hlo];refine go ?_;exact⟨Yt,⟨⟨rfl,(show 3<7 by decide)⟩,⟨rfl,Yt⟩,Yt⟩,Zk9 (by decide) (by decide) (by decide) (by decide) (by decide) hB rfl rfl rfl rfl rfl⟩
   . have hlo : lo = 0 := by rw [hE.lo, Y8 h1]
     subst hlo;refine Qo (Qz rfl (by omega)) ?_;refine go ?_;exact⟨Yt,⟨⟨rfl,(show 3<7 by decide)⟩,⟨rfl,Yt⟩,Yt⟩,Zk9 (by decide) (by decide) (by decide) (by decide) (by decide) hB rfl rfl rfl rfl rfl⟩
 . refine go ?_;refine Zv hC (fun x:Nat×List FE=>lo<=x.1/\x.1<=L0.length/\BG t d lo L0 x.1 0 x.2/\(x.2.length:Int)<=lim) (fun x=>L0.length-x.1) 8 (fun x => [(0,.ptr 3 0 0),(6,.val (.int .i64 (x.1:Int)))]) (fun x=>X15 t S lim x.2 E 7 4 6 ++ [(0,B)]) (by decide) (lo,L0) ⟨Y0m _,hb.le,.begin hb,hll⟩
    (mv 7 5) (Z3n (by decide)) (Zq rfl) ⟨Qt 3 0 0,Qp Yt,Yt⟩ (Z3U (by decide) (by decide) (by decide) (by decide) rfl rfl rfl rfl (by decide) hB rfl rfl rfl rfl rfl rfl) ?_
   rintro⟨i,L⟩ ⟨hlo,hi,hg,hlm⟩;have hlo:lo<=i:=hlo;have hi:i<=L0.length:=hi;have hg:BG t d lo L0 i 0 L:=hg;have hlm:(L.length:Int)<=lim:=hlm;have hinci:IntKind.i64.wrap ((i:Int)+1)=((i+1:Nat):Int):=Y0v _ ⟨by omega,by omega⟩;have hpre:IntKind.i64.wrap ((E.length:Int)-1)=((E.length-1:Nat):Int):=by
    rw [show (E.length:Int)-1=((E.length-1:Nat):Int) by omega];exact Y0v _ ⟨by omega,by omega⟩
   have hLl:=hg.len h;have hLr:(X14 L).length=L.length:=Z2J L;refine gd 35 ⟨?_⟩;refine Qr (ZS (v:=(E.length:Int)) rfl (by rw [hel])) ?_;refine Qr (ZS (v:=((E.length-1:Nat):Int)) rfl hpre) ?_;refine Qr (ZF rfl rfl rfl (E.length-1) rfl (by rw [hel];omega) rfl) ?_;refine Qr (Zhj (kd:=.i64) (L:=E) rfl rfl (by omega)) ?_;rw [hE.last];by_cases hil:i<L0.length
   . refine Qr (Qy rfl (Y1z.2 hil)) ?_;obtain⟨e0,he0⟩:∃ e0,L0[i]?=some e0:=⟨_,Y0c hil⟩
     refine gd 47 ⟨?_⟩;refine Ze (v:=(t.rs.length:Int)) rfl rfl rfl (by rw [hrul]) ?_;refine go ?_;refine Zv hC (fun x:Nat×List FE=>x.1<=t.rs.length/\BG t d lo L0 i x.1 x.2/\(x.2.length:Int)<=lim) (fun x=>t.rs.length-x.1) 8 (fun x => [(0,.ptr 3 0 0),(6,Yv i),(47,.val (.int .i64 (t.rs.length:Int))),(48,.val (.int .i64 (x.1:Int)))]) (fun x=>X15 t S lim x.2 E 7 4 6 ++ [(0,B)]) (by decide) (0,L) ⟨Y0l _,hg,hlm⟩
      (fun j=>j) (fun _ _=>rfl) Zf ⟨Qt 3 0 0,Qp Yt,Qp Yt,Qp Yt,Yt⟩ (Z3U (by decide) (by decide) (by decide) (by decide) rfl rfl rfl rfl (by decide) hB rfl rfl rfl rfl rfl rfl) ?_
     rintro⟨k,M⟩ ⟨hk,hgm,hmm⟩;have hk:k<=t.rs.length:=hk;have hgm:BG t d lo L0 i k M:=hgm;have hmm:(M.length:Int)<=lim:=hmm;have hinc:IntKind.i64.wrap ((k:Int)+1)=((k+1:Nat):Int):=Y0v _ ⟨by omega,by omega⟩;have hMl:=hgm.len h;have hMr:(X14 M).length=M.length:=Z2J M;have heM:M[i]?=some e0:=Z2R hgm.pre he0;have hiM:i<M.length:=(Y7.1 heM).1;have hsm:=hgm.small h hn;have hi0:=hsm e0 (YG heM);have hin0:=(hgm.rch e0 (YG heM)).inS h;refine gd 49 ⟨?_⟩;by_cases hkl:k<t.rs.length
     . refine Qo (Qy rfl (Y1z.2 hkl)) ?_;have hxk:=Y0c hkl;have hst:=Z8Q h S e0.s (by omega) k hkl;generalize hx0:t.rs[k]=x at hst hxk;have hxm:x∈t.rs:=YG hxk;have hnin:=Z1H h hxm hin0;have hnx:X9 x e0.s<256:=by
        have h1:X9 x e0.s<=mkN t.n:=by rw [<- hnin]; exact YN
        unfold mkN at h1;omega
       refine gd 61 ⟨?_⟩;refine Qr (ZF rfl rfl rfl i rfl (by rw [hMr]; exact hiM) rfl) ?_;refine gd 63 ⟨?_⟩;refine Qr (Z1v (p:=XG e0.s) rfl rfl (by rw [hMr]; exact hiM) (by rw [Z2K heM]; rfl)) ?_;refine gd 65 ⟨?_⟩;cases hok:XB t x e0.s with
       | false =>
         rw [hok] at hst;refine Qd hst ⟨ZC t S,Z2 _,Yt,Yt⟩ ?_;refine go ?_;exact⟨(k+1,M),fun j=>j,⟨hkl,hgm.skip he0 hxk (.inl hok),hmm⟩,by show t.rs.length-(k+1)<t.rs.length-k; omega,fun _ _=>rfl,Zf,⟨Qt 3 0 0,Qp Yt,Qp Yt,⟨_,by show some _=some _; rw [hinc],.pure _ Yt⟩,Yt⟩,Z3U (by decide) (by decide) (by decide) (by decide) rfl rfl rfl rfl (by decide) hB rfl rfl rfl rfl rfl rfl⟩
       | true =>
         rw [hok] at hst;have hst2:X5H x e0.s true=.tup [XG (X9 x e0.s),.val (.bool true)]:=rfl;rw [hst2] at hst;refine Qd hst ⟨ZC t S,Z2 _,Yt,Yt⟩ ?_;generalize hnv:X9 x e0.s=nx at hnx hnin;refine gd 76 ⟨?_⟩;refine Z2d rfl ?_;refine Qd (Z3L nx hnx) ⟨Z2 _,Yt⟩ ?_;refine Z2d rfl ?_;refine Qr (Zhi rfl) ?_;refine Z2d rfl ?_;by_cases hm:nx∈M.map FE.s
         . obtain ⟨j, h1, h2⟩ := Ze4 hnx hsm hm;refine Qr (Zl2 (b:=⟨0,XA M⟩) rfl rfl rfl rfl (X4R _) h1) ?_;rw [h2];refine go ?_;exact⟨(k+1,M),fun j=>j,⟨hkl,hgm.skip he0 hxk (.inr (by rw [hnv]; exact hm)),hmm⟩,by show t.rs.length-(k+1)<t.rs.length-k; omega,fun _ _=>rfl,Zf,⟨Qt 3 0 0,Qp Yt,Qp Yt,⟨_,by show some _=some _; rw [hinc],.pure _ Yt⟩,Yt⟩,Z3U (by decide) (by decide) (by decide) (by decide) rfl rfl rfl rfl (by decide) hB rfl rfl rfl rfl rfl rfl⟩
         . refine Qr (Zm7 (b := ⟨0, XA M⟩) rfl rfl rfl rfl (X4R _) (ZcJ hnx hsm hm)) ?_;have hadd:=hgm.add hlo he0 hxk hok (by rw [hnv]; exact hm);rw [hnv] at hadd;have hlen2:=hadd.len h;have hMr2:(X14 (M ++ [(⟨nx,(i:Int),(k:Int)⟩:FE)])).length=M.length+1:=by rw [Z2J,Y0e]; rfl
           have hMr3:(M ++ [(⟨nx,(i:Int),(k:Int)⟩:FE)]).length=M.length+1:=by rw [Y0e]; rfl
           have hs2:XA M ++ [[.val (.string (X36 nx)),.val (.bool true)]]=XA (M ++ [(⟨nx,(i:Int),(k:Int)⟩:FE)]):=by unfold XA; rw [Y0r]; rfl
           have hf2:X14 M ++ [feC ⟨nx,(i:Int),(k:Int)⟩]=X14 (M ++ [(⟨nx,(i:Int),(k:Int)⟩:FE)]):=by unfold X14; rw [Y0r]; rfl
           refine gd 85 ⟨?_⟩;refine Qd (Z3L nx hnx) ⟨Z2 _,Yt⟩ ?_;refine Qr (Zhi rfl) ?_;refine Qr (Ze5 (rows:=XA M) (p:=.val (.bool true)) rfl rfl rfl rfl (X4R _) (ZcJ hnx hsm hm)) ?_;rw [hs2];refine gd 97 ⟨?_⟩
           refine Qr (Zu (k:=7) (m := [feC ⟨nx,(i:Int),(k:Int)⟩]) (fl:=true) (b:=⟨3,X14 M⟩) rfl rfl rfl (fun q hq=>by rw [Y0g] at hq; subst hq; rfl) rfl (by
            show ((X14 M).length+1)*40<=_
            rw [hMr];omega)) ?_
           simp only;rw [hf2];generalize hMM:M ++ [(⟨nx,(i:Int),(k:Int)⟩:FE)]=MM at hadd hMr2 hMr3 hlen2;refine gd 104 ⟨?_⟩;refine Qr (ZS (v:=((M.length+1:Nat):Int)) rfl (by rw [hMr2])) ?_;refine gd 109 ⟨?_⟩;by_cases hgt:(((M.length+1:Nat):Int))>lim
           . refine Qr (Qy rfl hgt) ?_;refine go ?_;exact⟨_,_,rfl,.inl rfl,.inl ⟨rfl,rfl,⟨MM,by rw [hMr3]; exact hgt,hadd.rch,hadd.nd⟩,⟨rfl,Yt⟩⟩⟩
           . refine Qr (Qz rfl hgt) ?_;refine go ?_;exact⟨(k+1,MM),mv 7 58,⟨hkl,hadd,by show (MM.length:Int)<=lim; rw [hMr3]; omega⟩,by show t.rs.length-(k+1)<t.rs.length-k; omega,Z3n (by decide),Zq rfl,⟨Qt 3 0 0,Qp Yt,Qp Yt,⟨_,by show some _=some _; rw [hinc],.pure _ Yt⟩,Yt⟩,Z3U (by decide) (by decide) (by decide) (by decide) rfl rfl rfl rfl (by decide) hB rfl rfl rfl rfl rfl rfl⟩
     . refine Qo (Qz rfl (by omega)) ?_;refine go ?_;exact⟨(i+1,M),fun j=>j,⟨by show lo<=i+1; omega,hil,hgm.next (by omega),hmm⟩,by show L0.length-(i+1)<L0.length-i; omega,fun _ _=>rfl,Zf,⟨Qt 3 0 0,⟨_,by show some _=some _; rw [hinci],.pure _ Yt⟩,Yt⟩,Z3U (by decide) (by decide) (by decide) (by decide) rfl rfl rfl rfl (by decide) hB rfl rfl rfl rfl rfl rfl⟩
   . have hil : i = L0.length := by omega
     subst hil;refine Qr (Qz rfl (by omega)) ?_;refine gd 115 ⟨?_⟩;refine Qr (ZS (v:=(L.length:Int)) rfl (by rw [hLr])) ?_;refine gd 124 ⟨?_⟩;refine Qr (ZS (v:=(E.length:Int)) rfl (by rw [hel])) ?_;refine Qr (ZS (v:=((E.length-1:Nat):Int)) rfl hpre) ?_;refine Qr (ZF rfl rfl rfl (E.length-1) rfl (by rw [hel];omega) rfl) ?_;refine Qr (Zhj (kd:=.i64) (L:=E) rfl rfl (by omega)) ?_;rw [hE.last];by_cases hee:L.length=L0.length
     . refine Qr (Z4 (v := true) rfl (by simp [hee])) ?_;refine go ?_;obtain rfl:L0=L:=hg.pre.eq_of_length hee.symm;exact⟨_,_,rfl,.inl rfl,.inr (.inl ⟨rfl,rfl,hg,⟨rfl,rfl,rfl,rfl,rfl,Yt⟩⟩)⟩
     . refine Qr (Z4 (v := false) rfl (by simp; omega)) ?_;refine gd 138 ⟨?_⟩;refine Qr (ZS (v:=(L.length:Int)) rfl (by rw [hLr])) ?_;have he2:Xn .i64 E ++ [[.val (.int .i64 (L.length:Int))]]=Xn .i64 (E ++ [L.length]):=by unfold Xn; rw [Y0r]; rfl
       refine gd 140 ⟨?_⟩
       refine Qr (Zu (k:=6) (m := [[.val (.int .i64 (L.length:Int))]]) (fl:=true) (b:=⟨1,Xn .i64 E⟩) rfl rfl rfl (fun q hq=>by rw [Y0g] at hq; subst hq; rfl) rfl (by
        show ((Xn .i64 E).length+1)*8<=_
        rw [hel];omega)) ?_
       simp only;rw [he2];refine go ?_;exact⟨_,_,rfl,.inl rfl,.inr (.inr ⟨rfl,rfl,L,by have:=hg.pre.length_le; omega,hlm,hg,⟨rfl,rfl,rfl,rfl,rfl,Yt⟩⟩)⟩
def alR (a b:Nat):Nat->Nat:=fun i=>bif Nat.beq i 5 then a else bif Nat.beq i 6 then b else i
theorem Zhn (a b:Nat):∀ i,i<5->alR a b i=i:=fun i hi=>by
 match i,hi with
 | 0,_=>rfl
 | 1,_=>rfl
 | 2,_=>rfl
 | 3,_=>rfl
 | 4,_=>rfl
 | i+5,h=>omega
theorem X28.at {L:List FE} {j:Nat} {p:List Nat} (h:X28 L j p):∃ e,L[j]?=some e/\((e.fr<0/\p = []) \/ ∃ (i k:Nat) (q:List Nat),e.fr=(i:Int)/\i<j/\e.k=(k:Int)/\p=q ++ [k]/\X28 L i q):=by
 cases h with
 | base h hf=>exact⟨_,h,.inl ⟨hf,rfl⟩⟩
 | step h hf hj hk hp=>exact⟨_,h,.inr ⟨_,_,_,hf,hj,hk,rfl,hp⟩⟩
theorem X6z {t:PB} {S:List Nat} {lim:Int} {L:List FE} {E:List Nat} {B:Bx} (hB:X1 B.elems) {o:List Nat} {ρ:Nat->Nat} {h:X2} {o':Nat} (r3:ρ 3=3) (r1:ρ 5=5) (r4:ρ 4=4) (r2:ρ 6=6) (r0:ρ 0=0) (ro:ρ 19=o') (e3:h 3=some (X64 t S lim 5 4 6)) (e1:h 5=some ⟨3,X14 L⟩) (e4:h 4=some ⟨0,XA L⟩) (e2:h 6=some ⟨1,Xn .i64 E⟩) (e0:h 0=some B) (eo:h o'=some ⟨1,Xn .i64 o⟩):X1o ρ h 20 (X15 t S lim L E 5 4 6 ++ [(0,B),(19,⟨1,Xn .i64 o⟩)]) :=
 ⟨⟨by decide, _, by rw [r3]; exact e3, by unfold X64; exact Xw.single ⟨.pure _ Yt, .pure _ (Zo _ _), .pure _ (Z7 _), .pure _ (ZE _), .pure _ (Z11 _), .pure _ (Z11 _), .pure _ Yt, .same _ ⟨by decide, r1⟩, .same _ ⟨by decide, r4⟩, .same _ ⟨by decide, r2⟩, Yt⟩ rfl⟩,
   ⟨by decide,_,by rw [r1]; exact e1,.same _ (Z2S _)⟩,⟨by decide,_,by rw [r4]; exact e4,.same _ (Z3N _)⟩,⟨by decide,_,by rw [r2]; exact e2,.same _ (Z1g _ _)⟩,⟨by decide,_,by rw [r0]; exact e0,.same _ hB⟩,⟨by decide,_,by rw [ro]; exact eo,.same _ (Z1g _ _)⟩,Yt⟩
theorem ZcK (t:PB) (S:List Nat) (lim:Int) (L:List FE) (E:List Nat) {B:Bx} (hB:X1 B.elems) (i0:Nat) (p:List Nat) (hp:X28 L i0 p) (hpl:p.length<=100000) (hL:L.length<=100000) :
 XF Tryz.prog 163 18 [.ptr 3 0 0,.val (.int .i64 (i0:Int))] (Xv (X15 t S lim L E 5 4 6 ++ [(0,B)])) fun n' r h'=>n'=20/\r=.vec (inL p) false/\h'=Xv (X15 t S lim L E 5 4 6 ++ [(0,B)]):=by
 refine XF.less (R:=fun n' r h'=>n'=20/\r=.vec (inL p) false/\X5b h' (X15 t S lim L E 5 4 6 ++ [(0,B)])) ?_ fun n' r h' ⟨h1,h2,h3⟩=>⟨_,Z3O h3.mem,h1,h2,rfl⟩
 have hLr:=Z2J L;refine Z18 ok163 (Y0 rfl) fun C hC=>?_;refine go ?_;refine Z1U (Zy (k:=5) rfl 1 (by decide) _) ?_;refine Zv hC (fun x:Nat×List Nat=>∃ q,X28 L x.1 q/\q++x.2.reverse=p) (fun x=>x.1) 20 (fun x => [(0,.ptr 3 0 0),(1,.val (.int .i64 (x.1:Int))),(5,.own 19)]) (fun x=>X15 t S lim L E 5 4 6 ++ [(0,B),(19,⟨1,Xn .i64 x.2⟩)]) (by decide) (i0,[]) ⟨p,hp,by simp⟩
  (mv 19 18) (Z3n (by decide)) (Zq rfl) ⟨Qt 3 0 0,Qp Yt,⟨_,rfl,.own 19 (by decide)⟩,Yt⟩ (X6z hB rfl rfl rfl rfl rfl rfl rfl rfl rfl rfl rfl rfl) ?_
 rintro⟨j,o⟩ ⟨q,hq,hqo⟩;have hqo:q++o.reverse=p:=hqo;obtain⟨e,he,hcase⟩:=(show X28 L j q from hq).at;have hjl:=(Y7.1 he).1;have hol:o.length<=p.length:=by rw [<- hqo]; simp
 have hor:=Z1I .i64 o;refine gd 11 ⟨?_⟩;refine Qo (ZF rfl rfl rfl j rfl (by rw [hLr]; exact hjl) rfl) ?_;refine gd 13 ⟨?_⟩;refine Qo (Z1v (p:=.val (.int .i64 e.fr)) rfl rfl (by rw [hLr]; exact hjl) (by rw [Z2K he]; rfl)) ?_;rcases hcase with⟨hf,rfl⟩|⟨i,k,q',hf,hij,hk,rfl,hq'⟩
 . refine Qo (Qz rfl (by omega)) ?_;have hop:o.reverse=p:=by rw [<- hqo]; rfl
   refine gd 35 ⟨?_⟩;refine Zk8 (id:=19) (Zfe o (by omega)) (Z6V Z3j ZcG) rfl rfl rfl rfl (Z1g _ _) ?_;rintro r b' _ _ rfl;rw [hop];refine gd 36 ⟨?_⟩;refine Za (Zj (k:=5) (b:=⟨1,Xn .i64 p⟩) rfl rfl (Z1g _ _)) ?_;refine go ?_;exact⟨_,_,rfl,.inl rfl,rfl,rfl,rfl,rfl,rfl,rfl,rfl,Yt⟩
 . refine Qo (Qy rfl (by rw [hf]; omega)) ?_;refine gd 29 ⟨?_⟩;refine Qo (ZF rfl rfl rfl j rfl (by rw [hLr]; exact hjl) rfl) ?_;refine gd 31 ⟨?_⟩;refine Qo (Z1v (p:=.val (.int .i64 (k:Int))) rfl rfl (by rw [hLr]; exact hjl) (by rw [Z2K he,<- hk]; rfl)) ?_;have happ:Xn .i64 o ++ [[.val (.int .i64 (k:Int))]]=Xn .i64 (o ++ [k]):=by unfold Xn; rw [Y0r]; rfl
   refine gd 33 ⟨?_⟩
   refine ZH (Zu (k:=19) (m := [[.val (.int .i64 (k:Int))]]) (fl:=true) (b:=⟨1,Xn .i64 o⟩) rfl rfl rfl (fun q hq=>by rw [Y0g] at hq; subst hq; rfl) rfl (by
    show ((Xn .i64 o).length+1)*8<=_
    rw [hor];omega)) rfl rfl ?_
   simp only;rw [happ];refine gd 20 ⟨?_⟩;refine Qo (ZF rfl rfl rfl j rfl (by rw [hLr]; exact hjl) rfl) ?_;refine gd 22 ⟨?_⟩;refine Qo (Z1v (p:=.val (.int .i64 ((i:Nat):Int))) rfl rfl (by rw [hLr]; exact hjl) (by rw [Z2K he,<- hf]; rfl)) ?_;refine go ?_;exact⟨(i,o ++ [k]),mv 19 20,⟨q',hq',by rw [<- hqo]; simp⟩,hij,Z3n (by decide),Zq rfl,⟨Qt 3 0 0,Qp Yt,⟨_,rfl,.own 19 (by decide)⟩,Yt⟩,X6z hB rfl rfl rfl rfl rfl rfl rfl rfl rfl rfl rfl rfl⟩
inductive FwR (t:PB) (lim:Int):PV->Prop
 | lim (L:List FE) (h1:lim<(L.length:Int)) (h2:∀ e∈L,Rch t e.s) (h3:(L.map FE.s).Nodup):FwR t lim (.tup [.agg [.val (.int .i64 0),.val (.bool false),.vec [] true],.val (.int .i64 3)])
 | yes (n:Int) (p:List Nat) (fl:Bool) (hp:XY t p) (hs:∀ q,XY t q->p.length<=q.length) (hl:p.length<=62):FwR t lim (.tup [.agg [.val (.int .i64 n),.val (.bool true),.vec (inL p) fl],.val (.int .i64 0)])
 | no (n:Int) (hn:¬ X1I t t.st):FwR t lim (.tup [.agg [.val (.int .i64 n),.val (.bool false),.vec [] true],.val (.int .i64 0)])
def X5d:Option (List Nat)->PV
 | none=>.vec [] true
 | some p=>.vec (inL p) false
def X5P:Option (List Nat)->Bool
 | none=>false
 | some _=>true
theorem Zfi:∀ b,(X5d b).pure
 | none=>trivial
 | some p=>Zs p
def X5q:Bx:=⟨3,[[.val (.int .i64 0),.val (.bool false),.vec [] true]]⟩
theorem Z2T:X1 X5q.elems:=⟨⟨Yt,Yt,Yt,Yt⟩,Yt⟩
structure FwI (t:PB) (lim:Int) (d lo:Nat) (L:List FE) (E:List Nat):Prop where
 b:BF t d lo L
 e:X2D E lo L.length
 l:(L.length:Int)<=lim
 el:E.length<=L.length
 dl:d<=L.length
def X5a (t:PB) (d lo:Nat) (L:List FE) (i:Nat):Option (List Nat)->Prop
 | none=>∀ j e,lo<=j->j<i->L[j]?=some e->Xp t e.s=false
 | some p=>XY t p/\p.length=d
theorem Zfj {t:PB} (h:Xo t) (hn:t.n<=5) (S:List Nat) (lim:Int) (hlim:1<=lim):X7 Tryz.prog 131 [.agg (pbP t S),.val (.int .i64 lim)] (FwR t lim):=by
 have h32:2 ^ t.n<=32:=YJ (n:=2) (by decide) hn;have hpp:=ZC t S;refine Yp ok131 fun C hC=>?_;refine Zm ?_;refine Z9 ?_;refine Z5 rfl rfl rfl ?_;refine gd 18 ⟨?_⟩;refine Z10 rfl rfl (Z6w h hn S lim hlim (B:=X5q) Z2T) ?_;rintro n' r h' ⟨rfl,rfl,rfl⟩;refine go ?_;refine Zv hC (fun x:(Nat×Nat)×List FE×List Nat=>FwI t lim x.1.1 x.1.2 x.2.1 x.2.2) (fun x=>2 ^ t.n+1-x.2.1.length) 7 (fun x => [(2,.cp (pbP t S)),(4,.ptr 0 0 0),(6,.ptr 3 0 0),(8,.val (.int .i64 (x.1.2:Int)))]) (fun x=>X15 t S lim x.2.1 x.2.2 5 4 6 ++ [(0,X5q)]) (by decide) ((0,0),[feS t],[1])
  ⟨.start t,.base,hlim,Y0m _,Y0l _⟩ (alR 1 2) (fun _ hi=>absurd hi (Ye _)) (Zq rfl) ⟨Qp hpp,Qt 0 0 0,Qt 3 0 0,Qp Yt,Yt⟩
  (Z3U (by decide) (by decide) (by decide) (by decide) rfl rfl rfl rfl (by decide) Z2T rfl rfl rfl rfl rfl rfl) ?_
 rintro⟨⟨d,lo⟩,L,E⟩ hI;obtain⟨hb,hE,hll,hel,hdl⟩:=(show FwI t lim d lo L E from hI)
 have hLn:=hb.len h;have hLr:=Z2J L;have hlo:=hb.le;refine go ?_;refine Zv hC (fun x:Nat×Option (List Nat)=>lo<=x.1/\x.1<=L.length/\X5a t d lo L x.1 x.2) (fun x=>L.length-x.1) 7 (fun x => [(2,.cp (pbP t S)),(4,.ptr 0 0 0),(6,.ptr 3 0 0),(9,X5d x.2),(10,.val (.bool (X5P x.2))),(11,.val (.int .i64 (x.1:Int)))]) (fun x=>X15 t S lim L E 5 4 6 ++ [(0,X5q)]) (by decide) (lo,none)
  ⟨Y0m _,hlo,fun j e h1 h2=>absurd h1 (by omega)⟩ (fun i=>i) (fun _ _=>rfl) Zf ⟨Qp hpp,Qt 0 0 0,Qt 3 0 0,Qp Yt,Qp Yt,Qp Yt,Yt⟩
  (Z3U (by decide) (by decide) (by decide) (by decide) rfl rfl rfl rfl (by decide) Z2T rfl rfl rfl rfl rfl rfl) ?_
 rintro⟨i,best⟩ ⟨hli,hil,hbest⟩;have hli:lo<=i:=hli;have hil:i<=L.length:=hil;have hbest:X5a t d lo L i best:=hbest;have hinc:IntKind.i64.wrap ((i:Int)+1)=((i+1:Nat):Int):=Y0v _ ⟨by omega,by omega⟩;have next:∀ (n1:Nat) (e1:Env) (b1:Option (List Nat)),X5a t d lo L (i+1) b1->i<L.length->e1 2=some (.cp (pbP t S))->e1 4=some (.ptr 0 0 0)->e1 6=some (.ptr 3 0 0)->e1 9=some (X5d b1)->e1 10=some (.val (.bool (X5P b1)))->e1 11=some (.val (.int .i64 ((i+1:Nat):Int))) ->
  ∃ (x' : Nat × Option (List Nat)) (ρ : Nat -> Nat), (lo <= x'.1 /\ x'.1 <= L.length /\ X5a t d lo L x'.1 x'.2) /\ L.length - x'.1 < L.length - i /\ (∀ i, i < 0 -> ρ i = i) /\ X3Q ρ (X15 t S lim L E 5 4 6 ++ [(0, X5q)]) /\
    X3r ρ e1 7 [(2,.cp (pbP t S)),(4,.ptr 0 0 0),(6,.ptr 3 0 0),(9,X5d x'.2),(10,.val (.bool (X5P x'.2))),(11,.val (.int .i64 (x'.1:Int)))]/\X1o ρ (Xv (X15 t S lim L E 5 4 6 ++ [(0,X5q)])) 7 (X15 t S lim L E 5 4 6 ++ [(0,X5q)]) :=
  fun n1 e1 b1 h1 h2 g2 g4 g6 g9 g10 g11=>⟨(i+1,b1),fun i=>i,⟨by show lo<=i+1; omega,h2,h1⟩,by show L.length-(i+1)<L.length-i; omega,fun _ _=>rfl,Zf,
   ⟨⟨_,g2,.pure _ hpp⟩,⟨_,g4,.ptr 0 0 0 (by decide)⟩,⟨_,g6,.ptr 3 0 0 (by decide)⟩,⟨_,g9,.pure _ (Zfi _)⟩,⟨_,g10,.pure _ Yt⟩,⟨_,g11,.pure _ Yt⟩,Yt⟩,
   Z3U (by decide) (by decide) (by decide) (by decide) rfl rfl rfl rfl (by decide) Z2T rfl rfl rfl rfl rfl rfl⟩
 refine gd 31 ⟨?_⟩;refine Ze (v:=(L.length:Int)) rfl rfl rfl (by rw [hLr]) ?_;by_cases hlt:i<L.length
 . refine Qo (Qy rfl (Y1z.2 hlt)) ?_;obtain⟨e0,he0⟩:∃ e0,L[i]?=some e0:=⟨_,Y0c hlt⟩
   have hrc:=hb.rch e0 (YG he0);have h64:e0.s<18446744073709551616:=(hrc.inS h).lt h.n.2;refine gd 41 ⟨?_⟩;refine Qr (ZF rfl rfl rfl i rfl (by rw [hLr]; exact hlt) rfl) ?_;refine gd 43 ⟨?_⟩;refine Qr (Z1v (p:=XG e0.s) rfl rfl (by rw [hLr]; exact hlt) (by rw [Z2K he0]; rfl)) ?_;refine Qd (Z58 h S e0.s h64) ⟨hpp,Z2 _,Yt⟩ ?_;cases hre:Xp t e0.s with
   | false =>
     refine go ?_;refine next 0 _ best ?_ hlt rfl rfl rfl rfl rfl (by show some _=some _; rw [hinc])
     cases best with
     | none =>
       intro j e h1 h2 he;by_cases hj:j<i
       . exact hbest j e h1 hj he
       . obtain rfl : j = i := by omega
         rw [he0] at he; cases he;exact hre
     | some p=>exact hbest
   | true =>
     obtain⟨p,hpf,hrun,hpd⟩:=hb.new i e0 hli he0;have hpo:XY t p:=⟨e0.s,hrun,hre⟩
     have hpl:p.length<=100000:=by omega
     refine gd 48 ⟨?_⟩;refine Z10 rfl rfl (ZcK t S lim L E Z2T i p hpf hpl (by omega)) ?_;rintro n' r h' ⟨rfl,rfl,rfl⟩;cases best with
     | none =>
       refine go ?_;exact next 0 _ (some p) ⟨hpo,hpd⟩ hlt rfl rfl rfl rfl rfl (by show some _=some _; rw [hinc])
     | some p0 =>
       have hp0:XY t p0/\p0.length=d:=hbest;refine gd 54 ⟨?_⟩;refine Zn rfl ?_;refine Zw rfl rfl (ZaQ p p0 false false (by omega) (by omega)) ⟨Zs _,Zs _,Yt⟩ rfl ?_;rintro r ⟨c,rfl⟩;refine gd 55 ⟨?_⟩;refine Zn rfl ?_;refine Zt rfl rfl rfl (fun hb=>?_) (fun hb=>?_)
       . refine go ?_;exact next 0 _ (some p) ⟨hpo,hpd⟩ hlt rfl rfl rfl rfl rfl (by show some _=some _; rw [hinc])
       . refine go ?_;exact next 0 _ (some p0) hp0 hlt rfl rfl rfl rfl rfl (by show some _=some _; rw [hinc])
 . have hie : i = L.length := by omega
   subst hie;refine Qo (Qz rfl (by omega)) ?_;cases best with
   | some p =>
     have hp:XY t p/\p.length=d:=hbest;refine go ?_;refine Z8 rfl ⟨⟨Yt,Yt,Zs _,Yt⟩,Yt,Yt⟩ (.yes _ p false hp.1 (fun q hq=>?_) (by omega));rw [hp.2];exact hb.short hq
   | none =>
     have hng:X3v t lo L:=fun j e h1 he=>hbest j e h1 (Y7.1 he).1 he;refine gd 70 ⟨?_⟩;refine Ze (v:=(L.length:Int)) rfl rfl rfl (by rw [hLr]) ?_;refine gd 73 ⟨?_⟩;refine Z10 rfl rfl (Z5N h hn S lim hlim hb hll hE (by omega) (B:=X5q) Z2T) ?_;rintro n' r h' (⟨rfl,rfl,⟨M,m1,m2,m3⟩,rfl⟩|⟨rfl,rfl,hg,rfl⟩|⟨rfl,rfl,M,m1,m2,hg,rfl⟩)
     . refine go ?_;exact Z8 rfl ⟨⟨Yt,Yt,Yt,Yt⟩,Yt,Yt⟩ (.lim M m1 m2 m3)
     . refine go ?_;exact Z8 rfl ⟨⟨Yt,Yt,Yt,Yt⟩,Yt,Yt⟩ (.no _ (hg.closed h (Y0m _) hng rfl))
     . have hMn := hg.len h;refine go ?_
       exact⟨((d+1,L.length),M,E ++ [M.length]),alR 7 51,⟨hg.finish (Y0m _) hng,hE.snoc M.length,m2,by show (E ++ [M.length]).length<=M.length; rw [Y0e,Y0s]; omega,by show d+1<=M.length; omega⟩,by show 2 ^ t.n+1-M.length<2 ^ t.n+1-L.length; omega,fun _ hi=>absurd hi (Ye _),Zq rfl,
        ⟨Qp hpp,Qt 0 0 0,Qt 3 0 0,Qp Yt,Yt⟩,
        Z3U (by decide) (by decide) (by decide) (by decide) rfl rfl rfl rfl (by decide) Z2T rfl rfl rfl rfl rfl rfl⟩
end
section
open Go.RowKit
def orL:List Nat->Nat
 | []=>0
 | x :: r=>x ||| orL r
theorem Z7L (i:Nat):∀ l:List Nat,(orL l).testBit i=true↔∃ x∈l,x.testBit i=true
 | []=>by simp [orL]
 | x :: r => by
   rw [orL,Y00,YR,Z7L i r];simp
noncomputable def X1h (l:List Pr) (c:Cu):Nat:=orL ((mem (c.1 ||| c.2)).map (sen l))
theorem Z9O {l:List Pr} {c:Cu} (h64:Xy c) {b r:Nat} (hb:c.1.testBit b=true \/ c.2.testBit b=true) (hr:(sen l b).testBit r=true):(X1h l c).testBit r=true:=by
 unfold X1h;rw [Z7L];refine⟨sen l b,Y1D ((ZY (Z1S h64.1 h64.2)).2 ?_),hr⟩;rw [Y00,YR]; exact hb
theorem Z6W {l:List Pr} (hl:XN l) (s b:Nat) (hs:s<18446744073709551616):(clo l s).testBit b=true↔∃ r,s.testBit r=true/\1<=r/\(sen l b).testBit r=true:=by
 rw [ZgJ _ _ hs];refine Y3r fun r=>Y2D fun _=>Y2D fun _=>?_;rw [Z7n hl,Z4e hl];exact or_congr_right eq_comm
theorem Zjr {l:List Pr} (hl:XN l) {s s':Nat} (hs:s<18446744073709551616) (hs':s'<18446744073709551616) (b:Nat) (he:∀ r,1<=r->(sen l b).testBit r=true->s.testBit r=s'.testBit r):(clo l s).testBit b=(clo l s').testBit b:=by
 rw [YQ,Z6W hl s b hs,Z6W hl s' b hs'];constructor
 . rintro ⟨r, h1, h2, h3⟩;exact⟨r,by rw [<- he r h2 h3]; exact h1,h2,h3⟩
 . rintro ⟨r, h1, h2, h3⟩;exact⟨r,by rw [he r h2 h3]; exact h1,h2,h3⟩
theorem Z50 {l:List Pr} (hl:XN l) {c:Cu} (h64:Xy c) {s s':Nat} (hs:s<18446744073709551616) (hs':s'<18446744073709551616) (he:∀ r,1<=r->(X1h l c).testBit r=true->s.testBit r=s'.testBit r):hoC c (clo l s)=hoC c (clo l s'):=by
 have key:∀ b,(c.1.testBit b=true \/ c.2.testBit b=true)->(clo l s).testBit b=(clo l s').testBit b:=fun b hb=>Zjr hl hs hs' b fun r h1 hr=>he r h1 (Z9O h64 hb hr);rw [YQ,Z1a,Z1a];refine and_congr (forall_congr' fun i=>Y3k fun hi=>?_) (forall_congr' fun i=>Y3k fun hi=>?_)
 . rw [key i (.inl hi)]
 . rw [key i (.inr hi)]
structure X3s (t:PB) (R:Nat):Prop where
 gl:∀ c∈t.gl,∀ r,1<=r->(X1h t.l c).testBit r=true->R.testBit r=true
 rs:∀ x∈t.rs,x.rev=false->R.testBit x.tg=true->∀ r,1<=r->(X1h t.l x.cu).testBit r=true->R.testBit r=true
 nv:∀ c∈t.nv,X1h t.l c &&& R≠0->∀ r,1<=r->(X1h t.l c).testBit r=true->R.testBit r=true
noncomputable def kzL (t:PB) (R:Nat):List (RU×Nat):=t.rs.zipIdx.filter fun q=>R.testBit q.1.tg
noncomputable def X2k (t:PB) (R:Nat):List Nat:=(kzL t R).map (·.2)
noncomputable def Xh (t:PB) (R:Nat):PB:={ t with st:=t.st &&& R,rs:=(kzL t R).map (·.1),nv:=t.nv.filter fun c=>decide (X1h t.l c &&& R≠0) }
theorem Zho {t:PB} {R:Nat} {q:RU×Nat} (h:q∈kzL t R):t.rs[q.2]?=some q.1/\R.testBit q.1.tg=true:=by
 obtain⟨h1,h2⟩:=Y1f.1 h;exact⟨Y21.1 h1,h2⟩
theorem Z2U {t:PB} {R:Nat} {x:RU}:x∈(Xh t R).rs↔x∈t.rs/\R.testBit x.tg=true:=by
 constructor
 . intro h;obtain⟨q,hq,rfl⟩:=Y0i.1 h;exact⟨YG (Zho hq).1,(Zho hq).2⟩
 . rintro ⟨h, hR⟩;obtain⟨i,hi,rfl⟩:=Y19.1 h;exact Y0i.2 ⟨(t.rs[i],i),Y1f.2 ⟨Y21.2 (Y0c hi),hR⟩,rfl⟩
theorem Zl3 {t:PB} {R:Nat} {j:Nat} {x:RU} (h:(Xh t R).rs[j]?=some x):∃ i,(X2k t R)[j]?=some i/\t.rs[i]?=some x/\R.testBit x.tg=true:=by
 have h:((kzL t R).map (·.1))[j]?=some x:=h;rw [Y0y] at h;cases hq:(kzL t R)[j]? with
 | none=>rw [hq] at h; cases h
 | some q =>
   rw [hq] at h;cases h;have:=Zho (YG hq);exact⟨q.2,by unfold X2k; rw [Y0y,hq]; rfl,this.1,this.2⟩
theorem Z3c {a:Nat} (h:a<18446744073709551616) (b:Nat):a &&& b<18446744073709551616:=Y02 Y1o h
section
variable {t:PB} (h:Xo t) {R:Nat} (hR:X3s t R)
include h
theorem Xo.c64 {c:Cu} (hc:c∈t.nv \/ c∈t.gl):Xy c:=by
 rcases hc with hc|hc
 . exact (h.nv c hc).1.lt h.n.2
 . exact (h.gl c hc).1.lt h.n.2
include hR
theorem Z2V {S:Nat} (hS:InS t S) (hg:Xq t S=true):Xq (Xh t R) (S &&& R)=true:=by
 have h64:=hS.lt h.n.2;unfold Xq soC at hg ⊢;rw [Y10,Y1U] at hg ⊢;intro c hc;obtain⟨hc1,hc2⟩:=Y1f.1 (show c∈t.nv.filter _ from hc);have:=Z50 h.good.small (h.c64 (.inl hc1)) h64 (Z3c h64 R) fun r h1 hr=>by
  rw [Y0z,hR.nv c hc1 (Y0u hc2) r h1 hr,Y1m]
 show ¬ hoC c (clo t.l (S &&& R))=true;rw [<- this];exact hg c hc1
theorem Zfk {S:Nat} (hS:InS t S) (hg:Xq (Xh t R) (S &&& R)=true) (ho:∀ i,1<=i->R.testBit i=false->S.testBit i=t.st.testBit i):Xq t S=true:=by
 have h64:=hS.lt h.n.2;unfold Xq soC at hg ⊢;rw [Y10,Y1U] at hg ⊢;intro c hc;by_cases hd:X1h t.l c &&& R≠0
 . have := Z50 h.good.small (h.c64 (.inl hc)) h64 (Z3c h64 R) fun r h1 hr => by
    rw [Y0z,hR.nv c hc hd r h1 hr,Y1m]
   rw [this];exact hg c (Y1f.2 ⟨hc,Yw hd⟩)
 . have hd : X1h t.l c &&& R = 0 := Y3A.1 hd;have:=Z50 h.good.small (h.c64 (.inl hc)) h64 (InS.lt h.n.2 h.st) fun r h1 hr=>by
    refine ho r h1 (Yy.2 fun hb=>?_);have:(X1h t.l c &&& R).testBit r=true:=by rw [Y0z,hr,hb]; rfl
    rw [hd] at this; simp at this
   rw [this];have hs:=h.sg;unfold soC at hs;rw [Y1U] at hs;exact hs c hc
theorem Z4R {S:Nat} (hS:InS t S):Xp (Xh t R) (S &&& R)=Xp t S:=by
 have h64:=hS.lt h.n.2;show t.gl.any (fun c=>hoC c (clo t.l (S &&& R)))=t.gl.any fun c=>hoC c (clo t.l S);rw [YQ,Y01,Y01];refine Y3r fun c=>Y2D fun hc=>?_;rw [Z50 h.good.small (h.c64 (.inr hc)) h64 (Z3c h64 R) fun r h1 hr=>by rw [Y0z,hR.gl c hc r h1 hr,Y1m]]
theorem Z3d:Xo (Xh t R) where
 n:=h.n
 good:=h.good
 lk:=h.lk
 st:=Xc.2 fun i hi=>by
  have:(t.st &&& R).testBit i=true:=hi;rw [Y0z,Y0k] at this;exact Xc.1 h.st i this.1
 rl:=by
  show ((kzL t R).map _).length<=64;rw [Y0f];refine Y03 (Y1L ..) ?_;rw [Y4d]; exact h.rl
 rs:=fun r hr=>h.rs r (Z2U.1 hr).1
 nl:=Y03 (Y1L ..) h.nl
 nv:=fun c hc=>h.nv c (Y1f.1 (show c∈t.nv.filter _ from hc)).1
 gk:=h.gk
 gl:=h.gl
 sg:=by
  have:=Z2V h hR h.st h.sgood;unfold Xq at this
  rwa [Y10] at this
theorem Z2W {x:RU} (hx:x∈t.rs) (ht:R.testBit x.tg=true) {S:Nat} (hS:InS t S):X9 x (S &&& R)=X9 x S &&& R:=YE fun i=>by
 have h64:=hS.lt h.n.2;have hl:x.tg<64:=by have:=(h.rs x hx).tg; omega
 rw [Y0z,ZQ hl (Z3c h64 R),ZQ hl h64];by_cases hi:i=x.tg
 . subst hi; rw [Y6 rfl,Y6 rfl,ht,Y1m]
 . rw [Y8 hi,Y8 hi,Y0z]
theorem Z7M {x:RU} (hx:x∈t.rs) (ht:R.testBit x.tg=false) {S:Nat} (hS:InS t S):X9 x S &&& R=S &&& R:=YE fun i=>by
 have h64:=hS.lt h.n.2;have hl:x.tg<64:=by have:=(h.rs x hx).tg; omega
 rw [Y0z,ZQ hl h64,Y0z];by_cases hi:i=x.tg
 . subst hi; rw [ht,Y3y,Y3y]
 . rw [Y8 hi]
theorem Z7N {x:RU} (hx:x∈t.rs) (ht:R.testBit x.tg=true) {S:Nat} (hS:InS t S) (hs:XB t x S=true):XB (Xh t R) x (S &&& R)=true:=by
 have h64:=hS.lt h.n.2;have hl:x.tg<64:=by have:=(h.rs x hx).tg; omega
 unfold XB at hs ⊢;rw [Y0k,Y0k,Y0n,Z2D hl h64] at hs;rw [Y0k,Y0k,Y0n,Z2D hl (Z3c h64 R)];refine⟨by rw [Y0z,ht,Y1m]; exact hs.1,?_,?_⟩
 . rw [Z2W h hR hx ht hS];exact Z2V h hR (Z1H h hx hS) hs.2.1
 . have h2 := hs.2.2;cases hv:x.rev with
   | true=>rfl
   | false =>
     rw [hv] at h2;have:=Z50 h.good.small ((h.rs x hx).cu.lt h.n.2) h64 (Z3c h64 R) fun r h1 hr=>by
      rw [Y0z,hR.rs x hx hv ht r h1 hr,Y1m]
     show (false||hoC x.cu (clo t.l (S &&& R)))=true;rw [<- this]; exact h2
theorem Zfl {x:RU} (hx:x∈t.rs) (ht:R.testBit x.tg=true) {S:Nat} (hS:InS t S) (hs:XB (Xh t R) x (S &&& R)=true) (ho:∀ i,1<=i->R.testBit i=false->S.testBit i=t.st.testBit i):XB t x S=true:=by
 have h64:=hS.lt h.n.2;have hl:x.tg<64:=by have:=(h.rs x hx).tg; omega
 unfold XB at hs ⊢;rw [Y0k,Y0k,Y0n,Z2D hl (Z3c h64 R)] at hs;rw [Y0k,Y0k,Y0n,Z2D hl h64];obtain⟨h1,h2,h3⟩:=hs;rw [Y0z,ht,Y1m] at h1;refine⟨h1,?_,?_⟩
 . rw [Z2W h hR hx ht hS] at h2;refine Zfk h hR (Z1H h hx hS) h2 fun i h1 hi=>?_;rw [ZQ hl h64,Y8 (fun e=>by subst e; rw [ht] at hi; cases hi)];exact ho i h1 hi
 . cases hv : x.rev with
   | true=>rfl
   | false =>
     rw [hv] at h3;have:=Z50 h.good.small ((h.rs x hx).cu.lt h.n.2) h64 (Z3c h64 R) fun r h1 hr=>by
      rw [Y0z,hR.rs x hx hv ht r h1 hr,Y1m]
     rw [this]; exact h3
theorem ZaT:∀ (p:List Nat) {S E':Nat},InS t S->(∀ i,1<=i->R.testBit i=false->S.testBit i=t.st.testBit i)->X11 (Xh t R) (S &&& R) p E' ->
 (∀ k∈p,k<(X2k t R).length)/\∃ E,X11 t S (p.map fun j=>(X2k t R).getD j 0) E/\E &&& R=E'/\InS t E
 | [],S,E',hS,ho,hr=>⟨fun k hk=>absurd hk (by simp),S,rfl,hr.symm,hS⟩
 | j :: p, S, E', hS, ho, ⟨x, hx, hs, hr⟩ => by
   obtain⟨i,hi,hxi,ht⟩:=Zl3 hx;have hm:=YG hxi;have h64:=hS.lt h.n.2;have hl:x.tg<64:=by have:=(h.rs x hm).tg; omega
   rw [Z2W h hR hm ht hS] at hr
   obtain⟨h0,E,h1,h2,h3⟩:=ZaT p (Z1H h hm hS) (fun i h1 hi=>by
    rw [ZQ hl h64,Y8 (fun e=>by subst e; rw [ht] at hi; cases hi)]
    exact ho i h1 hi) hr
   refine⟨fun k hk=>?_,E,⟨x,?_,Zfl h hR hm ht hS hs ho,h1⟩,h2,h3⟩
   . rcases YD.1 hk with rfl | hk
     . exact (Y7.1 hi).1
     . exact h0 k hk
   . show t.rs[(X2k t R).getD j 0]? = some x;rw [Y0b,hi]; exact hxi
theorem ZaU {S:Nat} (ha:X1I t S):X1I (Xh t R) (S &&& R):=by
 have hin:∀ {S},InS t S->InS (Xh t R) (S &&& R):=fun {S} hS=>Xc.2 fun i hi=>by
  rw [Y0z,Y0k] at hi;exact Xc.1 hS i hi.1
 induction ha with
 | base hS hg hr=>exact .base (hin hS) (Z2V h hR hS hg) (by rw [Z4R h hR hS]; exact hr)
 | @step S x hS hg hx hs _ ih =>
   by_cases ht:R.testBit x.tg=true
   . rw [<- Z2W h hR hx ht hS] at ih;exact .step (hin hS) (Z2V h hR hS hg) (Z2U.2 ⟨hx,ht⟩) (Z7N h hR hx ht hS hs) ih
   . have ht : R.testBit x.tg = false := Yy.2 ht;rw [Z7M h hR hx ht hS] at ih;exact ih
theorem Z8R {p:List Nat} (hp:XY (Xh t R) p):(∀ k∈p,k<(X2k t R).length)/\XY t (p.map fun j=>(X2k t R).getD j 0):=by
 obtain⟨E',h1,h2⟩:=hp;obtain⟨h0,E,h3,rfl,h4⟩:=ZaT h hR p h.st (fun _ _ _=>rfl) h1;exact⟨h0,E,h3,by rw [<- Z4R h hR h4]; exact h2⟩
theorem Z4S:X1I (Xh t R) (Xh t R).st↔X1I t t.st:=by
 constructor
 . intro ha;obtain⟨p,E,h1,h2⟩:=Ze2 ha;exact (Z8R h hR ⟨E,h1,h2⟩).2.able h
 . exact ZaU h hR
end
structure X4n (t:PB) (V:Nat->Prop):Prop where
 st:¬ V t.st
 tg:∀ S,InS t S->Xq t S=true->Xp t S=true->V S
 cl:∀ S,InS t S->Xq t S=true->∀ x∈t.rs,XB t x S=true->V (X9 x S)->V S
theorem X4n.not_able {t:PB} (h:Xo t) {V:Nat->Prop} (hv:X4n t V):¬ X1I t t.st:=by
 have key:∀ {S},X1I t S->V S:=fun {S} ha=>by
  induction ha with
  | base hS hg hr=>exact hv.tg _ hS hg hr
  | step hS hg hx hs _ ih=>exact hv.cl _ hS hg _ hx hs ih
 exact fun ha=>hv.st (key ha)
def X2I (R:Nat) (c:Cu):Cu:=(c.1 &&& R,c.2 &&& R)
theorem Zka {R S:Nat} {c:Cu} (h:hoC c (S &&& R)=true):hoC (X2I R c) S=true:=by
 rw [Z1a] at h ⊢;refine⟨fun i hi=>?_,fun i hi=>?_⟩
 . have hi : (c.1 &&& R).testBit i = true := hi;rw [Y0z,Y0k] at hi;have:=h.1 i hi.1;rw [Y0z,Y0k] at this;exact this.1
 . have hi : (c.2 &&& R).testBit i = true := hi;rw [Y0z,Y0k] at hi;have:=h.2 i hi.1
   rwa [Y0z,hi.2,Y1m] at this
theorem Zkb {R S:Nat} {c:Cu} (he:emC c=false) (h:hoC (X2I R c) S=true):∃ T,hoC c T=true/\T &&& R=S &&& R/\T=(S &&& R) ||| c.1:=by
 rw [Z1a] at h;have hcc:∀ i,c.1.testBit i=true->c.2.testBit i=false:=fun i hi=>by
  refine Yy.2 fun hb=>?_;have:emC c=true:=by
   unfold emC;refine Yw fun h0=>?_;have:(c.1 &&& c.2).testBit i=true:=by rw [Y0z,hi,hb]; rfl
   rw [h0] at this; simp at this
  rw [he] at this; cases this
 have hand:((S &&& R) ||| c.1) &&& R=S &&& R:=YE fun i=>by
  rw [Y0z,Y00,Y0z];cases hr:R.testBit i with
  | false=>simp
  | true =>
    cases hc:c.1.testBit i with
    | false=>simp
    | true =>
      have:=h.1 i (by show (c.1 &&& R).testBit i=true; rw [Y0z,hc,hr]; rfl);simp [this]
 refine⟨_,(Z1a _ _).2 ⟨fun i hi=>?_,fun i hi=>?_⟩,hand,rfl⟩
 . rw [Y00,hi,Y39]
 . rw [Y00, Y0z];have h1:c.1.testBit i=false:=Yy.2 fun hb=>by rw [hcc i hb] at hi; cases hi
   rw [h1,Y4T];cases hr:R.testBit i with
   | false=>simp
   | true =>
     have:=h.2 i (by show (c.2 &&& R).testBit i=true; rw [Y0z,hi,hr]; rfl);rw [this]; rfl
section
variable {t:PB} (h:Xo t) {R:Nat} (hR:X3s t R)
include h hR
theorem Zjs {l:List Cu} (hl:∀ c∈l,InM (mkN t.n) c/\emC c=false) (ha:∀ S,InS t S->Xq (Xh t R) S=true->(soC l S=true↔X1I (Xh t R) S)) (hno:¬ X1I t t.st):X4n t fun S=>soC (l.map (X2I R)) S=true:=by
 have hin:∀ {S},InS t S->InS t (S &&& R):=fun {S} hS=>Xc.2 fun i hi=>by
  rw [Y0z,Y0k] at hi;exact Xc.1 hS i hi.1
 have key:∀ S,InS t S->Xq t S=true->(soC (l.map (X2I R)) S=true↔X1I (Xh t R) (S &&& R)):=fun S hS hg=>by
  have hgp:=Z2V h hR hS hg;constructor
  . intro hv;unfold soC at hv;rw [Y01] at hv;obtain⟨d,hd,hh⟩:=hv;obtain⟨c,hc,rfl⟩:=Y0i.1 hd;obtain⟨T,h1,h2,h3⟩:=Zkb (hl c hc).2 hh;have hT:InS t T:=Xc.2 fun i hi=>by
     rw [h3,Y00,YR] at hi;rcases hi with hi|hi
     . exact Xc.1 (hin hS) i hi
     . exact Xc.1 (hl c hc).1.1 i hi
    have hgT:Xq (Xh t R) T=true:=by
     unfold Xq soC at hgp ⊢;rw [Y10,Y1U] at hgp ⊢;intro c' hc';obtain⟨hc1,hc2⟩:=Y1f.1 (show c'∈t.nv.filter _ from hc');have:=Z50 h.good.small (h.c64 (.inl hc1)) (hT.lt h.n.2) ((hin hS).lt h.n.2) fun r h1 hr=>by
      have:=congrArg (fun n=>n.testBit r) h2;simp only [Y0z,hR.nv c' hc1 (Y0u hc2) r h1 hr,Y1m] at this;rw [this,Y0z,hR.nv c' hc1 (Y0u hc2) r h1 hr,Y1m]
     show ¬ hoC c' (clo t.l T)=true;rw [this];exact hgp c' hc'
    have hsl:soC l T=true:=Y01.2 ⟨c,hc,h1⟩;have hat:=(ha T hT hgT).1 hsl
    -- the slice of the slice is the slice
    have hrel:X3s (Xh t R) R:=⟨hR.gl,fun x hx=>hR.rs x (Z2U.1 hx).1,fun c hc=>hR.nv c (Y1f.1 (show c∈t.nv.filter _ from hc)).1⟩
    have hproj:∀ {S},X1I (Xh t R) S->X1I (Xh t R) (S &&& R):=fun {S} hb=>by
     induction hb with
     | base hS' hg' hr' =>
       have hin':InS (Xh t R) _:=hin hS';refine .base hin' ?_ ?_
       . have := Z2V (Z3d h hR) hrel hS' hg';unfold Xq soC at this hg' ⊢;rw [Y10,Y1U] at this hg' ⊢;intro c' hc';obtain⟨hc1,hc2⟩:=Y1f.1 (show c'∈t.nv.filter _ from hc');have e:=Z50 h.good.small (h.c64 (.inl hc1)) ((hin hS').lt h.n.2) (hS'.lt h.n.2) fun r h1 hr=>by
          rw [Y0z,hR.nv c' hc1 (Y0u hc2) r h1 hr,Y1m]
         show ¬ hoC c' (clo t.l _)=true;rw [e]; exact hg' c' hc'
       . have := Z4R (Z3d h hR) hrel hS';exact this.trans hr'
     | @step S x hS' hg' hx' hs' _ ih =>
       obtain⟨hx0,ht⟩:=Z2U.1 hx';have e:=Z2W h hR hx0 ht hS';rw [<- e] at ih;have hin':InS (Xh t R) _:=hin hS';have hgS:Xq (Xh t R) (S &&& R)=true:=by
        unfold Xq soC at hg' ⊢;rw [Y10,Y1U] at hg' ⊢;intro c' hc';obtain⟨hc1,hc2⟩:=Y1f.1 (show c'∈t.nv.filter _ from hc');have e:=Z50 h.good.small (h.c64 (.inl hc1)) ((hin hS').lt h.n.2) (hS'.lt h.n.2) fun r h1 hr=>by
         rw [Y0z,hR.nv c' hc1 (Y0u hc2) r h1 hr,Y1m]
        show ¬ hoC c' (clo t.l _)=true;rw [e]; exact hg' c' hc'
       refine .step hin' hgS hx' ?_ ih;have h64:=hS'.lt h.n.2;have hl':x.tg<64:=by have:=(h.rs x hx0).tg; omega
       unfold XB at hs' ⊢;rw [Y0k,Y0k,Y0n,Z2D hl' h64] at hs';rw [Y0k,Y0k,Y0n,Z2D hl' (Z3c h64 R)];refine⟨by rw [Y0z,ht,Y1m]; exact hs'.1,ih.good.2,?_⟩;have h2:=hs'.2.2;cases hv:x.rev with
       | true=>rfl
       | false =>
         rw [hv] at h2;have:=Z50 h.good.small ((h.rs x hx0).cu.lt h.n.2) h64 (Z3c h64 R) fun r h1 hr=>by
          rw [Y0z,hR.rs x hx0 hv ht r h1 hr,Y1m]
         show (false||hoC x.cu (clo t.l (S &&& R)))=true;rw [<- this]; exact h2
    have:=hproj hat
    rwa [h2] at this
  . intro hab;have:=(ha (S &&& R) (hin hS) hgp).2 hab;unfold soC at this ⊢;rw [Y01] at this ⊢;obtain⟨c,hc,hh⟩:=this;exact⟨_,Y1D hc,Zka hh⟩
 refine⟨fun hv=>hno ((Z4S h hR).1 ((key _ h.st h.sgood).1 hv)),fun S hS hg hr=>(key S hS hg).2 (ZaU h hR (.base hS hg hr)),fun S hS hg x hx hs hv=>?_⟩;have hn:=Z1H h hx hS;have hab:=(key _ hn (Z8N hs)).1 hv;refine (key S hS hg).2 ?_;by_cases ht:R.testBit x.tg=true
 . rw [<- Z2W h hR hx ht hS] at hab;exact .step (hin hS) (Z2V h hR hS hg) (Z2U.2 ⟨hx,ht⟩) (Z7N h hR hx ht hS hs) hab
 . rwa [Z7M h hR hx (Yy.2 ht) hS] at hab
end
end
end Go.Proofs.YtoolafpiaobphaaGreatDoor
