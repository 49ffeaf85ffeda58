/-
  Merged from the texts that this claim's theorem needs, part 6 of 7. No statement of the seat is proved here.
-/
import Derived.Test.YtofglfpgfdahaaaGreatDoorMq4
set_option linter.unusedSimpArgs false
set_option linter.unusedVariables false
set_option linter.unusedSectionVars false
set_option maxRecDepth 100000
set_option maxHeartbeats 16000000
namespace Go.Proofs.YtofglfpgfdahaaaGreatDoor
section
open Go.RowKit
attribute [local irreducible] aw Xm dK
theorem Z46 (l:List Pr) (S:List Nat) (k:Nat) (h1:1<=k) (hk:k<64):X7 Tryz.prog 97 [X15 l S,.val (.int .i64 (k:Int))] (· = XD (sen l k)):=by
 have h2:=Zbx l S (k:Int);rw [Y5 ⟨by omega,by omega⟩] at h2;have h3:=Z3V (abv l k) (Y03 (Z39 (Z6O l k)) (by decide)) (k:Int);rw [X2k,Y5 ⟨by omega,by omega⟩] at h3;refine Yp ok97 fun C hC=>?_;refine go ?_;refine Qe (Z7b k h1 hk) ⟨Yt,Yt⟩ ?_;refine go ?_;refine Qe h2 ⟨Z1g l S,Yt,Yt⟩ ?_;refine go ?_;refine Qe h3 ⟨Z2 _,Yt,Yt⟩ ?_;refine go ?_;exact Z8 rfl (Z2 _) rfl
theorem Z4P:∀ l:List Cu,XA (l.map cuC)=l.map cuC
 | []=>rfl
 | c :: l => by
   show X2w (cuC c) :: XA (l.map cuC)=_;rw [ZfZ,Z4P l]; rfl
def X3N (l:List Cu) (c:Cu) (i:Nat):List Cu:=(l.take i).foldl X3O (if emC c then [] else [c])
theorem Zg0 (l:List Cu) (c:Cu) {i:Nat} (hi:i<l.length):X3N l c (i+1)=X3O (X3N l c i) l[i]:=by
 unfold X3N;rw [YZ,Y0c hi,Y1x]; rfl
theorem Zg1 {m:Nat} (hm:m<64) {l:List Cu} {c:Cu} (hl:∀ b∈l,InM m b) (hc:InM m c) (i:Nat):Dis (X3N l c i)/\∀ c'∈X3N l c i,InM m c':=by
 refine ZfT (N:=64) hm (by omega) _ (fun b hb=>hl b (YM hb)) _ ?_ ?_
 . split
   . exact⟨(fun c hc=>by cases hc),List.Pairwise.nil⟩
   . rename_i h;exact⟨fun c hc=>by rw [Y0g] at hc; subst hc; simpa using h,Y2V ..⟩
 . intro c' hc'
   split at hc'
   . cases hc'
   . rw [Y0g] at hc'; subst hc'; exact hc
def X4w (out:List Cu) (b:Cu) (j:Nat):List Cu:=X3O (out.take j) b
theorem Zg2 (out:List Cu) (b:Cu) {j:Nat} (hj:j<out.length):X4w out b (j+1)=X4w out b j++X25 out[j] b:=by
 unfold X4w X3O;rw [YZ,Y0c hj,Y1G];simp
theorem ZhW {out:List Cu} {b:Cu} {m:Nat} (hm:m<64) (h:Dis out/\∀ c∈out,InM m c) (hb:InM m b) (j:Nat):(X4w out b j).length<=64:=by
 have h1:Dis (out.take j):=⟨fun c hc=>h.1.1 c (YM hc),h.1.2.sublist (List.take_sublist _ _)⟩
 exact ZbF (ZcY h1 (hb.lt (by omega))) (m:=m) (ZbE (fun c hc=>h.2 c (YM hc)) hb) hm
theorem Ze8 (l:List Cu) (fl:Bool) (c:Cu) (m:Nat) (hm:m<64) (hl:∀ b∈l,InM m b) (hc:InM m c) (hlen:l.length<=100000):X7 Tryz.prog 125 [cuP c,.vec (l.map cuC) fl] (· = .tup [.vec ((X35 l c).map cuC) false,.val (.int .i64 0)]):=by
 have hnl:(l.map cuC).length=l.length:=by simp
 have hlp:∀ (l:List Cu) D,Xs D (l.map cuC):=fun i D=>Ze (fun _ h=>h.elim) _ (Z1 _);have hc64:=hc.lt (by omega);refine Yp ok125 fun C hC=>?_;refine Zo ?_;refine Za ?_;refine Z5 rfl rfl rfl ?_
 iterate 7 (first|refine st ?_|(apply B<;>intro hb<;>try cases hb))
 refine Zfj hC (X:=Bool) (fun _=>True) 0 (fun z => [(1,.vec (l.map cuC) fl),(6,.vec ((X3N l c 0).map cuC) z)]) (fun _=>[]) (Y0l _) ?_ fun z _=>?_
 . refine go ?_;refine Qe (Z1c c hc64) ⟨Zz c,Yt⟩ ?_;unfold X3N;rw [Y1u,Y4z];cases he:emC c
   . refine gd 18 ⟨?_⟩;refine Z5 (Z9H (l := []) (m := [cuC c]) rfl rfl (fun c hc=>by cases hc) (fun q hq=>by rw [Y0g] at hq; subst hq; rfl) (by show (0+1)*48<=_; decide)) rfl rfl ?_;refine go ?_;exact⟨_,Yt,⟨⟨rfl,hlp _ _⟩,⟨rfl,hlp [c] _⟩,Yt⟩,Yt⟩
   . refine go ?_;exact⟨_,Yt,⟨⟨rfl,hlp _ _⟩,⟨rfl,Yt⟩,Yt⟩,Yt⟩
 . have hloop := Zg1 hm hl hc;refine go ?_;refine Zy hC (fun (x:Nat×Bool)=>x.1<=l.length) (fun x=>l.length-x.1) 0 (fun x => [(6,.vec ((X3N l c x.1).map cuC) x.2),(19,.vec (l.map cuC) fl),(20,.val (.int .i64 (l.length:Int))),(21,.val (.int .i64 (x.1:Int)))]) (fun _=>[]) (Y0m _) (0,z) (Y0l _)
    ⟨⟨rfl,hlp _ _⟩,⟨rfl,hlp _ _⟩,⟨by rw [<- hnl]; rfl,Yt⟩,⟨rfl,Yt⟩,Yt⟩ Yt ?_
   rintro⟨i,z⟩ hi;dsimp only at hi ⊢;have hinc:IntKind.i64.wrap ((i:Int)+1)=((i+1:Nat):Int):=Y0v _ ⟨by omega,by omega⟩
   iterate 2 (first|refine st ?_|(apply B<;>intro hb<;>try cases hb))
   refine Zv rfl rfl rfl (fun hb=>?_) (fun hb=>?_)
   . have hil : i < l.length := by have := Y0u hb; omega
     clear hb;have hsucc:=Zg0 l c hil;obtain⟨hD,hI⟩:=hloop i;generalize X3N l c i=out at hsucc hD hI ⊢;have hb:=hl l[i] (Y0j hil);have hb64:=hb.lt (by omega);have hol:out.length<=64:=ZbF hD hI hm;have hsub:=ZhW (out:=out) hm ⟨hD,hI⟩ hb;have hnl2:(out.map cuC).length=out.length:=by simp
     refine go ?_;refine Qo (Zn (xs:=l) rfl rfl i rfl hil rfl) ?_
     repeat' (first|refine Zb (Zx (k:=9) rfl 2 (by decide)) ?_|(first|refine st ?_|(apply B<;>intro hb<;>try cases hb)))
     refine ZA hC (fun (j:Nat)=>j<=out.length) (fun j=>out.length-j) 2 (fun j => [(8,.ptr 0 0 0),(9,.own 1),(19,.vec (l.map cuC) fl),(20,.val (.int .i64 (l.length:Int))),(21,Yv i),(25,.vec (out.map cuC) z),(26,.val (.int .i64 (out.length:Int))),(27,Yv j)])
      (fun j => [(0,⟨2,[cuC l[i]]⟩),(1,⟨2,(X4w out l[i] j).map cuC⟩)]) (by decide) 0 (Y0l _) (fun i=>i) (fun _ _=>rfl) Zk
      ⟨Qt 0 0 0,⟨_,rfl,.own 1 (by decide)⟩,Qp (Z1 _),Qp Yt,Qp Yt,Qp (Z1 _),⟨_,by rw [<- hnl2]; rfl,.pure _ Yt⟩,Qp Yt,Yt⟩ ⟨Qs ⟨Zi _,Yt⟩,Qs Yt,Yt⟩ ?_
     intro j hj;have hinc2:IntKind.i64.wrap ((j:Int)+1)=((j+1:Nat):Int):=Y0v _ ⟨by omega,by omega⟩
     iterate 2 (first|refine st ?_|(apply B<;>intro hb<;>try cases hb))
     refine Zv rfl rfl rfl (fun hb=>?_) (fun hb=>?_)
     . have hjl : j < out.length := by have := Y0u hb; omega
       clear hb;have hs2:=Zg2 out l[i] hjl;have hx:=(hI _ (Y0j hjl)).lt (by omega);have hml:=ZcT out[j] l[i] hx;have hsl:=hsub j;refine go ?_;refine Qo (Zn (xs:=out) rfl rfl j rfl hjl rfl) ?_;refine go ?_;refine Qe (Z8f out[j] l[i] hx hb64) ⟨Zz _,Zz _,Yt⟩ ?_
       refine ZF (Zt (k:=1) (m:=(X25 out[j] l[i]).map cuC) (fl:=false) rfl rfl rfl (fun q hq=>by obtain⟨x,_,rfl⟩:=Y0i.1 hq; rfl) rfl (by
        show (((X4w out l[i] j).map cuC).length+((X25 out[j] l[i]).map cuC).length)*48<=_
        rw [Y0f,Y0f];omega)) rfl rfl ?_
       refine go ?_
       refine⟨j+1,mv 1 3,hjl,by omega,fun i hi=>absurd hi (YE i),Zu rfl,
        ⟨Qt 0 0 0,Qw 1,Qp (Z1 _),Qp Yt,Qp Yt,Qp (Z1 _),Qp Yt,⟨_,by show some _=some _; rw [hinc2],.pure _ Yt⟩,Yt⟩,
        ⟨Qs ⟨Zi _,Yt⟩,⟨by decide,_,rfl,?_⟩,Yt⟩⟩
       show Xu _ _ ⟨2,(X4w out l[i] j).map cuC++(X25 out[j] l[i]).map cuC⟩ ⟨2,(X4w out l[i] (j+1)).map cuC⟩;rw [<- Y0r,<- hs2];exact .same _ (Z1 _)
     . have hjl : j = out.length := by have := Yw hb; omega
       subst hjl;clear hb;have hend:X4w out l[i] out.length=X3N l c (i+1):=by rw [hsucc]; unfold X4w; rw [Y0q]
       have hle:=hsub out.length;rw [hend] at hle ⊢
       repeat' (first|refine Zb (Zm (k:=9) rfl rfl (Z1 _)) ?_|refine Zkj 39 ?_|(first|refine st ?_|(apply B<;>intro hb<;>try cases hb)))
       refine At.mk ?_;refine Qo (Z6 (v:=false) rfl (by simp;omega)) ?_;refine go ?_;exact⟨(i+1,false),by show i+1<=_; omega,by show _-(i+1)<_-i; omega,⟨⟨rfl,hlp _ _⟩,⟨rfl,hlp _ _⟩,⟨rfl,Yt⟩,⟨by show some _=some _; rw [hinc],Yt⟩,Yt⟩,Yt⟩
   . have hil : i = l.length := by have := Yw hb; omega
     subst hil;clear hb;refine go ?_;have he:X3N l c l.length=X35 l c:=by unfold X3N X35; rw [Y0q]
     rw [he];refine Z1J rfl ⟨?_,Yt,Yt⟩ ?_
     . show X3 (XA ((X35 l c).map cuC));rw [Z4P]; exact Z1 _
     . show PV.tup [.vec (XA ((X35 l c).map cuC)) false, _] = _;rw [Z4P]; rfl
theorem Z5J (k:Nat) (h1:1<=k) (h2:k<=64):X7 Tryz.prog 77 [.val (.int .i64 (k:Int))] (· = XD (2 ^ k-1)):=by
 refine Yp ok77 fun C hC=>?_;have hq:IntKind.i64.wrap (((k+63:Nat):Int).tdiv 64)=((1:Nat):Int):=by
  rw [Y2Z _ _ ⟨by omega,by omega,by omega⟩]; omega
 refine gd 6 ⟨?_⟩;refine Zh rfl rfl rfl (v:=(k:Int)) (by split<;>omega) ?_;refine Zh rfl rfl rfl (v:=(k:Int)) (by split<;>omega) ?_;refine gd 9 ⟨?_⟩;refine Zh rfl rfl rfl (show IntKind.i64.wrap ((k:Int)+63)=((k+63:Nat):Int) from Y0v _ ⟨by omega,by omega⟩) ?_;refine gd 10 ⟨?_⟩;refine Zh rfl rfl rfl hq ?_;refine go ?_;refine Z1x 1 ?_;refine gd 22 ⟨?_⟩;by_cases hk:k=64
 . subst hk
   repeat' (first|refine Zb (Zm (k:=33) rfl rfl (ZV rfl)) ?_|(first|refine st ?_|(apply B<;>intro hb<;>try cases hb)))
   exact Z8 rfl (Z2H rfl) (by rw [Z3q (by decide) (by decide)]; rfl)
 . have hr : (k : Int).tmod 64 = ((k : Nat) : Int) := by rw [Y1N (by omega)]; omega
   refine Zh rfl rfl rfl hr ?_;refine Qo (Z6 (v:=true) rfl (by simp;omega)) ?_;refine gd 29 ⟨?_⟩;refine Zh rfl rfl rfl hr ?_
   refine Qo (ZdF rfl rfl (by omega) (v:=((2 ^ k:Nat):Int)) (by
    rw [show min ((k:Int)).toNat IntKind.u64.bits=k by simp [IntKind.bits]; omega];have hp:=ZQ (show k<64 by omega);rw [Y44,show (2:Int) ^ k=((2 ^ k:Nat):Int) by simp]
    exact Y0x _ ⟨Y1X _,Y37.2 (show _<=18446744073709551615 by omega)⟩)) ?_
   refine Zh rfl rfl rfl (v:=((2 ^ k-1:Nat):Int)) (by
    have hp:=ZQ (show k<64 by omega);have:=Y2T k;rw [show ((2 ^ k:Nat):Int)-1=((2 ^ k-1:Nat):Int) by omega]
    exact Y0x _ ⟨Y1X _,Y37.2 (show _<=18446744073709551615 by omega)⟩) ?_
   have hp:=ZQ (show k<64 by omega);have hp2:2<=2 ^ k:=YO (n:=2) (by decide) h1
   repeat' (first|refine Zb (Zm (k:=33) rfl rfl (ZV rfl)) ?_|(first|refine st ?_|(apply B<;>intro hb<;>try cases hb)))
   exact Z8 rfl (Z2H rfl) (by rw [Z3q (by omega) (by omega)]; rfl)
theorem Z98 {N M:Nat} (hN:N<18446744073709551616):N &&& M<18446744073709551616:=Y02 Y1m hN
theorem ZhX (a b:Nat) (ha:a<18446744073709551616) (hb:b<18446744073709551616):bits .and .u64 (a:Int) (b:Int)=((a &&& b:Nat):Int):=by
 have h1:(BitVec.ofInt 64 (a:Int)).toNat=a:=by rw [Y1y,Y1Y]; exact Y1l (by omega)
 have h2:(BitVec.ofInt 64 (b:Int)).toNat=b:=by rw [Y1y,Y1Y]; exact Y1l (by omega)
 show IntKind.u64.wrap ((BitVec.ofInt 64 (a:Int) &&& BitVec.ofInt 64 (b:Int)).toNat:Int)=_;rw [Y3K,h1,h2];have:a &&& b<=a:=Y1m;exact Y0x _ ⟨by omega,by omega⟩
theorem Z2K (N M:Nat) (hN:N<18446744073709551616) (hM:M<18446744073709551616):X7 Tryz.prog 35 [XD N,XD M] (· = XD (N &&& M)):=by
 have hlt:=Z98 (M:=M) hN;rcases Z19 hN with⟨rfl,e1⟩|⟨h1,e1⟩<;>rcases Z19 hM with⟨rfl,e2⟩|⟨h2,e2⟩<;>rw [e1]<;>(try rw [e2])<;>clear e1 e2
 all_goals
  refine Yp ok35 fun C hC=>?_;refine Zo ?_;refine Za ?_;refine Z5 rfl rfl rfl ?_;refine Z5 rfl rfl rfl ?_;refine go ?_;refine Z1x 1 ?_
 case inr.inr =>
  refine gd 32 ⟨?_⟩;refine Qr (Z10 rfl (ZhX N M hN hM)) ?_
  repeat' (first|refine Zb (Zm (k:=35) rfl rfl (ZV rfl)) ?_|(first|refine st ?_|(apply B<;>intro hb<;>try cases hb)))
  refine ZD rfl rfl (Z2g [N &&& M]) (ZZ rfl) rfl fun r hr=>?_;have hw:X1s [N &&& M]:=fun x hx=>by rw [Y0g.1 hx]; exact hlt
  have e1:=hr.set hw;have e2:ofW [N &&& M]=N &&& M:=by simp [ofW]
  rw [e2] at e1;subst e1;refine go ?_;exact Z8 rfl (Z2 _) rfl
 all_goals
  repeat' (first|refine Zb (Zm (k:=35) rfl rfl (ZV rfl)) ?_|(first|refine st ?_|(apply B<;>intro hb<;>try cases hb)))
  refine ZD rfl rfl (Z2g []) (ZZ rfl) rfl fun r hr=>?_;have e1:=hr.set (fun x hx=>by cases hx);subst e1;refine go ?_;exact Z8 rfl (Z2 _) (show XD (ofW [])=_ by simp [ofW])
theorem Zle {l:List Pr} {m:Nat} (hl:∀ p∈l,p.1<=m/\p.2<=m) {a b:Nat} (h:Up l a b):a<=m/\b<=m:=by
 induction h with
 | one h=>exact hl _ h
 | more _ k ih=>exact⟨ih.1,(hl _ k).2⟩
theorem X5O {i:Nat} (h1:1<=i) (h2:i<=5):(62:Nat).testBit i=true:=by
 have:i=1 \/ i=2 \/ i=3 \/ i=4 \/ i=5:=by omega
 rcases this with rfl|rfl|rfl|rfl|rfl<;>rfl
theorem Zd0 {i:Nat} (h:(62:Nat).testBit i=true):1<=i/\i<=5:=by
 have:=Z5Y (N:=62) (by decide) h;have hi:i<6:=Nat.lt_of_not_le fun h6=>by
  rw [Y1O (show 62<2 ^ i from YF (by decide) (YO (by decide) h6))] at h; cases h
 refine⟨Nat.one_le_iff_ne_zero.2 fun h0=>?_,by omega⟩;subst h0; cases h
theorem ZiL {t:PB} (h:Xt t) {r:Nat} (hr:r<=5):(sen t.l r &&& mkN t.n) ||| 62=62:=Xe.2 fun i hi=>by
 rw [Y0z,Y0k,Z29,Y0k,Y0n,Y0n] at hi;refine X5O hi.2.1 ?_;rcases (Z4O h.good.small r i).1 hi.1 with h1|h1
 . exact (Zle (m:=5) (fun p hp=>(h.lk p hp).2.2) h1).1
 . omega
def X2C (N:Nat) (l:List Cu):Prop:=∀ c∈l,c.1 ||| 62=62/\c.2=N
theorem ZbG {N:Nat} {l:List Cu} (h:X2C N l) (hn:l.Nodup):l.length<=64:=by
 have hnd:(l.map (·.1)).Nodup:=by
  rw [Y16,Y1v];refine Y1z (fun {a b} ha hb hab e=>hab ?_) (Y16.1 hn);exact Y46 e ((h a ha).2.trans (h b hb).2.symm)
 have:=Z2t 64 _ hnd fun x hx=>by
  obtain⟨c,hc,rfl⟩:=Y0i.1 hx;have:c.1<=62:=by have:=(h c hc).1; rw [<- this]; exact YU
  omega
 rwa [Y0f] at this
theorem ZbH {t:PB} (h:Xt t) {r:Nat} (hr:r<=5) {N:Nat} {x:List Cu} (hx:X2C N x):X2C N (exX t.l t.n r x):=fun c hc=>by
 obtain⟨y,hy,hc⟩:=Y1d.1 hc;obtain⟨a,ha,rfl⟩:=Y0i.1 hc;refine⟨Xe.2 fun i hi=>?_,(hx y hy).2⟩;rw [Y00,YP,YH,Y0n] at hi;rcases hi with hi|rfl
 . exact Xe.1 (hx y hy).1 i hi
 . exact Xe.1 (ZiL h hr) _ ((ZY (Z43 h.n.2)).1 ha)
theorem Zd1 {N:Nat} {l:List Cu} (h:X2C N l):X2C N (X34 l):=fun c hc=>h c (Z2U hc).1
theorem Zd2 {N:Nat} (hN:N<18446744073709551616) {l:List Cu} (h:X2C N l):∀ c∈l,Xv c:=fun c hc=>by
 have:c.1<=62:=by have:=(h c hc).1; rw [<- this]; exact YU
 exact⟨by omega,by rw [(h c hc).2]; exact hN⟩
theorem Zg3 (l:List Pr) {n:Nat} (hn:n<=63) (rs:List Nat):exN l n rs<18446744073709551616:=by
 have:∀ (rs:List Nat) (o:Nat),o<18446744073709551616->rs.foldl (fun o r=>o ||| (sen l r &&& mkN n)) o<18446744073709551616:=by
  intro rs
  induction rs with
  | nil=>exact fun o h=>h
  | cons r rs ih=>exact fun o h=>ih _ (Z1S h (Z43 hn))
 exact this _ 0 (by decide)
theorem Zkw {t:PB} (h:Xt t) {rs:List Nat} (hr:∀ r∈rs,r<=5):exN t.l t.n rs ||| 62=62:=Xe.2 fun i hi=>by
 rcases (Z7a t.l t.n i rs 0).1 hi with h1|⟨r,hr',h1,h2⟩
 . simp at h1
 . exact Xe.1 (ZiL h (hr r hr')) i (by rw [Y0z,h1,h2]; rfl)
theorem ZbI {t:PB} (h:Xt t) {N:Nat} (hN:N<18446744073709551616):∀ (rs:List Nat),(∀ r∈rs,r<=5)->∀ x,X2C N x->x.Nodup->X2C N (exF t.l t.n rs x)/\(exF t.l t.n rs x).Nodup
 | [],_,x,h1,h2=>⟨h1,h2⟩
 | r :: rs,hr,x,h1,h2=>ZbI h hN rs (fun a ha=>hr a (YA _ ha)) _ (Zd1 (ZbH h (hr r (Y0t ..)) h1)) (Z5H (Zd2 hN (ZbH h (hr r (Y0t ..)) h1)))
theorem InM.le5 {c:Cu} (h:InM 62 c):(∀ r∈mem c.1,1<=r/\r<=5)/\∀ r∈mem c.2,1<=r/\r<=5:=by
 have h64:=h.lt (by decide);exact⟨fun r hr=>Zd0 (Xe.1 h.1 r ((ZY h64.1).1 hr)),fun r hr=>Zd0 (Xe.1 h.2 r ((ZY h64.2).1 hr))⟩
theorem Z8g {t:PB} (h:Xt t) {c:Cu} (hm:InM 62 c):X2C (exN t.l t.n (mem c.2)) (exL t.l t.n c)/\(exL t.l t.n c).Nodup/\(exL t.l t.n c).length<=64/\∀ c'∈exL t.l t.n c,InM 62 c':=by
 have h1:=ZbI h (Zg3 t.l h.n.2 (mem c.2)) (mem c.1) (fun r hr=>(hm.le5.1 r hr).2) [(0,exN t.l t.n (mem c.2))] (fun c hc=>by rw [Y0g] at hc; subst hc; exact⟨(by decide:(0:Nat) ||| 62=62),rfl⟩) (by simp);refine⟨h1.1,h1.2,ZbG h1.1 h1.2,fun c' hc'=>⟨(h1.1 c' hc').1,?_⟩⟩;rw [(h1.1 c' hc').2];exact Zkw h fun r hr=>(hm.le5.2 r hr).2
theorem ZbJ (l:List Pr) (n r:Nat):∀ x:List Cu,(exX l n r x).length<=64*x.length
 | []=>by simp [exX]
 | y :: x => by
   have ih:=ZbJ l n r x;have:exX l n r (y :: x)=(mem (sen l r &&& mkN n)).map (fun a=>(y.1 ||| 2 ^ a,y.2))++exX l n r x:=by simp [exX]
   rw [this,Y0e,Y0f,Y04];have:=Z2C (sen l r &&& mkN n);omega
theorem Z5n (n:Nat) (hn:n<=63):XW (2 ^ (n+1)-1) 0=mkN n:=by
 refine YD fun i=>?_;have hp:2 ^ (n+1)<=2 ^ 64:=YO (by decide) (by omega);have:=Z3I (N:=2 ^ (n+1)-1) (by have:=Y2T (n+1);omega) 0 i;rw [show ((0:Nat):Int)=0 from rfl] at this;rw [this,Y3l,Z29,YN];simp;omega
theorem Z5o {t:PB} (h:Xt t) (S:List Nat) (c:Cu) (hc:InC t.n c) (hm:InM 62 c):X7 Tryz.prog 155 [.agg (pbP t S),cuP c] (· = .tup [.vec ((exL t.l t.n c).map cuC) false,.val (.int .i64 0)]):=by
 have hc64:=hm.lt (by decide);have hn:=h.n;have hp1:2 ^ (t.n+1)<=2 ^ 64:=YO (by decide) (by omega);have hp0:=Y2T (t.n+1);have hmk:=Z5m hn.2;have hinc0:IntKind.i64.wrap ((t.n:Int)+1)=((t.n+1:Nat):Int):=Y0v _ ⟨by omega,by omega⟩;have hbw:=Z1G (2 ^ (t.n+1)-1) (by omega) 0;rw [Z5n t.n hn.2] at hbw;have hwi:=Z1y (c.1 ||| c.2) (mkN t.n) (Z1S hc64.1 hc64.2) hmk;rw [Y8 (show c.1 ||| c.2 ||| mkN t.n=mkN t.n by rw [Y3s,hc.n,hc.y])] at hwi;refine Yp ok155 fun C hC=>?_;refine Zo ?_;refine Za ?_;refine Z5 rfl rfl rfl ?_;refine Z5 rfl rfl rfl ?_;refine gd 20 ⟨?_⟩;refine Zh rfl rfl rfl hinc0 ?_;refine Qe (Z5J (t.n+1) (by omega) (by omega)) ⟨Yt,Yt⟩ ?_;refine Qe hbw ⟨Z2 _,Yt,Yt⟩ ?_;refine gd 27 ⟨?_⟩;refine Qd (Z1r c.1 c.2 hc64.1 hc64.2) ⟨Z2 _,Z2 _,Yt⟩ ?_;refine gd 29 ⟨?_⟩;refine Qd hwi ⟨Z2 _,Z2 _,Yt⟩ ?_;refine gd 33 ⟨?_⟩;refine Qe (Z1H c.2) ⟨Z2 _,Yt⟩ ?_;refine go ?_;have hpp:=ZH t S;have hI0:=hm.le5;refine Z2q (X:=List Nat) hC (caps := [.cp [.vec (X5 (X9 c.2)) false]]) [(2,.cp (pbP t S)),(3,.cp (cuC c)),(4,.ptr 0 0 0),(5,.ptr 1 0 0),(6,.ptr 2 0 0),(7,.ptr 11 0 0),(33,.fn 142 [.cp [.vec (X5 (X9 c.2)) false]])]
  (fun z => [(0,⟨1,[[.vec [] true]]⟩),(1,⟨1,[[.val (.int .i64 0)]]⟩),(2,⟨1,[[.vec (X5 (X9 (mkN t.n))) false]]⟩),(11,⟨1,[[.vec (X5 (X9 (exN t.l t.n z))) false]]⟩)]) rfl ⟨⟨Z7 _,Yt⟩,Yt⟩ (Z2s c.2 hc64.2) (fun _=>rfl)
  (fun ex pre z=>ex=.normal/\z=pre.map (·.val)) 12 (by decide) [] ⟨rfl,rfl⟩
  (Z2P (X3n.mem (ρ := fun i => i) (m := 12) (L := [(2, .cp (pbP t S)), (3, .cp (cuC c)), (4, .ptr 0 0 0), (5, .ptr 1 0 0), (6, .ptr 2 0 0), (7, .ptr 11 0 0), (33, .fn 142 [.cp [.vec (X5 (X9 c.2)) false]])]) ⟨Qp hpp, Qp (Zi c), Qt 0 0 0, Qt 1 0 0, Qt 2 0 0, Qt 11 0 0, Qp ⟨⟨Z7 _, Yt⟩, Yt⟩, Yt⟩)
    (X1y.mem (ρ:=fun i=>i) (m:=12) (L := [(0,⟨1,[[.vec [] true]]⟩),(1,⟨1,[[.val (.int .i64 0)]]⟩),(2,⟨1,[[.vec (X5 (X9 (mkN t.n))) false]]⟩),(11,⟨1,[[.vec (X5 (X9 (exN t.l t.n []))) false]]⟩)]) ⟨Qs ⟨⟨Yt,Yt⟩,Yt⟩,Qs ⟨⟨Yt,Yt⟩,Yt⟩,Qs ⟨⟨Z7 _,Yt⟩,Yt⟩,⟨by decide,⟨1,[[.vec [] true]]⟩,rfl,by rw [show exN t.l t.n []=0 from rfl,ZM]; exact Xu.single (ρ:=fun i=>i) (l0 := [.vec [] true]) (l := [.vec [] false]) (show X2j _ _ [_] [_] from ⟨.low (.vec [] true) Yt,Yt⟩) rfl⟩,Yt⟩) hC (by decide))
  (fun z q hq=>by simp at hq; rcases hq with rfl|rfl|rfl|rfl<;>exact Y1s _) _ (fun x=>rfl) ?_ ?_ ?_
 . rintro C2 hC2 pre x z ⟨-, rfl⟩ hlen;have hx:=hI0.2 x.val x.2;have hst:exN t.l t.n (pre.map (·.val) ++ [x.val])=exN t.l t.n (pre.map (·.val)) ||| (sen t.l x.val &&& mkN t.n):=by unfold exN; rw [Y1x]; rfl
   have hz:=Zg3 t.l hn.2 (pre.map (·.val));have hsl:=ZcV t.l h.good.small (show x.val<64 by omega);refine gd 39 ⟨?_⟩;refine Qd (Z46 t.l S x.val hx.1 (by omega)) ⟨Zq _ _,Yt,Yt⟩ ?_;refine gd 41 ⟨?_⟩;refine Qd (Z2K (sen t.l x.val) (mkN t.n) hsl hmk) ⟨Z2 _,Z2 _,Yt⟩ ?_;refine Qd (Z1r _ _ hz (Z98 hsl)) ⟨Z2 _,Z2 _,Yt⟩ ?_;rw [<- hst];refine go ?_
   exact⟨.inl rfl,pre.map (·.val) ++ [x.val],fun i=>i,⟨rfl,by rw [Y0r]; rfl⟩,fun i hi=>rfl,Zk,
    ⟨Qp hpp,Qp (Zi c),Qt 0 0 0,Qt 1 0 0,Qt 2 0 0,Qt 11 0 0,Qp ⟨⟨Z7 _,Yt⟩,Yt⟩,Yt⟩,
    ⟨Qs ⟨⟨Yt,Yt⟩,Yt⟩,Qs ⟨⟨Yt,Yt⟩,Yt⟩,Qs ⟨⟨Z7 _,Yt⟩,Yt⟩,Qs ⟨⟨Z7 _,Yt⟩,Yt⟩,Yt⟩⟩
 . rintro xs z hxs ⟨-, rfl⟩;rw [hxs];have hN0:=Zg3 t.l hn.2 (mem c.2);generalize hN0e:exN t.l t.n (mem c.2)=N0 at hN0;refine gd 48 ⟨?_⟩;refine Qe (Z1H c.1) ⟨Z2 _,Yt⟩ ?_;refine go ?_;have hlow:([(0,N0)]:List Cu).map cuC=XA [[.vec [] true,.vec (X5 (X9 N0)) false]]:=by
    show [[PV.vec (X5 (X9 0)) false,.vec (X5 (X9 N0)) false]] = [[PV.vec [] false,.vec (XA (X5 (X9 N0))) false]];rw [ZM,Z1A]; rfl
   have hone:∀ rs:List Nat,(∀ r∈rs,r<=5)->X2C N0 (exF t.l t.n rs [(0,N0)])/\(exF t.l t.n rs [(0,N0)]).Nodup:=fun rs hr=>ZbI h hN0 rs hr _ (fun c hc=>by rw [Y0g] at hc; subst hc; exact⟨(by decide:(0:Nat) ||| 62=62),rfl⟩) (by simp);refine Z2q (X:=List Nat) hC (caps := [.cp [.vec (X5 (X9 c.1)) false]]) [(2,.cp (pbP t S)),(4,.ptr 0 0 0),(5,.ptr 1 0 0),(6,.ptr 2 0 0),(9,.ptr 12 0 0),(48,.fn 142 [.cp [.vec (X5 (X9 c.1)) false]])]
    (fun z => [(0,⟨1,[[.vec [] true]]⟩),(1,⟨1,[[.val (.int .i64 0)]]⟩),(2,⟨1,[[.vec (X5 (X9 (mkN t.n))) false]]⟩),(12,⟨1,[[.vec ((exF t.l t.n z [(0,N0)]).map cuC) false]]⟩)]) rfl ⟨⟨Z7 _,Yt⟩,Yt⟩ (Z2s c.1 hc64.1) (fun _=>rfl)
    (fun ex pre z=>ex=.normal/\z=pre.map (·.val)) 13 (by decide) [] ⟨rfl,rfl⟩
    (Z2P (X3n.mem (ρ := fun i => i) (m := 13) (L := [(2, .cp (pbP t S)), (4, .ptr 0 0 0), (5, .ptr 1 0 0), (6, .ptr 2 0 0), (9, .ptr 12 0 0), (48, .fn 142 [.cp [.vec (X5 (X9 c.1)) false]])]) ⟨Qp hpp, Qt 0 0 0, Qt 1 0 0, Qt 2 0 0, Qt 12 0 0, Qp ⟨⟨Z7 _, Yt⟩, Yt⟩, Yt⟩)
      (X1y.mem (ρ:=fun i=>i) (m:=13) (L := [(0,⟨1,[[.vec [] true]]⟩),(1,⟨1,[[.val (.int .i64 0)]]⟩),(2,⟨1,[[.vec (X5 (X9 (mkN t.n))) false]]⟩),(12,⟨1,[[.vec (([(0,N0)]:List Cu).map cuC) false]]⟩)]) ⟨Qs ⟨⟨Yt,Yt⟩,Yt⟩,Qs ⟨⟨Yt,Yt⟩,Yt⟩,Qs ⟨⟨Z7 _,Yt⟩,Yt⟩,⟨by decide,_,rfl,by rw [hlow]; exact Xu.single (ρ:=fun i=>i) (l := [.vec (XA [[.vec [] true,.vec (X5 (X9 N0)) false]]) false]) (show X2j _ _ [_] [_] from ⟨.low (.vec [[.vec [] true,.vec (X5 (X9 N0)) false]] true) (by show X3 (XA _); rw [<- hlow]; exact Z1 [(0,N0)]),Yt⟩) rfl⟩,Yt⟩) hC (by decide))
    (fun z q hq=>by simp at hq; rcases hq with rfl|rfl|rfl|rfl<;>exact Y1s _) _ (fun x=>rfl) ?_ ?_ ?_
   . rintro C2 hC2 pre x z ⟨-, rfl⟩ hlen;have hx:=hI0.1 x.val x.2;obtain⟨ho1,ho2⟩:=hone (pre.map (·.val)) fun r hr=>by obtain⟨y,_,rfl⟩:=Y0i.1 hr; exact (hI0.1 _ y.2).2
     have hst:exF t.l t.n (pre.map (·.val) ++ [x.val]) [(0,N0)]=X34 (exX t.l t.n x.val (exF t.l t.n (pre.map (·.val)) [(0,N0)])):=by unfold exF; rw [Y1x]; rfl
     generalize exF t.l t.n (pre.map (·.val)) [(0,N0)]=zs at ho1 ho2 hst ⊢;have hzl:=ZbG ho1 ho2;have hz64:=Zd2 hN0 ho1;have hsl:=ZcV t.l h.good.small (show x.val<64 by omega);have hM:=Z98 (M:=mkN t.n) hsl;have hxo:=ZbH h hx.2 ho1;have hxn:=Z5H (Zd2 hN0 hxo);have hxl:=ZbG (Zd1 hxo) hxn;have hxll:=ZbJ t.l t.n x.val zs;refine gd 50 ⟨?_⟩;refine Zb (ZP (id:=13) (i0:=0) (j0:=0) rfl (by decide) (by decide) rfl 2 (by decide) (by decide)) ?_;refine go ?_;have hnl:(zs.map cuC).length=zs.length:=by simp
     refine ZA hC2 (fun (j:Nat)=>j<=zs.length) (fun j=>zs.length-j) 15
      (fun j => [(2,.cp (pbP t S)),(6,.ptr 2 0 0),(9,.ptr 12 0 0),(10,.val (.int .i64 (x.val:Int))),(11,.ptr 13 0 0),(50,.vec (zs.map cuC) false),(51,.val (.int .i64 (zs.length:Int))),(52,Yv j)])
      (fun j => [(0,⟨1,[[.vec [] true]]⟩),(1,⟨1,[[.val (.int .i64 0)]]⟩),(2,⟨1,[[.vec (X5 (X9 (mkN t.n))) false]]⟩),(12,⟨1,[[.vec (zs.map cuC) false]]⟩),(13,⟨1,[[.own 14]]⟩),(14,⟨2,(exX t.l t.n x.val (zs.take j)).map cuC⟩)]) (by decide) 0 (Y0l _) (fun i=>i) (fun _ _=>rfl) Zk
      ⟨Qp hpp,Qt 2 0 0,Qt 12 0 0,Qp Yt,Qt 13 0 0,Qp (Z1 _),⟨_,by rw [<- hnl]; rfl,.pure _ Yt⟩,Qp Yt,Yt⟩
      ⟨Qs ⟨⟨Yt,Yt⟩,Yt⟩,Qs ⟨⟨Yt,Yt⟩,Yt⟩,Qs ⟨⟨Z7 _,Yt⟩,Yt⟩,Qs ⟨⟨Z1 _,Yt⟩,Yt⟩,⟨by decide,_,rfl,Xu.single ⟨.own (ρ:=fun i=>i) 14 (by decide),Yt⟩ rfl⟩,Qs Yt,Yt⟩ ?_
     intro j hj;have hinc:IntKind.i64.wrap ((j:Int)+1)=((j+1:Nat):Int):=Y0v _ ⟨by omega,by omega⟩
     iterate 2 (first|refine st ?_|(apply B<;>intro hb<;>try cases hb))
     refine Zv rfl rfl rfl (fun hb=>?_) (fun hb=>?_)
     . have hjl : j < zs.length := by have := Y0u hb; omega
       clear hb;have hy:=hz64 _ (Y0j hjl);have hsj:exX t.l t.n x.val (zs.take (j+1))=exX t.l t.n x.val (zs.take j)++(mem (sen t.l x.val &&& mkN t.n)).map fun a=>(zs[j].1 ||| 2 ^ a,zs[j].2):=by
        unfold exX;rw [YZ,Y0c hjl,Y1G];simp
       have hlj:(exX t.l t.n x.val (zs.take j)).length<=4096:=by
        have:=ZbJ t.l t.n x.val (zs.take j);rw [Y0o] at this;omega
       generalize hy0:zs[j]=y at hy hsj;generalize exX t.l t.n x.val (zs.take j)=acc at hsj hlj ⊢;refine go ?_;refine Qo (Zn (xs:=zs) (g:=cuC) rfl rfl j rfl hjl rfl) ?_;rw [hy0];refine gd 59 ⟨?_⟩;refine Qd (Z46 t.l S x.val hx.1 (by omega)) ⟨Zq _ _,Yt,Yt⟩ ?_;refine gd 61 ⟨?_⟩;refine Qd (Z2K (sen t.l x.val) (mkN t.n) hsl hmk) ⟨Z2 _,Z2 _,Yt⟩ ?_;generalize sen t.l x.val &&& mkN t.n=M at hM hsj ⊢;refine Qd (Z1H M) ⟨Z2 _,Yt⟩ ?_;refine go ?_;refine Z2q (X:=List Nat) hC2 (caps := [.cp [.vec (X5 (X9 M)) false]]) [(2,.cp (pbP t S)),(6,.ptr 2 0 0),(9,.ptr 12 0 0),(10,.val (.int .i64 (x.val:Int))),(11,.ptr 13 0 0),(13,.ptr 15 0 0),(50,.vec (zs.map cuC) false),(51,.val (.int .i64 (zs.length:Int))),(52,Yv j),(62,.fn 142 [.cp [.vec (X5 (X9 M)) false]])]
        (fun w => [(0,⟨1,[[.vec [] true]]⟩),(1,⟨1,[[.val (.int .i64 0)]]⟩),(2,⟨1,[[.vec (X5 (X9 (mkN t.n))) false]]⟩),(12,⟨1,[[.vec (zs.map cuC) false]]⟩),(13,⟨1,[[.own 14]]⟩),(14,⟨2,(acc++w.map fun a=>(y.1 ||| 2 ^ a,y.2)).map cuC⟩),(15,⟨2,[cuC y]⟩)]) rfl ⟨⟨Z7 _,Yt⟩,Yt⟩ (Z2s M hM) (fun _=>rfl)
        (fun ex pre z=>ex=.normal/\z=pre.map (·.val)) 23 (by decide) [] ⟨rfl,rfl⟩
        (Z2P (X3n.mem (ρ := fun i => i) (m := 23) (L := [(2, .cp (pbP t S)), (6, .ptr 2 0 0), (9, .ptr 12 0 0), (10, .val (.int .i64 (x.val : Int))), (11, .ptr 13 0 0), (13, .ptr 15 0 0), (50, .vec (zs.map cuC) false), (51, .val (.int .i64 (zs.length : Int))), (52, Yv j), (62, .fn 142 [.cp [.vec (X5 (X9 M)) false]])]) ⟨Qp hpp, Qt 2 0 0, Qt 12 0 0, Qp Yt, Qt 13 0 0, Qt 15 0 0, Qp (Z1 _), Qp Yt, Qp Yt, Qp ⟨⟨Z7 _, Yt⟩, Yt⟩, Yt⟩)
          (X1y.mem (ρ:=fun i=>i) (m:=23) (L := [(0,⟨1,[[.vec [] true]]⟩),(1,⟨1,[[.val (.int .i64 0)]]⟩),(2,⟨1,[[.vec (X5 (X9 (mkN t.n))) false]]⟩),(12,⟨1,[[.vec (zs.map cuC) false]]⟩),(13,⟨1,[[.own 14]]⟩),(14,⟨2,(acc++([]:List Nat).map fun a=>(y.1 ||| 2 ^ a,y.2)).map cuC⟩),(15,⟨2,[cuC y]⟩)]) ⟨Qs ⟨⟨Yt,Yt⟩,Yt⟩,Qs ⟨⟨Yt,Yt⟩,Yt⟩,Qs ⟨⟨Z7 _,Yt⟩,Yt⟩,Qs ⟨⟨Z1 _,Yt⟩,Yt⟩,⟨by decide,_,rfl,Xu.single ⟨.own (ρ:=fun i=>i) 14 (by decide),Yt⟩ rfl⟩,⟨by decide,_,rfl,by rw [List.map_nil,Y0p]; exact .same _ (Z1 _)⟩,Qs ⟨Zi y,Yt⟩,Yt⟩) hC2 (by decide))
        (fun z q hq=>by simp at hq; rcases hq with rfl|rfl|rfl|rfl|rfl|rfl|rfl<;>exact Y1s _) _ (fun x=>rfl) ?_ ?_ ?_
       . rintro C3 hC3 pre2 a w ⟨-, rfl⟩ hlen2;have ha:=Z3J a.2;have hml:=Z2C M;have hsn:acc++(pre2.map (·.val) ++ [a.val]).map (fun a=>(y.1 ||| 2 ^ a,y.2))=(acc++(pre2.map (·.val)).map fun a=>(y.1 ||| 2 ^ a,y.2)) ++ [(y.1 ||| 2 ^ a.val,y.2)]:=by simp
         have hal:(acc++(pre2.map (·.val)).map fun a=>(y.1 ||| 2 ^ a,y.2)).length<=5000:=by simp; omega
         generalize (acc++(pre2.map (·.val)).map fun a=>(y.1 ||| 2 ^ a,y.2))=acc2 at hsn hal ⊢;refine gd 68 ⟨?_⟩;refine Qd (Z1q y.1 hy.1 a.val ha) ⟨Z2 _,Yt,Yt⟩ ?_;refine gd 73 ⟨?_⟩
         refine Qr (Zt (k:=14) (m := [cuC (y.1 ||| 2 ^ a.val,y.2)]) (fl:=true) rfl rfl rfl (fun q hq=>by rw [Y0g] at hq; subst hq; rfl) rfl (by
          show ((acc2.map cuC).length+1)*48<=_
          rw [Y0f];omega)) ?_
         refine go ?_
         refine⟨.inl rfl,pre2.map (·.val) ++ [a.val],mv 14 32,⟨rfl,by rw [Y0r]; rfl⟩,Z57 (by decide),Zu rfl,
          ⟨Qp hpp,Qt 2 0 0,Qt 12 0 0,Qp Yt,Qt 13 0 0,Qt 15 0 0,Qp (Z1 _),Qp Yt,Qp Yt,Qp ⟨⟨Z7 _,Yt⟩,Yt⟩,Yt⟩,?_⟩
         show X1y _ _ _ [_,_,_,_,_,(14,⟨2,(acc++(pre2.map (·.val) ++ [a.val]).map fun a=>(y.1 ||| 2 ^ a,y.2)).map cuC⟩),_];rw [hsn];refine⟨Qs ⟨⟨Yt,Yt⟩,Yt⟩,Qs ⟨⟨Yt,Yt⟩,Yt⟩,Qs ⟨⟨Z7 _,Yt⟩,Yt⟩,Qs ⟨⟨Z1 _,Yt⟩,Yt⟩,⟨by decide,_,rfl,Xu.single ⟨.own (ρ:=mv 14 32) 14 (by decide),Yt⟩ rfl⟩,⟨by decide,_,rfl,?_⟩,Qs ⟨Zi y,Yt⟩,Yt⟩;show Xu _ _ ⟨2,acc2.map cuC ++ [cuC (y.1 ||| 2 ^ a.val,y.2)]⟩ ⟨2,(acc2 ++ [(y.1 ||| 2 ^ a.val,y.2)]).map cuC⟩;rw [Y0r];exact .same _ (by rw [<- Y19,<- Y0r]; exact Z1 _)
       . rintro xs w hxs2 ⟨-, rfl⟩;rw [hxs2];refine go ?_
         refine⟨j+1,fun i=>i,hjl,by omega,fun _ _=>rfl,Zk,
          ⟨Qp hpp,Qt 2 0 0,Qt 12 0 0,Qp Yt,Qt 13 0 0,Qp (Z1 _),Qp Yt,⟨_,by show some _=some _; rw [hinc],.pure _ Yt⟩,Yt⟩,?_⟩
         show X1y _ _ _ [_,_,_,_,_,(14,⟨2,(exX t.l t.n x.val (zs.take (j+1))).map cuC⟩)];rw [hsj];exact⟨Qs ⟨⟨Yt,Yt⟩,Yt⟩,Qs ⟨⟨Yt,Yt⟩,Yt⟩,Qs ⟨⟨Z7 _,Yt⟩,Yt⟩,Qs ⟨⟨Z1 _,Yt⟩,Yt⟩,⟨by decide,_,rfl,Xu.single ⟨.own (ρ:=fun i=>i) 14 (by decide),Yt⟩ rfl⟩,Qs (Z1 _),Yt⟩
       . rintro ex pre2 w - ⟨rfl,_⟩ (h|⟨id,h⟩)<;>cases h
     . have hjl : j = zs.length := by have := Yw hb; omega
       subst hjl;clear hb;rw [Y0q]
       repeat' (first|refine Zb (Zm (k:=75) rfl rfl (Z1 _)) ?_|(first|refine st ?_|(apply B<;>intro hb<;>try cases hb)))
       refine Qe (Z79 _ false (Zd2 hN0 hxo) (by omega)) ⟨Z1 _,Yt⟩ ?_;refine gd 79 ⟨?_⟩;refine Qo (Z6 (v:=false) rfl (by simp;omega)) ?_;refine go ?_
       refine⟨.inl rfl,pre.map (·.val) ++ [x.val],fun i=>i,⟨rfl,by rw [Y0r]; rfl⟩,fun i hi=>rfl,Zk,
        ⟨Qp hpp,Qt 0 0 0,Qt 1 0 0,Qt 2 0 0,Qt 12 0 0,Qp ⟨⟨Z7 _,Yt⟩,Yt⟩,Yt⟩,?_⟩
       show X1y _ _ _ [_,_,_,(12,⟨1,[[.vec ((exF t.l t.n (pre.map (·.val) ++ [x.val]) [(0,N0)]).map cuC) false]]⟩)];rw [hst];exact⟨Qs ⟨⟨Yt,Yt⟩,Yt⟩,Qs ⟨⟨Yt,Yt⟩,Yt⟩,Qs ⟨⟨Z7 _,Yt⟩,Yt⟩,Qs ⟨⟨Z1 _,Yt⟩,Yt⟩,Yt⟩
   . rintro xs z hxs ⟨-, rfl⟩;rw [hxs];have he:exF t.l t.n (mem c.1) [(0,N0)]=exL t.l t.n c:=by unfold exL; rw [hN0e]
     rw [he];refine go ?_;exact Z8 rfl ⟨Z1 _,Yt,Yt⟩ rfl
   . rintro ex pre z - ⟨rfl,_⟩ (h|⟨id,h⟩)<;>cases h
 . rintro ex pre z - ⟨rfl,_⟩ (h|⟨id,h⟩)<;>cases h
theorem ZiM {e:Env} {h:X1} {n:Nat} {x y:Operand} {a b:Int} (hx:ev e x=some (.val (.int .i64 a))) (hy:ev e y=some (.val (.int .i64 b))) (hb:b≠0):X4 (.bin .rem .num x y) e h n=some (.val (.int .i64 (a.tmod b)),h):=by
 simp [X4,hx,hy,X4B,X4z,hb]
theorem Z5p {α:Type} {f:α->List PV} (hf:∀ x,X2w (f x)=f x):∀ l:List α,XA (l.map f)=l.map f
 | []=>rfl
 | c :: l => by
   show X2w (f c) :: XA (l.map f)=_;rw [hf,Z5p hf l]; rfl
structure X6f (t:PB):Prop where
 ok:Xt t
 n:2<=t.n/\t.n<=5
 rs:t.rs.length<=6
 nv:t.nv.length<=3
 gl:1<=t.gl.length/\t.gl.length<=3
structure LJ (n:Nat) (l:List Pr) (k:Nat):Prop where
 asc:Xw l
 len:l.length<=k
 mem:∀ p∈l,1<=p.1/\p.1<p.2/\p.2<=n
theorem LJ.nil (n:Nat):LJ n [] 0:=⟨List.Pairwise.nil,Y0m _,fun _ h=>by cases h⟩
theorem LJ.mono {n:Nat} {l:List Pr} {k k':Nat} (h:LJ n l k) (hk:k<=k'):LJ n l k':=⟨h.asc,Y03 h.len hk,h.mem⟩
theorem LJ.step {n:Nat} {l:List Pr} {k a b:Nat} (h:LJ n l k) {l':List Pr} (hL:X2h l (a,b) l') (ha:1<=a) (hab:a<b) (hb:b<=n):LJ n l' (k+1) :=
 ⟨hL.sorted h.asc,Y03 hL.len (Nat.succ_le_succ h.len),fun p hp=>(hL.mem p hp).elim (h.mem p) fun e=>by subst e; exact⟨ha,hab,hb⟩⟩
theorem LJ.good {n:Nat} (hn:n<=5) {l:List Pr} {k:Nat} (h:LJ n l k):X3S l :=
 ⟨h.asc,fun p hp=>by have:=h.mem p hp; omega,⟨fun i=>i,fun p hp=>(h.mem p hp).2.1⟩⟩
theorem Zkx {n:Nat} (h1:2<=n) (h2:n<=5):IntKind.u8.wrap (2*2 ^ (min ((n:Nat):Int).toNat IntKind.u8.bits))=((2*2 ^ n:Nat):Int)/\IntKind.u8.wrap (((2*2 ^ n:Nat):Int)-2)=((mkN n:Nat):Int)/\mkN n<64/\mkN n ||| 62=62:=by
 have:n=2 \/ n=3 \/ n=4 \/ n=5:=by omega
 rcases this with rfl|rfl|rfl|rfl<;>decide
theorem Zju (X:Int) (m:Nat) (hm:m<256):∃ s:Nat,s ||| m=m/\bits .and .u8 X (m:Int)=(s:Int):=by
 refine⟨(BitVec.ofInt 8 X).toNat &&& m,ZfW _ m,?_⟩;rw [<- ZiH _ _ (BitVec.ofInt 8 X).isLt hm];show IntKind.u8.wrap ((BitVec.ofInt 8 X &&& BitVec.ofInt 8 (m:Int)).toNat:Int)=IntKind.u8.wrap ((BitVec.ofInt 8 ((BitVec.ofInt 8 X).toNat:Int) &&& BitVec.ofInt 8 (m:Int)).toNat:Int);rw [show BitVec.ofInt 8 ((BitVec.ofInt 8 X).toNat:Int)=BitVec.ofInt 8 X by rw [Y1y,BitVec.ofNat_toNat,BitVec.setWidth_eq]]
theorem Z3y (a b:Nat):((a:Nat):Int).tmod ((b:Nat):Int)=((a % b:Nat):Int):=by rw [Y2M]
theorem InM.inC {n:Nat} {c:Cu} (h:InM (mkN n) c) (he:emC c=false):InC n c:=⟨h.1,h.2,he⟩
theorem Z4u {a b c:Nat} (h1:a ||| b=b) (h2:b ||| c=c):a ||| c=c:=Xe.2 fun i hi=>Xe.1 h2 i (Xe.1 h1 i hi)
theorem X3H.mk0 {n:Nat} (hn:n<=5) {c:Cu} {rev:Bool} {tg og:Nat} (hc:InM (mkN n) c) (h62:mkN n ||| 62=62) (he:emC c=false) (ht:1<=tg/\tg<=n) (hr:rev=true->c=(0,0)):X3H n ⟨rev,c,tg,og⟩ :=
 ⟨hc.inC he,⟨Z4u hc.1 h62,Z4u hc.2 h62⟩,⟨ht.1,ht.2,by show tg<=5; omega⟩,hr⟩
theorem ZbK (p:List Nat) (fl:Bool) (hp:X4r p):X7 Tryz.prog 20 [.vec (bys p) fl] fun r=>∃ t:PB,X6f t/\r=.agg (pbR t):=by
 have hpl:∀ (l:List Pr) D,Xs D (l.map prC):=fun l D=>Ze (fun _ h=>h.elim) _ (Zl l);have hsi:∀ t D,Xs D (X4x p fl t).elems:=fun t D=>ZhJ p fl t D;refine Yp ok20 fun C hC=>?_;refine gd 30 ⟨?_⟩;refine ZU (ZW p hp fl 0 (by omega)) rfl rfl rfl rfl (ZK p fl 0) Yt ?_;rintro r b' - - ⟨v1,hv1,rfl,rfl⟩;refine Zh rfl rfl rfl (Z3y v1 4) ?_;have hn4:=Y1t v1 (show 0<4 by decide);refine Zh rfl rfl rfl (show IntKind.i64.wrap (2+((v1 % 4:Nat):Int))=((2+v1 % 4:Nat):Int) from by rw [Y0v _ ⟨by omega,by omega⟩];omega) ?_;obtain⟨n,hn⟩:∃ n,2+v1 % 4=n:=⟨_,rfl⟩
 rw [hn];have hn2:2<=n/\n<=5:=by omega
 obtain⟨hm1,hm2,hm64,hm62⟩:=Zkx hn2.1 hn2.2;clear hn hn4 hv1;refine gd 36 ⟨?_⟩;refine Zh rfl rfl rfl (show IntKind.u64.wrap ((n:Nat):Int)=((n:Nat):Int) from Y0x _ ⟨by omega,by omega⟩) ?_;refine Z3l rfl rfl (by omega) hm1 rfl ?_;refine Zh rfl rfl rfl hm2 ?_;refine gd 40 ⟨?_⟩;refine ZU (ZW p hp fl 1 (by omega)) rfl rfl rfl rfl (ZK p fl 1) Yt ?_;rintro r b' - - ⟨v2,hv2,rfl,rfl⟩;refine go ?_;refine Zy hC (fun (z:Nat×Nat×List Pr×Bool)=>1<=z.1/\z.1<=n/\z.2.1<=10*z.1/\LJ n z.2.2.1 z.2.1) (fun z=>n-z.1) 3 (fun z => [(2,.ptr 0 0 0),(3,.ptr 1 0 0),(4,.ptr 2 0 0),(5,.val (.int .u8 (mkN n:Nat))),(6,.val (.int .i64 (v2:Int))),(7,.val (.int .i64 (z.2.1:Int))),(8,Yv z.1)])
  (fun z => [(0,⟨6,[zpv [.int .i64 0,.slice none 0 0,.int .u64 0,.slice none 0 0,.slice none 0 0,.slice none 0 0]]⟩),(1,X4x p fl 2),(2,⟨6,[[.val (.int .i64 (n:Int)),.vec (z.2.2.1.map prC) z.2.2.2,.val (.int .u64 0),.vec [] true,.vec [] true,.vec [] true]]⟩)]) (Y0l _) (1,0,[],true) ⟨Y0m _,by show 1<=n; omega,by show 0<=_; omega,LJ.nil n⟩
  ⟨⟨rfl,show (0:Nat)<3 by decide⟩,⟨rfl,show (1:Nat)<3 by decide⟩,⟨rfl,show (2:Nat)<3 by decide⟩,⟨rfl,Yt⟩,⟨rfl,Yt⟩,⟨rfl,Yt⟩,⟨rfl,Yt⟩,Yt⟩
  ⟨⟨by decide,rfl,⟨⟨Yt,Yt,Yt,Yt,Yt,Yt,Yt⟩,Yt⟩⟩,⟨by decide,rfl,hsi 2 _⟩,⟨by decide,rfl,⟨⟨Yt,Yt,Yt,Yt,Yt,Yt,Yt⟩,Yt⟩⟩,Yt⟩ ?_
 rintro⟨a,k,l,fk⟩ ⟨ha1,han,hk,hl⟩;dsimp only at ha1 han hk hl;have hainc:IntKind.i64.wrap ((a:Int)+1)=((a+1:Nat):Int):=Y0v _ ⟨by omega,by omega⟩;refine gd 44 ⟨?_⟩;refine Zv rfl rfl rfl (fun hb=>?_) (fun hb=>?_)
 . have hal : a < n := by have := Y0u hb; omega
   clear hb;refine go ?_;refine Zy hC (fun (z:Nat×Nat×List Pr×Bool)=>a+1<=z.1/\z.1<=n+1/\z.2.1<=10*a+z.1/\LJ n z.2.2.1 z.2.1) (fun z=>n+1-z.1) 3 (fun z => [(2,.ptr 0 0 0),(3,.ptr 1 0 0),(4,.ptr 2 0 0),(5,.val (.int .u8 (mkN n:Nat))),(6,.val (.int .i64 (v2:Int))),(7,.val (.int .i64 (z.2.1:Int))),(8,.val (.int .i64 (a:Int))),(9,Yv z.1)])
    (fun z => [(0,⟨6,[zpv [.int .i64 0,.slice none 0 0,.int .u64 0,.slice none 0 0,.slice none 0 0,.slice none 0 0]]⟩),(1,X4x p fl 2),(2,⟨6,[[.val (.int .i64 (n:Int)),.vec (z.2.2.1.map prC) z.2.2.2,.val (.int .u64 0),.vec [] true,.vec [] true,.vec [] true]]⟩)]) (Y0l _) (a+1,k,l,fk) ⟨Y0m _,by show a+1<=n+1; omega,by show k<=10*a+(a+1); omega,hl⟩
    ⟨⟨rfl,show (0:Nat)<3 by decide⟩,⟨rfl,show (1:Nat)<3 by decide⟩,⟨rfl,show (2:Nat)<3 by decide⟩,⟨rfl,Yt⟩,⟨rfl,Yt⟩,⟨rfl,Yt⟩,⟨rfl,Yt⟩,⟨by show some _=some _; rw [hainc],Yt⟩,Yt⟩
    ⟨⟨by decide,rfl,⟨⟨Yt,Yt,Yt,Yt,Yt,Yt,Yt⟩,Yt⟩⟩,⟨by decide,rfl,hsi 2 _⟩,⟨by decide,rfl,⟨⟨Yt,hpl _ _,Yt,Yt,Yt,Yt,Yt⟩,Yt⟩⟩,Yt⟩ ?_
   clear hk hl;rintro⟨c,k,l,fk⟩ ⟨hc1,hcn,hk,hl⟩;dsimp only at hc1 hcn hk hl;have hcinc:IntKind.i64.wrap ((c:Int)+1)=((c+1:Nat):Int):=Y0v _ ⟨by omega,by omega⟩;have hkinc:IntKind.i64.wrap ((k:Int)+1)=((k+1:Nat):Int):=Y0v _ ⟨by omega,by omega⟩;have hend:∀ l' fk',LJ n l' (k+1)->c<=n->(fun (z:Nat×Nat×List Pr×Bool)=>a+1<=z.1/\z.1<=n+1/\z.2.1<=10*a+z.1/\LJ n z.2.2.1 z.2.1) (c+1,k+1,l',fk'):=fun l' fk' h1 h2=>⟨by show a+1<=c+1; omega,by show c+1<=n+1; omega,by show k+1<=10*a+(c+1); omega,h1⟩
   refine gd 52 ⟨?_⟩;refine Zv rfl rfl rfl (fun hb=>?_) (fun hb=>?_)
   . have hcl : c <= n := by have := Y0u hb; omega
     clear hb;refine gd 57 ⟨?_⟩;refine Zh rfl rfl rfl (Z3y k 8) ?_;have hk8:=Y1t k (show 0<8 by decide);refine Zh rfl rfl rfl (show IntKind.u64.wrap ((k % 8:Nat):Int)=((k % 8:Nat):Int) from Y0x _ ⟨by omega,by omega⟩) ?_;refine Z3m rfl rfl (by omega) rfl rfl ?_;refine gd 61 ⟨?_⟩;refine Zv rfl rfl rfl (fun hb=>?_) (fun hb=>?_)
     . clear hb;refine gd 65 ⟨?_⟩;refine Zr rfl ?_;refine Zv rfl rfl rfl (fun hb=>?_) (fun hb=>?_)
       . clear hb;refine gd 72 ⟨?_⟩;refine ZD rfl rfl (Ze2 l fk (hl.good hn2.2).small a c ⟨ha1,by omega⟩ ⟨by omega,by omega⟩ (by omega) (by have:=hl.len;omega)) ⟨Zl l,Yt,Yt,Yt⟩ rfl ?_;rintro r ⟨l',fl',er,hL,rfl⟩;refine go ?_;exact⟨(c+1,k+1,l',fl'),hend l' fl' (hl.step hL ha1 (by omega) hcl) hcl,by show n+1-(c+1)<n+1-c; omega,⟨⟨rfl,show (0:Nat)<3 by decide⟩,⟨rfl,show (1:Nat)<3 by decide⟩,⟨rfl,show (2:Nat)<3 by decide⟩,⟨rfl,Yt⟩,⟨rfl,Yt⟩,⟨by show some _=some _; rw [hkinc],Yt⟩,⟨rfl,Yt⟩,⟨by show some _=some _; rw [hcinc],Yt⟩,Yt⟩,⟨⟨by decide,rfl,⟨⟨Yt,Yt,Yt,Yt,Yt,Yt,Yt⟩,Yt⟩⟩,⟨by decide,rfl,hsi 2 _⟩,⟨by decide,rfl,⟨⟨Yt,hpl _ _,Yt,Yt,Yt,Yt,Yt⟩,Yt⟩⟩,Yt⟩⟩
       . clear hb;refine go ?_;exact⟨(c+1,k+1,l,fk),hend l fk (hl.mono (Y41 k)) hcl,by show n+1-(c+1)<n+1-c; omega,⟨⟨rfl,show (0:Nat)<3 by decide⟩,⟨rfl,show (1:Nat)<3 by decide⟩,⟨rfl,show (2:Nat)<3 by decide⟩,⟨rfl,Yt⟩,⟨rfl,Yt⟩,⟨by show some _=some _; rw [hkinc],Yt⟩,⟨rfl,Yt⟩,⟨by show some _=some _; rw [hcinc],Yt⟩,Yt⟩,⟨⟨by decide,rfl,⟨⟨Yt,Yt,Yt,Yt,Yt,Yt,Yt⟩,Yt⟩⟩,⟨by decide,rfl,hsi 2 _⟩,⟨by decide,rfl,⟨⟨Yt,hpl _ _,Yt,Yt,Yt,Yt,Yt⟩,Yt⟩⟩,Yt⟩⟩
     . clear hb;refine go ?_;exact⟨(c+1,k+1,l,fk),hend l fk (hl.mono (Y41 k)) hcl,by show n+1-(c+1)<n+1-c; omega,⟨⟨rfl,show (0:Nat)<3 by decide⟩,⟨rfl,show (1:Nat)<3 by decide⟩,⟨rfl,show (2:Nat)<3 by decide⟩,⟨rfl,Yt⟩,⟨rfl,Yt⟩,⟨by show some _=some _; rw [hkinc],Yt⟩,⟨rfl,Yt⟩,⟨by show some _=some _; rw [hcinc],Yt⟩,Yt⟩,⟨⟨by decide,rfl,⟨⟨Yt,Yt,Yt,Yt,Yt,Yt,Yt⟩,Yt⟩⟩,⟨by decide,rfl,hsi 2 _⟩,⟨by decide,rfl,⟨⟨Yt,hpl _ _,Yt,Yt,Yt,Yt,Yt⟩,Yt⟩⟩,Yt⟩⟩
   . have hcl : c = n + 1 := by have := Yw hb; omega
     clear hb;refine go ?_;exact⟨(a+1,k,l,fk),⟨by show 1<=a+1; omega,by show a+1<=n; omega,by show k<=10*(a+1); omega,hl⟩,by show n-(a+1)<n-a; omega,⟨⟨rfl,show (0:Nat)<3 by decide⟩,⟨rfl,show (1:Nat)<3 by decide⟩,⟨rfl,show (2:Nat)<3 by decide⟩,⟨rfl,Yt⟩,⟨rfl,Yt⟩,⟨rfl,Yt⟩,⟨by show some _=some _; rw [hainc],Yt⟩,Yt⟩,⟨⟨by decide,rfl,⟨⟨Yt,Yt,Yt,Yt,Yt,Yt,Yt⟩,Yt⟩⟩,⟨by decide,rfl,hsi 2 _⟩,⟨by decide,rfl,⟨⟨Yt,hpl _ _,Yt,Yt,Yt,Yt,Yt⟩,Yt⟩⟩,Yt⟩⟩
 . have hal : a = n := by have := Yw hb; omega
   clear hb;have hgl:=hl.good hn2.2;have hlm:=hl.mem;clear hl hk hv2 hainc;refine gd 79 ⟨?_⟩;refine ZU (ZW p hp fl 2 (by omega)) rfl rfl rfl rfl (ZK p fl 2) Yt ?_;rintro r b' - - ⟨v3,hv3,rfl,rfl⟩;refine gd 82 ⟨?_⟩;obtain⟨s,hs1,hs2⟩:=Zju (IntKind.u8.wrap (v3:Int)) (mkN n) (by omega);have hs3:s<=mkN n:=by rw [<- hs1]; exact YU
   refine Zh rfl rfl rfl hs2 ?_;refine Zh rfl rfl rfl (show IntKind.u64.wrap ((s:Nat):Int)=((s:Nat):Int) from Y0x _ ⟨by omega,by omega⟩) ?_;clear hs2 hv3;refine gd 86 ⟨?_⟩;refine ZU (ZW p hp fl 3 (by omega)) rfl rfl rfl rfl (ZK p fl 3) Yt ?_;rintro r b' - - ⟨v4,hv4,rfl,rfl⟩;refine Zh rfl rfl rfl (Z3y v4 7) ?_;have hc6:=Y1t v4 (show 0<7 by decide);generalize v4 % 7=cnt at hc6 ⊢;clear hv4;refine gd 11 ⟨?_⟩;refine Zb (ZP (id:=2) (i0:=0) (j0:=3) rfl (Y0 rfl) (Y0 rfl) rfl 5 (by decide) (by decide)) ?_;refine go ?_;refine ZA hC (fun (z:Nat×Nat×List RU)=>z.1<=cnt/\z.2.1<=4+4*z.1/\z.2.2.length=z.1/\∀ r∈z.2.2,X3H n r) (fun z=>cnt-z.1) 4 (fun z => [(2,.ptr 0 0 0),(3,.ptr 1 0 0),(4,.ptr 2 0 0),(5,.val (.int .u8 (mkN n:Nat))),(10,.val (.int .i64 (cnt:Int))),(11,Yv z.1)])
    (fun z => [(0,⟨6,[zpv [.int .i64 0,.slice none 0 0,.int .u64 0,.slice none 0 0,.slice none 0 0,.slice none 0 0]]⟩),(1,X4x p fl z.2.1),(2,⟨6,[[.val (.int .i64 (n:Int)),.vec (l.map prC) fk,.val (.int .u64 (s:Int)),.own 3,.vec [] true,.vec [] true]]⟩),(3,⟨5,z.2.2.map ruR⟩)]) (Y0l _) (0,3+1,[]) ⟨Y0l _,Y0m _,rfl,fun r hr=>by cases hr⟩ (fun i=>i) (fun _ _=>rfl) Zk
    ⟨Qt 0 0 0,Qt 1 0 0,Qt 2 0 0,Qp Yt,Qp Yt,Qp Yt,Yt⟩
    ⟨Qs ⟨⟨Yt,Yt,Yt,Yt,Yt,Yt,Yt⟩,Yt⟩,Qs (ZK p fl _),⟨by decide,_,rfl,Xu.single ⟨.pure _ Yt,.pure _ (Zl l),.pure _ Yt,.own (ρ:=fun i=>i) 3 (by decide),.pure _ Yt,.pure _ Yt,Yt⟩ rfl⟩,Qs Yt,Yt⟩ ?_
   rintro⟨i,t,rs⟩ ⟨hi,ht,hrl,hro⟩;dsimp only at hi ht hrl hro;have hinc:IntKind.i64.wrap ((i:Int)+1)=((i+1:Nat):Int):=Y0v _ ⟨by omega,by omega⟩;refine gd 90 ⟨?_⟩;refine Zv rfl rfl rfl (fun hb=>?_) (fun hb=>?_)
   . have hil : i < cnt := by have := Y0u hb; omega
     clear hb;refine gd 94 ⟨?_⟩;refine ZU (ZW p hp fl t (by omega)) rfl rfl rfl rfl (ZK p fl _) Yt ?_;rintro r b' - - ⟨w1,hw1,rfl,rfl⟩;refine gd 96 ⟨?_⟩;refine ZU (ZW p hp fl (t+1) (by omega)) rfl rfl rfl rfl (ZK p fl _) Yt ?_;rintro r b' - - ⟨w2,hw2,rfl,rfl⟩;refine gd 98 ⟨?_⟩;refine ZU (ZW p hp fl (t+1+1) (by omega)) rfl rfl rfl rfl (ZK p fl _) Yt ?_;rintro r b' - - ⟨w3,hw3,rfl,rfl⟩;refine gd 100 ⟨?_⟩;refine ZU (ZW p hp fl (t+1+1+1) (by omega)) rfl rfl rfl rfl (ZK p fl _) Yt ?_;rintro r b' - - ⟨w4,hw4,rfl,rfl⟩;refine gd 103 ⟨?_⟩;refine Z0 rfl rfl rfl ?_;generalize ((w1:Int).tmod 4 == 3)=rev;refine gd 107 ⟨?_⟩;refine Qo (ZiM rfl rfl (by omega)) ?_;rw [Z3y w2 n];have hw:=Y1t w2 (show 0<n by omega);refine Zh rfl rfl rfl (show IntKind.i64.wrap (1+((w2 % n:Nat):Int))=((1+w2 % n:Nat):Int) from by rw [Y0v _ ⟨by omega,by omega⟩];omega) ?_;cases rev
     . refine gd 117 ⟨?_⟩;refine ZD rfl rfl (Z5I (w3:Int) (w4:Int) (mkN n) (by omega)) ⟨Yt,Yt,Yt,Yt⟩ rfl ?_;rintro r ⟨c,hc1,hc2,rfl⟩;refine gd 123 ⟨?_⟩
       refine ZF (Zt (k:=3) (m := [ruR (RU.mk false c (1+w2 % n) i)]) (fl:=true) rfl rfl rfl (fun q hq=>by rw [Y0g] at hq; subst hq; rfl) rfl (by
        show ((rs.map ruR).length+1)*40<=_
        rw [Y0f];omega)) rfl rfl ?_
       refine go ?_
       refine⟨(i+1,t+1+1+1+1,rs ++ [(RU.mk false c (1+w2 % n) i)]),mv 3 5,⟨by show i+1<=cnt; omega,by show t+1+1+1+1<=4+4*(i+1); omega,by rw [Y0e,hrl]; rfl,fun r hr=>(Y0h.1 hr).elim (hro r) fun e=>by
        rw [Y0g] at e; subst e
        exact X3H.mk0 hn2.2 hc1 hm62 hc2 ⟨by omega,by omega⟩ (fun h=>by cases h)⟩,by show cnt-(i+1)<cnt-i; omega,fun i hi=>absurd hi (YE i),Zu rfl,
        ⟨Qt 0 0 0,Qt 1 0 0,Qt 2 0 0,Qp Yt,Qp Yt,⟨_,by show some _=some _; rw [hinc],.pure _ Yt⟩,Yt⟩,
        ⟨Qs ⟨⟨Yt,Yt,Yt,Yt,Yt,Yt,Yt⟩,Yt⟩,Qs (ZK p fl _),⟨by decide,_,rfl,Xu.single ⟨.pure _ Yt,.pure _ (Zl l),.pure _ Yt,.own (ρ:=mv 3 5) 3 (by decide),.pure _ Yt,.pure _ Yt,Yt⟩ rfl⟩,⟨by decide,_,rfl,?_⟩,Yt⟩⟩
       show Xu _ _ ⟨5,rs.map ruR ++ [ruR (RU.mk false c (1+w2 % n) i)]⟩ ⟨5,(rs ++ [(RU.mk false c (1+w2 % n) i)]).map ruR⟩;rw [Y0r];exact .same _ (by rw [<- Y19,<- Y0r]; exact Z1B _)
     . refine gd 123 ⟨?_⟩
       refine ZF (Zt (k:=3) (m := [ruR (RU.mk true (0,0) (1+w2 % n) i)]) (fl:=true) rfl rfl rfl (fun q hq=>by rw [Y0g] at hq; subst hq; rfl) rfl (by
        show ((rs.map ruR).length+1)*40<=_
        rw [Y0f];omega)) rfl rfl ?_
       refine go ?_
       refine⟨(i+1,t+1+1+1+1,rs ++ [(RU.mk true (0,0) (1+w2 % n) i)]),mv 3 5,⟨by show i+1<=cnt; omega,by show t+1+1+1+1<=4+4*(i+1); omega,by rw [Y0e,hrl]; rfl,fun r hr=>(Y0h.1 hr).elim (hro r) fun e=>by
        rw [Y0g] at e; subst e
        exact X3H.mk0 hn2.2 ⟨Y40 _,Y40 _⟩ hm62 rfl ⟨by omega,by omega⟩ (fun h=>rfl)⟩,by show cnt-(i+1)<cnt-i; omega,fun i hi=>absurd hi (YE i),Zu rfl,
        ⟨Qt 0 0 0,Qt 1 0 0,Qt 2 0 0,Qp Yt,Qp Yt,⟨_,by show some _=some _; rw [hinc],.pure _ Yt⟩,Yt⟩,
        ⟨Qs ⟨⟨Yt,Yt,Yt,Yt,Yt,Yt,Yt⟩,Yt⟩,Qs (ZK p fl _),⟨by decide,_,rfl,Xu.single ⟨.pure _ Yt,.pure _ (Zl l),.pure _ Yt,.own (ρ:=mv 3 5) 3 (by decide),.pure _ Yt,.pure _ Yt,Yt⟩ rfl⟩,⟨by decide,_,rfl,?_⟩,Yt⟩⟩
       show Xu _ _ ⟨5,rs.map ruR ++ [ruR (RU.mk true (0,0) (1+w2 % n) i)]⟩ ⟨5,(rs ++ [(RU.mk true (0,0) (1+w2 % n) i)]).map ruR⟩;rw [Y0r];exact .same _ (by rw [<- Y19,<- Y0r]; exact Z1B _)
   . have hil : i = cnt := by have := Yw hb; omega
     clear hb hinc;rw [hil] at hrl;have ht28:t<=28:=by omega
     clear hi hil ht;refine gd 126 ⟨?_⟩;refine ZU (ZW p hp fl t (by omega)) rfl rfl rfl rfl (ZK p fl _) Yt ?_;rintro r b' - - ⟨w1,hw1,rfl,rfl⟩;refine Zb (Zs (ob:=2) (id:=3) (i0:=0) (j0:=3) rfl rfl (by decide) (Z1B rs) (Y0 rfl) (Y0 rfl) rfl) ?_;refine Zh rfl rfl rfl (Z3y w1 4) ?_;have hv4:=Y1t w1 (show 0<4 by decide);generalize w1 % 4=nvc at hv4 ⊢;clear hw1;refine gd 129 ⟨?_⟩;refine ZU (ZW p hp fl (t+1) (by omega)) rfl rfl rfl rfl (ZK p fl _) Yt ?_;rintro r b' - - ⟨w1,hw1,rfl,rfl⟩;refine Zh rfl rfl rfl (Z3y w1 3) ?_;have hv3:=Y1t w1 (show 0<3 by decide);refine Zh rfl rfl rfl (show IntKind.i64.wrap (1+((w1 % 3:Nat):Int))=((1+w1 % 3:Nat):Int) from by rw [Y0v _ ⟨by omega,by omega⟩];omega) ?_;obtain⟨glc,hglc⟩:∃ g,1+w1 % 3=g:=⟨_,rfl⟩
     rw [hglc];have hgl3:1<=glc/\glc<=3:=by omega
     clear hglc hv3 hw1;refine gd 19 ⟨?_⟩;refine Zb (ZP (id:=2) (i0:=0) (j0:=4) rfl (Y0 rfl) (Y0 rfl) rfl 2 (by decide) (by decide)) ?_;refine go ?_;refine ZA hC (fun (z:Nat×Nat×List Cu)=>z.1<=nvc/\z.2.1<=30+2*z.1/\z.2.2.length<=z.1/\∀ c∈z.2.2,InM (mkN n) c/\emC c=false/\hoC c (clo l s)=false) (fun z=>nvc-z.1) 5 (fun z => [(2,.ptr 0 0 0),(3,.ptr 1 0 0),(4,.ptr 2 0 0),(5,.val (.int .u8 (mkN n:Nat))),(17,.val (.int .i64 (nvc:Int))),(18,.val (.int .i64 (glc:Int))),(19,Yv z.1)])
      (fun z => [(0,⟨6,[zpv [.int .i64 0,.slice none 0 0,.int .u64 0,.slice none 0 0,.slice none 0 0,.slice none 0 0]]⟩),(1,X4x p fl z.2.1),(2,⟨6,[[.val (.int .i64 (n:Int)),.vec (l.map prC) fk,.val (.int .u64 (s:Int)),.vec (rs.map ruR) false,.own 4,.vec [] true]]⟩),(4,⟨2,z.2.2.map raC⟩)]) (Y0l _) (0,t+1+1,[]) ⟨Y0l _,by show t+1+1<=30+2*0; omega,Y0m _,fun r hr=>by cases hr⟩ (fun i=>i) (fun _ _=>rfl) Zk
      ⟨Qt 0 0 0,Qt 1 0 0,Qt 2 0 0,Qp Yt,Qp Yt,Qp Yt,Qp Yt,Yt⟩
      ⟨Qs ⟨⟨Yt,Yt,Yt,Yt,Yt,Yt,Yt⟩,Yt⟩,Qs (ZK p fl _),⟨by decide,_,rfl,Xu.single ⟨.pure _ Yt,.pure _ (Zl l),.pure _ Yt,.pure _ (Z1B rs),.own (ρ:=fun i=>i) 4 (by decide),.pure _ Yt,Yt⟩ rfl⟩,Qs Yt,Yt⟩ ?_
     clear ht28;rintro⟨i,t,nv⟩ ⟨hi,ht,hnl,hno⟩;dsimp only at hi ht hnl hno;have hinc:IntKind.i64.wrap ((i:Int)+1)=((i+1:Nat):Int):=Y0v _ ⟨by omega,by omega⟩;refine gd 134 ⟨?_⟩;refine Zv rfl rfl rfl (fun hb=>?_) (fun hb=>?_)
     . have hil : i < nvc := by have := Y0u hb; omega
       clear hb;refine gd 138 ⟨?_⟩;refine ZU (ZW p hp fl t (by omega)) rfl rfl rfl rfl (ZK p fl _) Yt ?_;rintro r b' - - ⟨w1,hw1,rfl,rfl⟩;refine gd 140 ⟨?_⟩;refine ZU (ZW p hp fl (t+1) (by omega)) rfl rfl rfl rfl (ZK p fl _) Yt ?_;rintro r b' - - ⟨w2,hw2,rfl,rfl⟩;refine gd 145 ⟨?_⟩;refine Qo (ZiM rfl rfl (by omega)) ?_;rw [Z3y i n];have hw:=Y1t i (show 0<n by omega);refine Zh rfl rfl rfl (show IntKind.u64.wrap ((i % n:Nat):Int)=((i % n:Nat):Int) from Y0x _ ⟨by omega,by omega⟩) ?_;refine Z3l rfl rfl (by omega) rfl rfl ?_;refine gd 151 ⟨?_⟩;refine ZD rfl rfl (Z5I _ (w2:Int) (mkN n) (by omega)) ⟨Yt,Yt,Yt,Yt⟩ rfl ?_;rintro r ⟨c,hc1,hc2,rfl⟩;have hcl:=Z2w l fk hgl.small s (by omega);have hc64:=hc1.lt (by omega);have hho:=Z42 c (clo l s) hc64 (Z5h _ _);refine gd 157 ⟨?_⟩;refine Qd hcl ⟨Zl _,Yt,Yt⟩ ?_;refine Qd hho ⟨Z2x c,Yt,Yt⟩ ?_;cases hb:hoC c (clo l s)
       . refine gd 164 ⟨?_⟩
         refine ZF (Zt (k:=4) (m := [raC c]) (fl:=true) rfl rfl rfl (fun q hq=>by rw [Y0g] at hq; subst hq; rfl) rfl (by
         show ((nv.map raC).length+1)*16<=_
         rw [Y0f];omega)) rfl rfl ?_
         refine go ?_
         refine⟨(i+1,t+1+1,nv ++ [c]),mv 4 14,⟨by show i+1<=nvc; omega,by show t+1+1<=30+2*(i+1); omega,by rw [Y0e]; show nv.length+1<=i+1; omega,fun c' hc'=>(Y0h.1 hc').elim (hno c') fun e=>by rw [Y0g] at e; subst e; exact⟨hc1,hc2,hb⟩⟩,by show nvc-(i+1)<nvc-i; omega,fun i hi=>absurd hi (YE i),Zu rfl,
          ⟨Qt 0 0 0,Qt 1 0 0,Qt 2 0 0,Qp Yt,Qp Yt,Qp Yt,⟨_,by show some _=some _; rw [hinc],.pure _ Yt⟩,Yt⟩,
          ⟨Qs ⟨⟨Yt,Yt,Yt,Yt,Yt,Yt,Yt⟩,Yt⟩,Qs (ZK p fl _),⟨by decide,_,rfl,Xu.single ⟨.pure _ Yt,.pure _ (Zl l),.pure _ Yt,.pure _ (Z1B rs),.own (ρ:=mv 4 14) 4 (by decide),.pure _ Yt,Yt⟩ rfl⟩,⟨by decide,_,rfl,?_⟩,Yt⟩⟩
         show Xu _ _ ⟨2,nv.map raC ++ [raC c]⟩ ⟨2,(nv ++ [c]).map raC⟩;rw [Y0r];exact .same _ (by rw [<- Y19,<- Y0r]; exact Z1h _)
       . refine go ?_
         exact⟨(i+1,t+1+1,nv),fun i=>i,⟨by show i+1<=nvc; omega,by show t+1+1<=30+2*(i+1); omega,by show nv.length<=i+1; omega,hno⟩,by show nvc-(i+1)<nvc-i; omega,fun i hi=>rfl,Zk,
          ⟨Qt 0 0 0,Qt 1 0 0,Qt 2 0 0,Qp Yt,Qp Yt,Qp Yt,⟨_,by show some _=some _; rw [hinc],.pure _ Yt⟩,Yt⟩,
          ⟨Qs ⟨⟨Yt,Yt,Yt,Yt,Yt,Yt,Yt⟩,Yt⟩,Qs (ZK p fl _),⟨by decide,_,rfl,Xu.single ⟨.pure _ Yt,.pure _ (Zl l),.pure _ Yt,.pure _ (Z1B rs),.own (ρ:=fun i=>i) 4 (by decide),.pure _ Yt,Yt⟩ rfl⟩,Qs (Z1h _),Yt⟩⟩
     . have hil : i = nvc := by have := Yw hb; omega
       clear hb hinc;rw [hil] at hnl;have ht40:t<=40:=by omega
       clear hi hil ht;refine gd 23 ⟨?_⟩;refine Zb (Zs (ob:=2) (id:=4) (i0:=0) (j0:=4) rfl rfl (by decide) (Z1h nv) (Y0 rfl) (Y0 rfl) rfl) ?_;refine Zb (ZP (id:=2) (i0:=0) (j0:=5) rfl (Y0 rfl) (Y0 rfl) rfl 2 (by decide) (by decide)) ?_;refine go ?_;refine ZA hC (fun (z:Nat×Nat×List Cu)=>z.1<=glc/\z.2.1<=40+2*z.1/\z.2.2.length=z.1/\∀ c∈z.2.2,InM (mkN n) c/\emC c=false) (fun z=>glc-z.1) 6 (fun z => [(2,.ptr 0 0 0),(3,.ptr 1 0 0),(4,.ptr 2 0 0),(5,.val (.int .u8 (mkN n:Nat))),(18,.val (.int .i64 (glc:Int))),(23,Yv z.1)])
        (fun z => [(0,⟨6,[zpv [.int .i64 0,.slice none 0 0,.int .u64 0,.slice none 0 0,.slice none 0 0,.slice none 0 0]]⟩),(1,X4x p fl z.2.1),(2,⟨6,[[.val (.int .i64 (n:Int)),.vec (l.map prC) fk,.val (.int .u64 (s:Int)),.vec (rs.map ruR) false,.vec (nv.map raC) false,.own 5]]⟩),(5,⟨2,z.2.2.map raC⟩)]) (Y0l _) (0,t,[]) ⟨Y0l _,by show t<=40+2*0; omega,rfl,fun r hr=>by cases hr⟩ (fun i=>i) (fun _ _=>rfl) Zk
        ⟨Qt 0 0 0,Qt 1 0 0,Qt 2 0 0,Qp Yt,Qp Yt,Qp Yt,Yt⟩
        ⟨Qs ⟨⟨Yt,Yt,Yt,Yt,Yt,Yt,Yt⟩,Yt⟩,Qs (ZK p fl _),⟨by decide,_,rfl,Xu.single ⟨.pure _ Yt,.pure _ (Zl l),.pure _ Yt,.pure _ (Z1B rs),.pure _ (Z1h nv),.own (ρ:=fun i=>i) 5 (by decide),Yt⟩ rfl⟩,Qs Yt,Yt⟩ ?_
       clear ht40;rintro⟨i,t,gs⟩ ⟨hi,ht,hgn,hgo⟩;dsimp only at hi ht hgn hgo;have hinc:IntKind.i64.wrap ((i:Int)+1)=((i+1:Nat):Int):=Y0v _ ⟨by omega,by omega⟩;refine gd 168 ⟨?_⟩;refine Zv rfl rfl rfl (fun hb=>?_) (fun hb=>?_)
       . have hil : i < glc := by have := Y0u hb; omega
         clear hb;refine gd 172 ⟨?_⟩;refine ZU (ZW p hp fl t (by omega)) rfl rfl rfl rfl (ZK p fl _) Yt ?_;rintro r b' - - ⟨w1,hw1,rfl,rfl⟩;refine gd 174 ⟨?_⟩;refine ZU (ZW p hp fl (t+1) (by omega)) rfl rfl rfl rfl (ZK p fl _) Yt ?_;rintro r b' - - ⟨w2,hw2,rfl,rfl⟩;refine gd 180 ⟨?_⟩;refine Z3R rfl rfl (.inl rfl) (Z5I (w1:Int) (w2:Int) (mkN n) (by omega)) ⟨Yt,Yt,Yt,Yt⟩ ?_;rintro r ⟨c,hc1,hc2,rfl⟩;refine gd 182 ⟨?_⟩
         refine Qr (Zt (k:=5) (m := [raC c]) (fl:=true) rfl rfl rfl (fun q hq=>by rw [Y0g] at hq; subst hq; rfl) rfl (by
          show ((gs.map raC).length+1)*16<=_
          rw [Y0f];omega)) ?_
         refine go ?_
         refine⟨(i+1,t+1+1,gs ++ [c]),mv 5 13,⟨by show i+1<=glc; omega,by show t+1+1<=40+2*(i+1); omega,by rw [Y0e,hgn]; rfl,fun c' hc'=>(Y0h.1 hc').elim (hgo c') fun e=>by rw [Y0g] at e; subst e; exact⟨hc1,hc2⟩⟩,by show glc-(i+1)<glc-i; omega,fun i hi=>absurd hi (YE i),Zu rfl,
          ⟨Qt 0 0 0,Qt 1 0 0,Qt 2 0 0,Qp Yt,Qp Yt,⟨_,by show some _=some _; rw [hinc],.pure _ Yt⟩,Yt⟩,
          ⟨Qs ⟨⟨Yt,Yt,Yt,Yt,Yt,Yt,Yt⟩,Yt⟩,Qs (ZK p fl _),⟨by decide,_,rfl,Xu.single ⟨.pure _ Yt,.pure _ (Zl l),.pure _ Yt,.pure _ (Z1B rs),.pure _ (Z1h nv),.own (ρ:=mv 5 13) 5 (by decide),Yt⟩ rfl⟩,⟨by decide,_,rfl,?_⟩,Yt⟩⟩
         show Xu _ _ ⟨2,gs.map raC ++ [raC c]⟩ ⟨2,(gs ++ [c]).map raC⟩;rw [Y0r];exact .same _ (by rw [<- Y19,<- Y0r]; exact Z1h _)
       . have hil : i = glc := by have := Yw hb; omega
         clear hb hinc;rw [hil] at hgn;refine gd 184 ⟨?_⟩;refine Zb (Zs (ob:=2) (id:=5) (i0:=0) (j0:=5) rfl rfl (by decide) (Z1h gs) (Y0 rfl) (Y0 rfl) rfl) ?_;refine go ?_;have hlo1:XA (l.map prC)=l.map prC:=Z5p (fun _=>rfl) l;have hlo2:XA (rs.map ruR)=rs.map ruR:=Z5p (fun _=>rfl) rs;have hlo3:∀ x:List Cu,XA (x.map raC)=x.map raC:=Z5p (fun _=>rfl);have hcI:∀ c:Cu,InM (mkN n) c->InM 62 c:=fun c hc=>⟨Z4u hc.1 hm62,Z4u hc.2 hm62⟩
         have hOk:X6f ⟨n,l,s,rs,nv,gs⟩:=by
          refine⟨⟨⟨by show 1<=n; omega,by show n<=63; omega⟩,hgl,fun p hp=>?_,hs1,by show rs.length<=64; omega,hro,by show nv.length<=64; omega,fun c hc=>⟨(hno c hc).1.inC (hno c hc).2.1,hcI c (hno c hc).1⟩,by show gs.length<=64; omega,fun c hc=>⟨(hgo c hc).1.inC (hgo c hc).2,hcI c (hgo c hc).1⟩,?_⟩,hn2,by show rs.length<=6; omega,by show nv.length<=3; omega,by show 1<=gs.length/\gs.length<=3; omega⟩
          . have := hlm p hp;show p.1<=n/\p.2<=n/\p.1<=5/\p.2<=5;omega
          . show soC nv (clo l s) = false;refine Yy.2 fun h=>?_;obtain⟨c,hc,h⟩:=Y01.1 h;rw [(hno c hc).2.2] at h; cases h
         have he:(PV.agg [.val (.int .i64 (n:Int)),.vec (l.map prC) fk,.val (.int .u64 (s:Int)),.vec (rs.map ruR) false,.vec (nv.map raC) false,.vec (gs.map raC) false]).low=.agg (pbR ⟨n,l,s,rs,nv,gs⟩):=by
          show PV.agg [.val (.int .i64 (n:Int)),.vec (XA (l.map prC)) false,.val (.int .u64 (s:Int)),.vec (XA (rs.map ruR)) false,.vec (XA (nv.map raC)) false,.vec (XA (gs.map raC)) false]=_;rw [hlo1,hlo2,hlo3,hlo3]; rfl
         refine Z1J (r:=.agg [.val (.int .i64 (n:Int)),.vec (l.map prC) fk,.val (.int .u64 (s:Int)),.vec (rs.map ruR) false,.vec (nv.map raC) false,.vec (gs.map raC) false]) rfl ?_ ⟨_,hOk,he⟩;rw [he];exact Z21 _
theorem Z6q (l:List RU):(l.map ruR).length=l.length:=by simp
theorem Z61:∀ {l m:List Pr},Xw l->Xw m->l.Perm m->l=m
 | [],m,_,_,h=>(List.Perm.nil_eq h)
 | a :: l,[],_,_,h=>by have:=h.length_eq; simp at this
 | a :: l, b :: m, h1, h2, h => by
   have h1':=Y15.1 h1;have h2':=Y15.1 h2;have hab:a=b:=by
    rcases YB.1 (h.mem_iff.1 (Y0t (a:=a) (l:=l))) with e|ha
    . exact e
    rcases YB.1 (h.mem_iff.2 (Y0t (a:=b) (l:=m))) with e|hb
    . exact e.symm
    have x1:=h1'.1 b hb;have x2:=h2'.1 a ha;omega
   subst hab;rw [Z61 h1'.2 h2'.2 (List.Perm.cons_inv h)]
theorem Xw.tk {l:List Pr} (h:Xw l) (i:Nat):Xw (l.take i):=List.Pairwise.sublist (List.take_sublist i l) h
theorem Xw.nd {l:List Pr} (h:Xw l):l.Nodup:=List.Pairwise.imp (fun {a b} h e=>by subst e;omega) h
theorem Zd3 {l:List Pr} (h:X3S l):l.length<=4096:=by
 have hn:(l.map fun p=>p.1*64+p.2).Nodup:=by
  rw [Y16,Y1v];refine Y1z (fun {a b} ha hb hab=>?_) h.asc;have h1:=h.small a ha;have h2:=h.small b hb;show a.1*64+a.2≠b.1*64+b.2;omega
 have:=Z2t 4096 _ hn fun x hx=>by
  obtain⟨p,hp,rfl⟩:=Y0i.1 hx;have:=h.small p hp;show p.1*64+p.2<4096;omega
 rwa [Y0f] at this
theorem ZS {α:Type} {l:List α} {i:Nat} (hi:i<l.length):l.take (i+1)=l.take i ++ [l[i]]:=by rw [YZ,Y0c hi]; rfl
theorem Za6 {t:PB} (h:Xt t):X7 Tryz.prog 21 [.agg (pbR t)] fun r=>∃ S,r=.tup [.agg (pbP t S),.val (.bool true)]:=by
 have hpr:=Z21 t;have hgl:=h.good;have hll:=Zd3 hgl;have hnl:=Z2m t.l;have hst:t.st<18446744073709551616:=by
  have h1:t.st<=mkN t.n:=by rw [<- h.st]; exact YU
  have:=Z5m h.n.2;omega
 have hpl:∀ D,Xs D (t.l.map prC):=fun D=>Ze (fun _ h=>h.elim) _ (Zl t.l);have hpc:∀ D,X1I D (pbR t):=fun D=>ZC (fun _ h=>h.elim) _ hpr;have hhp:∀ D l S,(X15 l S).inn D:=fun D l S=>PV.inn_mono (fun _ h=>h.elim) _ (Zq l S);have hcu:∀ (l:List Cu) D,Xs D (l.map cuC):=fun l D=>Ze (fun _ h=>h.elim) _ (Z1l l);refine Yp ok21 fun C hC=>?_;refine Zo ?_;refine Za ?_;refine Z5 rfl rfl rfl ?_;refine gd 13 ⟨?_⟩;refine Z3R rfl rfl (.inl rfl) Z44 Yt ?_;rintro r ⟨S0,rfl⟩;refine gd 16 ⟨?_⟩;refine Qd (Z5G t.st hst) ⟨Yt,Yt⟩ ?_;refine gd 19 ⟨?_⟩;refine Qd (Z60 t.nv false h.nv64 (by have:=h.nl;omega)) ⟨Z1h _,Yt⟩ ?_;refine gd 22 ⟨?_⟩;refine Qd (Z60 t.gl false h.gl64 (by have:=h.gk;omega)) ⟨Z1h _,Yt⟩ ?_;refine go ?_;refine Zy hC (fun (z:Nat×List Nat)=>z.1<=t.l.length) (fun z=>t.l.length-z.1) 16 (fun z => [(1,.cp (pbR t)),(2,.ptr 0 0 0),(4,.ptr 14 0 0),(25,.vec (t.l.map prC) false),(26,.val (.int .i64 t.l.length)),(27,Yv z.1)])
  (fun z => [(0,⟨6,[zpv [.int .i64 0,.pointer none,.slice none 0 0,.slice none 0 0,.slice none 0 0,.slice none 0 0]]⟩),(14,⟨6,[[.val (.int .i64 (t.n:Int)),X15 (t.l.take z.1) z.2,.vec (X5 (X9 t.st)) false,.vec [] true,.vec (t.nv.map cuC) false,.vec (t.gl.map cuC) false]]⟩)]) (Y0l _) (0,S0) (Y0l _)
  ⟨⟨rfl,hpc _⟩,⟨rfl,show (0:Nat)<16 by decide⟩,⟨rfl,show (14:Nat)<16 by decide⟩,⟨rfl,hpl _⟩,⟨by rw [<- hnl]; rfl,Yt⟩,⟨rfl,Yt⟩,Yt⟩
  ⟨⟨by decide,rfl,⟨⟨Yt,Yt,Yt,Yt,Yt,Yt,Yt⟩,Yt⟩⟩,⟨by decide,rfl,⟨⟨Yt,hhp _ _ _,Zp _ _,Yt,hcu _ _,hcu _ _,Yt⟩,Yt⟩⟩,Yt⟩ ?_
 rintro⟨i,S⟩ hi;dsimp only at hi;have hinc:IntKind.i64.wrap ((i:Int)+1)=((i+1:Nat):Int):=Y0v _ ⟨by omega,by omega⟩;refine gd 28 ⟨?_⟩;refine Zv rfl rfl rfl (fun hb=>?_) (fun hb=>?_)
 . have hil : i < t.l.length := by have := Y0u hb; omega
   have htk:=ZS hil;have hro:=hgl.role _ (Y0j hil);have hsub:∀ p∈t.l.take i ++ [t.l[i]],p∈t.l:=fun p hp=>by rw [<- htk] at hp; exact YM hp
   have hno:t.l[i] ∉ t.l.take i:=fun h=>by
    have hnd:=Xw.nd (Xw.tk hgl.asc (i+1));rw [htk,Y2G] at hnd;exact hnd.2.2 _ h _ (Y0g.2 rfl) rfl
   clear hb;refine go ?_;refine Qo (Zn (xs:=t.l) (g:=prC) rfl rfl i rfl hil rfl) ?_;generalize t.l[i]=p at htk hro hsub hno ⊢;have hls:=ZfX (t.l.take i) S p.1 p.2 (by omega) (by omega) hro.2.2.2.2 (fun q hq=>hgl.small q (YM hq)) (Xw.nd (Xw.tk hgl.asc i)) hno (hgl.acy.sub hsub) (by rw [Y0o];omega);refine gd 38 ⟨?_⟩;refine ZD rfl rfl hls ⟨Zq _ _,Yt,Yt,Yt⟩ rfl ?_;rintro r ⟨l',S',hpm,hst,rfl⟩;have hle:l'=t.l.take (i+1):=by
    have hx1:l'.Perm (t.l.take (i+1)):=by rw [htk]; exact hpm
    exact Z61 hst (Xw.tk hgl.asc (i+1)) hx1
   subst hle;refine go ?_
   exact⟨(i+1,S'),hil,by show t.l.length-(i+1)<t.l.length-i; omega,⟨⟨rfl,hpc _⟩,⟨rfl,show (0:Nat)<16 by decide⟩,⟨rfl,show (14:Nat)<16 by decide⟩,⟨rfl,hpl _⟩,⟨rfl,Yt⟩,⟨by show some _=some _; rw [hinc],Yt⟩,Yt⟩,
    ⟨⟨by decide,rfl,⟨⟨Yt,Yt,Yt,Yt,Yt,Yt,Yt⟩,Yt⟩⟩,⟨by decide,rfl,⟨⟨Yt,hhp _ _ _,Zp _ _,Yt,hcu _ _,hcu _ _,Yt⟩,Yt⟩⟩,Yt⟩⟩
 . have hil : i = t.l.length := by have := Yw hb; omega
   subst hil;clear hb hinc hi;rw [Y0q];refine gd 50 ⟨?_⟩;refine Zb (ZP (id:=14) (i0:=0) (j0:=3) rfl (Y0 rfl) (Y0 rfl) rfl 5 (by decide) (by decide)) ?_;refine go ?_;have hnr:=Z6q t.rs;have hrl:=h.rl;refine ZA hC (fun (i:Nat)=>i<=t.rs.length) (fun i=>t.rs.length-i) 17 (fun i => [(2,.ptr 0 0 0),(4,.ptr 14 0 0),(48,.vec (t.rs.map ruR) false),(49,.val (.int .i64 (t.rs.length:Int))),(50,Yv i)])
    (fun i => [(0,⟨6,[zpv [.int .i64 0,.pointer none,.slice none 0 0,.slice none 0 0,.slice none 0 0,.slice none 0 0]]⟩),(14,⟨6,[[.val (.int .i64 (t.n:Int)),X15 t.l S,.vec (X5 (X9 t.st)) false,.own 16,.vec (t.nv.map cuC) false,.vec (t.gl.map cuC) false]]⟩),(16,⟨5,(t.rs.take i).map ruP⟩)]) (Y0l _) 0 (Y0l _) (fun i=>i) (fun _ _=>rfl) Zk
    ⟨Qt 0 0 0,Qt 14 0 0,Qp (Z1B _),⟨_,by rw [<- hnr]; rfl,.pure _ Yt⟩,Qp Yt,Yt⟩
    ⟨Qs ⟨⟨Yt,Yt,Yt,Yt,Yt,Yt,Yt⟩,Yt⟩,⟨by decide,_,rfl,Xu.single ⟨.pure _ Yt,.pure _ (Zq _ _),.pure _ (Z7 _),.own (ρ:=fun i=>i) 16 (by decide),.pure _ (Z1l _),.pure _ (Z1l _),Yt⟩ rfl⟩,Qs Yt,Yt⟩ ?_
   intro i hi;have hinc:IntKind.i64.wrap ((i:Int)+1)=((i+1:Nat):Int):=Y0v _ ⟨by omega,by omega⟩;refine gd 51 ⟨?_⟩;by_cases hil:i<t.rs.length
   . have htk := ZS hil;have hcu64:=(h.rs _ (Y0j hil)).cu.lt h.n.2;refine Qo (Qy rfl (Y1V.2 hil)) ?_;refine go ?_;refine Qo (Zn (xs:=t.rs) (g:=ruR) rfl rfl i rfl hil rfl) ?_;generalize t.rs[i]=x at htk hcu64 ⊢;refine gd 57 ⟨?_⟩;refine Zd rfl rfl rfl ?_;refine gd 60 ⟨?_⟩;refine Qd (Z77 x.cu hcu64) ⟨Z2x _,Yt⟩ ?_;refine gd 67 ⟨?_⟩
     refine Qr (Zt (k:=16) (m := [ruP x]) (fl:=true) rfl rfl rfl (fun q hq=>by rw [Y0g] at hq; subst hq; rfl) rfl (by
      show (((t.rs.take i).map ruP).length+1)*72<=_
      rw [Y0f,Y0o];omega)) ?_
     refine go ?_
     refine⟨i+1,mv 16 31,hil,by show t.rs.length-(i+1)<t.rs.length-i; omega,fun i hi=>absurd hi (YE i),Zu rfl,
      ⟨Qt 0 0 0,Qt 14 0 0,Qp (Z1B _),Qp Yt,⟨_,by show some _=some _; rw [hinc],.pure _ Yt⟩,Yt⟩,
      ⟨Qs ⟨⟨Yt,Yt,Yt,Yt,Yt,Yt,Yt⟩,Yt⟩,⟨by decide,_,rfl,Xu.single ⟨.pure _ Yt,.pure _ (Zq _ _),.pure _ (Z7 _),.own (ρ:=mv 16 31) 16 (by decide),.pure _ (Z1l _),.pure _ (Z1l _),Yt⟩ rfl⟩,⟨by decide,_,rfl,?_⟩,Yt⟩⟩
     show Xu _ _ ⟨5,(t.rs.take i).map ruP ++ [ruP x]⟩ ⟨5,(t.rs.take (i+1)).map ruP⟩;rw [htk,Y0r];exact .same _ (by rw [<- Y19,<- Y0r]; exact ZE _)
   . have hil : i = t.rs.length := by omega
     subst hil;rw [Y0q];refine Zb (Zs (ob:=14) (id:=16) (i0:=0) (j0:=3) rfl rfl (by decide) (ZE t.rs) (Y0 rfl) (Y0 rfl) rfl) ?_;refine Qo (Qz rfl (Y4a _)) ?_
     repeat' (first|refine Z3j [] [(0,16)] [63,63,63,63,47,63] (by kernel_rfl) ?_|(first|refine st ?_|(apply B<;>intro hb<;>try cases hb)))
     exact Z8 rfl ⟨ZH t S,Yt,Yt⟩ ⟨S,rfl⟩
theorem Ze9 (p:List Nat) (fl:Bool) (hp:X4r p):X7 Tryz.prog 7 [.vec (bys p) fl] fun r=>∃ t S,X6f t/\r=.tup [.agg (pbP t S),.agg (pbR t),.val (.bool true)]:=by
 refine Yp ok7 fun C hC=>?_;refine gd 9 ⟨?_⟩;refine ZD rfl rfl (ZbK p fl hp) ⟨Zg p,Yt⟩ rfl ?_;rintro r ⟨t,ht,rfl⟩;have hpr:=Z21 t;refine gd 12 ⟨?_⟩;refine ZD rfl rfl (Za6 ht.ok) ⟨hpr,Yt⟩ rfl ?_;rintro r ⟨S,rfl⟩;have hpp:=ZH t S
 repeat' (first|refine Z3j [] [(0,8)] [63,63,63,55,63,63] (by kernel_rfl) ?_|(first|refine st ?_|(apply B<;>intro hb<;>try cases hb)))
 exact Z8 rfl ⟨hpp,hpr,Yt,Yt⟩ ⟨t,S,ht,rfl⟩
theorem Z99 {α:Type} (p:α->Bool) (xs:List α):(!xs.any fun x => !p x)=xs.all p:=by
 induction xs with
 | nil=>rfl
 | cons x xs ih=>rw [Y3h,List.all_cons,Bool.not_or,ih,Bool.not_not]
theorem Z4Q {n:Nat} {e:Env} {h:X1} {a:Operand} {l:List PV} (ha:ev e a=some (.agg l)) (hl:0<l.length):Xf (.box a) e h n=some (.cp l,h):=by
 simp only [Xf,ha];rw [Y5 (by show (true&&decide (0<l.length))=true; rw [Y8 hl]; rfl)]
 rfl
theorem Z47 {α:Type} (xs:List α) (enc:α->List PV) (fl:Bool) (g:Nat) (caps:List PV) (p:α->Bool) (hl:∀ x,(enc x).length=5) (hp:∀ x,X6 (enc x)) (hc:X6 caps) (hg:∀ x∈xs,X7 Tryz.prog g (.agg (enc x) :: caps) (· = .val (.bool (p x)))) :
 X7 Tryz.prog 152 [.vec (xs.map enc) fl,.fn g caps] (· = .val (.int .i64 (X2A p xs))):=by
 refine Yp ok152 fun C hC=>?_;refine Z3H (k:=0) rfl fun hmax=>?_;have hnl:(xs.map enc).length=xs.length:=by simp
 have hlm:xs.length<=Xd:=by simpa using hmax
 refine go ?_;refine Z3n (fun i=>i<=xs.length/\(xs.take i).any p=false) (fun i=>xs.length-i) (fun i => [(0,.vec (xs.map enc) fl),(1,.fn g caps),(7,.val (.int .i64 (xs.length:Int))),(8,Yv i)]) 0 ⟨Y0l _,rfl⟩ ⟨rfl,rfl,by rw [<- hnl]; rfl,rfl,Yt⟩ ?_;rintro i ⟨hi,hno⟩;have hinc:IntKind.i64.wrap ((i:Int)+1)=((i+1:Nat):Int):=Y0v _ ⟨by omega,by simp only [Xd] at hlm; omega⟩;(refine go ?_;repeat' (apply B<;>intro hb<;>try cases hb))
 . have hil : i < xs.length := by simpa using hb
   refine Qo (Zn (xs:=xs) rfl rfl i rfl hil (hl _)) ?_;refine Qo (Z4r rfl (hl _)) ?_;refine Qe (hg _ (Y0j hil)) ⟨hp _,hc⟩ ?_;refine Z1w ?_;refine Z4F rfl (fun hx=>?_) (fun hx=>?_)
   . refine go ?_;exact Z8 rfl Yt (by rw [Z4L hil hno hx])
   . (refine go ?_;repeat' (apply B<;>intro hb<;>try cases hb));exact⟨i+1,⟨by omega,Z3s hil hno hx⟩,by omega,rfl,rfl,⟨rfl,rfl,rfl,by show some _=some _; rw [hinc],Yt⟩⟩
 . have hil : i = xs.length := by simp at hb; omega
   subst hil;rw [Y0q] at hno;exact Z8 rfl Yt (by rw [Z2i hno]; rfl)
theorem Z5q {α:Type} (xs:List α) (enc:α->List PV) (fl:Bool) (g:Nat) (caps:List PV) (p:α->Bool) (hl:∀ x,(enc x).length=5) (hp:∀ x,X6 (enc x)) (hc:X6 caps) (hg:∀ x∈xs,X7 Tryz.prog g (.agg (enc x) :: caps) (· = .val (.bool (p x)))) :
 X7 Tryz.prog 140 [.vec (xs.map enc) fl,.fn g caps] (· = .val (.bool (xs.any p))):=by
 refine Yp ok140 fun C hC=>?_;refine go ?_;refine Qe (Z47 xs enc fl g caps p hl hp hc hg) ⟨Zc hp xs,hc,Yt⟩ ?_;refine Qo (Z6 rfl (Z5d (p:=p) (xs:=xs))) ?_;(refine go ?_;repeat' (apply B<;>intro hb<;>try cases hb))
 all_goals exact Z8 rfl Yt (by rw [hb])
theorem Z7e {α:Type} (xs:List α) (enc:α->List PV) (fl:Bool) (g:Nat) (caps:List PV) (p:α->Bool) (hl:∀ x,(enc x).length=2) (hp:∀ x,X6 (enc x)) (hc:X6 caps) (hg:∀ x∈xs,X7 Tryz.prog g (.agg (enc x) :: caps) (· = .val (.bool (p x)))) :
 X7 Tryz.prog 198 [.vec (xs.map enc) fl,.fn g caps] (· = .val (.int .i64 (X2A p xs))):=by
 refine Yp ok198 fun C hC=>?_;refine Z3H (k:=0) rfl fun hmax=>?_;have hnl:(xs.map enc).length=xs.length:=by simp
 have hlm:xs.length<=Xd:=by simpa using hmax
 refine go ?_;refine Z3n (fun i=>i<=xs.length/\(xs.take i).any p=false) (fun i=>xs.length-i) (fun i => [(0,.vec (xs.map enc) fl),(1,.fn g caps),(7,.val (.int .i64 (xs.length:Int))),(8,Yv i)]) 0 ⟨Y0l _,rfl⟩ ⟨rfl,rfl,by rw [<- hnl]; rfl,rfl,Yt⟩ ?_;rintro i ⟨hi,hno⟩;have hinc:IntKind.i64.wrap ((i:Int)+1)=((i+1:Nat):Int):=Y0v _ ⟨by omega,by simp only [Xd] at hlm; omega⟩;(refine go ?_;repeat' (apply B<;>intro hb<;>try cases hb))
 . have hil : i < xs.length := by simpa using hb
   refine Qo (Zn (xs:=xs) rfl rfl i rfl hil (hl _)) ?_;refine Qo (Z4r rfl (hl _)) ?_;refine Qe (hg _ (Y0j hil)) ⟨hp _,hc⟩ ?_;refine Z1w ?_;refine Z4F rfl (fun hx=>?_) (fun hx=>?_)
   . refine go ?_;exact Z8 rfl Yt (by rw [Z4L hil hno hx])
   . (refine go ?_;repeat' (apply B<;>intro hb<;>try cases hb));exact⟨i+1,⟨by omega,Z3s hil hno hx⟩,by omega,rfl,rfl,⟨rfl,rfl,rfl,by show some _=some _; rw [hinc],Yt⟩⟩
 . have hil : i = xs.length := by simp at hb; omega
   subst hil;rw [Y0q] at hno;exact Z8 rfl Yt (by rw [Z2i hno]; rfl)
theorem Z5r {α:Type} (xs:List α) (enc:α->List PV) (fl:Bool) (g:Nat) (caps:List PV) (p:α->Bool) (hl:∀ x,(enc x).length=2) (hp:∀ x,X6 (enc x)) (hc:X6 caps) (hg:∀ x∈xs,X7 Tryz.prog g (.agg (enc x) :: caps) (· = .val (.bool (p x)))) :
 X7 Tryz.prog 175 [.vec (xs.map enc) fl,.fn g caps] (· = .val (.bool (xs.any p))):=by
 refine Yp ok175 fun C hC=>?_;refine go ?_;refine Qe (Z7e xs enc fl g caps p hl hp hc hg) ⟨Zc hp xs,hc,Yt⟩ ?_;refine Qo (Z6 rfl (Z5d (p:=p) (xs:=xs))) ?_;(refine go ?_;repeat' (apply B<;>intro hb<;>try cases hb))
 all_goals exact Z8 rfl Yt (by rw [hb])
theorem Zea {α:Type} (enc:α->List PV) (g:Nat) (caps:List PV) (p:α->Bool) (hl:∀ x,(enc x).length=5) (hp:∀ x,X6 (enc x)) (hc:X6 caps) (x:α) (hg:X7 Tryz.prog g (.agg (enc x) :: caps) (· = .val (.bool (p x)))) :
 X7 Tryz.prog 141 [.agg (enc x),.cp [.fn g caps]] (· = .val (.bool (!p x))):=by
 refine Yp ok141 fun C hC=>?_;refine Zo ?_;refine Za ?_;refine Z5 (Z4Q rfl (by rw [hl]; decide)) rfl rfl ?_;refine gd 5 ⟨?_⟩;refine Qo (Z4r rfl (hl _)) ?_;refine Qe hg ⟨hp _,hc⟩ ?_;generalize p x=b;cases b
 all_goals
  refine go ?_;exact Z8 rfl Yt rfl
theorem Za7 {α:Type} (xs:List α) (enc:α->List PV) (fl:Bool) (g:Nat) (caps:List PV) (p:α->Bool) (hl:∀ x,(enc x).length=5) (hp:∀ x,X6 (enc x)) (hc:X6 caps) (hg:∀ x∈xs,X7 Tryz.prog g (.agg (enc x) :: caps) (· = .val (.bool (p x)))) :
 X7 Tryz.prog 92 [.vec (xs.map enc) fl,.fn g caps] (· = .val (.bool (xs.all p))):=by
 have hcs:X6 [PV.cp [PV.fn g caps]]:=⟨⟨hc,Yt⟩,Yt⟩
 have h1:=Z5q xs enc fl 141 [.cp [.fn g caps]] (fun x => !p x) hl hp hcs fun x hx=>Zea enc g caps p hl hp hc x (hg x hx);rw [<- Z99];refine Yp ok92 fun C hC=>?_;refine Zo ?_;refine Za ?_;refine Z5 rfl rfl rfl ?_;refine gd 7 ⟨?_⟩;refine Qe h1 ⟨Zc hp xs,hcs,Yt⟩ ?_;generalize (xs.any fun x => !p x)=b;cases b
 all_goals
  refine go ?_;exact Z8 rfl Yt rfl
theorem Zeb {α:Type} (enc:α->List PV) (g:Nat) (caps:List PV) (p:α->Bool) (hl:∀ x,(enc x).length=2) (hp:∀ x,X6 (enc x)) (hc:X6 caps) (x:α) (hg:X7 Tryz.prog g (.agg (enc x) :: caps) (· = .val (.bool (p x)))) :
 X7 Tryz.prog 176 [.agg (enc x),.cp [.fn g caps]] (· = .val (.bool (!p x))):=by
 refine Yp ok176 fun C hC=>?_;refine Zo ?_;refine Za ?_;refine Z5 (Z4Q rfl (by rw [hl]; decide)) rfl rfl ?_;refine gd 5 ⟨?_⟩;refine Qo (Z4r rfl (hl _)) ?_;refine Qe hg ⟨hp _,hc⟩ ?_;generalize p x=b;cases b
 all_goals
  refine go ?_;exact Z8 rfl Yt rfl
theorem Zg4 {α:Type} (xs:List α) (enc:α->List PV) (fl:Bool) (g:Nat) (caps:List PV) (p:α->Bool) (hl:∀ x,(enc x).length=2) (hp:∀ x,X6 (enc x)) (hc:X6 caps) (hg:∀ x∈xs,X7 Tryz.prog g (.agg (enc x) :: caps) (· = .val (.bool (p x)))) :
 X7 Tryz.prog 135 [.vec (xs.map enc) fl,.fn g caps] (· = .val (.bool (xs.all p))):=by
 have hcs:X6 [PV.cp [PV.fn g caps]]:=⟨⟨hc,Yt⟩,Yt⟩
 have h1:=Z5r xs enc fl 176 [.cp [.fn g caps]] (fun x => !p x) hl hp hcs fun x hx=>Zeb enc g caps p hl hp hc x (hg x hx);rw [<- Z99];refine Yp ok135 fun C hC=>?_;refine Zo ?_;refine Za ?_;refine Z5 rfl rfl rfl ?_;refine gd 7 ⟨?_⟩;refine Qe h1 ⟨Zc hp xs,hcs,Yt⟩ ?_;generalize (xs.any fun x => !p x)=b;cases b
 all_goals
  refine go ?_;exact Z8 rfl Yt rfl
theorem Zec {α:Type} (enc:α->List PV) (g:Nat) (caps:List PV) (p:α->Bool) (hl:∀ x,(enc x).length=2) (hp:∀ x,X6 (enc x)) (hc:X6 caps) (x:α) (hg:X7 Tryz.prog g (.agg (enc x) :: caps) (· = .val (.bool (p x)))) :
 X7 Tryz.prog 177 [.agg (enc x),.cp [.fn g caps]] (· = .val (.bool (!p x))):=by
 refine Yp ok177 fun C hC=>?_;refine Zo ?_;refine Za ?_;refine Z5 (Z4Q rfl (by rw [hl]; decide)) rfl rfl ?_;refine gd 5 ⟨?_⟩;refine Qo (Z4r rfl (hl _)) ?_;refine Qe hg ⟨hp _,hc⟩ ?_;generalize p x=b;cases b
 all_goals
  refine go ?_;exact Z8 rfl Yt rfl
theorem Zg5 {α:Type} (xs:List α) (enc:α->List PV) (fl:Bool) (g:Nat) (caps:List PV) (p:α->Bool) (hl:∀ x,(enc x).length=2) (hp:∀ x,X6 (enc x)) (hc:X6 caps) (hg:∀ x∈xs,X7 Tryz.prog g (.agg (enc x) :: caps) (· = .val (.bool (p x)))) :
 X7 Tryz.prog 138 [.vec (xs.map enc) fl,.fn g caps] (· = .val (.bool (xs.all p))):=by
 have hcs:X6 [PV.cp [PV.fn g caps]]:=⟨⟨hc,Yt⟩,Yt⟩
 have h1:=Z1s xs enc fl 177 [.cp [.fn g caps]] (fun x => !p x) hl hp hcs fun x hx=>Zec enc g caps p hl hp hc x (hg x hx);rw [<- Z99];refine Yp ok138 fun C hC=>?_;refine Zo ?_;refine Za ?_;refine Z5 rfl rfl rfl ?_;refine gd 7 ⟨?_⟩;refine Qe h1 ⟨Zc hp xs,hcs,Yt⟩ ?_;generalize (xs.any fun x => !p x)=b;cases b
 all_goals
  refine go ?_;exact Z8 rfl Yt rfl
abbrev RI:=Bool×Cu×Int×Int
def ruI (x:RI):List PV := [.val (.bool x.1),.vec (X5 (X9 x.2.1.1)) false,.vec (X5 (X9 x.2.1.2)) false,.val (.int .i64 x.2.2.1),.val (.int .i64 x.2.2.2)]
def toI (r:RU):RI:=(r.rev,r.cu,(r.tg:Int),(r.og:Int))
theorem Z9a (x:RI):X6 (ruI x):=⟨Yt,Z7 _,Z7 _,Yt,Yt,Yt⟩
theorem Z48 (l:List RI):X3 (l.map ruI):=Zc Z9a l
noncomputable def X54 (n:Int) (l:List Pr) (S:List Nat) (s0:Nat) (rs:List RI) (nv gl:List Cu):List PV := [.val (.int .i64 n),X15 l S,.vec (X5 (X9 s0)) false,.vec (rs.map ruI) false,.vec (nv.map cuC) false,.vec (gl.map cuC) false]
theorem Z7f (n:Int) (l:List Pr) (S:List Nat) (s0:Nat) (rs:List RI) (nv gl:List Cu):X6 (X54 n l S s0 rs nv gl):=⟨Yt,Zq _ _,Z7 _,Z48 _,Z1l _,Z1l _,Yt⟩
theorem Zlf (t:PB) (S:List Nat):pbP t S=X54 t.n t.l S t.st (t.rs.map toI) t.nv t.gl:=by
 unfold pbP X54;rw [Y2C]; rfl
def X3a (rs:List RI) (nv gl:List Cu):List Cu:=rs.map (·.2.1)++nv++gl
theorem Z8h (n:Int) (l:List Pr) (S:List Nat) (s0:Nat) (rs:List RI) (nv gl:List Cu) (h1:rs.length<=10000) (h2:nv.length<=10000) (h3:gl.length<=10000):X7 Tryz.prog 91 [.agg (X54 n l S s0 rs nv gl)] (· = .vec ((X3a rs nv gl).map cuC) false):=by
 have hpp:=Z7f n l S s0 rs nv gl;have hrl:(rs.map ruI).length=rs.length:=by simp
 refine Yp ok91 fun C hC=>?_;refine Zo ?_;refine Za ?_;refine Z5 rfl rfl rfl ?_
 repeat' (first|refine Zb (Zx (k:=3) rfl 2 (by decide)) ?_|(first|refine st ?_|(apply B<;>intro hb<;>try cases hb)))
 refine ZA hC (fun (i:Nat)=>i<=rs.length) (fun i=>rs.length-i) 1 (fun i => [(1,.cp (X54 n l S s0 rs nv gl)),(3,.own 0),(7,.vec (rs.map ruI) false),(8,.val (.int .i64 (rs.length:Int))),(9,Yv i)])
  (fun i => [(0,⟨2,((rs.take i).map (·.2.1)).map cuC⟩)]) (Y0l _) 0 (Y0l _) (fun i=>i) (fun _ _=>rfl) Zk
  ⟨Qp hpp,⟨_,rfl,.own 0 (by decide)⟩,Qp (Z48 _),⟨_,by rw [<- hrl]; rfl,.pure _ Yt⟩,Qp Yt,Yt⟩ ⟨Qs Yt,Yt⟩ ?_
 intro i hi;have hinc:IntKind.i64.wrap ((i:Int)+1)=((i+1:Nat):Int):=Y0v _ ⟨by omega,by omega⟩
 iterate 2 (first|refine st ?_|(apply B<;>intro hb<;>try cases hb))
 refine Zv rfl rfl rfl (fun hb=>?_) (fun hb=>?_)
 . have hil : i < rs.length := by have := Y0u hb; omega
   have htake:=ZS hil;clear hb;refine go ?_;refine Qo (Zn (xs:=rs) (g:=ruI) rfl rfl i rfl hil rfl) ?_;generalize rs[i]=x at htake ⊢;refine gd 17 ⟨?_⟩
   refine ZF (Zt (k:=0) (m := [cuC x.2.1]) (fl:=true) rfl rfl rfl (fun c hc=>by rw [Y0g] at hc; subst hc; rfl) rfl (by
    show ((((rs.take i).map (·.2.1)).map cuC).length+1)*48<=_;rw [Y0f,Y0f,Y0o]
    omega)) rfl rfl ?_
   refine go ?_
   refine⟨i+1,mv 0 2,by omega,by omega,fun i hi=>absurd hi (YE i),Zu rfl,
    ⟨Qp hpp,⟨_,rfl,.own 0 (by decide)⟩,Qp (Z48 _),Qp Yt,⟨_,by show some _=some _; rw [hinc],.pure _ Yt⟩,Yt⟩,
    ⟨⟨by decide,_,rfl,?_⟩,Yt⟩⟩
   show Xu _ _ ⟨2,((rs.take i).map (·.2.1)).map cuC ++ [cuC x.2.1]⟩ ⟨2,((rs.take (i+1)).map (·.2.1)).map cuC⟩;rw [htake,Y0r,Y0r];exact .same _ (by show X3 (((rs.take i).map (·.2.1)).map cuC ++ [x.2.1].map cuC); rw [<- Y0r]; exact Z1 _)
 . have hil : i = rs.length := by have := Yw hb; omega
   subst hil;clear hb;rw [Y0q]
   repeat' (first|refine Z3j [6] [(0,8)] [255,255,255,247,255,255,255,255] (by kernel_rfl) ?_|refine Z8E 22 ?_|(first|refine st ?_|(apply B<;>intro hb<;>try cases hb)))
   refine At.mk ?_
   refine Qr (Zt (k:=0) (m:=nv.map cuC) (fl:=false) rfl rfl rfl (fun c hc=>by obtain⟨x,_,rfl⟩:=Y0i.1 hc; rfl) rfl (by
    show (((rs.map (·.2.1)).map cuC).length+(nv.map cuC).length)*48<=_
    rw [Y0f,Y0f,Y0f];omega)) ?_
   have happ:((rs.map (·.2.1)).map cuC++nv.map cuC)++gl.map cuC=(X3a rs nv gl).map cuC:=by
    unfold X3a;rw [Y0r,Y0r]
   refine gd 25 ⟨?_⟩
   refine Zb2 (k:=4) (m:=gl.map cuC) (fl:=false) (b:=⟨2,(rs.map (·.2.1)).map cuC++nv.map cuC⟩) rfl rfl rfl (fun c hc=>by obtain⟨x,_,rfl⟩:=Y0i.1 hc; rfl) rfl (by
    show ((((rs.map (·.2.1)).map cuC)++nv.map cuC).length+(gl.map cuC).length)*48<=_
    rw [Y0e,Y0f,Y0f,Y0f,Y0f];omega) (by show X3 (((rs.map (·.2.1)).map cuC++nv.map cuC)++gl.map cuC); rw [happ]; exact Z1 _) rfl rfl ?_
   refine go ?_;refine Z8 (r:=.vec (((rs.map (·.2.1)).map cuC++nv.map cuC)++gl.map cuC) false) rfl ?_ ?_
   . rw [happ]; exact Z1 _
   . rw [happ]
theorem ZbL (m:Nat) (hm:m<18446744073709551616) (p:Pr):X7 Tryz.prog 136 [.agg (prC p),.cp [.vec (X5 (X9 m)) false]] (· = .val (.bool (m.testBit p.1&&m.testBit p.2))):=by
 refine Yp ok136 fun C hC=>?_;refine Zo ?_;refine Za ?_;refine Z5 rfl rfl rfl ?_;refine gd 7 ⟨?_⟩;refine Qe (Z1m m hm p.1) ⟨Z2 _,Yt,Yt⟩ ?_;generalize m.testBit p.1=b;cases b
 . refine go ?_;exact Z8 rfl Yt rfl
 . refine gd 12 ⟨?_⟩;refine Zr rfl ?_;refine Qe (Z1m m hm p.2) ⟨Z2 _,Yt,Yt⟩ ?_;generalize m.testBit p.2=b;cases b
   all_goals
    refine go ?_;exact Z8 rfl Yt rfl
theorem ZbM (m:Nat) (hm:m<18446744073709551616) (x:RI):X7 Tryz.prog 137 [.agg (ruI x),.cp [.vec (X5 (X9 m)) false]] (· = .val (.bool (decide (0<=x.2.2.1)&&m.testBit x.2.2.1.toNat))):=by
 refine Yp ok137 fun C hC=>?_;refine Zo ?_;refine Za ?_;refine Z5 rfl rfl rfl ?_;refine gd 7 ⟨?_⟩;refine Qe (Z1Y m hm x.2.2.1) ⟨Z2 _,Yt,Yt⟩ ?_;generalize (decide (0<=x.2.2.1)&&m.testBit x.2.2.1.toNat)=b;cases b
 all_goals
  refine go ?_;exact Z8 rfl Yt rfl
theorem ZbN (m:Nat) (hm:m<18446744073709551616) (c:Cu) (hc:Xv c):X7 Tryz.prog 139 [.agg (cuC c),.cp [.vec (X5 (X9 m)) false]] (· = .val (.bool (decide (c.1 ||| c.2 ||| m=m)))):=by
 refine Yp ok139 fun C hC=>?_;refine Zo ?_;refine Za ?_;refine Z5 rfl rfl rfl ?_;refine gd 8 ⟨?_⟩;refine Qd (Z1r c.1 c.2 hc.1 hc.2) ⟨Z2 _,Z2 _,Yt⟩ ?_;refine gd 10 ⟨?_⟩;refine Qd (Z1y (c.1 ||| c.2) m (Z1S hc.1 hc.2) hm) ⟨Z2 _,Z2 _,Yt⟩ ?_;generalize decide (c.1 ||| c.2 ||| m=m)=b;cases b
 all_goals
  refine go ?_;exact Z8 rfl Yt rfl
def knB (m:Nat) (l:List Pr) (s0:Nat) (rs:List RI) (cs:List Cu):Bool:=decide (s0 ||| m=m)&&(l.all (fun p=>m.testBit p.1&&m.testBit p.2)&&(rs.all (fun x=>decide (0<=x.2.2.1)&&m.testBit x.2.2.1.toNat)&&cs.all fun c=>decide (c.1 ||| c.2 ||| m=m)))
structure X6C (l:List Pr) (s0:Nat) (rs:List RI) (nv gl:List Cu):Prop where
 fl:l.length<=10000
 fs:s0<18446744073709551616
 fr:rs.length<=10000
 fv:nv.length<=10000
 fg:gl.length<=10000
 fc:∀ c∈X3a rs nv gl,Xv c
theorem Zed (n:Nat) (h1:1<=n) (h2:n<=63) (l:List Pr) (S:List Nat) (s0:Nat) (rs:List RI) (nv gl:List Cu) (hf:X6C l s0 rs nv gl):X7 Tryz.prog 90 [.agg (X54 (n:Int) l S s0 rs nv gl)] (· = .val (.bool (knB (mkN n) l s0 rs (X3a rs nv gl)))):=by
 have hp1:2 ^ (n+1)<=2 ^ 64:=YO (by decide) (by omega);have hp0:=Y2T (n+1);have hmk:=Z5m h2;have hinc0:IntKind.i64.wrap ((n:Int)+1)=((n+1:Nat):Int):=Y0v _ ⟨by omega,by omega⟩;have hbw:=Z1G (2 ^ (n+1)-1) (by omega) 0;rw [Z5n n h2] at hbw;have hw:=Z1y s0 (mkN n) hf.fs hmk;have hc1:X6 [PV.vec (X5 (X9 (mkN n))) false]:=⟨Z7 _,Yt⟩
 have hcc:X6 [PV.cp [PV.vec (X5 (X9 (mkN n))) false]]:=⟨hc1,Yt⟩
 have hl:=Z8e l S (by have:=hf.fl;omega);have ha1:=Zg4 l prC false 136 [.cp [.vec (X5 (X9 (mkN n))) false]] _ (fun _=>rfl) (fun x=>Z4o x) hcc fun p _=>ZbL (mkN n) hmk p;have ha2:=Za7 rs ruI false 137 [.cp [.vec (X5 (X9 (mkN n))) false]] _ (fun _=>rfl) Z9a hcc fun p _=>ZbM (mkN n) hmk p;have hcb:=Z8h (n:Int) l S s0 rs nv gl hf.fr hf.fv hf.fg;have ha3:=Zg5 (X3a rs nv gl) cuC false 139 [.cp [.vec (X5 (X9 (mkN n))) false]] _ (fun _=>rfl) Zi hcc fun p hp=>ZbN (mkN n) hmk p (hf.fc p hp);have hpp:=Z7f (n:Int) l S s0 rs nv gl;refine Yp ok90 fun C hC=>?_;refine Zo ?_;refine Za ?_;refine Z5 rfl rfl rfl ?_;refine gd 6 ⟨?_⟩;refine Zh rfl rfl rfl hinc0 ?_;refine Qe (Z5J (n+1) (by omega) (by omega)) ⟨Yt,Yt⟩ ?_;refine Qe hbw ⟨Z2 _,Yt,Yt⟩ ?_;refine gd 9 ⟨?_⟩;refine Zb (Z1o (k:=3) rfl rfl hc1) ?_;refine gd 12 ⟨?_⟩;refine Qe hw ⟨Z2 _,Z2 _,Yt⟩ ?_;unfold knB;generalize decide (s0 ||| mkN n=mkN n)=b1;cases b1
 . refine go ?_;exact Z8 rfl Yt rfl
 refine gd 16 ⟨?_⟩;refine Zr rfl ?_;refine Qe hl ⟨Zq _ _,Yt⟩ ?_;refine gd 18 ⟨?_⟩;refine Zr rfl ?_;refine Qe ha1 ⟨Zl l,hcc,Yt⟩ ?_;generalize (l.all fun p=>(mkN n).testBit p.1&&(mkN n).testBit p.2)=b2;cases b2
 . refine go ?_;exact Z8 rfl Yt rfl
 refine gd 24 ⟨?_⟩;refine Zr rfl ?_;refine Qe ha2 ⟨Z48 rs,hcc,Yt⟩ ?_;generalize (rs.all fun x=>decide (0<=x.2.2.1)&&(mkN n).testBit x.2.2.1.toNat)=b3;cases b3
 . refine go ?_;exact Z8 rfl Yt rfl
 refine gd 28 ⟨?_⟩;refine Zr rfl ?_;refine Qe hcb ⟨hpp,Yt⟩ ?_;refine gd 30 ⟨?_⟩;refine Zr rfl ?_;refine Qe ha3 ⟨Z1 _,hcc,Yt⟩ ?_;generalize ((X3a rs nv gl).all fun c=>decide (c.1 ||| c.2 ||| mkN n=mkN n))=b4;cases b4
 all_goals
  refine go ?_;exact Z8 rfl Yt rfl
def X5c (x:RI):Bool := !x.1||(decide (x.2.1.1=0)&&decide (x.2.1.2=0))
theorem ZbO (x:RI) (hc:Xv x.2.1):X7 Tryz.prog 89 [.agg (ruI x)] (· = .val (.bool (X5c x))):=by
 obtain⟨rv,c,tg,og⟩:=x;have e1:=Z3a c.1 hc.1;have e2:=Z3a c.2 hc.2;unfold X5c;refine Yp ok89 fun C hC=>?_;refine Zo ?_;refine Za ?_;refine Z5 rfl rfl rfl ?_;cases rv
 . refine go ?_;exact Z8 rfl Yt rfl
 refine gd 10 ⟨?_⟩;refine Zr rfl ?_;refine Qe e1 ⟨Z2 _,Yt⟩ ?_;dsimp only;generalize decide (c.1=0)=b1;cases b1
 . refine go ?_;exact Z8 rfl Yt rfl
 refine gd 15 ⟨?_⟩;refine Zr rfl ?_;refine Qe e2 ⟨Z2 _,Yt⟩ ?_;generalize decide (c.2=0)=b2;cases b2
 all_goals
  refine go ?_;exact Z8 rfl Yt rfl
theorem Zee (n:Int) (l:List Pr) (S:List Nat) (s0:Nat) (rs:List RI) (nv gl:List Cu) (h64:∀ c∈nv,Xv c) (s:Nat) (hs:s<18446744073709551616):X7 Tryz.prog 93 [.agg (X54 n l S s0 rs nv gl),XD s] (· = .val (.bool (!soC nv (clo l s)))):=by
 have hc:=Z2j l S s hs;have hso:=Z5D nv false (clo l s) h64 (Z5h _ _);refine Yp ok93 fun C hC=>?_;refine Zo ?_;refine Za ?_;refine Z5 rfl rfl rfl ?_;refine Z5 rfl rfl rfl ?_;refine gd 14 ⟨?_⟩;refine Z2p rfl ?_;refine Qd hc ⟨Zq _ _,Z2 _,Yt⟩ ?_;refine gd 15 ⟨?_⟩;refine Z2p rfl ?_;refine Qd hso ⟨Z1l _,Z2 _,Yt⟩ ?_;generalize soC nv (clo l s)=b;cases b
 all_goals
  refine go ?_;exact Z8 rfl Yt rfl
noncomputable def X6e (n:Int) (l:List Pr) (s0:Nat) (rs:List RI) (nv gl:List Cu):Int :=
 if n<1 \/ 63<n then 1 else
 if 64<rs.length \/ 2000<nv.length \/ 2000<gl.length then 3 else
 if knB (mkN n.toNat) l s0 rs (X3a rs nv gl)=false then 4 else
 if (X3a rs nv gl).any emC=true \/ rs.all X5c=false then 6 else
 if soC nv (clo l s0)=true then 7 else 0
theorem ZbP (n:Int) (l:List Pr) (S:List Nat) (s0:Nat) (rs:List RI) (nv gl:List Cu) (hf:X6C l s0 rs nv gl):X7 Tryz.prog 33 [.agg (X54 n l S s0 rs nv gl)] (· = .val (.int .i64 (X6e n l s0 rs nv gl))):=by
 have hpp:=Z7f n l S s0 rs nv gl;have hr1:(rs.map ruI).length=rs.length:=by simp
 have hr2:(nv.map cuC).length=nv.length:=by simp
 have hr3:(gl.map cuC).length=gl.length:=by simp
 have hcb:=Z8h n l S s0 rs nv gl hf.fr hf.fv hf.fg;have hn64:∀ c∈nv,Xv c:=fun c hc=>hf.fc c (Y0h.2 (.inl (Y0h.2 (.inr hc))));have hr64:∀ x∈rs,Xv x.2.1:=fun x hx=>hf.fc _ (Y0h.2 (.inl (Y0h.2 (.inl (Y0i.2 ⟨x,hx,rfl⟩)))));have hce:=Z1s (X3a rs nv gl) cuC false 81 [] emC (fun _=>rfl) Zi Yt fun c hc=>Z1c c (hf.fc c hc);have har:=Za7 rs ruI false 89 [] X5c (fun _=>rfl) Z9a Yt fun x hx=>ZbO x (hr64 x hx);have hgo:=Zee n l S s0 rs nv gl hn64 s0 hf.fs;unfold X6e;refine Yp ok33 fun C hC=>?_;refine Zo ?_;refine Za ?_;refine Z5 rfl rfl rfl ?_;refine gd 11 ⟨?_⟩;refine Zr rfl ?_;by_cases h1:n<1
 . rw [Y5 (.inl h1)];refine Qo (Qy rfl h1) ?_;refine go ?_;exact Z8 rfl Yt rfl
 refine Qo (Qz rfl h1) ?_;refine gd 16 ⟨?_⟩;refine Zr rfl ?_;by_cases h2:63<n
 . rw [Y5 (.inr h2)];refine Qo (Qy rfl h2) ?_;refine go ?_;exact Z8 rfl Yt rfl
 refine Qo (Qz rfl h2) ?_;rw [Y6 (show ¬ (n<1 \/ 63<n) by omega)];refine gd 22 ⟨?_⟩;by_cases h3:64<rs.length
 . rw [Y5 (.inl h3)];refine Qo (Qy rfl (by rw [hr1];omega)) ?_;refine go ?_;exact Z8 rfl Yt rfl
 refine Qo (Qz rfl (by rw [hr1];omega)) ?_;refine gd 27 ⟨?_⟩;refine Zr rfl ?_;by_cases h4:2000<nv.length
 . rw [Y5 (.inr (.inl h4))];refine Qo (Qy rfl (by rw [hr2];omega)) ?_;refine go ?_;exact Z8 rfl Yt rfl
 refine Qo (Qz rfl (by rw [hr2];omega)) ?_;refine gd 33 ⟨?_⟩;refine Zr rfl ?_;by_cases h5:2000<gl.length
 . rw [Y5 (.inr (.inr h5))];refine Qo (Qy rfl (by rw [hr3];omega)) ?_;refine go ?_;exact Z8 rfl Yt rfl
 refine Qo (Qz rfl (by rw [hr3];omega)) ?_;rw [Y6 (show ¬ (64<rs.length \/ 2000<nv.length \/ 2000<gl.length) by omega)];obtain⟨k,rfl⟩:∃ k:Nat,n=(k:Int):=⟨n.toNat,by omega⟩
 have hkn:=Zed k (by omega) (by omega) l S s0 rs nv gl hf;rw [Y11];refine gd 37 ⟨?_⟩;refine Qe hkn ⟨hpp,Yt⟩ ?_;generalize knB (mkN k) l s0 rs (X3a rs nv gl)=b1;cases b1
 . rw [Y5 rfl];refine go ?_;exact Z8 rfl Yt rfl
 rw [Y6 (by decide)];refine gd 41 ⟨?_⟩;refine Qe hcb ⟨hpp,Yt⟩ ?_;refine Qe hce ⟨Z1 _,Yt,Yt⟩ ?_;generalize (X3a rs nv gl).any emC=b2;cases b2
 case true =>
  rw [Y5 (.inl rfl)];refine go ?_;exact Z8 rfl Yt rfl
 refine gd 47 ⟨?_⟩;refine Zr rfl ?_;refine Qe har ⟨Z48 rs,Yt,Yt⟩ ?_;generalize rs.all X5c=b3;cases b3
 . rw [Y5 (.inr rfl)];refine go ?_;exact Z8 rfl Yt rfl
 rw [Y6 (by simp)];refine gd 54 ⟨?_⟩;refine Qe hgo ⟨hpp,Z2 _,Yt⟩ ?_;generalize soC nv (clo l s0)=b4;cases b4
 . rw [Y6 (by decide)];refine go ?_;exact Z8 rfl Yt rfl
 . rw [Y5 rfl];refine go ?_;exact Z8 rfl Yt rfl
theorem Zjv {t:PB} (h:Xt t):X6C t.l t.st (t.rs.map toI) t.nv t.gl:=by
 have h1:=h.rl;have h2:=h.nl;have h3:=h.gk;refine⟨Y03 (Zd3 h.good) (by decide),?_,by rw [Y0f]; omega,by omega,by omega,fun c hc=>?_⟩
 . have h1 : t.st <= mkN t.n := by rw [<- h.st]; exact YU
   have:=Z5m h.n.2;omega
 . unfold X3a at hc;rw [Y0h,Y0h,Y2C,Y0i] at hc;rcases hc with (⟨x,hx,rfl⟩|hc)|hc
   . exact (h.rs x hx).cu.lt h.n.2
   . exact h.nv64 c hc
   . exact h.gl64 c hc
theorem Zky {n:Nat} {c:Cu} (h:InC n c):c.1 ||| c.2 ||| mkN n=mkN n:=by rw [Y3s,h.n,h.y]
theorem Zd4 {t:PB} (h:Xt t):∀ c∈X3a (t.rs.map toI) t.nv t.gl,InC t.n c:=fun c hc=>by
 unfold X3a at hc;rw [Y0h,Y0h,Y2C,Y0i] at hc;rcases hc with (⟨x,hx,rfl⟩|hc)|hc
 . exact (h.rs x hx).cu
 . exact (h.nv c hc).1
 . exact (h.gl c hc).1
theorem Zkz {t:PB} (h:Xt t):X6e t.n t.l t.st (t.rs.map toI) t.nv t.gl=0:=by
 have hn:=h.n;have h1:=h.rl;have h2:=h.nl;have h3:=h.gk;unfold X6e;rw [Y6 (by omega),Y6 (by rw [Y0f];omega),Y11];have hk:knB (mkN t.n) t.l t.st (t.rs.map toI) (X3a (t.rs.map toI) t.nv t.gl)=true:=by
  unfold knB;rw [Y8 h.st,Y1i,Y0k,Y0k,YL,YL,YL];refine⟨fun p hp=>?_,fun x hx=>?_,fun c hc=>Y8 (Zky (Zd4 h c hc))⟩
  . have ha := h.lk p hp;have hb:=h.good.role p hp;rw [Z29,Z29,Y8 (show 1<=p.1 by omega),Y8 ha.1,Y8 (show 1<=p.2 by omega),Y8 ha.2.1]; rfl
  . obtain ⟨r, hr, rfl⟩ := Y0i.1 hx;have ht:=(h.rs r hr).tg;show (decide (0<=(r.tg:Int))&&(mkN t.n).testBit (r.tg:Int).toNat)=true;rw [Y11,Y8 (Y1X _),Z29,Y8 ht.1,Y8 ht.2.1]; rfl
 rw [hk,Y6 (by decide)];have he:(X3a (t.rs.map toI) t.nv t.gl).any emC=false:=Yy.2 fun h0=>by
  obtain⟨c,hc,h1⟩:=Y01.1 h0;rw [(Zd4 h c hc).e] at h1; cases h1
 have hr:(t.rs.map toI).all X5c=true:=by
  rw [YL];intro x hx;obtain⟨r,hr,rfl⟩:=Y0i.1 hx;unfold X5c;show (!r.rev||(decide (r.cu.1=0)&&decide (r.cu.2=0)))=true;cases hv:r.rev with
  | false=>rfl
  | true=>rw [(h.rs r hr).rv hv]; rfl
 rw [he,hr,Y6 (by simp),h.sg,Y6 (by decide)]
theorem Z2z {t:PB} (h:Xt t) (S:List Nat):X7 Tryz.prog 33 [.agg (pbP t S)] (· = .val (.int .i64 0)):=by
 have:=ZbP t.n t.l S t.st (t.rs.map toI) t.nv t.gl (Zjv h)
 rwa [Zkz h,<- Zlf] at this
noncomputable def XZ (t:PB) (l:List Cu):List Cu:=l.flatMap (exL t.l t.n)
def X1b (bad l:List Cu):List Cu:=l.flatMap (X35 bad)
theorem Z5s {α:Type} {f:α->List Cu} {k:Nat}:∀ {l:List α},(∀ x∈l,(f x).length<=k)->(l.flatMap f).length<=k*l.length
 | [],_=>by simp
 | x :: l, h => by
   rw [Y1Q,Y0e,Y04,Nat.mul_succ];have h1:=h x (Y0t ..);have h2:=Z5s (l:=l) fun y hy=>h y (YA _ hy);omega
theorem Z5K {t:PB} (h:Xt t) (l:List Cu) (hl:∀ c∈l,InC t.n c/\InM 62 c):(XZ t l).length<=64*l.length:=Z5s fun c hc=>(Z8g h (hl c hc).2).2.2.1
theorem ZbQ {l:List Cu} {c:Cu} (hl:∀ b∈l,InM 62 b) (hc:InM 62 c):Dis (X35 l c)/\(∀ c'∈X35 l c,InM 62 c')/\(X35 l c).length<=64:=by
 have h1:=Zg1 (m:=62) (by decide) hl hc l.length;have he:X3N l c l.length=X35 l c:=by unfold X3N X35; rw [Y0q]
 rw [he] at h1;exact⟨h1.1,h1.2,ZbF h1.1 h1.2 (by decide)⟩
theorem Z5L {bad:List Cu} (hb:∀ b∈bad,InM 62 b) (l:List Cu) (hl:∀ c∈l,InM 62 c):(X1b bad l).length<=64*l.length:=Z5s fun c hc=>(ZbQ hb (hl c hc)).2.2
theorem Z62 {t:PB} (h:Xt t) (S:List Nat) (l:List Cu) (fl:Bool) (hl:∀ c∈l,InC t.n c/\InM 62 c) (hlen:l.length<=10000):X7 Tryz.prog 157 [.agg (pbP t S),.vec (l.map cuC) fl] (· = .tup [.vec ((XZ t l).map cuC) false,.val (.int .i64 0)]):=by
 have hnl:(l.map cuC).length=l.length:=by simp
 have hpp:=ZH t S;refine Yp ok157 fun C hC=>?_;refine Zo ?_;refine Za ?_;refine Z5 rfl rfl rfl ?_
 repeat' (first|refine Zb (Zx (k:=6) rfl 2 (by decide)) ?_|(first|refine st ?_|(apply B<;>intro hb<;>try cases hb)))
 refine ZA hC (fun (i:Nat)=>i<=l.length) (fun i=>l.length-i) 1 (fun i => [(2,.cp (pbP t S)),(6,.own 0),(11,.vec (l.map cuC) fl),(12,.val (.int .i64 (l.length:Int))),(13,Yv i)])
  (fun i => [(0,⟨2,(XZ t (l.take i)).map cuC⟩)]) (Y0l _) 0 (Y0l _) (fun i=>i) (fun _ _=>rfl) Zk
  ⟨Qp hpp,⟨_,rfl,.own 0 (by decide)⟩,Qp (Z1 _),⟨_,by rw [<- hnl]; rfl,.pure _ Yt⟩,Qp Yt,Yt⟩ ⟨Qs Yt,Yt⟩ ?_
 intro i hi;have hinc:IntKind.i64.wrap ((i:Int)+1)=((i+1:Nat):Int):=Y0v _ ⟨by omega,by omega⟩
 iterate 2 (first|refine st ?_|(apply B<;>intro hb<;>try cases hb))
 refine Zv rfl rfl rfl (fun hb=>?_) (fun hb=>?_)
 . have hil : i < l.length := by have := Y0u hb; omega
   have htake:=ZS hil;clear hb;have hci:=hl _ (Y0j hil);have hacc:=Z5K h (l.take i) (fun c hc=>hl c (YM hc));rw [Y0o] at hacc;refine go ?_;refine Qo (Zn (xs:=l) (g:=cuC) rfl rfl i rfl hil rfl) ?_;generalize l[i]=x at htake hci ⊢;have hone:=(Z8g h hci.2).2.2.1;have hsn:XZ t (l.take (i+1))=XZ t (l.take i)++exL t.l t.n x:=by rw [htake]; unfold XZ; rw [Y1G]; simp
   generalize XZ t (l.take i)=acc at hacc hsn ⊢;refine gd 20 ⟨?_⟩;refine Qe (Z5o h S x hci.1 hci.2) ⟨hpp,Zz _,Yt⟩ ?_;refine gd 28 ⟨?_⟩
   refine ZF (Zt (k:=0) (m:=(exL t.l t.n x).map cuC) (fl:=false) rfl rfl rfl (fun c hc=>by obtain⟨y,_,rfl⟩:=Y0i.1 hc; rfl) rfl (by
    show ((acc.map cuC).length+((exL t.l t.n x).map cuC).length)*48<=_;rw [Y0f,Y0f]
    omega)) rfl rfl ?_
   refine go ?_
   refine⟨i+1,mv 0 2,by omega,by omega,fun i hi=>absurd hi (YE i),Zu rfl,
    ⟨Qp hpp,⟨_,rfl,.own 0 (by decide)⟩,Qp (Z1 _),Qp Yt,⟨_,by show some _=some _; rw [hinc],.pure _ Yt⟩,Yt⟩,
    ⟨⟨by decide,_,rfl,?_⟩,Yt⟩⟩
   show Xu _ _ ⟨2,acc.map cuC++(exL t.l t.n x).map cuC⟩ ⟨2,(XZ t (l.take (i+1))).map cuC⟩;rw [hsn,Y0r];exact .same _ (by rw [<- Y0r]; exact Z1 _)
 . have hil : i = l.length := by have := Yw hb; omega
   subst hil;clear hb;rw [Y0q]
   repeat' (first|refine Zb (Zm (k:=6) rfl rfl (Z1 _)) ?_|(first|refine st ?_|(apply B<;>intro hb<;>try cases hb)))
   exact Z8 rfl ⟨Z1 _,Yt,Yt⟩ rfl
theorem Z7g (bad l:List Cu) (f2 fl:Bool) (hb0:∀ b∈bad,InM 62 b) (hbl:bad.length<=100000) (hl:∀ c∈l,InM 62 c) (hlen:l.length<=10000):X7 Tryz.prog 158 [.vec (l.map cuC) fl,.vec (bad.map cuC) f2] (· = .tup [.vec ((X1b bad l).map cuC) false,.val (.int .i64 0)]):=by
 have hnl:(l.map cuC).length=l.length:=by simp
 refine Yp ok158 fun C hC=>?_
 repeat' (first|refine Zb (Zx (k:=6) rfl 2 (by decide)) ?_|(first|refine st ?_|(apply B<;>intro hb<;>try cases hb)))
 refine ZA hC (fun (i:Nat)=>i<=l.length) (fun i=>l.length-i) 1 (fun i => [(1,.vec (bad.map cuC) f2),(6,.own 0),(11,.vec (l.map cuC) fl),(12,.val (.int .i64 (l.length:Int))),(13,Yv i)])
  (fun i => [(0,⟨2,(X1b bad (l.take i)).map cuC⟩)]) (Y0l _) 0 (Y0l _) (fun i=>i) (fun _ _=>rfl) Zk
  ⟨Qp (Z1 _),⟨_,rfl,.own 0 (by decide)⟩,Qp (Z1 _),⟨_,by rw [<- hnl]; rfl,.pure _ Yt⟩,Qp Yt,Yt⟩ ⟨Qs Yt,Yt⟩ ?_
 intro i hi;have hinc:IntKind.i64.wrap ((i:Int)+1)=((i+1:Nat):Int):=Y0v _ ⟨by omega,by omega⟩
 iterate 2 (first|refine st ?_|(apply B<;>intro hb<;>try cases hb))
 refine Zv rfl rfl rfl (fun hb=>?_) (fun hb=>?_)
 . have hil : i < l.length := by have := Y0u hb; omega
   have htake:=ZS hil;clear hb;have hci:=hl _ (Y0j hil);have hacc:=Z5L hb0 (l.take i) (fun c hc=>hl c (YM hc));rw [Y0o] at hacc;refine go ?_;refine Qo (Zn (xs:=l) (g:=cuC) rfl rfl i rfl hil rfl) ?_;generalize l[i]=x at htake hci ⊢;have hone:=(ZbQ hb0 hci).2.2;have hsn:X1b bad (l.take (i+1))=X1b bad (l.take i)++X35 bad x:=by rw [htake]; unfold X1b; rw [Y1G]; simp
   generalize X1b bad (l.take i)=acc at hacc hsn ⊢;refine gd 20 ⟨?_⟩;refine Qe (Ze8 bad f2 x 62 (by decide) hb0 hci hbl) ⟨Zz _,Z1 _,Yt⟩ ?_;refine gd 28 ⟨?_⟩
   refine ZF (Zt (k:=0) (m:=(X35 bad x).map cuC) (fl:=false) rfl rfl rfl (fun c hc=>by obtain⟨y,_,rfl⟩:=Y0i.1 hc; rfl) rfl (by
    show ((acc.map cuC).length+((X35 bad x).map cuC).length)*48<=_;rw [Y0f,Y0f]
    omega)) rfl rfl ?_
   refine go ?_
   refine⟨i+1,mv 0 2,by omega,by omega,fun i hi=>absurd hi (YE i),Zu rfl,
    ⟨Qp (Z1 _),⟨_,rfl,.own 0 (by decide)⟩,Qp (Z1 _),Qp Yt,⟨_,by show some _=some _; rw [hinc],.pure _ Yt⟩,Yt⟩,
    ⟨⟨by decide,_,rfl,?_⟩,Yt⟩⟩
   show Xu _ _ ⟨2,acc.map cuC++(X35 bad x).map cuC⟩ ⟨2,(X1b bad (l.take (i+1))).map cuC⟩;rw [hsn,Y0r];exact .same _ (by rw [<- Y0r]; exact Z1 _)
 . have hil : i = l.length := by have := Yw hb; omega
   subst hil;clear hb;rw [Y0q]
   repeat' (first|refine Zb (Zm (k:=6) rfl rfl (Z1 _)) ?_|(first|refine st ?_|(apply B<;>intro hb<;>try cases hb)))
   exact Z8 rfl ⟨Z1 _,Yt,Yt⟩ rfl
theorem X2I {a:Nat} (h:a ||| 62=62):a % 2=0/\a<=62:=by
 have h1:a<=62:=by rw [<- h]; exact YU
 refine⟨?_,h1⟩;have h2:a.testBit 0=false:=Yy.2 fun h0=>by
  have:=Xe.1 h 0 h0;cases this
 rw [Y2q] at h2;have:=Y1t a (show 0<2 by decide);have h3:¬ a % 2=1:=Yw h2;omega
theorem ZhY {l:List Cu} (hn:l.Nodup) (hl:∀ c∈l,InM 62 c):l.length<=1024:=by
 have hnd:(l.map fun c=>c.1 / 2*32+c.2 / 2).Nodup:=by
  rw [Y16,Y1v];refine Y1z (fun {a b} ha hb hab e=>hab ?_) (Y16.1 hn);have a1:=X2I (hl a ha).1;have a2:=X2I (hl a ha).2;have b1:=X2I (hl b hb).1;have b2:=X2I (hl b hb).2;exact Y46 (by omega) (by omega)
 have:=Z2t 1024 _ hnd fun x hx=>by
  obtain⟨c,hc,rfl⟩:=Y0i.1 hx;have a1:=X2I (hl c hc).1;have a2:=X2I (hl c hc).2;show c.1 / 2*32+c.2 / 2<1024;omega
 rwa [Y0f] at this
theorem Z49 {l:List Cu} (hl:∀ c∈l,InM 62 c):∀ c∈l,Xv c:=fun c hc=>(hl c hc).lt (by decide)
theorem X4J {l:List Cu} (hl:∀ c∈l,InM 62 c):(∀ c∈X34 l,InM 62 c)/\(X34 l).length<=1024:=by
 have h1:∀ c∈X34 l,InM 62 c:=fun c hc=>hl c (Z2U hc).1;exact⟨h1,ZhY (Z5H (Z49 hl)) h1⟩
theorem Z4a (l:List Cu) (fl:Bool) (hl:∀ c∈l,InM 62 c) (hlen:l.length<=1000000):X7 Tryz.prog 159 [.vec (l.map cuC) fl] (· = .tup [.vec ((X34 l).map cuC) false,.val (.int .i64 0)]):=by
 have h1:=(X4J hl).2;refine Yp ok159 fun C hC=>?_;refine gd 5 ⟨?_⟩;refine Qe (Z79 l fl (Z49 hl) hlen) ⟨Z1 _,Yt⟩ ?_;refine gd 8 ⟨?_⟩;refine Qo (Z6 (v:=false) rfl (by simp;omega)) ?_;refine go ?_;exact Z8 rfl ⟨Z1 _,Yt,Yt⟩ rfl
noncomputable def X1m (t:PB):List Cu:=X34 (XZ t t.nv)
noncomputable def X52 (t:PB):List Cu:=X34 (X1b (X1m t) (XZ t t.gl))
theorem Z2k {t:PB} (h:Xt t) {l:List Cu} (hl:∀ c∈l,InC t.n c/\InM 62 c):∀ c∈XZ t l,InM 62 c:=fun c hc=>by
 obtain⟨x,hx,hc⟩:=Y1d.1 hc;exact (Z8g h (hl x hx).2).2.2.2 c hc
theorem Z3d {bad l:List Cu} (hb:∀ b∈bad,InM 62 b) (hl:∀ c∈l,InM 62 c):∀ c∈X1b bad l,InM 62 c:=fun c hc=>by
 obtain⟨x,hx,hc⟩:=Y1d.1 hc;exact (ZbQ hb (hl x hx)).2.1 c hc
theorem Z7h {t:PB} (h:Xt t):(∀ c∈X1m t,InM 62 c)/\(X1m t).length<=1024:=X4J (Z2k h h.nv)
theorem ZkA {t:PB} (h:Xt t):(∀ c∈X52 t,InM 62 c)/\(X52 t).length<=1024:=X4J (Z3d (Z7h h).1 (Z2k h h.gl))
theorem Z9b {α:Type} (f:α->List Cu) (l:List α) (S:Nat):soC (l.flatMap f) S=l.any fun x=>soC (f x) S:=by unfold soC; exact List.any_flatMap
theorem Za8 {t:PB} (h:Xt t) {l:List Cu} (hl:∀ c∈l,InC t.n c/\InM 62 c) {S:Nat} (hS:InS t S):soC (XZ t l) S=soC l (clo t.l S):=by
 unfold XZ;rw [Z9b];unfold soC;rw [YN,Y01,Y01];exact Y3q fun c=>Y2A fun hc=>by rw [<- ZiK h.good.small h.n.2 (hl c hc).1 hS]; rfl
theorem Za9 {bad:List Cu} (hb:∀ b∈bad,InM 62 b) (l:List Cu) (S:Nat):soC (X1b bad l) S=(soC l S && !soC bad S):=by
 unfold X1b;rw [Z9b]
 induction l with
 | nil=>rfl
 | cons c l ih =>
   rw [Y3h,ih,Zjs (Z49 hb),Z3v];cases hoC c S<;>cases soC bad S<;>cases soC l S<;>rfl
theorem Zg6 {t:PB} (h:Xt t) {S:Nat} (hS:InS t S):soC (X1m t) S = !Xl t S:=by
 unfold X1m Xl;rw [Z94 (Z49 (Z2k h h.nv)),Za8 h h.nv hS,Bool.not_not]
theorem ZkB {t:PB} (h:Xt t) {S:Nat} (hS:InS t S):soC (X52 t) S=(Xl t S&&Xr t S):=by
 unfold X52;rw [Z94 (Z49 (Z3d (Z7h h).1 (Z2k h h.gl))),Za9 (Z7h h).1,Za8 h h.gl hS,Zg6 h hS,Bool.not_not,Bool.and_comm]
 rfl
theorem Zd5 {t:PB} (h:Xt t) (S:List Nat):X7 Tryz.prog 154 [.agg (pbP t S)] (· = .tup [.vec ((X1m t).map cuC) false,.val (.int .i64 0)]):=by
 have hpp:=ZH t S;have hl:=Z5K h t.nv h.nv;have hnl:=h.nl;refine Yp ok154 fun C hC=>?_;refine Zo ?_;refine Za ?_;refine Z5 rfl rfl rfl ?_;refine gd 8 ⟨?_⟩;refine Qe (Z2z h S) ⟨hpp,Yt⟩ ?_;refine gd 16 ⟨?_⟩;refine Qe (Z62 h S t.nv false h.nv (by omega)) ⟨hpp,Z1 _,Yt⟩ ?_;refine gd 23 ⟨?_⟩;refine Qe (Z4a (XZ t t.nv) false (Z2k h h.nv) (by omega)) ⟨Z1 _,Yt⟩ ?_;refine go ?_;exact Z8 rfl ⟨Z1 _,Yt,Yt⟩ rfl
theorem Zaa {t:PB} (h:Xt t) (S:List Nat):X7 Tryz.prog 119 [.agg (pbP t S)] (· = .tup [.vec ((X52 t).map cuC) false,.val (.int .i64 0)]):=by
 have hpp:=ZH t S;have hl:=Z5K h t.gl h.gl;have hnl:=h.gk;have hbi:=Z7h h;have hl2:=Z5L hbi.1 (XZ t t.gl) (Z2k h h.gl);refine Yp ok119 fun C hC=>?_;refine Zo ?_;refine Za ?_;refine Z5 rfl rfl rfl ?_;refine gd 9 ⟨?_⟩;refine Qe (Zd5 h S) ⟨hpp,Yt⟩ ?_;refine gd 19 ⟨?_⟩;refine Qe (Z62 h S t.gl false h.gl (by omega)) ⟨hpp,Z1 _,Yt⟩ ?_;refine gd 28 ⟨?_⟩;refine Qe (Z7g (X1m t) (XZ t t.gl) false false hbi.1 (by omega) (Z2k h h.gl) (by omega)) ⟨Z1 _,Z1 _,Yt⟩ ?_;refine gd 35 ⟨?_⟩;refine Qe (Z4a (X1b (X1m t) (XZ t t.gl)) false (Z3d hbi.1 (Z2k h h.gl)) (by omega)) ⟨Z1 _,Yt⟩ ?_;refine go ?_;exact Z8 rfl ⟨Z1 _,Yt,Yt⟩ rfl
theorem Z3z {N:Nat} (hN:N<18446744073709551616) {i:Nat} (hi:i<64):XW N (i:Int)=Xg N (2 ^ i):=by
 refine YD fun j=>?_;rw [Z3I hN,ZG hN (ZQ hi),YH];by_cases h:j=i
 . subst h; simp
 . rw [Y8 h,Y0w fun h'=>h h'.symm]; rfl
theorem Z63 (c:Cu) (hc:Xv c) (tg:Nat) (ht:tg<64) (rev:Bool):X7 Tryz.prog 156 [cuP c,.val (.int .i64 (tg:Int)),.val (.bool rev)] (· = .tup [cuP (X2E c tg rev),.val (.bool (X40 c tg rev))]):=by
 have hw1:=Z1G c.1 hc.1 (tg:Int);have hw2:=Z1G c.2 hc.2 (tg:Int);rw [Z3z hc.1 ht] at hw1;rw [Z3z hc.2 ht] at hw2;have hh1:=Z1m c.1 hc.1 tg;have hh2:=Z1m c.2 hc.2 tg;refine Yp ok156 fun C hC=>?_;refine Zo ?_;refine Za ?_;refine Z5 rfl rfl rfl ?_;cases rev
 . refine gd 24 ⟨?_⟩;refine Qd hw1 ⟨Z2 _,Yt,Yt⟩ ?_;refine gd 31 ⟨?_⟩;refine Qd hh2 ⟨Z2 _,Yt,Yt⟩ ?_;unfold X40;rw [Y6 (by decide)];generalize c.2.testBit tg=b;cases b
   all_goals
    refine go ?_;exact Z8 (r:=.tup [cuP (X2E c tg false),.val (.bool _)]) rfl ⟨Zz _,Yt,Yt⟩ rfl
 . refine gd 14 ⟨?_⟩;refine Qd hw2 ⟨Z2 _,Yt,Yt⟩ ?_;refine gd 19 ⟨?_⟩;refine Qd hh1 ⟨Z2 _,Yt,Yt⟩ ?_;unfold X40;rw [Y5 rfl];generalize c.1.testBit tg=b;cases b
   all_goals
    refine go ?_;exact Z8 (r:=.tup [cuP (X2E c tg true),.val (.bool _)]) rfl ⟨Zz _,Yt,Yt⟩ rfl
def X4u (tg:Nat) (rev:Bool) (b:Cu):List Cu:=if X40 b tg rev then [X2E b tg rev] else []
def X3W (bad:List Cu) (tg:Nat) (rev:Bool) (i:Nat):List Cu:=bad++(bad.take i).flatMap (X4u tg rev)
theorem Zg7 (bad:List Cu) (tg:Nat) (rev:Bool) {i:Nat} (hi:i<bad.length):X3W bad tg rev (i+1)=X3W bad tg rev i++X4u tg rev bad[i]:=by
 unfold X3W;rw [ZS hi,Y1G,<- YV];simp
theorem ZhZ (tg:Nat) (rev:Bool) (b:Cu):(X4u tg rev b).length<=1:=by unfold X4u; split<;>simp
theorem Zd6 (bad:List Cu) (tg:Nat) (rev:Bool) (i:Nat):(X3W bad tg rev i).length<=2*bad.length:=by
 unfold X3W;rw [Y0e];have:=Z5s (l:=bad.take i) (f:=X4u tg rev) (k:=1) fun x _=>ZhZ tg rev x;rw [Y0o] at this;omega
noncomputable def X4j (t:PB) (r:RU):List Cu:=X3W (X1m t) r.tg r.rev (X1m t).length
noncomputable def ifR (t:PB) (r:RU):List PV := [.vec ((exL t.l t.n r.cu).map cuC) false]
noncomputable def afR (t:PB) (r:RU):List PV := [.vec ((X4j t r).map cuC) false]
theorem Z4v (t:PB) (r:RU):X6 (ifR t r):=⟨Z1 _,Yt⟩
theorem Z4w (t:PB) (r:RU):X6 (afR t r):=⟨Z1 _,Yt⟩
noncomputable def srC (t:PB) (S:List Nat):List PV := [.val (.int .i64 (t.n:Int)),X15 t.l S,.vec (X5 (X9 t.st)) false,.vec (t.rs.map ruP) false,.vec (t.nv.map cuC) false,.vec (t.gl.map cuC) false,.vec ((X1m t).map cuC) false,.vec (t.rs.map (ifR t)) false,.vec (t.rs.map (afR t)) false]
theorem Z5t (t:PB) (S:List Nat):X6 (srC t S):=⟨Yt,Zq _ _,Z7 _,ZE _,Z1 _,Z1 _,Z1 _,Zc (Z4v t) _,Zc (Z4w t) _,Yt⟩
theorem Zab {t:PB} (h:Xt t) (S:List Nat):X7 Tryz.prog 118 [.agg (pbP t S)] (· = .tup [.cp (srC t S),.val (.int .i64 0)]):=by
 have hpp:=ZH t S;have hbi:=Z7h h;have hrl:=h.rl;have hnr:(t.rs.map ruP).length=t.rs.length:=by simp
 have hnb:((X1m t).map cuC).length=(X1m t).length:=by simp
 refine Yp ok118 fun C hC=>?_;refine Zo ?_;refine Za ?_;refine Z5 rfl rfl rfl ?_;refine gd 18 ⟨?_⟩;refine Qe (Zd5 h S) ⟨hpp,Yt⟩ ?_;refine gd 28 ⟨?_⟩;refine Zb (ZP (id:=0) (i0:=0) (j0:=7) rfl (Y0 rfl) (Y0 rfl) rfl 1 (by decide) (by decide)) ?_;refine Zb (ZP (id:=0) (i0:=0) (j0:=8) rfl (Y0 rfl) (Y0 rfl) rfl 1 (by decide) (by decide)) ?_;refine go ?_;refine ZA hC (fun (i:Nat)=>i<=t.rs.length) (fun i=>t.rs.length-i) 3 (fun i => [(1,.cp (pbP t S)),(4,.vec ((X1m t).map cuC) false),(6,.ptr 0 0 0),(29,.vec (t.rs.map ruP) false),(30,.val (.int .i64 (t.rs.length:Int))),(31,Yv i)])
  (fun i => [(0,⟨9,[[.val (.int .i64 (t.n:Int)),X15 t.l S,.vec (X5 (X9 t.st)) false,.vec (t.rs.map ruP) false,.vec (t.nv.map cuC) false,.vec (t.gl.map cuC) false,.vec ((X1m t).map cuC) false,.own 1,.own 2]]⟩),(1,⟨1,(t.rs.take i).map (ifR t)⟩),(2,⟨1,(t.rs.take i).map (afR t)⟩)]) (Y0l _) 0 (Y0l _) (fun i=>i) (fun _ _=>rfl) Zk
  ⟨Qp hpp,Qp (Z1 _),Qt 0 0 0,Qp (ZE _),⟨_,by rw [<- hnr]; rfl,.pure _ Yt⟩,Qp Yt,Yt⟩
  ⟨⟨by decide,_,rfl,Xu.single ⟨.pure _ Yt,.pure _ (Zq _ _),.pure _ (Z7 _),.pure _ (ZE _),.pure _ (Z1 _),.pure _ (Z1 _),.pure _ (Z1 _),.own (ρ:=fun i=>i) 1 (by decide),.own (ρ:=fun i=>i) 2 (by decide),Yt⟩ rfl⟩,Qs Yt,Qs Yt,Yt⟩ ?_
 intro i hi;have hinc:IntKind.i64.wrap ((i:Int)+1)=((i+1:Nat):Int):=Y0v _ ⟨by omega,by omega⟩;refine gd 32 ⟨?_⟩;by_cases hil:i<t.rs.length
 . have htk := ZS hil;have hro:=h.rs _ (Y0j hil);have htl:(t.rs.take i).length<=64:=by rw [Y0o]; omega
   refine Qo (Qy rfl (Y1V.2 hil)) ?_;refine go ?_;refine Qo (Zn (xs:=t.rs) (g:=ruP) rfl rfl i rfl hil rfl) ?_;generalize t.rs[i]=x at htk hro ⊢;have hxt:=hro.tg;generalize t.rs.take i=tk at htk htl ⊢;refine gd 39 ⟨?_⟩;refine Qe (Z5o h S x.cu hro.cu hro.m) ⟨hpp,Zz _,Yt⟩ ?_;refine gd 45 ⟨?_⟩;refine Z3k rfl rfl rfl ?_
   iterate 1 (first|refine st ?_|(apply B<;>intro hb<;>try cases hb))
   refine ZF (Zt (k:=4) (m:=(X1m t).map cuC) (fl:=false) rfl rfl rfl (fun q hq=>by obtain⟨y,_,rfl⟩:=Y0i.1 hq; rfl) rfl (by
    show (0+((X1m t).map cuC).length)*48<=_
    rw [Y0f];omega)) rfl rfl ?_
   refine go ?_;refine ZA hC (fun (j:Nat)=>j<=(X1m t).length) (fun j=>(X1m t).length-j) 6 (fun j => [(1,.cp (pbP t S)),(4,.vec ((X1m t).map cuC) false),(6,.ptr 0 0 0),(8,.ptr 3 0 0),(9,.vec ((exL t.l t.n x.cu).map cuC) false),(11,.own 5),(29,.vec (t.rs.map ruP) false),(30,.val (.int .i64 (t.rs.length:Int))),(31,Yv i),(48,.vec ((X1m t).map cuC) false),(49,.val (.int .i64 ((X1m t).length:Int))),(50,Yv j)])
    (fun j => [(0,⟨9,[[.val (.int .i64 (t.n:Int)),X15 t.l S,.vec (X5 (X9 t.st)) false,.vec (t.rs.map ruP) false,.vec (t.nv.map cuC) false,.vec (t.gl.map cuC) false,.vec ((X1m t).map cuC) false,.own 1,.own 2]]⟩),(1,⟨1,tk.map (ifR t)⟩),(2,⟨1,tk.map (afR t)⟩),(3,⟨5,[ruP x]⟩),(5,⟨2,(X3W (X1m t) x.tg x.rev j).map cuC⟩)]) (Y0l _) 0 (Y0l _) (fun i=>i) (fun _ _=>rfl) Zk
    ⟨Qp hpp,Qp (Z1 _),Qt 0 0 0,Qt 3 0 0,Qp (Z1 _),Qw 5,Qp (ZE _),Qp Yt,Qp Yt,Qp (Z1 _),⟨_,by rw [<- hnb]; rfl,.pure _ Yt⟩,Qp Yt,Yt⟩
    ⟨⟨by decide,_,rfl,Xu.single ⟨.pure _ Yt,.pure _ (Zq _ _),.pure _ (Z7 _),.pure _ (ZE _),.pure _ (Z1 _),.pure _ (Z1 _),.pure _ (Z1 _),.own (ρ:=fun i=>i) 1 (by decide),.own (ρ:=fun i=>i) 2 (by decide),Yt⟩ rfl⟩,Qs (Zc (Z4v t) _),Qs (Zc (Z4w t) _),Qs ⟨Z6p x,Yt⟩,⟨by decide,_,rfl,by unfold X3W; rw [Y1u,Y3J,Y0p]; exact .same _ (Z1 _)⟩,Yt⟩ ?_
   intro j hj;have hjnc:IntKind.i64.wrap ((j:Int)+1)=((j+1:Nat):Int):=Y0v _ ⟨by omega,by omega⟩;have hal:=Zd6 (X1m t) x.tg x.rev j;refine gd 51 ⟨?_⟩;by_cases hjl:j<(X1m t).length
   . have hsn := Zg7 (X1m t) x.tg x.rev hjl;have hb64:=Z49 hbi.1 _ (Y0j hjl);refine Qo (Qy rfl (Y1V.2 hjl)) ?_;refine go ?_;refine Qo (Zn (xs:=X1m t) (g:=cuC) rfl rfl j rfl hjl rfl) ?_;generalize (X1m t)[j]=y at hsn hb64 ⊢;generalize X3W (X1m t) x.tg x.rev j=acc at hsn hal ⊢;refine gd 59 ⟨?_⟩;refine Z0 rfl rfl rfl ?_;refine Qe (Z63 y hb64 x.tg (by omega) x.rev) ⟨Zz _,Yt,Yt,Yt⟩ ?_;unfold X4u at hsn;generalize X2E y x.tg x.rev=bc at hsn ⊢;generalize X40 y x.tg x.rev=bb at hsn ⊢;cases bb
     . rw [Y6 (by decide), Y0p] at hsn;refine go ?_
       refine⟨j+1,fun i=>i,hjl,by show (X1m t).length-(j+1)<(X1m t).length-j; omega,fun _ _=>rfl,Zk,
        ⟨Qp hpp,Qp (Z1 _),Qt 0 0 0,Qt 3 0 0,Qp (Z1 _),Qw 5,Qp (ZE _),Qp Yt,Qp Yt,Qp (Z1 _),Qp Yt,⟨_,by show some _=some _; rw [hjnc],.pure _ Yt⟩,Yt⟩,
        ⟨⟨by decide,_,rfl,Xu.single ⟨.pure _ Yt,.pure _ (Zq _ _),.pure _ (Z7 _),.pure _ (ZE _),.pure _ (Z1 _),.pure _ (Z1 _),.pure _ (Z1 _),.own (ρ:=fun i=>i) 1 (by decide),.own (ρ:=fun i=>i) 2 (by decide),Yt⟩ rfl⟩,Qs (Zc (Z4v t) _),Qs (Zc (Z4w t) _),Qs ⟨Z6p x,Yt⟩,⟨by decide,_,rfl,?_⟩,Yt⟩⟩
       rw [hsn];exact .same _ (Z1 _)
     . rw [Y5 rfl] at hsn;refine gd 67 ⟨?_⟩
       refine ZF (Zt (k:=5) (m := [cuC bc]) (fl:=true) rfl rfl rfl (fun q hq=>by rw [Y0g] at hq; subst hq; rfl) rfl (by
        show ((acc.map cuC).length+1)*48<=_
        rw [Y0f];omega)) rfl rfl ?_
       refine go ?_
       refine⟨j+1,mv 5 8,hjl,by show (X1m t).length-(j+1)<(X1m t).length-j; omega,fun i hi=>absurd hi (YE i),Zu rfl,
        ⟨Qp hpp,Qp (Z1 _),Qt 0 0 0,Qt 3 0 0,Qp (Z1 _),Qw 5,Qp (ZE _),Qp Yt,Qp Yt,Qp (Z1 _),Qp Yt,⟨_,by show some _=some _; rw [hjnc],.pure _ Yt⟩,Yt⟩,
        ⟨⟨by decide,_,rfl,Xu.single ⟨.pure _ Yt,.pure _ (Zq _ _),.pure _ (Z7 _),.pure _ (ZE _),.pure _ (Z1 _),.pure _ (Z1 _),.pure _ (Z1 _),.own (ρ:=mv 5 8) 1 (by decide),.own (ρ:=mv 5 8) 2 (by decide),Yt⟩ rfl⟩,Qs (Zc (Z4v t) _),Qs (Zc (Z4w t) _),Qs ⟨Z6p x,Yt⟩,⟨by decide,_,rfl,?_⟩,Yt⟩⟩
       show Xu _ _ ⟨2,acc.map cuC ++ [cuC bc]⟩ ⟨2,(X3W (X1m t) x.tg x.rev (j+1)).map cuC⟩;rw [hsn,Y0r];exact .same _ (by show X3 (acc.map cuC ++ [bc].map cuC); rw [<- Y0r]; exact Z1 _)
   . have hjl : j = (X1m t).length := by omega
     subst hjl;refine Zb (Zm (k:=11) rfl rfl (Z1 _)) ?_;refine Qo (Qz rfl (Y4a _)) ?_
     repeat' (first|refine Z3j [] [(1,256)] [4194303,4194303,4194303,4194303,4194303,4194303,4194303,4194303,4194047,4194303,4194303,4194303,4194303,4194303,4194303,4194303,4194303,4194303,4194303,4194303,4194303,4194303] (by kernel_rfl) ?_|refine Z8E 77 ?_|(first|refine st ?_|(apply B<;>intro hb<;>try cases hb)))
     refine At.mk ?_
     refine Qr (Zt (k:=1) (m := [ifR t x]) (fl:=true) rfl rfl rfl (fun q hq=>by rw [Y0g] at hq; subst hq; rfl) rfl (by
      show ((tk.map (ifR t)).length+1)*24<=_
      rw [Y0f];omega)) ?_
     refine gd 84 ⟨?_⟩
     refine Qr (Zt (k:=2) (m := [afR t x]) (fl:=true) rfl rfl rfl (fun q hq=>by rw [Y0g] at hq; subst hq; rfl) rfl (by
      show ((tk.map (afR t)).length+1)*24<=_
      rw [Y0f];omega)) ?_
     refine go ?_
     refine⟨i+1,fun i=>mv 1 14 (mv 2 21 i),hil,by show t.rs.length-(i+1)<t.rs.length-i; omega,fun i hi=>absurd hi (YE i),Zu rfl,
      ⟨Qp hpp,Qp (Z1 _),Qt 0 0 0,Qp (ZE _),Qp Yt,⟨_,by show some _=some _; rw [hinc],.pure _ Yt⟩,Yt⟩,
      ⟨⟨by decide,_,rfl,Xu.single ⟨.pure _ Yt,.pure _ (Zq _ _),.pure _ (Z7 _),.pure _ (ZE _),.pure _ (Z1 _),.pure _ (Z1 _),.pure _ (Z1 _),.own (ρ:=fun i=>mv 1 14 (mv 2 21 i)) 1 (by decide),.own (ρ:=fun i=>mv 1 14 (mv 2 21 i)) 2 (by decide),Yt⟩ rfl⟩,⟨by decide,_,rfl,?_⟩,⟨by decide,_,rfl,?_⟩,Yt⟩⟩
     . show Xu _ _ ⟨1, tk.map (ifR t) ++ [ifR t x]⟩ ⟨1, (t.rs.take (i + 1)).map (ifR t)⟩;rw [htk,Y0r];exact .same _ (by rw [<- Y19,<- Y0r]; exact Zc (Z4v t) _)
     . show Xu _ _ ⟨1, tk.map (afR t) ++ [afR t x]⟩ ⟨1, (t.rs.take (i + 1)).map (afR t)⟩;rw [htk,Y0r];exact .same _ (by rw [<- Y19,<- Y0r]; exact Zc (Z4w t) _)
 . have hil : i = t.rs.length := by omega
   subst hil;rw [Y0q];refine Zb (Zs (ob:=0) (id:=1) (i0:=0) (j0:=7) rfl rfl (by decide) (Zc (Z4v t) _) (Y0 rfl) (Y0 rfl) rfl) ?_;refine Zb (Zs (ob:=0) (id:=2) (i0:=0) (j0:=8) rfl rfl (by decide) (Zc (Z4w t) _) (Y0 rfl) (Y0 rfl) rfl) ?_;refine Zb (Z1o (k:=6) (l:=srC t S) rfl rfl (Z5t t S)) ?_;refine Qo (Qz rfl (Y4a _)) ?_;refine go ?_;exact Z8 rfl ⟨Z5t t S,Yt,Yt⟩ rfl
theorem Z6r {m a b:Nat} (ha:a<18446744073709551616) (hb:b<18446744073709551616) (h:a ||| m=m):Xg a b ||| m=m:=Xe.2 fun i hi=>by
 rw [ZG ha hb,Y0k] at hi;exact Xe.1 h i hi.1
theorem ZbR {c:Cu} (h:InM 62 c) {tg:Nat} (ht:tg<64) (rev:Bool):InM 62 (X2E c tg rev):=by
 have h64:=h.lt (by decide);have hp:=ZQ ht;unfold X2E
 split
 . exact⟨h.1,Z6r h64.2 hp h.2⟩
 . exact⟨Z6r h64.1 hp h.1,h.2⟩
theorem ZbS {c:Cu} (h:InM 62 c) {tg:Nat} (ht:1<=tg/\tg<=5) (rev:Bool):InM 62 (X3X c tg rev):=by
 have h1:=ZbR h (show tg<64 by omega) rev;have hb:=X5O ht.1 ht.2;unfold X3X
 split
 . exact Z97 h1 hb
 . exact ZcX h1 hb
theorem Zg8 {t:PB} (h:Xt t) {r:RU} (hr:X3H t.n r):(∀ c∈X4j t r,InM 62 c)/\(X4j t r).length<=2048:=by
 have hb:=Z7h h;have ht:=hr.tg;refine⟨fun c hc=>?_,by have:=Zd6 (X1m t) r.tg r.rev (X1m t).length; unfold X4j; omega⟩;unfold X4j X3W at hc;rcases Y0h.1 hc with hc|hc
 . exact hb.1 c hc
 . obtain ⟨x, hx, hc⟩ := Y1d.1 hc;unfold X4u at hc
   split at hc
   . rw [Y0g] at hc; subst hc;exact ZbR (hb.1 x (YM hx)) (by omega) _
   . cases hc
def X4m (y i:Cu):List Cu:=if (meC y i).2 then [(meC y i).1] else []
def X3r (y:Cu) (l:List Cu):List Cu:=l.flatMap (X4m y)
theorem Zg9 {a b:Cu} {m:Nat} (ha:InM m a) (hb:InM m b):InM m (X17 a b):=⟨Xe.2 fun i hi=>by
 rw [show (X17 a b).1=a.1 ||| b.1 from rfl,Y00,YP] at hi;exact hi.elim (Xe.1 ha.1 i) (Xe.1 hb.1 i),Xe.2 fun i hi=>by
 rw [show (X17 a b).2=a.2 ||| b.2 from rfl,Y00,YP] at hi
 exact hi.elim (Xe.1 ha.2 i) (Xe.1 hb.2 i)⟩
theorem Zjw {y i:Cu} (hy:InM 62 y) (hi:InM 62 i):∀ c∈X4m y i,InM 62 c:=fun c hc=>by
 unfold X4m meC at hc;by_cases h:emC (X17 y i)=true
 . rw [Y5 h,Y6 (by decide)] at hc; cases hc
 . rw [Y6 h,Y5 rfl,Y0g] at hc; subst hc; exact Zg9 hy hi
theorem Zi0 (y i:Cu):(X4m y i).length<=1:=by unfold X4m; split<;>simp
theorem ZbT {y:Cu} (hy:InM 62 y) {l:List Cu} (hl:∀ i∈l,InM 62 i):∀ c∈X3r y l,InM 62 c:=fun c hc=>by
 obtain⟨i,hi,hc⟩:=Y1d.1 hc;exact Zjw hy (hl i hi) c hc
theorem Zi1 (y:Cu) (l:List Cu):(X3r y l).length<=l.length:=by
 have:=Z5s (l:=l) (f:=X4m y) (k:=1) fun x _=>Zi0 y x;unfold X3r; omega
theorem Zga (y:Cu) {l:List Cu} {j:Nat} (hj:j<l.length):X3r y (l.take (j+1))=X3r y (l.take j)++X4m y l[j]:=by
 unfold X3r;rw [ZS hj,Y1G]; simp
noncomputable def bfL (t:PB) (r:RU) (c:Cu):List Cu:=if X40 c r.tg r.rev then X34 (X1b (X4j t r) (X3r (X3X c r.tg r.rev) (exL t.l t.n r.cu))) else []
theorem Zac {t:PB} (h:Xt t) (S:List Nat) (c:Cu) (hc:InM 62 c) (k:Nat) (hk:k<t.rs.length):X7 Tryz.prog 161 [.cp (srC t S),cuP c,.val (.int .i64 (k:Int))] (· = .tup [.vec ((bfL t t.rs[k] c).map cuC) false,.val (.int .i64 0)]):=by
 have hsr:=Z5t t S;have hro:=h.rs _ (Y0j hk);have hc64:=hc.lt (by decide);refine Yp ok161 fun C hC=>?_;refine Zo ?_;refine Za ?_;refine Z5 rfl rfl rfl ?_;refine gd 23 ⟨?_⟩;refine Qo (Zn (xs:=t.rs) (g:=ruP) rfl rfl k rfl hk rfl) ?_;generalize hx:t.rs[k]=x at hro ⊢;have hxt:=hro.tg;refine gd 30 ⟨?_⟩;refine Z0 rfl rfl rfl ?_;refine Qe (Z63 c hc64 x.tg (by omega) x.rev) ⟨Zz _,Yt,Yt,Yt⟩ ?_;unfold bfL;cases hbb:X40 c x.tg x.rev
 . rw [Y6 (by decide)];refine go ?_;exact Z1J rfl ⟨Yt,Yt,Yt⟩ rfl
 rw [Y5 rfl];have hbc:=(ZbR hc (show x.tg<64 by omega) x.rev).lt (by decide);refine gd 34 ⟨?_⟩;refine Z0 rfl rfl rfl ?_
 iterate 4 (first|refine st ?_|(apply B<;>intro hb<;>try cases hb))
 refine Zf9 hC True 2 [(0,.cp (srC t S)),(2,.val (.int .i64 (k:Int))),(9,.ptr 1 0 0)] [(1,⟨2,[cuC (X3X c x.tg x.rev)]⟩)] (Y0l _) ?_ fun _=>?_
 . have hbd : X3X c x.tg x.rev = if x.rev then ((X2E c x.tg x.rev).1 ||| 2 ^ x.tg, (X2E c x.tg x.rev).2) else ((X2E c x.tg x.rev).1, (X2E c x.tg x.rev).2 ||| 2 ^ x.tg) := rfl
   rw [hbd];generalize X2E c x.tg x.rev=bc at hbc ⊢;refine gd 37 ⟨?_⟩;cases hv:x.rev
   . rw [Y6 (by decide)];refine Qo (Z6 (v:=false) rfl hv) ?_;refine gd 48 ⟨?_⟩;refine Qe (Z1q _ hbc.2 x.tg (by omega)) ⟨Z2 _,Yt,Yt⟩ ?_;refine go ?_;exact⟨Yt,⟨⟨rfl,ZC (fun _ h=>h.elim) _ hsr⟩,⟨rfl,Yt⟩,⟨rfl,show (1:Nat)<2 by decide⟩,Yt⟩,⟨by decide,rfl,⟨Zp _ _,Zp _ _,Yt⟩,Yt⟩,Yt⟩
   . rw [Y5 rfl];refine Qo (Z6 (v:=true) rfl hv) ?_;refine gd 42 ⟨?_⟩;refine Qe (Z1q _ hbc.1 x.tg (by omega)) ⟨Z2 _,Yt,Yt⟩ ?_;refine go ?_;exact⟨Yt,⟨⟨rfl,ZC (fun _ h=>h.elim) _ hsr⟩,⟨rfl,Yt⟩,⟨rfl,show (1:Nat)<2 by decide⟩,Yt⟩,⟨by decide,rfl,⟨Zp _ _,Zp _ _,Yt⟩,Yt⟩,Yt⟩
 have hy:=ZbS hc ⟨hxt.1,hxt.2.2⟩ x.rev;generalize X3X c x.tg x.rev=y at hy ⊢;have hy64:=hy.lt (by decide);obtain⟨-,-,hel,hei⟩:=Z8g h hro.m;have haf:=Zg8 h hro
 repeat' (first|refine Zb (Zx (k:=11) rfl 2 (by decide)) ?_|(first|refine st ?_|(apply B<;>intro hb<;>try cases hb)))
 refine Qo (Zn (xs:=t.rs) (g:=ifR t) rfl rfl k rfl hk rfl) ?_;rw [hx];refine go ?_;have hnl:((exL t.l t.n x.cu).map cuC).length=(exL t.l t.n x.cu).length:=by simp
 refine ZA hC (fun (j:Nat)=>j<=(exL t.l t.n x.cu).length) (fun j=>(exL t.l t.n x.cu).length-j) 3 (fun j => [(0,.cp (srC t S)),(2,.val (.int .i64 (k:Int))),(9,.ptr 1 0 0),(11,.own 2),(56,.vec ((exL t.l t.n x.cu).map cuC) false),(57,.val (.int .i64 ((exL t.l t.n x.cu).length:Int))),(58,Yv j)])
  (fun j => [(1,⟨2,[cuC y]⟩),(2,⟨2,(X3r y ((exL t.l t.n x.cu).take j)).map cuC⟩)]) (Y0l _) 0 (Y0l _) (fun i=>i) (fun _ _=>rfl) Zk
  ⟨Qp hsr,Qp Yt,Qt 1 0 0,Qw 2,Qp (Z1 _),⟨_,by rw [<- hnl]; rfl,.pure _ Yt⟩,Qp Yt,Yt⟩ ⟨Qs ⟨Zi y,Yt⟩,Qs Yt,Yt⟩ ?_
 intro j hj;have hinc:IntKind.i64.wrap ((j:Int)+1)=((j+1:Nat):Int):=Y0v _ ⟨by omega,by omega⟩;have hml:=Zi1 y ((exL t.l t.n x.cu).take j);rw [Y0o] at hml;refine gd 59 ⟨?_⟩;by_cases hjl:j<(exL t.l t.n x.cu).length
 . have hsn := Zga y hjl;have hz:=(hei _ (Y0j hjl)).lt (by decide);refine Qo (Qy rfl (Y1V.2 hjl)) ?_;refine go ?_;refine Qo (Zn (xs:=exL t.l t.n x.cu) (g:=cuC) rfl rfl j rfl hjl rfl) ?_;generalize (exL t.l t.n x.cu)[j]=z at hsn hz ⊢;generalize X3r y ((exL t.l t.n x.cu).take j)=acc at hsn hml ⊢;refine gd 65 ⟨?_⟩;refine Qe (Z86 y z hy64 hz) ⟨Zz _,Zz _,Yt⟩ ?_;unfold X4m at hsn;generalize meC y z=mz at hsn ⊢;obtain⟨mc,mb⟩:=mz;cases mb
   . have hsn : X3r y ((exL t.l t.n x.cu).take (j + 1)) = acc ++ [] := hsn;rw [Y0p] at hsn;refine go ?_
     refine⟨j+1,fun i=>i,hjl,by show (exL t.l t.n x.cu).length-(j+1)<(exL t.l t.n x.cu).length-j; omega,fun _ _=>rfl,Zk,
      ⟨Qp hsr,Qp Yt,Qt 1 0 0,Qw 2,Qp (Z1 _),Qp Yt,⟨_,by show some _=some _; rw [hinc],.pure _ Yt⟩,Yt⟩,⟨Qs ⟨Zi y,Yt⟩,⟨by decide,_,rfl,?_⟩,Yt⟩⟩
     rw [hsn];exact .same _ (Z1 _)
   . have hsn : X3r y ((exL t.l t.n x.cu).take (j + 1)) = acc ++ [mc] := hsn;refine gd 72 ⟨?_⟩
     refine ZF (Zt (k:=2) (m := [cuC mc]) (fl:=true) rfl rfl rfl (fun q hq=>by rw [Y0g] at hq; subst hq; rfl) rfl (by
      show ((acc.map cuC).length+1)*48<=_
      rw [Y0f];omega)) rfl rfl ?_
     refine go ?_
     refine⟨j+1,mv 2 5,hjl,by show (exL t.l t.n x.cu).length-(j+1)<(exL t.l t.n x.cu).length-j; omega,fun i hi=>absurd hi (YE i),Zu rfl,
      ⟨Qp hsr,Qp Yt,Qt 1 0 0,Qw 2,Qp (Z1 _),Qp Yt,⟨_,by show some _=some _; rw [hinc],.pure _ Yt⟩,Yt⟩,⟨Qs ⟨Zi y,Yt⟩,⟨by decide,_,rfl,?_⟩,Yt⟩⟩
     show Xu _ _ ⟨2,acc.map cuC ++ [cuC mc]⟩ ⟨2,(X3r y ((exL t.l t.n x.cu).take (j+1))).map cuC⟩;rw [hsn,Y0r];exact .same _ (by show X3 (acc.map cuC ++ [mc].map cuC); rw [<- Y0r]; exact Z1 _)
 . have hjl : j = (exL t.l t.n x.cu).length := by omega
   subst hjl;rw [Y0q] at hml ⊢;have hmi:=ZbT hy hei;have hsl:=Z5L haf.1 _ hmi;refine Zb (Zm (k:=11) rfl rfl (Z1 _)) ?_;refine Qo (Qz rfl (Y4a _)) ?_;refine gd 81 ⟨?_⟩;refine Qo (Zn (xs:=t.rs) (g:=afR t) rfl rfl k rfl hk rfl) ?_;rw [hx];refine gd 83 ⟨?_⟩;refine Qe (Z7g (X4j t x) _ false false haf.1 (by omega) hmi (by omega)) ⟨Z1 _,Z1 _,Yt⟩ ?_;refine gd 90 ⟨?_⟩;refine Qe (Z4a _ false (Z3d haf.1 hmi) (by omega)) ⟨Z1 _,Yt⟩ ?_;refine go ?_;exact Z8 rfl ⟨Z1 _,Yt,Yt⟩ rfl
theorem Zi2 (S:Nat):hoC (0,0) S=true:=(Z1a _ _).2 ⟨fun i hi=>by simp at hi,fun i hi=>by simp at hi⟩
theorem Zjx (y:Cu) (l:List Cu) (S:Nat):soC (X3r y l) S=(hoC y S&&soC l S):=by
 unfold X3r;rw [Z9b]
 induction l with
 | nil=>simp [soC]
 | cons i l ih =>
   rw [Y3h,ih,Z3v];have e:soC (X4m y i) S=(hoC y S&&hoC i S):=by
    unfold X4m meC;by_cases h:emC (X17 y i)=true
    . rw [Y5 h,Y6 (by decide),<- Z5F,Z2I h]; rfl
    . rw [Y6 h,Y5 rfl,Z91,Z5F]
   rw [e];cases hoC y S<;>cases hoC i S<;>cases soC l S<;>rfl
theorem ZkC {t:PB} (h:Xt t) {r:RU} (hr:X3H t.n r) {S:Nat} (hS:InS t S):soC (X4j t r) S=(!Xl t S || !Xl t (Xc r S)):=by
 have hb:=Z7h h;have ht:=hr.tg;have hn:=ZcZ ht.1 ht.2.1 h.n.2 hS;rw [<- Zg6 h hS,<- Zg6 h hn];unfold X4j X3W;rw [Y0q];have e:soC (X1m t++(X1m t).flatMap (X4u r.tg r.rev)) S=(soC (X1m t) S||soC ((X1m t).flatMap (X4u r.tg r.rev)) S):=Y2Y;rw [e,Z9b];congr 1;unfold soC;rw [YN,Y01,Y01];refine Y3q fun b=>Y2A fun hbm=>?_;rw [ZfU (Z49 hb.1 b hbm) (show r.tg<64 by omega) (hS.lt h.n.2)];unfold X4u;cases X40 b r.tg r.rev with
 | true=>rw [Y5 rfl,Y1i]; simp [soC]
 | false=>rw [Y6 (by decide),Y34]; simp [soC]
theorem Zlg {t:PB} (h:Xt t) {r:RU} (hr:X3H t.n r) {c:Cu} (hc:InM 62 c) {S:Nat} (hS:InS t S):soC (bfL t r c) S=(Xl t S&&(XK t r S&&hoC c (Xc r S))):=by
 have ht:=hr.tg;have hc64:=hc.lt (by decide);have hbd:=ZhU hc64 (show r.tg<64 by omega) (hS.lt h.n.2);have hex:=ZiK h.good.small h.n.2 hr.cu hS;obtain⟨-,-,hel,hei⟩:=Z8g h hr.m;have haf:=Zg8 h hr;have hrv:(r.rev||hoC r.cu (clo t.l S))=hoC r.cu (clo t.l S):=by
  cases hv:r.rev with
  | false=>rfl
  | true=>rw [hr.rv hv,Zi2]; rfl
 unfold XK;rw [hrv];unfold bfL;cases hbb:X40 c r.tg r.rev with
 | false =>
   rw [Y6 (by decide)];rw [hbb,Y34] at hbd;show false=_;generalize Xl t S=g1;generalize Xl t (Xc r S)=g2;generalize hoC r.cu (clo t.l S)=g3;generalize decide (Xc r S≠S)=g4 at hbd ⊢;generalize hoC c (Xc r S)=g5 at hbd ⊢
   revert hbd
   cases g1<;>cases g2<;>cases g3<;>cases g4<;>cases g5<;>decide
 | true =>
   rw [Y5 rfl];rw [hbb,Y1i] at hbd;have hyi:=ZbS hc ⟨ht.1,ht.2.2⟩ r.rev;rw [Z94 (Z49 (Z3d haf.1 (ZbT hyi hei))),Za9 haf.1,Zjx,hex,ZkC h hr hS,hbd];generalize Xl t S=g1;generalize Xl t (Xc r S)=g2;generalize hoC r.cu (clo t.l S)=g3;generalize decide (Xc r S≠S)=g4;generalize hoC c (Xc r S)=g5;cases g1<;>cases g2<;>cases g3<;>cases g4<;>cases g5<;>decide
theorem Zlh {t:PB} (h:Xt t) {r:RU} (hr:X3H t.n r) {c:Cu} (hc:InM 62 c):(∀ c'∈bfL t r c,InM 62 c'/\emC c'=false)/\(bfL t r c).length<=1024:=by
 have ht:=hr.tg;obtain⟨-,-,hel,hei⟩:=Z8g h hr.m;have haf:=Zg8 h hr;have hyi:=ZbS hc ⟨ht.1,ht.2.2⟩ r.rev;have h2:=X4J (Z3d haf.1 (ZbT hyi hei));unfold bfL
 split
 . exact⟨fun c' hc'=>⟨h2.1 c' hc',(Z2U hc').2⟩,h2.2⟩
 . exact⟨(fun c' hc'=>by cases hc'),by simp⟩
end
section
open Go.RowKit
theorem ZiN {l:List Pr} {n N:Nat}:∀ (rs:List Nat) (x:List Cu),(∀ c∈x,c.1 ||| mkN n=mkN n/\c.2=N)->∀ c∈exF l n rs x,c.1 ||| mkN n=mkN n/\c.2=N
 | [],x,h=>h
 | r :: rs, x, h => ZiN rs _ fun c hc => by
   obtain⟨y,hy,hc⟩:=Y1d.1 (Z2U hc).1;obtain⟨a,ha,rfl⟩:=Y0i.1 hc;refine⟨Xe.2 fun i hi=>?_,(h y hy).2⟩;rw [Y00,YP,YH,Y0n] at hi;rcases hi with hi|rfl
   . exact Xe.1 (h y hy).1 i hi
   . have := (Y1c.1 ha).2;rw [Y0z,Y0k] at this;exact this.2
theorem ZkD {t:PB} (c:Cu):∀ c'∈exL t.l t.n c,InM (mkN t.n) c':=fun c' hc'=>by
 have h1:=ZiN (l:=t.l) (n:=t.n) (mem c.1) [(0,exN t.l t.n (mem c.2))] (fun c hc=>by rw [Y0g] at hc; subst hc; exact⟨Y40 _,rfl⟩) c' hc';refine⟨h1.1,?_⟩;rw [h1.2];refine Xe.2 fun i hi=>?_;rcases (Z7a t.l t.n i (mem c.2) 0).1 hi with h2|⟨r,hr',h2,h3⟩
 . simp at h2
 . exact h3
theorem ZbU {m:Nat} {l:List Cu} (hl:∀ c∈l,InM m c):∀ c∈X34 l,InM m c:=fun c hc=>hl c (Z2U hc).1
theorem Zjy {m:Nat} {l:List Cu} {c:Cu} (hl:∀ b∈l,InM m b) (hc:InM m c):∀ c'∈X35 l c,InM m c':=by
 have main:∀ (l:List Cu),(∀ b∈l,InM m b)->∀ out:List Cu,(∀ c∈out,InM m c)->∀ c∈l.foldl X3O out,InM m c:=by
  intro l
  induction l with
  | nil=>exact fun _ out h=>h
  | cons b l ih=>exact fun hl out h=>ih (fun x hx=>hl x (YA _ hx)) _ (ZbE h (hl b (Y0t ..)))
 refine main l hl _ fun c' hc'=>?_
 split at hc'
 . cases hc'
 . rw [Y0g] at hc'; subst hc'; exact hc
theorem Zd7 {m:Nat} {bad l:List Cu} (hb:∀ b∈bad,InM m b) (hl:∀ c∈l,InM m c):∀ c∈X1b bad l,InM m c:=fun c hc=>by
 obtain⟨x,hx,hc⟩:=Y1d.1 hc;exact Zjy hb (hl x hx) c hc
theorem Zd8 (t:PB) (l:List Cu):∀ c∈XZ t l,InM (mkN t.n) c:=fun c hc=>by
 obtain⟨x,hx,hc⟩:=Y1d.1 hc;exact ZkD x c hc
theorem Zjz (t:PB):∀ c∈X1m t,InM (mkN t.n) c:=ZbU (Zd8 t t.nv)
theorem Zli (t:PB):∀ c∈X52 t,InM (mkN t.n) c:=ZbU (Zd7 (Zjz t) (Zd8 t t.gl))
theorem ZiO {m:Nat} {c:Cu} (h:InM m c) (hm:m<18446744073709551616) {tg:Nat} (ht:tg<64) (rev:Bool):InM m (X2E c tg rev):=by
 have h64:=h.lt hm;have hp:=ZQ ht;unfold X2E
 split
 . exact⟨h.1,Z6r h64.2 hp h.2⟩
 . exact⟨Z6r h64.1 hp h.1,h.2⟩
theorem Zlz {t:PB} (h:Xt t) {r:RU} (hr:X3H t.n r) {c:Cu} (hc:InM (mkN t.n) c):∀ c'∈bfL t r c,InM (mkN t.n) c':=by
 have ht:=hr.tg;have hm:=Z5m h.n.2;have hbit:(mkN t.n).testBit r.tg=true:=by rw [Z29,Y8 ht.1,Y8 ht.2.1]; rfl
 have h1:=ZiO hc hm (show r.tg<64 by omega) r.rev;have hy:InM (mkN t.n) (X3X c r.tg r.rev):=by
  unfold X3X
  split
  . exact Z97 h1 hbit
  . exact ZcX h1 hbit
 have ha:∀ c∈X4j t r,InM (mkN t.n) c:=fun c hc=>by
  unfold X4j X3W at hc;rcases Y0h.1 hc with hc|hc
  . exact Zjz t c hc
  . obtain ⟨x, hx, hc⟩ := Y1d.1 hc;unfold X4u at hc
    split at hc
    . rw [Y0g] at hc; subst hc;exact ZiO (Zjz t x (YM hx)) hm (by omega) _
    . cases hc
 have hml:∀ c'∈X3r (X3X c r.tg r.rev) (exL t.l t.n r.cu),InM (mkN t.n) c':=fun c' hc'=>by
  obtain⟨i,hi,hc'⟩:=Y1d.1 hc';have hi:=ZkD r.cu i hi;unfold X4m meC at hc';by_cases h:emC (X17 (X3X c r.tg r.rev) i)=true
  . rw [Y5 h,Y6 (by decide)] at hc'; cases hc'
  . rw [Y6 h,Y5 rfl,Y0g] at hc'; subst hc'; exact Zg9 hy hi
 unfold bfL
 split
 . exact ZbU (Zd7 ha hml)
 . exact fun c' hc'=>by cases hc'
theorem Zgb {m:Nat} {c:Cu} (h:InM m c) (S:Nat):hoC c (S &&& m)=hoC c S:=by
 rw [YN,Z1a,Z1a];refine and_congr (forall_congr' fun i=>Y3j fun hi=>?_) (forall_congr' fun i=>Y3j fun hi=>?_)
 . rw [Y0z,Xe.1 h.1 i hi,Y1j]
 . rw [Y0z,Xe.1 h.2 i hi,Y1j]
theorem ZjA {m:Nat} {l:List Cu} (h:∀ c∈l,InM m c) (S:Nat):soC l (S &&& m)=soC l S:=by
 unfold soC;rw [YN,Y01,Y01];exact Y3q fun c=>Y2A fun hc=>by rw [Zgb (h c hc)]
theorem Zi3 (t:PB) (S:Nat):InS t (S &&& mkN t.n):=Xe.2 fun i hi=>by
 rw [Y0z,Y0k] at hi;exact hi.2
abbrev KE:=Cu×Int×Nat
def kcs (ks:List KE):List Cu:=ks.map (·.1)
structure X23 (t:PB) (ks:List KE):Prop where
 mem:∀ e∈ks,InM 62 e.1/\InM (mkN t.n) e.1/\emC e.1=false
 how:∀ i e,ks[i]?=some e->(e.2.1 = -1/\∀ S,InS t S->hoC e.1 S=true->Xl t S=true/\Xr t S=true) \/
  ∃ (r to:Nat) (x:RU) (e':KE),e.2=((r:Int),to)/\t.rs[r]?=some x/\to<i/\ks[to]?=some e'/\∀ S,InS t S->hoC e.1 S=true->Xl t S=true/\XK t x S=true/\hoC e'.1 (Xc x S)=true
 ws:∃ ws:List Nat,ws.length=ks.length/\ws.Nodup/\∀ w∈ws,InS t w/\soC (kcs ks) w=true
theorem X23.nil (t:PB):X23 t []:=⟨fun e he=>(by cases he),fun i e he=>(by simp at he),⟨[],rfl,Y3v,fun w hw=>(by cases hw)⟩⟩
theorem Z4x {t:PB} {w:Nat} (h:InS t w):w % 2=0/\w / 2<2 ^ t.n:=by
 have h0:w.testBit 0=false:=Yy.2 fun h0=>by
  have:=Xe.1 h 0 h0;rw [Z29] at this; cases this
 rw [Y2q] at h0;have h1:¬ w % 2=1:=Yw h0;have h2:w<=mkN t.n:=by rw [<- h]; exact YU
 unfold mkN at h2;have:=Y2T t.n;omega
theorem X23.len {t:PB} {ks:List KE} (h:X23 t ks):ks.length<=2 ^ t.n:=by
 obtain⟨ws,h1,h2,h3⟩:=h.ws;have hnd:(ws.map (· / 2)).Nodup:=by
  rw [Y16,Y1v];refine Y1z (fun {a b} ha hb hab e=>hab ?_) (Y16.1 h2);have x1:=Z4x (h3 a ha).1;have x2:=Z4x (h3 b hb).1;omega
 have:=Z2t (2 ^ t.n) _ hnd fun x hx=>by
  obtain⟨w,hw,rfl⟩:=Y0i.1 hx;exact (Z4x (h3 w hw).1).2
 rw [Y0f] at this;omega
theorem X23.c64 {t:PB} {ks:List KE} (h:X23 t ks):∀ c∈kcs ks,Xv c:=fun c hc=>by
 obtain⟨e,he,rfl⟩:=Y0i.1 hc;exact (h.mem e he).1.lt (by decide)
theorem Z9c (ks:List KE) (e:KE):kcs (ks ++ [e])=kcs ks ++ [e.1]:=by simp [kcs]
theorem Zgc {a b:List Cu} {S:Nat} (h:soC a S=true):soC (a++b) S=true:=by
 have e:soC (a++b) S=(soC a S||soC b S):=Y2Y;rw [e,h,Y2E]
theorem X23.add {t:PB} {ks:List KE} (h:X23 t ks) {e:KE} (hm:InM 62 e.1/\InM (mkN t.n) e.1/\emC e.1=false) (hcov:X29 (kcs ks) e.1=false)
 (hh : (e.2.1 = -1 /\ ∀ S, InS t S -> hoC e.1 S = true -> Xl t S = true /\ Xr t S = true) \/
   ∃ (r to:Nat) (x:RU) (e':KE),e.2=((r:Int),to)/\t.rs[r]?=some x/\ks[to]?=some e'/\∀ S,InS t S->hoC e.1 S=true->Xl t S=true/\XK t x S=true/\hoC e'.1 (Xc x S)=true):X23 t (ks ++ [e]):=by
 obtain⟨ws,h1,h2,h3⟩:=h.ws;refine⟨fun x hx=>(Y0h.1 hx).elim (h.mem x) fun hx=>by rw [Y0g] at hx; subst hx; exact hm,fun i x hx=>?_,?_⟩
 . by_cases hi : i < ks.length
   . rw [YI hi] at hx;rcases h.how i x hx with h4|⟨r,to,y,e',h4,h5,h6,h7,h8⟩
     . exact .inl h4
     . exact .inr ⟨r,to,y,e',h4,h5,h6,by rw [YI (by omega)]; exact h7,h8⟩
   . have hi2 : i = ks.length := by
      have:=(Y7.1 hx).1;rw [Y0e,Y0s] at this;omega
     subst hi2;rw [YJ (Y0m _),Y35] at hx;cases hx;rcases hh with h4|⟨r,to,y,e',h4,h5,h7,h8⟩
     . exact .inl h4
     . have hlt := (Y7.1 h7).1;exact .inr ⟨r,to,y,e',h4,h5,hlt,by rw [YI hlt]; exact h7,h8⟩
 . obtain ⟨S, hS1, hS2⟩ : ∃ S, hoC e.1 S = true /\ soC (kcs ks) S = false := by
    apply YW;intro hn;have:X29 (kcs ks) e.1=true:=(Z92 _ h.c64 _).2 fun S hS=>by
     cases hso:soC (kcs ks) S with
     | true=>rfl
     | false=>exact absurd ⟨S,hS,hso⟩ hn
    rw [hcov] at this; cases this
   have hn:∀ c∈kcs ks,InM (mkN t.n) c:=fun c hc=>by
    obtain⟨e,he,rfl⟩:=Y0i.1 hc;exact (h.mem e he).2.1
   refine⟨ws ++ [S &&& mkN t.n],by rw [Y0e,Y0e,h1]; rfl,?_,fun w hw=>?_⟩
   . rw [Y2G];refine⟨h2,by simp,fun a ha b hb hab=>?_⟩;rw [Y0g] at hb;subst hb;subst hab;have:=(h3 _ ha).2;rw [ZjA hn,hS2] at this; cases this
   . rw [Z9c];rcases Y0h.1 hw with hw|hw
     . exact⟨(h3 w hw).1,Zgc (h3 w hw).2⟩
     . rw [Y0g] at hw; subst hw;refine⟨Zi3 t S,?_⟩;rw [Z6n,Zgb hm.2.1,hS1,Y38]
inductive X20 (t:PB):Nat->Prop
 | base {S:Nat} (hS:InS t S) (hg:Xl t S=true) (hr:Xr t S=true):X20 t S
 | step {S:Nat} {x:RU} (hS:InS t S) (hg:Xl t S=true) (hx:x∈t.rs) (hs:XK t x S=true) (h:X20 t (Xc x S)):X20 t S
def X1h (t:PB):Nat->List Nat->Nat->Prop
 | S,[],E=>E=S
 | S,k :: p,E=>∃ x,t.rs[k]?=some x/\XK t x S=true/\X1h t (Xc x S) p E
theorem X20.good {t:PB} {S:Nat} (h:X20 t S):InS t S/\Xl t S=true:=by
 cases h with
 | base h1 h2 _=>exact⟨h1,h2⟩
 | step h1 h2 _ _ _=>exact⟨h1,h2⟩
theorem Z8i {t:PB} {x:RU} {S:Nat} (h:XK t x S=true):Xl t (Xc x S)=true:=by
 unfold XK at h;rw [Y0k,Y0k] at h;exact h.2.1
theorem Z1M {t:PB} (h:Xt t) {x:RU} (hx:x∈t.rs) {S:Nat} (hS:InS t S):InS t (Xc x S):=ZcZ (h.rs x hx).tg.1 (h.rs x hx).tg.2.1 h.n.2 hS
theorem Z6s {t:PB} (h:Xt t):∀ (p:List Nat) {S E:Nat},InS t S->Xl t S=true->X1h t S p E->Xr t E=true->X20 t S
 | [],S,E,hS,hg,hr,he=>by cases hr; exact .base hS hg he
 | k :: p, S, E, hS, hg, ⟨x, hx, hs, hr⟩, he => by
   have hxm:=YX hx;exact .step hS hg hxm hs (Z6s h p (Z1M h hxm hS) (Z8i hs) hr he)
inductive X2H (ks:List KE):Nat->List Nat->Prop
 | stop {i:Nat} {e:KE} (h:ks[i]?=some e) (hr:e.2.1<0):X2H ks i []
 | step {i r to:Nat} {e:KE} {p:List Nat} (h:ks[i]?=some e) (hr:e.2=((r:Int),to)) (hp:X2H ks to p):X2H ks i (r :: p)
theorem Zd9 {t:PB} (h:Xt t) {ks:List KE} (hk:X23 t ks) {i:Nat} {p:List Nat} (hp:X2H ks i p):∀ {e:KE},ks[i]?=some e->∀ {S:Nat},InS t S->hoC e.1 S=true->Xl t S=true/\∃ E,X1h t S p E/\Xr t E=true:=by
 induction hp with
 | stop he hr =>
   rename_i i e0;intro e he' S hS hho;rw [he] at he'; cases he';rcases hk.how _ _ he with h4|⟨r,to,x,e',h4,_⟩
   . exact⟨(h4.2 S hS hho).1,S,rfl,(h4.2 S hS hho).2⟩
   . rw [h4] at hr; simp only at hr; omega
 | step he hr hp ih =>
   rename_i i r to e0 p;intro e he' S hS hho;rw [he] at he'; cases he';rcases hk.how _ _ he with h4|⟨r',to',x,e',h4,h5,h6,h7,h8⟩
   . rw [hr] at h4; simp only at h4; omega
   . rw [hr] at h4;obtain⟨h41,h42⟩:=Y3A h4;obtain rfl:r=r':=Y4I h41;subst h42;obtain⟨a1,a2,a3⟩:=h8 S hS hho;have hxm:=YX h5;obtain⟨b1,E,b2,b3⟩:=ih h7 (Z1M h hxm hS) a3;exact⟨a1,E,⟨x,h5,a2,b2⟩,b3⟩
theorem X23.path {t:PB} {ks:List KE} (hk:X23 t ks):∀ (m i:Nat),i<m->i<ks.length->∃ p,X2H ks i p
 | 0,i,h,_=>absurd h (by omega)
 | m + 1, i, h, hi => by
   have he:=Y0c hi;rcases hk.how i _ he with h4|⟨r,to,x,e',h4,h5,h6,h7,h8⟩
   . exact⟨[],.stop he (by rw [h4.1]; decide)⟩
   . obtain ⟨p, hp⟩ := hk.path m to (by omega) (Y7.1 h7).1;exact⟨r :: p,.step he h4 hp⟩
theorem X23.able {t:PB} (h:Xt t) {ks:List KE} (hk:X23 t ks) {S:Nat} (hS:InS t S) (hso:soC (kcs ks) S=true):X20 t S:=by
 obtain⟨c,hc,hho⟩:=Y01.1 hso;obtain⟨e,he,rfl⟩:=Y0i.1 hc;obtain⟨i,hi,rfl⟩:=Y1B.1 he;obtain⟨p,hp⟩:=hk.path (i+1) i (Y2N _) hi;obtain⟨hg,E,h1,h2⟩:=Zd9 h hk hp (Y0c hi) hS hho;exact Z6s h p hS hg h1 h2
def X62 (t:PB) (c:Cu) (x:RU) (ks:List KE):Prop:=∀ S,InS t S->Xl t S=true->XK t x S=true->hoC c (Xc x S)=true->soC (kcs ks) S=true
def X5q (t:PB) (c:Cu) (ks:List KE):Prop:=∀ x∈t.rs,X62 t c x ks
def X3A (t:PB) (ks:List KE):Prop:=∀ S,InS t S->Xl t S=true->Xr t S=true->soC (kcs ks) S=true
theorem Z9d {ks ks':List KE} (h:ks <+: ks') {S:Nat} (hs:soC (kcs ks) S=true):soC (kcs ks') S=true:=by
 obtain⟨u,rfl⟩:=h;have:kcs (ks++u)=kcs ks++kcs u:=by simp [kcs]
 rw [this];exact Zgc hs
theorem X62.pre {t:PB} {c:Cu} {x:RU} {ks ks':List KE} (h:X62 t c x ks) (hp:ks <+: ks'):X62 t c x ks':=fun S a b d e=>Z9d hp (h S a b d e)
theorem X5q.pre {t:PB} {c:Cu} {ks ks':List KE} (h:X5q t c ks) (hp:ks <+: ks'):X5q t c ks':=fun x hx=>(h x hx).pre hp
theorem X3A.pre {t:PB} {ks ks':List KE} (h:X3A t ks) (hp:ks <+: ks'):X3A t ks':=fun S a b c=>Z9d hp (h S a b c)
theorem Zad {t:PB} (h:Xt t) {ks:List KE} (ht:X3A t ks) (he:∀ e∈ks,X5q t e.1 ks) {S:Nat} (ha:X20 t S):soC (kcs ks) S=true:=by
 induction ha with
 | base hS hg hr=>exact ht _ hS hg hr
 | step hS hg hx hs _ ih =>
   obtain⟨c,hc,hho⟩:=Y01.1 ih;obtain⟨e,hem,rfl⟩:=Y0i.1 hc;exact he e hem _ hx _ hS hg hs hho
theorem ZkE {t:PB} {ks:List KE} (hk:X23 t ks) {c:Cu} (h:X29 (kcs ks) c=true) {S:Nat} (hs:hoC c S=true):soC (kcs ks) S=true:=(Z92 _ hk.c64 _).1 h S hs
inductive Rch (t:PB):Nat->Prop
 | base:Rch t t.st
 | step {S:Nat} {x:RU} (h:Rch t S) (hx:x∈t.rs) (hs:XK t x S=true):Rch t (Xc x S)
theorem Rch.inS {t:PB} (h:Xt t) {S:Nat} (hr:Rch t S):InS t S:=by
 induction hr with
 | base=>exact h.st
 | step _ hx _ ih=>exact Z1M h hx ih
theorem Xt.sgood {t:PB} (h:Xt t):Xl t t.st=true:=by unfold Xl; rw [h.sg]; rfl
theorem Zda {t:PB} {S:Nat} (ha:X20 t S):∃ p E,X1h t S p E/\Xr t E=true:=by
 induction ha with
 | base hS hg hr=>exact⟨[],_,rfl,hr⟩
 | step hS hg hx hs _ ih =>
   obtain⟨p,E,h1,h2⟩:=ih;obtain⟨k,hk,rfl⟩:=Y1B.1 hx;exact⟨k :: p,E,⟨_,Y0c hk,hs,h1⟩,h2⟩
theorem Zgd {t:PB}:∀ (p:List Nat) {S E:Nat},Rch t S->X1h t S p E->Rch t E
 | [],S,E,h,hr=>by cases hr; exact h
 | k :: p,S,E,h,⟨x,hx,hs,hr⟩=>Zgd p (.step h (YX hx) hs) hr
theorem Z6t {t:PB}:∀ (p:List Nat) {S E:Nat} {k:Nat} {x:RU},X1h t S p E->t.rs[k]?=some x->XK t x E=true->X1h t S (p ++ [k]) (Xc x E)
 | [],S,E,k,x,hr,hx,hs=>by cases hr; exact⟨x,hx,hs,rfl⟩
 | j :: p,S,E,k,x,⟨y,hy,h1,h2⟩,hx,hs=>⟨y,hy,h1,Z6t p h2 hx hs⟩
theorem ZjB {t:PB} {S:Nat} (h:Rch t S):∃ p,X1h t t.st p S:=by
 induction h with
 | base=>exact⟨[],rfl⟩
 | step _ hx hs ih =>
   obtain⟨p,hp⟩:=ih;obtain⟨k,hk,rfl⟩:=Y1B.1 hx;exact⟨p ++ [k],Z6t p hp (Y0c hk) hs⟩
theorem able_iff {t:PB} (h:Xt t):X20 t t.st↔∃ E,Rch t E/\Xr t E=true:=by
 constructor
 . intro ha;obtain⟨p,E,h1,h2⟩:=Zda ha;exact⟨E,Zgd p .base h1,h2⟩
 . rintro ⟨E, h1, h2⟩;obtain⟨p,hp⟩:=ZjB h1;exact Z6s h p h.st h.sgood hp h2
structure X1H (t:PB) (ks:List KE):Prop where
 inv:X23 t ks
 tgt:X3A t ks
 exp:∀ e∈ks,X5q t e.1 ks
 no:soC (kcs ks) t.st=false
theorem X1H.not_able {t:PB} (h:Xt t) {ks:List KE} (hn:X1H t ks):¬ X20 t t.st:=fun ha=>by
 have:=Zad h hn.tgt hn.exp ha;rw [hn.no] at this; cases this
theorem X1H.able_iff {t:PB} (h:Xt t) {ks:List KE} (hn:X1H t ks) {S:Nat} (hS:InS t S):soC (kcs ks) S=true↔X20 t S:=⟨hn.inv.able h hS,Zad h hn.tgt hn.exp⟩
def X1D (t:PB) (p:List Nat):Prop:=∃ E,X1h t t.st p E/\Xr t E=true
theorem X1D.able {t:PB} (h:Xt t) {p:List Nat} (hp:X1D t p):X20 t t.st:=by
 obtain⟨E,h1,h2⟩:=hp;exact Z6s h p h.st h.sgood h1 h2
theorem X23.plan {t:PB} (h:Xt t) {ks:List KE} (hk:X23 t ks) {i:Nat} {e:KE} (he:ks[i]?=some e) (hs:hoC e.1 t.st=true) {p:List Nat} (hp:X2H ks i p):X1D t p:=by
 obtain⟨_,E,h1,h2⟩:=Zd9 h hk hp he h.st hs;exact⟨E,h1,h2⟩
theorem Z4R {t:PB} {S E:Nat} (h:X1h t S [] E):E=S:=h
theorem ZjC {t:PB} {l:List Nat} (hn:l.Nodup) (hl:∀ s∈l,InS t s):l.length<=2 ^ t.n:=by
 have hnd:(l.map (· / 2)).Nodup:=by
  rw [Y16,Y1v];refine Y1z (fun {a b} ha hb hab e=>hab ?_) (Y16.1 hn);have x1:=Z4x (hl a ha);have x2:=Z4x (hl b hb);omega
 have:=Z2t (2 ^ t.n) _ hnd fun x hx=>by
  obtain⟨w,hw,rfl⟩:=Y0i.1 hx;exact (Z4x (hl w hw)).2
 rwa [Y0f] at this
theorem ZjD {t:PB} {i:Nat} (hi:i<2 ^ t.n):InS t (2*i):=Xe.2 fun j hj=>by
 rw [Z29];cases j with
 | zero=>simp at hj
 | succ j =>
   rw [Y2r,show 2*i / 2=i by omega] at hj;have:j<t.n:=Nat.lt_of_not_le fun h=>by
    rw [Y1O (YF hi (YO (by decide) h))] at hj;cases hj
   rw [Y8 (show 1<=j+1 by omega),Y8 (show j+1<=t.n by omega)]; rfl
theorem Zef {l:List Nat} {a:Nat} (h:l.Nodup) (ha:a ∉ l):(l ++ [a]).Nodup:=by
 rw [Y2G];exact⟨h,by simp,fun x hx y hy e=>by rw [Y0g] at hy; subst hy; subst e; exact ha hx⟩
def X33 (k:Nat):List PV := [.val (.int .i64 (k:Int))]
def inL (l:List Nat):List (List PV):=l.map X33
theorem Zw (l:List Nat):X3 (inL l):=Zc (enc:=X33) (fun _=>⟨Yt,Yt⟩) l
theorem Z2n (l:List Nat):(inL l).length=l.length:=by simp [inL]
theorem Zi4 (l:List Nat) (k:Nat):inL l ++ [X33 k]=inL (l ++ [k]):=by simp [inL]
def X4E (out:List Nat) (s:Nat):List Nat:=if s∈out then out else out ++ [s]
theorem Zi5 (out:List Nat) (s:Nat):s∈X4E out s:=by unfold X4E; split<;>simp_all
theorem Zi6 (out:List Nat) (s:Nat):out <+: X4E out s:=by
 unfold X4E
 split
 . exact Y3H _
 . exact List.prefix_append _ _
theorem ZjE {out:List Nat} (h:out.Nodup) (s:Nat):(X4E out s).Nodup:=by
 unfold X4E
 split
 . exact h
 . rename_i hs; exact Zef h hs
theorem Zi7 {out:List Nat} {p:Nat->Prop} (h:∀ x∈out,p x) {s:Nat} (hs:p s):∀ x∈X4E out s,p x:=fun x hx=>by
 unfold X4E at hx
 split at hx
 . exact h x hx
 . rcases Y0h.1 hx with hx | hx
   . exact h x hx
   . rw [Y0g] at hx; subst hx; exact hs
structure X3u (t:PB) (at':Nat) (out:List Nat):Prop where
 nd:out.Nodup
 rch:∀ s∈out,Rch t s
 st:t.st∈out
 le:at'<=out.length
 cl:∀ i S,i<at'->out[i]?=some S->∀ x∈t.rs,XK t x S=true->Xc x S∈out
structure X4A (t:PB) (at':Nat) (S k:Nat) (out:List Nat):Prop where
 i:X3u t at' out
 s:out[at']?=some S
 ok:∀ j x,j<k->t.rs[j]?=some x->XK t x S=true->Xc x S∈out
theorem X3u.base (t:PB):X3u t 0 [t.st]:=⟨by simp,fun s hs=>by rw [Y0g] at hs; subst hs; exact .base,by simp,Y0l _,fun i S hi=>absurd hi (YE i)⟩
theorem X3u.len {t:PB} (h:Xt t) {a:Nat} {out:List Nat} (hi:X3u t a out):out.length<=2 ^ t.n:=ZjC hi.nd fun s hs=>(hi.rch s hs).inS h
theorem X3u.begin {t:PB} {a:Nat} {out:List Nat} (hi:X3u t a out) {S:Nat} (hs:out[a]?=some S):X4A t a S 0 out:=⟨hi,hs,fun j x hj=>absurd hj (YE j)⟩
theorem Z9e {α:Type} {out out':List α} (h:out <+: out') {i:Nat} {S:α} (hs:out[i]?=some S):out'[i]?=some S:=by
 obtain⟨u,rfl⟩:=h;rw [YI (Y7.1 hs).1]; exact hs
theorem pre_get' {α:Type} {out out':List α} (h:out <+: out') {i:Nat} {S:α} (hs:out'[i]?=some S) (hi:i<out.length):out[i]?=some S:=by
 obtain⟨u,rfl⟩:=h
 rwa [YI hi] at hs
theorem X4A.skip {t:PB} {a S k:Nat} {out:List Nat} (h:X4A t a S k out) {x:RU} (hx:t.rs[k]?=some x) (hn:XK t x S=false):X4A t a S (k+1) out :=
 ⟨h.i,h.s,fun j y hj hy hs=>by
  by_cases e:j<k
  . exact h.ok j y e hy hs
  . obtain rfl : j = k := by omega
    rw [hx] at hy; cases hy
    rw [hn] at hs; cases hs⟩
theorem X4A.add {t:PB} {a S k:Nat} {out:List Nat} (h:X4A t a S k out) {x:RU} (hx:t.rs[k]?=some x) (hs:XK t x S=true):X4A t a S (k+1) (X4E out (Xc x S)):=by
 have hp:=Zi6 out (Xc x S);have hS:Rch t S:=h.i.rch S (YX h.s);refine⟨⟨ZjE h.i.nd _,Zi7 h.i.rch (.step hS (YX hx) hs),hp.subset h.i.st,Y03 h.i.le hp.length_le,fun i T hi hT y hy hs'=>?_⟩,Z9e hp h.s,fun j y hj hy hs'=>?_⟩
 . exact hp.subset (h.i.cl i T hi (pre_get' hp hT (YF hi h.i.le)) y hy hs')
 . by_cases e : j < k
   . exact hp.subset (h.ok j y e hy hs')
   . obtain rfl : j = k := by omega
     rw [hx] at hy; cases hy;exact Zi5 _ _
theorem X4A.done {t:PB} {a S k:Nat} {out:List Nat} (h:X4A t a S k out) (hk:t.rs.length<=k):X3u t (a+1) out :=
 ⟨h.i.nd,h.i.rch,h.i.st,(Y7.1 h.s).1,fun i T hi hT y hy hs=>by
  by_cases e:i<a
  . exact h.i.cl i T e hT y hy hs
  . obtain rfl : i = a := by omega
    rw [h.s] at hT; cases hT;obtain⟨j,hj,rfl⟩:=Y1B.1 hy
    exact h.ok j _ (by omega) (Y0c hj) hs⟩
theorem X3u.all {t:PB} {out:List Nat} (h:X3u t out.length out) {S:Nat} (hr:Rch t S):S∈out:=by
 induction hr with
 | base=>exact h.st
 | step _ hx hs ih =>
   obtain⟨i,hi,rfl⟩:=Y1B.1 ih;exact h.cl i _ hi (Y0c hi) _ hx hs
theorem X3u.able {t:PB} (h:Xt t) {out:List Nat} (hi:X3u t out.length out):out.any (Xr t)=true↔X20 t t.st:=by
 rw [able_iff h,Y01];exact Y3q fun S=>and_congr_left fun _=>⟨hi.rch S,hi.all⟩
def orL:List Nat->Nat
 | []=>0
 | x :: r=>x ||| orL r
theorem Z9f (i:Nat):∀ l:List Nat,(orL l).testBit i=true↔∃ x∈l,x.testBit i=true
 | []=>by simp [orL]
 | x :: r => by
   rw [orL,Y00,YP,Z9f i r];simp
noncomputable def X1d (l:List Pr) (c:Cu):Nat:=orL ((mem (c.1 ||| c.2)).map (sen l))
theorem Z9g {l:List Pr} {c:Cu} (h64:Xv c) {b r:Nat} (hb:c.1.testBit b=true \/ c.2.testBit b=true) (hr:(sen l b).testBit r=true):(X1d l c).testBit r=true:=by
 unfold X1d;rw [Z9f];refine⟨sen l b,Y1F ((ZY (Z1S h64.1 h64.2)).2 ?_),hr⟩;rw [Y00,YP]; exact hb
theorem Z6u {l:List Pr} (hl:XL l) (s b:Nat) (hs:s<18446744073709551616):(clo l s).testBit b=true↔∃ r,s.testBit r=true/\1<=r/\(sen l b).testBit r=true:=by
 rw [ZfG _ _ hs];refine Y3q fun r=>Y2A fun _=>Y2A fun _=>?_;rw [Z6W hl,Z4O hl];exact or_congr_right eq_comm
theorem Zi8 {l:List Pr} (hl:XL l) {s s':Nat} (hs:s<18446744073709551616) (hs':s'<18446744073709551616) (b:Nat) (he:∀ r,1<=r->(sen l b).testBit r=true->s.testBit r=s'.testBit r):(clo l s).testBit b=(clo l s').testBit b:=by
 rw [YN,Z6u hl s b hs,Z6u hl s' b hs'];constructor
 . rintro ⟨r, h1, h2, h3⟩;exact⟨r,by rw [<- he r h2 h3]; exact h1,h2,h3⟩
 . rintro ⟨r, h1, h2, h3⟩;exact⟨r,by rw [he r h2 h3]; exact h1,h2,h3⟩
theorem Z4E {l:List Pr} (hl:XL l) {c:Cu} (h64:Xv c) {s s':Nat} (hs:s<18446744073709551616) (hs':s'<18446744073709551616) (he:∀ r,1<=r->(X1d l c).testBit r=true->s.testBit r=s'.testBit r):hoC c (clo l s)=hoC c (clo l s'):=by
 have key:∀ b,(c.1.testBit b=true \/ c.2.testBit b=true)->(clo l s).testBit b=(clo l s').testBit b:=fun b hb=>Zi8 hl hs hs' b fun r h1 hr=>he r h1 (Z9g h64 hb hr);rw [YN,Z1a,Z1a];refine and_congr (forall_congr' fun i=>Y3j fun hi=>?_) (forall_congr' fun i=>Y3j fun hi=>?_)
 . rw [key i (.inl hi)]
 . rw [key i (.inr hi)]
structure X3Y (t:PB) (R:Nat):Prop where
 gl:∀ c∈t.gl,∀ r,1<=r->(X1d t.l c).testBit r=true->R.testBit r=true
 rs:∀ x∈t.rs,x.rev=false->R.testBit x.tg=true->∀ r,1<=r->(X1d t.l x.cu).testBit r=true->R.testBit r=true
 nv:∀ c∈t.nv,X1d t.l c &&& R≠0->∀ r,1<=r->(X1d t.l c).testBit r=true->R.testBit r=true
noncomputable def kzL (t:PB) (R:Nat):List (RU×Nat):=t.rs.zipIdx.filter fun q=>R.testBit q.1.tg
noncomputable def X1U (t:PB) (R:Nat):List Nat:=(kzL t R).map (·.2)
noncomputable def Xo (t:PB) (R:Nat):PB:={ t with st:=t.st &&& R,rs:=(kzL t R).map (·.1),nv:=t.nv.filter fun c=>decide (X1d t.l c &&& R≠0) }
theorem Zge {t:PB} {R:Nat} {q:RU×Nat} (h:q∈kzL t R):t.rs[q.2]?=some q.1/\R.testBit q.1.tg=true:=by
 obtain⟨h1,h2⟩:=Y1c.1 h;exact⟨Y21.1 h1,h2⟩
theorem Z3A {t:PB} {R:Nat} {x:RU}:x∈(Xo t R).rs↔x∈t.rs/\R.testBit x.tg=true:=by
 constructor
 . intro h;obtain⟨q,hq,rfl⟩:=Y0i.1 h;exact⟨YX (Zge hq).1,(Zge hq).2⟩
 . rintro ⟨h, hR⟩;obtain⟨i,hi,rfl⟩:=Y1B.1 h;exact Y0i.2 ⟨(t.rs[i],i),Y1c.2 ⟨Y21.2 (Y0c hi),hR⟩,rfl⟩
theorem ZjF {t:PB} {R:Nat} {j:Nat} {x:RU} (h:(Xo t R).rs[j]?=some x):∃ i,(X1U t R)[j]?=some i/\t.rs[i]?=some x/\R.testBit x.tg=true:=by
 have h:((kzL t R).map (·.1))[j]?=some x:=h;rw [Y0y] at h;cases hq:(kzL t R)[j]? with
 | none=>rw [hq] at h; cases h
 | some q =>
   rw [hq] at h;cases h;have:=Zge (YX hq);exact⟨q.2,by unfold X1U; rw [Y0y,hq]; rfl,this.1,this.2⟩
theorem Z32 {a:Nat} (h:a<18446744073709551616) (b:Nat):a &&& b<18446744073709551616:=Y02 Y1m h
section
variable {t:PB} (h:Xt t) {R:Nat} (hR:X3Y t R)
include h
theorem Xt.c64 {c:Cu} (hc:c∈t.nv \/ c∈t.gl):Xv c:=by
 rcases hc with hc|hc
 . exact (h.nv c hc).1.lt h.n.2
 . exact (h.gl c hc).1.lt h.n.2
include hR
theorem Z2L {S:Nat} (hS:InS t S) (hg:Xl t S=true):Xl (Xo t R) (S &&& R)=true:=by
 have h64:=hS.lt h.n.2;unfold Xl soC at hg ⊢;rw [Y12,Y1R] at hg ⊢;intro c hc;obtain⟨hc1,hc2⟩:=Y1c.1 (show c∈t.nv.filter _ from hc);have:=Z4E h.good.small (h.c64 (.inl hc1)) h64 (Z32 h64 R) fun r h1 hr=>by
  rw [Y0z,hR.nv c hc1 (Y0u hc2) r h1 hr,Y1j]
 show ¬ hoC c (clo t.l (S &&& R))=true;rw [<- this];exact hg c hc1
theorem Zeg {S:Nat} (hS:InS t S) (hg:Xl (Xo t R) (S &&& R)=true) (ho:∀ i,1<=i->R.testBit i=false->S.testBit i=t.st.testBit i):Xl t S=true:=by
 have h64:=hS.lt h.n.2;unfold Xl soC at hg ⊢;rw [Y12,Y1R] at hg ⊢;intro c hc;by_cases hd:X1d t.l c &&& R≠0
 . have := Z4E h.good.small (h.c64 (.inl hc)) h64 (Z32 h64 R) fun r h1 hr => by
    rw [Y0z,hR.nv c hc hd r h1 hr,Y1j]
   rw [this];exact hg c (Y1c.2 ⟨hc,Y8 hd⟩)
 . have hd : X1d t.l c &&& R = 0 := Y3w.1 hd;have:=Z4E h.good.small (h.c64 (.inl hc)) h64 (InS.lt h.n.2 h.st) fun r h1 hr=>by
    refine ho r h1 (Yy.2 fun hb=>?_);have:(X1d t.l c &&& R).testBit r=true:=by rw [Y0z,hr,hb]; rfl
    rw [hd] at this; simp at this
   rw [this];have hs:=h.sg;unfold soC at hs;rw [Y1R] at hs;exact hs c hc
theorem Z5M {S:Nat} (hS:InS t S):Xr (Xo t R) (S &&& R)=Xr t S:=by
 have h64:=hS.lt h.n.2;show t.gl.any (fun c=>hoC c (clo t.l (S &&& R)))=t.gl.any fun c=>hoC c (clo t.l S);rw [YN,Y01,Y01];refine Y3q fun c=>Y2A fun hc=>?_;rw [Z4E h.good.small (h.c64 (.inr hc)) h64 (Z32 h64 R) fun r h1 hr=>by rw [Y0z,hR.gl c hc r h1 hr,Y1j]]
theorem Z4S:Xt (Xo t R) where
 n:=h.n
 good:=h.good
 lk:=h.lk
 st:=Xe.2 fun i hi=>by
  have:(t.st &&& R).testBit i=true:=hi;rw [Y0z,Y0k] at this;exact Xe.1 h.st i this.1
 rl:=by
  show ((kzL t R).map _).length<=64;rw [Y0f];refine Y03 (Y1H ..) ?_;rw [Y49]; exact h.rl
 rs:=fun r hr=>h.rs r (Z3A.1 hr).1
 nl:=Y03 (Y1H ..) h.nl
 nv:=fun c hc=>h.nv c (Y1c.1 (show c∈t.nv.filter _ from hc)).1
 gk:=h.gk
 gl:=h.gl
 sg:=by
  have:=Z2L h hR h.st h.sgood;unfold Xl at this
  rwa [Y12] at this
theorem Z3e {x:RU} (hx:x∈t.rs) (ht:R.testBit x.tg=true) {S:Nat} (hS:InS t S):Xc x (S &&& R)=Xc x S &&& R:=YD fun i=>by
 have h64:=hS.lt h.n.2;have hl:x.tg<64:=by have:=(h.rs x hx).tg; omega
 rw [Y0z,ZR hl (Z32 h64 R),ZR hl h64];by_cases hi:i=x.tg
 . subst hi; rw [Y5 rfl,Y5 rfl,ht,Y1j]
 . rw [Y6 hi,Y6 hi,Y0z]
theorem Zae {x:RU} (hx:x∈t.rs) (ht:R.testBit x.tg=false) {S:Nat} (hS:InS t S):Xc x S &&& R=S &&& R:=YD fun i=>by
 have h64:=hS.lt h.n.2;have hl:x.tg<64:=by have:=(h.rs x hx).tg; omega
 rw [Y0z,ZR hl h64,Y0z];by_cases hi:i=x.tg
 . subst hi; rw [ht,Y3Z,Y3Z]
 . rw [Y6 hi]
theorem Zaf {x:RU} (hx:x∈t.rs) (ht:R.testBit x.tg=true) {S:Nat} (hS:InS t S) (hs:XK t x S=true):XK (Xo t R) x (S &&& R)=true:=by
 have h64:=hS.lt h.n.2;have hl:x.tg<64:=by have:=(h.rs x hx).tg; omega
 unfold XK at hs ⊢;rw [Y0k,Y0k,Y0n,Z2y hl h64] at hs;rw [Y0k,Y0k,Y0n,Z2y hl (Z32 h64 R)];refine⟨by rw [Y0z,ht,Y1j]; exact hs.1,?_,?_⟩
 . rw [Z3e h hR hx ht hS];exact Z2L h hR (Z1M h hx hS) hs.2.1
 . have h2 := hs.2.2;cases hv:x.rev with
   | true=>rfl
   | false =>
     rw [hv] at h2;have:=Z4E h.good.small ((h.rs x hx).cu.lt h.n.2) h64 (Z32 h64 R) fun r h1 hr=>by
      rw [Y0z,hR.rs x hx hv ht r h1 hr,Y1j]
     show (false||hoC x.cu (clo t.l (S &&& R)))=true;rw [<- this]; exact h2
theorem Zeh {x:RU} (hx:x∈t.rs) (ht:R.testBit x.tg=true) {S:Nat} (hS:InS t S) (hs:XK (Xo t R) x (S &&& R)=true) (ho:∀ i,1<=i->R.testBit i=false->S.testBit i=t.st.testBit i):XK t x S=true:=by
 have h64:=hS.lt h.n.2;have hl:x.tg<64:=by have:=(h.rs x hx).tg; omega
 unfold XK at hs ⊢;rw [Y0k,Y0k,Y0n,Z2y hl (Z32 h64 R)] at hs;rw [Y0k,Y0k,Y0n,Z2y hl h64];obtain⟨h1,h2,h3⟩:=hs;rw [Y0z,ht,Y1j] at h1;refine⟨h1,?_,?_⟩
 . rw [Z3e h hR hx ht hS] at h2;refine Zeg h hR (Z1M h hx hS) h2 fun i h1 hi=>?_;rw [ZR hl h64,Y6 (fun e=>by subst e; rw [ht] at hi; cases hi)];exact ho i h1 hi
 . cases hv : x.rev with
   | true=>rfl
   | false =>
     rw [hv] at h3;have:=Z4E h.good.small ((h.rs x hx).cu.lt h.n.2) h64 (Z32 h64 R) fun r h1 hr=>by
      rw [Y0z,hR.rs x hx hv ht r h1 hr,Y1j]
     rw [this]; exact h3
theorem Zag:∀ (p:List Nat) {S E':Nat},InS t S->(∀ i,1<=i->R.testBit i=false->S.testBit i=t.st.testBit i)->X1h (Xo t R) (S &&& R) p E' ->
 (∀ k∈p,k<(X1U t R).length)/\∃ E,X1h t S (p.map fun j=>(X1U t R).getD j 0) E/\E &&& R=E'/\InS t E
 | [],S,E',hS,ho,hr=>⟨fun k hk=>absurd hk (by simp),S,rfl,hr.symm,hS⟩
 | j :: p, S, E', hS, ho, ⟨x, hx, hs, hr⟩ => by
   obtain⟨i,hi,hxi,ht⟩:=ZjF hx;have hm:=YX hxi;have h64:=hS.lt h.n.2;have hl:x.tg<64:=by have:=(h.rs x hm).tg; omega
   rw [Z3e h hR hm ht hS] at hr
   obtain⟨h0,E,h1,h2,h3⟩:=Zag p (Z1M h hm hS) (fun i h1 hi=>by
    rw [ZR hl h64,Y6 (fun e=>by subst e; rw [ht] at hi; cases hi)]
    exact ho i h1 hi) hr
   refine⟨fun k hk=>?_,E,⟨x,?_,Zeh h hR hm ht hS hs ho,h1⟩,h2,h3⟩
   . rcases YB.1 hk with rfl | hk
     . exact (Y7.1 hi).1
     . exact h0 k hk
   . show t.rs[(X1U t R).getD j 0]? = some x;rw [Y0b,hi]; exact hxi
theorem Zah {S:Nat} (ha:X20 t S):X20 (Xo t R) (S &&& R):=by
 have hin:∀ {S},InS t S->InS (Xo t R) (S &&& R):=fun {S} hS=>Xe.2 fun i hi=>by
  rw [Y0z,Y0k] at hi;exact Xe.1 hS i hi.1
 induction ha with
 | base hS hg hr=>exact .base (hin hS) (Z2L h hR hS hg) (by rw [Z5M h hR hS]; exact hr)
 | @step S x hS hg hx hs _ ih =>
   by_cases ht:R.testBit x.tg=true
   . rw [<- Z3e h hR hx ht hS] at ih;exact .step (hin hS) (Z2L h hR hS hg) (Z3A.2 ⟨hx,ht⟩) (Zaf h hR hx ht hS hs) ih
   . have ht : R.testBit x.tg = false := Yy.2 ht;rw [Zae h hR hx ht hS] at ih;exact ih
theorem Z8j {p:List Nat} (hp:X1D (Xo t R) p):(∀ k∈p,k<(X1U t R).length)/\X1D t (p.map fun j=>(X1U t R).getD j 0):=by
 obtain⟨E',h1,h2⟩:=hp;obtain⟨h0,E,h3,rfl,h4⟩:=Zag h hR p h.st (fun _ _ _=>rfl) h1;exact⟨h0,E,h3,by rw [<- Z5M h hR h4]; exact h2⟩
theorem Z8k:X20 (Xo t R) (Xo t R).st↔X20 t t.st:=by
 constructor
 . intro ha;obtain⟨p,E,h1,h2⟩:=Zda ha;exact (Z8j h hR ⟨E,h1,h2⟩).2.able h
 . exact Zah h hR
end
structure X4t (t:PB) (V:Nat->Prop):Prop where
 st:¬ V t.st
 tg:∀ S,InS t S->Xl t S=true->Xr t S=true->V S
 cl:∀ S,InS t S->Xl t S=true->∀ x∈t.rs,XK t x S=true->V (Xc x S)->V S
theorem X4t.not_able {t:PB} (h:Xt t) {V:Nat->Prop} (hv:X4t t V):¬ X20 t t.st:=by
 have key:∀ {S},X20 t S->V S:=fun {S} ha=>by
  induction ha with
  | base hS hg hr=>exact hv.tg _ hS hg hr
  | step hS hg hx hs _ ih=>exact hv.cl _ hS hg _ hx hs ih
 exact fun ha=>hv.st (key ha)
def X1R (R:Nat) (c:Cu):Cu:=(c.1 &&& R,c.2 &&& R)
theorem ZkF {R S:Nat} {c:Cu} (h:hoC c (S &&& R)=true):hoC (X1R R c) S=true:=by
 rw [Z1a] at h ⊢;refine⟨fun i hi=>?_,fun i hi=>?_⟩
 . have hi : (c.1 &&& R).testBit i = true := hi;rw [Y0z,Y0k] at hi;have:=h.1 i hi.1;rw [Y0z,Y0k] at this;exact this.1
 . have hi : (c.2 &&& R).testBit i = true := hi;rw [Y0z,Y0k] at hi;have:=h.2 i hi.1
   rwa [Y0z,hi.2,Y1j] at this
theorem ZkG {R S:Nat} {c:Cu} (he:emC c=false) (h:hoC (X1R R c) S=true):∃ T,hoC c T=true/\T &&& R=S &&& R/\T=(S &&& R) ||| c.1:=by
 rw [Z1a] at h;have hcc:∀ i,c.1.testBit i=true->c.2.testBit i=false:=fun i hi=>by
  refine Yy.2 fun hb=>?_;have:emC c=true:=by
   unfold emC;refine Y8 fun h0=>?_;have:(c.1 &&& c.2).testBit i=true:=by rw [Y0z,hi,hb]; rfl
   rw [h0] at this; simp at this
  rw [he] at this; cases this
 have hand:((S &&& R) ||| c.1) &&& R=S &&& R:=YD fun i=>by
  rw [Y0z,Y00,Y0z];cases hr:R.testBit i with
  | false=>simp
  | true =>
    cases hc:c.1.testBit i with
    | false=>simp
    | true =>
      have:=h.1 i (by show (c.1 &&& R).testBit i=true; rw [Y0z,hc,hr]; rfl);simp [this]
 refine⟨_,(Z1a _ _).2 ⟨fun i hi=>?_,fun i hi=>?_⟩,hand,rfl⟩
 . rw [Y00,hi,Y38]
 . rw [Y00, Y0z];have h1:c.1.testBit i=false:=Yy.2 fun hb=>by rw [hcc i hb] at hi; cases hi
   rw [h1,Y4J];cases hr:R.testBit i with
   | false=>simp
   | true =>
     have:=h.2 i (by show (c.2 &&& R).testBit i=true; rw [Y0z,hi,hr]; rfl);rw [this]; rfl
section
variable {t:PB} (h:Xt t) {R:Nat} (hR:X3Y t R)
include h hR
theorem Zi9 {l:List Cu} (hl:∀ c∈l,InM (mkN t.n) c/\emC c=false) (ha:∀ S,InS t S->Xl (Xo t R) S=true->(soC l S=true↔X20 (Xo t R) S)) (hno:¬ X20 t t.st):X4t t fun S=>soC (l.map (X1R R)) S=true:=by
 have hin:∀ {S},InS t S->InS t (S &&& R):=fun {S} hS=>Xe.2 fun i hi=>by
  rw [Y0z,Y0k] at hi;exact Xe.1 hS i hi.1
 have key:∀ S,InS t S->Xl t S=true->(soC (l.map (X1R R)) S=true↔X20 (Xo t R) (S &&& R)):=fun S hS hg=>by
  have hgp:=Z2L h hR hS hg;constructor
  . intro hv;unfold soC at hv;rw [Y01] at hv;obtain⟨d,hd,hh⟩:=hv;obtain⟨c,hc,rfl⟩:=Y0i.1 hd;obtain⟨T,h1,h2,h3⟩:=ZkG (hl c hc).2 hh;have hT:InS t T:=Xe.2 fun i hi=>by
     rw [h3,Y00,YP] at hi;rcases hi with hi|hi
     . exact Xe.1 (hin hS) i hi
     . exact Xe.1 (hl c hc).1.1 i hi
    have hgT:Xl (Xo t R) T=true:=by
     unfold Xl soC at hgp ⊢;rw [Y12,Y1R] at hgp ⊢;intro c' hc';obtain⟨hc1,hc2⟩:=Y1c.1 (show c'∈t.nv.filter _ from hc');have:=Z4E h.good.small (h.c64 (.inl hc1)) (hT.lt h.n.2) ((hin hS).lt h.n.2) fun r h1 hr=>by
      have:=congrArg (fun n=>n.testBit r) h2;simp only [Y0z,hR.nv c' hc1 (Y0u hc2) r h1 hr,Y1j] at this;rw [this,Y0z,hR.nv c' hc1 (Y0u hc2) r h1 hr,Y1j]
     show ¬ hoC c' (clo t.l T)=true;rw [this];exact hgp c' hc'
    have hsl:soC l T=true:=Y01.2 ⟨c,hc,h1⟩;have hat:=(ha T hT hgT).1 hsl
    -- the slice of the slice is the slice
    have hrel:X3Y (Xo t R) R:=⟨hR.gl,fun x hx=>hR.rs x (Z3A.1 hx).1,fun c hc=>hR.nv c (Y1c.1 (show c∈t.nv.filter _ from hc)).1⟩
    have hproj:∀ {S},X20 (Xo t R) S->X20 (Xo t R) (S &&& R):=fun {S} hb=>by
     induction hb with
     | base hS' hg' hr' =>
       have hin':InS (Xo t R) _:=hin hS';refine .base hin' ?_ ?_
       . have := Z2L (Z4S h hR) hrel hS' hg';unfold Xl soC at this hg' ⊢;rw [Y12,Y1R] at this hg' ⊢;intro c' hc';obtain⟨hc1,hc2⟩:=Y1c.1 (show c'∈t.nv.filter _ from hc');have e:=Z4E h.good.small (h.c64 (.inl hc1)) ((hin hS').lt h.n.2) (hS'.lt h.n.2) fun r h1 hr=>by
          rw [Y0z,hR.nv c' hc1 (Y0u hc2) r h1 hr,Y1j]
         show ¬ hoC c' (clo t.l _)=true;rw [e]; exact hg' c' hc'
       . have := Z5M (Z4S h hR) hrel hS';exact this.trans hr'
     | @step S x hS' hg' hx' hs' _ ih =>
       obtain⟨hx0,ht⟩:=Z3A.1 hx';have e:=Z3e h hR hx0 ht hS';rw [<- e] at ih;have hin':InS (Xo t R) _:=hin hS';have hgS:Xl (Xo t R) (S &&& R)=true:=by
        unfold Xl soC at hg' ⊢;rw [Y12,Y1R] at hg' ⊢;intro c' hc';obtain⟨hc1,hc2⟩:=Y1c.1 (show c'∈t.nv.filter _ from hc');have e:=Z4E h.good.small (h.c64 (.inl hc1)) ((hin hS').lt h.n.2) (hS'.lt h.n.2) fun r h1 hr=>by
         rw [Y0z,hR.nv c' hc1 (Y0u hc2) r h1 hr,Y1j]
        show ¬ hoC c' (clo t.l _)=true;rw [e]; exact hg' c' hc'
       refine .step hin' hgS hx' ?_ ih;have h64:=hS'.lt h.n.2;have hl':x.tg<64:=by have:=(h.rs x hx0).tg; omega
       unfold XK at hs' ⊢;rw [Y0k,Y0k,Y0n,Z2y hl' h64] at hs';rw [Y0k,Y0k,Y0n,Z2y hl' (Z32 h64 R)];refine⟨by rw [Y0z,ht,Y1j]; exact hs'.1,ih.good.2,?_⟩;have h2:=hs'.2.2;cases hv:x.rev with
       | true=>rfl
       | false =>
         rw [hv] at h2;have:=Z4E h.good.small ((h.rs x hx0).cu.lt h.n.2) h64 (Z32 h64 R) fun r h1 hr=>by
          rw [Y0z,hR.rs x hx0 hv ht r h1 hr,Y1j]
         show (false||hoC x.cu (clo t.l (S &&& R)))=true;rw [<- this]; exact h2
    have:=hproj hat
    rwa [h2] at this
  . intro hab;have:=(ha (S &&& R) (hin hS) hgp).2 hab;unfold soC at this ⊢;rw [Y01] at this ⊢;obtain⟨c,hc,hh⟩:=this;exact⟨_,Y1F hc,ZkF hh⟩
 refine⟨fun hv=>hno ((Z8k h hR).1 ((key _ h.st h.sgood).1 hv)),fun S hS hg hr=>(key S hS hg).2 (Zah h hR (.base hS hg hr)),fun S hS hg x hx hs hv=>?_⟩;have hn:=Z1M h hx hS;have hab:=(key _ hn (Z8i hs)).1 hv;refine (key S hS hg).2 ?_;by_cases ht:R.testBit x.tg=true
 . rw [<- Z3e h hR hx ht hS] at hab;exact .step (hin hS) (Z2L h hR hS hg) (Z3A.2 ⟨hx,ht⟩) (Zaf h hR hx ht hS hs) hab
 . rwa [Zae h hR hx (Yy.2 ht) hS] at hab
end
structure X5E (t:PB):Prop where
 nv:t.nv = []
 rs:∀ x∈t.rs,x.cu.2=0
 gl:∀ c∈t.gl,c.2=0
theorem Zdb {c:Cu} (h:c.2=0) {S:Nat}:hoC c S=true↔∀ i,c.1.testBit i=true->S.testBit i=true:=by
 rw [Z1a,h];simp
structure X6r (t:PB) (set:Nat) (used:List Nat):Prop where
 run:X1h t t.st used set
 up:∀ i,t.st.testBit i=true->set.testBit i=true
 ins:InS t set
 nd:used.length<=64
noncomputable def X3p (t:PB) (set:Nat) (x:RU):Bool := !x.rev&&(!set.testBit x.tg&&decide (x.cu.1 ||| clo t.l set=clo t.l set))
section
variable {t:PB} (h:Xt t) (hf:X5E t)
include h hf
theorem Zgf (S:Nat):Xl t S=true:=by
 unfold Xl; rw [hf.nv]; rfl
theorem Zia {set:Nat} {used:List Nat} (hi:X6r t set used) (hu:used.length<64) {k:Nat} {x:RU} (hx:t.rs[k]?=some x) (hb:X3p t set x=true):X6r t (set ||| 2 ^ x.tg) (used ++ [k]):=by
 have hm:=YX hx;have hl:x.tg<64:=by have:=(h.rs x hm).tg; omega
 have h64:=hi.ins.lt h.n.2;unfold X3p at hb;rw [Y0k,Y0k,Y12,Y12,Y0n] at hb;obtain⟨hr,ht,hc⟩:=hb;have hn:Xc x set=set ||| 2 ^ x.tg:=by unfold Xc; rw [hr]; rfl
 have hs:XK t x set=true:=by
  unfold XK;rw [Y0k,Y0k,Y0n,Z2y hl h64,Zgf h hf,hr];exact⟨ht,rfl,(Zdb (hf.rs x hm)).2 fun i hi=>Xe.1 hc i hi⟩
 refine⟨?_,fun i hi'=>?_,?_,?_⟩
 . rw [<- hn]; exact Z6t used hi.run hx hs
 . rw [Y00,hi.up i hi',Y2E]
 . rw [<- hn]; exact Z1M h hm hi.ins
 . rw [Y0e,Y0s]; omega
theorem ZjG {w:PB} (hw:Xt w) {R:Nat} (hwR:X3Y w R) (htw:t=Xo w R) {R':Nat} (hR':X3Y t R') (hsub:∀ i,R'.testBit i=true->R.testBit i=true) {fin:Nat} (hfi:InS t fin) (hup:∀ i,t.st.testBit i=true->fin.testBit i=true)
 (hend:∀ x∈t.rs,X3p t fin x=false) (hno:Xr t fin=false):X4t w fun S=>∃ r,R'.testBit r=true/\fin.testBit r=false/\S.testBit r=true:=by
 have hgl:w.gl=t.gl:=by rw [htw]; rfl
 have hll:w.l=t.l:=by rw [htw]; rfl
 have f64:=hfi.lt h.n.2;have below:∀ {S},InS w S->¬ (∃ r,R'.testBit r=true/\fin.testBit r=false/\S.testBit r=true)->∀ {c:Cu},Xv c->c.2=0->(∀ r,1<=r->(X1d t.l c).testBit r=true->R'.testBit r=true)->hoC c (clo w.l S)=true->∀ i,c.1.testBit i=true->(clo t.l fin).testBit i=true:=by
  intro S hS hv c h64 hc hd hh i hi;have S64:=hS.lt hw.n.2;rw [hll,Zdb hc] at hh;have:=hh i hi;rw [Z6u h.good.small S i S64] at this;rw [Z6u h.good.small fin i f64];obtain⟨r,h1,h2,h3⟩:=this;refine⟨r,?_,h2,h3⟩;cases hb:fin.testBit r with
  | true=>rfl
  | false=>exact absurd ⟨r,hd r h2 (Z9g h64 (.inl hi) h3),hb,h1⟩ hv
 refine⟨?_,fun S hS hg hr=>?_,fun S hS hg x hx hs hv=>?_⟩
 . rintro ⟨r, h1, h2, h3⟩;have:t.st.testBit r=true:=by
    rw [htw]; show (w.st &&& R).testBit r=true;rw [Y0z,h3,hsub r h1]; rfl
   rw [hup r this] at h2; cases h2
 . apply YW;intro hv;unfold Xr soC at hr hno;rw [Y01,hgl] at hr;rw [Y1R] at hno;obtain⟨c,hc,hh⟩:=hr;exact hno c hc ((Zdb (hf.gl c hc)).2 (below hS hv (h.c64 (.inr hc)) (hf.gl c hc) (hR'.gl c hc) hh))
 . apply YW;intro hvS;obtain⟨r,h1,h2,h3⟩:=hv;have S64:=hS.lt hw.n.2;have hl:x.tg<64:=by have:=(hw.rs x hx).tg; omega
   rw [ZR hl S64] at h3;by_cases hrt:r=x.tg
   . subst hrt;rw [Y5 rfl,Y12] at h3;have hxt:x∈t.rs:=by rw [htw]; exact Z3A.2 ⟨hx,hsub _ h1⟩
     have hcond:hoC x.cu (clo w.l S)=true:=by
      unfold XK at hs;rw [Y0k,Y0k,h3] at hs;exact hs.2.2
     have:=below hS hvS ((h.rs x hxt).cu.lt h.n.2) (hf.rs x hxt) (hR'.rs x hxt h3 h1) hcond;have he:=hend x hxt;unfold X3p at he;rw [h3,h2,Y8 (Xe.2 this)] at he;cases he
   . rw [Y6 hrt] at h3;exact hvS ⟨r,h1,h2,h3⟩
end
theorem X4t.congr {t:PB} {V W:Nat->Prop} (h:X4t t V) (hw:∀ S,V S↔W S):X4t t W:=⟨fun hv=>h.st ((hw _).2 hv),fun S a b c=>(hw S).1 (h.tg S a b c),fun S a b x hx hs hv=>(hw S).1 (h.cl S a b x hx hs ((hw _).2 hv))⟩
structure X4Y (t:PB) (R:Nat):Prop where
 gl:∀ c∈t.gl,X1d t.l c ||| R=R
 rs:∀ x∈t.rs,x.rev=false->R.testBit x.tg=true->X1d t.l x.cu ||| R=R
 nv:∀ c∈t.nv,X1d t.l c &&& R≠0->X1d t.l c ||| R=R
theorem X4Y.ok {t:PB} {R:Nat} (h:X4Y t R):X3Y t R :=
 ⟨fun c hc r _ hr=>Xe.1 (h.gl c hc) r hr,fun x hx hv ht r _ hr=>Xe.1 (h.rs x hx hv ht) r hr,fun c hc hd r _ hr=>Xe.1 (h.nv c hc hd) r hr⟩
structure X11 (t:PB) (R:Nat):Prop where
 a:X4Y t R
 lt:R<18446744073709551616
 least:∀ R',X4Y t R'->R ||| R'=R'
theorem Z7i {a b:Nat} (h1:a ||| b=b) (h2:b ||| a=a):a=b:=by rw [<- h2,Y4u]; exact h1
theorem X11.uniq {t:PB} {R R':Nat} (h:X11 t R) (h':X11 t R'):R=R':=Z7i (h.least R' h'.a) (h'.least R h.a)
structure X4y (t:PB) (acc:Nat):Prop where
 lt:acc<18446744073709551616
 least:∀ R',X4Y t R'->acc ||| R'=R'
theorem Z3f {a b c:Nat} (h1:a ||| b=b) (h2:b ||| c=c):a ||| c=c:=Xe.2 fun i hi=>Xe.1 h2 i (Xe.1 h1 i hi)
theorem Zgg {a b c:Nat} (h1:a ||| c=c) (h2:b ||| c=c):(a ||| b) ||| c=c:=by rw [Y3s,h2,h1]
theorem Z8l (a b:Nat):a ||| (a ||| b)=a ||| b:=by rw [<- Y3s,Nat.or_self]
theorem ZkH (a b:Nat):b ||| (a ||| b)=a ||| b:=by rw [Y4u a b]; exact Z8l b a
theorem X4y.zero (t:PB):X4y t 0:=⟨by decide,fun R' _=>Y40 R'⟩
theorem X4y.add {t:PB} {acc d:Nat} (h:X4y t acc) (hd:d<18446744073709551616) (hl:∀ R',X4Y t R'->acc ||| R'=R'->d ||| R'=R'):X4y t (acc ||| d) :=
 ⟨Z1S h.lt hd,fun R' h'=>Zgg (h.least R' h') (hl R' h' (h.least R' h'))⟩
theorem Zib {d a b:Nat} (h:d &&& a≠0) (hs:a ||| b=b):d &&& b≠0:=by
 intro h0;apply h;refine YD fun i=>?_;rw [Y1E,Y0z];cases hd:d.testBit i with
 | false=>rfl
 | true =>
   cases ha:a.testBit i with
   | false=>rfl
   | true =>
     have:(d &&& b).testBit i=true:=by rw [Y0z,hd,Xe.1 hs i ha]; rfl
     rw [h0] at this; simp at this
theorem Zgh {t:PB} {R:Nat} (h:X4Y t R):X4Y (Xo t R) R :=
 ⟨h.gl,fun x hx=>h.rs x (Z3A.1 hx).1,fun c hc=>h.nv c (Y1c.1 (show c∈t.nv.filter _ from hc)).1⟩
theorem Zai {t:PB} {R R':Nat} (h:X11 t R) (h':X11 (Xo t R) R'):R' ||| R=R:=h'.least R (Zgh h.a)
structure X67 (t:PB) (acc:Nat):Prop where
 l:X4y t acc
 gl:∀ c∈t.gl,X1d t.l c ||| acc=acc
structure X4U (t:PB) (old:Nat) (i acc:Nat):Prop where
 l:X4y t acc
 sub:old ||| acc=acc
 rs:acc=old->∀ x∈t.rs.take i,x.rev=false->old.testBit x.tg=true->X1d t.l x.cu ||| old=old
theorem Z22 {α:Type} {l:List α} {i:Nat} (h:i<l.length) {x:α}:x∈l.take (i+1)↔x∈l.take i \/ x=l[i]:=by
 rw [YZ,Y0c h];show x∈l.take i ++ [l[i]]↔_;rw [Y0h,Y0g]
theorem X4U.skip {t:PB} {old i acc:Nat} (h:X4U t old i acc) (hi:i<t.rs.length) (hs:t.rs[i].rev=true \/ acc.testBit t.rs[i].tg=false):X4U t old (i+1) acc:=by
 refine⟨h.l,h.sub,fun he x hx hv ht=>?_⟩;rcases (Z22 hi).1 hx with hx|rfl
 . exact h.rs he x hx hv ht
 . rcases hs with hs | hs
   . rw [hs] at hv; cases hv
   . rw [he,ht] at hs; cases hs
theorem X4U.add {t:PB} {old i acc:Nat} (h:X4U t old i acc) (hi:i<t.rs.length) (hd:X1d t.l t.rs[i].cu<18446744073709551616) (hv:t.rs[i].rev=false) (ht:acc.testBit t.rs[i].tg=true):X4U t old (i+1) (acc ||| X1d t.l t.rs[i].cu):=by
 refine⟨h.l.add hd fun R' h' hs=>h'.rs _ (Y0j hi) hv (Xe.1 hs _ ht),Z3f h.sub (Z8l _ _),fun he x hx hv ht=>?_⟩;have h1:acc=old:=Z7i (by rw [<- he]; exact Z8l _ _) h.sub;rcases (Z22 hi).1 hx with hx|rfl
 . exact h.rs h1 x hx hv ht
 . rw [h1] at he;rw [Y4u]; exact he
structure X43 (t:PB) (old:Nat) (i acc:Nat):Prop where
 l:X4y t acc
 sub:old ||| acc=acc
 rs:acc=old->∀ x∈t.rs,x.rev=false->old.testBit x.tg=true->X1d t.l x.cu ||| old=old
 nv:acc=old->∀ c∈t.nv.take i,X1d t.l c &&& old≠0->X1d t.l c ||| old=old
theorem X4U.done {t:PB} {old acc i:Nat} (h:X4U t old i acc) (hi:t.rs.length<=i):X43 t old 0 acc :=
 ⟨h.l,h.sub,fun he=>by have:=h.rs he; rwa [Y9 hi] at this,fun _ c hc=>by simp at hc⟩
theorem X43.skip {t:PB} {old i acc:Nat} (h:X43 t old i acc) (hi:i<t.nv.length) (hs:X1d t.l t.nv[i] &&& acc=0):X43 t old (i+1) acc:=by
 refine⟨h.l,h.sub,h.rs,fun he c hc hd=>?_⟩;rcases (Z22 hi).1 hc with hc|rfl
 . exact h.nv he c hc hd
 . rw [he] at hs; exact absurd hs hd
theorem X43.add {t:PB} {old i acc:Nat} (h:X43 t old i acc) (hi:i<t.nv.length) (hd:X1d t.l t.nv[i]<18446744073709551616) (hm:X1d t.l t.nv[i] &&& acc≠0):X43 t old (i+1) (acc ||| X1d t.l t.nv[i]):=by
 have h1:acc ||| X1d t.l t.nv[i]=old->acc=old:=fun he=>Z7i (by rw [<- he]; exact Z8l _ _) h.sub
 refine⟨h.l.add hd fun R' h' hs=>h'.nv _ (Y0j hi) (Zib hm hs),Z3f h.sub (Z8l _ _),fun he=>h.rs (h1 he),fun he c hc hm'=>?_⟩;rcases (Z22 hi).1 hc with hc|rfl
 . exact h.nv (h1 he) c hc hm'
 . have h2 := h1 he;rw [h2] at he;rw [Y4u]; exact he
theorem X43.next {t:PB} {old acc i:Nat} (h:X43 t old i acc) (hg:X67 t old):X67 t acc:=⟨h.l,fun c hc=>Z3f (hg.gl c hc) h.sub⟩
theorem X43.done {t:PB} {old i:Nat} (h:X43 t old i old) (hg:X67 t old) (hi:t.nv.length<=i):X11 t old :=
 ⟨⟨hg.gl,h.rs rfl,fun c hc=>by have:=h.nv rfl; rw [Y9 hi] at this; exact this c hc⟩,h.l.lt,h.l.least⟩
theorem Zgi {a b:Nat} (h:a ||| b=b) (hn:b≠a):a<b:=Nat.lt_of_le_of_ne (by rw [<- h]; exact YU) fun e=>hn e.symm
theorem Zgj:∀ {l:List Nat},(∀ x∈l,x<18446744073709551616)->orL l<18446744073709551616
 | [],_=>by decide
 | x :: l,h=>Z1S (h x (Y0t ..)) (Zgj fun y hy=>h y (YA _ hy))
structure X4k (t:PB) (fin:Nat) (used:List Nat):Prop where
 i:X6r t fin used
 rv:∀ k∈used,∃ x,t.rs[k]?=some x/\x.rev=false
 ln:used.length<=fin
theorem Zgk {s b:Nat} (hs:s.testBit b=false):s<s ||| 2 ^ b:=by
 refine Nat.lt_of_le_of_ne YU fun e=>?_;have:=congrArg (fun n=>n.testBit b) e;simp only [Y00,hs,Y2j,Y38] at this;cases this
theorem X4k.base {t:PB} (h:Xt t):X4k t t.st []:=⟨⟨rfl,fun _ h=>h,h.st,Y0l _⟩,fun k hk=>absurd hk (by simp),Y0l _⟩
theorem InS.le {t:PB} (hn:t.n<=5) {s:Nat} (h:InS t s):s<=62:=by
 have h1:s<=mkN t.n:=by rw [<- h]; exact YU
 have h32:2 ^ t.n<=32:=YO (n:=2) (by decide) hn;unfold mkN at h1;omega
theorem X4k.step {t:PB} (h:Xt t) (hn:t.n<=5) (hf:X5E t) {fin:Nat} {used:List Nat} (hj:X4k t fin used) {k:Nat} {x:RU} (hx:t.rs[k]?=some x) (hb:X3p t fin x=true):X4k t (fin ||| 2 ^ x.tg) (used ++ [k]):=by
 have hl:=hj.ln;have hi:=InS.le hn hj.i.ins;have hb2:=hb;unfold X3p at hb2;rw [Y0k,Y0k,Y12,Y12] at hb2;have hg:=Zgk hb2.2.1;refine⟨Zia h hf hj.i (by omega) hx hb,fun j hm=>?_,by rw [Y0e,Y0s]; omega⟩;rcases Y0h.1 hm with hm|hm
 . exact hj.rv j hm
 . rw [Y0g] at hm; subst hm; exact⟨x,hx,hb2.1⟩
structure SaP (t:PB) (used:List Nat) (fin i S:Nat):Prop where
 pre:X1h t t.st (used.take i) S
 post:X1h t S (used.drop i) fin
theorem SaP.base {t:PB} {used:List Nat} {fin:Nat} (h:X1h t t.st used fin):SaP t used fin 0 t.st:=⟨rfl,h⟩
theorem SaP.step {t:PB} {used:List Nat} {fin i S:Nat} (h:SaP t used fin i S) (hi:i<used.length) (hrv:∀ k∈used,∃ x,t.rs[k]?=some x/\x.rev=false):∃ x,t.rs[used[i]]?=some x/\SaP t used fin (i+1) (S ||| 2 ^ x.tg):=by
 have hp:=h.post;rw [Y1k hi] at hp;obtain⟨x,hx,hs,hr⟩:=hp;obtain⟨y,hy,hv⟩:=hrv _ (Y0j hi);have:x=y:=YQ (hx.symm.trans hy);subst this;have hn:Xc x S=S ||| 2 ^ x.tg:=by unfold Xc; rw [hv]; rfl
 refine⟨x,hx,?_,by rw [<- hn]; exact hr⟩;have:used.take (i+1)=used.take i ++ [used[i]]:=by rw [YZ,Y0c hi]; rfl
 rw [this,<- hn];exact Z6t _ h.pre hx hs
theorem SaP.fin {t:PB} {used:List Nat} {fin i S:Nat} (h:SaP t used fin i S) (hi:used.length<=i):S=fin:=by
 have hp:=h.post;rw [Y2w hi] at hp;exact (Z4R hp).symm
theorem Z9h {t:PB} (h:Xt t):∀ (p:List Nat) {S E:Nat},InS t S->X1h t S p E->InS t E
 | [],S,E,hS,hr=>by cases hr; exact hS
 | k :: p,S,E,hS,⟨x,hx,hs,hr⟩=>Z9h h p (Z1M h (YX hx) hS) hr
def X5v (r:Nat):Cu:=(2 ^ r,0)
def X4F (N:Nat):List Cu:=(mem N).map X5v
theorem Zgl {r R S:Nat} (hr:R.testBit r=true):hoC (X1R R (X5v r)) S=true↔S.testBit r=true:=by
 rw [Zdb (by show (0 &&& R)=0; exact Nat.zero_and R)];constructor
 . intro h;refine h r ?_;show (2 ^ r &&& R).testBit r=true;rw [Y0z,Y2j,hr]; rfl
 . intro h i hi;have hi:(2 ^ r &&& R).testBit i=true:=hi;rw [Y0z,Y0k,YH] at hi;have:=Y0u hi.1;subst this;exact h
theorem Zic {w:PB} (hw:Xt w) {R R':Nat} (hR:X11 w R) (hR':X11 (Xo w R) R') (hf:X5E (Xo w R)) {fin:Nat} {used:List Nat} (hj:X4k (Xo w R) fin used) (hend:∀ x∈(Xo w R).rs,X3p (Xo w R) fin x=false) (hno:Xr (Xo w R) fin=false) :
 X4t w fun S=>soC ((X4F (Xg R' fin)).map (X1R R)) S=true:=by
 have hsub:∀ i,R'.testBit i=true->R.testBit i=true:=fun i hi=>Xe.1 (Zai hR hR') i hi;have f64:=hj.i.ins.lt hw.n.2;have hN:Xg R' fin<18446744073709551616:=Y02 Y1m hR'.lt;refine (ZjG (Z4S hw hR.a.ok) hf hw hR.a.ok rfl hR'.a.ok hsub hj.i.ins hj.i.up hend hno).congr fun S=>?_;have hb:∀ r,(Xg R' fin).testBit r=true↔R'.testBit r=true/\fin.testBit r=false:=fun r=>by
  rw [ZG hR'.lt f64];simp
 unfold soC X4F;rw [Y01];constructor
 . rintro ⟨r, h1, h2, h3⟩;exact⟨X1R R (X5v r),Y1F (Y1F ((ZY hN).2 ((hb r).2 ⟨h1,h2⟩))),(Zgl (hsub r h1)).2 h3⟩
 . rintro ⟨c, hc, hh⟩;obtain⟨d,hd,rfl⟩:=Y0i.1 hc;obtain⟨r,hr,rfl⟩:=Y0i.1 hd;obtain⟨h1,h2⟩:=(hb r).1 ((ZY hN).1 hr);exact⟨r,h1,h2,(Zgl (hsub r h1)).1 hh⟩
end
section
open Go.RowKit
attribute [local irreducible] aw Xm dK
def X5g (t:PB) (x:RU) (s:Nat) (ok:Bool):PV:=.tup [.val (.int .u64 ((if ok then Xc x s else 0:Nat):Int)),.val (.bool ok)]
theorem Z4T {t:PB} (h:Xt t) (s:Nat) (hs:s<18446744073709551616) (k:Nat) (hk:k<t.rs.length):X7 Tryz.prog 88 [.agg (pbR t),.val (.int .u64 (s:Int)),.val (.int .i64 (k:Int))] (· = X5g t t.rs[k] s (XK t t.rs[k] s)):=by
 have hro:=h.rs _ (Y0j hk);have hpp:=Z21 t;have hrl:=Z6q t.rs;refine Yp ok88 fun C hC=>?_;refine Zo ?_;refine Za ?_;refine Z5 rfl rfl rfl ?_;refine gd 12 ⟨?_⟩;refine Qo (Qz rfl (by omega)) ?_;refine gd 18 ⟨?_⟩;refine Zr rfl ?_;refine Qo (Qz rfl (by rw [hrl];omega)) ?_;refine gd 23 ⟨?_⟩;refine Qo (Zn (xs:=t.rs) (g:=ruR) rfl rfl k rfl hk rfl) ?_;generalize t.rs[k]=x at hro ⊢;have hxt:=hro.tg;have hp:=ZQ (show x.tg<64 by omega);have hx64:=hro.m.lt (by decide);refine gd 27 ⟨?_⟩;refine Zh rfl rfl rfl (show IntKind.u64.wrap ((x.tg:Nat):Int)=((x.tg:Nat):Int) from Y0x _ ⟨by omega,by omega⟩) ?_;refine Z3l rfl rfl (by omega) (Z8U x.tg (by omega)) rfl ?_;refine gd 31 ⟨?_⟩;refine Zh rfl rfl rfl (Y1C s (2 ^ x.tg) hs hp) ?_;refine gd 33 ⟨?_⟩;have hnx:Xc x s<18446744073709551616:=by
  unfold Xc
  split
  . exact Y02 Y1m hs
  . exact Z1S hs hp
 have hgood:=Z7c h (Xc x s) hnx;have hclo:=Z2w t.l false h.good.small s hs;have hho:=Z42 x.cu (clo t.l s) hx64 (Z5h _ _);have hst:XK t x s=(!decide (((Xc x s:Nat):Int)=(s:Int))&&(Xl t (Xc x s)&&(x.rev||hoC x.cu (clo t.l s)))):=by
  unfold XK;congr 1;by_cases e:Xc x s=s
  . rw [Y0w (fun h=>h e),Y8 (by rw [e])]; rfl
  . rw [Y8 e,Y0w (show ¬ ((Xc x s:Nat):Int)=(s:Int) from fun h=>e (Y4I h))]; rfl
 rw [hst];cases hv:x.rev
 . have hnv : Xc x s = s ||| 2 ^ x.tg := by unfold Xc; rw [hv]; rfl
   rw [<- hnv];refine Qo (Z6 (v:=false) rfl hv) ?_;refine gd 39 ⟨?_⟩;cases hne:decide (((Xc x s:Nat):Int)=(s:Int))
   case true =>
    refine Qo (Z6 (v:=true) rfl hne) ?_;refine go ?_;exact Z8 rfl ⟨Yt,Yt,Yt⟩ rfl
   refine Qo (Z6 (v:=false) rfl hne) ?_;refine gd 43 ⟨?_⟩;refine Zr rfl ?_;refine Qe hgood ⟨hpp,Yt,Yt⟩ ?_;cases hg:Xl t (Xc x s)
   case false =>
    refine go ?_;exact Z8 rfl ⟨Yt,Yt,Yt⟩ rfl
   refine gd 47 ⟨?_⟩;refine Qr (Z6 (v:=false) rfl hv) ?_;refine gd 55 ⟨?_⟩;refine Z2p rfl ?_;refine Qd hclo ⟨Zl _,Yt,Yt⟩ ?_;refine gd 56 ⟨?_⟩;refine Z2p rfl ?_;refine Qd hho ⟨Z2x _,Yt,Yt⟩ ?_;cases hh:hoC x.cu (clo t.l s)
   all_goals
    refine go ?_;exact Z8 rfl ⟨Yt,Yt,Yt⟩ rfl
 . have hnv : Xc x s = Xg s (2 ^ x.tg) := by unfold Xc; rw [hv]; rfl
   refine Qo (Z6 (v:=true) rfl hv) ?_;refine gd 36 ⟨?_⟩;refine Zh rfl rfl rfl (Z15 s (2 ^ x.tg) hs hp) ?_;rw [<- hnv];refine gd 39 ⟨?_⟩;cases hne:decide (((Xc x s:Nat):Int)=(s:Int))
   case true =>
    refine Qo (Z6 (v:=true) rfl hne) ?_;refine go ?_;exact Z8 rfl ⟨Yt,Yt,Yt⟩ rfl
   refine Qo (Z6 (v:=false) rfl hne) ?_;refine gd 43 ⟨?_⟩;refine Zr rfl ?_;refine Qe hgood ⟨hpp,Yt,Yt⟩ ?_;cases hg:Xl t (Xc x s)
   case false =>
    refine go ?_;exact Z8 rfl ⟨Yt,Yt,Yt⟩ rfl
   refine gd 47 ⟨?_⟩;refine Qr (Z6 (v:=true) rfl hv) ?_;refine go ?_;exact Z8 rfl ⟨Yt,Yt,Yt⟩ rfl
def X5s (s:Nat):List PV := [.val (.int .u64 (s:Int))]
def nsL (l:List Nat):List (List PV):=l.map X5s
theorem Z23 (l:List Nat):X3 (nsL l):=Zc (enc:=X5s) (fun _=>⟨Yt,Yt⟩) l
theorem Z3B (l:List Nat):(nsL l).length=l.length:=by simp [nsL]
theorem Zid (l:List Nat) (k:Nat):nsL l ++ [X5s k]=nsL (l ++ [k]):=by simp [nsL]
theorem Zei {t:PB} (h:Xt t) (p:List Nat) (fl:Bool) (hl:p.length<=1000000) {E:Nat} (hr:X1h t t.st p E):X7 Tryz.prog 84 [.agg (pbR t),.vec (inL p) fl] (· = .tup [.val (.int .u64 (E:Int)),.val (.int .i64 (p.length:Int))]):=by
 have hpp:=Z21 t;have hpl:=Zw p;have hlen:=Z2n p;refine Yp ok84 fun C hC=>?_;have hpc:∀ D,X1I D (pbR t):=fun D=>ZC (fun _ h=>h.elim) _ hpp;have hpi:∀ D,Xs D (inL p):=fun D=>Ze (fun _ h=>h.elim) _ hpl;refine Zo ?_;refine Za ?_;refine Z5 rfl rfl rfl ?_;refine go ?_;refine Zy hC (fun (z:Nat×Nat)=>z.1<=p.length/\InS t z.2/\X1h t z.2 (p.drop z.1) E) (fun z=>p.length-z.1) 0 (fun z => [(1,.vec (inL p) fl),(2,.cp (pbR t)),(6,.val (.int .u64 (z.2:Int))),(13,.vec (inL p) fl),(14,.val (.int .i64 (p.length:Int))),(15,Yv z.1)]) (fun _=>[]) (Y0l _) (0,t.st) ⟨Y0l _,h.st,hr⟩
  ⟨⟨rfl,hpi _⟩,⟨rfl,hpc _⟩,⟨rfl,Yt⟩,⟨rfl,hpi _⟩,⟨by rw [<- hlen]; rfl,Yt⟩,⟨rfl,Yt⟩,Yt⟩ Yt ?_
 rintro⟨i,s⟩ ⟨hi,hs,hrun⟩;dsimp only at hi hs hrun;have hinc:IntKind.i64.wrap ((i:Int)+1)=((i+1:Nat):Int):=Y0v _ ⟨by omega,by omega⟩;refine gd 16 ⟨?_⟩;by_cases hil:i<p.length
 . refine Qo (Qy rfl (Y1V.2 hil)) ?_;rw [Y1k hil] at hrun;refine gd 18 ⟨?_⟩;refine Qo (Zn (xs:=p) (g:=X33) rfl rfl i rfl hil rfl) ?_;generalize p[i]=k at hrun ⊢;obtain⟨x,hx,hst,hrun⟩:=hrun;obtain⟨hkl,rfl⟩:=Y7.1 hx;refine gd 24 ⟨?_⟩;refine Qe (Z4T h s (hs.lt h.n.2) k hkl) ⟨hpp,Yt,Yt,Yt⟩ ?_;rw [hst];refine go ?_;exact⟨(i+1,Xc t.rs[k] s),⟨hil,Z1M h (Y0j hkl) hs,hrun⟩,by show p.length-(i+1)<p.length-i; omega,⟨⟨rfl,hpi _⟩,⟨rfl,hpc _⟩,⟨rfl,Yt⟩,⟨rfl,hpi _⟩,⟨rfl,Yt⟩,⟨by show some _=some _; rw [hinc],Yt⟩,Yt⟩,Yt⟩
 . refine Qo (Qz rfl (by omega)) ?_;refine go ?_;rw [Y2w (by omega)] at hrun;obtain rfl:=Z4R hrun;exact Z8 rfl ⟨Yt,Yt,Yt⟩ (by rw [hlen])
theorem Zej {t:PB} (h:Xt t) (hn:t.n<=5):X7 Tryz.prog 82 [.agg (pbR t)] fun r=>∃ out,X3u t out.length out/\r=.vec (nsL out) false:=by
 have hpp:=Z21 t;have hrb:=h.rl;have hrl:=Z6q t.rs;have h32:2 ^ t.n<=32:=YO (n:=2) (by decide) hn;refine Yp ok82 fun C hC=>?_;refine Zo ?_;refine Za ?_;refine Z5 rfl rfl rfl ?_;refine gd 13 ⟨?_⟩;refine Z3k rfl rfl rfl ?_;refine go ?_;refine ZA hC (fun (z:Nat×List Nat)=>X3u t z.1 z.2) (fun z=>2 ^ t.n-z.1) 1 (fun z => [(1,.cp (pbR t)),(3,.own 0),(4,Yv z.1)]) (fun z => [(0,⟨1,nsL z.2⟩)]) (Y0l _) (0,[t.st]) (X3u.base t) (fun i=>i) (fun _ _=>rfl) Zk
  ⟨Qp hpp,Qw 0,Qp Yt,Yt⟩ ⟨Qs ⟨⟨Yt,Yt⟩,Yt⟩,Yt⟩ ?_
 rintro⟨a,out⟩ hi;dsimp only at hi ⊢;have hal:a<=out.length:=hi.le;have hol:=hi.len h;have hinc:IntKind.i64.wrap ((a:Int)+1)=((a+1:Nat):Int):=Y0v _ ⟨by omega,by omega⟩;refine gd 17 ⟨?_⟩;by_cases hlt:a<out.length
 case neg =>
  refine Zb (Zm (k:=3) rfl rfl (Z23 _)) ?_;refine Qo (Qz rfl (by rw [Z3B];omega)) ?_;refine go ?_;have hae:a=out.length:=by omega
  exact Z8 rfl (Z23 out) ⟨out,by rw [<- hae]; exact hi,rfl⟩
 refine Qo (Qy rfl (by rw [Z3B];omega)) ?_;obtain⟨S,hS⟩:∃ S,out[a]?=some S:=⟨_,Y0c hlt⟩
 refine go ?_;refine ZA hC (fun (z:Nat×List Nat)=>z.1<=t.rs.length/\X4A t a S z.1 z.2) (fun z=>t.rs.length-z.1) 1 (fun z => [(1,.cp (pbR t)),(3,.own 0),(4,.val (.int .i64 (a:Int))),(22,.val (.int .i64 (t.rs.length:Int))),(23,Yv z.1)]) (fun z => [(0,⟨1,nsL z.2⟩)]) (Y0l _) (0,out) ⟨Y0l _,hi.begin hS⟩ (fun i=>i) (fun _ _=>rfl) Zk
  ⟨Qp hpp,Qw 0,Qp Yt,⟨_,by rw [<- hrl]; rfl,.pure _ Yt⟩,Qp Yt,Yt⟩ ⟨Qs (Z23 out),Yt⟩ ?_
 clear hi hal hol hlt hS out;rintro⟨k,out⟩ ⟨hk,hi⟩;dsimp only at hk hi ⊢;have hkinc:IntKind.i64.wrap ((k:Int)+1)=((k+1:Nat):Int):=Y0v _ ⟨by omega,by omega⟩;have hol:=hi.i.len h;refine gd 24 ⟨?_⟩;by_cases hkl:k<t.rs.length
 case neg =>
  refine Qo (Qz rfl (by omega)) ?_;refine go ?_;have h1:=hi.done (by omega);have h2:=h1.le
  refine⟨(a+1,out),fun i=>i,h1,by show 2 ^ t.n-(a+1)<2 ^ t.n-a; omega,fun _ _=>rfl,Zk,
   ⟨Qp hpp,Qw 0,⟨_,by show some _=some _; rw [hinc],.pure _ Yt⟩,Yt⟩,⟨Qs (Z23 out),Yt⟩⟩
 refine Qo (Qy rfl (Y1V.2 hkl)) ?_;have hsl:=(Y7.1 hi.s).1;have hSi:InS t S:=(hi.i.rch S (YX hi.s)).inS h;have hge:(nsL out).getD a []=X5s S:=by simp [nsL,Y0b,hi.s]
 have hst:=Z4T h S (hSi.lt h.n.2) k hkl;have hxk:=Y0c hkl;refine gd 30 ⟨?_⟩;refine Qr (ZL (k:=.i64) rfl rfl rfl a rfl (by show a<(nsL out).length; rw [Z3B]; exact hsl) rfl) ?_;refine Qr (Z25 (p:=.val (.int .u64 (S:Int))) rfl rfl (by show a<(nsL out).length; rw [Z3B]; exact hsl) (by show X10 false 1 0 ((nsL out).getD a [])=_; rw [hge]; rfl)) ?_;refine gd 33 ⟨?_⟩;refine Qd hst ⟨hpp,Yt,Yt,Yt⟩ ?_;generalize t.rs[k]=x at hxk ⊢;cases hs:XK t x S
 case false =>
  refine go ?_
  refine⟨(k+1,out),fun i=>i,⟨hkl,hi.skip hxk hs⟩,by show t.rs.length-(k+1)<t.rs.length-k; omega,fun _ _=>rfl,Zk,
   ⟨Qp hpp,Qw 0,Qp Yt,Qp Yt,⟨_,by show some _=some _; rw [hkinc],.pure _ Yt⟩,Yt⟩,⟨Qs (Z23 out),Yt⟩⟩
 have hadd:=hi.add hxk hs;have hstn:X5g t x S true=.tup [.val (.int .u64 ((Xc x S:Nat):Int)),.val (.bool true)]:=rfl;rw [hstn];generalize Xc x S=nx at hadd ⊢;refine go ?_;refine ZA hC (fun (i:Nat)=>i<=out.length) (fun i=>out.length-i) 1 (fun i => [(1,.cp (pbR t)),(3,.own 0),(4,.val (.int .i64 (a:Int))),(6,.val (.int .u64 (nx:Int))),(8,.val (.bool (decide (nx∈out.take i)))),(22,.val (.int .i64 (t.rs.length:Int))),(23,.val (.int .i64 (k:Int))),(38,.own 0),(39,.val (.int .i64 (out.length:Int))),(40,Yv i)]) (fun _ => [(0,⟨1,nsL out⟩)]) (Y0l _) 0 (Y0l _) (fun i=>i) (fun _ _=>rfl) Zk
  ⟨Qp hpp,Qw 0,Qp Yt,Qp Yt,⟨_,by show some _=some _; rw [Y0w (by simp)],.pure _ Yt⟩,Qp Yt,Qp Yt,Qw 0,⟨_,by rw [<- Z3B]; rfl,.pure _ Yt⟩,Qp Yt,Yt⟩ ⟨Qs (Z23 out),Yt⟩ ?_
 intro i hio;have hiinc:IntKind.i64.wrap ((i:Int)+1)=((i+1:Nat):Int):=Y0v _ ⟨by omega,by omega⟩;refine gd 41 ⟨?_⟩;by_cases hil:i<out.length
 . refine Qo (Qy rfl (Y1V.2 hil)) ?_;have htk:=ZS hil;have hgi:(nsL out).getD i []=X5s out[i]:=by simp [nsL,Y0b,hil]
   generalize out[i]=y at htk hgi;refine gd 42 ⟨?_⟩;refine Qo (ZL (k:=.i64) rfl rfl rfl i rfl (by show i<(nsL out).length; rw [Z3B]; exact hil) rfl) ?_;refine Qo (Z25 (p:=.val (.int .u64 (y:Int))) rfl rfl (by show i<(nsL out).length; rw [Z3B]; exact hil) (by show X10 false 1 0 ((nsL out).getD i [])=_; rw [hgi]; rfl)) ?_;refine gd 46 ⟨?_⟩;by_cases hyn:y=nx
   . refine Qo (Qy rfl (by rw [hyn])) ?_;refine go ?_
     exact⟨i+1,fun i=>i,hil,by show out.length-(i+1)<out.length-i; omega,fun _ _=>rfl,Zk,
      ⟨Qp hpp,Qw 0,Qp Yt,Qp Yt,⟨_,by show some _=some _; rw [Y8 (by rw [htk,hyn]; simp)],.pure _ Yt⟩,Qp Yt,Qp Yt,Qw 0,Qp Yt,⟨_,by show some _=some _; rw [hiinc],.pure _ Yt⟩,Yt⟩,⟨Qs (Z23 out),Yt⟩⟩
   . refine Qo (Qz rfl (fun h => hyn (Y4I h))) ?_;refine go ?_
     exact⟨i+1,fun i=>i,hil,by show out.length-(i+1)<out.length-i; omega,fun _ _=>rfl,Zk,
      ⟨Qp hpp,Qw 0,Qp Yt,Qp Yt,⟨_,by show some (PV.val (.bool (decide (nx∈out.take i))))=some _; rw [htk,Y26.2 (show nx∈out.take i↔nx∈out.take i ++ [y] by rw [Y0h,Y0g]; exact⟨.inl,fun h=>h.elim (fun h=>h) fun h=>absurd h.symm hyn⟩)],.pure _ Yt⟩,Qp Yt,Qp Yt,Qw 0,Qp Yt,⟨_,by show some _=some _; rw [hiinc],.pure _ Yt⟩,Yt⟩,⟨Qs (Z23 out),Yt⟩⟩
 . refine Qo (Qz rfl (by omega)) ?_;have hie:i=out.length:=by omega
   rw [hie,Y0q];unfold X4E at hadd;by_cases hm:nx∈out
   . rw [Y5 hm] at hadd;rw [Y8 hm];refine go ?_
     exact⟨(k+1,out),fun i=>i,⟨hkl,hadd⟩,by show t.rs.length-(k+1)<t.rs.length-k; omega,fun _ _=>rfl,Zk,
      ⟨Qp hpp,Qw 0,Qp Yt,Qp Yt,⟨_,by show some _=some _; rw [hkinc],.pure _ Yt⟩,Yt⟩,⟨Qs (Z23 out),Yt⟩⟩
   . rw [Y6 hm] at hadd;rw [Y0w hm];refine gd 53 ⟨?_⟩
     refine ZF (Zt (k:=0) (m := [X5s nx]) (fl:=true) rfl rfl rfl (fun q hq=>by rw [Y0g] at hq; subst hq; rfl) rfl (by
      show ((nsL out).length+1)*8<=_
      rw [Z3B];omega)) rfl rfl ?_
     simp only;rw [Zid];refine go ?_
     exact⟨(k+1,out ++ [nx]),mv 0 1,⟨hkl,hadd⟩,by show t.rs.length-(k+1)<t.rs.length-k; omega,fun i hi=>absurd hi (YE i),Zu rfl,
      ⟨Qp hpp,Qw 0,Qp Yt,Qp Yt,⟨_,by show some _=some _; rw [hkinc],.pure _ Yt⟩,Yt⟩,⟨Qs (Z23 _),Yt⟩⟩
theorem Z7C {t:PB} (h:Xt t) (hn:t.n<=5):X7 Tryz.prog 29 [.agg (pbR t)] fun r=>∃ b:Bool,(b=true↔X20 t t.st)/\r=.val (.bool b):=by
 have hpp:=Z21 t;have h32:2 ^ t.n<=32:=YO (n:=2) (by decide) hn;have hpc:∀ D,X1I D (pbR t):=fun D=>ZC (fun _ h=>h.elim) _ hpp;refine Yp ok29 fun C hC=>?_;refine Zo ?_;refine Za ?_;refine Z5 rfl rfl rfl ?_;refine gd 6 ⟨?_⟩;refine ZD rfl rfl (Zej h hn) ⟨hpp,Yt⟩ rfl ?_;rintro r ⟨out,hi,rfl⟩;have hab:=hi.able h;have hol:=hi.len h;have hp:∀ D,Xs D (nsL out):=fun D=>Ze (fun _ h=>h.elim) _ (Z23 out);refine go ?_;refine Zy hC (fun i=>i<=out.length/\(out.take i).any (Xr t)=false) (fun i=>out.length-i) 0 (fun i => [(1,.cp (pbR t)),(6,.vec (nsL out) false),(7,.val (.int .i64 (out.length:Int))),(8,Yv i)]) (fun _=>[]) (Y0l _) 0 ⟨Y0l _,by simp⟩
  ⟨⟨rfl,hpc _⟩,⟨rfl,hp _⟩,⟨by rw [<- Z3B]; rfl,Yt⟩,⟨rfl,Yt⟩,Yt⟩ Yt ?_
 rintro i ⟨hi2,hno⟩;have hinc:IntKind.i64.wrap ((i:Int)+1)=((i+1:Nat):Int):=Y0v _ ⟨by omega,by omega⟩;refine gd 9 ⟨?_⟩;by_cases hil:i<out.length
 . refine Qo (Qy rfl (Y1V.2 hil)) ?_;have htk:=ZS hil;have hm:=Y0j hil;refine gd 10 ⟨?_⟩;refine Qo (Zn (xs:=out) (g:=X5s) rfl rfl i rfl hil rfl) ?_;generalize out[i]=x at htk hm ⊢;have hx:=(hi.rch x hm).inS h;refine gd 14 ⟨?_⟩;refine Qe (Z45 h x (hx.lt h.n.2)) ⟨hpp,Yt,Yt⟩ ?_;cases hr:Xr t x
   . refine go ?_;exact⟨i+1,⟨hil,by rw [htk,Y2Y,hno]; simp [hr]⟩,by omega,⟨⟨rfl,hpc _⟩,⟨rfl,hp _⟩,⟨rfl,Yt⟩,⟨by show some _=some _; rw [hinc],Yt⟩,Yt⟩,Yt⟩
   . refine go ?_;exact Z8 rfl Yt ⟨true,⟨fun _=>hab.1 (Y01.2 ⟨x,hm,hr⟩),fun _=>rfl⟩,rfl⟩
 . refine Qo (Qz rfl (by omega)) ?_;refine go ?_;have:i=out.length:=by omega
   rw [this,Y0q] at hno;exact Z8 rfl Yt ⟨false,⟨fun h=>(by cases h),fun h=>by rw [hab.2 h] at hno; cases hno⟩,rfl⟩
section
variable {P:Program} {e:Env} {h:X1} {n:Nat}
theorem Z4U {d:Option Nat} {z:Rsv} {i mask:Nat} {op:AOp} {iso:Nat} {alt:Bool} {g:Nat×Bool} {xs:List Xa} {K:Env->X1->Prop} (hw:X1o (some g) e=some false) (hk:dK P z n xs (Xy e d pvu) h K):dK P z n (⟨i,⟨d,op,some g⟩,mask,iso,alt⟩ :: xs) e h K:=by
 unfold dK;exact⟨_,.skip hw,fun p' f' hh=>by obtain⟨rfl,rfl⟩:=hh; exact hk⟩
end
theorem ZkI:XD 0=.agg [.vec [] false]:=by unfold XD; rw [ZM]; rfl
theorem Zie {x:RU} (hx:x.tg<64) {s:Nat} (hs:s<18446744073709551616):Xc x s<18446744073709551616:=by
 unfold Xc
 split
 . exact Y02 Y1m hs
 . exact Z1S hs (ZQ hx)
def X6b (x:RU) (s:Nat) (ok:Bool):PV:=.tup [XD (if ok then Xc x s else 0),.val (.bool ok)]
theorem Z5u (x:RU) (s:Nat):PV.tup [.agg [.vec [] false],.val (.bool false)]=X6b x s false:=by
 show _=PV.tup [XD 0,.val (.bool false)];rw [ZkI]
theorem Zek {t:PB} (h:Xt t) (S:List Nat) (s:Nat) (hs:s<18446744073709551616) (k:Nat) (hk:k<t.rs.length):X7 Tryz.prog 46 [.agg (pbP t S),XD s,.val (.int .i64 (k:Int))] (· = X6b t.rs[k] s (XK t t.rs[k] s)):=by
 have hro:=h.rs _ (Y0j hk);have hpp:=ZH t S;have hrl:(t.rs.map ruP).length=t.rs.length:=by simp
 refine Yp ok46 fun C hC=>?_;refine Zo ?_;refine Za ?_;refine Z5 rfl rfl rfl ?_;refine Z5 rfl rfl rfl ?_;refine gd 15 ⟨?_⟩;refine Zr rfl ?_;refine Qo (Qz rfl (by omega)) ?_;refine gd 22 ⟨?_⟩;refine Zr rfl ?_;refine Qo (Qz rfl (by rw [hrl];omega)) ?_;refine gd 28 ⟨?_⟩;refine Qo (Zn (xs:=t.rs) (g:=ruP) rfl rfl k rfl hk rfl) ?_;generalize t.rs[k]=x at hro ⊢;have hxt:=hro.tg;have hx64:=hro.m.lt (by decide);have hnx:=Zie (x:=x) (show x.tg<64 by omega) hs;have hgood:=Ze7 h S (Xc x s) hnx;have hclo:=Z2j t.l S s hs;have hho:=Z4N x.cu (clo t.l s) hx64 (Z5h _ _);have hhas:=Z1m s hs x.tg;have hne:=Z2y (r:=x) (show x.tg<64 by omega) hs;have hw:=Z1q s hs x.tg (by omega);have hst:XK t x s=(decide (s.testBit x.tg=x.rev)&&(Xl t (Xc x s)&&(x.rev||hoC x.cu (clo t.l s)))):=by
  unfold XK;rw [Y26.2 hne]
 rw [hst];refine gd 33 ⟨?_⟩;refine Qe hw ⟨Z2 _,Yt,Yt⟩ ?_;cases hv:x.rev
 . have hnv : Xc x s = s ||| 2 ^ x.tg := by unfold Xc; rw [hv]; rfl
   rw [<- hnv];refine gd 35 ⟨?_⟩;refine Qo (Z6 (v:=false) rfl hv) ?_;refine gd 43 ⟨?_⟩;refine Qd hhas ⟨Z2 _,Yt,Yt⟩ ?_;refine gd 45 ⟨?_⟩;refine Qr (Z6 (v:=false) rfl hv) ?_;cases hb:s.testBit x.tg
   case true =>
    repeat' (first|refine Z4U rfl ?_|(first|refine st ?_|(apply B<;>intro hb<;>try cases hb)))
    exact Z1J (r:=.tup [.agg [.vec [] true],.val (.bool false)]) rfl ⟨⟨Yt,Yt⟩,Yt,Yt⟩ (Z5u x s)
   refine gd 49 ⟨?_⟩;refine Z2p rfl ?_;refine Qr (Z6 (v:=false) rfl hv) ?_;refine gd 57 ⟨?_⟩;refine Z2p rfl ?_;refine Qd hclo ⟨Zq _ _,Z2 _,Yt⟩ ?_;refine Z2p rfl ?_;refine Qd hho ⟨Zz _,Z2 _,Yt⟩ ?_;cases hh:hoC x.cu (clo t.l s)
   case false =>
    repeat' (first|refine Z4U rfl ?_|(first|refine st ?_|(apply B<;>intro hb<;>try cases hb)))
    exact Z1J (r:=.tup [.agg [.vec [] true],.val (.bool false)]) rfl ⟨⟨Yt,Yt⟩,Yt,Yt⟩ (by cases Xl t (Xc x s)<;>exact Z5u x s)
   refine gd 65 ⟨?_⟩;refine Z2p rfl ?_;refine Qd hgood ⟨hpp,Z2 _,Yt⟩ ?_;cases hg:Xl t (Xc x s)
   case false =>
    repeat' (first|refine Z4U rfl ?_|(first|refine st ?_|(apply B<;>intro hb<;>try cases hb)))
    exact Z1J (r:=.tup [.agg [.vec [] true],.val (.bool false)]) rfl ⟨⟨Yt,Yt⟩,Yt,Yt⟩ (Z5u x s)
   repeat' (first|refine Z4U rfl ?_|(first|refine st ?_|(apply B<;>intro hb<;>try cases hb)))
   exact Z8 rfl ⟨Z2 _,Yt,Yt⟩ rfl
 . have hnv : Xc x s = Xg s (2 ^ x.tg) := by unfold Xc; rw [hv]; rfl
   have hwo:=Z1G s hs (x.tg:Int);rw [Z3z hs (by omega),<- hnv] at hwo;refine gd 35 ⟨?_⟩;refine Qo (Z6 (v:=true) rfl hv) ?_;refine gd 39 ⟨?_⟩;refine Qe hwo ⟨Z2 _,Yt,Yt⟩ ?_;refine gd 43 ⟨?_⟩;refine Qd hhas ⟨Z2 _,Yt,Yt⟩ ?_;refine gd 45 ⟨?_⟩;refine Qr (Z6 (v:=true) rfl hv) ?_;cases hb:s.testBit x.tg
   case false =>
    repeat' (first|refine Z4U rfl ?_|(first|refine st ?_|(apply B<;>intro hb<;>try cases hb)))
    exact Z1J (r:=.tup [.agg [.vec [] true],.val (.bool false)]) rfl ⟨⟨Yt,Yt⟩,Yt,Yt⟩ (Z5u x s)
   refine gd 49 ⟨?_⟩;refine Z2p rfl ?_;refine Qr (Z6 (v:=true) rfl hv) ?_;refine gd 65 ⟨?_⟩;refine Z2p rfl ?_;refine Qd hgood ⟨hpp,Z2 _,Yt⟩ ?_;cases hg:Xl t (Xc x s)
   case false =>
    repeat' (first|refine Z4U rfl ?_|(first|refine st ?_|(apply B<;>intro hb<;>try cases hb)))
    exact Z1J (r:=.tup [.agg [.vec [] true],.val (.bool false)]) rfl ⟨⟨Yt,Yt⟩,Yt,Yt⟩ (Z5u x s)
   repeat' (first|refine Z4U rfl ?_|(first|refine st ?_|(apply B<;>intro hb<;>try cases hb)))
   exact Z8 rfl ⟨Z2 _,Yt,Yt⟩ rfl
theorem Zgm {t:PB} (h:Xt t) (S:List Nat) (p:List Nat) (fl:Bool) (hl:p.length<=1000000) {E:Nat} (hr:X1h t t.st p E):X7 Tryz.prog 18 [.agg (pbP t S),.vec (inL p) fl] (· = .tup [XD E,.val (.int .i64 (p.length:Int)),.val (.bool true)]):=by
 have hpp:=ZH t S;have hpl:=Zw p;have hlen:=Z2n p;refine Yp ok18 fun C hC=>?_;have hpc:∀ D,X1I D (pbP t S):=fun D=>ZC (fun _ h=>h.elim) _ hpp;have hpi:∀ D,Xs D (inL p):=fun D=>Ze (fun _ h=>h.elim) _ hpl;refine Zo ?_;refine Za ?_;refine Z5 rfl rfl rfl ?_;refine go ?_;refine Zy hC (fun (z:Nat×Nat)=>z.1<=p.length/\InS t z.2/\X1h t z.2 (p.drop z.1) E) (fun z=>p.length-z.1) 2 (fun z => [(1,.vec (inL p) fl),(2,.cp (pbP t S)),(4,.ptr 0 0 0),(7,.ptr 1 0 0),(18,.vec (inL p) fl),(19,.val (.int .i64 (p.length:Int))),(20,Yv z.1)]) (fun z => [(0,⟨1,[[.vec [] true]]⟩),(1,⟨1,[[.vec (X5 (X9 z.2)) false]]⟩)]) (Y0l _) (0,t.st) ⟨Y0l _,h.st,hr⟩
  ⟨⟨rfl,hpi _⟩,⟨rfl,hpc _⟩,⟨rfl,show (0:Nat)<2 by decide⟩,⟨rfl,show (1:Nat)<2 by decide⟩,⟨rfl,hpi _⟩,⟨by rw [<- hlen]; rfl,Yt⟩,⟨rfl,Yt⟩,Yt⟩ ⟨⟨by decide,rfl,⟨⟨Yt,Yt⟩,Yt⟩⟩,⟨by decide,rfl,⟨⟨Zp _ _,Yt⟩,Yt⟩⟩,Yt⟩ ?_
 rintro⟨i,s⟩ ⟨hi,hs,hrun⟩;dsimp only at hi hs hrun ⊢;have hinc:IntKind.i64.wrap ((i:Int)+1)=((i+1:Nat):Int):=Y0v _ ⟨by omega,by omega⟩;refine gd 21 ⟨?_⟩;by_cases hil:i<p.length
 . refine Qo (Qy rfl (Y1V.2 hil)) ?_;rw [Y1k hil] at hrun;refine gd 23 ⟨?_⟩;refine Qo (Zn (xs:=p) (g:=X33) rfl rfl i rfl hil rfl) ?_;generalize p[i]=k at hrun ⊢;obtain⟨x,hx,hst,hrun⟩:=hrun;obtain⟨hkl,rfl⟩:=Y7.1 hx;refine gd 29 ⟨?_⟩;refine Qe (Zek h S s (hs.lt h.n.2) k hkl) ⟨hpp,Z2 _,Yt,Yt⟩ ?_;rw [hst];refine go ?_;exact⟨(i+1,Xc t.rs[k] s),⟨hil,Z1M h (Y0j hkl) hs,hrun⟩,by show p.length-(i+1)<p.length-i; omega,⟨⟨rfl,hpi _⟩,⟨rfl,hpc _⟩,⟨rfl,show (0:Nat)<2 by decide⟩,⟨rfl,show (1:Nat)<2 by decide⟩,⟨rfl,hpi _⟩,⟨rfl,Yt⟩,⟨by show some _=some _; rw [hinc],Yt⟩,Yt⟩,⟨⟨by decide,rfl,⟨⟨Yt,Yt⟩,Yt⟩⟩,⟨by decide,rfl,⟨⟨Zp _ _,Yt⟩,Yt⟩⟩,Yt⟩⟩
 . refine Qo (Qz rfl (by omega)) ?_;refine go ?_;rw [Y2w (by omega)] at hrun;obtain rfl:=Z4R hrun;exact Z8 rfl ⟨Z2 _,Yt,Yt,Yt⟩ (by rw [hlen]; rfl)
def X7x (c:Cu) (lo hi:Nat):Nat:=if !decide (c.1 ||| hi=hi)||decide (c.2 &&& lo≠0) then 0 else if decide (c.1 ||| lo=lo) && !decide (c.2 &&& hi≠0) then 2 else 1
def X5o (l:List Cu) (lo hi:Nat):Nat:=l.foldl (fun a c=>max a (X7x c lo hi)) 0
structure ND where
 cl:Bool
 dr:Bool
 mu:Bool
 af:Nat
 so:List Cu
 no:List Cu
 sf:Bool
 nf:Bool
def X7d (d:ND) (x:Nat):Nat:=if 0<d.af then (if d.dr then Xg x (2 ^ d.af) else x ||| 2 ^ d.af) else x
def X5C (cl:Nat->Nat) (d:ND) (x:Nat):Nat:=if d.cl then cl (X7d d x) else X7d d x
abbrev sBx (N:Nat):Bx:=⟨1,[[.vec (X5 (X9 N)) false]]⟩
theorem Zgx (D:Nat->Prop) (N:Nat):Xs D (sBx N).elems:=⟨⟨Zp _ _,Yt⟩,Yt⟩
def X8b (cl:Nat->Nat) (d:ND) (lo hi:Nat):Nat :=
 if d.mu then min (2-X5o d.no (X5C cl d lo) (X5C cl d hi)) (X5o d.so (X5C cl d lo) (X5C cl d hi)) else 2-X5o d.no (X5C cl d lo) (X5C cl d hi)
theorem Zeq {α:Type} (p:α->Bool) {l:List α} {i:Nat} (hi:i<l.length):(l.take (i+1)).all p=((l.take i).all p&&p l[i]):=by
 rw [YZ,Y0c hi,List.all_append];simp
theorem ZbY {α:Type} (p:α->Bool) {l:List α} {i:Nat} (h:(l.take i).all p=false):l.all p=false:=by
 apply tb2;intro h2;rw [YL] at h2;rw [List.all_eq_false] at h;obtain⟨x,hx,h3⟩:=h;exact h3 (h2 x (YM hx))
theorem Zgy {b c:Cu} {l:List Cu} (h1:emC c=false) (h2:emC (X17 c b)=true):X29 (b :: l) c=X29 l c:=by
 rw [X29,h1,Y1K,Y5 h2]
theorem Zgz {b c:Cu} {l:List Cu} (h1:emC c=false) (h2:emC (X17 c b)=false):X29 (b :: l) c=(X25 c b).all fun x=>X29 l x:=by
 rw [X29,h1,Y1K,Y6 (by rw [h2]; decide)]
theorem Zer:∀ (m:Nat) (l:List Cu),l.length<m->l.length<=1000000->(∀ c∈l,Xv c)->∀ (c:Cu) (fl:Bool),Xv c->X7 Tryz.prog 160 [cuP c,.vec (l.map cuC) fl] (· = .val (.bool (X29 l c))):=by
 intro m
 induction m with
 | zero=>intro l hm; omega
 | succ m ih =>
   intro l hm hlen hl c fl hc;have hlp:∀ (l:List Cu) D,Xs D (l.map cuC):=fun i D=>Ze (fun _ h=>h.elim) _ (Zc Zi _);refine Yp ok160 fun C hC=>?_;refine Zo ?_;refine Za ?_;refine Z5 rfl rfl rfl ?_;refine go ?_;refine Qe (Z1c c hc) ⟨Zz c,Yt⟩ ?_;cases hec:emC c
   case true =>
    refine go ?_;have h1:X29 l c=true:=by cases l<;>(unfold X29; rw [hec]; try rfl)
    exact Z8 rfl Yt (by rw [h1])
   refine go ?_;refine Zy hC (fun (x:Nat×Bool)=>x.1<=l.length/\X29 l c=X29 (l.drop x.1) c) (fun x=>l.length-x.1) 0 (fun x => [(1,.vec ((l.drop x.1).map cuC) x.2),(2,.cp (cuC c))]) (fun _=>[]) (Y0m _) (0,fl) ⟨Y0l _,rfl⟩
    ⟨⟨rfl,hlp _ _⟩,⟨rfl,Zp _ _,Zp _ _,Yt⟩,Yt⟩ Yt ?_
   rintro⟨i,fl2⟩ ⟨hi,hcov⟩;dsimp only at hi hcov ⊢;have hrest:l.drop (i+1)=(l.drop i).drop 1:=by rw [Y4A]
   have hdl:(l.drop i).length=l.length-i:=YT;have hmem:∀ x∈l.drop i,Xv x:=fun x hx=>hl x (Y1b hx);generalize l.drop i=lr at hcov hrest hdl hmem ⊢;cases lr with
   | nil =>
     refine go ?_;exact Z8 rfl Yt (by rw [hcov,X29,hec])
   | cons b rest =>
     have hb0:Xv b:=hmem b (Y0t ..);have hro:∀ x∈rest,Xv x:=fun x hx=>hmem x (YA _ hx);rw [Y04] at hdl;rw [List.drop_succ_cons,Y13] at hrest;have htd:((b :: rest).take (rest.length+1)).drop 1=rest:=by simp
     iterate 5 (first|refine st ?_|(apply B<;>intro hb<;>try cases hb))
     refine Qr (Z6 (v:=true) rfl (by simp; try omega)) ?_;refine go ?_;refine Qr (Zn (xs:=b :: rest) (g:=cuC) rfl rfl 0 rfl (Y1s _) rfl) ?_;rw [show (b :: rest)[0]=b from rfl];refine go ?_;refine Qd (Z85 c b hc hb0) ⟨Zz c,Zz b,Yt⟩ ?_;refine go ?_;refine Qd (Z1c (X17 c b) (ZcO hc hb0)) ⟨Zz _,Yt⟩ ?_;cases hm2:emC (X17 c b)
     case true =>
      refine go ?_;refine Qo (Zf8 (xs:=b :: rest) (g:=cuC) rfl 1 (rest.length+1) rfl (by show some _=some _; simp) (by omega) (by simp) (fun _=>rfl)) ?_;rw [htd];refine go ?_;exact⟨(i+1,false),⟨by show i+1<=_; omega,by show _=X29 (l.drop (i+1)) c; rw [hcov,hrest,Zgy hec hm2]⟩,by show _-(i+1)<_-i; omega,⟨⟨by show _=some (PV.vec ((l.drop (i+1)).map cuC) false); rw [hrest]; rfl,hlp _ _⟩,⟨rfl,Zp _ _,Zp _ _,Yt⟩,Yt⟩,Yt⟩
     have hst:=Zgz (l:=rest) hec hm2;rw [<- hcov] at hst
     iterate 14 (first|refine st ?_|(apply B<;>intro hb<;>try cases hb))
     refine go ?_;refine Qr (Zn (xs:=b :: rest) (g:=cuC) rfl rfl 0 rfl (Y1s _) rfl) ?_;rw [show (b :: rest)[0]=b from rfl];refine go ?_;refine Qd (Z8f c b hc hb0) ⟨Zz c,Zz b,Yt⟩ ?_;have hml:=ZcT c b hc;have hmo:=Zjn (b:=b) hc;generalize X25 c b=ms at hst hml hmo ⊢;have hmll:(ms.map cuC).length=ms.length:=by simp
     refine go ?_;refine Zy hC (fun j=>j<=ms.length/\((ms.take j).all fun x=>X29 rest x)=true) (fun j=>ms.length-j) 0 (fun j => [(1,.vec ((b :: rest).map cuC) fl2),(29,.vec (ms.map cuC) false),(30,.val (.int .i64 ms.length)),(31,Yv j)]) (fun _=>[]) (Y0l _) 0 ⟨Y0l _,rfl⟩
      ⟨⟨rfl,hlp _ _⟩,⟨rfl,hlp _ _⟩,⟨by rw [<- hmll]; rfl,Yt⟩,⟨rfl,Yt⟩,Yt⟩ Yt ?_
     rintro j ⟨hj,hall⟩;have hinc:IntKind.i64.wrap ((j:Int)+1)=((j+1:Nat):Int):=Y0v _ ⟨by omega,by omega⟩
     iterate 2 (first|refine st ?_|(apply B<;>intro hb<;>try cases hb))
     refine Zv rfl rfl rfl (fun hb=>?_) (fun hb=>?_)
     . have hjl : j < ms.length := by have := Y0u hb; omega
       have hxo:=hmo _ (Y0j hjl);have hsx:=Zeq (fun x=>X29 rest x) hjl;rw [hall,Y1i] at hsx;clear hb;refine go ?_;refine Qo (Zn (xs:=ms) (g:=cuC) rfl rfl j rfl hjl rfl) ?_;refine go ?_;refine Qr (Zf8 (xs:=b :: rest) (g:=cuC) rfl 1 (rest.length+1) rfl (by show some _=some _; simp) (by omega) (by simp) (fun _=>rfl)) ?_;rw [htd];refine go ?_;refine Qd (ih rest (by omega) (by omega) hro ms[j] false hxo) ⟨Zz _,Zc Zi _,Yt⟩ ?_;generalize X29 rest ms[j]=v at hsx;cases v
       . refine go ?_;exact Z8 rfl Yt (by rw [hst,ZbY _ hsx])
       . refine go ?_;exact⟨j+1,⟨by omega,hsx⟩,by omega,⟨⟨rfl,hlp _ _⟩,⟨rfl,hlp _ _⟩,⟨rfl,Yt⟩,⟨by show some _=some _; rw [hinc],Yt⟩,Yt⟩,Yt⟩
     . have hjl : j = ms.length := by have := Yw hb; omega
       subst hjl;rw [Y0q] at hall;clear hb;refine go ?_;exact Z8 rfl Yt (by rw [hst,hall])
end
section
open Go.RowKit
def X2Z (q:List PV) (i j:Nat):Bx:=⟨q.length+2,[.own i :: .own j :: q]⟩
section
variable {P:Program} {C:Ctx} {Fr:Nat->Prop} {e:Env} {h:X1} {n:Nat} {F:XI} {φ:XH} {a:Act} {w:World}
theorem Z7o {φ':XH} {v:Value} {i i':Nat} (hi:φ i=φ' i') (hr:Rep F φ v (.own i)):Rep F φ' v (.own i'):=Z3M F φ φ' v i i' hi hr
theorem X2q.kid {φ':XH} {loc:Loc} {q:List PV} {i j i' j':Nat} (h2:X2q F φ w loc (X2Z q i j)) (hi:φ i=φ' i') (hj:φ j=φ' j') (hq:X6 q):X2q F φ' w loc (X2Z q i' j'):=by
 have h2:=h2.cellsB (show 0<q.length+2 by omega);refine .inl ⟨h2.esz,h2.pos,h2.len,h2.cap,h2.max,fun c hc=>?_,fun hc=>?_⟩
 . have hc : c ∈ [PV.own i' :: .own j' :: q] := hc;rw [Y0g] at hc;subst hc;rw [<- h2.esz]; rfl
 . obtain ⟨x, hx, hs, cells, t, hg, hsz, hrep⟩ := h2.room hc;refine⟨x,hx,hs,cells,t,hg,hsz,fun a b ha hb=>⟨(hrep a b ha hb).1,?_⟩⟩;have hr:=(hrep a b ha hb).2;have hl:loc.len=1:=by rw [<- h2.len]; rfl
   obtain rfl:a=0:=by omega
   match b,hr with
   | 0,hr=>exact Z7o hi hr
   | 1,hr=>exact Z7o hj hr
   | b+2,hr=>exact Rep.pure (p:=q.getD b pvu) hr (ZN hq b)
def X2f (P:Program) (f:FuncId) (pre post q:List PV) (b1 b2:Bx) (R:PV->Bx->Bx->Prop):Prop :=
 X12 P f 3 (pre++.ptr 0 0 0 :: post) (XF [(0,X2Z q 1 2),(1,b1),(2,b2)]) fun n' r h'=>∃ j1 j2 b1' b2',j1≠j2/\j1≠0/\j2≠0/\h' 0=some (X2Z q j1 j2)/\h' j1=some b1'/\h' j2=some b2'/\r.pure/\X3 b1'.elems/\X3 b2'.elems/\R r b1' b2'
theorem Z8n {F:XI} {φ φ':XH} {vs:Array Value} {pre post:List PV} {p p':PV} (hpre:X6 pre) (hpost:X6 post) (hp:∀ v,Rep F φ v p->Rep F φ' v p') (hv:X1C F φ vs (pre++p :: post)):X1C F φ' vs (pre++p' :: post):=by
 refine⟨by rw [hv.1]; simp,fun i hi=>?_⟩;have hr:=hv.2 i (by simp at hi ⊢; exact hi);by_cases h1:i<pre.length
 . have e1 : (pre ++ p :: post).getD i pvu = pre.getD i pvu := by simp [Y0b, YI h1]
   have e2:(pre++p' :: post).getD i pvu=pre.getD i pvu:=by simp [Y0b,YI h1]
   rw [e1] at hr; rw [e2];exact hr.pure (ZN hpre i)
 . have e1 : (pre ++ p :: post).getD i pvu = (p :: post).getD (i - pre.length) pvu := by simp [Y0b, YJ (Nat.le_of_not_lt h1)]
   have e2:(pre++p' :: post).getD i pvu=(p' :: post).getD (i-pre.length) pvu:=by simp [Y0b,YJ (Nat.le_of_not_lt h1)]
   rw [e1] at hr; rw [e2]
   match hk:i-pre.length,hr with
   | 0,hr=>exact hp _ hr
   | k+1,hr=>exact Rep.pure (p:=post.getD k pvu) hr (ZN hpost k)
theorem X2f.run {f:FuncId} {pre post q:List PV} {b1 b2:Bx} {R:PV->Bx->Bx->Prop} (hs:X2f P f pre post q b1 b2 R) (hpre:X6 pre) (hpost:X6 post) (hq:X6 q) (hp1:X3 b1.elems) (hp2:X3 b2.elems) {k i j n:Nat} (hn:Fr n) (hn1:Fr (n+1)) (hk:h k=some (X2Z q i j)) (hi:h i=some b1) (hj:h j=some b2) (hij:i≠j) (hik:i≠k) (hjk:j≠k)
 (s:St' C Fr e h F φ a w) {vs:Array Value} (hv:X1C F φ vs (pre++.ptr k 0 0 :: post)) :
 Calls P f vs w fun en w'=>∃ v r b1' b2' F' φ',en=.returned v/\(r.pure/\X3 b1'.elems/\X3 b2'.elems/\R r b1' b2')/\Rep F' φ' v r/\St' C (fun x=>Fr x/\x≠n/\x≠n+1) e (((((h.del i).del j).upd k (X2Z q n (n+1))).upd n b1').upd (n+1) b2') F' φ' a w':=by
 obtain⟨lk,hlk,hbk,hhk⟩:=s.live k _ hk;obtain⟨li,hli,hbi,hhi⟩:=s.live i _ hi;obtain⟨lj,hlj,hbj,hhj⟩:=s.live j _ hj
 let φ1:XH:=fun x=>if x=0 then some lk else if x=1 then some li else if x=2 then some lj else none
 let C1:Ctx:=⟨w,fun g=>lk.has g \/ li.has g \/ lj.has g,F,C.nt,φ1⟩
 have hφn:φ n=none:=s.free n hn;have hφn1:φ (n+1)=none:=s.free _ hn1;have hnone:∀ {x:Nat} {bx:Bx},h x=some bx->x≠n/\x≠n+1:=by
  intro x bx hx;obtain⟨loc,h1,_⟩:=s.live x bx hx;exact⟨fun e=>(by rw [e,hφn] at h1; cases h1),fun e=>(by rw [e,hφn1] at h1; cases h1)⟩
 have hG:∀ g,C1.G g->C.w0.heap.size<=g \/ C.G g:=fun g hg=>hg.elim (fun h=>(hhk g h).1) fun hg=>hg.elim (fun h=>(hhi g h).1) fun h=>(hhj g h).1;have hth:∀ {loc:Loc} {b:Bx} {g:Nat},X2q F φ w loc b->loc.has g->∀ o:Obj,w.heap[g]?=some o->¬ o=.deferred (some []):=by
  rintro loc b g hb hg o ho rfl;rcases hb.there hg with⟨cells,t,hg⟩|⟨es,t,hg⟩
  . rw [hg] at ho; cases ho
  . rw [hg] at ho; cases ho
 have hcells:∀ g,C1.G g->∀ o:Obj,w.heap[g]?=some o->¬ o=.deferred (some []):=fun g hg=>hg.elim (hth hbk) fun hg=>hg.elim (hth hbi) (hth hbj);have h0:∀ {x:Nat} {b0:Bx},(XF [(0,X2Z q 1 2),(1,b1),(2,b2)]) x=some b0->(x=0/\b0=X2Z q 1 2) \/ (x=1/\b0=b1) \/ (x=2/\b0=b2):=by
  intro x b0 hx;have:=Z1F hx;simp only [YB,Y2S,Y2s,Y45] at this;exact this
 have s1:St' C1 (fun x=>3<=x) (fun _=>none) (XF [(0,X2Z q 1 2),(1,b1),(2,b2)]) F φ1 { a with defers := [] } w:=by
  refine { nt:=s.nt,glob:=s.glob,marks:=X1q.nil rfl,loc0:=fun i x hx=>hx,free:=fun i hi=>?_,env:=fun j p hp=>(by cases hp),froz:=s.froz,ext:=fun _ _ h=>h,old:=fun _ _ _=>rfl,os:=rfl,tape:=rfl,output:=rfl,size:=Y0m _,kept:=fun _ _ _=>rfl,live:=fun x b0 hx=>?_,sep:=fun x y bx bY lx ly g hx hy hlx hly hgx hgy=>?_ }
  . simp only [φ1]; rw [Y6 (by omega),Y6 (by omega),Y6 (by omega)]
  . rcases h0 hx with ⟨rfl, rfl⟩ | ⟨rfl, rfl⟩ | ⟨rfl, rfl⟩
    . exact⟨lk,rfl,hbk.kid (by rw [hli]; rfl) (by rw [hlj]; rfl) hq,fun g hg=>⟨.inr (.inl hg),(hhk g hg).2⟩⟩
    . exact⟨li,rfl,hbi.names hp1,fun g hg=>⟨.inr (.inr (.inl hg)),(hhi g hg).2⟩⟩
    . exact⟨lj,rfl,hbj.names hp2,fun g hg=>⟨.inr (.inr (.inr hg)),(hhj g hg).2⟩⟩
  . rcases h0 hx with ⟨rfl, rfl⟩ | ⟨rfl, rfl⟩ | ⟨rfl, rfl⟩ <;> rcases h0 hy with ⟨rfl, rfl⟩ | ⟨rfl, rfl⟩ | ⟨rfl, rfl⟩ <;> first | rfl | skip
    all_goals
     obtain rfl:=YQ hlx;obtain rfl:=YQ hly;exfalso
    . exact hik (s.sep k i _ _ _ _ g hk hi hlk hli hgx hgy).symm
    . exact hjk (s.sep k j _ _ _ _ g hk hj hlk hlj hgx hgy).symm
    . exact hik (s.sep i k _ _ _ _ g hi hk hli hlk hgx hgy)
    . exact hij (s.sep i j _ _ _ _ g hi hj hli hlj hgx hgy)
    . exact hjk (s.sep j k _ _ _ _ g hj hk hlj hlk hgx hgy)
    . exact hij (s.sep j i _ _ _ _ g hj hi hlj hli hgx hgy).symm
 have hv1:X1C F φ1 vs (pre++.ptr 0 0 0 :: post):=Z8n hpre hpost (fun v hr=>by
  obtain⟨loc',x,g1,gz,g2,g3,g4⟩:=hr.ptr_inv;obtain rfl:loc'=lk:=by rw [hlk] at g1; simpa using g1.symm
  rw [g4]
  exact .ptr 0 0 0 loc' x rfl gz g2 g3) hv
 refine (hs.2 C1 _ F φ1 { a with defers := [] } w vs s1 hv1).mono ?_;rintro en w' ⟨v,r,n',h',F',φ',rfl,⟨j1,j2,b1',b2',hj12,hj10,hj20,hh0,hh1,hh2,hrp,hp1',hp2',hR⟩,hvr,s'⟩;obtain⟨l0,m01,m02,m03⟩:=s'.live 0 _ hh0;obtain⟨l1,m11,m12,m13⟩:=s'.live j1 _ hh1;obtain⟨l2,m21,m22,m23⟩:=s'.live j2 _ hh2;obtain rfl:l0=lk:=by
  have:=s'.loc0 0 lk rfl;rw [m01] at this; exact YQ this
 let φ2:XH:=fun x=>if x=n then some l1 else if x=n+1 then some l2 else φ x
 have hφ2:φ2 n=some l1:=by simp [φ2]
 have hφ21:φ2 (n+1)=some l2:=by show (if n+1=n then some l1 else if n+1=n+1 then some l2 else φ (n+1))=some l2; rw [Y6 (by omega),Y5 rfl]
 have hφ3:∀ {x:Nat},x≠n->x≠n+1->φ2 x=φ x:=fun {x} h1 h2=>by simp only [φ2]; rw [Y6 h1,Y6 h2]
 have hφ4:∀ x y,φ x=some y->φ2 x=some y:=fun x y hx=>by
  rw [hφ3 (fun e=>by rw [e,hφn] at hx; cases hx) fun e=>by rw [e,hφn1] at hx; cases hx]; exact hx
 have hkn:=hnone hk;have src:∀ {x:Nat} {bx:Bx},(((((h.del i).del j).upd k (X2Z q n (n+1))).upd n b1').upd (n+1) b2') x=some bx ->
  (x=n+1/\bx=b2') \/ (x=n/\bx=b1') \/ (x=k/\bx=X2Z q n (n+1)) \/ (x≠k/\x≠i/\x≠j/\h x=some bx):=by
  intro x bx hx;by_cases e1:x=n+1
  . subst e1; rw [X1.upd_same] at hx; exact .inl ⟨rfl,(YQ hx).symm⟩
  rw [X1.upd_ne _ _ e1] at hx;by_cases e2:x=n
  . subst e2; rw [X1.upd_same] at hx; exact .inr (.inl ⟨rfl,(YQ hx).symm⟩)
  rw [X1.upd_ne _ _ e2] at hx;by_cases e3:x=k
  . subst e3; rw [X1.upd_same] at hx; exact .inr (.inr (.inl ⟨rfl,(YQ hx).symm⟩))
  rw [X1.upd_ne _ _ e3] at hx;obtain⟨e4,hx⟩:=X1.del_some hx;obtain⟨e5,hx⟩:=X1.del_some hx;exact .inr (.inr (.inr ⟨e3,e5,e4,hx⟩))
 have hold:∀ {x:Nat} {bx:Bx} {lx:Loc} {g:Nat},x≠k->x≠i->x≠j->h x=some bx->φ x=some lx->lx.has g->¬ C1.G g:=by
  intro x bx lx g h1 h2 h3 hx hlx hg hG;rcases hG with hg' | hg' | hg'
  . exact h1 (s.sep x k _ _ _ _ g hx hk hlx hlk hg hg')
  . exact h2 (s.sep x i _ _ _ _ g hx hi hlx hli hg hg')
  . exact h3 (s.sep x j _ _ _ _ g hx hj hlx hlj hg hg')
 have hnew:∀ {lx:Loc} {g:Nat},(w.heap.size<=g \/ C1.G g)->C.w0.heap.size<=g \/ C.G g:=fun {lx g} h1=>h1.elim (fun h1=>.inl (Y03 s.size h1)) (hG g);refine⟨v,r,b1',b2',F',φ2,rfl,⟨hrp,hp1',hp2',hR⟩,hvr.pure hrp,?_⟩
 refine { nt := s.nt, glob := s'.glob, marks := s.marks.mono (fun g hg => by rw [s'.kept g (Ye.1 hg).1 (fun hg' => hcells g hg' _ hg rfl)]; exact hg), loc0 := fun i x hx => hφ4 i x (s.loc0 i x hx), free := fun x hx => by rw [hφ3 hx.2.1 hx.2.2]; exact s.free x hx.1, env := fun j p hp => ⟨(s.env j p hp).1, (s.env j p hp).2.mono s'.ext hφ4⟩, froz := s'.froz, ext := fun x v hx => s'.ext _ _ (s.ext x v hx),
          old:=fun x hx hg=>?_,os:=s'.os.trans s.os,tape:=s'.tape.trans s.tape,output:=s'.output.trans s.output,size:=Y03 s.size s'.size,kept:=fun g hk hg=>?_,live:=fun x bx hx=>?_,sep:=fun x y bx bY lx ly g hx hy hlx hly hgx hgy=>?_ }
 . have hx2 : x.block < w.heap.size := YF hx s.size;rw [s'.old x hx2 fun hg'=>(hG _ hg').elim (fun h1=>absurd hx (Y1W.2 h1)) hg];exact s.old x hx hg
 . rw [s'.kept g (YF hk s.size) fun hg' => (hG _ hg').elim (fun h1 => absurd hk (Y1W.2 h1)) hg];exact s.kept g hk hg
 . rcases src hx with ⟨rfl, rfl⟩ | ⟨rfl, rfl⟩ | ⟨rfl, rfl⟩ | ⟨h1, h2, h3, hx⟩
   . exact⟨l2,hφ21,m22.names hp2',fun g hg=>⟨hnew (lx:=l2) (m23 g hg).1,(m23 g hg).2⟩⟩
   . exact⟨l1,hφ2,m12.names hp1',fun g hg=>⟨hnew (lx:=l1) (m13 g hg).1,(m13 g hg).2⟩⟩
   . exact⟨l0,hφ4 _ _ hlk,m02.kid (by rw [m11,hφ2]) (by rw [m21,hφ21]) hq,fun g hg=>⟨(hhk g hg).1,(m03 g hg).2⟩⟩
   . obtain ⟨lx, g1, g2, g3⟩ := s.live x bx hx;have hout:∀ g,lx.has g->¬ C1.G g:=fun g hg=>hold h1 h2 h3 hx g1 hg;have hblk:∀ g,lx.has g->w'.heap[g]?=w.heap[g]?:=fun g hg=>s'.kept g (s.has_lt hx g1 hg) (hout g hg);have hne:=hnone hx;refine⟨lx,by rw [hφ3 hne.1 hne.2]; exact g1,g2.mono s'.ext hφ4 hblk,fun g hg=>⟨(g3 g hg).1,fun z hz=>?_⟩⟩;rw [s'.old z (by rw [hz]; exact s.has_lt hx g1 hg) (by rw [hz]; exact hout g hg)];exact (g3 g hg).2 z hz
 . have cls : ∀ {x : Nat} {bx : Bx} {lx : Loc} {g : Nat}, (((((h.del i).del j).upd k (X2Z q n (n + 1))).upd n b1').upd (n + 1) b2') x = some bx -> φ2 x = some lx -> lx.has g ->
    (h x=some bx/\φ x=some lx/\g<w.heap.size/\¬ C1.G g) \/ ((w.heap.size<=g \/ C1.G g)/\∃ y b',h' y=some b'/\φ' y=some lx/\((x=n+1/\y=j2) \/ (x=n/\y=j1) \/ (x=k/\y=0))):=by
    intro x bx lx g hx hlx hg;rcases src hx with⟨rfl,rfl⟩|⟨rfl,rfl⟩|⟨rfl,rfl⟩|⟨h1,h2,h3,hx⟩
    . rw [hφ21] at hlx; cases hlx;exact .inr ⟨(m23 g hg).1,j2,_,hh2,m21,.inl ⟨rfl,rfl⟩⟩
    . rw [hφ2] at hlx; cases hlx;exact .inr ⟨(m13 g hg).1,j1,_,hh1,m11,.inr (.inl ⟨rfl,rfl⟩)⟩
    . rw [hφ4 _ _ hlk] at hlx; cases hlx;exact .inr ⟨(m03 g hg).1,0,_,hh0,m01,.inr (.inr ⟨rfl,rfl⟩)⟩
    . have hne := hnone hx;rw [hφ3 hne.1 hne.2] at hlx;exact .inl ⟨hx,hlx,s.has_lt hx hlx hg,hold h1 h2 h3 hx hlx hg⟩
   rcases cls hx hlx hgx with⟨a1,a2,a3,a4⟩|⟨a1,y1,c1,a2,a3,a4⟩<;>rcases cls hy hly hgy with⟨d1,d2,d3,d4⟩|⟨d1,y2,c2,d2,d3,d4⟩
   . exact s.sep x y bx bY lx ly g a1 d1 a2 d2 hgx hgy
   . rcases d1 with d1 | d1
     . omega
     . exact absurd d1 a4
   . rcases a1 with a1 | a1
     . omega
     . exact absurd a1 d4
   . have := s'.sep y1 y2 c1 c2 lx ly g a2 d2 a3 d3 hgx hgy;subst this;rcases a4 with⟨rfl,rfl⟩|⟨rfl,rfl⟩|⟨rfl,rfl⟩<;>rcases d4 with⟨rfl,e⟩|⟨rfl,e⟩|⟨rfl,e⟩<;>first|rfl|omega
theorem X2f.frame {f:FuncId} {pre post q:List PV} {b1 b2:Bx} {R:PV->Bx->Bx->Prop} (hs:X2f P f pre post q b1 b2 R) (hpre:X6 pre) (hpost:X6 post) (hq:X6 q) (hp1:X3 b1.elems) (hp2:X3 b2.elems) {k i j n:Nat} (hk:h k=some (X2Z q i j)) (hi:h i=some b1) (hj:h j=some b2) (hij:i≠j) (hik:i≠k) (hjk:j≠k) :
 X12 P f n (pre++.ptr k 0 0 :: post) h fun n' r h'=>∃ b1' b2',n'=n+2/\h'=((((h.del i).del j).upd k (X2Z q n (n+1))).upd n b1').upd (n+1) b2'/\r.pure/\X3 b1'.elems/\X3 b2'.elems/\R r b1' b2':=by
 refine⟨hs.1,fun C e F φ a w vs s hv=>(hs.run hpre hpost hq hp1 hp2 (n:=n) (Y0m n) (Y41 n) hk hi hj hij hik hjk s hv).mono ?_⟩;rintro en w' ⟨v,r,b1',b2',F',φ',rfl,⟨h1,h2,h3,h4⟩,hr,s'⟩;exact⟨v,r,n+2,_,F',φ',rfl,⟨b1',b2',rfl,rfl,h1,h2,h3,h4⟩,hr,{ s' with free:=fun i hi=>s'.free i ⟨by omega,by omega,by omega⟩ }⟩
theorem ZbZ {f:Operand} {args:List Operand} {g:FuncId} {caps as0 pre post q:List PV} {b1 b2:Bx} {k i j:Nat} {R:PV->Bx->Bx->Prop} {d:Option Nat} {os:List Xn} {n:Nat} {K:Nat->Env->X1->Prop} (hs:X2f P g pre post q b1 b2 R) (hf:ev e f=some (.fn g caps)) (ha:evs e args=some as0) (hr:as0++caps=pre++.ptr k 0 0 :: post) (hk:h k=some (X2Z q i j)) (hi:h i=some b1) (hj:h j=some b2) (hij:i≠j) (hik:i≠k) (hjk:j≠k) (hpre:X6 pre) (hpost:X6 post) (hq:X6 q) (hp1:X3 b1.elems) (hp2:X3 b2.elems)
 (hK:∀ r b1' b2',r.pure->X3 b1'.elems->X3 b2'.elems->R r b1' b2'->Xm P os (n+2) (Xy e d r) (((((h.del i).del j).upd k (X2Z q n (n+1))).upd n b1').upd (n+1) b2') K):Xm P (⟨d,.call f args,none⟩ :: os) n e h K:=by
 refine Z1v hf ha (R:=fun n' r h'=>∃ b1' b2',n'=n+2/\h'=((((h.del i).del j).upd k (X2Z q n (n+1))).upd n b1').upd (n+1) b2'/\r.pure/\X3 b1'.elems/\X3 b2'.elems/\R r b1' b2') (by rw [hr]; exact hs.frame hpre hpost hq hp1 hp2 hk hi hj hij hik hjk) ?_;rintro n' r h' ⟨b1',b2',rfl,rfl,h1,h2,h3,h4⟩;exact hK r b1' b2' h1 h2 h3 h4
theorem Zdg {f nt:Nat} {ac:X2} {rs:List X2g} (hf:X42 P f nt ac rs) {pre post q:List PV} {b1 b2:Bx} {R:PV->Bx->Bx->Prop} (hn:(pre++.ptr 0 0 0 :: post).length<=nt)
 (hk:∀ C:Ctx,C.dom 3->aw P C ac (X5G rs fun n' r h'=>∃ j1 j2 b1' b2',j1≠j2/\j1≠0/\j2≠0/\h' 0=some (X2Z q j1 j2)/\h' j1=some b1'/\h' j2=some b2'/\r.pure/\X3 b1'.elems/\X3 b2'.elems/\R r b1' b2') 3 (XT (pre++.ptr 0 0 0 :: post)) (XF [(0,X2Z q 1 2),(1,b1),(2,b2)])):X2f P f pre post q b1 b2 R :=
 Z1P hf hn hk
end
end
section
open Go.RowKit
attribute [local irreducible] aw Xm dK
def hwC (e:KE):List PV := [.val (.int .i64 e.2.1),.val (.int .i64 (e.2.2:Int))]
theorem Zil (e:KE):X6 (hwC e):=⟨Yt,Yt,Yt⟩
theorem Z1d (l:List KE):X3 (l.map hwC):=Zc Zil l
def X6v (ks:List KE) (e:KE) (L:Int) (ks':List KE) (v:PV):Prop:=(X29 (kcs ks) e.1=true/\ks'=ks/\v=.val (.int .i64 0)) \/ (X29 (kcs ks) e.1=false/\ks'=ks ++ [e]/\v=.val (.int .i64 (if L<((ks.length+1:Nat):Int) then 3 else 0)))
theorem Zdh (ks:List KE) (h64:∀ c∈kcs ks,Xv c) (hl:ks.length<=1000) (e:KE) (he:Xv e.1) (L:Int):X2f Tryz.prog 120 [] [cuP e.1,.agg (hwC e)] [.val (.int .i64 L)] ⟨2,(kcs ks).map cuC⟩ ⟨2,ks.map hwC⟩ fun v b1 b2=>∃ ks',b1=⟨2,(kcs ks').map cuC⟩/\b2=⟨2,ks'.map hwC⟩/\X6v ks e L ks' v:=by
 have hkl:(kcs ks).length=ks.length:=by simp [kcs]
 have hcs:=Zer ((kcs ks).length+1) (kcs ks) (Y2N _) (by omega) h64 e.1 false he;refine Zdg ok120 (Y0 rfl) fun C hC=>?_;refine Zo ?_;refine Za ?_;refine Z5 rfl rfl rfl ?_;refine Z5 rfl rfl rfl ?_
 iterate 4 (first|refine st ?_|(apply B<;>intro hb<;>try cases hb))
 refine Zcu [] 1 (by decide) ?_;refine gd 12 ⟨?_⟩;refine Zl8 hcs rfl rfl (j:=1) rfl rfl rfl (Z1 _) ⟨Zz _,Z1 _,Yt⟩ ?_;cases hcov:X29 (kcs ks) e.1
 case true =>
  refine go ?_;exact⟨_,_,rfl,.inl rfl,1,2,_,_,by decide,by decide,by decide,rfl,rfl,rfl,Yt,Z1 _,Z1d _,ks,rfl,rfl,.inl ⟨hcov,rfl,rfl⟩⟩
 repeat' (first|refine Z3j [] [(1,256)] [4194303,4194303,4194303,4194303,4194303,4194303,4194303,4194303,4194047,4194303,4194303,4194303,4194303,4194303,4194303,4194303,4194303,4194303,4194303,4194303,4194303,4194303] (by kernel_rfl) ?_|refine Z8E 21 ?_|(first|refine st ?_|(apply B<;>intro hb<;>try cases hb)))
 refine At.mk ?_
 refine Qr (Zt (k:=1) (m := [cuC e.1]) (fl:=true) rfl rfl rfl (fun q hq=>by rw [Y0g] at hq; subst hq; rfl) rfl (by
  show (((kcs ks).map cuC).length+1)*48<=_
  rw [Y0f];omega)) ?_
 refine gd 28 ⟨?_⟩
 refine Qr (Zt (k:=2) (m := [hwC e]) (fl:=true) rfl rfl rfl (fun q hq=>by rw [Y0g] at hq; subst hq; rfl) rfl (by
  show ((ks.map hwC).length+1)*16<=_
  rw [Y0f];omega)) ?_
 have hp1:X3 ((kcs ks).map cuC ++ [cuC e.1]):=by rw [<- Y19,<- Y0r]; exact Z1 _
 have hp2:X3 (ks.map hwC ++ [hwC e]):=by rw [<- Y19,<- Y0r]; exact Z1d _
 have e1:(kcs ks).map cuC ++ [cuC e.1]=(kcs (ks ++ [e])).map cuC:=by rw [Z9c,Y0r]; rfl
 have e2:ks.map hwC ++ [hwC e]=(ks ++ [e]).map hwC:=by rw [Y0r]; rfl
 have hlen:(((kcs ks).map cuC ++ [cuC e.1]).length:Int)=((ks.length+1:Nat):Int):=by simp [hkl]
 rw [e1] at hp1 hlen ⊢;rw [e2] at hp2 ⊢;refine gd 42 ⟨?_⟩;by_cases hL:L<((ks.length+1:Nat):Int)
 . refine Qr (Qy rfl (by rw [hlen]; exact hL)) ?_;refine go ?_;exact⟨_,_,rfl,.inl rfl,17,24,_,_,by decide,by decide,by decide,rfl,rfl,rfl,Yt,hp1,hp2,ks ++ [e],rfl,rfl,.inr ⟨hcov,rfl,by rw [Y5 hL]; rfl⟩⟩
 . refine Qr (Qz rfl (by rw [hlen]; exact hL)) ?_;refine gd 49 ⟨?_⟩;refine Z2p rfl ?_;refine Qr (Qz rfl (by rw [hlen];omega)) ?_;refine go ?_;exact⟨_,_,rfl,.inl rfl,17,24,_,_,by decide,by decide,by decide,rfl,rfl,rfl,Yt,hp1,hp2,ks ++ [e],rfl,rfl,.inr ⟨hcov,rfl,by rw [Y6 hL]; rfl⟩⟩
end
end Go.Proofs.YtofglfpgfdahaaaGreatDoor
