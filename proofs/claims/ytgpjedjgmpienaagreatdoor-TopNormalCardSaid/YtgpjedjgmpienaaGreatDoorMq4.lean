/-
  Merged from the texts that this claim's theorem needs, part 5 of 8. No statement of the seat is proved here.
-/
import Derived.Test.YtgpjedjgmpienaaGreatDoorMq3
set_option linter.unusedSimpArgs false
set_option linter.unusedVariables false
set_option linter.unusedSectionVars false
set_option linter.defProp false
set_option maxRecDepth 100000
set_option maxHeartbeats 16000000
namespace Go.Proofs.YtgpjedjgmpienaaGreatDoor
section
open Go.RowKit
attribute [local irreducible] aw Xj dK
theorem Ziv {k:Int} {l:List Nat} {fl:Bool} {d t t1:Nat} {x:Fm} (wx:Wf x) (tx:Xx x.op=1) (dx:x.depth<=d) (sx:x.size+1<=2 ^ d) (h1:t1+1<=t+1+2 ^ (d+1)) (ix:in6 k x=true):X3k k 1 l fl (d+1) t (.agg (fC .i64 (.mk 7 0 [] [x]))) (X3g l fl t1):=by
 have w:WfI 7 0 [] [x]:=⟨by decide,by decide,rfl,fun _=>rfl,by decide,by decide,by decide,by decide,fun r hr=>(by cases hr),by simp,fun a ha=>by
  rw [Y0g.1 ha]; exact⟨wx,tx⟩⟩
 have hp:=Y30 (show 2 ^ d≠0 from fun h=>by simp at h);refine⟨_,t1,w.wf,rfl,by rw [Z4N]; omega,by rw [Z60,YU]; omega,rfl,rfl,?_,Zdn (by decide) (by simp [X4U,ix])⟩;rw [YU (n:=2) (m:=d+1),YU] at *;omega
theorem Z5L (l:List Nat) (hl:X2S l) (fl:Bool) (k:Int) (w d t:Nat) (hd:1<=d) (ht:t+2 ^ (d+2)<=1099511627776) :
 X15 Tryz.prog 105 (X3g l fl (t+1)) [.val (.int .i64 (w:Int)),.val (.int .i64 ((d+1:Nat):Int)),.val (.int .i64 k),.val (.int .i64 6)] (X3k k 1 l fl (d+1) t):=by
 have hp2:2 ^ (d+2)=2*2 ^ (d+1):=by rw [YU]; omega
 have hpt:=Y3D (n:=d+1);have hdec:IntKind.i64.wrap (((d+1:Nat):Int)-1)=(d:Int):=by rw [show ((d+1:Nat):Int)-1=(d:Int) by omega]; exact Z37 _ (by omega)
 have hm:(w:Int).tmod 5=((w % 5:Nat):Int):=by rw [Y12 (by omega)]; omega
 have hop:IntKind.i64.wrap (11+((w % 5:Nat):Int))=11+((w % 5:Nat):Int):=Y0v _ ⟨by omega,by omega⟩;refine ZE ok105 (Y0 rfl) fun C hC=>?_;(refine go ?_;repeat' (apply B<;>intro hb<;>try cases hb));refine Zb (Z5K l hl fl k d hd (t+1) (by omega)) rfl rfl (by show [_,_,_,_]=_; rw [hdec]) rfl (ZQ l fl _) ⟨Yt,Yt,Yt,Yt⟩ ?_;rintro r b' - - ⟨x,t1,wx,tx,dx,sx,rfl,rfl,ht1,ix⟩;(refine go ?_;repeat' (apply B<;>intro hb<;>try cases hb));refine Zb (Z5K l hl fl k d hd t1 (by omega)) rfl rfl (by show [_,_,_,_]=_; rw [hdec]) rfl (ZQ l fl _) ⟨Yt,Yt,Yt,Yt⟩ ?_;rintro r b' - - ⟨y,t2,wy,ty,dy,sy,rfl,rfl,ht2,iy⟩;(refine go ?_;repeat' (apply B<;>intro hb<;>try cases hb));rw [hm,hop];have hw:X1J (11+((w % 5:Nat):Int))=2:=by rw [X1J,Y7 (by omega)]
 refine Z1F (f:=.mk (11+((w % 5:Nat):Int)) 0 [] [x,y]) rfl ?_ rfl (Z8X hd (by omega) (by omega) wx (by rw [hw]; exact tx) wy (by rw [hw]; exact ty) (by rw [Xx,Y8 (by omega)]) dx dy sx sy ht1 ht2 ix iy);show PV.agg [_,_,_,.vec [X1h (fC .i64 x),X1h (fC .i64 y)] false]=_;rw [Z3h,Z3h]
 rfl
theorem ZbZ (l:List Nat) (hl:X2S l) (fl:Bool) (k:Int):∀ (d:Nat),1<=d->∀ (t:Nat),t+2 ^ (d+1)<=1099511627776 ->
 X15 Tryz.prog 63 (X3g l fl t) [.val (.int .i64 (d:Int)),.val (.int .i64 k),.val (.int .i64 6)] (X3k k 1 l fl d t):=by
 intro d
 induction d with
 | zero=>intro h; omega
 | succ d ih =>
   intro _ t ht;have hp2:2 ^ (d+1+1)=2*2 ^ (d+1):=by rw [YU]; omega
   have hpt:=Y3D (n:=d+1);refine ZE ok63 (Y0 rfl) fun C hC=>?_;(refine go ?_;repeat' (apply B<;>intro hb<;>try cases hb));refine Zb (Z6S l hl fl t (by omega)) rfl rfl rfl rfl (ZQ l fl t) Yt ?_;rintro r b' - - ⟨v,hv,rfl,rfl⟩;have hdec:IntKind.i64.wrap (((d+1:Nat):Int)-1)=(d:Int):=by rw [show ((d+1:Nat):Int)-1=(d:Int) by omega]; exact Z37 _ (by omega)
   have h8:(v:Int).tmod 8=((v % 8:Nat):Int):=by rw [Y12 (by omega)]; omega
   have hq8:IntKind.i64.wrap ((v:Int).tdiv 8)=((v / 8:Nat):Int):=by rw [Z8Y v hv 8 (by decide),Y2j (by omega)]; omega
   have hq16:IntKind.i64.wrap ((v:Int).tdiv 16)=((v / 16:Nat):Int):=by rw [Z8Y v hv 16 (by decide),Y2j (by omega)]; omega
   have hm2:((v / 16:Nat):Int).tmod 2=((v / 16 % 2:Nat):Int):=by rw [Y12 (by omega)]; omega
   have hm6:((v / 8:Nat):Int).tmod 6=((v / 8 % 6:Nat):Int):=by rw [Y12 (by omega)]; omega
   have hw2:IntKind.i64.wrap (2+((v / 16 % 2:Nat):Int))=2+((v / 16 % 2:Nat):Int):=Y0v _ ⟨by omega,by omega⟩;have hw6:IntKind.i64.wrap (1+((v / 8 % 6:Nat):Int))=1+((v / 8 % 6:Nat):Int):=Y0v _ ⟨by omega,by omega⟩;have hwo:v % 8=3 \/ v % 8=4 \/ v % 8=5->IntKind.i64.wrap (IntKind.i64.wrap (8+((v % 8:Nat):Int))-3)=5+((v % 8:Nat):Int):=fun h=>by
    rw [Y0v (8+((v % 8:Nat):Int)) ⟨by omega,by omega⟩];rw [show 8+((v % 8:Nat):Int)-3=5+((v % 8:Nat):Int) by omega];exact Y0v _ ⟨by omega,by omega⟩
   have hb1:∀ i:Nat,(⟨4,[[.val (.int .i64 0),.val (.int .i64 0),.vec [] true,.vec [] true]]⟩:Bx).elems.length=1:=fun _=>rfl;(first|refine st ?_|(apply B<;>intro hb<;>try cases hb));(first|refine st ?_|(apply B<;>intro hb<;>try cases hb));refine Z2g hC (1<=d/\2<=v % 8) 2 [(0,.ptr 0 0 0),(1,.val (.int .i64 ((d+1:Nat):Int))),(2,.val (.int .i64 k)),(3,.val (.int .i64 6)),(8,.ptr 1 0 0),(9,.val (.int .i64 (v:Int)))] [(0,X3g l fl (t+1)),(1,⟨4,[[.val (.int .i64 0),.val (.int .i64 0),.vec [] true,.vec [] true]]⟩)] (by omega) ?_ fun hA=>?_
   . refine Z2g hC True 2 [(0, .ptr 0 0 0), (1, .val (.int .i64 ((d + 1 : Nat) : Int))), (2, .val (.int .i64 k)), (3, .val (.int .i64 6)), (8, .ptr 1 0 0), (9, .val (.int .i64 (v : Int))), (20, .val (.bool (decide (((d + 1 : Nat) : Int) <= 1) || decide ((v : Int).tmod 8 <= 1))))] [(0, X3g l fl (t + 1)), (1, ⟨4, [[.val (.int .i64 0), .val (.int .i64 0), .vec [] true, .vec [] true]]⟩)] (by omega) ?_ fun _ => ?_
     . (refine go ?_;repeat' (apply B<;>intro hb<;>try cases hb))
       all_goals
        refine⟨Yt,⟨⟨rfl,show (0:Nat)<2 by decide⟩,⟨rfl,Yt⟩,⟨rfl,Yt⟩,⟨rfl,Yt⟩,⟨rfl,show (1:Nat)<2 by decide⟩,⟨rfl,Yt⟩,⟨?_,Yt⟩,Yt⟩,⟨⟨by omega,rfl,Z68 _ _ _ _⟩,⟨by omega,rfl,⟨Yt,Yt,Yt,Yt,Yt⟩,Yt⟩,Yt⟩⟩;show some (PV.val (Value.bool _))=_
        simp_all
     rw [h8];cases hc:(decide (((d+1:Nat):Int)<=1)||decide (((v % 8:Nat):Int)<=1)) with
     | true =>
       (refine go ?_;repeat' (apply B<;>intro hb<;>try cases hb))
       . have hd1 : 1 <= d := by simp at hb; omega
         refine Zb (Z5L l hl fl k (v / 8) d t hd1 ht) rfl rfl (by show [_,_,_,_,_]=_; rw [hq8]) rfl (ZQ l fl _) ⟨Yt,Yt,Yt,Yt,Yt⟩ ?_;rintro r b' - - ⟨x,t1,wx,tx,dx,sx,rfl,rfl,ht1,ix⟩;(refine go ?_;repeat' (apply B<;>intro hb<;>try cases hb));refine Z1F (f:=x) rfl ?_ rfl ⟨x,t1,wx,tx,dx,sx,rfl,rfl,ht1,ix⟩;show PV.agg (X1h (fC .i64 x))=_;rw [Z3h,ZI]
       all_goals first
        | (rw [hq16, hm2, hw2]
           refine Z1F (f:=.mk (2+((v / 16 % 2:Nat):Int)) 0 [] []) rfl rfl rfl (Z32 (by omega) ?_ (by rw [Xx,Y8 (by omega)]) (by omega) (Z41 (.inr (by omega)) fun r hr=>by cases hr));refine⟨by omega,by omega,?_,fun _=>rfl,?_,?_,by decide,by decide,fun r hr=>(by cases hr),by simp,fun a ha=>by cases ha⟩
           . rw [Xl,Y8 (by omega),Y8 (by omega)]; rfl
           . simp only [X1r,Y1u]; rw [Y8 (by omega),Y8 (by omega)]; decide
           . simp only [X19,Y1u]; rw [Y8 (by omega),Y8 (by omega)]; decide
           done)
        | (rw [hq8, hm6, hw6]
           exact Z1F (f:=.mk 4 0 [1+((v / 8 % 6:Nat):Int)] []) rfl rfl rfl (Z32 (by omega) (ZgI (m:=6) (.inl rfl) (by decide) (by omega) (by omega)) rfl (by omega) (Z41 (.inr (by decide)) fun r hr=>by rw [Y0g.1 hr];omega)))
     | false =>
       (refine go ?_;repeat' (apply B<;>intro hb<;>try cases hb));refine⟨?_,⟨⟨rfl,show (0:Nat)<2 by decide⟩,⟨rfl,Yt⟩,⟨rfl,Yt⟩,⟨rfl,Yt⟩,⟨rfl,show (1:Nat)<2 by decide⟩,⟨rfl,Yt⟩,Yt⟩,⟨⟨by omega,rfl,Z68 _ _ _ _⟩,⟨by omega,rfl,⟨Yt,Yt,Yt,Yt,Yt⟩,Yt⟩,Yt⟩⟩;simp at hc;omega
   obtain⟨hd1,hv2⟩:=hA;refine Z2g hC (v % 8<6) 2 [(0,.ptr 0 0 0),(1,.val (.int .i64 ((d+1:Nat):Int))),(2,.val (.int .i64 k)),(3,.val (.int .i64 6)),(8,.ptr 1 0 0),(9,.val (.int .i64 (v:Int)))] [(0,X3g l fl (t+1)),(1,⟨4,[[.val (.int .i64 0),.val (.int .i64 0),.vec [] true,.vec [] true]]⟩)] (by omega) ?_ fun hA=>?_
   . (refine go ?_;repeat' (apply B<;>intro hb<;>try cases hb))
     . refine Zb (Z5L l hl fl k (v / 8) d t hd1 ht) rfl rfl (by show [_, _, _, _, _] = _; rw [hq8]) rfl (ZQ l fl _) ⟨Yt, Yt, Yt, Yt, Yt⟩ ?_;rintro r b' - - ⟨x,t1,wx,tx,dx,sx,rfl,rfl,ht1,ix⟩;(refine go ?_;repeat' (apply B<;>intro hb<;>try cases hb));refine Z1F (f:=x) rfl ?_ rfl ⟨x,t1,wx,tx,dx,sx,rfl,rfl,ht1,ix⟩;show PV.agg (X1h (fC .i64 x))=_;rw [Z3h,ZI]
     . refine ⟨?_, ⟨⟨rfl, show (0 : Nat) < 2 by decide⟩, ⟨rfl, Yt⟩, ⟨rfl, Yt⟩, ⟨rfl, Yt⟩, ⟨rfl, show (1 : Nat) < 2 by decide⟩, ⟨rfl, Yt⟩, Yt⟩, ⟨⟨by omega, rfl, Z68 _ _ _ _⟩, ⟨by omega, rfl, ⟨Yt, Yt, Yt, Yt, Yt⟩, Yt⟩, Yt⟩⟩;rw [h8] at hb;simp at hb;omega
   (refine go ?_;repeat' (apply B<;>intro hb<;>try cases hb));refine Zb (ih hd1 (t+1) (by omega)) rfl rfl (by show [_,_,_,_]=_; rw [hdec]) rfl (ZQ l fl _) ⟨Yt,Yt,Yt,Yt⟩ ?_;rintro r b' - - ⟨x,t1,wx,tx,dx,sx,rfl,rfl,ht1,ix⟩;(refine go ?_;repeat' (apply B<;>intro hb<;>try cases hb))
   . refine Z1F (f := .mk 7 0 [] [x]) rfl ?_ rfl (Ziv wx tx dx sx ht1 ix);show PV.agg [_,_,_,.vec [X1h (fC .i64 x)] false]=_;rw [Z3h]
     rfl
   have h3:v % 8=3 \/ v % 8=4 \/ v % 8=5:=by
    rw [h8] at hb;simp at hb;omega
   refine Zb (ih hd1 t1 (by omega)) rfl rfl (by show [_,_,_,_]=_; rw [hdec]) rfl (ZQ l fl _) ⟨Yt,Yt,Yt,Yt⟩ ?_;rintro r b' - - ⟨y,t2,wy,ty,dy,sy,rfl,rfl,ht2,iy⟩;(refine go ?_;repeat' (apply B<;>intro hb<;>try cases hb));rw [h8,hwo h3];have hw:X1J (5+((v % 8:Nat):Int))=1:=by rw [X1J,Y8 (by omega)]
   refine Z1F (f:=.mk (5+((v % 8:Nat):Int)) 0 [] [x,y]) rfl ?_ rfl (Z8X hd1 (by omega) (by omega) wx (by rw [hw]; exact tx) wy (by rw [hw]; exact ty) (by rw [Xx,Y8 (by omega)]) dx dy sx sy ht1 ht2 ix iy);show PV.agg [_,_,_,.vec [X1h (fC .i64 x),X1h (fC .i64 y)] false]=_;rw [Z3h,Z3h]
   rfl
def X6V (k:Int) (r:PV):Prop:=∃ f:Fm,Wf f/\Xx f.op=1/\f.depth<=4/\f.size<=15/\r=.agg (fC .i64 f)/\in6 k f=true
theorem Zc0 (l:List Nat) (hl:X2S l) (fl:Bool) (k:Int):X7 Tryz.prog 26 [.vec (bys l) fl,.val (.int .i64 k),.val (.int .i64 6)] (X6V k):=by
 refine Yp ok26 fun C hC=>?_;(refine go ?_;repeat' (apply B<;>intro hb<;>try cases hb));refine Zb (ZbZ l hl fl k 4 (by decide) 0 (by decide)) rfl rfl rfl rfl (ZQ l fl _) ⟨Yt,Yt,Yt,Yt⟩ ?_;rintro r b' - - ⟨x,t1,wx,tx,dx,sx,rfl,rfl,ht1,ix⟩;(refine go ?_;repeat' (apply B<;>intro hb<;>try cases hb));refine Z4 rfl (Zl .i64 x) ⟨x,wx,tx,dx,by omega,rfl,ix⟩
theorem or_pow_bit' (y i j:Nat):(y ||| 2 ^ i).testBit j=(y.testBit j||decide (i=j)):=by rw [Y00,YJ]
def X5p (l:List Int):Nat:=l.foldl (fun acc r=>acc ||| 2 ^ r.toNat) 0
theorem Zal:∀ (l:List Int) (t:Int),t<=l.foldl (fun t i=>if i<=4095 then (if i>t then i else t) else t) t/\∀ r∈l,r<=4095->r<=l.foldl (fun t i=>if i<=4095 then (if i>t then i else t) else t) t
 | [],t=>⟨Int.le_refl t,fun r hr=>by cases hr⟩
 | a :: l, t => by
   rw [Y1d];obtain⟨h1,h2⟩:=Zal l (if a<=4095 then (if a>t then a else t) else t);refine⟨Y43 (by split<;>(try split)<;>omega) h1,fun r hr h=>?_⟩;rcases Ye.1 hr with rfl|hr
   . refine Y43 ?_ h1;rw [Y7 h]
     split<;>omega
   . exact h2 r hr h
theorem Z7W {top:Int}:∀ (l:List Int) (a:Nat),(∀ r∈l,0<=r/\r<=top)->l.foldl (fun acc i=>if 0<=i/\i<=top then acc ||| 2 ^ i.toNat else acc) a=l.foldl (fun acc r=>acc ||| 2 ^ r.toNat) a
 | [],a,_=>rfl
 | x :: l, a, h => by
   rw [Y1d,Y1d,Y7 (h x (Y0t ..))];exact Z7W l _ fun r hr=>h r (YC _ hr)
theorem Zc1 {l:List Int} (h:∀ r∈l,1<=r/\r<=63):XS (XR l) l=X5p l :=
 Z7W l 0 fun r hr=>⟨by have:=h r hr; omega,(Zal l (-1)).2 r hr (by have:=h r hr;omega)⟩
theorem Zam:∀ (l:List Int) (a i:Nat),(l.foldl (fun acc r=>acc ||| 2 ^ r.toNat) a).testBit i=true↔a.testBit i=true \/ ∃ r∈l,r.toNat=i
 | [],a,i=>by simp
 | x :: l, a, i => by
   rw [Y1d,Zam l,or_pow_bit',YO,Y1q];constructor
   . rintro ((h | h) | ⟨r, hr, h⟩)
     . exact .inl h
     . exact .inr ⟨x,Y0t ..,h⟩
     . exact .inr ⟨r,YC _ hr,h⟩
   . rintro (h | ⟨r, hr, h⟩)
     . exact .inl (.inl h)
     . rcases Ye.1 hr with rfl | hr
       . exact .inl (.inr h)
       . exact .inr ⟨r,hr,h⟩
theorem Zdo (l:List Int) (i:Nat):(X5p l).testBit i=true↔∃ r∈l,r.toNat=i:=by
 rw [X5p,Zam]; simp
theorem ZgJ {l:List Int} (h:∀ r∈l,1<=r/\r<=63):X5p l<18446744073709551616:=by
 have hb:∀ (l:List Int) (a:Nat),(∀ r∈l,1<=r/\r<=63)->a<18446744073709551616->l.foldl (fun acc r=>acc ||| 2 ^ r.toNat) a<18446744073709551616:=by
  intro l
  induction l with
  | nil=>exact fun a _ ha=>ha
  | cons x l ih =>
    intro a h ha;rw [Y1d];have:=h x (Y0t ..);exact ih _ (fun r hr=>h r (YC _ hr)) (Z5Q ha (Z2k (by omega)))
 exact hb l 0 h (by decide)
mutual
def XM:Fm->Nat
 | .mk _ _ roles args=>X5p roles ||| X16 args
def X16:List Fm->Nat
 | []=>0
 | a :: r=>XM a ||| X16 r
end
theorem Z54 (f:Fm):XM f=X5p f.roles ||| X16 f.args:=by cases f; simp [XM,Fm.roles,Fm.args]
theorem Zan (l m:List Fm):X16 (l++m)=X16 l ||| X16 m:=by
 induction l with
 | nil=>simp [X16]
 | cons a r ih=>simp only [Y1n,X16,ih,Y31]
theorem Zey {l:List Fm} {i:Nat} (hi:i<l.length):X16 (l.take (i+1))=X16 (l.take i) ||| XM l[i]:=by
 have e:l.take (i+1)=l.take i ++ [l[i]]:=by rw [YI,Y0c hi]; rfl
 rw [e,Zan];simp [X16]
theorem Z4r {k:Int} {f:Fm} (h:Xh k f=0):X1p f=0/\∀ a∈f.args,Xh k a=0:=by
 rw [Z1k] at h
 split at h
 . rename_i h0;refine⟨?_,Z3a h⟩;unfold X2k at h0
   split at h0
   . assumption
   . exact h0
 . rename_i h0; exact absurd h h0
theorem Z7X {f:Fm} (h:X1p f=0):∀ r∈f.roles,1<=r/\r<=63:=fun r hr=>by
 have:=YA.1 (Z9O h).2.2.2.1 r hr;simpa using this
theorem Z55 {k:Int}:∀ (d:Nat) (f:Fm),f.depth<=d->Xh k f=0->XM f<18446744073709551616:=by
 intro d
 induction d with
 | zero=>intro f hf; rw [Fm.depth_eq] at hf; omega
 | succ d ih =>
   intro f hf h;obtain⟨h1,h2⟩:=Z4r h;rw [Z54];refine Z5Q (ZgJ (Z7X h1)) ?_;have hl:∀ l:List Fm,(∀ a∈l,XM a<18446744073709551616)->X16 l<18446744073709551616:=by
    intro l
    induction l with
    | nil=>intro _; simp [X16]
    | cons a r ihl=>intro hh; rw [X16]; exact Z5Q (hh a (Y0t ..)) (ihl fun b hb=>hh b (YC _ hb))
   refine hl _ fun a ha=>?_;obtain⟨i,hi,rfl⟩:=YE ha;have:=ZG hi;rw [f.depth_eq] at hf;exact ih _ (by omega) (h2 _ ha)
theorem Z3F (k:Int):∀ (d:Nat) (f:Fm),f.depth<=d->f.size<=1000->Xh k f=0->X7 Tryz.prog 36 [.agg (fC .u8 f)] (· = XH (XM f)):=by
 intro d
 induction d with
 | zero=>intro f hf; rw [Fm.depth_eq] at hf; omega
 | succ d ih =>
   intro f hf hsz hk;obtain⟨h1,h2⟩:=Z4r hk;have hrr:=Z7X h1;have hll:(f.args.map (Xi .u8)).length=f.args.length:=by simp
   have hfd:=f.depth_eq;have hfs:=f.size_eq;have hlm:=Z21 f.args;have hlt:∀ i,X16 (f.args.take i)<18446744073709551616:=by
    intro i;have hl:∀ l:List Fm,(∀ a∈l,XM a<18446744073709551616)->X16 l<18446744073709551616:=by
     intro l
     induction l with
     | nil=>intro _; simp [X16]
     | cons a r ihl=>intro hh; rw [X16]; exact Z5Q (hh a (Y0t ..)) (ihl fun b hb=>hh b (YC _ hb))
    refine hl _ fun a ha=>?_;have ha':=Y1w ha;exact Z55 a.depth a (Y0m _) (h2 a ha')
   refine Yp ok36 fun C hC=>?_;refine Zn ?_;refine Z8 ?_;refine Z5 rfl rfl rfl ?_;(refine go ?_;repeat' (apply B<;>intro hb<;>try cases hb));refine Qe (Zbm f.roles false) ⟨Zf _,Yt⟩ ?_;rw [Zc1 hrr];(refine go ?_;repeat' (apply B<;>intro hb<;>try cases hb));refine Zv hC (fun i=>i<=f.args.length) (fun i=>f.args.length-i) 2 (fun i => [(2,.ptr 0 0 0),(3,.ptr 1 0 0),(10,.vec (f.args.map (Xi .u8)) false),(11,.val (.int .i64 (f.args.length:Int))),(12,Yv i)])
    (fun i => [(0,⟨1,[[.vec [] true]]⟩),(1,⟨1,[[.vec (X8 (Xt (X5p f.roles ||| X16 (f.args.take i)))) false]]⟩)]) (Y0l _) 0 (Y0l _)
    ⟨⟨rfl,show (0:Nat)<2 by decide⟩,⟨rfl,show (1:Nat)<2 by decide⟩,⟨rfl,Z2a _ _ _⟩,⟨by rw [<- hll]; rfl,Yt⟩,⟨rfl,Yt⟩,Yt⟩
    ⟨⟨by decide,rfl,⟨Yt,Yt⟩,Yt⟩,⟨by decide,by rw [Y3x,X16,Nat.or_zero]; rfl,⟨Z1b _ _,Yt⟩,Yt⟩,Yt⟩ ?_
   intro i hi;have hinc:IntKind.i64.wrap ((i:Int)+1)=((i+1:Nat):Int):=Y0v _ ⟨by omega,by omega⟩;have hcur:=Z5Q (ZgJ hrr) (hlt i);(refine go ?_;repeat' (apply B<;>intro hb<;>try cases hb))
   . have hil : i < f.args.length := by have := Y0u hb; omega
     have hdl:=ZG hil;have hsl:=Z3w hil;have hin:=h2 _ (Y0j hil);refine Qo (Zk (xs:=f.args) rfl rfl i rfl hil (Zz _ _)) ?_;rw [ZI];(refine go ?_;repeat' (apply B<;>intro hb<;>try cases hb));refine Qd (ih f.args[i] (by omega) (by omega) hin) ⟨Zl _ _,Yt⟩ ?_;refine Qd (Z63 _ (XM f.args[i]) hcur (Z55 _ _ (Y0m _) hin)) ⟨Z9 _,Z9 _,Yt⟩ ?_;(refine go ?_;repeat' (apply B<;>intro hb<;>try cases hb))
     exact⟨i+1,by omega,by omega,
      ⟨⟨rfl,show (0:Nat)<2 by decide⟩,⟨rfl,show (1:Nat)<2 by decide⟩,⟨rfl,Z2a _ _ _⟩,⟨rfl,Yt⟩,⟨by show some _=some _; rw [hinc],Yt⟩,Yt⟩,
      ⟨⟨by decide,rfl,⟨Yt,Yt⟩,Yt⟩,⟨by decide,by rw [Zey hil,<- Y31]; rfl,⟨Z1b _ _,Yt⟩,Yt⟩,Yt⟩⟩
   . have hil : i = f.args.length := by have := YH hb; omega
     subst hil;rw [Y0q];exact Z4 rfl (Z9 _) (by rw [Z54]; rfl)
section
variable {P:Program} {C:Ctx} {Fr:Nat->Prop} {e:Env} {h:X0} {n:Nat} {F:XC} {φ:XE} {a:Act} {w:World} {K:Nat->Env->X0->Prop} {os:List Xm} {d:Option Nat} {Q:Exit->Nat->Env->X0->Prop}
def Xu (P:Program) (f:FuncId) (args:Nat->List PV) (b:Bx) (R:PV->Bx->Prop):Prop :=
 Xp P f 1 (args 0) (X0.upd (fun _=>none) 0 b) fun _ r h'=>∃ b',h' 0=some b'/\r.pure/\X2 b'.elems/\R r b'
def MkL (args:Nat->List PV):Prop:=(∀ i n,(args i).length=(args n).length)/\∀ (F:XC) (φ φ':XE) (v:Value) (i n j:Nat),φ i=φ' n->Rep F φ v ((args i).getD j pvu)->Rep F φ' v ((args n).getD j pvu)
theorem Z1C {p:PV} (hp:p.pure):Mk fun _=>p:=fun F φ φ' v i n hn hv=>hv.pure hp
theorem ZgQ (k off:Nat):Mk fun i=>.ptr i k off:=fun F φ φ' v i n hn hv=>by
 obtain⟨loc,x,g1,gz,g2,g3,rfl⟩:=hv.ptr_inv;exact .ptr n k off loc x (hn▸g1) gz g2 g3
theorem Z1S:MkL fun _ => []:=⟨fun _ _=>rfl,fun F φ φ' v i n j hn hv=>by simpa [pvu] using hv.pure (φ':=φ') (show (([]:List PV).getD j pvu).pure by simp [pvu,PV.inn])⟩
theorem Zw {a:Nat->PV} {l:Nat->List PV} (ha:Mk a) (hl:MkL l):MkL fun i=>a i :: l i:=⟨fun i n=>by simp [hl.1 i n],fun F φ φ' v i n j hn hv=>by
 cases j with
 | zero=>exact ha F φ φ' v i n hn hv
 | succ j=>exact hl.2 F φ φ' v i n j hn hv⟩
theorem Xu.run {f:FuncId} {b:Bx} {args:Nat->List PV} {R:PV->Bx->Prop} (hs:Xu P f args b R) (hm:MkL args) (hpb:X2 b.elems) {id:Nat} (hb:h id=some b) (s:St' C Fr e h F φ a w) {vs:Array Value} (hv:X1Y F φ vs (args id)) :
 Calls P f vs w fun en w'=>∃ v r b' F',en=.returned v/\(r.pure/\X2 b'.elems/\R r b')/\Rep F' φ v r/\St' C Fr e (h.upd id b') F' φ a w':=by
 exact (X5e (R:=fun r b'=>r.pure/\R r b') (Xp.mono hs fun _ _ _ ⟨b',h1,h2,h3,h4⟩=>⟨b',h1,h3,h2,h4⟩) hpb hb s fun φ1 h1=>⟨by rw [hv.1]; exact hm.1 id 0,fun i hi=>hm.2 F φ φ1 _ id 0 i h1.symm (hv.2 i (by rw [hm.1 id 0]; exact hi))⟩).mono fun _ _ ⟨v,r,b',F',h1,⟨h2,h3,h4⟩,⟨_,_,h5⟩,h6⟩=>⟨v,r,b',F',h1,⟨h3,h2,h4⟩,h5.pure h3,h6⟩
theorem Xu.frame {f:FuncId} {b:Bx} {args:Nat->List PV} {R:PV->Bx->Prop} (hs:Xu P f args b R) (hm:MkL args) (hpb:X2 b.elems) {id:Nat} (hb:h id=some b) :
 Xp P f n (args id) h fun n' r h'=>∃ b',n'=n/\h'=h.upd id b'/\r.pure/\X2 b'.elems/\R r b':=by
 refine⟨hs.1,fun C e F φ a w vs s hv=>(hs.run hm hpb hb s hv).mono ?_⟩;rintro en w' ⟨v,r,b',F',rfl,⟨h1,h2,h3⟩,hvr,s'⟩;exact⟨v,r,n,_,F',φ,rfl,⟨b',rfl,rfl,h1,h2,h3⟩,hvr,s'⟩
theorem Xu.prun {g:FuncId} {b:Bx} {args:Nat->List PV} {R:PV->Bx->Prop} (hs:Xu P g args b R) (hm:MkL args) (hpb:X2 b.elems) (id:Nat):X6R P g id b (args id) R:=⟨hs.1,fun hb s hv=>hs.run hm hpb hb s hv⟩
theorem ZZ {f:Operand} {args':List Operand} {g:FuncId} {caps as0:List PV} {args:Nat->List PV} {b:Bx} (id:Nat) {R:PV->Bx->Prop} (hs:Xu P g args b R) (hm:MkL args) (hf:ev e f=some (.fn g caps)) (ha:evs e args'=some as0) (hr:as0++caps=args id) (hb:h id=some b) (hpb:X2 b.elems)
 (hk:∀ r b',r.pure->X2 b'.elems->R r b'->Xj P os n (Xq e d r) (h.upd id b') K):Xj P (⟨d,.call f args',none⟩ :: os) n e h K:=by
 refine ZH hf ha (R:=fun n' r h'=>∃ b',n'=n/\h'=h.upd id b'/\r.pure/\X2 b'.elems/\R r b') (by rw [hr]; exact hs.frame hm hpb hb) ?_;rintro n' r h' ⟨b',rfl,rfl,h1,h2,h3⟩;exact hk r b' h1 h2 h3
theorem Zi {f nt:Nat} {ac:X3} {rs:List X2o} (hf:X46 P f nt ac rs) {b:Bx} {args:Nat->List PV} {R:PV->Bx->Prop} (hn:(args 0).length<=nt) (hk:∀ C:Ctx,C.dom 1->aw P C ac (X68 rs fun _ r h'=>∃ b',h' 0=some b'/\r.pure/\X2 b'.elems/\R r b') 1 (X1k (args 0)) (Xs [(0,b)])):Xu P f args b R :=
 ZX hf hn hk
theorem ZeC {g:FuncId} (hb:X12 P g) (hc:∀ (b:Nat) (es:Array MapEntry) (clock:Nat) (w:World),w.heap[b]?=some (.map es clock)->Calls P g #[.map (some b)] w fun e w'=>e=.returned (.map (some w.heap.size))/\w'=w.alloc (.map es clock)) (k:Nat) (rows:List (List PV)) :
 X5v P g (some (k,⟨0,rows⟩)) [.mp k] .mp ⟨0,rows⟩:=by
 refine⟨hb,fun {C Fr e h F φ a w vs n} hrd hn s hv=>?_⟩;have hk:=hrd k _ rfl;obtain⟨hsz,hvi⟩:=hv;have r0:Rep F φ (vs.getD 0 undef) (.mp k):=hvi 0 (Y1g _);obtain⟨loc,ad,hloc,hz0,hbase,hv0⟩:=r0.mp_inv;obtain⟨loc',h1,h2,h3⟩:=s.live k _ hk;obtain rfl:loc'=loc:=by rw [h1] at hloc; simpa using hloc
 obtain⟨y,hy,es,tm,hg,hr⟩:=(h2.rows hz0).room;obtain rfl:y=ad:=by rw [hy] at hbase; simpa using hbase
 have hvs:vs = #[.map (some y.block)]:=by
  apply Array.ext
  . exact hsz
  . intro i hi1 hi2;have:i=0:=by simp at hi2; omega
    subst this;have:vs.getD 0 undef=vs[0]:=by simp [Array.getD,hi1]
    rw [<- this,hv0]; rfl
 rw [hvs];refine (hc y.block es tm w hg).mono ?_;rintro en w' ⟨rfl,rfl⟩;exact⟨_,F,_,rfl,.mp n ⟨some ⟨w.heap.size,0,none⟩,0,0,1⟩ ⟨w.heap.size,0,none⟩ (by simp [Xb]) rfl rfl,s.allocMapOf hn es tm rows hr⟩
theorem Xp.less {f n:Nat} {args:List PV} {R R2:Nat->PV->X0->Prop} (hs:Xp P f n args h R) (hR:∀ n' r h',R n' r h'->∃ h2:X0,(∀ i b,h2 i=some b->h' i=some b)/\R2 n' r h2):Xp P f n args h R2 :=
 ⟨hs.1,fun C e F φ a w vs hF hv=>(hs.2 C e F φ a w vs hF hv).mono fun _ _ ⟨v,r,n',h',F',φ',h1,h2,h3,h4⟩=>let ⟨h2',g1,g2⟩:=hR _ _ _ h2; ⟨v,r,n',h2',F',φ',h1,g2,h3,h4.sub (fun _ _ h=>h) g1⟩⟩
theorem Z94 {h':X0} {i j:Nat} {b c:Bx} (hi:h' i=some b) (hj:h' j=some c):∀ k x,Xs [(i,b),(j,c)] k=some x->h' k=some x:=fun k x hk=>by
 have:=Z1s hk;simp only [Ye,Y1z,Y2Y,Y2s] at this;rcases this with⟨rfl,rfl⟩|⟨rfl,rfl⟩
 . exact hi
 . exact hj
end
def X6S:Nat->Fm->Prop
 | 0,_=>False
 | d+1,f=>0<=f.op/\f.op<=255/\f.roles.length<=1000/\f.args.length<=1000/\∀ a∈f.args,X6S d a
theorem Wf.nice:∀ (d:Nat) (f:Fm),Wf f->f.depth<=d->X6S d f
 | 0,f,_,h=>by rw [Fm.depth_eq] at h; omega
 | d + 1, f, w, h => by
   have hi:=w.inv';have hm:X19 f.op<=8:=by
    unfold X19
    split
    . omega
    . split<;>omega
   have ho:Xl f.op<=2:=by
    unfold Xl
    split
    . omega
    . split<;>omega
   refine⟨by have:=hi.lo; omega,by have:=hi.hi; omega,by have:=hi.most; omega,by have:=hi.ar; omega,fun a ha=>?_⟩;obtain⟨i,hil,rfl⟩:=YE ha;have:=ZG hil;have:=f.depth_eq;exact Wf.nice d _ (w.arg _ (Y0j _)).1 (by omega)
theorem ZaL:∀ (d:Nat) (f:Fm),X6S d f->X7 Tryz.prog 27 [.agg (fC .i64 f)] (· = .agg (fC .u8 f)):=by
 intro d
 induction d with
 | zero=>intro f hf; exact hf.elim
 | succ d ih =>
   rintro f ⟨hop0,hop1,hrl,hal,harg⟩;have hll:(f.args.map (Xi .i64)).length=f.args.length:=by simp
   have hnl:=Z19 f.roles;have hconv:IntKind.u8.wrap f.op=f.op:=by rw [IntKind.wrap_u8]; omega
   refine Yp ok27 fun C hC=>?_;refine Zn ?_;refine Z8 ?_;refine Z5 rfl rfl rfl ?_;(first|refine st ?_|(apply B<;>intro hb<;>try cases hb));(first|refine st ?_|(apply B<;>intro hb<;>try cases hb));(first|refine st ?_|(apply B<;>intro hb<;>try cases hb));refine Z18 [8] ?_
   iterate 2 (first|refine st ?_|(apply B<;>intro hb<;>try cases hb))
   refine Qr (Z2N rfl hconv) ?_;(refine go ?_;repeat' (apply B<;>intro hb<;>try cases hb));refine ZhN (Z6j (l := []) (m:=Xc f.roles) rfl rfl (fun c hc=>by cases hc) (fun c hc=>by obtain⟨x,_,rfl⟩:=Y0i.1 hc; rfl) (by show ((0:Nat)+(Xc f.roles).length)*8<=_; rw [hnl];omega)) rfl rfl ?_;rw [Y1M]
   iterate 9 (first|refine st ?_|(apply B<;>intro hb<;>try cases hb))
   refine Zm (Z1w (id:=11) (b:=⟨4,[[.val (.int .u8 f.op),.val (.int .i64 f.n),.vec (Xc f.roles) false,.vec [] true]]⟩) (i0:=0) (j0:=3) rfl (show 0<1 by decide) (show 3<4 by decide) rfl 4 (by decide) (by decide)) ?_;(refine go ?_;repeat' (apply B<;>intro hb<;>try cases hb));refine Z1n hC (fun i=>i<=f.args.length) (fun i=>f.args.length-i) 3 (fun i => [(2,.ptr 0 0 0),(3,.ptr 1 0 0),(17,.vec (f.args.map (Xi .i64)) false),(18,.val (.int .i64 f.args.length)),(19,Yv i)])
    (fun i => [(0,⟨4,[[.val (.int .u8 0),.val (.int .i64 0),.vec [] true,.vec [] true]]⟩),(1,⟨4,[[.val (.int .u8 f.op),.val (.int .i64 f.n),.vec (Xc f.roles) false,.own 2]]⟩),(2,⟨4,(f.args.take i).map (Xi .u8)⟩)]) (by omega) 0 (by omega) (fun i=>mv 1 11 (mv 2 13 i)) (fun i hi=>by omega) (Z1e rfl)
    ⟨Qt 0 0 0,Qt 1 0 0,Qp (Z1j _ _),⟨_,by rw [<- hll]; rfl,.pure _ Yt⟩,Qp Yt,Yt⟩
    ⟨⟨by omega,_,rfl,.same _ ⟨⟨Yt,Yt,Yt,Yt,Yt⟩,Yt⟩⟩,⟨by omega,_,rfl,X1w.single ⟨.pure _ Yt,.pure _ Yt,.pure _ (Zf _),.own (ρ:=fun i=>mv 1 11 (mv 2 13 i)) 2 (by decide),Yt⟩ rfl⟩,⟨by omega,_,rfl,.same _ Yt⟩,Yt⟩ ?_
   intro i hi;have hinc:IntKind.i64.wrap ((i:Int)+1)=((i+1:Nat):Int):=Y0v _ ⟨by omega,by omega⟩;have hcl:((f.args.take i).map (Xi .u8)).length=i:=by rw [Y0f,Y0o]; omega
   iterate 2 (first|refine st ?_|(apply B<;>intro hb<;>try cases hb))
   refine Zx rfl rfl rfl (fun hb=>?_) (fun hb=>?_)
   . have hil : i < f.args.length := by simpa using hb
     (refine go ?_;repeat' (apply B<;>intro hb<;>try cases hb));refine Qo (Zk (xs:=f.args) rfl rfl i rfl hil (Zz _ _)) ?_;rw [ZI .i64 f.args[i]];(refine go ?_;repeat' (apply B<;>intro hb<;>try cases hb));refine Qd (ih f.args[i] (harg _ (Y0j _))) ⟨Zl _ _,Yt⟩ ?_;(refine go ?_;repeat' (apply B<;>intro hb<;>try cases hb))
     refine Qr (Z11 (k:=2) (m := [fC .u8 f.args[i]]) (fl:=true) rfl rfl rfl (fun c hc=>by rw [Y0g.1 hc]; rfl) rfl (by
      show (((f.args.take i).map (Xi .u8)).length+1)*64<=_
      rw [hcl];omega)) ?_
     have happ:(f.args.take i).map (Xi .u8) ++ [fC .u8 f.args[i]]=(f.args.take (i+1)).map (Xi .u8):=by
      rw [YI,Y0c hil,Y0r,<- ZI]; rfl
     simp only;rw [happ];(refine go ?_;repeat' (apply B<;>intro hb<;>try cases hb))
     exact⟨i+1,mv 2 9,by omega,by omega,Z3y (by decide),Z1e rfl,
      ⟨Qt 0 0 0,Qt 1 0 0,Qp (Z1j _ _),Qp Yt,⟨_,by show some _=some _; rw [hinc],.pure _ Yt⟩,Yt⟩,
      ⟨⟨by omega,_,rfl,.same _ ⟨⟨Yt,Yt,Yt,Yt,Yt⟩,Yt⟩⟩,⟨by omega,_,rfl,X1w.single ⟨.pure _ Yt,.pure _ Yt,.pure _ (Zf _),.own (ρ:=mv 2 9) 2 (by decide),Yt⟩ rfl⟩,⟨by omega,_,rfl,.same _ (Z1j _ _)⟩,Yt⟩⟩
   . have hil : i = f.args.length := by simp at hb; omega
     subst hil;rw [Y0q]
     iterate 7 (first|refine st ?_|(apply B<;>intro hb<;>try cases hb))
     refine Zm (Z5G (k:=31) (id:=2) (b:=⟨4,f.args.map (Xi .u8)⟩) rfl rfl (Z1j _ _) (X3Z.agg (id:=2) (l:=f.args.map (Xi .u8)) (xs := [.val (.int .u8 f.op),.val (.int .i64 f.n),.vec (Xc f.roles) false,.own 2]) (ys:=fC .u8 f) ⟨.pure _ Yt,.pure _ Yt,.pure _ (Zf _),.own,Yt⟩)) ?_;(refine go ?_;repeat' (apply B<;>intro hb<;>try cases hb));exact Z4 rfl (Zl .u8 f) rfl
def X5O (r:PV):Prop:=∃ f:Fm,Wf f/\Xx f.op=1/\f.depth<=4/\f.size<=15/\in6 1 f=true/\r=.tup [.agg (fC .u8 f),.agg (fC .i64 f)]
theorem Zkc (l:List Nat):bys l=l.map fun (x:Nat) => [PV.val (.int .u8 (x:Int))]:=rfl
theorem Z79 (l:List Nat) (hl:X2S l) (fl:Bool):X7 Tryz.prog 5 [.vec (bys l) fl] X5O:=by
 have hnl:(bys l).length=l.length:=by simp [bys]
 have hmn:(if (40:Int)<((bys l).length:Int) then (40:Int) else ((bys l).length:Int))=((min l.length 40:Nat):Int):=by rw [hnl]; split<;>omega
 refine Yp ok5 fun C hC=>?_;(refine go ?_;repeat' (apply B<;>intro hb<;>try cases hb));refine Qo (ZkR (xs:=l) (g:=fun (x:Nat) => [PV.val (.int .u8 (x:Int))]) rfl 0 (min l.length 40) rfl (by show some _=some _; rw [<- hmn]) (Y0l _) (Y3s _ _) (fun _=>rfl)) ?_;rw [<- Zkc,Y2D];have hl2:X2S (l.take (min l.length 40)):=fun x hx=>hl x (Y1w hx);refine Z13 rfl rfl (Zc0 _ hl2 false 1) ⟨Z67 _,Yt,Yt,Yt⟩ rfl ?_;rintro r ⟨f,wf,tf,df,sf,rfl,i6⟩
 repeat' (first|refine Z8j [] [(0,8)] [31,31,31,4,31] (by kernel_rfl) ?_|(first|refine st ?_|(apply B<;>intro hb<;>try cases hb)))
 refine Qd (ZaL 4 f (wf.nice 4 f df)) ⟨Zl _ _,Yt⟩ ?_;(refine go ?_;repeat' (apply B<;>intro hb<;>try cases hb));exact Z4 rfl ⟨Zl _ _,Zl _ _,Yt⟩ ⟨f,wf,tf,df,sf,i6,rfl⟩
end
section
open Go.RowKit
def X6J (P:Program) (t:TypeId):Option IntKind:=match P.underlying t with|some (.int k)=>some k|_=>none
def X3Q (P:Program) (t:TypeId):Option TypeId:=match P.underlying t with|some (.slice e)=>some e|_=>none
section
variable {P:Program} {t:TypeId} {n:Nat} {ps:List PV} {p:PV}
theorem Zhn {k:IntKind} (h:X6J P t=some k):P.underlying t=some (.int k):=by
 unfold X6J at h
 split at h
 . rename_i k' hu; cases h; exact hu
 . cases h
theorem Z7a {e:TypeId} (h:X3Q P t=some e):P.underlying t=some (.slice e):=by
 unfold X3Q at h
 split at h
 . rename_i k' hu; cases h; exact hu
 . cases h
theorem Zho {k:IntKind} (h:XL P n t ps) (hk:X6J P t=some k):∃ m,(Lit.int k m).wf=true/\ps = [.val (.int k m)]:=by
 cases n with
 | zero=>exact h.elim
 | succ n=>simpa only [XL,Zhn hk] using h
theorem ZcC {e:TypeId} (h:XL P n t ps) (hk:X3Q P t=some e):∃ n' ll fl,ll.length<=Xd/\(∀ l∈ll,XL P n' e l)/\ps = [.vec ll fl]:=by
 cases n with
 | zero=>exact h.elim
 | succ n =>
   have:∃ ll fl,ll.length<=Xd/\(∀ l∈ll,XL P n e l)/\ps = [.vec ll fl]:=by simpa only [XL,Z7a hk] using h
   obtain⟨ll,fl,h⟩:=this;exact⟨n,ll,fl,h⟩
theorem ZaM {e:TypeId} (h:X30 P t p) (hk:X3Q P t=some e):∃ n' ll fl,ll.length<=Xd/\(∀ l∈ll,XL P n' e l)/\p=.vec ll fl:=by
 obtain⟨n,h⟩:=h;rw [Z7a hk] at h;obtain⟨n',ll,fl,h1,h2,h3⟩:=ZcC (show XL P n t [p] from h) hk;exact⟨n',ll,fl,h1,h2,by simpa using h3⟩
end
end
end Go.Proofs.YtgpjedjgmpienaaGreatDoor
