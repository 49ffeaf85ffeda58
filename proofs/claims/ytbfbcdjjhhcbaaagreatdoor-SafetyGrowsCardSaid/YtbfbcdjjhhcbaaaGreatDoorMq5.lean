/-
  Merged from the texts that this claim's theorem needs, part 6 of 7. No statement of the seat is proved here.
-/
import Derived.Test.YtbfbcdjjhhcbaaaGreatDoorMq4
set_option linter.unusedSimpArgs false
set_option linter.unusedVariables false
set_option linter.unusedSectionVars false
set_option maxRecDepth 100000
set_option maxHeartbeats 16000000
namespace Go.Proofs.YtbfbcdjjhhcbaaaGreatDoor
section
open Go.RowKit
attribute [local irreducible] aw Xk dK
theorem Z8a (k:Nat) (h1:1<=k) (h2:k<=64):Xa Tryz.prog 88 [.val (.int .i64 (k:Int))] (· = XH (2 ^ k-1)):=by
 refine Yp ok88 fun C hC=>?_;have hq:IntKind.i64.wrap (((k+63:Nat):Int).tdiv 64)=((1:Nat):Int):=by
  rw [Y2Z _ _ ⟨by omega,by omega,by omega⟩]; omega
 refine gd 6 ⟨?_⟩;refine Zh rfl rfl rfl (v:=(k:Int)) (by split<;>omega) ?_;refine Zh rfl rfl rfl (v:=(k:Int)) (by split<;>omega) ?_;refine gd 9 ⟨?_⟩;refine Zh rfl rfl rfl (show IntKind.i64.wrap ((k:Int)+63)=((k+63:Nat):Int) from Y0v _ ⟨by omega,by omega⟩) ?_;refine gd 10 ⟨?_⟩;refine Zh rfl rfl rfl hq ?_;refine go ?_;refine Z1z 1 ?_;refine gd 22 ⟨?_⟩;by_cases hk:k=64
 . subst hk
   repeat' (first|refine Zb (Zn (k:=33) rfl rfl (ZU rfl)) ?_|(first|refine st ?_|(apply B<;>intro hb<;>try cases hb)))
   exact Z8 rfl (Z2C rfl) (by rw [Z3m (by decide) (by decide)]; rfl)
 . have hr : (k : Int).tmod 64 = ((k : Nat) : Int) := by rw [Y1N (by omega)]; omega
   refine Zh rfl rfl rfl hr ?_;refine Qo (Z7 (v:=true) rfl (by simp;omega)) ?_;refine gd 29 ⟨?_⟩;refine Zh rfl rfl rfl hr ?_
   refine Qo (Zf2 rfl rfl (by omega) (v:=((2 ^ k:Nat):Int)) (by
    rw [show min ((k:Int)).toNat IntKind.u64.bits=k by simp [IntKind.bits]; omega];have hp:=ZV (show k<64 by omega);rw [Y4d,show (2:Int) ^ k=((2 ^ k:Nat):Int) by simp]
    exact Y0x _ ⟨Y1U _,Y38.2 (show _<=18446744073709551615 by omega)⟩)) ?_
   refine Zh rfl rfl rfl (v:=((2 ^ k-1:Nat):Int)) (by
    have hp:=ZV (show k<64 by omega);have:=Y2U k;rw [show ((2 ^ k:Nat):Int)-1=((2 ^ k-1:Nat):Int) by omega]
    exact Y0x _ ⟨Y1U _,Y38.2 (show _<=18446744073709551615 by omega)⟩) ?_
   have hp:=ZV (show k<64 by omega);have hp2:2<=2 ^ k:=YX (n:=2) (by decide) h1
   repeat' (first|refine Zb (Zn (k:=33) rfl rfl (ZU rfl)) ?_|(first|refine st ?_|(apply B<;>intro hb<;>try cases hb)))
   exact Z8 rfl (Z2C rfl) (by rw [Z3m (by omega) (by omega)]; rfl)
theorem Z95 {N M:Nat} (hN:N<18446744073709551616):N &&& M<18446744073709551616:=Y02 Y1s hN
theorem ZhS (a b:Nat) (ha:a<18446744073709551616) (hb:b<18446744073709551616):bits .and .u64 (a:Int) (b:Int)=((a &&& b:Nat):Int):=by
 have h1:(BitVec.ofInt 64 (a:Int)).toNat=a:=by rw [Y1v,Y1V]; exact Y1m (by omega)
 have h2:(BitVec.ofInt 64 (b:Int)).toNat=b:=by rw [Y1v,Y1V]; exact Y1m (by omega)
 show IntKind.u64.wrap ((BitVec.ofInt 64 (a:Int) &&& BitVec.ofInt 64 (b:Int)).toNat:Int)=_;rw [Y3M,h1,h2];have:a &&& b<=a:=Y1s;exact Y0x _ ⟨by omega,by omega⟩
theorem Z2F (N M:Nat) (hN:N<18446744073709551616) (hM:M<18446744073709551616):Xa Tryz.prog 28 [XH N,XH M] (· = XH (N &&& M)):=by
 have hlt:=Z95 (M:=M) hN;rcases Z19 hN with⟨rfl,e1⟩|⟨h1,e1⟩<;>rcases Z19 hM with⟨rfl,e2⟩|⟨h2,e2⟩<;>rw [e1]<;>(try rw [e2])<;>clear e1 e2
 all_goals
  refine Yp ok28 fun C hC=>?_;refine Zq ?_;refine Za ?_;refine Z5 rfl rfl rfl ?_;refine Z5 rfl rfl rfl ?_;refine go ?_;refine Z1z 1 ?_
 case inr.inr =>
  refine gd 32 ⟨?_⟩;refine Qr (ZS rfl (ZhS N M hN hM)) ?_
  repeat' (first|refine Zb (Zn (k:=35) rfl rfl (ZU rfl)) ?_|(first|refine st ?_|(apply B<;>intro hb<;>try cases hb)))
  refine Zz rfl rfl (Z2i [N &&& M]) (ZY rfl) rfl fun r hr=>?_;have hw:X1t [N &&& M]:=fun x hx=>by rw [Y0g.1 hx]; exact hlt
  have e1:=hr.set hw;have e2:ofW [N &&& M]=N &&& M:=by simp [ofW]
  rw [e2] at e1;subst e1;refine go ?_;exact Z8 rfl (Z2 _) rfl
 all_goals
  repeat' (first|refine Zb (Zn (k:=35) rfl rfl (ZU rfl)) ?_|(first|refine st ?_|(apply B<;>intro hb<;>try cases hb)))
  refine Zz rfl rfl (Z2i []) (ZY rfl) rfl fun r hr=>?_;have e1:=hr.set (fun x hx=>by cases hx);subst e1;refine go ?_;exact Z8 rfl (Z2 _) (show XH (ofW [])=_ by simp [ofW])
theorem Zlf {l:List Pr} {m:Nat} (hl:∀ p∈l,p.1<=m/\p.2<=m) {a b:Nat} (h:Up l a b):a<=m/\b<=m:=by
 induction h with
 | one h=>exact hl _ h
 | more _ k ih=>exact⟨ih.1,(hl _ k).2⟩
theorem X5M {i:Nat} (h1:1<=i) (h2:i<=5):(62:Nat).testBit i=true:=by
 have:i=1 \/ i=2 \/ i=3 \/ i=4 \/ i=5:=by omega
 rcases this with rfl|rfl|rfl|rfl|rfl<;>rfl
theorem ZcV {i:Nat} (h:(62:Nat).testBit i=true):1<=i/\i<=5:=by
 have:=Z5R (N:=62) (by decide) h;have hi:i<6:=Y4s fun h6=>by
  rw [Y27 (show 62<2 ^ i from YE (by decide) (YX (by decide) h6))] at h; cases h
 refine⟨Nat.one_le_iff_ne_zero.2 fun h0=>?_,by omega⟩;subst h0; cases h
theorem ZiJ {t:PB} (h:Xz t) {r:Nat} (hr:r<=5):(sen t.l r &&& mkN t.n) ||| 62=62:=Xg.2 fun i hi=>by
 rw [Y0z,Y0k,Z2o,Y0k,Y0n,Y0n] at hi;refine X5M hi.2.1 ?_;rcases (Z4G h.good.small r i).1 hi.1 with h1|h1
 . exact (Zlf (m:=5) (fun p hp=>(h.lk p hp).2.2) h1).1
 . omega
def X2F (N:Nat) (l:List Cu):Prop:=∀ c∈l,c.1 ||| 62=62/\c.2=N
theorem ZbA {N:Nat} {l:List Cu} (h:X2F N l) (hn:l.Nodup):l.length<=64:=by
 have hnd:(l.map (·.1)).Nodup:=by
  rw [Y1f,Y1o];refine Y1x (fun {a b} ha hb hab e=>hab ?_) (Y1f.1 hn);exact Y4f e ((h a ha).2.trans (h b hb).2.symm)
 have:=Z2M 64 _ hnd fun x hx=>by
  obtain⟨c,hc,rfl⟩:=Y0i.1 hx;have:c.1<=62:=by have:=(h c hc).1; rw [<- this]; exact YZ
  omega
 rwa [Y0f] at this
theorem ZbB {t:PB} (h:Xz t) {r:Nat} (hr:r<=5) {N:Nat} {x:List Cu} (hx:X2F N x):X2F N (exX t.l t.n r x):=fun c hc=>by
 obtain⟨y,hy,hc⟩:=Y1d.1 hc;obtain⟨a,ha,rfl⟩:=Y0i.1 hc;refine⟨Xg.2 fun i hi=>?_,(hx y hy).2⟩;rw [Y00,YP,YK,Y0n] at hi;rcases hi with hi|rfl
 . exact Xg.1 (hx y hy).1 i hi
 . exact Xg.1 (ZiJ h hr) _ ((Z15 (Z3T h.n.2)).1 ha)
theorem ZcW {N:Nat} {l:List Cu} (h:X2F N l):X2F N (X36 l):=fun c hc=>h c (Z2R hc).1
theorem ZcX {N:Nat} (hN:N<18446744073709551616) {l:List Cu} (h:X2F N l):∀ c∈l,XA c:=fun c hc=>by
 have:c.1<=62:=by have:=(h c hc).1; rw [<- this]; exact YZ
 exact⟨by omega,by rw [(h c hc).2]; exact hN⟩
theorem ZfX (l:List Pr) {n:Nat} (hn:n<=63) (rs:List Nat):exN l n rs<18446744073709551616:=by
 have:∀ (rs:List Nat) (o:Nat),o<18446744073709551616->rs.foldl (fun o r=>o ||| (sen l r &&& mkN n)) o<18446744073709551616:=by
  intro rs
  induction rs with
  | nil=>exact fun o h=>h
  | cons r rs ih=>exact fun o h=>ih _ (Z1X h (Z3T hn))
 exact this _ 0 (by decide)
theorem Zkv {t:PB} (h:Xz t) {rs:List Nat} (hr:∀ r∈rs,r<=5):exN t.l t.n rs ||| 62=62:=Xg.2 fun i hi=>by
 rcases (Z74 t.l t.n i rs 0).1 hi with h1|⟨r,hr',h1,h2⟩
 . simp at h1
 . exact Xg.1 (ZiJ h (hr r hr')) i (by rw [Y0z,h1,h2]; rfl)
theorem ZbC {t:PB} (h:Xz t) {N:Nat} (hN:N<18446744073709551616):∀ (rs:List Nat),(∀ r∈rs,r<=5)->∀ x,X2F N x->x.Nodup->X2F N (exF t.l t.n rs x)/\(exF t.l t.n rs x).Nodup
 | [],_,x,h1,h2=>⟨h1,h2⟩
 | r :: rs,hr,x,h1,h2=>ZbC h hN rs (fun a ha=>hr a (YD _ ha)) _ (ZcW (ZbB h (hr r (Y0t ..)) h1)) (Z5B (ZcX hN (ZbB h (hr r (Y0t ..)) h1)))
theorem InM.le5 {c:Cu} (h:InM 62 c):(∀ r∈mem c.1,1<=r/\r<=5)/\∀ r∈mem c.2,1<=r/\r<=5:=by
 have h64:=h.lt (by decide);exact⟨fun r hr=>ZcV (Xg.1 h.1 r ((Z15 h64.1).1 hr)),fun r hr=>ZcV (Xg.1 h.2 r ((Z15 h64.2).1 hr))⟩
theorem Z8b {t:PB} (h:Xz t) {c:Cu} (hm:InM 62 c):X2F (exN t.l t.n (mem c.2)) (exL t.l t.n c)/\(exL t.l t.n c).Nodup/\(exL t.l t.n c).length<=64/\∀ c'∈exL t.l t.n c,InM 62 c':=by
 have h1:=ZbC h (ZfX t.l h.n.2 (mem c.2)) (mem c.1) (fun r hr=>(hm.le5.1 r hr).2) [(0,exN t.l t.n (mem c.2))] (fun c hc=>by rw [Y0g] at hc; subst hc; exact⟨(by decide:(0:Nat) ||| 62=62),rfl⟩) (by simp);refine⟨h1.1,h1.2,ZbA h1.1 h1.2,fun c' hc'=>⟨(h1.1 c' hc').1,?_⟩⟩;rw [(h1.1 c' hc').2];exact Zkv h fun r hr=>(hm.le5.2 r hr).2
theorem ZbD (l:List Pr) (n r:Nat):∀ x:List Cu,(exX l n r x).length<=64*x.length
 | []=>by simp [exX]
 | y :: x => by
   have ih:=ZbD l n r x;have:exX l n r (y :: x)=(mem (sen l r &&& mkN n)).map (fun a=>(y.1 ||| 2 ^ a,y.2))++exX l n r x:=by simp [exX]
   rw [this,Y0e,Y0f,Y04];have:=Z2y (sen l r &&& mkN n);omega
theorem Z5e (n:Nat) (hn:n<=63):X1b (2 ^ (n+1)-1) 0=mkN n:=by
 refine YF fun i=>?_;have hp:2 ^ (n+1)<=2 ^ 64:=YX (by decide) (by omega);have:=Z3B (N:=2 ^ (n+1)-1) (by have:=Y2U (n+1);omega) 0 i;rw [show ((0:Nat):Int)=0 from rfl] at this;rw [this,Y3n,Z2o,YO];simp;omega
theorem Z5f {t:PB} (h:Xz t) (S:List Nat) (c:Cu) (hc:InC t.n c) (hm:InM 62 c):Xa Tryz.prog 154 [.agg (pbP t S),cuP c] (· = .tup [.vec ((exL t.l t.n c).map cuC) false,.val (.int .i64 0)]):=by
 have hc64:=hm.lt (by decide);have hn:=h.n;have hp1:2 ^ (t.n+1)<=2 ^ 64:=YX (by decide) (by omega);have hp0:=Y2U (t.n+1);have hmk:=Z5d hn.2;have hinc0:IntKind.i64.wrap ((t.n:Int)+1)=((t.n+1:Nat):Int):=Y0v _ ⟨by omega,by omega⟩;have hbw:=Z1Z (2 ^ (t.n+1)-1) (by omega) 0;rw [Z5e t.n hn.2] at hbw;have hwi:=Z1P (c.1 ||| c.2) (mkN t.n) (Z1X hc64.1 hc64.2) hmk;rw [Yw (show c.1 ||| c.2 ||| mkN t.n=mkN t.n by rw [Y3t,hc.n,hc.y])] at hwi;refine Yp ok154 fun C hC=>?_;refine Zq ?_;refine Za ?_;refine Z5 rfl rfl rfl ?_;refine Z5 rfl rfl rfl ?_;refine gd 20 ⟨?_⟩;refine Zh rfl rfl rfl hinc0 ?_;refine Qe (Z8a (t.n+1) (by omega) (by omega)) ⟨Yt,Yt⟩ ?_;refine Qe hbw ⟨Z2 _,Yt,Yt⟩ ?_;refine gd 27 ⟨?_⟩;refine Qd (Z1G c.1 c.2 hc64.1 hc64.2) ⟨Z2 _,Z2 _,Yt⟩ ?_;refine gd 29 ⟨?_⟩;refine Qd hwi ⟨Z2 _,Z2 _,Yt⟩ ?_;refine gd 33 ⟨?_⟩;refine Qe (Z1R c.2) ⟨Z2 _,Yt⟩ ?_;refine go ?_;have hpp:=ZD t S;have hI0:=hm.le5;refine Z2K (X:=List Nat) hC (caps := [.cp [.vec (X5 (X7 c.2)) false]]) [(2,.cp (pbP t S)),(3,.cp (cuC c)),(4,.ptr 0 0 0),(5,.ptr 1 0 0),(6,.ptr 2 0 0),(7,.ptr 11 0 0),(33,.fn 134 [.cp [.vec (X5 (X7 c.2)) false]])]
  (fun z => [(0,⟨1,[[.vec [] true]]⟩),(1,⟨1,[[.val (.int .i64 0)]]⟩),(2,⟨1,[[.vec (X5 (X7 (mkN t.n))) false]]⟩),(11,⟨1,[[.vec (X5 (X7 (exN t.l t.n z))) false]]⟩)]) rfl ⟨⟨Z4 _,Yt⟩,Yt⟩ (Z2L c.2 hc64.2) (fun _=>rfl)
  (fun ex pre z=>ex=.normal/\z=pre.map (·.val)) 12 (by decide) [] ⟨rfl,rfl⟩
  (Z2q (X37.mem (ρ := fun i => i) (m := 12) (L := [(2, .cp (pbP t S)), (3, .cp (cuC c)), (4, .ptr 0 0 0), (5, .ptr 1 0 0), (6, .ptr 2 0 0), (7, .ptr 11 0 0), (33, .fn 134 [.cp [.vec (X5 (X7 c.2)) false]])]) ⟨Qp hpp, Qp (Zi c), Qt 0 0 0, Qt 1 0 0, Qt 2 0 0, Qt 11 0 0, Qp ⟨⟨Z4 _, Yt⟩, Yt⟩, Yt⟩)
    (X1o.mem (ρ:=fun i=>i) (m:=12) (L := [(0,⟨1,[[.vec [] true]]⟩),(1,⟨1,[[.val (.int .i64 0)]]⟩),(2,⟨1,[[.vec (X5 (X7 (mkN t.n))) false]]⟩),(11,⟨1,[[.vec (X5 (X7 (exN t.l t.n []))) false]]⟩)]) ⟨Qs ⟨⟨Yt,Yt⟩,Yt⟩,Qs ⟨⟨Yt,Yt⟩,Yt⟩,Qs ⟨⟨Z4 _,Yt⟩,Yt⟩,⟨by decide,⟨1,[[.vec [] true]]⟩,rfl,by rw [show exN t.l t.n []=0 from rfl,ZM]; exact Xr.single (ρ:=fun i=>i) (l0 := [.vec [] true]) (l := [.vec [] false]) (show X2n _ _ [_] [_] from ⟨.low (.vec [] true) Yt,Yt⟩) rfl⟩,Yt⟩) hC (by decide))
  (fun z q hq=>by simp at hq; rcases hq with rfl|rfl|rfl|rfl<;>exact Y1z _) _ (fun x=>rfl) ?_ ?_ ?_
 . rintro C2 hC2 pre x z ⟨-, rfl⟩ hlen;have hx:=hI0.2 x.val x.2;have hst:exN t.l t.n (pre.map (·.val) ++ [x.val])=exN t.l t.n (pre.map (·.val)) ||| (sen t.l x.val &&& mkN t.n):=by unfold exN; rw [Y1u]; rfl
   have hz:=ZfX t.l hn.2 (pre.map (·.val));have hsl:=ZcQ t.l h.good.small (show x.val<64 by omega);refine gd 39 ⟨?_⟩;refine Qd (Z3V t.l S x.val hx.1 (by omega)) ⟨Zm _ _,Yt,Yt⟩ ?_;refine gd 41 ⟨?_⟩;refine Qd (Z2F (sen t.l x.val) (mkN t.n) hsl hmk) ⟨Z2 _,Z2 _,Yt⟩ ?_;refine Qd (Z1G _ _ hz (Z95 hsl)) ⟨Z2 _,Z2 _,Yt⟩ ?_;rw [<- hst];refine go ?_
   exact⟨.inl rfl,pre.map (·.val) ++ [x.val],fun i=>i,⟨rfl,by rw [Y0r]; rfl⟩,fun i hi=>rfl,Zp,
    ⟨Qp hpp,Qp (Zi c),Qt 0 0 0,Qt 1 0 0,Qt 2 0 0,Qt 11 0 0,Qp ⟨⟨Z4 _,Yt⟩,Yt⟩,Yt⟩,
    ⟨Qs ⟨⟨Yt,Yt⟩,Yt⟩,Qs ⟨⟨Yt,Yt⟩,Yt⟩,Qs ⟨⟨Z4 _,Yt⟩,Yt⟩,Qs ⟨⟨Z4 _,Yt⟩,Yt⟩,Yt⟩⟩
 . rintro xs z hxs ⟨-, rfl⟩;rw [hxs];have hN0:=ZfX t.l hn.2 (mem c.2);generalize hN0e:exN t.l t.n (mem c.2)=N0 at hN0;refine gd 48 ⟨?_⟩;refine Qe (Z1R c.1) ⟨Z2 _,Yt⟩ ?_;refine go ?_;have hlow:([(0,N0)]:List Cu).map cuC=Xp [[.vec [] true,.vec (X5 (X7 N0)) false]]:=by
    show [[PV.vec (X5 (X7 0)) false,.vec (X5 (X7 N0)) false]] = [[PV.vec [] false,.vec (Xp (X5 (X7 N0))) false]];rw [ZM,Z16]; rfl
   have hone:∀ rs:List Nat,(∀ r∈rs,r<=5)->X2F N0 (exF t.l t.n rs [(0,N0)])/\(exF t.l t.n rs [(0,N0)]).Nodup:=fun rs hr=>ZbC h hN0 rs hr _ (fun c hc=>by rw [Y0g] at hc; subst hc; exact⟨(by decide:(0:Nat) ||| 62=62),rfl⟩) (by simp);refine Z2K (X:=List Nat) hC (caps := [.cp [.vec (X5 (X7 c.1)) false]]) [(2,.cp (pbP t S)),(4,.ptr 0 0 0),(5,.ptr 1 0 0),(6,.ptr 2 0 0),(9,.ptr 12 0 0),(48,.fn 134 [.cp [.vec (X5 (X7 c.1)) false]])]
    (fun z => [(0,⟨1,[[.vec [] true]]⟩),(1,⟨1,[[.val (.int .i64 0)]]⟩),(2,⟨1,[[.vec (X5 (X7 (mkN t.n))) false]]⟩),(12,⟨1,[[.vec ((exF t.l t.n z [(0,N0)]).map cuC) false]]⟩)]) rfl ⟨⟨Z4 _,Yt⟩,Yt⟩ (Z2L c.1 hc64.1) (fun _=>rfl)
    (fun ex pre z=>ex=.normal/\z=pre.map (·.val)) 13 (by decide) [] ⟨rfl,rfl⟩
    (Z2q (X37.mem (ρ := fun i => i) (m := 13) (L := [(2, .cp (pbP t S)), (4, .ptr 0 0 0), (5, .ptr 1 0 0), (6, .ptr 2 0 0), (9, .ptr 12 0 0), (48, .fn 134 [.cp [.vec (X5 (X7 c.1)) false]])]) ⟨Qp hpp, Qt 0 0 0, Qt 1 0 0, Qt 2 0 0, Qt 12 0 0, Qp ⟨⟨Z4 _, Yt⟩, Yt⟩, Yt⟩)
      (X1o.mem (ρ:=fun i=>i) (m:=13) (L := [(0,⟨1,[[.vec [] true]]⟩),(1,⟨1,[[.val (.int .i64 0)]]⟩),(2,⟨1,[[.vec (X5 (X7 (mkN t.n))) false]]⟩),(12,⟨1,[[.vec (([(0,N0)]:List Cu).map cuC) false]]⟩)]) ⟨Qs ⟨⟨Yt,Yt⟩,Yt⟩,Qs ⟨⟨Yt,Yt⟩,Yt⟩,Qs ⟨⟨Z4 _,Yt⟩,Yt⟩,⟨by decide,_,rfl,by rw [hlow]; exact Xr.single (ρ:=fun i=>i) (l := [.vec (Xp [[.vec [] true,.vec (X5 (X7 N0)) false]]) false]) (show X2n _ _ [_] [_] from ⟨.low (.vec [[.vec [] true,.vec (X5 (X7 N0)) false]] true) (by show X2 (Xp _); rw [<- hlow]; exact Z0 [(0,N0)]),Yt⟩) rfl⟩,Yt⟩) hC (by decide))
    (fun z q hq=>by simp at hq; rcases hq with rfl|rfl|rfl|rfl<;>exact Y1z _) _ (fun x=>rfl) ?_ ?_ ?_
   . rintro C2 hC2 pre x z ⟨-, rfl⟩ hlen;have hx:=hI0.1 x.val x.2;obtain⟨ho1,ho2⟩:=hone (pre.map (·.val)) fun r hr=>by obtain⟨y,_,rfl⟩:=Y0i.1 hr; exact (hI0.1 _ y.2).2
     have hst:exF t.l t.n (pre.map (·.val) ++ [x.val]) [(0,N0)]=X36 (exX t.l t.n x.val (exF t.l t.n (pre.map (·.val)) [(0,N0)])):=by unfold exF; rw [Y1u]; rfl
     generalize exF t.l t.n (pre.map (·.val)) [(0,N0)]=zs at ho1 ho2 hst ⊢;have hzl:=ZbA ho1 ho2;have hz64:=ZcX hN0 ho1;have hsl:=ZcQ t.l h.good.small (show x.val<64 by omega);have hM:=Z95 (M:=mkN t.n) hsl;have hxo:=ZbB h hx.2 ho1;have hxn:=Z5B (ZcX hN0 hxo);have hxl:=ZbA (ZcW hxo) hxn;have hxll:=ZbD t.l t.n x.val zs;refine gd 50 ⟨?_⟩;refine Zb (ZP (id:=13) (i0:=0) (j0:=0) rfl (by decide) (by decide) rfl 2 (by decide) (by decide)) ?_;refine go ?_;have hnl:(zs.map cuC).length=zs.length:=by simp
     refine ZC hC2 (fun (j:Nat)=>j<=zs.length) (fun j=>zs.length-j) 15
      (fun j => [(2,.cp (pbP t S)),(6,.ptr 2 0 0),(9,.ptr 12 0 0),(10,.val (.int .i64 (x.val:Int))),(11,.ptr 13 0 0),(50,.vec (zs.map cuC) false),(51,.val (.int .i64 (zs.length:Int))),(52,Yv j)])
      (fun j => [(0,⟨1,[[.vec [] true]]⟩),(1,⟨1,[[.val (.int .i64 0)]]⟩),(2,⟨1,[[.vec (X5 (X7 (mkN t.n))) false]]⟩),(12,⟨1,[[.vec (zs.map cuC) false]]⟩),(13,⟨1,[[.own 14]]⟩),(14,⟨2,(exX t.l t.n x.val (zs.take j)).map cuC⟩)]) (by decide) 0 (Y0l _) (fun i=>i) (fun _ _=>rfl) Zp
      ⟨Qp hpp,Qt 2 0 0,Qt 12 0 0,Qp Yt,Qt 13 0 0,Qp (Z0 _),⟨_,by rw [<- hnl]; rfl,.pure _ Yt⟩,Qp Yt,Yt⟩
      ⟨Qs ⟨⟨Yt,Yt⟩,Yt⟩,Qs ⟨⟨Yt,Yt⟩,Yt⟩,Qs ⟨⟨Z4 _,Yt⟩,Yt⟩,Qs ⟨⟨Z0 _,Yt⟩,Yt⟩,⟨by decide,_,rfl,Xr.single ⟨.own (ρ:=fun i=>i) 14 (by decide),Yt⟩ rfl⟩,Qs Yt,Yt⟩ ?_
     intro j hj;have hinc:IntKind.i64.wrap ((j:Int)+1)=((j+1:Nat):Int):=Y0v _ ⟨by omega,by omega⟩
     iterate 2 (first|refine st ?_|(apply B<;>intro hb<;>try cases hb))
     refine Zv rfl rfl rfl (fun hb=>?_) (fun hb=>?_)
     . have hjl : j < zs.length := by have := Y0u hb; omega
       clear hb;have hy:=hz64 _ (Y0j hjl);have hsj:exX t.l t.n x.val (zs.take (j+1))=exX t.l t.n x.val (zs.take j)++(mem (sen t.l x.val &&& mkN t.n)).map fun a=>(zs[j].1 ||| 2 ^ a,zs[j].2):=by
        unfold exX;rw [YY,Y0c hjl,Y1H];simp
       have hlj:(exX t.l t.n x.val (zs.take j)).length<=4096:=by
        have:=ZbD t.l t.n x.val (zs.take j);rw [Y0o] at this;omega
       generalize hy0:zs[j]=y at hy hsj;generalize exX t.l t.n x.val (zs.take j)=acc at hsj hlj ⊢;refine go ?_;refine Qo (Zo (xs:=zs) (g:=cuC) rfl rfl j rfl hjl rfl) ?_;rw [hy0];refine gd 59 ⟨?_⟩;refine Qd (Z3V t.l S x.val hx.1 (by omega)) ⟨Zm _ _,Yt,Yt⟩ ?_;refine gd 61 ⟨?_⟩;refine Qd (Z2F (sen t.l x.val) (mkN t.n) hsl hmk) ⟨Z2 _,Z2 _,Yt⟩ ?_;generalize sen t.l x.val &&& mkN t.n=M at hM hsj ⊢;refine Qd (Z1R M) ⟨Z2 _,Yt⟩ ?_;refine go ?_;refine Z2K (X:=List Nat) hC2 (caps := [.cp [.vec (X5 (X7 M)) false]]) [(2,.cp (pbP t S)),(6,.ptr 2 0 0),(9,.ptr 12 0 0),(10,.val (.int .i64 (x.val:Int))),(11,.ptr 13 0 0),(13,.ptr 15 0 0),(50,.vec (zs.map cuC) false),(51,.val (.int .i64 (zs.length:Int))),(52,Yv j),(62,.fn 134 [.cp [.vec (X5 (X7 M)) false]])]
        (fun w => [(0,⟨1,[[.vec [] true]]⟩),(1,⟨1,[[.val (.int .i64 0)]]⟩),(2,⟨1,[[.vec (X5 (X7 (mkN t.n))) false]]⟩),(12,⟨1,[[.vec (zs.map cuC) false]]⟩),(13,⟨1,[[.own 14]]⟩),(14,⟨2,(acc++w.map fun a=>(y.1 ||| 2 ^ a,y.2)).map cuC⟩),(15,⟨2,[cuC y]⟩)]) rfl ⟨⟨Z4 _,Yt⟩,Yt⟩ (Z2L M hM) (fun _=>rfl)
        (fun ex pre z=>ex=.normal/\z=pre.map (·.val)) 23 (by decide) [] ⟨rfl,rfl⟩
        (Z2q (X37.mem (ρ := fun i => i) (m := 23) (L := [(2, .cp (pbP t S)), (6, .ptr 2 0 0), (9, .ptr 12 0 0), (10, .val (.int .i64 (x.val : Int))), (11, .ptr 13 0 0), (13, .ptr 15 0 0), (50, .vec (zs.map cuC) false), (51, .val (.int .i64 (zs.length : Int))), (52, Yv j), (62, .fn 134 [.cp [.vec (X5 (X7 M)) false]])]) ⟨Qp hpp, Qt 2 0 0, Qt 12 0 0, Qp Yt, Qt 13 0 0, Qt 15 0 0, Qp (Z0 _), Qp Yt, Qp Yt, Qp ⟨⟨Z4 _, Yt⟩, Yt⟩, Yt⟩)
          (X1o.mem (ρ:=fun i=>i) (m:=23) (L := [(0,⟨1,[[.vec [] true]]⟩),(1,⟨1,[[.val (.int .i64 0)]]⟩),(2,⟨1,[[.vec (X5 (X7 (mkN t.n))) false]]⟩),(12,⟨1,[[.vec (zs.map cuC) false]]⟩),(13,⟨1,[[.own 14]]⟩),(14,⟨2,(acc++([]:List Nat).map fun a=>(y.1 ||| 2 ^ a,y.2)).map cuC⟩),(15,⟨2,[cuC y]⟩)]) ⟨Qs ⟨⟨Yt,Yt⟩,Yt⟩,Qs ⟨⟨Yt,Yt⟩,Yt⟩,Qs ⟨⟨Z4 _,Yt⟩,Yt⟩,Qs ⟨⟨Z0 _,Yt⟩,Yt⟩,⟨by decide,_,rfl,Xr.single ⟨.own (ρ:=fun i=>i) 14 (by decide),Yt⟩ rfl⟩,⟨by decide,_,rfl,by rw [List.map_nil,Y0p]; exact .same _ (Z0 _)⟩,Qs ⟨Zi y,Yt⟩,Yt⟩) hC2 (by decide))
        (fun z q hq=>by simp at hq; rcases hq with rfl|rfl|rfl|rfl|rfl|rfl|rfl<;>exact Y1z _) _ (fun x=>rfl) ?_ ?_ ?_
       . rintro C3 hC3 pre2 a w ⟨-, rfl⟩ hlen2;have ha:=Z3C a.2;have hml:=Z2y M;have hsn:acc++(pre2.map (·.val) ++ [a.val]).map (fun a=>(y.1 ||| 2 ^ a,y.2))=(acc++(pre2.map (·.val)).map fun a=>(y.1 ||| 2 ^ a,y.2)) ++ [(y.1 ||| 2 ^ a.val,y.2)]:=by simp
         have hal:(acc++(pre2.map (·.val)).map fun a=>(y.1 ||| 2 ^ a,y.2)).length<=5000:=by simp; omega
         generalize (acc++(pre2.map (·.val)).map fun a=>(y.1 ||| 2 ^ a,y.2))=acc2 at hsn hal ⊢;refine gd 68 ⟨?_⟩;refine Qd (Z1s y.1 hy.1 a.val ha) ⟨Z2 _,Yt,Yt⟩ ?_;refine gd 73 ⟨?_⟩
         refine Qr (Zt (k:=14) (m := [cuC (y.1 ||| 2 ^ a.val,y.2)]) (fl:=true) rfl rfl rfl (fun q hq=>by rw [Y0g] at hq; subst hq; rfl) rfl (by
          show ((acc2.map cuC).length+1)*48<=_
          rw [Y0f];omega)) ?_
         refine go ?_
         refine⟨.inl rfl,pre2.map (·.val) ++ [a.val],mv 14 32,⟨rfl,by rw [Y0r]; rfl⟩,Z4X (by decide),Zu rfl,
          ⟨Qp hpp,Qt 2 0 0,Qt 12 0 0,Qp Yt,Qt 13 0 0,Qt 15 0 0,Qp (Z0 _),Qp Yt,Qp Yt,Qp ⟨⟨Z4 _,Yt⟩,Yt⟩,Yt⟩,?_⟩
         show X1o _ _ _ [_,_,_,_,_,(14,⟨2,(acc++(pre2.map (·.val) ++ [a.val]).map fun a=>(y.1 ||| 2 ^ a,y.2)).map cuC⟩),_];rw [hsn];refine⟨Qs ⟨⟨Yt,Yt⟩,Yt⟩,Qs ⟨⟨Yt,Yt⟩,Yt⟩,Qs ⟨⟨Z4 _,Yt⟩,Yt⟩,Qs ⟨⟨Z0 _,Yt⟩,Yt⟩,⟨by decide,_,rfl,Xr.single ⟨.own (ρ:=mv 14 32) 14 (by decide),Yt⟩ rfl⟩,⟨by decide,_,rfl,?_⟩,Qs ⟨Zi y,Yt⟩,Yt⟩;show Xr _ _ ⟨2,acc2.map cuC ++ [cuC (y.1 ||| 2 ^ a.val,y.2)]⟩ ⟨2,(acc2 ++ [(y.1 ||| 2 ^ a.val,y.2)]).map cuC⟩;rw [Y0r];exact .same _ (by rw [<- Y1a,<- Y0r]; exact Z0 _)
       . rintro xs w hxs2 ⟨-, rfl⟩;rw [hxs2];refine go ?_
         refine⟨j+1,fun i=>i,hjl,by omega,fun _ _=>rfl,Zp,
          ⟨Qp hpp,Qt 2 0 0,Qt 12 0 0,Qp Yt,Qt 13 0 0,Qp (Z0 _),Qp Yt,⟨_,by show some _=some _; rw [hinc],.pure _ Yt⟩,Yt⟩,?_⟩
         show X1o _ _ _ [_,_,_,_,_,(14,⟨2,(exX t.l t.n x.val (zs.take (j+1))).map cuC⟩)];rw [hsj];exact⟨Qs ⟨⟨Yt,Yt⟩,Yt⟩,Qs ⟨⟨Yt,Yt⟩,Yt⟩,Qs ⟨⟨Z4 _,Yt⟩,Yt⟩,Qs ⟨⟨Z0 _,Yt⟩,Yt⟩,⟨by decide,_,rfl,Xr.single ⟨.own (ρ:=fun i=>i) 14 (by decide),Yt⟩ rfl⟩,Qs (Z0 _),Yt⟩
       . rintro ex pre2 w - ⟨rfl,_⟩ (h|⟨id,h⟩)<;>cases h
     . have hjl : j = zs.length := by have := Ye hb; omega
       subst hjl;clear hb;rw [Y0q]
       repeat' (first|refine Zb (Zn (k:=75) rfl rfl (Z0 _)) ?_|(first|refine st ?_|(apply B<;>intro hb<;>try cases hb)))
       refine Qe (Z73 _ false (ZcX hN0 hxo) (by omega)) ⟨Z0 _,Yt⟩ ?_;refine gd 79 ⟨?_⟩;refine Qo (Z7 (v:=false) rfl (by simp;omega)) ?_;refine go ?_
       refine⟨.inl rfl,pre.map (·.val) ++ [x.val],fun i=>i,⟨rfl,by rw [Y0r]; rfl⟩,fun i hi=>rfl,Zp,
        ⟨Qp hpp,Qt 0 0 0,Qt 1 0 0,Qt 2 0 0,Qt 12 0 0,Qp ⟨⟨Z4 _,Yt⟩,Yt⟩,Yt⟩,?_⟩
       show X1o _ _ _ [_,_,_,(12,⟨1,[[.vec ((exF t.l t.n (pre.map (·.val) ++ [x.val]) [(0,N0)]).map cuC) false]]⟩)];rw [hst];exact⟨Qs ⟨⟨Yt,Yt⟩,Yt⟩,Qs ⟨⟨Yt,Yt⟩,Yt⟩,Qs ⟨⟨Z4 _,Yt⟩,Yt⟩,Qs ⟨⟨Z0 _,Yt⟩,Yt⟩,Yt⟩
   . rintro xs z hxs ⟨-, rfl⟩;rw [hxs];have he:exF t.l t.n (mem c.1) [(0,N0)]=exL t.l t.n c:=by unfold exL; rw [hN0e]
     rw [he];refine go ?_;exact Z8 rfl ⟨Z0 _,Yt,Yt⟩ rfl
   . rintro ex pre z - ⟨rfl,_⟩ (h|⟨id,h⟩)<;>cases h
 . rintro ex pre z - ⟨rfl,_⟩ (h|⟨id,h⟩)<;>cases h
theorem Za2 {e:Env} {h:X1} {n:Nat} {x y:Operand} {a b:Int} (hx:ev e x=some (.val (.int .i64 a))) (hy:ev e y=some (.val (.int .i64 b))) (hb:b≠0):X3 (.bin .rem .num x y) e h n=some (.val (.int .i64 (a.tmod b)),h):=by
 simp [X3,hx,hy,X4I,X4A,hb]
theorem Z3W {α:Type} {f:α->List PV} (hf:∀ x,X2l (f x)=f x):∀ l:List α,Xp (l.map f)=l.map f
 | []=>rfl
 | c :: l => by
   show X2l (f c) :: Xp (l.map f)=_;rw [hf,Z3W hf l]; rfl
structure X5B (t:PB):Prop where
 ok:Xz t
 n:2<=t.n/\t.n<=5
 rs:t.rs.length<=6
 nv:t.nv.length<=3
 gl:1<=t.gl.length/\t.gl.length<=3
structure LJ (n:Nat) (l:List Pr) (k:Nat):Prop where
 asc:Xv l
 len:l.length<=k
 mem:∀ p∈l,1<=p.1/\p.1<p.2/\p.2<=n
theorem LJ.nil (n:Nat):LJ n [] 0:=⟨List.Pairwise.nil,Y0m _,fun _ h=>by cases h⟩
theorem LJ.mono {n:Nat} {l:List Pr} {k k':Nat} (h:LJ n l k) (hk:k<=k'):LJ n l k':=⟨h.asc,Y03 h.len hk,h.mem⟩
theorem LJ.step {n:Nat} {l:List Pr} {k a b:Nat} (h:LJ n l k) {l':List Pr} (hL:X2j l (a,b) l') (ha:1<=a) (hab:a<b) (hb:b<=n):LJ n l' (k+1) :=
 ⟨hL.sorted h.asc,Y03 hL.len (Nat.succ_le_succ h.len),fun p hp=>(hL.mem p hp).elim (h.mem p) fun e=>by subst e; exact⟨ha,hab,hb⟩⟩
theorem LJ.good {n:Nat} (hn:n<=5) {l:List Pr} {k:Nat} (h:LJ n l k):X3X l :=
 ⟨h.asc,fun p hp=>by have:=h.mem p hp; omega,⟨fun i=>i,fun p hp=>(h.mem p hp).2.1⟩⟩
theorem Zkw {n:Nat} (h1:2<=n) (h2:n<=5):IntKind.u8.wrap (2*2 ^ (min ((n:Nat):Int).toNat IntKind.u8.bits))=((2*2 ^ n:Nat):Int)/\IntKind.u8.wrap (((2*2 ^ n:Nat):Int)-2)=((mkN n:Nat):Int)/\mkN n<64/\mkN n ||| 62=62:=by
 have:n=2 \/ n=3 \/ n=4 \/ n=5:=by omega
 rcases this with rfl|rfl|rfl|rfl<;>decide
theorem Zjq (X:Int) (m:Nat) (hm:m<256):∃ s:Nat,s ||| m=m/\bits .and .u8 X (m:Int)=(s:Int):=by
 refine⟨(BitVec.ofInt 8 X).toNat &&& m,ZfQ _ m,?_⟩;rw [<- ZiF _ _ (BitVec.ofInt 8 X).isLt hm];show IntKind.u8.wrap ((BitVec.ofInt 8 X &&& BitVec.ofInt 8 (m:Int)).toNat:Int)=IntKind.u8.wrap ((BitVec.ofInt 8 ((BitVec.ofInt 8 X).toNat:Int) &&& BitVec.ofInt 8 (m:Int)).toNat:Int);rw [show BitVec.ofInt 8 ((BitVec.ofInt 8 X).toNat:Int)=BitVec.ofInt 8 X by rw [Y1v,BitVec.ofNat_toNat,BitVec.setWidth_eq]]
theorem Z2d (a b:Nat):((a:Nat):Int).tmod ((b:Nat):Int)=((a % b:Nat):Int):=by rw [Y2J]
theorem InM.inC {n:Nat} {c:Cu} (h:InM (mkN n) c) (he:emC c=false):InC n c:=⟨h.1,h.2,he⟩
theorem Z4j {a b c:Nat} (h1:a ||| b=b) (h2:b ||| c=c):a ||| c=c:=Xg.2 fun i hi=>Xg.1 h2 i (Xg.1 h1 i hi)
theorem X3M.mk0 {n:Nat} (hn:n<=5) {c:Cu} {rev:Bool} {tg og:Nat} (hc:InM (mkN n) c) (h62:mkN n ||| 62=62) (he:emC c=false) (ht:1<=tg/\tg<=n) (hr:rev=true->c=(0,0)):X3M n ⟨rev,c,tg,og⟩ :=
 ⟨hc.inC he,⟨Z4j hc.1 h62,Z4j hc.2 h62⟩,⟨ht.1,ht.2,by show tg<=5; omega⟩,hr⟩
theorem ZbE (p:List Nat) (fl:Bool) (hp:X4d p):Xa Tryz.prog 19 [.vec (bys p) fl] fun r=>∃ t:PB,X5B t/\r=.agg (pbR t):=by
 have hpl:∀ (l:List Pr) D,Xu D (l.map prC):=fun l D=>Ze (fun _ h=>h.elim) _ (Zl l);have hsi:∀ t D,Xu D (X4B p fl t).elems:=fun t D=>ZhE p fl t D;refine Yp ok19 fun C hC=>?_;refine gd 30 ⟨?_⟩;refine ZT (ZW p hp fl 0 (by omega)) rfl rfl rfl rfl (ZK p fl 0) Yt ?_;rintro r b' - - ⟨v1,hv1,rfl,rfl⟩;refine Zh rfl rfl rfl (Z2d v1 4) ?_;have hn4:=Y1l v1 (show 0<4 by decide);refine Zh rfl rfl rfl (show IntKind.i64.wrap (2+((v1 % 4:Nat):Int))=((2+v1 % 4:Nat):Int) from by rw [Y0v _ ⟨by omega,by omega⟩];omega) ?_;obtain⟨n,hn⟩:∃ n,2+v1 % 4=n:=⟨_,rfl⟩
 rw [hn];have hn2:2<=n/\n<=5:=by omega
 obtain⟨hm1,hm2,hm64,hm62⟩:=Zkw hn2.1 hn2.2;clear hn hn4 hv1;refine gd 36 ⟨?_⟩;refine Zh rfl rfl rfl (show IntKind.u64.wrap ((n:Nat):Int)=((n:Nat):Int) from Y0x _ ⟨by omega,by omega⟩) ?_;refine Z4R rfl rfl (by omega) hm1 rfl ?_;refine Zh rfl rfl rfl hm2 ?_;refine gd 40 ⟨?_⟩;refine ZT (ZW p hp fl 1 (by omega)) rfl rfl rfl rfl (ZK p fl 1) Yt ?_;rintro r b' - - ⟨v2,hv2,rfl,rfl⟩;refine go ?_;refine ZB hC (fun (z:Nat×Nat×List Pr×Bool)=>1<=z.1/\z.1<=n/\z.2.1<=10*z.1/\LJ n z.2.2.1 z.2.1) (fun z=>n-z.1) 3 (fun z => [(2,.ptr 0 0 0),(3,.ptr 1 0 0),(4,.ptr 2 0 0),(5,.val (.int .u8 (mkN n:Nat))),(6,.val (.int .i64 (v2:Int))),(7,.val (.int .i64 (z.2.1:Int))),(8,Yv z.1)])
  (fun z => [(0,⟨6,[zpv [.int .i64 0,.slice none 0 0,.int .u64 0,.slice none 0 0,.slice none 0 0,.slice none 0 0]]⟩),(1,X4B p fl 2),(2,⟨6,[[.val (.int .i64 (n:Int)),.vec (z.2.2.1.map prC) z.2.2.2,.val (.int .u64 0),.vec [] true,.vec [] true,.vec [] true]]⟩)]) (Y0l _) (1,0,[],true) ⟨Y0m _,by show 1<=n; omega,by show 0<=_; omega,LJ.nil n⟩
  ⟨⟨rfl,show (0:Nat)<3 by decide⟩,⟨rfl,show (1:Nat)<3 by decide⟩,⟨rfl,show (2:Nat)<3 by decide⟩,⟨rfl,Yt⟩,⟨rfl,Yt⟩,⟨rfl,Yt⟩,⟨rfl,Yt⟩,Yt⟩
  ⟨⟨by decide,rfl,⟨⟨Yt,Yt,Yt,Yt,Yt,Yt,Yt⟩,Yt⟩⟩,⟨by decide,rfl,hsi 2 _⟩,⟨by decide,rfl,⟨⟨Yt,Yt,Yt,Yt,Yt,Yt,Yt⟩,Yt⟩⟩,Yt⟩ ?_
 rintro⟨a,k,l,fk⟩ ⟨ha1,han,hk,hl⟩;dsimp only at ha1 han hk hl;have hainc:IntKind.i64.wrap ((a:Int)+1)=((a+1:Nat):Int):=Y0v _ ⟨by omega,by omega⟩;refine gd 44 ⟨?_⟩;refine Zv rfl rfl rfl (fun hb=>?_) (fun hb=>?_)
 . have hal : a < n := by have := Y0u hb; omega
   clear hb;refine go ?_;refine ZB hC (fun (z:Nat×Nat×List Pr×Bool)=>a+1<=z.1/\z.1<=n+1/\z.2.1<=10*a+z.1/\LJ n z.2.2.1 z.2.1) (fun z=>n+1-z.1) 3 (fun z => [(2,.ptr 0 0 0),(3,.ptr 1 0 0),(4,.ptr 2 0 0),(5,.val (.int .u8 (mkN n:Nat))),(6,.val (.int .i64 (v2:Int))),(7,.val (.int .i64 (z.2.1:Int))),(8,.val (.int .i64 (a:Int))),(9,Yv z.1)])
    (fun z => [(0,⟨6,[zpv [.int .i64 0,.slice none 0 0,.int .u64 0,.slice none 0 0,.slice none 0 0,.slice none 0 0]]⟩),(1,X4B p fl 2),(2,⟨6,[[.val (.int .i64 (n:Int)),.vec (z.2.2.1.map prC) z.2.2.2,.val (.int .u64 0),.vec [] true,.vec [] true,.vec [] true]]⟩)]) (Y0l _) (a+1,k,l,fk) ⟨Y0m _,by show a+1<=n+1; omega,by show k<=10*a+(a+1); omega,hl⟩
    ⟨⟨rfl,show (0:Nat)<3 by decide⟩,⟨rfl,show (1:Nat)<3 by decide⟩,⟨rfl,show (2:Nat)<3 by decide⟩,⟨rfl,Yt⟩,⟨rfl,Yt⟩,⟨rfl,Yt⟩,⟨rfl,Yt⟩,⟨by show some _=some _; rw [hainc],Yt⟩,Yt⟩
    ⟨⟨by decide,rfl,⟨⟨Yt,Yt,Yt,Yt,Yt,Yt,Yt⟩,Yt⟩⟩,⟨by decide,rfl,hsi 2 _⟩,⟨by decide,rfl,⟨⟨Yt,hpl _ _,Yt,Yt,Yt,Yt,Yt⟩,Yt⟩⟩,Yt⟩ ?_
   clear hk hl;rintro⟨c,k,l,fk⟩ ⟨hc1,hcn,hk,hl⟩;dsimp only at hc1 hcn hk hl;have hcinc:IntKind.i64.wrap ((c:Int)+1)=((c+1:Nat):Int):=Y0v _ ⟨by omega,by omega⟩;have hkinc:IntKind.i64.wrap ((k:Int)+1)=((k+1:Nat):Int):=Y0v _ ⟨by omega,by omega⟩;have hend:∀ l' fk',LJ n l' (k+1)->c<=n->(fun (z:Nat×Nat×List Pr×Bool)=>a+1<=z.1/\z.1<=n+1/\z.2.1<=10*a+z.1/\LJ n z.2.2.1 z.2.1) (c+1,k+1,l',fk'):=fun l' fk' h1 h2=>⟨by show a+1<=c+1; omega,by show c+1<=n+1; omega,by show k+1<=10*a+(c+1); omega,h1⟩
   refine gd 52 ⟨?_⟩;refine Zv rfl rfl rfl (fun hb=>?_) (fun hb=>?_)
   . have hcl : c <= n := by have := Y0u hb; omega
     clear hb;refine gd 57 ⟨?_⟩;refine Zh rfl rfl rfl (Z2d k 8) ?_;have hk8:=Y1l k (show 0<8 by decide);refine Zh rfl rfl rfl (show IntKind.u64.wrap ((k % 8:Nat):Int)=((k % 8:Nat):Int) from Y0x _ ⟨by omega,by omega⟩) ?_;refine Z3j rfl rfl (by omega) rfl rfl ?_;refine gd 61 ⟨?_⟩;refine Zv rfl rfl rfl (fun hb=>?_) (fun hb=>?_)
     . clear hb;refine gd 65 ⟨?_⟩;refine ZA rfl ?_;refine Zv rfl rfl rfl (fun hb=>?_) (fun hb=>?_)
       . clear hb;refine gd 72 ⟨?_⟩;refine Zz rfl rfl (ZdZ l fk (hl.good hn2.2).small a c ⟨ha1,by omega⟩ ⟨by omega,by omega⟩ (by omega) (by have:=hl.len;omega)) ⟨Zl l,Yt,Yt,Yt⟩ rfl ?_;rintro r ⟨l',fl',er,hL,rfl⟩;refine go ?_;exact⟨(c+1,k+1,l',fl'),hend l' fl' (hl.step hL ha1 (by omega) hcl) hcl,by show n+1-(c+1)<n+1-c; omega,⟨⟨rfl,show (0:Nat)<3 by decide⟩,⟨rfl,show (1:Nat)<3 by decide⟩,⟨rfl,show (2:Nat)<3 by decide⟩,⟨rfl,Yt⟩,⟨rfl,Yt⟩,⟨by show some _=some _; rw [hkinc],Yt⟩,⟨rfl,Yt⟩,⟨by show some _=some _; rw [hcinc],Yt⟩,Yt⟩,⟨⟨by decide,rfl,⟨⟨Yt,Yt,Yt,Yt,Yt,Yt,Yt⟩,Yt⟩⟩,⟨by decide,rfl,hsi 2 _⟩,⟨by decide,rfl,⟨⟨Yt,hpl _ _,Yt,Yt,Yt,Yt,Yt⟩,Yt⟩⟩,Yt⟩⟩
       . clear hb;refine go ?_;exact⟨(c+1,k+1,l,fk),hend l fk (hl.mono (Y49 k)) hcl,by show n+1-(c+1)<n+1-c; omega,⟨⟨rfl,show (0:Nat)<3 by decide⟩,⟨rfl,show (1:Nat)<3 by decide⟩,⟨rfl,show (2:Nat)<3 by decide⟩,⟨rfl,Yt⟩,⟨rfl,Yt⟩,⟨by show some _=some _; rw [hkinc],Yt⟩,⟨rfl,Yt⟩,⟨by show some _=some _; rw [hcinc],Yt⟩,Yt⟩,⟨⟨by decide,rfl,⟨⟨Yt,Yt,Yt,Yt,Yt,Yt,Yt⟩,Yt⟩⟩,⟨by decide,rfl,hsi 2 _⟩,⟨by decide,rfl,⟨⟨Yt,hpl _ _,Yt,Yt,Yt,Yt,Yt⟩,Yt⟩⟩,Yt⟩⟩
     . clear hb;refine go ?_;exact⟨(c+1,k+1,l,fk),hend l fk (hl.mono (Y49 k)) hcl,by show n+1-(c+1)<n+1-c; omega,⟨⟨rfl,show (0:Nat)<3 by decide⟩,⟨rfl,show (1:Nat)<3 by decide⟩,⟨rfl,show (2:Nat)<3 by decide⟩,⟨rfl,Yt⟩,⟨rfl,Yt⟩,⟨by show some _=some _; rw [hkinc],Yt⟩,⟨rfl,Yt⟩,⟨by show some _=some _; rw [hcinc],Yt⟩,Yt⟩,⟨⟨by decide,rfl,⟨⟨Yt,Yt,Yt,Yt,Yt,Yt,Yt⟩,Yt⟩⟩,⟨by decide,rfl,hsi 2 _⟩,⟨by decide,rfl,⟨⟨Yt,hpl _ _,Yt,Yt,Yt,Yt,Yt⟩,Yt⟩⟩,Yt⟩⟩
   . have hcl : c = n + 1 := by have := Ye hb; omega
     clear hb;refine go ?_;exact⟨(a+1,k,l,fk),⟨by show 1<=a+1; omega,by show a+1<=n; omega,by show k<=10*(a+1); omega,hl⟩,by show n-(a+1)<n-a; omega,⟨⟨rfl,show (0:Nat)<3 by decide⟩,⟨rfl,show (1:Nat)<3 by decide⟩,⟨rfl,show (2:Nat)<3 by decide⟩,⟨rfl,Yt⟩,⟨rfl,Yt⟩,⟨rfl,Yt⟩,⟨by show some _=some _; rw [hainc],Yt⟩,Yt⟩,⟨⟨by decide,rfl,⟨⟨Yt,Yt,Yt,Yt,Yt,Yt,Yt⟩,Yt⟩⟩,⟨by decide,rfl,hsi 2 _⟩,⟨by decide,rfl,⟨⟨Yt,hpl _ _,Yt,Yt,Yt,Yt,Yt⟩,Yt⟩⟩,Yt⟩⟩
 . have hal : a = n := by have := Ye hb; omega
   clear hb;have hgl:=hl.good hn2.2;have hlm:=hl.mem;clear hl hk hv2 hainc;refine gd 79 ⟨?_⟩;refine ZT (ZW p hp fl 2 (by omega)) rfl rfl rfl rfl (ZK p fl 2) Yt ?_;rintro r b' - - ⟨v3,hv3,rfl,rfl⟩;refine gd 82 ⟨?_⟩;obtain⟨s,hs1,hs2⟩:=Zjq (IntKind.u8.wrap (v3:Int)) (mkN n) (by omega);have hs3:s<=mkN n:=by rw [<- hs1]; exact YZ
   refine Zh rfl rfl rfl hs2 ?_;refine Zh rfl rfl rfl (show IntKind.u64.wrap ((s:Nat):Int)=((s:Nat):Int) from Y0x _ ⟨by omega,by omega⟩) ?_;clear hs2 hv3;refine gd 86 ⟨?_⟩;refine ZT (ZW p hp fl 3 (by omega)) rfl rfl rfl rfl (ZK p fl 3) Yt ?_;rintro r b' - - ⟨v4,hv4,rfl,rfl⟩;refine Zh rfl rfl rfl (Z2d v4 7) ?_;have hc6:=Y1l v4 (show 0<7 by decide);generalize v4 % 7=cnt at hc6 ⊢;clear hv4;refine gd 11 ⟨?_⟩;refine Zb (ZP (id:=2) (i0:=0) (j0:=3) rfl (Y0 rfl) (Y0 rfl) rfl 5 (by decide) (by decide)) ?_;refine go ?_;refine ZC hC (fun (z:Nat×Nat×List RU)=>z.1<=cnt/\z.2.1<=4+4*z.1/\z.2.2.length=z.1/\∀ r∈z.2.2,X3M n r) (fun z=>cnt-z.1) 4 (fun z => [(2,.ptr 0 0 0),(3,.ptr 1 0 0),(4,.ptr 2 0 0),(5,.val (.int .u8 (mkN n:Nat))),(10,.val (.int .i64 (cnt:Int))),(11,Yv z.1)])
    (fun z => [(0,⟨6,[zpv [.int .i64 0,.slice none 0 0,.int .u64 0,.slice none 0 0,.slice none 0 0,.slice none 0 0]]⟩),(1,X4B p fl z.2.1),(2,⟨6,[[.val (.int .i64 (n:Int)),.vec (l.map prC) fk,.val (.int .u64 (s:Int)),.own 3,.vec [] true,.vec [] true]]⟩),(3,⟨5,z.2.2.map ruR⟩)]) (Y0l _) (0,3+1,[]) ⟨Y0l _,Y0m _,rfl,fun r hr=>by cases hr⟩ (fun i=>i) (fun _ _=>rfl) Zp
    ⟨Qt 0 0 0,Qt 1 0 0,Qt 2 0 0,Qp Yt,Qp Yt,Qp Yt,Yt⟩
    ⟨Qs ⟨⟨Yt,Yt,Yt,Yt,Yt,Yt,Yt⟩,Yt⟩,Qs (ZK p fl _),⟨by decide,_,rfl,Xr.single ⟨.pure _ Yt,.pure _ (Zl l),.pure _ Yt,.own (ρ:=fun i=>i) 3 (by decide),.pure _ Yt,.pure _ Yt,Yt⟩ rfl⟩,Qs Yt,Yt⟩ ?_
   rintro⟨i,t,rs⟩ ⟨hi,ht,hrl,hro⟩;dsimp only at hi ht hrl hro;have hinc:IntKind.i64.wrap ((i:Int)+1)=((i+1:Nat):Int):=Y0v _ ⟨by omega,by omega⟩;refine gd 90 ⟨?_⟩;refine Zv rfl rfl rfl (fun hb=>?_) (fun hb=>?_)
   . have hil : i < cnt := by have := Y0u hb; omega
     clear hb;refine gd 94 ⟨?_⟩;refine ZT (ZW p hp fl t (by omega)) rfl rfl rfl rfl (ZK p fl _) Yt ?_;rintro r b' - - ⟨w1,hw1,rfl,rfl⟩;refine gd 96 ⟨?_⟩;refine ZT (ZW p hp fl (t+1) (by omega)) rfl rfl rfl rfl (ZK p fl _) Yt ?_;rintro r b' - - ⟨w2,hw2,rfl,rfl⟩;refine gd 98 ⟨?_⟩;refine ZT (ZW p hp fl (t+1+1) (by omega)) rfl rfl rfl rfl (ZK p fl _) Yt ?_;rintro r b' - - ⟨w3,hw3,rfl,rfl⟩;refine gd 100 ⟨?_⟩;refine ZT (ZW p hp fl (t+1+1+1) (by omega)) rfl rfl rfl rfl (ZK p fl _) Yt ?_;rintro r b' - - ⟨w4,hw4,rfl,rfl⟩;refine gd 103 ⟨?_⟩;refine Z1 rfl rfl rfl ?_;generalize ((w1:Int).tmod 4 == 3)=rev;refine gd 107 ⟨?_⟩;refine Qo (Za2 rfl rfl (by omega)) ?_;rw [Z2d w2 n];have hw:=Y1l w2 (show 0<n by omega);refine Zh rfl rfl rfl (show IntKind.i64.wrap (1+((w2 % n:Nat):Int))=((1+w2 % n:Nat):Int) from by rw [Y0v _ ⟨by omega,by omega⟩];omega) ?_;cases rev
     . refine gd 117 ⟨?_⟩;refine Zz rfl rfl (Z5C (w3:Int) (w4:Int) (mkN n) (by omega)) ⟨Yt,Yt,Yt,Yt⟩ rfl ?_;rintro r ⟨c,hc1,hc2,rfl⟩;refine gd 123 ⟨?_⟩
       refine ZH (Zt (k:=3) (m := [ruR (RU.mk false c (1+w2 % n) i)]) (fl:=true) rfl rfl rfl (fun q hq=>by rw [Y0g] at hq; subst hq; rfl) rfl (by
        show ((rs.map ruR).length+1)*40<=_
        rw [Y0f];omega)) rfl rfl ?_
       refine go ?_
       refine⟨(i+1,t+1+1+1+1,rs ++ [(RU.mk false c (1+w2 % n) i)]),mv 3 5,⟨by show i+1<=cnt; omega,by show t+1+1+1+1<=4+4*(i+1); omega,by rw [Y0e,hrl]; rfl,fun r hr=>(Y0h.1 hr).elim (hro r) fun e=>by
        rw [Y0g] at e; subst e
        exact X3M.mk0 hn2.2 hc1 hm62 hc2 ⟨by omega,by omega⟩ (fun h=>by cases h)⟩,by show cnt-(i+1)<cnt-i; omega,fun i hi=>absurd hi (YL i),Zu rfl,
        ⟨Qt 0 0 0,Qt 1 0 0,Qt 2 0 0,Qp Yt,Qp Yt,⟨_,by show some _=some _; rw [hinc],.pure _ Yt⟩,Yt⟩,
        ⟨Qs ⟨⟨Yt,Yt,Yt,Yt,Yt,Yt,Yt⟩,Yt⟩,Qs (ZK p fl _),⟨by decide,_,rfl,Xr.single ⟨.pure _ Yt,.pure _ (Zl l),.pure _ Yt,.own (ρ:=mv 3 5) 3 (by decide),.pure _ Yt,.pure _ Yt,Yt⟩ rfl⟩,⟨by decide,_,rfl,?_⟩,Yt⟩⟩
       show Xr _ _ ⟨5,rs.map ruR ++ [ruR (RU.mk false c (1+w2 % n) i)]⟩ ⟨5,(rs ++ [(RU.mk false c (1+w2 % n) i)]).map ruR⟩;rw [Y0r];exact .same _ (by rw [<- Y1a,<- Y0r]; exact Z1B _)
     . refine gd 123 ⟨?_⟩
       refine ZH (Zt (k:=3) (m := [ruR (RU.mk true (0,0) (1+w2 % n) i)]) (fl:=true) rfl rfl rfl (fun q hq=>by rw [Y0g] at hq; subst hq; rfl) rfl (by
        show ((rs.map ruR).length+1)*40<=_
        rw [Y0f];omega)) rfl rfl ?_
       refine go ?_
       refine⟨(i+1,t+1+1+1+1,rs ++ [(RU.mk true (0,0) (1+w2 % n) i)]),mv 3 5,⟨by show i+1<=cnt; omega,by show t+1+1+1+1<=4+4*(i+1); omega,by rw [Y0e,hrl]; rfl,fun r hr=>(Y0h.1 hr).elim (hro r) fun e=>by
        rw [Y0g] at e; subst e
        exact X3M.mk0 hn2.2 ⟨Y3m _,Y3m _⟩ hm62 rfl ⟨by omega,by omega⟩ (fun h=>rfl)⟩,by show cnt-(i+1)<cnt-i; omega,fun i hi=>absurd hi (YL i),Zu rfl,
        ⟨Qt 0 0 0,Qt 1 0 0,Qt 2 0 0,Qp Yt,Qp Yt,⟨_,by show some _=some _; rw [hinc],.pure _ Yt⟩,Yt⟩,
        ⟨Qs ⟨⟨Yt,Yt,Yt,Yt,Yt,Yt,Yt⟩,Yt⟩,Qs (ZK p fl _),⟨by decide,_,rfl,Xr.single ⟨.pure _ Yt,.pure _ (Zl l),.pure _ Yt,.own (ρ:=mv 3 5) 3 (by decide),.pure _ Yt,.pure _ Yt,Yt⟩ rfl⟩,⟨by decide,_,rfl,?_⟩,Yt⟩⟩
       show Xr _ _ ⟨5,rs.map ruR ++ [ruR (RU.mk true (0,0) (1+w2 % n) i)]⟩ ⟨5,(rs ++ [(RU.mk true (0,0) (1+w2 % n) i)]).map ruR⟩;rw [Y0r];exact .same _ (by rw [<- Y1a,<- Y0r]; exact Z1B _)
   . have hil : i = cnt := by have := Ye hb; omega
     clear hb hinc;rw [hil] at hrl;have ht28:t<=28:=by omega
     clear hi hil ht;refine gd 126 ⟨?_⟩;refine ZT (ZW p hp fl t (by omega)) rfl rfl rfl rfl (ZK p fl _) Yt ?_;rintro r b' - - ⟨w1,hw1,rfl,rfl⟩;refine Zb (Zk (ob:=2) (id:=3) (i0:=0) (j0:=3) rfl rfl (by decide) (Z1B rs) (Y0 rfl) (Y0 rfl) rfl) ?_;refine Zh rfl rfl rfl (Z2d w1 4) ?_;have hv4:=Y1l w1 (show 0<4 by decide);generalize w1 % 4=nvc at hv4 ⊢;clear hw1;refine gd 129 ⟨?_⟩;refine ZT (ZW p hp fl (t+1) (by omega)) rfl rfl rfl rfl (ZK p fl _) Yt ?_;rintro r b' - - ⟨w1,hw1,rfl,rfl⟩;refine Zh rfl rfl rfl (Z2d w1 3) ?_;have hv3:=Y1l w1 (show 0<3 by decide);refine Zh rfl rfl rfl (show IntKind.i64.wrap (1+((w1 % 3:Nat):Int))=((1+w1 % 3:Nat):Int) from by rw [Y0v _ ⟨by omega,by omega⟩];omega) ?_;obtain⟨glc,hglc⟩:∃ g,1+w1 % 3=g:=⟨_,rfl⟩
     rw [hglc];have hgl3:1<=glc/\glc<=3:=by omega
     clear hglc hv3 hw1;refine gd 19 ⟨?_⟩;refine Zb (ZP (id:=2) (i0:=0) (j0:=4) rfl (Y0 rfl) (Y0 rfl) rfl 2 (by decide) (by decide)) ?_;refine go ?_;refine ZC hC (fun (z:Nat×Nat×List Cu)=>z.1<=nvc/\z.2.1<=30+2*z.1/\z.2.2.length<=z.1/\∀ c∈z.2.2,InM (mkN n) c/\emC c=false/\hoC c (clo l s)=false) (fun z=>nvc-z.1) 5 (fun z => [(2,.ptr 0 0 0),(3,.ptr 1 0 0),(4,.ptr 2 0 0),(5,.val (.int .u8 (mkN n:Nat))),(17,.val (.int .i64 (nvc:Int))),(18,.val (.int .i64 (glc:Int))),(19,Yv z.1)])
      (fun z => [(0,⟨6,[zpv [.int .i64 0,.slice none 0 0,.int .u64 0,.slice none 0 0,.slice none 0 0,.slice none 0 0]]⟩),(1,X4B p fl z.2.1),(2,⟨6,[[.val (.int .i64 (n:Int)),.vec (l.map prC) fk,.val (.int .u64 (s:Int)),.vec (rs.map ruR) false,.own 4,.vec [] true]]⟩),(4,⟨2,z.2.2.map raC⟩)]) (Y0l _) (0,t+1+1,[]) ⟨Y0l _,by show t+1+1<=30+2*0; omega,Y0m _,fun r hr=>by cases hr⟩ (fun i=>i) (fun _ _=>rfl) Zp
      ⟨Qt 0 0 0,Qt 1 0 0,Qt 2 0 0,Qp Yt,Qp Yt,Qp Yt,Qp Yt,Yt⟩
      ⟨Qs ⟨⟨Yt,Yt,Yt,Yt,Yt,Yt,Yt⟩,Yt⟩,Qs (ZK p fl _),⟨by decide,_,rfl,Xr.single ⟨.pure _ Yt,.pure _ (Zl l),.pure _ Yt,.pure _ (Z1B rs),.own (ρ:=fun i=>i) 4 (by decide),.pure _ Yt,Yt⟩ rfl⟩,Qs Yt,Yt⟩ ?_
     clear ht28;rintro⟨i,t,nv⟩ ⟨hi,ht,hnl,hno⟩;dsimp only at hi ht hnl hno;have hinc:IntKind.i64.wrap ((i:Int)+1)=((i+1:Nat):Int):=Y0v _ ⟨by omega,by omega⟩;refine gd 134 ⟨?_⟩;refine Zv rfl rfl rfl (fun hb=>?_) (fun hb=>?_)
     . have hil : i < nvc := by have := Y0u hb; omega
       clear hb;refine gd 138 ⟨?_⟩;refine ZT (ZW p hp fl t (by omega)) rfl rfl rfl rfl (ZK p fl _) Yt ?_;rintro r b' - - ⟨w1,hw1,rfl,rfl⟩;refine gd 140 ⟨?_⟩;refine ZT (ZW p hp fl (t+1) (by omega)) rfl rfl rfl rfl (ZK p fl _) Yt ?_;rintro r b' - - ⟨w2,hw2,rfl,rfl⟩;refine gd 145 ⟨?_⟩;refine Qo (Za2 rfl rfl (by omega)) ?_;rw [Z2d i n];have hw:=Y1l i (show 0<n by omega);refine Zh rfl rfl rfl (show IntKind.u64.wrap ((i % n:Nat):Int)=((i % n:Nat):Int) from Y0x _ ⟨by omega,by omega⟩) ?_;refine Z4R rfl rfl (by omega) rfl rfl ?_;refine gd 151 ⟨?_⟩;refine Zz rfl rfl (Z5C _ (w2:Int) (mkN n) (by omega)) ⟨Yt,Yt,Yt,Yt⟩ rfl ?_;rintro r ⟨c,hc1,hc2,rfl⟩;have hcl:=Z8S l fk hgl.small s (by omega);have hc64:=hc1.lt (by omega);have hho:=Za0 c (clo l s) hc64 (Z7W _ _);refine gd 157 ⟨?_⟩;refine Qd hcl ⟨Zl _,Yt,Yt⟩ ?_;refine Qd hho ⟨Z5c c,Yt,Yt⟩ ?_;cases hb:hoC c (clo l s)
       . refine gd 164 ⟨?_⟩
         refine ZH (Zt (k:=4) (m := [raC c]) (fl:=true) rfl rfl rfl (fun q hq=>by rw [Y0g] at hq; subst hq; rfl) rfl (by
         show ((nv.map raC).length+1)*16<=_
         rw [Y0f];omega)) rfl rfl ?_
         refine go ?_
         refine⟨(i+1,t+1+1,nv ++ [c]),mv 4 14,⟨by show i+1<=nvc; omega,by show t+1+1<=30+2*(i+1); omega,by rw [Y0e]; show nv.length+1<=i+1; omega,fun c' hc'=>(Y0h.1 hc').elim (hno c') fun e=>by rw [Y0g] at e; subst e; exact⟨hc1,hc2,hb⟩⟩,by show nvc-(i+1)<nvc-i; omega,fun i hi=>absurd hi (YL i),Zu rfl,
          ⟨Qt 0 0 0,Qt 1 0 0,Qt 2 0 0,Qp Yt,Qp Yt,Qp Yt,⟨_,by show some _=some _; rw [hinc],.pure _ Yt⟩,Yt⟩,
          ⟨Qs ⟨⟨Yt,Yt,Yt,Yt,Yt,Yt,Yt⟩,Yt⟩,Qs (ZK p fl _),⟨by decide,_,rfl,Xr.single ⟨.pure _ Yt,.pure _ (Zl l),.pure _ Yt,.pure _ (Z1B rs),.own (ρ:=mv 4 14) 4 (by decide),.pure _ Yt,Yt⟩ rfl⟩,⟨by decide,_,rfl,?_⟩,Yt⟩⟩
         show Xr _ _ ⟨2,nv.map raC ++ [raC c]⟩ ⟨2,(nv ++ [c]).map raC⟩;rw [Y0r];exact .same _ (by rw [<- Y1a,<- Y0r]; exact Z1C _)
       . refine go ?_
         exact⟨(i+1,t+1+1,nv),fun i=>i,⟨by show i+1<=nvc; omega,by show t+1+1<=30+2*(i+1); omega,by show nv.length<=i+1; omega,hno⟩,by show nvc-(i+1)<nvc-i; omega,fun i hi=>rfl,Zp,
          ⟨Qt 0 0 0,Qt 1 0 0,Qt 2 0 0,Qp Yt,Qp Yt,Qp Yt,⟨_,by show some _=some _; rw [hinc],.pure _ Yt⟩,Yt⟩,
          ⟨Qs ⟨⟨Yt,Yt,Yt,Yt,Yt,Yt,Yt⟩,Yt⟩,Qs (ZK p fl _),⟨by decide,_,rfl,Xr.single ⟨.pure _ Yt,.pure _ (Zl l),.pure _ Yt,.pure _ (Z1B rs),.own (ρ:=fun i=>i) 4 (by decide),.pure _ Yt,Yt⟩ rfl⟩,Qs (Z1C _),Yt⟩⟩
     . have hil : i = nvc := by have := Ye hb; omega
       clear hb hinc;rw [hil] at hnl;have ht40:t<=40:=by omega
       clear hi hil ht;refine gd 23 ⟨?_⟩;refine Zb (Zk (ob:=2) (id:=4) (i0:=0) (j0:=4) rfl rfl (by decide) (Z1C nv) (Y0 rfl) (Y0 rfl) rfl) ?_;refine Zb (ZP (id:=2) (i0:=0) (j0:=5) rfl (Y0 rfl) (Y0 rfl) rfl 2 (by decide) (by decide)) ?_;refine go ?_;refine ZC hC (fun (z:Nat×Nat×List Cu)=>z.1<=glc/\z.2.1<=40+2*z.1/\z.2.2.length=z.1/\∀ c∈z.2.2,InM (mkN n) c/\emC c=false) (fun z=>glc-z.1) 6 (fun z => [(2,.ptr 0 0 0),(3,.ptr 1 0 0),(4,.ptr 2 0 0),(5,.val (.int .u8 (mkN n:Nat))),(18,.val (.int .i64 (glc:Int))),(23,Yv z.1)])
        (fun z => [(0,⟨6,[zpv [.int .i64 0,.slice none 0 0,.int .u64 0,.slice none 0 0,.slice none 0 0,.slice none 0 0]]⟩),(1,X4B p fl z.2.1),(2,⟨6,[[.val (.int .i64 (n:Int)),.vec (l.map prC) fk,.val (.int .u64 (s:Int)),.vec (rs.map ruR) false,.vec (nv.map raC) false,.own 5]]⟩),(5,⟨2,z.2.2.map raC⟩)]) (Y0l _) (0,t,[]) ⟨Y0l _,by show t<=40+2*0; omega,rfl,fun r hr=>by cases hr⟩ (fun i=>i) (fun _ _=>rfl) Zp
        ⟨Qt 0 0 0,Qt 1 0 0,Qt 2 0 0,Qp Yt,Qp Yt,Qp Yt,Yt⟩
        ⟨Qs ⟨⟨Yt,Yt,Yt,Yt,Yt,Yt,Yt⟩,Yt⟩,Qs (ZK p fl _),⟨by decide,_,rfl,Xr.single ⟨.pure _ Yt,.pure _ (Zl l),.pure _ Yt,.pure _ (Z1B rs),.pure _ (Z1C nv),.own (ρ:=fun i=>i) 5 (by decide),Yt⟩ rfl⟩,Qs Yt,Yt⟩ ?_
       clear ht40;rintro⟨i,t,gs⟩ ⟨hi,ht,hgn,hgo⟩;dsimp only at hi ht hgn hgo;have hinc:IntKind.i64.wrap ((i:Int)+1)=((i+1:Nat):Int):=Y0v _ ⟨by omega,by omega⟩;refine gd 168 ⟨?_⟩;refine Zv rfl rfl rfl (fun hb=>?_) (fun hb=>?_)
       . have hil : i < glc := by have := Y0u hb; omega
         clear hb;refine gd 172 ⟨?_⟩;refine ZT (ZW p hp fl t (by omega)) rfl rfl rfl rfl (ZK p fl _) Yt ?_;rintro r b' - - ⟨w1,hw1,rfl,rfl⟩;refine gd 174 ⟨?_⟩;refine ZT (ZW p hp fl (t+1) (by omega)) rfl rfl rfl rfl (ZK p fl _) Yt ?_;rintro r b' - - ⟨w2,hw2,rfl,rfl⟩;refine gd 180 ⟨?_⟩;refine Z4x rfl rfl (.inl rfl) (Z5C (w1:Int) (w2:Int) (mkN n) (by omega)) ⟨Yt,Yt,Yt,Yt⟩ ?_;rintro r ⟨c,hc1,hc2,rfl⟩;refine gd 182 ⟨?_⟩
         refine Qr (Zt (k:=5) (m := [raC c]) (fl:=true) rfl rfl rfl (fun q hq=>by rw [Y0g] at hq; subst hq; rfl) rfl (by
          show ((gs.map raC).length+1)*16<=_
          rw [Y0f];omega)) ?_
         refine go ?_
         refine⟨(i+1,t+1+1,gs ++ [c]),mv 5 13,⟨by show i+1<=glc; omega,by show t+1+1<=40+2*(i+1); omega,by rw [Y0e,hgn]; rfl,fun c' hc'=>(Y0h.1 hc').elim (hgo c') fun e=>by rw [Y0g] at e; subst e; exact⟨hc1,hc2⟩⟩,by show glc-(i+1)<glc-i; omega,fun i hi=>absurd hi (YL i),Zu rfl,
          ⟨Qt 0 0 0,Qt 1 0 0,Qt 2 0 0,Qp Yt,Qp Yt,⟨_,by show some _=some _; rw [hinc],.pure _ Yt⟩,Yt⟩,
          ⟨Qs ⟨⟨Yt,Yt,Yt,Yt,Yt,Yt,Yt⟩,Yt⟩,Qs (ZK p fl _),⟨by decide,_,rfl,Xr.single ⟨.pure _ Yt,.pure _ (Zl l),.pure _ Yt,.pure _ (Z1B rs),.pure _ (Z1C nv),.own (ρ:=mv 5 13) 5 (by decide),Yt⟩ rfl⟩,⟨by decide,_,rfl,?_⟩,Yt⟩⟩
         show Xr _ _ ⟨2,gs.map raC ++ [raC c]⟩ ⟨2,(gs ++ [c]).map raC⟩;rw [Y0r];exact .same _ (by rw [<- Y1a,<- Y0r]; exact Z1C _)
       . have hil : i = glc := by have := Ye hb; omega
         clear hb hinc;rw [hil] at hgn;refine gd 184 ⟨?_⟩;refine Zb (Zk (ob:=2) (id:=5) (i0:=0) (j0:=5) rfl rfl (by decide) (Z1C gs) (Y0 rfl) (Y0 rfl) rfl) ?_;refine go ?_;have hlo1:Xp (l.map prC)=l.map prC:=Z3W (fun _=>rfl) l;have hlo2:Xp (rs.map ruR)=rs.map ruR:=Z3W (fun _=>rfl) rs;have hlo3:∀ x:List Cu,Xp (x.map raC)=x.map raC:=Z3W (fun _=>rfl);have hcI:∀ c:Cu,InM (mkN n) c->InM 62 c:=fun c hc=>⟨Z4j hc.1 hm62,Z4j hc.2 hm62⟩
         have hOk:X5B ⟨n,l,s,rs,nv,gs⟩:=by
          refine⟨⟨⟨by show 1<=n; omega,by show n<=63; omega⟩,hgl,fun p hp=>?_,hs1,by show rs.length<=64; omega,hro,by show nv.length<=64; omega,fun c hc=>⟨(hno c hc).1.inC (hno c hc).2.1,hcI c (hno c hc).1⟩,by show gs.length<=64; omega,fun c hc=>⟨(hgo c hc).1.inC (hgo c hc).2,hcI c (hgo c hc).1⟩,?_⟩,hn2,by show rs.length<=6; omega,by show nv.length<=3; omega,by show 1<=gs.length/\gs.length<=3; omega⟩
          . have := hlm p hp;show p.1<=n/\p.2<=n/\p.1<=5/\p.2<=5;omega
          . show soC nv (clo l s) = false;refine YB.2 fun h=>?_;obtain⟨c,hc,h⟩:=Y01.1 h;rw [(hno c hc).2.2] at h; cases h
         have he:(PV.agg [.val (.int .i64 (n:Int)),.vec (l.map prC) fk,.val (.int .u64 (s:Int)),.vec (rs.map ruR) false,.vec (nv.map raC) false,.vec (gs.map raC) false]).low=.agg (pbR ⟨n,l,s,rs,nv,gs⟩):=by
          show PV.agg [.val (.int .i64 (n:Int)),.vec (Xp (l.map prC)) false,.val (.int .u64 (s:Int)),.vec (Xp (rs.map ruR)) false,.vec (Xp (nv.map raC)) false,.vec (Xp (gs.map raC)) false]=_;rw [hlo1,hlo2,hlo3,hlo3]; rfl
         refine Z1I (r:=.agg [.val (.int .i64 (n:Int)),.vec (l.map prC) fk,.val (.int .u64 (s:Int)),.vec (rs.map ruR) false,.vec (nv.map raC) false,.vec (gs.map raC) false]) rfl ?_ ⟨_,hOk,he⟩;rw [he];exact Z6m _
theorem ZhT (l:List RU):(l.map ruR).length=l.length:=by simp
theorem Z5U:∀ {l m:List Pr},Xv l->Xv m->l.Perm m->l=m
 | [],m,_,_,h=>(List.Perm.nil_eq h)
 | a :: l,[],_,_,h=>by have:=h.length_eq; simp at this
 | a :: l, b :: m, h1, h2, h => by
   have h1':=Y10.1 h1;have h2':=Y10.1 h2;have hab:a=b:=by
    rcases Y9.1 (h.mem_iff.1 (Y0t (a:=a) (l:=l))) with e|ha
    . exact e
    rcases Y9.1 (h.mem_iff.2 (Y0t (a:=b) (l:=m))) with e|hb
    . exact e.symm
    have x1:=h1'.1 b hb;have x2:=h2'.1 a ha;omega
   subst hab;rw [Z5U h1'.2 h2'.2 (List.Perm.cons_inv h)]
theorem Xv.tk {l:List Pr} (h:Xv l) (i:Nat):Xv (l.take i):=List.Pairwise.sublist (List.take_sublist i l) h
theorem Xv.nd {l:List Pr} (h:Xv l):l.Nodup:=List.Pairwise.imp (fun {a b} h e=>by subst e;omega) h
theorem ZcY {l:List Pr} (h:X3X l):l.length<=4096:=by
 have hn:(l.map fun p=>p.1*64+p.2).Nodup:=by
  rw [Y1f,Y1o];refine Y1x (fun {a b} ha hb hab=>?_) h.asc;have h1:=h.small a ha;have h2:=h.small b hb;show a.1*64+a.2≠b.1*64+b.2;omega
 have:=Z2M 4096 _ hn fun x hx=>by
  obtain⟨p,hp,rfl⟩:=Y0i.1 hx;have:=h.small p hp;show p.1*64+p.2<4096;omega
 rwa [Y0f] at this
theorem Z11 {α:Type} {l:List α} {i:Nat} (hi:i<l.length):l.take (i+1)=l.take i ++ [l[i]]:=by rw [YY,Y0c hi]; rfl
theorem Za3 {t:PB} (h:Xz t):Xa Tryz.prog 20 [.agg (pbR t)] fun r=>∃ S,r=.tup [.agg (pbP t S),.val (.bool true)]:=by
 have hpr:=Z6m t;have hgl:=h.good;have hll:=ZcY hgl;have hnl:=Z2n t.l;have hst:t.st<18446744073709551616:=by
  have h1:t.st<=mkN t.n:=by rw [<- h.st]; exact YZ
  have:=Z5d h.n.2;omega
 have hpl:∀ D,Xu D (t.l.map prC):=fun D=>Ze (fun _ h=>h.elim) _ (Zl t.l);have hpc:∀ D,X26 D (pbR t):=fun D=>ZI (fun _ h=>h.elim) _ hpr;have hhp:∀ D l S,(XR l S).inn D:=fun D l S=>PV.inn_mono (fun _ h=>h.elim) _ (Zm l S);have hcu:∀ (l:List Cu) D,Xu D (l.map cuC):=fun l D=>Ze (fun _ h=>h.elim) _ (Z1n l);refine Yp ok20 fun C hC=>?_;refine Zq ?_;refine Za ?_;refine Z5 rfl rfl rfl ?_;refine gd 13 ⟨?_⟩;refine Z4x rfl rfl (.inl rfl) Z3U Yt ?_;rintro r ⟨S0,rfl⟩;refine gd 16 ⟨?_⟩;refine Qd (Z5A t.st hst) ⟨Yt,Yt⟩ ?_;refine gd 19 ⟨?_⟩;refine Qd (Z5T t.nv false h.nv64 (by have:=h.nl;omega)) ⟨Z1C _,Yt⟩ ?_;refine gd 22 ⟨?_⟩;refine Qd (Z5T t.gl false h.gl64 (by have:=h.gk;omega)) ⟨Z1C _,Yt⟩ ?_;refine go ?_;refine ZB hC (fun (z:Nat×List Nat)=>z.1<=t.l.length) (fun z=>t.l.length-z.1) 16 (fun z => [(1,.cp (pbR t)),(2,.ptr 0 0 0),(4,.ptr 14 0 0),(25,.vec (t.l.map prC) false),(26,.val (.int .i64 t.l.length)),(27,Yv z.1)])
  (fun z => [(0,⟨6,[zpv [.int .i64 0,.pointer none,.slice none 0 0,.slice none 0 0,.slice none 0 0,.slice none 0 0]]⟩),(14,⟨6,[[.val (.int .i64 (t.n:Int)),XR (t.l.take z.1) z.2,.vec (X5 (X7 t.st)) false,.vec [] true,.vec (t.nv.map cuC) false,.vec (t.gl.map cuC) false]]⟩)]) (Y0l _) (0,S0) (Y0l _)
  ⟨⟨rfl,hpc _⟩,⟨rfl,show (0:Nat)<16 by decide⟩,⟨rfl,show (14:Nat)<16 by decide⟩,⟨rfl,hpl _⟩,⟨by rw [<- hnl]; rfl,Yt⟩,⟨rfl,Yt⟩,Yt⟩
  ⟨⟨by decide,rfl,⟨⟨Yt,Yt,Yt,Yt,Yt,Yt,Yt⟩,Yt⟩⟩,⟨by decide,rfl,⟨⟨Yt,hhp _ _ _,Zr _ _,Yt,hcu _ _,hcu _ _,Yt⟩,Yt⟩⟩,Yt⟩ ?_
 rintro⟨i,S⟩ hi;dsimp only at hi;have hinc:IntKind.i64.wrap ((i:Int)+1)=((i+1:Nat):Int):=Y0v _ ⟨by omega,by omega⟩;refine gd 28 ⟨?_⟩;refine Zv rfl rfl rfl (fun hb=>?_) (fun hb=>?_)
 . have hil : i < t.l.length := by have := Y0u hb; omega
   have htk:=Z11 hil;have hro:=hgl.role _ (Y0j hil);have hsub:∀ p∈t.l.take i ++ [t.l[i]],p∈t.l:=fun p hp=>by rw [<- htk] at hp; exact YM hp
   have hno:t.l[i] ∉ t.l.take i:=fun h=>by
    have hnd:=Xv.nd (Xv.tk hgl.asc (i+1));rw [htk,Y34] at hnd;exact hnd.2.2 _ h _ (Y0g.2 rfl) rfl
   clear hb;refine go ?_;refine Qo (Zo (xs:=t.l) (g:=prC) rfl rfl i rfl hil rfl) ?_;generalize t.l[i]=p at htk hro hsub hno ⊢;have hls:=ZfR (t.l.take i) S p.1 p.2 (by omega) (by omega) hro.2.2.2.2 (fun q hq=>hgl.small q (YM hq)) (Xv.nd (Xv.tk hgl.asc i)) hno (hgl.acy.sub hsub) (by rw [Y0o];omega);refine gd 38 ⟨?_⟩;refine Zz rfl rfl hls ⟨Zm _ _,Yt,Yt,Yt⟩ rfl ?_;rintro r ⟨l',S',hpm,hst,rfl⟩;have hle:l'=t.l.take (i+1):=by
    have hx1:l'.Perm (t.l.take (i+1)):=by rw [htk]; exact hpm
    exact Z5U hst (Xv.tk hgl.asc (i+1)) hx1
   subst hle;refine go ?_
   exact⟨(i+1,S'),hil,by show t.l.length-(i+1)<t.l.length-i; omega,⟨⟨rfl,hpc _⟩,⟨rfl,show (0:Nat)<16 by decide⟩,⟨rfl,show (14:Nat)<16 by decide⟩,⟨rfl,hpl _⟩,⟨rfl,Yt⟩,⟨by show some _=some _; rw [hinc],Yt⟩,Yt⟩,
    ⟨⟨by decide,rfl,⟨⟨Yt,Yt,Yt,Yt,Yt,Yt,Yt⟩,Yt⟩⟩,⟨by decide,rfl,⟨⟨Yt,hhp _ _ _,Zr _ _,Yt,hcu _ _,hcu _ _,Yt⟩,Yt⟩⟩,Yt⟩⟩
 . have hil : i = t.l.length := by have := Ye hb; omega
   subst hil;clear hb hinc hi;rw [Y0q];refine gd 50 ⟨?_⟩;refine Zb (ZP (id:=14) (i0:=0) (j0:=3) rfl (Y0 rfl) (Y0 rfl) rfl 5 (by decide) (by decide)) ?_;refine go ?_;have hnr:=ZhT t.rs;have hrl:=h.rl;refine ZC hC (fun (i:Nat)=>i<=t.rs.length) (fun i=>t.rs.length-i) 17 (fun i => [(2,.ptr 0 0 0),(4,.ptr 14 0 0),(48,.vec (t.rs.map ruR) false),(49,.val (.int .i64 (t.rs.length:Int))),(50,Yv i)])
    (fun i => [(0,⟨6,[zpv [.int .i64 0,.pointer none,.slice none 0 0,.slice none 0 0,.slice none 0 0,.slice none 0 0]]⟩),(14,⟨6,[[.val (.int .i64 (t.n:Int)),XR t.l S,.vec (X5 (X7 t.st)) false,.own 16,.vec (t.nv.map cuC) false,.vec (t.gl.map cuC) false]]⟩),(16,⟨5,(t.rs.take i).map ruP⟩)]) (Y0l _) 0 (Y0l _) (fun i=>i) (fun _ _=>rfl) Zp
    ⟨Qt 0 0 0,Qt 14 0 0,Qp (Z1B _),⟨_,by rw [<- hnr]; rfl,.pure _ Yt⟩,Qp Yt,Yt⟩
    ⟨Qs ⟨⟨Yt,Yt,Yt,Yt,Yt,Yt,Yt⟩,Yt⟩,⟨by decide,_,rfl,Xr.single ⟨.pure _ Yt,.pure _ (Zm _ _),.pure _ (Z4 _),.own (ρ:=fun i=>i) 16 (by decide),.pure _ (Z1n _),.pure _ (Z1n _),Yt⟩ rfl⟩,Qs Yt,Yt⟩ ?_
   intro i hi;have hinc:IntKind.i64.wrap ((i:Int)+1)=((i+1:Nat):Int):=Y0v _ ⟨by omega,by omega⟩;refine gd 51 ⟨?_⟩;by_cases hil:i<t.rs.length
   . have htk := Z11 hil;have hcu64:=(h.rs _ (Y0j hil)).cu.lt h.n.2;refine Qo (Qy rfl (Y2Q.2 hil)) ?_;refine go ?_;refine Qo (Zo (xs:=t.rs) (g:=ruR) rfl rfl i rfl hil rfl) ?_;generalize t.rs[i]=x at htk hcu64 ⊢;refine gd 57 ⟨?_⟩;refine Zd rfl rfl rfl ?_;refine gd 60 ⟨?_⟩;refine Qd (Z71 x.cu hcu64) ⟨Z5c _,Yt⟩ ?_;refine gd 67 ⟨?_⟩
     refine Qr (Zt (k:=16) (m := [ruP x]) (fl:=true) rfl rfl rfl (fun q hq=>by rw [Y0g] at hq; subst hq; rfl) rfl (by
      show (((t.rs.take i).map ruP).length+1)*72<=_
      rw [Y0f,Y0o];omega)) ?_
     refine go ?_
     refine⟨i+1,mv 16 31,hil,by show t.rs.length-(i+1)<t.rs.length-i; omega,fun i hi=>absurd hi (YL i),Zu rfl,
      ⟨Qt 0 0 0,Qt 14 0 0,Qp (Z1B _),Qp Yt,⟨_,by show some _=some _; rw [hinc],.pure _ Yt⟩,Yt⟩,
      ⟨Qs ⟨⟨Yt,Yt,Yt,Yt,Yt,Yt,Yt⟩,Yt⟩,⟨by decide,_,rfl,Xr.single ⟨.pure _ Yt,.pure _ (Zm _ _),.pure _ (Z4 _),.own (ρ:=mv 16 31) 16 (by decide),.pure _ (Z1n _),.pure _ (Z1n _),Yt⟩ rfl⟩,⟨by decide,_,rfl,?_⟩,Yt⟩⟩
     show Xr _ _ ⟨5,(t.rs.take i).map ruP ++ [ruP x]⟩ ⟨5,(t.rs.take (i+1)).map ruP⟩;rw [htk,Y0r];exact .same _ (by rw [<- Y1a,<- Y0r]; exact Zs _)
   . have hil : i = t.rs.length := by omega
     subst hil;rw [Y0q];refine Zb (Zk (ob:=14) (id:=16) (i0:=0) (j0:=3) rfl rfl (by decide) (Zs t.rs) (Y0 rfl) (Y0 rfl) rfl) ?_;refine Qo (Qz rfl (Y4j _)) ?_
     repeat' (first|refine Z3h [] [(0,16)] [63,63,63,63,47,63] (by kernel_rfl) ?_|(first|refine st ?_|(apply B<;>intro hb<;>try cases hb)))
     exact Z8 rfl ⟨ZD t S,Yt,Yt⟩ ⟨S,rfl⟩
theorem Ze6 (p:List Nat) (fl:Bool) (hp:X4d p):Xa Tryz.prog 6 [.vec (bys p) fl] fun r=>∃ t S,X5B t/\r=.tup [.agg (pbP t S),.agg (pbR t),.val (.bool true)]:=by
 refine Yp ok6 fun C hC=>?_;refine gd 9 ⟨?_⟩;refine Zz rfl rfl (ZbE p fl hp) ⟨Zg p,Yt⟩ rfl ?_;rintro r ⟨t,ht,rfl⟩;have hpr:=Z6m t;refine gd 12 ⟨?_⟩;refine Zz rfl rfl (Za3 ht.ok) ⟨hpr,Yt⟩ rfl ?_;rintro r ⟨S,rfl⟩;have hpp:=ZD t S
 repeat' (first|refine Z3h [] [(0,8)] [63,63,63,55,63,63] (by kernel_rfl) ?_|(first|refine st ?_|(apply B<;>intro hb<;>try cases hb)))
 exact Z8 rfl ⟨hpp,hpr,Yt,Yt⟩ ⟨t,S,ht,rfl⟩
theorem Z96 {α:Type} (p:α->Bool) (xs:List α):(!xs.any fun x => !p x)=xs.all p:=by
 induction xs with
 | nil=>rfl
 | cons x xs ih=>rw [Y3j,List.all_cons,Bool.not_or,ih,Bool.not_not]
theorem Z77 {n:Nat} {e:Env} {h:X1} {a:Operand} {l:List PV} (ha:ev e a=some (.agg l)) (hl:0<l.length):Xc (.box a) e h n=some (.cp l,h):=by
 simp only [Xc,ha];rw [Y5 (by show (true&&decide (0<l.length))=true; rw [Yw hl]; rfl)]
 rfl
theorem Z3X {α:Type} (xs:List α) (enc:α->List PV) (fl:Bool) (g:Nat) (caps:List PV) (p:α->Bool) (hl:∀ x,(enc x).length=5) (hp:∀ x,X6 (enc x)) (hc:X6 caps) (hg:∀ x∈xs,Xa Tryz.prog g (.agg (enc x) :: caps) (· = .val (.bool (p x)))) :
 Xa Tryz.prog 151 [.vec (xs.map enc) fl,.fn g caps] (· = .val (.int .i64 (X2G p xs))):=by
 refine Yp ok151 fun C hC=>?_;refine Z4t (k:=0) rfl fun hmax=>?_;have hnl:(xs.map enc).length=xs.length:=by simp
 have hlm:xs.length<=Xd:=by simpa using hmax
 refine go ?_;refine Z49 (fun i=>i<=xs.length/\(xs.take i).any p=false) (fun i=>xs.length-i) (fun i => [(0,.vec (xs.map enc) fl),(1,.fn g caps),(7,.val (.int .i64 (xs.length:Int))),(8,Yv i)]) 0 ⟨Y0l _,rfl⟩ ⟨rfl,rfl,by rw [<- hnl]; rfl,rfl,Yt⟩ ?_;rintro i ⟨hi,hno⟩;have hinc:IntKind.i64.wrap ((i:Int)+1)=((i+1:Nat):Int):=Y0v _ ⟨by omega,by simp only [Xd] at hlm; omega⟩;(refine go ?_;repeat' (apply B<;>intro hb<;>try cases hb))
 . have hil : i < xs.length := by simpa using hb
   refine Qo (Zo (xs:=xs) rfl rfl i rfl hil (hl _)) ?_;refine Qo (Z4g rfl (hl _)) ?_;refine Qe (hg _ (Y0j hil)) ⟨hp _,hc⟩ ?_;refine Z1L ?_;refine Z5s rfl (fun hx=>?_) (fun hx=>?_)
   . refine go ?_;exact Z8 rfl Yt (by rw [Z5w hil hno hx])
   . (refine go ?_;repeat' (apply B<;>intro hb<;>try cases hb));exact⟨i+1,⟨by omega,Z54 hil hno hx⟩,by omega,rfl,rfl,⟨rfl,rfl,rfl,by show some _=some _; rw [hinc],Yt⟩⟩
 . have hil : i = xs.length := by simp at hb; omega
   subst hil;rw [Y0q] at hno;exact Z8 rfl Yt (by rw [Z2D hno]; rfl)
theorem Z5g {α:Type} (xs:List α) (enc:α->List PV) (fl:Bool) (g:Nat) (caps:List PV) (p:α->Bool) (hl:∀ x,(enc x).length=5) (hp:∀ x,X6 (enc x)) (hc:X6 caps) (hg:∀ x∈xs,Xa Tryz.prog g (.agg (enc x) :: caps) (· = .val (.bool (p x)))) :
 Xa Tryz.prog 132 [.vec (xs.map enc) fl,.fn g caps] (· = .val (.bool (xs.any p))):=by
 refine Yp ok132 fun C hC=>?_;refine go ?_;refine Qe (Z3X xs enc fl g caps p hl hp hc hg) ⟨Zc hp xs,hc,Yt⟩ ?_;refine Qo (Z7 rfl (Z6g (p:=p) (xs:=xs))) ?_;(refine go ?_;repeat' (apply B<;>intro hb<;>try cases hb))
 all_goals exact Z8 rfl Yt (by rw [hb])
theorem Z78 {α:Type} (xs:List α) (enc:α->List PV) (fl:Bool) (g:Nat) (caps:List PV) (p:α->Bool) (hl:∀ x,(enc x).length=2) (hp:∀ x,X6 (enc x)) (hc:X6 caps) (hg:∀ x∈xs,Xa Tryz.prog g (.agg (enc x) :: caps) (· = .val (.bool (p x)))) :
 Xa Tryz.prog 196 [.vec (xs.map enc) fl,.fn g caps] (· = .val (.int .i64 (X2G p xs))):=by
 refine Yp ok196 fun C hC=>?_;refine Z4t (k:=0) rfl fun hmax=>?_;have hnl:(xs.map enc).length=xs.length:=by simp
 have hlm:xs.length<=Xd:=by simpa using hmax
 refine go ?_;refine Z49 (fun i=>i<=xs.length/\(xs.take i).any p=false) (fun i=>xs.length-i) (fun i => [(0,.vec (xs.map enc) fl),(1,.fn g caps),(7,.val (.int .i64 (xs.length:Int))),(8,Yv i)]) 0 ⟨Y0l _,rfl⟩ ⟨rfl,rfl,by rw [<- hnl]; rfl,rfl,Yt⟩ ?_;rintro i ⟨hi,hno⟩;have hinc:IntKind.i64.wrap ((i:Int)+1)=((i+1:Nat):Int):=Y0v _ ⟨by omega,by simp only [Xd] at hlm; omega⟩;(refine go ?_;repeat' (apply B<;>intro hb<;>try cases hb))
 . have hil : i < xs.length := by simpa using hb
   refine Qo (Zo (xs:=xs) rfl rfl i rfl hil (hl _)) ?_;refine Qo (Z4g rfl (hl _)) ?_;refine Qe (hg _ (Y0j hil)) ⟨hp _,hc⟩ ?_;refine Z1L ?_;refine Z5s rfl (fun hx=>?_) (fun hx=>?_)
   . refine go ?_;exact Z8 rfl Yt (by rw [Z5w hil hno hx])
   . (refine go ?_;repeat' (apply B<;>intro hb<;>try cases hb));exact⟨i+1,⟨by omega,Z54 hil hno hx⟩,by omega,rfl,rfl,⟨rfl,rfl,rfl,by show some _=some _; rw [hinc],Yt⟩⟩
 . have hil : i = xs.length := by simp at hb; omega
   subst hil;rw [Y0q] at hno;exact Z8 rfl Yt (by rw [Z2D hno]; rfl)
theorem Z5h {α:Type} (xs:List α) (enc:α->List PV) (fl:Bool) (g:Nat) (caps:List PV) (p:α->Bool) (hl:∀ x,(enc x).length=2) (hp:∀ x,X6 (enc x)) (hc:X6 caps) (hg:∀ x∈xs,Xa Tryz.prog g (.agg (enc x) :: caps) (· = .val (.bool (p x)))) :
 Xa Tryz.prog 169 [.vec (xs.map enc) fl,.fn g caps] (· = .val (.bool (xs.any p))):=by
 refine Yp ok169 fun C hC=>?_;refine go ?_;refine Qe (Z78 xs enc fl g caps p hl hp hc hg) ⟨Zc hp xs,hc,Yt⟩ ?_;refine Qo (Z7 rfl (Z6g (p:=p) (xs:=xs))) ?_;(refine go ?_;repeat' (apply B<;>intro hb<;>try cases hb))
 all_goals exact Z8 rfl Yt (by rw [hb])
theorem Ze7 {α:Type} (enc:α->List PV) (g:Nat) (caps:List PV) (p:α->Bool) (hl:∀ x,(enc x).length=5) (hp:∀ x,X6 (enc x)) (hc:X6 caps) (x:α) (hg:Xa Tryz.prog g (.agg (enc x) :: caps) (· = .val (.bool (p x)))) :
 Xa Tryz.prog 133 [.agg (enc x),.cp [.fn g caps]] (· = .val (.bool (!p x))):=by
 refine Yp ok133 fun C hC=>?_;refine Zq ?_;refine Za ?_;refine Z5 (Z77 rfl (by rw [hl]; decide)) rfl rfl ?_;refine gd 5 ⟨?_⟩;refine Qo (Z4g rfl (hl _)) ?_;refine Qe hg ⟨hp _,hc⟩ ?_;generalize p x=b;cases b
 all_goals
  refine go ?_;exact Z8 rfl Yt rfl
theorem Za4 {α:Type} (xs:List α) (enc:α->List PV) (fl:Bool) (g:Nat) (caps:List PV) (p:α->Bool) (hl:∀ x,(enc x).length=5) (hp:∀ x,X6 (enc x)) (hc:X6 caps) (hg:∀ x∈xs,Xa Tryz.prog g (.agg (enc x) :: caps) (· = .val (.bool (p x)))) :
 Xa Tryz.prog 68 [.vec (xs.map enc) fl,.fn g caps] (· = .val (.bool (xs.all p))):=by
 have hcs:X6 [PV.cp [PV.fn g caps]]:=⟨⟨hc,Yt⟩,Yt⟩
 have h1:=Z5g xs enc fl 133 [.cp [.fn g caps]] (fun x => !p x) hl hp hcs fun x hx=>Ze7 enc g caps p hl hp hc x (hg x hx);rw [<- Z96];refine Yp ok68 fun C hC=>?_;refine Zq ?_;refine Za ?_;refine Z5 rfl rfl rfl ?_;refine gd 7 ⟨?_⟩;refine Qe h1 ⟨Zc hp xs,hcs,Yt⟩ ?_;generalize (xs.any fun x => !p x)=b;cases b
 all_goals
  refine go ?_;exact Z8 rfl Yt rfl
theorem Ze8 {α:Type} (enc:α->List PV) (g:Nat) (caps:List PV) (p:α->Bool) (hl:∀ x,(enc x).length=2) (hp:∀ x,X6 (enc x)) (hc:X6 caps) (x:α) (hg:Xa Tryz.prog g (.agg (enc x) :: caps) (· = .val (.bool (p x)))) :
 Xa Tryz.prog 170 [.agg (enc x),.cp [.fn g caps]] (· = .val (.bool (!p x))):=by
 refine Yp ok170 fun C hC=>?_;refine Zq ?_;refine Za ?_;refine Z5 (Z77 rfl (by rw [hl]; decide)) rfl rfl ?_;refine gd 5 ⟨?_⟩;refine Qo (Z4g rfl (hl _)) ?_;refine Qe hg ⟨hp _,hc⟩ ?_;generalize p x=b;cases b
 all_goals
  refine go ?_;exact Z8 rfl Yt rfl
theorem ZfY {α:Type} (xs:List α) (enc:α->List PV) (fl:Bool) (g:Nat) (caps:List PV) (p:α->Bool) (hl:∀ x,(enc x).length=2) (hp:∀ x,X6 (enc x)) (hc:X6 caps) (hg:∀ x∈xs,Xa Tryz.prog g (.agg (enc x) :: caps) (· = .val (.bool (p x)))) :
 Xa Tryz.prog 126 [.vec (xs.map enc) fl,.fn g caps] (· = .val (.bool (xs.all p))):=by
 have hcs:X6 [PV.cp [PV.fn g caps]]:=⟨⟨hc,Yt⟩,Yt⟩
 have h1:=Z5h xs enc fl 170 [.cp [.fn g caps]] (fun x => !p x) hl hp hcs fun x hx=>Ze8 enc g caps p hl hp hc x (hg x hx);rw [<- Z96];refine Yp ok126 fun C hC=>?_;refine Zq ?_;refine Za ?_;refine Z5 rfl rfl rfl ?_;refine gd 7 ⟨?_⟩;refine Qe h1 ⟨Zc hp xs,hcs,Yt⟩ ?_;generalize (xs.any fun x => !p x)=b;cases b
 all_goals
  refine go ?_;exact Z8 rfl Yt rfl
theorem Ze9 {α:Type} (enc:α->List PV) (g:Nat) (caps:List PV) (p:α->Bool) (hl:∀ x,(enc x).length=2) (hp:∀ x,X6 (enc x)) (hc:X6 caps) (x:α) (hg:Xa Tryz.prog g (.agg (enc x) :: caps) (· = .val (.bool (p x)))) :
 Xa Tryz.prog 171 [.agg (enc x),.cp [.fn g caps]] (· = .val (.bool (!p x))):=by
 refine Yp ok171 fun C hC=>?_;refine Zq ?_;refine Za ?_;refine Z5 (Z77 rfl (by rw [hl]; decide)) rfl rfl ?_;refine gd 5 ⟨?_⟩;refine Qo (Z4g rfl (hl _)) ?_;refine Qe hg ⟨hp _,hc⟩ ?_;generalize p x=b;cases b
 all_goals
  refine go ?_;exact Z8 rfl Yt rfl
theorem ZfZ {α:Type} (xs:List α) (enc:α->List PV) (fl:Bool) (g:Nat) (caps:List PV) (p:α->Bool) (hl:∀ x,(enc x).length=2) (hp:∀ x,X6 (enc x)) (hc:X6 caps) (hg:∀ x∈xs,Xa Tryz.prog g (.agg (enc x) :: caps) (· = .val (.bool (p x)))) :
 Xa Tryz.prog 130 [.vec (xs.map enc) fl,.fn g caps] (· = .val (.bool (xs.all p))):=by
 have hcs:X6 [PV.cp [PV.fn g caps]]:=⟨⟨hc,Yt⟩,Yt⟩
 have h1:=Z1v xs enc fl 171 [.cp [.fn g caps]] (fun x => !p x) hl hp hcs fun x hx=>Ze9 enc g caps p hl hp hc x (hg x hx);rw [<- Z96];refine Yp ok130 fun C hC=>?_;refine Zq ?_;refine Za ?_;refine Z5 rfl rfl rfl ?_;refine gd 7 ⟨?_⟩;refine Qe h1 ⟨Zc hp xs,hcs,Yt⟩ ?_;generalize (xs.any fun x => !p x)=b;cases b
 all_goals
  refine go ?_;exact Z8 rfl Yt rfl
abbrev RI:=Bool×Cu×Int×Int
def ruI (x:RI):List PV := [.val (.bool x.1),.vec (X5 (X7 x.2.1.1)) false,.vec (X5 (X7 x.2.1.2)) false,.val (.int .i64 x.2.2.1),.val (.int .i64 x.2.2.2)]
def toI (r:RU):RI:=(r.rev,r.cu,(r.tg:Int),(r.og:Int))
theorem Z97 (x:RI):X6 (ruI x):=⟨Yt,Z4 _,Z4 _,Yt,Yt,Yt⟩
theorem Z3Y (l:List RI):X2 (l.map ruI):=Zc Z97 l
noncomputable def X52 (n:Int) (l:List Pr) (S:List Nat) (s0:Nat) (rs:List RI) (nv gl:List Cu):List PV := [.val (.int .i64 n),XR l S,.vec (X5 (X7 s0)) false,.vec (rs.map ruI) false,.vec (nv.map cuC) false,.vec (gl.map cuC) false]
theorem Z79 (n:Int) (l:List Pr) (S:List Nat) (s0:Nat) (rs:List RI) (nv gl:List Cu):X6 (X52 n l S s0 rs nv gl):=⟨Yt,Zm _ _,Z4 _,Z3Y _,Z1n _,Z1n _,Yt⟩
theorem Zlg (t:PB) (S:List Nat):pbP t S=X52 t.n t.l S t.st (t.rs.map toI) t.nv t.gl:=by
 unfold pbP X52;rw [Y2z]; rfl
def X3d (rs:List RI) (nv gl:List Cu):List Cu:=rs.map (·.2.1)++nv++gl
theorem Z8c (n:Int) (l:List Pr) (S:List Nat) (s0:Nat) (rs:List RI) (nv gl:List Cu) (h1:rs.length<=10000) (h2:nv.length<=10000) (h3:gl.length<=10000):Xa Tryz.prog 66 [.agg (X52 n l S s0 rs nv gl)] (· = .vec ((X3d rs nv gl).map cuC) false):=by
 have hpp:=Z79 n l S s0 rs nv gl;have hrl:(rs.map ruI).length=rs.length:=by simp
 refine Yp ok66 fun C hC=>?_;refine Zq ?_;refine Za ?_;refine Z5 rfl rfl rfl ?_
 repeat' (first|refine Zb (Zw (k:=3) rfl 2 (by decide)) ?_|(first|refine st ?_|(apply B<;>intro hb<;>try cases hb)))
 refine ZC hC (fun (i:Nat)=>i<=rs.length) (fun i=>rs.length-i) 1 (fun i => [(1,.cp (X52 n l S s0 rs nv gl)),(3,.own 0),(7,.vec (rs.map ruI) false),(8,.val (.int .i64 (rs.length:Int))),(9,Yv i)])
  (fun i => [(0,⟨2,((rs.take i).map (·.2.1)).map cuC⟩)]) (Y0l _) 0 (Y0l _) (fun i=>i) (fun _ _=>rfl) Zp
  ⟨Qp hpp,⟨_,rfl,.own 0 (by decide)⟩,Qp (Z3Y _),⟨_,by rw [<- hrl]; rfl,.pure _ Yt⟩,Qp Yt,Yt⟩ ⟨Qs Yt,Yt⟩ ?_
 intro i hi;have hinc:IntKind.i64.wrap ((i:Int)+1)=((i+1:Nat):Int):=Y0v _ ⟨by omega,by omega⟩
 iterate 2 (first|refine st ?_|(apply B<;>intro hb<;>try cases hb))
 refine Zv rfl rfl rfl (fun hb=>?_) (fun hb=>?_)
 . have hil : i < rs.length := by have := Y0u hb; omega
   have htake:=Z11 hil;clear hb;refine go ?_;refine Qo (Zo (xs:=rs) (g:=ruI) rfl rfl i rfl hil rfl) ?_;generalize rs[i]=x at htake ⊢;refine gd 17 ⟨?_⟩
   refine ZH (Zt (k:=0) (m := [cuC x.2.1]) (fl:=true) rfl rfl rfl (fun c hc=>by rw [Y0g] at hc; subst hc; rfl) rfl (by
    show ((((rs.take i).map (·.2.1)).map cuC).length+1)*48<=_;rw [Y0f,Y0f,Y0o]
    omega)) rfl rfl ?_
   refine go ?_
   refine⟨i+1,mv 0 2,by omega,by omega,fun i hi=>absurd hi (YL i),Zu rfl,
    ⟨Qp hpp,⟨_,rfl,.own 0 (by decide)⟩,Qp (Z3Y _),Qp Yt,⟨_,by show some _=some _; rw [hinc],.pure _ Yt⟩,Yt⟩,
    ⟨⟨by decide,_,rfl,?_⟩,Yt⟩⟩
   show Xr _ _ ⟨2,((rs.take i).map (·.2.1)).map cuC ++ [cuC x.2.1]⟩ ⟨2,((rs.take (i+1)).map (·.2.1)).map cuC⟩;rw [htake,Y0r,Y0r];exact .same _ (by show X2 (((rs.take i).map (·.2.1)).map cuC ++ [x.2.1].map cuC); rw [<- Y0r]; exact Z0 _)
 . have hil : i = rs.length := by have := Ye hb; omega
   subst hil;clear hb;rw [Y0q]
   repeat' (first|refine Z3h [6] [(0,8)] [255,255,255,247,255,255,255,255] (by kernel_rfl) ?_|refine Z8B 22 ?_|(first|refine st ?_|(apply B<;>intro hb<;>try cases hb)))
   refine At.mk ?_
   refine Qr (Zt (k:=0) (m:=nv.map cuC) (fl:=false) rfl rfl rfl (fun c hc=>by obtain⟨x,_,rfl⟩:=Y0i.1 hc; rfl) rfl (by
    show (((rs.map (·.2.1)).map cuC).length+(nv.map cuC).length)*48<=_
    rw [Y0f,Y0f,Y0f];omega)) ?_
   have happ:((rs.map (·.2.1)).map cuC++nv.map cuC)++gl.map cuC=(X3d rs nv gl).map cuC:=by
    unfold X3d;rw [Y0r,Y0r]
   refine gd 25 ⟨?_⟩
   refine ZaW (k:=4) (m:=gl.map cuC) (fl:=false) (b:=⟨2,(rs.map (·.2.1)).map cuC++nv.map cuC⟩) rfl rfl rfl (fun c hc=>by obtain⟨x,_,rfl⟩:=Y0i.1 hc; rfl) rfl (by
    show ((((rs.map (·.2.1)).map cuC)++nv.map cuC).length+(gl.map cuC).length)*48<=_
    rw [Y0e,Y0f,Y0f,Y0f,Y0f];omega) (by show X2 (((rs.map (·.2.1)).map cuC++nv.map cuC)++gl.map cuC); rw [happ]; exact Z0 _) rfl rfl ?_
   refine go ?_;refine Z8 (r:=.vec (((rs.map (·.2.1)).map cuC++nv.map cuC)++gl.map cuC) false) rfl ?_ ?_
   . rw [happ]; exact Z0 _
   . rw [happ]
theorem ZbF (m:Nat) (hm:m<18446744073709551616) (p:Pr):Xa Tryz.prog 128 [.agg (prC p),.cp [.vec (X5 (X7 m)) false]] (· = .val (.bool (m.testBit p.1&&m.testBit p.2))):=by
 refine Yp ok128 fun C hC=>?_;refine Zq ?_;refine Za ?_;refine Z5 rfl rfl rfl ?_;refine gd 7 ⟨?_⟩;refine Qe (Z1o m hm p.1) ⟨Z2 _,Yt,Yt⟩ ?_;generalize m.testBit p.1=b;cases b
 . refine go ?_;exact Z8 rfl Yt rfl
 . refine gd 12 ⟨?_⟩;refine ZA rfl ?_;refine Qe (Z1o m hm p.2) ⟨Z2 _,Yt,Yt⟩ ?_;generalize m.testBit p.2=b;cases b
   all_goals
    refine go ?_;exact Z8 rfl Yt rfl
theorem ZbG (m:Nat) (hm:m<18446744073709551616) (x:RI):Xa Tryz.prog 129 [.agg (ruI x),.cp [.vec (X5 (X7 m)) false]] (· = .val (.bool (decide (0<=x.2.2.1)&&m.testBit x.2.2.1.toNat))):=by
 refine Yp ok129 fun C hC=>?_;refine Zq ?_;refine Za ?_;refine Z5 rfl rfl rfl ?_;refine gd 7 ⟨?_⟩;refine Qe (Z1Y m hm x.2.2.1) ⟨Z2 _,Yt,Yt⟩ ?_;generalize (decide (0<=x.2.2.1)&&m.testBit x.2.2.1.toNat)=b;cases b
 all_goals
  refine go ?_;exact Z8 rfl Yt rfl
theorem ZbH (m:Nat) (hm:m<18446744073709551616) (c:Cu) (hc:XA c):Xa Tryz.prog 131 [.agg (cuC c),.cp [.vec (X5 (X7 m)) false]] (· = .val (.bool (decide (c.1 ||| c.2 ||| m=m)))):=by
 refine Yp ok131 fun C hC=>?_;refine Zq ?_;refine Za ?_;refine Z5 rfl rfl rfl ?_;refine gd 8 ⟨?_⟩;refine Qd (Z1G c.1 c.2 hc.1 hc.2) ⟨Z2 _,Z2 _,Yt⟩ ?_;refine gd 10 ⟨?_⟩;refine Qd (Z1P (c.1 ||| c.2) m (Z1X hc.1 hc.2) hm) ⟨Z2 _,Z2 _,Yt⟩ ?_;generalize decide (c.1 ||| c.2 ||| m=m)=b;cases b
 all_goals
  refine go ?_;exact Z8 rfl Yt rfl
def knB (m:Nat) (l:List Pr) (s0:Nat) (rs:List RI) (cs:List Cu):Bool:=decide (s0 ||| m=m)&&(l.all (fun p=>m.testBit p.1&&m.testBit p.2)&&(rs.all (fun x=>decide (0<=x.2.2.1)&&m.testBit x.2.2.1.toNat)&&cs.all fun c=>decide (c.1 ||| c.2 ||| m=m)))
structure X6y (l:List Pr) (s0:Nat) (rs:List RI) (nv gl:List Cu):Prop where
 fl:l.length<=10000
 fs:s0<18446744073709551616
 fr:rs.length<=10000
 fv:nv.length<=10000
 fg:gl.length<=10000
 fc:∀ c∈X3d rs nv gl,XA c
theorem Zea (n:Nat) (h1:1<=n) (h2:n<=63) (l:List Pr) (S:List Nat) (s0:Nat) (rs:List RI) (nv gl:List Cu) (hf:X6y l s0 rs nv gl):Xa Tryz.prog 65 [.agg (X52 (n:Int) l S s0 rs nv gl)] (· = .val (.bool (knB (mkN n) l s0 rs (X3d rs nv gl)))):=by
 have hp1:2 ^ (n+1)<=2 ^ 64:=YX (by decide) (by omega);have hp0:=Y2U (n+1);have hmk:=Z5d h2;have hinc0:IntKind.i64.wrap ((n:Int)+1)=((n+1:Nat):Int):=Y0v _ ⟨by omega,by omega⟩;have hbw:=Z1Z (2 ^ (n+1)-1) (by omega) 0;rw [Z5e n h2] at hbw;have hw:=Z1P s0 (mkN n) hf.fs hmk;have hc1:X6 [PV.vec (X5 (X7 (mkN n))) false]:=⟨Z4 _,Yt⟩
 have hcc:X6 [PV.cp [PV.vec (X5 (X7 (mkN n))) false]]:=⟨hc1,Yt⟩
 have hl:=Z88 l S (by have:=hf.fl;omega);have ha1:=ZfY l prC false 128 [.cp [.vec (X5 (X7 (mkN n))) false]] _ (fun _=>rfl) (fun x=>Z4d x) hcc fun p _=>ZbF (mkN n) hmk p;have ha2:=Za4 rs ruI false 129 [.cp [.vec (X5 (X7 (mkN n))) false]] _ (fun _=>rfl) Z97 hcc fun p _=>ZbG (mkN n) hmk p;have hcb:=Z8c (n:Int) l S s0 rs nv gl hf.fr hf.fv hf.fg;have ha3:=ZfZ (X3d rs nv gl) cuC false 131 [.cp [.vec (X5 (X7 (mkN n))) false]] _ (fun _=>rfl) Zi hcc fun p hp=>ZbH (mkN n) hmk p (hf.fc p hp);have hpp:=Z79 (n:Int) l S s0 rs nv gl;refine Yp ok65 fun C hC=>?_;refine Zq ?_;refine Za ?_;refine Z5 rfl rfl rfl ?_;refine gd 6 ⟨?_⟩;refine Zh rfl rfl rfl hinc0 ?_;refine Qe (Z8a (n+1) (by omega) (by omega)) ⟨Yt,Yt⟩ ?_;refine Qe hbw ⟨Z2 _,Yt,Yt⟩ ?_;refine gd 9 ⟨?_⟩;refine Zb (Z1q (k:=3) rfl rfl hc1) ?_;refine gd 12 ⟨?_⟩;refine Qe hw ⟨Z2 _,Z2 _,Yt⟩ ?_;unfold knB;generalize decide (s0 ||| mkN n=mkN n)=b1;cases b1
 . refine go ?_;exact Z8 rfl Yt rfl
 refine gd 16 ⟨?_⟩;refine ZA rfl ?_;refine Qe hl ⟨Zm _ _,Yt⟩ ?_;refine gd 18 ⟨?_⟩;refine ZA rfl ?_;refine Qe ha1 ⟨Zl l,hcc,Yt⟩ ?_;generalize (l.all fun p=>(mkN n).testBit p.1&&(mkN n).testBit p.2)=b2;cases b2
 . refine go ?_;exact Z8 rfl Yt rfl
 refine gd 24 ⟨?_⟩;refine ZA rfl ?_;refine Qe ha2 ⟨Z3Y rs,hcc,Yt⟩ ?_;generalize (rs.all fun x=>decide (0<=x.2.2.1)&&(mkN n).testBit x.2.2.1.toNat)=b3;cases b3
 . refine go ?_;exact Z8 rfl Yt rfl
 refine gd 28 ⟨?_⟩;refine ZA rfl ?_;refine Qe hcb ⟨hpp,Yt⟩ ?_;refine gd 30 ⟨?_⟩;refine ZA rfl ?_;refine Qe ha3 ⟨Z0 _,hcc,Yt⟩ ?_;generalize ((X3d rs nv gl).all fun c=>decide (c.1 ||| c.2 ||| mkN n=mkN n))=b4;cases b4
 all_goals
  refine go ?_;exact Z8 rfl Yt rfl
def X5e (x:RI):Bool := !x.1||(decide (x.2.1.1=0)&&decide (x.2.1.2=0))
theorem ZbI (x:RI) (hc:XA x.2.1):Xa Tryz.prog 64 [.agg (ruI x)] (· = .val (.bool (X5e x))):=by
 obtain⟨rv,c,tg,og⟩:=x;have e1:=Z36 c.1 hc.1;have e2:=Z36 c.2 hc.2;unfold X5e;refine Yp ok64 fun C hC=>?_;refine Zq ?_;refine Za ?_;refine Z5 rfl rfl rfl ?_;cases rv
 . refine go ?_;exact Z8 rfl Yt rfl
 refine gd 10 ⟨?_⟩;refine ZA rfl ?_;refine Qe e1 ⟨Z2 _,Yt⟩ ?_;dsimp only;generalize decide (c.1=0)=b1;cases b1
 . refine go ?_;exact Z8 rfl Yt rfl
 refine gd 15 ⟨?_⟩;refine ZA rfl ?_;refine Qe e2 ⟨Z2 _,Yt⟩ ?_;generalize decide (c.2=0)=b2;cases b2
 all_goals
  refine go ?_;exact Z8 rfl Yt rfl
theorem Zeb (n:Int) (l:List Pr) (S:List Nat) (s0:Nat) (rs:List RI) (nv gl:List Cu) (h64:∀ c∈nv,XA c) (s:Nat) (hs:s<18446744073709551616):Xa Tryz.prog 69 [.agg (X52 n l S s0 rs nv gl),XH s] (· = .val (.bool (!soC nv (clo l s)))):=by
 have hc:=Z2k l S s hs;have hso:=Z5x nv false (clo l s) h64 (Z7W _ _);refine Yp ok69 fun C hC=>?_;refine Zq ?_;refine Za ?_;refine Z5 rfl rfl rfl ?_;refine Z5 rfl rfl rfl ?_;refine gd 14 ⟨?_⟩;refine Z3J rfl ?_;refine Qd hc ⟨Zm _ _,Z2 _,Yt⟩ ?_;refine gd 15 ⟨?_⟩;refine Z3J rfl ?_;refine Qd hso ⟨Z1n _,Z2 _,Yt⟩ ?_;generalize soC nv (clo l s)=b;cases b
 all_goals
  refine go ?_;exact Z8 rfl Yt rfl
noncomputable def X6c (n:Int) (l:List Pr) (s0:Nat) (rs:List RI) (nv gl:List Cu):Int :=
 if n<1 \/ 63<n then 1 else
 if 64<rs.length \/ 2000<nv.length \/ 2000<gl.length then 3 else
 if knB (mkN n.toNat) l s0 rs (X3d rs nv gl)=false then 4 else
 if (X3d rs nv gl).any emC=true \/ rs.all X5e=false then 6 else
 if soC nv (clo l s0)=true then 7 else 0
theorem ZbJ (n:Int) (l:List Pr) (S:List Nat) (s0:Nat) (rs:List RI) (nv gl:List Cu) (hf:X6y l s0 rs nv gl):Xa Tryz.prog 26 [.agg (X52 n l S s0 rs nv gl)] (· = .val (.int .i64 (X6c n l s0 rs nv gl))):=by
 have hpp:=Z79 n l S s0 rs nv gl;have hr1:(rs.map ruI).length=rs.length:=by simp
 have hr2:(nv.map cuC).length=nv.length:=by simp
 have hr3:(gl.map cuC).length=gl.length:=by simp
 have hcb:=Z8c n l S s0 rs nv gl hf.fr hf.fv hf.fg;have hn64:∀ c∈nv,XA c:=fun c hc=>hf.fc c (Y0h.2 (.inl (Y0h.2 (.inr hc))));have hr64:∀ x∈rs,XA x.2.1:=fun x hx=>hf.fc _ (Y0h.2 (.inl (Y0h.2 (.inl (Y0i.2 ⟨x,hx,rfl⟩)))));have hce:=Z1v (X3d rs nv gl) cuC false 67 [] emC (fun _=>rfl) Zi Yt fun c hc=>Z1k c (hf.fc c hc);have har:=Za4 rs ruI false 64 [] X5e (fun _=>rfl) Z97 Yt fun x hx=>ZbI x (hr64 x hx);have hgo:=Zeb n l S s0 rs nv gl hn64 s0 hf.fs;unfold X6c;refine Yp ok26 fun C hC=>?_;refine Zq ?_;refine Za ?_;refine Z5 rfl rfl rfl ?_;refine gd 11 ⟨?_⟩;refine ZA rfl ?_;by_cases h1:n<1
 . rw [Y5 (.inl h1)];refine Qo (Qy rfl h1) ?_;refine go ?_;exact Z8 rfl Yt rfl
 refine Qo (Qz rfl h1) ?_;refine gd 16 ⟨?_⟩;refine ZA rfl ?_;by_cases h2:63<n
 . rw [Y5 (.inr h2)];refine Qo (Qy rfl h2) ?_;refine go ?_;exact Z8 rfl Yt rfl
 refine Qo (Qz rfl h2) ?_;rw [Y6 (show ¬ (n<1 \/ 63<n) by omega)];refine gd 22 ⟨?_⟩;by_cases h3:64<rs.length
 . rw [Y5 (.inl h3)];refine Qo (Qy rfl (by rw [hr1];omega)) ?_;refine go ?_;exact Z8 rfl Yt rfl
 refine Qo (Qz rfl (by rw [hr1];omega)) ?_;refine gd 27 ⟨?_⟩;refine ZA rfl ?_;by_cases h4:2000<nv.length
 . rw [Y5 (.inr (.inl h4))];refine Qo (Qy rfl (by rw [hr2];omega)) ?_;refine go ?_;exact Z8 rfl Yt rfl
 refine Qo (Qz rfl (by rw [hr2];omega)) ?_;refine gd 33 ⟨?_⟩;refine ZA rfl ?_;by_cases h5:2000<gl.length
 . rw [Y5 (.inr (.inr h5))];refine Qo (Qy rfl (by rw [hr3];omega)) ?_;refine go ?_;exact Z8 rfl Yt rfl
 refine Qo (Qz rfl (by rw [hr3];omega)) ?_;rw [Y6 (show ¬ (64<rs.length \/ 2000<nv.length \/ 2000<gl.length) by omega)];obtain⟨k,rfl⟩:∃ k:Nat,n=(k:Int):=⟨n.toNat,by omega⟩
 have hkn:=Zea k (by omega) (by omega) l S s0 rs nv gl hf;rw [Y11];refine gd 37 ⟨?_⟩;refine Qe hkn ⟨hpp,Yt⟩ ?_;generalize knB (mkN k) l s0 rs (X3d rs nv gl)=b1;cases b1
 . rw [Y5 rfl];refine go ?_;exact Z8 rfl Yt rfl
 rw [Y6 (by decide)];refine gd 41 ⟨?_⟩;refine Qe hcb ⟨hpp,Yt⟩ ?_;refine Qe hce ⟨Z0 _,Yt,Yt⟩ ?_;generalize (X3d rs nv gl).any emC=b2;cases b2
 case true =>
  rw [Y5 (.inl rfl)];refine go ?_;exact Z8 rfl Yt rfl
 refine gd 47 ⟨?_⟩;refine ZA rfl ?_;refine Qe har ⟨Z3Y rs,Yt,Yt⟩ ?_;generalize rs.all X5e=b3;cases b3
 . rw [Y5 (.inr rfl)];refine go ?_;exact Z8 rfl Yt rfl
 rw [Y6 (by simp)];refine gd 54 ⟨?_⟩;refine Qe hgo ⟨hpp,Z2 _,Yt⟩ ?_;generalize soC nv (clo l s0)=b4;cases b4
 . rw [Y6 (by decide)];refine go ?_;exact Z8 rfl Yt rfl
 . rw [Y5 rfl];refine go ?_;exact Z8 rfl Yt rfl
theorem Zjr {t:PB} (h:Xz t):X6y t.l t.st (t.rs.map toI) t.nv t.gl:=by
 have h1:=h.rl;have h2:=h.nl;have h3:=h.gk;refine⟨Y03 (ZcY h.good) (by decide),?_,by rw [Y0f]; omega,by omega,by omega,fun c hc=>?_⟩
 . have h1 : t.st <= mkN t.n := by rw [<- h.st]; exact YZ
   have:=Z5d h.n.2;omega
 . unfold X3d at hc;rw [Y0h,Y0h,Y2z,Y0i] at hc;rcases hc with (⟨x,hx,rfl⟩|hc)|hc
   . exact (h.rs x hx).cu.lt h.n.2
   . exact h.nv64 c hc
   . exact h.gl64 c hc
theorem Zkx {n:Nat} {c:Cu} (h:InC n c):c.1 ||| c.2 ||| mkN n=mkN n:=by rw [Y3t,h.n,h.y]
theorem ZcZ {t:PB} (h:Xz t):∀ c∈X3d (t.rs.map toI) t.nv t.gl,InC t.n c:=fun c hc=>by
 unfold X3d at hc;rw [Y0h,Y0h,Y2z,Y0i] at hc;rcases hc with (⟨x,hx,rfl⟩|hc)|hc
 . exact (h.rs x hx).cu
 . exact (h.nv c hc).1
 . exact (h.gl c hc).1
theorem Zky {t:PB} (h:Xz t):X6c t.n t.l t.st (t.rs.map toI) t.nv t.gl=0:=by
 have hn:=h.n;have h1:=h.rl;have h2:=h.nl;have h3:=h.gk;unfold X6c;rw [Y6 (by omega),Y6 (by rw [Y0f];omega),Y11];have hk:knB (mkN t.n) t.l t.st (t.rs.map toI) (X3d (t.rs.map toI) t.nv t.gl)=true:=by
  unfold knB;rw [Yw h.st,Y1j,Y0k,Y0k,YI,YI,YI];refine⟨fun p hp=>?_,fun x hx=>?_,fun c hc=>Yw (Zkx (ZcZ h c hc))⟩
  . have ha := h.lk p hp;have hb:=h.good.role p hp;rw [Z2o,Z2o,Yw (show 1<=p.1 by omega),Yw ha.1,Yw (show 1<=p.2 by omega),Yw ha.2.1]; rfl
  . obtain ⟨r, hr, rfl⟩ := Y0i.1 hx;have ht:=(h.rs r hr).tg;show (decide (0<=(r.tg:Int))&&(mkN t.n).testBit (r.tg:Int).toNat)=true;rw [Y11,Yw (Y1U _),Z2o,Yw ht.1,Yw ht.2.1]; rfl
 rw [hk,Y6 (by decide)];have he:(X3d (t.rs.map toI) t.nv t.gl).any emC=false:=YB.2 fun h0=>by
  obtain⟨c,hc,h1⟩:=Y01.1 h0;rw [(ZcZ h c hc).e] at h1; cases h1
 have hr:(t.rs.map toI).all X5e=true:=by
  rw [YI];intro x hx;obtain⟨r,hr,rfl⟩:=Y0i.1 hx;unfold X5e;show (!r.rev||(decide (r.cu.1=0)&&decide (r.cu.2=0)))=true;cases hv:r.rev with
  | false=>rfl
  | true=>rw [(h.rs r hr).rv hv]; rfl
 rw [he,hr,Y6 (by simp),h.sg,Y6 (by decide)]
theorem Z2w {t:PB} (h:Xz t) (S:List Nat):Xa Tryz.prog 26 [.agg (pbP t S)] (· = .val (.int .i64 0)):=by
 have:=ZbJ t.n t.l S t.st (t.rs.map toI) t.nv t.gl (Zjr h)
 rwa [Zky h,<- Zlg] at this
noncomputable def X11 (t:PB) (l:List Cu):List Cu:=l.flatMap (exL t.l t.n)
def X1e (bad l:List Cu):List Cu:=l.flatMap (X34 bad)
theorem Z5i {α:Type} {f:α->List Cu} {k:Nat}:∀ {l:List α},(∀ x∈l,(f x).length<=k)->(l.flatMap f).length<=k*l.length
 | [],_=>by simp
 | x :: l, h => by
   rw [Y1Q,Y0e,Y04,Nat.mul_succ];have h1:=h x (Y0t ..);have h2:=Z5i (l:=l) fun y hy=>h y (YD _ hy);omega
theorem Z5D {t:PB} (h:Xz t) (l:List Cu) (hl:∀ c∈l,InC t.n c/\InM 62 c):(X11 t l).length<=64*l.length:=Z5i fun c hc=>(Z8b h (hl c hc).2).2.2.1
theorem ZbK {l:List Cu} {c:Cu} (hl:∀ b∈l,InM 62 b) (hc:InM 62 c):Dis (X34 l c)/\(∀ c'∈X34 l c,InM 62 c')/\(X34 l c).length<=64:=by
 have h1:=ZfV (m:=62) (by decide) hl hc l.length;have he:X3G l c l.length=X34 l c:=by unfold X3G X34; rw [Y0q]
 rw [he] at h1;exact⟨h1.1,h1.2,Zbz h1.1 h1.2 (by decide)⟩
theorem Z5E {bad:List Cu} (hb:∀ b∈bad,InM 62 b) (l:List Cu) (hl:∀ c∈l,InM 62 c):(X1e bad l).length<=64*l.length:=Z5i fun c hc=>(ZbK hb (hl c hc)).2.2
theorem Z5V {t:PB} (h:Xz t) (S:List Nat) (l:List Cu) (fl:Bool) (hl:∀ c∈l,InC t.n c/\InM 62 c) (hlen:l.length<=10000):Xa Tryz.prog 156 [.agg (pbP t S),.vec (l.map cuC) fl] (· = .tup [.vec ((X11 t l).map cuC) false,.val (.int .i64 0)]):=by
 have hnl:(l.map cuC).length=l.length:=by simp
 have hpp:=ZD t S;refine Yp ok156 fun C hC=>?_;refine Zq ?_;refine Za ?_;refine Z5 rfl rfl rfl ?_
 repeat' (first|refine Zb (Zw (k:=6) rfl 2 (by decide)) ?_|(first|refine st ?_|(apply B<;>intro hb<;>try cases hb)))
 refine ZC hC (fun (i:Nat)=>i<=l.length) (fun i=>l.length-i) 1 (fun i => [(2,.cp (pbP t S)),(6,.own 0),(11,.vec (l.map cuC) fl),(12,.val (.int .i64 (l.length:Int))),(13,Yv i)])
  (fun i => [(0,⟨2,(X11 t (l.take i)).map cuC⟩)]) (Y0l _) 0 (Y0l _) (fun i=>i) (fun _ _=>rfl) Zp
  ⟨Qp hpp,⟨_,rfl,.own 0 (by decide)⟩,Qp (Z0 _),⟨_,by rw [<- hnl]; rfl,.pure _ Yt⟩,Qp Yt,Yt⟩ ⟨Qs Yt,Yt⟩ ?_
 intro i hi;have hinc:IntKind.i64.wrap ((i:Int)+1)=((i+1:Nat):Int):=Y0v _ ⟨by omega,by omega⟩
 iterate 2 (first|refine st ?_|(apply B<;>intro hb<;>try cases hb))
 refine Zv rfl rfl rfl (fun hb=>?_) (fun hb=>?_)
 . have hil : i < l.length := by have := Y0u hb; omega
   have htake:=Z11 hil;clear hb;have hci:=hl _ (Y0j hil);have hacc:=Z5D h (l.take i) (fun c hc=>hl c (YM hc));rw [Y0o] at hacc;refine go ?_;refine Qo (Zo (xs:=l) (g:=cuC) rfl rfl i rfl hil rfl) ?_;generalize l[i]=x at htake hci ⊢;have hone:=(Z8b h hci.2).2.2.1;have hsn:X11 t (l.take (i+1))=X11 t (l.take i)++exL t.l t.n x:=by rw [htake]; unfold X11; rw [Y1H]; simp
   generalize X11 t (l.take i)=acc at hacc hsn ⊢;refine gd 20 ⟨?_⟩;refine Qe (Z5f h S x hci.1 hci.2) ⟨hpp,Zx _,Yt⟩ ?_;refine gd 28 ⟨?_⟩
   refine ZH (Zt (k:=0) (m:=(exL t.l t.n x).map cuC) (fl:=false) rfl rfl rfl (fun c hc=>by obtain⟨y,_,rfl⟩:=Y0i.1 hc; rfl) rfl (by
    show ((acc.map cuC).length+((exL t.l t.n x).map cuC).length)*48<=_;rw [Y0f,Y0f]
    omega)) rfl rfl ?_
   refine go ?_
   refine⟨i+1,mv 0 2,by omega,by omega,fun i hi=>absurd hi (YL i),Zu rfl,
    ⟨Qp hpp,⟨_,rfl,.own 0 (by decide)⟩,Qp (Z0 _),Qp Yt,⟨_,by show some _=some _; rw [hinc],.pure _ Yt⟩,Yt⟩,
    ⟨⟨by decide,_,rfl,?_⟩,Yt⟩⟩
   show Xr _ _ ⟨2,acc.map cuC++(exL t.l t.n x).map cuC⟩ ⟨2,(X11 t (l.take (i+1))).map cuC⟩;rw [hsn,Y0r];exact .same _ (by rw [<- Y0r]; exact Z0 _)
 . have hil : i = l.length := by have := Ye hb; omega
   subst hil;clear hb;rw [Y0q]
   repeat' (first|refine Zb (Zn (k:=6) rfl rfl (Z0 _)) ?_|(first|refine st ?_|(apply B<;>intro hb<;>try cases hb)))
   exact Z8 rfl ⟨Z0 _,Yt,Yt⟩ rfl
theorem Z7a (bad l:List Cu) (f2 fl:Bool) (hb0:∀ b∈bad,InM 62 b) (hbl:bad.length<=100000) (hl:∀ c∈l,InM 62 c) (hlen:l.length<=10000):Xa Tryz.prog 157 [.vec (l.map cuC) fl,.vec (bad.map cuC) f2] (· = .tup [.vec ((X1e bad l).map cuC) false,.val (.int .i64 0)]):=by
 have hnl:(l.map cuC).length=l.length:=by simp
 refine Yp ok157 fun C hC=>?_
 repeat' (first|refine Zb (Zw (k:=6) rfl 2 (by decide)) ?_|(first|refine st ?_|(apply B<;>intro hb<;>try cases hb)))
 refine ZC hC (fun (i:Nat)=>i<=l.length) (fun i=>l.length-i) 1 (fun i => [(1,.vec (bad.map cuC) f2),(6,.own 0),(11,.vec (l.map cuC) fl),(12,.val (.int .i64 (l.length:Int))),(13,Yv i)])
  (fun i => [(0,⟨2,(X1e bad (l.take i)).map cuC⟩)]) (Y0l _) 0 (Y0l _) (fun i=>i) (fun _ _=>rfl) Zp
  ⟨Qp (Z0 _),⟨_,rfl,.own 0 (by decide)⟩,Qp (Z0 _),⟨_,by rw [<- hnl]; rfl,.pure _ Yt⟩,Qp Yt,Yt⟩ ⟨Qs Yt,Yt⟩ ?_
 intro i hi;have hinc:IntKind.i64.wrap ((i:Int)+1)=((i+1:Nat):Int):=Y0v _ ⟨by omega,by omega⟩
 iterate 2 (first|refine st ?_|(apply B<;>intro hb<;>try cases hb))
 refine Zv rfl rfl rfl (fun hb=>?_) (fun hb=>?_)
 . have hil : i < l.length := by have := Y0u hb; omega
   have htake:=Z11 hil;clear hb;have hci:=hl _ (Y0j hil);have hacc:=Z5E hb0 (l.take i) (fun c hc=>hl c (YM hc));rw [Y0o] at hacc;refine go ?_;refine Qo (Zo (xs:=l) (g:=cuC) rfl rfl i rfl hil rfl) ?_;generalize l[i]=x at htake hci ⊢;have hone:=(ZbK hb0 hci).2.2;have hsn:X1e bad (l.take (i+1))=X1e bad (l.take i)++X34 bad x:=by rw [htake]; unfold X1e; rw [Y1H]; simp
   generalize X1e bad (l.take i)=acc at hacc hsn ⊢;refine gd 20 ⟨?_⟩;refine Qe (Ze5 bad f2 x 62 (by decide) hb0 hci hbl) ⟨Zx _,Z0 _,Yt⟩ ?_;refine gd 28 ⟨?_⟩
   refine ZH (Zt (k:=0) (m:=(X34 bad x).map cuC) (fl:=false) rfl rfl rfl (fun c hc=>by obtain⟨y,_,rfl⟩:=Y0i.1 hc; rfl) rfl (by
    show ((acc.map cuC).length+((X34 bad x).map cuC).length)*48<=_;rw [Y0f,Y0f]
    omega)) rfl rfl ?_
   refine go ?_
   refine⟨i+1,mv 0 2,by omega,by omega,fun i hi=>absurd hi (YL i),Zu rfl,
    ⟨Qp (Z0 _),⟨_,rfl,.own 0 (by decide)⟩,Qp (Z0 _),Qp Yt,⟨_,by show some _=some _; rw [hinc],.pure _ Yt⟩,Yt⟩,
    ⟨⟨by decide,_,rfl,?_⟩,Yt⟩⟩
   show Xr _ _ ⟨2,acc.map cuC++(X34 bad x).map cuC⟩ ⟨2,(X1e bad (l.take (i+1))).map cuC⟩;rw [hsn,Y0r];exact .same _ (by rw [<- Y0r]; exact Z0 _)
 . have hil : i = l.length := by have := Ye hb; omega
   subst hil;clear hb;rw [Y0q]
   repeat' (first|refine Zb (Zn (k:=6) rfl rfl (Z0 _)) ?_|(first|refine st ?_|(apply B<;>intro hb<;>try cases hb)))
   exact Z8 rfl ⟨Z0 _,Yt,Yt⟩ rfl
theorem X2M {a:Nat} (h:a ||| 62=62):a % 2=0/\a<=62:=by
 have h1:a<=62:=by rw [<- h]; exact YZ
 refine⟨?_,h1⟩;have h2:a.testBit 0=false:=YB.2 fun h0=>by
  have:=Xg.1 h 0 h0;cases this
 rw [Y2s] at h2;have:=Y1l a (show 0<2 by decide);have h3:¬ a % 2=1:=Ye h2;omega
theorem ZhU {l:List Cu} (hn:l.Nodup) (hl:∀ c∈l,InM 62 c):l.length<=1024:=by
 have hnd:(l.map fun c=>c.1 / 2*32+c.2 / 2).Nodup:=by
  rw [Y1f,Y1o];refine Y1x (fun {a b} ha hb hab e=>hab ?_) (Y1f.1 hn);have a1:=X2M (hl a ha).1;have a2:=X2M (hl a ha).2;have b1:=X2M (hl b hb).1;have b2:=X2M (hl b hb).2;exact Y4f (by omega) (by omega)
 have:=Z2M 1024 _ hnd fun x hx=>by
  obtain⟨c,hc,rfl⟩:=Y0i.1 hx;have a1:=X2M (hl c hc).1;have a2:=X2M (hl c hc).2;show c.1 / 2*32+c.2 / 2<1024;omega
 rwa [Y0f] at this
theorem Z3Z {l:List Cu} (hl:∀ c∈l,InM 62 c):∀ c∈l,XA c:=fun c hc=>(hl c hc).lt (by decide)
theorem X4T {l:List Cu} (hl:∀ c∈l,InM 62 c):(∀ c∈X36 l,InM 62 c)/\(X36 l).length<=1024:=by
 have h1:∀ c∈X36 l,InM 62 c:=fun c hc=>hl c (Z2R hc).1;exact⟨h1,ZhU (Z5B (Z3Z hl)) h1⟩
theorem Z40 (l:List Cu) (fl:Bool) (hl:∀ c∈l,InM 62 c) (hlen:l.length<=1000000):Xa Tryz.prog 158 [.vec (l.map cuC) fl] (· = .tup [.vec ((X36 l).map cuC) false,.val (.int .i64 0)]):=by
 have h1:=(X4T hl).2;refine Yp ok158 fun C hC=>?_;refine gd 5 ⟨?_⟩;refine Qe (Z73 l fl (Z3Z hl) hlen) ⟨Z0 _,Yt⟩ ?_;refine gd 8 ⟨?_⟩;refine Qo (Z7 (v:=false) rfl (by simp;omega)) ?_;refine go ?_;exact Z8 rfl ⟨Z0 _,Yt,Yt⟩ rfl
noncomputable def X1m (t:PB):List Cu:=X36 (X11 t t.nv)
noncomputable def X4Y (t:PB):List Cu:=X36 (X1e (X1m t) (X11 t t.gl))
theorem Z2l {t:PB} (h:Xz t) {l:List Cu} (hl:∀ c∈l,InC t.n c/\InM 62 c):∀ c∈X11 t l,InM 62 c:=fun c hc=>by
 obtain⟨x,hx,hc⟩:=Y1d.1 hc;exact (Z8b h (hl x hx).2).2.2.2 c hc
theorem Z39 {bad l:List Cu} (hb:∀ b∈bad,InM 62 b) (hl:∀ c∈l,InM 62 c):∀ c∈X1e bad l,InM 62 c:=fun c hc=>by
 obtain⟨x,hx,hc⟩:=Y1d.1 hc;exact (ZbK hb (hl x hx)).2.1 c hc
theorem Z7b {t:PB} (h:Xz t):(∀ c∈X1m t,InM 62 c)/\(X1m t).length<=1024:=X4T (Z2l h h.nv)
theorem Zkz {t:PB} (h:Xz t):(∀ c∈X4Y t,InM 62 c)/\(X4Y t).length<=1024:=X4T (Z39 (Z7b h).1 (Z2l h h.gl))
theorem Z98 {α:Type} (f:α->List Cu) (l:List α) (S:Nat):soC (l.flatMap f) S=l.any fun x=>soC (f x) S:=by unfold soC; exact List.any_flatMap
theorem Za5 {t:PB} (h:Xz t) {l:List Cu} (hl:∀ c∈l,InC t.n c/\InM 62 c) {S:Nat} (hS:InS t S):soC (X11 t l) S=soC l (clo t.l S):=by
 unfold X11;rw [Z98];unfold soC;rw [YO,Y01,Y01];exact Y3T fun c=>Y2y fun hc=>by rw [<- ZiI h.good.small h.n.2 (hl c hc).1 hS]; rfl
theorem Za6 {bad:List Cu} (hb:∀ b∈bad,InM 62 b) (l:List Cu) (S:Nat):soC (X1e bad l) S=(soC l S && !soC bad S):=by
 unfold X1e;rw [Z98]
 induction l with
 | nil=>rfl
 | cons c l ih =>
   rw [Y3j,ih,Zjo (Z3Z hb),Z3q];cases hoC c S<;>cases soC bad S<;>cases soC l S<;>rfl
theorem Zg0 {t:PB} (h:Xz t) {S:Nat} (hS:InS t S):soC (X1m t) S = !Xq t S:=by
 unfold X1m Xq;rw [Z91 (Z3Z (Z2l h h.nv)),Za5 h h.nv hS,Bool.not_not]
theorem ZkA {t:PB} (h:Xz t) {S:Nat} (hS:InS t S):soC (X4Y t) S=(Xq t S&&XB t S):=by
 unfold X4Y;rw [Z91 (Z3Z (Z39 (Z7b h).1 (Z2l h h.gl))),Za6 (Z7b h).1,Za5 h h.gl hS,Zg0 h hS,Bool.not_not,Bool.and_comm]
 rfl
theorem Zd0 {t:PB} (h:Xz t) (S:List Nat):Xa Tryz.prog 153 [.agg (pbP t S)] (· = .tup [.vec ((X1m t).map cuC) false,.val (.int .i64 0)]):=by
 have hpp:=ZD t S;have hl:=Z5D h t.nv h.nv;have hnl:=h.nl;refine Yp ok153 fun C hC=>?_;refine Zq ?_;refine Za ?_;refine Z5 rfl rfl rfl ?_;refine gd 8 ⟨?_⟩;refine Qe (Z2w h S) ⟨hpp,Yt⟩ ?_;refine gd 16 ⟨?_⟩;refine Qe (Z5V h S t.nv false h.nv (by omega)) ⟨hpp,Z0 _,Yt⟩ ?_;refine gd 23 ⟨?_⟩;refine Qe (Z40 (X11 t t.nv) false (Z2l h h.nv) (by omega)) ⟨Z0 _,Yt⟩ ?_;refine go ?_;exact Z8 rfl ⟨Z0 _,Yt,Yt⟩ rfl
theorem Za7 {t:PB} (h:Xz t) (S:List Nat):Xa Tryz.prog 118 [.agg (pbP t S)] (· = .tup [.vec ((X4Y t).map cuC) false,.val (.int .i64 0)]):=by
 have hpp:=ZD t S;have hl:=Z5D h t.gl h.gl;have hnl:=h.gk;have hbi:=Z7b h;have hl2:=Z5E hbi.1 (X11 t t.gl) (Z2l h h.gl);refine Yp ok118 fun C hC=>?_;refine Zq ?_;refine Za ?_;refine Z5 rfl rfl rfl ?_;refine gd 9 ⟨?_⟩;refine Qe (Zd0 h S) ⟨hpp,Yt⟩ ?_;refine gd 19 ⟨?_⟩;refine Qe (Z5V h S t.gl false h.gl (by omega)) ⟨hpp,Z0 _,Yt⟩ ?_;refine gd 28 ⟨?_⟩;refine Qe (Z7a (X1m t) (X11 t t.gl) false false hbi.1 (by omega) (Z2l h h.gl) (by omega)) ⟨Z0 _,Z0 _,Yt⟩ ?_;refine gd 35 ⟨?_⟩;refine Qe (Z40 (X1e (X1m t) (X11 t t.gl)) false (Z39 hbi.1 (Z2l h h.gl)) (by omega)) ⟨Z0 _,Yt⟩ ?_;refine go ?_;exact Z8 rfl ⟨Z0 _,Yt,Yt⟩ rfl
theorem Z3s {N:Nat} (hN:N<18446744073709551616) {i:Nat} (hi:i<64):X1b N (i:Int)=Xe N (2 ^ i):=by
 refine YF fun j=>?_;rw [Z3B hN,ZF hN (ZV hi),YK];by_cases h:j=i
 . subst h; simp
 . rw [Yw h,Y0w fun h'=>h h'.symm]; rfl
theorem Z5W (c:Cu) (hc:XA c) (tg:Nat) (ht:tg<64) (rev:Bool):Xa Tryz.prog 155 [cuP c,.val (.int .i64 (tg:Int)),.val (.bool rev)] (· = .tup [cuP (X2I c tg rev),.val (.bool (X45 c tg rev))]):=by
 have hw1:=Z1Z c.1 hc.1 (tg:Int);have hw2:=Z1Z c.2 hc.2 (tg:Int);rw [Z3s hc.1 ht] at hw1;rw [Z3s hc.2 ht] at hw2;have hh1:=Z1o c.1 hc.1 tg;have hh2:=Z1o c.2 hc.2 tg;refine Yp ok155 fun C hC=>?_;refine Zq ?_;refine Za ?_;refine Z5 rfl rfl rfl ?_;cases rev
 . refine gd 24 ⟨?_⟩;refine Qd hw1 ⟨Z2 _,Yt,Yt⟩ ?_;refine gd 31 ⟨?_⟩;refine Qd hh2 ⟨Z2 _,Yt,Yt⟩ ?_;unfold X45;rw [Y6 (by decide)];generalize c.2.testBit tg=b;cases b
   all_goals
    refine go ?_;exact Z8 (r:=.tup [cuP (X2I c tg false),.val (.bool _)]) rfl ⟨Zx _,Yt,Yt⟩ rfl
 . refine gd 14 ⟨?_⟩;refine Qd hw2 ⟨Z2 _,Yt,Yt⟩ ?_;refine gd 19 ⟨?_⟩;refine Qd hh1 ⟨Z2 _,Yt,Yt⟩ ?_;unfold X45;rw [Y5 rfl];generalize c.1.testBit tg=b;cases b
   all_goals
    refine go ?_;exact Z8 (r:=.tup [cuP (X2I c tg true),.val (.bool _)]) rfl ⟨Zx _,Yt,Yt⟩ rfl
def X4u (tg:Nat) (rev:Bool) (b:Cu):List Cu:=if X45 b tg rev then [X2I b tg rev] else []
def X40 (bad:List Cu) (tg:Nat) (rev:Bool) (i:Nat):List Cu:=bad++(bad.take i).flatMap (X4u tg rev)
theorem Zg1 (bad:List Cu) (tg:Nat) (rev:Bool) {i:Nat} (hi:i<bad.length):X40 bad tg rev (i+1)=X40 bad tg rev i++X4u tg rev bad[i]:=by
 unfold X40;rw [Z11 hi,Y1H,<- YU];simp
theorem ZhV (tg:Nat) (rev:Bool) (b:Cu):(X4u tg rev b).length<=1:=by unfold X4u; split<;>simp
theorem Zd1 (bad:List Cu) (tg:Nat) (rev:Bool) (i:Nat):(X40 bad tg rev i).length<=2*bad.length:=by
 unfold X40;rw [Y0e];have:=Z5i (l:=bad.take i) (f:=X4u tg rev) (k:=1) fun x _=>ZhV tg rev x;rw [Y0o] at this;omega
noncomputable def X4v (t:PB) (r:RU):List Cu:=X40 (X1m t) r.tg r.rev (X1m t).length
noncomputable def ifR (t:PB) (r:RU):List PV := [.vec ((exL t.l t.n r.cu).map cuC) false]
noncomputable def afR (t:PB) (r:RU):List PV := [.vec ((X4v t r).map cuC) false]
theorem Z4k (t:PB) (r:RU):X6 (ifR t r):=⟨Z0 _,Yt⟩
theorem Z4l (t:PB) (r:RU):X6 (afR t r):=⟨Z0 _,Yt⟩
noncomputable def srC (t:PB) (S:List Nat):List PV := [.val (.int .i64 (t.n:Int)),XR t.l S,.vec (X5 (X7 t.st)) false,.vec (t.rs.map ruP) false,.vec (t.nv.map cuC) false,.vec (t.gl.map cuC) false,.vec ((X1m t).map cuC) false,.vec (t.rs.map (ifR t)) false,.vec (t.rs.map (afR t)) false]
theorem Z5j (t:PB) (S:List Nat):X6 (srC t S):=⟨Yt,Zm _ _,Z4 _,Zs _,Z0 _,Z0 _,Z0 _,Zc (Z4k t) _,Zc (Z4l t) _,Yt⟩
theorem Za8 {t:PB} (h:Xz t) (S:List Nat):Xa Tryz.prog 117 [.agg (pbP t S)] (· = .tup [.cp (srC t S),.val (.int .i64 0)]):=by
 have hpp:=ZD t S;have hbi:=Z7b h;have hrl:=h.rl;have hnr:(t.rs.map ruP).length=t.rs.length:=by simp
 have hnb:((X1m t).map cuC).length=(X1m t).length:=by simp
 refine Yp ok117 fun C hC=>?_;refine Zq ?_;refine Za ?_;refine Z5 rfl rfl rfl ?_;refine gd 18 ⟨?_⟩;refine Qe (Zd0 h S) ⟨hpp,Yt⟩ ?_;refine gd 28 ⟨?_⟩;refine Zb (ZP (id:=0) (i0:=0) (j0:=7) rfl (Y0 rfl) (Y0 rfl) rfl 1 (by decide) (by decide)) ?_;refine Zb (ZP (id:=0) (i0:=0) (j0:=8) rfl (Y0 rfl) (Y0 rfl) rfl 1 (by decide) (by decide)) ?_;refine go ?_;refine ZC hC (fun (i:Nat)=>i<=t.rs.length) (fun i=>t.rs.length-i) 3 (fun i => [(1,.cp (pbP t S)),(4,.vec ((X1m t).map cuC) false),(6,.ptr 0 0 0),(29,.vec (t.rs.map ruP) false),(30,.val (.int .i64 (t.rs.length:Int))),(31,Yv i)])
  (fun i => [(0,⟨9,[[.val (.int .i64 (t.n:Int)),XR t.l S,.vec (X5 (X7 t.st)) false,.vec (t.rs.map ruP) false,.vec (t.nv.map cuC) false,.vec (t.gl.map cuC) false,.vec ((X1m t).map cuC) false,.own 1,.own 2]]⟩),(1,⟨1,(t.rs.take i).map (ifR t)⟩),(2,⟨1,(t.rs.take i).map (afR t)⟩)]) (Y0l _) 0 (Y0l _) (fun i=>i) (fun _ _=>rfl) Zp
  ⟨Qp hpp,Qp (Z0 _),Qt 0 0 0,Qp (Zs _),⟨_,by rw [<- hnr]; rfl,.pure _ Yt⟩,Qp Yt,Yt⟩
  ⟨⟨by decide,_,rfl,Xr.single ⟨.pure _ Yt,.pure _ (Zm _ _),.pure _ (Z4 _),.pure _ (Zs _),.pure _ (Z0 _),.pure _ (Z0 _),.pure _ (Z0 _),.own (ρ:=fun i=>i) 1 (by decide),.own (ρ:=fun i=>i) 2 (by decide),Yt⟩ rfl⟩,Qs Yt,Qs Yt,Yt⟩ ?_
 intro i hi;have hinc:IntKind.i64.wrap ((i:Int)+1)=((i+1:Nat):Int):=Y0v _ ⟨by omega,by omega⟩;refine gd 32 ⟨?_⟩;by_cases hil:i<t.rs.length
 . have htk := Z11 hil;have hro:=h.rs _ (Y0j hil);have htl:(t.rs.take i).length<=64:=by rw [Y0o]; omega
   refine Qo (Qy rfl (Y2Q.2 hil)) ?_;refine go ?_;refine Qo (Zo (xs:=t.rs) (g:=ruP) rfl rfl i rfl hil rfl) ?_;generalize t.rs[i]=x at htk hro ⊢;have hxt:=hro.tg;generalize t.rs.take i=tk at htk htl ⊢;refine gd 39 ⟨?_⟩;refine Qe (Z5f h S x.cu hro.cu hro.m) ⟨hpp,Zx _,Yt⟩ ?_;refine gd 45 ⟨?_⟩;refine Z4y rfl rfl rfl ?_
   iterate 1 (first|refine st ?_|(apply B<;>intro hb<;>try cases hb))
   refine ZH (Zt (k:=4) (m:=(X1m t).map cuC) (fl:=false) rfl rfl rfl (fun q hq=>by obtain⟨y,_,rfl⟩:=Y0i.1 hq; rfl) rfl (by
    show (0+((X1m t).map cuC).length)*48<=_
    rw [Y0f];omega)) rfl rfl ?_
   refine go ?_;refine ZC hC (fun (j:Nat)=>j<=(X1m t).length) (fun j=>(X1m t).length-j) 6 (fun j => [(1,.cp (pbP t S)),(4,.vec ((X1m t).map cuC) false),(6,.ptr 0 0 0),(8,.ptr 3 0 0),(9,.vec ((exL t.l t.n x.cu).map cuC) false),(11,.own 5),(29,.vec (t.rs.map ruP) false),(30,.val (.int .i64 (t.rs.length:Int))),(31,Yv i),(48,.vec ((X1m t).map cuC) false),(49,.val (.int .i64 ((X1m t).length:Int))),(50,Yv j)])
    (fun j => [(0,⟨9,[[.val (.int .i64 (t.n:Int)),XR t.l S,.vec (X5 (X7 t.st)) false,.vec (t.rs.map ruP) false,.vec (t.nv.map cuC) false,.vec (t.gl.map cuC) false,.vec ((X1m t).map cuC) false,.own 1,.own 2]]⟩),(1,⟨1,tk.map (ifR t)⟩),(2,⟨1,tk.map (afR t)⟩),(3,⟨5,[ruP x]⟩),(5,⟨2,(X40 (X1m t) x.tg x.rev j).map cuC⟩)]) (Y0l _) 0 (Y0l _) (fun i=>i) (fun _ _=>rfl) Zp
    ⟨Qp hpp,Qp (Z0 _),Qt 0 0 0,Qt 3 0 0,Qp (Z0 _),Qw 5,Qp (Zs _),Qp Yt,Qp Yt,Qp (Z0 _),⟨_,by rw [<- hnb]; rfl,.pure _ Yt⟩,Qp Yt,Yt⟩
    ⟨⟨by decide,_,rfl,Xr.single ⟨.pure _ Yt,.pure _ (Zm _ _),.pure _ (Z4 _),.pure _ (Zs _),.pure _ (Z0 _),.pure _ (Z0 _),.pure _ (Z0 _),.own (ρ:=fun i=>i) 1 (by decide),.own (ρ:=fun i=>i) 2 (by decide),Yt⟩ rfl⟩,Qs (Zc (Z4k t) _),Qs (Zc (Z4l t) _),Qs ⟨Z6l x,Yt⟩,⟨by decide,_,rfl,by unfold X40; rw [Y1A,Y3L,Y0p]; exact .same _ (Z0 _)⟩,Yt⟩ ?_
   intro j hj;have hjnc:IntKind.i64.wrap ((j:Int)+1)=((j+1:Nat):Int):=Y0v _ ⟨by omega,by omega⟩;have hal:=Zd1 (X1m t) x.tg x.rev j;refine gd 51 ⟨?_⟩;by_cases hjl:j<(X1m t).length
   . have hsn := Zg1 (X1m t) x.tg x.rev hjl;have hb64:=Z3Z hbi.1 _ (Y0j hjl);refine Qo (Qy rfl (Y2Q.2 hjl)) ?_;refine go ?_;refine Qo (Zo (xs:=X1m t) (g:=cuC) rfl rfl j rfl hjl rfl) ?_;generalize (X1m t)[j]=y at hsn hb64 ⊢;generalize X40 (X1m t) x.tg x.rev j=acc at hsn hal ⊢;refine gd 59 ⟨?_⟩;refine Z1 rfl rfl rfl ?_;refine Qe (Z5W y hb64 x.tg (by omega) x.rev) ⟨Zx _,Yt,Yt,Yt⟩ ?_;unfold X4u at hsn;generalize X2I y x.tg x.rev=bc at hsn ⊢;generalize X45 y x.tg x.rev=bb at hsn ⊢;cases bb
     . rw [Y6 (by decide), Y0p] at hsn;refine go ?_
       refine⟨j+1,fun i=>i,hjl,by show (X1m t).length-(j+1)<(X1m t).length-j; omega,fun _ _=>rfl,Zp,
        ⟨Qp hpp,Qp (Z0 _),Qt 0 0 0,Qt 3 0 0,Qp (Z0 _),Qw 5,Qp (Zs _),Qp Yt,Qp Yt,Qp (Z0 _),Qp Yt,⟨_,by show some _=some _; rw [hjnc],.pure _ Yt⟩,Yt⟩,
        ⟨⟨by decide,_,rfl,Xr.single ⟨.pure _ Yt,.pure _ (Zm _ _),.pure _ (Z4 _),.pure _ (Zs _),.pure _ (Z0 _),.pure _ (Z0 _),.pure _ (Z0 _),.own (ρ:=fun i=>i) 1 (by decide),.own (ρ:=fun i=>i) 2 (by decide),Yt⟩ rfl⟩,Qs (Zc (Z4k t) _),Qs (Zc (Z4l t) _),Qs ⟨Z6l x,Yt⟩,⟨by decide,_,rfl,?_⟩,Yt⟩⟩
       rw [hsn];exact .same _ (Z0 _)
     . rw [Y5 rfl] at hsn;refine gd 67 ⟨?_⟩
       refine ZH (Zt (k:=5) (m := [cuC bc]) (fl:=true) rfl rfl rfl (fun q hq=>by rw [Y0g] at hq; subst hq; rfl) rfl (by
        show ((acc.map cuC).length+1)*48<=_
        rw [Y0f];omega)) rfl rfl ?_
       refine go ?_
       refine⟨j+1,mv 5 8,hjl,by show (X1m t).length-(j+1)<(X1m t).length-j; omega,fun i hi=>absurd hi (YL i),Zu rfl,
        ⟨Qp hpp,Qp (Z0 _),Qt 0 0 0,Qt 3 0 0,Qp (Z0 _),Qw 5,Qp (Zs _),Qp Yt,Qp Yt,Qp (Z0 _),Qp Yt,⟨_,by show some _=some _; rw [hjnc],.pure _ Yt⟩,Yt⟩,
        ⟨⟨by decide,_,rfl,Xr.single ⟨.pure _ Yt,.pure _ (Zm _ _),.pure _ (Z4 _),.pure _ (Zs _),.pure _ (Z0 _),.pure _ (Z0 _),.pure _ (Z0 _),.own (ρ:=mv 5 8) 1 (by decide),.own (ρ:=mv 5 8) 2 (by decide),Yt⟩ rfl⟩,Qs (Zc (Z4k t) _),Qs (Zc (Z4l t) _),Qs ⟨Z6l x,Yt⟩,⟨by decide,_,rfl,?_⟩,Yt⟩⟩
       show Xr _ _ ⟨2,acc.map cuC ++ [cuC bc]⟩ ⟨2,(X40 (X1m t) x.tg x.rev (j+1)).map cuC⟩;rw [hsn,Y0r];exact .same _ (by show X2 (acc.map cuC ++ [bc].map cuC); rw [<- Y0r]; exact Z0 _)
   . have hjl : j = (X1m t).length := by omega
     subst hjl;refine Zb (Zn (k:=11) rfl rfl (Z0 _)) ?_;refine Qo (Qz rfl (Y4j _)) ?_
     repeat' (first|refine Z3h [] [(1,256)] [4194303,4194303,4194303,4194303,4194303,4194303,4194303,4194303,4194047,4194303,4194303,4194303,4194303,4194303,4194303,4194303,4194303,4194303,4194303,4194303,4194303,4194303] (by kernel_rfl) ?_|refine Z8B 77 ?_|(first|refine st ?_|(apply B<;>intro hb<;>try cases hb)))
     refine At.mk ?_
     refine Qr (Zt (k:=1) (m := [ifR t x]) (fl:=true) rfl rfl rfl (fun q hq=>by rw [Y0g] at hq; subst hq; rfl) rfl (by
      show ((tk.map (ifR t)).length+1)*24<=_
      rw [Y0f];omega)) ?_
     refine gd 84 ⟨?_⟩
     refine Qr (Zt (k:=2) (m := [afR t x]) (fl:=true) rfl rfl rfl (fun q hq=>by rw [Y0g] at hq; subst hq; rfl) rfl (by
      show ((tk.map (afR t)).length+1)*24<=_
      rw [Y0f];omega)) ?_
     refine go ?_
     refine⟨i+1,fun i=>mv 1 14 (mv 2 21 i),hil,by show t.rs.length-(i+1)<t.rs.length-i; omega,fun i hi=>absurd hi (YL i),Zu rfl,
      ⟨Qp hpp,Qp (Z0 _),Qt 0 0 0,Qp (Zs _),Qp Yt,⟨_,by show some _=some _; rw [hinc],.pure _ Yt⟩,Yt⟩,
      ⟨⟨by decide,_,rfl,Xr.single ⟨.pure _ Yt,.pure _ (Zm _ _),.pure _ (Z4 _),.pure _ (Zs _),.pure _ (Z0 _),.pure _ (Z0 _),.pure _ (Z0 _),.own (ρ:=fun i=>mv 1 14 (mv 2 21 i)) 1 (by decide),.own (ρ:=fun i=>mv 1 14 (mv 2 21 i)) 2 (by decide),Yt⟩ rfl⟩,⟨by decide,_,rfl,?_⟩,⟨by decide,_,rfl,?_⟩,Yt⟩⟩
     . show Xr _ _ ⟨1, tk.map (ifR t) ++ [ifR t x]⟩ ⟨1, (t.rs.take (i + 1)).map (ifR t)⟩;rw [htk,Y0r];exact .same _ (by rw [<- Y1a,<- Y0r]; exact Zc (Z4k t) _)
     . show Xr _ _ ⟨1, tk.map (afR t) ++ [afR t x]⟩ ⟨1, (t.rs.take (i + 1)).map (afR t)⟩;rw [htk,Y0r];exact .same _ (by rw [<- Y1a,<- Y0r]; exact Zc (Z4l t) _)
 . have hil : i = t.rs.length := by omega
   subst hil;rw [Y0q];refine Zb (Zk (ob:=0) (id:=1) (i0:=0) (j0:=7) rfl rfl (by decide) (Zc (Z4k t) _) (Y0 rfl) (Y0 rfl) rfl) ?_;refine Zb (Zk (ob:=0) (id:=2) (i0:=0) (j0:=8) rfl rfl (by decide) (Zc (Z4l t) _) (Y0 rfl) (Y0 rfl) rfl) ?_;refine Zb (Z1q (k:=6) (l:=srC t S) rfl rfl (Z5j t S)) ?_;refine Qo (Qz rfl (Y4j _)) ?_;refine go ?_;exact Z8 rfl ⟨Z5j t S,Yt,Yt⟩ rfl
theorem Z6n {m a b:Nat} (ha:a<18446744073709551616) (hb:b<18446744073709551616) (h:a ||| m=m):Xe a b ||| m=m:=Xg.2 fun i hi=>by
 rw [ZF ha hb,Y0k] at hi;exact Xg.1 h i hi.1
theorem ZbL {c:Cu} (h:InM 62 c) {tg:Nat} (ht:tg<64) (rev:Bool):InM 62 (X2I c tg rev):=by
 have h64:=h.lt (by decide);have hp:=ZV ht;unfold X2I
 split
 . exact⟨h.1,Z6n h64.2 hp h.2⟩
 . exact⟨Z6n h64.1 hp h.1,h.2⟩
theorem ZbM {c:Cu} (h:InM 62 c) {tg:Nat} (ht:1<=tg/\tg<=5) (rev:Bool):InM 62 (X44 c tg rev):=by
 have h1:=ZbL h (show tg<64 by omega) rev;have hb:=X5M ht.1 ht.2;unfold X44
 split
 . exact Z94 h1 hb
 . exact ZcS h1 hb
theorem Zg2 {t:PB} (h:Xz t) {r:RU} (hr:X3M t.n r):(∀ c∈X4v t r,InM 62 c)/\(X4v t r).length<=2048:=by
 have hb:=Z7b h;have ht:=hr.tg;refine⟨fun c hc=>?_,by have:=Zd1 (X1m t) r.tg r.rev (X1m t).length; unfold X4v; omega⟩;unfold X4v X40 at hc;rcases Y0h.1 hc with hc|hc
 . exact hb.1 c hc
 . obtain ⟨x, hx, hc⟩ := Y1d.1 hc;unfold X4u at hc
   split at hc
   . rw [Y0g] at hc; subst hc;exact ZbL (hb.1 x (YM hx)) (by omega) _
   . cases hc
def X4h (y i:Cu):List Cu:=if (meC y i).2 then [(meC y i).1] else []
def X3x (y:Cu) (l:List Cu):List Cu:=l.flatMap (X4h y)
theorem Zg3 {a b:Cu} {m:Nat} (ha:InM m a) (hb:InM m b):InM m (X16 a b):=⟨Xg.2 fun i hi=>by
 rw [show (X16 a b).1=a.1 ||| b.1 from rfl,Y00,YP] at hi;exact hi.elim (Xg.1 ha.1 i) (Xg.1 hb.1 i),Xg.2 fun i hi=>by
 rw [show (X16 a b).2=a.2 ||| b.2 from rfl,Y00,YP] at hi
 exact hi.elim (Xg.1 ha.2 i) (Xg.1 hb.2 i)⟩
theorem Zjs {y i:Cu} (hy:InM 62 y) (hi:InM 62 i):∀ c∈X4h y i,InM 62 c:=fun c hc=>by
 unfold X4h meC at hc;by_cases h:emC (X16 y i)=true
 . rw [Y5 h,Y6 (by decide)] at hc; cases hc
 . rw [Y6 h,Y5 rfl,Y0g] at hc; subst hc; exact Zg3 hy hi
theorem ZhW (y i:Cu):(X4h y i).length<=1:=by unfold X4h; split<;>simp
theorem ZbN {y:Cu} (hy:InM 62 y) {l:List Cu} (hl:∀ i∈l,InM 62 i):∀ c∈X3x y l,InM 62 c:=fun c hc=>by
 obtain⟨i,hi,hc⟩:=Y1d.1 hc;exact Zjs hy (hl i hi) c hc
theorem ZhX (y:Cu) (l:List Cu):(X3x y l).length<=l.length:=by
 have:=Z5i (l:=l) (f:=X4h y) (k:=1) fun x _=>ZhW y x;unfold X3x; omega
theorem Zg4 (y:Cu) {l:List Cu} {j:Nat} (hj:j<l.length):X3x y (l.take (j+1))=X3x y (l.take j)++X4h y l[j]:=by
 unfold X3x;rw [Z11 hj,Y1H]; simp
noncomputable def bfL (t:PB) (r:RU) (c:Cu):List Cu:=if X45 c r.tg r.rev then X36 (X1e (X4v t r) (X3x (X44 c r.tg r.rev) (exL t.l t.n r.cu))) else []
theorem Za9 {t:PB} (h:Xz t) (S:List Nat) (c:Cu) (hc:InM 62 c) (k:Nat) (hk:k<t.rs.length):Xa Tryz.prog 160 [.cp (srC t S),cuP c,.val (.int .i64 (k:Int))] (· = .tup [.vec ((bfL t t.rs[k] c).map cuC) false,.val (.int .i64 0)]):=by
 have hsr:=Z5j t S;have hro:=h.rs _ (Y0j hk);have hc64:=hc.lt (by decide);refine Yp ok160 fun C hC=>?_;refine Zq ?_;refine Za ?_;refine Z5 rfl rfl rfl ?_;refine gd 23 ⟨?_⟩;refine Qo (Zo (xs:=t.rs) (g:=ruP) rfl rfl k rfl hk rfl) ?_;generalize hx:t.rs[k]=x at hro ⊢;have hxt:=hro.tg;refine gd 30 ⟨?_⟩;refine Z1 rfl rfl rfl ?_;refine Qe (Z5W c hc64 x.tg (by omega) x.rev) ⟨Zx _,Yt,Yt,Yt⟩ ?_;unfold bfL;cases hbb:X45 c x.tg x.rev
 . rw [Y6 (by decide)];refine go ?_;exact Z1I rfl ⟨Yt,Yt,Yt⟩ rfl
 rw [Y5 rfl];have hbc:=(ZbL hc (show x.tg<64 by omega) x.rev).lt (by decide);refine gd 34 ⟨?_⟩;refine Z1 rfl rfl rfl ?_
 iterate 4 (first|refine st ?_|(apply B<;>intro hb<;>try cases hb))
 refine ZiA hC True 2 [(0,.cp (srC t S)),(2,.val (.int .i64 (k:Int))),(9,.ptr 1 0 0)] [(1,⟨2,[cuC (X44 c x.tg x.rev)]⟩)] (Y0l _) ?_ fun _=>?_
 . have hbd : X44 c x.tg x.rev = if x.rev then ((X2I c x.tg x.rev).1 ||| 2 ^ x.tg, (X2I c x.tg x.rev).2) else ((X2I c x.tg x.rev).1, (X2I c x.tg x.rev).2 ||| 2 ^ x.tg) := rfl
   rw [hbd];generalize X2I c x.tg x.rev=bc at hbc ⊢;refine gd 37 ⟨?_⟩;cases hv:x.rev
   . rw [Y6 (by decide)];refine Qo (Z7 (v:=false) rfl hv) ?_;refine gd 48 ⟨?_⟩;refine Qe (Z1s _ hbc.2 x.tg (by omega)) ⟨Z2 _,Yt,Yt⟩ ?_;refine go ?_;exact⟨Yt,⟨⟨rfl,ZI (fun _ h=>h.elim) _ hsr⟩,⟨rfl,Yt⟩,⟨rfl,show (1:Nat)<2 by decide⟩,Yt⟩,⟨by decide,rfl,⟨Zr _ _,Zr _ _,Yt⟩,Yt⟩,Yt⟩
   . rw [Y5 rfl];refine Qo (Z7 (v:=true) rfl hv) ?_;refine gd 42 ⟨?_⟩;refine Qe (Z1s _ hbc.1 x.tg (by omega)) ⟨Z2 _,Yt,Yt⟩ ?_;refine go ?_;exact⟨Yt,⟨⟨rfl,ZI (fun _ h=>h.elim) _ hsr⟩,⟨rfl,Yt⟩,⟨rfl,show (1:Nat)<2 by decide⟩,Yt⟩,⟨by decide,rfl,⟨Zr _ _,Zr _ _,Yt⟩,Yt⟩,Yt⟩
 have hy:=ZbM hc ⟨hxt.1,hxt.2.2⟩ x.rev;generalize X44 c x.tg x.rev=y at hy ⊢;have hy64:=hy.lt (by decide);obtain⟨-,-,hel,hei⟩:=Z8b h hro.m;have haf:=Zg2 h hro
 repeat' (first|refine Zb (Zw (k:=11) rfl 2 (by decide)) ?_|(first|refine st ?_|(apply B<;>intro hb<;>try cases hb)))
 refine Qo (Zo (xs:=t.rs) (g:=ifR t) rfl rfl k rfl hk rfl) ?_;rw [hx];refine go ?_;have hnl:((exL t.l t.n x.cu).map cuC).length=(exL t.l t.n x.cu).length:=by simp
 refine ZC hC (fun (j:Nat)=>j<=(exL t.l t.n x.cu).length) (fun j=>(exL t.l t.n x.cu).length-j) 3 (fun j => [(0,.cp (srC t S)),(2,.val (.int .i64 (k:Int))),(9,.ptr 1 0 0),(11,.own 2),(56,.vec ((exL t.l t.n x.cu).map cuC) false),(57,.val (.int .i64 ((exL t.l t.n x.cu).length:Int))),(58,Yv j)])
  (fun j => [(1,⟨2,[cuC y]⟩),(2,⟨2,(X3x y ((exL t.l t.n x.cu).take j)).map cuC⟩)]) (Y0l _) 0 (Y0l _) (fun i=>i) (fun _ _=>rfl) Zp
  ⟨Qp hsr,Qp Yt,Qt 1 0 0,Qw 2,Qp (Z0 _),⟨_,by rw [<- hnl]; rfl,.pure _ Yt⟩,Qp Yt,Yt⟩ ⟨Qs ⟨Zi y,Yt⟩,Qs Yt,Yt⟩ ?_
 intro j hj;have hinc:IntKind.i64.wrap ((j:Int)+1)=((j+1:Nat):Int):=Y0v _ ⟨by omega,by omega⟩;have hml:=ZhX y ((exL t.l t.n x.cu).take j);rw [Y0o] at hml;refine gd 59 ⟨?_⟩;by_cases hjl:j<(exL t.l t.n x.cu).length
 . have hsn := Zg4 y hjl;have hz:=(hei _ (Y0j hjl)).lt (by decide);refine Qo (Qy rfl (Y2Q.2 hjl)) ?_;refine go ?_;refine Qo (Zo (xs:=exL t.l t.n x.cu) (g:=cuC) rfl rfl j rfl hjl rfl) ?_;generalize (exL t.l t.n x.cu)[j]=z at hsn hz ⊢;generalize X3x y ((exL t.l t.n x.cu).take j)=acc at hsn hml ⊢;refine gd 65 ⟨?_⟩;refine Qe (Z80 y z hy64 hz) ⟨Zx _,Zx _,Yt⟩ ?_;unfold X4h at hsn;generalize meC y z=mz at hsn ⊢;obtain⟨mc,mb⟩:=mz;cases mb
   . have hsn : X3x y ((exL t.l t.n x.cu).take (j + 1)) = acc ++ [] := hsn;rw [Y0p] at hsn;refine go ?_
     refine⟨j+1,fun i=>i,hjl,by show (exL t.l t.n x.cu).length-(j+1)<(exL t.l t.n x.cu).length-j; omega,fun _ _=>rfl,Zp,
      ⟨Qp hsr,Qp Yt,Qt 1 0 0,Qw 2,Qp (Z0 _),Qp Yt,⟨_,by show some _=some _; rw [hinc],.pure _ Yt⟩,Yt⟩,⟨Qs ⟨Zi y,Yt⟩,⟨by decide,_,rfl,?_⟩,Yt⟩⟩
     rw [hsn];exact .same _ (Z0 _)
   . have hsn : X3x y ((exL t.l t.n x.cu).take (j + 1)) = acc ++ [mc] := hsn;refine gd 72 ⟨?_⟩
     refine ZH (Zt (k:=2) (m := [cuC mc]) (fl:=true) rfl rfl rfl (fun q hq=>by rw [Y0g] at hq; subst hq; rfl) rfl (by
      show ((acc.map cuC).length+1)*48<=_
      rw [Y0f];omega)) rfl rfl ?_
     refine go ?_
     refine⟨j+1,mv 2 5,hjl,by show (exL t.l t.n x.cu).length-(j+1)<(exL t.l t.n x.cu).length-j; omega,fun i hi=>absurd hi (YL i),Zu rfl,
      ⟨Qp hsr,Qp Yt,Qt 1 0 0,Qw 2,Qp (Z0 _),Qp Yt,⟨_,by show some _=some _; rw [hinc],.pure _ Yt⟩,Yt⟩,⟨Qs ⟨Zi y,Yt⟩,⟨by decide,_,rfl,?_⟩,Yt⟩⟩
     show Xr _ _ ⟨2,acc.map cuC ++ [cuC mc]⟩ ⟨2,(X3x y ((exL t.l t.n x.cu).take (j+1))).map cuC⟩;rw [hsn,Y0r];exact .same _ (by show X2 (acc.map cuC ++ [mc].map cuC); rw [<- Y0r]; exact Z0 _)
 . have hjl : j = (exL t.l t.n x.cu).length := by omega
   subst hjl;rw [Y0q] at hml ⊢;have hmi:=ZbN hy hei;have hsl:=Z5E haf.1 _ hmi;refine Zb (Zn (k:=11) rfl rfl (Z0 _)) ?_;refine Qo (Qz rfl (Y4j _)) ?_;refine gd 81 ⟨?_⟩;refine Qo (Zo (xs:=t.rs) (g:=afR t) rfl rfl k rfl hk rfl) ?_;rw [hx];refine gd 83 ⟨?_⟩;refine Qe (Z7a (X4v t x) _ false false haf.1 (by omega) hmi (by omega)) ⟨Z0 _,Z0 _,Yt⟩ ?_;refine gd 90 ⟨?_⟩;refine Qe (Z40 _ false (Z39 haf.1 hmi) (by omega)) ⟨Z0 _,Yt⟩ ?_;refine go ?_;exact Z8 rfl ⟨Z0 _,Yt,Yt⟩ rfl
theorem ZhY (S:Nat):hoC (0,0) S=true:=(Z1a _ _).2 ⟨fun i hi=>by simp at hi,fun i hi=>by simp at hi⟩
theorem Zjt (y:Cu) (l:List Cu) (S:Nat):soC (X3x y l) S=(hoC y S&&soC l S):=by
 unfold X3x;rw [Z98]
 induction l with
 | nil=>simp [soC]
 | cons i l ih =>
   rw [Y3j,ih,Z3q];have e:soC (X4h y i) S=(hoC y S&&hoC i S):=by
    unfold X4h meC;by_cases h:emC (X16 y i)=true
    . rw [Y5 h,Y6 (by decide),<- Z5z,Z2E h]; rfl
    . rw [Y6 h,Y5 rfl,Z8Y,Z5z]
   rw [e];cases hoC y S<;>cases hoC i S<;>cases soC l S<;>rfl
theorem ZkB {t:PB} (h:Xz t) {r:RU} (hr:X3M t.n r) {S:Nat} (hS:InS t S):soC (X4v t r) S=(!Xq t S || !Xq t (Xo r S)):=by
 have hb:=Z7b h;have ht:=hr.tg;have hn:=ZcU ht.1 ht.2.1 h.n.2 hS;rw [<- Zg0 h hS,<- Zg0 h hn];unfold X4v X40;rw [Y0q];have e:soC (X1m t++(X1m t).flatMap (X4u r.tg r.rev)) S=(soC (X1m t) S||soC ((X1m t).flatMap (X4u r.tg r.rev)) S):=Y2Y;rw [e,Z98];congr 1;unfold soC;rw [YO,Y01,Y01];refine Y3T fun b=>Y2y fun hbm=>?_;rw [ZfO (Z3Z hb.1 b hbm) (show r.tg<64 by omega) (hS.lt h.n.2)];unfold X4u;cases X45 b r.tg r.rev with
 | true=>rw [Y5 rfl,Y1j]; simp [soC]
 | false=>rw [Y6 (by decide),Y35]; simp [soC]
theorem Zlh {t:PB} (h:Xz t) {r:RU} (hr:X3M t.n r) {c:Cu} (hc:InM 62 c) {S:Nat} (hS:InS t S):soC (bfL t r c) S=(Xq t S&&(XU t r S&&hoC c (Xo r S))):=by
 have ht:=hr.tg;have hc64:=hc.lt (by decide);have hbd:=ZhP hc64 (show r.tg<64 by omega) (hS.lt h.n.2);have hex:=ZiI h.good.small h.n.2 hr.cu hS;obtain⟨-,-,hel,hei⟩:=Z8b h hr.m;have haf:=Zg2 h hr;have hrv:(r.rev||hoC r.cu (clo t.l S))=hoC r.cu (clo t.l S):=by
  cases hv:r.rev with
  | false=>rfl
  | true=>rw [hr.rv hv,ZhY]; rfl
 unfold XU;rw [hrv];unfold bfL;cases hbb:X45 c r.tg r.rev with
 | false =>
   rw [Y6 (by decide)];rw [hbb,Y35] at hbd;show false=_;generalize Xq t S=g1;generalize Xq t (Xo r S)=g2;generalize hoC r.cu (clo t.l S)=g3;generalize decide (Xo r S≠S)=g4 at hbd ⊢;generalize hoC c (Xo r S)=g5 at hbd ⊢
   revert hbd
   cases g1<;>cases g2<;>cases g3<;>cases g4<;>cases g5<;>decide
 | true =>
   rw [Y5 rfl];rw [hbb,Y1j] at hbd;have hyi:=ZbM hc ⟨ht.1,ht.2.2⟩ r.rev;rw [Z91 (Z3Z (Z39 haf.1 (ZbN hyi hei))),Za6 haf.1,Zjt,hex,ZkB h hr hS,hbd];generalize Xq t S=g1;generalize Xq t (Xo r S)=g2;generalize hoC r.cu (clo t.l S)=g3;generalize decide (Xo r S≠S)=g4;generalize hoC c (Xo r S)=g5;cases g1<;>cases g2<;>cases g3<;>cases g4<;>cases g5<;>decide
theorem Zli {t:PB} (h:Xz t) {r:RU} (hr:X3M t.n r) {c:Cu} (hc:InM 62 c):(∀ c'∈bfL t r c,InM 62 c'/\emC c'=false)/\(bfL t r c).length<=1024:=by
 have ht:=hr.tg;obtain⟨-,-,hel,hei⟩:=Z8b h hr.m;have haf:=Zg2 h hr;have hyi:=ZbM hc ⟨ht.1,ht.2.2⟩ r.rev;have h2:=X4T (Z39 haf.1 (ZbN hyi hei));unfold bfL
 split
 . exact⟨fun c' hc'=>⟨h2.1 c' hc',(Z2R hc').2⟩,h2.2⟩
 . exact⟨(fun c' hc'=>by cases hc'),by simp⟩
end
section
open Go.RowKit
theorem ZiK {l:List Pr} {n N:Nat}:∀ (rs:List Nat) (x:List Cu),(∀ c∈x,c.1 ||| mkN n=mkN n/\c.2=N)->∀ c∈exF l n rs x,c.1 ||| mkN n=mkN n/\c.2=N
 | [],x,h=>h
 | r :: rs, x, h => ZiK rs _ fun c hc => by
   obtain⟨y,hy,hc⟩:=Y1d.1 (Z2R hc).1;obtain⟨a,ha,rfl⟩:=Y0i.1 hc;refine⟨Xg.2 fun i hi=>?_,(h y hy).2⟩;rw [Y00,YP,YK,Y0n] at hi;rcases hi with hi|rfl
   . exact Xg.1 (h y hy).1 i hi
   . have := (Y18.1 ha).2;rw [Y0z,Y0k] at this;exact this.2
theorem ZkC {t:PB} (c:Cu):∀ c'∈exL t.l t.n c,InM (mkN t.n) c':=fun c' hc'=>by
 have h1:=ZiK (l:=t.l) (n:=t.n) (mem c.1) [(0,exN t.l t.n (mem c.2))] (fun c hc=>by rw [Y0g] at hc; subst hc; exact⟨Y3m _,rfl⟩) c' hc';refine⟨h1.1,?_⟩;rw [h1.2];refine Xg.2 fun i hi=>?_;rcases (Z74 t.l t.n i (mem c.2) 0).1 hi with h2|⟨r,hr',h2,h3⟩
 . simp at h2
 . exact h3
theorem ZbO {m:Nat} {l:List Cu} (hl:∀ c∈l,InM m c):∀ c∈X36 l,InM m c:=fun c hc=>hl c (Z2R hc).1
theorem Zju {m:Nat} {l:List Cu} {c:Cu} (hl:∀ b∈l,InM m b) (hc:InM m c):∀ c'∈X34 l c,InM m c':=by
 have main:∀ (l:List Cu),(∀ b∈l,InM m b)->∀ out:List Cu,(∀ c∈out,InM m c)->∀ c∈l.foldl X3I out,InM m c:=by
  intro l
  induction l with
  | nil=>exact fun _ out h=>h
  | cons b l ih=>exact fun hl out h=>ih (fun x hx=>hl x (YD _ hx)) _ (Zby h (hl b (Y0t ..)))
 refine main l hl _ fun c' hc'=>?_
 split at hc'
 . cases hc'
 . rw [Y0g] at hc'; subst hc'; exact hc
theorem Zd2 {m:Nat} {bad l:List Cu} (hb:∀ b∈bad,InM m b) (hl:∀ c∈l,InM m c):∀ c∈X1e bad l,InM m c:=fun c hc=>by
 obtain⟨x,hx,hc⟩:=Y1d.1 hc;exact Zju hb (hl x hx) c hc
theorem Zd3 (t:PB) (l:List Cu):∀ c∈X11 t l,InM (mkN t.n) c:=fun c hc=>by
 obtain⟨x,hx,hc⟩:=Y1d.1 hc;exact ZkC x c hc
theorem Zjv (t:PB):∀ c∈X1m t,InM (mkN t.n) c:=ZbO (Zd3 t t.nv)
theorem Zlj (t:PB):∀ c∈X4Y t,InM (mkN t.n) c:=ZbO (Zd2 (Zjv t) (Zd3 t t.gl))
theorem ZiL {m:Nat} {c:Cu} (h:InM m c) (hm:m<18446744073709551616) {tg:Nat} (ht:tg<64) (rev:Bool):InM m (X2I c tg rev):=by
 have h64:=h.lt hm;have hp:=ZV ht;unfold X2I
 split
 . exact⟨h.1,Z6n h64.2 hp h.2⟩
 . exact⟨Z6n h64.1 hp h.1,h.2⟩
theorem ZlC {t:PB} (h:Xz t) {r:RU} (hr:X3M t.n r) {c:Cu} (hc:InM (mkN t.n) c):∀ c'∈bfL t r c,InM (mkN t.n) c':=by
 have ht:=hr.tg;have hm:=Z5d h.n.2;have hbit:(mkN t.n).testBit r.tg=true:=by rw [Z2o,Yw ht.1,Yw ht.2.1]; rfl
 have h1:=ZiL hc hm (show r.tg<64 by omega) r.rev;have hy:InM (mkN t.n) (X44 c r.tg r.rev):=by
  unfold X44
  split
  . exact Z94 h1 hbit
  . exact ZcS h1 hbit
 have ha:∀ c∈X4v t r,InM (mkN t.n) c:=fun c hc=>by
  unfold X4v X40 at hc;rcases Y0h.1 hc with hc|hc
  . exact Zjv t c hc
  . obtain ⟨x, hx, hc⟩ := Y1d.1 hc;unfold X4u at hc
    split at hc
    . rw [Y0g] at hc; subst hc;exact ZiL (Zjv t x (YM hx)) hm (by omega) _
    . cases hc
 have hml:∀ c'∈X3x (X44 c r.tg r.rev) (exL t.l t.n r.cu),InM (mkN t.n) c':=fun c' hc'=>by
  obtain⟨i,hi,hc'⟩:=Y1d.1 hc';have hi:=ZkC r.cu i hi;unfold X4h meC at hc';by_cases h:emC (X16 (X44 c r.tg r.rev) i)=true
  . rw [Y5 h,Y6 (by decide)] at hc'; cases hc'
  . rw [Y6 h,Y5 rfl,Y0g] at hc'; subst hc'; exact Zg3 hy hi
 unfold bfL
 split
 . exact ZbO (Zd2 ha hml)
 . exact fun c' hc'=>by cases hc'
theorem Zg5 {m:Nat} {c:Cu} (h:InM m c) (S:Nat):hoC c (S &&& m)=hoC c S:=by
 rw [YO,Z1a,Z1a];refine and_congr (forall_congr' fun i=>Y3l fun hi=>?_) (forall_congr' fun i=>Y3l fun hi=>?_)
 . rw [Y0z,Xg.1 h.1 i hi,Y1k]
 . rw [Y0z,Xg.1 h.2 i hi,Y1k]
theorem Zjw {m:Nat} {l:List Cu} (h:∀ c∈l,InM m c) (S:Nat):soC l (S &&& m)=soC l S:=by
 unfold soC;rw [YO,Y01,Y01];exact Y3T fun c=>Y2y fun hc=>by rw [Zg5 (h c hc)]
theorem ZhZ (t:PB) (S:Nat):InS t (S &&& mkN t.n):=Xg.2 fun i hi=>by
 rw [Y0z,Y0k] at hi;exact hi.2
abbrev KE:=Cu×Int×Nat
def kcs (ks:List KE):List Cu:=ks.map (·.1)
structure X20 (t:PB) (ks:List KE):Prop where
 mem:∀ e∈ks,InM 62 e.1/\InM (mkN t.n) e.1/\emC e.1=false
 how:∀ i e,ks[i]?=some e->(e.2.1 = -1/\∀ S,InS t S->hoC e.1 S=true->Xq t S=true/\XB t S=true) \/
  ∃ (r to:Nat) (x:RU) (e':KE),e.2=((r:Int),to)/\t.rs[r]?=some x/\to<i/\ks[to]?=some e'/\∀ S,InS t S->hoC e.1 S=true->Xq t S=true/\XU t x S=true/\hoC e'.1 (Xo x S)=true
 ws:∃ ws:List Nat,ws.length=ks.length/\ws.Nodup/\∀ w∈ws,InS t w/\soC (kcs ks) w=true
theorem X20.nil (t:PB):X20 t []:=⟨fun e he=>(by cases he),fun i e he=>(by simp at he),⟨[],rfl,Y3y,fun w hw=>(by cases hw)⟩⟩
theorem Z99 {t:PB} {w:Nat} (h:InS t w):w % 2=0/\w / 2<2 ^ t.n:=by
 have h0:w.testBit 0=false:=YB.2 fun h0=>by
  have:=Xg.1 h 0 h0;rw [Z2o] at this; cases this
 rw [Y2s] at h0;have h1:¬ w % 2=1:=Ye h0;have h2:w<=mkN t.n:=by rw [<- h]; exact YZ
 unfold mkN at h2;have:=Y2U t.n;omega
theorem X20.len {t:PB} {ks:List KE} (h:X20 t ks):ks.length<=2 ^ t.n:=by
 obtain⟨ws,h1,h2,h3⟩:=h.ws;have hnd:(ws.map (· / 2)).Nodup:=by
  rw [Y1f,Y1o];refine Y1x (fun {a b} ha hb hab e=>hab ?_) (Y1f.1 h2);have x1:=Z99 (h3 a ha).1;have x2:=Z99 (h3 b hb).1;omega
 have:=Z2M (2 ^ t.n) _ hnd fun x hx=>by
  obtain⟨w,hw,rfl⟩:=Y0i.1 hx;exact (Z99 (h3 w hw).1).2
 rw [Y0f] at this;omega
theorem X20.c64 {t:PB} {ks:List KE} (h:X20 t ks):∀ c∈kcs ks,XA c:=fun c hc=>by
 obtain⟨e,he,rfl⟩:=Y0i.1 hc;exact (h.mem e he).1.lt (by decide)
theorem Z9a (ks:List KE) (e:KE):kcs (ks ++ [e])=kcs ks ++ [e.1]:=by simp [kcs]
theorem Zg6 {a b:List Cu} {S:Nat} (h:soC a S=true):soC (a++b) S=true:=by
 have e:soC (a++b) S=(soC a S||soC b S):=Y2Y;rw [e,h,Y2R]
theorem X20.add {t:PB} {ks:List KE} (h:X20 t ks) {e:KE} (hm:InM 62 e.1/\InM (mkN t.n) e.1/\emC e.1=false) (hcov:X2c (kcs ks) e.1=false)
 (hh : (e.2.1 = -1 /\ ∀ S, InS t S -> hoC e.1 S = true -> Xq t S = true /\ XB t S = true) \/
   ∃ (r to:Nat) (x:RU) (e':KE),e.2=((r:Int),to)/\t.rs[r]?=some x/\ks[to]?=some e'/\∀ S,InS t S->hoC e.1 S=true->Xq t S=true/\XU t x S=true/\hoC e'.1 (Xo x S)=true):X20 t (ks ++ [e]):=by
 obtain⟨ws,h1,h2,h3⟩:=h.ws;refine⟨fun x hx=>(Y0h.1 hx).elim (h.mem x) fun hx=>by rw [Y0g] at hx; subst hx; exact hm,fun i x hx=>?_,?_⟩
 . by_cases hi : i < ks.length
   . rw [YG hi] at hx;rcases h.how i x hx with h4|⟨r,to,y,e',h4,h5,h6,h7,h8⟩
     . exact .inl h4
     . exact .inr ⟨r,to,y,e',h4,h5,h6,by rw [YG (by omega)]; exact h7,h8⟩
   . have hi2 : i = ks.length := by
      have:=(Y8.1 hx).1;rw [Y0e,Y0s] at this;omega
     subst hi2;rw [YH (Y0m _),Y36] at hx;cases hx;rcases hh with h4|⟨r,to,y,e',h4,h5,h7,h8⟩
     . exact .inl h4
     . have hlt := (Y8.1 h7).1;exact .inr ⟨r,to,y,e',h4,h5,hlt,by rw [YG hlt]; exact h7,h8⟩
 . obtain ⟨S, hS1, hS2⟩ : ∃ S, hoC e.1 S = true /\ soC (kcs ks) S = false := by
    apply YV;intro hn;have:X2c (kcs ks) e.1=true:=(Z8Z _ h.c64 _).2 fun S hS=>by
     cases hso:soC (kcs ks) S with
     | true=>rfl
     | false=>exact absurd ⟨S,hS,hso⟩ hn
    rw [hcov] at this; cases this
   have hn:∀ c∈kcs ks,InM (mkN t.n) c:=fun c hc=>by
    obtain⟨e,he,rfl⟩:=Y0i.1 hc;exact (h.mem e he).2.1
   refine⟨ws ++ [S &&& mkN t.n],by rw [Y0e,Y0e,h1]; rfl,?_,fun w hw=>?_⟩
   . rw [Y34];refine⟨h2,by simp,fun a ha b hb hab=>?_⟩;rw [Y0g] at hb;subst hb;subst hab;have:=(h3 _ ha).2;rw [Zjw hn,hS2] at this; cases this
   . rw [Z9a];rcases Y0h.1 hw with hw|hw
     . exact⟨(h3 w hw).1,Zg6 (h3 w hw).2⟩
     . rw [Y0g] at hw; subst hw;refine⟨ZhZ t S,?_⟩;rw [Z6j,Zg5 hm.2.1,hS1,Y3v]
inductive X1F (t:PB):Nat->Prop
 | base {S:Nat} (hS:InS t S) (hg:Xq t S=true) (hr:XB t S=true):X1F t S
 | step {S:Nat} {x:RU} (hS:InS t S) (hg:Xq t S=true) (hx:x∈t.rs) (hs:XU t x S=true) (h:X1F t (Xo x S)):X1F t S
def X1w (t:PB):Nat->List Nat->Nat->Prop
 | S,[],E=>E=S
 | S,k :: p,E=>∃ x,t.rs[k]?=some x/\XU t x S=true/\X1w t (Xo x S) p E
theorem X1F.good {t:PB} {S:Nat} (h:X1F t S):InS t S/\Xq t S=true:=by
 cases h with
 | base h1 h2 _=>exact⟨h1,h2⟩
 | step h1 h2 _ _ _=>exact⟨h1,h2⟩
theorem Z8d {t:PB} {x:RU} {S:Nat} (h:XU t x S=true):Xq t (Xo x S)=true:=by
 unfold XU at h;rw [Y0k,Y0k] at h;exact h.2.1
theorem Z2e {t:PB} (h:Xz t) {x:RU} (hx:x∈t.rs) {S:Nat} (hS:InS t S):InS t (Xo x S):=ZcU (h.rs x hx).tg.1 (h.rs x hx).tg.2.1 h.n.2 hS
theorem Z6o {t:PB} (h:Xz t):∀ (p:List Nat) {S E:Nat},InS t S->Xq t S=true->X1w t S p E->XB t E=true->X1F t S
 | [],S,E,hS,hg,hr,he=>by cases hr; exact .base hS hg he
 | k :: p, S, E, hS, hg, ⟨x, hx, hs, hr⟩, he => by
   have hxm:=Y13 hx;exact .step hS hg hxm hs (Z6o h p (Z2e h hxm hS) (Z8d hs) hr he)
inductive X2J (ks:List KE):Nat->List Nat->Prop
 | stop {i:Nat} {e:KE} (h:ks[i]?=some e) (hr:e.2.1<0):X2J ks i []
 | step {i r to:Nat} {e:KE} {p:List Nat} (h:ks[i]?=some e) (hr:e.2=((r:Int),to)) (hp:X2J ks to p):X2J ks i (r :: p)
theorem Zd4 {t:PB} (h:Xz t) {ks:List KE} (hk:X20 t ks) {i:Nat} {p:List Nat} (hp:X2J ks i p):∀ {e:KE},ks[i]?=some e->∀ {S:Nat},InS t S->hoC e.1 S=true->Xq t S=true/\∃ E,X1w t S p E/\XB t E=true:=by
 induction hp with
 | stop he hr =>
   rename_i i e0;intro e he' S hS hho;rw [he] at he'; cases he';rcases hk.how _ _ he with h4|⟨r,to,x,e',h4,_⟩
   . exact⟨(h4.2 S hS hho).1,S,rfl,(h4.2 S hS hho).2⟩
   . rw [h4] at hr; simp only at hr; omega
 | step he hr hp ih =>
   rename_i i r to e0 p;intro e he' S hS hho;rw [he] at he'; cases he';rcases hk.how _ _ he with h4|⟨r',to',x,e',h4,h5,h6,h7,h8⟩
   . rw [hr] at h4; simp only at h4; omega
   . rw [hr] at h4;obtain⟨h41,h42⟩:=Y3C h4;obtain rfl:r=r':=Int.ofNat.inj h41;subst h42;obtain⟨a1,a2,a3⟩:=h8 S hS hho;have hxm:=Y13 h5;obtain⟨b1,E,b2,b3⟩:=ih h7 (Z2e h hxm hS) a3;exact⟨a1,E,⟨x,h5,a2,b2⟩,b3⟩
theorem X20.path {t:PB} {ks:List KE} (hk:X20 t ks):∀ (m i:Nat),i<m->i<ks.length->∃ p,X2J ks i p
 | 0,i,h,_=>absurd h (by omega)
 | m + 1, i, h, hi => by
   have he:=Y0c hi;rcases hk.how i _ he with h4|⟨r,to,x,e',h4,h5,h6,h7,h8⟩
   . exact⟨[],.stop he (by rw [h4.1]; decide)⟩
   . obtain ⟨p, hp⟩ := hk.path m to (by omega) (Y8.1 h7).1;exact⟨r :: p,.step he h4 hp⟩
theorem X20.able {t:PB} (h:Xz t) {ks:List KE} (hk:X20 t ks) {S:Nat} (hS:InS t S) (hso:soC (kcs ks) S=true):X1F t S:=by
 obtain⟨c,hc,hho⟩:=Y01.1 hso;obtain⟨e,he,rfl⟩:=Y0i.1 hc;obtain⟨i,hi,rfl⟩:=Y1Y.1 he;obtain⟨p,hp⟩:=hk.path (i+1) i (Y2L _) hi;obtain⟨hg,E,h1,h2⟩:=Zd4 h hk hp (Y0c hi) hS hho;exact Z6o h p hS hg h1 h2
def X5R (t:PB) (c:Cu) (x:RU) (ks:List KE):Prop:=∀ S,InS t S->Xq t S=true->XU t x S=true->hoC c (Xo x S)=true->soC (kcs ks) S=true
def X5c (t:PB) (c:Cu) (ks:List KE):Prop:=∀ x∈t.rs,X5R t c x ks
def X3z (t:PB) (ks:List KE):Prop:=∀ S,InS t S->Xq t S=true->XB t S=true->soC (kcs ks) S=true
theorem Z9b {ks ks':List KE} (h:ks <+: ks') {S:Nat} (hs:soC (kcs ks) S=true):soC (kcs ks') S=true:=by
 obtain⟨u,rfl⟩:=h;have:kcs (ks++u)=kcs ks++kcs u:=by simp [kcs]
 rw [this];exact Zg6 hs
theorem X5R.pre {t:PB} {c:Cu} {x:RU} {ks ks':List KE} (h:X5R t c x ks) (hp:ks <+: ks'):X5R t c x ks':=fun S a b d e=>Z9b hp (h S a b d e)
theorem X5c.pre {t:PB} {c:Cu} {ks ks':List KE} (h:X5c t c ks) (hp:ks <+: ks'):X5c t c ks':=fun x hx=>(h x hx).pre hp
theorem X3z.pre {t:PB} {ks ks':List KE} (h:X3z t ks) (hp:ks <+: ks'):X3z t ks':=fun S a b c=>Z9b hp (h S a b c)
theorem Zaa {t:PB} (h:Xz t) {ks:List KE} (ht:X3z t ks) (he:∀ e∈ks,X5c t e.1 ks) {S:Nat} (ha:X1F t S):soC (kcs ks) S=true:=by
 induction ha with
 | base hS hg hr=>exact ht _ hS hg hr
 | step hS hg hx hs _ ih =>
   obtain⟨c,hc,hho⟩:=Y01.1 ih;obtain⟨e,hem,rfl⟩:=Y0i.1 hc;exact he e hem _ hx _ hS hg hs hho
theorem ZkD {t:PB} {ks:List KE} (hk:X20 t ks) {c:Cu} (h:X2c (kcs ks) c=true) {S:Nat} (hs:hoC c S=true):soC (kcs ks) S=true:=(Z8Z _ hk.c64 _).1 h S hs
inductive Rch (t:PB):Nat->Prop
 | base:Rch t t.st
 | step {S:Nat} {x:RU} (h:Rch t S) (hx:x∈t.rs) (hs:XU t x S=true):Rch t (Xo x S)
theorem Rch.inS {t:PB} (h:Xz t) {S:Nat} (hr:Rch t S):InS t S:=by
 induction hr with
 | base=>exact h.st
 | step _ hx _ ih=>exact Z2e h hx ih
theorem Xz.sgood {t:PB} (h:Xz t):Xq t t.st=true:=by unfold Xq; rw [h.sg]; rfl
theorem Zd5 {t:PB} {S:Nat} (ha:X1F t S):∃ p E,X1w t S p E/\XB t E=true:=by
 induction ha with
 | base hS hg hr=>exact⟨[],_,rfl,hr⟩
 | step hS hg hx hs _ ih =>
   obtain⟨p,E,h1,h2⟩:=ih;obtain⟨k,hk,rfl⟩:=Y1Y.1 hx;exact⟨k :: p,E,⟨_,Y0c hk,hs,h1⟩,h2⟩
theorem Zg7 {t:PB}:∀ (p:List Nat) {S E:Nat},Rch t S->X1w t S p E->Rch t E
 | [],S,E,h,hr=>by cases hr; exact h
 | k :: p,S,E,h,⟨x,hx,hs,hr⟩=>Zg7 p (.step h (Y13 hx) hs) hr
theorem Z6p {t:PB}:∀ (p:List Nat) {S E:Nat} {k:Nat} {x:RU},X1w t S p E->t.rs[k]?=some x->XU t x E=true->X1w t S (p ++ [k]) (Xo x E)
 | [],S,E,k,x,hr,hx,hs=>by cases hr; exact⟨x,hx,hs,rfl⟩
 | j :: p,S,E,k,x,⟨y,hy,h1,h2⟩,hx,hs=>⟨y,hy,h1,Z6p p h2 hx hs⟩
theorem Zjx {t:PB} {S:Nat} (h:Rch t S):∃ p,X1w t t.st p S:=by
 induction h with
 | base=>exact⟨[],rfl⟩
 | step _ hx hs ih =>
   obtain⟨p,hp⟩:=ih;obtain⟨k,hk,rfl⟩:=Y1Y.1 hx;exact⟨p ++ [k],Z6p p hp (Y0c hk) hs⟩
theorem able_iff {t:PB} (h:Xz t):X1F t t.st↔∃ E,Rch t E/\XB t E=true:=by
 constructor
 . intro ha;obtain⟨p,E,h1,h2⟩:=Zd5 ha;exact⟨E,Zg7 p .base h1,h2⟩
 . rintro ⟨E, h1, h2⟩;obtain⟨p,hp⟩:=Zjx h1;exact Z6o h p h.st h.sgood hp h2
structure X1I (t:PB) (ks:List KE):Prop where
 inv:X20 t ks
 tgt:X3z t ks
 exp:∀ e∈ks,X5c t e.1 ks
 no:soC (kcs ks) t.st=false
theorem X1I.not_able {t:PB} (h:Xz t) {ks:List KE} (hn:X1I t ks):¬ X1F t t.st:=fun ha=>by
 have:=Zaa h hn.tgt hn.exp ha;rw [hn.no] at this; cases this
theorem X1I.able_iff {t:PB} (h:Xz t) {ks:List KE} (hn:X1I t ks) {S:Nat} (hS:InS t S):soC (kcs ks) S=true↔X1F t S:=⟨hn.inv.able h hS,Zaa h hn.tgt hn.exp⟩
def X1N (t:PB) (p:List Nat):Prop:=∃ E,X1w t t.st p E/\XB t E=true
theorem X1N.able {t:PB} (h:Xz t) {p:List Nat} (hp:X1N t p):X1F t t.st:=by
 obtain⟨E,h1,h2⟩:=hp;exact Z6o h p h.st h.sgood h1 h2
theorem X20.plan {t:PB} (h:Xz t) {ks:List KE} (hk:X20 t ks) {i:Nat} {e:KE} (he:ks[i]?=some e) (hs:hoC e.1 t.st=true) {p:List Nat} (hp:X2J ks i p):X1N t p:=by
 obtain⟨_,E,h1,h2⟩:=Zd4 h hk hp he h.st hs;exact⟨E,h1,h2⟩
theorem Z7c {t:PB} {S E:Nat} (h:X1w t S [] E):E=S:=h
def X3u (k:Nat):List PV := [.val (.int .i64 (k:Int))]
def inL (l:List Nat):List (List PV):=l.map X3u
theorem Zy (l:List Nat):X2 (inL l):=Zc (enc:=X3u) (fun _=>⟨Yt,Yt⟩) l
theorem Z3t (l:List Nat):(inL l).length=l.length:=by simp [inL]
theorem Zi0 (l:List Nat) (k:Nat):inL l ++ [X3u k]=inL (l ++ [k]):=by simp [inL]
theorem ZbP {α:Type} {out out':List α} (h:out <+: out') {i:Nat} {S:α} (hs:out[i]?=some S):out'[i]?=some S:=by
 obtain⟨u,rfl⟩:=h;rw [YG (Y8.1 hs).1]; exact hs
theorem pre_get' {α:Type} {out out':List α} (h:out <+: out') {i:Nat} {S:α} (hs:out'[i]?=some S) (hi:i<out.length):out[i]?=some S:=by
 obtain⟨u,rfl⟩:=h
 rwa [YG hi] at hs
def orL:List Nat->Nat
 | []=>0
 | x :: r=>x ||| orL r
theorem ZbQ (i:Nat):∀ l:List Nat,(orL l).testBit i=true↔∃ x∈l,x.testBit i=true
 | []=>by simp [orL]
 | x :: r => by
   rw [orL,Y00,YP,ZbQ i r];simp
noncomputable def X1d (l:List Pr) (c:Cu):Nat:=orL ((mem (c.1 ||| c.2)).map (sen l))
theorem Z9c {l:List Pr} {c:Cu} (h64:XA c) {b r:Nat} (hb:c.1.testBit b=true \/ c.2.testBit b=true) (hr:(sen l b).testBit r=true):(X1d l c).testBit r=true:=by
 unfold X1d;rw [ZbQ];refine⟨sen l b,Y1P ((Z15 (Z1X h64.1 h64.2)).2 ?_),hr⟩;rw [Y00,YP]; exact hb
theorem Z6q {l:List Pr} (hl:XL l) (s b:Nat) (hs:s<18446744073709551616):(clo l s).testBit b=true↔∃ r,s.testBit r=true/\1<=r/\(sen l b).testBit r=true:=by
 rw [Zfz _ _ hs];refine Y3T fun r=>Y2y fun _=>Y2y fun _=>?_;rw [Z6Q hl,Z4G hl];exact or_congr_right eq_comm
theorem Zi1 {l:List Pr} (hl:XL l) {s s':Nat} (hs:s<18446744073709551616) (hs':s'<18446744073709551616) (b:Nat) (he:∀ r,1<=r->(sen l b).testBit r=true->s.testBit r=s'.testBit r):(clo l s).testBit b=(clo l s').testBit b:=by
 rw [YO,Z6q hl s b hs,Z6q hl s' b hs'];constructor
 . rintro ⟨r, h1, h2, h3⟩;exact⟨r,by rw [<- he r h2 h3]; exact h1,h2,h3⟩
 . rintro ⟨r, h1, h2, h3⟩;exact⟨r,by rw [he r h2 h3]; exact h1,h2,h3⟩
theorem Z4v {l:List Pr} (hl:XL l) {c:Cu} (h64:XA c) {s s':Nat} (hs:s<18446744073709551616) (hs':s'<18446744073709551616) (he:∀ r,1<=r->(X1d l c).testBit r=true->s.testBit r=s'.testBit r):hoC c (clo l s)=hoC c (clo l s'):=by
 have key:∀ b,(c.1.testBit b=true \/ c.2.testBit b=true)->(clo l s).testBit b=(clo l s').testBit b:=fun b hb=>Zi1 hl hs hs' b fun r h1 hr=>he r h1 (Z9c h64 hb hr);rw [YO,Z1a,Z1a];refine and_congr (forall_congr' fun i=>Y3l fun hi=>?_) (forall_congr' fun i=>Y3l fun hi=>?_)
 . rw [key i (.inl hi)]
 . rw [key i (.inr hi)]
structure X42 (t:PB) (R:Nat):Prop where
 gl:∀ c∈t.gl,∀ r,1<=r->(X1d t.l c).testBit r=true->R.testBit r=true
 rs:∀ x∈t.rs,x.rev=false->R.testBit x.tg=true->∀ r,1<=r->(X1d t.l x.cu).testBit r=true->R.testBit r=true
 nv:∀ c∈t.nv,X1d t.l c &&& R≠0->∀ r,1<=r->(X1d t.l c).testBit r=true->R.testBit r=true
noncomputable def kzL (t:PB) (R:Nat):List (RU×Nat):=t.rs.zipIdx.filter fun q=>R.testBit q.1.tg
noncomputable def X1U (t:PB) (R:Nat):List Nat:=(kzL t R).map (·.2)
noncomputable def Xm (t:PB) (R:Nat):PB:={ t with st:=t.st &&& R,rs:=(kzL t R).map (·.1),nv:=t.nv.filter fun c=>decide (X1d t.l c &&& R≠0) }
theorem Zg8 {t:PB} {R:Nat} {q:RU×Nat} (h:q∈kzL t R):t.rs[q.2]?=some q.1/\R.testBit q.1.tg=true:=by
 obtain⟨h1,h2⟩:=Y18.1 h;exact⟨Y1w.1 h1,h2⟩
theorem Z3u {t:PB} {R:Nat} {x:RU}:x∈(Xm t R).rs↔x∈t.rs/\R.testBit x.tg=true:=by
 constructor
 . intro h;obtain⟨q,hq,rfl⟩:=Y0i.1 h;exact⟨Y13 (Zg8 hq).1,(Zg8 hq).2⟩
 . rintro ⟨h, hR⟩;obtain⟨i,hi,rfl⟩:=Y1Y.1 h;exact Y0i.2 ⟨(t.rs[i],i),Y18.2 ⟨Y1w.2 (Y0c hi),hR⟩,rfl⟩
theorem Zjy {t:PB} {R:Nat} {j:Nat} {x:RU} (h:(Xm t R).rs[j]?=some x):∃ i,(X1U t R)[j]?=some i/\t.rs[i]?=some x/\R.testBit x.tg=true:=by
 have h:((kzL t R).map (·.1))[j]?=some x:=h;rw [Y0y] at h;cases hq:(kzL t R)[j]? with
 | none=>rw [hq] at h; cases h
 | some q =>
   rw [hq] at h;cases h;have:=Zg8 (Y13 hq);exact⟨q.2,by unfold X1U; rw [Y0y,hq]; rfl,this.1,this.2⟩
theorem Z2Z {a:Nat} (h:a<18446744073709551616) (b:Nat):a &&& b<18446744073709551616:=Y02 Y1s h
section
variable {t:PB} (h:Xz t) {R:Nat} (hR:X42 t R)
include h
theorem Xz.c64 {c:Cu} (hc:c∈t.nv \/ c∈t.gl):XA c:=by
 rcases hc with hc|hc
 . exact (h.nv c hc).1.lt h.n.2
 . exact (h.gl c hc).1.lt h.n.2
include hR
theorem Z2G {S:Nat} (hS:InS t S) (hg:Xq t S=true):Xq (Xm t R) (S &&& R)=true:=by
 have h64:=hS.lt h.n.2;unfold Xq soC at hg ⊢;rw [Y12,Y24] at hg ⊢;intro c hc;obtain⟨hc1,hc2⟩:=Y18.1 (show c∈t.nv.filter _ from hc);have:=Z4v h.good.small (h.c64 (.inl hc1)) h64 (Z2Z h64 R) fun r h1 hr=>by
  rw [Y0z,hR.nv c hc1 (Y0u hc2) r h1 hr,Y1k]
 show ¬ hoC c (clo t.l (S &&& R))=true;rw [<- this];exact hg c hc1
theorem Zec {S:Nat} (hS:InS t S) (hg:Xq (Xm t R) (S &&& R)=true) (ho:∀ i,1<=i->R.testBit i=false->S.testBit i=t.st.testBit i):Xq t S=true:=by
 have h64:=hS.lt h.n.2;unfold Xq soC at hg ⊢;rw [Y12,Y24] at hg ⊢;intro c hc;by_cases hd:X1d t.l c &&& R≠0
 . have := Z4v h.good.small (h.c64 (.inl hc)) h64 (Z2Z h64 R) fun r h1 hr => by
    rw [Y0z,hR.nv c hc hd r h1 hr,Y1k]
   rw [this];exact hg c (Y18.2 ⟨hc,Yw hd⟩)
 . have hd : X1d t.l c &&& R = 0 := Y3z.1 hd;have:=Z4v h.good.small (h.c64 (.inl hc)) h64 (InS.lt h.n.2 h.st) fun r h1 hr=>by
    refine ho r h1 (YB.2 fun hb=>?_);have:(X1d t.l c &&& R).testBit r=true:=by rw [Y0z,hr,hb]; rfl
    rw [hd] at this; simp at this
   rw [this];have hs:=h.sg;unfold soC at hs;rw [Y24] at hs;exact hs c hc
theorem Z5F {S:Nat} (hS:InS t S):XB (Xm t R) (S &&& R)=XB t S:=by
 have h64:=hS.lt h.n.2;show t.gl.any (fun c=>hoC c (clo t.l (S &&& R)))=t.gl.any fun c=>hoC c (clo t.l S);rw [YO,Y01,Y01];refine Y3T fun c=>Y2y fun hc=>?_;rw [Z4v h.good.small (h.c64 (.inr hc)) h64 (Z2Z h64 R) fun r h1 hr=>by rw [Y0z,hR.gl c hc r h1 hr,Y1k]]
theorem Z4H:Xz (Xm t R) where
 n:=h.n
 good:=h.good
 lk:=h.lk
 st:=Xg.2 fun i hi=>by
  have:(t.st &&& R).testBit i=true:=hi;rw [Y0z,Y0k] at this;exact Xg.1 h.st i this.1
 rl:=by
  show ((kzL t R).map _).length<=64;rw [Y0f];refine Y03 (Y1J ..) ?_;rw [Y4i]; exact h.rl
 rs:=fun r hr=>h.rs r (Z3u.1 hr).1
 nl:=Y03 (Y1J ..) h.nl
 nv:=fun c hc=>h.nv c (Y18.1 (show c∈t.nv.filter _ from hc)).1
 gk:=h.gk
 gl:=h.gl
 sg:=by
  have:=Z2G h hR h.st h.sgood;unfold Xq at this
  rwa [Y12] at this
theorem Z3a {x:RU} (hx:x∈t.rs) (ht:R.testBit x.tg=true) {S:Nat} (hS:InS t S):Xo x (S &&& R)=Xo x S &&& R:=YF fun i=>by
 have h64:=hS.lt h.n.2;have hl:x.tg<64:=by have:=(h.rs x hx).tg; omega
 rw [Y0z,ZQ hl (Z2Z h64 R),ZQ hl h64];by_cases hi:i=x.tg
 . subst hi; rw [Y5 rfl,Y5 rfl,ht,Y1k]
 . rw [Y6 hi,Y6 hi,Y0z]
theorem Zab {x:RU} (hx:x∈t.rs) (ht:R.testBit x.tg=false) {S:Nat} (hS:InS t S):Xo x S &&& R=S &&& R:=YF fun i=>by
 have h64:=hS.lt h.n.2;have hl:x.tg<64:=by have:=(h.rs x hx).tg; omega
 rw [Y0z,ZQ hl h64,Y0z];by_cases hi:i=x.tg
 . subst hi; rw [ht,Y47,Y47]
 . rw [Y6 hi]
theorem Zac {x:RU} (hx:x∈t.rs) (ht:R.testBit x.tg=true) {S:Nat} (hS:InS t S) (hs:XU t x S=true):XU (Xm t R) x (S &&& R)=true:=by
 have h64:=hS.lt h.n.2;have hl:x.tg<64:=by have:=(h.rs x hx).tg; omega
 unfold XU at hs ⊢;rw [Y0k,Y0k,Y0n,Z2v hl h64] at hs;rw [Y0k,Y0k,Y0n,Z2v hl (Z2Z h64 R)];refine⟨by rw [Y0z,ht,Y1k]; exact hs.1,?_,?_⟩
 . rw [Z3a h hR hx ht hS];exact Z2G h hR (Z2e h hx hS) hs.2.1
 . have h2 := hs.2.2;cases hv:x.rev with
   | true=>rfl
   | false =>
     rw [hv] at h2;have:=Z4v h.good.small ((h.rs x hx).cu.lt h.n.2) h64 (Z2Z h64 R) fun r h1 hr=>by
      rw [Y0z,hR.rs x hx hv ht r h1 hr,Y1k]
     show (false||hoC x.cu (clo t.l (S &&& R)))=true;rw [<- this]; exact h2
theorem Zed {x:RU} (hx:x∈t.rs) (ht:R.testBit x.tg=true) {S:Nat} (hS:InS t S) (hs:XU (Xm t R) x (S &&& R)=true) (ho:∀ i,1<=i->R.testBit i=false->S.testBit i=t.st.testBit i):XU t x S=true:=by
 have h64:=hS.lt h.n.2;have hl:x.tg<64:=by have:=(h.rs x hx).tg; omega
 unfold XU at hs ⊢;rw [Y0k,Y0k,Y0n,Z2v hl (Z2Z h64 R)] at hs;rw [Y0k,Y0k,Y0n,Z2v hl h64];obtain⟨h1,h2,h3⟩:=hs;rw [Y0z,ht,Y1k] at h1;refine⟨h1,?_,?_⟩
 . rw [Z3a h hR hx ht hS] at h2;refine Zec h hR (Z2e h hx hS) h2 fun i h1 hi=>?_;rw [ZQ hl h64,Y6 (fun e=>by subst e; rw [ht] at hi; cases hi)];exact ho i h1 hi
 . cases hv : x.rev with
   | true=>rfl
   | false =>
     rw [hv] at h3;have:=Z4v h.good.small ((h.rs x hx).cu.lt h.n.2) h64 (Z2Z h64 R) fun r h1 hr=>by
      rw [Y0z,hR.rs x hx hv ht r h1 hr,Y1k]
     rw [this]; exact h3
theorem Zad:∀ (p:List Nat) {S E':Nat},InS t S->(∀ i,1<=i->R.testBit i=false->S.testBit i=t.st.testBit i)->X1w (Xm t R) (S &&& R) p E' ->
 (∀ k∈p,k<(X1U t R).length)/\∃ E,X1w t S (p.map fun j=>(X1U t R).getD j 0) E/\E &&& R=E'/\InS t E
 | [],S,E',hS,ho,hr=>⟨fun k hk=>absurd hk (by simp),S,rfl,hr.symm,hS⟩
 | j :: p, S, E', hS, ho, ⟨x, hx, hs, hr⟩ => by
   obtain⟨i,hi,hxi,ht⟩:=Zjy hx;have hm:=Y13 hxi;have h64:=hS.lt h.n.2;have hl:x.tg<64:=by have:=(h.rs x hm).tg; omega
   rw [Z3a h hR hm ht hS] at hr
   obtain⟨h0,E,h1,h2,h3⟩:=Zad p (Z2e h hm hS) (fun i h1 hi=>by
    rw [ZQ hl h64,Y6 (fun e=>by subst e; rw [ht] at hi; cases hi)]
    exact ho i h1 hi) hr
   refine⟨fun k hk=>?_,E,⟨x,?_,Zed h hR hm ht hS hs ho,h1⟩,h2,h3⟩
   . rcases Y9.1 hk with rfl | hk
     . exact (Y8.1 hi).1
     . exact h0 k hk
   . show t.rs[(X1U t R).getD j 0]? = some x;rw [Y0b,hi]; exact hxi
theorem Zae {S:Nat} (ha:X1F t S):X1F (Xm t R) (S &&& R):=by
 have hin:∀ {S},InS t S->InS (Xm t R) (S &&& R):=fun {S} hS=>Xg.2 fun i hi=>by
  rw [Y0z,Y0k] at hi;exact Xg.1 hS i hi.1
 induction ha with
 | base hS hg hr=>exact .base (hin hS) (Z2G h hR hS hg) (by rw [Z5F h hR hS]; exact hr)
 | @step S x hS hg hx hs _ ih =>
   by_cases ht:R.testBit x.tg=true
   . rw [<- Z3a h hR hx ht hS] at ih;exact .step (hin hS) (Z2G h hR hS hg) (Z3u.2 ⟨hx,ht⟩) (Zac h hR hx ht hS hs) ih
   . have ht : R.testBit x.tg = false := YB.2 ht;rw [Zab h hR hx ht hS] at ih;exact ih
theorem Z8e {p:List Nat} (hp:X1N (Xm t R) p):(∀ k∈p,k<(X1U t R).length)/\X1N t (p.map fun j=>(X1U t R).getD j 0):=by
 obtain⟨E',h1,h2⟩:=hp;obtain⟨h0,E,h3,rfl,h4⟩:=Zad h hR p h.st (fun _ _ _=>rfl) h1;exact⟨h0,E,h3,by rw [<- Z5F h hR h4]; exact h2⟩
theorem Z8f:X1F (Xm t R) (Xm t R).st↔X1F t t.st:=by
 constructor
 . intro ha;obtain⟨p,E,h1,h2⟩:=Zd5 ha;exact (Z8e h hR ⟨E,h1,h2⟩).2.able h
 . exact Zae h hR
end
structure X4C (t:PB) (V:Nat->Prop):Prop where
 st:¬ V t.st
 tg:∀ S,InS t S->Xq t S=true->XB t S=true->V S
 cl:∀ S,InS t S->Xq t S=true->∀ x∈t.rs,XU t x S=true->V (Xo x S)->V S
theorem X4C.not_able {t:PB} (h:Xz t) {V:Nat->Prop} (hv:X4C t V):¬ X1F t t.st:=by
 have key:∀ {S},X1F t S->V S:=fun {S} ha=>by
  induction ha with
  | base hS hg hr=>exact hv.tg _ hS hg hr
  | step hS hg hx hs _ ih=>exact hv.cl _ hS hg _ hx hs ih
 exact fun ha=>hv.st (key ha)
def X1W (R:Nat) (c:Cu):Cu:=(c.1 &&& R,c.2 &&& R)
theorem ZkE {R S:Nat} {c:Cu} (h:hoC c (S &&& R)=true):hoC (X1W R c) S=true:=by
 rw [Z1a] at h ⊢;refine⟨fun i hi=>?_,fun i hi=>?_⟩
 . have hi : (c.1 &&& R).testBit i = true := hi;rw [Y0z,Y0k] at hi;have:=h.1 i hi.1;rw [Y0z,Y0k] at this;exact this.1
 . have hi : (c.2 &&& R).testBit i = true := hi;rw [Y0z,Y0k] at hi;have:=h.2 i hi.1
   rwa [Y0z,hi.2,Y1k] at this
theorem ZkF {R S:Nat} {c:Cu} (he:emC c=false) (h:hoC (X1W R c) S=true):∃ T,hoC c T=true/\T &&& R=S &&& R/\T=(S &&& R) ||| c.1:=by
 rw [Z1a] at h;have hcc:∀ i,c.1.testBit i=true->c.2.testBit i=false:=fun i hi=>by
  refine YB.2 fun hb=>?_;have:emC c=true:=by
   unfold emC;refine Yw fun h0=>?_;have:(c.1 &&& c.2).testBit i=true:=by rw [Y0z,hi,hb]; rfl
   rw [h0] at this; simp at this
  rw [he] at this; cases this
 have hand:((S &&& R) ||| c.1) &&& R=S &&& R:=YF fun i=>by
  rw [Y0z,Y00,Y0z];cases hr:R.testBit i with
  | false=>simp
  | true =>
    cases hc:c.1.testBit i with
    | false=>simp
    | true =>
      have:=h.1 i (by show (c.1 &&& R).testBit i=true; rw [Y0z,hc,hr]; rfl);simp [this]
 refine⟨_,(Z1a _ _).2 ⟨fun i hi=>?_,fun i hi=>?_⟩,hand,rfl⟩
 . rw [Y00,hi,Y3v]
 . rw [Y00, Y0z];have h1:c.1.testBit i=false:=YB.2 fun hb=>by rw [hcc i hb] at hi; cases hi
   rw [h1,Y4S];cases hr:R.testBit i with
   | false=>simp
   | true =>
     have:=h.2 i (by show (c.2 &&& R).testBit i=true; rw [Y0z,hi,hr]; rfl);rw [this]; rfl
section
variable {t:PB} (h:Xz t) {R:Nat} (hR:X42 t R)
include h hR
theorem Zi2 {l:List Cu} (hl:∀ c∈l,InM (mkN t.n) c/\emC c=false) (ha:∀ S,InS t S->Xq (Xm t R) S=true->(soC l S=true↔X1F (Xm t R) S)) (hno:¬ X1F t t.st):X4C t fun S=>soC (l.map (X1W R)) S=true:=by
 have hin:∀ {S},InS t S->InS t (S &&& R):=fun {S} hS=>Xg.2 fun i hi=>by
  rw [Y0z,Y0k] at hi;exact Xg.1 hS i hi.1
 have key:∀ S,InS t S->Xq t S=true->(soC (l.map (X1W R)) S=true↔X1F (Xm t R) (S &&& R)):=fun S hS hg=>by
  have hgp:=Z2G h hR hS hg;constructor
  . intro hv;unfold soC at hv;rw [Y01] at hv;obtain⟨d,hd,hh⟩:=hv;obtain⟨c,hc,rfl⟩:=Y0i.1 hd;obtain⟨T,h1,h2,h3⟩:=ZkF (hl c hc).2 hh;have hT:InS t T:=Xg.2 fun i hi=>by
     rw [h3,Y00,YP] at hi;rcases hi with hi|hi
     . exact Xg.1 (hin hS) i hi
     . exact Xg.1 (hl c hc).1.1 i hi
    have hgT:Xq (Xm t R) T=true:=by
     unfold Xq soC at hgp ⊢;rw [Y12,Y24] at hgp ⊢;intro c' hc';obtain⟨hc1,hc2⟩:=Y18.1 (show c'∈t.nv.filter _ from hc');have:=Z4v h.good.small (h.c64 (.inl hc1)) (hT.lt h.n.2) ((hin hS).lt h.n.2) fun r h1 hr=>by
      have:=congrArg (fun n=>n.testBit r) h2;simp only [Y0z,hR.nv c' hc1 (Y0u hc2) r h1 hr,Y1k] at this;rw [this,Y0z,hR.nv c' hc1 (Y0u hc2) r h1 hr,Y1k]
     show ¬ hoC c' (clo t.l T)=true;rw [this];exact hgp c' hc'
    have hsl:soC l T=true:=Y01.2 ⟨c,hc,h1⟩;have hat:=(ha T hT hgT).1 hsl
    -- the slice of the slice is the slice
    have hrel:X42 (Xm t R) R:=⟨hR.gl,fun x hx=>hR.rs x (Z3u.1 hx).1,fun c hc=>hR.nv c (Y18.1 (show c∈t.nv.filter _ from hc)).1⟩
    have hproj:∀ {S},X1F (Xm t R) S->X1F (Xm t R) (S &&& R):=fun {S} hb=>by
     induction hb with
     | base hS' hg' hr' =>
       have hin':InS (Xm t R) _:=hin hS';refine .base hin' ?_ ?_
       . have := Z2G (Z4H h hR) hrel hS' hg';unfold Xq soC at this hg' ⊢;rw [Y12,Y24] at this hg' ⊢;intro c' hc';obtain⟨hc1,hc2⟩:=Y18.1 (show c'∈t.nv.filter _ from hc');have e:=Z4v h.good.small (h.c64 (.inl hc1)) ((hin hS').lt h.n.2) (hS'.lt h.n.2) fun r h1 hr=>by
          rw [Y0z,hR.nv c' hc1 (Y0u hc2) r h1 hr,Y1k]
         show ¬ hoC c' (clo t.l _)=true;rw [e]; exact hg' c' hc'
       . have := Z5F (Z4H h hR) hrel hS';exact this.trans hr'
     | @step S x hS' hg' hx' hs' _ ih =>
       obtain⟨hx0,ht⟩:=Z3u.1 hx';have e:=Z3a h hR hx0 ht hS';rw [<- e] at ih;have hin':InS (Xm t R) _:=hin hS';have hgS:Xq (Xm t R) (S &&& R)=true:=by
        unfold Xq soC at hg' ⊢;rw [Y12,Y24] at hg' ⊢;intro c' hc';obtain⟨hc1,hc2⟩:=Y18.1 (show c'∈t.nv.filter _ from hc');have e:=Z4v h.good.small (h.c64 (.inl hc1)) ((hin hS').lt h.n.2) (hS'.lt h.n.2) fun r h1 hr=>by
         rw [Y0z,hR.nv c' hc1 (Y0u hc2) r h1 hr,Y1k]
        show ¬ hoC c' (clo t.l _)=true;rw [e]; exact hg' c' hc'
       refine .step hin' hgS hx' ?_ ih;have h64:=hS'.lt h.n.2;have hl':x.tg<64:=by have:=(h.rs x hx0).tg; omega
       unfold XU at hs' ⊢;rw [Y0k,Y0k,Y0n,Z2v hl' h64] at hs';rw [Y0k,Y0k,Y0n,Z2v hl' (Z2Z h64 R)];refine⟨by rw [Y0z,ht,Y1k]; exact hs'.1,ih.good.2,?_⟩;have h2:=hs'.2.2;cases hv:x.rev with
       | true=>rfl
       | false =>
         rw [hv] at h2;have:=Z4v h.good.small ((h.rs x hx0).cu.lt h.n.2) h64 (Z2Z h64 R) fun r h1 hr=>by
          rw [Y0z,hR.rs x hx0 hv ht r h1 hr,Y1k]
         show (false||hoC x.cu (clo t.l (S &&& R)))=true;rw [<- this]; exact h2
    have:=hproj hat
    rwa [h2] at this
  . intro hab;have:=(ha (S &&& R) (hin hS) hgp).2 hab;unfold soC at this ⊢;rw [Y01] at this ⊢;obtain⟨c,hc,hh⟩:=this;exact⟨_,Y1P hc,ZkE hh⟩
 refine⟨fun hv=>hno ((Z8f h hR).1 ((key _ h.st h.sgood).1 hv)),fun S hS hg hr=>(key S hS hg).2 (Zae h hR (.base hS hg hr)),fun S hS hg x hx hs hv=>?_⟩;have hn:=Z2e h hx hS;have hab:=(key _ hn (Z8d hs)).1 hv;refine (key S hS hg).2 ?_;by_cases ht:R.testBit x.tg=true
 . rw [<- Z3a h hR hx ht hS] at hab;exact .step (hin hS) (Z2G h hR hS hg) (Z3u.2 ⟨hx,ht⟩) (Zac h hR hx ht hS hs) hab
 . rwa [Zab h hR hx (YB.2 ht) hS] at hab
end
structure X5z (t:PB):Prop where
 nv:t.nv = []
 rs:∀ x∈t.rs,x.cu.2=0
 gl:∀ c∈t.gl,c.2=0
theorem Zd6 {c:Cu} (h:c.2=0) {S:Nat}:hoC c S=true↔∀ i,c.1.testBit i=true->S.testBit i=true:=by
 rw [Z1a,h];simp
structure X6W (t:PB) (set:Nat) (used:List Nat):Prop where
 run:X1w t t.st used set
 up:∀ i,t.st.testBit i=true->set.testBit i=true
 ins:InS t set
 nd:used.length<=64
noncomputable def X3E (t:PB) (set:Nat) (x:RU):Bool := !x.rev&&(!set.testBit x.tg&&decide (x.cu.1 ||| clo t.l set=clo t.l set))
section
variable {t:PB} (h:Xz t) (hf:X5z t)
include h hf
theorem Zg9 (S:Nat):Xq t S=true:=by
 unfold Xq; rw [hf.nv]; rfl
theorem Zi3 {set:Nat} {used:List Nat} (hi:X6W t set used) (hu:used.length<64) {k:Nat} {x:RU} (hx:t.rs[k]?=some x) (hb:X3E t set x=true):X6W t (set ||| 2 ^ x.tg) (used ++ [k]):=by
 have hm:=Y13 hx;have hl:x.tg<64:=by have:=(h.rs x hm).tg; omega
 have h64:=hi.ins.lt h.n.2;unfold X3E at hb;rw [Y0k,Y0k,Y12,Y12,Y0n] at hb;obtain⟨hr,ht,hc⟩:=hb;have hn:Xo x set=set ||| 2 ^ x.tg:=by unfold Xo; rw [hr]; rfl
 have hs:XU t x set=true:=by
  unfold XU;rw [Y0k,Y0k,Y0n,Z2v hl h64,Zg9 h hf,hr];exact⟨ht,rfl,(Zd6 (hf.rs x hm)).2 fun i hi=>Xg.1 hc i hi⟩
 refine⟨?_,fun i hi'=>?_,?_,?_⟩
 . rw [<- hn]; exact Z6p used hi.run hx hs
 . rw [Y00,hi.up i hi',Y2R]
 . rw [<- hn]; exact Z2e h hm hi.ins
 . rw [Y0e,Y0s]; omega
theorem Zjz {w:PB} (hw:Xz w) {R:Nat} (hwR:X42 w R) (htw:t=Xm w R) {R':Nat} (hR':X42 t R') (hsub:∀ i,R'.testBit i=true->R.testBit i=true) {fin:Nat} (hfi:InS t fin) (hup:∀ i,t.st.testBit i=true->fin.testBit i=true)
 (hend:∀ x∈t.rs,X3E t fin x=false) (hno:XB t fin=false):X4C w fun S=>∃ r,R'.testBit r=true/\fin.testBit r=false/\S.testBit r=true:=by
 have hgl:w.gl=t.gl:=by rw [htw]; rfl
 have hll:w.l=t.l:=by rw [htw]; rfl
 have f64:=hfi.lt h.n.2;have below:∀ {S},InS w S->¬ (∃ r,R'.testBit r=true/\fin.testBit r=false/\S.testBit r=true)->∀ {c:Cu},XA c->c.2=0->(∀ r,1<=r->(X1d t.l c).testBit r=true->R'.testBit r=true)->hoC c (clo w.l S)=true->∀ i,c.1.testBit i=true->(clo t.l fin).testBit i=true:=by
  intro S hS hv c h64 hc hd hh i hi;have S64:=hS.lt hw.n.2;rw [hll,Zd6 hc] at hh;have:=hh i hi;rw [Z6q h.good.small S i S64] at this;rw [Z6q h.good.small fin i f64];obtain⟨r,h1,h2,h3⟩:=this;refine⟨r,?_,h2,h3⟩;cases hb:fin.testBit r with
  | true=>rfl
  | false=>exact absurd ⟨r,hd r h2 (Z9c h64 (.inl hi) h3),hb,h1⟩ hv
 refine⟨?_,fun S hS hg hr=>?_,fun S hS hg x hx hs hv=>?_⟩
 . rintro ⟨r, h1, h2, h3⟩;have:t.st.testBit r=true:=by
    rw [htw]; show (w.st &&& R).testBit r=true;rw [Y0z,h3,hsub r h1]; rfl
   rw [hup r this] at h2; cases h2
 . apply YV;intro hv;unfold XB soC at hr hno;rw [Y01,hgl] at hr;rw [Y24] at hno;obtain⟨c,hc,hh⟩:=hr;exact hno c hc ((Zd6 (hf.gl c hc)).2 (below hS hv (h.c64 (.inr hc)) (hf.gl c hc) (hR'.gl c hc) hh))
 . apply YV;intro hvS;obtain⟨r,h1,h2,h3⟩:=hv;have S64:=hS.lt hw.n.2;have hl:x.tg<64:=by have:=(hw.rs x hx).tg; omega
   rw [ZQ hl S64] at h3;by_cases hrt:r=x.tg
   . subst hrt;rw [Y5 rfl,Y12] at h3;have hxt:x∈t.rs:=by rw [htw]; exact Z3u.2 ⟨hx,hsub _ h1⟩
     have hcond:hoC x.cu (clo w.l S)=true:=by
      unfold XU at hs;rw [Y0k,Y0k,h3] at hs;exact hs.2.2
     have:=below hS hvS ((h.rs x hxt).cu.lt h.n.2) (hf.rs x hxt) (hR'.rs x hxt h3 h1) hcond;have he:=hend x hxt;unfold X3E at he;rw [h3,h2,Yw (Xg.2 this)] at he;cases he
   . rw [Y6 hrt] at h3;exact hvS ⟨r,h1,h2,h3⟩
end
theorem X4C.congr {t:PB} {V W:Nat->Prop} (h:X4C t V) (hw:∀ S,V S↔W S):X4C t W:=⟨fun hv=>h.st ((hw _).2 hv),fun S a b c=>(hw S).1 (h.tg S a b c),fun S a b x hx hs hv=>(hw S).1 (h.cl S a b x hx hs ((hw _).2 hv))⟩
structure X59 (t:PB) (R:Nat):Prop where
 gl:∀ c∈t.gl,X1d t.l c ||| R=R
 rs:∀ x∈t.rs,x.rev=false->R.testBit x.tg=true->X1d t.l x.cu ||| R=R
 nv:∀ c∈t.nv,X1d t.l c &&& R≠0->X1d t.l c ||| R=R
theorem X59.ok {t:PB} {R:Nat} (h:X59 t R):X42 t R :=
 ⟨fun c hc r _ hr=>Xg.1 (h.gl c hc) r hr,fun x hx hv ht r _ hr=>Xg.1 (h.rs x hx hv ht) r hr,fun c hc hd r _ hr=>Xg.1 (h.nv c hc hd) r hr⟩
structure X12 (t:PB) (R:Nat):Prop where
 a:X59 t R
 lt:R<18446744073709551616
 least:∀ R',X59 t R'->R ||| R'=R'
theorem Z7d {a b:Nat} (h1:a ||| b=b) (h2:b ||| a=a):a=b:=by rw [<- h2,Y4D]; exact h1
theorem X12.uniq {t:PB} {R R':Nat} (h:X12 t R) (h':X12 t R'):R=R':=Z7d (h.least R' h'.a) (h'.least R h.a)
structure X4D (t:PB) (acc:Nat):Prop where
 lt:acc<18446744073709551616
 least:∀ R',X59 t R'->acc ||| R'=R'
theorem Z4m {a b c:Nat} (h1:a ||| b=b) (h2:b ||| c=c):a ||| c=c:=Xg.2 fun i hi=>Xg.1 h2 i (Xg.1 h1 i hi)
theorem Zga {a b c:Nat} (h1:a ||| c=c) (h2:b ||| c=c):(a ||| b) ||| c=c:=by rw [Y3t,h2,h1]
theorem Z8g (a b:Nat):a ||| (a ||| b)=a ||| b:=by rw [<- Y3t,Nat.or_self]
theorem ZkG (a b:Nat):b ||| (a ||| b)=a ||| b:=by rw [Y4D a b]; exact Z8g b a
theorem X4D.zero (t:PB):X4D t 0:=⟨by decide,fun R' _=>Y3m R'⟩
theorem X4D.add {t:PB} {acc d:Nat} (h:X4D t acc) (hd:d<18446744073709551616) (hl:∀ R',X59 t R'->acc ||| R'=R'->d ||| R'=R'):X4D t (acc ||| d) :=
 ⟨Z1X h.lt hd,fun R' h'=>Zga (h.least R' h') (hl R' h' (h.least R' h'))⟩
theorem Zi4 {d a b:Nat} (h:d &&& a≠0) (hs:a ||| b=b):d &&& b≠0:=by
 intro h0;apply h;refine YF fun i=>?_;rw [Y1E,Y0z];cases hd:d.testBit i with
 | false=>rfl
 | true =>
   cases ha:a.testBit i with
   | false=>rfl
   | true =>
     have:(d &&& b).testBit i=true:=by rw [Y0z,hd,Xg.1 hs i ha]; rfl
     rw [h0] at this; simp at this
theorem Zgb {t:PB} {R:Nat} (h:X59 t R):X59 (Xm t R) R :=
 ⟨h.gl,fun x hx=>h.rs x (Z3u.1 hx).1,fun c hc=>h.nv c (Y18.1 (show c∈t.nv.filter _ from hc)).1⟩
theorem Zaf {t:PB} {R R':Nat} (h:X12 t R) (h':X12 (Xm t R) R'):R' ||| R=R:=h'.least R (Zgb h.a)
structure X67 (t:PB) (acc:Nat):Prop where
 l:X4D t acc
 gl:∀ c∈t.gl,X1d t.l c ||| acc=acc
structure X4S (t:PB) (old:Nat) (i acc:Nat):Prop where
 l:X4D t acc
 sub:old ||| acc=acc
 rs:acc=old->∀ x∈t.rs.take i,x.rev=false->old.testBit x.tg=true->X1d t.l x.cu ||| old=old
theorem Z22 {α:Type} {l:List α} {i:Nat} (h:i<l.length) {x:α}:x∈l.take (i+1)↔x∈l.take i \/ x=l[i]:=by
 rw [YY,Y0c h];show x∈l.take i ++ [l[i]]↔_;rw [Y0h,Y0g]
theorem X4S.skip {t:PB} {old i acc:Nat} (h:X4S t old i acc) (hi:i<t.rs.length) (hs:t.rs[i].rev=true \/ acc.testBit t.rs[i].tg=false):X4S t old (i+1) acc:=by
 refine⟨h.l,h.sub,fun he x hx hv ht=>?_⟩;rcases (Z22 hi).1 hx with hx|rfl
 . exact h.rs he x hx hv ht
 . rcases hs with hs | hs
   . rw [hs] at hv; cases hv
   . rw [he,ht] at hs; cases hs
theorem X4S.add {t:PB} {old i acc:Nat} (h:X4S t old i acc) (hi:i<t.rs.length) (hd:X1d t.l t.rs[i].cu<18446744073709551616) (hv:t.rs[i].rev=false) (ht:acc.testBit t.rs[i].tg=true):X4S t old (i+1) (acc ||| X1d t.l t.rs[i].cu):=by
 refine⟨h.l.add hd fun R' h' hs=>h'.rs _ (Y0j hi) hv (Xg.1 hs _ ht),Z4m h.sub (Z8g _ _),fun he x hx hv ht=>?_⟩;have h1:acc=old:=Z7d (by rw [<- he]; exact Z8g _ _) h.sub;rcases (Z22 hi).1 hx with hx|rfl
 . exact h.rs h1 x hx hv ht
 . rw [h1] at he;rw [Y4D]; exact he
structure X47 (t:PB) (old:Nat) (i acc:Nat):Prop where
 l:X4D t acc
 sub:old ||| acc=acc
 rs:acc=old->∀ x∈t.rs,x.rev=false->old.testBit x.tg=true->X1d t.l x.cu ||| old=old
 nv:acc=old->∀ c∈t.nv.take i,X1d t.l c &&& old≠0->X1d t.l c ||| old=old
theorem X4S.done {t:PB} {old acc i:Nat} (h:X4S t old i acc) (hi:t.rs.length<=i):X47 t old 0 acc :=
 ⟨h.l,h.sub,fun he=>by have:=h.rs he; rwa [Yy hi] at this,fun _ c hc=>by simp at hc⟩
theorem X47.skip {t:PB} {old i acc:Nat} (h:X47 t old i acc) (hi:i<t.nv.length) (hs:X1d t.l t.nv[i] &&& acc=0):X47 t old (i+1) acc:=by
 refine⟨h.l,h.sub,h.rs,fun he c hc hd=>?_⟩;rcases (Z22 hi).1 hc with hc|rfl
 . exact h.nv he c hc hd
 . rw [he] at hs; exact absurd hs hd
theorem X47.add {t:PB} {old i acc:Nat} (h:X47 t old i acc) (hi:i<t.nv.length) (hd:X1d t.l t.nv[i]<18446744073709551616) (hm:X1d t.l t.nv[i] &&& acc≠0):X47 t old (i+1) (acc ||| X1d t.l t.nv[i]):=by
 have h1:acc ||| X1d t.l t.nv[i]=old->acc=old:=fun he=>Z7d (by rw [<- he]; exact Z8g _ _) h.sub
 refine⟨h.l.add hd fun R' h' hs=>h'.nv _ (Y0j hi) (Zi4 hm hs),Z4m h.sub (Z8g _ _),fun he=>h.rs (h1 he),fun he c hc hm'=>?_⟩;rcases (Z22 hi).1 hc with hc|rfl
 . exact h.nv (h1 he) c hc hm'
 . have h2 := h1 he;rw [h2] at he;rw [Y4D]; exact he
theorem X47.next {t:PB} {old acc i:Nat} (h:X47 t old i acc) (hg:X67 t old):X67 t acc:=⟨h.l,fun c hc=>Z4m (hg.gl c hc) h.sub⟩
theorem X47.done {t:PB} {old i:Nat} (h:X47 t old i old) (hg:X67 t old) (hi:t.nv.length<=i):X12 t old :=
 ⟨⟨hg.gl,h.rs rfl,fun c hc=>by have:=h.nv rfl; rw [Yy hi] at this; exact this c hc⟩,h.l.lt,h.l.least⟩
theorem Zgc {a b:Nat} (h:a ||| b=b) (hn:b≠a):a<b:=Nat.lt_of_le_of_ne (by rw [<- h]; exact YZ) fun e=>hn e.symm
theorem ZiM:∀ {l:List Nat},(∀ x∈l,x<18446744073709551616)->orL l<18446744073709551616
 | [],_=>by decide
 | x :: l,h=>Z1X (h x (Y0t ..)) (ZiM fun y hy=>h y (YD _ hy))
structure X4e (t:PB) (fin:Nat) (used:List Nat):Prop where
 i:X6W t fin used
 rv:∀ k∈used,∃ x,t.rs[k]?=some x/\x.rev=false
 ln:used.length<=fin
theorem Zgd {s b:Nat} (hs:s.testBit b=false):s<s ||| 2 ^ b:=by
 refine Nat.lt_of_le_of_ne YZ fun e=>?_;have:=congrArg (fun n=>n.testBit b) e;simp only [Y00,hs,Y2P,Y3v] at this;cases this
theorem X4e.base {t:PB} (h:Xz t):X4e t t.st []:=⟨⟨rfl,fun _ h=>h,h.st,Y0l _⟩,fun k hk=>absurd hk (by simp),Y0l _⟩
theorem InS.le {t:PB} (hn:t.n<=5) {s:Nat} (h:InS t s):s<=62:=by
 have h1:s<=mkN t.n:=by rw [<- h]; exact YZ
 have h32:2 ^ t.n<=32:=YX (n:=2) (by decide) hn;unfold mkN at h1;omega
theorem X4e.step {t:PB} (h:Xz t) (hn:t.n<=5) (hf:X5z t) {fin:Nat} {used:List Nat} (hj:X4e t fin used) {k:Nat} {x:RU} (hx:t.rs[k]?=some x) (hb:X3E t fin x=true):X4e t (fin ||| 2 ^ x.tg) (used ++ [k]):=by
 have hl:=hj.ln;have hi:=InS.le hn hj.i.ins;have hb2:=hb;unfold X3E at hb2;rw [Y0k,Y0k,Y12,Y12] at hb2;have hg:=Zgd hb2.2.1;refine⟨Zi3 h hf hj.i (by omega) hx hb,fun j hm=>?_,by rw [Y0e,Y0s]; omega⟩;rcases Y0h.1 hm with hm|hm
 . exact hj.rv j hm
 . rw [Y0g] at hm; subst hm; exact⟨x,hx,hb2.1⟩
structure SaP (t:PB) (used:List Nat) (fin i S:Nat):Prop where
 pre:X1w t t.st (used.take i) S
 post:X1w t S (used.drop i) fin
theorem SaP.base {t:PB} {used:List Nat} {fin:Nat} (h:X1w t t.st used fin):SaP t used fin 0 t.st:=⟨rfl,h⟩
theorem SaP.step {t:PB} {used:List Nat} {fin i S:Nat} (h:SaP t used fin i S) (hi:i<used.length) (hrv:∀ k∈used,∃ x,t.rs[k]?=some x/\x.rev=false):∃ x,t.rs[used[i]]?=some x/\SaP t used fin (i+1) (S ||| 2 ^ x.tg):=by
 have hp:=h.post;rw [Y1C hi] at hp;obtain⟨x,hx,hs,hr⟩:=hp;obtain⟨y,hy,hv⟩:=hrv _ (Y0j hi);have:x=y:=YN (hx.symm.trans hy);subst this;have hn:Xo x S=S ||| 2 ^ x.tg:=by unfold Xo; rw [hv]; rfl
 refine⟨x,hx,?_,by rw [<- hn]; exact hr⟩;have:used.take (i+1)=used.take i ++ [used[i]]:=by rw [YY,Y0c hi]; rfl
 rw [this,<- hn];exact Z6p _ h.pre hx hs
theorem SaP.fin {t:PB} {used:List Nat} {fin i S:Nat} (h:SaP t used fin i S) (hi:used.length<=i):S=fin:=by
 have hp:=h.post;rw [Y31 hi] at hp;exact (Z7c hp).symm
theorem ZbR {t:PB} (h:Xz t):∀ (p:List Nat) {S E:Nat},InS t S->X1w t S p E->InS t E
 | [],S,E,hS,hr=>by cases hr; exact hS
 | k :: p,S,E,hS,⟨x,hx,hs,hr⟩=>ZbR h p (Z2e h (Y13 hx) hS) hr
def X5o (r:Nat):Cu:=(2 ^ r,0)
def X4O (N:Nat):List Cu:=(mem N).map X5o
theorem Zge {r R S:Nat} (hr:R.testBit r=true):hoC (X1W R (X5o r)) S=true↔S.testBit r=true:=by
 rw [Zd6 (by show (0 &&& R)=0; exact Nat.zero_and R)];constructor
 . intro h;refine h r ?_;show (2 ^ r &&& R).testBit r=true;rw [Y0z,Y2P,hr]; rfl
 . intro h i hi;have hi:(2 ^ r &&& R).testBit i=true:=hi;rw [Y0z,Y0k,YK] at hi;have:=Y0u hi.1;subst this;exact h
theorem Zi5 {w:PB} (hw:Xz w) {R R':Nat} (hR:X12 w R) (hR':X12 (Xm w R) R') (hf:X5z (Xm w R)) {fin:Nat} {used:List Nat} (hj:X4e (Xm w R) fin used) (hend:∀ x∈(Xm w R).rs,X3E (Xm w R) fin x=false) (hno:XB (Xm w R) fin=false) :
 X4C w fun S=>soC ((X4O (Xe R' fin)).map (X1W R)) S=true:=by
 have hsub:∀ i,R'.testBit i=true->R.testBit i=true:=fun i hi=>Xg.1 (Zaf hR hR') i hi;have f64:=hj.i.ins.lt hw.n.2;have hN:Xe R' fin<18446744073709551616:=Y02 Y1s hR'.lt;refine (Zjz (Z4H hw hR.a.ok) hf hw hR.a.ok rfl hR'.a.ok hsub hj.i.ins hj.i.up hend hno).congr fun S=>?_;have hb:∀ r,(Xe R' fin).testBit r=true↔R'.testBit r=true/\fin.testBit r=false:=fun r=>by
  rw [ZF hR'.lt f64];simp
 unfold soC X4O;rw [Y01];constructor
 . rintro ⟨r, h1, h2, h3⟩;exact⟨X1W R (X5o r),Y1P (Y1P ((Z15 hN).2 ((hb r).2 ⟨h1,h2⟩))),(Zge (hsub r h1)).2 h3⟩
 . rintro ⟨c, hc, hh⟩;obtain⟨d,hd,rfl⟩:=Y0i.1 hc;obtain⟨r,hr,rfl⟩:=Y0i.1 hd;obtain⟨h1,h2⟩:=(hb r).1 ((Z15 hN).1 hr);exact⟨r,h1,h2,(Zge (hsub r h1)).1 hh⟩
end
section
open Go.RowKit
attribute [local irreducible] aw Xk dK
section
variable {P:Program} {e:Env} {h:X1} {n:Nat}
theorem Z4I {d:Option Nat} {z:Rsv} {i mask:Nat} {op:AOp} {iso:Nat} {alt:Bool} {g:Nat×Bool} {xs:List X8} {K:Env->X1->Prop} (hw:X1p (some g) e=some false) (hk:dK P z n xs (Xy e d pvu) h K):dK P z n (⟨i,⟨d,op,some g⟩,mask,iso,alt⟩ :: xs) e h K:=by
 unfold dK;exact⟨_,.skip hw,fun p' f' hh=>by obtain⟨rfl,rfl⟩:=hh; exact hk⟩
end
theorem ZkH:XH 0=.agg [.vec [] false]:=by unfold XH; rw [ZM]; rfl
theorem Zi6 {x:RU} (hx:x.tg<64) {s:Nat} (hs:s<18446744073709551616):Xo x s<18446744073709551616:=by
 unfold Xo
 split
 . exact Y02 Y1s hs
 . exact Z1X hs (ZV hx)
def X6a (x:RU) (s:Nat) (ok:Bool):PV:=.tup [XH (if ok then Xo x s else 0),.val (.bool ok)]
theorem Z5k (x:RU) (s:Nat):PV.tup [.agg [.vec [] false],.val (.bool false)]=X6a x s false:=by
 show _=PV.tup [XH 0,.val (.bool false)];rw [ZkH]
theorem Zee {t:PB} (h:Xz t) (S:List Nat) (s:Nat) (hs:s<18446744073709551616) (k:Nat) (hk:k<t.rs.length):Xa Tryz.prog 45 [.agg (pbP t S),XH s,.val (.int .i64 (k:Int))] (· = X6a t.rs[k] s (XU t t.rs[k] s)):=by
 have hro:=h.rs _ (Y0j hk);have hpp:=ZD t S;have hrl:(t.rs.map ruP).length=t.rs.length:=by simp
 refine Yp ok45 fun C hC=>?_;refine Zq ?_;refine Za ?_;refine Z5 rfl rfl rfl ?_;refine Z5 rfl rfl rfl ?_;refine gd 15 ⟨?_⟩;refine ZA rfl ?_;refine Qo (Qz rfl (by omega)) ?_;refine gd 22 ⟨?_⟩;refine ZA rfl ?_;refine Qo (Qz rfl (by rw [hrl];omega)) ?_;refine gd 28 ⟨?_⟩;refine Qo (Zo (xs:=t.rs) (g:=ruP) rfl rfl k rfl hk rfl) ?_;generalize t.rs[k]=x at hro ⊢;have hxt:=hro.tg;have hx64:=hro.m.lt (by decide);have hnx:=Zi6 (x:=x) (show x.tg<64 by omega) hs;have hgood:=Ze4 h S (Xo x s) hnx;have hclo:=Z2k t.l S s hs;have hho:=Z4F x.cu (clo t.l s) hx64 (Z7W _ _);have hhas:=Z1o s hs x.tg;have hne:=Z2v (r:=x) (show x.tg<64 by omega) hs;have hw:=Z1s s hs x.tg (by omega);have hst:XU t x s=(decide (s.testBit x.tg=x.rev)&&(Xq t (Xo x s)&&(x.rev||hoC x.cu (clo t.l s)))):=by
  unfold XU;rw [Y3a.2 hne]
 rw [hst];refine gd 33 ⟨?_⟩;refine Qe hw ⟨Z2 _,Yt,Yt⟩ ?_;cases hv:x.rev
 . have hnv : Xo x s = s ||| 2 ^ x.tg := by unfold Xo; rw [hv]; rfl
   rw [<- hnv];refine gd 35 ⟨?_⟩;refine Qo (Z7 (v:=false) rfl hv) ?_;refine gd 43 ⟨?_⟩;refine Qd hhas ⟨Z2 _,Yt,Yt⟩ ?_;refine gd 45 ⟨?_⟩;refine Qr (Z7 (v:=false) rfl hv) ?_;cases hb:s.testBit x.tg
   case true =>
    repeat' (first|refine Z4I rfl ?_|(first|refine st ?_|(apply B<;>intro hb<;>try cases hb)))
    exact Z1I (r:=.tup [.agg [.vec [] true],.val (.bool false)]) rfl ⟨⟨Yt,Yt⟩,Yt,Yt⟩ (Z5k x s)
   refine gd 49 ⟨?_⟩;refine Z3J rfl ?_;refine Qr (Z7 (v:=false) rfl hv) ?_;refine gd 57 ⟨?_⟩;refine Z3J rfl ?_;refine Qd hclo ⟨Zm _ _,Z2 _,Yt⟩ ?_;refine Z3J rfl ?_;refine Qd hho ⟨Zx _,Z2 _,Yt⟩ ?_;cases hh:hoC x.cu (clo t.l s)
   case false =>
    repeat' (first|refine Z4I rfl ?_|(first|refine st ?_|(apply B<;>intro hb<;>try cases hb)))
    exact Z1I (r:=.tup [.agg [.vec [] true],.val (.bool false)]) rfl ⟨⟨Yt,Yt⟩,Yt,Yt⟩ (by cases Xq t (Xo x s)<;>exact Z5k x s)
   refine gd 65 ⟨?_⟩;refine Z3J rfl ?_;refine Qd hgood ⟨hpp,Z2 _,Yt⟩ ?_;cases hg:Xq t (Xo x s)
   case false =>
    repeat' (first|refine Z4I rfl ?_|(first|refine st ?_|(apply B<;>intro hb<;>try cases hb)))
    exact Z1I (r:=.tup [.agg [.vec [] true],.val (.bool false)]) rfl ⟨⟨Yt,Yt⟩,Yt,Yt⟩ (Z5k x s)
   repeat' (first|refine Z4I rfl ?_|(first|refine st ?_|(apply B<;>intro hb<;>try cases hb)))
   exact Z8 rfl ⟨Z2 _,Yt,Yt⟩ rfl
 . have hnv : Xo x s = Xe s (2 ^ x.tg) := by unfold Xo; rw [hv]; rfl
   have hwo:=Z1Z s hs (x.tg:Int);rw [Z3s hs (by omega),<- hnv] at hwo;refine gd 35 ⟨?_⟩;refine Qo (Z7 (v:=true) rfl hv) ?_;refine gd 39 ⟨?_⟩;refine Qe hwo ⟨Z2 _,Yt,Yt⟩ ?_;refine gd 43 ⟨?_⟩;refine Qd hhas ⟨Z2 _,Yt,Yt⟩ ?_;refine gd 45 ⟨?_⟩;refine Qr (Z7 (v:=true) rfl hv) ?_;cases hb:s.testBit x.tg
   case false =>
    repeat' (first|refine Z4I rfl ?_|(first|refine st ?_|(apply B<;>intro hb<;>try cases hb)))
    exact Z1I (r:=.tup [.agg [.vec [] true],.val (.bool false)]) rfl ⟨⟨Yt,Yt⟩,Yt,Yt⟩ (Z5k x s)
   refine gd 49 ⟨?_⟩;refine Z3J rfl ?_;refine Qr (Z7 (v:=true) rfl hv) ?_;refine gd 65 ⟨?_⟩;refine Z3J rfl ?_;refine Qd hgood ⟨hpp,Z2 _,Yt⟩ ?_;cases hg:Xq t (Xo x s)
   case false =>
    repeat' (first|refine Z4I rfl ?_|(first|refine st ?_|(apply B<;>intro hb<;>try cases hb)))
    exact Z1I (r:=.tup [.agg [.vec [] true],.val (.bool false)]) rfl ⟨⟨Yt,Yt⟩,Yt,Yt⟩ (Z5k x s)
   repeat' (first|refine Z4I rfl ?_|(first|refine st ?_|(apply B<;>intro hb<;>try cases hb)))
   exact Z8 rfl ⟨Z2 _,Yt,Yt⟩ rfl
theorem Zgf {t:PB} (h:Xz t) (S:List Nat) (p:List Nat) (fl:Bool) (hl:p.length<=1000000) {E:Nat} (hr:X1w t t.st p E):Xa Tryz.prog 17 [.agg (pbP t S),.vec (inL p) fl] (· = .tup [XH E,.val (.int .i64 (p.length:Int)),.val (.bool true)]):=by
 have hpp:=ZD t S;have hpl:=Zy p;have hlen:=Z3t p;refine Yp ok17 fun C hC=>?_;have hpc:∀ D,X26 D (pbP t S):=fun D=>ZI (fun _ h=>h.elim) _ hpp;have hpi:∀ D,Xu D (inL p):=fun D=>Ze (fun _ h=>h.elim) _ hpl;refine Zq ?_;refine Za ?_;refine Z5 rfl rfl rfl ?_;refine go ?_;refine ZB hC (fun (z:Nat×Nat)=>z.1<=p.length/\InS t z.2/\X1w t z.2 (p.drop z.1) E) (fun z=>p.length-z.1) 2 (fun z => [(1,.vec (inL p) fl),(2,.cp (pbP t S)),(4,.ptr 0 0 0),(7,.ptr 1 0 0),(18,.vec (inL p) fl),(19,.val (.int .i64 (p.length:Int))),(20,Yv z.1)]) (fun z => [(0,⟨1,[[.vec [] true]]⟩),(1,⟨1,[[.vec (X5 (X7 z.2)) false]]⟩)]) (Y0l _) (0,t.st) ⟨Y0l _,h.st,hr⟩
  ⟨⟨rfl,hpi _⟩,⟨rfl,hpc _⟩,⟨rfl,show (0:Nat)<2 by decide⟩,⟨rfl,show (1:Nat)<2 by decide⟩,⟨rfl,hpi _⟩,⟨by rw [<- hlen]; rfl,Yt⟩,⟨rfl,Yt⟩,Yt⟩ ⟨⟨by decide,rfl,⟨⟨Yt,Yt⟩,Yt⟩⟩,⟨by decide,rfl,⟨⟨Zr _ _,Yt⟩,Yt⟩⟩,Yt⟩ ?_
 rintro⟨i,s⟩ ⟨hi,hs,hrun⟩;dsimp only at hi hs hrun ⊢;have hinc:IntKind.i64.wrap ((i:Int)+1)=((i+1:Nat):Int):=Y0v _ ⟨by omega,by omega⟩;refine gd 21 ⟨?_⟩;by_cases hil:i<p.length
 . refine Qo (Qy rfl (Y2Q.2 hil)) ?_;rw [Y1C hil] at hrun;refine gd 23 ⟨?_⟩;refine Qo (Zo (xs:=p) (g:=X3u) rfl rfl i rfl hil rfl) ?_;generalize p[i]=k at hrun ⊢;obtain⟨x,hx,hst,hrun⟩:=hrun;obtain⟨hkl,rfl⟩:=Y8.1 hx;refine gd 29 ⟨?_⟩;refine Qe (Zee h S s (hs.lt h.n.2) k hkl) ⟨hpp,Z2 _,Yt,Yt⟩ ?_;rw [hst];refine go ?_;exact⟨(i+1,Xo t.rs[k] s),⟨hil,Z2e h (Y0j hkl) hs,hrun⟩,by show p.length-(i+1)<p.length-i; omega,⟨⟨rfl,hpi _⟩,⟨rfl,hpc _⟩,⟨rfl,show (0:Nat)<2 by decide⟩,⟨rfl,show (1:Nat)<2 by decide⟩,⟨rfl,hpi _⟩,⟨rfl,Yt⟩,⟨by show some _=some _; rw [hinc],Yt⟩,Yt⟩,⟨⟨by decide,rfl,⟨⟨Yt,Yt⟩,Yt⟩⟩,⟨by decide,rfl,⟨⟨Zr _ _,Yt⟩,Yt⟩⟩,Yt⟩⟩
 . refine Qo (Qz rfl (by omega)) ?_;refine go ?_;rw [Y31 (by omega)] at hrun;obtain rfl:=Z7c hrun;exact Z8 rfl ⟨Z2 _,Yt,Yt,Yt⟩ (by rw [hlen]; rfl)
def X8g (c:Cu) (lo hi:Nat):Nat:=if !decide (c.1 ||| hi=hi)||decide (c.2 &&& lo≠0) then 0 else if decide (c.1 ||| lo=lo) && !decide (c.2 &&& hi≠0) then 2 else 1
def X5r (l:List Cu) (lo hi:Nat):Nat:=l.foldl (fun a c=>max a (X8g c lo hi)) 0
structure ND where
 cl:Bool
 dr:Bool
 mu:Bool
 af:Nat
 so:List Cu
 no:List Cu
 sf:Bool
 nf:Bool
def X7d (d:ND) (x:Nat):Nat:=if 0<d.af then (if d.dr then Xe x (2 ^ d.af) else x ||| 2 ^ d.af) else x
def X5E (cl:Nat->Nat) (d:ND) (x:Nat):Nat:=if d.cl then cl (X7d d x) else X7d d x
abbrev sBx (N:Nat):Bx:=⟨1,[[.vec (X5 (X7 N)) false]]⟩
def X7Q (cl:Nat->Nat) (d:ND) (lo hi:Nat):Nat :=
 if d.mu then min (2-X5r d.no (X5E cl d lo) (X5E cl d hi)) (X5r d.so (X5E cl d lo) (X5E cl d hi)) else 2-X5r d.no (X5E cl d lo) (X5E cl d hi)
theorem Zek {α:Type} (p:α->Bool) {l:List α} {i:Nat} (hi:i<l.length):(l.take (i+1)).all p=((l.take i).all p&&p l[i]):=by
 rw [YY,Y0c hi,List.all_append];simp
theorem ZbU {α:Type} (p:α->Bool) {l:List α} {i:Nat} (h:(l.take i).all p=false):l.all p=false:=by
 apply tb2;intro h2;rw [YI] at h2;rw [List.all_eq_false] at h;obtain⟨x,hx,h3⟩:=h;exact h3 (h2 x (YM hx))
theorem Zgr {b c:Cu} {l:List Cu} (h1:emC c=false) (h2:emC (X16 c b)=true):X2c (b :: l) c=X2c l c:=by
 rw [X2c,h1,Y1G,Y5 h2]
theorem Zgs {b c:Cu} {l:List Cu} (h1:emC c=false) (h2:emC (X16 c b)=false):X2c (b :: l) c=(X25 c b).all fun x=>X2c l x:=by
 rw [X2c,h1,Y1G,Y6 (by rw [h2]; decide)]
theorem Zel:∀ (m:Nat) (l:List Cu),l.length<m->l.length<=1000000->(∀ c∈l,XA c)->∀ (c:Cu) (fl:Bool),XA c->Xa Tryz.prog 159 [cuP c,.vec (l.map cuC) fl] (· = .val (.bool (X2c l c))):=by
 intro m
 induction m with
 | zero=>intro l hm; omega
 | succ m ih =>
   intro l hm hlen hl c fl hc;have hlp:∀ (l:List Cu) D,Xu D (l.map cuC):=fun i D=>Ze (fun _ h=>h.elim) _ (Zc Zi _);refine Yp ok159 fun C hC=>?_;refine Zq ?_;refine Za ?_;refine Z5 rfl rfl rfl ?_;refine go ?_;refine Qe (Z1k c hc) ⟨Zx c,Yt⟩ ?_;cases hec:emC c
   case true =>
    refine go ?_;have h1:X2c l c=true:=by cases l<;>(unfold X2c; rw [hec]; try rfl)
    exact Z8 rfl Yt (by rw [h1])
   refine go ?_;refine ZB hC (fun (x:Nat×Bool)=>x.1<=l.length/\X2c l c=X2c (l.drop x.1) c) (fun x=>l.length-x.1) 0 (fun x => [(1,.vec ((l.drop x.1).map cuC) x.2),(2,.cp (cuC c))]) (fun _=>[]) (Y0m _) (0,fl) ⟨Y0l _,rfl⟩
    ⟨⟨rfl,hlp _ _⟩,⟨rfl,Zr _ _,Zr _ _,Yt⟩,Yt⟩ Yt ?_
   rintro⟨i,fl2⟩ ⟨hi,hcov⟩;dsimp only at hi hcov ⊢;have hrest:l.drop (i+1)=(l.drop i).drop 1:=by rw [Y4J]
   have hdl:(l.drop i).length=l.length-i:=YQ;have hmem:∀ x∈l.drop i,XA x:=fun x hx=>hl x (Y1b hx);generalize l.drop i=lr at hcov hrest hdl hmem ⊢;cases lr with
   | nil =>
     refine go ?_;exact Z8 rfl Yt (by rw [hcov,X2c,hec])
   | cons b rest =>
     have hb0:XA b:=hmem b (Y0t ..);have hro:∀ x∈rest,XA x:=fun x hx=>hmem x (YD _ hx);rw [Y04] at hdl;rw [List.drop_succ_cons,Y16] at hrest;have htd:((b :: rest).take (rest.length+1)).drop 1=rest:=by simp
     iterate 5 (first|refine st ?_|(apply B<;>intro hb<;>try cases hb))
     refine Qr (Z7 (v:=true) rfl (by simp; try omega)) ?_;refine go ?_;refine Qr (Zo (xs:=b :: rest) (g:=cuC) rfl rfl 0 rfl (Y1z _) rfl) ?_;rw [show (b :: rest)[0]=b from rfl];refine go ?_;refine Qd (Z7Z c b hc hb0) ⟨Zx c,Zx b,Yt⟩ ?_;refine go ?_;refine Qd (Z1k (X16 c b) (ZcJ hc hb0)) ⟨Zx _,Yt⟩ ?_;cases hm2:emC (X16 c b)
     case true =>
      refine go ?_;refine Qo (Zf3 (xs:=b :: rest) (g:=cuC) rfl 1 (rest.length+1) rfl (by show some _=some _; simp) (by omega) (by simp) (fun _=>rfl)) ?_;rw [htd];refine go ?_;exact⟨(i+1,false),⟨by show i+1<=_; omega,by show _=X2c (l.drop (i+1)) c; rw [hcov,hrest,Zgr hec hm2]⟩,by show _-(i+1)<_-i; omega,⟨⟨by show _=some (PV.vec ((l.drop (i+1)).map cuC) false); rw [hrest]; rfl,hlp _ _⟩,⟨rfl,Zr _ _,Zr _ _,Yt⟩,Yt⟩,Yt⟩
     have hst:=Zgs (l:=rest) hec hm2;rw [<- hcov] at hst
     iterate 14 (first|refine st ?_|(apply B<;>intro hb<;>try cases hb))
     refine go ?_;refine Qr (Zo (xs:=b :: rest) (g:=cuC) rfl rfl 0 rfl (Y1z _) rfl) ?_;rw [show (b :: rest)[0]=b from rfl];refine go ?_;refine Qd (Z89 c b hc hb0) ⟨Zx c,Zx b,Yt⟩ ?_;have hml:=ZcO c b hc;have hmo:=Zjj (b:=b) hc;generalize X25 c b=ms at hst hml hmo ⊢;have hmll:(ms.map cuC).length=ms.length:=by simp
     refine go ?_;refine ZB hC (fun j=>j<=ms.length/\((ms.take j).all fun x=>X2c rest x)=true) (fun j=>ms.length-j) 0 (fun j => [(1,.vec ((b :: rest).map cuC) fl2),(29,.vec (ms.map cuC) false),(30,.val (.int .i64 ms.length)),(31,Yv j)]) (fun _=>[]) (Y0l _) 0 ⟨Y0l _,rfl⟩
      ⟨⟨rfl,hlp _ _⟩,⟨rfl,hlp _ _⟩,⟨by rw [<- hmll]; rfl,Yt⟩,⟨rfl,Yt⟩,Yt⟩ Yt ?_
     rintro j ⟨hj,hall⟩;have hinc:IntKind.i64.wrap ((j:Int)+1)=((j+1:Nat):Int):=Y0v _ ⟨by omega,by omega⟩
     iterate 2 (first|refine st ?_|(apply B<;>intro hb<;>try cases hb))
     refine Zv rfl rfl rfl (fun hb=>?_) (fun hb=>?_)
     . have hjl : j < ms.length := by have := Y0u hb; omega
       have hxo:=hmo _ (Y0j hjl);have hsx:=Zek (fun x=>X2c rest x) hjl;rw [hall,Y1j] at hsx;clear hb;refine go ?_;refine Qo (Zo (xs:=ms) (g:=cuC) rfl rfl j rfl hjl rfl) ?_;refine go ?_;refine Qr (Zf3 (xs:=b :: rest) (g:=cuC) rfl 1 (rest.length+1) rfl (by show some _=some _; simp) (by omega) (by simp) (fun _=>rfl)) ?_;rw [htd];refine go ?_;refine Qd (ih rest (by omega) (by omega) hro ms[j] false hxo) ⟨Zx _,Zc Zi _,Yt⟩ ?_;generalize X2c rest ms[j]=v at hsx;cases v
       . refine go ?_;exact Z8 rfl Yt (by rw [hst,ZbU _ hsx])
       . refine go ?_;exact⟨j+1,⟨by omega,hsx⟩,by omega,⟨⟨rfl,hlp _ _⟩,⟨rfl,hlp _ _⟩,⟨rfl,Yt⟩,⟨by show some _=some _; rw [hinc],Yt⟩,Yt⟩,Yt⟩
     . have hjl : j = ms.length := by have := Ye hb; omega
       subst hjl;rw [Y0q] at hall;clear hb;refine go ?_;exact Z8 rfl Yt (by rw [hst,hall])
end
section
open Go.RowKit
section
variable {P:Program} {C:Ctx} {Fr:Nat->Prop} {e:Env} {h:X1} {F:XF} {φ:XD} {a:Act} {w:World}
theorem X3n.frame {f:FuncId} {b:Bx} {rest:List PV} {mk:Nat->PV} {R:Bx->Prop} (hs:X3n P f b rest mk R) (hmk:Mk mk) (hpb:X2 b.elems) (hpr:X6 rest) {k n:Nat} (hb:h k=some b) :
 XX P f n (.own k :: rest) h fun n' r h'=>∃ b',n'=n+1/\r=mk n/\h'=(h.del k).upd n b'/\X2 b'.elems/\R b':=by
 refine⟨hs.1,fun C e F φ a w vs s hv=>(hs.run hmk hpb hpr (Y0m n) hb s hv).mono ?_⟩;rintro en w' ⟨v,b',F',φ',rfl,⟨h1,h2⟩,hr,s'⟩;exact⟨v,mk n,n+1,(h.del k).upd n b',F',φ',rfl,⟨b',rfl,rfl,rfl,h1,h2⟩,hr,{ s' with free:=fun i hi=>s'.free i ⟨by omega,by omega⟩ }⟩
theorem ZjH {f:Operand} {args:List Operand} {g:FuncId} {caps as0 rest:List PV} {b:Bx} {k:Nat} {mk:Nat->PV} {R:Bx->Prop} {d:Option Nat} {os:List Xl} {n:Nat} {K:Nat->Env->X1->Prop} (hs:X3n P g b rest mk R) (hmk:Mk mk) (hf:ev e f=some (.fn g caps)) (ha:evs e args=some as0) (hr:as0++caps=.own k :: rest) (hb:h k=some b) (hpb:X2 b.elems) (hpr:X6 rest)
 (hk:∀ b',X2 b'.elems->R b'->Xk P os (n+1) (Xy e d (mk n)) ((h.del k).upd n b') K):Xk P (⟨d,.call f args,none⟩ :: os) n e h K:=by
 refine Z1d hf ha (R:=fun n' r h'=>∃ b',n'=n+1/\r=mk n/\h'=(h.del k).upd n b'/\X2 b'.elems/\R b') (by rw [hr]; exact hs.frame hmk hpb hpr hb) ?_;rintro n' r h' ⟨b',rfl,rfl,rfl,h1,h2⟩;exact hk b' h1 h2
end
def X31 (q:List PV) (i j:Nat):Bx:=⟨q.length+2,[.own i :: .own j :: q]⟩
section
variable {P:Program} {C:Ctx} {Fr:Nat->Prop} {e:Env} {h:X1} {n:Nat} {F:XF} {φ:XD} {a:Act} {w:World}
theorem Z7j {φ':XD} {v:Value} {i i':Nat} (hi:φ i=φ' i') (hr:Rep F φ v (.own i)):Rep F φ' v (.own i'):=Z24 F φ φ' v i i' hi hr
theorem X2t.kid {φ':XD} {loc:Loc} {q:List PV} {i j i' j':Nat} (h2:X2t F φ w loc (X31 q i j)) (hi:φ i=φ' i') (hj:φ j=φ' j') (hq:X6 q):X2t F φ' w loc (X31 q i' j'):=by
 have h2:=h2.cellsB (show 0<q.length+2 by omega);refine .inl ⟨h2.esz,h2.pos,h2.len,h2.cap,h2.max,fun c hc=>?_,fun hc=>?_⟩
 . have hc : c ∈ [PV.own i' :: .own j' :: q] := hc;rw [Y0g] at hc;subst hc;rw [<- h2.esz]; rfl
 . obtain ⟨x, hx, hs, cells, t, hg, hsz, hrep⟩ := h2.room hc;refine⟨x,hx,hs,cells,t,hg,hsz,fun a b ha hb=>⟨(hrep a b ha hb).1,?_⟩⟩;have hr:=(hrep a b ha hb).2;have hl:loc.len=1:=by rw [<- h2.len]; rfl
   obtain rfl:a=0:=by omega
   match b,hr with
   | 0,hr=>exact Z7j hi hr
   | 1,hr=>exact Z7j hj hr
   | b+2,hr=>exact Rep.pure (p:=q.getD b pvu) hr (ZL hq b)
def X2k (P:Program) (f:FuncId) (pre post q:List PV) (b1 b2:Bx) (R:PV->Bx->Bx->Prop):Prop :=
 XX P f 3 (pre++.ptr 0 0 0 :: post) (XE [(0,X31 q 1 2),(1,b1),(2,b2)]) fun n' r h'=>∃ j1 j2 b1' b2',j1≠j2/\j1≠0/\j2≠0/\h' 0=some (X31 q j1 j2)/\h' j1=some b1'/\h' j2=some b2'/\r.pure/\X2 b1'.elems/\X2 b2'.elems/\R r b1' b2'
theorem Z8i {F:XF} {φ φ':XD} {vs:Array Value} {pre post:List PV} {p p':PV} (hpre:X6 pre) (hpost:X6 post) (hp:∀ v,Rep F φ v p->Rep F φ' v p') (hv:X1B F φ vs (pre++p :: post)):X1B F φ' vs (pre++p' :: post):=by
 refine⟨by rw [hv.1]; simp,fun i hi=>?_⟩;have hr:=hv.2 i (by simp at hi ⊢; exact hi);by_cases h1:i<pre.length
 . have e1 : (pre ++ p :: post).getD i pvu = pre.getD i pvu := by simp [Y0b, YG h1]
   have e2:(pre++p' :: post).getD i pvu=pre.getD i pvu:=by simp [Y0b,YG h1]
   rw [e1] at hr; rw [e2];exact hr.pure (ZL hpre i)
 . have e1 : (pre ++ p :: post).getD i pvu = (p :: post).getD (i - pre.length) pvu := by simp [Y0b, YH (Nat.le_of_not_lt h1)]
   have e2:(pre++p' :: post).getD i pvu=(p' :: post).getD (i-pre.length) pvu:=by simp [Y0b,YH (Nat.le_of_not_lt h1)]
   rw [e1] at hr; rw [e2]
   match hk:i-pre.length,hr with
   | 0,hr=>exact hp _ hr
   | k+1,hr=>exact Rep.pure (p:=post.getD k pvu) hr (ZL hpost k)
theorem X2k.run {f:FuncId} {pre post q:List PV} {b1 b2:Bx} {R:PV->Bx->Bx->Prop} (hs:X2k P f pre post q b1 b2 R) (hpre:X6 pre) (hpost:X6 post) (hq:X6 q) (hp1:X2 b1.elems) (hp2:X2 b2.elems) {k i j n:Nat} (hn:Fr n) (hn1:Fr (n+1)) (hk:h k=some (X31 q i j)) (hi:h i=some b1) (hj:h j=some b2) (hij:i≠j) (hik:i≠k) (hjk:j≠k)
 (s:St' C Fr e h F φ a w) {vs:Array Value} (hv:X1B F φ vs (pre++.ptr k 0 0 :: post)) :
 Calls P f vs w fun en w'=>∃ v r b1' b2' F' φ',en=.returned v/\(r.pure/\X2 b1'.elems/\X2 b2'.elems/\R r b1' b2')/\Rep F' φ' v r/\St' C (fun x=>Fr x/\x≠n/\x≠n+1) e (((((h.del i).del j).upd k (X31 q n (n+1))).upd n b1').upd (n+1) b2') F' φ' a w':=by
 obtain⟨lk,hlk,hbk,hhk⟩:=s.live k _ hk;obtain⟨li,hli,hbi,hhi⟩:=s.live i _ hi;obtain⟨lj,hlj,hbj,hhj⟩:=s.live j _ hj
 let φ1:XD:=fun x=>if x=0 then some lk else if x=1 then some li else if x=2 then some lj else none
 let C1:Ctx:=⟨w,fun g=>lk.has g \/ li.has g \/ lj.has g,F,C.nt,φ1⟩
 have hφn:φ n=none:=s.free n hn;have hφn1:φ (n+1)=none:=s.free _ hn1;have hnone:∀ {x:Nat} {bx:Bx},h x=some bx->x≠n/\x≠n+1:=by
  intro x bx hx;obtain⟨loc,h1,_⟩:=s.live x bx hx;exact⟨fun e=>(by rw [e,hφn] at h1; cases h1),fun e=>(by rw [e,hφn1] at h1; cases h1)⟩
 have hG:∀ g,C1.G g->C.w0.heap.size<=g \/ C.G g:=fun g hg=>hg.elim (fun h=>(hhk g h).1) fun hg=>hg.elim (fun h=>(hhi g h).1) fun h=>(hhj g h).1;have hth:∀ {loc:Loc} {b:Bx} {g:Nat},X2t F φ w loc b->loc.has g->∀ o:Obj,w.heap[g]?=some o->¬ o=.deferred (some []):=by
  rintro loc b g hb hg o ho rfl;rcases hb.there hg with⟨cells,t,hg⟩|⟨es,t,hg⟩
  . rw [hg] at ho; cases ho
  . rw [hg] at ho; cases ho
 have hcells:∀ g,C1.G g->∀ o:Obj,w.heap[g]?=some o->¬ o=.deferred (some []):=fun g hg=>hg.elim (hth hbk) fun hg=>hg.elim (hth hbi) (hth hbj);have h0:∀ {x:Nat} {b0:Bx},(XE [(0,X31 q 1 2),(1,b1),(2,b2)]) x=some b0->(x=0/\b0=X31 q 1 2) \/ (x=1/\b0=b1) \/ (x=2/\b0=b2):=by
  intro x b0 hx;have:=Z1F hx;simp only [Y9,Y2T,Y2a,Y44] at this;exact this
 have s1:St' C1 (fun x=>3<=x) (fun _=>none) (XE [(0,X31 q 1 2),(1,b1),(2,b2)]) F φ1 { a with defers := [] } w:=by
  refine { nt:=s.nt,glob:=s.glob,marks:=X1l.nil rfl,loc0:=fun i x hx=>hx,free:=fun i hi=>?_,env:=fun j p hp=>(by cases hp),froz:=s.froz,ext:=fun _ _ h=>h,old:=fun _ _ _=>rfl,os:=rfl,tape:=rfl,output:=rfl,size:=Y0m _,kept:=fun _ _ _=>rfl,live:=fun x b0 hx=>?_,sep:=fun x y bx bY lx ly g hx hy hlx hly hgx hgy=>?_ }
  . simp only [φ1]; rw [Y6 (by omega),Y6 (by omega),Y6 (by omega)]
  . rcases h0 hx with ⟨rfl, rfl⟩ | ⟨rfl, rfl⟩ | ⟨rfl, rfl⟩
    . exact⟨lk,rfl,hbk.kid (by rw [hli]; rfl) (by rw [hlj]; rfl) hq,fun g hg=>⟨.inr (.inl hg),(hhk g hg).2⟩⟩
    . exact⟨li,rfl,hbi.names hp1,fun g hg=>⟨.inr (.inr (.inl hg)),(hhi g hg).2⟩⟩
    . exact⟨lj,rfl,hbj.names hp2,fun g hg=>⟨.inr (.inr (.inr hg)),(hhj g hg).2⟩⟩
  . rcases h0 hx with ⟨rfl, rfl⟩ | ⟨rfl, rfl⟩ | ⟨rfl, rfl⟩ <;> rcases h0 hy with ⟨rfl, rfl⟩ | ⟨rfl, rfl⟩ | ⟨rfl, rfl⟩ <;> first | rfl | skip
    all_goals
     obtain rfl:=YN hlx;obtain rfl:=YN hly;exfalso
    . exact hik (s.sep k i _ _ _ _ g hk hi hlk hli hgx hgy).symm
    . exact hjk (s.sep k j _ _ _ _ g hk hj hlk hlj hgx hgy).symm
    . exact hik (s.sep i k _ _ _ _ g hi hk hli hlk hgx hgy)
    . exact hij (s.sep i j _ _ _ _ g hi hj hli hlj hgx hgy)
    . exact hjk (s.sep j k _ _ _ _ g hj hk hlj hlk hgx hgy)
    . exact hij (s.sep j i _ _ _ _ g hj hi hlj hli hgx hgy).symm
 have hv1:X1B F φ1 vs (pre++.ptr 0 0 0 :: post):=Z8i hpre hpost (fun v hr=>by
  obtain⟨loc',x,g1,gz,g2,g3,g4⟩:=hr.ptr_inv;obtain rfl:loc'=lk:=by rw [hlk] at g1; simpa using g1.symm
  rw [g4]
  exact .ptr 0 0 0 loc' x rfl gz g2 g3) hv
 refine (hs.2 C1 _ F φ1 { a with defers := [] } w vs s1 hv1).mono ?_;rintro en w' ⟨v,r,n',h',F',φ',rfl,⟨j1,j2,b1',b2',hj12,hj10,hj20,hh0,hh1,hh2,hrp,hp1',hp2',hR⟩,hvr,s'⟩;obtain⟨l0,m01,m02,m03⟩:=s'.live 0 _ hh0;obtain⟨l1,m11,m12,m13⟩:=s'.live j1 _ hh1;obtain⟨l2,m21,m22,m23⟩:=s'.live j2 _ hh2;obtain rfl:l0=lk:=by
  have:=s'.loc0 0 lk rfl;rw [m01] at this; exact YN this
 let φ2:XD:=fun x=>if x=n then some l1 else if x=n+1 then some l2 else φ x
 have hφ2:φ2 n=some l1:=by simp [φ2]
 have hφ21:φ2 (n+1)=some l2:=by show (if n+1=n then some l1 else if n+1=n+1 then some l2 else φ (n+1))=some l2; rw [Y6 (by omega),Y5 rfl]
 have hφ3:∀ {x:Nat},x≠n->x≠n+1->φ2 x=φ x:=fun {x} h1 h2=>by simp only [φ2]; rw [Y6 h1,Y6 h2]
 have hφ4:∀ x y,φ x=some y->φ2 x=some y:=fun x y hx=>by
  rw [hφ3 (fun e=>by rw [e,hφn] at hx; cases hx) fun e=>by rw [e,hφn1] at hx; cases hx]; exact hx
 have hkn:=hnone hk;have src:∀ {x:Nat} {bx:Bx},(((((h.del i).del j).upd k (X31 q n (n+1))).upd n b1').upd (n+1) b2') x=some bx ->
  (x=n+1/\bx=b2') \/ (x=n/\bx=b1') \/ (x=k/\bx=X31 q n (n+1)) \/ (x≠k/\x≠i/\x≠j/\h x=some bx):=by
  intro x bx hx;by_cases e1:x=n+1
  . subst e1; rw [X1.upd_same] at hx; exact .inl ⟨rfl,(YN hx).symm⟩
  rw [X1.upd_ne _ _ e1] at hx;by_cases e2:x=n
  . subst e2; rw [X1.upd_same] at hx; exact .inr (.inl ⟨rfl,(YN hx).symm⟩)
  rw [X1.upd_ne _ _ e2] at hx;by_cases e3:x=k
  . subst e3; rw [X1.upd_same] at hx; exact .inr (.inr (.inl ⟨rfl,(YN hx).symm⟩))
  rw [X1.upd_ne _ _ e3] at hx;obtain⟨e4,hx⟩:=X1.del_some hx;obtain⟨e5,hx⟩:=X1.del_some hx;exact .inr (.inr (.inr ⟨e3,e5,e4,hx⟩))
 have hold:∀ {x:Nat} {bx:Bx} {lx:Loc} {g:Nat},x≠k->x≠i->x≠j->h x=some bx->φ x=some lx->lx.has g->¬ C1.G g:=by
  intro x bx lx g h1 h2 h3 hx hlx hg hG;rcases hG with hg' | hg' | hg'
  . exact h1 (s.sep x k _ _ _ _ g hx hk hlx hlk hg hg')
  . exact h2 (s.sep x i _ _ _ _ g hx hi hlx hli hg hg')
  . exact h3 (s.sep x j _ _ _ _ g hx hj hlx hlj hg hg')
 have hnew:∀ {lx:Loc} {g:Nat},(w.heap.size<=g \/ C1.G g)->C.w0.heap.size<=g \/ C.G g:=fun {lx g} h1=>h1.elim (fun h1=>.inl (Y03 s.size h1)) (hG g);refine⟨v,r,b1',b2',F',φ2,rfl,⟨hrp,hp1',hp2',hR⟩,hvr.pure hrp,?_⟩
 refine { nt := s.nt, glob := s'.glob, marks := s.marks.mono (fun g hg => by rw [s'.kept g (Y7.1 hg).1 (fun hg' => hcells g hg' _ hg rfl)]; exact hg), loc0 := fun i x hx => hφ4 i x (s.loc0 i x hx), free := fun x hx => by rw [hφ3 hx.2.1 hx.2.2]; exact s.free x hx.1, env := fun j p hp => ⟨(s.env j p hp).1, (s.env j p hp).2.mono s'.ext hφ4⟩, froz := s'.froz, ext := fun x v hx => s'.ext _ _ (s.ext x v hx),
          old:=fun x hx hg=>?_,os:=s'.os.trans s.os,tape:=s'.tape.trans s.tape,output:=s'.output.trans s.output,size:=Y03 s.size s'.size,kept:=fun g hk hg=>?_,live:=fun x bx hx=>?_,sep:=fun x y bx bY lx ly g hx hy hlx hly hgx hgy=>?_ }
 . have hx2 : x.block < w.heap.size := YE hx s.size;rw [s'.old x hx2 fun hg'=>(hG _ hg').elim (fun h1=>absurd hx (Y1T.2 h1)) hg];exact s.old x hx hg
 . rw [s'.kept g (YE hk s.size) fun hg' => (hG _ hg').elim (fun h1 => absurd hk (Y1T.2 h1)) hg];exact s.kept g hk hg
 . rcases src hx with ⟨rfl, rfl⟩ | ⟨rfl, rfl⟩ | ⟨rfl, rfl⟩ | ⟨h1, h2, h3, hx⟩
   . exact⟨l2,hφ21,m22.names hp2',fun g hg=>⟨hnew (lx:=l2) (m23 g hg).1,(m23 g hg).2⟩⟩
   . exact⟨l1,hφ2,m12.names hp1',fun g hg=>⟨hnew (lx:=l1) (m13 g hg).1,(m13 g hg).2⟩⟩
   . exact⟨l0,hφ4 _ _ hlk,m02.kid (by rw [m11,hφ2]) (by rw [m21,hφ21]) hq,fun g hg=>⟨(hhk g hg).1,(m03 g hg).2⟩⟩
   . obtain ⟨lx, g1, g2, g3⟩ := s.live x bx hx;have hout:∀ g,lx.has g->¬ C1.G g:=fun g hg=>hold h1 h2 h3 hx g1 hg;have hblk:∀ g,lx.has g->w'.heap[g]?=w.heap[g]?:=fun g hg=>s'.kept g (s.has_lt hx g1 hg) (hout g hg);have hne:=hnone hx;refine⟨lx,by rw [hφ3 hne.1 hne.2]; exact g1,g2.mono s'.ext hφ4 hblk,fun g hg=>⟨(g3 g hg).1,fun z hz=>?_⟩⟩;rw [s'.old z (by rw [hz]; exact s.has_lt hx g1 hg) (by rw [hz]; exact hout g hg)];exact (g3 g hg).2 z hz
 . have cls : ∀ {x : Nat} {bx : Bx} {lx : Loc} {g : Nat}, (((((h.del i).del j).upd k (X31 q n (n + 1))).upd n b1').upd (n + 1) b2') x = some bx -> φ2 x = some lx -> lx.has g ->
    (h x=some bx/\φ x=some lx/\g<w.heap.size/\¬ C1.G g) \/ ((w.heap.size<=g \/ C1.G g)/\∃ y b',h' y=some b'/\φ' y=some lx/\((x=n+1/\y=j2) \/ (x=n/\y=j1) \/ (x=k/\y=0))):=by
    intro x bx lx g hx hlx hg;rcases src hx with⟨rfl,rfl⟩|⟨rfl,rfl⟩|⟨rfl,rfl⟩|⟨h1,h2,h3,hx⟩
    . rw [hφ21] at hlx; cases hlx;exact .inr ⟨(m23 g hg).1,j2,_,hh2,m21,.inl ⟨rfl,rfl⟩⟩
    . rw [hφ2] at hlx; cases hlx;exact .inr ⟨(m13 g hg).1,j1,_,hh1,m11,.inr (.inl ⟨rfl,rfl⟩)⟩
    . rw [hφ4 _ _ hlk] at hlx; cases hlx;exact .inr ⟨(m03 g hg).1,0,_,hh0,m01,.inr (.inr ⟨rfl,rfl⟩)⟩
    . have hne := hnone hx;rw [hφ3 hne.1 hne.2] at hlx;exact .inl ⟨hx,hlx,s.has_lt hx hlx hg,hold h1 h2 h3 hx hlx hg⟩
   rcases cls hx hlx hgx with⟨a1,a2,a3,a4⟩|⟨a1,y1,c1,a2,a3,a4⟩<;>rcases cls hy hly hgy with⟨d1,d2,d3,d4⟩|⟨d1,y2,c2,d2,d3,d4⟩
   . exact s.sep x y bx bY lx ly g a1 d1 a2 d2 hgx hgy
   . rcases d1 with d1 | d1
     . omega
     . exact absurd d1 a4
   . rcases a1 with a1 | a1
     . omega
     . exact absurd a1 d4
   . have := s'.sep y1 y2 c1 c2 lx ly g a2 d2 a3 d3 hgx hgy;subst this;rcases a4 with⟨rfl,rfl⟩|⟨rfl,rfl⟩|⟨rfl,rfl⟩<;>rcases d4 with⟨rfl,e⟩|⟨rfl,e⟩|⟨rfl,e⟩<;>first|rfl|omega
theorem X2k.frame {f:FuncId} {pre post q:List PV} {b1 b2:Bx} {R:PV->Bx->Bx->Prop} (hs:X2k P f pre post q b1 b2 R) (hpre:X6 pre) (hpost:X6 post) (hq:X6 q) (hp1:X2 b1.elems) (hp2:X2 b2.elems) {k i j n:Nat} (hk:h k=some (X31 q i j)) (hi:h i=some b1) (hj:h j=some b2) (hij:i≠j) (hik:i≠k) (hjk:j≠k) :
 XX P f n (pre++.ptr k 0 0 :: post) h fun n' r h'=>∃ b1' b2',n'=n+2/\h'=((((h.del i).del j).upd k (X31 q n (n+1))).upd n b1').upd (n+1) b2'/\r.pure/\X2 b1'.elems/\X2 b2'.elems/\R r b1' b2':=by
 refine⟨hs.1,fun C e F φ a w vs s hv=>(hs.run hpre hpost hq hp1 hp2 (n:=n) (Y0m n) (Y49 n) hk hi hj hij hik hjk s hv).mono ?_⟩;rintro en w' ⟨v,r,b1',b2',F',φ',rfl,⟨h1,h2,h3,h4⟩,hr,s'⟩;exact⟨v,r,n+2,_,F',φ',rfl,⟨b1',b2',rfl,rfl,h1,h2,h3,h4⟩,hr,{ s' with free:=fun i hi=>s'.free i ⟨by omega,by omega,by omega⟩ }⟩
theorem ZbV {f:Operand} {args:List Operand} {g:FuncId} {caps as0 pre post q:List PV} {b1 b2:Bx} {k i j:Nat} {R:PV->Bx->Bx->Prop} {d:Option Nat} {os:List Xl} {n:Nat} {K:Nat->Env->X1->Prop} (hs:X2k P g pre post q b1 b2 R) (hf:ev e f=some (.fn g caps)) (ha:evs e args=some as0) (hr:as0++caps=pre++.ptr k 0 0 :: post) (hk:h k=some (X31 q i j)) (hi:h i=some b1) (hj:h j=some b2) (hij:i≠j) (hik:i≠k) (hjk:j≠k) (hpre:X6 pre) (hpost:X6 post) (hq:X6 q) (hp1:X2 b1.elems) (hp2:X2 b2.elems)
 (hK:∀ r b1' b2',r.pure->X2 b1'.elems->X2 b2'.elems->R r b1' b2'->Xk P os (n+2) (Xy e d r) (((((h.del i).del j).upd k (X31 q n (n+1))).upd n b1').upd (n+1) b2') K):Xk P (⟨d,.call f args,none⟩ :: os) n e h K:=by
 refine Z1d hf ha (R:=fun n' r h'=>∃ b1' b2',n'=n+2/\h'=((((h.del i).del j).upd k (X31 q n (n+1))).upd n b1').upd (n+1) b2'/\r.pure/\X2 b1'.elems/\X2 b2'.elems/\R r b1' b2') (by rw [hr]; exact hs.frame hpre hpost hq hp1 hp2 hk hi hj hij hik hjk) ?_;rintro n' r h' ⟨b1',b2',rfl,rfl,h1,h2,h3,h4⟩;exact hK r b1' b2' h1 h2 h3 h4
theorem Zdb {f nt:Nat} {ac:X4} {rs:List X27} (hf:X3R P f nt ac rs) {pre post q:List PV} {b1 b2:Bx} {R:PV->Bx->Bx->Prop} (hn:(pre++.ptr 0 0 0 :: post).length<=nt)
 (hk:∀ C:Ctx,C.dom 3->aw P C ac (X5w rs fun n' r h'=>∃ j1 j2 b1' b2',j1≠j2/\j1≠0/\j2≠0/\h' 0=some (X31 q j1 j2)/\h' j1=some b1'/\h' j2=some b2'/\r.pure/\X2 b1'.elems/\X2 b2'.elems/\R r b1' b2') 3 (XQ (pre++.ptr 0 0 0 :: post)) (XE [(0,X31 q 1 2),(1,b1),(2,b2)])):X2k P f pre post q b1 b2 R :=
 Z1y hf hn hk
end
end
section
open Go.RowKit
attribute [local irreducible] aw Xk dK
def hwC (e:KE):List PV := [.val (.int .i64 e.2.1),.val (.int .i64 (e.2.2:Int))]
theorem Zid (e:KE):X6 (hwC e):=⟨Yt,Yt,Yt⟩
theorem Z1c (l:List KE):X2 (l.map hwC):=Zc Zid l
def X6U (ks:List KE) (e:KE) (L:Int) (ks':List KE) (v:PV):Prop:=(X2c (kcs ks) e.1=true/\ks'=ks/\v=.val (.int .i64 0)) \/ (X2c (kcs ks) e.1=false/\ks'=ks ++ [e]/\v=.val (.int .i64 (if L<((ks.length+1:Nat):Int) then 3 else 0)))
theorem Zdc (ks:List KE) (h64:∀ c∈kcs ks,XA c) (hl:ks.length<=1000) (e:KE) (he:XA e.1) (L:Int):X2k Tryz.prog 119 [] [cuP e.1,.agg (hwC e)] [.val (.int .i64 L)] ⟨2,(kcs ks).map cuC⟩ ⟨2,ks.map hwC⟩ fun v b1 b2=>∃ ks',b1=⟨2,(kcs ks').map cuC⟩/\b2=⟨2,ks'.map hwC⟩/\X6U ks e L ks' v:=by
 have hkl:(kcs ks).length=ks.length:=by simp [kcs]
 have hcs:=Zel ((kcs ks).length+1) (kcs ks) (Y2L _) (by omega) h64 e.1 false he;refine Zdb ok119 (Y0 rfl) fun C hC=>?_;refine Zq ?_;refine Za ?_;refine Z5 rfl rfl rfl ?_;refine Z5 rfl rfl rfl ?_
 iterate 4 (first|refine st ?_|(apply B<;>intro hb<;>try cases hb))
 refine Zcp [] 1 (by decide) ?_;refine gd 12 ⟨?_⟩;refine Zl9 hcs rfl rfl (j:=1) rfl rfl rfl (Z0 _) ⟨Zx _,Z0 _,Yt⟩ ?_;cases hcov:X2c (kcs ks) e.1
 case true =>
  refine go ?_;exact⟨_,_,rfl,.inl rfl,1,2,_,_,by decide,by decide,by decide,rfl,rfl,rfl,Yt,Z0 _,Z1c _,ks,rfl,rfl,.inl ⟨hcov,rfl,rfl⟩⟩
 repeat' (first|refine Z3h [] [(1,256)] [4194303,4194303,4194303,4194303,4194303,4194303,4194303,4194303,4194047,4194303,4194303,4194303,4194303,4194303,4194303,4194303,4194303,4194303,4194303,4194303,4194303,4194303] (by kernel_rfl) ?_|refine Z8B 21 ?_|(first|refine st ?_|(apply B<;>intro hb<;>try cases hb)))
 refine At.mk ?_
 refine Qr (Zt (k:=1) (m := [cuC e.1]) (fl:=true) rfl rfl rfl (fun q hq=>by rw [Y0g] at hq; subst hq; rfl) rfl (by
  show (((kcs ks).map cuC).length+1)*48<=_
  rw [Y0f];omega)) ?_
 refine gd 28 ⟨?_⟩
 refine Qr (Zt (k:=2) (m := [hwC e]) (fl:=true) rfl rfl rfl (fun q hq=>by rw [Y0g] at hq; subst hq; rfl) rfl (by
  show ((ks.map hwC).length+1)*16<=_
  rw [Y0f];omega)) ?_
 have hp1:X2 ((kcs ks).map cuC ++ [cuC e.1]):=by rw [<- Y1a,<- Y0r]; exact Z0 _
 have hp2:X2 (ks.map hwC ++ [hwC e]):=by rw [<- Y1a,<- Y0r]; exact Z1c _
 have e1:(kcs ks).map cuC ++ [cuC e.1]=(kcs (ks ++ [e])).map cuC:=by rw [Z9a,Y0r]; rfl
 have e2:ks.map hwC ++ [hwC e]=(ks ++ [e]).map hwC:=by rw [Y0r]; rfl
 have hlen:(((kcs ks).map cuC ++ [cuC e.1]).length:Int)=((ks.length+1:Nat):Int):=by simp [hkl]
 rw [e1] at hp1 hlen ⊢;rw [e2] at hp2 ⊢;refine gd 42 ⟨?_⟩;by_cases hL:L<((ks.length+1:Nat):Int)
 . refine Qr (Qy rfl (by rw [hlen]; exact hL)) ?_;refine go ?_;exact⟨_,_,rfl,.inl rfl,17,24,_,_,by decide,by decide,by decide,rfl,rfl,rfl,Yt,hp1,hp2,ks ++ [e],rfl,rfl,.inr ⟨hcov,rfl,by rw [Y5 hL]; rfl⟩⟩
 . refine Qr (Qz rfl (by rw [hlen]; exact hL)) ?_;refine gd 49 ⟨?_⟩;refine Z3J rfl ?_;refine Qr (Qz rfl (by rw [hlen];omega)) ?_;refine go ?_;exact⟨_,_,rfl,.inl rfl,17,24,_,_,by decide,by decide,by decide,rfl,rfl,rfl,Yt,hp1,hp2,ks ++ [e],rfl,rfl,.inr ⟨hcov,rfl,by rw [Y6 hL]; rfl⟩⟩
theorem X2J.len {t:PB} {ks:List KE} (hk:X20 t ks) {i:Nat} {p:List Nat} (hp:X2J ks i p):p.length<=i:=by
 induction hp with
 | stop _ _=>exact Y0l _
 | step he hr _ ih =>
   rcases hk.how _ _ he with h4|⟨r',to',x,e',h4,h5,h6,h7,h8⟩
   . rw [hr] at h4; simp only at h4; omega
   . rw [hr] at h4;obtain⟨h41,h42⟩:=Y3C h4;subst h42;rw [Y04]; omega
def kpC (ks:List KE) (L:Int):List PV := [.vec ((kcs ks).map cuC) false,.vec (ks.map hwC) false,.val (.int .i64 L)]
theorem Z9i (ks:List KE) (L:Int):X6 (kpC ks L):=⟨Z0 _,Z1c _,Yt,Yt⟩
theorem Zgt {t:PB} (hn:t.n<=5) {ks:List KE} (hk:X20 t ks) (L:Int) {i:Nat} {p:List Nat} (hp:X2J ks i p):Xa Tryz.prog 120 [.cp (kpC ks L),Yv i] (· = .vec (inL p) false):=by
 have hkp:=Z9i ks L;have hkl:=hk.len;have h32:2 ^ t.n<=32:=YX (n:=2) (by decide) hn;have hpl:p.length<=i:=hp.len hk;have hil:i<ks.length:=by cases hp<;>exact (Y8.1 (by assumption)).1
 refine Yp ok120 fun C hC=>?_;refine go ?_;refine Z1l (Z7F (k:=5) rfl 1 (by decide)) ?_;refine ZC hC (fun (z:Nat×List Nat×List Nat)=>X2J ks z.1 z.2.2/\p=z.2.1++z.2.2) (fun z=>z.2.2.length) 1 (fun z => [(0,.cp (kpC ks L)),(1,Yv z.1),(5,.own 0)]) (fun z => [(0,⟨1,inL z.2.1⟩)]) (Y0l _) (i,[],p) ⟨hp,rfl⟩ (fun i=>i) (fun _ _=>rfl) Zp
  ⟨Qp hkp,Qp Yt,⟨_,rfl,.own 0 (by decide)⟩,Yt⟩ ⟨Qs Yt,Yt⟩ ?_
 rintro⟨j,out,q⟩ ⟨hq,hpq⟩;dsimp only at hq hpq ⊢;have hol:out.length<=32:=by rw [hpq,Y0e] at hpl; omega
 cases hq with
 | stop he hr =>
   rename_i e;obtain⟨hjl,hje⟩:=Y8.1 he;refine gd 11 ⟨?_⟩;refine Qo (Zo (xs:=ks) (g:=hwC) rfl rfl j rfl hjl rfl) ?_;rw [hje];refine gd 14 ⟨?_⟩;refine Qo (Qz rfl (by omega)) ?_
   repeat' (first|refine Zb (Zn (k:=5) rfl rfl (Zy _)) ?_|(first|refine st ?_|(apply B<;>intro hb<;>try cases hb)))
   rw [Y0p] at hpq;exact Z8 rfl (Zy _) (by rw [hpq])
 | step he hr hq =>
   rename_i r to e q;obtain⟨hjl,hje⟩:=Y8.1 he;have h1:hwC e = [.val (.int .i64 (r:Int)),.val (.int .i64 (to:Int))]:=by unfold hwC; rw [hr]
   refine gd 11 ⟨?_⟩;refine Qo (Zo (xs:=ks) (g:=hwC) rfl rfl j rfl hjl rfl) ?_;rw [hje,h1];refine gd 14 ⟨?_⟩;refine Qo (Qy rfl (by omega)) ?_;refine gd 21 ⟨?_⟩;refine Qo (Zo (xs:=ks) (g:=hwC) rfl rfl j rfl hjl rfl) ?_;rw [hje,h1];refine gd 25 ⟨?_⟩
   refine ZH (Zt (k:=0) (m := [X3u r]) (fl:=true) rfl rfl rfl (fun q hq=>by rw [Y0g] at hq; subst hq; rfl) rfl (by
    show ((inL out).length+1)*8<=_
    rw [Z3t];omega)) rfl rfl ?_
   refine gd 31 ⟨?_⟩;refine Qo (Zo (xs:=ks) (g:=hwC) rfl rfl j rfl hjl rfl) ?_;rw [hje,h1];refine go ?_
   refine⟨(to,out ++ [r],q),mv 0 1,⟨hq,by rw [hpq,YU]; rfl⟩,by show q.length<q.length+1; omega,fun i hi=>absurd hi (YL i),Zu rfl,
    ⟨Qp hkp,Qp Yt,⟨_,rfl,.own 0 (by decide)⟩,Yt⟩,⟨⟨by decide,_,rfl,?_⟩,Yt⟩⟩
   show Xr _ _ ⟨1,inL out ++ [X3u r]⟩ ⟨1,inL (out ++ [r])⟩;rw [Zi0];exact .same _ (Zy _)
theorem Zgu {ks:List KE} {i:Nat} {e:KE} (he:ks[i]?=some e):((kcs ks).map cuC).getD i []=cuC e.1/\i<((kcs ks).map cuC).length:=by
 obtain⟨h1,rfl⟩:=Y8.1 he;refine⟨?_,by simp [kcs,h1]⟩;simp [kcs,Y0b,h1]
def X7F (t:PB) (ks:List KE) (e:KE) (L:Int) (ks':List KE) (v:PV):Prop:=ks <+: ks'/\X20 t ks'/\((v=.val (.int .i64 0)/\X5c t e.1 ks') \/ (v=.val (.int .i64 3)/\L<(ks'.length:Int)))
def X5b (l:List Cu) (ks:List KE):Prop:=∀ c∈l,∀ S,hoC c S=true->soC (kcs ks) S=true
theorem X6U.keep {t:PB} {ks ks':List KE} {e:KE} {L:Int} {v:PV} (ha:X6U ks e L ks' v) (hk:X20 t ks) (hm:InM 62 e.1/\InM (mkN t.n) e.1/\emC e.1=false)
 (hh : (e.2.1 = -1 /\ ∀ S, InS t S -> hoC e.1 S = true -> Xq t S = true /\ XB t S = true) \/
   ∃ (r to:Nat) (x:RU) (e':KE),e.2=((r:Int),to)/\t.rs[r]?=some x/\ks[to]?=some e'/\∀ S,InS t S->hoC e.1 S=true->Xq t S=true/\XU t x S=true/\hoC e'.1 (Xo x S)=true) :
 ks <+: ks'/\X20 t ks'/\(∀ S,hoC e.1 S=true->soC (kcs ks') S=true)/\(v=.val (.int .i64 0) \/ (v=.val (.int .i64 3)/\L<(ks'.length:Int))):=by
 rcases ha with⟨h1,rfl,rfl⟩|⟨h1,rfl,rfl⟩
 . exact⟨Y4t _,hk,fun S hS=>ZkD hk h1 hS,.inl rfl⟩
 . refine ⟨List.prefix_append _ _, hk.add hm h1 hh, fun S hS => by rw [Z9a, Z6j, hS, Y3v], ?_⟩;by_cases hL:L<((ks.length+1:Nat):Int)
   . exact .inr ⟨by rw [Y5 hL],by rw [Y0e]; exact hL⟩
   . exact .inl (by rw [Y6 hL])
theorem X7e {a b i:Nat} (hi:i<3):mv 3 a (mv 4 b i)=i:=by
 rw [Z4X (m:=3) (by decide) i hi,Z4X (m:=3) (Y0m 3) i hi]
theorem ZbW {t:PB} (h:Xz t) (hn:t.n<=5) (S:List Nat) {ks:List KE} (hk:X20 t ks) (i:Nat) (e:KE) (he:ks[i]?=some e) (L:Int):X2k Tryz.prog 121 [.cp (srC t S)] [Yv i] [.val (.int .i64 L)] ⟨2,(kcs ks).map cuC⟩ ⟨2,ks.map hwC⟩ fun v b1 b2=>∃ ks',b1=⟨2,(kcs ks').map cuC⟩/\b2=⟨2,ks'.map hwC⟩/\X7F t ks e L ks' v:=by
 have hsr:=Z5j t S;have hrb:=h.rl;have hrl:(t.rs.map ruP).length=t.rs.length:=by simp
 have h32:2 ^ t.n<=32:=YX (n:=2) (by decide) hn;refine Zdb ok121 (Y0 rfl) fun C hC=>?_;refine go ?_;refine ZC hC (fun (z:Nat×List KE)=>z.1<=t.rs.length/\ks <+: z.2/\X20 t z.2/\∀ j x,j<z.1->t.rs[j]?=some x->X5R t e.1 x z.2) (fun z=>t.rs.length-z.1) 5 (fun z => [(0,.cp (srC t S)),(1,.ptr 0 0 0),(2,Yv i),(18,.val (.int .i64 (t.rs.length:Int))),(19,Yv z.1)])
  (fun z => [(0,⟨3,[[.own 3,.own 4,.val (.int .i64 L)]]⟩),(3,⟨2,(kcs z.2).map cuC⟩),(4,⟨2,z.2.map hwC⟩)]) (by decide) (0,ks) ⟨Y0l _,Y4t _,hk,fun j x hj=>absurd hj (YL j)⟩ (fun i=>mv 3 1 (mv 4 2 i)) (fun i hi=>X7e hi) (Zu rfl)
  ⟨Qp hsr,Qt 0 0 0,Qp Yt,⟨_,by rw [<- hrl]; rfl,.pure _ Yt⟩,Qp Yt,Yt⟩
  ⟨⟨by decide,_,rfl,Xr.single ⟨.own (ρ:=fun i=>mv 3 1 (mv 4 2 i)) 3 (by decide),.own (ρ:=fun i=>mv 3 1 (mv 4 2 i)) 4 (by decide),.pure _ Yt,Yt⟩ rfl⟩,Qs (Z0 _),Qs (Z1c _),Yt⟩ ?_
 rintro⟨r,k1⟩ ⟨hr,hpre,hk1,hex⟩;dsimp only at hr hpre hk1 hex ⊢;have hinc:IntKind.i64.wrap ((r:Int)+1)=((r+1:Nat):Int):=Y0v _ ⟨by omega,by omega⟩;refine gd 20 ⟨?_⟩;by_cases hrt:r<t.rs.length
 case neg =>
  refine Qo (Qz rfl (by omega)) ?_;refine go ?_;refine⟨_,_,rfl,.inl rfl,3,4,_,_,by decide,by decide,by decide,rfl,rfl,rfl,Yt,Z0 _,Z1c _,k1,rfl,rfl,hpre,hk1,.inl ⟨rfl,fun x hx=>?_⟩⟩;obtain⟨j,hj,rfl⟩:=Y1Y.1 hx;exact hex j _ (by omega) (Y0c hj)
 refine Qo (Qy rfl (Y2Q.2 hrt)) ?_;have he1:=ZbP hpre he;obtain⟨g1,g2⟩:=Zgu he1;have hem:=hk1.mem e (Y13 he1);have hro:=h.rs _ (Y0j hrt);have hxr:=Y0c hrt;refine gd 29 ⟨?_⟩;refine Qo (ZO (k:=.i64) rfl rfl rfl i rfl g2 rfl) ?_;refine gd 30 ⟨?_⟩;refine Qo (Z2p (p:=cuP e.1) rfl rfl g2 (by show X1a true 2 0 (((kcs k1).map cuC).getD i [])=_; rw [g1]; rfl)) ?_;refine gd 32 ⟨?_⟩;refine Qe (Za9 h S e.1 hem.1 r hrt) ⟨hsr,Zx _,Yt,Yt⟩ ?_;generalize t.rs[r]=x at hro hxr ⊢;have hbi:=Zli h hro hem.1;have hbn:=ZlC h hro hem.2.1;have hbs:=fun S (hS:InS t S)=>Zlh h hro hem.1 hS;generalize hl0:bfL t x e.1=l at hbi hbn hbs ⊢;obtain⟨hbi,hbl⟩:=hbi;have hll:(l.map cuC).length=l.length:=by simp
 refine go ?_;refine ZC hC (fun (z:Nat×List KE)=>z.1<=l.length/\ks <+: z.2/\k1 <+: z.2/\X20 t z.2/\X5b (l.take z.1) z.2) (fun z=>l.length-z.1) 5 (fun z => [(0,.cp (srC t S)),(1,.ptr 0 0 0),(2,Yv i),(7,.val (.int .i64 (r:Int))),(18,.val (.int .i64 (t.rs.length:Int))),(19,.val (.int .i64 (r:Int))),(38,.vec (l.map cuC) false),(39,.val (.int .i64 (l.length:Int))),(40,Yv z.1)])
  (fun z => [(0,⟨3,[[.own 3,.own 4,.val (.int .i64 L)]]⟩),(3,⟨2,(kcs z.2).map cuC⟩),(4,⟨2,z.2.map hwC⟩)]) (by decide) (0,k1) ⟨Y0l _,hpre,Y4t _,hk1,fun c hc=>(by cases hc)⟩ (fun i=>i) (fun _ _=>rfl) Zp
  ⟨Qp hsr,Qt 0 0 0,Qp Yt,Qp Yt,Qp Yt,Qp Yt,Qp (Z0 _),⟨_,by rw [<- hll]; rfl,.pure _ Yt⟩,Qp Yt,Yt⟩
  ⟨⟨by decide,_,rfl,Xr.single ⟨.own (ρ:=fun i=>i) 3 (by decide),.own (ρ:=fun i=>i) 4 (by decide),.pure _ Yt,Yt⟩ rfl⟩,Qs (Z0 _),Qs (Z1c _),Yt⟩ ?_
 rintro⟨j,k2⟩ ⟨hj,hpre2,hpre3,hk2,hcov⟩;dsimp only at hj hpre2 hpre3 hk2 hcov ⊢;have hjnc:IntKind.i64.wrap ((j:Int)+1)=((j+1:Nat):Int):=Y0v _ ⟨by omega,by omega⟩;have hkl2:=hk2.len;refine gd 41 ⟨?_⟩;by_cases hjl:j<l.length
 case neg =>
  refine Qo (Qz rfl (by omega)) ?_;refine go ?_;have hjl:j=l.length:=by omega
  rw [hjl,Y0q] at hcov
  refine⟨(r+1,k2),fun i=>i,⟨hrt,hpre2,hk2,fun j y hjr hy=>?_⟩,by show t.rs.length-(r+1)<t.rs.length-r; omega,fun _ _=>rfl,Zp,
   ⟨Qp hsr,Qt 0 0 0,Qp Yt,Qp Yt,⟨_,by show some _=some _; rw [hinc],.pure _ Yt⟩,Yt⟩,
   ⟨⟨by decide,_,rfl,Xr.single ⟨.own (ρ:=fun i=>i) 3 (by decide),.own (ρ:=fun i=>i) 4 (by decide),.pure _ Yt,Yt⟩ rfl⟩,Qs (Z0 _),Qs (Z1c _),Yt⟩⟩
  by_cases hjr2:j<r
  . exact (hex j y hjr2 hy).pre hpre3
  . obtain rfl : j = r := by omega
    rw [hxr] at hy; cases hy;intro S hS hg hs hho;have h1:=hbs S hS;rw [hg,hs,hho] at h1;obtain⟨c,hc,h2⟩:=Y01.1 (show soC l S=true from h1);exact hcov c hc S h2
 refine Qo (Qy rfl (Y2Q.2 hjl)) ?_;have htk:=Z11 hjl;have hcm:=Y0j hjl;refine gd 42 ⟨?_⟩;refine Qo (Zo (xs:=l) (g:=cuC) rfl rfl j rfl hjl rfl) ?_;generalize l[j]=c at htk hcm ⊢;obtain⟨hc1,hc2⟩:=hbi c hcm;have hc3:=hbn c hcm;have hadd:=Zdc k2 hk2.c64 (by omega) (c,((r:Int),i)) (hc1.lt (by decide)) L;refine gd 49 ⟨?_⟩;refine ZbV hadd rfl rfl rfl rfl rfl rfl (by decide) (by decide) (by decide) Yt ⟨Zx _,⟨Yt,Yt,Yt⟩,Yt⟩ ⟨Yt,Yt⟩ (Z0 _) (Z1c _) ?_;rintro v b1' b2' - - - ⟨k3,rfl,rfl,ha⟩;have hst:∀ S,InS t S->hoC c S=true->Xq t S=true/\XU t x S=true/\hoC e.1 (Xo x S)=true:=fun S hS hc=>by
  have h1:=hbs S hS;have h2:soC l S=true:=Y01.2 ⟨c,hcm,hc⟩;rw [h2] at h1;have h1:=h1.symm;rw [Y0k,Y0k] at h1;exact h1
 obtain⟨p1,p2,p3,p4⟩:=ha.keep (t:=t) hk2 ⟨hc1,hc3,hc2⟩ (.inr ⟨r,i,x,e,rfl,hxr,ZbP hpre2 he,hst⟩);rcases p4 with rfl|⟨rfl,p4⟩
 . refine go ?_
   refine⟨(j+1,k3),fun i=>mv 3 6 (mv 4 7 i),⟨hjl,hpre2.trans p1,hpre3.trans p1,p2,?_⟩,by show l.length-(j+1)<l.length-j; omega,fun i hi=>X7e hi,Zu rfl,
    ⟨Qp hsr,Qt 0 0 0,Qp Yt,Qp Yt,Qp Yt,Qp Yt,Qp (Z0 _),Qp Yt,⟨_,by show some _=some _; rw [hjnc],.pure _ Yt⟩,Yt⟩,
    ⟨⟨by decide,_,rfl,Xr.single ⟨.own (ρ:=fun i=>mv 3 6 (mv 4 7 i)) 3 (by decide),.own (ρ:=fun i=>mv 3 6 (mv 4 7 i)) 4 (by decide),.pure _ Yt,Yt⟩ rfl⟩,Qs (Z0 _),Qs (Z1c _),Yt⟩⟩
   rw [htk];intro c' hc' S hS;rcases Y0h.1 hc' with hc' | hc'
   . exact Z9b p1 (hcov c' hc' S hS)
   . rw [Y0g] at hc'; subst hc'; exact p3 S hS
 . refine go ?_;exact⟨_,_,rfl,.inl rfl,6,7,_,_,by decide,by decide,by decide,rfl,rfl,rfl,Yt,Z0 _,Z1c _,k3,rfl,rfl,hpre2.trans p1,p2,.inr ⟨rfl,p4⟩⟩
inductive X4U (t:PB) (L:Int):PV->Prop
 | yes (p:List Nat) (hp:X1N t p) (hl:p.length<=32):X4U t L (.tup [.vec (inL p) false,.vec [] true,.val (.bool true),.val (.int .i64 0)])
 | no (ks:List KE) (hk:X1I t ks):X4U t L (.tup [.vec [] true,.vec ((kcs ks).map cuC) false,.val (.bool false),.val (.int .i64 0)])
 | lim (hl:L<((2 ^ t.n:Nat):Int)):X4U t L (.tup [.vec [] true,.vec [] true,.val (.bool false),.val (.int .i64 3)])
theorem ZbX {t:PB} (h:Xz t) (hn:t.n<=5) (S:List Nat) (L:Int) (hL:1<=L):Xa Tryz.prog 58 [.agg (pbP t S),.val (.int .i64 L)] (X4U t L):=by
 have hpp:=ZD t S;have hsr:=Z5j t S;have h32:2 ^ t.n<=32:=YX (n:=2) (by decide) hn;have hti:=Zkz h;have htn:=Zlj t;have hts:=fun S (hS:InS t S)=>ZkA h hS;have hte:∀ c∈X4Y t,emC c=false:=fun c hc=>(Z2R hc).2;have htg:=Za7 h S;refine Yp ok58 fun C hC=>?_;refine Zq ?_;refine Za ?_;refine Z5 rfl rfl rfl ?_;refine gd 18 ⟨?_⟩;refine Qe (Z2w h S) ⟨hpp,Yt⟩ ?_;refine gd 23 ⟨?_⟩;refine Qo (Qz rfl (by omega)) ?_;refine gd 26 ⟨?_⟩;refine Qe (Za8 h S) ⟨hpp,Yt⟩ ?_;refine gd 34 ⟨?_⟩;refine Qe htg ⟨hpp,Yt⟩ ?_;generalize X4Y t=l at hti htn hts hte ⊢;have hnl:(l.map cuC).length=l.length:=by simp
 refine gd 43 ⟨?_⟩;refine Zb (ZP (id:=0) (i0:=0) (j0:=0) rfl (Y0 rfl) (Y0 rfl) rfl 2 (by decide) (by decide)) ?_;refine Zb (ZP (id:=0) (i0:=0) (j0:=1) rfl (Y0 rfl) (Y0 rfl) rfl 2 (by decide) (by decide)) ?_;refine go ?_;refine ZC hC (fun (z:Nat×List KE)=>z.1<=l.length/\X20 t z.2/\X5b (l.take z.1) z.2) (fun z=>l.length-z.1) 3 (fun z => [(2,.cp (pbP t S)),(9,.cp (srC t S)),(11,.ptr 0 0 0),(43,.vec (l.map cuC) false),(44,.val (.int .i64 (l.length:Int))),(45,Yv z.1)])
  (fun z => [(0,⟨3,[[.own 1,.own 2,.val (.int .i64 L)]]⟩),(1,⟨2,(kcs z.2).map cuC⟩),(2,⟨2,z.2.map hwC⟩)]) (Y0l _) (0,[]) ⟨Y0l _,X20.nil t,fun c hc=>(by cases hc)⟩ (fun i=>i) (fun _ _=>rfl) Zp
  ⟨Qp hpp,Qp hsr,Qt 0 0 0,Qp (Z0 _),⟨_,by rw [<- hnl]; rfl,.pure _ Yt⟩,Qp Yt,Yt⟩
  ⟨⟨by decide,_,rfl,Xr.single ⟨.own (ρ:=fun i=>i) 1 (by decide),.own (ρ:=fun i=>i) 2 (by decide),.pure _ Yt,Yt⟩ rfl⟩,Qs Yt,Qs Yt,Yt⟩ ?_
 rintro⟨j,k1⟩ ⟨hj,hk1,hcov⟩;dsimp only at hj hk1 hcov ⊢;have hjnc:IntKind.i64.wrap ((j:Int)+1)=((j+1:Nat):Int):=Y0v _ ⟨by omega,by omega⟩;have hkl:=hk1.len;refine gd 46 ⟨?_⟩;by_cases hjl:j<l.length
 . refine Qo (Qy rfl (Y2Q.2 hjl)) ?_;have htk:=Z11 hjl;have hcm:=Y0j hjl;refine gd 47 ⟨?_⟩;refine Qo (Zo (xs:=l) (g:=cuC) rfl rfl j rfl hjl rfl) ?_;generalize l[j]=c at htk hcm ⊢;have hc1:=hti.1 c hcm;have hadd:=Zdc k1 hk1.c64 (by omega) (c,((-1:Int),0)) (hc1.lt (by decide)) L;refine gd 52 ⟨?_⟩;refine ZbV hadd rfl rfl rfl rfl rfl rfl (by decide) (by decide) (by decide) Yt ⟨Zx _,⟨Yt,Yt,Yt⟩,Yt⟩ ⟨Yt,Yt⟩ (Z0 _) (Z1c _) ?_;rintro v b1' b2' - - - ⟨k2,rfl,rfl,ha⟩;have hst:∀ S,InS t S->hoC c S=true->Xq t S=true/\XB t S=true:=fun S hS hc=>by
    have h1:=hts S hS;rw [show soC l S=true from Y01.2 ⟨c,hcm,hc⟩] at h1;have h1:=h1.symm;rw [Y0k] at h1;exact h1
   obtain⟨p1,p2,p3,p4⟩:=ha.keep (t:=t) hk1 ⟨hc1,htn c hcm,hte c hcm⟩ (.inl ⟨rfl,hst⟩);rcases p4 with rfl|⟨rfl,p4⟩
   . refine go ?_
     refine⟨(j+1,k2),fun i=>mv 1 4 (mv 2 5 i),⟨hjl,p2,?_⟩,by show l.length-(j+1)<l.length-j; omega,fun i hi=>absurd hi (YL i),Zu rfl,
      ⟨Qp hpp,Qp hsr,Qt 0 0 0,Qp (Z0 _),Qp Yt,⟨_,by show some _=some _; rw [hjnc],.pure _ Yt⟩,Yt⟩,
      ⟨⟨by decide,_,rfl,Xr.single ⟨.own (ρ:=fun i=>mv 1 4 (mv 2 5 i)) 1 (by decide),.own (ρ:=fun i=>mv 1 4 (mv 2 5 i)) 2 (by decide),.pure _ Yt,Yt⟩ rfl⟩,Qs (Z0 _),Qs (Z1c _),Yt⟩⟩
     rw [htk];intro c' hc' S hS;rcases Y0h.1 hc' with hc' | hc'
     . exact Z9b p1 (hcov c' hc' S hS)
     . rw [Y0g] at hc'; subst hc'; exact p3 S hS
   . refine go ?_;have:=p2.len;exact Z8 rfl ⟨Yt,Yt,Yt,Yt,Yt⟩ (.lim (by omega))
 have hjl:j=l.length:=by omega
 rw [hjl,Y0q] at hcov;have htin:X3z t k1:=fun S hS hg hr=>by
  have h1:=hts S hS;rw [hg,hr] at h1;obtain⟨c,hc,h2⟩:=Y01.1 (show soC l S=true from h1);exact hcov c hc S h2
 refine Qo (Qz rfl (by omega)) ?_;clear hcov hts;refine go ?_;refine ZC hC (fun (z:Nat×List KE)=>z.1<=z.2.length/\X20 t z.2/\X3z t z.2/\∀ i e,i<z.1->z.2[i]?=some e->X5c t e.1 z.2/\hoC e.1 t.st=false) (fun z=>2 ^ t.n-z.1) 3 (fun z => [(2,.cp (pbP t S)),(9,.cp (srC t S)),(11,.ptr 0 0 0),(15,Yv z.1)])
  (fun z => [(0,⟨3,[[.own 1,.own 2,.val (.int .i64 L)]]⟩),(1,⟨2,(kcs z.2).map cuC⟩),(2,⟨2,z.2.map hwC⟩)]) (Y0l _) (0,k1) ⟨Y0l _,hk1,htin,fun i e hi=>absurd hi (YL i)⟩ (fun i=>i) (fun _ _=>rfl) Zp
  ⟨Qp hpp,Qp hsr,Qt 0 0 0,Qp Yt,Yt⟩
  ⟨⟨by decide,_,rfl,Xr.single ⟨.own (ρ:=fun i=>i) 1 (by decide),.own (ρ:=fun i=>i) 2 (by decide),.pure _ Yt,Yt⟩ rfl⟩,Qs (Z0 _),Qs (Z1c _),Yt⟩ ?_
 clear hk1 htin hkl hjnc;rintro⟨i,ks⟩ ⟨hi,hk,htin,hex⟩;dsimp only at hi hk htin hex ⊢;have hkl:=hk.len;have hinc:IntKind.i64.wrap ((i:Int)+1)=((i+1:Nat):Int):=Y0v _ ⟨by omega,by omega⟩;have hcl:((kcs ks).map cuC).length=ks.length:=by simp [kcs]
 refine gd 63 ⟨?_⟩;by_cases hil:i<ks.length
 case neg =>
  refine Zb (Zk (ob:=0) (id:=1) (i0:=0) (j0:=0) rfl rfl (by decide) (Z0 _) (Y0 rfl) (Y0 rfl) rfl) ?_;refine Qo (Qz rfl (by rw [hcl];omega)) ?_;refine go ?_;refine Z8 rfl ⟨Yt,Z0 _,Yt,Yt,Yt⟩ (.no ks ⟨hk,htin,fun e he=>?_,?_⟩)
  . obtain ⟨m, hm, rfl⟩ := Y1Y.1 he;exact (hex m _ (by omega) (Y0c hm)).1
  . refine YB.2 fun hso => ?_;obtain⟨c,hc,hho⟩:=Y01.1 hso;obtain⟨e,he,rfl⟩:=Y0i.1 hc;obtain⟨m,hm,rfl⟩:=Y1Y.1 he;rw [(hex m _ (by omega) (Y0c hm)).2] at hho;cases hho
 refine Qo (Qy rfl (by rw [hcl];omega)) ?_;obtain⟨e,he⟩:∃ e,ks[i]?=some e:=⟨_,Y0c hil⟩
 obtain⟨g1,g2⟩:=Zgu he;have hem:=hk.mem e (Y13 he);have hst64:=InS.lt h.n.2 (show InS t t.st from h.st);refine gd 71 ⟨?_⟩;refine Qr (ZO (k:=.i64) rfl rfl rfl i rfl g2 rfl) ?_;refine Qr (Z2p (p:=cuP e.1) rfl rfl g2 (by show X1a true 2 0 (((kcs ks).map cuC).getD i [])=_; rw [g1]; rfl)) ?_;refine gd 75 ⟨?_⟩;refine Qd (Z4F e.1 t.st (hem.1.lt (by decide)) hst64) ⟨Zx _,Z2 _,Yt⟩ ?_;cases hho:hoC e.1 t.st
 case true =>
  obtain⟨p,hp⟩:=hk.path (i+1) i (Y2L _) hil;have hpl:=hp.len hk;have hpo:=hk.plan h he hho hp;refine gd 76 ⟨?_⟩;refine Zb (Zk (ob:=0) (id:=1) (i0:=0) (j0:=0) rfl rfl (by decide) (Z0 _) (Y0 rfl) (Y0 rfl) rfl) ?_;refine Zb (Zk (ob:=0) (id:=2) (i0:=0) (j0:=1) rfl rfl (by decide) (Z1c _) (Y0 rfl) (Y0 rfl) rfl) ?_;refine Zb (Z1q (k:=11) (l:=kpC ks L) rfl rfl (Z9i ks L)) ?_;refine gd 78 ⟨?_⟩;refine Qe (Zgt hn hk L hp) ⟨Z9i ks L,Yt,Yt⟩ ?_;refine go ?_;exact Z8 rfl ⟨Zy _,Yt,Yt,Yt,Yt⟩ (.yes p hpo (by omega))
 have hexp:=ZbW h hn S hk i e he L;refine gd 82 ⟨?_⟩;refine ZbV hexp rfl rfl rfl rfl rfl rfl (by decide) (by decide) (by decide) ⟨hsr,Yt⟩ ⟨Yt,Yt⟩ ⟨Yt,Yt⟩ (Z0 _) (Z1c _) ?_;rintro v b1' b2' - - - ⟨k2,rfl,rfl,p1,p2,p3⟩;rcases p3 with⟨rfl,p3⟩|⟨rfl,p3⟩
 . refine go ?_;have:=p2.len;have:=p1.length_le
   refine⟨(i+1,k2),fun i=>mv 1 13 (mv 2 14 i),⟨by show i+1<=k2.length; omega,p2,htin.pre p1,fun m e' hm he'=>?_⟩,by show 2 ^ t.n-(i+1)<2 ^ t.n-i; omega,fun i hi=>absurd hi (YL i),Zu rfl,
    ⟨Qp hpp,Qp hsr,Qt 0 0 0,⟨_,by show some _=some _; rw [hinc],.pure _ Yt⟩,Yt⟩,
    ⟨⟨by decide,_,rfl,Xr.single ⟨.own (ρ:=fun i=>mv 1 13 (mv 2 14 i)) 1 (by decide),.own (ρ:=fun i=>mv 1 13 (mv 2 14 i)) 2 (by decide),.pure _ Yt,Yt⟩ rfl⟩,Qs (Z0 _),Qs (Z1c _),Yt⟩⟩
   by_cases hmi:m<i
   . have := hex m e' hmi (pre_get' p1 he' (by omega));exact⟨this.1.pre p1,this.2⟩
   . obtain rfl : m = i := by omega
     rw [ZbP p1 he] at he';cases he';exact⟨p3,hho⟩
 . refine go ?_;have:=p2.len;exact Z8 rfl ⟨Yt,Yt,Yt,Yt,Yt⟩ (.lim (by omega))
section
variable {P:Program} {e:Env} {h:X1} {n:Nat}
end
theorem Z4K (l:List Int) (N:Nat) (h:X1q (X1g l) l=N) (fl:Bool):Xa Tryz.prog 9 [.vec (XG l) fl] (· = XH N):=h▸Zb4 l fl
theorem Zan:XL ([]:List Pr):=fun p hp=>by cases hp
theorem ZiP {a b:Nat} (h:Up [] a b):False:=by
 cases h with
 | one h=>cases h
 | more _ h=>cases h
def rsE:List RU := [⟨false,(0,0),1,0⟩,⟨false,(2,0),2,0⟩,⟨true,(0,0),1,0⟩]
def tE (nv:List Cu):PB:=⟨3,[],0,rsE,nv,[(4,2)]⟩
def t0:PB:=tE []
def t1:PB:=tE [(6,0)]
theorem Zgv (r:Nat):sen [] r=2 ^ r:=YF fun a=>by
 rw [YO,Z4G Zan,YK,Y0n];exact⟨fun h=>h.elim (fun h=>(ZiP h).elim) Eq.symm,fun h=>.inr h.symm⟩
def X4i (s:Nat):Nat:=((List.range 64).find? fun i=>s.testBit i).getD 0
def mOf (d:ND):Nat:=X3Y d.so ||| X3Y d.no
def X7A (sn:Nat->Nat) (d:ND) (o:Nat) (l:List Nat):Nat:=l.foldl (fun o r=>if d.cl then o ||| sn r else o) o
def X85 (sn:Nat->Nat) (ds:List ND):Nat:=ds.foldl (fun o d=>X7A sn d (o ||| mOf d) (mem (mOf d))) 0
def X6Z (cl:Nat->Nat) (ds:List ND) (lo hi:Nat):Nat:=ds.foldl (fun a d=>min a (X7Q cl d lo hi)) 2
def X6Q (cl:Nat->Nat) (ds:List ND):Nat->Nat->Nat->Option Nat
 | 0,_,_=>none
 | f + 1, left, s =>
   if X6Z cl ds s (s ||| left)=2 then some s else if X6Z cl ds s (s ||| left)=0 then none else if left=0 then none else
    match X6Q cl ds f (Xe left (2 ^ X4i left)) s with
    | some o=>some o
    | none=>X6Q cl ds f (Xe left (2 ^ X4i left)) (s ||| 2 ^ X4i left)
def X3H (cl sn:Nat->Nat) (n:Nat) (ds:List ND):Option Nat:=X6Q cl ds 65 (X85 sn ds &&& (2 ^ (n+1)-1)) 0
noncomputable def X4L (t:PB) (s:Nat) (k:Int):Option Nat:=if 0<=k then (match t.rs[k.toNat]? with|some r=>if XU t r s then some (Xo r s) else none|none=>none) else none
section
variable {P:Program} {C:Ctx} {e:Env} {h:X1} {n:Nat} {Q:Exit->Nat->Env->X1->Prop}
end
theorem Zie:∀ r:Nat,r<64->X1q (X1g [(r:Int)]) [(r:Int)]=2 ^ r:=by decide +kernel
theorem Zem (r:Nat) (hr:r<64) (fl:Bool):Xa Tryz.prog 9 [.vec [[.val (.int .i64 (r:Int))]] fl] (· = XH (2 ^ r)):=Zie r hr▸Zb4 [(r:Int)] fl
def X5L (n:Nat):Nat:=2 ^ (n+1)-1
def X4m (n:Nat) (l:List Cu):Bool := !(X3Y l).testBit 0&&decide (X3Y l ||| X5L n=X5L n)
abbrev Fd:=Nat×Nat×Nat
noncomputable def X33 (t:PB):Nat->List Nat->Nat->Fd
 | s,[],_=>if XB t s then (1,0,0) else (5,0,0)
 | s, k :: p, i => match X4L t s (k : Int) with
   | some o=>X33 t o p (i+1)
   | none=>(4,i,k)
def X7h (t:PB) (l:List Cu) (fl:Bool):List ND := [⟨true,false,false,0,[],t.nv,true,false⟩,⟨true,false,true,0,t.gl,[],false,true⟩,⟨false,false,false,0,[],l,true,fl⟩]
def X7w (t:PB) (l:List Cu) (fl:Bool) (c:Cu) (r:RU):List ND := [⟨true,false,false,0,[],t.nv,true,false⟩,⟨false,false,false,0,[],l,true,fl⟩,⟨false,false,true,0,[if r.rev then (2 ^ r.tg,0) else (0,2 ^ r.tg)],[],true,true⟩,⟨true,false,true,0,[r.cu],[],true,true⟩,⟨true,r.rev,false,r.tg,[],t.nv,true,false⟩,⟨false,r.rev,true,r.tg,[c],[],false,true⟩]
noncomputable def X6V (t:PB) (l:List Cu) (fl:Bool):Option Nat:=X3H (clo t.l) (sen t.l) t.n (X7h t l fl)
noncomputable def X7u (t:PB) (l:List Cu) (fl:Bool) (c:Cu) (r:RU):Option Nat:=X3H (clo t.l) (sen t.l) t.n (X7w t l fl c r)
def X4R (e:Nat->Bool):Nat->Nat->Option Nat
 | 0,_=>none
 | c+1,k=>if e k then some k else X4R e c (k+1)
def X5n (e:Nat->Nat->Bool) (m:Nat):Nat->Nat->Option (Nat×Nat)
 | 0,_=>none
 | c + 1, i => match X4R (e i) m 0 with
   | some k=>some (i,k)
   | none=>X5n e m c (i+1)
def cu0 (l:List Cu) (i:Nat):Cu:=l.getD i (0,0)
def ru0 (l:List RU) (k:Nat):RU:=l.getD k ⟨false,(0,0),0,0⟩
noncomputable def X6v (t:PB) (l:List Cu) (fl:Bool) (i k:Nat):Bool:=(X7u t l fl (cu0 l i) (ru0 t.rs k)).isSome
def X60:Option (Nat×Nat)->Fd
 | some (i,k)=>(8,i,k)
 | none=>(1,0,0)
noncomputable def X3B (t:PB) (l:List Cu) (fl:Bool):Fd :=
 match X4R (fun i=>hoC (cu0 l i) t.st) l.length 0 with
 | some i=>(6,i,0)
 | none=>if (X6V t l fl).isSome then (7,0,0) else X60 (X5n (X6v t l fl) t.rs.length l.length 0)
theorem ZlE {n i mask id:Nat} {P:Program} {e:Env} {h:X1} {d:Option Nat} {f:Operand} {as0:List Operand} {iso:Nat} {alt:Bool} {xs:List X8} {K:Env->X1->Prop} {g:FuncId} {caps as1:List PV} {args:Nat->List PV} {b:Bx} {R:PV->Bx->Prop} (hs:X2v P g args b R) (hm:MkL args) (hf:ev e f=some (.fn g caps)) (ha:evs e as0=some as1) (hr:as1++caps=args id) (hb:h id=some b) (hpb:X2 b.elems)
 (hk:∀ r b',r.pure->X2 b'.elems->R r b'->dK P (.to id) n xs (Xy e d r) (h.upd id b') K):dK P (.to id) n (⟨i,⟨d,.call f as0,none⟩,mask,iso,alt⟩ :: xs) e h K:=by
 unfold dK;refine⟨_,.callP rfl f as0 rfl id rfl b hb R ⟨g,caps,as1,hf,ha,by rw [hr]; exact hs.prun hm hpb id⟩,?_⟩;rintro p' f' ⟨b',rfl,h1,h2,h3⟩;exact hk p' b' h1 h2 h3
def HS.zero (t:Nat):HS:=⟨List.replicate 25 0,List.replicate 136 0,0,t⟩
theorem Zgw (t:Nat):HOk (HS.zero t):=⟨rfl,fun w hw=>by rw [Y1p hw]; decide,rfl,fun w hw=>by rw [Y1p hw]; decide,by show 0<136; decide⟩
theorem ZbY:X1s Tryz.prog 174 [] (fun i=>.ptr i 0 0) (hBx (HS.zero 0)):=by
 refine Z1A ok174 (Y0 rfl) fun C hC=>?_;refine go ?_;exact⟨_,_,rfl,.inl rfl,_,rfl,by show some _=some _; kernel_rfl⟩
theorem ZjI (h0:HS) (hh0:HOk h0) (p:List Nat) (fl0:Bool) (hp:W8 p) (hlen:h0.total+p.length<1000000000000):X2f Tryz.prog 175 (hBx h0) [.vec (bys p) fl0] (fun r b'=>b'=hBx (HS.puts (p.length+1) ⟨h0.st,h0.bl,h0.used,h0.total+p.length⟩ p)):=by
 refine Z1O ok175 (Y0 rfl) fun C hC=>?_;have hbl:∀ l:List Nat,(bys l).length=l.length:=fun l=>by simp [bys]
 have hC0:=Z8h (u:=.val (.int .i64 (h0.used:Int))) (t:=.val (.int .u64 (h0.total:Int))) hh0.sl hh0.bl;refine gd 10 ⟨?_⟩;refine Qo (Z4J (l:=Xx h0.st h0.bl (.val (.int .i64 (h0.used:Int))) (.val (.int .u64 (h0.total:Int)))) rfl rfl (by rw [hC0]; decide) (ZlD hh0.sl hh0.bl)) ?_;refine gd 13 ⟨?_⟩;refine Zh (v:=(p.length:Int)) rfl rfl rfl (by rw [hbl]; exact Y0x _ ⟨by omega,by omega⟩) ?_;refine Zh (v:=((h0.total+p.length:Nat):Int)) rfl rfl rfl (Y0x _ ⟨by omega,by omega⟩) ?_
 iterate 2 (first|refine st ?_|(apply B<;>intro hb<;>try cases hb))
 refine Qo (ZjG (l:=Xx h0.st h0.bl (.val (.int .i64 (h0.used:Int))) (.val (.int .u64 (h0.total:Int)))) rfl rfl rfl (by decide) (ZjE hh0.sl hh0.bl _)) ?_;have hh1:HOk ⟨h0.st,h0.bl,h0.used,h0.total+p.length⟩:=⟨hh0.sl,hh0.sw,hh0.bl,hh0.bw,hh0.us⟩
 generalize hX0:(⟨h0.st,h0.bl,h0.used,h0.total+p.length⟩:HS)=X0 at hh1;generalize hfin:HS.puts (p.length+1) X0 p=fin;refine go ?_;refine ZB hC (fun x:HS×List Nat×Bool=>HOk x.1/\W8 x.2.1/\x.2.1.length<=p.length/\HS.puts (p.length+1) x.1 x.2.1=fin) (fun x=>x.2.1.length) 1 (fun x => [(0,.ptr 0 0 0),(1,.vec (bys x.2.1) x.2.2)]) (fun x => [(0,hBx x.1)]) (by decide) (X0,p,fl0) ⟨hh1,hp,Y0m _,hfin⟩
  ⟨⟨rfl,show 0<1 by decide⟩,⟨rfl,Zbv _ _⟩,Yt⟩ ⟨⟨by decide,by rw [<- hX0]; rfl,Z5I _ _⟩,Yt⟩ ?_
 rintro⟨x,q,fl⟩ ⟨hx,hq,hql,hqf⟩;dsimp only at hx hq hql hqf;have hCx:=fun (u t:PV)=>Z8h (u:=u) (t:=t) hx.sl hx.bl;have hus:=hx.us;have hbq:=hbl q;refine gd 19 ⟨?_⟩;by_cases hq0:q.length=0
 . refine Qo (Qz rfl (by show ¬ (((bys q).length : Int) > 0); omega)) ?_;rw [Z7i hq0] at hqf;subst hqf;refine go ?_;exact⟨_,_,rfl,.inl rfl,_,rfl,Yt,Z3v _,rfl⟩
 . refine Qo (Qy rfl (by show ((bys q).length : Int) > 0; omega)) ?_;rw [Zgn hx hq hq0 (by omega)] at hqf;have hput:=ZiO x q;have hpok:=Zda hx hq;have hnl:=Z9h hx q;have hnw:=Zd9 hx hq;have hcp:=ZjF (u:=.val (.int .i64 (x.used:Int))) (t:=.val (.int .u64 (x.total:Int))) hx.sl hx.bl hus q;change _=Xx x.st (X3J x q) _ _ at hcp;generalize hnn:min q.length (136-x.used)=nn at hqf hput;have hCn:=fun (u t:PV)=>Z8h (u:=u) (t:=t) hx.sl hnl;refine gd 26 ⟨?_⟩;refine Qr (Z4J (l:=Xx x.st x.bl (.val (.int .i64 (x.used:Int))) (.val (.int .u64 (x.total:Int)))) rfl rfl (by rw [hCx]; decide) (ZkQ hx.sl hx.bl)) ?_;refine Qr (Zic rfl x.used 136 rfl rfl (by omega) (by omega) (by omega)) ?_;refine gd 29 ⟨?_⟩;refine Qr (Zlp (l:=Xx x.st x.bl (.val (.int .i64 (x.used:Int))) (.val (.int .u64 (x.total:Int)))) rfl rfl rfl (by omega) hcp) ?_;rw [hnn];refine gd 32 ⟨?_⟩;refine Qo (Zf3 (xs:=q) (g:=fun (x:Nat) => [.val (.int .u8 (x:Int))]) rfl nn q.length rfl (by show some ((List.map (fun (x:Nat) => [PV.val (.int .u8 (x:Int))]) q).length:Int)=_; rw [Y0f]) (by omega) (Y0m _) (fun _=>rfl)) ?_;rw [Y0q];refine gd 36 ⟨?_⟩;refine Qo (Z4J (l:=Xx x.st (X3J x q) (.val (.int .i64 (x.used:Int))) (.val (.int .u64 (x.total:Int)))) rfl rfl (by rw [hCn]; decide) (ZkQ hx.sl hnl)) ?_;refine gd 38 ⟨?_⟩;refine Zh (v:=((x.used+nn:Nat):Int)) rfl rfl rfl (wi (x.used+nn) (by omega)) ?_
   iterate 2 (first|refine st ?_|(apply B<;>intro hb<;>try cases hb))
   refine Qo (ZjG (l:=Xx x.st (X3J x q) (.val (.int .i64 (x.used:Int))) (.val (.int .u64 (x.total:Int)))) rfl rfl rfl (by decide) (Zgp hx.sl hnl _)) ?_;refine gd 44 ⟨?_⟩;refine Qo (Z4J (l:=Xx x.st (X3J x q) (.val (.int .i64 ((x.used+nn:Nat):Int))) (.val (.int .u64 (x.total:Int)))) rfl rfl (by rw [hCn]; decide) (ZkQ hx.sl hnl)) ?_;by_cases h136:x.used+nn=136
   . refine Qo (Qy rfl (by rw [h136]; rfl)) ?_;rw [Y5 h136] at hput
     repeat' (first|refine Zcp [] 0 (by decide) ?_|refine Z8B 52 ?_|(first|refine st ?_|(apply B<;>intro hb<;>try cases hb)))
     refine At.mk ?_;refine Qr (Zic rfl 0 136 rfl rfl (by decide) (by decide) (by decide)) ?_;refine ZlE (Zia x.st (X3J x q) hx.sl hx.sw hnl hnw [.val (.int .i64 ((x.used+nn:Nat):Int)),.val (.int .u64 (x.total:Int))] ⟨Yt,Yt,Yt⟩) (Z9d (Z7e 0 0) (Z9d (ZkI 0 25 136 136) Zgg)) rfl rfl rfl rfl ⟨Zgq Yt Yt,Yt⟩ ?_;rintro r b' hr1 hr2 rfl;refine gd 56 ⟨?_⟩;(first|refine st ?_|(apply B<;>intro hb<;>try cases hb));refine Qo (ZjG (l:=Xx (X1O x.st (X3J x q)) (X3J x q) (.val (.int .i64 ((x.used+nn:Nat):Int))) (.val (.int .u64 (x.total:Int)))) rfl rfl rfl (show 161+1<=163 by decide) (Zgp (Z5H hx.sl) hnl _)) ?_;refine go ?_;exact⟨(x.put q,q.drop nn,false),⟨hpok,hq.sub fun x hx=>Y1b hx,by show (q.drop nn).length<=_; rw [YQ]; omega,hqf⟩,by show (q.drop nn).length<q.length; rw [YQ]; omega,⟨⟨rfl,show 0<1 by decide⟩,⟨rfl,Zbv _ _⟩,Yt⟩,⟨⟨by decide,by show _=some (hBx (x.put q)); rw [hput]; rfl,Z5I _ _⟩,Yt⟩⟩
   . refine Qo (Qz rfl (by omega)) ?_;rw [Y6 h136] at hput;refine go ?_;exact⟨(x.put q,q.drop nn,false),⟨hpok,hq.sub fun x hx=>Y1b hx,by show (q.drop nn).length<=_; rw [YQ]; omega,hqf⟩,by show (q.drop nn).length<q.length; rw [YQ]; omega,⟨⟨rfl,show 0<1 by decide⟩,⟨rfl,Zbv _ _⟩,Yt⟩,⟨⟨by decide,by show _=some (hBx (x.put q)); rw [hput]; rfl,Z5I _ _⟩,Yt⟩⟩
end
end Go.Proofs.YtbfbcdjjhhcbaaaGreatDoor
