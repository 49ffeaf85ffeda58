/-
 Proved: for every input the law TopNormal returns true,never panics,and leaves its arguments as0 they were,on the given card's conditions (the table of the bits package reads as0 the program's text lays it,and is tied to it).
-/
import Derived.Lay
import Derived.SevenTiedAt
import Derived.Test.YtgpjedjgmpienaaGreatDoorCards
import Derived.Test.YtgpjedjgmpienaaGreatDoorTie
import Derived.Test.YtgpjedjgmpienaaGreatDoorMq6
import Derived.Test.YtgpjedjgmpienaaGreatDoorMf
import Derived.Test.YtgpjedjgmpienaaGreatDoorMi
set_option linter.unusedSimpArgs false
set_option linter.unusedVariables false
set_option linter.unusedSectionVars false
set_option linter.defProp false
set_option maxRecDepth 100000
set_option maxHeartbeats 16000000
namespace Go.Proofs.YtgpjedjgmpienaaGreatDoor
section
open Go.RowKit
attribute [local irreducible] aw Xj dK
theorem Z84 {r:PV} (h:X5O r):∃ f,X1n f/\f.depth<=4/\f.size<=15/\r=.tup [.agg (fC .u8 f),.agg (fC .i64 f)]:=by
 obtain⟨f,h1,h2,h3,h4,h5,rfl⟩:=h;exact⟨f,⟨h1,h2,by omega,by omega,h5⟩,h3,h4,rfl⟩
theorem ZcB (f g:Fm) (mf:X1n f) (mg:X1n g):X7 Tryz.prog 20 [.agg (fC .u8 f),.agg (fC .u8 g)] (· = .val (.bool (X4V f g&&X4V g f))):=by
 have:=Z78 f g (by have:=mf.depth;omega) (by have:=mf.size;omega) (by have:=mg.depth;omega) (by have:=mg.size;omega);rw [mf.check,mg.check,Z9n mf mg] at this;exact this
theorem Z5x (f:Fm) (m:X1n f):X7 Tryz.prog 7 [.agg (fC .u8 f)] (· = .tup [.vec ((X11 f).map cuC) false,.val (.int .i64 0)]):=by
 have:=Z1R f (by have:=m.depth;omega) (by have:=m.size;omega);rw [m.check] at this;exact this
theorem Z3l (N:Nat) (f:Fm) (m:X1n f):X7 Tryz.prog 12 [.agg (fC .u8 f),XH N,.vec [] true] (· = .val (.bool (X2P f N))):=by
 have hd:=m.depth;have hs:=m.size;have:=Ze0 N [] true f (by omega) (by omega);have e:X1f f=0/\X1g f=1:=by
  unfold X1f X1g;rw [Y8 (by omega),Y7 m.wf.1,Y7 m.wf.2,Y8 (by omega),Y7 m.wf.1,Y7 m.wf.2];exact⟨rfl,m.ty⟩
 rw [e.1,e.2] at this;exact this
theorem Zhm {f:Fm} (m:X1n f):X29 eqC (X11 f) (X11 f)=true:=by
 rw [Z9n m m,Bool.and_self,Z5c m m];exact fun S h=>h
theorem Z9q (p q:List Nat) (f1 f2:Bool) (hp:X2S p) (hq:X2S q):X7 Tryz.prog 3 [.vec (bys p) f1,.vec (bys q) f2] (· = .val (.bool true)):=by
 refine Yp ok3 fun C hC=>?_;(repeat'(first|refine Z1 24 ?_|refine Z0 24 ?_|refine st ?_|(apply B<;>intro hb<;>try cases hb)))<;>try refine At.mk ?_
 refine Qe Z9l Yt ?_;(repeat'(first|refine Z1 28 ?_|refine Z0 28 ?_|refine st ?_|(apply B<;>intro hb<;>try cases hb)))<;>try refine At.mk ?_
 refine Z13 rfl rfl (Z79 p hp f1) ⟨Z67 p,Yt⟩ rfl ?_;intro r hr;obtain⟨f,mf,df,sf,rfl⟩:=Z84 hr;(repeat'(first|refine Z1 33 ?_|refine Z0 33 ?_|refine st ?_|(apply B<;>intro hb<;>try cases hb)))<;>try refine At.mk ?_
 refine Z13 rfl rfl (Z79 q hq f2) ⟨Z67 q,Yt⟩ rfl ?_;intro r hr;obtain⟨g,mg,dg,sg,rfl⟩:=Z84 hr;have hsh:ShA f:=Zjk f.depth f (Y0m _) mf.wf mf.in6;(repeat'(first|refine Z1 38 ?_|refine Z0 38 ?_|refine st ?_|(apply B<;>intro hb<;>try cases hb)))<;>try refine At.mk ?_
 refine Qe (Z9p hsh (by omega) (by omega) mf.check) ⟨Zl _ _,Yt⟩ ?_;(repeat'(first|refine Z1 43 ?_|refine Z0 43 ?_|refine st ?_|(apply B<;>intro hb<;>try cases hb)))<;>try refine At.mk ?_
 refine Qe (Z5x f mf) ⟨Zl _ _,Yt⟩ ?_;(repeat'(first|refine Z1 48 ?_|refine Z0 48 ?_|refine st ?_|(apply B<;>intro hb<;>try cases hb)))<;>try refine At.mk ?_
 refine Qe (Z5x g mg) ⟨Zl _ _,Yt⟩ ?_;(repeat'(first|refine Z1 53 ?_|refine Z0 53 ?_|refine st ?_|(apply B<;>intro hb<;>try cases hb)))<;>try refine At.mk ?_
 refine Qe (Z5x f mf) ⟨Zl _ _,Yt⟩ ?_;(repeat'(first|refine Z1 73 ?_|refine Z0 73 ?_|refine st ?_|(apply B<;>intro hb<;>try cases hb)))<;>try refine At.mk ?_
 refine Zj rfl ?_;have hvf:=Z9m f;have hvg:=Z9m g;refine Qe (Z2C (X11 f) (X11 f) cuC cuC false false 9 [] eqC Z3g Z3g Z23 Z23 Yt fun c hc d hd=>Z4l c d (hvf c hc) (hvf d hd)) ⟨Zr _,Zr _,Yt,Yt⟩ ?_;rw [Zhm mf];(repeat'(first|refine Z1 79 ?_|refine Z0 79 ?_|refine st ?_|(apply B<;>intro hb<;>try cases hb)))<;>try refine At.mk ?_
 refine Zj rfl ?_;refine Qe (ZaG f.depth f f (Y0m _)) ⟨Zl _ _,Zl _ _,Yt⟩ ?_;rw [Zdy f.depth f (Y0m _)];(repeat'(first|refine Z1 17 ?_|refine Z0 17 ?_|refine st ?_|(apply B<;>intro hb<;>try cases hb)))<;>try refine At.mk ?_
 refine Zm (Z1t (k:=5) (l:=fC .u8 f) rfl rfl (Zl _ _)) ?_;refine Zm (Z1t (k:=7) (l:=fC .u8 g) rfl rfl (Zl _ _)) ?_;(refine go ?_;repeat' (apply B<;>intro hb<;>try cases hb));have hfp:∀ D,X26 D (fC .u8 f):=fun D=>Z7E .u8 f D;have hgp:∀ D,X26 D (fC .u8 g):=fun D=>Z7E .u8 g D;have hvp:∀ D,XG D ((X11 f).map cuC):=fun D=>Zc (fun _ h=>h.elim) _ (Zr _);have hvq:∀ D,XG D ((X11 g).map cuC):=fun D=>Zc (fun _ h=>h.elim) _ (Zr _);refine Zv hC (fun n=>n<=64) (fun n=>64-n) 0 (fun n => [(5,.cp (fC .u8 f)),(7,.cp (fC .u8 g)),(11,.vec ((X11 f).map cuC) false),(13,.vec ((X11 g).map cuC) false),(17,.val (.bool (apT f g n))),(82,.val (.int .i64 (n:Int)))]) (fun _=>[]) (Y0m _) 0 (Y0l _)
  ⟨⟨rfl,hfp _⟩,⟨rfl,hgp _⟩,⟨rfl,hvp _⟩,⟨rfl,hvq _⟩,⟨rfl,Yt⟩,⟨rfl,Yt⟩,Yt⟩ Yt ?_
 intro n hn;have hinc:IntKind.i64.wrap ((n:Int)+1)=((n+1:Nat):Int):=Y0v _ ⟨by omega,by omega⟩
 iterate 2 (first|refine st ?_|(apply B<;>intro hb<;>try cases hb))
 by_cases hlt:n<64
 . refine Qo (Qy rfl (by omega)) ?_;have h2n:2*n<18446744073709551616:=by omega
   (refine go ?_;repeat' (apply B<;>intro hb<;>try cases hb));refine Z1n hC (fun (r:Nat)=>1<=r/\r<=7) (fun r=>7-r) 1 (fun r => [(5,.cp (fC .u8 f)),(7,.cp (fC .u8 g)),(11,.vec ((X11 f).map cuC) false),(13,.vec ((X11 g).map cuC) false),(17,.val (.bool (apT f g n))),(82,.val (.int .i64 (n:Int))),(18,.val (.int .i64 (n:Int))),(19,.ptr 0 0 0),(20,.val (.int .i64 (r:Int)))])
    (fun r => [(0,⟨1,[seC (2*n % 2 ^ r)]⟩)]) (Y0l _) 1 ⟨Y0m _,by decide⟩ (fun i=>i) (fun _ _=>rfl) Z1a
    ⟨Qp (Zl .u8 f),Qp (Zl .u8 g),Qp (Zr _),Qp (Zr _),Qp Yt,Qp Yt,Qp Yt,Qt 0 0 0,Qp Yt,Yt⟩
    ⟨⟨by decide, _, rfl, by
      rw [show seC (2*n % 2 ^ 1) = [.vec [] false] by unfold seC; rw [show 2*n % 2 ^ 1=0 by omega,ZK]; rfl]
      exact X1w.single ⟨.low (.vec [] true) Yt,Yt⟩ rfl⟩,Yt⟩ ?_
   rintro r ⟨hr1,hr2⟩;(repeat'(first|refine Z1 87 ?_|refine Z0 87 ?_|refine st ?_|(apply B<;>intro hb<;>try cases hb)))<;>try refine At.mk ?_
   by_cases hr7:r<7
   . refine Qo (Qy rfl (by omega)) ?_;have hs1:IntKind.i64.wrap ((r:Int)-1)=((r-1:Nat):Int):=by rw [show (r:Int)-1=((r-1:Nat):Int) by omega]; exact Y0v _ ⟨by omega,by omega⟩
     have hrinc:IntKind.i64.wrap ((r:Int)+1)=((r+1:Nat):Int):=Y0v _ ⟨by omega,by omega⟩;have hbit:=X7X n hlt (r-1) (by omega);have hset:=X7z n hlt r hr7 hr1;have hml:2*n % 2 ^ r<18446744073709551616:=Y02 (Nat.mod_le _ _) h2n;(repeat'(first|refine Z1 92 ?_|refine Z0 92 ?_|refine st ?_|(apply B<;>intro hb<;>try cases hb)))<;>try refine At.mk ?_
     refine Ze rfl rfl rfl hs1 ?_;refine Qo (ZkQ rfl rfl (Y1U _) rfl) ?_;refine Ze rfl rfl rfl hbit ?_;cases hb:n.testBit (r-1)
     . rw [hb, Y8 (by decide)] at hset;rw [Y8 (by decide)];(repeat'(first|refine Z1 89 ?_|refine Z0 89 ?_|refine st ?_|(apply B<;>intro hb<;>try cases hb)))<;>try refine At.mk ?_
       refine Ze rfl rfl rfl hrinc ?_;(refine go ?_;repeat' (apply B<;>intro hb<;>try cases hb))
       exact⟨r+1,fun i=>i,⟨by omega,by omega⟩,by omega,fun _ _=>rfl,Z1a,
        ⟨Qp (Zl .u8 f),Qp (Zl .u8 g),Qp (Zr _),Qp (Zr _),Qp Yt,Qp Yt,Qp Yt,Qt 0 0 0,Qp Yt,Yt⟩,
        ⟨⟨by decide,_,rfl,by rw [hset]; exact .same _ ⟨Z5b _,Yt⟩⟩,Yt⟩⟩
     . rw [hb, Y7 rfl] at hset;rw [Y7 rfl];(repeat'(first|refine Z1 98 ?_|refine Z0 98 ?_|refine st ?_|(apply B<;>intro hb<;>try cases hb)))<;>try refine At.mk ?_
       refine Qe (Z7T _ hml r (by omega)) ⟨Z9 _,Yt,Yt⟩ ?_;(repeat'(first|refine Z1 89 ?_|refine Z0 89 ?_|refine st ?_|(apply B<;>intro hb<;>try cases hb)))<;>try refine At.mk ?_
       refine Ze rfl rfl rfl hrinc ?_;(refine go ?_;repeat' (apply B<;>intro hb<;>try cases hb))
       exact⟨r+1,fun i=>i,⟨by omega,by omega⟩,by omega,fun _ _=>rfl,Z1a,
        ⟨Qp (Zl .u8 f),Qp (Zl .u8 g),Qp (Zr _),Qp (Zr _),Qp Yt,Qp Yt,Qp Yt,Qt 0 0 0,Qp Yt,Yt⟩,
        ⟨⟨by decide,_,rfl,by rw [hset]; exact .same _ ⟨Z5b _,Yt⟩⟩,Yt⟩⟩
   . have hr7 : r = 7 := by omega
     subst hr7;rw [Y1a (show 2*n<2 ^ 7 by omega)];refine Qo (Qz rfl (by omega)) ?_;(repeat'(first|refine Z1 101 ?_|refine Z0 101 ?_|refine st ?_|(apply B<;>intro hb<;>try cases hb)))<;>try refine At.mk ?_
     refine Zm (Z1t (k:=19) (l:=seC (2*n)) rfl rfl (Z5b _)) ?_;refine Qe (Z3l (2*n) f mf) ⟨Zl _ _,Z9 _,Yt,Yt⟩ ?_;have hk:=ZiZ f g n;have hho:=fun h=>Zhl mf (S:=2*n) h;have hgs:=Z3l (2*n) g mg;generalize X2P g (2*n)=v at hk hgs;have hab:=fun (c:Cu) (hc:c∈X11 f) (h:hoC c (2*n)=true) (T:Nat)=>Zf9 mf hc (T:=T) h;generalize X2P f (2*n)=u at hk hho ⊢;generalize hw:apT f g n=w at hk ⊢;clear hw;cases u<;>cases w
     case' false.false|true.false =>
      (repeat'(first|refine Z1 107 ?_|refine Z0 107 ?_|refine st ?_|(apply B<;>intro hb<;>try cases hb)))<;>try refine At.mk ?_
      refine Zj rfl ?_;refine Qe hgs ⟨Zl _ _,Z9 _,Yt,Yt⟩ ?_;cases v
     case' true.true|true.false.false|true.false.true =>
      (refine go ?_;repeat' (apply B<;>intro hb<;>try cases hb));exact⟨n+1,by omega,by omega,⟨⟨rfl,hfp _⟩,⟨rfl,hgp _⟩,⟨rfl,hvp _⟩,⟨rfl,hvq _⟩,⟨by show some _=some _; simp [hk, *],Yt⟩,⟨by show some _=some _; rw [hinc],Yt⟩,Yt⟩,Yt⟩
     all_goals
      obtain⟨c,hcm,hcs⟩:=hho rfl;obtain⟨k,hkl,hix,hck⟩:=Z6B (p:=fun c=>hoC c (2*n)) ⟨c,hcm,hcs⟩;have hcl:=Y0j hkl;have hc64:=hvf _ hcl;have hab:=hab _ hcl hck;(repeat'(first|refine Z1 113 ?_|refine Z0 113 ?_|refine st ?_|(apply B<;>intro hb<;>try cases hb)))<;>try refine At.mk ?_
      refine Qe (Z6A (X11 f) cuC false 14 [.cp (seC (2*n))] (fun c=>hoC c (2*n)) Z3g Z23 ⟨Z5b _,Yt⟩ fun c hc=>Zf7 c _ (hvf c hc) h2n) ⟨Zr _,⟨Z5b _,Yt⟩,Yt⟩ ?_;rw [hix];(repeat'(first|refine Z1 115 ?_|refine Z0 115 ?_|refine st ?_|(apply B<;>intro hb<;>try cases hb)))<;>try refine At.mk ?_
      refine Qo (Qz rfl (by omega)) ?_;have hoc:(X11 f)[k].1 ||| (X11 f)[k].2<18446744073709551616:=Z5Q hc64.1 hc64.2
      have hA:=hab (2*n &&& ((X11 f)[k].1 ||| (X11 f)[k].2)) (Zhk _ _);have hB:=hab (2*n ||| XN (2 ^ 7-1) ((X11 f)[k].1 ||| (X11 f)[k].2)) (ZiY (by decide) hoc);have hHA:=Z3l (2*n &&& ((X11 f)[k].1 ||| (X11 f)[k].2)) f mf;have hHB:=Z3l (2*n ||| XN (2 ^ 7-1) ((X11 f)[k].1 ||| (X11 f)[k].2)) f mf;rw [hA] at hHA;rw [hB] at hHB;(repeat'(first|refine Z1 118 ?_|refine Z0 118 ?_|refine st ?_|(apply B<;>intro hb<;>try cases hb)))<;>try refine At.mk ?_
      refine Qr (Zk (xs:=X11 f) rfl rfl k rfl hkl (Z3g _)) ?_;(repeat'(first|refine Z1 123 ?_|refine Z0 123 ?_|refine st ?_|(apply B<;>intro hb<;>try cases hb)))<;>try refine At.mk ?_
      refine Qr (Zk (xs:=X11 f) rfl rfl k rfl hkl (Z3g _)) ?_;(repeat'(first|refine Z1 126 ?_|refine Z0 126 ?_|refine st ?_|(apply B<;>intro hb<;>try cases hb)))<;>try refine At.mk ?_
      refine Qd (Z63 _ _ hc64.1 hc64.2) ⟨Z9 _,Z9 _,Yt⟩ ?_;(repeat'(first|refine Z1 130 ?_|refine Z0 130 ?_|refine st ?_|(apply B<;>intro hb<;>try cases hb)))<;>try refine At.mk ?_
      refine Qd (Zh0 _ _ h2n hoc) ⟨Z9 _,Z9 _,Yt⟩ ?_;refine Qd hHA ⟨Zl _ _,Z9 _,Yt,Yt⟩ ?_;(repeat'(first|refine Z1 135 ?_|refine Z0 135 ?_|refine st ?_|(apply B<;>intro hb<;>try cases hb)))<;>try refine At.mk ?_
      refine Z27 rfl ?_;refine Qd (Z82 7 (by decide) (by decide)) ⟨Yt,Yt⟩ ?_;(repeat'(first|refine Z1 137 ?_|refine Z0 137 ?_|refine st ?_|(apply B<;>intro hb<;>try cases hb)))<;>try refine At.mk ?_
      refine Z27 rfl ?_;refine Qd (Z70 _ _ (show (2:Nat)^7-1<18446744073709551616 by decide) hoc) ⟨Z9 _,Z9 _,Yt⟩ ?_;(repeat'(first|refine Z1 138 ?_|refine Z0 138 ?_|refine st ?_|(apply B<;>intro hb<;>try cases hb)))<;>try refine At.mk ?_
      refine Z27 rfl ?_;refine Qd (Z63 _ _ h2n (Z4Q (show (2:Nat)^7-1<18446744073709551616 by decide))) ⟨Z9 _,Z9 _,Yt⟩ ?_;(repeat'(first|refine Z1 139 ?_|refine Z0 139 ?_|refine st ?_|(apply B<;>intro hb<;>try cases hb)))<;>try refine At.mk ?_
      refine Z27 rfl ?_;refine Qd hHB ⟨Zl _ _,Z9 _,Yt,Yt⟩ ?_;(refine go ?_;repeat' (apply B<;>intro hb<;>try cases hb));exact⟨n+1,by omega,by omega,⟨⟨rfl,hfp _⟩,⟨rfl,hgp _⟩,⟨rfl,hvp _⟩,⟨rfl,hvq _⟩,⟨by show some _=some _; simp [hk, *],Yt⟩,⟨by show some _=some _; rw [hinc],Yt⟩,Yt⟩,Yt⟩
 . have hn : n = 64 := by omega
   subst hn;refine Qo (Qz rfl (by omega)) ?_;(repeat'(first|refine Z1 144 ?_|refine Z0 144 ?_|refine st ?_|(apply B<;>intro hb<;>try cases hb)))<;>try refine At.mk ?_
   refine Qe (Z2C (X11 f) (X11 g) cuC cuC false false 9 [] eqC Z3g Z3g Z23 Z23 Yt fun c hc d hd=>Z4l c d (hvf c hc) (hvg d hd)) ⟨Zr _,Zr _,Yt,Yt⟩ ?_;have heq:=ZcB f g mf mg;rw [Z9n mf mg];rw [Zj0 mf mg] at heq ⊢;generalize apT f g 64=b at heq ⊢;cases b
   all_goals
    (repeat'(first|refine Z1 151 ?_|refine Z0 151 ?_|refine st ?_|(apply B<;>intro hb<;>try cases hb)))<;>try refine At.mk ?_
    refine Zj rfl ?_;refine Qe heq ⟨Zl _ _,Zl _ _,Yt⟩ ?_;(refine go ?_;repeat' (apply B<;>intro hb<;>try cases hb));exact Z4 rfl Yt rfl
end
section
open Go.ChangeShapes Go.WideShapes Go.ChangeAt Go.RowKit
theorem Zdz {α:Type} {enc:α->List PV} {Q:α->Prop}:∀ {ll:List (List PV)},(∀ l∈ll,∃ x,Q x/\l=enc x)->∃ xs:List α,(∀ x∈xs,Q x)/\ll=xs.map enc
 | [],_=>⟨[],fun _ h=>(by cases h),rfl⟩
 | l :: ll, h => by
   obtain⟨x,h1,rfl⟩:=h l (Y0t ..);obtain⟨xs,h2,rfl⟩:=Zdz fun l hl=>h l (YC _ hl);refine⟨x :: xs,fun y hy=>?_,rfl⟩;rcases Ye.1 hy with rfl|hy
   . exact h1
   . exact h2 y hy
theorem ZcD {P:Program} {s t:TypeId}:∀ {ps:List PV},X2M P [s,t] ps->∃ a b,ps = [a,b]/\X30 P s a/\X30 P t b
 | [a,b],⟨h1,h2,_⟩=>⟨a,b,rfl,h1,h2⟩
theorem ZkO {m:Int} (h:(Lit.int .u8 m).wf=true):∃ a:Nat,a<256/\m=(a:Int):=by
 simp only [Lit.wf,Y0k,Y0n] at h;obtain⟨h1,h2⟩:=h;have h3:m<=255:=h2;have h4:0<=m:=h1;exact⟨m.toNat,by omega,by omega⟩
theorem Zj1 {n:Nat} {l:List PV} (h:XL Tryz.prog n 5 l):∃ x:Nat,x<=255/\l = [PV.val (.int .u8 (x:Int))]:=by
 obtain⟨m1,w1,e1⟩:=Zho h (k:=.u8) (by kernel_rfl);obtain⟨x,hx,rfl⟩:=ZkO w1;exact⟨x,by omega,e1⟩
theorem Z7b {p:PV} (h:X30 Tryz.prog 22 p):∃ (l:List Nat) (fl:Bool),X2S l/\p=.vec (bys l) fl:=by
 obtain⟨n,ll,fl,_,h2,rfl⟩:=ZaM h (e:=5) (by kernel_rfl);obtain⟨xs,h3,rfl⟩:=Zdz (enc:=fun (x:Nat) => [PV.val (.int .u8 (x:Int))]) (Q:=fun (x:Nat)=>x<=255) fun l hl=>Zj1 (h2 l hl);exact⟨xs,fl,h3,rfl⟩
theorem Z7m:∀ ps,X2M Tryz.prog Tryz.f3.params.toList ps->Xe ps->X7 Tryz.prog 3 ps (· = .val (.bool true)):=by
 intro ps hs hp;rw [show Tryz.f3.params.toList = [22,22] by kernel_rfl] at hs;obtain⟨a,b,rfl,k0,k1⟩:=ZcD hs;obtain⟨x0,f0,h0,rfl⟩:=Z7b k0;obtain⟨x1,f1,h1,rfl⟩:=Z7b k1;exact Z9q x0 x1 f0 f1 h0 h1
theorem topNormal_card:Rows.TopNormalCardSaid:=Zcard Z7m
#print axioms topNormal_card
end
end Go.Proofs.YtgpjedjgmpienaaGreatDoor
