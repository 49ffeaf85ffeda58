/-
 Proved: for every input the law JudgeSound returns true,never panics,and leaves its arguments as0 they were,on the given card's conditions (the table of the bits package reads as0 the program's text lays it,and is tied to it).
-/
import Derived.SevenTiedAt
import Derived.Test.YtmnbbggaoembeaaGreatDoorCards
import Derived.Test.YtmnbbggaoembeaaGreatDoorTie
import Derived.Test.YtmnbbggaoembeaaGreatDoorMq6
set_option linter.unusedSimpArgs false
set_option linter.unusedVariables false
set_option linter.unusedSectionVars false
set_option maxRecDepth 100000
set_option maxHeartbeats 16000000
namespace Go.Proofs.YtmnbbggaoembeaaGreatDoor
section
open Go.RowKit
attribute [local irreducible] aw opsK dK
def FndR (r:PV):Prop:=∃ a b c:Int,r=.agg [.val (.int .i64 a),.val (.int .i64 b),.val (.int .i64 c)]
theorem ZiE {t:PB} (h:PbOk t):∀ s∈tgN t (2 ^ t.n),s<18446744073709551616:=fun s hs=>by
 unfold tgN at hs;exact (ZiD.1 (List.mem_filter.1 hs).1).lt h.n.2
theorem Z6T {t:PB} (h:PbOk t) (hn:t.n≤5) (l:List Cu) (fl:Bool) (hl:∀ c∈l,Ok64 c):Spec Tryz.prog 115 [.agg (pbR t),.vec (l.map raC) fl] fun r=>∃ out:List Nat,r=.vec (nsL out) false:=by
 have hpp:=Z11 t;have h32:2 ^ t.n≤32:=Nat.pow_le_pow_right (n:=2) (by decide) hn;have htl:=Zfj t (2 ^ t.n);have ht64:=ZiE h;have hro:∀ D,innLL D (l.map raC):=fun D=>Z19 l D;refine Yp ok115 fun C hC=>?_;refine Zs ?_;refine Zc ?_;refine Z4 rfl rfl rfl ?_;(repeat'(first|refine Zj 9 ?_|refine Zb 9 ?_|refine st ?_|(apply B<;>intro hb<;>try cases hb)))<;>try refine At.mk ?_
 refine Z3R (Z6S h hn) Z5Z (Zr _) rfl rfl ⟨hpp,Yt⟩ ?_;generalize tgN t (2 ^ t.n)=T at htl ht64;have hTp:∀ D,innLL D (nsL T):=fun D=>Z9 (fun _ h=>h.elim) _ (Zr T);refine Zi (Zq (k:=9) rfl rfl (Zr _)) ?_
 repeat' (first|refine Zi (Zv (k:=5) rfl 1 (by decide)) ?_|(first|refine st ?_|(apply B<;>intro hb<;>try cases hb)))
 refine ZJ hC (fun (z:Nat×List Nat)=>z.1≤T.length∧z.2.length≤z.1) (fun z=>T.length-z.1) 1 (fun z => [(1,.vec (l.map raC) fl),(5,.own 0),(9,.vec (nsL T) false),(10,.val (.int .i64 (T.length:Int))),(11,Yv z.1)]) (fun z => [(0,⟨1,nsL z.2⟩)]) (Y0l _) (0,[]) ⟨Y0l _,Y0l _⟩ (mv 0 1) (fun i hi=>absurd hi (Nat.not_lt_zero i)) (Zw rfl)
  ⟨⟨_,rfl,.pure _ (hro _)⟩,⟨_,rfl,.own (ρ:=mv 0 1) 0 (by decide)⟩,⟨_,rfl,.pure _ (hTp _)⟩,⟨_,by show some _=some _; rw [Z1C],.pure _ Yt⟩,⟨_,rfl,.pure _ Yt⟩,Yt⟩ ⟨⟨by decide,_,rfl,.same _ Yt⟩,Yt⟩ ?_
 rintro⟨i,out⟩ ⟨hi,ho⟩;dsimp only at hi ho ⊢;have hinc:IntKind.i64.wrap ((i:Int)+1)=((i+1:Nat):Int):=Y0v _ ⟨by omega,by omega⟩;(repeat'(first|refine Zj 12 ?_|refine Zb 12 ?_|refine st ?_|(apply B<;>intro hb<;>try cases hb)))<;>try refine At.mk ?_
 by_cases hil:i<T.length
 · refine Z0 (Z1 (v := true) rfl (decide_eq_true (Int.ofNat_lt.2 hil))) rfl rfl ?_;(repeat'(first|refine Zj 13 ?_|refine Zb 13 ?_|refine st ?_|(apply B<;>intro hb<;>try cases hb)))<;>try refine At.mk ?_
   refine Z0 (Zo (xs:=T) (g:=u64C) rfl rfl i rfl hil rfl) rfl rfl ?_;have hs:=ht64 _ (Y0j hil);generalize T[i]=s at hs ⊢;(repeat'(first|refine Zj 17 ?_|refine Zb 17 ?_|refine st ?_|(apply B<;>intro hb<;>try cases hb)))<;>try refine At.mk ?_
   refine Z6 (Z2w l fl s hl hs) rfl rfl rfl ⟨Z13 l,Yt,Yt⟩ rfl ?_;cases soC l s
   case true =>
    (refine go ?_;repeat' (apply B<;>intro hb<;>try cases hb))
    exact⟨(i+1,out),fun i=>i,⟨hil,by dsimp only; omega⟩,by show T.length-(i+1)<T.length-i; omega,fun _ _=>rfl,Zu,
     ⟨⟨_,rfl,.pure _ (hro _)⟩,⟨_,rfl,.own (ρ:=fun i=>i) 0 (by decide)⟩,⟨_,rfl,.pure _ (hTp _)⟩,⟨_,rfl,.pure _ Yt⟩,⟨_,by show some _=some _; rw [hinc],.pure _ Yt⟩,Yt⟩,⟨⟨by decide,_,rfl,.same _ (Zr _)⟩,Yt⟩⟩
   (repeat'(first|refine Zj 22 ?_|refine Zb 22 ?_|refine st ?_|(apply B<;>intro hb<;>try cases hb)))<;>try refine At.mk ?_
   refine ZD (ZB (k:=0) (m := [u64C s]) (fl:=true) rfl rfl rfl (fun q hq=>by rw [Y0g] at hq; subst hq; rfl) rfl (by
    show ((nsL out).length+1)*8≤_
    rw [Z1C];omega)) rfl rfl ?_
   simp only;rw [Z5Q];(refine go ?_;repeat' (apply B<;>intro hb<;>try cases hb))
   exact⟨(i+1,out ++ [s]),mv 0 1,⟨hil,by dsimp only; rw [Y0e,Y0s]; omega⟩,by show T.length-(i+1)<T.length-i; omega,fun i hi=>absurd hi (Nat.not_lt_zero i),Zw rfl,
    ⟨⟨_,rfl,.pure _ (hro _)⟩,⟨_,rfl,.own (ρ:=mv 0 1) 0 (by decide)⟩,⟨_,rfl,.pure _ (hTp _)⟩,⟨_,rfl,.pure _ Yt⟩,⟨_,by show some _=some _; rw [hinc],.pure _ Yt⟩,Yt⟩,⟨⟨by decide,_,rfl,.same _ (Zr _)⟩,Yt⟩⟩
 · refine Z0 (Z1 (v := false) rfl (Y0w (by omega))) rfl rfl ?_
   repeat' (first|refine Zi (Zq (k:=5) rfl rfl (Zr _)) ?_|(first|refine st ?_|(apply B<;>intro hb<;>try cases hb)))
   exact Z5 rfl (Zr out) ⟨out,rfl⟩
theorem Z6U {t:PB} (h:PbOk t) (hn:t.n≤5) (l:List Cu) (fl:Bool) (hl:∀ c∈l,Ok64 c) (c:Cu) (hc:Ok64 c) (k:Nat) (hk:k<t.rs.length):Spec Tryz.prog 116 [.agg (pbR t),.vec (l.map raC) fl,.agg (raC c),.val (.int .i64 (k:Int))] fun r=>∃ out:List Nat,r=.vec (nsL out) false:=by
 have hpp:=Z11 t;have h32:2 ^ t.n≤32:=Nat.pow_le_pow_right (n:=2) (by decide) hn;have hro:∀ D,innLL D (l.map raC):=fun D=>Z19 l D;have hpc:∀ D,innL D (pbR t):=fun D=>Zm (fun _ h=>h.elim) _ hpp;have hcc:∀ D,innL D (raC c):=fun D=>Zm (fun _ h=>h.elim) _ (Z1j c);refine Yp ok116 fun C hC=>?_;refine Zs ?_;refine Zc ?_;refine Z4 rfl rfl rfl ?_;refine Z4 rfl rfl rfl ?_;(repeat'(first|refine Zj 15 ?_|refine Zb 15 ?_|refine st ?_|(apply B<;>intro hb<;>try cases hb)))<;>try refine At.mk ?_
 refine Z6 (Z6r hn) rfl rfl rfl ⟨hpp,Yt⟩ rfl ?_;rw [Zfi]
 repeat' (first|refine Zi (Zv (k:=9) rfl 1 (by decide)) ?_|(first|refine st ?_|(apply B<;>intro hb<;>try cases hb)))
 refine ZJ hC (fun (z:Nat×List Nat)=>z.1≤2 ^ t.n∧z.2.length≤z.1) (fun z=>2 ^ t.n-z.1) 1 (fun z => [(1,.vec (l.map raC) fl),(3,.val (.int .i64 (k:Int))),(4,.cp (pbR t)),(6,.cp (raC c)),(9,.own 0),(15,.vec (nsL (evS (2 ^ t.n))) false),(16,.val (.int .i64 ((2 ^ t.n:Nat):Int))),(17,Yv z.1)]) (fun z => [(0,⟨1,nsL z.2⟩)]) (Y0l _) (0,[]) ⟨Y0l _,Y0l _⟩ (fun i=>i) (fun _ _=>rfl) Zu
  ⟨⟨_,rfl,.pure _ (hro _)⟩,⟨_,rfl,.pure _ Yt⟩,⟨_,rfl,.pure _ (hpc _)⟩,⟨_,rfl,.pure _ (hcc _)⟩,⟨_,rfl,.own (ρ:=fun i=>i) 0 (by decide)⟩,⟨_,rfl,.pure _ (Zr _)⟩,⟨_,by show some _=some _; rw [Z1C,Z5l],.pure _ Yt⟩,⟨_,rfl,.pure _ Yt⟩,Yt⟩ ⟨⟨by decide,_,rfl,.same _ Yt⟩,Yt⟩ ?_
 rintro⟨i,out⟩ ⟨hi,ho⟩;dsimp only at hi ho ⊢;have hinc:IntKind.i64.wrap ((i:Int)+1)=((i+1:Nat):Int):=Y0v _ ⟨by omega,by omega⟩;(repeat'(first|refine Zj 18 ?_|refine Zb 18 ?_|refine st ?_|(apply B<;>intro hb<;>try cases hb)))<;>try refine At.mk ?_
 by_cases hil:i<2 ^ t.n
 case neg =>
  refine Z0 (Z1 (v:=false) rfl (Y0w (by omega))) rfl rfl ?_
  repeat' (first|refine Zi (Zq (k:=9) rfl rfl (Zr _)) ?_|(first|refine st ?_|(apply B<;>intro hb<;>try cases hb)))
  exact Z5 rfl (Zr out) ⟨out,rfl⟩
 refine Z0 (Z1 (v:=true) rfl (decide_eq_true (Int.ofNat_lt.2 hil))) rfl rfl ?_;have hs:=(Z8j hil).lt h.n.2;have hst:=Z4i h (2*i) hs k hk;have hnx:nextR t.rs[k] (2*i)<18446744073709551616:=(Z5P h (Y0j hk) (Z8j hil)).lt h.n.2;obtain⟨nx,ok,hx64,hsn⟩:∃ (nx:Nat) (ok:Bool),nx<18446744073709551616∧stepN t t.rs[k] (2*i) (stepR t t.rs[k] (2*i))=.tup [.val (.int .u64 (nx:Int)),.val (.bool ok)] :=
  ⟨if stepR t t.rs[k] (2*i) then nextR t.rs[k] (2*i) else 0,_,by split<;>omega,rfl⟩
 rw [hsn] at hst;clear hsn;cases ok
 case false =>
  (repeat'(first|refine Zj 19 ?_|refine Zb 19 ?_|refine st ?_|(apply B<;>intro hb<;>try cases hb)))<;>try refine At.mk ?_
  refine Z0 (Zo (xs:=evS (2 ^ t.n)) (g:=u64C) rfl rfl i rfl (by rw [Z5l]; exact hil) rfl) rfl rfl ?_;rw [Zb0];(repeat'(first|refine Zj 25 ?_|refine Zb 25 ?_|refine st ?_|(apply B<;>intro hb<;>try cases hb)))<;>try refine At.mk ?_
  refine Z6 hst rfl rfl rfl ⟨hpp,Yt,Yt,Yt⟩ rfl ?_;(repeat'(first|refine Zj 30 ?_|refine Zb 30 ?_|refine st ?_|(apply B<;>intro hb<;>try cases hb)))<;>try refine At.mk ?_
  refine Z6 (Z3a h (2*i) hs) rfl rfl rfl ⟨hpp,Yt,Yt⟩ rfl ?_;cases goodB t (2*i)
  case false =>
   (refine go ?_;repeat' (apply B<;>intro hb<;>try cases hb))
   exact⟨(i+1,out),fun i=>i,⟨hil,by dsimp only; omega⟩,by show 2 ^ t.n-(i+1)<2 ^ t.n-i; omega,fun _ _=>rfl,Zu,
   ⟨⟨_,rfl,.pure _ (hro _)⟩,⟨_,rfl,.pure _ Yt⟩,⟨_,rfl,.pure _ (hpc _)⟩,⟨_,rfl,.pure _ (hcc _)⟩,⟨_,rfl,.own (ρ:=fun i=>i) 0 (by decide)⟩,⟨_,rfl,.pure _ (Zr _)⟩,⟨_,rfl,.pure _ Yt⟩,⟨_,by show some _=some _; rw [hinc],.pure _ Yt⟩,Yt⟩,⟨⟨by decide,_,rfl,.same _ (Zr _)⟩,Yt⟩⟩
  (repeat'(first|refine Zj 34 ?_|refine Zb 34 ?_|refine st ?_|(apply B<;>intro hb<;>try cases hb)))<;>try refine At.mk ?_
  refine Zl rfl ?_;refine Z6 (Z2w l fl (2*i) hl hs) rfl rfl rfl ⟨Z13 l,Yt,Yt⟩ rfl ?_;cases soC l (2*i)
  all_goals
   (refine go ?_;repeat' (apply B<;>intro hb<;>try cases hb))
   exact⟨(i+1,out),fun i=>i,⟨hil,by dsimp only; omega⟩,by show 2 ^ t.n-(i+1)<2 ^ t.n-i; omega,fun _ _=>rfl,Zu,
   ⟨⟨_,rfl,.pure _ (hro _)⟩,⟨_,rfl,.pure _ Yt⟩,⟨_,rfl,.pure _ (hpc _)⟩,⟨_,rfl,.pure _ (hcc _)⟩,⟨_,rfl,.own (ρ:=fun i=>i) 0 (by decide)⟩,⟨_,rfl,.pure _ (Zr _)⟩,⟨_,rfl,.pure _ Yt⟩,⟨_,by show some _=some _; rw [hinc],.pure _ Yt⟩,Yt⟩,⟨⟨by decide,_,rfl,.same _ (Zr _)⟩,Yt⟩⟩
 (repeat'(first|refine Zj 19 ?_|refine Zb 19 ?_|refine st ?_|(apply B<;>intro hb<;>try cases hb)))<;>try refine At.mk ?_
 refine Z0 (Zo (xs:=evS (2 ^ t.n)) (g:=u64C) rfl rfl i rfl (by rw [Z5l]; exact hil) rfl) rfl rfl ?_;rw [Zb0];(repeat'(first|refine Zj 25 ?_|refine Zb 25 ?_|refine st ?_|(apply B<;>intro hb<;>try cases hb)))<;>try refine At.mk ?_
 refine Z6 hst rfl rfl rfl ⟨hpp,Yt,Yt,Yt⟩ rfl ?_;(repeat'(first|refine Zj 30 ?_|refine Zb 30 ?_|refine st ?_|(apply B<;>intro hb<;>try cases hb)))<;>try refine At.mk ?_
 refine Z6 (Z3a h (2*i) hs) rfl rfl rfl ⟨hpp,Yt,Yt⟩ rfl ?_;cases goodB t (2*i)
 case false =>
  (refine go ?_;repeat' (apply B<;>intro hb<;>try cases hb))
  exact⟨(i+1,out),fun i=>i,⟨hil,by dsimp only; omega⟩,by show 2 ^ t.n-(i+1)<2 ^ t.n-i; omega,fun _ _=>rfl,Zu,
   ⟨⟨_,rfl,.pure _ (hro _)⟩,⟨_,rfl,.pure _ Yt⟩,⟨_,rfl,.pure _ (hpc _)⟩,⟨_,rfl,.pure _ (hcc _)⟩,⟨_,rfl,.own (ρ:=fun i=>i) 0 (by decide)⟩,⟨_,rfl,.pure _ (Zr _)⟩,⟨_,rfl,.pure _ Yt⟩,⟨_,by show some _=some _; rw [hinc],.pure _ Yt⟩,Yt⟩,⟨⟨by decide,_,rfl,.same _ (Zr _)⟩,Yt⟩⟩
 (repeat'(first|refine Zj 34 ?_|refine Zb 34 ?_|refine st ?_|(apply B<;>intro hb<;>try cases hb)))<;>try refine At.mk ?_
 refine Zl rfl ?_;refine Z6 (Z2w l fl (2*i) hl hs) rfl rfl rfl ⟨Z13 l,Yt,Yt⟩ rfl ?_;cases soC l (2*i)
 case true =>
  (refine go ?_;repeat' (apply B<;>intro hb<;>try cases hb))
  exact⟨(i+1,out),fun i=>i,⟨hil,by dsimp only; omega⟩,by show 2 ^ t.n-(i+1)<2 ^ t.n-i; omega,fun _ _=>rfl,Zu,
   ⟨⟨_,rfl,.pure _ (hro _)⟩,⟨_,rfl,.pure _ Yt⟩,⟨_,rfl,.pure _ (hpc _)⟩,⟨_,rfl,.pure _ (hcc _)⟩,⟨_,rfl,.own (ρ:=fun i=>i) 0 (by decide)⟩,⟨_,rfl,.pure _ (Zr _)⟩,⟨_,rfl,.pure _ Yt⟩,⟨_,by show some _=some _; rw [hinc],.pure _ Yt⟩,Yt⟩,⟨⟨by decide,_,rfl,.same _ (Zr _)⟩,Yt⟩⟩
 (repeat'(first|refine Zj 43 ?_|refine Zb 43 ?_|refine st ?_|(apply B<;>intro hb<;>try cases hb)))<;>try refine At.mk ?_
 refine Zl rfl ?_;refine Z6 (Z28 c nx hc hx64) rfl rfl rfl ⟨Z1j c,Yt,Yt⟩ rfl ?_;cases hoC c nx
 case false =>
  (refine go ?_;repeat' (apply B<;>intro hb<;>try cases hb))
  exact⟨(i+1,out),fun i=>i,⟨hil,by dsimp only; omega⟩,by show 2 ^ t.n-(i+1)<2 ^ t.n-i; omega,fun _ _=>rfl,Zu,
   ⟨⟨_,rfl,.pure _ (hro _)⟩,⟨_,rfl,.pure _ Yt⟩,⟨_,rfl,.pure _ (hpc _)⟩,⟨_,rfl,.pure _ (hcc _)⟩,⟨_,rfl,.own (ρ:=fun i=>i) 0 (by decide)⟩,⟨_,rfl,.pure _ (Zr _)⟩,⟨_,rfl,.pure _ Yt⟩,⟨_,by show some _=some _; rw [hinc],.pure _ Yt⟩,Yt⟩,⟨⟨by decide,_,rfl,.same _ (Zr _)⟩,Yt⟩⟩
 (repeat'(first|refine Zj 48 ?_|refine Zb 48 ?_|refine st ?_|(apply B<;>intro hb<;>try cases hb)))<;>try refine At.mk ?_
 refine ZD (ZB (k:=0) (m := [u64C (2*i)]) (fl:=true) rfl rfl rfl (fun q hq=>by rw [Y0g] at hq; subst hq; rfl) rfl (by
  show ((nsL out).length+1)*8≤_
  rw [Z1C];omega)) rfl rfl ?_
 simp only;rw [Z5Q];(refine go ?_;repeat' (apply B<;>intro hb<;>try cases hb))
 exact⟨(i+1,out ++ [2*i]),mv 0 1,⟨hil,by dsimp only; rw [Y0e,Y0s]; omega⟩,by show 2 ^ t.n-(i+1)<2 ^ t.n-i; omega,fun i hi=>absurd hi (Nat.not_lt_zero i),Zw rfl,
  ⟨⟨_,rfl,.pure _ (hro _)⟩,⟨_,rfl,.pure _ Yt⟩,⟨_,rfl,.pure _ (hpc _)⟩,⟨_,rfl,.pure _ (hcc _)⟩,⟨_,rfl,.own (ρ:=mv 0 1) 0 (by decide)⟩,⟨_,rfl,.pure _ (Zr _)⟩,⟨_,rfl,.pure _ Yt⟩,⟨_,by show some _=some _; rw [hinc],.pure _ Yt⟩,Yt⟩,⟨⟨by decide,_,rfl,.same _ (Zr _)⟩,Yt⟩⟩
theorem Z9v {t:PB} (h:PbOk t) (hn:t.n≤5) (l:List Cu) (fl:Bool) (hl:∀ c∈l,Ok64 c) (hll:l.length≤1000):Spec Tryz.prog 58 [.agg (pbR t),.vec (l.map raC) fl] fun r=>∃ b:Bool,r=.val (.bool b):=by
 have hpp:=Z11 t;have hnl:(l.map raC).length=l.length:=by simp
 have hpc:∀ D,innL D (pbR t):=fun D=>Zm (fun _ h=>h.elim) _ hpp;have hiw:IntKind.i64.wrap ((t.n:Int)+1)=((t.n+1:Nat):Int):=Y0v _ ⟨by omega,by omega⟩;refine Yp ok58 fun C hC=>?_;refine Zs ?_;refine Zc ?_;refine Z4 rfl rfl rfl ?_;(refine go ?_;repeat' (apply B<;>intro hb<;>try cases hb));refine Zn hC (fun i=>i≤l.length) (fun i=>l.length-i) 0 (fun i => [(2,.cp (pbR t)),(7,.vec (l.map raC) fl),(8,.val (.int .i64 (l.length:Int))),(9,Yv i)]) (fun _=>[]) (Y0l _) 0 (Y0l _)
  ⟨⟨rfl,hpc _⟩,⟨rfl,Z19 l _⟩,⟨by rw [← hnl]; rfl,Yt⟩,⟨rfl,Yt⟩,Yt⟩ Yt ?_
 intro i hi;have hinc:IntKind.i64.wrap ((i:Int)+1)=((i+1:Nat):Int):=Y0v _ ⟨by omega,by omega⟩;(repeat'(first|refine Zj 10 ?_|refine Zb 10 ?_|refine st ?_|(apply B<;>intro hb<;>try cases hb)))<;>try refine At.mk ?_
 by_cases hil:i<l.length
 case neg =>
  refine Z0 (Z1 (v:=false) rfl (Y0w (by omega))) rfl rfl ?_;(refine go ?_;repeat' (apply B<;>intro hb<;>try cases hb));exact Z5 rfl Yt ⟨_,rfl⟩
 refine Z0 (Z1 (v:=true) rfl (decide_eq_true (Int.ofNat_lt.2 hil))) rfl rfl ?_;have hc:=hl _ (Y0j hil);(repeat'(first|refine Zj 11 ?_|refine Zb 11 ?_|refine st ?_|(apply B<;>intro hb<;>try cases hb)))<;>try refine At.mk ?_
 refine Z0 (Zo (xs:=l) rfl rfl i rfl hil rfl) rfl rfl ?_;generalize l[i]=c at hc ⊢;have ho:=bits_or_u64_nat c.1 c.2 hc.1 hc.2;have ho64:=Z43 hc.1 hc.2;(repeat'(first|refine Zj 17 ?_|refine Zb 17 ?_|refine st ?_|(apply B<;>intro hb<;>try cases hb)))<;>try refine At.mk ?_
 refine Z8 rfl rfl rfl ho ?_;generalize c.1 ||| c.2=u at ho ho64
 refine Z0 rfl rfl rfl ?_;refine Zt rfl rfl rfl (fun hb=>?_) (fun hb=>?_)
 · (refine go ?_;repeat' (apply B<;>intro hb<;>try cases hb));exact Z5 rfl Yt ⟨_,rfl⟩
 clear hb;(repeat'(first|refine Zj 25 ?_|refine Zb 25 ?_|refine st ?_|(apply B<;>intro hb<;>try cases hb)))<;>try refine At.mk ?_
 refine Zl rfl ?_;refine Z8 rfl rfl rfl ho ?_;(repeat'(first|refine Zj 28 ?_|refine Zb 28 ?_|refine st ?_|(apply B<;>intro hb<;>try cases hb)))<;>try refine At.mk ?_
 refine Zl rfl ?_;refine Z8 rfl rfl rfl hiw ?_;refine Zl rfl ?_;refine Z2C rfl rfl (by omega) (Z32 u (t.n+1) (by omega)) rfl ?_;refine Zl rfl ?_;by_cases hz:u / 2 ^ (t.n+1)=0
 · refine Z0 (Z1 (v := false) rfl (by rw [hz]; rfl)) rfl rfl ?_;(refine go ?_;repeat' (apply B<;>intro hb<;>try cases hb));exact⟨i+1,hil,by omega,⟨⟨rfl,hpc _⟩,⟨rfl,Z19 l _⟩,⟨rfl,Yt⟩,⟨by show some _=some _; rw [hinc],Yt⟩,Yt⟩,Yt⟩
 refine Z0 (Z1 (v:=true) rfl (by rw [bne_iff_ne]; exact fun e=>hz (Int.ofNat.inj e))) rfl rfl ?_;(refine go ?_;repeat' (apply B<;>intro hb<;>try cases hb));exact Z5 rfl Yt ⟨_,rfl⟩
theorem Zfk {a b:Nat} (ha:a<256) (hb:b<256):InM 126 (makC a b):=by
 have h1:∀ x:Nat,x<64→2*x ||| 126=126:=by decide +kernel
 refine⟨h1 _ (Y02 Nat.and_le_right (by decide)),h1 _ (Y02 (Y03 Nat.and_le_left Nat.and_le_right) (by decide))⟩
def z3C:List PV := [.val (.int .i64 0),.val (.int .i64 0),.val (.int .i64 0)]
theorem Z48 (D:Nat→Prop):innL D z3C:=⟨Yt,Yt,Yt,Yt⟩
theorem Z8x {t:PB} (h:PbOk t) (p:List Nat) (fl:Bool) (hp:∀ k∈p,k<t.rs.length) (hl:p.length≤1000):Spec Tryz.prog 59 [.agg (pbR t),.vec (inL p) fl] FndR:=by
 have hpp:=Z11 t;have hlen:=Z3z p;have hpc:∀ D,innL D (pbR t):=fun D=>Zm (fun _ h=>h.elim) _ hpp;have hpi:∀ D,innLL D (inL p):=fun D=>Z9 (fun _ h=>h.elim) _ (Zz p);refine Yp ok59 fun C hC=>?_;refine Zs ?_;refine Zc ?_;refine Z4 rfl rfl rfl ?_;(refine go ?_;repeat' (apply B<;>intro hb<;>try cases hb));refine Zn hC (fun (z:Nat×Nat)=>z.1≤p.length∧InS t z.2) (fun z=>p.length-z.1) 1 (fun z => [(2,.cp (pbR t)),(4,.ptr 0 0 0),(5,.val (.int .u64 (z.2:Int))),(12,.vec (inL p) fl),(13,.val (.int .i64 (p.length:Int))),(14,Yv z.1)]) (fun _ => [(0,⟨3,[z3C]⟩)]) (by decide) (0,t.st) ⟨Y0l _,h.st⟩
  ⟨⟨rfl,hpc _⟩,⟨rfl,show 0<1 by decide⟩,⟨rfl,Yt⟩,⟨rfl,hpi _⟩,⟨by rw [← hlen]; rfl,Yt⟩,⟨rfl,Yt⟩,Yt⟩ ⟨⟨by decide,rfl,Z48 _,Yt⟩,Yt⟩ ?_
 rintro⟨i,s⟩ ⟨hi,hs⟩;dsimp only at hi hs;have hinc:IntKind.i64.wrap ((i:Int)+1)=((i+1:Nat):Int):=Y0v _ ⟨by omega,by omega⟩;(repeat'(first|refine Zj 15 ?_|refine Zb 15 ?_|refine st ?_|(apply B<;>intro hb<;>try cases hb)))<;>try refine At.mk ?_
 by_cases hil:i<p.length
 · refine Z0 (Z1 (v := true) rfl (decide_eq_true (Int.ofNat_lt.2 hil))) rfl rfl ?_;have hk:=hp _ (Y0j hil);(repeat'(first|refine Zj 17 ?_|refine Zb 17 ?_|refine st ?_|(apply B<;>intro hb<;>try cases hb)))<;>try refine At.mk ?_
   refine Z0 (Zo (xs:=p) (g:=inC1) rfl rfl i rfl hil rfl) rfl rfl ?_;generalize p[i]=k at hk ⊢;have hst:=Z4i h s (hs.lt h.n.2) k hk;cases hb:stepR t t.rs[k] s
   case false =>
    rw [hb] at hst;(repeat'(first|refine Zj 23 ?_|refine Zb 23 ?_|refine st ?_|(apply B<;>intro hb<;>try cases hb)))<;>try refine At.mk ?_
    refine Z6 hst rfl rfl rfl ⟨hpp,Yt,Yt,Yt⟩ rfl ?_;(refine go ?_;repeat' (apply B<;>intro hb<;>try cases hb));exact Z5 rfl ⟨Yt,Yt,Yt,Yt⟩ ⟨_,_,_,rfl⟩
   rw [hb] at hst;(repeat'(first|refine Zj 23 ?_|refine Zb 23 ?_|refine st ?_|(apply B<;>intro hb<;>try cases hb)))<;>try refine At.mk ?_
   refine Z6 hst rfl rfl rfl ⟨hpp,Yt,Yt,Yt⟩ rfl ?_;(refine go ?_;repeat' (apply B<;>intro hb<;>try cases hb));exact⟨(i+1,nextR t.rs[k] s),⟨hil,Z5P h (Y0j hk) hs⟩,by show p.length-(i+1)<p.length-i; omega,⟨⟨rfl,hpc _⟩,⟨rfl,show 0<1 by decide⟩,⟨rfl,Yt⟩,⟨rfl,hpi _⟩,⟨rfl,Yt⟩,⟨by show some _=some _; rw [hinc],Yt⟩,Yt⟩,⟨⟨by decide,rfl,Z48 _,Yt⟩,Yt⟩⟩
 · refine Z0 (Z1 (v := false) rfl (Y0w (by omega))) rfl rfl ?_;(repeat'(first|refine Zj 35 ?_|refine Zb 35 ?_|refine st ?_|(apply B<;>intro hb<;>try cases hb)))<;>try refine At.mk ?_
   refine Z6 (Z3x h s (hs.lt h.n.2)) rfl rfl rfl ⟨hpp,Yt,Yt⟩ rfl ?_;cases reachB t s
   all_goals
    (refine go ?_;repeat' (apply B<;>intro hb<;>try cases hb));exact Z5 rfl ⟨Yt,Yt,Yt,Yt⟩ ⟨_,_,_,rfl⟩
theorem Z6V {t:PB} (h:PbOk t) (hn:t.n≤5) (l:List Cu) (fl:Bool) (hl:∀ c∈l,Ok64 c) (hll:l.length≤1000):Spec Tryz.prog 60 [.agg (pbR t),.vec (l.map raC) fl] FndR:=by
 have hpp:=Z11 t;have hnl:(l.map raC).length=l.length:=by simp
 have hrb:=h.rl;have hrl:=Z3X t.rs;have hpc:∀ D,innL D (pbR t):=fun D=>Zm (fun _ h=>h.elim) _ hpp;have hst:=InS.lt h.n.2 h.st;refine Yp ok60 fun C hC=>?_;refine Zs ?_;refine Zc ?_;refine Z4 rfl rfl rfl ?_;(refine go ?_;repeat' (apply B<;>intro hb<;>try cases hb));refine Zn hC (fun i=>i≤l.length) (fun i=>l.length-i) 1 (fun i => [(1,.vec (l.map raC) fl),(2,.cp (pbR t)),(4,.ptr 0 0 0),(10,.vec (l.map raC) fl),(11,.val (.int .i64 (l.length:Int))),(12,Yv i)]) (fun _ => [(0,⟨3,[z3C]⟩)]) (by decide) 0 (Y0l _)
  ⟨⟨rfl,Z19 l _⟩,⟨rfl,hpc _⟩,⟨rfl,show 0<1 by decide⟩,⟨rfl,Z19 l _⟩,⟨by rw [← hnl]; rfl,Yt⟩,⟨rfl,Yt⟩,Yt⟩ ⟨⟨by decide,rfl,Z48 _,Yt⟩,Yt⟩ ?_
 intro i hi;have hinc:IntKind.i64.wrap ((i:Int)+1)=((i+1:Nat):Int):=Y0v _ ⟨by omega,by omega⟩;(repeat'(first|refine Zj 13 ?_|refine Zb 13 ?_|refine st ?_|(apply B<;>intro hb<;>try cases hb)))<;>try refine At.mk ?_
 by_cases hil:i<l.length
 · refine Z0 (Z1 (v := true) rfl (decide_eq_true (Int.ofNat_lt.2 hil))) rfl rfl ?_;have hc:=hl _ (Y0j hil);(repeat'(first|refine Zj 15 ?_|refine Zb 15 ?_|refine st ?_|(apply B<;>intro hb<;>try cases hb)))<;>try refine At.mk ?_
   refine Z0 (Zo (xs:=l) rfl rfl i rfl hil rfl) rfl rfl ?_;generalize l[i]=c at hc ⊢;(repeat'(first|refine Zj 20 ?_|refine Zb 20 ?_|refine st ?_|(apply B<;>intro hb<;>try cases hb)))<;>try refine At.mk ?_
   refine Z6 (Z28 c t.st hc hst) rfl rfl rfl ⟨Z1j _,Yt,Yt⟩ rfl ?_;cases hoC c t.st
   · (refine go ?_;repeat' (apply B<;>intro hb<;>try cases hb));exact⟨i+1,hil,by omega,⟨⟨rfl,Z19 l _⟩,⟨rfl,hpc _⟩,⟨rfl,show 0<1 by decide⟩,⟨rfl,Z19 l _⟩,⟨rfl,Yt⟩,⟨by show some _=some _; rw [hinc],Yt⟩,Yt⟩,⟨⟨by decide,rfl,Z48 _,Yt⟩,Yt⟩⟩
   · (refine go ?_;repeat' (apply B<;>intro hb<;>try cases hb));exact Z5 rfl ⟨Yt,Yt,Yt,Yt⟩ ⟨_,_,_,rfl⟩
 clear hinc;refine Z0 (Z1 (v:=false) rfl (Y0w (by omega))) rfl rfl ?_;(repeat'(first|refine Zj 26 ?_|refine Zb 26 ?_|refine st ?_|(apply B<;>intro hb<;>try cases hb)))<;>try refine At.mk ?_
 refine ZH rfl rfl (Z6T h hn l fl hl) ⟨hpp,Z13 l,Yt⟩ rfl ?_;rintro r ⟨out,rfl⟩;(repeat'(first|refine Zj 28 ?_|refine Zb 28 ?_|refine st ?_|(apply B<;>intro hb<;>try cases hb)))<;>try refine At.mk ?_
 by_cases ho:(0:Int)<((nsL out).length:Int)
 · refine Z0 (Z1 (v := true) rfl (decide_eq_true ho)) rfl rfl ?_;(refine go ?_;repeat' (apply B<;>intro hb<;>try cases hb));exact Z5 rfl ⟨Yt,Yt,Yt,Yt⟩ ⟨_,_,_,rfl⟩
 refine Z0 (Z1 (v:=false) rfl (Y0w ho)) rfl rfl ?_;clear ho;(refine go ?_;repeat' (apply B<;>intro hb<;>try cases hb));clear hi hil;refine Zn hC (fun i=>i≤l.length) (fun i=>l.length-i) 1 (fun i => [(1,.vec (l.map raC) fl),(2,.cp (pbR t)),(4,.ptr 0 0 0),(30,.vec (l.map raC) fl),(31,.val (.int .i64 (l.length:Int))),(32,Yv i)]) (fun _ => [(0,⟨3,[z3C]⟩)]) (by decide) 0 (Y0l _)
  ⟨⟨rfl,Z19 l _⟩,⟨rfl,hpc _⟩,⟨rfl,show 0<1 by decide⟩,⟨rfl,Z19 l _⟩,⟨by rw [← hnl]; rfl,Yt⟩,⟨rfl,Yt⟩,Yt⟩ ⟨⟨by decide,rfl,Z48 _,Yt⟩,Yt⟩ ?_
 intro i hi;have hinc:IntKind.i64.wrap ((i:Int)+1)=((i+1:Nat):Int):=Y0v _ ⟨by omega,by omega⟩;(repeat'(first|refine Zj 33 ?_|refine Zb 33 ?_|refine st ?_|(apply B<;>intro hb<;>try cases hb)))<;>try refine At.mk ?_
 by_cases hil:i<l.length
 case neg =>
  refine Z0 (Z1 (v:=false) rfl (Y0w (by omega))) rfl rfl ?_;(refine go ?_;repeat' (apply B<;>intro hb<;>try cases hb));exact Z5 rfl ⟨Yt,Yt,Yt,Yt⟩ ⟨_,_,_,rfl⟩
 refine Z0 (Z1 (v:=true) rfl (decide_eq_true (Int.ofNat_lt.2 hil))) rfl rfl ?_;have hc:=hl _ (Y0j hil);(repeat'(first|refine Zj 35 ?_|refine Zb 35 ?_|refine st ?_|(apply B<;>intro hb<;>try cases hb)))<;>try refine At.mk ?_
 refine Z0 (Zo (xs:=l) rfl rfl i rfl hil rfl) rfl rfl ?_;generalize l[i]=c at hc ⊢;have hcc:∀ D,innL D (raC c):=fun D=>Zm (fun _ h=>h.elim) _ (Z1j c);(refine go ?_;repeat' (apply B<;>intro hb<;>try cases hb));refine Zn hC (fun k=>k≤t.rs.length) (fun k=>t.rs.length-k) 2 (fun k => [(1,.vec (l.map raC) fl),(2,.cp (pbR t)),(4,.ptr 0 0 0),(7,Yv i),(8,.ptr 1 0 0),(30,.vec (l.map raC) fl),(31,.val (.int .i64 (l.length:Int))),(32,Yv i),(39,.val (.int .i64 (t.rs.length:Int))),(40,.val (.int .i64 (k:Int)))]) (fun _ => [(0,⟨3,[z3C]⟩),(1,⟨2,[raC c]⟩)]) (by decide) 0 (Y0l _)
  ⟨⟨rfl,Z19 l _⟩,⟨rfl,hpc _⟩,⟨rfl,show 0<2 by decide⟩,⟨rfl,Yt⟩,⟨rfl,show 1<2 by decide⟩,⟨rfl,Z19 l _⟩,⟨rfl,Yt⟩,⟨rfl,Yt⟩,⟨by rw [← hrl]; rfl,Yt⟩,⟨rfl,Yt⟩,Yt⟩ ⟨⟨by decide,rfl,Z48 _,Yt⟩,⟨by decide,rfl,hcc _,Yt⟩,Yt⟩ ?_
 intro k hk;have hkinc:IntKind.i64.wrap ((k:Int)+1)=((k+1:Nat):Int):=Y0v _ ⟨by omega,by omega⟩;(repeat'(first|refine Zj 41 ?_|refine Zb 41 ?_|refine st ?_|(apply B<;>intro hb<;>try cases hb)))<;>try refine At.mk ?_
 by_cases hkl:k<t.rs.length
 case neg =>
  refine Z0 (Z1 (v:=false) rfl (Y0w (by omega))) rfl rfl ?_;(refine go ?_;repeat' (apply B<;>intro hb<;>try cases hb));exact⟨i+1,hil,by omega,⟨⟨rfl,Z19 l _⟩,⟨rfl,hpc _⟩,⟨rfl,show 0<1 by decide⟩,⟨rfl,Z19 l _⟩,⟨rfl,Yt⟩,⟨by show some _=some _; rw [hinc],Yt⟩,Yt⟩,⟨⟨by decide,rfl,Z48 _,Yt⟩,Yt⟩⟩
 refine Z0 (Z1 (v:=true) rfl (decide_eq_true (Int.ofNat_lt.2 hkl))) rfl rfl ?_;(repeat'(first|refine Zj 47 ?_|refine Zb 47 ?_|refine st ?_|(apply B<;>intro hb<;>try cases hb)))<;>try refine At.mk ?_
 refine ZH rfl rfl (Z6U h hn l fl hl c hc k hkl) ⟨hpp,Z13 l,Z1j c,Yt,Yt⟩ rfl ?_;rintro r ⟨out,rfl⟩;(repeat'(first|refine Zj 49 ?_|refine Zb 49 ?_|refine st ?_|(apply B<;>intro hb<;>try cases hb)))<;>try refine At.mk ?_
 by_cases ho:(0:Int)<((nsL out).length:Int)
 · refine Z0 (Z1 (v := true) rfl (decide_eq_true ho)) rfl rfl ?_;(refine go ?_;repeat' (apply B<;>intro hb<;>try cases hb));exact Z5 rfl ⟨Yt,Yt,Yt,Yt⟩ ⟨_,_,_,rfl⟩
 refine Z0 (Z1 (v:=false) rfl (Y0w ho)) rfl rfl ?_;(refine go ?_;repeat' (apply B<;>intro hb<;>try cases hb));exact⟨k+1,hkl,by omega,⟨⟨rfl,Z19 l _⟩,⟨rfl,hpc _⟩,⟨rfl,show 0<2 by decide⟩,⟨rfl,Yt⟩,⟨rfl,show 1<2 by decide⟩,⟨rfl,Z19 l _⟩,⟨rfl,Yt⟩,⟨rfl,Yt⟩,⟨rfl,Yt⟩,⟨by show some _=some _; rw [hkinc],Yt⟩,Yt⟩,⟨⟨by decide,rfl,Z48 _,Yt⟩,⟨by decide,rfl,hcc _,Yt⟩,Yt⟩⟩
theorem Zb1 {t:PB} (h:PbOk t) (hn:t.n≤5) (b:Bool) (p:List Nat) (fp:Bool) (l:List Cu) (fl:Bool) (hpl:p.length≤1000) (hl:∀ c∈l,Ok64 c) (hll:l.length≤1000):Spec Tryz.prog 25 [.agg (pbR t),.val (.bool b),.vec (inL p) fp,.vec (l.map raC) fl] FndR:=by
 have hpp:=Z11 t;have hlen:=Z3z p;have hrl:=Z3X t.rs;have hpc:∀ D,innL D (pbR t):=fun D=>Zm (fun _ h=>h.elim) _ hpp;have hpi:∀ D,innLL D (inL p):=fun D=>Z9 (fun _ h=>h.elim) _ (Zz p);refine Yp ok25 fun C hC=>?_;refine Zs ?_;refine Zc ?_;refine Z4 rfl rfl rfl ?_;(refine go ?_;repeat' (apply B<;>intro hb<;>try cases hb));refine Zn hC (fun i=>i≤p.length∧∀ k∈p.take i,k<t.rs.length) (fun i=>p.length-i) 1 (fun i => [(1,.val (.bool b)),(2,.vec (inL p) fp),(3,.vec (l.map raC) fl),(4,.cp (pbR t)),(8,.ptr 0 0 0),(11,.vec (inL p) fp),(12,.val (.int .i64 (p.length:Int))),(13,Yv i)]) (fun _ => [(0,⟨3,[z3C]⟩)]) (by decide) 0 ⟨Y0l _,fun k hk=>by simp at hk⟩
  ⟨⟨rfl,Yt⟩,⟨rfl,hpi _⟩,⟨rfl,Z19 l _⟩,⟨rfl,hpc _⟩,⟨rfl,show 0<1 by decide⟩,⟨rfl,hpi _⟩,⟨by rw [← hlen]; rfl,Yt⟩,⟨rfl,Yt⟩,Yt⟩ ⟨⟨by decide,rfl,Z48 _,Yt⟩,Yt⟩ ?_
 rintro i ⟨hi,hlt⟩;have hinc:IntKind.i64.wrap ((i:Int)+1)=((i+1:Nat):Int):=Y0v _ ⟨by omega,by omega⟩;(repeat'(first|refine Zj 14 ?_|refine Zb 14 ?_|refine st ?_|(apply B<;>intro hb<;>try cases hb)))<;>try refine At.mk ?_
 by_cases hil:i<p.length
 · refine Z0 (Z1 (v := true) rfl (decide_eq_true (Int.ofNat_lt.2 hil))) rfl rfl ?_;have htk:=Z2n hil;(repeat'(first|refine Zj 15 ?_|refine Zb 15 ?_|refine st ?_|(apply B<;>intro hb<;>try cases hb)))<;>try refine At.mk ?_
   refine Z0 (Zo (xs:=p) (g:=inC1) rfl rfl i rfl hil rfl) rfl rfl ?_;generalize p[i]=k at htk ⊢;(repeat'(first|refine Zj 21 ?_|refine Zb 21 ?_|refine st ?_|(apply B<;>intro hb<;>try cases hb)))<;>try refine At.mk ?_
   by_cases hk:k<t.rs.length
   · refine Z0 (Z1 (v := false) rfl (Y0w (by rw [hrl]; omega))) rfl rfl ?_;(refine go ?_;repeat' (apply B<;>intro hb<;>try cases hb));refine⟨i+1,⟨hil,fun j hj=>?_⟩,by omega,⟨⟨rfl,Yt⟩,⟨rfl,hpi _⟩,⟨rfl,Z19 l _⟩,⟨rfl,hpc _⟩,⟨rfl,show 0<1 by decide⟩,⟨rfl,hpi _⟩,⟨rfl,Yt⟩,⟨by show some _=some _; rw [hinc],Yt⟩,Yt⟩,⟨⟨by decide,rfl,Z48 _,Yt⟩,Yt⟩⟩;rw [htk] at hj;rcases Y0h.1 hj with hj|hj
     · exact hlt j hj
     · rw [Y0g] at hj; subst hj; exact hk
   · refine Z0 (Z1 (v := true) rfl (decide_eq_true (by rw [hrl]; omega))) rfl rfl ?_;(refine go ?_;repeat' (apply B<;>intro hb<;>try cases hb));exact Z5 rfl ⟨Yt,Yt,Yt,Yt⟩ ⟨_,_,_,rfl⟩
 refine Z0 (Z1 (v:=false) rfl (Y0w (by omega))) rfl rfl ?_;rw [List.take_of_length_le (by omega)] at hlt;(repeat'(first|refine Zj 26 ?_|refine Zb 26 ?_|refine st ?_|(apply B<;>intro hb<;>try cases hb)))<;>try refine At.mk ?_
 refine ZH rfl rfl (Z9v h hn l fl hl hll) ⟨hpp,Z13 l,Yt⟩ rfl ?_;rintro r ⟨kn,rfl⟩;cases kn
 case false =>
  (refine go ?_;repeat' (apply B<;>intro hb<;>try cases hb));exact Z5 rfl ⟨Yt,Yt,Yt,Yt⟩ ⟨_,_,_,rfl⟩
 cases b
 · (repeat'(first|refine Zj 35 ?_|refine Zb 35 ?_|refine st ?_|(apply B<;>intro hb<;>try cases hb)))<;>try refine At.mk ?_
   refine ZH rfl rfl (Z6V h hn l fl hl hll) ⟨hpp,Z13 l,Yt⟩ rfl ?_;rintro r ⟨x,y,z,rfl⟩;(refine go ?_;repeat' (apply B<;>intro hb<;>try cases hb));exact Z5 rfl ⟨Yt,Yt,Yt,Yt⟩ ⟨_,_,_,rfl⟩
 · (repeat'(first|refine Zj 32 ?_|refine Zb 32 ?_|refine st ?_|(apply B<;>intro hb<;>try cases hb)))<;>try refine At.mk ?_
   refine ZH rfl rfl (Z8x h p fp hlt hpl) ⟨hpp,Zz p,Yt⟩ rfl ?_;rintro r ⟨x,y,z,rfl⟩;(refine go ?_;repeat' (apply B<;>intro hb<;>try cases hb));exact Z5 rfl ⟨Yt,Yt,Yt,Yt⟩ ⟨_,_,_,rfl⟩
def FndJ (r:PV):Prop:=∃ a b c:Int,r=.agg [.val (.int .u8 a),.val (.int .i64 b),.val (.int .i64 c)]
theorem Z49 (a b c:Int):Spec Tryz.prog 24 [.agg [.val (.int .i64 a),.val (.int .i64 b),.val (.int .i64 c)]] FndJ:=by
 refine Yp ok24 fun C hC=>?_;refine Zs ?_;refine Zc ?_;refine Z4 rfl rfl rfl ?_;(repeat'(first|refine Zj 5 ?_|refine Zb 5 ?_|refine st ?_|(apply B<;>intro hb<;>try cases hb)))<;>try refine At.mk ?_
 refine Z8 rfl rfl rfl rfl ?_;(refine go ?_;repeat' (apply B<;>intro hb<;>try cases hb));exact Z5 rfl ⟨Yt,Yt,Yt,Yt⟩ ⟨_,_,_,rfl⟩
end
section
theorem ZhZ (r:Nat):jun [] r=2 ^ r:=Nat.eq_of_testBit_eq fun b=>by
 rw [Bool.eq_iff_iff,Z6k Z3C,Nat.testBit_two_pow,Y0n];exact⟨fun h=>h.elim (fun h=>(ZeO h).elim) Eq.symm,fun h=>.inr h.symm⟩
def cl0 (s:Nat):Nat:=(mem s).foldl (fun o r=>if 1≤r then o ||| 2 ^ r else o) 0
theorem Z4X:clo []=cl0:=funext fun s=>by
 rw [Zap];simp only [ZhZ]
 rfl
def sn0 (r:Nat):Nat:=2 ^ r
theorem Zc3:sen []=sn0:=funext ZhK
def good0 (t:PB) (s:Nat):Bool := !soC t.nv (cl0 s)
def step0 (t:PB) (r:RU) (s:Nat):Bool:=decide (nextR r s≠s)&&(good0 t (nextR r s)&&(r.rev||hoC r.cu (cl0 s)))
def jstep0 (t:PB) (s:Nat) (k:Int):Option Nat:=if 0≤k then (match t.rs[k.toNat]? with|some r=>if step0 t r s then some (nextR r s) else none|none=>none) else none
def follow0 (t:PB):Nat→List Nat→Nat→Fd
 | s,[],_=>if soC t.gl (cl0 s) then (1,0,0) else (5,0,0)
 | s, k :: p, i => match jstep0 t s (k : Int) with
   | some o=>follow0 t o p (i+1)
   | none=>(4,i,k)
def out0 (t:PB) (l:List Cu) (fl:Bool):Option Nat:=solveT cl0 sn0 t.n (outN t l fl)
def esc0 (t:PB) (l:List Cu) (fl:Bool) (c:Cu) (r:RU):Option Nat:=solveT cl0 sn0 t.n (escN t l fl c r)
def escE0 (t:PB) (l:List Cu) (fl:Bool) (i k:Nat):Bool:=(esc0 t l fl (cu0 l i) (ru0 t.rs k)).isSome
def closed0 (t:PB) (l:List Cu) (fl:Bool):Fd :=
 match kFind (fun i=>hoC (cu0 l i) t.st) l.length 0 with
 | some i=>(6,i,0)
 | none=>if (out0 t l fl).isSome then (7,0,0) else leakF (iFind (escE0 t l fl) t.rs.length l.length 0)
def chk0 (t:PB) (b:Bool) (p:List Nat) (l:List Cu) (fl:Bool):Fd :=
 if idOf t=List.replicate 32 0 then (2,0,0) else if chkT p l≠0 then (3,0,0) else if properT t.n l then
  (if p.any (fun k=>decide (t.rs.length≤k)) then (3,0,0) else if b then follow0 t t.st p 0 else closed0 t l fl) else (3,0,0)
section
variable {t:PB} (hl:t.l = [])
include hl
theorem ZiF (s:Nat):goodB t s=good0 t s:=by unfold goodB good0; rw [hl,Z4X]
theorem ZiG (r:RU) (s:Nat):stepR t r s=step0 t r s:=by unfold stepR step0; rw [ZiF hl,hl,Z4X]
theorem Zi0 (s:Nat) (k:Int):jstep t s k=jstep0 t s k:=by
 unfold jstep jstep0;simp only [ZiG hl]
 all_goals rfl
theorem Zc4:∀ (p:List Nat) (s i:Nat),followT t s p i=follow0 t s p i
 | [], s, i => by
   show (if reachB t s then ((1,0,0):Fd) else (5,0,0))=(if soC t.gl (cl0 s) then (1,0,0) else (5,0,0))
   unfold reachB;rw [hl,Z4X]
 | k :: p, s, i => by
   show (match jstep t s (k:Int) with|some o=>followT t o p (i+1)|none=>((4,i,k):Fd))=(match jstep0 t s (k:Int) with|some o=>follow0 t o p (i+1)|none=>(4,i,k))
   rw [Zi0 hl];cases jstep0 t s (k:Int) with
   | some o=>exact Zc4 p o (i+1)
   | none=>rfl
theorem ZgQ (l:List Cu) (fl:Bool):closedT t l fl=closed0 t l fl:=by
 have e1:outT t l fl=out0 t l fl:=by unfold outT out0; rw [hl,Z4X,Zc3]
 have e2:escE t l fl=escE0 t l fl:=funext fun i=>funext fun k=>by unfold escE escE0 escT esc0; rw [hl,Z4X,Zc3]
 unfold closedT closed0;rw [e1,e2]
 all_goals rfl
theorem Zb2 (b:Bool) (p:List Nat) (l:List Cu) (fl:Bool):chkJ t b p l fl=chk0 t b p l fl:=by
 unfold chkJ chk0;rw [Zc4 hl,ZgQ hl]
end
def tJ (nv:List Cu):PB:=⟨2,[],0,[⟨false,(0,0),1,0⟩,⟨false,(2,0),2,0⟩],nv,[(4,0)]⟩
theorem inC2 {c:Cu} (h1:c.1 ||| 6=6) (h2:c.2 ||| 6=6) (h3:emC c=false):InC 2 c∧InM 62 c:=⟨⟨h1,h2,h3⟩,Z3W h1 (by decide),Z3W h2 (by decide)⟩
theorem ZiH (nv:List Cu) (hn:nv.length≤64) (h:∀ c∈nv,InC 2 c∧InM 62 c) (h0:soC nv 0=false):PbOk (tJ nv):=by
 refine⟨show 1≤2∧2≤63 by decide,⟨List.Pairwise.nil,fun p hp=>(by cases hp),⟨fun _=>0,fun p hp=>(by cases hp)⟩⟩,fun p hp=>(by cases hp),show 0 ||| mkN 2=mkN 2 by decide,show 2≤64 by decide,fun r hr=>?_,hn,h,show 1≤64 by decide,fun c hc=>?_,?_⟩
 · have hr : r ∈ [(⟨false, (0, 0), 1, 0⟩ : RU), ⟨false, (2, 0), 2, 0⟩] := hr;simp only [List.mem_cons,List.not_mem_nil,or_false] at hr;rcases hr with rfl|rfl
   · have := inC2 (c := (0, 0)) (by decide) (by decide) (by decide);exact⟨this.1,this.2,show 1≤1∧1≤2∧1≤5 by decide,fun _=>rfl⟩
   · have := inC2 (c := (2, 0)) (by decide) (by decide) (by decide);exact⟨this.1,this.2,show 1≤2∧2≤2∧2≤5 by decide,fun h=>by cases h⟩
 · have hc : c ∈ [((4, 0) : Cu)] := hc;rw [Y0g] at hc;subst hc;exact inC2 (by decide) (by decide) (by decide)
 · show soC nv (clo [] 0) = false;rw [ZhJ (m:=2) (by decide) (by decide)]; exact h0
theorem Zj5 (nv:List Cu) (hn:nv.length≤64) (h:∀ c∈nv,c.1<256∧c.2<256):PbW (tJ nv) :=
 ⟨show 2≤63 by decide,show 0<256 by decide,fun r hr=>(by
  have hr:r∈[(⟨false,(0,0),1,0⟩:RU),⟨false,(2,0),2,0⟩]:=hr;simp only [List.mem_cons,List.not_mem_nil,or_false] at hr
  rcases hr with rfl|rfl<;>exact⟨by decide,by decide,by decide⟩),h,fun c hc=>(by
  have hc:c∈[((4,0):Cu)]:=hc;rw [Y0g] at hc;subst hc
  exact⟨by decide,by decide⟩),fun p hp=>(by cases hp),show 0≤100 by decide,show 2≤100 by decide,Y03 hn (by decide),show 1≤100 by decide⟩
def t1J:PB:=tJ []
def t2J:PB:=tJ [(6,0)]
theorem Zfl:PbOk t1J:=ZiH [] (by decide) (fun c hc=>by cases hc) rfl
theorem Zh6:PbOk t2J:=ZiH [(6,0)] (by decide) (fun c hc=>by
 rw [Y0g] at hc;subst hc
 exact inC2 (by decide) (by decide) (by decide)) (by decide)
theorem Zi1:PbW t1J:=Zj5 [] (by decide) fun c hc=>by cases hc
theorem ZiI:PbW t2J:=Zj5 [(6,0)] (by decide) fun c hc=>by
 rw [Y0g] at hc;subst hc;exact⟨by decide,by decide⟩
set_option maxRecDepth 100000
theorem v1 (fl:Bool):chkJ t1J true [0,1] [] fl=(1,0,0):=by rw [Zb2 rfl]; cases fl<;>decide +kernel
theorem v2 (fl:Bool):chkJ t1J true [1,0] [] fl=(4,0,1):=by rw [Zb2 rfl]; cases fl<;>decide +kernel
theorem v3 (fl:Bool):chkJ t1J true [0] [] fl=(5,0,0):=by rw [Zb2 rfl]; cases fl<;>decide +kernel
theorem v4 (fl:Bool):chkJ t1J false [] [(4,0)] fl=(8,0,1):=by rw [Zb2 rfl]; cases fl<;>decide +kernel
theorem v5 (fl:Bool):chkJ t1J false [] [(2,0),(4,0)] fl=(8,0,0):=by rw [Zb2 rfl]; cases fl<;>decide +kernel
theorem v6 (fl:Bool):chkJ t1J false [] [] fl=(7,0,0):=by rw [Zb2 rfl]; cases fl<;>decide +kernel
theorem v7 (fl:Bool):chkJ t2J false [] [(4,0)] fl=(1,0,0):=by rw [Zb2 rfl]; cases fl<;>decide +kernel
end
section
open Go.RowKit
attribute [local irreducible] aw opsK dK
abbrev Wt:=Bool×List Nat×List Cu×Bool×Bool×Fd
def fdC (f:Fd):List PV := [.val (.int .u8 (f.1:Int)),.val (.int .i64 (f.2.1:Int)),.val (.int .i64 (f.2.2:Int))]
def rowW (w:Wt):List PV:=certL (idOf t1J) w.1 w.2.1 w.2.2.2.1 w.2.2.1 w.2.2.2.2.1++fdC w.2.2.2.2.2
theorem Z2H (w:Wt):(certL (idOf t1J) w.1 w.2.1 w.2.2.2.1 w.2.2.1 w.2.2.2.2.1).length=35:=Z2X (Z42 _)
theorem Z2I (w:Wt):(rowW w).length=38:=by unfold rowW; rw [Y0e,Z2H]; rfl
theorem Z9w (w:Wt):pureL (rowW w):=Z1f (Z1i _ _ _ _ _ _) ⟨Yt,Yt,Yt,Yt⟩
def wants:List Wt := [(true,[0,1],[],false,true,(1,0,0)),(true,[1,0],[],false,true,(4,0,1)),(true,[0],[],false,true,(5,0,0)),(false,[],[(4,0)],true,false,(8,0,1)),(false,[],[(2,0),(4,0)],true,false,(8,0,0)),(false,[],[],true,false,(7,0,0))]
theorem ZgR:∀ w∈wants,FormC w.1 w.2.1 w.2.2.1∧w.2.1.length≤10000∧w.2.2.1.length≤2000∧(∀ c∈w.2.2.1,Ok64 c)∧chkJ t1J w.1 w.2.1 w.2.2.1 w.2.2.2.2.1=w.2.2.2.2.2:=by
 intro w hw;simp only [wants,List.mem_cons,List.not_mem_nil,or_false] at hw;have h4:∀ c∈[((4,0):Cu)],Ok64 c:=fun c hc=>by
  rw [Y0g] at hc; subst hc; exact⟨by decide,by decide⟩
 have h24:∀ c∈[((2,0):Cu),(4,0)],Ok64 c:=fun c hc=>by
  simp only [List.mem_cons,List.not_mem_nil,or_false] at hc;rcases hc with rfl|rfl<;>exact⟨by decide,by decide⟩
 have h00:∀ c∈([]:List Cu),Ok64 c:=fun c hc=>by cases hc
 rcases hw with rfl|rfl|rfl|rfl|rfl|rfl
 · exact⟨.inl ⟨rfl,rfl⟩,show 2≤10000 by decide,Y0l _,h00,v1 _⟩
 · exact⟨.inl ⟨rfl,rfl⟩,show 2≤10000 by decide,Y0l _,h00,v2 _⟩
 · exact⟨.inl ⟨rfl,rfl⟩,show 1≤10000 by decide,Y0l _,h00,v3 _⟩
 · exact⟨.inr ⟨rfl,rfl⟩,Y0l _,show 1≤2000 by decide,h4,v4 _⟩
 · exact⟨.inr ⟨rfl,rfl⟩,Y0l _,show 2≤2000 by decide,h24,v5 _⟩
 · exact⟨.inr ⟨rfl,rfl⟩,Y0l _,Y0l _,h00,v6 _⟩
theorem Z7C {e:Env} {a b:Operand} {cc:List PV} {x y w:PV} (ha:ev e a=some (.agg cc)) (hb:ev e b=some (.agg [x,y,w])) (hl:cc.length=35) (z:List PV) (hz:z.length=38):buildL e z [(0,35,a),(35,3,b)]=some (cc ++ [x,y,w]):=by
 have h1:setAt z 0 cc=cc++z.drop 35:=by
  unfold setAt;rw [List.take_zero,List.nil_append,hl]
 have hd:(z.drop 35).length=3:=by rw [List.length_drop,hz]
 have e1:(PV.agg cc).cells=cc:=rfl;have e2:(PV.agg [x,y,w]).cells = [x,y,w]:=rfl;have f1:(PV.agg cc).flat=true:=rfl;have f2:(PV.agg [x,y,w]).flat=true:=rfl;simp only [buildL,ha,hb,e1,e2,f1,f2,hl,hz,h1,Bool.true_and,beq_self_eq_true];rw [if_pos (by decide)];have h2:setAt (cc++z.drop 35) 35 [x,y,w]=cc ++ [x,y,w]:=by
  have:=Z41 cc (z.drop 35) [x,y,w] 35 0 hl;rw [show 35+0=35 from rfl] at this;rw [this];unfold setAt;rw [List.take_zero,List.nil_append,List.drop_of_length_le (by show (z.drop 35).length≤0+3;omega),Y0p]
 rw [h2,if_pos (by rw [Y0e,hl,hd]; rfl)]
theorem ZiJ {e:Env} {a0 a1 a2 a3 a4 a5:Operand} {r0 r1 r2 r3 r4 r5:List PV} (h0:ev e a0=some (.agg r0)) (h1:ev e a1=some (.agg r1)) (h2:ev e a2=some (.agg r2)) (h3:ev e a3=some (.agg r3)) (h4:ev e a4=some (.agg r4)) (h5:ev e a5=some (.agg r5))
 (l0:r0.length=38) (l1:r1.length=38) (l2:r2.length=38) (l3:r3.length=38) (l4:r4.length=38) (l5:r5.length=38) (z:List PV):buildS e 38 (List.replicate 6 z) [(0,a0),(1,a1),(2,a2),(3,a3),(4,a4),(5,a5)]=some [r0,r1,r2,r3,r4,r5]:=by
 have f:∀ r,(PV.agg r).flat=true:=fun _=>rfl;have c:∀ r,(PV.agg r).cells=r:=fun _=>rfl;simp only [buildS,h0,h1,h2,h3,h4,h5,f,c,l0,l1,l2,l3,l4,l5,Bool.true_and,beq_self_eq_true]
 rfl
theorem Zj1 {e:Env} {h:Heap} {n k:Nat} {z:List Value} {ps:List (Nat×Operand)} {l:List (List PV)} (hb:buildS e z.length (List.replicate k (zpv z)) ps=some l):dEval (.bslice z k ps) e h n=some (.vec l true,h):=by
 simp only [dEval,hb]
theorem ZiK {e:Env} {h:Heap} {n:Nat} {x y:Operand} {f:Fd} (hx:ev e x=some (fdP f)) (hy:ev e y=some (.agg (fdC f))):dEval (.bin .neq (.cells [0,0,0]) x y) e h n=some (.val (.bool false),h):=by
 unfold fdP at hx;unfold fdC at hy;simp [dEval,hx,hy,pbin,eqCells,eqCell]
theorem ZiL {e:Env} {h:Heap} {n:Nat} {x y:Operand} {f:Fd} (hx:ev e x=some (fdP f)) (hy:ev e y=some (.agg (fdC f))):dEval (.bin .eql (.cells [0,0,0]) x y) e h n=some (.val (.bool true),h):=by
 unfold fdP at hx;unfold fdC at hy;simp [dEval,hx,hy,pbin,eqCells,eqCell]
theorem wants4:∀ c∈[((4,0):Cu)],Ok64 c:=fun c hc=>by
 rw [Y0g] at hc; subst hc; exact⟨by decide,by decide⟩
theorem Z9x:Spec Tryz.prog 6 [] (· = .val (.bool true)):=by
 have h0:words (digs 0) = []:=by rw [ZT]; rfl
 refine Yp ok6 fun C hC=>?_;have lowY:∀ (m:Nat) (w:List (List PV)),pureLL w→RenLs (fun i=>i) (fun i=>i<m) [.vec w false,PV.vec [] true] [.vec w false,.vec [] false]:=fun m w hw=>⟨.pure _ hw,.low (.vec [] true) Yt,Yt⟩
 refine gd 7 ⟨?_⟩;refine Z6 (ZaJ [1] 2 (by decide +kernel) true) rfl rfl rfl ⟨ZF _,Yt⟩ rfl ?_;refine gd 10 ⟨?_⟩;refine Z6 (ZaJ [2] 4 (by decide +kernel) true) rfl rfl rfl ⟨ZF _,Yt⟩ rfl ?_
 iterate 6 (first|refine st ?_|(apply B<;>intro hb<;>try cases hb))
 refine Z22 (Z3M (EnvQ.mem (ρ:=fun i=>i) (m:=2) (L := [(1,.ptr 0 0 0),(2,.ptr 1 0 0)]) ⟨⟨_,rfl,.ptr (ρ:=fun i=>i) 0 0 0 (by decide)⟩,⟨_,rfl,.ptr (ρ:=fun i=>i) 1 0 0 (by decide)⟩,Yt⟩)
  (HeapQ.mem (ρ := fun i => i) (m := 2) (L := [(0, ⟨2, [cuC (2, 0)]⟩), (1, ⟨2, [cuC (4, 0)]⟩)]) ⟨⟨by decide, ⟨2, [[.vec (words (digs 2)) false, .vec [] true]]⟩, rfl, by
    show RenB _ _ _ ⟨2,[[.vec (words (digs 2)) false,.vec (words (digs 0)) false]]⟩;rw [h0]
    exact RenB.single (lowY _ _ (Zk _)) rfl⟩,⟨by decide,⟨2,[[.vec (words (digs 4)) false,.vec [] true]]⟩,rfl,by
    show RenB _ _ _ ⟨2,[[.vec (words (digs 4)) false,.vec (words (digs 0)) false]]⟩;rw [h0]
    exact RenB.single (lowY _ _ (Zk _)) rfl⟩,Yt⟩) hC (by decide)) ?_
 iterate 2 (first|refine st ?_|(apply B<;>intro hb<;>try cases hb))
 refine gd 12 ⟨?_⟩;refine Z2r rfl rfl (.inl rfl) Z5w Yt ?_;rintro r ⟨S,rfl⟩;have hpp:=ZR t1J S
 iterate 10 (first|refine st ?_|(apply B<;>intro hb<;>try cases hb))
 have lr:RenP (fun i=>i) (fun i=>i<11) (.vec [[.val (.bool false),.vec [] true,.vec [] true,.val (.int .i64 1),.val (.int .i64 0)],[.val (.bool false),.vec (words (digs 2)) false,.vec (words (digs 0)) false,.val (.int .i64 2),.val (.int .i64 0)]] true) (.vec [[.val (.bool false),.vec [] false,.vec [] false,.val (.int .i64 1),.val (.int .i64 0)],[.val (.bool false),.vec (words (digs 2)) false,.vec [] false,.val (.int .i64 2),.val (.int .i64 0)]] false):=by
  have:=RenP.low (ρ:=fun i=>i) (D:=fun i=>i<11) (.vec [[.val (.bool false),.vec [] true,.vec [] true,.val (.int .i64 1),.val (.int .i64 0)],[.val (.bool false),.vec (words (digs 2)) false,.vec (words (digs 0)) false,.val (.int .i64 2),.val (.int .i64 0)]] true) (by
   show pureLL [_,[_,.vec (lowLL (words (digs 2))) false,.vec (lowLL (words (digs 0))) false,_,_]];rw [ZN,ZN]
   exact⟨⟨Yt,Yt,Yt,Yt,Yt,Yt⟩,⟨Yt,Zk _,Zk _,Yt,Yt,Yt⟩,Yt⟩)
  have e:(PV.vec [[.val (.bool false),.vec [] true,.vec [] true,.val (.int .i64 1),.val (.int .i64 0)],[.val (.bool false),.vec (words (digs 2)) false,.vec (words (digs 0)) false,.val (.int .i64 2),.val (.int .i64 0)]] true).low=.vec [[.val (.bool false),.vec [] false,.vec [] false,.val (.int .i64 1),.val (.int .i64 0)],[.val (.bool false),.vec (lowLL (words (digs 2))) false,.vec (lowLL (words (digs 0))) false,.val (.int .i64 2),.val (.int .i64 0)]] false:=rfl;rw [e,ZN,ZN,h0] at this;rw [h0];exact this
 have lg:RenP (fun i=>i) (fun i=>i<11) (.vec [[.vec (words (digs 4)) false,.vec (words (digs 0)) false]] true) (.vec [[.vec (words (digs 4)) false,.vec [] false]] false):=by
  have:=RenP.low (ρ:=fun i=>i) (D:=fun i=>i<11) (.vec [[.vec (words (digs 4)) false,.vec (words (digs 0)) false]] true) (by
   show pureLL [[.vec (lowLL (words (digs 4))) false,.vec (lowLL (words (digs 0))) false]];rw [ZN,ZN]
   exact⟨⟨Zk _,Zk _,Yt⟩,Yt⟩)
  have e:(PV.vec [[.vec (words (digs 4)) false,.vec (words (digs 0)) false]] true).low=.vec [[.vec (lowLL (words (digs 4))) false,.vec (lowLL (words (digs 0))) false]] false:=rfl;rw [e,ZN,ZN,h0] at this;rw [h0];exact this
 have hpb:pbP t1J S = [.val (.int .i64 2),hierP [] S,.vec [] false,.vec [[.val (.bool false),.vec [] false,.vec [] false,.val (.int .i64 1),.val (.int .i64 0)],[.val (.bool false),.vec (words (digs 2)) false,.vec [] false,.val (.int .i64 2),.val (.int .i64 0)]] false,.vec [] false,.vec [[.vec (words (digs 4)) false,.vec [] false]] false]:=by
  show [PV.val (.int .i64 2),hierP [] S,.vec (words (digs 0)) false,.vec [[.val (.bool false),.vec (words (digs 0)) false,.vec (words (digs 0)) false,.val (.int .i64 1),.val (.int .i64 0)],[.val (.bool false),.vec (words (digs 2)) false,.vec (words (digs 0)) false,.val (.int .i64 2),.val (.int .i64 0)]] false,.vec [] false,.vec [[.vec (words (digs 4)) false,.vec (words (digs 0)) false]] false]=_;rw [h0]
 refine Z22 (Z3M (EnvQ.mem (ρ:=fun i=>i) (m:=11) (L := [(1,.ptr 0 0 0),(2,.ptr 1 0 0),(3,.ptr 10 0 0)]) ⟨⟨_,rfl,.ptr (ρ:=fun i=>i) 0 0 0 (by decide)⟩,⟨_,rfl,.ptr (ρ:=fun i=>i) 1 0 0 (by decide)⟩,⟨_,rfl,.ptr (ρ:=fun i=>i) 10 0 0 (by decide)⟩,Yt⟩)
  (HeapQ.mem (ρ := fun i => i) (m := 11) (L := [(0, ⟨2, [cuC (2, 0)]⟩), (1, ⟨2, [cuC (4, 0)]⟩), (10, ⟨6, [pbP t1J S]⟩)]) ⟨⟨by decide, _, rfl, .same _ ⟨Zp _, Yt⟩⟩, ⟨by decide, _, rfl, .same _ ⟨Zp _, Yt⟩⟩, ⟨by decide, ⟨6, [[.val (.int .i64 2), hierP [] S, .vec [] true, .vec [[.val (.bool false), .vec [] true, .vec [] true, .val (.int .i64 1), .val (.int .i64 0)], [.val (.bool false), .vec (words (digs 2)) false, .vec (words (digs 0)) false, .val (.int .i64 2), .val (.int .i64 0)]] true, .vec [] true, .vec [[.vec (words (digs 4)) false, .vec (words (digs 0)) false]] true]]⟩, rfl, by
    rw [hpb]
    exact RenB.single ⟨.pure _ Yt,.pure _ (ZE _ _),.low (.vec [] true) Yt,lr,.low (.vec [] true) Yt,lg,Yt⟩ rfl⟩,Yt⟩) hC (by decide)) ?_
 have hr:=fun p hp=>Z5B Zfl Zi1 S p true hp;have hc:=fun l hl=>Z3H Zfl Zi1 S l true hl;refine gd 22 ⟨?_⟩;refine Zy (hr [0,1] (by decide)) rfl rfl rfl ⟨hpp,Zz _,Yt⟩ ?_;(first|refine st ?_|(apply B<;>intro hb<;>try cases hb));refine Ze (Z9t (Z7C rfl rfl (Z2H (true,[0,1],[],false,true,(1,0,0))) _ (by kernel_rfl))) rfl rfl ?_;refine gd 27 ⟨?_⟩;refine Zy (hr [1,0] (by decide)) rfl rfl rfl ⟨hpp,Zz _,Yt⟩ ?_;(first|refine st ?_|(apply B<;>intro hb<;>try cases hb));refine Ze (Z9t (Z7C rfl rfl (Z2H (true,[1,0],[],false,true,(4,0,1))) _ (by kernel_rfl))) rfl rfl ?_;refine gd 32 ⟨?_⟩;refine Zy (hr [0] (by decide)) rfl rfl rfl ⟨hpp,Zz _,Yt⟩ ?_;(first|refine st ?_|(apply B<;>intro hb<;>try cases hb));refine Ze (Z9t (Z7C rfl rfl (Z2H (true,[0],[],false,true,(5,0,0))) _ (by kernel_rfl))) rfl rfl ?_;refine gd 38 ⟨?_⟩;refine Zy (hc [(4,0)] (by decide)) rfl rfl rfl ⟨hpp,Za Zp _,Yt⟩ ?_;(first|refine st ?_|(apply B<;>intro hb<;>try cases hb));refine Ze (Z9t (Z7C rfl rfl (Z2H (false,[],[(4,0)],true,false,(8,0,1))) _ (by kernel_rfl))) rfl rfl ?_;refine gd 45 ⟨?_⟩;refine Zy (hc [(2,0),(4,0)] (by decide)) rfl rfl rfl ⟨hpp,Za Zp _,Yt⟩ ?_;(first|refine st ?_|(apply B<;>intro hb<;>try cases hb));refine Ze (Z9t (Z7C rfl rfl (Z2H (false,[],[(2,0),(4,0)],true,false,(8,0,0))) _ (by kernel_rfl))) rfl rfl ?_;refine gd 49 ⟨?_⟩;refine Zy (hc [] (by decide)) rfl rfl rfl ⟨hpp,Yt,Yt⟩ ?_;(first|refine st ?_|(apply B<;>intro hb<;>try cases hb));refine Ze (Z9t (Z7C rfl rfl (Z2H (false,[],[],true,false,(7,0,0))) _ (by kernel_rfl))) rfl rfl ?_;refine Ze (Zj1 (ZiJ rfl rfl rfl rfl rfl rfl (Z2I (true,[0,1],[],false,true,(1,0,0))) (Z2I (true,[1,0],[],false,true,(4,0,1))) (Z2I (true,[0],[],false,true,(5,0,0))) (Z2I (false,[],[(4,0)],true,false,(8,0,1))) (Z2I (false,[],[(2,0),(4,0)],true,false,(8,0,0))) (Z2I (false,[],[],true,false,(7,0,0))) _)) rfl rfl ?_;have hwp:pureLL (wants.map rowW):=Za Z9w _;have hwi:∀ D,innLL D (wants.map rowW):=fun D=>Z9 (fun _ h=>h.elim) _ hwp;have hp1:∀ D,innL D (pbP t1J S):=fun D=>Zm (fun _ h=>h.elim) _ hpp;have hcu:∀ (D:Nat→Prop) (c:Cu),innLL D [cuC c]:=fun D c=>Z9 (fun _ h=>h.elim) _ (show pureLL [cuC c] from ⟨Zp c,Yt⟩);refine go ?_;refine Zn hC (fun i=>i≤6) (fun i=>6-i) 11 (fun i => [(1,.ptr 0 0 0),(2,.ptr 1 0 0),(3,.ptr 10 0 0),(52,.vec (wants.map rowW) true),(53,.val (.int .i64 6)),(54,Yv i)]) (fun _ => [(0,⟨2,[cuC (2,0)]⟩),(1,⟨2,[cuC (4,0)]⟩),(10,⟨6,[pbP t1J S]⟩)]) (by decide) 0 (Y0l _)
  ⟨⟨rfl,show 0<11 by decide⟩,⟨rfl,show 1<11 by decide⟩,⟨rfl,show 10<11 by decide⟩,⟨rfl,hwi _⟩,⟨rfl,Yt⟩,⟨rfl,Yt⟩,Yt⟩ ⟨⟨by decide,rfl,hcu _ _⟩,⟨by decide,rfl,hcu _ _⟩,⟨by decide,rfl,hp1 _,Yt⟩,Yt⟩ ?_
 intro i hi;have hinc:IntKind.i64.wrap ((i:Int)+1)=((i+1:Nat):Int):=wi (i+1) (by omega);refine gd 55 ⟨?_⟩;by_cases hil:i<6
 · refine Z0 (Z1 (v := true) rfl (decide_eq_true (by omega))) rfl rfl ?_;obtain⟨w1,w2,w3,w4,w5⟩:=ZgR wants[i] (Y0j hil);refine gd 56 ⟨?_⟩;refine Z0 (Zo (xs:=wants) (g:=rowW) rfl rfl i rfl hil (Z2I _)) rfl rfl ?_;generalize wants[i]=w at w1 w2 w3 w4 w5;have hrl:=Z2I w;have hrp:=Z9w w;refine Z0 (Zfg (r:=rowW w) rfl (by rw [hrl]; decide) (List.take_of_length_le (by rw [hrl]; exact Y0m _))) rfl rfl ?_;(first|refine st ?_|(apply B<;>intro hb<;>try cases hb));refine Z0 (Z4k (l:=zCert ++ [.val (.int .u8 0),.val (.int .i64 0),.val (.int .i64 0)]) rfl rfl (by kernel_rfl) hrl (by kernel_rfl)) rfl rfl ?_;have hcl:=Z2H w;have hck:=Z4l Zfl Zi1 S w.1 w.2.1 w.2.2.2.1 w.2.2.1 w.2.2.2.2.1 w1 w2 w3 w4;rw [w5] at hck;have hcp:=Z1i (idOf t1J) w.1 w.2.1 w.2.2.2.1 w.2.2.1 w.2.2.2.2.1;have hrow:rowW w=certL (idOf t1J) w.1 w.2.1 w.2.2.2.1 w.2.2.1 w.2.2.2.2.1++fdC w.2.2.2.2.2:=rfl;generalize certL (idOf t1J) w.1 w.2.1 w.2.2.2.1 w.2.2.1 w.2.2.2.2.1=cc at hcl hck hcp hrow;rw [hrow];refine gd 60 ⟨?_⟩;refine Ze (Z3F (l:=(cc++fdC w.2.2.2.2.2) ++ []) (r:=cc) rfl rfl (by rw [Y0p,Y0e,hcl]; exact Nat.le_add_right 35 3) (by rw [Y0p,List.drop_zero,List.take_append,hcl,Nat.sub_self,List.take_zero,Y0p,List.take_of_length_le (by rw [hcl]; exact Y0m _)])) rfl rfl ?_;refine Zy hck rfl rfl rfl ⟨hpp,hcp,Yt⟩ ?_;refine gd 63 ⟨?_⟩;refine Ze (Z3F (l:=(cc++fdC w.2.2.2.2.2) ++ []) (r:=fdC w.2.2.2.2.2) rfl rfl (by rw [Y0p,Y0e,hcl]; exact Y0m 38) (by rw [Y0p,List.drop_append,hcl,Nat.sub_self,List.drop_of_length_le (by rw [hcl]; exact Y0m _)]; rfl)) rfl rfl ?_;refine Ze (ZiK (f:=w.2.2.2.2.2) rfl rfl) rfl rfl ?_;refine go ?_;exact⟨i+1,by omega,by omega,⟨⟨rfl,show 0<11 by decide⟩,⟨rfl,show 1<11 by decide⟩,⟨rfl,show 10<11 by decide⟩,⟨rfl,hwi _⟩,⟨rfl,Yt⟩,⟨by show some _=some _; rw [hinc],Yt⟩,Yt⟩,⟨⟨by decide,rfl,hcu _ _⟩,⟨by decide,rfl,hcu _ _⟩,⟨by decide,rfl,hp1 _,Yt⟩,Yt⟩⟩
 · obtain rfl : i = 6 := by omega
   refine Z0 (Z1 (v:=false) rfl (Y0w (by omega))) rfl rfl ?_;have hpp2:=ZR t2J S;have lv:RenP (fun i=>i) (fun i=>i<11) (.vec [[.vec (words (digs 6)) false,.vec [] true]] true) (.vec [[.vec (words (digs 6)) false,.vec [] false]] false):=by
    have:=RenP.low (ρ:=fun i=>i) (D:=fun i=>i<11) (.vec [[.vec (words (digs 6)) false,.vec [] true]] true) (by
     show pureLL [[.vec (lowLL (words (digs 6))) false,.vec [] false]];rw [ZN]
     exact⟨⟨Zk _,Yt,Yt⟩,Yt⟩)
    have e:(PV.vec [[.vec (words (digs 6)) false,.vec [] true]] true).low=.vec [[.vec (lowLL (words (digs 6))) false,.vec [] false]] false:=rfl;rw [e,ZN] at this;exact this
   have hpb2:pbP t2J S = [.val (.int .i64 2),hierP [] S,.vec [] false,.vec [[.val (.bool false),.vec [] false,.vec [] false,.val (.int .i64 1),.val (.int .i64 0)],[.val (.bool false),.vec (words (digs 2)) false,.vec [] false,.val (.int .i64 2),.val (.int .i64 0)]] false,.vec [[.vec (words (digs 6)) false,.vec [] false]] false,.vec [[.vec (words (digs 4)) false,.vec [] false]] false]:=by
    show [PV.val (.int .i64 2),hierP [] S,.vec (words (digs 0)) false,.vec [[.val (.bool false),.vec (words (digs 0)) false,.vec (words (digs 0)) false,.val (.int .i64 1),.val (.int .i64 0)],[.val (.bool false),.vec (words (digs 2)) false,.vec (words (digs 0)) false,.val (.int .i64 2),.val (.int .i64 0)]] false,.vec [[.vec (words (digs 6)) false,.vec (words (digs 0)) false]] false,.vec [[.vec (words (digs 4)) false,.vec (words (digs 0)) false]] false]=_;rw [h0]
   rw [hpb];refine gd 67 ⟨?_⟩;refine Z6 (ZaJ [1,2] 6 (by decide +kernel) true) rfl rfl rfl ⟨ZF _,Yt⟩ rfl ?_
   iterate 5 (first|refine st ?_|(apply B<;>intro hb<;>try cases hb))
   refine Z22 (Z3M (EnvQ.mem (ρ:=fun i=>i) (m:=11) (L := [(2,.ptr 1 0 0),(3,.ptr 10 0 0)]) ⟨⟨_,rfl,.ptr (ρ:=fun i=>i) 1 0 0 (by decide)⟩,⟨_,rfl,.ptr (ρ:=fun i=>i) 10 0 0 (by decide)⟩,Yt⟩)
    (HeapQ.mem (ρ := fun i => i) (m := 11) (L := [(1, ⟨2, [cuC (4, 0)]⟩), (10, ⟨6, [pbP t2J S]⟩)]) ⟨⟨by decide, _, rfl, .same _ ⟨Zp _, Yt⟩⟩, ⟨by decide, ⟨6, [[.val (.int .i64 2), hierP [] S, .vec [] false, .vec [[.val (.bool false), .vec [] false, .vec [] false, .val (.int .i64 1), .val (.int .i64 0)], [.val (.bool false), .vec (words (digs 2)) false, .vec [] false, .val (.int .i64 2), .val (.int .i64 0)]] false, .vec [[.vec (words (digs 6)) false, .vec [] true]] true, .vec [[.vec (words (digs 4)) false, .vec [] false]] false]]⟩, rfl, by
      rw [hpb2]
      exact RenB.single ⟨.pure _ Yt,.pure _ (ZE _ _),.pure _ Yt,.pure _ ⟨⟨Yt,Yt,Yt,Yt,Yt,Yt⟩,⟨Yt,Zk _,Yt,Yt,Yt,Yt⟩,Yt⟩,lv,.pure _ ⟨⟨Zk _,Yt,Yt⟩,Yt⟩,Yt⟩ rfl⟩,Yt⟩) hC (by decide)) ?_
   have hok:=wants4;refine gd 75 ⟨?_⟩;refine Zy (Z3H Zh6 ZiI S [(4,0)] true (by decide)) rfl rfl rfl ⟨hpp2,Za Zp _,Yt⟩ ?_;refine Zy (Z4l Zh6 ZiI S false [] true [(4,0)] false (.inr ⟨rfl,rfl⟩) (Y0l _) (by decide) hok) rfl rfl rfl ⟨hpp2,Z1i _ _ _ _ _ _,Yt⟩ ?_;rw [v7];refine gd 78 ⟨?_⟩;refine Ze (ZiL (f:=(1,0,0)) rfl rfl) rfl rfl ?_;refine go ?_;exact Z5 rfl Yt rfl
theorem Zfm:∀ (l:List Pr) (a:Nat),(l.Pairwise fun p q=>p.1<q.1 ∨ p.1=q.1∧p.2<q.2)→(∀ p∈l,a≤p.1*7+p.2∧p.1*7+p.2<49∧p.2≤6)→l.length≤49-a
 | [],a,_,_=>Y0l _
 | p :: l, a, hp, h => by
   have h1:=h p (Y0t ..);rw [List.pairwise_cons] at hp;have:=Zfm l (p.1*7+p.2+1) hp.2 fun q hq=>by
    have h2:=hp.1 q hq;have h3:=h q (List.mem_cons_of_mem _ hq);refine⟨?_,h3.2⟩;rcases h2 with h2|⟨h2,h4⟩<;>omega
   rw [Y04];omega
theorem Zh7 {t:PB} (h:MkOk t):PbW t:=by
 have hn:=h.n;have hok:=h.ok;have hst:t.st≤mkN t.n:=by rw [← hok.st]; exact Nat.left_le_or
 have h32:2 ^ t.n≤32:=Nat.pow_le_pow_right (n:=2) (by decide) hn.2;have hm:mkN t.n≤62:=by unfold mkN; omega
 have h62:∀ c:Cu,InM 62 c→c.1<256∧c.2<256:=fun c hc=>by
  have h1:c.1≤62:=by rw [← hc.1]; exact Nat.left_le_or
  have h2:c.2≤62:=by rw [← hc.2]; exact Nat.left_le_or
  omega
 refine⟨by omega,by omega,fun r hr=>?_,fun c hc=>h62 c (hok.nv c hc).2,fun c hc=>h62 c (hok.gl c hc).2,fun p hp=>?_,?_,by have:=h.rs; omega,by have:=h.nv; omega,by have:=h.gl; omega⟩
 · have hro := hok.rs r hr;have:=h62 _ hro.m;have:=hro.tg;omega
 · have := hok.lk p hp;omega
 · have := Zfm t.l 0 hok.good.asc fun p hp => by
    have:=hok.good.role p hp;have:=hok.lk p hp;omega
   omega
def byC (x:Nat):List PV := [.val (.int .u8 (x:Int))]
abbrev RawZ:=Bool×List Nat×Bool×List RawX×Bool×Bool
def rawZ (z:RawZ):List PV := [.val (.bool z.1),.vec (bys z.2.1) z.2.2.1,.vec (z.2.2.2.1.map rawC) z.2.2.2.2.1,.val (.bool z.2.2.2.2.2)]
def RawZok (z:RawZ):Prop:=Bytes z.2.1∧∀ x∈z.2.2.2.1,RawXok x
theorem Z6J (z:RawZ):pureL (rawZ z):=⟨Yt,Zd _,Za (enc:=rawC) (fun _=>⟨Yt,Yt,Yt,Yt⟩) _,Yt,Yt⟩
def FitR (b:Bool) (r:PV):Prop:=∃ (p:List Nat) (fp:Bool) (l:List Cu) (fl:Bool),FormC b p l∧p.length≤8∧l.length≤6∧(∀ c∈l,Ok64 c)∧r=.tup [.vec (inL p) fp,.vec (l.map raC) fl]
theorem Z9y (l:List Nat) (k:Nat):inL l ++ [inC1 k]=inL (l ++ [k]):=by simp [inL]
theorem Z4Y (l:List Cu) (c:Cu):l.map raC ++ [raC c]=(l ++ [c]).map raC:=by simp
theorem Zdk {t:PB} (h:PbOk t) (hn:2≤t.n∧t.n≤5) (z:RawZ) (hz:RawZok z):Spec Tryz.prog 22 [.agg (pbR t),.agg (rawZ z)] (FitR z.1):=by
 obtain⟨b,bp,f1,rw',f2,od⟩:=z;obtain⟨hbp,hrw⟩:=hz;dsimp only at hbp hrw ⊢;have hpp:=Z11 t;have hzp:=Z6J (b,bp,f1,rw',f2,od);have hrb:=h.rl;have hrl:=Z3X t.rs;have hpc:∀ D,innL D (pbR t):=fun D=>Zm (fun _ h=>h.elim) _ hpp;have hzc:∀ D,innL D (rawZ (b,bp,f1,rw',f2,od)):=fun D=>Zm (fun _ h=>h.elim) _ hzp;have hbl:(bys bp).length=bp.length:=by simp [bys]
 have hrwl:(rw'.map rawC).length=rw'.length:=by simp
 have hml:=Z6o h.n.2;refine Yp ok22 fun C hC=>?_;refine Zs ?_;refine Zc ?_;refine Z4 rfl rfl rfl ?_;refine Z4 rfl rfl rfl ?_;(repeat'(first|refine Zj 19 ?_|refine Zb 19 ?_|refine st ?_|(apply B<;>intro hb<;>try cases hb)))<;>try refine At.mk ?_
 refine Z0 rfl rfl rfl ?_;refine Z1m ?_;refine Z3m rfl (fun hx=>?_) (fun hx=>?_)
 · (repeat'(first|refine Zj 21 ?_|refine Zb 21 ?_|refine st ?_|(apply B<;>intro hb<;>try cases hb)))<;>try refine At.mk ?_
   refine Z8 (v:=((t.rs.length+2:Nat):Int)) rfl rfl rfl (by rw [hrl]; exact Y0v _ ⟨by omega,by omega⟩) ?_;(repeat'(first|refine Zj 27 ?_|refine Zb 27 ?_|refine st ?_|(apply B<;>intro hb<;>try cases hb)))<;>try refine At.mk ?_
   have hN:t.rs.length+2≤100:=by omega
   generalize t.rs.length+2=N at hN;refine Z8 (v:=((min bp.length 8:Nat):Int)) rfl rfl rfl (by rw [hbl]; split<;>omega) ?_;refine Z0 (Z8M (xs:=bp) (g:=byC) rfl 0 (min bp.length 8) rfl rfl (Y0l _) (Nat.min_le_left _ _) (fun _=>rfl)) rfl rfl ?_;rw [List.drop_zero];have hPl:(bp.take (min bp.length 8)).length≤8:=by rw [Y0o]; omega
   have hP:∀ x∈bp.take (min bp.length 8),x≤255:=fun x hx=>hbp x (List.mem_of_mem_take hx);generalize bp.take (min bp.length 8)=P at hPl hP;have hPm:(P.map byC).length=P.length:=by simp
   have hPp:∀ D,innLL D (P.map byC):=fun D=>Z9 (fun _ h=>h.elim) _ (Za (enc:=byC) (fun _=>⟨Yt,Yt⟩) P)
   repeat' (first|refine Zi (Zv (k:=6) rfl 1 (by decide)) ?_|(first|refine st ?_|(apply B<;>intro hb<;>try cases hb)))
   refine ZJ hC (fun (z:Nat×List Nat)=>z.1≤P.length∧z.2.length≤z.1) (fun z=>P.length-z.1) 1 (fun z => [(2,.cp (pbR t)),(3,.cp (rawZ (b,bp,f1,rw',f2,od))),(6,.own 0),(7,.vec [] true),(8,.val (.int .i64 (N:Int))),(28,.vec (P.map byC) false),(29,.val (.int .i64 (P.length:Int))),(30,Yv z.1)]) (fun z => [(0,⟨1,inL z.2⟩)]) (Y0l _) (0,[]) ⟨Y0l _,Y0l _⟩ (fun i=>i) (fun _ _=>rfl) Zu
    ⟨⟨_,rfl,.pure _ hpp⟩,⟨_,rfl,.pure _ hzp⟩,⟨_,rfl,.own (ρ:=fun i=>i) 0 (by decide)⟩,⟨_,rfl,.pure _ Yt⟩,⟨_,rfl,.pure _ Yt⟩,⟨_,rfl,.pure _ (hPp _)⟩,⟨_,by show some _=some _; rw [← hPm],.pure _ Yt⟩,⟨_,rfl,.pure _ Yt⟩,Yt⟩ ⟨⟨by decide,_,rfl,.same _ Yt⟩,Yt⟩ ?_
   rintro⟨i,out⟩ ⟨hi,ho⟩;dsimp only at hi ho ⊢;have hinc:IntKind.i64.wrap ((i:Int)+1)=((i+1:Nat):Int):=Y0v _ ⟨by omega,by omega⟩;(repeat'(first|refine Zj 31 ?_|refine Zb 31 ?_|refine st ?_|(apply B<;>intro hb<;>try cases hb)))<;>try refine At.mk ?_
   by_cases hil:i<P.length
   · refine Z0 (Z1 (v := true) rfl (decide_eq_true (Int.ofNat_lt.2 hil))) rfl rfl ?_;have hx2:=hP _ (Y0j hil);(repeat'(first|refine Zj 32 ?_|refine Zb 32 ?_|refine st ?_|(apply B<;>intro hb<;>try cases hb)))<;>try refine At.mk ?_
     refine Z0 (Zo (xs:=P) (g:=byC) rfl rfl i rfl hil rfl) rfl rfl ?_;generalize P[i]=x at hx2 ⊢;(repeat'(first|refine Zj 35 ?_|refine Zb 35 ?_|refine st ?_|(apply B<;>intro hb<;>try cases hb)))<;>try refine At.mk ?_
     by_cases hN0:N=0
     · refine Z0 (Z1 (v := false) rfl (Y0w (by omega))) rfl rfl ?_;(refine go ?_;repeat' (apply B<;>intro hb<;>try cases hb))
       exact⟨(i+1,out),fun i=>i,⟨hil,by dsimp only; omega⟩,by show P.length-(i+1)<P.length-i; omega,fun _ _=>rfl,Zu,
        ⟨⟨_,rfl,.pure _ hpp⟩,⟨_,rfl,.pure _ hzp⟩,⟨_,rfl,.own (ρ:=fun i=>i) 0 (by decide)⟩,⟨_,rfl,.pure _ Yt⟩,⟨_,rfl,.pure _ Yt⟩,⟨_,rfl,.pure _ (hPp _)⟩,⟨_,rfl,.pure _ Yt⟩,⟨_,by show some _=some _; rw [hinc],.pure _ Yt⟩,Yt⟩,⟨⟨by decide,_,rfl,.same _ (Zz _)⟩,Yt⟩⟩
     refine Z0 (Z1 (v:=true) rfl (decide_eq_true (by omega))) rfl rfl ?_;(repeat'(first|refine Zj 38 ?_|refine Zb 38 ?_|refine st ?_|(apply B<;>intro hb<;>try cases hb)))<;>try refine At.mk ?_
     refine Z8 (v:=(x:Int)) rfl rfl rfl (Y0v _ ⟨by omega,by omega⟩) ?_;(repeat'(first|refine Zj 40 ?_|refine Zb 40 ?_|refine st ?_|(apply B<;>intro hb<;>try cases hb)))<;>try refine At.mk ?_
     refine Z8 (v:=((x % N:Nat):Int)) (ZbE rfl rfl (by omega)) rfl rfl (Int.ofNat_tmod x N).symm ?_;(repeat'(first|refine Zj 42 ?_|refine Zb 42 ?_|refine st ?_|(apply B<;>intro hb<;>try cases hb)))<;>try refine At.mk ?_
     refine ZD (ZB (k:=0) (m := [inC1 (x % N)]) (fl:=true) rfl rfl rfl (fun q hq=>by rw [Y0g] at hq; subst hq; rfl) rfl (by
      show ((inL out).length+1)*8≤_
      rw [Z3z];omega)) rfl rfl ?_
     simp only;rw [Z9y];(refine go ?_;repeat' (apply B<;>intro hb<;>try cases hb))
     exact⟨(i+1,out ++ [x % N]),mv 0 1,⟨hil,by dsimp only; rw [Y0e,Y0s]; omega⟩,by show P.length-(i+1)<P.length-i; omega,fun i hi=>absurd hi (Nat.not_lt_zero i),Zw rfl,
      ⟨⟨_,rfl,.pure _ hpp⟩,⟨_,rfl,.pure _ hzp⟩,⟨_,rfl,.own (ρ:=mv 0 1) 0 (by decide)⟩,⟨_,rfl,.pure _ Yt⟩,⟨_,rfl,.pure _ Yt⟩,⟨_,rfl,.pure _ (hPp _)⟩,⟨_,rfl,.pure _ Yt⟩,⟨_,by show some _=some _; rw [hinc],.pure _ Yt⟩,Yt⟩,⟨⟨by decide,_,rfl,.same _ (Zz _)⟩,Yt⟩⟩
   refine Z0 (Z1 (v:=false) rfl (Y0w (by omega))) rfl rfl ?_;have hol:out.length≤8:=by omega
   clear ho hil hinc hi hPp hPm hPl hP;(repeat'(first|refine Zj 44 ?_|refine Zb 44 ?_|refine st ?_|(apply B<;>intro hb<;>try cases hb)))<;>try refine At.mk ?_
   refine Zi (Zq (k:=6) (id:=0) (b:=⟨1,inL out⟩) rfl rfl (Zz _)) ?_;(repeat'(first|refine Zj 46 ?_|refine Zb 46 ?_|refine st ?_|(apply B<;>intro hb<;>try cases hb)))<;>try refine At.mk ?_
   refine Z2B rfl rfl (by omega) (v:=((2*2 ^ t.n:Nat):Int)) (by
    have:t.n=2 ∨ t.n=3 ∨ t.n=4 ∨ t.n=5:=by omega
    rcases this with e|e|e|e<;>rw [e]<;>decide) rfl ?_
   refine Z8 (v:=((mkN t.n:Nat):Int)) rfl rfl rfl (by
    have h2:=Nat.two_pow_pos t.n;rw [show ((2*2 ^ t.n:Nat):Int)-2=((mkN t.n:Nat):Int) by unfold mkN; omega]
    exact Y0x _ ⟨by omega,by omega⟩) ?_
   (repeat'(first|refine Zj 53 ?_|refine Zb 53 ?_|refine st ?_|(apply B<;>intro hb<;>try cases hb)))<;>try refine At.mk ?_
   refine Z8 (v:=((min rw'.length 6:Nat):Int)) rfl rfl rfl (by rw [hrwl]; split<;>omega) ?_;refine Z0 (Z8M (xs:=rw') (g:=rawC) rfl 0 (min rw'.length 6) rfl rfl (Y0l _) (Nat.min_le_left _ _) (fun _=>rfl)) rfl rfl ?_;rw [List.drop_zero];have hQl:(rw'.take (min rw'.length 6)).length≤6:=by rw [Y0o]; omega
   have hQ:∀ x∈rw'.take (min rw'.length 6),RawXok x:=fun x hx=>hrw x (List.mem_of_mem_take hx);generalize rw'.take (min rw'.length 6)=Q at hQl hQ;have hQm:(Q.map rawC).length=Q.length:=by simp
   have hQp:∀ D,innLL D (Q.map rawC):=fun D=>Z9 (fun _ h=>h.elim) _ (Za (enc:=rawC) (fun _=>⟨Yt,Yt,Yt,Yt⟩) Q)
   repeat' (first|refine Zi (Zv (k:=7) rfl 2 (by decide)) ?_|(first|refine st ?_|(apply B<;>intro hb<;>try cases hb)))
   refine ZJ hC (fun (z:Nat×List Cu)=>z.1≤Q.length∧z.2.length≤z.1∧∀ c∈z.2,Ok64 c) (fun z=>Q.length-z.1) 1 (fun z => [(3,.cp (rawZ (b,bp,f1,rw',f2,od))),(6,.vec (inL out) false),(7,.own 0),(11,.val (.int .u64 ((mkN t.n:Nat):Int))),(54,.vec (Q.map rawC) false),(55,.val (.int .i64 (Q.length:Int))),(56,Yv z.1)]) (fun z => [(0,⟨2,z.2.map raC⟩)]) (Y0l _) (0,[]) ⟨Y0l _,Y0l _,(fun c hc=>by cases hc)⟩ (mv 0 1) (fun i hi=>absurd hi (Nat.not_lt_zero i)) (Zw rfl)
    ⟨⟨_,rfl,.pure _ hzp⟩,⟨_,rfl,.pure _ (Zz _)⟩,⟨_,rfl,.own (ρ:=mv 0 1) 0 (by decide)⟩,⟨_,rfl,.pure _ Yt⟩,⟨_,rfl,.pure _ (hQp _)⟩,⟨_,by show some _=some _; rw [← hQm]; rfl,.pure _ Yt⟩,⟨_,rfl,.pure _ Yt⟩,Yt⟩ ⟨⟨by decide,_,rfl,.same _ Yt⟩,Yt⟩ ?_
   clear i;rintro⟨i,l⟩ ⟨hi,hll,hl⟩;dsimp only at hi hll hl ⊢;have hinc:IntKind.i64.wrap ((i:Int)+1)=((i+1:Nat):Int):=Y0v _ ⟨by omega,by omega⟩;(repeat'(first|refine Zj 57 ?_|refine Zb 57 ?_|refine st ?_|(apply B<;>intro hb<;>try cases hb)))<;>try refine At.mk ?_
   by_cases hil:i<Q.length
   case neg =>
    refine Z0 (Z1 (v:=false) rfl (Y0w (by omega))) rfl rfl ?_;cases b
    · repeat' (first | refine Zi (Zq (k := 7) (id := 0) (b := ⟨2, l.map raC⟩) rfl rfl (Z13 _)) ?_ | (first|refine st ?_|(apply B<;>intro hb<;>try cases hb)))
      exact Z5 rfl ⟨Yt,Z13 l,Yt⟩ ⟨[],true,l,false,.inr ⟨rfl,rfl⟩,Y0l _,by omega,hl,rfl⟩
    · (refine go ?_;repeat' (apply B<;>intro hb<;>try cases hb));exact Z5 rfl ⟨Zz _,Yt,Yt⟩ ⟨out,false,[],true,.inl ⟨rfl,rfl⟩,hol,Y0l _,(fun c hc=>by cases hc),rfl⟩
   refine Z0 (Z1 (v:=true) rfl (decide_eq_true (Int.ofNat_lt.2 hil))) rfl rfl ?_;have hx2:=hQ _ (Y0j hil);(repeat'(first|refine Zj 58 ?_|refine Zb 58 ?_|refine st ?_|(apply B<;>intro hb<;>try cases hb)))<;>try refine At.mk ?_
   refine Z0 (Zo (xs:=Q) (g:=rawC) rfl rfl i rfl hil rfl) rfl rfl ?_;generalize Q[i]=x at hx2 ⊢;have hmk:=Z5v x.1 x.2.1 hx2.1 hx2.2;have hc64:=(Zfk hx2.1 hx2.2).lt (by decide);(repeat'(first|refine Zj 64 ?_|refine Zb 64 ?_|refine st ?_|(apply B<;>intro hb<;>try cases hb)))<;>try refine At.mk ?_
   refine Z6 hmk rfl rfl rfl ⟨Yt,Yt,Yt⟩ rfl ?_;generalize makC x.1 x.2.1=c at hc64;cases od
   · (repeat'(first|refine Zj 71 ?_|refine Zb 71 ?_|refine st ?_|(apply B<;>intro hb<;>try cases hb)))<;>try refine At.mk ?_
     refine Z8 rfl rfl rfl (bits_and_u64_nat c.1 (mkN t.n) hc64.1 hml) ?_;(repeat'(first|refine Zj 75 ?_|refine Zb 75 ?_|refine st ?_|(apply B<;>intro hb<;>try cases hb)))<;>try refine At.mk ?_
     refine Z8 rfl rfl rfl (bits_and_u64_nat c.2 (mkN t.n) hc64.2 hml) ?_;have hd:Ok64 ((c.1 &&& mkN t.n,c.2 &&& mkN t.n):Cu):=⟨Y02 Nat.and_le_left hc64.1,Y02 Nat.and_le_left hc64.2⟩
     (repeat'(first|refine Zj 80 ?_|refine Zb 80 ?_|refine st ?_|(apply B<;>intro hb<;>try cases hb)))<;>try refine At.mk ?_
     refine ZD (ZB (k:=0) (m := [raC (c.1 &&& mkN t.n,c.2 &&& mkN t.n)]) (fl:=true) rfl rfl rfl (fun q hq=>by rw [Y0g] at hq; subst hq; rfl) rfl (by
      show ((l.map raC).length+1)*16≤_
      rw [Y0f];omega)) rfl rfl ?_
     simp only;rw [Z4Y];(refine go ?_;repeat' (apply B<;>intro hb<;>try cases hb))
     exact⟨(i+1,l ++ [(c.1 &&& mkN t.n,c.2 &&& mkN t.n)]),mv 0 3,⟨hil,by dsimp only; rw [Y0e,Y0s]; omega,fun d hd'=>(Y0h.1 hd').elim (hl d) fun hd'=>by rw [Y0g] at hd'; subst hd'; exact hd⟩,by show Q.length-(i+1)<Q.length-i; omega,fun i hi=>absurd hi (Nat.not_lt_zero i),Zw rfl,
      ⟨⟨_,rfl,.pure _ hzp⟩,⟨_,rfl,.pure _ (Zz _)⟩,⟨_,rfl,.own (ρ:=mv 0 3) 0 (by decide)⟩,⟨_,rfl,.pure _ Yt⟩,⟨_,rfl,.pure _ (hQp _)⟩,⟨_,rfl,.pure _ Yt⟩,⟨_,by show some _=some _; rw [hinc],.pure _ Yt⟩,Yt⟩,⟨⟨by decide,_,rfl,.same _ (Z13 _)⟩,Yt⟩⟩
   · have hd := hc64;(repeat'(first|refine Zj 80 ?_|refine Zb 80 ?_|refine st ?_|(apply B<;>intro hb<;>try cases hb)))<;>try refine At.mk ?_
     refine ZD (ZB (k:=0) (m := [raC (c.1,c.2)]) (fl:=true) rfl rfl rfl (fun q hq=>by rw [Y0g] at hq; subst hq; rfl) rfl (by
      show ((l.map raC).length+1)*16≤_
      rw [Y0f];omega)) rfl rfl ?_
     simp only;rw [Z4Y];(refine go ?_;repeat' (apply B<;>intro hb<;>try cases hb))
     exact⟨(i+1,l ++ [(c.1,c.2)]),mv 0 3,⟨hil,by dsimp only; rw [Y0e,Y0s]; omega,fun d hd'=>(Y0h.1 hd').elim (hl d) fun hd'=>by rw [Y0g] at hd'; subst hd'; exact hd⟩,by show Q.length-(i+1)<Q.length-i; omega,fun i hi=>absurd hi (Nat.not_lt_zero i),Zw rfl,
      ⟨⟨_,rfl,.pure _ hzp⟩,⟨_,rfl,.pure _ (Zz _)⟩,⟨_,rfl,.own (ρ:=mv 0 3) 0 (by decide)⟩,⟨_,rfl,.pure _ Yt⟩,⟨_,rfl,.pure _ (hQp _)⟩,⟨_,rfl,.pure _ Yt⟩,⟨_,by show some _=some _; rw [hinc],.pure _ Yt⟩,Yt⟩,⟨⟨by decide,_,rfl,.same _ (Z13 _)⟩,Yt⟩⟩
 · (repeat'(first|refine Zj 27 ?_|refine Zb 27 ?_|refine st ?_|(apply B<;>intro hb<;>try cases hb)))<;>try refine At.mk ?_
   rw [hrl];have hN:t.rs.length≤100:=by omega
   generalize t.rs.length=N at hN;refine Z8 (v:=((min bp.length 8:Nat):Int)) rfl rfl rfl (by rw [hbl]; split<;>omega) ?_;refine Z0 (Z8M (xs:=bp) (g:=byC) rfl 0 (min bp.length 8) rfl rfl (Y0l _) (Nat.min_le_left _ _) (fun _=>rfl)) rfl rfl ?_;rw [List.drop_zero];have hPl:(bp.take (min bp.length 8)).length≤8:=by rw [Y0o]; omega
   have hP:∀ x∈bp.take (min bp.length 8),x≤255:=fun x hx=>hbp x (List.mem_of_mem_take hx);generalize bp.take (min bp.length 8)=P at hPl hP;have hPm:(P.map byC).length=P.length:=by simp
   have hPp:∀ D,innLL D (P.map byC):=fun D=>Z9 (fun _ h=>h.elim) _ (Za (enc:=byC) (fun _=>⟨Yt,Yt⟩) P)
   repeat' (first|refine Zi (Zv (k:=6) rfl 1 (by decide)) ?_|(first|refine st ?_|(apply B<;>intro hb<;>try cases hb)))
   refine ZJ hC (fun (z:Nat×List Nat)=>z.1≤P.length∧z.2.length≤z.1) (fun z=>P.length-z.1) 1 (fun z => [(2,.cp (pbR t)),(3,.cp (rawZ (b,bp,f1,rw',f2,od))),(6,.own 0),(7,.vec [] true),(8,.val (.int .i64 (N:Int))),(28,.vec (P.map byC) false),(29,.val (.int .i64 (P.length:Int))),(30,Yv z.1)]) (fun z => [(0,⟨1,inL z.2⟩)]) (Y0l _) (0,[]) ⟨Y0l _,Y0l _⟩ (fun i=>i) (fun _ _=>rfl) Zu
    ⟨⟨_,rfl,.pure _ hpp⟩,⟨_,rfl,.pure _ hzp⟩,⟨_,rfl,.own (ρ:=fun i=>i) 0 (by decide)⟩,⟨_,rfl,.pure _ Yt⟩,⟨_,rfl,.pure _ Yt⟩,⟨_,rfl,.pure _ (hPp _)⟩,⟨_,by show some _=some _; rw [← hPm],.pure _ Yt⟩,⟨_,rfl,.pure _ Yt⟩,Yt⟩ ⟨⟨by decide,_,rfl,.same _ Yt⟩,Yt⟩ ?_
   rintro⟨i,out⟩ ⟨hi,ho⟩;dsimp only at hi ho ⊢;have hinc:IntKind.i64.wrap ((i:Int)+1)=((i+1:Nat):Int):=Y0v _ ⟨by omega,by omega⟩;(repeat'(first|refine Zj 31 ?_|refine Zb 31 ?_|refine st ?_|(apply B<;>intro hb<;>try cases hb)))<;>try refine At.mk ?_
   by_cases hil:i<P.length
   · refine Z0 (Z1 (v := true) rfl (decide_eq_true (Int.ofNat_lt.2 hil))) rfl rfl ?_;have hx2:=hP _ (Y0j hil);(repeat'(first|refine Zj 32 ?_|refine Zb 32 ?_|refine st ?_|(apply B<;>intro hb<;>try cases hb)))<;>try refine At.mk ?_
     refine Z0 (Zo (xs:=P) (g:=byC) rfl rfl i rfl hil rfl) rfl rfl ?_;generalize P[i]=x at hx2 ⊢;(repeat'(first|refine Zj 35 ?_|refine Zb 35 ?_|refine st ?_|(apply B<;>intro hb<;>try cases hb)))<;>try refine At.mk ?_
     by_cases hN0:N=0
     · refine Z0 (Z1 (v := false) rfl (Y0w (by omega))) rfl rfl ?_;(refine go ?_;repeat' (apply B<;>intro hb<;>try cases hb))
       exact⟨(i+1,out),fun i=>i,⟨hil,by dsimp only; omega⟩,by show P.length-(i+1)<P.length-i; omega,fun _ _=>rfl,Zu,
        ⟨⟨_,rfl,.pure _ hpp⟩,⟨_,rfl,.pure _ hzp⟩,⟨_,rfl,.own (ρ:=fun i=>i) 0 (by decide)⟩,⟨_,rfl,.pure _ Yt⟩,⟨_,rfl,.pure _ Yt⟩,⟨_,rfl,.pure _ (hPp _)⟩,⟨_,rfl,.pure _ Yt⟩,⟨_,by show some _=some _; rw [hinc],.pure _ Yt⟩,Yt⟩,⟨⟨by decide,_,rfl,.same _ (Zz _)⟩,Yt⟩⟩
     refine Z0 (Z1 (v:=true) rfl (decide_eq_true (by omega))) rfl rfl ?_;(repeat'(first|refine Zj 38 ?_|refine Zb 38 ?_|refine st ?_|(apply B<;>intro hb<;>try cases hb)))<;>try refine At.mk ?_
     refine Z8 (v:=(x:Int)) rfl rfl rfl (Y0v _ ⟨by omega,by omega⟩) ?_;(repeat'(first|refine Zj 40 ?_|refine Zb 40 ?_|refine st ?_|(apply B<;>intro hb<;>try cases hb)))<;>try refine At.mk ?_
     refine Z8 (v:=((x % N:Nat):Int)) (ZbE rfl rfl (by omega)) rfl rfl (Int.ofNat_tmod x N).symm ?_;(repeat'(first|refine Zj 42 ?_|refine Zb 42 ?_|refine st ?_|(apply B<;>intro hb<;>try cases hb)))<;>try refine At.mk ?_
     refine ZD (ZB (k:=0) (m := [inC1 (x % N)]) (fl:=true) rfl rfl rfl (fun q hq=>by rw [Y0g] at hq; subst hq; rfl) rfl (by
      show ((inL out).length+1)*8≤_
      rw [Z3z];omega)) rfl rfl ?_
     simp only;rw [Z9y];(refine go ?_;repeat' (apply B<;>intro hb<;>try cases hb))
     exact⟨(i+1,out ++ [x % N]),mv 0 1,⟨hil,by dsimp only; rw [Y0e,Y0s]; omega⟩,by show P.length-(i+1)<P.length-i; omega,fun i hi=>absurd hi (Nat.not_lt_zero i),Zw rfl,
      ⟨⟨_,rfl,.pure _ hpp⟩,⟨_,rfl,.pure _ hzp⟩,⟨_,rfl,.own (ρ:=mv 0 1) 0 (by decide)⟩,⟨_,rfl,.pure _ Yt⟩,⟨_,rfl,.pure _ Yt⟩,⟨_,rfl,.pure _ (hPp _)⟩,⟨_,rfl,.pure _ Yt⟩,⟨_,by show some _=some _; rw [hinc],.pure _ Yt⟩,Yt⟩,⟨⟨by decide,_,rfl,.same _ (Zz _)⟩,Yt⟩⟩
   refine Z0 (Z1 (v:=false) rfl (Y0w (by omega))) rfl rfl ?_;have hol:out.length≤8:=by omega
   clear ho hil hinc hi hPp hPm hPl hP;(repeat'(first|refine Zj 44 ?_|refine Zb 44 ?_|refine st ?_|(apply B<;>intro hb<;>try cases hb)))<;>try refine At.mk ?_
   refine Zi (Zq (k:=6) (id:=0) (b:=⟨1,inL out⟩) rfl rfl (Zz _)) ?_;(repeat'(first|refine Zj 46 ?_|refine Zb 46 ?_|refine st ?_|(apply B<;>intro hb<;>try cases hb)))<;>try refine At.mk ?_
   refine Z2B rfl rfl (by omega) (v:=((2*2 ^ t.n:Nat):Int)) (by
    have:t.n=2 ∨ t.n=3 ∨ t.n=4 ∨ t.n=5:=by omega
    rcases this with e|e|e|e<;>rw [e]<;>decide) rfl ?_
   refine Z8 (v:=((mkN t.n:Nat):Int)) rfl rfl rfl (by
    have h2:=Nat.two_pow_pos t.n;rw [show ((2*2 ^ t.n:Nat):Int)-2=((mkN t.n:Nat):Int) by unfold mkN; omega]
    exact Y0x _ ⟨by omega,by omega⟩) ?_
   (repeat'(first|refine Zj 53 ?_|refine Zb 53 ?_|refine st ?_|(apply B<;>intro hb<;>try cases hb)))<;>try refine At.mk ?_
   refine Z8 (v:=((min rw'.length 6:Nat):Int)) rfl rfl rfl (by rw [hrwl]; split<;>omega) ?_;refine Z0 (Z8M (xs:=rw') (g:=rawC) rfl 0 (min rw'.length 6) rfl rfl (Y0l _) (Nat.min_le_left _ _) (fun _=>rfl)) rfl rfl ?_;rw [List.drop_zero];have hQl:(rw'.take (min rw'.length 6)).length≤6:=by rw [Y0o]; omega
   have hQ:∀ x∈rw'.take (min rw'.length 6),RawXok x:=fun x hx=>hrw x (List.mem_of_mem_take hx);generalize rw'.take (min rw'.length 6)=Q at hQl hQ;have hQm:(Q.map rawC).length=Q.length:=by simp
   have hQp:∀ D,innLL D (Q.map rawC):=fun D=>Z9 (fun _ h=>h.elim) _ (Za (enc:=rawC) (fun _=>⟨Yt,Yt,Yt,Yt⟩) Q)
   repeat' (first|refine Zi (Zv (k:=7) rfl 2 (by decide)) ?_|(first|refine st ?_|(apply B<;>intro hb<;>try cases hb)))
   refine ZJ hC (fun (z:Nat×List Cu)=>z.1≤Q.length∧z.2.length≤z.1∧∀ c∈z.2,Ok64 c) (fun z=>Q.length-z.1) 1 (fun z => [(3,.cp (rawZ (b,bp,f1,rw',f2,od))),(6,.vec (inL out) false),(7,.own 0),(11,.val (.int .u64 ((mkN t.n:Nat):Int))),(54,.vec (Q.map rawC) false),(55,.val (.int .i64 (Q.length:Int))),(56,Yv z.1)]) (fun z => [(0,⟨2,z.2.map raC⟩)]) (Y0l _) (0,[]) ⟨Y0l _,Y0l _,(fun c hc=>by cases hc)⟩ (mv 0 1) (fun i hi=>absurd hi (Nat.not_lt_zero i)) (Zw rfl)
    ⟨⟨_,rfl,.pure _ hzp⟩,⟨_,rfl,.pure _ (Zz _)⟩,⟨_,rfl,.own (ρ:=mv 0 1) 0 (by decide)⟩,⟨_,rfl,.pure _ Yt⟩,⟨_,rfl,.pure _ (hQp _)⟩,⟨_,by show some _=some _; rw [← hQm]; rfl,.pure _ Yt⟩,⟨_,rfl,.pure _ Yt⟩,Yt⟩ ⟨⟨by decide,_,rfl,.same _ Yt⟩,Yt⟩ ?_
   clear i;rintro⟨i,l⟩ ⟨hi,hll,hl⟩;dsimp only at hi hll hl ⊢;have hinc:IntKind.i64.wrap ((i:Int)+1)=((i+1:Nat):Int):=Y0v _ ⟨by omega,by omega⟩;(repeat'(first|refine Zj 57 ?_|refine Zb 57 ?_|refine st ?_|(apply B<;>intro hb<;>try cases hb)))<;>try refine At.mk ?_
   by_cases hil:i<Q.length
   case neg =>
    refine Z0 (Z1 (v:=false) rfl (Y0w (by omega))) rfl rfl ?_;cases b
    · repeat' (first | refine Zi (Zq (k := 7) (id := 0) (b := ⟨2, l.map raC⟩) rfl rfl (Z13 _)) ?_ | (first|refine st ?_|(apply B<;>intro hb<;>try cases hb)))
      exact Z5 rfl ⟨Yt,Z13 l,Yt⟩ ⟨[],true,l,false,.inr ⟨rfl,rfl⟩,Y0l _,by omega,hl,rfl⟩
    · (refine go ?_;repeat' (apply B<;>intro hb<;>try cases hb));exact Z5 rfl ⟨Zz _,Yt,Yt⟩ ⟨out,false,[],true,.inl ⟨rfl,rfl⟩,hol,Y0l _,(fun c hc=>by cases hc),rfl⟩
   refine Z0 (Z1 (v:=true) rfl (decide_eq_true (Int.ofNat_lt.2 hil))) rfl rfl ?_;have hx2:=hQ _ (Y0j hil);(repeat'(first|refine Zj 58 ?_|refine Zb 58 ?_|refine st ?_|(apply B<;>intro hb<;>try cases hb)))<;>try refine At.mk ?_
   refine Z0 (Zo (xs:=Q) (g:=rawC) rfl rfl i rfl hil rfl) rfl rfl ?_;generalize Q[i]=x at hx2 ⊢;have hmk:=Z5v x.1 x.2.1 hx2.1 hx2.2;have hc64:=(Zfk hx2.1 hx2.2).lt (by decide);(repeat'(first|refine Zj 64 ?_|refine Zb 64 ?_|refine st ?_|(apply B<;>intro hb<;>try cases hb)))<;>try refine At.mk ?_
   refine Z6 hmk rfl rfl rfl ⟨Yt,Yt,Yt⟩ rfl ?_;generalize makC x.1 x.2.1=c at hc64;cases od
   · (repeat'(first|refine Zj 71 ?_|refine Zb 71 ?_|refine st ?_|(apply B<;>intro hb<;>try cases hb)))<;>try refine At.mk ?_
     refine Z8 rfl rfl rfl (bits_and_u64_nat c.1 (mkN t.n) hc64.1 hml) ?_;(repeat'(first|refine Zj 75 ?_|refine Zb 75 ?_|refine st ?_|(apply B<;>intro hb<;>try cases hb)))<;>try refine At.mk ?_
     refine Z8 rfl rfl rfl (bits_and_u64_nat c.2 (mkN t.n) hc64.2 hml) ?_;have hd:Ok64 ((c.1 &&& mkN t.n,c.2 &&& mkN t.n):Cu):=⟨Y02 Nat.and_le_left hc64.1,Y02 Nat.and_le_left hc64.2⟩
     (repeat'(first|refine Zj 80 ?_|refine Zb 80 ?_|refine st ?_|(apply B<;>intro hb<;>try cases hb)))<;>try refine At.mk ?_
     refine ZD (ZB (k:=0) (m := [raC (c.1 &&& mkN t.n,c.2 &&& mkN t.n)]) (fl:=true) rfl rfl rfl (fun q hq=>by rw [Y0g] at hq; subst hq; rfl) rfl (by
      show ((l.map raC).length+1)*16≤_
      rw [Y0f];omega)) rfl rfl ?_
     simp only;rw [Z4Y];(refine go ?_;repeat' (apply B<;>intro hb<;>try cases hb))
     exact⟨(i+1,l ++ [(c.1 &&& mkN t.n,c.2 &&& mkN t.n)]),mv 0 3,⟨hil,by dsimp only; rw [Y0e,Y0s]; omega,fun d hd'=>(Y0h.1 hd').elim (hl d) fun hd'=>by rw [Y0g] at hd'; subst hd'; exact hd⟩,by show Q.length-(i+1)<Q.length-i; omega,fun i hi=>absurd hi (Nat.not_lt_zero i),Zw rfl,
      ⟨⟨_,rfl,.pure _ hzp⟩,⟨_,rfl,.pure _ (Zz _)⟩,⟨_,rfl,.own (ρ:=mv 0 3) 0 (by decide)⟩,⟨_,rfl,.pure _ Yt⟩,⟨_,rfl,.pure _ (hQp _)⟩,⟨_,rfl,.pure _ Yt⟩,⟨_,by show some _=some _; rw [hinc],.pure _ Yt⟩,Yt⟩,⟨⟨by decide,_,rfl,.same _ (Z13 _)⟩,Yt⟩⟩
   · have hd := hc64;(repeat'(first|refine Zj 80 ?_|refine Zb 80 ?_|refine st ?_|(apply B<;>intro hb<;>try cases hb)))<;>try refine At.mk ?_
     refine ZD (ZB (k:=0) (m := [raC (c.1,c.2)]) (fl:=true) rfl rfl rfl (fun q hq=>by rw [Y0g] at hq; subst hq; rfl) rfl (by
      show ((l.map raC).length+1)*16≤_
      rw [Y0f];omega)) rfl rfl ?_
     simp only;rw [Z4Y];(refine go ?_;repeat' (apply B<;>intro hb<;>try cases hb))
     exact⟨(i+1,l ++ [(c.1,c.2)]),mv 0 3,⟨hil,by dsimp only; rw [Y0e,Y0s]; omega,fun d hd'=>(Y0h.1 hd').elim (hl d) fun hd'=>by rw [Y0g] at hd'; subst hd'; exact hd⟩,by show Q.length-(i+1)<Q.length-i; omega,fun i hi=>absurd hi (Nat.not_lt_zero i),Zw rfl,
      ⟨⟨_,rfl,.pure _ hzp⟩,⟨_,rfl,.pure _ (Zz _)⟩,⟨_,rfl,.own (ρ:=mv 0 3) 0 (by decide)⟩,⟨_,rfl,.pure _ Yt⟩,⟨_,rfl,.pure _ (hQp _)⟩,⟨_,rfl,.pure _ Yt⟩,⟨_,by show some _=some _; rw [hinc],.pure _ Yt⟩,Yt⟩,⟨⟨by decide,_,rfl,.same _ (Z13 _)⟩,Yt⟩⟩
theorem Z4Z {e:Env} {h:Heap} {a b s1 s2:Nat} {r1 r2:PV} (h1:dEval (.load true s1 (.tmp a)) e h 0=some (r1,h)) (h2:dEval (.load true s2 (.tmp b)) e h 0=some (r2,h)):retAll [.cell a true s1,.cell b true s2] e h=some (.tup [r1,r2]):=by
 simp [retAll,retVs,retV,h1,h2]
def MadJ (t:PB) (b:Bool) (r:PV):Prop:=∃ (p:List Nat) (fp:Bool) (l:List Cu) (fl:Bool) (x y w:Int),FormC b p l∧p.length≤8∧l.length≤6∧(∀ c∈l,Ok64 c)∧r=.tup [.agg (certL (idOf t) b p fp l fl),.agg [.val (.int .u8 x),.val (.int .i64 y),.val (.int .i64 w)]]
theorem Zb3 {t:PB} (hmk:MkOk t) (S:List Nat) (z:RawZ) (hz:RawZok z):Spec Tryz.prog 8 [.agg (pbP t S),.agg (pbR t),.agg (rawZ z)] (MadJ t z.1):=by
 have h:=hmk.ok;have hn:=hmk.n;have hw:=Zh7 hmk;have hpp:=ZR t S;have hpr:=Z11 t;have hzp:=Z6J z;have hil:=Z42 t;refine Yp ok8 fun C hC=>?_;refine Zs ?_;refine Zc ?_;refine Z4 rfl rfl rfl ?_;refine Z4 rfl rfl rfl ?_;refine Z4 rfl rfl rfl ?_;(repeat'(first|refine Zj 14 ?_|refine Zb 14 ?_|refine st ?_|(apply B<;>intro hb<;>try cases hb)))<;>try refine At.mk ?_
 refine ZH rfl rfl (Zdk h hn z hz) ⟨hpr,hzp,Yt⟩ rfl ?_;obtain⟨b,bp,f1,rw',f2,od⟩:=z;dsimp only;rintro r ⟨p,fp,l,fl,hf,hpl,hll,hl,rfl⟩;(repeat'(first|refine Zj 19 ?_|refine Zb 19 ?_|refine st ?_|(apply B<;>intro hb<;>try cases hb)))<;>try refine At.mk ?_
 refine Zy (Z3v l fl hl (by omega)) rfl rfl rfl ⟨Z13 l,Yt⟩ ?_;refine Zy (Z3H h hw S l false (by omega)) rfl rfl rfl ⟨hpp,Z18 l,Yt⟩ ?_;have hc1:(certL (idOf t) false [] true l false).length=35:=Z2X hil;have hcp1:=Z1i (idOf t) false [] true l false;have hm1:MadJ t false (.tup [.agg (certL (idOf t) false [] true l false),.agg [.val (.int .u8 0),.val (.int .i64 0),.val (.int .i64 0)]])↔True:=iff_true_intro ⟨[],true,l,false,0,0,0,.inr ⟨rfl,rfl⟩,Y0l _,hll,hl,rfl⟩;have hfind:=Zb1 h hn.2 b p fp l fl (by omega) hl (by omega);cases b
 case false =>
  have hR:∀ x y w:Int,MadJ t false (.tup [.agg (certL (idOf t) false [] true l false),.agg [.val (.int .u8 x),.val (.int .i64 y),.val (.int .i64 w)]]):=fun x y w=>⟨[],true,l,false,x,y,w,.inr ⟨rfl,rfl⟩,Y0l _,hll,hl,rfl⟩
  clear hm1;generalize certL (idOf t) false [] true l false=cc at hc1 hcp1 hR;have hcl:(cc ++ []).length=35:=by rw [Y0p]; exact hc1
  have htk:((cc ++ []).drop 0).take 35=cc:=by rw [Y0p,List.drop_zero,List.take_of_length_le (by omega)]
  (first|refine st ?_|(apply B<;>intro hb<;>try cases hb));refine Ze (Z4k rfl rfl rfl hc1 rfl) rfl rfl ?_;(repeat'(first|refine Zj 26 ?_|refine Zb 26 ?_|refine st ?_|(apply B<;>intro hb<;>try cases hb)))<;>try refine At.mk ?_
  refine Ze (Z3F (l:=cc ++ []) (r:=cc) rfl rfl (by omega) htk) rfl rfl ?_;(repeat'(first|refine Zj 32 ?_|refine Zb 32 ?_|refine st ?_|(apply B<;>intro hb<;>try cases hb)))<;>try refine At.mk ?_
  refine Z2r rfl rfl (.inl rfl) hfind ⟨hpr,Yt,Zz p,Z13 l,Yt⟩ ?_;rintro r ⟨x,y,w,rfl⟩;refine Z2r rfl rfl (.inl rfl) (Z49 x y w) ⟨⟨Yt,Yt,Yt,Yt⟩,Yt⟩ ?_;rintro r ⟨x',y',w',rfl⟩;refine Ze (Z4k rfl rfl rfl hc1 rfl) rfl rfl ?_;(refine go ?_;repeat' (apply B<;>intro hb<;>try cases hb));refine Z5 (Z4Z (Z3F (l:=cc ++ []) (r:=cc) rfl rfl (by omega) htk) rfl) ⟨hcp1,⟨Yt,Yt,Yt,Yt⟩,Yt⟩ (hR _ _ _)
 case true =>
  have hc2:(certL (idOf t) true p false [] true).length=35:=Z2X hil;have hcp2:=Z1i (idOf t) true p false [] true;have hR:∀ x y w:Int,MadJ t true (.tup [.agg (certL (idOf t) true p false [] true),.agg [.val (.int .u8 x),.val (.int .i64 y),.val (.int .i64 w)]]):=fun x y w=>⟨p,false,[],true,x,y,w,.inl ⟨rfl,rfl⟩,hpl,Y0l _,(fun c hc=>by cases hc),rfl⟩
  clear hm1;generalize certL (idOf t) false [] true l false=c1 at hc1 hcp1;have hcl1:(c1 ++ []).length=35:=by rw [Y0p]; exact hc1
  (first|refine st ?_|(apply B<;>intro hb<;>try cases hb));refine Ze (Z4k rfl rfl rfl hc1 rfl) rfl rfl ?_;(repeat'(first|refine Zj 25 ?_|refine Zb 25 ?_|refine st ?_|(apply B<;>intro hb<;>try cases hb)))<;>try refine At.mk ?_
  refine Z6 (Z5B h hw S p fp (by omega)) rfl rfl rfl ⟨hpp,Zz p,Yt⟩ rfl ?_;generalize certL (idOf t) true p false [] true=cc at hc2 hcp2 hR;have hc1:=hc2;have hcp1:=hcp2;have hcl:(cc ++ []).length=35:=by rw [Y0p]; exact hc2
  have htk:((cc ++ []).drop 0).take 35=cc:=by rw [Y0p,List.drop_zero,List.take_of_length_le (by omega)]
  refine Z0 (Z4k (l:=c1 ++ []) rfl rfl rfl hc2 hcl1) rfl rfl ?_;(repeat'(first|refine Zj 26 ?_|refine Zb 26 ?_|refine st ?_|(apply B<;>intro hb<;>try cases hb)))<;>try refine At.mk ?_
  refine Ze (Z3F (l:=cc ++ []) (r:=cc) rfl rfl (by omega) htk) rfl rfl ?_;(repeat'(first|refine Zj 32 ?_|refine Zb 32 ?_|refine st ?_|(apply B<;>intro hb<;>try cases hb)))<;>try refine At.mk ?_
  refine Z2r rfl rfl (.inl rfl) hfind ⟨hpr,Yt,Zz p,Z13 l,Yt⟩ ?_;rintro r ⟨x,y,w,rfl⟩;refine Z2r rfl rfl (.inl rfl) (Z49 x y w) ⟨⟨Yt,Yt,Yt,Yt⟩,Yt⟩ ?_;rintro r ⟨x',y',w',rfl⟩;refine Ze (Z4k rfl rfl rfl hc1 rfl) rfl rfl ?_;(refine go ?_;repeat' (apply B<;>intro hb<;>try cases hb));refine Z5 (Z4Z (Z3F (l:=cc ++ []) (r:=cc) rfl rfl (by omega) htk) rfl) ⟨hcp1,⟨Yt,Yt,Yt,Yt⟩,Yt⟩ (hR _ _ _)
theorem Z6W (p:List Nat) (z:RawZ) (fl:Bool) (hp:Bytes p) (hz:RawZok z):Spec Tryz.prog 3 [.vec (bys p) fl,.agg (rawZ z)] (· = .val (.bool true)):=by
 have hzp:=Z6J z;refine Yp ok3 fun C hC=>?_;refine Zs ?_;refine Zc ?_;refine Z4 rfl rfl rfl ?_;(repeat'(first|refine Zj 10 ?_|refine Zb 10 ?_|refine st ?_|(apply B<;>intro hb<;>try cases hb)))<;>try refine At.mk ?_
 refine Z6 Z9x rfl rfl rfl Yt rfl ?_;(repeat'(first|refine Zj 14 ?_|refine Zb 14 ?_|refine st ?_|(apply B<;>intro hb<;>try cases hb)))<;>try refine At.mk ?_
 refine ZH rfl rfl (ZcS p fl hp) ⟨Zd p,Yt⟩ rfl ?_;rintro r ⟨t,S,hmk,rfl⟩;have h:=hmk.ok;have hn:=hmk.n;have hw:=Zh7 hmk;have hpp:=ZR t S;have hpr:=Z11 t;have hil:=Z42 t;(repeat'(first|refine Zj 24 ?_|refine Zb 24 ?_|refine st ?_|(apply B<;>intro hb<;>try cases hb)))<;>try refine At.mk ?_
 refine ZH rfl rfl (Zb3 hmk S z hz) ⟨hpp,hpr,hzp,Yt⟩ rfl ?_;rintro r ⟨pl,fp,l,fl',x,y,w,hf,hpl,hll,hl,rfl⟩;generalize z.1=b at hf;have hc1:(certL (idOf t) b pl fp l fl').length=35:=Z2X hil;have hcp:=Z1i (idOf t) b pl fp l fl';have h32:=Z8w (b:=b) (p:=pl) (fp:=fp) (l:=l) (fl:=fl') hil;have hjc:=Z4l h hw S b pl fp l fl' hf (by omega) (by omega) hl;have hsound:=Zdj (b:=b) (p:=pl) (l:=l) (fl:=fl') h hl (by omega);generalize chkJ t b pl l fl'=F at hjc hsound;generalize certL (idOf t) b pl fp l fl'=cc at hc1 hcp h32 hjc;have hcl:(cc ++ []).length=35:=by rw [Y0p]; exact hc1
 have htk:((cc ++ []).drop 0).take 35=cc:=by rw [Y0p,List.drop_zero,List.take_of_length_le (by omega)]
 have hgd:(cc ++ []).getD 32 pvu=.val (.bool b):=by
  have:cc[32]?=some (.val (.bool b)):=by
   have:=congrArg (fun m=>m[0]?) h32;simpa [List.getElem?_drop] using this
  rw [Y0p,Y0b,this]; rfl
 (repeat'(first|refine Zj 8 ?_|refine Zb 8 ?_|refine st ?_|(apply B<;>intro hb<;>try cases hb)))<;>try refine At.mk ?_
 (first|refine st ?_|(apply B<;>intro hb<;>try cases hb));(first|refine st ?_|(apply B<;>intro hb<;>try cases hb));refine Z0 (Z4k rfl rfl rfl hc1 rfl) rfl rfl ?_;(repeat'(first|refine Zj 28 ?_|refine Zb 28 ?_|refine st ?_|(apply B<;>intro hb<;>try cases hb)))<;>try refine At.mk ?_
 refine Ze (Z3F (l:=cc ++ []) (r:=cc) rfl rfl (by omega) htk) rfl rfl ?_;refine Zy hjc rfl rfl rfl ⟨hpp,hcp,Yt⟩ ?_;(repeat'(first|refine Zj 31 ?_|refine Zb 31 ?_|refine st ?_|(apply B<;>intro hb<;>try cases hb)))<;>try refine At.mk ?_
 by_cases hF:F.1=1
 · refine Ze (Z1 (v := false) rfl (by rw [hF]; rfl)) rfl rfl ?_;(repeat'(first|refine Zj 34 ?_|refine Zb 34 ?_|refine st ?_|(apply B<;>intro hb<;>try cases hb)))<;>try refine At.mk ?_
   refine Z2J rfl ?_;refine Ze (ZaG (l:=cc ++ []) (off:=32) (v:=.val (.bool b)) rfl rfl (by omega) hgd) rfl rfl ?_;(repeat'(first|refine Zj 36 ?_|refine Zb 36 ?_|refine st ?_|(apply B<;>intro hb<;>try cases hb)))<;>try refine At.mk ?_
   refine Z2J rfl ?_;refine Z2r rfl rfl (.inl rfl) (Z6Q h hn.2) ⟨hpr,Yt⟩ ?_;rintro r ⟨b',hb,rfl⟩;have hbb:b'=b:=by
    have:=hsound hF;cases b<;>cases b'<;>simp_all
   subst hbb;(repeat'(first|refine Zj 37 ?_|refine Zb 37 ?_|refine st ?_|(apply B<;>intro hb<;>try cases hb)))<;>try refine At.mk ?_
   refine Z2J rfl ?_;refine Ze (Z1 (v:=true) rfl (by cases b'<;>rfl)) rfl rfl ?_;(refine go ?_;repeat' (apply B<;>intro hb<;>try cases hb));exact Z5 rfl Yt rfl
 · refine Ze (Z1 (v := true) rfl (by rw [bne_iff_ne]; exact fun e => hF (Int.ofNat.inj e))) rfl rfl ?_
   repeat' (first|refine Z3c rfl ?_|(first|refine st ?_|(apply B<;>intro hb<;>try cases hb)))
   exact Z5 rfl Yt rfl
end
section
open Go.ChangeShapes Go.WideShapes Go.ChangeAt Go.RowKit
theorem Z5U {α:Type} {enc:α→List PV} {Q:α→Prop}:∀ {ll:List (List PV)},(∀ l∈ll,∃ x,Q x∧l=enc x)→∃ xs:List α,(∀ x∈xs,Q x)∧ll=xs.map enc
 | [],_=>⟨[],fun _ h=>(by cases h),rfl⟩
 | l :: ll, h => by
   obtain⟨x,h1,rfl⟩:=h l (Y0t ..);obtain⟨xs,h2,rfl⟩:=Z5U fun l hl=>h l (List.mem_cons_of_mem _ hl);refine⟨x :: xs,fun y hy=>?_,rfl⟩;rcases List.mem_cons.1 hy with rfl|hy
   · exact h1
   · exact h2 y hy
theorem Zb5 {P:Program} {s t:TypeId}:∀ {ps:List PV},ShapeVs P [s,t] ps→∃ a b,ps = [a,b]∧ShapeV P s a∧ShapeV P t b
 | [a,b],⟨h1,h2,_⟩=>⟨a,b,rfl,h1,h2⟩
theorem Zfo {m:Int} (h:(Lit.int .u8 m).wf=true):∃ a:Nat,a<256∧m=(a:Int):=by
 simp only [Lit.wf,Y0k,Y0n] at h;obtain⟨h1,h2⟩:=h;have h3:m≤255:=h2;have h4:0≤m:=h1;exact⟨m.toNat,by omega,by omega⟩
theorem Zfp {n:Nat} {l:List PV} (h:Shape Tryz.prog n 142 l):∃ x:RawX,RawXok x∧l=rawC x:=by
 have hl:=Z9z h (k:=3) (by kernel_rfl);obtain⟨n1,h1⟩:=Z1D h (i:=0) (off:=0) (ty:=5) (sz:=1) (by kernel_rfl);obtain⟨n2,h2⟩:=Z1D h (i:=1) (off:=1) (ty:=5) (sz:=1) (by kernel_rfl);obtain⟨n3,h3⟩:=Z1D h (i:=2) (off:=2) (ty:=4) (sz:=1) (by kernel_rfl)
 match l,hl with
 | [a, b, c], _ =>
   obtain⟨m1,w1,e1⟩:=Z6L (show Shape _ n1 _ [a] from h1) (k:=.u8) (by kernel_rfl);obtain⟨m2,w2,e2⟩:=Z6L (show Shape _ n2 _ [b] from h2) (k:=.u8) (by kernel_rfl);obtain⟨o,e3⟩:=Z5m (show Shape _ n3 _ [c] from h3) (by kernel_rfl);obtain⟨x,hx,rfl⟩:=Zfo w1;obtain⟨y,hy,rfl⟩:=Zfo w2;simp only [List.cons.injEq,and_true] at e1 e2 e3;subst e1; subst e2; subst e3;exact⟨(x,y,o),⟨hx,hy⟩,rfl⟩
theorem Zc5 {n:Nat} {l:List PV} (h:Shape Tryz.prog n 5 l):∃ x:Nat,x≤255∧l = [PV.val (.int .u8 (x:Int))]:=by
 obtain⟨m1,w1,e1⟩:=Z6L h (k:=.u8) (by kernel_rfl);obtain⟨x,hx,rfl⟩:=Zfo w1;exact⟨x,by omega,e1⟩
theorem Zb6 {p:PV} (h:ShapeV Tryz.prog 22 p):∃ (l:List Nat) (fl:Bool),Bytes l∧p=.vec (bys l) fl:=by
 obtain⟨n,ll,fl,_,h2,rfl⟩:=Z9A h (e:=5) (by kernel_rfl);obtain⟨xs,h3,rfl⟩:=Z5U (enc:=fun (x:Nat) => [PV.val (.int .u8 (x:Int))]) (Q:=fun (x:Nat)=>x≤255) fun l hl=>Zc5 (h2 l hl);exact⟨xs,fl,h3,rfl⟩
theorem Zb7 {p:PV} (h:ShapeV Tryz.prog 25 p):∃ z:RawZ,RawZok z∧p=.agg (rawZ z):=by
 obtain⟨n,l,rfl,h0⟩:=Z8y h (k:=4) (by kernel_rfl);clear h;have h:=h0;have hl:=Z9z h (k:=4) (by kernel_rfl);obtain⟨n1,h1⟩:=Z1D h (i:=0) (off:=0) (ty:=4) (sz:=1) (by kernel_rfl);obtain⟨n2,h2⟩:=Z1D h (i:=1) (off:=1) (ty:=22) (sz:=1) (by kernel_rfl);obtain⟨n3,h3⟩:=Z1D h (i:=2) (off:=2) (ty:=23) (sz:=1) (by kernel_rfl);obtain⟨n4,h4⟩:=Z1D h (i:=3) (off:=3) (ty:=4) (sz:=1) (by kernel_rfl)
 match l,hl with
 | [a, b, c, d], _ =>
   obtain⟨o,e1⟩:=Z5m (show Shape _ n1 _ [a] from h1) (by kernel_rfl);obtain⟨n',ll,fl,_,g2,e2⟩:=Z4m (show Shape _ n2 _ [b] from h2) (e:=5) (by kernel_rfl);obtain⟨xs,hx,rfl⟩:=Z5U (enc:=byC) (Q:=fun x=>x≤255) fun l hl=>Zc5 (g2 l hl);obtain⟨m',ml,gl,_,g3,e3⟩:=Z4m (show Shape _ n3 _ [c] from h3) (e:=142) (by kernel_rfl);obtain⟨ys,hy,rfl⟩:=Z5U (enc:=rawC) (Q:=RawXok) fun l hl=>Zfp (g3 l hl);obtain⟨q,e4⟩:=Z5m (show Shape _ n4 _ [d] from h4) (by kernel_rfl);simp only [List.cons.injEq,and_true] at e1 e2 e3 e4;subst e1; subst e2; subst e3; subst e4;exact⟨⟨o,xs,fl,ys,gl,q⟩,⟨hx,hy⟩,rfl⟩
theorem Z6M:∀ ps,ShapeVs Tryz.prog Tryz.f3.params.toList ps→pureL ps→Spec Tryz.prog 3 ps (· = .val (.bool true)):=by
 intro ps hs hp;rw [show Tryz.f3.params.toList = [22,25] by kernel_rfl] at hs;obtain⟨a,b,rfl,k0,k1⟩:=Zb5 hs;obtain⟨x0,f0,h0,rfl⟩:=Zb6 k0;obtain⟨x1,h1,rfl⟩:=Zb7 k1;exact Z6W x0 x1 f0 h0 h1
theorem Z5n (os:Os) (started:os.Started) (H:Type) (enc:TypeId×Value→H) :
 ReturnsInHanded {} Tryz.checked os 3 .any (fun w args=>(Rows.judgeSoundSpec.pre enc Tryz.prog Tryz.f3 [] false w args∧laidMetH Tryz.prog laidV w)∧sizedMet enc Tryz.prog Tryz.f3 (OpenSpec.ofChange Rows.judgeSoundSpec) false w args)
  (Rows.judgeSoundSpec.post enc Tryz.prog Tryz.f3 false true false false):=by
 refine returnsInHanded_of_change_and (C:=Tryz.checked) (X:=fun w _=>laidMetH Tryz.prog laidV w) (fun _ _ _ hh h=>h.of_heap hh) own started (by kernel_rfl) Tryz.func3
  (ChangeSpec.witness_shaped (enc:=enc) (C:=Tryz.checked) (os:=os) (X:=fun w _=>laidMetH Tryz.prog laidV w) false (World.doorLaid Tryz.prog 400 os) #[.slice none 0 0,.agg #[.bool false,.slice none 0 0,.slice none 0 0,.bool false]] 8 rfl (World.shaped_of_RefB (by kernel_rfl) (by kernel_rfl)) (by kernel_rfl) (by kernel_rfl) (by kernel_rfl) (ZfP os _)) ?_
 intro W base args ds gs before hval hW _ hwt hL _
 exact Z8O (P:=Tryz.prog) (G:=partsG Tryz.prog Tryz.f3.params.toList) (by kernel_rfl) (Zi9 (by kernel_rfl)) laidOut (ZdU (by kernel_rfl)) (tb:=4) (by kernel_rfl) (by kernel_rfl) rfl (fun ds hd=>by
  match ds,hd with
  | [a,b],_=>exact⟨rfl,rfl,rfl⟩) Z6M W (ZfR hL) base args ds gs before hval hW hwt
theorem Z5H:Rows.JudgeSoundSaid :=
 OpenClaim.holds_of_wide 3 Tryz.f3 rfl rfl rfl rfl rfl rfl rfl ⟨rfl,rfl,rfl,rfl,rfl⟩ rfl rfl rfl rfl rfl (by kernel_rfl) Tryz.func3 (by kernel_rfl)
  (Y0u (by kernel_rfl)) (by unfold Func.isWrapper; first|(rw [if_pos (by decide +kernel)]; kernel_rfl)|(rw [if_neg (by decide +kernel)]; exact⟨rfl,rfl⟩))
  (fun os started H enc _=>Z5n os started H enc)
theorem judgeSound_card:Rows.JudgeSoundCardSaid :=
 Claim7.holds_tied_plain_at .later [] [.data,.data,.data] true (true, "73c21f7196f0b4087c3a3f595dd59d7deb88aa91980cc43c0013793faae3e45c") false
  Z5H (fun _ h=>by cases h) (by kernel_rfl) (fun _ h=>by cases h) judgeSound_row_tie rfl ⟨rfl,rfl⟩ (by kernel_rfl) rfl
  (fun f fn hf hfn => by
    obtain rfl : f = 3 := Option.some.inj ((show Tryz.prog.funcNamed "arbac/arbaclaw38.JudgeSound" = some 3 by kernel_rfl).symm.trans hf) |>.symm
    obtain rfl:fn=Tryz.f3:=(Option.some.inj (Tryz.func3.symm.trans hfn)).symm
    exact⟨by kernel_rfl,fun j t ht=>by
     rw [show Tryz.f3.params = #[22,25] by kernel_rfl] at ht;have hm:t∈[22,25]:=by simpa using Array.mem_of_getElem? ht
     have hall:([22,25].all fun u => !Tryz.prog.wantsStandIn u)=true:=by kernel_rfl
     exact (show Tryz.prog.wantsStandIn t=false by simpa using List.all_eq_true.1 hall t hm)⟩)
  (by kernel_rfl)
#print axioms judgeSound_card
end
end Go.Proofs.YtmnbbggaoembeaaGreatDoor
