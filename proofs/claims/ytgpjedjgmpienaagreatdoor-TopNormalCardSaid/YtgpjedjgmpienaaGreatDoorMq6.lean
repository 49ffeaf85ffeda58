/-
  Merged from the texts that this claim's theorem needs, part 7 of 8. No statement of the seat is proved here.
-/
import Derived.Test.YtgpjedjgmpienaaGreatDoorMq5
set_option linter.unusedSimpArgs false
set_option linter.unusedVariables false
set_option linter.unusedSectionVars false
set_option linter.defProp false
set_option maxRecDepth 100000
set_option maxHeartbeats 16000000
namespace Go.Proofs.YtgpjedjgmpienaaGreatDoor
section
open Go.RowKit
attribute [local irreducible] aw Xj dK
def rdB (T:List Tp) (i:Nat):Bx:=⟨4,[[.vec (T.map tkR) false,Yv i,.val (.int .i64 0),.val (.int .i64 0)]]⟩
theorem Z7 (T:List Tp) (i:Nat):X2 (rdB T i).elems:=⟨⟨Z2B T,Yt,Yt,Yt,Yt⟩,Yt⟩
structure Rd (T:List Tp) (i:Nat) (x:Tp):Prop where
 at_:T[i]?=some x
 len:T.length<=100000
theorem Rd.lt {T:List Tp} {i:Nat} {x:Tp} (h:Rd T i x):i<T.length:=(Yy.1 h.at_).1
theorem Rd.get {T : List Tp} {i : Nat} {x : Tp} (h : Rd T i x) : T[i]'h.lt = x := (Yy.1 h.at_).2
theorem Rd.inc {T:List Tp} {i:Nat} {x:Tp} (h:Rd T i x):IntKind.i64.wrap ((i:Int)+1)=((i+1:Nat):Int):=Y0v _ ⟨by omega,by have:=h.lt; have:=h.len; omega⟩
section
variable {T:List Tp} {i:Nat} {x:Tp}
theorem ZiG:X15 Tryz.prog 118 (rdB T i) [] fun r b'=>r=.val (.bool true)/\b'=rdB T i:=by
 refine ZE ok118 (Y0 rfl) fun C hC=>?_;(refine go ?_;repeat' (apply B<;>intro hb<;>try cases hb));exact Z12 rfl Yt rfl (Z7 T i) ⟨rfl,rfl⟩
theorem ZgU (h:Rd T i x):X15 Tryz.prog 195 (rdB T i) [] fun r b'=>r=.agg (tkR x)/\b'=rdB T i:=by
 have hl:=h.lt;refine ZE ok195 (Y0 rfl) fun C hC=>?_;(repeat'(first|refine Z1 12 ?_|refine Z0 12 ?_|refine st ?_|(apply B<;>intro hb<;>try cases hb)))<;>try refine At.mk ?_
 refine Qr (Qy rfl (by rw [Y0f];omega)) ?_;(repeat'(first|refine Z1 21 ?_|refine Z0 21 ?_|refine st ?_|(apply B<;>intro hb<;>try cases hb)))<;>try refine At.mk ?_
 refine Qr (Zk (xs:=T) (g:=tkR) rfl rfl i rfl hl rfl) ?_;rw [h.get];(refine go ?_;repeat' (apply B<;>intro hb<;>try cases hb));exact Z12 rfl (Z44 x) rfl (Z7 T i) ⟨rfl,rfl⟩
theorem Z1E (h:Rd T i x):X15 Tryz.prog 117 (rdB T i) [] fun r b'=>r=.agg (tkR x)/\b'=rdB T i:=by
 refine ZE ok117 (Y0 rfl) fun C hC=>?_;(repeat'(first|refine Z1 4 ?_|refine Z0 4 ?_|refine st ?_|(apply B<;>intro hb<;>try cases hb)))<;>try refine At.mk ?_
 refine Zb ZiG rfl rfl rfl rfl (Z7 T i) Yt ?_;rintro r b' - - ⟨rfl,rfl⟩;(repeat'(first|refine Z1 8 ?_|refine Z0 8 ?_|refine st ?_|(apply B<;>intro hb<;>try cases hb)))<;>try refine At.mk ?_
 refine Zb (ZgU h) rfl rfl rfl rfl (Z7 T i) Yt ?_;rintro r b' - - ⟨rfl,rfl⟩;(refine go ?_;repeat' (apply B<;>intro hb<;>try cases hb));exact Z12 rfl (Z44 x) rfl (Z7 T i) ⟨rfl,rfl⟩
theorem Zkd {k m:Nat} (h:k≠m):((k:Int) == (m:Int))=false:=by
 rw [Y1B]; omega
theorem ZgV (h:Rd T i x) (s:By):X15 Tryz.prog 194 (rdB T i) [.val (.string (toB s))] fun r b'=>r=.val (.bool (isT x.1 s))/\b'=rdB T i:=by
 refine ZE ok194 (Y0 rfl) fun C hC=>?_;(repeat'(first|refine Z1 7 ?_|refine Z0 7 ?_|refine st ?_|(apply B<;>intro hb<;>try cases hb)))<;>try refine At.mk ?_
 refine Zb (Z1E h) rfl rfl rfl rfl (Z7 T i) Yt ?_;rintro r b' - - ⟨rfl,rfl⟩;obtain⟨⟨k,t,m⟩,at_⟩:=x;unfold isT;by_cases h1:k=1
 . subst h1;(repeat'(first|refine Z1 20 ?_|refine Z0 20 ?_|refine st ?_|(apply B<;>intro hb<;>try cases hb)))<;>try refine At.mk ?_
   refine Zj rfl ?_;refine Qo (ZiC (a:=t) (b:=s) rfl rfl) ?_;(refine go ?_;repeat' (apply B<;>intro hb<;>try cases hb))
   all_goals exact Z12 rfl Yt rfl (Z7 T i) ⟨by simp_all,rfl⟩
 . (repeat'(first|refine Z1 10 ?_|refine Z0 10 ?_|refine st ?_|(apply B<;>intro hb<;>try cases hb)))<;>try refine At.mk ?_
   refine Qo (Za (v:=false) rfl (Zkd (m:=1) h1)) ?_;by_cases h3:k=3
   . subst h3;(repeat'(first|refine Z1 20 ?_|refine Z0 20 ?_|refine st ?_|(apply B<;>intro hb<;>try cases hb)))<;>try refine At.mk ?_
     refine Zj rfl ?_;refine Qo (ZiC (a:=t) (b:=s) rfl rfl) ?_;(refine go ?_;repeat' (apply B<;>intro hb<;>try cases hb))
     all_goals exact Z12 rfl Yt rfl (Z7 T i) ⟨by simp_all,rfl⟩
   . (repeat'(first|refine Z1 14 ?_|refine Z0 14 ?_|refine st ?_|(apply B<;>intro hb<;>try cases hb)))<;>try refine At.mk ?_
     refine Zj rfl ?_;refine Qo (Za (v:=false) rfl (Zkd (m:=3) h3)) ?_;(refine go ?_;repeat' (apply B<;>intro hb<;>try cases hb))
     all_goals exact Z12 rfl Yt rfl (Z7 T i) ⟨by simp_all,rfl⟩
theorem Zc9 (h:Rd T i x) (s:By) (hs:isT x.1 s=true):X15 Tryz.prog 114 (rdB T i) [.val (.string (toB s))] fun r b'=>r=.val (.bool true)/\b'=rdB T (i+1):=by
 refine ZE ok114 (Y0 rfl) fun C hC=>?_;(repeat'(first|refine Z1 8 ?_|refine Z0 8 ?_|refine st ?_|(apply B<;>intro hb<;>try cases hb)))<;>try refine At.mk ?_
 refine Zb (ZgV h s) rfl rfl rfl rfl (Z7 T i) ⟨Yt,Yt⟩ ?_;rintro r b' - - ⟨rfl,rfl⟩;rw [hs];(repeat'(first|refine Z1 14 ?_|refine Z0 14 ?_|refine st ?_|(apply B<;>intro hb<;>try cases hb)))<;>try refine At.mk ?_
 refine Ze rfl rfl rfl h.inc ?_;(refine go ?_;repeat' (apply B<;>intro hb<;>try cases hb));exact Z12 rfl Yt rfl (Z7 T (i+1)) ⟨rfl,rfl⟩
theorem Z6W (h:Rd T i x) (s:By) (hs:isT x.1 s=false):X15 Tryz.prog 114 (rdB T i) [.val (.string (toB s))] fun r b'=>r=.val (.bool false)/\b'=rdB T i:=by
 refine ZE ok114 (Y0 rfl) fun C hC=>?_;(repeat'(first|refine Z1 8 ?_|refine Z0 8 ?_|refine st ?_|(apply B<;>intro hb<;>try cases hb)))<;>try refine At.mk ?_
 refine Zb (ZgV h s) rfl rfl rfl rfl (Z7 T i) ⟨Yt,Yt⟩ ?_;rintro r b' - - ⟨rfl,rfl⟩;rw [hs];(refine go ?_;repeat' (apply B<;>intro hb<;>try cases hb));exact Z12 rfl Yt rfl (Z7 T i) ⟨rfl,rfl⟩
theorem ZeH (h:Rd T i x) (hk:x.1.k≠0):X15 Tryz.prog 381 (rdB T i) [] fun r b'=>r=.agg (tkR x)/\b'=rdB T (i+1):=by
 refine ZE ok381 (Y0 rfl) fun C hC=>?_;(repeat'(first|refine Z1 5 ?_|refine Z0 5 ?_|refine st ?_|(apply B<;>intro hb<;>try cases hb)))<;>try refine At.mk ?_
 refine Zb (Z1E h) rfl rfl rfl rfl (Z7 T i) Yt ?_;rintro r b' - - ⟨rfl,rfl⟩;(repeat'(first|refine Z1 8 ?_|refine Z0 8 ?_|refine st ?_|(apply B<;>intro hb<;>try cases hb)))<;>try refine At.mk ?_
 refine Qo (Za (v:=true) rfl (show (!((x.1.k:Int) == ((0:Nat):Int)))=true by rw [Zkd hk]; rfl)) ?_;(repeat'(first|refine Z1 13 ?_|refine Z0 13 ?_|refine st ?_|(apply B<;>intro hb<;>try cases hb)))<;>try refine At.mk ?_
 refine Ze rfl rfl rfl h.inc ?_;(refine go ?_;repeat' (apply B<;>intro hb<;>try cases hb));exact Z12 rfl (Z44 x) rfl (Z7 T (i+1)) ⟨rfl,rfl⟩
theorem Zdt:X15 Tryz.prog 71 (rdB T i) [] fun r b'=>r=.tup [.val (.int .i64 0),.val (.int .i64 0)]/\b'=rdB T i:=by
 refine ZE ok71 (Y0 rfl) fun C hC=>?_;(refine go ?_;repeat' (apply B<;>intro hb<;>try cases hb));exact Z12 rfl ⟨Yt,Yt,Yt⟩ rfl (Z7 T i) ⟨rfl,rfl⟩
theorem Zca (h:Rd T i x) (s:By) (hs:isT x.1 s=true):X15 Tryz.prog 294 (rdB T i) [.val (.string (toB s))] fun r b'=>r=.tup []/\b'=rdB T (i+1):=by
 refine ZE ok294 (Y0 rfl) fun C hC=>?_;(repeat'(first|refine Z1 6 ?_|refine Z0 6 ?_|refine st ?_|(apply B<;>intro hb<;>try cases hb)))<;>try refine At.mk ?_
 refine Zb (Zc9 h s hs) rfl rfl rfl rfl (Z7 T i) ⟨Yt,Yt⟩ ?_;rintro r b' - - ⟨rfl,rfl⟩;(refine go ?_;repeat' (apply B<;>intro hb<;>try cases hb));exact Z12 rfl Yt rfl (Z7 T (i+1)) ⟨rfl,rfl⟩
theorem X4a {t:Tk} {a:Nat} (h:Rd T i (t,a)) (s:By) (hs:isT t s=true):X15 Tryz.prog 114 (rdB T i) [.val (.string (toB s))] fun r b'=>r=.val (.bool true)/\b'=rdB T (i+1):=Zc9 h s hs
theorem X3b {t:Tk} {a:Nat} (h:Rd T i (t,a)) (s:By) (hs:isT t s=false):X15 Tryz.prog 114 (rdB T i) [.val (.string (toB s))] fun r b'=>r=.val (.bool false)/\b'=rdB T i:=Z6W h s hs
theorem X6w {t:Tk} {a:Nat} (h:Rd T i (t,a)) (s:By) (hs:isT t s=true):X15 Tryz.prog 294 (rdB T i) [.val (.string (toB s))] fun r b'=>r=.tup []/\b'=rdB T (i+1):=Zca h s hs
end
theorem Zjh {r:Int} (h:1<=r/\r<=6):∃ d:UInt8,d∈([49,50,51,52,53,54,55]:List UInt8)/\rnB r=⟨#[114,d]⟩:=by
 have:r=1 \/ r=2 \/ r=3 \/ r=4 \/ r=5 \/ r=6:=by omega
 rcases this with rfl|rfl|rfl|rfl|rfl|rfl
 . exact⟨49,by decide,rfl⟩
 . exact⟨50,by decide,rfl⟩
 . exact⟨51,by decide,rfl⟩
 . exact⟨52,by decide,rfl⟩
 . exact⟨53,by decide,rfl⟩
 . exact⟨54,by decide,rfl⟩
theorem Z6X {r:Int} (h:1<=r/\r<=6):X7 Tryz.prog 176 [.val (.string (rnB r))] (· = .val (.bool true)):=by
 obtain⟨d,hd,he⟩:=Zjh h;rw [he];exact Z4t d hd
theorem ZiH {r:Int} (h:1<=r/\r<=6):X7 Tryz.prog 256 [.vec (kwL.map XZ) true,.val (.string (rnB r))] (· = .val (.bool false)):=by
 obtain⟨d,hd,he⟩:=Zjh h;rw [he];have:=Z2S kwL ⟨#[114,d]⟩ true;rw [ZgP d hd] at this;exact this
theorem Z6Y {T:List Tp} {i:Nat} {a:Nat} {r:Int} (hr:1<=r/\r<=6) (h:Rd T i (rnT r,a)):X15 Tryz.prog 299 (rdB T i) [] fun q b'=>q=.val (.string (rnB r))/\b'=rdB T (i+1):=by
 refine ZE ok299 (Y0 rfl) fun C hC=>?_;(repeat'(first|refine Z1 5 ?_|refine Z0 5 ?_|refine st ?_|(apply B<;>intro hb<;>try cases hb)))<;>try refine At.mk ?_
 refine Zb (Z1E h) rfl rfl rfl rfl (Z7 T i) Yt ?_;rintro q b' - - ⟨rfl,rfl⟩;(repeat'(first|refine Z1 11 ?_|refine Z0 11 ?_|refine st ?_|(apply B<;>intro hb<;>try cases hb)))<;>try refine At.mk ?_
 refine Z27 rfl ?_;refine Qd Z93 Yt ?_;(repeat'(first|refine Z1 14 ?_|refine Z0 14 ?_|refine st ?_|(apply B<;>intro hb<;>try cases hb)))<;>try refine At.mk ?_
 refine Z27 rfl ?_;refine Qd (ZiH hr) ⟨Zy _,Yt,Yt⟩ ?_;(repeat'(first|refine Z1 21 ?_|refine Z0 21 ?_|refine st ?_|(apply B<;>intro hb<;>try cases hb)))<;>try refine At.mk ?_
 refine Qe (Z6X hr) ⟨Yt,Yt⟩ ?_;(repeat'(first|refine Z1 29 ?_|refine Z0 29 ?_|refine st ?_|(apply B<;>intro hb<;>try cases hb)))<;>try refine At.mk ?_
 refine Ze rfl rfl rfl h.inc ?_;(refine go ?_;repeat' (apply B<;>intro hb<;>try cases hb));exact Z12 rfl Yt rfl (Z7 T (i+1)) ⟨rfl,rfl⟩
def X29 {α β:Type} (p:α->β->Bool):List α->List β->Bool
 | [],[]=>true
 | x :: xs,y :: ys=>p x y&&X29 p xs ys
 | _,_=>false
theorem Zdu {α β:Type} {p:α->β->Bool}:∀ {xs:List α} {ys:List β},X29 p xs ys=true->xs.length=ys.length
 | [],[],_=>rfl
 | x :: xs, y :: ys, h => by
   rw [X29,Y0k] at h;rw [Y04,Y04,Zdu h.2]
theorem ZgW {α β:Type} {p:α->β->Bool} {xs:List α} {ys:List β} (h:xs.length≠ys.length):X29 p xs ys=false:=by
 cases hb:X29 p xs ys with
 | false=>rfl
 | true=>exact absurd (Zdu hb) h
theorem Z9a {α β:Type} {p:α->β->Bool}:∀ {xs:List α} {ys:List β},X29 p xs ys=true->∀ i (h1:i<xs.length) (h2:i<ys.length),p xs[i] ys[i]=true
 | x :: xs,y :: ys,h,0,_,_=>by rw [X29,Y0k] at h; exact h.1
 | x :: xs,y :: ys,h,i+1,h1,h2=>by rw [X29,Y0k] at h; exact Z9a h.2 i (by simpa using h1) (by simpa using h2)
theorem Zcb {α β:Type} {p:α->β->Bool}:∀ {xs:List α} {ys:List β},xs.length=ys.length->(∀ i (h1:i<xs.length) (h2:i<ys.length),p xs[i] ys[i]=true)->X29 p xs ys=true
 | [],[],_,_=>rfl
 | [],_ :: _,h,_=>by simp at h
 | _ :: _,[],h,_=>by simp at h
 | x :: xs, y :: ys, h, hp => by
   rw [X29,Y0k];exact⟨hp 0 (Nat.succ_pos _) (Nat.succ_pos _),Zcb (by simpa using h) fun i h1 h2=>hp (i+1) (Y44 h1) (Y44 h2)⟩
theorem ZgX {α:Type} {p:α->α->Bool} (hp:∀ a b,p a b=true↔a=b):∀ {xs ys:List α},X29 p xs ys=true↔xs=ys
 | [],[]=>by simp [X29]
 | [],_ :: _=>by simp [X29]
 | _ :: _,[]=>by simp [X29]
 | x :: xs,y :: ys=>by rw [X29,Y0k,hp,ZgX hp,List.cons.injEq]
theorem Z7h (a b:List Int) (f1 f2:Bool):X7 Tryz.prog 40 [.vec (Xc a) f1,.vec (Xc b) f2] (· = .val (.bool (decide (a=b)))):=by
 have hla:=Z19 a;have hlb:=Z19 b;refine Yp ok40 fun C hC=>?_;refine Z3m (k:=0) rfl fun hmax=>?_;have hlm:a.length<=Xd:=by rw [hla] at hmax; exact hmax
 iterate 11 (first|refine st ?_|(apply B<;>intro hb<;>try cases hb))
 refine Zx rfl rfl rfl (fun hb=>?_) (fun hb=>?_)
 . have hne : ¬ a.length = b.length := by
    rw [hla,hlb] at hb;have:(¬ (a.length:Int)=(b.length:Int)):=by simpa using hb
    omega
   (refine go ?_;repeat' (apply B<;>intro hb<;>try cases hb));exact Z4 rfl Yt (XO (by rw [Y0w (fun h=>hne (by rw [h]))]))
 . have hne : a.length = b.length := by
    rw [hla,hlb] at hb;have:¬ ((a.length:Int)≠(b.length:Int)):=by simpa using hb
    omega
   clear hb;(refine go ?_;repeat' (apply B<;>intro hb<;>try cases hb));refine Zv hC (fun i=>i<=a.length/\∀ j (h1:j<a.length) (h2:j<b.length),j<i->a[j]=b[j]) (fun i=>a.length-i) 0 (fun i => [(0,.vec (Xc a) f1),(1,.vec (Xc b) f2),(12,.val (.int .i64 (a.length:Int))),(13,Yv i)]) (fun _=>[]) (Y0m _) 0 ⟨Y0l _,fun j _ _ h=>absurd h (YR j)⟩ ⟨⟨rfl,ZU _ _⟩,⟨rfl,ZU _ _⟩,⟨by rw [<- hla]; rfl,Yt⟩,⟨rfl,Yt⟩,Yt⟩ Yt ?_;rintro i ⟨hi,hall⟩;have hinc:IntKind.i64.wrap ((i:Int)+1)=((i+1:Nat):Int):=Y0v _ ⟨by omega,by simp only [Xd] at hlm; omega⟩
   iterate 2 (first|refine st ?_|(apply B<;>intro hb<;>try cases hb))
   refine Zx rfl rfl rfl (fun hb=>?_) (fun hb=>?_)
   . have hil : i < a.length := by have := Y0u hb; omega
     have hib:i<b.length:=by omega
     clear hb;(refine go ?_;repeat' (apply B<;>intro hb<;>try cases hb));refine Qr (Zk (xs:=a) rfl rfl i rfl hil rfl) ?_;(refine go ?_;repeat' (apply B<;>intro hb<;>try cases hb));refine Qr (Zk (xs:=b) rfl rfl i rfl hib rfl) ?_;(refine go ?_;repeat' (apply B<;>intro hb<;>try cases hb))
     . have hx : a[i] ≠ b[i] := by simpa using hb
       exact Z4 rfl Yt (XO (by rw [Y0w (fun h=>hx (by subst h; rfl))]))
     . have hx : a[i] = b[i] := by simpa using hb
       refine⟨i+1,⟨by omega,fun j h1 h2 hj=>?_⟩,by omega,⟨⟨rfl,ZU _ _⟩,⟨rfl,ZU _ _⟩,⟨rfl,Yt⟩,⟨by show some _=some _; rw [hinc],Yt⟩,Yt⟩,Yt⟩;by_cases hji:j=i
       . subst hji; exact hx
       . exact hall j h1 h2 (by omega)
   . have hil : i = a.length := by have := YH hb; omega
     subst hil;clear hb;(refine go ?_;repeat' (apply B<;>intro hb<;>try cases hb));exact Z4 rfl Yt (XO (by rw [YF (Y4b hne fun j h1 h2=>hall j h1 h2 h1)]))
theorem Z2C {α β:Type} (xs:List α) (ys:List β) (enc:α->List PV) (enc2:β->List PV) (f1 f2:Bool) (g:Nat) (caps:List PV) (p:α->β->Bool) (hl:∀ x,(enc x).length=2) (hl2:∀ x,(enc2 x).length=2) (hp:∀ x,Xe (enc x)) (hp2:∀ x,Xe (enc2 x)) (hc:Xe caps)
 (hg:∀ x∈xs,∀ y∈ys,X7 Tryz.prog g (.agg (enc x) :: .agg (enc2 y) :: caps) (· = .val (.bool (p x y)))):X7 Tryz.prog 8 [.vec (xs.map enc) f1,.vec (ys.map enc2) f2,.fn g caps] (· = .val (.bool (X29 p xs ys))):=by
 have hla:(xs.map enc).length=xs.length:=by simp
 have hlb:(ys.map enc2).length=ys.length:=by simp
 refine Yp ok8 fun C hC=>?_;refine Z3m (k:=0) rfl fun hmax=>?_;have hlm:xs.length<=Xd:=by rw [hla] at hmax; exact hmax
 iterate 11 (first|refine st ?_|(apply B<;>intro hb<;>try cases hb))
 refine Zx rfl rfl rfl (fun hb=>?_) (fun hb=>?_)
 . have hne : ¬ xs.length = ys.length := by
    rw [hla,hlb] at hb;have:(¬ (xs.length:Int)=(ys.length:Int)):=by simpa using hb
    omega
   (refine go ?_;repeat' (apply B<;>intro hb<;>try cases hb));exact Z4 rfl Yt (XO (by rw [ZgW hne]))
 . have hne : xs.length = ys.length := by
    rw [hla,hlb] at hb;have:¬ ((xs.length:Int)≠(ys.length:Int)):=by simpa using hb
    omega
   clear hb;(refine go ?_;repeat' (apply B<;>intro hb<;>try cases hb));refine Zv hC (fun i=>i<=xs.length/\∀ j (h1:j<xs.length) (h2:j<ys.length),j<i->p xs[j] ys[j]=true) (fun i=>xs.length-i) 0 (fun i => [(1,.vec (ys.map enc2) f2),(2,.fn g caps),(15,.vec (xs.map enc) f1),(16,.val (.int .i64 (xs.length:Int))),(17,Yv i)]) (fun _=>[]) (Y0m _) 0 ⟨Y0l _,fun j _ _ h=>absurd h (YR j)⟩
    ⟨⟨rfl,Zc (fun _ h=>h.elim) _ (Z17 hp2 ys)⟩,⟨rfl,ZC (fun _ h=>h.elim) _ hc⟩,⟨rfl,Zc (fun _ h=>h.elim) _ (Z17 hp xs)⟩,⟨by rw [<- hla]; rfl,Yt⟩,⟨rfl,Yt⟩,Yt⟩ Yt ?_
   rintro i ⟨hi,hall⟩;have hinc:IntKind.i64.wrap ((i:Int)+1)=((i+1:Nat):Int):=Y0v _ ⟨by omega,by simp only [Xd] at hlm; omega⟩
   iterate 2 (first|refine st ?_|(apply B<;>intro hb<;>try cases hb))
   refine Zx rfl rfl rfl (fun hb=>?_) (fun hb=>?_)
   . have hil : i < xs.length := by have := Y0u hb; omega
     have hib:i<ys.length:=by omega
     clear hb;obtain⟨a1,a2,ha⟩:∃ a1 a2,enc xs[i] = [a1,a2]:=by
      match h:enc xs[i],hl xs[i] with
      | [a1,a2],_=>exact⟨a1,a2,rfl⟩
     obtain⟨b1,b2,hb⟩:∃ b1 b2,enc2 ys[i] = [b1,b2]:=by
      match h:enc2 ys[i],hl2 ys[i] with
      | [b1,b2],_=>exact⟨b1,b2,rfl⟩
     have hsp:=hg xs[i] (Y0j hil) ys[i] (Y0j hib);have hpa:=hp xs[i];have hpb:=hp2 ys[i];rw [ha,hb] at hsp;rw [ha] at hpa;rw [hb] at hpb;(refine go ?_;repeat' (apply B<;>intro hb<;>try cases hb));refine Qo (Zk (xs:=xs) rfl rfl i rfl hil (hl _)) ?_;rw [ha];(refine go ?_;repeat' (apply B<;>intro hb<;>try cases hb));refine Qo (Zk (xs:=ys) rfl rfl i rfl hib (hl2 _)) ?_;rw [hb];(refine go ?_;repeat' (apply B<;>intro hb<;>try cases hb));refine Qe hsp ⟨hpa,hpb,hc⟩ ?_;cases hpp:p xs[i] ys[i]
     . (refine go ?_;repeat' (apply B<;>intro hb<;>try cases hb))
       exact Z4 rfl Yt (XO (by
        cases he:X29 p xs ys with
        | false=>rfl
        | true=>have:=Z9a he i hil hib; rw [hpp] at this; cases this))
     . (refine go ?_;repeat' (apply B<;>intro hb<;>try cases hb));refine⟨i+1,⟨by omega,fun j h1 h2 hj=>?_⟩,by omega,⟨⟨rfl,Zc (fun _ h=>h.elim) _ (Z17 hp2 ys)⟩,⟨rfl,ZC (fun _ h=>h.elim) _ hc⟩,⟨rfl,Zc (fun _ h=>h.elim) _ (Z17 hp xs)⟩,⟨rfl,Yt⟩,⟨by show some _=some _; rw [hinc],Yt⟩,Yt⟩,Yt⟩;by_cases hji:j=i
       . subst hji; exact hpp
       . exact hall j h1 h2 (by omega)
   . have hil : i = xs.length := by have := YH hb; omega
     subst hil;clear hb;(refine go ?_;repeat' (apply B<;>intro hb<;>try cases hb));exact Z4 rfl Yt (XO (by rw [Zcb hne fun j h1 h2=>hall j h1 h2 h1]))
theorem X6A {l t:List Cu}:X29 eqC l t=true↔l=t:=ZgX ZjO
theorem Zcc:∀ (d:Nat) (f:Fm),f.depth<=d->d<=1000->X7 Tryz.prog 108 [.agg (eC f)] (· = .val (.int .i64 f.depth)):=by
 intro d
 induction d with
 | zero=>intro f hf; rw [Fm.depth_eq] at hf; omega
 | succ d ih =>
   intro f hf hd;refine Yp ok108 fun C hC=>?_;refine Zn ?_;refine Z8 ?_;refine Z5 rfl rfl rfl ?_;(refine go ?_;repeat' (apply B<;>intro hb<;>try cases hb));have hll:(f.args.map (Xg)).length=f.args.length:=by simp
   refine Z3m (k:=7) rfl fun hmax=>?_;rw [hll] at hmax;refine Zv hC (fun i=>i<=f.args.length) (fun i=>f.args.length-i) 0 (fun i => [(3,.val (.int .i64 (XU (f.args.take i)))),(7,.vec (f.args.map (Xg)) false),(8,.val (.int .i64 f.args.length)),(9,Yv i)]) (fun _=>[]) (Y0m _) 0 (Y0l _)
    ⟨⟨rfl,Yt⟩,⟨rfl,Z3H _ _⟩,⟨by rw [<- hll]; rfl,Yt⟩,⟨rfl,Yt⟩,Yt⟩ Yt ?_
   intro i hi;have hinc:IntKind.i64.wrap ((i:Int)+1)=((i+1:Nat):Int):=Y0v _ ⟨by omega,by simp only [Xd] at hmax; omega⟩;(refine go ?_;repeat' (apply B<;>intro hb<;>try cases hb))
   . have hil : i < f.args.length := by simpa using hb
     refine Qo (Zk (xs:=f.args) rfl rfl i rfl hil (ZS _)) ?_;rw [ZR];(refine go ?_;repeat' (apply B<;>intro hb<;>try cases hb));have hdl:=ZG hil;have hfd:=f.depth_eq;refine Qe (ih f.args[i] (by omega) (by omega)) ⟨Zp _,Yt⟩ ?_;(refine go ?_;repeat' (apply B<;>intro hb<;>try cases hb));refine⟨i+1,by omega,by omega,⟨⟨?_,Yt⟩,⟨rfl,Z3H _ _⟩,⟨rfl,Yt⟩,⟨by show some _=some _; rw [hinc],Yt⟩,Yt⟩,Yt⟩;show some _=some _;rw [Z4b hil];congr 3;omega
   . have hil : i = f.args.length := by simp at hb; omega
     subst hil;rw [Y0q] at *;have hfd:=f.depth_eq;refine Z4 rfl Yt ?_;congr 2;rw [Y0v _ ⟨by omega,by omega⟩,hfd]
     rfl
theorem ZeI:∀ (d:Nat) (f:Fm),f.depth<=d->f.size<=1099511627776->X7 Tryz.prog 109 [.agg (eC f)] (· = .val (.int .i64 f.size)):=by
 intro d
 induction d with
 | zero=>intro f hf; rw [Fm.depth_eq] at hf; omega
 | succ d ih =>
   intro f hf hd;refine Yp ok109 fun C hC=>?_;refine Zn ?_;refine Z8 ?_;refine Z5 rfl rfl rfl ?_;(refine go ?_;repeat' (apply B<;>intro hb<;>try cases hb));have hll:(f.args.map (Xg)).length=f.args.length:=by simp
   have hfs:=f.size_eq;have hlm:=Z21 f.args;refine Zv hC (fun i=>i<=f.args.length) (fun i=>f.args.length-i) 0 (fun i => [(3,.val (.int .i64 ((X1b (f.args.take i)+1:Nat):Int))),(7,.vec (f.args.map (Xg)) false),(8,.val (.int .i64 f.args.length)),(9,Yv i)]) (fun _=>[]) (Y0m _) 0 (Y0l _)
    ⟨⟨rfl,Yt⟩,⟨rfl,Z3H _ _⟩,⟨by rw [<- hll]; rfl,Yt⟩,⟨rfl,Yt⟩,Yt⟩ Yt ?_
   intro i hi;have hinc:IntKind.i64.wrap ((i:Int)+1)=((i+1:Nat):Int):=Y0v _ ⟨by omega,by omega⟩;(refine go ?_;repeat' (apply B<;>intro hb<;>try cases hb))
   . have hil : i < f.args.length := by simpa using hb
     refine Qo (Zk (xs:=f.args) rfl rfl i rfl hil (ZS _)) ?_;rw [ZR];(refine go ?_;repeat' (apply B<;>intro hb<;>try cases hb));have hdl:=ZG hil;have hsl:=Z3w hil;have hsi:=Z8q f.args (i+1);have htk:=Z5k hil;have hfd:=f.depth_eq;refine Qe (ih f.args[i] (by omega) (by omega)) ⟨Zp _,Yt⟩ ?_;(refine go ?_;repeat' (apply B<;>intro hb<;>try cases hb));refine⟨i+1,by omega,by omega,⟨⟨?_,Yt⟩,⟨rfl,Z3H _ _⟩,⟨rfl,Yt⟩,⟨by show some _=some _; rw [hinc],Yt⟩,Yt⟩,Yt⟩;show some _=some _;congr 3;rw [Y0v _ ⟨by omega,by omega⟩];omega
   . have hil : i = f.args.length := by simp at hb; omega
     subst hil;rw [Y0q] at *;exact Z4 rfl Yt (by rw [hfs])
theorem Z6Z {α β:Type} (xs:List α) (ys:List β) (enc:α->List PV) (enc2:β->List PV) (f1 f2:Bool) (g:Nat) (caps:List PV) (p:α->β->Bool) (hl:∀ x,(enc x).length=4) (hl2:∀ x,(enc2 x).length=4) (hp:∀ x,Xe (enc x)) (hp2:∀ x,Xe (enc2 x)) (hc:Xe caps)
 (hg:∀ x∈xs,∀ y∈ys,X7 Tryz.prog g (.agg (enc x) :: .agg (enc2 y) :: caps) (· = .val (.bool (p x y)))):X7 Tryz.prog 41 [.vec (xs.map enc) f1,.vec (ys.map enc2) f2,.fn g caps] (· = .val (.bool (X29 p xs ys))):=by
 have hla:(xs.map enc).length=xs.length:=by simp
 have hlb:(ys.map enc2).length=ys.length:=by simp
 refine Yp ok41 fun C hC=>?_;refine Z3m (k:=0) rfl fun hmax=>?_;have hlm:xs.length<=Xd:=by rw [hla] at hmax; exact hmax
 iterate 11 (first|refine st ?_|(apply B<;>intro hb<;>try cases hb))
 refine Zx rfl rfl rfl (fun hb=>?_) (fun hb=>?_)
 . have hne : ¬ xs.length = ys.length := by
    rw [hla,hlb] at hb;have:(¬ (xs.length:Int)=(ys.length:Int)):=by simpa using hb
    omega
   (refine go ?_;repeat' (apply B<;>intro hb<;>try cases hb));exact Z4 rfl Yt (XO (by rw [ZgW hne]))
 . have hne : xs.length = ys.length := by
    rw [hla,hlb] at hb;have:¬ ((xs.length:Int)≠(ys.length:Int)):=by simpa using hb
    omega
   clear hb;(refine go ?_;repeat' (apply B<;>intro hb<;>try cases hb));refine Zv hC (fun i=>i<=xs.length/\∀ j (h1:j<xs.length) (h2:j<ys.length),j<i->p xs[j] ys[j]=true) (fun i=>xs.length-i) 0 (fun i => [(1,.vec (ys.map enc2) f2),(2,.fn g caps),(15,.vec (xs.map enc) f1),(16,.val (.int .i64 (xs.length:Int))),(17,Yv i)]) (fun _=>[]) (Y0m _) 0 ⟨Y0l _,fun j _ _ h=>absurd h (YR j)⟩
    ⟨⟨rfl,Zc (fun _ h=>h.elim) _ (Z17 hp2 ys)⟩,⟨rfl,ZC (fun _ h=>h.elim) _ hc⟩,⟨rfl,Zc (fun _ h=>h.elim) _ (Z17 hp xs)⟩,⟨by rw [<- hla]; rfl,Yt⟩,⟨rfl,Yt⟩,Yt⟩ Yt ?_
   rintro i ⟨hi,hall⟩;have hinc:IntKind.i64.wrap ((i:Int)+1)=((i+1:Nat):Int):=Y0v _ ⟨by omega,by simp only [Xd] at hlm; omega⟩
   iterate 2 (first|refine st ?_|(apply B<;>intro hb<;>try cases hb))
   refine Zx rfl rfl rfl (fun hb=>?_) (fun hb=>?_)
   . have hil : i < xs.length := by have := Y0u hb; omega
     have hib:i<ys.length:=by omega
     clear hb;obtain⟨a1,a2,a3,a4,ha⟩:∃ a1 a2 a3 a4,enc xs[i] = [a1,a2,a3,a4]:=by
      match h:enc xs[i],hl xs[i] with
      | [a1,a2,a3,a4],_=>exact⟨a1,a2,a3,a4,rfl⟩
     obtain⟨b1,b2,b3,b4,hb⟩:∃ b1 b2 b3 b4,enc2 ys[i] = [b1,b2,b3,b4]:=by
      match h:enc2 ys[i],hl2 ys[i] with
      | [b1,b2,b3,b4],_=>exact⟨b1,b2,b3,b4,rfl⟩
     have hsp:=hg xs[i] (Y0j hil) ys[i] (Y0j hib);have hpa:=hp xs[i];have hpb:=hp2 ys[i];rw [ha,hb] at hsp;rw [ha] at hpa;rw [hb] at hpb;(refine go ?_;repeat' (apply B<;>intro hb<;>try cases hb));refine Qo (Zk (xs:=xs) rfl rfl i rfl hil (hl _)) ?_;rw [ha];(refine go ?_;repeat' (apply B<;>intro hb<;>try cases hb));refine Qo (Zk (xs:=ys) rfl rfl i rfl hib (hl2 _)) ?_;rw [hb];(refine go ?_;repeat' (apply B<;>intro hb<;>try cases hb));refine Qe hsp ⟨hpa,hpb,hc⟩ ?_;cases hpp:p xs[i] ys[i]
     . (refine go ?_;repeat' (apply B<;>intro hb<;>try cases hb))
       exact Z4 rfl Yt (XO (by
        cases he:X29 p xs ys with
        | false=>rfl
        | true=>have:=Z9a he i hil hib; rw [hpp] at this; cases this))
     . (refine go ?_;repeat' (apply B<;>intro hb<;>try cases hb));refine⟨i+1,⟨by omega,fun j h1 h2 hj=>?_⟩,by omega,⟨⟨rfl,Zc (fun _ h=>h.elim) _ (Z17 hp2 ys)⟩,⟨rfl,ZC (fun _ h=>h.elim) _ hc⟩,⟨rfl,Zc (fun _ h=>h.elim) _ (Z17 hp xs)⟩,⟨rfl,Yt⟩,⟨by show some _=some _; rw [hinc],Yt⟩,Yt⟩,Yt⟩;by_cases hji:j=i
       . subst hji; exact hpp
       . exact hall j h1 h2 (by omega)
   . have hil : i = xs.length := by have := YH hb; omega
     subst hil;clear hb;(refine go ?_;repeat' (apply B<;>intro hb<;>try cases hb));exact Z4 rfl Yt (XO (by rw [Zcb hne fun j h1 h2=>hall j h1 h2 h1]))
def n6:List ByteArray:=nmU 6
theorem ZkG:(n6.map XZ).length=6:=by simp [n6,nmU]
theorem Zl2:∀ r:Nat,r<7->0<r->rnB (r:Int)=nmV r:=by decide +kernel
theorem ZkH {r : Int} (h : 1<=r/\r<=6) : ∃ hi : r.toNat - 1 < n6.length,n6[r.toNat - 1]'hi = rnB r := by
 have hr:((r.toNat:Nat):Int)=r:=by omega
 have hl:n6.length=6:=Z5t 6;refine⟨by omega,?_⟩;have:=Zc8 6 (r.toNat-1) (by omega);rw [show n6[r.toNat - 1]'(by omega) = (nmU 6)[r.toNat - 1]'(by rw [Z5t];omega) from rfl,this,show r.toNat - 1 + 1 = r.toNat by omega,<- Zl2 _ (by omega) (by omega),hr]
theorem Zk4 {r:Int} (h:1<=r/\r<=6):XT (.one 2) (.val (.string (rnB r))) (X2e 0 n6)=some (some (r.toNat-1))/\((X2e 0 n6).getD (r.toNat-1) []).getD 1 pvu=.val (.int .i64 r):=by
 have:r=1 \/ r=2 \/ r=3 \/ r=4 \/ r=5 \/ r=6:=by omega
 rcases this with rfl|rfl|rfl|rfl|rfl|rfl<;>exact⟨by kernel_rfl,by kernel_rfl⟩
def PT1:Nat->List PV:=fun k => [X31 n6 k]
theorem X6G:MkL PT1:=Zw (Z33 _) Z1S
def PT2 (v:PV):Nat->List PV:=fun k => [X31 n6 k,v]
theorem X61 {v:PV} (hv:v.pure):MkL (PT2 v):=Zw (Z33 _) (Zw (Z1C hv) Z1S)
theorem Zt (xs:List ByteArray):X2 (X22 xs).elems:=Z43 0 xs
theorem ZgY:Xu Tryz.prog 62 PT1 (X22 n6) fun q b'=>q=.val (.int .i64 6)/\b'=X22 n6:=by
 refine Zi ok62 (Y0 rfl) fun C hC=>?_;(repeat'(first|refine Z1 9 ?_|refine Z0 9 ?_|refine st ?_|(apply B<;>intro hb<;>try cases hb)))<;>try refine At.mk ?_
 refine Ze (v:=6) rfl rfl rfl (by rw [ZkG]; rfl) ?_;(refine go ?_;repeat' (apply B<;>intro hb<;>try cases hb));exact Z12 rfl Yt rfl (Zt _) ⟨rfl,rfl⟩
theorem ZeJ {r:Int} (h:1<=r/\r<=6):Xu Tryz.prog 107 (PT2 (.val (.int .i64 r))) (X22 n6) fun q b'=>q=.tup [.val (.string (rnB r)),.val (.bool true)]/\b'=X22 n6:=by
 obtain⟨hi,hg⟩:=ZkH h;have hr:((r.toNat:Nat):Int)=r:=by omega
 have h1:IntKind.i64.wrap (r-1)=((r.toNat-1:Nat):Int):=by rw [show r-1=((r.toNat-1:Nat):Int) by omega]; exact Y0v _ ⟨by omega,by omega⟩
 refine Zi ok107 (Y0 rfl) fun C hC=>?_;(repeat'(first|refine Z1 7 ?_|refine Z0 7 ?_|refine st ?_|(apply B<;>intro hb<;>try cases hb)))<;>try refine At.mk ?_
 refine Qo (Qz rfl (by omega)) ?_;(repeat'(first|refine Z1 11 ?_|refine Z0 11 ?_|refine st ?_|(apply B<;>intro hb<;>try cases hb)))<;>try refine At.mk ?_
 refine Zj rfl ?_;refine ZZ 0 ZgY X6G rfl rfl rfl rfl (Zt _) ?_;rintro q b' - - ⟨rfl,rfl⟩;refine Zj rfl ?_;refine Qo (Qz rfl (by omega)) ?_;(repeat'(first|refine Z1 19 ?_|refine Z0 19 ?_|refine st ?_|(apply B<;>intro hb<;>try cases hb)))<;>try refine At.mk ?_
 refine Ze rfl rfl rfl h1 ?_;refine Qo (Zk (xs:=n6) (g:=XZ) rfl rfl (r.toNat-1) rfl hi rfl) ?_;rw [hg];(refine go ?_;repeat' (apply B<;>intro hb<;>try cases hb));exact Z12 rfl ⟨Yt,Yt,Yt⟩ rfl (Zt _) ⟨rfl,rfl⟩
theorem ZgZ {n:Nat} {e:Env} {h:X0} {agg:Bool} {z:List Value} {x y:Operand} {i j:Nat} {b:Bx} {c:KC} {kp p:PV} (hx:ev e x=some (.mp i)) (hy:ev e y=some kp) (hb:h i=some b) (hz:b.esz=0) (hk:X2t c kp kp=some true) (hf:XT c kp b.elems=some (some j)) (hp:(b.elems.getD j []).getD 1 pvu=p) :
 X1 (.lookup c agg z true x y) e h n=some (.tup [p,.val (.bool true)],h):=by
 subst hp;simp [X1,hx,hy,hb,hz,hk,hf]
theorem Z9b {r:Int} (h:1<=r/\r<=6):Xu Tryz.prog 125 (PT2 (.val (.string (rnB r)))) (X22 n6) fun q b'=>q=.tup [.val (.int .i64 r),.val (.bool true)]/\b'=X22 n6:=by
 obtain⟨h1,h2⟩:=Zk4 h;refine Zi ok125 (Y0 rfl) fun C hC=>?_;(repeat'(first|refine Z1 16 ?_|refine Z0 16 ?_|refine st ?_|(apply B<;>intro hb<;>try cases hb)))<;>try refine At.mk ?_
 refine Qo (ZgZ (b:=X22 n6) rfl rfl rfl rfl (X5q _) h1 h2) ?_;(refine go ?_;repeat' (apply B<;>intro hb<;>try cases hb));exact Z12 rfl ⟨Yt,Yt,Yt⟩ rfl (Zt _) ⟨rfl,rfl⟩
theorem Z82 (k:Nat) (h1:1<=k) (h2:k<=64):X7 Tryz.prog 18 [.val (.int .i64 (k:Int))] (· = XH (2 ^ k-1)):=by
 refine Yp ok18 fun C hC=>?_;have hq:IntKind.i64.wrap (((k+63:Nat):Int).tdiv 64)=((1:Nat):Int):=by
  rw [Y2y _ _ ⟨by omega,by omega,by omega⟩]; omega
 (repeat'(first|refine Z1 6 ?_|refine Z0 6 ?_|refine st ?_|(apply B<;>intro hb<;>try cases hb)))<;>try refine At.mk ?_
 refine Ze rfl rfl rfl (v:=(k:Int)) (by split<;>omega) ?_;refine Ze rfl rfl rfl (v:=(k:Int)) (by split<;>omega) ?_;(repeat'(first|refine Z1 9 ?_|refine Z0 9 ?_|refine st ?_|(apply B<;>intro hb<;>try cases hb)))<;>try refine At.mk ?_
 refine Ze rfl rfl rfl (show IntKind.i64.wrap ((k:Int)+63)=((k+63:Nat):Int) from Y0v _ ⟨by omega,by omega⟩) ?_;(repeat'(first|refine Z1 10 ?_|refine Z0 10 ?_|refine st ?_|(apply B<;>intro hb<;>try cases hb)))<;>try refine At.mk ?_
 refine Ze rfl rfl rfl hq ?_;(refine go ?_;repeat' (apply B<;>intro hb<;>try cases hb));refine Zh 1 ?_;(repeat'(first|refine Z1 22 ?_|refine Z0 22 ?_|refine st ?_|(apply B<;>intro hb<;>try cases hb)))<;>try refine At.mk ?_
 by_cases hk:k=64
 . subst hk
   repeat' (first|refine Zm (Zo (k:=33) rfl rfl (ZP rfl)) ?_|(first|refine st ?_|(apply B<;>intro hb<;>try cases hb)))
   exact Z4 rfl (Z1x rfl) (by rw [Z3d (by decide) (by decide)]; rfl)
 . have hr : (k : Int).tmod 64 = ((k : Nat) : Int) := by rw [Y12 (by omega)]; omega
   refine Ze rfl rfl rfl hr ?_;refine Qo (Za (v:=true) rfl (by simp;omega)) ?_;(repeat'(first|refine Z1 29 ?_|refine Z0 29 ?_|refine st ?_|(apply B<;>intro hb<;>try cases hb)))<;>try refine At.mk ?_
   refine Ze rfl rfl rfl hr ?_
   refine Qo (ZfF rfl rfl (by omega) (v:=((2 ^ k:Nat):Int)) (by
    rw [show min ((k:Int)).toNat IntKind.u64.bits=k by simp [IntKind.bits]; omega];have hp:=Z2k (show k<64 by omega);rw [Y3J,show (2:Int) ^ k=((2 ^ k:Nat):Int) by simp]
    exact Y0x _ ⟨Y1U _,Y2I.2 (show _<=18446744073709551615 by omega)⟩)) ?_
   refine Ze rfl rfl rfl (v:=((2 ^ k-1:Nat):Int)) (by
    have hp:=Z2k (show k<64 by omega);have:=Nat.two_pow_pos k;rw [show ((2 ^ k:Nat):Int)-1=((2 ^ k-1:Nat):Int) by omega]
    exact Y0x _ ⟨Y1U _,Y2I.2 (show _<=18446744073709551615 by omega)⟩) ?_
   have hp:=Z2k (show k<64 by omega);have hp2:2<=2 ^ k:=Y1f (n:=2) (by decide) h1
   repeat' (first|refine Zm (Zo (k:=33) rfl rfl (ZP rfl)) ?_|(first|refine st ?_|(apply B<;>intro hb<;>try cases hb)))
   exact Z4 rfl (Z1x rfl) (by rw [Z3d (by omega) (by omega)]; rfl)
theorem ZiI {N M:Nat} (hN:N<18446744073709551616):N &&& M<18446744073709551616:=Y02 Y2c hN
theorem ZiJ (a b:Nat) (ha:a<18446744073709551616) (hb:b<18446744073709551616):bits .and .u64 (a:Int) (b:Int)=((a &&& b:Nat):Int):=by
 have h1:(BitVec.ofInt 64 (a:Int)).toNat=a:=by rw [Y1p,Y1v]; exact Y1a (by omega)
 have h2:(BitVec.ofInt 64 (b:Int)).toNat=b:=by rw [Y1p,Y1v]; exact Y1a (by omega)
 show IntKind.u64.wrap ((BitVec.ofInt 64 (a:Int) &&& BitVec.ofInt 64 (b:Int)).toNat:Int)=_;rw [Y3k,h1,h2];have:a &&& b<=a:=Y2c;exact Y0x _ ⟨by omega,by omega⟩
theorem Zh0 (N M:Nat) (hN:N<18446744073709551616) (hM:M<18446744073709551616):X7 Tryz.prog 17 [XH N,XH M] (· = XH (N &&& M)):=by
 have hlt:=ZiI (M:=M) hN;rcases Z1f hN with⟨rfl,e1⟩|⟨h1,e1⟩<;>rcases Z1f hM with⟨rfl,e2⟩|⟨h2,e2⟩<;>rw [e1]<;>(try rw [e2])<;>clear e1 e2
 all_goals
  refine Yp ok17 fun C hC=>?_;refine Zn ?_;refine Z8 ?_;refine Z5 rfl rfl rfl ?_;refine Z5 rfl rfl rfl ?_;(refine go ?_;repeat' (apply B<;>intro hb<;>try cases hb));refine Zh 1 ?_
 case inr.inr =>
  (repeat'(first|refine Z1 32 ?_|refine Z0 32 ?_|refine st ?_|(apply B<;>intro hb<;>try cases hb)))<;>try refine At.mk ?_
  refine Qr (Z2N rfl (ZiJ N M hN hM)) ?_
  repeat' (first|refine Zm (Zo (k:=35) rfl rfl (ZP rfl)) ?_|(first|refine st ?_|(apply B<;>intro hb<;>try cases hb)))
  refine Z13 rfl rfl (Z28 [N &&& M]) (ZV rfl) rfl fun r hr=>?_;have hw:X1o [N &&& M]:=fun x hx=>by rw [Y0g.1 hx]; exact hlt
  have e1:=hr.set hw;have e2:ofW [N &&& M]=N &&& M:=by simp [ofW]
  rw [e2] at e1;subst e1;(refine go ?_;repeat' (apply B<;>intro hb<;>try cases hb));exact Z4 rfl (Z9 _) rfl
 all_goals
  repeat' (first|refine Zm (Zo (k:=35) rfl rfl (ZP rfl)) ?_|(first|refine st ?_|(apply B<;>intro hb<;>try cases hb)))
  refine Z13 rfl rfl (Z28 []) (ZV rfl) rfl fun r hr=>?_;have e1:=hr.set (fun x hx=>by cases hx);subst e1;(refine go ?_;repeat' (apply B<;>intro hb<;>try cases hb));exact Z4 rfl (Z9 _) (show XH (ofW [])=_ by simp [ofW])
theorem Z70 (N M:Nat) (hN:N<18446744073709551616) (hM:M<18446744073709551616):X7 Tryz.prog 19 [XH N,XH M] (· = XH (XN N M)):=by
 have hlt:=Z4Q (b:=M) hN;have hz:∀ M,XN 0 M=0:=fun M=>Nat.le_zero.1 Y2c;have fin:∀ {r:PV} {x:Nat},x<18446744073709551616->X3V [x] r->r=XH x:=fun {r x} hx hr=>by
  have e1:=hr.set (fun y hy=>by rw [Y0g.1 hy]; exact hx);have e2:ofW [x]=x:=by simp [ofW]
  rw [e2] at e1;exact e1
 rcases Z1f hN with⟨rfl,e1⟩|⟨h1,e1⟩<;>rcases Z1f hM with⟨rfl,e2⟩|⟨h2,e2⟩<;>rw [e1]<;>(try rw [e2])<;>clear e1 e2
 all_goals
  refine Yp ok19 fun C hC=>?_;refine Zn ?_;refine Z8 ?_;refine Z5 rfl rfl rfl ?_;refine Z5 rfl rfl rfl ?_;(refine go ?_;repeat' (apply B<;>intro hb<;>try cases hb));refine Zh 1 ?_
 . repeat' (first | refine Zm (Zo (k := 29) rfl rfl (ZP rfl)) ?_ | (first|refine st ?_|(apply B<;>intro hb<;>try cases hb)))
   refine Z13 rfl rfl (Z28 []) (ZV rfl) rfl fun r hr=>?_;have e1:=hr.set (fun x hx=>by cases hx);subst e1;(refine go ?_;repeat' (apply B<;>intro hb<;>try cases hb));exact Z4 rfl (Z9 _) (show XH (ofW [])=_ by rw [hz]; simp [ofW])
 . repeat' (first | refine Zm (Zo (k := 29) rfl rfl (ZP rfl)) ?_ | (first|refine st ?_|(apply B<;>intro hb<;>try cases hb)))
   refine Z13 rfl rfl (Z28 []) (ZV rfl) rfl fun r hr=>?_;have e1:=hr.set (fun x hx=>by cases hx);subst e1;(refine go ?_;repeat' (apply B<;>intro hb<;>try cases hb));exact Z4 rfl (Z9 _) (show XH (ofW [])=_ by rw [hz]; simp [ofW])
 . (repeat'(first|refine Z1 25 ?_|refine Z0 25 ?_|refine st ?_|(apply B<;>intro hb<;>try cases hb)))<;>try refine At.mk ?_
   refine Qd (Z1i [] 0) (ZV rfl) ?_;refine Qr (Z2N rfl (Z1o N 0 hN hM)) ?_
   repeat' (first|refine Zm (Zo (k:=29) rfl rfl (ZP rfl)) ?_|(first|refine st ?_|(apply B<;>intro hb<;>try cases hb)))
   refine Z13 rfl rfl (Z28 [XN N 0]) (ZV rfl) rfl fun r hr=>?_;obtain rfl:=fin hlt hr;(refine go ?_;repeat' (apply B<;>intro hb<;>try cases hb));exact Z4 rfl (Z9 _) rfl
 . (repeat'(first|refine Z1 25 ?_|refine Z0 25 ?_|refine st ?_|(apply B<;>intro hb<;>try cases hb)))<;>try refine At.mk ?_
   refine Qd (Z1i [M] 0) (ZV rfl) ?_;refine Qr (Z2N rfl (Z1o N M hN hM)) ?_
   repeat' (first|refine Zm (Zo (k:=29) rfl rfl (ZP rfl)) ?_|(first|refine st ?_|(apply B<;>intro hb<;>try cases hb)))
   refine Z13 rfl rfl (Z28 [XN N M]) (ZV rfl) rfl fun r hr=>?_;obtain rfl:=fin hlt hr;(refine go ?_;repeat' (apply B<;>intro hb<;>try cases hb));exact Z4 rfl (Z9 _) rfl
mutual
theorem Z71:∀ f:Fm,X1h (Xg f)=Xg f
 | .mk op n roles args => by
   simp only [Xg,X1h,PV.low];rw [Z5M args];have:X13 (X1B roles)=X1B roles:=by simp [X1B,Z35,X1h,PV.low]
   rw [this]
theorem Z5M:∀ l:List Fm,X13 (X1M l)=X1M l
 | []=>rfl
 | a :: r=>by simp only [X1M,X13]; rw [Z71 a,Z5M r]
end
theorem Zcd (f:Fm):X1h (eC f)=eC f:=by rw [<- ZR,Z71]
theorem Z9c (op:Int) (a b:Fm):X7 Tryz.prog 115 [.val (.int .u8 op),.agg (eC a),.agg (eC b)] (· = .agg (eC (.mk op 0 [] [a,b]))):=by
 refine Yp ok115 fun C hC=>?_;refine Zn ?_;refine Z8 ?_;refine Z5 rfl rfl rfl ?_;refine Z5 rfl rfl rfl ?_;(refine go ?_;repeat' (apply B<;>intro hb<;>try cases hb));have he:PV.agg [.val (.int .u8 op),.val (.int .i64 0),.vec [] false,.vec [X1h (eC a),X1h (eC b)] false]=.agg (eC (.mk op 0 [] [a,b])):=by
  rw [Zcd,Zcd,<- ZR,<- ZR]; rfl
 exact Z8o rfl (show PV.pure (.agg [.val (.int .u8 op),.val (.int .i64 0),.vec [] false,.vec [X1h (eC a),X1h (eC b)] false]) by rw [he]; exact Zp _) he
theorem Z2T {T:List Tp} {i:Nat} {t:Tk} (h:(T.map (·.1))[i]?=some t) (hl:T.length<=100000):∃ a,Rd T i (t,a):=by
 rw [Y0y] at h;obtain⟨x,hx,rfl⟩:=YN.1 h;exact⟨x.2,hx,hl⟩
def P1:Nat->List PV:=fun k => [.cp [.ptr k 0 0]]
theorem X32:MkL P1:=Zw Zav Z1S
def fnL:Nat->FuncId
 | 1=>68
 | 2=>113
 | 3=>193
 | 4=>267
 | 5=>324
 | 6=>356
 | _=>374
def S (lv:Nat) (f:Fm):Prop:=∀ (T:List Tp) (i:Nat),T.length<=100000->TAt (T.map (·.1)) i (Xy lv f)->Nxt lv (T.map (·.1)) (i+(Xy lv f).length) ->
 Xu Tryz.prog (fnL lv) P1 (rdB T i) fun r b'=>r=.agg (eC f)/\b'=rdB T (i+(Xy lv f).length)
theorem Zk5 {T:List Tp} {i:Nat} {x:Tp} (h:Rd T i x) (hn:∀ op:Int,11<=op->op<=15->isT x.1 (opS op)=false) :
 Xu Tryz.prog 357 P1 (rdB T i) fun r b'=>r=.tup [.val (.int .u8 0),.val (.bool false)]/\b'=rdB T i:=by
 have hp:Xe [PV.val (.string (toB [60,61]))]:=⟨Yt,Yt⟩
 refine Zi ok357 (Y0 rfl) fun C hC=>?_;(repeat'(first|refine Z1 9 ?_|refine Z0 9 ?_|refine st ?_|(apply B<;>intro hb<;>try cases hb)))<;>try refine At.mk ?_
 refine Zb (Z6W h [60,61] (hn 11 (by decide) (by decide))) rfl rfl rfl rfl (Z7 T i) ⟨Yt,Yt⟩ ?_;rintro r b' - - ⟨rfl,rfl⟩;(repeat'(first|refine Z1 15 ?_|refine Z0 15 ?_|refine st ?_|(apply B<;>intro hb<;>try cases hb)))<;>try refine At.mk ?_
 refine Zb (Z6W h [60] (hn 12 (by decide) (by decide))) rfl rfl rfl rfl (Z7 T i) ⟨Yt,Yt⟩ ?_;rintro r b' - - ⟨rfl,rfl⟩;(repeat'(first|refine Z1 21 ?_|refine Z0 21 ?_|refine st ?_|(apply B<;>intro hb<;>try cases hb)))<;>try refine At.mk ?_
 refine Zb (Z6W h [62,61] (hn 13 (by decide) (by decide))) rfl rfl rfl rfl (Z7 T i) ⟨Yt,Yt⟩ ?_;rintro r b' - - ⟨rfl,rfl⟩;(repeat'(first|refine Z1 27 ?_|refine Z0 27 ?_|refine st ?_|(apply B<;>intro hb<;>try cases hb)))<;>try refine At.mk ?_
 refine Zb (Z6W h [62] (hn 14 (by decide) (by decide))) rfl rfl rfl rfl (Z7 T i) ⟨Yt,Yt⟩ ?_;rintro r b' - - ⟨rfl,rfl⟩;(repeat'(first|refine Z1 33 ?_|refine Z0 33 ?_|refine st ?_|(apply B<;>intro hb<;>try cases hb)))<;>try refine At.mk ?_
 refine Zb (Z6W h [61,61] (hn 15 (by decide) (by decide))) rfl rfl rfl rfl (Z7 T i) ⟨Yt,Yt⟩ ?_;rintro r b' - - ⟨rfl,rfl⟩;(refine go ?_;repeat' (apply B<;>intro hb<;>try cases hb));exact Z12 rfl ⟨Yt,Yt,Yt⟩ rfl (Z7 T i) ⟨rfl,rfl⟩
theorem ZiK {T:List Tp} {i:Nat} {a:Nat} {op:Int} (h1:11<=op) (h2:op<=15) (h:Rd T i (opT op,a)) :
 Xu Tryz.prog 357 P1 (rdB T i) fun r b'=>r=.tup [.val (.int .u8 op),.val (.bool true)]/\b'=rdB T (i+1):=by
 have hb:op=11 \/ op=12 \/ op=13 \/ op=14 \/ op=15:=by omega
 refine Zi ok357 (Y0 rfl) fun C hC=>?_;(repeat'(first|refine Z1 9 ?_|refine Z0 9 ?_|refine st ?_|(apply B<;>intro hb<;>try cases hb)))<;>try refine At.mk ?_
 rcases hb with rfl|hb
 . refine Zb (X4a h [60, 61] (by decide)) rfl rfl rfl rfl (Z7 T i) ⟨Yt, Yt⟩ ?_;rintro r b' - - ⟨rfl,rfl⟩;(refine go ?_;repeat' (apply B<;>intro hb<;>try cases hb));exact Z12 rfl ⟨Yt,Yt,Yt⟩ rfl (Z7 T (i+1)) ⟨rfl,rfl⟩
 refine Zb (X3b h [60,61] (by rcases hb with rfl|rfl|rfl|rfl<;>decide)) rfl rfl rfl rfl (Z7 T i) ⟨Yt,Yt⟩ ?_;rintro r b' - - ⟨rfl,rfl⟩;(repeat'(first|refine Z1 15 ?_|refine Z0 15 ?_|refine st ?_|(apply B<;>intro hb<;>try cases hb)))<;>try refine At.mk ?_
 rcases hb with rfl|hb
 . refine Zb (X4a h [60] (by decide)) rfl rfl rfl rfl (Z7 T i) ⟨Yt, Yt⟩ ?_;rintro r b' - - ⟨rfl,rfl⟩;(refine go ?_;repeat' (apply B<;>intro hb<;>try cases hb));exact Z12 rfl ⟨Yt,Yt,Yt⟩ rfl (Z7 T (i+1)) ⟨rfl,rfl⟩
 refine Zb (X3b h [60] (by rcases hb with rfl|rfl|rfl<;>decide)) rfl rfl rfl rfl (Z7 T i) ⟨Yt,Yt⟩ ?_;rintro r b' - - ⟨rfl,rfl⟩;(repeat'(first|refine Z1 21 ?_|refine Z0 21 ?_|refine st ?_|(apply B<;>intro hb<;>try cases hb)))<;>try refine At.mk ?_
 rcases hb with rfl|hb
 . refine Zb (X4a h [62, 61] (by decide)) rfl rfl rfl rfl (Z7 T i) ⟨Yt, Yt⟩ ?_;rintro r b' - - ⟨rfl,rfl⟩;(refine go ?_;repeat' (apply B<;>intro hb<;>try cases hb));exact Z12 rfl ⟨Yt,Yt,Yt⟩ rfl (Z7 T (i+1)) ⟨rfl,rfl⟩
 refine Zb (X3b h [62,61] (by rcases hb with rfl|rfl<;>decide)) rfl rfl rfl rfl (Z7 T i) ⟨Yt,Yt⟩ ?_;rintro r b' - - ⟨rfl,rfl⟩;(repeat'(first|refine Z1 27 ?_|refine Z0 27 ?_|refine st ?_|(apply B<;>intro hb<;>try cases hb)))<;>try refine At.mk ?_
 rcases hb with rfl|rfl
 . refine Zb (X4a h [62] (by decide)) rfl rfl rfl rfl (Z7 T i) ⟨Yt, Yt⟩ ?_;rintro r b' - - ⟨rfl,rfl⟩;(refine go ?_;repeat' (apply B<;>intro hb<;>try cases hb));exact Z12 rfl ⟨Yt,Yt,Yt⟩ rfl (Z7 T (i+1)) ⟨rfl,rfl⟩
 refine Zb (X3b h [62] (by decide)) rfl rfl rfl rfl (Z7 T i) ⟨Yt,Yt⟩ ?_;rintro r b' - - ⟨rfl,rfl⟩;(repeat'(first|refine Z1 33 ?_|refine Z0 33 ?_|refine st ?_|(apply B<;>intro hb<;>try cases hb)))<;>try refine At.mk ?_
 refine Zb (X4a h [61,61] (by decide)) rfl rfl rfl rfl (Z7 T i) ⟨Yt,Yt⟩ ?_;rintro r b' - - ⟨rfl,rfl⟩;(refine go ?_;repeat' (apply B<;>intro hb<;>try cases hb));exact Z12 rfl ⟨Yt,Yt,Yt⟩ rfl (Z7 T (i+1)) ⟨rfl,rfl⟩
def eZ:List PV := [.val (.int .u8 0),.val (.int .i64 0),.vec [] true,.vec [] true]
theorem Z2e:Xe eZ:=⟨Yt,Yt,Yt,Yt,Yt⟩
theorem Z5N (D:Nat->Prop):XG D [eZ]:=⟨⟨Yt,Yt,Yt,Yt,Yt⟩,Yt⟩
def X2E (op:Int) (x:Fm) (l:List Fm):Fm:=l.foldl (fun x b=>.mk op 0 [] [x,b]) x
theorem ZeK {op:Int} {x:Fm} {l:List Fm} {m:Nat} (h:m<l.length):X2E op x (l.take (m+1))=.mk op 0 [] [X2E op x (l.take m),l[m]]:=by
 unfold X2E;rw [YI,Y0c h,Y2C]
 rfl
def PL (op:Int) (g:FuncId):Nat->List PV:=fun k => [.cp [.ptr k 0 0],.val (.string (toB (opS op))),.val (.int .u8 op),.bf g [.cp [.ptr k 0 0]]]
theorem X6u (op:Int) (g:FuncId):MkL (PL op g):=Zw Zav (Zw (Z1C Yt) (Zw (Z1C Yt) (Zw (ZkF g) Z1S)))
theorem Z72 {op:Int} (ho:X2z op) (lv:Nat) (hlv:lv=stM op+1) (a:Fm) (l:List Fm) (ha:S lv a) (hl:∀ x∈l,S lv x) (T:List Tp) (i:Nat) (hT:T.length<=100000) (hat:TAt (T.map (·.1)) i (Xy lv a++Xf op lv l)) (hn:Nxt (stM op) (T.map (·.1)) (i+(Xy lv a).length+(Xf op lv l).length)) :
 Xu Tryz.prog 192 (PL op (fnL lv)) (rdB T i) fun r b'=>r=.agg (eC (X2E op a l))/\b'=rdB T (i+(Xy lv a).length+(Xf op lv l).length):=by
 have h8:8<=op/\op<=16:=by rcases ho with rfl|rfl|rfl<;>decide
 have hsl:stM op<lv:=by omega
 have hA:=hat.left;have hB:=hat.right;have hnx:∀ m,m<=l.length->Nxt lv (T.map (·.1)) (i+(Xy lv a).length+X3I op lv l m):=fun m hm=>Zdf h8.1 h8.2 hB hsl hn hm;refine Zi ok192 (Y0 rfl) fun C hC=>?_;(repeat'(first|refine Z1 11 ?_|refine Z0 11 ?_|refine st ?_|(apply B<;>intro hb<;>try cases hb)))<;>try refine At.mk ?_
 refine ZgT 0 (ha T i hT hA (by have:=hnx 0 (Y0l _); rwa [Za4,YX] at this)) X32 rfl rfl rfl rfl (Z7 T i) ?_;rintro r b' - - ⟨rfl,rfl⟩;(refine go ?_;repeat' (apply B<;>intro hb<;>try cases hb));refine Zv hC (fun m=>m<=l.length) (fun m=>l.length-m) 3 (fun m => [(0,.cp [.ptr 0 0 0]),(1,.val (.string (toB (opS op)))),(2,.val (.int .u8 op)),(3,.bf (fnL lv) [.cp [.ptr 0 0 0]]),(8,.ptr 1 0 0),(9,.ptr 2 0 0)])
  (fun m => [(0,rdB T (i+(Xy lv a).length+X3I op lv l m)),(1,⟨4,[eZ]⟩),(2,⟨4,[eC (X2E op a (l.take m))]⟩)]) (by omega) 0 (Y0l _)
  ⟨⟨rfl,show (0:Nat)<3 by decide,Yt⟩,⟨rfl,Yt⟩,⟨rfl,Yt⟩,⟨rfl,⟨show (0:Nat)<3 by decide,Yt⟩,Yt⟩,⟨rfl,show (1:Nat)<3 by decide⟩,⟨rfl,show (2:Nat)<3 by decide⟩,Yt⟩
  ⟨⟨by decide,rfl,Zc (fun _ h=>h.elim) _ (Z7 _ _)⟩,⟨by decide,rfl,Z5N _⟩,⟨by decide,rfl,⟨Zaq _ _,Yt⟩⟩,Yt⟩ ?_
 intro m hm;(repeat'(first|refine Z1 17 ?_|refine Z0 17 ?_|refine st ?_|(apply B<;>intro hb<;>try cases hb)))<;>try refine At.mk ?_
 by_cases hml:m<l.length
 . obtain ⟨h1, h2⟩ := ZbM hB hml;obtain⟨at_,hrd⟩:=Z2T h1 hT;refine Zb (Zc9 hrd (opS op) (by show isT (opT op) (opS op)=true; rw [Zja h8.1 h8.2 h8.1 h8.2]; exact YF rfl)) rfl rfl rfl rfl (Z7 T _) ⟨Yt,Yt⟩ ?_;rintro r b' - - ⟨rfl,rfl⟩;have hx:=hl _ (Y0j hml) T _ hT h2 (by have:=hnx (m+1) hml; rw [Z50 op lv hml] at this; simpa only [YL] using this)
   repeat' (first|(show aw _ _ (.draw _) _ _ _ _; refine ZeG ?_)|(first|refine st ?_|(apply B<;>intro hb<;>try cases hb)))
   repeat' (first
    | (show Xj _ (⟨some _,.call _ [],none⟩ :: _) _ _ _ _; refine ZgT 0 hx X32 rfl rfl rfl rfl (Z7 T _) ?_; rintro r b' - - ⟨rfl,rfl⟩; show Xj _ _ _ _ _ _)
    | (show Xj _ (⟨some _,.call _ (_ :: _),none⟩ :: _) _ _ _ _; refine Z6 (Z9c op (X2E op a (l.take m)) l[m]) rfl rfl rfl ⟨Yt,Zp _,Zp _,Yt⟩ rfl ?_; show Xj _ _ _ _ _ _)
    | (show Xj _ _ _ _ _ _; refine st ?_)
    | exact Yt
    | refine And.intro ?_ ?_)
   all_goals exact Lf.mk ⟨m+1,hml,by omega,
    ⟨⟨rfl,show (0:Nat)<3 by decide,Yt⟩,⟨rfl,Yt⟩,⟨rfl,Yt⟩,⟨rfl,⟨show (0:Nat)<3 by decide,Yt⟩,Yt⟩,⟨rfl,show (1:Nat)<3 by decide⟩,⟨rfl,show (2:Nat)<3 by decide⟩,Yt⟩,
    ⟨⟨by decide,by rw [Z50 op lv hml,<- YL,<- YL]; rfl,Zc (fun _ h=>h.elim) _ (Z7 _ _)⟩,⟨by decide,rfl,Z5N _⟩,⟨by decide,by rw [ZeK hml]; rfl,⟨Zaq _ _,Yt⟩⟩,Yt⟩⟩
 . obtain rfl : m = l.length := by omega
   obtain⟨t,h1,h2⟩:=(show Nxt (stM op) (T.map (·.1)) (i+(Xy lv a).length+X3I op lv l l.length) by rw [Z4Z]; exact hn).not h8.1 h8.2 (Y0m _);obtain⟨at_,hrd⟩:=Z2T h1 hT;refine Zb (Z6W hrd (opS op) h2) rfl rfl rfl rfl (Z7 T _) ⟨Yt,Yt⟩ ?_;rintro r b' - - ⟨rfl,rfl⟩;(refine go ?_;repeat' (apply B<;>intro hb<;>try cases hb));rw [Y0q,Z4Z];exact Z12 rfl (Zp _) rfl (Z7 T _) ⟨rfl,rfl⟩
theorem Zh1:∀ {rs:List Int} {T:List Tk} {j m:Nat},TAt T j (X2g rs ++ [rpT])->(hm:m<rs.length)->T[j+2*m]?=some coT/\T[j+2*m+1]?=some (rnT rs[m])
 | [],_,_,_,_,hm=>absurd hm (YR _)
 | r :: rs, T, j, 0, h, hm => by
   have h:TAt T j (coT :: rnT r :: (X2g rs ++ [rpT])):=h;exact⟨h.head,h.tail.head⟩
 | r :: rs, T, j, m + 1, h, hm => by
   have h:TAt T j (coT :: rnT r :: (X2g rs ++ [rpT])):=h;have:=Zh1 (m:=m) h.tail.tail (by simpa using hm);rw [show j+1+1+2*m=j+2*(m+1) by omega] at this;exact this
theorem Zdv:∀ {rs:List Int} {T:List Tk} {j:Nat},TAt T j (X2g rs ++ [rpT])->T[j+2*rs.length]?=some rpT
 | [],_,_,h=>h.head
 | r :: rs, T, j, h => by
   have h:TAt T j (coT :: rnT r :: (X2g rs ++ [rpT])):=h;have:=Zdv h.tail.tail;rw [show j+1+1+2*rs.length=j+2*(r :: rs).length by simp; omega] at this;exact this
theorem Zaw:∀ rs:List Int,(X2g rs).length=2*rs.length
 | []=>rfl
 | r :: rs=>by show (coT :: rnT r :: X2g rs).length=_; simp [Zaw rs]; omega
def PN:Nat->List PV:=fun k => [.cp [.ptr k 0 0],.val (.int .u8 5),.val (.bool true)]
theorem X7K:MkL PN:=Zw Zav (Zw (Z1C Yt) (Zw (Z1C Yt) Z1S))
theorem Zax {l:List Int} {m:Nat} (h:m<l.length):X1B (l.take m) ++ [[.val (.string (rnB l[m]))]]=X1B (l.take (m+1)):=by
 unfold X1B;rw [YI,Y0c h,Y0r]; rfl
theorem ZeL (r:Int) (rs:List Int) (h0:∀ x∈r :: rs,1<=x/\x<=6) (hlen:rs.length<=7) (T:List Tp) (i:Nat) (hT:T.length<=100000) (hat:TAt (T.map (·.1)) i (lpT :: rnT r :: (X2g rs ++ [rpT]))) :
 Xu Tryz.prog 382 PN (rdB T i) fun q b'=>q=.agg (eC (.mk 5 0 (r :: rs) []))/\b'=rdB T (i+2+2*rs.length+1):=by
 obtain⟨a0,h1⟩:=Z2T hat.head hT;obtain⟨a1,h2⟩:=Z2T hat.tail.head hT;have hm:=hat.tail.tail;refine Zi ok382 (Y0 rfl) fun C hC=>?_;(repeat'(first|refine Z1 12 ?_|refine Z0 12 ?_|refine st ?_|(apply B<;>intro hb<;>try cases hb)))<;>try refine At.mk ?_
 refine Zb (X6w h1 [40] (by decide)) rfl rfl rfl rfl (Z7 T _) ⟨Yt,Yt⟩ ?_;rintro q b' - - ⟨rfl,rfl⟩;(repeat'(first|refine Z1 17 ?_|refine Z0 17 ?_|refine st ?_|(apply B<;>intro hb<;>try cases hb)))<;>try refine At.mk ?_
 refine Zb (Z6Y (h0 r (by simp)) h2) rfl rfl rfl rfl (Z7 T _) Yt ?_;rintro q b' - - ⟨rfl,rfl⟩;refine Z4a rfl rfl rfl ?_;(refine go ?_;repeat' (apply B<;>intro hb<;>try cases hb));refine Z1n hC (fun m=>m<=rs.length) (fun m=>rs.length-m) 3 (fun m => [(0,.cp [.ptr 0 0 0]),(1,.val (.int .u8 5)),(2,.val (.bool true)),(6,.ptr 1 0 0),(7,.own 2)])
  (fun m => [(0,rdB T (i+2+2*m)),(1,⟨4,[eZ]⟩),(2,⟨1,X1B (r :: rs.take m)⟩)]) (by omega) 0 (Y0l _) (fun i=>i) (fun _ _=>rfl) Z1a
  ⟨⟨_,rfl,.same _ ⟨⟨show (0:Nat)<3 by decide,rfl⟩,Yt⟩⟩,Qp Yt,Qp Yt,Qt 1 0 0,⟨_,rfl,.own 2 (by decide)⟩,Yt⟩
  ⟨Qs (Z7 _ _),Qs ⟨Z2e,Yt⟩,⟨by decide,_,rfl,.same ⟨1,X1B (r :: rs.take 0)⟩ (Zs _)⟩,Yt⟩ ?_
 intro m hml;(repeat'(first|refine Z1 25 ?_|refine Z0 25 ?_|refine st ?_|(apply B<;>intro hb<;>try cases hb)))<;>try refine At.mk ?_
 refine Zj rfl ?_;by_cases hlt:m<rs.length
 . obtain ⟨g1, g2⟩ := Zh1 hm hlt;obtain⟨a2,k1⟩:=Z2T g1 hT;obtain⟨a3,k2⟩:=Z2T g2 hT;refine Zb (X4a k1 [44] (by decide)) rfl rfl rfl rfl (Z7 T _) ⟨Yt,Yt⟩ ?_;rintro q b' - - ⟨rfl,rfl⟩;(repeat'(first|refine Z1 32 ?_|refine Z0 32 ?_|refine st ?_|(apply B<;>intro hb<;>try cases hb)))<;>try refine At.mk ?_
   refine Zb (Z6Y (h0 rs[m] (YC _ (Y0j hlt))) k2) rfl rfl rfl rfl (Z7 T _) Yt ?_;rintro q b' - - ⟨rfl,rfl⟩;(repeat'(first|refine Z1 34 ?_|refine Z0 34 ?_|refine st ?_|(apply B<;>intro hb<;>try cases hb)))<;>try refine At.mk ?_
   have happ:X1B (r :: rs.take m) ++ [[.val (.string (rnB rs[m]))]]=X1B (r :: rs.take (m+1)):=Zax (l:=r :: rs) (m:=m+1) (by simpa using hlt)
   refine ZB (Z11 (k:=2) (m := [[.val (.string (rnB rs[m]))]]) (fl:=true) (b:=⟨1,X1B (r :: rs.take m)⟩) rfl rfl rfl (fun c hc=>by rw [Y0g.1 hc]; rfl) rfl (by
    show ((X1B (r :: rs.take m)).length+1)*16<=_
    rw [Z56]; simp;omega)) rfl rfl ?_
   simp only;rw [happ];(refine go ?_;repeat' (apply B<;>intro hb<;>try cases hb))
   exact⟨m+1,mv 2 3,hlt,by omega,Z3y (by decide),Z1e rfl,
    ⟨⟨_,rfl,.same _ ⟨⟨show (0:Nat)<3 by decide,rfl⟩,Yt⟩⟩,Qp Yt,Qp Yt,Qt 1 0 0,Qw 2,Yt⟩,
    ⟨⟨by decide,_,by rw [show i+2+2*(m+1)=i+2+2*m+1+1 by omega]; rfl,.same _ (Z7 _ _)⟩,Qs ⟨Z2e,Yt⟩,Qs (Zs _),Yt⟩⟩
 . obtain rfl : m = rs.length := by omega
   obtain⟨a2,k1⟩:=Z2T (Zdv hm) hT;refine Zb (X3b k1 [44] (by decide)) rfl rfl rfl rfl (Z7 T _) ⟨Yt,Yt⟩ ?_;rintro q b' - - ⟨rfl,rfl⟩;(repeat'(first|refine Z1 35 ?_|refine Z0 35 ?_|refine st ?_|(apply B<;>intro hb<;>try cases hb)))<;>try refine At.mk ?_
   refine Zm (Zo (k:=7) rfl rfl (Zs _)) ?_;(repeat'(first|refine Z1 39 ?_|refine Z0 39 ?_|refine st ?_|(apply B<;>intro hb<;>try cases hb)))<;>try refine At.mk ?_
   refine Zb (X6w k1 [41] (by decide)) rfl rfl rfl rfl (Z7 T _) ⟨Yt,Yt⟩ ?_;rintro q b' - - ⟨rfl,rfl⟩;(refine go ?_;repeat' (apply B<;>intro hb<;>try cases hb));rw [Y0q];have he:PV.agg [.val (.int .u8 5),.val (.int .i64 0),.vec (X13 (X1B (r :: rs))) false,.vec [] false]=.agg (eC (.mk 5 0 (r :: rs) [])):=by
    have:X13 (X1B (r :: rs))=X1B (r :: rs):=by simp [X1B,Z35,X1h,PV.low]
    rw [this]; rfl
   exact Z3b rfl (show PV.pure (.agg [.val (.int .u8 5),.val (.int .i64 0),.vec (X13 (X1B (r :: rs))) false,.vec [] false]) by rw [he]; exact Zp _) rfl (Z7 T _) ⟨he,rfl⟩
theorem Z1H {T:List Tp} {i:Nat}:Xu Tryz.prog 116 P1 (rdB T i) fun r b'=>r=.val (.bool false)/\b'=rdB T i:=by
 refine Zi ok116 (Y0 rfl) fun C hC=>?_;(repeat'(first|refine Z1 10 ?_|refine Z0 10 ?_|refine st ?_|(apply B<;>intro hb<;>try cases hb)))<;>try refine At.mk ?_
 refine Zb Zdt rfl rfl rfl rfl (Z7 T i) Yt ?_;rintro r b' - - ⟨rfl,rfl⟩;(refine go ?_;repeat' (apply B<;>intro hb<;>try cases hb));exact Z12 rfl Yt rfl (Z7 T i) ⟨rfl,rfl⟩
def trS:By := [116,114,117,101]
def faS:By := [102,97,108,115,101]
def coS:By := [99,111,117,110,116]
def meS:By := [109,101,109,98,101,114,115]
section
variable {T:List Tp} {i:Nat}
theorem ZiL {n:Int} (h0:0<=n) (h1:n<=9) {a:Nat} (h:Rd T i (X5s n,a)):Xu Tryz.prog 374 P1 (rdB T i) fun r b'=>r=.agg (eC (.mk 1 n [] []))/\b'=rdB T (i+1):=by
 have hn:((n.toNat:Nat):Int)=n:=by omega
 refine Zi ok374 (Y0 rfl) fun C hC=>?_;(repeat'(first|refine Z1 6 ?_|refine Z0 6 ?_|refine st ?_|(apply B<;>intro hb<;>try cases hb)))<;>try refine At.mk ?_
 refine ZZ 0 Z1H X32 rfl rfl rfl rfl (Z7 T i) ?_;rintro r b' - - ⟨rfl,rfl⟩;(repeat'(first|refine Z1 12 ?_|refine Z0 12 ?_|refine st ?_|(apply B<;>intro hb<;>try cases hb)))<;>try refine At.mk ?_
 refine Zb (Z1E h) rfl rfl rfl rfl (Z7 T i) Yt ?_;rintro r b' - - ⟨rfl,rfl⟩;(repeat'(first|refine Z1 20 ?_|refine Z0 20 ?_|refine st ?_|(apply B<;>intro hb<;>try cases hb)))<;>try refine At.mk ?_
 refine Zb (ZeH h (show (2:Nat)≠0 by decide)) rfl rfl rfl rfl (Z7 T i) Yt ?_;rintro r b' - - ⟨rfl,rfl⟩;(refine go ?_;repeat' (apply B<;>intro hb<;>try cases hb));exact Z3b rfl ⟨Yt,Yt,Yt,Yt,Yt⟩ rfl (Z7 T _) ⟨by show PV.agg [_,.val (.int .i64 ((n.toNat:Nat):Int)),_,_]=_; rw [hn]; rfl,rfl⟩
theorem Zh2 {a:Nat} (h:Rd T i (X4o,a)):Xu Tryz.prog 374 P1 (rdB T i) fun r b'=>r=.agg (eC (.mk 2 0 [] []))/\b'=rdB T (i+1):=by
 refine Zi ok374 (Y0 rfl) fun C hC=>?_;(repeat'(first|refine Z1 6 ?_|refine Z0 6 ?_|refine st ?_|(apply B<;>intro hb<;>try cases hb)))<;>try refine At.mk ?_
 refine ZZ 0 Z1H X32 rfl rfl rfl rfl (Z7 T i) ?_;rintro r b' - - ⟨rfl,rfl⟩;(repeat'(first|refine Z1 12 ?_|refine Z0 12 ?_|refine st ?_|(apply B<;>intro hb<;>try cases hb)))<;>try refine At.mk ?_
 refine Zb (Z1E h) rfl rfl rfl rfl (Z7 T i) Yt ?_;rintro r b' - - ⟨rfl,rfl⟩;(repeat'(first|refine Z1 29 ?_|refine Z0 29 ?_|refine st ?_|(apply B<;>intro hb<;>try cases hb)))<;>try refine At.mk ?_
 refine Zb (X4a h trS (by decide)) rfl rfl rfl rfl (Z7 T i) ⟨Yt,Yt⟩ ?_;rintro r b' - - ⟨rfl,rfl⟩;(refine go ?_;repeat' (apply B<;>intro hb<;>try cases hb));exact Z3b rfl ⟨Yt,Yt,Yt,Yt,Yt⟩ rfl (Z7 T _) ⟨rfl,rfl⟩
theorem ZeM {a:Nat} (h:Rd T i (X3q,a)):Xu Tryz.prog 374 P1 (rdB T i) fun r b'=>r=.agg (eC (.mk 3 0 [] []))/\b'=rdB T (i+1):=by
 refine Zi ok374 (Y0 rfl) fun C hC=>?_;(repeat'(first|refine Z1 6 ?_|refine Z0 6 ?_|refine st ?_|(apply B<;>intro hb<;>try cases hb)))<;>try refine At.mk ?_
 refine ZZ 0 Z1H X32 rfl rfl rfl rfl (Z7 T i) ?_;rintro r b' - - ⟨rfl,rfl⟩;(repeat'(first|refine Z1 12 ?_|refine Z0 12 ?_|refine st ?_|(apply B<;>intro hb<;>try cases hb)))<;>try refine At.mk ?_
 refine Zb (Z1E h) rfl rfl rfl rfl (Z7 T i) Yt ?_;rintro r b' - - ⟨rfl,rfl⟩;(repeat'(first|refine Z1 29 ?_|refine Z0 29 ?_|refine st ?_|(apply B<;>intro hb<;>try cases hb)))<;>try refine At.mk ?_
 refine Zb (X3b h trS (by decide)) rfl rfl rfl rfl (Z7 T i) ⟨Yt,Yt⟩ ?_;rintro r b' - - ⟨rfl,rfl⟩;(repeat'(first|refine Z1 36 ?_|refine Z0 36 ?_|refine st ?_|(apply B<;>intro hb<;>try cases hb)))<;>try refine At.mk ?_
 refine Zb (X4a h faS (by decide)) rfl rfl rfl rfl (Z7 T i) ⟨Yt,Yt⟩ ?_;rintro r b' - - ⟨rfl,rfl⟩;(refine go ?_;repeat' (apply B<;>intro hb<;>try cases hb));exact Z3b rfl ⟨Yt,Yt,Yt,Yt,Yt⟩ rfl (Z7 T _) ⟨rfl,rfl⟩
theorem ZeN {r:Int} {rs:List Int} (h0:∀ x∈r :: rs,1<=x/\x<=6) (h1:rs.length<=7) (hT:T.length<=100000) (hat:TAt (T.map (·.1)) i (X2j :: lpT :: rnT r :: (X2g rs ++ [rpT]))) :
 Xu Tryz.prog 374 P1 (rdB T i) fun q b'=>q=.agg (eC (.mk 5 0 (r :: rs) []))/\b'=rdB T (i+1+2+2*rs.length+1):=by
 obtain⟨a0,h⟩:=Z2T hat.head hT;refine Zi ok374 (Y0 rfl) fun C hC=>?_;(repeat'(first|refine Z1 6 ?_|refine Z0 6 ?_|refine st ?_|(apply B<;>intro hb<;>try cases hb)))<;>try refine At.mk ?_
 refine ZZ 0 Z1H X32 rfl rfl rfl rfl (Z7 T i) ?_;rintro r b' - - ⟨rfl,rfl⟩;(repeat'(first|refine Z1 12 ?_|refine Z0 12 ?_|refine st ?_|(apply B<;>intro hb<;>try cases hb)))<;>try refine At.mk ?_
 refine Zb (Z1E h) rfl rfl rfl rfl (Z7 T i) Yt ?_;rintro r b' - - ⟨rfl,rfl⟩;(repeat'(first|refine Z1 29 ?_|refine Z0 29 ?_|refine st ?_|(apply B<;>intro hb<;>try cases hb)))<;>try refine At.mk ?_
 refine Zb (X3b h trS (by decide)) rfl rfl rfl rfl (Z7 T i) ⟨Yt,Yt⟩ ?_;rintro r b' - - ⟨rfl,rfl⟩;(repeat'(first|refine Z1 36 ?_|refine Z0 36 ?_|refine st ?_|(apply B<;>intro hb<;>try cases hb)))<;>try refine At.mk ?_
 refine Zb (X3b h faS (by decide)) rfl rfl rfl rfl (Z7 T i) ⟨Yt,Yt⟩ ?_;rintro r b' - - ⟨rfl,rfl⟩;(repeat'(first|refine Z1 43 ?_|refine Z0 43 ?_|refine st ?_|(apply B<;>intro hb<;>try cases hb)))<;>try refine At.mk ?_
 refine Zb (X4a h coS (by decide)) rfl rfl rfl rfl (Z7 T i) ⟨Yt,Yt⟩ ?_;rintro r b' - - ⟨rfl,rfl⟩;(repeat'(first|refine Z1 45 ?_|refine Z0 45 ?_|refine st ?_|(apply B<;>intro hb<;>try cases hb)))<;>try refine At.mk ?_
 refine ZZ 0 (ZeL _ rs h0 h1 T (i+1) hT hat.tail) X7K rfl rfl rfl rfl (Z7 T _) ?_;rintro r b' - - ⟨rfl,rfl⟩;(refine go ?_;repeat' (apply B<;>intro hb<;>try cases hb));exact Z12 rfl (Zp _) rfl (Z7 T _) ⟨rfl,rfl⟩
theorem Zh3 {r:Int} (hr:1<=r/\r<=6) {a:Nat} (h:Rd T i (rnT r,a)):Xu Tryz.prog 374 P1 (rdB T i) fun q b'=>q=.agg (eC (.mk 4 0 [r] []))/\b'=rdB T (i+1):=by
 have hno:∀ s:By,s.length≠2->isT (rnT r) s=false:=fun s hs=>by
  unfold isT rnT;rw [show decide ((⟨1,rnS r,0⟩:Tk).s=s)=false from Y0w fun e=>hs (by rw [<- e]; rfl),Y29]
 have h40:isT (rnT r) [40]=false:=hno _ (by decide);refine Zi ok374 (Y0 rfl) fun C hC=>?_;(repeat'(first|refine Z1 6 ?_|refine Z0 6 ?_|refine st ?_|(apply B<;>intro hb<;>try cases hb)))<;>try refine At.mk ?_
 refine ZZ 0 Z1H X32 rfl rfl rfl rfl (Z7 T i) ?_;rintro r b' - - ⟨rfl,rfl⟩;(repeat'(first|refine Z1 12 ?_|refine Z0 12 ?_|refine st ?_|(apply B<;>intro hb<;>try cases hb)))<;>try refine At.mk ?_
 refine Zb (Z1E h) rfl rfl rfl rfl (Z7 T i) Yt ?_;rintro r b' - - ⟨rfl,rfl⟩;(repeat'(first|refine Z1 29 ?_|refine Z0 29 ?_|refine st ?_|(apply B<;>intro hb<;>try cases hb)))<;>try refine At.mk ?_
 refine Zb (X3b h trS (hno _ (by decide))) rfl rfl rfl rfl (Z7 T i) ⟨Yt,Yt⟩ ?_;rintro r b' - - ⟨rfl,rfl⟩;(repeat'(first|refine Z1 36 ?_|refine Z0 36 ?_|refine st ?_|(apply B<;>intro hb<;>try cases hb)))<;>try refine At.mk ?_
 refine Zb (X3b h faS (hno _ (by decide))) rfl rfl rfl rfl (Z7 T i) ⟨Yt,Yt⟩ ?_;rintro r b' - - ⟨rfl,rfl⟩;(repeat'(first|refine Z1 43 ?_|refine Z0 43 ?_|refine st ?_|(apply B<;>intro hb<;>try cases hb)))<;>try refine At.mk ?_
 refine Zb (X3b h coS (hno _ (by decide))) rfl rfl rfl rfl (Z7 T i) ⟨Yt,Yt⟩ ?_;rintro r b' - - ⟨rfl,rfl⟩;(repeat'(first|refine Z1 51 ?_|refine Z0 51 ?_|refine st ?_|(apply B<;>intro hb<;>try cases hb)))<;>try refine At.mk ?_
 refine Zb (X3b h meS (hno _ (by decide))) rfl rfl rfl rfl (Z7 T i) ⟨Yt,Yt⟩ ?_;rintro r b' - - ⟨rfl,rfl⟩;(repeat'(first|refine Z1 59 ?_|refine Z0 59 ?_|refine st ?_|(apply B<;>intro hb<;>try cases hb)))<;>try refine At.mk ?_
 refine Zb (X3b h [40] h40) rfl rfl rfl rfl (Z7 T i) ⟨Yt,Yt⟩ ?_;rintro r b' - - ⟨rfl,rfl⟩;(repeat'(first|refine Z1 72 ?_|refine Z0 72 ?_|refine st ?_|(apply B<;>intro hb<;>try cases hb)))<;>try refine At.mk ?_
 refine Zb (Z6Y hr h) rfl rfl rfl rfl (Z7 T i) Yt ?_;rintro r b' - - ⟨rfl,rfl⟩;(refine go ?_;repeat' (apply B<;>intro hb<;>try cases hb));exact Z3b rfl ⟨Yt,Yt,⟨⟨Yt,Yt⟩,Yt⟩,Yt,Yt⟩ rfl (Z7 T _) ⟨rfl,rfl⟩
theorem ZeO {f:Fm} (hf:S 1 f) (hT:T.length<=100000) (hsh:Sh f) (hat:TAt (T.map (·.1)) i (lpT :: (tkM f ++ [rpT]))) :
 Xu Tryz.prog 374 P1 (rdB T i) fun q b'=>q=.agg (eC f)/\b'=rdB T (i+1+(tkM f).length+1):=by
 obtain⟨a0,h⟩:=Z2T hat.head hT;have ht:=hat.tail;have he:Xy 1 f=tkM f:=Z1z (by have:=hsh.le;omega);obtain⟨a1,h1⟩:=Z2T ht.right.head hT;have hsp:=hf T (i+1) hT (by rw [he]; exact ht.left) ⟨rpT,by rw [he]; exact ht.right.head,.inr (.inl rfl),.inl (by decide)⟩;rw [he] at hsp;refine Zi ok374 (Y0 rfl) fun C hC=>?_;(repeat'(first|refine Z1 6 ?_|refine Z0 6 ?_|refine st ?_|(apply B<;>intro hb<;>try cases hb)))<;>try refine At.mk ?_
 refine ZZ 0 Z1H X32 rfl rfl rfl rfl (Z7 T i) ?_;rintro r b' - - ⟨rfl,rfl⟩;(repeat'(first|refine Z1 12 ?_|refine Z0 12 ?_|refine st ?_|(apply B<;>intro hb<;>try cases hb)))<;>try refine At.mk ?_
 refine Zb (Z1E h) rfl rfl rfl rfl (Z7 T i) Yt ?_;rintro r b' - - ⟨rfl,rfl⟩;(repeat'(first|refine Z1 29 ?_|refine Z0 29 ?_|refine st ?_|(apply B<;>intro hb<;>try cases hb)))<;>try refine At.mk ?_
 refine Zb (X3b h trS (by decide)) rfl rfl rfl rfl (Z7 T i) ⟨Yt,Yt⟩ ?_;rintro r b' - - ⟨rfl,rfl⟩;(repeat'(first|refine Z1 36 ?_|refine Z0 36 ?_|refine st ?_|(apply B<;>intro hb<;>try cases hb)))<;>try refine At.mk ?_
 refine Zb (X3b h faS (by decide)) rfl rfl rfl rfl (Z7 T i) ⟨Yt,Yt⟩ ?_;rintro r b' - - ⟨rfl,rfl⟩;(repeat'(first|refine Z1 43 ?_|refine Z0 43 ?_|refine st ?_|(apply B<;>intro hb<;>try cases hb)))<;>try refine At.mk ?_
 refine Zb (X3b h coS (by decide)) rfl rfl rfl rfl (Z7 T i) ⟨Yt,Yt⟩ ?_;rintro r b' - - ⟨rfl,rfl⟩;(repeat'(first|refine Z1 51 ?_|refine Z0 51 ?_|refine st ?_|(apply B<;>intro hb<;>try cases hb)))<;>try refine At.mk ?_
 refine Zb (X3b h meS (by decide)) rfl rfl rfl rfl (Z7 T i) ⟨Yt,Yt⟩ ?_;rintro r b' - - ⟨rfl,rfl⟩;(repeat'(first|refine Z1 59 ?_|refine Z0 59 ?_|refine st ?_|(apply B<;>intro hb<;>try cases hb)))<;>try refine At.mk ?_
 refine Zb (X4a h [40] (by decide)) rfl rfl rfl rfl (Z7 T i) ⟨Yt,Yt⟩ ?_;rintro r b' - - ⟨rfl,rfl⟩;(repeat'(first|refine Z1 61 ?_|refine Z0 61 ?_|refine st ?_|(apply B<;>intro hb<;>try cases hb)))<;>try refine At.mk ?_
 refine ZZ 0 hsp X32 rfl rfl rfl rfl (Z7 T _) ?_;rintro r b' - - ⟨rfl,rfl⟩;(repeat'(first|refine Z1 66 ?_|refine Z0 66 ?_|refine st ?_|(apply B<;>intro hb<;>try cases hb)))<;>try refine At.mk ?_
 refine Zb (X6w h1 [41] (by decide)) rfl rfl rfl rfl (Z7 T _) ⟨Yt,Yt⟩ ?_;rintro r b' - - ⟨rfl,rfl⟩;(refine go ?_;repeat' (apply B<;>intro hb<;>try cases hb));exact Z12 rfl (Zp _) rfl (Z7 T _) ⟨rfl,rfl⟩
end
theorem ZiM {n i mask id:Nat} {P:Program} {e:Env} {h:X0} {d:Option Nat} {f:Operand} {as0:List Operand} {iso:Nat} {alt:Bool} {xs:List X5} {K:Env->X0->Prop} {g:FuncId} {caps as1:List PV} {args:Nat->List PV} {b:Bx} {R:PV->Bx->Prop} (hs:Xu P g args b R) (hm:MkL args) (hf:ev e f=some (.fn g caps)) (ha:evs e as0=some as1) (hr:as1++caps=args id) (hb:h id=some b) (hpb:X2 b.elems)
 (hk:∀ r b',r.pure->X2 b'.elems->R r b'->dK P (.to id) n xs (Xq e d r) (h.upd id b') K):dK P (.to id) n (⟨i,⟨d,.call f as0,none⟩,mask,iso,alt⟩ :: xs) e h K:=by
 unfold dK;refine⟨_,.callP rfl f as0 rfl id rfl b hb R ⟨g,caps,as1,hf,ha,by rw [hr]; exact hs.prun hm hpb id⟩,?_⟩;rintro p' f' ⟨b',rfl,h1,h2,h3⟩;exact hk p' b' h1 h2 h3
def X4Q:Nat->List PV->List PV
 | 0,c=>c
 | k+1,c => [.val (.int .u8 7),.val (.int .i64 0),.vec [] true,.vec [X4Q k c] true]
theorem Z73 {c:List PV} (hc:Xe c):∀ k,Xe (X4Q k c)
 | 0=>hc
 | k+1=>⟨Yt,Yt,Yt,⟨Z73 hc k,Yt⟩,Yt⟩
theorem ZiN {c:List PV} (hc:c.length=4):∀ k,(X4Q k c).length=4
 | 0=>hc
 | _+1=>rfl
theorem Zdw (g:Fm):∀ k,X1h (X4Q k (eC g))=eC (X5x k g)
 | 0=>Zcd g
 | k + 1 => by
   show [PV.val (.int .u8 7),.val (.int .i64 0),.vec [] false,.vec [X1h (X4Q k (eC g))] false]=_;rw [Zdw g k,<- ZR]; rfl
theorem ZiO (n:Nat) (g:Fm) (hg:Sh g) (hS:S 5 g) (T:List Tp) (i:Nat) (hT:T.length<=100000) (hn:n<=100000) (hat:TAt (T.map (·.1)) i (List.replicate n X4p++Xy 5 g)) (hx:Nxt 5 (T.map (·.1)) (i+n+(Xy 5 g).length)) :
 Xu Tryz.prog 267 P1 (rdB T i) fun r b'=>r=.agg (eC (X5x n g))/\b'=rdB T (i+n+(Xy 5 g).length):=by
 have hr:=hat.right;rw [Y2d] at hr;obtain⟨t,ts,ht,hno⟩:=Zen hg;refine Zi ok267 (Y0 rfl) fun C hC=>?_;(refine go ?_;repeat' (apply B<;>intro hb<;>try cases hb));refine Zv hC (fun m=>m<=n) (fun m=>n-m) 2 (fun m => [(0,.cp [.ptr 0 0 0]),(2,.ptr 1 0 0),(3,.val (.int .i64 (m:Int)))])
  (fun m => [(0,rdB T (i+m)),(1,⟨4,[eZ]⟩)]) (by omega) 0 (Y0l _)
  ⟨⟨rfl,show (0:Nat)<2 by decide,Yt⟩,⟨rfl,show (1:Nat)<2 by decide⟩,⟨rfl,Yt⟩,Yt⟩
  ⟨⟨by decide,rfl,Zc (fun _ h=>h.elim) _ (Z7 _ _)⟩,⟨by decide,rfl,Z5N _⟩,Yt⟩ ?_
 intro m hm;have hinc:IntKind.i64.wrap ((m:Int)+1)=((m+1:Nat):Int):=Y0v _ ⟨by omega,by omega⟩;(repeat'(first|refine Z1 9 ?_|refine Z0 9 ?_|refine st ?_|(apply B<;>intro hb<;>try cases hb)))<;>try refine At.mk ?_
 by_cases hml:m<n
 . obtain ⟨a, h1⟩ := Z2T (Zkz hat hml) hT;refine Zb (X4a h1 [110,111,116] (by decide)) rfl rfl rfl rfl (Z7 T _) ⟨Yt,Yt⟩ ?_;rintro r b' - - ⟨rfl,rfl⟩;(repeat'(first|refine Z1 11 ?_|refine Z0 11 ?_|refine st ?_|(apply B<;>intro hb<;>try cases hb)))<;>try refine At.mk ?_
   refine Ze rfl rfl rfl hinc ?_;(refine go ?_;repeat' (apply B<;>intro hb<;>try cases hb))
   exact⟨m+1,hml,by omega,⟨⟨rfl,show (0:Nat)<2 by decide,Yt⟩,⟨rfl,show (1:Nat)<2 by decide⟩,⟨rfl,Yt⟩,Yt⟩,
    ⟨⟨by decide,rfl,Zc (fun _ h=>h.elim) _ (Z7 _ _)⟩,⟨by decide,rfl,Z5N _⟩,Yt⟩⟩
 . obtain rfl : m = n := by omega
   obtain⟨a,h1⟩:=Z2T (show (T.map (·.1))[i+m]?=some t by rw [ht] at hr; exact hr.head) hT;refine Zb (X3b h1 [110,111,116] hno) rfl rfl rfl rfl (Z7 T _) ⟨Yt,Yt⟩ ?_;rintro r b' - - ⟨rfl,rfl⟩;(repeat'(first|refine Z1 13 ?_|refine Z0 13 ?_|refine st ?_|(apply B<;>intro hb<;>try cases hb)))<;>try refine At.mk ?_
   refine ZZ 0 (hS T (i+m) hT hr hx) X32 rfl rfl rfl rfl (Z7 T _) ?_;rintro r b' - - ⟨rfl,rfl⟩;(refine go ?_;repeat' (apply B<;>intro hb<;>try cases hb));refine Zv hC (fun k=>k<=m) (fun k=>m-k) 3 (fun k => [(2,.ptr 1 0 0),(4,.ptr 2 0 0),(14,.val (.int .i64 (m:Int))),(15,.val (.int .i64 (k:Int)))])
    (fun k => [(0,rdB T (i+m+(Xy 5 g).length)),(1,⟨4,[eZ]⟩),(2,⟨4,[X4Q k (eC g)]⟩)]) (by omega) 0 (Y0l _)
    ⟨⟨rfl,show (1:Nat)<3 by decide⟩,⟨rfl,show (2:Nat)<3 by decide⟩,⟨rfl,Yt⟩,⟨rfl,Yt⟩,Yt⟩
    ⟨⟨by decide,rfl,Zc (fun _ h=>h.elim) _ (Z7 _ _)⟩,⟨by decide,rfl,Z5N _⟩,⟨by decide,rfl,⟨Zaq _ _,Yt⟩⟩,Yt⟩ ?_
   intro k hk;have hinc:IntKind.i64.wrap ((k:Int)+1)=((k+1:Nat):Int):=Y0v _ ⟨by omega,by omega⟩;have hpk:=Z73 (Zp g) k;have hpl:=ZiN (c:=eC g) rfl k;have hlow:=Zdw g k;have hsucc:X4Q (k+1) (eC g) = [.val (.int .u8 7),.val (.int .i64 0),.vec [] true,.vec [X4Q k (eC g)] true]:=rfl;generalize X4Q k (eC g)=c at hpk hpl hlow hsucc ⊢
   match c,hpl with
   | [c0,c1,c2,c3],_ =>
   (repeat'(first|refine Z1 16 ?_|refine Z0 16 ?_|refine st ?_|(apply B<;>intro hb<;>try cases hb)))<;>try refine At.mk ?_
   by_cases hkl:k<m
   . refine Qo (Qy rfl (by omega)) ?_;(repeat'(first|refine Z1 20 ?_|refine Z0 20 ?_|refine st ?_|(apply B<;>intro hb<;>try cases hb)))<;>try refine At.mk ?_
     refine Ze rfl rfl rfl hinc ?_;(refine go ?_;repeat' (apply B<;>intro hb<;>try cases hb))
     exact⟨k+1,hkl,by omega,⟨⟨rfl,show (1:Nat)<3 by decide⟩,⟨rfl,show (2:Nat)<3 by decide⟩,⟨rfl,Yt⟩,⟨rfl,Yt⟩,Yt⟩,
      ⟨⟨by decide,rfl,Zc (fun _ h=>h.elim) _ (Z7 _ _)⟩,⟨by decide,rfl,Z5N _⟩,⟨by decide,by rw [hsucc]; rfl,⟨ZC (fun _ h=>h.elim) _ (Z73 (Zp g) (k+1)),Yt⟩⟩,Yt⟩⟩
   . obtain rfl : k = m := by omega
     refine Qo (Qz rfl (by omega)) ?_;(refine go ?_;repeat' (apply B<;>intro hb<;>try cases hb));exact Z3b rfl (by show Xe (X1h [c0,c1,c2,c3]); rw [hlow]; exact Zp _) rfl (Z7 T _) ⟨by show PV.agg (X1h [c0,c1,c2,c3])=_; rw [hlow],rfl⟩
theorem Zk6 {op:Int} {a b:Fm} (h1:11<=op) (h2:op<=15) (ha:S 6 a) (hb:S 6 b) (T:List Tp) (i:Nat) (hT:T.length<=100000) (hat:TAt (T.map (·.1)) i (Xy 6 a++opT op :: Xy 6 b)) (hx:Nxt 6 (T.map (·.1)) (i+(Xy 6 a).length+1+(Xy 6 b).length)) :
 Xu Tryz.prog 324 P1 (rdB T i) fun r b'=>r=.agg (eC (.mk op 0 [] [a,b]))/\b'=rdB T (i+(Xy 6 a).length+1+(Xy 6 b).length):=by
 have hr:=hat.right;have h5:stM op=5:=by
  have:op=11 \/ op=12 \/ op=13 \/ op=14 \/ op=15:=by omega
  rcases this with rfl|rfl|rfl|rfl|rfl<;>rfl
 obtain⟨x,hrd⟩:=Z2T hr.head hT;refine Zi ok324 (Y0 rfl) fun C hC=>?_;(repeat'(first|refine Z1 7 ?_|refine Z0 7 ?_|refine st ?_|(apply B<;>intro hb<;>try cases hb)))<;>try refine At.mk ?_
 refine ZZ 0 (ha T i hT hat.left ⟨_,hr.head,.inr (.inr ⟨op,by omega,by omega,rfl⟩),.inr (by rw [Zgt (by omega) (by omega),h5]; decide)⟩) X32 rfl rfl rfl rfl (Z7 T _) ?_;rintro r b' - - ⟨rfl,rfl⟩;(repeat'(first|refine Z1 10 ?_|refine Z0 10 ?_|refine st ?_|(apply B<;>intro hb<;>try cases hb)))<;>try refine At.mk ?_
 refine ZZ 0 (ZiK h1 h2 hrd) X32 rfl rfl rfl rfl (Z7 T _) ?_;rintro r b' - - ⟨rfl,rfl⟩
 repeat' (first|(show aw _ _ (.draw _) _ _ _ _; refine Z4D [] 0 (by decide) ?_)|refine Z0 17 ?_|(first|refine st ?_|(apply B<;>intro hb<;>try cases hb)))
 refine At.mk ?_;refine ZiM (hb T _ hT hr.tail (by simpa only [YL] using hx)) X32 rfl rfl rfl rfl (Z7 T _) ?_;rintro r b' - - ⟨rfl,rfl⟩;refine Qd (Z9c op a b) ⟨Yt,Zp _,Zp _,Yt⟩ ?_;(refine go ?_;repeat' (apply B<;>intro hb<;>try cases hb));exact Z12 rfl (Zp _) rfl (Z7 T _) ⟨rfl,by simp only [YL]⟩
theorem ZkI {f:Fm} (hf:S 6 f) (T:List Tp) (i:Nat) (hT:T.length<=100000) (hat:TAt (T.map (·.1)) i (Xy 6 f)) (hx:Nxt 5 (T.map (·.1)) (i+(Xy 6 f).length)) :
 Xu Tryz.prog 324 P1 (rdB T i) fun r b'=>r=.agg (eC f)/\b'=rdB T (i+(Xy 6 f).length):=by
 obtain⟨t,h1,h2,h3⟩:=hx.fol;obtain⟨x,hrd⟩:=Z2T h1 hT;refine Zi ok324 (Y0 rfl) fun C hC=>?_;(repeat'(first|refine Z1 7 ?_|refine Z0 7 ?_|refine st ?_|(apply B<;>intro hb<;>try cases hb)))<;>try refine At.mk ?_
 refine ZZ 0 (hf T i hT hat (hx.up (by decide))) X32 rfl rfl rfl rfl (Z7 T _) ?_;rintro r b' - - ⟨rfl,rfl⟩;(repeat'(first|refine Z1 10 ?_|refine Z0 10 ?_|refine st ?_|(apply B<;>intro hb<;>try cases hb)))<;>try refine At.mk ?_
 refine ZZ 0 (Zk5 hrd fun op k1 k2=>h2.not (by omega) (by omega) (by
  have h5:stM op=5:=by
   have:op=11 \/ op=12 \/ op=13 \/ op=14 \/ op=15:=by omega
   rcases this with rfl|rfl|rfl|rfl|rfl<;>rfl
  omega)) X32 rfl rfl rfl rfl (Z7 T _) ?_
 rintro r b' - - ⟨rfl,rfl⟩;(refine go ?_;repeat' (apply B<;>intro hb<;>try cases hb));exact Z12 rfl (Zp _) rfl (Z7 T _) ⟨rfl,rfl⟩
theorem Zh4 {L:List Fm} {j:Nat} (hj:j+1<L.length):X4k (L.drop j)=.mk 10 0 [] [L[j],X4k (L.drop (j+1))]:=by
 rw [Y16 (by omega:j<L.length),Y16 hj]; rfl
theorem Zh5 {L:List Fm} {j:Nat} (hj:j+1=L.length):X4k (L.drop j)=L[j]:=by
 rw [Y16 (by omega:j<L.length),Y3n (by omega)]; rfl
theorem X5E {l:List Fm} {m:Nat} (h:m<l.length):(l.take m).map Xg ++ [eC l[m]]=(l.take (m+1)).map Xg:=by
 rw [YI,Y0c h,Y0r,<- ZR]; rfl
theorem Zh6 (a:Fm) (l:List Fm) (ha:S 2 a) (hl:∀ x∈l,S 2 x) (hlen:l.length<=100000) (T:List Tp) (i:Nat) (hT:T.length<=100000) (hat:TAt (T.map (·.1)) i (Xy 2 a++Xf 10 2 l)) (hn:Nxt 1 (T.map (·.1)) (i+(Xy 2 a).length+(Xf 10 2 l).length)) :
 Xu Tryz.prog 68 P1 (rdB T i) fun r b'=>r=.agg (eC (X4k (a :: l)))/\b'=rdB T (i+(Xy 2 a).length+(Xf 10 2 l).length):=by
 have hA:=hat.left;have hB:=hat.right;have hnx:∀ m,m<=l.length->Nxt 2 (T.map (·.1)) (i+(Xy 2 a).length+X3I 10 2 l m):=fun m hm=>Zdf (by decide) (by decide) hB (by decide) hn hm;refine Zi ok68 (Y0 rfl) fun C hC=>?_;(repeat'(first|refine Z1 7 ?_|refine Z0 7 ?_|refine st ?_|(apply B<;>intro hb<;>try cases hb)))<;>try refine At.mk ?_
 refine ZZ 0 (ha T i hT hA (by have:=hnx 0 (Y0l _); rwa [Za4,YX] at this)) X32 rfl rfl rfl rfl (Z7 T i) ?_;rintro r b' - - ⟨rfl,rfl⟩;refine Z4a rfl rfl rfl ?_;(refine go ?_;repeat' (apply B<;>intro hb<;>try cases hb));refine Z1n hC (fun m=>m<=l.length) (fun m=>l.length-m) 3 (fun m => [(0,.cp [.ptr 0 0 0]),(2,.ptr 1 0 0),(3,.own 2)])
  (fun m => [(0,rdB T (i+(Xy 2 a).length+X3I 10 2 l m)),(1,⟨4,[eZ]⟩),(2,⟨4,((a :: l).take (m+1)).map Xg⟩)]) (by omega) 0 (Y0l _) (fun i=>i) (fun _ _=>rfl) Z1a
  ⟨⟨_,rfl,.same _ ⟨⟨show (0:Nat)<3 by decide,rfl⟩,Yt⟩⟩,Qt 1 0 0,⟨_,rfl,.own 2 (by decide)⟩,Yt⟩
  ⟨Qs (Z7 _ _),Qs ⟨Z2e,Yt⟩,⟨by decide,⟨4,((a :: l).take 1).map Xg⟩,by rw [show ((a :: l).take 1).map Xg = [eC a] by rw [<- ZR]; rfl]; rfl,.same _ (Z1K _)⟩,Yt⟩ ?_
 intro m hm;(repeat'(first|refine Z1 13 ?_|refine Z0 13 ?_|refine st ?_|(apply B<;>intro hb<;>try cases hb)))<;>try refine At.mk ?_
 by_cases hml:m<l.length
 . obtain ⟨h1, h2⟩ := ZbM hB hml;obtain⟨at_,hrd⟩:=Z2T h1 hT;refine Zb (X4a hrd [45,62] (by decide)) rfl rfl rfl rfl (Z7 T _) ⟨Yt,Yt⟩ ?_;rintro r b' - - ⟨rfl,rfl⟩;have hx:=hl _ (Y0j hml) T _ hT h2 (by have:=hnx (m+1) hml; rw [Z50 10 2 hml] at this; simpa only [YL] using this);(repeat'(first|refine Z1 16 ?_|refine Z0 16 ?_|refine st ?_|(apply B<;>intro hb<;>try cases hb)))<;>try refine At.mk ?_
   refine ZZ 0 hx X32 rfl rfl rfl rfl (Z7 T _) ?_;rintro r b' - - ⟨rfl,rfl⟩;(repeat'(first|refine Z1 18 ?_|refine Z0 18 ?_|refine st ?_|(apply B<;>intro hb<;>try cases hb)))<;>try refine At.mk ?_
   have happ:((a :: l).take (m+1)).map Xg ++ [eC l[m]]=((a :: l).take (m+1+1)).map Xg:=X5E (l:=a :: l) (m:=m+1) (by simpa using hml)
   refine ZB (Z11 (k:=2) (m := [eC l[m]]) (fl:=true) (b:=⟨4,((a :: l).take (m+1)).map Xg⟩) rfl rfl rfl (fun c hc=>by rw [Y0g.1 hc]; rfl) rfl (by
    show ((((a :: l).take (m+1)).map Xg).length+1)*64<=_
    rw [Y0f,Y0o];omega)) rfl rfl ?_
   simp only;rw [happ];(refine go ?_;repeat' (apply B<;>intro hb<;>try cases hb))
   exact⟨m+1,mv 2 3,hml,by omega,Z3y (by decide),Z1e rfl,
    ⟨⟨_,rfl,.same _ ⟨⟨show (0:Nat)<3 by decide,rfl⟩,Yt⟩⟩,Qt 1 0 0,Qw 2,Yt⟩,
    ⟨⟨by decide,_,by rw [Z50 10 2 hml,<- YL,<- YL]; rfl,.same _ (Z7 _ _)⟩,Qs ⟨Z2e,Yt⟩,Qs (Z1K _),Yt⟩⟩
 . obtain rfl : m = l.length := by omega
   obtain⟨t,h1,h2⟩:=(show Nxt 1 (T.map (·.1)) (i+(Xy 2 a).length+X3I 10 2 l l.length) by rw [Z4Z]; exact hn).not (op:=10) (by decide) (by decide) (by decide);obtain⟨at_,hrd⟩:=Z2T h1 hT;refine Zb (X3b hrd [45,62] h2) rfl rfl rfl rfl (Z7 T _) ⟨Yt,Yt⟩ ?_;rintro r b' - - ⟨rfl,rfl⟩;rw [show (a :: l).take (l.length+1)=a :: l from Y2a (by simp),Z4Z];generalize hL:a :: l=L;have hLl:L.length=l.length+1:=by rw [<- hL]; rfl
   have hLm:(L.map Xg).length=l.length+1:=by rw [Y0f,hLl]
   have hinn:∀ D,XG D (L.map Xg):=fun D=>Z3H L D;(repeat'(first|refine Z1 19 ?_|refine Z0 19 ?_|refine st ?_|(apply B<;>intro hb<;>try cases hb)))<;>try refine At.mk ?_
   refine Zm (Zo (k:=3) rfl rfl (Z1K L)) ?_;(repeat'(first|refine Z1 22 ?_|refine Z0 22 ?_|refine st ?_|(apply B<;>intro hb<;>try cases hb)))<;>try refine At.mk ?_
   refine Ze (v:=(l.length:Int)) rfl rfl rfl (by
    rw [hLm,show ((l.length+1:Nat):Int)-1=(l.length:Int) by omega]
    exact Y0v _ ⟨by omega,by omega⟩) ?_
   refine Qo (Zk (xs:=L) (g:=Xg) rfl rfl l.length rfl (by omega) (ZS _)) ?_;rw [ZR];(repeat'(first|refine Z1 27 ?_|refine Z0 27 ?_|refine st ?_|(apply B<;>intro hb<;>try cases hb)))<;>try refine At.mk ?_
   refine Ze (v:=(l.length:Int)-1) rfl rfl rfl (by
    rw [hLm,show ((l.length+1:Nat):Int)-2=(l.length:Int)-1 by omega]
    exact Y0v _ ⟨by omega,by omega⟩) ?_
   (refine go ?_;repeat' (apply B<;>intro hb<;>try cases hb));refine Zv hC (fun k=>k<=l.length) (fun k=>l.length-k) 4 (fun k => [(2,.ptr 1 0 0),(3,.vec (L.map Xg) false),(4,.ptr 3 0 0),(5,.val (.int .i64 ((l.length:Int)-1-(k:Int))))])
    (fun k => [(0,rdB T (i+(Xy 2 a).length+(Xf 10 2 l).length)),(1,⟨4,[eZ]⟩),(3,⟨4,[eC (X4k (L.drop (l.length-k)))]⟩)]) (by omega) 0 (Y0l _)
    ⟨⟨rfl,show (1:Nat)<4 by decide⟩,⟨rfl,hinn _⟩,⟨rfl,show (3:Nat)<4 by decide⟩,⟨by show some (PV.val (.int .i64 ((l.length:Int)-1)))=some (.val (.int .i64 ((l.length:Int)-1-0))); rw [Int.sub_zero],Yt⟩,Yt⟩
    ⟨⟨by decide,rfl,Zc (fun _ h=>h.elim) _ (Z7 _ _)⟩,⟨by decide,rfl,Z5N _⟩,⟨by decide,by rw [Nat.sub_zero,Zh5 (by omega)]; rfl,⟨Zaq _ _,Yt⟩⟩,Yt⟩ ?_
   intro k hk;have hdec:IntKind.i64.wrap ((l.length:Int)-1-(k:Int)-1)=(l.length:Int)-1-((k+1:Nat):Int):=by
    rw [show (l.length:Int)-1-(k:Int)-1=(l.length:Int)-1-((k+1:Nat):Int) by omega];exact Y0v _ ⟨by omega,by omega⟩
   (repeat'(first|refine Z1 29 ?_|refine Z0 29 ?_|refine st ?_|(apply B<;>intro hb<;>try cases hb)))<;>try refine At.mk ?_
   by_cases hkl:k<l.length
   . obtain ⟨j, hj⟩ : ∃ j, l.length - k = j + 1 := ⟨l.length - k - 1, by omega⟩;refine Qo (Qy rfl (by omega)) ?_;(repeat'(first|refine Z1 34 ?_|refine Z0 34 ?_|refine st ?_|(apply B<;>intro hb<;>try cases hb)))<;>try refine At.mk ?_
     refine Qr (Zk (xs:=L) (g:=Xg) rfl rfl j (by omega) (by omega) (ZS _)) ?_;rw [ZR];(repeat'(first|refine Z1 37 ?_|refine Z0 37 ?_|refine st ?_|(apply B<;>intro hb<;>try cases hb)))<;>try refine At.mk ?_
     refine Qd (Z9c 10 _ _) ⟨Yt,Zp _,Zp _,Yt⟩ ?_;(repeat'(first|refine Z1 31 ?_|refine Z0 31 ?_|refine st ?_|(apply B<;>intro hb<;>try cases hb)))<;>try refine At.mk ?_
     refine Ze rfl rfl rfl hdec ?_;(refine go ?_;repeat' (apply B<;>intro hb<;>try cases hb));have hd : X4k (L.drop (l.length - (k + 1))) = .mk 10 0 [] [L[j]'(by omega),X4k (L.drop (l.length - k))] := by
      rw [show l.length-(k+1)=j by omega,Zh4 (by omega),hj]
     exact⟨k+1,hkl,by omega,⟨⟨rfl,show (1:Nat)<4 by decide⟩,⟨rfl,hinn _⟩,⟨rfl,show (3:Nat)<4 by decide⟩,⟨rfl,Yt⟩,Yt⟩,
      ⟨⟨by decide,rfl,Zc (fun _ h=>h.elim) _ (Z7 _ _)⟩,⟨by decide,rfl,Z5N _⟩,⟨by decide,by rw [hd]; rfl,⟨Zaq _ _,Yt⟩⟩,Yt⟩⟩
   . obtain rfl : k = l.length := by omega
     refine Qo (Qz rfl (by omega)) ?_;(refine go ?_;repeat' (apply B<;>intro hb<;>try cases hb));exact Z12 rfl (Zp _) rfl (Z7 T _) ⟨by rw [Y2E,<- hL]; rfl,rfl⟩
def X58:PV:=.cp [.vec [] true,.val (.map none)]
def X3A:PV:=.cp [.vec [] true]
theorem Z2d:X58.pure:=⟨Yt,Yt,Yt⟩
theorem Z16:X3A.pure:=⟨Yt,Yt⟩
noncomputable def stE (S:List Nat):List PV := [.val (.int .i64 0),X58,X58,.vec [] true,X43 [] S,X3A,X3A,.vec [] true,.vec [] true,X3A]
noncomputable def X5k (S:List Nat):PV:=.cp (stE S)
theorem Z58 (S:List Nat):Xe (stE S):=⟨Yt,Z2d,Z2d,Yt,Z2r [] S,Z16,Z16,Yt,Yt,Z16,Yt⟩
theorem Z3I (S:List Nat):(X5k S).pure:=Z58 S
theorem Z59:X7 Tryz.prog 57 [] (· = X58):=by
 refine Yp ok57 fun C hC=>?_;(repeat'(first|refine Z1 2 ?_|refine Z0 2 ?_|refine st ?_|(apply B<;>intro hb<;>try cases hb)))<;>try refine At.mk ?_
 refine Z5 rfl rfl rfl ?_;(refine go ?_;repeat' (apply B<;>intro hb<;>try cases hb));exact Z4 rfl Z2d rfl
theorem Zce:X7 Tryz.prog 59 [] (· = X3A):=by
 refine Yp ok59 fun C hC=>?_;(repeat'(first|refine Z1 2 ?_|refine Z0 2 ?_|refine st ?_|(apply B<;>intro hb<;>try cases hb)))<;>try refine At.mk ?_
 refine Z5 rfl rfl rfl ?_;(refine go ?_;repeat' (apply B<;>intro hb<;>try cases hb));exact Z4 rfl Z16 rfl
theorem Z9d:X7 Tryz.prog 60 [] (· = X3A):=by
 refine Yp ok60 fun C hC=>?_;(repeat'(first|refine Z1 2 ?_|refine Z0 2 ?_|refine st ?_|(apply B<;>intro hb<;>try cases hb)))<;>try refine At.mk ?_
 refine Z5 rfl rfl rfl ?_;(refine go ?_;repeat' (apply B<;>intro hb<;>try cases hb));exact Z4 rfl Z16 rfl
theorem Zcf:X7 Tryz.prog 61 [] (· = X3A):=by
 refine Yp ok61 fun C hC=>?_;(repeat'(first|refine Z1 2 ?_|refine Z0 2 ?_|refine st ?_|(apply B<;>intro hb<;>try cases hb)))<;>try refine At.mk ?_
 refine Z5 rfl rfl rfl ?_;(refine go ?_;repeat' (apply B<;>intro hb<;>try cases hb));exact Z4 rfl Z16 rfl
theorem Z9e:X7 Tryz.prog 22 [] fun r=>∃ S,r=X5k S:=by
 refine Yp ok22 fun C hC=>?_;(repeat'(first|refine Z1 1 ?_|refine Z0 1 ?_|refine st ?_|(apply B<;>intro hb<;>try cases hb)))<;>try refine At.mk ?_
 refine Qe Z59 Yt ?_;refine Qe Z59 Yt ?_;refine Z13 rfl rfl Z9Z Yt rfl ?_;rintro r ⟨S,rfl⟩;refine Qe Zce Yt ?_;refine Qe Z9d Yt ?_;refine Qe Zcf Yt ?_;(repeat'(first|refine Z1 9 ?_|refine Z0 9 ?_|refine st ?_|(apply B<;>intro hb<;>try cases hb)))<;>try refine At.mk ?_
 refine Z5 rfl rfl rfl ?_;(refine go ?_;repeat' (apply B<;>intro hb<;>try cases hb));exact Z4 rfl (Z3I S) ⟨S,rfl⟩
theorem Z5O:X7 Tryz.prog 62 [X58] (· = .val (.int .i64 0)):=by
 refine Yp ok62 fun C hC=>?_;(refine go ?_;repeat' (apply B<;>intro hb<;>try cases hb));exact Z4 rfl Yt rfl
theorem Zcg (S:List Nat):X7 Tryz.prog 88 [.agg (stE S)] (· = .agg (stE S)):=by
 refine Yp ok88 fun C hC=>?_;(repeat'(first|refine Z1 10 ?_|refine Z0 10 ?_|refine st ?_|(apply B<;>intro hb<;>try cases hb)))<;>try refine At.mk ?_
 refine ZB (Z4E (a:=0) (b:=0) rfl rfl (Y0m _) (by decide)) rfl rfl ?_;(repeat'(first|refine Z1 14 ?_|refine Z0 14 ?_|refine st ?_|(apply B<;>intro hb<;>try cases hb)))<;>try refine At.mk ?_
 refine Qo (ZfG rfl rfl rfl (fun c hc=>by cases hc) rfl) ?_;(repeat'(first|refine Z1 15 ?_|refine Z0 15 ?_|refine st ?_|(apply B<;>intro hb<;>try cases hb)))<;>try refine At.mk ?_
 refine Zm (Zo (k:=3) (b:=⟨7,[]⟩) rfl rfl Yt) ?_;(refine go ?_;repeat' (apply B<;>intro hb<;>try cases hb));refine Zh 0 ?_;(refine go ?_;repeat' (apply B<;>intro hb<;>try cases hb));exact Z4 rfl (Z58 S) rfl
theorem Zch (S:List Nat):X7 Tryz.prog 50 [X5k S] (· = .agg (stE S)):=by
 refine Yp ok50 fun C hC=>?_;(repeat'(first|refine Z1 10 ?_|refine Z0 10 ?_|refine st ?_|(apply B<;>intro hb<;>try cases hb)))<;>try refine At.mk ?_
 refine Qe (Zcg S) ⟨Z58 S,Yt⟩ ?_;(refine go ?_;repeat' (apply B<;>intro hb<;>try cases hb));exact Z4 rfl (Z58 S) rfl
theorem Zci:X1a Tryz.prog 223 [.vec [] true] .own ⟨4,[]⟩:=by
 refine ZY ok223 (Y0 rfl) fun C hC=>?_;(refine go ?_;repeat' (apply B<;>intro hb<;>try cases hb));refine Z2Y (.inl ⟨_,_,rfl⟩) rfl fun b=>?_;cases b
 . repeat' (first | refine Zm (ZD (k := 5) rfl 4 (by decide)) ?_ | (first|refine st ?_|(apply B<;>intro hb<;>try cases hb)))
   exact⟨_,_,rfl,.inl rfl,_,rfl,rfl⟩
 . iterate 6 (first|refine st ?_|(apply B<;>intro hb<;>try cases hb))
   refine Z1p (ZD (k:=2) rfl 4 (by decide) _) ?_;(refine go ?_;repeat' (apply B<;>intro hb<;>try cases hb));exact⟨_,_,rfl,.inl rfl,_,rfl,rfl⟩
theorem Zcj:X1a Tryz.prog 228 [.vec [] true] .own ⟨3,[]⟩:=by
 refine ZY ok228 (Y0 rfl) fun C hC=>?_;(refine go ?_;repeat' (apply B<;>intro hb<;>try cases hb));refine Z2Y (.inl ⟨_,_,rfl⟩) rfl fun b=>?_;cases b
 . repeat' (first | refine Zm (ZD (k := 5) rfl 3 (by decide)) ?_ | (first|refine st ?_|(apply B<;>intro hb<;>try cases hb)))
   exact⟨_,_,rfl,.inl rfl,_,rfl,rfl⟩
 . iterate 6 (first|refine st ?_|(apply B<;>intro hb<;>try cases hb))
   refine Z1p (ZD (k:=2) rfl 3 (by decide) _) ?_;(refine go ?_;repeat' (apply B<;>intro hb<;>try cases hb));exact⟨_,_,rfl,.inl rfl,_,rfl,rfl⟩
theorem Zck:X1a Tryz.prog 239 [.vec [] true] .own ⟨3,[]⟩:=by
 refine ZY ok239 (Y0 rfl) fun C hC=>?_;(refine go ?_;repeat' (apply B<;>intro hb<;>try cases hb));refine Z2Y (.inl ⟨_,_,rfl⟩) rfl fun b=>?_;cases b
 . repeat' (first | refine Zm (ZD (k := 5) rfl 3 (by decide)) ?_ | (first|refine st ?_|(apply B<;>intro hb<;>try cases hb)))
   exact⟨_,_,rfl,.inl rfl,_,rfl,rfl⟩
 . iterate 6 (first|refine st ?_|(apply B<;>intro hb<;>try cases hb))
   refine Z1p (ZD (k:=2) rfl 3 (by decide) _) ?_;(refine go ?_;repeat' (apply B<;>intro hb<;>try cases hb));exact⟨_,_,rfl,.inl rfl,_,rfl,rfl⟩
theorem Z5a:X7 Tryz.prog 247 [X3A] (· = .vec [] false):=by
 refine Yp ok247 fun C hC=>?_;(repeat'(first|refine Z1 9 ?_|refine Z0 9 ?_|refine st ?_|(apply B<;>intro hb<;>try cases hb)))<;>try refine At.mk ?_
 refine Z2m Zci Z47 (show X2 ([]:List (List PV)) from Yt) rfl rfl ⟨Yt,Yt⟩ ?_;refine Zm (Zo (k:=9) (b:=⟨4,[]⟩) rfl rfl Yt) ?_;(refine go ?_;repeat' (apply B<;>intro hb<;>try cases hb));exact Z4 rfl Yt rfl
theorem Z7i:X7 Tryz.prog 246 [X3A] (· = .vec [] false):=by
 refine Yp ok246 fun C hC=>?_;(repeat'(first|refine Z1 9 ?_|refine Z0 9 ?_|refine st ?_|(apply B<;>intro hb<;>try cases hb)))<;>try refine At.mk ?_
 refine Z2m Zcj Z47 (show X2 ([]:List (List PV)) from Yt) rfl rfl ⟨Yt,Yt⟩ ?_;refine Zm (Zo (k:=9) (b:=⟨3,[]⟩) rfl rfl Yt) ?_;(refine go ?_;repeat' (apply B<;>intro hb<;>try cases hb));exact Z4 rfl Yt rfl
theorem Z74:X7 Tryz.prog 248 [X3A] (· = .vec [] false):=by
 refine Yp ok248 fun C hC=>?_;(repeat'(first|refine Z1 9 ?_|refine Z0 9 ?_|refine st ?_|(apply B<;>intro hb<;>try cases hb)))<;>try refine At.mk ?_
 refine Z2m Zck Z47 (show X2 ([]:List (List PV)) from Yt) rfl rfl ⟨Yt,Yt⟩ ?_;refine Zm (Zo (k:=9) (b:=⟨3,[]⟩) rfl rfl Yt) ?_;(refine go ?_;repeat' (apply B<;>intro hb<;>try cases hb));exact Z4 rfl Yt rfl
def uS:ByteArray:=⟨#[117]⟩
noncomputable def stU (S:List Nat) (k:Nat):List PV := [.val (.int .i64 0),X31 [uS] k,X58,.vec [] true,X43 [] S,X3A,X3A,.vec [] true,.vec [] true,X3A]
theorem ZkJ {l:Nat->List PV} (hm:MkL l):Mk fun k=>.agg (l k):=fun F φ φ' v i n hn hv=>by
 obtain⟨vs,rfl,h1,h2,h3⟩:=hv.agg_inv;exact .agg vs _ (by rw [h1,hm.1 i n]) (fun j hj=>h2 j (by rw [hm.1 i n]; exact hj)) fun j hj=>hm.2 F φ φ' _ i n j hn (h3 j (by rw [hm.1 i n]; exact hj))
theorem Zji {l:Nat->List PV} (hm:MkL l):Mk fun k=>.cp (l k):=fun F φ φ' v i n hn hv=>by
 obtain⟨x,cs,rfl,hs,hF,hR⟩:=hv.cp_inv;exact .cp x _ cs hs (fun j hj=>hF j (by rw [hm.1 i n]; exact hj)) fun j hj=>hm.2 F φ φ' _ i n j hn (hR j (by rw [hm.1 i n]; exact hj))
theorem ZiP {l:List PV} (hp:Xe l):MkL fun _=>l:=⟨fun _ _=>rfl,fun F φ φ' v i n j hn hv=>hv.pure (ZW hp j)⟩
theorem X5j (S:List Nat):MkL (stU S):=Zw (Z1C (p:=.val (.int .i64 0)) Yt) (Zw (Z33 _) (ZiP (l := [X58,.vec [] true,X43 [] S,X3A,X3A,.vec [] true,.vec [] true,X3A]) ⟨Z2d,Yt,Z2r [] S,Z16,Z16,Yt,Yt,Z16,Yt⟩))
def tU:Bx:=X22 [uS]
theorem Z1u:X2 tU.elems:=Zt _
noncomputable def PU (S:List Nat):Nat->List PV:=fun k => [.agg (stU S k)]
theorem X5n (S:List Nat):MkL (PU S):=Zw (ZkJ (X5j S)) Z1S
theorem Zcl:X7 Tryz.prog 18 [.val (.int .i64 1)] (· = XH 1):=Z82 1 (by decide) (by decide)
theorem Z9f:X7 Tryz.prog 243 [XH 1,.val (.int .i64 0)] (· = .agg [.vec [] false]):=by
 have:=Z8s 1 (by decide) 0;rw [show X2i 1 0=0 by decide,Z2W] at this;exact this
theorem Z4u (S:List Nat):Xu Tryz.prog 159 (PU S) tU fun q b'=>q=.agg [.vec [] false]/\b'=tU:=by
 refine Zi ok159 (Y0 rfl) fun C hC=>?_;refine Zn ?_;refine Z8 ?_;refine Z5 rfl rfl rfl ?_;(repeat'(first|refine Z1 5 ?_|refine Z0 5 ?_|refine st ?_|(apply B<;>intro hb<;>try cases hb)))<;>try refine At.mk ?_
 refine Qe Z5O ⟨Z2d,Yt⟩ ?_;(repeat'(first|refine Z1 7 ?_|refine Z0 7 ?_|refine st ?_|(apply B<;>intro hb<;>try cases hb)))<;>try refine At.mk ?_
 refine Qe Zcl ⟨Yt,Yt⟩ ?_;refine Qe Z9f ⟨Z9 _,Yt,Yt⟩ ?_;(refine go ?_;repeat' (apply B<;>intro hb<;>try cases hb));exact Z12 rfl ⟨Yt,Yt⟩ rfl Z1u ⟨rfl,rfl⟩
theorem Zay (S:List Nat):Xu Tryz.prog 160 (PU S) tU fun q b'=>q=.val (.int .i64 0)/\b'=tU:=by
 refine Zi ok160 (Y0 rfl) fun C hC=>?_;refine Zn ?_;refine Z8 ?_;refine Z5 rfl rfl rfl ?_;(repeat'(first|refine Z1 14 ?_|refine Z0 14 ?_|refine st ?_|(apply B<;>intro hb<;>try cases hb)))<;>try refine At.mk ?_
 refine ZZ 0 (Z4u S) (X5n S) rfl rfl rfl rfl Z1u ?_;rintro q b' - - ⟨rfl,rfl⟩;(repeat'(first|refine Z1 17 ?_|refine Z0 17 ?_|refine st ?_|(apply B<;>intro hb<;>try cases hb)))<;>try refine At.mk ?_
 refine Qe (Z7R [] S (by decide)) ⟨Z2r [] S,Yt⟩ ?_;(refine go ?_;repeat' (apply B<;>intro hb<;>try cases hb));refine Zh 0 ?_;(repeat'(first|refine Z1 39 ?_|refine Z0 39 ?_|refine st ?_|(apply B<;>intro hb<;>try cases hb)))<;>try refine At.mk ?_
 refine Qe Z7i ⟨Z16,Yt⟩ ?_;(refine go ?_;repeat' (apply B<;>intro hb<;>try cases hb));refine Zh 0 ?_;(repeat'(first|refine Z1 63 ?_|refine Z0 63 ?_|refine st ?_|(apply B<;>intro hb<;>try cases hb)))<;>try refine At.mk ?_
 refine Qe Z5a ⟨Z16,Yt⟩ ?_;(refine go ?_;repeat' (apply B<;>intro hb<;>try cases hb));refine Zh 0 ?_;(repeat'(first|refine Z1 79 ?_|refine Z0 79 ?_|refine st ?_|(apply B<;>intro hb<;>try cases hb)))<;>try refine At.mk ?_
 refine Qe Z74 ⟨Z16,Yt⟩ ?_;(refine go ?_;repeat' (apply B<;>intro hb<;>try cases hb));refine Zh 0 ?_;(refine go ?_;repeat' (apply B<;>intro hb<;>try cases hb));exact Z12 rfl Yt rfl Z1u ⟨rfl,rfl⟩
theorem Zcm (S:List Nat):Xu Tryz.prog 161 (PU S) tU fun q b'=>q=.val (.int .i64 0)/\b'=tU:=by
 refine Zi ok161 (Y0 rfl) fun C hC=>?_;refine Zn ?_;refine Z8 ?_;refine Z5 rfl rfl rfl ?_;(repeat'(first|refine Z1 12 ?_|refine Z0 12 ?_|refine st ?_|(apply B<;>intro hb<;>try cases hb)))<;>try refine At.mk ?_
 refine Qe (Z7R [] S (by decide)) ⟨Z2r [] S,Yt⟩ ?_;(refine go ?_;repeat' (apply B<;>intro hb<;>try cases hb));refine Zh 0 ?_;(repeat'(first|refine Z1 35 ?_|refine Z0 35 ?_|refine st ?_|(apply B<;>intro hb<;>try cases hb)))<;>try refine At.mk ?_
 refine Qe Z5a ⟨Z16,Yt⟩ ?_;(refine go ?_;repeat' (apply B<;>intro hb<;>try cases hb));refine Zh 0 ?_;(repeat'(first|refine Z1 53 ?_|refine Z0 53 ?_|refine st ?_|(apply B<;>intro hb<;>try cases hb)))<;>try refine At.mk ?_
 refine Qe Z74 ⟨Z16,Yt⟩ ?_;(refine go ?_;repeat' (apply B<;>intro hb<;>try cases hb));refine Zh 0 ?_;(refine go ?_;repeat' (apply B<;>intro hb<;>try cases hb));exact Z12 rfl Yt rfl Z1u ⟨rfl,rfl⟩
theorem Zaz:X7 Tryz.prog 19 [.agg [.vec [] false],.agg [.vec [] false]] (· = .agg [.vec [] false]):=by
 have:=Z70 0 0 (by decide) (by decide);rw [show XN 0 0=0 by decide,Z2W] at this;exact this
theorem Z9g:X7 Tryz.prog 45 [.agg [.vec [] false],.agg [.vec [] false]] (· = .val (.bool true)):=by
 have:=Z6v 0 0 (by decide) (by decide);rw [Z2W] at this;exact this
theorem ZeP (S:List Nat):Xu Tryz.prog 162 (PU S) tU fun q b'=>q=.val (.int .i64 0)/\b'=tU:=by
 refine Zi ok162 (Y0 rfl) fun C hC=>?_;refine Zn ?_;refine Z8 ?_;refine Z5 rfl rfl rfl ?_;(refine go ?_;repeat' (apply B<;>intro hb<;>try cases hb));refine Zh 0 ?_
 repeat' (first|(show aw _ _ (.draw _) _ _ _ _; refine Z4D [] 0 (by decide) ?_)|refine Z0 29 ?_|(first|refine st ?_|(apply B<;>intro hb<;>try cases hb)))
 refine At.mk ?_;refine ZiM (Z4u S) (X5n S) rfl rfl rfl rfl Z1u ?_;rintro q b' - - ⟨rfl,rfl⟩
 repeat' (first|refine Z0 32 ?_|(first|refine st ?_|(apply B<;>intro hb<;>try cases hb)))
 refine At.mk ?_;refine Zjf Zaz rfl rfl rfl ⟨⟨Yt,Yt⟩,⟨Yt,Yt⟩,Yt⟩ ?_;(refine go ?_;repeat' (apply B<;>intro hb<;>try cases hb));refine Zh 0 ?_;(refine go ?_;repeat' (apply B<;>intro hb<;>try cases hb));exact Z12 rfl Yt rfl Z1u ⟨rfl,rfl⟩
theorem Zl3 {e:Env} {h:X0} {n:Nat} {x y:Operand} {a b:By} (hx:ev e x=some (.val (.string (toB a)))) (hy:ev e y=some (.val (.string (toB b)))):X1 (.bin .lss .num x y) e h n=some (.val (.bool (Op.bytesLess a b)),h):=by
 simp [X1,hx,hy,X3T,X3R,Z98]
theorem ZeQ (a:By):X7 Tryz.prog 364 [.val (.string (toB a))] (· = .val (.bool false)):=by
 refine Yp ok364 fun C hC=>?_;(repeat'(first|refine Z1 5 ?_|refine Z0 5 ?_|refine st ?_|(apply B<;>intro hb<;>try cases hb)))<;>try refine At.mk ?_
 refine Qo (Za (v:=false) (Zl1 rfl rfl) (by rw [YF rfl]; rfl)) ?_;(refine go ?_;repeat' (apply B<;>intro hb<;>try cases hb));exact Z4 rfl Yt rfl
theorem Zh7 {a b:By} (h:Op.bytesLess a b=false):X7 Tryz.prog 353 [.val (.string (toB a)),.val (.string (toB b))] (· = .val (.bool false)):=by
 refine Yp ok353 fun C hC=>?_;(repeat'(first|refine Z1 6 ?_|refine Z0 6 ?_|refine st ?_|(apply B<;>intro hb<;>try cases hb)))<;>try refine At.mk ?_
 refine Qe (ZeQ a) ⟨Yt,Yt⟩ ?_;(repeat'(first|refine Z1 15 ?_|refine Z0 15 ?_|refine st ?_|(apply B<;>intro hb<;>try cases hb)))<;>try refine At.mk ?_
 refine Zj rfl ?_;refine Qo (Za (v:=false) (Zl3 rfl rfl) h) ?_;(refine go ?_;repeat' (apply B<;>intro hb<;>try cases hb));exact Z4 rfl Yt rfl
structure X1q (l:List Int):Prop where
 rng:∀ r∈l,1<=r/\r<=6
 asc:l.Pairwise (· < ·)
 len:l.length<=8
theorem X1q.lt {l:List Int} (h:X1q l) {i j:Nat} (hi:i<l.length) (hj:j<l.length) (hij:i<j):l[i]<l[j]:=Y1W.1 h.asc i j hi hj hij
theorem six {r:Int} (h:1<=r/\r<=6):r=1 \/ r=2 \/ r=3 \/ r=4 \/ r=5 \/ r=6:=by omega
theorem Zh8 {r s:Int} (hr:1<=r/\r<=6) (hs:1<=s/\s<=6) (h:r<s):Op.bytesLess (rnS s) (rnS r)=false/\rnS s≠rnS r:=by
 rcases six hr with rfl|rfl|rfl|rfl|rfl|rfl<;>rcases six hs with rfl|rfl|rfl|rfl|rfl|rfl<;>first|exact absurd h (by decide)|exact⟨by decide,by decide⟩
def nmC (r:Int):List PV := [.val (.string (rnB r))]
theorem Z45 (l:List Int) (D:Nat->Prop):XG D (l.map nmC):=Zc (fun _ h=>h.elim) _ (Zs l)
theorem ZiQ (l:List Int) (h:X1q l) (fl:Bool):X7 Tryz.prog 347 [.vec (l.map nmC) fl,.val (.int .i64 0),.val (.int .i64 (l.length:Int))] (· = .tup []):=by
 have hlen:=h.len;refine Yp ok347 fun C hC=>?_;(refine go ?_;repeat' (apply B<;>intro hb<;>try cases hb));refine Zv hC (fun _=>True) (fun i=>8-i) 0 (fun i => [(0,.vec (l.map nmC) fl),(1,.val (.int .i64 0)),(2,.val (.int .i64 (l.length:Int))),(6,.val (.int .i64 ((i+1:Nat):Int)))]) (fun _=>[]) (Y0m _) 0 Yt
  ⟨⟨rfl,Z45 _ _⟩,⟨rfl,Yt⟩,⟨rfl,Yt⟩,⟨rfl,Yt⟩,Yt⟩ Yt ?_
 intro i _;(repeat'(first|refine Z1 12 ?_|refine Z0 12 ?_|refine st ?_|(apply B<;>intro hb<;>try cases hb)))<;>try refine At.mk ?_
 by_cases hi:i+1<l.length
 . have hi0 : i < l.length := by omega
   have hinc:IntKind.i64.wrap (((i+1:Nat):Int)+1)=((i+1+1:Nat):Int):=Y0v _ ⟨by omega,by omega⟩;have hdec:IntKind.i64.wrap (((i+1:Nat):Int)-1)=(i:Int):=by rw [show ((i+1:Nat):Int)-1=(i:Int) by omega]; exact Y0v _ ⟨by omega,by omega⟩
   have hls:=Zh8 (h.rng _ (Y0j hi0)) (h.rng _ (Y0j hi)) (h.lt hi0 hi (Y1S i));refine Qo (Qy rfl (by omega)) ?_;(refine go ?_;repeat' (apply B<;>intro hb<;>try cases hb));refine Zh 0 ?_;unfold Xr
   repeat' (first|refine Z18 [] ?_|refine Z0 18 ?_|(first|refine st ?_|(apply B<;>intro hb<;>try cases hb)))
   refine At.mk ?_;refine Qr (Qy rfl (by omega)) ?_;(repeat'(first|refine Z1 22 ?_|refine Z0 22 ?_|refine st ?_|(apply B<;>intro hb<;>try cases hb)))<;>try refine At.mk ?_
   refine Z27 rfl ?_;refine Qr (Zk (xs:=l) (g:=nmC) rfl rfl (i+1) rfl hi rfl) ?_;(repeat'(first|refine Z1 26 ?_|refine Z0 26 ?_|refine st ?_|(apply B<;>intro hb<;>try cases hb)))<;>try refine At.mk ?_
   refine Z27 rfl ?_;refine Qr (Z2N rfl hdec) ?_;refine Z27 rfl ?_;refine Qr (Zk (xs:=l) (g:=nmC) rfl rfl i rfl hi0 rfl) ?_;(repeat'(first|refine Z1 29 ?_|refine Z0 29 ?_|refine st ?_|(apply B<;>intro hb<;>try cases hb)))<;>try refine At.mk ?_
   refine Z27 rfl ?_;refine Qd (Zh7 hls.1) ⟨Yt,Yt,Yt⟩ ?_;(repeat'(first|refine Z1 14 ?_|refine Z0 14 ?_|refine st ?_|(apply B<;>intro hb<;>try cases hb)))<;>try refine At.mk ?_
   refine Ze rfl rfl rfl hinc ?_;(refine go ?_;repeat' (apply B<;>intro hb<;>try cases hb));exact⟨i+1,Yt,by omega,⟨⟨rfl,Z45 _ _⟩,⟨rfl,Yt⟩,⟨rfl,Yt⟩,⟨rfl,Yt⟩,Yt⟩,Yt⟩
 . refine Qo (Qz rfl (by omega)) ?_;(refine go ?_;repeat' (apply B<;>intro hb<;>try cases hb));exact Z4 rfl Yt rfl
theorem ZiR (l:List Int) (h:X1q l) (fl:Bool) (v:Int):X7 Tryz.prog 322 [.vec (l.map nmC) fl,.val (.int .i64 0),.val (.int .i64 (l.length:Int)),.val (.int .i64 v)] (· = .tup []):=by
 have hlen:=h.len;have hsub:IntKind.i64.wrap ((l.length:Int)-0)=(l.length:Int):=by rw [Int.sub_zero]; exact Y0v _ ⟨by omega,by omega⟩
 refine Yp ok322 fun C hC=>?_;(refine go ?_;repeat' (apply B<;>intro hb<;>try cases hb));refine Zh 0 ?_;unfold Xr;(repeat'(first|refine Z1 21 ?_|refine Z0 21 ?_|refine st ?_|(apply B<;>intro hb<;>try cases hb)))<;>try refine At.mk ?_
 refine Ze rfl rfl rfl hsub ?_;(repeat'(first|refine Z1 23 ?_|refine Z0 23 ?_|refine st ?_|(apply B<;>intro hb<;>try cases hb)))<;>try refine At.mk ?_
 refine Qo (Qy rfl (by omega)) ?_;(repeat'(first|refine Z1 27 ?_|refine Z0 27 ?_|refine st ?_|(apply B<;>intro hb<;>try cases hb)))<;>try refine At.mk ?_
 refine Qe (ZiQ l h fl) ⟨Zs l,Yt,Yt,Yt⟩ ?_;(refine go ?_;repeat' (apply B<;>intro hb<;>try cases hb));exact Z4 rfl Yt rfl
theorem Zcn (n:Nat) (hn:n<=8):X7 Tryz.prog 210 [.val (.int .u64 (n:Int))] fun r=>∃ v,r=.val (.int .i64 v):=by
 refine Yp ok210 fun C hC=>?_;have:n=0 \/ n=1 \/ n=2 \/ n=3 \/ n=4 \/ n=5 \/ n=6 \/ n=7 \/ n=8:=by omega
 rcases this with rfl|rfl|rfl|rfl|rfl|rfl|rfl|rfl|rfl
 all_goals
  (refine go ?_;repeat' (apply B<;>intro hb<;>try cases hb));exact Z4 rfl Yt ⟨_,rfl⟩
theorem Zh9 (n:Nat) (hn:n<=8):X7 Tryz.prog 131 [.val (.int .u64 (n:Int))] fun r=>∃ v,r=.val (.int .i64 v):=by
 refine Yp ok131 fun C hC=>?_;(repeat'(first|refine Z1 7 ?_|refine Z0 7 ?_|refine st ?_|(apply B<;>intro hb<;>try cases hb)))<;>try refine At.mk ?_
 refine Z13 rfl rfl (Zcn n hn) ⟨Yt,Yt⟩ rfl ?_;rintro r ⟨v,rfl⟩;(refine go ?_;repeat' (apply B<;>intro hb<;>try cases hb));exact Z4 rfl Yt ⟨_,rfl⟩
theorem ZeR (l:List Int) (h:X1q l) (fl:Bool):X7 Tryz.prog 263 [.vec (l.map nmC) fl] (· = .tup []):=by
 have hlen:=h.len;have hll:(l.map nmC).length=l.length:=by simp
 have hcv:IntKind.u64.wrap (l.length:Int)=(l.length:Int):=Y0x _ ⟨by omega,by omega⟩;refine Yp ok263 fun C hC=>?_;(repeat'(first|refine Z1 4 ?_|refine Z0 4 ?_|refine st ?_|(apply B<;>intro hb<;>try cases hb)))<;>try refine At.mk ?_
 refine Ze (v:=(l.length:Int)) rfl rfl rfl (by rw [hll]) ?_;(repeat'(first|refine Z1 8 ?_|refine Z0 8 ?_|refine st ?_|(apply B<;>intro hb<;>try cases hb)))<;>try refine At.mk ?_
 refine Ze rfl rfl rfl hcv ?_;(repeat'(first|refine Z1 9 ?_|refine Z0 9 ?_|refine st ?_|(apply B<;>intro hb<;>try cases hb)))<;>try refine At.mk ?_
 refine Z13 rfl rfl (Zh9 l.length hlen) ⟨Yt,Yt⟩ rfl ?_;rintro r ⟨v,rfl⟩;(repeat'(first|refine Z1 10 ?_|refine Z0 10 ?_|refine st ?_|(apply B<;>intro hb<;>try cases hb)))<;>try refine At.mk ?_
 refine Qe (ZiR l h fl v) ⟨Zs l,Yt,Yt,Yt,Yt⟩ ?_;(refine go ?_;repeat' (apply B<;>intro hb<;>try cases hb));exact Z4 rfl Yt rfl
theorem Z9h (l:List Int) (h:X1q l) (fl:Bool):X7 Tryz.prog 264 [.vec (l.map nmC) fl] (· = .vec (l.map nmC) fl):=by
 have hlen:=h.len;have hll:(l.map nmC).length=l.length:=by simp
 refine Yp ok264 fun C hC=>?_;(repeat'(first|refine Z1 7 ?_|refine Z0 7 ?_|refine st ?_|(apply B<;>intro hb<;>try cases hb)))<;>try refine At.mk ?_
 refine Ze (v:=(l.length:Int)) rfl rfl rfl (by rw [hll]) ?_;by_cases h2:l.length<2
 . refine Qo (Qy rfl (by omega)) ?_;(refine go ?_;repeat' (apply B<;>intro hb<;>try cases hb));exact Z4 rfl (Zs l) rfl
 . refine Qo (Qz rfl (by omega)) ?_;(refine go ?_;repeat' (apply B<;>intro hb<;>try cases hb));refine Zv hC (fun k=>k+1<=l.length) (fun k=>l.length-k) 0 (fun k => [(0,.vec (l.map nmC) fl),(3,.val (.int .i64 ((k+1:Nat):Int)))]) (fun _=>[]) (Y0m _) 0 (by omega)
    ⟨⟨rfl,Z45 _ _⟩,⟨rfl,Yt⟩,Yt⟩ Yt ?_
   intro k hk;(repeat'(first|refine Z1 12 ?_|refine Z0 12 ?_|refine st ?_|(apply B<;>intro hb<;>try cases hb)))<;>try refine At.mk ?_
   refine Ze (v:=(l.length:Int)) rfl rfl rfl (by rw [hll]) ?_;by_cases hkl:k+1<l.length
   . have hk0 : k < l.length := by omega
     have hinc:IntKind.i64.wrap (((k+1:Nat):Int)+1)=((k+1+1:Nat):Int):=Y0v _ ⟨by omega,by omega⟩;have hdec:IntKind.i64.wrap (((k+1:Nat):Int)-1)=(k:Int):=by rw [show ((k+1:Nat):Int)-1=(k:Int) by omega]; exact Y0v _ ⟨by omega,by omega⟩
     have hls:=Zh8 (h.rng _ (Y0j hk0)) (h.rng _ (Y0j hkl)) (h.lt hk0 hkl (Y1S k));refine Qo (Qy rfl (by omega)) ?_
     repeat' (first|refine Z18 [] ?_|refine Z0 18 ?_|(first|refine st ?_|(apply B<;>intro hb<;>try cases hb)))
     refine At.mk ?_;refine Qr (Zk (xs:=l) (g:=nmC) rfl rfl (k+1) rfl hkl rfl) ?_;(repeat'(first|refine Z1 22 ?_|refine Z0 22 ?_|refine st ?_|(apply B<;>intro hb<;>try cases hb)))<;>try refine At.mk ?_
     refine Qr (Z2N rfl hdec) ?_;refine Qr (Zk (xs:=l) (g:=nmC) rfl rfl k rfl hk0 rfl) ?_;(repeat'(first|refine Z1 25 ?_|refine Z0 25 ?_|refine st ?_|(apply B<;>intro hb<;>try cases hb)))<;>try refine At.mk ?_
     refine Qr (Za (v:=false) (ZiC (a:=rnS l[k+1]) (b:=rnS l[k]) rfl rfl) (Y0w hls.2)) ?_;(repeat'(first|refine Z1 15 ?_|refine Z0 15 ?_|refine st ?_|(apply B<;>intro hb<;>try cases hb)))<;>try refine At.mk ?_
     refine Ze rfl rfl rfl hinc ?_;(refine go ?_;repeat' (apply B<;>intro hb<;>try cases hb));exact⟨k+1,hkl,by omega,⟨⟨rfl,Z45 _ _⟩,⟨rfl,Yt⟩,Yt⟩,Yt⟩
   . refine Qo (Qz rfl (by omega)) ?_;(refine go ?_;repeat' (apply B<;>intro hb<;>try cases hb));exact Z4 rfl (Zs l) rfl
def eN (l:List Int):List PV := [.val (.int .u8 0),.val (.int .i64 0),.vec (l.map nmC) false,.vec [] true]
theorem Zco (l:List Int) (h:l.length<=8):X7 Tryz.prog 262 [.vec [] true,.agg (eN l)] (· = .vec (l.map nmC) false):=by
 refine Yp ok262 fun C hC=>?_;refine Zn ?_;refine Z8 ?_;refine Z5 rfl rfl rfl ?_;(repeat'(first|refine Z1 10 ?_|refine Z0 10 ?_|refine st ?_|(apply B<;>intro hb<;>try cases hb)))<;>try refine At.mk ?_
 refine Z5 (Z6j (l := []) (m:=l.map nmC) rfl rfl (fun c hc=>by cases hc) (fun c hc=>by obtain⟨x,_,rfl⟩:=Y0i.1 hc; rfl) (by show ((0:Nat)+(l.map nmC).length)*16<=_; rw [Y0f];omega)) rfl rfl ?_;rw [Y1M];(refine go ?_;repeat' (apply B<;>intro hb<;>try cases hb));refine Zh 0 ?_;unfold Xr;(refine go ?_;repeat' (apply B<;>intro hb<;>try cases hb));exact Z4 rfl (Zs l) rfl
theorem Zcp (l:List Int) (h:X1q l):X7 Tryz.prog 183 [.agg (eN l)] (· = .vec (l.map nmC) false):=by
 refine Yp ok183 fun C hC=>?_;refine Zn ?_;refine Z8 ?_;refine Z5 rfl rfl rfl ?_;(repeat'(first|refine Z1 5 ?_|refine Z0 5 ?_|refine st ?_|(apply B<;>intro hb<;>try cases hb)))<;>try refine At.mk ?_
 refine Qe (Zco l h.len) ⟨Yt,⟨Yt,Yt,Zs l,Yt,Yt⟩,Yt⟩ ?_;(repeat'(first|refine Z1 7 ?_|refine Z0 7 ?_|refine st ?_|(apply B<;>intro hb<;>try cases hb)))<;>try refine At.mk ?_
 refine Qe (ZeR l h false) ⟨Zs l,Yt⟩ ?_;(repeat'(first|refine Z1 9 ?_|refine Z0 9 ?_|refine st ?_|(apply B<;>intro hb<;>try cases hb)))<;>try refine At.mk ?_
 refine Qe (Z9h l h false) ⟨Zs l,Yt⟩ ?_;(refine go ?_;repeat' (apply B<;>intro hb<;>try cases hb));exact Z4 rfl (Zs l) rfl
theorem Z2s (op:Int):X7 Tryz.prog 179 [.val (.int .u8 op)] (· = .val (.int .i64 (if op<7 then 0 else if op=7 then 1 else 2))):=by
 refine Yp ok179 fun C hC=>?_;(refine go ?_;repeat' (apply B<;>intro hb<;>try cases hb))
 all_goals
  simp only [Y0n,Y15,Y1s,Y1B] at *;refine Z4 rfl Yt ?_;(repeat' split)<;>first|rfl|(exfalso;omega)
theorem Zcq {r:Int} (h:1<=r/\r<=6):X7 Tryz.prog 182 [.val (.string (rnB r))] (· = .val (.bool false)):=by
 refine Yp ok182 fun C hC=>?_;(repeat'(first|refine Z1 4 ?_|refine Z0 4 ?_|refine st ?_|(apply B<;>intro hb<;>try cases hb)))<;>try refine At.mk ?_
 refine Qe (Z6X h) ⟨Yt,Yt⟩ ?_;(refine go ?_;repeat' (apply B<;>intro hb<;>try cases hb));exact Z4 rfl Yt rfl
theorem Zcr (l:List Int) (h:∀ r∈l,1<=r/\r<=6) (hlen:l.length<=8):X7 Tryz.prog 261 [.vec (l.map nmC) false,.fn 182 []] (· = .val (.int .i64 (-1))):=by
 have hll:(l.map nmC).length=l.length:=by simp
 refine Yp ok261 fun C hC=>?_;(repeat'(first|refine Z1 7 ?_|refine Z0 7 ?_|refine st ?_|(apply B<;>intro hb<;>try cases hb)))<;>try refine At.mk ?_
 refine Ze (v:=(l.length:Int)) rfl rfl rfl (by rw [hll]) ?_;(refine go ?_;repeat' (apply B<;>intro hb<;>try cases hb));refine Zv hC (fun i=>i<=l.length) (fun i=>l.length-i) 0 (fun i => [(0,.vec (l.map nmC) false),(1,.fn 182 []),(7,.val (.int .i64 (l.length:Int))),(8,Yv i)]) (fun _=>[]) (Y0m _) 0 (Y0l _)
  ⟨⟨rfl,Z45 _ _⟩,⟨rfl,Yt⟩,⟨rfl,Yt⟩,⟨rfl,Yt⟩,Yt⟩ Yt ?_
 intro i hi;have hinc:IntKind.i64.wrap ((i:Int)+1)=((i+1:Nat):Int):=Y0v _ ⟨by omega,by omega⟩;(repeat'(first|refine Z1 9 ?_|refine Z0 9 ?_|refine st ?_|(apply B<;>intro hb<;>try cases hb)))<;>try refine At.mk ?_
 by_cases hil:i<l.length
 . refine Qo (Qy rfl (by omega)) ?_;(repeat'(first|refine Z1 14 ?_|refine Z0 14 ?_|refine st ?_|(apply B<;>intro hb<;>try cases hb)))<;>try refine At.mk ?_
   refine Qo (Zk (xs:=l) (g:=nmC) rfl rfl i rfl hil rfl) ?_;(repeat'(first|refine Z1 16 ?_|refine Z0 16 ?_|refine st ?_|(apply B<;>intro hb<;>try cases hb)))<;>try refine At.mk ?_
   refine Qe (Zcq (h _ (Y0j hil))) ⟨Yt,Yt⟩ ?_;(repeat'(first|refine Z1 18 ?_|refine Z0 18 ?_|refine st ?_|(apply B<;>intro hb<;>try cases hb)))<;>try refine At.mk ?_
   refine Ze rfl rfl rfl hinc ?_;(refine go ?_;repeat' (apply B<;>intro hb<;>try cases hb));exact⟨i+1,hil,by omega,⟨⟨rfl,Z45 _ _⟩,⟨rfl,Yt⟩,⟨rfl,Yt⟩,⟨rfl,Yt⟩,Yt⟩,Yt⟩
 . refine Qo (Qz rfl (by omega)) ?_;(refine go ?_;repeat' (apply B<;>intro hb<;>try cases hb));exact Z4 rfl Yt rfl
theorem Z7j (l:List Int) (h:∀ r∈l,1<=r/\r<=6) (hlen:l.length<=8):X7 Tryz.prog 181 [.vec (l.map nmC) false,.fn 182 []] (· = .val (.bool false)):=by
 refine Yp ok181 fun C hC=>?_;(repeat'(first|refine Z1 7 ?_|refine Z0 7 ?_|refine st ?_|(apply B<;>intro hb<;>try cases hb)))<;>try refine At.mk ?_
 refine Qe (Zcr l h hlen) ⟨Zs l,Yt,Yt⟩ ?_;(refine go ?_;repeat' (apply B<;>intro hb<;>try cases hb));exact Z4 rfl Yt rfl
inductive ShA:Fm->Prop
 | num {n:Int} (h0:0<=n) (h1:n<=9):ShA (.mk 1 n [] [])
 | yes:ShA (.mk 2 0 [] [])
 | no:ShA (.mk 3 0 [] [])
 | role {r:Int} (h0:1<=r/\r<=6):ShA (.mk 4 0 [r] [])
 | count {r:Int} {rs:List Int} (h:X1q (r :: rs)):ShA (.mk 5 0 (r :: rs) [])
 | neg {a:Fm} (ha:ShA a):ShA (.mk 7 0 [] [a])
 | two {op:Int} {a b:Fm} (h0:8<=op) (h1:op<=16) (ha:ShA a) (hb:ShA b):ShA (.mk op 0 [] [a,b])
theorem X1q.nil:X1q []:=⟨(fun r h=>by cases h),.nil,by decide⟩
theorem X1q.one {r:Int} (h:1<=r/\r<=6):X1q [r]:=⟨fun x hx=>by rw [Y0g.1 hx]; exact h,Y3c _ _,show 1<=8 by decide⟩
theorem ShA.roles {f:Fm} (h:ShA f):X1q f.roles:=by
 cases h with
 | num=>exact .nil
 | yes=>exact .nil
 | no=>exact .nil
 | role h=>exact .one h
 | count h=>exact h
 | neg=>exact .nil
 | two=>exact .nil
theorem Zcs {f:Fm} (h:ShA f):X7 Tryz.prog 180 [.agg (eC f)] (· = .val (.bool true)):=by
 have hr:=h.roles.len;refine Yp ok180 fun C hC=>?_;refine Zn ?_;refine Z8 ?_;refine Z5 rfl rfl rfl ?_;cases h with
 | num h0 h1 => (refine go ?_;repeat' (apply B<;>intro hb<;>try cases hb))
                exact Z4 rfl Yt rfl
 | yes => (refine go ?_;repeat' (apply B<;>intro hb<;>try cases hb))
          exact Z4 rfl Yt rfl
 | no => (refine go ?_;repeat' (apply B<;>intro hb<;>try cases hb))
         exact Z4 rfl Yt rfl
 | role h0 => (refine go ?_;repeat' (apply B<;>intro hb<;>try cases hb))
              exact Z4 rfl Yt rfl
 | @count r rs h0 =>
   have hll:(X1B (r :: rs)).length=rs.length+1:=by rw [Z56]; rfl
   have hr:rs.length+1<=8:=hr;(repeat'(first|refine Z1 6 ?_|refine Z0 6 ?_|refine st ?_|(apply B<;>intro hb<;>try cases hb)))<;>try refine At.mk ?_
   refine Ze (v:=((rs.length+1:Nat):Int)) rfl rfl rfl (by show ((X1B (r :: rs)).length:Int)=_; rw [hll]) ?_;(repeat'(first|refine Z1 17 ?_|refine Z0 17 ?_|refine st ?_|(apply B<;>intro hb<;>try cases hb)))<;>try refine At.mk ?_
   refine Qo (Qy rfl (by omega)) ?_;(repeat'(first|refine Z1 20 ?_|refine Z0 20 ?_|refine st ?_|(apply B<;>intro hb<;>try cases hb)))<;>try refine At.mk ?_
   refine Zj rfl ?_;refine Qo (Qy rfl (by omega)) ?_;(refine go ?_;repeat' (apply B<;>intro hb<;>try cases hb));exact Z4 rfl Yt rfl
 | neg ha => (refine go ?_;repeat' (apply B<;>intro hb<;>try cases hb))
             exact Z4 rfl Yt rfl
 | @two op a b h0 h1 ha hb =>
   have:op=8 \/ op=9 \/ op=10 \/ op=11 \/ op=12 \/ op=13 \/ op=14 \/ op=15 \/ op=16:=by omega
   rcases this with rfl|rfl|rfl|rfl|rfl|rfl|rfl|rfl|rfl
   all_goals
    (refine go ?_;repeat' (apply B<;>intro hb<;>try cases hb));exact Z4 rfl Yt rfl
theorem ZeS:∀ (d:Nat) (f:Fm),f.depth<=d->ShA f->X7 Tryz.prog 110 [.agg (eC f)] (· = .val (.int .i64 0)):=by
 intro d
 induction d with
 | zero=>intro f hf; rw [Fm.depth_eq] at hf; omega
 | succ d ih =>
   intro f hf h;have hdp:=f.depth_eq;have sub:∀ x∈f.args,ShA x->X7 Tryz.prog 110 [.agg (eC x)] (· = .val (.int .i64 0)):=fun x hx hs=>by
    obtain⟨j,hj,rfl⟩:=YE hx;have h1:=ZG hj;exact ih _ (by omega) hs
   have hnm:=Zcs h;have hco:=Z7j f.roles h.roles.rng h.roles.len;have hsn:=Zcp f.roles h.roles;have hpu:=Zp f;refine Yp ok110 fun C hC=>?_;refine Zn ?_;refine Z8 ?_;refine Z5 rfl rfl rfl ?_;clear ih hf hdp;cases h with
   | @num n h0 h1 =>
     have hop:=Z2s 1
     repeat' (first|refine Z18 [] ?_|refine Z0 21 ?_|(first|refine st ?_|(apply B<;>intro hb<;>try cases hb)))
     refine At.mk ?_;refine Z27 rfl ?_;refine Qd hop ⟨Yt,Yt⟩ ?_;(repeat'(first|refine Z1 27 ?_|refine Z0 27 ?_|refine st ?_|(apply B<;>intro hb<;>try cases hb)))<;>try refine At.mk ?_
     refine Qo (Za (v := !decide (n=0)) rfl (by
      by_cases hn:n=0
      . rw [hn]; rfl
      . show (!(n == 0))=_; rw [Y0w hn,Y1B.2 hn])) ?_
     generalize (!decide (n=0))=b;cases b
     all_goals
      (repeat'(first|refine Z1 34 ?_|refine Z0 34 ?_|refine st ?_|(apply B<;>intro hb<;>try cases hb)))<;>try refine At.mk ?_
      refine Qe hnm ⟨hpu,Yt⟩ ?_;(repeat'(first|refine Z1 39 ?_|refine Z0 39 ?_|refine st ?_|(apply B<;>intro hb<;>try cases hb)))<;>try refine At.mk ?_
      refine Qe hco ⟨Zs _,Yt,Yt⟩ ?_
      repeat' (first|refine Z18 [] ?_|refine Z1 58 ?_|(first|refine st ?_|(apply B<;>intro hb<;>try cases hb)))
      refine At.mk ?_;refine Qo (Qz rfl (by show ¬ n<0;omega)) ?_;(repeat'(first|refine Z1 62 ?_|refine Z0 62 ?_|refine st ?_|(apply B<;>intro hb<;>try cases hb)))<;>try refine At.mk ?_
      refine Zj rfl ?_;refine Qo (Qz rfl (by show ¬ n>999999;omega)) ?_;(refine go ?_;repeat' (apply B<;>intro hb<;>try cases hb));refine Zh 0 ?_;unfold Xr;(refine go ?_;repeat' (apply B<;>intro hb<;>try cases hb));exact Z4 rfl Yt rfl
   | yes | no =>
     repeat' (first|refine Z18 [] ?_|refine Z0 21 ?_|(first|refine st ?_|(apply B<;>intro hb<;>try cases hb)))
     refine At.mk ?_;refine Z27 rfl ?_;refine Qd (Z2s _) ⟨Yt,Yt⟩ ?_;(repeat'(first|refine Z1 34 ?_|refine Z0 34 ?_|refine st ?_|(apply B<;>intro hb<;>try cases hb)))<;>try refine At.mk ?_
     refine Qe hnm ⟨hpu,Yt⟩ ?_;(repeat'(first|refine Z1 39 ?_|refine Z0 39 ?_|refine st ?_|(apply B<;>intro hb<;>try cases hb)))<;>try refine At.mk ?_
     refine Qe hco ⟨Zs _,Yt,Yt⟩ ?_
     repeat' (first|refine Z18 [] ?_|(first|refine st ?_|(apply B<;>intro hb<;>try cases hb)))
     refine Zh 0 ?_;unfold Xr;(refine go ?_;repeat' (apply B<;>intro hb<;>try cases hb));exact Z4 rfl Yt rfl
   | @role r h0 =>
     repeat' (first|refine Z18 [] ?_|refine Z0 21 ?_|(first|refine st ?_|(apply B<;>intro hb<;>try cases hb)))
     refine At.mk ?_;refine Z27 rfl ?_;refine Qd (Z2s _) ⟨Yt,Yt⟩ ?_;(repeat'(first|refine Z1 34 ?_|refine Z0 34 ?_|refine st ?_|(apply B<;>intro hb<;>try cases hb)))<;>try refine At.mk ?_
     refine Qe hnm ⟨hpu,Yt⟩ ?_;(repeat'(first|refine Z1 39 ?_|refine Z0 39 ?_|refine st ?_|(apply B<;>intro hb<;>try cases hb)))<;>try refine At.mk ?_
     refine Qe hco ⟨Zs _,Yt,Yt⟩ ?_
     repeat' (first|refine Z18 [] ?_|(first|refine st ?_|(apply B<;>intro hb<;>try cases hb)))
     refine Zh 0 ?_;unfold Xr;(refine go ?_;repeat' (apply B<;>intro hb<;>try cases hb));exact Z4 rfl Yt rfl
   | @count r rs h0 =>
     have hll:(X1B (r :: rs)).length=rs.length+1:=by rw [Z56]; rfl
     repeat' (first|refine Z18 [] ?_|refine Z0 21 ?_|(first|refine st ?_|(apply B<;>intro hb<;>try cases hb)))
     refine At.mk ?_;refine Z27 rfl ?_;refine Qd (Z2s _) ⟨Yt,Yt⟩ ?_;(repeat'(first|refine Z1 34 ?_|refine Z0 34 ?_|refine st ?_|(apply B<;>intro hb<;>try cases hb)))<;>try refine At.mk ?_
     refine Qe hnm ⟨hpu,Yt⟩ ?_;(repeat'(first|refine Z1 39 ?_|refine Z0 39 ?_|refine st ?_|(apply B<;>intro hb<;>try cases hb)))<;>try refine At.mk ?_
     refine Qe hco ⟨Zs _,Yt,Yt⟩ ?_
     repeat' (first|refine Z18 [] ?_|refine Z0 48 ?_|(first|refine st ?_|(apply B<;>intro hb<;>try cases hb)))
     refine At.mk ?_;refine Z27 rfl ?_;refine Qd hsn ⟨⟨Yt,Yt,Zs _,Yt,Yt⟩,Yt⟩ ?_;(repeat'(first|refine Z1 53 ?_|refine Z0 53 ?_|refine st ?_|(apply B<;>intro hb<;>try cases hb)))<;>try refine At.mk ?_
     refine Z27 rfl ?_;refine Qr (Qz rfl (by show ¬ (((X1B (r :: rs)).length:Int)<((X1B (r :: rs)).length:Int));omega)) ?_;(refine go ?_;repeat' (apply B<;>intro hb<;>try cases hb));refine Zh 0 ?_;unfold Xr;(refine go ?_;repeat' (apply B<;>intro hb<;>try cases hb));exact Z4 rfl Yt rfl
   | @neg a ha =>
     have hs:=sub a (by simp [Fm.args]) ha
     repeat' (first|refine Z18 [] ?_|refine Z0 21 ?_|(first|refine st ?_|(apply B<;>intro hb<;>try cases hb)))
     refine At.mk ?_;refine Z27 rfl ?_;refine Qd (Z2s _) ⟨Yt,Yt⟩ ?_;(repeat'(first|refine Z1 34 ?_|refine Z0 34 ?_|refine st ?_|(apply B<;>intro hb<;>try cases hb)))<;>try refine At.mk ?_
     refine Qe hnm ⟨hpu,Yt⟩ ?_;(repeat'(first|refine Z1 39 ?_|refine Z0 39 ?_|refine st ?_|(apply B<;>intro hb<;>try cases hb)))<;>try refine At.mk ?_
     refine Qe hco ⟨Zs _,Yt,Yt⟩ ?_
     repeat' (first|refine Z18 [] ?_|(first|refine st ?_|(apply B<;>intro hb<;>try cases hb)))
     refine Zh 1 ?_;unfold Xr;(repeat'(first|refine Z1 69 ?_|refine Z0 69 ?_|refine st ?_|(apply B<;>intro hb<;>try cases hb)))<;>try refine At.mk ?_
     refine Qo (Zk (xs := [a]) (g:=Xg) rfl rfl 0 rfl (Y1g _) (ZS _)) ?_;rw [show [a][0]=a from rfl,ZR];(repeat'(first|refine Z1 72 ?_|refine Z0 72 ?_|refine st ?_|(apply B<;>intro hb<;>try cases hb)))<;>try refine At.mk ?_
     refine Qe hs ⟨Zp _,Yt⟩ ?_;(refine go ?_;repeat' (apply B<;>intro hb<;>try cases hb));exact Z4 rfl Yt rfl
   | @two op a b h0 h1 ha hb =>
     have hs:=sub a (by simp [Fm.args]) ha;have hs2:=sub b (by simp [Fm.args]) hb;have:op=8 \/ op=9 \/ op=10 \/ op=11 \/ op=12 \/ op=13 \/ op=14 \/ op=15 \/ op=16:=by omega
     rcases this with rfl|rfl|rfl|rfl|rfl|rfl|rfl|rfl|rfl
     all_goals
      repeat' (first|refine Z18 [] ?_|refine Z0 21 ?_|(first|refine st ?_|(apply B<;>intro hb<;>try cases hb)))
      refine At.mk ?_;refine Z27 rfl ?_;refine Qd (Z2s _) ⟨Yt,Yt⟩ ?_;(repeat'(first|refine Z1 34 ?_|refine Z0 34 ?_|refine st ?_|(apply B<;>intro hb<;>try cases hb)))<;>try refine At.mk ?_
      refine Qe hnm ⟨hpu,Yt⟩ ?_;(repeat'(first|refine Z1 39 ?_|refine Z0 39 ?_|refine st ?_|(apply B<;>intro hb<;>try cases hb)))<;>try refine At.mk ?_
      refine Qe hco ⟨Zs _,Yt,Yt⟩ ?_
      repeat' (first|refine Z18 [] ?_|(first|refine st ?_|(apply B<;>intro hb<;>try cases hb)))
      refine Zh 2 ?_;unfold Xr;(repeat'(first|refine Z1 69 ?_|refine Z0 69 ?_|refine st ?_|(apply B<;>intro hb<;>try cases hb)))<;>try refine At.mk ?_
      refine Qo (Zk (xs := [a,b]) (g:=Xg) rfl rfl 0 rfl (Y1g _) (ZS _)) ?_;rw [show [a,b][0]=a from rfl,ZR];(repeat'(first|refine Z1 72 ?_|refine Z0 72 ?_|refine st ?_|(apply B<;>intro hb<;>try cases hb)))<;>try refine At.mk ?_
      refine Qe hs ⟨Zp _,Yt⟩ ?_;(repeat'(first|refine Z1 69 ?_|refine Z0 69 ?_|refine st ?_|(apply B<;>intro hb<;>try cases hb)))<;>try refine At.mk ?_
      refine Qo (Zk (xs := [a,b]) (g:=Xg) rfl rfl 1 rfl (show 1<2 by decide) (ZS _)) ?_;rw [show [a,b][1]=b from rfl,ZR];(repeat'(first|refine Z1 72 ?_|refine Z0 72 ?_|refine st ?_|(apply B<;>intro hb<;>try cases hb)))<;>try refine At.mk ?_
      refine Qe hs2 ⟨Zp _,Yt⟩ ?_;(refine go ?_;repeat' (apply B<;>intro hb<;>try cases hb));exact Z4 rfl Yt rfl
theorem Z3i {f:Fm} (h:ShA f) (hd:f.depth<=10) (hs:f.size<=200):X7 Tryz.prog 66 [.agg (eC f)] (· = .val (.int .i64 0)):=by
 refine Yp ok66 fun C hC=>?_;refine Zn ?_;refine Z8 ?_;refine Z5 rfl rfl rfl ?_;(repeat'(first|refine Z1 4 ?_|refine Z0 4 ?_|refine st ?_|(apply B<;>intro hb<;>try cases hb)))<;>try refine At.mk ?_
 refine Qe (Zcc f.depth f (Y0m _) (by omega)) ⟨Zp _,Yt⟩ ?_;(repeat'(first|refine Z1 5 ?_|refine Z0 5 ?_|refine st ?_|(apply B<;>intro hb<;>try cases hb)))<;>try refine At.mk ?_
 refine Qo (Qz rfl (by omega)) ?_;(repeat'(first|refine Z1 8 ?_|refine Z0 8 ?_|refine st ?_|(apply B<;>intro hb<;>try cases hb)))<;>try refine At.mk ?_
 refine Zj rfl ?_;refine Qe (ZeI f.depth f (Y0m _) (by omega)) ⟨Zp _,Yt⟩ ?_;refine Zj rfl ?_;refine Qo (Qz rfl (by omega)) ?_;(repeat'(first|refine Z1 12 ?_|refine Z0 12 ?_|refine st ?_|(apply B<;>intro hb<;>try cases hb)))<;>try refine At.mk ?_
 refine Qe (ZeS f.depth f (Y0m _) h) ⟨Zp _,Yt⟩ ?_;(refine go ?_;repeat' (apply B<;>intro hb<;>try cases hb));exact Z4 rfl Yt rfl
theorem Z3j (op:Int):X7 Tryz.prog 120 [.val (.int .u8 op)] (· = .val (.int .i64 ((stM op:Nat):Int))):=by
 refine Yp ok120 fun C hC=>?_;unfold stM;(refine go ?_;repeat' (apply B<;>intro hb<;>try cases hb))
 all_goals
  simp only [Y0n,Y15,Y1s,Y1B] at *;refine Z4 rfl Yt ?_;(repeat' split)<;>first|rfl|(exfalso;omega)
theorem ZeT {op:Int} (h0:8<=op) (h1:op<=16):X7 Tryz.prog 124 [.val (.int .u8 op)] (· = .val (.string (toB (32 :: (opS op ++ [32]))))):=by
 refine Yp ok124 fun C hC=>?_;have:op=8 \/ op=9 \/ op=10 \/ op=11 \/ op=12 \/ op=13 \/ op=14 \/ op=15 \/ op=16:=by omega
 rcases this with rfl|rfl|rfl|rfl|rfl|rfl|rfl|rfl|rfl
 all_goals
  (refine go ?_;repeat' (apply B<;>intro hb<;>try cases hb));exact Z4 rfl Yt rfl
theorem Zct {e:Env} {h:X0} {n:Nat} {y:Operand} {a b:By} {s:ByteArray} (hs:s=toB a) (hy:ev e y=some (.val (.string (toB b)))) (hl:a.length+b.length<=100000):X1 (.bin .add .num (.const (.string s)) y) e h n=some (.val (.string (toB (a++b))),h):=by
 subst hs;exact ZiD rfl hy hl
theorem Zha {e:Env} {h:X0} {n:Nat} {x:Operand} {a b:By} {s:ByteArray} (hs:s=toB b) (hx:ev e x=some (.val (.string (toB a)))) (hl:a.length+b.length<=100000):X1 (.bin .add .num x (.const (.string s))) e h n=some (.val (.string (toB (a++b))),h):=by
 subst hs;exact ZiD hx rfl hl
theorem Z3J {f:Fm} (hf:X7 Tryz.prog 72 [.agg (eC f)] (· = .val (.string (toB (tx f))))) (hl:(tx f).length<=10000) (least:Nat):X7 Tryz.prog 123 [.agg (eC f),.val (.int .i64 (least:Int))] (· = .val (.string (toB (txA least f)))):=by
 refine Yp ok123 fun C hC=>?_;refine Zn ?_;refine Z8 ?_;refine Z5 rfl rfl rfl ?_;(repeat'(first|refine Z1 7 ?_|refine Z0 7 ?_|refine st ?_|(apply B<;>intro hb<;>try cases hb)))<;>try refine At.mk ?_
 refine Qe (Z3j f.op) ⟨Yt,Yt⟩ ?_;(repeat'(first|refine Z1 9 ?_|refine Z0 9 ?_|refine st ?_|(apply B<;>intro hb<;>try cases hb)))<;>try refine At.mk ?_
 by_cases hs:stM f.op<least
 . refine Qo (Qy rfl (by omega)) ?_;(repeat'(first|refine Z1 11 ?_|refine Z0 11 ?_|refine st ?_|(apply B<;>intro hb<;>try cases hb)))<;>try refine At.mk ?_
   refine Qe hf ⟨Zp _,Yt⟩ ?_;refine Qo (Zct (a := [40]) rfl rfl (by show 1+_<=_;omega)) ?_;refine Qo (Zha (b := [41]) rfl rfl (by show (([40]++tx f:By).length)+1<=_; rw [Y0e]; show 1+_+1<=_;omega)) ?_;(refine go ?_;repeat' (apply B<;>intro hb<;>try cases hb));exact Z4 rfl Yt (by rw [Zgr hs]; rfl)
 . refine Qo (Qz rfl (by omega)) ?_;(repeat'(first|refine Z1 15 ?_|refine Z0 15 ?_|refine st ?_|(apply B<;>intro hb<;>try cases hb)))<;>try refine At.mk ?_
   refine Qe hf ⟨Zp _,Yt⟩ ?_;(refine go ?_;repeat' (apply B<;>intro hb<;>try cases hb));exact Z4 rfl Yt (by rw [Zgs hs])
theorem Zk7 {n:Int} (h0:0<=n) (h1:n<=9):X7f n.toNat=toB (dgS n):=by
 have:n=0 \/ n=1 \/ n=2 \/ n=3 \/ n=4 \/ n=5 \/ n=6 \/ n=7 \/ n=8 \/ n=9:=by omega
 rcases this with rfl|rfl|rfl|rfl|rfl|rfl|rfl|rfl|rfl|rfl<;>decide +kernel
theorem Zcu (r:Int) (rs:List Int):Go.Lib.join (((r :: rs).map rnB).map (·.data.toList)) [44,32]=rnS r++X3d rs:=by
 have h:∀ rs:List Int,Go.Lib.joinTail [44,32] ((rs.map rnB).map (·.data.toList))=X3d rs:=by
  intro rs
  induction rs with
  | nil=>rfl
  | cons x rs ih =>
    show ([44,32]++rnS x)++Go.Lib.joinTail [44,32] ((rs.map rnB).map (·.data.toList))=_;rw [ih]; rfl
 rw [Y1c,Y1c,Go.Lib.join_cons,h]; rfl
theorem Zhb:∀ (d:Nat) (f:Fm),f.depth<=d->Sh f->f.size<=100->X7 Tryz.prog 72 [.agg (eC f)] (· = .val (.string (toB (tx f)))):=by
 intro d
 induction d with
 | zero=>intro f hf; rw [Fm.depth_eq] at hf; omega
 | succ d ih =>
   intro f hf h hsz;have htl:=Zdq h;have hdp:=f.depth_eq;have hfs:=f.size_eq;have sub:∀ x∈f.args,Sh x->X7 Tryz.prog 72 [.agg (eC x)] (· = .val (.string (toB (tx x))))/\(tx x).length<=10000:=fun x hx hs=>by
    obtain⟨j,hj,rfl⟩:=YE hx;have h1:=ZG hj;have h2:=Z3w hj;exact⟨ih _ (by omega) hs (by omega),by have:=Zdq hs; omega⟩
   have hAl:∀ (x:Fm) (least:Nat),(tx x).length<=10000->(txA least x).length<=10002:=fun x least hx=>by
    by_cases hs:stM x.op<least
    . rw [Zgr hs]; simp; omega
    . rw [Zgs hs]; omega
   refine Yp ok72 fun C hC=>?_;refine Zn ?_;refine Z8 ?_;refine Z5 rfl rfl rfl ?_;(repeat'(first|refine Z1 8 ?_|refine Z0 8 ?_|refine st ?_|(apply B<;>intro hb<;>try cases hb)))<;>try refine At.mk ?_
   refine Qe (Z3j f.op) ⟨Yt,Yt⟩ ?_;cases h with
   | @num n h0 h1 =>
     (repeat'(first|refine Z1 15 ?_|refine Z0 15 ?_|refine st ?_|(apply B<;>intro hb<;>try cases hb)))<;>try refine At.mk ?_
     refine Z6 (ZgM n.toNat (by omega)) rfl rfl (by show [PV.val (.int .i64 n)]=_; rw [show ((n.toNat:Nat):Int)=n by omega]) ⟨Yt,Yt⟩ rfl ?_;rw [Zk7 h0 h1];(refine go ?_;repeat' (apply B<;>intro hb<;>try cases hb));exact Z4 rfl Yt (by show _=PV.val (.string (toB (dgS n ++ []))); rw [Y0p])
   | yes =>
     (refine go ?_;repeat' (apply B<;>intro hb<;>try cases hb));exact Z4 rfl Yt rfl
   | no =>
     (refine go ?_;repeat' (apply B<;>intro hb<;>try cases hb));exact Z4 rfl Yt rfl
   | @role r h0 =>
     (refine go ?_;repeat' (apply B<;>intro hb<;>try cases hb));exact Z4 rfl Yt (by show PV.val (.string (rnB r))=PV.val (.string (toB (rnS r ++ []))); rw [Y0p]; rfl)
   | @count r rs h0 h1 =>
     have hjl:(Go.Lib.join (((r :: rs).map rnB).map (·.data.toList)) [44,32]).length<=40:=by
      rw [Zcu,Y0e,Z6F];show 2+_<=_;omega
     have hj:=ZgN ((r :: rs).map rnB) false ⟨#[44,32]⟩ (by simp;omega) (by exact Y03 hjl (by decide));have hjs:X5o ((r :: rs).map rnB) ⟨#[44,32]⟩=toB (rnS r++X3d rs):=by
      unfold X5o;rw [show (⟨#[44,32]⟩:ByteArray).data.toList = [44,32] from rfl,Zcu]; rfl
     rw [hjs] at hj;rw [Zcu] at hjl;(repeat'(first|refine Z1 30 ?_|refine Z0 30 ?_|refine st ?_|(apply B<;>intro hb<;>try cases hb)))<;>try refine At.mk ?_
     refine Z6 hj rfl rfl (by show [PV.vec (X1B (r :: rs)) false,_]=_; rw [ZgO]; rfl) ⟨Zy _,Yt,Yt⟩ rfl ?_;refine Qo (Zct (a := [99,111,117,110,116,40]) rfl rfl (by show 6+_<=_;omega)) ?_;refine Qo (Zha (b := [41]) rfl rfl (by rw [Y0e]; show 6+_+1<=_;omega)) ?_;(refine go ?_;repeat' (apply B<;>intro hb<;>try cases hb));exact Z4 rfl Yt (by rw [Zde,Y1b])
   | @neg a ha =>
     obtain⟨hs,hl⟩:=sub a (by simp [Fm.args]) ha;(repeat'(first|refine Z1 45 ?_|refine Z0 45 ?_|refine st ?_|(apply B<;>intro hb<;>try cases hb)))<;>try refine At.mk ?_
     refine Qo (Zk (xs := [a]) (g:=Xg) rfl rfl 0 rfl (Y1g _) (ZS _)) ?_;rw [show [a][0]=a from rfl,ZR];(repeat'(first|refine Z1 48 ?_|refine Z0 48 ?_|refine st ?_|(apply B<;>intro hb<;>try cases hb)))<;>try refine At.mk ?_
     refine Qe (Z3J hs hl 4) ⟨Zp _,Yt,Yt⟩ ?_;refine Qo (Zct (a := [110,111,116,32]) rfl rfl (by have:=hAl a 4 hl; show 4+_<=_;omega)) ?_;(refine go ?_;repeat' (apply B<;>intro hb<;>try cases hb));exact Z4 rfl Yt (by rw [Zj8 ha])
   | @two op a b h0 h1 ha hb =>
     obtain⟨hsa,hla⟩:=sub a (by simp [Fm.args]) ha;obtain⟨hsb,hlb⟩:=sub b (by simp [Fm.args]) hb;have hw:=ZeT h0 h1;have hol:(opS op).length<=3:=by
      have:op=8 \/ op=9 \/ op=10 \/ op=11 \/ op=12 \/ op=13 \/ op=14 \/ op=15 \/ op=16:=by omega
      rcases this with rfl|rfl|rfl|rfl|rfl|rfl|rfl|rfl|rfl<;>decide
     have key:txA (X2a op) a++(32 :: (opS op ++ [32]))++txA (X1C op) b=tx (.mk op 0 [] [a,b]):=by rw [Zj9 h0 hb]
     have hpa:=Z3J hsa hla (X2a op);have hpb:=Z3J hsb hlb (X1C op);have hlw:(32 :: (opS op ++ [32]):By).length<=5:=by simp; omega
     generalize (32 :: (opS op ++ [32]):By)=wd at key hlw hw;have h11:=Z3j 11;have hal:∀ k,(txA k a).length<=10002:=fun k=>hAl a k hla;have hbl:∀ k,(txA k b).length<=10002:=fun k=>hAl b k hlb;have hb:op=8 \/ op=9 \/ op=10 \/ op=11 \/ op=12 \/ op=13 \/ op=14 \/ op=15 \/ op=16:=by omega
     clear sub hAl ih hol;rcases hb with rfl|rfl|rfl|rfl|rfl|rfl|rfl|rfl|rfl
     all_goals
      repeat' (first|(show Xj _ (⟨some 62,.call _ _,none⟩ :: _) _ _ _ _; refine Qe h11 ⟨Yt,Yt⟩ ?_)|refine Z18 [] ?_|refine Z0 70 ?_|(first|refine st ?_|(apply B<;>intro hb<;>try cases hb)))
      refine At.mk ?_;refine Qr (Zk (xs := [a,b]) (g:=Xg) rfl rfl 0 rfl (Y1g _) (ZS _)) ?_;rw [show [a,b][0]=a from rfl,ZR];(repeat'(first|refine Z1 73 ?_|refine Z0 73 ?_|refine st ?_|(apply B<;>intro hb<;>try cases hb)))<;>try refine At.mk ?_
      refine Qd hpa ⟨Zp _,Yt,Yt⟩ ?_;(repeat'(first|refine Z1 76 ?_|refine Z0 76 ?_|refine st ?_|(apply B<;>intro hb<;>try cases hb)))<;>try refine At.mk ?_
      refine Qd hw ⟨Yt,Yt⟩ ?_;refine Qr (ZiD rfl rfl (Y03 (Y4m (hal _) hlw) (by decide))) ?_;(repeat'(first|refine Z1 80 ?_|refine Z0 80 ?_|refine st ?_|(apply B<;>intro hb<;>try cases hb)))<;>try refine At.mk ?_
      refine Qr (Zk (xs := [a,b]) (g:=Xg) rfl rfl 1 rfl (show 1<2 by decide) (ZS _)) ?_;rw [show [a,b][1]=b from rfl,ZR];(repeat'(first|refine Z1 83 ?_|refine Z0 83 ?_|refine st ?_|(apply B<;>intro hb<;>try cases hb)))<;>try refine At.mk ?_
      refine Qd hpb ⟨Zp _,Yt,Yt⟩ ?_;refine Qr (ZiD rfl rfl (by rw [Y0e]; exact Y03 (Y4m (Y4m (hal _) hlw) (hbl _)) (by decide))) ?_;(refine go ?_;repeat' (apply B<;>intro hb<;>try cases hb));exact Z4 rfl Yt (by rw [key])
def u8V (c:UInt8):PV:=.val (.int .u8 (c.toNat:Int))
theorem Z3K (c:UInt8):X7 Tryz.prog 185 [u8V c] (· = .val (.bool (X4r c))):=by
 refine Yp ok185 fun C hC=>?_;unfold u8V X4r;generalize c.toNat=k;(refine go ?_;repeat' (apply B<;>intro hb<;>try cases hb))
 all_goals
  simp only [Y0n,Y15] at *
  first
   | exact Z4 rfl Yt (by rw [YF (show 97<=k by omega),YF (show k<=122 by omega)]; rfl)
   | exact Z4 rfl Yt (by rw [Y0w (show ¬ k<=122 by omega),Y29])
   | exact Z4 rfl Yt (by rw [Y0w (show ¬ 97<=k by omega),Y2m])
theorem Z3k (c:UInt8):X7 Tryz.prog 188 [u8V c] (· = .val (.bool (X3U c))):=by
 refine Yp ok188 fun C hC=>?_;unfold u8V X3U;generalize c.toNat=k;(refine go ?_;repeat' (apply B<;>intro hb<;>try cases hb))
 all_goals
  simp only [Y0n,Y15] at *
  first
   | exact Z4 rfl Yt (by rw [YF (show 48<=k by omega),YF (show k<=57 by omega)]; rfl)
   | exact Z4 rfl Yt (by rw [Y0w (show ¬ k<=57 by omega),Y29])
   | exact Z4 rfl Yt (by rw [Y0w (show ¬ 48<=k by omega),Y2m])
theorem Zcv (c:UInt8):X7 Tryz.prog 187 [u8V c] (· = .val (.bool (X4I c))):=by
 refine Yp ok187 fun C hC=>?_;(repeat'(first|refine Z1 4 ?_|refine Z0 4 ?_|refine st ?_|(apply B<;>intro hb<;>try cases hb)))<;>try refine At.mk ?_
 refine Qe (Z3K c) ⟨Yt,Yt⟩ ?_;unfold X4I;cases hl:X4r c with
 | true =>
   (refine go ?_;repeat' (apply B<;>intro hb<;>try cases hb));exact Z4 rfl Yt rfl
 | false =>
   (repeat'(first|refine Z1 7 ?_|refine Z0 7 ?_|refine st ?_|(apply B<;>intro hb<;>try cases hb)))<;>try refine At.mk ?_
   refine Zj rfl ?_;refine Qe (Z3k c) ⟨Yt,Yt⟩ ?_;cases hd:X3U c with
   | true =>
     (refine go ?_;repeat' (apply B<;>intro hb<;>try cases hb));exact Z4 rfl Yt rfl
   | false =>
     unfold u8V;(repeat'(first|refine Z1 11 ?_|refine Z0 11 ?_|refine st ?_|(apply B<;>intro hb<;>try cases hb)))<;>try refine At.mk ?_
     refine Zj rfl ?_
     refine Qo (Za (v:=decide (c.toNat=95)) rfl (by
      by_cases h:c.toNat=95
      . rw [h]; rfl
      . rw [Y0w h]; exact Zkd (m:=95) h)) ?_
     generalize decide (c.toNat=95)=b;(refine go ?_;repeat' (apply B<;>intro hb<;>try cases hb))
     all_goals exact Z4 rfl Yt rfl
theorem ZkK {p:UInt8->Bool}:∀ {l:By} {m:Nat},m<(l.takeWhile p).length->∃ c,l[m]?=some c/\p c=true
 | [],m,h=>by simp at h
 | x :: l, m, h => by
   rw [Y25] at h
   split at h
   . rename_i hx;cases m with
     | zero=>exact⟨x,rfl,hx⟩
     | succ m=>exact ZkK (l:=l) (m:=m) (by simpa using h)
   . simp at h
theorem Zjj {p:UInt8->Bool}:∀ {l:By},l[(l.takeWhile p).length]?=none \/ ∃ c,l[(l.takeWhile p).length]?=some c/\p c=false
 | []=>.inl rfl
 | x :: l => by
   rw [Y25]
   split
   . exact Zjj (l:=l)
   . rename_i hx;exact .inr ⟨x,rfl,by simpa using hx⟩
theorem Zl4 (p:UInt8->Bool) (l:By):(l.takeWhile p).length<=l.length:=(List.takeWhile_prefix p).length_le
theorem Z83 {g:FuncId} {p:UInt8->Bool} (hg:∀ c,X7 Tryz.prog g [u8V c] (· = .val (.bool (p c)))) (a:By) (i:Nat) (hi:i<=a.length) (ha:a.length<=100000) :
 X7 Tryz.prog 186 [.val (.string (toB a)),Yv i,.fn g []] (· = .val (.int .i64 ((i+((a.drop i).takeWhile p).length:Nat):Int))):=by
 have hle:=Zl4 p (a.drop i);rw [Y17] at hle;have hat:∀ m,m<((a.drop i).takeWhile p).length->∃ c,a[i+m]?=some c/\p c=true:=fun m hm=>by
  obtain⟨c,h1,h2⟩:=ZkK hm;rw [Y18] at h1;exact⟨c,h1,h2⟩
 have hend:a[i+((a.drop i).takeWhile p).length]?=none \/ ∃ c,a[i+((a.drop i).takeWhile p).length]?=some c/\p c=false:=by
  have:=Zjj (p:=p) (l:=a.drop i);simpa only [Y18] using this
 generalize ((a.drop i).takeWhile p).length=n at hle hat hend ⊢;refine Yp ok186 fun C hC=>?_;(refine go ?_;repeat' (apply B<;>intro hb<;>try cases hb));refine Zv hC (fun m=>m<=n) (fun m=>n-m) 0 (fun m => [(0,.val (.string (toB a))),(1,.val (.int .i64 ((i+m:Nat):Int))),(2,.fn g [])]) (fun _=>[]) (Y0m _) 0 (Y0l _)
  ⟨⟨rfl,Yt⟩,⟨rfl,Yt⟩,⟨rfl,Yt⟩,Yt⟩ Yt ?_
 intro m hm;have hinc:IntKind.i64.wrap (((i+m:Nat):Int)+1)=((i+(m+1):Nat):Int):=Y0v _ ⟨by omega,by omega⟩;(repeat'(first|refine Z1 9 ?_|refine Z0 9 ?_|refine st ?_|(apply B<;>intro hb<;>try cases hb)))<;>try refine At.mk ?_
 refine Qo (Z34 rfl) ?_;by_cases hml:m<n
 . obtain ⟨c, h1, h2⟩ := hat m hml;have hlt:=(Yy.1 h1).1;(repeat'(first|refine Z1 10 ?_|refine Z0 10 ?_|refine st ?_|(apply B<;>intro hb<;>try cases hb)))<;>try refine At.mk ?_
   refine Qo (Qy rfl (by omega)) ?_;(repeat'(first|refine Z1 15 ?_|refine Z0 15 ?_|refine st ?_|(apply B<;>intro hb<;>try cases hb)))<;>try refine At.mk ?_
   refine Zj rfl ?_;refine Qo (Z1T rfl rfl rfl h1) ?_;(repeat'(first|refine Z1 16 ?_|refine Z0 16 ?_|refine st ?_|(apply B<;>intro hb<;>try cases hb)))<;>try refine At.mk ?_
   refine Zj rfl ?_;refine Qe (hg c) ⟨Yt,Yt⟩ ?_;rw [h2];(repeat'(first|refine Z1 19 ?_|refine Z0 19 ?_|refine st ?_|(apply B<;>intro hb<;>try cases hb)))<;>try refine At.mk ?_
   refine Ze rfl rfl rfl hinc ?_;(refine go ?_;repeat' (apply B<;>intro hb<;>try cases hb));exact⟨m+1,hml,by omega,⟨⟨rfl,Yt⟩,⟨rfl,Yt⟩,⟨rfl,Yt⟩,Yt⟩,Yt⟩
 . obtain rfl : m = n := by omega
   (repeat'(first|refine Z1 10 ?_|refine Z0 10 ?_|refine st ?_|(apply B<;>intro hb<;>try cases hb)))<;>try refine At.mk ?_
   rcases hend with h1|⟨c,h1,h2⟩
   . have hge : a.length <= i + m := List.getElem?_eq_none_iff.1 h1;refine Qo (Qz rfl (by omega)) ?_;(refine go ?_;repeat' (apply B<;>intro hb<;>try cases hb));exact Z4 rfl Yt rfl
   . have hlt := (Yy.1 h1).1;refine Qo (Qy rfl (by omega)) ?_;(repeat'(first|refine Z1 15 ?_|refine Z0 15 ?_|refine st ?_|(apply B<;>intro hb<;>try cases hb)))<;>try refine At.mk ?_
     refine Zj rfl ?_;refine Qo (Z1T rfl rfl rfl h1) ?_;(repeat'(first|refine Z1 16 ?_|refine Z0 16 ?_|refine st ?_|(apply B<;>intro hb<;>try cases hb)))<;>try refine At.mk ?_
     refine Zj rfl ?_;refine Qe (hg c) ⟨Yt,Yt⟩ ?_;rw [h2];(refine go ?_;repeat' (apply B<;>intro hb<;>try cases hb));exact Z4 rfl Yt rfl
theorem Z75 {c:UInt8} {m:Nat} (h:c.toNat≠m):((c.toNat:Int) == (m:Int))=false:=Zkd h
theorem ZaA (a:By) (i:Nat) (r:List Pc) (hr:∀ x∈r,OkT x.2) (hd:a.drop i=txP r) (hi:i<=a.length) (ha:a.length<=100000):X7 Tryz.prog 184 [.val (.string (toB a)),Yv i] (· = .val (.int .i64 ((i+blk r:Nat):Int))):=by
 refine Yp ok184 fun C hC=>?_;have hno:∀ (c:UInt8) (j:Nat),a[j]?=some c->c.toNat≠32/\c.toNat≠9/\c.toNat≠10/\c.toNat≠13/\c.toNat≠35->j<a.length:=fun c j h _=>(Yy.1 h).1
 match r,hr,hd with
 | [], _, hd =>
   have hil:i=a.length:=Zdr hd hi;(refine go ?_;repeat' (apply B<;>intro hb<;>try cases hb));refine Zh 0 ?_;unfold Xr;(repeat'(first|refine Z1 7 ?_|refine Z0 7 ?_|refine st ?_|(apply B<;>intro hb<;>try cases hb)))<;>try refine At.mk ?_
   refine Qo (Z34 rfl) ?_;(repeat'(first|refine Z1 8 ?_|refine Z0 8 ?_|refine st ?_|(apply B<;>intro hb<;>try cases hb)))<;>try refine At.mk ?_
   refine Qo (Qz rfl (by omega)) ?_;(refine go ?_;repeat' (apply B<;>intro hb<;>try cases hb));exact Z4 rfl Yt rfl
 | (false, t) :: r, hr, hd =>
   obtain⟨c,cs,hc,n1,n2,n3,n4,n5⟩:=(hr _ (Y0t ..)).head;have hc:t.s=c :: cs:=hc;have hd:a.drop i=c :: (cs++txP r):=by rw [hd]; show t.s++txP r=_; rw [hc]; rfl
   obtain⟨hlt,hg,_⟩:=Z2L hd;(refine go ?_;repeat' (apply B<;>intro hb<;>try cases hb));refine Zh 0 ?_;unfold Xr;(repeat'(first|refine Z1 7 ?_|refine Z0 7 ?_|refine st ?_|(apply B<;>intro hb<;>try cases hb)))<;>try refine At.mk ?_
   refine Qo (Z34 rfl) ?_;(repeat'(first|refine Z1 8 ?_|refine Z0 8 ?_|refine st ?_|(apply B<;>intro hb<;>try cases hb)))<;>try refine At.mk ?_
   refine Qo (Qy rfl (by omega)) ?_;(repeat'(first|refine Z1 13 ?_|refine Z0 13 ?_|refine st ?_|(apply B<;>intro hb<;>try cases hb)))<;>try refine At.mk ?_
   refine Qo (Z1T rfl rfl rfl hg) ?_;refine Qo (Za rfl (Z75 (m:=32) n1)) ?_;(repeat'(first|refine Z1 18 ?_|refine Z0 18 ?_|refine st ?_|(apply B<;>intro hb<;>try cases hb)))<;>try refine At.mk ?_
   refine Zj rfl ?_;refine Qo (Z1T rfl rfl rfl hg) ?_;refine Zj rfl ?_;refine Qo (Za rfl (Z75 (m:=9) n2)) ?_;(repeat'(first|refine Z1 24 ?_|refine Z0 24 ?_|refine st ?_|(apply B<;>intro hb<;>try cases hb)))<;>try refine At.mk ?_
   refine Zj rfl ?_;refine Qo (Z1T rfl rfl rfl hg) ?_;refine Zj rfl ?_;refine Qo (Za rfl (Z75 (m:=10) n3)) ?_;(repeat'(first|refine Z1 30 ?_|refine Z0 30 ?_|refine st ?_|(apply B<;>intro hb<;>try cases hb)))<;>try refine At.mk ?_
   refine Zj rfl ?_;refine Qo (Z1T rfl rfl rfl hg) ?_;refine Zj rfl ?_;refine Qo (Za rfl (Z75 (m:=13) n4)) ?_;(repeat'(first|refine Z1 38 ?_|refine Z0 38 ?_|refine st ?_|(apply B<;>intro hb<;>try cases hb)))<;>try refine At.mk ?_
   refine Qo (Z1T rfl rfl rfl hg) ?_;refine Qo (Za rfl (Z75 (m:=35) n5)) ?_;(refine go ?_;repeat' (apply B<;>intro hb<;>try cases hb));exact Z4 rfl Yt rfl
 | (true, t) :: r, hr, hd =>
   obtain⟨c,cs,hc,n1,n2,n3,n4,n5⟩:=(hr _ (Y0t ..)).head;have hc:t.s=c :: cs:=hc;have hd:a.drop i=32 :: c :: (cs++txP r):=by rw [hd]; show (32 :: t.s)++txP r=_; rw [hc]; rfl
   obtain⟨hlt,hg,hd⟩:=Z2L hd;obtain⟨hlt2,hg2,_⟩:=Z2L hd;have hinc:IntKind.i64.wrap ((i:Int)+1)=((i+1:Nat):Int):=Y0v _ ⟨by omega,by omega⟩;(refine go ?_;repeat' (apply B<;>intro hb<;>try cases hb));refine Zh 1 ?_;unfold Xr;(repeat'(first|refine Z1 7 ?_|refine Z0 7 ?_|refine st ?_|(apply B<;>intro hb<;>try cases hb)))<;>try refine At.mk ?_
   refine Qo (Z34 rfl) ?_;(repeat'(first|refine Z1 8 ?_|refine Z0 8 ?_|refine st ?_|(apply B<;>intro hb<;>try cases hb)))<;>try refine At.mk ?_
   refine Qo (Qy rfl (by omega)) ?_;(repeat'(first|refine Z1 13 ?_|refine Z0 13 ?_|refine st ?_|(apply B<;>intro hb<;>try cases hb)))<;>try refine At.mk ?_
   refine Qo (Z1T rfl rfl rfl hg) ?_;(repeat'(first|refine Z1 34 ?_|refine Z0 34 ?_|refine st ?_|(apply B<;>intro hb<;>try cases hb)))<;>try refine At.mk ?_
   refine Ze rfl rfl rfl hinc ?_;(repeat'(first|refine Z1 7 ?_|refine Z0 7 ?_|refine st ?_|(apply B<;>intro hb<;>try cases hb)))<;>try refine At.mk ?_
   refine Qo (Z34 rfl) ?_;(repeat'(first|refine Z1 8 ?_|refine Z0 8 ?_|refine st ?_|(apply B<;>intro hb<;>try cases hb)))<;>try refine At.mk ?_
   refine Qo (Qy rfl (by omega)) ?_;(repeat'(first|refine Z1 13 ?_|refine Z0 13 ?_|refine st ?_|(apply B<;>intro hb<;>try cases hb)))<;>try refine At.mk ?_
   refine Qo (Z1T rfl rfl rfl hg2) ?_;refine Qo (Za rfl (Z75 (m:=32) n1)) ?_;(repeat'(first|refine Z1 18 ?_|refine Z0 18 ?_|refine st ?_|(apply B<;>intro hb<;>try cases hb)))<;>try refine At.mk ?_
   refine Zj rfl ?_;refine Qo (Z1T rfl rfl rfl hg2) ?_;refine Zj rfl ?_;refine Qo (Za rfl (Z75 (m:=9) n2)) ?_;(repeat'(first|refine Z1 24 ?_|refine Z0 24 ?_|refine st ?_|(apply B<;>intro hb<;>try cases hb)))<;>try refine At.mk ?_
   refine Zj rfl ?_;refine Qo (Z1T rfl rfl rfl hg2) ?_;refine Zj rfl ?_;refine Qo (Za rfl (Z75 (m:=10) n3)) ?_;(repeat'(first|refine Z1 30 ?_|refine Z0 30 ?_|refine st ?_|(apply B<;>intro hb<;>try cases hb)))<;>try refine At.mk ?_
   refine Zj rfl ?_;refine Qo (Z1T rfl rfl rfl hg2) ?_;refine Zj rfl ?_;refine Qo (Za rfl (Z75 (m:=13) n4)) ?_;(repeat'(first|refine Z1 38 ?_|refine Z0 38 ?_|refine st ?_|(apply B<;>intro hb<;>try cases hb)))<;>try refine At.mk ?_
   refine Qo (Z1T rfl rfl rfl hg2) ?_;refine Qo (Za rfl (Z75 (m:=35) n5)) ?_;(refine go ?_;repeat' (apply B<;>intro hb<;>try cases hb));exact Z4 rfl Yt rfl
theorem Z9i {a:By} {i:Nat} {c:UInt8} (h:a[i]?=some c):(a.take (i+1)).drop i = [c]:=by
 have hlt:=(Yy.1 h).1;rw [YI,h,List.drop_append,Y0o,Y2v (Y3Y hlt),Y2E,Y3n (by rw [Y0o];omega)]
 rfl
theorem ZeU (a:By) (i:Nat) (d:UInt8) (hd:X3U d=true) (R:By) (hnx:Nx R) (hdr:a.drop i=d :: R) (ha:a.length<=100000) :
 X7 Tryz.prog 189 [.val (.string (toB a)),Yv i] (· = .tup [.agg (tkR (⟨2,[d],d.toNat-48⟩,i)),.val (.bool true)]):=by
 obtain⟨hlt,hg,hd2⟩:=Z2L hdr;have hw:=Z83 Z3k a i (by omega) ha;rw [hdr,show (d :: R).takeWhile X3U = [d] from X5r hnx hd] at hw;have hw:X7 Tryz.prog 186 [.val (.string (toB a)),Yv i,.fn 188 []] (· = .val (.int .i64 ((i+1:Nat):Int))):=hw;have hone:IntKind.i64.wrap (((i+1:Nat):Int)-(i:Int))=1:=by rw [show ((i+1:Nat):Int)-(i:Int)=1 by omega]; rfl
 have hsub:=Z9i hg;have hnext:(a.length<=i+1) \/ ∃ c,a[i+1]?=some c/\X4r c=false/\c.toNat≠95:=by
  cases hnx with
  | nil=>exact .inl (Zat hd2)
  | sp l=>exact .inr ⟨32,(Z2L hd2).2.1,by decide,by decide⟩
  | sy c l hc=>exact .inr ⟨c,(Z2L hd2).2.1,(ZbL hc).2.1,(ZbL hc).2.2⟩
 have hdn:48<=d.toNat/\d.toNat<=57:=by
  unfold X3U at hd;rw [Y0k,Y0n,Y0n] at hd;exact hd
 have hz:((d.toNat:Int) == 48)=decide (d.toNat=48):=by
  by_cases h:d.toNat=48
  . rw [h]; rfl
  . rw [Y0w h]; exact Zkd (m:=48) h
 have h61:IntKind.u8.wrap ((d.toNat:Int)-48)=((d.toNat-48:Nat):Int):=by rw [IntKind.wrap_u8]; omega
 have h62:IntKind.i64.wrap ((d.toNat-48:Nat):Int)=((d.toNat-48:Nat):Int):=Y0v _ ⟨by omega,by omega⟩;have h63:IntKind.i64.wrap (0+((d.toNat-48:Nat):Int))=((d.toNat-48:Nat):Int):=by rw [Y41]; exact h62
 refine Yp ok189 fun C hC=>?_;clear hd hdr hd2 hnx;(repeat'(first|refine Z1 12 ?_|refine Z0 12 ?_|refine st ?_|(apply B<;>intro hb<;>try cases hb)))<;>try refine At.mk ?_
 refine Qe hw ⟨Yt,Yt,Yt,Yt⟩ ?_;(repeat'(first|refine Z1 15 ?_|refine Z0 15 ?_|refine st ?_|(apply B<;>intro hb<;>try cases hb)))<;>try refine At.mk ?_
 refine Ze rfl rfl rfl hone ?_;(repeat'(first|refine Z1 20 ?_|refine Z0 20 ?_|refine st ?_|(apply B<;>intro hb<;>try cases hb)))<;>try refine At.mk ?_
 refine Zj rfl ?_;refine Qo (Z1T rfl rfl rfl hg) ?_;refine Zj rfl ?_;refine Qo (Za rfl hz) ?_;cases decide (d.toNat=48)
 case' true =>
  (repeat'(first|refine Z1 25 ?_|refine Z0 25 ?_|refine st ?_|(apply B<;>intro hb<;>try cases hb)))<;>try refine At.mk ?_
  refine Zj rfl ?_;refine Ze rfl rfl rfl hone ?_
 all_goals
  (repeat'(first|refine Z1 32 ?_|refine Z0 32 ?_|refine st ?_|(apply B<;>intro hb<;>try cases hb)))<;>try refine At.mk ?_
  refine Zj rfl ?_;refine Qo (Z34 rfl) ?_;refine Zj rfl ?_;rcases hnext with h1|⟨c,h1,h2,h3⟩
 case' false.inl|true.inl =>
  refine Qo (Qz rfl (by omega)) ?_
 case' false.inr|true.inr =>
  have hl2:=(Yy.1 h1).1;refine Qo (Qy rfl (by omega)) ?_;(repeat'(first|refine Z1 37 ?_|refine Z0 37 ?_|refine st ?_|(apply B<;>intro hb<;>try cases hb)))<;>try refine At.mk ?_
  refine Zj rfl ?_;refine Qo (Z1T rfl rfl rfl h1) ?_;refine Zj rfl ?_;refine Qe (Z3K c) ⟨Yt,Yt⟩ ?_;rw [h2];(repeat'(first|refine Z1 42 ?_|refine Z0 42 ?_|refine st ?_|(apply B<;>intro hb<;>try cases hb)))<;>try refine At.mk ?_
  refine Zj rfl ?_;refine Qo (Z1T rfl rfl rfl h1) ?_;refine Zj rfl ?_;refine Qo (Za rfl (Z75 (m:=95) h3)) ?_
 all_goals
  (repeat'(first|refine Z1 51 ?_|refine Z0 51 ?_|refine st ?_|(apply B<;>intro hb<;>try cases hb)))<;>try refine At.mk ?_
  refine Qo (ZgR (i:=i) (j:=i+1) rfl rfl rfl (by omega) (by omega)) ?_;rw [hsub];(refine go ?_;repeat' (apply B<;>intro hb<;>try cases hb));refine Zh 1 ?_;unfold Xr;(repeat'(first|refine Z1 61 ?_|refine Z0 61 ?_|refine st ?_|(apply B<;>intro hb<;>try cases hb)))<;>try refine At.mk ?_
  refine Ze rfl rfl rfl h61 ?_;refine Ze rfl rfl rfl h62 ?_;refine Ze rfl rfl rfl h63 ?_;(repeat'(first|refine Z1 68 ?_|refine Z0 68 ?_|refine st ?_|(apply B<;>intro hb<;>try cases hb)))<;>try refine At.mk ?_
  refine Qo (ZgR (i:=i) (j:=i+1) rfl rfl rfl (by omega) (by omega)) ?_;rw [hsub];(refine go ?_;repeat' (apply B<;>intro hb<;>try cases hb));exact Z4 rfl ⟨Z44 (⟨2,[d],d.toNat-48⟩,i),Yt,Yt⟩ rfl
theorem Z9j (b a:By):b.isPrefixOf a=(decide (a.length≥b.length)&&decide (a.take b.length=b)):=by
 rw [YS,Y4i,Y0k,Y0n,Y0n];constructor
 . intro h;exact⟨h.length_le,(Y4v.1 h).symm⟩
 . rintro ⟨h1, h2⟩;exact Y4v.2 h2.symm
theorem Z7k (a b:By) (ha:a.length<=100000):X7 Tryz.prog 323 [.val (.string (toB a)),.val (.string (toB b))] (· = .val (.bool (b.isPrefixOf a))):=by
 have hp:=Z9j b a;generalize b.isPrefixOf a=p at hp ⊢;refine Yp ok323 fun C hC=>?_;(repeat'(first|refine Z1 6 ?_|refine Z0 6 ?_|refine st ?_|(apply B<;>intro hb<;>try cases hb)))<;>try refine At.mk ?_
 refine Qo (Z34 rfl) ?_;(repeat'(first|refine Z1 8 ?_|refine Z0 8 ?_|refine st ?_|(apply B<;>intro hb<;>try cases hb)))<;>try refine At.mk ?_
 refine Qo (Z34 rfl) ?_;refine Qo (Za (v:=decide (a.length≥b.length)) rfl (by rw [Y2n];omega)) ?_;by_cases hl:a.length≥b.length
 . rw [YF hl, Y19] at hp;rw [YF hl];(repeat'(first|refine Z1 13 ?_|refine Z0 13 ?_|refine st ?_|(apply B<;>intro hb<;>try cases hb)))<;>try refine At.mk ?_
   refine Zj rfl ?_;refine Qo (Z34 rfl) ?_;refine Zj rfl ?_;refine Qo (ZgR (i:=0) (j:=b.length) rfl rfl rfl (Y0l _) hl) ?_;rw [Y2D];(repeat'(first|refine Z1 16 ?_|refine Z0 16 ?_|refine st ?_|(apply B<;>intro hb<;>try cases hb)))<;>try refine At.mk ?_
   refine Zj rfl ?_;refine Qo (Za (ZiC rfl rfl) hp.symm) ?_;clear hp;cases p
   all_goals
    (refine go ?_;repeat' (apply B<;>intro hb<;>try cases hb));exact Z4 rfl Yt rfl
 . rw [Y0w hl, Y2m] at hp;subst hp;rw [Y0w hl];(refine go ?_;repeat' (apply B<;>intro hb<;>try cases hb));exact Z4 rfl Yt rfl
theorem Z76 (a b:By) (ha:a.length<=100000):X7 Tryz.prog 266 [.val (.string (toB a)),.val (.string (toB b))] (· = .val (.bool (b.isPrefixOf a))):=by
 have hh:=Z7k a b ha;generalize b.isPrefixOf a=p at hh ⊢;refine Yp ok266 fun C hC=>?_;(repeat'(first|refine Z1 7 ?_|refine Z0 7 ?_|refine st ?_|(apply B<;>intro hb<;>try cases hb)))<;>try refine At.mk ?_
 refine Qe hh ⟨Yt,Yt,Yt⟩ ?_;cases p
 all_goals
  (refine go ?_;repeat' (apply B<;>intro hb<;>try cases hb));exact Z4 rfl Yt rfl
def syC (x:By):List PV := [.val (.string (toB x))]
theorem Zdx (l:List By):X2 (l.map syC):=Z17 (enc:=syC) (fun _=>⟨Yt,Yt⟩) l
theorem Zcw (a:By) (i:Nat) (s R:By) (j:Nat) (hj:X2A[j]?=some s) (hno:∀ (k:Nat) (x:By),k<j->X2A[k]?=some x->x.isPrefixOf (s++R)=false) (hd:a.drop i=s++R) (hi:i<=a.length) (ha:a.length<=100000) :
 X7 Tryz.prog 190 [.val (.string (toB a)),Yv i] (· = .tup [.agg (tkR (⟨3,s,0⟩,i)),.val (.bool true)]):=by
 have hjl:j<13:=(Yy.1 hj).1;have hyes:s.isPrefixOf (s++R)=true:=by rw [Y4i]; exact List.prefix_append _ _
 have hsub:(a.take a.length).drop i=s++R:=by rw [Y0q,hd]
 have hRl:(s++R).length<=100000:=by rw [<- hd,Y17]; omega
 have hpx:=fun x=>Z76 (s++R) x hRl;refine Yp ok190 fun C hC=>?_;(refine go ?_;repeat' (apply B<;>intro hb<;>try cases hb));refine Zv hC (fun k=>k<=j) (fun k=>j-k) 1 (fun k => [(0,.val (.string (toB a))),(1,Yv i),(4,.ptr 0 0 0),(5,.val (.bool false)),(8,.vec (X2A.map syC) true),(9,.val (.int .i64 13)),(10,.val (.int .i64 (k:Int)))])
  (fun _ => [(0,⟨4,[[.val (.int .u8 0),.val (.string ⟨#[]⟩),.val (.int .i64 0),.val (.int .i64 0)]]⟩)]) (by omega) 0 (Y0l _)
  ⟨⟨rfl,Yt⟩,⟨rfl,Yt⟩,⟨rfl,show (0:Nat)<1 by decide⟩,⟨rfl,Yt⟩,⟨rfl,Zc (fun _ h=>h.elim) _ (Zdx _)⟩,⟨rfl,Yt⟩,⟨rfl,Yt⟩,Yt⟩
  ⟨⟨by decide,rfl,⟨Yt,Yt,Yt,Yt,Yt⟩,Yt⟩,Yt⟩ ?_
 intro k hk;have hinc:IntKind.i64.wrap ((k:Int)+1)=((k+1:Nat):Int):=Y0v _ ⟨by omega,by omega⟩;have hkl:k<X2A.length:=by show k<13; omega
 (repeat'(first|refine Z1 11 ?_|refine Z0 11 ?_|refine st ?_|(apply B<;>intro hb<;>try cases hb)))<;>try refine At.mk ?_
 refine Qo (Qy rfl (by omega)) ?_;(repeat'(first|refine Z1 12 ?_|refine Z0 12 ?_|refine st ?_|(apply B<;>intro hb<;>try cases hb)))<;>try refine At.mk ?_
 refine Qo (Zk (xs:=X2A) (g:=syC) rfl rfl k rfl hkl rfl) ?_;have hsk:=Y0c hkl;generalize X2A[k]=sk at hsk ⊢;(repeat'(first|refine Z1 16 ?_|refine Z0 16 ?_|refine st ?_|(apply B<;>intro hb<;>try cases hb)))<;>try refine At.mk ?_
 refine Qo (ZgR (i:=i) (j:=a.length) rfl rfl rfl hi (Y0m _)) ?_;rw [hsub];(repeat'(first|refine Z1 18 ?_|refine Z0 18 ?_|refine st ?_|(apply B<;>intro hb<;>try cases hb)))<;>try refine At.mk ?_
 refine Qe (hpx sk) ⟨Yt,Yt,Yt⟩ ?_;by_cases hkj:k<j
 . rw [hno k sk hkj hsk];(repeat'(first|refine Z1 22 ?_|refine Z0 22 ?_|refine st ?_|(apply B<;>intro hb<;>try cases hb)))<;>try refine At.mk ?_
   refine Ze rfl rfl rfl hinc ?_;(refine go ?_;repeat' (apply B<;>intro hb<;>try cases hb))
   exact⟨k+1,hkj,by omega,⟨⟨rfl,Yt⟩,⟨rfl,Yt⟩,⟨rfl,show (0:Nat)<1 by decide⟩,⟨rfl,Yt⟩,⟨rfl,Zc (fun _ h=>h.elim) _ (Zdx _)⟩,⟨rfl,Yt⟩,⟨rfl,Yt⟩,Yt⟩,
    ⟨⟨by decide,rfl,⟨Yt,Yt,Yt,Yt,Yt⟩,Yt⟩,Yt⟩⟩
 . obtain rfl : k = j := by omega
   obtain rfl:sk=s:=by rw [hsk] at hj; exact Y13 hj
   rw [hyes];(refine go ?_;repeat' (apply B<;>intro hb<;>try cases hb));exact Z4 rfl ⟨Z44 (⟨3,sk,0⟩,i),Yt,Yt⟩ rfl
theorem ZkL {a s R:By} {i:Nat} (h:a.drop i=s++R) (hi:i<=a.length):(a.take (i+s.length)).drop i=s/\i+s.length<=a.length:=by
 have hl:=congrArg List.length h;rw [Y17,Y0e] at hl;refine⟨?_,by omega⟩;rw [Y4o,h,Y4t,List.take_left]
structure ScI (a:By) (P:List Pc) (x:List Tp×Nat×List Pc):Prop where
 off:x.1++X49 x.2.1 x.2.2=X49 0 P
 at_:a.drop x.2.1=txP x.2.2
 ok:∀ y∈x.2.2,OkT y.2
 adj:adj x.2.2=true
 le:x.2.1<=a.length
theorem Zhc (P:List Pc) (hok:∀ y∈P,OkT y.2) (hadj:adj P=true) (a:By) (hap:a=txP P) (ha:a.length<=8000) (hPl:P.length<=8000) :
 X7 Tryz.prog 111 [.val (.string (toB a))] (· = .tup [.vec ((X49 0 P ++ [(X48,a.length)]).map tkR) false,.val (.int .i64 0),.val (.int .i64 0)]):=by
 refine Yp ok111 fun C hC=>?_;(repeat'(first|refine Z1 10 ?_|refine Z0 10 ?_|refine st ?_|(apply B<;>intro hb<;>try cases hb)))<;>try refine At.mk ?_
 refine Qo (Z34 rfl) ?_;(repeat'(first|refine Z1 11 ?_|refine Z0 11 ?_|refine st ?_|(apply B<;>intro hb<;>try cases hb)))<;>try refine At.mk ?_
 refine Qo (Qz rfl (by omega)) ?_
 repeat' (first|refine Zm (ZD (k:=5) rfl 4 (by decide)) ?_|(first|refine st ?_|(apply B<;>intro hb<;>try cases hb)))
 refine Qe (ZaA a 0 P hok (by rw [hap]; rfl) (Y0l _) (by omega)) ⟨Yt,Yt,Yt⟩ ?_;(refine go ?_;repeat' (apply B<;>intro hb<;>try cases hb));refine Z1n hC (ScI a P) (fun x=>x.2.2.length) 1 (fun x => [(0,.val (.string (toB a))),(5,.own 0),(6,.val (.int .i64 ((x.2.1+blk x.2.2:Nat):Int)))])
  (fun x => [(0,⟨4,x.1.map tkR⟩)]) (by omega) ([],0,P) ⟨rfl,by rw [hap]; rfl,hok,hadj,Y0l _⟩ (fun i=>i) (fun _ _=>rfl) Z1a
  ⟨Qp Yt,⟨_,rfl,.own 0 (by decide)⟩,Qp Yt,Yt⟩ ⟨Qs Yt,Yt⟩ ?_
 rintro⟨tks,i,r⟩ ⟨h1,h2,h3,h4,h5⟩;simp only at h1 h2 h3 h4 h5;have htl:tks.length<=8000:=by
  have:=congrArg List.length h1;rw [Y0e,Z97,Z97] at this;omega
 (repeat'(first|refine Z1 16 ?_|refine Z0 16 ?_|refine st ?_|(apply B<;>intro hb<;>try cases hb)))<;>try refine At.mk ?_
 refine Qo (Z34 rfl) ?_
 match r,h1,h2,h3,h4 with
 | [], h1, h2, h3, h4 =>
   have hil:i=a.length:=Zdr h2 h5;(repeat'(first|refine Z1 17 ?_|refine Z0 17 ?_|refine st ?_|(apply B<;>intro hb<;>try cases hb)))<;>try refine At.mk ?_
   refine Qo (Qz rfl (by show ¬ (((i+0:Nat):Int)<_);omega)) ?_;(repeat'(first|refine Z1 65 ?_|refine Z0 65 ?_|refine st ?_|(apply B<;>intro hb<;>try cases hb)))<;>try refine At.mk ?_
   refine Qo (Z34 rfl) ?_;(repeat'(first|refine Z1 68 ?_|refine Z0 68 ?_|refine st ?_|(apply B<;>intro hb<;>try cases hb)))<;>try refine At.mk ?_
   refine ZB (Z11 (k:=0) (m := [tkR (X48,a.length)]) (fl:=true) (b:=⟨4,tks.map tkR⟩) rfl rfl rfl (fun q hq=>by rw [Y0g] at hq; subst hq; rfl) rfl (by
    show ((tks.map tkR).length+1)*40<=_
    rw [Y0f];omega)) rfl rfl ?_
   have happ:tks.map tkR ++ [tkR (X48,a.length)]=(X49 0 P ++ [(X48,a.length)]).map tkR:=by
    rw [<- h1,show X49 i [] = [] from rfl,Y0p,Y0r]; rfl
   simp only;rw [happ];refine Zm (Zo (k:=68) rfl rfl (Z2B _)) ?_;(refine go ?_;repeat' (apply B<;>intro hb<;>try cases hb));exact Z4 rfl ⟨Z2B _,Yt,Yt,Yt⟩ rfl
 | (b, t) :: r, h1, h2, h3, h4 =>
   obtain⟨p,hp⟩:∃ p,p=i+blB b:=⟨_,rfl⟩
   have hblk:i+blk ((b,t) :: r)=p:=hp.symm;have hok':OkT t:=h3 _ (Y0t ..);have hr':∀ y∈r,OkT y.2:=fun y hy=>h3 y (YC _ hy);have hdp:a.drop p=t.s++txP r:=by
    cases b with
    | false=>rw [hp]; exact h2
    | true=>rw [hp]; exact (Z2L (c:=32) (cs:=t.s++txP r) h2).2.2
   obtain⟨c,cs,hc,-⟩:=hok'.head;have hg:=Z2L (show a.drop p=c :: (cs++txP r) by rw [hdp,hc]; rfl);obtain⟨hsub,hle⟩:=ZkL hdp (Y3Y hg.1);have hadj':okN t r=true/\adj r=true:=by
    have:(okN t r&&adj r)=true:=h4
    rwa [Y0k] at this
   have hd2:a.drop (p+t.s.length)=txP r:=(ZiA hdp).1;have hoff:(tks ++ [(t,p)])++X49 (p+t.s.length) r=X49 0 P:=by
    rw [<- h1,Y1b,hp]; rfl
   have hadd:IntKind.i64.wrap ((p:Int)+(t.s.length:Int))=((p+t.s.length:Nat):Int):=Y0v _ ⟨by omega,by omega⟩;have hsk:=ZaA a (p+t.s.length) r hr' hd2 hle (by omega);rw [hblk];clear hblk hp h1 h2 h3 h4 h5;(repeat'(first|refine Z1 17 ?_|refine Z0 17 ?_|refine st ?_|(apply B<;>intro hb<;>try cases hb)))<;>try refine At.mk ?_
   refine Qo (Qy rfl (by omega)) ?_;(repeat'(first|refine Z1 30 ?_|refine Z0 30 ?_|refine st ?_|(apply B<;>intro hb<;>try cases hb)))<;>try refine At.mk ?_
   refine Qo (Z1T rfl rfl rfl hg.2.1) ?_;refine Qe (Z3K c) ⟨Yt,Yt⟩ ?_;rcases hok' with⟨hl,hin⟩|hdg|hsy
   case' word c0 cs0 =>
    obtain⟨rfl,rfl⟩:c0=c/\cs0=cs:=by
     have hc:c0 :: cs0=c :: cs:=hc;exact⟨(Y3d hc).1,(Y3d hc).2⟩
    have hw:=Z83 Zcv a p (Y3Y hg.1) (by omega)
    rw [hdp,X4n (Zky (show (1:Nat)≠3 by decide) hr' hadj'.1) (fun x hx=>by
     rcases Ye.1 hx with rfl|hx
     . unfold X4I; rw [hl]; rfl
     . exact hin x hx)] at hw
    rw [hl];(repeat'(first|refine Z1 36 ?_|refine Z0 36 ?_|refine st ?_|(apply B<;>intro hb<;>try cases hb)))<;>try refine At.mk ?_
    refine Qe hw ⟨Yt,Yt,Yt,Yt⟩ ?_;refine Qo (ZgR rfl rfl rfl (Y46 _ _) hle) ?_;rw [hsub];(repeat'(first|refine Z1 57 ?_|refine Z0 57 ?_|refine st ?_|(apply B<;>intro hb<;>try cases hb)))<;>try refine At.mk ?_
    refine ZB (Z11 (k:=0) (m := [tkR (⟨1,c0 :: cs0,0⟩,p)]) (fl:=true) (b:=⟨4,tks.map tkR⟩) rfl rfl rfl (fun q hq=>by rw [Y0g] at hq; subst hq; rfl) rfl (by
     show ((tks.map tkR).length+1)*40<=_
     rw [Y0f];omega)) rfl rfl ?_
   case' num d0 =>
    obtain⟨rfl,rfl⟩:d0=c/\cs = []:=by
     have hc : [d0]=c :: cs:=hc;exact⟨(Y3d hc).1,(Y3d hc).2.symm⟩
    have hnl:X4r d0=false:=by
     unfold X3U at hdg;rw [Y0k,Y0n,Y0n] at hdg;unfold X4r;rw [Y0w (by omega),Y2m]
    have hnum:=ZeU a p d0 hdg (txP r) (Zky (show (2:Nat)≠3 by decide) hr' hadj'.1) hdp (by omega);rw [hnl];(repeat'(first|refine Z1 43 ?_|refine Z0 43 ?_|refine st ?_|(apply B<;>intro hb<;>try cases hb)))<;>try refine At.mk ?_
    refine Qo (Z1T rfl rfl rfl hg.2.1) ?_;refine Qe (Z3k d0) ⟨Yt,Yt⟩ ?_;rw [hdg];(repeat'(first|refine Z1 48 ?_|refine Z0 48 ?_|refine st ?_|(apply B<;>intro hb<;>try cases hb)))<;>try refine At.mk ?_
    refine Qe hnum ⟨Yt,Yt,Yt⟩ ?_;(repeat'(first|refine Z1 57 ?_|refine Z0 57 ?_|refine st ?_|(apply B<;>intro hb<;>try cases hb)))<;>try refine At.mk ?_
    refine ZB (Z11 (k:=0) (m := [tkR (⟨2,[d0],d0.toNat-48⟩,p)]) (fl:=true) (b:=⟨4,tks.map tkR⟩) rfl rfl rfl (fun q hq=>by rw [Y0g] at hq; subst hq; rfl) rfl (by
     show ((tks.map tkR).length+1)*40<=_
     rw [Y0f];omega)) rfl rfl ?_
   case' sym s0 =>
    obtain⟨j,hj,hno⟩:=Zgq hsy hadj'.1;have hns:X4r c=false/\X3U c=false:=by
     have hc:s0=c :: cs:=hc;simp only [Ye,Y1z,Y2Y] at hsy;rcases hsy with rfl|rfl|rfl|rfl|rfl|rfl|rfl|rfl|rfl|rfl<;>(obtain⟨rfl,-⟩:=Y3d hc; exact⟨by decide,by decide⟩)
    have hsym:=Zcw a p s0 (txP r) j hj hno hdp (Y3Y hg.1) (by omega);rw [hns.1];(repeat'(first|refine Z1 43 ?_|refine Z0 43 ?_|refine st ?_|(apply B<;>intro hb<;>try cases hb)))<;>try refine At.mk ?_
    refine Qo (Z1T rfl rfl rfl hg.2.1) ?_;refine Qe (Z3k c) ⟨Yt,Yt⟩ ?_;rw [hns.2];(repeat'(first|refine Z1 24 ?_|refine Z0 24 ?_|refine st ?_|(apply B<;>intro hb<;>try cases hb)))<;>try refine At.mk ?_
    refine Qe hsym ⟨Yt,Yt,Yt⟩ ?_;(repeat'(first|refine Z1 57 ?_|refine Z0 57 ?_|refine st ?_|(apply B<;>intro hb<;>try cases hb)))<;>try refine At.mk ?_
    refine ZB (Z11 (k:=0) (m := [tkR (⟨3,s0,0⟩,p)]) (fl:=true) (b:=⟨4,tks.map tkR⟩) rfl rfl rfl (fun q hq=>by rw [Y0g] at hq; subst hq; rfl) rfl (by
     show ((tks.map tkR).length+1)*40<=_
     rw [Y0f];omega)) rfl rfl ?_
   all_goals
    simp only;(repeat'(first|refine Z1 61 ?_|refine Z0 61 ?_|refine st ?_|(apply B<;>intro hb<;>try cases hb)))<;>try refine At.mk ?_
    refine Qo (Z34 rfl) ?_;refine Ze rfl rfl rfl hadd ?_;(repeat'(first|refine Z1 20 ?_|refine Z0 20 ?_|refine st ?_|(apply B<;>intro hb<;>try cases hb)))<;>try refine At.mk ?_
    refine Qe hsk ⟨Yt,Yt,Yt⟩ ?_;(refine go ?_;repeat' (apply B<;>intro hb<;>try cases hb))
    exact⟨(tks ++ [(_,p)],p+_,r),mv 0 2,⟨hoff,hd2,hr',hadj'.2,hle⟩,by show r.length<r.length+1; omega,fun j hj=>absurd hj (YR _),Z1e rfl,
     ⟨Qp Yt,Qw 0,Qp Yt,Yt⟩,⟨⟨by decide,_,by rw [Y0r]; rfl,.same _ (Z2B (tks ++ [(_,p)]))⟩,Yt⟩⟩
theorem Zhd (op:Int) (lv:Nat) (l:List Fm):l.length<=(Xf op lv l).length:=by
 induction l with
 | nil=>exact Y0m _
 | cons b l ih=>rw [Z4k,Y04,Y04,Y0e]; omega
theorem TAt.le {T:List Tk} {i:Nat} {ts:List Tk} (h:TAt T i ts):ts.length<=T.length:=by
 by_cases h0:ts = []
 . subst h0; exact Y0l _
 . have:=h.len h0; omega
theorem Zhe (a:Fm) (l:List Fm) (ha:S 3 a) (hl:∀ x∈l,S 3 x) (T:List Tp) (i:Nat) (hT:T.length<=100000) (hat:TAt (T.map (·.1)) i (Xy 3 a++Xf 9 3 l)) (hn:Nxt 2 (T.map (·.1)) (i+(Xy 3 a).length+(Xf 9 3 l).length)) :
 Xu Tryz.prog 113 P1 (rdB T i) fun r b'=>r=.agg (eC (X2E 9 a l))/\b'=rdB T (i+(Xy 3 a).length+(Xf 9 3 l).length):=by
 refine Zi ok113 (Y0 rfl) fun C hC=>?_;(repeat'(first|refine Z1 6 ?_|refine Z0 6 ?_|refine st ?_|(apply B<;>intro hb<;>try cases hb)))<;>try refine At.mk ?_
 refine ZZ 0 (Z72 (.inr (.inl rfl)) 3 rfl a l ha hl T i hT hat hn) (X6u 9 _) rfl rfl rfl rfl (Z7 T i) ?_;rintro r b' - - ⟨rfl,rfl⟩;(refine go ?_;repeat' (apply B<;>intro hb<;>try cases hb));exact Z12 rfl (Zp _) rfl (Z7 T _) ⟨rfl,rfl⟩
theorem Zhf (a:Fm) (l:List Fm) (ha:S 4 a) (hl:∀ x∈l,S 4 x) (T:List Tp) (i:Nat) (hT:T.length<=100000) (hat:TAt (T.map (·.1)) i (Xy 4 a++Xf 8 4 l)) (hn:Nxt 3 (T.map (·.1)) (i+(Xy 4 a).length+(Xf 8 4 l).length)) :
 Xu Tryz.prog 193 P1 (rdB T i) fun r b'=>r=.agg (eC (X2E 8 a l))/\b'=rdB T (i+(Xy 4 a).length+(Xf 8 4 l).length):=by
 refine Zi ok193 (Y0 rfl) fun C hC=>?_;(repeat'(first|refine Z1 6 ?_|refine Z0 6 ?_|refine st ?_|(apply B<;>intro hb<;>try cases hb)))<;>try refine At.mk ?_
 refine ZZ 0 (Z72 (.inl rfl) 4 rfl a l ha hl T i hT hat hn) (X6u 8 _) rfl rfl rfl rfl (Z7 T i) ?_;rintro r b' - - ⟨rfl,rfl⟩;(refine go ?_;repeat' (apply B<;>intro hb<;>try cases hb));exact Z12 rfl (Zp _) rfl (Z7 T _) ⟨rfl,rfl⟩
theorem ZiS (a:Fm) (l:List Fm) (ha:S 7 a) (hl:∀ x∈l,S 7 x) (T:List Tp) (i:Nat) (hT:T.length<=100000) (hat:TAt (T.map (·.1)) i (Xy 7 a++Xf 16 7 l)) (hn:Nxt 6 (T.map (·.1)) (i+(Xy 7 a).length+(Xf 16 7 l).length)) :
 Xu Tryz.prog 356 P1 (rdB T i) fun r b'=>r=.agg (eC (X2E 16 a l))/\b'=rdB T (i+(Xy 7 a).length+(Xf 16 7 l).length):=by
 refine Zi ok356 (Y0 rfl) fun C hC=>?_;(repeat'(first|refine Z1 6 ?_|refine Z0 6 ?_|refine st ?_|(apply B<;>intro hb<;>try cases hb)))<;>try refine At.mk ?_
 refine ZZ 0 (Z72 (.inr (.inr rfl)) 7 rfl a l ha hl T i hT hat hn) (X6u 16 _) rfl rfl rfl rfl (Z7 T i) ?_;rintro r b' - - ⟨rfl,rfl⟩;(refine go ?_;repeat' (apply B<;>intro hb<;>try cases hb));exact Z12 rfl (Zp _) rfl (Z7 T _) ⟨rfl,rfl⟩
theorem X5K:X1V S where
 s1:=fun f h hs T i hT hat hx=>by
  obtain⟨h1,h2,h3,h4⟩:=Zgl h;cases hc:chR f with
  | nil=>exact absurd hc h2
  | cons a l =>
    rw [hc] at h1 h4 hs;have h1:Xy 1 f=Xy 2 a++Xf 10 2 l:=h1;rw [h1] at hat hx ⊢;rw [Y0e,<- YL] at hx ⊢;have hl:l.length<=100000:=by
     have:=Zhd 10 2 l;have:=hat.right.le;rw [Y0f] at this;omega
    have:=Zh6 a l (hs a (by simp)) (fun x hx=>hs x (by simp [hx])) hl T i hT hat hx;rw [h4] at this;exact this
 sl:=fun op ho f h ha hl T i hT hat hx=>by
  obtain⟨h1,h2,h3,h4,h5⟩:=Zif ho h;rw [h1] at hat hx ⊢;rw [Y0e,<- YL] at hx ⊢;rcases ho with rfl|rfl|rfl
  . have := Zhf _ _ ha hl T i hT hat hx;rw [show X2E 8 (chL 8 f).1 (chL 8 f).2=f from h5] at this;exact this
  . have := Zhe _ _ ha hl T i hT hat hx;rw [show X2E 9 (chL 9 f).1 (chL 9 f).2=f from h5] at this;exact this
  . have := ZiS _ _ ha hl T i hT hat hx;rw [show X2E 16 (chL 16 f).1 (chL 16 f).2=f from h5] at this;exact this
 s4:=fun f h hs T i hT hat hx=>by
  obtain⟨h1,h2,h3,h4⟩:=Zgo h;rw [h1] at hat hx ⊢;rw [Y0e,Y2d,<- YL] at hx ⊢;have hn:(chN f).1<=100000:=by
   have:=hat.left.le;rw [Y2d,Y0f] at this;omega
  have:=ZiO (chN f).1 (chN f).2 h2 hs T i hT hn hat (hx.up (by decide));rw [h4] at this;exact this
 s5:=fun op a b h1 h2 ha hb sa sb T i hT hat hx=>by
  have h5:stM op=5:=by
   have:op=11 \/ op=12 \/ op=13 \/ op=14 \/ op=15:=by omega
   rcases this with rfl|rfl|rfl|rfl|rfl<;>rfl
  have ht:Xy 5 (.mk op 0 [] [a,b])=Xy 6 a++opT op :: Xy 6 b:=by
   rw [Z1z (show ¬ stM op<5 by omega),Za0 (by omega)];have hl:X2a op=6:=by unfold X2a; rw [Y8 (by omega),Y7 h5]
   have hr:X1C op=6:=by unfold X1C; rw [Y8 (by omega),h5]
   rw [hl,hr]
  rw [ht] at hat hx ⊢;rw [Y0e,Y04,<- YL] at hx ⊢;have:=Zk6 h1 h2 sa sb T i hT hat (by rw [YL _ 1,Y33 1]; exact hx.up (by decide));rw [YL _ 1,Y33 1] at this;exact this
 s5n:=fun f h hno hs T i hT hat hx=>by
  have ht:Xy 5 f=Xy 6 f:=by
   by_cases h5:stM f.op<5
   . rw [Z3e h5,Z3e (by omega)]
   . rw [Z1z h5, Z1z];have:=h.op;have hb:f.op=1 \/ f.op=2 \/ f.op=3 \/ f.op=4 \/ f.op=5 \/ f.op=6 \/ f.op=7 \/ f.op=8 \/ f.op=9 \/ f.op=10 \/ f.op=16:=by omega
     rcases hb with e|e|e|e|e|e|e|e|e|e|e<;>rw [e] at h5 ⊢ <;> first|decide|exact absurd (by decide) h5
  rw [ht] at hat hx ⊢;exact ZkI hs T i hT hat hx
 s7:=fun f h h7 T i hT hat hx=>by
  rw [Z1z (by omega)] at hat hx ⊢;cases h with
  | num h0 h1=>obtain⟨a,hr⟩:=Z2T hat.head hT; exact ZiL h0 h1 hr
  | yes=>obtain⟨a,hr⟩:=Z2T hat.head hT; exact Zh2 hr
  | no=>obtain⟨a,hr⟩:=Z2T hat.head hT; exact ZeM hr
  | role h0=>obtain⟨a,hr⟩:=Z2T hat.head hT; exact Zh3 h0 hr
  | @count r rs h0 h1 =>
    have:=ZeN h0 h1 hT hat;have hl:(tkM (.mk 5 0 (r :: rs) [])).length=1+2+2*rs.length+1:=by
     show (X2j :: lpT :: rnT r :: (X2g rs ++ [rpT])).length=_;simp [Zaw]; omega
    rw [hl,<- YL,<- YL,<- YL];exact this
  | neg ha=>exact absurd (show stM 7=7 from h7) (by decide)
  | @two op a b h0 h1 ha hb =>
    have h7:stM op=7:=h7;have hb:op=8 \/ op=9 \/ op=10 \/ op=11 \/ op=12 \/ op=13 \/ op=14 \/ op=15 \/ op=16:=by omega
    rcases hb with rfl|rfl|rfl|rfl|rfl|rfl|rfl|rfl|rfl<;>exact absurd h7 (by decide)
 s7p:=fun f h h7 hs T i hT hat hx=>by
  rw [Z3e h7] at hat hx ⊢;have:=ZeO hs hT h hat;rw [Y04,Y0e,<- YL];rw [show i+1+(tkM f).length+1=i+((tkM f).length + [rpT].length)+1 by show _=i+((tkM f).length+1)+1; omega] at this;exact this
theorem ZeV {f:Fm} (h:Sh f) (T:List Tp) (hT:T.length<=100000) (hm:T.map (·.1)=tkM f ++ [X48]):Xu Tryz.prog 68 P1 (rdB T 0) fun r b'=>r=.agg (eC f)/\b'=rdB T (tkM f).length:=by
 have he:Xy 1 f=tkM f:=Z1z (by have:=h.le;omega);have:=(X5K.known h).a 1 (by decide) (by decide) T 0 hT ⟨[X48],by rw [hm,he]; rfl⟩ ⟨X48,by rw [hm,he,YQ]; simp,.inl rfl,.inl (by decide)⟩;rw [he,YQ] at this;exact this
theorem ShA.sh {f:Fm} (h:ShA f):Sh f:=by
 induction h with
 | num h0 h1=>exact .num h0 h1
 | yes=>exact .yes
 | no=>exact .no
 | role h0=>exact .role h0
 | count h=>exact .count h.rng (by have:=h.len; simp at this;omega)
 | neg _ ih=>exact .neg ih
 | two h0 h1 _ _ iha ihb=>exact .two h0 h1 iha ihb
theorem ZeW {f:Fm} (h:ShA f) (hd:f.depth<=10) (hs:f.size<=100):X7 Tryz.prog 32 [.agg (eC f)] (· = .val (.string (toB (tx f)))):=by
 refine Yp ok32 fun C hC=>?_;refine Zn ?_;refine Z8 ?_;refine Z5 rfl rfl rfl ?_;(repeat'(first|refine Z1 4 ?_|refine Z0 4 ?_|refine st ?_|(apply B<;>intro hb<;>try cases hb)))<;>try refine At.mk ?_
 refine Qe (Z3i h hd (by omega)) ⟨Zp _,Yt⟩ ?_;(repeat'(first|refine Z1 7 ?_|refine Z0 7 ?_|refine st ?_|(apply B<;>intro hb<;>try cases hb)))<;>try refine At.mk ?_
 refine Qe (Zhb f.depth f (Y0m _) h.sh hs) ⟨Zp _,Yt⟩ ?_;(refine go ?_;repeat' (apply B<;>intro hb<;>try cases hb));exact Z4 rfl Yt rfl
theorem Zcx (l:List Tp) (hl:l.length<=100000) (h0:l≠[]):X7 Tryz.prog 191 [.vec (l.map tkR) false] (· = .vec (l.map tkR) false):=by
 refine Yp ok191 fun C hC=>?_
 match l,h0,hl with
 | x :: l, _, hl =>
   (repeat'(first|refine Z1 7 ?_|refine Z0 7 ?_|refine st ?_|(apply B<;>intro hb<;>try cases hb)))<;>try refine At.mk ?_
   refine Z5 (Z6j (l := []) (m:=(x :: l).map tkR) rfl rfl (fun c hc=>by cases hc) (fun c hc=>by obtain⟨y,_,rfl⟩:=Y0i.1 hc; rfl) (by show ((0:Nat)+((x :: l).map tkR).length)*40<=_; rw [Y0f];omega)) rfl rfl ?_;rw [Y1M];(refine go ?_;repeat' (apply B<;>intro hb<;>try cases hb));exact Z4 rfl (Z2B _) rfl
theorem ZeX (l:List Tp) (hl:l.length<=100000) (h0:l≠[]):X1a Tryz.prog 112 [.vec (l.map tkR) false] (fun k=>.ptr k 0 0) (rdB l 0):=by
 refine ZY ok112 (Y0 rfl) fun C hC=>?_;(repeat'(first|refine Z1 4 ?_|refine Z0 4 ?_|refine st ?_|(apply B<;>intro hb<;>try cases hb)))<;>try refine At.mk ?_
 refine Qe (Zcx l hl h0) ⟨Z2B l,Yt⟩ ?_;(refine go ?_;repeat' (apply B<;>intro hb<;>try cases hb));exact⟨_,_,rfl,.inl rfl,_,rfl,rfl⟩
theorem ZeY {f:Fm} (h:ShA f) (hs:f.size<=100):X1a Tryz.prog 67 [.val (.string (toB (tx f)))] (fun k=>.tup [.cp [.ptr k 0 0],.val (.int .i64 0),.val (.int .i64 0)]) (rdB (X4m f) 0):=by
 have hl:=Zdq h.sh;have hpl:=Zau h.sh;have htl:=Zds h.sh;have hne:X4m f≠[]:=by unfold X4m; simp
 refine ZY ok67 (Y0 rfl) fun C hC=>?_;(repeat'(first|refine Z1 10 ?_|refine Z0 10 ?_|refine st ?_|(apply B<;>intro hb<;>try cases hb)))<;>try refine At.mk ?_
 refine Qe (Zhc (pcM f false) (Zkx h.sh false) (by have:=Zkt h.sh false (r := []) rfl rfl; rwa [Y0p] at this) (tx f) rfl (by omega) (by omega)) ⟨Yt,Yt⟩ ?_;(repeat'(first|refine Z1 19 ?_|refine Z0 19 ?_|refine st ?_|(apply B<;>intro hb<;>try cases hb)))<;>try refine At.mk ?_
 refine Z2m (ZeX (X4m f) (by omega) hne) (ZgQ 0 0) (Z7 _ _) rfl rfl ⟨Z2B _,Yt⟩ ?_;(repeat'(first|refine Z1 21 ?_|refine Z0 21 ?_|refine st ?_|(apply B<;>intro hb<;>try cases hb)))<;>try refine At.mk ?_
 refine Z5 rfl rfl rfl ?_;(refine go ?_;repeat' (apply B<;>intro hb<;>try cases hb));exact⟨_,_,rfl,.inl rfl,_,rfl,rfl⟩
theorem Zhg {mk:Nat->PV} (hm:Mk mk) {a b:PV} (ha:a.pure) (hb:b.pure):Mk fun i=>.tup [mk i,a,b]:=fun F φ φ' v i n hn hv=>by
 obtain⟨vs,rfl,h1,h2⟩:=hv.tup_inv;refine .tup vs _ h1 fun j hj=>?_
 match j,hj with
 | 0,_=>exact hm F φ φ' _ i n hn (h2 0 (by show 0<3; decide))
 | 1,_=>exact (h2 1 (by show 1<3; decide)).pure ha
 | 2,_=>exact (h2 2 (by show 2<3; decide)).pure hb
theorem ZeZ {T:List Tp} {i:Nat} {a:Nat} (h:Rd T i (X48,a)):Xu Tryz.prog 69 P1 (rdB T i) fun r b'=>r=.val (.bool true)/\b'=rdB T i:=by
 refine Zi ok69 (Y0 rfl) fun C hC=>?_;(repeat'(first|refine Z1 4 ?_|refine Z0 4 ?_|refine st ?_|(apply B<;>intro hb<;>try cases hb)))<;>try refine At.mk ?_
 refine ZZ 0 Z1H X32 rfl rfl rfl rfl (Z7 T i) ?_;rintro r b' - - ⟨rfl,rfl⟩;(repeat'(first|refine Z1 10 ?_|refine Z0 10 ?_|refine st ?_|(apply B<;>intro hb<;>try cases hb)))<;>try refine At.mk ?_
 refine Zj rfl ?_;refine Zb (id:=0) (Z1E h) rfl rfl rfl rfl (Z7 T i) Yt ?_;rintro r b' - - ⟨rfl,rfl⟩;(refine go ?_;repeat' (apply B<;>intro hb<;>try cases hb));exact Z12 rfl Yt rfl (Z7 T i) ⟨rfl,rfl⟩
theorem Zf0 {f:Fm} (h:ShA f) (hd:f.depth<=10) (hs:f.size<=100):X7 Tryz.prog 31 [.val (.string (toB (tx f)))] (· = .tup [.agg (eC f),.val (.int .i64 0),.val (.int .i64 0)]):=by
 have hT:(X4m f).length<=100000:=by have:=Zds h.sh; omega
 have hm:=ZiB h.sh;have hat:((X4m f).map (·.1))[(tkM f).length]?=some X48:=by rw [hm,YV (Y0m _),Y2E]; rfl
 obtain⟨x,hrd⟩:=Z2T hat hT;refine Yp ok31 fun C hC=>?_;(repeat'(first|refine Z1 14 ?_|refine Z0 14 ?_|refine st ?_|(apply B<;>intro hb<;>try cases hb)))<;>try refine At.mk ?_
 refine Z2m (ZeY h hs) (Zhg (a:=.val (.int .i64 0)) (b:=.val (.int .i64 0)) Zav Yt Yt) (Z7 _ _) rfl rfl ⟨Yt,Yt⟩ ?_;(repeat'(first|refine Z1 24 ?_|refine Z0 24 ?_|refine st ?_|(apply B<;>intro hb<;>try cases hb)))<;>try refine At.mk ?_
 refine ZZ 1 (ZeV h.sh (X4m f) hT hm) X32 rfl rfl rfl rfl (Z7 _ _) ?_;rintro r b' - - ⟨rfl,rfl⟩;(repeat'(first|refine Z1 26 ?_|refine Z0 26 ?_|refine st ?_|(apply B<;>intro hb<;>try cases hb)))<;>try refine At.mk ?_
 refine ZZ 1 (ZeZ hrd) X32 rfl rfl rfl rfl (Z7 _ _) ?_;rintro r b' - - ⟨rfl,rfl⟩;(repeat'(first|refine Z1 38 ?_|refine Z0 38 ?_|refine st ?_|(apply B<;>intro hb<;>try cases hb)))<;>try refine At.mk ?_
 refine Zb Zdt rfl rfl rfl rfl (Z7 _ _) Yt ?_;rintro r b' - - ⟨rfl,rfl⟩;clear hT hm hat hrd;cases f with
 | mk op m rs xs =>
   (repeat'(first|refine Z1 47 ?_|refine Z0 47 ?_|refine st ?_|(apply B<;>intro hb<;>try cases hb)))<;>try refine At.mk ?_
   refine Qe (Z3i h hd (by omega)) ⟨Zp _,Yt⟩ ?_;(refine go ?_;repeat' (apply B<;>intro hb<;>try cases hb));exact Z4 rfl ⟨Zp _,Yt,Yt,Yt⟩ rfl
theorem Zcy (S:List Nat):Xu Tryz.prog 97 (PU S) tU fun q b'=>q=.val (.int .i64 0)/\b'=tU:=by
 refine Zi ok97 (Y0 rfl) fun C hC=>?_;refine Zn ?_;refine Z8 ?_;refine Z5 rfl rfl rfl ?_;(repeat'(first|refine Z1 47 ?_|refine Z0 47 ?_|refine st ?_|(apply B<;>intro hb<;>try cases hb)))<;>try refine At.mk ?_
 refine Qe Z5O ⟨Z2d,Yt⟩ ?_
 repeat' (first|(show aw _ _ (.draw _) _ _ _ _; refine Z4D [] 0 (by decide) ?_)|refine Z0 65 ?_|(first|refine st ?_|(apply B<;>intro hb<;>try cases hb)))
 refine At.mk ?_;refine ZiM (Z4u S) (X5n S) rfl rfl rfl rfl Z1u ?_;rintro q b' - - ⟨rfl,rfl⟩;refine Zjf Z9g rfl rfl rfl ⟨⟨Yt,Yt⟩,⟨Yt,Yt⟩,Yt⟩ ?_;(refine go ?_;repeat' (apply B<;>intro hb<;>try cases hb));refine Zh 3 ?_;unfold Xr;(repeat'(first|refine Z1 76 ?_|refine Z0 76 ?_|refine st ?_|(apply B<;>intro hb<;>try cases hb)))<;>try refine At.mk ?_
 refine ZZ 0 (Zay S) (X5n S) rfl rfl rfl rfl Z1u ?_;rintro q b' - - ⟨rfl,rfl⟩;(refine go ?_;repeat' (apply B<;>intro hb<;>try cases hb));unfold Xr;(repeat'(first|refine Z1 76 ?_|refine Z0 76 ?_|refine st ?_|(apply B<;>intro hb<;>try cases hb)))<;>try refine At.mk ?_
 refine ZZ 0 (Zcm S) (X5n S) rfl rfl rfl rfl Z1u ?_;rintro q b' - - ⟨rfl,rfl⟩;(refine go ?_;repeat' (apply B<;>intro hb<;>try cases hb));unfold Xr;(repeat'(first|refine Z1 76 ?_|refine Z0 76 ?_|refine st ?_|(apply B<;>intro hb<;>try cases hb)))<;>try refine At.mk ?_
 refine ZZ 0 (ZeP S) (X5n S) rfl rfl rfl rfl Z1u ?_;rintro q b' - - ⟨rfl,rfl⟩;(refine go ?_;repeat' (apply B<;>intro hb<;>try cases hb));exact Z12 rfl Yt rfl Z1u ⟨rfl,rfl⟩
theorem ZiT {h':X0} {i:Nat} {b:Bx} (hi:h' i=some b):∀ k x,Xs [(i,b)] k=some x->h' k=some x:=fun k x hk=>by
 have:=Z1s hk;simp only [Ye,Y1z,Y2Y,Y2s] at this;obtain⟨rfl,rfl⟩:=this;exact hi
theorem ZaB (S:List Nat):Xp Tryz.prog 88 17 [.agg (stU S 8)] (Xs [(8,tU)]) fun n' r h'=>n'=20/\r=.agg (stU S 8)/\h'=Xs [(8,tU)]:=by
 refine Xp.less (R:=fun n' r h'=>n'=20/\r=.agg (stU S 8)/\h' 8=some tU) ?_ fun n' r h' ⟨h1,h2,h3⟩=>⟨_,ZiT h3,h1,h2,rfl⟩
 refine ZX ok88 (Y0 rfl) fun C hC=>?_;(repeat'(first|refine Z1 10 ?_|refine Z0 10 ?_|refine st ?_|(apply B<;>intro hb<;>try cases hb)))<;>try refine At.mk ?_
 refine ZB (Z4E (a:=0) (b:=0) rfl rfl (Y0m _) (by decide)) rfl rfl ?_;(repeat'(first|refine Z1 14 ?_|refine Z0 14 ?_|refine st ?_|(apply B<;>intro hb<;>try cases hb)))<;>try refine At.mk ?_
 refine Qo (ZfG rfl rfl rfl (fun c hc=>by cases hc) rfl) ?_;(repeat'(first|refine Z1 15 ?_|refine Z0 15 ?_|refine st ?_|(apply B<;>intro hb<;>try cases hb)))<;>try refine At.mk ?_
 refine Zm (Zo (k:=3) (b:=⟨7,[]⟩) rfl rfl Yt) ?_;(refine go ?_;repeat' (apply B<;>intro hb<;>try cases hb));refine Zh 0 ?_;(refine go ?_;repeat' (apply B<;>intro hb<;>try cases hb));exact⟨_,_,rfl,.inl rfl,rfl,rfl,rfl⟩
noncomputable def stR (S:List Nat):Nat->PV:=fun k=>.tup [.cp (stU S k),.val (.int .i64 0)]
theorem Zk8 {mk:Nat->PV} (hm:Mk mk) {a:PV} (ha:a.pure):Mk fun i=>.tup [mk i,a]:=fun F φ φ' v i n hn hv=>by
 obtain⟨vs,rfl,h1,h2⟩:=hv.tup_inv;refine .tup vs _ h1 fun j hj=>?_
 match j,hj with
 | 0,_=>exact hm F φ φ' _ i n hn (h2 0 (by show 0<2; decide))
 | 1,_=>exact (h2 1 (by show 1<2; decide)).pure ha
theorem X6N (S:List Nat):Mk (stR S):=Zk8 (Zji (X5j S)) (a:=.val (.int .i64 0)) Yt
theorem Zf1:X0.upd (Xs [(8,tU)]) 8 tU=Xs [(8,tU)]:=by
 funext i;cases hb:Nat.beq i 8<;>simp [X0.upd,Xs,hb]
theorem Zhh (S:List Nat):Xp Tryz.prog 52 17 [.agg (stU S 8)] (Xs [(8,tU)]) fun n' r h'=>n'=20/\r=stR S 8/\h'=Xs [(8,tU)]:=by
 refine ZX ok52 (Y0 rfl) fun C hC=>?_;refine Zn ?_;refine Z8 ?_;refine Z5 rfl rfl rfl ?_;(repeat'(first|refine Z1 6 ?_|refine Z0 6 ?_|refine st ?_|(apply B<;>intro hb<;>try cases hb)))<;>try refine At.mk ?_
 refine ZZ 8 (Zcy S) (X5n S) rfl rfl rfl rfl Z1u ?_;rintro q b' - - ⟨rfl,rfl⟩;(repeat'(first|refine Z1 11 ?_|refine Z0 11 ?_|refine st ?_|(apply B<;>intro hb<;>try cases hb)))<;>try refine At.mk ?_
 rw [Zf1];refine ZH rfl rfl (ZaB S) ?_;rintro n' r h' ⟨rfl,rfl,rfl⟩;(repeat'(first|refine Z1 13 ?_|refine Z0 13 ?_|refine st ?_|(apply B<;>intro hb<;>try cases hb)))<;>try refine At.mk ?_
 refine Z5 rfl rfl rfl ?_;(refine go ?_;repeat' (apply B<;>intro hb<;>try cases hb));exact⟨_,_,rfl,.inl rfl,rfl,rfl,rfl⟩
theorem ZkM:X35 (fun x=>uS.toList == x.toList) kwL = -1:=by kernel_rfl
theorem ZaC:X7 Tryz.prog 176 [.val (.string uS)] (· = .val (.bool true)):=by
 have hkw:=Z2S kwL uS true;rw [ZkM] at hkw;refine Yp ok176 fun C hC=>?_;(repeat'(first|refine Z1 15 ?_|refine Z0 15 ?_|refine st ?_|(apply B<;>intro hb<;>try cases hb)))<;>try refine At.mk ?_
 refine Zj rfl ?_;refine Qe Z93 Yt ?_;(repeat'(first|refine Z1 17 ?_|refine Z0 17 ?_|refine st ?_|(apply B<;>intro hb<;>try cases hb)))<;>try refine At.mk ?_
 refine Zj rfl ?_;refine Qe hkw ⟨Zy kwL,Yt,Yt⟩ ?_;(repeat'(first|refine Z1 19 ?_|refine Z0 19 ?_|refine st ?_|(apply B<;>intro hb<;>try cases hb)))<;>try refine At.mk ?_
 refine Zm (Z1t (k:=3) (l := [.fn 258 []]) rfl rfl ⟨Yt,Yt⟩) ?_;(refine go ?_;repeat' (apply B<;>intro hb<;>try cases hb));refine Zh 1 ?_;unfold Xr;(repeat'(first|refine Z1 29 ?_|refine Z0 29 ?_|refine st ?_|(apply B<;>intro hb<;>try cases hb)))<;>try refine At.mk ?_
 refine Qd (Z5u 117 (.inl (by decide))) ⟨Yt,Z6V,Yt⟩ ?_;(repeat'(first|refine Z1 39 ?_|refine Z0 39 ?_|refine st ?_|(apply B<;>intro hb<;>try cases hb)))<;>try refine At.mk ?_
 refine Z27 rfl ?_;refine Qd (Z4s 117) ⟨Yt,Yt⟩ ?_;(refine go ?_;repeat' (apply B<;>intro hb<;>try cases hb));exact Z4 rfl Yt rfl
theorem ZiU (s:ByteArray) (hs:X7 Tryz.prog 176 [.val (.string s)] (· = .val (.bool true))) :
 X1a Tryz.prog 106 [X58,.val (.string s),.val (.int .i64 256)] (fun k=>.tup [X31 [s] k,.val (.int .i64 1),.val (.int .i64 0)]) (X22 [s]):=by
 refine ZY ok106 (Y0 rfl) fun C hC=>?_;(repeat'(first|refine Z1 15 ?_|refine Z0 15 ?_|refine st ?_|(apply B<;>intro hb<;>try cases hb)))<;>try refine At.mk ?_
 refine Qe hs ⟨Yt,Yt⟩ ?_;(repeat'(first|refine Z1 23 ?_|refine Z0 23 ?_|refine st ?_|(apply B<;>intro hb<;>try cases hb)))<;>try refine At.mk ?_
 refine Z5 (Zas rfl rfl (X5q s)) rfl rfl ?_
 repeat' (first|refine Z18 [7] ?_|refine Z0 45 ?_|(first|refine st ?_|(apply B<;>intro hb<;>try cases hb)))
 refine At.mk ?_;refine Z5X (Z5v [] true (by decide)) Z47 Yt rfl rfl rfl ⟨Yt,Yt⟩ ?_;(repeat'(first|refine Z1 48 ?_|refine Z0 48 ?_|refine st ?_|(apply B<;>intro hb<;>try cases hb)))<;>try refine At.mk ?_
 refine Zbf (k:=4) (m := [XZ s]) (fl:=true) (b:=⟨1,[]⟩) rfl rfl rfl (fun c hc=>by rw [Y0g] at hc; subst hc; rfl) rfl (by show (0+1)*16<=_;omega) (by exact Zy [s]) rfl rfl ?_;(repeat'(first|refine Z1 53 ?_|refine Z0 53 ?_|refine st ?_|(apply B<;>intro hb<;>try cases hb)))<;>try refine At.mk ?_
 refine Qd Z57 ⟨Yt,Yt⟩ ?_
 repeat' (first|refine Z18 [] ?_|refine Z0 74 ?_|(first|refine st ?_|(apply B<;>intro hb<;>try cases hb)))
 refine At.mk ?_
 iterate 1 (first|refine st ?_|(apply B<;>intro hb<;>try cases hb))
 refine Qr (Z95 (i:=16) (rows := []) rfl rfl rfl rfl (X5q s) rfl) ?_;refine Z6k ?_;show aw _ _ _ _ _ _ _;refine Z1p (Z2x (k:=9) rfl rfl _) ?_;(refine go ?_;repeat' (apply B<;>intro hb<;>try cases hb));exact⟨_,_,rfl,.inl rfl,_,rfl,rfl⟩
def chU:List PV := [.val (.int .u8 1),.val (.int .i64 0),.val (.int .i64 0),.val (.int .i64 0),.val (.int .i64 0),.val (.int .i64 0),.val (.int .i64 0),.val (.string uS),.val (.string ⟨#[]⟩),.val (.string ⟨#[]⟩),.val (.string ⟨#[]⟩),.val (.bool false)]
theorem Zf2 (S:List Nat):Xp Tryz.prog 89 1 [.ptr 0 0 0,.agg chU] (Xs [(0,⟨10,[stE S]⟩)]) fun n' r h'=>n'=17/\r=.val (.int .i64 0)/\h'=Xs [(0,⟨10,[stU S 8]⟩),(8,tU)]:=by
 refine Xp.less (R:=fun n' r h'=>n'=17/\r=.val (.int .i64 0)/\h' 0=some ⟨10,[stU S 8]⟩/\h' 8=some tU) ?_ fun n' r h' ⟨h1,h2,h3,h4⟩=>⟨_,Z94 h3 h4,h1,h2,rfl⟩
 refine ZX ok89 (Y0 rfl) fun C hC=>?_;refine Zn ?_;refine Z8 ?_;refine Z5 rfl rfl rfl ?_
 repeat' (first|refine Z18 [] ?_|refine Z0 17 ?_|(first|refine st ?_|(apply B<;>intro hb<;>try cases hb)))
 refine At.mk ?_;refine Z5X (ZiU uS ZaC) (Zhg (Z33 _) (a:=.val (.int .i64 1)) (b:=.val (.int .i64 0)) Yt Yt) (Zt _) rfl rfl rfl ⟨Z2d,Yt,Yt,Yt⟩ ?_;(refine go ?_;repeat' (apply B<;>intro hb<;>try cases hb));exact⟨_,_,rfl,.inl rfl,rfl,rfl,rfl,rfl⟩
theorem Z9k (S:List Nat):Xp Tryz.prog 51 1 [X5k S,.ptr 0 0 0,.agg chU] (Xs [(0,⟨10,[stE S]⟩)]) fun n' r h'=>n'=17/\r=.val (.int .i64 0)/\h'=Xs [(0,⟨10,[stU S 8]⟩),(8,tU)]:=by
 refine ZX ok51 (Y0 rfl) fun C hC=>?_;refine Zn ?_;refine Z8 ?_;refine Z5 rfl rfl rfl ?_;(repeat'(first|refine Z1 15 ?_|refine Z0 15 ?_|refine st ?_|(apply B<;>intro hb<;>try cases hb)))<;>try refine At.mk ?_
 refine ZH rfl rfl (Zf2 S) ?_;rintro n' r h' ⟨rfl,rfl,rfl⟩;(refine go ?_;repeat' (apply B<;>intro hb<;>try cases hb));exact⟨_,_,rfl,.inl rfl,rfl,rfl,rfl⟩
theorem Zf3:X7 Tryz.prog 135 [.val (.int .u8 1)] (· = .agg [.val (.bool false),.val (.bool false),.val (.bool false),.val (.bool false),.val (.bool false),.val (.bool false),.val (.bool true),.val (.bool false),.val (.bool false)]):=by
 refine Yp ok135 fun C hC=>?_;(refine go ?_;repeat' (apply B<;>intro hb<;>try cases hb));exact Z4 rfl (Z1x rfl) rfl
def chZ:List PV := [.val (.int .u8 0),.val (.int .i64 0),.val (.int .i64 0),.val (.int .i64 0),.val (.int .i64 0),.val (.int .i64 0),.val (.int .i64 0),.val (.string ⟨#[]⟩),.val (.string ⟨#[]⟩),.val (.string ⟨#[]⟩),.val (.string ⟨#[]⟩),.val (.bool false)]
def usU:List PV := [.val (.bool false),.val (.bool false),.val (.bool false),.val (.bool false),.val (.bool false),.val (.bool false),.val (.bool true),.val (.bool false),.val (.bool false)]
def HU:List (Nat×Bx) := [(0,⟨12,[chU]⟩),(1,⟨12,[chZ]⟩),(2,⟨9,[usU]⟩)]
theorem ZiV {h':X0} {L:List (Nat×Bx)} (hL:∀ x∈L,h' x.1=some x.2):∀ k x,Xs L k=some x->h' k=some x:=fun k x hk=>hL _ (Z1s hk)
theorem Z7l:Xp Tryz.prog 136 3 [.ptr 0 0 0] (Xs HU) fun n' r h'=>n'=24/\r=.agg [.ptr 0 0 1,.ptr 0 0 2,.ptr 0 0 3,.ptr 0 0 4,.ptr 0 0 5,.ptr 0 0 6]/\h'=Xs HU:=by
 refine Xp.less (R:=fun n' r h'=>n'=24/\r=.agg [.ptr 0 0 1,.ptr 0 0 2,.ptr 0 0 3,.ptr 0 0 4,.ptr 0 0 5,.ptr 0 0 6]/\h' 0=some ⟨12,[chU]⟩/\h' 1=some ⟨12,[chZ]⟩/\h' 2=some ⟨9,[usU]⟩) ?_ fun n' r h' ⟨h1,h2,h3,h4,h5⟩=>⟨_,ZiV (L:=HU) (fun x hx=>by
  simp only [HU,Ye,Y1z,Y2Y] at hx;rcases hx with rfl|rfl|rfl
  . exact h3
  . exact h4
  . exact h5),h1,h2,rfl⟩
 refine ZX ok136 (Y0 rfl) fun C hC=>?_;(refine go ?_;repeat' (apply B<;>intro hb<;>try cases hb));exact⟨_,_,rfl,.inl rfl,rfl,rfl,rfl,rfl,rfl⟩
theorem Zf4:X7 Tryz.prog 87 [.agg chU] (· = .agg chU):=by
 refine Yp ok87 fun C hC=>?_
 iterate 5 (first|refine st ?_|(apply B<;>intro hb<;>try cases hb))
 show aw _ _ _ _ _ _ _;refine Z2g hC True 3 [(1,.ptr 0 0 0),(2,.ptr 1 0 0),(3,.ptr 2 0 0)] HU (Y0l _) ?_ fun _=>?_
 . (repeat'(first|refine Z1 8 ?_|refine Z0 8 ?_|refine st ?_|(apply B<;>intro hb<;>try cases hb)))<;>try refine At.mk ?_
   refine Qe Zf3 ⟨Yt,Yt⟩ ?_;(refine go ?_;repeat' (apply B<;>intro hb<;>try cases hb));exact⟨Yt,⟨⟨rfl,show (0:Nat)<3 by decide⟩,⟨rfl,show (1:Nat)<3 by decide⟩,⟨rfl,show (2:Nat)<3 by decide⟩,Yt⟩,⟨by decide,rfl,⟨Yt,Yt,Yt,Yt,Yt,Yt,Yt,Yt,Yt,Yt,Yt,Yt,Yt⟩,Yt⟩,⟨by decide,rfl,⟨Yt,Yt,Yt,Yt,Yt,Yt,Yt,Yt,Yt,Yt,Yt,Yt,Yt⟩,Yt⟩,⟨by decide,rfl,⟨Yt,Yt,Yt,Yt,Yt,Yt,Yt,Yt,Yt,Yt⟩,Yt⟩,Yt⟩
 . (repeat'(first|refine Z1 9 ?_|refine Z0 9 ?_|refine st ?_|(apply B<;>intro hb<;>try cases hb)))<;>try refine At.mk ?_
   refine ZH rfl rfl Z7l ?_;rintro n' r h' ⟨rfl,rfl,rfl⟩;(refine go ?_;repeat' (apply B<;>intro hb<;>try cases hb));refine Zh 6 ?_;(refine go ?_;repeat' (apply B<;>intro hb<;>try cases hb));exact Z4 rfl (Z1x rfl) rfl
theorem ZaD:X7 Tryz.prog 49 [.agg chU] (· = .val (.int .i64 0)):=by
 refine Yp ok49 fun C hC=>?_;refine Zn ?_;refine Z8 ?_;refine Z5 rfl rfl rfl ?_
 repeat' (first|refine Z18 [] ?_|refine Z0 15 ?_|(first|refine st ?_|(apply B<;>intro hb<;>try cases hb)))
 refine At.mk ?_;refine Qd Zf4 ⟨Z1x rfl,Yt⟩ ?_;(refine go ?_;repeat' (apply B<;>intro hb<;>try cases hb));refine Zh 6 ?_;(refine go ?_;repeat' (apply B<;>intro hb<;>try cases hb));exact Z4 rfl Yt rfl
theorem ZaE:X7 Tryz.prog 53 [.val (.int .u8 1)] (· = .val (.bool false)):=by
 refine Yp ok53 fun C hC=>?_;(refine go ?_;repeat' (apply B<;>intro hb<;>try cases hb));exact Z4 rfl Yt rfl
theorem Zk9 (S:List Nat) (k:Nat) {D:Nat->Prop} (h:D k):X26 D (stU S k):=⟨Yt,⟨Zc (fun _ h=>h.elim) _ (Zy [uS]),h,Yt⟩,Z2d.inn _,Yt,(Z2r [] S).inn _,Z16.inn _,Z16.inn _,Yt,Yt,Z16.inn _,Yt⟩
theorem Zf5 (S:List Nat):X1a Tryz.prog 21 [X5k S,.agg chU] (stR S) tU:=by
 refine ZY ok21 (Y0 rfl) fun C hC=>?_;refine Zn ?_;refine Z8 ?_;refine Z5 rfl rfl rfl ?_;(repeat'(first|refine Z1 13 ?_|refine Z0 13 ?_|refine st ?_|(apply B<;>intro hb<;>try cases hb)))<;>try refine At.mk ?_
 refine Qe ZaD ⟨Z1x rfl,Yt⟩ ?_;(repeat'(first|refine Z1 18 ?_|refine Z0 18 ?_|refine st ?_|(apply B<;>intro hb<;>try cases hb)))<;>try refine At.mk ?_
 refine Qe (Zch S) ⟨Z3I S,Yt⟩ ?_
 iterate 3 (first|refine st ?_|(apply B<;>intro hb<;>try cases hb))
 show aw _ _ _ _ _ _ _;refine Z5i (m:=0) hC [(0,X5k S),(3,.cp chU),(7,.ptr 0 0 0)] [(0,⟨10,[stE S]⟩)] (n':=1) (by decide) ⟨⟨rfl,(Z3I S).inn _⟩,⟨rfl,PV.pure.inn (p:=.cp chU) (Z1x rfl) _⟩,⟨rfl,show (0:Nat)<1 by decide⟩,Yt⟩ ⟨⟨by decide,rfl,⟨ZC (fun _ h=>h.elim) _ (Z58 S),Yt⟩⟩,Yt⟩ ?_;(repeat'(first|refine Z1 21 ?_|refine Z0 21 ?_|refine st ?_|(apply B<;>intro hb<;>try cases hb)))<;>try refine At.mk ?_
 refine ZH rfl rfl (Z9k S) ?_;rintro n' r h' ⟨rfl,rfl,rfl⟩
 iterate 2 (first|refine st ?_|(apply B<;>intro hb<;>try cases hb))
 show aw _ _ _ _ _ _ _;refine Z1p (Z2x (k:=7) (esz:=10) (l:=stU S 8) rfl rfl _) ?_;refine Z5i (m:=0) hC [(0,X5k S),(3,.cp chU),(7,.cp (stU S 8)),(8,.val (.int .i64 0))] [(8,tU)] (n':=17) (by decide) ⟨⟨rfl,(Z3I S).inn _⟩,⟨rfl,PV.pure.inn (p:=.cp chU) (Z1x rfl) _⟩,⟨rfl,Zk9 S 8 (by decide)⟩,⟨rfl,Yt⟩,Yt⟩ ⟨⟨by decide,rfl,Zc (fun _ h=>h.elim) _ Z1u⟩,Yt⟩ ?_;(repeat'(first|refine Z1 27 ?_|refine Z0 27 ?_|refine st ?_|(apply B<;>intro hb<;>try cases hb)))<;>try refine At.mk ?_
 refine ZH rfl rfl (Zhh S) ?_;rintro n' r h' ⟨rfl,rfl,rfl⟩;(repeat'(first|refine Z1 35 ?_|refine Z0 35 ?_|refine st ?_|(apply B<;>intro hb<;>try cases hb)))<;>try refine At.mk ?_
 refine Qd ZaE ⟨Yt,Yt⟩ ?_;(refine go ?_;repeat' (apply B<;>intro hb<;>try cases hb));exact⟨_,_,rfl,.inl rfl,8,rfl,rfl⟩
theorem ZkN (l:List Int) (N:Nat) (h:XS (XR l) l=N) (fl:Bool):X7 Tryz.prog 24 [.vec (Xc l) fl] (· = XH N):=h▸Zbm l fl
noncomputable def PS (S:List Nat):Nat->List PV:=fun k => [.cp (stU S k)]
theorem X7V (S:List Nat):MkL (PS S):=Zw (Zji (X5j S)) Z1S
def PTU:Nat->List PV:=fun k => [X31 [uS] k]
theorem X6r:MkL PTU:=Zw (Z33 _) Z1S
theorem Zf6:Xu Tryz.prog 62 PTU tU fun q b'=>q=.val (.int .i64 1)/\b'=tU:=by
 refine Zi ok62 (Y0 rfl) fun C hC=>?_;(refine go ?_;repeat' (apply B<;>intro hb<;>try cases hb));exact Z12 rfl Yt rfl Z1u ⟨rfl,rfl⟩
theorem Zcz (S:List Nat):Xu Tryz.prog 25 (PS S) tU fun q b'=>q=.val (.int .i64 1)/\b'=tU:=by
 refine Zi ok25 (Y0 rfl) fun C hC=>?_;(repeat'(first|refine Z1 10 ?_|refine Z0 10 ?_|refine st ?_|(apply B<;>intro hb<;>try cases hb)))<;>try refine At.mk ?_
 refine ZZ 0 Zf6 X6r rfl rfl rfl rfl Z1u ?_;rintro q b' - - ⟨rfl,rfl⟩;(refine go ?_;repeat' (apply B<;>intro hb<;>try cases hb));exact Z12 rfl Yt rfl Z1u ⟨rfl,rfl⟩
def roF:Fm:=.mk 4 0 [2] []
theorem ZiW:XA roF=0:=by decide +kernel
theorem Zka:X11 roF = [(0,4)]:=by decide +kernel
theorem Z9l:X7 Tryz.prog 4 [] (· = .val (.bool true)):=by
 refine Yp ok4 fun C hC=>?_;(repeat'(first|refine Z1 8 ?_|refine Z0 8 ?_|refine st ?_|(apply B<;>intro hb<;>try cases hb)))<;>try refine At.mk ?_
 refine Z7x (Z1R roF (by decide +kernel) (by decide +kernel)) rfl rfl (by rfl) ⟨Zl _ _,Yt⟩ rfl ?_;rw [Zka,ZiW];(repeat'(first|refine Z1 12 ?_|refine Z0 12 ?_|refine st ?_|(apply B<;>intro hb<;>try cases hb)))<;>try refine At.mk ?_
 refine Z13 rfl rfl Z9e Yt rfl ?_;rintro r ⟨S,rfl⟩;(repeat'(first|refine Z1 14 ?_|refine Z0 14 ?_|refine st ?_|(apply B<;>intro hb<;>try cases hb)))<;>try refine At.mk ?_
 refine Z2m (Zf5 S) (X6N S) Z1u rfl rfl ⟨Z3I S,Z1x rfl,Yt⟩ ?_
 repeat' (first|(show aw _ _ (.draw _) _ _ _ _; refine Z4D [] 0 (by decide) ?_)|refine Z0 30 ?_|(first|refine st ?_|(apply B<;>intro hb<;>try cases hb)))
 refine At.mk ?_;refine Z27 rfl ?_;refine Qd (ZkN [2] 4 (by decide +kernel) true) ⟨Zf _,Yt⟩ ?_;(repeat'(first|refine Z1 31 ?_|refine Z0 31 ?_|refine st ?_|(apply B<;>intro hb<;>try cases hb)))<;>try refine At.mk ?_
 refine Z27 rfl ?_;refine Qd (Z4f 4 4 (by decide) (by decide)) ⟨Z9 _,Z9 _,Yt⟩ ?_;rw [YF (show (4:Nat)=4 from rfl)];(repeat'(first|refine Z1 39 ?_|refine Z0 39 ?_|refine st ?_|(apply B<;>intro hb<;>try cases hb)))<;>try refine At.mk ?_
 refine Z27 rfl ?_;refine ZiM (Zcz S) (X7V S) rfl rfl rfl rfl Z1u ?_;rintro q b' - - ⟨rfl,rfl⟩;(refine go ?_;repeat' (apply B<;>intro hb<;>try cases hb));exact Z4 rfl Yt rfl
def eqD:Nat->Fm->Fm->Bool
 | 0,_,_=>false
 | d+1,f,g=>decide (f.op=g.op)&&(decide (f.n=g.n)&&(decide (f.roles=g.roles)&&X29 (eqD d) f.args g.args))
theorem ZaF {α:Type} {p:α->α->Bool}:∀ {xs:List α},(∀ x∈xs,p x x=true)->X29 p xs xs=true
 | [],_=>rfl
 | x :: xs, h => by
   rw [X29,h x (Y0t ..),ZaF fun y hy=>h y (YC _ hy)]; rfl
theorem Zdy:∀ (d:Nat) (f:Fm),f.depth<=d->eqD d f f=true
 | 0,f,h=>by rw [Fm.depth_eq] at h; omega
 | d + 1, f, h => by
   have h2:=f.depth_eq
   rw [eqD,YF rfl,YF rfl,YF rfl,ZaF fun a ha=>by
    obtain⟨i,hil,rfl⟩:=YE ha;have h1:=ZG hil
    exact Zdy d _ (by omega)]
   rfl
theorem ZaG:∀ (d:Nat) (f g:Fm),f.depth<=d->X7 Tryz.prog 10 [.agg (fC .u8 f),.agg (fC .u8 g)] (· = .val (.bool (eqD d f g))):=by
 intro d
 induction d with
 | zero=>intro f g hf; rw [Fm.depth_eq] at hf; omega
 | succ d ih =>
   intro f g hf;have h2:=f.depth_eq;have hargs:=Z6Z f.args g.args (Xi .u8) (Xi .u8) false false 10 [] (eqD d) (Zz .u8) (Zz .u8) (Z39 .u8) (Z39 .u8) Yt fun x hx y hy=>by
    rw [ZI,ZI];obtain⟨i,hil,rfl⟩:=YE hx;have h1:=ZG hil;exact ih _ y (by omega)
   refine Yp ok10 fun C hC=>?_;refine Zn ?_;refine Z8 ?_;refine Z5 rfl rfl rfl ?_;refine Z5 rfl rfl rfl ?_;(repeat'(first|refine Z1 9 ?_|refine Z0 9 ?_|refine st ?_|(apply B<;>intro hb<;>try cases hb)))<;>try refine At.mk ?_
   by_cases h1:f.op=g.op
   . refine Qo (Za (v := true) rfl (by rw [Y1s]; exact h1)) ?_;(repeat'(first|refine Z1 15 ?_|refine Z0 15 ?_|refine st ?_|(apply B<;>intro hb<;>try cases hb)))<;>try refine At.mk ?_
     refine Zj rfl ?_;by_cases h3:f.n=g.n
     . refine Qo (Za (v := true) rfl (by rw [Y1s]; exact h3)) ?_;(repeat'(first|refine Z1 22 ?_|refine Z0 22 ?_|refine st ?_|(apply B<;>intro hb<;>try cases hb)))<;>try refine At.mk ?_
       refine Zj rfl ?_;refine Qe (Z7h f.roles g.roles false false) ⟨Zf _,Zf _,Yt⟩ ?_;by_cases h4:f.roles=g.roles
       . rw [YF h4];(repeat'(first|refine Z1 29 ?_|refine Z0 29 ?_|refine st ?_|(apply B<;>intro hb<;>try cases hb)))<;>try refine At.mk ?_
         refine Zj rfl ?_;refine Qe hargs ⟨Z1j _ _,Z1j _ _,Yt,Yt⟩ ?_;have he:eqD (d+1) f g=X29 (eqD d) f.args g.args:=by rw [eqD,YF h1,YF h3,YF h4]; rfl
         rw [he];generalize X29 (eqD d) f.args g.args=b;cases b
         all_goals
          (refine go ?_;repeat' (apply B<;>intro hb<;>try cases hb));exact Z4 rfl Yt rfl
       . rw [Y0w h4];have he:eqD (d+1) f g=false:=by rw [eqD,Y0w h4]; simp
         rw [he];(refine go ?_;repeat' (apply B<;>intro hb<;>try cases hb));exact Z4 rfl Yt rfl
     . refine Qo (Za (v := false) rfl (by rw [Y1B]; exact h3)) ?_;have he:eqD (d+1) f g=false:=by rw [eqD,Y0w h3]; simp
       rw [he];(refine go ?_;repeat' (apply B<;>intro hb<;>try cases hb));exact Z4 rfl Yt rfl
   . refine Qo (Za (v := false) rfl (by rw [Y1B]; exact h1)) ?_;have he:eqD (d+1) f g=false:=by rw [eqD,Y0w h1]; simp
     rw [he];(refine go ?_;repeat' (apply B<;>intro hb<;>try cases hb));exact Z4 rfl Yt rfl
def seC (s:Nat):List PV := [.vec (X8 (Xt s)) false]
theorem Z5b (s:Nat):Xe (seC s):=⟨ZA _,Yt⟩
theorem Zf7 (c:Cu) (s:Nat) (hc:X4j c) (hs:s<18446744073709551616):X7 Tryz.prog 14 [cuP c,.cp (seC s)] (· = .val (.bool (hoC c s))):=by
 refine Yp ok14 fun C hC=>?_;refine Zn ?_;refine Z8 ?_;refine Z5 rfl rfl rfl ?_;(repeat'(first|refine Z1 6 ?_|refine Z0 6 ?_|refine st ?_|(apply B<;>intro hb<;>try cases hb)))<;>try refine At.mk ?_
 refine Qe (ZbO c s hc hs) ⟨Zim c,Z9 _,Yt⟩ ?_;cases hoC c s
 all_goals
  (refine go ?_;repeat' (apply B<;>intro hb<;>try cases hb));exact Z4 rfl Yt rfl
theorem X7X:∀ n:Nat,n<64->∀ j:Nat,j<6->bits .and .i64 (Int.fdiv (n:Int) (2 ^ (min (j:Int).toNat IntKind.i64.bits))) 1=if n.testBit j then 1 else 0:=by decide +kernel
theorem X7z:∀ n:Nat,n<64->∀ r:Nat,r<7->1<=r->2*n % 2 ^ (r+1)=if n.testBit (r-1) then (2*n % 2 ^ r) ||| 2 ^ r else 2*n % 2 ^ r:=by decide +kernel
theorem Z2M {D:Nat->Prop} (h:D 0):(X31 n6 0).inn D:=⟨Zc (fun _ h=>h.elim) _ (Zy n6),h,Yt⟩
inductive Nm:Nat->Fm->Prop
 | mk {d:Nat} {f:Fm} (hr:∀ r∈f.roles,1<=r/\r<=6) (hrl:f.roles.length<=8) (hal:f.args.length<=2) (ha:∀ a∈f.args,Nm d a):Nm (d+1) f
theorem Zf8:∀ (d:Nat) (f:Fm),Nm d f->Xu Tryz.prog 65 (fun k => [.agg (fC .u8 f),X31 n6 k]) (X22 n6) fun q b'=>q=.tup [.agg (eC f),.val (.bool true)]/\b'=X22 n6:=by
 intro d
 induction d with
 | zero=>intro f hf; cases hf
 | succ d ih =>
   rintro f ⟨hr,hrl,hal,ha⟩;have hm:∀ g:Fm,MkL (fun k => [.agg (fC .u8 g),X31 n6 k]):=fun g=>Zw (Z1C (Zl .u8 g)) (Zw (Z33 _) Z1S);have hll:(f.args.map (Xi .u8)).length=f.args.length:=by simp
   have hnl:=Z19 f.roles;refine Zi ok65 (Y0 rfl) fun C hC=>?_;refine Zn ?_;refine Z8 ?_;refine Z5 rfl rfl rfl ?_;(refine go ?_;repeat' (apply B<;>intro hb<;>try cases hb));refine Z1p (Z1w (id:=2) (b:=⟨4,[[.val (.int .u8 f.op),.val (.int .i64 f.n),.vec [] true,.vec [] true]]⟩) (i0:=0) (j0:=2) rfl (show 0<1 by decide) (show 2<4 by decide) rfl 1 (by decide) (show 2<3 by decide) (Y0 rfl) _) ?_;refine Z1n hC (fun i=>i<=f.roles.length) (fun i=>f.roles.length-i) 4 (fun i => [(1,X31 n6 0),(2,.cp (fC .u8 f)),(4,.ptr 1 0 0),(6,.ptr 2 0 0),(21,.vec (Xc f.roles) false),(22,.val (.int .i64 f.roles.length)),(23,Yv i)])
    (fun i => [(0,X22 n6),(1,⟨4,[eZ]⟩),(2,⟨4,[[.val (.int .u8 f.op),.val (.int .i64 f.n),.own 3,.vec [] true]]⟩),(3,⟨1,X1B (f.roles.take i)⟩)]) (by omega) 0 (by omega) (fun i=>i) (fun i hi=>rfl) Z1a
    ⟨⟨_,rfl,.same _ (Z2M ⟨show 0<4 by decide,rfl⟩)⟩,Qp (Zl _ _),Qt 1 0 0,Qt 2 0 0,Qp (Zf _),⟨_,by rw [<- hnl]; rfl,.pure _ Yt⟩,Qp Yt,Yt⟩
    ⟨Qs (Zt _),Qs ⟨Z2e,Yt⟩,⟨by decide,_,rfl,X1w.single ⟨.pure _ Yt,.pure _ Yt,.own 3 (by decide),.pure _ Yt,Yt⟩ rfl⟩,Qs Yt,Yt⟩ ?_
   intro i hi;have hinc:IntKind.i64.wrap ((i:Int)+1)=((i+1:Nat):Int):=Y0v _ ⟨by omega,by omega⟩
   iterate 2 (first|refine st ?_|(apply B<;>intro hb<;>try cases hb))
   refine Zx rfl rfl rfl (fun hb=>?_) (fun hb=>?_)
   . have hil : i < f.roles.length := by simpa using hb
     (repeat'(first|refine Z1 25 ?_|refine Z0 25 ?_|refine st ?_|(apply B<;>intro hb<;>try cases hb)))<;>try refine At.mk ?_
     refine Qo (Zk (xs:=f.roles) (g:=fun x => [.val (.int .i64 x)]) rfl rfl i rfl hil rfl) ?_;(repeat'(first|refine Z1 30 ?_|refine Z0 30 ?_|refine st ?_|(apply B<;>intro hb<;>try cases hb)))<;>try refine At.mk ?_
     refine ZZ 0 (ZeJ (hr _ (Y0j hil))) (X61 Yt) rfl rfl rfl rfl (Zt _) ?_;rintro q b' - - ⟨rfl,rfl⟩;(repeat'(first|refine Z1 40 ?_|refine Z0 40 ?_|refine st ?_|(apply B<;>intro hb<;>try cases hb)))<;>try refine At.mk ?_
     have happ:=Zax hil
     refine ZB (Z11 (k:=3) (m := [[.val (.string (rnB f.roles[i]))]]) (fl:=true) (b:=⟨1,X1B (f.roles.take i)⟩) rfl rfl rfl (fun c hc=>by rw [Y0g.1 hc]; rfl) rfl (by
      show ((X1B (f.roles.take i)).length+1)*16<=_
      rw [Z56,Y0o];omega)) rfl rfl ?_
     simp only;rw [happ];(refine go ?_;repeat' (apply B<;>intro hb<;>try cases hb))
     exact⟨i+1,mv 3 4,by omega,by omega,Z3y (by decide),Z1e rfl,
      ⟨⟨_,rfl,.same _ (Z2M ⟨show 0<4 by decide,rfl⟩)⟩,Qp (Zl _ _),Qt 1 0 0,Qt 2 0 0,Qp (Zf _),Qp Yt,⟨_,by show some _=some _; rw [hinc],.pure _ Yt⟩,Yt⟩,
      ⟨Qs (Zt _),Qs ⟨Z2e,Yt⟩,⟨by decide,_,rfl,X1w.single ⟨.pure _ Yt,.pure _ Yt,.own (ρ:=mv 3 4) 3 (by decide),.pure _ Yt,Yt⟩ rfl⟩,Qs (Zs _),Yt⟩⟩
   . have hil : i = f.roles.length := by simp at hb; omega
     subst hil;rw [Y0q];refine Z1h ?_;show aw _ _ _ _ _ _ _;refine Z1p (Z1y (ob:=2) (id:=3) (i0:=0) (j0:=2) (bo:=⟨4,[[.val (.int .u8 f.op),.val (.int .i64 f.n),.own 3,.vec [] true]]⟩) (b:=⟨1,X1B f.roles⟩) rfl rfl (by decide) (Zs _) (Y0 rfl) (Y0 rfl) rfl (Y0 rfl) _) ?_;(refine go ?_;repeat' (apply B<;>intro hb<;>try cases hb));refine Z1p (Z1w (id:=2) (b:=⟨4,[[.val (.int .u8 f.op),.val (.int .i64 f.n),.vec (X1B f.roles) false,.vec [] true]]⟩) (i0:=0) (j0:=3) rfl (show 0<1 by decide) (show 3<4 by decide) rfl 4 (by decide) (show 2<4 by decide) (Y0 rfl) _) ?_;refine Z1n hC (fun i=>i<=f.args.length) (fun i=>f.args.length-i) 4 (fun i => [(1,X31 n6 0),(4,.ptr 1 0 0),(6,.ptr 2 0 0),(44,.vec (f.args.map (Xi .u8)) false),(45,.val (.int .i64 f.args.length)),(46,Yv i)])
      (fun i => [(0,X22 n6),(1,⟨4,[eZ]⟩),(2,⟨4,[[.val (.int .u8 f.op),.val (.int .i64 f.n),.vec (X1B f.roles) false,.own 3]]⟩),(3,⟨4,(f.args.take i).map Xg⟩)]) (by omega) 0 (by omega) (mv 3 4) (Z3y (by decide)) (Z1e rfl)
      ⟨⟨_,rfl,.same _ (Z2M ⟨show 0<4 by decide,rfl⟩)⟩,Qt 1 0 0,Qt 2 0 0,Qp (Z1j _ _),⟨_,by rw [<- hll]; rfl,.pure _ Yt⟩,Qp Yt,Yt⟩
      ⟨Qs (Zt _),Qs ⟨Z2e,Yt⟩,⟨by decide,_,rfl,X1w.single ⟨.pure _ Yt,.pure _ Yt,.pure _ (Zs _),.own (ρ:=mv 3 4) 3 (by decide),Yt⟩ rfl⟩,Qs Yt,Yt⟩ ?_
     intro i hi;have hinc:IntKind.i64.wrap ((i:Int)+1)=((i+1:Nat):Int):=Y0v _ ⟨by omega,by omega⟩;have hcl:((f.args.take i).map Xg).length=i:=by rw [Y0f,Y0o]; omega
     iterate 2 (first|refine st ?_|(apply B<;>intro hb<;>try cases hb))
     refine Zx rfl rfl rfl (fun hb=>?_) (fun hb=>?_)
     . have hil : i < f.args.length := by simpa using hb
       (repeat'(first|refine Z1 48 ?_|refine Z0 48 ?_|refine st ?_|(apply B<;>intro hb<;>try cases hb)))<;>try refine At.mk ?_
       refine Qo (Zk (xs:=f.args) rfl rfl i rfl hil (Zz _ _)) ?_;rw [ZI .u8 f.args[i]];(repeat'(first|refine Z1 53 ?_|refine Z0 53 ?_|refine st ?_|(apply B<;>intro hb<;>try cases hb)))<;>try refine At.mk ?_
       refine ZZ 0 (ih f.args[i] (ha _ (Y0j hil))) (hm _) rfl rfl rfl rfl (Zt _) ?_;rintro q b' - - ⟨rfl,rfl⟩;(repeat'(first|refine Z1 63 ?_|refine Z0 63 ?_|refine st ?_|(apply B<;>intro hb<;>try cases hb)))<;>try refine At.mk ?_
       have happ:=X5E hil
       refine ZB (Z11 (k:=3) (m := [eC f.args[i]]) (fl:=true) rfl rfl rfl (fun c hc=>by rw [Y0g.1 hc]; rfl) rfl (by
        show (((f.args.take i).map Xg).length+1)*64<=_
        rw [hcl];omega)) rfl rfl ?_
       simp only;rw [happ];(refine go ?_;repeat' (apply B<;>intro hb<;>try cases hb))
       exact⟨i+1,mv 3 6,by omega,by omega,Z3y (by decide),Z1e rfl,
        ⟨⟨_,rfl,.same _ (Z2M ⟨show 0<4 by decide,rfl⟩)⟩,Qt 1 0 0,Qt 2 0 0,Qp (Z1j _ _),Qp Yt,⟨_,by show some _=some _; rw [hinc],.pure _ Yt⟩,Yt⟩,
        ⟨Qs (Zt _),Qs ⟨Z2e,Yt⟩,⟨by decide,_,rfl,X1w.single ⟨.pure _ Yt,.pure _ Yt,.pure _ (Zs _),.own (ρ:=mv 3 6) 3 (by decide),Yt⟩ rfl⟩,Qs (Z1K _),Yt⟩⟩
     . have hil : i = f.args.length := by simp at hb; omega
       subst hil;rw [Y0q];refine Z1h ?_;show aw _ _ _ _ _ _ _;refine Z1p (Z1y (ob:=2) (id:=3) (i0:=0) (j0:=3) (bo:=⟨4,[[.val (.int .u8 f.op),.val (.int .i64 f.n),.vec (X1B f.roles) false,.own 3]]⟩) (b:=⟨4,f.args.map Xg⟩) rfl rfl (by decide) (Z1K _) (Y0 rfl) (Y0 rfl) rfl (Y0 rfl) _) ?_;(refine go ?_;repeat' (apply B<;>intro hb<;>try cases hb));exact Z12 rfl ⟨Zp f,Yt,Yt⟩ rfl (Zt _) ⟨rfl,rfl⟩
theorem ZaH (i:Int) (h:0<=i):X7 Tryz.prog 47 [.agg [.vec [] true],.val (.int .i64 i)] (· = .val (.int .u64 0)):=by
 refine Yp ok47 fun C hC=>?_;refine Zn ?_;refine Z8 ?_;refine Z5 rfl rfl rfl ?_;(repeat'(first|refine Z1 9 ?_|refine Z0 9 ?_|refine st ?_|(apply B<;>intro hb<;>try cases hb)))<;>try refine At.mk ?_
 refine Qo (Qz rfl (show ¬ i<0 by omega)) ?_;(refine go ?_;repeat' (apply B<;>intro hb<;>try cases hb));exact Z4 rfl Yt rfl
theorem ZcA {r:Int} (h:1<=r/\r<=6):X7 Tryz.prog 42 [.agg [.vec [] true],.val (.int .i64 r)] (· = .val (.bool false)):=by
 have hr:r=1 \/ r=2 \/ r=3 \/ r=4 \/ r=5 \/ r=6:=by omega
 rcases hr with rfl|rfl|rfl|rfl|rfl|rfl
 all_goals
  refine Yp ok42 fun C hC=>?_;refine Zn ?_;refine Z8 ?_;refine Z5 rfl rfl rfl ?_;(repeat'(first|refine Z1 15 ?_|refine Z0 15 ?_|refine st ?_|(apply B<;>intro hb<;>try cases hb)))<;>try refine At.mk ?_
  refine Zj rfl ?_;refine Qe (ZaH 0 (by decide)) ⟨⟨Yt,Yt⟩,Yt,Yt⟩ ?_;(refine go ?_;repeat' (apply B<;>intro hb<;>try cases hb));exact Z4 rfl Yt rfl
theorem Zhi {l:List Int} {m:Nat} (h:m<l.length):Xc (l.take m) ++ [[.val (.int .i64 l[m])]]=Xc (l.take (m+1)):=by
 unfold Xc;rw [YI,Y0c h,Y0r]; rfl
theorem X6W {l:List Fm} {m:Nat} (h:m<l.length):(l.take m).map (Xi .u8) ++ [fC .u8 l[m]]=(l.take (m+1)).map (Xi .u8):=by
 rw [YI,Y0c h,Y0r,<- ZI]; rfl
theorem Zhj:∀ (d:Nat) (f:Fm),Nm d f->Xu Tryz.prog 73 (fun k => [.agg (eC f),X31 n6 k,.agg [.vec [] true]]) (X22 n6) fun q b'=>q=.tup [.agg (fC .u8 f),.val (.bool true)]/\b'=X22 n6:=by
 intro d
 induction d with
 | zero=>intro f hf; cases hf
 | succ d ih =>
   rintro f ⟨hr,hrl,hal,ha⟩;have hm:∀ g:Fm,MkL (fun k => [.agg (eC g),X31 n6 k,.agg [.vec [] true]]):=fun g=>Zw (Z1C (Zp g)) (Zw (Z33 _) (Zw (Z1C ⟨Yt,Yt⟩) Z1S));have hll:(f.args.map Xg).length=f.args.length:=by simp
   have hnl:=Z56 f.roles;refine Zi ok73 (Y0 rfl) fun C hC=>?_;refine Zn ?_;refine Z8 ?_;refine Z5 rfl rfl rfl ?_;(repeat'(first|refine Z1 5 ?_|refine Z0 5 ?_|refine st ?_|(apply B<;>intro hb<;>try cases hb)))<;>try refine At.mk ?_
   refine Z5 rfl rfl rfl ?_;(refine go ?_;repeat' (apply B<;>intro hb<;>try cases hb));refine Z1p (Z1w (id:=2) (b:=⟨4,[[.val (.int .u8 f.op),.val (.int .i64 f.n),.vec [] true,.vec [] true]]⟩) (i0:=0) (j0:=2) rfl (show 0<1 by decide) (show 2<4 by decide) rfl 1 (by decide) (show 2<3 by decide) (Y0 rfl) _) ?_;refine Z1n hC (fun i=>i<=f.roles.length) (fun i=>f.roles.length-i) 4 (fun i => [(1,X31 n6 0),(3,.cp (eC f)),(5,.cp [.vec [] true]),(6,.ptr 1 0 0),(8,.ptr 2 0 0),(23,.vec (X1B f.roles) false),(24,.val (.int .i64 f.roles.length)),(25,Yv i)])
    (fun i => [(0,X22 n6),(1,⟨4,[eZ]⟩),(2,⟨4,[[.val (.int .u8 f.op),.val (.int .i64 f.n),.own 3,.vec [] true]]⟩),(3,⟨1,Xc (f.roles.take i)⟩)]) (by omega) 0 (by omega) (fun i=>i) (fun i hi=>rfl) Z1a
    ⟨⟨_,rfl,.same _ (Z2M ⟨show 0<4 by decide,rfl⟩)⟩,Qp (Zp _),Qp ⟨Yt,Yt⟩,Qt 1 0 0,Qt 2 0 0,Qp (Zs _),⟨_,by rw [<- hnl]; rfl,.pure _ Yt⟩,Qp Yt,Yt⟩
    ⟨Qs (Zt _),Qs ⟨Z2e,Yt⟩,⟨by decide,_,rfl,X1w.single ⟨.pure _ Yt,.pure _ Yt,.own 3 (by decide),.pure _ Yt,Yt⟩ rfl⟩,Qs Yt,Yt⟩ ?_
   intro i hi;have hinc:IntKind.i64.wrap ((i:Int)+1)=((i+1:Nat):Int):=Y0v _ ⟨by omega,by omega⟩
   iterate 2 (first|refine st ?_|(apply B<;>intro hb<;>try cases hb))
   refine Zx rfl rfl rfl (fun hb=>?_) (fun hb=>?_)
   . have hil : i < f.roles.length := by simpa using hb
     (repeat'(first|refine Z1 27 ?_|refine Z0 27 ?_|refine st ?_|(apply B<;>intro hb<;>try cases hb)))<;>try refine At.mk ?_
     refine Qo (Zk (xs:=f.roles) (g:=fun x => [.val (.string (rnB x))]) rfl rfl i rfl hil rfl) ?_;(repeat'(first|refine Z1 32 ?_|refine Z0 32 ?_|refine st ?_|(apply B<;>intro hb<;>try cases hb)))<;>try refine At.mk ?_
     refine ZZ 0 (Z9b (hr _ (Y0j hil))) (X61 Yt) rfl rfl rfl rfl (Zt _) ?_;rintro q b' - - ⟨rfl,rfl⟩;(repeat'(first|refine Z1 40 ?_|refine Z0 40 ?_|refine st ?_|(apply B<;>intro hb<;>try cases hb)))<;>try refine At.mk ?_
     refine Zj rfl ?_;refine Qe (ZcA (hr _ (Y0j hil))) ⟨⟨Yt,Yt⟩,Yt,Yt⟩ ?_;(repeat'(first|refine Z1 47 ?_|refine Z0 47 ?_|refine st ?_|(apply B<;>intro hb<;>try cases hb)))<;>try refine At.mk ?_
     have happ:=Zhi hil
     refine ZB (Z11 (k:=3) (m := [[.val (.int .i64 f.roles[i])]]) (fl:=true) (b:=⟨1,Xc (f.roles.take i)⟩) rfl rfl rfl (fun c hc=>by rw [Y0g.1 hc]; rfl) rfl (by
      show ((Xc (f.roles.take i)).length+1)*8<=_
      rw [Z19,Y0o];omega)) rfl rfl ?_
     simp only;rw [happ];(refine go ?_;repeat' (apply B<;>intro hb<;>try cases hb))
     exact⟨i+1,mv 3 4,by omega,by omega,Z3y (by decide),Z1e rfl,
      ⟨⟨_,rfl,.same _ (Z2M ⟨show 0<4 by decide,rfl⟩)⟩,Qp (Zp _),Qp ⟨Yt,Yt⟩,Qt 1 0 0,Qt 2 0 0,Qp (Zs _),Qp Yt,⟨_,by show some _=some _; rw [hinc],.pure _ Yt⟩,Yt⟩,
      ⟨Qs (Zt _),Qs ⟨Z2e,Yt⟩,⟨by decide,_,rfl,X1w.single ⟨.pure _ Yt,.pure _ Yt,.own (ρ:=mv 3 4) 3 (by decide),.pure _ Yt,Yt⟩ rfl⟩,Qs (Zf _),Yt⟩⟩
   . have hil : i = f.roles.length := by simp at hb; omega
     subst hil;rw [Y0q];refine Z1h ?_;show aw _ _ _ _ _ _ _;refine Z1p (Z1y (ob:=2) (id:=3) (i0:=0) (j0:=2) (bo:=⟨4,[[.val (.int .u8 f.op),.val (.int .i64 f.n),.own 3,.vec [] true]]⟩) (b:=⟨1,Xc f.roles⟩) rfl rfl (by decide) (Zf _) (Y0 rfl) (Y0 rfl) rfl (Y0 rfl) _) ?_;(refine go ?_;repeat' (apply B<;>intro hb<;>try cases hb));refine Z1p (Z1w (id:=2) (b:=⟨4,[[.val (.int .u8 f.op),.val (.int .i64 f.n),.vec (Xc f.roles) false,.vec [] true]]⟩) (i0:=0) (j0:=3) rfl (show 0<1 by decide) (show 3<4 by decide) rfl 4 (by decide) (show 2<4 by decide) (Y0 rfl) _) ?_;refine Z1n hC (fun i=>i<=f.args.length) (fun i=>f.args.length-i) 4 (fun i => [(1,X31 n6 0),(5,.cp [.vec [] true]),(6,.ptr 1 0 0),(8,.ptr 2 0 0),(51,.vec (f.args.map Xg) false),(52,.val (.int .i64 f.args.length)),(53,Yv i)])
      (fun i => [(0,X22 n6),(1,⟨4,[eZ]⟩),(2,⟨4,[[.val (.int .u8 f.op),.val (.int .i64 f.n),.vec (Xc f.roles) false,.own 3]]⟩),(3,⟨4,(f.args.take i).map (Xi .u8)⟩)]) (by omega) 0 (by omega) (mv 3 4) (Z3y (by decide)) (Z1e rfl)
      ⟨⟨_,rfl,.same _ (Z2M ⟨show 0<4 by decide,rfl⟩)⟩,Qp ⟨Yt,Yt⟩,Qt 1 0 0,Qt 2 0 0,Qp (Z1K _),⟨_,by rw [<- hll]; rfl,.pure _ Yt⟩,Qp Yt,Yt⟩
      ⟨Qs (Zt _),Qs ⟨Z2e,Yt⟩,⟨by decide,_,rfl,X1w.single ⟨.pure _ Yt,.pure _ Yt,.pure _ (Zf _),.own (ρ:=mv 3 4) 3 (by decide),Yt⟩ rfl⟩,Qs Yt,Yt⟩ ?_
     intro i hi;have hinc:IntKind.i64.wrap ((i:Int)+1)=((i+1:Nat):Int):=Y0v _ ⟨by omega,by omega⟩;have hcl:((f.args.take i).map (Xi .u8)).length=i:=by rw [Y0f,Y0o]; omega
     iterate 2 (first|refine st ?_|(apply B<;>intro hb<;>try cases hb))
     refine Zx rfl rfl rfl (fun hb=>?_) (fun hb=>?_)
     . have hil : i < f.args.length := by simpa using hb
       (repeat'(first|refine Z1 55 ?_|refine Z0 55 ?_|refine st ?_|(apply B<;>intro hb<;>try cases hb)))<;>try refine At.mk ?_
       refine Qo (Zk (xs:=f.args) rfl rfl i rfl hil (ZS _)) ?_;rw [ZR f.args[i]];(repeat'(first|refine Z1 61 ?_|refine Z0 61 ?_|refine st ?_|(apply B<;>intro hb<;>try cases hb)))<;>try refine At.mk ?_
       refine ZZ 0 (ih f.args[i] (ha _ (Y0j hil))) (hm _) rfl rfl rfl rfl (Zt _) ?_;rintro q b' - - ⟨rfl,rfl⟩;(repeat'(first|refine Z1 71 ?_|refine Z0 71 ?_|refine st ?_|(apply B<;>intro hb<;>try cases hb)))<;>try refine At.mk ?_
       have happ:=X6W hil
       refine ZB (Z11 (k:=3) (m := [fC .u8 f.args[i]]) (fl:=true) rfl rfl rfl (fun c hc=>by rw [Y0g.1 hc]; rfl) rfl (by
        show (((f.args.take i).map (Xi .u8)).length+1)*64<=_
        rw [hcl];omega)) rfl rfl ?_
       simp only;rw [happ];(refine go ?_;repeat' (apply B<;>intro hb<;>try cases hb))
       exact⟨i+1,mv 3 6,by omega,by omega,Z3y (by decide),Z1e rfl,
        ⟨⟨_,rfl,.same _ (Z2M ⟨show 0<4 by decide,rfl⟩)⟩,Qp ⟨Yt,Yt⟩,Qt 1 0 0,Qt 2 0 0,Qp (Z1K _),Qp Yt,⟨_,by show some _=some _; rw [hinc],.pure _ Yt⟩,Yt⟩,
        ⟨Qs (Zt _),Qs ⟨Z2e,Yt⟩,⟨by decide,_,rfl,X1w.single ⟨.pure _ Yt,.pure _ Yt,.pure _ (Zf _),.own (ρ:=mv 3 6) 3 (by decide),Yt⟩ rfl⟩,Qs (Z1j _ _),Yt⟩⟩
     . have hil : i = f.args.length := by simp at hb; omega
       subst hil;rw [Y0q];refine Z1h ?_;show aw _ _ _ _ _ _ _;refine Z1p (Z1y (ob:=2) (id:=3) (i0:=0) (j0:=3) (bo:=⟨4,[[.val (.int .u8 f.op),.val (.int .i64 f.n),.vec (Xc f.roles) false,.own 3]]⟩) (b:=⟨4,f.args.map (Xi .u8)⟩) rfl rfl (by decide) (Z1j _ _) (Y0 rfl) (Y0 rfl) rfl (Y0 rfl) _) ?_;(refine go ?_;repeat' (apply B<;>intro hb<;>try cases hb));exact Z12 rfl ⟨Zl .u8 f,Yt,Yt⟩ rfl (Zt _) ⟨rfl,rfl⟩
structure X1n (f:Fm):Prop where
 wf:Wf f
 ty:Xx f.op=1
 depth:f.depth<=10
 size:f.size<=200
 in6:in6 1 f=true
theorem X1n.check {f:Fm} (m:X1n f):XA f=0:=ZeB m.wf m.ty m.depth m.size m.in6
theorem X1n.low {f:Fm} (m:X1n f) {S T:Nat} (h:∀ i,1<=i->i<=6->S.testBit i=T.testBit i):X2X f S=X2X f T:=ZjW m.wf m.in6 h
theorem Z9m (f:Fm):∀ c∈X11 f,X4j c:=fun c hc=>by
 unfold X11 at hc
 split at hc
 . exact Zil (fun c hc=>Zgz (fun r hr=>Z9T hr) hc) c hc
 . cases hc
theorem X6v {i:Nat} (h1:1<=i) (h2:i<=6):(126:Nat).testBit i=true:=by
 rcases (show i=1 \/ i=2 \/ i=3 \/ i=4 \/ i=5 \/ i=6 by omega) with rfl|rfl|rfl|rfl|rfl|rfl<;>decide
theorem X3P (S:Nat) {i:Nat} (h1:1<=i) (h2:i<=6):(S &&& 126).testBit i=S.testBit i:=by rw [Y0z,X6v h1 h2,Y2h]
theorem ZaI (S:Nat):S &&& 126<128:=Y02 Y1T (by decide)
theorem Z77 (S:Nat):S &&& 126=2*((S &&& 126) / 2):=by
 have:(S &&& 126).testBit 0=false:=by rw [Y0z]; simp
 rw [Y2A] at this;have:=YH this;rw [Y3X,Y4e] at this;omega
def X2P (f:Fm) (S:Nat):Bool:=decide (evM S [] f=1)
theorem X1n.hold {f:Fm} (m:X1n f) (S:Nat):X2P f S = !X2X f S:=ZkC m.wf m.ty S
def X60 (f g:Fm) (k:Nat):Bool:=(List.range k).all fun n => !X2P f (2*n)||X2P g (2*n)
def X4V (f g:Fm):Bool:=X60 f g 256
theorem Z5c {f g:Fm} (mf:X1n f) (mg:X1n g):X4V f g=true↔∀ S,X2X g S=true->X2X f S=true:=by
 unfold X4V X60;rw [YA];constructor
 . intro h S hS;have h1:=h ((S &&& 126) / 2) (by rw [YZ]; have:=ZaI S;omega);rw [<- Z77,mf.hold,mg.hold,mf.low (T:=S) fun i h1 h2=>X3P S h1 h2,mg.low (T:=S) fun i h1 h2=>X3P S h1 h2,hS] at h1;simpa using h1
 . intro h n _;have:=h (2*n);rw [mf.hold,mg.hold];cases hg:X2X g (2*n) with
   | false=>simp
   | true=>rw [this hg]; rfl
theorem Z9n {f g:Fm} (mf:X1n f) (mg:X1n g):X29 eqC (X11 f) (X11 g)=(X4V f g&&X4V g f):=by
 rw [YS,X6A,Zix mf.check mg.check,Y0k,Z5c mf mg,Z5c mg mf];constructor
 . intro h; exact⟨fun S hS=>by rw [h,hS],fun S hS=>by rw [<- h,hS]⟩
 . rintro ⟨h1, h2⟩ S;rw [YS];exact⟨h2 S,h1 S⟩
theorem Zjk:∀ (d:Nat) (f:Fm),f.depth<=d->Wf f->in6 1 f=true->ShA f
 | 0,f,h,_,_=>by rw [Fm.depth_eq] at h; omega
 | d + 1, .mk op n roles args, h, w, hi => by
   have wi:=w.inv;obtain⟨h6,hr6,ha⟩:=Zc3 hi;have hn:n<=6:=Zl0 hi;have hasc:roles.Pairwise (· < ·):=ZjV hi;have h6:op≠6:=h6.elim (fun h=>absurd h (by decide)) id;have hr:∀ r∈roles,1<=r/\r<=6:=fun r hm=>⟨(wi.rng r hm).1,hr6 r hm⟩
   have hlo:=wi.lo;have hhi:=wi.hi;have hmost:=wi.most;have hleast:=wi.least;have har:=wi.ar;have hdep:∀ a∈args,ShA a:=fun a hm=>by
    obtain⟨i,hil,rfl⟩:=YE hm;have h1:=ZG hil;have h2:(Fm.mk op n roles args).depth=XU args+1:=Fm.depth_eq _;exact Zjk d _ (by omega) (wi.arg _ (Y0j _)).1 (ha _ (Y0j _))
   by_cases h8:8<=op
   . obtain ⟨x, y, rfl⟩ := wi.two h8;have hr0:roles = []:=by
      have:X19 op=0:=by unfold X19; rw [Y8 (by omega),Y8 (by omega)]
      exact Y10.1 (by omega)
     subst hr0;obtain rfl:=wi.n0 (by omega);exact .two h8 hhi (hdep x (by simp)) (hdep y (by simp))
   have hb:op=1 \/ op=2 \/ op=3 \/ op=4 \/ op=5 \/ op=7:=by omega
   rcases hb with rfl|rfl|rfl|rfl|rfl|rfl
   . obtain rfl : roles = [] := Y10.1 (by have : X19 1 = 0 := rfl; omega);obtain rfl:args = []:=Y10.1 (by have:Xl 1=0:=rfl;omega);exact .num wi.nlo (by omega)
   . obtain rfl : roles = [] := Y10.1 (by have : X19 2 = 0 := rfl; omega);obtain rfl:args = []:=Y10.1 (by have:Xl 2=0:=rfl;omega);obtain rfl:=wi.n0 (by decide);exact .yes
   . obtain rfl : roles = [] := Y10.1 (by have : X19 3 = 0 := rfl; omega);obtain rfl:args = []:=Y10.1 (by have:Xl 3=0:=rfl;omega);obtain rfl:=wi.n0 (by decide);exact .no
   . obtain ⟨r, rfl⟩ := wi.role (.inl rfl);obtain rfl:args = []:=Y10.1 (by have:Xl 4=0:=rfl;omega);obtain rfl:=wi.n0 (by decide);exact .role (hr r (by simp))
   . obtain rfl : args = [] := Y10.1 (by have : Xl 5 = 0 := rfl; omega);obtain rfl:=wi.n0 (by decide);cases roles with
     | nil=>have h1:X1r 5=1:=rfl; simp at hleast; omega
     | cons r rs =>
       have h1:X19 5=8:=rfl;exact .count ⟨hr,hasc,by rw [h1] at hmost; exact Y2I.1 hmost⟩
   . obtain ⟨x, rfl⟩ := wi.one;obtain rfl:roles = []:=Y10.1 (by have:X19 7=0:=rfl;omega);obtain rfl:=wi.n0 (by decide);exact .neg (hdep x (by simp))
theorem ShA.arg {f:Fm} (h:ShA f):f.args.length<=2/\∀ a∈f.args,ShA a:=by
 cases h with
 | num=>exact⟨show 0<=2 by decide,fun a ha=>by cases ha⟩
 | yes=>exact⟨show 0<=2 by decide,fun a ha=>by cases ha⟩
 | no=>exact⟨show 0<=2 by decide,fun a ha=>by cases ha⟩
 | role=>exact⟨show 0<=2 by decide,fun a ha=>by cases ha⟩
 | count=>exact⟨show 0<=2 by decide,fun a ha=>by cases ha⟩
 | neg ha=>exact⟨show 1<=2 by decide,fun x hx=>by rw [Y0g.1 hx]; exact ha⟩
 | two _ _ ha hb =>
   refine⟨show 2<=2 by decide,fun x hx=>?_⟩;rcases Ye.1 hx with rfl|hx
   . exact ha
   . rw [Y0g.1 hx]; exact hb
theorem Zkb:∀ (d:Nat) (f:Fm),f.depth<=d->ShA f->Nm d f
 | 0,f,h,_=>by rw [Fm.depth_eq] at h; omega
 | d + 1, f, h, hs => .mk hs.roles.rng hs.roles.len hs.arg.1 fun a ha => by
   obtain⟨i,hil,rfl⟩:=YE ha;have h1:=ZG hil;have h2:=f.depth_eq;exact Zkb d _ (by omega) (hs.arg.2 _ (Y0j _))
section
variable {f:Fm} (h:ShA f) (hd:f.depth<=10) (hs:f.size<=100)
theorem ZaJ:X1a Tryz.prog 28 [.vec (n6.map XZ) false] (X31 n6) (X22 n6):=by
 refine ZY ok28 (Y0 rfl) fun C hC=>?_;(repeat'(first|refine Z1 7 ?_|refine Z0 7 ?_|refine st ?_|(apply B<;>intro hb<;>try cases hb)))<;>try refine At.mk ?_
 refine Z2m (Zk2 6 (by decide) (by decide)) (Zk1 _ (q:=.val (.int .i64 0)) Yt) (Zt _) rfl rfl ⟨Zy _,Yt,Yt⟩ ?_;(refine go ?_;repeat' (apply B<;>intro hb<;>try cases hb));exact⟨_,_,rfl,.inl rfl,_,rfl,rfl⟩
include h hd hs
theorem ZaK:Xu Tryz.prog 30 (fun k => [.agg (fC .u8 f),X31 n6 k]) (X22 n6) fun q b'=>q=.tup [.agg (eC f),.val (.int .i64 0)]/\b'=X22 n6:=by
 refine Zi ok30 (Y0 rfl) fun C hC=>?_;refine Zn ?_;refine Z8 ?_;refine Z5 rfl rfl rfl ?_;(repeat'(first|refine Z1 15 ?_|refine Z0 15 ?_|refine st ?_|(apply B<;>intro hb<;>try cases hb)))<;>try refine At.mk ?_
 refine ZZ 0 (Zf8 10 f (Zkb 10 f hd h)) (Zw (Z1C (Zl .u8 f)) (Zw (Z33 _) Z1S)) rfl rfl rfl rfl (Zt _) ?_;rintro q b' - - ⟨rfl,rfl⟩;(repeat'(first|refine Z1 22 ?_|refine Z0 22 ?_|refine st ?_|(apply B<;>intro hb<;>try cases hb)))<;>try refine At.mk ?_
 refine Qe (Z3i h hd (by omega)) ⟨Zp _,Yt⟩ ?_;(refine go ?_;repeat' (apply B<;>intro hb<;>try cases hb));exact Z12 rfl ⟨Zp f,Yt,Yt⟩ rfl (Zt _) ⟨rfl,rfl⟩
theorem Z9o (hc:XA f=0):Xu Tryz.prog 33 (fun k => [.agg (eC f),.val (.int .u8 1),X31 n6 k,.agg [.vec [] true]]) (X22 n6) fun q b'=>q=.tup [.agg (fC .u8 f),.val (.int .i64 0)]/\b'=X22 n6:=by
 have hck:=Z7Y f (by omega) (by omega);rw [hc] at hck;refine Zi ok33 (Y0 rfl) fun C hC=>?_;refine Zn ?_;refine Z8 ?_;refine Z5 rfl rfl rfl ?_;refine Z5 rfl rfl rfl ?_;(repeat'(first|refine Z1 26 ?_|refine Z0 26 ?_|refine st ?_|(apply B<;>intro hb<;>try cases hb)))<;>try refine At.mk ?_
 refine Qe (Z3i h hd (by omega)) ⟨Zp _,Yt⟩ ?_;(repeat'(first|refine Z1 35 ?_|refine Z0 35 ?_|refine st ?_|(apply B<;>intro hb<;>try cases hb)))<;>try refine At.mk ?_
 refine ZZ 0 (Zhj 10 f (Zkb 10 f hd h)) (Zw (Z1C (Zp f)) (Zw (Z33 _) (Zw (Z1C ⟨Yt,Yt⟩) Z1S))) rfl rfl rfl rfl (Zt _) ?_;rintro q b' - - ⟨rfl,rfl⟩;(repeat'(first|refine Z1 43 ?_|refine Z0 43 ?_|refine st ?_|(apply B<;>intro hb<;>try cases hb)))<;>try refine At.mk ?_
 refine Qe hck ⟨Zl _ _,Yt,Yt⟩ ?_;(refine go ?_;repeat' (apply B<;>intro hb<;>try cases hb));exact Z12 rfl ⟨Zl .u8 f,Yt,Yt⟩ rfl (Zt _) ⟨rfl,rfl⟩
theorem Z9p (hc:XA f=0):X7 Tryz.prog 6 [.agg (fC .u8 f)] (· = .tup [.agg (fC .u8 f),.val (.bool true)]):=by
 refine Yp ok6 fun C hC=>?_;refine Zn ?_;refine Z8 ?_;refine Z5 rfl rfl rfl ?_;(repeat'(first|refine Z1 10 ?_|refine Z0 10 ?_|refine st ?_|(apply B<;>intro hb<;>try cases hb)))<;>try refine At.mk ?_
 refine Qe (Zc5 6 (by decide)) ⟨Yt,Yt⟩ ?_;refine Z2m ZaJ (Z33 _) (Zt _) rfl rfl ⟨Zy _,Yt⟩ ?_;(repeat'(first|refine Z1 15 ?_|refine Z0 15 ?_|refine st ?_|(apply B<;>intro hb<;>try cases hb)))<;>try refine At.mk ?_
 refine ZZ 1 (ZaK h hd hs) (Zw (Z1C (Zl .u8 f)) (Zw (Z33 _) Z1S)) rfl rfl rfl rfl (Zt _) ?_;rintro q b' - - ⟨rfl,rfl⟩;(repeat'(first|refine Z1 27 ?_|refine Z0 27 ?_|refine st ?_|(apply B<;>intro hb<;>try cases hb)))<;>try refine At.mk ?_
 refine Qe (ZeW h hd hs) ⟨Zp _,Yt⟩ ?_;refine Qe (Zf0 h hd hs) ⟨Yt,Yt⟩ ?_;(repeat'(first|refine Z1 39 ?_|refine Z0 39 ?_|refine st ?_|(apply B<;>intro hb<;>try cases hb)))<;>try refine At.mk ?_
 refine ZZ 1 (Z9o h hd hs hc) (Zw (Z1C (Zp f)) (Zw (Z1C (p:=.val (.int .u8 1)) Yt) (Zw (Z33 _) (Zw (Z1C (p:=.agg [.vec [] true]) ⟨Yt,Yt⟩) Z1S)))) rfl rfl rfl rfl (Zt _) ?_;rintro q b' - - ⟨rfl,rfl⟩;(refine go ?_;repeat' (apply B<;>intro hb<;>try cases hb));exact Z4 rfl ⟨Zl _ _,Yt,Yt⟩ rfl
end
end
section
open Go.RowKit
theorem ZiX {c:Cu} {S T:Nat} (h:hoC c S=true) (hT:∀ i,(c.1 ||| c.2).testBit i=true->T.testBit i=S.testBit i):hoC c T=true:=by
 rw [Z6O] at h ⊢;exact⟨fun i hi=>by rw [hT i (by rw [Y00,hi,Bool.true_or])]; exact h.1 i hi,fun i hi=>by rw [hT i (by rw [Y00,hi,Bool.or_true])]; exact h.2 i hi⟩
theorem Zf9 {f:Fm} (m:X1n f) {c:Cu} (hc:c∈X11 f) {S T:Nat} (h:hoC c S=true) (hT:∀ i,(c.1 ||| c.2).testBit i=true->T.testBit i=S.testBit i):X2P f T=false:=by
 rw [m.hold,<- Z90 m.check,show soC (X11 f) T=true from Y01.2 ⟨c,hc,ZiX h hT⟩]; rfl
theorem Zhk (a S:Nat):∀ i,a.testBit i=true->(S &&& a).testBit i=S.testBit i:=fun i hi=>by rw [Y0z,hi,Y2h]
theorem ZiY {a S N:Nat} (hN:N<18446744073709551616) (ha:a<18446744073709551616):∀ i,a.testBit i=true->(S ||| XN N a).testBit i=S.testBit i:=fun i hi=>by rw [Y00,Z2P hN ha,hi]; simp
theorem Zhl {f:Fm} (m:X1n f) {S:Nat} (h:X2P f S=false):∃ c∈X11 f,hoC c S=true:=by
 rw [m.hold,<- Z90 m.check] at h;have h:soC (X11 f) S=true:=by simpa using h
 exact Y01.1 h
def apT (f g:Fm) (k:Nat):Bool:=(List.range k).any fun n=>decide (X2P f (2*n)≠X2P g (2*n))
theorem ZiZ (f g:Fm) (k:Nat):apT f g (k+1)=(apT f g k||decide (X2P f (2*k)≠X2P g (2*k))):=by
 unfold apT;rw [Y2T,List.any_append];simp
theorem Zj0 {f g:Fm} (mf:X1n f) (mg:X1n g):(X4V f g&&X4V g f) = !apT f g 64:=by
 rw [YS,Y0k,Z5c mf mg,Z5c mg mf,Y39];constructor
 . rintro ⟨h1, h2⟩;unfold apT;rw [List.any_eq_false];intro n _;have:X2X f (2*n)=X2X g (2*n):=by rw [YS]; exact⟨h2 _,h1 _⟩
   rw [mf.hold,mg.hold,this];simp
 . intro h;have key:∀ S,X2X f S=X2X g S:=fun S=>by
    unfold apT at h;rw [List.any_eq_false] at h;have h1:=h ((S &&& 126) / 2) (by rw [YZ]; have:=ZaI S;omega);rw [<- Z77,mf.hold,mg.hold,mf.low (T:=S) fun i h1 h2=>X3P S h1 h2,mg.low (T:=S) fun i h1 h2=>X3P S h1 h2] at h1;simpa using h1
   exact⟨fun S hS=>by rw [key]; exact hS,fun S hS=>by rw [<- key]; exact hS⟩
end
section
open Go.RowKit
attribute [local irreducible] aw Xj dK
theorem Z78 (f g:Fm) (hf:f.depth<=1000) (hfs:f.size<=1099511627776) (hg:g.depth<=1000) (hgs:g.size<=1099511627776):X7 Tryz.prog 20 [.agg (fC .u8 f),.agg (fC .u8 g)] (· = .val (.bool (decide (XA f=0)&&decide (XA g=0)&&X29 eqC (X11 f) (X11 g)))):=by
 refine Yp ok20 fun C hC=>?_;refine Zn ?_;refine Z8 ?_;refine Z5 rfl rfl rfl ?_;refine Z5 rfl rfl rfl ?_;(refine go ?_;repeat' (apply B<;>intro hb<;>try cases hb));refine Qe (Z1R f hf hfs) ⟨Zl _ _,Yt⟩ ?_;(refine go ?_;repeat' (apply B<;>intro hb<;>try cases hb));refine Qe (Z1R g hg hgs) ⟨Zl _ _,Yt⟩ ?_;by_cases h1:XA f=0
 . rw [h1];by_cases h2:XA g=0
   . rw [h2];(refine go ?_;repeat' (apply B<;>intro hb<;>try cases hb));refine Qe (Z2C (X11 f) (X11 g) cuC cuC false false 9 [] eqC Z3g Z3g Z23 Z23 Yt fun c hc d hd=>Z4l c d (Z9m f c hc) (Z9m g d hd)) ⟨Zr _,Zr _,Yt,Yt⟩ ?_;generalize X29 eqC (X11 f) (X11 g)=v;cases v
     all_goals
      (refine go ?_;repeat' (apply B<;>intro hb<;>try cases hb));exact Z4 rfl Yt rfl
   . (refine go ?_;repeat' (apply B<;>intro hb<;>try cases hb))
     . exact absurd (by simpa using hb) h2
     . exact Z4 rfl Yt (by simp [h2])
 . (refine go ?_;repeat' (apply B<;>intro hb<;>try cases hb))
   . rename_i hx; exact absurd (by simpa using hx) h1
   . rename_i hx; exact absurd (by simpa using hx) h1
   . exact Z4 rfl Yt (by simp [h1])
end
end Go.Proofs.YtgpjedjgmpienaaGreatDoor
