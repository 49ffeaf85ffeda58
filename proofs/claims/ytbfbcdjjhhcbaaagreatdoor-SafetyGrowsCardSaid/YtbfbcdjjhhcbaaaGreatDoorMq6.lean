/-
 Proved: for every input the law SafetyGrows returns true,never panics,and leaves its arguments as0 they were,on the given card's conditions (the table of the bits package reads as0 the program's text lays it,and is tied to it).
-/
import Derived.Laws.BitsAllLaws
import Derived.Laws.Externs
import Derived.Laws.IdiomCopy
import Derived.Lib.AppendZerosOnto
import Derived.Lib.JoinLaws
import Derived.Lib.Overlaps
import Derived.Lib.SliceRun
import Derived.Lib.Walk
import Derived.SevenTiedAt
import Derived.Shelf.RegionOpenPlain
import Derived.Test.YtbfbcdjjhhcbaaaGreatDoorCards
import Derived.Test.YtbfbcdjjhhcbaaaGreatDoorTie
import Derived.Test.YtbfbcdjjhhcbaaaGreatDoorMq5
set_option linter.unusedSimpArgs false
set_option linter.unusedVariables false
set_option linter.unusedSectionVars false
set_option maxRecDepth 100000
set_option maxHeartbeats 16000000
namespace Go.Proofs.YtbfbcdjjhhcbaaaGreatDoor
section
open Go.RowKit
attribute [local irreducible] aw Xk dK
theorem Zgx (kd:IntKind) (l:List Nat) (n:Nat):(Xi kd l).take n=Xi kd (l.take n):=by unfold Xi; rw [Y2o]
theorem Zgy (kd:IntKind) (l:List Nat) (n:Nat):(Xi kd l).drop n=Xi kd (l.drop n):=by unfold Xi; rw [Y3E]
theorem Zif (kd:IntKind) (l m:List Nat):Xi kd (l++m)=Xi kd l++Xi kd m:=by unfold Xi; rw [Y0r]
section
variable {e:Env} {h:X1} {n k:Nat} {Eb:Nat}
theorem Z4r {a:Operand} {l r:List PV} {off size:Nat} (ha:ev e a=some (.ptr k 0 off)) (hb:h k=some ⟨Eb,[l]⟩) (hl:off+size<=l.length) (hv:(l.drop off).take size=r):X3 (.load true size a) e h n=some (.agg r,h):=by
 subst hv;exact Z2p ha hb Y1K (by show X1a true size off l=_; unfold X1a; rw [Y5 hl])
theorem Z3b {a v:Operand} {l r:List PV} {size:Nat} (ha:ev e a=some (.ptr k 0 0)) (hv:ev e v=some (.agg r)) (hb:h k=some ⟨size,[l]⟩) (hr:r.length=size) (hl:l.length=size):X3 (.store size a v) e h n=some (pvu,h.upd k ⟨size,[r ++ []]⟩):=by
 have h1:=Z1T (n:=n) (size:=size) ha hv hb rfl hr Y1K (by show 0+size<=size;omega);rw [h1];have e1:Xj l 0 r=r ++ []:=by
  unfold Xj;rw [Y1A,Y1h,Y1O (by omega)]
 show some (pvu,h.upd k ⟨size,[Xj l 0 r]⟩)=_;rw [e1]
theorem ZkR {d s:Operand} {k2 Eb2 o o2 len len2 cap cap2:Nat} {l l2 l':List PV} (hd:ev e d=some (.sl k 0 o len cap)) (hs:ev e s=some (.sl k2 0 o2 len2 cap2)) (hb:h k=some ⟨Eb,[l]⟩) (hb2:h k2=some ⟨Eb2,[l2]⟩) (hE:o+len<=Eb) (hE2:o2+len2<=Eb2) (hl:Xj l o (((l2.drop o2).take len2).take len)=l'):X3 (.copy 1 d s) e h n=some (.val (.int .i64 ((min len2 len:Nat):Int)),h.upd k ⟨Eb,[l']⟩):=by
 subst hl;simp only [X3,hd,hs,hb,hb2];rw [Y5 ⟨Yt,show 0<1 by decide,hE,show 0<1 by decide,hE2⟩]
 rfl
end
theorem Z29 {e:Env} {h:X1} {a size:Nat} {r:PV} (hd:X3 (.load true size (.tmp a)) e h 0=some (r,h)):XT [.cell a true size] e h=some r:=by
 simp [XT,X2O,X5C,hd]
def X23 (h:HS):List Nat:=h.bl.take h.used++List.replicate (136-h.used) 0
theorem Zao {h:HS} (hh:HOk h):(X23 h).length=136:=by
 have h1:=hh.bl;have h2:=hh.us;simp only [X23,Y0e,Y0o,Y41];omega
theorem Zgz {h:HS} (hh:HOk h):W8 (X23 h):=fun x hx=>by
 rcases Y0h.1 hx with h1|h1
 . exact hh.bw x (YM h1)
 . rw [Y1p h1]; decide
theorem W8.set {l:List Nat} (h:W8 l) {i x:Nat} (hx:x<256):W8 (l.set i x):=fun w hw=>by
 rcases Y1R hw with hw|rfl
 . exact h w hw
 . exact hx
theorem Z9j (h:HS):X32 h.bl h.used=((X23 h).set h.used 6).set 135 (g0 ((X23 h).set h.used 6) 135 ^^^ 128):=rfl
theorem ZjJ {a b:Nat} (ha:a<256) (hb:b<256):a ^^^ b<256:=Y4g (n:=8) ha hb
theorem ZgA {h:HS} (hh:HOk h):(X32 h.bl h.used).length=136:=by rw [Z9j,Y14,Y14,Zao hh]
theorem ZgB {h:HS} (hh:HOk h):W8 (X32 h.bl h.used):=by
 rw [Z9j];have h1:W8 ((X23 h).set h.used 6):=(Zgz hh).set (by decide);exact h1.set (ZjJ (h1.g _) (by decide))
theorem ZgC {h:HS} (hh:HOk h) (u t:PV):Xj (Xi .u8 (List.replicate 136 0)) 0 ((((Xx h.st h.bl u t).drop 25).take h.used).take 136)=Xi .u8 (X23 h) ++ []:=by
 have h1:=hh.bl;have h2:=hh.us;have hst:(Xi .u64 h.st).length=25:=by rw [ZJ,hh.sl]
 have e1:(((Xx h.st h.bl u t).drop 25).take h.used).take 136=Xi .u8 (h.bl.take h.used):=by
  unfold Xx;rw [Y2t,hst,Y1O (by omega),show 25-25=0 by decide,Y16,Y1h,Y3d,ZJ,show h.used-h.bl.length=0 by omega,Y1A,Y0p,Y3x,Nat.min_eq_right (by omega),Zgx]
 rw [e1];unfold Xj;rw [Y1A,Y1h,ZJ,Y0o,show min h.used h.bl.length=h.used by omega,Y17,Zgy,List.drop_replicate,<- Zif,Y0p]
 rfl
def X2V (st:List Nat) (i:Nat):List Nat:=(List.range 32).map fun k=>if k<i then X5A st k else 0
theorem Z43 (st:List Nat) (i:Nat):(X2V st i).length=32:=by simp [X2V]
theorem Zen (st:List Nat) {i:Nat} (h:i<32):(X2V st i).set i (X5A st i)=X2V st (i+1):=by
 refine Z5G (by rw [Y14,Z43,Z43]) fun x hx=>?_;rw [Y14,Z43] at hx;rw [Zgk,Z43];unfold X2V;rw [Z41 _ hx,Z41 _ hx];by_cases h1:x=i
 . subst h1; rw [Y5 ⟨rfl,h⟩,Y5 (by omega)]
 . rw [Y6 (by omega)];by_cases h2:x<i
   . rw [Y5 h2,Y5 (by omega)]
   . rw [Y6 h2,Y6 (by omega)]
theorem ZgD (st:List Nat):X2V st 32=(List.range 32).map (X5A st):=Y2p fun x hx=>by rw [Y5 (Y1t.1 hx)]
def X3w (h:HS):List Nat:=(List.range 32).map (X5A (X1O h.st (X32 h.bl h.used)))
theorem Zlq (x:HS) (hx:HOk x):X2f Tryz.prog 176 (hBx x) [] (fun r b'=>r=.agg (Xi .u8 (X3w x))/\b'=hBx x):=by
 refine Z1O ok176 (Y0 rfl) fun C hC=>?_;have hCx:=fun (u t:PV)=>Z8h (u:=u) (t:=t) hx.sl hx.bl;have hus:=hx.us;have hl0:=Zao hx;have hw0:=Zgz hx;refine gd 13 ⟨?_⟩
 refine Qo (Z4r (l:=Xx x.st x.bl (.val (.int .i64 (x.used:Int))) (.val (.int .u64 (x.total:Int)))) (r:=Xi .u64 x.st) rfl rfl (by rw [hCx]; decide) (by
  unfold Xx
  rw [Y16,Y3d,ZJ,hx.sl,Y36,Y1A,Y0p,Yy (by rw [ZJ,hx.sl]; exact Y0m _)])) ?_
 (first|refine st ?_|(apply B<;>intro hb<;>try cases hb));refine Qo (Z3b (l:=Xi .u64 (List.replicate 25 0)) rfl rfl rfl (by rw [ZJ,hx.sl]) rfl) ?_;refine gd 21 ⟨?_⟩;refine Qr (Z4J (l:=Xx x.st x.bl (.val (.int .i64 (x.used:Int))) (.val (.int .u64 (x.total:Int)))) rfl rfl (by rw [hCx]; decide) (ZkQ hx.sl hx.bl)) ?_;refine Qr (Zic rfl 0 x.used rfl rfl (by omega) (by omega) (by omega)) ?_;refine Qr (ZkR (l:=Xi .u8 (List.replicate 136 0)) (l2:=Xx x.st x.bl (.val (.int .i64 (x.used:Int))) (.val (.int .u64 (x.total:Int)))) rfl rfl rfl rfl (by decide) (by show 25+0+(x.used-0)<=163;omega) (ZgC hx _ _)) ?_;refine gd 27 ⟨?_⟩;refine Qo (Z4J (l:=Xx x.st x.bl (.val (.int .i64 (x.used:Int))) (.val (.int .u64 (x.total:Int)))) rfl rfl (by rw [hCx]; decide) (ZkQ hx.sl hx.bl)) ?_;refine Qo (Z30 rfl rfl x.used rfl (by omega)) ?_;refine Qo (Z9e (kd:=.u8) (L:=X23 x) (x:=6) (Eb:=136) (pre := []) (post := []) (o:=0) rfl rfl rfl rfl (by omega) (by omega)) ?_;have hs1:((X23 x).set x.used 6).length=136:=by rw [Y14]; exact hl0
 have hs2:W8 ((X23 x).set x.used 6):=hw0.set (by decide);refine gd 30 ⟨?_⟩;refine Qo (Z3D (kd:=.u8) (L:=(X23 x).set x.used 6) (pre := []) (post := []) (o:=0) (j:=135) rfl rfl rfl (by omega)) ?_;refine Zh (v:=((g0 ((X23 x).set x.used 6) 135 ^^^ 128:Nat):Int)) rfl rfl rfl (u8_xor_nat _ 128 (hs2.g _) (by decide)) ?_;(first|refine st ?_|(apply B<;>intro hb<;>try cases hb));refine Qo (Z9e (kd:=.u8) (L:=(X23 x).set x.used 6) (x:=g0 ((X23 x).set x.used 6) 135 ^^^ 128) (Eb:=136) (pre := []) (post := []) (o:=0) (j:=135) rfl rfl rfl rfl (by omega) (by omega)) ?_;rw [<- Z9j]
 iterate 1 (first|refine st ?_|(apply B<;>intro hb<;>try cases hb))
 refine Z6z hC (n':=4) [(2,.ptr 1 0 0),(3,.ptr 2 0 0),(4,.ptr 3 0 0)] [(0,hBx x),(1,⟨32,[Xi .u8 (List.replicate 32 0)]⟩),(2,⟨25,[Xi .u64 x.st ++ []]⟩),(3,⟨136,[Xi .u8 (X32 x.bl x.used) ++ []]⟩)] (by decide)
  ⟨⟨rfl,show 1<4 by decide⟩,⟨rfl,show 2<4 by decide⟩,⟨rfl,show 3<4 by decide⟩,Yt⟩ ⟨⟨by decide,rfl,Z5I _ _⟩,⟨by decide,by kernel_rfl,Ze (fun _ h=>h.elim) _ (show X2 [Xi .u8 (List.replicate 32 0)] from ⟨ZN _ _,Yt⟩)⟩,⟨by decide,rfl,X1i Yt⟩,⟨by decide,rfl,X1i Yt⟩,Yt⟩ ?_
 iterate 2 (first|refine st ?_|(apply B<;>intro hb<;>try cases hb))
 refine Qo (Zic rfl 0 136 rfl rfl (by decide) (by decide) (by decide)) ?_;refine Z1d rfl rfl (Zib x.st (X32 x.bl x.used) hx.sl hx.sw (ZgA hx) (ZgB hx) (hBx x) _ (Z3v x) (show X2 [Xi .u8 (List.replicate 32 0)] from ⟨ZN _ _,Yt⟩)) ?_;rintro n' r h' ⟨rfl,hr,rfl⟩;have hsl:=Z5H (bl:=X32 x.bl x.used) hx.sl;have hsw:=Zd8 hx.sw (ZgB hx);have hfin:X3w x=X2V (X1O x.st (X32 x.bl x.used)) 32:=(ZgD _).symm;generalize X1O x.st (X32 x.bl x.used)=ws at hsl hsw hfin;have hz:X2 [Xi .u8 (List.replicate 32 0)]:=⟨ZN _ _,Yt⟩
 refine go ?_;refine ZB hC (fun i=>i<=32) (fun i=>32-i) 5 (fun i => [(2,.ptr 1 0 0),(3,.ptr 2 0 0),(5,.ptr 4 0 0),(35,Yv i)]) (fun i => [(0,hBx x),(1,⟨32,[Xi .u8 (List.replicate 32 0)]⟩),(2,⟨25,[Xi .u64 ws ++ []]⟩),(4,⟨32,[Xi .u8 (X2V ws i) ++ []]⟩)]) (by decide) 0 (Y0l _)
  ⟨⟨rfl,show 1<5 by decide⟩,⟨rfl,show 2<5 by decide⟩,⟨rfl,show 4<5 by decide⟩,⟨rfl,Yt⟩,Yt⟩ ⟨⟨by decide,rfl,Z5I _ _⟩,⟨by decide,rfl,Ze (fun _ h=>h.elim) _ hz⟩,⟨by decide,rfl,X1i Yt⟩,⟨by decide,by kernel_rfl,X1i Yt⟩,Yt⟩ ?_
 intro i hi;have hinc:IntKind.i64.wrap ((i:Int)+1)=((i+1:Nat):Int):=wi (i+1) (by omega);have hdl:=Z43 ws i;refine gd 36 ⟨?_⟩;by_cases hil:i<32
 . refine Qo (Qy rfl (by omega)) ?_;refine gd 40 ⟨?_⟩
   refine Zh (v:=((i / 8:Nat):Int)) rfl rfl rfl (by
    rw [show Int.tdiv (i:Int) 8=((i / 8:Nat):Int) from (Int.ofNat_tdiv i 8).symm]
    exact wi _ (by omega)) ?_
   refine Qo (Z30 rfl rfl (i / 8) rfl (by omega)) ?_;refine Qo (Z3D (kd:=.u64) (L:=ws) (pre := []) (post := []) (o:=0) rfl rfl rfl (by omega)) ?_;refine gd 44 ⟨?_⟩;refine Zh (v:=((i % 8:Nat):Int)) rfl rfl rfl (Y2J i 8).symm ?_;refine Zh (v:=((8*(i % 8):Nat):Int)) rfl rfl rfl (wi (8*(i % 8)) (by omega)) ?_;refine Z3j rfl rfl (by omega) (X5m (g0 ws (i / 8)) (8*(i % 8)) (by omega)) rfl ?_;refine Zh (v:=((X5A ws i:Nat):Int)) rfl rfl rfl (by rw [IntKind.wrap_u8]; rfl) ?_;refine Qo (Z30 rfl rfl i rfl (by omega)) ?_;refine Qo (Z9e (kd:=.u8) (L:=X2V ws i) (x:=X5A ws i) (Eb:=32) (pre := []) (post := []) (o:=0) rfl rfl rfl rfl (by omega) (by omega)) ?_;rw [Zen ws hil];refine go ?_;exact⟨i+1,by omega,by omega,⟨⟨rfl,show 1<5 by decide⟩,⟨rfl,show 2<5 by decide⟩,⟨rfl,show 4<5 by decide⟩,⟨by show some _=some _; rw [hinc],Yt⟩,Yt⟩,⟨⟨by decide,rfl,Z5I _ _⟩,⟨by decide,rfl,Ze (fun _ h=>h.elim) _ hz⟩,⟨by decide,rfl,X1i Yt⟩,⟨by decide,rfl,X1i Yt⟩,Yt⟩⟩
 . obtain rfl : i = 32 := by omega
   refine Qo (Qz rfl (by omega)) ?_;rw [<- hfin] at hdl;rw [<- hfin];have hcl:(Xi .u8 (X3w x)).length=32:=by rw [ZJ,hdl]
   generalize hcc:Xi .u8 (X3w x)=cc at hcl;have hcp:X6 cc:=hcc▸ZN _ _;refine gd 50 ⟨?_⟩;refine Qo (Z4r (l:=cc ++ []) (r:=cc) rfl rfl (by rw [Y0p,hcl]; decide) (by rw [Y0p,Y16,Yy (by rw [hcl]; exact Y0m _)])) ?_;refine Qo (Z3b (l:=Xi .u8 (List.replicate 32 0)) rfl rfl rfl hcl rfl) ?_;refine go ?_;refine⟨_,.agg cc,?_,.inl rfl,_,rfl,hcp,Z3v x,rfl,rfl⟩;exact Z29 (Z4r (l:=cc ++ []) (r:=cc) rfl rfl (by rw [Y0p,hcl]; decide) (by rw [Y0p,Y16,Yy (by rw [hcl]; exact Y0m _)]))
end
section
open Go.RowKit
end
section
open Go.RowKit
attribute [local irreducible] aw Xk dK
theorem ZbZ:Xa Tryz.prog 139 [XH 0] (· = .vec [] true):=by
 refine Yp ok139 fun C hC=>?_;refine Zq ?_;refine Za ?_;refine Z5 rfl rfl rfl ?_;refine gd 9 ⟨?_⟩;refine Qe (Z3p 0 (by decide)) ⟨Z2 0,Yt⟩ ?_;refine go ?_;exact Z8 rfl Yt rfl
theorem Zeo (N:Nat) (h0:N≠0) (hN:N<256):Xa Tryz.prog 139 [XH N] (· = .vec (bys [N]) false):=by
 have h64:N<18446744073709551616:=by omega
 have hs:XH N=.agg [.vec [[.val (.int .u64 (N:Int))]] false]:=by unfold XH; rw [Z4Z h64 h0]; rfl
 have hg:=Z3p N h64;rw [Yw h0] at hg;have hb:=ZfG (k:=8) hN;have hp:=Z6T h0;have ht:X5G N=(bl N:Int)-1:=by unfold X5G; rw [Y6 h0]
 have hq:IntKind.i64.wrap (Int.tdiv (X5G N) 8)=0:=by
  rw [ht];obtain⟨k,hk⟩:∃ k:Nat,(bl N:Int)-1=(k:Int)/\k<8:=⟨bl N-1,by omega,by omega⟩
  rw [hk.1];have:∀ k,k<8->IntKind.i64.wrap (Int.tdiv ((k:Nat):Int) 8)=0:=by decide
  exact this k hk.2
 refine Yp ok139 fun C hC=>?_;rw [hs];refine Zq ?_;refine Za ?_;refine Z5 rfl rfl rfl ?_;refine gd 9 ⟨?_⟩;rw [hs] at hg;refine Qe hg ⟨⟨⟨⟨Yt,Yt⟩,Yt⟩,Yt⟩,Yt⟩ ?_;refine gd 15 ⟨?_⟩;refine Zh rfl rfl rfl hq ?_;refine go ?_;refine Z1z 1 ?_;unfold X2d;refine gd 34 ⟨?_⟩;refine Z3j rfl rfl (by decide) (Z3M N 0 (by decide)) rfl ?_
 refine Zh (v:=(N:Int)) rfl rfl rfl (by
  rw [Nat.pow_zero,Nat.div_one]
  exact Y3G _ ⟨by omega,by omega⟩) ?_
 refine gd 38 ⟨?_⟩;refine Zb (Zn (k:=5) (b:=⟨1,bys [N]⟩) rfl rfl (Zg [N])) ?_;refine go ?_;exact Z8 rfl (Zg [N]) rfl
def X6f (N:Nat):PV:=if N=0 then .vec [] true else .vec (bys [N]) false
theorem Zc0 (N:Nat) (hN:N<256):Xa Tryz.prog 139 [XH N] (· = X6f N):=by
 unfold X6f;by_cases h0:N=0
 . subst h0; rw [Y5 rfl]; exact ZbZ
 . rw [Y6 h0]; exact Zeo N h0 hN
def X6z (kd:IntKind) (x:Nat):List PV := [.val (.int kd (x:Int))]
def X14 (kd:IntKind) (l:List Nat):List (List PV):=l.map (X6z kd)
theorem Z3w (kd:IntKind) (l:List Nat):X2 (X14 kd l):=Zc (enc:=X6z kd) (fun _=>⟨Yt,Yt⟩) l
theorem Z2a (kd:IntKind) (l:List Nat):(X14 kd l).length=l.length:=by simp [X14]
theorem Z8j (kd:IntKind) (l:List Nat) {j:Nat} (hj:j<l.length):(X14 kd l).getD j []=X6z kd (l.getD j 0):=by
 unfold X14;simp [Y0b,hj]
theorem ZkS {kd:IntKind} {e:Env} {h:X1} {n:Nat} {a:Operand} {k j:Nat} {L:List Nat} (ha:ev e a=some (.ptr k j 0)) (hb:h k=some ⟨1,X14 kd L⟩) (hj:j<L.length) :
 X3 (.load false 1 a) e h n=some (.val (.int kd ((L.getD j 0:Nat):Int)),h) :=
 Z2p ha hb (by rw [Z2a]; exact hj) (by rw [Z8j kd L hj]; rfl)
theorem ZkT {kd:IntKind} {e:Env} {h:X1} {n:Nat} {a v:Operand} {k j x:Nat} {L:List Nat} (ha:ev e a=some (.ptr k j 0)) (hv:ev e v=some (.val (.int kd (x:Int)))) (hb:h k=some ⟨1,X14 kd L⟩) (hj:j<L.length) :
 X3 (.store 1 a v) e h n=some (pvu,h.upd k ⟨1,X14 kd (L.set j x)⟩):=by
 have:=Z1T (n:=n) (size:=1) ha hv hb rfl rfl (show j<(X14 kd L).length by rw [Z2a]; exact hj) (Y0m 1);rw [this];have e1:(X14 kd L).set j (Xj ((X14 kd L).getD j []) 0 (PV.val (.int kd (x:Int))).cells)=X14 kd (L.set j x):=by
  rw [Z8j kd L hj];unfold X14;rw [Y4p]
  rfl
 simp only;rw [e1]
def X3t (l:List Nat) (i:Nat):List Nat:=(List.range l.length).map fun x=>if x<i \/ l.length-i<=x then l.getD (l.length-1-x) 0 else l.getD x 0
theorem Z2S (l:List Nat) (i:Nat):(X3t l i).length=l.length:=by simp [X3t]
theorem Z4o (l:List Nat) (i:Nat) {x:Nat} (hx:x<l.length):(X3t l i).getD x 0=if x<i \/ l.length-i<=x then l.getD (l.length-1-x) 0 else l.getD x 0:=by
 unfold X3t;simp [Y0b,hx]
theorem Z7k {l m:List Nat} (hl:l.length=m.length) (h:∀ x,x<l.length->l.getD x 0=m.getD x 0):l=m:=by
 refine Y4v hl fun i h1 h2=>?_;have:=h i h1;simpa [Y0b,h1,h2] using this
theorem ZgE (l:List Nat):X3t l 0=l:=Z7k (Z2S l 0) fun x hx=>by
 rw [Z2S] at hx;rw [Z4o l 0 hx,Y6 (by omega)]
theorem Zig (l:List Nat) {i:Nat} (hi:l.length<=2*i+1):X3t l i=l.reverse:=Z7k (by rw [Z2S,List.length_reverse]) fun x hx=>by
 rw [Z2S] at hx;rw [Z4o l i hx];have hr:l.reverse.getD x 0=l.getD (l.length-1-x) 0:=by
  simp only [Y0b];rw [List.getElem?_reverse hx]
 rw [hr]
 split
 . rfl
 . rw [show x = l.length - 1 - x by omega];rw [show l.length-1-(l.length-1-x)=x by omega];rw [show l.length-1-x=x by omega]
theorem Zap (L:List Nat) (j x y:Nat):(L.set j x).getD y 0=if y=j/\j<L.length then x else L.getD y 0:=by
 simp only [Y0b,YW];by_cases h:j=y
 . subst h;by_cases hj:j<L.length
   . simp [hj]
   . simp [hj]
 . rw [Y6 h,Y6 (fun c=>h c.1.symm)]
theorem ZgF (l:List Nat) {i:Nat} (hi:2*i+1<l.length):((X3t l i).set i ((X3t l i).getD (l.length-1-i) 0)).set (l.length-1-i) ((X3t l i).getD i 0)=X3t l (i+1):=by
 refine Z7k (by simp [Z2S]) fun x hx=>?_;have hx:x<l.length:=by simpa [Z2S] using hx
 rw [Zap,Zap,Y14,Z2S,Z4o l (i+1) hx,Z4o l i hx,Z4o l i (show l.length-1-i<l.length by omega),Z4o l i (show i<l.length by omega)];by_cases h1:x=l.length-1-i
 . rw [Y5 ⟨h1, by omega⟩, Y6 (by omega), Y5 (by omega)];rw [h1,show l.length-1-(l.length-1-i)=i by omega]
 . rw [Y6 (fun c => h1 c.1)];by_cases h2:x=i
   . rw [Y5 ⟨h2,by omega⟩,Y6 (by omega),Y5 (by omega),h2]
   . rw [Y6 (fun c => h2 c.1)];by_cases h3:x<i \/ l.length-i<=x
     . rw [Y5 h3,Y5 (by omega)]
     . rw [Y6 h3,Y6 (by omega)]
theorem Zep (l:List Nat) (hl:l.length<=1000000):X2v Tryz.prog 172 (fun i => [.own i]) ⟨1,X14 .u8 l⟩ fun r b'=>b'=⟨1,X14 .u8 l.reverse⟩:=by
 have hl1:=Z2a .u8 l;refine Z7f ok172 (Y0 rfl) fun C hC=>?_;refine gd 5 ⟨?_⟩;refine Zh (v:=(l.length:Int)) rfl rfl rfl (by rw [hl1]) ?_;refine Zh (v:=(l.length:Int)-1-((0:Nat):Int)) rfl rfl rfl (by rw [Int.natCast_zero,Int.sub_zero]; exact Y0v _ ⟨by omega,by omega⟩) ?_;refine go ?_;refine ZB hC (fun i=>2*i<=l.length+1) (fun i=>l.length+1-i) 1 (fun i => [(0,.own 0),(2,Yv i),(3,.val (.int .i64 ((l.length:Int)-1-(i:Int))))]) (fun i => [(0,⟨1,X14 .u8 (X3t l i)⟩)]) (by decide) 0 (by omega)
  ⟨⟨rfl,Y1K⟩,⟨rfl,Yt⟩,⟨rfl,Yt⟩,Yt⟩ ⟨⟨by decide,by rw [ZgE]; rfl,Ze (fun _ h=>h.elim) _ (Z3w _ _)⟩,Yt⟩ ?_
 intro i hi;have hrl:=Z2S l i;have hinc:IntKind.i64.wrap ((i:Int)+1)=((i+1:Nat):Int):=Y0v _ ⟨by omega,by omega⟩;have hdec:IntKind.i64.wrap ((l.length:Int)-1-(i:Int)-1)=(l.length:Int)-1-((i+1:Nat):Int):=by
  rw [show (l.length:Int)-1-(i:Int)-1=(l.length:Int)-1-((i+1:Nat):Int) by omega];exact Y0v _ ⟨by omega,by omega⟩
 refine gd 9 ⟨?_⟩;by_cases hil:2*i+1<l.length
 . refine Qo (Qy rfl (by omega)) ?_;have hj:l.length-1-i<(X3t l i).length:=by omega
   have hi2:i<(X3t l i).length:=by omega
   refine gd 20 ⟨?_⟩;refine Qr (ZO rfl rfl rfl (l.length-1-i) (by omega) (by rw [Z2a]; exact hj) rfl) ?_;refine Qr (ZkS (kd:=.u8) (L:=X3t l i) rfl rfl hj) ?_;refine gd 24 ⟨?_⟩;refine Qr (ZO rfl rfl rfl i rfl (by rw [Z2a]; exact hi2) rfl) ?_;refine Qr (ZkS (kd:=.u8) (L:=X3t l i) rfl rfl hi2) ?_;refine Qr (ZO rfl rfl rfl i rfl (by rw [Z2a]; exact hi2) rfl) ?_;refine Qr (ZkT (kd:=.u8) (L:=X3t l i) rfl rfl rfl hi2) ?_;refine Qr (ZO rfl rfl rfl (l.length-1-i) (by omega) (by rw [Z2a,Y14]; exact hj) rfl) ?_;refine Qr (ZkT (kd:=.u8) rfl rfl rfl (by rw [Y14]; exact hj)) ?_;rw [ZgF l hil];refine go ?_;exact⟨i+1,by omega,by omega,⟨⟨rfl,Y1K⟩,⟨by show some _=some _; rw [hinc],Yt⟩,⟨by show some _=some _; rw [hdec],Yt⟩,Yt⟩,⟨⟨by decide,rfl,Ze (fun _ h=>h.elim) _ (Z3w _ _)⟩,Yt⟩⟩
 . refine Qo (Qz rfl (by omega)) ?_;refine go ?_;exact⟨_,_,rfl,.inl rfl,_,rfl,Yt,Z3w _ _,by rw [Zig l (by omega)]⟩
end
section
open Go.RowKit
def kid1 (q:List PV) (i:Nat):Bx:=⟨q.length+1,[.own i :: q]⟩
section
variable {P:Program} {C:Ctx} {Fr:Nat->Prop} {e:Env} {h:X1} {n:Nat} {F:XF} {φ:XD} {a:Act} {w:World}
theorem X2t.kid1 {φ':XD} {loc:Loc} {q:List PV} {i i':Nat} (h2:X2t F φ w loc (kid1 q i)) (hi:φ i=φ' i') (hq:X6 q):X2t F φ' w loc (Go.Proofs.YtbfbcdjjhhcbaaaGreatDoor.kid1 q i'):=by
 have h2:=h2.cellsB (show 0<q.length+1 by omega);refine .inl ⟨h2.esz,h2.pos,h2.len,h2.cap,h2.max,fun c hc=>?_,fun hc=>?_⟩
 . have hc : c ∈ [PV.own i' :: q] := hc;rw [Y0g] at hc;subst hc;rw [<- h2.esz]; rfl
 . obtain ⟨x, hx, hs, cells, t, hg, hsz, hrep⟩ := h2.room hc;refine⟨x,hx,hs,cells,t,hg,hsz,fun a b ha hb=>⟨(hrep a b ha hb).1,?_⟩⟩;have hr:=(hrep a b ha hb).2;have hl:loc.len=1:=by rw [<- h2.len]; rfl
   obtain rfl:a=0:=by omega
   match b,hr with
   | 0,hr=>exact Z7j hi hr
   | b+1,hr=>exact Rep.pure (p:=q.getD b pvu) hr (ZL hq b)
def X1j (P:Program) (f:FuncId) (pre post q:List PV) (b1:Bx) (R:PV->Bx->Prop):Prop :=
 XX P f 2 (pre++.ptr 0 0 0 :: post) (XE [(0,kid1 q 1),(1,b1)]) fun n' r h'=>∃ j1 b1',j1≠0/\h' 0=some (kid1 q j1)/\h' j1=some b1'/\r.pure/\X2 b1'.elems/\R r b1'
theorem X1j.run {f:FuncId} {pre post q:List PV} {b1:Bx} {R:PV->Bx->Prop} (hs:X1j P f pre post q b1 R) (hpre:X6 pre) (hpost:X6 post) (hq:X6 q) (hp1:X2 b1.elems) {k i n:Nat} (hn:Fr n) (hk:h k=some (kid1 q i)) (hi:h i=some b1) (hik:i≠k)
 (s:St' C Fr e h F φ a w) {vs:Array Value} (hv:X1B F φ vs (pre++.ptr k 0 0 :: post)) :
 Calls P f vs w fun en w'=>∃ v r b1' F' φ',en=.returned v/\(r.pure/\X2 b1'.elems/\R r b1')/\Rep F' φ' v r/\St' C (fun x=>Fr x/\x≠n) e (((h.del i).upd k (kid1 q n)).upd n b1') F' φ' a w':=by
 obtain⟨lk,hlk,hbk,hhk⟩:=s.live k _ hk;obtain⟨li,hli,hbi,hhi⟩:=s.live i _ hi
 let φ1:XD:=fun x=>if x=0 then some lk else if x=1 then some li else none
 let C1:Ctx:=⟨w,fun g=>lk.has g \/ li.has g,F,C.nt,φ1⟩
 have hφn:φ n=none:=s.free n hn;have hnone:∀ {x:Nat} {bx:Bx},h x=some bx->x≠n:=by
  intro x bx hx;obtain⟨loc,h1,_⟩:=s.live x bx hx;exact fun e=>(by rw [e,hφn] at h1; cases h1)
 have hG:∀ g,C1.G g->C.w0.heap.size<=g \/ C.G g:=fun g hg=>hg.elim (fun h=>(hhk g h).1) fun h=>(hhi g h).1;have hth:∀ {loc:Loc} {b:Bx} {g:Nat},X2t F φ w loc b->loc.has g->∀ o:Obj,w.heap[g]?=some o->¬ o=.deferred (some []):=by
  rintro loc b g hb hg o ho rfl;rcases hb.there hg with⟨cells,t,hg⟩|⟨es,t,hg⟩
  . rw [hg] at ho; cases ho
  . rw [hg] at ho; cases ho
 have hcells:∀ g,C1.G g->∀ o:Obj,w.heap[g]?=some o->¬ o=.deferred (some []):=fun g hg=>hg.elim (hth hbk) (hth hbi);have h0:∀ {x:Nat} {b0:Bx},(XE [(0,kid1 q 1),(1,b1)]) x=some b0->(x=0/\b0=kid1 q 1) \/ (x=1/\b0=b1):=by
  intro x b0 hx;have:=Z1F hx;simp only [Y9,Y2T,Y2a,Y44] at this;exact this
 have s1:St' C1 (fun x=>2<=x) (fun _=>none) (XE [(0,kid1 q 1),(1,b1)]) F φ1 { a with defers := [] } w:=by
  refine { nt:=s.nt,glob:=s.glob,marks:=X1l.nil rfl,loc0:=fun i x hx=>hx,free:=fun i hi=>?_,env:=fun j p hp=>(by cases hp),froz:=s.froz,ext:=fun _ _ h=>h,old:=fun _ _ _=>rfl,os:=rfl,tape:=rfl,output:=rfl,size:=Y0m _,kept:=fun _ _ _=>rfl,live:=fun x b0 hx=>?_,sep:=fun x y bx bY lx ly g hx hy hlx hly hgx hgy=>?_ }
  . simp only [φ1]; rw [Y6 (by omega),Y6 (by omega)]
  . rcases h0 hx with ⟨rfl, rfl⟩ | ⟨rfl, rfl⟩
    . exact⟨lk,rfl,hbk.kid1 (by rw [hli]; rfl) hq,fun g hg=>⟨.inr (.inl hg),(hhk g hg).2⟩⟩
    . exact⟨li,rfl,hbi.names hp1,fun g hg=>⟨.inr (.inr hg),(hhi g hg).2⟩⟩
  . rcases h0 hx with ⟨rfl, rfl⟩ | ⟨rfl, rfl⟩ <;> rcases h0 hy with ⟨rfl, rfl⟩ | ⟨rfl, rfl⟩ <;> first | rfl | skip
    all_goals
     obtain rfl:=YN hlx;obtain rfl:=YN hly;exfalso
    . exact hik (s.sep k i _ _ _ _ g hk hi hlk hli hgx hgy).symm
    . exact hik (s.sep i k _ _ _ _ g hi hk hli hlk hgx hgy)
 have hv1:X1B F φ1 vs (pre++.ptr 0 0 0 :: post):=Z8i hpre hpost (fun v hr=>by
  obtain⟨loc',x,g1,gz,g2,g3,g4⟩:=hr.ptr_inv;obtain rfl:loc'=lk:=by rw [hlk] at g1; simpa using g1.symm
  rw [g4]
  exact .ptr 0 0 0 loc' x rfl gz g2 g3) hv
 refine (hs.2 C1 _ F φ1 { a with defers := [] } w vs s1 hv1).mono ?_;rintro en w' ⟨v,r,n',h',F',φ',rfl,⟨j1,b1',hj10,hh0,hh1,hrp,hp1',hR⟩,hvr,s'⟩;obtain⟨l0,m01,m02,m03⟩:=s'.live 0 _ hh0;obtain⟨l1,m11,m12,m13⟩:=s'.live j1 _ hh1;obtain rfl:l0=lk:=by
  have:=s'.loc0 0 lk rfl;rw [m01] at this; exact YN this
 let φ2:XD:=fun x=>if x=n then some l1 else φ x
 have hφ2:φ2 n=some l1:=by simp [φ2]
 have hφ3:∀ {x:Nat},x≠n->φ2 x=φ x:=fun {x} h1=>by simp only [φ2]; rw [Y6 h1]
 have hφ4:∀ x y,φ x=some y->φ2 x=some y:=fun x y hx=>by
  rw [hφ3 (fun e=>by rw [e,hφn] at hx; cases hx)]; exact hx
 have hkn:=hnone hk;have src:∀ {x:Nat} {bx:Bx},(((h.del i).upd k (kid1 q n)).upd n b1') x=some bx ->
  (x=n/\bx=b1') \/ (x=k/\bx=kid1 q n) \/ (x≠k/\x≠i/\h x=some bx):=by
  intro x bx hx;by_cases e2:x=n
  . subst e2; rw [X1.upd_same] at hx; exact .inl ⟨rfl,(YN hx).symm⟩
  rw [X1.upd_ne _ _ e2] at hx;by_cases e3:x=k
  . subst e3; rw [X1.upd_same] at hx; exact .inr (.inl ⟨rfl,(YN hx).symm⟩)
  rw [X1.upd_ne _ _ e3] at hx;obtain⟨e5,hx⟩:=X1.del_some hx;exact .inr (.inr ⟨e3,e5,hx⟩)
 have hold:∀ {x:Nat} {bx:Bx} {lx:Loc} {g:Nat},x≠k->x≠i->h x=some bx->φ x=some lx->lx.has g->¬ C1.G g:=by
  intro x bx lx g h1 h2 hx hlx hg hG;rcases hG with hg' | hg'
  . exact h1 (s.sep x k _ _ _ _ g hx hk hlx hlk hg hg')
  . exact h2 (s.sep x i _ _ _ _ g hx hi hlx hli hg hg')
 have hnew:∀ {lx:Loc} {g:Nat},(w.heap.size<=g \/ C1.G g)->C.w0.heap.size<=g \/ C.G g:=fun {lx g} h1=>h1.elim (fun h1=>.inl (Y03 s.size h1)) (hG g);refine⟨v,r,b1',F',φ2,rfl,⟨hrp,hp1',hR⟩,hvr.pure hrp,?_⟩
 refine { nt := s.nt, glob := s'.glob, marks := s.marks.mono (fun g hg => by rw [s'.kept g (Y7.1 hg).1 (fun hg' => hcells g hg' _ hg rfl)]; exact hg), loc0 := fun i x hx => hφ4 i x (s.loc0 i x hx), free := fun x hx => by rw [hφ3 hx.2]; exact s.free x hx.1, env := fun j p hp => ⟨(s.env j p hp).1, (s.env j p hp).2.mono s'.ext hφ4⟩, froz := s'.froz, ext := fun x v hx => s'.ext _ _ (s.ext x v hx),
          old:=fun x hx hg=>?_,os:=s'.os.trans s.os,tape:=s'.tape.trans s.tape,output:=s'.output.trans s.output,size:=Y03 s.size s'.size,kept:=fun g hk hg=>?_,live:=fun x bx hx=>?_,sep:=fun x y bx bY lx ly g hx hy hlx hly hgx hgy=>?_ }
 . have hx2 : x.block < w.heap.size := YE hx s.size;rw [s'.old x hx2 fun hg'=>(hG _ hg').elim (fun h1=>absurd hx (Y1T.2 h1)) hg];exact s.old x hx hg
 . rw [s'.kept g (YE hk s.size) fun hg' => (hG _ hg').elim (fun h1 => absurd hk (Y1T.2 h1)) hg];exact s.kept g hk hg
 . rcases src hx with ⟨rfl, rfl⟩ | ⟨rfl, rfl⟩ | ⟨h1, h2, hx⟩
   . exact⟨l1,hφ2,m12.names hp1',fun g hg=>⟨hnew (lx:=l1) (m13 g hg).1,(m13 g hg).2⟩⟩
   . exact⟨l0,hφ4 _ _ hlk,m02.kid1 (by rw [m11,hφ2]) hq,fun g hg=>⟨(hhk g hg).1,(m03 g hg).2⟩⟩
   . obtain ⟨lx, g1, g2, g3⟩ := s.live x bx hx;have hout:∀ g,lx.has g->¬ C1.G g:=fun g hg=>hold h1 h2 hx g1 hg;have hblk:∀ g,lx.has g->w'.heap[g]?=w.heap[g]?:=fun g hg=>s'.kept g (s.has_lt hx g1 hg) (hout g hg);have hne:=hnone hx;refine⟨lx,by rw [hφ3 hne]; exact g1,g2.mono s'.ext hφ4 hblk,fun g hg=>⟨(g3 g hg).1,fun z hz=>?_⟩⟩;rw [s'.old z (by rw [hz]; exact s.has_lt hx g1 hg) (by rw [hz]; exact hout g hg)];exact (g3 g hg).2 z hz
 . have cls : ∀ {x : Nat} {bx : Bx} {lx : Loc} {g : Nat}, (((h.del i).upd k (kid1 q n)).upd n b1') x = some bx -> φ2 x = some lx -> lx.has g ->
    (h x=some bx/\φ x=some lx/\g<w.heap.size/\¬ C1.G g) \/ ((w.heap.size<=g \/ C1.G g)/\∃ y b',h' y=some b'/\φ' y=some lx/\((x=n/\y=j1) \/ (x=k/\y=0))):=by
    intro x bx lx g hx hlx hg;rcases src hx with⟨rfl,rfl⟩|⟨rfl,rfl⟩|⟨h1,h2,hx⟩
    . rw [hφ2] at hlx; cases hlx;exact .inr ⟨(m13 g hg).1,j1,_,hh1,m11,.inl ⟨rfl,rfl⟩⟩
    . rw [hφ4 _ _ hlk] at hlx; cases hlx;exact .inr ⟨(m03 g hg).1,0,_,hh0,m01,.inr ⟨rfl,rfl⟩⟩
    . have hne := hnone hx;rw [hφ3 hne] at hlx;exact .inl ⟨hx,hlx,s.has_lt hx hlx hg,hold h1 h2 hx hlx hg⟩
   rcases cls hx hlx hgx with⟨a1,a2,a3,a4⟩|⟨a1,y1,c1,a2,a3,a4⟩<;>rcases cls hy hly hgy with⟨d1,d2,d3,d4⟩|⟨d1,y2,c2,d2,d3,d4⟩
   . exact s.sep x y bx bY lx ly g a1 d1 a2 d2 hgx hgy
   . rcases d1 with d1 | d1
     . omega
     . exact absurd d1 a4
   . rcases a1 with a1 | a1
     . omega
     . exact absurd a1 d4
   . have := s'.sep y1 y2 c1 c2 lx ly g a2 d2 a3 d3 hgx hgy;subst this;rcases a4 with⟨rfl,rfl⟩|⟨rfl,rfl⟩<;>rcases d4 with⟨rfl,e⟩|⟨rfl,e⟩<;>first|rfl|omega
theorem X1j.frame {f:FuncId} {pre post q:List PV} {b1:Bx} {R:PV->Bx->Prop} (hs:X1j P f pre post q b1 R) (hpre:X6 pre) (hpost:X6 post) (hq:X6 q) (hp1:X2 b1.elems) {k i n:Nat} (hk:h k=some (kid1 q i)) (hi:h i=some b1) (hik:i≠k) :
 XX P f n (pre++.ptr k 0 0 :: post) h fun n' r h'=>∃ b1',n'=n+1/\h'=((h.del i).upd k (kid1 q n)).upd n b1'/\r.pure/\X2 b1'.elems/\R r b1':=by
 refine⟨hs.1,fun C e F φ a w vs s hv=>(hs.run hpre hpost hq hp1 (n:=n) (Y0m n) hk hi hik s hv).mono ?_⟩;rintro en w' ⟨v,r,b1',F',φ',rfl,⟨h1,h2,h3⟩,hr,s'⟩;exact⟨v,r,n+1,_,F',φ',rfl,⟨b1',rfl,rfl,h1,h2,h3⟩,hr,{ s' with free:=fun i hi=>s'.free i ⟨by omega,by omega⟩ }⟩
theorem Z14 {f:Operand} {args:List Operand} {g:FuncId} {caps as0 pre post q:List PV} {b1:Bx} {k i:Nat} {R:PV->Bx->Prop} {d:Option Nat} {os:List Xl} {n:Nat} {K:Nat->Env->X1->Prop} (hs:X1j P g pre post q b1 R) (hf:ev e f=some (.fn g caps)) (ha:evs e args=some as0) (hr:as0++caps=pre++.ptr k 0 0 :: post) (hk:h k=some (kid1 q i)) (hi:h i=some b1) (hik:i≠k) (hpre:X6 pre) (hpost:X6 post) (hq:X6 q) (hp1:X2 b1.elems)
 (hK:∀ r b1',r.pure->X2 b1'.elems->R r b1'->Xk P os (n+1) (Xy e d r) (((h.del i).upd k (kid1 q n)).upd n b1') K):Xk P (⟨d,.call f args,none⟩ :: os) n e h K:=by
 refine Z1d hf ha (R:=fun n' r h'=>∃ b1',n'=n+1/\h'=((h.del i).upd k (kid1 q n)).upd n b1'/\r.pure/\X2 b1'.elems/\R r b1') (by rw [hr]; exact hs.frame hpre hpost hq hp1 hk hi hik) ?_;rintro n' r h' ⟨b1',rfl,rfl,h1,h2,h3⟩;exact hK r b1' h1 h2 h3
theorem Z2T {f nt:Nat} {ac:X4} {rs:List X27} (hf:X3R P f nt ac rs) {pre post q:List PV} {b1:Bx} {R:PV->Bx->Prop} (hn:(pre++.ptr 0 0 0 :: post).length<=nt)
 (hk:∀ C:Ctx,C.dom 2->aw P C ac (X5w rs fun n' r h'=>∃ j1 b1',j1≠0/\h' 0=some (kid1 q j1)/\h' j1=some b1'/\r.pure/\X2 b1'.elems/\R r b1') 2 (XQ (pre++.ptr 0 0 0 :: post)) (XE [(0,kid1 q 1),(1,b1)])):X1j P f pre post q b1 R :=
 Z1y hf hn hk
theorem Z7w {ob i0 j0:Nat} {bo:Bx} (esz:Nat) (hp:0<esz) (hob:h ob=some bo) (hi0:i0<bo.elems.length) (hj0:j0<(bo.elems.getD i0 []).length) (hcell:(bo.elems.getD i0 []).getD j0 pvu=.vec [] true) (hz:0<bo.esz:=by exact Y0 rfl) :
 Sub C n e h (n+1) e ((h.upd n ⟨esz,[]⟩).upd ob ⟨bo.esz,bo.elems.set i0 ((bo.elems.getD i0 []).set j0 (.own n))⟩):=by
 rintro a w ⟨F,φ,s⟩;obtain⟨lo,o1,o2,o3⟩:=s.live ob bo hob;have o2:=o2.cellsB hz;have hcl:(bo.elems.getD i0 []).length=lo.esz:=o2.el _ (by simp [Y0b,hi0]);have hc0o:lo.cap≠0:=by have:=o2.cap; have:=o2.len; omega
 obtain⟨ado,hbaseo,hso,cellso,cto,hgo,hroomo,hrepo⟩:=o2.room hc0o;have hr0:=(hrepo i0 j0 (by rw [<- o2.len]; exact hi0) (by rw [<- hcl]; exact hj0)).2;rw [hcell] at hr0;have hbase:∃ base,cellso.getD (ado.off+(i0*lo.esz+j0)) undef=.slice base 0 0:=by
  rcases hr0.vec_inv with⟨_,h⟩|⟨x,cap,esz',cs,h,_,_,hf,_⟩
  . exact⟨none,h⟩
  . exact⟨some x,by rw [h,hf rfl]; rfl⟩
 obtain⟨base,hb⟩:=hbase;have hno:ob≠n:=fun e1=>by
  have:=s.free n (Y0m n);rw [<- e1,o1] at this; cases this
 have hfr:∀ i,n+1<=i->n<=i/\i≠n:=fun i hi=>⟨by omega,by omega⟩
 have s1:=(s.allocNil (Y0m n) base esz hp).weaken hfr;have hext:=Z17 (s.free n (Y0m n)) ⟨base,esz,0,0⟩;have o1':=hext _ _ o1;have hdel:(h.upd n ⟨esz,[]⟩) ob=some bo:=by rw [X1.upd_ne _ _ hno]; exact hob
 have fin:∀ {φ':XD},(∀ x v,φ x=some v->φ' x=some v)->φ' ob=some lo->St' C (fun i=>n+1<=i) e (h.upd n ⟨esz,[]⟩) F φ' a w->Rep F φ' (cellso.getD (ado.off+(i0*lo.esz+j0)) undef) (.own n) ->
  St C (fun i=>n+1<=i) e ((h.upd n ⟨esz,[]⟩).upd ob ⟨bo.esz,bo.elems.set i0 ((bo.elems.getD i0 []).set j0 (.own n))⟩) a w:=by
  intro φ' hx ho' s2 hrep;refine⟨F,φ',{ s2 with live:=fun i bi hi=>?_,sep:=fun i j bi bj li lj k hi hj hli hlj hki hkj=>?_ }⟩
  . by_cases hio : i = ob
    . subst hio;rw [X1.upd_same] at hi;cases hi;obtain⟨l2,g1,g2,g3⟩:=s2.live i bo hdel;obtain rfl:l2=lo:=by rw [g1] at ho'; simpa using ho'
      refine⟨l2,g1,.inl ⟨o2.esz,o2.pos,by simpa using o2.len,o2.cap,o2.max,fun c hc=>?_,fun _=>⟨ado,hbaseo,hso,cellso,cto,hgo,hroomo,fun i' j' hi' hj'=>?_⟩⟩,g3⟩
      . rcases Y1R hc with h | h
        . exact o2.el c h
        . rw [h,Y14]; exact hcl
      . refine ⟨(hrepo i' j' hi' hj').1, ?_⟩;by_cases hii:i'=i0
        . subst hii;have e1:(bo.elems.set i' ((bo.elems.getD i' []).set j0 (.own n))).getD i' []=(bo.elems.getD i' []).set j0 (.own n):=by
           rw [Y0b,YW]; simp [hi0]
          rw [e1];by_cases hjj:j'=j0
          . subst hjj;have e2:((bo.elems.getD i' []).set j' (.own n)).getD j' pvu=.own n:=by
             rw [Y0b,YW,Y5 rfl,Y5 hj0]; rfl
            rw [e2];exact hrep
          . have e2 : ((bo.elems.getD i' []).set j0 (.own n)).getD j' pvu = (bo.elems.getD i' []).getD j' pvu := by
             rw [Y0b,YW,Y6 (Y25 hjj),<- Y0b]
            rw [e2];exact (hrepo i' j' hi' hj').2.mono (fun _ _ h=>h) hx
        . have e1 : (bo.elems.set i0 ((bo.elems.getD i0 []).set j0 (.own n))).getD i' [] = bo.elems.getD i' [] := by
           rw [Y0b,YW,Y6 (Y25 hii),<- Y0b]
          rw [e1];exact (hrepo i' j' hi' hj').2.mono (fun _ _ h=>h) hx
    . rw [X1.upd_ne _ _ hio] at hi;exact s2.live i bi hi
  . have conv : ∀ {i : Nat} {bi : Bx}, ((h.upd n ⟨esz, []⟩).upd ob ⟨bo.esz, bo.elems.set i0 ((bo.elems.getD i0 []).set j0 (.own n))⟩) i = some bi -> ∃ b0, (h.upd n ⟨esz, []⟩) i = some b0 := by
     intro i bi hi;by_cases hio:i=ob
     . subst hio; exact⟨bo,hdel⟩
     . rw [X1.upd_ne _ _ hio] at hi; exact⟨bi,hi⟩
    obtain⟨b1,g1⟩:=conv hi
    obtain⟨b2,g2⟩:=conv hj
    exact s2.sep i j b1 b2 li lj k g1 g2 hli hlj hki hkj
 refine fin hext o1' s1 ?_;rw [hb];exact .own n ⟨base,esz,0,0⟩ (by simp [Xf]) hp
theorem Z2H {ob i0 j0:Nat} {bo:Bx} (esz:Nat) (hp:0<esz) (hob:h ob=some bo) (hi0:i0<bo.elems.length) (hj0:j0<(bo.elems.getD i0 []).length) (hcell:(bo.elems.getD i0 []).getD j0 pvu=.vec [] true) (hz:0<bo.esz:=by exact Y0 rfl) :
 X49 n e h (n+1) e ((h.upd n ⟨esz,[]⟩).upd ob ⟨bo.esz,bo.elems.set i0 ((bo.elems.getD i0 []).set j0 (.own n))⟩):=fun _=>Z7w esz hp hob hi0 hj0 hcell hz
end
end
section
open Go.RowKit
attribute [local irreducible] aw Xk dK
def gR:Nat->Nat->List Nat
 | 0,_ => []
 | f+1,v=>if v=0 then [] else ((v &&& 127) ||| 128) :: gR f (v / 128)
def grp (v:Nat):List Nat:=((v &&& 127) :: gR v (v / 128)).reverse
theorem Zc1:∀ (f f' v:Nat),v<=f->v<=f'->gR f v=gR f' v
 | 0,0,_,_,_=>rfl
 | 0, f' + 1, v, h, _ => by
   obtain rfl:v=0:=by omega
   rfl
 | f + 1, 0, v, _, h => by
   obtain rfl:v=0:=by omega
   rfl
 | f + 1, f' + 1, v, h, h' => by
   show (if v=0 then [] else _)=(if v=0 then [] else _)
   split
   . rfl
   . rw [Zc1 f f' (v / 128) (by omega) (by omega)]
theorem ZjK (f:Nat):gR f 0 = []:=by cases f<;>rfl
theorem ZjL {v:Nat} (h:v≠0):gR v v=((v &&& 127) ||| 128) :: gR (v / 128) (v / 128):=by
 obtain⟨f,rfl⟩:∃ f,v=f+1:=⟨v-1,by omega⟩
 show (if f+1=0 then [] else ((f+1 &&& 127) ||| 128) :: gR f ((f+1) / 128))=_;rw [Y6 (by omega),Zc1 f ((f+1) / 128) ((f+1) / 128) (by omega) (Y0m _)]
theorem ZiQ:∀ (f v:Nat),(gR f v).length<=v
 | 0,v=>Y0l _
 | f + 1, v => by
   show (if v=0 then [] else ((v &&& 127) ||| 128) :: gR f (v / 128)).length<=v
   split
   . exact Y0l _
   . have := ZiQ f (v / 128);rw [Y04];omega
theorem Z1J (v:Nat):(grp v).length<=v+1:=by
 unfold grp;rw [List.length_reverse,Y04];have:=ZiQ v (v / 128);omega
theorem Zlx:∀ (f v:Nat),W8 (gR f v)
 | 0,_=>fun _ hx=>by cases hx
 | f + 1, v => fun x hx => by
   change x∈(if v=0 then [] else ((v &&& 127) ||| 128) :: gR f (v / 128)) at hx
   split at hx
   . cases hx
   . rcases Y9.1 hx with rfl | hx
     . exact Y2l (n:=8) (Y02 Y29 (by decide)) (by decide)
     . exact Zlx f _ x hx
theorem Zaq (v:Nat):W8 (grp v):=fun x hx=>by
 rcases Y9.1 (List.mem_reverse.1 hx) with rfl|hx
 . exact Y02 Y29 (by decide)
 . exact Zlx _ _ x hx
theorem Z9k (l m:List Nat):bys (l++m)=bys l++bys m:=by unfold bys; rw [Y0r]
theorem Z7l (l:List Nat):(bys l).length=l.length:=by simp [bys]
theorem ZgG (l:List Nat):∀ c∈bys l,c.length=1:=fun c hc=>by obtain⟨y,_,rfl⟩:=Y0i.1 hc; rfl
theorem Zih (v:Nat) (hv:v<1000000):Xa Tryz.prog 138 [.val (.int .u64 (v:Int))] (· = .vec (bys (grp v)) false):=by
 refine Yp ok138 fun C hC=>?_;have hshr:∀ x:Nat,Int.fdiv (x:Int) (2 ^ (min ((7:Nat):Int).toNat IntKind.u64.bits))=((x / 128:Nat):Int):=fun x=>X5m x 7 (by decide);have hand:∀ x:Nat,x<1000000->bits .and .u64 (x:Int) ((127:Nat):Int)=((x &&& 127:Nat):Int):=fun x hx=>Y28 x 127 (by omega) (by decide);have hu8:∀ x:Nat,IntKind.u8.wrap ((x &&& 127:Nat):Int)=((x &&& 127:Nat):Int):=fun x=>by
  have:x &&& 127<=127:=Y29;exact Y3G _ ⟨by omega,by omega⟩
 refine gd 5 ⟨?_⟩;refine Zh (v:=((v &&& 127:Nat):Int)) rfl rfl rfl (hand v hv) ?_;refine Zh (v:=((v &&& 127:Nat):Int)) rfl rfl rfl (hu8 v) ?_;refine Z4y rfl rfl rfl ?_;refine gd 9 ⟨?_⟩;refine Z3j rfl rfl (by decide) (hshr v) rfl ?_;refine go ?_;refine ZC hC (fun x:List Nat×Nat=>x.2<1000000/\x.1.length+x.2<=v+1/\x.1++gR x.2 x.2=(v &&& 127) :: gR v (v / 128)) (fun x=>x.2) 1 (fun x => [(0,.val (.int .u64 (x.2:Int))),(3,.own 0)]) (fun x => [(0,⟨1,bys x.1⟩)]) (by decide) ([v &&& 127],v / 128) ⟨by show v / 128<_; omega,by show 1+v / 128<=_; omega,by show _ :: gR (v / 128) (v / 128)=_; rw [Zc1 (v / 128) v (v / 128) (Y0m _) (by omega)]⟩
  (fun i=>i) (fun _ _=>rfl) (Zu rfl) ⟨Qp Yt,⟨_,rfl,.own 0 (by decide)⟩,Yt⟩ ⟨⟨by decide,⟨1,bys [v &&& 127]⟩,rfl,.same _ (Zg _)⟩,Yt⟩ ?_
 rintro⟨acc,y⟩ ⟨hy,hyl,hyt⟩;dsimp only at hy hyl hyt;refine gd 11 ⟨?_⟩;by_cases h0:y=0
 . refine Qo (Qz rfl (by show ¬ ((y : Int) > 0); omega)) ?_;rw [h0,ZjK,Y0p] at hyt;refine gd 22 ⟨?_⟩;refine ZkJ 0 (Zep acc (by omega)) (Z9d Z24 Zgg) rfl rfl rfl rfl (Zg _) ?_;rintro r b' hr1 hr2 rfl;refine gd 23 ⟨?_⟩;refine Zb (Zn (k:=3) (b:=⟨1,X14 .u8 acc.reverse⟩) rfl rfl (Z3w _ _)) ?_;refine go ?_;exact Z8 rfl (Zg _) (by show PV.vec (bys acc.reverse) false=_; rw [hyt]; rfl)
 . refine Qo (Qy rfl (by show ((y : Int) > 0); omega)) ?_;rw [ZjL h0] at hyt;refine gd 16 ⟨?_⟩;refine Zh (v:=((y &&& 127:Nat):Int)) rfl rfl rfl (hand y hy) ?_;refine Zh (v:=((y &&& 127:Nat):Int)) rfl rfl rfl (hu8 y) ?_;refine Zh (v:=(((y &&& 127) ||| 128:Nat):Int)) rfl rfl rfl (u8_or_nat (y &&& 127) 128 (Y02 Y29 (by decide)) (by decide)) ?_;(first|refine st ?_|(apply B<;>intro hb<;>try cases hb))
   refine ZH (Zt (k:=0) (m:=bys [(y &&& 127) ||| 128]) (fl:=true) rfl rfl rfl (ZgG _) rfl (by
    show ((bys acc).length+1)*1<=_
    rw [Z7l];omega)) rfl rfl ?_
   refine gd 13 ⟨?_⟩;refine Z3j rfl rfl (by decide) (hshr y) rfl ?_;refine go ?_;refine⟨(acc ++ [(y &&& 127) ||| 128],y / 128),mv 0 1,⟨by show y / 128<_; omega,by show (acc ++ [_]).length+y / 128<=_; rw [Y0e,Y0s]; omega,by show (acc ++ [_])++gR (y / 128) (y / 128)=_; rw [YU]; exact hyt⟩,by show y / 128<y; omega,Z4X (by decide),Zu rfl,⟨Qp Yt,⟨_,rfl,.own 0 (by decide)⟩,Yt⟩,⟨⟨by decide,_,rfl,by rw [Z9k]; exact .same _ (by rw [<- Z9k]; exact Zg _)⟩,Yt⟩⟩
abbrev wBx (l:List Nat):Bx:=⟨1,bys l⟩
theorem Zii (l p:List Nat) (fl:Bool) (hb:l.length+p.length<=1000000):X1j Tryz.prog 137 [] [.vec (bys p) fl] [] (wBx l) (fun _ b'=>b'=wBx (l++p)):=by
 refine Z2T ok137 (Y0 rfl) fun C hC=>?_;refine gd 12 ⟨?_⟩
 refine ZH (Zt (k:=1) (m:=bys p) (fl:=fl) (b:=wBx l) rfl rfl rfl (ZgG _) rfl (by
  show ((bys l).length+(bys p).length)*1<=_
  rw [Z7l,Z7l];omega)) rfl rfl ?_
 iterate 2 (first|refine st ?_|(apply B<;>intro hb<;>try cases hb))
 refine Qo (Z1T (size:=1) (k:=0) (i:=0) (off:=0) (b:=kid1 [] 1) (p:=.own 2) rfl rfl rfl rfl rfl (by decide) (by decide)) ?_;refine go ?_;exact⟨_,_,rfl,.inl rfl,2,_,by decide,rfl,rfl,Yt,by show X2 (bys l++bys p); rw [<- Z9k]; exact Zg _,by show (⟨1,bys l++bys p⟩:Bx)=_; rw [<- Z9k]⟩
theorem Z5X (l:List Nat) (v:Nat) (hv:v<1000000) (hb:l.length+v<1000000):X1j Tryz.prog 77 [] [.val (.int .u64 (v:Int))] [] (wBx l) (fun _ b'=>b'=wBx (l++grp v)):=by
 refine Z2T ok77 (Y0 rfl) fun C hC=>?_;have hgl:=Z1J v;refine gd 6 ⟨?_⟩;refine Qe (Zih v hv) ⟨Yt,Yt⟩ ?_;refine Z14 (k:=0) (i:=1) (Zii l (grp v) false (by omega)) rfl rfl rfl rfl rfl (by decide) Yt ⟨Zg _,Yt⟩ Yt (Zg _) ?_;rintro r b' hr1 hr2 rfl;refine go ?_;exact⟨_,_,rfl,.inl rfl,2,_,by decide,rfl,rfl,Yt,Zg _,rfl⟩
def wB (p:List Nat):List Nat:=grp p.length++p
theorem Z6s (l p:List Nat) (fl:Bool) (hb:l.length+2*p.length<900000):X1j Tryz.prog 78 [] [.vec (bys p) fl] [] (wBx l) (fun _ b'=>b'=wBx (l++wB p)):=by
 refine Z2T ok78 (Y0 rfl) fun C hC=>?_;have hgl:=Z1J p.length;refine gd 7 ⟨?_⟩;refine Zh (v:=(p.length:Int)) rfl rfl rfl (by rw [Z7l]; exact Y0x _ ⟨by omega,by omega⟩) ?_;refine Z14 (k:=0) (i:=1) (Z5X l p.length (by omega) (by omega)) rfl rfl rfl rfl rfl (by decide) Yt ⟨Yt,Yt⟩ Yt (Zg _) ?_;rintro r b' hr1 hr2 rfl;refine gd 11 ⟨?_⟩;refine Z14 (k:=0) (i:=2) (Zii (l++grp p.length) p fl (by rw [Y0e];omega)) rfl rfl rfl rfl rfl (by decide) Yt ⟨Zg _,Yt⟩ Yt (Zg _) ?_;rintro r b' hr1 hr2 rfl;refine go ?_;exact⟨_,_,rfl,.inl rfl,3,_,by decide,rfl,rfl,Yt,Zg _,by rw [YU]; rfl⟩
theorem ZkU (l:List Nat) (b:Bool) (hb:l.length<900000):X1j Tryz.prog 81 [] [.val (.bool b)] [] (wBx l) (fun _ b'=>b'=wBx (l ++ [cond b 1 0])):=by
 refine Z2T ok81 (Y0 rfl) fun C hC=>?_;cases b with
 | true =>
   refine gd 7 ⟨?_⟩;refine Z14 (k:=0) (i:=1) (Zii l [1] true (by show l.length+1<=_;omega)) rfl rfl rfl rfl rfl (by decide) Yt ⟨Zg _,Yt⟩ Yt (Zg _) ?_;rintro r b' hr1 hr2 rfl;refine go ?_;exact⟨_,_,rfl,.inl rfl,2,_,by decide,rfl,rfl,Yt,Zg _,rfl⟩
 | false =>
   refine gd 10 ⟨?_⟩;refine Z14 (k:=0) (i:=1) (Zii l [0] true (by show l.length+1<=_;omega)) rfl rfl rfl rfl rfl (by decide) Yt ⟨Zg _,Yt⟩ Yt (Zg _) ?_;rintro r b' hr1 hr2 rfl;refine go ?_;exact⟨_,_,rfl,.inl rfl,2,_,by decide,rfl,rfl,Yt,Zg _,rfl⟩
def sB (N:Nat):List Nat:=if N=0 then [] else [N]
theorem ZjM (N:Nat):X6f N=.vec (bys (sB N)) (decide (N=0)):=by
 unfold X6f sB;by_cases h:N=0
 . subst h; rfl
 . rw [Y6 h,Y6 h,Y0w h]
theorem Z8k (N:Nat):(sB N).length<=1:=by
 unfold sB
 split<;>simp
theorem ZjN (l:List Nat) (N:Nat) (hN:N<256) (hb:l.length<800000):X1j Tryz.prog 80 [] [XH N] [] (wBx l) (fun _ b'=>b'=wBx (l++wB (sB N))):=by
 refine Z2T ok80 (Y0 rfl) fun C hC=>?_;have hsl:=Z8k N;refine gd 6 ⟨?_⟩;refine Qe (Zc0 N hN) ⟨Z2 N,Yt⟩ ?_;rw [ZjM];refine Z14 (k:=0) (i:=1) (Z6s l (sB N) (decide (N=0)) (by omega)) rfl rfl rfl rfl rfl (by decide) Yt ⟨Zg _,Yt⟩ Yt (Zg _) ?_;rintro r b' hr1 hr2 rfl;refine go ?_;exact⟨_,_,rfl,.inl rfl,_,_,by decide,rfl,rfl,Yt,Zg _,rfl⟩
def cB (c:Cu):List Nat:=wB (sB c.1)++wB (sB c.2)
theorem Z5l (p:List Nat):(wB p).length<=2*p.length+1:=by
 unfold wB;rw [Y0e];have:=Z1J p.length;omega
theorem ZgH (c:Cu):(cB c).length<=6:=by
 unfold cB;rw [Y0e];have h1:=Z5l (sB c.1);have h2:=Z5l (sB c.2);have h3:=Z8k c.1;have h4:=Z8k c.2;omega
theorem ZkV (l:List Nat) (c:Cu) (hc:c.1<256/\c.2<256) (hb:l.length<700000):X1j Tryz.prog 82 [] [cuP c] [] (wBx l) (fun _ b'=>b'=wBx (l++cB c)):=by
 refine Z2T ok82 (Y0 rfl) fun C hC=>?_;have h1:=Z5l (sB c.1);have h3:=Z8k c.1;refine gd 7 ⟨?_⟩;refine Z14 (k:=0) (i:=1) (ZjN l c.1 hc.1 (by omega)) rfl rfl rfl rfl rfl (by decide) Yt ⟨Z2 _,Yt⟩ Yt (Zg _) ?_;rintro r b' hr1 hr2 rfl;refine gd 11 ⟨?_⟩;refine Z14 (k:=0) (i:=3) (ZjN (l++wB (sB c.1)) c.2 hc.2 (by rw [Y0e];omega)) rfl rfl rfl rfl rfl (by decide) Yt ⟨Z2 _,Yt⟩ Yt (Zg _) ?_;rintro r b' hr1 hr2 rfl;refine go ?_;exact⟨_,_,rfl,.inl rfl,4,_,by decide,rfl,rfl,Yt,Zg _,by rw [YU]; rfl⟩
def lB (cs:List Cu):List Nat:=grp cs.length++cs.flatMap cB
theorem Zar (cs:List Cu):(cs.flatMap cB).length<=6*cs.length:=by
 induction cs with
 | nil=>exact Y0m _
 | cons c cs ih =>
   rw [Y1Q,Y0e,Y04];have:=ZgH c;omega
theorem ZiR (cs:List Cu):(lB cs).length<=7*cs.length+1:=by
 unfold lB;rw [Y0e];have:=Zar cs;have:=Z1J cs.length;omega
theorem Zeq (cs:List Cu) {i:Nat} (hi:i<cs.length):(cs.take (i+1)).flatMap cB=(cs.take i).flatMap cB++cB cs[i]:=by
 rw [Y30 hi,Y1H,Y3Q]
theorem ZiS (l:List Nat) (cs:List Cu) (fl:Bool) (hcs:∀ c∈cs,c.1<256/\c.2<256) (hb:l.length+10*cs.length<600000):X1j Tryz.prog 83 [] [.vec (cs.map cuC) fl] [] (wBx l) (fun _ b'=>b'=wBx (l++lB cs)):=by
 refine Z2T ok83 (Y0 rfl) fun C hC=>?_;have hgl:=Z1J cs.length;have hml:(cs.map cuC).length=cs.length:=Y0f ..;have hpi:∀ D,Xu D (cs.map cuC):=fun D=>Ze (fun _ h=>h.elim) _ (Zc Zi cs);refine gd 9 ⟨?_⟩;refine Zh (v:=(cs.length:Int)) rfl rfl rfl (by rw [hml]; exact Y0x _ ⟨by omega,by omega⟩) ?_;refine Z14 (k:=0) (i:=1) (Z5X l cs.length (by omega) (by omega)) rfl rfl rfl rfl rfl (by decide) Yt ⟨Yt,Yt⟩ Yt (Zg _) ?_;rintro r b' hr1 hr2 rfl;refine go ?_;refine ZC hC (fun i=>i<=cs.length) (fun i=>cs.length-i) 3 (fun i => [(0,.ptr 0 0 0),(1,.vec (cs.map cuC) fl),(11,.vec (cs.map cuC) fl),(12,.val (.int .i64 (cs.length:Int))),(13,Yv i)]) (fun i => [(0,kid1 [] 2),(2,wBx (l++grp cs.length++(cs.take i).flatMap cB))]) (by decide) 0 (Y0l _)
  (fun i=>i) (fun _ _=>rfl) (Zu rfl) ⟨Qt 0 0 0,Qp (Zc Zi cs),Qp (Zc Zi cs),⟨_,by rw [<- hml]; rfl,.pure _ Yt⟩,Qp Yt,Yt⟩
  ⟨⟨by decide,_,rfl,Xr.single ⟨.own 2 (by decide),Yt⟩ rfl⟩,⟨by decide,wBx (l++grp cs.length++(cs.take 0).flatMap cB),by rw [Y1A,Y3L,Y0p]; rfl,.same _ (Zg _)⟩,Yt⟩ ?_
 intro i hi;have hfl:=Zar (cs.take i);rw [Y0o,Y1B hi] at hfl;have hinc:IntKind.i64.wrap ((i:Int)+1)=((i+1:Nat):Int):=wi (i+1) (by omega);refine gd 14 ⟨?_⟩;by_cases hil:i<cs.length
 . refine Qo (Qy rfl (by omega)) ?_;have hci:=hcs cs[i] (Y0j hil);have hft:=Zeq cs hil;refine gd 15 ⟨?_⟩;refine Qo (Zo (xs:=cs) (g:=cuC) rfl rfl i rfl hil rfl) ?_;generalize cs[i]=c at hci hft;refine gd 19 ⟨?_⟩;refine Z14 (k:=0) (i:=2) (ZkV (l++grp cs.length++(cs.take i).flatMap cB) c hci (by rw [Y0e,Y0e];omega)) rfl rfl rfl rfl rfl (by decide) Yt ⟨Zx _,Yt⟩ Yt (Zg _) ?_;rintro r b' hr1 hr2 rfl;refine go ?_;exact⟨i+1,mv 2 4,by omega,by omega,Z4X (by decide),Zu rfl,⟨Qt 0 0 0,Qp (Zc Zi cs),Qp (Zc Zi cs),Qp Yt,⟨_,by show some _=some _; rw [hinc],.pure _ Yt⟩,Yt⟩,⟨⟨by decide,_,rfl,Xr.single ⟨.own 2 (by decide),Yt⟩ rfl⟩,⟨by decide,_,rfl,by rw [hft,<- YU]; exact .same _ (Zg _)⟩,Yt⟩⟩
 . obtain rfl : i = cs.length := by omega
   refine Qo (Qz rfl (by omega)) ?_;rw [Y0q];refine go ?_;exact⟨_,_,rfl,.inl rfl,2,_,by decide,rfl,rfl,Yt,Zg _,by rw [YU]; rfl⟩
def dig (p:List Nat):List Nat:=X3w (HS.puts (p.length+1) ⟨List.replicate 25 0,List.replicate 136 0,0,0+p.length⟩ p)
theorem Z5J (p:List Nat):(dig p).length=32:=by simp [dig,X3w]
theorem ZgI (p:List Nat) (fl:Bool) (hp:W8 p) (hb:p.length<1000000):Xa Tryz.prog 141 [.vec (bys p) fl] (· = .agg (Xi .u8 (dig p))):=by
 refine Yp ok141 fun C hC=>?_;have hz:=Zgw (0+p.length);have hpok:=Zgo (p.length+1) (HS.zero (0+p.length)) p hz hp;refine gd 4 ⟨?_⟩;refine Z3n (ZbY) (Z7e 0 0) (Z3v _) rfl rfl Yt ?_;refine gd 7 ⟨?_⟩;refine ZT (id:=1) (ZjI (HS.zero 0) (Zgw 0) p fl hp (by show 0+p.length<_;omega)) rfl rfl rfl rfl (Z3v _) ⟨Zg _,Yt⟩ ?_;rintro r b' hr1 hr2 rfl;refine gd 9 ⟨?_⟩;refine ZT (id:=1) (Zlq _ hpok) rfl rfl rfl rfl (Z3v _) Yt ?_;rintro r b' hr1 hr2 ⟨rfl,rfl⟩;have hcl:(Xi .u8 (X3w (HS.puts (p.length+1) (HS.zero (0+p.length)) p))).length=32:=by rw [ZJ]; exact Z5J p
 refine Qo (Z3b (l:=Xi .u8 (List.replicate 32 0)) rfl rfl rfl hcl rfl) ?_;refine go ?_;refine Z8 (Z29 (Z4r (l:=Xi .u8 (dig p) ++ []) (r:=Xi .u8 (dig p)) rfl rfl ?_ ?_)) (ZN _ _) rfl
 . rw [Y0p,ZJ,Z5J]; decide
 . rw [Y0p,Y16,Yy (by rw [ZJ,Z5J]; exact Y0m _)]
theorem Z9l:X1s Tryz.prog 76 [] (fun i=>.ptr i 0 0) ⟨1,[[.vec [] true]]⟩:=by
 refine Z1A ok76 (Y0 rfl) fun C hC=>?_;refine go ?_;exact⟨_,_,rfl,.inl rfl,_,rfl,rfl⟩
theorem Zc2 (x:Nat) (l:List Nat) (fl:Bool) (hb:l.length<1000000):Xa Tryz.prog 142 [.vec (bys (x :: l)) fl] (· = .vec (bys (x :: l)) false):=by
 refine Yp ok142 fun C hC=>?_;refine gd 7 ⟨?_⟩
 refine Z5 (Z9C (l := []) (m:=bys (x :: l)) (fl:=fl) rfl rfl (fun c hc=>by cases hc) (ZgG _) (by
  show (0+(bys (x :: l)).length)*1<=_
  rw [Z7l,Y04];omega)) rfl rfl ?_
 refine go ?_;exact Z8 rfl (Zg _) rfl
theorem ZjO (x:Nat) (l:List Nat) (fl:Bool) (hb:l.length<1000000):X2f Tryz.prog 85 ⟨1,[[.vec (bys (x :: l)) fl]]⟩ [] (fun r b'=>r=.vec (bys (x :: l)) false/\b'=⟨1,[[.vec (bys (x :: l)) fl]]⟩):=by
 refine Z1O ok85 (Y0 rfl) fun C hC=>?_;refine gd 9 ⟨?_⟩;refine Qe (Zc2 x l fl hb) ⟨Zg _,Yt⟩ ?_;refine go ?_;exact⟨_,_,rfl,.inl rfl,_,rfl,Zg _,⟨⟨Zg _,Yt⟩,Yt⟩,rfl,rfl⟩
def X3Q (s:ByteArray):List Nat:=s.data.toList.map fun b=>b.toNat
theorem Zer (s:ByteArray):X1H s=bys (X3Q s):=by
 unfold X1H bys X3Q;rw [Y2z]
 rfl
theorem Zdd (s:ByteArray):(X3Q s).length=s.size:=by
 unfold X3Q;rw [Y0f]
 rfl
theorem Zlr (l:List Nat) (s:ByteArray) (hb:l.length+2*s.size<800000):X1j Tryz.prog 140 [] [.val (.string s)] [] (wBx l) (fun _ b'=>b'=wBx (l++wB (X3Q s))):=by
 refine Z2T ok140 (Y0 rfl) fun C hC=>?_;have hs:=Zdd s;have hd:∀ (e:Env) (h:X1) (n:Nat) (x:Operand),ev e x=some (.val (.string s))->X3 (.s2b x) e h n=some (.vec (bys (X3Q s)) false,h):=fun e h n x hx=>by
  simp only [X3,hx];rw [Y5 (by omega),Zer]
 refine gd 6 ⟨?_⟩;refine Qo (hd _ _ _ _ rfl) ?_;refine Z14 (k:=0) (i:=1) (Z6s l (X3Q s) false (by omega)) rfl rfl rfl rfl rfl (by decide) Yt ⟨Zg _,Yt⟩ Yt (Zg _) ?_;rintro r b' hr1 hr2 rfl;refine go ?_;exact⟨_,_,rfl,.inl rfl,2,_,by decide,rfl,rfl,Yt,Zg _,rfl⟩
theorem Zkc {p:List Nat} (h:W8 p):W8 (wB p):=fun x hx=>(Y0h.1 hx).elim (Zaq _ x) (h x)
theorem ZjP (p:List Nat):∃ x l,wB p=x :: l:=by
 unfold wB grp;rw [List.reverse_cons];cases h:(gR p.length (p.length / 128)).reverse with
 | nil=>exact⟨_,_,rfl⟩
 | cons a b=>exact⟨_,_,rfl⟩
theorem Zde (v:Nat):∃ x l,grp v=x :: l:=by
 unfold grp;rw [List.reverse_cons];cases h:(gR v (v / 128)).reverse with
 | nil=>exact⟨_,_,rfl⟩
 | cons a b=>exact⟨_,_,rfl⟩
theorem Z7m:X2 (⟨1,[[PV.vec [] true]]⟩:Bx).elems:=⟨⟨Yt,Yt⟩,Yt⟩
def X4W (s:ByteArray) (p:List Nat):List Nat:=wB (X3Q s)++wB p
theorem ZkW (s:ByteArray):W8 (X3Q s):=fun x hx=>by
 obtain⟨b,_,rfl⟩:=Y0i.1 hx;exact b.toNat_lt
theorem Zc3 (s:ByteArray) (p:List Nat) (fp:Bool) (hp:W8 p) (hs:s.size<100) (hb:p.length<200000):Xa Tryz.prog 84 [.val (.string s),.vec [[.vec (bys p) fp]] true] (· = .agg (Xi .u8 (dig (X4W s p)))):=by
 refine Yp ok84 fun C hC=>?_;have hsl:=Zdd s;have hwl:=Z5l (X3Q s);have hwp:=Z5l p;have hpp:X2 [[PV.vec (bys p) fp]]:=⟨⟨Zg _,Yt⟩,Yt⟩
 refine gd 8 ⟨?_⟩;refine Z3n Z9l (Z7e 0 0) Z7m rfl rfl Yt ?_;refine Zb (Z2H (ob:=1) (i0:=0) (j0:=0) (bo:=⟨1,[[.vec [] true]]⟩) 1 (by decide) rfl (by decide) (by decide) rfl) ?_;refine gd 11 ⟨?_⟩;refine Z14 (k:=1) (i:=2) (q := []) (b1:=wBx []) (Zlr [] s (by show 0+_<_;omega)) rfl rfl rfl rfl rfl (by decide) Yt ⟨Yt,Yt⟩ Yt Yt ?_;rintro r b' hr1 hr2 rfl;rw [Y1h];refine go ?_;refine ZC hC (fun i=>i<=1) (fun i=>1-i) 4 (fun i => [(4,.ptr 0 0 0),(5,.ptr 1 0 0),(12,.vec [[.vec (bys p) fp]] true),(13,.val (.int .i64 1)),(14,Yv i)]) (fun i => [(0,⟨32,[Xi .u8 (List.replicate 32 0)]⟩),(1,kid1 [] 3),(3,wBx (wB (X3Q s)++(if i=0 then [] else wB p)))]) (by decide) 0 (Y0l _)
  (fun i=>i) (fun _ _=>rfl) (Zu rfl) ⟨Qt 0 0 0,Qt 1 0 0,Qp hpp,Qp Yt,Qp Yt,Yt⟩
  ⟨⟨by decide,⟨32,[Xi .u8 (List.replicate 32 0)]⟩,by kernel_rfl,.same _ ⟨ZN _ _,Yt⟩⟩,⟨by decide,_,rfl,Xr.single ⟨.own 3 (by decide),Yt⟩ rfl⟩,⟨by decide,wBx (wB (X3Q s) ++ []),by rw [Y0p]; rfl,.same _ (Zg _)⟩,Yt⟩ ?_
 intro i hi;have hinc:IntKind.i64.wrap ((i:Int)+1)=((i+1:Nat):Int):=wi (i+1) (by omega);refine gd 15 ⟨?_⟩;by_cases hil:i<1
 . obtain rfl : i = 0 := by omega
   refine Qo (Qy rfl (by omega)) ?_;rw [Y5 rfl,Y0p];refine gd 20 ⟨?_⟩;refine Z14 (k:=1) (i:=3) (Z6s (wB (X3Q s)) p fp (by omega)) rfl rfl rfl rfl rfl (by decide) Yt ⟨Zg _,Yt⟩ Yt (Zg _) ?_;rintro r b' hr1 hr2 rfl;refine go ?_;exact⟨1,mv 3 4,by omega,by omega,Z4X (by decide),Zu rfl,⟨Qt 0 0 0,Qt 1 0 0,Qp hpp,Qp Yt,Qp Yt,Yt⟩,⟨Qs ⟨ZN _ _,Yt⟩,⟨by decide,_,rfl,Xr.single ⟨.own 3 (by decide),Yt⟩ rfl⟩,⟨by decide,_,rfl,by rw [Y6 (by decide)]; exact .same _ (Zg _)⟩,Yt⟩⟩
 . obtain rfl : i = 1 := by omega
   refine Qo (Qz rfl (by omega)) ?_;rw [Y6 (by decide)];have hWt:W8 (X4W s p):=fun x hx=>(Y0h.1 hx).elim (Zkc (ZkW s) x) (Zkc hp x);have htl:(X4W s p).length<500000:=by unfold X4W; rw [Y0e]; omega
   obtain⟨x,l,hxl⟩:∃ x l,X4W s p=x :: l:=by
    obtain⟨x,l,h⟩:=ZjP (X3Q s);exact⟨x,l++wB p,by unfold X4W; rw [h]; rfl⟩
   change Xk _ _ _ _ (XE [(0,⟨32,[Xi .u8 (List.replicate 32 0)]⟩),(1,kid1 [] 3),(3,wBx (X4W s p))]) _;rw [hxl] at hWt htl ⊢;rw [Y04] at htl;refine gd 23 ⟨?_⟩;refine Zb (Zk (ob:=1) (id:=3) (i0:=0) (j0:=0) (bo:=kid1 [] 3) (b:=wBx (x :: l)) rfl rfl (by decide) (Zg _) (by decide) (by decide) rfl) ?_;refine ZT (id:=1) (ZjO x l false (by omega)) rfl rfl rfl rfl ⟨⟨Zg _,Yt⟩,Yt⟩ Yt ?_;rintro r b' hr1 hr2 ⟨rfl,rfl⟩;refine Qe (ZgI (x :: l) false hWt (by rw [Y04];omega)) ⟨Zg _,Yt⟩ ?_;have hcl:(Xi .u8 (dig (x :: l))).length=32:=by rw [ZJ,Z5J]
   refine Qo (Z3b (l:=Xi .u8 (List.replicate 32 0)) rfl rfl rfl hcl rfl) ?_;refine go ?_;refine Z8 (Z29 (Z4r (l:=Xi .u8 (dig (x :: l)) ++ []) (r:=Xi .u8 (dig (x :: l))) rfl rfl ?_ ?_)) (ZN _ _) rfl
   . rw [Y0p,hcl]; decide
   . rw [Y0p,Y16,Yy (by rw [hcl]; exact Y0m _)]
def prW (p:Pr):List Nat:=grp p.1++grp p.2
def hyB (l:List Pr):List Nat:=grp l.length++l.flatMap prW
theorem ZjQ {p:Pr} (h:p.1<=63/\p.2<=63):(prW p).length<=130:=by
 unfold prW;rw [Y0e];have:=Z1J p.1;have:=Z1J p.2;omega
theorem Z7n:∀ (l:List Pr),(∀ p∈l,p.1<=63/\p.2<=63)->(l.flatMap prW).length<=130*l.length
 | [],_=>Y0m _
 | p :: l, h => by
   rw [Y1Q,Y0e,Y04];have:=ZjQ (h p (Y0t ..));have:=Z7n l fun q hq=>h q (YD _ hq);omega
theorem Zc4 {l:List Pr} (h:∀ p∈l,p.1<=63/\p.2<=63):(hyB l).length<=131*l.length+1:=by
 unfold hyB;rw [Y0e];have:=Z1J l.length;have:=Z7n l h;omega
theorem Zls (l:List Pr):W8 (hyB l):=fun x hx=>by
 rcases Y0h.1 hx with h|h
 . exact Zaq _ x h
 . obtain ⟨p, _, h⟩ := Y1d.1 h;exact (Y0h.1 h).elim (Zaq _ x) (Zaq _ x)
theorem Zc5 (l:List Pr) (S:List Nat) (h:∀ p∈l,p.1<=63/\p.2<=63) (hb:l.length<=1000):Xa Tryz.prog 79 [XR l S] (· = .vec (bys (hyB l)) false):=by
 refine Yp ok79 fun C hC=>?_;have hgl:=Z1J l.length;have hml:(l.map prC).length=l.length:=Y0f ..;refine gd 9 ⟨?_⟩;refine Z3n Z9l (Z7e 0 0) Z7m rfl rfl Yt ?_;refine Zb (Z2H (ob:=0) (i0:=0) (j0:=0) (bo:=⟨1,[[.vec [] true]]⟩) 1 (by decide) rfl (by decide) (by decide) rfl) ?_;refine gd 11 ⟨?_⟩;refine Qe (Z88 l S (by omega)) ⟨Zm _ _,Yt⟩ ?_;refine gd 15 ⟨?_⟩;refine Zh (v:=(l.length:Int)) rfl rfl rfl (by rw [hml]; exact Y0x _ ⟨by omega,by omega⟩) ?_;refine Z14 (k:=0) (i:=1) (q := []) (b1:=wBx []) (Z5X [] l.length (by omega) (by show 0+_<_;omega)) rfl rfl rfl rfl rfl (by decide) Yt ⟨Yt,Yt⟩ Yt Yt ?_;rintro r b' hr1 hr2 rfl;rw [Y1h];refine go ?_;refine ZC hC (fun i=>i<=l.length) (fun i=>l.length-i) 3 (fun i => [(3,.ptr 0 0 0),(17,.vec (l.map prC) false),(18,.val (.int .i64 (l.length:Int))),(19,Yv i)]) (fun i => [(0,kid1 [] 2),(2,wBx (grp l.length++(l.take i).flatMap prW))]) (by decide) 0 (Y0l _)
  (fun i=>i) (fun _ _=>rfl) (Zu rfl) ⟨Qt 0 0 0,Qp (Zl _),⟨_,by rw [<- hml]; rfl,.pure _ Yt⟩,Qp Yt,Yt⟩
  ⟨⟨by decide,_,rfl,Xr.single ⟨.own 2 (by decide),Yt⟩ rfl⟩,⟨by decide,wBx (grp l.length++(l.take 0).flatMap prW),by rw [Y1A,Y3L,Y0p]; rfl,.same _ (Zg _)⟩,Yt⟩ ?_
 intro i hi;have hfl:=Z7n (l.take i) fun p hp=>h p (YM hp);rw [Y0o,Y1B hi] at hfl;have hinc:IntKind.i64.wrap ((i:Int)+1)=((i+1:Nat):Int):=wi (i+1) (by omega);refine gd 20 ⟨?_⟩;by_cases hil:i<l.length
 . refine Qo (Qy rfl (by omega)) ?_;have hci:=h l[i] (Y0j hil);have hft:(l.take (i+1)).flatMap prW=(l.take i).flatMap prW++prW l[i]:=by
    rw [Y30 hil,Y1H,Y3Q]
   refine gd 21 ⟨?_⟩;refine Qo (Zo (xs:=l) (g:=prC) rfl rfl i rfl hil rfl) ?_;generalize l[i]=p at hci hft;have g1:=Z1J p.1;refine gd 26 ⟨?_⟩;refine Zh (v:=(p.1:Int)) rfl rfl rfl (Y0x _ ⟨by omega,by omega⟩) ?_;refine Z14 (k:=0) (i:=2) (Z5X (grp l.length++(l.take i).flatMap prW) p.1 (by omega) (by rw [Y0e];omega)) rfl rfl rfl rfl rfl (by decide) Yt ⟨Yt,Yt⟩ Yt (Zg _) ?_;rintro r b' hr1 hr2 rfl;refine gd 31 ⟨?_⟩;refine Zh (v:=(p.2:Int)) rfl rfl rfl (Y0x _ ⟨by omega,by omega⟩) ?_;refine Z14 (k:=0) (i:=4) (Z5X (grp l.length++(l.take i).flatMap prW++grp p.1) p.2 (by omega) (by rw [Y0e,Y0e];omega)) rfl rfl rfl rfl rfl (by decide) Yt ⟨Yt,Yt⟩ Yt (Zg _) ?_;rintro r b' hr1 hr2 rfl;refine go ?_;exact⟨i+1,mv 2 5,by omega,by omega,Z4X (by decide),Zu rfl,⟨Qt 0 0 0,Qp (Zl _),Qp Yt,⟨_,by show some _=some _; rw [hinc],.pure _ Yt⟩,Yt⟩,⟨⟨by decide,_,rfl,Xr.single ⟨.own 2 (by decide),Yt⟩ rfl⟩,⟨by decide,_,rfl,by rw [hft,show grp l.length++((l.take i).flatMap prW++prW p)=grp l.length++(l.take i).flatMap prW++grp p.1++grp p.2 by unfold prW; simp only [YU]]; exact .same _ (Zg _)⟩,Yt⟩⟩
 . obtain rfl : i = l.length := by omega
   refine Qo (Qz rfl (by omega)) ?_;have hyl:=Zc4 h;obtain⟨x,m,hxm⟩:∃ x m,hyB l=x :: m:=by
    obtain⟨x,m,h⟩:=Zde l.length;exact⟨x,m++l.flatMap prW,by unfold hyB; rw [h]; rfl⟩
   rw [Y0q];change Xk _ _ _ _ (XE [(0,kid1 [] 2),(2,wBx (hyB l))]) _;rw [hxm] at hyl ⊢;rw [Y04] at hyl;refine gd 35 ⟨?_⟩;refine Zb (Zk (ob:=0) (id:=2) (i0:=0) (j0:=0) (bo:=kid1 [] 2) (b:=wBx (x :: m)) rfl rfl (by decide) (Zg _) (by decide) (by decide) rfl) ?_;refine ZT (id:=0) (ZjO x m false (by omega)) rfl rfl rfl rfl ⟨⟨Zg _,Yt⟩,Yt⟩ Yt ?_;rintro r b' hr1 hr2 ⟨rfl,rfl⟩;refine go ?_;exact Z8 rfl (Zg _) rfl
structure PbW (t:PB):Prop where
 n:t.n<=63
 st:t.st<256
 rs:∀ r∈t.rs,r.cu.1<256/\r.cu.2<256/\r.tg<=63
 nv:∀ c∈t.nv,c.1<256/\c.2<256
 gl:∀ c∈t.gl,c.1<256/\c.2<256
 lk:∀ p∈t.l,p.1<=63/\p.2<=63
 ll:t.l.length<=100
 rl:t.rs.length<=100
 nl:t.nv.length<=100
 gn:t.gl.length<=100
def rB (r:RU):List Nat := [cond r.rev 1 0]++cB r.cu++grp r.tg
def hdB (t:PB):List Nat:=grp t.n++wB (hyB t.l)++wB (sB t.st)++grp t.rs.length
def pbB (t:PB):List Nat:=hdB t++t.rs.flatMap rB++lB t.nv++lB t.gl
theorem ZkX {r:RU} (h:r.tg<=63):(rB r).length<=71:=by
 unfold rB;rw [Y0e,Y0e];have:=Z1J r.tg;have:=ZgH r.cu;show 1+_+_<=_;omega
theorem Zas:∀ (l:List RU),(∀ r∈l,r.tg<=63)->(l.flatMap rB).length<=71*l.length
 | [],_=>Y0m _
 | p :: l, h => by
   rw [Y1Q,Y0e,Y04];have:=ZkX (h p (Y0t ..));have:=Zas l fun q hq=>h q (YD _ hq);omega
theorem ZjR {t:PB} (h:PbW t):(hdB t).length<=30000:=by
 unfold hdB;rw [Y0e,Y0e,Y0e];have h1:=Z1J t.n;have h2:=Z5l (hyB t.l);have h3:=Zc4 h.lk;have h4:=Z5l (sB t.st);have h5:=Z8k t.st;have h6:=Z1J t.rs.length;have:=h.n; have:=h.ll; have:=h.rl;omega
theorem Zlt {N:Nat} (h:N<256):W8 (sB N):=fun x hx=>by
 unfold sB at hx
 split at hx
 . cases hx
 . rw [Y0g] at hx; rw [hx]; exact h
theorem Zly {c:Cu} (h:c.1<256/\c.2<256):W8 (cB c):=fun x hx=>(Y0h.1 hx).elim (Zkc (Zlt h.1) x) (Zkc (Zlt h.2) x)
theorem Zlz {cs:List Cu} (h:∀ c∈cs,c.1<256/\c.2<256):W8 (lB cs):=fun x hx=>by
 rcases Y0h.1 hx with hx|hx
 . exact Zaq _ x hx
 . obtain ⟨c, hc, hx⟩ := Y1d.1 hx;exact Zly (h c hc) x hx
theorem W8.app {l m:List Nat} (hl:W8 l) (hm:W8 m):W8 (l++m):=fun x hx=>(Y0h.1 hx).elim (hl x) (hm x)
theorem Zlu {t:PB} (h:PbW t):W8 (pbB t):=by
 refine W8.app (W8.app (W8.app (W8.app (W8.app (W8.app (Zaq _) (Zkc (Zls _))) (Zkc (Zlt h.st))) (Zaq _)) fun x hx=>?_) (Zlz h.nv)) (Zlz h.gl);obtain⟨r,hr,hx⟩:=Y1d.1 hx;have hc:=h.rs r hr;exact W8.app (W8.app (fun x hx=>by rw [Y0g] at hx; rw [hx]; cases r.rev<;>decide) (Zly ⟨hc.1,hc.2.1⟩)) (Zaq _) x hx
def XV (t:PB):List Nat:=dig (X4W ⟨#[112,114,111,98,108,101,109]⟩ (pbB t))
theorem Z4w {t:PB} (h:Xz t) (hw:PbW t) (S:List Nat):Xa Tryz.prog 38 [.agg (pbP t S)] (· = .agg (Xi .u8 (XV t))):=by
 refine Yp ok38 fun C hC=>?_;have hl1:=Z1J t.n;have hl2:=Z5l (hyB t.l);have hl3:=Zc4 hw.lk;have hl4:=Z5l (sB t.st);have hl5:=Z8k t.st;have hl6:=Z1J t.rs.length;have hn:=hw.n; have hll:=hw.ll; have hrl:=hw.rl; have hnl:=hw.nl; have hgl:=hw.gn;have hhl:=ZjR hw;have hml:(t.rs.map ruP).length=t.rs.length:=Y0f ..;refine gd 7 ⟨?_⟩;refine Qe (Z2w h S) ⟨ZD _ _,Yt⟩ ?_;refine gd 10 ⟨?_⟩;refine Z3n Z9l (Z7e 0 0) Z7m rfl rfl Yt ?_;refine Zb (Z2H (ob:=2) (i0:=0) (j0:=0) (bo:=⟨1,[[.vec [] true]]⟩) 1 (by decide) rfl (by decide) (by decide) rfl) ?_;refine gd 14 ⟨?_⟩;refine Zh (v:=(t.n:Int)) rfl rfl rfl (Y0x _ ⟨by omega,by omega⟩) ?_;refine Z14 (k:=2) (i:=3) (q := []) (b1:=wBx []) (Z5X [] t.n (by omega) (by show 0+_<_;omega)) rfl rfl rfl rfl rfl (by decide) Yt ⟨Yt,Yt⟩ Yt Yt ?_;rintro r b' hr1 hr2 rfl;rw [Y1h];refine gd 19 ⟨?_⟩;refine Qe (Zc5 t.l S hw.lk (by omega)) ⟨Zm _ _,Yt⟩ ?_;refine Z14 (k:=2) (i:=4) (Z6s (grp t.n) (hyB t.l) false (by omega)) rfl rfl rfl rfl rfl (by decide) Yt ⟨Zg _,Yt⟩ Yt (Zg _) ?_;rintro r b' hr1 hr2 rfl;refine gd 24 ⟨?_⟩;refine Z14 (k:=2) (i:=5) (ZjN (grp t.n++wB (hyB t.l)) t.st hw.st (by rw [Y0e];omega)) rfl rfl rfl rfl rfl (by decide) Yt ⟨Z2 _,Yt⟩ Yt (Zg _) ?_;rintro r b' hr1 hr2 rfl;refine gd 29 ⟨?_⟩;refine Zh (v:=(t.rs.length:Int)) rfl rfl rfl (by rw [hml]; exact Y0x _ ⟨by omega,by omega⟩) ?_;refine Z14 (k:=2) (i:=6) (Z5X (grp t.n++wB (hyB t.l)++wB (sB t.st)) t.rs.length (by omega) (by rw [Y0e,Y0e];omega)) rfl rfl rfl rfl rfl (by decide) Yt ⟨Yt,Yt⟩ Yt (Zg _) ?_;rintro r b' hr1 hr2 rfl;change Xk _ _ _ _ (X1.upd _ _ (wBx (hdB t))) _;refine go ?_;refine ZC hC (fun i=>i<=t.rs.length) (fun i=>t.rs.length-i) 8 (fun i => [(1,.ptr 0 0 0),(2,.ptr 1 0 0),(3,.ptr 2 0 0),(32,.vec (t.rs.map ruP) false),(33,.val (.int .i64 (t.rs.length:Int))),(34,Yv i)]) (fun i => [(0,⟨6,[pbP t S]⟩),(1,⟨32,[Xi .u8 (List.replicate 32 0)]⟩),(2,kid1 [] 7),(7,wBx (hdB t++(t.rs.take i).flatMap rB))]) (by decide) 0 (Y0l _)
  (fun i=>i) (fun _ _=>rfl) (Zu rfl) ⟨Qt 0 0 0,Qt 1 0 0,Qt 2 0 0,Qp (Zs _),⟨_,by rw [<- hml]; rfl,.pure _ Yt⟩,Qp Yt,Yt⟩
  ⟨Qs ⟨ZD t S,Yt⟩,⟨by decide,⟨32,[Xi .u8 (List.replicate 32 0)]⟩,by kernel_rfl,.same _ ⟨ZN _ _,Yt⟩⟩,⟨by decide,_,rfl,Xr.single ⟨.own 7 (by decide),Yt⟩ rfl⟩,⟨by decide,wBx (hdB t++(t.rs.take 0).flatMap rB),by rw [Y1A,Y3L,Y0p]; rfl,.same _ (Zg _)⟩,Yt⟩ ?_
 intro i hi;have hfl:=Zas (t.rs.take i) fun r hr=>(hw.rs r (YM hr)).2.2;rw [Y0o,Y1B hi] at hfl;have hinc:IntKind.i64.wrap ((i:Int)+1)=((i+1:Nat):Int):=wi (i+1) (by omega);refine gd 35 ⟨?_⟩;by_cases hil:i<t.rs.length
 . refine Qo (Qy rfl (by omega)) ?_;have hci:=hw.rs t.rs[i] (Y0j hil);have hft:(t.rs.take (i+1)).flatMap rB=(t.rs.take i).flatMap rB++rB t.rs[i]:=by
    rw [Y30 hil,Y1H,Y3Q]
   refine gd 36 ⟨?_⟩;refine Qo (Zo (xs:=t.rs) (g:=ruP) rfl rfl i rfl hil rfl) ?_;generalize t.rs[i]=u at hci hft;have hg:=Z1J u.tg;have hcl:=ZgH u.cu;have htot:(hdB t++(t.rs.take i).flatMap rB).length<=40000:=by rw [Y0e]; omega
   generalize hww:hdB t++(t.rs.take i).flatMap rB=ww at htot;refine gd 40 ⟨?_⟩;refine Z1 (p:=.val (.bool u.rev)) rfl rfl rfl ?_;refine Z14 (k:=2) (i:=7) (ZkU ww u.rev (by omega)) rfl rfl rfl rfl rfl (by decide) Yt ⟨Yt,Yt⟩ Yt (Zg _) ?_;rintro r b' hr1 hr2 rfl;refine gd 45 ⟨?_⟩;refine Z14 (k:=2) (i:=9) (ZkV (ww ++ [cond u.rev 1 0]) u.cu ⟨hci.1,hci.2.1⟩ (by rw [Y0e,Y0s];omega)) rfl rfl rfl rfl rfl (by decide) Yt ⟨Zx _,Yt⟩ Yt (Zg _) ?_;rintro r b' hr1 hr2 rfl;refine gd 49 ⟨?_⟩;refine Zh (v:=(u.tg:Int)) rfl rfl rfl (Y0x _ ⟨by omega,by omega⟩) ?_;refine Z14 (k:=2) (i:=10) (Z5X (ww ++ [cond u.rev 1 0]++cB u.cu) u.tg (by omega) (by rw [Y0e,Y0e,Y0s];omega)) rfl rfl rfl rfl rfl (by decide) Yt ⟨Yt,Yt⟩ Yt (Zg _) ?_;rintro r b' hr1 hr2 rfl;refine go ?_;exact⟨i+1,mv 7 11,by omega,by omega,Z4X (by decide),Zu rfl,⟨Qt 0 0 0,Qt 1 0 0,Qt 2 0 0,Qp (Zs _),Qp Yt,⟨_,by show some _=some _; rw [hinc],.pure _ Yt⟩,Yt⟩,⟨Qs ⟨ZD t S,Yt⟩,Qs ⟨ZN _ _,Yt⟩,⟨by decide,_,rfl,Xr.single ⟨.own 7 (by decide),Yt⟩ rfl⟩,⟨by decide,_,rfl,by rw [hft,show hdB t++((t.rs.take i).flatMap rB++rB u)=ww ++ [cond u.rev 1 0]++cB u.cu++grp u.tg by rw [<- hww]; unfold rB; simp only [YU]]; exact .same _ (Zg _)⟩,Yt⟩⟩
 . obtain rfl : i = t.rs.length := by omega
   refine Qo (Qz rfl (by omega)) ?_;rw [Y0q] at hfl ⊢;have htot:(hdB t++t.rs.flatMap rB).length<=40000:=by rw [Y0e]; omega
   have hpb:pbB t=hdB t++t.rs.flatMap rB++lB t.nv++lB t.gl:=rfl;have hlb:=ZiR t.nv;have hlg:=ZiR t.gl;have hpW:=Zlu hw;generalize hww:hdB t++t.rs.flatMap rB=ww at htot hpb;refine gd 55 ⟨?_⟩;refine Z14 (k:=2) (i:=7) (ZiS ww t.nv false hw.nv (by omega)) rfl rfl rfl rfl rfl (by decide) Yt ⟨Zc Zi _,Yt⟩ Yt (Zg _) ?_;rintro r b' hr1 hr2 rfl;refine gd 59 ⟨?_⟩;refine Z14 (k:=2) (i:=8) (ZiS (ww++lB t.nv) t.gl false hw.gl (by rw [Y0e];omega)) rfl rfl rfl rfl rfl (by decide) Yt ⟨Zc Zi _,Yt⟩ Yt (Zg _) ?_;rintro r b' hr1 hr2 rfl;have hpl:(pbB t).length<100000:=by rw [hpb,Y0e,Y0e]; omega
   have hid:XV t=dig (X4W ⟨#[112,114,111,98,108,101,109]⟩ (pbB t)):=rfl;rw [<- hpb];obtain⟨x,m,hxm⟩:∃ x m,pbB t=x :: m:=by
    obtain⟨x,m,h⟩:=Zde t.n;exact⟨x,m++(wB (hyB t.l)++(wB (sB t.st)++(grp t.rs.length++(t.rs.flatMap rB++(lB t.nv++lB t.gl))))),by unfold pbB hdB; rw [h]; simp only [YU,Y4w]⟩
   rw [hxm] at hpl hpW hid ⊢;rw [Y04] at hpl;refine gd 61 ⟨?_⟩;refine Zb (Zk (ob:=2) (id:=9) (i0:=0) (j0:=0) (bo:=kid1 [] 9) (b:=wBx (x :: m)) rfl rfl (by decide) (Zg _) (by decide) (by decide) rfl) ?_;refine ZT (id:=2) (ZjO x m false (by omega)) rfl rfl rfl rfl ⟨⟨Zg _,Yt⟩,Yt⟩ Yt ?_;rintro r b' hr1 hr2 ⟨rfl,rfl⟩;refine gd 63 ⟨?_⟩;refine Qe (Zc3 ⟨#[112,114,111,98,108,101,109]⟩ (x :: m) false hpW (by decide) (by rw [Y04];omega)) ⟨Yt,⟨⟨Zg _,Yt⟩,Yt⟩,Yt⟩ ?_;rw [<- hid];have hcl:(Xi .u8 (XV t)).length=32:=by rw [ZJ]; exact Z5J _
   generalize hcc:Xi .u8 (XV t)=cc at hcl;have hcp:X6 cc:=hcc▸ZN _ _;refine Qo (Z3b (l:=Xi .u8 (List.replicate 32 0)) rfl rfl rfl hcl rfl) ?_;refine go ?_;refine Z8 (Z29 (Z4r (l:=cc ++ []) (r:=cc) rfl rfl ?_ ?_)) hcp rfl
   . rw [Y0p,hcl]; decide
   . rw [Y0p,Y16,Yy (by rw [hcl]; exact Y0m _)]
theorem Zes (xs:List Nat) (fl:Bool) (hlen:xs.length<=1000000):X1s Tryz.prog 125 [.vec (inL xs) fl] .own ⟨1,inL xs⟩:=by
 refine Z1A ok125 (Y0 rfl) fun C hC=>?_;have fin:∀ (x:Nat) (xs:List Nat),(∀ c∈inL (x :: xs),c.length=1):=fun x xs c hc=>by obtain⟨y,_,rfl⟩:=Y0i.1 hc; rfl
 cases xs with
 | nil =>
   refine go ?_;refine Z4f (.inl ⟨_,_,rfl⟩) rfl fun b=>?_;cases b
   . repeat' (first | refine Zb (Zw (k := 5) rfl 1 (by decide)) ?_ | (first|refine st ?_|(apply B<;>intro hb<;>try cases hb)))
     exact⟨_,_,rfl,.inl rfl,_,rfl,rfl⟩
   . iterate 6 (first|refine st ?_|(apply B<;>intro hb<;>try cases hb))
     refine Z1l (Zw (k:=2) rfl 1 (by decide) _) ?_;refine go ?_;exact⟨_,_,rfl,.inl rfl,_,rfl,rfl⟩
 | cons x xs =>
   repeat' (first|refine Zb (Zw (k:=5) rfl 1 (by decide)) ?_|(first|refine st ?_|(apply B<;>intro hb<;>try cases hb)))
   refine ZH (Zt (k:=0) (m:=inL (x :: xs)) (fl:=fl) rfl rfl rfl (fin x xs) rfl (by
    show (([]:List (List PV)).length+(inL (x :: xs)).length)*8<=_
    rw [Z3t,Y2A];omega)) rfl rfl ?_
   refine go ?_;exact⟨_,_,rfl,.inl rfl,_,rfl,by rw [Y1h]; rfl⟩
def Xs (id:List Nat) (b:Bool) (p:List Nat) (fp:Bool) (l:List Cu) (fl:Bool):List PV:=Xi .u8 id ++ [.val (.bool b),.vec (inL p) fp,.vec (l.map cuC) fl]
theorem Z1t (id:List Nat) (b:Bool) (p:List Nat) (fp:Bool) (l:List Cu) (fl:Bool):X6 (Xs id b p fp l fl):=Z1D (ZN _ _) ⟨Yt,Zy _,Zc Zi _,Yt⟩
theorem Z5K (cc t cs:List PV) (n j:Nat) (h:cc.length=n):Xj (cc++t) (n+j) cs=cc++Xj t j cs:=by
 subst h;unfold Xj;rw [Y3d,Yy (by omega),Y2V,Y1F,Y2t,Y1O (by omega),Y2V,Y1h,YU,YU,YU]
theorem ZjS {e:Env} {a b c:Operand} {cc:List PV} {q:PV} (ha:ev e a=some (.agg cc)) (hc:ev e c=some q) (hq:q.flat=true) (hq1:q.cells = [q]) (hl:cc.length=32) (z:List PV) (hz:z.length=35) (x:PV) (hb:ev e b=some (.val (.bool true))) (hzd:z.drop 32 = [.val (.bool false),.vec [] true,.vec [] true]):X19 e z [(0,32,a),(32,1,b),(33,1,c)]=some (cc ++ [.val (.bool true),q,.vec [] true]):=by
 have h1:Xj z 0 cc=cc ++ [.val (.bool false),.vec [] true,.vec [] true]:=by
  unfold Xj;rw [Y1A,Y1h,hl,Y17,hzd]
 have e1:(PV.agg cc).cells=cc:=rfl;have e2:(PV.val (.bool true)).cells = [.val (.bool true)]:=rfl;have f1:(PV.agg cc).flat=true:=rfl;have f2:(PV.val (.bool true)).flat=true:=rfl;simp only [X19,ha,hb,hc,e1,e2,f1,f2,hq,hq1,hl,hz,h1,Y1j,Y0s,beq_self_eq_true];rw [Y5 (by decide)];rw [show Xj (cc ++ [PV.val (.bool false),.vec [] true,.vec [] true]) 32 [.val (.bool true)]=cc ++ [.val (.bool true),.vec [] true,.vec [] true] from Z5K cc _ _ 32 0 hl];rw [Y5 (by rw [Y0e,hl]; decide)];rw [show Xj (cc ++ [PV.val (.bool true),.vec [] true,.vec [] true]) 33 [q]=cc ++ [.val (.bool true),q,.vec [] true] from Z5K cc _ _ 32 1 hl];rw [Y5 (by rw [Y0e,hl]; decide)]
theorem Zij {e:Env} {a c:Operand} {cc:List PV} {q:PV} (ha:ev e a=some (.agg cc)) (hc:ev e c=some q) (hq:q.flat=true) (hq1:q.cells = [q]) (hl:cc.length=32) (z:List PV) (hz:z.length=35) (hzd:z.drop 32 = [.val (.bool false),.vec [] true,.vec [] true]):X19 e z [(0,32,a),(34,1,c)]=some (cc ++ [.val (.bool false),.vec [] true,q]):=by
 have h1:Xj z 0 cc=cc ++ [.val (.bool false),.vec [] true,.vec [] true]:=by
  unfold Xj;rw [Y1A,Y1h,hl,Y17,hzd]
 have e1:(PV.agg cc).cells=cc:=rfl;have f1:(PV.agg cc).flat=true:=rfl;simp only [X19,ha,hc,e1,f1,hq,hq1,hl,hz,h1,Y1j,Y0s,beq_self_eq_true];rw [Y5 (by decide)];rw [Y5 (by rw [Y0e,hl]; decide)];rw [show Xj (cc ++ [PV.val (.bool false),.vec [] true,.vec [] true]) 34 [q]=cc ++ [.val (.bool false),.vec [] true,q] from Z5K cc _ _ 32 2 hl]
theorem ZkY {e:Env} {h:X1} {n:Nat} {z:List Value} {ps:List (Nat×Nat×Operand)} {l:List PV} (hb:X19 e (zpv z) ps=some l):X3 (.build z ps) e h n=some (.agg l,h):=by
 simp only [X3,hb]
def X5W:List PV:=Xi .u8 (List.replicate 32 0) ++ [.val (.bool false),.vec [] true,.vec [] true]
theorem Z2f (t:PB):(XV t).length=32:=Z5J _
theorem Z5Y {t:PB} (h:Xz t) (hw:PbW t) (S:List Nat) (p:List Nat) (fl:Bool) (hp:p.length<=1000000):Xa Tryz.prog 61 [.agg (pbP t S),.vec (inL p) fl] (· = .agg (Xs (XV t) true p false [] true)):=by
 refine Yp ok61 fun C hC=>?_;have hpp:=ZD t S;have hil:=Z2f t;have hcl:(Xi .u8 (XV t)).length=32:=by rw [ZJ,hil]
 have hlen:(Xs (XV t) true p false [] true).length=35:=by unfold Xs; rw [Y0e,hcl]; rfl
 have hcp:=Z1t (XV t) true p false [] true;have hid:=Z4w h hw S;have hcd:Xs (XV t) true p false [] true=Xi .u8 (XV t) ++ [.val (.bool true),.vec (inL p) false,.vec [] true]:=rfl;generalize Xs (XV t) true p false [] true=cc at hlen hcp hcd ⊢;generalize Xi .u8 (XV t)=ci at hid hcl hcd;have hcip:X6 ci:=by rw [hcd] at hcp; exact (Z1h _ _).2 fun q hq=>(Z1h _ _).1 hcp q (Y3f _ hq)
 refine gd 2 ⟨?_⟩;refine Z5 rfl rfl rfl ?_;refine gd 6 ⟨?_⟩;refine Qe hid ⟨hpp,Yt⟩ ?_;refine gd 8 ⟨?_⟩;refine Qe ((Zes p fl hp).spec (Zy p) (fun _=>.own) (Zy p)) ⟨Zy p,Yt⟩ ?_;refine Qo (ZkY (l:=cc) (by rw [hcd]; exact ZjS rfl rfl rfl rfl hcl _ (by kernel_rfl) pvu rfl (by kernel_rfl))) ?_;refine Qo (Z3b (l:=X5W) rfl rfl (by kernel_rfl) hlen (by kernel_rfl)) ?_;refine go ?_;refine Z8 (Z29 (Z4r (l:=cc ++ []) (r:=cc) rfl rfl ?_ ?_)) hcp rfl
 . rw [Y0p,hlen]; decide
 . rw [Y0p,Y16,Yy (by rw [hlen]; exact Y0m _)]
theorem Z5Z {t:PB} (h:Xz t) (hw:PbW t) (S:List Nat) (l:List Cu) (fl:Bool) (hl:l.length<=1000000):Xa Tryz.prog 62 [.agg (pbP t S),.vec (l.map cuC) fl] (· = .agg (Xs (XV t) false [] true l false)):=by
 refine Yp ok62 fun C hC=>?_;have hpp:=ZD t S;have hil:=Z2f t;have hcl:(Xi .u8 (XV t)).length=32:=by rw [ZJ,hil]
 have hlen:(Xs (XV t) false [] true l false).length=35:=by unfold Xs; rw [Y0e,hcl]; rfl
 have hcp:=Z1t (XV t) false [] true l false;have hid:=Z4w h hw S;have hcd:Xs (XV t) false [] true l false=Xi .u8 (XV t) ++ [.val (.bool false),.vec [] true,.vec (l.map cuC) false]:=rfl;generalize Xs (XV t) false [] true l false=cc at hlen hcp hcd ⊢;generalize Xi .u8 (XV t)=ci at hid hcl hcd;have hcip:X6 ci:=by rw [hcd] at hcp; exact (Z1h _ _).2 fun q hq=>(Z1h _ _).1 hcp q (Y3f _ hq)
 refine gd 2 ⟨?_⟩;refine Z5 rfl rfl rfl ?_;refine gd 6 ⟨?_⟩;refine Qe hid ⟨hpp,Yt⟩ ?_;refine gd 8 ⟨?_⟩;refine Qe ((Z5y l fl hl).spec (Zc Zi l) (fun _=>.own) (Zc Zi l)) ⟨Zc Zi l,Yt⟩ ?_;refine Qo (ZkY (l:=cc) (by rw [hcd]; exact Zij rfl rfl rfl rfl hcl _ (by kernel_rfl) (by kernel_rfl))) ?_;refine Qo (Z3b (l:=X5W) rfl rfl (by kernel_rfl) hlen (by kernel_rfl)) ?_;refine go ?_;refine Z8 (Z29 (Z4r (l:=cc ++ []) (r:=cc) rfl rfl ?_ ?_)) hcp rfl
 . rw [Y0p,hlen]; decide
 . rw [Y0p,Y16,Yy (by rw [hlen]; exact Y0m _)]
def X55:Nat:=X1b (2 ^ 64-1) 0
def cT:List Cu->Nat
 | []=>0
 | c :: r=>if decide (c.1 ||| c.2 ||| X55=X55) then (if emC c then 6 else cT r) else 2
def X7o (p:List Nat) (l:List Cu):Nat:=if p.any (fun k=>decide (64<=k)) then 2 else cT l
def X6B (b:Bool) (p:List Nat) (l:List Cu):Prop:=(b=true/\l = []) \/ (b=false/\p = [])
section
variable {id p:List Nat} {b fp fl:Bool} {l:List Cu}
theorem Z5m (hid:id.length=32):(Xs id b p fp l fl).drop 32=.val (.bool b) :: [.vec (inL p) fp,.vec (l.map cuC) fl]:=by
 unfold Xs;rw [Y2t,ZJ,hid,Y1O (by rw [ZJ,hid]; exact Y0m _)]
 rfl
theorem Zik (hid:id.length=32):(Xs id b p fp l fl).drop 33=.vec (inL p) fp :: [.vec (l.map cuC) fl]:=by
 unfold Xs;rw [Y2t,ZJ,hid,Y1O (by rw [ZJ,hid]; decide)]
 rfl
theorem Zil (hid:id.length=32):(Xs id b p fp l fl).drop 34=.vec (l.map cuC) fl :: []:=by
 unfold Xs;rw [Y2t,ZJ,hid,Y1O (by rw [ZJ,hid]; decide)]
 rfl
theorem Z1E (hid:id.length=32):(Xs id b p fp l fl).length=35:=by
 unfold Xs;rw [Y0e,ZJ,hid]
 rfl
end
end
section
open Go.RowKit
theorem b126 {i:Nat} (h1:1<=i) (h2:i<=6):(126:Nat).testBit i=true:=by
 have:i=1 \/ i=2 \/ i=3 \/ i=4 \/ i=5 \/ i=6:=by omega
 rcases this with rfl|rfl|rfl|rfl|rfl|rfl<;>decide
theorem X6G {i:Nat} (h:(126:Nat).testBit i=true):1<=i/\i<=6:=by
 have hi:i<7:=by
  apply Decidable.byContradiction;intro hn;rw [Y27 (YE (show 126<2 ^ 7 by decide) (YX (by decide) (by omega)))] at h;cases h
 have:i≠0:=fun e=>by subst e; exact absurd h (by decide)
 omega
theorem ZjT {l:List Pr} (hl:X3X l) {a b:Nat} (h:Up l a b):1<=a/\a<=6:=by
 induction h with
 | one hm=>have:=hl.role _ hm; omega
 | more _ _ ih=>exact ih
theorem Z9m {t:PB} (h:Xz t) (hn:t.n<=5) {c:Cu} (hc:InC t.n c):X1d t.l c ||| 126=126:=Xg.2 fun i hi=>by
 have h64:=hc.lt h.n.2;unfold X1d at hi;rw [ZbQ] at hi;obtain⟨x,hx,hb⟩:=hi;obtain⟨b,hbm,rfl⟩:=Y0i.1 hx;rw [Z15 (Z1X h64.1 h64.2),Y00,YP] at hbm;have hb1:(mkN t.n).testBit b=true:=hbm.elim (fun h=>Xg.1 hc.y b h) fun h=>Xg.1 hc.n b h;rw [Z2o,Y0k,Y0n,Y0n] at hb1;rcases (Z4G h.good.small b i).1 hb with hu|rfl
 . have := ZjT h.good hu;exact b126 this.1 this.2
 . exact b126 hb1.1 (by omega)
theorem Zdf {t:PB} (h:Xz t) (hn:t.n<=5) {c:Cu} (hc:InC t.n c):X1d t.l c<18446744073709551616:=by
 have:=Z9m h hn hc;have h2:X1d t.l c<=126:=by rw [<- this]; exact YZ
 omega
theorem X12.b126 {t:PB} (h:Xz t) (hn:t.n<=5) {R:Nat} (hR:X12 t R):R ||| 126=126 :=
 hR.least 126 ⟨fun c hc=>Z9m h hn (h.gl c hc).1,fun x hx _ _=>Z9m h hn (h.rs x hx).cu,fun c hc _=>Z9m h hn (h.nv c hc).1⟩
structure Snd (t:PB) (b:Bool) (p:List Nat) (l:List Cu):Prop where
 form:X6B b p l
 plan:b=true->X1N t p/\p.length<=100
 inv:b=false->X4C t fun S=>soC l S=true
 len:l.length<=100
 cub:∀ c∈l,(c.1 ||| c.2) ||| 126=126/\emC c=false
theorem Snd.able {t:PB} (h:Xz t) {b:Bool} {p:List Nat} {l:List Cu} (hs:Snd t b p l):b=true↔X1F t t.st:=by
 cases b with
 | true=>exact⟨fun _=>(hs.plan rfl).1.able h,fun _=>rfl⟩
 | false=>exact⟨(fun hb=>by cases hb),fun ha=>absurd ha ((hs.inv rfl).not_able h)⟩
theorem ZjU {R:Nat} (hR:R ||| 126=126) (c:Cu):((X1W R c).1 ||| (X1W R c).2) ||| 126=126:=by
 refine Zga (Xg.2 fun i hi=>?_) (Xg.2 fun i hi=>?_)
 . have hi : (c.1 &&& R).testBit i = true := hi;rw [Y0z,Y0k] at hi;exact Xg.1 hR i hi.2
 . have hi : (c.2 &&& R).testBit i = true := hi;rw [Y0z,Y0k] at hi;exact Xg.1 hR i hi.2
theorem ZkZ {R:Nat} {c:Cu} (h:emC c=false):emC (X1W R c)=false:=by
 unfold emC at h ⊢;rw [Y3A] at h ⊢;rw [Y3z] at h ⊢;refine YF fun i=>?_;have:=congrArg (fun n=>n.testBit i) h;simp only [Y0z,Y1E,X1W] at this ⊢;cases h1:c.1.testBit i with
 | false=>rfl
 | true=>rw [h1,Y1j] at this; rw [this]; simp
end
section
open Go.RowKit
attribute [local irreducible] aw Xk dK
theorem Zdg (x:Nat):∀ l:List Nat,orL (l ++ [x])=orL l ||| x
 | []=>by show x ||| 0=0 ||| x; rw [Nat.or_zero,Y3m]
 | y :: l=>by show y ||| orL (l ++ [x])=(y ||| orL l) ||| x; rw [Zdg x l,Y3t]
noncomputable def X5D (l:List Pr) (xs:List Nat):Nat:=orL (xs.map (sen l))
theorem ZgJ (l:List Pr) (xs:List Nat) (x:Nat):X5D l (xs ++ [x])=X5D l xs ||| sen l x:=by unfold X5D; rw [Y0r]; exact Zdg _ _
theorem ZjV {l:List Pr} (hl:XL l) {xs:List Nat} (h:∀ x∈xs,x<64):X5D l xs<18446744073709551616:=ZiM fun y hy=>by
 obtain⟨x,hx,rfl⟩:=Y0i.1 hy;exact ZcQ l hl (h x hx)
theorem Zl0 (l:List Pr) (c:Cu):X1d l c=X5D l (mem (c.1 ||| c.2)):=rfl
theorem ZjW {n:Nat} (hn:n<=5) {c:Cu} (hc:InC n c) {r:Nat} (hr:r∈mem (c.1 ||| c.2)):1<=r/\r<=5:=by
 have h64:=hc.lt (by omega);rw [Z15 (Z1X h64.1 h64.2),Y00,YP] at hr;have hb1:(mkN n).testBit r=true:=hr.elim (fun h=>Xg.1 hc.y r h) fun h=>Xg.1 hc.n r h;rw [Z2o,Y0k,Y0n,Y0n] at hb1;omega
theorem Z2U {t:PB} (h:Xz t) (hn:t.n<=5) (S:List Nat) (c:Cu) (hc:InC t.n c):Xa Tryz.prog 30 [.agg (pbP t S),.agg (cuC c)] (· = XH (X1d t.l c)):=by
 have hpp:=ZD t S;have h64:=hc.lt h.n.2;have hM:=Z1X h64.1 h64.2;have hmem:=fun r (hr:r∈mem (c.1 ||| c.2))=>ZjW hn hc hr;have hpi:∀ D,X26 D (pbP t S):=fun D=>ZI (fun _ h=>h.elim) _ hpp;have hci:∀ D,X26 D (cuC c):=fun D=>ZI (fun _ h=>h.elim) _ (Zi c);refine Yp ok30 fun C hC=>?_;rw [Zl0];refine Zq ?_;refine Za ?_;refine Z5 rfl rfl rfl ?_;refine Z5 rfl rfl rfl ?_;refine gd 11 ⟨?_⟩;refine Qe (Z1G c.1 c.2 h64.1 h64.2) ⟨Z2 _,Z2 _,Yt⟩ ?_;generalize c.1 ||| c.2=M at hM hmem
 refine Qe (Z1R M) ⟨Z2 _,Yt⟩ ?_;refine go ?_;refine Z2K (X:=List Nat) hC (caps := [.cp [.vec (X5 (X7 M)) false]]) [(2,.cp (pbP t S)),(3,.cp (cuC c)),(4,.ptr 0 0 0),(5,.ptr 1 0 0),(12,.fn 134 [.cp [.vec (X5 (X7 M)) false]])]
  (fun z => [(0,⟨1,[[.vec [] true]]⟩),(1,sBx (X5D t.l z))]) rfl ⟨⟨Z4 _,Yt⟩,Yt⟩ (Z2L M hM) (fun _=>rfl)
  (fun ex pre z=>ex=.normal/\z=pre.map (·.val)) 2 (by decide) [] ⟨rfl,rfl⟩
  (Z2q (X37.mem (ρ := fun i => i) (m := 2) (L := [(2, .cp (pbP t S)), (3, .cp (cuC c)), (4, .ptr 0 0 0), (5, .ptr 1 0 0), (12, .fn 134 [.cp [.vec (X5 (X7 M)) false]])]) ⟨Qp hpp, Qp (Zi c), Qt 0 0 0, Qt 1 0 0, Qp ⟨⟨Z4 _, Yt⟩, Yt⟩, Yt⟩)
    (X1o.mem (ρ:=fun i=>i) (m:=2) (L := [(0,⟨1,[[.vec [] true]]⟩),(1,sBx 0)]) ⟨Qs ⟨⟨Yt,Yt⟩,Yt⟩,⟨by decide,⟨1,[[.vec [] true]]⟩,rfl,by show Xr _ _ _ ⟨1,[[.vec (X5 (X7 0)) false]]⟩; rw [ZM]; exact Xr.single (ρ:=fun i=>i) (l0 := [.vec [] true]) (l := [.vec [] false]) (show X2n _ _ [_] [_] from ⟨.low (.vec [] true) Yt,Yt⟩) rfl⟩,Yt⟩) hC (by decide))
  (fun z q hq=>by simp at hq; rcases hq with rfl|rfl<;>exact Y1z _) _ (fun x=>rfl) ?_ ?_ ?_
 . rintro C2 hC2 pre x z ⟨-, rfl⟩ hlen;have hx:=hmem x.val x.2;have hst:=ZgJ t.l (pre.map (·.val)) x.val;have hz:=ZjV h.good.small (xs:=pre.map (·.val)) fun r hr=>by obtain⟨y,_,rfl⟩:=Y0i.1 hr; have:=hmem _ y.2; omega
   have hsl:=ZcQ t.l h.good.small (show x.val<64 by omega);refine gd 18 ⟨?_⟩;refine Qd (Z3V t.l S x.val hx.1 (by omega)) ⟨Zm _ _,Yt,Yt⟩ ?_;refine Qd (Z1G _ _ hz hsl) ⟨Z2 _,Z2 _,Yt⟩ ?_;rw [<- hst];refine go ?_
   exact⟨.inl rfl,pre.map (·.val) ++ [x.val],fun i=>i,⟨rfl,by rw [Y0r]; rfl⟩,fun i hi=>rfl,Zp,
    ⟨Qp hpp,Qp (Zi c),Qt 0 0 0,Qt 1 0 0,Qp ⟨⟨Z4 _,Yt⟩,Yt⟩,Yt⟩,
    ⟨Qs ⟨⟨Yt,Yt⟩,Yt⟩,Qs ⟨⟨Z4 _,Yt⟩,Yt⟩,Yt⟩⟩
 . rintro xs z hxs ⟨-, rfl⟩;rw [hxs];refine go ?_;exact Z8 rfl (Z2 _) rfl
 . rintro ex pre z - ⟨rfl,_⟩ (h|⟨id,h⟩)<;>cases h
theorem Z2I {t:PB} (h:Xz t) (hn:t.n<=5) (S:List Nat):Xa Tryz.prog 27 [.agg (pbP t S)] fun r=>∃ R,X12 t R/\r=XH R:=by
 have hpp:=ZD t S;have hrb:=h.rl;have hnb:=h.nl;have hgb:=h.gk;have hgm:(t.gl.map cuC).length=t.gl.length:=Y0f ..;have hrm:(t.rs.map ruP).length=t.rs.length:=Y0f ..;have hnm:(t.nv.map cuC).length=t.nv.length:=Y0f ..;have hgp:=Zc Zi t.gl;have hnp:=Zc Zi t.nv;have hrp:=Zs t.rs;refine Yp ok27 fun C hC=>?_;refine Zq ?_;refine Za ?_;refine Z5 rfl rfl rfl ?_;refine gd 13 ⟨?_⟩;refine Qe (Z2w h S) ⟨hpp,Yt⟩ ?_;refine go ?_;refine ZC hC (fun (z:Nat×Nat)=>z.1<=t.gl.length/\X4D t z.2/\∀ c∈t.gl.take z.1,X1d t.l c ||| z.2=z.2) (fun z=>t.gl.length-z.1) 2 (fun z => [(1,.cp (pbP t S)),(2,.ptr 0 0 0),(3,.ptr 1 0 0),(17,.vec (t.gl.map cuC) false),(18,.val (.int .i64 (t.gl.length:Int))),(19,Yv z.1)]) (fun z => [(0,⟨1,[[.vec [] true]]⟩),(1,sBx z.2)]) (by decide) (0,0) ⟨Y0l _,X4D.zero t,fun c hc=>by simp at hc⟩
  (fun i=>i) (fun _ _=>rfl) (Zu rfl) ⟨Qp hpp,Qt 0 0 0,Qt 1 0 0,Qp hgp,⟨_,by rw [<- hgm]; rfl,.pure _ Yt⟩,Qp Yt,Yt⟩
  ⟨Qs ⟨⟨Yt,Yt⟩,Yt⟩,⟨by decide,⟨1,[[.vec [] true]]⟩,rfl,by show Xr _ _ _ ⟨1,[[.vec (X5 (X7 0)) false]]⟩; rw [ZM]; exact Xr.single (ρ:=fun i=>i) (l0 := [.vec [] true]) (l := [.vec [] false]) (show X2n _ _ [_] [_] from ⟨.low (.vec [] true) Yt,Yt⟩) rfl⟩,Yt⟩ ?_
 rintro⟨i,acc⟩ ⟨hi,hl,hg⟩;dsimp only at hi hl hg ⊢;have hinc:IntKind.i64.wrap ((i:Int)+1)=((i+1:Nat):Int):=Y0v _ ⟨by omega,by omega⟩;refine gd 20 ⟨?_⟩;by_cases hil:i<t.gl.length
 . refine Qo (Qy rfl (by omega)) ?_;have hc:=(h.gl _ (Y0j hil)).1;have htk:∀ x,x∈t.gl.take (i+1)↔x∈t.gl.take i \/ x=t.gl[i]:=fun x=>Z22 hil;have hget:=Y0j hil;refine gd 21 ⟨?_⟩;refine Qo (Zo (xs:=t.gl) (g:=cuC) rfl rfl i rfl hil rfl) ?_;generalize t.gl[i]=c at hc htk hget;have hd:=Zdf h hn hc;refine gd 26 ⟨?_⟩;refine Qd (Z2U h hn S c hc) ⟨hpp,Zi c,Yt⟩ ?_;refine Qd (Z1G acc (X1d t.l c) hl.lt hd) ⟨Z2 _,Z2 _,Yt⟩ ?_;refine go ?_
   refine⟨(i+1,acc ||| X1d t.l c),fun i=>i,⟨hil,hl.add hd fun R' h' _=>h'.gl c hget,fun x hx=>?_⟩,by show t.gl.length-(i+1)<t.gl.length-i; omega,fun _ _=>rfl,Zp,
    ⟨Qp hpp,Qt 0 0 0,Qt 1 0 0,Qp hgp,Qp Yt,⟨_,by show some _=some _; rw [hinc],.pure _ Yt⟩,Yt⟩,⟨Qs ⟨⟨Yt,Yt⟩,Yt⟩,Qs ⟨⟨Z4 _,Yt⟩,Yt⟩,Yt⟩⟩
   rcases (htk x).1 hx with hx|rfl
   . exact Z4m (hg x hx) (Z8g _ _)
   . exact ZkG _ _
 have hg0:X67 t acc:=⟨hl,fun c hc=>hg c (by rw [Yy (by omega)]; exact hc)⟩
 clear hl hg hinc;refine Qo (Qz rfl (by omega)) ?_;refine go ?_;refine ZC hC (fun (a:Nat)=>X67 t a) (fun a=>18446744073709551616-a) 2 (fun a => [(1,.cp (pbP t S)),(2,.ptr 0 0 0),(3,.ptr 1 0 0)]) (fun a => [(0,⟨1,[[.vec [] true]]⟩),(1,sBx a)]) (by decide) acc hg0 (fun i=>i) (fun _ _=>rfl) Zp
  ⟨Qp hpp,Qt 0 0 0,Qt 1 0 0,Yt⟩ ⟨Qs ⟨⟨Yt,Yt⟩,Yt⟩,Qs ⟨⟨Z4 _,Yt⟩,Yt⟩,Yt⟩ ?_
 clear hg0 hi hil;intro old ho;refine go ?_;refine ZC hC (fun (z:Nat×Nat)=>z.1<=t.rs.length/\X4S t old z.1 z.2) (fun z=>t.rs.length-z.1) 3 (fun z => [(1,.cp (pbP t S)),(2,.ptr 0 0 0),(3,.ptr 1 0 0),(6,.ptr 2 0 0),(31,.vec (t.rs.map ruP) false),(32,.val (.int .i64 (t.rs.length:Int))),(33,Yv z.1)]) (fun z => [(0,⟨1,[[.vec [] true]]⟩),(1,sBx z.2),(2,sBx old)]) (by decide) (0,old) ⟨Y0l _,⟨ho.l,Nat.or_self _,fun _ x hx=>by simp at hx⟩⟩
  (fun i=>i) (fun _ _=>rfl) (Zu rfl) ⟨Qp hpp,Qt 0 0 0,Qt 1 0 0,Qt 2 0 0,Qp hrp,⟨_,by rw [<- hrm]; rfl,.pure _ Yt⟩,Qp Yt,Yt⟩
  ⟨Qs ⟨⟨Yt,Yt⟩,Yt⟩,Qs ⟨⟨Z4 _,Yt⟩,Yt⟩,Qs ⟨⟨Z4 _,Yt⟩,Yt⟩,Yt⟩ ?_
 clear i acc;rintro⟨i,acc⟩ ⟨hi,hR⟩;dsimp only at hi hR ⊢;have hinc:IntKind.i64.wrap ((i:Int)+1)=((i+1:Nat):Int):=Y0v _ ⟨by omega,by omega⟩;refine gd 34 ⟨?_⟩;by_cases hil:i<t.rs.length
 . refine Qo (Qy rfl (by omega)) ?_;have hx:=h.rs _ (Y0j hil);have hsk:=hR.skip hil;have had:=hR.add hil;have hal:=hR.l.lt;refine gd 35 ⟨?_⟩;refine Qo (Zo (xs:=t.rs) (g:=ruP) rfl rfl i rfl hil rfl) ?_;generalize t.rs[i]=x at hx hsk had;have hd:=Zdf h hn hx.cu;have hxt:=hx.tg;have hh:=Z1o acc hal x.tg;cases hv:x.rev
   case true =>
    refine gd 38 ⟨?_⟩;refine Qo (Z7 (v:=true) rfl hv) ?_;refine go ?_
    exact⟨(i+1,acc),fun i=>i,⟨hil,hsk (.inl hv)⟩,by show t.rs.length-(i+1)<t.rs.length-i; omega,fun _ _=>rfl,Zp,
     ⟨Qp hpp,Qt 0 0 0,Qt 1 0 0,Qt 2 0 0,Qp hrp,Qp Yt,⟨_,by show some _=some _; rw [hinc],.pure _ Yt⟩,Yt⟩,⟨Qs ⟨⟨Yt,Yt⟩,Yt⟩,Qs ⟨⟨Z4 _,Yt⟩,Yt⟩,Qs ⟨⟨Z4 _,Yt⟩,Yt⟩,Yt⟩⟩
   refine gd 38 ⟨?_⟩;refine Qo (Z7 (v:=false) rfl hv) ?_;refine gd 44 ⟨?_⟩;refine ZA rfl ?_;refine Qe hh ⟨Z2 _,Yt,Yt⟩ ?_;cases hb:acc.testBit x.tg
   case false =>
    refine go ?_
    exact⟨(i+1,acc),fun i=>i,⟨hil,hsk (.inr hb)⟩,by show t.rs.length-(i+1)<t.rs.length-i; omega,fun _ _=>rfl,Zp,
     ⟨Qp hpp,Qt 0 0 0,Qt 1 0 0,Qt 2 0 0,Qp hrp,Qp Yt,⟨_,by show some _=some _; rw [hinc],.pure _ Yt⟩,Yt⟩,⟨Qs ⟨⟨Yt,Yt⟩,Yt⟩,Qs ⟨⟨Z4 _,Yt⟩,Yt⟩,Qs ⟨⟨Z4 _,Yt⟩,Yt⟩,Yt⟩⟩
   refine gd 50 ⟨?_⟩;refine Qd (Z2U h hn S x.cu hx.cu) ⟨hpp,Zi x.cu,Yt⟩ ?_;refine Qd (Z1G acc (X1d t.l x.cu) hal hd) ⟨Z2 _,Z2 _,Yt⟩ ?_;refine go ?_
   exact⟨(i+1,acc ||| X1d t.l x.cu),fun i=>i,⟨hil,had hd hv hb⟩,by show t.rs.length-(i+1)<t.rs.length-i; omega,fun _ _=>rfl,Zp,
    ⟨Qp hpp,Qt 0 0 0,Qt 1 0 0,Qt 2 0 0,Qp hrp,Qp Yt,⟨_,by show some _=some _; rw [hinc],.pure _ Yt⟩,Yt⟩,⟨Qs ⟨⟨Yt,Yt⟩,Yt⟩,Qs ⟨⟨Z4 _,Yt⟩,Yt⟩,Qs ⟨⟨Z4 _,Yt⟩,Yt⟩,Yt⟩⟩
 have hN:=hR.done (by omega);clear hR hinc;refine Qo (Qz rfl (by omega)) ?_;refine go ?_;refine ZC hC (fun (z:Nat×Nat)=>z.1<=t.nv.length/\X47 t old z.1 z.2) (fun z=>t.nv.length-z.1) 3 (fun z => [(1,.cp (pbP t S)),(2,.ptr 0 0 0),(3,.ptr 1 0 0),(6,.ptr 2 0 0),(54,.vec (t.nv.map cuC) false),(55,.val (.int .i64 (t.nv.length:Int))),(56,Yv z.1)]) (fun z => [(0,⟨1,[[.vec [] true]]⟩),(1,sBx z.2),(2,sBx old)]) (by decide) (0,acc) ⟨Y0l _,hN⟩
  (fun i=>i) (fun _ _=>rfl) (Zu rfl) ⟨Qp hpp,Qt 0 0 0,Qt 1 0 0,Qt 2 0 0,Qp hnp,⟨_,by rw [<- hnm]; rfl,.pure _ Yt⟩,Qp Yt,Yt⟩
  ⟨Qs ⟨⟨Yt,Yt⟩,Yt⟩,Qs ⟨⟨Z4 _,Yt⟩,Yt⟩,Qs ⟨⟨Z4 _,Yt⟩,Yt⟩,Yt⟩ ?_
 clear hN hi hil;rintro⟨i,acc⟩ ⟨hi,hR⟩;dsimp only at hi hR ⊢;have hinc:IntKind.i64.wrap ((i:Int)+1)=((i+1:Nat):Int):=Y0v _ ⟨by omega,by omega⟩;have hal:=hR.l.lt;refine gd 57 ⟨?_⟩;by_cases hil:i<t.nv.length
 . refine Qo (Qy rfl (by omega)) ?_;have hx:=(h.nv _ (Y0j hil)).1;have hsk:=hR.skip hil;have had:=hR.add hil;refine gd 58 ⟨?_⟩;refine Qo (Zo (xs:=t.nv) (g:=cuC) rfl rfl i rfl hil rfl) ?_;generalize t.nv[i]=c at hx hsk had;have hd:=Zdf h hn hx;refine gd 62 ⟨?_⟩;refine Qe (Z2U h hn S c hx) ⟨hpp,Zi c,Yt⟩ ?_;refine gd 65 ⟨?_⟩;refine Qe (Z4c (X1d t.l c) acc hd hal) ⟨Z2 _,Z2 _,Yt⟩ ?_;by_cases hm:X1d t.l c &&& acc=0
   . rw [Y0w (Y3z.2 hm)];refine go ?_
     exact⟨(i+1,acc),fun i=>i,⟨hil,hsk hm⟩,by show t.nv.length-(i+1)<t.nv.length-i; omega,fun _ _=>rfl,Zp,
      ⟨Qp hpp,Qt 0 0 0,Qt 1 0 0,Qt 2 0 0,Qp hnp,Qp Yt,⟨_,by show some _=some _; rw [hinc],.pure _ Yt⟩,Yt⟩,⟨Qs ⟨⟨Yt,Yt⟩,Yt⟩,Qs ⟨⟨Z4 _,Yt⟩,Yt⟩,Qs ⟨⟨Z4 _,Yt⟩,Yt⟩,Yt⟩⟩
   rw [Yw hm];refine gd 68 ⟨?_⟩;refine Qe (Z1G acc (X1d t.l c) hal hd) ⟨Z2 _,Z2 _,Yt⟩ ?_;refine go ?_
   exact⟨(i+1,acc ||| X1d t.l c),fun i=>i,⟨hil,had hd hm⟩,by show t.nv.length-(i+1)<t.nv.length-i; omega,fun _ _=>rfl,Zp,
    ⟨Qp hpp,Qt 0 0 0,Qt 1 0 0,Qt 2 0 0,Qp hnp,Qp Yt,⟨_,by show some _=some _; rw [hinc],.pure _ Yt⟩,Yt⟩,⟨Qs ⟨⟨Yt,Yt⟩,Yt⟩,Qs ⟨⟨Z4 _,Yt⟩,Yt⟩,Qs ⟨⟨Z4 _,Yt⟩,Yt⟩,Yt⟩⟩
 refine Qo (Qz rfl (by omega)) ?_;refine gd 72 ⟨?_⟩;refine Qe (Z4A acc old hal ho.l.lt) ⟨Z2 _,Z2 _,Yt⟩ ?_;by_cases he:acc=old
 . rw [Yw he];subst he;refine go ?_;exact Z8 rfl (Z2 _) ⟨acc,hR.done ho (by omega),rfl⟩
 rw [Y0w he];have hlt:=Zgc hR.sub he;refine go ?_
 exact⟨acc,fun i=>i,hR.next ho,by omega,fun _ _=>rfl,Zp,
  ⟨Qp hpp,Qt 0 0 0,Qt 1 0 0,Yt⟩,⟨Qs ⟨⟨Yt,Yt⟩,Yt⟩,Qs ⟨⟨Z4 _,Yt⟩,Yt⟩,Yt⟩⟩
end
section
open Go.RowKit
def X3k (P:Program) (f:FuncId) (args:List PV) {X:Type} (Q:X->Prop) (mk:X->Nat->Nat->Nat->PV) (b1 b2 b3:X->Bx):Prop :=
 XX P f 0 args (fun _=>none) fun n' r h'=>∃ x i j k,Q x/\i≠j/\i≠k/\j≠k/\r=mk x i j k/\h' i=some (b1 x)/\h' j=some (b2 x)/\h' k=some (b3 x)
def Mk3 (mk:Nat->Nat->Nat->PV):Prop:=∀ (F:XF) (φ φ':XD) (v:Value) (i j k a b c:Nat),φ i=φ' a->φ j=φ' b->φ k=φ' c->Rep F φ v (mk i j k)->Rep F φ' v (mk a b c)
section
variable {P:Program} {C:Ctx} {e:Env} {h:X1} {n:Nat} {F:XF} {φ:XD} {a:Act} {w:World}
theorem X3k.ispec {f:FuncId} {args:List PV} {X:Type} {Q:X->Prop} {mk:X->Nat->Nat->Nat->PV} {b1 b2 b3:X->Bx} (hs:X3k P f args Q mk b1 b2 b3) (hmk:∀ x,Mk3 (mk x)) (hp1:∀ x,Q x->X2 (b1 x).elems) (hp2:∀ x,Q x->X2 (b2 x).elems) (hp3:∀ x,Q x->X2 (b3 x).elems) (hpr:X6 args) :
 XX P f n args h fun n' r h'=>∃ x,Q x/\n'=n+3/\r=mk x n (n+1) (n+2)/\h'=((h.upd n (b1 x)).upd (n+1) (b2 x)).upd (n+2) (b3 x):=by
 refine⟨hs.1,fun C e F φ a w vs s hv=>?_⟩
 let C1:Ctx:=⟨w,fun _=>False,F,C.nt,Xw⟩
 have hφn:∀ i,n<=i->φ i=none:=s.free;have hlow:∀ {i:Nat} {bi:Bx},h i=some bi->i<n:=by
  intro i bi hi;obtain⟨loc,h1,_⟩:=s.live i bi hi;exact Y4s fun hn=>by rw [hφn i hn] at h1; cases h1
 have s1:St' C1 (fun i=>0<=i) (fun _=>none) (fun _=>none) F Xw { a with defers := [] } w :=
  { nt:=s.nt,glob:=s.glob,marks:=X1l.nil rfl,loc0:=fun i x hx=>hx,free:=fun i hi=>rfl,env:=fun k p hp=>(by cases hp),froz:=s.froz,ext:=fun _ _ h=>h,old:=fun _ _ _=>rfl,os:=rfl,tape:=rfl,output:=rfl,size:=Y0m _,kept:=fun _ _ _=>rfl,live:=fun i b0 hi=>(by cases hi),sep:=fun i j bi bj li lj k hi hj _ _ _ _=>(by cases hi) }
 have hv1:X1B F Xw vs args:=⟨hv.1,fun i hi=>(hv.2 i hi).pure (ZL hpr i)⟩
 refine (hs.2 C1 _ F Xw { a with defers := [] } w vs s1 hv1).mono ?_;rintro en w' ⟨v,r,n',h',F',φ',rfl,⟨x,i1,i2,i3,hQ,h12,h13,h23,rfl,hb1,hb2,hb3⟩,hvr,s'⟩;obtain⟨l1,m11,m12,m13⟩:=s'.live i1 _ hb1;obtain⟨l2,m21,m22,m23⟩:=s'.live i2 _ hb2;obtain⟨l3,m31,m32,m33⟩:=s'.live i3 _ hb3;have nw:∀ {g:Nat},(w.heap.size<=g \/ C1.G g)->w.heap.size<=g:=fun hg=>hg.elim (fun h=>h) (fun h=>h.elim)
 let φ2:XD:=fun i=>if i=n then some l1 else if i=n+1 then some l2 else if i=n+2 then some l3 else φ i
 have e1:φ2 n=some l1:=by show (if n=n then some l1 else _)=_; rw [Y5 rfl]
 have e2:φ2 (n+1)=some l2:=by show (if n+1=n then some l1 else if n+1=n+1 then some l2 else _)=_; rw [Y6 (by omega),Y5 rfl]
 have e3:φ2 (n+2)=some l3:=by show (if n+2=n then some l1 else if n+2=n+1 then some l2 else if n+2=n+2 then some l3 else _)=_; rw [Y6 (by omega),Y6 (by omega),Y5 rfl]
 have e4:∀ {i:Nat},i≠n->i≠n+1->i≠n+2->φ2 i=φ i:=fun {i} ha hb hc=>by
  show (if i=n then some l1 else if i=n+1 then some l2 else if i=n+2 then some l3 else φ i)=_;rw [Y6 ha,Y6 hb,Y6 hc]
 have e5:∀ {i:Nat},i<n->φ2 i=φ i:=fun {i} hi=>e4 (by omega) (by omega) (by omega);have e6:∀ i y,φ i=some y->φ2 i=some y:=fun i y hy=>by
  rw [e5 (Y4s fun hn=>by rw [hφn i hn] at hy; cases hy)]; exact hy
 have hkeep:∀ k,k<w.heap.size->w'.heap[k]?=w.heap[k]?:=fun k hk=>s'.kept k hk fun hg=>hg;have src:∀ {i:Nat} {bi:Bx},(((h.upd n (b1 x)).upd (n+1) (b2 x)).upd (n+2) (b3 x)) i=some bi->(i=n+2/\bi=b3 x) \/ (i=n+1/\bi=b2 x) \/ (i=n/\bi=b1 x) \/ h i=some bi:=by
  intro i bi hi;by_cases q1:i=n+2
  . subst q1; rw [X1.upd_same] at hi; exact .inl ⟨rfl,(YN hi).symm⟩
  rw [X1.upd_ne _ _ q1] at hi;by_cases q2:i=n+1
  . subst q2; rw [X1.upd_same] at hi; exact .inr (.inl ⟨rfl,(YN hi).symm⟩)
  rw [X1.upd_ne _ _ q2] at hi;by_cases q3:i=n
  . subst q3; rw [X1.upd_same] at hi; exact .inr (.inr (.inl ⟨rfl,(YN hi).symm⟩))
  rw [X1.upd_ne _ _ q3] at hi;exact .inr (.inr (.inr hi))
 refine⟨v,mk x n (n+1) (n+2),n+3,_,F',φ2,rfl,⟨x,hQ,rfl,rfl,rfl⟩,hmk x F' φ' φ2 v i1 i2 i3 n (n+1) (n+2) (by rw [m11,e1]) (by rw [m21,e2]) (by rw [m31,e3]) hvr,?_⟩
 refine { nt := s.nt, glob := s'.glob, marks := s.marks.mono (fun k hk => by rw [hkeep k (Y7.1 hk).1]; exact hk), loc0 := fun i y hy => e6 i y (s.loc0 i y hy), free := fun i hi => by rw [e4 (by omega) (by omega) (by omega)]; exact s.free i (by omega), env := fun k p hp => ⟨(s.env k p hp).1, (s.env k p hp).2.mono s'.ext e6⟩, froz := s'.froz, ext := fun y v hy => s'.ext _ _ (s.ext y v hy),
          old:=fun y hy hg=>?_,os:=s'.os.trans s.os,tape:=s'.tape.trans s.tape,output:=s'.output.trans s.output,size:=Y03 s.size s'.size,kept:=fun k hk hg=>?_,live:=fun i bi hi=>?_,sep:=fun i j bi bj li lj k hi hj hli hlj hki hkj=>?_ }
 . rw [s'.old y (YE hy s.size) fun hg => hg];exact s.old y hy hg
 . rw [hkeep k (YE hk s.size)];exact s.kept k hk hg
 . rcases src hi with ⟨rfl, rfl⟩ | ⟨rfl, rfl⟩ | ⟨rfl, rfl⟩ | hi
   . exact⟨l3,e3,m32.names (hp3 x hQ),fun k hk=>⟨.inl (Y03 s.size (nw (m33 k hk).1)),(m33 k hk).2⟩⟩
   . exact⟨l2,e2,m22.names (hp2 x hQ),fun k hk=>⟨.inl (Y03 s.size (nw (m23 k hk).1)),(m23 k hk).2⟩⟩
   . exact⟨l1,e1,m12.names (hp1 x hQ),fun k hk=>⟨.inl (Y03 s.size (nw (m13 k hk).1)),(m13 k hk).2⟩⟩
   . obtain ⟨li, g1, g2, g3⟩ := s.live i bi hi;have hblk:∀ k,li.has k->w'.heap[k]?=w.heap[k]?:=fun k hk=>hkeep k (s.has_lt hi g1 hk);refine⟨li,by rw [e5 (hlow hi)]; exact g1,g2.mono s'.ext e6 hblk,fun k hk=>⟨(g3 k hk).1,fun y hy=>?_⟩⟩;rw [s'.old y (by rw [hy]; exact s.has_lt hi g1 hk) fun hg=>hg];exact (g3 k hk).2 y hy
 . have cls : ∀ {i : Nat} {bi : Bx} {li : Loc} {k : Nat}, (((h.upd n (b1 x)).upd (n + 1) (b2 x)).upd (n + 2) (b3 x)) i = some bi -> φ2 i = some li -> li.has k ->
    (h i=some bi/\φ i=some li/\k<w.heap.size) \/ (w.heap.size<=k/\∃ y c,h' y=some c/\φ' y=some li/\((i=n+2/\y=i3) \/ (i=n+1/\y=i2) \/ (i=n/\y=i1))):=by
    intro i bi li k hi hli hk;rcases src hi with⟨rfl,rfl⟩|⟨rfl,rfl⟩|⟨rfl,rfl⟩|hi
    . rw [e3] at hli; cases hli; exact .inr ⟨nw (m33 k hk).1,i3,_,hb3,m31,.inl ⟨rfl,rfl⟩⟩
    . rw [e2] at hli; cases hli; exact .inr ⟨nw (m23 k hk).1,i2,_,hb2,m21,.inr (.inl ⟨rfl,rfl⟩)⟩
    . rw [e1] at hli; cases hli; exact .inr ⟨nw (m13 k hk).1,i1,_,hb1,m11,.inr (.inr ⟨rfl,rfl⟩)⟩
    . rw [e5 (hlow hi)] at hli;exact .inl ⟨hi,hli,s.has_lt hi hli hk⟩
   rcases cls hi hli hki with⟨p1,p2,p3⟩|⟨p1,y1,c1,p2,p3,p4⟩<;>rcases cls hj hlj hkj with⟨q1,q2,q3⟩|⟨q1,y2,c2,q2,q3,q4⟩
   . exact s.sep i j bi bj li lj k p1 q1 p2 q2 hki hkj
   . omega
   . omega
   . have := s'.sep y1 y2 c1 c2 li lj k p2 q2 p3 q3 hki hkj;subst this;rcases p4 with⟨rfl,rfl⟩|⟨rfl,rfl⟩|⟨rfl,rfl⟩<;>rcases q4 with⟨rfl,e⟩|⟨rfl,e⟩|⟨rfl,e⟩<;>first|rfl|exact absurd e.symm h12|exact absurd e h12|exact absurd e.symm h13|exact absurd e h13|exact absurd e.symm h23|exact absurd e h23
theorem ZjX {f:Operand} {args:List Operand} {g:FuncId} {caps as0:List PV} {X:Type} {Q:X->Prop} {mk:X->Nat->Nat->Nat->PV} {b1 b2 b3:X->Bx} {d:Option Nat} {os:List Xl} {K:Nat->Env->X1->Prop} (hs:X3k P g (as0++caps) Q mk b1 b2 b3) (hmk:∀ x,Mk3 (mk x)) (hp1:∀ x,Q x->X2 (b1 x).elems) (hp2:∀ x,Q x->X2 (b2 x).elems) (hp3:∀ x,Q x->X2 (b3 x).elems) (hf:ev e f=some (.fn g caps)) (ha:evs e args=some as0) (hp:X6 (as0++caps))
 (hk:∀ x,Q x->Xk P os (n+3) (Xy e d (mk x n (n+1) (n+2))) (((h.upd n (b1 x)).upd (n+1) (b2 x)).upd (n+2) (b3 x)) K):Xk P (⟨d,.call f args,none⟩ :: os) n e h K :=
 Z1d hf ha (hs.ispec hmk hp1 hp2 hp3 hp) fun n' r h' hh=>by obtain⟨x,hQ,rfl,rfl,rfl⟩:=hh; exact hk x hQ
theorem Zim {f nt:Nat} {ac:X4} {rs:List X27} (hf:X3R P f nt ac rs) {args:List PV} {X:Type} {Q:X->Prop} {mk:X->Nat->Nat->Nat->PV} {b1 b2 b3:X->Bx} (hn:args.length<=nt)
 (hk:∀ C:Ctx,C.dom 0->aw P C ac (X5w rs fun n' r h'=>∃ x i j k,Q x/\i≠j/\i≠k/\j≠k/\r=mk x i j k/\h' i=some (b1 x)/\h' j=some (b2 x)/\h' k=some (b3 x)) 0 (XQ args) (fun _=>none)):X3k P f args Q mk b1 b2 b3:=Z1y hf hn hk
theorem ZjY {F:XF} {φ φ':XD} {l m:List PV} (hl:l.length=m.length) (h:∀ i v,i<m.length->Rep F φ v (l.getD i pvu)->Rep F φ' v (m.getD i pvu)) {v:Value} (hr:Rep F φ v (.agg l)):Rep F φ' v (.agg m):=by
 obtain⟨vs,rfl,h1,h2,h3⟩:=hr.agg_inv;exact .agg vs m (by rw [h1,hl]) (fun i hi=>h2 i (by rw [hl]; exact hi)) fun i hi=>h i _ hi (h3 i (by rw [hl]; exact hi))
end
end
section
open Go.RowKit
attribute [local irreducible] aw Xk dK
noncomputable def pbO (t:PB) (S:List Nat) (i j k:Nat):List PV := [.val (.int .i64 (t.n:Int)),XR t.l S,.vec (X5 (X7 t.st)) false,.own i,.own j,.own k]
section
variable {v0 v1 v2 v3 v4 v5:PV} {e:Int}
end
theorem Z8l (xs:List RU) (fl:Bool) (hlen:xs.length<=1000000):X1s Tryz.prog 23 [.vec (xs.map ruP) fl] .own ⟨5,xs.map ruP⟩:=by
 refine Z1A ok23 (Y0 rfl) fun C hC=>?_;have fin:∀ (x:RU) (xs:List RU),(∀ c∈(x :: xs).map ruP,c.length=5):=fun x xs c hc=>by obtain⟨y,_,rfl⟩:=Y0i.1 hc; rfl
 cases xs with
 | nil =>
   refine go ?_;refine Z4f (.inl ⟨_,_,rfl⟩) rfl fun b=>?_;cases b
   . repeat' (first | refine Zb (Zw (k := 5) rfl 5 (by decide)) ?_ | (first|refine st ?_|(apply B<;>intro hb<;>try cases hb)))
     exact⟨_,_,rfl,.inl rfl,_,rfl,rfl⟩
   . iterate 6 (first|refine st ?_|(apply B<;>intro hb<;>try cases hb))
     refine Z1l (Zw (k:=2) rfl 5 (by decide) _) ?_;refine go ?_;exact⟨_,_,rfl,.inl rfl,_,rfl,rfl⟩
 | cons x xs =>
   repeat' (first|refine Zb (Zw (k:=5) rfl 5 (by decide)) ?_|(first|refine st ?_|(apply B<;>intro hb<;>try cases hb)))
   refine ZH (Zt (k:=0) (m:=(x :: xs).map ruP) (fl:=fl) rfl rfl rfl (fin x xs) rfl (by
    show (([]:List (List PV)).length+((x :: xs).map ruP).length)*72<=_
    rw [Y0f,Y2A];omega)) rfl rfl ?_
   refine go ?_;exact⟨_,_,rfl,.inl rfl,_,rfl,by rw [Y1h]; rfl⟩
theorem Z4p (xs:List Cu) (fl:Bool) (hlen:xs.length<=1000000):X1s Tryz.prog 24 [.vec (xs.map cuC) fl] .own ⟨2,xs.map cuC⟩:=by
 refine Z1A ok24 (Y0 rfl) fun C hC=>?_;refine gd 4 ⟨?_⟩;refine Z3n (Z5y xs fl hlen) Z24 (Z0 _) rfl rfl ⟨Z0 _,Yt⟩ ?_;refine go ?_;exact⟨_,_,rfl,.inl rfl,0,rfl,rfl⟩
def ruK (q:RU×Nat):List PV:=ruP q.1
def kzP (t:PB) (R i:Nat):List (RU×Nat):=(t.rs.zipIdx.take i).filter fun q=>R.testBit q.1.tg
theorem Zin {t:PB} {R i:Nat} (h:i<t.rs.length):kzP t R (i+1)=kzP t R i++if R.testBit t.rs[i].tg then [(t.rs[i],i)] else []:=by
 unfold kzP;have hl:i<t.rs.zipIdx.length:=by rw [Y4i]; exact h
 rw [YY,Y0c hl,Y2d];congr 1;have:t.rs.zipIdx[i]=(t.rs[i],i):=by simp
 rw [this];show List.filter _ [_]=_;rw [Y4u]
 rfl
theorem ZjZ {t:PB} {R i:Nat} (h:t.rs.length<=i):kzP t R i=kzL t R:=by
 unfold kzP kzL;rw [Yy (by rw [Y4i]; exact h)]
theorem Zk0 (t:PB) (R i:Nat):(kzP t R i).length<=i:=Y03 (Y1J ..) (by rw [Y0o]; exact Y3o _ _)
noncomputable def nvP (t:PB) (R i:Nat):List Cu:=(t.nv.take i).filter fun c=>decide (X1d t.l c &&& R≠0)
theorem Zio {t:PB} {R i:Nat} (h:i<t.nv.length):nvP t R (i+1)=nvP t R i++if decide (X1d t.l t.nv[i] &&& R≠0) then [t.nv[i]] else []:=by
 unfold nvP;rw [YY,Y0c h,Y2d];congr 1;show List.filter _ [_]=_;rw [Y4u]
 rfl
theorem Zk1 (t:PB) (R i:Nat):(nvP t R i).length<=i:=Y03 (Y1J ..) (by rw [Y0o]; exact Y3o _ _)
theorem Zip (l:List (RU×Nat)) (x:RU) (i:Nat):l.map ruK ++ [ruP x]=(l ++ [(x,i)]).map ruK:=by simp [ruK]
theorem Ziq (l:List (RU×Nat)) (x:RU) (i:Nat):inL (l.map (·.2)) ++ [X3u i]=inL ((l ++ [(x,i)]).map (·.2)):=by simp [inL]
theorem Zk2 (l:List Cu) (c:Cu):l.map cuC ++ [cuC c]=(l ++ [c]).map cuC:=by simp
theorem Z3x (l:List (RU×Nat)):X2 (l.map ruK):=Zc (enc:=ruK) (fun q=>by have:=Zs [q.1]; exact this.1) l
def z6:List PV := [.val (.int .i64 0),.val (.pointer none),.vec [] true,.vec [] true,.vec [] true,.vec [] true]
theorem Zet {t:PB} (h:Xz t) (S:List Nat):Xa Tryz.prog 8 [.agg (pbP t S)] (· = .agg (pbP t S)):=by
 have hrl:=h.rl;have hnl:=h.nl;have hgk:=h.gk;refine Yp ok8 fun C hC=>?_;refine gd 5 ⟨?_⟩;refine Z3i (Z8l t.rs false (by omega)) Z24 (Zs _) rfl rfl rfl ⟨Zs _,Yt⟩ ?_;refine gd 8 ⟨?_⟩;refine Z3i (Z4p t.nv false (by omega)) Z24 (Z0 _) rfl rfl rfl ⟨Z0 _,Yt⟩ ?_;refine gd 11 ⟨?_⟩;refine Z3i (Z4p t.gl false (by omega)) Z24 (Z0 _) rfl rfl rfl ⟨Z0 _,Yt⟩ ?_;refine gd 15 ⟨?_⟩;refine Zb (Zk (ob:=0) (id:=4) (i0:=0) (j0:=3) rfl rfl (by decide) (Zs _) (Y0 rfl) (Y0 rfl) rfl) ?_;refine Zb (Zk (ob:=0) (id:=7) (i0:=0) (j0:=4) rfl rfl (by decide) (Z0 _) (Y0 rfl) (Y0 rfl) rfl) ?_;refine Zb (Zk (ob:=0) (id:=10) (i0:=0) (j0:=5) rfl rfl (by decide) (Z0 _) (Y0 rfl) (Y0 rfl) rfl) ?_;refine go ?_;exact Z8 rfl (ZD t S) rfl
theorem Zat {t:PB} (h:Xz t) (hn:t.n<=5) (S:List Nat):Xa Tryz.prog 11 [.agg (pbP t S)] fun r=>∃ R,X12 t R/\r=.tup [.agg (pbP (Xm t R) S),.vec (inL (X1U t R)) false,.val (.int .i64 0)]:=by
 have hpp:=ZD t S;have hrb:=h.rl;have hnb:=h.nl;have hrm:(t.rs.map ruP).length=t.rs.length:=Y0f ..;have hnm:(t.nv.map cuC).length=t.nv.length:=Y0f ..;have hnp:=Zc Zi t.nv;have hrp:=Zs t.rs;refine Yp ok11 fun C hC=>?_;refine Zq ?_;refine Za ?_;refine Z5 rfl rfl rfl ?_;refine gd 15 ⟨?_⟩;refine Qe (Z2w h S) ⟨hpp,Yt⟩ ?_;refine gd 21 ⟨?_⟩;refine Zz rfl rfl (Z2I h hn S) ⟨hpp,Yt⟩ rfl ?_;rintro r ⟨R,hR,rfl⟩;refine gd 23 ⟨?_⟩;refine Qe (Zet h S) ⟨hpp,Yt⟩ ?_;refine gd 31 ⟨?_⟩;refine Qd (Z2F t.st R (InS.lt h.n.2 h.st) hR.lt) ⟨Z2 _,Z2 _,Yt⟩ ?_;refine gd 35 ⟨?_⟩;refine Zb (ZP (id:=14) (i0:=0) (j0:=3) rfl (Y0 rfl) (Y0 rfl) rfl 5 (by decide) (by decide)) ?_;refine Zb (Zw (k:=9) rfl 1 (by decide)) ?_;refine go ?_;have hz6:∀ D,X26 D z6:=fun D=>⟨Yt,Yt,Yt,Yt,Yt,Yt,Yt⟩
 refine ZC hC (fun i=>i<=t.rs.length) (fun i=>t.rs.length-i) 18 (fun i => [(1,.cp (pbP t S)),(2,.ptr 0 0 0),(6,.ptr 1 0 0),(7,.ptr 2 0 0),(8,.ptr 14 0 0),(9,.own 17),(36,.vec (t.rs.map ruP) false),(37,.val (.int .i64 (t.rs.length:Int))),(38,Yv i)]) (fun i => [(0,⟨6,[z6]⟩),(1,sBx R),(2,⟨6,[pbP t S]⟩),(14,⟨6,[[.val (.int .i64 (t.n:Int)),XR t.l S,.vec (X5 (X7 (t.st &&& R))) false,.own 16,.vec [] true,.vec (t.gl.map cuC) false]]⟩),(16,⟨5,(kzP t R i).map ruK⟩),(17,⟨1,inL ((kzP t R i).map (·.2))⟩)]) (by decide) 0 (Y0l _)
  (fun i=>i) (fun _ _=>rfl) Zp ⟨Qp hpp,Qt 0 0 0,Qt 1 0 0,Qt 2 0 0,Qt 14 0 0,Qw 17,Qp hrp,⟨_,by rw [<- hrm]; rfl,.pure _ Yt⟩,Qp Yt,Yt⟩ ⟨Qs ⟨⟨Yt,Yt,Yt,Yt,Yt,Yt,Yt⟩,Yt⟩,Qs ⟨⟨Z4 _,Yt⟩,Yt⟩,Qs ⟨hpp,Yt⟩,⟨by decide,_,rfl,Xr.single ⟨.pure _ Yt,.pure _ (Zm _ _),.pure _ (Z4 _),.own (ρ:=fun i=>i) 16 (by decide),.pure _ Yt,.pure _ (Z0 _),Yt⟩ rfl⟩,Qs Yt,Qs Yt,Yt⟩ ?_
 intro i hi;have hinc:IntKind.i64.wrap ((i:Int)+1)=((i+1:Nat):Int):=Y0v _ ⟨by omega,by omega⟩;refine gd 39 ⟨?_⟩;by_cases hil:i<t.rs.length
 . refine Qo (Qy rfl (by omega)) ?_;have hsu:=Zin (R:=R) hil;have hkl:=Zk0 t R i;have hxo:=h.rs _ (Y0j hil);generalize kzP t R i=K at hsu hkl;refine gd 41 ⟨?_⟩;refine Qo (Zo (xs:=t.rs) (g:=ruP) rfl rfl i rfl hil rfl) ?_;generalize t.rs[i]=x at hsu hxo;refine gd 46 ⟨?_⟩;refine Qe (Z1o R hR.lt x.tg) ⟨Z2 _,Yt,Yt⟩ ?_;cases hb:R.testBit x.tg
   case false =>
    rw [hb,Y6 (by decide),Y0p] at hsu;refine go ?_
    exact⟨i+1,fun i=>i,hil,by omega,fun _ _=>rfl,Zp,
     ⟨Qp hpp,Qt 0 0 0,Qt 1 0 0,Qt 2 0 0,Qt 14 0 0,Qw 17,Qp hrp,Qp Yt,⟨_,by show some _=some _; rw [hinc],.pure _ Yt⟩,Yt⟩,⟨Qs ⟨⟨Yt,Yt,Yt,Yt,Yt,Yt,Yt⟩,Yt⟩,Qs ⟨⟨Z4 _,Yt⟩,Yt⟩,Qs ⟨hpp,Yt⟩,⟨by decide,_,rfl,Xr.single ⟨.pure _ Yt,.pure _ (Zm _ _),.pure _ (Z4 _),.own (ρ:=fun i=>i) 16 (by decide),.pure _ Yt,.pure _ (Z0 _),Yt⟩ rfl⟩,⟨by decide,_,rfl,by rw [hsu]; exact .same _ (Z3x _)⟩,⟨by decide,_,rfl,by rw [hsu]; exact .same _ (Zy _)⟩,Yt⟩⟩
   rw [hb,Y5 rfl] at hsu;refine gd 51 ⟨?_⟩
   refine ZH (Zt (k:=16) (m := [ruP x]) (fl:=true) rfl rfl rfl (fun q hq=>by rw [Y0g] at hq; subst hq; rfl) rfl (by
    show ((K.map ruK).length+1)*72<=_
    rw [Y0f];omega)) rfl rfl ?_
   simp only;rw [Zip K x i];refine gd 55 ⟨?_⟩
   refine ZH (Zt (k:=17) (m := [X3u i]) (fl:=true) rfl rfl rfl (fun q hq=>by rw [Y0g] at hq; subst hq; rfl) rfl (by
    show ((inL (K.map (·.2))).length+1)*8<=_
    rw [Z3t,Y0f];omega)) rfl rfl ?_
   simp only;rw [Ziq K x i];refine go ?_
   exact⟨i+1,fun i=>mv 16 19 (mv 17 20 i),hil,by omega,fun i hi=>absurd hi (YL i),Zu rfl,
    ⟨Qp hpp,Qt 0 0 0,Qt 1 0 0,Qt 2 0 0,Qt 14 0 0,Qw 17,Qp hrp,Qp Yt,⟨_,by show some _=some _; rw [hinc],.pure _ Yt⟩,Yt⟩,⟨Qs ⟨⟨Yt,Yt,Yt,Yt,Yt,Yt,Yt⟩,Yt⟩,Qs ⟨⟨Z4 _,Yt⟩,Yt⟩,Qs ⟨hpp,Yt⟩,⟨by decide,_,rfl,Xr.single ⟨.pure _ Yt,.pure _ (Zm _ _),.pure _ (Z4 _),.own (ρ:=fun i=>mv 16 19 (mv 17 20 i)) 16 (by decide),.pure _ Yt,.pure _ (Z0 _),Yt⟩ rfl⟩,⟨by decide,_,rfl,by rw [hsu]; exact .same _ (Z3x _)⟩,⟨by decide,_,rfl,by rw [hsu]; exact .same _ (Zy _)⟩,Yt⟩⟩
 have hie:t.rs.length<=i:=by omega
 rw [ZjZ hie];refine Qo (Qz rfl (by omega)) ?_;refine gd 58 ⟨?_⟩;refine Zb (Zk (ob:=14) (id:=16) (i0:=0) (j0:=3) rfl rfl (by decide) (Z3x _) (Y0 rfl) (Y0 rfl) rfl) ?_;refine Zb (Zn (k:=9) (id:=17) (b:=⟨1,inL ((kzL t R).map (·.2))⟩) rfl rfl (Zy _)) ?_;refine Zb (ZP (id:=14) (i0:=0) (j0:=4) rfl (Y0 rfl) (Y0 rfl) rfl 2 (by decide) (by decide)) ?_;refine go ?_;refine ZC hC (fun i=>i<=t.nv.length) (fun i=>t.nv.length-i) 19 (fun i => [(1,.cp (pbP t S)),(2,.ptr 0 0 0),(6,.ptr 1 0 0),(8,.ptr 14 0 0),(9,.vec (inL ((kzL t R).map (·.2))) false),(59,.vec (t.nv.map cuC) false),(60,.val (.int .i64 (t.nv.length:Int))),(61,Yv i)]) (fun i => [(0,⟨6,[z6]⟩),(1,sBx R),(14,⟨6,[[.val (.int .i64 (t.n:Int)),XR t.l S,.vec (X5 (X7 (t.st &&& R))) false,.vec ((kzL t R).map ruK) false,.own 18,.vec (t.gl.map cuC) false]]⟩),(18,⟨2,(nvP t R i).map cuC⟩)]) (by decide) 0 (Y0l _)
  (fun i=>i) (fun _ _=>rfl) Zp ⟨Qp hpp,Qt 0 0 0,Qt 1 0 0,Qt 14 0 0,Qp (Zy _),Qp hnp,⟨_,by rw [<- hnm]; rfl,.pure _ Yt⟩,Qp Yt,Yt⟩ ⟨Qs ⟨⟨Yt,Yt,Yt,Yt,Yt,Yt,Yt⟩,Yt⟩,Qs ⟨⟨Z4 _,Yt⟩,Yt⟩,⟨by decide,_,rfl,Xr.single ⟨.pure _ Yt,.pure _ (Zm _ _),.pure _ (Z4 _),.pure (.vec ((kzL t R).map ruK) false) (Z3x _),.own (ρ:=fun i=>i) 18 (by decide),.pure _ (Z0 _),Yt⟩ rfl⟩,Qs Yt,Yt⟩ ?_
 intro i hi;have hinc:IntKind.i64.wrap ((i:Int)+1)=((i+1:Nat):Int):=Y0v _ ⟨by omega,by omega⟩;refine gd 62 ⟨?_⟩;by_cases hil:i<t.nv.length
 . refine Qo (Qy rfl (by omega)) ?_;have hsu:=Zio (R:=R) hil;have hkl:=Zk1 t R i;have hx:=(h.nv _ (Y0j hil)).1;generalize nvP t R i=K at hsu hkl;refine gd 63 ⟨?_⟩;refine Qo (Zo (xs:=t.nv) (g:=cuC) rfl rfl i rfl hil rfl) ?_;generalize t.nv[i]=c at hsu hx;have hd:=Zdf h hn hx;refine gd 67 ⟨?_⟩;refine Qd (Z2U h hn S c hx) ⟨hpp,Zi c,Yt⟩ ?_;refine gd 69 ⟨?_⟩;refine Qd (Z4c (X1d t.l c) R hd hR.lt) ⟨Z2 _,Z2 _,Yt⟩ ?_;cases hb:decide (X1d t.l c &&& R≠0)
   case false =>
    rw [hb,Y6 (by decide),Y0p] at hsu;refine go ?_
    exact⟨i+1,fun i=>i,hil,by omega,fun _ _=>rfl,Zp,
     ⟨Qp hpp,Qt 0 0 0,Qt 1 0 0,Qt 14 0 0,Qp (Zy _),Qp hnp,Qp Yt,⟨_,by show some _=some _; rw [hinc],.pure _ Yt⟩,Yt⟩,⟨Qs ⟨⟨Yt,Yt,Yt,Yt,Yt,Yt,Yt⟩,Yt⟩,Qs ⟨⟨Z4 _,Yt⟩,Yt⟩,⟨by decide,_,rfl,Xr.single ⟨.pure _ Yt,.pure _ (Zm _ _),.pure _ (Z4 _),.pure (.vec ((kzL t R).map ruK) false) (Z3x _),.own (ρ:=fun i=>i) 18 (by decide),.pure _ (Z0 _),Yt⟩ rfl⟩,⟨by decide,_,rfl,by rw [hsu]; exact .same _ (Z0 _)⟩,Yt⟩⟩
   rw [hb,Y5 rfl] at hsu;refine gd 74 ⟨?_⟩
   refine ZH (Zt (k:=18) (m := [cuC c]) (fl:=true) rfl rfl rfl (fun q hq=>by rw [Y0g] at hq; subst hq; rfl) rfl (by
    show ((K.map cuC).length+1)*48<=_
    rw [Y0f];omega)) rfl rfl ?_
   simp only;rw [Zk2];refine go ?_
   exact⟨i+1,mv 18 25,hil,by omega,fun i hi=>absurd hi (YL i),Zu rfl,
    ⟨Qp hpp,Qt 0 0 0,Qt 1 0 0,Qt 14 0 0,Qp (Zy _),Qp hnp,Qp Yt,⟨_,by show some _=some _; rw [hinc],.pure _ Yt⟩,Yt⟩,⟨Qs ⟨⟨Yt,Yt,Yt,Yt,Yt,Yt,Yt⟩,Yt⟩,Qs ⟨⟨Z4 _,Yt⟩,Yt⟩,⟨by decide,_,rfl,Xr.single ⟨.pure _ Yt,.pure _ (Zm _ _),.pure _ (Z4 _),.pure (.vec ((kzL t R).map ruK) false) (Z3x _),.own (ρ:=mv 18 25) 18 (by decide),.pure _ (Z0 _),Yt⟩ rfl⟩,⟨by decide,_,rfl,by rw [hsu]; exact .same _ (Z0 _)⟩,Yt⟩⟩
 have hie:t.nv.length<=i:=by omega
 have hnv:nvP t R i=(Xm t R).nv:=by unfold nvP; rw [Yy hie]; rfl
 rw [hnv];refine Qo (Qz rfl (by omega)) ?_;refine gd 77 ⟨?_⟩;refine Zb (Zk (ob:=14) (id:=18) (i0:=0) (j0:=4) rfl rfl (by decide) (Z0 _) (Y0 rfl) (Y0 rfl) rfl) ?_;refine go ?_;have hrs:(kzL t R).map ruK=(Xm t R).rs.map ruP:=by unfold Xm; rw [Y2z]; rfl
 refine Z8 (r:=.tup [.agg [.val (.int .i64 (t.n:Int)),XR t.l S,.vec (X5 (X7 (t.st &&& R))) false,.vec ((kzL t R).map ruK) false,.vec ((Xm t R).nv.map cuC) false,.vec (t.gl.map cuC) false],.vec (inL ((kzL t R).map (·.2))) false,.val (.int .i64 0)]) rfl ⟨⟨Yt,Zm _ _,Z4 _,Z3x _,Z0 _,Z0 _,Yt⟩,Zy _,Yt,Yt⟩ ⟨R,hR,?_⟩;rw [hrs]
 rfl
end
section
open Go.RowKit
section
variable {P:Program} {e:Env} {h:X1} {n:Nat} {K:Nat->Env->X1->Prop} {os:List Xl} {d:Option Nat}
theorem Zau {vs:Array Value} {x:Value} {j:Nat} (hj:j<vs.size):(vs.push x).getD j undef=vs.getD j undef:=by
 rw [Y0d,Y0d,Array.getElem?_push,Y6 (by omega)]
theorem Zav {vs:Array Value} {x:Value}:(vs.push x).getD vs.size undef=x:=by
 rw [Y0d,Array.getElem?_push,Y5 rfl]; rfl
theorem Xa.roF {g g2:FuncId} {args:List PV} {i k esz:Nat} {l caps:List PV} {v:Value} (hs:Xa P g (args.set i (.fn g2 (.cp l :: caps))) (· = .val v)) (hi:args[i]?=some (.fn g2 (.ptr k 0 0 :: caps))) (hb:h k=some ⟨esz,[l]⟩) (hpr:X6 (args.set i (.fn g2 (.cp l :: caps)))) :
 XX P g n args h fun n' r h'=>n'=n/\r=.val v/\h'=h:=by
 refine⟨hs.1,fun C e F φ a w vs s hv=>?_⟩;have hil:i<args.length:=(Y8.1 hi).1;have hgi:args.getD i pvu=.fn g2 (.ptr k 0 0 :: caps):=by rw [Y0b,hi]; rfl
 have h0:=hv.2 i hil;rw [hgi] at h0;obtain⟨cv,hcv,hcs,hcr⟩:=h0.fn_inv;have hp0:=hcr 0 (by simp)
 let C1:Ctx:=⟨C.w0,C.G,C.F0,vs.size+1,C.φ0⟩
 let a1:Act:={ a with tmps:=vs.push (cv.getD 0 undef) }
 let e1:Env:=(XQ args).upd args.length (.ptr k 0 0)
 have s1:St' C1 (fun j=>n<=j) e1 h F φ a1 w:=by
  refine { nt:=by show (vs.push _).size=_; rw [Array.size_push],glob:=s.glob,marks:=⟨s.marks.nd,s.marks.all⟩,loc0:=s.loc0,free:=s.free,env:=fun j p hp=>?_,froz:=s.froz,ext:=s.ext,old:=s.old,os:=s.os,tape:=s.tape,output:=s.output,size:=s.size,kept:=s.kept,live:=s.live,sep:=s.sep };by_cases hj:j=args.length
  . subst hj;have hp:((XQ args).upd args.length (.ptr k 0 0)) args.length=some p:=hp;rw [Env.upd_same] at hp;cases hp;refine⟨by show args.length<vs.size+1; rw [hv.1]; omega,?_⟩;show Rep F φ ((vs.push (cv.getD 0 undef)).getD args.length undef) _;rw [<- hv.1,Zav];exact hp0
  . have hp : ((XQ args).upd args.length (.ptr k 0 0)) j = some p := hp;rw [Env.upd_ne _ _ hj] at hp;have hjl:j<args.length:=(Y8.1 hp).1;refine⟨by show j<vs.size+1; rw [hv.1]; omega,?_⟩;show Rep F φ ((vs.push (cv.getD 0 undef)).getD j undef) _;rw [Zau (by rw [hv.1]; exact hjl)];have h1:=hv.2 j hjl;have e2:args.getD j pvu=p:=by
     rw [Y0b];have hp':args[j]?=some p:=hp;rw [hp']; rfl
    rw [<- e2];exact h1
 obtain⟨F2,φ2,s2⟩:=Z2r (k:=args.length) (id:=k) (e:=e1) (Env.upd_same _ _ _) hb a1 w ⟨F,φ,s1⟩;have hcp:Rep F2 φ2 (cv.getD 0 undef) (.cp l):=by
  have:=(s2.env args.length (.cp l) (Env.upd_same _ _ _)).2;have e2:a1.tmps.getD args.length undef=cv.getD 0 undef:=by
   show (vs.push (cv.getD 0 undef)).getD args.length undef=_;rw [<- hv.1,Zav]
  rwa [e2] at this
 have hold:∀ j,j<args.length->Rep F2 φ2 (vs.getD j undef) (args.getD j pvu):=fun j hj=>by
  have he:(e1.upd args.length (.cp l)) j=some (args.getD j pvu):=by
   rw [Env.upd_ne _ _ (by omega)];show ((XQ args).upd args.length (.ptr k 0 0)) j=_;rw [Env.upd_ne _ _ (by omega),Y0b];show args[j]?=_;rw [Y0c hj]
   rfl
  have:=(s2.env j _ he).2;have e2:a1.tmps.getD j undef=vs.getD j undef:=Zau (by rw [hv.1]; exact hj)
  rwa [e2] at this
 have hrep:X1B F2 Xw vs (args.set i (.fn g2 (.cp l :: caps))):=by
  refine⟨by rw [hv.1,Y14],fun j hj=>?_⟩;have hj':j<args.length:=by rwa [Y14] at hj
  have hpj:=ZL hpr j;by_cases hji:j=i
  . subst hji;have e2:(args.set j (.fn g2 (.cp l :: caps))).getD j pvu=.fn g2 (.cp l :: caps):=by rw [Y0b,Y3P hj']; rfl
    rw [e2] at hpj ⊢;refine Rep.pure (φ:=φ2) ?_ hpj;rw [hcv];refine .fn g2 cv _ (by rw [hcs]; rfl) fun m hm=>?_;cases m with
    | zero=>exact hcp
    | succ m =>
      have h1:=hold j hj';rw [hgi,hcv] at h1;obtain⟨cv',h2,h3,h4⟩:=h1.fn_inv;cases h2;exact h4 (m+1) hm
  . have e2 : (args.set i (.fn g2 (.cp l :: caps))).getD j pvu = args.getD j pvu := by rw [Y0b, Y0b, Y3g (Y25 hji)]
    rw [e2] at hpj ⊢;exact Rep.pure (φ:=φ2) (hold j hj') hpj
 refine (hs.2 F2 w vs ⟨s2.froz,s2.glob⟩ hrep).mono ?_;rintro en w' ⟨v',r,F3,rfl,rfl,hr,hbel,-,-,-⟩;obtain rfl:v'=v:=hr.val_inv;exact⟨v',.val v',n,h,F,φ,rfl,⟨rfl,rfl,rfl⟩,.val _,s.called hbel (Holds.kept ⟨s.froz,s.glob⟩ hbel) (fun _ _ h=>h) fun _ _=>rfl⟩
theorem Zir {f:Operand} {args:List Operand} {g g2:FuncId} {caps caps2 as0 args':List PV} {i k esz:Nat} {l:List PV} {v:Value} (hs:Xa P g args' (· = .val v)) (hf:ev e f=some (.fn g caps)) (ha:evs e args=some as0) (hi:(as0++caps)[i]?=some (.fn g2 (.ptr k 0 0 :: caps2))) (hb:h k=some ⟨esz,[l]⟩) (hargs:(as0++caps).set i (.fn g2 (.cp l :: caps2))=args') (hpr:X6 args')
 (hk:Xk P os n (Xy e d (.val v)) h K):Xk P (⟨d,.call f args,none⟩ :: os) n e h K:=by
 subst hargs;exact Z1d hf ha (hs.roF hi hb hpr) fun n' r h' hh=>by obtain⟨rfl,rfl,rfl⟩:=hh; exact hk
end
end
section
open Go.RowKit
attribute [local irreducible] aw Xk dK
def X1J (t:PB):Bool:=decide (t.nv.length=0)&&(t.rs.all (fun x=>decide (x.cu.2=0))&&t.gl.all fun c=>decide (c.2=0))
theorem Zc6 {t:PB} (h:X1J t=true):X5z t:=by
 unfold X1J at h;rw [Y0k,Y0k,Y0n,YI,YI] at h;exact⟨List.length_eq_zero_iff.1 h.1,fun x hx=>Y0u (h.2.1 x hx),fun c hc=>Y0u (h.2.2 c hc)⟩
theorem Zeu (c:Cu) (hc:XA c):Xa Tryz.prog 34 [.agg (cuC c)] (· = .val (.bool (!decide (c.2=0)))):=by
 refine Yp ok34 fun C hC=>?_;refine Zq ?_;refine Za ?_;refine Z5 rfl rfl rfl ?_;refine gd 5 ⟨?_⟩;refine Qe (Z36 c.2 hc.2) ⟨Z2 _,Yt⟩ ?_;generalize decide (c.2=0)=b;cases b
 all_goals
  refine go ?_;exact Z8 rfl Yt rfl
theorem Z3y {t:PB} (h:Xz t) (S:List Nat):Xa Tryz.prog 13 [.agg (pbP t S)] (· = .val (.bool (X1J t))):=by
 have hpp:=ZD t S;have hrb:=h.rl;have hrm:(t.rs.map ruP).length=t.rs.length:=Y0f ..;have hnm:(t.nv.map cuC).length=t.nv.length:=Y0f ..;have hpi:∀ D,X26 D (pbP t S):=fun D=>ZI (fun _ h=>h.elim) _ hpp;have hri:∀ D,Xu D (t.rs.map ruP):=fun D=>Ze (fun _ h=>h.elim) _ (Zs t.rs);refine Yp ok13 fun C hC=>?_;refine Zq ?_;refine Za ?_;refine Z5 rfl rfl rfl ?_;refine gd 6 ⟨?_⟩;refine Qe (Z2w h S) ⟨hpp,Yt⟩ ?_;refine gd 12 ⟨?_⟩;refine ZA rfl ?_;by_cases h0:t.nv.length=0
 case neg =>
  refine Qo (Qy rfl (by rw [hnm];omega)) ?_;have e:X1J t=false:=by unfold X1J; rw [Y0w h0]; rfl
  rw [e];refine go ?_;exact Z8 rfl Yt rfl
 refine Qo (Qz rfl (by rw [hnm];omega)) ?_;have e:X1J t=(t.rs.all (fun x=>decide (x.cu.2=0))&&t.gl.all fun c=>decide (c.2=0)):=by unfold X1J; rw [Yw h0]; rfl
 rw [e];refine go ?_;refine ZB hC (fun i=>i<=t.rs.length/\(t.rs.take i).all (fun x=>decide (x.cu.2=0))=true) (fun i=>t.rs.length-i) 0 (fun i => [(1,.cp (pbP t S)),(15,.vec (t.rs.map ruP) false),(16,.val (.int .i64 (t.rs.length:Int))),(17,Yv i)]) (fun _=>[]) (Y0l _) 0 ⟨Y0l _,rfl⟩
  ⟨⟨rfl,hpi _⟩,⟨rfl,hri _⟩,⟨by rw [<- hrm]; rfl,Yt⟩,⟨rfl,Yt⟩,Yt⟩ Yt ?_
 rintro i ⟨hi,hall⟩;have hinc:IntKind.i64.wrap ((i:Int)+1)=((i+1:Nat):Int):=Y0v _ ⟨by omega,by omega⟩;refine gd 18 ⟨?_⟩;by_cases hil:i<t.rs.length
 . refine Qo (Qy rfl (by omega)) ?_;have htk:=Z11 hil;have hx:=(h.rs _ (Y0j hil)).cu.lt h.n.2;have hmem:=Y0j hil;refine gd 19 ⟨?_⟩;refine Qo (Zo (xs:=t.rs) (g:=ruP) rfl rfl i rfl hil rfl) ?_;generalize t.rs[i]=x at htk hx hmem;refine gd 24 ⟨?_⟩;refine Qe (Z36 x.cu.2 hx.2) ⟨Z2 _,Yt⟩ ?_;cases hb:decide (x.cu.2=0)
   . have e2 : t.rs.all (fun x => decide (x.cu.2 = 0)) = false := by
      rw [List.all_eq_false];exact⟨x,hmem,by rw [hb]; decide⟩
     rw [e2];refine go ?_;exact Z8 rfl Yt rfl
   . refine go ?_;exact⟨i+1,⟨hil,by rw [htk,List.all_append,hall]; simp only [List.all_cons,List.all_nil,hb]; rfl⟩,by omega,⟨⟨rfl,hpi _⟩,⟨rfl,hri _⟩,⟨rfl,Yt⟩,⟨by show some _=some _; rw [hinc],Yt⟩,Yt⟩,Yt⟩
 . refine Qo (Qz rfl (by omega)) ?_;rw [Yy (by omega)] at hall;rw [hall,Y1j,<- Z96];refine gd 29 ⟨?_⟩;refine Qe (Z1v t.gl cuC false 34 [] (fun c => !decide (c.2=0)) (fun _=>rfl) Zi Yt fun c hc=>Zeu c (h.gl64 c hc)) ⟨Zc Zi _,Yt,Yt⟩ ?_;generalize (t.gl.any fun c => !decide (c.2=0))=b;cases b
   all_goals
    refine go ?_;exact Z8 rfl Yt rfl
theorem ZgK {t:PB} (h:Xz t) (fin:Nat) (hf:fin<18446744073709551616) (x:RU) (hx:x∈t.rs):Xa Tryz.prog 152 [.agg (ruP x),.cp [.vec (X5 (X7 fin)) false],.cp [.vec (X5 (X7 (clo t.l fin))) false]] (· = .val (.bool (X3E t fin x))):=by
 have hx64:=(h.rs x hx).cu.lt h.n.2;refine Yp ok152 fun C hC=>?_;unfold X3E;refine Zq ?_;refine Za ?_;refine Z5 rfl rfl rfl ?_;refine gd 6 ⟨?_⟩;cases hv:x.rev
 case true =>
  refine Qo (Z7 (v:=true) rfl hv) ?_;refine go ?_;exact Z8 rfl Yt rfl
 refine Qo (Z7 (v:=false) rfl hv) ?_;refine gd 12 ⟨?_⟩;refine ZA rfl ?_;refine Qe (Z1o fin hf x.tg) ⟨Z2 _,Yt,Yt⟩ ?_;cases hb:fin.testBit x.tg
 case true =>
  refine go ?_;exact Z8 rfl Yt rfl
 refine gd 20 ⟨?_⟩;refine ZA rfl ?_;refine Qe (Z1P x.cu.1 (clo t.l fin) hx64.1 (Z7W _ _)) ⟨Z2 _,Z2 _,Yt⟩ ?_;generalize decide (x.cu.1 ||| clo t.l fin=clo t.l fin)=b;cases b
 all_goals
  refine go ?_;exact Z8 rfl Yt rfl
theorem Zev {α:Type} (p:α->Bool) (xs:List α):(X2G p xs = -1/\∀ x∈xs,p x=false) \/ ∃ (k:Nat) (h:k<xs.length),X2G p xs=(k:Int)/\p xs[k]=true:=by
 induction xs with
 | nil=>exact .inl ⟨rfl,fun x hx=>absurd hx (by simp)⟩
 | cons x xs ih =>
   unfold X2G;cases hp:p x with
   | true=>exact .inr ⟨0,Nat.succ_pos _,by simp,hp⟩
   | false =>
     rcases ih with⟨h1,h2⟩|⟨k,hk,h1,h2⟩
     . exact .inl ⟨by simp [h1],fun y hy=>(Y9.1 hy).elim (fun e=>e▸hp) (h2 y)⟩
     . exact .inr ⟨k+1,Nat.succ_lt_succ hk,by simp [h1]; omega,h2⟩
theorem Z7o {t:PB} (h:Xz t) (hn:t.n<=5) (hf:X5z t) (S:List Nat):Xa Tryz.prog 115 [.agg (pbP t S)] fun r=>∃ (fin:Nat) (used:List Nat),X4e t fin used/\(∀ x∈t.rs,X3E t fin x=false)/\r=.tup [XH fin,.vec (inL used) false]:=by
 have hpp:=ZD t S;have hrp:=Zs t.rs;have hrl:∀ x,(ruP x).length=5:=fun _=>rfl;have hru:∀ x,X6 (ruP x):=fun x=>(Zs [x]).1;refine Yp ok115 fun C hC=>?_;refine Zq ?_;refine Za ?_;refine Z5 rfl rfl rfl ?_;refine gd 8 ⟨?_⟩;refine go ?_;refine Z1l (Zw (k:=5) rfl 1 (by decide) C) ?_;refine ZC hC (fun (z:Nat×List Nat)=>X4e t z.1 z.2) (fun z=>100-z.1) 3 (fun z => [(1,.cp (pbP t S)),(2,.ptr 0 0 0),(4,.ptr 1 0 0),(5,.own 2)]) (fun z => [(0,⟨1,[[.vec [] true]]⟩),(1,sBx z.1),(2,⟨1,inL z.2⟩)]) (by decide) (t.st,[]) (X4e.base h) (fun i=>i) (fun _ _=>rfl) Zp
  ⟨Qp hpp,Qt 0 0 0,Qt 1 0 0,Qw 2,Yt⟩ ⟨Qs ⟨⟨Yt,Yt⟩,Yt⟩,Qs ⟨⟨Z4 _,Yt⟩,Yt⟩,Qs Yt,Yt⟩ ?_
 rintro⟨fin,used⟩ hj;dsimp only at hj ⊢;have hle:=InS.le hn hj.i.ins;have hul:=hj.ln;have hf64:fin<18446744073709551616:=by omega
 have hidx:=Z3X t.rs ruP false 152 [.cp [.vec (X5 (X7 fin)) false],.cp [.vec (X5 (X7 (clo t.l fin))) false]] (X3E t fin) hrl hru ⟨⟨Z4 _,Yt⟩,⟨Z4 _,Yt⟩,Yt⟩ fun x hx=>ZgK h fin hf64 x hx;refine gd 13 ⟨?_⟩;refine Qe (Z2k t.l S fin hf64) ⟨Zm _ _,Z2 _,Yt⟩ ?_;refine gd 14 ⟨?_⟩;refine Zb (Z1q (k:=6) (id:=3) (l := [.vec (X5 (X7 (clo t.l fin))) false]) rfl rfl ⟨Z4 _,Yt⟩) ?_;refine gd 17 ⟨?_⟩;refine Zir (i:=1) (k:=1) hidx rfl rfl rfl rfl rfl ⟨hrp,⟨⟨Z4 _,Yt⟩,⟨Z4 _,Yt⟩,Yt⟩,Yt⟩ ?_;rcases Zev (X3E t fin) t.rs with⟨e1,hno⟩|⟨k,hk,e1,hyes⟩
 . rw [e1];refine gd 20 ⟨?_⟩;refine Zb (Zn (k:=5) (id:=2) (b:=⟨1,inL used⟩) rfl rfl (Zy _)) ?_;refine go ?_;exact Z8 rfl ⟨Z2 _,Zy _,Yt⟩ ⟨fin,used,hj,hno,rfl⟩
 rw [e1];have hxo:=h.rs _ (Y0j hk);have hst:=hj.step h hn hf (Y0c hk) hyes;have hgr:fin<fin ||| 2 ^ t.rs[k].tg:=by
  have hy:=hyes;unfold X3E at hy;rw [Y0k,Y0k,Y12,Y12] at hy;exact Zgd hy.2.1
 refine gd 19 ⟨?_⟩;refine Qo (Qz rfl (by omega)) ?_;refine gd 26 ⟨?_⟩;refine Qr (Zo (xs:=t.rs) (g:=ruP) rfl rfl k rfl hk rfl) ?_;generalize t.rs[k]=x at hxo hst hgr;have hxt:=hxo.tg;refine gd 29 ⟨?_⟩;refine Qd (Z1s fin hf64 x.tg (by omega)) ⟨Z2 _,Yt,Yt⟩ ?_;refine gd 33 ⟨?_⟩
 refine Qr (Zt (k:=2) (m := [X3u k]) (fl:=true) rfl rfl rfl (fun q hq=>by rw [Y0g] at hq; subst hq; rfl) rfl (by
  show ((inL used).length+1)*8<=_
  rw [Z3t];omega)) ?_
 simp only;have hsn:inL used ++ [X3u k]=inL (used ++ [k]):=by simp [inL]
 rw [hsn];refine go ?_
 exact⟨(fin ||| 2 ^ x.tg,used ++ [k]),mv 2 15,hst,by dsimp only; omega,fun i hi=>absurd hi (YL i),Zu rfl,
  ⟨Qp hpp,Qt 0 0 0,Qt 1 0 0,Qw 2,Yt⟩,⟨Qs ⟨⟨Yt,Yt⟩,Yt⟩,Qs ⟨⟨Z4 _,Yt⟩,Yt⟩,Qs (Zy _),Yt⟩⟩
theorem Zc7 (N M:Nat) (hN:N<18446744073709551616) (hM:M<18446744073709551616):Xa Tryz.prog 116 [XH N,XH M] (· = XH (Xe N M)):=by
 have hlt:=Z50 (b:=M) hN;have hz:∀ M,Xe 0 M=0:=fun M=>Nat.le_zero.1 Y1s;have fin:∀ {r:PV} {x:Nat},x<18446744073709551616->X3F [x] r->r=XH x:=fun {r x} hx hr=>by
  have e1:=hr.set (fun y hy=>by rw [Y0g.1 hy]; exact hx);have e2:ofW [x]=x:=by simp [ofW]
  rw [e2] at e1;exact e1
 rcases Z19 hN with⟨rfl,e1⟩|⟨h1,e1⟩<;>rcases Z19 hM with⟨rfl,e2⟩|⟨h2,e2⟩<;>rw [e1]<;>(try rw [e2])<;>clear e1 e2
 all_goals
  refine Yp ok116 fun C hC=>?_;refine Zq ?_;refine Za ?_;refine Z5 rfl rfl rfl ?_;refine Z5 rfl rfl rfl ?_;refine go ?_;refine Z1z 1 ?_
 . repeat' (first | refine Zb (Zn (k := 29) rfl rfl (ZU rfl)) ?_ | (first|refine st ?_|(apply B<;>intro hb<;>try cases hb)))
   refine Zz rfl rfl (Z2i []) (ZY rfl) rfl fun r hr=>?_;have e1:=hr.set (fun x hx=>by cases hx);subst e1;refine go ?_;exact Z8 rfl (Z2 _) (show XH (ofW [])=_ by rw [hz]; simp [ofW])
 . repeat' (first | refine Zb (Zn (k := 29) rfl rfl (ZU rfl)) ?_ | (first|refine st ?_|(apply B<;>intro hb<;>try cases hb)))
   refine Zz rfl rfl (Z2i []) (ZY rfl) rfl fun r hr=>?_;have e1:=hr.set (fun x hx=>by cases hx);subst e1;refine go ?_;exact Z8 rfl (Z2 _) (show XH (ofW [])=_ by rw [hz]; simp [ofW])
 . refine gd 25 ⟨?_⟩;refine Qd (Z1e [] 0) (ZY rfl) ?_;refine Qr (ZS rfl (Z1j N 0 hN hM)) ?_
   repeat' (first|refine Zb (Zn (k:=29) rfl rfl (ZU rfl)) ?_|(first|refine st ?_|(apply B<;>intro hb<;>try cases hb)))
   refine Zz rfl rfl (Z2i [Xe N 0]) (ZY rfl) rfl fun r hr=>?_;obtain rfl:=fin hlt hr;refine go ?_;exact Z8 rfl (Z2 _) rfl
 . refine gd 25 ⟨?_⟩;refine Qd (Z1e [M] 0) (ZY rfl) ?_;refine Qr (ZS rfl (Z1j N M hN hM)) ?_
   repeat' (first|refine Zb (Zn (k:=29) rfl rfl (ZU rfl)) ?_|(first|refine st ?_|(apply B<;>intro hb<;>try cases hb)))
   refine Zz rfl rfl (Z2i [Xe N M]) (ZY rfl) rfl fun r hr=>?_;obtain rfl:=fin hlt hr;refine go ?_;exact Z8 rfl (Z2 _) rfl
theorem Zl1 {α:Type} {esz:Nat} {e:Env} {h:X1} {n:Nat} {x hi mx:Operand} {xs:List α} {g:α->List PV} {fl:Bool} (hx:ev e x=some (.vec (xs.map g) fl)) (b:Nat) (hhi:ev e hi=some (.val (.int .i64 (b:Int)))) (hmx:ev e mx=some (.val (.int .i64 (b:Int)))) (hb:b<=xs.length) (hg:∀ x,(g x).length=esz) :
 X3 (.slc esz x none (some hi) (some mx)) e h n=some (.vec ((xs.take b).map g) true,h):=by
 have h1:XK e 0 none=some ((0:Nat):Int):=rfl;have h2:XK e ((xs.map g).length:Nat) (some hi)=some (b:Int):=by simp only [XK,X1G,hhi]
 have h3:X1G (ev e mx)=some (b:Int):=by simp only [X1G,hmx]
 simp only [X3,hx];have hall:∀ c∈xs.map g,c.length=esz:=fun c hc=>by obtain⟨y,_,rfl⟩:=Y0i.1 hc; exact hg y
 rw [h1,h2,h3];dsimp only;rw [Y5 ⟨⟨by omega,by omega,by omega,by simp; omega⟩,hall⟩];simp [Y2o]
def X3O (x:Nat):List PV := [.vec (X5 (X7 (2 ^ x))) false,.vec [] true]
theorem Zaw (x:Nat):X6 (X3O x):=⟨Z4 _,Yt,Yt⟩
theorem Zis (x:Nat):X2l (X3O x)=cuC (X5o x):=by
 show [PV.vec (Xp (X5 (X7 (2 ^ x)))) false,PV.vec [] false] = [PV.vec (X5 (X7 (2 ^ x))) false,.vec (X5 (X7 0)) false];rw [Z16,ZM]; rfl
theorem Zax:∀ l:List Nat,Xp (l.map X3O)=(l.map X5o).map cuC
 | []=>rfl
 | x :: l => by
   show X2l (X3O x) :: Xp (l.map X3O)=_;rw [Zis,Zax l]; rfl
inductive X3S (t:PB):PV->Prop
 | yes (p:List Nat) (fp fl:Bool) (hp:X1N t p) (hl:p.length<=62):X3S t (.tup [.vec (inL p) fp,.vec [] fl,.val (.bool true),.val (.int .i64 0)])
 | no (fin R:Nat) (used:List Nat) (fl:Bool) (hR:X12 t R) (hj:X4e t fin used) (hend:∀ x∈t.rs,X3E t fin x=false) (hno:XB t fin=false):X3S t (.tup [.vec [] fl,.vec ((X4O (Xe R fin)).map cuC) false,.val (.bool false),.val (.int .i64 0)])
theorem Z7x {t:PB} (h:Xz t) (hn:t.n<=5) (hfr:X1J t=true) (S0:List Nat):Xa Tryz.prog 57 [.agg (pbP t S0)] (X3S t):=by
 have hpp:=ZD t S0;have hrp:=Zs t.rs;have hpi:∀ D,X26 D (pbP t S0):=fun D=>ZI (fun _ h=>h.elim) _ hpp;refine Yp ok57 fun C hC=>?_;refine Zq ?_;refine Za ?_;refine Z5 rfl rfl rfl ?_;refine gd 13 ⟨?_⟩;refine Qe (Z2w h S0) ⟨hpp,Yt⟩ ?_;refine gd 18 ⟨?_⟩;refine Qe (Z3y h S0) ⟨hpp,Yt⟩ ?_;rw [hfr];refine gd 22 ⟨?_⟩;refine Zz rfl rfl (Z7o h hn (Zc6 hfr) S0) ⟨hpp,Yt⟩ rfl ?_;rintro r ⟨fin,used,hj,hend,rfl⟩;have hfi:=hj.i.ins;have hle:=InS.le hn hfi;have hul:=hj.ln;have hlen:=Z3t used;have hui:∀ D,Xu D (inL used):=fun D=>Ze (fun _ h=>h.elim) _ (Zy used);refine go ?_;refine ZC hC (fun (z:Nat×Nat)=>z.1<=used.length+1/\InS t z.2/\(z.1<=used.length->SaP t used fin z.1 z.2)/\(used.length<z.1->XB t fin=false)) (fun z=>used.length+1-z.1) 3 (fun z => [(1,.cp (pbP t S0)),(3,.ptr 0 0 0),(7,.ptr 1 0 0),(8,.vec (inL used) false),(9,.ptr 2 0 0),(10,Yv z.1)]) (fun z => [(0,⟨1,[[.vec [] true]]⟩),(1,sBx fin),(2,sBx z.2)]) (by decide) (0,t.st) ⟨Y0l _,h.st,fun _=>SaP.base hj.i.run,fun h=>absurd h (by omega)⟩ (fun i=>i) (fun _ _=>rfl) Zp
  ⟨Qp hpp,Qt 0 0 0,Qt 1 0 0,Qp (Zy _),Qt 2 0 0,Qp Yt,Yt⟩ ⟨Qs ⟨⟨Yt,Yt⟩,Yt⟩,Qs ⟨⟨Z4 _,Yt⟩,Yt⟩,Qs ⟨⟨Z4 _,Yt⟩,Yt⟩,Yt⟩ ?_
 rintro⟨i,s⟩ ⟨hi,hs,hsp,hno⟩;dsimp only at hi hs hsp hno ⊢;have hinc:IntKind.i64.wrap ((i:Int)+1)=((i+1:Nat):Int):=Y0v _ ⟨by omega,by omega⟩;have hs64:=hs.lt h.n.2;refine gd 30 ⟨?_⟩;by_cases hil:i<=used.length
 . refine Qo (Qy rfl (by rw [hlen]; omega)) ?_;have hP:=hsp hil;refine gd 35 ⟨?_⟩;refine Qe (Z76 h S0 s hs64) ⟨hpp,Z2 _,Yt⟩ ?_;cases hr:XB t s
   case true =>
    refine gd 39 ⟨?_⟩;refine Qo (Zl1 (xs:=used) (g:=X3u) rfl i rfl rfl hil (fun _=>rfl)) ?_;refine go ?_;exact Z8 rfl ⟨Zy _,Yt,Yt,Yt,Yt⟩ (.yes (used.take i) true true ⟨s,hP.pre,hr⟩ (by rw [Y0o];omega))
   refine gd 43 ⟨?_⟩;by_cases hlt:i<used.length
   . refine Qo (Qy rfl (by rw [hlen]; omega)) ?_;obtain⟨x,hx,hP2⟩:=hP.step hlt hj.rv;have hxm:=Y13 hx;have hxt:=(h.rs x hxm).tg;obtain⟨hkl,hke⟩:=Y8.1 hx;refine gd 49 ⟨?_⟩;refine Qr (Zo (xs:=used) (g:=X3u) rfl rfl i rfl hlt rfl) ?_;generalize used[i]=k at hx hkl hke;refine gd 51 ⟨?_⟩;refine Qr (Zo (xs:=t.rs) (g:=ruP) rfl rfl k rfl hkl rfl) ?_;rw [hke];refine gd 54 ⟨?_⟩;refine Qd (Z1s s hs64 x.tg (by omega)) ⟨Z2 _,Yt,Yt⟩ ?_;have hin:InS t (s ||| 2 ^ x.tg):=ZbR h _ h.st hP2.pre;refine go ?_
     exact⟨(i+1,s ||| 2 ^ x.tg),fun i=>i,⟨by dsimp only; omega,hin,fun _=>hP2,fun h=>absurd h (by dsimp only;omega)⟩,by show used.length+1-(i+1)<used.length+1-i; omega,fun _ _=>rfl,Zp,
      ⟨Qp hpp,Qt 0 0 0,Qt 1 0 0,Qp (Zy _),Qt 2 0 0,⟨_,by show some _=some _; rw [hinc],.pure _ Yt⟩,Yt⟩,⟨Qs ⟨⟨Yt,Yt⟩,Yt⟩,Qs ⟨⟨Z4 _,Yt⟩,Yt⟩,Qs ⟨⟨Z4 _,Yt⟩,Yt⟩,Yt⟩⟩
   . refine Qo (Qz rfl (by rw [hlen]; omega)) ?_;have hsf:=hP.fin (by omega);refine go ?_
     exact⟨(i+1,s),fun i=>i,⟨by dsimp only; omega,hs,fun h=>absurd h (by dsimp only;omega),fun _=>by rw [<- hsf]; exact hr⟩,by show used.length+1-(i+1)<used.length+1-i; omega,fun _ _=>rfl,Zp,
      ⟨Qp hpp,Qt 0 0 0,Qt 1 0 0,Qp (Zy _),Qt 2 0 0,⟨_,by show some _=some _; rw [hinc],.pure _ Yt⟩,Yt⟩,⟨Qs ⟨⟨Yt,Yt⟩,Yt⟩,Qs ⟨⟨Z4 _,Yt⟩,Yt⟩,Qs ⟨⟨Z4 _,Yt⟩,Yt⟩,Yt⟩⟩
 have hnor:=hno (by omega);refine Qo (Qz rfl (by rw [hlen];omega)) ?_;have hf64:fin<18446744073709551616:=by omega
 refine gd 56 ⟨?_⟩;refine Z4x rfl rfl (.inl rfl) (Z2I h hn S0) ⟨hpp,Yt⟩ ?_;rintro r ⟨R,hR,rfl⟩;have hM:=Z50 (b:=fin) hR.lt;have hRb:=X12.b126 h hn hR;have hmem:∀ r∈mem (Xe R fin),1<=r/\r<=6:=fun r hr=>by
  rw [Z15 hM,ZF hR.lt hf64,Y0k] at hr;exact X6G (Xg.1 hRb r hr.1)
 have hml:=Z2y (Xe R fin);refine gd 58 ⟨?_⟩;refine Qd (Zc7 R fin hR.lt hf64) ⟨Z2 _,Z2 _,Yt⟩ ?_;refine Qd (Z1R (Xe R fin)) ⟨Z2 _,Yt⟩ ?_;have hgoal:∀ fl,X3S t (.tup [.vec [] fl,.vec ((X4O (Xe R fin)).map cuC) false,.val (.bool false),.val (.int .i64 0)]):=fun fl=>.no fin R used fl hR hj hend hnor;have hlow:=Zax (mem (Xe R fin));have hsl:(mem (Xe R fin)).map X5o=X4O (Xe R fin):=rfl;rw [hsl] at hlow;generalize X4O (Xe R fin)=L at hgoal hlow;generalize Xe R fin=M at hM hmem hml hlow;refine go ?_;refine Z1l (ZP (id:=0) (i0:=0) (j0:=0) rfl (Y0 rfl) (Y0 rfl) rfl 2 (by decide) (by decide) (Y0 rfl) C) ?_;refine Z2K (X:=List Nat) hC (caps := [.cp [.vec (X5 (X7 M)) false]]) [(3,.ptr 0 0 0),(59,.fn 134 [.cp [.vec (X5 (X7 M)) false]])]
  (fun z => [(0,⟨1,[[.own 8]]⟩),(8,⟨2,z.map X3O⟩)]) rfl ⟨⟨Z4 _,Yt⟩,Yt⟩ (Z2L M hM) (fun _=>rfl)
  (fun ex pre z=>ex=.normal/\z=pre.map (·.val)) 9 (by decide) [] ⟨rfl,rfl⟩
  (Z2q (X37.mem (ρ := fun i => i) (m := 9) (L := [(3, .ptr 0 0 0), (59, .fn 134 [.cp [.vec (X5 (X7 M)) false]])]) ⟨Qt 0 0 0, Qp ⟨⟨Z4 _, Yt⟩, Yt⟩, Yt⟩)
    (X1o.mem (ρ:=fun i=>i) (m:=9) (L := [(0,⟨1,[[.own 8]]⟩),(8,⟨2,[]⟩)]) ⟨⟨by decide,_,rfl,Xr.single ⟨.own (ρ:=fun i=>i) 8 (by decide),Yt⟩ rfl⟩,Qs Yt,Yt⟩) hC (by decide))
  (fun z q hq=>by simp at hq; rcases hq with rfl|rfl<;>exact Y1z _) _ (fun x=>rfl) ?_ ?_ ?_
 . rintro C2 hC2 pre x z ⟨-, rfl⟩ hlen2;have hx:=hmem x.val x.2;have hpl:(pre.map (·.val)).length<=64:=by rw [Y0f]; omega
   refine gd 64 ⟨?_⟩;refine Qd (Zem x.val (by omega) true) ⟨⟨⟨Yt,Yt⟩,Yt⟩,Yt⟩ ?_;refine gd 67 ⟨?_⟩
   refine Qr (Zt (k:=8) (m := [X3O x.val]) (fl:=true) rfl rfl rfl (fun q hq=>by rw [Y0g] at hq; subst hq; rfl) rfl (by
    show (((pre.map (·.val)).map X3O).length+1)*48<=_
    rw [Y0f];omega)) ?_
   refine go ?_
   refine⟨.inl rfl,pre.map (·.val) ++ [x.val],mv 8 15,⟨rfl,by rw [Y0r]; rfl⟩,fun i hi=>absurd hi (by omega),Zu rfl,
    ⟨Qt 0 0 0,Qp ⟨⟨Z4 _,Yt⟩,Yt⟩,Yt⟩,⟨⟨by decide,_,rfl,Xr.single ⟨.own (ρ:=mv 8 15) 8 (by decide),Yt⟩ rfl⟩,⟨by decide,_,rfl,?_⟩,Yt⟩⟩
   show Xr _ _ ⟨2,(pre.map (·.val)).map X3O ++ [X3O x.val]⟩ ⟨2,(pre.map (·.val) ++ [x.val]).map X3O⟩;rw [Y0r];exact .same _ (by rw [<- Y1a,<- Y0r]; exact Zc Zaw _)
 . rintro xs z hxs ⟨-, rfl⟩;rw [hxs];refine Z1l (fun a w hh=>(Zk (ob:=0) (id:=8) (i0:=0) (j0:=0) rfl rfl (by decide) (Zc Zaw _) (Y0 rfl) (Y0 rfl) rfl) C a w hh) ?_;refine go ?_;refine Z1I (r:=.tup [.vec [] true,.vec ((mem M).map X3O) false,.val (.bool false),.val (.int .i64 0)]) rfl ⟨Yt,by show X2 (Xp _); rw [hlow]; exact Z0 _,Yt,Yt,Yt⟩ ?_;have e:PV.low (.tup [.vec [] true,.vec ((mem M).map X3O) false,.val (.bool false),.val (.int .i64 0)])=.tup [.vec [] false,.vec (L.map cuC) false,.val (.bool false),.val (.int .i64 0)]:=by
    show PV.tup [.vec [] false,.vec (Xp ((mem M).map X3O)) false,_,_]=_;rw [hlow]; rfl
   rw [e];exact hgoal false
 . rintro ex pre z - ⟨rfl,_⟩ (h|⟨id,h⟩)<;>cases h
structure X3T (t:PB) (R:Nat) (l:List Cu):Prop where
 em:∀ c∈l,XA c/\emC c=false
 len:l.length<=64
 inv:X4C t fun S=>soC (l.map (X1W R)) S=true
theorem X3T.snd {t:PB} {R:Nat} {l:List Cu} (h:X3T t R l) (hR:R ||| 126=126):Snd t false [] (l.map (X1W R)) where
 form:=.inr ⟨rfl,rfl⟩
 plan:=fun h=>by cases h
 inv:=fun _=>h.inv
 len:=by rw [Y0f]; have:=h.len; omega
 cub:=fun c hc=>by
  obtain⟨d,hd,rfl⟩:=Y0i.1 hc;exact⟨ZjU hR d,ZkZ (h.em d hd).2⟩
theorem Zc8 {t:PB} (h:Xz t) (hn:t.n<=5) {R:Nat} (hR:X12 t R) {ks:List KE} (hk:X1I (Xm t R) ks):X3T t R (kcs ks):=by
 have hp:=Z4H h hR.a.ok;have hmem:∀ c∈kcs ks,InM (mkN t.n) c/\emC c=false:=fun c hc=>by
  obtain⟨e,he,rfl⟩:=Y0i.1 hc;exact (hk.inv.mem e he).2
 refine⟨fun c hc=>⟨hk.inv.c64 c hc,(hmem c hc).2⟩,?_,Zi2 h hR.a.ok hmem (fun S hS _=>hk.able_iff hp hS) fun ha=>hk.not_able hp ((Z8f h hR.a.ok).2 ha)⟩;have h1:=hk.inv.len;have h2:2 ^ t.n<=32:=YX (n:=2) (by decide) hn;have h3:(kcs ks).length=ks.length:=by simp [kcs]
 have h4:ks.length<=2 ^ t.n:=h1;omega
theorem Zew {t:PB} (h:Xz t) {R R':Nat} (hR:X12 t R) (hR':X12 (Xm t R) R') (hf:X5z (Xm t R)) {fin:Nat} {used:List Nat} (hj:X4e (Xm t R) fin used) (hend:∀ x∈(Xm t R).rs,X3E (Xm t R) fin x=false) (hno:XB (Xm t R) fin=false):X3T t R (X4O (Xe R' fin)):=by
 refine⟨fun c hc=>?_,by unfold X4O; rw [Y0f]; exact Z2y _,Zi5 h hR hR' hf hj hend hno⟩;obtain⟨r,hr,rfl⟩:=Y0i.1 hc;exact⟨⟨ZV (Z3C hr),Y1z _⟩,by unfold emC X5o; simp⟩
theorem Zdh {t:PB} (h:Xz t) {R:Nat} (hR:X12 t R) {p:List Nat} (hp:X1N (Xm t R) p) (hl:p.length<=62):(∀ k∈p,k<(X1U t R).length)/\Snd t true (p.map fun j=>(X1U t R).getD j 0) []:=by
 obtain⟨h1,h2⟩:=Z8e h hR.a.ok hp;exact⟨h1,⟨.inl ⟨rfl,rfl⟩,fun _=>⟨h2,by rw [Y0f]; omega⟩,(fun h=>by cases h),Y0l _,(fun c hc=>by cases hc)⟩⟩
theorem Z7p (p kept:List Nat) (fp fk:Bool) (hp:∀ k∈p,k<kept.length) (hl:p.length<=1000):Xa Tryz.prog 60 [.vec (inL p) fp,.vec (inL kept) fk] (· = .tup [.vec (inL (p.map fun j=>kept.getD j 0)) false,.val (.int .i64 0)]):=by
 have hpl:=Z3t p;have hkl:=Z3t kept;refine Yp ok60 fun C hC=>?_
 repeat' (first|refine Zb (Zw (k:=6) rfl 1 (by decide)) ?_|(first|refine st ?_|(apply B<;>intro hb<;>try cases hb)))
 refine ZC hC (fun i=>i<=p.length) (fun i=>p.length-i) 1 (fun i => [(1,.vec (inL kept) fk),(6,.own 0),(9,.vec (inL p) fp),(10,.val (.int .i64 (p.length:Int))),(11,Yv i)]) (fun i => [(0,⟨1,inL ((p.take i).map fun j=>kept.getD j 0)⟩)]) (Y0l _) 0 (Y0l _) (fun i=>i) (fun _ _=>rfl) Zp
  ⟨Qp (Zy _),Qw 0,Qp (Zy _),⟨_,by show some _=some _; rw [hpl],.pure _ Yt⟩,Qp Yt,Yt⟩ ⟨Qs Yt,Yt⟩ ?_
 intro i hi;have hinc:IntKind.i64.wrap ((i:Int)+1)=((i+1:Nat):Int):=Y0v _ ⟨by omega,by omega⟩;refine gd 12 ⟨?_⟩;by_cases hil:i<p.length
 . refine Qo (Qy rfl (by omega)) ?_;have hk:=hp _ (Y0j hil);have htk:=Z11 hil;have hol:((p.take i).map fun j=>kept.getD j 0).length<=i:=by rw [Y0f,Y0o]; omega
   refine gd 13 ⟨?_⟩;refine Qo (Zo (xs:=p) (g:=X3u) rfl rfl i rfl hil rfl) ?_;generalize p[i]=k at hk htk;have hgd:kept.getD k 0=kept[k]:=by rw [Y0b,Y0c hk]; rfl
   have hsn:inL ((p.take i).map fun j=>kept.getD j 0) ++ [X3u kept[k]]=inL ((p.take (i+1)).map fun j=>kept.getD j 0):=by rw [htk,Y0r,<- hgd]; simp [inL]
   refine gd 16 ⟨?_⟩;refine Qo (Qz rfl (by omega)) ?_;refine gd 21 ⟨?_⟩;refine ZA rfl ?_;refine Qo (Qz rfl (by rw [hkl];omega)) ?_;refine gd 26 ⟨?_⟩;refine Qo (Zo (xs:=kept) (g:=X3u) rfl rfl k rfl hk rfl) ?_;generalize kept[k]=m at hsn;refine gd 29 ⟨?_⟩
   refine ZH (Zt (k:=0) (m := [X3u m]) (fl:=true) rfl rfl rfl (fun q hq=>by rw [Y0g] at hq; subst hq; rfl) rfl (by
    show ((inL ((p.take i).map fun j=>kept.getD j 0)).length+1)*8<=_
    rw [Z3t];omega)) rfl rfl ?_
   simp only;rw [hsn];refine go ?_
   exact⟨i+1,mv 0 1,hil,by omega,fun i hi=>absurd hi (YL i),Zu rfl,
    ⟨Qp (Zy _),Qw 0,Qp (Zy _),Qp Yt,⟨_,by show some _=some _; rw [hinc],.pure _ Yt⟩,Yt⟩,⟨Qs (Zy _),Yt⟩⟩
 . have htk : p.take i = p := Yy (by omega);rw [htk];refine Qo (Qz rfl (by omega)) ?_
   repeat' (first|refine Zb (Zn (k:=6) (id:=0) (b:=⟨1,inL (p.map fun j=>kept.getD j 0)⟩) rfl rfl (Zy _)) ?_|(first|refine st ?_|(apply B<;>intro hb<;>try cases hb)))
   exact Z8 rfl ⟨Zy _,Yt,Yt⟩ rfl
noncomputable def prX (t:PB) (R:Nat) (S:List Nat):List PV := [.val (.int .i64 (t.n:Int)),XR t.l S,.vec (X5 (X7 t.st)) false,.vec (t.rs.map ruP) false,.vec (t.nv.map cuC) false,.vec (t.gl.map cuC) false,
 .val (.int .i64 (t.n:Int)),XR t.l S,.vec (X5 (X7 (t.st &&& R))) false,.vec ((Xm t R).rs.map ruP) false,.vec ((Xm t R).nv.map cuC) false,.vec (t.gl.map cuC) false,.vec (inL (X1U t R)) false,.vec (X5 (X7 R)) false]
theorem Z6t (t:PB) (R:Nat) (S:List Nat):X6 (prX t R S):=⟨Yt,Zm _ _,Z4 _,Zs _,Z0 _,Z0 _,Yt,Zm _ _,Z4 _,Zs _,Z0 _,Z0 _,Zy _,Z4 _,Yt⟩
theorem Zex {t:PB} (h:Xz t) (hn:t.n<=5) (S:List Nat) (L:Int) (hL:1<=L):Xa Tryz.prog 21 [.agg (pbP t S),.val (.int .i64 L)] fun r=>∃ R,X12 t R/\r=.tup [.agg (prX t R S),.val (.int .i64 0)]:=by
 have hpp:=ZD t S;refine Yp ok21 fun C hC=>?_;refine Zq ?_;refine Za ?_;refine Z5 rfl rfl rfl ?_;refine gd 11 ⟨?_⟩;refine Qo (Qz rfl (by omega)) ?_;refine gd 14 ⟨?_⟩;refine Qe (Z2w h S) ⟨hpp,Yt⟩ ?_;refine gd 21 ⟨?_⟩;refine Zz rfl rfl (Zat h hn S) ⟨hpp,Yt⟩ rfl ?_;rintro r ⟨R,hR,rfl⟩;refine gd 29 ⟨?_⟩;refine Z4x rfl rfl (.inl rfl) (Z2I h hn S) ⟨hpp,Yt⟩ ?_;rintro r ⟨R2,hR2,rfl⟩;obtain rfl:=hR2.uniq hR;refine go ?_;exact Z8 (r:=.tup [.agg (prX t R2 S),.val (.int .i64 0)]) rfl ⟨Z6t t R2 S,Yt,Yt⟩ ⟨R2,hR,rfl⟩
theorem X4X {e:Env} {h:X1} {a b s:Nat} {r v:PV} (h1:X3 (.load true s (.tmp a)) e h 0=some (r,h)) (h2:e b=some v):XT [.cell a true s,.tmp b] e h=some (.tup [r,v]):=by
 simp [XT,X2O,X5C,h1,h2]
def X4K:List PV:=Xs (List.replicate 32 0) false [] true [] true
theorem Z3c:X6 X4K:=Z1t _ _ _ _ _ _
inductive X4H (t:PB) (m:Nat) (L:Int):PV->Prop
 | ok (b:Bool) (p:List Nat) (fp:Bool) (l:List Cu) (fl:Bool) (hs:Snd t b p l):X4H t m L (.tup [.agg (Xs (XV t) b p fp l fl),.val (.int .i64 0)])
 | lim (hm:m=2) (hl:L<((2 ^ t.n:Nat):Int)):X4H t m L (.tup [.agg X4K,.val (.int .i64 3)])
 | scope (R:Nat) (hm:m=1) (hR:X12 t R) (hf:X1J (Xm t R)=false):X4H t m L (.tup [.agg X4K,.val (.int .i64 15)])
theorem Zey {t:PB} (h:Xz t) (hfr:X1J t=false) (S0:List Nat):Xa Tryz.prog 57 [.agg (pbP t S0)] (· = .tup [.vec [] true,.vec [] true,.val (.bool false),.val (.int .i64 15)]):=by
 have hpp:=ZD t S0;refine Yp ok57 fun C hC=>?_;refine Zq ?_;refine Za ?_;refine Z5 rfl rfl rfl ?_;refine gd 13 ⟨?_⟩;refine Qe (Z2w h S0) ⟨hpp,Yt⟩ ?_;refine gd 18 ⟨?_⟩;refine Qe (Z3y h S0) ⟨hpp,Yt⟩ ?_;rw [hfr];refine go ?_;exact Z8 rfl ⟨Yt,Yt,Yt,Yt,Yt⟩ rfl
section
variable {t:PB} (h:Xz t) (hn:t.n<=5) (hw:PbW t) (S:List Nat) {R:Nat} (hR:X12 t R) (L:Int)
include h hn hw hR
theorem Zay:Xa Tryz.prog 22 [.agg (prX t R S),.val (.int .u8 1),.val (.int .i64 L)] (X4H t 1 L):=by
 have hpp:=ZD t S;have hxp:=Z6t t R S;have hpo:=Z4H h hR.a.ok;have hpq:=ZD (Xm t R) S;have hid0:=Z2f t;have hRb:=X12.b126 h hn hR;refine Yp ok22 fun C hC=>?_;refine Zq ?_;refine Za ?_;refine Z5 (Z77 rfl (by show 0<14; decide)) rfl rfl ?_;refine gd 31 ⟨?_⟩;cases hfr:X1J (Xm t R)
 case false =>
  refine Qe (Zey hpo hfr S) ⟨hpq,Yt⟩ ?_;refine go ?_;exact Z8 (r:=.tup [.agg X4K,.val (.int .i64 15)]) rfl ⟨Z3c,Yt,Yt⟩ (.scope R rfl hR hfr)
 refine Zz rfl rfl (Z7x hpo hn hfr S) ⟨hpq,Yt⟩ rfl ?_;intro r hr;cases hr with
 | yes p fp fl hp hl =>
   obtain⟨h1,hsnd⟩:=Zdh h hR hp (by omega);refine gd 56 ⟨?_⟩;refine Qe (Z7p p (X1U t R) _ false h1 (by omega)) ⟨Zy p,Zy _,Yt⟩ ?_;generalize p.map (fun j=>(X1U t R).getD j 0)=q at hsnd;have hql:=(hsnd.plan rfl).2;refine gd 66 ⟨?_⟩;refine Qe (Z5Y h hw S q false (by omega)) ⟨hpp,Zy q,Yt⟩ ?_;have hc1:(Xs (XV t) true q false [] true).length=35:=Z1E hid0;have hcp:=Z1t (XV t) true q false [] true;have hRR:X4H t 1 L (.tup [.agg (Xs (XV t) true q false [] true),.val (.int .i64 0)]):=.ok true q false [] true hsnd;generalize Xs (XV t) true q false [] true=cc at hc1 hcp hRR;have hcl:(cc ++ []).length=35:=by rw [Y0p]; exact hc1
   have htk:((cc ++ []).drop 0).take 35=cc:=by rw [Y0p,Y16,Yy (by omega)]
   refine Qo (Z3b rfl rfl rfl hc1 rfl) ?_;refine go ?_;exact Z8 (X4X (Z4r (l:=cc ++ []) (r:=cc) rfl rfl (by omega) htk) rfl) ⟨hcp,Yt,Yt⟩ hRR
 | no fin R2 used fl hR2 hj hend hno0 =>
   have hno:=Zew h hR hR2 (Zc6 hfr) hj hend hno0;clear hj hend hno0;generalize X4O (Xe R2 fin)=l at hno;have hpl:=hno.len;have hnm:(l.map cuC).length=l.length:=Y0f ..;have hsnd:=hno.snd hRb;have hle:∀ c∈l,XA c:=fun c hc=>(hno.em c hc).1;clear hno
   repeat' (first|refine Zb (Zw (k:=14) rfl 2 (by decide)) ?_|(first|refine st ?_|(apply B<;>intro hb<;>try cases hb)))
   refine ZC hC (fun i=>i<=l.length) (fun i=>l.length-i) 2 (fun i => [(3,.cp (prX t R S)),(6,.ptr 0 0 0),(14,.own 1),(67,.vec (l.map cuC) false),(68,.val (.int .i64 (l.length:Int))),(69,Yv i)]) (fun i => [(0,⟨35,[X4K]⟩),(1,⟨2,((l.take i).map (X1W R)).map cuC⟩)]) (by decide) 0 (Y0l _) (fun i=>i) (fun _ _=>rfl) Zp
    ⟨Qp hxp,Qt 0 0 0,Qw 1,Qp (Z0 _),⟨_,by rw [<- hnm]; rfl,.pure _ Yt⟩,Qp Yt,Yt⟩ ⟨Qs ⟨Z3c,Yt⟩,Qs Yt,Yt⟩ ?_
   intro i hi;have hinc:IntKind.i64.wrap ((i:Int)+1)=((i+1:Nat):Int):=Y0v _ ⟨by omega,by omega⟩;refine gd 70 ⟨?_⟩;by_cases hil:i<l.length
   . refine Qo (Qy rfl (by omega)) ?_;have hc:=hle _ (Y0j hil);have htk:=Z11 hil;have hol:((l.take i).map (X1W R)).length<=i:=by rw [Y0f,Y0o]; omega
     refine gd 71 ⟨?_⟩;refine Qo (Zo (xs:=l) (g:=cuC) rfl rfl i rfl hil rfl) ?_;generalize l[i]=c at hc htk;have hsn:((l.take i).map (X1W R)).map cuC ++ [cuC (X1W R c)]=((l.take (i+1)).map (X1W R)).map cuC:=by rw [htk]; simp
     refine gd 78 ⟨?_⟩;refine Qd (Z2F c.1 R hc.1 hR.lt) ⟨Z2 _,Z2 _,Yt⟩ ?_;refine gd 83 ⟨?_⟩;refine Qd (Z2F c.2 R hc.2 hR.lt) ⟨Z2 _,Z2 _,Yt⟩ ?_;refine gd 86 ⟨?_⟩
     refine Qr (Zt (k:=1) (m := [cuC (X1W R c)]) (fl:=true) rfl rfl rfl (fun q hq=>by rw [Y0g] at hq; subst hq; rfl) rfl (by
      show ((((l.take i).map (X1W R)).map cuC).length+1)*48<=_
      rw [Y0f];omega)) ?_
     simp only;rw [hsn];refine go ?_
     exact⟨i+1,mv 1 16,hil,by omega,fun i hi=>absurd hi (YL i),Zu rfl,
      ⟨Qp hxp,Qt 0 0 0,Qw 1,Qp (Z0 _),Qp Yt,⟨_,by show some _=some _; rw [hinc],.pure _ Yt⟩,Yt⟩,⟨Qs ⟨Z3c,Yt⟩,Qs (Z0 _),Yt⟩⟩
   have htk:l.take i=l:=Yy (by omega);rw [htk];refine Qo (Qz rfl (by omega)) ?_;refine gd 88 ⟨?_⟩;refine Zb (Zn (k:=14) (id:=1) (b:=⟨2,(l.map (X1W R)).map cuC⟩) rfl rfl (Z0 _)) ?_;have hll:=hsnd.len;generalize l.map (X1W R)=q at hsnd hll;refine gd 91 ⟨?_⟩;refine Qe (Z5Z h hw S q false (by omega)) ⟨hpp,Z0 q,Yt⟩ ?_;have hc1:(Xs (XV t) false [] true q false).length=35:=Z1E hid0;have hcp:=Z1t (XV t) false [] true q false;have hRR:X4H t 1 L (.tup [.agg (Xs (XV t) false [] true q false),.val (.int .i64 0)]):=.ok false [] true q false hsnd;generalize Xs (XV t) false [] true q false=cc at hc1 hcp hRR;have hcl:(cc ++ []).length=35:=by rw [Y0p]; exact hc1
   have htk2:((cc ++ []).drop 0).take 35=cc:=by rw [Y0p,Y16,Yy (by omega)]
   refine Qo (Z3b (l:=X4K) rfl rfl rfl hc1 rfl) ?_;refine go ?_;exact Z8 (X4X (Z4r (l:=cc ++ []) (r:=cc) rfl rfl (by omega) htk2) rfl) ⟨hcp,Yt,Yt⟩ hRR
theorem Zaz (hL:1<=L):Xa Tryz.prog 22 [.agg (prX t R S),.val (.int .u8 2),.val (.int .i64 L)] (X4H t 2 L):=by
 have hpp:=ZD t S;have hxp:=Z6t t R S;have hpo:=Z4H h hR.a.ok;have hpq:=ZD (Xm t R) S;have hid0:=Z2f t;have hRb:=X12.b126 h hn hR;refine Yp ok22 fun C hC=>?_;refine Zq ?_;refine Za ?_;refine Z5 (Z77 rfl (by show 0<14; decide)) rfl rfl ?_;refine gd 42 ⟨?_⟩;refine Zz rfl rfl (ZbX hpo hn S L hL) ⟨hpq,Yt,Yt⟩ rfl ?_;intro r hr;cases hr with
 | lim hl =>
   refine go ?_;exact Z8 (r:=.tup [.agg X4K,.val (.int .i64 3)]) rfl ⟨Z3c,Yt,Yt⟩ (.lim rfl hl)
 | yes p hp hl =>
   obtain⟨h1,hsnd⟩:=Zdh h hR hp (by omega);refine gd 56 ⟨?_⟩;refine Qe (Z7p p (X1U t R) _ false h1 (by omega)) ⟨Zy p,Zy _,Yt⟩ ?_;generalize p.map (fun j=>(X1U t R).getD j 0)=q at hsnd;have hql:=(hsnd.plan rfl).2;refine gd 66 ⟨?_⟩;refine Qe (Z5Y h hw S q false (by omega)) ⟨hpp,Zy q,Yt⟩ ?_;have hc1:(Xs (XV t) true q false [] true).length=35:=Z1E hid0;have hcp:=Z1t (XV t) true q false [] true;have hRR:X4H t 2 L (.tup [.agg (Xs (XV t) true q false [] true),.val (.int .i64 0)]):=.ok true q false [] true hsnd;generalize Xs (XV t) true q false [] true=cc at hc1 hcp hRR;have hcl:(cc ++ []).length=35:=by rw [Y0p]; exact hc1
   have htk:((cc ++ []).drop 0).take 35=cc:=by rw [Y0p,Y16,Yy (by omega)]
   refine Qo (Z3b rfl rfl rfl hc1 rfl) ?_;refine go ?_;exact Z8 (X4X (Z4r (l:=cc ++ []) (r:=cc) rfl rfl (by omega) htk) rfl) ⟨hcp,Yt,Yt⟩ hRR
 | no ks hk =>
   have hno:=Zc8 h hn hR hk;clear hk;generalize kcs ks=l at hno;have hpl:=hno.len;have hnm:(l.map cuC).length=l.length:=Y0f ..;have hsnd:=hno.snd hRb;have hle:∀ c∈l,XA c:=fun c hc=>(hno.em c hc).1;clear hno
   repeat' (first|refine Zb (Zw (k:=14) rfl 2 (by decide)) ?_|(first|refine st ?_|(apply B<;>intro hb<;>try cases hb)))
   refine ZC hC (fun i=>i<=l.length) (fun i=>l.length-i) 2 (fun i => [(3,.cp (prX t R S)),(6,.ptr 0 0 0),(14,.own 1),(67,.vec (l.map cuC) false),(68,.val (.int .i64 (l.length:Int))),(69,Yv i)]) (fun i => [(0,⟨35,[X4K]⟩),(1,⟨2,((l.take i).map (X1W R)).map cuC⟩)]) (by decide) 0 (Y0l _) (fun i=>i) (fun _ _=>rfl) Zp
    ⟨Qp hxp,Qt 0 0 0,Qw 1,Qp (Z0 _),⟨_,by rw [<- hnm]; rfl,.pure _ Yt⟩,Qp Yt,Yt⟩ ⟨Qs ⟨Z3c,Yt⟩,Qs Yt,Yt⟩ ?_
   intro i hi;have hinc:IntKind.i64.wrap ((i:Int)+1)=((i+1:Nat):Int):=Y0v _ ⟨by omega,by omega⟩;refine gd 70 ⟨?_⟩;by_cases hil:i<l.length
   . refine Qo (Qy rfl (by omega)) ?_;have hc:=hle _ (Y0j hil);have htk:=Z11 hil;have hol:((l.take i).map (X1W R)).length<=i:=by rw [Y0f,Y0o]; omega
     refine gd 71 ⟨?_⟩;refine Qo (Zo (xs:=l) (g:=cuC) rfl rfl i rfl hil rfl) ?_;generalize l[i]=c at hc htk;have hsn:((l.take i).map (X1W R)).map cuC ++ [cuC (X1W R c)]=((l.take (i+1)).map (X1W R)).map cuC:=by rw [htk]; simp
     refine gd 78 ⟨?_⟩;refine Qd (Z2F c.1 R hc.1 hR.lt) ⟨Z2 _,Z2 _,Yt⟩ ?_;refine gd 83 ⟨?_⟩;refine Qd (Z2F c.2 R hc.2 hR.lt) ⟨Z2 _,Z2 _,Yt⟩ ?_;refine gd 86 ⟨?_⟩
     refine Qr (Zt (k:=1) (m := [cuC (X1W R c)]) (fl:=true) rfl rfl rfl (fun q hq=>by rw [Y0g] at hq; subst hq; rfl) rfl (by
      show ((((l.take i).map (X1W R)).map cuC).length+1)*48<=_
      rw [Y0f];omega)) ?_
     simp only;rw [hsn];refine go ?_
     exact⟨i+1,mv 1 16,hil,by omega,fun i hi=>absurd hi (YL i),Zu rfl,
      ⟨Qp hxp,Qt 0 0 0,Qw 1,Qp (Z0 _),Qp Yt,⟨_,by show some _=some _; rw [hinc],.pure _ Yt⟩,Yt⟩,⟨Qs ⟨Z3c,Yt⟩,Qs (Z0 _),Yt⟩⟩
   have htk:l.take i=l:=Yy (by omega);rw [htk];refine Qo (Qz rfl (by omega)) ?_;refine gd 88 ⟨?_⟩;refine Zb (Zn (k:=14) (id:=1) (b:=⟨2,(l.map (X1W R)).map cuC⟩) rfl rfl (Z0 _)) ?_;have hll:=hsnd.len;generalize l.map (X1W R)=q at hsnd hll;refine gd 91 ⟨?_⟩;refine Qe (Z5Z h hw S q false (by omega)) ⟨hpp,Z0 q,Yt⟩ ?_;have hc1:(Xs (XV t) false [] true q false).length=35:=Z1E hid0;have hcp:=Z1t (XV t) false [] true q false;have hRR:X4H t 2 L (.tup [.agg (Xs (XV t) false [] true q false),.val (.int .i64 0)]):=.ok false [] true q false hsnd;generalize Xs (XV t) false [] true q false=cc at hc1 hcp hRR;have hcl:(cc ++ []).length=35:=by rw [Y0p]; exact hc1
   have htk2:((cc ++ []).drop 0).take 35=cc:=by rw [Y0p,Y16,Yy (by omega)]
   refine Qo (Z3b (l:=X4K) rfl rfl rfl hc1 rfl) ?_;refine go ?_;exact Z8 (X4X (Z4r (l:=cc ++ []) (r:=cc) rfl rfl (by omega) htk2) rfl) ⟨hcp,Yt,Yt⟩ hRR
end
theorem X5V {e:Env} {h:X1} {a b c s:Nat} {r v w:PV} (h1:X3 (.load true s (.tmp a)) e h 0=some (r,h)) (h2:e b=some v) (h3:e c=some w):XT [.cell a true s,.tmp b,.tmp c] e h=some (.tup [r,v,w]):=by
 simp [XT,X2O,X5C,h1,h2,h3]
inductive DcR (t:PB):PV->Prop
 | mk (m:Int) (R:Nat) (b:Bool) (p:List Nat) (fp:Bool) (l:List Cu) (fl:Bool) (hR:X12 t R) (hm:m=if X1J (Xm t R) then 1 else 2) (hs:Snd t b p l):DcR t (.tup [.agg (Xs (XV t) b p fp l fl),.val (.int .u8 m),.val (.int .i64 0)])
theorem Z23 {t:PB} (h:Xz t) (hn:t.n<=5) (hw:PbW t) (S:List Nat) (L:Int) (hL:64<=L):Xa Tryz.prog 7 [.agg (pbP t S),.val (.int .i64 L)] (DcR t):=by
 have hpp:=ZD t S;have hid0:=Z2f t;have h32:2 ^ t.n<=32:=YX (n:=2) (by decide) hn;refine Yp ok7 fun C hC=>?_;refine Zq ?_;refine Za ?_;refine Z5 rfl rfl rfl ?_;refine gd 14 ⟨?_⟩;refine Zz rfl rfl (Zex h hn S L (by omega)) ⟨hpp,Yt,Yt⟩ rfl ?_;rintro r ⟨R,hR,rfl⟩;have hxp:=Z6t t R S;have hpo:=Z4H h hR.a.ok;have hpq:=ZD (Xm t R) S;refine gd 23 ⟨?_⟩;refine Qe (Z3y hpo S) ⟨hpq,Yt⟩ ?_;cases hfr:X1J (Xm t R)
 case true =>
  refine gd 28 ⟨?_⟩;refine Zz rfl rfl (Zay h hn hw S hR L) ⟨hxp,Yt,Yt,Yt⟩ rfl ?_;intro r hr;cases hr with
  | lim hm hl=>exact absurd hm (by decide)
  | scope R2 hm hR2 hf=>rw [hR2.uniq hR,hfr] at hf; cases hf
  | ok b p fp l fl hs =>
    have hc1:(Xs (XV t) b p fp l fl).length=35:=Z1E hid0;have hcp:=Z1t (XV t) b p fp l fl;have hRR:DcR t (.tup [.agg (Xs (XV t) b p fp l fl),.val (.int .u8 1),.val (.int .i64 0)]):=.mk 1 R b p fp l fl hR (by rw [hfr]; rfl) hs;generalize Xs (XV t) b p fp l fl=cc at hc1 hcp hRR;have hcl:(cc ++ []).length=35:=by rw [Y0p]; exact hc1
    have htk:((cc ++ []).drop 0).take 35=cc:=by rw [Y0p,Y16,Yy (by omega)]
    iterate 4 (first|refine st ?_|(apply B<;>intro hb<;>try cases hb))
    refine Qo (Z3b rfl rfl rfl hc1 rfl) ?_;refine gd 48 ⟨?_⟩;refine Qo (Z4r (l:=cc ++ []) (r:=cc) rfl rfl (by omega) htk) ?_
    iterate 1 (first|refine st ?_|(apply B<;>intro hb<;>try cases hb))
    refine Qo (Z3b rfl rfl rfl hc1 rfl) ?_;refine go ?_;exact Z8 (X5V (Z4r (l:=cc ++ []) (r:=cc) rfl rfl (by omega) htk) rfl rfl) ⟨hcp,Yt,Yt,Yt⟩ hRR
 case false =>
  refine gd 28 ⟨?_⟩;refine Zz rfl rfl (Zaz h hn hw S hR L (by omega)) ⟨hxp,Yt,Yt,Yt⟩ rfl ?_;intro r hr;cases hr with
  | lim hm hl=>exact absurd hl (by omega)
  | scope R2 hm hR2 hf=>exact absurd hm (by decide)
  | ok b p fp l fl hs =>
    have hc1:(Xs (XV t) b p fp l fl).length=35:=Z1E hid0;have hcp:=Z1t (XV t) b p fp l fl;have hRR:DcR t (.tup [.agg (Xs (XV t) b p fp l fl),.val (.int .u8 2),.val (.int .i64 0)]):=.mk 2 R b p fp l fl hR (by rw [hfr]; rfl) hs;generalize Xs (XV t) b p fp l fl=cc at hc1 hcp hRR;have hcl:(cc ++ []).length=35:=by rw [Y0p]; exact hc1
    have htk:((cc ++ []).drop 0).take 35=cc:=by rw [Y0p,Y16,Yy (by omega)]
    iterate 4 (first|refine st ?_|(apply B<;>intro hb<;>try cases hb))
    refine Qo (Z3b rfl rfl rfl hc1 rfl) ?_;refine gd 48 ⟨?_⟩;refine Qo (Z4r (l:=cc ++ []) (r:=cc) rfl rfl (by omega) htk) ?_
    iterate 1 (first|refine st ?_|(apply B<;>intro hb<;>try cases hb))
    refine Qo (Z3b rfl rfl rfl hc1 rfl) ?_;refine go ?_;exact Z8 (X5V (Z4r (l:=cc ++ []) (r:=cc) rfl rfl (by omega) htk) rfl rfl) ⟨hcp,Yt,Yt,Yt⟩ hRR
section
variable {e:Env} {h:X1} {n:Nat} {x y:Operand} {a b:List Nat}
end
noncomputable def X5s (t:PB) (b:Bool) (p:List Nat) (l:List Cu) (fl:Bool):Fd :=
 if XV t=List.replicate 32 0 then (2,0,0) else if X7o p l≠0 then (3,0,0) else if X4m t.n l then
  (if p.any (fun k=>decide (t.rs.length<=k)) then (3,0,0) else if b then X33 t t.st p 0 else X3B t l fl) else (3,0,0)
theorem Zdi:∀ (l:List Pr) (a:Nat),(l.Pairwise fun p q=>p.1<q.1 \/ p.1=q.1/\p.2<q.2)->(∀ p∈l,a<=p.1*7+p.2/\p.1*7+p.2<49/\p.2<=6)->l.length<=49-a
 | [],a,_,_=>Y0l _
 | p :: l, a, hp, h => by
   have h1:=h p (Y0t ..);rw [Y10] at hp;have:=Zdi l (p.1*7+p.2+1) hp.2 fun q hq=>by
    have h2:=hp.1 q hq;have h3:=h q (YD _ hq);refine⟨?_,h3.2⟩;rcases h2 with h2|⟨h2,h4⟩<;>omega
   rw [Y04];omega
theorem ZgL {t:PB} (h:X5B t):PbW t:=by
 have hn:=h.n;have hok:=h.ok;have hst:t.st<=mkN t.n:=by rw [<- hok.st]; exact YZ
 have h32:2 ^ t.n<=32:=YX (n:=2) (by decide) hn.2;have hm:mkN t.n<=62:=by unfold mkN; omega
 have h62:∀ c:Cu,InM 62 c->c.1<256/\c.2<256:=fun c hc=>by
  have h1:c.1<=62:=by rw [<- hc.1]; exact YZ
  have h2:c.2<=62:=by rw [<- hc.2]; exact YZ
  omega
 refine⟨by omega,by omega,fun r hr=>?_,fun c hc=>h62 c (hok.nv c hc).2,fun c hc=>h62 c (hok.gl c hc).2,fun p hp=>?_,?_,by have:=h.rs; omega,by have:=h.nv; omega,by have:=h.gl; omega⟩
 . have hro := hok.rs r hr;have:=h62 _ hro.m;have:=hro.tg;omega
 . have := hok.lk p hp;omega
 . have := Zdi t.l 0 hok.good.asc fun p hp => by
    have:=hok.good.role p hp;have:=hok.lk p hp;omega
   omega
end
section
theorem Zk3 (r:Nat):jun [] r=2 ^ r:=YF fun b=>by
 rw [YO,Z6Q Zan,YK,Y0n];exact⟨fun h=>h.elim (fun h=>(ZiP h).elim) Eq.symm,fun h=>.inr h.symm⟩
def cl0 (s:Nat):Nat:=(mem s).foldl (fun o r=>if 1<=r then o ||| 2 ^ r else o) 0
theorem Z4q:clo []=cl0:=funext fun s=>by
 rw [Zbn];simp only [Zk3]
 rfl
def sn0 (r:Nat):Nat:=2 ^ r
theorem Zdj:sen []=sn0:=funext Zgv
def X5u (t:PB) (s:Nat):Bool := !soC t.nv (cl0 s)
def X5h (t:PB) (r:RU) (s:Nat):Bool:=decide (Xo r s≠s)&&(X5u t (Xo r s)&&(r.rev||hoC r.cu (cl0 s)))
def X3i (t:PB) (s:Nat) (k:Int):Option Nat:=if 0<=k then (match t.rs[k.toNat]? with|some r=>if X5h t r s then some (Xo r s) else none|none=>none) else none
def X2Y (t:PB):Nat->List Nat->Nat->Fd
 | s,[],_=>if soC t.gl (cl0 s) then (1,0,0) else (5,0,0)
 | s, k :: p, i => match X3i t s (k : Int) with
   | some o=>X2Y t o p (i+1)
   | none=>(4,i,k)
def X6C (t:PB) (l:List Cu) (fl:Bool):Option Nat:=X3H cl0 sn0 t.n (X7h t l fl)
def X7c (t:PB) (l:List Cu) (fl:Bool) (c:Cu) (r:RU):Option Nat:=X3H cl0 sn0 t.n (X7w t l fl c r)
def X5q (t:PB) (l:List Cu) (fl:Bool) (i k:Nat):Bool:=(X7c t l fl (cu0 l i) (ru0 t.rs k)).isSome
def X3C (t:PB) (l:List Cu) (fl:Bool):Fd :=
 match X4R (fun i=>hoC (cu0 l i) t.st) l.length 0 with
 | some i=>(6,i,0)
 | none=>if (X6C t l fl).isSome then (7,0,0) else X60 (X5n (X5q t l fl) t.rs.length l.length 0)
def X79 (t:PB) (b:Bool) (p:List Nat) (l:List Cu) (fl:Bool):Fd :=
 if XV t=List.replicate 32 0 then (2,0,0) else if X7o p l≠0 then (3,0,0) else if X4m t.n l then
  (if p.any (fun k=>decide (t.rs.length<=k)) then (3,0,0) else if b then X2Y t t.st p 0 else X3C t l fl) else (3,0,0)
section
variable {t:PB} (hl:t.l = [])
include hl
theorem Zl2 (s:Nat):Xq t s=X5u t s:=by unfold Xq X5u; rw [hl,Z4q]
theorem ZaA (r:RU) (s:Nat):XU t r s=X5h t r s:=by unfold XU X5h; rw [Zl2 hl,hl,Z4q]
theorem Zk4 (s:Nat) (k:Int):X4L t s k=X3i t s k:=by
 unfold X4L X3i;simp only [ZaA hl]
 all_goals rfl
theorem Zdk:∀ (p:List Nat) (s i:Nat),X33 t s p i=X2Y t s p i
 | [], s, i => by
   show (if XB t s then ((1,0,0):Fd) else (5,0,0))=(if soC t.gl (cl0 s) then (1,0,0) else (5,0,0))
   unfold XB;rw [hl,Z4q]
 | k :: p, s, i => by
   show (match X4L t s (k:Int) with|some o=>X33 t o p (i+1)|none=>((4,i,k):Fd))=(match X3i t s (k:Int) with|some o=>X2Y t o p (i+1)|none=>(4,i,k))
   rw [Zk4 hl];cases X3i t s (k:Int) with
   | some o=>exact Zdk p o (i+1)
   | none=>rfl
theorem Zit (l:List Cu) (fl:Bool):X3B t l fl=X3C t l fl:=by
 have e1:X6V t l fl=X6C t l fl:=by unfold X6V X6C; rw [hl,Z4q,Zdj]
 have e2:X6v t l fl=X5q t l fl:=funext fun i=>funext fun k=>by unfold X6v X5q X7u X7c; rw [hl,Z4q,Zdj]
 unfold X3B X3C;rw [e1,e2]
 all_goals rfl
theorem ZgM (b:Bool) (p:List Nat) (l:List Cu) (fl:Bool):X5s t b p l fl=X79 t b p l fl:=by
 unfold X5s X79;rw [Zdk hl,Zit hl]
end
def tJ (nv:List Cu):PB:=⟨2,[],0,[⟨false,(0,0),1,0⟩,⟨false,(2,0),2,0⟩],nv,[(4,0)]⟩
def t1J:PB:=tJ []
set_option maxRecDepth 100000
theorem v1 (fl:Bool):X5s t1J true [0,1] [] fl=(1,0,0):=by rw [ZgM rfl]; cases fl<;>decide +kernel
theorem v2 (fl:Bool):X5s t1J true [1,0] [] fl=(4,0,1):=by rw [ZgM rfl]; cases fl<;>decide +kernel
theorem v3 (fl:Bool):X5s t1J true [0] [] fl=(5,0,0):=by rw [ZgM rfl]; cases fl<;>decide +kernel
theorem v4 (fl:Bool):X5s t1J false [] [(4,0)] fl=(8,0,1):=by rw [ZgM rfl]; cases fl<;>decide +kernel
theorem v5 (fl:Bool):X5s t1J false [] [(2,0),(4,0)] fl=(8,0,0):=by rw [ZgM rfl]; cases fl<;>decide +kernel
end
section
open Go.RowKit
attribute [local irreducible] aw Xk dK
def tSf (st:Nat) (rs:List RU):PB:=⟨3,[],st,rs,[],[(8,0)]⟩
def rsA:List RU := [⟨false,(0,0),1,0⟩,⟨false,(2,0),2,0⟩,⟨false,(4,2),3,0⟩,⟨true,(0,0),1,0⟩]
def rsB:List RU := [⟨false,(2,0),2,0⟩]
theorem X5H {c:Cu} (h1:c.1 ||| 14=14) (h2:c.2 ||| 14=14) (h3:emC c=false):InC 3 c/\InM 62 c:=⟨⟨h1,h2,h3⟩,Z4j h1 (by decide),Z4j h2 (by decide)⟩
theorem ZiT {st:Nat} {rs:List RU} (hs:st ||| 14=14) (hl:rs.length<=64) (hr:∀ r∈rs,X3M 3 r):Xz (tSf st rs):=by
 refine⟨show 1<=3/\3<=63 by decide,⟨List.Pairwise.nil,fun p hp=>(by cases hp),⟨fun _=>0,fun p hp=>(by cases hp)⟩⟩,fun p hp=>(by cases hp),hs,hl,hr,show 0<=64 by decide,fun c hc=>(by cases hc),show 1<=64 by decide,fun c hc=>?_,rfl⟩;have hc:c∈[((8,0):Cu)]:=hc;rw [Y0g] at hc;subst hc;exact X5H (by decide) (by decide) (by decide)
theorem Zl3 {st:Nat} {rs:List RU} (hs:st<256) (hl:rs.length<=100) (hr:∀ r∈rs,r.cu.1<256/\r.cu.2<256/\r.tg<=63):PbW (tSf st rs) :=
 ⟨show 3<=63 by decide,hs,hr,fun c hc=>(by cases hc),fun c hc=>(by
  have hc:c∈[((8,0):Cu)]:=hc;rw [Y0g] at hc;subst hc
  exact⟨by decide,by decide⟩),fun p hp=>(by cases hp),show 0<=100 by decide,hl,show 0<=100 by decide,show 1<=100 by decide⟩
def tA:PB:=tSf 0 rsA
def tB:PB:=tSf 2 rsB
theorem ZiU:∀ r∈rsA,X3M 3 r/\r.cu.1<256/\r.cu.2<256/\r.tg<=63:=by
 intro r hr;simp only [rsA,Y9,Y2a,Y44] at hr;rcases hr with rfl|rfl|rfl|rfl
 . have := X5H (c := (0, 0)) (by decide) (by decide) (by decide);exact⟨⟨this.1,this.2,show 1<=1/\1<=3/\1<=5 by decide,fun _=>rfl⟩,by decide,by decide,by decide⟩
 . have := X5H (c := (2, 0)) (by decide) (by decide) (by decide);exact⟨⟨this.1,this.2,show 1<=2/\2<=3/\2<=5 by decide,fun h=>by cases h⟩,by decide,by decide,by decide⟩
 . have := X5H (c := (4, 2)) (by decide) (by decide) (by decide);exact⟨⟨this.1,this.2,show 1<=3/\3<=3/\3<=5 by decide,fun h=>by cases h⟩,by decide,by decide,by decide⟩
 . have := X5H (c := (0, 0)) (by decide) (by decide) (by decide);exact⟨⟨this.1,this.2,show 1<=1/\1<=3/\1<=5 by decide,fun _=>rfl⟩,by decide,by decide,by decide⟩
theorem ZiV:∀ r∈rsB,X3M 3 r/\r.cu.1<256/\r.cu.2<256/\r.tg<=63:=by
 intro r hr;simp only [rsB,Y9,Y2a,Y44] at hr;subst hr;have:=X5H (c:=(2,0)) (by decide) (by decide) (by decide);exact⟨⟨this.1,this.2,show 1<=2/\2<=3/\2<=5 by decide,fun h=>by cases h⟩,by decide,by decide,by decide⟩
theorem Zc9:Xz tA:=ZiT (by decide) (by decide) fun r hr=>(ZiU r hr).1
theorem ZgN:Xz tB:=ZiT (by decide) (by decide) fun r hr=>(ZiV r hr).1
theorem ZlF:PbW tA:=Zl3 (by decide) (by decide) fun r hr=>(ZiU r hr).2
theorem ZlG:PbW tB:=Zl3 (by decide) (by decide) fun r hr=>(ZiV r hr).2
theorem Zca {t:PB} (hl:t.l = []) (s:Nat):XB t s=soC t.gl (cl0 s):=by unfold XB; rw [hl,Z4q]
theorem Zk5:X1F tA tA.st:=by
 have h:X1N tA [0,1,3,2]:=by
  refine⟨12,⟨rsA[0],rfl,?_,rsA[1],rfl,?_,rsA[3],rfl,?_,rsA[2],rfl,?_,?_⟩,?_⟩
  . rw [ZaA rfl]; decide +kernel
  . rw [ZaA rfl]; decide +kernel
  . rw [ZaA rfl]; decide +kernel
  . rw [ZaA rfl]; decide +kernel
  . show (12:Nat)=_; decide +kernel
  . rw [Zca rfl]; decide +kernel
 exact h.able Zc9
theorem Ziu:∀ s<16,s.testBit 3=false->soC [((8,0):Cu)] (cl0 s)=false:=by decide +kernel
theorem Zl4:¬ X1F tB tB.st:=by
 rw [able_iff ZgN];rintro⟨E,hr,he⟩;have key:∀ {S},Rch tB S->S.testBit 3=false:=fun {S} hr=>by
  induction hr with
  | base=>decide
  | @step S x h hx hs ih =>
    have hx:x∈rsB:=hx;simp only [rsB,Y9,Y2a,Y44] at hx;subst hx;rw [ZQ (by decide) ((h.inS ZgN).lt (by decide)),Y6 (by decide)];exact ih
 have hin:=hr.inS ZgN;have hE:E<16:=by
  have h1:E ||| mkN 3=mkN 3:=hin
  have:E<=mkN 3:=by rw [<- h1]; exact YZ
  have e:mkN 3=14:=by decide
  omega
 rw [Zca rfl] at he;have h2:=Ziu E hE (key hr);have he:soC [((8,0):Cu)] (cl0 E)=true:=he;rw [h2] at he;cases he
theorem X8e {st:Nat} {rs:List RU} {R:Nat} (hR:X12 (tSf st rs) R):R.testBit 3=true:=by
 refine Xg.1 (hR.a.gl (8,0) (Y0g.2 rfl)) 3 (Z9c (b:=3) ⟨by decide,by decide⟩ (.inl (by decide)) ?_);show (sen [] 3).testBit 3=true;rw [Zgv]; decide
theorem frA {R:Nat} (hR:X12 tA R):X1J (Xm tA R)=false:=by
 refine YB.2 fun h=>?_;have:=(Zc6 h).rs ⟨false,(4,2),3,0⟩ (Z3u.2 ⟨by show _∈rsA; simp [rsA],X8e hR⟩);exact absurd this (by decide)
theorem frB {R:Nat} (hR:X12 tB R):X1J (Xm tB R)=true:=by
 unfold X1J;rw [Y0k,Y0k,Y0n,YI,YI];refine⟨rfl,fun x hx=>?_,fun c hc=>?_⟩
 . have hx := (Z3u.1 hx).1;have hx:x∈rsB:=hx;simp only [rsB,Y9,Y2a,Y44] at hx;subst hx; decide
 . have hc : c ∈ [((8, 0) : Cu)] := hc;rw [Y0g] at hc;subst hc; decide
theorem Zlv {l:List Cu} (hs:Snd tB false [] l):0<l.length:=by
 have h1:=(hs.inv rfl).tg 14 (show 14 ||| mkN 3=mkN 3 by decide) rfl (by rw [Zca rfl]; decide +kernel);cases l with
 | nil=>cases h1
 | cons c l=>exact Nat.succ_pos _
theorem Z3z {cc r:List PV} {x:PV} {k:Nat} (h:cc.drop k=x :: r):(cc ++ []).getD k pvu=x:=by
 have:cc[k]?=some x:=by
  have:=congrArg (fun m=>m[0]?) h;simpa [Y1r] using this
 rw [Y0p,Y0b,this]; rfl
def X7l:List (List PV) := [[.val (.bool false),.vec [] true,.vec [] true,.val (.int .i64 1),.val (.int .i64 0)],[.val (.bool false),.vec (X5 (X7 2)) false,.vec [] true,.val (.int .i64 2),.val (.int .i64 0)],[.val (.bool false),.vec (X5 (X7 4)) false,.vec (X5 (X7 2)) false,.val (.int .i64 3),.val (.int .i64 0)],[.val (.bool true),.vec [] true,.vec [] true,.val (.int .i64 1),.val (.int .i64 0)]]
def X75:List (List PV) := [[.val (.bool false),.vec (X5 (X7 2)) false,.vec [] true,.val (.int .i64 2),.val (.int .i64 0)]]
def X6u:List (List PV) := [[.vec (X5 (X7 8)) false,.vec [] true]]
theorem w00:X5 (X7 0) = []:=by rw [ZM]; rfl
theorem X7D:Xp X7l=rsA.map ruP:=by
 show [[PV.val (.bool false),.vec [] false,.vec [] false,.val (.int .i64 1),.val (.int .i64 0)],[.val (.bool false),.vec (Xp (X5 (X7 2))) false,.vec [] false,.val (.int .i64 2),.val (.int .i64 0)],[.val (.bool false),.vec (Xp (X5 (X7 4))) false,.vec (Xp (X5 (X7 2))) false,.val (.int .i64 3),.val (.int .i64 0)],[.val (.bool true),.vec [] false,.vec [] false,.val (.int .i64 1),.val (.int .i64 0)]] =
  [[PV.val (.bool false),.vec (X5 (X7 0)) false,.vec (X5 (X7 0)) false,.val (.int .i64 1),.val (.int .i64 0)],[.val (.bool false),.vec (X5 (X7 2)) false,.vec (X5 (X7 0)) false,.val (.int .i64 2),.val (.int .i64 0)],[.val (.bool false),.vec (X5 (X7 4)) false,.vec (X5 (X7 2)) false,.val (.int .i64 3),.val (.int .i64 0)],[.val (.bool true),.vec (X5 (X7 0)) false,.vec (X5 (X7 0)) false,.val (.int .i64 1),.val (.int .i64 0)]]
 rw [Z16,Z16,w00]
theorem X8h:Xp X75=rsB.map ruP:=by
 show [[PV.val (.bool false),.vec (Xp (X5 (X7 2))) false,.vec [] false,.val (.int .i64 2),.val (.int .i64 0)]] = [[PV.val (.bool false),.vec (X5 (X7 2)) false,.vec (X5 (X7 0)) false,.val (.int .i64 2),.val (.int .i64 0)]];rw [Z16,w00]
theorem X7r:Xp X6u = [((8,0):Cu)].map cuC:=by
 show [[PV.vec (Xp (X5 (X7 8))) false,.vec [] false]] = [[PV.vec (X5 (X7 8)) false,.vec (X5 (X7 0)) false]];rw [Z16,w00]
theorem Z5L {ρ:Nat->Nat} {D:Nat->Prop} {r m:List (List PV)} {fl:Bool} (h:Xp r=m) (hm:X2 m):X1x ρ D (.vec r fl) (.vec m false):=by
 have:=X1x.low (ρ:=ρ) (D:=D) (.vec r fl) (by show X2 (Xp r); rw [h]; exact hm);have e:PV.low (.vec r fl)=.vec m false:=by show PV.vec (Xp r) false=_; rw [h]
 rwa [e] at this
theorem Zk6 {ρ:Nat->Nat} {D:Nat->Prop}:X1x ρ D (.vec [] true) (.vec (X5 (X7 0)) false):=by rw [w00]; exact .low (.vec [] true) Yt
theorem ZaB:Xa Tryz.prog 5 [] (· = .val (.bool true)):=by
 refine Yp ok5 fun C hC=>?_;refine gd 12 ⟨?_⟩;refine Zz rfl rfl Z3U Yt rfl ?_;rintro r ⟨S1,rfl⟩;refine gd 14 ⟨?_⟩;refine Qe (Z4K [3] 8 (by decide +kernel) true) ⟨ZG _,Yt⟩ ?_;refine gd 19 ⟨?_⟩;refine Qe (Z4K [1] 2 (by decide +kernel) true) ⟨ZG _,Yt⟩ ?_;refine gd 23 ⟨?_⟩;refine Qe (Z4K [2] 4 (by decide +kernel) true) ⟨ZG _,Yt⟩ ?_;refine gd 25 ⟨?_⟩;refine Qe (Z4K [1] 2 (by decide +kernel) true) ⟨ZG _,Yt⟩ ?_;refine gd 31 ⟨?_⟩;refine Z4x rfl rfl (.inl rfl) Z3U Yt ?_;rintro r ⟨S2,rfl⟩;refine gd 33 ⟨?_⟩;refine Qd (Z4K [1] 2 (by decide +kernel) true) ⟨ZG _,Yt⟩ ?_;refine gd 37 ⟨?_⟩;refine Qd (Z4K [1] 2 (by decide +kernel) true) ⟨ZG _,Yt⟩ ?_
 iterate 7 (first|refine st ?_|(apply B<;>intro hb<;>try cases hb))
 have hA:=ZD tA S1;have hB:=ZD tB S2
 refine Z1l (Z2q (X37.mem (ρ:=fun i=>i) (m:=14) (L := [(1,.ptr 0 0 0),(2,.ptr 12 0 0)]) ⟨Qt 0 0 0,Qt 12 0 0,Yt⟩)
  (X1o.mem (ρ := fun i => i) (m := 14) (L := [(0, ⟨6, [pbP tA S1]⟩), (12, ⟨6, [pbP tB S2]⟩)]) ⟨⟨by decide, ⟨6, [[.val (.int .i64 3), XR [] S1, .vec [] true, .vec X7l true, .vec [] true, .vec X6u true]]⟩, rfl,
    Xr.single (l:=pbP tA S1) ⟨.pure _ Yt,.pure _ (Zm _ _),Zk6,Z5L X7D (Zs rsA),.low (.vec [] true) Yt,Z5L X7r (Z0 _),Yt⟩ rfl⟩,⟨by decide,⟨6,[[.val (.int .i64 3),XR [] S2,.vec (X5 (X7 2)) false,.vec X75 true,.vec [] true,.vec X6u true]]⟩,rfl,
    Xr.single (l:=pbP tB S2) ⟨.pure _ Yt,.pure _ (Zm _ _),.pure _ (Z4 _),Z5L X8h (Zs rsB),.low (.vec [] true) Yt,Z5L X7r (Z0 _),Yt⟩ rfl⟩,Yt⟩) hC (by decide)) ?_
 refine gd 44 ⟨?_⟩;refine Zz rfl rfl (Z23 Zc9 (by decide) ZlF S1 2000 (by decide)) ⟨hA,Yt,Yt⟩ rfl ?_;intro r hr;obtain⟨m,R,b,p,fp,l,fl,hR,hm,hs⟩:=hr;obtain rfl:b=true:=(hs.able Zc9).2 Zk5;rw [frA hR] at hm;obtain rfl:m=2:=hm;obtain⟨⟨E,hrun,hre⟩,hpl⟩:=hs.plan rfl;have hid:=Z2f tA;have hc1:(Xs (XV tA) true p fp l fl).length=35:=Z1E hid;have d32:=Z3z (Z5m (b:=true) (p:=p) (fp:=fp) (l:=l) (fl:=fl) hid);have d33:=Z3z (Zik (b:=true) (p:=p) (fp:=fp) (l:=l) (fl:=fl) hid);generalize Xs (XV tA) true p fp l fl=ca at hc1 d32 d33;have hca:(ca ++ []).length=35:=by rw [Y0p]; exact hc1
 iterate 5 (first|refine st ?_|(apply B<;>intro hb<;>try cases hb))
 refine Qo (Z3b rfl rfl rfl hc1 rfl) ?_;refine gd 50 ⟨?_⟩;refine Zz rfl rfl (Z23 ZgN (by decide) ZlG S2 2000 (by decide)) ⟨hB,Yt,Yt⟩ rfl ?_;intro r hr;obtain⟨m,R2,b,q,fq,l2,fl2,hR2,hm,hs2⟩:=hr;obtain rfl:b=false:=YB.2 fun hb=>Zl4 ((hs2.able ZgN).1 hb);rw [frB hR2] at hm;obtain rfl:m=1:=hm;have hq:q = []:=by
  rcases hs2.form with⟨hb,_⟩|⟨_,hq⟩
  . cases hb
  . exact hq
 subst hq;have hne:=Zlv hs2;have hid2:=Z2f tB;have hc2:(Xs (XV tB) false [] fq l2 fl2).length=35:=Z1E hid2;have e32:=Z3z (Z5m (b:=false) (p := []) (fp:=fq) (l:=l2) (fl:=fl2) hid2);have e34:=Z3z (Zil (b:=false) (p := []) (fp:=fq) (l:=l2) (fl:=fl2) hid2);generalize Xs (XV tB) false [] fq l2 fl2=cb at hc2 e32 e34;have hcb:(cb ++ []).length=35:=by rw [Y0p]; exact hc2
 iterate 5 (first|refine st ?_|(apply B<;>intro hb<;>try cases hb))
 refine Qo (Z3b rfl rfl rfl hc2 rfl) ?_;refine gd 57 ⟨?_⟩;refine Qo (Z4J (l:=ca ++ []) (off:=33) (v:=.vec (inL p) fp) rfl rfl (by omega) d33) ?_;refine Qe (Zgf Zc9 S1 p fp (by omega) hrun) ⟨hA,Zy p,Yt⟩ ?_;refine gd 66 ⟨?_⟩;refine ZA rfl ?_;refine Qo (Z4J (l:=ca ++ []) (off:=32) (v:=.val (.bool true)) rfl rfl (by omega) d32) ?_;have hE:=ZbR Zc9 p Zc9.st hrun;have hrS:=Z76 Zc9 S1 E (InS.lt (by decide) hE);rw [hre] at hrS;refine gd 78 ⟨?_⟩;refine ZA rfl ?_;refine Qe hrS ⟨hA,Z2 _,Yt⟩ ?_;refine gd 86 ⟨?_⟩;refine ZA rfl ?_;refine Qo (Z4J (l:=cb ++ []) (off:=32) (v:=.val (.bool false)) rfl rfl (by omega) e32) ?_;refine gd 95 ⟨?_⟩;refine ZA rfl ?_;refine Qo (Z4J (l:=cb ++ []) (off:=34) (v:=.vec (l2.map cuC) fl2) rfl rfl (by omega) e34) ?_;have hnl:(l2.map cuC).length=l2.length:=Y0f ..;refine gd 97 ⟨?_⟩;refine ZA rfl ?_;refine Qo (Qy rfl (by rw [hnl];omega)) ?_;refine go ?_;exact Z8 rfl Yt rfl
end
section
open Go.RowKit Go.Lib
def seg (c:Array Value) (o n:Nat):List Value:=(List.range n).map fun j=>c.getD (o+j) undef
def spl (c:Array Value) (o:Nat) (l:List Value):Array Value:=(c.toList.take o++l++c.toList.drop (o+l.length)).toArray
theorem Z1u (c:Array Value) (o n:Nat):(seg c o n).length=n:=by simp [seg]
theorem Z9n (c:Array Value) (o n j:Nat) (h:j<n):(seg c o n).getD j undef=c.getD (o+j) undef:=by
 simp [seg,Y0b,h]
theorem Z9o (c:Array Value) (o:Nat) (l:List Value) (h:o+l.length<=c.size):(spl c o l).size=c.size:=by
 simp only [spl,Y23,Y0e,Y0o,YQ,Y1I]; omega
theorem Zdl (c:Array Value) (o:Nat) (l:List Value) (h:o+l.length<=c.size) (i:Nat):(spl c o l).getD i undef=if o<=i/\i<o+l.length then l.getD (i-o) undef else c.getD i undef:=Z26 c o l h i
theorem Zdm {w:World} {b:Nat} {c:Array Value} {t:TypeId} {fr:Nat×Nat} (h:w.heap[b]?=some (.cells c t fr)) (o n:Nat) (hfit:o+n<=c.size):∀ j v,(seg c o n)[j]?=some v->w.cell? ⟨b,o+j,none⟩=some v:=by
 intro j v hj;have hlt:j<n:=by have:=(Y8.1 hj).1; rwa [Z1u] at this
 have hv:c.getD (o+j) undef=v:=by
  rw [<- Z9n c o n j hlt,Y0b,hj]; rfl
 rw [Y4z w b _ c t fr h,<- hv];have h2:o+j<c.size:=by omega
 simp [Array.getD,h2]
end
section
open Go.RowKit
def X5d:List X8->(X8->Prop)->Prop
 | [],_=>True
 | y :: ys,p=>p y/\X5d ys p
theorem ZgO {p:X8->Prop} {l:List X8} (h:X5d l p):∀ y∈l,p y:=by
 induction l with
 | nil=>intro y hy; cases hy
 | cons x xs ih =>
   intro y hy;rcases Y9.1 hy with rfl|hy
   . exact h.1
   . exact ih h.2 y hy
def X5a (rem:List X8) (y:X8):Bool:=rem.all fun x => !y.mask.testBit x.i
def X6p (P:Program):Nat->List X8->Nat->Env->X1->(Nat->Env->X1->Prop)->Prop
 | 0,_,n,e,h,K=>K n e h
 | f+1,rem,n,e,h,K=>X5d (rem.filter (X5a rem)) fun y=>Xk P [y.o] n e h fun n e h=>X6p P f (rem.filter fun x => !Nat.beq x.i y.i) n e h K
structure Lf (p:Prop):Prop where
 h:p
section
variable {P:Program} {C:Ctx} {n:Nat} {e:Env} {h:X1} {a:Act} {w:World} {FN:Fence} {m:Nat} {Q:Exit->Nat->Env->X1->Prop}
theorem Ziv (hok:Xt FN m) {ops:Array Oper} {y:X8} {o:Oper} (ho:ops[y.i]?=some o) (hc:X24 P C.nt ops o=some y.o) (hs:St C (fun i=>n<=i) e h a w) {K:Nat->Env->X1->Prop} (hk:Xk P [y.o] n e h K)
 {next:Act->World->Prop} {Q:Exit->Act->World->Prop} (hnext:∀ n' e' h' a' w',K n' e' h'->St C (fun i=>n'<=i) e' h' a' w'->next a' w'):wpOpIn FN m P ops Q y.i next a w:=by
 unfold X24 at hc
 split at hc
 case h_2=>simp at hc
 rename_i op g hop hg
 split at hc
 case isFalse=>simp at hc
 rename_i hdst;have hx:y.o=⟨o.dst,op,g⟩:=(YN hc).symm;rw [hx] at hk;simp only [Xk] at hk;obtain⟨F,φ,s⟩:=hs;simp only [wpOpIn,ho];rcases Z3E hg s rfl hk with⟨hw,hA⟩|⟨hw,hB⟩
 . rw [Y5 hw];obtain⟨n1,e1,h1,hsub,hA⟩:=hA;obtain⟨F,φ,s⟩:=hsub C a w ⟨F,φ,s⟩;rcases hA with hA|⟨f,args,g,caps,as0,R,hop',hf,has,hsp,hR⟩
   . refine Z4N hok hop hdst (Y0m n1) s hA fun p h' a' w' hK hs' => ?_;obtain⟨F',φ',s'⟩:=hs';refine hnext _ _ _ a' w' hK ⟨F',φ',s'.weaken fun i hi=>?_⟩;unfold bmp at hi;cases hb:h' n1 with
     | none=>rw [hb] at hi; exact⟨hi,fun hne=>absurd rfl hne⟩
     | some b=>rw [hb] at hi; exact⟨by simp only at hi; omega,fun _=>by simp only at hi; omega⟩
   . subst hop';refine Z6v hok hop hdst s hf has hsp fun n' r h' a' w' hr hs'=>?_;exact hnext _ _ _ a' w' (hR n' r h' hr) hs'
 . rw [Y6 (by simp [hw])];refine⟨fun f _=>hok.fn f,?_⟩;have s':=s.putO (p:=pvu) hdst (.val undef);exact hnext _ _ _ _ _ hB ⟨F,φ,s'⟩
theorem Ziw (hok:Xt FN m) {ops:Array Oper} {L:List Nat} (hL:MOk ops L) {K:Nat->Env->X1->Prop} {Q:Exit->Act->World->Prop}
 (hQ : ∀ n e h a w, K n e h -> St C (fun i => n <= i) e h a w -> Q .normal a w) : ∀ (fuel : Nat) (rem : List X8) (listed : Array Bool), X6g .no P C.nt ops L rem listed -> rem.length <= fuel ->
   ∀ {n:Nat} {e:Env} {h:X1} {a:Act} {w:World},St C (fun i=>n<=i) e h a w->X6p P rem.length rem n e h K->wpAnyIn FN m P .any ops Q fuel listed a w:=by
 intro fuel;have hdone:∀ (rem:List X8) (listed:Array Bool),X6g .no P C.nt ops L rem listed->Region.ready .any ops listed = []->rem = []:=by
  intro rem listed inv hr;cases rem with
  | nil=>rfl
  | cons x xs =>
    exfalso;obtain⟨hxl,hxm,hxo⟩:=inv.item x (by simp);have ho:ops[x.i]?=some ops[x.i]:=Y1D hxl;have hin:x.i∈Region.ready .any ops listed:=by
     rw [Y4e];have h0:=(inv.mem x.i hxl).2 ⟨x,by simp,rfl⟩;refine⟨?_,_,ho,fun ed hed hb=>?_⟩
     . have hlt : x.i < listed.size := by rw [inv.size]; exact hxl
       simpa [Array.getD,hlt] using h0
     . have hlt := hL.lt x.i _ ho ed hed hb;cases hl:listed.getD ed.on false with
       | true=>rfl
       | false =>
         obtain⟨z,hz,hzi⟩:=(inv.mem ed.on (by omega)).1 hl;rcases Y9.1 hz with rfl|hz
         . omega
         . have := (Y10.1 inv.ord).1 z hz;omega
    rw [hr] at hin;cases hin
 induction fuel with
 | zero =>
   intro rem listed inv hlen n e h a w hs hk;have hrem:rem = []:=YC (by omega);subst hrem;refine⟨?_,hQ n e h a w hk hs⟩;cases hr:Region.ready .any ops listed with
   | nil=>rfl
   | cons j js =>
     exfalso;have hj:j∈Region.ready .any ops listed:=by rw [hr]; simp
     obtain⟨h0,o,ho,_⟩:=Y4e.1 hj;have hlt:j<ops.size:=(Y7.1 ho).1;obtain⟨x,hx,_⟩:=(inv.mem j hlt).1 (Z68 h0).2;cases hx
 | succ fuel ih =>
   intro rem listed inv hlen n e h a w hs hk;refine⟨fun hr=>?_,fun i hi=>?_⟩
   . obtain rfl := hdone rem listed inv hr;exact hQ n e h a w hk hs
   . obtain ⟨h0, o, ho, hpre⟩ := Y4e.1 hi;have hlt:i<ops.size:=(Y7.1 ho).1;obtain⟨y,hy,rfl⟩:=(inv.mem i hlt).1 (Z68 h0).2;obtain⟨_,hym,hyo⟩:=inv.item y hy;have hmask:∀ x∈rem,y.mask.testBit x.i=false:=by
      intro x hx;cases hb:y.mask.testBit x.i with
      | false=>rfl
      | true =>
        exfalso;rw [hym] at hb;obtain⟨ed,hed,hbind,hon⟩:=hL.mem y.i o ho x.i hb;have hl:=hpre ed hed hbind;have hxl:=(inv.item x hx).1;have hxun:=(inv.mem x.i hxl).2 ⟨x,hx,rfl⟩;rcases hon with hon|hon
        . rw [hon] at hl; rw [hl] at hxun; cases hxun
        . have hedl : ed.on < ops.size := by have := hL.lt y.i o ho ed hed hbind; omega
          have:=inv.closed ed.on hedl hl x.i hon;rw [this] at hxun; cases hxun
     have hready:X5a rem y=true:=YI.2 fun x hx=>by rw [hmask x hx]; rfl
     obtain⟨pre,post,rfl⟩:=List.append_of_mem hy;have hnd:∀ z∈pre++post,z.i≠y.i:=by
      have h1:(pre++y :: post).Pairwise fun x y=>x.i≠y.i:=inv.ord.imp fun h=>by omega
      intro z hz;have h2:=Y1X.1 h1;rcases Y0h.1 hz with hz|hz
      . exact h2.2.2 z hz y (by simp)
      . exact ((Y10.1 h2.2.1).1 z hz).symm
     have hfil:(pre++y :: post).filter (fun x => !Nat.beq x.i y.i)=pre++post:=by
      have hk:∀ z∈pre++post,(!Nat.beq z.i y.i)=true:=fun z hz=>by
       have:=hnd z hz;cases hb:Nat.beq z.i y.i with
       | false=>rfl
       | true=>exact absurd (YJ hb) this
      rw [Y2d,Y4u,Y6 (by rw [Y3W]; decide),List.filter_eq_self.2 fun z hz=>hk z (Y0h.2 (.inl hz)),List.filter_eq_self.2 fun z hz=>hk z (Y0h.2 (.inr hz))]
     have hl2:(pre++y :: post).length=(pre++post).length+1:=by simp only [Y0e,Y04]; omega
     rw [hl2] at hk;have hk:=ZgO hk y (Y18.2 ⟨hy,hready⟩);rw [hfil] at hk;refine Ziv hok ho (hyo o ho) hs hk fun n' e' h' a' w' hk' hs'=>?_;have hne:∀ j,j≠y.i->(listed.setIfInBounds y.i true).getD j false=listed.getD j false:=fun j hj=>by
      simp only [Y0d,Y3k];rw [Y6 (Y25 hj)]
     have hsame:(listed.setIfInBounds y.i true).getD y.i false=true:=by
      have:y.i<listed.size:=by rw [inv.size]; exact hlt
      simp [Y0d,this]
     refine ih (pre++post) _ ⟨by simpa using inv.size,fun j hj=>?_,fun x hx=>?_,?_,fun j hj hl k hk=>?_⟩ (by omega) hs' hk'
     . by_cases hj' : j = y.i
       . subst hj';rw [hsame];constructor
         . intro h; cases h
         . rintro⟨x,hx,hxi⟩; exact absurd hxi (hnd x hx)
       . rw [hne j hj', inv.mem j hj];constructor
         . rintro ⟨x, hx, hxi⟩;refine⟨x,?_,hxi⟩;rcases Y0h.1 hx with hx|hx
           . exact Y0h.2 (.inl hx)
           . rcases Y9.1 hx with rfl | hx
             . exact absurd hxi.symm hj'
             . exact Y0h.2 (.inr hx)
         . rintro ⟨x, hx, hxi⟩;refine⟨x,?_,hxi⟩;rcases Y0h.1 hx with hx|hx
           . exact Y0h.2 (.inl hx)
           . exact Y0h.2 (.inr (by simp [hx]))
     . refine inv.item x ?_;rcases Y0h.1 hx with hx|hx
       . exact Y0h.2 (.inl hx)
       . exact Y0h.2 (.inr (by simp [hx]))
     . exact inv.ord.sublist (Y4b (Y2E _) (Y3N _ _))
     . by_cases hk' : k = y.i
       . rw [hk']; exact hsame
       . rw [hne k hk'];by_cases hj':j=y.i
         . subst hj';obtain⟨ed,hed,hbind,hon⟩:=hL.mem y.i o ho k hk;have hl':=hpre ed hed hbind;rcases hon with hon|hon
           . rw [<- hon]; exact hl'
           . exact inv.closed ed.on (by have:=hL.lt y.i o ho ed hed hbind;omega) hl' k hon
         . rw [hne j hj'] at hl;exact inv.closed j hj hl k hk
theorem Z9p (hok:Xt FN m) (hm:P.follows .mixedOrders=true) {id:Nat} {ops:Array Oper} {al:List Xl} {L:List Nat} (hc:XC P C.nt ops ops.toList=some al) (hL:X2g ops L=true) (hp:X2y (XM al L)=true)
 (hs:St C (fun i=>n<=i) e h a w) {Q:Exit->Nat->Env->X1->Prop} (hk:X6p P (XM al L).length (XM al L) n e h fun n e h=>Lf (Q .normal n e h)):(Code.region id ops true).wpIn FN m P (X3c C Q) a w:=by
 obtain⟨hlen,hget⟩:=Z7C hc;have hdl:(XM al L).length=ops.size:=by simp [XM,hlen]
 have hs':St C (fun i=>n<=i) e h a { w with drawn:=w.drawn+1 }:=by obtain⟨F,φ,s⟩:=hs; exact⟨F,φ,s.drew⟩
 refine wpIn_region_any hm (Ziw hok (Z5P hL) (K:=fun n e h=>Lf (Q .normal n e h)) (fun n e h a w hK hSt=>⟨n,e,h,hK.h,hSt⟩) ops.size _ _ ⟨by simp,fun j hj=>?_,fun x hx=>?_,?_,fun j hj hl=>?_⟩ (by omega) hs' hk)
 . have hj' : j < al.length := by rw [hlen]; simpa using hj
   constructor
   . intro _;refine⟨⟨j,al[j],L.getD j 0,X6O al L j,false⟩,?_,rfl⟩;refine Y0i.2 ⟨(al[j],j),?_,rfl⟩;rw [Y1w];simp [hj']
   . intro _; simp [Y0d,hj]
 . obtain ⟨q, hq, rfl⟩ := Y0i.1 hx;have hqg:=Y1w.1 hq;have hql:q.2<al.length:=(Y8.1 hqg).1;refine⟨by rw [hlen] at hql; simpa using hql,rfl,fun o ho=>?_⟩;obtain⟨x,hx1,hx2⟩:=hget q.2 o (by simpa using ho);rw [hqg] at hx1;cases hx1;exact hx2
 . have hsub : (XM al L).Pairwise fun x y => x.i < y.i := by
    unfold XM;rw [Y1o];have h2:(al.zipIdx.map Prod.snd).Pairwise (· < ·):=by
     rw [List.zipIdx_map_snd]; exact Y4P
    exact (Y1o.1 h2)
   refine Y1x ?_ hsub;intro x y hx hy hlt;refine⟨hlt,fun hb=>?_⟩;have h1:=YI.1 hp x hx;have h2:=YI.1 h1 y hy;have hblt:Nat.blt x.i y.i=true:=Nat.ble_eq_true_of_le hlt;have hb':y.mask.testBit x.i=false:=hb;simp only [hblt,hb',Y3H,Y1G] at h2;exact Z6w h2 hlt hb' (z:=.no) rfl hx hy
 . simp [Y0d,hj] at hl
theorem Zez {l:List X8} (hk:X6p P l.length l n e h fun n e h=>Lf (Q .normal n e h)):aw P C (.draw l) Q n e h:=by
 intro hm FN m hok c hc a w hs;have:∃ id ops al,c=.region id ops true/\XC P C.nt ops ops.toList=some al/\X2g ops (Region.before ops).toList=true/\X2y (XM al (Region.before ops).toList)=true/\XM al (Region.before ops).toList=l:=by
  unfold Xn at hc
  split at hc<;>first
   | (simp at hc; done)
   | (split at hc
      . split at hc
        . simp at hc
        . split at hc
          . rename_i hb;rw [Y0k] at hb;simp at hc; exact⟨_,_,_,rfl,by assumption,hb.1,hb.2,hc⟩
          . simp at hc
      . simp at hc)
   | (split at hc<;>simp at hc; done)
   | ((repeat' (split at hc))<;>simp at hc; done)
 obtain⟨id,ops,al,rfl,h1,h2,h3,rfl⟩:=this;exact Z9p hok.1 hm h1 h2 h3 hs hk
theorem Zk7 {m:Nat} (hdom:C.dom m) (N:Nat) (R:Env->X1->Nat->Nat) (L:List (Nat×PV)) (HL:List (Nat×Bx)) {x y:X4} (h1:aw P C x (X2E (fun n e h=>(∀ i,i<m->R e h i=i)/\X3V (R e h) HL/\X37 (R e h) e N L/\X1o (R e h) h N HL) Q) n e h) (hm:m<=N) (h2:aw P C y Q N (X1v L) (XE HL)):aw P C (.seq x y) Q n e h :=
 Zq (Z5r h1 fun ex n e h hq=>by
  cases ex with
  | normal=>obtain⟨ha,hi,he,hh⟩:=hq; exact Z1l (Z8y _ he.mem hh.mem hi hdom hm ha) h2
  | _=>exact hq)
end
end
section
open Go.RowKit Go.Lib
theorem Z64 {P:Program} {ops:Array Oper} {o:Oper} {a:Act} {w:World} {K:Act->World->Prop} {Q:Exit->Act->World->Prop} {E:Prop}
 (hg:o.guard=none) (d x:Operand) (dT sT:TypeId) (hop:o.op=Op.call { callee:=Callee.builtin Builtin.append,args := #[d,x],argTypes := #[dT,sT] })
 (v u:Value) (hd:a.eval d=v) (hx:a.eval x=u) {v':Value} {w':World} (hr:(Builtin.append_ #[dT,sT] o.type #[v,u]).run P w=.ok v' w') (hK:K (a.put o.dst v') w') :
 if Region.wanted o (yielded ops a.tmps)=true then Oper.wp P o a w K Q else E:=by
 have hw:Region.wanted o (yielded ops a.tmps)=true:=by simp [Region.wanted,hg]
 rw [Y5 hw];unfold Oper.wp;simp [execOp,hop,resolve,invoke,builtin,hd,hx,hr,Result.andThen];exact hK
theorem Z9q (w:World) {P:Program} {o:Oper} {a:Act} {K:Act->World->Prop} {Q:Exit->Act->World->Prop} (d:Operand) (t:TypeId)
 (ho:o.op=.call { callee:=.builtin .clear,args := #[d],argTypes := #[t] }) (v:Value) (hd:a.eval d=v) {v':Value} {w':World}
 (hr:(Builtin.clear_ #[t] o.type #[v]).run P w=.ok v' w') (h:K (a.put o.dst v') w'):o.wp P a w K Q:=by
 unfold Oper.wp execOp;simp only [ho,resolve,invoke,builtin,Y1c,Y2m,YT,List.map_toArray,Y20,List.map_nil,hd,hr];exact h
theorem Z3d (w:World) {P:Program} {ops:Array Oper} {rest:List Oper} {o:Oper} {a:Act} {Q:Exit->Act->World->Prop} (hgd:o.guard=none) (d:Operand) (t:TypeId)
 (ho:o.op=.call { callee:=.builtin .clear,args := #[d],argTypes := #[t] }) (v:Value) (hd:a.eval d=v) {v':Value} {w':World}
 (hr:(Builtin.clear_ #[t] o.type #[v]).run P w=.ok v' w') (h:wpList P ops Q rest (a.put o.dst v') w'):wpList P ops Q (o :: rest) a w :=
 wpList_plain hgd fun _ hK=>Z9q w d t ho v hd hr (hK _ _ h)
theorem uP:Tryz.prog.underlying 29=some (.slice 54):=by kernel_rfl
theorem iP:(Tryz.prog.info? 54).map (fun i=>(i.zero,i.size,i.bytes))=some (some (.agg #[.bool false,.slice none 0 0,.slice none 0 0,.int .i64 0,.int .i64 0]),5,72):=by kernel_rfl
def X35 (cb:Array Value) (off n k:Nat):Array Value:=spl cb (off+k*5) (seg cb (off+(k+1)*5) ((n-(k+1))*5))
def X68 (cb:Array Value) (off n k:Nat):Array Value:=spl (X35 cb off n k) (off+(n-1)*5) [.bool false,.slice none 0 0,.slice none 0 0,.int .i64 0,.int .i64 0]
theorem Zk8 (b off n c k:Nat) (cb:Array Value) (tb:TypeId) (w:World) (hk:k<n) (hn:n<=1000000) (hnc:n<=c)
 (hb:w.heap[b]?=some (.cells cb tb (0,0))) (hbf:off+c*5<=cb.size) (h1c:∀ j,j<n*5->(cb.getD (off+j) undef).oneCell'=true) :
 Calls Tryz.prog 10 #[.slice (some ⟨b,off,none⟩) n c,.int .i64 k,.int .i64 ((k:Int)+1)] w fun e w' =>
  e=.returned (.slice (some ⟨b,off,none⟩) (n-1) c)/\w'=(w.drew.setRow b (X35 cb off n k)).setRow b (X68 cb off n k):=by
 obtain⟨i0,hi0,hz0,hzs,hzb⟩:=info_parts iP;have h1n:∀ v∈seg cb (off+(k+1)*5) ((n-(k+1))*5),v.oneCell'=true:=fun v hv=>by
  obtain⟨j,hj,rfl⟩:=Y15 hv;rw [Z1u] at hj;have:=h1c ((k+1)*5+j) (by omega);have e:=Z9n cb (off+(k+1)*5) ((n-(k+1))*5) j hj;rw [Y0b,Y0c (by rw [Z1u]; exact hj)] at e;rw [<- Y1F,<- e] at this;exact this
 have hkn:k+(n-(k+1))=n-1:=by omega
 have hst:=Y2i Tryz.prog b (off+k*5) tb (seg cb (off+(k+1)*5) ((n-(k+1))*5)) 0 cb w.drew hb (by rw [Z1u];omega) h1n;simp only [Y1g] at hst;have hap0:∀ ty xb xc,(Builtin.firstCells i0.size (n-(k+1)) (.slice xb (n-(k+1)) xc)).run Tryz.prog w.drew=.ok (seg cb (off+(k+1)*5) ((n-(k+1))*5)).toArray w.drew ->
  (Builtin.append_ #[29,29] ty #[.slice (some ⟨b,off,none⟩) k c,.slice xb (n-(k+1)) xc]).run Tryz.prog w.drew=.ok (.slice (some ⟨b,off,none⟩) (n-1) c) (w.drew.setRow b (X35 cb off n k)):=fun ty xb xc hf=>by
  have h:=Z3f (ty:=ty) (base:=some ⟨b,off,none⟩) (sLen:=k) (sCap:=c) uP uP hi0 hf (by omega);rw [h];simp only [hzs,Y3w,hst,YT,hkn]
  rfl
 have hap1:∀ ty xc,(Builtin.append_ #[29,29] ty #[.slice (some ⟨b,off,none⟩) k c,.slice (some ⟨b,off+(k+1)*5,none⟩) (n-(k+1)) xc]).run Tryz.prog w.drew=.ok (.slice (some ⟨b,off,none⟩) (n-1) c) (w.drew.setRow b (X35 cb off n k)):=fun ty xc =>
  hap0 ty _ xc (Y2M w.drew i0.size (n-(k+1)) _ _ xc _ (by rw [Z1u,hzs]) (fun j v hj=>by
   rw [Y3w]
   exact Zdm (w:=w.drew) hb _ _ (by omega) j v hj))
 have hload:=run_loadCells_list (P:=Tryz.prog) w.drew ⟨b,off+(k+1)*5,none⟩ (seg cb (off+(k+1)*5) ((n-(k+1))*5)) (fun j v hj=>by
  rw [Y3w]
  exact Zdm (w:=w.drew) hb _ _ (by omega) j v hj)
 rw [Z1u] at hload;have hstB:(storeCells ⟨b,off+k*5,none⟩ (seg cb (off+(k+1)*5) ((n-(k+1))*5))).run Tryz.prog w.drew=.ok () (w.drew.setRow b (X35 cb off n k)):=hst;have hgB:(w.drew.setRow b (X35 cb off n k)).heap[b]?=some (.cells (X35 cb off n k) tb (0,0)):=Y32 w.drew b cb _ tb (0,0) hb;have hsB:(X35 cb off n k).size=cb.size:=Z9o _ _ _ (by rw [Z1u];omega)
 have hst2:=Y2i Tryz.prog b (off+(n-1)*5) tb [.bool false,.slice none 0 0,.slice none 0 0,.int .i64 0,.int .i64 0] 0 (X35 cb off n k) (w.drew.setRow b (X35 cb off n k)) hgB (by rw [hsB]; show off+(n-1)*5+0+5<=_;omega) (fun v hv=>by
  simp only [Y9,Y2a,Y44] at hv
  rcases hv with rfl|rfl|rfl|rfl|rfl<;>rfl)
 simp only [Y1g] at hst2;have hcl:∀ ty cc,(Builtin.clear_ #[29] ty #[.slice (some ⟨b,off+(n-1)*5,none⟩) 1 cc]).run Tryz.prog (w.drew.setRow b (X35 cb off n k))=.ok (.tuple #[]) ((w.drew.setRow b (X35 cb off n k)).setRow b (X68 cb off n k)):=fun ty cc=>by
  simp only [Builtin.clear_,Y23,Y04,Y2A,Y17,Nat.lt_add_one,getElem?_pos,List.getElem_toArray,Y3O,Y1c,YA uP,YT,Z13 hi0 hz0];rw [show (Builtin.zeroCells (Value.agg #[.bool false,.slice none 0 0,.slice none 0 0,.int .i64 0,.int .i64 0]).cells 1).toList = [.bool false,.slice none 0 0,.slice none 0 0,.int .i64 0,.int .i64 0] by kernel_rfl,hst2]
  rfl
 have hW0:n=k+1->w.drew.setRow b (X35 cb off n k)=w.drew:=fun he=>by
  have e1:X35 cb off n k=cb:=by
   unfold X35 spl;rw [he,Y36,Y3U];simp [seg]
  rw [e1];exact setRow_self w.drew b cb tb (0,0) hb
 unfold loadCells at hload;generalize seg cb (off+(k+1)*5) ((n-(k+1))*5)=news at hload hstB;generalize hWB:w.drew.setRow b (X35 cb off n k)=WB at hap0 hap1 hcl hstB hW0 ⊢;clear hst hst2 hgB hsB h1n h1c hWB hb hbf hap0;have hw1:IntKind.i64.wrap ((k:Int)+1)=(k:Int)+1:=by rw [IntKind.wrap_i64]; omega
 have hb1:(0:Int)<=(k:Int)+1:=by omega
 have hb2:(k:Int)+1<=(n:Int):=by omega
 have hb3:(k:Int)<=(k:Int)+1:=by omega
 have hb4:¬ ((k:Int)=(k:Int)+1):=by omega
 have htn:((k:Int)+1).toNat=k+1:=by omega
 have hk1:k<=n:=by omega
 have hkc:k<=c:=by omega
 have hnc1:n<=c+1:=by omega
 have hn1:n-1<=n:=by omega
 have hn2:¬ (c=n-1):=by omega
 have hn3:n-(n-1)=1:=by omega
 have mixed:=mixed;by_cases hck:c=k+1
 . have hnk : n = k + 1 := by omega
   have hW:=hW0 hnk;subst hW;clear hW0 hload hstB hap1 hn1 hn2 hn3 hnc1 hk1 hkc hnc hkn hb2;subst hnk;subst hck;rw [show k+1-1=k by omega] at hcl ⊢
   go_enter Tryz.func10,Tryz.ntmps10
   go_wp2
   go_region_law_o (exact Yt)
   go_wp2_with (at_builtin; refine Z3d _ rfl _ 29 rfl _ rfl (hcl _ _) ?_)
   go_ret
   exact⟨rfl,rfl⟩
 . go_enter Tryz.func10, Tryz.ntmps10
   go_wp2
   go_region_law_o (refine Z64 rfl _ _ 29 29 rfl _ _ (by simp [Act.eval,Act.put]) (by simp [Act.eval,Act.put]) (hap1 _ _) ?_)
   go_wp2_with (at_builtin; refine Z3d _ rfl _ 29 rfl _ rfl (hcl _ _) ?_)
   go_ret
   exact⟨rfl,rfl⟩
attribute [local irreducible] aw Xk dK
theorem ZeA {P:Program} {f nt:Nat} {ac:X4} {rs:List X27} (hf:X3R P f nt ac rs):X1D P f:=by
 obtain⟨hm,fn,c,hfn,hname,hb,rfl,hc,hr⟩:=hf;exact⟨fn,hfn,hname,by rw [hb]; rfl⟩
theorem ZeB (w:World) (g:Nat) (x y:Array Value):(w.setRow g x).setRow g y=w.setRow g y:=by
 unfold World.setRow;congr 1;apply Y4l;intro k;simp only [Array.getElem?_modify]
 split
 . cases w.heap[k]? with
   | none=>rfl
   | some o=>cases o<;>rfl
 . rfl
theorem ZgP (l:List RU) (k:Nat) (hk:k<l.length) (hlen:l.length<=100000):X3n Tryz.prog 10 ⟨5,l.map ruP⟩ [.val (.int .i64 (k:Int)),.val (.int .i64 ((k:Int)+1))] .own (· = ⟨5,(l.eraseIdx k).map ruP⟩):=by
 refine⟨ZeA ok10,fun C e F φ a w vs s hv=>?_⟩;obtain⟨hsz,hvi⟩:=hv;obtain⟨vl⟩:=vs
 match vl,hsz with
 | [v0,v1,v2],_=>?_
 have r0:Rep F φ v0 (.own 0):=hvi 0 (show 0<3 by decide);have r1:Rep F φ v1 (.val (.int .i64 (k:Int))):=hvi 1 (show 1<3 by decide);have r2:Rep F φ v2 (.val (.int .i64 ((k:Int)+1))):=hvi 2 (show 2<3 by decide);obtain⟨loc,hloc,hz,rfl⟩:=r0.own_inv;obtain rfl:=r1.val_inv;obtain rfl:=r2.val_inv;have hh:(X1.upd (fun _=>none) 0 (⟨5,l.map ruP⟩:Bx)) 0=some ⟨5,l.map ruP⟩:=rfl;obtain⟨loc',h1,h2,h3⟩:=s.live 0 _ hh;obtain rfl:loc'=loc:=by rw [h1] at hloc; simpa using hloc
 have h2:=h2.cells hz;have hln:loc'.len=l.length:=by have:=h2.len; rw [Y0f] at this; exact this.symm
 have hez:loc'.esz=5:=h2.esz.symm;have hcle:=h2.cap;have hc0:loc'.cap≠0:=by omega
 obtain⟨ad,hbase,hs,cells,ct,hg,hroom,hrep⟩:=h2.room hc0;have hhas:loc'.has ad.block:=⟨hc0,ad,hbase,rfl⟩
 rw [hez] at hroom hrep;rw [hln] at hrep;have s1:St' C (fun i=>1<=i) e ((X1.upd (fun _=>none) 0 (⟨5,l.map ruP⟩:Bx)).del 0) F φ a w:=s.sub (fun _ _ h=>h) (fun _ _ hh=>(X1.del_some hh).2);have hMl:((l.eraseIdx k).map ruP).length=l.length-1:=by rw [Y0f,List.length_eraseIdx_of_lt hk]
 have hMc:∀ c∈(l.eraseIdx k).map ruP,c.length=5:=fun c hc=>by obtain⟨y,_,rfl⟩:=Y0i.1 hc; rfl
 have h1c:∀ q,q<l.length*5->(cells.getD (ad.off+q) undef).oneCell'=true:=fun q hq=>by
  have:=(hrep (q / 5) (q % 5) (by omega) (by omega)).1
  rwa [show q / 5*5+q % 5=q by omega] at this
 rw [hbase,hln,Z44 ad hs];refine (Zk8 ad.block ad.off l.length loc'.cap k cells ct w hk (by omega) (by omega) hg hroom h1c).mono ?_;rintro en w' ⟨rfl,rfl⟩;rw [ZeB]
 let locN:Loc:=⟨some ⟨ad.block,ad.off,none⟩,5,l.length-1,loc'.cap⟩
 have hfree:∀ q,1<=q->φ q=none:=fun q hq=>s.free q hq;have hst:=s1.drew.adopt (id:=1) (loc':=locN) (b':=⟨5,(l.eraseIdx k).map ruP⟩) (φ':=Xf φ 1 locN) (Fr':=fun i=>2<=i) (cur':=X68 cells ad.off l.length k) hg (h3 _ hhas).1 (h3 _ hhas).2 (s.del_no hh h1 hhas) (by simp [Xf]) (Z17 (hfree 1 (Y0m _)) locN) (fun i hi=>by simp [Xf,hi])
  (fun q hq => by
    have h5:q≠1:=by omega
    simp [Xf,h5,hfree q (by omega)]) (fun k' hk'=>by obtain⟨_,y,hy,rfl⟩:=hk'; simp only [locN] at hy; cases hy; rfl) (by
  have hsB:(X35 cells ad.off l.length k).size=cells.size:=Z9o _ _ _ (by rw [Z1u];omega);refine⟨rfl,show 0<5 by decide,hMl,by simp only [locN]; omega,by simp only [locN,Xd]; omega,hMc,fun _=>⟨⟨ad.block,ad.off,none⟩,rfl,rfl,_,ct,Y32 w.drew _ cells _ ct _ hg,?_,fun r q hr hq=>?_⟩⟩
  . unfold X68;rw [Z9o _ _ _ (by rw [hsB]; show ad.off+(l.length-1)*5+5<=_;omega),hsB];exact hroom
  . simp only [locN] at hr hq ⊢;have hget:((l.eraseIdx k).map ruP).getD r []=if r<k then (l.map ruP).getD r [] else (l.map ruP).getD (r+1) []:=by
     simp only [Y0b,Y0y,List.getElem?_eraseIdx]
     split<;>rfl
    unfold X68;rw [hget,Zdl _ _ _ (by rw [hsB]; show ad.off+(l.length-1)*5+5<=_;omega),Y6 (by show ¬ (_/\_<_+5);omega)];unfold X35;rw [Zdl _ _ _ (by rw [Z1u];omega),Z1u];by_cases hrk:r<k
    . rw [Y6 (by omega), Y5 hrk];have:=hrep r q (by omega) hq;exact⟨this.1,this.2.mono (fun _ _ h=>h) (Z17 (hfree 1 (Y0m _)) locN)⟩
    . rw [Y5 ⟨by omega, by omega⟩, Y6 hrk, Z9n _ _ _ _ (by omega), show ad.off + (k + 1) * 5 + (ad.off + (r * 5 + q) - (ad.off + k * 5)) = ad.off + ((r + 1) * 5 + q) by omega];have:=hrep (r+1) q (by omega) hq
      exact⟨this.1,this.2.mono (fun _ _ h=>h) (Z17 (hfree 1 (Y0m _)) locN)⟩)
 exact⟨_,.own 1,2,_,F,Xf φ 1 locN,rfl,⟨1,_,rfl,X1.upd_same _ _ _,Zs _,rfl⟩,.own 1 locN (by simp [Xf]) (show 0<5 by decide),hst⟩
end
section
open Go.RowKit
attribute [local irreducible] aw Xk dK
theorem Zk9 (t:PB) (S:List Nat):Mk3 fun i j k=>.agg (pbO t S i j k):=by
 intro F φ φ' v i j k a b c hi hj hk hv;show Rep F φ' v (.agg (pbO t S a b c));refine ZjY (l:=pbO t S i j k) (m:=pbO t S a b c) rfl (fun m v hm hv=>?_) hv
 match m,hm with
 | 0,_=>exact hv.pure Yt
 | 1,_=>exact hv.pure (Zm _ _)
 | 2,_=>exact hv.pure (Z4 _)
 | 3,_=>exact Z24 F φ φ' v i a hi hv
 | 4,_=>exact Z24 F φ φ' v j b hj hv
 | 5,_=>exact Z24 F φ φ' v k c hk hv
 | m+6,h=>exact absurd h (by show ¬ m+6<6;omega)
theorem ZgQ {t:PB} (h:Xz t) (S:List Nat):X3k Tryz.prog 8 [.agg (pbP t S)] (fun _:Unit=>True) (fun _ i j k=>.agg (pbO t S i j k)) (fun _=>⟨5,t.rs.map ruP⟩) (fun _=>⟨2,t.nv.map cuC⟩) (fun _=>⟨2,t.gl.map cuC⟩):=by
 have hrl:=h.rl;have hnl:=h.nl;have hgk:=h.gk;refine Zim ok8 (Y0 rfl) fun C hC=>?_;refine gd 5 ⟨?_⟩;refine Z3i (Z8l t.rs false (by omega)) Z24 (Zs _) rfl rfl rfl ⟨Zs _,Yt⟩ ?_;refine gd 8 ⟨?_⟩;refine Z3i (Z4p t.nv false (by omega)) Z24 (Z0 _) rfl rfl rfl ⟨Z0 _,Yt⟩ ?_;refine gd 11 ⟨?_⟩;refine Z3i (Z4p t.gl false (by omega)) Z24 (Z0 _) rfl rfl rfl ⟨Z0 _,Yt⟩ ?_;refine go ?_;exact⟨_,_,rfl,.inl rfl,(),4,7,10,Yt,by decide,by decide,by decide,rfl,rfl,rfl,rfl⟩
theorem Zl5 (g:Nat) (hg:1<=g/\g<=5) (fl:Bool):Xa Tryz.prog 9 [.vec (XG [(g:Int)]) fl] (· = XH (2 ^ g)):=by
 refine Z4K [(g:Int)] (2 ^ g) ?_ fl;rcases (show g=1 \/ g=2 \/ g=3 \/ g=4 \/ g=5 by omega) with rfl|rfl|rfl|rfl|rfl<;>decide +kernel
def ruM (k:Nat):RU:=⟨false,(0,0),k,0⟩
def X30 (t:PB) (k g:Nat):PB:={ t with rs:=t.rs ++ [ruM k],gl:=t.gl ++ [(2 ^ g,0)] }
def X6n (t:PB) (i:Nat):PB:={ t with rs:=t.rs.eraseIdx i }
theorem pw5 {n g:Nat} (hn:n<=5) (hg:1<=g/\g<=n):InC n (2 ^ g,0)/\InM 62 (2 ^ g,0)/\2 ^ g<256:=by
 have:(n=1 \/ n=2 \/ n=3 \/ n=4 \/ n=5)/\(g=1 \/ g=2 \/ g=3 \/ g=4 \/ g=5):=by omega
 obtain⟨h1|h1|h1|h1|h1,h2|h2|h2|h2|h2⟩:=this<;>subst h1<;>subst h2<;>first|omega|exact⟨⟨by decide +kernel,by decide +kernel,by decide +kernel⟩,⟨by decide +kernel,by decide +kernel⟩,by decide +kernel⟩
theorem ZgR {t:PB} (hm:X5B t) {k g:Nat} (hk:1<=k/\k<=t.n) (hg:1<=g/\g<=t.n):Xz (X30 t k g):=by
 have h:=hm.ok;have hn:=hm.n;have hz:InC t.n (0,0):=⟨by show 0 ||| _=_; rw [Y3m],by show 0 ||| _=_; rw [Y3m],rfl⟩
 refine { h with rl:=?_,rs:=fun r hr=>?_,gk:=?_,gl:=fun c hc=>?_ }
 . have:=hm.rs; show (t.rs ++ [ruM k]).length<=64; rw [Y0e,Y0s]; omega
 . rcases Y0h.1 hr with hr | hr
   . exact h.rs r hr
   . rw [Y0g] at hr;subst hr;exact⟨hz,⟨show (0:Nat) ||| 62=62 by decide,show (0:Nat) ||| 62=62 by decide⟩,show 1<=k/\k<=t.n/\k<=5 by omega,fun e=>by cases e⟩
 . have:=hm.gl; show (t.gl ++ [_]).length<=64; rw [Y0e,Y0s]; omega
 . rcases Y0h.1 hc with hc | hc
   . exact h.gl c hc
   . rw [Y0g] at hc;subst hc;exact⟨(pw5 hn.2 hg).1,(pw5 hn.2 hg).2.1⟩
theorem Zl6 {t:PB} (hm:X5B t) {k g:Nat} (hk:1<=k/\k<=t.n) (hg:1<=g/\g<=t.n):PbW (X30 t k g):=by
 have hw:=ZgL hm;have hn:=hm.n;refine { hw with rs:=fun r hr=>?_,gl:=fun c hc=>?_,rl:=?_,gn:=?_ }
 . rcases Y0h.1 hr with hr | hr
   . exact hw.rs r hr
   . rw [Y0g] at hr;subst hr;exact⟨show (0:Nat)<256 by decide,show (0:Nat)<256 by decide,show k<=63 by omega⟩
 . rcases Y0h.1 hc with hc | hc
   . exact hw.gl c hc
   . rw [Y0g] at hc;subst hc;exact⟨(pw5 hn.2 hg).2.2,show (0:Nat)<256 by decide⟩
 . have:=hm.rs; show (t.rs ++ [ruM k]).length<=100; rw [Y0e,Y0s]; omega
 . have:=hm.gl; show (t.gl ++ [_]).length<=100; rw [Y0e,Y0s]; omega
theorem Zka {t:PB} {k g S:Nat} (h:X1F t S):X1F (X30 t k g) S:=by
 induction h with
 | base hS hg hr =>
   refine .base hS hg ?_;unfold XB soC at hr ⊢;show (t.gl ++ [_]).any _=true;rw [Y2Y];exact Bool.or_eq_true_iff.2 (.inl hr)
 | step hS hg hx hs _ ih=>exact .step hS hg (Y0h.2 (.inl hx)) hs ih
theorem Zl7 {t:PB} (h:Xz t) (i:Nat):Xz (X6n t i):=by
 refine { h with rl:=Y03 (Y2C ..).length_le h.rl,rs:=fun r hr=>h.rs r ((Y2C ..).mem hr) }
theorem Zlw {t:PB} (h:PbW t) (i:Nat):PbW (X6n t i):=by
 refine { h with rl:=Y03 (Y2C ..).length_le h.rl,rs:=fun r hr=>h.rs r ((Y2C ..).mem hr) }
theorem Zl8 {t:PB} {i S:Nat} (h:X1F (X6n t i) S):X1F t S:=by
 induction h with
 | base hS hg hr=>exact .base hS hg hr
 | step hS hg hx hs _ ih=>exact .step hS hg ((Y2C ..).mem hx) hs ih
theorem Zix (t:PB) (k g:Nat) (S:List Nat):pbP (X30 t k g) S = [.val (.int .i64 (t.n:Int)),XR t.l S,.vec (X5 (X7 t.st)) false,.vec (t.rs.map ruP ++ [ruP (ruM k)]) false,.vec (t.nv.map cuC) false,.vec (t.gl.map cuC ++ [cuC (2 ^ g,0)]) false]:=by
 unfold pbP X30;dsimp only;rw [Y0r,Y0r]
 rfl
theorem Z3A {l:List (List PV)} {x:List PV} (hl:X2 l) (hx:X6 x):X2 (l ++ [x]):=by
 induction l with
 | nil=>exact⟨hx,Yt⟩
 | cons y l ih=>exact⟨hl.1,ih hl.2⟩
theorem Z8m (l:List (List PV)) (x:List PV):Xp (l ++ [x])=Xp l ++ [X2l x]:=by
 induction l with
 | nil=>rfl
 | cons y l ih=>show X2l y :: Xp (l ++ [x])=_; rw [ih]; rfl
theorem Zkb (x:RU):X2l (ruP x)=ruP x:=by
 show [PV.val (.bool x.rev),.vec (Xp (X5 (X7 x.cu.1))) false,.vec (Xp (X5 (X7 x.cu.2))) false,.val (.int .i64 (x.tg:Int)),.val (.int .i64 (x.og:Int))]=_;rw [Z16,Z16]; rfl
theorem ZgS (l:List RU) (k:Nat):Xp (l.map ruP ++ [[PV.val (.bool false),.vec [] true,.vec [] true,.val (.int .i64 (k:Int)),.val (.int .i64 0)]])=l.map ruP ++ [ruP (ruM k)]:=by
 rw [Z8m,Z3W Zkb];congr 1;show [[PV.val (.bool false),.vec [] false,.vec [] false,.val (.int .i64 (k:Int)),.val (.int .i64 0)]] = [[PV.val (.bool false),.vec (X5 (X7 0)) false,.vec (X5 (X7 0)) false,.val (.int .i64 (k:Int)),.val (.int .i64 0)]];rw [w00]
theorem ZgT (l:List Cu) (g:Nat):Xp (l.map cuC ++ [[PV.vec (X5 (X7 (2 ^ g))) false,.vec [] true]])=l.map cuC ++ [cuC (2 ^ g,0)]:=by
 rw [Z8m,Z3r];congr 1;show [[PV.vec (Xp (X5 (X7 (2 ^ g)))) false,.vec [] false]] = [[PV.vec (X5 (X7 (2 ^ g))) false,.vec (X5 (X7 0)) false]];rw [Z16,w00]
def idP:Option PV->Nat
 | some (.ptr k _ _)=>k
 | some (.own k)=>k
 | _=>0
def X2L (h:X1) (b j:Nat):Nat:=match h b with
 | some bx=>idP ((bx.elems.getD 0 [])[j]?)
 | none=>0
def X6H (e:Env) (h:X1):Nat->Nat
 | 0=>1
 | 1=>2
 | 2=>idP (e 13)
 | 3=>idP (e 14)
 | 4=>X2L h (idP (e 13)) 3
 | 5=>X2L h (idP (e 13)) 4
 | 6=>X2L h (idP (e 13)) 5
 | 7=>X2L h (idP (e 14)) 3
 | 8=>X2L h (idP (e 14)) 4
 | 9=>X2L h (idP (e 14)) 5
 | n=>n
theorem Z7q (p:List Nat) (at0 m0 m1:Nat) (fl:Bool) (hp:X4d p) (hat:at0<256) (hm0:m0<256) (hm1:m1<256):Xa Tryz.prog 3 [.vec (bys p) fl,.val (.int .u8 (at0:Int)),.agg [.val (.int .u8 (m0:Int)),.val (.int .u8 (m1:Int))]] (· = .val (.bool true)):=by
 refine Yp ok3 fun C hC=>?_;refine Zq ?_;refine Za ?_;refine Z5 rfl rfl rfl ?_;refine gd 22 ⟨?_⟩;refine Qe ZaB Yt ?_;refine gd 26 ⟨?_⟩;refine Zz rfl rfl (Ze6 p fl hp) ⟨Zg p,Yt⟩ rfl ?_;rintro r ⟨t,S,hmk,rfl⟩;have h:=hmk.ok;have hn:=hmk.n;have hw:=ZgL hmk;have hpp:=ZD t S;have hpr:=Z6m t;have hid:=Z2f t;have hrs6:=hmk.rs;have hgl3:=hmk.gl;refine gd 34 ⟨?_⟩;refine Zz rfl rfl (Z23 h hn.2 hw S 2000 (by decide)) ⟨hpp,Yt,Yt⟩ rfl ?_;intro r hr;obtain⟨mx,Rx,bx,qx,fqx,lx,flx,hRx,hmx,hsx⟩:=hr;have habx:=hsx.able h;have hc1:(Xs (XV t) bx qx fqx lx flx).length=35:=Z1E hid;have hcp:=Z1t (XV t) bx qx fqx lx flx;have d32:=Z3z (Z5m (b:=bx) (p:=qx) (fp:=fqx) (l:=lx) (fl:=flx) hid);generalize Xs (XV t) bx qx fqx lx flx=cc at hc1 hcp d32;have hca:(cc ++ []).length=35:=by rw [Y0p]; exact hc1
 have hcpa:X6 (cc ++ []):=by rw [Y0p]; exact hcp
 clear hsx hRx hmx
 iterate 5 (first|refine st ?_|(apply B<;>intro hb<;>try cases hb))
 refine Qo (Z3b rfl rfl rfl hc1 rfl) ?_;refine gd 12 ⟨?_⟩
 iterate 2 (first|refine st ?_|(apply B<;>intro hb<;>try cases hb))
 show aw _ _ _ _ _ _ _;refine Zk7 hC 10 X6H [(1,.val (.int .u8 (at0:Int))),(5,.cp [.val (.int .u8 (m0:Int)),.val (.int .u8 (m1:Int))]),(8,.ptr 0 0 0),(10,.ptr 1 0 0),(12,.val (.int .i64 0)),(13,.ptr 2 0 0),(14,.ptr 3 0 0)]
  [(0,⟨6,[pbR t]⟩),(1,⟨35,[cc ++ []]⟩),(2,⟨6,[pbO t S 4 5 6]⟩),(3,⟨6,[pbO t S 7 8 9]⟩),(4,⟨5,t.rs.map ruP⟩),(5,⟨2,t.nv.map cuC⟩),(6,⟨2,t.gl.map cuC⟩),(7,⟨5,t.rs.map ruP⟩),(8,⟨2,t.nv.map cuC⟩),(9,⟨2,t.gl.map cuC⟩)] ?_ (Y0l _) ?_
 . refine Zez ?_
   repeat' (first
    | (show Xk _ (⟨some _,.call _ _,none⟩ :: _) _ _ _ _; refine ZjX (X:=Unit) (ZgQ h S) (fun _=>Zk9 t S) (fun _ _=>Zs _) (fun _ _=>Z0 _) (fun _ _=>Z0 _) rfl rfl ⟨hpp,Yt⟩ ?_; intro u _; show Xk _ _ _ _ _ _)
    | (show Xk _ _ _ _ _ _; refine st ?_)
    | exact Yt
    | refine And.intro ?_ ?_)
   all_goals exact Lf.mk (show _/\_/\_/\_ from ⟨fun i hi=>absurd hi (YL _),Zu rfl,⟨Qp Yt,Qp ⟨Yt,Yt,Yt⟩,Qt 0 0 0,Qt 1 0 0,Qp Yt,Qt 2 0 0,Qt 3 0 0,Yt⟩,
    ⟨Qs ⟨hpr,Yt⟩,Qs ⟨hcpa,Yt⟩,⟨by decide,_,rfl,Xr.single ⟨.pure _ Yt,.pure _ (Zm _ _),.pure _ (Z4 _),.own 4 (by decide),.own 5 (by decide),.own 6 (by decide),Yt⟩ rfl⟩,⟨by decide,_,rfl,Xr.single ⟨.pure _ Yt,.pure _ (Zm _ _),.pure _ (Z4 _),.own 7 (by decide),.own 8 (by decide),.own 9 (by decide),Yt⟩ rfl⟩,
     (Qs (Zs _)),Qs (Z0 _),Qs (Z0 _),Qs (Zs _),Qs (Z0 _),Qs (Z0 _),Yt⟩⟩)
 . have hn0 : ((t.n : Nat) : Int) ≠ 0 := by omega
   clear hpp hpr;have hcv0:IntKind.i64.wrap (m0:Int)=(m0:Int):=Y0v _ ⟨by omega,by omega⟩;have hcv1:IntKind.i64.wrap (m1:Int)=(m1:Int):=Y0v _ ⟨by omega,by omega⟩;have hk0:m0 % t.n<t.n:=Y1l _ (by omega);have hk1:m1 % t.n<t.n:=Y1l _ (by omega);have ha0:IntKind.i64.wrap (1+((m0 % t.n:Nat):Int))=((m0 % t.n+1:Nat):Int):=by rw [Y0v _ ⟨by omega,by omega⟩]; omega
   have ha1:IntKind.i64.wrap (1+((m1 % t.n:Nat):Int))=((m1 % t.n+1:Nat):Int):=by rw [Y0v _ ⟨by omega,by omega⟩]; omega
   refine gd 46 ⟨?_⟩;refine Qr (ZS rfl hcv0) ?_;refine gd 49 ⟨?_⟩;refine Qr (ZS (Za2 rfl rfl hn0) (Z2d m0 t.n)) ?_;refine Qr (ZS rfl ha0) ?_;clear ha0 hcv0;have hkk:1<=m0 % t.n+1/\m0 % t.n+1<=t.n:=by omega
   generalize m0 % t.n+1=k at hkk ⊢;clear hk0;refine gd 53 ⟨?_⟩
   refine Qr (Zt (k:=4) (m := [[.val (.bool false),.vec [] true,.vec [] true,.val (.int .i64 (k:Int)),.val (.int .i64 0)]]) (fl:=true) rfl rfl rfl (fun c hc=>by rw [Y0g] at hc; subst hc; rfl) rfl (by
    show ((t.rs.map ruP).length+1)*72<=_
    rw [Y0f];omega)) ?_
   refine gd 59 ⟨?_⟩;refine Qr (ZS rfl hcv1) ?_;refine gd 62 ⟨?_⟩;refine Qr (ZS (Za2 rfl rfl hn0) (Z2d m1 t.n)) ?_;refine Qr (ZS rfl ha1) ?_;clear ha1 hcv1;have hgg:1<=m1 % t.n+1/\m1 % t.n+1<=t.n:=by omega
   generalize m1 % t.n+1=g at hgg ⊢;clear hk1;refine gd 65 ⟨?_⟩;refine Qd (Zl5 g (by omega) true) ⟨ZG _,Yt⟩ ?_;refine gd 68 ⟨?_⟩
   refine Qr (Zt (k:=6) (m := [[.vec (X5 (X7 (2 ^ g))) false,.vec [] true]]) (fl:=true) rfl rfl rfl (fun c hc=>by rw [Y0g] at hc; subst hc; rfl) rfl (by
    show ((t.gl.map cuC).length+1)*48<=_
    rw [Y0f];omega)) ?_
   iterate 3 (first|refine st ?_|(apply B<;>intro hb<;>try cases hb))
   show aw _ _ _ _ _ _ _;have hp1:X2 (t.rs.map ruP ++ [[PV.val (.bool false),.vec [] true,.vec [] true,.val (.int .i64 (k:Int)),.val (.int .i64 0)]]):=Z3A (Zs _) ⟨Yt,Yt,Yt,Yt,Yt,Yt⟩;have hp2:X2 (t.gl.map cuC ++ [[PV.vec (X5 (X7 (2 ^ g))) false,.vec [] true]]):=Z3A (Z0 _) ⟨Z4 _,Yt,Yt⟩;refine Z1l (Zk (ob:=2) (id:=21) (i0:=0) (j0:=3) rfl rfl (by decide) hp1 (Y0 rfl) (Y0 rfl) rfl (Y0 rfl) C) ?_;refine Z1l (Zk (ob:=2) (id:=5) (i0:=0) (j0:=4) rfl rfl (by decide) (Z0 _) (Y0 rfl) (Y0 rfl) rfl (Y0 rfl) C) ?_;refine Z1l (Zk (ob:=2) (id:=37) (i0:=0) (j0:=5) rfl rfl (by decide) hp2 (Y0 rfl) (Y0 rfl) rfl (Y0 rfl) C) ?_;refine Z1l (Zk (ob:=3) (id:=8) (i0:=0) (j0:=4) rfl rfl (by decide) (Z0 _) (Y0 rfl) (Y0 rfl) rfl (Y0 rfl) C) ?_;refine Z1l (Zk (ob:=3) (id:=9) (i0:=0) (j0:=5) rfl rfl (by decide) (Z0 _) (Y0 rfl) (Y0 rfl) rfl (Y0 rfl) C) ?_;have hr1:X1x (fun i=>i) (fun i=>i<40) (.vec (t.rs.map ruP ++ [[PV.val (.bool false),.vec [] true,.vec [] true,.val (.int .i64 (k:Int)),.val (.int .i64 0)]]) false) (.vec (t.rs.map ruP ++ [ruP (ruM k)]) false):=Z5L (ZgS t.rs k) (Z3A (Zs _) (Zs [ruM k]).1);have hr2:X1x (fun i=>i) (fun i=>i<40) (.vec (t.gl.map cuC ++ [[PV.vec (X5 (X7 (2 ^ g))) false,.vec [] true]]) false) (.vec (t.gl.map cuC ++ [cuC (2 ^ g,0)]) false):=Z5L (ZgT t.gl g) (Z3A (Z0 _) (Zi _))
   refine Z1l (Z2q (n':=40) (X37.mem (ρ:=fun i=>i) (m:=40) (L := [(1,.val (.int .u8 (at0:Int))),(10,.ptr 1 0 0),(12,.val (.int .i64 0)),(13,.ptr 2 0 0),(14,.ptr 3 0 0)]) ⟨Qp Yt,Qt 1 0 0,Qp Yt,Qt 2 0 0,Qt 3 0 0,Yt⟩)
    (X1o.mem (ρ := fun i => i) (m := 40) (L := [(1, ⟨35, [cc ++ []]⟩), (2, ⟨6, [[.val (.int .i64 (t.n : Int)), XR t.l S, .vec (X5 (X7 t.st)) false, .vec (t.rs.map ruP ++ [ruP (ruM k)]) false, .vec (t.nv.map cuC) false, .vec (t.gl.map cuC ++ [cuC (2 ^ g, 0)]) false]]⟩), (3, ⟨6, [[.val (.int .i64 (t.n : Int)), XR t.l S, .vec (X5 (X7 t.st)) false, .own 7, .vec (t.nv.map cuC) false, .vec (t.gl.map cuC) false]]⟩), (7, ⟨5, t.rs.map ruP⟩)])
      ⟨Qs ⟨hcpa,Yt⟩,⟨by decide,_,rfl,Xr.single ⟨.pure _ Yt,.pure _ (Zm _ _),.pure _ (Z4 _),hr1,.pure _ (Z0 _),hr2,Yt⟩ rfl⟩,⟨by decide,_,rfl,Xr.single ⟨.pure _ Yt,.pure _ (Zm _ _),.pure _ (Z4 _),.own (ρ:=fun i=>i) 7 (by decide),.pure _ (Z0 _),.pure _ (Z0 _),Yt⟩ rfl⟩,Qs (Zs _),Yt⟩) hC (by decide)) ?_
   clear hr1 hr2 hp1 hp2;have hy:=Z23 (ZgR hmk hkk hgg) hn.2 (Zl6 hmk hkk hgg) S 2000 (by decide);have hyp:=ZD (X30 t k g) S;have hidy:=Z2f (X30 t k g);rw [Zix] at hy hyp;have hrl:(t.rs.map ruP).length=t.rs.length:=Y0f ..;have hcva:IntKind.i64.wrap (at0:Int)=(at0:Int):=Y0v _ ⟨by omega,by omega⟩;have hzt:Xz t/\t.n<=5/\PbW t/\(X1F t t.st->X1F t t.st):=⟨h,hn.2,hw,id⟩
   show aw _ _ _ _ _ _ _;refine Zb6 hC (X:=PB) (fun tz=>Xz tz/\tz.n<=5/\PbW tz/\(X1F tz tz.st->X1F t t.st)) 40 (fun tz => [(10,.ptr 1 0 0),(12,.val (.int .i64 0)),(13,.ptr 2 0 0),(14,.ptr 3 0 0)]) (fun tz => [(1,⟨35,[cc ++ []]⟩),(2,⟨6,[[.val (.int .i64 (t.n:Int)),XR t.l S,.vec (X5 (X7 t.st)) false,.vec (t.rs.map ruP ++ [ruP (ruM k)]) false,.vec (t.nv.map cuC) false,.vec (t.gl.map cuC ++ [cuC (2 ^ g,0)]) false]]⟩),(3,⟨6,[pbP tz S]⟩)]) (Y0l _) ?_ ?_
   . refine gd 73 ⟨?_⟩;by_cases h0:0<t.rs.length
     . refine Qo (Qy rfl (by rw [hrl]; omega)) ?_;have hil:at0 % t.rs.length<t.rs.length:=Y1l _ h0;refine gd 75 ⟨?_⟩;refine Zh rfl rfl rfl hcva ?_;refine gd 79 ⟨?_⟩;refine Qo (ZS (v:=((at0 % t.rs.length:Nat):Int)) (Za2 rfl rfl (by rw [hrl];omega)) (by rw [hrl]; exact Z2d at0 t.rs.length)) ?_;generalize at0 % t.rs.length=i at hil ⊢;refine gd 84 ⟨?_⟩;refine Zh rfl rfl rfl (show IntKind.i64.wrap ((i:Int)+1)=(i:Int)+1 from Y0v _ ⟨by omega,by omega⟩) ?_;refine ZjH (ZgP t.rs i hil (by omega)) Z24 rfl rfl rfl rfl (Zs _) ⟨Yt,Yt,Yt⟩ ?_;rintro b' hb' rfl;refine Zb (Zn (k:=85) (id:=40) (b:=⟨5,(t.rs.eraseIdx i).map ruP⟩) rfl rfl (Zs _)) ?_;refine go ?_;exact⟨X6n t i,⟨Zl7 h i,hn.2,Zlw hw i,Zl8⟩,⟨⟨rfl,show (1:Nat)<40 by decide⟩,⟨rfl,Yt⟩,⟨rfl,show (2:Nat)<40 by decide⟩,⟨rfl,show (3:Nat)<40 by decide⟩,Yt⟩,⟨⟨by decide,rfl,Ze (fun _ h=>h.elim) _ ⟨hcpa,Yt⟩⟩,⟨by decide,rfl,Ze (fun _ h=>h.elim) _ ⟨hyp,Yt⟩⟩,⟨by decide,rfl,Ze (fun _ h=>h.elim) _ ⟨ZD _ S,Yt⟩⟩,Yt⟩⟩
     . refine Zb (Zk (ob := 3) (id := 7) (i0 := 0) (j0 := 3) rfl rfl (by decide) (Zs _) (Y0 rfl) (Y0 rfl) rfl) ?_;refine Qo (Qz rfl (by rw [hrl];omega)) ?_;refine go ?_;exact⟨t,hzt,⟨⟨rfl,show (1:Nat)<40 by decide⟩,⟨rfl,Yt⟩,⟨rfl,show (2:Nat)<40 by decide⟩,⟨rfl,show (3:Nat)<40 by decide⟩,Yt⟩,⟨⟨by decide,rfl,Ze (fun _ h=>h.elim) _ ⟨hcpa,Yt⟩⟩,⟨by decide,rfl,Ze (fun _ h=>h.elim) _ ⟨hyp,Yt⟩⟩,⟨by decide,rfl,Ze (fun _ h=>h.elim) _ ⟨ZD _ S,Yt⟩⟩,Yt⟩⟩
   . rintro tz ⟨hz, hzn, hzw, hza⟩;have hzz:=Z23 hz hzn hzw S 2000 (by decide);have hzp:=ZD tz S;have hidz:=Z2f tz;refine gd 89 ⟨?_⟩;refine Zz rfl rfl hy ⟨hyp,Yt,Yt⟩ rfl ?_;intro r hr;obtain⟨my,Ry,bY,qy,fqy,ly,fly,hRy,hmy,hsy⟩:=hr;have haby:=hsy.able (ZgR hmk hkk hgg);have hc1y:(Xs (XV (X30 t k g)) bY qy fqy ly fly).length=35:=Z1E hidy;have e32:=Z3z (Z5m (b:=bY) (p:=qy) (fp:=fqy) (l:=ly) (fl:=fly) hidy);generalize Xs (XV (X30 t k g)) bY qy fqy ly fly=cy at hc1y e32;have hcy:(cy ++ []).length=35:=by rw [Y0p]; exact hc1y
     clear hsy hRy hmy
     iterate 5 (first|refine st ?_|(apply B<;>intro hb<;>try cases hb))
     refine Qo (Z3b rfl rfl rfl hc1y rfl) ?_;refine gd 95 ⟨?_⟩;refine Zz rfl rfl hzz ⟨hzp,Yt,Yt⟩ rfl ?_;intro r hr;obtain⟨mz,Rz,bz,qz,fqz,lz,flz,hRz,hmz,hsz⟩:=hr;have habz:=hsz.able hz;have hc1z:(Xs (XV tz) bz qz fqz lz flz).length=35:=Z1E hidz;have f32:=Z3z (Z5m (b:=bz) (p:=qz) (fp:=fqz) (l:=lz) (fl:=flz) hidz);generalize Xs (XV tz) bz qz fqz lz flz=cz at hc1z f32;have hcz:(cz ++ []).length=35:=by rw [Y0p]; exact hc1z
     clear hsz hRz hmz
     iterate 5 (first|refine st ?_|(apply B<;>intro hb<;>try cases hb))
     refine Qo (Z3b rfl rfl rfl hc1z rfl) ?_;have h1:bx=true->bY=true:=fun hb=>haby.2 (Zka (habx.1 hb));have h2:bx=false->bz=false:=fun hb=>YB.2 fun hc=>by
      have:=habx.2 (hza (habz.1 hc));rw [hb] at this; cases this
     refine gd 111 ⟨?_⟩;refine ZA rfl ?_;refine Qo (Z4J (l:=cc ++ []) (off:=32) (v:=.val (.bool bx)) rfl rfl (by omega) d32) ?_;cases bx with
     | true =>
       obtain rfl:bY=true:=h1 rfl;refine gd 115 ⟨?_⟩;refine ZA rfl ?_;refine Qo (Z4J (l:=cy ++ []) (off:=32) (v:=.val (.bool true)) rfl rfl (by omega) e32) ?_;refine gd 120 ⟨?_⟩;refine ZA rfl ?_;refine Qo (Z4J (l:=cc ++ []) (off:=32) (v:=.val (.bool true)) rfl rfl (by omega) d32) ?_;refine go ?_;exact Z8 rfl Yt rfl
     | false =>
       obtain rfl:bz=false:=h2 rfl;refine gd 120 ⟨?_⟩;refine ZA rfl ?_;refine Qo (Z4J (l:=cc ++ []) (off:=32) (v:=.val (.bool false)) rfl rfl (by omega) d32) ?_;refine gd 123 ⟨?_⟩;refine ZA rfl ?_;refine Qo (Z4J (l:=cz ++ []) (off:=32) (v:=.val (.bool false)) rfl rfl (by omega) f32) ?_;refine go ?_;exact Z8 rfl Yt rfl
end
section
open Go.ChangeShapes Go.WideShapes Go.ChangeAt Go.RowKit
theorem Zdn {α:Type} {enc:α->List PV} {Q:α->Prop}:∀ {ll:List (List PV)},(∀ l∈ll,∃ x,Q x/\l=enc x)->∃ xs:List α,(∀ x∈xs,Q x)/\ll=xs.map enc
 | [],_=>⟨[],fun _ h=>(by cases h),rfl⟩
 | l :: ll, h => by
   obtain⟨x,h1,rfl⟩:=h l (Y0t ..);obtain⟨xs,h2,rfl⟩:=Zdn fun l hl=>h l (YD _ hl);refine⟨x :: xs,fun y hy=>?_,rfl⟩;rcases Y9.1 hy with rfl|hy
   . exact h1
   . exact h2 y hy
theorem Z9r {P:Program} {s t u:TypeId}:∀ {ps:List PV},X2x P [s,t,u] ps->∃ a b c,ps = [a,b,c]/\X1z P s a/\X1z P t b/\X1z P u c
 | [a,b,c],⟨h1,h2,h3,_⟩=>⟨a,b,c,rfl,h1,h2,h3⟩
theorem Zdo {m:Int} (h:(Lit.int .u8 m).wf=true):∃ a:Nat,a<256/\m=(a:Int):=by
 simp only [Lit.wf,Y0k,Y0n] at h;obtain⟨h1,h2⟩:=h;have h3:m<=255:=h2;have h4:0<=m:=h1;exact⟨m.toNat,by omega,by omega⟩
theorem Ziy {n:Nat} {l:List PV} (h:XJ Tryz.prog n 5 l):∃ x:Nat,x<=255/\l = [PV.val (.int .u8 (x:Int))]:=by
 obtain⟨m1,w1,e1⟩:=Z5n h (k:=.u8) (by kernel_rfl);obtain⟨x,hx,rfl⟩:=Zdo w1;exact⟨x,by omega,e1⟩
theorem Zcc {p:PV} (h:X1z Tryz.prog 22 p):∃ (l:List Nat) (fl:Bool),X4d l/\p=.vec (bys l) fl:=by
 obtain⟨n,ll,fl,_,h2,rfl⟩:=ZaD h (e:=5) (by kernel_rfl);obtain⟨xs,h3,rfl⟩:=Zdn (enc:=fun (x:Nat) => [PV.val (.int .u8 (x:Int))]) (Q:=fun (x:Nat)=>x<=255) fun l hl=>Ziy (h2 l hl);exact⟨xs,fl,h3,rfl⟩
theorem ZgU {p:PV} (h:X1z Tryz.prog 5 p):∃ s:Nat,s<256/\p=.val (.int .u8 (s:Int)):=by
 obtain⟨m,w,rfl⟩:=ZeC h (k:=.u8) (by kernel_rfl);obtain⟨x,hx,rfl⟩:=Zdo w;exact⟨x,hx,rfl⟩
theorem Zcd {P:Program} {n m:Nat} {t e:TypeId} {ps:List PV} (h:XJ P n t ps) (hk:P.underlying t=some (.array m e)):∃ n',ps.length=P.cellsOf t/\∀ i,i<m->XJ P n' e ((ps.drop (i*P.cellsOf e)).take (P.cellsOf e)):=by
 cases n with
 | zero=>exact h.elim
 | succ n =>
   have:ps.length=P.cellsOf t/\∀ i,i<m->XJ P n e ((ps.drop (i*P.cellsOf e)).take (P.cellsOf e)):=by simpa only [XJ,hk] using h
   exact⟨n,this⟩
theorem ZaE {P:Program} {m:Nat} {t e:TypeId} {p:PV} (h:X1z P t p) (hk:P.underlying t=some (.array m e)):∃ n ps,p=.agg ps/\XJ P n t ps:=by
 obtain⟨n,h⟩:=h;simp only [hk] at h;exact⟨n,h⟩
theorem Zce {P:Program} {t e:TypeId} {p:PV} (h:X1z P t p) (hk:P.underlying t=some (.array 2 e)) (hc:P.cellsOf t=2) (h1:P.cellsOf e=1) (hi:X5Q P e=some .u8):∃ y:Nat×Nat,(y.1<256/\y.2<256)/\p=.agg [.val (.int .u8 (y.1:Int)),.val (.int .u8 (y.2:Int))]:=by
 obtain⟨n,ps,rfl,hs⟩:=ZaE h hk;obtain⟨n',hl,hf⟩:=Zcd hs hk;rw [hc] at hl;rw [h1] at hf
 match ps,hl with
 | [a, b], _ =>
   obtain⟨m1,w1,e1⟩:=Z5n (show XJ P n' _ [a] from hf 0 (by decide)) hi;obtain⟨m2,w2,e2⟩:=Z5n (show XJ P n' _ [b] from hf 1 (by decide)) hi;obtain⟨x,hx,rfl⟩:=Zdo w1;obtain⟨y,hy,rfl⟩:=Zdo w2;simp only [List.cons.injEq,and_true] at e1 e2;subst e1; subst e2;exact⟨(x,y),⟨hx,hy⟩,rfl⟩
theorem Zcf {p:PV} (h:X1z Tryz.prog 23 p):∃ y:Nat×Nat,(y.1<256/\y.2<256)/\p=.agg [.val (.int .u8 (y.1:Int)),.val (.int .u8 (y.2:Int))]:=Zce h (e:=5) (by kernel_rfl) (by kernel_rfl) (by kernel_rfl) (by kernel_rfl)
theorem Z65:∀ ps,X2x Tryz.prog Tryz.f3.params.toList ps->X6 ps->Xa Tryz.prog 3 ps (· = .val (.bool true)):=by
 intro ps hs hp;rw [show Tryz.f3.params.toList = [22,5,23] by kernel_rfl] at hs;obtain⟨a,b,c,rfl,k0,k1,k2⟩:=Z9r hs;obtain⟨x0,f0,h0,rfl⟩:=Zcc k0;obtain⟨x1,h1,rfl⟩:=ZgU k1;obtain⟨x2,h2,rfl⟩:=Zcf k2;exact Z7q x0 x1 x2.1 x2.2 f0 h0 h1 h2.1 h2.2
theorem Z5o (os:Os) (started:os.Started) (H:Type) (enc:TypeId×Value->H) :
 ReturnsInHanded {} Tryz.checked os 3 .any (fun w args=>(Rows.safetyGrowsSpec.pre enc Tryz.prog Tryz.f3 [] false w args/\laidMetH Tryz.prog X3s w)/\sizedMet enc Tryz.prog Tryz.f3 (OpenSpec.ofChange Rows.safetyGrowsSpec) false w args)
  (Rows.safetyGrowsSpec.post enc Tryz.prog Tryz.f3 false true false false):=by
 refine returnsInHanded_of_change_and (C:=Tryz.checked) (X:=fun w _=>laidMetH Tryz.prog X3s w) (fun _ _ _ hh h=>h.of_heap hh) own started (by kernel_rfl) Tryz.func3
  (ChangeSpec.witness_shaped (enc:=enc) (C:=Tryz.checked) (os:=os) (X:=fun w _=>laidMetH Tryz.prog X3s w) false (World.doorLaid Tryz.prog 400 os) #[.slice none 0 0,.int .u8 0,.agg #[.int .u8 0,.int .u8 0]] 8 rfl (World.shaped_of_RefB (by kernel_rfl) (by kernel_rfl)) (by kernel_rfl) (by kernel_rfl) (by kernel_rfl) (Zhb os _)) ?_
 intro W base args ds gs before hval hW _ hwt hL _
 exact Z9E (P:=Tryz.prog) (G:=X66 Tryz.prog Tryz.f3.params.toList) (by kernel_rfl) (Zkj (by kernel_rfl)) X5f (Zf7 (by kernel_rfl)) (tb:=4) (by kernel_rfl) (by kernel_rfl) rfl (fun ds hd=>by
  match ds,hd with
  | [a,b,c],_=>exact⟨rfl,rfl,rfl⟩) Z65 W (Zhd hL) base args ds gs before hval hW hwt
theorem Z5M:Rows.SafetyGrowsSaid :=
 OpenClaim.holds_of_wide 3 Tryz.f3 rfl rfl rfl rfl rfl rfl rfl ⟨rfl,rfl,rfl,rfl,rfl⟩ rfl rfl rfl rfl rfl (by kernel_rfl) Tryz.func3 (by kernel_rfl)
  (Y0u (by kernel_rfl)) (by unfold Func.isWrapper; first|(rw [Y5 (by decide +kernel)]; kernel_rfl)|(rw [Y6 (by decide +kernel)]; exact⟨rfl,rfl⟩))
  (fun os started H enc _=>Z5o os started H enc)
theorem safetyGrows_card:Rows.SafetyGrowsCardSaid :=
 Claim7.holds_tied_plain_at .later [] [.data,.data,.data] true (true, "3e3373207980e751835690c5383e41013059c51b11fba5a495146f60047f09f0") false
  Z5M (fun _ h=>by cases h) (by kernel_rfl) (fun _ h=>by cases h) safetyGrows_row_tie rfl ⟨rfl,rfl⟩ (by kernel_rfl) rfl
  (fun f fn hf hfn => by
    obtain rfl : f = 3 := YN ((show Tryz.prog.funcNamed "arbac/arbaclaw37.SafetyGrows" = some 3 by kernel_rfl).symm.trans hf) |>.symm
    obtain rfl:fn=Tryz.f3:=(YN (Tryz.func3.symm.trans hfn)).symm
    exact⟨by kernel_rfl,fun j t ht=>by
     rw [show Tryz.f3.params = #[22,5,23] by kernel_rfl] at ht;have hm:t∈[22,5,23]:=by simpa using Array.mem_of_getElem? ht
     have hall:([22,5,23].all fun u => !Tryz.prog.wantsStandIn u)=true:=by kernel_rfl
     exact (show Tryz.prog.wantsStandIn t=false by simpa using YI.1 hall t hm)⟩)
  (by kernel_rfl)
#print axioms safetyGrows_card
end
end Go.Proofs.YtbfbcdjjhhcbaaaGreatDoor
