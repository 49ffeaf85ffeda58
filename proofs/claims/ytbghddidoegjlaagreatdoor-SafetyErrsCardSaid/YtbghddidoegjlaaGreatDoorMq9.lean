/-
 Proved: for every input the law SafetyErrs returns true,never panics,and leaves its arguments as0 they were,on the given card's conditions (the table of the bits package reads as0 the program's text lays it,and is tied to it).
-/
import Derived.Laws.BitsAllLaws
import Derived.Lay
import Derived.SevenTiedAt
import Derived.Test.YtbghddidoegjlaaGreatDoorCards
import Derived.Test.YtbghddidoegjlaaGreatDoorTie
import Derived.Test.YtbghddidoegjlaaGreatDoorMq8
set_option linter.unusedSimpArgs false
set_option linter.unusedVariables false
set_option linter.unusedSectionVars false
set_option maxRecDepth 100000
set_option maxHeartbeats 16000000
namespace Go.Proofs.YtbghddidoegjlaaGreatDoor
section
open Go.RowKit
attribute [local irreducible] aw Xj dK
theorem ZgJ (kd:IntKind) (l:List Nat) (n:Nat):(Xh kd l).take n=Xh kd (l.take n):=by unfold Xh; rw [Y2l]
theorem ZgK (kd:IntKind) (l:List Nat) (n:Nat):(Xh kd l).drop n=Xh kd (l.drop n):=by unfold Xh; rw [Y3B]
theorem Zim (kd:IntKind) (l m:List Nat):Xh kd (l++m)=Xh kd l++Xh kd m:=by unfold Xh; rw [Y0r]
section
variable {e:Env} {h:X1} {n k:Nat} {Eb:Nat}
theorem Z4o {a:Operand} {l r:List PV} {off size:Nat} (ha:ev e a=some (.ptr k 0 off)) (hb:h k=some ⟨Eb,[l]⟩) (hl:off+size<=l.length) (hv:(l.drop off).take size=r):X4 (.load true size a) e h n=some (.agg r,h):=by
 subst hv;exact Z2p ha hb Y1B (by show X19 true size off l=_; unfold X19; rw [Y5 hl])
theorem Z41 {a v:Operand} {l r:List PV} {size:Nat} (ha:ev e a=some (.ptr k 0 0)) (hv:ev e v=some (.agg r)) (hb:h k=some ⟨size,[l]⟩) (hr:r.length=size) (hl:l.length=size):X4 (.store size a v) e h n=some (pvu,h.upd k ⟨size,[r ++ []]⟩):=by
 have h1:=Z1V (n:=n) (size:=size) ha hv hb rfl hr Y1B (by show 0+size<=size;omega);rw [h1];have e1:Xi l 0 r=r ++ []:=by
  unfold Xi;rw [Y1y,Y1h,Y1L (by omega)]
 show some (pvu,h.upd k ⟨size,[Xi l 0 r]⟩)=_;rw [e1]
theorem ZkQ {d s:Operand} {k2 Eb2 o o2 len len2 cap cap2:Nat} {l l2 l':List PV} (hd:ev e d=some (.sl k 0 o len cap)) (hs:ev e s=some (.sl k2 0 o2 len2 cap2)) (hb:h k=some ⟨Eb,[l]⟩) (hb2:h k2=some ⟨Eb2,[l2]⟩) (hE:o+len<=Eb) (hE2:o2+len2<=Eb2) (hl:Xi l o (((l2.drop o2).take len2).take len)=l'):X4 (.copy 1 d s) e h n=some (.val (.int .i64 ((min len2 len:Nat):Int)),h.upd k ⟨Eb,[l']⟩):=by
 subst hl;simp only [X4,hd,hs,hb,hb2];rw [Y5 ⟨Yt,show 0<1 by decide,hE,show 0<1 by decide,hE2⟩]
 rfl
end
theorem Z28 {e:Env} {h:X1} {a size:Nat} {r:PV} (hd:X4 (.load true size (.tmp a)) e h 0=some (r,h)):XR [.cell a true size] e h=some r:=by
 simp [XR,X2W,X5A,hd]
def X1Z (h:HS):List Nat:=h.bl.take h.used++List.replicate (136-h.used) 0
theorem Zar {h:HS} (hh:HOk h):(X1Z h).length=136:=by
 have h1:=hh.bl;have h2:=hh.us;simp only [X1Z,Y0e,Y0o,Y3T];omega
theorem ZgL {h:HS} (hh:HOk h):W8 (X1Z h):=fun x hx=>by
 rcases Y0h.1 hx with h1|h1
 . exact hh.bw x (YM h1)
 . rw [Y1n h1]; decide
theorem W8.set {l:List Nat} (h:W8 l) {i x:Nat} (hx:x<256):W8 (l.set i x):=fun w hw=>by
 rcases Y1P hw with hw|rfl
 . exact h w hw
 . exact hx
theorem Z9l (h:HS):X2U h.bl h.used=((X1Z h).set h.used 6).set 135 (g0 ((X1Z h).set h.used 6) 135 ^^^ 128):=rfl
theorem ZjP {a b:Nat} (ha:a<256) (hb:b<256):a ^^^ b<256:=Y46 (n:=8) ha hb
theorem ZgM {h:HS} (hh:HOk h):(X2U h.bl h.used).length=136:=by rw [Z9l,Y11,Y11,Zar hh]
theorem ZgN {h:HS} (hh:HOk h):W8 (X2U h.bl h.used):=by
 rw [Z9l];have h1:W8 ((X1Z h).set h.used 6):=(ZgL hh).set (by decide);exact h1.set (ZjP (h1.g _) (by decide))
theorem ZgO {h:HS} (hh:HOk h) (u t:PV):Xi (Xh .u8 (List.replicate 136 0)) 0 ((((Xs h.st h.bl u t).drop 25).take h.used).take 136)=Xh .u8 (X1Z h) ++ []:=by
 have h1:=hh.bl;have h2:=hh.us;have hst:(Xh .u64 h.st).length=25:=by rw [ZJ,hh.sl]
 have e1:(((Xs h.st h.bl u t).drop 25).take h.used).take 136=Xh .u8 (h.bl.take h.used):=by
  unfold Xs;rw [Y2r,hst,Y1L (by omega),show 25-25=0 by decide,Y14,Y1h,Y3a,ZJ,show h.used-h.bl.length=0 by omega,Y1y,Y0p,Y3s,Nat.min_eq_right (by omega),ZgJ]
 rw [e1];unfold Xi;rw [Y1y,Y1h,ZJ,Y0o,show min h.used h.bl.length=h.used by omega,Y19,ZgK,List.drop_replicate,<- Zim,Y0p]
 rfl
def X2V (st:List Nat) (i:Nat):List Nat:=(List.range 32).map fun k=>if k<i then X5D st k else 0
theorem Z42 (st:List Nat) (i:Nat):(X2V st i).length=32:=by simp [X2V]
theorem Zez (st:List Nat) {i:Nat} (h:i<32):(X2V st i).set i (X5D st i)=X2V st (i+1):=by
 refine Z5E (by rw [Y11,Z42,Z42]) fun x hx=>?_;rw [Y11,Z42] at hx;rw [Zgw,Z42];unfold X2V;rw [Z3Y _ hx,Z3Y _ hx];by_cases h1:x=i
 . subst h1; rw [Y5 ⟨rfl,h⟩,Y5 (by omega)]
 . rw [Y6 (by omega)];by_cases h2:x<i
   . rw [Y5 h2,Y5 (by omega)]
   . rw [Y6 h2,Y6 (by omega)]
theorem ZgP (st:List Nat):X2V st 32=(List.range 32).map (X5D st):=Y2m fun x hx=>by rw [Y5 (Y1s.1 hx)]
def X3v (h:HS):List Nat:=(List.range 32).map (X5D (X1K h.st (X2U h.bl h.used)))
theorem Zll (x:HS) (hx:HOk x):X2d Tryz.prog 252 (hBx x) [] (fun r b'=>r=.agg (Xh .u8 (X3v x))/\b'=hBx x):=by
 refine Z1P ok252 (Y0 rfl) fun C hC=>?_;have hCx:=fun (u t:PV)=>Z8j (u:=u) (t:=t) hx.sl hx.bl;have hus:=hx.us;have hl0:=Zar hx;have hw0:=ZgL hx;refine gd 13 ⟨?_⟩
 refine Qo (Z4o (l:=Xs x.st x.bl (.val (.int .i64 (x.used:Int))) (.val (.int .u64 (x.total:Int)))) (r:=Xh .u64 x.st) rfl rfl (by rw [hCx]; decide) (by
  unfold Xs
  rw [Y14,Y3a,ZJ,hx.sl,Y3p,Y1y,Y0p,Yw (by rw [ZJ,hx.sl]; exact Y0m _)])) ?_
 (first|refine st ?_|(apply B<;>intro hb<;>try cases hb));refine Qo (Z41 (l:=Xh .u64 (List.replicate 25 0)) rfl rfl rfl (by rw [ZJ,hx.sl]) rfl) ?_;refine gd 21 ⟨?_⟩;refine Qr (Z7w (l:=Xs x.st x.bl (.val (.int .i64 (x.used:Int))) (.val (.int .u64 (x.total:Int)))) rfl rfl (by rw [hCx]; decide) (ZkP hx.sl hx.bl)) ?_;refine Qr (Zij rfl 0 x.used rfl rfl (by omega) (by omega) (by omega)) ?_;refine Qr (ZkQ (l:=Xh .u8 (List.replicate 136 0)) (l2:=Xs x.st x.bl (.val (.int .i64 (x.used:Int))) (.val (.int .u64 (x.total:Int)))) rfl rfl rfl rfl (by decide) (by show 25+0+(x.used-0)<=163;omega) (ZgO hx _ _)) ?_;refine gd 27 ⟨?_⟩;refine Qo (Z7w (l:=Xs x.st x.bl (.val (.int .i64 (x.used:Int))) (.val (.int .u64 (x.total:Int)))) rfl rfl (by rw [hCx]; decide) (ZkP hx.sl hx.bl)) ?_;refine Qo (Z34 rfl rfl x.used rfl (by omega)) ?_;refine Qo (Z9g (kd:=.u8) (L:=X1Z x) (x:=6) (Eb:=136) (pre := []) (post := []) (o:=0) rfl rfl rfl rfl (by omega) (by omega)) ?_;have hs1:((X1Z x).set x.used 6).length=136:=by rw [Y11]; exact hl0
 have hs2:W8 ((X1Z x).set x.used 6):=hw0.set (by decide);refine gd 30 ⟨?_⟩;refine Qo (Z3C (kd:=.u8) (L:=(X1Z x).set x.used 6) (pre := []) (post := []) (o:=0) (j:=135) rfl rfl rfl (by omega)) ?_;refine Zh (v:=((g0 ((X1Z x).set x.used 6) 135 ^^^ 128:Nat):Int)) rfl rfl rfl (u8_xor_nat _ 128 (hs2.g _) (by decide)) ?_;(first|refine st ?_|(apply B<;>intro hb<;>try cases hb));refine Qo (Z9g (kd:=.u8) (L:=(X1Z x).set x.used 6) (x:=g0 ((X1Z x).set x.used 6) 135 ^^^ 128) (Eb:=136) (pre := []) (post := []) (o:=0) (j:=135) rfl rfl rfl rfl (by omega) (by omega)) ?_;rw [<- Z9l]
 iterate 1 (first|refine st ?_|(apply B<;>intro hb<;>try cases hb))
 refine Z5r hC (n':=4) [(2,.ptr 1 0 0),(3,.ptr 2 0 0),(4,.ptr 3 0 0)] [(0,hBx x),(1,⟨32,[Xh .u8 (List.replicate 32 0)]⟩),(2,⟨25,[Xh .u64 x.st ++ []]⟩),(3,⟨136,[Xh .u8 (X2U x.bl x.used) ++ []]⟩)] (by decide)
  ⟨⟨rfl,show 1<4 by decide⟩,⟨rfl,show 2<4 by decide⟩,⟨rfl,show 3<4 by decide⟩,Yt⟩ ⟨⟨by decide,rfl,Z5G _ _⟩,⟨by decide,by kernel_rfl,Ze (fun _ h=>h.elim) _ (show X3 [Xh .u8 (List.replicate 32 0)] from ⟨ZN _ _,Yt⟩)⟩,⟨by decide,rfl,X1k Yt⟩,⟨by decide,rfl,X1k Yt⟩,Yt⟩ ?_
 iterate 2 (first|refine st ?_|(apply B<;>intro hb<;>try cases hb))
 refine Qo (Zij rfl 0 136 rfl rfl (by decide) (by decide) (by decide)) ?_;refine Z1w rfl rfl (Zii x.st (X2U x.bl x.used) hx.sl hx.sw (ZgM hx) (ZgN hx) (hBx x) _ (Z3v x) (show X3 [Xh .u8 (List.replicate 32 0)] from ⟨ZN _ _,Yt⟩)) ?_;rintro n' r h' ⟨rfl,hr,rfl⟩;have hsl:=Z5F (bl:=X2U x.bl x.used) hx.sl;have hsw:=Zdk hx.sw (ZgN hx);have hfin:X3v x=X2V (X1K x.st (X2U x.bl x.used)) 32:=(ZgP _).symm;generalize X1K x.st (X2U x.bl x.used)=ws at hsl hsw hfin;have hz:X3 [Xh .u8 (List.replicate 32 0)]:=⟨ZN _ _,Yt⟩
 refine go ?_;refine ZA hC (fun i=>i<=32) (fun i=>32-i) 5 (fun i => [(2,.ptr 1 0 0),(3,.ptr 2 0 0),(5,.ptr 4 0 0),(35,Yv i)]) (fun i => [(0,hBx x),(1,⟨32,[Xh .u8 (List.replicate 32 0)]⟩),(2,⟨25,[Xh .u64 ws ++ []]⟩),(4,⟨32,[Xh .u8 (X2V ws i) ++ []]⟩)]) (by decide) 0 (Y0l _)
  ⟨⟨rfl,show 1<5 by decide⟩,⟨rfl,show 2<5 by decide⟩,⟨rfl,show 4<5 by decide⟩,⟨rfl,Yt⟩,Yt⟩ ⟨⟨by decide,rfl,Z5G _ _⟩,⟨by decide,rfl,Ze (fun _ h=>h.elim) _ hz⟩,⟨by decide,rfl,X1k Yt⟩,⟨by decide,by kernel_rfl,X1k Yt⟩,Yt⟩ ?_
 intro i hi;have hinc:IntKind.i64.wrap ((i:Int)+1)=((i+1:Nat):Int):=wi (i+1) (by omega);have hdl:=Z42 ws i;refine gd 36 ⟨?_⟩;by_cases hil:i<32
 . refine Qo (Qy rfl (by omega)) ?_;refine gd 40 ⟨?_⟩
   refine Zh (v:=((i / 8:Nat):Int)) rfl rfl rfl (by
    rw [show Int.tdiv (i:Int) 8=((i / 8:Nat):Int) from (Int.ofNat_tdiv i 8).symm]
    exact wi _ (by omega)) ?_
   refine Qo (Z34 rfl rfl (i / 8) rfl (by omega)) ?_;refine Qo (Z3C (kd:=.u64) (L:=ws) (pre := []) (post := []) (o:=0) rfl rfl rfl (by omega)) ?_;refine gd 44 ⟨?_⟩;refine Zh (v:=((i % 8:Nat):Int)) rfl rfl rfl (Y2H i 8).symm ?_;refine Zh (v:=((8*(i % 8):Nat):Int)) rfl rfl rfl (wi (8*(i % 8)) (by omega)) ?_;refine Z3k rfl rfl (by omega) (X5t (g0 ws (i / 8)) (8*(i % 8)) (by omega)) rfl ?_;refine Zh (v:=((X5D ws i:Nat):Int)) rfl rfl rfl (by rw [IntKind.wrap_u8]; rfl) ?_;refine Qo (Z34 rfl rfl i rfl (by omega)) ?_;refine Qo (Z9g (kd:=.u8) (L:=X2V ws i) (x:=X5D ws i) (Eb:=32) (pre := []) (post := []) (o:=0) rfl rfl rfl rfl (by omega) (by omega)) ?_;rw [Zez ws hil];refine go ?_;exact⟨i+1,by omega,by omega,⟨⟨rfl,show 1<5 by decide⟩,⟨rfl,show 2<5 by decide⟩,⟨rfl,show 4<5 by decide⟩,⟨by show some _=some _; rw [hinc],Yt⟩,Yt⟩,⟨⟨by decide,rfl,Z5G _ _⟩,⟨by decide,rfl,Ze (fun _ h=>h.elim) _ hz⟩,⟨by decide,rfl,X1k Yt⟩,⟨by decide,rfl,X1k Yt⟩,Yt⟩⟩
 . obtain rfl : i = 32 := by omega
   refine Qo (Qz rfl (by omega)) ?_;rw [<- hfin] at hdl;rw [<- hfin];have hcl:(Xh .u8 (X3v x)).length=32:=by rw [ZJ,hdl]
   generalize hcc:Xh .u8 (X3v x)=cc at hcl;have hcp:X6 cc:=hcc▸ZN _ _;refine gd 50 ⟨?_⟩;refine Qo (Z4o (l:=cc ++ []) (r:=cc) rfl rfl (by rw [Y0p,hcl]; decide) (by rw [Y0p,Y14,Yw (by rw [hcl]; exact Y0m _)])) ?_;refine Qo (Z41 (l:=Xh .u8 (List.replicate 32 0)) rfl rfl rfl hcl rfl) ?_;refine go ?_;refine⟨_,.agg cc,?_,.inl rfl,_,rfl,hcp,Z3v x,rfl,rfl⟩;exact Z28 (Z4o (l:=cc ++ []) (r:=cc) rfl rfl (by rw [Y0p,hcl]; decide) (by rw [Y0p,Y14,Yw (by rw [hcl]; exact Y0m _)]))
end
section
open Go.RowKit
end
section
open Go.RowKit
attribute [local irreducible] aw Xj dK
theorem Zc9:X7 Tryz.prog 210 [XC 0] (· = .vec [] true):=by
 refine Yp ok210 fun C hC=>?_;refine Zn ?_;refine Za ?_;refine Z5 rfl rfl rfl ?_;refine gd 9 ⟨?_⟩;refine Qe (Z3p 0 (by decide)) ⟨Z2 0,Yt⟩ ?_;refine go ?_;exact Z7 rfl Yt rfl
theorem ZeA (N:Nat) (h0:N≠0) (hN:N<256):X7 Tryz.prog 210 [XC N] (· = .vec (bys [N]) false):=by
 have h64:N<18446744073709551616:=by omega
 have hs:XC N=.agg [.vec [[.val (.int .u64 (N:Int))]] false]:=by unfold XC; rw [Z4W h64 h0]; rfl
 have hg:=Z3p N h64;rw [Ye h0] at hg;have hb:=ZfR (k:=8) hN;have hp:=Z6O h0;have ht:X5y N=(bl N:Int)-1:=by unfold X5y; rw [Y6 h0]
 have hq:IntKind.i64.wrap (Int.tdiv (X5y N) 8)=0:=by
  rw [ht];obtain⟨k,hk⟩:∃ k:Nat,(bl N:Int)-1=(k:Int)/\k<8:=⟨bl N-1,by omega,by omega⟩
  rw [hk.1];have:∀ k,k<8->IntKind.i64.wrap (Int.tdiv ((k:Nat):Int) 8)=0:=by decide
  exact this k hk.2
 refine Yp ok210 fun C hC=>?_;rw [hs];refine Zn ?_;refine Za ?_;refine Z5 rfl rfl rfl ?_;refine gd 9 ⟨?_⟩;rw [hs] at hg;refine Qe hg ⟨⟨⟨⟨Yt,Yt⟩,Yt⟩,Yt⟩,Yt⟩ ?_;refine gd 15 ⟨?_⟩;refine Zh rfl rfl rfl hq ?_;refine go ?_;refine Z17 1 ?_;unfold X2a;refine gd 34 ⟨?_⟩;refine Z3k rfl rfl (by decide) (Z3L N 0 (by decide)) rfl ?_
 refine Zh (v:=(N:Int)) rfl rfl rfl (by
  rw [Nat.pow_zero,Nat.div_one]
  exact Y3D _ ⟨by omega,by omega⟩) ?_
 refine gd 38 ⟨?_⟩;refine Zb (Zm (k:=5) (b:=⟨1,bys [N]⟩) rfl rfl (Zg [N])) ?_;refine go ?_;exact Z7 rfl (Zg [N]) rfl
def X6j (N:Nat):PV:=if N=0 then .vec [] true else .vec (bys [N]) false
theorem Zca (N:Nat) (hN:N<256):X7 Tryz.prog 210 [XC N] (· = X6j N):=by
 unfold X6j;by_cases h0:N=0
 . subst h0; rw [Y5 rfl]; exact Zc9
 . rw [Y6 h0]; exact ZeA N h0 hN
def X6E (kd:IntKind) (x:Nat):List PV := [.val (.int kd (x:Int))]
def X13 (kd:IntKind) (l:List Nat):List (List PV):=l.map (X6E kd)
theorem Z3w (kd:IntKind) (l:List Nat):X3 (X13 kd l):=Zc (enc:=X6E kd) (fun _=>⟨Yt,Yt⟩) l
theorem Z29 (kd:IntKind) (l:List Nat):(X13 kd l).length=l.length:=by simp [X13]
theorem Z8l (kd:IntKind) (l:List Nat) {j:Nat} (hj:j<l.length):(X13 kd l).getD j []=X6E kd (l.getD j 0):=by
 unfold X13;simp [Y0b,hj]
theorem ZkR {kd:IntKind} {e:Env} {h:X1} {n:Nat} {a:Operand} {k j:Nat} {L:List Nat} (ha:ev e a=some (.ptr k j 0)) (hb:h k=some ⟨1,X13 kd L⟩) (hj:j<L.length) :
 X4 (.load false 1 a) e h n=some (.val (.int kd ((L.getD j 0:Nat):Int)),h) :=
 Z2p ha hb (by rw [Z29]; exact hj) (by rw [Z8l kd L hj]; rfl)
theorem ZkS {kd:IntKind} {e:Env} {h:X1} {n:Nat} {a v:Operand} {k j x:Nat} {L:List Nat} (ha:ev e a=some (.ptr k j 0)) (hv:ev e v=some (.val (.int kd (x:Int)))) (hb:h k=some ⟨1,X13 kd L⟩) (hj:j<L.length) :
 X4 (.store 1 a v) e h n=some (pvu,h.upd k ⟨1,X13 kd (L.set j x)⟩):=by
 have:=Z1V (n:=n) (size:=1) ha hv hb rfl rfl (show j<(X13 kd L).length by rw [Z29]; exact hj) (Y0m 1);rw [this];have e1:(X13 kd L).set j (Xi ((X13 kd L).getD j []) 0 (PV.val (.int kd (x:Int))).cells)=X13 kd (L.set j x):=by
  rw [Z8l kd L hj];unfold X13;rw [Y4h]
  rfl
 simp only;rw [e1]
def X3n (l:List Nat) (i:Nat):List Nat:=(List.range l.length).map fun x=>if x<i \/ l.length-i<=x then l.getD (l.length-1-x) 0 else l.getD x 0
theorem Z2W (l:List Nat) (i:Nat):(X3n l i).length=l.length:=by simp [X3n]
theorem Z4l (l:List Nat) (i:Nat) {x:Nat} (hx:x<l.length):(X3n l i).getD x 0=if x<i \/ l.length-i<=x then l.getD (l.length-1-x) 0 else l.getD x 0:=by
 unfold X3n;simp [Y0b,hx]
theorem Z7g {l m:List Nat} (hl:l.length=m.length) (h:∀ x,x<l.length->l.getD x 0=m.getD x 0):l=m:=by
 refine Y4l hl fun i h1 h2=>?_;have:=h i h1;simpa [Y0b,h1,h2] using this
theorem ZgQ (l:List Nat):X3n l 0=l:=Z7g (Z2W l 0) fun x hx=>by
 rw [Z2W] at hx;rw [Z4l l 0 hx,Y6 (by omega)]
theorem Zin (l:List Nat) {i:Nat} (hi:l.length<=2*i+1):X3n l i=l.reverse:=Z7g (by rw [Z2W,List.length_reverse]) fun x hx=>by
 rw [Z2W] at hx;rw [Z4l l i hx];have hr:l.reverse.getD x 0=l.getD (l.length-1-x) 0:=by
  simp only [Y0b];rw [List.getElem?_reverse hx]
 rw [hr]
 split
 . rfl
 . rw [show x = l.length - 1 - x by omega];rw [show l.length-1-(l.length-1-x)=x by omega];rw [show l.length-1-x=x by omega]
theorem Zas (L:List Nat) (j x y:Nat):(L.set j x).getD y 0=if y=j/\j<L.length then x else L.getD y 0:=by
 simp only [Y0b,YV];by_cases h:j=y
 . subst h;by_cases hj:j<L.length
   . simp [hj]
   . simp [hj]
 . rw [Y6 h,Y6 (fun c=>h c.1.symm)]
theorem ZgR (l:List Nat) {i:Nat} (hi:2*i+1<l.length):((X3n l i).set i ((X3n l i).getD (l.length-1-i) 0)).set (l.length-1-i) ((X3n l i).getD i 0)=X3n l (i+1):=by
 refine Z7g (by simp [Z2W]) fun x hx=>?_;have hx:x<l.length:=by simpa [Z2W] using hx
 rw [Zas,Zas,Y11,Z2W,Z4l l (i+1) hx,Z4l l i hx,Z4l l i (show l.length-1-i<l.length by omega),Z4l l i (show i<l.length by omega)];by_cases h1:x=l.length-1-i
 . rw [Y5 ⟨h1, by omega⟩, Y6 (by omega), Y5 (by omega)];rw [h1,show l.length-1-(l.length-1-i)=i by omega]
 . rw [Y6 (fun c => h1 c.1)];by_cases h2:x=i
   . rw [Y5 ⟨h2,by omega⟩,Y6 (by omega),Y5 (by omega),h2]
   . rw [Y6 (fun c => h2 c.1)];by_cases h3:x<i \/ l.length-i<=x
     . rw [Y5 h3,Y5 (by omega)]
     . rw [Y6 h3,Y6 (by omega)]
theorem ZeB (l:List Nat) (hl:l.length<=1000000):X2x Tryz.prog 249 (fun i => [.own i]) ⟨1,X13 .u8 l⟩ fun r b'=>b'=⟨1,X13 .u8 l.reverse⟩:=by
 have hl1:=Z29 .u8 l;refine Z7b ok249 (Y0 rfl) fun C hC=>?_;refine gd 5 ⟨?_⟩;refine Zh (v:=(l.length:Int)) rfl rfl rfl (by rw [hl1]) ?_;refine Zh (v:=(l.length:Int)-1-((0:Nat):Int)) rfl rfl rfl (by rw [Int.natCast_zero,Int.sub_zero]; exact Y0v _ ⟨by omega,by omega⟩) ?_;refine go ?_;refine ZA hC (fun i=>2*i<=l.length+1) (fun i=>l.length+1-i) 1 (fun i => [(0,.own 0),(2,Yv i),(3,.val (.int .i64 ((l.length:Int)-1-(i:Int))))]) (fun i => [(0,⟨1,X13 .u8 (X3n l i)⟩)]) (by decide) 0 (by omega)
  ⟨⟨rfl,Y1B⟩,⟨rfl,Yt⟩,⟨rfl,Yt⟩,Yt⟩ ⟨⟨by decide,by rw [ZgQ]; rfl,Ze (fun _ h=>h.elim) _ (Z3w _ _)⟩,Yt⟩ ?_
 intro i hi;have hrl:=Z2W l i;have hinc:IntKind.i64.wrap ((i:Int)+1)=((i+1:Nat):Int):=Y0v _ ⟨by omega,by omega⟩;have hdec:IntKind.i64.wrap ((l.length:Int)-1-(i:Int)-1)=(l.length:Int)-1-((i+1:Nat):Int):=by
  rw [show (l.length:Int)-1-(i:Int)-1=(l.length:Int)-1-((i+1:Nat):Int) by omega];exact Y0v _ ⟨by omega,by omega⟩
 refine gd 9 ⟨?_⟩;by_cases hil:2*i+1<l.length
 . refine Qo (Qy rfl (by omega)) ?_;have hj:l.length-1-i<(X3n l i).length:=by omega
   have hi2:i<(X3n l i).length:=by omega
   refine gd 20 ⟨?_⟩;refine Qr (ZO rfl rfl rfl (l.length-1-i) (by omega) (by rw [Z29]; exact hj) rfl) ?_;refine Qr (ZkR (kd:=.u8) (L:=X3n l i) rfl rfl hj) ?_;refine gd 24 ⟨?_⟩;refine Qr (ZO rfl rfl rfl i rfl (by rw [Z29]; exact hi2) rfl) ?_;refine Qr (ZkR (kd:=.u8) (L:=X3n l i) rfl rfl hi2) ?_;refine Qr (ZO rfl rfl rfl i rfl (by rw [Z29]; exact hi2) rfl) ?_;refine Qr (ZkS (kd:=.u8) (L:=X3n l i) rfl rfl rfl hi2) ?_;refine Qr (ZO rfl rfl rfl (l.length-1-i) (by omega) (by rw [Z29,Y11]; exact hj) rfl) ?_;refine Qr (ZkS (kd:=.u8) rfl rfl rfl (by rw [Y11]; exact hj)) ?_;rw [ZgR l hil];refine go ?_;exact⟨i+1,by omega,by omega,⟨⟨rfl,Y1B⟩,⟨by show some _=some _; rw [hinc],Yt⟩,⟨by show some _=some _; rw [hdec],Yt⟩,Yt⟩,⟨⟨by decide,rfl,Ze (fun _ h=>h.elim) _ (Z3w _ _)⟩,Yt⟩⟩
 . refine Qo (Qz rfl (by omega)) ?_;refine go ?_;exact⟨_,_,rfl,.inl rfl,_,rfl,Yt,Z3w _ _,by rw [Zin l (by omega)]⟩
end
section
open Go.RowKit
def kid1 (q:List PV) (i:Nat):Bx:=⟨q.length+1,[.own i :: q]⟩
section
variable {P:Program} {C:Ctx} {Fr:Nat->Prop} {e:Env} {h:X1} {n:Nat} {F:XE} {φ:XF} {a:Act} {w:World}
theorem X2s.kid1 {φ':XF} {loc:Loc} {q:List PV} {i i':Nat} (h2:X2s F φ w loc (kid1 q i)) (hi:φ i=φ' i') (hq:X6 q):X2s F φ' w loc (Go.Proofs.YtbghddidoegjlaaGreatDoor.kid1 q i'):=by
 have h2:=h2.cellsB (show 0<q.length+1 by omega);refine .inl ⟨h2.esz,h2.pos,h2.len,h2.cap,h2.max,fun c hc=>?_,fun hc=>?_⟩
 . have hc : c ∈ [PV.own i' :: q] := hc;rw [Y0g] at hc;subst hc;rw [<- h2.esz]; rfl
 . obtain ⟨x, hx, hs, cells, t, hg, hsz, hrep⟩ := h2.room hc;refine⟨x,hx,hs,cells,t,hg,hsz,fun a b ha hb=>⟨(hrep a b ha hb).1,?_⟩⟩;have hr:=(hrep a b ha hb).2;have hl:loc.len=1:=by rw [<- h2.len]; rfl
   obtain rfl:a=0:=by omega
   match b,hr with
   | 0,hr=>exact Z7f hi hr
   | b+1,hr=>exact Rep.pure (p:=q.getD b pvu) hr (ZM hq b)
def X1j (P:Program) (f:FuncId) (pre post q:List PV) (b1:Bx) (R:PV->Bx->Prop):Prop :=
 X10 P f 2 (pre++.ptr 0 0 0 :: post) (XD [(0,kid1 q 1),(1,b1)]) fun n' r h'=>∃ j1 b1',j1≠0/\h' 0=some (kid1 q j1)/\h' j1=some b1'/\r.pure/\X3 b1'.elems/\R r b1'
theorem X1j.run {f:FuncId} {pre post q:List PV} {b1:Bx} {R:PV->Bx->Prop} (hs:X1j P f pre post q b1 R) (hpre:X6 pre) (hpost:X6 post) (hq:X6 q) (hp1:X3 b1.elems) {k i n:Nat} (hn:Fr n) (hk:h k=some (kid1 q i)) (hi:h i=some b1) (hik:i≠k)
 (s:St' C Fr e h F φ a w) {vs:Array Value} (hv:X1B F φ vs (pre++.ptr k 0 0 :: post)) :
 Calls P f vs w fun en w'=>∃ v r b1' F' φ',en=.returned v/\(r.pure/\X3 b1'.elems/\R r b1')/\Rep F' φ' v r/\St' C (fun x=>Fr x/\x≠n) e (((h.del i).upd k (kid1 q n)).upd n b1') F' φ' a w':=by
 obtain⟨lk,hlk,hbk,hhk⟩:=s.live k _ hk;obtain⟨li,hli,hbi,hhi⟩:=s.live i _ hi
 let φ1:XF:=fun x=>if x=0 then some lk else if x=1 then some li else none
 let C1:Ctx:=⟨w,fun g=>lk.has g \/ li.has g,F,C.nt,φ1⟩
 have hφn:φ n=none:=s.free n hn;have hnone:∀ {x:Nat} {bx:Bx},h x=some bx->x≠n:=by
  intro x bx hx;obtain⟨loc,h1,_⟩:=s.live x bx hx;exact fun e=>(by rw [e,hφn] at h1; cases h1)
 have hG:∀ g,C1.G g->C.w0.heap.size<=g \/ C.G g:=fun g hg=>hg.elim (fun h=>(hhk g h).1) fun h=>(hhi g h).1;have hth:∀ {loc:Loc} {b:Bx} {g:Nat},X2s F φ w loc b->loc.has g->∀ o:Obj,w.heap[g]?=some o->¬ o=.deferred (some []):=by
  rintro loc b g hb hg o ho rfl;rcases hb.there hg with⟨cells,t,hg⟩|⟨es,t,hg⟩
  . rw [hg] at ho; cases ho
  . rw [hg] at ho; cases ho
 have hcells:∀ g,C1.G g->∀ o:Obj,w.heap[g]?=some o->¬ o=.deferred (some []):=fun g hg=>hg.elim (hth hbk) (hth hbi);have h0:∀ {x:Nat} {b0:Bx},(XD [(0,kid1 q 1),(1,b1)]) x=some b0->(x=0/\b0=kid1 q 1) \/ (x=1/\b0=b1):=by
  intro x b0 hx;have:=Z1C hx;simp only [YA,Y2Q,Y2q,Y44] at this;exact this
 have s1:St' C1 (fun x=>2<=x) (fun _=>none) (XD [(0,kid1 q 1),(1,b1)]) F φ1 { a with defers := [] } w:=by
  refine { nt:=s.nt,glob:=s.glob,marks:=X1q.nil rfl,loc0:=fun i x hx=>hx,free:=fun i hi=>?_,env:=fun j p hp=>(by cases hp),froz:=s.froz,ext:=fun _ _ h=>h,old:=fun _ _ _=>rfl,os:=rfl,tape:=rfl,output:=rfl,size:=Y0m _,kept:=fun _ _ _=>rfl,live:=fun x b0 hx=>?_,sep:=fun x y bx bY lx ly g hx hy hlx hly hgx hgy=>?_ }
  . simp only [φ1]; rw [Y6 (by omega),Y6 (by omega)]
  . rcases h0 hx with ⟨rfl, rfl⟩ | ⟨rfl, rfl⟩
    . exact⟨lk,rfl,hbk.kid1 (by rw [hli]; rfl) hq,fun g hg=>⟨.inr (.inl hg),(hhk g hg).2⟩⟩
    . exact⟨li,rfl,hbi.names hp1,fun g hg=>⟨.inr (.inr hg),(hhi g hg).2⟩⟩
  . rcases h0 hx with ⟨rfl, rfl⟩ | ⟨rfl, rfl⟩ <;> rcases h0 hy with ⟨rfl, rfl⟩ | ⟨rfl, rfl⟩ <;> first | rfl | skip
    all_goals
     obtain rfl:=YP hlx;obtain rfl:=YP hly;exfalso
    . exact hik (s.sep k i _ _ _ _ g hk hi hlk hli hgx hgy).symm
    . exact hik (s.sep i k _ _ _ _ g hi hk hli hlk hgx hgy)
 have hv1:X1B F φ1 vs (pre++.ptr 0 0 0 :: post):=Z8k hpre hpost (fun v hr=>by
  obtain⟨loc',x,g1,gz,g2,g3,g4⟩:=hr.ptr_inv;obtain rfl:loc'=lk:=by rw [hlk] at g1; simpa using g1.symm
  rw [g4]
  exact .ptr 0 0 0 loc' x rfl gz g2 g3) hv
 refine (hs.2 C1 _ F φ1 { a with defers := [] } w vs s1 hv1).mono ?_;rintro en w' ⟨v,r,n',h',F',φ',rfl,⟨j1,b1',hj10,hh0,hh1,hrp,hp1',hR⟩,hvr,s'⟩;obtain⟨l0,m01,m02,m03⟩:=s'.live 0 _ hh0;obtain⟨l1,m11,m12,m13⟩:=s'.live j1 _ hh1;obtain rfl:l0=lk:=by
  have:=s'.loc0 0 lk rfl;rw [m01] at this; exact YP this
 let φ2:XF:=fun x=>if x=n then some l1 else φ x
 have hφ2:φ2 n=some l1:=by simp [φ2]
 have hφ3:∀ {x:Nat},x≠n->φ2 x=φ x:=fun {x} h1=>by simp only [φ2]; rw [Y6 h1]
 have hφ4:∀ x y,φ x=some y->φ2 x=some y:=fun x y hx=>by
  rw [hφ3 (fun e=>by rw [e,hφn] at hx; cases hx)]; exact hx
 have hkn:=hnone hk;have src:∀ {x:Nat} {bx:Bx},(((h.del i).upd k (kid1 q n)).upd n b1') x=some bx ->
  (x=n/\bx=b1') \/ (x=k/\bx=kid1 q n) \/ (x≠k/\x≠i/\h x=some bx):=by
  intro x bx hx;by_cases e2:x=n
  . subst e2; rw [X1.upd_same] at hx; exact .inl ⟨rfl,(YP hx).symm⟩
  rw [X1.upd_ne _ _ e2] at hx;by_cases e3:x=k
  . subst e3; rw [X1.upd_same] at hx; exact .inr (.inl ⟨rfl,(YP hx).symm⟩)
  rw [X1.upd_ne _ _ e3] at hx;obtain⟨e5,hx⟩:=X1.del_some hx;exact .inr (.inr ⟨e3,e5,hx⟩)
 have hold:∀ {x:Nat} {bx:Bx} {lx:Loc} {g:Nat},x≠k->x≠i->h x=some bx->φ x=some lx->lx.has g->¬ C1.G g:=by
  intro x bx lx g h1 h2 hx hlx hg hG;rcases hG with hg' | hg'
  . exact h1 (s.sep x k _ _ _ _ g hx hk hlx hlk hg hg')
  . exact h2 (s.sep x i _ _ _ _ g hx hi hlx hli hg hg')
 have hnew:∀ {lx:Loc} {g:Nat},(w.heap.size<=g \/ C1.G g)->C.w0.heap.size<=g \/ C.G g:=fun {lx g} h1=>h1.elim (fun h1=>.inl (Y03 s.size h1)) (hG g);refine⟨v,r,b1',F',φ2,rfl,⟨hrp,hp1',hR⟩,hvr.pure hrp,?_⟩
 refine { nt := s.nt, glob := s'.glob, marks := s.marks.mono (fun g hg => by rw [s'.kept g (Y8.1 hg).1 (fun hg' => hcells g hg' _ hg rfl)]; exact hg), loc0 := fun i x hx => hφ4 i x (s.loc0 i x hx), free := fun x hx => by rw [hφ3 hx.2]; exact s.free x hx.1, env := fun j p hp => ⟨(s.env j p hp).1, (s.env j p hp).2.mono s'.ext hφ4⟩, froz := s'.froz, ext := fun x v hx => s'.ext _ _ (s.ext x v hx),
          old:=fun x hx hg=>?_,os:=s'.os.trans s.os,tape:=s'.tape.trans s.tape,output:=s'.output.trans s.output,size:=Y03 s.size s'.size,kept:=fun g hk hg=>?_,live:=fun x bx hx=>?_,sep:=fun x y bx bY lx ly g hx hy hlx hly hgx hgy=>?_ }
 . have hx2 : x.block < w.heap.size := YH hx s.size;rw [s'.old x hx2 fun hg'=>(hG _ hg').elim (fun h1=>absurd hx (Y1S.2 h1)) hg];exact s.old x hx hg
 . rw [s'.kept g (YH hk s.size) fun hg' => (hG _ hg').elim (fun h1 => absurd hk (Y1S.2 h1)) hg];exact s.kept g hk hg
 . rcases src hx with ⟨rfl, rfl⟩ | ⟨rfl, rfl⟩ | ⟨h1, h2, hx⟩
   . exact⟨l1,hφ2,m12.names hp1',fun g hg=>⟨hnew (lx:=l1) (m13 g hg).1,(m13 g hg).2⟩⟩
   . exact⟨l0,hφ4 _ _ hlk,m02.kid1 (by rw [m11,hφ2]) hq,fun g hg=>⟨(hhk g hg).1,(m03 g hg).2⟩⟩
   . obtain ⟨lx, g1, g2, g3⟩ := s.live x bx hx;have hout:∀ g,lx.has g->¬ C1.G g:=fun g hg=>hold h1 h2 hx g1 hg;have hblk:∀ g,lx.has g->w'.heap[g]?=w.heap[g]?:=fun g hg=>s'.kept g (s.has_lt hx g1 hg) (hout g hg);have hne:=hnone hx;refine⟨lx,by rw [hφ3 hne]; exact g1,g2.mono s'.ext hφ4 hblk,fun g hg=>⟨(g3 g hg).1,fun z hz=>?_⟩⟩;rw [s'.old z (by rw [hz]; exact s.has_lt hx g1 hg) (by rw [hz]; exact hout g hg)];exact (g3 g hg).2 z hz
 . have cls : ∀ {x : Nat} {bx : Bx} {lx : Loc} {g : Nat}, (((h.del i).upd k (kid1 q n)).upd n b1') x = some bx -> φ2 x = some lx -> lx.has g ->
    (h x=some bx/\φ x=some lx/\g<w.heap.size/\¬ C1.G g) \/ ((w.heap.size<=g \/ C1.G g)/\∃ y b',h' y=some b'/\φ' y=some lx/\((x=n/\y=j1) \/ (x=k/\y=0))):=by
    intro x bx lx g hx hlx hg;rcases src hx with⟨rfl,rfl⟩|⟨rfl,rfl⟩|⟨h1,h2,hx⟩
    . rw [hφ2] at hlx; cases hlx;exact .inr ⟨(m13 g hg).1,j1,_,hh1,m11,.inl ⟨rfl,rfl⟩⟩
    . rw [hφ4 _ _ hlk] at hlx; cases hlx;exact .inr ⟨(m03 g hg).1,0,_,hh0,m01,.inr ⟨rfl,rfl⟩⟩
    . have hne := hnone hx;rw [hφ3 hne] at hlx;exact .inl ⟨hx,hlx,s.has_lt hx hlx hg,hold h1 h2 hx hlx hg⟩
   rcases cls hx hlx hgx with⟨a1,a2,a3,a4⟩|⟨a1,y1,c1,a2,a3,a4⟩<;>rcases cls hy hly hgy with⟨d1,d2,d3,d4⟩|⟨d1,y2,c2,d2,d3,d4⟩
   . exact s.sep x y bx bY lx ly g a1 d1 a2 d2 hgx hgy
   . rcases d1 with d1 | d1
     . omega
     . exact absurd d1 a4
   . rcases a1 with a1 | a1
     . omega
     . exact absurd a1 d4
   . have := s'.sep y1 y2 c1 c2 lx ly g a2 d2 a3 d3 hgx hgy;subst this;rcases a4 with⟨rfl,rfl⟩|⟨rfl,rfl⟩<;>rcases d4 with⟨rfl,e⟩|⟨rfl,e⟩<;>first|rfl|omega
theorem X1j.frame {f:FuncId} {pre post q:List PV} {b1:Bx} {R:PV->Bx->Prop} (hs:X1j P f pre post q b1 R) (hpre:X6 pre) (hpost:X6 post) (hq:X6 q) (hp1:X3 b1.elems) {k i n:Nat} (hk:h k=some (kid1 q i)) (hi:h i=some b1) (hik:i≠k) :
 X10 P f n (pre++.ptr k 0 0 :: post) h fun n' r h'=>∃ b1',n'=n+1/\h'=((h.del i).upd k (kid1 q n)).upd n b1'/\r.pure/\X3 b1'.elems/\R r b1':=by
 refine⟨hs.1,fun C e F φ a w vs s hv=>(hs.run hpre hpost hq hp1 (n:=n) (Y0m n) hk hi hik s hv).mono ?_⟩;rintro en w' ⟨v,r,b1',F',φ',rfl,⟨h1,h2,h3⟩,hr,s'⟩;exact⟨v,r,n+1,_,F',φ',rfl,⟨b1',rfl,rfl,h1,h2,h3⟩,hr,{ s' with free:=fun i hi=>s'.free i ⟨by omega,by omega⟩ }⟩
theorem Z14 {f:Operand} {args:List Operand} {g:FuncId} {caps as0 pre post q:List PV} {b1:Bx} {k i:Nat} {R:PV->Bx->Prop} {d:Option Nat} {os:List Xm} {n:Nat} {K:Nat->Env->X1->Prop} (hs:X1j P g pre post q b1 R) (hf:ev e f=some (.fn g caps)) (ha:evs e args=some as0) (hr:as0++caps=pre++.ptr k 0 0 :: post) (hk:h k=some (kid1 q i)) (hi:h i=some b1) (hik:i≠k) (hpre:X6 pre) (hpost:X6 post) (hq:X6 q) (hp1:X3 b1.elems)
 (hK:∀ r b1',r.pure->X3 b1'.elems->R r b1'->Xj P os (n+1) (Xu e d r) (((h.del i).upd k (kid1 q n)).upd n b1') K):Xj P (⟨d,.call f args,none⟩ :: os) n e h K:=by
 refine Z1w hf ha (R:=fun n' r h'=>∃ b1',n'=n+1/\h'=((h.del i).upd k (kid1 q n)).upd n b1'/\r.pure/\X3 b1'.elems/\R r b1') (by rw [hr]; exact hs.frame hpre hpost hq hp1 hk hi hik) ?_;rintro n' r h' ⟨b1',rfl,rfl,h1,h2,h3⟩;exact hK r b1' h1 h2 h3
theorem Z2X {f nt:Nat} {ac:X2} {rs:List X2k} (hf:X43 P f nt ac rs) {pre post q:List PV} {b1:Bx} {R:PV->Bx->Prop} (hn:(pre++.ptr 0 0 0 :: post).length<=nt)
 (hk:∀ C:Ctx,C.dom 2->aw P C ac (X5E rs fun n' r h'=>∃ j1 b1',j1≠0/\h' 0=some (kid1 q j1)/\h' j1=some b1'/\r.pure/\X3 b1'.elems/\R r b1') 2 (XS (pre++.ptr 0 0 0 :: post)) (XD [(0,kid1 q 1),(1,b1)])):X1j P f pre post q b1 R :=
 Z1O hf hn hk
theorem Z7x {ob i0 j0:Nat} {bo:Bx} (esz:Nat) (hp:0<esz) (hob:h ob=some bo) (hi0:i0<bo.elems.length) (hj0:j0<(bo.elems.getD i0 []).length) (hcell:(bo.elems.getD i0 []).getD j0 pvu=.vec [] true) (hz:0<bo.esz:=by exact Y0 rfl) :
 Sub C n e h (n+1) e ((h.upd n ⟨esz,[]⟩).upd ob ⟨bo.esz,bo.elems.set i0 ((bo.elems.getD i0 []).set j0 (.own n))⟩):=by
 rintro a w ⟨F,φ,s⟩;obtain⟨lo,o1,o2,o3⟩:=s.live ob bo hob;have o2:=o2.cellsB hz;have hcl:(bo.elems.getD i0 []).length=lo.esz:=o2.el _ (by simp [Y0b,hi0]);have hc0o:lo.cap≠0:=by have:=o2.cap; have:=o2.len; omega
 obtain⟨ado,hbaseo,hso,cellso,cto,hgo,hroomo,hrepo⟩:=o2.room hc0o;have hr0:=(hrepo i0 j0 (by rw [<- o2.len]; exact hi0) (by rw [<- hcl]; exact hj0)).2;rw [hcell] at hr0;have hbase:∃ base,cellso.getD (ado.off+(i0*lo.esz+j0)) undef=.slice base 0 0:=by
  rcases hr0.vec_inv with⟨_,h⟩|⟨x,cap,esz',cs,h,_,_,hf,_⟩
  . exact⟨none,h⟩
  . exact⟨some x,by rw [h,hf rfl]; rfl⟩
 obtain⟨base,hb⟩:=hbase;have hno:ob≠n:=fun e1=>by
  have:=s.free n (Y0m n);rw [<- e1,o1] at this; cases this
 have hfr:∀ i,n+1<=i->n<=i/\i≠n:=fun i hi=>⟨by omega,by omega⟩
 have s1:=(s.allocNil (Y0m n) base esz hp).weaken hfr;have hext:=Z1B (s.free n (Y0m n)) ⟨base,esz,0,0⟩;have o1':=hext _ _ o1;have hdel:(h.upd n ⟨esz,[]⟩) ob=some bo:=by rw [X1.upd_ne _ _ hno]; exact hob
 have fin:∀ {φ':XF},(∀ x v,φ x=some v->φ' x=some v)->φ' ob=some lo->St' C (fun i=>n+1<=i) e (h.upd n ⟨esz,[]⟩) F φ' a w->Rep F φ' (cellso.getD (ado.off+(i0*lo.esz+j0)) undef) (.own n) ->
  St C (fun i=>n+1<=i) e ((h.upd n ⟨esz,[]⟩).upd ob ⟨bo.esz,bo.elems.set i0 ((bo.elems.getD i0 []).set j0 (.own n))⟩) a w:=by
  intro φ' hx ho' s2 hrep;refine⟨F,φ',{ s2 with live:=fun i bi hi=>?_,sep:=fun i j bi bj li lj k hi hj hli hlj hki hkj=>?_ }⟩
  . by_cases hio : i = ob
    . subst hio;rw [X1.upd_same] at hi;cases hi;obtain⟨l2,g1,g2,g3⟩:=s2.live i bo hdel;obtain rfl:l2=lo:=by rw [g1] at ho'; simpa using ho'
      refine⟨l2,g1,.inl ⟨o2.esz,o2.pos,by simpa using o2.len,o2.cap,o2.max,fun c hc=>?_,fun _=>⟨ado,hbaseo,hso,cellso,cto,hgo,hroomo,fun i' j' hi' hj'=>?_⟩⟩,g3⟩
      . rcases Y1P hc with h | h
        . exact o2.el c h
        . rw [h,Y11]; exact hcl
      . refine ⟨(hrepo i' j' hi' hj').1, ?_⟩;by_cases hii:i'=i0
        . subst hii;have e1:(bo.elems.set i' ((bo.elems.getD i' []).set j0 (.own n))).getD i' []=(bo.elems.getD i' []).set j0 (.own n):=by
           rw [Y0b,YV]; simp [hi0]
          rw [e1];by_cases hjj:j'=j0
          . subst hjj;have e2:((bo.elems.getD i' []).set j' (.own n)).getD j' pvu=.own n:=by
             rw [Y0b,YV,Y5 rfl,Y5 hj0]; rfl
            rw [e2];exact hrep
          . have e2 : ((bo.elems.getD i' []).set j0 (.own n)).getD j' pvu = (bo.elems.getD i' []).getD j' pvu := by
             rw [Y0b,YV,Y6 (Y23 hjj),<- Y0b]
            rw [e2];exact (hrepo i' j' hi' hj').2.mono (fun _ _ h=>h) hx
        . have e1 : (bo.elems.set i0 ((bo.elems.getD i0 []).set j0 (.own n))).getD i' [] = bo.elems.getD i' [] := by
           rw [Y0b,YV,Y6 (Y23 hii),<- Y0b]
          rw [e1];exact (hrepo i' j' hi' hj').2.mono (fun _ _ h=>h) hx
    . rw [X1.upd_ne _ _ hio] at hi;exact s2.live i bi hi
  . have conv : ∀ {i : Nat} {bi : Bx}, ((h.upd n ⟨esz, []⟩).upd ob ⟨bo.esz, bo.elems.set i0 ((bo.elems.getD i0 []).set j0 (.own n))⟩) i = some bi -> ∃ b0, (h.upd n ⟨esz, []⟩) i = some b0 := by
     intro i bi hi;by_cases hio:i=ob
     . subst hio; exact⟨bo,hdel⟩
     . rw [X1.upd_ne _ _ hio] at hi; exact⟨bi,hi⟩
    obtain⟨b1,g1⟩:=conv hi
    obtain⟨b2,g2⟩:=conv hj
    exact s2.sep i j b1 b2 li lj k g1 g2 hli hlj hki hkj
 refine fin hext o1' s1 ?_;rw [hb];exact .own n ⟨base,esz,0,0⟩ (by simp [Xk]) hp
theorem Z2M {ob i0 j0:Nat} {bo:Bx} (esz:Nat) (hp:0<esz) (hob:h ob=some bo) (hi0:i0<bo.elems.length) (hj0:j0<(bo.elems.getD i0 []).length) (hcell:(bo.elems.getD i0 []).getD j0 pvu=.vec [] true) (hz:0<bo.esz:=by exact Y0 rfl) :
 X4g n e h (n+1) e ((h.upd n ⟨esz,[]⟩).upd ob ⟨bo.esz,bo.elems.set i0 ((bo.elems.getD i0 []).set j0 (.own n))⟩):=fun _=>Z7x esz hp hob hi0 hj0 hcell hz
end
end
section
open Go.RowKit
attribute [local irreducible] aw Xj dK
def gR:Nat->Nat->List Nat
 | 0,_ => []
 | f+1,v=>if v=0 then [] else ((v &&& 127) ||| 128) :: gR f (v / 128)
def grp (v:Nat):List Nat:=((v &&& 127) :: gR v (v / 128)).reverse
theorem Zcb:∀ (f f' v:Nat),v<=f->v<=f'->gR f v=gR f' v
 | 0,0,_,_,_=>rfl
 | 0, f' + 1, v, h, _ => by
   obtain rfl:v=0:=by omega
   rfl
 | f + 1, 0, v, _, h => by
   obtain rfl:v=0:=by omega
   rfl
 | f + 1, f' + 1, v, h, h' => by
   show (if v=0 then [] else _)=(if v=0 then [] else _)
   split
   . rfl
   . rw [Zcb f f' (v / 128) (by omega) (by omega)]
theorem ZjQ (f:Nat):gR f 0 = []:=by cases f<;>rfl
theorem ZjR {v:Nat} (h:v≠0):gR v v=((v &&& 127) ||| 128) :: gR (v / 128) (v / 128):=by
 obtain⟨f,rfl⟩:∃ f,v=f+1:=⟨v-1,by omega⟩
 show (if f+1=0 then [] else ((f+1 &&& 127) ||| 128) :: gR f ((f+1) / 128))=_;rw [Y6 (by omega),Zcb f ((f+1) / 128) ((f+1) / 128) (by omega) (Y0m _)]
theorem ZiX:∀ (f v:Nat),(gR f v).length<=v
 | 0,v=>Y0l _
 | f + 1, v => by
   show (if v=0 then [] else ((v &&& 127) ||| 128) :: gR f (v / 128)).length<=v
   split
   . exact Y0l _
   . have := ZiX f (v / 128);rw [Y04];omega
theorem Z1J (v:Nat):(grp v).length<=v+1:=by
 unfold grp;rw [List.length_reverse,Y04];have:=ZiX v (v / 128);omega
theorem Zlr:∀ (f v:Nat),W8 (gR f v)
 | 0,_=>fun _ hx=>by cases hx
 | f + 1, v => fun x hx => by
   change x∈(if v=0 then [] else ((v &&& 127) ||| 128) :: gR f (v / 128)) at hx
   split at hx
   . cases hx
   . rcases YA.1 hx with rfl | hx
     . exact Y2j (n:=8) (Y02 Y27 (by decide)) (by decide)
     . exact Zlr f _ x hx
theorem Zat (v:Nat):W8 (grp v):=fun x hx=>by
 rcases YA.1 (List.mem_reverse.1 hx) with rfl|hx
 . exact Y02 Y27 (by decide)
 . exact Zlr _ _ x hx
theorem Z9m (l m:List Nat):bys (l++m)=bys l++bys m:=by unfold bys; rw [Y0r]
theorem Z7h (l:List Nat):(bys l).length=l.length:=by simp [bys]
theorem ZgS (l:List Nat):∀ c∈bys l,c.length=1:=fun c hc=>by obtain⟨y,_,rfl⟩:=Y0i.1 hc; rfl
theorem Zio (v:Nat) (hv:v<1000000):X7 Tryz.prog 216 [.val (.int .u64 (v:Int))] (· = .vec (bys (grp v)) false):=by
 refine Yp ok216 fun C hC=>?_;have hshr:∀ x:Nat,Int.fdiv (x:Int) (2 ^ (min ((7:Nat):Int).toNat IntKind.u64.bits))=((x / 128:Nat):Int):=fun x=>X5t x 7 (by decide);have hand:∀ x:Nat,x<1000000->bits .and .u64 (x:Int) ((127:Nat):Int)=((x &&& 127:Nat):Int):=fun x hx=>Y26 x 127 (by omega) (by decide);have hu8:∀ x:Nat,IntKind.u8.wrap ((x &&& 127:Nat):Int)=((x &&& 127:Nat):Int):=fun x=>by
  have:x &&& 127<=127:=Y27;exact Y3D _ ⟨by omega,by omega⟩
 refine gd 5 ⟨?_⟩;refine Zh (v:=((v &&& 127:Nat):Int)) rfl rfl rfl (hand v hv) ?_;refine Zh (v:=((v &&& 127:Nat):Int)) rfl rfl rfl (hu8 v) ?_;refine Z4v rfl rfl rfl ?_;refine gd 9 ⟨?_⟩;refine Z3k rfl rfl (by decide) (hshr v) rfl ?_;refine go ?_;refine ZB hC (fun x:List Nat×Nat=>x.2<1000000/\x.1.length+x.2<=v+1/\x.1++gR x.2 x.2=(v &&& 127) :: gR v (v / 128)) (fun x=>x.2) 1 (fun x => [(0,.val (.int .u64 (x.2:Int))),(3,.own 0)]) (fun x => [(0,⟨1,bys x.1⟩)]) (by decide) ([v &&& 127],v / 128) ⟨by show v / 128<_; omega,by show 1+v / 128<=_; omega,by show _ :: gR (v / 128) (v / 128)=_; rw [Zcb (v / 128) v (v / 128) (Y0m _) (by omega)]⟩
  (fun i=>i) (fun _ _=>rfl) (Zw rfl) ⟨Qp Yt,⟨_,rfl,.own 0 (by decide)⟩,Yt⟩ ⟨⟨by decide,⟨1,bys [v &&& 127]⟩,rfl,.same _ (Zg _)⟩,Yt⟩ ?_
 rintro⟨acc,y⟩ ⟨hy,hyl,hyt⟩;dsimp only at hy hyl hyt;refine gd 11 ⟨?_⟩;by_cases h0:y=0
 . refine Qo (Qz rfl (by show ¬ ((y : Int) > 0); omega)) ?_;rw [h0,ZjQ,Y0p] at hyt;refine gd 22 ⟨?_⟩;refine ZkI 0 (ZeB acc (by omega)) (Z9f Z2o Zgs) rfl rfl rfl rfl (Zg _) ?_;rintro r b' hr1 hr2 rfl;refine gd 23 ⟨?_⟩;refine Zb (Zm (k:=3) (b:=⟨1,X13 .u8 acc.reverse⟩) rfl rfl (Z3w _ _)) ?_;refine go ?_;exact Z7 rfl (Zg _) (by show PV.vec (bys acc.reverse) false=_; rw [hyt]; rfl)
 . refine Qo (Qy rfl (by show ((y : Int) > 0); omega)) ?_;rw [ZjR h0] at hyt;refine gd 16 ⟨?_⟩;refine Zh (v:=((y &&& 127:Nat):Int)) rfl rfl rfl (hand y hy) ?_;refine Zh (v:=((y &&& 127:Nat):Int)) rfl rfl rfl (hu8 y) ?_;refine Zh (v:=(((y &&& 127) ||| 128:Nat):Int)) rfl rfl rfl (u8_or_nat (y &&& 127) 128 (Y02 Y27 (by decide)) (by decide)) ?_;(first|refine st ?_|(apply B<;>intro hb<;>try cases hb))
   refine ZG (Zu (k:=0) (m:=bys [(y &&& 127) ||| 128]) (fl:=true) rfl rfl rfl (ZgS _) rfl (by
    show ((bys acc).length+1)*1<=_
    rw [Z7h];omega)) rfl rfl ?_
   refine gd 13 ⟨?_⟩;refine Z3k rfl rfl (by decide) (hshr y) rfl ?_;refine go ?_;refine⟨(acc ++ [(y &&& 127) ||| 128],y / 128),mv 0 1,⟨by show y / 128<_; omega,by show (acc ++ [_]).length+y / 128<=_; rw [Y0e,Y0s]; omega,by show (acc ++ [_])++gR (y / 128) (y / 128)=_; rw [YR]; exact hyt⟩,by show y / 128<y; omega,Z4U (by decide),Zw rfl,⟨Qp Yt,⟨_,rfl,.own 0 (by decide)⟩,Yt⟩,⟨⟨by decide,_,rfl,by rw [Z9m]; exact .same _ (by rw [<- Z9m]; exact Zg _)⟩,Yt⟩⟩
abbrev wBx (l:List Nat):Bx:=⟨1,bys l⟩
theorem Zip (l p:List Nat) (fl:Bool) (hb:l.length+p.length<=1000000):X1j Tryz.prog 215 [] [.vec (bys p) fl] [] (wBx l) (fun _ b'=>b'=wBx (l++p)):=by
 refine Z2X ok215 (Y0 rfl) fun C hC=>?_;refine gd 12 ⟨?_⟩
 refine ZG (Zu (k:=1) (m:=bys p) (fl:=fl) (b:=wBx l) rfl rfl rfl (ZgS _) rfl (by
  show ((bys l).length+(bys p).length)*1<=_
  rw [Z7h,Z7h];omega)) rfl rfl ?_
 iterate 2 (first|refine st ?_|(apply B<;>intro hb<;>try cases hb))
 refine Qo (Z1V (size:=1) (k:=0) (i:=0) (off:=0) (b:=kid1 [] 1) (p:=.own 2) rfl rfl rfl rfl rfl (by decide) (by decide)) ?_;refine go ?_;exact⟨_,_,rfl,.inl rfl,2,_,by decide,rfl,rfl,Yt,by show X3 (bys l++bys p); rw [<- Z9m]; exact Zg _,by show (⟨1,bys l++bys p⟩:Bx)=_; rw [<- Z9m]⟩
theorem Z5U (l:List Nat) (v:Nat) (hv:v<1000000) (hb:l.length+v<1000000):X1j Tryz.prog 165 [] [.val (.int .u64 (v:Int))] [] (wBx l) (fun _ b'=>b'=wBx (l++grp v)):=by
 refine Z2X ok165 (Y0 rfl) fun C hC=>?_;have hgl:=Z1J v;refine gd 6 ⟨?_⟩;refine Qe (Zio v hv) ⟨Yt,Yt⟩ ?_;refine Z14 (k:=0) (i:=1) (Zip l (grp v) false (by omega)) rfl rfl rfl rfl rfl (by decide) Yt ⟨Zg _,Yt⟩ Yt (Zg _) ?_;rintro r b' hr1 hr2 rfl;refine go ?_;exact⟨_,_,rfl,.inl rfl,2,_,by decide,rfl,rfl,Yt,Zg _,rfl⟩
def wB (p:List Nat):List Nat:=grp p.length++p
theorem Z6m (l p:List Nat) (fl:Bool) (hb:l.length+2*p.length<900000):X1j Tryz.prog 166 [] [.vec (bys p) fl] [] (wBx l) (fun _ b'=>b'=wBx (l++wB p)):=by
 refine Z2X ok166 (Y0 rfl) fun C hC=>?_;have hgl:=Z1J p.length;refine gd 7 ⟨?_⟩;refine Zh (v:=(p.length:Int)) rfl rfl rfl (by rw [Z7h]; exact Y0x _ ⟨by omega,by omega⟩) ?_;refine Z14 (k:=0) (i:=1) (Z5U l p.length (by omega) (by omega)) rfl rfl rfl rfl rfl (by decide) Yt ⟨Yt,Yt⟩ Yt (Zg _) ?_;rintro r b' hr1 hr2 rfl;refine gd 11 ⟨?_⟩;refine Z14 (k:=0) (i:=2) (Zip (l++grp p.length) p fl (by rw [Y0e];omega)) rfl rfl rfl rfl rfl (by decide) Yt ⟨Zg _,Yt⟩ Yt (Zg _) ?_;rintro r b' hr1 hr2 rfl;refine go ?_;exact⟨_,_,rfl,.inl rfl,3,_,by decide,rfl,rfl,Yt,Zg _,by rw [YR]; rfl⟩
theorem ZkT (l:List Nat) (b:Bool) (hb:l.length<900000):X1j Tryz.prog 169 [] [.val (.bool b)] [] (wBx l) (fun _ b'=>b'=wBx (l ++ [cond b 1 0])):=by
 refine Z2X ok169 (Y0 rfl) fun C hC=>?_;cases b with
 | true =>
   refine gd 7 ⟨?_⟩;refine Z14 (k:=0) (i:=1) (Zip l [1] true (by show l.length+1<=_;omega)) rfl rfl rfl rfl rfl (by decide) Yt ⟨Zg _,Yt⟩ Yt (Zg _) ?_;rintro r b' hr1 hr2 rfl;refine go ?_;exact⟨_,_,rfl,.inl rfl,2,_,by decide,rfl,rfl,Yt,Zg _,rfl⟩
 | false =>
   refine gd 10 ⟨?_⟩;refine Z14 (k:=0) (i:=1) (Zip l [0] true (by show l.length+1<=_;omega)) rfl rfl rfl rfl rfl (by decide) Yt ⟨Zg _,Yt⟩ Yt (Zg _) ?_;rintro r b' hr1 hr2 rfl;refine go ?_;exact⟨_,_,rfl,.inl rfl,2,_,by decide,rfl,rfl,Yt,Zg _,rfl⟩
def sB (N:Nat):List Nat:=if N=0 then [] else [N]
theorem ZjS (N:Nat):X6j N=.vec (bys (sB N)) (decide (N=0)):=by
 unfold X6j sB;by_cases h:N=0
 . subst h; rfl
 . rw [Y6 h,Y6 h,Y0w h]
theorem Z8m (N:Nat):(sB N).length<=1:=by
 unfold sB
 split<;>simp
theorem ZjT (l:List Nat) (N:Nat) (hN:N<256) (hb:l.length<800000):X1j Tryz.prog 168 [] [XC N] [] (wBx l) (fun _ b'=>b'=wBx (l++wB (sB N))):=by
 refine Z2X ok168 (Y0 rfl) fun C hC=>?_;have hsl:=Z8m N;refine gd 6 ⟨?_⟩;refine Qe (Zca N hN) ⟨Z2 N,Yt⟩ ?_;rw [ZjS];refine Z14 (k:=0) (i:=1) (Z6m l (sB N) (decide (N=0)) (by omega)) rfl rfl rfl rfl rfl (by decide) Yt ⟨Zg _,Yt⟩ Yt (Zg _) ?_;rintro r b' hr1 hr2 rfl;refine go ?_;exact⟨_,_,rfl,.inl rfl,_,_,by decide,rfl,rfl,Yt,Zg _,rfl⟩
def cB (c:Cu):List Nat:=wB (sB c.1)++wB (sB c.2)
theorem Z5j (p:List Nat):(wB p).length<=2*p.length+1:=by
 unfold wB;rw [Y0e];have:=Z1J p.length;omega
theorem ZgT (c:Cu):(cB c).length<=6:=by
 unfold cB;rw [Y0e];have h1:=Z5j (sB c.1);have h2:=Z5j (sB c.2);have h3:=Z8m c.1;have h4:=Z8m c.2;omega
theorem ZkU (l:List Nat) (c:Cu) (hc:c.1<256/\c.2<256) (hb:l.length<700000):X1j Tryz.prog 170 [] [cuP c] [] (wBx l) (fun _ b'=>b'=wBx (l++cB c)):=by
 refine Z2X ok170 (Y0 rfl) fun C hC=>?_;have h1:=Z5j (sB c.1);have h3:=Z8m c.1;refine gd 7 ⟨?_⟩;refine Z14 (k:=0) (i:=1) (ZjT l c.1 hc.1 (by omega)) rfl rfl rfl rfl rfl (by decide) Yt ⟨Z2 _,Yt⟩ Yt (Zg _) ?_;rintro r b' hr1 hr2 rfl;refine gd 11 ⟨?_⟩;refine Z14 (k:=0) (i:=3) (ZjT (l++wB (sB c.1)) c.2 hc.2 (by rw [Y0e];omega)) rfl rfl rfl rfl rfl (by decide) Yt ⟨Z2 _,Yt⟩ Yt (Zg _) ?_;rintro r b' hr1 hr2 rfl;refine go ?_;exact⟨_,_,rfl,.inl rfl,4,_,by decide,rfl,rfl,Yt,Zg _,by rw [YR]; rfl⟩
def lB (cs:List Cu):List Nat:=grp cs.length++cs.flatMap cB
theorem Zau (cs:List Cu):(cs.flatMap cB).length<=6*cs.length:=by
 induction cs with
 | nil=>exact Y0m _
 | cons c cs ih =>
   rw [Y1N,Y0e,Y04];have:=ZgT c;omega
theorem ZiY (cs:List Cu):(lB cs).length<=7*cs.length+1:=by
 unfold lB;rw [Y0e];have:=Zau cs;have:=Z1J cs.length;omega
theorem ZeC (cs:List Cu) {i:Nat} (hi:i<cs.length):(cs.take (i+1)).flatMap cB=(cs.take i).flatMap cB++cB cs[i]:=by
 rw [Y2Y hi,Y1E,Y3K]
theorem ZiZ (l:List Nat) (cs:List Cu) (fl:Bool) (hcs:∀ c∈cs,c.1<256/\c.2<256) (hb:l.length+10*cs.length<600000):X1j Tryz.prog 171 [] [.vec (cs.map cuC) fl] [] (wBx l) (fun _ b'=>b'=wBx (l++lB cs)):=by
 refine Z2X ok171 (Y0 rfl) fun C hC=>?_;have hgl:=Z1J cs.length;have hml:(cs.map cuC).length=cs.length:=Y0f ..;have hpi:∀ D,Xq D (cs.map cuC):=fun D=>Ze (fun _ h=>h.elim) _ (Zc Zi cs);refine gd 9 ⟨?_⟩;refine Zh (v:=(cs.length:Int)) rfl rfl rfl (by rw [hml]; exact Y0x _ ⟨by omega,by omega⟩) ?_;refine Z14 (k:=0) (i:=1) (Z5U l cs.length (by omega) (by omega)) rfl rfl rfl rfl rfl (by decide) Yt ⟨Yt,Yt⟩ Yt (Zg _) ?_;rintro r b' hr1 hr2 rfl;refine go ?_;refine ZB hC (fun i=>i<=cs.length) (fun i=>cs.length-i) 3 (fun i => [(0,.ptr 0 0 0),(1,.vec (cs.map cuC) fl),(11,.vec (cs.map cuC) fl),(12,.val (.int .i64 (cs.length:Int))),(13,Yv i)]) (fun i => [(0,kid1 [] 2),(2,wBx (l++grp cs.length++(cs.take i).flatMap cB))]) (by decide) 0 (Y0l _)
  (fun i=>i) (fun _ _=>rfl) (Zw rfl) ⟨Qt 0 0 0,Qp (Zc Zi cs),Qp (Zc Zi cs),⟨_,by rw [<- hml]; rfl,.pure _ Yt⟩,Qp Yt,Yt⟩
  ⟨⟨by decide,_,rfl,Xr.single ⟨.own 2 (by decide),Yt⟩ rfl⟩,⟨by decide,wBx (l++grp cs.length++(cs.take 0).flatMap cB),by rw [Y1y,Y3H,Y0p]; rfl,.same _ (Zg _)⟩,Yt⟩ ?_
 intro i hi;have hfl:=Zau (cs.take i);rw [Y0o,Y1C hi] at hfl;have hinc:IntKind.i64.wrap ((i:Int)+1)=((i+1:Nat):Int):=wi (i+1) (by omega);refine gd 14 ⟨?_⟩;by_cases hil:i<cs.length
 . refine Qo (Qy rfl (by omega)) ?_;have hci:=hcs cs[i] (Y0j hil);have hft:=ZeC cs hil;refine gd 15 ⟨?_⟩;refine Qo (Zq (xs:=cs) (g:=cuC) rfl rfl i rfl hil rfl) ?_;generalize cs[i]=c at hci hft;refine gd 19 ⟨?_⟩;refine Z14 (k:=0) (i:=2) (ZkU (l++grp cs.length++(cs.take i).flatMap cB) c hci (by rw [Y0e,Y0e];omega)) rfl rfl rfl rfl rfl (by decide) Yt ⟨Zy _,Yt⟩ Yt (Zg _) ?_;rintro r b' hr1 hr2 rfl;refine go ?_;exact⟨i+1,mv 2 4,by omega,by omega,Z4U (by decide),Zw rfl,⟨Qt 0 0 0,Qp (Zc Zi cs),Qp (Zc Zi cs),Qp Yt,⟨_,by show some _=some _; rw [hinc],.pure _ Yt⟩,Yt⟩,⟨⟨by decide,_,rfl,Xr.single ⟨.own 2 (by decide),Yt⟩ rfl⟩,⟨by decide,_,rfl,by rw [hft,<- YR]; exact .same _ (Zg _)⟩,Yt⟩⟩
 . obtain rfl : i = cs.length := by omega
   refine Qo (Qz rfl (by omega)) ?_;rw [Y0q];refine go ?_;exact⟨_,_,rfl,.inl rfl,2,_,by decide,rfl,rfl,Yt,Zg _,by rw [YR]; rfl⟩
def dig (p:List Nat):List Nat:=X3v (HS.puts (p.length+1) ⟨List.replicate 25 0,List.replicate 136 0,0,0+p.length⟩ p)
theorem Z5H (p:List Nat):(dig p).length=32:=by simp [dig,X3v]
theorem ZgU (p:List Nat) (fl:Bool) (hp:W8 p) (hb:p.length<1000000):X7 Tryz.prog 218 [.vec (bys p) fl] (· = .agg (Xh .u8 (dig p))):=by
 refine Yp ok218 fun C hC=>?_;have hz:=ZgI (0+p.length);have hpok:=ZgA (p.length+1) (HS.zero (0+p.length)) p hz hp;refine gd 4 ⟨?_⟩;refine Z2v (Zc8) (Z7a 0 0) (Z3v _) rfl rfl Yt ?_;refine gd 7 ⟨?_⟩;refine ZS (id:=1) (ZjO (HS.zero 0) (ZgI 0) p fl hp (by show 0+p.length<_;omega)) rfl rfl rfl rfl (Z3v _) ⟨Zg _,Yt⟩ ?_;rintro r b' hr1 hr2 rfl;refine gd 9 ⟨?_⟩;refine ZS (id:=1) (Zll _ hpok) rfl rfl rfl rfl (Z3v _) Yt ?_;rintro r b' hr1 hr2 ⟨rfl,rfl⟩;have hcl:(Xh .u8 (X3v (HS.puts (p.length+1) (HS.zero (0+p.length)) p))).length=32:=by rw [ZJ]; exact Z5H p
 refine Qo (Z41 (l:=Xh .u8 (List.replicate 32 0)) rfl rfl rfl hcl rfl) ?_;refine go ?_;refine Z7 (Z28 (Z4o (l:=Xh .u8 (dig p) ++ []) (r:=Xh .u8 (dig p)) rfl rfl ?_ ?_)) (ZN _ _) rfl
 . rw [Y0p,ZJ,Z5H]; decide
 . rw [Y0p,Y14,Yw (by rw [ZJ,Z5H]; exact Y0m _)]
theorem Z9n:X1l Tryz.prog 164 [] (fun i=>.ptr i 0 0) ⟨1,[[.vec [] true]]⟩:=by
 refine Z1b ok164 (Y0 rfl) fun C hC=>?_;refine go ?_;exact⟨_,_,rfl,.inl rfl,_,rfl,rfl⟩
theorem Zcc (x:Nat) (l:List Nat) (fl:Bool) (hb:l.length<1000000):X7 Tryz.prog 219 [.vec (bys (x :: l)) fl] (· = .vec (bys (x :: l)) false):=by
 refine Yp ok219 fun C hC=>?_;refine gd 7 ⟨?_⟩
 refine Z5 (Z9G (l := []) (m:=bys (x :: l)) (fl:=fl) rfl rfl (fun c hc=>by cases hc) (ZgS _) (by
  show (0+(bys (x :: l)).length)*1<=_
  rw [Z7h,Y04];omega)) rfl rfl ?_
 refine go ?_;exact Z7 rfl (Zg _) rfl
theorem ZjU (x:Nat) (l:List Nat) (fl:Bool) (hb:l.length<1000000):X2d Tryz.prog 173 ⟨1,[[.vec (bys (x :: l)) fl]]⟩ [] (fun r b'=>r=.vec (bys (x :: l)) false/\b'=⟨1,[[.vec (bys (x :: l)) fl]]⟩):=by
 refine Z1P ok173 (Y0 rfl) fun C hC=>?_;refine gd 9 ⟨?_⟩;refine Qe (Zcc x l fl hb) ⟨Zg _,Yt⟩ ?_;refine go ?_;exact⟨_,_,rfl,.inl rfl,_,rfl,Zg _,⟨⟨Zg _,Yt⟩,Yt⟩,rfl,rfl⟩
def X3G (s:ByteArray):List Nat:=s.data.toList.map fun b=>b.toNat
theorem ZeD (s:ByteArray):X1D s=bys (X3G s):=by
 unfold X1D bys X3G;rw [Y20]
 rfl
theorem Zdp (s:ByteArray):(X3G s).length=s.size:=by
 unfold X3G;rw [Y0f]
 rfl
theorem Zlm (l:List Nat) (s:ByteArray) (hb:l.length+2*s.size<800000):X1j Tryz.prog 217 [] [.val (.string s)] [] (wBx l) (fun _ b'=>b'=wBx (l++wB (X3G s))):=by
 refine Z2X ok217 (Y0 rfl) fun C hC=>?_;have hs:=Zdp s;have hd:∀ (e:Env) (h:X1) (n:Nat) (x:Operand),ev e x=some (.val (.string s))->X4 (.s2b x) e h n=some (.vec (bys (X3G s)) false,h):=fun e h n x hx=>by
  simp only [X4,hx];rw [Y5 (by omega),ZeD]
 refine gd 6 ⟨?_⟩;refine Qo (hd _ _ _ _ rfl) ?_;refine Z14 (k:=0) (i:=1) (Z6m l (X3G s) false (by omega)) rfl rfl rfl rfl rfl (by decide) Yt ⟨Zg _,Yt⟩ Yt (Zg _) ?_;rintro r b' hr1 hr2 rfl;refine go ?_;exact⟨_,_,rfl,.inl rfl,2,_,by decide,rfl,rfl,Yt,Zg _,rfl⟩
theorem Zkd {p:List Nat} (h:W8 p):W8 (wB p):=fun x hx=>(Y0h.1 hx).elim (Zat _ x) (h x)
theorem ZjV (p:List Nat):∃ x l,wB p=x :: l:=by
 unfold wB grp;rw [List.reverse_cons];cases h:(gR p.length (p.length / 128)).reverse with
 | nil=>exact⟨_,_,rfl⟩
 | cons a b=>exact⟨_,_,rfl⟩
theorem Zdq (v:Nat):∃ x l,grp v=x :: l:=by
 unfold grp;rw [List.reverse_cons];cases h:(gR v (v / 128)).reverse with
 | nil=>exact⟨_,_,rfl⟩
 | cons a b=>exact⟨_,_,rfl⟩
theorem Z7i:X3 (⟨1,[[PV.vec [] true]]⟩:Bx).elems:=⟨⟨Yt,Yt⟩,Yt⟩
def X4M (s:ByteArray) (p:List Nat):List Nat:=wB (X3G s)++wB p
theorem ZkV (s:ByteArray):W8 (X3G s):=fun x hx=>by
 obtain⟨b,_,rfl⟩:=Y0i.1 hx;exact b.toNat_lt
theorem Zcd (s:ByteArray) (p:List Nat) (fp:Bool) (hp:W8 p) (hs:s.size<100) (hb:p.length<200000):X7 Tryz.prog 172 [.val (.string s),.vec [[.vec (bys p) fp]] true] (· = .agg (Xh .u8 (dig (X4M s p)))):=by
 refine Yp ok172 fun C hC=>?_;have hsl:=Zdp s;have hwl:=Z5j (X3G s);have hwp:=Z5j p;have hpp:X3 [[PV.vec (bys p) fp]]:=⟨⟨Zg _,Yt⟩,Yt⟩
 refine gd 8 ⟨?_⟩;refine Z2v Z9n (Z7a 0 0) Z7i rfl rfl Yt ?_;refine Zb (Z2M (ob:=1) (i0:=0) (j0:=0) (bo:=⟨1,[[.vec [] true]]⟩) 1 (by decide) rfl (by decide) (by decide) rfl) ?_;refine gd 11 ⟨?_⟩;refine Z14 (k:=1) (i:=2) (q := []) (b1:=wBx []) (Zlm [] s (by show 0+_<_;omega)) rfl rfl rfl rfl rfl (by decide) Yt ⟨Yt,Yt⟩ Yt Yt ?_;rintro r b' hr1 hr2 rfl;rw [Y1h];refine go ?_;refine ZB hC (fun i=>i<=1) (fun i=>1-i) 4 (fun i => [(4,.ptr 0 0 0),(5,.ptr 1 0 0),(12,.vec [[.vec (bys p) fp]] true),(13,.val (.int .i64 1)),(14,Yv i)]) (fun i => [(0,⟨32,[Xh .u8 (List.replicate 32 0)]⟩),(1,kid1 [] 3),(3,wBx (wB (X3G s)++(if i=0 then [] else wB p)))]) (by decide) 0 (Y0l _)
  (fun i=>i) (fun _ _=>rfl) (Zw rfl) ⟨Qt 0 0 0,Qt 1 0 0,Qp hpp,Qp Yt,Qp Yt,Yt⟩
  ⟨⟨by decide,⟨32,[Xh .u8 (List.replicate 32 0)]⟩,by kernel_rfl,.same _ ⟨ZN _ _,Yt⟩⟩,⟨by decide,_,rfl,Xr.single ⟨.own 3 (by decide),Yt⟩ rfl⟩,⟨by decide,wBx (wB (X3G s) ++ []),by rw [Y0p]; rfl,.same _ (Zg _)⟩,Yt⟩ ?_
 intro i hi;have hinc:IntKind.i64.wrap ((i:Int)+1)=((i+1:Nat):Int):=wi (i+1) (by omega);refine gd 15 ⟨?_⟩;by_cases hil:i<1
 . obtain rfl : i = 0 := by omega
   refine Qo (Qy rfl (by omega)) ?_;rw [Y5 rfl,Y0p];refine gd 20 ⟨?_⟩;refine Z14 (k:=1) (i:=3) (Z6m (wB (X3G s)) p fp (by omega)) rfl rfl rfl rfl rfl (by decide) Yt ⟨Zg _,Yt⟩ Yt (Zg _) ?_;rintro r b' hr1 hr2 rfl;refine go ?_;exact⟨1,mv 3 4,by omega,by omega,Z4U (by decide),Zw rfl,⟨Qt 0 0 0,Qt 1 0 0,Qp hpp,Qp Yt,Qp Yt,Yt⟩,⟨Qs ⟨ZN _ _,Yt⟩,⟨by decide,_,rfl,Xr.single ⟨.own 3 (by decide),Yt⟩ rfl⟩,⟨by decide,_,rfl,by rw [Y6 (by decide)]; exact .same _ (Zg _)⟩,Yt⟩⟩
 . obtain rfl : i = 1 := by omega
   refine Qo (Qz rfl (by omega)) ?_;rw [Y6 (by decide)];have hWt:W8 (X4M s p):=fun x hx=>(Y0h.1 hx).elim (Zkd (ZkV s) x) (Zkd hp x);have htl:(X4M s p).length<500000:=by unfold X4M; rw [Y0e]; omega
   obtain⟨x,l,hxl⟩:∃ x l,X4M s p=x :: l:=by
    obtain⟨x,l,h⟩:=ZjV (X3G s);exact⟨x,l++wB p,by unfold X4M; rw [h]; rfl⟩
   change Xj _ _ _ _ (XD [(0,⟨32,[Xh .u8 (List.replicate 32 0)]⟩),(1,kid1 [] 3),(3,wBx (X4M s p))]) _;rw [hxl] at hWt htl ⊢;rw [Y04] at htl;refine gd 23 ⟨?_⟩;refine Zb (Zp (ob:=1) (id:=3) (i0:=0) (j0:=0) (bo:=kid1 [] 3) (b:=wBx (x :: l)) rfl rfl (by decide) (Zg _) (by decide) (by decide) rfl) ?_;refine ZS (id:=1) (ZjU x l false (by omega)) rfl rfl rfl rfl ⟨⟨Zg _,Yt⟩,Yt⟩ Yt ?_;rintro r b' hr1 hr2 ⟨rfl,rfl⟩;refine Qe (ZgU (x :: l) false hWt (by rw [Y04];omega)) ⟨Zg _,Yt⟩ ?_;have hcl:(Xh .u8 (dig (x :: l))).length=32:=by rw [ZJ,Z5H]
   refine Qo (Z41 (l:=Xh .u8 (List.replicate 32 0)) rfl rfl rfl hcl rfl) ?_;refine go ?_;refine Z7 (Z28 (Z4o (l:=Xh .u8 (dig (x :: l)) ++ []) (r:=Xh .u8 (dig (x :: l))) rfl rfl ?_ ?_)) (ZN _ _) rfl
   . rw [Y0p,hcl]; decide
   . rw [Y0p,Y14,Yw (by rw [hcl]; exact Y0m _)]
def prW (p:Pr):List Nat:=grp p.1++grp p.2
def hyB (l:List Pr):List Nat:=grp l.length++l.flatMap prW
theorem ZjW {p:Pr} (h:p.1<=63/\p.2<=63):(prW p).length<=130:=by
 unfold prW;rw [Y0e];have:=Z1J p.1;have:=Z1J p.2;omega
theorem Z7j:∀ (l:List Pr),(∀ p∈l,p.1<=63/\p.2<=63)->(l.flatMap prW).length<=130*l.length
 | [],_=>Y0m _
 | p :: l, h => by
   rw [Y1N,Y0e,Y04];have:=ZjW (h p (Y0t ..));have:=Z7j l fun q hq=>h q (YD _ hq);omega
theorem Zce {l:List Pr} (h:∀ p∈l,p.1<=63/\p.2<=63):(hyB l).length<=131*l.length+1:=by
 unfold hyB;rw [Y0e];have:=Z1J l.length;have:=Z7j l h;omega
theorem Zln (l:List Pr):W8 (hyB l):=fun x hx=>by
 rcases Y0h.1 hx with h|h
 . exact Zat _ x h
 . obtain ⟨p, _, h⟩ := Y1c.1 h;exact (Y0h.1 h).elim (Zat _ x) (Zat _ x)
theorem Zcf (l:List Pr) (S:List Nat) (h:∀ p∈l,p.1<=63/\p.2<=63) (hb:l.length<=1000):X7 Tryz.prog 167 [XL l S] (· = .vec (bys (hyB l)) false):=by
 refine Yp ok167 fun C hC=>?_;have hgl:=Z1J l.length;have hml:(l.map prC).length=l.length:=Y0f ..;refine gd 9 ⟨?_⟩;refine Z2v Z9n (Z7a 0 0) Z7i rfl rfl Yt ?_;refine Zb (Z2M (ob:=0) (i0:=0) (j0:=0) (bo:=⟨1,[[.vec [] true]]⟩) 1 (by decide) rfl (by decide) (by decide) rfl) ?_;refine gd 11 ⟨?_⟩;refine Qe (Z8a l S (by omega)) ⟨Zk _ _,Yt⟩ ?_;refine gd 15 ⟨?_⟩;refine Zh (v:=(l.length:Int)) rfl rfl rfl (by rw [hml]; exact Y0x _ ⟨by omega,by omega⟩) ?_;refine Z14 (k:=0) (i:=1) (q := []) (b1:=wBx []) (Z5U [] l.length (by omega) (by show 0+_<_;omega)) rfl rfl rfl rfl rfl (by decide) Yt ⟨Yt,Yt⟩ Yt Yt ?_;rintro r b' hr1 hr2 rfl;rw [Y1h];refine go ?_;refine ZB hC (fun i=>i<=l.length) (fun i=>l.length-i) 3 (fun i => [(3,.ptr 0 0 0),(17,.vec (l.map prC) false),(18,.val (.int .i64 (l.length:Int))),(19,Yv i)]) (fun i => [(0,kid1 [] 2),(2,wBx (grp l.length++(l.take i).flatMap prW))]) (by decide) 0 (Y0l _)
  (fun i=>i) (fun _ _=>rfl) (Zw rfl) ⟨Qt 0 0 0,Qp (Zl _),⟨_,by rw [<- hml]; rfl,.pure _ Yt⟩,Qp Yt,Yt⟩
  ⟨⟨by decide,_,rfl,Xr.single ⟨.own 2 (by decide),Yt⟩ rfl⟩,⟨by decide,wBx (grp l.length++(l.take 0).flatMap prW),by rw [Y1y,Y3H,Y0p]; rfl,.same _ (Zg _)⟩,Yt⟩ ?_
 intro i hi;have hfl:=Z7j (l.take i) fun p hp=>h p (YM hp);rw [Y0o,Y1C hi] at hfl;have hinc:IntKind.i64.wrap ((i:Int)+1)=((i+1:Nat):Int):=wi (i+1) (by omega);refine gd 20 ⟨?_⟩;by_cases hil:i<l.length
 . refine Qo (Qy rfl (by omega)) ?_;have hci:=h l[i] (Y0j hil);have hft:(l.take (i+1)).flatMap prW=(l.take i).flatMap prW++prW l[i]:=by
    rw [Y2Y hil,Y1E,Y3K]
   refine gd 21 ⟨?_⟩;refine Qo (Zq (xs:=l) (g:=prC) rfl rfl i rfl hil rfl) ?_;generalize l[i]=p at hci hft;have g1:=Z1J p.1;refine gd 26 ⟨?_⟩;refine Zh (v:=(p.1:Int)) rfl rfl rfl (Y0x _ ⟨by omega,by omega⟩) ?_;refine Z14 (k:=0) (i:=2) (Z5U (grp l.length++(l.take i).flatMap prW) p.1 (by omega) (by rw [Y0e];omega)) rfl rfl rfl rfl rfl (by decide) Yt ⟨Yt,Yt⟩ Yt (Zg _) ?_;rintro r b' hr1 hr2 rfl;refine gd 31 ⟨?_⟩;refine Zh (v:=(p.2:Int)) rfl rfl rfl (Y0x _ ⟨by omega,by omega⟩) ?_;refine Z14 (k:=0) (i:=4) (Z5U (grp l.length++(l.take i).flatMap prW++grp p.1) p.2 (by omega) (by rw [Y0e,Y0e];omega)) rfl rfl rfl rfl rfl (by decide) Yt ⟨Yt,Yt⟩ Yt (Zg _) ?_;rintro r b' hr1 hr2 rfl;refine go ?_;exact⟨i+1,mv 2 5,by omega,by omega,Z4U (by decide),Zw rfl,⟨Qt 0 0 0,Qp (Zl _),Qp Yt,⟨_,by show some _=some _; rw [hinc],.pure _ Yt⟩,Yt⟩,⟨⟨by decide,_,rfl,Xr.single ⟨.own 2 (by decide),Yt⟩ rfl⟩,⟨by decide,_,rfl,by rw [hft,show grp l.length++((l.take i).flatMap prW++prW p)=grp l.length++(l.take i).flatMap prW++grp p.1++grp p.2 by unfold prW; simp only [YR]]; exact .same _ (Zg _)⟩,Yt⟩⟩
 . obtain rfl : i = l.length := by omega
   refine Qo (Qz rfl (by omega)) ?_;have hyl:=Zce h;obtain⟨x,m,hxm⟩:∃ x m,hyB l=x :: m:=by
    obtain⟨x,m,h⟩:=Zdq l.length;exact⟨x,m++l.flatMap prW,by unfold hyB; rw [h]; rfl⟩
   rw [Y0q];change Xj _ _ _ _ (XD [(0,kid1 [] 2),(2,wBx (hyB l))]) _;rw [hxm] at hyl ⊢;rw [Y04] at hyl;refine gd 35 ⟨?_⟩;refine Zb (Zp (ob:=0) (id:=2) (i0:=0) (j0:=0) (bo:=kid1 [] 2) (b:=wBx (x :: m)) rfl rfl (by decide) (Zg _) (by decide) (by decide) rfl) ?_;refine ZS (id:=0) (ZjU x m false (by omega)) rfl rfl rfl rfl ⟨⟨Zg _,Yt⟩,Yt⟩ Yt ?_;rintro r b' hr1 hr2 ⟨rfl,rfl⟩;refine go ?_;exact Z7 rfl (Zg _) rfl
structure PbW (t:PB):Prop where
 n:t.n<=63
 st:t.st<256
 rs:∀ r∈t.rs,r.cu.1<256/\r.cu.2<256/\r.tg<=63
 nv:∀ c∈t.nv,c.1<256/\c.2<256
 gl:∀ c∈t.gl,c.1<256/\c.2<256
 lk:∀ p∈t.l,p.1<=63/\p.2<=63
 ll:t.l.length<=100
 rl:t.rs.length<=100
 nl:t.nv.length<=100
 gn:t.gl.length<=100
def rB (r:RU):List Nat := [cond r.rev 1 0]++cB r.cu++grp r.tg
def hdB (t:PB):List Nat:=grp t.n++wB (hyB t.l)++wB (sB t.st)++grp t.rs.length
def pbB (t:PB):List Nat:=hdB t++t.rs.flatMap rB++lB t.nv++lB t.gl
theorem ZkW {r:RU} (h:r.tg<=63):(rB r).length<=71:=by
 unfold rB;rw [Y0e,Y0e];have:=Z1J r.tg;have:=ZgT r.cu;show 1+_+_<=_;omega
theorem Zav:∀ (l:List RU),(∀ r∈l,r.tg<=63)->(l.flatMap rB).length<=71*l.length
 | [],_=>Y0m _
 | p :: l, h => by
   rw [Y1N,Y0e,Y04];have:=ZkW (h p (Y0t ..));have:=Zav l fun q hq=>h q (YD _ hq);omega
theorem ZjX {t:PB} (h:PbW t):(hdB t).length<=30000:=by
 unfold hdB;rw [Y0e,Y0e,Y0e];have h1:=Z1J t.n;have h2:=Z5j (hyB t.l);have h3:=Zce h.lk;have h4:=Z5j (sB t.st);have h5:=Z8m t.st;have h6:=Z1J t.rs.length;have:=h.n; have:=h.ll; have:=h.rl;omega
theorem Zlo {N:Nat} (h:N<256):W8 (sB N):=fun x hx=>by
 unfold sB at hx
 split at hx
 . cases hx
 . rw [Y0g] at hx; rw [hx]; exact h
theorem Zls {c:Cu} (h:c.1<256/\c.2<256):W8 (cB c):=fun x hx=>(Y0h.1 hx).elim (Zkd (Zlo h.1) x) (Zkd (Zlo h.2) x)
theorem Zlt {cs:List Cu} (h:∀ c∈cs,c.1<256/\c.2<256):W8 (lB cs):=fun x hx=>by
 rcases Y0h.1 hx with hx|hx
 . exact Zat _ x hx
 . obtain ⟨c, hc, hx⟩ := Y1c.1 hx;exact Zls (h c hc) x hx
theorem W8.app {l m:List Nat} (hl:W8 l) (hm:W8 m):W8 (l++m):=fun x hx=>(Y0h.1 hx).elim (hl x) (hm x)
theorem Zlp {t:PB} (h:PbW t):W8 (pbB t):=by
 refine W8.app (W8.app (W8.app (W8.app (W8.app (W8.app (Zat _) (Zkd (Zln _))) (Zkd (Zlo h.st))) (Zat _)) fun x hx=>?_) (Zlt h.nv)) (Zlt h.gl);obtain⟨r,hr,hx⟩:=Y1c.1 hx;have hc:=h.rs r hr;exact W8.app (W8.app (fun x hx=>by rw [Y0g] at hx; rw [hx]; cases r.rev<;>decide) (Zls ⟨hc.1,hc.2.1⟩)) (Zat _) x hx
def X11 (t:PB):List Nat:=dig (X4M ⟨#[112,114,111,98,108,101,109]⟩ (pbB t))
theorem Z4t {t:PB} (h:Xv t) (hw:PbW t) (S:List Nat):X7 Tryz.prog 112 [.agg (pbP t S)] (· = .agg (Xh .u8 (X11 t))):=by
 refine Yp ok112 fun C hC=>?_;have hl1:=Z1J t.n;have hl2:=Z5j (hyB t.l);have hl3:=Zce hw.lk;have hl4:=Z5j (sB t.st);have hl5:=Z8m t.st;have hl6:=Z1J t.rs.length;have hn:=hw.n; have hll:=hw.ll; have hrl:=hw.rl; have hnl:=hw.nl; have hgl:=hw.gn;have hhl:=ZjX hw;have hml:(t.rs.map ruP).length=t.rs.length:=Y0f ..;refine gd 7 ⟨?_⟩;refine Qe (Z2A h S) ⟨ZH _ _,Yt⟩ ?_;refine gd 10 ⟨?_⟩;refine Z2v Z9n (Z7a 0 0) Z7i rfl rfl Yt ?_;refine Zb (Z2M (ob:=2) (i0:=0) (j0:=0) (bo:=⟨1,[[.vec [] true]]⟩) 1 (by decide) rfl (by decide) (by decide) rfl) ?_;refine gd 14 ⟨?_⟩;refine Zh (v:=(t.n:Int)) rfl rfl rfl (Y0x _ ⟨by omega,by omega⟩) ?_;refine Z14 (k:=2) (i:=3) (q := []) (b1:=wBx []) (Z5U [] t.n (by omega) (by show 0+_<_;omega)) rfl rfl rfl rfl rfl (by decide) Yt ⟨Yt,Yt⟩ Yt Yt ?_;rintro r b' hr1 hr2 rfl;rw [Y1h];refine gd 19 ⟨?_⟩;refine Qe (Zcf t.l S hw.lk (by omega)) ⟨Zk _ _,Yt⟩ ?_;refine Z14 (k:=2) (i:=4) (Z6m (grp t.n) (hyB t.l) false (by omega)) rfl rfl rfl rfl rfl (by decide) Yt ⟨Zg _,Yt⟩ Yt (Zg _) ?_;rintro r b' hr1 hr2 rfl;refine gd 24 ⟨?_⟩;refine Z14 (k:=2) (i:=5) (ZjT (grp t.n++wB (hyB t.l)) t.st hw.st (by rw [Y0e];omega)) rfl rfl rfl rfl rfl (by decide) Yt ⟨Z2 _,Yt⟩ Yt (Zg _) ?_;rintro r b' hr1 hr2 rfl;refine gd 29 ⟨?_⟩;refine Zh (v:=(t.rs.length:Int)) rfl rfl rfl (by rw [hml]; exact Y0x _ ⟨by omega,by omega⟩) ?_;refine Z14 (k:=2) (i:=6) (Z5U (grp t.n++wB (hyB t.l)++wB (sB t.st)) t.rs.length (by omega) (by rw [Y0e,Y0e];omega)) rfl rfl rfl rfl rfl (by decide) Yt ⟨Yt,Yt⟩ Yt (Zg _) ?_;rintro r b' hr1 hr2 rfl;change Xj _ _ _ _ (X1.upd _ _ (wBx (hdB t))) _;refine go ?_;refine ZB hC (fun i=>i<=t.rs.length) (fun i=>t.rs.length-i) 8 (fun i => [(1,.ptr 0 0 0),(2,.ptr 1 0 0),(3,.ptr 2 0 0),(32,.vec (t.rs.map ruP) false),(33,.val (.int .i64 (t.rs.length:Int))),(34,Yv i)]) (fun i => [(0,⟨6,[pbP t S]⟩),(1,⟨32,[Xh .u8 (List.replicate 32 0)]⟩),(2,kid1 [] 7),(7,wBx (hdB t++(t.rs.take i).flatMap rB))]) (by decide) 0 (Y0l _)
  (fun i=>i) (fun _ _=>rfl) (Zw rfl) ⟨Qt 0 0 0,Qt 1 0 0,Qt 2 0 0,Qp (Zs _),⟨_,by rw [<- hml]; rfl,.pure _ Yt⟩,Qp Yt,Yt⟩
  ⟨Qs ⟨ZH t S,Yt⟩,⟨by decide,⟨32,[Xh .u8 (List.replicate 32 0)]⟩,by kernel_rfl,.same _ ⟨ZN _ _,Yt⟩⟩,⟨by decide,_,rfl,Xr.single ⟨.own 7 (by decide),Yt⟩ rfl⟩,⟨by decide,wBx (hdB t++(t.rs.take 0).flatMap rB),by rw [Y1y,Y3H,Y0p]; rfl,.same _ (Zg _)⟩,Yt⟩ ?_
 intro i hi;have hfl:=Zav (t.rs.take i) fun r hr=>(hw.rs r (YM hr)).2.2;rw [Y0o,Y1C hi] at hfl;have hinc:IntKind.i64.wrap ((i:Int)+1)=((i+1:Nat):Int):=wi (i+1) (by omega);refine gd 35 ⟨?_⟩;by_cases hil:i<t.rs.length
 . refine Qo (Qy rfl (by omega)) ?_;have hci:=hw.rs t.rs[i] (Y0j hil);have hft:(t.rs.take (i+1)).flatMap rB=(t.rs.take i).flatMap rB++rB t.rs[i]:=by
    rw [Y2Y hil,Y1E,Y3K]
   refine gd 36 ⟨?_⟩;refine Qo (Zq (xs:=t.rs) (g:=ruP) rfl rfl i rfl hil rfl) ?_;generalize t.rs[i]=u at hci hft;have hg:=Z1J u.tg;have hcl:=ZgT u.cu;have htot:(hdB t++(t.rs.take i).flatMap rB).length<=40000:=by rw [Y0e]; omega
   generalize hww:hdB t++(t.rs.take i).flatMap rB=ww at htot;refine gd 40 ⟨?_⟩;refine Z1 (p:=.val (.bool u.rev)) rfl rfl rfl ?_;refine Z14 (k:=2) (i:=7) (ZkT ww u.rev (by omega)) rfl rfl rfl rfl rfl (by decide) Yt ⟨Yt,Yt⟩ Yt (Zg _) ?_;rintro r b' hr1 hr2 rfl;refine gd 45 ⟨?_⟩;refine Z14 (k:=2) (i:=9) (ZkU (ww ++ [cond u.rev 1 0]) u.cu ⟨hci.1,hci.2.1⟩ (by rw [Y0e,Y0s];omega)) rfl rfl rfl rfl rfl (by decide) Yt ⟨Zy _,Yt⟩ Yt (Zg _) ?_;rintro r b' hr1 hr2 rfl;refine gd 49 ⟨?_⟩;refine Zh (v:=(u.tg:Int)) rfl rfl rfl (Y0x _ ⟨by omega,by omega⟩) ?_;refine Z14 (k:=2) (i:=10) (Z5U (ww ++ [cond u.rev 1 0]++cB u.cu) u.tg (by omega) (by rw [Y0e,Y0e,Y0s];omega)) rfl rfl rfl rfl rfl (by decide) Yt ⟨Yt,Yt⟩ Yt (Zg _) ?_;rintro r b' hr1 hr2 rfl;refine go ?_;exact⟨i+1,mv 7 11,by omega,by omega,Z4U (by decide),Zw rfl,⟨Qt 0 0 0,Qt 1 0 0,Qt 2 0 0,Qp (Zs _),Qp Yt,⟨_,by show some _=some _; rw [hinc],.pure _ Yt⟩,Yt⟩,⟨Qs ⟨ZH t S,Yt⟩,Qs ⟨ZN _ _,Yt⟩,⟨by decide,_,rfl,Xr.single ⟨.own 7 (by decide),Yt⟩ rfl⟩,⟨by decide,_,rfl,by rw [hft,show hdB t++((t.rs.take i).flatMap rB++rB u)=ww ++ [cond u.rev 1 0]++cB u.cu++grp u.tg by rw [<- hww]; unfold rB; simp only [YR]]; exact .same _ (Zg _)⟩,Yt⟩⟩
 . obtain rfl : i = t.rs.length := by omega
   refine Qo (Qz rfl (by omega)) ?_;rw [Y0q] at hfl ⊢;have htot:(hdB t++t.rs.flatMap rB).length<=40000:=by rw [Y0e]; omega
   have hpb:pbB t=hdB t++t.rs.flatMap rB++lB t.nv++lB t.gl:=rfl;have hlb:=ZiY t.nv;have hlg:=ZiY t.gl;have hpW:=Zlp hw;generalize hww:hdB t++t.rs.flatMap rB=ww at htot hpb;refine gd 55 ⟨?_⟩;refine Z14 (k:=2) (i:=7) (ZiZ ww t.nv false hw.nv (by omega)) rfl rfl rfl rfl rfl (by decide) Yt ⟨Zc Zi _,Yt⟩ Yt (Zg _) ?_;rintro r b' hr1 hr2 rfl;refine gd 59 ⟨?_⟩;refine Z14 (k:=2) (i:=8) (ZiZ (ww++lB t.nv) t.gl false hw.gl (by rw [Y0e];omega)) rfl rfl rfl rfl rfl (by decide) Yt ⟨Zc Zi _,Yt⟩ Yt (Zg _) ?_;rintro r b' hr1 hr2 rfl;have hpl:(pbB t).length<100000:=by rw [hpb,Y0e,Y0e]; omega
   have hid:X11 t=dig (X4M ⟨#[112,114,111,98,108,101,109]⟩ (pbB t)):=rfl;rw [<- hpb];obtain⟨x,m,hxm⟩:∃ x m,pbB t=x :: m:=by
    obtain⟨x,m,h⟩:=Zdq t.n;exact⟨x,m++(wB (hyB t.l)++(wB (sB t.st)++(grp t.rs.length++(t.rs.flatMap rB++(lB t.nv++lB t.gl))))),by unfold pbB hdB; rw [h]; simp only [YR,Y4m]⟩
   rw [hxm] at hpl hpW hid ⊢;rw [Y04] at hpl;refine gd 61 ⟨?_⟩;refine Zb (Zp (ob:=2) (id:=9) (i0:=0) (j0:=0) (bo:=kid1 [] 9) (b:=wBx (x :: m)) rfl rfl (by decide) (Zg _) (by decide) (by decide) rfl) ?_;refine ZS (id:=2) (ZjU x m false (by omega)) rfl rfl rfl rfl ⟨⟨Zg _,Yt⟩,Yt⟩ Yt ?_;rintro r b' hr1 hr2 ⟨rfl,rfl⟩;refine gd 63 ⟨?_⟩;refine Qe (Zcd ⟨#[112,114,111,98,108,101,109]⟩ (x :: m) false hpW (by decide) (by rw [Y04];omega)) ⟨Yt,⟨⟨Zg _,Yt⟩,Yt⟩,Yt⟩ ?_;rw [<- hid];have hcl:(Xh .u8 (X11 t)).length=32:=by rw [ZJ]; exact Z5H _
   generalize hcc:Xh .u8 (X11 t)=cc at hcl;have hcp:X6 cc:=hcc▸ZN _ _;refine Qo (Z41 (l:=Xh .u8 (List.replicate 32 0)) rfl rfl rfl hcl rfl) ?_;refine go ?_;refine Z7 (Z28 (Z4o (l:=cc ++ []) (r:=cc) rfl rfl ?_ ?_)) hcp rfl
   . rw [Y0p,hcl]; decide
   . rw [Y0p,Y14,Yw (by rw [hcl]; exact Y0m _)]
theorem ZeE (xs:List Nat) (fl:Bool) (hlen:xs.length<=1000000):X1l Tryz.prog 113 [.vec (inL xs) fl] .own ⟨1,inL xs⟩:=by
 refine Z1b ok113 (Y0 rfl) fun C hC=>?_;have fin:∀ (x:Nat) (xs:List Nat),(∀ c∈inL (x :: xs),c.length=1):=fun x xs c hc=>by obtain⟨y,_,rfl⟩:=Y0i.1 hc; rfl
 cases xs with
 | nil =>
   refine go ?_;refine Z3c (.inl ⟨_,_,rfl⟩) rfl fun b=>?_;cases b
   . repeat' (first | refine Zb (Zt (k := 5) rfl 1 (by decide)) ?_ | (first|refine st ?_|(apply B<;>intro hb<;>try cases hb)))
     exact⟨_,_,rfl,.inl rfl,_,rfl,rfl⟩
   . iterate 6 (first|refine st ?_|(apply B<;>intro hb<;>try cases hb))
     refine Z1S (Zt (k:=2) rfl 1 (by decide) _) ?_;refine go ?_;exact⟨_,_,rfl,.inl rfl,_,rfl,rfl⟩
 | cons x xs =>
   repeat' (first|refine Zb (Zt (k:=5) rfl 1 (by decide)) ?_|(first|refine st ?_|(apply B<;>intro hb<;>try cases hb)))
   refine ZG (Zu (k:=0) (m:=inL (x :: xs)) (fl:=fl) rfl rfl rfl (fin x xs) rfl (by
    show (([]:List (List PV)).length+(inL (x :: xs)).length)*8<=_
    rw [Z3t,Y2V];omega)) rfl rfl ?_
   refine go ?_;exact⟨_,_,rfl,.inl rfl,_,rfl,by rw [Y1h]; rfl⟩
def Xy (id:List Nat) (b:Bool) (p:List Nat) (fp:Bool) (l:List Cu) (fl:Bool):List PV:=Xh .u8 id ++ [.val (.bool b),.vec (inL p) fp,.vec (l.map cuC) fl]
theorem Z1G (id:List Nat) (b:Bool) (p:List Nat) (fp:Bool) (l:List Cu) (fl:Bool):X6 (Xy id b p fp l fl):=Z1A (ZN _ _) ⟨Yt,Zz _,Zc Zi _,Yt⟩
theorem Z5I (cc t cs:List PV) (n j:Nat) (h:cc.length=n):Xi (cc++t) (n+j) cs=cc++Xi t j cs:=by
 subst h;unfold Xi;rw [Y3a,Yw (by omega),Y2S,Y1H,Y2r,Y1L (by omega),Y2S,Y1h,YR,YR,YR]
theorem ZjY {e:Env} {a b c:Operand} {cc:List PV} {q:PV} (ha:ev e a=some (.agg cc)) (hc:ev e c=some q) (hq:q.flat=true) (hq1:q.cells = [q]) (hl:cc.length=32) (z:List PV) (hz:z.length=35) (x:PV) (hb:ev e b=some (.val (.bool true))) (hzd:z.drop 32 = [.val (.bool false),.vec [] true,.vec [] true]):X16 e z [(0,32,a),(32,1,b),(33,1,c)]=some (cc ++ [.val (.bool true),q,.vec [] true]):=by
 have h1:Xi z 0 cc=cc ++ [.val (.bool false),.vec [] true,.vec [] true]:=by
  unfold Xi;rw [Y1y,Y1h,hl,Y19,hzd]
 have e1:(PV.agg cc).cells=cc:=rfl;have e2:(PV.val (.bool true)).cells = [.val (.bool true)]:=rfl;have f1:(PV.agg cc).flat=true:=rfl;have f2:(PV.val (.bool true)).flat=true:=rfl;simp only [X16,ha,hb,hc,e1,e2,f1,f2,hq,hq1,hl,hz,h1,Y1e,Y0s,beq_self_eq_true];rw [Y5 (by decide)];rw [show Xi (cc ++ [PV.val (.bool false),.vec [] true,.vec [] true]) 32 [.val (.bool true)]=cc ++ [.val (.bool true),.vec [] true,.vec [] true] from Z5I cc _ _ 32 0 hl];rw [Y5 (by rw [Y0e,hl]; decide)];rw [show Xi (cc ++ [PV.val (.bool true),.vec [] true,.vec [] true]) 33 [q]=cc ++ [.val (.bool true),q,.vec [] true] from Z5I cc _ _ 32 1 hl];rw [Y5 (by rw [Y0e,hl]; decide)]
theorem Ziq {e:Env} {a c:Operand} {cc:List PV} {q:PV} (ha:ev e a=some (.agg cc)) (hc:ev e c=some q) (hq:q.flat=true) (hq1:q.cells = [q]) (hl:cc.length=32) (z:List PV) (hz:z.length=35) (hzd:z.drop 32 = [.val (.bool false),.vec [] true,.vec [] true]):X16 e z [(0,32,a),(34,1,c)]=some (cc ++ [.val (.bool false),.vec [] true,q]):=by
 have h1:Xi z 0 cc=cc ++ [.val (.bool false),.vec [] true,.vec [] true]:=by
  unfold Xi;rw [Y1y,Y1h,hl,Y19,hzd]
 have e1:(PV.agg cc).cells=cc:=rfl;have f1:(PV.agg cc).flat=true:=rfl;simp only [X16,ha,hc,e1,f1,hq,hq1,hl,hz,h1,Y1e,Y0s,beq_self_eq_true];rw [Y5 (by decide)];rw [Y5 (by rw [Y0e,hl]; decide)];rw [show Xi (cc ++ [PV.val (.bool false),.vec [] true,.vec [] true]) 34 [q]=cc ++ [.val (.bool false),.vec [] true,q] from Z5I cc _ _ 32 2 hl]
theorem ZkX {e:Env} {h:X1} {n:Nat} {z:List Value} {ps:List (Nat×Nat×Operand)} {l:List PV} (hb:X16 e (zpv z) ps=some l):X4 (.build z ps) e h n=some (.agg l,h):=by
 simp only [X4,hb]
def X60:List PV:=Xh .u8 (List.replicate 32 0) ++ [.val (.bool false),.vec [] true,.vec [] true]
theorem Z3x (t:PB):(X11 t).length=32:=Z5H _
theorem Z5V {t:PB} (h:Xv t) (hw:PbW t) (S:List Nat) (p:List Nat) (fl:Bool) (hp:p.length<=1000000):X7 Tryz.prog 58 [.agg (pbP t S),.vec (inL p) fl] (· = .agg (Xy (X11 t) true p false [] true)):=by
 refine Yp ok58 fun C hC=>?_;have hpp:=ZH t S;have hil:=Z3x t;have hcl:(Xh .u8 (X11 t)).length=32:=by rw [ZJ,hil]
 have hlen:(Xy (X11 t) true p false [] true).length=35:=by unfold Xy; rw [Y0e,hcl]; rfl
 have hcp:=Z1G (X11 t) true p false [] true;have hid:=Z4t h hw S;have hcd:Xy (X11 t) true p false [] true=Xh .u8 (X11 t) ++ [.val (.bool true),.vec (inL p) false,.vec [] true]:=rfl;generalize Xy (X11 t) true p false [] true=cc at hlen hcp hcd ⊢;generalize Xh .u8 (X11 t)=ci at hid hcl hcd;have hcip:X6 ci:=by rw [hcd] at hcp; exact (Z1j _ _).2 fun q hq=>(Z1j _ _).1 hcp q (Y3c _ hq)
 refine gd 2 ⟨?_⟩;refine Z5 rfl rfl rfl ?_;refine gd 6 ⟨?_⟩;refine Qe hid ⟨hpp,Yt⟩ ?_;refine gd 8 ⟨?_⟩;refine Qe ((ZeE p fl hp).spec (Zz p) (fun _=>.own) (Zz p)) ⟨Zz p,Yt⟩ ?_;refine Qo (ZkX (l:=cc) (by rw [hcd]; exact ZjY rfl rfl rfl rfl hcl _ (by kernel_rfl) pvu rfl (by kernel_rfl))) ?_;refine Qo (Z41 (l:=X60) rfl rfl (by kernel_rfl) hlen (by kernel_rfl)) ?_;refine go ?_;refine Z7 (Z28 (Z4o (l:=cc ++ []) (r:=cc) rfl rfl ?_ ?_)) hcp rfl
 . rw [Y0p,hlen]; decide
 . rw [Y0p,Y14,Yw (by rw [hlen]; exact Y0m _)]
theorem Z5W {t:PB} (h:Xv t) (hw:PbW t) (S:List Nat) (l:List Cu) (fl:Bool) (hl:l.length<=1000000):X7 Tryz.prog 60 [.agg (pbP t S),.vec (l.map cuC) fl] (· = .agg (Xy (X11 t) false [] true l false)):=by
 refine Yp ok60 fun C hC=>?_;have hpp:=ZH t S;have hil:=Z3x t;have hcl:(Xh .u8 (X11 t)).length=32:=by rw [ZJ,hil]
 have hlen:(Xy (X11 t) false [] true l false).length=35:=by unfold Xy; rw [Y0e,hcl]; rfl
 have hcp:=Z1G (X11 t) false [] true l false;have hid:=Z4t h hw S;have hcd:Xy (X11 t) false [] true l false=Xh .u8 (X11 t) ++ [.val (.bool false),.vec [] true,.vec (l.map cuC) false]:=rfl;generalize Xy (X11 t) false [] true l false=cc at hlen hcp hcd ⊢;generalize Xh .u8 (X11 t)=ci at hid hcl hcd;have hcip:X6 ci:=by rw [hcd] at hcp; exact (Z1j _ _).2 fun q hq=>(Z1j _ _).1 hcp q (Y3c _ hq)
 refine gd 2 ⟨?_⟩;refine Z5 rfl rfl rfl ?_;refine gd 6 ⟨?_⟩;refine Qe hid ⟨hpp,Yt⟩ ?_;refine gd 8 ⟨?_⟩;refine Qe ((Z5w l fl hl).spec (Zc Zi l) (fun _=>.own) (Zc Zi l)) ⟨Zc Zi l,Yt⟩ ?_;refine Qo (ZkX (l:=cc) (by rw [hcd]; exact Ziq rfl rfl rfl rfl hcl _ (by kernel_rfl) (by kernel_rfl))) ?_;refine Qo (Z41 (l:=X60) rfl rfl (by kernel_rfl) hlen (by kernel_rfl)) ?_;refine go ?_;refine Z7 (Z28 (Z4o (l:=cc ++ []) (r:=cc) rfl rfl ?_ ?_)) hcp rfl
 . rw [Y0p,hlen]; decide
 . rw [Y0p,Y14,Yw (by rw [hlen]; exact Y0m _)]
def X50:Nat:=X1a (2 ^ 64-1) 0
def cT:List Cu->Nat
 | []=>0
 | c :: r=>if decide (c.1 ||| c.2 ||| X50=X50) then (if emC c then 6 else cT r) else 2
def X7r (p:List Nat) (l:List Cu):Nat:=if p.any (fun k=>decide (64<=k)) then 2 else cT l
def X6F (b:Bool) (p:List Nat) (l:List Cu):Prop:=(b=true/\l = []) \/ (b=false/\p = [])
section
variable {id p:List Nat} {b fp fl:Bool} {l:List Cu}
theorem Zdr (hid:id.length=32):(Xy id b p fp l fl).drop 32=.val (.bool b) :: [.vec (inL p) fp,.vec (l.map cuC) fl]:=by
 unfold Xy;rw [Y2r,ZJ,hid,Y1L (by rw [ZJ,hid]; exact Y0m _)]
 rfl
theorem Zir (hid:id.length=32):(Xy id b p fp l fl).drop 33=.vec (inL p) fp :: [.vec (l.map cuC) fl]:=by
 unfold Xy;rw [Y2r,ZJ,hid,Y1L (by rw [ZJ,hid]; decide)]
 rfl
theorem Zis (hid:id.length=32):(Xy id b p fp l fl).drop 34=.vec (l.map cuC) fl :: []:=by
 unfold Xy;rw [Y2r,ZJ,hid,Y1L (by rw [ZJ,hid]; decide)]
 rfl
theorem Z2l (hid:id.length=32):(Xy id b p fp l fl).length=35:=by
 unfold Xy;rw [Y0e,ZJ,hid]
 rfl
end
end
section
open Go.RowKit
theorem b126 {i:Nat} (h1:1<=i) (h2:i<=6):(126:Nat).testBit i=true:=by
 have:i=1 \/ i=2 \/ i=3 \/ i=4 \/ i=5 \/ i=6:=by omega
 rcases this with rfl|rfl|rfl|rfl|rfl|rfl<;>decide
theorem X6R {i:Nat} (h:(126:Nat).testBit i=true):1<=i/\i<=6:=by
 have hi:i<7:=by
  apply Decidable.byContradiction;intro hn;rw [Y25 (YH (show 126<2 ^ 7 by decide) (YY (by decide) (by omega)))] at h;cases h
 have:i≠0:=fun e=>by subst e; exact absurd h (by decide)
 omega
theorem ZjZ {l:List Pr} (hl:X3Q l) {a b:Nat} (h:Up l a b):1<=a/\a<=6:=by
 induction h with
 | one hm=>have:=hl.role _ hm; omega
 | more _ _ ih=>exact ih
theorem Z9o {t:PB} (h:Xv t) (hn:t.n<=5) {c:Cu} (hc:InC t.n c):X1b t.l c ||| 126=126:=Xf.2 fun i hi=>by
 have h64:=hc.lt h.n.2;unfold X1b at hi;rw [Zc0] at hi;obtain⟨x,hx,hb⟩:=hi;obtain⟨b,hbm,rfl⟩:=Y0i.1 hx;rw [Z13 (Z1T h64.1 h64.2),Y00,YO] at hbm;have hb1:(mkN t.n).testBit b=true:=hbm.elim (fun h=>Xf.1 hc.y b h) fun h=>Xf.1 hc.n b h;rw [Z27,Y0k,Y0n,Y0n] at hb1;rcases (Z4D h.good.small b i).1 hb with hu|rfl
 . have := ZjZ h.good hu;exact b126 this.1 this.2
 . exact b126 hb1.1 (by omega)
theorem Zds {t:PB} (h:Xv t) (hn:t.n<=5) {c:Cu} (hc:InC t.n c):X1b t.l c<18446744073709551616:=by
 have:=Z9o h hn hc;have h2:X1b t.l c<=126:=by rw [<- this]; exact Y13
 omega
theorem XZ.b126 {t:PB} (h:Xv t) (hn:t.n<=5) {R:Nat} (hR:XZ t R):R ||| 126=126 :=
 hR.least 126 ⟨fun c hc=>Z9o h hn (h.gl c hc).1,fun x hx _ _=>Z9o h hn (h.rs x hx).cu,fun c hc _=>Z9o h hn (h.nv c hc).1⟩
structure Snd (t:PB) (b:Bool) (p:List Nat) (l:List Cu):Prop where
 form:X6F b p l
 plan:b=true->X1L t p/\p.length<=100
 inv:b=false->X4z t fun S=>soC l S=true
 len:l.length<=100
 cub:∀ c∈l,(c.1 ||| c.2) ||| 126=126/\emC c=false
theorem Snd.able {t:PB} (h:Xv t) {b:Bool} {p:List Nat} {l:List Cu} (hs:Snd t b p l):b=true↔X2e t t.st:=by
 cases b with
 | true=>exact⟨fun _=>(hs.plan rfl).1.able h,fun _=>rfl⟩
 | false=>exact⟨(fun hb=>by cases hb),fun ha=>absurd ha ((hs.inv rfl).not_able h)⟩
theorem Zk0 {R:Nat} (hR:R ||| 126=126) (c:Cu):((X1V R c).1 ||| (X1V R c).2) ||| 126=126:=by
 refine Zgm (Xf.2 fun i hi=>?_) (Xf.2 fun i hi=>?_)
 . have hi : (c.1 &&& R).testBit i = true := hi;rw [Y0z,Y0k] at hi;exact Xf.1 hR i hi.2
 . have hi : (c.2 &&& R).testBit i = true := hi;rw [Y0z,Y0k] at hi;exact Xf.1 hR i hi.2
theorem ZkY {R:Nat} {c:Cu} (h:emC c=false):emC (X1V R c)=false:=by
 unfold emC at h ⊢;rw [Y3x] at h ⊢;rw [Y3v] at h ⊢;refine YC fun i=>?_;have:=congrArg (fun n=>n.testBit i) h;simp only [Y0z,Y1w,X1V] at this ⊢;cases h1:c.1.testBit i with
 | false=>rfl
 | true=>rw [h1,Y1e] at this; rw [this]; simp
end
section
open Go.RowKit
attribute [local irreducible] aw Xj dK
theorem Zdt (x:Nat):∀ l:List Nat,orL (l ++ [x])=orL l ||| x
 | []=>by show x ||| 0=0 ||| x; rw [Nat.or_zero,Y3Z]
 | y :: l=>by show y ||| orL (l ++ [x])=(y ||| orL l) ||| x; rw [Zdt x l,Y3q]
noncomputable def X5B (l:List Pr) (xs:List Nat):Nat:=orL (xs.map (sen l))
theorem ZgV (l:List Pr) (xs:List Nat) (x:Nat):X5B l (xs ++ [x])=X5B l xs ||| sen l x:=by unfold X5B; rw [Y0r]; exact Zdt _ _
theorem Zk1 {l:List Pr} (hl:XK l) {xs:List Nat} (h:∀ x∈xs,x<64):X5B l xs<18446744073709551616:=ZiT fun y hy=>by
 obtain⟨x,hx,rfl⟩:=Y0i.1 hy;exact Zd2 l hl (h x hx)
theorem ZkZ (l:List Pr) (c:Cu):X1b l c=X5B l (mem (c.1 ||| c.2)):=rfl
theorem Zk2 {n:Nat} (hn:n<=5) {c:Cu} (hc:InC n c) {r:Nat} (hr:r∈mem (c.1 ||| c.2)):1<=r/\r<=5:=by
 have h64:=hc.lt (by omega);rw [Z13 (Z1T h64.1 h64.2),Y00,YO] at hr;have hb1:(mkN n).testBit r=true:=hr.elim (fun h=>Xf.1 hc.y r h) fun h=>Xf.1 hc.n r h;rw [Z27,Y0k,Y0n,Y0n] at hb1;omega
theorem Z2Y {t:PB} (h:Xv t) (hn:t.n<=5) (S:List Nat) (c:Cu) (hc:InC t.n c):X7 Tryz.prog 99 [.agg (pbP t S),.agg (cuC c)] (· = XC (X1b t.l c)):=by
 have hpp:=ZH t S;have h64:=hc.lt h.n.2;have hM:=Z1T h64.1 h64.2;have hmem:=fun r (hr:r∈mem (c.1 ||| c.2))=>Zk2 hn hc hr;have hpi:∀ D,X24 D (pbP t S):=fun D=>ZI (fun _ h=>h.elim) _ hpp;have hci:∀ D,X24 D (cuC c):=fun D=>ZI (fun _ h=>h.elim) _ (Zi c);refine Yp ok99 fun C hC=>?_;rw [ZkZ];refine Zn ?_;refine Za ?_;refine Z5 rfl rfl rfl ?_;refine Z5 rfl rfl rfl ?_;refine gd 11 ⟨?_⟩;refine Qe (Z1D c.1 c.2 h64.1 h64.2) ⟨Z2 _,Z2 _,Yt⟩ ?_;generalize c.1 ||| c.2=M at hM hmem
 refine Qe (Z1E M) ⟨Z2 _,Yt⟩ ?_;refine go ?_;refine Z2s (X:=List Nat) hC (caps := [.cp [.vec (X5 (X9 M)) false]]) [(2,.cp (pbP t S)),(3,.cp (cuC c)),(4,.ptr 0 0 0),(5,.ptr 1 0 0),(12,.fn 127 [.cp [.vec (X5 (X9 M)) false]])]
  (fun z => [(0,⟨1,[[.vec [] true]]⟩),(1,sBx (X5B t.l z))]) rfl ⟨⟨Z6 _,Yt⟩,Yt⟩ (Z2u M hM) (fun _=>rfl)
  (fun ex pre z=>ex=.normal/\z=pre.map (·.val)) 2 (by decide) [] ⟨rfl,rfl⟩
  (Z2q (X39.mem (ρ := fun i => i) (m := 2) (L := [(2, .cp (pbP t S)), (3, .cp (cuC c)), (4, .ptr 0 0 0), (5, .ptr 1 0 0), (12, .fn 127 [.cp [.vec (X5 (X9 M)) false]])]) ⟨Qp hpp, Qp (Zi c), Qt 0 0 0, Qt 1 0 0, Qp ⟨⟨Z6 _, Yt⟩, Yt⟩, Yt⟩)
    (X1s.mem (ρ:=fun i=>i) (m:=2) (L := [(0,⟨1,[[.vec [] true]]⟩),(1,sBx 0)]) ⟨Qs ⟨⟨Yt,Yt⟩,Yt⟩,⟨by decide,⟨1,[[.vec [] true]]⟩,rfl,by show Xr _ _ _ ⟨1,[[.vec (X5 (X9 0)) false]]⟩; rw [ZL]; exact Xr.single (ρ:=fun i=>i) (l0 := [.vec [] true]) (l := [.vec [] false]) (show X2o _ _ [_] [_] from ⟨.low (.vec [] true) Yt,Yt⟩) rfl⟩,Yt⟩) hC (by decide))
  (fun z q hq=>by simp at hq; rcases hq with rfl|rfl<;>exact Y1x _) _ (fun x=>rfl) ?_ ?_ ?_
 . rintro C2 hC2 pre x z ⟨-, rfl⟩ hlen;have hx:=hmem x.val x.2;have hst:=ZgV t.l (pre.map (·.val)) x.val;have hz:=Zk1 h.good.small (xs:=pre.map (·.val)) fun r hr=>by obtain⟨y,_,rfl⟩:=Y0i.1 hr; have:=hmem _ y.2; omega
   have hsl:=Zd2 t.l h.good.small (show x.val<64 by omega);refine gd 18 ⟨?_⟩;refine Qd (Z3T t.l S x.val hx.1 (by omega)) ⟨Zk _ _,Yt,Yt⟩ ?_;refine Qd (Z1D _ _ hz hsl) ⟨Z2 _,Z2 _,Yt⟩ ?_;rw [<- hst];refine go ?_
   exact⟨.inl rfl,pre.map (·.val) ++ [x.val],fun i=>i,⟨rfl,by rw [Y0r]; rfl⟩,fun i hi=>rfl,Zr,
    ⟨Qp hpp,Qp (Zi c),Qt 0 0 0,Qt 1 0 0,Qp ⟨⟨Z6 _,Yt⟩,Yt⟩,Yt⟩,
    ⟨Qs ⟨⟨Yt,Yt⟩,Yt⟩,Qs ⟨⟨Z6 _,Yt⟩,Yt⟩,Yt⟩⟩
 . rintro xs z hxs ⟨-, rfl⟩;rw [hxs];refine go ?_;exact Z7 rfl (Z2 _) rfl
 . rintro ex pre z - ⟨rfl,_⟩ (h|⟨id,h⟩)<;>cases h
theorem Z2N {t:PB} (h:Xv t) (hn:t.n<=5) (S:List Nat):X7 Tryz.prog 50 [.agg (pbP t S)] fun r=>∃ R,XZ t R/\r=XC R:=by
 have hpp:=ZH t S;have hrb:=h.rl;have hnb:=h.nl;have hgb:=h.gk;have hgm:(t.gl.map cuC).length=t.gl.length:=Y0f ..;have hrm:(t.rs.map ruP).length=t.rs.length:=Y0f ..;have hnm:(t.nv.map cuC).length=t.nv.length:=Y0f ..;have hgp:=Zc Zi t.gl;have hnp:=Zc Zi t.nv;have hrp:=Zs t.rs;refine Yp ok50 fun C hC=>?_;refine Zn ?_;refine Za ?_;refine Z5 rfl rfl rfl ?_;refine gd 13 ⟨?_⟩;refine Qe (Z2A h S) ⟨hpp,Yt⟩ ?_;refine go ?_;refine ZB hC (fun (z:Nat×Nat)=>z.1<=t.gl.length/\X4E t z.2/\∀ c∈t.gl.take z.1,X1b t.l c ||| z.2=z.2) (fun z=>t.gl.length-z.1) 2 (fun z => [(1,.cp (pbP t S)),(2,.ptr 0 0 0),(3,.ptr 1 0 0),(17,.vec (t.gl.map cuC) false),(18,.val (.int .i64 (t.gl.length:Int))),(19,Yv z.1)]) (fun z => [(0,⟨1,[[.vec [] true]]⟩),(1,sBx z.2)]) (by decide) (0,0) ⟨Y0l _,X4E.zero t,fun c hc=>by simp at hc⟩
  (fun i=>i) (fun _ _=>rfl) (Zw rfl) ⟨Qp hpp,Qt 0 0 0,Qt 1 0 0,Qp hgp,⟨_,by rw [<- hgm]; rfl,.pure _ Yt⟩,Qp Yt,Yt⟩
  ⟨Qs ⟨⟨Yt,Yt⟩,Yt⟩,⟨by decide,⟨1,[[.vec [] true]]⟩,rfl,by show Xr _ _ _ ⟨1,[[.vec (X5 (X9 0)) false]]⟩; rw [ZL]; exact Xr.single (ρ:=fun i=>i) (l0 := [.vec [] true]) (l := [.vec [] false]) (show X2o _ _ [_] [_] from ⟨.low (.vec [] true) Yt,Yt⟩) rfl⟩,Yt⟩ ?_
 rintro⟨i,acc⟩ ⟨hi,hl,hg⟩;dsimp only at hi hl hg ⊢;have hinc:IntKind.i64.wrap ((i:Int)+1)=((i+1:Nat):Int):=Y0v _ ⟨by omega,by omega⟩;refine gd 20 ⟨?_⟩;by_cases hil:i<t.gl.length
 . refine Qo (Qy rfl (by omega)) ?_;have hc:=(h.gl _ (Y0j hil)).1;have htk:∀ x,x∈t.gl.take (i+1)↔x∈t.gl.take i \/ x=t.gl[i]:=fun x=>Z23 hil;have hget:=Y0j hil;refine gd 21 ⟨?_⟩;refine Qo (Zq (xs:=t.gl) (g:=cuC) rfl rfl i rfl hil rfl) ?_;generalize t.gl[i]=c at hc htk hget;have hd:=Zds h hn hc;refine gd 26 ⟨?_⟩;refine Qd (Z2Y h hn S c hc) ⟨hpp,Zi c,Yt⟩ ?_;refine Qd (Z1D acc (X1b t.l c) hl.lt hd) ⟨Z2 _,Z2 _,Yt⟩ ?_;refine go ?_
   refine⟨(i+1,acc ||| X1b t.l c),fun i=>i,⟨hil,hl.add hd fun R' h' _=>h'.gl c hget,fun x hx=>?_⟩,by show t.gl.length-(i+1)<t.gl.length-i; omega,fun _ _=>rfl,Zr,
    ⟨Qp hpp,Qt 0 0 0,Qt 1 0 0,Qp hgp,Qp Yt,⟨_,by show some _=some _; rw [hinc],.pure _ Yt⟩,Yt⟩,⟨Qs ⟨⟨Yt,Yt⟩,Yt⟩,Qs ⟨⟨Z6 _,Yt⟩,Yt⟩,Yt⟩⟩
   rcases (htk x).1 hx with hx|rfl
   . exact Z4j (hg x hx) (Z8i _ _)
   . exact ZkF _ _
 have hg0:X62 t acc:=⟨hl,fun c hc=>hg c (by rw [Yw (by omega)]; exact hc)⟩
 clear hl hg hinc;refine Qo (Qz rfl (by omega)) ?_;refine go ?_;refine ZB hC (fun (a:Nat)=>X62 t a) (fun a=>18446744073709551616-a) 2 (fun a => [(1,.cp (pbP t S)),(2,.ptr 0 0 0),(3,.ptr 1 0 0)]) (fun a => [(0,⟨1,[[.vec [] true]]⟩),(1,sBx a)]) (by decide) acc hg0 (fun i=>i) (fun _ _=>rfl) Zr
  ⟨Qp hpp,Qt 0 0 0,Qt 1 0 0,Yt⟩ ⟨Qs ⟨⟨Yt,Yt⟩,Yt⟩,Qs ⟨⟨Z6 _,Yt⟩,Yt⟩,Yt⟩ ?_
 clear hg0 hi hil;intro old ho;refine go ?_;refine ZB hC (fun (z:Nat×Nat)=>z.1<=t.rs.length/\X4O t old z.1 z.2) (fun z=>t.rs.length-z.1) 3 (fun z => [(1,.cp (pbP t S)),(2,.ptr 0 0 0),(3,.ptr 1 0 0),(6,.ptr 2 0 0),(31,.vec (t.rs.map ruP) false),(32,.val (.int .i64 (t.rs.length:Int))),(33,Yv z.1)]) (fun z => [(0,⟨1,[[.vec [] true]]⟩),(1,sBx z.2),(2,sBx old)]) (by decide) (0,old) ⟨Y0l _,⟨ho.l,Nat.or_self _,fun _ x hx=>by simp at hx⟩⟩
  (fun i=>i) (fun _ _=>rfl) (Zw rfl) ⟨Qp hpp,Qt 0 0 0,Qt 1 0 0,Qt 2 0 0,Qp hrp,⟨_,by rw [<- hrm]; rfl,.pure _ Yt⟩,Qp Yt,Yt⟩
  ⟨Qs ⟨⟨Yt,Yt⟩,Yt⟩,Qs ⟨⟨Z6 _,Yt⟩,Yt⟩,Qs ⟨⟨Z6 _,Yt⟩,Yt⟩,Yt⟩ ?_
 clear i acc;rintro⟨i,acc⟩ ⟨hi,hR⟩;dsimp only at hi hR ⊢;have hinc:IntKind.i64.wrap ((i:Int)+1)=((i+1:Nat):Int):=Y0v _ ⟨by omega,by omega⟩;refine gd 34 ⟨?_⟩;by_cases hil:i<t.rs.length
 . refine Qo (Qy rfl (by omega)) ?_;have hx:=h.rs _ (Y0j hil);have hsk:=hR.skip hil;have had:=hR.add hil;have hal:=hR.l.lt;refine gd 35 ⟨?_⟩;refine Qo (Zq (xs:=t.rs) (g:=ruP) rfl rfl i rfl hil rfl) ?_;generalize t.rs[i]=x at hx hsk had;have hd:=Zds h hn hx.cu;have hxt:=hx.tg;have hh:=Z1p acc hal x.tg;cases hv:x.rev
   case true =>
    refine gd 38 ⟨?_⟩;refine Qo (Z8 (v:=true) rfl hv) ?_;refine go ?_
    exact⟨(i+1,acc),fun i=>i,⟨hil,hsk (.inl hv)⟩,by show t.rs.length-(i+1)<t.rs.length-i; omega,fun _ _=>rfl,Zr,
     ⟨Qp hpp,Qt 0 0 0,Qt 1 0 0,Qt 2 0 0,Qp hrp,Qp Yt,⟨_,by show some _=some _; rw [hinc],.pure _ Yt⟩,Yt⟩,⟨Qs ⟨⟨Yt,Yt⟩,Yt⟩,Qs ⟨⟨Z6 _,Yt⟩,Yt⟩,Qs ⟨⟨Z6 _,Yt⟩,Yt⟩,Yt⟩⟩
   refine gd 38 ⟨?_⟩;refine Qo (Z8 (v:=false) rfl hv) ?_;refine gd 44 ⟨?_⟩;refine ZC rfl ?_;refine Qe hh ⟨Z2 _,Yt,Yt⟩ ?_;cases hb:acc.testBit x.tg
   case false =>
    refine go ?_
    exact⟨(i+1,acc),fun i=>i,⟨hil,hsk (.inr hb)⟩,by show t.rs.length-(i+1)<t.rs.length-i; omega,fun _ _=>rfl,Zr,
     ⟨Qp hpp,Qt 0 0 0,Qt 1 0 0,Qt 2 0 0,Qp hrp,Qp Yt,⟨_,by show some _=some _; rw [hinc],.pure _ Yt⟩,Yt⟩,⟨Qs ⟨⟨Yt,Yt⟩,Yt⟩,Qs ⟨⟨Z6 _,Yt⟩,Yt⟩,Qs ⟨⟨Z6 _,Yt⟩,Yt⟩,Yt⟩⟩
   refine gd 50 ⟨?_⟩;refine Qd (Z2Y h hn S x.cu hx.cu) ⟨hpp,Zi x.cu,Yt⟩ ?_;refine Qd (Z1D acc (X1b t.l x.cu) hal hd) ⟨Z2 _,Z2 _,Yt⟩ ?_;refine go ?_
   exact⟨(i+1,acc ||| X1b t.l x.cu),fun i=>i,⟨hil,had hd hv hb⟩,by show t.rs.length-(i+1)<t.rs.length-i; omega,fun _ _=>rfl,Zr,
    ⟨Qp hpp,Qt 0 0 0,Qt 1 0 0,Qt 2 0 0,Qp hrp,Qp Yt,⟨_,by show some _=some _; rw [hinc],.pure _ Yt⟩,Yt⟩,⟨Qs ⟨⟨Yt,Yt⟩,Yt⟩,Qs ⟨⟨Z6 _,Yt⟩,Yt⟩,Qs ⟨⟨Z6 _,Yt⟩,Yt⟩,Yt⟩⟩
 have hN:=hR.done (by omega);clear hR hinc;refine Qo (Qz rfl (by omega)) ?_;refine go ?_;refine ZB hC (fun (z:Nat×Nat)=>z.1<=t.nv.length/\X41 t old z.1 z.2) (fun z=>t.nv.length-z.1) 3 (fun z => [(1,.cp (pbP t S)),(2,.ptr 0 0 0),(3,.ptr 1 0 0),(6,.ptr 2 0 0),(54,.vec (t.nv.map cuC) false),(55,.val (.int .i64 (t.nv.length:Int))),(56,Yv z.1)]) (fun z => [(0,⟨1,[[.vec [] true]]⟩),(1,sBx z.2),(2,sBx old)]) (by decide) (0,acc) ⟨Y0l _,hN⟩
  (fun i=>i) (fun _ _=>rfl) (Zw rfl) ⟨Qp hpp,Qt 0 0 0,Qt 1 0 0,Qt 2 0 0,Qp hnp,⟨_,by rw [<- hnm]; rfl,.pure _ Yt⟩,Qp Yt,Yt⟩
  ⟨Qs ⟨⟨Yt,Yt⟩,Yt⟩,Qs ⟨⟨Z6 _,Yt⟩,Yt⟩,Qs ⟨⟨Z6 _,Yt⟩,Yt⟩,Yt⟩ ?_
 clear hN hi hil;rintro⟨i,acc⟩ ⟨hi,hR⟩;dsimp only at hi hR ⊢;have hinc:IntKind.i64.wrap ((i:Int)+1)=((i+1:Nat):Int):=Y0v _ ⟨by omega,by omega⟩;have hal:=hR.l.lt;refine gd 57 ⟨?_⟩;by_cases hil:i<t.nv.length
 . refine Qo (Qy rfl (by omega)) ?_;have hx:=(h.nv _ (Y0j hil)).1;have hsk:=hR.skip hil;have had:=hR.add hil;refine gd 58 ⟨?_⟩;refine Qo (Zq (xs:=t.nv) (g:=cuC) rfl rfl i rfl hil rfl) ?_;generalize t.nv[i]=c at hx hsk had;have hd:=Zds h hn hx;refine gd 62 ⟨?_⟩;refine Qe (Z2Y h hn S c hx) ⟨hpp,Zi c,Yt⟩ ?_;refine gd 65 ⟨?_⟩;refine Qe (Z4a (X1b t.l c) acc hd hal) ⟨Z2 _,Z2 _,Yt⟩ ?_;by_cases hm:X1b t.l c &&& acc=0
   . rw [Y0w (Y3v.2 hm)];refine go ?_
     exact⟨(i+1,acc),fun i=>i,⟨hil,hsk hm⟩,by show t.nv.length-(i+1)<t.nv.length-i; omega,fun _ _=>rfl,Zr,
      ⟨Qp hpp,Qt 0 0 0,Qt 1 0 0,Qt 2 0 0,Qp hnp,Qp Yt,⟨_,by show some _=some _; rw [hinc],.pure _ Yt⟩,Yt⟩,⟨Qs ⟨⟨Yt,Yt⟩,Yt⟩,Qs ⟨⟨Z6 _,Yt⟩,Yt⟩,Qs ⟨⟨Z6 _,Yt⟩,Yt⟩,Yt⟩⟩
   rw [Ye hm];refine gd 68 ⟨?_⟩;refine Qe (Z1D acc (X1b t.l c) hal hd) ⟨Z2 _,Z2 _,Yt⟩ ?_;refine go ?_
   exact⟨(i+1,acc ||| X1b t.l c),fun i=>i,⟨hil,had hd hm⟩,by show t.nv.length-(i+1)<t.nv.length-i; omega,fun _ _=>rfl,Zr,
    ⟨Qp hpp,Qt 0 0 0,Qt 1 0 0,Qt 2 0 0,Qp hnp,Qp Yt,⟨_,by show some _=some _; rw [hinc],.pure _ Yt⟩,Yt⟩,⟨Qs ⟨⟨Yt,Yt⟩,Yt⟩,Qs ⟨⟨Z6 _,Yt⟩,Yt⟩,Qs ⟨⟨Z6 _,Yt⟩,Yt⟩,Yt⟩⟩
 refine Qo (Qz rfl (by omega)) ?_;refine gd 72 ⟨?_⟩;refine Qe (Z4x acc old hal ho.l.lt) ⟨Z2 _,Z2 _,Yt⟩ ?_;by_cases he:acc=old
 . rw [Ye he];subst he;refine go ?_;exact Z7 rfl (Z2 _) ⟨acc,hR.done ho (by omega),rfl⟩
 rw [Y0w he];have hlt:=Zgo hR.sub he;refine go ?_
 exact⟨acc,fun i=>i,hR.next ho,by omega,fun _ _=>rfl,Zr,
  ⟨Qp hpp,Qt 0 0 0,Qt 1 0 0,Yt⟩,⟨Qs ⟨⟨Yt,Yt⟩,Yt⟩,Qs ⟨⟨Z6 _,Yt⟩,Yt⟩,Yt⟩⟩
end
section
open Go.RowKit
section
variable {P:Program} {C:Ctx} {e:Env} {h:X1} {n:Nat} {F:XE} {φ:XF} {a:Act} {w:World}
theorem Zk3 {F:XE} {φ φ':XF} {l m:List PV} (hl:l.length=m.length) (h:∀ i v,i<m.length->Rep F φ v (l.getD i pvu)->Rep F φ' v (m.getD i pvu)) {v:Value} (hr:Rep F φ v (.agg l)):Rep F φ' v (.agg m):=by
 obtain⟨vs,rfl,h1,h2,h3⟩:=hr.agg_inv;exact .agg vs m (by rw [h1,hl]) (fun i hi=>h2 i (by rw [hl]; exact hi)) fun i hi=>h i _ hi (h3 i (by rw [hl]; exact hi))
end
end
section
open Go.RowKit
attribute [local irreducible] aw Xj dK
section
variable {v0 v1 v2 v3 v4 v5:PV} {e:Int}
end
theorem ZgW {n:Int} {l:List Pr} {s0:Nat} {rs:List RI} {nv gl:List Cu} (hc:X4o n l s0 rs nv gl=0):(1<=n/\n<=63)/\rs.length<=64/\knB (mkN n.toNat) l s0 rs (X2f rs nv gl)=true/\(X2f rs nv gl).any emC=false/\rs.all X4L=true/\soC nv (clo l s0)=false:=by
 unfold X4o at hc;by_cases h1:n<1 \/ 63<n
 . rw [Y5 h1] at hc; exact absurd hc (by decide)
 rw [Y6 h1] at hc;by_cases h2:64<rs.length \/ 2000<nv.length \/ 2000<gl.length
 . rw [Y5 h2] at hc; exact absurd hc (by decide)
 rw [Y6 h2] at hc;cases h3:knB (mkN n.toNat) l s0 rs (X2f rs nv gl) with
 | false=>rw [h3,Y5 rfl] at hc; exact absurd hc (by decide)
 | true =>
   rw [h3,Y6 (by decide)] at hc;cases h4:(X2f rs nv gl).any emC with
   | true=>rw [h4,Y5 (.inl rfl)] at hc; exact absurd hc (by decide)
   | false =>
     cases h5:rs.all X4L with
     | false=>rw [h5,Y5 (.inr rfl)] at hc; exact absurd hc (by decide)
     | true =>
       rw [h4,h5,Y6 (by simp)] at hc;cases h6:soC nv (clo l s0) with
       | true=>rw [h6,Y5 rfl] at hc; exact absurd hc (by decide)
       | false=>exact⟨by omega,by omega,rfl,rfl,rfl,rfl⟩
theorem Z8n (xs:List RU) (fl:Bool) (hlen:xs.length<=1000000):X1l Tryz.prog 19 [.vec (xs.map ruP) fl] .own ⟨5,xs.map ruP⟩:=by
 refine Z1b ok19 (Y0 rfl) fun C hC=>?_;have fin:∀ (x:RU) (xs:List RU),(∀ c∈(x :: xs).map ruP,c.length=5):=fun x xs c hc=>by obtain⟨y,_,rfl⟩:=Y0i.1 hc; rfl
 cases xs with
 | nil =>
   refine go ?_;refine Z3c (.inl ⟨_,_,rfl⟩) rfl fun b=>?_;cases b
   . repeat' (first | refine Zb (Zt (k := 5) rfl 5 (by decide)) ?_ | (first|refine st ?_|(apply B<;>intro hb<;>try cases hb)))
     exact⟨_,_,rfl,.inl rfl,_,rfl,rfl⟩
   . iterate 6 (first|refine st ?_|(apply B<;>intro hb<;>try cases hb))
     refine Z1S (Zt (k:=2) rfl 5 (by decide) _) ?_;refine go ?_;exact⟨_,_,rfl,.inl rfl,_,rfl,rfl⟩
 | cons x xs =>
   repeat' (first|refine Zb (Zt (k:=5) rfl 5 (by decide)) ?_|(first|refine st ?_|(apply B<;>intro hb<;>try cases hb)))
   refine ZG (Zu (k:=0) (m:=(x :: xs).map ruP) (fl:=fl) rfl rfl rfl (fin x xs) rfl (by
    show (([]:List (List PV)).length+((x :: xs).map ruP).length)*72<=_
    rw [Y0f,Y2V];omega)) rfl rfl ?_
   refine go ?_;exact⟨_,_,rfl,.inl rfl,_,rfl,by rw [Y1h]; rfl⟩
theorem Z4m (xs:List Cu) (fl:Bool) (hlen:xs.length<=1000000):X1l Tryz.prog 20 [.vec (xs.map cuC) fl] .own ⟨2,xs.map cuC⟩:=by
 refine Z1b ok20 (Y0 rfl) fun C hC=>?_;refine gd 4 ⟨?_⟩;refine Z2v (Z5w xs fl hlen) Z2o (Z0 _) rfl rfl ⟨Z0 _,Yt⟩ ?_;refine go ?_;exact⟨_,_,rfl,.inl rfl,0,rfl,rfl⟩
def ruK (q:RU×Nat):List PV:=ruP q.1
def kzP (t:PB) (R i:Nat):List (RU×Nat):=(t.rs.zipIdx.take i).filter fun q=>R.testBit q.1.tg
theorem Zit {t:PB} {R i:Nat} (h:i<t.rs.length):kzP t R (i+1)=kzP t R i++if R.testBit t.rs[i].tg then [(t.rs[i],i)] else []:=by
 unfold kzP;have hl:i<t.rs.zipIdx.length:=by rw [Y48]; exact h
 rw [YX,Y0c hl,Y2u];congr 1;have:t.rs.zipIdx[i]=(t.rs[i],i):=by simp
 rw [this];show List.filter _ [_]=_;rw [List.filter_cons]
 rfl
theorem Zk4 {t:PB} {R i:Nat} (h:t.rs.length<=i):kzP t R i=kzL t R:=by
 unfold kzP kzL;rw [Yw (by rw [Y48]; exact h)]
theorem Zk5 (t:PB) (R i:Nat):(kzP t R i).length<=i:=Y03 (Y1F ..) (by rw [Y0o]; exact Y3k _ _)
noncomputable def nvP (t:PB) (R i:Nat):List Cu:=(t.nv.take i).filter fun c=>decide (X1b t.l c &&& R≠0)
theorem Ziu {t:PB} {R i:Nat} (h:i<t.nv.length):nvP t R (i+1)=nvP t R i++if decide (X1b t.l t.nv[i] &&& R≠0) then [t.nv[i]] else []:=by
 unfold nvP;rw [YX,Y0c h,Y2u];congr 1;show List.filter _ [_]=_;rw [List.filter_cons]
 rfl
theorem Zk6 (t:PB) (R i:Nat):(nvP t R i).length<=i:=Y03 (Y1F ..) (by rw [Y0o]; exact Y3k _ _)
theorem Ziv (l:List (RU×Nat)) (x:RU) (i:Nat):l.map ruK ++ [ruP x]=(l ++ [(x,i)]).map ruK:=by simp [ruK]
theorem Ziw (l:List (RU×Nat)) (x:RU) (i:Nat):inL (l.map (·.2)) ++ [X3o i]=inL ((l ++ [(x,i)]).map (·.2)):=by simp [inL]
theorem Zk7 (l:List Cu) (c:Cu):l.map cuC ++ [cuC c]=(l ++ [c]).map cuC:=by simp
theorem Z3y (l:List (RU×Nat)):X3 (l.map ruK):=Zc (enc:=ruK) (fun q=>by have:=Zs [q.1]; exact this.1) l
def z6:List PV := [.val (.int .i64 0),.val (.pointer none),.vec [] true,.vec [] true,.vec [] true,.vec [] true]
theorem ZeF {t:PB} (h:Xv t) (S:List Nat):X7 Tryz.prog 6 [.agg (pbP t S)] (· = .agg (pbP t S)):=by
 have hrl:=h.rl;have hnl:=h.nl;have hgk:=h.gk;refine Yp ok6 fun C hC=>?_;refine gd 5 ⟨?_⟩;refine Z3j (Z8n t.rs false (by omega)) Z2o (Zs _) rfl rfl rfl ⟨Zs _,Yt⟩ ?_;refine gd 8 ⟨?_⟩;refine Z3j (Z4m t.nv false (by omega)) Z2o (Z0 _) rfl rfl rfl ⟨Z0 _,Yt⟩ ?_;refine gd 11 ⟨?_⟩;refine Z3j (Z4m t.gl false (by omega)) Z2o (Z0 _) rfl rfl rfl ⟨Z0 _,Yt⟩ ?_;refine gd 15 ⟨?_⟩;refine Zb (Zp (ob:=0) (id:=4) (i0:=0) (j0:=3) rfl rfl (by decide) (Zs _) (Y0 rfl) (Y0 rfl) rfl) ?_;refine Zb (Zp (ob:=0) (id:=7) (i0:=0) (j0:=4) rfl rfl (by decide) (Z0 _) (Y0 rfl) (Y0 rfl) rfl) ?_;refine Zb (Zp (ob:=0) (id:=10) (i0:=0) (j0:=5) rfl rfl (by decide) (Z0 _) (Y0 rfl) (Y0 rfl) rfl) ?_;refine go ?_;exact Z7 rfl (ZH t S) rfl
theorem Zaw {t:PB} (h:Xv t) (hn:t.n<=5) (S:List Nat):X7 Tryz.prog 49 [.agg (pbP t S)] fun r=>∃ R,XZ t R/\r=.tup [.agg (pbP (Xl t R) S),.vec (inL (X1T t R)) false,.val (.int .i64 0)]:=by
 have hpp:=ZH t S;have hrb:=h.rl;have hnb:=h.nl;have hrm:(t.rs.map ruP).length=t.rs.length:=Y0f ..;have hnm:(t.nv.map cuC).length=t.nv.length:=Y0f ..;have hnp:=Zc Zi t.nv;have hrp:=Zs t.rs;refine Yp ok49 fun C hC=>?_;refine Zn ?_;refine Za ?_;refine Z5 rfl rfl rfl ?_;refine gd 15 ⟨?_⟩;refine Qe (Z2A h S) ⟨hpp,Yt⟩ ?_;refine gd 21 ⟨?_⟩;refine Zx rfl rfl (Z2N h hn S) ⟨hpp,Yt⟩ rfl ?_;rintro r ⟨R,hR,rfl⟩;refine gd 23 ⟨?_⟩;refine Qe (ZeF h S) ⟨hpp,Yt⟩ ?_;refine gd 31 ⟨?_⟩;refine Qd (Z2K t.st R (InS.lt h.n.2 h.st) hR.lt) ⟨Z2 _,Z2 _,Yt⟩ ?_;refine gd 35 ⟨?_⟩;refine Zb (ZP (id:=14) (i0:=0) (j0:=3) rfl (Y0 rfl) (Y0 rfl) rfl 5 (by decide) (by decide)) ?_;refine Zb (Zt (k:=9) rfl 1 (by decide)) ?_;refine go ?_;have hz6:∀ D,X24 D z6:=fun D=>⟨Yt,Yt,Yt,Yt,Yt,Yt,Yt⟩
 refine ZB hC (fun i=>i<=t.rs.length) (fun i=>t.rs.length-i) 18 (fun i => [(1,.cp (pbP t S)),(2,.ptr 0 0 0),(6,.ptr 1 0 0),(7,.ptr 2 0 0),(8,.ptr 14 0 0),(9,.own 17),(36,.vec (t.rs.map ruP) false),(37,.val (.int .i64 (t.rs.length:Int))),(38,Yv i)]) (fun i => [(0,⟨6,[z6]⟩),(1,sBx R),(2,⟨6,[pbP t S]⟩),(14,⟨6,[[.val (.int .i64 (t.n:Int)),XL t.l S,.vec (X5 (X9 (t.st &&& R))) false,.own 16,.vec [] true,.vec (t.gl.map cuC) false]]⟩),(16,⟨5,(kzP t R i).map ruK⟩),(17,⟨1,inL ((kzP t R i).map (·.2))⟩)]) (by decide) 0 (Y0l _)
  (fun i=>i) (fun _ _=>rfl) Zr ⟨Qp hpp,Qt 0 0 0,Qt 1 0 0,Qt 2 0 0,Qt 14 0 0,Qw 17,Qp hrp,⟨_,by rw [<- hrm]; rfl,.pure _ Yt⟩,Qp Yt,Yt⟩ ⟨Qs ⟨⟨Yt,Yt,Yt,Yt,Yt,Yt,Yt⟩,Yt⟩,Qs ⟨⟨Z6 _,Yt⟩,Yt⟩,Qs ⟨hpp,Yt⟩,⟨by decide,_,rfl,Xr.single ⟨.pure _ Yt,.pure _ (Zk _ _),.pure _ (Z6 _),.own (ρ:=fun i=>i) 16 (by decide),.pure _ Yt,.pure _ (Z0 _),Yt⟩ rfl⟩,Qs Yt,Qs Yt,Yt⟩ ?_
 intro i hi;have hinc:IntKind.i64.wrap ((i:Int)+1)=((i+1:Nat):Int):=Y0v _ ⟨by omega,by omega⟩;refine gd 39 ⟨?_⟩;by_cases hil:i<t.rs.length
 . refine Qo (Qy rfl (by omega)) ?_;have hsu:=Zit (R:=R) hil;have hkl:=Zk5 t R i;have hxo:=h.rs _ (Y0j hil);generalize kzP t R i=K at hsu hkl;refine gd 41 ⟨?_⟩;refine Qo (Zq (xs:=t.rs) (g:=ruP) rfl rfl i rfl hil rfl) ?_;generalize t.rs[i]=x at hsu hxo;refine gd 46 ⟨?_⟩;refine Qe (Z1p R hR.lt x.tg) ⟨Z2 _,Yt,Yt⟩ ?_;cases hb:R.testBit x.tg
   case false =>
    rw [hb,Y6 (by decide),Y0p] at hsu;refine go ?_
    exact⟨i+1,fun i=>i,hil,by omega,fun _ _=>rfl,Zr,
     ⟨Qp hpp,Qt 0 0 0,Qt 1 0 0,Qt 2 0 0,Qt 14 0 0,Qw 17,Qp hrp,Qp Yt,⟨_,by show some _=some _; rw [hinc],.pure _ Yt⟩,Yt⟩,⟨Qs ⟨⟨Yt,Yt,Yt,Yt,Yt,Yt,Yt⟩,Yt⟩,Qs ⟨⟨Z6 _,Yt⟩,Yt⟩,Qs ⟨hpp,Yt⟩,⟨by decide,_,rfl,Xr.single ⟨.pure _ Yt,.pure _ (Zk _ _),.pure _ (Z6 _),.own (ρ:=fun i=>i) 16 (by decide),.pure _ Yt,.pure _ (Z0 _),Yt⟩ rfl⟩,⟨by decide,_,rfl,by rw [hsu]; exact .same _ (Z3y _)⟩,⟨by decide,_,rfl,by rw [hsu]; exact .same _ (Zz _)⟩,Yt⟩⟩
   rw [hb,Y5 rfl] at hsu;refine gd 51 ⟨?_⟩
   refine ZG (Zu (k:=16) (m := [ruP x]) (fl:=true) rfl rfl rfl (fun q hq=>by rw [Y0g] at hq; subst hq; rfl) rfl (by
    show ((K.map ruK).length+1)*72<=_
    rw [Y0f];omega)) rfl rfl ?_
   simp only;rw [Ziv K x i];refine gd 55 ⟨?_⟩
   refine ZG (Zu (k:=17) (m := [X3o i]) (fl:=true) rfl rfl rfl (fun q hq=>by rw [Y0g] at hq; subst hq; rfl) rfl (by
    show ((inL (K.map (·.2))).length+1)*8<=_
    rw [Z3t,Y0f];omega)) rfl rfl ?_
   simp only;rw [Ziw K x i];refine go ?_
   exact⟨i+1,fun i=>mv 16 19 (mv 17 20 i),hil,by omega,fun i hi=>absurd hi (YJ i),Zw rfl,
    ⟨Qp hpp,Qt 0 0 0,Qt 1 0 0,Qt 2 0 0,Qt 14 0 0,Qw 17,Qp hrp,Qp Yt,⟨_,by show some _=some _; rw [hinc],.pure _ Yt⟩,Yt⟩,⟨Qs ⟨⟨Yt,Yt,Yt,Yt,Yt,Yt,Yt⟩,Yt⟩,Qs ⟨⟨Z6 _,Yt⟩,Yt⟩,Qs ⟨hpp,Yt⟩,⟨by decide,_,rfl,Xr.single ⟨.pure _ Yt,.pure _ (Zk _ _),.pure _ (Z6 _),.own (ρ:=fun i=>mv 16 19 (mv 17 20 i)) 16 (by decide),.pure _ Yt,.pure _ (Z0 _),Yt⟩ rfl⟩,⟨by decide,_,rfl,by rw [hsu]; exact .same _ (Z3y _)⟩,⟨by decide,_,rfl,by rw [hsu]; exact .same _ (Zz _)⟩,Yt⟩⟩
 have hie:t.rs.length<=i:=by omega
 rw [Zk4 hie];refine Qo (Qz rfl (by omega)) ?_;refine gd 58 ⟨?_⟩;refine Zb (Zp (ob:=14) (id:=16) (i0:=0) (j0:=3) rfl rfl (by decide) (Z3y _) (Y0 rfl) (Y0 rfl) rfl) ?_;refine Zb (Zm (k:=9) (id:=17) (b:=⟨1,inL ((kzL t R).map (·.2))⟩) rfl rfl (Zz _)) ?_;refine Zb (ZP (id:=14) (i0:=0) (j0:=4) rfl (Y0 rfl) (Y0 rfl) rfl 2 (by decide) (by decide)) ?_;refine go ?_;refine ZB hC (fun i=>i<=t.nv.length) (fun i=>t.nv.length-i) 19 (fun i => [(1,.cp (pbP t S)),(2,.ptr 0 0 0),(6,.ptr 1 0 0),(8,.ptr 14 0 0),(9,.vec (inL ((kzL t R).map (·.2))) false),(59,.vec (t.nv.map cuC) false),(60,.val (.int .i64 (t.nv.length:Int))),(61,Yv i)]) (fun i => [(0,⟨6,[z6]⟩),(1,sBx R),(14,⟨6,[[.val (.int .i64 (t.n:Int)),XL t.l S,.vec (X5 (X9 (t.st &&& R))) false,.vec ((kzL t R).map ruK) false,.own 18,.vec (t.gl.map cuC) false]]⟩),(18,⟨2,(nvP t R i).map cuC⟩)]) (by decide) 0 (Y0l _)
  (fun i=>i) (fun _ _=>rfl) Zr ⟨Qp hpp,Qt 0 0 0,Qt 1 0 0,Qt 14 0 0,Qp (Zz _),Qp hnp,⟨_,by rw [<- hnm]; rfl,.pure _ Yt⟩,Qp Yt,Yt⟩ ⟨Qs ⟨⟨Yt,Yt,Yt,Yt,Yt,Yt,Yt⟩,Yt⟩,Qs ⟨⟨Z6 _,Yt⟩,Yt⟩,⟨by decide,_,rfl,Xr.single ⟨.pure _ Yt,.pure _ (Zk _ _),.pure _ (Z6 _),.pure (.vec ((kzL t R).map ruK) false) (Z3y _),.own (ρ:=fun i=>i) 18 (by decide),.pure _ (Z0 _),Yt⟩ rfl⟩,Qs Yt,Yt⟩ ?_
 intro i hi;have hinc:IntKind.i64.wrap ((i:Int)+1)=((i+1:Nat):Int):=Y0v _ ⟨by omega,by omega⟩;refine gd 62 ⟨?_⟩;by_cases hil:i<t.nv.length
 . refine Qo (Qy rfl (by omega)) ?_;have hsu:=Ziu (R:=R) hil;have hkl:=Zk6 t R i;have hx:=(h.nv _ (Y0j hil)).1;generalize nvP t R i=K at hsu hkl;refine gd 63 ⟨?_⟩;refine Qo (Zq (xs:=t.nv) (g:=cuC) rfl rfl i rfl hil rfl) ?_;generalize t.nv[i]=c at hsu hx;have hd:=Zds h hn hx;refine gd 67 ⟨?_⟩;refine Qd (Z2Y h hn S c hx) ⟨hpp,Zi c,Yt⟩ ?_;refine gd 69 ⟨?_⟩;refine Qd (Z4a (X1b t.l c) R hd hR.lt) ⟨Z2 _,Z2 _,Yt⟩ ?_;cases hb:decide (X1b t.l c &&& R≠0)
   case false =>
    rw [hb,Y6 (by decide),Y0p] at hsu;refine go ?_
    exact⟨i+1,fun i=>i,hil,by omega,fun _ _=>rfl,Zr,
     ⟨Qp hpp,Qt 0 0 0,Qt 1 0 0,Qt 14 0 0,Qp (Zz _),Qp hnp,Qp Yt,⟨_,by show some _=some _; rw [hinc],.pure _ Yt⟩,Yt⟩,⟨Qs ⟨⟨Yt,Yt,Yt,Yt,Yt,Yt,Yt⟩,Yt⟩,Qs ⟨⟨Z6 _,Yt⟩,Yt⟩,⟨by decide,_,rfl,Xr.single ⟨.pure _ Yt,.pure _ (Zk _ _),.pure _ (Z6 _),.pure (.vec ((kzL t R).map ruK) false) (Z3y _),.own (ρ:=fun i=>i) 18 (by decide),.pure _ (Z0 _),Yt⟩ rfl⟩,⟨by decide,_,rfl,by rw [hsu]; exact .same _ (Z0 _)⟩,Yt⟩⟩
   rw [hb,Y5 rfl] at hsu;refine gd 74 ⟨?_⟩
   refine ZG (Zu (k:=18) (m := [cuC c]) (fl:=true) rfl rfl rfl (fun q hq=>by rw [Y0g] at hq; subst hq; rfl) rfl (by
    show ((K.map cuC).length+1)*48<=_
    rw [Y0f];omega)) rfl rfl ?_
   simp only;rw [Zk7];refine go ?_
   exact⟨i+1,mv 18 25,hil,by omega,fun i hi=>absurd hi (YJ i),Zw rfl,
    ⟨Qp hpp,Qt 0 0 0,Qt 1 0 0,Qt 14 0 0,Qp (Zz _),Qp hnp,Qp Yt,⟨_,by show some _=some _; rw [hinc],.pure _ Yt⟩,Yt⟩,⟨Qs ⟨⟨Yt,Yt,Yt,Yt,Yt,Yt,Yt⟩,Yt⟩,Qs ⟨⟨Z6 _,Yt⟩,Yt⟩,⟨by decide,_,rfl,Xr.single ⟨.pure _ Yt,.pure _ (Zk _ _),.pure _ (Z6 _),.pure (.vec ((kzL t R).map ruK) false) (Z3y _),.own (ρ:=mv 18 25) 18 (by decide),.pure _ (Z0 _),Yt⟩ rfl⟩,⟨by decide,_,rfl,by rw [hsu]; exact .same _ (Z0 _)⟩,Yt⟩⟩
 have hie:t.nv.length<=i:=by omega
 have hnv:nvP t R i=(Xl t R).nv:=by unfold nvP; rw [Yw hie]; rfl
 rw [hnv];refine Qo (Qz rfl (by omega)) ?_;refine gd 77 ⟨?_⟩;refine Zb (Zp (ob:=14) (id:=18) (i0:=0) (j0:=4) rfl rfl (by decide) (Z0 _) (Y0 rfl) (Y0 rfl) rfl) ?_;refine go ?_;have hrs:(kzL t R).map ruK=(Xl t R).rs.map ruP:=by unfold Xl; rw [Y20]; rfl
 refine Z7 (r:=.tup [.agg [.val (.int .i64 (t.n:Int)),XL t.l S,.vec (X5 (X9 (t.st &&& R))) false,.vec ((kzL t R).map ruK) false,.vec ((Xl t R).nv.map cuC) false,.vec (t.gl.map cuC) false],.vec (inL ((kzL t R).map (·.2))) false,.val (.int .i64 0)]) rfl ⟨⟨Yt,Zk _ _,Z6 _,Z3y _,Z0 _,Z0 _,Yt⟩,Zz _,Yt,Yt⟩ ⟨R,hR,?_⟩;rw [hrs]
 rfl
end
section
open Go.RowKit
section
variable {P:Program} {e:Env} {h:X1} {n:Nat} {K:Nat->Env->X1->Prop} {os:List Xm} {d:Option Nat}
theorem Zax {vs:Array Value} {x:Value} {j:Nat} (hj:j<vs.size):(vs.push x).getD j undef=vs.getD j undef:=by
 rw [Y0d,Y0d,Array.getElem?_push,Y6 (by omega)]
theorem Zay {vs:Array Value} {x:Value}:(vs.push x).getD vs.size undef=x:=by
 rw [Y0d,Array.getElem?_push,Y5 rfl]; rfl
theorem X7.roF {g g2:FuncId} {args:List PV} {i k esz:Nat} {l caps:List PV} {v:Value} (hs:X7 P g (args.set i (.fn g2 (.cp l :: caps))) (· = .val v)) (hi:args[i]?=some (.fn g2 (.ptr k 0 0 :: caps))) (hb:h k=some ⟨esz,[l]⟩) (hpr:X6 (args.set i (.fn g2 (.cp l :: caps)))) :
 X10 P g n args h fun n' r h'=>n'=n/\r=.val v/\h'=h:=by
 refine⟨hs.1,fun C e F φ a w vs s hv=>?_⟩;have hil:i<args.length:=(Y7.1 hi).1;have hgi:args.getD i pvu=.fn g2 (.ptr k 0 0 :: caps):=by rw [Y0b,hi]; rfl
 have h0:=hv.2 i hil;rw [hgi] at h0;obtain⟨cv,hcv,hcs,hcr⟩:=h0.fn_inv;have hp0:=hcr 0 (by simp)
 let C1:Ctx:=⟨C.w0,C.G,C.F0,vs.size+1,C.φ0⟩
 let a1:Act:={ a with tmps:=vs.push (cv.getD 0 undef) }
 let e1:Env:=(XS args).upd args.length (.ptr k 0 0)
 have s1:St' C1 (fun j=>n<=j) e1 h F φ a1 w:=by
  refine { nt:=by show (vs.push _).size=_; rw [Array.size_push],glob:=s.glob,marks:=⟨s.marks.nd,s.marks.all⟩,loc0:=s.loc0,free:=s.free,env:=fun j p hp=>?_,froz:=s.froz,ext:=s.ext,old:=s.old,os:=s.os,tape:=s.tape,output:=s.output,size:=s.size,kept:=s.kept,live:=s.live,sep:=s.sep };by_cases hj:j=args.length
  . subst hj;have hp:((XS args).upd args.length (.ptr k 0 0)) args.length=some p:=hp;rw [Env.upd_same] at hp;cases hp;refine⟨by show args.length<vs.size+1; rw [hv.1]; omega,?_⟩;show Rep F φ ((vs.push (cv.getD 0 undef)).getD args.length undef) _;rw [<- hv.1,Zay];exact hp0
  . have hp : ((XS args).upd args.length (.ptr k 0 0)) j = some p := hp;rw [Env.upd_ne _ _ hj] at hp;have hjl:j<args.length:=(Y7.1 hp).1;refine⟨by show j<vs.size+1; rw [hv.1]; omega,?_⟩;show Rep F φ ((vs.push (cv.getD 0 undef)).getD j undef) _;rw [Zax (by rw [hv.1]; exact hjl)];have h1:=hv.2 j hjl;have e2:args.getD j pvu=p:=by
     rw [Y0b];have hp':args[j]?=some p:=hp;rw [hp']; rfl
    rw [<- e2];exact h1
 obtain⟨F2,φ2,s2⟩:=Z2r (k:=args.length) (id:=k) (e:=e1) (Env.upd_same _ _ _) hb a1 w ⟨F,φ,s1⟩;have hcp:Rep F2 φ2 (cv.getD 0 undef) (.cp l):=by
  have:=(s2.env args.length (.cp l) (Env.upd_same _ _ _)).2;have e2:a1.tmps.getD args.length undef=cv.getD 0 undef:=by
   show (vs.push (cv.getD 0 undef)).getD args.length undef=_;rw [<- hv.1,Zay]
  rwa [e2] at this
 have hold:∀ j,j<args.length->Rep F2 φ2 (vs.getD j undef) (args.getD j pvu):=fun j hj=>by
  have he:(e1.upd args.length (.cp l)) j=some (args.getD j pvu):=by
   rw [Env.upd_ne _ _ (by omega)];show ((XS args).upd args.length (.ptr k 0 0)) j=_;rw [Env.upd_ne _ _ (by omega),Y0b];show args[j]?=_;rw [Y0c hj]
   rfl
  have:=(s2.env j _ he).2;have e2:a1.tmps.getD j undef=vs.getD j undef:=Zax (by rw [hv.1]; exact hj)
  rwa [e2] at this
 have hrep:X1B F2 XA vs (args.set i (.fn g2 (.cp l :: caps))):=by
  refine⟨by rw [hv.1,Y11],fun j hj=>?_⟩;have hj':j<args.length:=by rwa [Y11] at hj
  have hpj:=ZM hpr j;by_cases hji:j=i
  . subst hji;have e2:(args.set j (.fn g2 (.cp l :: caps))).getD j pvu=.fn g2 (.cp l :: caps):=by rw [Y0b,Y3J hj']; rfl
    rw [e2] at hpj ⊢;refine Rep.pure (φ:=φ2) ?_ hpj;rw [hcv];refine .fn g2 cv _ (by rw [hcs]; rfl) fun m hm=>?_;cases m with
    | zero=>exact hcp
    | succ m =>
      have h1:=hold j hj';rw [hgi,hcv] at h1;obtain⟨cv',h2,h3,h4⟩:=h1.fn_inv;cases h2;exact h4 (m+1) hm
  . have e2 : (args.set i (.fn g2 (.cp l :: caps))).getD j pvu = args.getD j pvu := by rw [Y0b, Y0b, Y3d (Y23 hji)]
    rw [e2] at hpj ⊢;exact Rep.pure (φ:=φ2) (hold j hj') hpj
 refine (hs.2 F2 w vs ⟨s2.froz,s2.glob⟩ hrep).mono ?_;rintro en w' ⟨v',r,F3,rfl,rfl,hr,hbel,-,-,-⟩;obtain rfl:v'=v:=hr.val_inv;exact⟨v',.val v',n,h,F,φ,rfl,⟨rfl,rfl,rfl⟩,.val _,s.called hbel (Holds.kept ⟨s.froz,s.glob⟩ hbel) (fun _ _ h=>h) fun _ _=>rfl⟩
theorem Zix {f:Operand} {args:List Operand} {g g2:FuncId} {caps caps2 as0 args':List PV} {i k esz:Nat} {l:List PV} {v:Value} (hs:X7 P g args' (· = .val v)) (hf:ev e f=some (.fn g caps)) (ha:evs e args=some as0) (hi:(as0++caps)[i]?=some (.fn g2 (.ptr k 0 0 :: caps2))) (hb:h k=some ⟨esz,[l]⟩) (hargs:(as0++caps).set i (.fn g2 (.cp l :: caps2))=args') (hpr:X6 args')
 (hk:Xj P os n (Xu e d (.val v)) h K):Xj P (⟨d,.call f args,none⟩ :: os) n e h K:=by
 subst hargs;exact Z1w hf ha (hs.roF hi hb hpr) fun n' r h' hh=>by obtain⟨rfl,rfl,rfl⟩:=hh; exact hk
end
end
section
open Go.RowKit
attribute [local irreducible] aw Xj dK
def X1G (t:PB):Bool:=decide (t.nv.length=0)&&(t.rs.all (fun x=>decide (x.cu.2=0))&&t.gl.all fun c=>decide (c.2=0))
theorem Zcg {t:PB} (h:X1G t=true):X5w t:=by
 unfold X1G at h;rw [Y0k,Y0k,Y0n,YL,YL] at h;exact⟨List.length_eq_zero_iff.1 h.1,fun x hx=>Y0u (h.2.1 x hx),fun c hc=>Y0u (h.2.2 c hc)⟩
theorem ZeG (c:Cu) (hc:Xw c):X7 Tryz.prog 53 [.agg (cuC c)] (· = .val (.bool (!decide (c.2=0)))):=by
 refine Yp ok53 fun C hC=>?_;refine Zn ?_;refine Za ?_;refine Z5 rfl rfl rfl ?_;refine gd 5 ⟨?_⟩;refine Qe (Z3a c.2 hc.2) ⟨Z2 _,Yt⟩ ?_;generalize decide (c.2=0)=b;cases b
 all_goals
  refine go ?_;exact Z7 rfl Yt rfl
theorem Z3z {t:PB} (h:Xv t) (S:List Nat):X7 Tryz.prog 24 [.agg (pbP t S)] (· = .val (.bool (X1G t))):=by
 have hpp:=ZH t S;have hrb:=h.rl;have hrm:(t.rs.map ruP).length=t.rs.length:=Y0f ..;have hnm:(t.nv.map cuC).length=t.nv.length:=Y0f ..;have hpi:∀ D,X24 D (pbP t S):=fun D=>ZI (fun _ h=>h.elim) _ hpp;have hri:∀ D,Xq D (t.rs.map ruP):=fun D=>Ze (fun _ h=>h.elim) _ (Zs t.rs);refine Yp ok24 fun C hC=>?_;refine Zn ?_;refine Za ?_;refine Z5 rfl rfl rfl ?_;refine gd 6 ⟨?_⟩;refine Qe (Z2A h S) ⟨hpp,Yt⟩ ?_;refine gd 12 ⟨?_⟩;refine ZC rfl ?_;by_cases h0:t.nv.length=0
 case neg =>
  refine Qo (Qy rfl (by rw [hnm];omega)) ?_;have e:X1G t=false:=by unfold X1G; rw [Y0w h0]; rfl
  rw [e];refine go ?_;exact Z7 rfl Yt rfl
 refine Qo (Qz rfl (by rw [hnm];omega)) ?_;have e:X1G t=(t.rs.all (fun x=>decide (x.cu.2=0))&&t.gl.all fun c=>decide (c.2=0)):=by unfold X1G; rw [Ye h0]; rfl
 rw [e];refine go ?_;refine ZA hC (fun i=>i<=t.rs.length/\(t.rs.take i).all (fun x=>decide (x.cu.2=0))=true) (fun i=>t.rs.length-i) 0 (fun i => [(1,.cp (pbP t S)),(15,.vec (t.rs.map ruP) false),(16,.val (.int .i64 (t.rs.length:Int))),(17,Yv i)]) (fun _=>[]) (Y0l _) 0 ⟨Y0l _,rfl⟩
  ⟨⟨rfl,hpi _⟩,⟨rfl,hri _⟩,⟨by rw [<- hrm]; rfl,Yt⟩,⟨rfl,Yt⟩,Yt⟩ Yt ?_
 rintro i ⟨hi,hall⟩;have hinc:IntKind.i64.wrap ((i:Int)+1)=((i+1:Nat):Int):=Y0v _ ⟨by omega,by omega⟩;refine gd 18 ⟨?_⟩;by_cases hil:i<t.rs.length
 . refine Qo (Qy rfl (by omega)) ?_;have htk:=Z11 hil;have hx:=(h.rs _ (Y0j hil)).cu.lt h.n.2;have hmem:=Y0j hil;refine gd 19 ⟨?_⟩;refine Qo (Zq (xs:=t.rs) (g:=ruP) rfl rfl i rfl hil rfl) ?_;generalize t.rs[i]=x at htk hx hmem;refine gd 24 ⟨?_⟩;refine Qe (Z3a x.cu.2 hx.2) ⟨Z2 _,Yt⟩ ?_;cases hb:decide (x.cu.2=0)
   . have e2 : t.rs.all (fun x => decide (x.cu.2 = 0)) = false := by
      rw [List.all_eq_false];exact⟨x,hmem,by rw [hb]; decide⟩
     rw [e2];refine go ?_;exact Z7 rfl Yt rfl
   . refine go ?_;exact⟨i+1,⟨hil,by rw [htk,Y4w,hall]; simp only [List.all_cons,List.all_nil,hb]; rfl⟩,by omega,⟨⟨rfl,hpi _⟩,⟨rfl,hri _⟩,⟨rfl,Yt⟩,⟨by show some _=some _; rw [hinc],Yt⟩,Yt⟩,Yt⟩
 . refine Qo (Qz rfl (by omega)) ?_;rw [Yw (by omega)] at hall;rw [hall,Y1e,<- Z98];refine gd 29 ⟨?_⟩;refine Qe (Z1t t.gl cuC false 53 [] (fun c => !decide (c.2=0)) (fun _=>rfl) Zi Yt fun c hc=>ZeG c (h.gl64 c hc)) ⟨Zc Zi _,Yt,Yt⟩ ?_;generalize (t.gl.any fun c => !decide (c.2=0))=b;cases b
   all_goals
    refine go ?_;exact Z7 rfl Yt rfl
theorem ZgX {t:PB} (h:Xv t) (fin:Nat) (hf:fin<18446744073709551616) (x:RU) (hx:x∈t.rs):X7 Tryz.prog 147 [.agg (ruP x),.cp [.vec (X5 (X9 fin)) false],.cp [.vec (X5 (X9 (clo t.l fin))) false]] (· = .val (.bool (X3s t fin x))):=by
 have hx64:=(h.rs x hx).cu.lt h.n.2;refine Yp ok147 fun C hC=>?_;unfold X3s;refine Zn ?_;refine Za ?_;refine Z5 rfl rfl rfl ?_;refine gd 6 ⟨?_⟩;cases hv:x.rev
 case true =>
  refine Qo (Z8 (v:=true) rfl hv) ?_;refine go ?_;exact Z7 rfl Yt rfl
 refine Qo (Z8 (v:=false) rfl hv) ?_;refine gd 12 ⟨?_⟩;refine ZC rfl ?_;refine Qe (Z1p fin hf x.tg) ⟨Z2 _,Yt,Yt⟩ ?_;cases hb:fin.testBit x.tg
 case true =>
  refine go ?_;exact Z7 rfl Yt rfl
 refine gd 20 ⟨?_⟩;refine ZC rfl ?_;refine Qe (Z1Q x.cu.1 (clo t.l fin) hx64.1 (Z7Y _ _)) ⟨Z2 _,Z2 _,Yt⟩ ?_;generalize decide (x.cu.1 ||| clo t.l fin=clo t.l fin)=b;cases b
 all_goals
  refine go ?_;exact Z7 rfl Yt rfl
theorem ZeH {α:Type} (p:α->Bool) (xs:List α):(X2I p xs = -1/\∀ x∈xs,p x=false) \/ ∃ (k:Nat) (h:k<xs.length),X2I p xs=(k:Int)/\p xs[k]=true:=by
 induction xs with
 | nil=>exact .inl ⟨rfl,fun x hx=>absurd hx (by simp)⟩
 | cons x xs ih =>
   unfold X2I;cases hp:p x with
   | true=>exact .inr ⟨0,Nat.succ_pos _,by simp,hp⟩
   | false =>
     rcases ih with⟨h1,h2⟩|⟨k,hk,h1,h2⟩
     . exact .inl ⟨by simp [h1],fun y hy=>(YA.1 hy).elim (fun e=>e▸hp) (h2 y)⟩
     . exact .inr ⟨k+1,Nat.succ_lt_succ hk,by simp [h1]; omega,h2⟩
theorem Z7k {t:PB} (h:Xv t) (hn:t.n<=5) (hf:X5w t) (S:List Nat):X7 Tryz.prog 102 [.agg (pbP t S)] fun r=>∃ (fin:Nat) (used:List Nat),X4u t fin used/\(∀ x∈t.rs,X3s t fin x=false)/\r=.tup [XC fin,.vec (inL used) false]:=by
 have hpp:=ZH t S;have hrp:=Zs t.rs;have hrl:∀ x,(ruP x).length=5:=fun _=>rfl;have hru:∀ x,X6 (ruP x):=fun x=>(Zs [x]).1;refine Yp ok102 fun C hC=>?_;refine Zn ?_;refine Za ?_;refine Z5 rfl rfl rfl ?_;refine gd 8 ⟨?_⟩;refine go ?_;refine Z1S (Zt (k:=5) rfl 1 (by decide) C) ?_;refine ZB hC (fun (z:Nat×List Nat)=>X4u t z.1 z.2) (fun z=>100-z.1) 3 (fun z => [(1,.cp (pbP t S)),(2,.ptr 0 0 0),(4,.ptr 1 0 0),(5,.own 2)]) (fun z => [(0,⟨1,[[.vec [] true]]⟩),(1,sBx z.1),(2,⟨1,inL z.2⟩)]) (by decide) (t.st,[]) (X4u.base h) (fun i=>i) (fun _ _=>rfl) Zr
  ⟨Qp hpp,Qt 0 0 0,Qt 1 0 0,Qw 2,Yt⟩ ⟨Qs ⟨⟨Yt,Yt⟩,Yt⟩,Qs ⟨⟨Z6 _,Yt⟩,Yt⟩,Qs Yt,Yt⟩ ?_
 rintro⟨fin,used⟩ hj;dsimp only at hj ⊢;have hle:=InS.le hn hj.i.ins;have hul:=hj.ln;have hf64:fin<18446744073709551616:=by omega
 have hidx:=Z3U t.rs ruP false 147 [.cp [.vec (X5 (X9 fin)) false],.cp [.vec (X5 (X9 (clo t.l fin))) false]] (X3s t fin) hrl hru ⟨⟨Z6 _,Yt⟩,⟨Z6 _,Yt⟩,Yt⟩ fun x hx=>ZgX h fin hf64 x hx;refine gd 13 ⟨?_⟩;refine Qe (Z2i t.l S fin hf64) ⟨Zk _ _,Z2 _,Yt⟩ ?_;refine gd 14 ⟨?_⟩;refine Zb (Z1r (k:=6) (id:=3) (l := [.vec (X5 (X9 (clo t.l fin))) false]) rfl rfl ⟨Z6 _,Yt⟩) ?_;refine gd 17 ⟨?_⟩;refine Zix (i:=1) (k:=1) hidx rfl rfl rfl rfl rfl ⟨hrp,⟨⟨Z6 _,Yt⟩,⟨Z6 _,Yt⟩,Yt⟩,Yt⟩ ?_;rcases ZeH (X3s t fin) t.rs with⟨e1,hno⟩|⟨k,hk,e1,hyes⟩
 . rw [e1];refine gd 20 ⟨?_⟩;refine Zb (Zm (k:=5) (id:=2) (b:=⟨1,inL used⟩) rfl rfl (Zz _)) ?_;refine go ?_;exact Z7 rfl ⟨Z2 _,Zz _,Yt⟩ ⟨fin,used,hj,hno,rfl⟩
 rw [e1];have hxo:=h.rs _ (Y0j hk);have hst:=hj.step h hn hf (Y0c hk) hyes;have hgr:fin<fin ||| 2 ^ t.rs[k].tg:=by
  have hy:=hyes;unfold X3s at hy;rw [Y0k,Y0k,Y10,Y10] at hy;exact Zgp hy.2.1
 refine gd 19 ⟨?_⟩;refine Qo (Qz rfl (by omega)) ?_;refine gd 26 ⟨?_⟩;refine Qr (Zq (xs:=t.rs) (g:=ruP) rfl rfl k rfl hk rfl) ?_;generalize t.rs[k]=x at hxo hst hgr;have hxt:=hxo.tg;refine gd 29 ⟨?_⟩;refine Qd (Z1g fin hf64 x.tg (by omega)) ⟨Z2 _,Yt,Yt⟩ ?_;refine gd 33 ⟨?_⟩
 refine Qr (Zu (k:=2) (m := [X3o k]) (fl:=true) rfl rfl rfl (fun q hq=>by rw [Y0g] at hq; subst hq; rfl) rfl (by
  show ((inL used).length+1)*8<=_
  rw [Z3t];omega)) ?_
 simp only;have hsn:inL used ++ [X3o k]=inL (used ++ [k]):=by simp [inL]
 rw [hsn];refine go ?_
 exact⟨(fin ||| 2 ^ x.tg,used ++ [k]),mv 2 15,hst,by dsimp only; omega,fun i hi=>absurd hi (YJ i),Zw rfl,
  ⟨Qp hpp,Qt 0 0 0,Qt 1 0 0,Qw 2,Yt⟩,⟨Qs ⟨⟨Yt,Yt⟩,Yt⟩,Qs ⟨⟨Z6 _,Yt⟩,Yt⟩,Qs (Zz _),Yt⟩⟩
theorem Zch (N M:Nat) (hN:N<18446744073709551616) (hM:M<18446744073709551616):X7 Tryz.prog 103 [XC N,XC M] (· = XC (Xd N M)):=by
 have hlt:=Z4X (b:=M) hN;have hz:∀ M,Xd 0 M=0:=fun M=>Nat.le_zero.1 Y1r;have fin:∀ {r:PV} {x:Nat},x<18446744073709551616->X3C [x] r->r=XC x:=fun {r x} hx hr=>by
  have e1:=hr.set (fun y hy=>by rw [Y0g.1 hy]; exact hx);have e2:ofW [x]=x:=by simp [ofW]
  rw [e2] at e1;exact e1
 rcases Z18 hN with⟨rfl,e1⟩|⟨h1,e1⟩<;>rcases Z18 hM with⟨rfl,e2⟩|⟨h2,e2⟩<;>rw [e1]<;>(try rw [e2])<;>clear e1 e2
 all_goals
  refine Yp ok103 fun C hC=>?_;refine Zn ?_;refine Za ?_;refine Z5 rfl rfl rfl ?_;refine Z5 rfl rfl rfl ?_;refine go ?_;refine Z17 1 ?_
 . repeat' (first | refine Zb (Zm (k := 29) rfl rfl (ZT rfl)) ?_ | (first|refine st ?_|(apply B<;>intro hb<;>try cases hb)))
   refine Zx rfl rfl (Z2g []) (ZX rfl) rfl fun r hr=>?_;have e1:=hr.set (fun x hx=>by cases hx);subst e1;refine go ?_;exact Z7 rfl (Z2 _) (show XC (ofW [])=_ by rw [hz]; simp [ofW])
 . repeat' (first | refine Zb (Zm (k := 29) rfl rfl (ZT rfl)) ?_ | (first|refine st ?_|(apply B<;>intro hb<;>try cases hb)))
   refine Zx rfl rfl (Z2g []) (ZX rfl) rfl fun r hr=>?_;have e1:=hr.set (fun x hx=>by cases hx);subst e1;refine go ?_;exact Z7 rfl (Z2 _) (show XC (ofW [])=_ by rw [hz]; simp [ofW])
 . refine gd 25 ⟨?_⟩;refine Qd (Z1d [] 0) (ZX rfl) ?_;refine Qr (Z10 rfl (Z1l N 0 hN hM)) ?_
   repeat' (first|refine Zb (Zm (k:=29) rfl rfl (ZT rfl)) ?_|(first|refine st ?_|(apply B<;>intro hb<;>try cases hb)))
   refine Zx rfl rfl (Z2g [Xd N 0]) (ZX rfl) rfl fun r hr=>?_;obtain rfl:=fin hlt hr;refine go ?_;exact Z7 rfl (Z2 _) rfl
 . refine gd 25 ⟨?_⟩;refine Qd (Z1d [M] 0) (ZX rfl) ?_;refine Qr (Z10 rfl (Z1l N M hN hM)) ?_
   repeat' (first|refine Zb (Zm (k:=29) rfl rfl (ZT rfl)) ?_|(first|refine st ?_|(apply B<;>intro hb<;>try cases hb)))
   refine Zx rfl rfl (Z2g [Xd N M]) (ZX rfl) rfl fun r hr=>?_;obtain rfl:=fin hlt hr;refine go ?_;exact Z7 rfl (Z2 _) rfl
theorem Zl0 {α:Type} {esz:Nat} {e:Env} {h:X1} {n:Nat} {x hi mx:Operand} {xs:List α} {g:α->List PV} {fl:Bool} (hx:ev e x=some (.vec (xs.map g) fl)) (b:Nat) (hhi:ev e hi=some (.val (.int .i64 (b:Int)))) (hmx:ev e mx=some (.val (.int .i64 (b:Int)))) (hb:b<=xs.length) (hg:∀ x,(g x).length=esz) :
 X4 (.slc esz x none (some hi) (some mx)) e h n=some (.vec ((xs.take b).map g) true,h):=by
 have h1:XJ e 0 none=some ((0:Nat):Int):=rfl;have h2:XJ e ((xs.map g).length:Nat) (some hi)=some (b:Int):=by simp only [XJ,X1C,hhi]
 have h3:X1C (ev e mx)=some (b:Int):=by simp only [X1C,hmx]
 simp only [X4,hx];have hall:∀ c∈xs.map g,c.length=esz:=fun c hc=>by obtain⟨y,_,rfl⟩:=Y0i.1 hc; exact hg y
 rw [h1,h2,h3];dsimp only;rw [Y5 ⟨⟨by omega,by omega,by omega,by simp; omega⟩,hall⟩];simp [Y2l]
def X3I (x:Nat):List PV := [.vec (X5 (X9 (2 ^ x))) false,.vec [] true]
theorem Zaz (x:Nat):X6 (X3I x):=⟨Z6 _,Yt,Yt⟩
theorem Ziy (x:Nat):X2h (X3I x)=cuC (X5l x):=by
 show [PV.vec (Xx (X5 (X9 (2 ^ x)))) false,PV.vec [] false] = [PV.vec (X5 (X9 (2 ^ x))) false,.vec (X5 (X9 0)) false];rw [Z1x,ZL]; rfl
theorem ZaA:∀ l:List Nat,Xx (l.map X3I)=(l.map X5l).map cuC
 | []=>rfl
 | x :: l => by
   show X2h (X3I x) :: Xx (l.map X3I)=_;rw [Ziy,ZaA l]; rfl
inductive X3K (t:PB):PV->Prop
 | yes (p:List Nat) (fp fl:Bool) (hp:X1L t p) (hl:p.length<=62):X3K t (.tup [.vec (inL p) fp,.vec [] fl,.val (.bool true),.val (.int .i64 0)])
 | no (fin R:Nat) (used:List Nat) (fl:Bool) (hR:XZ t R) (hj:X4u t fin used) (hend:∀ x∈t.rs,X3s t fin x=false) (hno:Xz t fin=false):X3K t (.tup [.vec [] fl,.vec ((X4V (Xd R fin)).map cuC) false,.val (.bool false),.val (.int .i64 0)])
theorem Z7y {t:PB} (h:Xv t) (hn:t.n<=5) (hfr:X1G t=true) (S0:List Nat):X7 Tryz.prog 54 [.agg (pbP t S0)] (X3K t):=by
 have hpp:=ZH t S0;have hrp:=Zs t.rs;have hpi:∀ D,X24 D (pbP t S0):=fun D=>ZI (fun _ h=>h.elim) _ hpp;refine Yp ok54 fun C hC=>?_;refine Zn ?_;refine Za ?_;refine Z5 rfl rfl rfl ?_;refine gd 13 ⟨?_⟩;refine Qe (Z2A h S0) ⟨hpp,Yt⟩ ?_;refine gd 18 ⟨?_⟩;refine Qe (Z3z h S0) ⟨hpp,Yt⟩ ?_;rw [hfr];refine gd 22 ⟨?_⟩;refine Zx rfl rfl (Z7k h hn (Zcg hfr) S0) ⟨hpp,Yt⟩ rfl ?_;rintro r ⟨fin,used,hj,hend,rfl⟩;have hfi:=hj.i.ins;have hle:=InS.le hn hfi;have hul:=hj.ln;have hlen:=Z3t used;have hui:∀ D,Xq D (inL used):=fun D=>Ze (fun _ h=>h.elim) _ (Zz used);refine go ?_;refine ZB hC (fun (z:Nat×Nat)=>z.1<=used.length+1/\InS t z.2/\(z.1<=used.length->SaP t used fin z.1 z.2)/\(used.length<z.1->Xz t fin=false)) (fun z=>used.length+1-z.1) 3 (fun z => [(1,.cp (pbP t S0)),(3,.ptr 0 0 0),(7,.ptr 1 0 0),(8,.vec (inL used) false),(9,.ptr 2 0 0),(10,Yv z.1)]) (fun z => [(0,⟨1,[[.vec [] true]]⟩),(1,sBx fin),(2,sBx z.2)]) (by decide) (0,t.st) ⟨Y0l _,h.st,fun _=>SaP.base hj.i.run,fun h=>absurd h (by omega)⟩ (fun i=>i) (fun _ _=>rfl) Zr
  ⟨Qp hpp,Qt 0 0 0,Qt 1 0 0,Qp (Zz _),Qt 2 0 0,Qp Yt,Yt⟩ ⟨Qs ⟨⟨Yt,Yt⟩,Yt⟩,Qs ⟨⟨Z6 _,Yt⟩,Yt⟩,Qs ⟨⟨Z6 _,Yt⟩,Yt⟩,Yt⟩ ?_
 rintro⟨i,s⟩ ⟨hi,hs,hsp,hno⟩;dsimp only at hi hs hsp hno ⊢;have hinc:IntKind.i64.wrap ((i:Int)+1)=((i+1:Nat):Int):=Y0v _ ⟨by omega,by omega⟩;have hs64:=hs.lt h.n.2;refine gd 30 ⟨?_⟩;by_cases hil:i<=used.length
 . refine Qo (Qy rfl (by rw [hlen]; omega)) ?_;have hP:=hsp hil;refine gd 35 ⟨?_⟩;refine Qe (Z71 h S0 s hs64) ⟨hpp,Z2 _,Yt⟩ ?_;cases hr:Xz t s
   case true =>
    refine gd 39 ⟨?_⟩;refine Qo (Zl0 (xs:=used) (g:=X3o) rfl i rfl rfl hil (fun _=>rfl)) ?_;refine go ?_;exact Z7 rfl ⟨Zz _,Yt,Yt,Yt,Yt⟩ (.yes (used.take i) true true ⟨s,hP.pre,hr⟩ (by rw [Y0o];omega))
   refine gd 43 ⟨?_⟩;by_cases hlt:i<used.length
   . refine Qo (Qy rfl (by rw [hlen]; omega)) ?_;obtain⟨x,hx,hP2⟩:=hP.step hlt hj.rv;have hxm:=Y12 hx;have hxt:=(h.rs x hxm).tg;obtain⟨hkl,hke⟩:=Y7.1 hx;refine gd 49 ⟨?_⟩;refine Qr (Zq (xs:=used) (g:=X3o) rfl rfl i rfl hlt rfl) ?_;generalize used[i]=k at hx hkl hke;refine gd 51 ⟨?_⟩;refine Qr (Zq (xs:=t.rs) (g:=ruP) rfl rfl k rfl hkl rfl) ?_;rw [hke];refine gd 54 ⟨?_⟩;refine Qd (Z1g s hs64 x.tg (by omega)) ⟨Z2 _,Yt,Yt⟩ ?_;have hin:InS t (s ||| 2 ^ x.tg):=Zc1 h _ h.st hP2.pre;refine go ?_
     exact⟨(i+1,s ||| 2 ^ x.tg),fun i=>i,⟨by dsimp only; omega,hin,fun _=>hP2,fun h=>absurd h (by dsimp only;omega)⟩,by show used.length+1-(i+1)<used.length+1-i; omega,fun _ _=>rfl,Zr,
      ⟨Qp hpp,Qt 0 0 0,Qt 1 0 0,Qp (Zz _),Qt 2 0 0,⟨_,by show some _=some _; rw [hinc],.pure _ Yt⟩,Yt⟩,⟨Qs ⟨⟨Yt,Yt⟩,Yt⟩,Qs ⟨⟨Z6 _,Yt⟩,Yt⟩,Qs ⟨⟨Z6 _,Yt⟩,Yt⟩,Yt⟩⟩
   . refine Qo (Qz rfl (by rw [hlen]; omega)) ?_;have hsf:=hP.fin (by omega);refine go ?_
     exact⟨(i+1,s),fun i=>i,⟨by dsimp only; omega,hs,fun h=>absurd h (by dsimp only;omega),fun _=>by rw [<- hsf]; exact hr⟩,by show used.length+1-(i+1)<used.length+1-i; omega,fun _ _=>rfl,Zr,
      ⟨Qp hpp,Qt 0 0 0,Qt 1 0 0,Qp (Zz _),Qt 2 0 0,⟨_,by show some _=some _; rw [hinc],.pure _ Yt⟩,Yt⟩,⟨Qs ⟨⟨Yt,Yt⟩,Yt⟩,Qs ⟨⟨Z6 _,Yt⟩,Yt⟩,Qs ⟨⟨Z6 _,Yt⟩,Yt⟩,Yt⟩⟩
 have hnor:=hno (by omega);refine Qo (Qz rfl (by rw [hlen];omega)) ?_;have hf64:fin<18446744073709551616:=by omega
 refine gd 56 ⟨?_⟩;refine Z4u rfl rfl (.inl rfl) (Z2N h hn S0) ⟨hpp,Yt⟩ ?_;rintro r ⟨R,hR,rfl⟩;have hM:=Z4X (b:=fin) hR.lt;have hRb:=XZ.b126 h hn hR;have hmem:∀ r∈mem (Xd R fin),1<=r/\r<=6:=fun r hr=>by
  rw [Z13 hM,ZF hR.lt hf64,Y0k] at hr;exact X6R (Xf.1 hRb r hr.1)
 have hml:=Z2C (Xd R fin);refine gd 58 ⟨?_⟩;refine Qd (Zch R fin hR.lt hf64) ⟨Z2 _,Z2 _,Yt⟩ ?_;refine Qd (Z1E (Xd R fin)) ⟨Z2 _,Yt⟩ ?_;have hgoal:∀ fl,X3K t (.tup [.vec [] fl,.vec ((X4V (Xd R fin)).map cuC) false,.val (.bool false),.val (.int .i64 0)]):=fun fl=>.no fin R used fl hR hj hend hnor;have hlow:=ZaA (mem (Xd R fin));have hsl:(mem (Xd R fin)).map X5l=X4V (Xd R fin):=rfl;rw [hsl] at hlow;generalize X4V (Xd R fin)=L at hgoal hlow;generalize Xd R fin=M at hM hmem hml hlow;refine go ?_;refine Z1S (ZP (id:=0) (i0:=0) (j0:=0) rfl (Y0 rfl) (Y0 rfl) rfl 2 (by decide) (by decide) (Y0 rfl) C) ?_;refine Z2s (X:=List Nat) hC (caps := [.cp [.vec (X5 (X9 M)) false]]) [(3,.ptr 0 0 0),(59,.fn 127 [.cp [.vec (X5 (X9 M)) false]])]
  (fun z => [(0,⟨1,[[.own 8]]⟩),(8,⟨2,z.map X3I⟩)]) rfl ⟨⟨Z6 _,Yt⟩,Yt⟩ (Z2u M hM) (fun _=>rfl)
  (fun ex pre z=>ex=.normal/\z=pre.map (·.val)) 9 (by decide) [] ⟨rfl,rfl⟩
  (Z2q (X39.mem (ρ := fun i => i) (m := 9) (L := [(3, .ptr 0 0 0), (59, .fn 127 [.cp [.vec (X5 (X9 M)) false]])]) ⟨Qt 0 0 0, Qp ⟨⟨Z6 _, Yt⟩, Yt⟩, Yt⟩)
    (X1s.mem (ρ:=fun i=>i) (m:=9) (L := [(0,⟨1,[[.own 8]]⟩),(8,⟨2,[]⟩)]) ⟨⟨by decide,_,rfl,Xr.single ⟨.own (ρ:=fun i=>i) 8 (by decide),Yt⟩ rfl⟩,Qs Yt,Yt⟩) hC (by decide))
  (fun z q hq=>by simp at hq; rcases hq with rfl|rfl<;>exact Y1x _) _ (fun x=>rfl) ?_ ?_ ?_
 . rintro C2 hC2 pre x z ⟨-, rfl⟩ hlen2;have hx:=hmem x.val x.2;have hpl:(pre.map (·.val)).length<=64:=by rw [Y0f]; omega
   refine gd 64 ⟨?_⟩;refine Qd (Zey x.val (by omega) true) ⟨⟨⟨Yt,Yt⟩,Yt⟩,Yt⟩ ?_;refine gd 67 ⟨?_⟩
   refine Qr (Zu (k:=8) (m := [X3I x.val]) (fl:=true) rfl rfl rfl (fun q hq=>by rw [Y0g] at hq; subst hq; rfl) rfl (by
    show (((pre.map (·.val)).map X3I).length+1)*48<=_
    rw [Y0f];omega)) ?_
   refine go ?_
   refine⟨.inl rfl,pre.map (·.val) ++ [x.val],mv 8 15,⟨rfl,by rw [Y0r]; rfl⟩,fun i hi=>absurd hi (by omega),Zw rfl,
    ⟨Qt 0 0 0,Qp ⟨⟨Z6 _,Yt⟩,Yt⟩,Yt⟩,⟨⟨by decide,_,rfl,Xr.single ⟨.own (ρ:=mv 8 15) 8 (by decide),Yt⟩ rfl⟩,⟨by decide,_,rfl,?_⟩,Yt⟩⟩
   show Xr _ _ ⟨2,(pre.map (·.val)).map X3I ++ [X3I x.val]⟩ ⟨2,(pre.map (·.val) ++ [x.val]).map X3I⟩;rw [Y0r];exact .same _ (by rw [<- Y18,<- Y0r]; exact Zc Zaz _)
 . rintro xs z hxs ⟨-, rfl⟩;rw [hxs];refine Z1S (fun a w hh=>(Zp (ob:=0) (id:=8) (i0:=0) (j0:=0) rfl rfl (by decide) (Zc Zaz _) (Y0 rfl) (Y0 rfl) rfl) C a w hh) ?_;refine go ?_;refine Z1I (r:=.tup [.vec [] true,.vec ((mem M).map X3I) false,.val (.bool false),.val (.int .i64 0)]) rfl ⟨Yt,by show X3 (Xx _); rw [hlow]; exact Z0 _,Yt,Yt,Yt⟩ ?_;have e:PV.low (.tup [.vec [] true,.vec ((mem M).map X3I) false,.val (.bool false),.val (.int .i64 0)])=.tup [.vec [] false,.vec (L.map cuC) false,.val (.bool false),.val (.int .i64 0)]:=by
    show PV.tup [.vec [] false,.vec (Xx ((mem M).map X3I)) false,_,_]=_;rw [hlow]; rfl
   rw [e];exact hgoal false
 . rintro ex pre z - ⟨rfl,_⟩ (h|⟨id,h⟩)<;>cases h
structure X3M (t:PB) (R:Nat) (l:List Cu):Prop where
 em:∀ c∈l,Xw c/\emC c=false
 len:l.length<=64
 inv:X4z t fun S=>soC (l.map (X1V R)) S=true
theorem X3M.snd {t:PB} {R:Nat} {l:List Cu} (h:X3M t R l) (hR:R ||| 126=126):Snd t false [] (l.map (X1V R)) where
 form:=.inr ⟨rfl,rfl⟩
 plan:=fun h=>by cases h
 inv:=fun _=>h.inv
 len:=by rw [Y0f]; have:=h.len; omega
 cub:=fun c hc=>by
  obtain⟨d,hd,rfl⟩:=Y0i.1 hc;exact⟨Zk0 hR d,ZkY (h.em d hd).2⟩
theorem Zci {t:PB} (h:Xv t) (hn:t.n<=5) {R:Nat} (hR:XZ t R) {ks:List KE} (hk:X1F (Xl t R) ks):X3M t R (kcs ks):=by
 have hp:=Z4F h hR.a.ok;have hmem:∀ c∈kcs ks,InM (mkN t.n) c/\emC c=false:=fun c hc=>by
  obtain⟨e,he,rfl⟩:=Y0i.1 hc;exact (hk.inv.mem e he).2
 refine⟨fun c hc=>⟨hk.inv.c64 c hc,(hmem c hc).2⟩,?_,Zi9 h hR.a.ok hmem (fun S hS _=>hk.able_iff hp hS) fun ha=>hk.not_able hp ((Z8h h hR.a.ok).2 ha)⟩;have h1:=hk.inv.len;have h2:2 ^ t.n<=32:=YY (n:=2) (by decide) hn;have h3:(kcs ks).length=ks.length:=by simp [kcs]
 have h4:ks.length<=2 ^ t.n:=h1;omega
theorem ZeI {t:PB} (h:Xv t) {R R':Nat} (hR:XZ t R) (hR':XZ (Xl t R) R') (hf:X5w (Xl t R)) {fin:Nat} {used:List Nat} (hj:X4u (Xl t R) fin used) (hend:∀ x∈(Xl t R).rs,X3s (Xl t R) fin x=false) (hno:Xz (Xl t R) fin=false):X3M t R (X4V (Xd R' fin)):=by
 refine⟨fun c hc=>?_,by unfold X4V; rw [Y0f]; exact Z2C _,Zic h hR hR' hf hj hend hno⟩;obtain⟨r,hr,rfl⟩:=Y0i.1 hc;exact⟨⟨ZU (Z3B hr),Y1x _⟩,by unfold emC X5l; simp⟩
theorem Zdu {t:PB} (h:Xv t) {R:Nat} (hR:XZ t R) {p:List Nat} (hp:X1L (Xl t R) p) (hl:p.length<=62):(∀ k∈p,k<(X1T t R).length)/\Snd t true (p.map fun j=>(X1T t R).getD j 0) []:=by
 obtain⟨h1,h2⟩:=Z8g h hR.a.ok hp;exact⟨h1,⟨.inl ⟨rfl,rfl⟩,fun _=>⟨h2,by rw [Y0f]; omega⟩,(fun h=>by cases h),Y0l _,(fun c hc=>by cases hc)⟩⟩
theorem Z7l (p kept:List Nat) (fp fk:Bool) (hp:∀ k∈p,k<kept.length) (hl:p.length<=1000):X7 Tryz.prog 57 [.vec (inL p) fp,.vec (inL kept) fk] (· = .tup [.vec (inL (p.map fun j=>kept.getD j 0)) false,.val (.int .i64 0)]):=by
 have hpl:=Z3t p;have hkl:=Z3t kept;refine Yp ok57 fun C hC=>?_
 repeat' (first|refine Zb (Zt (k:=6) rfl 1 (by decide)) ?_|(first|refine st ?_|(apply B<;>intro hb<;>try cases hb)))
 refine ZB hC (fun i=>i<=p.length) (fun i=>p.length-i) 1 (fun i => [(1,.vec (inL kept) fk),(6,.own 0),(9,.vec (inL p) fp),(10,.val (.int .i64 (p.length:Int))),(11,Yv i)]) (fun i => [(0,⟨1,inL ((p.take i).map fun j=>kept.getD j 0)⟩)]) (Y0l _) 0 (Y0l _) (fun i=>i) (fun _ _=>rfl) Zr
  ⟨Qp (Zz _),Qw 0,Qp (Zz _),⟨_,by show some _=some _; rw [hpl],.pure _ Yt⟩,Qp Yt,Yt⟩ ⟨Qs Yt,Yt⟩ ?_
 intro i hi;have hinc:IntKind.i64.wrap ((i:Int)+1)=((i+1:Nat):Int):=Y0v _ ⟨by omega,by omega⟩;refine gd 12 ⟨?_⟩;by_cases hil:i<p.length
 . refine Qo (Qy rfl (by omega)) ?_;have hk:=hp _ (Y0j hil);have htk:=Z11 hil;have hol:((p.take i).map fun j=>kept.getD j 0).length<=i:=by rw [Y0f,Y0o]; omega
   refine gd 13 ⟨?_⟩;refine Qo (Zq (xs:=p) (g:=X3o) rfl rfl i rfl hil rfl) ?_;generalize p[i]=k at hk htk;have hgd:kept.getD k 0=kept[k]:=by rw [Y0b,Y0c hk]; rfl
   have hsn:inL ((p.take i).map fun j=>kept.getD j 0) ++ [X3o kept[k]]=inL ((p.take (i+1)).map fun j=>kept.getD j 0):=by rw [htk,Y0r,<- hgd]; simp [inL]
   refine gd 16 ⟨?_⟩;refine Qo (Qz rfl (by omega)) ?_;refine gd 21 ⟨?_⟩;refine ZC rfl ?_;refine Qo (Qz rfl (by rw [hkl];omega)) ?_;refine gd 26 ⟨?_⟩;refine Qo (Zq (xs:=kept) (g:=X3o) rfl rfl k rfl hk rfl) ?_;generalize kept[k]=m at hsn;refine gd 29 ⟨?_⟩
   refine ZG (Zu (k:=0) (m := [X3o m]) (fl:=true) rfl rfl rfl (fun q hq=>by rw [Y0g] at hq; subst hq; rfl) rfl (by
    show ((inL ((p.take i).map fun j=>kept.getD j 0)).length+1)*8<=_
    rw [Z3t];omega)) rfl rfl ?_
   simp only;rw [hsn];refine go ?_
   exact⟨i+1,mv 0 1,hil,by omega,fun i hi=>absurd hi (YJ i),Zw rfl,
    ⟨Qp (Zz _),Qw 0,Qp (Zz _),Qp Yt,⟨_,by show some _=some _; rw [hinc],.pure _ Yt⟩,Yt⟩,⟨Qs (Zz _),Yt⟩⟩
 . have htk : p.take i = p := Yw (by omega);rw [htk];refine Qo (Qz rfl (by omega)) ?_
   repeat' (first|refine Zb (Zm (k:=6) (id:=0) (b:=⟨1,inL (p.map fun j=>kept.getD j 0)⟩) rfl rfl (Zz _)) ?_|(first|refine st ?_|(apply B<;>intro hb<;>try cases hb)))
   exact Z7 rfl ⟨Zz _,Yt,Yt⟩ rfl
noncomputable def prX (t:PB) (R:Nat) (S:List Nat):List PV := [.val (.int .i64 (t.n:Int)),XL t.l S,.vec (X5 (X9 t.st)) false,.vec (t.rs.map ruP) false,.vec (t.nv.map cuC) false,.vec (t.gl.map cuC) false,
 .val (.int .i64 (t.n:Int)),XL t.l S,.vec (X5 (X9 (t.st &&& R))) false,.vec ((Xl t R).rs.map ruP) false,.vec ((Xl t R).nv.map cuC) false,.vec (t.gl.map cuC) false,.vec (inL (X1T t R)) false,.vec (X5 (X9 R)) false]
theorem Z6n (t:PB) (R:Nat) (S:List Nat):X6 (prX t R S):=⟨Yt,Zk _ _,Z6 _,Zs _,Z0 _,Z0 _,Yt,Zk _ _,Z6 _,Zs _,Z0 _,Z0 _,Zz _,Z6 _,Yt⟩
theorem ZeJ {t:PB} (h:Xv t) (hn:t.n<=5) (S:List Nat) (L:Int) (hL:1<=L):X7 Tryz.prog 23 [.agg (pbP t S),.val (.int .i64 L)] fun r=>∃ R,XZ t R/\r=.tup [.agg (prX t R S),.val (.int .i64 0)]:=by
 have hpp:=ZH t S;refine Yp ok23 fun C hC=>?_;refine Zn ?_;refine Za ?_;refine Z5 rfl rfl rfl ?_;refine gd 11 ⟨?_⟩;refine Qo (Qz rfl (by omega)) ?_;refine gd 14 ⟨?_⟩;refine Qe (Z2A h S) ⟨hpp,Yt⟩ ?_;refine gd 21 ⟨?_⟩;refine Zx rfl rfl (Zaw h hn S) ⟨hpp,Yt⟩ rfl ?_;rintro r ⟨R,hR,rfl⟩;refine gd 29 ⟨?_⟩;refine Z4u rfl rfl (.inl rfl) (Z2N h hn S) ⟨hpp,Yt⟩ ?_;rintro r ⟨R2,hR2,rfl⟩;obtain rfl:=hR2.uniq hR;refine go ?_;exact Z7 (r:=.tup [.agg (prX t R2 S),.val (.int .i64 0)]) rfl ⟨Z6n t R2 S,Yt,Yt⟩ ⟨R2,hR,rfl⟩
theorem X4S {e:Env} {h:X1} {a b s:Nat} {r v:PV} (h1:X4 (.load true s (.tmp a)) e h 0=some (r,h)) (h2:e b=some v):XR [.cell a true s,.tmp b] e h=some (.tup [r,v]):=by
 simp [XR,X2W,X5A,h1,h2]
def X2F:List PV:=Xy (List.replicate 32 0) false [] true [] true
theorem Z1h:X6 X2F:=Z1G _ _ _ _ _ _
inductive X4T (t:PB) (m:Nat) (L:Int):PV->Prop
 | ok (b:Bool) (p:List Nat) (fp:Bool) (l:List Cu) (fl:Bool) (hs:Snd t b p l):X4T t m L (.tup [.agg (Xy (X11 t) b p fp l fl),.val (.int .i64 0)])
 | lim (hm:m=2) (hl:L<((2 ^ t.n:Nat):Int)):X4T t m L (.tup [.agg X2F,.val (.int .i64 3)])
 | scope (R:Nat) (hm:m=1) (hR:XZ t R) (hf:X1G (Xl t R)=false):X4T t m L (.tup [.agg X2F,.val (.int .i64 15)])
theorem ZeK {t:PB} (h:Xv t) (hfr:X1G t=false) (S0:List Nat):X7 Tryz.prog 54 [.agg (pbP t S0)] (· = .tup [.vec [] true,.vec [] true,.val (.bool false),.val (.int .i64 15)]):=by
 have hpp:=ZH t S0;refine Yp ok54 fun C hC=>?_;refine Zn ?_;refine Za ?_;refine Z5 rfl rfl rfl ?_;refine gd 13 ⟨?_⟩;refine Qe (Z2A h S0) ⟨hpp,Yt⟩ ?_;refine gd 18 ⟨?_⟩;refine Qe (Z3z h S0) ⟨hpp,Yt⟩ ?_;rw [hfr];refine go ?_;exact Z7 rfl ⟨Yt,Yt,Yt,Yt,Yt⟩ rfl
section
variable {t:PB} (h:Xv t) (hn:t.n<=5) (hw:PbW t) (S:List Nat) {R:Nat} (hR:XZ t R) (L:Int)
include h hn hw hR
theorem ZaB:X7 Tryz.prog 25 [.agg (prX t R S),.val (.int .u8 1),.val (.int .i64 L)] (X4T t 1 L):=by
 have hpp:=ZH t S;have hxp:=Z6n t R S;have hpo:=Z4F h hR.a.ok;have hpq:=ZH (Xl t R) S;have hid0:=Z3x t;have hRb:=XZ.b126 h hn hR;refine Yp ok25 fun C hC=>?_;refine Zn ?_;refine Za ?_;refine Z5 (Z72 rfl (by show 0<14; decide)) rfl rfl ?_;refine gd 31 ⟨?_⟩;cases hfr:X1G (Xl t R)
 case false =>
  refine Qe (ZeK hpo hfr S) ⟨hpq,Yt⟩ ?_;refine go ?_;exact Z7 (r:=.tup [.agg X2F,.val (.int .i64 15)]) rfl ⟨Z1h,Yt,Yt⟩ (.scope R rfl hR hfr)
 refine Zx rfl rfl (Z7y hpo hn hfr S) ⟨hpq,Yt⟩ rfl ?_;intro r hr;cases hr with
 | yes p fp fl hp hl =>
   obtain⟨h1,hsnd⟩:=Zdu h hR hp (by omega);refine gd 56 ⟨?_⟩;refine Qe (Z7l p (X1T t R) _ false h1 (by omega)) ⟨Zz p,Zz _,Yt⟩ ?_;generalize p.map (fun j=>(X1T t R).getD j 0)=q at hsnd;have hql:=(hsnd.plan rfl).2;refine gd 66 ⟨?_⟩;refine Qe (Z5V h hw S q false (by omega)) ⟨hpp,Zz q,Yt⟩ ?_;have hc1:(Xy (X11 t) true q false [] true).length=35:=Z2l hid0;have hcp:=Z1G (X11 t) true q false [] true;have hRR:X4T t 1 L (.tup [.agg (Xy (X11 t) true q false [] true),.val (.int .i64 0)]):=.ok true q false [] true hsnd;generalize Xy (X11 t) true q false [] true=cc at hc1 hcp hRR;have hcl:(cc ++ []).length=35:=by rw [Y0p]; exact hc1
   have htk:((cc ++ []).drop 0).take 35=cc:=by rw [Y0p,Y14,Yw (by omega)]
   refine Qo (Z41 rfl rfl rfl hc1 rfl) ?_;refine go ?_;exact Z7 (X4S (Z4o (l:=cc ++ []) (r:=cc) rfl rfl (by omega) htk) rfl) ⟨hcp,Yt,Yt⟩ hRR
 | no fin R2 used fl hR2 hj hend hno0 =>
   have hno:=ZeI h hR hR2 (Zcg hfr) hj hend hno0;clear hj hend hno0;generalize X4V (Xd R2 fin)=l at hno;have hpl:=hno.len;have hnm:(l.map cuC).length=l.length:=Y0f ..;have hsnd:=hno.snd hRb;have hle:∀ c∈l,Xw c:=fun c hc=>(hno.em c hc).1;clear hno
   repeat' (first|refine Zb (Zt (k:=14) rfl 2 (by decide)) ?_|(first|refine st ?_|(apply B<;>intro hb<;>try cases hb)))
   refine ZB hC (fun i=>i<=l.length) (fun i=>l.length-i) 2 (fun i => [(3,.cp (prX t R S)),(6,.ptr 0 0 0),(14,.own 1),(67,.vec (l.map cuC) false),(68,.val (.int .i64 (l.length:Int))),(69,Yv i)]) (fun i => [(0,⟨35,[X2F]⟩),(1,⟨2,((l.take i).map (X1V R)).map cuC⟩)]) (by decide) 0 (Y0l _) (fun i=>i) (fun _ _=>rfl) Zr
    ⟨Qp hxp,Qt 0 0 0,Qw 1,Qp (Z0 _),⟨_,by rw [<- hnm]; rfl,.pure _ Yt⟩,Qp Yt,Yt⟩ ⟨Qs ⟨Z1h,Yt⟩,Qs Yt,Yt⟩ ?_
   intro i hi;have hinc:IntKind.i64.wrap ((i:Int)+1)=((i+1:Nat):Int):=Y0v _ ⟨by omega,by omega⟩;refine gd 70 ⟨?_⟩;by_cases hil:i<l.length
   . refine Qo (Qy rfl (by omega)) ?_;have hc:=hle _ (Y0j hil);have htk:=Z11 hil;have hol:((l.take i).map (X1V R)).length<=i:=by rw [Y0f,Y0o]; omega
     refine gd 71 ⟨?_⟩;refine Qo (Zq (xs:=l) (g:=cuC) rfl rfl i rfl hil rfl) ?_;generalize l[i]=c at hc htk;have hsn:((l.take i).map (X1V R)).map cuC ++ [cuC (X1V R c)]=((l.take (i+1)).map (X1V R)).map cuC:=by rw [htk]; simp
     refine gd 78 ⟨?_⟩;refine Qd (Z2K c.1 R hc.1 hR.lt) ⟨Z2 _,Z2 _,Yt⟩ ?_;refine gd 83 ⟨?_⟩;refine Qd (Z2K c.2 R hc.2 hR.lt) ⟨Z2 _,Z2 _,Yt⟩ ?_;refine gd 86 ⟨?_⟩
     refine Qr (Zu (k:=1) (m := [cuC (X1V R c)]) (fl:=true) rfl rfl rfl (fun q hq=>by rw [Y0g] at hq; subst hq; rfl) rfl (by
      show ((((l.take i).map (X1V R)).map cuC).length+1)*48<=_
      rw [Y0f];omega)) ?_
     simp only;rw [hsn];refine go ?_
     exact⟨i+1,mv 1 16,hil,by omega,fun i hi=>absurd hi (YJ i),Zw rfl,
      ⟨Qp hxp,Qt 0 0 0,Qw 1,Qp (Z0 _),Qp Yt,⟨_,by show some _=some _; rw [hinc],.pure _ Yt⟩,Yt⟩,⟨Qs ⟨Z1h,Yt⟩,Qs (Z0 _),Yt⟩⟩
   have htk:l.take i=l:=Yw (by omega);rw [htk];refine Qo (Qz rfl (by omega)) ?_;refine gd 88 ⟨?_⟩;refine Zb (Zm (k:=14) (id:=1) (b:=⟨2,(l.map (X1V R)).map cuC⟩) rfl rfl (Z0 _)) ?_;have hll:=hsnd.len;generalize l.map (X1V R)=q at hsnd hll;refine gd 91 ⟨?_⟩;refine Qe (Z5W h hw S q false (by omega)) ⟨hpp,Z0 q,Yt⟩ ?_;have hc1:(Xy (X11 t) false [] true q false).length=35:=Z2l hid0;have hcp:=Z1G (X11 t) false [] true q false;have hRR:X4T t 1 L (.tup [.agg (Xy (X11 t) false [] true q false),.val (.int .i64 0)]):=.ok false [] true q false hsnd;generalize Xy (X11 t) false [] true q false=cc at hc1 hcp hRR;have hcl:(cc ++ []).length=35:=by rw [Y0p]; exact hc1
   have htk2:((cc ++ []).drop 0).take 35=cc:=by rw [Y0p,Y14,Yw (by omega)]
   refine Qo (Z41 (l:=X2F) rfl rfl rfl hc1 rfl) ?_;refine go ?_;exact Z7 (X4S (Z4o (l:=cc ++ []) (r:=cc) rfl rfl (by omega) htk2) rfl) ⟨hcp,Yt,Yt⟩ hRR
theorem ZaC (hL:1<=L):X7 Tryz.prog 25 [.agg (prX t R S),.val (.int .u8 2),.val (.int .i64 L)] (X4T t 2 L):=by
 have hpp:=ZH t S;have hxp:=Z6n t R S;have hpo:=Z4F h hR.a.ok;have hpq:=ZH (Xl t R) S;have hid0:=Z3x t;have hRb:=XZ.b126 h hn hR;refine Yp ok25 fun C hC=>?_;refine Zn ?_;refine Za ?_;refine Z5 (Z72 rfl (by show 0<14; decide)) rfl rfl ?_;refine gd 42 ⟨?_⟩;refine Zx rfl rfl (Zc7 hpo hn S L hL) ⟨hpq,Yt,Yt⟩ rfl ?_;intro r hr;cases hr with
 | lim hl =>
   refine go ?_;exact Z7 (r:=.tup [.agg X2F,.val (.int .i64 3)]) rfl ⟨Z1h,Yt,Yt⟩ (.lim rfl hl)
 | yes p hp hl =>
   obtain⟨h1,hsnd⟩:=Zdu h hR hp (by omega);refine gd 56 ⟨?_⟩;refine Qe (Z7l p (X1T t R) _ false h1 (by omega)) ⟨Zz p,Zz _,Yt⟩ ?_;generalize p.map (fun j=>(X1T t R).getD j 0)=q at hsnd;have hql:=(hsnd.plan rfl).2;refine gd 66 ⟨?_⟩;refine Qe (Z5V h hw S q false (by omega)) ⟨hpp,Zz q,Yt⟩ ?_;have hc1:(Xy (X11 t) true q false [] true).length=35:=Z2l hid0;have hcp:=Z1G (X11 t) true q false [] true;have hRR:X4T t 2 L (.tup [.agg (Xy (X11 t) true q false [] true),.val (.int .i64 0)]):=.ok true q false [] true hsnd;generalize Xy (X11 t) true q false [] true=cc at hc1 hcp hRR;have hcl:(cc ++ []).length=35:=by rw [Y0p]; exact hc1
   have htk:((cc ++ []).drop 0).take 35=cc:=by rw [Y0p,Y14,Yw (by omega)]
   refine Qo (Z41 rfl rfl rfl hc1 rfl) ?_;refine go ?_;exact Z7 (X4S (Z4o (l:=cc ++ []) (r:=cc) rfl rfl (by omega) htk) rfl) ⟨hcp,Yt,Yt⟩ hRR
 | no ks hk =>
   have hno:=Zci h hn hR hk;clear hk;generalize kcs ks=l at hno;have hpl:=hno.len;have hnm:(l.map cuC).length=l.length:=Y0f ..;have hsnd:=hno.snd hRb;have hle:∀ c∈l,Xw c:=fun c hc=>(hno.em c hc).1;clear hno
   repeat' (first|refine Zb (Zt (k:=14) rfl 2 (by decide)) ?_|(first|refine st ?_|(apply B<;>intro hb<;>try cases hb)))
   refine ZB hC (fun i=>i<=l.length) (fun i=>l.length-i) 2 (fun i => [(3,.cp (prX t R S)),(6,.ptr 0 0 0),(14,.own 1),(67,.vec (l.map cuC) false),(68,.val (.int .i64 (l.length:Int))),(69,Yv i)]) (fun i => [(0,⟨35,[X2F]⟩),(1,⟨2,((l.take i).map (X1V R)).map cuC⟩)]) (by decide) 0 (Y0l _) (fun i=>i) (fun _ _=>rfl) Zr
    ⟨Qp hxp,Qt 0 0 0,Qw 1,Qp (Z0 _),⟨_,by rw [<- hnm]; rfl,.pure _ Yt⟩,Qp Yt,Yt⟩ ⟨Qs ⟨Z1h,Yt⟩,Qs Yt,Yt⟩ ?_
   intro i hi;have hinc:IntKind.i64.wrap ((i:Int)+1)=((i+1:Nat):Int):=Y0v _ ⟨by omega,by omega⟩;refine gd 70 ⟨?_⟩;by_cases hil:i<l.length
   . refine Qo (Qy rfl (by omega)) ?_;have hc:=hle _ (Y0j hil);have htk:=Z11 hil;have hol:((l.take i).map (X1V R)).length<=i:=by rw [Y0f,Y0o]; omega
     refine gd 71 ⟨?_⟩;refine Qo (Zq (xs:=l) (g:=cuC) rfl rfl i rfl hil rfl) ?_;generalize l[i]=c at hc htk;have hsn:((l.take i).map (X1V R)).map cuC ++ [cuC (X1V R c)]=((l.take (i+1)).map (X1V R)).map cuC:=by rw [htk]; simp
     refine gd 78 ⟨?_⟩;refine Qd (Z2K c.1 R hc.1 hR.lt) ⟨Z2 _,Z2 _,Yt⟩ ?_;refine gd 83 ⟨?_⟩;refine Qd (Z2K c.2 R hc.2 hR.lt) ⟨Z2 _,Z2 _,Yt⟩ ?_;refine gd 86 ⟨?_⟩
     refine Qr (Zu (k:=1) (m := [cuC (X1V R c)]) (fl:=true) rfl rfl rfl (fun q hq=>by rw [Y0g] at hq; subst hq; rfl) rfl (by
      show ((((l.take i).map (X1V R)).map cuC).length+1)*48<=_
      rw [Y0f];omega)) ?_
     simp only;rw [hsn];refine go ?_
     exact⟨i+1,mv 1 16,hil,by omega,fun i hi=>absurd hi (YJ i),Zw rfl,
      ⟨Qp hxp,Qt 0 0 0,Qw 1,Qp (Z0 _),Qp Yt,⟨_,by show some _=some _; rw [hinc],.pure _ Yt⟩,Yt⟩,⟨Qs ⟨Z1h,Yt⟩,Qs (Z0 _),Yt⟩⟩
   have htk:l.take i=l:=Yw (by omega);rw [htk];refine Qo (Qz rfl (by omega)) ?_;refine gd 88 ⟨?_⟩;refine Zb (Zm (k:=14) (id:=1) (b:=⟨2,(l.map (X1V R)).map cuC⟩) rfl rfl (Z0 _)) ?_;have hll:=hsnd.len;generalize l.map (X1V R)=q at hsnd hll;refine gd 91 ⟨?_⟩;refine Qe (Z5W h hw S q false (by omega)) ⟨hpp,Z0 q,Yt⟩ ?_;have hc1:(Xy (X11 t) false [] true q false).length=35:=Z2l hid0;have hcp:=Z1G (X11 t) false [] true q false;have hRR:X4T t 2 L (.tup [.agg (Xy (X11 t) false [] true q false),.val (.int .i64 0)]):=.ok false [] true q false hsnd;generalize Xy (X11 t) false [] true q false=cc at hc1 hcp hRR;have hcl:(cc ++ []).length=35:=by rw [Y0p]; exact hc1
   have htk2:((cc ++ []).drop 0).take 35=cc:=by rw [Y0p,Y14,Yw (by omega)]
   refine Qo (Z41 (l:=X2F) rfl rfl rfl hc1 rfl) ?_;refine go ?_;exact Z7 (X4S (Z4o (l:=cc ++ []) (r:=cc) rfl rfl (by omega) htk2) rfl) ⟨hcp,Yt,Yt⟩ hRR
end
theorem X64 {e:Env} {h:X1} {a b c s:Nat} {r v w:PV} (h1:X4 (.load true s (.tmp a)) e h 0=some (r,h)) (h2:e b=some v) (h3:e c=some w):XR [.cell a true s,.tmp b,.tmp c] e h=some (.tup [r,v,w]):=by
 simp [XR,X2W,X5A,h1,h2,h3]
inductive DcR (t:PB):PV->Prop
 | mk (m:Int) (R:Nat) (b:Bool) (p:List Nat) (fp:Bool) (l:List Cu) (fl:Bool) (hR:XZ t R) (hm:m=if X1G (Xl t R) then 1 else 2) (hs:Snd t b p l):DcR t (.tup [.agg (Xy (X11 t) b p fp l fl),.val (.int .u8 m),.val (.int .i64 0)])
theorem Z5k {t:PB} (h:Xv t) (hn:t.n<=5) (hw:PbW t) (S:List Nat) (L:Int) (hL:64<=L):X7 Tryz.prog 9 [.agg (pbP t S),.val (.int .i64 L)] (DcR t):=by
 have hpp:=ZH t S;have hid0:=Z3x t;have h32:2 ^ t.n<=32:=YY (n:=2) (by decide) hn;refine Yp ok9 fun C hC=>?_;refine Zn ?_;refine Za ?_;refine Z5 rfl rfl rfl ?_;refine gd 14 ⟨?_⟩;refine Zx rfl rfl (ZeJ h hn S L (by omega)) ⟨hpp,Yt,Yt⟩ rfl ?_;rintro r ⟨R,hR,rfl⟩;have hxp:=Z6n t R S;have hpo:=Z4F h hR.a.ok;have hpq:=ZH (Xl t R) S;refine gd 23 ⟨?_⟩;refine Qe (Z3z hpo S) ⟨hpq,Yt⟩ ?_;cases hfr:X1G (Xl t R)
 case true =>
  refine gd 28 ⟨?_⟩;refine Zx rfl rfl (ZaB h hn hw S hR L) ⟨hxp,Yt,Yt,Yt⟩ rfl ?_;intro r hr;cases hr with
  | lim hm hl=>exact absurd hm (by decide)
  | scope R2 hm hR2 hf=>rw [hR2.uniq hR,hfr] at hf; cases hf
  | ok b p fp l fl hs =>
    have hc1:(Xy (X11 t) b p fp l fl).length=35:=Z2l hid0;have hcp:=Z1G (X11 t) b p fp l fl;have hRR:DcR t (.tup [.agg (Xy (X11 t) b p fp l fl),.val (.int .u8 1),.val (.int .i64 0)]):=.mk 1 R b p fp l fl hR (by rw [hfr]; rfl) hs;generalize Xy (X11 t) b p fp l fl=cc at hc1 hcp hRR;have hcl:(cc ++ []).length=35:=by rw [Y0p]; exact hc1
    have htk:((cc ++ []).drop 0).take 35=cc:=by rw [Y0p,Y14,Yw (by omega)]
    iterate 4 (first|refine st ?_|(apply B<;>intro hb<;>try cases hb))
    refine Qo (Z41 rfl rfl rfl hc1 rfl) ?_;refine gd 48 ⟨?_⟩;refine Qo (Z4o (l:=cc ++ []) (r:=cc) rfl rfl (by omega) htk) ?_
    iterate 1 (first|refine st ?_|(apply B<;>intro hb<;>try cases hb))
    refine Qo (Z41 rfl rfl rfl hc1 rfl) ?_;refine go ?_;exact Z7 (X64 (Z4o (l:=cc ++ []) (r:=cc) rfl rfl (by omega) htk) rfl rfl) ⟨hcp,Yt,Yt,Yt⟩ hRR
 case false =>
  refine gd 28 ⟨?_⟩;refine Zx rfl rfl (ZaC h hn hw S hR L (by omega)) ⟨hxp,Yt,Yt,Yt⟩ rfl ?_;intro r hr;cases hr with
  | lim hm hl=>exact absurd hl (by omega)
  | scope R2 hm hR2 hf=>exact absurd hm (by decide)
  | ok b p fp l fl hs =>
    have hc1:(Xy (X11 t) b p fp l fl).length=35:=Z2l hid0;have hcp:=Z1G (X11 t) b p fp l fl;have hRR:DcR t (.tup [.agg (Xy (X11 t) b p fp l fl),.val (.int .u8 2),.val (.int .i64 0)]):=.mk 2 R b p fp l fl hR (by rw [hfr]; rfl) hs;generalize Xy (X11 t) b p fp l fl=cc at hc1 hcp hRR;have hcl:(cc ++ []).length=35:=by rw [Y0p]; exact hc1
    have htk:((cc ++ []).drop 0).take 35=cc:=by rw [Y0p,Y14,Yw (by omega)]
    iterate 4 (first|refine st ?_|(apply B<;>intro hb<;>try cases hb))
    refine Qo (Z41 rfl rfl rfl hc1 rfl) ?_;refine gd 48 ⟨?_⟩;refine Qo (Z4o (l:=cc ++ []) (r:=cc) rfl rfl (by omega) htk) ?_
    iterate 1 (first|refine st ?_|(apply B<;>intro hb<;>try cases hb))
    refine Qo (Z41 rfl rfl rfl hc1 rfl) ?_;refine go ?_;exact Z7 (X64 (Z4o (l:=cc ++ []) (r:=cc) rfl rfl (by omega) htk) rfl rfl) ⟨hcp,Yt,Yt,Yt⟩ hRR
section
variable {e:Env} {h:X1} {n:Nat} {x y:Operand} {a b:List Nat}
end
noncomputable def X5s (t:PB) (b:Bool) (p:List Nat) (l:List Cu) (fl:Bool):Fd :=
 if X11 t=List.replicate 32 0 then (2,0,0) else if X7r p l≠0 then (3,0,0) else if X44 t.n l then
  (if p.any (fun k=>decide (t.rs.length<=k)) then (3,0,0) else if b then X2Y t t.st p 0 else X3u t l fl) else (3,0,0)
end
section
theorem Zk8 (r:Nat):jun [] r=2 ^ r:=YC fun b=>by
 rw [YN,Z6L Zaq,YI,Y0n];exact⟨fun h=>h.elim (fun h=>(ZiW h).elim) Eq.symm,fun h=>.inr h.symm⟩
def cl0 (s:Nat):Nat:=(mem s).foldl (fun o r=>if 1<=r then o ||| 2 ^ r else o) 0
theorem Z4n:clo []=cl0:=funext fun s=>by
 rw [Zby];simp only [Zk8]
 rfl
def sn0 (r:Nat):Nat:=2 ^ r
theorem Zdv:sen []=sn0:=funext ZgH
def X5p (t:PB) (s:Nat):Bool := !soC t.nv (cl0 s)
def X5u (t:PB) (r:RU) (s:Nat):Bool:=decide (Xn r s≠s)&&(X5p t (Xn r s)&&(r.rev||hoC r.cu (cl0 s)))
def X37 (t:PB) (s:Nat) (k:Int):Option Nat:=if 0<=k then (match t.rs[k.toNat]? with|some r=>if X5u t r s then some (Xn r s) else none|none=>none) else none
def X2T (t:PB):Nat->List Nat->Nat->Fd
 | s,[],_=>if soC t.gl (cl0 s) then (1,0,0) else (5,0,0)
 | s, k :: p, i => match X37 t s (k : Int) with
   | some o=>X2T t o p (i+1)
   | none=>(4,i,k)
def X6Q (t:PB) (l:List Cu) (fl:Bool):Option Nat:=X3N cl0 sn0 t.n (X7j t l fl)
def X7b (t:PB) (l:List Cu) (fl:Bool) (c:Cu) (r:RU):Option Nat:=X3N cl0 sn0 t.n (X7z t l fl c r)
def X5d (t:PB) (l:List Cu) (fl:Bool) (i k:Nat):Bool:=(X7b t l fl (cu0 l i) (ru0 t.rs k)).isSome
def X3t (t:PB) (l:List Cu) (fl:Bool):Fd :=
 match X4Z (fun i=>hoC (cu0 l i) t.st) l.length 0 with
 | some i=>(6,i,0)
 | none=>if (X6Q t l fl).isSome then (7,0,0) else X67 (X5e (X5d t l fl) t.rs.length l.length 0)
def X7w (t:PB) (b:Bool) (p:List Nat) (l:List Cu) (fl:Bool):Fd :=
 if X11 t=List.replicate 32 0 then (2,0,0) else if X7r p l≠0 then (3,0,0) else if X44 t.n l then
  (if p.any (fun k=>decide (t.rs.length<=k)) then (3,0,0) else if b then X2T t t.st p 0 else X3t t l fl) else (3,0,0)
section
variable {t:PB} (hl:t.l = [])
include hl
theorem Zl1 (s:Nat):Xp t s=X5p t s:=by unfold Xp X5p; rw [hl,Z4n]
theorem ZaD (r:RU) (s:Nat):XT t r s=X5u t r s:=by unfold XT X5u; rw [Zl1 hl,hl,Z4n]
theorem Zk9 (s:Nat) (k:Int):X4I t s k=X37 t s k:=by
 unfold X4I X37;simp only [ZaD hl]
 all_goals rfl
theorem Zdw:∀ (p:List Nat) (s i:Nat),X2Y t s p i=X2T t s p i
 | [], s, i => by
   show (if Xz t s then ((1,0,0):Fd) else (5,0,0))=(if soC t.gl (cl0 s) then (1,0,0) else (5,0,0))
   unfold Xz;rw [hl,Z4n]
 | k :: p, s, i => by
   show (match X4I t s (k:Int) with|some o=>X2Y t o p (i+1)|none=>((4,i,k):Fd))=(match X37 t s (k:Int) with|some o=>X2T t o p (i+1)|none=>(4,i,k))
   rw [Zk9 hl];cases X37 t s (k:Int) with
   | some o=>exact Zdw p o (i+1)
   | none=>rfl
theorem Ziz (l:List Cu) (fl:Bool):X3u t l fl=X3t t l fl:=by
 have e1:X6u t l fl=X6Q t l fl:=by unfold X6u X6Q; rw [hl,Z4n,Zdv]
 have e2:X6I t l fl=X5d t l fl:=funext fun i=>funext fun k=>by unfold X6I X5d X7s X7b; rw [hl,Z4n,Zdv]
 unfold X3u X3t;rw [e1,e2]
 all_goals rfl
theorem ZgY (b:Bool) (p:List Nat) (l:List Cu) (fl:Bool):X5s t b p l fl=X7w t b p l fl:=by
 unfold X5s X7w;rw [Zdw hl,Ziz hl]
end
def tJ (nv:List Cu):PB:=⟨2,[],0,[⟨false,(0,0),1,0⟩,⟨false,(2,0),2,0⟩],nv,[(4,0)]⟩
def t1J:PB:=tJ []
set_option maxRecDepth 100000
theorem v1 (fl:Bool):X5s t1J true [0,1] [] fl=(1,0,0):=by rw [ZgY rfl]; cases fl<;>decide +kernel
theorem v2 (fl:Bool):X5s t1J true [1,0] [] fl=(4,0,1):=by rw [ZgY rfl]; cases fl<;>decide +kernel
theorem v3 (fl:Bool):X5s t1J true [0] [] fl=(5,0,0):=by rw [ZgY rfl]; cases fl<;>decide +kernel
theorem v4 (fl:Bool):X5s t1J false [] [(4,0)] fl=(8,0,1):=by rw [ZgY rfl]; cases fl<;>decide +kernel
theorem v5 (fl:Bool):X5s t1J false [] [(2,0),(4,0)] fl=(8,0,0):=by rw [ZgY rfl]; cases fl<;>decide +kernel
end
section
open Go.RowKit
attribute [local irreducible] aw Xj dK
def tSf (st:Nat) (rs:List RU):PB:=⟨3,[],st,rs,[],[(8,0)]⟩
def rsA:List RU := [⟨false,(0,0),1,0⟩,⟨false,(2,0),2,0⟩,⟨false,(4,2),3,0⟩,⟨true,(0,0),1,0⟩]
def rsB:List RU := [⟨false,(2,0),2,0⟩]
theorem X5C {c:Cu} (h1:c.1 ||| 14=14) (h2:c.2 ||| 14=14) (h3:emC c=false):InC 3 c/\InM 62 c:=⟨⟨h1,h2,h3⟩,Z4g h1 (by decide),Z4g h2 (by decide)⟩
theorem Zj0 {st:Nat} {rs:List RU} (hs:st ||| 14=14) (hl:rs.length<=64) (hr:∀ r∈rs,X3H 3 r):Xv (tSf st rs):=by
 refine⟨show 1<=3/\3<=63 by decide,⟨List.Pairwise.nil,fun p hp=>(by cases hp),⟨fun _=>0,fun p hp=>(by cases hp)⟩⟩,fun p hp=>(by cases hp),hs,hl,hr,show 0<=64 by decide,fun c hc=>(by cases hc),show 1<=64 by decide,fun c hc=>?_,rfl⟩;have hc:c∈[((8,0):Cu)]:=hc;rw [Y0g] at hc;subst hc;exact X5C (by decide) (by decide) (by decide)
theorem Zl2 {st:Nat} {rs:List RU} (hs:st<256) (hl:rs.length<=100) (hr:∀ r∈rs,r.cu.1<256/\r.cu.2<256/\r.tg<=63):PbW (tSf st rs) :=
 ⟨show 3<=63 by decide,hs,hr,fun c hc=>(by cases hc),fun c hc=>(by
  have hc:c∈[((8,0):Cu)]:=hc;rw [Y0g] at hc;subst hc
  exact⟨by decide,by decide⟩),fun p hp=>(by cases hp),show 0<=100 by decide,hl,show 0<=100 by decide,show 1<=100 by decide⟩
def tA:PB:=tSf 0 rsA
def tB:PB:=tSf 2 rsB
theorem Zj1:∀ r∈rsA,X3H 3 r/\r.cu.1<256/\r.cu.2<256/\r.tg<=63:=by
 intro r hr;simp only [rsA,YA,Y2q,Y44] at hr;rcases hr with rfl|rfl|rfl|rfl
 . have := X5C (c := (0, 0)) (by decide) (by decide) (by decide);exact⟨⟨this.1,this.2,show 1<=1/\1<=3/\1<=5 by decide,fun _=>rfl⟩,by decide,by decide,by decide⟩
 . have := X5C (c := (2, 0)) (by decide) (by decide) (by decide);exact⟨⟨this.1,this.2,show 1<=2/\2<=3/\2<=5 by decide,fun h=>by cases h⟩,by decide,by decide,by decide⟩
 . have := X5C (c := (4, 2)) (by decide) (by decide) (by decide);exact⟨⟨this.1,this.2,show 1<=3/\3<=3/\3<=5 by decide,fun h=>by cases h⟩,by decide,by decide,by decide⟩
 . have := X5C (c := (0, 0)) (by decide) (by decide) (by decide);exact⟨⟨this.1,this.2,show 1<=1/\1<=3/\1<=5 by decide,fun _=>rfl⟩,by decide,by decide,by decide⟩
theorem Zj2:∀ r∈rsB,X3H 3 r/\r.cu.1<256/\r.cu.2<256/\r.tg<=63:=by
 intro r hr;simp only [rsB,YA,Y2q,Y44] at hr;subst hr;have:=X5C (c:=(2,0)) (by decide) (by decide) (by decide);exact⟨⟨this.1,this.2,show 1<=2/\2<=3/\2<=5 by decide,fun h=>by cases h⟩,by decide,by decide,by decide⟩
theorem Zcj:Xv tA:=Zj0 (by decide) (by decide) fun r hr=>(Zj1 r hr).1
theorem ZgZ:Xv tB:=Zj0 (by decide) (by decide) fun r hr=>(Zj2 r hr).1
theorem Zlz:PbW tA:=Zl2 (by decide) (by decide) fun r hr=>(Zj1 r hr).2
theorem ZlA:PbW tB:=Zl2 (by decide) (by decide) fun r hr=>(Zj2 r hr).2
theorem Zck {t:PB} (hl:t.l = []) (s:Nat):Xz t s=soC t.gl (cl0 s):=by unfold Xz; rw [hl,Z4n]
theorem Zka:X2e tA tA.st:=by
 have h:X1L tA [0,1,3,2]:=by
  refine⟨12,⟨rsA[0],rfl,?_,rsA[1],rfl,?_,rsA[3],rfl,?_,rsA[2],rfl,?_,?_⟩,?_⟩
  . rw [ZaD rfl]; decide +kernel
  . rw [ZaD rfl]; decide +kernel
  . rw [ZaD rfl]; decide +kernel
  . rw [ZaD rfl]; decide +kernel
  . show (12:Nat)=_; decide +kernel
  . rw [Zck rfl]; decide +kernel
 exact h.able Zcj
theorem ZiA:∀ s<16,s.testBit 3=false->soC [((8,0):Cu)] (cl0 s)=false:=by decide +kernel
theorem Zl3:¬ X2e tB tB.st:=by
 rw [able_iff ZgZ];rintro⟨E,hr,he⟩;have key:∀ {S},Rch tB S->S.testBit 3=false:=fun {S} hr=>by
  induction hr with
  | base=>decide
  | @step S x h hx hs ih =>
    have hx:x∈rsB:=hx;simp only [rsB,YA,Y2q,Y44] at hx;subst hx;rw [ZQ (by decide) ((h.inS ZgZ).lt (by decide)),Y6 (by decide)];exact ih
 have hin:=hr.inS ZgZ;have hE:E<16:=by
  have h1:E ||| mkN 3=mkN 3:=hin
  have:E<=mkN 3:=by rw [<- h1]; exact Y13
  have e:mkN 3=14:=by decide
  omega
 rw [Zck rfl] at he;have h2:=ZiA E hE (key hr);have he:soC [((8,0):Cu)] (cl0 E)=true:=he;rw [h2] at he;cases he
theorem X8i {st:Nat} {rs:List RU} {R:Nat} (hR:XZ (tSf st rs) R):R.testBit 3=true:=by
 refine Xf.1 (hR.a.gl (8,0) (Y0g.2 rfl)) 3 (Z9e (b:=3) ⟨by decide,by decide⟩ (.inl (by decide)) ?_);show (sen [] 3).testBit 3=true;rw [ZgH]; decide
theorem frA {R:Nat} (hR:XZ tA R):X1G (Xl tA R)=false:=by
 refine YB.2 fun h=>?_;have:=(Zcg h).rs ⟨false,(4,2),3,0⟩ (Z3u.2 ⟨by show _∈rsA; simp [rsA],X8i hR⟩);exact absurd this (by decide)
theorem frB {R:Nat} (hR:XZ tB R):X1G (Xl tB R)=true:=by
 unfold X1G;rw [Y0k,Y0k,Y0n,YL,YL];refine⟨rfl,fun x hx=>?_,fun c hc=>?_⟩
 . have hx := (Z3u.1 hx).1;have hx:x∈rsB:=hx;simp only [rsB,YA,Y2q,Y44] at hx;subst hx; decide
 . have hc : c ∈ [((8, 0) : Cu)] := hc;rw [Y0g] at hc;subst hc; decide
theorem Zlq {l:List Cu} (hs:Snd tB false [] l):0<l.length:=by
 have h1:=(hs.inv rfl).tg 14 (show 14 ||| mkN 3=mkN 3 by decide) rfl (by rw [Zck rfl]; decide +kernel);cases l with
 | nil=>cases h1
 | cons c l=>exact Nat.succ_pos _
theorem Z6o {cc r:List PV} {x:PV} {k:Nat} (h:cc.drop k=x :: r):(cc ++ []).getD k pvu=x:=by
 have:cc[k]?=some x:=by
  have:=congrArg (fun m=>m[0]?) h;simpa [Y1p] using this
 rw [Y0p,Y0b,this]; rfl
def X7y:List (List PV) := [[.val (.bool false),.vec [] true,.vec [] true,.val (.int .i64 1),.val (.int .i64 0)],[.val (.bool false),.vec (X5 (X9 2)) false,.vec [] true,.val (.int .i64 2),.val (.int .i64 0)],[.val (.bool false),.vec (X5 (X9 4)) false,.vec (X5 (X9 2)) false,.val (.int .i64 3),.val (.int .i64 0)],[.val (.bool true),.vec [] true,.vec [] true,.val (.int .i64 1),.val (.int .i64 0)]]
def X7m:List (List PV) := [[.val (.bool false),.vec (X5 (X9 2)) false,.vec [] true,.val (.int .i64 2),.val (.int .i64 0)]]
def X6q:List (List PV) := [[.vec (X5 (X9 8)) false,.vec [] true]]
theorem w00:X5 (X9 0) = []:=by rw [ZL]; rfl
theorem X7G:Xx X7y=rsA.map ruP:=by
 show [[PV.val (.bool false),.vec [] false,.vec [] false,.val (.int .i64 1),.val (.int .i64 0)],[.val (.bool false),.vec (Xx (X5 (X9 2))) false,.vec [] false,.val (.int .i64 2),.val (.int .i64 0)],[.val (.bool false),.vec (Xx (X5 (X9 4))) false,.vec (Xx (X5 (X9 2))) false,.val (.int .i64 3),.val (.int .i64 0)],[.val (.bool true),.vec [] false,.vec [] false,.val (.int .i64 1),.val (.int .i64 0)]] =
  [[PV.val (.bool false),.vec (X5 (X9 0)) false,.vec (X5 (X9 0)) false,.val (.int .i64 1),.val (.int .i64 0)],[.val (.bool false),.vec (X5 (X9 2)) false,.vec (X5 (X9 0)) false,.val (.int .i64 2),.val (.int .i64 0)],[.val (.bool false),.vec (X5 (X9 4)) false,.vec (X5 (X9 2)) false,.val (.int .i64 3),.val (.int .i64 0)],[.val (.bool true),.vec (X5 (X9 0)) false,.vec (X5 (X9 0)) false,.val (.int .i64 1),.val (.int .i64 0)]]
 rw [Z1x,Z1x,w00]
theorem X83:Xx X7m=rsB.map ruP:=by
 show [[PV.val (.bool false),.vec (Xx (X5 (X9 2))) false,.vec [] false,.val (.int .i64 2),.val (.int .i64 0)]] = [[PV.val (.bool false),.vec (X5 (X9 2)) false,.vec (X5 (X9 0)) false,.val (.int .i64 2),.val (.int .i64 0)]];rw [Z1x,w00]
theorem X7v:Xx X6q = [((8,0):Cu)].map cuC:=by
 show [[PV.vec (Xx (X5 (X9 8))) false,.vec [] false]] = [[PV.vec (X5 (X9 8)) false,.vec (X5 (X9 0)) false]];rw [Z1x,w00]
theorem Z9p {ρ:Nat->Nat} {D:Nat->Prop} {r m:List (List PV)} {fl:Bool} (h:Xx r=m) (hm:X3 m):X1A ρ D (.vec r fl) (.vec m false):=by
 have:=X1A.low (ρ:=ρ) (D:=D) (.vec r fl) (by show X3 (Xx r); rw [h]; exact hm);have e:PV.low (.vec r fl)=.vec m false:=by show PV.vec (Xx r) false=_; rw [h]
 rwa [e] at this
theorem Zkb {ρ:Nat->Nat} {D:Nat->Prop}:X1A ρ D (.vec [] true) (.vec (X5 (X9 0)) false):=by rw [w00]; exact .low (.vec [] true) Yt
theorem ZaE:X7 Tryz.prog 4 [] (· = .val (.bool true)):=by
 refine Yp ok4 fun C hC=>?_;refine gd 12 ⟨?_⟩;refine Zx rfl rfl Z2V Yt rfl ?_;rintro r ⟨S1,rfl⟩;refine gd 14 ⟨?_⟩;refine Qe (Z40 [3] 8 (by decide +kernel) true) ⟨ZD _,Yt⟩ ?_;refine gd 19 ⟨?_⟩;refine Qe (Z40 [1] 2 (by decide +kernel) true) ⟨ZD _,Yt⟩ ?_;refine gd 23 ⟨?_⟩;refine Qe (Z40 [2] 4 (by decide +kernel) true) ⟨ZD _,Yt⟩ ?_;refine gd 25 ⟨?_⟩;refine Qe (Z40 [1] 2 (by decide +kernel) true) ⟨ZD _,Yt⟩ ?_;refine gd 31 ⟨?_⟩;refine Z4u rfl rfl (.inl rfl) Z2V Yt ?_;rintro r ⟨S2,rfl⟩;refine gd 33 ⟨?_⟩;refine Qd (Z40 [1] 2 (by decide +kernel) true) ⟨ZD _,Yt⟩ ?_;refine gd 37 ⟨?_⟩;refine Qd (Z40 [1] 2 (by decide +kernel) true) ⟨ZD _,Yt⟩ ?_
 iterate 7 (first|refine st ?_|(apply B<;>intro hb<;>try cases hb))
 have hA:=ZH tA S1;have hB:=ZH tB S2
 refine Z1S (Z2q (X39.mem (ρ:=fun i=>i) (m:=14) (L := [(1,.ptr 0 0 0),(2,.ptr 12 0 0)]) ⟨Qt 0 0 0,Qt 12 0 0,Yt⟩)
  (X1s.mem (ρ := fun i => i) (m := 14) (L := [(0, ⟨6, [pbP tA S1]⟩), (12, ⟨6, [pbP tB S2]⟩)]) ⟨⟨by decide, ⟨6, [[.val (.int .i64 3), XL [] S1, .vec [] true, .vec X7y true, .vec [] true, .vec X6q true]]⟩, rfl,
    Xr.single (l:=pbP tA S1) ⟨.pure _ Yt,.pure _ (Zk _ _),Zkb,Z9p X7G (Zs rsA),.low (.vec [] true) Yt,Z9p X7v (Z0 _),Yt⟩ rfl⟩,⟨by decide,⟨6,[[.val (.int .i64 3),XL [] S2,.vec (X5 (X9 2)) false,.vec X7m true,.vec [] true,.vec X6q true]]⟩,rfl,
    Xr.single (l:=pbP tB S2) ⟨.pure _ Yt,.pure _ (Zk _ _),.pure _ (Z6 _),Z9p X83 (Zs rsB),.low (.vec [] true) Yt,Z9p X7v (Z0 _),Yt⟩ rfl⟩,Yt⟩) hC (by decide)) ?_
 refine gd 44 ⟨?_⟩;refine Zx rfl rfl (Z5k Zcj (by decide) Zlz S1 2000 (by decide)) ⟨hA,Yt,Yt⟩ rfl ?_;intro r hr;obtain⟨m,R,b,p,fp,l,fl,hR,hm,hs⟩:=hr;obtain rfl:b=true:=(hs.able Zcj).2 Zka;rw [frA hR] at hm;obtain rfl:m=2:=hm;obtain⟨⟨E,hrun,hre⟩,hpl⟩:=hs.plan rfl;have hid:=Z3x tA;have hc1:(Xy (X11 tA) true p fp l fl).length=35:=Z2l hid;have d32:=Z6o (Zdr (b:=true) (p:=p) (fp:=fp) (l:=l) (fl:=fl) hid);have d33:=Z6o (Zir (b:=true) (p:=p) (fp:=fp) (l:=l) (fl:=fl) hid);generalize Xy (X11 tA) true p fp l fl=ca at hc1 d32 d33;have hca:(ca ++ []).length=35:=by rw [Y0p]; exact hc1
 iterate 5 (first|refine st ?_|(apply B<;>intro hb<;>try cases hb))
 refine Qo (Z41 rfl rfl rfl hc1 rfl) ?_;refine gd 50 ⟨?_⟩;refine Zx rfl rfl (Z5k ZgZ (by decide) ZlA S2 2000 (by decide)) ⟨hB,Yt,Yt⟩ rfl ?_;intro r hr;obtain⟨m,R2,b,q,fq,l2,fl2,hR2,hm,hs2⟩:=hr;obtain rfl:b=false:=YB.2 fun hb=>Zl3 ((hs2.able ZgZ).1 hb);rw [frB hR2] at hm;obtain rfl:m=1:=hm;have hq:q = []:=by
  rcases hs2.form with⟨hb,_⟩|⟨_,hq⟩
  . cases hb
  . exact hq
 subst hq;have hne:=Zlq hs2;have hid2:=Z3x tB;have hc2:(Xy (X11 tB) false [] fq l2 fl2).length=35:=Z2l hid2;have e32:=Z6o (Zdr (b:=false) (p := []) (fp:=fq) (l:=l2) (fl:=fl2) hid2);have e34:=Z6o (Zis (b:=false) (p := []) (fp:=fq) (l:=l2) (fl:=fl2) hid2);generalize Xy (X11 tB) false [] fq l2 fl2=cb at hc2 e32 e34;have hcb:(cb ++ []).length=35:=by rw [Y0p]; exact hc2
 iterate 5 (first|refine st ?_|(apply B<;>intro hb<;>try cases hb))
 refine Qo (Z41 rfl rfl rfl hc2 rfl) ?_;refine gd 57 ⟨?_⟩;refine Qo (Z7w (l:=ca ++ []) (off:=33) (v:=.vec (inL p) fp) rfl rfl (by omega) d33) ?_;refine Qe (Zgr Zcj S1 p fp (by omega) hrun) ⟨hA,Zz p,Yt⟩ ?_;refine gd 66 ⟨?_⟩;refine ZC rfl ?_;refine Qo (Z7w (l:=ca ++ []) (off:=32) (v:=.val (.bool true)) rfl rfl (by omega) d32) ?_;have hE:=Zc1 Zcj p Zcj.st hrun;have hrS:=Z71 Zcj S1 E (InS.lt (by decide) hE);rw [hre] at hrS;refine gd 78 ⟨?_⟩;refine ZC rfl ?_;refine Qe hrS ⟨hA,Z2 _,Yt⟩ ?_;refine gd 86 ⟨?_⟩;refine ZC rfl ?_;refine Qo (Z7w (l:=cb ++ []) (off:=32) (v:=.val (.bool false)) rfl rfl (by omega) e32) ?_;refine gd 95 ⟨?_⟩;refine ZC rfl ?_;refine Qo (Z7w (l:=cb ++ []) (off:=34) (v:=.vec (l2.map cuC) fl2) rfl rfl (by omega) e34) ?_;have hnl:(l2.map cuC).length=l2.length:=Y0f ..;refine gd 97 ⟨?_⟩;refine ZC rfl ?_;refine Qo (Qy rfl (by rw [hnl];omega)) ?_;refine go ?_;exact Z7 rfl Yt rfl
def z14:List PV := [.val (.int .i64 0),.val (.pointer none),.vec [] true,.vec [] true,.vec [] true,.vec [] true,.val (.int .i64 0),.val (.pointer none),.vec [] true,.vec [] true,.vec [] true,.vec [] true,.vec [] true,.vec [] true]
theorem Zdx:X6 z14:=⟨Yt,Yt,Yt,Yt,Yt,Yt,Yt,Yt,Yt,Yt,Yt,Yt,Yt,Yt,Yt⟩
def X4c (L e:Int):Int:=if L<1 then 1 else e
theorem Zh0 {L e:Int} (he:e≠0):X4c L e≠0:=by unfold X4c; split<;>omega
section
variable {v0 v1 v2 v3 v4 v5:PV} {e:Int}
theorem ZaF (hq:X6 [v0,v1,v2,v3,v4,v5]) (he:e≠0) (hc:X7 Tryz.prog 48 [.agg [v0,v1,v2,v3,v4,v5]] (· = .val (.int .i64 e))) (L:Int):X7 Tryz.prog 23 [.agg [v0,v1,v2,v3,v4,v5],.val (.int .i64 L)] (· = .tup [.agg z14,.val (.int .i64 (X4c L e))]):=by
 refine Yp ok23 fun C hC=>?_;refine Zn ?_;refine Za ?_;refine Z5 rfl rfl rfl ?_;refine gd 11 ⟨?_⟩;by_cases hL:L<1
 . refine Qo (Qy rfl hL) ?_;rw [show X4c L e=1 from Y5 hL];refine go ?_;exact Z7 rfl ⟨Zdx,Yt,Yt⟩ rfl
 . refine Qo (Qz rfl hL) ?_;rw [show X4c L e=e from Y6 hL];refine gd 14 ⟨?_⟩;refine Qe hc ⟨hq,Yt⟩ ?_;refine gd 16 ⟨?_⟩;refine Qo (Z8 (v:=true) rfl (by simpa using he)) ?_;refine go ?_;exact Z7 rfl ⟨Zdx,Yt,Yt⟩ rfl
theorem ZeL (hq:X6 [v0,v1,v2,v3,v4,v5]) (he:e≠0) (hc:X7 Tryz.prog 48 [.agg [v0,v1,v2,v3,v4,v5]] (· = .val (.int .i64 e))) (L:Int):X7 Tryz.prog 9 [.agg [v0,v1,v2,v3,v4,v5],.val (.int .i64 L)] (· = .tup [.agg X2F,.val (.int .u8 0),.val (.int .i64 (X4c L e))]):=by
 have hl:=Zh0 (L:=L) he;refine Yp ok9 fun C hC=>?_;refine Zn ?_;refine Za ?_;refine Z5 rfl rfl rfl ?_;refine gd 14 ⟨?_⟩;refine Qe (ZaF hq he hc L) ⟨hq,Yt,Yt⟩ ?_;refine gd 18 ⟨?_⟩;refine Qo (Z8 (v:=true) rfl (by simpa using hl)) ?_;refine go ?_;exact Z7 (r:=.tup [.agg X2F,.val (.int .u8 0),.val (.int .i64 (X4c L e))]) rfl ⟨Z1h,Yt,Yt,Yt⟩ rfl
def X5L (m L e:Int):Int:=if m<1 \/ 3<m then 1 else X4c L e
theorem ZiB (hq:X6 [v0,v1,v2,v3,v4,v5]) (he:e≠0) (hc:X7 Tryz.prog 48 [.agg [v0,v1,v2,v3,v4,v5]] (· = .val (.int .i64 e))) (m L:Int):X7 Tryz.prog 10 [.agg [v0,v1,v2,v3,v4,v5],.val (.int .u8 m),.val (.int .i64 L)] (· = .tup [.agg X2F,.val (.int .i64 (X5L m L e))]):=by
 have hl:=Zh0 (L:=L) he;refine Yp ok10 fun C hC=>?_;refine Zn ?_;refine Za ?_;refine Z5 rfl rfl rfl ?_;refine gd 11 ⟨?_⟩;by_cases h1:m<1
 . refine Qo (Qy rfl h1) ?_;rw [show X5L m L e=1 from Y5 (.inl h1)];refine go ?_;exact Z7 (r:=.tup [.agg X2F,.val (.int .i64 1)]) rfl ⟨Z1h,Yt,Yt⟩ rfl
 refine Qo (Qz rfl h1) ?_;refine gd 14 ⟨?_⟩;refine ZC rfl ?_;by_cases h2:3<m
 . refine Qo (Qy rfl h2) ?_;rw [show X5L m L e=1 from Y5 (.inr h2)];refine go ?_;exact Z7 (r:=.tup [.agg X2F,.val (.int .i64 1)]) rfl ⟨Z1h,Yt,Yt⟩ rfl
 refine Qo (Qz rfl h2) ?_;rw [show X5L m L e=X4c L e from Y6 (by omega)];refine gd 20 ⟨?_⟩;refine Qe (ZaF hq he hc L) ⟨hq,Yt,Yt⟩ ?_;refine gd 24 ⟨?_⟩;refine Qo (Z8 (v:=true) rfl (by simpa using hl)) ?_;refine go ?_;exact Z7 (r:=.tup [.agg X2F,.val (.int .i64 (X4c L e))]) rfl ⟨Z1h,Yt,Yt⟩ rfl
end
def X5Q:PV:=.cp [.vec [] true,.val (.map none)]
def X4K:PV:=.cp [.vec [] true]
theorem Z5l:X5Q.pure:=⟨Yt,Yt,Yt⟩
theorem Z2m:X4K.pure:=⟨Yt,Yt⟩
noncomputable def stE (S:List Nat):List PV := [.val (.int .i64 0),X5Q,X5Q,.vec [] true,XL [] S,X4K,X4K,.vec [] true,.vec [] true,X4K]
noncomputable def X4x (S:List Nat):PV:=.cp (stE S)
theorem Z6p (S:List Nat):X6 (stE S):=⟨Yt,Z5l,Z5l,Yt,Zk [] S,Z2m,Z2m,Yt,Yt,Z2m,Yt⟩
theorem Z1i (S:List Nat):(X4x S).pure:=Z6p S
theorem Z5m:X7 Tryz.prog 28 [] (· = X5Q):=by
 refine Yp ok28 fun C hC=>?_;refine gd 2 ⟨?_⟩;refine Z5 rfl rfl rfl ?_;refine go ?_;exact Z7 rfl Z5l rfl
theorem Zcl:X7 Tryz.prog 29 [] (· = X4K):=by
 refine Yp ok29 fun C hC=>?_;refine gd 2 ⟨?_⟩;refine Z5 rfl rfl rfl ?_;refine go ?_;exact Z7 rfl Z2m rfl
theorem Z9q:X7 Tryz.prog 30 [] (· = X4K):=by
 refine Yp ok30 fun C hC=>?_;refine gd 2 ⟨?_⟩;refine Z5 rfl rfl rfl ?_;refine go ?_;exact Z7 rfl Z2m rfl
theorem Zcm:X7 Tryz.prog 31 [] (· = X4K):=by
 refine Yp ok31 fun C hC=>?_;refine gd 2 ⟨?_⟩;refine Z5 rfl rfl rfl ?_;refine go ?_;exact Z7 rfl Z2m rfl
theorem Z1H:X7 Tryz.prog 12 [] fun r=>∃ S,r=X4x S:=by
 refine Yp ok12 fun C hC=>?_;refine gd 1 ⟨?_⟩;refine Qe Z5m Yt ?_;refine Qe Z5m Yt ?_;refine Zx rfl rfl Z2V Yt rfl ?_;rintro r ⟨S,rfl⟩;refine Qe Zcl Yt ?_;refine Qe Z9q Yt ?_;refine Qe Zcm Yt ?_;refine gd 9 ⟨?_⟩;refine Z5 rfl rfl rfl ?_;refine go ?_;exact Z7 rfl (Z1i S) ⟨S,rfl⟩
theorem ZaG:X7 Tryz.prog 76 [X5Q] (· = .val (.int .i64 0)):=by
 refine Yp ok76 fun C hC=>?_;refine go ?_;exact Z7 rfl Yt rfl
theorem Z7m (S:List Nat):X7 Tryz.prog 32 [X4x S] (· = .val (.int .i64 0)):=by
 refine Yp ok32 fun C hC=>?_;refine gd 10 ⟨?_⟩;refine Qe ZaG ⟨Z5l,Yt⟩ ?_;refine go ?_;exact Z7 rfl Yt rfl
theorem Zcn (S:List Nat):X7 Tryz.prog 116 [.agg (stE S)] (· = .agg (stE S)):=by
 refine Yp ok116 fun C hC=>?_;refine gd 10 ⟨?_⟩;refine ZG (Z8B (a:=0) (b:=0) rfl rfl (Y0m _) (by decide)) rfl rfl ?_;refine gd 14 ⟨?_⟩;refine Qo (ZiF rfl rfl rfl (fun c hc=>by cases hc) rfl) ?_;refine gd 15 ⟨?_⟩;refine Zb (Zm (k:=3) (b:=⟨7,[]⟩) rfl rfl Yt) ?_;refine go ?_;refine Z17 0 ?_;refine go ?_;exact Z7 rfl (Z6p S) rfl
theorem Zco (S:List Nat):X7 Tryz.prog 63 [X4x S] (· = .agg (stE S)):=by
 refine Yp ok63 fun C hC=>?_;refine gd 10 ⟨?_⟩;refine Qe (Zcn S) ⟨Z6p S,Yt⟩ ?_;refine go ?_;exact Z7 rfl (Z6p S) rfl
theorem Zcp:X1l Tryz.prog 188 [.vec [] true] .own ⟨4,[]⟩:=by
 refine Z1b ok188 (Y0 rfl) fun C hC=>?_;refine go ?_;refine Z3c (.inl ⟨_,_,rfl⟩) rfl fun b=>?_;cases b
 . repeat' (first | refine Zb (Zt (k := 5) rfl 4 (by decide)) ?_ | (first|refine st ?_|(apply B<;>intro hb<;>try cases hb)))
   exact⟨_,_,rfl,.inl rfl,_,rfl,rfl⟩
 . iterate 6 (first|refine st ?_|(apply B<;>intro hb<;>try cases hb))
   refine Z1S (Zt (k:=2) rfl 4 (by decide) _) ?_;refine go ?_;exact⟨_,_,rfl,.inl rfl,_,rfl,rfl⟩
theorem Z9r:X7 Tryz.prog 125 [X4K] (· = .vec [] false):=by
 refine Yp ok125 fun C hC=>?_;refine gd 9 ⟨?_⟩;refine Z2v Zcp Z2o (show X3 ([]:List (List PV)) from Yt) rfl rfl ⟨Yt,Yt⟩ ?_;refine Zb (Zm (k:=9) (b:=⟨4,[]⟩) rfl rfl Yt) ?_;refine go ?_;exact Z7 rfl Yt rfl
def sE:PV:=.val (.string ⟨#[]⟩)
theorem Z7z:X7 Tryz.prog 74 [X4K,sE,sE] (· = .agg [.vec [] true]):=by
 refine Yp ok74 fun C hC=>?_;refine gd 12 ⟨?_⟩;refine Qe Z9r ⟨Z2m,Yt⟩ ?_;refine go ?_;refine Z17 0 ?_;refine go ?_;exact Z7 rfl ⟨Yt,Yt⟩ rfl
theorem ZaH (S:List Nat):X7 Tryz.prog 27 [X4x S,sE,sE] (· = .vec [] true):=by
 have hd:X9 0 = []:=by rw [ZL]
 have hm0:∀ r,r ∉ mem 0:=fun r hr=>by
  rw [Z13 (by decide),Y1w] at hr; cases hr
 refine Yp ok27 fun C hC=>?_;refine gd 12 ⟨?_⟩;refine Qe (Zco S) ⟨Z1i S,Yt⟩ ?_;refine gd 16 ⟨?_⟩;refine Qe Z7z ⟨Z2m,Yt,Yt,Yt⟩ ?_;refine ZdO (Z1E 0) rfl rfl (by show [PV.agg [.vec [] false]] = [XC 0]; unfold XC; rw [hd]; rfl) ⟨Z2 _,Yt⟩ rfl ?_;refine go ?_;refine Z2s (X:=List Nat) hC (caps := [.cp [.vec (X5 (X9 0)) false]]) [(7,.ptr 0 0 0),(17,.fn 127 [.cp [.vec (X5 (X9 0)) false]])]
  (fun _ => [(0,⟨1,[[.vec [] true]]⟩)]) rfl ⟨⟨Z6 _,Yt⟩,Yt⟩ (Z2u 0 (by decide)) (fun _=>rfl)
  (fun ex pre z=>ex=.normal/\z = []) 1 (by decide) [] ⟨rfl,rfl⟩
  (Z2q (X39.mem (ρ := fun i => i) (m := 1) (L := [(7, .ptr 0 0 0), (17, .fn 127 [.cp [.vec (X5 (X9 0)) false]])]) ⟨Qt 0 0 0, Qp ⟨⟨Z6 _, Yt⟩, Yt⟩, Yt⟩)
    (X1s.mem (ρ:=fun i=>i) (m:=1) (L := [(0,⟨1,[[.vec [] true]]⟩)]) ⟨Qs ⟨⟨Yt,Yt⟩,Yt⟩,Yt⟩) hC (by decide))
  (fun z q hq=>by simp at hq; subst hq; exact Y1B) _ (fun x=>rfl) ?_ ?_ ?_
 . rintro C2 hC2 pre x z ⟨-, rfl⟩ hlen;exact absurd x.2 (hm0 _)
 . rintro xs z hxs ⟨-, rfl⟩;refine go ?_;exact Z7 rfl Yt rfl
 . rintro ex pre z - ⟨rfl,_⟩ (h|⟨id,h⟩)<;>cases h
theorem ZeM (S:List Nat):X7 Tryz.prog 61 [.val (.int .i64 1),.cp [X4x S]] (· = .val (.bool false)):=by
 refine Yp ok61 fun C hC=>?_;refine gd 9 ⟨?_⟩;refine ZC rfl ?_;refine Qe (Z7m S) ⟨Z1i S,Yt⟩ ?_;refine go ?_;exact Z7 rfl Yt rfl
theorem Z9s:X6 z6:=⟨Yt,Yt,Yt,Yt,Yt,Yt,Yt⟩
theorem ZiC (S:List Nat):X7 Tryz.prog 26 [X4x S,.vec [] true,.val (.int .i64 1),.vec [] true] (· = .tup [.agg z6,.val (.int .i64 4)]):=by
 refine Yp ok26 fun C hC=>?_;refine Zn ?_;refine Za ?_;refine Z5 rfl rfl rfl ?_;refine gd 27 ⟨?_⟩;refine Qe (ZeM S) ⟨Yt,⟨Z1i S,Yt⟩,Yt⟩ ?_;refine go ?_;exact Z7 (r:=.tup [.agg z6,.val (.int .i64 4)]) rfl ⟨Z9s,Yt,Yt⟩ rfl
def qsP (L:Int):PV:=.agg [sE,sE,.val (.int .i64 L)]
theorem Z2d (L:Int):(qsP L).pure:=⟨Yt,Yt,Yt,Yt⟩
theorem Z7n (u:Int):X7 Tryz.prog 11 [.val (.pointer none),.vec [] true,.val (.int .i64 u),qsP 5] (· = .tup [.agg X2F,.agg z6,.val (.int .i64 1)]):=by
 refine Yp ok11 fun C hC=>?_;refine Zn ?_;refine Za ?_;refine Z5 rfl rfl rfl ?_;refine go ?_;exact Z7 (r:=.tup [.agg X2F,.agg z6,.val (.int .i64 1)]) rfl ⟨Z1h,Z9s,Yt,Yt⟩ rfl
theorem Z7o (S:List Nat) (u:Int):X7 Tryz.prog 11 [X4x S,.vec [] true,.val (.int .i64 u),qsP 0] (· = .tup [.agg X2F,.agg z6,.val (.int .i64 1)]):=by
 refine Yp ok11 fun C hC=>?_;refine Zn ?_;refine Za ?_;refine Z5 rfl rfl rfl ?_;refine go ?_;exact Z7 (r:=.tup [.agg X2F,.agg z6,.val (.int .i64 1)]) rfl ⟨Z1h,Z9s,Yt,Yt⟩ rfl
theorem ZaI (S:List Nat):X7 Tryz.prog 11 [X4x S,.vec [] true,.val (.int .i64 1),qsP 1] (· = .tup [.agg X2F,.agg z6,.val (.int .i64 4)]):=by
 refine Yp ok11 fun C hC=>?_;refine Zn ?_;refine Za ?_;refine Z5 rfl rfl rfl ?_;refine gd 33 ⟨?_⟩;refine Qe (ZaH S) ⟨Z1i S,Yt,Yt,Yt⟩ ?_;refine Qe (ZiC S) ⟨Z1i S,Yt,Yt,Yt,Yt⟩ ?_;refine go ?_;exact Z7 (r:=.tup [.agg X2F,.agg z6,.val (.int .i64 4)]) rfl ⟨Z1h,Z9s,Yt,Yt⟩ rfl
theorem Z7p:X7 Tryz.prog 13 [.val (.pointer none),.vec [] true,qsP 5] (· = .tup [.vec [] true,.val (.int .i64 1)]):=by
 refine Yp ok13 fun C hC=>?_;refine Zn ?_;refine Za ?_;refine Z5 rfl rfl rfl ?_;refine go ?_;exact Z7 rfl ⟨Yt,Yt,Yt⟩ rfl
theorem ZaJ (S:List Nat):X7 Tryz.prog 13 [X4x S,.vec [] true,qsP 5] (· = .tup [.vec [] true,.val (.int .i64 0)]):=by
 refine Yp ok13 fun C hC=>?_;refine Zn ?_;refine Za ?_;refine Z5 rfl rfl rfl ?_;refine go ?_;refine Z17 0 ?_;refine gd 22 ⟨?_⟩;refine Qe (Z7m S) ⟨Z1i S,Yt⟩ ?_;refine go ?_;exact Z7 rfl ⟨Yt,Yt,Yt⟩ rfl
noncomputable def X5V (t:PB) (S:List Nat) (i:Nat):List PV := [.val (.int .i64 (t.n:Int)),XL t.l S,.vec (X5 (X9 t.st)) false,.vec (t.rs.map ruP) false,.vec (t.nv.map cuC) false,.own i]
theorem Zkc (t:PB) (S:List Nat):Mk fun i=>.agg (X5V t S i):=by
 intro F φ φ' v i n hn hv;show Rep F φ' v (.agg (X5V t S n));refine Zk3 (l:=X5V t S i) (m:=X5V t S n) rfl (fun m v hm hv=>?_) hv
 match m,hm with
 | 0,_=>exact hv.pure Yt
 | 1,_=>exact hv.pure (Zk _ _)
 | 2,_=>exact hv.pure (Z6 _)
 | 3,_=>exact hv.pure (Zs _)
 | 4,_=>exact hv.pure (Z0 _)
 | 5,_=>exact Z2o F φ φ' v i n hn hv
 | m+6,h=>exact absurd h (by show ¬ m+6<6;omega)
theorem Zh1 {t:PB} (h:Xv t) (S:List Nat):X1l Tryz.prog 6 [.agg (pbP t S)] (fun i=>.agg (X5V t S i)) ⟨2,t.gl.map cuC⟩:=by
 have hrl:=h.rl;have hnl:=h.nl;have hgk:=h.gk;refine Z1b ok6 (Y0 rfl) fun C hC=>?_;refine gd 5 ⟨?_⟩;refine Z3j (Z8n t.rs false (by omega)) Z2o (Zs _) rfl rfl rfl ⟨Zs _,Yt⟩ ?_;refine gd 8 ⟨?_⟩;refine Z3j (Z4m t.nv false (by omega)) Z2o (Z0 _) rfl rfl rfl ⟨Z0 _,Yt⟩ ?_;refine gd 11 ⟨?_⟩;refine Z3j (Z4m t.gl false (by omega)) Z2o (Z0 _) rfl rfl rfl ⟨Z0 _,Yt⟩ ?_;refine gd 15 ⟨?_⟩;refine Zb (Zp (ob:=0) (id:=4) (i0:=0) (j0:=3) rfl rfl (by decide) (Zs _) (Y0 rfl) (Y0 rfl) rfl) ?_;refine Zb (Zp (ob:=0) (id:=7) (i0:=0) (j0:=4) rfl rfl (by decide) (Z0 _) (Y0 rfl) (Y0 rfl) rfl) ?_;refine go ?_;exact⟨_,_,rfl,.inl rfl,10,rfl,rfl⟩
theorem es0 {t:PB} (h:Xv t) (S:List Nat):X7 Tryz.prog 48 [.agg [.val (.int .i64 0),XL t.l S,.vec (X5 (X9 t.st)) false,.vec (t.rs.map ruP) false,.vec (t.nv.map cuC) false,.vec (t.gl.map cuC) false]] (· = .val (.int .i64 1)):=by
 have hrI:t.rs.map ruP=(t.rs.map toI).map ruI:=by rw [Y20]; rfl
 have h1:=Z3r 0 t.l S t.st (t.rs.map toI) t.nv t.gl (Z75 h);rw [show X4o 0 t.l t.st (t.rs.map toI) t.nv t.gl=1 from Y5 (.inl (by decide))] at h1;unfold X4v at h1
 rwa [<- hrI] at h1
theorem es1 {t:PB} (h:Xv t) (hn:t.n<=5) (S:List Nat):X7 Tryz.prog 48 [.agg [.val (.int .i64 (t.n:Int)),XL t.l S,.vec (X5 (X9 t.st)) false,.vec (t.rs.map ruP) false,.vec (t.nv.map cuC) false,.vec (t.gl.map cuC ++ [cuC (2,2)]) false]] (· = .val (.int .i64 6)):=by
 have hrI:t.rs.map ruP=(t.rs.map toI).map ruI:=by rw [Y20]; rfl
 have hf:=Z75 h;have hgk:=h.gk;have hcu:X2f (t.rs.map toI) t.nv (t.gl ++ [(2,2)])=X2f (t.rs.map toI) t.nv t.gl ++ [(2,2)]:=by unfold X2f; simp only [YR]
 have hf2:X6f t.l t.st (t.rs.map toI) t.nv (t.gl ++ [(2,2)]):=⟨hf.fl,hf.fs,hf.fr,hf.fv,by simp only [Y0e,Y0s]; omega,fun c hc=>by
  rw [hcu] at hc;rcases Y0h.1 hc with hc|hc
  . exact hf.fc c hc
  . rw [Y0g] at hc; subst hc; exact⟨by decide,by decide⟩⟩
 have h1:=Z3r t.n t.l S t.st (t.rs.map toI) t.nv (t.gl ++ [(2,2)]) hf2;obtain⟨hn1,hr1,hk,-,-,-⟩:=ZgW (Zgb h);have hnl:=h.nl;have hk2:knB (mkN (t.n:Int).toNat) t.l t.st (t.rs.map toI) (X2f (t.rs.map toI) t.nv (t.gl ++ [(2,2)]))=true:=by
  unfold knB at hk ⊢;rw [hcu,Y4w];rw [Y0k,Y0k,Y0k] at hk ⊢;refine⟨hk.1,hk.2.1,hk.2.2.1,?_⟩;rw [hk.2.2.2,Y1e];show (decide (2 ||| 2 ||| mkN (t.n:Int).toNat=mkN (t.n:Int).toNat)&&true)=true;have h2:1<=t.n:=h.n.1;rw [YW];have:t.n=1 \/ t.n=2 \/ t.n=3 \/ t.n=4 \/ t.n=5:=by omega
  rcases this with e|e|e|e|e<;>rw [e]<;>decide +kernel
 rw [show X4o t.n t.l t.st (t.rs.map toI) t.nv (t.gl ++ [(2,2)])=6 by
  unfold X4o
  rw [Y6 (by omega),Y6 (by simp only [Y0e,Y0s];omega),hk2,Y6 (by decide),Y5 (.inl (by rw [hcu,Y2W]; show (_||true)=true; exact Y2O _))]] at h1
 unfold X4v at h1
 rwa [Y0r,<- hrI] at h1
theorem es2 {t:PB} (h:Xv t) (hn:t.n<=5) (S:List Nat):X7 Tryz.prog 48 [.agg [.val (.int .i64 (t.n:Int)),XL t.l S,.vec (X5 (X9 (t.st ||| 2 ^ (t.n+1)))) false,.vec (t.rs.map ruP) false,.vec (t.nv.map cuC) false,.vec (t.gl.map cuC) false]] (· = .val (.int .i64 4)):=by
 have hrI:t.rs.map ruP=(t.rs.map toI).map ruI:=by rw [Y20]; rfl
 have hf:=Z75 h;have hp:2 ^ (t.n+1)<18446744073709551616:=Y1A (n:=64) (by decide) (by omega);have h1:=Z3r t.n t.l S (t.st ||| 2 ^ (t.n+1)) (t.rs.map toI) t.nv t.gl ⟨hf.fl,Z1T hf.fs hp,hf.fr,hf.fv,hf.fg,hf.fc⟩;obtain⟨hn1,hr1,-,-,-,-⟩:=ZgW (Zgb h);have hnl:=h.nl;have hgk:=h.gk;have hk2:knB (mkN (t.n:Int).toNat) t.l (t.st ||| 2 ^ (t.n+1)) (t.rs.map toI) (X2f (t.rs.map toI) t.nv t.gl)=false:=by
  unfold knB;rw [YW,Y0w,Y2I];intro he;have:=congrArg (·.testBit (t.n+1)) he;simp only [Y00,Y2i,Z27,Y2O,Y2A] at this;rw [Y0w (by omega:¬ t.n+1<=t.n),Y3u] at this;cases this
 rw [show X4o t.n t.l (t.st ||| 2 ^ (t.n+1)) (t.rs.map toI) t.nv t.gl=4 by
  unfold X4o
  rw [Y6 (by omega),Y6 (by omega),Y5 hk2]] at h1
 unfold X4v at h1
 rwa [<- hrI] at h1
structure X7X (z:List PV×Nat×Bx×Int):Prop where
 id:z.2.1<30/\z.2.1≠0
 pure:X3 z.2.2.1.elems
 len:z.1.length=6
 own:z.1.getD 5 pvu=.own z.2.1
 ne:z.2.2.2≠0
 tail:X6 (z.1.set 5 (.vec z.2.2.1.elems false))/\X7 Tryz.prog 48 [.agg (z.1.set 5 (.vec z.2.2.1.elems false))] (· = .val (.int .i64 z.2.2.2))
theorem X7H {q:List PV} (h:q.length=6):∃ v0 v1 v2 v3 v4 v5,q = [v0,v1,v2,v3,v4,v5]:=by
 match q,h with
 | [v0,v1,v2,v3,v4,v5],_=>exact⟨v0,v1,v2,v3,v4,v5,rfl⟩
theorem Z7A (p:List Nat) (odd:Nat) (L:Int) (fl:Bool) (hp:X46 p) (ho:odd<256) (hL:True):X7 Tryz.prog 3 [.vec (bys p) fl,.val (.int .u8 (odd:Int)),.val (.int .i64 L)] (· = .val (.bool true)):=by
 refine Yp ok3 fun C hC=>?_;refine gd 30 ⟨?_⟩;refine Qe ZaE Yt ?_;refine gd 34 ⟨?_⟩;refine Zx rfl rfl (Zei p fl hp) ⟨Zg p,Yt⟩ rfl ?_;rintro r ⟨t,S,hmk,rfl⟩;have h:=hmk.ok;have hn:=hmk.n;have hpp:=ZH t S;have hpr:=Z6g t;have hgb:=h.gk;have hst:=(Z75 h).fs;refine gd 41 ⟨?_⟩;refine Z2v (Zh1 h S) (Zkc t S) (Z0 _) rfl rfl ⟨hpp,Yt⟩ ?_;refine gd 43 ⟨?_⟩;refine Zh rfl rfl rfl (Z2z odd 6) ?_;have hm6:odd % 6<6:=Y1l _ (by decide);generalize odd % 6=m at hm6 ⊢;refine gd 11 ⟨?_⟩
 iterate 2 (first|refine st ?_|(apply B<;>intro hb<;>try cases hb))
 show aw _ _ _ _ _ _ _;have hhp:∀ D,(XL t.l S).inn D:=fun D=>PV.inn_mono (fun _ h=>h.elim) _ (Zk t.l S);have hcu:∀ (l:List Cu) D,Xq D (l.map cuC):=fun l D=>Ze (fun _ h=>h.elim) _ (Z0 l);have hru:∀ D,Xq D (t.rs.map ruP):=fun D=>Ze (fun _ h=>h.elim) _ (Zs t.rs);have hp3:X3 (t.gl.map cuC ++ [cuC (2,2)]):=by
  have:=Z0 (t.gl ++ [(2,2)]); rwa [Y0r] at this
 refine Zbh hC (X:=List PV×Nat×Bx×Int) X7X 30 (fun z => [(2,.val (.int .i64 L)),(7,.ptr 0 0 0),(10,.val (.int .i64 z.2.2.2)),(11,.val (.int .u8 (m:Int)))]) (fun z => [(0,⟨6,[z.1]⟩),(z.2.1,z.2.2.1)]) (by decide) ?_ ?_
 . refine gd 45 ⟨?_⟩;refine Zh rfl rfl rfl (Z2z odd 3) ?_;have hj:odd % 3<3:=Y1l _ (by decide);generalize odd % 3=j at hj ⊢;rcases (show j=0 \/ j=1 \/ j=2 by omega) with rfl|rfl|rfl
   . refine go ?_
     exact⟨([.val (.int .i64 0),XL t.l S,.vec (X5 (X9 t.st)) false,.vec (t.rs.map ruP) false,.vec (t.nv.map cuC) false,.own 2],2,⟨2,t.gl.map cuC⟩,1),⟨⟨Y0 rfl,show (2:Nat)≠0 by decide⟩,Z0 _,rfl,rfl,show (1:Int)≠0 by decide,⟨Yt,Zk _ _,Z6 _,Zs _,Z0 _,Z0 _,Yt⟩,es0 h S⟩,
      ⟨⟨rfl,Yt⟩,⟨rfl,show (0:Nat)<30 by decide⟩,⟨rfl,Yt⟩,⟨rfl,Yt⟩,Yt⟩,⟨Y0 rfl,rfl,⟨⟨Yt,hhp _,Zo _ _,hru _,hcu _ _,show (2:Nat)<30 by decide,Yt⟩,Yt⟩⟩,⟨Y0 rfl,rfl,hcu _ _⟩,Yt⟩
   . refine gd 61 ⟨?_⟩;refine Qd (Z40 [1] 2 (by decide +kernel) true) ⟨ZD _,Yt⟩ ?_;refine gd 63 ⟨?_⟩;refine Qd (Z40 [1] 2 (by decide +kernel) true) ⟨ZD _,Yt⟩ ?_;refine gd 66 ⟨?_⟩
     refine Qr (Zu (k:=2) (m := [cuC (2,2)]) (fl:=true) rfl rfl rfl (fun c hc=>by rw [Y0g] at hc; subst hc; rfl) rfl (by
      show ((t.gl.map cuC).length+1)*48<=_
      rw [Y0f];omega)) ?_
     refine go ?_
     exact⟨([.val (.int .i64 (t.n:Int)),XL t.l S,.vec (X5 (X9 t.st)) false,.vec (t.rs.map ruP) false,.vec (t.nv.map cuC) false,.own 11],11,⟨2,t.gl.map cuC ++ [cuC (2,2)]⟩,6),⟨⟨Y0 rfl,show (11:Nat)≠0 by decide⟩,hp3,rfl,rfl,show (6:Int)≠0 by decide,⟨Yt,Zk _ _,Z6 _,Zs _,Z0 _,hp3,Yt⟩,es1 h hn.2 S⟩,
      ⟨⟨rfl,Yt⟩,⟨rfl,show (0:Nat)<30 by decide⟩,⟨rfl,Yt⟩,⟨rfl,Yt⟩,Yt⟩,⟨Y0 rfl,rfl,⟨⟨Yt,hhp _,Zo _ _,hru _,hcu _ _,show (11:Nat)<30 by decide,Yt⟩,Yt⟩⟩,⟨Y0 rfl,rfl,Ze (fun _ h=>h.elim) _ hp3⟩,Yt⟩
   . refine gd 50 ⟨?_⟩;refine Zh rfl rfl rfl (show IntKind.i64.wrap ((t.n:Int)+1)=((t.n+1:Nat):Int) from Y0v _ ⟨by omega,by omega⟩) ?_;refine Qe (Z1g t.st hst (t.n+1) (by omega)) ⟨Z2 _,Yt,Yt⟩ ?_;refine go ?_
     exact⟨([.val (.int .i64 (t.n:Int)),XL t.l S,.vec (X5 (X9 (t.st ||| 2 ^ (t.n+1)))) false,.vec (t.rs.map ruP) false,.vec (t.nv.map cuC) false,.own 2],2,⟨2,t.gl.map cuC⟩,4),⟨⟨Y0 rfl,show (2:Nat)≠0 by decide⟩,Z0 _,rfl,rfl,show (4:Int)≠0 by decide,⟨Yt,Zk _ _,Z6 _,Zs _,Z0 _,Z0 _,Yt⟩,es2 h hn.2 S⟩,
      ⟨⟨rfl,Yt⟩,⟨rfl,show (0:Nat)<30 by decide⟩,⟨rfl,Yt⟩,⟨rfl,Yt⟩,Yt⟩,⟨Y0 rfl,rfl,⟨⟨Yt,hhp _,Zo _ _,hru _,hcu _ _,show (2:Nat)<30 by decide,Yt⟩,Yt⟩⟩,⟨Y0 rfl,rfl,hcu _ _⟩,Yt⟩
 . rintro ⟨q, id, b, e⟩ ⟨⟨h1, h2⟩, h3, h5, h6, he, hq, hc⟩;dsimp only at h1 h2 h3 h5 h6 he hq hc ⊢;clear hhp hcu hru hmk hn hpr hpp h hp3 hgb hst;refine Z1S (Zp (ob:=0) (id:=id) (i0:=0) (j0:=5) (bo:=⟨6,[q]⟩) rfl (b:=b) (by show X1.upd (X1.upd _ id b) 0 _ id=_; rw [X1.upd_ne _ _ h2,X1.upd_same]) (Y23 h2) h3 (Y0 rfl) (by show 5<q.length;omega) h6 (Y0 rfl) C) ?_;have hqp:∀ D,Xq D [q.set 5 (.vec b.elems false)]:=fun D=>Ze (fun _ h=>h.elim) _ ⟨hq,Yt⟩;refine Z5r hC [(2,.val (.int .i64 L)),(7,.ptr 0 0 0),(10,.val (.int .i64 e)),(11,.val (.int .u8 (m:Int)))] [(0,⟨6,[q.set 5 (.vec b.elems false)]⟩)] (n':=30) (Y0l _) ⟨⟨rfl,Yt⟩,⟨rfl,show (0:Nat)<30 by decide⟩,⟨rfl,Yt⟩,⟨rfl,Yt⟩,Yt⟩ ⟨⟨Y0 rfl,rfl,hqp _⟩,Yt⟩ ?_;clear hqp;have hl6:(q.set 5 (.vec b.elems false)).length=6:=by rw [Y11]; exact h5
   generalize q.set 5 (.vec b.elems false)=q' at hq hc hl6 ⊢;obtain⟨v0,v1,v2,v3,v4,v5,rfl⟩:=X7H hl6;have hdec:=ZeL hq he hc L;have hwit:=ZiB hq he hc (m:Int) L;unfold X5L at hwit;generalize hle:X4c L e=w at hdec hwit;refine gd 69 ⟨?_⟩;rcases (show (m=0 \/ m=1) \/ (m=2 \/ m=3) \/ m=4 \/ m=5 by omega) with (rfl|rfl)|(rfl|rfl)|rfl|rfl
   all_goals
    by_cases hL1:L<1
    . refine Qo (Qy rfl hL1) ?_;obtain rfl:w=1:=by rw [<- hle]; exact Y5 hL1
      refine gd 73 ⟨?_⟩;refine Qe hdec ⟨hq,Yt,Yt⟩ ?_;refine gd 79 ⟨?_⟩;refine Qo (Z8 (v:=false) rfl (by simp)) ?_;refine gd 98 ⟨?_⟩;refine Qe hwit ⟨hq,Yt,Yt,Yt⟩ ?_;refine gd 103 ⟨?_⟩;refine Qe (Z7n 1) ⟨Yt,Yt,Yt,Z2d 5,Yt⟩ ?_;refine gd 108 ⟨?_⟩;refine Zx rfl rfl Z1H Yt rfl ?_;rintro r ⟨S1,rfl⟩;refine gd 110 ⟨?_⟩;refine Qe (Z7o S1 1) ⟨Z1i S1,Yt,Yt,Z2d 0,Yt⟩ ?_;refine gd 115 ⟨?_⟩;refine Zx rfl rfl Z1H Yt rfl ?_;rintro r ⟨S2,rfl⟩;refine gd 117 ⟨?_⟩;refine Qe (ZaI S2) ⟨Z1i S2,Yt,Yt,Z2d 1,Yt⟩ ?_;refine gd 123 ⟨?_⟩;refine Qe Z7p ⟨Yt,Yt,Z2d 5,Yt⟩ ?_;refine gd 127 ⟨?_⟩;refine Zx rfl rfl Z1H Yt rfl ?_;rintro r ⟨S3,rfl⟩;refine gd 129 ⟨?_⟩;refine Qe (ZaJ S3) ⟨Z1i S3,Yt,Z2d 5,Yt⟩ ?_;refine gd 134 ⟨?_⟩;refine Qo (Z8 (v:=true) rfl (by simp)) ?_;refine go ?_;exact Z7 rfl Yt rfl
    . refine Qo (Qz rfl hL1) ?_;obtain rfl:e=w:=by rw [<- hle]; exact (Y6 hL1).symm
      refine gd 73 ⟨?_⟩;refine Qe hdec ⟨hq,Yt,Yt⟩ ?_;refine gd 79 ⟨?_⟩;refine Qo (Z8 (v:=false) rfl (by simp)) ?_;refine gd 98 ⟨?_⟩;refine Qe hwit ⟨hq,Yt,Yt,Yt⟩ ?_;refine gd 103 ⟨?_⟩;refine Qe (Z7n 1) ⟨Yt,Yt,Yt,Z2d 5,Yt⟩ ?_;refine gd 108 ⟨?_⟩;refine Zx rfl rfl Z1H Yt rfl ?_;rintro r ⟨S1,rfl⟩;refine gd 110 ⟨?_⟩;refine Qe (Z7o S1 1) ⟨Z1i S1,Yt,Yt,Z2d 0,Yt⟩ ?_;refine gd 115 ⟨?_⟩;refine Zx rfl rfl Z1H Yt rfl ?_;rintro r ⟨S2,rfl⟩;refine gd 117 ⟨?_⟩;refine Qe (ZaI S2) ⟨Z1i S2,Yt,Yt,Z2d 1,Yt⟩ ?_;refine gd 123 ⟨?_⟩;refine Qe Z7p ⟨Yt,Yt,Z2d 5,Yt⟩ ?_;refine gd 127 ⟨?_⟩;refine Zx rfl rfl Z1H Yt rfl ?_;rintro r ⟨S3,rfl⟩;refine gd 129 ⟨?_⟩;refine Qe (ZaJ S3) ⟨Z1i S3,Yt,Z2d 5,Yt⟩ ?_;refine gd 134 ⟨?_⟩;refine Qo (Z8 (v:=true) rfl (by simp)) ?_;refine go ?_;exact Z7 rfl Yt rfl
end
section
open Go.ChangeShapes Go.WideShapes Go.ChangeAt Go.RowKit
theorem Zdy {α:Type} {enc:α->List PV} {Q:α->Prop}:∀ {ll:List (List PV)},(∀ l∈ll,∃ x,Q x/\l=enc x)->∃ xs:List α,(∀ x∈xs,Q x)/\ll=xs.map enc
 | [],_=>⟨[],fun _ h=>(by cases h),rfl⟩
 | l :: ll, h => by
   obtain⟨x,h1,rfl⟩:=h l (Y0t ..);obtain⟨xs,h2,rfl⟩:=Zdy fun l hl=>h l (YD _ hl);refine⟨x :: xs,fun y hy=>?_,rfl⟩;rcases YA.1 hy with rfl|hy
   . exact h1
   . exact h2 y hy
theorem Z9t {P:Program} {s t u:TypeId}:∀ {ps:List PV},X2v P [s,t,u] ps->∃ a b c,ps = [a,b,c]/\X1N P s a/\X1N P t b/\X1N P u c
 | [a,b,c],⟨h1,h2,h3,_⟩=>⟨a,b,c,rfl,h1,h2,h3⟩
theorem Zj3 {m:Int} (h:(Lit.int .u8 m).wf=true):∃ a:Nat,a<256/\m=(a:Int):=by
 simp only [Lit.wf,Y0k,Y0n] at h;obtain⟨h1,h2⟩:=h;have h3:m<=255:=h2;have h4:0<=m:=h1;exact⟨m.toNat,by omega,by omega⟩
theorem ZiD {n:Nat} {l:List PV} (h:XN Tryz.prog n 5 l):∃ x:Nat,x<=255/\l = [PV.val (.int .u8 (x:Int))]:=by
 obtain⟨m1,w1,e1⟩:=ZaL h (k:=.u8) (by kernel_rfl);obtain⟨x,hx,rfl⟩:=Zj3 w1;exact⟨x,by omega,e1⟩
theorem Zcr {p:PV} (h:X1N Tryz.prog 22 p):∃ (l:List Nat) (fl:Bool),X46 l/\p=.vec (bys l) fl:=by
 obtain⟨n,ll,fl,_,h2,rfl⟩:=ZaM h (e:=5) (by kernel_rfl);obtain⟨xs,h3,rfl⟩:=Zdy (enc:=fun (x:Nat) => [PV.val (.int .u8 (x:Int))]) (Q:=fun (x:Nat)=>x<=255) fun l hl=>ZiD (h2 l hl);exact⟨xs,fl,h3,rfl⟩
theorem Zh2 {p:PV} (h:X1N Tryz.prog 5 p):∃ s:Nat,s<256/\p=.val (.int .u8 (s:Int)):=by
 obtain⟨m,w,rfl⟩:=Z8o h (k:=.u8) (by kernel_rfl);obtain⟨x,hx,rfl⟩:=Zj3 w;exact⟨x,hx,rfl⟩
theorem ZeN {p:PV} (h:X1N Tryz.prog 3 p):∃ s:Int,True/\p=.val (.int .i64 s):=by
 obtain⟨m,w,rfl⟩:=Z8o h (k:=.i64) (by kernel_rfl);exact⟨m,Yt,rfl⟩
theorem Z7r:∀ ps,X2v Tryz.prog Tryz.f3.params.toList ps->X6 ps->X7 Tryz.prog 3 ps (· = .val (.bool true)):=by
 intro ps hs hp;rw [show Tryz.f3.params.toList = [22,5,3] by kernel_rfl] at hs;obtain⟨a,b,c,rfl,k0,k1,k2⟩:=Z9t hs;obtain⟨x0,f0,h0,rfl⟩:=Zcr k0;obtain⟨x1,h1,rfl⟩:=Zh2 k1;obtain⟨x2,h2,rfl⟩:=ZeN k2;exact Z7A x0 x1 x2 f0 h0 h1 h2
theorem Z5J (os:Os) (started:os.Started) (H:Type) (enc:TypeId×Value->H) :
 ReturnsInHanded {} Tryz.checked os 3 .any (fun w args=>(Rows.safetyErrsSpec.pre enc Tryz.prog Tryz.f3 [] false w args/\laidMetH Tryz.prog X3j w)/\sizedMet enc Tryz.prog Tryz.f3 (OpenSpec.ofChange Rows.safetyErrsSpec) false w args)
  (Rows.safetyErrsSpec.post enc Tryz.prog Tryz.f3 false true false false):=by
 refine returnsInHanded_of_change_and (C:=Tryz.checked) (X:=fun w _=>laidMetH Tryz.prog X3j w) (fun _ _ _ hh h=>h.of_heap hh) own started (by kernel_rfl) Tryz.func3
  (ChangeSpec.witness_shaped (enc:=enc) (C:=Tryz.checked) (os:=os) (X:=fun w _=>laidMetH Tryz.prog X3j w) false (World.laidAll Tryz.prog os X3j) #[.slice none 0 0,.int .u8 0,.int .i64 0] 8 (World.laidAll_os _ _ _) (World.shaped_of_ZipB (by kernel_rfl) (by kernel_rfl)) (by kernel_rfl) (by kernel_rfl) (by kernel_rfl) (by rw [MakeChecks.laidMetH_plain _ _ _ (by kernel_rfl)]; exact laidMet_laidAll _ (by kernel_rfl) (by kernel_rfl))) ?_
 intro W base args ds gs before hval hW _ hwt hL _
 exact Z9I (P:=Tryz.prog) (G:=X5M Tryz.prog Tryz.f3.params.toList) (by kernel_rfl) (Zkj (by kernel_rfl)) X5m (Zfi (by kernel_rfl)) (tb:=4) (by kernel_rfl) (by kernel_rfl) rfl (fun ds hd=>by
  match ds,hd with
  | [a,b,c],_=>exact⟨rfl,rfl,rfl⟩) Z7r W (Zhk hL) base args ds gs before hval hW hwt
theorem Z61:Rows.SafetyErrsSaid :=
 OpenClaim.holds_of_wide 3 Tryz.f3 rfl rfl rfl rfl rfl rfl rfl ⟨rfl,rfl,rfl,rfl,rfl⟩ rfl rfl rfl rfl rfl (by kernel_rfl) Tryz.func3 ZlO ZlP ZlQ
  (fun os started H enc _=>Z5J os started H enc)
theorem safetyErrs_card:Rows.SafetyErrsCardSaid :=
 Claim7.holds_tied_plain_at .later [] [.data,.data,.data,.data,.pinned] true (true, "1ee5003210474e8d9f4fb4f8ddb1a37ec20cb92bcef1e40ff92702b89013bfe8") false
  Z61 (fun _ h=>by cases h) ZlR (fun _ h=>by cases h) safetyErrs_row_tie rfl ⟨rfl,rfl⟩ ZlS rfl
  (fun f fn hf hfn => by
    obtain rfl:f=3:=YP (ZlV.symm.trans hf) |>.symm
    obtain rfl:fn=Tryz.f3:=(YP (Tryz.func3.symm.trans hfn)).symm
    exact⟨ZlT,fun j t ht=>by
     rw [ZlW] at ht;have hm:t∈[22,5,3]:=by simpa using Array.mem_of_getElem? ht
     exact (show Tryz.prog.wantsStandIn t=false by simpa using YL.1 ZlX t hm)⟩)
  ZlU
#print axioms safetyErrs_card
end
end Go.Proofs.YtbghddidoegjlaaGreatDoor
