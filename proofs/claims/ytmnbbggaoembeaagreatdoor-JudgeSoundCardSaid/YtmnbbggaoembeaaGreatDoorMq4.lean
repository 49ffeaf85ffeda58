/-
  Merged from the texts that this claim's theorem needs, part 5 of 8. No statement of the seat is proved here.
-/
import Derived.Test.YtmnbbggaoembeaaGreatDoorMq3
set_option linter.unusedSimpArgs false
set_option linter.unusedVariables false
set_option linter.unusedSectionVars false
set_option maxRecDepth 100000
set_option maxHeartbeats 16000000
namespace Go.Proofs.YtmnbbggaoembeaaGreatDoor
section
open Go.RowKit
attribute [local irreducible] aw opsK dK
theorem ZiS {e:Env} {h:Heap} {n:Nat} {x i:Operand} {n0:Nat} {kk:IntKind} {m:Int} {l:List PV} (hx:ev e x=some (.cp l)) (hi:ev e i=some (.val (.int kk m))) (j:Nat) (hm:m=(j:Int)) (hj:j<n0):dEval (.iaddrA n0 1 x i) e h n=some (.cp (l.drop j),h):=by
 subst hm;simp only [dEval,hx,hi];rw [if_pos ⟨by omega,by omega⟩];simp
theorem Z44 {e:Env} {h:Heap} {n:Nat} {a:Operand} {l r:List PV} {v:PV} (ha:ev e a=some (.cp l)) (hl:l=v :: r):dEval (.load false 1 a) e h n=some (v,h):=by
 subst hl;simp [dEval,ha,cutAt]
theorem ZhE {e:Env} {h:Heap} {n:Nat} {x:Operand} {w:Nat} (hx:ev e x=some (.val (.int .u64 (w:Int)))) (hw:w<18446744073709551616):dEval (.una .xor x) e h n=some (.val (.int .u64 ((18446744073709551615 ^^^ w:Nat):Int)),h):=by
 have:=bits_xor_u64_nat 18446744073709551615 w (by decide) hw;simp only [dEval,hx];show (match (some (PV.val (.int .u64 (bits .xor .u64 ((18446744073709551615:Nat):Int) (w:Int)))):Option PV) with|some r=>some (r,h)|none=>none)=_;rw [this]
theorem Z3B {kd:IntKind} {l:List Nat} {rest:List PV} (hr:pureL rest):pureLL [crow kd l++rest]:=⟨Z1f (ZI kd l) hr,Yt⟩
theorem inn1 {D:Nat→Prop} {kd:IntKind} {l:List Nat} {rest:List PV} (hr:pureL rest):innLL D [crow kd l++rest]:=Z9 (fun _ h=>h.elim) _ (Z3B hr)
theorem Z9c (Eb:Nat) (hE:25≤Eb) (a:List Nat) (ha:a.length=25) (hw:W64 a) (rest:List PV) (hr:pureL rest):PSpec Tryz.prog 194 ⟨Eb,[crow .u64 a++rest]⟩ [] (fun r b'=>b'=⟨Eb,[crow .u64 (perm a)++rest]⟩):=by
 refine Z1z ok194 (Nat.le_of_ble_eq_true rfl) fun C hC=>?_;refine go ?_;refine Zn hC (fun m=>m≤24) (fun m=>24-m) 1 (fun m => [(0,.ptr 0 0 0),(12,.agg rdL),(13,.val (.int .i64 (m:Int)))]) (fun m => [(0,⟨Eb,[crow .u64 (permN a m)++rest]⟩)]) (by decide) 0 (Y0l _)
  ⟨⟨rfl,show 0<1 by decide⟩,⟨rfl,Zm (fun _ h=>h.elim) _ Z1w⟩,⟨rfl,Yt⟩,Yt⟩ ⟨⟨by decide,rfl,inn1 hr⟩,Yt⟩ ?_
 intro m hm;have hAl:=Z99 ha m;have hAw:=ZaF hw m hm;generalize hAA:permN a m=A at hAl hAw;have hinc:IntKind.i64.wrap ((m:Int)+1)=((m+1:Nat):Int):=wi (m+1) (by omega);refine gd 14 ⟨?_⟩;by_cases hml:m<24
 · refine Z0 (Z1 (v := true) rfl (decide_eq_true (by omega))) rfl rfl ?_;have hrc:=Ziq m hml;refine gd 15 ⟨?_⟩;refine Z0 (Zio rfl rfl m rfl hml rfl) rfl rfl ?_;rw [ZhD hml];generalize hrr:(kRounds.getD m 0).toNat=rc at hrc;refine go ?_;refine Zn hC (fun x=>x≤5) (fun x=>5-x) 2 (fun x => [(0,.ptr 0 0 0),(3,.val (.int .u64 (rc:Int))),(4,.ptr 1 0 0),(12,.agg rdL),(13,.val (.int .i64 (m:Int))),(16,.val (.int .i64 (x:Int)))]) (fun x => [(0,⟨Eb,[crow .u64 A++rest]⟩),(1,⟨5,[crow .u64 (cPart A x) ++ []]⟩)]) (by decide) 0 (Y0l _)
    ⟨⟨rfl,show 0<2 by decide⟩,⟨rfl,Yt⟩,⟨rfl,show 1<2 by decide⟩,⟨rfl,Zm (fun _ h=>h.elim) _ Z1w⟩,⟨rfl,Yt⟩,⟨rfl,Yt⟩,Yt⟩ ⟨⟨by decide,rfl,inn1 hr⟩,⟨by decide,rfl,inn1 Yt⟩,Yt⟩ ?_
   intro x hx;have hinx:IntKind.i64.wrap ((x:Int)+1)=((x+1:Nat):Int):=wi (x+1) (by omega);refine gd 17 ⟨?_⟩;by_cases hxl:x<5
   · refine Z0 (Z1 (v := true) rfl (decide_eq_true (by omega))) rfl rfl ?_;have cl:=Z9a A x;refine gd 23 ⟨?_⟩;refine Ze (Z2O rfl rfl x rfl (by omega)) rfl rfl ?_;refine Ze (Z3i (kd:=.u64) (L:=A) (pre := []) (post:=rest) (o:=0) rfl rfl rfl (by omega)) rfl rfl ?_;refine gd 27 ⟨?_⟩;refine Ze (ZY (v:=((x+5:Nat):Int)) rfl (wi (x+5) (by omega))) rfl rfl ?_;refine gd 29 ⟨?_⟩;refine Ze (Z2O rfl rfl (x+5) rfl (by omega)) rfl rfl ?_;refine Ze (Z3i (kd:=.u64) (L:=A) (pre := []) (post:=rest) (o:=0) rfl rfl rfl (by omega)) rfl rfl ?_;refine Ze (ZY rfl (bits_xor_u64_nat _ _ (hAw.g _) (hAw.g _))) rfl rfl ?_;refine gd 34 ⟨?_⟩;refine Ze (ZY (v:=((x+10:Nat):Int)) rfl (wi (x+10) (by omega))) rfl rfl ?_;refine gd 36 ⟨?_⟩;refine Ze (Z2O rfl rfl (x+10) rfl (by omega)) rfl rfl ?_;refine Ze (Z3i (kd:=.u64) (L:=A) (pre := []) (post:=rest) (o:=0) rfl rfl rfl (by omega)) rfl rfl ?_;refine Ze (ZY rfl (bits_xor_u64_nat _ _ (Z15 (hAw.g _) (hAw.g _)) (hAw.g _))) rfl rfl ?_;refine gd 41 ⟨?_⟩;refine Ze (ZY (v:=((x+15:Nat):Int)) rfl (wi (x+15) (by omega))) rfl rfl ?_;refine gd 43 ⟨?_⟩;refine Ze (Z2O rfl rfl (x+15) rfl (by omega)) rfl rfl ?_;refine Ze (Z3i (kd:=.u64) (L:=A) (pre := []) (post:=rest) (o:=0) rfl rfl rfl (by omega)) rfl rfl ?_;refine Ze (ZY rfl (bits_xor_u64_nat _ _ (Z15 (Z15 (hAw.g _) (hAw.g _)) (hAw.g _)) (hAw.g _))) rfl rfl ?_;refine gd 48 ⟨?_⟩;refine Ze (ZY (v:=((x+20:Nat):Int)) rfl (wi (x+20) (by omega))) rfl rfl ?_;refine gd 50 ⟨?_⟩;refine Ze (Z2O rfl rfl (x+20) rfl (by omega)) rfl rfl ?_;refine Ze (Z3i (kd:=.u64) (L:=A) (pre := []) (post:=rest) (o:=0) rfl rfl rfl (by omega)) rfl rfl ?_;refine Ze (ZY (v:=((kkC A x:Nat):Int)) rfl (bits_xor_u64_nat _ _ (Z15 (Z15 (Z15 (hAw.g _) (hAw.g _)) (hAw.g _)) (hAw.g _)) (hAw.g _))) rfl rfl ?_;refine Ze (Z2O rfl rfl x rfl hxl) rfl rfl ?_;refine Ze (Z8l (kd:=.u64) (L:=cPart A x) (x:=kkC A x) (pre := []) (post := []) (o:=0) rfl rfl rfl rfl (by omega) (by omega)) rfl rfl ?_;rw [Zd2 A hxl];refine go ?_;exact⟨x+1,by omega,by omega,⟨⟨rfl,show 0<2 by decide⟩,⟨rfl,Yt⟩,⟨rfl,show 1<2 by decide⟩,⟨rfl,Zm (fun _ h=>h.elim) _ Z1w⟩,⟨rfl,Yt⟩,⟨by show some _=some _; rw [hinx],Yt⟩,Yt⟩,⟨⟨by decide,rfl,inn1 hr⟩,⟨by decide,rfl,inn1 Yt⟩,Yt⟩⟩
   · obtain rfl : x = 5 := by omega
     refine Z0 (Z1 (v:=false) rfl (Y0w (by omega))) rfl rfl ?_;rw [ZeG];have hcw:=ZhB hAw;have hcl:(kCs A).length=5:=by simp [kCs]
     generalize hcc:kCs A=cs at hcw hcl;refine go ?_;refine Zn hC (fun x=>x≤5) (fun x=>5-x) 3 (fun x => [(0,.ptr 0 0 0),(3,.val (.int .u64 (rc:Int))),(4,.ptr 1 0 0),(6,.ptr 2 0 0),(12,.agg rdL),(13,.val (.int .i64 (m:Int))),(55,.val (.int .i64 (x:Int)))]) (fun x => [(0,⟨Eb,[crow .u64 A++rest]⟩),(1,⟨5,[crow .u64 cs ++ []]⟩),(2,⟨25,[crow .u64 (bIter A cs (5*x)) ++ []]⟩)]) (by decide) 0 (Y0l _)
      ⟨⟨rfl,show 0<3 by decide⟩,⟨rfl,Yt⟩,⟨rfl,show 1<3 by decide⟩,⟨rfl,show 2<3 by decide⟩,⟨rfl,Zm (fun _ h=>h.elim) _ Z1w⟩,⟨rfl,Yt⟩,⟨rfl,Yt⟩,Yt⟩ ⟨⟨by decide,rfl,inn1 hr⟩,⟨by decide,rfl,inn1 Yt⟩,⟨by decide,rfl,inn1 Yt⟩,Yt⟩ ?_
     intro x hx;have hinx:IntKind.i64.wrap ((x:Int)+1)=((x+1:Nat):Int):=wi (x+1) (by omega);refine gd 56 ⟨?_⟩;by_cases hxl:x<5
     · refine Z0 (Z1 (v := true) rfl (decide_eq_true (by omega))) rfl rfl ?_;refine gd 59 ⟨?_⟩;refine Ze (ZY (v:=((x+4:Nat):Int)) rfl (wi (x+4) (by omega))) rfl rfl ?_;refine Ze (ZY (v:=(((x+4) % 5:Nat):Int)) rfl (Int.ofNat_tmod (x+4) 5).symm) rfl rfl ?_;refine Ze (Z2O rfl rfl ((x+4) % 5) rfl (by omega)) rfl rfl ?_;refine Ze (Z3i (kd:=.u64) (L:=cs) (pre := []) (post := []) (o:=0) rfl rfl rfl (by omega)) rfl rfl ?_;refine gd 64 ⟨?_⟩;refine Ze (ZY (v:=((x+1:Nat):Int)) rfl (wi (x+1) (by omega))) rfl rfl ?_;refine Ze (ZY (v:=(((x+1) % 5:Nat):Int)) rfl (Int.ofNat_tmod (x+1) 5).symm) rfl rfl ?_;refine Ze (Z2O rfl rfl ((x+1) % 5) rfl (by omega)) rfl rfl ?_;refine Ze (Z3i (kd:=.u64) (L:=cs) (pre := []) (post := []) (o:=0) rfl rfl rfl (by omega)) rfl rfl ?_;refine Zy (Z98 (g0 cs ((x+1) % 5)) 1 (hcw.g _) (by decide)) rfl rfl rfl ⟨Yt,Yt,Yt⟩ ?_;refine Ze (ZY (v:=((kkD cs x:Nat):Int)) rfl (bits_xor_u64_nat _ _ (hcw.g _) (ZaE (hcw.g _)))) rfl rfl ?_;have hkd:=Zip hcw x;refine go ?_;refine Zn hC (fun y=>y≤5) (fun y=>5-y) 3 (fun y => [(0,.ptr 0 0 0),(3,.val (.int .u64 (rc:Int))),(4,.ptr 1 0 0),(6,.ptr 2 0 0),(7,.val (.int .i64 (x:Int))),(8,.val (.int .u64 ((kkD cs x:Nat):Int))),(12,.agg rdL),(13,.val (.int .i64 (m:Int))),(55,.val (.int .i64 (x:Int))),(70,.val (.int .i64 (y:Int)))]) (fun y => [(0,⟨Eb,[crow .u64 A++rest]⟩),(1,⟨5,[crow .u64 cs ++ []]⟩),(2,⟨25,[crow .u64 (bIter A cs (5*x+y)) ++ []]⟩)]) (by decide) 0 (Y0l _)
        ⟨⟨rfl,show 0<3 by decide⟩,⟨rfl,Yt⟩,⟨rfl,show 1<3 by decide⟩,⟨rfl,show 2<3 by decide⟩,⟨rfl,Yt⟩,⟨rfl,Yt⟩,⟨rfl,Zm (fun _ h=>h.elim) _ Z1w⟩,⟨rfl,Yt⟩,⟨rfl,Yt⟩,⟨rfl,Yt⟩,Yt⟩ ⟨⟨by decide,rfl,inn1 hr⟩,⟨by decide,rfl,inn1 Yt⟩,⟨by decide,rfl,inn1 Yt⟩,Yt⟩ ?_
       intro y hy;have hiny:IntKind.i64.wrap ((y:Int)+1)=((y+1:Nat):Int):=wi (y+1) (by omega);refine gd 71 ⟨?_⟩;by_cases hyl:y<5
       · refine Z0 (Z1 (v := true) rfl (decide_eq_true (by omega))) rfl rfl ?_;have bl1:=Z6z A cs (5*x+y);have d1:(5*x+y) / 5=x:=by omega
         have d2:(5*x+y) % 5=y:=by omega
         have hbs:(bIter A cs (5*x+y)).set (y+5*((2*x+3*y) % 5)) (rotl (g0 A (x+5*y) ^^^ kkD cs x) (kkT (x+5*y)))=bIter A cs (5*x+(y+1)):=by
          show _=bStep A cs (bIter A cs (5*x+y)) (5*x+y);unfold bStep;rw [d1,d2]
         obtain⟨tr,htr⟩:=Zgs (show x+5*y<25 by omega);refine gd 75 ⟨?_⟩;refine Ze (ZY (v:=((2*x:Nat):Int)) rfl (wi (2*x) (by omega))) rfl rfl ?_;refine gd 77 ⟨?_⟩;refine Ze (ZY (v:=((3*y:Nat):Int)) rfl (wi (3*y) (by omega))) rfl rfl ?_;refine Ze (ZY (v:=((2*x+3*y:Nat):Int)) rfl (wi (2*x+3*y) (by omega))) rfl rfl ?_;refine Ze (ZY (v:=(((2*x+3*y) % 5:Nat):Int)) rfl (Int.ofNat_tmod (2*x+3*y) 5).symm) rfl rfl ?_;refine Ze (ZY (v:=((5*((2*x+3*y) % 5):Nat):Int)) rfl (wi (5*((2*x+3*y) % 5)) (by omega))) rfl rfl ?_;refine Ze (ZY (v:=((y+5*((2*x+3*y) % 5):Nat):Int)) rfl (wi (y+5*((2*x+3*y) % 5)) (by omega))) rfl rfl ?_;refine gd 85 ⟨?_⟩;refine Ze (ZY (v:=((5*y:Nat):Int)) rfl (wi (5*y) (by omega))) rfl rfl ?_;refine Ze (ZY (v:=((x+5*y:Nat):Int)) rfl (wi (x+5*y) (by omega))) rfl rfl ?_;refine gd 88 ⟨?_⟩;refine Ze (Z2O rfl rfl (x+5*y) rfl (by omega)) rfl rfl ?_;refine Ze (Z3i (kd:=.u64) (L:=A) (pre := []) (post:=rest) (o:=0) rfl rfl rfl (by omega)) rfl rfl ?_;refine gd 91 ⟨?_⟩;refine Ze (ZY (v:=((g0 A (x+5*y) ^^^ kkD cs x:Nat):Int)) rfl (bits_xor_u64_nat _ _ (hAw.g _) hkd)) rfl rfl ?_;refine gd 94 ⟨?_⟩;refine Ze (ZY (v:=((5*y:Nat):Int)) rfl (wi (5*y) (by omega))) rfl rfl ?_;refine Ze (ZY (v:=((x+5*y:Nat):Int)) rfl (wi (x+5*y) (by omega))) rfl rfl ?_;refine Ze (ZiS (l:=trL) rfl rfl (x+5*y) rfl (by omega)) rfl rfl ?_;refine Ze (Z44 rfl htr) rfl rfl ?_;refine Zy (Z98 (g0 A (x+5*y) ^^^ kkD cs x) (kkT (x+5*y)) (Z15 (hAw.g _) hkd) (ZiR _ (by omega))) rfl rfl rfl ⟨Yt,Yt,Yt⟩ ?_;refine Ze (Z2O rfl rfl (y+5*((2*x+3*y) % 5)) rfl (by omega)) rfl rfl ?_;refine Ze (Z8l (kd:=.u64) (L:=bIter A cs (5*x+y)) (x:=rotl (g0 A (x+5*y) ^^^ kkD cs x) (kkT (x+5*y))) (pre := []) (post := []) (o:=0) rfl rfl rfl rfl (by omega) (by omega)) rfl rfl ?_;rw [hbs];refine go ?_;exact⟨y+1,by omega,by omega,⟨⟨rfl,show 0<3 by decide⟩,⟨rfl,Yt⟩,⟨rfl,show 1<3 by decide⟩,⟨rfl,show 2<3 by decide⟩,⟨rfl,Yt⟩,⟨rfl,Yt⟩,⟨rfl,Zm (fun _ h=>h.elim) _ Z1w⟩,⟨rfl,Yt⟩,⟨rfl,Yt⟩,⟨by show some _=some _; rw [hiny],Yt⟩,Yt⟩,⟨⟨by decide,rfl,inn1 hr⟩,⟨by decide,rfl,inn1 Yt⟩,⟨by decide,rfl,inn1 Yt⟩,Yt⟩⟩
       · obtain rfl : y = 5 := by omega
         refine Z0 (Z1 (v:=false) rfl (Y0w (by omega))) rfl rfl ?_;refine go ?_;exact⟨x+1,by omega,by omega,⟨⟨rfl,show 0<3 by decide⟩,⟨rfl,Yt⟩,⟨rfl,show 1<3 by decide⟩,⟨rfl,show 2<3 by decide⟩,⟨rfl,Zm (fun _ h=>h.elim) _ Z1w⟩,⟨rfl,Yt⟩,⟨by show some _=some _; rw [hinx],Yt⟩,Yt⟩,⟨⟨by decide,rfl,inn1 hr⟩,⟨by decide,rfl,inn1 Yt⟩,⟨by decide,rfl,inn1 Yt⟩,Yt⟩⟩
     · obtain rfl : x = 5 := by omega
       refine Z0 (Z1 (v:=false) rfl (Y0w (by omega))) rfl rfl ?_;have hbl:=Z6z A cs 25;have hbw:=Z8m hAw hcw 25;show opsK _ _ _ _ (heapL [(0,⟨Eb,[crow .u64 A++rest]⟩),(1,⟨5,[crow .u64 cs ++ []]⟩),(2,⟨25,[crow .u64 (bIter A cs 25) ++ []]⟩)]) _;generalize hbb:bIter A cs 25=b at hbl hbw;refine go ?_;refine Zn hC (fun q=>q≤5) (fun q=>5-q) 3 (fun q => [(0,.ptr 0 0 0),(3,.val (.int .u64 (rc:Int))),(6,.ptr 2 0 0),(10,.val (.int .i64 ((5*q:Nat):Int))),(12,.agg rdL),(13,.val (.int .i64 (m:Int)))]) (fun q => [(0,⟨Eb,[crow .u64 (aPart b A (5*q))++rest]⟩),(2,⟨25,[crow .u64 b ++ []]⟩)]) (by decide) 0 (Y0l _)
        ⟨⟨rfl,show 0<3 by decide⟩,⟨rfl,Yt⟩,⟨rfl,show 2<3 by decide⟩,⟨rfl,Yt⟩,⟨rfl,Zm (fun _ h=>h.elim) _ Z1w⟩,⟨rfl,Yt⟩,Yt⟩ ⟨⟨by decide,by rw [show 5*0=0 by decide,Zd3 b hAl]; rfl,inn1 hr⟩,⟨by decide,rfl,inn1 Yt⟩,Yt⟩ ?_
       intro q hq;have hinq:IntKind.i64.wrap (((5*q:Nat):Int)+5)=((5*(q+1):Nat):Int):=wi (5*q+5) (by omega);refine gd 103 ⟨?_⟩;by_cases hql:q<5
       · refine Z0 (Z1 (v := true) rfl (decide_eq_true (by omega))) rfl rfl ?_;refine go ?_;refine Zn hC (fun x=>x≤5) (fun x=>5-x) 3 (fun x => [(0,.ptr 0 0 0),(3,.val (.int .u64 (rc:Int))),(6,.ptr 2 0 0),(10,.val (.int .i64 ((5*q:Nat):Int))),(12,.agg rdL),(13,.val (.int .i64 (m:Int))),(106,.val (.int .i64 (x:Int)))]) (fun x => [(0,⟨Eb,[crow .u64 (aPart b A (5*q+x))++rest]⟩),(2,⟨25,[crow .u64 b ++ []]⟩)]) (by decide) 0 (Y0l _)
          ⟨⟨rfl,show 0<3 by decide⟩,⟨rfl,Yt⟩,⟨rfl,show 2<3 by decide⟩,⟨rfl,Yt⟩,⟨rfl,Zm (fun _ h=>h.elim) _ Z1w⟩,⟨rfl,Yt⟩,⟨rfl,Yt⟩,Yt⟩ ⟨⟨by decide,rfl,inn1 hr⟩,⟨by decide,rfl,inn1 Yt⟩,Yt⟩ ?_
         intro x hx;have hinx:IntKind.i64.wrap ((x:Int)+1)=((x+1:Nat):Int):=wi (x+1) (by omega);refine gd 107 ⟨?_⟩;by_cases hxl:x<5
         · refine Z0 (Z1 (v := true) rfl (decide_eq_true (by omega))) rfl rfl ?_;have apl:=Z9b b A (5*q+x);have hsum:IntKind.i64.wrap ((x:Int)+((5*q:Nat):Int))=((5*q+x:Nat):Int):=by
            rw [show (x:Int)+((5*q:Nat):Int)=((5*q+x:Nat):Int) by omega];exact wi _ (by omega)
           have e1:(5*q+x) % 5=x:=by omega
           have hchi:chi1 b (5*q+x)=g0 b (5*q+x) ^^^ ((18446744073709551615 ^^^ g0 b ((x+1) % 5+5*q)) &&& g0 b ((x+2) % 5+5*q)):=by
            unfold chi1;rw [e1,show 5*q+x-x=5*q by omega]
           refine gd 112 ⟨?_⟩;refine Ze (ZY rfl hsum) rfl rfl ?_;refine gd 115 ⟨?_⟩;refine Ze (ZY rfl hsum) rfl rfl ?_;refine Ze (Z2O rfl rfl (5*q+x) rfl (by omega)) rfl rfl ?_;refine Ze (Z3i (kd:=.u64) (L:=b) (pre := []) (post := []) (o:=0) rfl rfl rfl (by omega)) rfl rfl ?_;refine gd 119 ⟨?_⟩;refine Ze (ZY (v:=((x+1:Nat):Int)) rfl (wi (x+1) (by omega))) rfl rfl ?_;refine Ze (ZY (v:=(((x+1) % 5:Nat):Int)) rfl (Int.ofNat_tmod (x+1) 5).symm) rfl rfl ?_;refine gd 122 ⟨?_⟩;refine Ze (ZY (v:=(((x+1) % 5+5*q:Nat):Int)) rfl (wi ((x+1) % 5+5*q) (by omega))) rfl rfl ?_;refine Ze (Z2O rfl rfl ((x+1) % 5+5*q) rfl (by omega)) rfl rfl ?_;refine Ze (Z3i (kd:=.u64) (L:=b) (pre := []) (post := []) (o:=0) rfl rfl rfl (by omega)) rfl rfl ?_;refine Ze (ZhE rfl (hbw.g _)) rfl rfl ?_;refine gd 127 ⟨?_⟩;refine Ze (ZY (v:=((x+2:Nat):Int)) rfl (wi (x+2) (by omega))) rfl rfl ?_;refine Ze (ZY (v:=(((x+2) % 5:Nat):Int)) rfl (Int.ofNat_tmod (x+2) 5).symm) rfl rfl ?_;refine gd 130 ⟨?_⟩;refine Ze (ZY (v:=(((x+2) % 5+5*q:Nat):Int)) rfl (wi ((x+2) % 5+5*q) (by omega))) rfl rfl ?_;refine Ze (Z2O rfl rfl ((x+2) % 5+5*q) rfl (by omega)) rfl rfl ?_;refine Ze (Z3i (kd:=.u64) (L:=b) (pre := []) (post := []) (o:=0) rfl rfl rfl (by omega)) rfl rfl ?_;refine Ze (ZY rfl (bits_and_u64_nat _ _ (Z15 (by decide) (hbw.g _)) (hbw.g _))) rfl rfl ?_;refine Ze (ZY (v:=((chi1 b (5*q+x):Nat):Int)) rfl (by rw [hchi]; exact bits_xor_u64_nat _ _ (hbw.g _) (Y02 Nat.and_le_right (hbw.g _)))) rfl rfl ?_;refine gd 136 ⟨?_⟩;refine Ze (Z2O rfl rfl (5*q+x) rfl (by omega)) rfl rfl ?_;refine Ze (Z8l (kd:=.u64) (L:=aPart b A (5*q+x)) (x:=chi1 b (5*q+x)) (pre := []) (post:=rest) (o:=0) rfl rfl rfl rfl (by omega) (by omega)) rfl rfl ?_;rw [Zd4 b A (show 5*q+x<25 by omega)];refine go ?_;exact⟨x+1,by omega,by omega,⟨⟨rfl,show 0<3 by decide⟩,⟨rfl,Yt⟩,⟨rfl,show 2<3 by decide⟩,⟨rfl,Yt⟩,⟨rfl,Zm (fun _ h=>h.elim) _ Z1w⟩,⟨rfl,Yt⟩,⟨by show some _=some _; rw [hinx],Yt⟩,Yt⟩,⟨⟨by decide,rfl,inn1 hr⟩,⟨by decide,rfl,inn1 Yt⟩,Yt⟩⟩
         · obtain rfl : x = 5 := by omega
           refine Z0 (Z1 (v:=false) rfl (Y0w (by omega))) rfl rfl ?_;refine go ?_;exact⟨q+1,by omega,by omega,⟨⟨rfl,show 0<3 by decide⟩,⟨rfl,Yt⟩,⟨rfl,show 2<3 by decide⟩,⟨by show some _=some _; rw [hinq],Yt⟩,⟨rfl,Zm (fun _ h=>h.elim) _ Z1w⟩,⟨rfl,Yt⟩,Yt⟩,⟨⟨by decide,rfl,inn1 hr⟩,⟨by decide,rfl,inn1 Yt⟩,Yt⟩⟩
       · obtain rfl : q = 5 := by omega
         refine Z0 (Z1 (v:=false) rfl (Y0w (by omega))) rfl rfl ?_;rw [show 5*5=25 by decide,ZeH];have hcl2:=ZbK b;have hcw2:=ZeE hbw;have hkr:(chiL b).set 0 (g0 (chiL b) 0 ^^^ rc)=permN a (m+1):=by
          show _=kRound (permN a m) (kRounds.getD m 0).toNat;rw [hAA,hrr,← hbb,← hcc]
          rfl
         generalize chiL b=ch at hcl2 hcw2 hkr;refine gd 141 ⟨?_⟩;refine Ze (Z3i (kd:=.u64) (L:=ch) (pre := []) (post:=rest) (o:=0) (j:=0) rfl rfl rfl (by omega)) rfl rfl ?_;refine gd 143 ⟨?_⟩;refine Ze (ZY (v:=((g0 ch 0 ^^^ rc:Nat):Int)) rfl (bits_xor_u64_nat _ _ (hcw2.g _) hrc)) rfl rfl ?_
         iterate 2 (first|refine st ?_|(apply B<;>intro hb<;>try cases hb))
         refine Ze (Z8l (kd:=.u64) (L:=ch) (x:=g0 ch 0 ^^^ rc) (pre := []) (post:=rest) (o:=0) (j:=0) rfl rfl rfl rfl (by omega) (by omega)) rfl rfl ?_;rw [hkr];refine go ?_;exact⟨m+1,by omega,by omega,⟨⟨rfl,show 0<1 by decide⟩,⟨rfl,Zm (fun _ h=>h.elim) _ Z1w⟩,⟨by show some _=some _; rw [hinc],Yt⟩,Yt⟩,⟨⟨by decide,rfl,inn1 hr⟩,Yt⟩⟩
 · obtain rfl : m = 24 := by omega
   refine Z0 (Z1 (v:=false) rfl (Y0w (by omega))) rfl rfl ?_;refine go ?_;exact⟨_,_,rfl,.inl rfl,_,rfl,Yt,Z3B hr,by rw [← hAA]; rfl⟩
theorem Zit {e:Env} {h:Heap} {n:Nat} {x i:Operand} {k0 i0 o len cap:Nat} {kk:IntKind} {m:Int} (hx:ev e x=some (.sl k0 i0 o len cap)) (hi:ev e i=some (.val (.int kk m))) (j:Nat) (hm:m=(j:Int)) (hj:j<len):dEval (.iaddr 1 x i) e h n=some (.ptr k0 i0 (o+j),h):=by
 subst hm;simp only [dEval,hx,hi];rw [if_pos ⟨by omega,by omega,Yt⟩];simp
def W8 (l:List Nat):Prop:=∀ w∈l,w<256
theorem W8.g {l:List Nat} (h:W8 l) (i:Nat):g0 l i<256:=by
 by_cases hi:i<l.length
 · exact h _ (ZgY hi)
 · unfold g0;rw [Y0b,List.getElem?_eq_none (by omega)]
   decide
theorem Z8n {bl:List Nat} (h:W8 bl) (i:Nat):∀ j,wIter bl i j<18446744073709551616
 | 0=>by show 0<_; decide
 | j+1=>Z1U (Nat.mod_lt _ (by decide)) (Nat.lt_of_lt_of_le (h.g _) (by decide))
theorem Z5R (a bl:List Nat):∀ i,(xorN a bl i).length=a.length
 | 0=>rfl
 | i+1=>by show (List.set ..).length=_; rw [List.length_set,Z5R a bl i]
theorem Z9d {a bl:List Nat} (ha:W64 a) (hb:W8 bl):∀ i,W64 (xorN a bl i)
 | 0=>ha
 | i+1=>(Z9d ha hb i).set (Z15 ((Z9d ha hb i).g _) (Z8n hb i 8))
theorem Z5f {a bl:List Nat} (ha:a.length=25):(absorb a bl).length=25:=Z99 (by rw [Z5R]; exact ha) 24
theorem ZbL {a bl:List Nat} (ha:W64 a) (hb:W8 bl):W64 (absorb a bl):=ZaF (Z9d ha hb 17) 24 (Y0m _)
theorem Zd5 (a b c d c':Bx):(heapL [(0,a),(1,b),(2,c),(3,d)]).upd 2 c'=heapL [(0,a),(1,b),(2,c'),(3,d)]:=by
 funext i
 match i with
 | 0=>rfl
 | 1=>rfl
 | 2=>rfl
 | 3=>rfl
 | i+4=>rfl
set_option maxRecDepth 100000
set_option maxHeartbeats 8000000
theorem Zgt (a bl:List Nat) (ha:a.length=25) (hw:W64 a) (hbl:bl.length=136) (hbw:W8 bl) (rest:List PV) (hr:pureL rest):QSpec Tryz.prog 183 (fun i => [.ptr i 0 0,.sl i 0 25 136 136]) ⟨163,[crow .u64 a++(crow .u8 bl++rest)]⟩ (fun r b'=>b'=⟨163,[crow .u64 (absorb a bl)++(crow .u8 bl++rest)]⟩):=by
 refine Z6x ok183 (Nat.le_of_ble_eq_true rfl) fun C hC=>?_;refine go ?_;refine Zn hC (fun i=>i≤17) (fun i=>17-i) 1 (fun i => [(0,.ptr 0 0 0),(1,.sl 0 0 25 136 136),(7,Yv i)]) (fun i => [(0,⟨163,[crow .u64 (xorN a bl i)++(crow .u8 bl++rest)]⟩)]) (by decide) 0 (Y0l _)
  ⟨⟨rfl,show 0<1 by decide⟩,⟨rfl,show 0<1 by decide⟩,⟨rfl,Yt⟩,Yt⟩ ⟨⟨by decide,rfl,inn1 (Z1f (ZI .u8 bl) hr)⟩,Yt⟩ ?_
 intro i hi;have hAl:=Z5R a bl i;rw [ha] at hAl;have hAw:=Z9d hw hbw i;have hxs:xorN a bl (i+1)=(xorN a bl i).set i (g0 (xorN a bl i) i ^^^ wIter bl i 8):=rfl;generalize hAA:xorN a bl i=A at hAl hAw hxs;have hinc:IntKind.i64.wrap ((i:Int)+1)=((i+1:Nat):Int):=wi (i+1) (by omega);refine gd 8 ⟨?_⟩;by_cases hil:i<17
 · refine Z0 (Z1 (v := true) rfl (decide_eq_true (by omega))) rfl rfl ?_;refine go ?_;refine Zn hC (fun j=>j≤8) (fun j=>8-j) 1 (fun j => [(0,.ptr 0 0 0),(1,.sl 0 0 25 136 136),(4,Yv i),(5,.val (.int .u64 ((wIter bl i j:Nat):Int))),(6,.val (.int .i64 ((7:Int)-(j:Int)))),(7,Yv i)]) (fun j => [(0,⟨163,[crow .u64 (A)++(crow .u8 bl++rest)]⟩)]) (by decide) 0 (Y0l _)
    ⟨⟨rfl,show 0<1 by decide⟩,⟨rfl,show 0<1 by decide⟩,⟨rfl,Yt⟩,⟨rfl,Yt⟩,⟨rfl,Yt⟩,⟨rfl,Yt⟩,Yt⟩ ⟨⟨by decide,rfl,inn1 (Z1f (ZI .u8 bl) hr)⟩,Yt⟩ ?_
   intro j hj;have hinj:IntKind.i64.wrap ((7:Int)-(j:Int)-1)=(7:Int)-((j+1:Nat):Int):=by
    rw [show (7:Int)-(j:Int)-1=(7:Int)-((j+1:Nat):Int) by omega];exact Y0v _ ⟨by omega,by omega⟩
   have hwl:=Z8n hbw i j;refine gd 11 ⟨?_⟩;by_cases hjl:j<8
   · refine Z0 (Z1 (v := true) rfl (decide_eq_true (by omega))) rfl rfl ?_;refine gd 15 ⟨?_⟩;refine Z2B rfl rfl (by decide) (shl64 (wIter bl i j) 8 (by decide)) rfl ?_;refine gd 18 ⟨?_⟩;refine Z8 (v:=((8*i:Nat):Int)) rfl rfl rfl (wi (8*i) (by omega)) ?_;refine gd 20 ⟨?_⟩
     refine Z8 (v:=((8*i+(7-j):Nat):Int)) rfl rfl rfl (by
      rw [show ((8*i:Nat):Int)+((7:Int)-(j:Int))=((8*i+(7-j):Nat):Int) by omega]
      exact wi _ (by omega)) ?_
     refine Z0 (Zit rfl rfl (8*i+(7-j)) rfl (by omega)) rfl rfl ?_;refine Z0 (Z3i (kd:=.u8) (L:=bl) (pre:=crow .u64 A) (post:=rest) (o:=25) rfl rfl (by rw [Zx]; exact hAl) (by omega)) rfl rfl ?_;refine Z8 (v:=((g0 bl (8*i+(7-j)):Nat):Int)) rfl rfl rfl (by have:=hbw.g (8*i+(7-j)); exact Y0x _ ⟨by omega,by omega⟩) ?_;refine Z8 (v:=((wIter bl i (j+1):Nat):Int)) rfl rfl rfl (by have:=hbw.g (8*i+(7-j)); exact bits_or_u64_nat _ _ (Nat.mod_lt _ (by decide)) (by omega)) ?_;refine go ?_;exact⟨j+1,by omega,by omega,⟨⟨rfl,show 0<1 by decide⟩,⟨rfl,show 0<1 by decide⟩,⟨rfl,Yt⟩,⟨rfl,Yt⟩,⟨by show some _=some _; rw [hinj],Yt⟩,⟨rfl,Yt⟩,Yt⟩,⟨⟨by decide,rfl,inn1 (Z1f (ZI .u8 bl) hr)⟩,Yt⟩⟩
   · obtain rfl : j = 8 := by omega
     refine Z0 (Z1 (v:=false) rfl (Y0w (by omega))) rfl rfl ?_;refine gd 28 ⟨?_⟩;refine Ze (Z2O rfl rfl i rfl (by omega)) rfl rfl ?_;refine Ze (Z3i (kd:=.u64) (L:=A) (pre := []) (post:=(crow .u8 bl++rest)) (o:=0) rfl rfl rfl (by omega)) rfl rfl ?_;refine gd 31 ⟨?_⟩;refine Ze (ZY (v:=((g0 A i ^^^ wIter bl i 8:Nat):Int)) rfl (bits_xor_u64_nat _ _ (hAw.g _) hwl)) rfl rfl ?_;refine gd 33 ⟨?_⟩;refine Ze (Z2O rfl rfl i rfl (by omega)) rfl rfl ?_;refine Ze (Z8l (kd:=.u64) (L:=A) (x:=g0 A i ^^^ wIter bl i 8) (pre := []) (post:=(crow .u8 bl++rest)) (o:=0) rfl rfl rfl rfl (by omega) (by omega)) rfl rfl ?_;rw [← hxs];refine go ?_;exact⟨i+1,by omega,by omega,⟨⟨rfl,show 0<1 by decide⟩,⟨rfl,show 0<1 by decide⟩,⟨by show some _=some _; rw [hinc],Yt⟩,Yt⟩,⟨⟨by decide,rfl,inn1 (Z1f (ZI .u8 bl) hr)⟩,Yt⟩⟩
 · obtain rfl : i = 17 := by omega
   refine Z0 (Z1 (v:=false) rfl (Y0w (by omega))) rfl rfl ?_;refine gd 36 ⟨?_⟩;refine ZM (Z9c 163 (by omega) A hAl hAw ((crow .u8 bl++rest)) (Z1f (ZI .u8 bl) hr)) rfl rfl rfl rfl (Z3B (Z1f (ZI .u8 bl) hr)) Yt ?_;rintro r b' hr1 hb1 rfl;rw [← hAA];refine go ?_;exact⟨_,_,rfl,.inl rfl,_,rfl,Yt,Z3B (Z1f (ZI .u8 bl) hr),rfl⟩
theorem Zgu (a bl:List Nat) (ha:a.length=25) (hw:W64 a) (hbl:bl.length=136) (hbw:W8 bl) (hb rb:Bx) (hp0:pureLL hb.elems) (hp1:pureLL rb.elems):ISpec Tryz.prog 183 4 [.ptr 2 0 0,.sl 3 0 0 136 136] (heapL [(0,hb),(1,rb),(2,⟨25,[crow .u64 a ++ []]⟩),(3,⟨136,[crow .u8 bl ++ []]⟩)]) (fun n' r h'=>n'=4∧r.pure∧h'=heapL [(0,hb),(1,rb),(2,⟨25,[crow .u64 (absorb a bl) ++ []]⟩),(3,⟨136,[crow .u8 bl ++ []]⟩)]):=by
 refine Z2q ok183 (Nat.le_of_ble_eq_true rfl) fun C hC=>?_;refine go ?_;refine Zn hC (fun i=>i≤17) (fun i=>17-i) 4 (fun i => [(0,.ptr 2 0 0),(1,.sl 3 0 0 136 136),(7,Yv i)]) (fun i => [(0,hb),(1,rb),(2,⟨25,[crow .u64 (xorN a bl i) ++ []]⟩),(3,⟨136,[crow .u8 bl ++ []]⟩)]) (by decide) 0 (Y0l _)
  ⟨⟨rfl,show 2<4 by decide⟩,⟨rfl,show 3<4 by decide⟩,⟨rfl,Yt⟩,Yt⟩ ⟨⟨by decide,rfl,Z9 (fun _ h=>h.elim) _ hp0⟩,⟨by decide,rfl,Z9 (fun _ h=>h.elim) _ hp1⟩,⟨by decide,rfl,inn1 Yt⟩,⟨by decide,rfl,inn1 Yt⟩,Yt⟩ ?_
 intro i hi;have hAl:=Z5R a bl i;rw [ha] at hAl;have hAw:=Z9d hw hbw i;have hxs:xorN a bl (i+1)=(xorN a bl i).set i (g0 (xorN a bl i) i ^^^ wIter bl i 8):=rfl;generalize hAA:xorN a bl i=A at hAl hAw hxs;have hinc:IntKind.i64.wrap ((i:Int)+1)=((i+1:Nat):Int):=wi (i+1) (by omega);refine gd 8 ⟨?_⟩;by_cases hil:i<17
 · refine Z0 (Z1 (v := true) rfl (decide_eq_true (by omega))) rfl rfl ?_;refine go ?_;refine Zn hC (fun j=>j≤8) (fun j=>8-j) 4 (fun j => [(0,.ptr 2 0 0),(1,.sl 3 0 0 136 136),(4,Yv i),(5,.val (.int .u64 ((wIter bl i j:Nat):Int))),(6,.val (.int .i64 ((7:Int)-(j:Int)))),(7,Yv i)]) (fun j => [(0,hb),(1,rb),(2,⟨25,[crow .u64 (A) ++ []]⟩),(3,⟨136,[crow .u8 bl ++ []]⟩)]) (by decide) 0 (Y0l _)
    ⟨⟨rfl,show 2<4 by decide⟩,⟨rfl,show 3<4 by decide⟩,⟨rfl,Yt⟩,⟨rfl,Yt⟩,⟨rfl,Yt⟩,⟨rfl,Yt⟩,Yt⟩ ⟨⟨by decide,rfl,Z9 (fun _ h=>h.elim) _ hp0⟩,⟨by decide,rfl,Z9 (fun _ h=>h.elim) _ hp1⟩,⟨by decide,rfl,inn1 Yt⟩,⟨by decide,rfl,inn1 Yt⟩,Yt⟩ ?_
   intro j hj;have hinj:IntKind.i64.wrap ((7:Int)-(j:Int)-1)=(7:Int)-((j+1:Nat):Int):=by
    rw [show (7:Int)-(j:Int)-1=(7:Int)-((j+1:Nat):Int) by omega];exact Y0v _ ⟨by omega,by omega⟩
   have hwl:=Z8n hbw i j;refine gd 11 ⟨?_⟩;by_cases hjl:j<8
   · refine Z0 (Z1 (v := true) rfl (decide_eq_true (by omega))) rfl rfl ?_;refine gd 15 ⟨?_⟩;refine Z2B rfl rfl (by decide) (shl64 (wIter bl i j) 8 (by decide)) rfl ?_;refine gd 18 ⟨?_⟩;refine Z8 (v:=((8*i:Nat):Int)) rfl rfl rfl (wi (8*i) (by omega)) ?_;refine gd 20 ⟨?_⟩
     refine Z8 (v:=((8*i+(7-j):Nat):Int)) rfl rfl rfl (by
      rw [show ((8*i:Nat):Int)+((7:Int)-(j:Int))=((8*i+(7-j):Nat):Int) by omega]
      exact wi _ (by omega)) ?_
     refine Z0 (Zit rfl rfl (8*i+(7-j)) rfl (by omega)) rfl rfl ?_;refine Z0 (Z3i (kd:=.u8) (L:=bl) (pre := []) (post := []) (o:=0) rfl rfl rfl (by omega)) rfl rfl ?_;refine Z8 (v:=((g0 bl (8*i+(7-j)):Nat):Int)) rfl rfl rfl (by have:=hbw.g (8*i+(7-j)); exact Y0x _ ⟨by omega,by omega⟩) ?_;refine Z8 (v:=((wIter bl i (j+1):Nat):Int)) rfl rfl rfl (by have:=hbw.g (8*i+(7-j)); exact bits_or_u64_nat _ _ (Nat.mod_lt _ (by decide)) (by omega)) ?_;refine go ?_;exact⟨j+1,by omega,by omega,⟨⟨rfl,show 2<4 by decide⟩,⟨rfl,show 3<4 by decide⟩,⟨rfl,Yt⟩,⟨rfl,Yt⟩,⟨by show some _=some _; rw [hinj],Yt⟩,⟨rfl,Yt⟩,Yt⟩,⟨⟨by decide,rfl,Z9 (fun _ h=>h.elim) _ hp0⟩,⟨by decide,rfl,Z9 (fun _ h=>h.elim) _ hp1⟩,⟨by decide,rfl,inn1 Yt⟩,⟨by decide,rfl,inn1 Yt⟩,Yt⟩⟩
   · obtain rfl : j = 8 := by omega
     refine Z0 (Z1 (v:=false) rfl (Y0w (by omega))) rfl rfl ?_;refine gd 28 ⟨?_⟩;refine Ze (Z2O rfl rfl i rfl (by omega)) rfl rfl ?_;refine Ze (Z3i (kd:=.u64) (L:=A) (pre := []) (post := []) (o:=0) rfl rfl rfl (by omega)) rfl rfl ?_;refine gd 31 ⟨?_⟩;refine Ze (ZY (v:=((g0 A i ^^^ wIter bl i 8:Nat):Int)) rfl (bits_xor_u64_nat _ _ (hAw.g _) hwl)) rfl rfl ?_;refine gd 33 ⟨?_⟩;refine Ze (Z2O rfl rfl i rfl (by omega)) rfl rfl ?_;refine Ze (Z8l (kd:=.u64) (L:=A) (x:=g0 A i ^^^ wIter bl i 8) (pre := []) (post := []) (o:=0) rfl rfl rfl rfl (by omega) (by omega)) rfl rfl ?_;rw [← hxs];refine go ?_;exact⟨i+1,by omega,by omega,⟨⟨rfl,show 2<4 by decide⟩,⟨rfl,show 3<4 by decide⟩,⟨by show some _=some _; rw [hinc],Yt⟩,Yt⟩,⟨⟨by decide,rfl,Z9 (fun _ h=>h.elim) _ hp0⟩,⟨by decide,rfl,Z9 (fun _ h=>h.elim) _ hp1⟩,⟨by decide,rfl,inn1 Yt⟩,⟨by decide,rfl,inn1 Yt⟩,Yt⟩⟩
 · obtain rfl : i = 17 := by omega
   refine Z0 (Z1 (v:=false) rfl (Y0w (by omega))) rfl rfl ?_;refine gd 36 ⟨?_⟩;refine ZM (Z9c 25 (by omega) A hAl hAw ([]) Yt) rfl rfl rfl rfl (Z3B Yt) Yt ?_;rintro r b' hr1 hb1 rfl;rw [← hAA];refine go ?_;exact⟨_,_,rfl,.inl rfl,rfl,Yt,Zd5 _ _ _ _ _⟩
structure HOk (h:HS):Prop where
 sl:h.st.length=25
 sw:W64 h.st
 bl:h.bl.length=136
 bw:W8 h.bl
 us:h.used<136
def nblk (h:HS) (p:List Nat):List Nat:=h.bl.take h.used++p.take (min p.length (136-h.used))++h.bl.drop (h.used+min p.length (136-h.used))
theorem Z8o {h:HS} (hh:HOk h) (p:List Nat):(nblk h p).length=136:=by
 have h1:=hh.bl;have h2:=hh.us;unfold nblk;simp only [Y0e,Y0o,List.length_drop];omega
theorem W8.sub {l m:List Nat} (h:W8 m) (hs:∀ x∈l,x∈m):W8 l:=fun x hx=>h x (hs x hx)
theorem ZbM {h:HS} (hh:HOk h) {p:List Nat} (hp:W8 p):W8 (nblk h p):=fun x hx=>by
 unfold nblk at hx;rcases Y0h.1 hx with h1|h1
 · rcases Y0h.1 h1 with h2 | h2
   · exact hh.bw x (List.mem_of_mem_take h2)
   · exact hp x (List.mem_of_mem_take h2)
 · exact hh.bw x (List.mem_of_mem_drop h1)
theorem ZgZ (h:HS) (p:List Nat):h.put p=if h.used+min p.length (136-h.used)=136 then ⟨absorb h.st (nblk h p),nblk h p,0,h.total⟩ else ⟨h.st,nblk h p,h.used+min p.length (136-h.used),h.total⟩:=rfl
theorem ZbN {h:HS} (hh:HOk h) {p:List Nat} (hp:W8 p):HOk (h.put p):=by
 have h2:=hh.us;rw [ZgZ]
 split
 · exact⟨Z5f hh.sl,ZbL hh.sw (ZbM hh hp),Z8o hh p,ZbM hh hp,by show 0<136; decide⟩
 · rename_i hne;exact⟨hh.sl,hh.sw,Z8o hh p,ZbM hh hp,by show h.used+_<136; omega⟩
theorem Z6A {f:Nat} {h:HS} {p:List Nat} (hp:p.length=0):HS.puts f h p=h:=by
 cases f with
 | zero=>rfl
 | succ f=>show (if p.length=0 then h else _)=h; rw [if_pos hp]
theorem Z9e:∀ (f f':Nat) (h:HS) (p:List Nat),HOk h→W8 p→p.length<f→p.length<f'→HS.puts f h p=HS.puts f' h p
 | 0,_,_,_,_,_,hf,_=>by omega
 | _,0,_,_,_,_,_,hf=>by omega
 | f + 1, f' + 1, h, p, hh, hp, hf, hf' => by
   have h2:=hh.us;by_cases h0:p.length=0
   · rw [Z6A h0,Z6A h0]
   · show (if p.length = 0 then h else HS.puts f (h.put p) (p.drop (min p.length (136 - h.used)))) = (if p.length = 0 then h else HS.puts f' (h.put p) (p.drop (min p.length (136 - h.used))));rw [if_neg h0,if_neg h0];exact Z9e f f' _ _ (ZbN hh hp) (hp.sub fun x hx=>List.mem_of_mem_drop hx) (by rw [List.length_drop];omega) (by rw [List.length_drop];omega)
theorem ZeI {f:Nat} {h:HS} {p:List Nat} (hh:HOk h) (hp:W8 p) (h0:¬ p.length=0) (hf:p.length<f):HS.puts f h p=HS.puts f (h.put p) (p.drop (min p.length (136-h.used))):=by
 have h2:=hh.us;obtain⟨f,rfl⟩:∃ f',f=f'+1:=⟨f-1,by omega⟩
 show (if p.length=0 then h else HS.puts f (h.put p) (p.drop (min p.length (136-h.used))))=_;rw [if_neg h0];exact Z9e f (f+1) _ _ (ZbN hh hp) (hp.sub fun x hx=>List.mem_of_mem_drop hx) (by rw [List.length_drop];omega) (by rw [List.length_drop];omega)
theorem ZeJ:∀ (f:Nat) (h:HS) (p:List Nat),HOk h→W8 p→HOk (HS.puts f h p)
 | 0,_,_,hh,_=>hh
 | f + 1, h, p, hh, hp => by
   show HOk (if p.length=0 then h else HS.puts f (h.put p) (p.drop (min p.length (136-h.used))))
   split
   · exact hh
   · exact ZeJ f _ _ (ZbN hh hp) (hp.sub fun x hx=>List.mem_of_mem_drop hx)
def hCells (st bl:List Nat) (u t:PV):List PV:=crow .u64 st++(crow .u8 bl ++ [u,t])
def hBx (h:HS):Bx:=⟨163,[hCells h.st h.bl (.val (.int .i64 (h.used:Int))) (.val (.int .u64 (h.total:Int)))]⟩
section
variable {st bl:List Nat} {u t:PV}
theorem Z7u (hs:st.length=25) (hb:bl.length=136):(hCells st bl u t).length=163:=by
 simp [hCells,Zx,hs,hb]
theorem Z3Y:hCells st bl u t=(crow .u64 st++crow .u8 bl) ++ [u,t]:=(List.append_assoc ..).symm
theorem Z29 (hs:st.length=25) (hb:bl.length=136):(crow .u64 st++crow .u8 bl).length=161:=by simp [Zx,hs,hb]
theorem Ziu (hs:st.length=25) (hb:bl.length=136):(hCells st bl u t).getD 161 pvu=u:=by
 rw [Z3Y,Y0b,List.getElem?_append_right (by rw [Z29 hs hb]; exact Y0m _),Z29 hs hb]
 rfl
theorem Zj8 (hs:st.length=25) (hb:bl.length=136):(hCells st bl u t).getD 162 pvu=t:=by
 rw [Z3Y,Y0b,List.getElem?_append_right (by rw [Z29 hs hb]; decide),Z29 hs hb]
 rfl
theorem ZeK (hs:st.length=25) (hb:bl.length=136) (v:PV):setAt (hCells st bl u t) 161 [v]=hCells st bl v t:=by
 rw [Z6y _ _ _ (by rw [Z7u hs hb]; decide),Z3Y,List.set_append_right _ _ (by rw [Z29 hs hb]; exact Y0m _),Z29 hs hb,Z3Y]
 rfl
theorem ZhF (hs:st.length=25) (hb:bl.length=136) (v:PV):setAt (hCells st bl u t) 162 [v]=hCells st bl u v:=by
 rw [Z6y _ _ _ (by rw [Z7u hs hb]; decide),Z3Y,List.set_append_right _ _ (by rw [Z29 hs hb]; decide),Z29 hs hb,Z3Y]
 rfl
theorem ZeL (hu:u.pure) (ht:t.pure):pureL (hCells st bl u t):=Z1f (ZI _ _) (Z1f (ZI _ _) ⟨hu,ht,Yt⟩)
end
theorem Z3d (h:HS):pureLL (hBx h).elems:=⟨ZeL Yt Yt,Yt⟩
theorem Z5g (D:Nat→Prop) (h:HS):innLL D (hBx h).elems:=Z9 (fun _ h=>h.elim) _ (Z3d h)
theorem ZiT (l:List Nat):((bys l).map fun c=>c.getD 0 pvu)=crow .u8 l:=by
 unfold bys crow;rw [List.map_map]
 rfl
theorem ZhG {st bl:List Nat} {u t:PV} (hs:st.length=25) (hb:bl.length=136) {used:Nat} (hu:used<136) (p:List Nat):setAt (hCells st bl u t) (25+used) (((bys p).take (136-used)).map fun c=>c.getD 0 pvu)=hCells st (bl.take used++p.take (min p.length (136-used))++bl.drop (used+min p.length (136-used))) u t:=by
 have e1:((bys p).take (136-used)).map (fun c=>c.getD 0 pvu)=crow .u8 (p.take (min p.length (136-used))):=by
  rw [List.map_take,ZiT];unfold crow;rw [← List.map_take];congr 1;rw [Nat.min_comm,← List.take_take,Y0q]
 rw [e1];generalize hn:min p.length (136-used)=n;have hpl:(p.take n).length=n:=by rw [Y0o]; omega
 have hcl:(crow .u8 (p.take n)).length=n:=by rw [Zx,hpl]
 have hst:(crow .u64 st).length=25:=by rw [Zx,hs]
 unfold setAt hCells;rw [hcl];have d1:(crow .u64 st++(crow .u8 bl ++ [u,t])).take (25+used)=crow .u64 st++crow .u8 (bl.take used):=by
  rw [List.take_append,hst,List.take_of_length_le (by omega),List.take_append,Zx,show 25+used-25=used by omega,show used-bl.length=0 by omega];simp [crow,List.map_take]
 have d2:(crow .u64 st++(crow .u8 bl ++ [u,t])).drop (25+used+n)=crow .u8 (bl.drop (used+n)) ++ [u,t]:=by
  rw [List.drop_append,hst,List.drop_of_length_le (by omega),List.drop_append,Zx,show 25+used+n-25=used+n by omega,show used+n-bl.length=0 by omega];simp [crow,List.map_drop]
 rw [d1,d2];unfold crow;simp only [Y0r,List.append_assoc]
section
variable {e:Env} {h:Heap} {n k:Nat} {Eb:Nat}
theorem ZaG {a:Operand} {l:List PV} {off:Nat} {v:PV} (ha:ev e a=some (.ptr k 0 off)) (hb:h k=some ⟨Eb,[l]⟩) (hl:off<l.length) (hv:l.getD off pvu=v):dEval (.load false 1 a) e h n=some (v,h):=by
 subst hv;exact Z2t ha hb Nat.zero_lt_one (cut1 _ _ hl)
theorem ZhH {a v:Operand} {l l':List PV} {off:Nat} {kd:IntKind} {x:Int} (ha:ev e a=some (.ptr k 0 off)) (hv:ev e v=some (.val (.int kd x))) (hb:h k=some ⟨Eb,[l]⟩) (hE:off+1≤Eb) (hl:setAt l off [.val (.int kd x)]=l'):dEval (.store 1 a v) e h n=some (pvu,h.upd k ⟨Eb,[l']⟩):=by
 subst hl;exact Z1R (n:=n) (size:=1) ha hv hb rfl rfl Nat.zero_lt_one hE
theorem Zgv {x:Operand} {lo hi:Option Operand} {k0 i0 o n0:Nat} (hx:ev e x=some (.ptr k0 i0 o)) (a b:Nat) (hlo:bndAt e 0 lo=some (a:Int)) (hhi:bndAt e n0 hi=some (b:Int)) (h1:a≤b) (h2:b≤n0) (h3:a<n0):dEval (.slcA n0 x lo hi) e h n=some (.sl k0 i0 (o+a) (b-a) (n0-a),h):=by
 simp only [dEval,hx,hlo,hhi];rw [if_pos ⟨by omega,by omega,by omega,by omega⟩];simp
theorem ZiU {d s:Operand} {o len cap:Nat} {p:List Nat} {fl:Bool} {l l':List PV} (hd:ev e d=some (.sl k 0 o len cap)) (hs:ev e s=some (.vec (bys p) fl)) (hb:h k=some ⟨Eb,[l]⟩) (hE:o+len≤Eb) (hl:setAt l o (((bys p).take len).map fun c=>c.getD 0 pvu)=l'):dEval (.copy 1 d s) e h n=some (.val (.int .i64 ((min p.length len:Nat):Int)),h.upd k ⟨Eb,[l']⟩):=by
 subst hl;simp only [dEval,hd,hs,hb];rw [if_pos ⟨fun c hc=>by obtain⟨y,_,rfl⟩:=Y0i.1 hc; rfl,Yt,show 0<1 by decide,hE⟩];rw [show (bys p).length=p.length by simp [bys]]
 rfl
end
end
section
open Go.RowKit
def intT (P:Program) (t:TypeId):Option IntKind:=match P.underlying t with|some (.int k)=>some k|_=>none
def boolT (P:Program) (t:TypeId):Bool:=match P.underlying t with|some .bool=>true|_=>false
def sliceT (P:Program) (t:TypeId):Option TypeId:=match P.underlying t with|some (.slice e)=>some e|_=>none
def structT (P:Program) (t:TypeId):Option Nat:=match P.underlying t with|some (.struct _)=>some (P.cellsOf t)|_=>none
def fieldT (P:Program) (t:TypeId) (i:Nat):Option (Nat×TypeId×Nat):=match P.underlying t with|some (.struct fs)=>(fs[i]?).map fun f=>(f.offset,f.type,P.cellsOf f.type)|_=>none
section
variable {P:Program} {t:TypeId} {n:Nat} {ps:List PV} {p:PV}
theorem Zfn {k:IntKind} (h:intT P t=some k):P.underlying t=some (.int k):=by
 unfold intT at h
 split at h
 · rename_i k' hu; cases h; exact hu
 · cases h
theorem Zdl (h:boolT P t=true):P.underlying t=some .bool:=by
 unfold boolT at h
 split at h
 · rename_i hu; exact hu
 · cases h
theorem Z6K {e:TypeId} (h:sliceT P t=some e):P.underlying t=some (.slice e):=by
 unfold sliceT at h
 split at h
 · rename_i k' hu; cases h; exact hu
 · cases h
theorem Z5C {k:Nat} (h:structT P t=some k):∃ fs,P.underlying t=some (.struct fs)∧P.cellsOf t=k:=by
 unfold structT at h
 split at h
 · rename_i fs hu; cases h; exact⟨fs,hu,rfl⟩
 · cases h
theorem Zb4 {i off sz:Nat} {ty:TypeId} (h:fieldT P t i=some (off,ty,sz)):∃ fs f,P.underlying t=some (.struct fs)∧f∈fs.toList∧f.offset=off∧f.type=ty∧P.cellsOf f.type=sz:=by
 unfold fieldT at h
 split at h
 · rename_i fs hu;cases hf:fs[i]? with
   | none=>rw [hf] at h; cases h
   | some f =>
     rw [hf] at h;simp only [Option.map_some,Option.some.injEq,Prod.mk.injEq] at h
     exact⟨fs,f,hu,by
      have:=(Array.getElem?_eq_some_iff.1 hf)
      obtain⟨hi,rfl⟩:=this
      simp,h.1,h.2.1,h.2.2⟩
 · cases h
theorem Z6L {k:IntKind} (h:Shape P n t ps) (hk:intT P t=some k):∃ m,(Lit.int k m).wf=true∧ps = [.val (.int k m)]:=by
 cases n with
 | zero=>exact h.elim
 | succ n=>simpa only [Shape,Zfn hk] using h
theorem Z5m (h:Shape P n t ps) (hk:boolT P t=true):∃ b,ps = [.val (.bool b)]:=by
 cases n with
 | zero=>exact h.elim
 | succ n=>simpa only [Shape,Zdl hk] using h
theorem Z4m {e:TypeId} (h:Shape P n t ps) (hk:sliceT P t=some e):∃ n' ll fl,ll.length≤maxVec∧(∀ l∈ll,Shape P n' e l)∧ps = [.vec ll fl]:=by
 cases n with
 | zero=>exact h.elim
 | succ n =>
   have:∃ ll fl,ll.length≤maxVec∧(∀ l∈ll,Shape P n e l)∧ps = [.vec ll fl]:=by simpa only [Shape,Z6K hk] using h
   obtain⟨ll,fl,h⟩:=this;exact⟨n,ll,fl,h⟩
theorem Z9z {k:Nat} (h:Shape P n t ps) (hk:structT P t=some k):ps.length=k:=by
 obtain⟨fs,hu,rfl⟩:=Z5C hk;cases n with
 | zero=>exact h.elim
 | succ n =>
   have:ps.length=P.cellsOf t∧∀ f∈fs.toList,Shape P n f.type ((ps.drop f.offset).take (P.cellsOf f.type)):=by simpa only [Shape,hu] using h
   exact this.1
theorem Z1D {i off sz:Nat} {ty:TypeId} (h:Shape P n t ps) (hk:fieldT P t i=some (off,ty,sz)):∃ n',Shape P n' ty ((ps.drop off).take sz):=by
 obtain⟨fs,f,hu,hf,rfl,rfl,rfl⟩:=Zb4 hk;cases n with
 | zero=>exact h.elim
 | succ n =>
   have:ps.length=P.cellsOf t∧∀ f∈fs.toList,Shape P n f.type ((ps.drop f.offset).take (P.cellsOf f.type)):=by simpa only [Shape,hu] using h
   exact⟨n,this.2 f hf⟩
theorem Z9A {e:TypeId} (h:ShapeV P t p) (hk:sliceT P t=some e):∃ n' ll fl,ll.length≤maxVec∧(∀ l∈ll,Shape P n' e l)∧p=.vec ll fl:=by
 obtain⟨n,h⟩:=h;rw [Z6K hk] at h;obtain⟨n',ll,fl,h1,h2,h3⟩:=Z4m (show Shape P n t [p] from h) hk;exact⟨n',ll,fl,h1,h2,by simpa using h3⟩
theorem Z8y {k:Nat} (h:ShapeV P t p) (hk:structT P t=some k):∃ n ps,p=.agg ps∧Shape P n t ps:=by
 obtain⟨n,h⟩:=h;obtain⟨fs,hu,_⟩:=Z5C hk;rw [hu] at h;obtain⟨ps,h1,h2⟩:=h;exact⟨n,ps,h1,h2⟩
end
end
end Go.Proofs.YtmnbbggaoembeaaGreatDoor
