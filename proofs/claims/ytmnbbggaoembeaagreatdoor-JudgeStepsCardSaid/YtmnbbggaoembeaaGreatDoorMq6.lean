/-
  Merged from the texts that this claim's theorem needs, part 7 of 8. No statement of the seat is proved here.
-/
import Derived.Laws.BitsAllLaws
import Derived.Test.YtmnbbggaoembeaaGreatDoorMq5
set_option linter.unusedSimpArgs false
set_option linter.unusedVariables false
set_option linter.unusedSectionVars false
namespace Go.Proofs.YtmnbbggaoembeaaGreatDoor
open Go.RowKit
attribute [local irreducible] aw opsK dK
abbrev RI:=Bool×Cu×Int×Int
def ruI (x:RI):List PV := [.val (.bool x.1),.vec (words (digs x.2.1.1)) false,.vec (words (digs x.2.1.2)) false,.val (.int .i64 x.2.2.1),.val (.int .i64 x.2.2.2)]
def toI (r:RU):RI:=(r.rev,r.cu,(r.tg:Int),(r.og:Int))
theorem Z7s (x:RI):pureL (ruI x):=⟨trivial,Ze _,Ze _,trivial,trivial,trivial⟩
theorem Z3c (l:List RI):pureLL (l.map ruI):=Z9 Z7s l
noncomputable def prbI (n:Int) (l:List Pr) (S:List Nat) (s0:Nat) (rs:List RI) (nv gl:List Cu):List PV := [.val (.int .i64 n),hierP l S,.vec (words (digs s0)) false,.vec (rs.map ruI) false,.vec (nv.map cuC) false,.vec (gl.map cuC) false]
theorem Z5K (n:Int) (l:List Pr) (S:List Nat) (s0:Nat) (rs:List RI) (nv gl:List Cu):pureL (prbI n l S s0 rs nv gl):=⟨trivial,Zq _ _,Ze _,Z3c _,ZC _,ZC _,trivial⟩
theorem Zh5 (t:PB) (S:List Nat):pbP t S=prbI t.n t.l S t.st (t.rs.map toI) t.nv t.gl:=by
 unfold pbP prbI
 rw [List.map_map]; rfl
def cubI (rs:List RI) (nv gl:List Cu):List Cu:=rs.map (·.2.1)++nv++gl
set_option maxHeartbeats 2000000 in
theorem Z6A (n:Int) (l:List Pr) (S:List Nat) (s0:Nat) (rs:List RI) (nv gl:List Cu) (h1:rs.length≤10000) (h2:nv.length≤10000) (h3:gl.length≤10000):Spec Tryz.prog 93 [.agg (prbI n l S s0 rs nv gl)] (· = .vec ((cubI rs nv gl).map cuC) false):=by
 have hpp:=Z5K n l S s0 rs nv gl
 have hrl:(rs.map ruI).length=rs.length:=by simp
 refine Z2 ok93 (Nat.le_of_ble_eq_true rfl) fun C hC=>?_
 refine Zt ?_
 refine Zh ?_
 refine Z3 rfl rfl rfl ?_
 repeat' (first|refine Zj (ZI (k:=3) rfl 2 (by decide)) ?_|(first|refine st ?_|(apply B<;>intro hb<;>try cases hb)))
 refine Z1d hC (fun (i:Nat)=>i≤rs.length) (fun i=>rs.length-i) 1 (fun i => [(1,.cp (prbI n l S s0 rs nv gl)),(3,.own 0),(7,.vec (rs.map ruI) false),(8,.val (.int .i64 (rs.length:Int))),(9,.val (.int .i64 (i:Int)))])
  (fun i => [(0,⟨2,((rs.take i).map (·.2.1)).map cuC⟩)]) (Nat.zero_le _) 0 (Nat.zero_le _) (fun i=>i) (fun _ _=>rfl) Z14
  ⟨⟨_,rfl,.pure _ hpp⟩,⟨_,rfl,.own 0 (by decide)⟩,⟨_,rfl,.pure _ (Z3c _)⟩,⟨_,by rw [← hrl]; rfl,.pure _ trivial⟩,⟨_,rfl,.pure _ trivial⟩,trivial⟩ ⟨⟨by decide,_,rfl,.same _ trivial⟩,trivial⟩ ?_
 intro i hi
 have hinc:IntKind.i64.wrap ((i:Int)+1)=((i+1:Nat):Int):=IntWalk.i64_in _ ⟨by omega,by omega⟩
 iterate 2 (first|refine st ?_|(apply B<;>intro hb<;>try cases hb))
 refine Zn rfl rfl rfl (fun hb=>?_) (fun hb=>?_)
 · have hil : i < rs.length := by have := of_decide_eq_true hb; omega
   have htake:=Z4D hil
   clear hb
   refine go ?_
   refine Z0 (Zo (xs:=rs) (g:=ruI) rfl rfl i rfl hil rfl) rfl rfl ?_
   generalize rs[i]=x at htake ⊢
   refine gd 17 ⟨?_⟩
   refine ZU (ZQ (k:=0) (m := [cuC x.2.1]) (fl:=true) rfl rfl rfl (fun c hc=>by rw [List.mem_singleton] at hc; subst hc; rfl) rfl (by
    show ((((rs.take i).map (·.2.1)).map cuC).length+1)*48≤_
    rw [List.length_map,List.length_map,List.length_take]
    omega)) rfl rfl ?_
   refine go ?_
   refine⟨i+1,mv 0 2,by omega,by omega,fun i hi=>absurd hi (Nat.not_lt_zero i),ZR rfl,
    ⟨⟨_,rfl,.pure _ hpp⟩,⟨_,rfl,.own 0 (by decide)⟩,⟨_,rfl,.pure _ (Z3c _)⟩,⟨_,rfl,.pure _ trivial⟩,⟨_,by show some _=some _; rw [hinc],.pure _ trivial⟩,trivial⟩,
    ⟨⟨by decide,_,rfl,?_⟩,trivial⟩⟩
   show RenB _ _ ⟨2,((rs.take i).map (·.2.1)).map cuC ++ [cuC x.2.1]⟩ ⟨2,((rs.take (i+1)).map (·.2.1)).map cuC⟩
   rw [htake,List.map_append,List.map_append]
   exact .same _ (by show pureLL (((rs.take i).map (·.2.1)).map cuC ++ [x.2.1].map cuC); rw [← List.map_append]; exact Z1c _)
 · have hil : i = rs.length := by have := of_decide_eq_false hb; omega
   subst hil
   clear hb
   rw [List.take_length]
   repeat' (first|refine Z2I [6] [(0,8)] [255,255,255,247,255,255,255,255] (by kernel_rfl) ?_|refine Zcw 22 ?_|(first|refine st ?_|(apply B<;>intro hb<;>try cases hb)))
   refine At.mk ?_
   refine Zd (ZQ (k:=0) (m:=nv.map cuC) (fl:=false) rfl rfl rfl (fun c hc=>by obtain⟨x,_,rfl⟩:=List.mem_map.1 hc; rfl) rfl (by
    show (((rs.map (·.2.1)).map cuC).length+(nv.map cuC).length)*48≤_
    rw [List.length_map,List.length_map,List.length_map];omega)) rfl rfl ?_
   have happ:((rs.map (·.2.1)).map cuC++nv.map cuC)++gl.map cuC=(cubI rs nv gl).map cuC:=by
    unfold cubI
    rw [List.map_append,List.map_append]
   refine gd 25 ⟨?_⟩
   refine Z92 (k:=4) (m:=gl.map cuC) (fl:=false) (b:=⟨2,(rs.map (·.2.1)).map cuC++nv.map cuC⟩) rfl rfl rfl (fun c hc=>by obtain⟨x,_,rfl⟩:=List.mem_map.1 hc; rfl) rfl (by
    show ((((rs.map (·.2.1)).map cuC)++nv.map cuC).length+(gl.map cuC).length)*48≤_
    rw [List.length_append,List.length_map,List.length_map,List.length_map,List.length_map];omega) (by show pureLL (((rs.map (·.2.1)).map cuC++nv.map cuC)++gl.map cuC); rw [happ]; exact Z1c _) rfl rfl ?_
   refine go ?_
   refine Z5 (r:=.vec (((rs.map (·.2.1)).map cuC++nv.map cuC)++gl.map cuC) false) rfl ?_ ?_
   · rw [happ]; exact Z1c _
   · rw [happ]
theorem Z9C (m:Nat) (hm:m<18446744073709551616) (p:Pr):Spec Tryz.prog 132 [.agg (prC p),.cp [.vec (words (digs m)) false]] (· = .val (.bool (m.testBit p.1&&m.testBit p.2))):=by
 refine Z2 ok132 (Nat.le_of_ble_eq_true rfl) fun C hC=>?_
 refine Zt ?_
 refine Zh ?_
 refine Z3 rfl rfl rfl ?_
 refine gd 7 ⟨?_⟩
 refine Z6 (Z5G m hm p.1) rfl rfl rfl ⟨Z1 _,trivial,trivial⟩ rfl ?_
 generalize m.testBit p.1=b
 cases b
 · refine go ?_
   exact Z5 rfl trivial rfl
 · refine gd 12 ⟨?_⟩
   refine Zi rfl ?_
   refine Z6 (Z5G m hm p.2) rfl rfl rfl ⟨Z1 _,trivial,trivial⟩ rfl ?_
   generalize m.testBit p.2=b
   cases b
   all_goals
    refine go ?_
    exact Z5 rfl trivial rfl
theorem Z9D (m:Nat) (hm:m<18446744073709551616) (x:RI):Spec Tryz.prog 133 [.agg (ruI x),.cp [.vec (words (digs m)) false]] (· = .val (.bool (decide (0≤x.2.2.1)&&m.testBit x.2.2.1.toNat))):=by
 refine Z2 ok133 (Nat.le_of_ble_eq_true rfl) fun C hC=>?_
 refine Zt ?_
 refine Zh ?_
 refine Z3 rfl rfl rfl ?_
 refine gd 7 ⟨?_⟩
 refine Z6 (Z43 m hm x.2.2.1) rfl rfl rfl ⟨Z1 _,trivial,trivial⟩ rfl ?_
 generalize (decide (0≤x.2.2.1)&&m.testBit x.2.2.1.toNat)=b
 cases b
 all_goals
  refine go ?_
  exact Z5 rfl trivial rfl
theorem Z9E (m:Nat) (hm:m<18446744073709551616) (c:Cu) (hc:Ok64 c):Spec Tryz.prog 135 [.agg (cuC c),.cp [.vec (words (digs m)) false]] (· = .val (.bool (decide (c.1 ||| c.2 ||| m=m)))):=by
 refine Z2 ok135 (Nat.le_of_ble_eq_true rfl) fun C hC=>?_
 refine Zt ?_
 refine Zh ?_
 refine Z3 rfl rfl rfl ?_
 refine gd 8 ⟨?_⟩
 refine Zr (Z1Q c.1 c.2 hc.1 hc.2) rfl rfl rfl ⟨Z1 _,Z1 _,trivial⟩ ?_
 refine gd 10 ⟨?_⟩
 refine Zr (Z1K (c.1 ||| c.2) m (Z42 hc.1 hc.2) hm) rfl rfl rfl ⟨Z1 _,Z1 _,trivial⟩ ?_
 generalize decide (c.1 ||| c.2 ||| m=m)=b
 cases b
 all_goals
  refine go ?_
  exact Z5 rfl trivial rfl
def knB (m:Nat) (l:List Pr) (s0:Nat) (rs:List RI) (cs:List Cu):Bool:=decide (s0 ||| m=m)&&(l.all (fun p=>m.testBit p.1&&m.testBit p.2)&&(rs.all (fun x=>decide (0≤x.2.2.1)&&m.testBit x.2.2.1.toNat)&&cs.all fun c=>decide (c.1 ||| c.2 ||| m=m)))
structure Fine (l:List Pr) (s0:Nat) (rs:List RI) (nv gl:List Cu):Prop where
 fl:l.length≤10000
 fs:s0<18446744073709551616
 fr:rs.length≤10000
 fv:nv.length≤10000
 fg:gl.length≤10000
 fc:∀ c∈cubI rs nv gl,Ok64 c
set_option maxHeartbeats 2000000 in
theorem ZbH (n:Nat) (h1:1≤n) (h2:n≤63) (l:List Pr) (S:List Nat) (s0:Nat) (rs:List RI) (nv gl:List Cu) (hf:Fine l s0 rs nv gl):Spec Tryz.prog 91 [.agg (prbI (n:Int) l S s0 rs nv gl)] (· = .val (.bool (knB (mkN n) l s0 rs (cubI rs nv gl)))):=by
 have hp1:2 ^ (n+1)≤2 ^ 64:=Nat.pow_le_pow_right (by decide) (by omega)
 have hp0:=Nat.two_pow_pos (n+1)
 have hmk:=Z6x h2
 have hinc0:IntKind.i64.wrap ((n:Int)+1)=((n+1:Nat):Int):=IntWalk.i64_in _ ⟨by omega,by omega⟩
 have hbw:=Z16 (2 ^ (n+1)-1) (by omega) 0
 rw [Z7r n h2] at hbw
 have hw:=Z1K s0 (mkN n) hf.fs hmk
 have hc1:pureL [PV.vec (words (digs (mkN n))) false]:=⟨Ze _,trivial⟩
 have hcc:pureL [PV.cp [PV.vec (words (digs (mkN n))) false]]:=⟨hc1,trivial⟩
 have hl:=Z6z l S (by have:=hf.fl;omega)
 have ha1:=Zdc l prC false 132 [.cp [.vec (words (digs (mkN n))) false]] _ (fun _=>rfl) (fun x=>Z3p x) hcc fun p _=>Z9C (mkN n) hmk p
 have ha2:=Z8f rs ruI false 133 [.cp [.vec (words (digs (mkN n))) false]] _ (fun _=>rfl) Z7s hcc fun p _=>Z9D (mkN n) hmk p
 have hcb:=Z6A (n:Int) l S s0 rs nv gl hf.fr hf.fv hf.fg
 have ha3:=Zdd (cubI rs nv gl) cuC false 135 [.cp [.vec (words (digs (mkN n))) false]] _ (fun _=>rfl) Zk hcc fun p hp=>Z9E (mkN n) hmk p (hf.fc p hp)
 have hpp:=Z5K (n:Int) l S s0 rs nv gl
 refine Z2 ok91 (Nat.le_of_ble_eq_true rfl) fun C hC=>?_
 refine Zt ?_
 refine Zh ?_
 refine Z3 rfl rfl rfl ?_
 refine gd 6 ⟨?_⟩
 refine Z8 rfl rfl rfl hinc0 ?_
 refine Z6 (Z3w (n+1) (by omega) (by omega)) rfl rfl rfl ⟨trivial,trivial⟩ rfl ?_
 refine Z6 hbw rfl rfl rfl ⟨Z1 _,trivial,trivial⟩ rfl ?_
 refine gd 9 ⟨?_⟩
 refine Zj (Z3E (k:=3) rfl rfl hc1) ?_
 refine gd 12 ⟨?_⟩
 refine Z6 hw rfl rfl rfl ⟨Z1 _,Z1 _,trivial⟩ rfl ?_
 unfold knB
 generalize decide (s0 ||| mkN n=mkN n)=b1
 cases b1
 · refine go ?_
   exact Z5 rfl trivial rfl
 refine gd 16 ⟨?_⟩
 refine Zi rfl ?_
 refine Z6 hl rfl rfl rfl ⟨Zq _ _,trivial⟩ rfl ?_
 refine gd 18 ⟨?_⟩
 refine Zi rfl ?_
 refine Z6 ha1 rfl rfl rfl ⟨Zg l,hcc,trivial⟩ rfl ?_
 generalize (l.all fun p=>(mkN n).testBit p.1&&(mkN n).testBit p.2)=b2
 cases b2
 · refine go ?_
   exact Z5 rfl trivial rfl
 refine gd 24 ⟨?_⟩
 refine Zi rfl ?_
 refine Z6 ha2 rfl rfl rfl ⟨Z3c rs,hcc,trivial⟩ rfl ?_
 generalize (rs.all fun x=>decide (0≤x.2.2.1)&&(mkN n).testBit x.2.2.1.toNat)=b3
 cases b3
 · refine go ?_
   exact Z5 rfl trivial rfl
 refine gd 28 ⟨?_⟩
 refine Zi rfl ?_
 refine Z6 hcb rfl rfl rfl ⟨hpp,trivial⟩ rfl ?_
 refine gd 30 ⟨?_⟩
 refine Zi rfl ?_
 refine Z6 ha3 rfl rfl rfl ⟨Z1c _,hcc,trivial⟩ rfl ?_
 generalize ((cubI rs nv gl).all fun c=>decide (c.1 ||| c.2 ||| mkN n=mkN n))=b4
 cases b4
 all_goals
  refine go ?_
  exact Z5 rfl trivial rfl
def revB (x:RI):Bool := !x.1||(decide (x.2.1.1=0)&&decide (x.2.1.2=0))
theorem Z9F (x:RI) (hc:Ok64 x.2.1):Spec Tryz.prog 89 [.agg (ruI x)] (· = .val (.bool (revB x))):=by
 obtain⟨rv,c,tg,og⟩:=x
 have e1:=Z4w c.1 hc.1
 have e2:=Z4w c.2 hc.2
 unfold revB
 refine Z2 ok89 (Nat.le_of_ble_eq_true rfl) fun C hC=>?_
 refine Zt ?_
 refine Zh ?_
 refine Z3 rfl rfl rfl ?_
 cases rv
 · refine go ?_
   exact Z5 rfl trivial rfl
 refine gd 10 ⟨?_⟩
 refine Zi rfl ?_
 refine Z6 e1 rfl rfl rfl ⟨Z1 _,trivial⟩ rfl ?_
 dsimp only
 generalize decide (c.1=0)=b1
 cases b1
 · refine go ?_
   exact Z5 rfl trivial rfl
 refine gd 15 ⟨?_⟩
 refine Zi rfl ?_
 refine Z6 e2 rfl rfl rfl ⟨Z1 _,trivial⟩ rfl ?_
 generalize decide (c.2=0)=b2
 cases b2
 all_goals
  refine go ?_
  exact Z5 rfl trivial rfl
set_option maxHeartbeats 1000000 in
theorem ZbI (n:Int) (l:List Pr) (S:List Nat) (s0:Nat) (rs:List RI) (nv gl:List Cu) (h64:∀ c∈nv,Ok64 c) (s:Nat) (hs:s<18446744073709551616):Spec Tryz.prog 38 [.agg (prbI n l S s0 rs nv gl),setN s] (· = .val (.bool (!soC nv (clo l s)))):=by
 have hc:=Z12 l S s hs
 have hso:=Z3t nv false (clo l s) h64 (Z4P _ _)
 refine Z2 ok38 (Nat.le_of_ble_eq_true rfl) fun C hC=>?_
 refine Zt ?_
 refine Zh ?_
 refine Z3 rfl rfl rfl ?_
 refine Z3 rfl rfl rfl ?_
 refine gd 14 ⟨?_⟩
 refine Z26 rfl ?_
 refine Zr hc rfl rfl rfl ⟨Zq _ _,Z1 _,trivial⟩ ?_
 refine gd 15 ⟨?_⟩
 refine Z26 rfl ?_
 refine Zr hso rfl rfl rfl ⟨ZC _,Z1 _,trivial⟩ ?_
 generalize soC nv (clo l s)=b
 cases b
 all_goals
  refine go ?_
  exact Z5 rfl trivial rfl
noncomputable def chkI (n:Int) (l:List Pr) (s0:Nat) (rs:List RI) (nv gl:List Cu):Int :=
 if n<1 ∨ 63<n then 1 else
 if 64<rs.length ∨ 2000<nv.length ∨ 2000<gl.length then 3 else
 if knB (mkN n.toNat) l s0 rs (cubI rs nv gl)=false then 4 else
 if (cubI rs nv gl).any emC=true ∨ rs.all revB=false then 6 else
 if soC nv (clo l s0)=true then 7 else 0
set_option maxHeartbeats 4000000 in
theorem Z9G (n:Int) (l:List Pr) (S:List Nat) (s0:Nat) (rs:List RI) (nv gl:List Cu) (hf:Fine l s0 rs nv gl):Spec Tryz.prog 40 [.agg (prbI n l S s0 rs nv gl)] (· = .val (.int .i64 (chkI n l s0 rs nv gl))):=by
 have hpp:=Z5K n l S s0 rs nv gl
 have hr1:(rs.map ruI).length=rs.length:=by simp
 have hr2:(nv.map cuC).length=nv.length:=by simp
 have hr3:(gl.map cuC).length=gl.length:=by simp
 have hcb:=Z6A n l S s0 rs nv gl hf.fr hf.fv hf.fg
 have hn64:∀ c∈nv,Ok64 c:=fun c hc=>hf.fc c (List.mem_append.2 (.inl (List.mem_append.2 (.inr hc))))
 have hr64:∀ x∈rs,Ok64 x.2.1:=fun x hx=>hf.fc _ (List.mem_append.2 (.inl (List.mem_append.2 (.inl (List.mem_map.2 ⟨x,hx,rfl⟩)))))
 have hce:=Z1C (cubI rs nv gl) cuC false 76 [] emC (fun _=>rfl) Zk trivial fun c hc=>Z5C c (hf.fc c hc)
 have har:=Z8f rs ruI false 89 [] revB (fun _=>rfl) Z7s trivial fun x hx=>Z9F x (hr64 x hx)
 have hgo:=ZbI n l S s0 rs nv gl hn64 s0 hf.fs
 unfold chkI
 refine Z2 ok40 (Nat.le_of_ble_eq_true rfl) fun C hC=>?_
 refine Zt ?_
 refine Zh ?_
 refine Z3 rfl rfl rfl ?_
 refine gd 11 ⟨?_⟩
 refine Zi rfl ?_
 by_cases h1:n<1
 · rw [if_pos (.inl h1)]
   refine Z0 (Z4 (v:=true) rfl (decide_eq_true h1)) rfl rfl ?_
   refine go ?_
   exact Z5 rfl trivial rfl
 refine Z0 (Z4 (v:=false) rfl (decide_eq_false h1)) rfl rfl ?_
 refine gd 16 ⟨?_⟩
 refine Zi rfl ?_
 by_cases h2:63<n
 · rw [if_pos (.inr h2)]
   refine Z0 (Z4 (v:=true) rfl (decide_eq_true h2)) rfl rfl ?_
   refine go ?_
   exact Z5 rfl trivial rfl
 refine Z0 (Z4 (v:=false) rfl (decide_eq_false h2)) rfl rfl ?_
 rw [if_neg (show ¬ (n<1 ∨ 63<n) by omega)]
 refine gd 22 ⟨?_⟩
 by_cases h3:64<rs.length
 · rw [if_pos (.inl h3)]
   refine Z0 (Z4 (v:=true) rfl (decide_eq_true (by rw [hr1];omega))) rfl rfl ?_
   refine go ?_
   exact Z5 rfl trivial rfl
 refine Z0 (Z4 (v:=false) rfl (decide_eq_false (by rw [hr1];omega))) rfl rfl ?_
 refine gd 27 ⟨?_⟩
 refine Zi rfl ?_
 by_cases h4:2000<nv.length
 · rw [if_pos (.inr (.inl h4))]
   refine Z0 (Z4 (v:=true) rfl (decide_eq_true (by rw [hr2];omega))) rfl rfl ?_
   refine go ?_
   exact Z5 rfl trivial rfl
 refine Z0 (Z4 (v:=false) rfl (decide_eq_false (by rw [hr2];omega))) rfl rfl ?_
 refine gd 33 ⟨?_⟩
 refine Zi rfl ?_
 by_cases h5:2000<gl.length
 · rw [if_pos (.inr (.inr h5))]
   refine Z0 (Z4 (v:=true) rfl (decide_eq_true (by rw [hr3];omega))) rfl rfl ?_
   refine go ?_
   exact Z5 rfl trivial rfl
 refine Z0 (Z4 (v:=false) rfl (decide_eq_false (by rw [hr3];omega))) rfl rfl ?_
 rw [if_neg (show ¬ (64<rs.length ∨ 2000<nv.length ∨ 2000<gl.length) by omega)]
 obtain⟨k,rfl⟩:∃ k:Nat,n=(k:Int):=⟨n.toNat,by omega⟩
 have hkn:=ZbH k (by omega) (by omega) l S s0 rs nv gl hf
 rw [Int.toNat_natCast]
 refine gd 37 ⟨?_⟩
 refine Z6 hkn rfl rfl rfl ⟨hpp,trivial⟩ rfl ?_
 generalize knB (mkN k) l s0 rs (cubI rs nv gl)=b1
 cases b1
 · rw [if_pos rfl]
   refine go ?_
   exact Z5 rfl trivial rfl
 rw [if_neg (by decide)]
 refine gd 41 ⟨?_⟩
 refine Z6 hcb rfl rfl rfl ⟨hpp,trivial⟩ rfl ?_
 refine Z6 hce rfl rfl rfl ⟨Z1c _,trivial,trivial⟩ rfl ?_
 generalize (cubI rs nv gl).any emC=b2
 cases b2
 case true =>
  rw [if_pos (.inl rfl)]
  refine go ?_
  exact Z5 rfl trivial rfl
 refine gd 47 ⟨?_⟩
 refine Zi rfl ?_
 refine Z6 har rfl rfl rfl ⟨Z3c rs,trivial,trivial⟩ rfl ?_
 generalize rs.all revB=b3
 cases b3
 · rw [if_pos (.inr rfl)]
   refine go ?_
   exact Z5 rfl trivial rfl
 rw [if_neg (by simp)]
 refine gd 54 ⟨?_⟩
 refine Z6 hgo rfl rfl rfl ⟨hpp,Z1 _,trivial⟩ rfl ?_
 generalize soC nv (clo l s0)=b4
 cases b4
 · rw [if_neg (by decide)]
   refine go ?_
   exact Z5 rfl trivial rfl
 · rw [if_pos rfl]
   refine go ?_
   exact Z5 rfl trivial rfl
theorem ZfM {t:PB} (h:PbOk t):Fine t.l t.st (t.rs.map toI) t.nv t.gl:=by
 have h1:=h.rl
 have h2:=h.nl
 have h3:=h.gk
 refine⟨Nat.le_trans (ZaA h.good) (by decide),?_,by rw [List.length_map]; omega,by omega,by omega,fun c hc=>?_⟩
 · have h1 : t.st ≤ mkN t.n := by rw [← h.st]; exact Nat.left_le_or
   have:=Z6x h.n.2
   omega
 · unfold cubI at hc
   rw [List.mem_append,List.mem_append,List.map_map,List.mem_map] at hc
   rcases hc with (⟨x,hx,rfl⟩|hc)|hc
   · exact (h.rs x hx).cu.lt h.n.2
   · exact h.nv64 c hc
   · exact h.gl64 c hc
theorem Zgx {n:Nat} {c:Cu} (h:InC n c):c.1 ||| c.2 ||| mkN n=mkN n:=by rw [Nat.or_assoc,h.n,h.y]
theorem ZaB {t:PB} (h:PbOk t):∀ c∈cubI (t.rs.map toI) t.nv t.gl,InC t.n c:=fun c hc=>by
 unfold cubI at hc
 rw [List.mem_append,List.mem_append,List.map_map,List.mem_map] at hc
 rcases hc with (⟨x,hx,rfl⟩|hc)|hc
 · exact (h.rs x hx).cu
 · exact (h.nv c hc).1
 · exact (h.gl c hc).1
theorem Zgy {t:PB} (h:PbOk t):chkI t.n t.l t.st (t.rs.map toI) t.nv t.gl=0:=by
 have hn:=h.n
 have h1:=h.rl
 have h2:=h.nl
 have h3:=h.gk
 unfold chkI
 rw [if_neg (by omega),if_neg (by rw [List.length_map];omega),Int.toNat_natCast]
 have hk:knB (mkN t.n) t.l t.st (t.rs.map toI) (cubI (t.rs.map toI) t.nv t.gl)=true:=by
  unfold knB
  rw [decide_eq_true h.st,Bool.true_and,Bool.and_eq_true,Bool.and_eq_true,List.all_eq_true,List.all_eq_true,List.all_eq_true]
  refine⟨fun p hp=>?_,fun x hx=>?_,fun c hc=>decide_eq_true (Zgx (ZaB h c hc))⟩
  · have ha := h.lk p hp
    have hb:=h.good.role p hp
    rw [Z4A,Z4A,decide_eq_true (show 1≤p.1 by omega),decide_eq_true ha.1,decide_eq_true (show 1≤p.2 by omega),decide_eq_true ha.2.1]; rfl
  · obtain ⟨r, hr, rfl⟩ := List.mem_map.1 hx
    have ht:=(h.rs r hr).tg
    show (decide (0≤(r.tg:Int))&&(mkN t.n).testBit (r.tg:Int).toNat)=true
    rw [Int.toNat_natCast,decide_eq_true (Int.natCast_nonneg _),Z4A,decide_eq_true ht.1,decide_eq_true ht.2.1]; rfl
 rw [hk,if_neg (by decide)]
 have he:(cubI (t.rs.map toI) t.nv t.gl).any emC=false:=Bool.eq_false_iff.2 fun h0=>by
  obtain⟨c,hc,h1⟩:=List.any_eq_true.1 h0
  rw [(ZaB h c hc).e] at h1; cases h1
 have hr:(t.rs.map toI).all revB=true:=by
  rw [List.all_eq_true]
  intro x hx
  obtain⟨r,hr,rfl⟩:=List.mem_map.1 hx
  unfold revB
  show (!r.rev||(decide (r.cu.1=0)&&decide (r.cu.2=0)))=true
  cases hv:r.rev with
  | false=>rfl
  | true=>rw [(h.rs r hr).rv hv]; rfl
 rw [he,hr,if_neg (by simp),h.sg,if_neg (by decide)]
theorem ZeL {t:PB} (h:PbOk t) (S:List Nat):Spec Tryz.prog 40 [.agg (pbP t S)] (· = .val (.int .i64 0)):=by
 have:=Z9G t.n t.l S t.st (t.rs.map toI) t.nv t.gl (ZfM h)
 rwa [Zgy h,← Zh5] at this
theorem Z1E {N:Nat} (hN:N<18446744073709551616) {i:Nat} (hi:i<64):withoutN N (i:Int)=minusN N (2 ^ i):=by
 refine Nat.eq_of_testBit_eq fun j=>?_
 rw [Z2W hN,ZK hN (ZL hi),Nat.testBit_two_pow]
 by_cases h:j=i
 · subst h; simp
 · rw [decide_eq_true h,decide_eq_false fun h'=>h h'.symm]; rfl
end Go.Proofs.YtmnbbggaoembeaaGreatDoor
namespace Go.Proofs.YtmnbbggaoembeaaGreatDoor
open Go.RowKit
def inC1 (k:Nat):List PV := [.val (.int .i64 (k:Int))]
def inL (l:List Nat):List (List PV):=l.map inC1
theorem Z1l (l:List Nat):pureLL (inL l):=Z9 (enc:=inC1) (fun _=>⟨trivial,trivial⟩) l
theorem Z7t (l:List Nat):(inL l).length=l.length:=by simp [inL]
end Go.Proofs.YtmnbbggaoembeaaGreatDoor
namespace Go.Proofs.YtmnbbggaoembeaaGreatDoor
open Go.RowKit
attribute [local irreducible] aw opsK dK
section
variable {P:Program} {e:Env} {h:Heap} {n:Nat}
theorem Z1u {d:Option Nat} {z:Rsv} {i mask:Nat} {op:AOp} {iso:Nat} {alt:Bool} {g:Nat×Bool} {xs:List DItem} {K:Env→Heap→Prop} (hw:wantB (some g) e=some false) (hk:dK P z n xs (updO e d pvu) h K):dK P z n (⟨i,⟨d,op,some g⟩,mask,iso,alt⟩ :: xs) e h K:=by
 unfold dK
 exact⟨_,.skip hw,fun p' f' hh=>by obtain⟨rfl,rfl⟩:=hh; exact hk⟩
end
theorem ZaC:setN 0=.agg [.vec [] false]:=by unfold setN; rw [ZG]; rfl
theorem Z7u {x:RU} (hx:x.tg<64) {s:Nat} (hs:s<18446744073709551616):nextR x s<18446744073709551616:=by
 unfold nextR
 split
 · exact Nat.lt_of_le_of_lt Nat.and_le_left hs
 · exact Z42 hs (ZL hx)
def stepP (x:RU) (s:Nat) (ok:Bool):PV:=.tup [setN (if ok then nextR x s else 0),.val (.bool ok)]
theorem Z4k (x:RU) (s:Nat):PV.tup [.agg [.vec [] false],.val (.bool false)]=stepP x s false:=by
 show _=PV.tup [setN 0,.val (.bool false)]
 rw [ZaC]
set_option maxRecDepth 100000 in
set_option maxHeartbeats 8000000 in
theorem ZbJ {t:PB} (h:PbOk t) (S:List Nat) (s:Nat) (hs:s<18446744073709551616) (k:Nat) (hk:k<t.rs.length):Spec Tryz.prog 12 [.agg (pbP t S),setN s,.val (.int .i64 (k:Int))] (· = stepP t.rs[k] s (stepR t t.rs[k] s)):=by
 have hro:=h.rs _ (List.getElem_mem hk)
 have hpp:=Zx t S
 have hrl:(t.rs.map ruP).length=t.rs.length:=by simp
 refine Z2 ok12 (Nat.le_of_ble_eq_true rfl) fun C hC=>?_
 refine Zt ?_
 refine Zh ?_
 refine Z3 rfl rfl rfl ?_
 refine Z3 rfl rfl rfl ?_
 refine gd 15 ⟨?_⟩
 refine Zi rfl ?_
 refine Z0 (Z4 (v:=false) rfl (decide_eq_false (by omega))) rfl rfl ?_
 refine gd 22 ⟨?_⟩
 refine Zi rfl ?_
 refine Z0 (Z4 (v:=false) rfl (decide_eq_false (by rw [hrl];omega))) rfl rfl ?_
 refine gd 28 ⟨?_⟩
 refine Z0 (Zo (xs:=t.rs) (g:=ruP) rfl rfl k rfl hk rfl) rfl rfl ?_
 generalize t.rs[k]=x at hro ⊢
 have hxt:=hro.tg
 have hx64:=hro.m.lt (by decide)
 have hnx:=Z7u (x:=x) (show x.tg<64 by omega) hs
 have hgood:=ZbC h S (nextR x s) hnx
 have hclo:=Z12 t.l S s hs
 have hho:=Z2Q x.cu (clo t.l s) hx64 (Z4P _ _)
 have hhas:=Z5G s hs x.tg
 have hne:=ZeG (r:=x) (show x.tg<64 by omega) hs
 have hw:=Z2G s hs x.tg (by omega)
 have hst:stepR t x s=(decide (s.testBit x.tg=x.rev)&&(goodB t (nextR x s)&&(x.rev||hoC x.cu (clo t.l s)))):=by
  unfold stepR
  rw [decide_eq_decide.2 hne]
 rw [hst]
 refine gd 33 ⟨?_⟩
 refine Z6 hw rfl rfl rfl ⟨Z1 _,trivial,trivial⟩ rfl ?_
 cases hv:x.rev
 · have hnv : nextR x s = s ||| 2 ^ x.tg := by unfold nextR; rw [hv]; rfl
   rw [← hnv]
   refine gd 35 ⟨?_⟩
   refine Z0 (Z4 (v:=false) rfl hv) rfl rfl ?_
   refine gd 43 ⟨?_⟩
   refine Zr hhas rfl rfl rfl ⟨Z1 _,trivial,trivial⟩ ?_
   refine gd 45 ⟨?_⟩
   refine Zd (Z4 (v:=false) rfl hv) rfl rfl ?_
   cases hb:s.testBit x.tg
   case true =>
    repeat' (first|refine Z1u rfl ?_|(first|refine st ?_|(apply B<;>intro hb<;>try cases hb)))
    exact ZV (r:=.tup [.agg [.vec [] true],.val (.bool false)]) rfl ⟨⟨trivial,trivial⟩,trivial,trivial⟩ (Z4k x s)
   refine gd 49 ⟨?_⟩
   refine Z26 rfl ?_
   refine Zd (Z4 (v:=false) rfl hv) rfl rfl ?_
   refine gd 57 ⟨?_⟩
   refine Z26 rfl ?_
   refine Zr hclo rfl rfl rfl ⟨Zq _ _,Z1 _,trivial⟩ ?_
   refine Z26 rfl ?_
   refine Zr hho rfl rfl rfl ⟨Z2o _,Z1 _,trivial⟩ ?_
   cases hh:hoC x.cu (clo t.l s)
   case false =>
    repeat' (first|refine Z1u rfl ?_|(first|refine st ?_|(apply B<;>intro hb<;>try cases hb)))
    exact ZV (r:=.tup [.agg [.vec [] true],.val (.bool false)]) rfl ⟨⟨trivial,trivial⟩,trivial,trivial⟩ (by cases goodB t (nextR x s)<;>exact Z4k x s)
   refine gd 65 ⟨?_⟩
   refine Z26 rfl ?_
   refine Zr hgood rfl rfl rfl ⟨hpp,Z1 _,trivial⟩ ?_
   cases hg:goodB t (nextR x s)
   case false =>
    repeat' (first|refine Z1u rfl ?_|(first|refine st ?_|(apply B<;>intro hb<;>try cases hb)))
    exact ZV (r:=.tup [.agg [.vec [] true],.val (.bool false)]) rfl ⟨⟨trivial,trivial⟩,trivial,trivial⟩ (Z4k x s)
   repeat' (first|refine Z1u rfl ?_|(first|refine st ?_|(apply B<;>intro hb<;>try cases hb)))
   exact Z5 rfl ⟨Z1 _,trivial,trivial⟩ rfl
 · have hnv : nextR x s = minusN s (2 ^ x.tg) := by unfold nextR; rw [hv]; rfl
   have hwo:=Z16 s hs (x.tg:Int)
   rw [Z1E hs (by omega),← hnv] at hwo
   refine gd 35 ⟨?_⟩
   refine Z0 (Z4 (v:=true) rfl hv) rfl rfl ?_
   refine gd 39 ⟨?_⟩
   refine Z6 hwo rfl rfl rfl ⟨Z1 _,trivial,trivial⟩ rfl ?_
   refine gd 43 ⟨?_⟩
   refine Zr hhas rfl rfl rfl ⟨Z1 _,trivial,trivial⟩ ?_
   refine gd 45 ⟨?_⟩
   refine Zd (Z4 (v:=true) rfl hv) rfl rfl ?_
   cases hb:s.testBit x.tg
   case false =>
    repeat' (first|refine Z1u rfl ?_|(first|refine st ?_|(apply B<;>intro hb<;>try cases hb)))
    exact ZV (r:=.tup [.agg [.vec [] true],.val (.bool false)]) rfl ⟨⟨trivial,trivial⟩,trivial,trivial⟩ (Z4k x s)
   refine gd 49 ⟨?_⟩
   refine Z26 rfl ?_
   refine Zd (Z4 (v:=true) rfl hv) rfl rfl ?_
   refine gd 65 ⟨?_⟩
   refine Z26 rfl ?_
   refine Zr hgood rfl rfl rfl ⟨hpp,Z1 _,trivial⟩ ?_
   cases hg:goodB t (nextR x s)
   case false =>
    repeat' (first|refine Z1u rfl ?_|(first|refine st ?_|(apply B<;>intro hb<;>try cases hb)))
    exact ZV (r:=.tup [.agg [.vec [] true],.val (.bool false)]) rfl ⟨⟨trivial,trivial⟩,trivial,trivial⟩ (Z4k x s)
   repeat' (first|refine Z1u rfl ?_|(first|refine st ?_|(apply B<;>intro hb<;>try cases hb)))
   exact Z5 rfl ⟨Z1 _,trivial,trivial⟩ rfl
theorem Z21 {N M:Nat} (hN:N<18446744073709551616) (hM:M<18446744073709551616) {b:Bool} (h:decide (N ||| M=M)=b):Spec Tryz.prog 75 [setN N,setN M] (· = .val (.bool b)):=h▸Z1K N M hN hM
theorem Z3z {N M:Nat} (hN:N<18446744073709551616) (hM:M<18446744073709551616) {b:Bool} (h:decide (N &&& M≠0)=b):Spec Tryz.prog 84 [setN N,setN M] (· = .val (.bool b)):=h▸Z4v N M hN hM
def satT (c:Cu) (lo hi:Nat):Nat:=if !decide (c.1 ||| hi=hi)||decide (c.2 &&& lo≠0) then 0 else if decide (c.1 ||| lo=lo) && !decide (c.2 &&& hi≠0) then 2 else 1
theorem ZfU (c:Cu) (lo hi:Nat):satT c lo hi≤2:=by
 unfold satT
 split
 · omega
 · split<;>omega
theorem ZeS (c:Cu) (lo hi:Nat) (hc:Ok64 c) (hlo:lo<18446744073709551616) (hhi:hi<18446744073709551616):Spec Tryz.prog 208 [cuP c,setN lo,setN hi] (· = .val (.int .u8 ((satT c lo hi:Nat):Int))):=by
 refine Z2 ok208 (Nat.le_of_ble_eq_true rfl) fun C hC=>?_
 have hp2:∀ a b:Nat,pureL [setN a,setN b]:=fun a b=>⟨Z1 a,Z1 b,trivial⟩
 cases h1:decide (c.1 ||| hi=hi)
 case false =>
  refine gd 11 ⟨?_⟩
  refine Z6 (Z21 hc.1 hhi h1) rfl rfl rfl (hp2 _ _) rfl ?_
  refine go ?_
  exact Z5 rfl trivial (by unfold satT; rw [h1]; rfl)
 cases h2:decide (c.2 &&& lo≠0)
 case true =>
  refine gd 11 ⟨?_⟩
  refine Z6 (Z21 hc.1 hhi h1) rfl rfl rfl (hp2 _ _) rfl ?_
  refine gd 17 ⟨?_⟩
  refine Zi rfl ?_
  refine Z6 (Z3z hc.2 hlo h2) rfl rfl rfl (hp2 _ _) rfl ?_
  refine go ?_
  exact Z5 rfl trivial (by unfold satT; rw [h1,h2]; rfl)
 cases h3:decide (c.1 ||| lo=lo)
 case false =>
  refine gd 11 ⟨?_⟩
  refine Z6 (Z21 hc.1 hhi h1) rfl rfl rfl (hp2 _ _) rfl ?_
  refine gd 17 ⟨?_⟩
  refine Zi rfl ?_
  refine Z6 (Z3z hc.2 hlo h2) rfl rfl rfl (hp2 _ _) rfl ?_
  refine gd 23 ⟨?_⟩
  refine Z6 (Z21 hc.1 hlo h3) rfl rfl rfl (hp2 _ _) rfl ?_
  refine go ?_
  exact Z5 rfl trivial (by unfold satT; rw [h1,h2,h3]; rfl)
 cases h4:decide (c.2 &&& hi≠0)
 case true =>
  refine gd 11 ⟨?_⟩
  refine Z6 (Z21 hc.1 hhi h1) rfl rfl rfl (hp2 _ _) rfl ?_
  refine gd 17 ⟨?_⟩
  refine Zi rfl ?_
  refine Z6 (Z3z hc.2 hlo h2) rfl rfl rfl (hp2 _ _) rfl ?_
  refine gd 23 ⟨?_⟩
  refine Z6 (Z21 hc.1 hlo h3) rfl rfl rfl (hp2 _ _) rfl ?_
  refine gd 28 ⟨?_⟩
  refine Zi rfl ?_
  refine Z6 (Z3z hc.2 hhi h4) rfl rfl rfl (hp2 _ _) rfl ?_
  refine go ?_
  exact Z5 rfl trivial (by unfold satT; rw [h1,h2,h3,h4]; rfl)
 case false =>
  refine gd 11 ⟨?_⟩
  refine Z6 (Z21 hc.1 hhi h1) rfl rfl rfl (hp2 _ _) rfl ?_
  refine gd 17 ⟨?_⟩
  refine Zi rfl ?_
  refine Z6 (Z3z hc.2 hlo h2) rfl rfl rfl (hp2 _ _) rfl ?_
  refine gd 23 ⟨?_⟩
  refine Z6 (Z21 hc.1 hlo h3) rfl rfl rfl (hp2 _ _) rfl ?_
  refine gd 28 ⟨?_⟩
  refine Zi rfl ?_
  refine Z6 (Z3z hc.2 hhi h4) rfl rfl rfl (hp2 _ _) rfl ?_
  refine go ?_
  exact Z5 rfl trivial (by unfold satT; rw [h1,h2,h3,h4]; rfl)
def someT (l:List Cu) (lo hi:Nat):Nat:=l.foldl (fun a c=>max a (satT c lo hi)) 0
theorem ZbQ {l:List Cu} {i:Nat} (hi:i<l.length) (lo hh:Nat):someT (l.take (i+1)) lo hh=max (someT (l.take i) lo hh) (satT l[i] lo hh):=by
 unfold someT
 rw [List.take_succ_eq_append_getElem hi,List.foldl_append]
 rfl
theorem Z8n (l:List Cu) (lo hi:Nat):∀ a,a≤2→l.foldl (fun a c=>max a (satT c lo hi)) a≤2:=by
 induction l with
 | nil=>exact fun a h=>h
 | cons c l ih=>exact fun a h=>ih _ (Nat.max_le.2 ⟨h,ZfU _ _ _⟩)
theorem ZeT (l:List Cu) (lo hi:Nat):someT l lo hi≤2:=Z8n l lo hi 0 (by decide)
set_option maxHeartbeats 2000000 in
theorem Z8o (l:List Cu) (fl:Bool) (lo hi:Nat) (hl:∀ c∈l,Ok64 c) (hll:l.length<900000) (hlo:lo<18446744073709551616) (hhi:hi<18446744073709551616):Spec Tryz.prog 196 [.vec (l.map cuC) fl,setN lo,setN hi] (· = .val (.int .u8 ((someT l lo hi:Nat):Int))):=by
 refine Z2 ok196 (Nat.le_of_ble_eq_true rfl) fun C hC=>?_
 have hml:(l.map cuC).length=l.length:=List.length_map ..
 have hpi:∀ D,innLL D (l.map cuC):=fun D=>Za (fun _ h=>h.elim) _ (Z9 Zk l)
 refine gd 4 ⟨?_⟩
 refine Z3 rfl rfl rfl ?_
 refine Z3 rfl rfl rfl ?_
 refine go ?_
 refine Zl hC (fun i=>i≤l.length) (fun i=>l.length-i) 0 (fun i => [(4,.cp [.vec (words (digs lo)) false]),(5,.cp [.vec (words (digs hi)) false]),(7,.val (.int .u8 ((someT (l.take i) lo hi:Nat):Int))),(10,.vec (l.map cuC) fl),(11,.val (.int .i64 (l.length:Int))),(12,.val (.int .i64 (i:Int)))]) (fun _=>[]) (Nat.zero_le _) 0 (Nat.zero_le _)
  ⟨⟨rfl,ZH _ _,trivial⟩,⟨rfl,ZH _ _,trivial⟩,⟨rfl,trivial⟩,⟨rfl,hpi _⟩,⟨by rw [← hml]; rfl,trivial⟩,⟨rfl,trivial⟩,trivial⟩ trivial ?_
 intro i hi'
 have hinc:IntKind.i64.wrap ((i:Int)+1)=((i+1:Nat):Int):=IntWalk.i64_in _ ⟨by omega,by omega⟩
 refine gd 13 ⟨?_⟩
 by_cases hil:i<l.length
 · refine Z0 (Z4 (v := true) rfl (decide_eq_true (by omega))) rfl rfl ?_
   have hci:=hl l[i] (List.getElem_mem hil)
   have hst:=ZbQ hil lo hi
   refine gd 14 ⟨?_⟩
   refine Z0 (Zo (xs:=l) (g:=cuC) rfl rfl i rfl hil rfl) rfl rfl ?_
   generalize l[i]=c at hci hst
   refine gd 20 ⟨?_⟩
   refine Z6 (ZeS c lo hi hci hlo hhi) rfl rfl rfl ⟨Z2o _,Z1 _,Z1 _,trivial⟩ rfl ?_
   refine Z8 (v:=((someT (l.take (i+1)) lo hi:Nat):Int)) rfl rfl rfl (by rw [hst]; split<;>omega) ?_
   refine go ?_
   exact⟨i+1,by omega,by omega,⟨⟨rfl,ZH _ _,trivial⟩,⟨rfl,ZH _ _,trivial⟩,⟨rfl,trivial⟩,⟨rfl,hpi _⟩,⟨rfl,trivial⟩,⟨by show some _=some _; rw [hinc],trivial⟩,trivial⟩,trivial⟩
 · obtain rfl : i = l.length := by omega
   refine Z0 (Z4 (v:=false) rfl (decide_eq_false (by omega))) rfl rfl ?_
   rw [List.take_length]
   refine go ?_
   exact Z5 rfl trivial rfl
theorem Z6C (a b:Nat):minusN a b≤a:=Nat.and_le_left
structure ND where
 cl:Bool
 dr:Bool
 mu:Bool
 af:Nat
 so:List Cu
 no:List Cu
 sf:Bool
 nf:Bool
def ndP (d:ND):List PV := [.val (.bool d.cl),.val (.bool d.dr),.val (.bool d.mu),.val (.int .i64 (d.af:Int)),.vec (d.so.map cuC) d.sf,.vec (d.no.map cuC) d.nf]
theorem Z2a (d:ND):pureL (ndP d):=⟨trivial,trivial,trivial,trivial,Z9 Zk _,Z9 Zk _,trivial⟩
structure NdOk (d:ND):Prop where
 af:d.af<64
 so:∀ c∈d.so,Ok64 c
 no:∀ c∈d.no,Ok64 c
 sl:d.so.length<900000
 nl:d.no.length<900000
def aftN (d:ND) (x:Nat):Nat:=if 0<d.af then (if d.dr then minusN x (2 ^ d.af) else x ||| 2 ^ d.af) else x
def bndN (cl:Nat→Nat) (d:ND) (x:Nat):Nat:=if d.cl then cl (aftN d x) else aftN d x
theorem Z9J {d:ND} (hd:d.af<64) {x:Nat} (hx:x<18446744073709551616):aftN d x<18446744073709551616:=by
 unfold aftN
 split
 · split
   · exact Nat.lt_of_le_of_lt (Z6C ..) hx
   · exact Z2x hx (ZL hd)
 · exact hx
theorem Zdo {d:ND} (hd:d.af<64) (l:List Pr) {x:Nat} (hx:x<18446744073709551616):bndN (clo l) d x<18446744073709551616:=by
 unfold bndN
 split
 · exact Z4P _ _
 · exact Z9J hd hx
abbrev sBx (N:Nat):Bx:=⟨1,[[.vec (words (digs N)) false]]⟩
theorem Z2i (D:Nat→Prop) (N:Nat):innLL D (sBx N).elems:=⟨⟨ZH _ _,trivial⟩,trivial⟩
set_option maxRecDepth 100000 in
set_option maxHeartbeats 8000000 in
theorem Z9K (d:ND) (hd:NdOk d) (t:PB) (S:List Nat) (lo hi:Nat) (hlo:lo<18446744073709551616) (hhi:hi<18446744073709551616):Spec Tryz.prog 195 [.agg (ndP d),.agg (pbP t S),setN lo,setN hi] (· = .tup [setN (bndN (clo t.l) d lo),setN (bndN (clo t.l) d hi)]):=by
 refine Z2 ok195 (Nat.le_of_ble_eq_true rfl) fun C hC=>?_
 have hnp:=Z2a d
 have hpp:=Zx t S
 have hni:∀ D,innL D (ndP d):=fun D=>Zm (fun _ h=>h.elim) _ hnp
 have hpi:∀ D,innL D (pbP t S):=fun D=>Zm (fun _ h=>h.elim) _ hpp
 have haf:=hd.af
 have hal:=Z9J haf hlo
 have hah:=Z9J haf hhi
 have hp2:∀ (a:Nat) (k:Int),pureL [setN a,.val (.int .i64 k)]:=fun a k=>⟨Z1 a,trivial,trivial⟩
 refine gd 4 ⟨?_⟩
 refine Z3 rfl rfl rfl ?_
 refine Z3 rfl rfl rfl ?_
 iterate 4 (first|refine st ?_|(apply B<;>intro hb<;>try cases hb))
 iterate 1 (first|refine st ?_|(apply B<;>intro hb<;>try cases hb))
 refine Zfa hC True 4 [(4,.cp (ndP d)),(5,.cp (pbP t S)),(6,.ptr 0 0 0),(7,.ptr 1 0 0),(8,.ptr 2 0 0),(9,.ptr 3 0 0)] [(0,sBx (aftN d lo)),(1,sBx (aftN d hi)),(2,⟨1,[[.vec [] true]]⟩),(3,⟨1,[[.vec [] true]]⟩)] (by decide) ?_ (fun _=>?_)
 · by_cases h0 : 0 < d.af
   · cases hdr : d.dr
     · have e1 : ∀ x, aftN d x = x ||| 2 ^ d.af := fun x => by unfold aftN; rw [if_pos h0, hdr]; rfl
       refine gd 12 ⟨?_⟩
       refine Z0 (Z4 (v:=true) rfl (decide_eq_true (by omega))) rfl rfl ?_
       refine gd 15 ⟨?_⟩
       refine Zi rfl ?_
       refine Z0 (Z4 (v:=false) rfl hdr) rfl rfl ?_
       refine gd 27 ⟨?_⟩
       refine Z0 (Z4 (v:=true) rfl (decide_eq_true (by omega))) rfl rfl ?_
       refine gd 31 ⟨?_⟩
       refine Zr (Z2G lo hlo d.af haf) rfl rfl rfl (hp2 _ _) ?_
       refine gd 35 ⟨?_⟩
       refine Zr (Z2G hi hhi d.af haf) rfl rfl rfl (hp2 _ _) ?_
       refine go ?_
       exact⟨trivial,⟨⟨rfl,hni _⟩,⟨rfl,hpi _⟩,⟨rfl,show 0<4 by decide⟩,⟨rfl,show 1<4 by decide⟩,⟨rfl,show 2<4 by decide⟩,⟨rfl,show 3<4 by decide⟩,trivial⟩,⟨⟨by decide,by rw [e1]; rfl,Z2i _ _⟩,⟨by decide,by rw [e1]; rfl,Z2i _ _⟩,⟨by decide,rfl,⟨⟨trivial,trivial⟩,trivial⟩⟩,⟨by decide,rfl,⟨⟨trivial,trivial⟩,trivial⟩⟩,trivial⟩⟩
     · have e1 : ∀ x, aftN d x = minusN x (2 ^ d.af) := fun x => by unfold aftN; rw [if_pos h0, hdr]; rfl
       have w1:=Z16 lo hlo (d.af:Int)
       have w2:=Z16 hi hhi (d.af:Int)
       rw [Z1E hlo haf] at w1
       rw [Z1E hhi haf] at w2
       refine gd 12 ⟨?_⟩
       refine Z0 (Z4 (v:=true) rfl (decide_eq_true (by omega))) rfl rfl ?_
       refine gd 15 ⟨?_⟩
       refine Zi rfl ?_
       refine Z0 (Z4 (v:=true) rfl hdr) rfl rfl ?_
       refine gd 20 ⟨?_⟩
       refine Zr w1 rfl rfl rfl (hp2 _ _) ?_
       refine gd 24 ⟨?_⟩
       refine Zr w2 rfl rfl rfl (hp2 _ _) ?_
       refine go ?_
       exact⟨trivial,⟨⟨rfl,hni _⟩,⟨rfl,hpi _⟩,⟨rfl,show 0<4 by decide⟩,⟨rfl,show 1<4 by decide⟩,⟨rfl,show 2<4 by decide⟩,⟨rfl,show 3<4 by decide⟩,trivial⟩,⟨⟨by decide,by rw [e1]; rfl,Z2i _ _⟩,⟨by decide,by rw [e1]; rfl,Z2i _ _⟩,⟨by decide,rfl,⟨⟨trivial,trivial⟩,trivial⟩⟩,⟨by decide,rfl,⟨⟨trivial,trivial⟩,trivial⟩⟩,trivial⟩⟩
   · have e1 : ∀ x, aftN d x = x := fun x => by unfold aftN; rw [if_neg h0]
     refine gd 12 ⟨?_⟩
     refine Z0 (Z4 (v:=false) rfl (decide_eq_false (by omega))) rfl rfl ?_
     refine gd 27 ⟨?_⟩
     refine Z0 (Z4 (v:=false) rfl (decide_eq_false (by omega))) rfl rfl ?_
     refine go ?_
     exact⟨trivial,⟨⟨rfl,hni _⟩,⟨rfl,hpi _⟩,⟨rfl,show 0<4 by decide⟩,⟨rfl,show 1<4 by decide⟩,⟨rfl,show 2<4 by decide⟩,⟨rfl,show 3<4 by decide⟩,trivial⟩,⟨⟨by decide,by rw [e1]; rfl,Z2i _ _⟩,⟨by decide,by rw [e1]; rfl,Z2i _ _⟩,⟨by decide,rfl,⟨⟨trivial,trivial⟩,trivial⟩⟩,⟨by decide,rfl,⟨⟨trivial,trivial⟩,trivial⟩⟩,trivial⟩⟩
 · cases hcl : d.cl
   · have e2 : ∀ x, bndN (clo t.l) d x = aftN d x := fun x => by unfold bndN; rw [hcl]; rfl
     rw [e2,e2]
     refine gd 37 ⟨?_⟩
     refine Z0 (Z4 (v:=false) rfl hcl) rfl rfl ?_
     repeat' (first|refine Z2I [] [(2,4)] [15,15,11,15] (by kernel_rfl) ?_|(first|refine st ?_|(apply B<;>intro hb<;>try cases hb)))
     exact Z5 rfl ⟨Z1 _,Z1 _,trivial⟩ rfl
   · have e2 : ∀ x, bndN (clo t.l) d x = clo t.l (aftN d x) := fun x => by unfold bndN; rw [hcl]; rfl
     rw [e2,e2]
     refine gd 37 ⟨?_⟩
     refine Z0 (Z4 (v:=true) rfl hcl) rfl rfl ?_
     refine gd 41 ⟨?_⟩
     refine Zr (Z12 t.l S _ hal) rfl rfl rfl ⟨Zq _ _,Z1 _,trivial⟩ ?_
     refine gd 45 ⟨?_⟩
     refine Zr (Z12 t.l S _ hah) rfl rfl rfl ⟨Zq _ _,Z1 _,trivial⟩ ?_
     repeat' (first|refine Z2I [] [(2,4)] [15,15,11,15] (by kernel_rfl) ?_|(first|refine st ?_|(apply B<;>intro hb<;>try cases hb)))
     exact Z5 rfl ⟨Z1 _,Z1 _,trivial⟩ rfl
def valT (cl:Nat→Nat) (d:ND) (lo hi:Nat):Nat :=
 if d.mu then min (2-someT d.no (bndN cl d lo) (bndN cl d hi)) (someT d.so (bndN cl d lo) (bndN cl d hi)) else 2-someT d.no (bndN cl d lo) (bndN cl d hi)
set_option maxRecDepth 100000 in
set_option maxHeartbeats 4000000 in
theorem Z9L (d:ND) (hd:NdOk d) (t:PB) (S:List Nat) (lo hi:Nat) (hlo:lo<18446744073709551616) (hhi:hi<18446744073709551616):Spec Tryz.prog 184 [.agg (ndP d),.agg (pbP t S),setN lo,setN hi] (· = .val (.int .u8 ((valT (clo t.l) d lo hi:Nat):Int))):=by
 refine Z2 ok184 (Nat.le_of_ble_eq_true rfl) fun C hC=>?_
 have hnp:=Z2a d
 have hpp:=Zx t S
 have hb:=Z9K d hd t S lo hi hlo hhi
 have hbl:=Zdo hd.af t.l hlo
 have hbh:=Zdo hd.af t.l hhi
 have hn2:=ZeT d.no (bndN (clo t.l) d lo) (bndN (clo t.l) d hi)
 have hno:=Z8o d.no d.nf _ _ hd.no hd.nl hbl hbh
 have hso:=Z8o d.so d.sf _ _ hd.so hd.sl hbl hbh
 have hv:valT (clo t.l) d lo hi=if d.mu then min (2-someT d.no (bndN (clo t.l) d lo) (bndN (clo t.l) d hi)) (someT d.so (bndN (clo t.l) d lo) (bndN (clo t.l) d hi)) else 2-someT d.no (bndN (clo t.l) d lo) (bndN (clo t.l) d hi):=rfl
 generalize bndN (clo t.l) d lo=x at *
 generalize bndN (clo t.l) d hi=y at *
 refine gd 4 ⟨?_⟩
 refine Z3 rfl rfl rfl ?_
 refine Z3 rfl rfl rfl ?_
 refine gd 15 ⟨?_⟩
 refine Z6 hb rfl rfl rfl ⟨hnp,hpp,Z1 _,Z1 _,trivial⟩ rfl ?_
 refine gd 22 ⟨?_⟩
 refine Z6 hno rfl rfl rfl ⟨Z9 Zk _,Z1 _,Z1 _,trivial⟩ rfl ?_
 refine Z8 (v:=((2-someT d.no x y:Nat):Int)) rfl rfl rfl (by
  rw [show (2:Int)-((someT d.no x y:Nat):Int)=((2-someT d.no x y:Nat):Int) by omega]
  exact IntWalk.u8_in _ ⟨by omega,by omega⟩) ?_
 refine gd 25 ⟨?_⟩
 cases hm:d.mu
 · refine Z0 (Z4 (v := false) rfl hm) rfl rfl ?_
   rw [hm] at hv
   rw [hv]
   refine go ?_
   exact Z5 rfl trivial rfl
 · refine Z0 (Z4 (v := true) rfl hm) rfl rfl ?_
   rw [hm] at hv
   refine gd 31 ⟨?_⟩
   refine Z6 hso rfl rfl rfl ⟨Z9 Zk _,Z1 _,Z1 _,trivial⟩ rfl ?_
   refine Z8 (v:=((valT (clo t.l) d lo hi:Nat):Int)) rfl rfl rfl (by rw [hv,if_pos rfl]; split<;>omega) ?_
   refine go ?_
   exact Z5 rfl trivial rfl
end Go.Proofs.YtmnbbggaoembeaaGreatDoor
namespace Go.Proofs.YtmnbbggaoembeaaGreatDoor
open Go.RowKit
section
variable {P:Program} {C:Ctx} {Fr:Nat→Prop} {e:Env} {h:Heap} {n:Nat} {F:Froz} {φ:Locs} {a:Act} {w:World}
theorem Zdp {φ':Locs} {v:Value} {i i':Nat} (hi:φ i=φ' i') (hr:Rep F φ v (.own i)):Rep F φ' v (.own i'):=Z69 F φ φ' v i i' hi hr
theorem ZbR {F:Froz} {φ φ':Locs} {vs:Array Value} {pre post:List PV} {p p':PV} (hpre:pureL pre) (hpost:pureL post) (hp:∀ v,Rep F φ v p→Rep F φ' v p') (hv:RepL F φ vs (pre++p :: post)):RepL F φ' vs (pre++p' :: post):=by
 refine⟨by rw [hv.1]; simp,fun i hi=>?_⟩
 have hr:=hv.2 i (by simp at hi ⊢; exact hi)
 by_cases h1:i<pre.length
 · have e1 : (pre ++ p :: post).getD i pvu = pre.getD i pvu := by simp [List.getD_eq_getElem?_getD, List.getElem?_append_left h1]
   have e2:(pre++p' :: post).getD i pvu=pre.getD i pvu:=by simp [List.getD_eq_getElem?_getD,List.getElem?_append_left h1]
   rw [e1] at hr; rw [e2]
   exact hr.pure (ZF hpre i)
 · have e1 : (pre ++ p :: post).getD i pvu = (p :: post).getD (i - pre.length) pvu := by simp [List.getD_eq_getElem?_getD, List.getElem?_append_right (Nat.le_of_not_lt h1)]
   have e2:(pre++p' :: post).getD i pvu=(p' :: post).getD (i-pre.length) pvu:=by simp [List.getD_eq_getElem?_getD,List.getElem?_append_right (Nat.le_of_not_lt h1)]
   rw [e1] at hr; rw [e2]
   match hk:i-pre.length,hr with
   | 0,hr=>exact hp _ hr
   | k+1,hr=>exact Rep.pure (p:=post.getD k pvu) hr (ZF hpost k)
end
end Go.Proofs.YtmnbbggaoembeaaGreatDoor
namespace Go.Proofs.YtmnbbggaoembeaaGreatDoor
open Go.RowKit
attribute [local irreducible] aw opsK dK
section
variable {P:Program} {e:Env} {h:Heap} {n:Nat}
theorem ZeU {k:Nat} {p q:PV} (hk:e k=some p) (hr:RenP (fun i=>i) (fun _=>False) p q):SubA n e h n (e.upd k q) h:=by
 rintro C a w ⟨F,φ,s⟩
 refine⟨F,φ,{ s with env:=fun j r hq=>?_ }⟩
 by_cases hj:j=k
 · subst hj
   rw [Env.upd_same] at hq
   cases hq
   exact⟨(s.env j p hk).1,hr.rep (fun i x hd _=>hd.elim) (s.env j p hk).2⟩
 · rw [Env.upd_ne _ _ hj] at hq
   exact s.env j r hq
end
theorem Z9M (l:List Int) (N:Nat) (h:maskTo (topOf l) l=N) (fl:Bool):Spec Tryz.prog 17 [.vec (nums l) fl] (· = setN N):=h▸Z9a l fl
theorem Z3f:Small ([]:List Pr):=fun p hp=>by cases hp
theorem Zdq {a b:Nat} (h:Up [] a b):False:=by
 cases h with
 | one h=>cases h
 | more _ h=>cases h
theorem ZfV {s m:Nat} (hs:s ||| mkN m=mkN m) (hm:m≤63):clo [] s=s:=by
 have hlt:s<18446744073709551616:=by
  have h1:s≤mkN m:=by rw [← hs]; exact Nat.left_le_or
  have:=Z6x hm
  omega
 refine Nat.eq_of_testBit_eq fun i=>?_
 rw [Bool.eq_iff_iff,ZfJ Z3f hlt]
 constructor
 · rintro ⟨a, h1, h2, h3⟩
   rcases (Z4B Z3f i a).1 h3 with h4|rfl
   · exact (Zdq h4).elim
   · exact h1
 · intro h1
   have h2:=orSub.1 hs i h1
   rw [Z4A,Bool.and_eq_true,decide_eq_true_eq] at h2
   exact⟨i,h1,h2.1,(Z4B Z3f i i).2 (.inr rfl)⟩
def rsE:List RU := [⟨false,(0,0),1,0⟩,⟨false,(2,0),2,0⟩,⟨true,(0,0),1,0⟩]
def tE (nv:List Cu):PB:=⟨3,[],0,rsE,nv,[(4,2)]⟩
def t0:PB:=tE []
def t1:PB:=tE [(6,0)]
theorem ZfW (r:Nat):sen [] r=2 ^ r:=Nat.eq_of_testBit_eq fun a=>by
 rw [Bool.eq_iff_iff,Z4B Z3f,Nat.testBit_two_pow,decide_eq_true_eq]
 exact⟨fun h=>h.elim (fun h=>(Zdq h).elim) Eq.symm,fun h=>.inr h.symm⟩
def leastN (s:Nat):Nat:=((List.range 64).find? fun i=>s.testBit i).getD 0
theorem Z6D {s:Nat} (hs:s<18446744073709551616) (h:s≠0):s.testBit (leastN s)=true∧∀ i,i<leastN s→s.testBit i=false:=by
 obtain⟨i,hi⟩:=Nat.exists_testBit_of_ne_zero h
 have hi64:=Z5r hs hi
 unfold leastN
 cases hf:(List.range 64).find? fun i=>s.testBit i with
 | none=>exact absurd hi (List.find?_eq_none.1 hf i (List.mem_range.2 hi64))
 | some k =>
   refine⟨List.find?_some hf,fun j hj=>?_⟩
   have hj:j<k:=hj
   have hk:=List.mem_range.1 (List.mem_of_find?_eq_some hf)
   obtain⟨h1,aa,bs,hab,hno⟩:=List.find?_eq_some_iff_append.1 hf
   have hlen:aa.length=k:=by
    have h2:(List.range 64)[aa.length]?=some k:=by rw [hab]; simp
    have h3:aa.length<64:=by
     have:(List.range 64).length=aa.length+(1+bs.length):=by rw [hab]; simp; omega
     simp at this
     omega
    rw [List.getElem?_range h3] at h2
    exact Option.some.inj h2
   have hja:j∈aa:=by
    have h2:(List.range 64)[j]?=some j:=List.getElem?_range (by omega)
    rw [hab,List.getElem?_append_left (by omega)] at h2
    exact List.mem_of_getElem? h2
   have:=hno j hja
   simpa using this
theorem Z8p (s:Nat):leastN s<64:=by
 unfold leastN
 cases hf:(List.range 64).find? fun i=>s.testBit i with
 | none=>exact Nat.zero_lt_succ _
 | some k=>exact List.mem_range.1 (List.mem_of_find?_eq_some hf)
theorem ZeV {x:Nat} (hx:x<18446744073709551616) (h:x≠0):tz x=leastN x:=by
 obtain⟨m,hm⟩:=Z44 h
 obtain⟨h1,h2⟩:=Z6D hx h
 have hb:∀ j,x.testBit j=(decide (tz x≤j)&&(2*m+1).testBit (j-tz x)):=fun j=>by
  conv=>lhs; rw [hm]
  rw [Nat.testBit_two_pow_mul]
 rcases Nat.lt_trichotomy (tz x) (leastN x) with h3|h3|h3
 · have := h2 _ h3
   rw [hb,Nat.sub_self] at this
   simp at this
 · exact h3
 · rw [hb, decide_eq_false (by omega)] at h1
   cases h1
set_option maxHeartbeats 2000000 in
theorem Z9N (N:Nat) (hN:N<18446744073709551616):Spec Tryz.prog 185 [setN N] (· = .tup [.val (.int .i64 ((if N=0 then 0 else leastN N:Nat):Int)),.val (.bool (decide (N≠0)))]):=by
 refine Z2 ok185 (Nat.le_of_ble_eq_true rfl) fun C hC=>?_
 by_cases h0:N=0
 · rw [if_pos h0, decide_eq_false (fun h => h h0)]
   have hs:setN N=.agg [.vec [] false]:=by rw [h0]; exact ZaC
   rw [hs]
   refine gd 1 ⟨?_⟩
   refine Z3 rfl rfl rfl ?_
   refine go ?_
   refine Zl hC (fun _:Unit=>True) (fun _=>0) 0 (fun _ => [(8,.val (.int .i64 0)),(9,.val (.int .i64 0))]) (fun _=>[]) (Nat.zero_le _) () trivial ⟨⟨rfl,trivial⟩,⟨rfl,trivial⟩,trivial⟩ trivial ?_
   intro _ _
   refine go ?_
   exact Z5 rfl ⟨trivial,trivial,trivial⟩ rfl
 · rw [if_neg h0, decide_eq_true h0]
   have hs:setN N=.agg [.vec [[.val (.int .u64 (N:Int))]] false]:=by unfold setN; rw [Z56 hN h0]; rfl
   have htz:=ZcJ N hN h0
   rw [ZeV hN h0] at htz
   have hlo:=Z8p N
   rw [hs]
   refine gd 1 ⟨?_⟩
   refine Z3 rfl rfl rfl ?_
   refine go ?_
   refine Zl hC (fun _:Unit=>True) (fun _=>0) 0 (fun _ => [(7,.vec [[.val (.int .u64 (N:Int))]] false),(8,.val (.int .i64 1)),(9,.val (.int .i64 0))]) (fun _=>[]) (Nat.zero_le _) () trivial ⟨⟨rfl,⟨trivial,trivial⟩,trivial⟩,⟨rfl,trivial⟩,⟨rfl,trivial⟩,trivial⟩ trivial ?_
   intro _ _
   refine gd 15 ⟨?_⟩
   refine Z0 (Z4 (v:=true) rfl (bne_iff_ne.2 (by omega))) rfl rfl ?_
   refine gd 19 ⟨?_⟩
   refine Z6 htz rfl rfl rfl ⟨trivial,trivial⟩ rfl ?_
   refine Z8 (v:=((leastN N:Nat):Int)) rfl rfl rfl (by
    rw [show IntKind.i64.wrap ((64:Int)*0)=0 by decide,Int.zero_add]
    exact IntWalk.i64_in _ ⟨by omega,by omega⟩) ?_
   refine go ?_
   exact Z5 rfl ⟨trivial,trivial,trivial⟩ rfl
def mOf (d:ND):Nat:=mentC d.so ||| mentC d.no
def relS (sn:Nat→Nat) (d:ND) (o:Nat) (l:List Nat):Nat:=l.foldl (fun o r=>if d.cl then o ||| sn r else o) o
def relT (sn:Nat→Nat) (ds:List ND):Nat:=ds.foldl (fun o d=>relS sn d (o ||| mOf d) (mem (mOf d))) 0
theorem Z9O {sn:Nat→Nat} (hsn:∀ r,r<64→sn r<18446744073709551616) (d:ND):∀ (l:List Nat) (o:Nat),(∀ r∈l,r<64)→o<18446744073709551616→relS sn d o l<18446744073709551616
 | [],o,_,h=>h
 | r :: l, o, hl, h => by
   refine Z9O hsn d l _ (fun r hr=>hl r (List.mem_cons_of_mem _ hr)) ?_
   show (if d.cl then o ||| sn r else o)<_
   split
   · exact Z2x h (hsn r (hl r (List.mem_cons_self ..)))
   · exact h
theorem Zdr {sn:Nat→Nat} {ds:List ND} {i:Nat} (hi:i<ds.length):relT sn (ds.take (i+1))=relS sn ds[i] (relT sn (ds.take i) ||| mOf ds[i]) (mem (mOf ds[i])):=by
 unfold relT
 rw [List.take_succ_eq_append_getElem hi,List.foldl_append]
 rfl
structure NdZ (d:ND):Prop extends NdOk d where
 z:(mOf d).testBit 0=false
theorem Zfj {d:ND} (h:NdOk d):mOf d<18446744073709551616:=Z2x (Z3u h.so) (Z3u h.no)
theorem Z9P {sn:Nat→Nat} (hsn:∀ r,r<64→sn r<18446744073709551616):∀ (ds:List ND) (o:Nat),(∀ d∈ds,NdOk d)→o<18446744073709551616→ds.foldl (fun o d=>relS sn d (o ||| mOf d) (mem (mOf d))) o<18446744073709551616
 | [],o,_,h=>h
 | d :: ds,o,hd,h=>Z9P hsn ds _ (fun d hd'=>hd d (List.mem_cons_of_mem _ hd')) (Z9O hsn d _ _ (fun r hr=>Z5s hr) (Z2x h (Zfj (hd d (List.mem_cons_self ..)))))
set_option maxRecDepth 100000 in
set_option maxHeartbeats 8000000 in
theorem Z7A (t:PB) (hsm:Small t.l) (S:List Nat) (ds:List ND) (fl:Bool) (hds:∀ d∈ds,NdZ d) (hdl:ds.length<900000):Spec Tryz.prog 160 [.agg (pbP t S),.vec (ds.map ndP) fl] (· = setN (relT (sen t.l) ds)):=by
 refine Z2 ok160 (Nat.le_of_ble_eq_true rfl) fun C hC=>?_
 have hpp:=Zx t S
 have hml:(ds.map ndP).length=ds.length:=List.length_map ..
 have hdp:pureLL (ds.map ndP):=Z9 Z2a ds
 have hsn:∀ r,r<64→sen t.l r<18446744073709551616:=fun r hr=>Zff t.l hsm hr
 refine gd 2 ⟨?_⟩
 refine Z3 rfl rfl rfl ?_
 refine go ?_
 refine Z1d hC (fun i=>i≤ds.length) (fun i=>ds.length-i) 2 (fun i => [(2,.cp (pbP t S)),(4,.ptr 0 0 0),(5,.ptr 1 0 0),(10,.vec (ds.map ndP) fl),(11,.val (.int .i64 (ds.length:Int))),(12,.val (.int .i64 (i:Int)))]) (fun i => [(0,⟨1,[[.vec [] true]]⟩),(1,sBx (relT (sen t.l) (ds.take i)))]) (by decide) 0 (Nat.zero_le _)
  (fun i=>i) (fun _ _=>rfl) (ZR rfl) ⟨⟨_,rfl,.pure _ hpp⟩,⟨_,rfl,.ptr 0 0 0 (by decide)⟩,⟨_,rfl,.ptr 1 0 0 (by decide)⟩,⟨_,rfl,.pure _ hdp⟩,⟨_,by rw [← hml]; rfl,.pure _ trivial⟩,⟨_,rfl,.pure _ trivial⟩,trivial⟩
  ⟨⟨by decide,_,rfl,.same _ ⟨⟨trivial,trivial⟩,trivial⟩⟩,⟨by decide,⟨1,[[.vec [] true]]⟩,rfl,by rw [show relT (sen t.l) (ds.take 0)=0 from rfl]; show RenB _ _ _ ⟨1,[[.vec (words (digs 0)) false]]⟩; rw [ZG]; exact RenB.single (ρ:=fun i=>i) (l0 := [.vec [] true]) (l := [.vec [] false]) (show RenLs _ _ [_] [_] from ⟨.low (.vec [] true) trivial,trivial⟩) rfl⟩,trivial⟩ ?_
 intro i hi
 have hinc:IntKind.i64.wrap ((i:Int)+1)=((i+1:Nat):Int):=IntWalk.i64_in _ ⟨by omega,by omega⟩
 have hrl:relT (sen t.l) (ds.take i)<18446744073709551616:=Z9P hsn _ 0 (fun d hd=>(hds d (List.mem_of_mem_take hd)).toNdOk) (by decide)
 refine gd 13 ⟨?_⟩
 by_cases hil:i<ds.length
 · refine Z0 (Z4 (v := true) rfl (decide_eq_true (by omega))) rfl rfl ?_
   have hd:=hds ds[i] (List.getElem_mem hil)
   have hst:=Zdr (sn:=sen t.l) hil
   refine gd 14 ⟨?_⟩
   refine Z0 (Zo (xs:=ds) (g:=ndP) rfl rfl i rfl hil rfl) rfl rfl ?_
   generalize ds[i]=d at hd hst
   have hmo:=Zfj hd.toNdOk
   generalize relT (sen t.l) (ds.take i)=o at hrl hst
   have hom:=Z2x hrl hmo
   refine gd 18 ⟨?_⟩
   refine Zr (Z2h d.so d.sf hd.so) rfl rfl rfl ⟨Z9 Zk _,trivial⟩ ?_
   refine gd 21 ⟨?_⟩
   refine Zr (Z2h d.no d.nf hd.no) rfl rfl rfl ⟨Z9 Zk _,trivial⟩ ?_
   refine Zr (Z1Q _ _ (Z3u hd.so) (Z3u hd.no)) rfl rfl rfl ⟨Z1 _,Z1 _,trivial⟩ ?_
   change dK _ _ _ _ (updO _ _ (setN (mOf d))) _ _
   have hzz:=hd.z
   generalize hMM:mOf d=M at hmo hst hom hzz
   refine gd 25 ⟨?_⟩
   refine Z6 (Z1Q o M hrl hmo) rfl rfl rfl ⟨Z1 _,Z1 _,trivial⟩ rfl ?_
   refine gd 27 ⟨?_⟩
   refine Z6 (Z4x M) rfl rfl rfl ⟨Z1 _,trivial⟩ rfl ?_
   refine go ?_
   have hnp:=Z2a d
   have hni:∀ D,innL D (ndP d):=fun D=>Zm (fun _ h=>h.elim) _ hnp
   have hpi:∀ D,innL D (pbP t S):=fun D=>Zm (fun _ h=>h.elim) _ hpp
   have hdi:∀ D,innLL D (ds.map ndP):=fun D=>Za (fun _ h=>h.elim) _ hdp
   have hpos:∀ r∈mem M,1≤r∧r<64:=fun r hr=>⟨by
    rcases Nat.eq_zero_or_pos r with h|h
    · rw [h,Z38 hmo] at hr; rw [hr] at hzz; cases hzz
    · exact h,Z5s hr⟩
   refine Z75 (X:=List Nat) hC (caps := [.cp [.vec (words (digs M)) false]]) [(2,.cp (pbP t S)),(4,.ptr 0 0 0),(5,.ptr 1 0 0),(7,.ptr 2 0 0),(10,.vec (ds.map ndP) fl),(11,.val (.int .i64 (ds.length:Int))),(12,.val (.int .i64 (i:Int))),(27,.fn 128 [.cp [.vec (words (digs M)) false]])]
    (fun z => [(0,⟨1,[[.vec [] true]]⟩),(1,sBx (relS (sen t.l) d (o ||| M) z)),(2,⟨6,[ndP d]⟩)]) rfl ⟨⟨Ze _,trivial⟩,trivial⟩ (Z77 M hmo) (fun _=>rfl)
    (fun ex pre z=>ex=.normal∧z=pre.map (·.val)) 3 (by decide) [] ⟨rfl,rfl⟩
    (Z3V hC (by decide) ⟨⟨rfl,hpi _⟩,⟨rfl,show 0<3 by decide⟩,⟨rfl,show 1<3 by decide⟩,⟨rfl,show 2<3 by decide⟩,⟨rfl,hdi _⟩,⟨rfl,trivial⟩,⟨rfl,trivial⟩,⟨rfl,⟨ZH _ _,trivial⟩,trivial⟩,trivial⟩ ⟨⟨by decide,rfl,⟨⟨trivial,trivial⟩,trivial⟩⟩,⟨by decide,rfl,Z2i _ _⟩,⟨by decide,rfl,hni _,trivial⟩,trivial⟩)
    (fun z q hq=>by simp at hq; rcases hq with rfl|rfl|rfl<;>exact Nat.zero_lt_succ _) _ (fun x=>rfl) ?_ ?_ ?_
   · rintro C2 hC2 pre x z ⟨-, rfl⟩ hlen
     have hx:=hpos x.val x.2
     have hstp:relS (sen t.l) d (o ||| M) (pre.map (·.val) ++ [x.val])=if d.cl then relS (sen t.l) d (o ||| M) (pre.map (·.val)) ||| sen t.l x.val else relS (sen t.l) d (o ||| M) (pre.map (·.val)):=by unfold relS; rw [List.foldl_append]; rfl
     have hz:=Z9O hsn d (pre.map (·.val)) _ (fun r hr=>by obtain⟨y,_,rfl⟩:=List.mem_map.1 hr; exact (hpos _ y.2).2) hom
     refine gd 30 ⟨?_⟩
     cases hcl:d.cl
     · rw [hcl, if_neg (by decide)] at hstp
       refine Z0 (Z4 (v:=false) rfl hcl) rfl rfl ?_
       refine go ?_
       exact⟨.inl rfl,pre.map (·.val) ++ [x.val],fun i=>i,⟨rfl,by rw [List.map_append]; rfl⟩,fun i hi=>rfl,Z14,
        ⟨⟨_,rfl,.pure _ hpp⟩,⟨_,rfl,.ptr (ρ:=fun i=>i) 0 0 0 (by decide)⟩,⟨_,rfl,.ptr (ρ:=fun i=>i) 1 0 0 (by decide)⟩,⟨_,rfl,.ptr (ρ:=fun i=>i) 2 0 0 (by decide)⟩,⟨_,rfl,.pure _ hdp⟩,⟨_,rfl,.pure _ trivial⟩,⟨_,rfl,.pure _ trivial⟩,⟨_,rfl,.pure _ ⟨⟨Ze _,trivial⟩,trivial⟩⟩,trivial⟩,
        ⟨⟨by decide,_,rfl,.same _ ⟨⟨trivial,trivial⟩,trivial⟩⟩,⟨by decide,_,rfl,by rw [hstp]; exact .same _ ⟨⟨Ze _,trivial⟩,trivial⟩⟩,⟨by decide,_,rfl,.same _ ⟨hnp,trivial⟩⟩,trivial⟩⟩
     · rw [hcl, if_pos rfl] at hstp
       refine Z0 (Z4 (v:=true) rfl hcl) rfl rfl ?_
       refine gd 35 ⟨?_⟩
       refine Zr (Z8d t.l S x.val hx.1 hx.2) rfl rfl rfl ⟨Zq _ _,trivial,trivial⟩ ?_
       refine Zr (Z1Q _ _ hz (hsn _ hx.2)) rfl rfl rfl ⟨Z1 _,Z1 _,trivial⟩ ?_
       rw [← hstp]
       refine go ?_
       exact⟨.inl rfl,pre.map (·.val) ++ [x.val],fun i=>i,⟨rfl,by rw [List.map_append]; rfl⟩,fun i hi=>rfl,Z14,
        ⟨⟨_,rfl,.pure _ hpp⟩,⟨_,rfl,.ptr (ρ:=fun i=>i) 0 0 0 (by decide)⟩,⟨_,rfl,.ptr (ρ:=fun i=>i) 1 0 0 (by decide)⟩,⟨_,rfl,.ptr (ρ:=fun i=>i) 2 0 0 (by decide)⟩,⟨_,rfl,.pure _ hdp⟩,⟨_,rfl,.pure _ trivial⟩,⟨_,rfl,.pure _ trivial⟩,⟨_,rfl,.pure _ ⟨⟨Ze _,trivial⟩,trivial⟩⟩,trivial⟩,
        ⟨⟨by decide,_,rfl,.same _ ⟨⟨trivial,trivial⟩,trivial⟩⟩,⟨by decide,_,rfl,.same _ ⟨⟨Ze _,trivial⟩,trivial⟩⟩,⟨by decide,_,rfl,.same _ ⟨hnp,trivial⟩⟩,trivial⟩⟩
   · rintro xs z hxs ⟨-, rfl⟩
     rw [hxs]
     refine go ?_
     exact⟨i+1,fun i=>i,by omega,by omega,fun _ _=>rfl,Z14,⟨⟨_,rfl,.pure _ hpp⟩,⟨_,rfl,.ptr (ρ:=fun i=>i) 0 0 0 (by decide)⟩,⟨_,rfl,.ptr (ρ:=fun i=>i) 1 0 0 (by decide)⟩,⟨_,rfl,.pure _ hdp⟩,⟨_,rfl,.pure _ trivial⟩,⟨_,by show some _=some _; rw [hinc],.pure _ trivial⟩,trivial⟩,
      ⟨⟨by decide,_,rfl,.same _ ⟨⟨trivial,trivial⟩,trivial⟩⟩,⟨by decide,_,rfl,by rw [hst]; exact .same _ ⟨⟨Ze _,trivial⟩,trivial⟩⟩,trivial⟩⟩
   · rintro ex pre z - ⟨rfl,_⟩ (h|⟨id,h⟩)<;>cases h
 · obtain rfl : i = ds.length := by omega
   refine Z0 (Z4 (v:=false) rfl (decide_eq_false (by omega))) rfl rfl ?_
   rw [List.take_length]
   refine go ?_
   exact Z5 rfl (Z1 _) rfl
def minT (cl:Nat→Nat) (ds:List ND) (lo hi:Nat):Nat:=ds.foldl (fun a d=>min a (valT cl d lo hi)) 2
theorem Zds {cl:Nat→Nat} {ds:List ND} {i:Nat} (hi:i<ds.length) (lo hh:Nat):minT cl (ds.take (i+1)) lo hh=min (minT cl (ds.take i) lo hh) (valT cl ds[i] lo hh):=by
 unfold minT
 rw [List.take_succ_eq_append_getElem hi,List.foldl_append]
 rfl
theorem Z4T (cl:Nat→Nat) (lo hi:Nat):∀ (ds:List ND) (a:Nat),a≤2→ds.foldl (fun a d=>min a (valT cl d lo hi)) a≤2
 | [],a,h=>h
 | d :: ds,a,h=>Z4T cl lo hi ds _ (Nat.le_trans (Nat.min_le_left ..) h)
theorem ZfX (cl:Nat→Nat) (ds:List ND) (lo hi:Nat):minT cl ds lo hi≤2:=Z4T cl lo hi ds 2 (Nat.le_refl _)
def tryT (cl:Nat→Nat) (ds:List ND):Nat→Nat→Nat→Option Nat
 | 0,_,_=>none
 | f + 1, left, s =>
   if minT cl ds s (s ||| left)=2 then some s else if minT cl ds s (s ||| left)=0 then none else if left=0 then none else
    match tryT cl ds f (minusN left (2 ^ leastN left)) s with
    | some o=>some o
    | none=>tryT cl ds f (minusN left (2 ^ leastN left)) (s ||| 2 ^ leastN left)
def resO:Option Nat→PV
 | some o=>.tup [setN o,.val (.bool true)]
 | none=>.tup [setN 0,.val (.bool false)]
theorem Z23:PV.tup [.agg [.vec [] false],.val (.bool false)]=resO none:=by
 show _=PV.tup [setN 0,.val (.bool false)]
 rw [ZaC]
def SetQ (q:PV) (s:Nat):Prop:=q=setN s ∨ (s=0∧q=.agg [.vec [] true])
theorem SetQ.ren {q:PV} {s:Nat} (h:SetQ q s):RenP (fun i=>i) (fun _=>False) q (setN s):=by
 rcases h with rfl|⟨rfl,rfl⟩
 · exact .pure _ (Z1 _)
 · rw [ZaC]; exact .low (.agg [.vec [] true]) ⟨trivial,trivial⟩
def TryOk (t:PB) (S:List Nat) (ds:List ND) (fl:Bool) (f:Nat):Prop:=∀ (left s:Nat) (q:PV),SetQ q s→left<18446744073709551616→s<18446744073709551616→(∀ i,left.testBit i=true→64≤i+f)→Spec Tryz.prog 159 [.agg (pbP t S),.vec (ds.map ndP) fl,setN left,q] (· = resO (tryT (clo t.l) ds (f+1) left s))
set_option maxRecDepth 100000 in
set_option maxHeartbeats 16000000 in
theorem ZaH (t:PB) (S:List Nat) (ds:List ND) (fl:Bool) (hds:∀ d∈ds,NdOk d) (hdl:ds.length<900000) (f:Nat) (ih:∀ f',f=f'+1→TryOk t S ds fl f'):TryOk t S ds fl f:=by
 intro left s q hq hl hs hf
 have hT:tryT (clo t.l) ds (f+1) left s=if minT (clo t.l) ds s (s ||| left)=2 then some s else if minT (clo t.l) ds s (s ||| left)=0 then none else if left=0 then none else
  match tryT (clo t.l) ds f (minusN left (2 ^ leastN left)) s with
  | some o=>some o
  | none=>tryT (clo t.l) ds f (minusN left (2 ^ leastN left)) (s ||| 2 ^ leastN left):=rfl
 have hpp:=Zx t S
 have hdp:pureLL (ds.map ndP):=Z9 Z2a ds
 have hml:(ds.map ndP).length=ds.length:=List.length_map ..
 have hpi:∀ D,innL D (pbP t S):=fun D=>Zm (fun _ h=>h.elim) _ hpp
 have hdi:∀ D,innLL D (ds.map ndP):=fun D=>Za (fun _ h=>h.elim) _ hdp
 have hor:=Z2x hs hl
 have hmin:=ZfX (clo t.l) ds s (s ||| left)
 refine Z2 ok159 (Nat.le_of_ble_eq_true rfl) fun C hC=>?_
 refine Z1U (ZeU (k:=3) rfl hq.ren _) ?_
 refine gd 4 ⟨?_⟩
 refine Z3 rfl rfl rfl ?_
 refine Z3 rfl rfl rfl ?_
 refine Z3 rfl rfl rfl ?_
 refine go ?_
 refine Zl hC (fun i=>i≤ds.length) (fun i=>ds.length-i) 1 (fun i => [(1,.vec (ds.map ndP) fl),(4,.cp (pbP t S)),(6,.cp [.vec (words (digs left)) false]),(7,.cp [.vec (words (digs s)) false]),(8,.ptr 0 0 0),(10,.val (.int .u8 ((minT (clo t.l) (ds.take i) s (s ||| left):Nat):Int))),(17,.vec (ds.map ndP) fl),(18,.val (.int .i64 (ds.length:Int))),(19,.val (.int .i64 (i:Int)))]) (fun _ => [(0,⟨1,[[.vec [] true]]⟩)]) (by decide) 0 (Nat.zero_le _)
  ⟨⟨rfl,hdi _⟩,⟨rfl,hpi _⟩,⟨rfl,ZH _ _,trivial⟩,⟨rfl,ZH _ _,trivial⟩,⟨rfl,show 0<1 by decide⟩,⟨rfl,trivial⟩,⟨rfl,hdi _⟩,⟨by rw [← hml]; rfl,trivial⟩,⟨rfl,trivial⟩,trivial⟩ ⟨⟨by decide,rfl,⟨⟨trivial,trivial⟩,trivial⟩⟩,trivial⟩ ?_
 intro i hi
 have hinc:IntKind.i64.wrap ((i:Int)+1)=((i+1:Nat):Int):=IntWalk.i64_in _ ⟨by omega,by omega⟩
 refine gd 20 ⟨?_⟩
 by_cases hil:i<ds.length
 · refine Z0 (Z4 (v := true) rfl (decide_eq_true (by omega))) rfl rfl ?_
   have hd:=hds ds[i] (List.getElem_mem hil)
   have hst:=Zds (cl:=clo t.l) hil s (s ||| left)
   refine gd 21 ⟨?_⟩
   refine Z0 (Zo (xs:=ds) (g:=ndP) rfl rfl i rfl hil rfl) rfl rfl ?_
   generalize ds[i]=d at hd hst
   refine gd 29 ⟨?_⟩
   refine Zr (Z1Q s left hs hl) rfl rfl rfl ⟨Z1 _,Z1 _,trivial⟩ ?_
   refine Zr (Z9L d hd t S s (s ||| left) hs hor) rfl rfl rfl ⟨Z2a d,hpp,Z1 _,Z1 _,trivial⟩ ?_
   refine Zd (ZP (v:=((minT (clo t.l) (ds.take (i+1)) s (s ||| left):Nat):Int)) rfl (by rw [hst]; split<;>omega)) rfl rfl ?_
   refine go ?_
   exact⟨i+1,by omega,by omega,⟨⟨rfl,hdi _⟩,⟨rfl,hpi _⟩,⟨rfl,ZH _ _,trivial⟩,⟨rfl,ZH _ _,trivial⟩,⟨rfl,show 0<1 by decide⟩,⟨rfl,trivial⟩,⟨rfl,hdi _⟩,⟨rfl,trivial⟩,⟨by show some _=some _; rw [hinc],trivial⟩,trivial⟩,⟨⟨by decide,rfl,⟨⟨trivial,trivial⟩,trivial⟩⟩,trivial⟩⟩
 · obtain rfl : i = ds.length := by omega
   refine Z0 (Z4 (v:=false) rfl (decide_eq_false (by omega))) rfl rfl ?_
   rw [List.take_length]
   generalize minT (clo t.l) ds s (s ||| left)=a at hmin hT
   refine gd 34 ⟨?_⟩
   by_cases ha2:a=2
   · rw [if_pos ha2] at hT
     rw [hT]
     refine Z0 (Z4 (v:=true) rfl (decide_eq_true (by rw [ha2]; rfl))) rfl rfl ?_
     refine go ?_
     exact Z5 rfl ⟨Z1 _,trivial,trivial⟩ rfl
   rw [if_neg ha2] at hT
   refine Z0 (Z4 (v:=false) rfl (decide_eq_false (by omega))) rfl rfl ?_
   refine gd 37 ⟨?_⟩
   by_cases ha0:a=0
   · rw [if_pos ha0] at hT
     rw [hT]
     refine Z0 (Z4 (v:=true) rfl (decide_eq_true (by rw [ha0]; rfl))) rfl rfl ?_
     refine go ?_
     exact ZV (r:=.tup [.agg [.vec [] true],.val (.bool false)]) rfl ⟨⟨trivial,trivial⟩,trivial,trivial⟩ Z23
   rw [if_neg ha0] at hT
   refine Z0 (Z4 (v:=false) rfl (decide_eq_false (by omega))) rfl rfl ?_
   refine gd 41 ⟨?_⟩
   refine Z6 (Z9N left hl) rfl rfl rfl ⟨Z1 _,trivial⟩ rfl ?_
   by_cases hl0:left=0
   · rw [if_pos hl0] at hT
     rw [hT,decide_eq_false (fun h=>h hl0)]
     refine go ?_
     exact ZV (r:=.tup [.agg [.vec [] true],.val (.bool false)]) rfl ⟨⟨trivial,trivial⟩,trivial,trivial⟩ Z23
   rw [if_neg hl0] at hT
   rw [if_neg hl0,decide_eq_true hl0]
   have hlb:=Z6D hl hl0
   have hl64:=Z8p left
   have hf1:=hf _ hlb.1
   obtain⟨f',rfl⟩:∃ f',f=f'+1:=⟨f-1,by omega⟩
   have hm:=Z6C left (2 ^ leastN left)
   have hbits:∀ i,(minusN left (2 ^ leastN left)).testBit i=true→64≤i+f':=fun i hi=>by
    rw [ZK hl (ZL hl64),Nat.testBit_two_pow] at hi
    simp only [Bool.and_eq_true,Bool.not_eq_true',decide_eq_false_iff_not] at hi
    have h1:leastN left<i:=by
     rcases Nat.lt_trichotomy i (leastN left) with h|h|h
     · rw [hlb.2 i h] at hi; cases hi.1
     · exact absurd h.symm hi.2
     · exact h
    omega
   have hwo:=Z16 left hl (leastN left:Int)
   rw [Z1E hl hl64] at hwo
   have hml':minusN left (2 ^ leastN left)<18446744073709551616:=by omega
   have ih1:=ih f' rfl _ s (setN s) (.inl rfl) hml' hs hbits
   have hw:=Z2G s hs (leastN left) hl64
   have hsw:=Z2x hs (ZL hl64)
   have ih2:=ih f' rfl _ (s ||| 2 ^ leastN left) (setN (s ||| 2 ^ leastN left)) (.inl rfl) hml' hsw hbits
   generalize minusN left (2 ^ leastN left)=left' at hwo ih1 ih2 hT hml'
   refine gd 52 ⟨?_⟩
   refine Zr hwo rfl rfl rfl ⟨Z1 _,trivial,trivial⟩ ?_
   refine gd 54 ⟨?_⟩
   refine Zr ih1 rfl rfl rfl ⟨hpp,hdp,Z1 _,Z1 _,trivial⟩ ?_
   cases h1:tryT (clo t.l) ds (f'+1) left' s with
   | some o =>
     rw [h1] at hT
     rw [hT]
     show dK _ _ _ _ (updO _ _ (.tup [setN o,.val (.bool true)])) _ _
     refine go ?_
     exact Z5 rfl ⟨Z1 _,trivial,trivial⟩ rfl
   | none =>
     rw [h1] at hT
     rw [hT]
     show dK _ _ _ _ (updO _ _ (.tup [setN 0,.val (.bool false)])) _ _
     refine gd 63 ⟨?_⟩
     refine Zr hwo rfl rfl rfl ⟨Z1 _,trivial,trivial⟩ ?_
     refine gd 66 ⟨?_⟩
     refine Zr hw rfl rfl rfl ⟨Z1 _,trivial,trivial⟩ ?_
     refine Zr ih2 rfl rfl rfl ⟨hpp,hdp,Z1 _,Z1 _,trivial⟩ ?_
     cases h2:tryT (clo t.l) ds (f'+1) left' (s ||| 2 ^ leastN left) with
     | some o =>
       show dK _ _ _ _ (updO _ _ (.tup [setN o,.val (.bool true)])) _ _
       refine go ?_
       exact Z5 rfl ⟨Z1 _,trivial,trivial⟩ rfl
     | none =>
       show dK _ _ _ _ (updO _ _ (.tup [setN 0,.val (.bool false)])) _ _
       refine go ?_
       exact Z5 rfl ⟨Z1 _,trivial,trivial⟩ rfl
theorem ZaI (t:PB) (S:List Nat) (ds:List ND) (fl:Bool) (hds:∀ d∈ds,NdOk d) (hdl:ds.length<900000):∀ f,TryOk t S ds fl f
 | 0=>ZaH t S ds fl hds hdl 0 fun f' h=>by omega
 | f + 1 => ZaH t S ds fl hds hdl (f + 1) fun f' h => by
   cases h
   exact ZaI t S ds fl hds hdl f
def solveT (cl sn:Nat→Nat) (n:Nat) (ds:List ND):Option Nat:=tryT cl ds 65 (relT sn ds &&& (2 ^ (n+1)-1)) 0
set_option maxRecDepth 100000 in
set_option maxHeartbeats 4000000 in
theorem Z6E (t:PB) (hn:t.n≤63) (hsm:Small t.l) (S:List Nat) (ds:List ND) (fl:Bool) (hds:∀ d∈ds,NdZ d) (hdl:ds.length<900000):Spec Tryz.prog 126 [.agg (pbP t S),.vec (ds.map ndP) fl] (· = resO (solveT (clo t.l) (sen t.l) t.n ds)):=by
 refine Z2 ok126 (Nat.le_of_ble_eq_true rfl) fun C hC=>?_
 have hpp:=Zx t S
 have hdp:pureLL (ds.map ndP):=Z9 Z2a ds
 have hsn:∀ r,r<64→sen t.l r<18446744073709551616:=fun r hr=>Zff t.l hsm hr
 have hrl:relT (sen t.l) ds<18446744073709551616:=Z9P hsn ds 0 (fun d hd=>(hds d hd).toNdOk) (by decide)
 have hbn:2 ^ (t.n+1)-1<18446744073709551616:=by
  have:2 ^ (t.n+1)≤2 ^ 64:=Nat.pow_le_pow_right (by decide) (by omega)
  omega
 have hal:relT (sen t.l) ds &&& (2 ^ (t.n+1)-1)<18446744073709551616:=Nat.lt_of_le_of_lt Nat.and_le_left hrl
 have htry:=ZaI t S ds fl (fun d hd=>(hds d hd).toNdOk) hdl 64 (relT (sen t.l) ds &&& (2 ^ (t.n+1)-1)) 0 (.agg [.vec [] true]) (.inr ⟨rfl,rfl⟩) hal (by decide) (fun i _=>by omega)
 change Spec _ _ _ (· = resO (solveT (clo t.l) (sen t.l) t.n ds)) at htry
 generalize solveT (clo t.l) (sen t.l) t.n ds=res at htry
 refine gd 2 ⟨?_⟩
 refine Z3 rfl rfl rfl ?_
 refine gd 10 ⟨?_⟩
 refine Zr (Z7A t hsm S ds fl hds hdl) rfl rfl rfl ⟨hpp,hdp,trivial⟩ ?_
 refine gd 13 ⟨?_⟩
 refine Zd (ZP (v:=((t.n+1:Nat):Int)) rfl (IntWalk.i64_in _ ⟨by omega,by omega⟩)) rfl rfl ?_
 refine Zr (Z3w (t.n+1) (by omega) (by omega)) rfl rfl rfl ⟨trivial,trivial⟩ ?_
 refine Zr (Zdb _ _ hrl hbn) rfl rfl rfl ⟨Z1 _,Z1 _,trivial⟩ ?_
 refine gd 17 ⟨?_⟩
 refine Zr htry rfl rfl rfl ⟨hpp,hdp,Z1 _,⟨trivial,trivial⟩,trivial⟩ ?_
 cases res with
 | some o =>
   show dK _ _ _ _ (updO _ _ (.tup [setN o,.val (.bool true)])) _ _
   refine go ?_
   exact Z5 rfl ⟨Z1 _,trivial,trivial⟩ rfl
 | none =>
   show dK _ _ _ _ (updO _ _ (.tup [setN 0,.val (.bool false)])) _ _
   refine go ?_
   exact Z5 rfl ⟨Z1 _,trivial,trivial⟩ rfl
theorem ZbS {t:PB} (hnv:∀ c∈t.nv,Ok64 c) (S:List Nat) (s:Nat) (hs:s<18446744073709551616):Spec Tryz.prog 88 [.agg (pbP t S),setN s] (· = .val (.bool (goodB t s))):=by
 refine Z2 ok88 (Nat.le_of_ble_eq_true rfl) fun C hC=>?_
 have hclo:=Z12 t.l S s hs
 have hso:=Z3t t.nv false (clo t.l s) hnv (Z4P _ _)
 refine gd 2 ⟨?_⟩
 refine Z3 rfl rfl rfl ?_
 refine Z3 rfl rfl rfl ?_
 refine gd 14 ⟨?_⟩
 refine Z26 rfl ?_
 refine Zr hclo rfl rfl rfl ⟨Zq _ _,Z1 _,trivial⟩ ?_
 refine Z26 rfl ?_
 refine Zr hso rfl rfl rfl ⟨Z9 Zk _,Z1 _,trivial⟩ ?_
 show dK _ _ _ _ (updO _ _ (.val (.bool (soC t.nv (clo t.l s))))) _ _
 unfold goodB
 cases soC t.nv (clo t.l s)
 · refine go ?_
   exact Z5 rfl trivial rfl
 · refine go ?_
   exact Z5 rfl trivial rfl
noncomputable def jstep (t:PB) (s:Nat) (k:Int):Option Nat:=if 0≤k then (match t.rs[k.toNat]? with|some r=>if stepR t r s then some (nextR r s) else none|none=>none) else none
set_option maxRecDepth 100000 in
set_option maxHeartbeats 16000000 in
theorem Z6F {t:PB} (h:PbOk t) (S:List Nat) (s:Nat) (hs:s<18446744073709551616) (k:Int):Spec Tryz.prog 39 [.agg (pbP t S),setN s,.val (.int .i64 k)] (· = resO (jstep t s k)):=by
 have hpp:=Zx t S
 have hrl:(t.rs.map ruP).length=t.rs.length:=by simp
 refine Z2 ok39 (Nat.le_of_ble_eq_true rfl) fun C hC=>?_
 by_cases h0:k<0
 · have e1 : jstep t s k = none := by unfold jstep; rw [if_neg (by omega)]
   rw [e1]
   refine gd 3 ⟨?_⟩
   refine Z3 rfl rfl rfl ?_
   refine Z3 rfl rfl rfl ?_
   refine gd 15 ⟨?_⟩
   refine Zi rfl ?_
   refine Z0 (Z4 (v:=true) rfl (decide_eq_true (by omega))) rfl rfl ?_
   refine go ?_
   exact ZV (r:=.tup [.agg [.vec [] true],.val (.bool false)]) rfl ⟨⟨trivial,trivial⟩,trivial,trivial⟩ Z23
 by_cases h1:(t.rs.length:Int)≤k
 · have e1 : jstep t s k = none := by unfold jstep; rw [if_pos (by omega), List.getElem?_eq_none (by omega)]
   rw [e1]
   refine gd 3 ⟨?_⟩
   refine Z3 rfl rfl rfl ?_
   refine Z3 rfl rfl rfl ?_
   refine gd 15 ⟨?_⟩
   refine Zi rfl ?_
   refine Z0 (Z4 (v:=false) rfl (decide_eq_false (by omega))) rfl rfl ?_
   refine gd 22 ⟨?_⟩
   refine Zi rfl ?_
   refine Z0 (Z4 (v:=true) rfl (decide_eq_true (by rw [hrl];omega))) rfl rfl ?_
   refine go ?_
   exact ZV (r:=.tup [.agg [.vec [] true],.val (.bool false)]) rfl ⟨⟨trivial,trivial⟩,trivial,trivial⟩ Z23
 obtain⟨j,rfl⟩:∃ j:Nat,k=(j:Int):=⟨k.toNat,by omega⟩
 have hk:j<t.rs.length:=by omega
 have hro:=h.rs _ (List.getElem_mem hk)
 have e1:jstep t s (j:Int)=if stepR t t.rs[j] s then some (nextR t.rs[j] s) else none:=by
  unfold jstep
  rw [if_pos (by omega),Int.toNat_natCast,List.getElem?_eq_getElem hk]
 rw [e1]
 refine gd 3 ⟨?_⟩
 refine Z3 rfl rfl rfl ?_
 refine Z3 rfl rfl rfl ?_
 refine gd 15 ⟨?_⟩
 refine Zi rfl ?_
 refine Z0 (Z4 (v:=false) rfl (decide_eq_false (by omega))) rfl rfl ?_
 refine gd 22 ⟨?_⟩
 refine Zi rfl ?_
 refine Z0 (Z4 (v:=false) rfl (decide_eq_false (by rw [hrl];omega))) rfl rfl ?_
 refine gd 28 ⟨?_⟩
 refine Z0 (Zo (xs:=t.rs) (g:=ruP) rfl rfl j rfl hk rfl) rfl rfl ?_
 generalize t.rs[j]=x at hro ⊢
 have hxt:=hro.tg
 have hx64:=hro.m.lt (by decide)
 have hnx:=Z7u (x:=x) (show x.tg<64 by omega) hs
 have hgood:=ZbS h.nv64 S (nextR x s) hnx
 have hclo:=Z12 t.l S s hs
 have hho:=Z2Q x.cu (clo t.l s) hx64 (Z4P _ _)
 have heq:=Z9g (nextR x s) s hnx hs
 have hw:=Z2G s hs x.tg (by omega)
 have hst:stepR t x s=(!decide (nextR x s=s)&&(goodB t (nextR x s)&&(x.rev||hoC x.cu (clo t.l s)))):=by
  unfold stepR
  congr 1
  exact decide_not
 rw [hst]
 refine gd 33 ⟨?_⟩
 refine Z6 hw rfl rfl rfl ⟨Z1 _,trivial,trivial⟩ rfl ?_
 cases hv:x.rev
 · have hnv : nextR x s = s ||| 2 ^ x.tg := by unfold nextR; rw [hv]; rfl
   rw [← hnv]
   refine gd 35 ⟨?_⟩
   refine Z0 (Z4 (v:=false) rfl hv) rfl rfl ?_
   refine gd 42 ⟨?_⟩
   refine Zr heq rfl rfl rfl ⟨Z1 _,Z1 _,trivial⟩ ?_
   cases he:decide (nextR x s=s)
   case true =>
    repeat' (first|refine Z1u rfl ?_|(first|refine st ?_|(apply B<;>intro hb<;>try cases hb)))
    exact ZV (r:=.tup [.agg [.vec [] true],.val (.bool false)]) rfl ⟨⟨trivial,trivial⟩,trivial,trivial⟩ Z23
   refine gd 46 ⟨?_⟩
   refine Z26 rfl ?_
   refine Zr hgood rfl rfl rfl ⟨hpp,Z1 _,trivial⟩ ?_
   cases hg:goodB t (nextR x s)
   case false =>
    repeat' (first|refine Z1u rfl ?_|(first|refine st ?_|(apply B<;>intro hb<;>try cases hb)))
    exact ZV (r:=.tup [.agg [.vec [] true],.val (.bool false)]) rfl ⟨⟨trivial,trivial⟩,trivial,trivial⟩ Z23
   refine gd 51 ⟨?_⟩
   refine Z26 rfl ?_
   refine Zd (Z4 (v:=false) rfl hv) rfl rfl ?_
   refine gd 59 ⟨?_⟩
   refine Z26 rfl ?_
   refine Zr hclo rfl rfl rfl ⟨Zq _ _,Z1 _,trivial⟩ ?_
   refine Z26 rfl ?_
   refine Zr hho rfl rfl rfl ⟨Z2o _,Z1 _,trivial⟩ ?_
   cases hh:hoC x.cu (clo t.l s)
   case false =>
    repeat' (first|refine Z1u rfl ?_|(first|refine st ?_|(apply B<;>intro hb<;>try cases hb)))
    exact ZV (r:=.tup [.agg [.vec [] true],.val (.bool false)]) rfl ⟨⟨trivial,trivial⟩,trivial,trivial⟩ Z23
   repeat' (first|refine Z1u rfl ?_|(first|refine st ?_|(apply B<;>intro hb<;>try cases hb)))
   exact Z5 rfl ⟨Z1 _,trivial,trivial⟩ rfl
 · have hnv : nextR x s = minusN s (2 ^ x.tg) := by unfold nextR; rw [hv]; rfl
   have hwo:=Z16 s hs (x.tg:Int)
   rw [Z1E hs (by omega),← hnv] at hwo
   refine gd 35 ⟨?_⟩
   refine Z0 (Z4 (v:=true) rfl hv) rfl rfl ?_
   refine gd 39 ⟨?_⟩
   refine Z6 hwo rfl rfl rfl ⟨Z1 _,trivial,trivial⟩ rfl ?_
   refine gd 42 ⟨?_⟩
   refine Zr heq rfl rfl rfl ⟨Z1 _,Z1 _,trivial⟩ ?_
   cases he:decide (nextR x s=s)
   case true =>
    repeat' (first|refine Z1u rfl ?_|(first|refine st ?_|(apply B<;>intro hb<;>try cases hb)))
    exact ZV (r:=.tup [.agg [.vec [] true],.val (.bool false)]) rfl ⟨⟨trivial,trivial⟩,trivial,trivial⟩ Z23
   refine gd 46 ⟨?_⟩
   refine Z26 rfl ?_
   refine Zr hgood rfl rfl rfl ⟨hpp,Z1 _,trivial⟩ ?_
   cases hg:goodB t (nextR x s)
   case false =>
    repeat' (first|refine Z1u rfl ?_|(first|refine st ?_|(apply B<;>intro hb<;>try cases hb)))
    exact ZV (r:=.tup [.agg [.vec [] true],.val (.bool false)]) rfl ⟨⟨trivial,trivial⟩,trivial,trivial⟩ Z23
   refine gd 51 ⟨?_⟩
   refine Z26 rfl ?_
   refine Zd (Z4 (v:=true) rfl hv) rfl rfl ?_
   repeat' (first|refine Z1u rfl ?_|(first|refine st ?_|(apply B<;>intro hb<;>try cases hb)))
   exact Z5 rfl ⟨Z1 _,trivial,trivial⟩ rfl
set_option maxRecDepth 100000 in
theorem Z7B {t:PB} (h:PbOk t) (S:List Nat) (s:Nat) (hs:s<18446744073709551616) (k:Int):Spec Tryz.prog 13 [.agg (pbP t S),setN s,.val (.int .i64 k)] (· = .val (.bool (jstep t s k).isSome)):=by
 refine Z2 ok13 (Nat.le_of_ble_eq_true rfl) fun C hC=>?_
 have hpp:=Zx t S
 refine gd 3 ⟨?_⟩
 refine Z3 rfl rfl rfl ?_
 refine Z3 rfl rfl rfl ?_
 refine gd 13 ⟨?_⟩
 refine Z6 (Z6F h S s hs k) rfl rfl rfl ⟨hpp,Z1 _,trivial,trivial⟩ rfl ?_
 cases jstep t s k with
 | some o =>
   show opsK _ _ _ (updO _ _ (.tup [setN o,.val (.bool true)])) _ _
   refine go ?_
   exact Z5 rfl trivial rfl
 | none =>
   show opsK _ _ _ (updO _ _ (.tup [setN 0,.val (.bool false)])) _ _
   refine go ?_
   exact Z5 rfl trivial rfl
section
variable {P:Program} {C:Ctx} {e:Env} {h:Heap} {n:Nat} {Q:Exit→Nat→Env→Heap→Prop}
theorem ZfY {m:Nat} (hdom:C.dom m) (N:Nat) (L:List (Nat×PV)) (HL:List (Nat×Bx)) {x y:ACode} (hm:m≤N) (h1:aw P C x (thenQ (fun n e h=>EnvQ (fun i=>i) e N L∧HeapQ (fun i=>i) h N HL) Q) n e h) (h2:aw P C y Q N (envL L) (heapL HL)):aw P C (.seq x y) Q n e h :=
 Zt (Z4s h1 fun ex n e h hq=>by
  cases ex with
  | normal=>obtain⟨h3,h4⟩:=hq; exact Z1U (Z3l h3.mem h4.mem hdom hm) h2
  | _=>exact hq)
end
theorem ZeW:∀ r:Nat,r<64→maskTo (topOf [(r:Int)]) [(r:Int)]=2 ^ r:=by decide +kernel
theorem Z6G (r:Nat) (hr:r<64) (fl:Bool):Spec Tryz.prog 17 [.vec [[.val (.int .i64 (r:Int))]] fl] (· = setN (2 ^ r)):=ZeW r hr▸Z9a [(r:Int)] fl
def fullN (n:Nat):Nat:=2 ^ (n+1)-1
def properT (n:Nat) (l:List Cu):Bool := !(mentC l).testBit 0&&decide (mentC l ||| fullN n=fullN n)
theorem ZeX {n:Nat} (h:n≤63):fullN n<18446744073709551616:=by
 unfold fullN
 have:2 ^ (n+1)≤2 ^ 64:=Nat.pow_le_pow_right (by decide) (by omega)
 omega
theorem Z9Q (t:PB) (hn:t.n≤63) (S:List Nat) (l:List Cu) (fl:Bool) (hl:∀ c∈l,Ok64 c):Spec Tryz.prog 28 [.agg (pbP t S),.vec (l.map cuC) fl] (· = .val (.bool (properT t.n l))):=by
 refine Z2 ok28 (Nat.le_of_ble_eq_true rfl) fun C hC=>?_
 have hml:=Z3u hl
 have hh:=Z43 (mentC l) hml 0
 have hfl:=ZeX hn
 have hbe:=Z3w (t.n+1) (by omega) (by omega)
 change Spec _ _ _ (· = setN (fullN t.n)) at hbe
 have hwi:=Z1K (mentC l) (fullN t.n) hml hfl
 have hd:properT t.n l=(!(decide ((0:Int)≤0)&&(mentC l).testBit (0:Int).toNat)&&decide (mentC l ||| fullN t.n=fullN t.n)):=rfl
 rw [hd]
 refine gd 2 ⟨?_⟩
 refine Z3 rfl rfl rfl ?_
 refine gd 7 ⟨?_⟩
 refine Z6 (Z2h l fl hl) rfl rfl rfl ⟨Z9 Zk _,trivial⟩ rfl ?_
 generalize mentC l=M at hh hwi ⊢
 refine gd 9 ⟨?_⟩
 refine Zr hh rfl rfl rfl ⟨Z1 _,trivial,trivial⟩ ?_
 cases decide ((0:Int)≤0)&&M.testBit (0:Int).toNat
 · refine gd 15 ⟨?_⟩
   refine Z26 rfl ?_
   refine Zd (ZP (v:=((t.n+1:Nat):Int)) rfl (IntWalk.i64_in _ ⟨by omega,by omega⟩)) rfl rfl ?_
   refine Z26 rfl ?_
   refine Zr hbe rfl rfl rfl ⟨trivial,trivial⟩ ?_
   refine Z26 rfl ?_
   refine Zr hwi rfl rfl rfl ⟨Z1 _,Z1 _,trivial⟩ ?_
   cases decide (M ||| fullN t.n=fullN t.n)
   · refine go ?_
     exact Z5 rfl trivial rfl
   · refine go ?_
     exact Z5 rfl trivial rfl
 · repeat' (first | refine Z1u rfl ?_ | (first|refine st ?_|(apply B<;>intro hb<;>try cases hb)))
   exact Z5 rfl trivial rfl
abbrev Fd:=Nat×Nat×Nat
def fdP (f:Fd):PV:=.agg [.val (.int .u8 (f.1:Int)),.val (.int .i64 (f.2.1:Int)),.val (.int .i64 (f.2.2:Int))]
theorem Z1m (f:Fd):(fdP f).pure:=⟨trivial,trivial,trivial,trivial⟩
noncomputable def followT (t:PB):Nat→List Nat→Nat→Fd
 | s,[],_=>if reachB t s then (1,0,0) else (5,0,0)
 | s, k :: p, i => match jstep t s (k : Int) with
   | some o=>followT t o p (i+1)
   | none=>(4,i,k)
theorem ZeY {t:PB} (h:PbOk t) {s:Nat} (hs:s<18446744073709551616) {k:Int} {o:Nat} (ho:jstep t s k=some o):o<18446744073709551616:=by
 unfold jstep at ho
 split at ho
 · cases hr : t.rs[k.toNat]? with
   | none=>rw [hr] at ho; cases ho
   | some r =>
     rw [hr] at ho
     dsimp only at ho
     split at ho
     · have hro := h.rs r (List.mem_of_getElem? hr)
       have:=hro.tg
       rw [← Option.some.inj ho]
       exact Z7u (by omega) hs
     · cases ho
 · cases ho
set_option maxRecDepth 100000 in
set_option maxHeartbeats 8000000 in
theorem Z9R {t:PB} (h:PbOk t) (S:List Nat) (p:List Nat) (fl:Bool) (hp:p.length<900000) (hst0:t.st<18446744073709551616):Spec Tryz.prog 29 [.agg (pbP t S),.vec (inL p) fl] (· = fdP (followT t t.st p 0)):=by
 refine Z2 ok29 (Nat.le_of_ble_eq_true rfl) fun C hC=>?_
 have hpp:=Zx t S
 have hpi:∀ D,innL D (pbP t S):=fun D=>Zm (fun _ h=>h.elim) _ hpp
 have hil':=Z7t p
 have hii:∀ D,innLL D (inL p):=fun D=>Za (fun _ h=>h.elim) _ (Z1l p)
 have hz:∀ D,innLL D [[PV.val (.int .u8 0),.val (.int .i64 0),.val (.int .i64 0)]]:=fun D=>⟨⟨trivial,trivial,trivial,trivial⟩,trivial⟩
 refine gd 2 ⟨?_⟩
 refine Z3 rfl rfl rfl ?_
 generalize hfin:followT t t.st p 0=fin
 refine go ?_
 refine Zl hC (fun x:Nat×Nat=>x.1≤p.length∧x.2<18446744073709551616∧followT t x.2 (p.drop x.1) x.1=fin) (fun x=>p.length-x.1) 2 (fun x => [(2,.cp (pbP t S)),(4,.ptr 0 0 0),(5,.ptr 1 0 0),(12,.vec (inL p) fl),(13,.val (.int .i64 (p.length:Int))),(14,.val (.int .i64 (x.1:Int)))]) (fun x => [(0,⟨3,[[.val (.int .u8 0),.val (.int .i64 0),.val (.int .i64 0)]]⟩),(1,sBx x.2)]) (by decide) (0,t.st) ⟨Nat.zero_le _,hst0,hfin⟩
  ⟨⟨rfl,hpi _⟩,⟨rfl,show 0<2 by decide⟩,⟨rfl,show 1<2 by decide⟩,⟨rfl,hii _⟩,⟨by rw [← hil']; rfl,trivial⟩,⟨rfl,trivial⟩,trivial⟩ ⟨⟨by decide,rfl,hz _⟩,⟨by decide,rfl,Z2i _ _⟩,trivial⟩ ?_
 rintro⟨i,s⟩ ⟨hi,hs,hf⟩
 dsimp only at hi hs hf
 have hinc:IntKind.i64.wrap ((i:Int)+1)=((i+1:Nat):Int):=IntWalk.i64_in _ ⟨by omega,by omega⟩
 refine gd 15 ⟨?_⟩
 by_cases hil:i<p.length
 · refine Z0 (Z4 (v := true) rfl (decide_eq_true (by show (i : Int) < (p.length : Int); omega))) rfl rfl ?_
   have hdr:p.drop i=p[i] :: p.drop (i+1):=List.drop_eq_getElem_cons hil
   rw [hdr] at hf
   refine gd 17 ⟨?_⟩
   refine Z0 (Zo (xs:=p) (g:=inC1) rfl rfl i rfl hil rfl) rfl rfl ?_
   generalize p[i]=k at hf
   refine gd 23 ⟨?_⟩
   refine Z6 (Z6F h S s hs (k:Int)) rfl rfl rfl ⟨hpp,Z1 _,trivial,trivial⟩ rfl ?_
   cases hj:jstep t s (k:Int) with
   | some o =>
     have hol:=ZeY h hs hj
     have hf2:followT t o (p.drop (i+1)) (i+1)=fin:=by rw [← hf]; show _=(match jstep t s (k:Int) with|some o=>followT t o (p.drop (i+1)) (i+1)|none=>(4,i,k)); rw [hj]
     show opsK _ _ _ (updO _ _ (.tup [setN o,.val (.bool true)])) _ _
     refine go ?_
     exact⟨(i+1,o),⟨hil,hol,hf2⟩,by show p.length-(i+1)<p.length-i; omega,⟨⟨rfl,hpi _⟩,⟨rfl,show 0<2 by decide⟩,⟨rfl,show 1<2 by decide⟩,⟨rfl,hii _⟩,⟨rfl,trivial⟩,⟨by show some _=some _; rw [hinc],trivial⟩,trivial⟩,⟨⟨by decide,rfl,hz _⟩,⟨by decide,rfl,Z2i _ _⟩,trivial⟩⟩
   | none =>
     have hf2:((4,i,k):Fd)=fin:=by rw [← hf]; show _=(match jstep t s (k:Int) with|some o=>followT t o (p.drop (i+1)) (i+1)|none=>(4,i,k)); rw [hj]
     show opsK _ _ _ (updO _ _ (.tup [setN 0,.val (.bool false)])) _ _
     refine go ?_
     exact Z5 rfl (Z1m (4,i,k)) (by rw [← hf2]; rfl)
 · obtain rfl : i = p.length := by omega
   refine Z0 (Z4 (v:=false) rfl (decide_eq_false (by show ¬ ((p.length:Int)<(p.length:Int));omega))) rfl rfl ?_
   rw [List.drop_length] at hf
   change (if reachB t s then ((1,0,0):Fd) else (5,0,0))=fin at hf
   refine gd 38 ⟨?_⟩
   refine Zr (Z12 t.l S s hs) rfl rfl rfl ⟨Zq _ _,Z1 _,trivial⟩ ?_
   refine Zr (Z3t t.gl false (clo t.l s) h.gl64 (Z4P _ _)) rfl rfl rfl ⟨Z9 Zk _,Z1 _,trivial⟩ ?_
   change dK _ _ _ _ (updO _ _ (.val (.bool (reachB t s)))) _ _
   cases hr:reachB t s
   · rw [hr] at hf
     refine go ?_
     exact Z5 rfl (Z1m (5,0,0)) (by rw [← hf]; rfl)
   · rw [hr] at hf
     refine go ?_
     exact Z5 rfl (Z1m (1,0,0)) (by rw [← hf]; rfl)
def outN (t:PB) (l:List Cu) (fl:Bool):List ND := [⟨true,false,false,0,[],t.nv,true,false⟩,⟨true,false,true,0,t.gl,[],false,true⟩,⟨false,false,false,0,[],l,true,fl⟩]
def escN (t:PB) (l:List Cu) (fl:Bool) (c:Cu) (r:RU):List ND := [⟨true,false,false,0,[],t.nv,true,false⟩,⟨false,false,false,0,[],l,true,fl⟩,⟨false,false,true,0,[if r.rev then (2 ^ r.tg,0) else (0,2 ^ r.tg)],[],true,true⟩,⟨true,false,true,0,[r.cu],[],true,true⟩,⟨true,r.rev,false,r.tg,[],t.nv,true,false⟩,⟨false,r.rev,true,r.tg,[c],[],false,true⟩]
noncomputable def outT (t:PB) (l:List Cu) (fl:Bool):Option Nat:=solveT (clo t.l) (sen t.l) t.n (outN t l fl)
noncomputable def escT (t:PB) (l:List Cu) (fl:Bool) (c:Cu) (r:RU):Option Nat:=solveT (clo t.l) (sen t.l) t.n (escN t l fl c r)
theorem Zdt (l:List Cu) (h:∀ c∈l,c.1.testBit 0=false∧c.2.testBit 0=false):(mentC l).testBit 0=false:=by
 unfold mentC
 suffices hs:∀ a:Nat,a.testBit 0=false→(l.foldl (fun s c=>(s ||| c.1) ||| c.2) a).testBit 0=false from hs 0 (by simp)
 induction l with
 | nil=>exact fun a ha=>ha
 | cons c l ih =>
   intro a ha
   refine ih (fun c hc=>h c (List.mem_cons_of_mem _ hc)) _ ?_
   rw [Nat.testBit_or,Nat.testBit_or,ha,(h c (List.mem_cons_self ..)).1,(h c (List.mem_cons_self ..)).2]
   rfl
theorem ZgI {x n:Nat} (h:x ||| mkN n=mkN n):x.testBit 0=false:=by
 have:(x ||| mkN n).testBit 0=false:=by rw [h,Z4A]; rfl
 rw [Nat.testBit_or,Bool.or_eq_false_iff] at this
 exact this.1
theorem InC.z {n:Nat} {c:Cu} (h:InC n c):c.1.testBit 0=false∧c.2.testBit 0=false:=⟨ZgI h.y,ZgI h.n⟩
theorem ndz {d:ND} (haf:d.af<64) (hso:∀ c∈d.so,Ok64 c∧c.1.testBit 0=false∧c.2.testBit 0=false) (hno:∀ c∈d.no,Ok64 c∧c.1.testBit 0=false∧c.2.testBit 0=false) (hsl:d.so.length<900000) (hnl:d.no.length<900000):NdZ d :=
 ⟨⟨haf,fun c hc=>(hso c hc).1,fun c hc=>(hno c hc).1,hsl,hnl⟩,(by unfold mOf; rw [Nat.testBit_or,Zdt _ fun c hc=>(hso c hc).2,Zdt _ fun c hc=>(hno c hc).2]; rfl)⟩
def CuZ (l:List Cu):Prop:=∀ c∈l,Ok64 c∧c.1.testBit 0=false∧c.2.testBit 0=false
theorem zL:(0:Nat)<900000:=by decide
theorem oL:(1:Nat)<900000:=by decide
theorem zA:(0:Nat)<64:=by decide
theorem Z2T:CuZ []:=fun c hc=>by cases hc
theorem PbOk.nvz {t:PB} (h:PbOk t):CuZ t.nv:=fun c hc=>⟨h.nv64 c hc,(h.nv c hc).1.z⟩
theorem PbOk.glz {t:PB} (h:PbOk t):CuZ t.gl:=fun c hc=>⟨h.gl64 c hc,(h.gl c hc).1.z⟩
theorem ZgJ {t:PB} (h:PbOk t) {l:List Cu} (fl:Bool) (hl:CuZ l) (hll:l.length<900000):∀ d∈outN t l fl,NdZ d:=fun d hd=>by
 have h1:=h.nl
 have h2:=h.gk
 simp only [outN,List.mem_cons,List.not_mem_nil,or_false] at hd
 rcases hd with rfl|rfl|rfl
 · exact ndz zA Z2T h.nvz zL (by show t.nv.length<_;omega)
 · exact ndz zA h.glz Z2T (by show t.gl.length<_;omega) zL
 · exact ndz zA Z2T hl zL hll
theorem Zhb {r:Nat} (h:1≤r):(2 ^ r).testBit 0=false:=by
 rw [Nat.testBit_two_pow]; exact decide_eq_false (by omega)
theorem ZgK {t:PB} (h:PbOk t) {l:List Cu} (fl:Bool) (hl:CuZ l) (hll:l.length<900000) {c:Cu} (hc:c∈l) {r:RU} (hr:r∈t.rs):∀ d∈escN t l fl c r,NdZ d:=fun d hd=>by
 have h1:=h.nl
 have hro:=h.rs r hr
 have htg:=hro.tg
 have hcc:=hl c hc
 have h64:(2:Nat) ^ r.tg<18446744073709551616:=ZL (by omega)
 have h2z:=Zhb htg.1
 simp only [escN,List.mem_cons,List.not_mem_nil,or_false] at hd
 rcases hd with rfl|rfl|rfl|rfl|rfl|rfl
 · exact ndz zA Z2T h.nvz zL (by show t.nv.length<_;omega)
 · exact ndz zA Z2T hl zL hll
 · refine ndz zA (fun q hq => ?_) Z2T oL zL
   rw [List.mem_singleton] at hq
   subst hq
   cases r.rev
   · exact⟨⟨show (0:Nat)<_ by decide,h64⟩,show (0:Nat).testBit 0=false by decide,h2z⟩
   · exact⟨⟨h64,show (0:Nat)<_ by decide⟩,h2z,show (0:Nat).testBit 0=false by decide⟩
 · refine ndz zA (fun q hq => ?_) Z2T oL zL
   rw [List.mem_singleton] at hq
   subst hq
   exact⟨hro.m.lt (by decide),hro.cu.z⟩
 · exact ndz (by show r.tg<64;omega) Z2T h.nvz zL (by show t.nv.length<_;omega)
 · refine ndz (by show r.tg < 64; omega) (fun q hq => ?_) Z2T oL zL
   rw [List.mem_singleton] at hq
   subst hq
   exact hcc
set_option maxRecDepth 100000 in
set_option maxHeartbeats 8000000 in
theorem Z8q {t:PB} (h:PbOk t) (S:List Nat) (l:List Cu) (fl:Bool) (hl:CuZ l) (hll:l.length<900000):Spec Tryz.prog 79 [.agg (pbP t S),.vec (l.map cuC) fl] (· = resO (outT t l fl)):=by
 refine Z2 ok79 (Nat.le_of_ble_eq_true rfl) fun C hC=>?_
 have hpp:=Zx t S
 have hso:=Z6E t h.n.2 h.good.small S (outN t l fl) true (ZgJ h fl hl hll) (show 3<900000 by decide)
 change Spec _ _ _ (· = resO (outT t l fl)) at hso
 refine gd 2 ⟨?_⟩
 refine Z3 rfl rfl rfl ?_
 refine gd 16 ⟨?_⟩
 refine Z6 hso rfl rfl rfl ⟨hpp,Z9 Z2a _,trivial⟩ rfl ?_
 cases outT t l fl with
 | some o =>
   show opsK _ _ _ (updO _ _ (.tup [setN o,.val (.bool true)])) _ _
   refine go ?_
   exact Z5 rfl ⟨Z1 _,trivial,trivial⟩ rfl
 | none =>
   show opsK _ _ _ (updO _ _ (.tup [setN 0,.val (.bool false)])) _ _
   refine go ?_
   exact Z5 rfl ⟨Z1 _,trivial,trivial⟩ rfl
set_option maxRecDepth 100000 in
set_option maxHeartbeats 8000000 in
theorem Z8r {t:PB} (h:PbOk t) (S:List Nat) (l:List Cu) (fl:Bool) (hl:CuZ l) (hll:l.length<900000) (i k:Nat) (hi:i<l.length) (hk:k<t.rs.length):Spec Tryz.prog 80 [.agg (pbP t S),.vec (l.map cuC) fl,.val (.int .i64 (i:Int)),.val (.int .i64 (k:Int))] (· = resO (escT t l fl l[i] t.rs[k])):=by
 refine Z2 ok80 (Nat.le_of_ble_eq_true rfl) fun C hC=>?_
 have hpp:=Zx t S
 have hro:=h.rs _ (List.getElem_mem hk)
 have htg:=hro.tg
 have hso:=Z6E t h.n.2 h.good.small S (escN t l fl l[i] t.rs[k]) true (ZgK h fl hl hll (List.getElem_mem hi) (List.getElem_mem hk)) (show 6<900000 by decide)
 change Spec _ _ _ (· = resO (escT t l fl l[i] t.rs[k])) at hso
 have hslc:((l.take (i+1)).drop i).map cuC = [cuC l[i]]:=by
  rw [List.take_succ_eq_append_getElem hi,List.drop_append,List.drop_of_length_le (by rw [List.length_take];omega),List.length_take,show i-min i l.length=0 by omega]
  rfl
 refine gd 4 ⟨?_⟩
 refine Z3 rfl rfl rfl ?_
 refine gd 15 ⟨?_⟩
 refine Z0 (Zo (xs:=t.rs) (g:=ruP) rfl rfl k rfl hk rfl) rfl rfl ?_
 generalize hres:escT t l fl l[i] t.rs[k]=res at hso
 generalize t.rs[k]=r at htg hso
 generalize l[i]=c at hslc hso
 unfold escN at hso
 generalize hqq:(if r.rev=true then ((2 ^ r.tg,0):Cu) else (0,2 ^ r.tg))=q at hso
 have hci:∀ D,innLL D (l.map cuC):=fun D=>Za (fun _ h=>h.elim) _ (Z9 Zk l)
 have e0:words (digs 0) = []:=by rw [ZG]; rfl
 have lowN:∀ w:List (List PV),pureLL w→RenLs (fun i=>i) (fun i=>i<3) [PV.vec [] true,.vec w false] [.vec [] false,.vec w false]:=fun w hw=>⟨.low (.vec [] true) trivial,.pure _ hw,trivial⟩
 have lowY:∀ w:List (List PV),pureLL w→RenLs (fun i=>i) (fun i=>i<3) [.vec w false,PV.vec [] true] [.vec w false,.vec [] false]:=fun w hw=>⟨.pure _ hw,.low (.vec [] true) trivial,trivial⟩
 refine gd 20 ⟨?_⟩
 refine Z6 (Z6G r.tg (by omega) true) rfl rfl rfl ⟨⟨⟨trivial,trivial⟩,trivial⟩,trivial⟩ rfl ?_
 iterate 4 (first|refine st ?_|(apply B<;>intro hb<;>try cases hb))
 refine ZfY hC 3 [(1,.vec (l.map cuC) fl),(2,.val (.int .i64 (i:Int))),(4,.cp (pbP t S)),(8,.ptr 0 0 0),(10,.ptr 1 0 0),(11,.ptr 2 0 0)] [(0,⟨1,[[.vec [] true]]⟩),(1,⟨5,[ruP r]⟩),(2,⟨2,[cuC q]⟩)] (by decide) ?_ ?_
 · refine gd 23 ⟨?_⟩
   cases hv:r.rev
   · have hqv : q = (0, 2 ^ r.tg) := by rw [← hqq, hv]; rfl
     refine Z0 (Z4 (v:=false) rfl hv) rfl rfl ?_
     refine go ?_
     exact⟨⟨⟨_,rfl,.pure _ (Z9 Zk l)⟩,⟨_,rfl,.pure _ trivial⟩,⟨_,rfl,.pure _ hpp⟩,⟨_,rfl,.ptr (ρ:=fun i=>i) 0 0 0 (by decide)⟩,⟨_,rfl,.ptr (ρ:=fun i=>i) 1 0 0 (by decide)⟩,⟨_,rfl,.ptr (ρ:=fun i=>i) 2 0 0 (by decide)⟩,trivial⟩,
      ⟨⟨by decide, _, rfl, .same _ ⟨⟨trivial, trivial⟩, trivial⟩⟩, ⟨by decide, _, rfl, .same _ ⟨Z7p r, trivial⟩⟩, ⟨by decide, ⟨2, [[.vec [] true, .vec (words (digs (2 ^ r.tg))) false]]⟩, rfl, by
        rw [hqv]
        show RenB _ _ _ ⟨2,[[.vec (words (digs 0)) false,.vec (words (digs (2 ^ r.tg))) false]]⟩
        rw [e0]
        exact RenB.single (lowN _ (Ze _)) rfl⟩,trivial⟩⟩
   · have hqv : q = (2 ^ r.tg, 0) := by rw [← hqq, hv]; rfl
     refine Z0 (Z4 (v:=true) rfl hv) rfl rfl ?_
     refine gd 27 ⟨?_⟩
     refine Z6 (Z6G r.tg (by omega) true) rfl rfl rfl ⟨⟨⟨trivial,trivial⟩,trivial⟩,trivial⟩ rfl ?_
     refine go ?_
     exact⟨⟨⟨_,rfl,.pure _ (Z9 Zk l)⟩,⟨_,rfl,.pure _ trivial⟩,⟨_,rfl,.pure _ hpp⟩,⟨_,rfl,.ptr (ρ:=fun i=>i) 0 0 0 (by decide)⟩,⟨_,rfl,.ptr (ρ:=fun i=>i) 1 0 0 (by decide)⟩,⟨_,rfl,.ptr (ρ:=fun i=>i) 2 0 0 (by decide)⟩,trivial⟩,
      ⟨⟨by decide, _, rfl, .same _ ⟨⟨trivial, trivial⟩, trivial⟩⟩, ⟨by decide, _, rfl, .same _ ⟨Z7p r, trivial⟩⟩, ⟨by decide, ⟨2, [[.vec (words (digs (2 ^ r.tg))) false, .vec [] true]]⟩, rfl, by
        rw [hqv]
        show RenB _ _ _ ⟨2,[[.vec (words (digs (2 ^ r.tg))) false,.vec (words (digs 0)) false]]⟩
        rw [e0]
        exact RenB.single (lowY _ (Ze _)) rfl⟩,trivial⟩⟩
 · refine gd 45 ⟨?_⟩
   refine Zd (p:=.val (.bool r.rev)) rfl rfl rfl ?_
   refine gd 52 ⟨?_⟩
   refine Zd (p:=.val (.bool r.rev)) rfl rfl rfl ?_
   refine gd 56 ⟨?_⟩
   refine Zd (ZP (v:=((i+1:Nat):Int)) rfl (IntWalk.i64_in _ ⟨by omega,by omega⟩)) rfl rfl ?_
   refine Zd (Zec (xs:=l) (g:=cuC) rfl i (i+1) rfl rfl (by omega) (by omega) (fun _=>rfl)) rfl rfl ?_
   rw [hslc]
   refine gd 60 ⟨?_⟩
   refine Zr hso rfl rfl rfl ⟨hpp,Z9 Z2a _,trivial⟩ ?_
   cases res with
   | some o =>
     show dK _ _ _ _ (updO _ _ (.tup [setN o,.val (.bool true)])) _ _
     refine go ?_
     exact Z5 rfl ⟨Z1 _,trivial,trivial⟩ rfl
   | none =>
     show dK _ _ _ _ (updO _ _ (.tup [setN 0,.val (.bool false)])) _ _
     refine go ?_
     exact Z5 rfl ⟨Z1 _,trivial,trivial⟩ rfl
def kFind (e:Nat→Bool):Nat→Nat→Option Nat
 | 0,_=>none
 | c+1,k=>if e k then some k else kFind e c (k+1)
def iFind (e:Nat→Nat→Bool) (m:Nat):Nat→Nat→Option (Nat×Nat)
 | 0,_=>none
 | c + 1, i => match kFind (e i) m 0 with
   | some k=>some (i,k)
   | none=>iFind e m c (i+1)
theorem Z6H {e:Nat→Bool} {n i:Nat} (h:i<n):kFind e (n-i) i=if e i then some i else kFind e (n-(i+1)) (i+1):=by
 obtain⟨c,hc⟩:∃ c,n-i=c+1:=⟨n-i-1,by omega⟩
 rw [hc,show n-(i+1)=c by omega]
 rfl
theorem ZbT {e:Nat→Nat→Bool} {m n i:Nat} (h:i<n):iFind e m (n-i) i=match kFind (e i) m 0 with|some k=>some (i,k)|none=>iFind e m (n-(i+1)) (i+1):=by
 obtain⟨c,hc⟩:∃ c,n-i=c+1:=⟨n-i-1,by omega⟩
 rw [hc,show n-(i+1)=c by omega]
 rfl
def cu0 (l:List Cu) (i:Nat):Cu:=l.getD i (0,0)
def ru0 (l:List RU) (k:Nat):RU:=l.getD k ⟨false,(0,0),0,0⟩
noncomputable def escE (t:PB) (l:List Cu) (fl:Bool) (i k:Nat):Bool:=(escT t l fl (cu0 l i) (ru0 t.rs k)).isSome
def leakF:Option (Nat×Nat)→Fd
 | some (i,k)=>(8,i,k)
 | none=>(1,0,0)
noncomputable def closedT (t:PB) (l:List Cu) (fl:Bool):Fd :=
 match kFind (fun i=>hoC (cu0 l i) t.st) l.length 0 with
 | some i=>(6,i,0)
 | none=>if (outT t l fl).isSome then (7,0,0) else leakF (iFind (escE t l fl) t.rs.length l.length 0)
theorem Zdu {l:List Cu} {i:Nat} (h:i<l.length):cu0 l i=l[i]:=by simp [cu0,List.getD_eq_getElem?_getD,h]
theorem ZfZ {l:List RU} {i:Nat} (h:i<l.length):ru0 l i=l[i]:=by simp [ru0,List.getD_eq_getElem?_getD,h]
set_option maxRecDepth 100000 in
set_option maxHeartbeats 16000000 in
theorem Z9S {t:PB} (h:PbOk t) (S:List Nat) (l:List Cu) (fl:Bool) (hl:CuZ l) (hll:l.length<900000) (hst:t.st<18446744073709551616):Spec Tryz.prog 30 [.agg (pbP t S),.vec (l.map cuC) fl] (· = fdP (closedT t l fl)):=by
 refine Z2 ok30 (Nat.le_of_ble_eq_true rfl) fun C hC=>?_
 have hpp:=Zx t S
 have hpi:∀ D,innL D (pbP t S):=fun D=>Zm (fun _ h=>h.elim) _ hpp
 have hml:(l.map cuC).length=l.length:=List.length_map ..
 have hmr:(t.rs.map ruP).length=t.rs.length:=List.length_map ..
 have hrl:=h.rl
 have hcp:pureLL (l.map cuC):=Z9 Zk l
 have hci:∀ D,innLL D (l.map cuC):=fun D=>Za (fun _ h=>h.elim) _ hcp
 have hri:∀ D,innLL D (t.rs.map ruP):=fun D=>Za (fun _ h=>h.elim) _ (Z1q _)
 have hz:∀ D,innLL D [[PV.val (.int .u8 0),.val (.int .i64 0),.val (.int .i64 0)]]:=fun D=>⟨⟨trivial,trivial,trivial,trivial⟩,trivial⟩
 have hfin:closedT t l fl=match kFind (fun i=>hoC (cu0 l i) t.st) l.length 0 with
  | some i=>(6,i,0)
  | none=>if (outT t l fl).isSome then (7,0,0) else leakF (iFind (escE t l fl) t.rs.length l.length 0):=rfl
 generalize hK:kFind (fun i=>hoC (cu0 l i) t.st) l.length 0=K at hfin
 refine gd 2 ⟨?_⟩
 refine Z3 rfl rfl rfl ?_
 refine go ?_
 refine Zl hC (fun i=>i≤l.length∧kFind (fun i=>hoC (cu0 l i) t.st) (l.length-i) i=K) (fun i=>l.length-i) 1 (fun i => [(1,.vec (l.map cuC) fl),(2,.cp (pbP t S)),(4,.ptr 0 0 0),(13,.vec (l.map cuC) fl),(14,.val (.int .i64 (l.length:Int))),(15,.val (.int .i64 (i:Int)))]) (fun _ => [(0,⟨3,[[.val (.int .u8 0),.val (.int .i64 0),.val (.int .i64 0)]]⟩)]) (by decide) 0 ⟨Nat.zero_le _,hK⟩
  ⟨⟨rfl,hci _⟩,⟨rfl,hpi _⟩,⟨rfl,show 0<1 by decide⟩,⟨rfl,hci _⟩,⟨by rw [← hml]; rfl,trivial⟩,⟨rfl,trivial⟩,trivial⟩ ⟨⟨by decide,rfl,hz _⟩,trivial⟩ ?_
 rintro i ⟨hi,hk⟩
 have hinc:IntKind.i64.wrap ((i:Int)+1)=((i+1:Nat):Int):=IntWalk.i64_in _ ⟨by omega,by omega⟩
 refine gd 16 ⟨?_⟩
 by_cases hil:i<l.length
 · refine Z0 (Z4 (v := true) rfl (decide_eq_true (by omega))) rfl rfl ?_
   rw [Z6H hil,Zdu hil] at hk
   have hc64:=(hl _ (List.getElem_mem hil)).1
   refine gd 18 ⟨?_⟩
   refine Z0 (Zo (xs:=l) (g:=cuC) rfl rfl i rfl hil rfl) rfl rfl ?_
   generalize l[i]=c at hk hc64
   have hho:=Z2Q c t.st hc64 hst
   refine gd 23 ⟨?_⟩
   refine Z6 hho rfl rfl rfl ⟨Z2o _,Z1 _,trivial⟩ rfl ?_
   cases hb:hoC c t.st
   · rw [hb] at hk
     refine go ?_
     exact⟨i+1,⟨hil,hk⟩,by omega,⟨⟨rfl,hci _⟩,⟨rfl,hpi _⟩,⟨rfl,show 0<1 by decide⟩,⟨rfl,hci _⟩,⟨rfl,trivial⟩,⟨by show some _=some _; rw [hinc],trivial⟩,trivial⟩,⟨⟨by decide,rfl,hz _⟩,trivial⟩⟩
   · rw [hb, if_pos rfl] at hk
     rw [hfin,← hk]
     refine go ?_
     exact Z5 rfl (Z1m (6,i,0)) rfl
 obtain rfl:i=l.length:=by omega
 refine Z0 (Z4 (v:=false) rfl (decide_eq_false (by omega))) rfl rfl ?_
 rw [Nat.sub_self] at hk
 have hKn:K=none:=hk.symm
 rw [hKn] at hfin
 dsimp only at hfin
 rw [hfin]
 have ho:=Z8q h S l fl hl hll
 generalize outT t l fl=O at ho
 refine gd 30 ⟨?_⟩
 refine Z6 ho rfl rfl rfl ⟨hpp,hcp,trivial⟩ rfl ?_
 cases O with
 | some o =>
   show opsK _ _ _ (updO _ _ (.tup [setN o,.val (.bool true)])) _ _
   refine go ?_
   exact Z5 rfl (Z1m (7,0,0)) rfl
 | none =>
 show opsK _ _ _ (updO _ _ (.tup [setN 0,.val (.bool false)])) _ _
 show opsK _ _ _ _ _ _
 rw [show (if (Option.isSome (none:Option Nat))=true then ((7,0,0):Fd) else leakF (iFind (escE t l fl) t.rs.length l.length 0))=leakF (iFind (escE t l fl) t.rs.length l.length 0) from rfl]
 generalize hL:iFind (escE t l fl) t.rs.length l.length 0=L
 refine go ?_
 refine Zl hC (fun i=>i≤l.length∧iFind (escE t l fl) t.rs.length (l.length-i) i=L) (fun i=>l.length-i) 1 (fun i => [(1,.vec (l.map cuC) fl),(2,.cp (pbP t S)),(4,.ptr 0 0 0),(36,.val (.int .i64 (l.length:Int))),(37,.val (.int .i64 (i:Int)))]) (fun _ => [(0,⟨3,[[.val (.int .u8 0),.val (.int .i64 0),.val (.int .i64 0)]]⟩)]) (by decide) 0 ⟨Nat.zero_le _,hL⟩
  ⟨⟨rfl,hci _⟩,⟨rfl,hpi _⟩,⟨rfl,show 0<1 by decide⟩,⟨by rw [← hml]; rfl,trivial⟩,⟨rfl,trivial⟩,trivial⟩ ⟨⟨by decide,rfl,hz _⟩,trivial⟩ ?_
 rintro i ⟨hi,hk⟩
 have hinc:IntKind.i64.wrap ((i:Int)+1)=((i+1:Nat):Int):=IntWalk.i64_in _ ⟨by omega,by omega⟩
 refine gd 38 ⟨?_⟩
 by_cases hil:i<l.length
 · refine Z0 (Z4 (v := true) rfl (decide_eq_true (by omega))) rfl rfl ?_
   rw [ZbT hil] at hk
   generalize hM:kFind (escE t l fl i) t.rs.length 0=M at hk
   refine go ?_
   refine Zl hC (fun k=>k≤t.rs.length∧kFind (escE t l fl i) (t.rs.length-k) k=M) (fun k=>t.rs.length-k) 1 (fun k => [(1,.vec (l.map cuC) fl),(2,.cp (pbP t S)),(4,.ptr 0 0 0),(9,.val (.int .i64 (i:Int))),(36,.val (.int .i64 (l.length:Int))),(37,.val (.int .i64 (i:Int))),(42,.val (.int .i64 (t.rs.length:Int))),(43,.val (.int .i64 (k:Int)))]) (fun _ => [(0,⟨3,[[.val (.int .u8 0),.val (.int .i64 0),.val (.int .i64 0)]]⟩)]) (by decide) 0 ⟨Nat.zero_le _,hM⟩
    ⟨⟨rfl,hci _⟩,⟨rfl,hpi _⟩,⟨rfl,show 0<1 by decide⟩,⟨rfl,trivial⟩,⟨rfl,trivial⟩,⟨rfl,trivial⟩,⟨by rw [← hmr]; rfl,trivial⟩,⟨rfl,trivial⟩,trivial⟩ ⟨⟨by decide,rfl,hz _⟩,trivial⟩ ?_
   rintro k ⟨hk1,hk2⟩
   have hink:IntKind.i64.wrap ((k:Int)+1)=((k+1:Nat):Int):=IntWalk.i64_in _ ⟨by omega,by omega⟩
   refine gd 44 ⟨?_⟩
   by_cases hkl:k<t.rs.length
   · refine Z0 (Z4 (v := true) rfl (decide_eq_true (by omega))) rfl rfl ?_
     rw [Z6H hkl] at hk2
     have he:=Z8r h S l fl hl hll i k hil hkl
     have hee:escE t l fl i k=(escT t l fl l[i] t.rs[k]).isSome:=by unfold escE; rw [Zdu hil,ZfZ hkl]
     rw [hee] at hk2
     generalize escT t l fl l[i] t.rs[k]=O at he hk2
     refine gd 51 ⟨?_⟩
     refine Z6 he rfl rfl rfl ⟨hpp,hcp,trivial,trivial,trivial⟩ rfl ?_
     cases O with
     | some o =>
       have hMs:M=some k:=hk2.symm
       rw [hMs] at hk
       have hLs:L=some (i,k):=hk.symm
       rw [hLs]
       show opsK _ _ _ (updO _ _ (.tup [setN o,.val (.bool true)])) _ _
       refine go ?_
       exact Z5 rfl (Z1m (8,i,k)) rfl
     | none =>
       show opsK _ _ _ (updO _ _ (.tup [setN 0,.val (.bool false)])) _ _
       refine go ?_
       exact⟨k+1,⟨hkl,hk2⟩,by omega,⟨⟨rfl,hci _⟩,⟨rfl,hpi _⟩,⟨rfl,show 0<1 by decide⟩,⟨rfl,trivial⟩,⟨rfl,trivial⟩,⟨rfl,trivial⟩,⟨rfl,trivial⟩,⟨by show some _=some _; rw [hink],trivial⟩,trivial⟩,⟨⟨by decide,rfl,hz _⟩,trivial⟩⟩
   · obtain rfl : k = t.rs.length := by omega
     refine Z0 (Z4 (v:=false) rfl (decide_eq_false (by omega))) rfl rfl ?_
     rw [Nat.sub_self] at hk2
     have hMn:M=none:=hk2.symm
     rw [hMn] at hk
     refine go ?_
     exact⟨i+1,⟨hil,hk⟩,by omega,⟨⟨rfl,hci _⟩,⟨rfl,hpi _⟩,⟨rfl,show 0<1 by decide⟩,⟨rfl,trivial⟩,⟨by show some _=some _; rw [hinc],trivial⟩,trivial⟩,⟨⟨by decide,rfl,hz _⟩,trivial⟩⟩
 · obtain rfl : i = l.length := by omega
   refine Z0 (Z4 (v:=false) rfl (decide_eq_false (by omega))) rfl rfl ?_
   rw [Nat.sub_self] at hk
   have hLn:L=none:=hk.symm
   rw [hLn]
   refine go ?_
   exact Z5 rfl (Z1m (1,0,0)) rfl
theorem Zhp {n i mask id:Nat} {P:Program} {e:Env} {h:Heap} {d:Option Nat} {f:Operand} {as0:List Operand} {iso:Nat} {alt:Bool} {xs:List DItem} {K:Env→Heap→Prop} {g:FuncId} {caps as1:List PV} {args:Nat→List PV} {b:Bx} {R:PV→Bx→Prop} (hs:QSpec P g args b R) (hm:MkL args) (hf:ev e f=some (.fn g caps)) (ha:evs e as0=some as1) (hr:as1++caps=args id) (hb:h id=some b) (hpb:pureLL b.elems)
 (hk:∀ r b',r.pure→pureLL b'.elems→R r b'→dK P (.to id) n xs (updO e d r) (h.upd id b') K):dK P (.to id) n (⟨i,⟨d,.call f as0,none⟩,mask,iso,alt⟩ :: xs) e h K:=by
 unfold dK
 refine⟨_,.callP rfl f as0 rfl id rfl b hb R ⟨g,caps,as1,hf,ha,by rw [hr]; exact hs.prun hm hpb id⟩,?_⟩
 rintro p' f' ⟨b',rfl,h1,h2,h3⟩
 exact hk p' b' h1 h2 h3
def HS.zero (t:Nat):HS:=⟨List.replicate 25 0,List.replicate 136 0,0,t⟩
theorem Zdv (t:Nat):HOk (HS.zero t):=⟨rfl,fun w hw=>by rw [List.eq_of_mem_replicate hw]; decide,rfl,fun w hw=>by rw [List.eq_of_mem_replicate hw]; decide,by show 0<136; decide⟩
set_option maxRecDepth 100000 in
set_option maxHeartbeats 4000000 in
theorem Z9T:NSpec Tryz.prog 156 [] (fun i=>.ptr i 0 0) (hBx (HS.zero 0)):=by
 refine Z1L ok156 (Nat.le_of_ble_eq_true rfl) fun C hC=>?_
 refine go ?_
 exact⟨_,_,rfl,.inl rfl,_,rfl,by show some _=some _; kernel_rfl⟩
set_option maxRecDepth 100000 in
set_option maxHeartbeats 16000000 in
theorem Zg0 (h0:HS) (hh0:HOk h0) (p:List Nat) (fl0:Bool) (hp:W8 p) (hlen:h0.total+p.length<1000000000000):PSpec Tryz.prog 157 (hBx h0) [.vec (bys p) fl0] (fun r b'=>b'=hBx (HS.puts (p.length+1) ⟨h0.st,h0.bl,h0.used,h0.total+p.length⟩ p)):=by
 refine Z1t ok157 (Nat.le_of_ble_eq_true rfl) fun C hC=>?_
 have hbl:∀ l:List Nat,(bys l).length=l.length:=fun l=>by simp [bys]
 have hC0:=Z6B (u:=.val (.int .i64 (h0.used:Int))) (t:=.val (.int .u64 (h0.total:Int))) hh0.sl hh0.bl
 refine gd 10 ⟨?_⟩
 refine Z0 (ZbP (l:=hCells h0.st h0.bl (.val (.int .i64 (h0.used:Int))) (.val (.int .u64 (h0.total:Int)))) rfl rfl (by rw [hC0]; decide) (Zho hh0.sl hh0.bl)) rfl rfl ?_
 refine gd 13 ⟨?_⟩
 refine Z8 (v:=(p.length:Int)) rfl rfl rfl (by rw [hbl]; exact IntWalk.u64_in _ ⟨by omega,by omega⟩) ?_
 refine Z8 (v:=((h0.total+p.length:Nat):Int)) rfl rfl rfl (IntWalk.u64_in _ ⟨by omega,by omega⟩) ?_
 iterate 2 (first|refine st ?_|(apply B<;>intro hb<;>try cases hb))
 refine Z0 (ZfT (l:=hCells h0.st h0.bl (.val (.int .i64 (h0.used:Int))) (.val (.int .u64 (h0.total:Int)))) rfl rfl rfl (by decide) (ZfR hh0.sl hh0.bl _)) rfl rfl ?_
 have hh1:HOk ⟨h0.st,h0.bl,h0.used,h0.total+p.length⟩:=⟨hh0.sl,hh0.sw,hh0.bl,hh0.bw,hh0.us⟩
 generalize hX0:(⟨h0.st,h0.bl,h0.used,h0.total+p.length⟩:HS)=X0 at hh1
 generalize hfin:HS.puts (p.length+1) X0 p=fin
 refine go ?_
 refine Zl hC (fun x:HS×List Nat×Bool=>HOk x.1∧W8 x.2.1∧x.2.1.length≤p.length∧HS.puts (p.length+1) x.1 x.2.1=fin) (fun x=>x.2.1.length) 1 (fun x => [(0,.ptr 0 0 0),(1,.vec (bys x.2.1) x.2.2)]) (fun x => [(0,hBx x.1)]) (by decide) (X0,p,fl0) ⟨hh1,hp,Nat.le_refl _,hfin⟩
  ⟨⟨rfl,show 0<1 by decide⟩,⟨rfl,Z9z _ _⟩,trivial⟩ ⟨⟨by decide,by rw [← hX0]; rfl,Z4G _ _⟩,trivial⟩ ?_
 rintro⟨x,q,fl⟩ ⟨hx,hq,hql,hqf⟩
 dsimp only at hx hq hql hqf
 have hCx:=fun (u t:PV)=>Z6B (u:=u) (t:=t) hx.sl hx.bl
 have hus:=hx.us
 have hbq:=hbl q
 refine gd 19 ⟨?_⟩
 by_cases hq0:q.length=0
 · refine Z0 (Z4 (v := false) rfl (decide_eq_false (by show ¬ (((bys q).length : Int) > 0); omega))) rfl rfl ?_
   rw [Z5P hq0] at hqf
   subst hqf
   refine go ?_
   exact⟨_,_,rfl,.inl rfl,_,rfl,trivial,Z2S _,rfl⟩
 · refine Z0 (Z4 (v := true) rfl (decide_eq_true (by show ((bys q).length : Int) > 0; omega))) rfl rfl ?_
   rw [Zdk hx hq hq0 (by omega)] at hqf
   have hput:=Zfi x q
   have hpok:=ZaG hx hq
   have hnl:=Z7z hx q
   have hnw:=ZaF hx hq
   have hcp:=ZfS (u:=.val (.int .i64 (x.used:Int))) (t:=.val (.int .u64 (x.total:Int))) hx.sl hx.bl hus q
   change _=hCells x.st (nblk x q) _ _ at hcp
   generalize hnn:min q.length (136-x.used)=nn at hqf hput
   have hCn:=fun (u t:PV)=>Z6B (u:=u) (t:=t) hx.sl hnl
   refine gd 26 ⟨?_⟩
   refine Zd (ZbP (l:=hCells x.st x.bl (.val (.int .i64 (x.used:Int))) (.val (.int .u64 (x.total:Int)))) rfl rfl (by rw [hCx]; decide) (ZgH hx.sl hx.bl)) rfl rfl ?_
   refine Zd (ZeR rfl x.used 136 rfl rfl (by omega) (by omega) (by omega)) rfl rfl ?_
   refine gd 29 ⟨?_⟩
   refine Zd (Zha (l:=hCells x.st x.bl (.val (.int .i64 (x.used:Int))) (.val (.int .u64 (x.total:Int)))) rfl rfl rfl (by omega) hcp) rfl rfl ?_
   rw [hnn]
   refine gd 32 ⟨?_⟩
   refine Z0 (Zec (xs:=q) (g:=fun (x:Nat) => [.val (.int .u8 (x:Int))]) rfl nn q.length rfl (by show some ((List.map (fun (x:Nat) => [PV.val (.int .u8 (x:Int))]) q).length:Int)=_; rw [List.length_map]) (by omega) (Nat.le_refl _) (fun _=>rfl)) rfl rfl ?_
   rw [List.take_length]
   refine gd 36 ⟨?_⟩
   refine Z0 (ZbP (l:=hCells x.st (nblk x q) (.val (.int .i64 (x.used:Int))) (.val (.int .u64 (x.total:Int)))) rfl rfl (by rw [hCn]; decide) (ZgH hx.sl hnl)) rfl rfl ?_
   refine gd 38 ⟨?_⟩
   refine Z8 (v:=((x.used+nn:Nat):Int)) rfl rfl rfl (wi (x.used+nn) (by omega)) ?_
   iterate 2 (first|refine st ?_|(apply B<;>intro hb<;>try cases hb))
   refine Z0 (ZfT (l:=hCells x.st (nblk x q) (.val (.int .i64 (x.used:Int))) (.val (.int .u64 (x.total:Int)))) rfl rfl rfl (by decide) (Zdm hx.sl hnl _)) rfl rfl ?_
   refine gd 44 ⟨?_⟩
   refine Z0 (ZbP (l:=hCells x.st (nblk x q) (.val (.int .i64 ((x.used+nn:Nat):Int))) (.val (.int .u64 (x.total:Int)))) rfl rfl (by rw [hCn]; decide) (ZgH hx.sl hnl)) rfl rfl ?_
   by_cases h136:x.used+nn=136
   · refine Z0 (Z4 (v := true) rfl (decide_eq_true (by rw [h136]; rfl))) rfl rfl ?_
     rw [if_pos h136] at hput
     repeat' (first|refine Ze7 [] 0 (by decide) ?_|refine Zcw 52 ?_|(first|refine st ?_|(apply B<;>intro hb<;>try cases hb)))
     refine At.mk ?_
     refine Zd (ZeR rfl 0 136 rfl rfl (by decide) (by decide) (by decide)) rfl rfl ?_
     refine Zhp (ZeP x.st (nblk x q) hx.sl hx.sw hnl hnw [.val (.int .i64 ((x.used+nn:Nat):Int)),.val (.int .u64 (x.total:Int))] ⟨trivial,trivial,trivial⟩) (Z7v (Z5L 0 0) (Z7v (Zgz 0 25 136 136) Zde)) rfl rfl rfl rfl ⟨Zdn trivial trivial,trivial⟩ ?_
     rintro r b' hr1 hr2 rfl
     refine gd 56 ⟨?_⟩
     (first|refine st ?_|(apply B<;>intro hb<;>try cases hb))
     refine Z0 (ZfT (l:=hCells (absorb x.st (nblk x q)) (nblk x q) (.val (.int .i64 ((x.used+nn:Nat):Int))) (.val (.int .u64 (x.total:Int)))) rfl rfl rfl (show 161+1≤163 by decide) (Zdm (Z4F hx.sl) hnl _)) rfl rfl ?_
     refine go ?_
     exact⟨(x.put q,q.drop nn,false),⟨hpok,hq.sub fun x hx=>List.mem_of_mem_drop hx,by show (q.drop nn).length≤_; rw [List.length_drop]; omega,hqf⟩,by show (q.drop nn).length<q.length; rw [List.length_drop]; omega,⟨⟨rfl,show 0<1 by decide⟩,⟨rfl,Z9z _ _⟩,trivial⟩,⟨⟨by decide,by show _=some (hBx (x.put q)); rw [hput]; rfl,Z4G _ _⟩,trivial⟩⟩
   · refine Z0 (Z4 (v := false) rfl (decide_eq_false (by omega))) rfl rfl ?_
     rw [if_neg h136] at hput
     refine go ?_
     exact⟨(x.put q,q.drop nn,false),⟨hpok,hq.sub fun x hx=>List.mem_of_mem_drop hx,by show (q.drop nn).length≤_; rw [List.length_drop]; omega,hqf⟩,by show (q.drop nn).length<q.length; rw [List.length_drop]; omega,⟨⟨rfl,show 0<1 by decide⟩,⟨rfl,Z9z _ _⟩,trivial⟩,⟨⟨by decide,by show _=some (hBx (x.put q)); rw [hput]; rfl,Z4G _ _⟩,trivial⟩⟩
theorem Zdw (kd:IntKind) (l:List Nat) (n:Nat):(crow kd l).take n=crow kd (l.take n):=by unfold crow; rw [List.map_take]
theorem Zdx (kd:IntKind) (l:List Nat) (n:Nat):(crow kd l).drop n=crow kd (l.drop n):=by unfold crow; rw [List.map_drop]
theorem ZeZ (kd:IntKind) (l m:List Nat):crow kd (l++m)=crow kd l++crow kd m:=by unfold crow; rw [List.map_append]
section
variable {e:Env} {h:Heap} {n k:Nat} {Eb:Nat}
theorem Z50 {a:Operand} {l r:List PV} {off size:Nat} (ha:ev e a=some (.ptr k 0 off)) (hb:h k=some ⟨Eb,[l]⟩) (hl:off+size≤l.length) (hv:(l.drop off).take size=r):dEval (.load true size a) e h n=some (.agg r,h):=by
 subst hv
 exact Z2B ha hb Nat.zero_lt_one (by show cutAt true size off l=_; unfold cutAt; rw [if_pos hl])
theorem Z7C {a v:Operand} {l r:List PV} {size:Nat} (ha:ev e a=some (.ptr k 0 0)) (hv:ev e v=some (.agg r)) (hb:h k=some ⟨size,[l]⟩) (hr:r.length=size) (hl:l.length=size):dEval (.store size a v) e h n=some (pvu,h.upd k ⟨size,[r ++ []]⟩):=by
 have h1:=Z1I (n:=n) (size:=size) ha hv hb rfl hr Nat.zero_lt_one (by show 0+size≤size;omega)
 rw [h1]
 have e1:setAt l 0 r=r ++ []:=by
  unfold setAt
  rw [List.take_zero,List.nil_append,List.drop_of_length_le (by omega)]
 show some (pvu,h.upd k ⟨size,[setAt l 0 r]⟩)=_
 rw [e1]
theorem ZgL {d s:Operand} {k2 Eb2 o o2 len len2 cap cap2:Nat} {l l2 l':List PV} (hd:ev e d=some (.sl k 0 o len cap)) (hs:ev e s=some (.sl k2 0 o2 len2 cap2)) (hb:h k=some ⟨Eb,[l]⟩) (hb2:h k2=some ⟨Eb2,[l2]⟩) (hE:o+len≤Eb) (hE2:o2+len2≤Eb2) (hl:setAt l o (((l2.drop o2).take len2).take len)=l'):dEval (.copy 1 d s) e h n=some (.val (.int .i64 ((min len2 len:Nat):Int)),h.upd k ⟨Eb,[l']⟩):=by
 subst hl
 simp only [dEval,hd,hs,hb,hb2]
 rw [if_pos ⟨trivial,show 0<1 by decide,hE,show 0<1 by decide,hE2⟩]
 rfl
end
theorem Z1M {e:Env} {h:Heap} {a size:Nat} {r:PV} (hd:dEval (.load true size (.tmp a)) e h 0=some (r,h)):retAll [.cell a true size] e h=some r:=by
 simp [retAll,retVs,retV,hd]
def last0 (h:HS):List Nat:=h.bl.take h.used++List.replicate (136-h.used) 0
theorem Z8s {h:HS} (hh:HOk h):(last0 h).length=136:=by
 have h1:=hh.bl
 have h2:=hh.us
 simp only [last0,List.length_append,List.length_take,List.length_replicate]
 omega
theorem Zdy {h:HS} (hh:HOk h):W8 (last0 h):=fun x hx=>by
 rcases List.mem_append.1 hx with h1|h1
 · exact hh.bw x (List.mem_of_mem_take h1)
 · rw [List.eq_of_mem_replicate h1]; decide
theorem W8.set {l:List Nat} (h:W8 l) {i x:Nat} (hx:x<256):W8 (l.set i x):=fun w hw=>by
 rcases List.mem_or_eq_of_mem_set hw with hw|rfl
 · exact h w hw
 · exact hx
theorem Z7D (h:HS):lastB h.bl h.used=((last0 h).set h.used 6).set 135 (g0 ((last0 h).set h.used 6) 135 ^^^ 128):=rfl
theorem Zg1 {a b:Nat} (ha:a<256) (hb:b<256):a ^^^ b<256:=Nat.xor_lt_two_pow (n:=8) ha hb
theorem Zdz {h:HS} (hh:HOk h):(lastB h.bl h.used).length=136:=by rw [Z7D,List.length_set,List.length_set,Z8s hh]
theorem ZdA {h:HS} (hh:HOk h):W8 (lastB h.bl h.used):=by
 rw [Z7D]
 have h1:W8 ((last0 h).set h.used 6):=(Zdy hh).set (by decide)
 exact h1.set (Zg1 (h1.g _) (by decide))
theorem ZdB {h:HS} (hh:HOk h) (u t:PV):setAt (crow .u8 (List.replicate 136 0)) 0 ((((hCells h.st h.bl u t).drop 25).take h.used).take 136)=crow .u8 (last0 h) ++ []:=by
 have h1:=hh.bl
 have h2:=hh.us
 have hst:(crow .u64 h.st).length=25:=by rw [Zp,hh.sl]
 have e1:(((hCells h.st h.bl u t).drop 25).take h.used).take 136=crow .u8 (h.bl.take h.used):=by
  unfold hCells
  rw [List.drop_append,hst,List.drop_of_length_le (by omega),show 25-25=0 by decide,List.drop_zero,List.nil_append,List.take_append,Zp,show h.used-h.bl.length=0 by omega,List.take_zero,List.append_nil,List.take_take,Nat.min_eq_right (by omega),Zdw]
 rw [e1]
 unfold setAt
 rw [List.take_zero,List.nil_append,Zp,List.length_take,show min h.used h.bl.length=h.used by omega,Nat.zero_add,Zdx,List.drop_replicate,← ZeZ,List.append_nil]
 rfl
def dPart (st:List Nat) (i:Nat):List Nat:=(List.range 32).map fun k=>if k<i then digI st k else 0
theorem Z3g (st:List Nat) (i:Nat):(dPart st i).length=32:=by simp [dPart]
theorem ZbU (st:List Nat) {i:Nat} (h:i<32):(dPart st i).set i (digI st i)=dPart st (i+1):=by
 refine Z4E (by rw [List.length_set,Z3g,Z3g]) fun x hx=>?_
 rw [List.length_set,Z3g] at hx
 rw [Zdh,Z3g]
 unfold dPart
 rw [Z3d _ hx,Z3d _ hx]
 by_cases h1:x=i
 · subst h1; rw [if_pos ⟨rfl,h⟩,if_pos (by omega)]
 · rw [if_neg (by omega)]
   by_cases h2:x<i
   · rw [if_pos h2,if_pos (by omega)]
   · rw [if_neg h2,if_neg (by omega)]
theorem ZdC (st:List Nat):dPart st 32=(List.range 32).map (digI st):=List.map_congr_left fun x hx=>by rw [if_pos (List.mem_range.1 hx)]
def sumOf (h:HS):List Nat:=(List.range 32).map (digI (absorb h.st (lastB h.bl h.used)))
set_option maxRecDepth 100000 in
set_option maxHeartbeats 16000000 in
theorem Zhc (x:HS) (hx:HOk x):PSpec Tryz.prog 158 (hBx x) [] (fun r b'=>r=.agg (crow .u8 (sumOf x))∧b'=hBx x):=by
 refine Z1t ok158 (Nat.le_of_ble_eq_true rfl) fun C hC=>?_
 have hCx:=fun (u t:PV)=>Z6B (u:=u) (t:=t) hx.sl hx.bl
 have hus:=hx.us
 have hl0:=Z8s hx
 have hw0:=Zdy hx
 refine gd 13 ⟨?_⟩
 refine Z0 (Z50 (l:=hCells x.st x.bl (.val (.int .i64 (x.used:Int))) (.val (.int .u64 (x.total:Int)))) (r:=crow .u64 x.st) rfl rfl (by rw [hCx]; decide) (by
  unfold hCells
  rw [List.drop_zero,List.take_append,Zp,hx.sl,Nat.sub_self,List.take_zero,List.append_nil,List.take_of_length_le (by rw [Zp,hx.sl]; exact Nat.le_refl _)])) rfl rfl ?_
 (first|refine st ?_|(apply B<;>intro hb<;>try cases hb))
 refine Z0 (Z7C (l:=crow .u64 (List.replicate 25 0)) rfl rfl rfl (by rw [Zp,hx.sl]) rfl) rfl rfl ?_
 refine gd 21 ⟨?_⟩
 refine Zd (ZbP (l:=hCells x.st x.bl (.val (.int .i64 (x.used:Int))) (.val (.int .u64 (x.total:Int)))) rfl rfl (by rw [hCx]; decide) (ZgH hx.sl hx.bl)) rfl rfl ?_
 refine Zd (ZeR rfl 0 x.used rfl rfl (by omega) (by omega) (by omega)) rfl rfl ?_
 refine Zd (ZgL (l:=crow .u8 (List.replicate 136 0)) (l2:=hCells x.st x.bl (.val (.int .i64 (x.used:Int))) (.val (.int .u64 (x.total:Int)))) rfl rfl rfl rfl (by decide) (by show 25+0+(x.used-0)≤163;omega) (ZdB hx _ _)) rfl rfl ?_
 refine gd 27 ⟨?_⟩
 refine Z0 (ZbP (l:=hCells x.st x.bl (.val (.int .i64 (x.used:Int))) (.val (.int .u64 (x.total:Int)))) rfl rfl (by rw [hCx]; decide) (ZgH hx.sl hx.bl)) rfl rfl ?_
 refine Z0 (Z2w rfl rfl x.used rfl (by omega)) rfl rfl ?_
 refine Z0 (Z7w (kd:=.u8) (L:=last0 x) (x:=6) (Eb:=136) (pre := []) (post := []) (o:=0) rfl rfl rfl rfl (by omega) (by omega)) rfl rfl ?_
 have hs1:((last0 x).set x.used 6).length=136:=by rw [List.length_set]; exact hl0
 have hs2:W8 ((last0 x).set x.used 6):=hw0.set (by decide)
 refine gd 30 ⟨?_⟩
 refine Z0 (Z2Y (kd:=.u8) (L:=(last0 x).set x.used 6) (pre := []) (post := []) (o:=0) (j:=135) rfl rfl rfl (by omega)) rfl rfl ?_
 refine Z8 (v:=((g0 ((last0 x).set x.used 6) 135 ^^^ 128:Nat):Int)) rfl rfl rfl (u8_xor_nat _ 128 (hs2.g _) (by decide)) ?_
 (first|refine st ?_|(apply B<;>intro hb<;>try cases hb))
 refine Z0 (Z7w (kd:=.u8) (L:=(last0 x).set x.used 6) (x:=g0 ((last0 x).set x.used 6) 135 ^^^ 128) (Eb:=136) (pre := []) (post := []) (o:=0) (j:=135) rfl rfl rfl rfl (by omega) (by omega)) rfl rfl ?_
 rw [← Z7D]
 iterate 1 (first|refine st ?_|(apply B<;>intro hb<;>try cases hb))
 refine Z72 hC (n':=4) [(2,.ptr 1 0 0),(3,.ptr 2 0 0),(4,.ptr 3 0 0)] [(0,hBx x),(1,⟨32,[crow .u8 (List.replicate 32 0)]⟩),(2,⟨25,[crow .u64 x.st ++ []]⟩),(3,⟨136,[crow .u8 (lastB x.bl x.used) ++ []]⟩)] (by decide)
  ⟨⟨rfl,show 1<4 by decide⟩,⟨rfl,show 2<4 by decide⟩,⟨rfl,show 3<4 by decide⟩,trivial⟩ ⟨⟨by decide,rfl,Z4G _ _⟩,⟨by decide,by kernel_rfl,Za (fun _ h=>h.elim) _ (show pureLL [crow .u8 (List.replicate 32 0)] from ⟨Zv _ _,trivial⟩)⟩,⟨by decide,rfl,inn1 trivial⟩,⟨by decide,rfl,inn1 trivial⟩,trivial⟩ ?_
 iterate 2 (first|refine st ?_|(apply B<;>intro hb<;>try cases hb))
 refine Z0 (ZeR rfl 0 136 rfl rfl (by decide) (by decide) (by decide)) rfl rfl ?_
 refine Z2e rfl rfl (ZeQ x.st (lastB x.bl x.used) hx.sl hx.sw (Zdz hx) (ZdA hx) (hBx x) _ (Z2S x) (show pureLL [crow .u8 (List.replicate 32 0)] from ⟨Zv _ _,trivial⟩)) ?_
 rintro n' r h' ⟨rfl,hr,rfl⟩
 have hsl:=Z4F (bl:=lastB x.bl x.used) hx.sl
 have hsw:=ZaE hx.sw (ZdA hx)
 have hfin:sumOf x=dPart (absorb x.st (lastB x.bl x.used)) 32:=(ZdC _).symm
 generalize absorb x.st (lastB x.bl x.used)=ws at hsl hsw hfin
 have hz:pureLL [crow .u8 (List.replicate 32 0)]:=⟨Zv _ _,trivial⟩
 refine go ?_
 refine Zl hC (fun i=>i≤32) (fun i=>32-i) 5 (fun i => [(2,.ptr 1 0 0),(3,.ptr 2 0 0),(5,.ptr 4 0 0),(35,.val (.int .i64 (i:Int)))]) (fun i => [(0,hBx x),(1,⟨32,[crow .u8 (List.replicate 32 0)]⟩),(2,⟨25,[crow .u64 ws ++ []]⟩),(4,⟨32,[crow .u8 (dPart ws i) ++ []]⟩)]) (by decide) 0 (Nat.zero_le _)
  ⟨⟨rfl,show 1<5 by decide⟩,⟨rfl,show 2<5 by decide⟩,⟨rfl,show 4<5 by decide⟩,⟨rfl,trivial⟩,trivial⟩ ⟨⟨by decide,rfl,Z4G _ _⟩,⟨by decide,rfl,Za (fun _ h=>h.elim) _ hz⟩,⟨by decide,rfl,inn1 trivial⟩,⟨by decide,by kernel_rfl,inn1 trivial⟩,trivial⟩ ?_
 intro i hi
 have hinc:IntKind.i64.wrap ((i:Int)+1)=((i+1:Nat):Int):=wi (i+1) (by omega)
 have hdl:=Z3g ws i
 refine gd 36 ⟨?_⟩
 by_cases hil:i<32
 · refine Z0 (Z4 (v := true) rfl (decide_eq_true (by omega))) rfl rfl ?_
   refine gd 40 ⟨?_⟩
   refine Z8 (v:=((i / 8:Nat):Int)) rfl rfl rfl (by
    rw [show Int.tdiv (i:Int) 8=((i / 8:Nat):Int) from (Int.ofNat_tdiv i 8).symm]
    exact wi _ (by omega)) ?_
   refine Z0 (Z2w rfl rfl (i / 8) rfl (by omega)) rfl rfl ?_
   refine Z0 (Z2Y (kd:=.u64) (L:=ws) (pre := []) (post := []) (o:=0) rfl rfl rfl (by omega)) rfl rfl ?_
   refine gd 44 ⟨?_⟩
   refine Z8 (v:=((i % 8:Nat):Int)) rfl rfl rfl (Int.ofNat_tmod i 8).symm ?_
   refine Z8 (v:=((8*(i % 8):Nat):Int)) rfl rfl rfl (wi (8*(i % 8)) (by omega)) ?_
   refine Z2K rfl rfl (by omega) (shr64 (g0 ws (i / 8)) (8*(i % 8)) (by omega)) rfl ?_
   refine Z8 (v:=((digI ws i:Nat):Int)) rfl rfl rfl (by rw [IntKind.wrap_u8]; rfl) ?_
   refine Z0 (Z2w rfl rfl i rfl (by omega)) rfl rfl ?_
   refine Z0 (Z7w (kd:=.u8) (L:=dPart ws i) (x:=digI ws i) (Eb:=32) (pre := []) (post := []) (o:=0) rfl rfl rfl rfl (by omega) (by omega)) rfl rfl ?_
   rw [ZbU ws hil]
   refine go ?_
   exact⟨i+1,by omega,by omega,⟨⟨rfl,show 1<5 by decide⟩,⟨rfl,show 2<5 by decide⟩,⟨rfl,show 4<5 by decide⟩,⟨by show some _=some _; rw [hinc],trivial⟩,trivial⟩,⟨⟨by decide,rfl,Z4G _ _⟩,⟨by decide,rfl,Za (fun _ h=>h.elim) _ hz⟩,⟨by decide,rfl,inn1 trivial⟩,⟨by decide,rfl,inn1 trivial⟩,trivial⟩⟩
 · obtain rfl : i = 32 := by omega
   refine Z0 (Z4 (v:=false) rfl (decide_eq_false (by omega))) rfl rfl ?_
   rw [← hfin] at hdl
   rw [← hfin]
   have hcl:(crow .u8 (sumOf x)).length=32:=by rw [Zp,hdl]
   generalize hcc:crow .u8 (sumOf x)=cc at hcl
   have hcp:pureL cc:=hcc▸Zv _ _
   refine gd 50 ⟨?_⟩
   refine Z0 (Z50 (l:=cc ++ []) (r:=cc) rfl rfl (by rw [List.append_nil,hcl]; decide) (by rw [List.append_nil,List.drop_zero,List.take_of_length_le (by rw [hcl]; exact Nat.le_refl _)])) rfl rfl ?_
   refine Z0 (Z7C (l:=crow .u8 (List.replicate 32 0)) rfl rfl rfl hcl rfl) rfl rfl ?_
   refine go ?_
   refine⟨_,.agg cc,?_,.inl rfl,_,rfl,hcp,Z2S x,rfl,rfl⟩
   exact Z1M (Z50 (l:=cc ++ []) (r:=cc) rfl rfl (by rw [List.append_nil,hcl]; decide) (by rw [List.append_nil,List.drop_zero,List.take_of_length_le (by rw [hcl]; exact Nat.le_refl _)]))
end Go.Proofs.YtmnbbggaoembeaaGreatDoor
namespace Go.Proofs.YtmnbbggaoembeaaGreatDoor
open Go.RowKit
end Go.Proofs.YtmnbbggaoembeaaGreatDoor
namespace Go.Proofs.YtmnbbggaoembeaaGreatDoor
open Go.RowKit
attribute [local irreducible] aw opsK dK
theorem Z9U:Spec Tryz.prog 120 [setN 0] (· = .vec [] true):=by
 refine Z2 ok120 (Nat.le_of_ble_eq_true rfl) fun C hC=>?_
 refine Zt ?_
 refine Zh ?_
 refine Z3 rfl rfl rfl ?_
 refine gd 9 ⟨?_⟩
 refine Z6 (Z4f 0 (by decide)) rfl rfl rfl ⟨Z1 0,trivial⟩ rfl ?_
 refine go ?_
 exact Z5 rfl trivial rfl
set_option maxHeartbeats 1000000 in
theorem ZbV (N:Nat) (h0:N≠0) (hN:N<256):Spec Tryz.prog 120 [setN N] (· = .vec (bys [N]) false):=by
 have h64:N<18446744073709551616:=by omega
 have hs:setN N=.agg [.vec [[.val (.int .u64 (N:Int))]] false]:=by unfold setN; rw [Z56 h64 h0]; rfl
 have hg:=Z4f N h64
 rw [decide_eq_true h0] at hg
 have hb:=ZeC (k:=8) hN
 have hp:=Z7n h0
 have ht:topN N=(bl N:Int)-1:=by unfold topN; rw [if_neg h0]
 have hq:IntKind.i64.wrap (Int.tdiv (topN N) 8)=0:=by
  rw [ht]
  obtain⟨k,hk⟩:∃ k:Nat,(bl N:Int)-1=(k:Int)∧k<8:=⟨bl N-1,by omega,by omega⟩
  rw [hk.1]
  have:∀ k,k<8→IntKind.i64.wrap (Int.tdiv ((k:Nat):Int) 8)=0:=by decide
  exact this k hk.2
 refine Z2 ok120 (Nat.le_of_ble_eq_true rfl) fun C hC=>?_
 rw [hs]
 refine Zt ?_
 refine Zh ?_
 refine Z3 rfl rfl rfl ?_
 refine gd 9 ⟨?_⟩
 rw [hs] at hg
 refine Z6 hg rfl rfl rfl ⟨⟨⟨⟨trivial,trivial⟩,trivial⟩,trivial⟩,trivial⟩ rfl ?_
 refine gd 15 ⟨?_⟩
 refine Z8 rfl rfl rfl hq ?_
 refine go ?_
 refine Z1V 1 ?_
 unfold roundsQ
 refine gd 34 ⟨?_⟩
 refine Z2K rfl rfl (by decide) (Z35 N 0 (by decide)) rfl ?_
 refine Z8 (v:=(N:Int)) rfl rfl rfl (by
  rw [Nat.pow_zero,Nat.div_one]
  exact IntWalk.u8_in _ ⟨by omega,by omega⟩) ?_
 refine gd 38 ⟨?_⟩
 refine Zj (Zw (k:=5) (b:=⟨1,bys [N]⟩) rfl rfl (Zc [N])) ?_
 refine go ?_
 exact Z5 rfl (Zc [N]) rfl
def bysS (N:Nat):PV:=if N=0 then .vec [] true else .vec (bys [N]) false
theorem Z9V (N:Nat) (hN:N<256):Spec Tryz.prog 120 [setN N] (· = bysS N):=by
 unfold bysS
 by_cases h0:N=0
 · subst h0; rw [if_pos rfl]; exact Z9U
 · rw [if_neg h0]; exact ZbV N h0 hN
def celK (kd:IntKind) (x:Nat):List PV := [.val (.int kd (x:Int))]
def rowsK1 (kd:IntKind) (l:List Nat):List (List PV):=l.map (celK kd)
theorem Z2U (kd:IntKind) (l:List Nat):pureLL (rowsK1 kd l):=Z9 (enc:=celK kd) (fun _=>⟨trivial,trivial⟩) l
theorem Z1N (kd:IntKind) (l:List Nat):(rowsK1 kd l).length=l.length:=by simp [rowsK1]
theorem Z6I (kd:IntKind) (l:List Nat) {j:Nat} (hj:j<l.length):(rowsK1 kd l).getD j []=celK kd (l.getD j 0):=by
 unfold rowsK1
 simp [List.getD_eq_getElem?_getD,hj]
theorem ZgM {kd:IntKind} {e:Env} {h:Heap} {n:Nat} {a:Operand} {k j:Nat} {L:List Nat} (ha:ev e a=some (.ptr k j 0)) (hb:h k=some ⟨1,rowsK1 kd L⟩) (hj:j<L.length) :
 dEval (.load false 1 a) e h n=some (.val (.int kd ((L.getD j 0:Nat):Int)),h) :=
 Z2B ha hb (by rw [Z1N]; exact hj) (by rw [Z6I kd L hj]; rfl)
theorem ZgN {kd:IntKind} {e:Env} {h:Heap} {n:Nat} {a v:Operand} {k j x:Nat} {L:List Nat} (ha:ev e a=some (.ptr k j 0)) (hv:ev e v=some (.val (.int kd (x:Int)))) (hb:h k=some ⟨1,rowsK1 kd L⟩) (hj:j<L.length) :
 dEval (.store 1 a v) e h n=some (pvu,h.upd k ⟨1,rowsK1 kd (L.set j x)⟩):=by
 have:=Z1I (n:=n) (size:=1) ha hv hb rfl rfl (show j<(rowsK1 kd L).length by rw [Z1N]; exact hj) (Nat.le_refl 1)
 rw [this]
 have e1:(rowsK1 kd L).set j (setAt ((rowsK1 kd L).getD j []) 0 (PV.val (.int kd (x:Int))).cells)=rowsK1 kd (L.set j x):=by
  rw [Z6I kd L hj]
  unfold rowsK1
  rw [List.map_set]
  rfl
 simp only
 rw [e1]
def revI (l:List Nat) (i:Nat):List Nat:=(List.range l.length).map fun x=>if x<i ∨ l.length-i≤x then l.getD (l.length-1-x) 0 else l.getD x 0
theorem Z2p (l:List Nat) (i:Nat):(revI l i).length=l.length:=by simp [revI]
theorem Z3A (l:List Nat) (i:Nat) {x:Nat} (hx:x<l.length):(revI l i).getD x 0=if x<i ∨ l.length-i≤x then l.getD (l.length-1-x) 0 else l.getD x 0:=by
 unfold revI
 simp [List.getD_eq_getElem?_getD,hx]
theorem Z5Q {l m:List Nat} (hl:l.length=m.length) (h:∀ x,x<l.length→l.getD x 0=m.getD x 0):l=m:=by
 refine List.ext_getElem hl fun i h1 h2=>?_
 have:=h i h1
 simpa [List.getD_eq_getElem?_getD,h1,h2] using this
theorem ZdD (l:List Nat):revI l 0=l:=Z5Q (Z2p l 0) fun x hx=>by
 rw [Z2p] at hx
 rw [Z3A l 0 hx,if_neg (by omega)]
theorem Zf0 (l:List Nat) {i:Nat} (hi:l.length≤2*i+1):revI l i=l.reverse:=Z5Q (by rw [Z2p,List.length_reverse]) fun x hx=>by
 rw [Z2p] at hx
 rw [Z3A l i hx]
 have hr:l.reverse.getD x 0=l.getD (l.length-1-x) 0:=by
  simp only [List.getD_eq_getElem?_getD]
  rw [List.getElem?_reverse hx]
 rw [hr]
 split
 · rfl
 · rw [show x = l.length - 1 - x by omega]
   rw [show l.length-1-(l.length-1-x)=x by omega]
   rw [show l.length-1-x=x by omega]
theorem Z8t (L:List Nat) (j x y:Nat):(L.set j x).getD y 0=if y=j∧j<L.length then x else L.getD y 0:=by
 simp only [List.getD_eq_getElem?_getD,List.getElem?_set]
 by_cases h:j=y
 · subst h
   by_cases hj:j<L.length
   · simp [hj]
   · simp [hj]
 · rw [if_neg h,if_neg (fun c=>h c.1.symm)]
theorem ZdE (l:List Nat) {i:Nat} (hi:2*i+1<l.length):((revI l i).set i ((revI l i).getD (l.length-1-i) 0)).set (l.length-1-i) ((revI l i).getD i 0)=revI l (i+1):=by
 refine Z5Q (by simp [Z2p]) fun x hx=>?_
 have hx:x<l.length:=by simpa [Z2p] using hx
 rw [Z8t,Z8t,List.length_set,Z2p,Z3A l (i+1) hx,Z3A l i hx,Z3A l i (show l.length-1-i<l.length by omega),Z3A l i (show i<l.length by omega)]
 by_cases h1:x=l.length-1-i
 · rw [if_pos ⟨h1, by omega⟩, if_neg (by omega), if_pos (by omega)]
   rw [h1,show l.length-1-(l.length-1-i)=i by omega]
 · rw [if_neg (fun c => h1 c.1)]
   by_cases h2:x=i
   · rw [if_pos ⟨h2,by omega⟩,if_neg (by omega),if_pos (by omega),h2]
   · rw [if_neg (fun c => h2 c.1)]
     by_cases h3:x<i ∨ l.length-i≤x
     · rw [if_pos h3,if_pos (by omega)]
     · rw [if_neg h3,if_neg (by omega)]
set_option maxHeartbeats 2000000 in
theorem ZbW (l:List Nat) (hl:l.length≤1000000):QSpec Tryz.prog 154 (fun i => [.own i]) ⟨1,rowsK1 .u8 l⟩ fun r b'=>b'=⟨1,rowsK1 .u8 l.reverse⟩:=by
 have hl1:=Z1N .u8 l
 refine Z5M ok154 (Nat.le_of_ble_eq_true rfl) fun C hC=>?_
 refine gd 5 ⟨?_⟩
 refine Z8 (v:=(l.length:Int)) rfl rfl rfl (by rw [hl1]) ?_
 refine Z8 (v:=(l.length:Int)-1-((0:Nat):Int)) rfl rfl rfl (by rw [Int.natCast_zero,Int.sub_zero]; exact IntWalk.i64_in _ ⟨by omega,by omega⟩) ?_
 refine go ?_
 refine Zl hC (fun i=>2*i≤l.length+1) (fun i=>l.length+1-i) 1 (fun i => [(0,.own 0),(2,.val (.int .i64 (i:Int))),(3,.val (.int .i64 ((l.length:Int)-1-(i:Int))))]) (fun i => [(0,⟨1,rowsK1 .u8 (revI l i)⟩)]) (by decide) 0 (by omega)
  ⟨⟨rfl,Nat.zero_lt_one⟩,⟨rfl,trivial⟩,⟨rfl,trivial⟩,trivial⟩ ⟨⟨by decide,by rw [ZdD]; rfl,Za (fun _ h=>h.elim) _ (Z2U _ _)⟩,trivial⟩ ?_
 intro i hi
 have hrl:=Z2p l i
 have hinc:IntKind.i64.wrap ((i:Int)+1)=((i+1:Nat):Int):=IntWalk.i64_in _ ⟨by omega,by omega⟩
 have hdec:IntKind.i64.wrap ((l.length:Int)-1-(i:Int)-1)=(l.length:Int)-1-((i+1:Nat):Int):=by
  rw [show (l.length:Int)-1-(i:Int)-1=(l.length:Int)-1-((i+1:Nat):Int) by omega]
  exact IntWalk.i64_in _ ⟨by omega,by omega⟩
 refine gd 9 ⟨?_⟩
 by_cases hil:2*i+1<l.length
 · refine Z0 (Z4 (v := true) rfl (decide_eq_true (by omega))) rfl rfl ?_
   have hj:l.length-1-i<(revI l i).length:=by omega
   have hi2:i<(revI l i).length:=by omega
   refine gd 20 ⟨?_⟩
   refine Zd (ZJ rfl rfl rfl (l.length-1-i) (by omega) (by rw [Z1N]; exact hj) rfl) rfl rfl ?_
   refine Zd (ZgM (kd:=.u8) (L:=revI l i) rfl rfl hj) rfl rfl ?_
   refine gd 24 ⟨?_⟩
   refine Zd (ZJ rfl rfl rfl i rfl (by rw [Z1N]; exact hi2) rfl) rfl rfl ?_
   refine Zd (ZgM (kd:=.u8) (L:=revI l i) rfl rfl hi2) rfl rfl ?_
   refine Zd (ZJ rfl rfl rfl i rfl (by rw [Z1N]; exact hi2) rfl) rfl rfl ?_
   refine Zd (ZgN (kd:=.u8) (L:=revI l i) rfl rfl rfl hi2) rfl rfl ?_
   refine Zd (ZJ rfl rfl rfl (l.length-1-i) (by omega) (by rw [Z1N,List.length_set]; exact hj) rfl) rfl rfl ?_
   refine Zd (ZgN (kd:=.u8) rfl rfl rfl (by rw [List.length_set]; exact hj)) rfl rfl ?_
   rw [ZdE l hil]
   refine go ?_
   exact⟨i+1,by omega,by omega,⟨⟨rfl,Nat.zero_lt_one⟩,⟨by show some _=some _; rw [hinc],trivial⟩,⟨by show some _=some _; rw [hdec],trivial⟩,trivial⟩,⟨⟨by decide,rfl,Za (fun _ h=>h.elim) _ (Z2U _ _)⟩,trivial⟩⟩
 · refine Z0 (Z4 (v := false) rfl (decide_eq_false (by omega))) rfl rfl ?_
   refine go ?_
   exact⟨_,_,rfl,.inl rfl,_,rfl,trivial,Z2U _ _,by rw [Zf0 l (by omega)]⟩
end Go.Proofs.YtmnbbggaoembeaaGreatDoor
namespace Go.Proofs.YtmnbbggaoembeaaGreatDoor
open Go.RowKit
def kid1 (q:List PV) (i:Nat):Bx:=⟨q.length+1,[.own i :: q]⟩
section
variable {P:Program} {C:Ctx} {Fr:Nat→Prop} {e:Env} {h:Heap} {n:Nat} {F:Froz} {φ:Locs} {a:Act} {w:World}
theorem ObAt.kid1 {φ':Locs} {loc:Loc} {q:List PV} {i i':Nat} (h2:ObAt F φ w loc (kid1 q i)) (hi:φ i=φ' i') (hq:pureL q):ObAt F φ' w loc (Go.Proofs.YtmnbbggaoembeaaGreatDoor.kid1 q i'):=by
 have h2:=h2.cellsB (show 0<q.length+1 by omega)
 refine .inl ⟨h2.esz,h2.pos,h2.len,h2.cap,h2.max,fun c hc=>?_,fun hc=>?_⟩
 · have hc : c ∈ [PV.own i' :: q] := hc
   rw [List.mem_singleton] at hc
   subst hc
   rw [← h2.esz]; rfl
 · obtain ⟨x, hx, hs, cells, t, hg, hsz, hrep⟩ := h2.room hc
   refine⟨x,hx,hs,cells,t,hg,hsz,fun a b ha hb=>⟨(hrep a b ha hb).1,?_⟩⟩
   have hr:=(hrep a b ha hb).2
   have hl:loc.len=1:=by rw [← h2.len]; rfl
   obtain rfl:a=0:=by omega
   match b,hr with
   | 0,hr=>exact Zdp hi hr
   | b+1,hr=>exact Rep.pure (p:=q.getD b pvu) hr (ZF hq b)
def K1Spec (P:Program) (f:FuncId) (pre post q:List PV) (b1:Bx) (R:PV→Bx→Prop):Prop :=
 ISpec P f 2 (pre++.ptr 0 0 0 :: post) (heapL [(0,kid1 q 1),(1,b1)]) fun n' r h'=>∃ j1 b1',j1≠0∧h' 0=some (kid1 q j1)∧h' j1=some b1'∧r.pure∧pureLL b1'.elems∧R r b1'
theorem K1Spec.run {f:FuncId} {pre post q:List PV} {b1:Bx} {R:PV→Bx→Prop} (hs:K1Spec P f pre post q b1 R) (hpre:pureL pre) (hpost:pureL post) (hq:pureL q) (hp1:pureLL b1.elems) {k i n:Nat} (hn:Fr n) (hk:h k=some (kid1 q i)) (hi:h i=some b1) (hik:i≠k)
 (s:St' C Fr e h F φ a w) {vs:Array Value} (hv:RepL F φ vs (pre++.ptr k 0 0 :: post)) :
 Calls P f vs w fun en w'=>∃ v r b1' F' φ',en=.returned v∧(r.pure∧pureLL b1'.elems∧R r b1')∧Rep F' φ' v r∧St' C (fun x=>Fr x∧x≠n) e (((h.del i).upd k (kid1 q n)).upd n b1') F' φ' a w':=by
 obtain⟨lk,hlk,hbk,hhk⟩:=s.live k _ hk
 obtain⟨li,hli,hbi,hhi⟩:=s.live i _ hi
 let φ1:Locs:=fun x=>if x=0 then some lk else if x=1 then some li else none
 let C1:Ctx:=⟨w,fun g=>lk.has g ∨ li.has g,F,C.nt,φ1⟩
 have hφn:φ n=none:=s.free n hn
 have hnone:∀ {x:Nat} {bx:Bx},h x=some bx→x≠n:=by
  intro x bx hx
  obtain⟨loc,h1,_⟩:=s.live x bx hx
  exact fun e=>(by rw [e,hφn] at h1; cases h1)
 have hG:∀ g,C1.G g→C.w0.heap.size≤g ∨ C.G g:=fun g hg=>hg.elim (fun h=>(hhk g h).1) fun h=>(hhi g h).1
 have hth:∀ {loc:Loc} {b:Bx} {g:Nat},ObAt F φ w loc b→loc.has g→∀ o:Obj,w.heap[g]?=some o→¬ o=.deferred (some []):=by
  rintro loc b g hb hg o ho rfl
  rcases hb.there hg with⟨cells,t,hg⟩|⟨es,t,hg⟩
  · rw [hg] at ho; cases ho
  · rw [hg] at ho; cases ho
 have hcells:∀ g,C1.G g→∀ o:Obj,w.heap[g]?=some o→¬ o=.deferred (some []):=fun g hg=>hg.elim (hth hbk) (hth hbi)
 have h0:∀ {x:Nat} {b0:Bx},(heapL [(0,kid1 q 1),(1,b1)]) x=some b0→(x=0∧b0=kid1 q 1) ∨ (x=1∧b0=b1):=by
  intro x b0 hx
  have:=Z1w hx
  simp only [List.mem_cons,Prod.mk.injEq,List.not_mem_nil,or_false] at this
  exact this
 have s1:St' C1 (fun x=>2≤x) (fun _=>none) (heapL [(0,kid1 q 1),(1,b1)]) F φ1 { a with defers := [] } w:=by
  refine { nt:=s.nt,glob:=s.glob,marks:=Marks.nil rfl,loc0:=fun i x hx=>hx,free:=fun i hi=>?_,env:=fun j p hp=>(by cases hp),froz:=s.froz,ext:=fun _ _ h=>h,old:=fun _ _ _=>rfl,os:=rfl,tape:=rfl,output:=rfl,size:=Nat.le_refl _,kept:=fun _ _ _=>rfl,live:=fun x b0 hx=>?_,sep:=fun x y bx bY lx ly g hx hy hlx hly hgx hgy=>?_ }
  · simp only [φ1]; rw [if_neg (by omega),if_neg (by omega)]
  · rcases h0 hx with ⟨rfl, rfl⟩ | ⟨rfl, rfl⟩
    · exact⟨lk,rfl,hbk.kid1 (by rw [hli]; rfl) hq,fun g hg=>⟨.inr (.inl hg),(hhk g hg).2⟩⟩
    · exact⟨li,rfl,hbi.names hp1,fun g hg=>⟨.inr (.inr hg),(hhi g hg).2⟩⟩
  · rcases h0 hx with ⟨rfl, rfl⟩ | ⟨rfl, rfl⟩ <;> rcases h0 hy with ⟨rfl, rfl⟩ | ⟨rfl, rfl⟩ <;> first | rfl | skip
    all_goals
     obtain rfl:=Option.some.inj hlx
     obtain rfl:=Option.some.inj hly
     exfalso
    · exact hik (s.sep k i _ _ _ _ g hk hi hlk hli hgx hgy).symm
    · exact hik (s.sep i k _ _ _ _ g hi hk hli hlk hgx hgy)
 have hv1:RepL F φ1 vs (pre++.ptr 0 0 0 :: post):=ZbR hpre hpost (fun v hr=>by
  obtain⟨loc',x,g1,gz,g2,g3,g4⟩:=hr.ptr_inv
  obtain rfl:loc'=lk:=by rw [hlk] at g1; simpa using g1.symm
  rw [g4]
  exact .ptr 0 0 0 loc' x rfl gz g2 g3) hv
 refine (hs.2 C1 _ F φ1 { a with defers := [] } w vs s1 hv1).mono ?_
 rintro en w' ⟨v,r,n',h',F',φ',rfl,⟨j1,b1',hj10,hh0,hh1,hrp,hp1',hR⟩,hvr,s'⟩
 obtain⟨l0,m01,m02,m03⟩:=s'.live 0 _ hh0
 obtain⟨l1,m11,m12,m13⟩:=s'.live j1 _ hh1
 obtain rfl:l0=lk:=by
  have:=s'.loc0 0 lk rfl
  rw [m01] at this; exact Option.some.inj this
 let φ2:Locs:=fun x=>if x=n then some l1 else φ x
 have hφ2:φ2 n=some l1:=by simp [φ2]
 have hφ3:∀ {x:Nat},x≠n→φ2 x=φ x:=fun {x} h1=>by simp only [φ2]; rw [if_neg h1]
 have hφ4:∀ x y,φ x=some y→φ2 x=some y:=fun x y hx=>by
  rw [hφ3 (fun e=>by rw [e,hφn] at hx; cases hx)]; exact hx
 have hkn:=hnone hk
 have src:∀ {x:Nat} {bx:Bx},(((h.del i).upd k (kid1 q n)).upd n b1') x=some bx →
  (x=n∧bx=b1') ∨ (x=k∧bx=kid1 q n) ∨ (x≠k∧x≠i∧h x=some bx):=by
  intro x bx hx
  by_cases e2:x=n
  · subst e2; rw [Heap.upd_same] at hx; exact .inl ⟨rfl,(Option.some.inj hx).symm⟩
  rw [Heap.upd_ne _ _ e2] at hx
  by_cases e3:x=k
  · subst e3; rw [Heap.upd_same] at hx; exact .inr (.inl ⟨rfl,(Option.some.inj hx).symm⟩)
  rw [Heap.upd_ne _ _ e3] at hx
  obtain⟨e5,hx⟩:=Heap.del_some hx
  exact .inr (.inr ⟨e3,e5,hx⟩)
 have hold:∀ {x:Nat} {bx:Bx} {lx:Loc} {g:Nat},x≠k→x≠i→h x=some bx→φ x=some lx→lx.has g→¬ C1.G g:=by
  intro x bx lx g h1 h2 hx hlx hg hG
  rcases hG with hg' | hg'
  · exact h1 (s.sep x k _ _ _ _ g hx hk hlx hlk hg hg')
  · exact h2 (s.sep x i _ _ _ _ g hx hi hlx hli hg hg')
 have hnew:∀ {lx:Loc} {g:Nat},(w.heap.size≤g ∨ C1.G g)→C.w0.heap.size≤g ∨ C.G g:=fun {lx g} h1=>h1.elim (fun h1=>.inl (Nat.le_trans s.size h1)) (hG g)
 refine⟨v,r,b1',F',φ2,rfl,⟨hrp,hp1',hR⟩,hvr.pure hrp,?_⟩
 refine { nt := s.nt, glob := s'.glob, marks := s.marks.mono (fun g hg => by rw [s'.kept g (Array.getElem?_eq_some_iff.1 hg).1 (fun hg' => hcells g hg' _ hg rfl)]; exact hg), loc0 := fun i x hx => hφ4 i x (s.loc0 i x hx), free := fun x hx => by rw [hφ3 hx.2]; exact s.free x hx.1, env := fun j p hp => ⟨(s.env j p hp).1, (s.env j p hp).2.mono s'.ext hφ4⟩, froz := s'.froz, ext := fun x v hx => s'.ext _ _ (s.ext x v hx),
          old:=fun x hx hg=>?_,os:=s'.os.trans s.os,tape:=s'.tape.trans s.tape,output:=s'.output.trans s.output,size:=Nat.le_trans s.size s'.size,kept:=fun g hk hg=>?_,live:=fun x bx hx=>?_,sep:=fun x y bx bY lx ly g hx hy hlx hly hgx hgy=>?_ }
 · have hx2 : x.block < w.heap.size := Nat.lt_of_lt_of_le hx s.size
   rw [s'.old x hx2 fun hg'=>(hG _ hg').elim (fun h1=>absurd hx (Nat.not_lt.2 h1)) hg]
   exact s.old x hx hg
 · rw [s'.kept g (Nat.lt_of_lt_of_le hk s.size) fun hg' => (hG _ hg').elim (fun h1 => absurd hk (Nat.not_lt.2 h1)) hg]
   exact s.kept g hk hg
 · rcases src hx with ⟨rfl, rfl⟩ | ⟨rfl, rfl⟩ | ⟨h1, h2, hx⟩
   · exact⟨l1,hφ2,m12.names hp1',fun g hg=>⟨hnew (lx:=l1) (m13 g hg).1,(m13 g hg).2⟩⟩
   · exact⟨l0,hφ4 _ _ hlk,m02.kid1 (by rw [m11,hφ2]) hq,fun g hg=>⟨(hhk g hg).1,(m03 g hg).2⟩⟩
   · obtain ⟨lx, g1, g2, g3⟩ := s.live x bx hx
     have hout:∀ g,lx.has g→¬ C1.G g:=fun g hg=>hold h1 h2 hx g1 hg
     have hblk:∀ g,lx.has g→w'.heap[g]?=w.heap[g]?:=fun g hg=>s'.kept g (s.has_lt hx g1 hg) (hout g hg)
     have hne:=hnone hx
     refine⟨lx,by rw [hφ3 hne]; exact g1,g2.mono s'.ext hφ4 hblk,fun g hg=>⟨(g3 g hg).1,fun z hz=>?_⟩⟩
     rw [s'.old z (by rw [hz]; exact s.has_lt hx g1 hg) (by rw [hz]; exact hout g hg)]
     exact (g3 g hg).2 z hz
 · have cls : ∀ {x : Nat} {bx : Bx} {lx : Loc} {g : Nat}, (((h.del i).upd k (kid1 q n)).upd n b1') x = some bx → φ2 x = some lx → lx.has g →
    (h x=some bx∧φ x=some lx∧g<w.heap.size∧¬ C1.G g) ∨ ((w.heap.size≤g ∨ C1.G g)∧∃ y b',h' y=some b'∧φ' y=some lx∧((x=n∧y=j1) ∨ (x=k∧y=0))):=by
    intro x bx lx g hx hlx hg
    rcases src hx with⟨rfl,rfl⟩|⟨rfl,rfl⟩|⟨h1,h2,hx⟩
    · rw [hφ2] at hlx; cases hlx
      exact .inr ⟨(m13 g hg).1,j1,_,hh1,m11,.inl ⟨rfl,rfl⟩⟩
    · rw [hφ4 _ _ hlk] at hlx; cases hlx
      exact .inr ⟨(m03 g hg).1,0,_,hh0,m01,.inr ⟨rfl,rfl⟩⟩
    · have hne := hnone hx
      rw [hφ3 hne] at hlx
      exact .inl ⟨hx,hlx,s.has_lt hx hlx hg,hold h1 h2 hx hlx hg⟩
   rcases cls hx hlx hgx with⟨a1,a2,a3,a4⟩|⟨a1,y1,c1,a2,a3,a4⟩<;>rcases cls hy hly hgy with⟨d1,d2,d3,d4⟩|⟨d1,y2,c2,d2,d3,d4⟩
   · exact s.sep x y bx bY lx ly g a1 d1 a2 d2 hgx hgy
   · rcases d1 with d1 | d1
     · omega
     · exact absurd d1 a4
   · rcases a1 with a1 | a1
     · omega
     · exact absurd a1 d4
   · have := s'.sep y1 y2 c1 c2 lx ly g a2 d2 a3 d3 hgx hgy
     subst this
     rcases a4 with⟨rfl,rfl⟩|⟨rfl,rfl⟩<;>rcases d4 with⟨rfl,e⟩|⟨rfl,e⟩<;>first|rfl|omega
theorem K1Spec.frame {f:FuncId} {pre post q:List PV} {b1:Bx} {R:PV→Bx→Prop} (hs:K1Spec P f pre post q b1 R) (hpre:pureL pre) (hpost:pureL post) (hq:pureL q) (hp1:pureLL b1.elems) {k i n:Nat} (hk:h k=some (kid1 q i)) (hi:h i=some b1) (hik:i≠k) :
 ISpec P f n (pre++.ptr k 0 0 :: post) h fun n' r h'=>∃ b1',n'=n+1∧h'=((h.del i).upd k (kid1 q n)).upd n b1'∧r.pure∧pureLL b1'.elems∧R r b1':=by
 refine⟨hs.1,fun C e F φ a w vs s hv=>(hs.run hpre hpost hq hp1 (n:=n) (Nat.le_refl n) hk hi hik s hv).mono ?_⟩
 rintro en w' ⟨v,r,b1',F',φ',rfl,⟨h1,h2,h3⟩,hr,s'⟩
 exact⟨v,r,n+1,_,F',φ',rfl,⟨b1',rfl,rfl,h1,h2,h3⟩,hr,{ s' with free:=fun i hi=>s'.free i ⟨by omega,by omega⟩ }⟩
theorem ZT {f:Operand} {args:List Operand} {g:FuncId} {caps as0 pre post q:List PV} {b1:Bx} {k i:Nat} {R:PV→Bx→Prop} {d:Option Nat} {os:List AOper} {n:Nat} {K:Nat→Env→Heap→Prop} (hs:K1Spec P g pre post q b1 R) (hf:ev e f=some (.fn g caps)) (ha:evs e args=some as0) (hr:as0++caps=pre++.ptr k 0 0 :: post) (hk:h k=some (kid1 q i)) (hi:h i=some b1) (hik:i≠k) (hpre:pureL pre) (hpost:pureL post) (hq:pureL q) (hp1:pureLL b1.elems)
 (hK:∀ r b1',r.pure→pureLL b1'.elems→R r b1'→opsK P os (n+1) (updO e d r) (((h.del i).upd k (kid1 q n)).upd n b1') K):opsK P (⟨d,.call f args,none⟩ :: os) n e h K:=by
 refine Z2e hf ha (R:=fun n' r h'=>∃ b1',n'=n+1∧h'=((h.del i).upd k (kid1 q n)).upd n b1'∧r.pure∧pureLL b1'.elems∧R r b1') (by rw [hr]; exact hs.frame hpre hpost hq hp1 hk hi hik) ?_
 rintro n' r h' ⟨b1',rfl,rfl,h1,h2,h3⟩
 exact hK r b1' h1 h2 h3
theorem Z2q {f nt:Nat} {ac:ACode} {rs:List ARes} (hf:FnOk P f nt ac rs) {pre post q:List PV} {b1:Bx} {R:PV→Bx→Prop} (hn:(pre++.ptr 0 0 0 :: post).length≤nt)
 (hk:∀ C:Ctx,C.dom 2→aw P C ac (retI rs fun n' r h'=>∃ j1 b1',j1≠0∧h' 0=some (kid1 q j1)∧h' j1=some b1'∧r.pure∧pureLL b1'.elems∧R r b1') 2 (argEnv (pre++.ptr 0 0 0 :: post)) (heapL [(0,kid1 q 1),(1,b1)])):K1Spec P f pre post q b1 R :=
 Z2d hf hn hk
theorem Z62 {ob i0 j0:Nat} {bo:Bx} (esz:Nat) (hp:0<esz) (hob:h ob=some bo) (hi0:i0<bo.elems.length) (hj0:j0<(bo.elems.getD i0 []).length) (hcell:(bo.elems.getD i0 []).getD j0 pvu=.vec [] true) (hz:0<bo.esz:=by exact Nat.le_of_ble_eq_true rfl) :
 Sub C n e h (n+1) e ((h.upd n ⟨esz,[]⟩).upd ob ⟨bo.esz,bo.elems.set i0 ((bo.elems.getD i0 []).set j0 (.own n))⟩):=by
 rintro a w ⟨F,φ,s⟩
 obtain⟨lo,o1,o2,o3⟩:=s.live ob bo hob
 have o2:=o2.cellsB hz
 have hcl:(bo.elems.getD i0 []).length=lo.esz:=o2.el _ (by simp [List.getD_eq_getElem?_getD,hi0])
 have hc0o:lo.cap≠0:=by have:=o2.cap; have:=o2.len; omega
 obtain⟨ado,hbaseo,hso,cellso,cto,hgo,hroomo,hrepo⟩:=o2.room hc0o
 have hr0:=(hrepo i0 j0 (by rw [← o2.len]; exact hi0) (by rw [← hcl]; exact hj0)).2
 rw [hcell] at hr0
 have hbase:∃ base,cellso.getD (ado.off+(i0*lo.esz+j0)) undef=.slice base 0 0:=by
  rcases hr0.vec_inv with⟨_,h⟩|⟨x,cap,esz',cs,h,_,_,hf,_⟩
  · exact⟨none,h⟩
  · exact⟨some x,by rw [h,hf rfl]; rfl⟩
 obtain⟨base,hb⟩:=hbase
 have hno:ob≠n:=fun e1=>by
  have:=s.free n (Nat.le_refl n)
  rw [← e1,o1] at this; cases this
 have hfr:∀ i,n+1≤i→n≤i∧i≠n:=fun i hi=>⟨by omega,by omega⟩
 have s1:=(s.allocNil (Nat.le_refl n) base esz hp).weaken hfr
 have hext:=Z1a (s.free n (Nat.le_refl n)) ⟨base,esz,0,0⟩
 have o1':=hext _ _ o1
 have hdel:(h.upd n ⟨esz,[]⟩) ob=some bo:=by rw [Heap.upd_ne _ _ hno]; exact hob
 have fin:∀ {φ':Locs},(∀ x v,φ x=some v→φ' x=some v)→φ' ob=some lo→St' C (fun i=>n+1≤i) e (h.upd n ⟨esz,[]⟩) F φ' a w→Rep F φ' (cellso.getD (ado.off+(i0*lo.esz+j0)) undef) (.own n) →
  St C (fun i=>n+1≤i) e ((h.upd n ⟨esz,[]⟩).upd ob ⟨bo.esz,bo.elems.set i0 ((bo.elems.getD i0 []).set j0 (.own n))⟩) a w:=by
  intro φ' hx ho' s2 hrep
  refine⟨F,φ',{ s2 with live:=fun i bi hi=>?_,sep:=fun i j bi bj li lj k hi hj hli hlj hki hkj=>?_ }⟩
  · by_cases hio : i = ob
    · subst hio
      rw [Heap.upd_same] at hi
      cases hi
      obtain⟨l2,g1,g2,g3⟩:=s2.live i bo hdel
      obtain rfl:l2=lo:=by rw [g1] at ho'; simpa using ho'
      refine⟨l2,g1,.inl ⟨o2.esz,o2.pos,by simpa using o2.len,o2.cap,o2.max,fun c hc=>?_,fun _=>⟨ado,hbaseo,hso,cellso,cto,hgo,hroomo,fun i' j' hi' hj'=>?_⟩⟩,g3⟩
      · rcases List.mem_or_eq_of_mem_set hc with h | h
        · exact o2.el c h
        · rw [h,List.length_set]; exact hcl
      · refine ⟨(hrepo i' j' hi' hj').1, ?_⟩
        by_cases hii:i'=i0
        · subst hii
          have e1:(bo.elems.set i' ((bo.elems.getD i' []).set j0 (.own n))).getD i' []=(bo.elems.getD i' []).set j0 (.own n):=by
           rw [List.getD_eq_getElem?_getD,List.getElem?_set]; simp [hi0]
          rw [e1]
          by_cases hjj:j'=j0
          · subst hjj
            have e2:((bo.elems.getD i' []).set j' (.own n)).getD j' pvu=.own n:=by
             rw [List.getD_eq_getElem?_getD,List.getElem?_set,if_pos rfl,if_pos hj0]; rfl
            rw [e2]
            exact hrep
          · have e2 : ((bo.elems.getD i' []).set j0 (.own n)).getD j' pvu = (bo.elems.getD i' []).getD j' pvu := by
             rw [List.getD_eq_getElem?_getD,List.getElem?_set,if_neg (Ne.symm hjj),← List.getD_eq_getElem?_getD]
            rw [e2]
            exact (hrepo i' j' hi' hj').2.mono (fun _ _ h=>h) hx
        · have e1 : (bo.elems.set i0 ((bo.elems.getD i0 []).set j0 (.own n))).getD i' [] = bo.elems.getD i' [] := by
           rw [List.getD_eq_getElem?_getD,List.getElem?_set,if_neg (Ne.symm hii),← List.getD_eq_getElem?_getD]
          rw [e1]
          exact (hrepo i' j' hi' hj').2.mono (fun _ _ h=>h) hx
    · rw [Heap.upd_ne _ _ hio] at hi
      exact s2.live i bi hi
  · have conv : ∀ {i : Nat} {bi : Bx}, ((h.upd n ⟨esz, []⟩).upd ob ⟨bo.esz, bo.elems.set i0 ((bo.elems.getD i0 []).set j0 (.own n))⟩) i = some bi → ∃ b0, (h.upd n ⟨esz, []⟩) i = some b0 := by
     intro i bi hi
     by_cases hio:i=ob
     · subst hio; exact⟨bo,hdel⟩
     · rw [Heap.upd_ne _ _ hio] at hi; exact⟨bi,hi⟩
    obtain⟨b1,g1⟩:=conv hi
    obtain⟨b2,g2⟩:=conv hj
    exact s2.sep i j b1 b2 li lj k g1 g2 hli hlj hki hkj
 refine fin hext o1' s1 ?_
 rw [hb]
 exact .own n ⟨base,esz,0,0⟩ (by simp [locUpd]) hp
theorem Z2j {ob i0 j0:Nat} {bo:Bx} (esz:Nat) (hp:0<esz) (hob:h ob=some bo) (hi0:i0<bo.elems.length) (hj0:j0<(bo.elems.getD i0 []).length) (hcell:(bo.elems.getD i0 []).getD j0 pvu=.vec [] true) (hz:0<bo.esz:=by exact Nat.le_of_ble_eq_true rfl) :
 SubA n e h (n+1) e ((h.upd n ⟨esz,[]⟩).upd ob ⟨bo.esz,bo.elems.set i0 ((bo.elems.getD i0 []).set j0 (.own n))⟩):=fun _=>Z62 esz hp hob hi0 hj0 hcell hz
end
end Go.Proofs.YtmnbbggaoembeaaGreatDoor
namespace Go.Proofs.YtmnbbggaoembeaaGreatDoor
open Go.RowKit
attribute [local irreducible] aw opsK dK
def gR:Nat→Nat→List Nat
 | 0,_ => []
 | f+1,v=>if v=0 then [] else ((v &&& 127) ||| 128) :: gR f (v / 128)
def grp (v:Nat):List Nat:=((v &&& 127) :: gR v (v / 128)).reverse
theorem Z9W:∀ (f f' v:Nat),v≤f→v≤f'→gR f v=gR f' v
 | 0,0,_,_,_=>rfl
 | 0, f' + 1, v, h, _ => by
   obtain rfl:v=0:=by omega
   rfl
 | f + 1, 0, v, _, h => by
   obtain rfl:v=0:=by omega
   rfl
 | f + 1, f' + 1, v, h, h' => by
   show (if v=0 then [] else _)=(if v=0 then [] else _)
   split
   · rfl
   · rw [Z9W f f' (v / 128) (by omega) (by omega)]
theorem Zg2 (f:Nat):gR f 0 = []:=by cases f<;>rfl
theorem Zg3 {v:Nat} (h:v≠0):gR v v=((v &&& 127) ||| 128) :: gR (v / 128) (v / 128):=by
 obtain⟨f,rfl⟩:∃ f,v=f+1:=⟨v-1,by omega⟩
 show (if f+1=0 then [] else ((f+1 &&& 127) ||| 128) :: gR f ((f+1) / 128))=_
 rw [if_neg (by omega),Z9W f ((f+1) / 128) ((f+1) / 128) (by omega) (Nat.le_refl _)]
theorem Zfk:∀ (f v:Nat),(gR f v).length≤v
 | 0,v=>Nat.zero_le _
 | f + 1, v => by
   show (if v=0 then [] else ((v &&& 127) ||| 128) :: gR f (v / 128)).length≤v
   split
   · exact Nat.zero_le _
   · have := Zfk f (v / 128)
     rw [List.length_cons]
     omega
theorem Z1n (v:Nat):(grp v).length≤v+1:=by
 unfold grp
 rw [List.length_reverse,List.length_cons]
 have:=Zfk v (v / 128)
 omega
theorem Zhi:∀ (f v:Nat),W8 (gR f v)
 | 0,_=>fun _ hx=>by cases hx
 | f + 1, v => fun x hx => by
   change x∈(if v=0 then [] else ((v &&& 127) ||| 128) :: gR f (v / 128)) at hx
   split at hx
   · cases hx
   · rcases List.mem_cons.1 hx with rfl | hx
     · exact Nat.or_lt_two_pow (n:=8) (Nat.lt_of_le_of_lt Nat.and_le_right (by decide)) (by decide)
     · exact Zhi f _ x hx
theorem Z8u (v:Nat):W8 (grp v):=fun x hx=>by
 rcases List.mem_cons.1 (List.mem_reverse.1 hx) with rfl|hx
 · exact Nat.lt_of_le_of_lt Nat.and_le_right (by decide)
 · exact Zhi _ _ x hx
theorem Z7E (l m:List Nat):bys (l++m)=bys l++bys m:=by unfold bys; rw [List.map_append]
theorem Z5R (l:List Nat):(bys l).length=l.length:=by simp [bys]
theorem ZdF (l:List Nat):∀ c∈bys l,c.length=1:=fun c hc=>by obtain⟨y,_,rfl⟩:=List.mem_map.1 hc; rfl
set_option maxHeartbeats 2000000 in
theorem Zf1 (v:Nat) (hv:v<1000000):Spec Tryz.prog 118 [.val (.int .u64 (v:Int))] (· = .vec (bys (grp v)) false):=by
 refine Z2 ok118 (Nat.le_of_ble_eq_true rfl) fun C hC=>?_
 have hshr:∀ x:Nat,Int.fdiv (x:Int) (2 ^ (min ((7:Nat):Int).toNat IntKind.u64.bits))=((x / 128:Nat):Int):=fun x=>shr64 x 7 (by decide)
 have hand:∀ x:Nat,x<1000000→bits .and .u64 (x:Int) ((127:Nat):Int)=((x &&& 127:Nat):Int):=fun x hx=>bits_and_u64_nat x 127 (by omega) (by decide)
 have hu8:∀ x:Nat,IntKind.u8.wrap ((x &&& 127:Nat):Int)=((x &&& 127:Nat):Int):=fun x=>by
  have:x &&& 127≤127:=Nat.and_le_right
  exact IntWalk.u8_in _ ⟨by omega,by omega⟩
 refine gd 5 ⟨?_⟩
 refine Z8 (v:=((v &&& 127:Nat):Int)) rfl rfl rfl (hand v hv) ?_
 refine Z8 (v:=((v &&& 127:Nat):Int)) rfl rfl rfl (hu8 v) ?_
 refine Z5i rfl rfl rfl ?_
 refine gd 9 ⟨?_⟩
 refine Z2K rfl rfl (by decide) (hshr v) rfl ?_
 refine go ?_
 refine Z1d hC (fun x:List Nat×Nat=>x.2<1000000∧x.1.length+x.2≤v+1∧x.1++gR x.2 x.2=(v &&& 127) :: gR v (v / 128)) (fun x=>x.2) 1 (fun x => [(0,.val (.int .u64 (x.2:Int))),(3,.own 0)]) (fun x => [(0,⟨1,bys x.1⟩)]) (by decide) ([v &&& 127],v / 128) ⟨by show v / 128<_; omega,by show 1+v / 128≤_; omega,by show _ :: gR (v / 128) (v / 128)=_; rw [Z9W (v / 128) v (v / 128) (Nat.le_refl _) (by omega)]⟩
  (fun i=>i) (fun _ _=>rfl) (ZR rfl) ⟨⟨_,rfl,.pure _ trivial⟩,⟨_,rfl,.own 0 (by decide)⟩,trivial⟩ ⟨⟨by decide,⟨1,bys [v &&& 127]⟩,rfl,.same _ (Zc _)⟩,trivial⟩ ?_
 rintro⟨acc,y⟩ ⟨hy,hyl,hyt⟩
 dsimp only at hy hyl hyt
 refine gd 11 ⟨?_⟩
 by_cases h0:y=0
 · refine Z0 (Z4 (v := false) rfl (decide_eq_false (by show ¬ ((y : Int) > 0); omega))) rfl rfl ?_
   rw [h0,Zg2,List.append_nil] at hyt
   refine gd 22 ⟨?_⟩
   refine ZgA 0 (ZbW acc (by omega)) (Z7v Z69 Zde) rfl rfl rfl rfl (Zc _) ?_
   rintro r b' hr1 hr2 rfl
   refine gd 23 ⟨?_⟩
   refine Zj (Zw (k:=3) (b:=⟨1,rowsK1 .u8 acc.reverse⟩) rfl rfl (Z2U _ _)) ?_
   refine go ?_
   exact Z5 rfl (Zc _) (by show PV.vec (bys acc.reverse) false=_; rw [hyt]; rfl)
 · refine Z0 (Z4 (v := true) rfl (decide_eq_true (by show ((y : Int) > 0); omega))) rfl rfl ?_
   rw [Zg3 h0] at hyt
   refine gd 16 ⟨?_⟩
   refine Z8 (v:=((y &&& 127:Nat):Int)) rfl rfl rfl (hand y hy) ?_
   refine Z8 (v:=((y &&& 127:Nat):Int)) rfl rfl rfl (hu8 y) ?_
   refine Z8 (v:=(((y &&& 127) ||| 128:Nat):Int)) rfl rfl rfl (u8_or_nat (y &&& 127) 128 (Nat.lt_of_le_of_lt Nat.and_le_right (by decide)) (by decide)) ?_
   (first|refine st ?_|(apply B<;>intro hb<;>try cases hb))
   refine ZU (ZQ (k:=0) (m:=bys [(y &&& 127) ||| 128]) (fl:=true) rfl rfl rfl (ZdF _) rfl (by
    show ((bys acc).length+1)*1≤_
    rw [Z5R];omega)) rfl rfl ?_
   refine gd 13 ⟨?_⟩
   refine Z2K rfl rfl (by decide) (hshr y) rfl ?_
   refine go ?_
   refine⟨(acc ++ [(y &&& 127) ||| 128],y / 128),mv 0 1,⟨by show y / 128<_; omega,by show (acc ++ [_]).length+y / 128≤_; rw [List.length_append,List.length_singleton]; omega,by show (acc ++ [_])++gR (y / 128) (y / 128)=_; rw [List.append_assoc]; exact hyt⟩,by show y / 128<y; omega,Z6k (by decide),ZR rfl,⟨⟨_,rfl,.pure _ trivial⟩,⟨_,rfl,.own 0 (by decide)⟩,trivial⟩,⟨⟨by decide,_,rfl,by rw [Z7E]; exact .same _ (by rw [← Z7E]; exact Zc _)⟩,trivial⟩⟩
abbrev wBx (l:List Nat):Bx:=⟨1,bys l⟩
theorem Zf2 (l p:List Nat) (fl:Bool) (hb:l.length+p.length≤1000000):K1Spec Tryz.prog 117 [] [.vec (bys p) fl] [] (wBx l) (fun _ b'=>b'=wBx (l++p)):=by
 refine Z2q ok117 (Nat.le_of_ble_eq_true rfl) fun C hC=>?_
 refine gd 12 ⟨?_⟩
 refine ZU (ZQ (k:=1) (m:=bys p) (fl:=fl) (b:=wBx l) rfl rfl rfl (ZdF _) rfl (by
  show ((bys l).length+(bys p).length)*1≤_
  rw [Z5R,Z5R];omega)) rfl rfl ?_
 iterate 2 (first|refine st ?_|(apply B<;>intro hb<;>try cases hb))
 refine Z0 (Z1I (size:=1) (k:=0) (i:=0) (off:=0) (b:=kid1 [] 1) (p:=.own 2) rfl rfl rfl rfl rfl (by decide) (by decide)) rfl rfl ?_
 refine go ?_
 exact⟨_,_,rfl,.inl rfl,2,_,by decide,rfl,rfl,trivial,by show pureLL (bys l++bys p); rw [← Z7E]; exact Zc _,by show (⟨1,bys l++bys p⟩:Bx)=_; rw [← Z7E]⟩
theorem Z4U (l:List Nat) (v:Nat) (hv:v<1000000) (hb:l.length+v<1000000):K1Spec Tryz.prog 62 [] [.val (.int .u64 (v:Int))] [] (wBx l) (fun _ b'=>b'=wBx (l++grp v)):=by
 refine Z2q ok62 (Nat.le_of_ble_eq_true rfl) fun C hC=>?_
 have hgl:=Z1n v
 refine gd 6 ⟨?_⟩
 refine Z6 (Zf1 v hv) rfl rfl rfl ⟨trivial,trivial⟩ rfl ?_
 refine ZT (k:=0) (i:=1) (Zf2 l (grp v) false (by omega)) rfl rfl rfl rfl rfl (by decide) trivial ⟨Zc _,trivial⟩ trivial (Zc _) ?_
 rintro r b' hr1 hr2 rfl
 refine go ?_
 exact⟨_,_,rfl,.inl rfl,2,_,by decide,rfl,rfl,trivial,Zc _,rfl⟩
def wB (p:List Nat):List Nat:=grp p.length++p
theorem Z5a (l p:List Nat) (fl:Bool) (hb:l.length+2*p.length<900000):K1Spec Tryz.prog 63 [] [.vec (bys p) fl] [] (wBx l) (fun _ b'=>b'=wBx (l++wB p)):=by
 refine Z2q ok63 (Nat.le_of_ble_eq_true rfl) fun C hC=>?_
 have hgl:=Z1n p.length
 refine gd 7 ⟨?_⟩
 refine Z8 (v:=(p.length:Int)) rfl rfl rfl (by rw [Z5R]; exact IntWalk.u64_in _ ⟨by omega,by omega⟩) ?_
 refine ZT (k:=0) (i:=1) (Z4U l p.length (by omega) (by omega)) rfl rfl rfl rfl rfl (by decide) trivial ⟨trivial,trivial⟩ trivial (Zc _) ?_
 rintro r b' hr1 hr2 rfl
 refine gd 11 ⟨?_⟩
 refine ZT (k:=0) (i:=2) (Zf2 (l++grp p.length) p fl (by rw [List.length_append];omega)) rfl rfl rfl rfl rfl (by decide) trivial ⟨Zc _,trivial⟩ trivial (Zc _) ?_
 rintro r b' hr1 hr2 rfl
 refine go ?_
 exact⟨_,_,rfl,.inl rfl,3,_,by decide,rfl,rfl,trivial,Zc _,by rw [List.append_assoc]; rfl⟩
theorem ZgO (l:List Nat) (b:Bool) (hb:l.length<900000):K1Spec Tryz.prog 66 [] [.val (.bool b)] [] (wBx l) (fun _ b'=>b'=wBx (l ++ [cond b 1 0])):=by
 refine Z2q ok66 (Nat.le_of_ble_eq_true rfl) fun C hC=>?_
 cases b with
 | true =>
   refine gd 7 ⟨?_⟩
   refine ZT (k:=0) (i:=1) (Zf2 l [1] true (by show l.length+1≤_;omega)) rfl rfl rfl rfl rfl (by decide) trivial ⟨Zc _,trivial⟩ trivial (Zc _) ?_
   rintro r b' hr1 hr2 rfl
   refine go ?_
   exact⟨_,_,rfl,.inl rfl,2,_,by decide,rfl,rfl,trivial,Zc _,rfl⟩
 | false =>
   refine gd 10 ⟨?_⟩
   refine ZT (k:=0) (i:=1) (Zf2 l [0] true (by show l.length+1≤_;omega)) rfl rfl rfl rfl rfl (by decide) trivial ⟨Zc _,trivial⟩ trivial (Zc _) ?_
   rintro r b' hr1 hr2 rfl
   refine go ?_
   exact⟨_,_,rfl,.inl rfl,2,_,by decide,rfl,rfl,trivial,Zc _,rfl⟩
def sB (N:Nat):List Nat:=if N=0 then [] else [N]
theorem Zg4 (N:Nat):bysS N=.vec (bys (sB N)) (decide (N=0)):=by
 unfold bysS sB
 by_cases h:N=0
 · subst h; rfl
 · rw [if_neg h,if_neg h,decide_eq_false h]
theorem Z6J (N:Nat):(sB N).length≤1:=by
 unfold sB
 split<;>simp
theorem Zg5 (l:List Nat) (N:Nat) (hN:N<256) (hb:l.length<800000):K1Spec Tryz.prog 65 [] [setN N] [] (wBx l) (fun _ b'=>b'=wBx (l++wB (sB N))):=by
 refine Z2q ok65 (Nat.le_of_ble_eq_true rfl) fun C hC=>?_
 have hsl:=Z6J N
 refine gd 6 ⟨?_⟩
 refine Z6 (Z9V N hN) rfl rfl rfl ⟨Z1 N,trivial⟩ rfl ?_
 rw [Zg4]
 refine ZT (k:=0) (i:=1) (Z5a l (sB N) (decide (N=0)) (by omega)) rfl rfl rfl rfl rfl (by decide) trivial ⟨Zc _,trivial⟩ trivial (Zc _) ?_
 rintro r b' hr1 hr2 rfl
 refine go ?_
 exact⟨_,_,rfl,.inl rfl,_,_,by decide,rfl,rfl,trivial,Zc _,rfl⟩
def cB (c:Cu):List Nat:=wB (sB c.1)++wB (sB c.2)
theorem Z4l (p:List Nat):(wB p).length≤2*p.length+1:=by
 unfold wB
 rw [List.length_append]
 have:=Z1n p.length
 omega
theorem ZdG (c:Cu):(cB c).length≤6:=by
 unfold cB
 rw [List.length_append]
 have h1:=Z4l (sB c.1)
 have h2:=Z4l (sB c.2)
 have h3:=Z6J c.1
 have h4:=Z6J c.2
 omega
theorem ZgP (l:List Nat) (c:Cu) (hc:c.1<256∧c.2<256) (hb:l.length<700000):K1Spec Tryz.prog 67 [] [cuP c] [] (wBx l) (fun _ b'=>b'=wBx (l++cB c)):=by
 refine Z2q ok67 (Nat.le_of_ble_eq_true rfl) fun C hC=>?_
 have h1:=Z4l (sB c.1)
 have h3:=Z6J c.1
 refine gd 7 ⟨?_⟩
 refine ZT (k:=0) (i:=1) (Zg5 l c.1 hc.1 (by omega)) rfl rfl rfl rfl rfl (by decide) trivial ⟨Z1 _,trivial⟩ trivial (Zc _) ?_
 rintro r b' hr1 hr2 rfl
 refine gd 11 ⟨?_⟩
 refine ZT (k:=0) (i:=3) (Zg5 (l++wB (sB c.1)) c.2 hc.2 (by rw [List.length_append];omega)) rfl rfl rfl rfl rfl (by decide) trivial ⟨Z1 _,trivial⟩ trivial (Zc _) ?_
 rintro r b' hr1 hr2 rfl
 refine go ?_
 exact⟨_,_,rfl,.inl rfl,4,_,by decide,rfl,rfl,trivial,Zc _,by rw [List.append_assoc]; rfl⟩
def lB (cs:List Cu):List Nat:=grp cs.length++cs.flatMap cB
theorem Z8v (cs:List Cu):(cs.flatMap cB).length≤6*cs.length:=by
 induction cs with
 | nil=>exact Nat.le_refl _
 | cons c cs ih =>
   rw [List.flatMap_cons,List.length_append,List.length_cons]
   have:=ZdG c
   omega
theorem Zfl (cs:List Cu):(lB cs).length≤7*cs.length+1:=by
 unfold lB
 rw [List.length_append]
 have:=Z8v cs
 have:=Z1n cs.length
 omega
theorem ZbX (cs:List Cu) {i:Nat} (hi:i<cs.length):(cs.take (i+1)).flatMap cB=(cs.take i).flatMap cB++cB cs[i]:=by
 rw [List.take_succ_eq_append_getElem hi,List.flatMap_append,List.flatMap_singleton]
set_option maxHeartbeats 2000000 in
theorem Zfm (l:List Nat) (cs:List Cu) (fl:Bool) (hcs:∀ c∈cs,c.1<256∧c.2<256) (hb:l.length+10*cs.length<600000):K1Spec Tryz.prog 68 [] [.vec (cs.map cuC) fl] [] (wBx l) (fun _ b'=>b'=wBx (l++lB cs)):=by
 refine Z2q ok68 (Nat.le_of_ble_eq_true rfl) fun C hC=>?_
 have hgl:=Z1n cs.length
 have hml:(cs.map cuC).length=cs.length:=List.length_map ..
 have hpi:∀ D,innLL D (cs.map cuC):=fun D=>Za (fun _ h=>h.elim) _ (Z9 Zk cs)
 refine gd 9 ⟨?_⟩
 refine Z8 (v:=(cs.length:Int)) rfl rfl rfl (by rw [hml]; exact IntWalk.u64_in _ ⟨by omega,by omega⟩) ?_
 refine ZT (k:=0) (i:=1) (Z4U l cs.length (by omega) (by omega)) rfl rfl rfl rfl rfl (by decide) trivial ⟨trivial,trivial⟩ trivial (Zc _) ?_
 rintro r b' hr1 hr2 rfl
 refine go ?_
 refine Z1d hC (fun i=>i≤cs.length) (fun i=>cs.length-i) 3 (fun i => [(0,.ptr 0 0 0),(1,.vec (cs.map cuC) fl),(11,.vec (cs.map cuC) fl),(12,.val (.int .i64 (cs.length:Int))),(13,.val (.int .i64 (i:Int)))]) (fun i => [(0,kid1 [] 2),(2,wBx (l++grp cs.length++(cs.take i).flatMap cB))]) (by decide) 0 (Nat.zero_le _)
  (fun i=>i) (fun _ _=>rfl) (ZR rfl) ⟨⟨_,rfl,.ptr 0 0 0 (by decide)⟩,⟨_,rfl,.pure _ (Z9 Zk cs)⟩,⟨_,rfl,.pure _ (Z9 Zk cs)⟩,⟨_,by rw [← hml]; rfl,.pure _ trivial⟩,⟨_,rfl,.pure _ trivial⟩,trivial⟩
  ⟨⟨by decide,_,rfl,RenB.single ⟨.own 2 (by decide),trivial⟩ rfl⟩,⟨by decide,wBx (l++grp cs.length++(cs.take 0).flatMap cB),by rw [List.take_zero,List.flatMap_nil,List.append_nil]; rfl,.same _ (Zc _)⟩,trivial⟩ ?_
 intro i hi
 have hfl:=Z8v (cs.take i)
 rw [List.length_take,Nat.min_eq_left hi] at hfl
 have hinc:IntKind.i64.wrap ((i:Int)+1)=((i+1:Nat):Int):=wi (i+1) (by omega)
 refine gd 14 ⟨?_⟩
 by_cases hil:i<cs.length
 · refine Z0 (Z4 (v := true) rfl (decide_eq_true (by omega))) rfl rfl ?_
   have hci:=hcs cs[i] (List.getElem_mem hil)
   have hft:=ZbX cs hil
   refine gd 15 ⟨?_⟩
   refine Z0 (Zo (xs:=cs) (g:=cuC) rfl rfl i rfl hil rfl) rfl rfl ?_
   generalize cs[i]=c at hci hft
   refine gd 19 ⟨?_⟩
   refine ZT (k:=0) (i:=2) (ZgP (l++grp cs.length++(cs.take i).flatMap cB) c hci (by rw [List.length_append,List.length_append];omega)) rfl rfl rfl rfl rfl (by decide) trivial ⟨Z2o _,trivial⟩ trivial (Zc _) ?_
   rintro r b' hr1 hr2 rfl
   refine go ?_
   exact⟨i+1,mv 2 4,by omega,by omega,Z6k (by decide),ZR rfl,⟨⟨_,rfl,.ptr 0 0 0 (by decide)⟩,⟨_,rfl,.pure _ (Z9 Zk cs)⟩,⟨_,rfl,.pure _ (Z9 Zk cs)⟩,⟨_,rfl,.pure _ trivial⟩,⟨_,by show some _=some _; rw [hinc],.pure _ trivial⟩,trivial⟩,⟨⟨by decide,_,rfl,RenB.single ⟨.own 2 (by decide),trivial⟩ rfl⟩,⟨by decide,_,rfl,by rw [hft,← List.append_assoc]; exact .same _ (Zc _)⟩,trivial⟩⟩
 · obtain rfl : i = cs.length := by omega
   refine Z0 (Z4 (v:=false) rfl (decide_eq_false (by omega))) rfl rfl ?_
   rw [List.take_length]
   refine go ?_
   exact⟨_,_,rfl,.inl rfl,2,_,by decide,rfl,rfl,trivial,Zc _,by rw [List.append_assoc]; rfl⟩
def dig (p:List Nat):List Nat:=sumOf (HS.puts (p.length+1) ⟨List.replicate 25 0,List.replicate 136 0,0,0+p.length⟩ p)
theorem Z4H (p:List Nat):(dig p).length=32:=by simp [dig,sumOf]
set_option maxRecDepth 100000 in
set_option maxHeartbeats 2000000 in
theorem ZdH (p:List Nat) (fl:Bool) (hp:W8 p) (hb:p.length<1000000):Spec Tryz.prog 122 [.vec (bys p) fl] (· = .agg (crow .u8 (dig p))):=by
 refine Z2 ok122 (Nat.le_of_ble_eq_true rfl) fun C hC=>?_
 have hz:=Zdv (0+p.length)
 have hpok:=Zdl (p.length+1) (HS.zero (0+p.length)) p hz hp
 refine gd 4 ⟨?_⟩
 refine Z48 (Z9T) (Z5L 0 0) (Z2S _) rfl rfl trivial ?_
 refine gd 7 ⟨?_⟩
 refine Zz (id:=1) (Zg0 (HS.zero 0) (Zdv 0) p fl hp (by show 0+p.length<_;omega)) rfl rfl rfl rfl (Z2S _) ⟨Zc _,trivial⟩ ?_
 rintro r b' hr1 hr2 rfl
 refine gd 9 ⟨?_⟩
 refine Zz (id:=1) (Zhc _ hpok) rfl rfl rfl rfl (Z2S _) trivial ?_
 rintro r b' hr1 hr2 ⟨rfl,rfl⟩
 have hcl:(crow .u8 (sumOf (HS.puts (p.length+1) (HS.zero (0+p.length)) p))).length=32:=by rw [Zp]; exact Z4H p
 refine Z0 (Z7C (l:=crow .u8 (List.replicate 32 0)) rfl rfl rfl hcl rfl) rfl rfl ?_
 refine go ?_
 refine Z5 (Z1M (Z50 (l:=crow .u8 (dig p) ++ []) (r:=crow .u8 (dig p)) rfl rfl ?_ ?_)) (Zv _ _) rfl
 · rw [List.append_nil,Zp,Z4H]; decide
 · rw [List.append_nil,List.drop_zero,List.take_of_length_le (by rw [Zp,Z4H]; exact Nat.le_refl _)]
theorem Z7F:NSpec Tryz.prog 61 [] (fun i=>.ptr i 0 0) ⟨1,[[.vec [] true]]⟩:=by
 refine Z1L ok61 (Nat.le_of_ble_eq_true rfl) fun C hC=>?_
 refine go ?_
 exact⟨_,_,rfl,.inl rfl,_,rfl,rfl⟩
theorem Z9X (x:Nat) (l:List Nat) (fl:Bool) (hb:l.length<1000000):Spec Tryz.prog 123 [.vec (bys (x :: l)) fl] (· = .vec (bys (x :: l)) false):=by
 refine Z2 ok123 (Nat.le_of_ble_eq_true rfl) fun C hC=>?_
 refine gd 7 ⟨?_⟩
 refine Z3 (Zct (l := []) (m:=bys (x :: l)) (fl:=fl) rfl rfl (fun c hc=>by cases hc) (ZdF _) (by
  show (0+(bys (x :: l)).length)*1≤_
  rw [Z5R,List.length_cons];omega)) rfl rfl ?_
 refine go ?_
 exact Z5 rfl (Zc _) rfl
theorem Zg6 (x:Nat) (l:List Nat) (fl:Bool) (hb:l.length<1000000):PSpec Tryz.prog 70 ⟨1,[[.vec (bys (x :: l)) fl]]⟩ [] (fun r b'=>r=.vec (bys (x :: l)) false∧b'=⟨1,[[.vec (bys (x :: l)) fl]]⟩):=by
 refine Z1t ok70 (Nat.le_of_ble_eq_true rfl) fun C hC=>?_
 refine gd 9 ⟨?_⟩
 refine Z6 (Z9X x l fl hb) rfl rfl rfl ⟨Zc _,trivial⟩ rfl ?_
 refine go ?_
 exact⟨_,_,rfl,.inl rfl,_,rfl,Zc _,⟨⟨Zc _,trivial⟩,trivial⟩,rfl,rfl⟩
def strN (s:ByteArray):List Nat:=s.data.toList.map fun b=>b.toNat
theorem ZbY (s:ByteArray):strRows s=bys (strN s):=by
 unfold strRows bys strN
 rw [List.map_map]
 rfl
theorem ZaJ (s:ByteArray):(strN s).length=s.size:=by
 unfold strN
 rw [List.length_map]
 rfl
theorem Zhd (l:List Nat) (s:ByteArray) (hb:l.length+2*s.size<800000):K1Spec Tryz.prog 121 [] [.val (.string s)] [] (wBx l) (fun _ b'=>b'=wBx (l++wB (strN s))):=by
 refine Z2q ok121 (Nat.le_of_ble_eq_true rfl) fun C hC=>?_
 have hs:=ZaJ s
 have hd:∀ (e:Env) (h:Heap) (n:Nat) (x:Operand),ev e x=some (.val (.string s))→dEval (.s2b x) e h n=some (.vec (bys (strN s)) false,h):=fun e h n x hx=>by
  simp only [dEval,hx]
  rw [if_pos (by omega),ZbY]
 refine gd 6 ⟨?_⟩
 refine Z0 (hd _ _ _ _ rfl) rfl rfl ?_
 refine ZT (k:=0) (i:=1) (Z5a l (strN s) false (by omega)) rfl rfl rfl rfl rfl (by decide) trivial ⟨Zc _,trivial⟩ trivial (Zc _) ?_
 rintro r b' hr1 hr2 rfl
 refine go ?_
 exact⟨_,_,rfl,.inl rfl,2,_,by decide,rfl,rfl,trivial,Zc _,rfl⟩
theorem Zgf {p:List Nat} (h:W8 p):W8 (wB p):=fun x hx=>(List.mem_append.1 hx).elim (Z8u _ x) (h x)
theorem Zg7 (p:List Nat):∃ x l,wB p=x :: l:=by
 unfold wB grp
 rw [List.reverse_cons]
 cases h:(gR p.length (p.length / 128)).reverse with
 | nil=>exact⟨_,_,rfl⟩
 | cons a b=>exact⟨_,_,rfl⟩
theorem ZaK (v:Nat):∃ x l,grp v=x :: l:=by
 unfold grp
 rw [List.reverse_cons]
 cases h:(gR v (v / 128)).reverse with
 | nil=>exact⟨_,_,rfl⟩
 | cons a b=>exact⟨_,_,rfl⟩
theorem Z5S:pureLL (⟨1,[[PV.vec [] true]]⟩:Bx).elems:=⟨⟨trivial,trivial⟩,trivial⟩
def tagB (s:ByteArray) (p:List Nat):List Nat:=wB (strN s)++wB p
theorem ZgQ (s:ByteArray):W8 (strN s):=fun x hx=>by
 obtain⟨b,_,rfl⟩:=List.mem_map.1 hx
 exact b.toNat_lt
set_option maxRecDepth 100000 in
set_option maxHeartbeats 4000000 in
theorem Z9Y (s:ByteArray) (p:List Nat) (fp:Bool) (hp:W8 p) (hs:s.size<100) (hb:p.length<200000):Spec Tryz.prog 69 [.val (.string s),.vec [[.vec (bys p) fp]] true] (· = .agg (crow .u8 (dig (tagB s p)))):=by
 refine Z2 ok69 (Nat.le_of_ble_eq_true rfl) fun C hC=>?_
 have hsl:=ZaJ s
 have hwl:=Z4l (strN s)
 have hwp:=Z4l p
 have hpp:pureLL [[PV.vec (bys p) fp]]:=⟨⟨Zc _,trivial⟩,trivial⟩
 refine gd 8 ⟨?_⟩
 refine Z48 Z7F (Z5L 0 0) Z5S rfl rfl trivial ?_
 refine Zj (Z2j (ob:=1) (i0:=0) (j0:=0) (bo:=⟨1,[[.vec [] true]]⟩) 1 (by decide) rfl (by decide) (by decide) rfl) ?_
 refine gd 11 ⟨?_⟩
 refine ZT (k:=1) (i:=2) (q := []) (b1:=wBx []) (Zhd [] s (by show 0+_<_;omega)) rfl rfl rfl rfl rfl (by decide) trivial ⟨trivial,trivial⟩ trivial trivial ?_
 rintro r b' hr1 hr2 rfl
 rw [List.nil_append]
 refine go ?_
 refine Z1d hC (fun i=>i≤1) (fun i=>1-i) 4 (fun i => [(4,.ptr 0 0 0),(5,.ptr 1 0 0),(12,.vec [[.vec (bys p) fp]] true),(13,.val (.int .i64 1)),(14,.val (.int .i64 (i:Int)))]) (fun i => [(0,⟨32,[crow .u8 (List.replicate 32 0)]⟩),(1,kid1 [] 3),(3,wBx (wB (strN s)++(if i=0 then [] else wB p)))]) (by decide) 0 (Nat.zero_le _)
  (fun i=>i) (fun _ _=>rfl) (ZR rfl) ⟨⟨_,rfl,.ptr 0 0 0 (by decide)⟩,⟨_,rfl,.ptr 1 0 0 (by decide)⟩,⟨_,rfl,.pure _ hpp⟩,⟨_,rfl,.pure _ trivial⟩,⟨_,rfl,.pure _ trivial⟩,trivial⟩
  ⟨⟨by decide,⟨32,[crow .u8 (List.replicate 32 0)]⟩,by kernel_rfl,.same _ ⟨Zv _ _,trivial⟩⟩,⟨by decide,_,rfl,RenB.single ⟨.own 3 (by decide),trivial⟩ rfl⟩,⟨by decide,wBx (wB (strN s) ++ []),by rw [List.append_nil]; rfl,.same _ (Zc _)⟩,trivial⟩ ?_
 intro i hi
 have hinc:IntKind.i64.wrap ((i:Int)+1)=((i+1:Nat):Int):=wi (i+1) (by omega)
 refine gd 15 ⟨?_⟩
 by_cases hil:i<1
 · obtain rfl : i = 0 := by omega
   refine Z0 (Z4 (v:=true) rfl (decide_eq_true (by omega))) rfl rfl ?_
   rw [if_pos rfl,List.append_nil]
   refine gd 20 ⟨?_⟩
   refine ZT (k:=1) (i:=3) (Z5a (wB (strN s)) p fp (by omega)) rfl rfl rfl rfl rfl (by decide) trivial ⟨Zc _,trivial⟩ trivial (Zc _) ?_
   rintro r b' hr1 hr2 rfl
   refine go ?_
   exact⟨1,mv 3 4,by omega,by omega,Z6k (by decide),ZR rfl,⟨⟨_,rfl,.ptr 0 0 0 (by decide)⟩,⟨_,rfl,.ptr 1 0 0 (by decide)⟩,⟨_,rfl,.pure _ hpp⟩,⟨_,rfl,.pure _ trivial⟩,⟨_,rfl,.pure _ trivial⟩,trivial⟩,⟨⟨by decide,_,rfl,.same _ ⟨Zv _ _,trivial⟩⟩,⟨by decide,_,rfl,RenB.single ⟨.own 3 (by decide),trivial⟩ rfl⟩,⟨by decide,_,rfl,by rw [if_neg (by decide)]; exact .same _ (Zc _)⟩,trivial⟩⟩
 · obtain rfl : i = 1 := by omega
   refine Z0 (Z4 (v:=false) rfl (decide_eq_false (by omega))) rfl rfl ?_
   rw [if_neg (by decide)]
   have hWt:W8 (tagB s p):=fun x hx=>(List.mem_append.1 hx).elim (Zgf (ZgQ s) x) (Zgf hp x)
   have htl:(tagB s p).length<500000:=by unfold tagB; rw [List.length_append]; omega
   obtain⟨x,l,hxl⟩:∃ x l,tagB s p=x :: l:=by
    obtain⟨x,l,h⟩:=Zg7 (strN s)
    exact⟨x,l++wB p,by unfold tagB; rw [h]; rfl⟩
   change opsK _ _ _ _ (heapL [(0,⟨32,[crow .u8 (List.replicate 32 0)]⟩),(1,kid1 [] 3),(3,wBx (tagB s p))]) _
   rw [hxl] at hWt htl ⊢
   rw [List.length_cons] at htl
   refine gd 23 ⟨?_⟩
   refine Zj (ZO (ob:=1) (id:=3) (i0:=0) (j0:=0) (bo:=kid1 [] 3) (b:=wBx (x :: l)) rfl rfl (by decide) (Zc _) (by decide) (by decide) rfl) ?_
   refine Zz (id:=1) (Zg6 x l false (by omega)) rfl rfl rfl rfl ⟨⟨Zc _,trivial⟩,trivial⟩ trivial ?_
   rintro r b' hr1 hr2 ⟨rfl,rfl⟩
   refine Z6 (ZdH (x :: l) false hWt (by rw [List.length_cons];omega)) rfl rfl rfl ⟨Zc _,trivial⟩ rfl ?_
   have hcl:(crow .u8 (dig (x :: l))).length=32:=by rw [Zp,Z4H]
   refine Z0 (Z7C (l:=crow .u8 (List.replicate 32 0)) rfl rfl rfl hcl rfl) rfl rfl ?_
   refine go ?_
   refine Z5 (Z1M (Z50 (l:=crow .u8 (dig (x :: l)) ++ []) (r:=crow .u8 (dig (x :: l))) rfl rfl ?_ ?_)) (Zv _ _) rfl
   · rw [List.append_nil,hcl]; decide
   · rw [List.append_nil,List.drop_zero,List.take_of_length_le (by rw [hcl]; exact Nat.le_refl _)]
def prW (p:Pr):List Nat:=grp p.1++grp p.2
def hyB (l:List Pr):List Nat:=grp l.length++l.flatMap prW
theorem Zg8 {p:Pr} (h:p.1≤63∧p.2≤63):(prW p).length≤130:=by
 unfold prW
 rw [List.length_append]
 have:=Z1n p.1
 have:=Z1n p.2
 omega
theorem Z5T:∀ (l:List Pr),(∀ p∈l,p.1≤63∧p.2≤63)→(l.flatMap prW).length≤130*l.length
 | [],_=>Nat.le_refl _
 | p :: l, h => by
   rw [List.flatMap_cons,List.length_append,List.length_cons]
   have:=Zg8 (h p (List.mem_cons_self ..))
   have:=Z5T l fun q hq=>h q (List.mem_cons_of_mem _ hq)
   omega
theorem Z9Z {l:List Pr} (h:∀ p∈l,p.1≤63∧p.2≤63):(hyB l).length≤131*l.length+1:=by
 unfold hyB
 rw [List.length_append]
 have:=Z1n l.length
 have:=Z5T l h
 omega
theorem Zhe (l:List Pr):W8 (hyB l):=fun x hx=>by
 rcases List.mem_append.1 hx with h|h
 · exact Z8u _ x h
 · obtain ⟨p, _, h⟩ := List.mem_flatMap.1 h
   exact (List.mem_append.1 h).elim (Z8u _ x) (Z8u _ x)
set_option maxRecDepth 100000 in
set_option maxHeartbeats 4000000 in
theorem Za0 (l:List Pr) (S:List Nat) (h:∀ p∈l,p.1≤63∧p.2≤63) (hb:l.length≤1000):Spec Tryz.prog 64 [hierP l S] (· = .vec (bys (hyB l)) false):=by
 refine Z2 ok64 (Nat.le_of_ble_eq_true rfl) fun C hC=>?_
 have hgl:=Z1n l.length
 have hml:(l.map prC).length=l.length:=List.length_map ..
 refine gd 9 ⟨?_⟩
 refine Z48 Z7F (Z5L 0 0) Z5S rfl rfl trivial ?_
 refine Zj (Z2j (ob:=0) (i0:=0) (j0:=0) (bo:=⟨1,[[.vec [] true]]⟩) 1 (by decide) rfl (by decide) (by decide) rfl) ?_
 refine gd 11 ⟨?_⟩
 refine Z6 (Z6z l S (by omega)) rfl rfl rfl ⟨Zq _ _,trivial⟩ rfl ?_
 refine gd 15 ⟨?_⟩
 refine Z8 (v:=(l.length:Int)) rfl rfl rfl (by rw [hml]; exact IntWalk.u64_in _ ⟨by omega,by omega⟩) ?_
 refine ZT (k:=0) (i:=1) (q := []) (b1:=wBx []) (Z4U [] l.length (by omega) (by show 0+_<_;omega)) rfl rfl rfl rfl rfl (by decide) trivial ⟨trivial,trivial⟩ trivial trivial ?_
 rintro r b' hr1 hr2 rfl
 rw [List.nil_append]
 refine go ?_
 refine Z1d hC (fun i=>i≤l.length) (fun i=>l.length-i) 3 (fun i => [(3,.ptr 0 0 0),(17,.vec (l.map prC) false),(18,.val (.int .i64 (l.length:Int))),(19,.val (.int .i64 (i:Int)))]) (fun i => [(0,kid1 [] 2),(2,wBx (grp l.length++(l.take i).flatMap prW))]) (by decide) 0 (Nat.zero_le _)
  (fun i=>i) (fun _ _=>rfl) (ZR rfl) ⟨⟨_,rfl,.ptr 0 0 0 (by decide)⟩,⟨_,rfl,.pure _ (Zg _)⟩,⟨_,by rw [← hml]; rfl,.pure _ trivial⟩,⟨_,rfl,.pure _ trivial⟩,trivial⟩
  ⟨⟨by decide,_,rfl,RenB.single ⟨.own 2 (by decide),trivial⟩ rfl⟩,⟨by decide,wBx (grp l.length++(l.take 0).flatMap prW),by rw [List.take_zero,List.flatMap_nil,List.append_nil]; rfl,.same _ (Zc _)⟩,trivial⟩ ?_
 intro i hi
 have hfl:=Z5T (l.take i) fun p hp=>h p (List.mem_of_mem_take hp)
 rw [List.length_take,Nat.min_eq_left hi] at hfl
 have hinc:IntKind.i64.wrap ((i:Int)+1)=((i+1:Nat):Int):=wi (i+1) (by omega)
 refine gd 20 ⟨?_⟩
 by_cases hil:i<l.length
 · refine Z0 (Z4 (v := true) rfl (decide_eq_true (by omega))) rfl rfl ?_
   have hci:=h l[i] (List.getElem_mem hil)
   have hft:(l.take (i+1)).flatMap prW=(l.take i).flatMap prW++prW l[i]:=by
    rw [List.take_succ_eq_append_getElem hil,List.flatMap_append,List.flatMap_singleton]
   refine gd 21 ⟨?_⟩
   refine Z0 (Zo (xs:=l) (g:=prC) rfl rfl i rfl hil rfl) rfl rfl ?_
   generalize l[i]=p at hci hft
   have g1:=Z1n p.1
   refine gd 26 ⟨?_⟩
   refine Z8 (v:=(p.1:Int)) rfl rfl rfl (IntWalk.u64_in _ ⟨by omega,by omega⟩) ?_
   refine ZT (k:=0) (i:=2) (Z4U (grp l.length++(l.take i).flatMap prW) p.1 (by omega) (by rw [List.length_append];omega)) rfl rfl rfl rfl rfl (by decide) trivial ⟨trivial,trivial⟩ trivial (Zc _) ?_
   rintro r b' hr1 hr2 rfl
   refine gd 31 ⟨?_⟩
   refine Z8 (v:=(p.2:Int)) rfl rfl rfl (IntWalk.u64_in _ ⟨by omega,by omega⟩) ?_
   refine ZT (k:=0) (i:=4) (Z4U (grp l.length++(l.take i).flatMap prW++grp p.1) p.2 (by omega) (by rw [List.length_append,List.length_append];omega)) rfl rfl rfl rfl rfl (by decide) trivial ⟨trivial,trivial⟩ trivial (Zc _) ?_
   rintro r b' hr1 hr2 rfl
   refine go ?_
   exact⟨i+1,mv 2 5,by omega,by omega,Z6k (by decide),ZR rfl,⟨⟨_,rfl,.ptr 0 0 0 (by decide)⟩,⟨_,rfl,.pure _ (Zg _)⟩,⟨_,rfl,.pure _ trivial⟩,⟨_,by show some _=some _; rw [hinc],.pure _ trivial⟩,trivial⟩,⟨⟨by decide,_,rfl,RenB.single ⟨.own 2 (by decide),trivial⟩ rfl⟩,⟨by decide,_,rfl,by rw [hft,show grp l.length++((l.take i).flatMap prW++prW p)=grp l.length++(l.take i).flatMap prW++grp p.1++grp p.2 by unfold prW; simp only [List.append_assoc]]; exact .same _ (Zc _)⟩,trivial⟩⟩
 · obtain rfl : i = l.length := by omega
   refine Z0 (Z4 (v:=false) rfl (decide_eq_false (by omega))) rfl rfl ?_
   have hyl:=Z9Z h
   obtain⟨x,m,hxm⟩:∃ x m,hyB l=x :: m:=by
    obtain⟨x,m,h⟩:=ZaK l.length
    exact⟨x,m++l.flatMap prW,by unfold hyB; rw [h]; rfl⟩
   rw [List.take_length]
   change opsK _ _ _ _ (heapL [(0,kid1 [] 2),(2,wBx (hyB l))]) _
   rw [hxm] at hyl ⊢
   rw [List.length_cons] at hyl
   refine gd 35 ⟨?_⟩
   refine Zj (ZO (ob:=0) (id:=2) (i0:=0) (j0:=0) (bo:=kid1 [] 2) (b:=wBx (x :: m)) rfl rfl (by decide) (Zc _) (by decide) (by decide) rfl) ?_
   refine Zz (id:=0) (Zg6 x m false (by omega)) rfl rfl rfl rfl ⟨⟨Zc _,trivial⟩,trivial⟩ trivial ?_
   rintro r b' hr1 hr2 ⟨rfl,rfl⟩
   refine go ?_
   exact Z5 rfl (Zc _) rfl
structure PbW (t:PB):Prop where
 n:t.n≤63
 st:t.st<256
 rs:∀ r∈t.rs,r.cu.1<256∧r.cu.2<256∧r.tg≤63
 nv:∀ c∈t.nv,c.1<256∧c.2<256
 gl:∀ c∈t.gl,c.1<256∧c.2<256
 lk:∀ p∈t.l,p.1≤63∧p.2≤63
 ll:t.l.length≤100
 rl:t.rs.length≤100
 nl:t.nv.length≤100
 gn:t.gl.length≤100
def rB (r:RU):List Nat := [cond r.rev 1 0]++cB r.cu++grp r.tg
def hdB (t:PB):List Nat:=grp t.n++wB (hyB t.l)++wB (sB t.st)++grp t.rs.length
def pbB (t:PB):List Nat:=hdB t++t.rs.flatMap rB++lB t.nv++lB t.gl
theorem ZgR {r:RU} (h:r.tg≤63):(rB r).length≤71:=by
 unfold rB
 rw [List.length_append,List.length_append]
 have:=Z1n r.tg
 have:=ZdG r.cu
 show 1+_+_≤_
 omega
theorem Z8w:∀ (l:List RU),(∀ r∈l,r.tg≤63)→(l.flatMap rB).length≤71*l.length
 | [],_=>Nat.le_refl _
 | p :: l, h => by
   rw [List.flatMap_cons,List.length_append,List.length_cons]
   have:=ZgR (h p (List.mem_cons_self ..))
   have:=Z8w l fun q hq=>h q (List.mem_cons_of_mem _ hq)
   omega
theorem Zg9 {t:PB} (h:PbW t):(hdB t).length≤30000:=by
 unfold hdB
 rw [List.length_append,List.length_append,List.length_append]
 have h1:=Z1n t.n
 have h2:=Z4l (hyB t.l)
 have h3:=Z9Z h.lk
 have h4:=Z4l (sB t.st)
 have h5:=Z6J t.st
 have h6:=Z1n t.rs.length
 have:=h.n; have:=h.ll; have:=h.rl
 omega
theorem Zhf {N:Nat} (h:N<256):W8 (sB N):=fun x hx=>by
 unfold sB at hx
 split at hx
 · cases hx
 · rw [List.mem_singleton] at hx; rw [hx]; exact h
theorem Zhj {c:Cu} (h:c.1<256∧c.2<256):W8 (cB c):=fun x hx=>(List.mem_append.1 hx).elim (Zgf (Zhf h.1) x) (Zgf (Zhf h.2) x)
theorem Zhk {cs:List Cu} (h:∀ c∈cs,c.1<256∧c.2<256):W8 (lB cs):=fun x hx=>by
 rcases List.mem_append.1 hx with hx|hx
 · exact Z8u _ x hx
 · obtain ⟨c, hc, hx⟩ := List.mem_flatMap.1 hx
   exact Zhj (h c hc) x hx
theorem W8.app {l m:List Nat} (hl:W8 l) (hm:W8 m):W8 (l++m):=fun x hx=>(List.mem_append.1 hx).elim (hl x) (hm x)
theorem Zhg {t:PB} (h:PbW t):W8 (pbB t):=by
 refine W8.app (W8.app (W8.app (W8.app (W8.app (W8.app (Z8u _) (Zgf (Zhe _))) (Zgf (Zhf h.st))) (Z8u _)) fun x hx=>?_) (Zhk h.nv)) (Zhk h.gl)
 obtain⟨r,hr,hx⟩:=List.mem_flatMap.1 hx
 have hc:=h.rs r hr
 exact W8.app (W8.app (fun x hx=>by rw [List.mem_singleton] at hx; rw [hx]; cases r.rev<;>decide) (Zhj ⟨hc.1,hc.2.1⟩)) (Z8u _) x hx
def idOf (t:PB):List Nat:=dig (tagB ⟨#[112,114,111,98,108,101,109]⟩ (pbB t))
set_option maxRecDepth 100000 in
set_option maxHeartbeats 8000000 in
theorem Z2y {t:PB} (h:PbOk t) (hw:PbW t) (S:List Nat):Spec Tryz.prog 26 [.agg (pbP t S)] (· = .agg (crow .u8 (idOf t))):=by
 refine Z2 ok26 (Nat.le_of_ble_eq_true rfl) fun C hC=>?_
 have hl1:=Z1n t.n
 have hl2:=Z4l (hyB t.l)
 have hl3:=Z9Z hw.lk
 have hl4:=Z4l (sB t.st)
 have hl5:=Z6J t.st
 have hl6:=Z1n t.rs.length
 have hn:=hw.n; have hll:=hw.ll; have hrl:=hw.rl; have hnl:=hw.nl; have hgl:=hw.gn
 have hhl:=Zg9 hw
 have hml:(t.rs.map ruP).length=t.rs.length:=List.length_map ..
 refine gd 7 ⟨?_⟩
 refine Z6 (ZeL h S) rfl rfl rfl ⟨Zx _ _,trivial⟩ rfl ?_
 refine gd 10 ⟨?_⟩
 refine Z48 Z7F (Z5L 0 0) Z5S rfl rfl trivial ?_
 refine Zj (Z2j (ob:=2) (i0:=0) (j0:=0) (bo:=⟨1,[[.vec [] true]]⟩) 1 (by decide) rfl (by decide) (by decide) rfl) ?_
 refine gd 14 ⟨?_⟩
 refine Z8 (v:=(t.n:Int)) rfl rfl rfl (IntWalk.u64_in _ ⟨by omega,by omega⟩) ?_
 refine ZT (k:=2) (i:=3) (q := []) (b1:=wBx []) (Z4U [] t.n (by omega) (by show 0+_<_;omega)) rfl rfl rfl rfl rfl (by decide) trivial ⟨trivial,trivial⟩ trivial trivial ?_
 rintro r b' hr1 hr2 rfl
 rw [List.nil_append]
 refine gd 19 ⟨?_⟩
 refine Z6 (Za0 t.l S hw.lk (by omega)) rfl rfl rfl ⟨Zq _ _,trivial⟩ rfl ?_
 refine ZT (k:=2) (i:=4) (Z5a (grp t.n) (hyB t.l) false (by omega)) rfl rfl rfl rfl rfl (by decide) trivial ⟨Zc _,trivial⟩ trivial (Zc _) ?_
 rintro r b' hr1 hr2 rfl
 refine gd 24 ⟨?_⟩
 refine ZT (k:=2) (i:=5) (Zg5 (grp t.n++wB (hyB t.l)) t.st hw.st (by rw [List.length_append];omega)) rfl rfl rfl rfl rfl (by decide) trivial ⟨Z1 _,trivial⟩ trivial (Zc _) ?_
 rintro r b' hr1 hr2 rfl
 refine gd 29 ⟨?_⟩
 refine Z8 (v:=(t.rs.length:Int)) rfl rfl rfl (by rw [hml]; exact IntWalk.u64_in _ ⟨by omega,by omega⟩) ?_
 refine ZT (k:=2) (i:=6) (Z4U (grp t.n++wB (hyB t.l)++wB (sB t.st)) t.rs.length (by omega) (by rw [List.length_append,List.length_append];omega)) rfl rfl rfl rfl rfl (by decide) trivial ⟨trivial,trivial⟩ trivial (Zc _) ?_
 rintro r b' hr1 hr2 rfl
 change opsK _ _ _ _ (Heap.upd _ _ (wBx (hdB t))) _
 refine go ?_
 refine Z1d hC (fun i=>i≤t.rs.length) (fun i=>t.rs.length-i) 8 (fun i => [(1,.ptr 0 0 0),(2,.ptr 1 0 0),(3,.ptr 2 0 0),(32,.vec (t.rs.map ruP) false),(33,.val (.int .i64 (t.rs.length:Int))),(34,.val (.int .i64 (i:Int)))]) (fun i => [(0,⟨6,[pbP t S]⟩),(1,⟨32,[crow .u8 (List.replicate 32 0)]⟩),(2,kid1 [] 7),(7,wBx (hdB t++(t.rs.take i).flatMap rB))]) (by decide) 0 (Nat.zero_le _)
  (fun i=>i) (fun _ _=>rfl) (ZR rfl) ⟨⟨_,rfl,.ptr 0 0 0 (by decide)⟩,⟨_,rfl,.ptr 1 0 0 (by decide)⟩,⟨_,rfl,.ptr 2 0 0 (by decide)⟩,⟨_,rfl,.pure _ (Z1q _)⟩,⟨_,by rw [← hml]; rfl,.pure _ trivial⟩,⟨_,rfl,.pure _ trivial⟩,trivial⟩
  ⟨⟨by decide,_,rfl,.same _ ⟨Zx t S,trivial⟩⟩,⟨by decide,⟨32,[crow .u8 (List.replicate 32 0)]⟩,by kernel_rfl,.same _ ⟨Zv _ _,trivial⟩⟩,⟨by decide,_,rfl,RenB.single ⟨.own 7 (by decide),trivial⟩ rfl⟩,⟨by decide,wBx (hdB t++(t.rs.take 0).flatMap rB),by rw [List.take_zero,List.flatMap_nil,List.append_nil]; rfl,.same _ (Zc _)⟩,trivial⟩ ?_
 intro i hi
 have hfl:=Z8w (t.rs.take i) fun r hr=>(hw.rs r (List.mem_of_mem_take hr)).2.2
 rw [List.length_take,Nat.min_eq_left hi] at hfl
 have hinc:IntKind.i64.wrap ((i:Int)+1)=((i+1:Nat):Int):=wi (i+1) (by omega)
 refine gd 35 ⟨?_⟩
 by_cases hil:i<t.rs.length
 · refine Z0 (Z4 (v := true) rfl (decide_eq_true (by omega))) rfl rfl ?_
   have hci:=hw.rs t.rs[i] (List.getElem_mem hil)
   have hft:(t.rs.take (i+1)).flatMap rB=(t.rs.take i).flatMap rB++rB t.rs[i]:=by
    rw [List.take_succ_eq_append_getElem hil,List.flatMap_append,List.flatMap_singleton]
   refine gd 36 ⟨?_⟩
   refine Z0 (Zo (xs:=t.rs) (g:=ruP) rfl rfl i rfl hil rfl) rfl rfl ?_
   generalize t.rs[i]=u at hci hft
   have hg:=Z1n u.tg
   have hcl:=ZdG u.cu
   have htot:(hdB t++(t.rs.take i).flatMap rB).length≤40000:=by rw [List.length_append]; omega
   generalize hww:hdB t++(t.rs.take i).flatMap rB=ww at htot
   refine gd 40 ⟨?_⟩
   refine Z0 (p:=.val (.bool u.rev)) rfl rfl rfl ?_
   refine ZT (k:=2) (i:=7) (ZgO ww u.rev (by omega)) rfl rfl rfl rfl rfl (by decide) trivial ⟨trivial,trivial⟩ trivial (Zc _) ?_
   rintro r b' hr1 hr2 rfl
   refine gd 45 ⟨?_⟩
   refine ZT (k:=2) (i:=9) (ZgP (ww ++ [cond u.rev 1 0]) u.cu ⟨hci.1,hci.2.1⟩ (by rw [List.length_append,List.length_singleton];omega)) rfl rfl rfl rfl rfl (by decide) trivial ⟨Z2o _,trivial⟩ trivial (Zc _) ?_
   rintro r b' hr1 hr2 rfl
   refine gd 49 ⟨?_⟩
   refine Z8 (v:=(u.tg:Int)) rfl rfl rfl (IntWalk.u64_in _ ⟨by omega,by omega⟩) ?_
   refine ZT (k:=2) (i:=10) (Z4U (ww ++ [cond u.rev 1 0]++cB u.cu) u.tg (by omega) (by rw [List.length_append,List.length_append,List.length_singleton];omega)) rfl rfl rfl rfl rfl (by decide) trivial ⟨trivial,trivial⟩ trivial (Zc _) ?_
   rintro r b' hr1 hr2 rfl
   refine go ?_
   exact⟨i+1,mv 7 11,by omega,by omega,Z6k (by decide),ZR rfl,⟨⟨_,rfl,.ptr 0 0 0 (by decide)⟩,⟨_,rfl,.ptr 1 0 0 (by decide)⟩,⟨_,rfl,.ptr 2 0 0 (by decide)⟩,⟨_,rfl,.pure _ (Z1q _)⟩,⟨_,rfl,.pure _ trivial⟩,⟨_,by show some _=some _; rw [hinc],.pure _ trivial⟩,trivial⟩,⟨⟨by decide,_,rfl,.same _ ⟨Zx t S,trivial⟩⟩,⟨by decide,_,rfl,.same _ ⟨Zv _ _,trivial⟩⟩,⟨by decide,_,rfl,RenB.single ⟨.own 7 (by decide),trivial⟩ rfl⟩,⟨by decide,_,rfl,by rw [hft,show hdB t++((t.rs.take i).flatMap rB++rB u)=ww ++ [cond u.rev 1 0]++cB u.cu++grp u.tg by rw [← hww]; unfold rB; simp only [List.append_assoc]]; exact .same _ (Zc _)⟩,trivial⟩⟩
 · obtain rfl : i = t.rs.length := by omega
   refine Z0 (Z4 (v:=false) rfl (decide_eq_false (by omega))) rfl rfl ?_
   rw [List.take_length] at hfl ⊢
   have htot:(hdB t++t.rs.flatMap rB).length≤40000:=by rw [List.length_append]; omega
   have hpb:pbB t=hdB t++t.rs.flatMap rB++lB t.nv++lB t.gl:=rfl
   have hlb:=Zfl t.nv
   have hlg:=Zfl t.gl
   have hpW:=Zhg hw
   generalize hww:hdB t++t.rs.flatMap rB=ww at htot hpb
   refine gd 55 ⟨?_⟩
   refine ZT (k:=2) (i:=7) (Zfm ww t.nv false hw.nv (by omega)) rfl rfl rfl rfl rfl (by decide) trivial ⟨Z9 Zk _,trivial⟩ trivial (Zc _) ?_
   rintro r b' hr1 hr2 rfl
   refine gd 59 ⟨?_⟩
   refine ZT (k:=2) (i:=8) (Zfm (ww++lB t.nv) t.gl false hw.gl (by rw [List.length_append];omega)) rfl rfl rfl rfl rfl (by decide) trivial ⟨Z9 Zk _,trivial⟩ trivial (Zc _) ?_
   rintro r b' hr1 hr2 rfl
   have hpl:(pbB t).length<100000:=by rw [hpb,List.length_append,List.length_append]; omega
   have hid:idOf t=dig (tagB ⟨#[112,114,111,98,108,101,109]⟩ (pbB t)):=rfl
   rw [← hpb]
   obtain⟨x,m,hxm⟩:∃ x m,pbB t=x :: m:=by
    obtain⟨x,m,h⟩:=ZaK t.n
    exact⟨x,m++(wB (hyB t.l)++(wB (sB t.st)++(grp t.rs.length++(t.rs.flatMap rB++(lB t.nv++lB t.gl))))),by unfold pbB hdB; rw [h]; simp only [List.append_assoc,List.cons_append]⟩
   rw [hxm] at hpl hpW hid ⊢
   rw [List.length_cons] at hpl
   refine gd 61 ⟨?_⟩
   refine Zj (ZO (ob:=2) (id:=9) (i0:=0) (j0:=0) (bo:=kid1 [] 9) (b:=wBx (x :: m)) rfl rfl (by decide) (Zc _) (by decide) (by decide) rfl) ?_
   refine Zz (id:=2) (Zg6 x m false (by omega)) rfl rfl rfl rfl ⟨⟨Zc _,trivial⟩,trivial⟩ trivial ?_
   rintro r b' hr1 hr2 ⟨rfl,rfl⟩
   refine gd 63 ⟨?_⟩
   refine Z6 (Z9Y ⟨#[112,114,111,98,108,101,109]⟩ (x :: m) false hpW (by decide) (by rw [List.length_cons];omega)) rfl rfl rfl ⟨trivial,⟨⟨Zc _,trivial⟩,trivial⟩,trivial⟩ rfl ?_
   rw [← hid]
   have hcl:(crow .u8 (idOf t)).length=32:=by rw [Zp]; exact Z4H _
   generalize hcc:crow .u8 (idOf t)=cc at hcl
   have hcp:pureL cc:=hcc▸Zv _ _
   refine Z0 (Z7C (l:=crow .u8 (List.replicate 32 0)) rfl rfl rfl hcl rfl) rfl rfl ?_
   refine go ?_
   refine Z5 (Z1M (Z50 (l:=cc ++ []) (r:=cc) rfl rfl ?_ ?_)) hcp rfl
   · rw [List.append_nil,hcl]; decide
   · rw [List.append_nil,List.drop_zero,List.take_of_length_le (by rw [hcl]; exact Nat.le_refl _)]
set_option maxHeartbeats 1000000 in
theorem ZbZ (xs:List Nat) (fl:Bool) (hlen:xs.length≤1000000):NSpec Tryz.prog 49 [.vec (inL xs) fl] .own ⟨1,inL xs⟩:=by
 refine Z1L ok49 (Nat.le_of_ble_eq_true rfl) fun C hC=>?_
 have fin:∀ (x:Nat) (xs:List Nat),(∀ c∈inL (x :: xs),c.length=1):=fun x xs c hc=>by obtain⟨y,_,rfl⟩:=List.mem_map.1 hc; rfl
 cases xs with
 | nil =>
   refine go ?_
   refine Z4z (.inl ⟨_,_,rfl⟩) rfl fun b=>?_
   cases b
   · repeat' (first | refine Zj (ZI (k := 5) rfl 1 (by decide)) ?_ | (first|refine st ?_|(apply B<;>intro hb<;>try cases hb)))
     exact⟨_,_,rfl,.inl rfl,_,rfl,rfl⟩
   · iterate 6 (first|refine st ?_|(apply B<;>intro hb<;>try cases hb))
     refine Z1U (ZI (k:=2) rfl 1 (by decide) _) ?_
     refine go ?_
     exact⟨_,_,rfl,.inl rfl,_,rfl,rfl⟩
 | cons x xs =>
   repeat' (first|refine Zj (ZI (k:=5) rfl 1 (by decide)) ?_|(first|refine st ?_|(apply B<;>intro hb<;>try cases hb)))
   refine ZU (ZQ (k:=0) (m:=inL (x :: xs)) (fl:=fl) rfl rfl rfl (fin x xs) rfl (by
    show (([]:List (List PV)).length+(inL (x :: xs)).length)*8≤_
    rw [Z7t,List.length_nil];omega)) rfl rfl ?_
   refine go ?_
   exact⟨_,_,rfl,.inl rfl,_,rfl,by rw [List.nil_append]; rfl⟩
set_option maxHeartbeats 1000000 in
theorem Z5U (xs:List Nat) (fl:Bool) (g:Nat) (p:Nat→Bool) (hg:∀ x∈xs,Spec Tryz.prog g [.val (.int .i64 (x:Int))] (· = .val (.bool (p x)))) :
 Spec Tryz.prog 124 [.vec (inL xs) fl,.fn g []] (· = .val (.int .i64 (idxI p xs))):=by
 refine Z2 ok124 (Nat.le_of_ble_eq_true rfl) fun C hC=>?_
 refine Z2V (k:=0) rfl fun hmax=>?_
 have hnl:(inL xs).length=xs.length:=by simp [inL]
 have hlm:xs.length≤maxVec:=by rw [← hnl]; exact hmax
 refine go ?_
 refine Z2L (fun i=>i≤xs.length∧(xs.take i).any p=false) (fun i=>xs.length-i) (fun i => [(0,.vec (inL xs) fl),(1,.fn g []),(7,.val (.int .i64 (xs.length:Int))),(8,.val (.int .i64 (i:Int)))]) 0 ⟨Nat.zero_le _,rfl⟩ ⟨rfl,rfl,by rw [← hnl]; rfl,rfl,trivial⟩ ?_
 rintro i ⟨hi,hno⟩
 have hinc:IntKind.i64.wrap ((i:Int)+1)=((i+1:Nat):Int):=IntWalk.i64_in _ ⟨by omega,by simp only [maxVec] at hlm; omega⟩
 (refine go ?_;repeat' (apply B<;>intro hb<;>try cases hb))
 · have hil : i < xs.length := by simpa using hb
   refine Z0 (Zo (xs:=xs) (g:=inC1) rfl rfl i rfl hil rfl) rfl rfl ?_
   (first|refine st ?_|(apply B<;>intro hb<;>try cases hb))
   refine Z6 (hg _ (List.getElem_mem hil)) rfl rfl rfl ⟨trivial,trivial⟩ rfl ?_
   refine Z1p ?_
   refine Z3G rfl (fun hx=>?_) (fun hx=>?_)
   · refine go ?_
     exact Z5 rfl trivial (by rw [Z3L hil hno hx])
   · (refine go ?_;repeat' (apply B<;>intro hb<;>try cases hb))
     exact⟨i+1,⟨by omega,Z3s hil hno hx⟩,by omega,rfl,rfl,⟨rfl,rfl,rfl,by show some _=some _; rw [hinc],trivial⟩⟩
 · have hil : i = xs.length := by simp at hb; omega
   subst hil
   rw [List.take_length] at hno
   exact Z5 rfl trivial (by rw [Z1Z hno]; rfl)
theorem Z4m (xs:List Nat) (fl:Bool) (g:Nat) (p:Nat→Bool) (hg:∀ x∈xs,Spec Tryz.prog g [.val (.int .i64 (x:Int))] (· = .val (.bool (p x)))) :
 Spec Tryz.prog 71 [.vec (inL xs) fl,.fn g []] (· = .val (.bool (xs.any p))):=by
 refine Z2 ok71 (Nat.le_of_ble_eq_true rfl) fun C hC=>?_
 refine go ?_
 refine Z6 (Z5U xs fl g p hg) rfl rfl rfl ⟨Z1l xs,trivial,trivial⟩ rfl ?_
 refine Z0 (Z4 rfl (Z49 (p:=p) (xs:=xs))) rfl rfl ?_
 (refine go ?_;repeat' (apply B<;>intro hb<;>try cases hb))
 all_goals exact Z5 rfl trivial (by rw [hb])
theorem ZdI (k:Nat):Spec Tryz.prog 72 [.val (.int .i64 (k:Int))] (· = .val (.bool (decide (64≤k)))):=by
 refine Z2 ok72 (Nat.le_of_ble_eq_true rfl) fun C hC=>?_
 refine gd 4 ⟨?_⟩
 refine Z0 (Z4 (v:=false) rfl (decide_eq_false (by omega))) rfl rfl ?_
 refine gd 7 ⟨?_⟩
 refine Zi rfl ?_
 refine Z0 (Z4 (v:=decide (64≤k)) rfl (decide_eq_decide.2 (by omega))) rfl rfl ?_
 cases decide (64≤k)
 · refine go ?_
   exact Z5 rfl trivial rfl
 · refine go ?_
   exact Z5 rfl trivial rfl
def certL (id:List Nat) (b:Bool) (p:List Nat) (fp:Bool) (l:List Cu) (fl:Bool):List PV:=crow .u8 id ++ [.val (.bool b),.vec (inL p) fp,.vec (l.map cuC) fl]
theorem Z1O (id:List Nat) (b:Bool) (p:List Nat) (fp:Bool) (l:List Cu) (fl:Bool):pureL (certL id b p fp l fl):=Z19 (Zv _ _) ⟨trivial,Z1l _,Z9 Zk _,trivial⟩
theorem Z3B (cc t cs:List PV) (n j:Nat) (h:cc.length=n):setAt (cc++t) (n+j) cs=cc++setAt t j cs:=by
 subst h
 unfold setAt
 rw [List.take_append,List.take_of_length_le (by omega),Nat.add_sub_cancel_left,Nat.add_assoc,List.drop_append,List.drop_of_length_le (by omega),Nat.add_sub_cancel_left,List.nil_append,List.append_assoc,List.append_assoc,List.append_assoc]
theorem Zga {e:Env} {a b c:Operand} {cc:List PV} {q:PV} (ha:ev e a=some (.agg cc)) (hc:ev e c=some q) (hq:q.flat=true) (hq1:q.cells = [q]) (hl:cc.length=32) (z:List PV) (hz:z.length=35) (x:PV) (hb:ev e b=some (.val (.bool true))) (hzd:z.drop 32 = [.val (.bool false),.vec [] true,.vec [] true]):buildL e z [(0,32,a),(32,1,b),(33,1,c)]=some (cc ++ [.val (.bool true),q,.vec [] true]):=by
 have h1:setAt z 0 cc=cc ++ [.val (.bool false),.vec [] true,.vec [] true]:=by
  unfold setAt
  rw [List.take_zero,List.nil_append,hl,Nat.zero_add,hzd]
 have e1:(PV.agg cc).cells=cc:=rfl
 have e2:(PV.val (.bool true)).cells = [.val (.bool true)]:=rfl
 have f1:(PV.agg cc).flat=true:=rfl
 have f2:(PV.val (.bool true)).flat=true:=rfl
 simp only [buildL,ha,hb,hc,e1,e2,f1,f2,hq,hq1,hl,hz,h1,Bool.true_and,List.length_singleton,beq_self_eq_true]
 rw [if_pos (by decide)]
 rw [show setAt (cc ++ [PV.val (.bool false),.vec [] true,.vec [] true]) 32 [.val (.bool true)]=cc ++ [.val (.bool true),.vec [] true,.vec [] true] from Z3B cc _ _ 32 0 hl]
 rw [if_pos (by rw [List.length_append,hl]; decide)]
 rw [show setAt (cc ++ [PV.val (.bool true),.vec [] true,.vec [] true]) 33 [q]=cc ++ [.val (.bool true),q,.vec [] true] from Z3B cc _ _ 32 1 hl]
 rw [if_pos (by rw [List.length_append,hl]; decide)]
theorem Zf3 {e:Env} {a c:Operand} {cc:List PV} {q:PV} (ha:ev e a=some (.agg cc)) (hc:ev e c=some q) (hq:q.flat=true) (hq1:q.cells = [q]) (hl:cc.length=32) (z:List PV) (hz:z.length=35) (hzd:z.drop 32 = [.val (.bool false),.vec [] true,.vec [] true]):buildL e z [(0,32,a),(34,1,c)]=some (cc ++ [.val (.bool false),.vec [] true,q]):=by
 have h1:setAt z 0 cc=cc ++ [.val (.bool false),.vec [] true,.vec [] true]:=by
  unfold setAt
  rw [List.take_zero,List.nil_append,hl,Nat.zero_add,hzd]
 have e1:(PV.agg cc).cells=cc:=rfl
 have f1:(PV.agg cc).flat=true:=rfl
 simp only [buildL,ha,hc,e1,f1,hq,hq1,hl,hz,h1,Bool.true_and,List.length_singleton,beq_self_eq_true]
 rw [if_pos (by decide)]
 rw [if_pos (by rw [List.length_append,hl]; decide)]
 rw [show setAt (cc ++ [PV.val (.bool false),.vec [] true,.vec [] true]) 34 [q]=cc ++ [.val (.bool false),.vec [] true,q] from Z3B cc _ _ 32 2 hl]
theorem Z8x {e:Env} {h:Heap} {n:Nat} {z:List Value} {ps:List (Nat×Nat×Operand)} {l:List PV} (hb:buildL e (zpv z) ps=some l):dEval (.build z ps) e h n=some (.agg l,h):=by
 simp only [dEval,hb]
def zCert:List PV:=crow .u8 (List.replicate 32 0) ++ [.val (.bool false),.vec [] true,.vec [] true]
theorem Z5b (t:PB):(idOf t).length=32:=Z4H _
set_option maxRecDepth 100000 in
set_option maxHeartbeats 4000000 in
theorem Z8y {t:PB} (h:PbOk t) (hw:PbW t) (S:List Nat) (p:List Nat) (fl:Bool) (hp:p.length≤1000000):Spec Tryz.prog 19 [.agg (pbP t S),.vec (inL p) fl] (· = .agg (certL (idOf t) true p false [] true)):=by
 refine Z2 ok19 (Nat.le_of_ble_eq_true rfl) fun C hC=>?_
 have hpp:=Zx t S
 have hil:=Z5b t
 have hcl:(crow .u8 (idOf t)).length=32:=by rw [Zp,hil]
 have hlen:(certL (idOf t) true p false [] true).length=35:=by unfold certL; rw [List.length_append,hcl]; rfl
 have hcp:=Z1O (idOf t) true p false [] true
 have hid:=Z2y h hw S
 have hcd:certL (idOf t) true p false [] true=crow .u8 (idOf t) ++ [.val (.bool true),.vec (inL p) false,.vec [] true]:=rfl
 generalize certL (idOf t) true p false [] true=cc at hlen hcp hcd ⊢
 generalize crow .u8 (idOf t)=ci at hid hcl hcd
 have hcip:pureL ci:=by rw [hcd] at hcp; exact (Z13 _ _).2 fun q hq=>(Z13 _ _).1 hcp q (List.mem_append_left _ hq)
 refine gd 2 ⟨?_⟩
 refine Z3 rfl rfl rfl ?_
 refine gd 6 ⟨?_⟩
 refine Z6 hid rfl rfl rfl ⟨hpp,trivial⟩ rfl ?_
 refine gd 8 ⟨?_⟩
 refine Z6 ((ZbZ p fl hp).spec (Z1l p) (fun _=>.own) (Z1l p)) rfl rfl rfl ⟨Z1l p,trivial⟩ rfl ?_
 refine Z0 (Z8x (l:=cc) (by rw [hcd]; exact Zga rfl rfl rfl rfl hcl _ (by kernel_rfl) pvu rfl (by kernel_rfl))) rfl rfl ?_
 refine Z0 (Z7C (l:=zCert) rfl rfl (by kernel_rfl) hlen (by kernel_rfl)) rfl rfl ?_
 refine go ?_
 refine Z5 (Z1M (Z50 (l:=cc ++ []) (r:=cc) rfl rfl ?_ ?_)) hcp rfl
 · rw [List.append_nil,hlen]; decide
 · rw [List.append_nil,List.drop_zero,List.take_of_length_le (by rw [hlen]; exact Nat.le_refl _)]
set_option maxRecDepth 100000 in
set_option maxHeartbeats 4000000 in
theorem Z4V {t:PB} (h:PbOk t) (hw:PbW t) (S:List Nat) (l:List Cu) (fl:Bool) (hl:l.length≤1000000):Spec Tryz.prog 16 [.agg (pbP t S),.vec (l.map cuC) fl] (· = .agg (certL (idOf t) false [] true l false)):=by
 refine Z2 ok16 (Nat.le_of_ble_eq_true rfl) fun C hC=>?_
 have hpp:=Zx t S
 have hil:=Z5b t
 have hcl:(crow .u8 (idOf t)).length=32:=by rw [Zp,hil]
 have hlen:(certL (idOf t) false [] true l false).length=35:=by unfold certL; rw [List.length_append,hcl]; rfl
 have hcp:=Z1O (idOf t) false [] true l false
 have hid:=Z2y h hw S
 have hcd:certL (idOf t) false [] true l false=crow .u8 (idOf t) ++ [.val (.bool false),.vec [] true,.vec (l.map cuC) false]:=rfl
 generalize certL (idOf t) false [] true l false=cc at hlen hcp hcd ⊢
 generalize crow .u8 (idOf t)=ci at hid hcl hcd
 have hcip:pureL ci:=by rw [hcd] at hcp; exact (Z13 _ _).2 fun q hq=>(Z13 _ _).1 hcp q (List.mem_append_left _ hq)
 refine gd 2 ⟨?_⟩
 refine Z3 rfl rfl rfl ?_
 refine gd 6 ⟨?_⟩
 refine Z6 hid rfl rfl rfl ⟨hpp,trivial⟩ rfl ?_
 refine gd 8 ⟨?_⟩
 refine Z6 ((Zby l fl hl).spec (Z9 Zk l) (fun _=>.own) (Z9 Zk l)) rfl rfl rfl ⟨Z9 Zk l,trivial⟩ rfl ?_
 refine Z0 (Z8x (l:=cc) (by rw [hcd]; exact Zf3 rfl rfl rfl rfl hcl _ (by kernel_rfl) (by kernel_rfl))) rfl rfl ?_
 refine Z0 (Z7C (l:=zCert) rfl rfl (by kernel_rfl) hlen (by kernel_rfl)) rfl rfl ?_
 refine go ?_
 refine Z5 (Z1M (Z50 (l:=cc ++ []) (r:=cc) rfl rfl ?_ ?_)) hcp rfl
 · rw [List.append_nil,hlen]; decide
 · rw [List.append_nil,List.drop_zero,List.take_of_length_le (by rw [hlen]; exact Nat.le_refl _)]
def rolesN:Nat:=withoutN (2 ^ 64-1) 0
theorem ZdJ:rolesN<18446744073709551616:=Z9h (by decide) 0
def cT:List Cu→Nat
 | []=>0
 | c :: r=>if decide (c.1 ||| c.2 ||| rolesN=rolesN) then (if emC c then 6 else cT r) else 2
def chkT (p:List Nat) (l:List Cu):Nat:=if p.any (fun k=>decide (64≤k)) then 2 else cT l
def FormC (b:Bool) (p:List Nat) (l:List Cu):Prop:=(b=true∧l = []) ∨ (b=false∧p = [])
section
variable {id p:List Nat} {b fp fl:Bool} {l:List Cu}
theorem ZaL (hid:id.length=32):(certL id b p fp l fl).drop 32=.val (.bool b) :: [.vec (inL p) fp,.vec (l.map cuC) fl]:=by
 unfold certL
 rw [List.drop_append,Zp,hid,List.drop_of_length_le (by rw [Zp,hid]; exact Nat.le_refl _)]
 rfl
theorem ZaM (hid:id.length=32):(certL id b p fp l fl).drop 33=.vec (inL p) fp :: [.vec (l.map cuC) fl]:=by
 unfold certL
 rw [List.drop_append,Zp,hid,List.drop_of_length_le (by rw [Zp,hid]; decide)]
 rfl
theorem ZaN (hid:id.length=32):(certL id b p fp l fl).drop 34=.vec (l.map cuC) fl :: []:=by
 unfold certL
 rw [List.drop_append,Zp,hid,List.drop_of_length_le (by rw [Zp,hid]; decide)]
 rfl
theorem Z5V (hid:id.length=32):(certL id b p fp l fl).length=35:=by
 unfold certL
 rw [List.length_append,Zp,hid]
 rfl
end
set_option maxRecDepth 100000 in
set_option maxHeartbeats 8000000 in
theorem Za1 (id:List Nat) (hid:id.length=32) (b:Bool) (p:List Nat) (fp:Bool) (l:List Cu) (fl:Bool) (hf:FormC b p l) (hp:p.length≤10000) (hll:l.length≤2000) (hl:∀ c∈l,Ok64 c):Spec Tryz.prog 27 [.agg (certL id b p fp l fl)] (· = .val (.int .i64 ((chkT p l:Nat):Int))):=by
 refine Z2 ok27 (Nat.le_of_ble_eq_true rfl) fun C hC=>?_
 have d32:=ZaL (b:=b) (p:=p) (fp:=fp) (l:=l) (fl:=fl) hid
 have d33:=ZaM (b:=b) (p:=p) (fp:=fp) (l:=l) (fl:=fl) hid
 have d34:=ZaN (b:=b) (p:=p) (fp:=fp) (l:=l) (fl:=fl) hid
 have hlen:=Z5V (b:=b) (p:=p) (fp:=fp) (l:=l) (fl:=fl) hid
 have hcp:=Z1O id b p fp l fl
 have hil:=Z7t p
 have hml:(l.map cuC).length=l.length:=List.length_map ..
 have hlp:pureLL (l.map cuC):=Z9 Zk l
 generalize certL id b p fp l fl=cc at d32 d33 d34 hlen hcp
 have hcf:=Z4m p fp 72 (fun k=>decide (64≤k)) (fun k _=>ZdI k)
 have hbe:=Z3w 64 (by decide) (by decide)
 have hwo:=Z16 (2 ^ 64-1) (by decide) 0
 change Spec _ _ _ (· = setN rolesN) at hwo
 have hrl:=ZdJ
 refine gd 1 ⟨?_⟩
 refine Z3 (Z5H rfl (by rw [hlen]; decide)) rfl rfl ?_
 iterate 2 (first|refine st ?_|(apply B<;>intro hb<;>try cases hb))
 have hci:∀ D,innL D cc:=fun D=>Zm (fun _ h=>h.elim) _ hcp
 have hli:∀ D,innLL D (l.map cuC):=fun D=>Za (fun _ h=>h.elim) _ hlp
 refine Zfa hC (p.any (fun k=>decide (64≤k))=false) 0 [(1,.cp cc)] [] (Nat.zero_le _) ?_ (fun hany=>?_)
 · refine gd 8 ⟨?_⟩
   refine Z0 (Z3C rfl d33) rfl rfl ?_
   refine gd 10 ⟨?_⟩
   refine Z0 (Z4 (v:=false) rfl (decide_eq_false (by rw [hil];omega))) rfl rfl ?_
   refine gd 13 ⟨?_⟩
   refine Zi rfl ?_
   refine Z0 (Z3C rfl d34) rfl rfl ?_
   refine gd 15 ⟨?_⟩
   refine Zi rfl ?_
   refine Z0 (Z4 (v:=false) rfl (decide_eq_false (by rw [hml];omega))) rfl rfl ?_
   refine gd 19 ⟨?_⟩
   refine Z0 (Z3C rfl d32) rfl rfl ?_
   rcases hf with⟨rfl,rfl⟩|⟨rfl,rfl⟩
   · refine gd 22 ⟨?_⟩
     refine Zi rfl ?_
     refine Z0 (Z3C rfl d34) rfl rfl ?_
     refine gd 28 ⟨?_⟩
     refine Zi rfl ?_
     refine Z0 (Z3C rfl d32) rfl rfl ?_
     refine gd 39 ⟨?_⟩
     refine Z0 (Z3C rfl d33) rfl rfl ?_
     refine Z6 hcf rfl rfl rfl ⟨Z1l p,trivial,trivial⟩ rfl ?_
     cases ha:p.any fun k=>decide (64≤k)
     · refine go ?_
       exact⟨rfl,⟨⟨rfl,hci _⟩,trivial⟩,trivial⟩
     · refine go ?_
       exact Z5 rfl trivial (by unfold chkT; rw [ha]; rfl)
   · refine gd 28 ⟨?_⟩
     refine Zi rfl ?_
     refine Z0 (Z3C rfl d32) rfl rfl ?_
     refine gd 32 ⟨?_⟩
     refine Zi rfl ?_
     refine Z0 (Z3C rfl d33) rfl rfl ?_
     refine gd 39 ⟨?_⟩
     refine Z0 (Z3C rfl d33) rfl rfl ?_
     refine Z6 hcf rfl rfl rfl ⟨Z1l _,trivial,trivial⟩ rfl ?_
     refine go ?_
     exact⟨rfl,⟨⟨rfl,hci _⟩,trivial⟩,trivial⟩
 · have hct : chkT p l = cT l := by unfold chkT; rw [hany]; rfl
   rw [hct]
   generalize hfin:cT l=fin
   refine gd 41 ⟨?_⟩
   refine Z6 hbe rfl rfl rfl ⟨trivial,trivial⟩ rfl ?_
   refine Z6 hwo rfl rfl rfl ⟨Z1 _,trivial,trivial⟩ rfl ?_
   refine gd 44 ⟨?_⟩
   refine Z0 (Z3C rfl d34) rfl rfl ?_
   refine go ?_
   refine Zl hC (fun i=>i≤l.length∧cT (l.drop i)=fin) (fun i=>l.length-i) 1 (fun i => [(3,.ptr 0 0 0),(44,.vec (l.map cuC) fl),(45,.val (.int .i64 (l.length:Int))),(46,.val (.int .i64 (i:Int)))]) (fun _ => [(0,sBx rolesN)]) (by decide) 0 ⟨Nat.zero_le _,hfin⟩
    ⟨⟨rfl,show 0<1 by decide⟩,⟨rfl,hli _⟩,⟨by rw [← hml]; rfl,trivial⟩,⟨rfl,trivial⟩,trivial⟩ ⟨⟨by decide,rfl,Z2i _ _⟩,trivial⟩ ?_
   rintro i ⟨hi,hk⟩
   have hinc:IntKind.i64.wrap ((i:Int)+1)=((i+1:Nat):Int):=IntWalk.i64_in _ ⟨by omega,by omega⟩
   refine gd 47 ⟨?_⟩
   by_cases hil2:i<l.length
   · refine Z0 (Z4 (v := true) rfl (decide_eq_true (by omega))) rfl rfl ?_
     have hdr:l.drop i=l[i] :: l.drop (i+1):=List.drop_eq_getElem_cons hil2
     rw [hdr] at hk
     have hc64:=hl _ (List.getElem_mem hil2)
     refine gd 48 ⟨?_⟩
     refine Z0 (Zo (xs:=l) (g:=cuC) rfl rfl i rfl hil2 rfl) rfl rfl ?_
     generalize l[i]=c at hk hc64
     have hor:=Z2x hc64.1 hc64.2
     have hwi:=Z1K (c.1 ||| c.2) rolesN hor hrl
     change (if decide (c.1 ||| c.2 ||| rolesN=rolesN) then (if emC c then 6 else cT (l.drop (i+1))) else 2)=fin at hk
     refine gd 54 ⟨?_⟩
     refine Zr (Z1Q c.1 c.2 hc64.1 hc64.2) rfl rfl rfl ⟨Z1 _,Z1 _,trivial⟩ ?_
     refine gd 56 ⟨?_⟩
     refine Zr hwi rfl rfl rfl ⟨Z1 _,Z1 _,trivial⟩ ?_
     cases hw:decide (c.1 ||| c.2 ||| rolesN=rolesN)
     · rw [hw, if_neg (by decide)] at hk
       refine go ?_
       exact Z5 rfl trivial (by rw [← hk]; rfl)
     rw [hw,if_pos rfl] at hk
     refine gd 59 ⟨?_⟩
     refine Z6 (Z5C c hc64) rfl rfl rfl ⟨Z2o _,trivial⟩ rfl ?_
     cases he:emC c
     · rw [he, if_neg (by decide)] at hk
       refine go ?_
       exact⟨i+1,⟨hil2,hk⟩,by omega,⟨⟨rfl,show 0<1 by decide⟩,⟨rfl,hli _⟩,⟨rfl,trivial⟩,⟨by show some _=some _; rw [hinc],trivial⟩,trivial⟩,⟨⟨by decide,rfl,Z2i _ _⟩,trivial⟩⟩
     · rw [he, if_pos rfl] at hk
       refine go ?_
       exact Z5 rfl trivial (by rw [← hk]; rfl)
   · obtain rfl : i = l.length := by omega
     refine Z0 (Z4 (v:=false) rfl (decide_eq_false (by omega))) rfl rfl ?_
     rw [List.drop_length] at hk
     refine go ?_
     exact Z5 rfl trivial (by rw [← hk]; rfl)
theorem eqCrow:∀ (n:Nat) (a b:List Nat),a.length=n→b.length=n→eqCells (List.replicate n 0) (crow .u8 a) (crow .u8 b)=some (decide (a=b))
 | 0,[],[],_,_=>rfl
 | n + 1, x :: a, y :: b, ha, hb => by
   have ih:=eqCrow n a b (Nat.succ.inj ha) (Nat.succ.inj hb)
   show (match eqCell 0 (.val (.int .u8 (x:Int))) (.val (.int .u8 (y:Int))),eqCells (List.replicate n 0) (crow .u8 a) (crow .u8 b) with|some x,some y=>some (x&&y)|_,_=>none)=_
   rw [ih]
   have e1:eqCell 0 (.val (.int .u8 (x:Int))) (.val (.int .u8 (y:Int)))=some (decide (x=y)):=by
    show (if (0=0∧IntKind.u8=IntKind.u8) then some (((x:Int)) == (y:Int)) else none)=_
    rw [if_pos ⟨rfl,rfl⟩]
    congr 1
    by_cases h:x=y
    · subst h; simp
    · rw [decide_eq_false h]
      exact beq_eq_false_iff_ne.2 (by omega)
   rw [e1]
   show some (decide (x=y)&&decide (a=b))=_
   congr 1
   rw [← Bool.decide_and]
   exact decide_eq_decide.2 (by rw [List.cons.injEq])
section
variable {e:Env} {h:Heap} {n:Nat} {x y:Operand} {a b:List Nat}
theorem ZdK (hx:ev e x=some (.agg (crow .u8 a))) (hy:ev e y=some (.agg (crow .u8 b))) (ha:a.length=32) (hb:b.length=32):dEval (.bin .eql (.cells (List.replicate 32 0)) x y) e h n=some (.val (.bool (decide (a=b))),h):=by
 simp only [dEval,hx,hy,pbin,eqCrow 32 a b ha hb]
theorem ZdL (hx:ev e x=some (.agg (crow .u8 a))) (hy:ev e y=some (.agg (crow .u8 b))) (ha:a.length=32) (hb:b.length=32):dEval (.bin .neq (.cells (List.replicate 32 0)) x y) e h n=some (.val (.bool (!decide (a=b))),h):=by
 simp only [dEval,hx,hy,pbin,eqCrow 32 a b ha hb]
theorem ZdM {l r:List PV} {size:Nat} (hx:ev e x=some (.cp l)) (hl:size≤l.length) (hr:l.take size=r):dEval (.load true size x) e h n=some (.agg r,h):=by
 subst hr
 simp only [dEval,hx,cutAt]
 rw [if_pos (by omega)]
 rfl
end
theorem Zf4 {l:List Cu} {c:Cu} (hc:c∈l):c.1 ||| mentC l=mentC l∧c.2 ||| mentC l=mentC l:=by
 have gen:∀ (l:List Cu) (a:Nat),a ||| l.foldl (fun s c=>(s ||| c.1) ||| c.2) a=l.foldl (fun s c=>(s ||| c.1) ||| c.2) a:=by
  intro l
  induction l with
  | nil=>exact fun a=>Nat.or_self a
  | cons x l ih =>
    intro a
    have h1:=ih ((a ||| x.1) ||| x.2)
    show a ||| l.foldl _ ((a ||| x.1) ||| x.2)=l.foldl _ ((a ||| x.1) ||| x.2)
    rw [← h1]
    apply Nat.eq_of_testBit_eq
    intro i
    simp only [Nat.testBit_or]
    cases a.testBit i<;>simp
 have gen2:∀ (l:List Cu) (a:Nat) (c:Cu),c∈l→c.1 ||| l.foldl (fun s c=>(s ||| c.1) ||| c.2) a=l.foldl (fun s c=>(s ||| c.1) ||| c.2) a∧c.2 ||| l.foldl (fun s c=>(s ||| c.1) ||| c.2) a=l.foldl (fun s c=>(s ||| c.1) ||| c.2) a:=by
  intro l
  induction l with
  | nil=>exact fun a c hc=>by cases hc
  | cons x l ih =>
    intro a c hc
    rcases List.mem_cons.1 hc with rfl|hc
    · have h1 := gen l ((a ||| c.1) ||| c.2)
      show c.1 ||| l.foldl _ ((a ||| c.1) ||| c.2)=l.foldl _ ((a ||| c.1) ||| c.2)∧c.2 ||| l.foldl _ ((a ||| c.1) ||| c.2)=l.foldl _ ((a ||| c.1) ||| c.2)
      rw [← h1]
      constructor
      · apply Nat.eq_of_testBit_eq
        intro i
        simp only [Nat.testBit_or]
        cases c.1.testBit i<;>simp
      · apply Nat.eq_of_testBit_eq
        intro i
        simp only [Nat.testBit_or]
        cases c.2.testBit i<;>simp
    · exact ih _ c hc
 exact gen2 l 0 c hc
theorem ZgS {l:List Cu} (hl:∀ c∈l,Ok64 c) (h0:(mentC l).testBit 0=false):CuZ l:=fun c hc=>by
 obtain⟨h1,h2⟩:=Zf4 hc
 refine⟨hl c hc,?_,?_⟩
 · have := congrArg (fun x => x.testBit 0) h1
   simp only [Nat.testBit_or,h0,Bool.or_false] at this
   exact this
 · have := congrArg (fun x => x.testBit 0) h2
   simp only [Nat.testBit_or,h0,Bool.or_false] at this
   exact this
noncomputable def chkJ (t:PB) (b:Bool) (p:List Nat) (l:List Cu) (fl:Bool):Fd :=
 if idOf t=List.replicate 32 0 then (2,0,0) else if chkT p l≠0 then (3,0,0) else if properT t.n l then
  (if p.any (fun k=>decide (t.rs.length≤k)) then (3,0,0) else if b then followT t t.st p 0 else closedT t l fl) else (3,0,0)
set_option maxRecDepth 100000 in
set_option maxHeartbeats 16000000 in
theorem Z5W {t:PB} (h:PbOk t) (hw:PbW t) (S:List Nat) (b:Bool) (p:List Nat) (fp:Bool) (l:List Cu) (fl:Bool) (hf:FormC b p l) (hp:p.length≤10000) (hll:l.length≤2000) (hl:∀ c∈l,Ok64 c):Spec Tryz.prog 9 [.agg (pbP t S),.agg (certL (idOf t) b p fp l fl)] (· = fdP (chkJ t b p l fl)):=by
 refine Z2 ok9 (Nat.le_of_ble_eq_true rfl) fun C hC=>?_
 have hpp:=Zx t S
 have hpi:∀ D,innL D (pbP t S):=fun D=>Zm (fun _ h=>h.elim) _ hpp
 have hid:=Z5b t
 have d32:=ZaL (b:=b) (p:=p) (fp:=fp) (l:=l) (fl:=fl) hid
 have d33:=ZaM (b:=b) (p:=p) (fp:=fp) (l:=l) (fl:=fl) hid
 have d34:=ZaN (b:=b) (p:=p) (fp:=fp) (l:=l) (fl:=fl) hid
 have hlen:=Z5V (b:=b) (p:=p) (fp:=fp) (l:=l) (fl:=fl) hid
 have hcp:=Z1O (idOf t) b p fp l fl
 have htk:(certL (idOf t) b p fp l fl).take 32=crow .u8 (idOf t):=by
  unfold certL
  rw [List.take_append,Zp,hid,Nat.sub_self,List.take_zero,List.append_nil,List.take_of_length_le (by rw [Zp,hid]; exact Nat.le_refl _)]
 have hck:=Za1 (idOf t) hid b p fp l fl hf hp hll hl
 have hpr:=Z2y h hw S
 have hcl:(crow .u8 (idOf t)).length=32:=by rw [Zp,hid]
 have hJ:chkJ t b p l fl=if idOf t=List.replicate 32 0 then (2,0,0) else if chkT p l≠0 then (3,0,0) else if properT t.n l then
  (if p.any (fun k=>decide (t.rs.length≤k)) then (3,0,0) else if b then followT t t.st p 0 else closedT t l fl) else (3,0,0):=rfl
 generalize certL (idOf t) b p fp l fl=cc at d32 d33 d34 hlen hcp htk hck
 have hci:∀ D,innL D cc:=fun D=>Zm (fun _ h=>h.elim) _ hcp
 have hz:∀ D,innLL D [[PV.val (.int .u8 0),.val (.int .i64 0),.val (.int .i64 0)]]:=fun D=>⟨⟨trivial,trivial,trivial,trivial⟩,trivial⟩
 generalize hii:idOf t=ii at hid htk hpr hcl hJ
 refine gd 2 ⟨?_⟩
 refine Z3 rfl rfl rfl ?_
 refine Z3 (Z5H rfl (by rw [hlen]; decide)) rfl rfl ?_
 refine gd 9 ⟨?_⟩
 refine Z6 hpr rfl rfl rfl ⟨hpp,trivial⟩ rfl ?_
 (first|refine st ?_|(apply B<;>intro hb<;>try cases hb))
 refine Z0 (Z7C (l:=crow .u8 (List.replicate 32 0)) rfl rfl rfl hcl rfl) rfl rfl ?_
 refine gd 11 ⟨?_⟩
 refine Z0 (ZdM (r:=crow .u8 ii) rfl (by rw [List.drop_zero,hlen]; decide) (by rw [List.drop_zero,htk])) rfl rfl ?_
 refine Z0 (Z50 (l:=crow .u8 ii ++ []) (r:=crow .u8 ii) rfl rfl (by rw [List.append_nil,hcl]; decide) (by rw [List.append_nil,List.drop_zero,List.take_of_length_le (by rw [hcl]; exact Nat.le_refl _)])) rfl rfl ?_
 refine Z0 (ZdL rfl rfl hid hid) rfl rfl ?_
 rw [decide_eq_true rfl]
 refine gd 15 ⟨?_⟩
 refine Zi rfl ?_
 refine Z0 (Z50 (l:=crow .u8 ii ++ []) (r:=crow .u8 ii) rfl rfl (by rw [List.append_nil,hcl]; decide) (by rw [List.append_nil,List.drop_zero,List.take_of_length_le (by rw [hcl]; exact Nat.le_refl _)])) rfl rfl ?_
 refine gd 17 ⟨?_⟩
 refine Zi rfl ?_
 refine Z0 (ZdK (b:=List.replicate 32 0) rfl (by kernel_rfl) hid rfl) rfl rfl ?_
 by_cases h0:ii=List.replicate 32 0
 · rw [if_pos h0] at hJ
   rw [hJ,decide_eq_true h0]
   refine go ?_
   exact Z5 rfl (Z1m (2,0,0)) rfl
 rw [if_neg h0] at hJ
 rw [decide_eq_false h0]
 refine gd 20 ⟨?_⟩
 refine Z0 (ZdM (r:=cc) rfl (by rw [hlen]; decide) (List.take_of_length_le (by rw [hlen]; exact Nat.le_refl _))) rfl rfl ?_
 refine Z6 hck rfl rfl rfl ⟨hcp,trivial⟩ rfl ?_
 by_cases hc0:chkT p l≠0
 · rw [if_pos hc0] at hJ
   rw [hJ]
   refine Z0 (Z4 (v:=true) rfl (bne_iff_ne.2 (by omega))) rfl rfl ?_
   refine go ?_
   exact Z5 rfl (Z1m (3,0,0)) rfl
 rw [if_neg hc0] at hJ
 have hc0:chkT p l=0:=by omega
 rw [hc0]
 refine gd 26 ⟨?_⟩
 refine Zi rfl ?_
 refine Z0 (Z3C rfl d34) rfl rfl ?_
 refine Zi rfl ?_
 refine Z6 (Z9Q t h.n.2 S l fl hl) rfl rfl rfl ⟨hpp,Z9 Zk l,trivial⟩ rfl ?_
 cases hpr:properT t.n l
 · rw [hpr, if_neg (by decide)] at hJ
   rw [hJ]
   refine go ?_
   exact Z5 rfl (Z1m (3,0,0)) rfl
 rw [hpr,if_pos rfl] at hJ
 have hcz:CuZ l:=ZgS hl (by
  unfold properT at hpr
  simp only [Bool.and_eq_true,Bool.not_eq_true'] at hpr
  exact hpr.1)
 have hmr:(t.rs.map ruP).length=t.rs.length:=List.length_map ..
 have hip:=Z7t p
 have hii2:∀ D,innLL D (inL p):=fun D=>Za (fun _ h=>h.elim) _ (Z1l p)
 have hst:t.st<18446744073709551616:=Nat.lt_trans hw.st (by decide)
 have hfo:=Z9R h S p fp (by omega) hst
 have hclo:=Z9S h S l fl hcz (by omega) hst
 generalize followT t t.st p 0=F at hfo hJ
 generalize closedT t l fl=G at hclo hJ
 refine gd 32 ⟨?_⟩
 refine Z0 (Z3C rfl d33) rfl rfl ?_
 refine go ?_
 refine Zl hC (fun i=>i≤p.length∧(p.take i).any (fun k=>decide (t.rs.length≤k))=false) (fun i=>p.length-i) 1 (fun i => [(2,.cp (pbP t S)),(3,.cp cc),(4,.ptr 0 0 0),(32,.vec (inL p) fp),(33,.val (.int .i64 (p.length:Int))),(34,.val (.int .i64 (i:Int)))]) (fun _ => [(0,⟨3,[[.val (.int .u8 0),.val (.int .i64 0),.val (.int .i64 0)]]⟩)]) (by decide) 0 ⟨Nat.zero_le _,rfl⟩
  ⟨⟨rfl,hpi _⟩,⟨rfl,hci _⟩,⟨rfl,show 0<1 by decide⟩,⟨rfl,hii2 _⟩,⟨by rw [← hip]; rfl,trivial⟩,⟨rfl,trivial⟩,trivial⟩ ⟨⟨by decide,rfl,hz _⟩,trivial⟩ ?_
 rintro i ⟨hi,hno⟩
 have hinc:IntKind.i64.wrap ((i:Int)+1)=((i+1:Nat):Int):=IntWalk.i64_in _ ⟨by omega,by omega⟩
 refine gd 35 ⟨?_⟩
 by_cases hil:i<p.length
 · refine Z0 (Z4 (v := true) rfl (decide_eq_true (by omega))) rfl rfl ?_
   have hst2:(p.take (i+1)).any (fun k=>decide (t.rs.length≤k))=decide (t.rs.length≤p[i]):=by
    rw [List.take_succ_eq_append_getElem hil,List.any_append,hno]
    simp
   refine gd 36 ⟨?_⟩
   refine Z0 (Zo (xs:=p) (g:=inC1) rfl rfl i rfl hil rfl) rfl rfl ?_
   have hmem:p[i]∈p:=List.getElem_mem hil
   generalize p[i]=k at hst2 hmem
   refine gd 39 ⟨?_⟩
   refine Z0 (Z4 (v:=false) rfl (decide_eq_false (by omega))) rfl rfl ?_
   refine gd 45 ⟨?_⟩
   refine Zi rfl ?_
   by_cases hk:t.rs.length≤k
   · refine Z0 (Z4 (v := true) rfl (decide_eq_true (by rw [hmr]; omega))) rfl rfl ?_
     rw [if_pos (List.any_eq_true.2 ⟨k,hmem,decide_eq_true hk⟩)] at hJ
     rw [hJ]
     refine go ?_
     exact Z5 rfl (Z1m (3,0,0)) rfl
   · refine Z0 (Z4 (v := false) rfl (decide_eq_false (by rw [hmr]; omega))) rfl rfl ?_
     rw [decide_eq_false hk] at hst2
     refine go ?_
     exact⟨i+1,⟨hil,hst2⟩,by omega,⟨⟨rfl,hpi _⟩,⟨rfl,hci _⟩,⟨rfl,show 0<1 by decide⟩,⟨rfl,hii2 _⟩,⟨rfl,trivial⟩,⟨by show some _=some _; rw [hinc],trivial⟩,trivial⟩,⟨⟨by decide,rfl,hz _⟩,trivial⟩⟩
 · obtain rfl : i = p.length := by omega
   refine Z0 (Z4 (v:=false) rfl (decide_eq_false (by omega))) rfl rfl ?_
   rw [List.take_length] at hno
   rw [hno,if_neg (by decide)] at hJ
   refine gd 50 ⟨?_⟩
   refine Z0 (Z3C rfl d32) rfl rfl ?_
   cases b
   · rw [if_neg (by decide)] at hJ
     rw [hJ]
     refine gd 57 ⟨?_⟩
     refine Z0 (Z3C rfl d34) rfl rfl ?_
     refine Z6 hclo rfl rfl rfl ⟨hpp,Z9 Zk l,trivial⟩ rfl ?_
     refine go ?_
     exact Z5 rfl (Z1m _) rfl
   · rw [if_pos rfl] at hJ
     rw [hJ]
     refine gd 53 ⟨?_⟩
     refine Z0 (Z3C rfl d33) rfl rfl ?_
     refine Z6 hfo rfl rfl rfl ⟨hpp,Z1l p,trivial⟩ rfl ?_
     refine go ?_
     exact Z5 rfl (Z1m _) rfl
end Go.Proofs.YtmnbbggaoembeaaGreatDoor
namespace Go.Proofs.YtmnbbggaoembeaaGreatDoor
theorem Zgb (r:Nat):jun [] r=2 ^ r:=Nat.eq_of_testBit_eq fun b=>by
 rw [Bool.eq_iff_iff,Z7i Z3f,Nat.testBit_two_pow,decide_eq_true_eq]
 exact⟨fun h=>h.elim (fun h=>(Zdq h).elim) Eq.symm,fun h=>.inr h.symm⟩
def cl0 (s:Nat):Nat:=(mem s).foldl (fun o r=>if 1≤r then o ||| 2 ^ r else o) 0
theorem Z4n:clo []=cl0:=funext fun s=>by
 rw [Z9t]
 simp only [Zgb]
 rfl
def sn0 (r:Nat):Nat:=2 ^ r
theorem ZaO:sen []=sn0:=funext ZfW
def good0 (t:PB) (s:Nat):Bool := !soC t.nv (cl0 s)
def step0 (t:PB) (r:RU) (s:Nat):Bool:=decide (nextR r s≠s)&&(good0 t (nextR r s)&&(r.rev||hoC r.cu (cl0 s)))
def jstep0 (t:PB) (s:Nat) (k:Int):Option Nat:=if 0≤k then (match t.rs[k.toNat]? with|some r=>if step0 t r s then some (nextR r s) else none|none=>none) else none
def follow0 (t:PB):Nat→List Nat→Nat→Fd
 | s,[],_=>if soC t.gl (cl0 s) then (1,0,0) else (5,0,0)
 | s, k :: p, i => match jstep0 t s (k : Int) with
   | some o=>follow0 t o p (i+1)
   | none=>(4,i,k)
def out0 (t:PB) (l:List Cu) (fl:Bool):Option Nat:=solveT cl0 sn0 t.n (outN t l fl)
def esc0 (t:PB) (l:List Cu) (fl:Bool) (c:Cu) (r:RU):Option Nat:=solveT cl0 sn0 t.n (escN t l fl c r)
def escE0 (t:PB) (l:List Cu) (fl:Bool) (i k:Nat):Bool:=(esc0 t l fl (cu0 l i) (ru0 t.rs k)).isSome
def closed0 (t:PB) (l:List Cu) (fl:Bool):Fd :=
 match kFind (fun i=>hoC (cu0 l i) t.st) l.length 0 with
 | some i=>(6,i,0)
 | none=>if (out0 t l fl).isSome then (7,0,0) else leakF (iFind (escE0 t l fl) t.rs.length l.length 0)
def chk0 (t:PB) (b:Bool) (p:List Nat) (l:List Cu) (fl:Bool):Fd :=
 if idOf t=List.replicate 32 0 then (2,0,0) else if chkT p l≠0 then (3,0,0) else if properT t.n l then
  (if p.any (fun k=>decide (t.rs.length≤k)) then (3,0,0) else if b then follow0 t t.st p 0 else closed0 t l fl) else (3,0,0)
section
variable {t:PB} (hl:t.l = [])
include hl
theorem ZgT (s:Nat):goodB t s=good0 t s:=by unfold goodB good0; rw [hl,Z4n]
theorem ZgU (r:RU) (s:Nat):stepR t r s=step0 t r s:=by unfold stepR step0; rw [ZgT hl,hl,Z4n]
theorem Zgc (s:Nat) (k:Int):jstep t s k=jstep0 t s k:=by
 unfold jstep jstep0
 simp only [ZgU hl]
 all_goals rfl
theorem ZaP:∀ (p:List Nat) (s i:Nat),followT t s p i=follow0 t s p i
 | [], s, i => by
   show (if reachB t s then ((1,0,0):Fd) else (5,0,0))=(if soC t.gl (cl0 s) then (1,0,0) else (5,0,0))
   unfold reachB
   rw [hl,Z4n]
 | k :: p, s, i => by
   show (match jstep t s (k:Int) with|some o=>followT t o p (i+1)|none=>((4,i,k):Fd))=(match jstep0 t s (k:Int) with|some o=>follow0 t o p (i+1)|none=>(4,i,k))
   rw [Zgc hl]
   cases jstep0 t s (k:Int) with
   | some o=>exact ZaP p o (i+1)
   | none=>rfl
theorem Zf5 (l:List Cu) (fl:Bool):closedT t l fl=closed0 t l fl:=by
 have e1:outT t l fl=out0 t l fl:=by unfold outT out0; rw [hl,Z4n,ZaO]
 have e2:escE t l fl=escE0 t l fl:=funext fun i=>funext fun k=>by unfold escE escE0 escT esc0; rw [hl,Z4n,ZaO]
 unfold closedT closed0
 rw [e1,e2]
 all_goals rfl
theorem Za2 (b:Bool) (p:List Nat) (l:List Cu) (fl:Bool):chkJ t b p l fl=chk0 t b p l fl:=by
 unfold chkJ chk0
 rw [ZaP hl,Zf5 hl]
end
def tJ (nv:List Cu):PB:=⟨2,[],0,[⟨false,(0,0),1,0⟩,⟨false,(2,0),2,0⟩],nv,[(4,0)]⟩
theorem inC2 {c:Cu} (h1:c.1 ||| 6=6) (h2:c.2 ||| 6=6) (h3:emC c=false):InC 2 c∧InM 62 c:=⟨⟨h1,h2,h3⟩,Z3x h1 (by decide),Z3x h2 (by decide)⟩
theorem ZgV (nv:List Cu) (hn:nv.length≤64) (h:∀ c∈nv,InC 2 c∧InM 62 c) (h0:soC nv 0=false):PbOk (tJ nv):=by
 refine⟨show 1≤2∧2≤63 by decide,⟨List.Pairwise.nil,fun p hp=>(by cases hp),⟨fun _=>0,fun p hp=>(by cases hp)⟩⟩,fun p hp=>(by cases hp),show 0 ||| mkN 2=mkN 2 by decide,show 2≤64 by decide,fun r hr=>?_,hn,h,show 1≤64 by decide,fun c hc=>?_,?_⟩
 · have hr : r ∈ [(⟨false, (0, 0), 1, 0⟩ : RU), ⟨false, (2, 0), 2, 0⟩] := hr
   simp only [List.mem_cons,List.not_mem_nil,or_false] at hr
   rcases hr with rfl|rfl
   · have := inC2 (c := (0, 0)) (by decide) (by decide) (by decide)
     exact⟨this.1,this.2,show 1≤1∧1≤2∧1≤5 by decide,fun _=>rfl⟩
   · have := inC2 (c := (2, 0)) (by decide) (by decide) (by decide)
     exact⟨this.1,this.2,show 1≤2∧2≤2∧2≤5 by decide,fun h=>by cases h⟩
 · have hc : c ∈ [((4, 0) : Cu)] := hc
   rw [List.mem_singleton] at hc
   subst hc
   exact inC2 (by decide) (by decide) (by decide)
 · show soC nv (clo [] 0) = false
   rw [ZfV (m:=2) (by decide) (by decide)]; exact h0
theorem Zhl (nv:List Cu) (hn:nv.length≤64) (h:∀ c∈nv,c.1<256∧c.2<256):PbW (tJ nv) :=
 ⟨show 2≤63 by decide,show 0<256 by decide,fun r hr=>(by
  have hr:r∈[(⟨false,(0,0),1,0⟩:RU),⟨false,(2,0),2,0⟩]:=hr
  simp only [List.mem_cons,List.not_mem_nil,or_false] at hr
  rcases hr with rfl|rfl<;>exact⟨by decide,by decide,by decide⟩),h,fun c hc=>(by
  have hc:c∈[((4,0):Cu)]:=hc
  rw [List.mem_singleton] at hc
  subst hc
  exact⟨by decide,by decide⟩),fun p hp=>(by cases hp),show 0≤100 by decide,show 2≤100 by decide,Nat.le_trans hn (by decide),show 1≤100 by decide⟩
def t1J:PB:=tJ []
def t2J:PB:=tJ [(6,0)]
theorem ZdN:PbOk t1J:=ZgV [] (by decide) (fun c hc=>by cases hc) rfl
theorem Zfn:PbOk t2J:=ZgV [(6,0)] (by decide) (fun c hc=>by
 rw [List.mem_singleton] at hc
 subst hc
 exact inC2 (by decide) (by decide) (by decide)) (by decide)
theorem Zgd:PbW t1J:=Zhl [] (by decide) fun c hc=>by cases hc
theorem ZgW:PbW t2J:=Zhl [(6,0)] (by decide) fun c hc=>by
 rw [List.mem_singleton] at hc
 subst hc
 exact⟨by decide,by decide⟩
set_option maxRecDepth 100000
theorem v1 (fl:Bool):chkJ t1J true [0,1] [] fl=(1,0,0):=by rw [Za2 rfl]; cases fl<;>decide +kernel
theorem v2 (fl:Bool):chkJ t1J true [1,0] [] fl=(4,0,1):=by rw [Za2 rfl]; cases fl<;>decide +kernel
theorem v3 (fl:Bool):chkJ t1J true [0] [] fl=(5,0,0):=by rw [Za2 rfl]; cases fl<;>decide +kernel
theorem v4 (fl:Bool):chkJ t1J false [] [(4,0)] fl=(8,0,1):=by rw [Za2 rfl]; cases fl<;>decide +kernel
theorem v5 (fl:Bool):chkJ t1J false [] [(2,0),(4,0)] fl=(8,0,0):=by rw [Za2 rfl]; cases fl<;>decide +kernel
theorem v6 (fl:Bool):chkJ t1J false [] [] fl=(7,0,0):=by rw [Za2 rfl]; cases fl<;>decide +kernel
theorem v7 (fl:Bool):chkJ t2J false [] [(4,0)] fl=(1,0,0):=by rw [Za2 rfl]; cases fl<;>decide +kernel
end Go.Proofs.YtmnbbggaoembeaaGreatDoor
