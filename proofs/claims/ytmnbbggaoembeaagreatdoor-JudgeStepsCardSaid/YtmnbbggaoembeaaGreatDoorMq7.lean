/-
 Proved: for every input the law JudgeSteps returns true,never panics,and leaves its arguments as0 they were,on the given card's conditions (the table of the bits package reads as0 the program's text lays it,and is tied to it).
-/
import Derived.SevenTiedAt
import Derived.Test.YtmnbbggaoembeaaGreatDoorCards
import Derived.Test.YtmnbbggaoembeaaGreatDoorTie
import Derived.Test.YtmnbbggaoembeaaGreatDoorMq6
set_option linter.unusedSimpArgs false
set_option linter.unusedVariables false
set_option linter.unusedSectionVars false
namespace Go.Proofs.YtmnbbggaoembeaaGreatDoor
open Go.RowKit
attribute [local irreducible] aw opsK dK
abbrev Wt:=Bool×List Nat×List Cu×Bool×Bool×Fd
def fdC (f:Fd):List PV := [.val (.int .u8 (f.1:Int)),.val (.int .i64 (f.2.1:Int)),.val (.int .i64 (f.2.2:Int))]
def rowW (w:Wt):List PV:=certL (idOf t1J) w.1 w.2.1 w.2.2.2.1 w.2.2.1 w.2.2.2.2.1++fdC w.2.2.2.2.2
theorem Z2r (w:Wt):(certL (idOf t1J) w.1 w.2.1 w.2.2.2.1 w.2.2.1 w.2.2.2.2.1).length=35:=Z5V (Z5b _)
theorem Z2s (w:Wt):(rowW w).length=38:=by unfold rowW; rw [List.length_append,Z2r]; rfl
theorem Z8z (w:Wt):pureL (rowW w):=Z19 (Z1O _ _ _ _ _ _) ⟨trivial,trivial,trivial,trivial⟩
def wants:List Wt := [(true,[0,1],[],false,true,(1,0,0)),(true,[1,0],[],false,true,(4,0,1)),(true,[0],[],false,true,(5,0,0)),(false,[],[(4,0)],true,false,(8,0,1)),(false,[],[(2,0),(4,0)],true,false,(8,0,0)),(false,[],[],true,false,(7,0,0))]
theorem Zf6:∀ w∈wants,FormC w.1 w.2.1 w.2.2.1∧w.2.1.length≤10000∧w.2.2.1.length≤2000∧(∀ c∈w.2.2.1,Ok64 c)∧chkJ t1J w.1 w.2.1 w.2.2.1 w.2.2.2.2.1=w.2.2.2.2.2:=by
 intro w hw
 simp only [wants,List.mem_cons,List.not_mem_nil,or_false] at hw
 have h4:∀ c∈[((4,0):Cu)],Ok64 c:=fun c hc=>by
  rw [List.mem_singleton] at hc; subst hc; exact⟨by decide,by decide⟩
 have h24:∀ c∈[((2,0):Cu),(4,0)],Ok64 c:=fun c hc=>by
  simp only [List.mem_cons,List.not_mem_nil,or_false] at hc
  rcases hc with rfl|rfl<;>exact⟨by decide,by decide⟩
 have h00:∀ c∈([]:List Cu),Ok64 c:=fun c hc=>by cases hc
 rcases hw with rfl|rfl|rfl|rfl|rfl|rfl
 · exact⟨.inl ⟨rfl,rfl⟩,show 2≤10000 by decide,Nat.zero_le _,h00,v1 _⟩
 · exact⟨.inl ⟨rfl,rfl⟩,show 2≤10000 by decide,Nat.zero_le _,h00,v2 _⟩
 · exact⟨.inl ⟨rfl,rfl⟩,show 1≤10000 by decide,Nat.zero_le _,h00,v3 _⟩
 · exact⟨.inr ⟨rfl,rfl⟩,Nat.zero_le _,show 1≤2000 by decide,h4,v4 _⟩
 · exact⟨.inr ⟨rfl,rfl⟩,Nat.zero_le _,show 2≤2000 by decide,h24,v5 _⟩
 · exact⟨.inr ⟨rfl,rfl⟩,Nat.zero_le _,Nat.zero_le _,h00,v6 _⟩
theorem Z6K {e:Env} {a b:Operand} {cc:List PV} {x y w:PV} (ha:ev e a=some (.agg cc)) (hb:ev e b=some (.agg [x,y,w])) (hl:cc.length=35) (z:List PV) (hz:z.length=38):buildL e z [(0,35,a),(35,3,b)]=some (cc ++ [x,y,w]):=by
 have h1:setAt z 0 cc=cc++z.drop 35:=by
  unfold setAt
  rw [List.take_zero,List.nil_append,hl]
 have hd:(z.drop 35).length=3:=by rw [List.length_drop,hz]
 have e1:(PV.agg cc).cells=cc:=rfl
 have e2:(PV.agg [x,y,w]).cells = [x,y,w]:=rfl
 have f1:(PV.agg cc).flat=true:=rfl
 have f2:(PV.agg [x,y,w]).flat=true:=rfl
 simp only [buildL,ha,hb,e1,e2,f1,f2,hl,hz,h1,Bool.true_and,beq_self_eq_true]
 rw [if_pos (by decide)]
 have h2:setAt (cc++z.drop 35) 35 [x,y,w]=cc ++ [x,y,w]:=by
  have:=Z3B cc (z.drop 35) [x,y,w] 35 0 hl
  rw [show 35+0=35 from rfl] at this
  rw [this]
  unfold setAt
  rw [List.take_zero,List.nil_append,List.drop_of_length_le (by show (z.drop 35).length≤0+3;omega),List.append_nil]
 rw [h2,if_pos (by rw [List.length_append,hl,hd]; rfl)]
theorem ZgX {e:Env} {a0 a1 a2 a3 a4 a5:Operand} {r0 r1 r2 r3 r4 r5:List PV} (h0:ev e a0=some (.agg r0)) (h1:ev e a1=some (.agg r1)) (h2:ev e a2=some (.agg r2)) (h3:ev e a3=some (.agg r3)) (h4:ev e a4=some (.agg r4)) (h5:ev e a5=some (.agg r5))
 (l0:r0.length=38) (l1:r1.length=38) (l2:r2.length=38) (l3:r3.length=38) (l4:r4.length=38) (l5:r5.length=38) (z:List PV):buildS e 38 (List.replicate 6 z) [(0,a0),(1,a1),(2,a2),(3,a3),(4,a4),(5,a5)]=some [r0,r1,r2,r3,r4,r5]:=by
 have f:∀ r,(PV.agg r).flat=true:=fun _=>rfl
 have c:∀ r,(PV.agg r).cells=r:=fun _=>rfl
 simp only [buildS,h0,h1,h2,h3,h4,h5,f,c,l0,l1,l2,l3,l4,l5,Bool.true_and,beq_self_eq_true]
 rfl
theorem Zhh {e:Env} {h:Heap} {n k:Nat} {z:List Value} {ps:List (Nat×Operand)} {l:List (List PV)} (hb:buildS e z.length (List.replicate k (zpv z)) ps=some l):dEval (.bslice z k ps) e h n=some (.vec l true,h):=by
 simp only [dEval,hb]
theorem ZgY {e:Env} {h:Heap} {n:Nat} {x y:Operand} {f:Fd} (hx:ev e x=some (fdP f)) (hy:ev e y=some (.agg (fdC f))):dEval (.bin .neq (.cells [0,0,0]) x y) e h n=some (.val (.bool false),h):=by
 unfold fdP at hx
 unfold fdC at hy
 simp [dEval,hx,hy,pbin,eqCells,eqCell]
theorem ZgZ {e:Env} {h:Heap} {n:Nat} {x y:Operand} {f:Fd} (hx:ev e x=some (fdP f)) (hy:ev e y=some (.agg (fdC f))):dEval (.bin .eql (.cells [0,0,0]) x y) e h n=some (.val (.bool true),h):=by
 unfold fdP at hx
 unfold fdC at hy
 simp [dEval,hx,hy,pbin,eqCells,eqCell]
theorem wants4:∀ c∈[((4,0):Cu)],Ok64 c:=fun c hc=>by
 rw [List.mem_singleton] at hc; subst hc; exact⟨by decide,by decide⟩
set_option maxRecDepth 100000 in
set_option maxHeartbeats 16000000 in
theorem Z8A:Spec Tryz.prog 6 [] (· = .val (.bool true)):=by
 have h0:words (digs 0) = []:=by rw [ZG]; rfl
 refine Z2 ok6 (Nat.le_of_ble_eq_true rfl) fun C hC=>?_
 have lowY:∀ (m:Nat) (w:List (List PV)),pureLL w→RenLs (fun i=>i) (fun i=>i<m) [.vec w false,PV.vec [] true] [.vec w false,.vec [] false]:=fun m w hw=>⟨.pure _ hw,.low (.vec [] true) trivial,trivial⟩
 refine gd 7 ⟨?_⟩
 refine Z6 (Z9M [1] 2 (by decide +kernel) true) rfl rfl rfl ⟨Zu _,trivial⟩ rfl ?_
 refine gd 10 ⟨?_⟩
 refine Z6 (Z9M [2] 4 (by decide +kernel) true) rfl rfl rfl ⟨Zu _,trivial⟩ rfl ?_
 iterate 6 (first|refine st ?_|(apply B<;>intro hb<;>try cases hb))
 refine Z1U (Z3l (EnvQ.mem (ρ:=fun i=>i) (m:=2) (L := [(1,.ptr 0 0 0),(2,.ptr 1 0 0)]) ⟨⟨_,rfl,.ptr (ρ:=fun i=>i) 0 0 0 (by decide)⟩,⟨_,rfl,.ptr (ρ:=fun i=>i) 1 0 0 (by decide)⟩,trivial⟩)
  (HeapQ.mem (ρ := fun i => i) (m := 2) (L := [(0, ⟨2, [cuC (2, 0)]⟩), (1, ⟨2, [cuC (4, 0)]⟩)]) ⟨⟨by decide, ⟨2, [[.vec (words (digs 2)) false, .vec [] true]]⟩, rfl, by
    show RenB _ _ _ ⟨2,[[.vec (words (digs 2)) false,.vec (words (digs 0)) false]]⟩
    rw [h0]
    exact RenB.single (lowY _ _ (Ze _)) rfl⟩,⟨by decide,⟨2,[[.vec (words (digs 4)) false,.vec [] true]]⟩,rfl,by
    show RenB _ _ _ ⟨2,[[.vec (words (digs 4)) false,.vec (words (digs 0)) false]]⟩
    rw [h0]
    exact RenB.single (lowY _ _ (Ze _)) rfl⟩,trivial⟩) hC (by decide)) ?_
 iterate 2 (first|refine st ?_|(apply B<;>intro hb<;>try cases hb))
 refine gd 12 ⟨?_⟩
 refine Z4t rfl rfl (.inl rfl) Z4R trivial ?_
 rintro r ⟨S,rfl⟩
 have hpp:=Zx t1J S
 iterate 10 (first|refine st ?_|(apply B<;>intro hb<;>try cases hb))
 have lr:RenP (fun i=>i) (fun i=>i<11) (.vec [[.val (.bool false),.vec [] true,.vec [] true,.val (.int .i64 1),.val (.int .i64 0)],[.val (.bool false),.vec (words (digs 2)) false,.vec (words (digs 0)) false,.val (.int .i64 2),.val (.int .i64 0)]] true) (.vec [[.val (.bool false),.vec [] false,.vec [] false,.val (.int .i64 1),.val (.int .i64 0)],[.val (.bool false),.vec (words (digs 2)) false,.vec [] false,.val (.int .i64 2),.val (.int .i64 0)]] false):=by
  have:=RenP.low (ρ:=fun i=>i) (D:=fun i=>i<11) (.vec [[.val (.bool false),.vec [] true,.vec [] true,.val (.int .i64 1),.val (.int .i64 0)],[.val (.bool false),.vec (words (digs 2)) false,.vec (words (digs 0)) false,.val (.int .i64 2),.val (.int .i64 0)]] true) (by
   show pureLL [_,[_,.vec (lowLL (words (digs 2))) false,.vec (lowLL (words (digs 0))) false,_,_]]
   rw [ZA,ZA]
   exact⟨⟨trivial,trivial,trivial,trivial,trivial,trivial⟩,⟨trivial,Ze _,Ze _,trivial,trivial,trivial⟩,trivial⟩)
  have e:(PV.vec [[.val (.bool false),.vec [] true,.vec [] true,.val (.int .i64 1),.val (.int .i64 0)],[.val (.bool false),.vec (words (digs 2)) false,.vec (words (digs 0)) false,.val (.int .i64 2),.val (.int .i64 0)]] true).low=.vec [[.val (.bool false),.vec [] false,.vec [] false,.val (.int .i64 1),.val (.int .i64 0)],[.val (.bool false),.vec (lowLL (words (digs 2))) false,.vec (lowLL (words (digs 0))) false,.val (.int .i64 2),.val (.int .i64 0)]] false:=rfl
  rw [e,ZA,ZA,h0] at this
  rw [h0]
  exact this
 have lg:RenP (fun i=>i) (fun i=>i<11) (.vec [[.vec (words (digs 4)) false,.vec (words (digs 0)) false]] true) (.vec [[.vec (words (digs 4)) false,.vec [] false]] false):=by
  have:=RenP.low (ρ:=fun i=>i) (D:=fun i=>i<11) (.vec [[.vec (words (digs 4)) false,.vec (words (digs 0)) false]] true) (by
   show pureLL [[.vec (lowLL (words (digs 4))) false,.vec (lowLL (words (digs 0))) false]]
   rw [ZA,ZA]
   exact⟨⟨Ze _,Ze _,trivial⟩,trivial⟩)
  have e:(PV.vec [[.vec (words (digs 4)) false,.vec (words (digs 0)) false]] true).low=.vec [[.vec (lowLL (words (digs 4))) false,.vec (lowLL (words (digs 0))) false]] false:=rfl
  rw [e,ZA,ZA,h0] at this
  rw [h0]
  exact this
 have hpb:pbP t1J S = [.val (.int .i64 2),hierP [] S,.vec [] false,.vec [[.val (.bool false),.vec [] false,.vec [] false,.val (.int .i64 1),.val (.int .i64 0)],[.val (.bool false),.vec (words (digs 2)) false,.vec [] false,.val (.int .i64 2),.val (.int .i64 0)]] false,.vec [] false,.vec [[.vec (words (digs 4)) false,.vec [] false]] false]:=by
  show [PV.val (.int .i64 2),hierP [] S,.vec (words (digs 0)) false,.vec [[.val (.bool false),.vec (words (digs 0)) false,.vec (words (digs 0)) false,.val (.int .i64 1),.val (.int .i64 0)],[.val (.bool false),.vec (words (digs 2)) false,.vec (words (digs 0)) false,.val (.int .i64 2),.val (.int .i64 0)]] false,.vec [] false,.vec [[.vec (words (digs 4)) false,.vec (words (digs 0)) false]] false]=_
  rw [h0]
 refine Z1U (Z3l (EnvQ.mem (ρ:=fun i=>i) (m:=11) (L := [(1,.ptr 0 0 0),(2,.ptr 1 0 0),(3,.ptr 10 0 0)]) ⟨⟨_,rfl,.ptr (ρ:=fun i=>i) 0 0 0 (by decide)⟩,⟨_,rfl,.ptr (ρ:=fun i=>i) 1 0 0 (by decide)⟩,⟨_,rfl,.ptr (ρ:=fun i=>i) 10 0 0 (by decide)⟩,trivial⟩)
  (HeapQ.mem (ρ := fun i => i) (m := 11) (L := [(0, ⟨2, [cuC (2, 0)]⟩), (1, ⟨2, [cuC (4, 0)]⟩), (10, ⟨6, [pbP t1J S]⟩)]) ⟨⟨by decide, _, rfl, .same _ ⟨Zk _, trivial⟩⟩, ⟨by decide, _, rfl, .same _ ⟨Zk _, trivial⟩⟩, ⟨by decide, ⟨6, [[.val (.int .i64 2), hierP [] S, .vec [] true, .vec [[.val (.bool false), .vec [] true, .vec [] true, .val (.int .i64 1), .val (.int .i64 0)], [.val (.bool false), .vec (words (digs 2)) false, .vec (words (digs 0)) false, .val (.int .i64 2), .val (.int .i64 0)]] true, .vec [] true, .vec [[.vec (words (digs 4)) false, .vec (words (digs 0)) false]] true]]⟩, rfl, by
    rw [hpb]
    exact RenB.single ⟨.pure _ trivial,.pure _ (Zq _ _),.low (.vec [] true) trivial,lr,.low (.vec [] true) trivial,lg,trivial⟩ rfl⟩,trivial⟩) hC (by decide)) ?_
 have hr:=fun p hp=>Z8y ZdN Zgd S p true hp
 have hc:=fun l hl=>Z4V ZdN Zgd S l true hl
 refine gd 22 ⟨?_⟩
 refine Zr (hr [0,1] (by decide)) rfl rfl rfl ⟨hpp,Z1l _,trivial⟩ ?_
 (first|refine st ?_|(apply B<;>intro hb<;>try cases hb))
 refine Zd (Z8x (Z6K rfl rfl (Z2r (true,[0,1],[],false,true,(1,0,0))) _ (by kernel_rfl))) rfl rfl ?_
 refine gd 27 ⟨?_⟩
 refine Zr (hr [1,0] (by decide)) rfl rfl rfl ⟨hpp,Z1l _,trivial⟩ ?_
 (first|refine st ?_|(apply B<;>intro hb<;>try cases hb))
 refine Zd (Z8x (Z6K rfl rfl (Z2r (true,[1,0],[],false,true,(4,0,1))) _ (by kernel_rfl))) rfl rfl ?_
 refine gd 32 ⟨?_⟩
 refine Zr (hr [0] (by decide)) rfl rfl rfl ⟨hpp,Z1l _,trivial⟩ ?_
 (first|refine st ?_|(apply B<;>intro hb<;>try cases hb))
 refine Zd (Z8x (Z6K rfl rfl (Z2r (true,[0],[],false,true,(5,0,0))) _ (by kernel_rfl))) rfl rfl ?_
 refine gd 38 ⟨?_⟩
 refine Zr (hc [(4,0)] (by decide)) rfl rfl rfl ⟨hpp,Z9 Zk _,trivial⟩ ?_
 (first|refine st ?_|(apply B<;>intro hb<;>try cases hb))
 refine Zd (Z8x (Z6K rfl rfl (Z2r (false,[],[(4,0)],true,false,(8,0,1))) _ (by kernel_rfl))) rfl rfl ?_
 refine gd 45 ⟨?_⟩
 refine Zr (hc [(2,0),(4,0)] (by decide)) rfl rfl rfl ⟨hpp,Z9 Zk _,trivial⟩ ?_
 (first|refine st ?_|(apply B<;>intro hb<;>try cases hb))
 refine Zd (Z8x (Z6K rfl rfl (Z2r (false,[],[(2,0),(4,0)],true,false,(8,0,0))) _ (by kernel_rfl))) rfl rfl ?_
 refine gd 49 ⟨?_⟩
 refine Zr (hc [] (by decide)) rfl rfl rfl ⟨hpp,trivial,trivial⟩ ?_
 (first|refine st ?_|(apply B<;>intro hb<;>try cases hb))
 refine Zd (Z8x (Z6K rfl rfl (Z2r (false,[],[],true,false,(7,0,0))) _ (by kernel_rfl))) rfl rfl ?_
 refine Zd (Zhh (ZgX rfl rfl rfl rfl rfl rfl (Z2s (true,[0,1],[],false,true,(1,0,0))) (Z2s (true,[1,0],[],false,true,(4,0,1))) (Z2s (true,[0],[],false,true,(5,0,0))) (Z2s (false,[],[(4,0)],true,false,(8,0,1))) (Z2s (false,[],[(2,0),(4,0)],true,false,(8,0,0))) (Z2s (false,[],[],true,false,(7,0,0))) _)) rfl rfl ?_
 have hwp:pureLL (wants.map rowW):=Z9 Z8z _
 have hwi:∀ D,innLL D (wants.map rowW):=fun D=>Za (fun _ h=>h.elim) _ hwp
 have hp1:∀ D,innL D (pbP t1J S):=fun D=>Zm (fun _ h=>h.elim) _ hpp
 have hcu:∀ (D:Nat→Prop) (c:Cu),innLL D [cuC c]:=fun D c=>Za (fun _ h=>h.elim) _ (show pureLL [cuC c] from ⟨Zk c,trivial⟩)
 refine go ?_
 refine Zl hC (fun i=>i≤6) (fun i=>6-i) 11 (fun i => [(1,.ptr 0 0 0),(2,.ptr 1 0 0),(3,.ptr 10 0 0),(52,.vec (wants.map rowW) true),(53,.val (.int .i64 6)),(54,.val (.int .i64 (i:Int)))]) (fun _ => [(0,⟨2,[cuC (2,0)]⟩),(1,⟨2,[cuC (4,0)]⟩),(10,⟨6,[pbP t1J S]⟩)]) (by decide) 0 (Nat.zero_le _)
  ⟨⟨rfl,show 0<11 by decide⟩,⟨rfl,show 1<11 by decide⟩,⟨rfl,show 10<11 by decide⟩,⟨rfl,hwi _⟩,⟨rfl,trivial⟩,⟨rfl,trivial⟩,trivial⟩ ⟨⟨by decide,rfl,hcu _ _⟩,⟨by decide,rfl,hcu _ _⟩,⟨by decide,rfl,hp1 _,trivial⟩,trivial⟩ ?_
 intro i hi
 have hinc:IntKind.i64.wrap ((i:Int)+1)=((i+1:Nat):Int):=wi (i+1) (by omega)
 refine gd 55 ⟨?_⟩
 by_cases hil:i<6
 · refine Z0 (Z4 (v := true) rfl (decide_eq_true (by omega))) rfl rfl ?_
   obtain⟨w1,w2,w3,w4,w5⟩:=Zf6 wants[i] (List.getElem_mem hil)
   refine gd 56 ⟨?_⟩
   refine Z0 (Zo (xs:=wants) (g:=rowW) rfl rfl i rfl hil (Z2s _)) rfl rfl ?_
   generalize wants[i]=w at w1 w2 w3 w4 w5
   have hrl:=Z2s w
   have hrp:=Z8z w
   refine Z0 (ZdM (r:=rowW w) rfl (by rw [hrl]; decide) (List.take_of_length_le (by rw [hrl]; exact Nat.le_refl _))) rfl rfl ?_
   (first|refine st ?_|(apply B<;>intro hb<;>try cases hb))
   refine Z0 (Z7C (l:=zCert ++ [.val (.int .u8 0),.val (.int .i64 0),.val (.int .i64 0)]) rfl rfl (by kernel_rfl) hrl (by kernel_rfl)) rfl rfl ?_
   have hcl:=Z2r w
   have hck:=Z5W ZdN Zgd S w.1 w.2.1 w.2.2.2.1 w.2.2.1 w.2.2.2.2.1 w1 w2 w3 w4
   rw [w5] at hck
   have hcp:=Z1O (idOf t1J) w.1 w.2.1 w.2.2.2.1 w.2.2.1 w.2.2.2.2.1
   have hrow:rowW w=certL (idOf t1J) w.1 w.2.1 w.2.2.2.1 w.2.2.1 w.2.2.2.2.1++fdC w.2.2.2.2.2:=rfl
   generalize certL (idOf t1J) w.1 w.2.1 w.2.2.2.1 w.2.2.1 w.2.2.2.2.1=cc at hcl hck hcp hrow
   rw [hrow]
   refine gd 60 ⟨?_⟩
   refine Zd (Z50 (l:=(cc++fdC w.2.2.2.2.2) ++ []) (r:=cc) rfl rfl (by rw [List.append_nil,List.length_append,hcl]; exact Nat.le_add_right 35 3) (by rw [List.append_nil,List.drop_zero,List.take_append,hcl,Nat.sub_self,List.take_zero,List.append_nil,List.take_of_length_le (by rw [hcl]; exact Nat.le_refl _)])) rfl rfl ?_
   refine Zr hck rfl rfl rfl ⟨hpp,hcp,trivial⟩ ?_
   refine gd 63 ⟨?_⟩
   refine Zd (Z50 (l:=(cc++fdC w.2.2.2.2.2) ++ []) (r:=fdC w.2.2.2.2.2) rfl rfl (by rw [List.append_nil,List.length_append,hcl]; exact Nat.le_refl 38) (by rw [List.append_nil,List.drop_append,hcl,Nat.sub_self,List.drop_of_length_le (by rw [hcl]; exact Nat.le_refl _)]; rfl)) rfl rfl ?_
   refine Zd (ZgY (f:=w.2.2.2.2.2) rfl rfl) rfl rfl ?_
   refine go ?_
   exact⟨i+1,by omega,by omega,⟨⟨rfl,show 0<11 by decide⟩,⟨rfl,show 1<11 by decide⟩,⟨rfl,show 10<11 by decide⟩,⟨rfl,hwi _⟩,⟨rfl,trivial⟩,⟨by show some _=some _; rw [hinc],trivial⟩,trivial⟩,⟨⟨by decide,rfl,hcu _ _⟩,⟨by decide,rfl,hcu _ _⟩,⟨by decide,rfl,hp1 _,trivial⟩,trivial⟩⟩
 · obtain rfl : i = 6 := by omega
   refine Z0 (Z4 (v:=false) rfl (decide_eq_false (by omega))) rfl rfl ?_
   have hpp2:=Zx t2J S
   have lv:RenP (fun i=>i) (fun i=>i<11) (.vec [[.vec (words (digs 6)) false,.vec [] true]] true) (.vec [[.vec (words (digs 6)) false,.vec [] false]] false):=by
    have:=RenP.low (ρ:=fun i=>i) (D:=fun i=>i<11) (.vec [[.vec (words (digs 6)) false,.vec [] true]] true) (by
     show pureLL [[.vec (lowLL (words (digs 6))) false,.vec [] false]]
     rw [ZA]
     exact⟨⟨Ze _,trivial,trivial⟩,trivial⟩)
    have e:(PV.vec [[.vec (words (digs 6)) false,.vec [] true]] true).low=.vec [[.vec (lowLL (words (digs 6))) false,.vec [] false]] false:=rfl
    rw [e,ZA] at this
    exact this
   have hpb2:pbP t2J S = [.val (.int .i64 2),hierP [] S,.vec [] false,.vec [[.val (.bool false),.vec [] false,.vec [] false,.val (.int .i64 1),.val (.int .i64 0)],[.val (.bool false),.vec (words (digs 2)) false,.vec [] false,.val (.int .i64 2),.val (.int .i64 0)]] false,.vec [[.vec (words (digs 6)) false,.vec [] false]] false,.vec [[.vec (words (digs 4)) false,.vec [] false]] false]:=by
    show [PV.val (.int .i64 2),hierP [] S,.vec (words (digs 0)) false,.vec [[.val (.bool false),.vec (words (digs 0)) false,.vec (words (digs 0)) false,.val (.int .i64 1),.val (.int .i64 0)],[.val (.bool false),.vec (words (digs 2)) false,.vec (words (digs 0)) false,.val (.int .i64 2),.val (.int .i64 0)]] false,.vec [[.vec (words (digs 6)) false,.vec (words (digs 0)) false]] false,.vec [[.vec (words (digs 4)) false,.vec (words (digs 0)) false]] false]=_
    rw [h0]
   rw [hpb]
   refine gd 67 ⟨?_⟩
   refine Z6 (Z9M [1,2] 6 (by decide +kernel) true) rfl rfl rfl ⟨Zu _,trivial⟩ rfl ?_
   iterate 5 (first|refine st ?_|(apply B<;>intro hb<;>try cases hb))
   refine Z1U (Z3l (EnvQ.mem (ρ:=fun i=>i) (m:=11) (L := [(2,.ptr 1 0 0),(3,.ptr 10 0 0)]) ⟨⟨_,rfl,.ptr (ρ:=fun i=>i) 1 0 0 (by decide)⟩,⟨_,rfl,.ptr (ρ:=fun i=>i) 10 0 0 (by decide)⟩,trivial⟩)
    (HeapQ.mem (ρ := fun i => i) (m := 11) (L := [(1, ⟨2, [cuC (4, 0)]⟩), (10, ⟨6, [pbP t2J S]⟩)]) ⟨⟨by decide, _, rfl, .same _ ⟨Zk _, trivial⟩⟩, ⟨by decide, ⟨6, [[.val (.int .i64 2), hierP [] S, .vec [] false, .vec [[.val (.bool false), .vec [] false, .vec [] false, .val (.int .i64 1), .val (.int .i64 0)], [.val (.bool false), .vec (words (digs 2)) false, .vec [] false, .val (.int .i64 2), .val (.int .i64 0)]] false, .vec [[.vec (words (digs 6)) false, .vec [] true]] true, .vec [[.vec (words (digs 4)) false, .vec [] false]] false]]⟩, rfl, by
      rw [hpb2]
      exact RenB.single ⟨.pure _ trivial,.pure _ (Zq _ _),.pure _ trivial,.pure _ ⟨⟨trivial,trivial,trivial,trivial,trivial,trivial⟩,⟨trivial,Ze _,trivial,trivial,trivial,trivial⟩,trivial⟩,lv,.pure _ ⟨⟨Ze _,trivial,trivial⟩,trivial⟩,trivial⟩ rfl⟩,trivial⟩) hC (by decide)) ?_
   have hok:=wants4
   refine gd 75 ⟨?_⟩
   refine Zr (Z4V Zfn ZgW S [(4,0)] true (by decide)) rfl rfl rfl ⟨hpp2,Z9 Zk _,trivial⟩ ?_
   refine Zr (Z5W Zfn ZgW S false [] true [(4,0)] false (.inr ⟨rfl,rfl⟩) (Nat.zero_le _) (by decide) hok) rfl rfl rfl ⟨hpp2,Z1O _ _ _ _ _ _,trivial⟩ ?_
   rw [v7]
   refine gd 78 ⟨?_⟩
   refine Zd (ZgZ (f:=(1,0,0)) rfl rfl) rfl rfl ?_
   refine go ?_
   exact Z5 rfl trivial rfl
set_option maxRecDepth 100000 in
set_option maxHeartbeats 8000000 in
theorem Z8B {t:PB} (h:PbOk t) (S:List Nat) (s:Nat) (hs:s<18446744073709551616) (k:Int):Spec Tryz.prog 12 [.agg (pbP t S),setN s,.val (.int .i64 k)] (· = resO (jstep t s k)):=by
 have hpp:=Zx t S
 have hrl:(t.rs.map ruP).length=t.rs.length:=by simp
 by_cases h0:k<0
 · have e1 : jstep t s k = none := by unfold jstep; rw [if_neg (by omega)]
   rw [e1]
   refine Z2 ok12 (Nat.le_of_ble_eq_true rfl) fun C hC=>?_
   refine gd 3 ⟨?_⟩
   refine Z3 rfl rfl rfl ?_
   refine Z3 rfl rfl rfl ?_
   refine gd 15 ⟨?_⟩
   refine Zi rfl ?_
   refine Z0 (Z4 (v:=true) rfl (decide_eq_true (by omega))) rfl rfl ?_
   refine go ?_
   exact ZV (r:=.tup [.agg [.vec [] true],.val (.bool false)]) rfl ⟨⟨trivial,trivial⟩,trivial,trivial⟩ Z23
 by_cases h1:(t.rs.length:Int)≤k
 · have e1 : jstep t s k = none := by unfold jstep; rw [if_pos (by omega), List.getElem?_eq_none (by omega)]
   rw [e1]
   refine Z2 ok12 (Nat.le_of_ble_eq_true rfl) fun C hC=>?_
   refine gd 3 ⟨?_⟩
   refine Z3 rfl rfl rfl ?_
   refine Z3 rfl rfl rfl ?_
   refine gd 15 ⟨?_⟩
   refine Zi rfl ?_
   refine Z0 (Z4 (v:=false) rfl (decide_eq_false (by omega))) rfl rfl ?_
   refine gd 22 ⟨?_⟩
   refine Zi rfl ?_
   refine Z0 (Z4 (v:=true) rfl (decide_eq_true (by rw [hrl];omega))) rfl rfl ?_
   refine go ?_
   exact ZV (r:=.tup [.agg [.vec [] true],.val (.bool false)]) rfl ⟨⟨trivial,trivial⟩,trivial,trivial⟩ Z23
 obtain⟨j,rfl⟩:∃ j:Nat,k=(j:Int):=⟨k.toNat,by omega⟩
 have hk:j<t.rs.length:=by omega
 have e1:jstep t s (j:Int)=if stepR t t.rs[j] s then some (nextR t.rs[j] s) else none:=by
  unfold jstep
  rw [if_pos (by omega),Int.toNat_natCast,List.getElem?_eq_getElem hk]
 have e2:resO (jstep t s (j:Int))=stepP t.rs[j] s (stepR t t.rs[j] s):=by
  rw [e1]
  unfold stepP
  cases stepR t t.rs[j] s<;>rfl
 rw [e2]
 exact ZbJ h S s hs j hk
theorem Z7G (v0 v2 v3 v4 v5:PV) (hv:pureL [v0,.val (.pointer none),v2,v3,v4,v5]) (s:Nat) (k:Int):Spec Tryz.prog 39 [.agg [v0,.val (.pointer none),v2,v3,v4,v5],setN s,.val (.int .i64 k)] (· = resO none):=by
 refine Z2 ok39 (Nat.le_of_ble_eq_true rfl) fun C hC=>?_
 refine gd 3 ⟨?_⟩
 refine Z3 rfl rfl rfl ?_
 refine Z3 rfl rfl rfl ?_
 refine go ?_
 exact ZV (r:=.tup [.agg [.vec [] true],.val (.bool false)]) rfl ⟨⟨trivial,trivial⟩,trivial,trivial⟩ Z23
theorem Z2X (v0 v2 v3 v4 v5:PV) (hv:pureL [v0,.val (.pointer none),v2,v3,v4,v5]) (s:Nat) (k:Int):Spec Tryz.prog 13 [.agg [v0,.val (.pointer none),v2,v3,v4,v5],setN s,.val (.int .i64 k)] (· = .val (.bool false)):=by
 refine Z2 ok13 (Nat.le_of_ble_eq_true rfl) fun C hC=>?_
 refine gd 3 ⟨?_⟩
 refine Z3 rfl rfl rfl ?_
 refine Z3 rfl rfl rfl ?_
 refine gd 13 ⟨?_⟩
 refine Z6 (Z7G v0 v2 v3 v4 v5 hv s k) rfl rfl rfl ⟨hv,Z1 _,trivial,trivial⟩ rfl ?_
 show opsK _ _ _ (updO _ _ (.tup [setN 0,.val (.bool false)])) _ _
 refine go ?_
 exact Z5 rfl trivial rfl
set_option maxRecDepth 100000 in
set_option maxHeartbeats 8000000 in
theorem Z63 (p:List Nat) (x:Nat) (k:Int) (fl:Bool) (hp:Bytes p) (hx:x<18446744073709551616) (hk : -128≤k∧k≤127):Spec Tryz.prog 4 [.vec (bys p) fl,.val (.int .u64 (x:Int)),.val (.int .i8 k)] (· = .val (.bool true)):=by
 refine Z2 ok4 (Nat.le_of_ble_eq_true rfl) fun C hC=>?_
 have hcv:IntKind.i64.wrap k=k:=IntWalk.i64_in _ ⟨by omega,by omega⟩
 refine gd 14 ⟨?_⟩
 refine Z6 Z8A rfl rfl rfl trivial rfl ?_
 refine gd 18 ⟨?_⟩
 refine ZY rfl rfl (ZbD p fl hp) ⟨Zc p,trivial⟩ rfl ?_
 rintro r ⟨t,S,hmk,rfl⟩
 have h:=hmk.ok
 have hn:=hmk.n
 have hpp:=Zx t S
 have hxm:x &&& mkN t.n<18446744073709551616:=Nat.lt_of_le_of_lt Nat.and_le_left hx
 have hml:=Z6x h.n.2
 have hst:=Z8B h S (x &&& mkN t.n) hxm k
 have hpo:=Z7B h S (x &&& mkN t.n) hxm k
 refine gd 27 ⟨?_⟩
 refine Z3m rfl rfl (by omega) (v:=((2*2 ^ t.n:Nat):Int)) (by
  have:t.n=2 ∨ t.n=3 ∨ t.n=4 ∨ t.n=5:=by omega
  rcases this with e|e|e|e<;>rw [e]<;>decide) rfl ?_
 refine Z8 (v:=((mkN t.n:Nat):Int)) rfl rfl rfl (by
  have h2:=Nat.two_pow_pos t.n
  rw [show ((2*2 ^ t.n:Nat):Int)-2=((mkN t.n:Nat):Int) by unfold mkN; omega]
  exact IntWalk.u64_in _ ⟨by omega,by omega⟩) ?_
 refine Z8 (v:=((x &&& mkN t.n:Nat):Int)) rfl rfl rfl (bits_and_u64_nat x (mkN t.n) hx hml) ?_
 refine Z6 (Z3v (x &&& mkN t.n) hxm) rfl rfl rfl ⟨trivial,trivial⟩ rfl ?_
 generalize x &&& mkN t.n=s at hxm hst hpo
 refine gd 35 ⟨?_⟩
 refine Z8 (v:=k) rfl rfl rfl hcv ?_
 refine Z6 hst rfl rfl rfl ⟨hpp,Z1 _,trivial,trivial⟩ rfl ?_
 cases hj:jstep t s k with
 | some o =>
   rw [hj] at hpo
   show opsK _ _ _ (updO _ _ (.tup [setN o,.val (.bool true)])) _ _
   refine gd 44 ⟨?_⟩
   refine Z8 (v:=k) rfl rfl rfl hcv ?_
   refine Z6 hpo rfl rfl rfl ⟨hpp,Z1 _,trivial,trivial⟩ rfl ?_
   refine gd 52 ⟨?_⟩
   refine Zi rfl ?_
   refine Z8 (v:=k) rfl rfl rfl hcv ?_
   refine Zi rfl ?_
   refine Z6 (Z2X (.val (.int .i64 (t.n:Int))) (.vec (words (digs t.st)) false) (.vec (t.rs.map ruP) false) (.vec (t.nv.map cuC) false) (.vec (t.gl.map cuC) false) ⟨trivial,trivial,Ze _,Z1q _,ZC _,ZC _,trivial⟩ s k) rfl rfl rfl ⟨⟨trivial,trivial,Ze _,Z1q _,ZC _,ZC _,trivial⟩,Z1 _,trivial,trivial⟩ rfl ?_
   refine go ?_
   exact Z5 rfl trivial rfl
 | none =>
   rw [hj] at hpo
   show opsK _ _ _ (updO _ _ (.tup [setN 0,.val (.bool false)])) _ _
   refine gd 44 ⟨?_⟩
   refine Z8 (v:=k) rfl rfl rfl hcv ?_
   refine Z6 hpo rfl rfl rfl ⟨hpp,Z1 _,trivial,trivial⟩ rfl ?_
   refine gd 52 ⟨?_⟩
   refine Zi rfl ?_
   refine Z8 (v:=k) rfl rfl rfl hcv ?_
   refine Zi rfl ?_
   refine Z6 (Z2X (.val (.int .i64 (t.n:Int))) (.vec (words (digs t.st)) false) (.vec (t.rs.map ruP) false) (.vec (t.nv.map cuC) false) (.vec (t.gl.map cuC) false) ⟨trivial,trivial,Ze _,Z1q _,ZC _,ZC _,trivial⟩ s k) rfl rfl rfl ⟨⟨trivial,trivial,Ze _,Z1q _,ZC _,ZC _,trivial⟩,Z1 _,trivial,trivial⟩ rfl ?_
   refine go ?_
   exact Z5 rfl trivial rfl
end Go.Proofs.YtmnbbggaoembeaaGreatDoor
namespace Go.Proofs.YtmnbbggaoembeaaGreatDoor
open Go.ChangeShapes Go.WideShapes Go.ChangeAt Go.RowKit
theorem ZaQ {α:Type} {enc:α→List PV} {Q:α→Prop}:∀ {ll:List (List PV)},(∀ l∈ll,∃ x,Q x∧l=enc x)→∃ xs:List α,(∀ x∈xs,Q x)∧ll=xs.map enc
 | [],_=>⟨[],fun _ h=>(by cases h),rfl⟩
 | l :: ll, h => by
   obtain⟨x,h1,rfl⟩:=h l (List.mem_cons_self ..)
   obtain⟨xs,h2,rfl⟩:=ZaQ fun l hl=>h l (List.mem_cons_of_mem _ hl)
   refine⟨x :: xs,fun y hy=>?_,rfl⟩
   rcases List.mem_cons.1 hy with rfl|hy
   · exact h1
   · exact h2 y hy
theorem Z7H {P:Program} {s t u:TypeId}:∀ {ps:List PV},ShapeVs P [s,t,u] ps→∃ a b c,ps = [a,b,c]∧ShapeV P s a∧ShapeV P t b∧ShapeV P u c
 | [a,b,c],⟨h1,h2,h3,_⟩=>⟨a,b,c,rfl,h1,h2,h3⟩
theorem Zh0 {m:Int} (h:(Lit.int .u8 m).wf=true):∃ a:Nat,a<256∧m=(a:Int):=by
 simp only [Lit.wf,Bool.and_eq_true,decide_eq_true_eq] at h
 obtain⟨h1,h2⟩:=h
 have h3:m≤255:=h2
 have h4:0≤m:=h1
 exact⟨m.toNat,by omega,by omega⟩
theorem Zge {m:Int} (h:(Lit.int .u64 m).wf=true):∃ a:Nat,a<18446744073709551616∧m=(a:Int):=by
 simp only [Lit.wf,Bool.and_eq_true,decide_eq_true_eq] at h
 obtain⟨h1,h2⟩:=h
 have h3:m≤18446744073709551615:=h2
 have h4:0≤m:=h1
 exact⟨m.toNat,by omega,by omega⟩
theorem Zf7 {n:Nat} {l:List PV} (h:Shape Tryz.prog n 5 l):∃ x:Nat,x≤255∧l = [PV.val (.int .u8 (x:Int))]:=by
 obtain⟨m1,w1,e1⟩:=Z8D h (k:=.u8) (by kernel_rfl)
 obtain⟨x,hx,rfl⟩:=Zh0 w1
 exact⟨x,by omega,e1⟩
theorem Za4 {p:PV} (h:ShapeV Tryz.prog 22 p):∃ (l:List Nat) (fl:Bool),Bytes l∧p=.vec (bys l) fl:=by
 obtain⟨n,ll,fl,_,h2,rfl⟩:=Z8E h (e:=5) (by kernel_rfl)
 obtain⟨xs,h3,rfl⟩:=ZaQ (enc:=fun (x:Nat) => [PV.val (.int .u8 (x:Int))]) (Q:=fun (x:Nat)=>x≤255) fun l hl=>Zf7 (h2 l hl)
 exact⟨xs,fl,h3,rfl⟩
theorem ZdO {p:PV} (h:ShapeV Tryz.prog 36 p):∃ s:Nat,s<18446744073709551616∧p=.val (.int .u64 (s:Int)):=by
 obtain⟨m,w,rfl⟩:=Z6L h (k:=.u64) (by kernel_rfl)
 obtain⟨x,hx,rfl⟩:=Zge w
 exact⟨x,hx,rfl⟩
theorem Zh1 {m:Int} (h:(Lit.int .i8 m).wf=true) : -128≤m∧m≤127:=by
 simp only [Lit.wf,Bool.and_eq_true,decide_eq_true_eq] at h
 obtain⟨h1,h2⟩:=h
 have h3:m≤127:=h2
 have h4 : -128≤m:=h1
 exact⟨h4,h3⟩
theorem ZdP {p:PV} (h:ShapeV Tryz.prog 56 p):∃ m:Int,(-128≤m∧m≤127)∧p=.val (.int .i8 m):=by
 obtain⟨m,w,rfl⟩:=Z6L h (k:=.i8) (by kernel_rfl)
 exact⟨m,Zh1 w,rfl⟩
theorem Z5Y:∀ ps,ShapeVs Tryz.prog Tryz.f4.params.toList ps→pureL ps→Spec Tryz.prog 4 ps (· = .val (.bool true)):=by
 intro ps hs hp
 rw [show Tryz.f4.params.toList = [22,36,56] by kernel_rfl] at hs
 obtain⟨a,b,c,rfl,k0,k1,k2⟩:=Z7H hs
 obtain⟨x0,f0,h0,rfl⟩:=Za4 k0
 obtain⟨x1,h1,rfl⟩:=ZdO k1
 obtain⟨x2,h2,rfl⟩:=ZdP k2
 exact Z63 x0 x1 x2 f0 h0 h1 h2
set_option maxRecDepth 100000 in
theorem Z4I (os:Os) (started:os.Started) (H:Type) (enc:TypeId×Value→H) :
 ReturnsInHanded {} Tryz.checked os 4 .any (fun w args=>(Rows.judgeStepsSpec.pre enc Tryz.prog Tryz.f4 [] false w args∧laidMetH Tryz.prog laidV w)∧sizedMet enc Tryz.prog Tryz.f4 (OpenSpec.ofChange Rows.judgeStepsSpec) false w args)
  (Rows.judgeStepsSpec.post enc Tryz.prog Tryz.f4 false true false false):=by
 refine returnsInHanded_of_change_and (C:=Tryz.checked) (X:=fun w _=>laidMetH Tryz.prog laidV w) (fun _ _ _ hh h=>h.of_heap hh) own started (by kernel_rfl) Tryz.func4
  (ChangeSpec.witness_shaped (enc:=enc) (C:=Tryz.checked) (os:=os) (X:=fun w _=>laidMetH Tryz.prog laidV w) false (World.doorLaid Tryz.prog 400 os) #[.slice none 0 0,.int .u64 0,.int .i8 0] 8 rfl (World.shaped_of_RefB (by kernel_rfl) (by kernel_rfl)) (by kernel_rfl) (by kernel_rfl) (by kernel_rfl) (Zeg os _)) ?_
 intro W base args ds gs before hval hW _ hwt hL _
 exact Z7W (P:=Tryz.prog) (G:=partsG Tryz.prog Tryz.f4.params.toList) (by kernel_rfl) (Zgm (by kernel_rfl)) laidOut (Zcz (by kernel_rfl)) (tb:=4) (by kernel_rfl) (by kernel_rfl) rfl (fun ds hd=>by
  match ds,hd with
  | [a,b,c],_=>exact⟨rfl,rfl,rfl⟩) Z5Y W (Zei hL) base args ds gs before hval hW hwt
theorem Z51:Rows.JudgeStepsSaid :=
 OpenClaim.holds_of_wide 4 Tryz.f4 rfl rfl rfl rfl rfl rfl rfl ⟨rfl,rfl,rfl,rfl,rfl⟩ rfl rfl rfl rfl rfl (by kernel_rfl) Tryz.func4 (by kernel_rfl)
  (of_decide_eq_true (by kernel_rfl)) (by unfold Func.isWrapper; first|(rw [if_pos (by decide +kernel)]; kernel_rfl)|(rw [if_neg (by decide +kernel)]; exact⟨rfl,rfl⟩))
  (fun os started H enc _=>Z4I os started H enc)
theorem judgeSteps_card:Rows.JudgeStepsCardSaid :=
 Claim7.holds_tied_plain_at .later [] [.data,.data,.data] true (true, "73c21f7196f0b4087c3a3f595dd59d7deb88aa91980cc43c0013793faae3e45c") false
  Z51 (fun _ h=>by cases h) (by kernel_rfl) (fun _ h=>by cases h) judgeSteps_row_tie rfl ⟨rfl,rfl⟩ (by kernel_rfl) rfl
  (fun f fn hf hfn => by
    obtain rfl : f = 4 := Option.some.inj ((show Tryz.prog.funcNamed "arbac/arbaclaw38.JudgeSteps" = some 4 by kernel_rfl).symm.trans hf) |>.symm
    obtain rfl:fn=Tryz.f4:=(Option.some.inj (Tryz.func4.symm.trans hfn)).symm
    exact⟨by kernel_rfl,fun j t ht=>by
     rw [show Tryz.f4.params = #[22,36,56] by kernel_rfl] at ht
     have hm:t∈[22,36,56]:=by simpa using Array.mem_of_getElem? ht
     have hall:([22,36,56].all fun u => !Tryz.prog.wantsStandIn u)=true:=by kernel_rfl
     exact (show Tryz.prog.wantsStandIn t=false by simpa using List.all_eq_true.1 hall t hm)⟩)
  (by kernel_rfl)
#print axioms judgeSteps_card
end Go.Proofs.YtmnbbggaoembeaaGreatDoor
