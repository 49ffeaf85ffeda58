/-
 Proved: for every input the law BackwardForward returns true,never panics,and leaves its arguments as0 they were,on the given card's conditions (the table of the bits package reads as0 the program's text lays it,and is tied to it).
-/
import Derived.KernelRfl
import Derived.SevenTiedAt
import Derived.Shelf.Strconv.Itoa3
import Derived.Shelf.Strings.OnBuilder
import Derived.Test.YtcgaocnjebhimaaGreatDoorCards
import Derived.Test.YtcgaocnjebhimaaGreatDoorChecked
import Derived.Test.YtcgaocnjebhimaaGreatDoorTie
import Derived.Test.YtcgaocnjebhimaaGreatDoorMq6
set_option linter.unusedSimpArgs false
set_option linter.unusedVariables false
set_option linter.unusedSectionVars false
namespace Go.Proofs.YtcgaocnjebhimaaGreatDoor
open Go.RowKit
attribute [local irreducible] aw opsK dK
def feC (e:FE):List PV := [.vec (words (digs e.s)) false,.val (.int .i64 e.fr),.val (.int .i64 e.k)]
def feRows (L:List FE):List (List PV):=L.map feC
theorem ZfC (e:FE):pureL (feC e):=⟨Z8 _,trivial,trivial,trivial⟩
theorem Z43 (L:List FE):pureLL (feRows L):=Ze (enc:=feC) ZfC L
theorem Z2I (L:List FE):(feRows L).length=L.length:=by simp [feRows]
theorem Z2J {L:List FE} {i:Nat} {e:FE} (h:L[i]?=some e):(feRows L).getD i []=feC e:=by
 unfold feRows
 rw [List.getD_eq_getElem?_getD,List.getElem?_map,h]; rfl
def seenR (e:FE):List PV := [.val (.string (keyB e.s)),.val (.bool true)]
def seenRows (L:List FE):List (List PV):=L.map seenR
theorem Z31 (L:List FE):pureLL (seenRows L):=Ze (enc:=seenR) (fun _=>⟨trivial,trivial,trivial⟩) L
theorem beqK (s x:ByteArray):(s == x)=(s.data == x.data):=by cases s; cases x; rfl
theorem keyKS (s:ByteArray):pkeq (.one 2) (.val (.string s)) (.val (.string s))=some true:=by
 show some (s == s)=some true
 rw [beqK,beq_self_eq_true]
theorem Zah {N:Nat} (hN:N<256):∀ {L:List FE},(∀ e∈L,e.s<256)→N ∉ L.map FE.s→mfind (.one 2) (.val (.string (keyB N))) (seenRows L)=some none
 | [],_,_=>rfl
 | e :: r, hL, h => by
   rw [List.map_cons,List.mem_cons,not_or] at h
   have h1:pkeq (.one 2) (.val (.string (keyB N))) ((seenR e).getD 0 pvu)=some false:=by
    show some (keyB N == keyB e.s)=some false
    rw [beqK,beq_eq_false_iff_ne.2 (fun he=>h.1 (Zbk hN (hL e (List.mem_cons_self ..)) (ByteArray.ext he)))]
   show mfind (.one 2) (.val (.string (keyB N))) (seenR e :: seenRows r)=some none
   simp only [mfind,h1,Zah hN (fun e' he'=>hL e' (List.mem_cons_of_mem _ he')) h.2]
theorem Zbl {N:Nat} (hN:N<256):∀ {L:List FE},(∀ e∈L,e.s<256)→N∈L.map FE.s→∃ j,mfind (.one 2) (.val (.string (keyB N))) (seenRows L)=some (some j)∧((seenRows L).getD j []).getD 1 pvu=.val (.bool true)
 | [],_,h=>by simp at h
 | e :: r, hL, h => by
   by_cases he:N=e.s
   · refine ⟨0, ?_, rfl⟩
     have h1:pkeq (.one 2) (.val (.string (keyB N))) ((seenR e).getD 0 pvu)=some true:=by rw [he]; exact keyKS _
     show mfind (.one 2) (.val (.string (keyB N))) (seenR e :: seenRows r)=some (some 0)
     simp only [mfind,h1]
   · rw [List.map_cons, List.mem_cons] at h
     obtain⟨j,h2,h3⟩:=Zbl hN (fun e' he'=>hL e' (List.mem_cons_of_mem _ he')) (h.resolve_left he)
     have h1:pkeq (.one 2) (.val (.string (keyB N))) ((seenR e).getD 0 pvu)=some false:=by
      show some (keyB N == keyB e.s)=some false
      rw [beqK,beq_eq_false_iff_ne.2 (fun hh=>he (Zbk hN (hL e (List.mem_cons_self ..)) (ByteArray.ext hh)))]
     refine⟨j+1,?_,?_⟩
     · show mfind (.one 2) (.val (.string (keyB N))) (seenR e :: seenRows r) = some (some (j + 1))
       simp only [mfind,h1,h2]
     · show ((seenR e :: seenRows r).getD (j + 1) []).getD 1 pvu = _
       rw [List.getD_cons_succ]; exact h3
theorem Zhd {n:Nat} {e:Env} {h:Heap} {agg:Bool} {z:List Value} {x y:Operand} {i:Nat} {b:Bx} {c:KC} {kp:PV} (hx:ev e x=some (.mp i)) (hy:ev e y=some kp) (hb:h i=some b) (hz:b.esz=0) (hk:pkeq c kp kp=some true) (hf:mfind c kp b.elems=some none) :
 dEval (.lookup c agg z false x y) e h n=some (zval agg z,h):=by
 simp [dEval,hx,hy,hb,hz,hk,hf]
theorem ZgH {n:Nat} {e:Env} {h:Heap} {agg:Bool} {z:List Value} {x y:Operand} {i j:Nat} {b:Bx} {c:KC} {kp:PV} (hx:ev e x=some (.mp i)) (hy:ev e y=some kp) (hb:h i=some b) (hz:b.esz=0) (hk:pkeq c kp kp=some true) (hf:mfind c kp b.elems=some (some j)) :
 dEval (.lookup c agg z false x y) e h n=some ((b.elems.getD j []).getD 1 pvu,h):=by
 simp [dEval,hx,hy,hb,hz,hk,hf]
theorem Zbm {n:Nat} {e:Env} {h:Heap} {x y v:Operand} {i:Nat} {rows:List (List PV)} {c:KC} {kp p:PV} (hx:ev e x=some (.mp i)) (hy:ev e y=some kp) (hv:ev e v=some p) (hb:h i=some ⟨0,rows⟩) (hk:pkeq c kp kp=some true) (hf:mfind c kp rows=some none) :
 dEval (.mapset c x y v) e h n=some (pvu,h.upd i ⟨0,rows ++ [[kp,p]]⟩):=by
 simp [dEval,hx,hy,hv,hb,hk,hf]
noncomputable def schC (t:PB) (S:List Nat) (lim:Int) (li mi ei:Nat):Bx:=⟨10,[[.val (.int .i64 (t.n:Int)),hierP t.l S,.vec (words (digs t.st)) false,.vec (t.rs.map ruP) false,.vec (t.nv.map cuC) false,.vec (t.gl.map cuC) false,.val (.int .i64 lim),.own li,.mp mi,.own ei]]⟩
noncomputable def schHL (t:PB) (S:List Nat) (lim:Int) (L:List FE) (E:List Nat) (li mi ei:Nat):List (Nat×Bx) := [(3,schC t S lim li mi ei),(li,⟨3,feRows L⟩),(mi,⟨0,seenRows L⟩),(ei,⟨1,rowsK1 .i64 E⟩)]
structure EndsOk (E:List Nat) (lo len:Nat):Prop where
 pos:1≤E.length
 last:E.getD (E.length-1) 0=len
 lo:lo=if 1<E.length then E.getD (E.length-2) 0 else 0
theorem EndsOk.base:EndsOk [1] 0 1:=⟨by decide,rfl,rfl⟩
theorem EndsOk.snoc {E:List Nat} {lo len:Nat} (h:EndsOk E lo len) (len':Nat):EndsOk (E ++ [len']) len len':=by
 have hl:(E ++ [len']).length=E.length+1:=by simp
 have hp:=h.pos
 refine⟨by omega,?_,?_⟩
 · rw [hl,Nat.add_sub_cancel,List.getD_eq_getElem?_getD,List.getElem?_append_right (Nat.le_refl _),Nat.sub_self]; rfl
 · rw [hl, if_pos (by omega), show E.length + 1 - 2 = E.length - 1 by omega, List.getD_eq_getElem?_getD, List.getElem?_append_left (by omega), ← List.getD_eq_getElem?_getD]
   exact h.last.symm
theorem Z4G {h':Heap} {HL:List (Nat×Bx)} (hh:∀ q∈HL,h' q.1=some q.2):∀ k x,heapL HL k=some x→h' k=some x:=fun k x hk=>hh _ (Z1p hk)
def HasF (h:Heap):List (Nat×Bx)→Prop
 | []=>True
 | (k,b) :: r=>h k=some b∧HasF h r
theorem HasF.mem {h:Heap}:∀ {HL:List (Nat×Bx)},HasF h HL→∀ q∈HL,h q.1=some q.2
 | [],_,q,hq=>by cases hq
 | (k, b) :: r, hh, q, hq => by
   rcases List.mem_cons.1 hq with rfl|hq
   · exact hh.1
   · exact hh.2.mem q hq
theorem BG.small {t:PB} (h:PbOk t) (hn:t.n≤5) {d lo i k:Nat} {L0 L:List FE} (g:BG t d lo L0 i k L):∀ e∈L,e.s<256:=fun e he=>by
 have h1:e.s≤mkN t.n:=by rw [← (g.rch e he).inS h]; exact Nat.left_le_or
 have:2 ^ t.n≤2 ^ 5:=Nat.pow_le_pow_right (by decide) hn
 unfold mkN at h1
 omega
theorem ZfZ {t:PB} {S:List Nat} {lim:Int} {L:List FE} {E:List Nat} {li mi ei N:Nat} {B:Bx} {h:Heap} (h3:3<N) (hli:li<N) (hmi:mi<N) (hei:ei<N) (h00:0<N) (hB:pureLL B.elems) (e3:h 3=some (schC t S lim li mi ei)) (e1:h li=some ⟨3,feRows L⟩) (e4:h mi=some ⟨0,seenRows L⟩) (e2:h ei=some ⟨1,rowsK1 .i64 E⟩) (e0:h 0=some B):HeapR h N (schHL t S lim L E li mi ei ++ [(0,B)]) :=
 ⟨⟨h3, e3, ⟨⟨trivial, (Zu _ _).inn _, Zg (fun _ h => h.elim) _ (Z8 _), Zg (fun _ h => h.elim) _ (ZR _), Zg (fun _ h => h.elim) _ (ZO _), Zg (fun _ h => h.elim) _ (ZO _), trivial, hli, hmi, hei, trivial⟩, trivial⟩⟩,
   ⟨hli,e1,Zg (fun _ h=>h.elim) _ (Z43 _)⟩,⟨hmi,e4,Zg (fun _ h=>h.elim) _ (Z31 _)⟩,⟨hei,e2,Zg (fun _ h=>h.elim) _ (Z15 _ _)⟩,⟨h00,e0,Zg (fun _ h=>h.elim) _ hB⟩,trivial⟩
theorem Z3P {t:PB} {S:List Nat} {lim:Int} {L:List FE} {E:List Nat} {li mi ei li' mi' ei' N:Nat} {B:Bx} {ρ:Nat→Nat} {h:Heap} (h3:3<N) (hli:li<N) (hmi:mi<N) (hei:ei<N) (r3:ρ 3=3) (r1:ρ li=li') (r4:ρ mi=mi') (r2:ρ ei=ei') (h00:0<N) (hB:pureLL B.elems) (r0:ρ 0=0) (e3:h 3=some (schC t S lim li' mi' ei')) (e1:h li'=some ⟨3,feRows L⟩) (e4:h mi'=some ⟨0,seenRows L⟩) (e2:h ei'=some ⟨1,rowsK1 .i64 E⟩) (e0:h 0=some B):HeapQ ρ h N (schHL t S lim L E li mi ei ++ [(0,B)]):=by
 subst r1 r4 r2
 exact⟨⟨h3,_,by rw [r3]; exact e3,by unfold schC; exact RenB.single ⟨.pure _ trivial,.pure _ (Zu _ _),.pure _ (Z8 _),.pure _ (ZR _),.pure _ (ZO _),.pure _ (ZO _),.pure _ trivial,.own li hli,.mp mi hmi,.own ei hei,trivial⟩ rfl⟩,
  ⟨hli,_,e1,.same _ (Z43 _)⟩,⟨hmi,_,e4,.same _ (Z31 _)⟩,⟨hei,_,e2,.same _ (Z15 _ _)⟩,⟨h00,_,by rw [r0]; exact e0,.same _ hB⟩,trivial⟩
set_option maxHeartbeats 2000000 in
theorem Z8V {t:PB} (h:PbOk t) (hn:t.n≤5) (S:List Nat) (lim:Int) (hlim:1≤lim) {B:Bx} (hB:pureLL B.elems):ISpec Tryz.prog 24 1 [.agg (pbP t S),.val (.int .i64 lim)] (heapL [(0,B)]) fun n' r h'=>n'=5∧r=.tup [.ptr 3 0 0,.val (.int .i64 0)]∧h'=heapL (schHL t S lim [feS t] [1] 1 4 2 ++ [(0,B)]):=by
 refine ISpec.less (R:=fun n' r h'=>n'=5∧r=.tup [.ptr 3 0 0,.val (.int .i64 0)]∧∀ q∈schHL t S lim [feS t] [1] 1 4 2 ++ [(0,B)],h' q.1=some q.2) ?_ fun n' r h' ⟨h1,h2,h3⟩=>⟨_,Z4G h3,h1,h2,rfl⟩
 have hst:t.st<256:=by
  have h1:t.st≤mkN t.n:=by rw [← h.st]; exact Nat.left_le_or
  have:2 ^ t.n≤2 ^ 5:=Nat.pow_le_pow_right (by decide) hn
  unfold mkN at h1
  omega
 refine Z1i ok24 (Nat.le_of_ble_eq_true rfl) fun C hC=>?_
 refine Zl ?_
 refine Za ?_
 refine Z5 rfl rfl rfl ?_
 refine gd 9 ⟨?_⟩
 refine Z3 (Z9 (v:=false) rfl (decide_eq_false (by omega))) rfl rfl ?_
 refine gd 11 ⟨?_⟩
 refine Z4 (Z5v h S) rfl rfl rfl ⟨ZV t S,trivial⟩ rfl ?_
 refine gd 20 ⟨?_⟩
 refine Z2O rfl rfl rfl ?_
 refine Z2O rfl rfl rfl ?_
 refine gd 28 ⟨?_⟩
 refine Z4 (Z41 t.st hst) rfl rfl rfl ⟨Z1 _,trivial⟩ rfl ?_
 refine Z3 (Ze4 rfl) rfl rfl ?_
 refine Z3 (Zbm (rows := []) (p:=.val (.bool true)) rfl rfl rfl rfl (keyKS _) rfl) rfl rfl ?_
 refine go ?_
 refine⟨_,_,rfl,.inl rfl,rfl,rfl,fun q hq=>?_⟩
 simp only [schHL,List.cons_append,List.nil_append,List.mem_cons,List.not_mem_nil,or_false] at hq
 rcases hq with rfl|rfl|rfl|rfl|rfl<;>rfl
def DeepB (t:PB) (S:List Nat) (lim:Int) (d lo:Nat) (L0:List FE) (E:List Nat) {B:Bx} (n':Nat) (r:PV) (h':Heap):Prop :=
 (n'=70∧r=.tup [.val (.bool false),.val (.int .i64 3)]∧(∃ L:List FE,lim<(L.length:Int)∧(∀ e∈L,Rch t e.s)∧(L.map FE.s).Nodup)∧h'=heapL [(0,B)])
 ∨ (n'=38∧r=.tup [.val (.bool false),.val (.int .i64 0)]∧BG t d lo L0 L0.length 0 L0∧h'=heapL (schHL t S lim L0 E 5 4 2 ++ [(0,B)]))
 ∨ (n'=53∧r=.tup [.val (.bool true),.val (.int .i64 0)]∧∃ L:List FE,L0.length<L.length∧(L.length:Int)≤lim∧BG t d lo L0 L0.length 0 L∧h'=heapL (schHL t S lim L (E ++ [L.length]) 5 4 49 ++ [(0,B)]))
def DeepFB (t:PB) (S:List Nat) (lim:Int) (d lo:Nat) (L0:List FE) (E:List Nat) {B:Bx} (n':Nat) (r:PV) (h':Heap):Prop :=
 (n'=70∧r=.tup [.val (.bool false),.val (.int .i64 3)]∧(∃ L:List FE,lim<(L.length:Int)∧(∀ e∈L,Rch t e.s)∧(L.map FE.s).Nodup)∧HasF h' [(0,B)])
 ∨ (n'=38∧r=.tup [.val (.bool false),.val (.int .i64 0)]∧BG t d lo L0 L0.length 0 L0∧HasF h' (schHL t S lim L0 E 5 4 2 ++ [(0,B)]))
 ∨ (n'=53∧r=.tup [.val (.bool true),.val (.int .i64 0)]∧∃ L:List FE,L0.length<L.length∧(L.length:Int)≤lim∧BG t d lo L0 L0.length 0 L∧HasF h' (schHL t S lim L (E ++ [L.length]) 5 4 49 ++ [(0,B)]))
theorem DeepFB.less {t:PB} {S:List Nat} {lim:Int} {d lo:Nat} {L0:List FE} {E:List Nat} {B:Bx} (n':Nat) (r:PV) (h':Heap) (hd:DeepFB t S lim d lo L0 E (B:=B) n' r h'):∃ h2:Heap,(∀ i b,h2 i=some b→h' i=some b)∧DeepB t S lim d lo L0 E (B:=B) n' r h2:=by
 rcases hd with⟨h1,h2,h3,h4⟩|⟨h1,h2,h3,h4⟩|⟨h1,h2,L,h3,h4,h5,h6⟩
 · exact⟨_,Z4G h4.mem,.inl ⟨h1,h2,h3,rfl⟩⟩
 · exact⟨_,Z4G h4.mem,.inr (.inl ⟨h1,h2,h3,rfl⟩)⟩
 · exact⟨_,Z4G h6.mem,.inr (.inr ⟨h1,h2,L,h3,h4,h5,rfl⟩)⟩
set_option maxRecDepth 100000 in
set_option maxHeartbeats 16000000 in
theorem Z82 {t:PB} (h:PbOk t) (hn:t.n≤5) (S:List Nat) (lim:Int) (hl0:1≤lim) {d lo:Nat} {L0:List FE} (hb:BF t d lo L0) (hll:(L0.length:Int)≤lim) {E:List Nat} (hE:EndsOk E lo L0.length) (hEl:E.length≤1000000) {B:Bx} (hB:pureLL B.elems) :
 ISpec Tryz.prog 27 5 [.ptr 3 0 0] (heapL (schHL t S lim L0 E 1 4 2 ++ [(0,B)])) (DeepB t S lim d lo L0 E (B:=B)):=by
 refine ISpec.less (R:=DeepFB t S lim d lo L0 E (B:=B)) ?_ DeepFB.less
 have hEp:=hE.pos
 have hrl:=h.rl
 have h32:2 ^ t.n≤32:=Nat.pow_le_pow_right (n:=2) (by decide) hn
 have hL0:=hb.len h
 have hel:(rowsK1 .i64 E).length=E.length:=Z1r _ _
 have hrul:(t.rs.map ruP).length=t.rs.length:=by simp
 refine Z1i ok27 (Nat.le_of_ble_eq_true rfl) fun C hC=>?_
 iterate 9 (first|refine st ?_|(apply B<;>intro hb<;>try cases hb))
 show aw _ _ _ _ _ _ _
 refine ZcZ hC True 5 [(0,.ptr 3 0 0),(4,.val (.int .i64 (lo:Int)))] (schHL t S lim L0 E 1 4 2 ++ [(0,B)]) (by decide) ?_ fun _=>?_
 · refine gd 14 ⟨?_⟩
   refine Zm (v:=(E.length:Int)) rfl rfl rfl (by rw [hel]) ?_
   refine gd 16 ⟨?_⟩
   have fin:∀ {v:Int},v=(lo:Int)→v=(lo:Int):=fun h=>h
   by_cases h1:1<E.length
   · have hlo : lo = E.getD (E.length - 2) 0 := by rw [hE.lo, if_pos h1]
     refine Z3 (Z9 (v:=true) rfl (decide_eq_true (by omega))) rfl rfl ?_
     refine gd 22 ⟨?_⟩
     refine Zm (v:=((E.length-2:Nat):Int)) rfl rfl rfl (by
      rw [show (E.length:Int)-2=((E.length-2:Nat):Int) by omega]
      exact IntWalk.i64_in _ ⟨by omega,by omega⟩) ?_
     refine Z3 (Zv rfl rfl rfl (E.length-2) rfl (by rw [hel];omega) rfl) rfl rfl ?_
     refine Z3 (Ze5 (kd:=.i64) (L:=E) rfl rfl (by omega)) rfl rfl ?_
     rw [← hlo]
     refine go ?_
     exact⟨trivial,⟨⟨rfl,(show 3<5 by decide)⟩,⟨rfl,trivial⟩,trivial⟩,ZfZ (by decide) (by decide) (by decide) (by decide) (by decide) hB rfl rfl rfl rfl rfl⟩
   · have hlo : lo = 0 := by rw [hE.lo, if_neg h1]
     subst hlo
     refine Z3 (Z9 (v:=false) rfl (decide_eq_false (by omega))) rfl rfl ?_
     refine go ?_
     exact⟨trivial,⟨⟨rfl,(show 3<5 by decide)⟩,⟨rfl,trivial⟩,trivial⟩,ZfZ (by decide) (by decide) (by decide) (by decide) (by decide) hB rfl rfl rfl rfl rfl⟩
 · refine go ?_
   refine ZE hC (fun x:Nat×List FE=>lo≤x.1∧x.1≤L0.length∧BG t d lo L0 x.1 0 x.2∧(x.2.length:Int)≤lim) (fun x=>L0.length-x.1) 6 (fun x => [(0,.ptr 3 0 0),(6,.val (.int .i64 (x.1:Int)))]) (fun x=>schHL t S lim x.2 E 5 4 2 ++ [(0,B)]) (by decide) (lo,L0) ⟨Nat.le_refl _,hb.le,.begin hb,hll⟩
    (mv 5 1) (Z3d (by decide)) (Zw rfl) ⟨⟨_,rfl,.ptr 3 0 0 (by decide)⟩,⟨_,rfl,.pure _ trivial⟩,trivial⟩ (Z3P (by decide) (by decide) (by decide) (by decide) rfl rfl rfl rfl (by decide) hB rfl rfl rfl rfl rfl rfl) ?_
   rintro⟨i,L⟩ ⟨hlo,hi,hg,hlm⟩
   have hlo:lo≤i:=hlo
   have hi:i≤L0.length:=hi
   have hg:BG t d lo L0 i 0 L:=hg
   have hlm:(L.length:Int)≤lim:=hlm
   have hinci:IntKind.i64.wrap ((i:Int)+1)=((i+1:Nat):Int):=IntWalk.i64_in _ ⟨by omega,by omega⟩
   have hpre:IntKind.i64.wrap ((E.length:Int)-1)=((E.length-1:Nat):Int):=by
    rw [show (E.length:Int)-1=((E.length-1:Nat):Int) by omega]
    exact IntWalk.i64_in _ ⟨by omega,by omega⟩
   have hLl:=hg.len h
   have hLr:(feRows L).length=L.length:=Z2I L
   refine gd 35 ⟨?_⟩
   refine Zi (Z2r (v:=(E.length:Int)) rfl (by rw [hel])) rfl rfl ?_
   refine Zi (Z2r (v:=((E.length-1:Nat):Int)) rfl hpre) rfl rfl ?_
   refine Zi (Zv rfl rfl rfl (E.length-1) rfl (by rw [hel];omega) rfl) rfl rfl ?_
   refine Zi (Ze5 (kd:=.i64) (L:=E) rfl rfl (by omega)) rfl rfl ?_
   rw [hE.last]
   by_cases hil:i<L0.length
   · refine Zi (Z9 (v := true) rfl (decide_eq_true (Int.ofNat_lt.2 hil))) rfl rfl ?_
     obtain⟨e0,he0⟩:∃ e0,L0[i]?=some e0:=⟨_,List.getElem?_eq_getElem hil⟩
     refine gd 47 ⟨?_⟩
     refine Zm (v:=(t.rs.length:Int)) rfl rfl rfl (by rw [hrul]) ?_
     refine go ?_
     refine ZE hC (fun x:Nat×List FE=>x.1≤t.rs.length∧BG t d lo L0 i x.1 x.2∧(x.2.length:Int)≤lim) (fun x=>t.rs.length-x.1) 6 (fun x => [(0,.ptr 3 0 0),(6,.val (.int .i64 (i:Int))),(47,.val (.int .i64 (t.rs.length:Int))),(48,.val (.int .i64 (x.1:Int)))]) (fun x=>schHL t S lim x.2 E 5 4 2 ++ [(0,B)]) (by decide) (0,L) ⟨Nat.zero_le _,hg,hlm⟩
      (fun j=>j) (fun _ _=>rfl) Zr ⟨⟨_,rfl,.ptr 3 0 0 (by decide)⟩,⟨_,rfl,.pure _ trivial⟩,⟨_,rfl,.pure _ trivial⟩,⟨_,rfl,.pure _ trivial⟩,trivial⟩ (Z3P (by decide) (by decide) (by decide) (by decide) rfl rfl rfl rfl (by decide) hB rfl rfl rfl rfl rfl rfl) ?_
     rintro⟨k,M⟩ ⟨hk,hgm,hmm⟩
     have hk:k≤t.rs.length:=hk
     have hgm:BG t d lo L0 i k M:=hgm
     have hmm:(M.length:Int)≤lim:=hmm
     have hinc:IntKind.i64.wrap ((k:Int)+1)=((k+1:Nat):Int):=IntWalk.i64_in _ ⟨by omega,by omega⟩
     have hMl:=hgm.len h
     have hMr:(feRows M).length=M.length:=Z2I M
     have heM:M[i]?=some e0:=Z2w hgm.pre he0
     have hiM:i<M.length:=(List.getElem?_eq_some_iff.1 heM).1
     have hsm:=hgm.small h hn
     have hi0:=hsm e0 (List.mem_of_getElem? heM)
     have hin0:=(hgm.rch e0 (List.mem_of_getElem? heM)).inS h
     refine gd 49 ⟨?_⟩
     by_cases hkl:k<t.rs.length
     · refine Z3 (Z9 (v := true) rfl (decide_eq_true (Int.ofNat_lt.2 hkl))) rfl rfl ?_
       have hxk:=List.getElem?_eq_getElem hkl
       have hst:=Z7e h S e0.s (by omega) k hkl
       generalize hx0:t.rs[k]=x at hst hxk
       have hxm:x∈t.rs:=List.mem_of_getElem? hxk
       have hnin:=Z3I h hxm hin0
       have hnx:nextR x e0.s<256:=by
        have h1:nextR x e0.s≤mkN t.n:=by rw [← hnin]; exact Nat.left_le_or
        unfold mkN at h1
        omega
       refine gd 61 ⟨?_⟩
       refine Zi (Zv rfl rfl rfl i rfl (by rw [hMr]; exact hiM) rfl) rfl rfl ?_
       refine gd 63 ⟨?_⟩
       refine Zi (Z1L (p:=setN e0.s) rfl rfl (by rw [hMr]; exact hiM) (by rw [Z2J heM]; rfl)) rfl rfl ?_
       refine gd 65 ⟨?_⟩
       cases hok:stepR t x e0.s with
       | false =>
         rw [hok] at hst
         refine Zy hst rfl rfl rfl ⟨ZV t S,Z1 _,trivial,trivial⟩ ?_
         refine go ?_
         exact⟨(k+1,M),fun j=>j,⟨hkl,hgm.skip he0 hxk (.inl hok),hmm⟩,by show t.rs.length-(k+1)<t.rs.length-k; omega,fun _ _=>rfl,Zr,⟨⟨_,rfl,.ptr 3 0 0 (by decide)⟩,⟨_,rfl,.pure _ trivial⟩,⟨_,rfl,.pure _ trivial⟩,⟨_,by show some _=some _; rw [hinc],.pure _ trivial⟩,trivial⟩,Z3P (by decide) (by decide) (by decide) (by decide) rfl rfl rfl rfl (by decide) hB rfl rfl rfl rfl rfl rfl⟩
       | true =>
         rw [hok] at hst
         have hst2:stepP x e0.s true=.tup [setN (nextR x e0.s),.val (.bool true)]:=rfl
         rw [hst2] at hst
         refine Zy hst rfl rfl rfl ⟨ZV t S,Z1 _,trivial,trivial⟩ ?_
         generalize hnv:nextR x e0.s=nx at hnx hnin
         refine gd 76 ⟨?_⟩
         refine Z2b rfl ?_
         refine Zy (Z41 nx hnx) rfl rfl rfl ⟨Z1 _,trivial⟩ ?_
         refine Z2b rfl ?_
         refine Zi (Ze4 rfl) rfl rfl ?_
         refine Z2b rfl ?_
         by_cases hm:nx∈M.map FE.s
         · obtain ⟨j, h1, h2⟩ := Zbl hnx hsm hm
           refine Zi (ZgH (b:=⟨0,seenRows M⟩) rfl rfl rfl rfl (keyKS _) h1) rfl rfl ?_
           rw [h2]
           refine go ?_
           exact⟨(k+1,M),fun j=>j,⟨hkl,hgm.skip he0 hxk (.inr (by rw [hnv]; exact hm)),hmm⟩,by show t.rs.length-(k+1)<t.rs.length-k; omega,fun _ _=>rfl,Zr,⟨⟨_,rfl,.ptr 3 0 0 (by decide)⟩,⟨_,rfl,.pure _ trivial⟩,⟨_,rfl,.pure _ trivial⟩,⟨_,by show some _=some _; rw [hinc],.pure _ trivial⟩,trivial⟩,Z3P (by decide) (by decide) (by decide) (by decide) rfl rfl rfl rfl (by decide) hB rfl rfl rfl rfl rfl rfl⟩
         · refine Zi (Zhd (b := ⟨0, seenRows M⟩) rfl rfl rfl rfl (keyKS _) (Zah hnx hsm hm)) rfl rfl ?_
           have hadd:=hgm.add hlo he0 hxk hok (by rw [hnv]; exact hm)
           rw [hnv] at hadd
           have hlen2:=hadd.len h
           have hMr2:(feRows (M ++ [(⟨nx,(i:Int),(k:Int)⟩:FE)])).length=M.length+1:=by rw [Z2I,List.length_append]; rfl
           have hMr3:(M ++ [(⟨nx,(i:Int),(k:Int)⟩:FE)]).length=M.length+1:=by rw [List.length_append]; rfl
           have hs2:seenRows M ++ [[.val (.string (keyB nx)),.val (.bool true)]]=seenRows (M ++ [(⟨nx,(i:Int),(k:Int)⟩:FE)]):=by unfold seenRows; rw [List.map_append]; rfl
           have hf2:feRows M ++ [feC ⟨nx,(i:Int),(k:Int)⟩]=feRows (M ++ [(⟨nx,(i:Int),(k:Int)⟩:FE)]):=by unfold feRows; rw [List.map_append]; rfl
           refine gd 85 ⟨?_⟩
           refine Zy (Z41 nx hnx) rfl rfl rfl ⟨Z1 _,trivial⟩ ?_
           refine Zi (Ze4 rfl) rfl rfl ?_
           refine Zi (Zbm (rows:=seenRows M) (p:=.val (.bool true)) rfl rfl rfl rfl (keyKS _) (Zah hnx hsm hm)) rfl rfl ?_
           rw [hs2]
           refine gd 97 ⟨?_⟩
           refine Zi (Zs (k:=5) (m := [feC ⟨nx,(i:Int),(k:Int)⟩]) (fl:=true) (b:=⟨3,feRows M⟩) rfl rfl rfl (fun q hq=>by rw [List.mem_singleton] at hq; subst hq; rfl) rfl (by
            show ((feRows M).length+1)*40≤_
            rw [hMr];omega)) rfl rfl ?_
           simp only
           rw [hf2]
           generalize hMM:M ++ [(⟨nx,(i:Int),(k:Int)⟩:FE)]=MM at hadd hMr2 hMr3 hlen2
           refine gd 104 ⟨?_⟩
           refine Zi (Z2r (v:=((M.length+1:Nat):Int)) rfl (by rw [hMr2])) rfl rfl ?_
           refine gd 109 ⟨?_⟩
           by_cases hgt:(((M.length+1:Nat):Int))>lim
           · refine Zi (Z9 (v := true) rfl (decide_eq_true hgt)) rfl rfl ?_
             refine go ?_
             exact⟨_,_,rfl,.inl rfl,.inl ⟨rfl,rfl,⟨MM,by rw [hMr3]; exact hgt,hadd.rch,hadd.nd⟩,⟨rfl,trivial⟩⟩⟩
           · refine Zi (Z9 (v := false) rfl (decide_eq_false hgt)) rfl rfl ?_
             refine go ?_
             exact⟨(k+1,MM),mv 5 56,⟨hkl,hadd,by show (MM.length:Int)≤lim; rw [hMr3]; omega⟩,by show t.rs.length-(k+1)<t.rs.length-k; omega,Z3d (by decide),Zw rfl,⟨⟨_,rfl,.ptr 3 0 0 (by decide)⟩,⟨_,rfl,.pure _ trivial⟩,⟨_,rfl,.pure _ trivial⟩,⟨_,by show some _=some _; rw [hinc],.pure _ trivial⟩,trivial⟩,Z3P (by decide) (by decide) (by decide) (by decide) rfl rfl rfl rfl (by decide) hB rfl rfl rfl rfl rfl rfl⟩
     · refine Z3 (Z9 (v := false) rfl (decide_eq_false (by omega))) rfl rfl ?_
       refine go ?_
       exact⟨(i+1,M),fun j=>j,⟨by show lo≤i+1; omega,hil,hgm.next (by omega),hmm⟩,by show L0.length-(i+1)<L0.length-i; omega,fun _ _=>rfl,Zr,⟨⟨_,rfl,.ptr 3 0 0 (by decide)⟩,⟨_,by show some _=some _; rw [hinci],.pure _ trivial⟩,trivial⟩,Z3P (by decide) (by decide) (by decide) (by decide) rfl rfl rfl rfl (by decide) hB rfl rfl rfl rfl rfl rfl⟩
   · have hil : i = L0.length := by omega
     subst hil
     refine Zi (Z9 (v:=false) rfl (decide_eq_false (by omega))) rfl rfl ?_
     refine gd 115 ⟨?_⟩
     refine Zi (Z2r (v:=(L.length:Int)) rfl (by rw [hLr])) rfl rfl ?_
     refine gd 124 ⟨?_⟩
     refine Zi (Z2r (v:=(E.length:Int)) rfl (by rw [hel])) rfl rfl ?_
     refine Zi (Z2r (v:=((E.length-1:Nat):Int)) rfl hpre) rfl rfl ?_
     refine Zi (Zv rfl rfl rfl (E.length-1) rfl (by rw [hel];omega) rfl) rfl rfl ?_
     refine Zi (Ze5 (kd:=.i64) (L:=E) rfl rfl (by omega)) rfl rfl ?_
     rw [hE.last]
     by_cases hee:L.length=L0.length
     · refine Zi (Z9 (v := true) rfl (by simp [hee])) rfl rfl ?_
       refine go ?_
       obtain rfl:L0=L:=hg.pre.eq_of_length hee.symm
       exact⟨_,_,rfl,.inl rfl,.inr (.inl ⟨rfl,rfl,hg,⟨rfl,rfl,rfl,rfl,rfl,trivial⟩⟩)⟩
     · refine Zi (Z9 (v := false) rfl (by simp; omega)) rfl rfl ?_
       refine gd 138 ⟨?_⟩
       refine Zi (Z2r (v:=(L.length:Int)) rfl (by rw [hLr])) rfl rfl ?_
       have he2:rowsK1 .i64 E ++ [[.val (.int .i64 (L.length:Int))]]=rowsK1 .i64 (E ++ [L.length]):=by unfold rowsK1; rw [List.map_append]; rfl
       refine gd 140 ⟨?_⟩
       refine Zi (Zs (k:=2) (m := [[.val (.int .i64 (L.length:Int))]]) (fl:=true) (b:=⟨1,rowsK1 .i64 E⟩) rfl rfl rfl (fun q hq=>by rw [List.mem_singleton] at hq; subst hq; rfl) rfl (by
        show ((rowsK1 .i64 E).length+1)*8≤_
        rw [hel];omega)) rfl rfl ?_
       simp only
       rw [he2]
       refine go ?_
       exact⟨_,_,rfl,.inl rfl,.inr (.inr ⟨rfl,rfl,L,by have:=hg.pre.length_le; omega,hlm,hg,⟨rfl,rfl,rfl,rfl,rfl,trivial⟩⟩)⟩
theorem PathF.at {L:List FE} {j:Nat} {p:List Nat} (h:PathF L j p):∃ e,L[j]?=some e∧((e.fr<0∧p = []) ∨ ∃ (i k:Nat) (q:List Nat),e.fr=(i:Int)∧i<j∧e.k=(k:Int)∧p=q ++ [k]∧PathF L i q):=by
 cases h with
 | base h hf=>exact⟨_,h,.inl ⟨hf,rfl⟩⟩
 | step h hf hj hk hp=>exact⟨_,h,.inr ⟨_,_,_,hf,hj,hk,rfl,hp⟩⟩
theorem planQ {t:PB} {S:List Nat} {lim:Int} {L:List FE} {E:List Nat} {B:Bx} (hB:pureLL B.elems) {o:List Nat} {ρ:Nat→Nat} {h:Heap} {o':Nat} (r3:ρ 3=3) (r1:ρ 1=1) (r4:ρ 4=4) (r2:ρ 2=2) (r0:ρ 0=0) (ro:ρ 17=o') (e3:h 3=some (schC t S lim 1 4 2)) (e1:h 1=some ⟨3,feRows L⟩) (e4:h 4=some ⟨0,seenRows L⟩) (e2:h 2=some ⟨1,rowsK1 .i64 E⟩) (e0:h 0=some B) (eo:h o'=some ⟨1,rowsK1 .i64 o⟩):HeapQ ρ h 18 (schHL t S lim L E 1 4 2 ++ [(0,B),(17,⟨1,rowsK1 .i64 o⟩)]) :=
 ⟨⟨by decide, _, by rw [r3]; exact e3, by unfold schC; exact RenB.single ⟨.pure _ trivial, .pure _ (Zu _ _), .pure _ (Z8 _), .pure _ (ZR _), .pure _ (ZO _), .pure _ (ZO _), .pure _ trivial, .same _ ⟨by decide, r1⟩, .same _ ⟨by decide, r4⟩, .same _ ⟨by decide, r2⟩, trivial⟩ rfl⟩,
   ⟨by decide,_,by rw [r1]; exact e1,.same _ (Z43 _)⟩,⟨by decide,_,by rw [r4]; exact e4,.same _ (Z31 _)⟩,⟨by decide,_,by rw [r2]; exact e2,.same _ (Z15 _ _)⟩,⟨by decide,_,by rw [r0]; exact e0,.same _ hB⟩,⟨by decide,_,by rw [ro]; exact eo,.same _ (Z15 _ _)⟩,trivial⟩
set_option maxRecDepth 100000 in
set_option maxHeartbeats 8000000 in
theorem Zai (t:PB) (S:List Nat) (lim:Int) (L:List FE) (E:List Nat) {B:Bx} (hB:pureLL B.elems) (i0:Nat) (p:List Nat) (hp:PathF L i0 p) (hpl:p.length≤100000) (hL:L.length≤100000) :
 ISpec Tryz.prog 25 16 [.ptr 3 0 0,.val (.int .i64 (i0:Int))] (heapL (schHL t S lim L E 1 4 2 ++ [(0,B)])) fun n' r h'=>n'=18∧r=.vec (inL p) false∧h'=heapL (schHL t S lim L E 1 4 2 ++ [(0,B)]):=by
 refine ISpec.less (R:=fun n' r h'=>n'=18∧r=.vec (inL p) false∧HasF h' (schHL t S lim L E 1 4 2 ++ [(0,B)])) ?_ fun n' r h' ⟨h1,h2,h3⟩=>⟨_,Z4G h3.mem,h1,h2,rfl⟩
 have hLr:=Z2I L
 refine Z1i ok25 (Nat.le_of_ble_eq_true rfl) fun C hC=>?_
 refine go ?_
 refine Z2A (ZC (k:=5) rfl 1 (by decide) _) ?_
 refine ZE hC (fun x:Nat×List Nat=>∃ q,PathF L x.1 q∧q++x.2.reverse=p) (fun x=>x.1) 18 (fun x => [(0,.ptr 3 0 0),(1,.val (.int .i64 (x.1:Int))),(5,.own 17)]) (fun x=>schHL t S lim L E 1 4 2 ++ [(0,B),(17,⟨1,rowsK1 .i64 x.2⟩)]) (by decide) (i0,[]) ⟨p,hp,by simp⟩
  (mv 17 16) (Z3d (by decide)) (Zw rfl) ⟨⟨_,rfl,.ptr 3 0 0 (by decide)⟩,⟨_,rfl,.pure _ trivial⟩,⟨_,rfl,.own 17 (by decide)⟩,trivial⟩ (planQ hB rfl rfl rfl rfl rfl rfl rfl rfl rfl rfl rfl rfl) ?_
 rintro⟨j,o⟩ ⟨q,hq,hqo⟩
 have hqo:q++o.reverse=p:=hqo
 obtain⟨e,he,hcase⟩:=(show PathF L j q from hq).at
 have hjl:=(List.getElem?_eq_some_iff.1 he).1
 have hol:o.length≤p.length:=by rw [← hqo]; simp
 have hor:=Z1r .i64 o
 refine gd 11 ⟨?_⟩
 refine Z3 (Zv rfl rfl rfl j rfl (by rw [hLr]; exact hjl) rfl) rfl rfl ?_
 refine gd 13 ⟨?_⟩
 refine Z3 (Z1L (p:=.val (.int .i64 e.fr)) rfl rfl (by rw [hLr]; exact hjl) (by rw [Z2J he]; rfl)) rfl rfl ?_
 rcases hcase with⟨hf,rfl⟩|⟨i,k,q',hf,hij,hk,rfl,hq'⟩
 · refine Z3 (Z9 (v := false) rfl (decide_eq_false (by omega))) rfl rfl ?_
   have hop:o.reverse=p:=by rw [← hqo]; rfl
   refine gd 35 ⟨?_⟩
   refine Zhb (id:=17) (Zcn o (by omega)) (Zfz Z5D ZgG) rfl rfl rfl rfl (Z15 _ _) ?_
   rintro r b' _ _ rfl
   rw [hop]
   refine gd 36 ⟨?_⟩
   refine Zc (Zo (k:=5) (b:=⟨1,rowsK1 .i64 p⟩) rfl rfl (Z15 _ _)) ?_
   refine go ?_
   exact⟨_,_,rfl,.inl rfl,rfl,rfl,rfl,rfl,rfl,rfl,rfl,trivial⟩
 · refine Z3 (Z9 (v := true) rfl (decide_eq_true (by rw [hf]; omega))) rfl rfl ?_
   refine gd 29 ⟨?_⟩
   refine Z3 (Zv rfl rfl rfl j rfl (by rw [hLr]; exact hjl) rfl) rfl rfl ?_
   refine gd 31 ⟨?_⟩
   refine Z3 (Z1L (p:=.val (.int .i64 (k:Int))) rfl rfl (by rw [hLr]; exact hjl) (by rw [Z2J he,← hk]; rfl)) rfl rfl ?_
   have happ:rowsK1 .i64 o ++ [[.val (.int .i64 (k:Int))]]=rowsK1 .i64 (o ++ [k]):=by unfold rowsK1; rw [List.map_append]; rfl
   refine gd 33 ⟨?_⟩
   refine ZD (Zs (k:=17) (m := [[.val (.int .i64 (k:Int))]]) (fl:=true) (b:=⟨1,rowsK1 .i64 o⟩) rfl rfl rfl (fun q hq=>by rw [List.mem_singleton] at hq; subst hq; rfl) rfl (by
    show ((rowsK1 .i64 o).length+1)*8≤_
    rw [hor];omega)) rfl rfl ?_
   simp only
   rw [happ]
   refine gd 20 ⟨?_⟩
   refine Z3 (Zv rfl rfl rfl j rfl (by rw [hLr]; exact hjl) rfl) rfl rfl ?_
   refine gd 22 ⟨?_⟩
   refine Z3 (Z1L (p:=.val (.int .i64 (i:Int))) rfl rfl (by rw [hLr]; exact hjl) (by rw [Z2J he,← hf]; rfl)) rfl rfl ?_
   refine go ?_
   exact⟨(i,o ++ [k]),mv 17 18,⟨q',hq',by rw [← hqo]; simp⟩,hij,Z3d (by decide),Zw rfl,⟨⟨_,rfl,.ptr 3 0 0 (by decide)⟩,⟨_,rfl,.pure _ trivial⟩,⟨_,rfl,.own 17 (by decide)⟩,trivial⟩,planQ hB rfl rfl rfl rfl rfl rfl rfl rfl rfl rfl rfl rfl⟩
inductive FwR (t:PB) (lim:Int):PV→Prop
 | lim (L:List FE) (h1:lim<(L.length:Int)) (h2:∀ e∈L,Rch t e.s) (h3:(L.map FE.s).Nodup):FwR t lim (.tup [.agg [.val (.int .i64 0),.val (.bool false),.vec [] true],.val (.int .i64 3)])
 | yes (n:Int) (p:List Nat) (fl:Bool) (hp:PlanOk t p) (hs:∀ q,PlanOk t q→p.length≤q.length) (hl:p.length≤100000):FwR t lim (.tup [.agg [.val (.int .i64 n),.val (.bool true),.vec (inL p) fl],.val (.int .i64 0)])
 | no (n:Int) (hn:¬ Able t t.st):FwR t lim (.tup [.agg [.val (.int .i64 n),.val (.bool false),.vec [] true],.val (.int .i64 0)])
def bestV:Option (List Nat)→PV
 | none=>.vec [] true
 | some p=>.vec (inL p) false
def bestB:Option (List Nat)→Bool
 | none=>false
 | some _=>true
theorem Zco:∀ b,(bestV b).pure
 | none=>trivial
 | some p=>Z1x p
def resB:Bx:=⟨3,[[.val (.int .i64 0),.val (.bool false),.vec [] true]]⟩
theorem Z2i:pureLL resB.elems:=⟨⟨trivial,trivial,trivial,trivial⟩,trivial⟩
def renB:Nat→Nat:=fun i=>bif Nat.beq i 1 then 5 else bif Nat.beq i 2 then 49 else i
structure FwI (t:PB) (lim:Int) (d lo:Nat) (L:List FE) (E:List Nat):Prop where
 b:BF t d lo L
 e:EndsOk E lo L.length
 l:(L.length:Int)≤lim
 el:E.length≤L.length
 dl:d≤L.length
def BestI (t:PB) (d lo:Nat) (L:List FE) (i:Nat):Option (List Nat)→Prop
 | none=>∀ j e,lo≤j→j<i→L[j]?=some e→reachB t e.s=false
 | some p=>PlanOk t p∧p.length=d
set_option maxRecDepth 100000 in
set_option maxHeartbeats 16000000 in
theorem Z7f {t:PB} (h:PbOk t) (hn:t.n≤5) (S:List Nat) (lim:Int) (hlim:1≤lim):Spec Tryz.prog 7 [.agg (pbP t S),.val (.int .i64 lim)] (FwR t lim):=by
 have h32:2 ^ t.n≤32:=Nat.pow_le_pow_right (n:=2) (by decide) hn
 have hpp:=ZV t S
 refine Z2 ok7 (Nat.le_of_ble_eq_true rfl) fun C hC=>?_
 refine Zl ?_
 refine Za ?_
 refine Z5 rfl rfl rfl ?_
 refine gd 18 ⟨?_⟩
 refine Z1j rfl rfl (Z8V h hn S lim hlim (B:=resB) Z2i) ?_
 rintro n' r h' ⟨rfl,rfl,rfl⟩
 refine go ?_
 refine ZE hC (fun x:(Nat×Nat)×List FE×List Nat=>FwI t lim x.1.1 x.1.2 x.2.1 x.2.2) (fun x=>2 ^ t.n+1-x.2.1.length) 5 (fun x => [(2,.cp (pbP t S)),(4,.ptr 0 0 0),(6,.ptr 3 0 0),(8,.val (.int .i64 (x.1.2:Int)))]) (fun x=>schHL t S lim x.2.1 x.2.2 1 4 2 ++ [(0,resB)]) (by decide) ((0,0),[feS t],[1])
  ⟨.start t,.base,hlim,Nat.le_refl _,Nat.zero_le _⟩ (fun i=>i) (fun _ _=>rfl) Zr ⟨⟨_,rfl,.pure _ hpp⟩,⟨_,rfl,.ptr 0 0 0 (by decide)⟩,⟨_,rfl,.ptr 3 0 0 (by decide)⟩,⟨_,rfl,.pure _ trivial⟩,trivial⟩
  (Z3P (by decide) (by decide) (by decide) (by decide) rfl rfl rfl rfl (by decide) Z2i rfl rfl rfl rfl rfl rfl) ?_
 rintro⟨⟨d,lo⟩,L,E⟩ hI
 obtain⟨hb,hE,hll,hel,hdl⟩:=(show FwI t lim d lo L E from hI)
 have hLn:=hb.len h
 have hLr:=Z2I L
 have hlo:=hb.le
 refine go ?_
 refine ZE hC (fun x:Nat×Option (List Nat)=>lo≤x.1∧x.1≤L.length∧BestI t d lo L x.1 x.2) (fun x=>L.length-x.1) 5 (fun x => [(2,.cp (pbP t S)),(4,.ptr 0 0 0),(6,.ptr 3 0 0),(9,bestV x.2),(10,.val (.bool (bestB x.2))),(11,.val (.int .i64 (x.1:Int)))]) (fun x=>schHL t S lim L E 1 4 2 ++ [(0,resB)]) (by decide) (lo,none)
  ⟨Nat.le_refl _,hlo,fun j e h1 h2=>absurd h1 (by omega)⟩ (fun i=>i) (fun _ _=>rfl) Zr ⟨⟨_,rfl,.pure _ hpp⟩,⟨_,rfl,.ptr 0 0 0 (by decide)⟩,⟨_,rfl,.ptr 3 0 0 (by decide)⟩,⟨_,rfl,.pure _ trivial⟩,⟨_,rfl,.pure _ trivial⟩,⟨_,rfl,.pure _ trivial⟩,trivial⟩
  (Z3P (by decide) (by decide) (by decide) (by decide) rfl rfl rfl rfl (by decide) Z2i rfl rfl rfl rfl rfl rfl) ?_
 rintro⟨i,best⟩ ⟨hli,hil,hbest⟩
 have hli:lo≤i:=hli
 have hil:i≤L.length:=hil
 have hbest:BestI t d lo L i best:=hbest
 have hinc:IntKind.i64.wrap ((i:Int)+1)=((i+1:Nat):Int):=IntWalk.i64_in _ ⟨by omega,by omega⟩
 have next:∀ (n1:Nat) (e1:Env) (b1:Option (List Nat)),BestI t d lo L (i+1) b1→i<L.length→e1 2=some (.cp (pbP t S))→e1 4=some (.ptr 0 0 0)→e1 6=some (.ptr 3 0 0)→e1 9=some (bestV b1)→e1 10=some (.val (.bool (bestB b1)))→e1 11=some (.val (.int .i64 ((i+1:Nat):Int))) →
  ∃ (x' : Nat × Option (List Nat)) (ρ : Nat → Nat), (lo ≤ x'.1 ∧ x'.1 ≤ L.length ∧ BestI t d lo L x'.1 x'.2) ∧ L.length - x'.1 < L.length - i ∧ (∀ i, i < 0 → ρ i = i) ∧ InjOn ρ (schHL t S lim L E 1 4 2 ++ [(0, resB)]) ∧
    EnvQ ρ e1 5 [(2,.cp (pbP t S)),(4,.ptr 0 0 0),(6,.ptr 3 0 0),(9,bestV x'.2),(10,.val (.bool (bestB x'.2))),(11,.val (.int .i64 (x'.1:Int)))]∧HeapQ ρ (heapL (schHL t S lim L E 1 4 2 ++ [(0,resB)])) 5 (schHL t S lim L E 1 4 2 ++ [(0,resB)]) :=
  fun n1 e1 b1 h1 h2 g2 g4 g6 g9 g10 g11=>⟨(i+1,b1),fun i=>i,⟨by show lo≤i+1; omega,h2,h1⟩,by show L.length-(i+1)<L.length-i; omega,fun _ _=>rfl,Zr,
   ⟨⟨_,g2,.pure _ hpp⟩,⟨_,g4,.ptr 0 0 0 (by decide)⟩,⟨_,g6,.ptr 3 0 0 (by decide)⟩,⟨_,g9,.pure _ (Zco _)⟩,⟨_,g10,.pure _ trivial⟩,⟨_,g11,.pure _ trivial⟩,trivial⟩,
   Z3P (by decide) (by decide) (by decide) (by decide) rfl rfl rfl rfl (by decide) Z2i rfl rfl rfl rfl rfl rfl⟩
 refine gd 31 ⟨?_⟩
 refine Zm (v:=(L.length:Int)) rfl rfl rfl (by rw [hLr]) ?_
 by_cases hlt:i<L.length
 · refine Z3 (Z9 (v := true) rfl (decide_eq_true (Int.ofNat_lt.2 hlt))) rfl rfl ?_
   obtain⟨e0,he0⟩:∃ e0,L[i]?=some e0:=⟨_,List.getElem?_eq_getElem hlt⟩
   have hrc:=hb.rch e0 (List.mem_of_getElem? he0)
   have h64:e0.s<18446744073709551616:=(hrc.inS h).lt h.n.2
   refine gd 41 ⟨?_⟩
   refine Zi (Zv rfl rfl rfl i rfl (by rw [hLr]; exact hlt) rfl) rfl rfl ?_
   refine gd 43 ⟨?_⟩
   refine Zi (Z1L (p:=setN e0.s) rfl rfl (by rw [hLr]; exact hlt) (by rw [Z2J he0]; rfl)) rfl rfl ?_
   refine Zy (Z6f h S e0.s h64) rfl rfl rfl ⟨hpp,Z1 _,trivial⟩ ?_
   cases hre:reachB t e0.s with
   | false =>
     refine go ?_
     refine next 0 _ best ?_ hlt rfl rfl rfl rfl rfl (by show some _=some _; rw [hinc])
     cases best with
     | none =>
       intro j e h1 h2 he
       by_cases hj:j<i
       · exact hbest j e h1 hj he
       · obtain rfl : j = i := by omega
         rw [he0] at he; cases he
         exact hre
     | some p=>exact hbest
   | true =>
     obtain⟨p,hpf,hrun,hpd⟩:=hb.new i e0 hli he0
     have hpo:PlanOk t p:=⟨e0.s,hrun,hre⟩
     have hpl:p.length≤100000:=by omega
     refine gd 48 ⟨?_⟩
     refine Z1j rfl rfl (Zai t S lim L E Z2i i p hpf hpl (by omega)) ?_
     rintro n' r h' ⟨rfl,rfl,rfl⟩
     cases best with
     | none =>
       refine go ?_
       exact next 0 _ (some p) ⟨hpo,hpd⟩ hlt rfl rfl rfl rfl rfl (by show some _=some _; rw [hinc])
     | some p0 =>
       have hp0:PlanOk t p0∧p0.length=d:=hbest
       refine gd 54 ⟨?_⟩
       refine Zq rfl ?_
       refine ZB rfl rfl (Z8T p p0 false false (by omega) (by omega)) ⟨Z1x _,Z1x _,trivial⟩ rfl ?_
       rintro r ⟨c,rfl⟩
       refine gd 55 ⟨?_⟩
       refine Zq rfl ?_
       refine Zj rfl rfl rfl (fun hb=>?_) (fun hb=>?_)
       · refine go ?_
         exact next 0 _ (some p) ⟨hpo,hpd⟩ hlt rfl rfl rfl rfl rfl (by show some _=some _; rw [hinc])
       · refine go ?_
         exact next 0 _ (some p0) hp0 hlt rfl rfl rfl rfl rfl (by show some _=some _; rw [hinc])
 · have hie : i = L.length := by omega
   subst hie
   refine Z3 (Z9 (v:=false) rfl (decide_eq_false (by omega))) rfl rfl ?_
   cases best with
   | some p =>
     have hp:PlanOk t p∧p.length=d:=hbest
     refine go ?_
     refine Z6 rfl ⟨⟨trivial,trivial,Z1x _,trivial⟩,trivial,trivial⟩ (.yes _ p false hp.1 (fun q hq=>?_) (by omega))
     rw [hp.2]
     exact hb.short hq
   | none =>
     have hng:NoGoal t lo L:=fun j e h1 he=>hbest j e h1 (List.getElem?_eq_some_iff.1 he).1 he
     refine gd 70 ⟨?_⟩
     refine Zm (v:=(L.length:Int)) rfl rfl rfl (by rw [hLr]) ?_
     refine gd 73 ⟨?_⟩
     refine Z1j rfl rfl (Z82 h hn S lim hlim hb hll hE (by omega) (B:=resB) Z2i) ?_
     rintro n' r h' (⟨rfl,rfl,⟨M,m1,m2,m3⟩,rfl⟩|⟨rfl,rfl,hg,rfl⟩|⟨rfl,rfl,M,m1,m2,hg,rfl⟩)
     · refine go ?_
       exact Z6 rfl ⟨⟨trivial,trivial,trivial,trivial⟩,trivial,trivial⟩ (.lim M m1 m2 m3)
     · refine go ?_
       exact Z6 rfl ⟨⟨trivial,trivial,trivial,trivial⟩,trivial,trivial⟩ (.no _ (hg.closed h (Nat.le_refl _) hng rfl))
     · have hMn := hg.len h
       refine go ?_
       exact⟨((d+1,L.length),M,E ++ [M.length]),renB,⟨hg.finish (Nat.le_refl _) hng,hE.snoc M.length,m2,by show (E ++ [M.length]).length≤M.length; rw [List.length_append,List.length_singleton]; omega,by show d+1≤M.length; omega⟩,by show 2 ^ t.n+1-M.length<2 ^ t.n+1-L.length; omega,fun _ hi=>absurd hi (Nat.not_lt_zero _),Zw rfl,
        ⟨⟨_,rfl,.pure _ hpp⟩,⟨_,rfl,.ptr 0 0 0 (by decide)⟩,⟨_,rfl,.ptr 3 0 0 (by decide)⟩,⟨_,rfl,.pure _ trivial⟩,trivial⟩,
        Z3P (by decide) (by decide) (by decide) (by decide) rfl rfl rfl rfl (by decide) Z2i rfl rfl rfl rfl rfl rfl⟩
theorem Zcp {α:Type} (p:α→Bool) {l:List α} {i:Nat} (hi:i<l.length):(l.take (i+1)).all p=((l.take i).all p&&p l[i]):=by
 rw [List.take_add_one,List.getElem?_eq_getElem hi,List.all_append]
 simp
theorem Zaj {α:Type} (p:α→Bool) {l:List α} {i:Nat} (h:(l.take i).all p=false):l.all p=false:=by
 apply tb2
 intro h2
 rw [List.all_eq_true] at h2
 rw [List.all_eq_false] at h
 obtain⟨x,hx,h3⟩:=h
 exact h3 (h2 x (List.mem_of_mem_take hx))
theorem Ze9 {b c:Cu} {l:List Cu} (h1:emC c=false) (h2:emC (bothC c b)=true):covL (b :: l) c=covL l c:=by
 rw [covL,h1,Bool.false_or,if_pos h2]
theorem Zea {b c:Cu} {l:List Cu} (h1:emC c=false) (h2:emC (bothC c b)=false):covL (b :: l) c=(minC c b).all fun x=>covL l x:=by
 rw [covL,h1,Bool.false_or,if_neg (by rw [h2]; decide)]
set_option maxHeartbeats 4000000 in
theorem Zcq:∀ (m:Nat) (l:List Cu),l.length<m→l.length≤1000000→(∀ c∈l,Ok64 c)→∀ (c:Cu) (fl:Bool),Ok64 c→Spec Tryz.prog 64 [cuP c,.vec (l.map cuC) fl] (· = .val (.bool (covL l c))):=by
 intro m
 induction m with
 | zero=>intro l hm; omega
 | succ m ih =>
   intro l hm hlen hl c fl hc
   have hlp:∀ (l:List Cu) D,innLL D (l.map cuC):=fun i D=>Zg (fun _ h=>h.elim) _ (Ze Zk _)
   refine Z2 ok64 (Nat.le_of_ble_eq_true rfl) fun C hC=>?_
   refine Zl ?_
   refine Za ?_
   refine Z5 rfl rfl rfl ?_
   refine go ?_
   refine Z4 (Z14 c hc) rfl rfl rfl ⟨Zp c,trivial⟩ rfl ?_
   cases hec:emC c
   case true =>
    refine go ?_
    have h1:covL l c=true:=by cases l<;>(unfold covL; rw [hec]; try rfl)
    exact Z6 rfl trivial (by rw [h1])
   refine go ?_
   refine ZG hC (fun (x:Nat×Bool)=>x.1≤l.length∧covL l c=covL (l.drop x.1) c) (fun x=>l.length-x.1) 0 (fun x => [(1,.vec ((l.drop x.1).map cuC) x.2),(2,.cp (cuC c))]) (fun _=>[]) (Nat.le_refl _) (0,fl) ⟨Nat.zero_le _,rfl⟩
    ⟨⟨rfl,hlp _ _⟩,⟨rfl,Zh _ _,Zh _ _,trivial⟩,trivial⟩ trivial ?_
   rintro⟨i,fl2⟩ ⟨hi,hcov⟩
   dsimp only at hi hcov ⊢
   have hrest:l.drop (i+1)=(l.drop i).drop 1:=by rw [List.drop_drop]
   have hdl:(l.drop i).length=l.length-i:=List.length_drop
   have hmem:∀ x∈l.drop i,Ok64 x:=fun x hx=>hl x (List.mem_of_mem_drop hx)
   generalize l.drop i=lr at hcov hrest hdl hmem ⊢
   cases lr with
   | nil =>
     refine go ?_
     exact Z6 rfl trivial (by rw [hcov,covL,hec])
   | cons b rest =>
     have hb0:Ok64 b:=hmem b (List.mem_cons_self ..)
     have hro:∀ x∈rest,Ok64 x:=fun x hx=>hmem x (List.mem_cons_of_mem _ hx)
     rw [List.length_cons] at hdl
     rw [List.drop_succ_cons,List.drop_zero] at hrest
     have htd:((b :: rest).take (rest.length+1)).drop 1=rest:=by simp
     iterate 5 (first|refine st ?_|(apply B<;>intro hb<;>try cases hb))
     refine Zi (Z9 (v:=true) rfl (by simp; try omega)) rfl rfl ?_
     refine go ?_
     refine Zi (Zn (xs:=b :: rest) (g:=cuC) rfl rfl 0 rfl (Nat.zero_lt_succ _) rfl) rfl rfl ?_
     rw [show (b :: rest)[0]=b from rfl]
     refine go ?_
     refine Zy (Z71 c b hc hb0) rfl rfl rfl ⟨Zp c,Zp b,trivial⟩ ?_
     refine go ?_
     refine Zy (Z14 (bothC c b) (ZaY hc hb0)) rfl rfl rfl ⟨Zp _,trivial⟩ ?_
     cases hm2:emC (bothC c b)
     case true =>
      refine go ?_
      refine Z3 (ZeE (xs:=b :: rest) (g:=cuC) rfl 1 (rest.length+1) rfl (by show some _=some _; simp) (by omega) (by simp) (fun _=>rfl)) rfl rfl ?_
      rw [htd]
      refine go ?_
      exact⟨(i+1,false),⟨by show i+1≤_; omega,by show _=covL (l.drop (i+1)) c; rw [hcov,hrest,Ze9 hec hm2]⟩,by show _-(i+1)<_-i; omega,⟨⟨by show _=some (PV.vec ((l.drop (i+1)).map cuC) false); rw [hrest]; rfl,hlp _ _⟩,⟨rfl,Zh _ _,Zh _ _,trivial⟩,trivial⟩,trivial⟩
     have hst:=Zea (l:=rest) hec hm2
     rw [← hcov] at hst
     iterate 14 (first|refine st ?_|(apply B<;>intro hb<;>try cases hb))
     refine go ?_
     refine Zi (Zn (xs:=b :: rest) (g:=cuC) rfl rfl 0 rfl (Nat.zero_lt_succ _) rfl) rfl rfl ?_
     rw [show (b :: rest)[0]=b from rfl]
     refine go ?_
     refine Zy (Z7a c b hc hb0) rfl rfl rfl ⟨Zp c,Zp b,trivial⟩ ?_
     have hml:=Zb3 c b hc
     have hmo:=Zgr (b:=b) hc
     generalize minC c b=ms at hst hml hmo ⊢
     have hmll:(ms.map cuC).length=ms.length:=by simp
     refine go ?_
     refine ZG hC (fun j=>j≤ms.length∧((ms.take j).all fun x=>covL rest x)=true) (fun j=>ms.length-j) 0 (fun j => [(1,.vec ((b :: rest).map cuC) fl2),(29,.vec (ms.map cuC) false),(30,.val (.int .i64 ms.length)),(31,.val (.int .i64 (j:Int)))]) (fun _=>[]) (Nat.zero_le _) 0 ⟨Nat.zero_le _,rfl⟩
      ⟨⟨rfl,hlp _ _⟩,⟨rfl,hlp _ _⟩,⟨by rw [← hmll]; rfl,trivial⟩,⟨rfl,trivial⟩,trivial⟩ trivial ?_
     rintro j ⟨hj,hall⟩
     have hinc:IntKind.i64.wrap ((j:Int)+1)=((j+1:Nat):Int):=IntWalk.i64_in _ ⟨by omega,by omega⟩
     iterate 2 (first|refine st ?_|(apply B<;>intro hb<;>try cases hb))
     refine Zj rfl rfl rfl (fun hb=>?_) (fun hb=>?_)
     · have hjl : j < ms.length := by have := of_decide_eq_true hb; omega
       have hxo:=hmo _ (List.getElem_mem hjl)
       have hsx:=Zcp (fun x=>covL rest x) hjl
       rw [hall,Bool.true_and] at hsx
       clear hb
       refine go ?_
       refine Z3 (Zn (xs:=ms) (g:=cuC) rfl rfl j rfl hjl rfl) rfl rfl ?_
       refine go ?_
       refine Zi (ZeE (xs:=b :: rest) (g:=cuC) rfl 1 (rest.length+1) rfl (by show some _=some _; simp) (by omega) (by simp) (fun _=>rfl)) rfl rfl ?_
       rw [htd]
       refine go ?_
       refine Zy (ih rest (by omega) (by omega) hro ms[j] false hxo) rfl rfl rfl ⟨Zp _,Ze Zk _,trivial⟩ ?_
       generalize covL rest ms[j]=v at hsx
       cases v
       · refine go ?_
         exact Z6 rfl trivial (by rw [hst,Zaj _ hsx])
       · refine go ?_
         exact⟨j+1,⟨by omega,hsx⟩,by omega,⟨⟨rfl,hlp _ _⟩,⟨rfl,hlp _ _⟩,⟨rfl,trivial⟩,⟨by show some _=some _; rw [hinc],trivial⟩,trivial⟩,trivial⟩
     · have hjl : j = ms.length := by have := of_decide_eq_false hb; omega
       subst hjl
       rw [List.take_length] at hall
       clear hb
       refine go ?_
       exact Z6 rfl trivial (by rw [hst,hall])
end Go.Proofs.YtcgaocnjebhimaaGreatDoor
namespace Go.Proofs.YtcgaocnjebhimaaGreatDoor
open Go.RowKit
def kidB (q:List PV) (i j:Nat):Bx:=⟨q.length+2,[.own i :: .own j :: q]⟩
section
variable {P:Program} {C:Ctx} {Fr:Nat→Prop} {e:Env} {h:Heap} {n:Nat} {F:Froz} {φ:Locs} {a:Act} {w:World}
theorem Z8W {φ':Locs} {v:Value} {i i':Nat} (hi:φ i=φ' i') (hr:Rep F φ v (.own i)):Rep F φ' v (.own i'):=Z5D F φ φ' v i i' hi hr
theorem ObAt.kid {φ':Locs} {loc:Loc} {q:List PV} {i j i' j':Nat} (h2:ObAt F φ w loc (kidB q i j)) (hi:φ i=φ' i') (hj:φ j=φ' j') (hq:pureL q):ObAt F φ' w loc (kidB q i' j'):=by
 have h2:=h2.cellsB (show 0<q.length+2 by omega)
 refine .inl ⟨h2.esz,h2.pos,h2.len,h2.cap,h2.max,fun c hc=>?_,fun hc=>?_⟩
 · have hc : c ∈ [PV.own i' :: .own j' :: q] := hc
   rw [List.mem_singleton] at hc
   subst hc
   rw [← h2.esz]; rfl
 · obtain ⟨x, hx, hs, cells, t, hg, hsz, hrep⟩ := h2.room hc
   refine⟨x,hx,hs,cells,t,hg,hsz,fun a b ha hb=>⟨(hrep a b ha hb).1,?_⟩⟩
   have hr:=(hrep a b ha hb).2
   have hl:loc.len=1:=by rw [← h2.len]; rfl
   obtain rfl:a=0:=by omega
   match b,hr with
   | 0,hr=>exact Z8W hi hr
   | 1,hr=>exact Z8W hj hr
   | b+2,hr=>exact Rep.pure (p:=q.getD b pvu) hr (ZH hq b)
def K2Spec (P:Program) (f:FuncId) (pre post q:List PV) (b1 b2:Bx) (R:PV→Bx→Bx→Prop):Prop :=
 ISpec P f 3 (pre++.ptr 0 0 0 :: post) (heapL [(0,kidB q 1 2),(1,b1),(2,b2)]) fun n' r h'=>∃ j1 j2 b1' b2',j1≠j2∧j1≠0∧j2≠0∧h' 0=some (kidB q j1 j2)∧h' j1=some b1'∧h' j2=some b2'∧r.pure∧pureLL b1'.elems∧pureLL b2'.elems∧R r b1' b2'
theorem Zcr {F:Froz} {φ φ':Locs} {vs:Array Value} {pre post:List PV} {p p':PV} (hpre:pureL pre) (hpost:pureL post) (hp:∀ v,Rep F φ v p→Rep F φ' v p') (hv:RepL F φ vs (pre++p :: post)):RepL F φ' vs (pre++p' :: post):=by
 refine⟨by rw [hv.1]; simp,fun i hi=>?_⟩
 have hr:=hv.2 i (by simp at hi ⊢; exact hi)
 by_cases h1:i<pre.length
 · have e1 : (pre ++ p :: post).getD i pvu = pre.getD i pvu := by simp [List.getD_eq_getElem?_getD, List.getElem?_append_left h1]
   have e2:(pre++p' :: post).getD i pvu=pre.getD i pvu:=by simp [List.getD_eq_getElem?_getD,List.getElem?_append_left h1]
   rw [e1] at hr; rw [e2]
   exact hr.pure (ZH hpre i)
 · have e1 : (pre ++ p :: post).getD i pvu = (p :: post).getD (i - pre.length) pvu := by simp [List.getD_eq_getElem?_getD, List.getElem?_append_right (Nat.le_of_not_lt h1)]
   have e2:(pre++p' :: post).getD i pvu=(p' :: post).getD (i-pre.length) pvu:=by simp [List.getD_eq_getElem?_getD,List.getElem?_append_right (Nat.le_of_not_lt h1)]
   rw [e1] at hr; rw [e2]
   match hk:i-pre.length,hr with
   | 0,hr=>exact hp _ hr
   | k+1,hr=>exact Rep.pure (p:=post.getD k pvu) hr (ZH hpost k)
theorem K2Spec.run {f:FuncId} {pre post q:List PV} {b1 b2:Bx} {R:PV→Bx→Bx→Prop} (hs:K2Spec P f pre post q b1 b2 R) (hpre:pureL pre) (hpost:pureL post) (hq:pureL q) (hp1:pureLL b1.elems) (hp2:pureLL b2.elems) {k i j n:Nat} (hn:Fr n) (hn1:Fr (n+1)) (hk:h k=some (kidB q i j)) (hi:h i=some b1) (hj:h j=some b2) (hij:i≠j) (hik:i≠k) (hjk:j≠k)
 (s:St' C Fr e h F φ a w) {vs:Array Value} (hv:RepL F φ vs (pre++.ptr k 0 0 :: post)) :
 Calls P f vs w fun en w'=>∃ v r b1' b2' F' φ',en=.returned v∧(r.pure∧pureLL b1'.elems∧pureLL b2'.elems∧R r b1' b2')∧Rep F' φ' v r∧St' C (fun x=>Fr x∧x≠n∧x≠n+1) e (((((h.del i).del j).upd k (kidB q n (n+1))).upd n b1').upd (n+1) b2') F' φ' a w':=by
 obtain⟨lk,hlk,hbk,hhk⟩:=s.live k _ hk
 obtain⟨li,hli,hbi,hhi⟩:=s.live i _ hi
 obtain⟨lj,hlj,hbj,hhj⟩:=s.live j _ hj
 let φ1:Locs:=fun x=>if x=0 then some lk else if x=1 then some li else if x=2 then some lj else none
 let C1:Ctx:=⟨w,fun g=>lk.has g ∨ li.has g ∨ lj.has g,F,C.nt,φ1⟩
 have hφn:φ n=none:=s.free n hn
 have hφn1:φ (n+1)=none:=s.free _ hn1
 have hnone:∀ {x:Nat} {bx:Bx},h x=some bx→x≠n∧x≠n+1:=by
  intro x bx hx
  obtain⟨loc,h1,_⟩:=s.live x bx hx
  exact⟨fun e=>(by rw [e,hφn] at h1; cases h1),fun e=>(by rw [e,hφn1] at h1; cases h1)⟩
 have hG:∀ g,C1.G g→C.w0.heap.size≤g ∨ C.G g:=fun g hg=>hg.elim (fun h=>(hhk g h).1) fun hg=>hg.elim (fun h=>(hhi g h).1) fun h=>(hhj g h).1
 have hth:∀ {loc:Loc} {b:Bx} {g:Nat},ObAt F φ w loc b→loc.has g→∀ o:Obj,w.heap[g]?=some o→¬ o=.deferred (some []):=by
  rintro loc b g hb hg o ho rfl
  rcases hb.there hg with⟨cells,t,hg⟩|⟨es,t,hg⟩
  · rw [hg] at ho; cases ho
  · rw [hg] at ho; cases ho
 have hcells:∀ g,C1.G g→∀ o:Obj,w.heap[g]?=some o→¬ o=.deferred (some []):=fun g hg=>hg.elim (hth hbk) fun hg=>hg.elim (hth hbi) (hth hbj)
 have h0:∀ {x:Nat} {b0:Bx},(heapL [(0,kidB q 1 2),(1,b1),(2,b2)]) x=some b0→(x=0∧b0=kidB q 1 2) ∨ (x=1∧b0=b1) ∨ (x=2∧b0=b2):=by
  intro x b0 hx
  have:=Z1p hx
  simp only [List.mem_cons,Prod.mk.injEq,List.not_mem_nil,or_false] at this
  exact this
 have s1:St' C1 (fun x=>3≤x) (fun _=>none) (heapL [(0,kidB q 1 2),(1,b1),(2,b2)]) F φ1 { a with defers := [] } w:=by
  refine { nt:=s.nt,glob:=s.glob,marks:=Marks.nil rfl,loc0:=fun i x hx=>hx,free:=fun i hi=>?_,env:=fun j p hp=>(by cases hp),froz:=s.froz,ext:=fun _ _ h=>h,old:=fun _ _ _=>rfl,os:=rfl,tape:=rfl,output:=rfl,size:=Nat.le_refl _,kept:=fun _ _ _=>rfl,live:=fun x b0 hx=>?_,sep:=fun x y bx bY lx ly g hx hy hlx hly hgx hgy=>?_ }
  · simp only [φ1]; rw [if_neg (by omega),if_neg (by omega),if_neg (by omega)]
  · rcases h0 hx with ⟨rfl, rfl⟩ | ⟨rfl, rfl⟩ | ⟨rfl, rfl⟩
    · exact⟨lk,rfl,hbk.kid (by rw [hli]; rfl) (by rw [hlj]; rfl) hq,fun g hg=>⟨.inr (.inl hg),(hhk g hg).2⟩⟩
    · exact⟨li,rfl,hbi.names hp1,fun g hg=>⟨.inr (.inr (.inl hg)),(hhi g hg).2⟩⟩
    · exact⟨lj,rfl,hbj.names hp2,fun g hg=>⟨.inr (.inr (.inr hg)),(hhj g hg).2⟩⟩
  · rcases h0 hx with ⟨rfl, rfl⟩ | ⟨rfl, rfl⟩ | ⟨rfl, rfl⟩ <;> rcases h0 hy with ⟨rfl, rfl⟩ | ⟨rfl, rfl⟩ | ⟨rfl, rfl⟩ <;> first | rfl | skip
    all_goals
     obtain rfl:=Option.some.inj hlx
     obtain rfl:=Option.some.inj hly
     exfalso
    · exact hik (s.sep k i _ _ _ _ g hk hi hlk hli hgx hgy).symm
    · exact hjk (s.sep k j _ _ _ _ g hk hj hlk hlj hgx hgy).symm
    · exact hik (s.sep i k _ _ _ _ g hi hk hli hlk hgx hgy)
    · exact hij (s.sep i j _ _ _ _ g hi hj hli hlj hgx hgy)
    · exact hjk (s.sep j k _ _ _ _ g hj hk hlj hlk hgx hgy)
    · exact hij (s.sep j i _ _ _ _ g hj hi hlj hli hgx hgy).symm
 have hv1:RepL F φ1 vs (pre++.ptr 0 0 0 :: post):=Zcr hpre hpost (fun v hr=>by
  obtain⟨loc',x,g1,gz,g2,g3,g4⟩:=hr.ptr_inv
  obtain rfl:loc'=lk:=by rw [hlk] at g1; simpa using g1.symm
  rw [g4]
  exact .ptr 0 0 0 loc' x rfl gz g2 g3) hv
 refine (hs.2 C1 _ F φ1 { a with defers := [] } w vs s1 hv1).mono ?_
 rintro en w' ⟨v,r,n',h',F',φ',rfl,⟨j1,j2,b1',b2',hj12,hj10,hj20,hh0,hh1,hh2,hrp,hp1',hp2',hR⟩,hvr,s'⟩
 obtain⟨l0,m01,m02,m03⟩:=s'.live 0 _ hh0
 obtain⟨l1,m11,m12,m13⟩:=s'.live j1 _ hh1
 obtain⟨l2,m21,m22,m23⟩:=s'.live j2 _ hh2
 obtain rfl:l0=lk:=by
  have:=s'.loc0 0 lk rfl
  rw [m01] at this; exact Option.some.inj this
 let φ2:Locs:=fun x=>if x=n then some l1 else if x=n+1 then some l2 else φ x
 have hφ2:φ2 n=some l1:=by simp [φ2]
 have hφ21:φ2 (n+1)=some l2:=by show (if n+1=n then some l1 else if n+1=n+1 then some l2 else φ (n+1))=some l2; rw [if_neg (by omega),if_pos rfl]
 have hφ3:∀ {x:Nat},x≠n→x≠n+1→φ2 x=φ x:=fun {x} h1 h2=>by simp only [φ2]; rw [if_neg h1,if_neg h2]
 have hφ4:∀ x y,φ x=some y→φ2 x=some y:=fun x y hx=>by
  rw [hφ3 (fun e=>by rw [e,hφn] at hx; cases hx) fun e=>by rw [e,hφn1] at hx; cases hx]; exact hx
 have hkn:=hnone hk
 have src:∀ {x:Nat} {bx:Bx},(((((h.del i).del j).upd k (kidB q n (n+1))).upd n b1').upd (n+1) b2') x=some bx →
  (x=n+1∧bx=b2') ∨ (x=n∧bx=b1') ∨ (x=k∧bx=kidB q n (n+1)) ∨ (x≠k∧x≠i∧x≠j∧h x=some bx):=by
  intro x bx hx
  by_cases e1:x=n+1
  · subst e1; rw [Heap.upd_same] at hx; exact .inl ⟨rfl,(Option.some.inj hx).symm⟩
  rw [Heap.upd_ne _ _ e1] at hx
  by_cases e2:x=n
  · subst e2; rw [Heap.upd_same] at hx; exact .inr (.inl ⟨rfl,(Option.some.inj hx).symm⟩)
  rw [Heap.upd_ne _ _ e2] at hx
  by_cases e3:x=k
  · subst e3; rw [Heap.upd_same] at hx; exact .inr (.inr (.inl ⟨rfl,(Option.some.inj hx).symm⟩))
  rw [Heap.upd_ne _ _ e3] at hx
  obtain⟨e4,hx⟩:=Heap.del_some hx
  obtain⟨e5,hx⟩:=Heap.del_some hx
  exact .inr (.inr (.inr ⟨e3,e5,e4,hx⟩))
 have hold:∀ {x:Nat} {bx:Bx} {lx:Loc} {g:Nat},x≠k→x≠i→x≠j→h x=some bx→φ x=some lx→lx.has g→¬ C1.G g:=by
  intro x bx lx g h1 h2 h3 hx hlx hg hG
  rcases hG with hg' | hg' | hg'
  · exact h1 (s.sep x k _ _ _ _ g hx hk hlx hlk hg hg')
  · exact h2 (s.sep x i _ _ _ _ g hx hi hlx hli hg hg')
  · exact h3 (s.sep x j _ _ _ _ g hx hj hlx hlj hg hg')
 have hnew:∀ {lx:Loc} {g:Nat},(w.heap.size≤g ∨ C1.G g)→C.w0.heap.size≤g ∨ C.G g:=fun {lx g} h1=>h1.elim (fun h1=>.inl (Nat.le_trans s.size h1)) (hG g)
 refine⟨v,r,b1',b2',F',φ2,rfl,⟨hrp,hp1',hp2',hR⟩,hvr.pure hrp,?_⟩
 refine { nt := s.nt, glob := s'.glob, marks := s.marks.mono (fun g hg => by rw [s'.kept g (Array.getElem?_eq_some_iff.1 hg).1 (fun hg' => hcells g hg' _ hg rfl)]; exact hg), loc0 := fun i x hx => hφ4 i x (s.loc0 i x hx), free := fun x hx => by rw [hφ3 hx.2.1 hx.2.2]; exact s.free x hx.1, env := fun j p hp => ⟨(s.env j p hp).1, (s.env j p hp).2.mono s'.ext hφ4⟩, froz := s'.froz, ext := fun x v hx => s'.ext _ _ (s.ext x v hx),
          old:=fun x hx hg=>?_,os:=s'.os.trans s.os,tape:=s'.tape.trans s.tape,output:=s'.output.trans s.output,size:=Nat.le_trans s.size s'.size,kept:=fun g hk hg=>?_,live:=fun x bx hx=>?_,sep:=fun x y bx bY lx ly g hx hy hlx hly hgx hgy=>?_ }
 · have hx2 : x.block < w.heap.size := Nat.lt_of_lt_of_le hx s.size
   rw [s'.old x hx2 fun hg'=>(hG _ hg').elim (fun h1=>absurd hx (Nat.not_lt.2 h1)) hg]
   exact s.old x hx hg
 · rw [s'.kept g (Nat.lt_of_lt_of_le hk s.size) fun hg' => (hG _ hg').elim (fun h1 => absurd hk (Nat.not_lt.2 h1)) hg]
   exact s.kept g hk hg
 · rcases src hx with ⟨rfl, rfl⟩ | ⟨rfl, rfl⟩ | ⟨rfl, rfl⟩ | ⟨h1, h2, h3, hx⟩
   · exact⟨l2,hφ21,m22.names hp2',fun g hg=>⟨hnew (lx:=l2) (m23 g hg).1,(m23 g hg).2⟩⟩
   · exact⟨l1,hφ2,m12.names hp1',fun g hg=>⟨hnew (lx:=l1) (m13 g hg).1,(m13 g hg).2⟩⟩
   · exact⟨l0,hφ4 _ _ hlk,m02.kid (by rw [m11,hφ2]) (by rw [m21,hφ21]) hq,fun g hg=>⟨(hhk g hg).1,(m03 g hg).2⟩⟩
   · obtain ⟨lx, g1, g2, g3⟩ := s.live x bx hx
     have hout:∀ g,lx.has g→¬ C1.G g:=fun g hg=>hold h1 h2 h3 hx g1 hg
     have hblk:∀ g,lx.has g→w'.heap[g]?=w.heap[g]?:=fun g hg=>s'.kept g (s.has_lt hx g1 hg) (hout g hg)
     have hne:=hnone hx
     refine⟨lx,by rw [hφ3 hne.1 hne.2]; exact g1,g2.mono s'.ext hφ4 hblk,fun g hg=>⟨(g3 g hg).1,fun z hz=>?_⟩⟩
     rw [s'.old z (by rw [hz]; exact s.has_lt hx g1 hg) (by rw [hz]; exact hout g hg)]
     exact (g3 g hg).2 z hz
 · have cls : ∀ {x : Nat} {bx : Bx} {lx : Loc} {g : Nat}, (((((h.del i).del j).upd k (kidB q n (n + 1))).upd n b1').upd (n + 1) b2') x = some bx → φ2 x = some lx → lx.has g →
    (h x=some bx∧φ x=some lx∧g<w.heap.size∧¬ C1.G g) ∨ ((w.heap.size≤g ∨ C1.G g)∧∃ y b',h' y=some b'∧φ' y=some lx∧((x=n+1∧y=j2) ∨ (x=n∧y=j1) ∨ (x=k∧y=0))):=by
    intro x bx lx g hx hlx hg
    rcases src hx with⟨rfl,rfl⟩|⟨rfl,rfl⟩|⟨rfl,rfl⟩|⟨h1,h2,h3,hx⟩
    · rw [hφ21] at hlx; cases hlx
      exact .inr ⟨(m23 g hg).1,j2,_,hh2,m21,.inl ⟨rfl,rfl⟩⟩
    · rw [hφ2] at hlx; cases hlx
      exact .inr ⟨(m13 g hg).1,j1,_,hh1,m11,.inr (.inl ⟨rfl,rfl⟩)⟩
    · rw [hφ4 _ _ hlk] at hlx; cases hlx
      exact .inr ⟨(m03 g hg).1,0,_,hh0,m01,.inr (.inr ⟨rfl,rfl⟩)⟩
    · have hne := hnone hx
      rw [hφ3 hne.1 hne.2] at hlx
      exact .inl ⟨hx,hlx,s.has_lt hx hlx hg,hold h1 h2 h3 hx hlx hg⟩
   rcases cls hx hlx hgx with⟨a1,a2,a3,a4⟩|⟨a1,y1,c1,a2,a3,a4⟩<;>rcases cls hy hly hgy with⟨d1,d2,d3,d4⟩|⟨d1,y2,c2,d2,d3,d4⟩
   · exact s.sep x y bx bY lx ly g a1 d1 a2 d2 hgx hgy
   · rcases d1 with d1 | d1
     · omega
     · exact absurd d1 a4
   · rcases a1 with a1 | a1
     · omega
     · exact absurd a1 d4
   · have := s'.sep y1 y2 c1 c2 lx ly g a2 d2 a3 d3 hgx hgy
     subst this
     rcases a4 with⟨rfl,rfl⟩|⟨rfl,rfl⟩|⟨rfl,rfl⟩<;>rcases d4 with⟨rfl,e⟩|⟨rfl,e⟩|⟨rfl,e⟩<;>first|rfl|omega
theorem K2Spec.frame {f:FuncId} {pre post q:List PV} {b1 b2:Bx} {R:PV→Bx→Bx→Prop} (hs:K2Spec P f pre post q b1 b2 R) (hpre:pureL pre) (hpost:pureL post) (hq:pureL q) (hp1:pureLL b1.elems) (hp2:pureLL b2.elems) {k i j n:Nat} (hk:h k=some (kidB q i j)) (hi:h i=some b1) (hj:h j=some b2) (hij:i≠j) (hik:i≠k) (hjk:j≠k) :
 ISpec P f n (pre++.ptr k 0 0 :: post) h fun n' r h'=>∃ b1' b2',n'=n+2∧h'=((((h.del i).del j).upd k (kidB q n (n+1))).upd n b1').upd (n+1) b2'∧r.pure∧pureLL b1'.elems∧pureLL b2'.elems∧R r b1' b2':=by
 refine⟨hs.1,fun C e F φ a w vs s hv=>(hs.run hpre hpost hq hp1 hp2 (n:=n) (Nat.le_refl n) (Nat.le_succ n) hk hi hj hij hik hjk s hv).mono ?_⟩
 rintro en w' ⟨v,r,b1',b2',F',φ',rfl,⟨h1,h2,h3,h4⟩,hr,s'⟩
 exact⟨v,r,n+2,_,F',φ',rfl,⟨b1',b2',rfl,rfl,h1,h2,h3,h4⟩,hr,{ s' with free:=fun i hi=>s'.free i ⟨by omega,by omega,by omega⟩ }⟩
theorem Zak {f:Operand} {args:List Operand} {g:FuncId} {caps as0 pre post q:List PV} {b1 b2:Bx} {k i j:Nat} {R:PV→Bx→Bx→Prop} {d:Option Nat} {os:List AOper} {n:Nat} {K:Nat→Env→Heap→Prop} (hs:K2Spec P g pre post q b1 b2 R) (hf:ev e f=some (.fn g caps)) (ha:evs e args=some as0) (hr:as0++caps=pre++.ptr k 0 0 :: post) (hk:h k=some (kidB q i j)) (hi:h i=some b1) (hj:h j=some b2) (hij:i≠j) (hik:i≠k) (hjk:j≠k) (hpre:pureL pre) (hpost:pureL post) (hq:pureL q) (hp1:pureLL b1.elems) (hp2:pureLL b2.elems)
 (hK:∀ r b1' b2',r.pure→pureLL b1'.elems→pureLL b2'.elems→R r b1' b2'→opsK P os (n+2) (updO e d r) (((((h.del i).del j).upd k (kidB q n (n+1))).upd n b1').upd (n+1) b2') K):opsK P (⟨d,.call f args,none⟩ :: os) n e h K:=by
 refine Z1j hf ha (R:=fun n' r h'=>∃ b1' b2',n'=n+2∧h'=((((h.del i).del j).upd k (kidB q n (n+1))).upd n b1').upd (n+1) b2'∧r.pure∧pureLL b1'.elems∧pureLL b2'.elems∧R r b1' b2') (by rw [hr]; exact hs.frame hpre hpost hq hp1 hp2 hk hi hj hij hik hjk) ?_
 rintro n' r h' ⟨b1',b2',rfl,rfl,h1,h2,h3,h4⟩
 exact hK r b1' b2' h1 h2 h3 h4
theorem Zbn {f nt:Nat} {ac:ACode} {rs:List ARes} (hf:FnOk P f nt ac rs) {pre post q:List PV} {b1 b2:Bx} {R:PV→Bx→Bx→Prop} (hn:(pre++.ptr 0 0 0 :: post).length≤nt)
 (hk:∀ C:Ctx,C.dom 3→aw P C ac (retI rs fun n' r h'=>∃ j1 j2 b1' b2',j1≠j2∧j1≠0∧j2≠0∧h' 0=some (kidB q j1 j2)∧h' j1=some b1'∧h' j2=some b2'∧r.pure∧pureLL b1'.elems∧pureLL b2'.elems∧R r b1' b2') 3 (argEnv (pre++.ptr 0 0 0 :: post)) (heapL [(0,kidB q 1 2),(1,b1),(2,b2)])):K2Spec P f pre post q b1 b2 R :=
 Z1i hf hn hk
end
end Go.Proofs.YtcgaocnjebhimaaGreatDoor
namespace Go.Proofs.YtcgaocnjebhimaaGreatDoor
open Go.RowKit
attribute [local irreducible] aw opsK dK
def hwC (e:KE):List PV := [.val (.int .i64 e.2.1),.val (.int .i64 (e.2.2:Int))]
theorem ZfD (e:KE):pureL (hwC e):=⟨trivial,trivial,trivial⟩
theorem ZZ (l:List KE):pureLL (l.map hwC):=Ze ZfD l
def AddR (ks:List KE) (e:KE) (L:Int) (ks':List KE) (v:PV):Prop:=(covL (kcs ks) e.1=true∧ks'=ks∧v=.val (.int .i64 0)) ∨ (covL (kcs ks) e.1=false∧ks'=ks ++ [e]∧v=.val (.int .i64 (if L<((ks.length+1:Nat):Int) then 3 else 0)))
set_option maxRecDepth 100000 in
set_option maxHeartbeats 4000000 in
theorem Zbo (ks:List KE) (h64:∀ c∈kcs ks,Ok64 c) (hl:ks.length≤1000) (e:KE) (he:Ok64 e.1) (L:Int):K2Spec Tryz.prog 20 [] [cuP e.1,.agg (hwC e)] [.val (.int .i64 L)] ⟨2,(kcs ks).map cuC⟩ ⟨2,ks.map hwC⟩ fun v b1 b2=>∃ ks',b1=⟨2,(kcs ks').map cuC⟩∧b2=⟨2,ks'.map hwC⟩∧AddR ks e L ks' v:=by
 have hkl:(kcs ks).length=ks.length:=by simp [kcs]
 have hcs:=Zcq ((kcs ks).length+1) (kcs ks) (Nat.lt_succ_self _) (by omega) h64 e.1 false he
 refine Zbn ok20 (Nat.le_of_ble_eq_true rfl) fun C hC=>?_
 refine Zl ?_
 refine Za ?_
 refine Z5 rfl rfl rfl ?_
 refine Z5 rfl rfl rfl ?_
 iterate 4 (first|refine st ?_|(apply B<;>intro hb<;>try cases hb))
 refine Zez [] 1 (by decide) ?_
 refine gd 12 ⟨?_⟩
 refine Zhh hcs rfl rfl (j:=1) rfl rfl rfl (Z0 _) ⟨Zp _,Z0 _,trivial⟩ ?_
 cases hcov:covL (kcs ks) e.1
 case true =>
  refine go ?_
  exact⟨_,_,rfl,.inl rfl,1,2,_,_,by decide,by decide,by decide,rfl,rfl,rfl,trivial,Z0 _,ZZ _,ks,rfl,rfl,.inl ⟨hcov,rfl,rfl⟩⟩
 repeat' (first|refine Z2M [] [(1,256)] [4194303,4194303,4194303,4194303,4194303,4194303,4194303,4194303,4194047,4194303,4194303,4194303,4194303,4194303,4194303,4194303,4194303,4194303,4194303,4194303,4194303,4194303] (by kernel_rfl) ?_|refine Z9o 21 ?_|(first|refine st ?_|(apply B<;>intro hb<;>try cases hb)))
 refine At.mk ?_
 refine Zi (Zs (k:=1) (m := [cuC e.1]) (fl:=true) rfl rfl rfl (fun q hq=>by rw [List.mem_singleton] at hq; subst hq; rfl) rfl (by
  show (((kcs ks).map cuC).length+1)*48≤_
  rw [List.length_map];omega)) rfl rfl ?_
 refine gd 28 ⟨?_⟩
 refine Zi (Zs (k:=2) (m := [hwC e]) (fl:=true) rfl rfl rfl (fun q hq=>by rw [List.mem_singleton] at hq; subst hq; rfl) rfl (by
  show ((ks.map hwC).length+1)*16≤_
  rw [List.length_map];omega)) rfl rfl ?_
 have hp1:pureLL ((kcs ks).map cuC ++ [cuC e.1]):=by rw [← List.map_singleton,← List.map_append]; exact Z0 _
 have hp2:pureLL (ks.map hwC ++ [hwC e]):=by rw [← List.map_singleton,← List.map_append]; exact ZZ _
 have e1:(kcs ks).map cuC ++ [cuC e.1]=(kcs (ks ++ [e])).map cuC:=by rw [Z80,List.map_append]; rfl
 have e2:ks.map hwC ++ [hwC e]=(ks ++ [e]).map hwC:=by rw [List.map_append]; rfl
 have hlen:(((kcs ks).map cuC ++ [cuC e.1]).length:Int)=((ks.length+1:Nat):Int):=by simp [hkl]
 rw [e1] at hp1 hlen ⊢
 rw [e2] at hp2 ⊢
 refine gd 42 ⟨?_⟩
 by_cases hL:L<((ks.length+1:Nat):Int)
 · refine Zi (Z9 (v := true) rfl (decide_eq_true (by rw [hlen]; exact hL))) rfl rfl ?_
   refine go ?_
   exact⟨_,_,rfl,.inl rfl,17,24,_,_,by decide,by decide,by decide,rfl,rfl,rfl,trivial,hp1,hp2,ks ++ [e],rfl,rfl,.inr ⟨hcov,rfl,by rw [if_pos hL]; rfl⟩⟩
 · refine Zi (Z9 (v := false) rfl (decide_eq_false (by rw [hlen]; exact hL))) rfl rfl ?_
   refine gd 49 ⟨?_⟩
   refine Z2b rfl ?_
   refine Zi (Z9 (v:=false) rfl (decide_eq_false (by rw [hlen];omega))) rfl rfl ?_
   refine go ?_
   exact⟨_,_,rfl,.inl rfl,17,24,_,_,by decide,by decide,by decide,rfl,rfl,rfl,trivial,hp1,hp2,ks ++ [e],rfl,rfl,.inr ⟨hcov,rfl,by rw [if_neg hL]; rfl⟩⟩
theorem PathK.len {t:PB} {ks:List KE} (hk:KInv t ks) {i:Nat} {p:List Nat} (hp:PathK ks i p):p.length≤i:=by
 induction hp with
 | stop _ _=>exact Nat.zero_le _
 | step he hr _ ih =>
   rcases hk.how _ _ he with h4|⟨r',to',x,e',h4,h5,h6,h7,h8⟩
   · rw [hr] at h4; simp only at h4; omega
   · rw [hr] at h4
     obtain⟨h41,h42⟩:=Prod.mk.inj h4
     subst h42
     rw [List.length_cons]; omega
def kpC (ks:List KE) (L:Int):List PV := [.vec ((kcs ks).map cuC) false,.vec (ks.map hwC) false,.val (.int .i64 L)]
theorem Z83 (ks:List KE) (L:Int):pureL (kpC ks L):=⟨Z0 _,ZZ _,trivial,trivial⟩
set_option maxRecDepth 100000 in
set_option maxHeartbeats 4000000 in
theorem Zeb {t:PB} (hn:t.n≤5) {ks:List KE} (hk:KInv t ks) (L:Int) {i:Nat} {p:List Nat} (hp:PathK ks i p):Spec Tryz.prog 22 [.cp (kpC ks L),.val (.int .i64 (i:Int))] (· = .vec (inL p) false):=by
 have hkp:=Z83 ks L
 have hkl:=hk.len
 have h32:2 ^ t.n≤32:=Nat.pow_le_pow_right (n:=2) (by decide) hn
 have hpl:p.length≤i:=hp.len hk
 have hil:i<ks.length:=by cases hp<;>exact (List.getElem?_eq_some_iff.1 (by assumption)).1
 refine Z2 ok22 (Nat.le_of_ble_eq_true rfl) fun C hC=>?_
 refine go ?_
 refine Z2A (Z6G (k:=5) rfl 1 (by decide)) ?_
 refine ZE hC (fun (z:Nat×List Nat×List Nat)=>PathK ks z.1 z.2.2∧p=z.2.1++z.2.2) (fun z=>z.2.2.length) 1 (fun z => [(0,.cp (kpC ks L)),(1,.val (.int .i64 (z.1:Int))),(5,.own 0)]) (fun z => [(0,⟨1,inL z.2.1⟩)]) (Nat.zero_le _) (i,[],p) ⟨hp,rfl⟩ (fun i=>i) (fun _ _=>rfl) Zr
  ⟨⟨_,rfl,.pure _ hkp⟩,⟨_,rfl,.pure _ trivial⟩,⟨_,rfl,.own 0 (by decide)⟩,trivial⟩ ⟨⟨by decide,_,rfl,.same _ trivial⟩,trivial⟩ ?_
 rintro⟨j,out,q⟩ ⟨hq,hpq⟩
 dsimp only at hq hpq ⊢
 have hol:out.length≤32:=by rw [hpq,List.length_append] at hpl; omega
 cases hq with
 | stop he hr =>
   rename_i e
   obtain⟨hjl,hje⟩:=List.getElem?_eq_some_iff.1 he
   refine gd 11 ⟨?_⟩
   refine Z3 (Zn (xs:=ks) (g:=hwC) rfl rfl j rfl hjl rfl) rfl rfl ?_
   rw [hje]
   refine gd 14 ⟨?_⟩
   refine Z3 (Z9 (v:=false) rfl (decide_eq_false (by omega))) rfl rfl ?_
   repeat' (first|refine Zc (Zo (k:=5) rfl rfl (Z1x _)) ?_|(first|refine st ?_|(apply B<;>intro hb<;>try cases hb)))
   rw [List.append_nil] at hpq
   exact Z6 rfl (Z1x _) (by rw [hpq])
 | step he hr hq =>
   rename_i r to e q
   obtain⟨hjl,hje⟩:=List.getElem?_eq_some_iff.1 he
   have h1:hwC e = [.val (.int .i64 (r:Int)),.val (.int .i64 (to:Int))]:=by unfold hwC; rw [hr]
   refine gd 11 ⟨?_⟩
   refine Z3 (Zn (xs:=ks) (g:=hwC) rfl rfl j rfl hjl rfl) rfl rfl ?_
   rw [hje,h1]
   refine gd 14 ⟨?_⟩
   refine Z3 (Z9 (v:=true) rfl (decide_eq_true (by omega))) rfl rfl ?_
   refine gd 21 ⟨?_⟩
   refine Z3 (Zn (xs:=ks) (g:=hwC) rfl rfl j rfl hjl rfl) rfl rfl ?_
   rw [hje,h1]
   refine gd 25 ⟨?_⟩
   refine ZD (Zs (k:=0) (m := [inC1 r]) (fl:=true) rfl rfl rfl (fun q hq=>by rw [List.mem_singleton] at hq; subst hq; rfl) rfl (by
    show ((inL out).length+1)*8≤_
    rw [Z40];omega)) rfl rfl ?_
   refine gd 31 ⟨?_⟩
   refine Z3 (Zn (xs:=ks) (g:=hwC) rfl rfl j rfl hjl rfl) rfl rfl ?_
   rw [hje,h1]
   refine go ?_
   refine⟨(to,out ++ [r],q),mv 0 1,⟨hq,by rw [hpq,List.append_assoc]; rfl⟩,by show q.length<q.length+1; omega,fun i hi=>absurd hi (Nat.not_lt_zero i),Zw rfl,
    ⟨⟨_,rfl,.pure _ hkp⟩,⟨_,rfl,.pure _ trivial⟩,⟨_,rfl,.own 0 (by decide)⟩,trivial⟩,⟨⟨by decide,_,rfl,?_⟩,trivial⟩⟩
   show RenB _ _ ⟨1,inL out ++ [inC1 r]⟩ ⟨1,inL (out ++ [r])⟩
   rw [Zfy]
   exact .same _ (Z1x _)
theorem Zec {ks:List KE} {i:Nat} {e:KE} (he:ks[i]?=some e):((kcs ks).map cuC).getD i []=cuC e.1∧i<((kcs ks).map cuC).length:=by
 obtain⟨h1,rfl⟩:=List.getElem?_eq_some_iff.1 he
 refine⟨?_,by simp [kcs,h1]⟩
 simp [kcs,List.getD_eq_getElem?_getD,h1]
def ExpR (t:PB) (ks:List KE) (e:KE) (L:Int) (ks':List KE) (v:PV):Prop:=ks <+: ks'∧KInv t ks'∧((v=.val (.int .i64 0)∧ExpA t e.1 ks') ∨ (v=.val (.int .i64 3)∧L<(ks'.length:Int)))
def CovAll (l:List Cu) (ks:List KE):Prop:=∀ c∈l,∀ S,hoC c S=true→soC (kcs ks) S=true
theorem AddR.keep {t:PB} {ks ks':List KE} {e:KE} {L:Int} {v:PV} (ha:AddR ks e L ks' v) (hk:KInv t ks) (hm:InM 62 e.1∧InM (mkN t.n) e.1∧emC e.1=false)
 (hh : (e.2.1 = -1 ∧ ∀ S, InS t S → hoC e.1 S = true → goodB t S = true ∧ reachB t S = true) ∨
   ∃ (r to:Nat) (x:RU) (e':KE),e.2=((r:Int),to)∧t.rs[r]?=some x∧ks[to]?=some e'∧∀ S,InS t S→hoC e.1 S=true→goodB t S=true∧stepR t x S=true∧hoC e'.1 (nextR x S)=true) :
 ks <+: ks'∧KInv t ks'∧(∀ S,hoC e.1 S=true→soC (kcs ks') S=true)∧(v=.val (.int .i64 0) ∨ (v=.val (.int .i64 3)∧L<(ks'.length:Int))):=by
 rcases ha with⟨h1,rfl,rfl⟩|⟨h1,rfl,rfl⟩
 · exact⟨List.prefix_refl _,hk,fun S hS=>Zha hk h1 hS,.inl rfl⟩
 · refine ⟨List.prefix_append _ _, hk.add hm h1 hh, fun S hS => by rw [Z80, Z5s, hS, Bool.or_true], ?_⟩
   by_cases hL:L<((ks.length+1:Nat):Int)
   · exact .inr ⟨by rw [if_pos hL],by rw [List.length_append]; exact hL⟩
   · exact .inl (by rw [if_neg hL])
theorem low3 {a b i:Nat} (hi:i<3):mv 3 a (mv 4 b i)=i:=by
 rw [Z3d (m:=3) (by decide) i hi,Z3d (m:=3) (Nat.le_refl 3) i hi]
set_option maxRecDepth 100000 in
set_option maxHeartbeats 8000000 in
theorem Zal {t:PB} (h:PbOk t) (hn:t.n≤5) (S:List Nat) {ks:List KE} (hk:KInv t ks) (i:Nat) (e:KE) (he:ks[i]?=some e) (L:Int):K2Spec Tryz.prog 23 [.cp (srC t S)] [.val (.int .i64 (i:Int))] [.val (.int .i64 L)] ⟨2,(kcs ks).map cuC⟩ ⟨2,ks.map hwC⟩ fun v b1 b2=>∃ ks',b1=⟨2,(kcs ks').map cuC⟩∧b2=⟨2,ks'.map hwC⟩∧ExpR t ks e L ks' v:=by
 have hsr:=Z3G t S
 have hrb:=h.rl
 have hrl:(t.rs.map ruP).length=t.rs.length:=by simp
 have h32:2 ^ t.n≤32:=Nat.pow_le_pow_right (n:=2) (by decide) hn
 refine Zbn ok23 (Nat.le_of_ble_eq_true rfl) fun C hC=>?_
 refine go ?_
 refine ZE hC (fun (z:Nat×List KE)=>z.1≤t.rs.length∧ks <+: z.2∧KInv t z.2∧∀ j x,j<z.1→t.rs[j]?=some x→Exp1 t e.1 x z.2) (fun z=>t.rs.length-z.1) 5 (fun z => [(0,.cp (srC t S)),(1,.ptr 0 0 0),(2,.val (.int .i64 (i:Int))),(18,.val (.int .i64 (t.rs.length:Int))),(19,.val (.int .i64 (z.1:Int)))])
  (fun z => [(0,⟨3,[[.own 3,.own 4,.val (.int .i64 L)]]⟩),(3,⟨2,(kcs z.2).map cuC⟩),(4,⟨2,z.2.map hwC⟩)]) (by decide) (0,ks) ⟨Nat.zero_le _,List.prefix_refl _,hk,fun j x hj=>absurd hj (Nat.not_lt_zero j)⟩ (fun i=>mv 3 1 (mv 4 2 i)) (fun i hi=>low3 hi) (Zw rfl)
  ⟨⟨_,rfl,.pure _ hsr⟩,⟨_,rfl,.ptr (ρ:=fun i=>mv 3 1 (mv 4 2 i)) 0 0 0 (by decide)⟩,⟨_,rfl,.pure _ trivial⟩,⟨_,by rw [← hrl]; rfl,.pure _ trivial⟩,⟨_,rfl,.pure _ trivial⟩,trivial⟩
  ⟨⟨by decide,_,rfl,RenB.single ⟨.own (ρ:=fun i=>mv 3 1 (mv 4 2 i)) 3 (by decide),.own (ρ:=fun i=>mv 3 1 (mv 4 2 i)) 4 (by decide),.pure _ trivial,trivial⟩ rfl⟩,⟨by decide,_,rfl,.same _ (Z0 _)⟩,⟨by decide,_,rfl,.same _ (ZZ _)⟩,trivial⟩ ?_
 rintro⟨r,k1⟩ ⟨hr,hpre,hk1,hex⟩
 dsimp only at hr hpre hk1 hex ⊢
 have hinc:IntKind.i64.wrap ((r:Int)+1)=((r+1:Nat):Int):=IntWalk.i64_in _ ⟨by omega,by omega⟩
 refine gd 20 ⟨?_⟩
 by_cases hrt:r<t.rs.length
 case neg =>
  refine Z3 (Z9 (v:=false) rfl (decide_eq_false (by omega))) rfl rfl ?_
  refine go ?_
  refine⟨_,_,rfl,.inl rfl,3,4,_,_,by decide,by decide,by decide,rfl,rfl,rfl,trivial,Z0 _,ZZ _,k1,rfl,rfl,hpre,hk1,.inl ⟨rfl,fun x hx=>?_⟩⟩
  obtain⟨j,hj,rfl⟩:=List.mem_iff_getElem.1 hx
  exact hex j _ (by omega) (List.getElem?_eq_getElem hj)
 refine Z3 (Z9 (v:=true) rfl (decide_eq_true (Int.ofNat_lt.2 hrt))) rfl rfl ?_
 have he1:=Z2w hpre he
 obtain⟨g1,g2⟩:=Zec he1
 have hem:=hk1.mem e (List.mem_of_getElem? he1)
 have hro:=h.rs _ (List.getElem_mem hrt)
 have hxr:=List.getElem?_eq_getElem hrt
 refine gd 29 ⟨?_⟩
 refine Z3 (Zv (k:=.i64) rfl rfl rfl i rfl g2 rfl) rfl rfl ?_
 refine gd 30 ⟨?_⟩
 refine Z3 (Z1L (p:=cuP e.1) rfl rfl g2 (by show cutAt true 2 0 (((kcs k1).map cuC).getD i [])=_; rw [g1]; rfl)) rfl rfl ?_
 refine gd 32 ⟨?_⟩
 refine Z4 (Z5d h S e.1 hem.1 r hrt) rfl rfl rfl ⟨hsr,Zp _,trivial,trivial⟩ rfl ?_
 generalize t.rs[r]=x at hro hxr ⊢
 have hbi:=Zh8 h hro hem.1
 have hbn:=Zhs h hro hem.2.1
 have hbs:=fun S (hS:InS t S)=>Zh7 h hro hem.1 hS
 generalize hl0:bfL t x e.1=l at hbi hbn hbs ⊢
 obtain⟨hbi,hbl⟩:=hbi
 have hll:(l.map cuC).length=l.length:=by simp
 refine go ?_
 refine ZE hC (fun (z:Nat×List KE)=>z.1≤l.length∧ks <+: z.2∧k1 <+: z.2∧KInv t z.2∧CovAll (l.take z.1) z.2) (fun z=>l.length-z.1) 5 (fun z => [(0,.cp (srC t S)),(1,.ptr 0 0 0),(2,.val (.int .i64 (i:Int))),(7,.val (.int .i64 (r:Int))),(18,.val (.int .i64 (t.rs.length:Int))),(19,.val (.int .i64 (r:Int))),(38,.vec (l.map cuC) false),(39,.val (.int .i64 (l.length:Int))),(40,.val (.int .i64 (z.1:Int)))])
  (fun z => [(0,⟨3,[[.own 3,.own 4,.val (.int .i64 L)]]⟩),(3,⟨2,(kcs z.2).map cuC⟩),(4,⟨2,z.2.map hwC⟩)]) (by decide) (0,k1) ⟨Nat.zero_le _,hpre,List.prefix_refl _,hk1,fun c hc=>(by cases hc)⟩ (fun i=>i) (fun _ _=>rfl) Zr
  ⟨⟨_,rfl,.pure _ hsr⟩,⟨_,rfl,.ptr (ρ:=fun i=>i) 0 0 0 (by decide)⟩,⟨_,rfl,.pure _ trivial⟩,⟨_,rfl,.pure _ trivial⟩,⟨_,rfl,.pure _ trivial⟩,⟨_,rfl,.pure _ trivial⟩,⟨_,rfl,.pure _ (Z0 _)⟩,⟨_,by rw [← hll]; rfl,.pure _ trivial⟩,⟨_,rfl,.pure _ trivial⟩,trivial⟩
  ⟨⟨by decide,_,rfl,RenB.single ⟨.own (ρ:=fun i=>i) 3 (by decide),.own (ρ:=fun i=>i) 4 (by decide),.pure _ trivial,trivial⟩ rfl⟩,⟨by decide,_,rfl,.same _ (Z0 _)⟩,⟨by decide,_,rfl,.same _ (ZZ _)⟩,trivial⟩ ?_
 rintro⟨j,k2⟩ ⟨hj,hpre2,hpre3,hk2,hcov⟩
 dsimp only at hj hpre2 hpre3 hk2 hcov ⊢
 have hjnc:IntKind.i64.wrap ((j:Int)+1)=((j+1:Nat):Int):=IntWalk.i64_in _ ⟨by omega,by omega⟩
 have hkl2:=hk2.len
 refine gd 41 ⟨?_⟩
 by_cases hjl:j<l.length
 case neg =>
  refine Z3 (Z9 (v:=false) rfl (decide_eq_false (by omega))) rfl rfl ?_
  refine go ?_
  have hjl:j=l.length:=by omega
  rw [hjl,List.take_length] at hcov
  refine⟨(r+1,k2),fun i=>i,⟨hrt,hpre2,hk2,fun j y hjr hy=>?_⟩,by show t.rs.length-(r+1)<t.rs.length-r; omega,fun _ _=>rfl,Zr,
   ⟨⟨_,rfl,.pure _ hsr⟩,⟨_,rfl,.ptr (ρ:=fun i=>i) 0 0 0 (by decide)⟩,⟨_,rfl,.pure _ trivial⟩,⟨_,rfl,.pure _ trivial⟩,⟨_,by show some _=some _; rw [hinc],.pure _ trivial⟩,trivial⟩,
   ⟨⟨by decide,_,rfl,RenB.single ⟨.own (ρ:=fun i=>i) 3 (by decide),.own (ρ:=fun i=>i) 4 (by decide),.pure _ trivial,trivial⟩ rfl⟩,⟨by decide,_,rfl,.same _ (Z0 _)⟩,⟨by decide,_,rfl,.same _ (ZZ _)⟩,trivial⟩⟩
  by_cases hjr2:j<r
  · exact (hex j y hjr2 hy).pre hpre3
  · obtain rfl : j = r := by omega
    rw [hxr] at hy; cases hy
    intro S hS hg hs hho
    have h1:=hbs S hS
    rw [hg,hs,hho] at h1
    obtain⟨c,hc,h2⟩:=List.any_eq_true.1 (show soC l S=true from h1)
    exact hcov c hc S h2
 refine Z3 (Z9 (v:=true) rfl (decide_eq_true (Int.ofNat_lt.2 hjl))) rfl rfl ?_
 have htk:=Z1b hjl
 have hcm:=List.getElem_mem hjl
 refine gd 42 ⟨?_⟩
 refine Z3 (Zn (xs:=l) (g:=cuC) rfl rfl j rfl hjl rfl) rfl rfl ?_
 generalize l[j]=c at htk hcm ⊢
 obtain⟨hc1,hc2⟩:=hbi c hcm
 have hc3:=hbn c hcm
 have hadd:=Zbo k2 hk2.c64 (by omega) (c,((r:Int),i)) (hc1.lt (by decide)) L
 refine gd 49 ⟨?_⟩
 refine Zak hadd rfl rfl rfl rfl rfl rfl (by decide) (by decide) (by decide) trivial ⟨Zp _,⟨trivial,trivial,trivial⟩,trivial⟩ ⟨trivial,trivial⟩ (Z0 _) (ZZ _) ?_
 rintro v b1' b2' - - - ⟨k3,rfl,rfl,ha⟩
 have hst:∀ S,InS t S→hoC c S=true→goodB t S=true∧stepR t x S=true∧hoC e.1 (nextR x S)=true:=fun S hS hc=>by
  have h1:=hbs S hS
  have h2:soC l S=true:=List.any_eq_true.2 ⟨c,hcm,hc⟩
  rw [h2] at h1
  have h1:=h1.symm
  rw [Bool.and_eq_true,Bool.and_eq_true] at h1
  exact h1
 obtain⟨p1,p2,p3,p4⟩:=ha.keep (t:=t) hk2 ⟨hc1,hc3,hc2⟩ (.inr ⟨r,i,x,e,rfl,hxr,Z2w hpre2 he,hst⟩)
 rcases p4 with rfl|⟨rfl,p4⟩
 · refine go ?_
   refine⟨(j+1,k3),fun i=>mv 3 6 (mv 4 7 i),⟨hjl,hpre2.trans p1,hpre3.trans p1,p2,?_⟩,by show l.length-(j+1)<l.length-j; omega,fun i hi=>low3 hi,Zw rfl,
    ⟨⟨_,rfl,.pure _ hsr⟩,⟨_,rfl,.ptr (ρ:=fun i=>mv 3 6 (mv 4 7 i)) 0 0 0 (by decide)⟩,⟨_,rfl,.pure _ trivial⟩,⟨_,rfl,.pure _ trivial⟩,⟨_,rfl,.pure _ trivial⟩,⟨_,rfl,.pure _ trivial⟩,⟨_,rfl,.pure _ (Z0 _)⟩,⟨_,rfl,.pure _ trivial⟩,⟨_,by show some _=some _; rw [hjnc],.pure _ trivial⟩,trivial⟩,
    ⟨⟨by decide,_,rfl,RenB.single ⟨.own (ρ:=fun i=>mv 3 6 (mv 4 7 i)) 3 (by decide),.own (ρ:=fun i=>mv 3 6 (mv 4 7 i)) 4 (by decide),.pure _ trivial,trivial⟩ rfl⟩,⟨by decide,_,rfl,.same _ (Z0 _)⟩,⟨by decide,_,rfl,.same _ (ZZ _)⟩,trivial⟩⟩
   rw [htk]
   intro c' hc' S hS
   rcases List.mem_append.1 hc' with hc' | hc'
   · exact Z81 p1 (hcov c' hc' S hS)
   · rw [List.mem_singleton] at hc'; subst hc'; exact p3 S hS
 · refine go ?_
   exact⟨_,_,rfl,.inl rfl,6,7,_,_,by decide,by decide,by decide,rfl,rfl,rfl,trivial,Z0 _,ZZ _,k3,rfl,rfl,hpre2.trans p1,p2,.inr ⟨rfl,p4⟩⟩
inductive SrRes (t:PB) (L:Int):PV→Prop
 | yes (p:List Nat) (hp:PlanOk t p) (hl:p.length≤32):SrRes t L (.tup [.vec (inL p) false,.vec [] true,.val (.bool true),.val (.int .i64 0)])
 | no (ks:List KE) (hk:NotFound t ks):SrRes t L (.tup [.vec [] true,.vec ((kcs ks).map cuC) false,.val (.bool false),.val (.int .i64 0)])
 | lim (hl:L<((2 ^ t.n:Nat):Int)):SrRes t L (.tup [.vec [] true,.vec [] true,.val (.bool false),.val (.int .i64 3)])
set_option maxRecDepth 100000 in
set_option maxHeartbeats 8000000 in
theorem Z44 {t:PB} (h:PbOk t) (hn:t.n≤5) (S:List Nat) (L:Int) (hL:1≤L):Spec Tryz.prog 6 [.agg (pbP t S),.val (.int .i64 L)] (SrRes t L):=by
 have hpp:=ZV t S
 have hsr:=Z3G t S
 have h32:2 ^ t.n≤32:=Nat.pow_le_pow_right (n:=2) (by decide) hn
 have hti:=Zh4 h
 have htn:=Zhp t
 have hts:=fun S (hS:InS t S)=>Zh5 h hS
 have hte:∀ c∈tgtL t,emC c=false:=fun c hc=>(Z1U hc).2
 have htg:=Z5a h S
 refine Z2 ok6 (Nat.le_of_ble_eq_true rfl) fun C hC=>?_
 refine Zl ?_
 refine Za ?_
 refine Z5 rfl rfl rfl ?_
 refine gd 18 ⟨?_⟩
 refine Z4 (Z5v h S) rfl rfl rfl ⟨hpp,trivial⟩ rfl ?_
 refine gd 23 ⟨?_⟩
 refine Z3 (Z9 (v:=false) rfl (decide_eq_false (by omega))) rfl rfl ?_
 refine gd 26 ⟨?_⟩
 refine Z4 (Z5c h S) rfl rfl rfl ⟨hpp,trivial⟩ rfl ?_
 refine gd 34 ⟨?_⟩
 refine Z4 htg rfl rfl rfl ⟨hpp,trivial⟩ rfl ?_
 generalize tgtL t=l at hti htn hts hte ⊢
 have hnl:(l.map cuC).length=l.length:=by simp
 refine gd 43 ⟨?_⟩
 refine Zc (ZM (id:=0) (i0:=0) (j0:=0) rfl (Nat.le_of_ble_eq_true rfl) (Nat.le_of_ble_eq_true rfl) rfl 2 (by decide) (by decide)) ?_
 refine Zc (ZM (id:=0) (i0:=0) (j0:=1) rfl (Nat.le_of_ble_eq_true rfl) (Nat.le_of_ble_eq_true rfl) rfl 2 (by decide) (by decide)) ?_
 refine go ?_
 refine ZE hC (fun (z:Nat×List KE)=>z.1≤l.length∧KInv t z.2∧CovAll (l.take z.1) z.2) (fun z=>l.length-z.1) 3 (fun z => [(2,.cp (pbP t S)),(9,.cp (srC t S)),(11,.ptr 0 0 0),(43,.vec (l.map cuC) false),(44,.val (.int .i64 (l.length:Int))),(45,.val (.int .i64 (z.1:Int)))])
  (fun z => [(0,⟨3,[[.own 1,.own 2,.val (.int .i64 L)]]⟩),(1,⟨2,(kcs z.2).map cuC⟩),(2,⟨2,z.2.map hwC⟩)]) (Nat.zero_le _) (0,[]) ⟨Nat.zero_le _,KInv.nil t,fun c hc=>(by cases hc)⟩ (fun i=>i) (fun _ _=>rfl) Zr
  ⟨⟨_,rfl,.pure _ hpp⟩,⟨_,rfl,.pure _ hsr⟩,⟨_,rfl,.ptr (ρ:=fun i=>i) 0 0 0 (by decide)⟩,⟨_,rfl,.pure _ (Z0 _)⟩,⟨_,by rw [← hnl]; rfl,.pure _ trivial⟩,⟨_,rfl,.pure _ trivial⟩,trivial⟩
  ⟨⟨by decide,_,rfl,RenB.single ⟨.own (ρ:=fun i=>i) 1 (by decide),.own (ρ:=fun i=>i) 2 (by decide),.pure _ trivial,trivial⟩ rfl⟩,⟨by decide,_,rfl,.same _ trivial⟩,⟨by decide,_,rfl,.same _ trivial⟩,trivial⟩ ?_
 rintro⟨j,k1⟩ ⟨hj,hk1,hcov⟩
 dsimp only at hj hk1 hcov ⊢
 have hjnc:IntKind.i64.wrap ((j:Int)+1)=((j+1:Nat):Int):=IntWalk.i64_in _ ⟨by omega,by omega⟩
 have hkl:=hk1.len
 refine gd 46 ⟨?_⟩
 by_cases hjl:j<l.length
 · refine Z3 (Z9 (v := true) rfl (decide_eq_true (Int.ofNat_lt.2 hjl))) rfl rfl ?_
   have htk:=Z1b hjl
   have hcm:=List.getElem_mem hjl
   refine gd 47 ⟨?_⟩
   refine Z3 (Zn (xs:=l) (g:=cuC) rfl rfl j rfl hjl rfl) rfl rfl ?_
   generalize l[j]=c at htk hcm ⊢
   have hc1:=hti.1 c hcm
   have hadd:=Zbo k1 hk1.c64 (by omega) (c,((-1:Int),0)) (hc1.lt (by decide)) L
   refine gd 52 ⟨?_⟩
   refine Zak hadd rfl rfl rfl rfl rfl rfl (by decide) (by decide) (by decide) trivial ⟨Zp _,⟨trivial,trivial,trivial⟩,trivial⟩ ⟨trivial,trivial⟩ (Z0 _) (ZZ _) ?_
   rintro v b1' b2' - - - ⟨k2,rfl,rfl,ha⟩
   have hst:∀ S,InS t S→hoC c S=true→goodB t S=true∧reachB t S=true:=fun S hS hc=>by
    have h1:=hts S hS
    rw [show soC l S=true from List.any_eq_true.2 ⟨c,hcm,hc⟩] at h1
    have h1:=h1.symm
    rw [Bool.and_eq_true] at h1
    exact h1
   obtain⟨p1,p2,p3,p4⟩:=ha.keep (t:=t) hk1 ⟨hc1,htn c hcm,hte c hcm⟩ (.inl ⟨rfl,hst⟩)
   rcases p4 with rfl|⟨rfl,p4⟩
   · refine go ?_
     refine⟨(j+1,k2),fun i=>mv 1 4 (mv 2 5 i),⟨hjl,p2,?_⟩,by show l.length-(j+1)<l.length-j; omega,fun i hi=>absurd hi (Nat.not_lt_zero i),Zw rfl,
      ⟨⟨_,rfl,.pure _ hpp⟩,⟨_,rfl,.pure _ hsr⟩,⟨_,rfl,.ptr (ρ:=fun i=>mv 1 4 (mv 2 5 i)) 0 0 0 (by decide)⟩,⟨_,rfl,.pure _ (Z0 _)⟩,⟨_,rfl,.pure _ trivial⟩,⟨_,by show some _=some _; rw [hjnc],.pure _ trivial⟩,trivial⟩,
      ⟨⟨by decide,_,rfl,RenB.single ⟨.own (ρ:=fun i=>mv 1 4 (mv 2 5 i)) 1 (by decide),.own (ρ:=fun i=>mv 1 4 (mv 2 5 i)) 2 (by decide),.pure _ trivial,trivial⟩ rfl⟩,⟨by decide,_,rfl,.same _ (Z0 _)⟩,⟨by decide,_,rfl,.same _ (ZZ _)⟩,trivial⟩⟩
     rw [htk]
     intro c' hc' S hS
     rcases List.mem_append.1 hc' with hc' | hc'
     · exact Z81 p1 (hcov c' hc' S hS)
     · rw [List.mem_singleton] at hc'; subst hc'; exact p3 S hS
   · refine go ?_
     have:=p2.len
     exact Z6 rfl ⟨trivial,trivial,trivial,trivial,trivial⟩ (.lim (by omega))
 have hjl:j=l.length:=by omega
 rw [hjl,List.take_length] at hcov
 have htin:TgtIn t k1:=fun S hS hg hr=>by
  have h1:=hts S hS
  rw [hg,hr] at h1
  obtain⟨c,hc,h2⟩:=List.any_eq_true.1 (show soC l S=true from h1)
  exact hcov c hc S h2
 refine Z3 (Z9 (v:=false) rfl (decide_eq_false (by omega))) rfl rfl ?_
 clear hcov hts
 refine go ?_
 refine ZE hC (fun (z:Nat×List KE)=>z.1≤z.2.length∧KInv t z.2∧TgtIn t z.2∧∀ i e,i<z.1→z.2[i]?=some e→ExpA t e.1 z.2∧hoC e.1 t.st=false) (fun z=>2 ^ t.n-z.1) 3 (fun z => [(2,.cp (pbP t S)),(9,.cp (srC t S)),(11,.ptr 0 0 0),(15,.val (.int .i64 (z.1:Int)))])
  (fun z => [(0,⟨3,[[.own 1,.own 2,.val (.int .i64 L)]]⟩),(1,⟨2,(kcs z.2).map cuC⟩),(2,⟨2,z.2.map hwC⟩)]) (Nat.zero_le _) (0,k1) ⟨Nat.zero_le _,hk1,htin,fun i e hi=>absurd hi (Nat.not_lt_zero i)⟩ (fun i=>i) (fun _ _=>rfl) Zr
  ⟨⟨_,rfl,.pure _ hpp⟩,⟨_,rfl,.pure _ hsr⟩,⟨_,rfl,.ptr (ρ:=fun i=>i) 0 0 0 (by decide)⟩,⟨_,rfl,.pure _ trivial⟩,trivial⟩
  ⟨⟨by decide,_,rfl,RenB.single ⟨.own (ρ:=fun i=>i) 1 (by decide),.own (ρ:=fun i=>i) 2 (by decide),.pure _ trivial,trivial⟩ rfl⟩,⟨by decide,_,rfl,.same _ (Z0 _)⟩,⟨by decide,_,rfl,.same _ (ZZ _)⟩,trivial⟩ ?_
 clear hk1 htin hkl hjnc
 rintro⟨i,ks⟩ ⟨hi,hk,htin,hex⟩
 dsimp only at hi hk htin hex ⊢
 have hkl:=hk.len
 have hinc:IntKind.i64.wrap ((i:Int)+1)=((i+1:Nat):Int):=IntWalk.i64_in _ ⟨by omega,by omega⟩
 have hcl:((kcs ks).map cuC).length=ks.length:=by simp [kcs]
 refine gd 63 ⟨?_⟩
 by_cases hil:i<ks.length
 case neg =>
  refine Zc (ZA (ob:=0) (id:=1) (i0:=0) (j0:=0) rfl rfl (by decide) (Z0 _) (Nat.le_of_ble_eq_true rfl) (Nat.le_of_ble_eq_true rfl) rfl) ?_
  refine Z3 (Z9 (v:=false) rfl (decide_eq_false (by rw [hcl];omega))) rfl rfl ?_
  refine go ?_
  refine Z6 rfl ⟨trivial,Z0 _,trivial,trivial,trivial⟩ (.no ks ⟨hk,htin,fun e he=>?_,?_⟩)
  · obtain ⟨m, hm, rfl⟩ := List.mem_iff_getElem.1 he
    exact (hex m _ (by omega) (List.getElem?_eq_getElem hm)).1
  · refine Bool.eq_false_iff.2 fun hso => ?_
    obtain⟨c,hc,hho⟩:=List.any_eq_true.1 hso
    obtain⟨e,he,rfl⟩:=List.mem_map.1 hc
    obtain⟨m,hm,rfl⟩:=List.mem_iff_getElem.1 he
    rw [(hex m _ (by omega) (List.getElem?_eq_getElem hm)).2] at hho
    cases hho
 refine Z3 (Z9 (v:=true) rfl (decide_eq_true (by rw [hcl];omega))) rfl rfl ?_
 obtain⟨e,he⟩:∃ e,ks[i]?=some e:=⟨_,List.getElem?_eq_getElem hil⟩
 obtain⟨g1,g2⟩:=Zec he
 have hem:=hk.mem e (List.mem_of_getElem? he)
 have hst64:=InS.lt h.n.2 (show InS t t.st from h.st)
 refine gd 71 ⟨?_⟩
 refine Zi (Zv (k:=.i64) rfl rfl rfl i rfl g2 rfl) rfl rfl ?_
 refine Zi (Z1L (p:=cuP e.1) rfl rfl g2 (by show cutAt true 2 0 (((kcs ks).map cuC).getD i [])=_; rw [g1]; rfl)) rfl rfl ?_
 refine gd 75 ⟨?_⟩
 refine Zy (Z3X e.1 t.st (hem.1.lt (by decide)) hst64) rfl rfl rfl ⟨Zp _,Z1 _,trivial⟩ ?_
 cases hho:hoC e.1 t.st
 case true =>
  obtain⟨p,hp⟩:=hk.path (i+1) i (Nat.lt_succ_self _) hil
  have hpl:=hp.len hk
  have hpo:=hk.plan h he hho hp
  refine gd 76 ⟨?_⟩
  refine Zc (ZA (ob:=0) (id:=1) (i0:=0) (j0:=0) rfl rfl (by decide) (Z0 _) (Nat.le_of_ble_eq_true rfl) (Nat.le_of_ble_eq_true rfl) rfl) ?_
  refine Zc (ZA (ob:=0) (id:=2) (i0:=0) (j0:=1) rfl rfl (by decide) (ZZ _) (Nat.le_of_ble_eq_true rfl) (Nat.le_of_ble_eq_true rfl) rfl) ?_
  refine Zc (Z1u (k:=11) (l:=kpC ks L) rfl rfl (Z83 ks L)) ?_
  refine gd 78 ⟨?_⟩
  refine Z4 (Zeb hn hk L hp) rfl rfl rfl ⟨Z83 ks L,trivial,trivial⟩ rfl ?_
  refine go ?_
  exact Z6 rfl ⟨Z1x _,trivial,trivial,trivial,trivial⟩ (.yes p hpo (by omega))
 have hexp:=Zal h hn S hk i e he L
 refine gd 82 ⟨?_⟩
 refine Zak hexp rfl rfl rfl rfl rfl rfl (by decide) (by decide) (by decide) ⟨hsr,trivial⟩ ⟨trivial,trivial⟩ ⟨trivial,trivial⟩ (Z0 _) (ZZ _) ?_
 rintro v b1' b2' - - - ⟨k2,rfl,rfl,p1,p2,p3⟩
 rcases p3 with⟨rfl,p3⟩|⟨rfl,p3⟩
 · refine go ?_
   have:=p2.len
   have:=p1.length_le
   refine⟨(i+1,k2),fun i=>mv 1 13 (mv 2 14 i),⟨by show i+1≤k2.length; omega,p2,htin.pre p1,fun m e' hm he'=>?_⟩,by show 2 ^ t.n-(i+1)<2 ^ t.n-i; omega,fun i hi=>absurd hi (Nat.not_lt_zero i),Zw rfl,
    ⟨⟨_,rfl,.pure _ hpp⟩,⟨_,rfl,.pure _ hsr⟩,⟨_,rfl,.ptr (ρ:=fun i=>mv 1 13 (mv 2 14 i)) 0 0 0 (by decide)⟩,⟨_,by show some _=some _; rw [hinc],.pure _ trivial⟩,trivial⟩,
    ⟨⟨by decide,_,rfl,RenB.single ⟨.own (ρ:=fun i=>mv 1 13 (mv 2 14 i)) 1 (by decide),.own (ρ:=fun i=>mv 1 13 (mv 2 14 i)) 2 (by decide),.pure _ trivial,trivial⟩ rfl⟩,⟨by decide,_,rfl,.same _ (Z0 _)⟩,⟨by decide,_,rfl,.same _ (ZZ _)⟩,trivial⟩⟩
   by_cases hmi:m<i
   · have := hex m e' hmi (pre_get' p1 he' (by omega))
     exact⟨this.1.pre p1,this.2⟩
   · obtain rfl : m = i := by omega
     rw [Z2w p1 he] at he'
     cases he'
     exact⟨p3,hho⟩
 · refine go ?_
   have:=p2.len
   exact Z6 rfl ⟨trivial,trivial,trivial,trivial,trivial⟩ (.lim (by omega))
end Go.Proofs.YtcgaocnjebhimaaGreatDoor
namespace Go.Proofs.YtcgaocnjebhimaaGreatDoor
open Go.Shelf
def Zam:Go.Shelf.Ren:=⟨fun|171=>42|243=>84|246=>120|283=>144|284=>145|285=>146|286=>147|129=>131|317=>167|318=>168|319=>169|320=>170|337=>175|338=>83|n=>n,fun|3=>3|9=>9|2=>2|4=>4|171=>204|0=>0|53=>33|37=>22|5=>5|173=>206|212=>226|51=>201|20=>20|213=>227|46=>120|232=>234|233=>188|n=>n,fun|17=>1|18=>3|19=>0|n=>n⟩
theorem lays171:Go.Proofs.Lays.n171 Tryz.prog Zam:={
 mixed:=by kernel_rfl
 f129:=Tryz.func131.trans (congrArg some (by kernel_rfl))
 f171:=Tryz.func42.trans (congrArg some (by kernel_rfl))
 f243:=Tryz.func84.trans (congrArg some (by kernel_rfl))
 f246:=Tryz.func120.trans (congrArg some (by kernel_rfl))
 f283:=Tryz.func144.trans (congrArg some (by kernel_rfl))
 f284:=Tryz.func145.trans (congrArg some (by kernel_rfl))
 f285:=Tryz.func146.trans (congrArg some (by kernel_rfl))
 f286:=Tryz.func147.trans (congrArg some (by kernel_rfl))
 f317:=Tryz.func167.trans (congrArg some (by kernel_rfl))
 f318:=Tryz.func168.trans (congrArg some (by kernel_rfl))
 f319:=Tryz.func169.trans (congrArg some (by kernel_rfl))
 f320:=Tryz.func170.trans (congrArg some (by kernel_rfl))
 f337:=Tryz.func175.trans (congrArg some (by kernel_rfl))
 f338:=Tryz.func83.trans (congrArg some (by kernel_rfl))
 t0:=Tryz.underlying0
 a0:=Tryz.isAgg0
 z0:=Tryz.sizeOf0
 v0:=Tryz.zeroValue0
 t2:=Tryz.underlying2
 a2:=Tryz.isAgg2
 z2:=Tryz.sizeOf2
 v2:=Tryz.zeroValue2
 t3:=Tryz.underlying3
 a3:=Tryz.isAgg3
 z3:=Tryz.sizeOf3
 v3:=Tryz.zeroValue3
 t4:=Tryz.underlying4
 a4:=Tryz.isAgg4
 z4:=Tryz.sizeOf4
 v4:=Tryz.zeroValue4
 t5:=Tryz.underlying5
 a5:=Tryz.isAgg5
 z5:=Tryz.sizeOf5
 v5:=Tryz.zeroValue5
 t9:=Tryz.underlying9
 a9:=Tryz.isAgg9
 z9:=Tryz.sizeOf9
 v9:=Tryz.zeroValue9
 t20:=Tryz.underlying20
 a20:=Tryz.isAgg20
 z20:=Tryz.sizeOf20
 v20:=Tryz.zeroValue20
 t37:=Tryz.underlying22
 a37:=Tryz.isAgg22
 z37:=Tryz.sizeOf22
 v37:=Tryz.zeroValue22
 t46:=Tryz.underlying120
 a46:=Tryz.isAgg120
 z46:=Tryz.sizeOf120
 v46:=Tryz.zeroValue120
 t51:=Tryz.underlying201
 a51:=Tryz.isAgg201
 z51:=Tryz.sizeOf201
 v51:=Tryz.zeroValue201
 t53:=Tryz.underlying33
 a53:=Tryz.isAgg33
 z53:=Tryz.sizeOf33
 v53:=Tryz.zeroValue33
 t171:=Tryz.underlying204
 a171:=Tryz.isAgg204
 z171:=Tryz.sizeOf204
 v171:=Tryz.zeroValue204
 t173:=Tryz.underlying206
 a173:=Tryz.isAgg206
 z173:=Tryz.sizeOf206
 v173:=Tryz.zeroValue206
 t212:=Tryz.underlying226
 a212:=Tryz.isAgg226
 z212:=Tryz.sizeOf226
 v212:=Tryz.zeroValue226
 t213:=Tryz.underlying227
 a213:=Tryz.isAgg227
 z213:=Tryz.sizeOf227
 t232:=Tryz.underlying234
 a232:=Tryz.isAgg234
 z232:=Tryz.sizeOf234
 v232:=Tryz.zeroValue234
 t233:=Tryz.underlying188
 a233:=Tryz.isAgg188
 z233:=Tryz.sizeOf188
 v233:=Tryz.zeroValue188
 g17:=by kernel_rfl
 g18:=by kernel_rfl
 g19:=by kernel_rfl }
def Z6n:Go.Shelf.Ren:=⟨fun|156=>43|165=>85|166=>86|169=>87|240=>121|241=>122|276=>148|277=>149|n=>n,fun|31=>108|9=>9|3=>3|4=>4|0=>0|20=>20|72=>162|76=>166|70=>160|37=>22|75=>165|127=>190|164=>208|5=>5|80=>61|n=>n,fun|n=>n⟩
theorem lays156:Go.Proofs.Lays.n156 Tryz.prog Z6n:={
 mixed:=by kernel_rfl
 f156:=Tryz.func43.trans (congrArg some (by kernel_rfl))
 f165:=Tryz.func85.trans (congrArg some (by kernel_rfl))
 f166:=Tryz.func86.trans (congrArg some (by kernel_rfl))
 f169:=Tryz.func87.trans (congrArg some (by kernel_rfl))
 f240:=Tryz.func121.trans (congrArg some (by kernel_rfl))
 f241:=Tryz.func122.trans (congrArg some (by kernel_rfl))
 f276:=Tryz.func148.trans (congrArg some (by kernel_rfl))
 f277:=Tryz.func149.trans (congrArg some (by kernel_rfl))
 t0:=Tryz.underlying0
 a0:=Tryz.isAgg0
 z0:=Tryz.sizeOf0
 v0:=Tryz.zeroValue0
 t3:=Tryz.underlying3
 a3:=Tryz.isAgg3
 z3:=Tryz.sizeOf3
 v3:=Tryz.zeroValue3
 t4:=Tryz.underlying4
 a4:=Tryz.isAgg4
 z4:=Tryz.sizeOf4
 v4:=Tryz.zeroValue4
 t9:=Tryz.underlying9
 a9:=Tryz.isAgg9
 z9:=Tryz.sizeOf9
 v9:=Tryz.zeroValue9
 t20:=Tryz.underlying20
 a20:=Tryz.isAgg20
 z20:=Tryz.sizeOf20
 v20:=Tryz.zeroValue20
 t31:=Tryz.underlying108
 a31:=Tryz.isAgg108
 z31:=Tryz.sizeOf108
 v31:=Tryz.zeroValue108
 t37:=Tryz.underlying22
 a37:=Tryz.isAgg22
 z37:=Tryz.sizeOf22
 v37:=Tryz.zeroValue22
 t70:=Tryz.underlying160
 a70:=Tryz.isAgg160
 z70:=Tryz.sizeOf160
 v70:=Tryz.zeroValue160
 t72:=Tryz.underlying162
 a72:=Tryz.isAgg162
 z72:=Tryz.sizeOf162
 v72:=Tryz.zeroValue162
 t75:=Tryz.underlying165
 a75:=Tryz.isAgg165
 z75:=Tryz.sizeOf165
 v75:=Tryz.zeroValue165
 t76:=Tryz.underlying166
 a76:=Tryz.isAgg166
 z76:=Tryz.sizeOf166
 v76:=Tryz.zeroValue166
 t127:=Tryz.underlying190
 a127:=Tryz.isAgg190
 z127:=Tryz.sizeOf190
 v127:=Tryz.zeroValue190
 t164:=Tryz.underlying208
 a164:=Tryz.isAgg208
 z164:=Tryz.sizeOf208
 v164:=Tryz.zeroValue208 }
theorem builderExtra156:Builder.Extra Tryz.prog Z6n:={
 sizeBuilder:=by kernel_rfl
 liesBuilder:=by kernel_rfl
 t5:=Tryz.underlying5
 a5:=Tryz.isAgg5
 z5:=Tryz.sizeOf5
 v5:=Tryz.zeroValue5
 infoByte:=by kernel_rfl
 cellsByte:=by kernel_rfl
 sizeByte:=by kernel_rfl
 neB5:=by decide }
end Go.Proofs.YtcgaocnjebhimaaGreatDoor
namespace Go.Proofs.YtcgaocnjebhimaaGreatDoor
open Go.RowKit
attribute [local irreducible] aw opsK dK
theorem Zbp {f:FuncId} {args:List PV} {v:Value} (hb:HasBody Tryz.prog f) (h:∀ (F:Froz) (w:World) (vs:Array Value),Holds F w→RepL F noLoc vs args→Calls Tryz.prog f vs w fun e w'=>e=.returned v∧Below w.heap.size w w'):Spec Tryz.prog f args (· = .val v):=by
 refine⟨hb,fun F w vs hF hv=>(h F w vs hF hv).mono ?_⟩
 rintro en w' ⟨rfl,hbel⟩
 exact⟨v,.val v,F,rfl,rfl,.val _,hbel,Holds.kept hF hbel,fun _ _ h=>h,fun _ _=>rfl⟩
def numS (k:Nat):ByteArray:=⟨(Go.Lib.decDigits k).toArray⟩
theorem Z6o (k:Nat) (hk:k<100):Spec Tryz.prog 42 [.val (.int .i64 (k:Int))] (· = .val (.string (numS k))):=by
 refine Zbp ⟨_,Tryz.func42,by kernel_rfl,by kernel_rfl⟩ fun F w vs hF hv=>?_
 obtain rfl:vs = #[.int .i64 (k:Int)]:=by
  refine Array.ext hv.1 fun i h1 h2=>?_
  have hi:i=0:=by simp at h2; omega
  subst hi
  have:=(show Rep F noLoc (vs.getD 0 undef) (.val (.int .i64 (k:Int))) from hv.2 0 (Nat.zero_lt_succ _)).val_inv
  simpa [Array.getD_eq_getD_getElem?,h1] using this
 refine (Any.strconv_Itoa_small lays171 k hk w).mono ?_
 rintro e w' ⟨rfl,rfl⟩
 exact⟨rfl,Below.refl _ _⟩
def strC (x:ByteArray):List PV := [.val (.string x)]
theorem Z2K (l:List ByteArray):pureLL (l.map strC):=Ze (enc:=strC) (fun _=>⟨trivial,trivial⟩) l
def joinS (l:List ByteArray) (sep:ByteArray):ByteArray:=⟨(Go.Lib.join (l.map (·.data.toList)) sep.data.toList).toArray⟩
theorem Zed (l:List ByteArray) (fl:Bool) (sep:ByteArray) (hl:l.length≤140737488355328) (hlen:(Go.Lib.join (l.map (·.data.toList)) sep.data.toList).length≤140737488355328):Spec Tryz.prog 43 [.vec (l.map strC) fl,.val (.string sep)] (· = .val (.string (joinS l sep))):=by
 refine Zbp ⟨_,Tryz.func43,by kernel_rfl,by kernel_rfl⟩ fun F w vs hF hv=>?_
 have hv1:Rep F noLoc (vs.getD 0 undef) (.vec (l.map strC) fl):=hv.2 0 (show 0<2 by decide)
 have hv2:vs.getD 1 undef=.string sep:=(show Rep F noLoc (vs.getD 1 undef) (.val (.string sep)) from hv.2 1 (show 1<2 by decide)).val_inv
 have hvs:vs = #[vs.getD 0 undef,vs.getD 1 undef]:=by
  refine Array.ext hv.1 fun i h1 h2=>?_
  have hs:vs.size=2:=hv.1
  have hi:i=0 ∨ i=1:=by omega
  rcases hi with rfl|rfl<;>simp [Array.getD_eq_getD_getElem?,h1]
 rw [hvs,hv2]
 rcases hv1.vec_inv with⟨h0,hq⟩|⟨x,cap,esz,cs,hq,hs,hcap,hfull,hmax,he,hF1,hR⟩
 · have h0 : l = [] := List.map_eq_nil_iff.1 h0
   subst h0
   rw [hq]
   refine (Any.strings_Join_none lays156 builderExtra156 none 0 sep w).mono ?_
   rintro e w' ⟨rfl,rfl⟩
   exact⟨rfl,Below.refl _ _⟩
 · rw [hq, List.length_map]
   by_cases hne:l = []
   · subst hne
     refine (Any.strings_Join_none lays156 builderExtra156 (some x) cap sep w).mono ?_
     rintro e w' ⟨rfl,rfl⟩
     exact⟨rfl,Below.refl _ _⟩
   · have hsp := hs (by simpa using hne)
     obtain⟨bk,o,sp⟩:=x
     dsimp only at hsp
     subst hsp
     rw [List.length_map] at hcap
     have hpos:0<l.length:=List.length_pos_iff.2 hne
     have hez:esz=1:=by
      have:=he 0 (by simpa using hpos)
      rw [← this]
      simp [List.getD_eq_getElem?_getD,hpos,strC]
     subst hez
     have hcell:∀ (j:Nat) y,l[j]?=some y→F ⟨bk,o+j,none⟩=some (.string y):=fun j y hj=>by
      have hjl:=(List.getElem?_eq_some_iff.1 hj).1
      have h1:=hF1 j 0 (by simpa using hjl) (by decide)
      have h2:=hR j 0 (by simpa using hjl) (by decide)
      have h3:((l.map strC).getD j []).getD 0 pvu=.val (.string y):=by simp [List.getD_eq_getElem?_getD,hj,strC]
      rw [h3] at h2
      have h4:=h2.val_inv
      rw [h4] at h1
      simpa using h1
     refine Any.strings_Join lays156 builderExtra156 bk o cap l sep w (fun j y hj=>(hF.1 _ _ (hcell j y hj)).2.2) ?_ hl hcap hlen
     obtain⟨y,hy⟩:∃ y,l[0]?=some y:=⟨_,List.getElem?_eq_getElem hpos⟩
     have:=(hF.1 _ _ (hcell 0 y hy)).2.2
     unfold World.cell? at this
     split at this
     · rename_i ho; exact (Array.getElem?_eq_some_iff.1 ho).1
     · cases this
def litS (c:Cu) (r:Nat):List ByteArray:=(if c.1.testBit r then [numS r] else [])++if c.2.testBit r then [⟨#[33]⟩++numS r] else []
def litsS (c:Cu) (rs:List Nat):List ByteArray:=rs.flatMap (litS c)
def textS (c:Cu):ByteArray:=if litsS c (mem (c.1 ||| c.2)) = [] then ⟨#[102,117,108,108]⟩ else joinS (litsS c (mem (c.1 ||| c.2))) ⟨#[32]⟩
theorem Zcs (c:Cu) (rs:List Nat) (r:Nat):litsS c (rs ++ [r])=litsS c rs++litS c r:=by unfold litsS; rw [List.flatMap_append]; simp
theorem ZfE (c:Cu) (r:Nat):(litS c r).length≤2:=by unfold litS; rw [List.length_append]; split<;>split<;>simp
theorem Z6p (c:Cu):∀ rs:List Nat,(litsS c rs).length≤2*rs.length
 | []=>by simp [litsS]
 | r :: rs => by
   have h1:=ZfE c r
   have h2:=Z6p c rs
   unfold litsS at h2 ⊢
   rw [List.flatMap_cons,List.length_append,List.length_cons]
   omega
theorem Z8X {k:Nat} (hk:k<100):(numS k).data.toList.length≤2:=by
 show (Go.Lib.decDigits k).toArray.toList.length≤2
 by_cases h:k<10
 · rw [Go.Lib.decDigits_one h]; simp
 · rw [Go.Lib.decDigits_two h hk]; simp
theorem Zee (x:ByteArray):((⟨#[33]⟩:ByteArray)++x).data.toList=33 :: x.data.toList:=by rw [ByteArray.data_append]; simp
theorem Zct {c:Cu} {rs:List Nat} (h:∀ r∈rs,r<100):∀ x∈litsS c rs,x.data.toList.length≤3:=fun x hx=>by
 obtain⟨r,hr,hx⟩:=List.mem_flatMap.1 hx
 have hn:=Z8X (h r hr)
 unfold litS at hx
 rcases List.mem_append.1 hx with hx|hx
 · split at hx
   · rw [List.mem_singleton] at hx; subst hx; omega
   · cases hx
 · split at hx
   · rw [List.mem_singleton] at hx; subst hx
     rw [Zee,List.length_cons]; omega
   · cases hx
theorem ZgI {l:List (List UInt8)} {k:Nat} (h:∀ x∈l,x.length≤k):Go.Lib.lens l≤k*l.length:=by
 induction l with
 | nil=>simp [Go.Lib.lens]
 | cons x l ih =>
   have h1:=h x (List.mem_cons_self ..)
   have h2:=ih fun y hy=>h y (List.mem_cons_of_mem _ hy)
   have:Go.Lib.lens (x :: l)=x.length+Go.Lib.lens l:=by simp [Go.Lib.lens]
   rw [this,List.length_cons,Nat.mul_succ]; omega
theorem ZfF {l:List ByteArray} (h:∀ x∈l,x.data.toList.length≤3) (hl:l.length≤1000) (sep:ByteArray) (hs:sep.data.toList.length≤10):(Go.Lib.join (l.map (·.data.toList)) sep.data.toList).length≤140737488355328:=by
 cases l with
 | nil=>simp [Go.Lib.join_nil]
 | cons x l =>
   rw [List.map_cons,Go.Lib.join_length]
   have:=ZgI (k:=3) (l:=(x :: l).map (·.data.toList)) fun y hy=>by
    obtain⟨z,hz,rfl⟩:=List.mem_map.1 hy
    exact h z hz
   rw [List.map_cons] at this
   simp only [List.length_cons,List.length_map] at this hl ⊢
   have h2:sep.data.toList.length*l.length≤10*l.length:=Nat.mul_le_mul_right _ hs
   omega
set_option maxRecDepth 100000 in
set_option maxHeartbeats 4000000 in
theorem Zcu (c:Cu) (hc:Ok64 c):Spec Tryz.prog 14 [cuP c] (· = .val (.string (textS c))):=by
 have hor:=Z1Z hc.1 hc.2
 refine Z2 ok14 (Nat.le_of_ble_eq_true rfl) fun C hC=>?_
 refine Zl ?_
 refine Za ?_
 refine Z5 rfl rfl rfl ?_
 refine gd 5 ⟨?_⟩
 refine Zc (ZM (id:=0) (i0:=0) (j0:=0) rfl (by decide) (by decide) rfl 1 (by decide) (by decide)) ?_
 refine gd 9 ⟨?_⟩
 refine Z4 (Z1S c.1 c.2 hc.1 hc.2) rfl rfl rfl ⟨Z1 _,Z1 _,trivial⟩ rfl ?_
 have hM:textS c=if litsS c (mem (c.1 ||| c.2)) = [] then ⟨#[102,117,108,108]⟩ else joinS (litsS c (mem (c.1 ||| c.2))) ⟨#[32]⟩:=rfl
 rw [hM]
 generalize c.1 ||| c.2=M at hor ⊢
 refine Z4 (Z1Q M) rfl rfl rfl ⟨Z1 _,trivial⟩ rfl ?_
 refine go ?_
 refine Z2Q (X:=List Nat) hC (caps := [.cp [.vec (words (digs M)) false]]) [(1,.cp (cuC c)),(3,.ptr 0 0 0),(10,.fn 82 [.cp [.vec (words (digs M)) false]])]
  (fun z => [(0,⟨1,[[.own 1]]⟩),(1,⟨1,(litsS c z).map strC⟩)]) rfl ⟨⟨Z8 _,trivial⟩,trivial⟩ (Z2T M hor) (fun _=>rfl)
  (fun ex pre z=>ex=.normal∧z=pre.map (·.val)) 2 (by decide) [] ⟨rfl,rfl⟩
  (Z3t (EnvQ.mem (ρ := fun i => i) (m := 2) (L := [(1, .cp (cuC c)), (3, .ptr 0 0 0), (10, .fn 82 [.cp [.vec (words (digs M)) false]])]) ⟨⟨_, rfl, .pure _ (Zk c)⟩, ⟨_, rfl, .ptr (ρ := fun i => i) 0 0 0 (by decide)⟩, ⟨_, rfl, .pure _ ⟨⟨Z8 _, trivial⟩, trivial⟩⟩, trivial⟩)
    (HeapQ.mem (ρ:=fun i=>i) (m:=2) (L := [(0,⟨1,[[.own 1]]⟩),(1,⟨1,(litsS c []).map strC⟩)]) ⟨⟨by decide,_,rfl,RenB.single ⟨.own (ρ:=fun i=>i) 1 (by decide),trivial⟩ rfl⟩,⟨by decide,_,rfl,.same _ trivial⟩,trivial⟩) hC (by decide))
  (fun z q hq=>by simp at hq; rcases hq with rfl|rfl<;>exact Nat.zero_lt_succ _) _ (fun x=>rfl) ?_ ?_ ?_
 · rintro C2 hC2 pre x z ⟨-, rfl⟩ hlen
   have hx:=Z2E x.2
   have hml:=Z27 M
   have hsn:=Zcs c (pre.map (·.val)) x.val
   have hll:=Z6p c (pre.map (·.val))
   rw [List.length_map] at hll
   generalize litsS c (pre.map (·.val))=acc at hsn hll ⊢
   have hn:=Z8X (show x.val<100 by omega)
   have hcat:∀ (e:Env) (h:Heap) (n:Nat) (q:Operand),ev e q=some (.val (.string (numS x.val)))→dEval (.bin .add .num (.const (.string ⟨#[33]⟩)) q) e h n=some (.val (.string (⟨#[33]⟩++numS x.val)),h):=fun e h n q hq=>by
    have hsz:(⟨#[33]⟩:ByteArray).size+(numS x.val).size≤9223372036854775807:=by
     have:(numS x.val).size=(numS x.val).data.toList.length:=by rw [Array.length_toList]; rfl
     rw [this]
     show 1+_≤_
     omega
    have h1:ev e (.const (.string ⟨#[33]⟩))=some (.val (.string ⟨#[33]⟩)):=rfl
    simp only [dEval,h1,hq,pbin,sbin,if_pos hsz,Option.map]
   unfold litS at hsn
   refine gd 15 ⟨?_⟩
   refine Z4 (Z18 c.1 hc.1 x.val) rfl rfl rfl ⟨Z1 _,trivial,trivial⟩ rfl ?_
   cases h1:c.1.testBit x.val
   · rw [h1, if_neg (by decide), List.nil_append] at hsn
     refine gd 24 ⟨?_⟩
     refine Z4 (Z18 c.2 hc.2 x.val) rfl rfl rfl ⟨Z1 _,trivial,trivial⟩ rfl ?_
     cases h2:c.2.testBit x.val
     · rw [h2, if_neg (by decide), List.append_nil] at hsn
       refine go ?_
       exact⟨.inl rfl,pre.map (·.val) ++ [x.val],fun i=>i,⟨rfl,by rw [List.map_append]; rfl⟩,fun i hi=>rfl,Zr,
        ⟨⟨_,rfl,.pure _ (Zk c)⟩,⟨_,rfl,.ptr (ρ:=fun i=>i) 0 0 0 (by decide)⟩,⟨_,rfl,.pure _ ⟨⟨Z8 _,trivial⟩,trivial⟩⟩,trivial⟩,
        ⟨⟨by decide,_,rfl,RenB.single ⟨.own (ρ:=fun i=>i) 1 (by decide),trivial⟩ rfl⟩,⟨by decide,_,rfl,by rw [hsn]; exact .same _ (Z2K _)⟩,trivial⟩⟩
     · rw [h2, if_pos rfl] at hsn
       refine gd 27 ⟨?_⟩
       refine Zy (Z6o x.val (by omega)) rfl rfl rfl ⟨trivial,trivial⟩ ?_
       refine Zi (hcat _ _ _ _ rfl) rfl rfl ?_
       refine gd 30 ⟨?_⟩
       refine Zi (Zs (k:=1) (m := [strC (⟨#[33]⟩++numS x.val)]) (fl:=true) rfl rfl rfl (fun q hq=>by rw [List.mem_singleton] at hq; subst hq; rfl) rfl (by
        show ((acc.map strC).length+1)*16≤_
        rw [List.length_map];omega)) rfl rfl ?_
       refine go ?_
       refine⟨.inl rfl,pre.map (·.val) ++ [x.val],mv 1 7,⟨rfl,by rw [List.map_append]; rfl⟩,Z3d (by decide),Zw rfl,
        ⟨⟨_,rfl,.pure _ (Zk c)⟩,⟨_,rfl,.ptr (ρ:=mv 1 7) 0 0 0 (by decide)⟩,⟨_,rfl,.pure _ ⟨⟨Z8 _,trivial⟩,trivial⟩⟩,trivial⟩,
        ⟨⟨by decide,_,rfl,RenB.single ⟨.own (ρ:=mv 1 7) 1 (by decide),trivial⟩ rfl⟩,⟨by decide,_,rfl,?_⟩,trivial⟩⟩
       show RenB _ _ ⟨1,acc.map strC ++ [strC (⟨#[33]⟩++numS x.val)]⟩ ⟨1,(litsS c (pre.map (·.val) ++ [x.val])).map strC⟩
       have hp:=Z2K (acc ++ [⟨#[33]⟩++numS x.val])
       rw [hsn,List.map_append]
       rw [List.map_append] at hp
       exact .same _ hp
   · rw [h1, if_pos rfl] at hsn
     refine gd 18 ⟨?_⟩
     refine Zy (Z6o x.val (by omega)) rfl rfl rfl ⟨trivial,trivial⟩ ?_
     refine gd 20 ⟨?_⟩
     refine Zi (Zs (k:=1) (m := [strC (numS x.val)]) (fl:=true) rfl rfl rfl (fun q hq=>by rw [List.mem_singleton] at hq; subst hq; rfl) rfl (by
      show ((acc.map strC).length+1)*16≤_
      rw [List.length_map];omega)) rfl rfl ?_
     refine gd 24 ⟨?_⟩
     refine Z4 (Z18 c.2 hc.2 x.val) rfl rfl rfl ⟨Z1 _,trivial,trivial⟩ rfl ?_
     cases h2:c.2.testBit x.val
     · rw [h2, if_neg (by decide), List.append_nil] at hsn
       refine go ?_
       refine⟨.inl rfl,pre.map (·.val) ++ [x.val],mv 1 6,⟨rfl,by rw [List.map_append]; rfl⟩,Z3d (by decide),Zw rfl,
        ⟨⟨_,rfl,.pure _ (Zk c)⟩,⟨_,rfl,.ptr (ρ:=mv 1 6) 0 0 0 (by decide)⟩,⟨_,rfl,.pure _ ⟨⟨Z8 _,trivial⟩,trivial⟩⟩,trivial⟩,
        ⟨⟨by decide,_,rfl,RenB.single ⟨.own (ρ:=mv 1 6) 1 (by decide),trivial⟩ rfl⟩,⟨by decide,_,rfl,?_⟩,trivial⟩⟩
       show RenB _ _ ⟨1,acc.map strC ++ [strC (numS x.val)]⟩ ⟨1,(litsS c (pre.map (·.val) ++ [x.val])).map strC⟩
       have hp:=Z2K (acc ++ [numS x.val])
       rw [hsn,List.map_append]
       rw [List.map_append] at hp
       exact .same _ hp
     · rw [h2, if_pos rfl] at hsn
       refine gd 27 ⟨?_⟩
       refine Zy (Z6o x.val (by omega)) rfl rfl rfl ⟨trivial,trivial⟩ ?_
       refine Zi (hcat _ _ _ _ rfl) rfl rfl ?_
       refine gd 30 ⟨?_⟩
       refine Zi (Zs (k:=6) (m := [strC (⟨#[33]⟩++numS x.val)]) (fl:=true) rfl rfl rfl (fun q hq=>by rw [List.mem_singleton] at hq; subst hq; rfl) rfl (by
        show ((acc.map strC ++ [strC (numS x.val)]).length+1)*16≤_
        rw [List.length_append,List.length_map,List.length_singleton];omega)) rfl rfl ?_
       refine go ?_
       refine⟨.inl rfl,pre.map (·.val) ++ [x.val],mv 1 13,⟨rfl,by rw [List.map_append]; rfl⟩,Z3d (by decide),Zw rfl,
        ⟨⟨_,rfl,.pure _ (Zk c)⟩,⟨_,rfl,.ptr (ρ:=mv 1 13) 0 0 0 (by decide)⟩,⟨_,rfl,.pure _ ⟨⟨Z8 _,trivial⟩,trivial⟩⟩,trivial⟩,
        ⟨⟨by decide,_,rfl,RenB.single ⟨.own (ρ:=mv 1 13) 1 (by decide),trivial⟩ rfl⟩,⟨by decide,_,rfl,?_⟩,trivial⟩⟩
       show RenB _ _ ⟨1,acc.map strC ++ [strC (numS x.val)] ++ [strC (⟨#[33]⟩++numS x.val)]⟩ ⟨1,(litsS c (pre.map (·.val) ++ [x.val])).map strC⟩
       have hp:=Z2K (acc++([numS x.val] ++ [⟨#[33]⟩++numS x.val]))
       rw [hsn,List.map_append,List.map_append,← List.append_assoc]
       rw [List.map_append,List.map_append,← List.append_assoc] at hp
       exact .same _ hp
 · rintro xs z hxs ⟨-, rfl⟩
   rw [hxs]
   have hsz:=Zct (c:=c) (rs:=mem M) fun r hr=>by have:=Z2E hr; omega
   have hll:=Z6p c (mem M)
   have hml:=Z27 M
   generalize litsS c (mem M)=l at hsz hll ⊢
   refine gd 33 ⟨?_⟩
   cases l with
   | nil =>
     refine Z3 (Z9 (v:=true) rfl rfl) rfl rfl ?_
     refine go ?_
     exact Z6 rfl trivial rfl
   | cons y l =>
     refine Z3 (Z9 (v:=false) rfl (by simp;omega)) rfl rfl ?_
     repeat' (first|refine ZfK 34 ?_|(first|refine st ?_|(apply B<;>intro hb<;>try cases hb)))
     refine At.mk ?_
     refine Zc (ZA (ob:=0) (id:=1) (i0:=0) (j0:=0) rfl rfl (by decide) (Z2K _) (Nat.le_of_ble_eq_true rfl) (Nat.le_of_ble_eq_true rfl) rfl) ?_
     refine gd 35 ⟨?_⟩
     refine Z4 (Zed (y :: l) false ⟨#[32]⟩ (by omega) (ZfF hsz (by omega) _ (by decide))) rfl rfl rfl ⟨Z2K _,trivial,trivial⟩ rfl ?_
     refine go ?_
     exact Z6 rfl trivial (by rw [if_neg (by simp)])
 · rintro ex pre z - ⟨rfl,_⟩ (h|⟨id,h⟩)<;>cases h
section
variable {P:Program} {e:Env} {h:Heap} {n:Nat}
theorem Zbq {k:Nat} {p q:PV} (hk:e k=some p) (hr:RenP (fun i=>i) (fun _=>False) p q):SubA n e h n (e.upd k q) h:=by
 rintro C a w ⟨F,φ,s⟩
 refine⟨F,φ,{ s with env:=fun j r hq=>?_ }⟩
 by_cases hj:j=k
 · subst hj
   rw [Env.upd_same] at hq
   cases hq
   exact⟨(s.env j p hk).1,hr.rep (fun i x hd _=>hd.elim) (s.env j p hk).2⟩
 · rw [Env.upd_ne _ _ hj] at hq
   exact s.env j r hq
theorem RenLs.agg {ρ:Nat→Nat} {D:Nat→Prop} {l m:List PV} (h:RenLs ρ D l m):RenP ρ D (.agg l) (.agg m):=by
 obtain⟨h1,h2⟩:=h.get
 exact .agg l m h1 fun i hi=>h2 i (by omega)
end
theorem Z2x (l:List Int) (N:Nat) (h:maskTo (topOf l) l=N) (fl:Bool):Spec Tryz.prog 9 [.vec (nums l) fl] (· = setN N):=h▸Zd4 l fl
theorem Z4H:Small ([]:List Pr):=fun p hp=>by cases hp
theorem Zg0 {a b:Nat} (h:Up [] a b):False:=by
 cases h with
 | one h=>cases h
 | more _ h=>cases h
theorem Z84 {s m:Nat} (hs:s ||| mkN m=mkN m) (hm:m≤63):clo [] s=s:=by
 have hlt:s<18446744073709551616:=by
  have h1:s≤mkN m:=by rw [← hs]; exact Nat.left_le_or
  have:=Z3O hm
  omega
 refine Nat.eq_of_testBit_eq fun i=>?_
 rw [Bool.eq_iff_iff,Z6c Z4H hlt]
 constructor
 · rintro ⟨a, h1, h2, h3⟩
   rcases (Z3Z Z4H i a).1 h3 with h4|rfl
   · exact (Zg0 h4).elim
   · exact h1
 · intro h1
   have h2:=orSub.1 hs i h1
   rw [Z2h,Bool.and_eq_true,decide_eq_true_eq] at h2
   exact⟨i,h1,h2.1,(Z3Z Z4H i i).2 (.inr rfl)⟩
def rsE:List RU := [⟨false,(0,0),1,0⟩,⟨false,(2,0),2,0⟩,⟨true,(0,0),1,0⟩]
def tE (nv:List Cu):PB:=⟨3,[],0,rsE,nv,[(4,2)]⟩
theorem inC3 {c:Cu} (h1:c.1 ||| 14=14) (h2:c.2 ||| 14=14) (h3:emC c=false):InC 3 c∧InM 62 c:=⟨⟨h1,h2,h3⟩,Z3D h1 (by decide),Z3D h2 (by decide)⟩
theorem Zhe (nv:List Cu) (hl:nv.length≤64) (h:∀ c∈nv,InC 3 c∧InM 62 c) (h0:soC nv 0=false):PbOk (tE nv):=by
 refine⟨show 1≤3∧3≤63 by decide,⟨List.Pairwise.nil,fun p hp=>(by cases hp),⟨fun _=>0,fun p hp=>(by cases hp)⟩⟩,fun p hp=>(by cases hp),show 0 ||| mkN 3=mkN 3 by decide,show rsE.length≤64 by decide,fun r hr=>?_,hl,h,show 1≤64 by decide,fun c hc=>?_,?_⟩
 · have hr : r ∈ rsE := hr
   unfold rsE at hr
   simp only [List.mem_cons,List.not_mem_nil,or_false] at hr
   rcases hr with rfl|rfl|rfl
   · have := inC3 (c := (0, 0)) (by decide) (by decide) (by decide)
     exact⟨this.1,this.2,show 1≤1∧1≤3∧1≤5 by decide,fun _=>rfl⟩
   · have := inC3 (c := (2, 0)) (by decide) (by decide) (by decide)
     exact⟨this.1,this.2,show 1≤2∧2≤3∧2≤5 by decide,fun h=>by cases h⟩
   · have := inC3 (c := (0, 0)) (by decide) (by decide) (by decide)
     exact⟨this.1,this.2,show 1≤1∧1≤3∧1≤5 by decide,fun _=>rfl⟩
 · have hc : c ∈ [((4, 2) : Cu)] := hc
   rw [List.mem_singleton] at hc
   subst hc
   exact inC3 (by decide) (by decide) (by decide)
 · show soC nv (clo [] 0) = false
   rw [Z84 (m:=3) (by decide) (by decide)]; exact h0
def t0:PB:=tE []
def t1:PB:=tE [(6,0)]
theorem Z85:PbOk t0:=Zhe [] (by decide) (fun c hc=>by cases hc) rfl
theorem Zcv:PbOk t1:=Zhe [(6,0)] (by decide) (fun c hc=>by
 rw [List.mem_singleton] at hc
 subst hc
 exact inC3 (by decide) (by decide) (by decide)) (by decide)
theorem goodE {nv:List Cu} {s:Nat} (hs:s ||| 14=14):goodB (tE nv) s = !soC nv s:=by
 show (!soC nv (clo [] s))=_
 rw [Z84 (m:=3) hs (by decide)]
theorem reachE {nv:List Cu} {s:Nat} (hs:s ||| 14=14):reachB (tE nv) s=soC [(4,2)] s:=by
 show soC [(4,2)] (clo [] s)=_
 rw [Z84 (m:=3) hs (by decide)]
theorem stepE {nv:List Cu} {x:RU} {s:Nat} (hs:s ||| 14=14) (hn:nextR x s ||| 14=14):stepR (tE nv) x s=(decide (nextR x s≠s)&&(!soC nv (nextR x s)&&(x.rev||hoC x.cu s))):=by
 unfold stepR
 rw [goodE hn]
 show (_&&(_&&(x.rev||hoC x.cu (clo [] s))))=_
 rw [Z84 (m:=3) hs (by decide)]
theorem able0:Able t0 t0.st:=by
 have r0:(⟨false,(0,0),1,0⟩:RU)∈t0.rs:=by show _∈rsE; unfold rsE; simp
 have r1:(⟨false,(2,0),2,0⟩:RU)∈t0.rs:=by show _∈rsE; unfold rsE; simp
 have r2:(⟨true,(0,0),1,0⟩:RU)∈t0.rs:=by show _∈rsE; unfold rsE; simp
 refine .step (S:=0) (x:=⟨false,(0,0),1,0⟩) (by show _ ||| 14=14; decide) (by unfold t0; rw [goodE (by decide)]; rfl) r0 (by unfold t0; rw [stepE (by decide) (by decide)]; decide) ?_
 refine .step (S:=2) (x:=⟨false,(2,0),2,0⟩) (by show _ ||| 14=14; decide) (by unfold t0; rw [goodE (by decide)]; rfl) r1 (by unfold t0; rw [stepE (by decide) (by decide)]; decide) ?_
 refine .step (S:=6) (x:=⟨true,(0,0),1,0⟩) (by show _ ||| 14=14; decide) (by unfold t0; rw [goodE (by decide)]; rfl) r2 (by unfold t0; rw [stepE (by decide) (by decide)]; decide) ?_
 exact .base (S:=4) (by show _ ||| 14=14; decide) (by unfold t0; rw [goodE (by decide)]; rfl) (by unfold t0; rw [reachE (by decide)]; decide)
theorem Z6q {S:Nat} (h:Able t1 S):S.testBit 2=true:=by
 induction h with
 | base hS hg hr =>
   unfold t1 at hr
   rw [reachE hS,Z3Y] at hr
   exact ((Z12 _ _).1 hr).1 2 (by decide)
 | step hS hg hx hs ha ih =>
   rename_i S x
   have hl:=hS.lt (t:=t1) (by decide)
   have hx':x∈rsE:=hx
   unfold rsE at hx'
   simp only [List.mem_cons,List.not_mem_nil,or_false] at hx'
   have hb:=ZU (r:=x) (by rcases hx' with rfl|rfl|rfl<;>decide) hl 2
   rw [ih] at hb
   rcases hx' with rfl|rfl|rfl
   · rw [if_neg (by decide)] at hb; exact hb.symm
   · exfalso
     unfold t1 at hs
     rw [stepE hS (Z3I Zcv hx hS)] at hs
     rw [Bool.and_eq_true,Bool.and_eq_true,Bool.not_eq_true',Z3Y] at hs
     have h1:hoC (2,0) S=true:=hs.2.2
     have h2:S.testBit 1=true:=((Z12 _ _).1 h1).1 1 (by decide)
     have h3:hoC (6,0) (nextR ⟨false,(2,0),2,0⟩ S)=true:=(Z12 _ _).2 ⟨fun i hi=>by
      rw [ZU (by decide) hl]
      have:i=1 ∨ i=2:=by
       have hi2:i<3:=Nat.lt_of_not_le fun h=>by
        rw [Nat.testBit_lt_two_pow (Nat.lt_of_lt_of_le (show (6:Nat)<2 ^ 3 by decide) (Nat.pow_le_pow_right (by decide) h))] at hi
        cases hi
       have:i≠0:=fun e=>by subst e; revert hi; decide
       omega
      rcases this with rfl|rfl
      · rw [if_neg (by decide)]; exact h2
      · rfl,fun i hi=>by simp at hi⟩
     rw [h3] at hs
     exact absurd hs.2.1 (by decide)
   · rw [if_neg (by decide)] at hb; exact hb.symm
theorem Zef (r:Nat):sen [] r=2 ^ r:=Nat.eq_of_testBit_eq fun a=>by
 rw [Bool.eq_iff_iff,Z3Z Z4H,Nat.testBit_two_pow,decide_eq_true_eq]
 exact⟨fun h=>h.elim (fun h=>(Zg0 h).elim) Eq.symm,fun h=>.inr h.symm⟩
theorem Z6r (c:Cu) (hc:Ok64 c) (he:emC c=false) {S:Nat} (hS:hoC c S=true):simL [c] = [c]:=by
 have h64:∀ x∈[c],Ok64 x:=fun x hx=>by rw [List.mem_singleton] at hx; subst hx; exact hc
 have hm:∀ x∈simL [c],x=c:=fun x hx=>List.mem_singleton.1 (Z1U hx).1
 have hn:=Z3C h64
 have hso:=Z6b h64 S
 rw [Z3Y,hS] at hso
 generalize simL [c]=l at hm hn hso
 match l,hm,hn,hso with
 | [],_,_,hso=>cases hso
 | [x],hm,_,_=>rw [hm x (List.mem_cons_self ..)]
 | x :: y :: r, hm, hn, _ =>
   have h1:=hm x (by simp)
   have h2:=hm y (by simp)
   rw [List.nodup_cons] at hn
   exact absurd (by rw [h1,h2]; simp) hn.1
theorem ZfG:simL [] = []:=by
 cases h:simL [] with
 | nil=>rfl
 | cons c l=>exact absurd (Z1U (show c∈simL [] by rw [h]; simp)).1 (by simp)
theorem tgt0:tgtL t0 = [(4,2)]:=by
 have h1:badL t0 = []:=ZfG
 have h2:exL [] 3 (4,2) = [(4,2)]:=by
  have e1:mem 2 = [1]:=by decide +kernel
  have e2:mem 4 = [2]:=by decide +kernel
  have e3:exN [] 3 (mem 2)=2:=by rw [e1]; unfold exN; simp only [List.foldl]; rw [Zef]; decide
  unfold exL
  show exF [] 3 (mem 4) [(0,exN [] 3 (mem 2))]=_
  rw [e3,e2]
  unfold exF
  simp only [List.foldl]
  have e4:exX [] 3 2 [(0,2)] = [(4,2)]:=by
   unfold exX
   rw [Zef]
   have:mem (2 ^ 2 &&& mkN 3) = [2]:=by decide +kernel
   simp only [this,List.flatMap_cons,List.flatMap_nil,List.map]
   decide
  rw [e4]
  exact Z6r (4,2) ⟨by decide,by decide⟩ (by decide) (S:=4) (by decide)
 have h3:expAll t0 t0.gl = [(4,2)]:=by
  unfold expAll
  show ([(4,2)]:List Cu).flatMap (exL [] 3)=_
  rw [List.flatMap_cons,List.flatMap_nil,h2]; rfl
 unfold tgtL
 rw [h1,h3]
 have h4:splAll [] [(4,2)] = [(4,2)]:=by decide
 rw [h4]
 exact Z6r (4,2) ⟨by decide,by decide⟩ (by decide) (S:=4) (by decide)
theorem text0:textS (4,2)=⟨#[33,49,32,50]⟩:=by
 have e1:mem ((4:Nat) ||| 2) = [1,2]:=by decide +kernel
 have n1:numS 1=⟨#[49]⟩:=by unfold numS; rw [Go.Lib.decDigits_one (by decide)]; rfl
 have n2:numS 2=⟨#[50]⟩:=by unfold numS; rw [Go.Lib.decDigits_one (by decide)]; rfl
 have h:litsS (4,2) [1,2] = [⟨#[33,49]⟩,⟨#[50]⟩]:=by
  unfold litsS litS
  simp only [List.flatMap_cons,List.flatMap_nil]
  rw [n1,n2]
  rfl
 unfold textS
 show (if litsS (4,2) (mem (4 ||| 2)) = [] then _ else joinS (litsS (4,2) (mem (4 ||| 2))) ⟨#[32]⟩)=_
 rw [e1,h,if_neg (by simp)]
 rfl
theorem bf0:bfV t0 (4,2) 2=.tup [.vec ((bfL t0 ⟨true,(0,0),1,0⟩ (4,2)).map cuC) false,.val (.int .i64 0)]:=by
 unfold bfV
 rw [dif_pos (show 0≤(2:Int)∧(2:Int).toNat<t0.rs.length by decide),if_pos (by decide)]
 rfl
theorem Zhf:RuOk 3 ⟨true,(0,0),1,0⟩:=by
 have:=inC3 (c:=(0,0)) (by decide) (by decide) (by decide)
 exact⟨this.1,this.2,by decide,fun _=>rfl⟩
theorem c42:InM 62 ((4,2):Cu):=⟨by decide,by decide⟩
theorem Zg1 {S:Nat} (hS:S ||| 14=14) (hn:nextR ⟨true,(0,0),1,0⟩ S ||| 14=14):soC (bfL t0 ⟨true,(0,0),1,0⟩ (4,2)) S=(decide (nextR ⟨true,(0,0),1,0⟩ S≠S)&&hoC (4,2) (nextR ⟨true,(0,0),1,0⟩ S)):=by
 rw [Zh7 Z85 Zhf c42 hS]
 unfold t0
 rw [goodE hS,stepE hS hn]
 simp [soC]
theorem pb0 (S:List Nat):PV.agg (pbP t0 S)=.agg [.val (.int .i64 3),hierP [] S,.vec [] false,.vec [[.val (.bool false),.vec [] false,.vec [] false,.val (.int .i64 1),.val (.int .i64 0)],[.val (.bool false),.vec (words (digs 2)) false,.vec [] false,.val (.int .i64 2),.val (.int .i64 0)],[.val (.bool true),.vec [] false,.vec [] false,.val (.int .i64 1),.val (.int .i64 0)]] false,.vec [] false,.vec [[.vec (words (digs 4)) false,.vec (words (digs 2)) false]] false]:=by
 have h:ruP ⟨false,(2,0),2,0⟩ = [.val (.bool false),.vec (words (digs 2)) false,.vec (words (digs 0)) false,.val (.int .i64 2),.val (.int .i64 0)]:=rfl
 have h0:words (digs 0) = []:=by rw [ZF]; rfl
 unfold t0 tE pbP rsE
 simp only [List.map,ruP,cuC,h0]
 rfl
set_option maxRecDepth 100000 in
set_option maxHeartbeats 16000000 in
theorem Z8Y:Spec Tryz.prog 4 [] (· = .val (.bool true)):=by
 have h0:words (digs 0) = []:=by rw [ZF]; rfl
 refine Z2 ok4 (Nat.le_of_ble_eq_true rfl) fun C hC=>?_
 refine gd 15 ⟨?_⟩
 refine ZB rfl rfl Z56 trivial rfl ?_
 rintro r ⟨S,rfl⟩
 have hpp0:=ZV t0 S
 have hpp1:=ZV t1 S
 refine gd 18 ⟨?_⟩
 refine Z4 (Z2x [1] 2 (by decide +kernel) true) rfl rfl rfl ⟨Zt _,trivial⟩ rfl ?_
 refine gd 24 ⟨?_⟩
 refine Z4 (Z2x [2] 4 (by decide +kernel) true) rfl rfl rfl ⟨Zt _,trivial⟩ rfl ?_
 refine gd 26 ⟨?_⟩
 refine Z4 (Z2x [1] 2 (by decide +kernel) true) rfl rfl rfl ⟨Zt _,trivial⟩ rfl ?_
 refine gd 1 ⟨?_⟩
 refine Zc (Zbq (k:=29) (q:=.agg (pbP t0 S)) rfl (by
  rw [pb0]
  refine RenLs.agg ⟨.pure _ trivial,.pure _ (Zu _ _),.low (.vec [] true) trivial,?_,.low (.vec [] true) trivial,?_,trivial⟩
  · have := RenP.low (ρ := fun i => i) (D := fun _ => False) (.vec [[.val (.bool false), .vec [] true, .vec [] true, .val (.int .i64 1), .val (.int .i64 0)], [.val (.bool false), .vec (words (digs 2)) false, .vec [] true, .val (.int .i64 2), .val (.int .i64 0)], [.val (.bool true), .vec [] true, .vec [] true, .val (.int .i64 1), .val (.int .i64 0)]] true) (by
     show pureLL [_,[_,.vec (lowLL (words (digs 2))) false,_,_,_],_]
     rw [ZX]
     exact⟨⟨trivial,trivial,trivial,trivial,trivial,trivial⟩,⟨trivial,Z8 _,trivial,trivial,trivial,trivial⟩,⟨trivial,trivial,trivial,trivial,trivial,trivial⟩,trivial⟩)
    have e:(PV.vec [[.val (.bool false),.vec [] true,.vec [] true,.val (.int .i64 1),.val (.int .i64 0)],[.val (.bool false),.vec (words (digs 2)) false,.vec [] true,.val (.int .i64 2),.val (.int .i64 0)],[.val (.bool true),.vec [] true,.vec [] true,.val (.int .i64 1),.val (.int .i64 0)]] true).low=.vec [[.val (.bool false),.vec [] false,.vec [] false,.val (.int .i64 1),.val (.int .i64 0)],[.val (.bool false),.vec (lowLL (words (digs 2))) false,.vec [] false,.val (.int .i64 2),.val (.int .i64 0)],[.val (.bool true),.vec [] false,.vec [] false,.val (.int .i64 1),.val (.int .i64 0)]] false:=rfl
    rw [e,ZX] at this
    exact this
  · have := RenP.low (ρ := fun i => i) (D := fun _ => False) (.vec [[.vec (words (digs 4)) false, .vec (words (digs 2)) false]] true) (by
     show pureLL [[.vec (lowLL (words (digs 4))) false,.vec (lowLL (words (digs 2))) false]]
     rw [ZX,ZX]
     exact⟨⟨Z8 _,Z8 _,trivial⟩,trivial⟩)
    have e:(PV.vec [[.vec (words (digs 4)) false,.vec (words (digs 2)) false]] true).low=.vec [[.vec (lowLL (words (digs 4))) false,.vec (lowLL (words (digs 2))) false]] false:=rfl
    rw [e,ZX,ZX] at this
    exact this)) ?_
 refine gd 32 ⟨?_⟩
 refine ZB rfl rfl (Z44 Z85 (by decide) S 8 (by decide)) ⟨hpp0,trivial,trivial⟩ rfl ?_
 intro v hv
 cases hv with
 | no ks hk=>exact absurd able0 (hk.not_able Z85)
 | lim hl=>exact absurd hl (by decide)
 | yes p hp hpl =>
   obtain⟨E,hrun,hre⟩:=hp
   have hE:InS t0 E:=(Zac p .base hrun).inS Z85
   have hlen:=Z40 p
   refine gd 39 ⟨?_⟩
   refine Z4 (Z5a Z85 S) rfl rfl rfl ⟨hpp0,trivial⟩ rfl ?_
   rw [tgt0]
   refine gd 45 ⟨?_⟩
   refine Zy (Z2x [2] 4 (by decide +kernel) true) rfl rfl rfl ⟨Zt _,trivial⟩ ?_
   refine gd 47 ⟨?_⟩
   refine Zy (Z2x [1] 2 (by decide +kernel) true) rfl rfl rfl ⟨Zt _,trivial⟩ ?_
   refine gd 49 ⟨?_⟩
   refine Zy (Z8Q Z85 S (4,2) ⟨by decide,by decide⟩ (by decide) (fun _=>c42) 2) rfl rfl rfl ⟨hpp0,Zp _,trivial,trivial⟩ ?_
   rw [bf0]
   have hb6:=Zg1 (S:=6) (by decide) (by decide)
   have hb4:=Zg1 (S:=4) (by decide) (by decide)
   have hb64:=Z2Z fun c hc=>((Zh8 Z85 Zhf c42).1 c hc).1
   generalize bfL t0 ⟨true,(0,0),1,0⟩ (4,2)=L at hb6 hb4 hb64 ⊢
   refine gd 55 ⟨?_⟩
   refine Z4 (Ze8 Z85 S p false (by omega) hrun) rfl rfl rfl ⟨hpp0,Z1x _,trivial⟩ rfl ?_
   refine gd 81 ⟨?_⟩
   refine Zq rfl ?_
   refine Z3 (Z9 (v:=false) rfl (by rw [hlen]; simp)) rfl rfl ?_
   refine gd 86 ⟨?_⟩
   refine Zq rfl ?_
   refine Z4 (Z6f Z85 S E (hE.lt (by decide))) rfl rfl rfl ⟨hpp0,Z1 _,trivial⟩ rfl ?_
   rw [hre]
   refine gd 98 ⟨?_⟩
   refine Zq rfl ?_
   refine Z4 (Zcu (4,2) ⟨by decide,by decide⟩) rfl rfl rfl ⟨Zp _,trivial⟩ rfl ?_
   rw [text0]
   refine gd 99 ⟨?_⟩
   refine Zq rfl ?_
   refine Z3 (Z9 (v:=false) rfl (by simp)) rfl rfl ?_
   refine gd 104 ⟨?_⟩
   refine Zq rfl ?_
   refine Z4 (Z2x [1,2] 6 (by decide +kernel) true) rfl rfl rfl ⟨Zt _,trivial⟩ rfl ?_
   refine Zq rfl ?_
   refine Z4 (Z1B L false 6 hb64 (by decide)) rfl rfl rfl ⟨Z0 _,Z1 _,trivial⟩ rfl ?_
   rw [hb6]
   refine gd 111 ⟨?_⟩
   refine Zq rfl ?_
   refine Z4 (Z2x [2] 4 (by decide +kernel) true) rfl rfl rfl ⟨Zt _,trivial⟩ rfl ?_
   refine Zq rfl ?_
   refine Z4 (Z1B L false 4 hb64 (by decide)) rfl rfl rfl ⟨Z0 _,Z1 _,trivial⟩ rfl ?_
   rw [hb4]
   refine gd 115 ⟨?_⟩
   refine Z4 (Z2x [1,2] 6 (by decide +kernel) true) rfl rfl rfl ⟨Zt _,trivial⟩ rfl ?_
   refine gd 118 ⟨?_⟩
   refine Zc (Zbq (k:=117) (q:=.vec ([((6,0):Cu)].map cuC) false) rfl (by
    have e:PV.vec ([((6,0):Cu)].map cuC) false=(PV.vec [[.vec (words (digs 6)) false,.vec [] true]] true).low:=by
     show PV.vec [[.vec (words (digs 6)) false,.vec (words (digs 0)) false]] false=PV.vec [[.vec (lowLL (words (digs 6))) false,.vec [] false]] false
     rw [ZX,h0]
    rw [e]
    refine .low _ ?_
    show (PV.vec [[.vec (words (digs 6)) false,.vec [] true]] true).low.pure
    rw [← e]
    exact Z0 _)) ?_
   refine gd 121 ⟨?_⟩
   refine ZB rfl rfl (Z44 Zcv (by decide) S 8 (by decide)) ⟨hpp1,trivial,trivial⟩ rfl ?_
   intro v hv
   cases hv with
   | lim hl=>exact absurd hl (by decide)
   | yes p hp hpl=>exact absurd (Z6q (hp.able Zcv)) (by decide)
   | no ks hk =>
     have s4:soC (kcs ks) 4=true:=(hk.able_iff Zcv (by show _ ||| 14=14; decide)).2 (.base (by show _ ||| 14=14; decide) (by unfold t1; rw [goodE (by decide)]; decide) (by unfold t1; rw [reachE (by decide)]; decide))
     have s2:soC (kcs ks) 2=false:=Bool.eq_false_iff.2 fun h=>absurd (Z6q ((hk.able_iff Zcv (by show _ ||| 14=14; decide)).1 h)) (by decide)
     have s0:soC (kcs ks) 0=false:=Bool.eq_false_iff.2 fun h=>absurd (Z6q ((hk.able_iff Zcv (by show _ ||| 14=14; decide)).1 h)) (by decide)
     have hk64:=hk.inv.c64
     refine gd 135 ⟨?_⟩
     refine Zq rfl ?_
     refine Z4 (Z2x [2] 4 (by decide +kernel) true) rfl rfl rfl ⟨Zt _,trivial⟩ rfl ?_
     refine Zq rfl ?_
     refine Z4 (Z1B (kcs ks) false 4 hk64 (by decide)) rfl rfl rfl ⟨Z0 _,Z1 _,trivial⟩ rfl ?_
     rw [s4]
     refine gd 141 ⟨?_⟩
     refine Zq rfl ?_
     refine Z4 (Z2x [1] 2 (by decide +kernel) true) rfl rfl rfl ⟨Zt _,trivial⟩ rfl ?_
     refine Zq rfl ?_
     refine Z4 (Z1B (kcs ks) false 2 hk64 (by decide)) rfl rfl rfl ⟨Z0 _,Z1 _,trivial⟩ rfl ?_
     rw [s2]
     refine gd 148 ⟨?_⟩
     refine Zq rfl ?_
     refine ZbJ (Z1B (kcs ks) false 0 hk64 (by decide)) rfl rfl (by
      show [PV.vec (lowLL ((kcs ks).map cuC)) false,.agg [.vec [] false]] = [_,setN 0]
      rw [Z2X,ZfY]) ⟨Z0 _,Z1 _,trivial⟩ rfl ?_
     rw [s0]
     refine go ?_
     exact Z6 rfl trivial rfl
theorem Zg2 {t:PB} (h:PbOk t) {L:List FE} (h2:∀ e∈L,Rch t e.s) (h3:(L.map FE.s).Nodup):L.length≤2 ^ t.n:=by
 have:=Zad (t:=t) h3 fun s hs=>by
  obtain⟨e,he,rfl⟩:=List.mem_map.1 hs
  exact (h2 e he).inS h
 rwa [List.length_map] at this
set_option maxHeartbeats 4000000 in
theorem Z45 (p:List Nat) (fl:Bool) (hp:Bytes p):Spec Tryz.prog 3 [.vec (bys p) fl] (· = .val (.bool true)):=by
 refine Z2 ok3 (Nat.le_of_ble_eq_true rfl) fun C hC=>?_
 refine gd 12 ⟨?_⟩
 refine Z4 Z8Y rfl rfl rfl trivial rfl ?_
 refine gd 16 ⟨?_⟩
 refine ZB rfl rfl (Zce p fl hp) ⟨Z4x p,trivial⟩ rfl ?_
 rintro r ⟨t,S,hmk,rfl⟩
 have h:=hmk.ok
 have hn:=hmk.n.2
 have hpp:=ZV t S
 have h32:2 ^ t.n≤32:=Nat.pow_le_pow_right (n:=2) (by decide) hn
 refine gd 22 ⟨?_⟩
 refine ZB rfl rfl (Z44 h hn S 64 (by decide)) ⟨hpp,trivial,trivial⟩ rfl ?_
 intro v hv
 cases hv with
 | lim hl=>exact absurd hl (by omega)
 | yes q hq hql =>
   have hab:=hq.able h
   have hlen:=Z40 q
   refine gd 29 ⟨?_⟩
   refine ZB rfl rfl (Z7f h hn S 64 (by decide)) ⟨hpp,trivial,trivial⟩ rfl ?_
   intro v hv
   cases hv with
   | lim L h1 h2 h3=>have:=Zg2 h h2 h3; exact absurd h1 (by omega)
   | no n hno=>exact absurd hab hno
   | yes n q2 f2 hq2 hs hl2 =>
     have hle:=hs q hq
     have hlen2:=Z40 q2
     refine gd 53 ⟨?_⟩
     refine Zq rfl ?_
     refine Zm (v:=(q2.length:Int)) rfl rfl rfl (by rw [hlen2]) ?_
     refine gd 55 ⟨?_⟩
     refine Zq rfl ?_
     refine Zm (v:=(q.length:Int)) rfl rfl rfl (by rw [hlen]) ?_
     refine Zq rfl ?_
     refine Z3 (Z9 (v:=true) rfl (decide_eq_true (by omega))) rfl rfl ?_
     refine go ?_
     exact Z6 rfl trivial rfl
 | no ks hk =>
   have hab:=hk.not_able h
   refine gd 29 ⟨?_⟩
   refine ZB rfl rfl (Z7f h hn S 64 (by decide)) ⟨hpp,trivial,trivial⟩ rfl ?_
   intro v hv
   cases hv with
   | lim L h1 h2 h3=>have:=Zg2 h h2 h3; exact absurd h1 (by omega)
   | yes n q2 f2 hq2 hs hl2=>exact absurd (hq2.able h) hab
   | no n hno =>
     refine go ?_
     exact Z6 rfl trivial rfl
end Go.Proofs.YtcgaocnjebhimaaGreatDoor
namespace Go.Proofs.YtcgaocnjebhimaaGreatDoor
open Go.ChangeShapes Go.WideShapes Go.ChangeAt Go.RowKit
theorem Zbr {α:Type} {enc:α→List PV} {Q:α→Prop}:∀ {ll:List (List PV)},(∀ l∈ll,∃ x,Q x∧l=enc x)→∃ xs:List α,(∀ x∈xs,Q x)∧ll=xs.map enc
 | [],_=>⟨[],fun _ h=>(by cases h),rfl⟩
 | l :: ll, h => by
   obtain⟨x,h1,rfl⟩:=h l (List.mem_cons_self ..)
   obtain⟨xs,h2,rfl⟩:=Zbr fun l hl=>h l (List.mem_cons_of_mem _ hl)
   refine⟨x :: xs,fun y hy=>?_,rfl⟩
   rcases List.mem_cons.1 hy with rfl|hy
   · exact h1
   · exact h2 y hy
theorem Zao {P:Program} {s:TypeId}:∀ {ps:List PV},ShapeVs P [s] ps→∃ a,ps = [a]∧ShapeV P s a
 | [a],⟨h,_⟩=>⟨a,rfl,h⟩
theorem Zhg {m:Int} (h:(Lit.int .u8 m).wf=true):∃ a:Nat,a<256∧m=(a:Int):=by
 simp only [Lit.wf,Bool.and_eq_true,decide_eq_true_eq] at h
 obtain⟨h1,h2⟩:=h
 have h3:m≤255:=h2
 have h4:0≤m:=h1
 exact⟨m.toNat,by omega,by omega⟩
theorem ZfH {n:Nat} {l:List PV} (h:Shape Tryz.prog n 5 l):∃ x:Nat,x≤255∧l = [PV.val (.int .u8 (x:Int))]:=by
 obtain⟨m1,w1,e1⟩:=Zeh h (k:=.u8) (by kernel_rfl)
 obtain⟨x,hx,rfl⟩:=Zhg w1
 exact⟨x,by omega,e1⟩
theorem Zap {p:PV} (h:ShapeV Tryz.prog 22 p):∃ (l:List Nat) (fl:Bool),Bytes l∧p=.vec (bys l) fl:=by
 obtain⟨n,ll,fl,_,h2,rfl⟩:=Z8Z h (e:=5) (by kernel_rfl)
 obtain⟨xs,h3,rfl⟩:=Zbr (enc:=fun (x:Nat) => [PV.val (.int .u8 (x:Int))]) (Q:=fun (x:Nat)=>x≤255) fun l hl=>ZfH (h2 l hl)
 exact⟨xs,fl,h3,rfl⟩
theorem Z3K:∀ ps,ShapeVs Tryz.prog Tryz.f3.params.toList ps→pureL ps→Spec Tryz.prog 3 ps (· = .val (.bool true)):=by
 intro ps hs hp
 rw [show Tryz.f3.params.toList = [22] by kernel_rfl] at hs
 obtain⟨a,rfl,k0⟩:=Zao hs
 obtain⟨x0,f0,h0,rfl⟩:=Zap k0
 exact Z45 x0 f0 h0
set_option maxRecDepth 100000 in
theorem Z33 (os:Os) (started:os.Started) (H:Type) (enc:TypeId×Value→H) :
 ReturnsInHanded {} Tryz.checked os 3 .any (fun w args=>(Rows.backwardForwardSpec.pre enc Tryz.prog Tryz.f3 [] false w args∧laidMetH Tryz.prog laidV w)∧sizedMet enc Tryz.prog Tryz.f3 (OpenSpec.ofChange Rows.backwardForwardSpec) false w args)
  (Rows.backwardForwardSpec.post enc Tryz.prog Tryz.f3 false true false false):=by
 refine returnsInHanded_of_change_and (C:=Tryz.checked) (X:=fun w _=>laidMetH Tryz.prog laidV w) (fun _ _ _ hh h=>h.of_heap hh) own started (by kernel_rfl) Tryz.func3
  (ChangeSpec.witness_shaped (enc:=enc) (C:=Tryz.checked) (os:=os) (X:=fun w _=>laidMetH Tryz.prog laidV w) false (World.doorLaid Tryz.prog 400 os) #[.slice none 0 0] 8 rfl (World.shaped_of_RefB (by kernel_rfl) (by kernel_rfl)) (by kernel_rfl) (by kernel_rfl) (by kernel_rfl) (ZeI os _)) ?_
 intro W base args ds gs before hval hW _ hwt hL _
 exact Z8l (P:=Tryz.prog) (G:=partsG Tryz.prog Tryz.f3.params.toList) (by kernel_rfl) (ZgO (by kernel_rfl)) laidOut (Zd3 (by kernel_rfl)) (tb:=4) (by kernel_rfl) (by kernel_rfl) rfl (fun ds hd=>by
  match ds,hd with
  | [a],_=>exact⟨rfl,rfl,rfl⟩) Z3K W (ZeK hL) base args ds gs before hval hW hwt
theorem Z3m:Rows.BackwardForwardSaid :=
 OpenClaim.holds_of_wide 3 Tryz.f3 rfl rfl rfl rfl rfl rfl rfl ⟨rfl,rfl,rfl,rfl,rfl⟩ rfl rfl rfl rfl rfl (by kernel_rfl) Tryz.func3 (by kernel_rfl)
  (of_decide_eq_true (by kernel_rfl)) (by unfold Func.isWrapper; first|(rw [if_pos (by decide +kernel)]; kernel_rfl)|(rw [if_neg (by decide +kernel)]; exact⟨rfl,rfl⟩))
  (fun os started H enc _=>Z33 os started H enc)
theorem backwardForward_card:Rows.BackwardForwardCardSaid :=
 Claim7.holds_tied_plain_at .later [] [.data,.data,.data] true (true, "b81fa3674be2336321b0af3004cb9a82930f48319052266457032607a354b19f") false
  Z3m (fun _ h=>by cases h) (by kernel_rfl) (fun _ h=>by cases h) backwardForward_row_tie rfl ⟨rfl,rfl⟩ (by kernel_rfl) rfl
  (fun f fn hf hfn => by
    obtain rfl : f = 3 := Option.some.inj ((show Tryz.prog.funcNamed "arbac/arbaclaw34.BackwardForward" = some 3 by kernel_rfl).symm.trans hf) |>.symm
    obtain rfl:fn=Tryz.f3:=(Option.some.inj (Tryz.func3.symm.trans hfn)).symm
    exact⟨by kernel_rfl,fun j t ht=>by
     rw [show Tryz.f3.params = #[22] by kernel_rfl] at ht
     have hm:t∈[22]:=by simpa using Array.mem_of_getElem? ht
     have hall:([22].all fun u => !Tryz.prog.wantsStandIn u)=true:=by kernel_rfl
     exact (show Tryz.prog.wantsStandIn t=false by simpa using List.all_eq_true.1 hall t hm)⟩)
  (by kernel_rfl)
#print axioms backwardForward_card
end Go.Proofs.YtcgaocnjebhimaaGreatDoor
