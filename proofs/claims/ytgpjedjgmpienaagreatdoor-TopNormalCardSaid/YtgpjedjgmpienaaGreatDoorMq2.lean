/-
  Merged from the texts that this claim's theorem needs, part 3 of 8. No statement of the seat is proved here.
-/
import Derived.Carry
import Derived.IntWalk
import Derived.KernelRfl
import Derived.LaidMore
import Derived.OpenShut
import Derived.ProofKit
import Derived.SizedLaws
import Derived.Test.YtgpjedjgmpienaaGreatDoorProg
import Derived.Test.YtgpjedjgmpienaaGreatDoorRows
import Derived.WalkSmall
import Derived.Test.YtgpjedjgmpienaaGreatDoorMq1
set_option linter.unusedSimpArgs false
set_option linter.unusedVariables false
set_option linter.unusedSectionVars false
set_option linter.defProp false
set_option maxRecDepth 100000
set_option maxHeartbeats 16000000
namespace Go.Proofs.YtgpjedjgmpienaaGreatDoor
section
open Go.RowKit
structure Br (b:Bool) (p q:Prop):Prop where
 yes:b=true->p
 no:b=false->q
theorem B {b:Bool} {p q:Prop} (h1:b=true->p) (h2:b=false->q):Br b p q:=⟨h1,h2⟩
def PV.isB:PV->Bool
 | .val (.bool _)=>true
 | _=>false
section
variable {P:Program} {C:Ctx} {n:Nat} {e:Env} {h:X0} {Q:Exit->Nat->Env->X0->Prop} {os:List Xm} {d:Option Nat} {K:Nat->Env->X0->Prop} {z:Rsv} {KD:Env->X0->Prop} {q1 q2:Prop}
theorem Zbi {op:AOp} {p:PV} {h':X0} (hd:X1 op e h n=some (p,h')) (hb:p.isB=false) (hn:X6 op=false) (hz:h' n=none) (hk:Xj P os n (Xq e d p) h' K):Xj P (⟨d,op,none⟩ :: os) n e h K:=Z3 hd hn hz hk
theorem ZfI {op:AOp} {b:Bool} {h':X0} (hd:X1 op e h n=some (.val (.bool b),h')) (hn:X6 op=false) (hz:h' n=none) (h1:q1->Xj P os n (Xq e d (.val (.bool true))) h' K) (h2:q2->Xj P os n (Xq e d (.val (.bool false))) h' K)   : Br b q1 q2->Xj P (⟨d,op,none⟩ :: os) n e h K :=
 fun hq=>Zx hd hn hz (fun hb=>h1 (hq.yes hb)) fun hb=>h2 (hq.no hb)
theorem Z3V {op:AOp} {h':X0} (v:Bool) (hd:X1 op e h n=some (.val (.bool v),h')) (hn:X6 op=false) (hz:h' n=none) (hk:Xj P os n (Xq e d (.val (.bool v))) h' K):Xj P (⟨d,op,none⟩ :: os) n e h K:=Z3 hd hn hz hk
theorem Zjt {i mask:Nat} {op:AOp} {iso:Nat} {xs:List X5} {p:PV} {h':X0} (hd:X1 op e h (n+i)=some (p,h')) (hb:p.isB=false) (ha:X10 z op e n i mask iso=true) (hn:X6 op=false) (hk:dK P z n xs (Xq e d p) h' KD):dK P z n (⟨i,⟨d,op,none⟩,mask,iso,false⟩ :: xs) e h KD:=Zu hd ha hn hk
theorem Z7z {i mask:Nat} {op:AOp} {iso:Nat} {xs:List X5} {h':X0} (v:Bool) (hd:X1 op e h (n+i)=some (.val (.bool v),h')) (ha:X10 z op e n i mask iso=true) (hn:X6 op=false) (hk:dK P z n xs (Xq e d (.val (.bool v))) h' KD):dK P z n (⟨i,⟨d,op,none⟩,mask,iso,false⟩ :: xs) e h KD:=Zu hd ha hn hk
theorem Zki {i mask:Nat} {op:AOp} {iso:Nat} {xs:List X5} {b:Bool} {h':X0} (hd:X1 op e h (n+i)=some (.val (.bool b),h')) (ha:X10 z op e n i mask iso=true) (hn:X6 op=false) (h1:q1->dK P z n xs (Xq e d (.val (.bool true))) h' KD) (h2:q2->dK P z n xs (Xq e d (.val (.bool false))) h' KD)   : Br b q1 q2->dK P z n (⟨i,⟨d,op,none⟩,mask,iso,false⟩ :: xs) e h KD :=
 fun hq=>Zbg hd ha hn (fun hb=>h1 (hq.yes hb)) fun hb=>h2 (hq.no hb)
theorem Zkj {c:Operand} {x y:X3} {b:Bool} (hc:ev e c=some (.val (.bool b))) (h1:q1->aw P C x Q n e h) (h2:q2->aw P C y Q n e h)   : Br b q1 q2->aw P C (.cond c x y) Q n e h:=fun hq=>Z8f hc (fun hb=>h1 (hq.yes hb)) fun hb=>h2 (hq.no hb)
end
theorem go {p q:Prop} (hk:q) (hr:q->p:=by
 intro hq
 repeat' (first
  | (show Xj _ _ _ _ _ _; first|refine Zbi rfl rfl rfl rfl ?_|refine Z1h ?_|refine Zj rfl ?_|refine Z8l rfl ?_|refine Z3V true rfl rfl rfl ?_|refine Z3V false rfl rfl rfl ?_|(revert hq; refine' ZfI rfl rfl rfl _ _<;>first|intro hq|skip)|refine ZB rfl rfl rfl ?_)
  | (show aw _ _ _ _ _ _ _; first|refine Zn ?_|refine Z8 ?_|refine Z18 [] ?_|refine Z8m rfl ?_|refine Z8n rfl ?_|(revert hq; refine' Zkj rfl _ _<;>first|intro hq|skip)|refine Z8g ?_|refine Zbc ?_|refine Zbd ?_|refine ZfA ?_)
  | (show dK _ _ _ _ _ _ _; first|refine Zjt rfl rfl rfl rfl ?_|refine Z6k ?_|refine Z27 rfl ?_|refine ZfH ⟨_,rfl,nofun⟩ ?_|refine Z7z true rfl rfl rfl ?_|refine Z7z false rfl rfl rfl ?_|(revert hq; refine' Zki rfl rfl rfl _ _<;>first|intro hq|skip)))
 all_goals first|exact hq|skip):p:=hr hk
theorem st {p q:Prop} (hk:q) (hr:q->p:=by
 intro hq
 (first
   | (show Xj _ _ _ _ _ _; first|refine Zbi rfl rfl rfl rfl ?_|refine Z1h ?_|refine Zj rfl ?_|refine Z8l rfl ?_|refine Z3V true rfl rfl rfl ?_|refine Z3V false rfl rfl rfl ?_|(revert hq; refine' ZfI rfl rfl rfl _ _<;>first|intro hq|skip)|refine ZB rfl rfl rfl ?_)
   | (show aw _ _ _ _ _ _ _; first|refine Zn ?_|refine Z8 ?_|refine Z18 [] ?_|refine Z8m rfl ?_|refine Z8n rfl ?_|(revert hq; refine' Zkj rfl _ _<;>first|intro hq|skip)|refine Z8g ?_|refine Zbc ?_|refine Zbd ?_|refine ZfA ?_)
   | (show dK _ _ _ _ _ _ _; first|refine Zjt rfl rfl rfl rfl ?_|refine Z6k ?_|refine Z27 rfl ?_|refine ZfH ⟨_,rfl,nofun⟩ ?_|refine Z7z true rfl rfl rfl ?_|refine Z7z false rfl rfl rfl ?_|(revert hq; refine' Zki rfl rfl rfl _ _<;>first|intro hq|skip)))
 all_goals first|exact hq|skip):p:=hr hk
structure At (p:Prop):Prop where
 h:p
theorem Z1 {P:Program} (k:Nat) {op:AOp} {g:Option (Nat×Bool)} {os:List Xm} {n:Nat} {e:Env} {h:X0} {K:Nat->Env->X0->Prop} (hk:At (Xj P (⟨some k,op,g⟩ :: os) n e h K)):Xj P (⟨some k,op,g⟩ :: os) n e h K:=hk.h
theorem Z0 {P:Program} (k:Nat) {z:Rsv} {i mask iso:Nat} {alt:Bool} {op:AOp} {g:Option (Nat×Bool)} {xs:List X5} {n:Nat} {e:Env} {h:X0} {K:Env->X0->Prop} (hk:At (dK P z n (⟨i,⟨some k,op,g⟩,mask,iso,alt⟩ :: xs) e h K)):dK P z n (⟨i,⟨some k,op,g⟩,mask,iso,alt⟩ :: xs) e h K:=hk.h
structure AtK (k:Nat) (p:Prop):Prop where
 h:p
theorem Zl5 {P:Program} {k:Nat} {op:AOp} {g:Option (Nat×Bool)} {os:List Xm} {n:Nat} {e:Env} {h:X0} {K:Nat->Env->X0->Prop} (hk:AtK k (Xj P (⟨some k,op,g⟩ :: os) n e h K)):Xj P (⟨some k,op,g⟩ :: os) n e h K:=hk.h
theorem ZkS {P:Program} {k:Nat} {z:Rsv} {i mask iso:Nat} {alt:Bool} {op:AOp} {g:Option (Nat×Bool)} {xs:List X5} {n:Nat} {e:Env} {h:X0} {K:Env->X0->Prop} (hk:AtK k (dK P z n (⟨i,⟨some k,op,g⟩,mask,iso,alt⟩ :: xs) e h K)):dK P z n (⟨i,⟨some k,op,g⟩,mask,iso,alt⟩ :: xs) e h K:=hk.h
theorem gd (k:Nat) {p q:Prop} (hk:AtK k q) (hr:AtK k q->p:=by
 intro hq
 repeat' (first
  | exact Zl5 hq
  | exact ZkS hq
  | (show Xj _ _ _ _ _ _; first|refine Zbi rfl rfl rfl rfl ?_|refine Z1h ?_|refine Zj rfl ?_|refine Z8l rfl ?_|refine Z3V true rfl rfl rfl ?_|refine Z3V false rfl rfl rfl ?_|refine ZB rfl rfl rfl ?_)
  | (show aw _ _ _ _ _ _ _; first|refine Zn ?_|refine Z8 ?_|refine Z18 [] ?_|refine Z8m rfl ?_|refine Z8n rfl ?_|refine Z8g ?_|refine Zbc ?_|refine Zbd ?_|refine ZfA ?_)
  | (show dK _ _ _ _ _ _ _; first|refine Zjt rfl rfl rfl rfl ?_|refine Z6k ?_|refine Z27 rfl ?_|refine ZfH ⟨_,rfl,nofun⟩ ?_|refine Z7z true rfl rfl rfl ?_|refine Z7z false rfl rfl rfl ?_))
 done):p:=hr hk
end
section
open Go.RowKit Go.ChangeShapes
def X1I (w:World):XC:=fun x=>match x.spot with
 | none => match w.cell? x with
   | some v=>if v.oneCell' then some v else none
   | none=>none
 | some _=>none
def X3D (w:World):Prop:=∀ (g j:Nat) (v:Value),(X3t g)[j]?=some v->w.cell? ⟨g,j,none⟩=some v
theorem Zbj {w:World} (hgl:X3D w):Holds (X1I w) w:=by
 refine⟨?_,fun g j v hv=>by
  have h1:=hgl g j v hv;have h2:=Zfb g j v hv
  simp [X1I,h1,h2]⟩
 intro x v hx;unfold X1I at hx
 split at hx
 . rename_i hs
   split at hx
   . rename_i u hu
     split at hx
     . rename_i h1;cases hx;exact⟨hs,h1,hu⟩
     . cases hx
   . cases hx
 . cases hx
theorem ZhP {w:World} {b o:Nat} {v:Value} (hc:w.cell? ⟨b,o,none⟩=some v) (h1:v.oneCell'=true):X1I w ⟨b,o,none⟩=some v:=by
 simp [X1I,hc,h1]
def XL (P:Program):Nat->TypeId->List PV->Prop
 | 0,_,_=>False
 | n + 1, t, ps => match P.underlying t with
   | some .bool=>∃ b,ps = [.val (.bool b)]
   | some (.int k)=>∃ m,(Lit.int k m).wf=true/\ps = [.val (.int k m)]
   | some .string=>∃ s,s.size<=Xd/\ps = [.val (.string s)]
   | some (.pointer e)=>ps = [.val (.pointer none)] \/ ∃ l,XL P n e l/\ps = [.cp l]
   | some (.slice e)=>∃ ll fl,ll.length<=Xd/\(∀ l∈ll,XL P n e l)/\ps = [.vec ll fl]
   | some (.struct fs)=>ps.length=P.cellsOf t/\∀ f∈fs.toList,XL P n f.type ((ps.drop f.offset).take (P.cellsOf f.type))
   | some (.array m e)=>ps.length=P.cellsOf t/\∀ i,i<m->XL P n e ((ps.drop (i*P.cellsOf e)).take (P.cellsOf e))
   | _=>∃ v,ps = [.val v]
theorem mapM_some' {α β:Type} {f:α->Option β}:∀ {l:List α} {ys:List β},l.mapM f=some ys->ys.length=l.length/\∀ i (h:i<l.length) (h':i<ys.length),f l[i]=some ys[i]
 | [], ys, h => by
   obtain rfl : []=ys:=by simpa using h
   exact⟨rfl,fun i hi=>absurd hi (YR _)⟩
 | a :: l, ys, h => by
   rw [List.mapM_cons] at h;cases ha:f a with
   | none=>simp [ha] at h
   | some b =>
     cases hl:l.mapM f with
     | none=>simp [ha,hl] at h
     | some bs =>
       obtain rfl:b :: bs=ys:=by simpa [ha,hl] using h
       obtain⟨h1,h2⟩:=mapM_some' hl;refine⟨by simp [h1],fun i hi hi'=>?_⟩;cases i with
       | zero=>simpa using ha
       | succ i=>simpa using h2 i (by simpa using hi) (by simpa using hi')
theorem cells?_some {w:World} {a:Addr} {n:Nat} {cs:List Value} (h:w.cells? 0 a n=some cs):cs.length=n/\∀ j,(hj:j<cs.length)->w.cell? (a.add j)=some cs[j]:=by
 unfold World.cells? at h;rw [Y7 (Y0l _)] at h;obtain⟨h1,h2⟩:=mapM_some' h;have hn:cs.length=n:=by simpa using h1
 refine⟨hn,fun j hj=>?_⟩;have:=h2 j (by simp;omega) hj;simpa using this
structure X18 (w:World) (cs:List Value) (ps:List PV):Prop where
 len:cs.length=ps.length
 one:∀ j,j<ps.length->(cs.getD j undef).oneCell'=true
 rep:∀ j,j<ps.length->Rep (X1I w) Xz (cs.getD j undef) (ps.getD j pvu)
 pure:Xe ps
theorem X18.single {w:World} {v:Value} {p:PV} (h1:v.oneCell'=true) (hr:Rep (X1I w) Xz v p) (hp:p.pure):X18 w [v] [p] :=
 ⟨rfl, fun j hj => by obtain rfl : j = 0 := by simpa using hj
                      exact h1, fun j hj => by obtain rfl : j = 0 := by simpa using hj
                                               exact hr,hp,Yt⟩
theorem X18.nil {w:World}:X18 w [] []:=⟨rfl,fun j hj=>absurd hj (YR _),fun j hj=>absurd hj (YR _),Yt⟩
theorem X18.append {w:World} {cs cs':List Value} {ps ps':List PV} (h:X18 w cs ps) (h':X18 w cs' ps'):X18 w (cs++cs') (ps++ps'):=by
 refine⟨by simp [h.len,h'.len],fun j hj=>?_,fun j hj=>?_,(Z3L _ _).2 fun p hp=>?_⟩
 . by_cases hl : j < ps.length
   . have := h.one j hl;simpa [Y0b,Y1Z,h.len,hl] using this
   . have := h'.one (j - ps.length) (by simp at hj; omega);simpa [Y0b,Y1Z,h.len,hl] using this
 . by_cases hl : j < ps.length
   . have := h.rep j hl;simpa [Y0b,Y1Z,h.len,hl] using this
   . have := h'.rep (j - ps.length) (by simp at hj; omega);simpa [Y0b,Y1Z,h.len,hl] using this
 . rcases Y0h.1 hp with hp | hp
   . exact (Z3L _ _).1 h.pure p hp
   . exact (Z3L _ _).1 h'.pure p hp
def X65 (P:Program) (off:Nat) (total:Nat):List Field->Bool
 | []=>off == total
 | f :: r=>f.offset == off&&X65 P (off+P.cellsOf f.type) total r
def X4z (P:Program) (G:List TypeId) (t:TypeId):Bool:=match P.underlying t with
 | some (.struct fs)=>X65 P 0 (P.cellsOf t) fs.toList&&fs.toList.all fun f=>G.contains f.type
 | some (.array m e)=>P.cellsOf t == m*P.cellsOf e&&G.contains e
 | some (.slice e)=>decide (0<P.bytesOf e)&&decide (0<P.cellsOf e)&&G.contains e
 | some (.pointer e)=>decide (0<P.cellsOf e)&&G.contains e
 | _=>true
def X3u (P:Program) (G:List TypeId):Bool:=G.all (X4z P G)
theorem ZfJ {P:Program} {G:List TypeId} (h:X3u P G=true) {t:TypeId} (ht:G.contains t=true):X4z P G t=true:=YA.1 h t (by simpa using ht)
def X5Q (P:Program) (ts:List TypeId):List TypeId:=ts.flatMap P.book
theorem Z5C {P:Program} {w:World} {S:TypeId->List PV->Prop} {cs:List Value}:∀ {fs:List Field} {off total:Nat},X65 P off total fs=true->cs.length=total ->
 (∀ f∈fs,∃ ps,S f.type ps/\X18 w ((cs.drop f.offset).take (P.cellsOf f.type)) ps)->off<=total/\∃ ps,X18 w (cs.drop off) ps/\∀ f∈fs,off<=f.offset/\S f.type ((ps.drop (f.offset-off)).take (P.cellsOf f.type))
 | [], off, total, ht, hl, _ => by
   obtain rfl:off=total:=by simpa [X65] using ht
   refine⟨Y0m _,[],?_,fun f hf=>by cases hf⟩;rw [Y3n (by omega)];exact .nil
 | f :: r, off, total, ht, hl, hf => by
   simp only [X65,Y0k,Y1s] at ht;obtain⟨rfl,ht⟩:=ht;obtain⟨hle,ps2,hc2,hs2⟩:=Z5C ht hl fun g hg=>hf g (by simp [hg]);obtain⟨ps1,hs1,hc1⟩:=hf f (by simp);have hl1:ps1.length=P.cellsOf f.type:=by rw [<- hc1.len]; simp; omega
   refine⟨by omega,ps1++ps2,?_,fun g hg=>?_⟩
   . have := hc1.append hc2;rw [<- Y2k,Y1D] at this;exact this
   . rcases Ye.1 hg with rfl | hg
     . refine ⟨Y0m _, ?_⟩;rw [Y2E,Y2D,<- hl1,List.take_left];exact hs1
     . obtain ⟨h1, h2⟩ := hs2 g hg;refine⟨by omega,?_⟩;have e:g.offset-f.offset=ps1.length+(g.offset-(f.offset+P.cellsOf f.type)):=by omega
       rw [e,<- Y2k,Y3y];exact h2
theorem Z6l {w:World} {S:List PV->Prop} {cs:List Value} {sz:Nat}:∀ {m:Nat},cs.length=m*sz->(∀ i,i<m->∃ ps,S ps/\X18 w ((cs.drop (i*sz)).take sz) ps)->∃ ps,X18 w cs ps/\∀ i,i<m->S ((ps.drop (i*sz)).take sz)
 | 0, hl, _ => by
   obtain rfl:cs = []:=YD (by simpa using hl);exact⟨[],.nil,fun i hi=>absurd hi (YR _)⟩
 | m + 1, hl, hf => by
   have hlm:(cs.take (m*sz)).length=m*sz:=by rw [Y0o,hl]; exact Y2v (YM _ (by omega))
   obtain⟨ps1,hc1,hs1⟩:=Z6l (cs:=cs.take (m*sz)) hlm fun i hi=>by
    obtain⟨ps,h1,h2⟩:=hf i (by omega);refine⟨ps,h1,?_⟩
    rw [Y4o,List.take_take,Y2v (by
     have:(i+1)*sz<=m*sz:=YM _ hi
     rw [Y1i] at this;omega)]
    exact h2
   obtain⟨ps2,hs2,hc2⟩:=hf m (by omega);have hl1:ps1.length=m*sz:=by rw [<- hc1.len,hlm]
   have hd:(cs.drop (m*sz)).take sz=cs.drop (m*sz):=Y2a (by rw [Y17,hl,Y1i];omega);rw [hd] at hc2;have hl2:ps2.length=sz:=by rw [<- hc2.len,Y17,hl,Y1i]; omega
   refine⟨ps1++ps2,by have:=hc1.append hc2; rwa [Y1D] at this,fun i hi=>?_⟩;by_cases him:i<m
   . have hle : i * sz + sz <= ps1.length := by
      have:(i+1)*sz<=m*sz:=YM _ him;rw [Y1i] at this; omega
     rw [List.drop_append_of_le_length (by omega),Y48 (by rw [Y17];omega)];exact hs1 i him
   . obtain rfl : i = m := by omega
     rw [<- hl1,Y3y,Y2a (by omega)];exact hs2
theorem Z2O {H:Type} {P:Program} {e:TypeId}:∀ {ds:List (DataW H)} {d:DataW H},d∈ds->∀ x∈d.weights P e,x∈DataW.weightsAll P e ds
 | [],_,h,_,_=>by cases h
 | a :: r, d, h, x, hx => by
   rw [DataW.weightsAll,Y0h];rcases Ye.1 h with rfl|h
   . exact .inl hx
   . exact .inr (Z2O h x hx)
theorem Z3t {H:Type} {P:Program}:∀ {ts:List TypeId} {ds:List (DataW H)} {i:Nat} {t:TypeId} {d:DataW H},ts[i]?=some t->ds[i]?=some d->∀ x∈d.weights P t,x∈DataW.weightsEach P ts ds
 | [],_,i,t,d,h,_,_,_=>by simp at h
 | a :: ts,[],i,t,d,_,h,_,_=>by simp at h
 | a :: ts, b :: ds, 0, t, d, h, h', x, hx => by
   obtain rfl:a=t:=by simpa using h
   obtain rfl:b=d:=by simpa using h'
   rw [DataW.weightsEach,Y0h];exact .inl hx
 | a :: ts, b :: ds, i + 1, t, d, h, h', x, hx => by
   rw [DataW.weightsEach,Y0h];exact .inr (Z3t (i:=i) (by simpa using h) (by simpa using h') x hx)
section
variable {H:Type} {enc:TypeId×Value->H} {P:Program} {w:World} {sp:Nat->Bool}
theorem Z9E {a:Addr} {n:Nat} {cs:List Value} {ps:List PV} (hc:w.cells? 0 a n=some cs) (hs:a.spot=none) (h:X18 w cs ps):ps.length=n/\∀ j,j<ps.length->X1I w ⟨a.block,a.off+j,none⟩=some (cs.getD j undef):=by
 obtain⟨h1,h2⟩:=cells?_some hc;refine⟨by rw [<- h.len,h1],fun j hj=>?_⟩;have hj':j<cs.length:=by rw [h.len]; exact hj
 have:=h2 j hj';rw [Z10 _ _ hs] at this;have e:cs.getD j undef=cs[j]:=by simp [Y0b,hj']
 rw [e];exact ZhP this (by rw [<- e]; exact h.one j hj)
theorem ZcS {a:Addr} {n:Nat} {cs:List Value} (hc:w.cells? 0 a n=some cs) (hn:0<n):a.spot=none:=by
 obtain⟨h1,h2⟩:=cells?_some hc;have:=h2 0 (by omega);have e:a.add 0=a:=rfl;rw [e] at this;cases hs:a.spot with
 | none=>rfl
 | some k =>
   unfold World.cell? at this;rw [hs] at this
   split at this<;>simp at this
theorem Z6m {α:Type} (z:α) {Q:Nat->α->Prop}:∀ {n:Nat},(∀ i,i<n->∃ x,Q i x)->∃ l:List α,l.length=n/\∀ i,i<n->Q i (l.getD i z)
 | 0,_=>⟨[],rfl,fun i hi=>absurd hi (YR _)⟩
 | n + 1, h => by
   obtain⟨l,hl,hq⟩:=Z6m z (n:=n) fun i hi=>h i (by omega);obtain⟨x,hx⟩:=h n (by omega);refine⟨l ++ [x],by simp [hl],fun i hi=>?_⟩;by_cases hin:i<n
   . have := hq i hin;simpa [Y0b,Y1Z,hl,hin] using this
   . obtain rfl : i = n := by omega
     simpa [Y0b,Y1Z,hl] using hx
theorem Z1L {G:List TypeId} (hT:X3u P G=true):∀ {fuel:Nat} {t:TypeId} {cs:List Value} {d:DataW H} {pl:List MemPlace},G.contains t=true->DataW.trod enc P w 0 sp true fuel t cs=some (d,pl)->(∀ x∈d.weights P t,x<=reachBytes)->∃ ps,XL P fuel t ps/\X18 w cs ps
 | 0,_,_,_,_,_,h,_=>by simp [DataW.trod] at h
 | fuel + 1, t, cs, d, pl, ht, h, hw => by
   have hTt:=ZfJ hT ht;unfold X4z at hTt
   have other:∀ v:Value,v.oneCell'=true->cs = [v]->(match P.underlying t with
    | some .bool|some (.int _)|some .string|some (.pointer _)|some (.slice _)|some (.struct _)|some (.array _ _)=>False
    | _=>True)->∃ ps,XL P (fuel+1) t ps/\X18 w cs ps:=by
    intro v h1 hcs hu;refine⟨[.val v],?_,hcs▸.single h1 (.val v) Yt⟩;unfold XL
    split at hu<;>first|exact hu.elim|skip
    first|exact⟨v,rfl⟩|(split<;>first|exact⟨v,rfl⟩|simp_all)
   unfold DataW.trod at h
   split at h
   . rename_i b hu;exact⟨[.val (.bool b)],by simp [XL,hu],.single rfl (.val _) Yt⟩
   . rename_i k k' m hu
     split at h
     . rename_i hk;obtain⟨rfl,hwf⟩:=hk;exact⟨[.val (.int k' m)],by simp [XL,hu,hwf],.single rfl (.val _) Yt⟩
     . cases h
   . rename_i k k' m hu;exact other _ rfl rfl (by rw [hu]; trivial)
   . rename_i str hu
     split at h
     . cases h;refine⟨[.val (.string str)],?_,.single rfl (.val _) Yt⟩;have:=hw str.data.toList.length (by simp [DataW.weights]);have hs:str.size<=Xd:=by
        have e:str.data.toList.length=str.size:=Y26;rw [e] at this;simp only [reachBytes] at this;simp only [Xd];omega
       simp [XL,hu,hs]
     . cases h
   . rename_i e hu;exact⟨[.val (.pointer none)],by simp [XL,hu],.single rfl (.val _) Yt⟩
   . rename_i e a hu;rw [hu] at hTt;simp only [Y0k,Y0n] at hTt;cases hc:w.cells? 0 a (P.cellsOf e) with
     | none=>simp [hc] at h
     | some cs' =>
       cases hr:DataW.trod enc P w 0 sp true fuel e cs' with
       | none=>simp [hc,hr] at h
       | some r =>
         obtain⟨d',pl'⟩:=r;have hd:d=.ptr d':=by simp [hc,hr] at h; exact h.1.symm
         subst hd;obtain⟨l,hs,hcl⟩:=Z1L hT hTt.2 hr (fun x hx=>hw x (by simp only [DataW.weights,hu]; exact hx));have hspot:=ZcS hc hTt.1;obtain⟨hl,hF⟩:=Z9E hc hspot hcl;refine⟨[.cp l],by simp only [XL,hu]; exact .inr ⟨l,hs,rfl⟩,.single rfl ?_ hcl.pure⟩;exact .cp a l (fun j=>cs'.getD j undef) hspot hF hcl.rep
   . rename_i e hu;exact⟨[.vec [] true],by simp only [XL,hu]; exact⟨[],true,by simp,by simp,rfl⟩,.single rfl (.vecnil true) Yt⟩
   . rename_i e a len cap hu;rw [hu] at hTt;simp only [Y0k,Y0n] at hTt;obtain⟨⟨hby,hsz⟩,het⟩:=hTt;simp only at h
     split at h
     case isFalse=>cases h
     rename_i hcond;cases hm:(List.range len).mapM (fun i=>(w.cells? 0 (a.add (i*P.cellsOf e)) (P.cellsOf e)).bind (DataW.trod enc P w 0 sp true fuel e)) with
     | none=>simp [hm] at h
     | some elems =>
       obtain⟨hel,hget⟩:=mapM_some' hm;have hd:∃ rest:List (DataW H×List MemPlace),d=.slice (elems.map (·.1)) (rest.map (·.1)):=by
        rw [hm] at h;simp only [Option.bind_some,YN] at h;obtain⟨rest,_,h2⟩:=h;exact⟨rest,by cases h2; rfl⟩
       obtain⟨rest,rfl⟩:=hd;have hlen:elems.length=len:=by simpa using hel
       have hbound:len<=Xd:=by
        have:=hw ((elems.length+rest.length)*P.bytesOf e) (by simp [DataW.weights,hu]);have h3:elems.length+rest.length<=(elems.length+rest.length)*P.bytesOf e:=Y3b _ hby;simp only [reachBytes] at this;simp only [Xd];omega
       have each:∀ i,i<len->∃ cs' d' pl',w.cells? 0 (a.add (i*P.cellsOf e)) (P.cellsOf e)=some cs'/\DataW.trod enc P w 0 sp true fuel e cs'=some (d',pl')/\d'∈elems.map (·.1):=fun i hi=>by
        have:=hget i (by simpa using hi) (by omega);simp only [Y2w,Option.bind_eq_some_iff] at this;obtain⟨cs',h1,h2⟩:=this;exact⟨cs',_,_,h1,h2,Y0i.2 ⟨elems[i],Y0j _,rfl⟩⟩
       have hspot:0<len->a.spot=none:=fun h0=>by
        obtain⟨cs',d',pl',h1,_⟩:=each 0 h0;rw [Y3q] at h1;exact ZcS h1 hsz
       obtain⟨ll,hll,hq⟩:=Z6m (α:=List PV) [] (n:=len) (Q:=fun i l=>XL P fuel e l/\l.length=P.cellsOf e/\Xe l/\∀ j,j<P.cellsOf e->∃ v,X1I w ⟨a.block,a.off+(i*P.cellsOf e+j),none⟩=some v/\Rep (X1I w) Xz v (l.getD j pvu)) fun i hi=>by
        obtain⟨cs',d',pl',h1,h2,h3⟩:=each i hi;obtain⟨l,hs,hcl⟩:=Z1L hT het h2 (fun x hx=>hw x (by simp only [DataW.weights,hu]; exact YC _ (Y0h.2 (.inl (Z2O h3 x hx)))));rw [Z10 _ _ (hspot (by omega))] at h1;obtain⟨hl,hF⟩:=Z9E h1 rfl hcl;refine⟨l,hs,hl,hcl.pure,fun j hj=>⟨_,?_,hcl.rep j (by omega)⟩⟩;have:=hF j (by omega);simp only at this;rw [YL] at this;exact this
       have hmem:∀ l∈ll,∃ i,i<len/\ll.getD i []=l:=fun l hl=>by
        obtain⟨i,hi,rfl⟩:=YE hl;exact⟨i,by omega,by simp [Y0b,hi]⟩
       refine⟨[.vec ll false],?_,.single rfl ?_ ((Z25 _ _).2 fun l hl=>?_)⟩
       . simp only [XL, hu];exact⟨ll,false,by omega,fun l hl=>by obtain⟨i,hi,rfl⟩:=hmem l hl; exact (hq i hi).1,rfl⟩
       . rw [<- hll];refine .vec a cap (P.cellsOf e) ll false (fun i j=>(X1I w ⟨a.block,a.off+(i*P.cellsOf e+j),none⟩).getD undef) (fun hne=>hspot (by rw [<- hll]; exact Y1N.2 hne)) (by omega) (by simp) (by omega) (fun i hi=>(hq i (by omega)).2.1) (fun i j hi hj=>?_) (fun i j hi hj=>?_)
         . obtain ⟨v, h1, _⟩ := (hq i (by omega)).2.2.2 j hj;rw [h1]; rfl
         . obtain ⟨v, h1, h2⟩ := (hq i (by omega)).2.2.2 j hj;rw [h1]; exact h2
       . obtain ⟨i, hi, rfl⟩ := hmem l hl;exact (hq i hi).2.2.1
   . rename_i cs _ _ fs hu;rw [hu] at hTt;simp only [Y0k,YA,Y0n] at hTt;obtain⟨htile,hft⟩:=hTt
     split at h
     case isFalse=>cases h
     rename_i hlen;cases hm:fs.toList.mapM (fun f=>DataW.trod enc P w 0 sp true fuel f.type ((cs.drop f.offset).take (P.cellsOf f.type))) with
     | none=>simp [hm] at h
     | some xs =>
       obtain⟨hxl,hget⟩:=mapM_some' hm;obtain rfl:d=.agg (xs.map (·.1)):=by simp [hm] at h; exact h.1.symm
       obtain⟨_,ps,hc,hs⟩:=Z5C (P:=P) (S:=fun t ps=>XL P fuel t ps) htile hlen fun f hf=>by
        obtain⟨i,hi,rfl⟩:=YE hf;have h2:=hget i hi (by omega);refine Z1L hT (hft _ hf) (d := (xs[i]'(by omega)).1) (pl := (xs[i]'(by omega)).2) h2 fun x hx => hw x ?_;simp only [DataW.weights,hu];exact Z3t (i := i) (t := fs.toList[i].type) (d := (xs[i]'(by omega)).1) (by rw [Y0y,Y0c hi]; rfl) (by rw [Y0y,Y0c (by omega)]; rfl) x hx
       rw [Y2D] at hc;refine⟨ps,?_,hc⟩;simp only [XL,hu];exact⟨by rw [<- hc.len]; exact hlen,fun f hf=>by have:=(hs f hf).2; rwa [Nat.sub_zero] at this⟩
   . rename_i cs _ _ m e hu;rw [hu] at hTt;simp only [Y0k,Y1s,Y0n] at hTt;obtain⟨htile,het⟩:=hTt
     split at h
     case isFalse=>cases h
     rename_i hlen;cases hm:(List.range m).mapM (fun i=>DataW.trod enc P w 0 sp true fuel e ((cs.drop (i*P.cellsOf e)).take (P.cellsOf e))) with
     | none=>simp [hm] at h
     | some xs =>
       obtain⟨hxl,hget⟩:=mapM_some' hm;obtain rfl:d=.agg (xs.map (·.1)):=by simp [hm] at h; exact h.1.symm
       have hxm:xs.length=m:=by simpa using hxl
       obtain⟨ps,hc,hs⟩:=Z6l (S:=XL P fuel e) (sz:=P.cellsOf e) (m:=m) (by rw [hlen,htile]) fun i hi=>by
        have h2:=hget i (by simpa using hi) (by omega);simp only [Y2w] at h2;refine Z1L hT het (d := (xs[i]'(by omega)).1) (pl := (xs[i]'(by omega)).2) h2 fun x hx => hw x ?_;simp only [DataW.weights,hu];exact Z2O (Y0i.2 ⟨xs[i]'(by omega),Y0j _,rfl⟩) x hx
       refine⟨ps,?_,hc⟩;simp only [XL,hu];exact⟨by rw [<- hc.len]; exact hlen,hs⟩
   all_goals first
    | (cases h; done)
    | (rename_i hu; exact other _ rfl rfl (by rw [hu]; trivial))
end
end
section
open Go.RowKit Go.ChangeShapes Go.WideShapes
def X30 (P:Program) (t:TypeId) (p:PV):Prop:=∃ n,match P.underlying t with
 | some (.struct _)|some (.array _ _)=>∃ ps,p=.agg ps/\XL P n t ps
 | _=>XL P n t [p]
def X2M (P:Program):List TypeId->List PV->Prop
 | [],[]=>True
 | t :: ts,p :: ps=>X30 P t p/\X2M P ts ps
 | _,_=>False
section
variable {H:Type} {enc:TypeId×Value->H} {P:Program} {w:World}
theorem Z4I {v:Value} {ps:List PV} (h:X18 w [v] ps):∃ p,ps = [p]/\Rep (X1I w) Xz v p/\p.pure:=by
 have hl:=h.len;obtain⟨p,rfl⟩:∃ p,ps = [p]:=by
  cases ps with
  | nil=>simp at hl
  | cons p r => cases r with
    | nil=>exact⟨p,rfl⟩
    | cons _ _=>simp at hl
 exact⟨p,rfl,by simpa using h.rep 0 (by simp),h.pure.1⟩
theorem Z7A {t:TypeId} {v:Value} {base:Nat} (hu:match P.underlying t with|some (.struct _)|some (.array _ _)=>False|_=>True) (h:Value.okWide P w .any base t v):v.cells.toList = [v]:=by
 cases v with
 | agg cs =>
   exfalso;unfold Value.okWide at h
   split at h
   . rename_i hu'; rw [hu'] at hu; exact hu
   . rename_i hu'; rw [hu'] at hu; exact hu
   . unfold Cell.okWide at h
     split at h<;>first|(rename_i hv; cases hv; done)|skip
     all_goals first|(cases ‹Value.agg cs=_›; done)|(unfold Cell.ok at h; split at h<;>first|exact h|(cases ‹Value.agg cs=_›; done)|simp_all)
 | _=>rfl
theorem ZfK {G:List TypeId} (hT:X3u P G=true) {t:TypeId} {v:Value} {d:DataW H} {pl:List MemPlace} {base:Nat} (ht:G.contains t=true) (hok:Value.okWide P w .any base t v) (h:DataW.Trod enc P w 0 (fun _=>true) true t v d pl) (hw:∀ x∈d.weights P t,x<=reachBytes) :
 ∃ p,X30 P t p/\Rep (X1I w) Xz v p/\p.pure:=by
 obtain⟨fuel,h⟩:=h;obtain⟨ps,hs,hc⟩:=Z1L hT ht h hw;cases hu:P.underlying t with
 | none =>
   rw [Z7A (by rw [hu]; trivial) hok] at hc;obtain⟨p,rfl,h1,h2⟩:=Z4I hc;exact⟨p,⟨fuel,by rw [hu]; exact hs⟩,h1,h2⟩
 | some dsc =>
   have agg:(∃ cs,v=.agg cs)->∃ p,(∃ ps,p=.agg ps/\XL P fuel t ps)/\Rep (X1I w) Xz v p/\p.pure:=by
    rintro⟨cs,rfl⟩;have e:∀ j,cs.getD j undef=cs.toList.getD j undef:=fun j=>by simp [Y0d,Y0b]
    refine⟨.agg ps,⟨ps,rfl,hs⟩,.agg cs ps (by rw [<- hc.len]; simp [Value.cells]) (fun i hi=>?_) (fun i hi=>?_),hc.pure⟩
    . rw [e]; exact hc.one i hi
    . rw [e]; exact hc.rep i hi
   have one:(match P.underlying t with|some (.struct _)|some (.array _ _)=>False|_=>True)->∃ p,XL P fuel t [p]/\Rep (X1I w) Xz v p/\p.pure:=by
    intro hu';rw [Z7A hu' hok] at hc;obtain⟨p,rfl,h1,h2⟩:=Z4I hc;exact⟨p,hs,h1,h2⟩
   have isAgg:(∃ fs,dsc=.struct fs) \/ (∃ m e,dsc=.array m e)->∃ cs,v=.agg cs:=by
    intro hd;unfold Value.okWide at hok;rw [hu] at hok;rcases hd with⟨fs,rfl⟩|⟨m,e,rfl⟩
    . obtain⟨cs,h1,_⟩:=hok; exact⟨cs,h1⟩
    . obtain⟨cs,h1,_⟩:=hok; exact⟨cs,h1⟩
   cases dsc with
   | struct fs =>
     obtain⟨p,h1,h2⟩:=agg (isAgg (.inl ⟨fs,rfl⟩));exact⟨p,⟨fuel,by rw [hu]; exact h1⟩,h2⟩
   | array m e =>
     obtain⟨p,h1,h2⟩:=agg (isAgg (.inr ⟨m,e,rfl⟩));exact⟨p,⟨fuel,by rw [hu]; exact h1⟩,h2⟩
   | _ =>
     obtain⟨p,h1,h2⟩:=one (by rw [hu]; trivial);exact⟨p,⟨fuel,by rw [hu]; exact h1⟩,h2⟩
theorem Z7B {G:List TypeId} (hT:X3u P G=true):∀ {ts:List TypeId} {vs:List Value} {ds:List (DataW H)} {pl:List MemPlace},(∀ t∈ts,G.contains t=true)->(∀ (j:Nat) t v,ts[j]?=some t->vs[j]?=some v->∃ base,Value.okWide P w .any base t v) ->
 DataW.TrodAll enc P w 0 (fun _=>true) true ts vs ds pl->(∀ x∈DataW.weightsEach P ts ds,x<=reachBytes)->∃ ps,X2M P ts ps/\vs.length=ps.length/\(∀ i,i<ps.length->Rep (X1I w) Xz (vs.getD i undef) (ps.getD i pvu))/\Xe ps
 | [], vs, ds, pl, _, _, h, _ => by
   obtain⟨rfl,rfl,rfl⟩:=trodAll_nil h;exact⟨[],Yt,rfl,fun i hi=>absurd hi (YR _),Yt⟩
 | t :: ts, vs, ds, pl, hlt, hok, h, hw => by
   obtain⟨v,vs',d,ds',p,q,rfl,rfl,rfl,h1,h2⟩:=trodAll_cons h;obtain⟨base,hv⟩:=hok 0 t v rfl rfl;obtain⟨x,hs,hr,hp⟩:=ZfK hT (hlt t (by simp)) hv h1 fun x hx=>hw x (by rw [DataW.weightsEach]; exact Y0h.2 (.inl hx));obtain⟨ps,hs',hl,hr',hp'⟩:=Z7B hT (fun t ht=>hlt t (by simp [ht])) (fun j t v hj hv=>hok (j+1) t v (by simpa using hj) (by simpa using hv)) h2 fun x hx=>hw x (by rw [DataW.weightsEach]; exact Y0h.2 (.inr hx));refine⟨x :: ps,⟨hs,hs'⟩,by simp [hl],fun i hi=>?_,hp,hp'⟩;cases i with
   | zero=>simpa using hr
   | succ i=>simpa using hr' i (by simpa using hi)
theorem Z4J (hl:laidOutB P=true) {W W':World} (hb:Below W.heap.size W W') {sp':Nat->Bool}:∀ {ts:List TypeId} {vs:List Value} {ds:List (DataW H)} {pl:List MemPlace},(∀ t∈ts,P.readableRec t=true/\t<P.types.size)->DataW.TrodAll enc P W 0 (fun _=>true) true ts vs ds pl ->
 (∀ x∈pl,x.block<W.heap.size)->(∀ x∈pl,sp' x.block=true)->DataW.TrodAll enc P W' 0 sp' true ts vs ds pl
 | [], vs, ds, pl, _, h, _, _ => by
   obtain⟨rfl,rfl,rfl⟩:=trodAll_nil h;exact rfl
 | t :: ts, vs, ds, pl, hr, h, hlt, hsp => by
   obtain⟨v,vs',d,ds',p,q,rfl,rfl,rfl,h1,h2⟩:=trodAll_cons h;obtain⟨hr1,hr2⟩:=hr t (by simp)
   exact⟨p,q,WideElems.Trod_stays hl hr1 hr2 h1 (fun x hx=>hb.same (hlt x (Y0h.2 (.inl hx)))) (fun x hx=>hsp x (Y0h.2 (.inl hx))),
    Z4J hl hb (fun t ht=>hr t (by simp [ht])) h2 (fun x hx=>hlt x (Y0h.2 (.inr hx))) (fun x hx=>hsp x (Y0h.2 (.inr hx))),rfl⟩
end
theorem Z9F {H:Type} {enc:TypeId×Value->H} {P:Program} {f:FuncId} {fn:Func} {s:ChangeSpec} {apart fresh handsOn again:Bool} {tb:TypeId} {G:List TypeId} (hT:X3u P G=true) (hG:∀ t∈fn.params.toList,G.contains t=true) (hl:laidOutB P=true) (hpar:∀ t∈fn.params.toList,P.readableRec t=true/\t<P.types.size) (hres:fn.resultTypes = #[tb]) (htb:P.underlying tb=some .bool)
 (hvars:s.vars = []) (hs:∀ ds:List (DataW H),ds.length=fn.params.size->(s.fn H ds).results = [.lit (.bool true)]/\(s.fn H ds).args=ds/\(s.fn H ds).vars = []) (hspec:∀ ps,X2M P fn.params.toList ps->Xe ps->X7 P f ps (· = .val (.bool true)))
 (W:World) (hgl:X3D W) (base:Nat) (args:Array Value) (ds gs:List (DataW H)) (before:List MemPlace) (hval:∀ (j:Nat) t v,fn.params[j]?=some t->args[j]?=some v->Value.okWide P W .any base t v) (hW:DataW.Whole enc P fn.params.toList s.vars apart W args.toList ds gs before)
 (hwt:(DataW.weightsEach P (fn.params.toList++s.plain.varTypes P) (ds++gs)).all (· <= reachBytes)=true) :
 Calls P f args W fun e W'=>∃ v,e=.returned v/\s.post enc P fn apart fresh handsOn again W args v W':=by
 have hW':=hW;obtain⟨p,q,hA,hV,rfl,hfz,hnd⟩:=hW;rw [hvars] at hV;obtain⟨rfl,rfl⟩:=trodVars_none hV;rw [Y0p] at hwt;have hlen:ds.length=fn.params.toList.length:=by
  have:∀ {ts:List TypeId} {vs:List Value} {ds:List (DataW H)} {pl:List MemPlace},DataW.TrodAll enc P W 0 (fun _=>true) true ts vs ds pl->ds.length=ts.length:=by
   intro ts
   induction ts with
   | nil=>intro vs ds pl h; obtain⟨_,rfl,_⟩:=trodAll_nil h; rfl
   | cons t ts ih=>intro vs ds pl h; obtain⟨v,vs',d,ds',p,q,_,rfl,_,_,h2⟩:=trodAll_cons h; simp [ih h2]
  exact this hA
 have hvt:s.plain.varTypes P = []:=by
  simp [ChangeSpec.plain,DataSpec.varTypes,hvars]
 rw [hvt,Y0p] at hwt;obtain⟨ps,hsh,hpl,hrep,hpure⟩:=Z7B hT hG (fun j t v hj hv=>⟨base,hval j t v (by simpa using hj) (by simpa using hv)⟩) hA (fun x hx=>by simpa using YA.1 hwt x hx);have e:∀ j,args.getD j undef=args.toList.getD j undef:=fun j=>by simp [Y0d,Y0b]
 refine ((hspec ps hsh hpure).2 (X1I W) W args (Zbj hgl) ⟨by simpa using hpl,fun i hi=>by rw [e]; exact hrep i hi⟩).mono ?_;rintro en W' ⟨v,r,F',rfl,rfl,hvr,hbel,_⟩;obtain rfl:=hvr.val_inv;obtain⟨hs1,hs2,hs3⟩:=hs ds (by simpa using hlen);have hlt:=hW'.lt;simp only [Y0p] at hlt hW' ⊢;have hstay:∀ sp':Nat->Bool,(∀ x∈p,sp' x.block=true)->DataW.TrodAll enc P W' 0 sp' true fn.params.toList args.toList ds p:=fun sp' hsp=>Z4J hl hbel hpar hA hlt hsp;have hresults:∀ (b:Nat) (sp:Nat->Bool) (hd:Bool),DataW.TrodAll enc P W' b sp hd fn.resultTypes.toList ((Value.bool true).resultList fn.resultTypes.size) [.lit (.bool true)] []:=fun b sp hd=>by
  rw [hres];exact trodAll_mk1 (shut_bool htb true)
 refine⟨_,rfl,ds,[],p,[],p,[],hW',?_,?_,?_,hbel.frame _,fun _=>⟨ok_one hres rfl (okWide_bool_mk htb true),?_⟩⟩
 . rw [Y0p,hs1]; exact hresults _ _ _
 . rw [Y0p,hs2]; exact hstay _ fun x hx=>by simpa using hlt x hx
 . rw [Y0p,hvars,hs3]; exact rfl
 . refine ⟨_, [], p, ⟨p, [], trodAll_append (p := []) (hstay _ fun _ _ => rfl) (hresults _ _ _), by rw [hvars]; exact rfl, by simp, ?_, by simpa using hnd⟩, fun x hx _ => hx⟩;intro b off hp;rw [hbel.frozen (hlt _ hp)];exact hfz b off (by simpa using hp)
end
section
open Go.ChangeShapes Go.WideShapes Go.ChangeAt Go.RowKit
theorem own:ownKnob Tryz.prog.godebug=none:=by kernel_rfl
theorem X5i:laidOutB Tryz.prog=true:=by kernel_rfl
def X5P (P:Program) (ts:List TypeId):Bool:=ts.all fun t=>P.readableRec t&&decide (t<P.types.size)
def inG (G ts:List TypeId):Bool:=ts.all fun t=>G.contains t
theorem Zkk {G ts:List TypeId} (h:inG G ts=true):∀ t∈ts,G.contains t=true:=fun t ht=>YA.1 h t ht
theorem ZfL {P:Program} {ts:List TypeId} (h:X5P P ts=true):∀ t∈ts,P.readableRec t=true/\t<P.types.size:=fun t ht=>by
 have:=YA.1 h t ht;simpa using this
abbrev X40 : List (String × DataW Unit) := [("math/bits.deBruijn32tab",Rows.laid_math_bits_deBruijn32tab),("math/bits.deBruijn64tab",Rows.laid_math_bits_deBruijn64tab),("internal/strconv.uint64pow10",Rows.laid_internal_strconv_uint64pow10),("unicode/utf8.acceptRanges",Rows.laid_unicode_utf8_acceptRanges),("unicode/utf8.first",Rows.laid_unicode_utf8_first)]
theorem ZdS:(Rows.laid_math_bits_deBruijn64tab:DataW Unit)=.agg (X21.map fun x=>.lit (.int .u8 x)):=rfl
theorem ZhQ {W:World} (h:laidMetH Tryz.prog X40 W):∀ (j:Nat) (v:Value),(X21.map fun x=>Value.int .u8 x)[j]?=some v->W.cell? ⟨0,j,none⟩=some v:=by
 rw [MakeChecks.laidMetH_plain _ _ _ (by kernel_rfl)] at h;obtain⟨ps,⟨_,_,_,_,_,_,_,_,_,_,⟨g0,t0,cs,f0,p0,q0,hg0,ht0,hv0,hd0,_,_⟩,_⟩,_,_⟩:=h;obtain rfl := Y13 ((show Tryz.prog.globalNamed "math/bits.deBruijn64tab" = some 0 by kernel_rfl).symm.trans hg0)
 obtain rfl:=Y13 ((show (Tryz.prog.globals[0]?).map (·.type)=some 308 by kernel_rfl).symm.trans ht0);obtain⟨xs,m,rfl,hx,hlen,hn,hel⟩:=DataW.trod_array (show Tryz.prog.underlying 308=some (.array 64 5) by kernel_rfl) hd0;have c1:Tryz.prog.cellsOf 5=1:=by kernel_rfl
 simp only [Y2s] at hx;have hx1:X21.map (fun x=>(DataW.lit (.int .u8 x):DataW Unit))=xs.map (·.1):=by
  have:=hx.1;rw [ZdS] at this;simpa using this
 intro j v hv;rw [Y0y] at hv;have hj:j<64:=by
  cases hx:X21[j]? with
  | none=>rw [hx] at hv; cases hv
  | some x=>have:=(Yy.1 hx).1; exact this
 have hj2:j<X21.length:=hj;rw [Y0c hj2] at hv;simp only [Y1m,Y3Q] at hv;subst hv;have e1:=congrArg (fun l=>l[j]?) hx1;simp only [Y0y] at e1;rw [Y0c hj2,Y0c (show j<xs.length by omega)] at e1;simp only [Y1m,Y3Q] at e1;have e2:=hel j hj;rw [Y0c (show j<xs.length by omega),c1] at e2;obtain⟨k,h1,h2,_⟩:=DataW.trod_int (show Tryz.prog.underlying 5=some (.int .u8) by kernel_rfl) e2;rw [h2] at e1;simp only [DataW.lit.injEq,Lit.int.injEq,true_and] at e1;subst e1;rw [Y24] at h1;rw [World.var?_cell hg0 hv0 j];have h3:cs.toList[j]?=(cs.toList.drop j)[0]?:=by simp
 have h4:(cs.toList.drop j)[0]?=((cs.toList.drop j).take 1)[0]?:=by simp
 rw [<- Y2J,h3,h4,h1]
 rfl
theorem ZhR {W:World} (h:laidMetH Tryz.prog X40 W):X3D W:=by
 intro g j v hv;have step:∀ (k:Nat) (l:List Value) (r:List (Nat×List Value)),(X2T ((k,l) :: r) g)[j]?=some v->(l[j]?=some v/\g=k) \/ (X2T r g)[j]?=some v:=by
  intro k l r hh;unfold X2T at hh;cases hb:Nat.beq g k with
  | true=>rw [hb] at hh; exact .inl ⟨hh,Yw hb⟩
  | false=>rw [hb] at hh; exact .inr hh
 have hv:(X2T X4K g)[j]?=some v:=hv;unfold X4K at hv;rcases step _ _ _ hv with⟨h1,rfl⟩|hv
 . exact ZhQ h j v h1
 simp [X2T] at hv
end
section
set_option maxRecDepth 100000
theorem mixed : Tryz.prog.follows .mixedOrders = true := by kernel_rfl
theorem fI (n : Nat) : Int.ofNat (no_index (OfNat.ofNat n)) = @OfNat.ofNat Int n instOfNat := rfl
theorem fM : Int.negSucc 0 = -1 := rfl
theorem Xk {f nt : Nat} {fn : Func} {ac : X3} {rs : List X2o} (hf : Tryz.prog.funcs[f]? = some fn) (hnt : fn.ntmps = nt) (hn : (fn.name == "runtime.NumGoroutine") = false := by kernel_rfl) (hc : X4B Tryz.prog nt fn.body = some ac := by conv => { lhs; reduce; try dsimp only [fI, fM] }) (hr : X2Y Tryz.prog fn.results.toList = some rs := by conv => { lhs; reduce; try dsimp only [fI] }) : X46 Tryz.prog f nt ac rs := Zg mixed hf hn hnt hc hr
abbrev tT (n : Nat) : Operand := .tmp n
abbrev oO (d : Nat) (p : AOp) : Xm := ⟨some d, p, none⟩
abbrev oT (g d : Nat) (p : AOp) : Xm := ⟨some d, p, some (g, true)⟩
abbrev oF (g d : Nat) (p : AOp) : Xm := ⟨some d, p, some (g, false)⟩
abbrev oM (d a : Nat) : Xm := ⟨some d, .mov (.tmp a), none⟩
abbrev nS : Value := .slice none 0 0
abbrev kI (n : Int) : Operand := .const (.int .i64 n)
abbrev kT : Operand := .const (.bool true)
abbrev kF : Operand := .const (.bool false)
abbrev kC (f : FuncId) (l : List Operand) : AOp := .call (.func f) l
abbrev sQ (x y : X3) : X3 := .seq x y
abbrev Yl (d n a : Nat) : Xm := ⟨some d, .load true n (.tmp a), none⟩
abbrev Yk (d a : Nat) : Xm := ⟨some d, .load false 1 (.tmp a), none⟩
abbrev Ya (d k a : Nat) : Xm := ⟨some d, .faddr k (.tmp a), none⟩
abbrev Yc (d f : Nat) (l : List Operand) : Xm := ⟨some d, .call (.func f) l, none⟩
abbrev Yb (d a : Nat) : Xm := ⟨some d, .box (.tmp a), none⟩
abbrev Yi (d e a b : Nat) : Xm := ⟨some d, .iaddr e (.tmp a) (.tmp b), none⟩
abbrev Yn (d a : Nat) : Xm := ⟨some d, .len (.tmp a), none⟩
abbrev Yx (d a k : Nat) : Xm := ⟨some d, .extract (.tmp a) k, none⟩
abbrev Ys (n a b : Nat) : Xm := ⟨none, .store n (.tmp a) (.tmp b), none⟩
abbrev Yd (i : Nat) (o : Xm) (m f : Nat) : X5 := ⟨i, o, m, f, false⟩
abbrev Yr (l : List Xm) (x : X3) : X3 := .seq (.region l) x
abbrev Yg (l : List Xm) : X3 := .region l
abbrev Yo (d : Nat) (b : BinOp) (x y : Operand) : Xm := ⟨some d, .bin b .num x y, none⟩
abbrev Ym (d a b : Nat) : Xm := ⟨some d, .pick (.tmp a) (.tmp b) (.const (.bool false)), none⟩
abbrev Yq (d a b : Nat) : Xm := ⟨some d, .pick (.tmp a) (.const (.bool true)) (.tmp b), none⟩
abbrev Yz (d : Nat) (l : List Value) : Xm := ⟨some d, .alloc l, none⟩
abbrev Yh (d a : Nat) : Xm := ⟨some d, .una .not (.tmp a), none⟩
abbrev Yj (d : Nat) (x : Operand) : Xm := ⟨some d, .mov x, none⟩
abbrev nP : Value := .pointer none
abbrev z0 : Value := .int .i64 0
abbrev kB (n : Int) : Operand := .const (.int .u8 n)
abbrev kW (n : Int) : Operand := .const (.int .u64 n)
abbrev Yu : Value := .int .u8 0
abbrev Y5 : Value := .int .u64 0
abbrev Y1 : List Value := [Yu,Yu,Yu,Yu,Yu,Yu,Yu,Yu,Yu,Yu,Yu,Yu,Yu,Yu,Yu,Yu,Yu,Yu,Yu,Yu,Yu,Yu,Yu,Yu,Yu,Yu,Yu,Yu,Yu,Yu,Yu,Yu]
abbrev Y2 : List Value := [Yu,Yu,Yu,Yu,Yu,Yu,Yu,Yu,Yu,Yu,Yu,Yu,Yu,Yu,Yu,Yu,Yu,Yu,Yu,Yu,Yu,Yu,Yu,Yu,Yu,Yu,Yu,Yu,Yu,Yu,Yu,Yu,.bool false,.slice none 0 0,.slice none 0 0]
abbrev Yv (n : Nat) : PV := .val (.int .i64 (n : Int))
abbrev Y3 : List Nat := [0,0,0,0,0,0,0,0,0,0,0,0,0,0,0,0,0,0,0,0,0,0,0,0,0,0,0,0,0,0,0,0]
abbrev t0:Operand:=.tmp 0
abbrev t1:Operand:=.tmp 1
abbrev t2:Operand:=.tmp 2
abbrev t3:Operand:=.tmp 3
abbrev t4:Operand:=.tmp 4
abbrev t5:Operand:=.tmp 5
abbrev t6:Operand:=.tmp 6
abbrev t7:Operand:=.tmp 7
abbrev t8:Operand:=.tmp 8
abbrev t9:Operand:=.tmp 9
abbrev t10:Operand:=.tmp 10
abbrev t11:Operand:=.tmp 11
abbrev t12:Operand:=.tmp 12
abbrev t13:Operand:=.tmp 13
abbrev t14:Operand:=.tmp 14
abbrev t15:Operand:=.tmp 15
abbrev t16:Operand:=.tmp 16
abbrev t17:Operand:=.tmp 17
abbrev t18:Operand:=.tmp 18
abbrev t19:Operand:=.tmp 19
abbrev t20:Operand:=.tmp 20
abbrev t21:Operand:=.tmp 21
abbrev t22:Operand:=.tmp 22
abbrev t23:Operand:=.tmp 23
abbrev t24:Operand:=.tmp 24
abbrev t25:Operand:=.tmp 25
abbrev t26:Operand:=.tmp 26
abbrev t27:Operand:=.tmp 27
abbrev t28:Operand:=.tmp 28
abbrev t29:Operand:=.tmp 29
abbrev t30:Operand:=.tmp 30
abbrev t31:Operand:=.tmp 31
abbrev t32:Operand:=.tmp 32
abbrev t33:Operand:=.tmp 33
abbrev t34:Operand:=.tmp 34
abbrev t35:Operand:=.tmp 35
abbrev t36:Operand:=.tmp 36
abbrev t37:Operand:=.tmp 37
abbrev t38:Operand:=.tmp 38
abbrev t39:Operand:=.tmp 39
abbrev t40:Operand:=.tmp 40
abbrev t41:Operand:=.tmp 41
abbrev t42:Operand:=.tmp 42
abbrev t43:Operand:=.tmp 43
abbrev t44:Operand:=.tmp 44
abbrev t45:Operand:=.tmp 45
abbrev t46:Operand:=.tmp 46
abbrev t47:Operand:=.tmp 47
abbrev t48:Operand:=.tmp 48
abbrev t49:Operand:=.tmp 49
abbrev t50:Operand:=.tmp 50
abbrev t51:Operand:=.tmp 51
abbrev t52:Operand:=.tmp 52
abbrev t53:Operand:=.tmp 53
abbrev t54:Operand:=.tmp 54
abbrev t55:Operand:=.tmp 55
abbrev t56:Operand:=.tmp 56
abbrev t57:Operand:=.tmp 57
abbrev t58:Operand:=.tmp 58
abbrev t59:Operand:=.tmp 59
abbrev t60:Operand:=.tmp 60
abbrev t61:Operand:=.tmp 61
abbrev t62:Operand:=.tmp 62
abbrev t63:Operand:=.tmp 63
abbrev t64:Operand:=.tmp 64
abbrev t65:Operand:=.tmp 65
abbrev t66:Operand:=.tmp 66
abbrev t67:Operand:=.tmp 67
abbrev t68:Operand:=.tmp 68
abbrev t69:Operand:=.tmp 69
abbrev t70:Operand:=.tmp 70
abbrev t71:Operand:=.tmp 71
abbrev t72:Operand:=.tmp 72
abbrev t73:Operand:=.tmp 73
abbrev t74:Operand:=.tmp 74
abbrev t75:Operand:=.tmp 75
abbrev t76:Operand:=.tmp 76
abbrev t77:Operand:=.tmp 77
abbrev t78:Operand:=.tmp 78
abbrev t79:Operand:=.tmp 79
abbrev t80:Operand:=.tmp 80
abbrev t81:Operand:=.tmp 81
abbrev t82:Operand:=.tmp 82
abbrev t83:Operand:=.tmp 83
abbrev t84:Operand:=.tmp 84
abbrev t85:Operand:=.tmp 85
abbrev t86:Operand:=.tmp 86
abbrev t87:Operand:=.tmp 87
abbrev t88:Operand:=.tmp 88
abbrev t89:Operand:=.tmp 89
abbrev t90:Operand:=.tmp 90
abbrev t91:Operand:=.tmp 91
abbrev t92:Operand:=.tmp 92
abbrev t93:Operand:=.tmp 93
abbrev t94:Operand:=.tmp 94
abbrev t95:Operand:=.tmp 95
abbrev t96:Operand:=.tmp 96
abbrev t97:Operand:=.tmp 97
abbrev t98:Operand:=.tmp 98
abbrev t99:Operand:=.tmp 99
abbrev X7e:Operand:=.tmp 100
abbrev X7G:Operand:=.tmp 101
abbrev X6q:Operand:=.tmp 102
abbrev X7c:Operand:=.tmp 103
abbrev X6l:Operand:=.tmp 104
abbrev X7d:Operand:=.tmp 105
abbrev X6X:Operand:=.tmp 106
abbrev X6T:Operand:=.tmp 107
abbrev X7L:Operand:=.tmp 108
abbrev X7S:Operand:=.tmp 109
abbrev X6B:Operand:=.tmp 110
abbrev X76:Operand:=.tmp 111
abbrev X6L:Operand:=.tmp 112
abbrev X7j:Operand:=.tmp 113
abbrev X6D:Operand:=.tmp 114
abbrev X7n:Operand:=.tmp 115
abbrev X7k:Operand:=.tmp 116
abbrev X6z:Operand:=.tmp 117
abbrev X7J:Operand:=.tmp 118
abbrev X7p:Operand:=.tmp 119
abbrev X7i:Operand:=.tmp 120
abbrev X7E:Operand:=.tmp 122
abbrev X7U:Operand:=.tmp 124
abbrev X7a:Operand:=.tmp 125
abbrev t127:Operand:=.tmp 127
abbrev X7l:Operand:=.tmp 128
abbrev X77:Operand:=.tmp 129
abbrev X78:Operand:=.tmp 130
abbrev X7o:Operand:=.tmp 131
abbrev X80:Operand:=.tmp 132
abbrev X7F:Operand:=.tmp 133
abbrev X7Q:Operand:=.tmp 134
abbrev X7O:Operand:=.tmp 135
abbrev X7B:Operand:=.tmp 136
abbrev X7s:Operand:=.tmp 137
abbrev X7w:Operand:=.tmp 138
abbrev X81:Operand:=.tmp 139
abbrev X7q:Operand:=.tmp 140
abbrev X7A:Operand:=.tmp 142
abbrev X7I:Operand:=.tmp 143
abbrev X7W:Operand:=.tmp 144
abbrev X82:Operand:=.tmp 145
abbrev X7u:Operand:=.tmp 146
abbrev X7Z:Operand:=.tmp 148
abbrev X7D:Operand:=.tmp 149
abbrev X7T:Operand:=.tmp 150
abbrev X7R:Operand:=.tmp 151
abbrev X7M:Operand:=.tmp 152
abbrev X7P:Operand:=.tmp 153
abbrev X7Y:Operand:=.tmp 154
abbrev k0:Operand:=.const (.int .i64 0)
abbrev k1:Operand:=.const (.int .i64 1)
abbrev k2:Operand:=.const (.int .i64 2)
abbrev k3:Operand:=.const (.int .i64 3)
abbrev k4:Operand:=.const (.int .i64 4)
abbrev k5:Operand:=.const (.int .i64 5)
abbrev k6:Operand:=.const (.int .i64 6)
abbrev k7:Operand:=.const (.int .i64 7)
abbrev k8:Operand:=.const (.int .i64 8)
abbrev k9:Operand:=.const (.int .i64 9)
abbrev k10:Operand:=.const (.int .i64 10)
abbrev k12:Operand:=.const (.int .i64 12)
abbrev k14:Operand:=.const (.int .i64 14)
abbrev k16:Operand:=.const (.int .i64 16)
abbrev k32:Operand:=.const (.int .i64 32)
abbrev k40:Operand:=.const (.int .i64 40)
abbrev k63:Operand:=.const (.int .i64 63)
abbrev k64:Operand:=.const (.int .i64 64)
abbrev Y4 := X46 Tryz.prog
theorem Yf {f nt : Nat} {fn : Func} {ac : X3} {rs : List X2o} (hf : Tryz.prog.funcs[f]? = some fn) (hnt : fn.ntmps = nt) (hn : (fn.name == "runtime.NumGoroutine") = false := by kernel_rfl) (hc : X4B Tryz.prog nt fn.body = some ac := by kernel_rfl) (hr : X2Y Tryz.prog fn.results.toList = some rs := by kernel_rfl)   : X46 Tryz.prog f nt ac rs := Zg mixed hf hn hnt hc hr
theorem Yp {P : Program} {f nt : Nat} {ac : X3} {rs : List X2o} (hf : X46 P f nt ac rs) {args : List PV} {R : PV → Prop} (hk : ∀ C : Ctx, C.dom 0 → aw P C ac (X7h rs R) 0 (X1k args) (fun _ => none)) (hn : args.length ≤ nt := by exact Y0 rfl) : X7 P f args R := Z2 hf hn hk
def ir3:X3:=(Yr [Yj 4 kF] (sQ (Yr [Yc 24 4 [],Yh 25 24] (.cond t25 (Yr [Yj 4 kF] .ret) .skip)) (Yr [oM 27 0,Yc 28 5 [t27],oM 26 28,Yx 29 26 0,Yx 30 26 1,Yz 5 [Yu,z0,nS,nS],Yz 6 [z0,z0,nS,nS],Ys 4 5 29,
 Ys 4 6 30] (Yr [oM 32 1,Yc 33 5 [t32],oM 31 33,Yx 34 31 0,Yx 35 31 1,Yz 7 [Yu,z0,nS,nS],Yz 8 [z0,z0,nS,nS],Ys 4 7 34,Ys 4 8 35] (Yr [Yl 37 4 5,Yc 38 6 [t37],oM 36 38,Yx 39 36 0,Yx 40 36 1,Yz 9 [Yu,z0,nS,
 nS],Ys 4 9 39,oM 10 40] (Yr [Yl 42 4 5,Yc 43 7 [t42],oM 41 43,Yx 44 41 0,Yx 45 41 1,oM 11 44,oM 12 45] (Yr [Yl 47 4 7,Yc 48 7 [t47],oM 46 48,Yx 49 46 0,Yx 50 46 1,oM 13 49,oM 14 50] (Yr [Yl 52 4 9,Yc 53 7 [t52],
 oM 51 53,Yx 54 51 0,Yx 55 51 1,oM 15 54,oM 16 55] (sQ (Yr [oM 56 10,Yh 57 56,oM 58 57,oF 58 59 (.mov t12),oF 58 60 (.bin .neq .num t59 k0),Yq 61 58 60,oM 62 61,oF 62 63 (.mov t14),oF 62 64 (.bin .neq .num t63 k0),
 Yq 65 62 64,oM 66 65,oF 66 67 (.mov t16),oF 66 68 (.bin .neq .num t67 k0),Yq 69 66 68,oM 70 69,oF 70 71 (.mov t11),oF 70 72 (.mov t15),oF 70 73 (kC 8 [t71,t72,(.func 9)]),oF 70 74 (.una .not t73),Yq 75 70 74,
 oM 76 75,oF 76 77 (.load true 4 t5),oF 76 78 (.load true 4 t9),oF 76 79 (kC 10 [t77,t78]),oF 76 80 (.una .not t79),Yq 81 76 80] (.cond t81 (Yr [Yj 4 kF] .ret) .skip)) (Yr [Yj 17 kF] (sQ (Yr [Yj 82 k0] (.block 0 (.loop (Yr [Yo 83 .lss t82 k64] (sQ (.cond t83 .skip (.exit 0)) (sQ (.block 1 (Yr [oM 84 82,
 oM 18 84] (Yr [oO 85 (.build [nS] []),Yz 19 [nS],Ys 1 19 85] (sQ (Yr [Yj 20 k1] (.block 2 (.loop (sQ (Yr [oM 86 20,Yo 87 .lss t86 k7] (.cond t87 .skip (.exit 2))) (sQ (.block 3 (Yr [oM 90 18,oM 91 20,Yo 92 .sub t91 k1,
 Yo 93 .shr t90 t92,Yo 94 .and t93 k1,Yo 95 .eql t94 k1] (.cond t95 (Yg [Yl 96 1 19,oM 97 20,Yc 98 11 [t96,t97],Ys 1 19 98]) .skip))) (Yg [oM 88 20,Yo 89 .add t88 k1,oM 20 89])))))) (Yr [Yl 99 4 5,Yl 100 1 19,
 Yc 101 12 [t99,X7e,(.const nS)],oM 21 101] (Yr [oM 102 17,oM 103 102,oF 103 104 (.mov t21),oF 103 105 (.load true 4 t7),oF 103 106 (.load true 1 t19),oF 103 107 (kC 12 [X7d,X6X,(.const nS)]),oF 103 108 (.bin .neq .bool X6l X6T),
 Yq 109 103 108,oM 17 109] (sQ (Yr [oM 110 21] (.cond X6B (.exit 1) .skip)) (Yr [oM 111 11,oO 112 (.mkfn 14 [t19]),Yc 113 13 [X76,X6L],oM 22 113] (sQ (Yr [oM 114 22,Yo 115 .lss X6D k0] (.cond X7n (Yr [Yj 4 kF] .ret) .skip)) (sQ (.draw [Yd 0 (oM 116 11) 0 0,
 Yd 1 (oM 117 22) 0 0,Yd 2 (Yi 118 2 116 117) 3 0,Yd 3 (Ya 119 0 118) 7 0,Yd 4 (Yl 120 1 119) 15 0,Yd 5 (oM 121 11) 0 0,Yd 6 (oM 122 22) 0 0,Yd 7 (Yi 123 2 121 122) 96 0,Yd 8 (Ya 124 1 123) 224 0,Yd 9 (Yl 125 1 124) 480 0,
 Yd 10 (Yc 126 16 [X7i,X7a]) 1023 1,Yd 11 (Yz 23 [nS]) 0 0,Yd 12 (Ys 1 23 126) 4095 1]) (sQ (.draw [Yd 0 (Yl 127 4 5) 0 0,Yd 1 (Yl 128 1 19) 0 0,Yd 2 (Yl 129 1 23) 0 0,Yd 3 (Yc 130 17 [X7l,X77]) 6 0,
 Yd 4 (Yc 131 12 [t127,X78,(.const nS)]) 15 1,Yd 5 (oM 132 131) 31 1,Yd 6 (oF 132 133 (.load true 4 t5)) 63 0,Yd 7 (oF 132 134 (.load true 1 t19)) 63 0,Yd 8 (oF 132 135 (kC 18 [k7])) 63 0,Yd 9 (oF 132 136 (.load true 1 t23)) 63 0,
 Yd 10 (oF 132 137 (kC 19 [X7O,X7B])) 831 0,Yd 11 (oF 132 138 (kC 16 [X7Q,X7s])) 1983 0,Yd 12 (oF 132 139 (kC 12 [X7F,X7w,(.const nS)])) 4095 1,Yd 13 (Yq 140 132 139) 8191 1]) (.cond X7q (Yr [Yj 4 kF] .ret) .skip)))))))))))) (Yg [Yo 141 .add t82 k1,
 oM 82 141]))))))) (Yr [oM 142 11,oM 143 13,Yc 144 8 [X7A,X7I,(.func 9)],oM 145 17,Yh 146 145,oO 147 (.bin .eql .bool X7W X7u),oM 148 147,oT 148 149 (.load true 4 t5),oT 148 150 (.load true 4 t7),oT 148 151 (kC 20 [X7D,
 X7T]),oT 148 152 (.mov t17),oT 148 153 (.una .not X7M),oT 148 154 (.bin .eql .bool X7R X7P),Ym 155 148 154,oM 4 155] .ret))))))))))))
theorem ok3:Y4 3 156 ir3 [.tmp 4]:=Yf Tryz.func3 Tryz.ntmps3
def ir4:X3:=(Yr [Yj 0 kF] (Yr [oO 6 (.bslice [z0] 1 [(0,k2)]),oO 7 (.build [Yu,z0,nS,nS] [(0,1,(kB 4)),(2,1,t6)]),Yc 8 7 [t7],oM 5 8,Yx 9 5 0,Yx 10 5 1,oM 1 9,oM 2 10] (Yr [Yc 12 22 [],⟨(some 13),.build [Yu,
 z0,z0,z0,z0,z0,z0,(.string ⟨#[]⟩),(.string ⟨#[]⟩),(.string ⟨#[]⟩),(.string ⟨#[]⟩),(.bool false)] [(0,1,(kB 1)),(7,1,(.const (.string ⟨#[117]⟩)))],none⟩,Yc 14 21 [t12,t13],oM 11 14,Yx 15 11 0,Yx 16 11 1,
 oM 3 15,oM 4 16] (sQ (.draw [Yd 0 (oM 17 2) 0 1,Yd 1 (Yo 18 .eql t17 k0) 1 1,Yd 2 (oM 19 18) 3 1,Yd 3 (oT 19 20 (.mov t1)) 7 1,Yd 4 (oT 19 21 (.len t20)) 15 1,Yd 5 (oT 19 22 (.bin .eql .num t21 k1)) 31 1,
 Yd 6 (Ym 23 19 22) 63 1,Yd 7 (oM 24 23) 127 1,Yd 8 (oT 24 25 (.mov t1)) 255 1,Yd 9 (oT 24 26 (.iaddr 2 t25 k0)) 511 1,Yd 10 (oT 24 27 (.faddr 1 t26)) 1023 1,Yd 11 (oT 24 28 (.load true 1 t27)) 2047 1,Yd 12 (oT 24 29 (.bslice [z0] 1 [(0,
 k2)])) 255 0,Yd 13 (oT 24 30 (kC 24 [t29])) 4351 0,Yd 14 (oT 24 31 (kC 23 [t28,t30])) 16383 1,Yd 15 (Ym 32 24 31) 32767 1,Yd 16 (oM 33 32) 65535 1,Yd 17 (oT 33 34 (.mov t4)) 131071 1,Yd 18 (oT 33 35 (.bin .eql .num t34 k0)) 262143 1,
 Yd 19 (Ym 36 33 35) 524287 1,Yd 20 (oM 37 36) 1048575 1,Yd 21 (oT 37 38 (.mov t3)) 2097151 1,Yd 22 (oT 37 39 (kC 25 [t38])) 4194303 1,Yd 23 (oT 37 40 (.bin .eql .num t39 k1)) 8388607 1,Yd 24 (Ym 41 37 40) 16777215 1,
 Yd 25 (oM 0 41) 33554431 1]) .ret))))
theorem ok4:Y4 4 42 ir4 [.tmp 0]:=Yf Tryz.func4 Tryz.ntmps4
def ir5:X3:=(Yr [Yz 2 [Yu,z0,nS,nS],Yz 3 [z0,z0,nS,nS]] (Yr [oM 5 0,oM 6 0,Yn 7 6,oO 8 (.mn t7 k40),oO 9 (.slc 1 t5 none (some t8) none),Yc 10 26 [t9,k1,k6],Yz 4 [z0,z0,nS,nS],Ys 4 4 10] (sQ (.draw [Yd 0 (Yl 11 4 4) 0 0,
 Yd 1 (Yc 12 27 [t11]) 1 0,Yd 2 (Yl 13 4 4) 0 0,Yd 3 (Ys 4 2 12) 3 6,Yd 4 (Ys 4 3 13) 15 1]) .ret)))
theorem ok5:Y4 5 14 ir5 [.cell 2 true 4,.cell 3 true 4]:=Yf Tryz.func5 Tryz.ntmps5
def ok6 := Xk Tryz.func6 Tryz.ntmps6
def ok7 := Xk Tryz.func7 Tryz.ntmps7
def ok8 := Xk Tryz.func8 Tryz.ntmps8
def ok9 := Xk Tryz.func9 Tryz.ntmps9
def ok10 := Xk Tryz.func10 Tryz.ntmps10
def ir11:X3:=(Yr [Yb 2 0,Yz 4 [nS]] (sQ (Yr [oM 6 1,Yo 7 .lss t6 k0,oM 8 7,oF 8 9 (.mov t1),oF 8 10 (.bin .gtr .num t9 (kI 4095)),Yq 11 8 10,oM 12 11,oF 12 13 (.load true 1 t2),oF 12 14 (.mov t1),oF 12 15 (kC 42 [t13,
 t14]),Yq 16 12 15] (.cond t16 (Yr [Yl 17 1 2,Ys 1 4 17] .ret) .skip)) (Yr [Ya 18 0 2,Yk 19 18,Yn 20 19,oM 21 1,Yo 22 .quo t21 k64,Yo 23 .add t22 k1,oO 24 (.mx t20 t23),oO 25 (.mslice [Y5] 8 t24 t24),oM 5 25] (Yr [oM 26 5,
 Ya 27 0 2,Yk 28 27,oO 29 (.copy 1 t26 t28)] (sQ (.draw [Yd 0 (oM 30 5) 0 1,Yd 1 (oM 31 1) 0 1,Yd 2 (Yo 32 .quo t31 k64) 2 1,Yd 3 (Yi 33 1 30 32) 7 1,Yd 4 (Yk 34 33) 15 1,Yd 5 (oM 35 1) 0 0,Yd 6 (Yo 36 .rem t35 k64) 32 0,
 Yd 7 (Yo 37 .shl (kW 1) t36) 96 0,Yd 8 (Yo 38 .or t34 t37) 255 1,Yd 9 (Yi 39 1 30 32) 511 1,Yd 10 (Ys 1 39 38) 1023 1]) (Yr [oM 40 5,oO 41 (.build [nS] [(0,1,t40)]),Ys 1 4 41] .ret))))))
theorem ok11:Y4 11 42 ir11 [.cell 4 true 1]:=Yf Tryz.func11 Tryz.ntmps11
def ok12 := Xk Tryz.func12 Tryz.ntmps12
def ir13:X3:=(Yr [Yj 4 k0] (sQ (Yr [oM 6 0,Yn 7 6,Yj 8 k0] (.block 0 (.loop (Yr [Yo 9 .lss t8 t7] (sQ (.cond t9 .skip (.exit 0)) (sQ (.block 1 (Yr [oM 10 8,oM 5 10] (Yr [oM 11 1,oM 12 0,oM 13 5,Yi 14 2 12 13,
 Yl 15 2 14,oO 16 (.call t11 [t15])] (.cond t16 (Yr [oM 17 5,oM 4 17] .ret) .skip)))) (Yg [Yo 18 .add t8 k1,oM 8 18]))))))) (Yr [oO 4 (.mov (.const (.int .i64 (-1))))] .ret)))
theorem ok13:Y4 13 19 ir13 [.tmp 4]:=Yf Tryz.func13 Tryz.ntmps13
def ok14 := Xk Tryz.func14 Tryz.ntmps14
def ok15 := Xk Tryz.func15 Tryz.ntmps15
def ir16:X3:=(Yr [Yb 2 0,Yb 3 1,Yz 4 [nS]] (Yr [Ya 7 0 2,Yk 8 7,Yn 9 8,Ya 10 0 3,Yk 11 10,Yn 12 11,oO 13 (.mx t9 t12),oO 14 (.mslice [Y5] 8 t13 t13),oM 5 14] (sQ (Yr [oM 15 5,Yn 16 15,Yj 17 k0] (.block 0 (.loop (Yr [Yo 18 .lss t17 t16] (sQ (.cond t18 .skip (.exit 0)) (sQ (.block 1 (Yr [oM 19 17,
 oM 6 19] (.draw [Yd 0 (oM 20 5) 0 0,Yd 1 (oM 21 6) 0 0,Yd 2 (Yl 22 1 2) 0 0,Yd 3 (oM 23 6) 0 0,Yd 4 (Yc 24 47 [t22,t23]) 12 0,Yd 5 (Yl 25 1 3) 0 0,Yd 6 (oM 26 6) 0 0,Yd 7 (Yc 27 47 [t25,t26]) 124 1,Yd 8 (Yo 28 .or t24 t27) 252 1,
 Yd 9 (Yi 29 1 20 21) 511 1,Yd 10 (Ys 1 29 28) 1023 1]))) (Yg [Yo 30 .add t17 k1,oM 17 30]))))))) (Yr [oM 31 5,oO 32 (.build [nS] [(0,1,t31)]),Ys 1 4 32] .ret))))
theorem ok16:Y4 16 33 ir16 [.cell 4 true 1]:=Yf Tryz.func16 Tryz.ntmps16
def ir17:X3:=(Yr [Yb 2 0,Yb 3 1,Yz 4 [nS]] (Yr [Ya 7 0 2,Yk 8 7,Yn 9 8,Ya 10 0 3,Yk 11 10,Yn 12 11,oO 13 (.mn t9 t12),oO 14 (.mslice [Y5] 8 t13 t13),oM 5 14] (sQ (Yr [oM 15 5,Yn 16 15,Yj 17 k0] (.block 0 (.loop (Yr [Yo 18 .lss t17 t16] (sQ (.cond t18 .skip (.exit 0)) (sQ (.block 1 (Yr [oM 19 17,
 oM 6 19] (.draw [Yd 0 (oM 20 5) 0 0,Yd 1 (oM 21 6) 0 0,Yd 2 (Ya 22 0 2) 0 0,Yd 3 (Yk 23 22) 4 0,Yd 4 (oM 24 6) 0 0,Yd 5 (Yi 25 1 23 24) 28 0,Yd 6 (Yk 26 25) 60 0,Yd 7 (Ya 27 0 3) 0 0,Yd 8 (Yk 28 27) 128 0,
 Yd 9 (oM 29 6) 0 0,Yd 10 (Yi 30 1 28 29) 896 0,Yd 11 (Yk 31 30) 1920 0,Yd 12 (Yo 32 .and t26 t31) 4092 1,Yd 13 (Yi 33 1 20 21) 8191 1,Yd 14 (Ys 1 33 32) 16383 1]))) (Yg [Yo 34 .add t17 k1,oM 17 34]))))))) (Yr [oM 35 5,
 Yc 36 48 [t35],Ys 1 4 36] .ret))))
theorem ok17:Y4 17 37 ir17 [.cell 4 true 1]:=Yf Tryz.func17 Tryz.ntmps17
def ok18 := Xk Tryz.func18 Tryz.ntmps18
def ir19:X3:=(Yr [Yb 2 0,Yb 3 1,Yz 4 [nS]] (Yr [Ya 7 0 2,Yk 8 7,Yn 9 8,oO 10 (.mslice [Y5] 8 t9 t9),oM 5 10] (sQ (Yr [oM 11 5,Yn 12 11,Yj 13 k0] (.block 0 (.loop (Yr [Yo 14 .lss t13 t12] (sQ (.cond t14 .skip (.exit 0)) (sQ (.block 1 (Yr [oM 15 13,
 oM 6 15] (.draw [Yd 0 (oM 16 5) 0 0,Yd 1 (oM 17 6) 0 0,Yd 2 (Ya 18 0 2) 0 0,Yd 3 (Yk 19 18) 4 0,Yd 4 (oM 20 6) 0 0,Yd 5 (Yi 21 1 19 20) 28 0,Yd 6 (Yk 22 21) 60 0,Yd 7 (Yl 23 1 3) 0 0,Yd 8 (oM 24 6) 0 0,
 Yd 9 (Yc 25 47 [t23,t24]) 384 0,Yd 10 (Yo 26 .andNot t22 t25) 1020 1,Yd 11 (Yi 27 1 16 17) 2047 1,Yd 12 (Ys 1 27 26) 4095 1]))) (Yg [Yo 28 .add t13 k1,oM 13 28]))))))) (Yr [oM 29 5,Yc 30 48 [t29],Ys 1 4 30] .ret))))
theorem ok19:Y4 19 31 ir19 [.cell 4 true 1]:=Yf Tryz.func19 Tryz.ntmps19
def ok20 := Xk Tryz.func20 Tryz.ntmps20
def ir21:X3:=(Yr [Yb 3 1,oO 4 (.mov (.const nP)),Yj 5 k0] (sQ (Yr [oM 10 0,oO 11 (.bin .eql .ptr t10 (.const nP))] (.cond t11 (Yr [oO 4 (.mov (.const nP)),Yj 5 k1] .ret) .skip)) (sQ (Yr [Yl 12 12 3,
 Yc 13 49 [t12],oM 6 13] (Yr [oM 14 6,Yo 15 .neq t14 k0] (.cond t15 (Yr [oM 16 6,oO 4 (.mov (.const nP)),oM 5 16] .ret) .skip))) (Yr [oM 17 0,Yc 18 50 [t17],Yz 7 [z0,nP,nP,nS,nP,nP,nP,nS,nS,nP],Ys 10 7 18] (Yr [oM 19 0,
 Yl 20 12 3,Yc 21 51 [t19,t7,t20],oM 8 21] (sQ (Yr [oM 22 8,Yo 23 .neq t22 k0] (.cond t23 (Yr [oM 24 8,oO 4 (.mov (.const nP)),oM 5 24] .ret) .skip)) (Yr [Yl 26 10 7,Yc 27 52 [t26],oM 25 27,Yx 28 25 0,Yx 29 25 1,
 oM 9 28,oM 8 29] (sQ (Yr [oM 30 8,Yo 31 .neq t30 k0] (.cond t31 (Yr [oM 32 8,oO 4 (.mov (.const nP)),oM 5 32] .ret) .skip)) (sQ (sQ (.draw [Yd 0 (Ya 33 0 3) 0 1,Yd 1 (Yk 34 33) 1 1,Yd 2 (Yc 35 53 [t34]) 3 1,
 Yd 3 (oM 36 35) 7 1,Yd 4 (oT 36 37 (.faddr 8 t7)) 15 1,Yd 5 (oT 36 38 (.load false 1 t37)) 31 1,Yd 6 (oT 36 39 (.mov t0)) 15 0,Yd 7 (oT 36 40 (kC 55 [t39])) 79 0,Yd 8 (oT 36 41 (.mov t9)) 15 0,Yd 9 (oT 36 42 (kC 55 [t41])) 463 0,
 Yd 10 (oT 36 43 (kC 54 [t38,t40,t42])) 1023 1,Yd 11 (oT 36 44 (.len t43)) 2047 1,Yd 12 (oT 36 45 (.bin .gtr .num t44 k0)) 4095 1,Yd 13 (Ym 46 36 45) 8191 1]) (.cond t46 (Yr [oO 4 (.mov (.const nP)),Yj 5 k12] .ret) .skip)) (sQ (Yr [Ya 47 0 3,
 Yk 48 47,Yo 49 .eql t48 (kB 16),oM 50 49,oT 50 51 (.faddr 8 t7),oT 50 52 (.load false 1 t51),oT 50 53 (.mov t0),oT 50 54 (.mov t9),oT 50 55 (.faddr 5 t3),oT 50 56 (.load false 1 t55),oT 50 57 (kC 56 [t52,
 t53,t54,t56]),Ym 58 50 57] (.cond t58 (Yr [oO 4 (.mov (.const nP)),Yj 5 k12] .ret) .skip)) (Yr [oM 59 9,oM 4 59,Yj 5 k0] .ret)))))))))))
theorem ok21:Y4 21 60 ir21 [.tmp 4,.tmp 5]:=Yf Tryz.func21 Tryz.ntmps21
def ok22 := Xk Tryz.func22 Tryz.ntmps22
def ok23 := Xk Tryz.func23 Tryz.ntmps23
def ir24:X3:=(Yr [Yz 2 [nS]] (Yr [oO 3 (.mov (.const (.int .i64 (-1))))] (sQ (Yr [oM 9 0,Yn 10 9,Yj 11 k0] (.block 0 (.loop (Yr [Yo 12 .lss t11 t10] (sQ (.cond t12 .skip (.exit 0)) (sQ (.block 1 (Yr [Yi 13 1 9 11,
 Yk 14 13,oM 5 14] (Yr [oM 15 5,Yo 16 .leq t15 (kI 4095)] (.cond t16 (Yg [oM 17 3,oM 18 5,oO 19 (.mx t17 t18),oM 3 19]) .skip)))) (Yg [Yo 20 .add t11 k1,oM 11 20]))))))) (sQ (Yr [oM 21 3,Yo 22 .lss t21 k0] (.cond t22 (Yr [oO 23 (.build [nS] []),
 Ys 1 2 23] .ret) .skip)) (Yr [oM 24 3,Yo 25 .quo t24 k64,Yo 26 .add t25 k1,oO 27 (.mslice [Y5] 8 t26 t26),oM 6 27] (sQ (Yr [oM 28 0,Yn 29 28,Yj 30 k0] (.block 2 (.loop (Yr [Yo 31 .lss t30 t29] (sQ (.cond t31 .skip (.exit 2)) (sQ (.block 3 (Yr [Yi 32 1 28 30,
 Yk 33 32,oM 8 33] (Yr [oM 34 8,Yo 35 .geq t34 k0,oM 36 35,oT 36 37 (.mov t8),oT 36 38 (.mov t3),oT 36 39 (.bin .leq .num t37 t38),Ym 40 36 39] (.cond t40 (.draw [Yd 0 (oM 41 6) 0 1,Yd 1 (oM 42 8) 0 1,Yd 2 (Yo 43 .quo t42 k64) 2 1,
 Yd 3 (Yi 44 1 41 43) 7 1,Yd 4 (Yk 45 44) 15 1,Yd 5 (oM 46 8) 0 0,Yd 6 (Yo 47 .rem t46 k64) 32 0,Yd 7 (Yo 48 .shl (kW 1) t47) 96 0,Yd 8 (Yo 49 .or t45 t48) 255 1,Yd 9 (Yi 50 1 41 43) 511 1,Yd 10 (Ys 1 50 49) 1023 1]) .skip)))) (Yg [Yo 51 .add t30 k1,
 oM 30 51]))))))) (Yr [oM 52 6,Yc 53 48 [t52],Ys 1 2 53] .ret)))))))
theorem ok24:Y4 24 54 ir24 [.cell 2 true 1]:=Yf Tryz.func24 Tryz.ntmps24
def ok25 := Xk Tryz.func25 Tryz.ntmps25
def ok26 := Xk Tryz.func26 Tryz.ntmps26
def ir27:X3:=(Yr [Yb 1 0,Yz 2 [Yu,z0,nS,nS]] (sQ (.draw [Yd 0 (Ya 6 0 1) 0 0,Yd 1 (Yk 7 6) 1 0,Yd 2 (oO 8 (.conv .u8 t7)) 3 0,Yd 3 (Ya 9 1 1) 0 0,Yd 4 (Yk 10 9) 8 0,Yd 5 (oO 11 (.bslice [z0] 0 [])) 0 0,
 Yd 6 (Ya 12 2 1) 0 0,Yd 7 (Yk 13 12) 64 0,Yd 8 (oO 14 (.append [z0] 8 t11 t13)) 224 448,Yd 9 (oO 15 (.build [Yu,z0,nS,nS] [(0,1,t8),(1,1,t10),(2,1,t14)])) 511 1,Yd 10 (Yz 3 [Yu,z0,nS,nS]) 0 0,Yd 11 (Ys 4 3 15) 2047 1]) (sQ (Yr [Ya 16 3 1,
 Yk 17 16,Yn 18 17,Yj 19 k0] (.block 0 (.loop (Yr [Yo 20 .lss t19 t18] (sQ (.cond t20 .skip (.exit 0)) (sQ (.block 1 (Yr [Yi 21 4 17 19,Yl 22 4 21,Yz 5 [z0,z0,nS,nS],Ys 4 5 22] (.draw [Yd 0 (Ya 23 3 3) 0 0,
 Yd 1 (Yk 24 23) 1 0,Yd 2 (Yl 25 4 5) 0 0,Yd 3 (Yc 26 27 [t25]) 4 0,Yd 4 (oO 27 (.bslice [Yu,z0,nS,nS] 1 [(0,t26)])) 12 0,Yd 5 (oO 28 (.append [Yu,z0,nS,nS] 64 t24 t27)) 31 1,Yd 6 (Ya 29 3 3) 63 1,Yd 7 (Ys 1 29 28) 127 1]))) (Yg [Yo 30 .add t19 k1,
 oM 19 30]))))))) (Yr [Yl 31 4 3,Ys 4 2 31] .ret))))
theorem ok27:Y4 27 32 ir27 [.cell 2 true 4]:=Yf Tryz.func27 Tryz.ntmps27
def ok28 := Xk Tryz.func28 Tryz.ntmps28
def ir29:X3:=(Yr [oO 2 (.mov (.const nS))] (Yr [oO 3 (.mov (.const nS))] (sQ (Yr [Yj 4 k1] (.block 0 (.loop (sQ (Yr [oM 5 4,oM 6 0,Yo 7 .leq t5 t6] (.cond t7 .skip (.exit 0))) (sQ (.block 1 (Yr [oM 10 4,
 Yo 11 .lss t10 k10] (.cond t11 (Yg [oM 12 3,oM 13 4,oM 14 4,Yo 15 .add t14 k1,⟨(some 16),.slcS (.const (.string ⟨#[48,49,50,51,52,53,54,55,56,57]⟩)) (some t13) (some t15),none⟩,⟨(some 17),.bin .add .num (.const (.string ⟨#[114]⟩)) t16,
 none⟩,⟨(some 18),.bslice [(.string ⟨#[]⟩)] 1 [(0,t17)],none⟩,⟨(some 19),.append [(.string ⟨#[]⟩)] 16 t12 t18,none⟩,oM 3 19]) (.draw [Yd 0 (oM 20 3) 0 1,Yd 1 (oM 21 4) 0 1,Yd 2 (Yo 22 .quo t21 k10) 2 1,
 Yd 3 (oM 23 4) 0 1,Yd 4 (Yo 24 .quo t23 k10) 8 1,Yd 5 (Yo 25 .add t24 k1) 24 1,⟨6,⟨(some 26),.slcS (.const (.string ⟨#[48,49,50,51,52,53,54,55,56,57]⟩)) (some t22) (some t25),none⟩,62,1,false⟩,⟨7,⟨(some 27),
 .bin .add .num (.const (.string ⟨#[114]⟩)) t26,none⟩,126,1,false⟩,Yd 8 (oM 28 4) 0 1,Yd 9 (Yo 29 .rem t28 k10) 256 1,Yd 10 (oM 30 4) 0 1,Yd 11 (Yo 31 .rem t30 k10) 1024 1,Yd 12 (Yo 32 .add t31 k1) 3072 1,
 ⟨13,⟨(some 33),.slcS (.const (.string ⟨#[48,49,50,51,52,53,54,55,56,57]⟩)) (some t29) (some t32),none⟩,7936,1,false⟩,Yd 14 (Yo 34 .add t27 t33) 16382 1,⟨15,⟨(some 35),.bslice [(.string ⟨#[]⟩)] 1 [(0,t34)],
 none⟩,32766,1,false⟩,⟨16,⟨(some 36),.append [(.string ⟨#[]⟩)] 16 t20 t35,none⟩,65535,1,false⟩,Yd 17 (oM 3 36) 131071 1])))) (Yg [oM 8 4,Yo 9 .add t8 k1,oM 4 9])))))) (Yr [oM 37 3,oM 2 37] .ret))))
theorem ok29:Y4 29 38 ir29 [.tmp 2]:=Yf Tryz.func29 Tryz.ntmps29
def ok30 := Xk Tryz.func30 Tryz.ntmps30
def ok31 := Xk Tryz.func31 Tryz.ntmps31
def ir32:X3:=(Yr [Yb 1 0,⟨(some 2),.mov (.const (.string ⟨#[]⟩)),none⟩] (sQ (Yr [Yl 3 4 1,Yc 4 66 [t3],Yo 5 .neq t4 k0] (.cond t5 (Yr [⟨(some 2),.mov (.const (.string ⟨#[]⟩)),none⟩] .ret) .skip)) (Yr [Yl 6 4 1,
 Yc 7 72 [t6],oM 2 7] .ret)))
theorem ok32:Y4 32 8 ir32 [.tmp 2]:=Yf Tryz.func32 Tryz.ntmps32
def ok33 := Xk Tryz.func33 Tryz.ntmps33
def ok34 := Xk Tryz.func34 Tryz.ntmps34
def ok35 := Xk Tryz.func35 Tryz.ntmps35
def ir36:X3:=(Yr [Yb 1 0,Yz 2 [nS]] (Yr [Ya 6 2 1,Yk 7 6,Yc 8 24 [t7],Yz 3 [nS],Ys 1 3 8] (sQ (Yr [Ya 9 3 1,Yk 10 9,Yn 11 10,Yj 12 k0] (.block 0 (.loop (Yr [Yo 13 .lss t12 t11] (sQ (.cond t13 .skip (.exit 0)) (sQ (.block 1 (Yr [Yi 14 4 10 12,
 Yl 15 4 14,Yz 5 [Yu,z0,nS,nS],Ys 4 5 15] (.draw [Yd 0 (Yl 16 1 3) 0 0,Yd 1 (Yl 17 4 5) 0 0,Yd 2 (Yc 18 36 [t17]) 2 0,Yd 3 (Yc 19 16 [t16,t18]) 7 1,Yd 4 (Ys 1 3 19) 15 1]))) (Yg [Yo 20 .add t12 k1,oM 12 20]))))))) (Yr [Yl 21 1 3,
 Ys 1 2 21] .ret))))
theorem ok36:Y4 36 22 ir36 [.cell 2 true 1]:=Yf Tryz.func36 Tryz.ntmps36
def ok37 := Xk Tryz.func37 Tryz.ntmps37
def ok38 := Xk Tryz.func38 Tryz.ntmps38
def ok39 := Xk Tryz.func39 Tryz.ntmps39
def ir40:X3:=(Yr [Yj 4 kF] (sQ (Yr [oM 6 0,Yn 7 6,oM 8 1,Yn 9 8,Yo 10 .neq t7 t9] (.cond t10 (Yr [Yj 4 kF] .ret) .skip)) (sQ (Yr [oM 11 0,Yn 12 11,Yj 13 k0] (.block 0 (.loop (Yr [Yo 14 .lss t13 t12] (sQ (.cond t14 .skip (.exit 0)) (sQ (.block 1 (Yr [oM 15 13,
 oM 5 15] (sQ (.draw [Yd 0 (oM 16 0) 0 0,Yd 1 (oM 17 5) 0 0,Yd 2 (Yi 18 1 16 17) 3 0,Yd 3 (Yk 19 18) 7 0,Yd 4 (oM 20 1) 0 0,Yd 5 (oM 21 5) 0 0,Yd 6 (Yi 22 1 20 21) 48 0,Yd 7 (Yk 23 22) 112 0,Yd 8 (Yo 24 .neq t19 t23) 255 1]) (.cond t24 (Yr [Yj 4 kF] .ret) .skip)))) (Yg [Yo 25 .add t13 k1,
 oM 13 25]))))))) (Yr [Yj 4 kT] .ret))))
theorem ok40:Y4 40 26 ir40 [.tmp 4]:=Yf Tryz.func40 Tryz.ntmps40
def ok41 := Xk Tryz.func41 Tryz.ntmps41
def ok42 := Xk Tryz.func42 Tryz.ntmps42
def ok43 := Xk Tryz.func43 Tryz.ntmps43
def ir44:X3:=(Yr [Yb 2 0,Yb 3 1,Yj 4 k0] (sQ (Yr [Ya 10 0 3,Yk 11 10] (.block 0 (Yr [Yo 13 .eql t11 (kB 1),oM 12 13] (.cond t12 (Yr [Ya 14 1 3,Yk 15 14,oM 4 15] .ret) (Yr [Yo 17 .eql t11 (kB 2),oM 16 17] (.cond t16 (Yr [Yj 4 k1] .ret) (Yr [Yo 19 .eql t11 (kB 3),
 oM 18 19] (.cond t18 (Yr [Yj 4 k0] .ret) (sQ (Yr [Yo 21 .eql t11 (kB 4),oM 20 21] (.cond t20 .skip (Yg [Yo 22 .eql t11 (kB 5),oM 20 22]))) (.cond t20 (Yr [Yj 5 k0] (sQ (Yr [Ya 23 2 3,Yk 24 23,Yn 25 24,
 Yj 26 k0] (.block 1 (.loop (Yr [Yo 27 .lss t26 t25] (sQ (.cond t27 .skip (.exit 1)) (sQ (.block 2 (Yr [Yi 28 1 24 26,Yk 29 28,oM 7 29] (Yg [oM 30 5,Ya 31 0 2,Yl 32 1 31,oM 33 7,Yc 34 42 [t32,t33],Yc 35 85 [t34],
 Yo 36 .add t30 t35,oM 5 36]))) (Yg [Yo 37 .add t26 k1,oM 26 37]))))))) (Yr [oM 38 5,oM 4 38] .ret))) (Yr [Yo 40 .eql t11 (kB 6),oM 39 40] (.cond t39 (sQ (.draw [Yd 0 (Yl 41 2 2) 0 0,Yd 1 (Ya 42 2 3) 0 0,
 Yd 2 (Yk 43 42) 2 0,Yd 3 (oO 44 (.iaddr 1 t43 k0)) 6 0,Yd 4 (Yk 45 44) 14 0,Yd 5 (Yc 46 86 [t41,t45]) 31 1,Yd 6 (oM 4 46) 63 1]) .ret) (Yr [Yo 48 .eql t11 (kB 7),oM 47 48] (.cond t47 (sQ (.draw [Yd 0 (Yl 49 2 2) 0 0,
 Yd 1 (Ya 50 3 3) 0 0,Yd 2 (Yk 51 50) 2 0,Yd 3 (oO 52 (.iaddr 4 t51 k0)) 6 0,Yd 4 (Yl 53 4 52) 14 0,Yd 5 (Yc 54 44 [t49,t53]) 31 1,Yd 6 (Yo 55 .sub k1 t54) 63 1,Yd 7 (oM 4 55) 127 1]) .ret) .skip)))))))))))))) (sQ (.draw [Yd 0 (Yl 56 2 2) 0 0,
 Yd 1 (Ya 57 3 3) 0 0,Yd 2 (Yk 58 57) 2 0,Yd 3 (oO 59 (.iaddr 4 t58 k0)) 6 0,Yd 4 (Yl 60 4 59) 14 0,Yd 5 (Yc 61 44 [t56,t60]) 31 0,Yd 6 (Yl 62 2 2) 0 0,Yd 7 (Ya 63 3 3) 0 0,Yd 8 (Yk 64 63) 128 0,Yd 9 (oO 65 (.iaddr 4 t64 k1)) 384 0,
 Yd 10 (Yl 66 4 65) 896 0,Yd 11 (Yc 67 44 [t62,t66]) 2047 1,Yd 12 (oM 8 61) 4095 1,Yd 13 (oM 9 67) 8191 1]) (sQ (Yr [Ya 68 0 3,Yk 69 68] (.block 3 (Yr [Yo 71 .eql t69 (kB 8),oM 70 71] (.cond t70 (Yr [oM 72 8,
 oM 73 9,Yo 74 .mul t72 t73,oM 4 74] .ret) (Yr [Yo 76 .eql t69 (kB 9),oM 75 76] (.cond t75 (Yr [oM 77 8,oM 78 9,oO 79 (.mx t77 t78),oM 4 79] .ret) (Yr [Yo 81 .eql t69 (kB 10),oM 80 81] (.cond t80 (Yr [oM 82 8,
 Yo 83 .sub k1 t82,oM 84 9,oO 85 (.mx t83 t84),oM 4 85] .ret) (Yr [Yo 87 .eql t69 (kB 11),oM 86 87] (.cond t86 (Yr [oM 88 8,oM 89 9,Yo 90 .leq t88 t89,Yc 91 85 [t90],oM 4 91] .ret) (Yr [Yo 93 .eql t69 (kB 12),
 oM 92 93] (.cond t92 (Yr [oM 94 8,oM 95 9,Yo 96 .lss t94 t95,Yc 97 85 [t96],oM 4 97] .ret) (Yr [Yo 99 .eql t69 (kB 13),oM 98 99] (.cond t98 (Yr [oM 100 8,oM 101 9,Yo 102 .geq X7e X7G,Yc 103 85 [X6q],
 oM 4 103] .ret) (Yr [Yo 105 .eql t69 (kB 14),oM 104 105] (.cond X6l (Yr [oM 106 8,oM 107 9,Yo 108 .gtr X6X X6T,Yc 109 85 [X7L],oM 4 109] .ret) (Yr [Yo 111 .eql t69 (kB 15),oM 110 111] (.cond X6B (Yr [oM 112 8,
 oM 113 9,Yo 114 .eql X6L X7j,Yc 115 85 [X6D],oM 4 115] .ret) .skip)))))))))))))))))) (Yr [oM 116 8,oM 117 9,Yo 118 .add X7k X6z,oM 4 118] .ret)))))
theorem ok44:Y4 44 119 ir44 [.tmp 4]:=Yf Tryz.func44 Tryz.ntmps44
def ok45 := Xk Tryz.func45 Tryz.ntmps45
def ir46:X3:=(Yr [Yb 2 0,Yb 3 1,Yj 4 kF] (sQ (Yr [Ya 6 0 2,Yk 7 6,Yn 8 7,Ya 9 0 3,Yk 10 9,Yn 11 10,oO 12 (.mn t8 t11),Yj 13 k0] (.block 0 (.loop (Yr [Yo 14 .lss t13 t12] (sQ (.cond t14 .skip (.exit 0)) (sQ (.block 1 (Yr [oM 15 13,
 oM 5 15] (sQ (.draw [Yd 0 (Ya 16 0 2) 0 0,Yd 1 (Yk 17 16) 1 0,Yd 2 (oM 18 5) 0 0,Yd 3 (Yi 19 1 17 18) 7 0,Yd 4 (Yk 20 19) 15 0,Yd 5 (Ya 21 0 3) 0 0,Yd 6 (Yk 22 21) 32 0,Yd 7 (oM 23 5) 0 0,Yd 8 (Yi 24 1 22 23) 224 0,
 Yd 9 (Yk 25 24) 480 0,Yd 10 (Yo 26 .and t20 t25) 1023 1,Yd 11 (Yo 27 .neq t26 (kW 0)) 2047 1]) (.cond t27 (Yr [Yj 4 kT] .ret) .skip)))) (Yg [Yo 28 .add t13 k1,oM 13 28]))))))) (Yr [Yj 4 kF] .ret)))
theorem ok46:Y4 46 29 ir46 [.tmp 4]:=Yf Tryz.func46 Tryz.ntmps46
def ok47 := Xk Tryz.func47 Tryz.ntmps47
def ok48 := Xk Tryz.func48 Tryz.ntmps48
def ir49:X3:=(Yr [Yb 1 0,Yj 2 k0] (sQ (Yr [Ya 5 0 1,Yk 6 5,Yo 7 .lss t6 (kB 1),oM 8 7,oF 8 9 (.faddr 0 t1),oF 8 10 (.load false 1 t9),oF 8 11 (.bin .gtr .num t10 (kB 18)),Yq 12 8 11] (.cond t12 (Yr [Yj 2 k1] .ret) .skip)) (sQ (sQ (.draw [Yd 0 (Yl 13 12 1) 0 0,
 Yd 1 (Yl 14 12 1) 0 0,Yd 2 (Yc 15 87 [t14]) 2 0,Yd 3 (oO 16 (.bin .neq (.cells [0,0,0,0,0,0,0,2,2,2,2,1]) t13 t15)) 7 1]) (.cond t16 (Yr [Yj 2 k6] .ret) .skip)) (sQ (Yr [Ya 17 1 1,Yk 18 17,Ya 19 2 1,Yk 20 19,
 Ya 21 3 1,Yk 22 21,Ya 23 4 1,Yk 24 23,Ya 25 5 1,Yk 26 25,Ya 27 6 1,Yk 28 27,oO 29 (.build [z0,z0,z0,z0,z0,z0] [(0,1,t18),(1,1,t20),(2,1,t22),(3,1,t24),(4,1,t26),(5,1,t28)]),Yj 30 k0] (.block 0 (.loop (Yr [Yo 31 .lss t30 k6] (sQ (.cond t31 .skip (.exit 0)) (sQ (.block 1 (Yr [oO 32 (.indexA false 6 1 t29 t30),
 oM 4 32] (Yr [oM 33 4,Yo 34 .lss t33 k0,oM 35 34,oF 35 36 (.mov t4),oF 35 37 (.bin .gtr .num t36 (kI 1000000)),Yq 38 35 37] (.cond t38 (Yr [Yj 2 k2] .ret) .skip)))) (Yg [Yo 39 .add t30 k1,oM 30 39]))))))) (sQ (Yr [Ya 40 7 1,
 Yk 41 40,oO 42 (.lenS t41),Yo 43 .gtr t42 k12,oM 44 43,oF 44 45 (.faddr 9 t1),oF 44 46 (.faddr 0 t45),oF 44 47 (.load false 1 t46),oF 44 48 (.lenS t47),oF 44 49 (.bin .gtr .num t48 k12),Yq 50 44 49,oM 51 50,
 oF 51 52 (.faddr 9 t1),oF 51 53 (.faddr 1 t52),oF 51 54 (.load false 1 t53),oF 51 55 (.lenS t54),oF 51 56 (.bin .gtr .num t55 (kI 104)),Yq 57 51 56,oM 58 57,oF 58 59 (.faddr 8 t1),oF 58 60 (.load false 1 t59),
 oF 58 61 (.lenS t60),oF 58 62 (.bin .gtr .num t61 (kI 8000)),Yq 63 58 62] (.cond t63 (Yr [Yj 2 k3] .ret) .skip)) (Yr [Yj 2 k0] .ret))))))
theorem ok49:Y4 49 64 ir49 [.tmp 2]:=Yf Tryz.func49 Tryz.ntmps49
def ok50 := Xk Tryz.func50 Tryz.ntmps50
def ir51:X3:=(Yr [Yb 5 2,Yj 6 k0] (sQ (Yr [Ya 7 0 5,Yk 8 7] (.block 0 (sQ (Yr [Yo 10 .eql t8 (kB 1),oM 9 10] (.cond t9 .skip (Yr [Yo 11 .eql t8 (kB 2),oM 9 11] (.cond t9 .skip (Yg [Yo 12 .eql t8 (kB 3),
 oM 9 12]))))) (.cond t9 (Yr [oM 13 1,Yl 14 12 5,Yc 15 89 [t13,t14],oM 6 15] .ret) (sQ (Yr [Yo 17 .eql t8 (kB 4),oM 16 17] (.cond t16 .skip (Yg [Yo 18 .eql t8 (kB 5),oM 16 18]))) (.cond t16 (Yr [oM 19 0,
 oM 20 1,Yl 21 12 5,Yc 22 90 [t19,t20,t21],oM 6 22] .ret) (sQ (Yr [Yo 24 .eql t8 (kB 6),oM 23 24] (.cond t23 .skip (Yg [Yo 25 .eql t8 (kB 7),oM 23 25]))) (.cond t23 (Yr [oM 26 0,oM 27 1,Yl 28 12 5,Yc 29 91 [t26,
 t27,t28],oM 6 29] .ret) (sQ (Yr [Yo 31 .eql t8 (kB 8),oM 30 31] (.cond t30 .skip (Yg [Yo 32 .eql t8 (kB 9),oM 30 32]))) (.cond t30 (Yr [oM 33 0,oM 34 1,Yl 35 12 5,Yc 36 92 [t33,t34,t35],oM 6 36] .ret) (sQ (Yr [Yo 38 .eql t8 (kB 10),
 oM 37 38] (.cond t37 .skip (Yg [Yo 39 .eql t8 (kB 11),oM 37 39]))) (.cond t37 (Yr [oM 40 1,Yl 41 12 5,Yc 42 93 [t40,t41],oM 6 42] .ret) (sQ (Yr [Yo 44 .eql t8 (kB 12),oM 43 44] (.cond t43 .skip (Yg [Yo 45 .eql t8 (kB 13),
 oM 43 45]))) (.cond t43 (Yr [oM 46 0,oM 47 1,Yl 48 12 5,Yc 49 94 [t46,t47,t48],oM 6 49] .ret) (Yr [Yo 51 .eql t8 (kB 18),oM 50 51] (.cond t50 (sQ (sQ (.draw [Yd 0 (Ya 52 6 5) 0 1,Yd 1 (Yk 53 52) 1 1,Yd 2 (oM 54 0) 0 0,
 Yd 3 (Yc 55 95 [t54]) 4 0,Yd 4 (Yo 56 .lss t53 t55) 15 1,Yd 5 (oM 57 56) 31 1,Yd 6 (oF 57 58 (.faddr 6 t5)) 63 1,Yd 7 (oF 57 59 (.load false 1 t58)) 127 1,Yd 8 (oF 57 60 (.bin .gtr .num t59 (kI 30000))) 255 1,
 Yd 9 (Yq 61 57 60) 511 1]) (.cond t61 (Yr [Yj 6 k2] .ret) .skip)) (Yr [oM 62 1,Ya 63 6 5,Yk 64 63,oO 65 (.nilck t62),Ya 66 0 65,Ys 1 66 64] (Yr [Yj 6 k0] .ret))) .skip)))))))))))))))) (Yr [oM 67 0,oM 68 1,
 Yl 69 12 5,Yc 70 96 [t67,t68,t69],oM 6 70] .ret)))
theorem ok51:Y4 51 71 ir51 [.tmp 6]:=Yf Tryz.func51 Tryz.ntmps51
def ok52 := Xk Tryz.func52 Tryz.ntmps52
def ok53 := Xk Tryz.func53 Tryz.ntmps53
def ok57 := Xk Tryz.func57 Tryz.ntmps57
def ok58 := Xk Tryz.func58 Tryz.ntmps58
def ok59 := Xk Tryz.func59 Tryz.ntmps59
def ok60 := Xk Tryz.func60 Tryz.ntmps60
def ok61 := Xk Tryz.func61 Tryz.ntmps61
def ok62 := Xk Tryz.func62 Tryz.ntmps62
def ok63 := Xk Tryz.func63 Tryz.ntmps63
def ok64 := Xk Tryz.func64 Tryz.ntmps64
def ir65:X3:=(Yr [Yb 2 0,Yz 4 [Yu,z0,nS,nS],Yj 5 kF] (Yr [Ya 15 0 2,Yk 16 15,Ya 17 1 2,Yk 18 17,oO 19 (.build [Yu,z0,nS,nS] [(0,1,t16),(1,1,t18)]),Yz 6 [Yu,z0,nS,nS],Ys 4 6 19] (sQ (Yr [Ya 20 2 2,Yk 21 20,
 Yn 22 21,Yj 23 k0] (.block 0 (.loop (Yr [Yo 24 .lss t23 t22] (sQ (.cond t24 .skip (.exit 0)) (sQ (.block 1 (Yr [Yi 25 1 21 23,Yk 26 25,oM 8 26] (Yr [oM 28 1,oM 29 8,Yc 30 107 [t28,t29],oM 27 30,Yx 31 27 0,
 Yx 32 27 1,oM 9 31,oM 10 32] (sQ (Yr [oM 33 10,Yh 34 33] (.cond t34 (Yr [oO 35 (.build [Yu,z0,nS,nS] []),Ys 4 4 35,Yj 5 kF] .ret) .skip)) (Yg [Ya 36 2 6,Yk 37 36,oM 38 9,⟨(some 39),.bslice [(.string ⟨#[]⟩)] 1 [(0,
 t38)],none⟩,⟨(some 40),.append [(.string ⟨#[]⟩)] 16 t37 t39,none⟩,Ya 41 2 6,Ys 1 41 40]))))) (Yg [Yo 42 .add t23 k1,oM 23 42]))))))) (sQ (Yr [Ya 43 3 2,Yk 44 43,Yn 45 44,Yj 46 k0] (.block 2 (.loop (Yr [Yo 47 .lss t46 t45] (sQ (.cond t47 .skip (.exit 2)) (sQ (.block 3 (Yr [Yi 48 4 44 46,
 Yl 49 4 48,Yz 12 [Yu,z0,nS,nS],Ys 4 12 49] (Yr [Yl 51 4 12,oM 52 1,Yc 53 65 [t51,t52],oM 50 53,Yx 54 50 0,Yx 55 50 1,Yz 13 [Yu,z0,nS,nS],Ys 4 13 54,oM 14 55] (sQ (Yr [oM 56 14,Yh 57 56] (.cond t57 (Yr [oO 58 (.build [Yu,
 z0,nS,nS] []),Ys 4 4 58,Yj 5 kF] .ret) .skip)) (Yg [Ya 59 3 6,Yk 60 59,Yl 61 4 13,oO 62 (.bslice [Yu,z0,nS,nS] 1 [(0,t61)]),oO 63 (.append [Yu,z0,nS,nS] 64 t60 t62),Ya 64 3 6,Ys 1 64 63]))))) (Yg [Yo 65 .add t46 k1,
 oM 46 65]))))))) (Yr [Yl 66 4 6,Ys 4 4 66,Yj 5 kT] .ret)))))
theorem ok65:Y4 65 67 ir65 [.cell 4 true 4,.tmp 5]:=Yf Tryz.func65 Tryz.ntmps65
def ok66 := Xk Tryz.func66 Tryz.ntmps66
def ok67 := Xk Tryz.func67 Tryz.ntmps67
def ir68:X3:=(Yr [Yz 2 [Yu,z0,nS,nS]] (Yr [oM 6 0,Yc 7 113 [t6],oO 8 (.bslice [Yu,z0,nS,nS] 1 [(0,t7)]),oM 3 8] (sQ (.block 0 (.loop (sQ (Yr [oM 9 0,oO 10 (.nilck t9),Ya 11 0 10,Yk 12 11,⟨(some 13),
 kC 114 [t12,(.const (.string ⟨#[45,62]⟩))],none⟩] (.cond t13 .skip (.exit 0))) (.block 1 (Yg [oM 14 3,oM 15 0,Yc 16 113 [t15],oO 17 (.bslice [Yu,z0,nS,nS] 1 [(0,t16)]),oO 18 (.append [Yu,z0,nS,nS] 64 t14 t17),
 oM 3 18]))))) (Yr [oM 19 3,oM 20 3,Yn 21 20,Yo 22 .sub t21 k1,Yi 23 4 19 22,Yl 24 4 23,Yz 4 [Yu,z0,nS,nS],Ys 4 4 24] (sQ (Yr [oM 25 3,Yn 26 25,Yo 27 .sub t26 k2,oM 5 27] (.block 2 (.loop (sQ (Yr [oM 28 5,
 Yo 29 .geq t28 k0] (.cond t29 .skip (.exit 2))) (sQ (.block 3 (.draw [Yd 0 (oM 32 3) 0 0,Yd 1 (oM 33 5) 0 0,Yd 2 (Yi 34 4 32 33) 3 0,Yd 3 (Yl 35 4 34) 7 0,Yd 4 (Yl 36 4 4) 0 0,Yd 5 (Yc 37 115 [(kB 10),
 t35,t36]) 31 1,Yd 6 (Ys 4 4 37) 63 1])) (Yg [oM 30 5,Yo 31 .sub t30 k1,oM 5 31])))))) (Yr [Yl 38 4 4,Ys 4 2 38] .ret))))))
theorem ok68:Y4 68 39 ir68 [.cell 2 true 4]:=Yf Tryz.func68 Tryz.ntmps68
def ok69 := Xk Tryz.func69 Tryz.ntmps69
def ir71:X3:=(Yr [Yj 2 k0,Yj 3 k0] (sQ (Yr [oM 4 0,oO 5 (.bin .eql .ptr t4 (.const nP))] (.cond t5 (Yr [Yj 2 k0,Yj 3 k1] .ret) .skip)) (sQ (.draw [Yd 0 (oM 6 0) 0 0,Yd 1 (oO 7 (.nilck t6)) 1 0,Yd 2 (Ya 8 2 7) 3 0,
 Yd 3 (Yk 9 8) 7 0,Yd 4 (oM 10 0) 0 0,Yd 5 (oO 11 (.nilck t10)) 16 0,Yd 6 (Ya 12 3 11) 48 0,Yd 7 (Yk 13 12) 112 0,Yd 8 (oM 2 9) 15 0,Yd 9 (oM 3 13) 511 1]) .ret)))
theorem ok71:Y4 71 14 ir71 [.tmp 2,.tmp 3]:=Yf Tryz.func71 Tryz.ntmps71
def ir72:X3:=(Yr [Yb 1 0,⟨(some 2),.mov (.const (.string ⟨#[]⟩)),none⟩] (Yr [Ya 6 0 1,Yk 7 6,Yc 8 120 [t7],oM 3 8] (sQ (Yr [Ya 9 0 1,Yk 10 9] (.block 0 (Yr [Yo 12 .eql t10 (kB 1),oM 11 12] (.cond t11 (Yr [Ya 13 1 1,
 Yk 14 13,Yc 15 121 [t14],oM 2 15] .ret) (Yr [Yo 17 .eql t10 (kB 2),oM 16 17] (.cond t16 (Yr [⟨(some 2),.mov (.const (.string ⟨#[116,114,117,101]⟩)),none⟩] .ret) (Yr [Yo 19 .eql t10 (kB 3),oM 18 19] (.cond t18 (Yr [⟨(some 2),
 .mov (.const (.string ⟨#[102,97,108,115,101]⟩)),none⟩] .ret) (Yr [Yo 21 .eql t10 (kB 4),oM 20 21] (.cond t20 (Yr [Ya 22 2 1,Yk 23 22,oO 24 (.iaddr 1 t23 k0),Yk 25 24,oM 2 25] .ret) (Yr [Yo 27 .eql t10 (kB 5),
 oM 26 27] (.cond t26 (Yr [Ya 28 2 1,Yk 29 28,⟨(some 30),kC 122 [t29,(.const (.string ⟨#[44,32]⟩))],none⟩,⟨(some 31),.bin .add .num (.const (.string ⟨#[99,111,117,110,116,40]⟩)) t30,none⟩,⟨(some 32),.bin .add .num t31 (.const (.string ⟨#[41]⟩)),
 none⟩,oM 2 32] .ret) (Yr [Yo 34 .eql t10 (kB 6),oM 33 34] (.cond t33 (Yr [Ya 35 2 1,Yk 36 35,oO 37 (.iaddr 1 t36 k0),Yk 38 37,⟨(some 39),.bin .add .num (.const (.string ⟨#[109,101,109,98,101,114,115,40]⟩)) t38,
 none⟩,⟨(some 40),.bin .add .num t39 (.const (.string ⟨#[41]⟩)),none⟩,oM 2 40] .ret) (Yr [Yo 42 .eql t10 (kB 7),oM 41 42] (.cond t41 (Yr [Ya 43 3 1,Yk 44 43,oO 45 (.iaddr 4 t44 k0),Yl 46 4 45,oM 47 3,Yc 48 123 [t46,
 t47],⟨(some 49),.bin .add .num (.const (.string ⟨#[110,111,116,32]⟩)) t48,none⟩,oM 2 49] .ret) .skip)))))))))))))))) (Yr [oM 50 3,oM 51 3,Yo 52 .add t51 k1,oM 4 50,oM 5 52] (sQ (.block 1 (Yr [Ya 54 0 1,
 Yk 55 54,Yo 56 .eql t55 (kB 10),oM 53 56] (.cond t53 (Yg [oM 57 3,Yo 58 .add t57 k1,oM 59 3,oM 4 58,oM 5 59]) (Yr [oM 61 3,Yc 62 120 [(kB 11)],Yo 63 .eql t61 t62,oM 60 63] (.cond t60 (Yg [oM 64 3,Yo 65 .add t64 k1,
 oM 66 3,Yo 67 .add t66 k1,oM 4 65,oM 5 67]) .skip))))) (sQ (.draw [Yd 0 (Ya 68 3 1) 0 0,Yd 1 (Yk 69 68) 1 0,Yd 2 (oO 70 (.iaddr 4 t69 k0)) 3 0,Yd 3 (Yl 71 4 70) 7 0,Yd 4 (oM 72 4) 0 0,Yd 5 (Yc 73 123 [t71,
 t72]) 31 0,Yd 6 (Ya 74 0 1) 0 0,Yd 7 (Yk 75 74) 64 0,Yd 8 (Yc 76 124 [t75]) 255 0,Yd 9 (Yo 77 .add t73 t76) 511 0,Yd 10 (Ya 78 3 1) 0 0,Yd 11 (Yk 79 78) 1024 0,Yd 12 (oO 80 (.iaddr 4 t79 k1)) 3072 0,Yd 13 (Yl 81 4 80) 7168 0,
 Yd 14 (oM 82 5) 0 0,Yd 15 (Yc 83 123 [t81,t82]) 32255 1,Yd 16 (Yo 84 .add t77 t83) 65535 1,Yd 17 (oM 2 84) 131071 1]) .ret))))))
theorem ok72:Y4 72 85 ir72 [.tmp 2]:=Yf Tryz.func72 Tryz.ntmps72
def ok73 := Xk Tryz.func73 Tryz.ntmps73
def ok74 := Xk Tryz.func74 Tryz.ntmps74
def ok75 := Xk Tryz.func75 Tryz.ntmps75
def ok76 := Xk Tryz.func76 Tryz.ntmps76
def ok77 := Xk Tryz.func77 Tryz.ntmps77
def ok78 := Xk Tryz.func78 Tryz.ntmps78
def ok79 := Xk Tryz.func79 Tryz.ntmps79
def ok81 := Xk Tryz.func81 Tryz.ntmps81
def ok82 := Xk Tryz.func82 Tryz.ntmps82
def ok83 := Xk Tryz.func83 Tryz.ntmps83
def ok84 := Xk Tryz.func84 Tryz.ntmps84
def ok85 := Xk Tryz.func85 Tryz.ntmps85
def ok86 := Xk Tryz.func86 Tryz.ntmps86
def ir87:X3:=(Yr [Yb 1 0,⟨(some 2),.alloc [Yu,z0,z0,z0,z0,z0,z0,(.string ⟨#[]⟩),(.string ⟨#[]⟩),(.string ⟨#[]⟩),(.string ⟨#[]⟩),(.bool false)],none⟩] (Yr [Ya 6 0 1,Yk 7 6,Yc 8 135 [t7],oO 3 (.alloc [(.bool false),
 (.bool false),(.bool false),(.bool false),(.bool false),(.bool false),(.bool false),(.bool false),(.bool false)]),Ys 9 3 8] (sQ (Yr [Yc 9 136 [t1],Yj 10 k0] (.block 0 (.loop (Yr [Yo 11 .lss t10 k6] (sQ (.cond t11 .skip (.exit 0)) (sQ (.block 1 (Yr [oM 12 10,
 oO 13 (.indexA false 6 1 t9 t10),oM 4 12,oM 5 13] (Yr [oM 14 4,Ya 15 0 3,oO 16 (.iaddrA 6 1 t15 t14),Yk 17 16,Yh 18 17] (.cond t18 (Yg [oM 19 5,oO 20 (.nilck t19),⟨none,.store 1 t20 k0,none⟩]) .skip)))) (Yg [Yo 21 .add t10 k1,
 oM 10 21]))))))) (sQ (Yr [Ya 22 6 3,Yk 23 22,Yh 24 23] (.cond t24 (Yg [Ya 25 7 1,⟨none,.store 1 t25 (.const (.string ⟨#[]⟩)),none⟩]) .skip)) (sQ (Yr [Ya 26 7 3,Yk 27 26,Yh 28 27] (.cond t28 (Yg [Ya 29 8 1,
 ⟨none,.store 1 t29 (.const (.string ⟨#[]⟩)),none⟩]) .skip)) (sQ (Yr [Ya 30 8 3,Yk 31 30,Yh 32 31] (.cond t32 (Yg [⟨(some 33),.build [(.string ⟨#[]⟩),(.string ⟨#[]⟩),(.bool false)] [],none⟩,Ya 34 9 1,Ys 3 34 33]) .skip)) (Yr [Yl 35 12 1,
 Ys 12 2 35] .ret)))))))
theorem ok87:Y4 87 36 ir87 [.cell 2 true 12]:=Yf Tryz.func87 Tryz.ntmps87
def ir88:X3:=(Yr [Yb 1 0,Yz 2 [z0,nP,nP,nS,nP,nP,nP,nS,nS,nP]] (Yr [Ya 7 7 1,Yk 8 7,Yn 9 8,oO 10 (.mslice [(.bool false),z0,z0,nS,nS,nS,z0] 104 t9 t9),oM 3 10] (Yr [oM 11 3,Ya 12 7 1,Yk 13 12,oO 14 (.copy 7 t11 t13)] (Yr [oM 15 3,
 oM 16 3,Yn 17 16,oM 18 3,Yn 19 18,oO 20 (.slc 7 t15 none (some t17) (some t19)),Ya 21 7 1,Ys 1 21 20] (Yr [oO 4 (.mov (.const nS))] (sQ (Yr [Ya 22 8 1,Yk 23 22,Yn 24 23,Yj 25 k0] (.block 0 (.loop (Yr [Yo 26 .lss t25 t24] (sQ (.cond t26 .skip (.exit 0)) (sQ (.block 1 (Yr [Yi 27 7 23 25,
 Yl 28 7 27,⟨(some 6),.alloc [(.bool false),Yu,(.string ⟨#[]⟩),Yu,z0,nS,nS],none⟩,Ys 7 6 28] (Yr [Ya 29 3 6,Yl 30 4 29,Yc 31 137 [t30],Ya 32 3 6,Ys 4 32 31] (Yg [oM 33 4,Yl 34 7 6,⟨(some 35),.bslice [(.bool false),
 Yu,(.string ⟨#[]⟩),Yu,z0,nS,nS] 1 [(0,t34)],none⟩,⟨(some 36),.append [(.bool false),Yu,(.string ⟨#[]⟩),Yu,z0,nS,nS] 88 t33 t35,none⟩,oM 4 36])))) (Yg [Yo 37 .add t25 k1,oM 25 37]))))))) (Yr [oM 38 4,oM 39 4,
 Yn 40 39,oM 41 4,Yn 42 41,oO 43 (.slc 7 t38 none (some t40) (some t42)),Ya 44 8 1,Ys 1 44 43] (Yr [Yl 45 10 1,Ys 10 2 45] .ret))))))))
theorem ok88:Y4 88 46 ir88 [.cell 2 true 10]:=Yf Tryz.func88 Tryz.ntmps88
def ir89:X3:=(Yr [Yb 3 1,Yj 4 k0] (sQ (Yr [Ya 6 0 3,Yk 7 6,Yo 8 .eql t7 (kB 1)] (.cond t8 (sQ (.draw [Yd 0 (oM 10 0) 0 0,Yd 1 (oM 11 0) 0 0,Yd 2 (oO 12 (.nilck t11)) 2 0,Yd 3 (Ya 13 1 12) 6 0,Yd 4 (Yk 14 13) 14 0,
 Yd 5 (Ya 15 7 3) 0 0,Yd 6 (Yk 16 15) 32 0,Yd 7 (Yc 17 106 [t14,t16,kI 256]) 126 1,Yd 8 (oM 9 17) 254 1,Yd 9 (Yx 18 9 0) 510 1,Yd 10 (Yx 19 9 1) 510 0,Yd 11 (Yx 20 9 2) 510 0,Yd 12 (oO 21 (.nilck t10)) 1023 1,
 Yd 13 (Ya 22 1 21) 5119 1,Yd 14 (Ys 1 22 18) 13311 1,Yd 15 (oM 4 20) 32767 1]) (Yr [oM 23 4,oM 4 23] .ret)) .skip)) (Yr [Yj 5 k0] (sQ (.draw [Yd 0 (oM 25 0) 0 0,Yd 1 (oM 26 0) 0 0,Yd 2 (oO 27 (.nilck t26)) 2 0,
 Yd 3 (Ya 28 2 27) 6 0,Yd 4 (Yk 29 28) 14 0,Yd 5 (Ya 30 7 3) 0 0,Yd 6 (Yk 31 30) 32 0,Yd 7 (Yc 32 106 [t29,t31,k63]) 126 1,Yd 8 (oM 24 32) 254 1,Yd 9 (Yx 33 24 0) 510 1,Yd 10 (Yx 34 24 1) 510 0,Yd 11 (Yx 35 24 2) 510 0,
 Yd 12 (oO 36 (.nilck t25)) 1023 1,Yd 13 (Ya 37 2 36) 5119 1,Yd 14 (Ys 1 37 33) 13311 1,Yd 15 (oM 5 34) 30719 1,Yd 16 (oM 4 35) 65535 1]) (sQ (Yr [Ya 38 0 3,Yk 39 38,Yo 40 .eql t39 (kB 3)] (.cond t40 (Yg [oM 41 0,
 oM 42 0,oO 43 (.nilck t42),Ya 44 3 43,Yl 45 1 44,oM 46 5,Yc 47 11 [t45,t46],oO 48 (.nilck t41),Ya 49 3 48,Ys 1 49 47]) .skip)) (Yr [oM 50 4,oM 4 50] .ret))))))
theorem ok89:Y4 89 51 ir89 [.tmp 4]:=Yf Tryz.func89 Tryz.ntmps89
set_option maxRecDepth 100000
def ir97:X3:=(Yr [Yb 1 0,Yj 2 k0] (sQ (.block 0 (Yr [Ya 7 1 1,Yk 8 7,oO 9 (.bin .eql .ptr t8 (.const nP)),oM 10 9,oF 10 11 (.faddr 2 t1),oF 10 12 (.load false 1 t11),oF 10 13 (.bin .eql .ptr t12 (.const nP)),
 Yq 14 10 13,oM 15 14,oF 15 16 (.faddr 4 t1),oF 15 17 (.load false 1 t16),oF 15 18 (.bin .eql .ptr t17 (.const nP)),Yq 19 15 18,oM 20 19,oF 20 21 (.faddr 5 t1),oF 20 22 (.load false 1 t21),oF 20 23 (.bin .eql .ptr t22 (.const nP)),
 Yq 24 20 23,oM 25 24,oF 25 26 (.faddr 6 t1),oF 25 27 (.load false 1 t26),oF 25 28 (.bin .eql .ptr t27 (.const nP)),Yq 29 25 28,oM 30 29,oF 30 31 (.faddr 9 t1),oF 30 32 (.load false 1 t31),oF 30 33 (.bin .eql .ptr t32 (.const nP)),
 Yq 34 30 33,oM 6 34] (.cond t6 (Yr [Yj 2 k1] .ret) (Yr [Ya 36 0 1,Yk 37 36,Yo 38 .lss t37 k0,oM 39 38,oF 39 40 (.faddr 0 t1),oF 39 41 (.load false 1 t40),oF 39 42 (.bin .gtr .num t41 (kI 30000)),Yq 43 39 42,
 oM 35 43] (.cond t35 (Yr [Yj 2 k2] .ret) (Yr [Ya 45 2 1,Yk 46 45,Yc 47 62 [t46],Yo 48 .gtr t47 k63,oM 49 48,oF 49 50 (.faddr 7 t1),oF 49 51 (.load false 1 t50),oF 49 52 (.len t51),oF 49 53 (.bin .gtr .num t52 k64),
 Yq 54 49 53,oM 55 54,oF 55 56 (.faddr 8 t1),oF 55 57 (.load false 1 t56),oF 55 58 (.len t57),oF 55 59 (.bin .gtr .num t58 k32),Yq 60 55 59,oM 44 60] (.cond t44 (Yr [Yj 2 k3] .ret) (sQ (.draw [Yd 0 (Ya 62 3 1) 0 0,
 Yd 1 (Yl 63 1 62) 1 0,Yd 2 (Yl 64 10 1) 0 0,Yd 3 (Yc 65 159 [t64]) 4 0,Yd 4 (Yc 66 45 [t63,t65]) 15 1,Yd 5 (Yh 67 66) 31 1,Yd 6 (oM 61 67) 63 1]) (.cond t61 (Yr [Yj 2 k4] .ret) .skip))))))))) (sQ (Yr [oO 68 (.bslice [.nilFunc] 3 [(0,
 (.func 160)),(1,(.func 161)),(2,(.func 162))]),Yn 69 68,Yj 70 k0] (.block 1 (.loop (Yr [Yo 71 .lss t70 t69] (sQ (.cond t71 .skip (.exit 1)) (sQ (.block 2 (Yr [Yi 72 1 68 70,Yk 73 72,oM 4 73] (Yr [oM 74 4,
 Yl 75 10 1,oO 76 (.call t74 [t75]),oM 5 76] (Yr [oM 77 5,Yo 78 .neq t77 k0] (.cond t78 (Yr [oM 79 5,oM 2 79] .ret) .skip))))) (Yg [Yo 80 .add t70 k1,oM 70 80]))))))) (Yr [Yj 2 k0] .ret))))
theorem ok97:Y4 97 81 ir97 [.tmp 2]:=Yf Tryz.func97 Tryz.ntmps97
def ok103 := Xk Tryz.func103 Tryz.ntmps103
def ir104:X3:=(Yr [Yj 2 k0] (Yr [oM 3 0,oO 4 (.nilck t3),Ya 5 1 4,Yk 6 5,Yo 7 .add t6 k1,oO 8 (.nilck t3),Ya 9 1 8,Ys 1 9 7] (sQ (sQ (.draw [Yd 0 (oM 10 0) 0 0,Yd 1 (oO 11 (.nilck t10)) 1 0,Yd 2 (Ya 12 1 11) 3 0,
 Yd 3 (Yk 13 12) 7 0,Yd 4 (oM 14 0) 0 0,Yd 5 (oO 15 (.nilck t14)) 16 0,Yd 6 (Ya 16 0 15) 48 0,Yd 7 (Yk 17 16) 112 0,Yd 8 (Yn 18 17) 240 0,Yd 9 (Yo 19 .gtr t13 t18) 511 1]) (.cond t19 (Yr [Yj 2 k0] .ret) .skip)) (sQ (.draw [Yd 0 (oM 20 0) 0 0,
 Yd 1 (oO 21 (.nilck t20)) 1 0,Yd 2 (Ya 22 0 21) 3 0,Yd 3 (Yk 23 22) 7 0,Yd 4 (oM 24 0) 0 0,Yd 5 (oO 25 (.nilck t24)) 16 0,Yd 6 (Ya 26 1 25) 48 0,Yd 7 (Yk 27 26) 112 0,Yd 8 (Yo 28 .sub t27 k1) 240 0,Yd 9 (Yi 29 1 23 28) 511 1,
 Yd 10 (Yk 30 29) 1023 1,Yd 11 (oO 31 (.conv .i64 t30)) 2047 1,Yd 12 (oM 2 31) 4095 1]) .ret))))
theorem ok104:Y4 104 32 ir104 [.tmp 2]:=Yf Tryz.func104 Tryz.ntmps104
def ok105 := Xk Tryz.func105 Tryz.ntmps105
def ir106:X3:=(Yr [oO 6 (.mov (.const nP)),Yj 7 k0,Yj 8 k0] (sQ (.block 0 (Yr [oM 11 0,oO 12 (.bin .eql .ptr t11 (.const nP)),oM 10 12] (.cond t10 (Yr [oO 6 (.mov (.const nP)),Yj 7 k0,Yj 8 k1] .ret) (Yr [oM 14 1,
 Yc 15 176 [t14],Yh 16 15,oM 13 16] (.cond t13 (Yr [oO 6 (.mov (.const nP)),Yj 7 k0,Yj 8 k9] .ret) (Yr [oM 18 0,oO 19 (.nilck t18),Ya 20 1 19,Yk 21 20,oM 22 1,oO 23 (.lookup (.one 2) false [z0] false t21 t22),
 Yo 24 .gtr t23 k0,oM 17 24] (.cond t17 (Yr [oO 6 (.mov (.const nP)),Yj 7 k0,Yj 8 k5] .ret) (Yr [oM 26 0,oO 27 (.nilck t26),Ya 28 0 27,Yk 29 28,Yn 30 29,oM 31 2,Yo 32 .geq t30 t31,oM 33 32,oF 33 34 (.mov t0),
 oF 33 35 (.nilck t34),oF 33 36 (.faddr 0 t35),oF 33 37 (.load false 1 t36),oF 33 38 (.len t37),oF 33 39 (.bin .geq .num t38 (kI 256)),Yq 40 33 39,oM 25 40] (.cond t25 (Yr [oO 6 (.mov (.const nP)),Yj 7 k0,
 Yj 8 k14] .ret) .skip))))))))) (sQ (.draw [Yd 0 (oM 41 0) 0 0,Yd 1 (oO 42 (.nilck t41)) 1 0,Yd 2 (Ya 43 0 42) 3 0,Yd 3 (Yk 44 43) 7 0,Yd 4 (Yc 45 177 [t44]) 15 0,Yd 5 (oM 46 1) 0 0,⟨6,⟨(some 47),.bslice [(.string ⟨#[]⟩)] 1 [(0,
 t46)],none⟩,32,0,false⟩,⟨7,⟨(some 48),.append [(.string ⟨#[]⟩)] 16 t45 t47,none⟩,127,254,false⟩,Yd 8 (oM 49 0) 0 0,Yd 9 (oO 50 (.nilck t49)) 256 0,Yd 10 (Ya 51 1 50) 768 0,Yd 11 (Yk 52 51) 1792 0,Yd 12 (Yc 53 178 [t52]) 4095 1,
 Yd 13 (oO 54 (.build [nS,(.map none)] [(0,1,t48),(1,1,t53)])) 8191 1,Yd 14 (Yb 55 54) 16383 1,Yd 15 (oM 9 55) 32767 1]) (sQ (Yr [oM 56 9,oO 57 (.nilck t56),Ya 58 1 57,Yk 59 58,oO 60 (.isnilM false t59)] (.cond t60 (Yg [oM 61 9,
 oO 62 (.mkmap),oO 63 (.nilck t61),Ya 64 1 63,Ys 1 64 62]) .skip)) (sQ (.draw [Yd 0 (oM 65 9) 0 0,Yd 1 (oO 66 (.nilck t65)) 1 0,Yd 2 (Ya 67 1 66) 3 0,Yd 3 (Yk 68 67) 7 0,Yd 4 (oM 69 1) 0 0,Yd 5 (oM 70 9) 0 0,
 Yd 6 (oO 71 (.nilck t70)) 32 0,Yd 7 (Ya 72 0 71) 96 0,Yd 8 (Yk 73 72) 224 0,Yd 9 (Yn 74 73) 480 0,Yd 10 (⟨none,.mapset (.one 2) t68 t69 t74,none⟩) 1023 1]) (sQ (.draw [Yd 0 (oM 75 9) 0 0,Yd 1 (oM 76 9) 0 1,
 Yd 2 (oO 77 (.nilck t76)) 2 1,Yd 3 (Ya 78 0 77) 6 1,Yd 4 (Yk 79 78) 14 1,Yd 5 (Yn 80 79) 30 1,Yd 6 (oM 6 75) 1 0,Yd 7 (oM 7 80) 127 1,Yd 8 (Yj 8 k0) 255 1]) .ret))))))
theorem ok106:Y4 106 81 ir106 [.tmp 6,.tmp 7,.tmp 8]:=Yf Tryz.func106 Tryz.ntmps106
def ir107:X3:=(Yr [⟨(some 4),.mov (.const (.string ⟨#[]⟩)),none⟩,Yj 5 kF] (sQ (Yr [oM 6 1,Yo 7 .lss t6 k1,oM 8 7,oF 8 9 (.mov t1),oF 8 10 (.mov t0),oF 8 11 (kC 62 [t10]),oF 8 12 (.bin .gtr .num t9 t11),
 Yq 13 8 12] (.cond t13 (Yr [⟨(some 4),.mov (.const (.string ⟨#[]⟩)),none⟩,Yj 5 kF] .ret) .skip)) (Yr [oM 14 0,oO 15 (.nilck t14),Ya 16 0 15,Yk 17 16,oM 18 1,Yo 19 .sub t18 k1,Yi 20 1 17 19,Yk 21 20,oM 4 21,
 Yj 5 kT] .ret)))
theorem ok107:Y4 107 22 ir107 [.tmp 4,.tmp 5]:=Yf Tryz.func107 Tryz.ntmps107
def ok108 := Xk Tryz.func108 Tryz.ntmps108
def ok109 := Xk Tryz.func109 Tryz.ntmps109
def ir110:X3:=(Yr [Yb 1 0,Yj 2 k0] (sQ (.block 0 (sQ (.draw [Yd 0 (Ya 7 0 1) 0 1,Yd 1 (Yk 8 7) 1 1,Yd 2 (Yo 9 .lss t8 (kB 1)) 3 1,Yd 3 (oM 10 9) 7 1,Yd 4 (oF 10 11 (.faddr 0 t1)) 15 1,Yd 5 (oF 10 12 (.load false 1 t11)) 31 1,
 Yd 6 (oF 10 13 (.bin .gtr .num t12 (kB 16))) 63 1,Yd 7 (Yq 14 10 13) 127 1,Yd 8 (oM 15 14) 255 1,Yd 9 (oF 15 16 (.faddr 3 t1)) 511 0,Yd 10 (oF 15 17 (.load false 1 t16)) 1023 0,Yd 11 (oF 15 18 (.len t17)) 2047 0,
 Yd 12 (oF 15 19 (.faddr 0 t1)) 511 0,Yd 13 (oF 15 20 (.load false 1 t19)) 4607 0,Yd 14 (oF 15 21 (kC 179 [t20])) 12799 0,Yd 15 (oF 15 22 (.bin .neq .num t18 t21)) 32767 1,Yd 16 (Yq 23 15 22) 65535 1,Yd 17 (oM 6 23) 131071 1]) (.cond t6 (Yr [Yj 2 k1] .ret) (sQ (Yr [Ya 25 1 1,
 Yk 26 25,Yo 27 .neq t26 k0,oM 28 27,oT 28 29 (.faddr 0 t1),oT 28 30 (.load false 1 t29),oT 28 31 (.bin .neq .num t30 (kB 1)),Ym 32 28 31,oM 24 32] (.cond t24 .skip (Yg [Yl 33 4 1,Yc 34 180 [t33],Yh 35 34,
 oM 24 35]))) (.cond t24 (Yr [Yj 2 k6] .ret) (Yr [Ya 37 2 1,Yk 38 37,Yc 39 181 [t38,(.func 182)],oM 36 39] (.cond t36 (Yr [Yj 2 k9] .ret) (sQ (.draw [Yd 0 (Ya 41 0 1) 0 1,Yd 1 (Yk 42 41) 1 1,Yd 2 (Yo 43 .eql t42 (kB 5)) 3 1,
 Yd 3 (oM 44 43) 7 1,Yd 4 (oT 44 45 (.faddr 2 t1)) 15 0,Yd 5 (oT 44 46 (.load false 1 t45)) 31 0,Yd 6 (oT 44 47 (.build [Yu,z0,nS,nS] [(2,1,t46)])) 63 0,Yd 7 (oT 44 48 (kC 183 [t47])) 127 0,Yd 8 (oT 44 49 (.len t48)) 255 0,
 Yd 9 (oT 44 50 (.faddr 2 t1)) 15 0,Yd 10 (oT 44 51 (.load false 1 t50)) 527 0,Yd 11 (oT 44 52 (.len t51)) 1551 0,Yd 12 (oT 44 53 (.bin .lss .num t49 t52)) 4095 1,Yd 13 (Ym 54 44 53) 8191 1,Yd 14 (oM 40 54) 16383 1]) (.cond t40 (Yr [Yj 2 k5] .ret) (Yr [Ya 56 1 1,
 Yk 57 56,Yo 58 .lss t57 k0,oM 59 58,oF 59 60 (.faddr 1 t1),oF 59 61 (.load false 1 t60),oF 59 62 (.bin .gtr .num t61 (kI 999999)),Yq 63 59 62,oM 55 63] (.cond t55 (Yr [Yj 2 k2] .ret) .skip))))))))))) (sQ (Yr [Ya 64 3 1,
 Yk 65 64,Yn 66 65,Yj 67 k0] (.block 1 (.loop (Yr [Yo 68 .lss t67 t66] (sQ (.cond t68 .skip (.exit 1)) (sQ (.block 2 (Yr [Yi 69 4 65 67,Yl 70 4 69,Yz 4 [Yu,z0,nS,nS],Ys 4 4 70] (Yr [Yl 71 4 4,Yc 72 110 [t71],
 oM 5 72] (Yr [oM 73 5,Yo 74 .neq t73 k0] (.cond t74 (Yr [oM 75 5,oM 2 75] .ret) .skip))))) (Yg [Yo 76 .add t67 k1,oM 67 76]))))))) (Yr [Yj 2 k0] .ret))))
theorem ok110:Y4 110 77 ir110 [.tmp 2]:=Yf Tryz.func110 Tryz.ntmps110
def ir111:X3:=(Yr [oO 2 (.mov (.const nS)),Yj 3 k0,Yj 4 k0] (sQ (Yr [oM 9 0,oO 10 (.lenS t9),Yo 11 .gtr t10 (kI 8000)] (.cond t11 (Yr [oO 2 (.mov (.const nS)),Yj 3 k0,Yj 4 k3] .ret) .skip)) (Yr [oO 5 (.mov (.const nS))] (sQ (Yr [oM 12 0,
 Yc 13 184 [t12,k0],oM 6 13] (.block 0 (.loop (sQ (Yr [oM 14 6,oM 15 0,oO 16 (.lenS t15),Yo 17 .lss t14 t16] (.cond t17 .skip (.exit 0))) (sQ (.block 1 (Yr [⟨(some 7),.alloc [Yu,(.string ⟨#[]⟩),z0,z0],none⟩] (Yr [Yj 8 kT] (sQ (.block 2 (Yr [oM 28 0,
 oM 29 6,oO 30 (.indexS t28 t29),Yc 31 185 [t30],oM 27 31] (.cond t27 (Yg [oM 32 0,oM 33 6,oM 34 0,oM 35 6,Yc 36 186 [t34,t35,(.func 187)],oO 37 (.slcS t32 (some t33) (some t36)),oM 38 6,⟨(some 39),.build [Yu,
 (.string ⟨#[]⟩),z0,z0] [(0,1,(kB 1)),(1,1,t37),(2,1,k0),(3,1,t38)],none⟩,Ys 4 7 39]) (Yr [oM 41 0,oM 42 6,oO 43 (.indexS t41 t42),Yc 44 188 [t43],oM 40 44] (.cond t40 (Yg [oM 46 0,oM 47 6,Yc 48 189 [t46,
 t47],oM 45 48,Yx 49 45 0,Yx 50 45 1,Ys 4 7 49,oM 8 50]) (Yg [oM 22 0,oM 23 6,Yc 24 190 [t22,t23],oM 21 24,Yx 25 21 0,Yx 26 21 1,Ys 4 7 25,oM 8 26])))))) (sQ (Yr [oM 51 8,Yh 52 51] (.cond t52 (Yr [oM 53 6,
 oO 2 (.mov (.const nS)),oM 3 53,Yj 4 k8] .ret) .skip)) (Yr [oM 54 5,Yl 55 4 7,⟨(some 56),.bslice [Yu,(.string ⟨#[]⟩),z0,z0] 1 [(0,t55)],none⟩,⟨(some 57),.append [Yu,(.string ⟨#[]⟩),z0,z0] 40 t54 t56,none⟩,
 oM 5 57] (Yg [oM 58 6,Ya 59 1 7,Yk 60 59,oO 61 (.lenS t60),Yo 62 .add t58 t61,oM 6 62]))))))) (Yg [oM 18 0,oM 19 6,Yc 20 184 [t18,t19],oM 6 20])))))) (Yr [oM 63 5,oM 64 0,oO 65 (.lenS t64),⟨(some 66),.build [Yu,
 (.string ⟨#[]⟩),z0,z0] [(0,1,(.const Yu)),(1,1,(.const (.string ⟨#[]⟩))),(2,1,k0),(3,1,t65)],none⟩,⟨(some 67),.bslice [Yu,(.string ⟨#[]⟩),z0,z0] 1 [(0,t66)],none⟩,⟨(some 68),.append [Yu,(.string ⟨#[]⟩),
 z0,z0] 40 t63 t67,none⟩,oM 2 68,Yj 3 k0,Yj 4 k0] .ret)))))
theorem ok111:Y4 111 69 ir111 [.tmp 2,.tmp 3,.tmp 4]:=Yf Tryz.func111 Tryz.ntmps111
def ok112 := Xk Tryz.func112 Tryz.ntmps112
def ir113:X3:=(Yr [Yz 2 [Yu,z0,nS,nS]] (Yr [oM 3 0,oM 4 0,oO 5 (.mkbf 193 [t4]),⟨(some 6),kC 192 [t3,(.const (.string ⟨#[111,114]⟩)),(kB 9),t5],none⟩,Ys 4 2 6] .ret))
theorem ok113:Y4 113 7 ir113 [.cell 2 true 4]:=Yf Tryz.func113 Tryz.ntmps113
def ok114 := Xk Tryz.func114 Tryz.ntmps114
def ok115 := Xk Tryz.func115 Tryz.ntmps115
def ok116 := Xk Tryz.func116 Tryz.ntmps116
def ir117:X3:=(Yr [⟨(some 2),.alloc [Yu,(.string ⟨#[]⟩),z0,z0],none⟩] (sQ (Yr [oM 3 0,Yc 4 118 [t3],Yh 5 4] (.cond t5 (Yr [⟨(some 6),.build [Yu,(.string ⟨#[]⟩),z0,z0] [],none⟩,Ys 4 2 6] .ret) .skip)) (Yr [oM 7 0,
 Yc 8 195 [t7],Ys 4 2 8] .ret)))
theorem ok117:Y4 117 9 ir117 [.cell 2 true 4]:=Yf Tryz.func117 Tryz.ntmps117
def ok118 := Xk Tryz.func118 Tryz.ntmps118
def ok120 := Xk Tryz.func120 Tryz.ntmps120
def ir123:X3:=(Yr [Yb 2 0,⟨(some 4),.mov (.const (.string ⟨#[]⟩)),none⟩] (sQ (Yr [Ya 5 0 2,Yk 6 5,Yc 7 120 [t6],oM 8 1,Yo 9 .lss t7 t8] (.cond t9 (Yr [Yl 10 4 2,Yc 11 72 [t10],⟨(some 12),.bin .add .num (.const (.string ⟨#[40]⟩)) t11,
 none⟩,⟨(some 13),.bin .add .num t12 (.const (.string ⟨#[41]⟩)),none⟩,oM 4 13] .ret) .skip)) (Yr [Yl 14 4 2,Yc 15 72 [t14],oM 4 15] .ret)))
theorem ok123:Y4 123 16 ir123 [.tmp 4]:=Yf Tryz.func123 Tryz.ntmps123
def ir124:X3:=(Yr [⟨(some 2),.mov (.const (.string ⟨#[]⟩)),none⟩] (Yr [⟨(some 3),.bslice [(.string ⟨#[]⟩)] 9 [(0,(.const (.string ⟨#[32,97,110,100,32]⟩))),(1,(.const (.string ⟨#[32,111,114,32]⟩))),(2,
 (.const (.string ⟨#[32,45,62,32]⟩))),(3,(.const (.string ⟨#[32,60,61,32]⟩))),(4,(.const (.string ⟨#[32,60,32]⟩))),(5,(.const (.string ⟨#[32,62,61,32]⟩))),(6,(.const (.string ⟨#[32,62,32]⟩))),(7,(.const (.string ⟨#[32,
 61,61,32]⟩))),(8,(.const (.string ⟨#[32,43,32]⟩)))],none⟩,oM 4 0,Yo 5 .sub t4 (kB 8),Yi 6 1 3 5,Yk 7 6,oM 2 7] .ret))
theorem ok124:Y4 124 8 ir124 [.tmp 2]:=Yf Tryz.func124 Tryz.ntmps124
def ok125 := Xk Tryz.func125 Tryz.ntmps125
def ok126 := Xk Tryz.func126 Tryz.ntmps126
def ok127 := Xk Tryz.func127 Tryz.ntmps127
def ok128 := Xk Tryz.func128 Tryz.ntmps128
def ir129:X3:=(Yr [Yj 6 kF] (Yr [oM 13 1,oM 14 2,oO 15 (.build [z0,z0] [(0,1,t13),(1,1,t14)]),Yz 7 [z0,z0],Ys 2 7 15] (sQ (sQ (.draw [Yd 0 (oM 17 0) 0 0,Yd 1 (oO 18 (.nilck t17)) 1 0,Yd 2 (Ya 19 2 18) 3 0,
 Yd 3 (Yk 20 19) 7 0,Yd 4 (Yl 21 2 7) 0 0,Yd 5 (oO 22 (.lookup (.agg [0,0]) false [(.bool false)] true t20 t21)) 31 1,Yd 6 (oM 16 22) 63 1,Yd 7 (Yx 23 16 0) 127 1,Yd 8 (Yx 24 16 1) 127 1,Yd 9 (oM 8 23) 255 1,
 Yd 10 (oM 9 24) 1023 1]) (Yr [oM 25 9] (.cond t25 (Yr [oM 26 8,oM 6 26] .ret) .skip))) (Yr [oO 10 (.mov (.const (.int .i64 (-1))))] (sQ (Yr [oM 27 0,oO 28 (.nilck t27),Ya 29 0 28,Yk 30 29,Yn 31 30,Yj 32 k0] (.block 0 (.loop (Yr [Yo 33 .lss t32 t31] (sQ (.cond t33 .skip (.exit 0)) (sQ (.block 1 (Yr [oM 34 32,
 oM 11 34] (Yr [oM 35 1,oM 36 2,Yo 37 .or t35 t36,oM 38 11,Yo 39 .shr t37 t38,Yo 40 .and t39 k1,Yo 41 .eql t40 k0] (.cond t41 (Yg [oM 42 11,oM 10 42]) .skip)))) (Yg [Yo 43 .add t32 k1,oM 32 43]))))))) (Yr [Yj 12 kF] (sQ (Yr [oM 44 10,
 Yo 45 .lss t44 k0] (.cond t45 (.draw [Yd 0 (oM 46 0) 0 1,Yd 1 (oO 47 (.nilck t46)) 1 1,Yd 2 (Ya 48 1 47) 3 1,Yd 3 (Yk 49 48) 7 1,Yd 4 (oM 50 0) 0 0,Yd 5 (oM 51 1) 0 0,Yd 6 (Yc 52 79 [t50,t51]) 48 0,Yd 7 (oO 53 (.call t49 [t52])) 127 1,
 Yd 8 (oM 12 53) 255 1]) (Yg [oM 54 0,oM 55 1,oM 56 10,Yo 57 .shl k1 t56,Yo 58 .or t55 t57,oM 59 2,Yc 60 129 [t54,t58,t59],oM 61 60,oT 61 62 (.mov t0),oT 61 63 (.mov t1),oT 61 64 (.mov t2),oT 61 65 (.mov t10),
 oT 61 66 (.bin .shl .num k1 t65),oT 61 67 (.bin .or .num t64 t66),oT 61 68 (kC 129 [t62,t63,t67]),Ym 69 61 68,oM 12 69]))) (sQ (.draw [Yd 0 (oM 70 0) 0 0,Yd 1 (oO 71 (.nilck t70)) 1 0,Yd 2 (Ya 72 2 71) 3 0,
 Yd 3 (Yk 73 72) 7 0,Yd 4 (Yl 74 2 7) 0 0,Yd 5 (oM 75 12) 0 0,Yd 6 (⟨none,.mapset (.agg [0,0]) t73 t74 t75,none⟩) 63 1]) (Yr [oM 76 12,oM 6 76] .ret)))))))))
theorem ok129:Y4 129 77 ir129 [.tmp 6]:=Yf Tryz.func129 Tryz.ntmps129
def ok131 := Xk Tryz.func131 Tryz.ntmps131
def ir132:X3:=(Yr [Yb 2 0,Yb 3 1,Yj 4 k0] (sQ (Yr [Ya 8 0 2,Yk 9 8,Yn 10 9,Ya 11 0 3,Yk 12 11,Yn 13 12,oO 14 (.mx t10 t13),Yj 15 k0] (.block 0 (.loop (Yr [Yo 16 .lss t15 t14] (sQ (.cond t16 .skip (.exit 0)) (sQ (.block 1 (Yr [oM 17 15,
 oM 5 17] (sQ (.draw [Yd 0 (Yl 18 1 2) 0 0,Yd 1 (oM 19 5) 0 0,Yd 2 (Yc 20 47 [t18,t19]) 3 0,Yd 3 (Yl 21 1 3) 0 0,Yd 4 (oM 22 5) 0 0,Yd 5 (Yc 23 47 [t21,t22]) 31 1,Yd 6 (Yo 24 .xor t20 t23) 63 1,Yd 7 (oM 6 24) 127 1]) (sQ (Yr [oM 25 6,
 Yo 26 .eql t25 (kW 0)] (.cond t26 (.exit 1) .skip)) (Yr [oM 27 5,Yo 28 .mul k64 t27,oM 29 6,Yc 30 134 [t29],Yo 31 .add t28 t30,oM 7 31] (sQ (sQ (.draw [Yd 0 (Yl 32 1 2) 0 0,Yd 1 (oM 33 7) 0 0,Yd 2 (Yc 34 42 [t32,
 t33]) 3 0,Yd 3 (Yl 35 1 3) 0 0,Yd 4 (oM 36 7) 0 0,Yd 5 (Yc 37 42 [t35,t36]) 31 1,Yd 6 (oO 38 (.bin .eql .bool t34 t37)) 63 1]) (.cond t38 (Yr [Yj 4 k0] .ret) .skip)) (sQ (Yr [Yl 39 1 2,oM 40 7,Yc 41 42 [t39,
 t40],oM 42 41,oT 42 43 (.load true 1 t3),oT 42 44 (.mov t7),oT 42 45 (kC 211 [t43,t44]),Ym 46 42 45,oM 47 46,oF 47 48 (.load true 1 t3),oF 47 49 (.mov t7),oF 47 50 (kC 42 [t48,t49]),oF 47 51 (.mov t50),
 oT 51 52 (.load true 1 t2),oT 51 53 (.mov t7),oT 51 54 (kC 211 [t52,t53]),oT 51 55 (.una .not t54),oF 47 56 (.pick t51 t55 kF),Yq 57 47 56] (.cond t57 (Yr [oO 4 (.mov (.const (.int .i64 (-1))))] .ret) .skip)) (Yr [Yj 4 k1] .ret)))))))) (Yg [Yo 58 .add t15 k1,
 oM 15 58]))))))) (Yr [Yj 4 k0] .ret)))
theorem ok132:Y4 132 59 ir132 [.tmp 4]:=Yf Tryz.func132 Tryz.ntmps132
def ok133 := Xk Tryz.func133 Tryz.ntmps133
def ok134 := Xk Tryz.func134 Tryz.ntmps134
def ok135 := Xk Tryz.func135 Tryz.ntmps135
def ir136:X3:=(Yr [Yz 2 [nP,nP,nP,nP,nP,nP]] (sQ (.draw [Yd 0 (oM 3 0) 0 1,Yd 1 (oO 4 (.nilck t3)) 1 1,Yd 2 (Ya 5 1 4) 3 1,Yd 3 (oM 6 0) 0 1,Yd 4 (oO 7 (.nilck t6)) 8 1,Yd 5 (Ya 8 2 7) 24 1,Yd 6 (oM 9 0) 0 1,
 Yd 7 (oO 10 (.nilck t9)) 64 1,Yd 8 (Ya 11 3 10) 192 1,Yd 9 (oM 12 0) 0 1,Yd 10 (oO 13 (.nilck t12)) 512 1,Yd 11 (Ya 14 4 13) 1536 1,Yd 12 (oM 15 0) 0 1,Yd 13 (oO 16 (.nilck t15)) 4096 1,Yd 14 (Ya 17 5 16) 12288 1,
 Yd 15 (oM 18 0) 0 1,Yd 16 (oO 19 (.nilck t18)) 32768 1,Yd 17 (Ya 20 6 19) 98304 1,Yd 18 (oO 21 (.build [nP,nP,nP,nP,nP,nP] [(0,1,t5),(1,1,t8),(2,1,t11),(3,1,t14),(4,1,t17),(5,1,t20)])) 262143 1,Yd 19 (Ys 6 2 21) 524287 1]) .ret))
theorem ok136:Y4 136 22 ir136 [.cell 2 true 6]:=Yf Tryz.func136 Tryz.ntmps136
def ok159 := Xk Tryz.func159 Tryz.ntmps159
def ir160:X3:=(Yr [Yb 1 0,Yj 2 k0] (Yr [Yl 13 10 1,Yc 14 159 [t13],Yz 3 [nS],Ys 1 3 14] (Yr [Yj 4 kT] (sQ (Yr [Ya 15 4 1,Yk 16 15,Yc 17 245 [t16],Yn 18 17,Yj 19 k0] (.block 0 (.loop (Yr [Yo 20 .lss t19 t18] (sQ (.cond t20 .skip (.exit 0)) (sQ (.block 1 (Yr [Yi 21 2 17 19,
 Yl 22 2 21,Yz 6 [z0,z0],Ys 2 6 22] (Yg [oM 23 4,oM 24 23,oT 24 25 (.load true 1 t3),oT 24 26 (.iaddrA 2 1 t6 k0),oT 24 27 (.load false 1 t26),oT 24 28 (kC 42 [t25,t27]),Ym 29 24 28,oM 30 29,oT 30 31 (.load true 1 t3),
 oT 30 32 (.iaddrA 2 1 t6 k1),oT 30 33 (.load false 1 t32),oT 30 34 (kC 42 [t31,t33]),Ym 35 30 34,oM 4 35]))) (Yg [Yo 36 .add t19 k1,oM 19 36]))))))) (sQ (Yr [Ya 37 5 1,Yk 38 37,Yc 39 246 [t38],Yn 40 39,
 Yj 41 k0] (.block 2 (.loop (Yr [Yo 42 .lss t41 t40] (sQ (.cond t42 .skip (.exit 2)) (sQ (.block 3 (Yr [Yi 43 3 39 41,Yl 44 3 43,Yz 8 [z0,z0,z0],Ys 3 8 44] (.draw [Yd 0 (oM 45 4) 0 1,Yd 1 (oM 46 45) 1 1,
 Yd 2 (oT 46 47 (.faddr 0 t8)) 3 0,Yd 3 (oT 46 48 (.load false 1 t47)) 7 0,Yd 4 (oT 46 49 (.faddr 1 t1)) 3 0,Yd 5 (oT 46 50 (.load false 1 t49)) 19 0,Yd 6 (oT 46 51 (kC 62 [t50])) 51 0,Yd 7 (oT 46 52 (.bin .leq .num t48 t51)) 127 1,
 Yd 8 (Ym 53 46 52) 255 1,Yd 9 (oM 54 53) 511 1,Yd 10 (oT 54 55 (.load true 1 t3)) 1023 0,Yd 11 (oT 54 56 (.faddr 1 t8)) 1023 0,Yd 12 (oT 54 57 (.load false 1 t56)) 3071 0,Yd 13 (oT 54 58 (kC 42 [t55,t57])) 8191 1,
 Yd 14 (Ym 59 54 58) 16383 1,Yd 15 (oM 4 59) 32767 1]))) (Yg [Yo 60 .add t41 k1,oM 41 60]))))))) (sQ (Yr [Ya 61 6 1,Yk 62 61,Yc 63 247 [t62],Yn 64 63,Yj 65 k0] (.block 4 (.loop (Yr [Yo 66 .lss t65 t64] (sQ (.cond t66 .skip (.exit 4)) (sQ (.block 5 (Yr [Yi 67 4 63 65,
 Yl 68 4 67,⟨(some 10),.alloc [z0,(.string ⟨#[]⟩),(.string ⟨#[]⟩),(.bool false)],none⟩,Ys 4 10 68] (Yg [oM 69 4,oM 70 69,oT 70 71 (.load true 1 t3),oT 70 72 (.faddr 0 t10),oT 70 73 (.load false 1 t72),oT 70 74 (kC 42 [t71,
 t73]),Ym 75 70 74,oM 4 75]))) (Yg [Yo 76 .add t65 k1,oM 65 76]))))))) (sQ (Yr [Ya 77 9 1,Yk 78 77,Yc 79 248 [t78],Yn 80 79,Yj 81 k0] (.block 6 (.loop (Yr [Yo 82 .lss t81 t80] (sQ (.cond t82 .skip (.exit 6)) (sQ (.block 7 (Yr [Yi 83 3 79 81,
 Yl 84 3 83,Yz 12 [z0,z0,nS],Ys 3 12 84] (.draw [Yd 0 (oM 85 4) 0 1,Yd 1 (oM 86 85) 1 1,Yd 2 (oT 86 87 (.faddr 1 t12)) 3 0,Yd 3 (oT 86 88 (.load false 1 t87)) 7 0,Yd 4 (oT 86 89 (.faddr 1 t1)) 3 0,Yd 5 (oT 86 90 (.load false 1 t89)) 19 0,
 Yd 6 (oT 86 91 (kC 62 [t90])) 51 0,Yd 7 (oT 86 92 (.bin .leq .num t88 t91)) 127 1,Yd 8 (Ym 93 86 92) 255 1,Yd 9 (oM 94 93) 511 1,Yd 10 (oT 94 95 (.faddr 2 t12)) 1023 0,Yd 11 (oT 94 96 (.load true 1 t95)) 2047 0,
 Yd 12 (oT 94 97 (.load true 1 t3)) 1023 0,Yd 13 (oT 94 98 (kC 45 [t96,t97])) 8191 1,Yd 14 (Ym 99 94 98) 16383 1,Yd 15 (oM 4 99) 32767 1]))) (Yg [Yo 100 .add t81 k1,oM 81 100]))))))) (sQ (Yr [oM 101 4,Yh 102 101] (.cond X6q (Yr [Yj 2 k4] .ret) .skip)) (Yr [Yj 2 k0] .ret)))))))))
theorem ok160:Y4 160 103 ir160 [.tmp 2]:=Yf Tryz.func160 Tryz.ntmps160
def ir161:X3:=(Yr [Yb 1 0,Yj 2 k0] (Yr [Yj 3 kT] (sQ (Yr [Ya 10 4 1,Yk 11 10,Yc 12 245 [t11],Yn 13 12,Yj 14 k0] (.block 0 (.loop (Yr [Yo 15 .lss t14 t13] (sQ (.cond t15 .skip (.exit 0)) (sQ (.block 1 (Yr [Yi 16 2 12 14,
 Yl 17 2 16,Yz 5 [z0,z0],Ys 2 5 17] (.draw [Yd 0 (oM 18 3) 0 1,Yd 1 (oM 19 18) 1 1,Yd 2 (oT 19 20 (.faddr 3 t1)) 3 0,Yd 3 (oT 19 21 (.load true 1 t20)) 7 0,Yd 4 (oT 19 22 (.iaddrA 2 1 t5 k0)) 3 0,Yd 5 (oT 19 23 (.load false 1 t22)) 19 0,
 Yd 6 (oT 19 24 (kC 42 [t21,t23])) 63 0,Yd 7 (oT 19 25 (.faddr 3 t1)) 3 0,Yd 8 (oT 19 26 (.load true 1 t25)) 131 0,Yd 9 (oT 19 27 (.iaddrA 2 1 t5 k1)) 3 0,Yd 10 (oT 19 28 (.load false 1 t27)) 515 0,Yd 11 (oT 19 29 (kC 42 [t26,
 t28])) 2047 1,Yd 12 (oT 19 30 (.bin .eql .bool t24 t29)) 4095 1,Yd 13 (Ym 31 19 30) 8191 1,Yd 14 (oM 3 31) 16383 1]))) (Yg [Yo 32 .add t14 k1,oM 14 32]))))))) (sQ (Yr [Ya 33 6 1,Yk 34 33,Yc 35 247 [t34],
 Yn 36 35,Yj 37 k0] (.block 2 (.loop (Yr [Yo 38 .lss t37 t36] (sQ (.cond t38 .skip (.exit 2)) (sQ (.block 3 (Yr [Yi 39 4 35 37,Yl 40 4 39,⟨(some 7),.alloc [z0,(.string ⟨#[]⟩),(.string ⟨#[]⟩),(.bool false)],
 none⟩,Ys 4 7 40] (Yg [oM 41 3,oM 42 41,oT 42 43 (.faddr 3 t1),oT 42 44 (.load true 1 t43),oT 42 45 (.faddr 0 t7),oT 42 46 (.load false 1 t45),oT 42 47 (kC 42 [t44,t46]),oT 42 48 (.una .not t47),Ym 49 42 48,
 oM 3 49]))) (Yg [Yo 50 .add t37 k1,oM 37 50]))))))) (sQ (Yr [Ya 51 9 1,Yk 52 51,Yc 53 248 [t52],Yn 54 53,Yj 55 k0] (.block 4 (.loop (Yr [Yo 56 .lss t55 t54] (sQ (.cond t56 .skip (.exit 4)) (sQ (.block 5 (Yr [Yi 57 3 53 55,
 Yl 58 3 57,Yz 9 [z0,z0,nS],Ys 3 9 58] (Yg [oM 59 3,oM 60 59,oT 60 61 (.faddr 2 t9),oT 60 62 (.load true 1 t61),oT 60 63 (.faddr 3 t1),oT 60 64 (.load true 1 t63),oT 60 65 (kC 46 [t62,t64]),oT 60 66 (.una .not t65),
 Ym 67 60 66,oM 3 67]))) (Yg [Yo 68 .add t55 k1,oM 55 68]))))))) (sQ (Yr [oM 69 3,Yh 70 69] (.cond t70 (Yr [Yj 2 k10] .ret) .skip)) (Yr [Yj 2 k0] .ret)))))))
theorem ok161:Y4 161 71 ir161 [.tmp 2]:=Yf Tryz.func161 Tryz.ntmps161
def ir162:X3:=(Yr [Yb 1 0,Yj 2 k0] (sQ (Yr [Ya 10 7 1,Yk 11 10,Yn 12 11,Yj 13 k0] (.block 0 (.loop (Yr [Yo 14 .lss t13 t12] (sQ (.cond t14 .skip (.exit 0)) (sQ (.block 1 (Yr [Yi 15 7 11 13,Yl 16 7 15,
 oO 4 (.alloc [(.bool false),z0,z0,nS,nS,nS,z0]),Ys 7 4 16] (sQ (.draw [Yd 0 (Yl 17 7 4) 0 0,Yd 1 (Ya 18 2 1) 0 0,Yd 2 (Yk 19 18) 2 0,Yd 3 (Yc 20 62 [t19]) 6 0,Yd 4 (Ya 21 3 1) 0 0,Yd 5 (Yl 22 1 21) 16 0,
 Yd 6 (Yc 23 249 [t17,t20,t22]) 63 1,Yd 7 (oM 5 23) 127 1]) (Yr [oM 24 5,Yo 25 .neq t24 k0] (.cond t25 (Yr [oM 26 5,oM 2 26] .ret) .skip))))) (Yg [Yo 27 .add t13 k1,oM 13 27]))))))) (sQ (.draw [Yd 0 (Yl 28 10 1) 0 0,
 Yd 1 (Yc 29 159 [t28]) 1 0,Yd 2 (Ya 30 3 1) 0 0,Yd 3 (Yl 31 1 30) 4 0,Yd 4 (Yc 32 19 [t29,t31]) 15 1,Yd 5 (Yz 6 [nS]) 0 0,Yd 6 (Ys 1 6 32) 63 1]) (sQ (Yr [Ya 33 8 1,Yk 34 33,Yn 35 34,Yj 36 k0] (.block 2 (.loop (Yr [Yo 37 .lss t36 t35] (sQ (.cond t37 .skip (.exit 2)) (sQ (.block 3 (Yr [oM 38 36,
 Yi 39 7 34 36,Yl 40 7 39,⟨(some 8),.alloc [(.bool false),Yu,(.string ⟨#[]⟩),Yu,z0,nS,nS],none⟩,oM 7 38,Ys 7 8 40] (sQ (Yr [Yl 41 7 8,Yc 42 164 [t41],oM 9 42] (Yr [oM 43 9,Yo 44 .neq t43 k0] (.cond t44 (Yr [oM 45 9,
 oM 2 45] .ret) .skip))) (sQ (Yr [Ya 46 8 1,Yk 47 46,oM 48 7,oO 49 (.slc 7 t47 none (some t48) none),oO 50 (.mkfn 251 [t8]),Yc 51 250 [t49,t50]] (.cond t51 (Yr [Yj 2 k6] .ret) .skip)) (sQ (.draw [Yd 0 (Ya 52 3 8) 0 0,
 Yd 1 (Yl 53 4 52) 1 0,Yd 2 (Yc 54 36 [t53]) 3 0,Yd 3 (Yl 55 1 6) 0 0,Yd 4 (Yc 56 45 [t54,t55]) 15 1,Yd 5 (Yh 57 56) 31 1]) (.cond t57 (Yr [Yj 2 k4] .ret) .skip)))))) (Yg [Yo 58 .add t36 k1,oM 36 58]))))))) (Yr [Yj 2 k0] .ret)))))
theorem ok162:Y4 162 59 ir162 [.tmp 2]:=Yf Tryz.func162 Tryz.ntmps162
set_option maxRecDepth 100000
def ok170 := Xk Tryz.func170 Tryz.ntmps170
def ok171 := Xk Tryz.func171 Tryz.ntmps171
def ir172:X3:=(Yr [oO 2 (.mov (.const nS))] (sQ (Yr [oM 6 0,Yn 7 6,Yo 8 .lss t7 k2] (.cond t8 (Yr [oM 9 0,oM 2 9] .ret) .skip)) (sQ (Yr [Yj 3 k1] (.block 0 (.loop (sQ (Yr [oM 10 3,oM 11 0,Yn 12 11,Yo 13 .lss t10 t12] (.cond t13 .skip (.exit 0))) (sQ (.block 1 (sQ (.draw [Yd 0 (oM 16 0) 0 0,
 Yd 1 (oM 17 3) 0 0,Yd 2 (Yi 18 2 16 17) 3 0,Yd 3 (Yl 19 2 18) 7 0,Yd 4 (oM 20 0) 0 0,Yd 5 (oM 21 3) 0 0,Yd 6 (Yo 22 .sub t21 k1) 32 0,Yd 7 (Yi 23 2 20 22) 112 0,Yd 8 (Yl 24 2 23) 240 0,Yd 9 (oO 25 (.bin .eql (.cells [0,
 0]) t19 t24)) 511 1]) (.cond t25 (Yr [oM 26 0,oM 27 3,oO 28 (.slc 2 t26 (some t27) none none),oM 4 28] (sQ (Yr [Yj 5 k1] (.block 2 (.loop (sQ (Yr [oM 29 5,oM 30 4,Yn 31 30,Yo 32 .lss t29 t31] (.cond t32 .skip (.exit 2))) (sQ (.block 3 (sQ (.draw [Yd 0 (oM 35 4) 0 0,
 Yd 1 (oM 36 5) 0 0,Yd 2 (Yi 37 2 35 36) 3 0,Yd 3 (Yl 38 2 37) 7 0,Yd 4 (oM 39 4) 0 0,Yd 5 (oM 40 5) 0 0,Yd 6 (Yo 41 .sub t40 k1) 32 0,Yd 7 (Yi 42 2 39 41) 112 0,Yd 8 (Yl 43 2 42) 240 0,Yd 9 (oO 44 (.bin .neq (.cells [0,
 0]) t38 t43)) 511 1]) (.cond t44 (Yr [oM 45 0,oM 46 3,oM 47 4,oM 48 5,Yi 49 2 47 48,Yl 50 2 49,Yi 51 2 45 46,Ys 2 51 50] (Yg [oM 52 3,Yo 53 .add t52 k1,oM 3 53])) .skip))) (Yg [oM 33 5,Yo 34 .add t33 k1,
 oM 5 34])))))) (Yr [oM 54 0,oM 55 3,oO 56 (.slc 2 t54 (some t55) none none),⟨none,.clear [z0,z0] t56,none⟩] (Yr [oM 57 0,oM 58 3,oO 59 (.slc 2 t57 none (some t58) none),oM 2 59] .ret)))) .skip))) (Yg [oM 14 3,
 Yo 15 .add t14 k1,oM 3 15])))))) (Yr [oM 60 0,oM 2 60] .ret))))
theorem ok172:Y4 172 61 ir172 [.tmp 2]:=Yf Tryz.func172 Tryz.ntmps172
def ir173:X3:=(Yr [Yj 2 kF] (Yr [oM 9 0,oO 10 (.nilck t9),Ya 11 0 10,Yk 12 11,oO 13 (.mslice [z0] 8 t12 t12),oM 3 13] (sQ (Yr [oM 14 0,oO 15 (.nilck t14),Ya 16 1 15,Yk 17 16,Yn 18 17,Yj 19 k0] (.block 0 (.loop (Yr [Yo 20 .lss t19 t18] (sQ (.cond t20 .skip (.exit 0)) (sQ (.block 1 (Yr [Yi 21 2 17 19,
 Yl 22 2 21,Yz 5 [z0,z0],Ys 2 5 22] (Yg [oM 23 3,oO 24 (.iaddrA 2 1 t5 k1),Yk 25 24,Yi 26 1 23 25,Yk 27 26,Yo 28 .add t27 k1,Yi 29 1 23 25,Ys 1 29 28]))) (Yg [Yo 30 .add t19 k1,oM 19 30]))))))) (sQ (.block 2 (.loop (sQ (sQ (.draw [Yd 0 (oM 31 0) 0 0,
 Yd 1 (oO 32 (.nilck t31)) 1 0,Yd 2 (Ya 33 4 32) 3 0,Yd 3 (Yk 34 33) 7 0,Yd 4 (Yn 35 34) 15 0,Yd 5 (oM 36 0) 0 0,Yd 6 (oO 37 (.nilck t36)) 32 0,Yd 7 (Ya 38 0 37) 96 0,Yd 8 (Yk 39 38) 224 0,Yd 9 (Yo 40 .lss t35 t39) 511 1]) (.cond t40 .skip (.exit 2))) (.block 3 (Yr [oM 41 3,
 Yc 42 255 [t41,k0],oM 6 42] (sQ (Yr [oM 43 6,Yo 44 .lss t43 k0] (.cond t44 (Yr [Yj 2 kF] .ret) .skip)) (Yr [oM 45 3,oM 46 6,Yi 47 1 45 46,⟨none,.store 1 t47 (.const (.int .i64 (-1))),none⟩] (Yr [oM 48 0,
 oM 49 0,oO 50 (.nilck t49),Ya 51 4 50,Yk 52 51,oM 53 6,oO 54 (.bslice [z0] 1 [(0,t53)]),oO 55 (.append [z0] 8 t52 t54),oO 56 (.nilck t48),Ya 57 4 56,Ys 1 57 55] (Yr [oM 58 0,oO 59 (.nilck t58),Ya 60 1 59,
 Yk 61 60,Yn 62 61,Yj 63 k0] (.block 4 (.loop (Yr [Yo 64 .lss t63 t62] (sQ (.cond t64 .skip (.exit 4)) (sQ (.block 5 (Yr [Yi 65 2 61 63,Yl 66 2 65,Yz 8 [z0,z0],Ys 2 8 66] (Yr [oO 67 (.iaddrA 2 1 t8 k0),
 Yk 68 67,oM 69 6,Yo 70 .eql t68 t69] (.cond t70 (Yg [oM 71 3,oO 72 (.iaddrA 2 1 t8 k1),Yk 73 72,Yi 74 1 71 73,Yk 75 74,Yo 76 .sub t75 k1,Yi 77 1 71 73,Ys 1 77 76]) .skip)))) (Yg [Yo 78 .add t63 k1,oM 63 78]))))))))))))))) (Yr [Yj 2 kT] .ret)))))
theorem ok173:Y4 173 79 ir173 [.tmp 2]:=Yf Tryz.func173 Tryz.ntmps173
def ir174:X3:=(Yr [Yb 1 0] (sQ (.draw [Yd 0 (Yk 10 1) 0 0,Yd 1 (Yk 11 1) 0 0,Yd 2 (Yk 12 1) 0 0,Yd 3 (oO 13 (.nilck t12)) 4 0,Yd 4 (Ya 14 0 13) 12 0,Yd 5 (Yk 15 14) 28 0,Yd 6 (oO 16 (.mslice [nS] 24 t15 t15)) 60 0,
 Yd 7 (Yk 17 1) 0 0,Yd 8 (oO 18 (.nilck t17)) 128 0,Yd 9 (Ya 19 0 18) 384 0,Yd 10 (Yk 20 19) 896 0,Yd 11 (oO 21 (.mslice [nS] 24 t20 t20)) 1920 0,Yd 12 (oO 22 (.nilck t10)) 2045 0,Yd 13 (Ya 23 2 22) 6141 0,
 Yd 14 (Ys 1 23 16) 14333 28666,Yd 15 (oO 24 (.nilck t11)) 32767 1,Yd 16 (Ya 25 3 24) 65535 1,Yd 17 (Ys 1 25 21) 131071 1]) (Yr [Yk 26 1,oO 27 (.nilck t26),Ya 28 0 27,Yk 29 28,oO 30 (.mslice [nS] 24 t29 t29),
 oM 2 30] (sQ (Yr [Yk 31 1,oO 32 (.nilck t31),Ya 33 1 32,Yk 34 33,Yn 35 34,Yj 36 k0] (.block 0 (.loop (Yr [Yo 37 .lss t36 t35] (sQ (.cond t37 .skip (.exit 0)) (sQ (.block 1 (Yr [Yi 38 2 34 36,Yl 39 2 38,
 Yz 4 [z0,z0],Ys 2 4 39] (.draw [Yd 0 (oM 40 2) 0 0,Yd 1 (oO 41 (.iaddrA 2 1 t4 k1)) 0 0,Yd 2 (Yk 42 41) 2 0,Yd 3 (oM 43 2) 0 0,Yd 4 (oO 44 (.iaddrA 2 1 t4 k1)) 0 0,Yd 5 (Yk 45 44) 16 0,Yd 6 (Yi 46 1 43 45) 56 0,
 Yd 7 (Yk 47 46) 120 0,Yd 8 (oO 48 (.iaddrA 2 1 t4 k0)) 0 0,Yd 9 (Yk 49 48) 256 0,Yd 10 (oO 50 (.bslice [z0] 1 [(0,t49)])) 768 0,Yd 11 (oO 51 (.append [z0] 8 t47 t50)) 2040 4080,Yd 12 (Yi 52 1 40 42) 4095 1,
 Yd 13 (Ys 1 52 51) 8191 1]))) (Yg [Yo 53 .add t36 k1,oM 36 53]))))))) (Yr [Yk 54 1,oO 55 (.nilck t54),Ya 56 4 55,Yk 57 56,Yn 58 57,Yj 59 k0] (.block 2 (.loop (Yr [Yo 60 .lss t59 t58] (sQ (.cond t60 .skip (.exit 2)) (sQ (.block 3 (Yr [Yi 61 1 57 59,
 Yk 62 61,Yz 6 [z0],Ys 1 6 62] (sQ (Yr [oM 63 2,Yk 64 6,Yi 65 1 63 64,Yk 66 65,Yn 67 66,Yj 68 k0] (.block 4 (.loop (Yr [Yo 69 .lss t68 t67] (sQ (.cond t69 .skip (.exit 4)) (sQ (.block 5 (Yr [Yi 70 1 66 68,
 Yk 71 70,oM 8 71] (.draw [Yd 0 (Yk 72 1) 0 0,Yd 1 (oO 73 (.nilck t72)) 1 0,Yd 2 (Ya 74 2 73) 3 0,Yd 3 (Yk 75 74) 7 0,Yd 4 (Yk 76 6) 0 0,Yd 5 (Yk 77 1) 0 0,Yd 6 (oO 78 (.nilck t77)) 32 0,Yd 7 (Ya 79 2 78) 96 0,
 Yd 8 (Yk 80 79) 224 0,Yd 9 (Yk 81 6) 0 0,Yd 10 (Yi 82 1 80 81) 992 0,Yd 11 (Yl 83 1 82) 2016 0,Yd 12 (Yk 84 1) 0 0,Yd 13 (oO 85 (.nilck t84)) 4096 0,Yd 14 (Ya 86 2 85) 12288 0,Yd 15 (Yk 87 86) 28672 0,
 Yd 16 (oM 88 8) 0 0,Yd 17 (Yi 89 1 87 88) 126976 0,Yd 18 (Yl 90 1 89) 258048 0,Yd 19 (Yc 91 16 [t83,t90]) 524256 0,Yd 20 (oM 92 8) 0 0,Yd 21 (Yc 93 11 [t91,t92]) 2097120 0,Yd 22 (Yi 94 1 75 76) 4194303 1,
 Yd 23 (Ys 1 94 93) 8388607 1]))) (Yg [Yo 95 .add t68 k1,oM 68 95]))))))) (sQ (.draw [Yd 0 (Yk 96 1) 0 0,Yd 1 (oO 97 (.nilck t96)) 1 0,Yd 2 (Ya 98 2 97) 3 0,Yd 3 (Yk 99 98) 7 0,Yd 4 (Yk 100 6) 0 0,Yd 5 (Yi 101 1 99 100) 31 1,
 Yd 6 (Yl 102 1 101) 63 1,Yd 7 (Yc 103 82 [X6q]) 127 1]) (.block 6 (.range X7c [104] [(9,X6l)] (.block 7 (.draw [Yd 0 (Yk 105 1) 0 0,Yd 1 (oO 106 (.nilck X7d)) 1 0,Yd 2 (Ya 107 3 106) 3 0,Yd 3 (Yk 108 107) 7 0,
 Yd 4 (oM 109 9) 0 0,Yd 5 (Yk 110 1) 0 0,Yd 6 (oO 111 (.nilck X6B)) 32 0,Yd 7 (Ya 112 3 111) 96 0,Yd 8 (Yk 113 112) 224 0,Yd 9 (oM 114 9) 0 0,Yd 10 (Yi 115 1 113 114) 992 0,Yd 11 (Yl 116 1 115) 2016 0,
 Yd 12 (Yk 117 6) 0 0,Yd 13 (Yc 118 11 [X7k,X6z]) 8160 0,Yd 14 (Yi 119 1 108 109) 16383 1,Yd 15 (Ys 1 119 118) 32767 1])))))))) (Yg [Yo 120 .add t59 k1,oM 59 120])))))))))))
theorem ok174:Y4 174 121 ir174 []:=Yf Tryz.func174 Tryz.ntmps174
def ok175 := Xk Tryz.func175 Tryz.ntmps175
def ir176:X3:=(Yr [Yj 2 kF] (sQ (Yr [oM 6 0,oO 7 (.lenS t6),Yo 8 .eql t7 k0,oM 9 8,oF 9 10 (.mov t0),oF 9 11 (.lenS t10),oF 9 12 (.bin .gtr .num t11 k12),Yq 13 9 12,oM 14 13,oF 14 15 (kC 257 []),oF 14 16 (.mov t0),
 oF 14 17 (kC 256 [t15,t16]),Yq 18 14 17] (.cond t18 (Yr [Yj 2 kF] .ret) .skip)) (Yr [Yz 3 [.nilFunc],⟨none,.store 1 t3 (.func 258),none⟩] (Yr [oO 19 (.mkfn 259 [t3]),oM 4 19] (sQ (Yr [oM 20 0,oO 21 (.lenS t20),
 Yj 22 k0] (.block 0 (.loop (Yr [Yo 23 .lss t22 t21] (sQ (.cond t23 .skip (.exit 0)) (sQ (.block 1 (Yr [oM 24 22,oM 5 24] (sQ (.draw [Yd 0 (oM 25 4) 0 1,Yd 1 (oM 26 0) 0 1,Yd 2 (oM 27 5) 0 1,Yd 3 (oO 28 (.indexS t26 t27)) 6 1,
 Yd 4 (oO 29 (.call t25 [t28])) 15 1,Yd 5 (Yh 30 29) 31 1,Yd 6 (oM 31 30) 63 1,Yd 7 (oF 31 32 (.mov t5)) 127 1,Yd 8 (oF 31 33 (.bin .eql .num t32 k0)) 255 1,Yd 9 (oF 31 34 (.mov t33)) 511 1,Yd 10 (oT 34 35 (.load false 1 t3)) 1023 1,
 Yd 11 (oT 34 36 (.mov t0)) 1023 0,Yd 12 (oT 34 37 (.mov t5)) 1023 0,Yd 13 (oT 34 38 (.indexS t36 t37)) 7167 0,Yd 14 (oT 34 39 (.call t35 [t38])) 16383 1,Yd 15 (oT 34 40 (.una .not t39)) 32767 1,Yd 16 (oF 31 41 (.pick t34 t40 kF)) 65535 1,
 Yd 17 (Yq 42 31 41) 131071 1]) (.cond t42 (Yr [Yj 2 kF] .ret) .skip)))) (Yg [Yo 43 .add t22 k1,oM 22 43]))))))) (Yr [Yj 2 kT] .ret))))))
theorem ok176:Y4 176 44 ir176 [.tmp 2]:=Yf Tryz.func176 Tryz.ntmps176
def ir177:X3:=(Yr [oO 2 (.mov (.const nS))] (sQ (Yr [oM 3 0,oO 4 (.isnil false t3)] (.cond t4 (Yr [oO 2 (.mov (.const nS))] .ret) .skip)) (Yr [⟨(some 5),.bslice [(.string ⟨#[]⟩)] 0 [],none⟩,oM 6 0,⟨(some 7),
 .append [(.string ⟨#[]⟩)] 16 t5 t6,none⟩,oM 2 7] .ret)))
theorem ok177:Y4 177 8 ir177 [.tmp 2]:=Yf Tryz.func177 Tryz.ntmps177
def ok178 := Xk Tryz.func178 Tryz.ntmps178
def ok179 := Xk Tryz.func179 Tryz.ntmps179
def ok180 := Xk Tryz.func180 Tryz.ntmps180
def ok181 := Xk Tryz.func181 Tryz.ntmps181
def ok182 := Xk Tryz.func182 Tryz.ntmps182
def ok183 := Xk Tryz.func183 Tryz.ntmps183
def ok184 := Xk Tryz.func184 Tryz.ntmps184
def ok185 := Xk Tryz.func185 Tryz.ntmps185
def ok186 := Xk Tryz.func186 Tryz.ntmps186
def ok187 := Xk Tryz.func187 Tryz.ntmps187
def ok188 := Xk Tryz.func188 Tryz.ntmps188
def ir189:X3:=(Yr [⟨(some 4),.alloc [Yu,(.string ⟨#[]⟩),z0,z0],none⟩,Yj 5 kF] (Yr [oM 10 0,oM 11 1,Yc 12 186 [t10,t11,(.func 188)],oM 6 12] (sQ (Yr [oM 13 6,oM 14 1,Yo 15 .sub t13 t14,Yo 16 .gtr t15 k6,
 oM 17 16,oF 17 18 (.mov t0),oF 17 19 (.mov t1),oF 17 20 (.indexS t18 t19),oF 17 21 (.bin .eql .num t20 (kB 48)),oF 17 22 (.mov t21),oT 22 23 (.mov t6),oT 22 24 (.mov t1),oT 22 25 (.bin .sub .num t23 t24),
 oT 22 26 (.bin .gtr .num t25 k1),oF 17 27 (.pick t22 t26 kF),Yq 28 17 27,oM 29 28,oF 29 30 (.mov t6),oF 29 31 (.mov t0),oF 29 32 (.lenS t31),oF 29 33 (.bin .lss .num t30 t32),oF 29 34 (.mov t33),oT 34 35 (.mov t0),
 oT 34 36 (.mov t6),oT 34 37 (.indexS t35 t36),oT 34 38 (kC 185 [t37]),oT 34 39 (.mov t38),oF 39 40 (.mov t0),oF 39 41 (.mov t6),oF 39 42 (.indexS t40 t41),oF 39 43 (.bin .eql .num t42 (kB 95)),oT 34 44 (.pick t39 kT t43),
 oF 29 45 (.pick t34 t44 kF),Yq 46 29 45] (.cond t46 (Yr [⟨(some 47),.build [Yu,(.string ⟨#[]⟩),z0,z0] [],none⟩,Ys 4 4 47,Yj 5 kF] .ret) .skip)) (Yr [Yj 7 k0] (sQ (Yr [oM 48 0,oM 49 1,oM 50 6,oO 51 (.slcS t48 (some t49) (some t50)),
 oO 52 (.s2b t51),Yn 53 52,Yj 54 k0] (.block 0 (.loop (Yr [Yo 55 .lss t54 t53] (sQ (.cond t55 .skip (.exit 0)) (sQ (.block 1 (Yr [Yi 56 1 52 54,Yk 57 56,oM 9 57] (Yg [oM 58 7,Yo 59 .mul k10 t58,oM 60 9,
 Yo 61 .sub t60 (kB 48),oO 62 (.conv .i64 t61),Yo 63 .add t59 t62,oM 7 63]))) (Yg [Yo 64 .add t54 k1,oM 54 64]))))))) (Yr [oM 65 0,oM 66 1,oM 67 6,oO 68 (.slcS t65 (some t66) (some t67)),oM 69 7,oM 70 1,
 ⟨(some 71),.build [Yu,(.string ⟨#[]⟩),z0,z0] [(0,1,(kB 2)),(1,1,t68),(2,1,t69),(3,1,t70)],none⟩,Ys 4 4 71,Yj 5 kT] .ret))))))
theorem ok189:Y4 189 72 ir189 [.cell 4 true 4,.tmp 5]:=Yf Tryz.func189 Tryz.ntmps189
def ir190:X3:=(Yr [⟨(some 4),.alloc [Yu,(.string ⟨#[]⟩),z0,z0],none⟩,Yj 5 kF] (sQ (Yr [⟨(some 8),.bslice [(.string ⟨#[]⟩)] 13 [(0,(.const (.string ⟨#[45,62]⟩))),(1,(.const (.string ⟨#[60,61]⟩))),(2,
 (.const (.string ⟨#[62,61]⟩))),(3,(.const (.string ⟨#[61,61]⟩))),(4,(.const (.string ⟨#[60]⟩))),(5,(.const (.string ⟨#[62]⟩))),(6,(.const (.string ⟨#[40]⟩))),(7,(.const (.string ⟨#[41]⟩))),(8,(.const (.string ⟨#[44]⟩))),
 (9,(.const (.string ⟨#[59]⟩))),(10,(.const (.string ⟨#[58]⟩))),(11,(.const (.string ⟨#[43]⟩))),(12,(.const (.string ⟨#[45]⟩)))],none⟩,Yn 9 8,Yj 10 k0] (.block 0 (.loop (Yr [Yo 11 .lss t10 t9] (sQ (.cond t11 .skip (.exit 0)) (sQ (.block 1 (Yr [Yi 12 1 8 10,
 Yk 13 12,oM 7 13] (Yr [oM 14 0,oM 15 1,oO 16 (.slcS t14 (some t15) none),oM 17 7,Yc 18 266 [t16,t17]] (.cond t18 (Yr [oM 19 7,oM 20 1,⟨(some 21),.build [Yu,(.string ⟨#[]⟩),z0,z0] [(0,1,(kB 3)),(1,1,t19),
 (2,1,k0),(3,1,t20)],none⟩,Ys 4 4 21,Yj 5 kT] .ret) .skip)))) (Yg [Yo 22 .add t10 k1,oM 10 22]))))))) (Yr [⟨(some 23),.build [Yu,(.string ⟨#[]⟩),z0,z0] [],none⟩,Ys 4 4 23,Yj 5 kF] .ret)))
theorem ok190:Y4 190 24 ir190 [.cell 4 true 4,.tmp 5]:=Yf Tryz.func190 Tryz.ntmps190
def ir191:X3:=(Yr [oO 2 (.mov (.const nS))] (sQ (Yr [oM 3 0,oO 4 (.isnil false t3)] (.cond t4 (Yr [oO 2 (.mov (.const nS))] .ret) .skip)) (Yr [⟨(some 5),.bslice [Yu,(.string ⟨#[]⟩),z0,z0] 0 [],none⟩,
 oM 6 0,⟨(some 7),.append [Yu,(.string ⟨#[]⟩),z0,z0] 40 t5 t6,none⟩,oM 2 7] .ret)))
theorem ok191:Y4 191 8 ir191 [.tmp 2]:=Yf Tryz.func191 Tryz.ntmps191
def ir192:X3:=(Yr [Yz 8 [Yu,z0,nS,nS]] (Yr [oM 10 3,oO 11 (.call t10 []),Yz 9 [Yu,z0,nS,nS],Ys 4 9 11] (sQ (.block 0 (.loop (sQ (Yr [oM 12 0,oO 13 (.nilck t12),Ya 14 0 13,Yk 15 14,oM 16 1,Yc 17 114 [t15,
 t16]] (.cond t17 .skip (.exit 0))) (.block 1 (.draw [Yd 0 (oM 18 2) 0 0,Yd 1 (Yl 19 4 9) 0 1,Yd 2 (oM 20 3) 0 0,Yd 3 (oO 21 (.call t20 [])) 4 0,Yd 4 (Yc 22 115 [t18,t19,t21]) 15 1,Yd 5 (Ys 4 9 22) 31 1]))))) (Yr [Yl 23 4 9,
 Ys 4 8 23] .ret))))
theorem ok192:Y4 192 24 ir192 [.cell 8 true 4]:=Yf Tryz.func192 Tryz.ntmps192
def ir193:X3:=(Yr [Yz 2 [Yu,z0,nS,nS]] (Yr [oM 3 0,oM 4 0,oO 5 (.mkbf 267 [t4]),⟨(some 6),kC 192 [t3,(.const (.string ⟨#[97,110,100]⟩)),(kB 8),t5],none⟩,Ys 4 2 6] .ret))
theorem ok193:Y4 193 7 ir193 [.cell 2 true 4]:=Yf Tryz.func193 Tryz.ntmps193
def ir194:X3:=(Yr [Yj 4 kF] (Yr [oM 6 0,Yc 7 117 [t6],⟨(some 5),.alloc [Yu,(.string ⟨#[]⟩),z0,z0],none⟩,Ys 4 5 7] (Yr [Ya 8 0 5,Yk 9 8,Yo 10 .eql t9 (kB 1),oM 11 10,oF 11 12 (.faddr 0 t5),oF 11 13 (.load false 1 t12),
 oF 11 14 (.bin .eql .num t13 (kB 3)),Yq 15 11 14,oM 16 15,oT 16 17 (.faddr 1 t5),oT 16 18 (.load false 1 t17),oT 16 19 (.mov t1),oT 16 20 (.bin .eql .num t18 t19),Ym 21 16 20,oM 4 21] .ret)))
theorem ok194:Y4 194 22 ir194 [.tmp 4]:=Yf Tryz.func194 Tryz.ntmps194
def ir195:X3:=(Yr [⟨(some 2),.alloc [Yu,(.string ⟨#[]⟩),z0,z0],none⟩] (sQ (sQ (.draw [Yd 0 (oM 3 0) 0 0,Yd 1 (oO 4 (.nilck t3)) 1 0,Yd 2 (Ya 5 1 4) 3 0,Yd 3 (Yk 6 5) 7 0,Yd 4 (oM 7 0) 0 0,Yd 5 (oO 8 (.nilck t7)) 16 0,
 Yd 6 (Ya 9 0 8) 48 0,Yd 7 (Yk 10 9) 112 0,Yd 8 (Yn 11 10) 240 0,Yd 9 (Yo 12 .lss t6 t11) 511 1]) (.cond t12 (sQ (.draw [Yd 0 (oM 13 0) 0 0,Yd 1 (oO 14 (.nilck t13)) 1 0,Yd 2 (Ya 15 0 14) 3 0,Yd 3 (Yk 16 15) 7 0,
 Yd 4 (oM 17 0) 0 0,Yd 5 (oO 18 (.nilck t17)) 16 0,Yd 6 (Ya 19 1 18) 48 0,Yd 7 (Yk 20 19) 112 0,Yd 8 (Yi 21 4 16 20) 255 1,Yd 9 (Yl 22 4 21) 511 1,Yd 10 (Ys 4 2 22) 1023 1]) .ret) .skip)) (Yr [⟨(some 23),
 .build [Yu,(.string ⟨#[]⟩),z0,z0] [],none⟩,Ys 4 2 23] .ret)))
theorem ok195:Y4 195 24 ir195 [.cell 2 true 4]:=Yf Tryz.func195 Tryz.ntmps195
def ir200:X3:=(Yr [Yb 1 0,Yj 2 k0] (Yr [Ya 9 0 1,Yk 10 9,Yc 11 271 [t10],oM 8 11,Yx 12 8 0,Yx 13 8 1,Yx 14 8 2,oM 3 12,oM 4 13,oM 5 14] (sQ (Yr [Ya 15 0 1,Yk 16 15,Yo 17 .lss t16 (kB 1),oM 18 17,oF 18 19 (.faddr 0 t1),
 oF 18 20 (.load false 1 t19),oF 18 21 (.bin .gtr .num t20 (kB 16)),Yq 22 18 21,oM 23 22,oF 23 24 (.faddr 3 t1),oF 23 25 (.load false 1 t24),oF 23 26 (.len t25),oF 23 27 (.mov t3),oF 23 28 (.bin .neq .num t26 t27),
 Yq 29 23 28] (.cond t29 (Yr [Yj 2 k1] .ret) .skip)) (sQ (Yr [Ya 30 0 1,Yk 31 30,Yo 32 .neq t31 (kB 1),oM 33 32,oT 33 34 (.faddr 1 t1),oT 33 35 (.load false 1 t34),oT 33 36 (.bin .neq .num t35 k0),Ym 37 33 36,
 oM 38 37,oF 38 39 (.faddr 2 t1),oF 38 40 (.load false 1 t39),oF 38 41 (.len t40),oF 38 42 (.mov t4),oF 38 43 (.bin .lss .num t41 t42),Yq 44 38 43,oM 45 44,oF 45 46 (.faddr 2 t1),oF 45 47 (.load false 1 t46),
 oF 45 48 (.len t47),oF 45 49 (.mov t5),oF 45 50 (.bin .gtr .num t48 t49),Yq 51 45 50] (.cond t51 (Yr [Yj 2 k6] .ret) .skip)) (sQ (Yr [Ya 52 1 1,Yk 53 52,Yo 54 .lss t53 k0,oM 55 54,oF 55 56 (.faddr 1 t1),
 oF 55 57 (.load false 1 t56),oF 55 58 (.bin .gtr .num t57 (kI 999999)),Yq 59 55 58] (.cond t59 (Yr [Yj 2 k2] .ret) .skip)) (sQ (Yr [Ya 60 2 1,Yk 61 60,Yn 62 61,Yj 63 k0] (.block 0 (.loop (Yr [Yo 64 .lss t63 t62] (sQ (.cond t64 .skip (.exit 0)) (sQ (.block 1 (Yr [Yi 65 1 61 63,
 Yk 66 65,oM 7 66] (Yr [oM 67 7,Yo 68 .lss t67 k1,oM 69 68,oF 69 70 (.mov t7),oF 69 71 (.bin .gtr .num t70 k63),Yq 72 69 71] (.cond t72 (Yr [Yj 2 k2] .ret) .skip)))) (Yg [Yo 73 .add t63 k1,oM 63 73]))))))) (sQ (sQ (.draw [Yd 0 (Ya 74 2 1) 0 0,
 Yd 1 (Yk 75 74) 1 0,Yd 2 (Yc 76 24 [t75]) 3 0,Yd 3 (Yc 77 77 [t76]) 7 0,Yd 4 (Ya 78 2 1) 0 0,Yd 5 (Yk 79 78) 16 0,Yd 6 (Yn 80 79) 48 0,Yd 7 (Yo 81 .neq t77 t80) 127 1]) (.cond t81 (Yr [Yj 2 k5] .ret) .skip)) (Yr [Yj 2 k0] .ret))))))))
theorem ok200:Y4 200 82 ir200 [.tmp 2]:=Yf Tryz.func200 Tryz.ntmps200
def ir210:X3:=(Yr [Yj 2 k0] (sQ (Yr [oM 3 0,Yo 4 .geq t3 (kW 4294967296)] (.cond t4 (Yr [oM 5 0,Yo 6 .shr t5 (kW 32),oM 0 6] (Yg [Yj 2 k32])) .skip)) (sQ (Yr [oM 7 0,Yo 8 .geq t7 (kW 65536)] (.cond t8 (Yr [oM 9 0,
 Yo 10 .shr t9 (kW 16),oM 0 10] (Yg [oM 11 2,Yo 12 .add t11 k16,oM 2 12])) .skip)) (sQ (Yr [oM 13 0,Yo 14 .geq t13 (kW 256)] (.cond t14 (Yr [oM 15 0,Yo 16 .shr t15 (kW 8),oM 0 16] (Yg [oM 17 2,Yo 18 .add t17 k8,
 oM 2 18])) .skip)) (Yr [oM 19 2,oM 20 0,oO 21 (.conv .u8 t20),⟨(some 22),.indexS (.const (.string ⟨#[0,1,2,2,3,3,3,3,4,4,4,4,4,4,4,4,5,5,5,5,5,5,5,5,5,5,5,5,5,5,5,5,6,6,6,6,6,6,6,6,6,6,6,6,6,6,6,6,6,6,
 6,6,6,6,6,6,6,6,6,6,6,6,6,6,7,7,7,7,7,7,7,7,7,7,7,7,7,7,7,7,7,7,7,7,7,7,7,7,7,7,7,7,7,7,7,7,7,7,7,7,7,7,7,7,7,7,7,7,7,7,7,7,7,7,7,7,7,7,7,7,7,7,7,7,7,7,7,7,8,8,8,8,8,8,8,8,8,8,8,8,8,8,8,8,8,8,8,8,8,8,8,
 8,8,8,8,8,8,8,8,8,8,8,8,8,8,8,8,8,8,8,8,8,8,8,8,8,8,8,8,8,8,8,8,8,8,8,8,8,8,8,8,8,8,8,8,8,8,8,8,8,8,8,8,8,8,8,8,8,8,8,8,8,8,8,8,8,8,8,8,8,8,8,8,8,8,8,8,8,8,8,8,8,8,8,8,8,8,8,8,8,8,8,8,8,8,8,8,8,8,8,8,8,
 8,8,8,8]⟩)) t21,none⟩,oO 23 (.conv .i64 t22),Yo 24 .add t19 t23,oM 2 24] .ret)))))
theorem ok210:Y4 210 25 ir210 [.tmp 2]:=Yf Tryz.func210 Tryz.ntmps210
def ok211 := Xk Tryz.func211 Tryz.ntmps211
def ir223:X3:=(Yr [oO 2 (.mov (.const nS))] (sQ (Yr [oM 3 0,oO 4 (.isnil false t3)] (.cond t4 (Yr [oO 2 (.mov (.const nS))] .ret) .skip)) (Yr [⟨(some 5),.bslice [z0,(.string ⟨#[]⟩),(.string ⟨#[]⟩),(.bool false)] 0 [],
 none⟩,oM 6 0,⟨(some 7),.append [z0,(.string ⟨#[]⟩),(.string ⟨#[]⟩),(.bool false)] 48 t5 t6,none⟩,oM 2 7] .ret)))
theorem ok223:Y4 223 8 ir223 [.tmp 2]:=Yf Tryz.func223 Tryz.ntmps223
def ok228 := Xk Tryz.func228 Tryz.ntmps228
def ok239 := Xk Tryz.func239 Tryz.ntmps239
def ir243:X3:=(Yr [Yb 2 0,Yz 4 [nS]] (sQ (Yr [Yl 6 1 2,oM 7 1,Yc 8 42 [t6,t7],Yh 9 8] (.cond t9 (Yr [Yl 10 1 2,Ys 1 4 10] .ret) .skip)) (Yr [oO 11 (.bslice [Y5] 0 []),Ya 12 0 2,Yk 13 12,oO 14 (.append [Y5] 8 t11 t13),
 oM 5 14] (sQ (.draw [Yd 0 (oM 15 5) 0 1,Yd 1 (oM 16 1) 0 1,Yd 2 (Yo 17 .quo t16 k64) 2 1,Yd 3 (Yi 18 1 15 17) 7 1,Yd 4 (Yk 19 18) 15 1,Yd 5 (oM 20 1) 0 0,Yd 6 (Yo 21 .rem t20 k64) 32 0,Yd 7 (Yo 22 .shl (kW 1) t21) 96 0,
 Yd 8 (Yo 23 .andNot t19 t22) 255 1,Yd 9 (Yi 24 1 15 17) 511 1,Yd 10 (Ys 1 24 23) 1023 1]) (Yr [oM 25 5,Yc 26 48 [t25],Ys 1 4 26] .ret)))))
theorem ok243:Y4 243 27 ir243 [.cell 4 true 1]:=Yf Tryz.func243 Tryz.ntmps243
def ok245 := Xk Tryz.func245 Tryz.ntmps245
def ok246 := Xk Tryz.func246 Tryz.ntmps246
def ok247 := Xk Tryz.func247 Tryz.ntmps247
def ok248 := Xk Tryz.func248 Tryz.ntmps248
set_option maxRecDepth 100000
def ok255 := Xk Tryz.func255 Tryz.ntmps255
def ok256 := Xk Tryz.func256 Tryz.ntmps256
def ir257:X3:=(Yr [oO 0 (.mov (.const nS))] (Yr [⟨(some 1),.bslice [(.string ⟨#[]⟩)] 20 [(0,(.const (.string ⟨#[97,108,108]⟩))),(1,(.const (.string ⟨#[97,110,100]⟩))),(2,(.const (.string ⟨#[97,115,115,
 105,103,110]⟩))),(3,(.const (.string ⟨#[98,121]⟩))),(4,(.const (.string ⟨#[99,111,117,110,116]⟩))),(5,(.const (.string ⟨#[100,101,99,108,97,114,101]⟩))),(6,(.const (.string ⟨#[100,121,110,97,109,105,99]⟩))),
 (7,(.const (.string ⟨#[101,110,102,111,114,99,101]⟩))),(8,(.const (.string ⟨#[102,97,108,115,101]⟩))),(9,(.const (.string ⟨#[102,111,114]⟩))),(10,(.const (.string ⟨#[105,102]⟩))),(11,(.const (.string ⟨#[109,
 101,109,98,101,114,115]⟩))),(12,(.const (.string ⟨#[110,111,110,101]⟩))),(13,(.const (.string ⟨#[110,111,116]⟩))),(14,(.const (.string ⟨#[111,110]⟩))),(15,(.const (.string ⟨#[111,114]⟩))),(16,(.const (.string ⟨#[114,
 101,118,111,107,101]⟩))),(17,(.const (.string ⟨#[115,116,97,116,105,99]⟩))),(18,(.const (.string ⟨#[116,114,117,101]⟩))),(19,(.const (.string ⟨#[117,115,101,114,115]⟩)))],none⟩,oM 0 1] .ret))
theorem ok257:Y4 257 2 ir257 [.tmp 0]:=Yf Tryz.func257 Tryz.ntmps257
def ok258 := Xk Tryz.func258 Tryz.ntmps258
def ok259 := Xk Tryz.func259 Tryz.ntmps259
def ok261 := Xk Tryz.func261 Tryz.ntmps261
def ir262:X3:=(Yr [Yb 3 1,oO 4 (.mov (.const nS))] (Yr [oM 7 0,Ya 8 2 3,Yk 9 8,⟨(some 10),.append [(.string ⟨#[]⟩)] 16 t7 t9,none⟩,oM 0 10] (sQ (Yr [Ya 11 3 3,Yk 12 11,Yn 13 12,Yj 14 k0] (.block 0 (.loop (Yr [Yo 15 .lss t14 t13] (sQ (.cond t15 .skip (.exit 0)) (sQ (.block 1 (Yr [Yi 16 4 12 14,
 Yl 17 4 16,Yz 6 [Yu,z0,nS,nS],Ys 4 6 17] (Yg [oM 18 0,Yl 19 4 6,Yc 20 262 [t18,t19],oM 0 20]))) (Yg [Yo 21 .add t14 k1,oM 14 21]))))))) (Yr [oM 22 0,oM 4 22] .ret))))
theorem ok262:Y4 262 23 ir262 [.tmp 4]:=Yf Tryz.func262 Tryz.ntmps262
def ok263 := Xk Tryz.func263 Tryz.ntmps263
def ir264:X3:=(Yr [oO 2 (.mov (.const nS))] (sQ (Yr [oM 6 0,Yn 7 6,Yo 8 .lss t7 k2] (.cond t8 (Yr [oM 9 0,oM 2 9] .ret) .skip)) (sQ (Yr [Yj 3 k1] (.block 0 (.loop (sQ (Yr [oM 10 3,oM 11 0,Yn 12 11,Yo 13 .lss t10 t12] (.cond t13 .skip (.exit 0))) (sQ (.block 1 (sQ (.draw [Yd 0 (oM 16 0) 0 0,
 Yd 1 (oM 17 3) 0 0,Yd 2 (Yi 18 1 16 17) 3 0,Yd 3 (Yk 19 18) 7 0,Yd 4 (oM 20 0) 0 0,Yd 5 (oM 21 3) 0 0,Yd 6 (Yo 22 .sub t21 k1) 32 0,Yd 7 (Yi 23 1 20 22) 112 0,Yd 8 (Yk 24 23) 240 0,Yd 9 (Yo 25 .eql t19 t24) 511 1]) (.cond t25 (Yr [oM 26 0,
 oM 27 3,oO 28 (.slc 1 t26 (some t27) none none),oM 4 28] (sQ (Yr [Yj 5 k1] (.block 2 (.loop (sQ (Yr [oM 29 5,oM 30 4,Yn 31 30,Yo 32 .lss t29 t31] (.cond t32 .skip (.exit 2))) (sQ (.block 3 (sQ (.draw [Yd 0 (oM 35 4) 0 0,
 Yd 1 (oM 36 5) 0 0,Yd 2 (Yi 37 1 35 36) 3 0,Yd 3 (Yk 38 37) 7 0,Yd 4 (oM 39 4) 0 0,Yd 5 (oM 40 5) 0 0,Yd 6 (Yo 41 .sub t40 k1) 32 0,Yd 7 (Yi 42 1 39 41) 112 0,Yd 8 (Yk 43 42) 240 0,Yd 9 (Yo 44 .neq t38 t43) 511 1]) (.cond t44 (Yr [oM 45 0,
 oM 46 3,oM 47 4,oM 48 5,Yi 49 1 47 48,Yk 50 49,Yi 51 1 45 46,Ys 1 51 50] (Yg [oM 52 3,Yo 53 .add t52 k1,oM 3 53])) .skip))) (Yg [oM 33 5,Yo 34 .add t33 k1,oM 5 34])))))) (Yr [oM 54 0,oM 55 3,oO 56 (.slc 1 t54 (some t55) none none),
 ⟨none,.clear [(.string ⟨#[]⟩)] t56,none⟩] (Yr [oM 57 0,oM 58 3,oO 59 (.slc 1 t57 none (some t58) none),oM 2 59] .ret)))) .skip))) (Yg [oM 14 3,Yo 15 .add t14 k1,oM 3 15])))))) (Yr [oM 60 0,oM 2 60] .ret))))
theorem ok264:Y4 264 61 ir264 [.tmp 2]:=Yf Tryz.func264 Tryz.ntmps264
def ok266 := Xk Tryz.func266 Tryz.ntmps266
def ir267:X3:=(Yr [Yz 2 [Yu,z0,nS,nS]] (Yr [Yj 3 k0] (sQ (.block 0 (.loop (sQ (Yr [oM 5 0,oO 6 (.nilck t5),Ya 7 0 6,Yk 8 7,⟨(some 9),kC 114 [t8,(.const (.string ⟨#[110,111,116]⟩))],none⟩] (.cond t9 .skip (.exit 0))) (.block 1 (Yg [oM 10 3,
 Yo 11 .add t10 k1,oM 3 11]))))) (Yr [oM 12 0,Yc 13 324 [t12],Yz 4 [Yu,z0,nS,nS],Ys 4 4 13] (sQ (Yr [oM 14 3,Yj 15 k0] (.block 2 (.loop (Yr [Yo 16 .lss t15 t14] (sQ (.cond t16 .skip (.exit 2)) (sQ (.block 3 (Yg [Yl 17 4 4,
 oO 18 (.bslice [Yu,z0,nS,nS] 1 [(0,t17)]),oO 19 (.build [Yu,z0,nS,nS] [(0,1,(kB 7)),(3,1,t18)]),Ys 4 4 19])) (Yg [Yo 20 .add t15 k1,oM 15 20]))))))) (Yr [Yl 21 4 4,Ys 4 2 21] .ret))))))
theorem ok267:Y4 267 22 ir267 [.cell 2 true 4]:=Yf Tryz.func267 Tryz.ntmps267
def ok271 := Xk Tryz.func271 Tryz.ntmps271
def ok277 := Xk Tryz.func277 Tryz.ntmps277
def ok280 := Xk Tryz.func280 Tryz.ntmps280
def ok294 := Xk Tryz.func294 Tryz.ntmps294
def ir299:X3:=(Yr [⟨(some 2),.mov (.const (.string ⟨#[]⟩)),none⟩] (Yr [oM 4 0,Yc 5 117 [t4],⟨(some 3),.alloc [Yu,(.string ⟨#[]⟩),z0,z0],none⟩,Ys 4 3 5] (sQ (.block 0 (sQ (.draw [Yd 0 (Ya 7 0 3) 0 1,
 Yd 1 (Yk 8 7) 1 1,Yd 2 (Yo 9 .neq t8 (kB 1)) 3 1,Yd 3 (oM 10 9) 7 1,Yd 4 (oF 10 11 (kC 257 [])) 15 0,Yd 5 (oF 10 12 (.faddr 1 t3)) 15 1,Yd 6 (oF 10 13 (.load false 1 t12)) 47 1,Yd 7 (oF 10 14 (kC 256 [t11,
 t13])) 127 1,Yd 8 (Yq 15 10 14) 255 1,Yd 9 (oM 6 15) 511 1]) (.cond t6 (Yr [oM 16 0,Yc 17 70 [t16,k8]] (Yr [⟨(some 2),.mov (.const (.string ⟨#[]⟩)),none⟩] .ret)) (Yr [Ya 19 1 3,Yk 20 19,Yc 21 176 [t20],
 Yh 22 21,oM 18 22] (.cond t18 (Yr [oM 23 0,Yc 24 70 [t23,k9]] (Yr [⟨(some 2),.mov (.const (.string ⟨#[]⟩)),none⟩] .ret)) .skip))))) (Yr [oM 25 0,oO 26 (.nilck t25),Ya 27 1 26,Yk 28 27,Yo 29 .add t28 k1,
 oO 30 (.nilck t25),Ya 31 1 30,Ys 1 31 29] (Yr [Ya 32 1 3,Yk 33 32,oM 2 33] .ret)))))
theorem ok299:Y4 299 34 ir299 [.tmp 2]:=Yf Tryz.func299 Tryz.ntmps299
def ok311 := Xk Tryz.func311 Tryz.ntmps311
def ok321 := Xk Tryz.func321 Tryz.ntmps321
def ir322:X3:=(Yr [Yj 8 kT] (Yr [Yj 9 kT] (.block 0 (.loop (.block 1 (Yr [oM 19 2,oM 20 1,Yo 21 .sub t19 t20,oM 10 21] (sQ (Yr [oM 22 10,Yo 23 .leq t22 k12] (.cond t23 (Yr [oM 24 0,oM 25 1,oM 26 2,Yc 27 347 [t24,
 t25,t26]] .ret) .skip)) (sQ (Yr [oM 28 3,Yo 29 .eql t28 k0] (.cond t29 (Yr [oM 30 0,oM 31 1,oM 32 2,Yc 33 348 [t30,t31,t32]] .ret) .skip)) (sQ (Yr [oM 34 8,Yh 35 34] (.cond t35 (Yr [oM 36 0,oM 37 1,oM 38 2,
 Yc 39 349 [t36,t37,t38]] (Yg [oM 40 3,Yo 41 .sub t40 k1,oM 3 41])) .skip)) (Yr [oM 43 0,oM 44 1,oM 45 2,Yc 46 350 [t43,t44,t45],oM 42 46,Yx 47 42 0,Yx 48 42 1,oM 11 47,oM 12 48] (sQ (Yr [oM 49 12,Yo 50 .eql t49 k2] (.cond t50 (Yr [oM 51 0,
 oM 52 1,oM 53 2,Yc 54 351 [t51,t52,t53]] (Yr [oM 55 2,Yo 56 .sub t55 k1,oM 57 11,oM 58 1,Yo 59 .sub t57 t58,Yo 60 .sub t56 t59,oM 11 60] (Yg [Yj 12 k1]))) .skip)) (sQ (Yr [oM 61 8,oM 62 61,oT 62 63 (.mov t9),
 Ym 64 62 63,oM 65 64,oT 65 66 (.mov t12),oT 65 67 (.bin .eql .num t66 k1),Ym 68 65 67] (.cond t68 (Yr [oM 69 0,oM 70 1,oM 71 2,Yc 72 352 [t69,t70,t71]] (.cond t72 .ret .skip)) .skip)) (sQ (sQ (.draw [Yd 0 (oM 73 1) 0 1,
 Yd 1 (Yo 74 .gtr t73 k0) 1 1,Yd 2 (oM 75 74) 3 1,Yd 3 (oT 75 76 (.mov t0)) 7 0,Yd 4 (oT 75 77 (.mov t1)) 7 0,Yd 5 (oT 75 78 (.bin .sub .num t77 k1)) 23 0,Yd 6 (oT 75 79 (.iaddr 1 t76 t78)) 63 0,Yd 7 (oT 75 80 (.load false 1 t79)) 127 0,
 Yd 8 (oT 75 81 (.mov t0)) 7 0,Yd 9 (oT 75 82 (.mov t11)) 7 0,Yd 10 (oT 75 83 (.iaddr 1 t81 t82)) 775 0,Yd 11 (oT 75 84 (.load false 1 t83)) 1799 0,Yd 12 (oT 75 85 (kC 353 [t80,t84])) 4095 1,Yd 13 (oT 75 86 (.una .not t85)) 8191 1,
 Yd 14 (Ym 87 75 86) 16383 1]) (.cond t87 (Yr [oM 88 0,oM 89 1,oM 90 2,oM 91 11,Yc 92 354 [t88,t89,t90,t91],oM 13 92] (Yr [oM 93 13,oM 1 93] (.exit 1))) .skip)) (Yr [oM 95 0,oM 96 1,oM 97 2,oM 98 11,Yc 99 355 [t95,
 t96,t97,t98],oM 94 99,Yx 100 94 0,Yx 101 94 1,oM 14 100,oM 15 101] (Yr [oM 102 15,oM 9 102] (Yr [oM 103 14,oM 104 1,Yo 105 .sub X7c X6l,oM 106 2,oM 107 14,Yo 108 .sub X6X X6T,oM 16 105,oM 17 108] (Yr [oM 109 10,
 Yo 110 .quo X7S k8,oM 18 110] (Yr [oM 111 16,oM 112 17,Yo 113 .lss X76 X6L] (.cond X7j (Yr [oM 114 16,oM 115 18,Yo 116 .geq X6D X7n,oM 8 116] (Yr [oM 117 0,oM 118 1,oM 119 14,oM 120 3,Yc 121 322 [X6z,
 X7J,X7p,X7i]] (Yg [oM 122 14,Yo 123 .add X7E k1,oM 1 123]))) (Yr [oM 124 17,oM 125 18,Yo 126 .geq X7U X7a,oM 8 126] (Yr [oM 127 0,oM 128 14,Yo 129 .add X7l k1,oM 130 2,oM 131 3,Yc 132 322 [t127,
 X77,X78,X7o]] (Yg [oM 133 14,oM 2 133]))))))))))))))))))))))
theorem ok322:Y4 322 134 ir322 []:=Yf Tryz.func322 Tryz.ntmps322
def ok323 := Xk Tryz.func323 Tryz.ntmps323
def ir324:X3:=(Yr [Yz 2 [Yu,z0,nS,nS]] (Yr [oM 6 0,Yc 7 356 [t6],Yz 3 [Yu,z0,nS,nS],Ys 4 3 7] (sQ (Yr [oM 9 0,Yc 10 357 [t9],oM 8 10,Yx 11 8 0,Yx 12 8 1,oM 4 11,oM 5 12] (Yr [oM 13 5] (.cond t13 (sQ (.draw [Yd 0 (oM 14 4) 0 0,
 Yd 1 (Yl 15 4 3) 0 1,Yd 2 (oM 16 0) 0 0,Yd 3 (Yc 17 356 [t16]) 4 0,Yd 4 (Yc 18 115 [t14,t15,t17]) 15 1,Yd 5 (Ys 4 2 18) 31 1]) .ret) .skip))) (Yr [Yl 19 4 3,Ys 4 2 19] .ret))))
theorem ok324:Y4 324 20 ir324 [.cell 2 true 4]:=Yf Tryz.func324 Tryz.ntmps324
def ok332 := Xk Tryz.func332 Tryz.ntmps332
set_option maxRecDepth 100000
def ir347:X3:=(Yr [oM 8 1,Yo 9 .add t8 k1,oM 6 9] (.block 0 (.loop (sQ (Yr [oM 10 6,oM 11 2,Yo 12 .lss t10 t11] (.cond t12 .skip (.exit 0))) (sQ (.block 1 (Yr [oM 15 6,oM 7 15] (.block 2 (.loop (sQ (sQ (.draw [Yd 0 (oM 16 7) 0 1,
 Yd 1 (oM 17 1) 0 1,Yd 2 (Yo 18 .gtr t16 t17) 3 1,Yd 3 (oM 19 18) 7 1,Yd 4 (oT 19 20 (.mov t0)) 15 0,Yd 5 (oT 19 21 (.mov t7)) 15 0,Yd 6 (oT 19 22 (.iaddr 1 t20 t21)) 63 0,Yd 7 (oT 19 23 (.load false 1 t22)) 127 0,
 Yd 8 (oT 19 24 (.mov t0)) 15 0,Yd 9 (oT 19 25 (.mov t7)) 15 0,Yd 10 (oT 19 26 (.bin .sub .num t25 k1)) 527 0,Yd 11 (oT 19 27 (.iaddr 1 t24 t26)) 1807 0,Yd 12 (oT 19 28 (.load false 1 t27)) 3855 0,Yd 13 (oT 19 29 (kC 353 [t23,
 t28])) 8191 1,Yd 14 (Ym 30 19 29) 16383 1]) (.cond t30 .skip (.exit 2))) (sQ (.block 3 (.draw [Yd 0 (oM 33 0) 0 0,Yd 1 (oM 34 7) 0 0,Yd 2 (oM 35 0) 0 0,Yd 3 (oM 36 7) 0 0,Yd 4 (Yo 37 .sub t36 k1) 8 0,Yd 5 (oM 38 0) 0 0,
 Yd 6 (oM 39 7) 0 0,Yd 7 (Yo 40 .sub t39 k1) 64 0,Yd 8 (Yi 41 1 38 40) 224 0,Yd 9 (Yk 42 41) 480 0,Yd 10 (oM 43 0) 0 0,Yd 11 (oM 44 7) 0 0,Yd 12 (Yi 45 1 43 44) 3072 0,Yd 13 (Yk 46 45) 7168 0,Yd 14 (Yi 47 1 33 34) 16355 1,
 Yd 15 (Ys 1 47 42) 32739 1,Yd 16 (Yi 48 1 35 37) 65535 1,Yd 17 (Ys 1 48 46) 131071 1])) (Yg [oM 31 7,Yo 32 .sub t31 k1,oM 7 32]))))))) (Yg [oM 13 6,Yo 14 .add t13 k1,oM 6 14]))))))
theorem ok347:Y4 347 49 ir347 []:=Yf Tryz.func347 Tryz.ntmps347
def ok353 := Xk Tryz.func353 Tryz.ntmps353
def ir356:X3:=(Yr [Yz 2 [Yu,z0,nS,nS]] (Yr [oM 3 0,oM 4 0,oO 5 (.mkbf 374 [t4]),⟨(some 6),kC 192 [t3,(.const (.string ⟨#[43]⟩)),(kB 16),t5],none⟩,Ys 4 2 6] .ret))
theorem ok356:Y4 356 7 ir356 [.cell 2 true 4]:=Yf Tryz.func356 Tryz.ntmps356
def ir357:X3:=(Yr [oO 2 (.mov (.const Yu)),Yj 3 kF] (sQ (.block 0 (Yr [oM 5 0,oO 6 (.nilck t5),Ya 7 0 6,Yk 8 7,⟨(some 9),kC 114 [t8,(.const (.string ⟨#[60,61]⟩))],none⟩,oM 4 9] (.cond t4 (Yr [Yj 2 (kB 11),
 Yj 3 kT] .ret) (Yr [oM 11 0,oO 12 (.nilck t11),Ya 13 0 12,Yk 14 13,⟨(some 15),kC 114 [t14,(.const (.string ⟨#[60]⟩))],none⟩,oM 10 15] (.cond t10 (Yr [Yj 2 (kB 12),Yj 3 kT] .ret) (Yr [oM 17 0,oO 18 (.nilck t17),
 Ya 19 0 18,Yk 20 19,⟨(some 21),kC 114 [t20,(.const (.string ⟨#[62,61]⟩))],none⟩,oM 16 21] (.cond t16 (Yr [Yj 2 (kB 13),Yj 3 kT] .ret) (Yr [oM 23 0,oO 24 (.nilck t23),Ya 25 0 24,Yk 26 25,⟨(some 27),kC 114 [t26,
 (.const (.string ⟨#[62]⟩))],none⟩,oM 22 27] (.cond t22 (Yr [Yj 2 (kB 14),Yj 3 kT] .ret) (Yr [oM 29 0,oO 30 (.nilck t29),Ya 31 0 30,Yk 32 31,⟨(some 33),kC 114 [t32,(.const (.string ⟨#[61,61]⟩))],none⟩,oM 28 33] (.cond t28 (Yr [Yj 2 (kB 15),
 Yj 3 kT] .ret) .skip))))))))))) (Yr [oO 2 (.mov (.const Yu)),Yj 3 kF] .ret)))
theorem ok357:Y4 357 34 ir357 [.tmp 2,.tmp 3]:=Yf Tryz.func357 Tryz.ntmps357
def ok364 := Xk Tryz.func364 Tryz.ntmps364
def ir374:X3:=(Yr [Yz 2 [Yu,z0,nS,nS]] (sQ (Yr [oM 5 0,Yc 6 116 [t5]] (.cond t6 (Yr [oO 7 (.build [Yu,z0,nS,nS] []),Ys 4 2 7] .ret) .skip)) (sQ (Yr [oM 8 0,oO 9 (.nilck t8),Ya 10 0 9,Yk 11 10,Yc 12 117 [t11],
 ⟨(some 3),.alloc [Yu,(.string ⟨#[]⟩),z0,z0],none⟩,Ys 4 3 12] (Yr [Ya 13 0 3,Yk 14 13,Yo 15 .eql t14 (kB 2)] (.cond t15 (Yr [oM 16 0,oO 17 (.nilck t16),Ya 18 0 17,Yk 19 18,Yc 20 381 [t19]] (Yr [Ya 21 2 3,
 Yk 22 21,oO 23 (.build [Yu,z0,nS,nS] [(0,1,(kB 1)),(1,1,t22)]),Ys 4 2 23] .ret)) .skip))) (sQ (.block 0 (Yr [oM 25 0,oO 26 (.nilck t25),Ya 27 0 26,Yk 28 27,⟨(some 29),kC 114 [t28,(.const (.string ⟨#[116,
 114,117,101]⟩))],none⟩,oM 24 29] (.cond t24 (Yr [oO 30 (.build [Yu,z0,nS,nS] [(0,1,(kB 2))]),Ys 4 2 30] .ret) (Yr [oM 32 0,oO 33 (.nilck t32),Ya 34 0 33,Yk 35 34,⟨(some 36),kC 114 [t35,(.const (.string ⟨#[102,
 97,108,115,101]⟩))],none⟩,oM 31 36] (.cond t31 (Yr [oO 37 (.build [Yu,z0,nS,nS] [(0,1,(kB 3))]),Ys 4 2 37] .ret) (Yr [oM 39 0,oO 40 (.nilck t39),Ya 41 0 40,Yk 42 41,⟨(some 43),kC 114 [t42,(.const (.string ⟨#[99,
 111,117,110,116]⟩))],none⟩,oM 38 43] (.cond t38 (Yr [oM 44 0,Yc 45 382 [t44,(kB 5),kT],Ys 4 2 45] .ret) (Yr [oM 47 0,oO 48 (.nilck t47),Ya 49 0 48,Yk 50 49,⟨(some 51),kC 114 [t50,(.const (.string ⟨#[109,
 101,109,98,101,114,115]⟩))],none⟩,oM 46 51] (.cond t46 (Yr [oM 52 0,Yc 53 382 [t52,(kB 6),kF],Ys 4 2 53] .ret) (Yr [oM 55 0,oO 56 (.nilck t55),Ya 57 0 56,Yk 58 57,⟨(some 59),kC 114 [t58,(.const (.string ⟨#[40]⟩))],
 none⟩,oM 54 59] (.cond t54 (Yr [oM 60 0,Yc 61 68 [t60],Yz 4 [Yu,z0,nS,nS],Ys 4 4 61] (Yr [oM 62 0,oO 63 (.nilck t62),Ya 64 0 63,Yk 65 64,⟨(some 66),kC 294 [t65,(.const (.string ⟨#[41]⟩))],none⟩] (Yr [Yl 67 4 4,
 Ys 4 2 67] .ret))) .skip))))))))))) (Yr [oM 68 0,oO 69 (.nilck t68),Ya 70 0 69,Yk 71 70,Yc 72 299 [t71],⟨(some 73),.bslice [(.string ⟨#[]⟩)] 1 [(0,t72)],none⟩,oO 74 (.build [Yu,z0,nS,nS] [(0,1,(kB 4)),
 (2,1,t73)]),Ys 4 2 74] .ret)))))
theorem ok374:Y4 374 75 ir374 [.cell 2 true 4]:=Yf Tryz.func374 Tryz.ntmps374
def ir381:X3:=(Yr [⟨(some 2),.alloc [Yu,(.string ⟨#[]⟩),z0,z0],none⟩] (Yr [oM 4 0,Yc 5 117 [t4],⟨(some 3),.alloc [Yu,(.string ⟨#[]⟩),z0,z0],none⟩,Ys 4 3 5] (sQ (Yr [Ya 6 0 3,Yk 7 6,oO 8 (.bin .neq .num t7 (.const Yu))] (.cond t8 (Yg [oM 9 0,
 oO 10 (.nilck t9),Ya 11 1 10,Yk 12 11,Yo 13 .add t12 k1,oO 14 (.nilck t9),Ya 15 1 14,Ys 1 15 13]) .skip)) (Yr [Yl 16 4 3,Ys 4 2 16] .ret))))
theorem ok381:Y4 381 17 ir381 [.cell 2 true 4]:=Yf Tryz.func381 Tryz.ntmps381
def ir382:X3:=(Yr [Yz 6 [Yu,z0,nS,nS]] (Yr [oM 8 0,oO 9 (.nilck t8),Ya 10 0 9,Yk 11 10,⟨(some 12),kC 294 [t11,(.const (.string ⟨#[40]⟩))],none⟩] (Yr [oM 13 0,oO 14 (.nilck t13),Ya 15 0 14,Yk 16 15,Yc 17 299 [t16],
 ⟨(some 18),.bslice [(.string ⟨#[]⟩)] 1 [(0,t17)],none⟩,oM 7 18] (sQ (.block 0 (.loop (sQ (Yr [oM 19 2,oM 20 19,oT 20 21 (.mov t0),oT 20 22 (.nilck t21),oT 20 23 (.faddr 0 t22),oT 20 24 (.load false 1 t23),
 ⟨(some 25),kC 114 [t24,(.const (.string ⟨#[44]⟩))],(some (20,true))⟩,Ym 26 20 25] (.cond t26 .skip (.exit 0))) (.block 1 (Yg [oM 27 7,oM 28 0,oO 29 (.nilck t28),Ya 30 0 29,Yk 31 30,Yc 32 299 [t31],⟨(some 33),
 .bslice [(.string ⟨#[]⟩)] 1 [(0,t32)],none⟩,⟨(some 34),.append [(.string ⟨#[]⟩)] 16 t27 t33,none⟩,oM 7 34]))))) (Yr [oM 35 0,oO 36 (.nilck t35),Ya 37 0 36,Yk 38 37,⟨(some 39),kC 294 [t38,(.const (.string ⟨#[41]⟩))],
 none⟩] (Yr [oM 40 1,oM 41 7,oO 42 (.build [Yu,z0,nS,nS] [(0,1,t40),(2,1,t41)]),Ys 4 6 42] .ret))))))
theorem ok382:Y4 382 43 ir382 [.cell 6 true 4]:=Yf Tryz.func382 Tryz.ntmps382
end
section
open Go.RowKit
attribute [local irreducible] aw Xj dK
def Xc (l:List Int):List (List PV):=l.map fun x => [.val (.int .i64 x)]
def X8 (l:List Nat):List (List PV):=l.map fun (x:Nat) => [.val (.int .u64 (x:Int))]
def X53 (l:List Nat):PV:=.agg [.vec (X8 l) false]
theorem Z2q {α:Type} (l:List α) (g:α->List PV) (hg:∀ x∈l,Xe (g x)):X2 (l.map g):=by
 refine (Z25 _ _).2 fun p hp=>?_; obtain⟨x,hx,rfl⟩:=Y0i.1 hp; exact hg x hx
theorem Z2V (l:List Nat):(X53 l).pure:=⟨Z2q _ _ fun _ _=>⟨Yt,Yt⟩,Yt⟩
theorem ZA (l:List Nat):X2 (X8 l):=Z2q _ _ fun _ _=>⟨Yt,Yt⟩
def X3V (l:List Nat) (r:PV):Prop:=∃ k,k<=l.length/\(∀ j,k<=j->l.getD j 0=0)/\(k=0 \/ l.getD (k-1) 0≠0)/\r=X53 (l.take k)
theorem Z37 (k:Nat) (h:k<=9223372036854775807):IntKind.i64.wrap (k:Int)=k:=Y0v _ ⟨by omega,by omega⟩
theorem Z28 (l:List Nat):X7 Tryz.prog 48 [.vec (X8 l) false] (X3V l):=by
 refine Yp ok48 fun C hC=>?_;refine Z3m (k:=0) rfl fun hmax=>?_;have hlm:l.length<=Xd:=by simpa [X8] using hmax
 refine Zn ?_;refine Z8 ?_;(refine go ?_;repeat' (apply B<;>intro hb<;>try cases hb));refine Z3U (fun k=>k<=l.length/\∀ j,k<=j->l.getD j 0=0) id (fun k => [(0,.vec (X8 (l.take k)) false),(2,.ptr 0 0 0)]) l.length ⟨Y0m _,fun j hj=>by simp [Y0b,hj]⟩ ⟨by rw [Y0q]; rfl,rfl,Yt⟩ ?_;rintro k ⟨hk,hzero⟩;have hlen:(X8 (l.take k)).length=k:=by simp [X8,hk]
 have hkm:k<=Xd:=by omega
 (refine go ?_;repeat' (apply B<;>intro hb<;>try cases hb))
 . -- the last word
   have hpos:0<k:=by simpa [hlen] using hb
   have hsub:IntKind.i64.wrap (((X8 (l.take k)).length:Int)-1)=((k-1:Nat):Int):=by
    rw [hlen,show (k:Int)-1=((k-1:Nat):Int) by omega]; exact Z37 _ (by simp only [Xd] at hkm;omega)
   refine Z7y (xs:=l.take k) rfl rfl (k-1) hsub (by simp;omega) rfl rfl ?_;have hget : (l.take k)[k - 1]'(by simp;omega) = l.getD (k - 1) 0 := by
    simp [Y0b,show k-1<l.length by omega]
   rw [hget];(refine go ?_;repeat' (apply B<;>intro hb<;>try cases hb))
   . refine ZhM (xs := l.take k) rfl 0 (k - 1) rfl (by show some _ = some _; rw [hsub]) (by omega) (by simp; omega) (fun _ => rfl) rfl ?_;(refine go ?_;repeat' (apply B<;>intro hb<;>try cases hb));refine⟨k-1,⟨by omega,fun j hj=>?_⟩,by simp; omega,rfl,rfl,⟨?_,rfl,Yt⟩⟩
     . by_cases hjk : j = k - 1
       . subst hjk; simpa using hb
       . exact hzero j (by omega)
     . show some (PV.vec (X8 (((l.take k).take (k - 1)).drop 0)) false) = _;rw [Y2D,List.take_take,Y2v (by omega)]
   . refine Z4 rfl (Z2V (l.take k)) ⟨k, hk, hzero, .inr ?_, rfl⟩;intro h0;rw [h0] at hb;simp at hb
 . refine Z4 rfl (Z2V (l.take k)) ⟨k, hk, hzero, .inl ?_, rfl⟩;simpa [hlen] using hb
theorem Z1i (l:List Nat) (k:Nat):X7 Tryz.prog 47 [X53 l,.val (.int .i64 k)] (· = .val (.int .u64 (l.getD k 0:Nat))):=by
 refine Yp ok47 fun C hC=>?_;refine Zn ?_;refine Z8 ?_;refine Z5 rfl rfl rfl ?_;(refine go ?_;repeat' (apply B<;>intro hb<;>try cases hb))
 . have hk : k < l.length := by simpa [X8] using hb
   refine Z7y (xs:=l) rfl rfl k rfl hk rfl rfl ?_;(refine go ?_;repeat' (apply B<;>intro hb<;>try cases hb));exact Z4 rfl Yt (by simp [Y0b,hk])
 . have hk : l.length <= k := by simpa [X8] using hb
   exact Z4 rfl Yt (by simp [Y0b,hk,X2p])
def ofW:List Nat->Nat
 | []=>0
 | x :: r=>x+18446744073709551616*ofW r
def X1o (l:List Nat):Prop:=∀ x∈l,x<18446744073709551616
theorem X1o.getD {l:List Nat} (h:X1o l) (k:Nat):l.getD k 0<18446744073709551616:=by
 rw [Y0b];cases hk:l[k]? with
 | none=>simp
 | some x=>exact h x (Y2M hk)
theorem Z2y:∀ {l:List Nat},X1o l->∀ i,(ofW l).testBit i=(l.getD (i / 64) 0).testBit (i % 64)
 | [],_,i=>by simp [ofW]
 | x :: r, h, i => by
   have hx:x<2 ^ 64:=h x (by simp);have hr:X1o r:=fun y hy=>h y (by simp [hy]);have he:ofW (x :: r)=2 ^ 64*ofW r+x:=by simp only [ofW]; omega
   rw [he,Y1L _ hx];by_cases hi:i<64
   . rw [Y7 hi,Y1y hi,Y1a hi]; rfl
   . rw [Y8 hi, Z2y hr];have h1:i / 64=(i-64) / 64+1:=by omega
     have h2:(i-64) % 64=i % 64:=by omega
     rw [h1,h2]
     rfl
theorem Z5Y:∀ {l:List Nat},(∀ j,l.getD j 0=0)->ofW l=0
 | [],_=>rfl
 | x :: r, h => by
   have h0:x=0:=h 0;have hr:ofW r=0:=Z5Y fun j=>h (j+1);simp [ofW,h0,hr]
theorem ZcT:∀ {l:List Nat} {k:Nat},(∀ j,k<=j->l.getD j 0=0)->ofW (l.take k)=ofW l
 | [],k,_=>by simp
 | x :: r,0,h=>by simp only [Y3x]; exact (Z5Y fun j=>h j (Y0l _)).symm
 | x :: r, k + 1, h => by
   simp only [Y3E,ofW];rw [ZcT (l:=r) (k:=k) fun j hj=>h (j+1) (by omega)]
def Xt (N:Nat):List Nat:=if h:N=0 then [] else N % 18446744073709551616 :: Xt (N / 18446744073709551616)
termination_by N
decreasing_by omega
theorem ZK:Xt 0 = []:=by rw [Xt]; simp
theorem Z2F {N:Nat} (h:N≠0):Xt N=N % 18446744073709551616 :: Xt (N / 18446744073709551616):=by rw [Xt]; simp [h]
theorem Z1Y (N:Nat):X1o (Xt N):=by
 induction N using Nat.strongRecOn with
 | _ N ih =>
   by_cases h:N=0
   . rw [h,ZK]; intro x hx; cases hx
   . rw [Z2F h];intro x hx;rcases Ye.1 hx with rfl|hx
     . omega
     . exact ih _ (by omega) x hx
theorem Z5Z (N:Nat):ofW (Xt N)=N:=by
 induction N using Nat.strongRecOn with
 | _ N ih =>
   by_cases h:N=0
   . rw [h,ZK]; rfl
   . rw [Z2F h,ofW,ih _ (by omega)]; omega
def X4i (l:List Nat):Prop:=l.length=0 \/ l.getD (l.length-1) 0≠0
theorem ZcU:∀ {l:List Nat},X1o l->X4i l->Xt (ofW l)=l
 | [],_,_=>by simp [ofW,ZK]
 | x :: r, h, hc => by
   have hx:x<18446744073709551616:=h x (by simp);have hr:X1o r:=fun y hy=>h y (by simp [hy]);have hcr:X4i r:=by
    cases r with
    | nil=>exact .inl rfl
    | cons y s => refine .inr ?_; rcases hc with hc | hc
                  . simp at hc
                  . simpa using hc
   have ih:=ZcU hr hcr;have hne:ofW (x :: r)≠0:=by
    simp only [ofW];cases r with
    | nil => rcases hc with hc | hc
             . simp at hc
             . simp at hc; simp [ofW]; exact hc
    | cons y s =>
      have:ofW (y :: s)≠0:=fun h0=>by rw [h0,ZK] at ih; cases ih
      omega
   have h1:ofW (x :: r) % 18446744073709551616=x:=by simp only [ofW]; omega
   have h2:ofW (x :: r) / 18446744073709551616=ofW r:=by simp only [ofW]; omega
   rw [Z2F hne,h1,h2,ih]
def XH (N:Nat):PV:=X53 (Xt N)
theorem Z9 (N:Nat):(XH N).pure:=Z2V _
theorem ZcV {l:List Nat} (h:X1o l) (hc:X4i l):X53 l=XH (ofW l):=by rw [XH,ZcU h hc]
theorem X3V.set {l:List Nat} (hl:X1o l) {r:PV} (h:X3V l r):r=XH (ofW l):=by
 obtain⟨k,hk,hz,hn,rfl⟩:=h;rw [<- ZcT hz];refine ZcV (fun x hx=>hl x (Y1w hx)) ?_;rcases hn with rfl|hn
 . exact .inl (by simp)
 . by_cases h0 : k = 0
   . subst h0; exact .inl (by simp)
   . refine .inr ?_;have e:(l.take k).length=k:=by simp [hk]
     rw [e];simpa [Y0b,Y1k,show k-1<k by omega] using hn
theorem Z9G (l:List Nat) (k v:Nat):(X8 l).set k [.val (.int .u64 (v:Int))]=X8 (l.set k v):=by simp [X8,List.map_set]
theorem X1o.set {l:List Nat} (h:X1o l) (k:Nat) {v:Nat} (hv:v<18446744073709551616):X1o (l.set k v):=fun x hx=>by
 rcases Y4n hx with hx|rfl
 . exact h x hx
 . exact hv
theorem Zj4 {l:List Nat} (h:X1o l) {k j:Nat} (hk:k<l.length) (hj:j<64):ofW (l.set k (l.getD k 0 ||| 2 ^ j))=ofW l ||| 2 ^ (64*k+j):=by
 have hv:l.getD k 0 ||| 2 ^ j<18446744073709551616:=Y1h (n:=64) (h.getD k) (Y14 (by omega) hj)
 refine YB fun i=>?_;rw [Z2y (h.set k hv),Y00,Z2y h,YJ];by_cases hik:i / 64=k
 . subst hik;have:(l.set (i / 64) (l.getD (i / 64) 0 ||| 2 ^ j)).getD (i / 64) 0=l.getD (i / 64) 0 ||| 2 ^ j:=by simp [Y0b,hk]
   rw [this,Y00,YJ];congr 1;rw [Y2n];omega
 . have : (l.set k (l.getD k 0 ||| 2 ^ j)).getD (i / 64) 0 = l.getD (i / 64) 0 := by
    simp only [Y0b,Y1o,Y8 (Y2t hik)]
   rw [this];have:¬ (64*k+j=i):=by omega
   simp [this]
def XS (top:Int) (l:List Int):Nat:=l.foldl (fun acc i=>if 0<=i/\i<=top then acc ||| 2 ^ i.toNat else acc) 0
def XR (l:List Int):Int:=l.foldl (fun t i=>if i<=4095 then (if i>t then i else t) else t) (-1)
theorem Z7C {l:List Int} {i:Nat} (hi:i<l.length):XR (l.take (i+1))=if l[i]<=4095 then (if l[i]>XR (l.take i) then l[i] else XR (l.take i)) else XR (l.take i):=by
 simp only [XR,YI,Y0c hi,Option.toList_some,Y2C,Y1d,List.foldl_nil]
 rfl
theorem topOf_take' {l:List Int} {i:Nat} (hi:i<l.length) (h:l[i]<=4095):XR (l.take (i+1))=if l[i]>XR (l.take i) then l[i] else XR (l.take i):=by rw [Z7C hi,Y7 h]
theorem Zbk {l:List Int} {i:Nat} (hi:i<l.length) (h:¬ l[i]<=4095):XR (l.take (i+1))=XR (l.take i):=by rw [Z7C hi,Y8 h]
theorem Z6n {t:Int} {l:List Int} {i:Nat} (hi:i<l.length):XS t (l.take (i+1))=if 0<=l[i]/\l[i]<=t then XS t (l.take i) ||| 2 ^ l[i].toNat else XS t (l.take i):=by
 simp only [XS,YI,Y0c hi,Option.toList_some,Y2C,Y1d,List.foldl_nil]
theorem Zbl:∀ (l:List Int),-1<=XR l/\XR l<=4095:=by
 intro l;have:∀ (l:List Int) (t:Int),-1<=t->t<=4095 -> -1<=l.foldl (fun t i=>if i<=4095 then (if i>t then i else t) else t) t/\l.foldl (fun t i=>if i<=4095 then (if i>t then i else t) else t) t<=4095:=by
  intro l
  induction l with
  | nil=>intro t h1 h2; exact⟨h1,h2⟩
  | cons x r ih =>
    intro t h1 h2;simp only [Y1d];refine ih _ ?_ ?_
    . split
      . split<;>omega
      . exact h1
    . split
      . split<;>omega
      . exact h2
 exact this l (-1) (by omega) (by omega)
theorem ZdT {t:Int} {l:List Int} (h:t<0):XS t l=0:=by
 have:∀ (l:List Int) (a:Nat),l.foldl (fun acc i=>if 0<=i/\i<=t then acc ||| 2 ^ i.toNat else acc) a=a:=by
  intro l
  induction l with
  | nil=>intro a; rfl
  | cons x r ih=>intro a; simp only [Y1d]; rw [Y8 (by omega)]; exact ih a
 exact this l 0
theorem Zf (l:List Int):X2 (Xc l):=Z2q _ _ fun _ _=>⟨Yt,Yt⟩
theorem ZU (l:List Int) (D:Nat->Prop):XG D (Xc l):=Zc (fun _ h=>h.elim) _ (Zf l)
theorem Z1b (l:List Nat) (D:Nat->Prop):XG D (X8 l):=Zc (fun _ h=>h.elim) _ (ZA l)
theorem Zbm (l:List Int) (fl:Bool):X7 Tryz.prog 24 [.vec (Xc l) fl] (· = XH (XS (XR l) l)):=by
 refine Yp ok24 fun C hC=>?_;refine Z3m (k:=0) rfl fun hmax=>?_;have hlm:l.length<=Xd:=by simpa [Xc] using hmax
 have hnl:(Xc l).length=l.length:=by simp [Xc]
 (refine go ?_;repeat' (apply B<;>intro hb<;>try cases hb));refine Z3U (fun i=>i<=l.length) (fun i=>l.length-i) (fun i => [(0,.vec (Xc l) fl),(2,.ptr 0 0 0),(3,.val (.int .i64 (XR (l.take i)))),(9,.vec (Xc l) fl),(10,.val (.int .i64 (l.length:Int))),(11,Yv i)]) 0 (Y0l _) ⟨rfl,rfl,rfl,rfl,by rw [<- hnl]; rfl,rfl,Yt⟩ ?_;intro i hi;have hinc:IntKind.i64.wrap ((i:Int)+1)=((i+1:Nat):Int):=Y0v _ ⟨by omega,by simp only [Xd] at hlm; omega⟩;(refine go ?_;repeat' (apply B<;>intro hb<;>try cases hb))
 . have hil : i < l.length := by simpa using hb
   refine Qo (Zk (xs:=l) rfl rfl i rfl hil rfl) ?_;(refine go ?_;repeat' (apply B<;>intro hb<;>try cases hb))
   . refine ⟨i + 1, by omega, by omega, rfl, rfl, ⟨rfl, rfl, ?_, rfl, rfl, by show some _ = some _; rw [hinc], Yt⟩⟩;rw [topOf_take' hil (by simpa using hb)]; rfl
   . refine ⟨i + 1, by omega, by omega, rfl, rfl, ⟨rfl, rfl, ?_, rfl, rfl, by show some _ = some _; rw [hinc], Yt⟩⟩;rw [Zbk hil (by simpa using hb)]; rfl
 . -- no member
   rename_i hb2;have hil:i=l.length:=by simp at hb2; omega
   subst hil;refine Z8o rfl ⟨Yt,Yt⟩ ?_;rw [Y0q] at hb;have hlt:XR l<0:=by simpa using hb
   rw [ZdT hlt,XH,ZK]
   rfl
 . rename_i hb2;have hil:i=l.length:=by simp at hb2; omega
   subst hil;rw [Y0q] at hb ⊢;have hge:0<=XR l:=by simpa using hb
   obtain⟨t,ht⟩:∃ t:Nat,XR l=t:=⟨(XR l).toNat,by omega⟩
   have htr:=(Zbl l).2;rw [ht] at htr ⊢;have hq:IntKind.i64.wrap ((t:Int).tdiv 64)=((t / 64:Nat):Int):=by
    rw [Y2y _ _ ⟨by omega,by omega,by omega⟩]; omega
   have hq1:IntKind.i64.wrap (((t / 64:Nat):Int)+1)=((t / 64+1:Nat):Int):=Y0v _ ⟨by omega,by omega⟩;rw [hq,hq1];refine ZB (Z4E (a:=t / 64+1) (b:=t / 64+1) rfl rfl (Y0m _) (by omega)) rfl rfl ?_;have hrep:List.replicate (t / 64+1) (zpv [Value.int .u64 0])=X8 (List.replicate (t / 64+1) 0):=by simp [X8,zpv,X2p]
   rw [hrep];(refine go ?_;repeat' (apply B<;>intro hb<;>try cases hb));refine Zv hC (fun (x:Nat×List Nat)=>x.1<=l.length/\x.2.length=t / 64+1/\X1o x.2/\ofW x.2=XS t (l.take x.1)) (fun x=>l.length-x.1) 2 (fun x => [(2,.ptr 0 0 0),(3,.val (.int .i64 (t:Int))),(6,.own 1),(28,.vec (Xc l) fl),(29,.val (.int .i64 (l.length:Int))),(30,.val (.int .i64 (x.1:Int)))])
    (fun x => [(0,⟨1,[[.vec [] true]]⟩),(1,⟨1,X8 x.2⟩)]) (by omega) (0,List.replicate (t / 64+1) 0) ⟨Y0l _,by simp,fun x hx=>by obtain rfl:=Y22 hx; omega,?_⟩ ⟨⟨rfl,show (0:Nat)<2 by decide⟩,⟨rfl,Yt⟩,⟨rfl,show (1:Nat)<2 by decide⟩,⟨rfl,ZU _ _⟩,⟨by rw [<- hnl]; rfl,Yt⟩,⟨rfl,Yt⟩,Yt⟩
    ⟨⟨by omega,rfl,⟨Yt,Yt⟩,Yt⟩,⟨by omega,rfl,Z1b _ _⟩,Yt⟩ ?_
   . rw [Z5Y fun j=>by simp [Y0b,Y2x]; split<;>rfl]; rfl
   rintro⟨i,ws⟩ ⟨hi,hwl,hww,hmask⟩;simp only at hi hwl hww hmask;have hinc:IntKind.i64.wrap ((i:Int)+1)=((i+1:Nat):Int):=Y0v _ ⟨by omega,by simp only [Xd] at hlm; omega⟩;(refine go ?_;repeat' (apply B<;>intro hb<;>try cases hb))
   . have hil : i < l.length := by simpa using hb
     refine Qo (Zk (xs:=l) rfl rfl i rfl hil rfl) ?_;(refine go ?_;repeat' (apply B<;>intro hb<;>try cases hb))
     . have h0 : 0 <= l[i] := by rename_i h0; simpa using h0
       have h1:l[i]<=(t:Int):=by simpa using hb
       have hm:XS t (l.take (i+1))=XS t (l.take i) ||| 2 ^ l[i].toNat:=by rw [Z6n hil,Y7 ⟨h0,h1⟩]
       obtain⟨j,hj⟩:∃ j:Nat,l[i]=j:=⟨l[i].toNat,by omega⟩
       rw [hj] at h1 hm ⊢;rw [YY] at hm;have hjq:IntKind.i64.wrap ((j:Int).tdiv 64)=((j / 64:Nat):Int):=by
        rw [Y2y _ _ ⟨by omega,by omega,by omega⟩]; omega
       have hjr:(j:Int).tmod 64=((j % 64:Nat):Int):=by
        rw [Y12 (by omega)]; omega
       rw [hjq];have hjl:j / 64<ws.length:=by omega
       have hel:(X8 ws).getD (j / 64) [] = [.val (.int .u64 (ws.getD (j / 64) 0:Nat))]:=by simp [X8,Y0b,hjl]
       have hj64:j % 64<64:=Y28 _ (by omega);have hwn:(X8 ws).length=ws.length:=by simp [X8]
       refine Qr (Z1d rfl rfl rfl (j / 64) rfl (by rw [hwn]; exact hjl) rfl) ?_;refine Qr (Z4F rfl rfl (by rw [hwn]; exact hjl) (by rw [hel]; rfl)) ?_;(first|refine st ?_|(apply B<;>intro hb<;>try cases hb));refine Qr (Z2N rfl hjr) ?_
       refine Qr (ZfF rfl rfl (by omega) (v:=((2 ^ (j % 64):Nat):Int)) (by
        rw [show min (((j % 64:Nat):Int)).toNat IntKind.u64.bits=j % 64 by simp [IntKind.bits]; omega];have:2 ^ (j % 64)<2 ^ 64:=Y14 (by omega) hj64;rw [Y3J,show (2:Int) ^ (j % 64)=((2 ^ (j % 64):Nat):Int) by simp]
        exact Y0x _ ⟨Y1U _,Y2I.2 (show _<=18446744073709551615 by omega)⟩)) ?_
       refine Qr (Z2N rfl (Y2S _ _ (hww.getD _) (show 2 ^ (j % 64)<2 ^ 64 from Y14 (by omega) hj64))) ?_;refine Qr (Z1d rfl rfl rfl (j / 64) rfl (by rw [hwn]; exact hjl) rfl) ?_;refine Qr (Z3s rfl rfl rfl rfl rfl (by rw [hwn]; exact hjl) (Y0m _)) ?_;rw [hel,show XK [PV.val (Value.int .u64 (ws.getD (j / 64) 0:Nat))] 0 (PV.val (Value.int .u64 ((ws.getD (j / 64) 0 ||| 2 ^ (j % 64):Nat):Int))).cells = [.val (.int .u64 ((ws.getD (j / 64) 0 ||| 2 ^ (j % 64):Nat):Int))] from rfl];simp only;rw [Z9G];(refine go ?_;repeat' (apply B<;>intro hb<;>try cases hb));refine⟨(i+1,ws.set (j / 64) (ws.getD (j / 64) 0 ||| 2 ^ (j % 64))),⟨by simp only; omega,by simpa using hwl,hww.set _ (Y1h (n:=64) (hww.getD _) (Y14 (a:=2) (by omega) hj64)),?_⟩,by simp only; omega,⟨⟨rfl,show (0:Nat)<2 by decide⟩,⟨rfl,Yt⟩,⟨rfl,show (1:Nat)<2 by decide⟩,⟨rfl,ZU _ _⟩,⟨rfl,Yt⟩,⟨by show some _=some _; rw [hinc],Yt⟩,Yt⟩,⟨⟨by omega,rfl,⟨Yt,Yt⟩,Yt⟩,⟨by omega,rfl,Z1b _ _⟩,Yt⟩⟩;simp only;rw [Zj4 hww hjl hj64,hm,hmask,show 64*(j / 64)+j % 64=j by omega]
     all_goals
      refine⟨(i+1,ws),⟨by simp only; omega,hwl,hww,?_⟩,by simp only; omega,⟨⟨rfl,show (0:Nat)<2 by decide⟩,⟨rfl,Yt⟩,⟨rfl,show (1:Nat)<2 by decide⟩,⟨rfl,ZU _ _⟩,⟨rfl,Yt⟩,⟨by show some _=some _; rw [hinc],Yt⟩,Yt⟩,⟨⟨by omega,rfl,⟨Yt,Yt⟩,Yt⟩,⟨by omega,rfl,Z1b _ _⟩,Yt⟩⟩;simp only;rw [Z6n hil,Y8 (by simp at hb;omega)];exact hmask
   . have hil : i = l.length := by simp at hb; omega
     subst hil;refine Zm (Zo (k:=52) rfl rfl (ZA ws)) ?_;refine Z13 rfl rfl (Z28 ws) ⟨ZA ws,Yt⟩ rfl fun r hr=>?_;obtain rfl:=hr.set hww;(refine go ?_;repeat' (apply B<;>intro hb<;>try cases hb));exact Z4 (r:=XH (ofW ws)) rfl (Z9 _) (by rw [hmask,Y0q])
theorem Z38 (a k:Nat):Int.fdiv (a:Int) (2 ^ k)=((a / 2 ^ k:Nat):Int):=by
 rw [Y4j _ (by exact Int.le_of_lt (Int.pow_pos (by omega)))];simp
theorem ZcW (l:List Nat) (hl:X1o l) (i:Int):X7 Tryz.prog 42 [X53 l,.val (.int .i64 i)] (· = .val (.bool (decide (0<=i/\i<=4095)&&(l.getD (i.toNat / 64) 0).testBit (i.toNat % 64)))):=by
 refine Yp ok42 fun C hC=>?_;refine Zn ?_;refine Z8 ?_;refine Z5 rfl rfl rfl ?_;(refine go ?_;repeat' (apply B<;>intro hb<;>try cases hb))
 . rename_i h0;have h1:0<=i:=by simpa using h0
   have h2:i<=4095:=by simpa using hb
   obtain⟨j,rfl⟩:∃ j:Nat,i=j:=⟨i.toNat,by omega⟩
   have hq:IntKind.i64.wrap ((j:Int).tdiv 64)=((j / 64:Nat):Int):=by
    rw [Y2y _ _ ⟨by omega,by omega,by omega⟩]; omega
   have hr:(j:Int).tmod 64=((j % 64:Nat):Int):=by
    rw [Y12 (by omega)]; omega
   refine Z6 (Z1i l (j / 64)) rfl rfl (by show [_,_]=_; rw [hq]; rfl) ⟨Z2V l,Yt,Yt⟩ rfl ?_;refine Zj rfl ?_;(first|refine st ?_|(apply B<;>intro hb<;>try cases hb));refine Zj rfl ?_;refine Ze rfl rfl rfl hr ?_;refine Zj rfl ?_;have hw:=hl.getD (j / 64);have hm:j % 64<64:=Y28 _ (by omega)
   refine ZhL rfl rfl (by omega) (v:=((l.getD (j / 64) 0 / 2 ^ (j % 64):Nat):Int)) (by
    rw [show min (((j % 64:Nat):Int)).toNat IntKind.u64.bits=j % 64 by simp [IntKind.bits]; omega]
    exact Z38 _ _) rfl ?_
   refine Zj rfl ?_
   refine Ze rfl rfl rfl (and_one_u64 _ (Y1U _) (by
    have:=Nat.div_le_self (l.getD (j / 64) 0) (2 ^ (j % 64))
    exact Y2I.2 (show _<=18446744073709551615 by omega))) ?_
   have ht:(((l.getD (j / 64) 0 / 2 ^ (j % 64):Nat):Int) % 2 == 1)=(l.getD (j / 64) 0).testBit (j % 64):=by
    rw [Y2A,YS];generalize l.getD (j / 64) 0 / 2 ^ (j % 64)=z;simp only [Y1s,Y0n];omega
   have ht':(decide (0<=(j:Int)/\(j:Int)<=4095)&&(l.getD ((j:Int).toNat / 64) 0).testBit ((j:Int).toNat % 64))=(l.getD (j / 64) 0).testBit (j % 64):=by
    simp only [YY,YF (show 0<=(j:Int)/\(j:Int)<=4095 from ⟨h1,h2⟩),Y19]
   rw [ht',<- ht];refine Zj rfl ?_;generalize (((l.getD (j / 64) 0 / 2 ^ (j % 64):Nat):Int) % 2)=z;(refine go ?_;repeat' (apply B<;>intro hb<;>try cases hb))
   all_goals exact Z4 rfl Yt (by rw [hb])
 . exact Z4 rfl Yt (by simp at hb ⊢;omega)
 . exact Z4 rfl Yt (by simp at hb ⊢;omega)
def X1c:Nat->Nat->Nat
 | 0,_=>0
 | k+1,x=>x % 2+X1c k (x / 2)
theorem ZcX:∀ (j k x:Nat),X1c (j+k) x=X1c j x+X1c k (x / 2 ^ j)
 | 0,k,x=>by simp [X1c]
 | j + 1, k, x => by
   rw [show j+1+k=(j+k)+1 by omega];simp only [X1c];rw [ZcX j k,Y1e,YU,Y1t 2];omega
theorem ZcY:∀ (j x:Nat),X1c j (x % 2 ^ j)=X1c j x
 | 0,x=>rfl
 | j + 1, x => by
   simp only [X1c];have h1:x % 2 ^ (j+1) % 2=x % 2:=Nat.mod_mod_of_dvd _ ⟨2 ^ j,by rw [YU,Y1t]⟩;have h2:x % 2 ^ (j+1) / 2=x / 2 % 2 ^ j:=by rw [YU,Y1t,Nat.mod_mul_right_div_self]
   rw [h1,h2,ZcY]
theorem Z3u (a y c m:Nat) (ha:a<256) (hc:c<256):(a+256*y) &&& (c+256*m)=(a &&& c)+256*(y &&& m):=by
 have e1:a+256*y=2 ^ 8*y+a:=by omega
 have e2:c+256*m=2 ^ 8*m+c:=by omega
 have hac:a &&& c<2 ^ 8:=Nat.and_lt_two_pow _ (by omega);rw [e1,e2,show (a &&& c)+256*(y &&& m)=2 ^ 8*(y &&& m)+(a &&& c) by omega];refine YB fun i=>?_;rw [Y0z,Y1L _ (by omega:a<2 ^ 8),Y1L _ (by omega:c<2 ^ 8),Y1L _ hac];by_cases hi:i<8
 . rw [Y7 hi,Y7 hi,Y7 hi,Y0z]
 . rw [Y8 hi,Y8 hi,Y8 hi,Y0z]
def rep (c:Nat):Nat->Nat
 | 0=>0
 | n+1=>c+256*rep c n
def s1 (m x:Nat):Nat:=(x / 2 &&& m)+(x &&& m)
def s2 (m x:Nat):Nat:=(x / 4 &&& m)+(x &&& m)
def s3 (m x:Nat):Nat:=(x / 16+x) &&& m
theorem Zju (a b:Nat) (ha:a<256) (hb:b<2):(a / 2+128*b) &&& 85=a / 2 &&& 85:=by
 have:∀ b:Fin 2,∀ a:Fin 256,(a.1 / 2+128*b.1) &&& 85=a.1 / 2 &&& 85:=by decide +kernel
 exact this ⟨b,hb⟩ ⟨a,ha⟩
theorem Zjv (a b:Nat) (ha:a<256) (hb:b<4):(a / 4+64*b) &&& 51=a / 4 &&& 51:=by
 have:∀ b:Fin 4,∀ a:Fin 256,(a.1 / 4+64*b.1) &&& 51=a.1 / 4 &&& 51:=by decide +kernel
 exact this ⟨b,hb⟩ ⟨a,ha⟩
theorem Zjw (n a y:Nat) (ha:a<256):s1 (rep 85 (n+1)) (a+256*y)=s1 85 a+256*s1 (rep 85 n) y:=by
 have h1:(a+256*y) / 2=(a / 2+128*(y % 2))+256*(y / 2):=by omega
 simp only [s1,rep];rw [h1,Z3u _ _ _ _ (by omega) (by omega),Z3u _ _ _ _ ha (by omega),Zju a _ ha (Y28 _ (by omega))];omega
theorem Zjx (n a y:Nat) (ha:a<256):s2 (rep 51 (n+1)) (a+256*y)=s2 51 a+256*s2 (rep 51 n) y:=by
 have h1:(a+256*y) / 4=(a / 4+64*(y % 4))+256*(y / 4):=by omega
 simp only [s2,rep];rw [h1,Z3u _ _ _ _ (by omega) (by omega),Z3u _ _ _ _ ha (by omega),Zjv a _ ha (Y28 _ (by omega))];omega
theorem Z6o:∀ a:Fin 256,s1 85 a.1<256/\s2 51 (s1 85 a.1)<256/\s2 51 (s1 85 a.1) % 16<=4/\s2 51 (s1 85 a.1) / 16<=4/\s3 15 (s2 51 (s1 85 a.1))=X1c 8 a.1/\X1c 8 a.1<=8:=by decide +kernel
theorem Zjy (n a y:Nat) (ha:a % 16<=4) (ha':a / 16<=4) (hy:y % 16<=4):s3 (rep 15 (n+1)) (a+256*y)=s3 15 a+256*s3 (rep 15 n) y:=by
 have h1:(a+256*y) / 16+(a+256*y)=(a / 16+a+16*(y % 16))+256*(y / 16+y):=by omega
 simp only [s3,rep];rw [h1,Z3u _ _ _ _ (by omega) (by omega)];congr 1;rw [show (15:Nat)=2 ^ 4-1 from rfl,Y2G,Y2G];omega
def X5b:Nat->Nat->Nat
 | 0,_=>0
 | n+1,x=>X1c 8 (x % 256)+256*X5b n (x / 256)
theorem X7b:∀ (n x:Nat),x<256 ^ n->s2 (rep 51 n) (s1 (rep 85 n) x) % 16<=4/\s3 (rep 15 n) (s2 (rep 51 n) (s1 (rep 85 n) x))=X5b n x
 | 0, x, hx => by
   obtain rfl:x=0:=by simpa using hx
   decide
 | n + 1, x, hx => by
   have hx':x / 256<256 ^ n:=by rw [YU] at hx; omega
   obtain⟨h1,h2⟩:=X7b n (x / 256) hx';have hm:x % 256<256:=Y28 _ (by omega);obtain⟨b1,b2,b3,b4,b5,_⟩:=Z6o ⟨x % 256,hm⟩;simp only at b1 b2 b3 b4 b5;have ex:x=x % 256+256*(x / 256):=by omega
   have e1:s1 (rep 85 (n+1)) x=s1 85 (x % 256)+256*s1 (rep 85 n) (x / 256):=by
    conv=>lhs; rw [ex]
    exact Zjw n _ _ hm
   rw [e1,Zjx n _ _ b1];refine⟨by omega,?_⟩;rw [Zjy n _ _ b3 b4 h1,b5,h2]
   rfl
def X2v:List Nat->Nat
 | []=>0
 | a :: r=>a+256*X2v r
theorem Z8p {a:Nat} {r:List Nat} (h:a<256):X2v (a :: r) / 256=X2v r:=by simp only [X2v]; omega
theorem Z6p {a b:Nat} {r:List Nat} (h:a<256) (h':b<256):X2v (a :: b :: r) / 65536=X2v r:=by
 rw [show 65536=256*256 from rfl,<- Y1e,Z8p h,Z8p h']
theorem ZfM {a b c d:Nat} {r:List Nat} (h:a<256) (h':b<256) (h2:c<256) (h3:d<256):X2v (a :: b :: c :: d :: r) / 4294967296=X2v r:=by
 rw [show 4294967296=65536*65536 from rfl,<- Y1e,Z6p h h',Z6p h2 h3]
theorem X6Q {a b c d e f g i:Nat} (ha:a<=8):X2v [a,b,c,d,e,f,g,i]+X2v [a,b,c,d,e,f,g,i] / 256=X2v [a+b,b+c,c+d,d+e,e+f,f+g,g+i,i]:=by
 rw [Z8p (by omega)]; simp only [X2v]; omega
theorem X6O {a b c d e f g i:Nat} (ha:a<=16) (hb:b<=16):X2v [a,b,c,d,e,f,g,i]+X2v [a,b,c,d,e,f,g,i] / 65536=X2v [a+c,b+d,c+e,d+f,e+g,f+i,g,i]:=by
 rw [Z6p (by omega) (by omega)]; simp only [X2v]; omega
theorem X6I {a b c d e f g i:Nat} (ha:a<=32) (hb:b<=32) (hc:c<=32) (hd:d<=32):X2v [a,b,c,d,e,f,g,i]+X2v [a,b,c,d,e,f,g,i] / 4294967296=X2v [a+e,b+f,c+g,d+i,e,f,g,i]:=by
 rw [ZfM (by omega) (by omega) (by omega) (by omega)]; simp only [X2v]; omega
theorem Z29 {a m B:Nat} {r:List Nat} (h:a<=m) (hr:X2v r<=B):X2v (a :: r)<=m+256*B:=by simp only [X2v]; omega
theorem Z5j {a b c d e f g i:Nat} (h1:a<=64) (h2:b<=64) (h3:c<=64) (h4:d<=64) (h5:e<=64) (h6:f<=64) (h7:g<=64) (h8:i<=64):X2v [a,b,c,d,e,f,g,i]<9223372036854775808 :=
 Y02 (Z29 h1 (Z29 h2 (Z29 h3 (Z29 h4 (Z29 h5 (Z29 h6 (Z29 h7 (Z29 h8 (Y0m _))))))))) (by decide)
def X2x (x i:Nat):Nat:=X1c 8 (x / 256 ^ i % 256)
theorem Z3v (x i:Nat):X2x x i<=8:=by
 obtain⟨_,_,_,_,_,b⟩:=Z6o ⟨x / 256 ^ i % 256,Y28 _ (by omega)⟩;exact b
theorem ZhS (x:Nat):X5b 8 x=X2v [X2x x 0,X2x x 1,X2x x 2,X2x x 3,X2x x 4,X2x x 5,X2x x 6,X2x x 7]:=by
 simp only [X5b,X2v,X2x,Y1e];simp only [Nat.reduceMul,Nat.reducePow,Y3X,Y4e]
theorem ZdU (x:Nat):X1c 64 x=X2x x 0+X2x x 1+X2x x 2+X2x x 3+X2x x 4+X2x x 5+X2x x 6+X2x x 7:=by
 have h:∀ n y,X1c (8+n) y=X1c 8 (y % 256)+X1c n (y / 256):=fun n y=>by
  rw [ZcX,show (256:Nat)=2 ^ 8 from rfl,ZcY]
 rw [show 64=8+(8+(8+(8+(8+(8+(8+(8+0))))))) from rfl];simp only [h,Y1e];simp only [X2x,Nat.reduceMul,Nat.reducePow,Y3X,Y4e];simp only [X1c];omega
theorem ZhT (x:Nat):∃ y z u:Nat,X5b 8 x+X5b 8 x / 256=y/\y+y / 65536=z/\z+z / 4294967296=u/\y<9223372036854775808/\z<9223372036854775808/\u<9223372036854775808/\u % 128=X1c 64 x:=by
 have h0:=Z3v x 0;have h1:=Z3v x 1;have h2:=Z3v x 2;have h3:=Z3v x 3;have h4:=Z3v x 4;have h5:=Z3v x 5;have h6:=Z3v x 6;have h7:=Z3v x 7;rw [ZdU,ZhS];generalize X2x x 0=a at *;generalize X2x x 1=b at *;generalize X2x x 2=c at *;generalize X2x x 3=d at *;generalize X2x x 4=e at *;generalize X2x x 5=f at *;generalize X2x x 6=g at *;generalize X2x x 7=i at *;refine⟨_,_,_,rfl,rfl,rfl,?_⟩;rw [X6Q h0,X6O (by omega) (by omega),X6I (by omega) (by omega) (by omega) (by omega)];refine⟨?_,?_,?_,?_⟩
 . exact Z5j (by omega) (by omega) (by omega) (by omega) (by omega) (by omega) (by omega) (by omega)
 . exact Z5j (by omega) (by omega) (by omega) (by omega) (by omega) (by omega) (by omega) (by omega)
 . exact Z5j (by omega) (by omega) (by omega) (by omega) (by omega) (by omega) (by omega) (by omega)
 . simp only [X2v]; omega
theorem X6C:rep 85 8=6148914691236517205:=rfl
theorem X5M:rep 51 8=3689348814741910323:=rfl
theorem w64 (k:Nat) (h:k<18446744073709551616):IntKind.u64.wrap (k:Int)=k:=Y0x _ ⟨by omega,by omega⟩
theorem X6s (x:Nat) (hx:x<18446744073709551616):IntKind.u64.wrap (bits .and .u64 (Int.fdiv (x:Int) (2 ^ (min (1:Int).toNat IntKind.u64.bits))) 6148914691236517205+bits .and .u64 (x:Int) 6148914691236517205)=((s1 (rep 85 8) x:Nat):Int)/\s1 (rep 85 8) x<18446744073709551616:=by
 have e1:Int.fdiv (x:Int) (2 ^ (min (1:Int).toNat IntKind.u64.bits))=((x / 2:Nat):Int):=Z38 x 1;have b1:=Y1Q (x / 2) 6148914691236517205 (by omega) (by omega);have b2:=Y1Q x 6148914691236517205 hx (by omega);have h1:x / 2 &&& 6148914691236517205<=6148914691236517205:=Y1T;have h2:x &&& 6148914691236517205<=6148914691236517205:=Y1T;have hlt:s1 (rep 85 8) x<18446744073709551616:=by rw [X6C,s1]; omega
 refine⟨?_,hlt⟩;rw [e1];refine (congrArg IntKind.u64.wrap (congr (congrArg (· + ·) b1) b2)).trans ?_;rw [<- Y2X];exact w64 _ hlt
theorem X71 (x:Nat) (hx:x<18446744073709551616):IntKind.u64.wrap (bits .and .u64 (Int.fdiv (x:Int) (2 ^ (min (2:Int).toNat IntKind.u64.bits))) 3689348814741910323+bits .and .u64 (x:Int) 3689348814741910323)=((s2 (rep 51 8) x:Nat):Int)/\s2 (rep 51 8) x<18446744073709551616:=by
 have e1:Int.fdiv (x:Int) (2 ^ (min (2:Int).toNat IntKind.u64.bits))=((x / 4:Nat):Int):=Z38 x 2;have b1:=Y1Q (x / 4) 3689348814741910323 (by omega) (by omega);have b2:=Y1Q x 3689348814741910323 hx (by omega);have h1:x / 4 &&& 3689348814741910323<=3689348814741910323:=Y1T;have h2:x &&& 3689348814741910323<=3689348814741910323:=Y1T;have hlt:s2 (rep 51 8) x<18446744073709551616:=by rw [X5M,s2]; omega
 refine⟨?_,hlt⟩;rw [e1];refine (congrArg IntKind.u64.wrap (congr (congrArg (· + ·) b1) b2)).trans ?_;rw [<- Y2X];exact w64 _ hlt
theorem X70 (x:Nat) (hx:x<9223372036854775808):bits .and .u64 (IntKind.u64.wrap (Int.fdiv (x:Int) (2 ^ (min (4:Int).toNat IntKind.u64.bits))+(x:Int))) 1085102592571150095=((s3 (rep 15 8) x:Nat):Int):=by
 have e1:Int.fdiv (x:Int) (2 ^ (min (4:Int).toNat IntKind.u64.bits))=((x / 16:Nat):Int):=Z38 x 4;rw [e1,<- Y2X,w64 _ (by omega)];exact Y1Q (x / 16+x) 1085102592571150095 (by omega) (by omega)
theorem X4y (x k y:Nat) (kk:Int) (hk:min kk.toNat IntKind.u64.bits=k) (hy:x+x / 2 ^ k=y) (hlt:y<9223372036854775808):IntKind.u64.wrap ((x:Int)+Int.fdiv (x:Int) (2 ^ (min kk.toNat IntKind.u64.bits)))=((y:Nat):Int):=by
 rw [hk,Z38 x k,<- Y2X,hy];exact w64 _ (by omega)
theorem X5Z (x:Nat) (hx:x<9223372036854775808):bits .and .i64 (IntKind.i64.wrap (x:Int)) 127=((x % 128:Nat):Int):=by
 have h1:(BitVec.ofInt 64 (x:Int)).toNat=x:=by
  rw [Y1p,Y1v]; exact Y1a (by omega)
 have h2:(BitVec.ofInt 64 (127:Int)).toNat=127:=rfl;rw [Y0v _ ⟨by omega,by omega⟩];show IntKind.i64.wrap ((BitVec.ofInt 64 (x:Int) &&& BitVec.ofInt 64 (127:Int)).toNat:Int)=_;rw [Y3k,h1,h2,show (127:Nat)=2 ^ 7-1 from rfl,Y2G];exact Y0v _ ⟨by omega,by omega⟩
theorem ZfN (x:Nat) (hx:x<18446744073709551616):X7 Tryz.prog 128 [.val (.int .u64 (x:Int))] (· = .val (.int .i64 (X1c 64 x:Nat))):=by
 refine Yp ok128 fun C hC=>?_;obtain⟨a1,l1⟩:=X6s x hx;obtain⟨a2,l2⟩:=X71 _ l1;obtain⟨_,b3⟩:=X7b 8 x (by rw [show (256:Nat) ^ 8=18446744073709551616 from rfl]; exact hx);have l3:s2 (rep 51 8) (s1 (rep 85 8) x)<9223372036854775808:=by
  have h1:s1 (rep 85 8) x / 4 &&& rep 51 8<=rep 51 8:=Y1T;have h2:s1 (rep 85 8) x &&& rep 51 8<=rep 51 8:=Y1T;rw [s2];rw [X5M] at *;omega
 have a3:=X70 _ l3;rw [b3] at a3;obtain⟨y,z,u,f1,f2,f3,g1,g2,g3,g4⟩:=ZhT x;have a4:=X4y (X5b 8 x) 8 y 8 rfl f1 g1;have a5:=X4y y 16 z 16 rfl f2 g2;have a6:=X4y z 32 u 32 rfl f3 g3;have a7:=X5Z u g3;rw [g4] at a7
 iterate 11 (first|refine st ?_|(apply B<;>intro hb<;>try cases hb))
 refine Ze rfl rfl rfl a1 ?_
 iterate 9 (first|refine st ?_|(apply B<;>intro hb<;>try cases hb))
 refine Ze rfl rfl rfl a2 ?_
 iterate 8 (first|refine st ?_|(apply B<;>intro hb<;>try cases hb))
 refine Ze rfl rfl rfl a3 ?_
 iterate 7 (first|refine st ?_|(apply B<;>intro hb<;>try cases hb))
 refine Ze rfl rfl rfl a4 ?_
 iterate 7 (first|refine st ?_|(apply B<;>intro hb<;>try cases hb))
 refine Ze rfl rfl rfl a5 ?_
 iterate 7 (first|refine st ?_|(apply B<;>intro hb<;>try cases hb))
 refine Ze rfl rfl rfl a6 ?_
 iterate 6 (first|refine st ?_|(apply B<;>intro hb<;>try cases hb))
 refine Ze rfl rfl rfl a7 ?_;refine go ?_;exact Z4 rfl Yt rfl
inductive Fm where
 | mk (op n:Int) (roles:List Int) (args:List Fm)
def Fm.op:Fm->Int | .mk op _ _ _=>op
def Fm.n:Fm->Int | .mk _ n _ _=>n
def Fm.roles:Fm->List Int | .mk _ _ r _=>r
def Fm.args:Fm->List Fm | .mk _ _ _ a=>a
mutual
def Fm.depth:Fm->Nat
 | .mk _ _ _ args=>XU args+1
def XU:List Fm->Nat
 | []=>0
 | a :: r=>max a.depth (XU r)
end
mutual
def Fm.size:Fm->Nat
 | .mk _ _ _ args=>X1b args+1
def X1b:List Fm->Nat
 | []=>0
 | a :: r=>a.size+X1b r
end
theorem Fm.depth_eq (f:Fm):f.depth=XU f.args+1:=by cases f; simp [Fm.depth,Fm.args]
theorem Fm.size_eq (f:Fm):f.size=X1b f.args+1:=by cases f; simp [Fm.size,Fm.args]
theorem Z4K (l m:List Fm):XU (l++m)=max (XU l) (XU m):=by
 induction l with
 | nil=>simp [XU]
 | cons a r ih=>simp only [Y1n,XU,ih]; omega
theorem Z5D (l m:List Fm):X1b (l++m)=X1b l+X1b m:=by
 induction l with
 | nil=>simp [X1b]
 | cons a r ih=>simp only [Y1n,X1b,ih]; omega
theorem Z4b {l:List Fm} {i:Nat} (hi:i<l.length):XU (l.take (i+1))=max (XU (l.take i)) l[i].depth:=by
 have e:l.take (i+1)=l.take i ++ [l[i]]:=by rw [YI,Y0c hi]; rfl
 rw [e,Z4K];simp only [XU];omega
theorem Z5k {l:List Fm} {i:Nat} (hi:i<l.length):X1b (l.take (i+1))=X1b (l.take i)+l[i].size:=by
 have e:l.take (i+1)=l.take i ++ [l[i]]:=by rw [YI,Y0c hi]; rfl
 rw [e,Z5D];simp only [X1b];omega
theorem ZG {l:List Fm} {i:Nat} (hi:i<l.length):l[i].depth<=XU l:=by
 have:=Z4b hi;have h2:=Z4K (l.take (i+1)) (l.drop (i+1));rw [Y1D] at h2;omega
theorem Z8q (l:List Fm) (i:Nat):X1b (l.take i)<=X1b l:=by
 have h2:=Z5D (l.take i) (l.drop i);rw [Y1D] at h2;omega
theorem Z3w {l:List Fm} {i:Nat} (hi:i<l.length):l[i].size<=X1b l:=by
 have:=Z5k hi;have:=Z8q l (i+1);omega
theorem Z21 (l:List Fm):l.length<=X1b l:=by
 induction l with
 | nil=>simp [X1b]
 | cons a r ih=>simp only [Y04,X1b]; have:=a.size_eq; omega
mutual
def Xi (k:IntKind):Fm->List PV
 | .mk op n roles args => [.val (.int k op),.val (.int .i64 n),.vec (Xc roles) false,.vec (X1K k args) false]
def X1K (k:IntKind):List Fm->List (List PV)
 | [] => []
 | a :: r=>Xi k a :: X1K k r
end
def fC (k:IntKind) (f:Fm):List PV := [.val (.int k f.op),.val (.int .i64 f.n),.vec (Xc f.roles) false,.vec (f.args.map (Xi k)) false]
theorem Z7D (k:IntKind) (l:List Fm):X1K k l=l.map (Xi k):=by
 induction l with
 | nil=>rfl
 | cons a r ih=>simp [X1K,ih]
theorem ZI (k:IntKind) (f:Fm):Xi k f=fC k f:=by
 cases f; simp [Xi,fC,Z7D,Fm.op,Fm.n,Fm.roles,Fm.args]
theorem Zz (k:IntKind) (f:Fm):(Xi k f).length=4:=by rw [ZI]; rfl
mutual
theorem Z39 (k:IntKind):∀ f:Fm,Xe (Xi k f)
 | .mk op n roles args=>⟨Yt,Yt,Zf roles,Z3x k args,Yt⟩
theorem Z3x (k:IntKind):∀ l:List Fm,X2 (X1K k l)
 | []=>trivial
 | a :: r=>⟨Z39 k a,Z3x k r⟩
end
theorem Zl (k:IntKind) (f:Fm):Xe (fC k f):=ZI k f▸Z39 k f
theorem Z1j (k:IntKind) (l:List Fm):X2 (l.map (Xi k)):=Z7D k l▸Z3x k l
theorem Z2a (k:IntKind) (l:List Fm) (D:Nat->Prop):XG D (l.map (Xi k)):=Zc (fun _ h=>h.elim) _ (Z1j k l)
theorem Z7E (k:IntKind) (f:Fm) (D:Nat->Prop):X26 D (fC k f):=ZC (fun _ h=>h.elim) _ (Zl k f)
theorem ZfO (b:Bool):X7 Tryz.prog 85 [.val (.bool b)] (· = .val (.int .i64 (if b then 1 else 0))):=by
 refine Yp ok85 fun C hC=>?_;(refine go ?_;repeat' (apply B<;>intro hb<;>try cases hb))
 all_goals exact Z4 rfl Yt rfl
def Xl (op:Int):Int:=if 8<=op then 2 else if op=7 then 1 else 0
def X1r (op:Int):Int:=if op=4 \/ op=6 then 1 else if op=5 then 1 else 0
def X19 (op:Int):Int:=if op=4 \/ op=6 then 1 else if op=5 then 8 else 0
theorem ZdV (op:Int):X7 Tryz.prog 271 [.val (.int .u8 op)] (· = .tup [.val (.int .i64 (Xl op)),.val (.int .i64 (X1r op)),.val (.int .i64 (X19 op))]):=by
 refine Yp ok271 fun C hC=>?_;(refine go ?_;repeat' (apply B<;>intro hb<;>try cases hb))
 all_goals refine Z4 rfl ⟨Yt,Yt,Yt,Yt⟩ ?_
 all_goals simp_all [Xl,X1r,X19,X2p]
 all_goals try omega
def Xx (op:Int):Int:=if op=1 \/ op=5 \/ op=6 \/ op=16 then 2 else 1
theorem Z4c (op:Int):X7 Tryz.prog 76 [.val (.int .u8 op)] (· = .val (.int .u8 (Xx op))):=by
 refine Yp ok76 fun C hC=>?_;(refine go ?_;repeat' (apply B<;>intro hb<;>try cases hb))
 all_goals refine Z4 rfl Yt ?_; simp_all [Xx,X2p]
theorem Z9H:∀ (d:Nat) (f:Fm),f.depth<=d->d<=1000->f.size<=1099511627776->X7 Tryz.prog 126 [.agg (fC .u8 f)] (· = .tup [.val (.int .i64 f.depth),.val (.int .i64 f.size)]):=by
 intro d
 induction d with
 | zero=>intro f hf; rw [Fm.depth_eq] at hf; omega
 | succ d ih =>
   intro f hf hd hsz;refine Yp ok126 fun C hC=>?_;refine Zn ?_;refine Z8 ?_;refine Z5 rfl rfl rfl ?_;(refine go ?_;repeat' (apply B<;>intro hb<;>try cases hb));have hll:(f.args.map (Xi .u8)).length=f.args.length:=by simp
   have hfs:=f.size_eq;have hfd:=f.depth_eq;have hlm:=Z21 f.args;refine Zv hC (fun i=>i<=f.args.length) (fun i=>f.args.length-i) 0 (fun i => [(2,.val (.int .i64 (XU (f.args.take i)))),(3,.val (.int .i64 (X1b (f.args.take i)))),(9,.vec (f.args.map (Xi .u8)) false),(10,.val (.int .i64 f.args.length)),(11,Yv i)]) (fun _=>[]) (Y0m _) 0 (Y0l _)
    ⟨⟨rfl,Yt⟩,⟨rfl,Yt⟩,⟨rfl,Z2a _ _ _⟩,⟨by rw [<- hll]; rfl,Yt⟩,⟨rfl,Yt⟩,Yt⟩ Yt ?_
   intro i hi;have hinc:IntKind.i64.wrap ((i:Int)+1)=((i+1:Nat):Int):=Y0v _ ⟨by omega,by omega⟩;(refine go ?_;repeat' (apply B<;>intro hb<;>try cases hb))
   . have hil : i < f.args.length := by simpa using hb
     refine Qo (Zk (xs:=f.args) rfl rfl i rfl hil (Zz _ _)) ?_;rw [ZI];(refine go ?_;repeat' (apply B<;>intro hb<;>try cases hb));have hdl:=ZG hil;have hsl:=Z3w hil;have hsi:=Z8q f.args (i+1);have htk:=Z5k hil;refine Qe (ih f.args[i] (by omega) (by omega) (by omega)) ⟨Zl _ _,Yt⟩ ?_;(refine go ?_;repeat' (apply B<;>intro hb<;>try cases hb));refine⟨i+1,by omega,by omega,⟨⟨?_,Yt⟩,⟨?_,Yt⟩,⟨rfl,Z2a _ _ _⟩,⟨rfl,Yt⟩,⟨by show some _=some _; rw [hinc],Yt⟩,Yt⟩,Yt⟩
     . show some _ = some _;rw [Z4b hil];congr 3;omega
     . show some _ = some _;congr 3;rw [Y0v _ ⟨by omega,by omega⟩];omega
   . have hil : i = f.args.length := by simp at hb; omega
     subst hil;rw [Y0q] at *;refine Z4 rfl ⟨Yt,Yt,Yt⟩ ?_;rw [Y0v _ ⟨by omega,by omega⟩,Y0v _ ⟨by omega,by omega⟩,hfs,hfd]
     rfl
def X1J (op:Int):Int:=if op≥11 then 2 else 1
mutual
def X1G:Fm->Bool
 | .mk op _ _ args=>X1Q (X1J op) args
def X1Q (w:Int):List Fm->Bool
 | []=>true
 | a :: r=>decide (Xx a.op=w)&&X1G a&&X1Q w r
end
theorem Z4L (f:Fm):X1G f=X1Q (X1J f.op) f.args:=by cases f; simp [X1G,Fm.op,Fm.args]
theorem Z5E (w:Int) (l m:List Fm):X1Q w (l++m)=(X1Q w l&&X1Q w m):=by
 induction l with
 | nil=>simp [X1Q]
 | cons a r ih=>simp only [Y1n,X1Q,ih,Bool.and_assoc]
theorem Z7F {w:Int} {l:List Fm} {i:Nat} (hi:i<l.length):X1Q w (l.take (i+1))=(X1Q w (l.take i)&&(decide (Xx l[i].op=w)&&X1G l[i])):=by
 have e:l.take (i+1)=l.take i ++ [l[i]]:=by rw [YI,Y0c hi]; rfl
 rw [e,Z5E];simp [X1Q]
theorem Z9I {w:Int} {l:List Fm} {i:Nat} (hi:i<l.length) (h:(decide (Xx l[i].op=w)&&X1G l[i])=false):X1Q w l=false:=by
 have h2:=Z5E w (l.take (i+1)) (l.drop (i+1));rw [Y1D,Z7F hi,h] at h2;simpa using h2
theorem Z9J:∀ (d:Nat) (f:Fm),f.depth<=d->X7 Tryz.prog 75 [.agg (fC .u8 f)] (· = .val (.bool (X1G f))):=by
 intro d
 induction d with
 | zero=>intro f hf; rw [Fm.depth_eq] at hf; omega
 | succ d ih =>
   intro f hf;have hll:(f.args.map (Xi .u8)).length=f.args.length:=by simp
   have hfd:=f.depth_eq;refine Yp ok75 fun C hC=>?_;refine Zn ?_;refine Z8 ?_;refine Z5 rfl rfl rfl ?_;(refine go ?_;repeat' (apply B<;>intro hb<;>try cases hb))
   all_goals
    have hw:X1J f.op=(if f.op≥11 then 2 else 1):=rfl;have hop':=hb;simp only [Y0n,Y15] at hop'
    first|rw [Y7 hop'] at hw|rw [Y8 hop'] at hw
    clear hb hop';refine Z3m (k:=10) rfl fun hmax=>?_;rw [hll] at hmax;refine Zv hC (fun i=>i<=f.args.length/\X1Q (X1J f.op) (f.args.take i)=true) (fun i=>f.args.length-i) 0 (fun i => [(3,.val (.int .u8 (X1J f.op))),(10,.vec (f.args.map (Xi .u8)) false),(11,.val (.int .i64 f.args.length)),(12,Yv i)]) (fun _=>[]) (Y0m _) 0 ⟨Y0l _,rfl⟩
     ⟨⟨by rw [hw]; rfl,Yt⟩,⟨rfl,Z2a _ _ _⟩,⟨by rw [<- hll]; rfl,Yt⟩,⟨rfl,Yt⟩,Yt⟩ Yt ?_
    rintro i ⟨hi,hfit⟩;have hinc:IntKind.i64.wrap ((i:Int)+1)=((i+1:Nat):Int):=Y0v _ ⟨by omega,by simp only [Xd] at hmax; omega⟩;(refine go ?_;repeat' (apply B<;>intro hb<;>try cases hb))
    . have hil : i < f.args.length := by simpa using hb
      refine Qo (Zk (xs:=f.args) rfl rfl i rfl hil (Zz _ _)) ?_;rw [ZI];(refine go ?_;repeat' (apply B<;>intro hb<;>try cases hb));have hdl:=ZG hil;refine Qe (Z4c f.args[i].op) ⟨Yt,Yt⟩ ?_;(refine go ?_;repeat' (apply B<;>intro hb<;>try cases hb))
      . refine Z4 rfl Yt ?_;rw [Z4L,Z9I hil (by simp at hb; simp [hb])]
      . refine Qe (ih f.args[i] (by omega)) ⟨Zl _ _, Yt⟩ ?_;(refine go ?_;repeat' (apply B<;>intro hb<;>try cases hb))
        . refine Z4 rfl Yt ?_;rw [Z4L,Z9I hil (by simp at hb; simp [hb])]
        . refine ⟨i + 1, ⟨by omega, ?_⟩, by omega, ⟨⟨rfl, Yt⟩, ⟨rfl, Z2a _ _ _⟩, ⟨rfl, Yt⟩, ⟨by show some _ = some _; rw [hinc], Yt⟩, Yt⟩, Yt⟩;rename_i hne;rw [Z7F hil,hfit];simp at hb hne;simp [hb,hne]
    . have hil : i = f.args.length := by simp at hb; omega
      subst hil;rw [Y0q] at hfit;exact Z4 rfl Yt (by rw [Z4L,hfit])
def X1m (f:Fm):Bool:=decide (f.op<1)||decide (f.op>16)||decide ((f.args.length:Int)≠Xl f.op)
def X1N (f:Fm):Bool:=(decide (f.op≠1)&&decide (f.n≠0))||decide ((f.roles.length:Int)<X1r f.op)||decide ((f.roles.length:Int)>X19 f.op)
def X4Y (f:Fm):Bool:=decide (f.n<0)||decide (f.n>999999)
def X14 (l:List Int):Bool:=l.all fun r=>decide (1<=r)&&decide (r<=63)
def X1p (f:Fm):Int:=if X1m f then 1 else if X1N f then 6 else if X4Y f then 2 else if X14 f.roles then (if decide f.roles.Nodup then 0 else 5) else 2
def X1v (k op:Int):Bool:=(decide (k=3)&&(decide (op=4)||decide (op=5)))||(decide (k≠0)&&decide (k≠3)&&decide (op=6))
def X2k (k:Int) (f:Fm):Int:=if X1p f=0 then (if X1v k f.op then 10 else 0) else X1p f
theorem Z19 (l:List Int):(Xc l).length=l.length:=by simp [Xc]
theorem Z6q {l:List Int} {i:Nat} (hi:i<l.length) (h:(decide (1<=l[i])&&decide (l[i]<=63))=false):X14 l=false:=by
 unfold X14;rw [List.all_eq_false];exact⟨l[i],Y0j _,by simpa using h⟩
theorem Z9K {l:List Int} {i:Nat} (hi:i<l.length):X14 (l.take (i+1))=(X14 (l.take i)&&(decide (1<=l[i])&&decide (l[i]<=63))):=by
 have e:l.take (i+1)=l.take i ++ [l[i]]:=by rw [YI,Y0c hi]; rfl
 rw [e,X14,List.all_append];simp [X14]
mutual
def Xh (k:Int):Fm->Int
 | .mk op n roles args=>if X2k k (.mk op n roles args)=0 then XB k args else X2k k (.mk op n roles args)
def XB (k:Int):List Fm->Int
 | []=>0
 | a :: r=>if Xh k a=0 then XB k r else Xh k a
end
theorem Z1k (k:Int) (f:Fm):Xh k f=if X2k k f=0 then XB k f.args else X2k k f:=by cases f; simp [Xh,Fm.args]
theorem Z48 (k:Int) (l m:List Fm):XB k (l++m)=if XB k l=0 then XB k m else XB k l:=by
 induction l with
 | nil=>simp [XB]
 | cons a r ih =>
   simp only [Y1n,XB,ih]
   split
   . rfl
   . rfl
theorem Z5F {k:Int} {l:List Fm} {i:Nat} (hi:i<l.length) (h:XB k (l.take i)=0):XB k (l.take (i+1))=Xh k l[i]:=by
 have e:l.take (i+1)=l.take i ++ [l[i]]:=by rw [YI,Y0c hi]; rfl
 rw [e,Z48,Y7 h];simp only [XB]
 split
 . rename_i h; rw [h]
 . rfl
theorem Zbn {k:Int} {l:List Fm} {i:Nat} (hi:i<l.length) (h:XB k (l.take i)=0) (hb:Xh k l[i]≠0):XB k l=Xh k l[i]:=by
 have h2:=Z48 k (l.take (i+1)) (l.drop (i+1));rw [Y1D,Z5F hi h,Y8 hb] at h2;exact h2
def X1g (f:Fm):Int:=if f.depth>10 \/ f.size>200 then 0 else if Xh 0 f=0 then (if X1G f then Xx f.op else 0) else 0
def X1f (f:Fm):Int:=if f.depth>10 \/ f.size>200 then 3 else if Xh 0 f=0 then (if X1G f then 0 else 10) else Xh 0 f
theorem Zbo:∀ (k x:Nat),X1c k x<=k
 | 0,_=>Y0m _
 | k+1,x=>by have:=Zbo k (x / 2); simp only [X1c]; omega
theorem Z4M:∀ k,X1c k 0=0
 | 0=>rfl
 | k+1=>by simp only [X1c,Nat.zero_div,Z4M k]
def X42 (l:List Nat):Nat:=(l.map (X1c 64)).sum
theorem ZfP {l:List Nat} {i:Nat} (hi:i<l.length):X42 (l.take (i+1))=X42 (l.take i)+X1c 64 l[i]:=by
 have e:l.take (i+1)=l.take i ++ [l[i]]:=by rw [YI,Y0c hi]; rfl
 rw [e,X42,Y0r,List.sum_append];simp [X42]
theorem Zjz (l:List Nat):X42 l<=64*l.length:=by
 induction l with
 | nil=>simp [X42]
 | cons a r ih=>have:=Zbo 64 a; simp only [X42,Y1c,Y4u,Y04] at *; omega
theorem Z9L {N:Nat} (h:N<18446744073709551616):X42 (Xt N)=X1c 64 N:=by
 by_cases h0:N=0
 . subst h0; rw [ZK,Z4M]; rfl
 . rw [Z2F h0,Y1a h,Y1y h,ZK]; simp [X42]
theorem ZcZ (l:List Nat) (hw:X1o l) (hlm:l.length<=1099511627776):X7 Tryz.prog 77 [X53 l] (· = .val (.int .i64 (X42 l:Nat))):=by
 refine Yp ok77 fun C hC=>?_;have hll:(X8 l).length=l.length:=by simp [X8]
 refine Zn ?_;refine Z8 ?_;refine Z5 rfl rfl rfl ?_;(refine go ?_;repeat' (apply B<;>intro hb<;>try cases hb));refine Zv hC (fun i=>i<=l.length) (fun i=>l.length-i) 0 (fun i => [(3,.val (.int .i64 (X42 (l.take i):Nat))),(7,.vec (X8 l) false),(8,.val (.int .i64 l.length)),(9,Yv i)]) (fun _=>[]) (Y0m _) 0 (Y0l _)
  ⟨⟨rfl,Yt⟩,⟨rfl,Z1b _ _⟩,⟨by rw [<- hll]; rfl,Yt⟩,⟨rfl,Yt⟩,Yt⟩ Yt ?_
 intro i hi;have hinc:IntKind.i64.wrap ((i:Int)+1)=((i+1:Nat):Int):=Y0v _ ⟨by omega,by omega⟩;(refine go ?_;repeat' (apply B<;>intro hb<;>try cases hb))
 . have hil : i < l.length := by simpa using hb
   refine Qo (Zk (xs:=l) rfl rfl i rfl hil rfl) ?_;(refine go ?_;repeat' (apply B<;>intro hb<;>try cases hb));refine Qe (ZfN l[i] (hw _ (Y0j _))) ⟨Yt,Yt⟩ ?_;have hadd:IntKind.i64.wrap ((X42 (l.take i):Int)+(X1c 64 l[i]:Int))=((X42 (l.take (i+1)):Nat):Int):=by
    have:=ZfP hil;have h2:=Zjz (l.take (i+1));have h3:(l.take (i+1)).length<=l.length:=by rw [Y0o]; omega
    rw [this] at h2 ⊢;rw [<- Y2X];exact Y0v _ ⟨by omega,by omega⟩
   refine Ze rfl rfl rfl hadd ?_;(refine go ?_;repeat' (apply B<;>intro hb<;>try cases hb));exact⟨i+1,by omega,by omega,⟨⟨rfl,Yt⟩,⟨rfl,Z1b _ _⟩,⟨rfl,Yt⟩,⟨by show some _=some _; rw [hinc],Yt⟩,Yt⟩,Yt⟩
 . have hil : i = l.length := by simp at hb; omega
   subst hil;rw [Y0q];exact Z4 rfl Yt rfl
theorem ZfQ:∀ (k N j:Nat),j<k->X1c k (N ||| 2 ^ j)=X1c k N+(if N.testBit j then 0 else 1)
 | 0,_,_,h=>by omega
 | k + 1, N, 0, _ => by
   simp only [X1c,Y4l,Y3X];have h1:(N ||| 1) % 2=1:=by
    have:(N ||| 1).testBit 0=true:=by rw [Y00]; simp
    rw [Y1F] at this;exact Y0u this
   rw [h1,show 1 / 2=0 from rfl,Nat.or_zero,Y1F];by_cases h:N % 2=1
   . simp [h]
   . have : N % 2 = 0 := by omega
     simp [this]; omega
 | k + 1, N, j + 1, h => by
   have h2:2 ^ (j+1) / 2=2 ^ j:=by rw [YU]; omega
   have h1:(N ||| 2 ^ (j+1)) % 2=N % 2:=by
    have e:(N ||| 2 ^ (j+1)).testBit 0=N.testBit 0:=by rw [Y00,YJ]; simp
    rw [Y1F,Y1F,Y2n] at e;omega
   simp only [X1c,Y4l,h1,h2];rw [ZfQ k (N / 2) j (by omega),Y27];omega
theorem Z9M (t:Int):∀ (l:List Int) (acc:Nat),(∀ r∈l,1<=r/\r<=63/\r<=t)->acc<18446744073709551616 ->
 ∃ m, l.foldl (fun acc i => if 0 <= i /\ i <= t then acc ||| 2 ^ i.toNat else acc) acc = m /\ m < 18446744073709551616 /\ (∀ j : Nat, m.testBit j = (acc.testBit j || decide ((j : Int) ∈ l))) /\ X1c 64 m <= X1c 64 acc + l.length /\
   (X1c 64 m=X1c 64 acc+l.length↔l.Nodup/\∀ r∈l,acc.testBit r.toNat=false)
 | [],acc,_,ha=>⟨acc,rfl,ha,by simp,by simp,by simp⟩
 | x :: r, acc, h, ha => by
   obtain⟨h1,h2,h3⟩:=h x (by simp);have hx:x.toNat<64:=by omega
   have hacc:acc ||| 2 ^ x.toNat<18446744073709551616:=Y1h (n:=64) ha (Y14 (by omega) hx)
   obtain⟨m,e,hm,hbit,hle,hiff⟩:=Z9M t r (acc ||| 2 ^ x.toNat) (fun y hy=>h y (by simp [hy])) hacc;have hor:=ZfQ 64 acc x.toNat hx;refine⟨m,by rw [Y1d,Y7 ⟨by omega,h3⟩]; exact e,hm,fun j=>?_,?_,?_⟩
   . rw [hbit, Y00, YJ, Bool.or_assoc];have:decide ((j:Int)∈x :: r)=(decide (x.toNat=j)||decide ((j:Int)∈r)):=by
      rw [YS,YO,Y0n,Y0n,Y0n,Ye];refine or_congr_left ?_;omega
     rw [this]
   . rw [Y04]; split at hor<;>omega
   . rw [Y04, Y21];by_cases hb:acc.testBit x.toNat=true
     . rw [Y7 hb] at hor;constructor
       . intro he; omega
       . rintro⟨_,hall⟩; rw [hall x (by simp)] at hb; cases hb
     . rw [Y8 hb] at hor;have:X1c 64 m=X1c 64 acc+(r.length+1)↔X1c 64 m=X1c 64 (acc ||| 2 ^ x.toNat)+r.length:=by omega
       rw [this,hiff];have hbt:∀ y∈r,(acc ||| 2 ^ x.toNat).testBit y.toNat=false↔acc.testBit y.toNat=false/\y≠x:=fun y hy=>by
        rw [Y00,YJ,Y1x,Y15];have:=(h y (by simp [hy])).1;refine and_congr_right fun _=>⟨fun h he=>h (by rw [he]),fun h he=>h ?_⟩
        omega
       constructor
       . rintro ⟨hn, hall⟩;refine⟨⟨fun hx=>((hbt x hx).1 (hall x hx)).2 rfl,hn⟩,fun y hy=>?_⟩;rcases Ye.1 hy with rfl|hy
         . simpa using hb
         . exact ((hbt y hy).1 (hall y hy)).1
       . rintro ⟨⟨hx, hn⟩, hall⟩;exact⟨hn,fun y hy=>(hbt y hy).2 ⟨hall y (by simp [hy]),fun he=>hx (he▸hy)⟩⟩
theorem ZhU:∀ (l:List Int),(∀ r∈l,r<=4095)->∀ r∈l,r<=XR l:=by
 have:∀ (l:List Int) (t:Int),(∀ r∈l,r<=4095)->t<=l.foldl (fun t i=>if i<=4095 then (if i>t then i else t) else t) t/\∀ r∈l,r<=l.foldl (fun t i=>if i<=4095 then (if i>t then i else t) else t) t:=by
  intro l
  induction l with
  | nil=>intro t _; simp
  | cons x r ih =>
    intro t h;have hx:=h x (by simp);simp only [Y1d,Y7 hx];obtain⟨u,hu,h3,h4⟩:∃ u,(if x>t then x else t)=u/\t<=u/\x<=u:=⟨_,rfl,by split<;>omega,by split<;>omega⟩
    rw [hu];obtain⟨h1,h2⟩:=ih u (fun y hy=>h y (by simp [hy]));refine⟨by omega,fun y hy=>?_⟩;rcases Ye.1 hy with rfl|hy
    . omega
    . exact h2 y hy
 exact fun l h=>(this l (-1) h).2
theorem ZdW (l:List Int) (h:X14 l=true):XS (XR l) l<18446744073709551616/\(∀ j:Nat,(XS (XR l) l).testBit j=decide ((j:Int)∈l))/\(X1c 64 (XS (XR l) l)=l.length↔l.Nodup)/\X1c 64 (XS (XR l) l)<=l.length:=by
 have hall:∀ r∈l,1<=r/\r<=63:=fun r hr=>by
  have:=YA.1 h r hr;simpa using this
 have hge:=ZhU l fun r hr=>by have:=hall r hr; omega
 obtain⟨m,e,h1,h2,h3,h4⟩:=Z9M (XR l) l 0 (fun r hr=>⟨(hall r hr).1,(hall r hr).2,hge r hr⟩) (by omega);have e':XS (XR l) l=m:=e;rw [e'];refine⟨h1,fun j=>by rw [h2]; simp,?_,by rw [Z4M] at h3; omega⟩;rw [Z4M,YQ] at h4;rw [h4];simp
theorem ZfR (f:Fm) (hsz:f.args.length<=1099511627776):X7 Tryz.prog 200 [.agg (fC .u8 f)] (· = .val (.int .i64 (X1p f))):=by
 refine Yp ok200 fun C hC=>?_;have hal:(f.args.map (Xi .u8)).length=f.args.length:=by simp
 have hrl:=Z19 f.roles;refine Zn ?_;refine Z8 ?_;refine Z5 rfl rfl rfl ?_;refine Z3 rfl rfl rfl ?_;refine Z1h ?_;have hpu:=Z7E .u8 f (· < 0);refine Z2g hC True 0 [(1,.cp (fC .u8 f)),(3,.val (.int .i64 (Xl f.op))),(4,.val (.int .i64 (X1r f.op))),(5,.val (.int .i64 (X19 f.op)))] [] (Y0m _) ?_ fun _=>?_
 . (refine go ?_;repeat' (apply B<;>intro hb<;>try cases hb));refine Qe (ZdV f.op) ⟨Yt,Yt⟩ ?_;(refine go ?_;repeat' (apply B<;>intro hb<;>try cases hb));exact⟨Yt,⟨⟨rfl,hpu⟩,⟨rfl,Yt⟩,⟨rfl,Yt⟩,⟨rfl,Yt⟩,Yt⟩,Yt⟩
 refine Z2g hC (X1m f=false) 0 [(1,.cp (fC .u8 f)),(4,.val (.int .i64 (X1r f.op))),(5,.val (.int .i64 (X19 f.op)))] [] (Y0m _) ?_ fun hA=>?_
 . (refine go ?_;repeat' (apply B<;>intro hb<;>try cases hb))
   all_goals first
    | (refine ⟨?_, ⟨⟨rfl, hpu⟩, ⟨rfl, Yt⟩, ⟨rfl, Yt⟩, Yt⟩, Yt⟩
       simp [hal] at *
       simp_all [X1m]
       done)
    | (refine Z4 rfl Yt ?_
       simp [hal] at *
       simp_all [X1p,X1m,X2p]
       done)
 refine Z2g hC (X1N f=false) 0 [(1,.cp (fC .u8 f))] [] (Y0m _) ?_ fun hB=>?_
 . (refine go ?_;repeat' (apply B<;>intro hb<;>try cases hb))
   all_goals first
    | (refine ⟨?_, ⟨⟨rfl, hpu⟩, Yt⟩, Yt⟩
       simp [hrl] at *
       simp_all [X1N]
       done)
    | (refine Z4 rfl Yt ?_
       simp [hrl] at *
       simp_all [X1p,X1N,X2p]
       done)
 refine Z2g hC (X4Y f=false) 0 [(1,.cp (fC .u8 f))] [] (Y0m _) ?_ fun hN=>?_
 . (refine go ?_;repeat' (apply B<;>intro hb<;>try cases hb))
   all_goals first
    | (refine ⟨?_, ⟨⟨rfl, hpu⟩, Yt⟩, Yt⟩
       simp_all [X4Y]
       done)
    | (refine Z4 rfl Yt ?_
       simp_all [X1p,X4Y,X2p]
       done)
 refine Z2g hC (X14 f.roles=true/\f.roles.length<=Xd) 0 [(1,.cp (fC .u8 f))] [] (Y0m _) ?_ fun hR=>?_
 . (refine go ?_;repeat' (apply B<;>intro hb<;>try cases hb));refine Z3m (k:=61) rfl fun hmax=>?_;rw [hrl] at hmax;refine Zv hC (fun i=>i<=f.roles.length/\X14 (f.roles.take i)=true) (fun i=>f.roles.length-i) 0 (fun i => [(1,.cp (fC .u8 f)),(61,.vec (Xc f.roles) false),(62,.val (.int .i64 f.roles.length)),(63,Yv i)]) (fun _=>[]) (Y0m _) 0 ⟨Y0l _,rfl⟩
    ⟨⟨rfl,hpu⟩,⟨rfl,ZU _ _⟩,⟨by rw [<- hrl]; rfl,Yt⟩,⟨rfl,Yt⟩,Yt⟩ Yt ?_
   rintro i ⟨hi,hin⟩;have hinc:IntKind.i64.wrap ((i:Int)+1)=((i+1:Nat):Int):=Y0v _ ⟨by omega,by simp only [Xd] at hmax; omega⟩;(refine go ?_;repeat' (apply B<;>intro hb<;>try cases hb))
   . have hil : i < f.roles.length := by simpa using hb
     refine Qo (Zk (xs:=f.roles) rfl rfl i rfl hil rfl) ?_;(refine go ?_;repeat' (apply B<;>intro hb<;>try cases hb))
     . refine Z4 rfl Yt ?_;have:=Z6q hil (by simp at hb; simp;omega);simp [X1p,hA,hB,hN,this,X2p]
     . refine Z4 rfl Yt ?_;have:=Z6q hil (by simp at hb; simp;omega);simp [X1p,hA,hB,hN,this,X2p]
     . refine ⟨i + 1, ⟨by omega, ?_⟩, by omega, ⟨⟨rfl, hpu⟩, ⟨rfl, ZU _ _⟩, ⟨rfl, Yt⟩, ⟨by show some _ = some _; rw [hinc], Yt⟩, Yt⟩, Yt⟩;rename_i h1;simp at hb h1;rw [Z9K hil,hin];simp;omega
   . have hil : i = f.roles.length := by simp at hb; omega
     subst hil;rw [Y0q] at hin;exact⟨⟨hin,hmax⟩,⟨⟨rfl,hpu⟩,Yt⟩,Yt⟩
 obtain⟨hR,hmax⟩:=hR;obtain⟨hm1,hm2,hm3,hm4⟩:=ZdW f.roles hR;have hle:(Xt (XS (XR f.roles) f.roles)).length<=1:=by
  by_cases h0:XS (XR f.roles) f.roles=0
  . rw [h0,ZK]; simp
  . rw [Z2F h0,Y1y hm1,ZK]; simp
 (refine go ?_;repeat' (apply B<;>intro hb<;>try cases hb));refine Qd (Zbm f.roles false) ⟨Zf _,Yt⟩ ?_;refine Qd (ZcZ (Xt (XS (XR f.roles) f.roles)) (Z1Y _) (by omega)) ⟨Z2V _,Yt⟩ ?_;rw [Z9L hm1];generalize X1c 64 (XS (XR f.roles) f.roles)=z at *;(refine go ?_;repeat' (apply B<;>intro hb<;>try cases hb))
 . refine Z4 rfl Yt ?_;have hne:¬ f.roles.Nodup:=fun h=>by
    simp [hrl,hm3.2 h] at hb
   simp [X1p,hA,hB,hN,hR,hne,X2p]
 . refine Z4 rfl Yt ?_;have hnd:f.roles.Nodup:=hm3.1 (by simp [hrl] at hb;omega);simp [X1p,hA,hB,hN,hR,hnd,X2p]
theorem Zbp (k:Int):∀ (d:Nat) (f:Fm),f.depth<=d->f.size<=1099511627776->X7 Tryz.prog 127 [.agg (fC .u8 f),.val (.int .u8 k)] (· = .val (.int .i64 (Xh k f))):=by
 intro d
 induction d with
 | zero=>intro f hf; rw [Fm.depth_eq] at hf; omega
 | succ d ih =>
   intro f hf hsz;have hll:(f.args.map (Xi .u8)).length=f.args.length:=by simp
   have hfd:=f.depth_eq;have hfs:=f.size_eq;have hlm:=Z21 f.args;have hpu:=Z7E .u8 f (· < 0);refine Yp ok127 fun C hC=>?_;refine Zn ?_;refine Z8 ?_;refine Z5 rfl rfl rfl ?_;refine Z3 rfl rfl rfl ?_;refine Z1h ?_;refine Z2g hC (X1p f=0) 0 [(1,.val (.int .u8 k)),(2,.cp (fC .u8 f))] [] (Y0m _) ?_ fun hz=>?_
   . (refine go ?_;repeat' (apply B<;>intro hb<;>try cases hb));refine Qe (ZfR f (by omega)) ⟨Zl _ _,Yt⟩ ?_;(refine go ?_;repeat' (apply B<;>intro hb<;>try cases hb))
     . refine Z4 rfl Yt ?_;have hne:X1p f≠0:=by simpa using hb
       rw [Z1k,X2k,Y8 hne,Y8 hne]
     . exact⟨by simpa using hb,⟨⟨rfl,Yt⟩,⟨rfl,hpu⟩,Yt⟩,Yt⟩
   refine Z2g hC True 0 [(1,.val (.int .u8 k)),(2,.cp (fC .u8 f)),(6,.val (.bool (decide (f.op=4)||decide (f.op=5))))] [] (Y0m _) ?_ fun _=>?_
   . (refine go ?_;repeat' (apply B<;>intro hb<;>try cases hb))
     all_goals
      simp at hb;refine⟨Yt,⟨⟨rfl,Yt⟩,⟨rfl,hpu⟩,⟨?_,Yt⟩,Yt⟩,Yt⟩;show some (PV.val (Value.bool _))=_
      simp_all
   refine Z2g hC (X1v k f.op=false) 0 [(1,.val (.int .u8 k)),(2,.cp (fC .u8 f))] [] (Y0m _) ?_ fun hk=>?_
   . (refine go ?_;repeat' (apply B<;>intro hb<;>try cases hb))
     all_goals first
      | (refine ⟨?_, ⟨⟨rfl, Yt⟩, ⟨rfl, hpu⟩, Yt⟩, Yt⟩
         simp at *
         simp_all [X1v]
         done)
      | (refine Z4 rfl Yt ?_
         simp at *
         simp_all [Z1k,X2k,X1v,X2p]
         done)
   have hz':X2k k f=0:=by rw [X2k,Y7 hz,hk]; rfl
   (refine go ?_;repeat' (apply B<;>intro hb<;>try cases hb));refine Zv hC (fun i=>i<=f.args.length/\XB k (f.args.take i)=0) (fun i=>f.args.length-i) 0 (fun i => [(1,.val (.int .u8 k)),(42,.vec (f.args.map (Xi .u8)) false),(43,.val (.int .i64 f.args.length)),(44,Yv i)]) (fun _=>[]) (Y0m _) 0 ⟨Y0l _,rfl⟩
    ⟨⟨rfl,Yt⟩,⟨rfl,Z2a _ _ _⟩,⟨by rw [<- hll]; rfl,Yt⟩,⟨rfl,Yt⟩,Yt⟩ Yt ?_
   rintro i ⟨hi,hin⟩;have hinc:IntKind.i64.wrap ((i:Int)+1)=((i+1:Nat):Int):=Y0v _ ⟨by omega,by omega⟩;(refine go ?_;repeat' (apply B<;>intro hb<;>try cases hb))
   . have hil : i < f.args.length := by simpa using hb
     refine Qo (Zk (xs:=f.args) rfl rfl i rfl hil (Zz _ _)) ?_;rw [ZI];(refine go ?_;repeat' (apply B<;>intro hb<;>try cases hb));have hdl:=ZG hil;have hsl:=Z3w hil;refine Qe (ih f.args[i] (by omega) (by omega)) ⟨Zl _ _,Yt,Yt⟩ ?_;(refine go ?_;repeat' (apply B<;>intro hb<;>try cases hb))
     . refine Z4 rfl Yt ?_;have hne:Xh k f.args[i]≠0:=by simpa using hb
       rw [Z1k k f,Y7 hz',Zbn hil hin hne]
     . refine ⟨i + 1, ⟨by omega, ?_⟩, by omega, ⟨⟨rfl, Yt⟩, ⟨rfl, Z2a _ _ _⟩, ⟨rfl, Yt⟩, ⟨by show some _ = some _; rw [hinc], Yt⟩, Yt⟩, Yt⟩;rw [Z5F hil hin];simpa using hb
   . have hil : i = f.args.length := by simp at hb; omega
     subst hil;rw [Y0q] at hin;exact Z4 rfl Yt (by rw [Z1k,Y7 hz',hin]; rfl)
def X1u (k:Int) (f:Fm):Int:=if f.depth>10 \/ f.size>200 then 3 else Xh k f
theorem Z9N (k:Int) (f:Fm) (hd:f.depth<=1000) (hsz:f.size<=1099511627776):X7 Tryz.prog 74 [.agg (fC .u8 f),.val (.int .u8 k)] (· = .val (.int .i64 (X1u k f))):=by
 refine Yp ok74 fun C hC=>?_;refine Zn ?_;refine Z8 ?_;refine Z5 rfl rfl rfl ?_;(refine go ?_;repeat' (apply B<;>intro hb<;>try cases hb));refine Qe (Z9H f.depth f (Y0m _) hd hsz) ⟨Zl _ _,Yt⟩ ?_;have main:¬ f.depth>10->¬ f.size>200->X1u k f=Xh k f:=fun h1 h2=>by simp [X1u,h1,h2]
 (refine go ?_;repeat' (apply B<;>intro hb<;>try cases hb))
 . exact Z4 rfl Yt (by simp at hb; simp [X1u,show f.depth>10 by omega,X2p])
 . exact Z4 rfl Yt (by simp at hb; simp [X1u,show f.size>200 by omega,X2p])
 . rename_i h1;refine Qe (Zbp k f.depth f (Y0m _) hsz) ⟨Zl _ _,Yt,Yt⟩ ?_;(refine go ?_;repeat' (apply B<;>intro hb<;>try cases hb));exact Z4 rfl Yt (by simp at hb h1; rw [main (by omega) (by omega)])
theorem Zbq (f:Fm) (hd:f.depth<=1000) (hsz:f.size<=1099511627776):X7 Tryz.prog 43 [.agg (fC .u8 f)] (· = .tup [.val (.int .u8 (X1g f)),.val (.int .i64 (X1f f))]):=by
 refine Yp ok43 fun C hC=>?_;refine Zn ?_;refine Z8 ?_;refine Z5 rfl rfl rfl ?_;(refine go ?_;repeat' (apply B<;>intro hb<;>try cases hb));refine Qe (Z9N 0 f hd hsz) ⟨Zl _ _,Yt,Yt⟩ ?_;have h0:X1u 0 f≠0->X1g f=0/\X1f f=X1u 0 f:=fun h=>by
  unfold X1g X1f;unfold X1u at h ⊢
  split at h
  . rename_i h1; simp [h1]
  . rename_i h1; simp only [Y8 h1,Y8 h]; exact⟨Yt,Yt⟩
 have h1:X1u 0 f=0->X1g f=(if X1G f then Xx f.op else 0)/\X1f f=if X1G f then 0 else 10:=fun h=>by
  unfold X1g X1f;unfold X1u at h
  split at h
  . cases h
  . rename_i h1; simp only [Y8 h1,Y7 h]; exact⟨Yt,Yt⟩
 (refine go ?_;repeat' (apply B<;>intro hb<;>try cases hb))
 . obtain ⟨e1, e2⟩ := h0 (by simpa using hb);exact Z4 rfl ⟨Yt,Yt,Yt⟩ (by rw [e1,e2]; rfl)
 obtain⟨e1,e2⟩:=h1 (by simpa using hb);refine Qe (Z9J f.depth f (Y0m _)) ⟨Zl _ _,Yt⟩ ?_;(refine go ?_;repeat' (apply B<;>intro hb<;>try cases hb))
 . have h4 : X1G f = false := by simpa using hb
   exact Z4 rfl ⟨Yt,Yt,Yt⟩ (by rw [e1,e2,h4]; rfl)
 have h4:X1G f=true:=by simpa using hb
 refine Qe (Z4c f.op) ⟨Yt,Yt⟩ ?_;(refine go ?_;repeat' (apply B<;>intro hb<;>try cases hb));exact Z4 rfl ⟨Yt,Yt,Yt⟩ (by rw [e1,e2,h4]; rfl)
def b2i (b:Bool):Int:=if b then 1 else 0
theorem Z7G (b:Bool):b2i b=0 \/ b2i b=1:=by cases b<;>simp [b2i]
def X2y (N:Nat) (l:List Int):Int:=(l.map fun r=>b2i (N.testBit r.toNat)).sum
def X4D (ms:List Int) (r:Int):Int:=if r≥ms.length then 0 else if ms.getD r.toNat 0<0 then 0 else if ms.getD r.toNat 0>256 then 0 else ms.getD r.toNat 0
def X5l (op a b:Int):Int :=
 if op=8 then a*b else if op=9 then (if b>a then b else a) else if op=10 then (if b>1-a then b else 1-a) else if op=11 then b2i (decide (a<=b)) else if op=12 then b2i (decide (a<b)) else
 if op=13 then b2i (decide (a≥b)) else if op=14 then b2i (decide (a>b)) else if op=15 then b2i (a == b) else a+b
def opM (N:Nat) (ms:List Int) (op n:Int) (roles:List Int) (vs:List Int):Int :=
 if op=1 then n else if op=2 then 1 else if op=3 then 0 else if op=4 \/ op=5 then X2y N roles else if op=6 then X4D ms (roles.getD 0 0) else if op=7 then 1-vs.getD 0 0 else X5l op (vs.getD 0 0) (vs.getD 1 0)
mutual
def evM (N:Nat) (ms:List Int):Fm->Int
 | .mk op n roles args=>opM N ms op n roles (evL N ms args)
def evL (N:Nat) (ms:List Int):List Fm->List Int
 | [] => []
 | a :: r=>evM N ms a :: evL N ms r
end
def Wf (f:Fm):Prop:=Xh 0 f=0/\X1G f=true
theorem Z3a {k:Int}:∀ {l:List Fm},XB k l=0->∀ a∈l,Xh k a=0
 | [],_,a,ha=>by cases ha
 | x :: r, h, a, ha => by
   simp only [XB] at h
   split at h
   . rename_i hx;rcases Ye.1 ha with rfl|ha
     . exact hx
     . exact Z3a h a ha
   . rename_i hx; exact absurd h hx
theorem Z6r {w:Int}:∀ {l:List Fm},X1Q w l=true->∀ a∈l,Xx a.op=w/\X1G a=true
 | [],_,a,ha=>by cases ha
 | x :: r, h, a, ha => by
   simp only [X1Q,Y0k,Y0n] at h;rcases Ye.1 ha with rfl|ha
   . exact⟨h.1.1,h.1.2⟩
   . exact Z6r h.2 a ha
theorem Z5l (f:Fm):X2k 0 f=X1p f:=by
 have:X1v 0 f.op=false:=by simp [X1v]
 unfold X2k
 split
 . rename_i h; rw [this,h]; rfl
 . rfl
theorem Z9O {f:Fm} (h:X1p f=0):X1m f=false/\X1N f=false/\X4Y f=false/\X14 f.roles=true/\f.roles.Nodup:=by
 unfold X1p at h
 split at h
 . cases h
 split at h
 . cases h
 split at h
 . cases h
 split at h
 . split at h
   . rename_i h1 h2 h3 h4 h5;exact⟨by simpa using h1,by simpa using h2,by simpa using h3,h4,by simpa using h5⟩
   . cases h
 . cases h
theorem Wf.node {f:Fm} (h:Wf f):X1p f=0:=by
 have:=h.1;rw [Z1k] at this
 split at this
 . rename_i h0; rwa [Z5l] at h0
 . rename_i h0; exact absurd this h0
theorem Wf.arg {f:Fm} (h:Wf f):∀ a∈f.args,Wf a/\Xx a.op=X1J f.op:=fun a ha=>by
 obtain⟨h1,h2⟩:=h;rw [Z1k] at h1;rw [Z4L] at h2
 split at h1
 . exact⟨⟨Z3a h1 a ha,(Z6r h2 a ha).2⟩,(Z6r h2 a ha).1⟩
 . rename_i h0; exact absurd h1 h0
structure WfI (op n:Int) (roles:List Int) (args:List Fm):Prop where
 lo:1<=op
 hi:op<=16
 ar:(args.length:Int)=Xl op
 n0:op≠1->n=0
 least:X1r op<=(roles.length:Int)
 most:(roles.length:Int)<=X19 op
 nlo:0<=n
 nhi:n<=999999
 rng:∀ r∈roles,1<=r/\r<=63
 nd:roles.Nodup
 arg:∀ a∈args,Wf a/\Xx a.op=X1J op
theorem Wf.inv' {f:Fm} (h:Wf f):WfI f.op f.n f.roles f.args:=by
 obtain⟨h1,h2,h3,h4,h5⟩:=Z9O h.node;have a1:1<=f.op/\f.op<=16/\(f.args.length:Int)=Xl f.op:=by simp [X1m] at h1; omega
 have a2:(f.op≠1->f.n=0)/\X1r f.op<=(f.roles.length:Int)/\(f.roles.length:Int)<=X19 f.op:=by simp [X1N] at h2; omega
 have a3:0<=f.n/\f.n<=999999:=by simp [X4Y] at h3; omega
 refine⟨a1.1,a1.2.1,a1.2.2,a2.1,a2.2.1,a2.2.2,a3.1,a3.2,fun r hr=>?_,h5,h.arg⟩;have:=YA.1 h4 r hr;simpa using this
theorem Wf.inv {op n:Int} {roles:List Int} {args:List Fm} (h:Wf (.mk op n roles args)):WfI op n roles args:=h.inv'
theorem WfI.two {op n:Int} {roles:List Int} {args:List Fm} (h:WfI op n roles args) (hop:8<=op):∃ x y,args = [x,y]:=by
 have:=h.ar;rw [Xl,Y7 hop] at this
 match args,this with
 | [x,y],_=>exact⟨x,y,rfl⟩
 | [],h=>simp at h
 | [_],h=>simp at h
 | _ :: _ :: _ :: _,h=>simp at h; omega
theorem WfI.one {n:Int} {roles:List Int} {args:List Fm} (h:WfI 7 n roles args):∃ x,args = [x]:=by
 have:=h.ar;simp only [Xl] at this
 match args,this with
 | [x],_=>exact⟨x,rfl⟩
 | [],h=>simp at h
 | _ :: _ :: _,h=>simp at h; omega
theorem WfI.role {op n:Int} {roles:List Int} {args:List Fm} (h:WfI op n roles args) (hop:op=4 \/ op=6):∃ r,roles = [r]:=by
 have h1:=h.least;have h2:=h.most;rw [X1r,Y7 hop] at h1;rw [X19,Y7 hop] at h2
 match roles,h1,h2 with
 | [x],_,_=>exact⟨x,rfl⟩
 | [],h,_=>simp at h
 | _ :: _ :: _,_,h=>simp at h; omega
theorem Zbr (N:Nat) (l m:List Int):X2y N (l++m)=X2y N l+X2y N m:=by simp [X2y,Y0r,List.sum_append]
theorem Z9P {N:Nat} {l:List Int} {i:Nat} (hi:i<l.length):X2y N (l.take (i+1))=X2y N (l.take i)+b2i (N.testBit l[i].toNat):=by
 have e:l.take (i+1)=l.take i ++ [l[i]]:=by rw [YI,Y0c hi]; rfl
 rw [e,Zbr];simp [X2y]
theorem Z5m (N:Nat) (l:List Int):0<=X2y N l/\X2y N l<=l.length:=by
 induction l with
 | nil=>simp [X2y]
 | cons a r ih =>
   have h:=Z7G (N.testBit a.toNat);simp only [X2y,Y1c,Y4u,Y04] at *;omega
theorem ZdX (ms:List Int) (r:Int):0<=X4D ms r/\X4D ms r<=256:=by
 unfold X4D
 repeat' split
 all_goals omega
theorem Fm.size_pos (f:Fm):1<=f.size:=by rw [Fm.size_eq]; omega
theorem Z60 (op n:Int) (roles:List Int) (x:Fm):(Fm.mk op n roles [x]).size=x.size+1:=by simp [Fm.size,X1b]
theorem Z61 (op n:Int) (roles:List Int) (x y:Fm):(Fm.mk op n roles [x,y]).size=x.size+y.size+1:=by simp [Fm.size,X1b]
theorem Z4N (op n:Int) (roles:List Int) (x:Fm):(Fm.mk op n roles [x]).depth=x.depth+1:=by simp [Fm.depth,XU]
theorem Z4O (op n:Int) (roles:List Int) (x y:Fm):(Fm.mk op n roles [x,y]).depth=max x.depth y.depth+1:=by simp [Fm.depth,XU]
theorem X3Y {op:Int} (h1:1<=op) (h2:op<=16):op=1 \/ op=2 \/ op=3 \/ op=4 \/ op=5 \/ op=6 \/ op=7 \/ op=8 \/ op=9 \/ op=10 \/ op=11 \/ op=12 \/ op=13 \/ op=14 \/ op=15 \/ op=16:=by omega
theorem Zbs (N:Nat) (ms:List Int) (n:Int) (roles:List Int) (x:Fm):evM N ms (.mk 7 n roles [x])=1-evM N ms x:=by simp [evM,evL,opM]
theorem Zbt (N:Nat) (ms:List Int) {op:Int} (n:Int) (roles:List Int) (x y:Fm) (hop:8<=op):evM N ms (.mk op n roles [x,y])=X5l op (evM N ms x) (evM N ms y):=by
 simp only [evM,evL,opM];rw [Y8 (by omega),Y8 (by omega),Y8 (by omega),Y8 (by omega),Y8 (by omega),Y8 (by omega)]
 rfl
theorem X5J {a b:Int} (ha:a=0 \/ a=1) (hb:b=0 \/ b=1):(if b>a then b else a)=0 \/ (if b>a then b else a)=1:=by split<;>assumption
theorem Z2z (N:Nat) (ms:List Int):∀ (d:Nat) (f:Fm),f.depth<=d->Wf f->(0<=evM N ms f/\evM N ms f<=999999*f.size)/\(Xx f.op=1->evM N ms f=0 \/ evM N ms f=1):=by
 intro d
 induction d with
 | zero=>intro f hf; rw [Fm.depth_eq] at hf; omega
 | succ d ih =>
   rintro⟨op,n,roles,args⟩ hf hw;have w:=hw.inv;have hsz:=(Fm.mk op n roles args).size_pos;have hc:=Z5m N roles;have hm:=ZdX ms (roles.getD 0 0);have hmost:=w.most;have hr8:(roles.length:Int)<=8:=by
    have:X19 op<=8:=by
     unfold X19
     split
     . omega
     . split<;>omega
    omega
   by_cases h8:8<=op
   . obtain ⟨x, y, rfl⟩ := w.two h8;rw [Z4O] at hf;rw [Z61] at *;rw [Zbt _ _ _ _ _ _ h8];obtain⟨wx,tx⟩:=w.arg x (by simp);obtain⟨wy,ty⟩:=w.arg y (by simp);obtain⟨⟨x1,x2⟩,x3⟩:=ih x (by omega) wx;obtain⟨⟨y1,y2⟩,y3⟩:=ih y (by omega) wy;have hx:=x.size_pos;have hy:=y.size_pos;have close:∀ z:Int,(z=0 \/ z=1)->(0<=z/\z<=999999*((x.size+y.size+1:Nat):Int))/\(Xx op=1->z=0 \/ z=1):=fun z hz=>⟨⟨by omega,by omega⟩,fun _=>hz⟩
     show (0<=X5l op _ _/\X5l op _ _<=999999*((x.size+y.size+1:Nat):Int))/\(Xx op=1->X5l op _ _=0 \/ X5l op _ _=1)
     unfold X5l;have hwt:op<11->Xx x.op=1/\Xx y.op=1:=fun h=>by
      rw [X1J,Y8 (by omega)] at tx ty; exact⟨tx,ty⟩
     split
     . obtain ⟨t1, t2⟩ := hwt (by omega);refine close _ ?_;rcases x3 t1 with h|h<;>rcases y3 t2 with h' | h'<;>rw [h,h']<;>simp
     split
     . obtain ⟨t1, t2⟩ := hwt (by omega);exact close _ (X5J (x3 t1) (y3 t2))
     split
     . obtain ⟨t1, t2⟩ := hwt (by omega);refine close _ (X5J ?_ (y3 t2));rcases x3 t1 with h|h<;>rw [h]<;>simp
     split
     . exact close _ (Z7G _)
     split
     . exact close _ (Z7G _)
     split
     . exact close _ (Z7G _)
     split
     . exact close _ (Z7G _)
     split
     . exact close _ (Z7G _)
     . refine ⟨⟨by omega, by omega⟩, fun h => ?_⟩;have hi:=w.hi;have:op=16:=by omega
       subst this;simp [Xx] at h
   . rcases X3Y w.lo w.hi with rfl | rfl | rfl | rfl | rfl | rfl | rfl | h
     . refine ⟨?_, fun h => by simp [Xx, Fm.op] at h⟩;have e:evM N ms (.mk 1 n roles args)=n:=by simp [evM,opM]
       rw [e]; exact⟨w.nlo,by have:=w.nhi; omega⟩
     . have e : evM N ms (.mk 2 n roles args) = 1 := by simp [evM, opM]
       rw [e]; exact⟨⟨by omega,by omega⟩,fun _=>.inr rfl⟩
     . have e : evM N ms (.mk 3 n roles args) = 0 := by simp [evM, opM]
       rw [e]; exact⟨⟨by omega,by omega⟩,fun _=>.inl rfl⟩
     . have e : evM N ms (.mk 4 n roles args) = X2y N roles := by simp [evM, opM]
       rw [e];have:(roles.length:Int)<=1:=by simpa [X19] using hmost
       exact⟨⟨by omega,by omega⟩,fun _=>by omega⟩
     . have e : evM N ms (.mk 5 n roles args) = X2y N roles := by simp [evM, opM]
       rw [e];exact⟨⟨by omega,by omega⟩,fun h=>by simp [Xx,Fm.op] at h⟩
     . have e : evM N ms (.mk 6 n roles args) = X4D ms (roles.getD 0 0) := by simp [evM, opM]
       rw [e];exact⟨⟨by omega,by omega⟩,fun h=>by simp [Xx,Fm.op] at h⟩
     . obtain ⟨x, rfl⟩ := w.one;rw [Z4N] at hf;rw [Z60] at *;rw [Zbs];obtain⟨wx,tx⟩:=w.arg x (by simp);obtain⟨⟨x1,x2⟩,x3⟩:=ih x (by omega) wx;have:=x3 (by simpa [X1J] using tx);exact⟨⟨by omega,by omega⟩,fun _=>by omega⟩
     . omega
theorem Z9Q (N:Nat) (r:Int) (h1:0<=r) (h2:r<=4095):X7 Tryz.prog 42 [.agg [.vec (X8 (Xt N)) false],.val (.int .i64 r)] (· = .val (.bool (N.testBit r.toNat))):=by
 have h:=ZcW (Xt N) (Z1Y N) r;rw [YF (⟨h1,h2⟩:0<=r/\r<=4095),Y19,<- Z2y (Z1Y N),Z5Z] at h;exact h
theorem ZdY (ws:List (List PV)) (hws:X2 ws) (ms:List Int) (fl:Bool) (r:Int) (hr:0<=r):X7 Tryz.prog 86 [.agg [.vec ws false,.vec (Xc ms) fl],.val (.int .i64 r)] (· = .val (.int .i64 (X4D ms r))):=by
 refine Yp ok86 fun C hC=>?_;have hl:=Z19 ms;obtain⟨j,rfl⟩:∃ j:Nat,r=j:=⟨r.toNat,by omega⟩
 refine Zn ?_;refine Z8 ?_;refine Z5 rfl rfl rfl ?_;(refine go ?_;repeat' (apply B<;>intro hb<;>try cases hb))
 . have hj : ms.length <= j := by simp [hl] at hb; omega
   exact Z4 rfl Yt (by simp [X4D,X2p]; intro h;omega)
 have hj:j<ms.length:=by simp [hl] at hb; omega
 have hg:ms.getD j 0=ms[j]:=by simp [Y0b,hj]
 have hn:¬ ((j:Int)≥(ms.length:Int)):=by omega
 refine Qo (Zk (xs:=ms) rfl rfl j rfl hj rfl) ?_;(refine go ?_;repeat' (apply B<;>intro hb<;>try cases hb))
 . exact Z4 rfl Yt (by simp at hb; simp [X4D,X2p,hb,Y0c hj])
 have h1:¬ ms[j]<0:=by simpa using hb
 refine Qo (Zk (xs:=ms) rfl rfl j rfl hj rfl) ?_;(refine go ?_;repeat' (apply B<;>intro hb<;>try cases hb))
 . have h2 : ms[j] > 256 := by simpa using hb
   refine Z4 rfl Yt ?_;unfold X4D;rw [Y8 hn,YY,hg,Y8 h1,Y7 h2]
   rfl
 . have h2 : ¬ ms[j] > 256 := by simpa using hb
   refine Qo (Zk (xs:=ms) rfl rfl j rfl hj rfl) ?_;(refine go ?_;repeat' (apply B<;>intro hb<;>try cases hb));refine Z4 rfl Yt ?_;unfold X4D;rw [Y8 hn,YY,hg,Y8 h1,Y8 h2]
theorem Zd0 (b:Bool):X7 Tryz.prog 85 [.val (.bool b)] (· = .val (.int .i64 (b2i b))):=ZfO b
theorem ZdZ (N:Nat) (ms:List Int) (fl:Bool):∀ (d:Nat) (f:Fm),f.depth<=d->Wf f->f.size<=1000->X7 Tryz.prog 44 [.agg [.vec (X8 (Xt N)) false,.vec (Xc ms) fl],.agg (fC .u8 f)] (· = .val (.int .i64 (evM N ms f))):=by
 intro d
 induction d with
 | zero=>intro f hf; rw [Fm.depth_eq] at hf; omega
 | succ d ih =>
   rintro⟨op,n,roles,args⟩ hf hw hsz;have w:=hw.inv;have hwp:Xe [.vec (X8 (Xt N)) false,.vec (Xc ms) fl]:=⟨ZA _,Zf _,Yt⟩
   have hwi:X26 (· < 0) [.vec (X8 (Xt N)) false,.vec (Xc ms) fl]:=ZC (fun _ h=>h.elim) _ hwp;have hpu:=Z7E .u8 (.mk op n roles args) (· < 0);refine Yp ok44 fun C hC=>?_;refine Zn ?_;refine Z8 ?_;refine Z5 rfl rfl rfl ?_;refine Z5 rfl rfl rfl ?_;refine Z3 rfl rfl rfl ?_;refine Z1h ?_;by_cases h8:8<=op
   . obtain ⟨x, y, rfl⟩ := w.two h8;obtain⟨wx,tx⟩:=w.arg x (by simp);obtain⟨wy,ty⟩:=w.arg y (by simp);rw [Z4O] at hf;rw [Z61] at hsz;obtain⟨⟨x1,x2⟩,x3⟩:=Z2z N ms d x (by omega) wx;obtain⟨⟨y1,y2⟩,y3⟩:=Z2z N ms d y (by omega) wy;have ihx:=ih x (by omega) wx (by omega);have ihy:=ih y (by omega) wy (by omega);rw [Zbt _ _ _ _ _ _ h8];have hwt:op<11->Xx x.op=1/\Xx y.op=1:=fun h=>by
      rw [X1J,Y8 (by omega)] at tx ty; exact⟨tx,ty⟩
     refine Z2g hC True 0 [(2,.cp [.vec (X8 (Xt N)) false,.vec (Xc ms) fl]),(3,.cp (fC .u8 (.mk op n roles [x,y])))] [] (Y0m _) ?_ fun _=>?_
     . rcases X3Y w.lo w.hi with rfl | rfl | rfl | rfl | rfl | rfl | rfl | rfl | rfl | rfl | rfl | rfl | rfl | rfl | rfl | rfl
       all_goals first|(exfalso;omega)|skip
       all_goals
        (refine go ?_;repeat' (apply B<;>intro hb<;>try cases hb));exact⟨Yt,⟨⟨rfl,hwi⟩,⟨rfl,hpu⟩,Yt⟩,Yt⟩
     refine Z2g hC True 0 [(3,.cp (fC .u8 (.mk op n roles [x,y]))),(8,.val (.int .i64 (evM N ms x))),(9,.val (.int .i64 (evM N ms y)))] [] (Y0m _) ?_ fun _=>?_
     . (refine go ?_;repeat' (apply B<;>intro hb<;>try cases hb));refine Qr (Zk (xs := [x,y]) rfl rfl 0 rfl (Y1g _) (Zz _ _)) ?_;rw [show [x,y][0]=x from rfl,ZI .u8 x];(refine go ?_;repeat' (apply B<;>intro hb<;>try cases hb));refine Qd ihx ⟨hwp,Zl _ _,Yt⟩ ?_;(refine go ?_;repeat' (apply B<;>intro hb<;>try cases hb));refine Qr (Zk (xs := [x,y]) rfl rfl 1 rfl (Y1S _) (Zz _ _)) ?_;rw [show [x,y][1]=y from rfl,ZI .u8 y];(refine go ?_;repeat' (apply B<;>intro hb<;>try cases hb));refine Qd ihy ⟨hwp,Zl _ _,Yt⟩ ?_;(refine go ?_;repeat' (apply B<;>intro hb<;>try cases hb));exact⟨Yt,⟨⟨rfl,hpu⟩,⟨rfl,Yt⟩,⟨rfl,Yt⟩,Yt⟩,Yt⟩
     generalize evM N ms x=a at *;generalize evM N ms y=b at *;rcases X3Y w.lo w.hi with rfl|rfl|rfl|rfl|rfl|rfl|rfl|rfl|rfl|rfl|rfl|rfl|rfl|rfl|rfl|rfl
     all_goals first|(exfalso;omega)|skip
     . obtain ⟨t1, t2⟩ := hwt (by omega);(refine go ?_;repeat' (apply B<;>intro hb<;>try cases hb));refine Z4 rfl Yt ?_;have:IntKind.i64.wrap (a*b)=a*b:=by rcases x3 t1 with h|h<;>rcases y3 t2 with h' | h'<;>rw [h,h']<;>rfl
       rw [this]; rfl
     . (refine go ?_;repeat' (apply B<;>intro hb<;>try cases hb));exact Z4 rfl Yt rfl
     . obtain ⟨t1, t2⟩ := hwt (by omega);have:IntKind.i64.wrap (1-a)=1-a:=by rcases x3 t1 with h|h<;>rw [h]<;>rfl
       (refine go ?_;repeat' (apply B<;>intro hb<;>try cases hb));refine Z4 rfl Yt ?_;rw [this]; rfl
     iterate 5
      . (refine go ?_;repeat' (apply B<;>intro hb<;>try cases hb))
        all_goals
         refine Qe (Zd0 _) ⟨Yt,Yt⟩ ?_;(refine go ?_;repeat' (apply B<;>intro hb<;>try cases hb));exact Z4 rfl Yt (congrArg (fun z=>PV.val (Value.int .i64 (b2i z))) hb.symm)
     . have : IntKind.i64.wrap (a + b) = a + b := Y0v _ ⟨by omega, by omega⟩;(refine go ?_;repeat' (apply B<;>intro hb<;>try cases hb));refine Z4 rfl Yt ?_;rw [this]; rfl
   rcases X3Y w.lo w.hi with rfl|rfl|rfl|rfl|rfl|rfl|rfl|h
   . (refine go ?_;repeat' (apply B<;>intro hb<;>try cases hb));exact Z4 rfl Yt rfl
   . (refine go ?_;repeat' (apply B<;>intro hb<;>try cases hb));exact Z4 rfl Yt rfl
   . (refine go ?_;repeat' (apply B<;>intro hb<;>try cases hb));exact Z4 rfl Yt rfl
   iterate 2
    . have hl := Z19 roles;have hmost:=w.most;have hm8:roles.length<=8:=by
       have:(roles.length:Int)<=8:=Y43 hmost (by decide);omega
      (refine go ?_;repeat' (apply B<;>intro hb<;>try cases hb));refine Zv hC (fun i=>i<=roles.length) (fun i=>roles.length-i) 0 (fun i => [(2,.cp [.vec (X8 (Xt N)) false,.vec (Xc ms) fl]),(5,.val (.int .i64 (X2y N (roles.take i)))),(24,.vec (Xc roles) false),(25,.val (.int .i64 roles.length)),(26,Yv i)]) (fun _=>[]) (Y0m _) 0 (Y0l _)
       ⟨⟨rfl,hwi⟩,⟨rfl,Yt⟩,⟨rfl,ZU _ _⟩,⟨by rw [<- hl]; rfl,Yt⟩,⟨rfl,Yt⟩,Yt⟩ Yt ?_
      intro i hi;have hinc:IntKind.i64.wrap ((i:Int)+1)=((i+1:Nat):Int):=Y0v _ ⟨by omega,by omega⟩;(refine go ?_;repeat' (apply B<;>intro hb<;>try cases hb))
      . have hil : i < roles.length := by simpa using hb
        refine Qo (Zk (xs:=roles) rfl rfl i rfl hil rfl) ?_;have hrr:=w.rng roles[i] (Y0j _);have hadd:IntKind.i64.wrap (X2y N (roles.take i)+b2i (N.testBit roles[i].toNat))=X2y N (roles.take (i+1)):=by
         have h1:=Z9P (N:=N) hil;have h2:=Z5m N (roles.take (i+1));have h3:(roles.take (i+1)).length<=roles.length:=by rw [Y0o]; omega
         rw [<- h1];exact Y0v _ ⟨by omega,by omega⟩
        (refine go ?_;repeat' (apply B<;>intro hb<;>try cases hb));refine Qe (Z9Q N roles[i] (by omega) (by omega)) ⟨⟨ZA _,Yt⟩,Yt,Yt⟩ ?_;refine Qe (Zd0 _) ⟨Yt,Yt⟩ ?_;refine Ze rfl rfl rfl hadd ?_;(refine go ?_;repeat' (apply B<;>intro hb<;>try cases hb));exact⟨i+1,by omega,by omega,⟨⟨rfl,hwi⟩,⟨rfl,Yt⟩,⟨rfl,ZU _ _⟩,⟨rfl,Yt⟩,⟨by show some _=some _; rw [hinc],Yt⟩,Yt⟩,Yt⟩
      . have hil : i = roles.length := by simp at hb; omega
        subst hil;rw [Y0q];exact Z4 rfl Yt rfl
   . obtain ⟨r, rfl⟩ := w.role (.inr rfl);have hrr:=w.rng r (by simp);(refine go ?_;repeat' (apply B<;>intro hb<;>try cases hb));refine Qd (ZdY _ (ZA _) ms fl r (by omega)) ⟨hwp,Yt,Yt⟩ ?_;(refine go ?_;repeat' (apply B<;>intro hb<;>try cases hb));exact Z4 rfl Yt rfl
   . obtain ⟨x, rfl⟩ := w.one;obtain⟨wx,tx⟩:=w.arg x (by simp);rw [Z4N] at hf;rw [Z60] at hsz;obtain⟨⟨x1,x2⟩,x3⟩:=Z2z N ms d x (by omega) wx;have ihx:=ih x (by omega) wx (by omega);rw [Zbs];(refine go ?_;repeat' (apply B<;>intro hb<;>try cases hb));refine Qr (Zk (xs := [x]) rfl rfl 0 rfl (Y1g _) (Zz _ _)) ?_;rw [show [x][0]=x from rfl,ZI .u8 x];(refine go ?_;repeat' (apply B<;>intro hb<;>try cases hb));refine Qd ihx ⟨hwp,Zl _ _,Yt⟩ ?_;have:IntKind.i64.wrap (1-evM N ms x)=1-evM N ms x:=Y0v _ ⟨by omega,by omega⟩;(refine go ?_;repeat' (apply B<;>intro hb<;>try cases hb));refine Z4 rfl Yt ?_;rw [this]
   . omega
theorem ZfS {f:Fm} (h:X1f f=0):Wf f/\f.depth<=10/\f.size<=200/\X1g f=Xx f.op:=by
 unfold X1f at h;unfold X1g
 split at h
 . cases h
 . rename_i h1
   split at h
   . rename_i h2
     split at h
     . rename_i h3;exact⟨⟨h2,h3⟩,by omega,by omega,by rw [Y8 h1,Y7 h2,Y7 h3]⟩
     . cases h
   . rename_i h2; exact absurd h h2
theorem Ze0 (N:Nat) (ms:List Int) (fl:Bool) (f:Fm) (hd:f.depth<=1000) (hsz:f.size<=1099511627776):X7 Tryz.prog 12 [.agg (fC .u8 f),XH N,.vec (Xc ms) fl] (· = .val (.bool (decide (X1f f=0)&&decide (X1g f=1)&&decide (evM N ms f=1)))):=by
 refine Yp ok12 fun C hC=>?_;have hp:Xe [.vec (X8 (Xt N)) false]:=⟨ZA _,Yt⟩
 have hwp:Xe [.vec (X8 (Xt N)) false,.vec (Xc ms) fl]:=⟨ZA _,Zf _,Yt⟩
 refine Zn ?_;refine Z8 ?_;refine Z5 rfl rfl rfl ?_;refine Z5 rfl rfl rfl ?_;(refine go ?_;repeat' (apply B<;>intro hb<;>try cases hb));refine Qe (Zbq f hd hsz) ⟨Zl _ _,Yt⟩ ?_;(refine go ?_;repeat' (apply B<;>intro hb<;>try cases hb))
 . have h0 : X1f f = 0 := by rename_i h; simpa using h
   have h1:X1g f=1:=by simpa using hb
   obtain⟨hw,_,hs,_⟩:=ZfS h0;refine Qe (ZdZ N ms fl f.depth f (Y0m _) hw (by omega)) ⟨hwp,Zl _ _,Yt⟩ ?_;(refine go ?_;repeat' (apply B<;>intro hb<;>try cases hb))
   all_goals
    refine Z4 rfl Yt ?_;simp at hb;simp [h0,h1,hb]
 . refine Z4 rfl Yt ?_;simp at hb;simp [hb]
 . refine Z4 rfl Yt ?_;simp at hb;simp [hb]
theorem Ze1 (N:Nat):X4i (Xt N):=by
 induction N using Nat.strongRecOn with
 | _ N ih =>
   by_cases h:N=0
   . rw [h,ZK]; exact .inl rfl
   . rw [Z2F h];refine .inr ?_;have:=ih (N / 18446744073709551616) (by omega);cases hd:Xt (N / 18446744073709551616) with
     | nil =>
       have h0:=Z5Z (N / 18446744073709551616);rw [hd] at h0;simp only [ofW] at h0;simp;omega
     | cons y s =>
       rw [hd] at this;rcases this with h|h
       . simp at h
       . simpa using h
theorem ZfT:∀ (l:List Nat) (k:Nat),ofW (l++List.replicate k 0)=ofW l
 | [], k => by
   rw [Y1M];exact Z5Y fun j=>by rw [Y0b,Y2x]; split<;>rfl
 | x :: r,k=>by simp only [Y1n,ofW,ZfT r k]
theorem ZfU (x j:Nat):x ||| 2 ^ j≠0:=fun h=>by
 have:=congrArg (fun z=>Nat.testBit z j) h;simp [Y00] at this
theorem Ze2 (N i:Nat) (h:i<=4095) (L:Nat) (hL:L=max (Xt N).length (i / 64+1)) :
 let l:=Xt N++List.replicate (L-(Xt N).length) 0
 X1o l/\l.length=L/\i / 64<l.length/\∃ v,v=l.getD (i / 64) 0 ||| 2 ^ (i % 64)/\X53 (l.set (i / 64) v)=XH (N ||| 2 ^ i):=by
 intro l;have hw:X1o l:=fun x hx=>by
  rcases Y0h.1 hx with hx|hx
  . exact Z1Y N x hx
  . rw [Y22 hx]; omega
 have hl:l.length=L:=by simp [l]; omega
 have hi:i / 64<l.length:=by omega
 refine⟨hw,hl,hi,_,rfl,?_⟩;have hm:i % 64<64:=Y28 _ (by omega);have hv:l.getD (i / 64) 0 ||| 2 ^ (i % 64)<18446744073709551616:=Y1h (n:=64) (hw.getD _) (Y14 (by omega) hm)
 have hc:X4i (l.set (i / 64) (l.getD (i / 64) 0 ||| 2 ^ (i % 64))):=by
  refine .inr ?_;rw [Y3t,hl];by_cases he:L-1=i / 64
  . rw [he, Y0b, Y1o];simp only [Y7 hi,Y1P,Y1R];exact ZfU _ _
  . have hLd : L = (Xt N).length := by omega
    rw [Y0b,Y1o,Y8 (Y2t he),<- Y0b];have hl2:l=Xt N:=by simp [l,hLd]
    rw [hl2,hLd];rcases Ze1 N with h0|h0
    . omega
    . exact h0
 rw [ZcV (hw.set _ hv) hc,Zj4 hw hi hm,ZfT,Z5Z,show 64*(i / 64)+i % 64=i by omega]
def X2W (N:Nat) (i:Int):Nat:=if 0<=i/\i<=4095 then N ||| 2 ^ i.toNat else N
theorem ZfV {N i:Nat} (h:N.testBit i=true):N ||| 2 ^ i=N:=by
 refine YB fun j=>?_;rw [Y00,YJ];by_cases hj:i=j
 . subst hj; simp [h]
 . simp [hj]
theorem Z6s (N:Nat) (hN:(Xt N).length<=64) (i:Int):X7 Tryz.prog 11 [XH N,.val (.int .i64 i)] (· = XH (X2W N i)):=by
 refine Yp ok11 fun C hC=>?_;refine Zn ?_;refine Z8 ?_;refine Z5 rfl rfl rfl ?_;(refine go ?_;repeat' (apply B<;>intro hb<;>try cases hb))
 . refine Z4 rfl (Z9 N) ?_;rw [X2W,Y8 (by simp at hb;omega)]; rfl
 . refine Z4 rfl (Z9 N) ?_;rw [X2W,Y8 (by simp at hb;omega)]; rfl
 rename_i h0;have h1:0<=i:=by simp at h0; omega
 have h2:i<=4095:=by simp at hb; omega
 obtain⟨j,rfl⟩:∃ j:Nat,i=j:=⟨i.toNat,by omega⟩
 rw [X2W,Y7 ⟨h1,h2⟩,YY];have hs:=Z9Q N j h1 h2;rw [YY] at hs;refine Qe hs ⟨⟨ZA _,Yt⟩,Yt,Yt⟩ ?_;cases ht:N.testBit j with
 | true =>
   refine go ?_;refine Z4 rfl (Z9 N) ?_;rw [ZfV ht]; rfl
 | false =>
   have hdl:(X8 (Xt N)).length=(Xt N).length:=by simp [X8]
   obtain⟨hw,hl,hi,v,hv,hset⟩:=Ze2 N j (by omega) _ rfl;have hq:IntKind.i64.wrap ((j:Int).tdiv 64)=((j / 64:Nat):Int):=by
    rw [Y2y _ _ ⟨by omega,by omega,by omega⟩]; omega
   have hr:(j:Int).tmod 64=((j % 64:Nat):Int):=by
    rw [Y12 (by omega)]; omega
   have hq1:IntKind.i64.wrap (((j / 64:Nat):Int)+1)=((j / 64+1:Nat):Int):=Y0v _ ⟨by omega,by omega⟩;have hmax:(if ((j / 64+1:Nat):Int)>(((X8 (Xt N)).length:Nat):Int) then ((j / 64+1:Nat):Int) else (((X8 (Xt N)).length:Nat):Int))=((max (Xt N).length (j / 64+1):Nat):Int):=by
    rw [hdl]; split<;>omega
   generalize max (Xt N).length (j / 64+1)=L at *;refine go ?_;rw [hq,hq1,hmax];refine ZB (Z4E (a:=L) (b:=L) rfl rfl (Y0m _) (by omega)) rfl rfl ?_;have hrep:List.replicate L (zpv [Value.int .u64 0])=X8 (List.replicate L 0):=by simp [X8,zpv,X2p]
   rw [hrep];have hcopy:(X8 (Xt N)).take (X8 (List.replicate L 0)).length++(X8 (List.replicate L 0)).drop (X8 (Xt N)).length=X8 (Xt N++List.replicate (L-(Xt N).length) 0):=by
    have hle:(Xt N).length<=L:=by omega
    have e1:(X8 (List.replicate L 0)).length=L:=by simp [X8]
    rw [e1,Y2a (by rw [hdl]; exact hle),hdl];simp [X8,Y0r,List.drop_replicate]
   have hwl:∀ c∈X8 (Xt N),c.length=1:=fun c hc=>by obtain⟨x,_,rfl⟩:=Y0i.1 hc; rfl
   iterate 7 (first|refine st ?_|(apply B<;>intro hb<;>try cases hb))
   refine Qo (ZfG (k:=1) rfl rfl rfl hwl rfl) ?_;simp only;rw [hcopy];generalize Xt N++List.replicate (L-(Xt N).length) 0=ws at *;have hm64:j % 64<64:=Y28 _ (by omega);have hwn:(X8 ws).length=ws.length:=by simp [X8]
   have hel:(X8 ws).getD (j / 64) [] = [.val (.int .u64 (ws.getD (j / 64) 0:Nat))]:=by simp [X8,Y0b,hi]
   refine go ?_;rw [hq];refine Qr (Z1d rfl rfl rfl (j / 64) rfl (by rw [hwn]; exact hi) rfl) ?_;refine Qr (Z4F rfl rfl (by rw [hwn]; exact hi) (by rw [hel]; rfl)) ?_;(first|refine st ?_|(apply B<;>intro hb<;>try cases hb));refine Qr (Z2N rfl hr) ?_
   refine Qr (ZfF rfl rfl (by omega) (v:=((2 ^ (j % 64):Nat):Int)) (by
    rw [show min (((j % 64:Nat):Int)).toNat IntKind.u64.bits=j % 64 by simp [IntKind.bits]; omega];have:2 ^ (j % 64)<2 ^ 64:=Y14 (by omega) hm64;rw [Y3J,show (2:Int) ^ (j % 64)=((2 ^ (j % 64):Nat):Int) by simp]
    exact Y0x _ ⟨Y1U _,Y2I.2 (show _<=18446744073709551615 by omega)⟩)) ?_
   refine Qr (Z2N rfl (Y2S _ _ (hw.getD _) (show 2 ^ (j % 64)<2 ^ 64 from Y14 (by omega) hm64))) ?_;refine Qr (Z1d rfl rfl rfl (j / 64) rfl (by rw [hwn]; exact hi) rfl) ?_;refine Qr (Z3s rfl rfl rfl rfl rfl (by rw [hwn]; exact hi) (Y0m _)) ?_;rw [hel,show XK [PV.val (Value.int .u64 (ws.getD (j / 64) 0:Nat))] 0 (PV.val (Value.int .u64 ((ws.getD (j / 64) 0 ||| 2 ^ (j % 64):Nat):Int))).cells = [.val (.int .u64 ((ws.getD (j / 64) 0 ||| 2 ^ (j % 64):Nat):Int))] from rfl];simp only;rw [Z9G,<- hv];generalize ws.set (j / 64) v=w2 at *
   iterate 4 (first|refine st ?_|(apply B<;>intro hb<;>try cases hb))
   refine Zm (Zo (k:=40) rfl rfl (ZA w2)) ?_;refine go ?_;refine Z4 rfl (Z2V w2) ?_;exact hset
theorem Z3W {N:Nat} (h:N<18446744073709551616):(Xt N).length<=1:=by
 by_cases h0:N=0
 . rw [h0,ZK]; simp
 . rw [Z2F h0,Y1y h,ZK]; simp
end
end Go.Proofs.YtgpjedjgmpienaaGreatDoor
