/-
  Merged from the texts that this claim's theorem needs, part 3 of 7. No statement of the seat is proved here.
-/
import Derived.Carry
import Derived.IntWalk
import Derived.KernelRfl
import Derived.LaidMore
import Derived.OpenShut
import Derived.ProofKit
import Derived.SizedLaws
import Derived.Test.YthgklpbcmbmmcaaGreatDoorChecked
import Derived.Test.YthgklpbcmbmmcaaGreatDoorRows
import Derived.WalkSmall
import Derived.Test.YthgklpbcmbmmcaaGreatDoorMq1
set_option linter.unusedSimpArgs false
set_option linter.unusedVariables false
set_option linter.unusedSectionVars false
namespace Go.Proofs.YthgklpbcmbmmcaaGreatDoor
open Go.RowKit Go.ChangeShapes
def cellF (w:World):Froz:=fun x=>match x.spot with
 | none => match w.cell? x with
   | some v=>if v.oneCell' then some v else none
   | none=>none
 | some _=>none
def GlobsIn (w:World):Prop:=∀ (g j:Nat) (v:Value),(globs g)[j]?=some v→w.cell? ⟨g,j,none⟩=some v
theorem Z9f {w:World} (hgl:GlobsIn w):Holds (cellF w) w:=by
 refine⟨?_,fun g j v hv=>by
  have h1:=hgl g j v hv
  have h2:=Zcf g j v hv
  simp [cellF,h1,h2]⟩
 intro x v hx
 unfold cellF at hx
 split at hx
 · rename_i hs
   split at hx
   · rename_i u hu
     split at hx
     · rename_i h1
       cases hx
       exact⟨hs,h1,hu⟩
     · cases hx
   · cases hx
 · cases hx
theorem Zeq {w:World} {b o:Nat} {v:Value} (hc:w.cell? ⟨b,o,none⟩=some v) (h1:v.oneCell'=true):cellF w ⟨b,o,none⟩=some v:=by
 simp [cellF,hc,h1]
def Shape (P:Program):Nat→TypeId→List PV→Prop
 | 0,_,_=>False
 | n + 1, t, ps => match P.underlying t with
   | some .bool=>∃ b,ps = [.val (.bool b)]
   | some (.int k)=>∃ m,(Lit.int k m).wf=true∧ps = [.val (.int k m)]
   | some .string=>∃ s,s.size≤maxVec∧ps = [.val (.string s)]
   | some (.pointer e)=>ps = [.val (.pointer none)] ∨ ∃ l,Shape P n e l∧ps = [.cp l]
   | some (.slice e)=>∃ ll fl,ll.length≤maxVec∧(∀ l∈ll,Shape P n e l)∧ps = [.vec ll fl]
   | some (.struct fs)=>ps.length=P.cellsOf t∧∀ f∈fs.toList,Shape P n f.type ((ps.drop f.offset).take (P.cellsOf f.type))
   | some (.array m e)=>ps.length=P.cellsOf t∧∀ i,i<m→Shape P n e ((ps.drop (i*P.cellsOf e)).take (P.cellsOf e))
   | _=>∃ v,ps = [.val v]
theorem mapM_some' {α β:Type} {f:α→Option β}:∀ {l:List α} {ys:List β},l.mapM f=some ys→ys.length=l.length∧∀ i (h:i<l.length) (h':i<ys.length),f l[i]=some ys[i]
 | [], ys, h => by
   obtain rfl : []=ys:=by simpa using h
   exact⟨rfl,fun i hi=>absurd hi (Nat.not_lt_zero _)⟩
 | a :: l, ys, h => by
   rw [List.mapM_cons] at h
   cases ha:f a with
   | none=>simp [ha] at h
   | some b =>
     cases hl:l.mapM f with
     | none=>simp [ha,hl] at h
     | some bs =>
       obtain rfl:b :: bs=ys:=by simpa [ha,hl] using h
       obtain⟨h1,h2⟩:=mapM_some' hl
       refine⟨by simp [h1],fun i hi hi'=>?_⟩
       cases i with
       | zero=>simpa using ha
       | succ i=>simpa using h2 i (by simpa using hi) (by simpa using hi')
theorem cells?_some {w:World} {a:Addr} {n:Nat} {cs:List Value} (h:w.cells? 0 a n=some cs):cs.length=n∧∀ j,(hj:j<cs.length)→w.cell? (a.add j)=some cs[j]:=by
 unfold World.cells? at h
 rw [if_pos (Nat.zero_le _)] at h
 obtain⟨h1,h2⟩:=mapM_some' h
 have hn:cs.length=n:=by simpa using h1
 refine⟨hn,fun j hj=>?_⟩
 have:=h2 j (by simp;omega) hj
 simpa using this
structure CellsR (w:World) (cs:List Value) (ps:List PV):Prop where
 len:cs.length=ps.length
 one:∀ j,j<ps.length→(cs.getD j undef).oneCell'=true
 rep:∀ j,j<ps.length→Rep (cellF w) noLoc (cs.getD j undef) (ps.getD j pvu)
 pure:pureL ps
theorem CellsR.single {w:World} {v:Value} {p:PV} (h1:v.oneCell'=true) (hr:Rep (cellF w) noLoc v p) (hp:p.pure):CellsR w [v] [p] :=
 ⟨rfl, fun j hj => by obtain rfl : j = 0 := by simpa using hj
                      exact h1, fun j hj => by obtain rfl : j = 0 := by simpa using hj
                                               exact hr,hp,trivial⟩
theorem CellsR.nil {w:World}:CellsR w [] []:=⟨rfl,fun j hj=>absurd hj (Nat.not_lt_zero _),fun j hj=>absurd hj (Nat.not_lt_zero _),trivial⟩
theorem CellsR.append {w:World} {cs cs':List Value} {ps ps':List PV} (h:CellsR w cs ps) (h':CellsR w cs' ps'):CellsR w (cs++cs') (ps++ps'):=by
 refine⟨by simp [h.len,h'.len],fun j hj=>?_,fun j hj=>?_,(Z3d _ _).2 fun p hp=>?_⟩
 · by_cases hl : j < ps.length
   · have := h.one j hl
     simpa [List.getD_eq_getElem?_getD,List.getElem?_append,h.len,hl] using this
   · have := h'.one (j - ps.length) (by simp at hj; omega)
     simpa [List.getD_eq_getElem?_getD,List.getElem?_append,h.len,hl] using this
 · by_cases hl : j < ps.length
   · have := h.rep j hl
     simpa [List.getD_eq_getElem?_getD,List.getElem?_append,h.len,hl] using this
   · have := h'.rep (j - ps.length) (by simp at hj; omega)
     simpa [List.getD_eq_getElem?_getD,List.getElem?_append,h.len,hl] using this
 · rcases List.mem_append.1 hp with hp | hp
   · exact (Z3d _ _).1 h.pure p hp
   · exact (Z3d _ _).1 h'.pure p hp
def tile (P:Program) (off:Nat) (total:Nat):List Field→Bool
 | []=>off == total
 | f :: r=>f.offset == off&&tile P (off+P.cellsOf f.type) total r
def tilesT (P:Program) (G:List TypeId) (t:TypeId):Bool:=match P.underlying t with
 | some (.struct fs)=>tile P 0 (P.cellsOf t) fs.toList&&fs.toList.all fun f=>G.contains f.type
 | some (.array m e)=>P.cellsOf t == m*P.cellsOf e&&G.contains e
 | some (.slice e)=>decide (0<P.bytesOf e)&&decide (0<P.cellsOf e)&&G.contains e
 | some (.pointer e)=>decide (0<P.cellsOf e)&&G.contains e
 | _=>true
def tilesB (P:Program) (G:List TypeId):Bool:=G.all (tilesT P G)
theorem ZcK {P:Program} {G:List TypeId} (h:tilesB P G=true) {t:TypeId} (ht:G.contains t=true):tilesT P G t=true:=List.all_eq_true.1 h t (by simpa using ht)
def partsG (P:Program) (ts:List TypeId):List TypeId:=ts.flatMap P.book
theorem Z4Q {P:Program} {w:World} {S:TypeId→List PV→Prop} {cs:List Value}:∀ {fs:List Field} {off total:Nat},tile P off total fs=true→cs.length=total →
 (∀ f∈fs,∃ ps,S f.type ps∧CellsR w ((cs.drop f.offset).take (P.cellsOf f.type)) ps)→off≤total∧∃ ps,CellsR w (cs.drop off) ps∧∀ f∈fs,off≤f.offset∧S f.type ((ps.drop (f.offset-off)).take (P.cellsOf f.type))
 | [], off, total, ht, hl, _ => by
   obtain rfl:off=total:=by simpa [tile] using ht
   refine⟨Nat.le_refl _,[],?_,fun f hf=>by cases hf⟩
   rw [List.drop_eq_nil_of_le (by omega)]
   exact .nil
 | f :: r, off, total, ht, hl, hf => by
   simp only [tile,Bool.and_eq_true,beq_iff_eq] at ht
   obtain⟨rfl,ht⟩:=ht
   obtain⟨hle,ps2,hc2,hs2⟩:=Z4Q ht hl fun g hg=>hf g (by simp [hg])
   obtain⟨ps1,hs1,hc1⟩:=hf f (by simp)
   have hl1:ps1.length=P.cellsOf f.type:=by rw [← hc1.len]; simp; omega
   refine⟨by omega,ps1++ps2,?_,fun g hg=>?_⟩
   · have := hc1.append hc2
     rw [← List.drop_drop,List.take_append_drop] at this
     exact this
   · rcases List.mem_cons.1 hg with rfl | hg
     · refine ⟨Nat.le_refl _, ?_⟩
       rw [Nat.sub_self,List.drop_zero,← hl1,List.take_left]
       exact hs1
     · obtain ⟨h1, h2⟩ := hs2 g hg
       refine⟨by omega,?_⟩
       have e:g.offset-f.offset=ps1.length+(g.offset-(f.offset+P.cellsOf f.type)):=by omega
       rw [e,← List.drop_drop,List.drop_left]
       exact h2
theorem Z5u {w:World} {S:List PV→Prop} {cs:List Value} {sz:Nat}:∀ {m:Nat},cs.length=m*sz→(∀ i,i<m→∃ ps,S ps∧CellsR w ((cs.drop (i*sz)).take sz) ps)→∃ ps,CellsR w cs ps∧∀ i,i<m→S ((ps.drop (i*sz)).take sz)
 | 0, hl, _ => by
   obtain rfl:cs = []:=List.eq_nil_of_length_eq_zero (by simpa using hl)
   exact⟨[],.nil,fun i hi=>absurd hi (Nat.not_lt_zero _)⟩
 | m + 1, hl, hf => by
   have hlm:(cs.take (m*sz)).length=m*sz:=by rw [List.length_take,hl]; exact Nat.min_eq_left (Nat.mul_le_mul_right _ (by omega))
   obtain⟨ps1,hc1,hs1⟩:=Z5u (cs:=cs.take (m*sz)) hlm fun i hi=>by
    obtain⟨ps,h1,h2⟩:=hf i (by omega)
    refine⟨ps,h1,?_⟩
    rw [List.drop_take,List.take_take,Nat.min_eq_left (by
     have:(i+1)*sz≤m*sz:=Nat.mul_le_mul_right _ hi
     rw [Nat.add_mul] at this;omega)]
    exact h2
   obtain⟨ps2,hs2,hc2⟩:=hf m (by omega)
   have hl1:ps1.length=m*sz:=by rw [← hc1.len,hlm]
   have hd:(cs.drop (m*sz)).take sz=cs.drop (m*sz):=List.take_of_length_le (by rw [List.length_drop,hl,Nat.add_mul];omega)
   rw [hd] at hc2
   have hl2:ps2.length=sz:=by rw [← hc2.len,List.length_drop,hl,Nat.add_mul]; omega
   refine⟨ps1++ps2,by have:=hc1.append hc2; rwa [List.take_append_drop] at this,fun i hi=>?_⟩
   by_cases him:i<m
   · have hle : i * sz + sz ≤ ps1.length := by
      have:(i+1)*sz≤m*sz:=Nat.mul_le_mul_right _ him
      rw [Nat.add_mul] at this; omega
     rw [List.drop_append_of_le_length (by omega),List.take_append_of_le_length (by rw [List.length_drop];omega)]
     exact hs1 i him
   · obtain rfl : i = m := by omega
     rw [← hl1,List.drop_left,List.take_of_length_le (by omega)]
     exact hs2
theorem Z2m {H:Type} {P:Program} {e:TypeId}:∀ {ds:List (DataW H)} {d:DataW H},d∈ds→∀ x∈d.weights P e,x∈DataW.weightsAll P e ds
 | [],_,h,_,_=>by cases h
 | a :: r, d, h, x, hx => by
   rw [DataW.weightsAll,List.mem_append]
   rcases List.mem_cons.1 h with rfl|h
   · exact .inl hx
   · exact .inr (Z2m h x hx)
theorem Z31 {H:Type} {P:Program}:∀ {ts:List TypeId} {ds:List (DataW H)} {i:Nat} {t:TypeId} {d:DataW H},ts[i]?=some t→ds[i]?=some d→∀ x∈d.weights P t,x∈DataW.weightsEach P ts ds
 | [],_,i,t,d,h,_,_,_=>by simp at h
 | a :: ts,[],i,t,d,_,h,_,_=>by simp at h
 | a :: ts, b :: ds, 0, t, d, h, h', x, hx => by
   obtain rfl:a=t:=by simpa using h
   obtain rfl:b=d:=by simpa using h'
   rw [DataW.weightsEach,List.mem_append]
   exact .inl hx
 | a :: ts, b :: ds, i + 1, t, d, h, h', x, hx => by
   rw [DataW.weightsEach,List.mem_append]
   exact .inr (Z31 (i:=i) (by simpa using h) (by simpa using h') x hx)
section
variable {H:Type} {enc:TypeId×Value→H} {P:Program} {w:World} {sp:Nat→Bool}
theorem Z8b {a:Addr} {n:Nat} {cs:List Value} {ps:List PV} (hc:w.cells? 0 a n=some cs) (hs:a.spot=none) (h:CellsR w cs ps):ps.length=n∧∀ j,j<ps.length→cellF w ⟨a.block,a.off+j,none⟩=some (cs.getD j undef):=by
 obtain⟨h1,h2⟩:=cells?_some hc
 refine⟨by rw [← h.len,h1],fun j hj=>?_⟩
 have hj':j<cs.length:=by rw [h.len]; exact hj
 have:=h2 j hj'
 rw [ZR _ _ hs] at this
 have e:cs.getD j undef=cs[j]:=by simp [List.getD_eq_getElem?_getD,hj']
 rw [e]
 exact Zeq this (by rw [← e]; exact h.one j hj)
theorem Zaz {a:Addr} {n:Nat} {cs:List Value} (hc:w.cells? 0 a n=some cs) (hn:0<n):a.spot=none:=by
 obtain⟨h1,h2⟩:=cells?_some hc
 have:=h2 0 (by omega)
 have e:a.add 0=a:=rfl
 rw [e] at this
 cases hs:a.spot with
 | none=>rfl
 | some k =>
   unfold World.cell? at this
   rw [hs] at this
   split at this<;>simp at this
theorem Z5v {α:Type} (z:α) {Q:Nat→α→Prop}:∀ {n:Nat},(∀ i,i<n→∃ x,Q i x)→∃ l:List α,l.length=n∧∀ i,i<n→Q i (l.getD i z)
 | 0,_=>⟨[],rfl,fun i hi=>absurd hi (Nat.not_lt_zero _)⟩
 | n + 1, h => by
   obtain⟨l,hl,hq⟩:=Z5v z (n:=n) fun i hi=>h i (by omega)
   obtain⟨x,hx⟩:=h n (by omega)
   refine⟨l ++ [x],by simp [hl],fun i hi=>?_⟩
   by_cases hin:i<n
   · have := hq i hin
     simpa [List.getD_eq_getElem?_getD,List.getElem?_append,hl,hin] using this
   · obtain rfl : i = n := by omega
     simpa [List.getD_eq_getElem?_getD,List.getElem?_append,hl] using hx
theorem Z1A {G:List TypeId} (hT:tilesB P G=true):∀ {fuel:Nat} {t:TypeId} {cs:List Value} {d:DataW H} {pl:List MemPlace},G.contains t=true→DataW.trod enc P w 0 sp true fuel t cs=some (d,pl)→(∀ x∈d.weights P t,x≤reachBytes)→∃ ps,Shape P fuel t ps∧CellsR w cs ps
 | 0,_,_,_,_,_,h,_=>by simp [DataW.trod] at h
 | fuel + 1, t, cs, d, pl, ht, h, hw => by
   have hTt:=ZcK hT ht
   unfold tilesT at hTt
   have other:∀ v:Value,v.oneCell'=true→cs = [v]→(match P.underlying t with
    | some .bool|some (.int _)|some .string|some (.pointer _)|some (.slice _)|some (.struct _)|some (.array _ _)=>False
    | _=>True)→∃ ps,Shape P (fuel+1) t ps∧CellsR w cs ps:=by
    intro v h1 hcs hu
    refine⟨[.val v],?_,hcs▸.single h1 (.val v) trivial⟩
    unfold Shape
    split at hu<;>first|exact hu.elim|skip
    first|exact⟨v,rfl⟩|(split<;>first|exact⟨v,rfl⟩|simp_all)
   unfold DataW.trod at h
   split at h
   · rename_i b hu
     exact⟨[.val (.bool b)],by simp [Shape,hu],.single rfl (.val _) trivial⟩
   · rename_i k k' m hu
     split at h
     · rename_i hk
       obtain⟨rfl,hwf⟩:=hk
       exact⟨[.val (.int k' m)],by simp [Shape,hu,hwf],.single rfl (.val _) trivial⟩
     · cases h
   · rename_i k k' m hu
     exact other _ rfl rfl (by rw [hu]; trivial)
   · rename_i str hu
     split at h
     · cases h
       refine⟨[.val (.string str)],?_,.single rfl (.val _) trivial⟩
       have:=hw str.data.toList.length (by simp [DataW.weights])
       have hs:str.size≤maxVec:=by
        have e:str.data.toList.length=str.size:=Array.length_toList
        rw [e] at this
        simp only [reachBytes] at this
        simp only [maxVec]
        omega
       simp [Shape,hu,hs]
     · cases h
   · rename_i e hu
     exact⟨[.val (.pointer none)],by simp [Shape,hu],.single rfl (.val _) trivial⟩
   · rename_i e a hu
     rw [hu] at hTt
     simp only [Bool.and_eq_true,decide_eq_true_eq] at hTt
     cases hc:w.cells? 0 a (P.cellsOf e) with
     | none=>simp [hc] at h
     | some cs' =>
       cases hr:DataW.trod enc P w 0 sp true fuel e cs' with
       | none=>simp [hc,hr] at h
       | some r =>
         obtain⟨d',pl'⟩:=r
         have hd:d=.ptr d':=by simp [hc,hr] at h; exact h.1.symm
         subst hd
         obtain⟨l,hs,hcl⟩:=Z1A hT hTt.2 hr (fun x hx=>hw x (by simp only [DataW.weights,hu]; exact hx))
         have hspot:=Zaz hc hTt.1
         obtain⟨hl,hF⟩:=Z8b hc hspot hcl
         refine⟨[.cp l],by simp only [Shape,hu]; exact .inr ⟨l,hs,rfl⟩,.single rfl ?_ hcl.pure⟩
         exact .cp a l (fun j=>cs'.getD j undef) hspot hF hcl.rep
   · rename_i e hu
     exact⟨[.vec [] true],by simp only [Shape,hu]; exact⟨[],true,by simp,by simp,rfl⟩,.single rfl (.vecnil true) trivial⟩
   · rename_i e a len cap hu
     rw [hu] at hTt
     simp only [Bool.and_eq_true,decide_eq_true_eq] at hTt
     obtain⟨⟨hby,hsz⟩,het⟩:=hTt
     simp only at h
     split at h
     case isFalse=>cases h
     rename_i hcond
     cases hm:(List.range len).mapM (fun i=>(w.cells? 0 (a.add (i*P.cellsOf e)) (P.cellsOf e)).bind (DataW.trod enc P w 0 sp true fuel e)) with
     | none=>simp [hm] at h
     | some elems =>
       obtain⟨hel,hget⟩:=mapM_some' hm
       have hd:∃ rest:List (DataW H×List MemPlace),d=.slice (elems.map (·.1)) (rest.map (·.1)):=by
        rw [hm] at h
        simp only [Option.bind_some,Option.map_eq_some_iff] at h
        obtain⟨rest,_,h2⟩:=h
        exact⟨rest,by cases h2; rfl⟩
       obtain⟨rest,rfl⟩:=hd
       have hlen:elems.length=len:=by simpa using hel
       have hbound:len≤maxVec:=by
        have:=hw ((elems.length+rest.length)*P.bytesOf e) (by simp [DataW.weights,hu])
        have h3:elems.length+rest.length≤(elems.length+rest.length)*P.bytesOf e:=Nat.le_mul_of_pos_right _ hby
        simp only [reachBytes] at this
        simp only [maxVec]
        omega
       have each:∀ i,i<len→∃ cs' d' pl',w.cells? 0 (a.add (i*P.cellsOf e)) (P.cellsOf e)=some cs'∧DataW.trod enc P w 0 sp true fuel e cs'=some (d',pl')∧d'∈elems.map (·.1):=fun i hi=>by
        have:=hget i (by simpa using hi) (by omega)
        simp only [List.getElem_range,Option.bind_eq_some_iff] at this
        obtain⟨cs',h1,h2⟩:=this
        exact⟨cs',_,_,h1,h2,List.mem_map.2 ⟨elems[i],List.getElem_mem _,rfl⟩⟩
       have hspot:0<len→a.spot=none:=fun h0=>by
        obtain⟨cs',d',pl',h1,_⟩:=each 0 h0
        rw [Nat.zero_mul] at h1
        exact Zaz h1 hsz
       obtain⟨ll,hll,hq⟩:=Z5v (α:=List PV) [] (n:=len) (Q:=fun i l=>Shape P fuel e l∧l.length=P.cellsOf e∧pureL l∧∀ j,j<P.cellsOf e→∃ v,cellF w ⟨a.block,a.off+(i*P.cellsOf e+j),none⟩=some v∧Rep (cellF w) noLoc v (l.getD j pvu)) fun i hi=>by
        obtain⟨cs',d',pl',h1,h2,h3⟩:=each i hi
        obtain⟨l,hs,hcl⟩:=Z1A hT het h2 (fun x hx=>hw x (by simp only [DataW.weights,hu]; exact List.mem_cons_of_mem _ (List.mem_append.2 (.inl (Z2m h3 x hx)))))
        rw [ZR _ _ (hspot (by omega))] at h1
        obtain⟨hl,hF⟩:=Z8b h1 rfl hcl
        refine⟨l,hs,hl,hcl.pure,fun j hj=>⟨_,?_,hcl.rep j (by omega)⟩⟩
        have:=hF j (by omega)
        simp only at this
        rw [Nat.add_assoc] at this
        exact this
       have hmem:∀ l∈ll,∃ i,i<len∧ll.getD i []=l:=fun l hl=>by
        obtain⟨i,hi,rfl⟩:=List.getElem_of_mem hl
        exact⟨i,by omega,by simp [List.getD_eq_getElem?_getD,hi]⟩
       refine⟨[.vec ll false],?_,.single rfl ?_ ((Z1S _ _).2 fun l hl=>?_)⟩
       · simp only [Shape, hu]
         exact⟨ll,false,by omega,fun l hl=>by obtain⟨i,hi,rfl⟩:=hmem l hl; exact (hq i hi).1,rfl⟩
       · rw [← hll]
         refine .vec a cap (P.cellsOf e) ll false (fun i j=>(cellF w ⟨a.block,a.off+(i*P.cellsOf e+j),none⟩).getD undef) (fun hne=>hspot (by rw [← hll]; exact List.length_pos_iff.2 hne)) (by omega) (by simp) (by omega) (fun i hi=>(hq i (by omega)).2.1) (fun i j hi hj=>?_) (fun i j hi hj=>?_)
         · obtain ⟨v, h1, _⟩ := (hq i (by omega)).2.2.2 j hj
           rw [h1]; rfl
         · obtain ⟨v, h1, h2⟩ := (hq i (by omega)).2.2.2 j hj
           rw [h1]; exact h2
       · obtain ⟨i, hi, rfl⟩ := hmem l hl
         exact (hq i hi).2.2.1
   · rename_i cs _ _ fs hu
     rw [hu] at hTt
     simp only [Bool.and_eq_true,List.all_eq_true,decide_eq_true_eq] at hTt
     obtain⟨htile,hft⟩:=hTt
     split at h
     case isFalse=>cases h
     rename_i hlen
     cases hm:fs.toList.mapM (fun f=>DataW.trod enc P w 0 sp true fuel f.type ((cs.drop f.offset).take (P.cellsOf f.type))) with
     | none=>simp [hm] at h
     | some xs =>
       obtain⟨hxl,hget⟩:=mapM_some' hm
       obtain rfl:d=.agg (xs.map (·.1)):=by simp [hm] at h; exact h.1.symm
       obtain⟨_,ps,hc,hs⟩:=Z4Q (P:=P) (S:=fun t ps=>Shape P fuel t ps) htile hlen fun f hf=>by
        obtain⟨i,hi,rfl⟩:=List.getElem_of_mem hf
        have h2:=hget i hi (by omega)
        refine Z1A hT (hft _ hf) (d := (xs[i]'(by omega)).1) (pl := (xs[i]'(by omega)).2) h2 fun x hx => hw x ?_
        simp only [DataW.weights,hu]
        exact Z31 (i := i) (t := fs.toList[i].type) (d := (xs[i]'(by omega)).1) (by rw [List.getElem?_map,List.getElem?_eq_getElem hi]; rfl) (by rw [List.getElem?_map,List.getElem?_eq_getElem (by omega)]; rfl) x hx
       rw [List.drop_zero] at hc
       refine⟨ps,?_,hc⟩
       simp only [Shape,hu]
       exact⟨by rw [← hc.len]; exact hlen,fun f hf=>by have:=(hs f hf).2; rwa [Nat.sub_zero] at this⟩
   · rename_i cs _ _ m e hu
     rw [hu] at hTt
     simp only [Bool.and_eq_true,beq_iff_eq,decide_eq_true_eq] at hTt
     obtain⟨htile,het⟩:=hTt
     split at h
     case isFalse=>cases h
     rename_i hlen
     cases hm:(List.range m).mapM (fun i=>DataW.trod enc P w 0 sp true fuel e ((cs.drop (i*P.cellsOf e)).take (P.cellsOf e))) with
     | none=>simp [hm] at h
     | some xs =>
       obtain⟨hxl,hget⟩:=mapM_some' hm
       obtain rfl:d=.agg (xs.map (·.1)):=by simp [hm] at h; exact h.1.symm
       have hxm:xs.length=m:=by simpa using hxl
       obtain⟨ps,hc,hs⟩:=Z5u (S:=Shape P fuel e) (sz:=P.cellsOf e) (m:=m) (by rw [hlen,htile]) fun i hi=>by
        have h2:=hget i (by simpa using hi) (by omega)
        simp only [List.getElem_range] at h2
        refine Z1A hT het (d := (xs[i]'(by omega)).1) (pl := (xs[i]'(by omega)).2) h2 fun x hx => hw x ?_
        simp only [DataW.weights,hu]
        exact Z2m (List.mem_map.2 ⟨xs[i]'(by omega),List.getElem_mem _,rfl⟩) x hx
       refine⟨ps,?_,hc⟩
       simp only [Shape,hu]
       exact⟨by rw [← hc.len]; exact hlen,hs⟩
   all_goals first
    | (cases h; done)
    | (rename_i hu; exact other _ rfl rfl (by rw [hu]; trivial))
end
end Go.Proofs.YthgklpbcmbmmcaaGreatDoor
namespace Go.Proofs.YthgklpbcmbmmcaaGreatDoor
open Go.RowKit Go.ChangeShapes Go.WideShapes
def ShapeV (P:Program) (t:TypeId) (p:PV):Prop:=∃ n,match P.underlying t with
 | some (.struct _)|some (.array _ _)=>∃ ps,p=.agg ps∧Shape P n t ps
 | _=>Shape P n t [p]
def ShapeVs (P:Program):List TypeId→List PV→Prop
 | [],[]=>True
 | t :: ts,p :: ps=>ShapeV P t p∧ShapeVs P ts ps
 | _,_=>False
section
variable {H:Type} {enc:TypeId×Value→H} {P:Program} {w:World}
theorem Z43 {v:Value} {ps:List PV} (h:CellsR w [v] ps):∃ p,ps = [p]∧Rep (cellF w) noLoc v p∧p.pure:=by
 have hl:=h.len
 obtain⟨p,rfl⟩:∃ p,ps = [p]:=by
  cases ps with
  | nil=>simp at hl
  | cons p r => cases r with
    | nil=>exact⟨p,rfl⟩
    | cons _ _=>simp at hl
 exact⟨p,rfl,by simpa using h.rep 0 (by simp),h.pure.1⟩
theorem Z6t {t:TypeId} {v:Value} {base:Nat} (hu:match P.underlying t with|some (.struct _)|some (.array _ _)=>False|_=>True) (h:Value.okWide P w .any base t v):v.cells.toList = [v]:=by
 cases v with
 | agg cs =>
   exfalso
   unfold Value.okWide at h
   split at h
   · rename_i hu'; rw [hu'] at hu; exact hu
   · rename_i hu'; rw [hu'] at hu; exact hu
   · unfold Cell.okWide at h
     split at h<;>first|(rename_i hv; cases hv; done)|skip
     all_goals first|(cases ‹Value.agg cs=_›; done)|(unfold Cell.ok at h; split at h<;>first|exact h|(cases ‹Value.agg cs=_›; done)|simp_all)
 | _=>rfl
theorem ZcL {G:List TypeId} (hT:tilesB P G=true) {t:TypeId} {v:Value} {d:DataW H} {pl:List MemPlace} {base:Nat} (ht:G.contains t=true) (hok:Value.okWide P w .any base t v) (h:DataW.Trod enc P w 0 (fun _=>true) true t v d pl) (hw:∀ x∈d.weights P t,x≤reachBytes) :
 ∃ p,ShapeV P t p∧Rep (cellF w) noLoc v p∧p.pure:=by
 obtain⟨fuel,h⟩:=h
 obtain⟨ps,hs,hc⟩:=Z1A hT ht h hw
 cases hu:P.underlying t with
 | none =>
   rw [Z6t (by rw [hu]; trivial) hok] at hc
   obtain⟨p,rfl,h1,h2⟩:=Z43 hc
   exact⟨p,⟨fuel,by rw [hu]; exact hs⟩,h1,h2⟩
 | some dsc =>
   have agg:(∃ cs,v=.agg cs)→∃ p,(∃ ps,p=.agg ps∧Shape P fuel t ps)∧Rep (cellF w) noLoc v p∧p.pure:=by
    rintro⟨cs,rfl⟩
    have e:∀ j,cs.getD j undef=cs.toList.getD j undef:=fun j=>by simp [Array.getD_eq_getD_getElem?,List.getD_eq_getElem?_getD]
    refine⟨.agg ps,⟨ps,rfl,hs⟩,.agg cs ps (by rw [← hc.len]; simp [Value.cells]) (fun i hi=>?_) (fun i hi=>?_),hc.pure⟩
    · rw [e]; exact hc.one i hi
    · rw [e]; exact hc.rep i hi
   have one:(match P.underlying t with|some (.struct _)|some (.array _ _)=>False|_=>True)→∃ p,Shape P fuel t [p]∧Rep (cellF w) noLoc v p∧p.pure:=by
    intro hu'
    rw [Z6t hu' hok] at hc
    obtain⟨p,rfl,h1,h2⟩:=Z43 hc
    exact⟨p,hs,h1,h2⟩
   have isAgg:(∃ fs,dsc=.struct fs) ∨ (∃ m e,dsc=.array m e)→∃ cs,v=.agg cs:=by
    intro hd
    unfold Value.okWide at hok
    rw [hu] at hok
    rcases hd with⟨fs,rfl⟩|⟨m,e,rfl⟩
    · obtain⟨cs,h1,_⟩:=hok; exact⟨cs,h1⟩
    · obtain⟨cs,h1,_⟩:=hok; exact⟨cs,h1⟩
   cases dsc with
   | struct fs =>
     obtain⟨p,h1,h2⟩:=agg (isAgg (.inl ⟨fs,rfl⟩))
     exact⟨p,⟨fuel,by rw [hu]; exact h1⟩,h2⟩
   | array m e =>
     obtain⟨p,h1,h2⟩:=agg (isAgg (.inr ⟨m,e,rfl⟩))
     exact⟨p,⟨fuel,by rw [hu]; exact h1⟩,h2⟩
   | _ =>
     obtain⟨p,h1,h2⟩:=one (by rw [hu]; trivial)
     exact⟨p,⟨fuel,by rw [hu]; exact h1⟩,h2⟩
theorem Z6u {G:List TypeId} (hT:tilesB P G=true):∀ {ts:List TypeId} {vs:List Value} {ds:List (DataW H)} {pl:List MemPlace},(∀ t∈ts,G.contains t=true)→(∀ (j:Nat) t v,ts[j]?=some t→vs[j]?=some v→∃ base,Value.okWide P w .any base t v) →
 DataW.TrodAll enc P w 0 (fun _=>true) true ts vs ds pl→(∀ x∈DataW.weightsEach P ts ds,x≤reachBytes)→∃ ps,ShapeVs P ts ps∧vs.length=ps.length∧(∀ i,i<ps.length→Rep (cellF w) noLoc (vs.getD i undef) (ps.getD i pvu))∧pureL ps
 | [], vs, ds, pl, _, _, h, _ => by
   obtain⟨rfl,rfl,rfl⟩:=trodAll_nil h
   exact⟨[],trivial,rfl,fun i hi=>absurd hi (Nat.not_lt_zero _),trivial⟩
 | t :: ts, vs, ds, pl, hlt, hok, h, hw => by
   obtain⟨v,vs',d,ds',p,q,rfl,rfl,rfl,h1,h2⟩:=trodAll_cons h
   obtain⟨base,hv⟩:=hok 0 t v rfl rfl
   obtain⟨x,hs,hr,hp⟩:=ZcL hT (hlt t (by simp)) hv h1 fun x hx=>hw x (by rw [DataW.weightsEach]; exact List.mem_append.2 (.inl hx))
   obtain⟨ps,hs',hl,hr',hp'⟩:=Z6u hT (fun t ht=>hlt t (by simp [ht])) (fun j t v hj hv=>hok (j+1) t v (by simpa using hj) (by simpa using hv)) h2 fun x hx=>hw x (by rw [DataW.weightsEach]; exact List.mem_append.2 (.inr hx))
   refine⟨x :: ps,⟨hs,hs'⟩,by simp [hl],fun i hi=>?_,hp,hp'⟩
   cases i with
   | zero=>simpa using hr
   | succ i=>simpa using hr' i (by simpa using hi)
theorem Z44 (hl:laidOutB P=true) {W W':World} (hb:Below W.heap.size W W') {sp':Nat→Bool}:∀ {ts:List TypeId} {vs:List Value} {ds:List (DataW H)} {pl:List MemPlace},(∀ t∈ts,P.readableRec t=true∧t<P.types.size)→DataW.TrodAll enc P W 0 (fun _=>true) true ts vs ds pl →
 (∀ x∈pl,x.block<W.heap.size)→(∀ x∈pl,sp' x.block=true)→DataW.TrodAll enc P W' 0 sp' true ts vs ds pl
 | [], vs, ds, pl, _, h, _, _ => by
   obtain⟨rfl,rfl,rfl⟩:=trodAll_nil h
   exact rfl
 | t :: ts, vs, ds, pl, hr, h, hlt, hsp => by
   obtain⟨v,vs',d,ds',p,q,rfl,rfl,rfl,h1,h2⟩:=trodAll_cons h
   obtain⟨hr1,hr2⟩:=hr t (by simp)
   exact⟨p,q,WideElems.Trod_stays hl hr1 hr2 h1 (fun x hx=>hb.same (hlt x (List.mem_append.2 (.inl hx)))) (fun x hx=>hsp x (List.mem_append.2 (.inl hx))),
    Z44 hl hb (fun t ht=>hr t (by simp [ht])) h2 (fun x hx=>hlt x (List.mem_append.2 (.inr hx))) (fun x hx=>hsp x (List.mem_append.2 (.inr hx))),rfl⟩
end
theorem Z8c {H:Type} {enc:TypeId×Value→H} {P:Program} {f:FuncId} {fn:Func} {s:ChangeSpec} {apart fresh handsOn again:Bool} {tb:TypeId} {G:List TypeId} (hT:tilesB P G=true) (hG:∀ t∈fn.params.toList,G.contains t=true) (hl:laidOutB P=true) (hpar:∀ t∈fn.params.toList,P.readableRec t=true∧t<P.types.size) (hres:fn.resultTypes = #[tb]) (htb:P.underlying tb=some .bool)
 (hvars:s.vars = []) (hs:∀ ds:List (DataW H),ds.length=fn.params.size→(s.fn H ds).results = [.lit (.bool true)]∧(s.fn H ds).args=ds∧(s.fn H ds).vars = []) (hspec:∀ ps,ShapeVs P fn.params.toList ps→pureL ps→Spec P f ps (· = .val (.bool true)))
 (W:World) (hgl:GlobsIn W) (base:Nat) (args:Array Value) (ds gs:List (DataW H)) (before:List MemPlace) (hval:∀ (j:Nat) t v,fn.params[j]?=some t→args[j]?=some v→Value.okWide P W .any base t v) (hW:DataW.Whole enc P fn.params.toList s.vars apart W args.toList ds gs before)
 (hwt:(DataW.weightsEach P (fn.params.toList++s.plain.varTypes P) (ds++gs)).all (· ≤ reachBytes)=true) :
 Calls P f args W fun e W'=>∃ v,e=.returned v∧s.post enc P fn apart fresh handsOn again W args v W':=by
 have hW':=hW
 obtain⟨p,q,hA,hV,rfl,hfz,hnd⟩:=hW
 rw [hvars] at hV
 obtain⟨rfl,rfl⟩:=trodVars_none hV
 rw [List.append_nil] at hwt
 have hlen:ds.length=fn.params.toList.length:=by
  have:∀ {ts:List TypeId} {vs:List Value} {ds:List (DataW H)} {pl:List MemPlace},DataW.TrodAll enc P W 0 (fun _=>true) true ts vs ds pl→ds.length=ts.length:=by
   intro ts
   induction ts with
   | nil=>intro vs ds pl h; obtain⟨_,rfl,_⟩:=trodAll_nil h; rfl
   | cons t ts ih=>intro vs ds pl h; obtain⟨v,vs',d,ds',p,q,_,rfl,_,_,h2⟩:=trodAll_cons h; simp [ih h2]
  exact this hA
 have hvt:s.plain.varTypes P = []:=by
  simp [ChangeSpec.plain,DataSpec.varTypes,hvars]
 rw [hvt,List.append_nil] at hwt
 obtain⟨ps,hsh,hpl,hrep,hpure⟩:=Z6u hT hG (fun j t v hj hv=>⟨base,hval j t v (by simpa using hj) (by simpa using hv)⟩) hA (fun x hx=>by simpa using List.all_eq_true.1 hwt x hx)
 have e:∀ j,args.getD j undef=args.toList.getD j undef:=fun j=>by simp [Array.getD_eq_getD_getElem?,List.getD_eq_getElem?_getD]
 refine ((hspec ps hsh hpure).2 (cellF W) W args (Z9f hgl) ⟨by simpa using hpl,fun i hi=>by rw [e]; exact hrep i hi⟩).mono ?_
 rintro en W' ⟨v,r,F',rfl,rfl,hvr,hbel,_⟩
 obtain rfl:=hvr.val_inv
 obtain⟨hs1,hs2,hs3⟩:=hs ds (by simpa using hlen)
 have hlt:=hW'.lt
 simp only [List.append_nil] at hlt hW' ⊢
 have hstay:∀ sp':Nat→Bool,(∀ x∈p,sp' x.block=true)→DataW.TrodAll enc P W' 0 sp' true fn.params.toList args.toList ds p:=fun sp' hsp=>Z44 hl hbel hpar hA hlt hsp
 have hresults:∀ (b:Nat) (sp:Nat→Bool) (hd:Bool),DataW.TrodAll enc P W' b sp hd fn.resultTypes.toList ((Value.bool true).resultList fn.resultTypes.size) [.lit (.bool true)] []:=fun b sp hd=>by
  rw [hres]
  exact trodAll_mk1 (shut_bool htb true)
 refine⟨_,rfl,ds,[],p,[],p,[],hW',?_,?_,?_,hbel.frame _,fun _=>⟨ok_one hres rfl (okWide_bool_mk htb true),?_⟩⟩
 · rw [List.append_nil,hs1]; exact hresults _ _ _
 · rw [List.append_nil,hs2]; exact hstay _ fun x hx=>by simpa using hlt x hx
 · rw [List.append_nil,hvars,hs3]; exact rfl
 · refine ⟨_, [], p, ⟨p, [], trodAll_append (p := []) (hstay _ fun _ _ => rfl) (hresults _ _ _), by rw [hvars]; exact rfl, by simp, ?_, by simpa using hnd⟩, fun x hx _ => hx⟩
   intro b off hp
   rw [hbel.frozen (hlt _ hp)]
   exact hfz b off (by simpa using hp)
end Go.Proofs.YthgklpbcmbmmcaaGreatDoor
namespace Go.Proofs.YthgklpbcmbmmcaaGreatDoor
open Go.ChangeShapes Go.WideShapes Go.ChangeAt Go.RowKit
theorem own:ownKnob Tryz.prog.godebug=none:=by kernel_rfl
theorem laidOut:laidOutB Tryz.prog=true:=by kernel_rfl
def parsOk (P:Program) (ts:List TypeId):Bool:=ts.all fun t=>P.readableRec t&&decide (t<P.types.size)
def inG (G ts:List TypeId):Bool:=ts.all fun t=>G.contains t
theorem Zgt {G ts:List TypeId} (h:inG G ts=true):∀ t∈ts,G.contains t=true:=fun t ht=>List.all_eq_true.1 h t ht
theorem ZcM {P:Program} {ts:List TypeId} (h:parsOk P ts=true):∀ t∈ts,P.readableRec t=true∧t<P.types.size:=fun t ht=>by
 have:=List.all_eq_true.1 h t ht
 simpa using this
abbrev laidV : List (String × DataW Unit) := [("math/bits.deBruijn32tab",Rows.laid_math_bits_deBruijn32tab),("math/bits.deBruijn64tab",Rows.laid_math_bits_deBruijn64tab),("internal/strconv.uint64pow10",Rows.laid_internal_strconv_uint64pow10)]
set_option maxRecDepth 100000 in
theorem Zer (os:Os) (args:Array Value):laidMetH Tryz.prog laidV ((World.doorLaid Tryz.prog 400 os).forCall (fun _ _=>0) ⟨#[],args,[]⟩).memory :=
 laidMetH_of_parts3 (fuel:=8) (laidMet_of_run' 8 (by kernel_rfl) (by kernel_rfl)) (by kernel_rfl) (by kernel_rfl)
theorem Zes:(Rows.laid_math_bits_deBruijn64tab:DataW Unit)=.agg (tzTab.map fun x=>.lit (.int .u8 x)):=rfl
set_option maxRecDepth 100000 in
theorem Zet {W:World} (h:laidMetH Tryz.prog laidV W):GlobsIn W:=by
 rw [MakeChecks.laidMetH_plain _ _ _ (by kernel_rfl)] at h
 obtain⟨ps,⟨_,_,_,_,_,_,_,_,_,_,⟨g0,t0,cs,f0,p0,q0,hg0,ht0,hv0,hd0,_,_⟩,_⟩,_,_⟩:=h
 obtain rfl := Option.some.inj ((show Tryz.prog.globalNamed "math/bits.deBruijn64tab" = some 0 by kernel_rfl).symm.trans hg0)
 obtain rfl:=Option.some.inj ((show (Tryz.prog.globals[0]?).map (·.type)=some 221 by kernel_rfl).symm.trans ht0)
 obtain⟨xs,m,rfl,hx,hlen,hn,hel⟩:=DataW.trod_array (show Tryz.prog.underlying 221=some (.array 64 5) by kernel_rfl) hd0
 have c1:Tryz.prog.cellsOf 5=1:=by kernel_rfl
 have c64:Tryz.prog.cellsOf 221=64:=by kernel_rfl
 simp only [Prod.mk.injEq] at hx
 have hx1:tzTab.map (fun x=>(DataW.lit (.int .u8 x):DataW Unit))=xs.map (·.1):=by
  have:=hx.1
  rw [Zes] at this
  simpa using this
 intro g j v hv
 unfold globs at hv
 cases hb:Nat.beq g 0 with
 | false=>rw [hb] at hv; simp at hv
 | true =>
   obtain rfl:g=0:=Nat.eq_of_beq_eq_true hb
   rw [hb] at hv
   simp only [cond_true,List.getElem?_map] at hv
   have hj:j<64:=by
    cases hx:tzTab[j]? with
    | none=>rw [hx] at hv; cases hv
    | some x=>have:=(List.getElem?_eq_some_iff.1 hx).1; exact this
   have hj2:j<tzTab.length:=hj
   rw [List.getElem?_eq_getElem hj2] at hv
   simp only [Option.map_some,Option.some.injEq] at hv
   subst hv
   have e1:=congrArg (fun l=>l[j]?) hx1
   simp only [List.getElem?_map] at e1
   rw [List.getElem?_eq_getElem hj2,List.getElem?_eq_getElem (show j<xs.length by omega)] at e1
   simp only [Option.map_some,Option.some.injEq] at e1
   have e2:=hel j hj
   rw [List.getElem?_eq_getElem (show j<xs.length by omega),c1] at e2
   obtain⟨k,h1,h2,_⟩:=DataW.trod_int (show Tryz.prog.underlying 5=some (.int .u8) by kernel_rfl) e2
   rw [h2] at e1
   simp only [DataW.lit.injEq,Lit.int.injEq,true_and] at e1
   subst e1
   rw [Nat.mul_one] at h1
   rw [World.var?_cell hg0 hv0 j]
   have h3:cs.toList[j]?=(cs.toList.drop j)[0]?:=by simp
   have h4:(cs.toList.drop j)[0]?=((cs.toList.drop j).take 1)[0]?:=by simp
   rw [← Array.getElem?_toList,h3,h4,h1]
   rfl
end Go.Proofs.YthgklpbcmbmmcaaGreatDoor
namespace Go.Proofs.YthgklpbcmbmmcaaGreatDoor
set_option maxRecDepth 100000
theorem mixed : Tryz.prog.follows .mixedOrders = true := by kernel_rfl
abbrev tT (n : Nat) : Operand := .tmp n
abbrev oO (d : Nat) (p : AOp) : AOper := ⟨some d, p, none⟩
abbrev oT (g d : Nat) (p : AOp) : AOper := ⟨some d, p, some (g, true)⟩
abbrev oF (g d : Nat) (p : AOp) : AOper := ⟨some d, p, some (g, false)⟩
abbrev oM (d a : Nat) : AOper := ⟨some d, .mov (.tmp a), none⟩
abbrev nS : Value := .slice none 0 0
abbrev kI (n : Int) : Operand := .const (.int .i64 n)
abbrev kT : Operand := .const (.bool true)
abbrev kF : Operand := .const (.bool false)
abbrev kC (f : FuncId) (l : List Operand) : AOp := .call (.func f) l
abbrev sQ (x y : ACode) : ACode := .seq x y
def ir11 : ACode := (sQ (.region [oO 4 (.box (tT 1)),oO 5 (.box (tT 2)),oO 6 (.mov kF)]) (sQ (sQ (.region [oO 24 (kC 13 []),oO 25 (.una .not (tT 24))]) (.cond (tT 25) (sQ (.region [oO 6 (.mov kF)]) .ret) .skip)) (sQ (.region [oM 27 0,
 oO 28 (kC 14 [(tT 27)]),oM 26 28,oO 29 (.extract (tT 26) 0),oO 30 (.extract (tT 26) 1),oO 31 (.extract (tT 26) 2),oO 7 (.alloc [(.int .i64 0),(.pointer none),nS,nS,nS,nS]),oO 8 (.alloc [(.int .i64 0),nS,
 (.int .u64 0),nS,nS,nS]),⟨none,.store 6 (tT 7) (tT 29),none⟩,⟨none,.store 6 (tT 8) (tT 30),none⟩,oM 9 31]) (sQ (.region [oO 33 (.load true 6 (tT 7)),oO 34 (kC 31 [(tT 33),(kI 64)]),oM 32 34,oO 35 (.extract (tT 32) 0),
 oO 36 (.extract (tT 32) 1),oO 37 (.extract (tT 32) 2),oO 38 (.extract (tT 32) 3),oM 10 35,oM 11 36,oM 12 37,oM 13 38]) (sQ (sQ (.region [oM 39 9,oO 40 (.una .not (tT 39)),oM 41 40,oF 41 42 (.mov (tT 13)),
 oF 41 43 (.bin .neq .num (tT 42) (kI 0)),oO 44 (.pick (tT 41) kT (tT 43))]) (.cond (tT 44) (sQ (.region [oO 6 (.mov kF)]) .ret) .skip)) (sQ (.draw [⟨0,oO 45 (.load true 6 (tT 7)),0,0,false⟩,⟨1,oO 46 (kC 40 [(tT 45)]),
 1,0,false⟩,⟨2,oO 47 (.load true 6 (tT 7)),0,0,false⟩,⟨3,oO 48 (kC 40 [(tT 47)]),7,1,false⟩,⟨4,oO 14 (.alloc [(.int .i64 0),(.pointer none),nS,nS,nS,nS]),0,0,false⟩,⟨5,oO 15 (.alloc [(.int .i64 0),(.pointer none),
 nS,nS,nS,nS]),0,0,false⟩,⟨6,⟨none,.store 6 (tT 14) (tT 46),none⟩,63,1,false⟩,⟨7,⟨none,.store 6 (tT 15) (tT 48),none⟩,127,1,false⟩]) (sQ (.region [oO 49 (.faddr 3 (tT 14)),oO 50 (.load false 1 (tT 49)),
 oO 51 (.faddr 0 (tT 4)),oO 52 (.load false 1 (tT 51)),oO 53 (.faddr 1 (tT 4)),oO 54 (.load false 1 (tT 53)),oO 55 (.conv .i64 (tT 54)),oO 56 (.build [(.bool false),nS,nS,(.int .i64 0),(.int .i64 0)] [(0,
 1,(tT 52)),(3,1,(tT 55))]),oO 57 (.bslice [(.bool false),nS,nS,(.int .i64 0),(.int .i64 0)] 1 [(0,(tT 56))]),oO 58 (.append [(.bool false),nS,nS,(.int .i64 0),(.int .i64 0)] 72 (tT 50) (tT 57)),oO 59 (.faddr 3 (tT 14)),
 ⟨none,.store 1 (tT 59) (tT 58),none⟩]) (sQ (.draw [⟨0,oO 60 (.faddr 4 (tT 15)),0,0,false⟩,⟨1,oO 61 (.load false 1 (tT 60)),1,0,false⟩,⟨2,oO 62 (.faddr 0 (tT 5)),0,0,false⟩,⟨3,oO 63 (.load false 1 (tT 62)),
 4,0,false⟩,⟨4,oO 64 (.faddr 1 (tT 5)),0,0,false⟩,⟨5,oO 65 (.load false 1 (tT 64)),16,0,false⟩,⟨6,oO 66 (kC 25 [(tT 63),(tT 65)]),60,0,false⟩,⟨7,oO 67 (kC 27 [(tT 66)]),124,0,false⟩,⟨8,oO 68 (.bslice [nS,
 nS] 1 [(0,(tT 67))]),252,0,false⟩,⟨9,oO 69 (.append [nS,nS] 48 (tT 61) (tT 68)),511,1,false⟩,⟨10,oO 70 (.faddr 4 (tT 15)),1023,1,false⟩,⟨11,⟨none,.store 1 (tT 70) (tT 69),none⟩,2047,1,false⟩]) (sQ (sQ (.region [oO 71 (.load true 6 (tT 14)),
 oO 72 (kC 39 [(tT 71)]),oO 73 (.bin .eql .num (tT 72) (kI 0))]) (.cond (tT 73) (sQ (.region [oO 75 (.load true 6 (tT 14)),oO 76 (kC 31 [(tT 75),(kI 64)]),oM 74 76,oO 77 (.extract (tT 74) 0),oO 78 (.extract (tT 74) 1),
 oO 79 (.extract (tT 74) 2),oO 80 (.extract (tT 74) 3),oM 16 77,oM 17 78,oM 18 79,oM 19 80]) (sQ (.region [oM 81 19,oO 82 (.bin .neq .num (tT 81) (kI 0)),oM 83 82,oF 83 84 (.mov (tT 12)),oF 83 85 (.mov (tT 84)),
 oT 85 86 (.mov (tT 18)),oT 85 87 (.una .not (tT 86)),oF 83 88 (.pick (tT 85) (tT 87) kF),oO 89 (.pick (tT 83) kT (tT 88))]) (.cond (tT 89) (sQ (.region [oO 6 (.mov kF)]) .ret) .skip))) .skip)) (sQ (sQ (.region [oO 90 (.load true 6 (tT 15)),
 oO 91 (kC 39 [(tT 90)]),oO 92 (.bin .eql .num (tT 91) (kI 0))]) (.cond (tT 92) (sQ (.region [oO 94 (.load true 6 (tT 15)),oO 95 (kC 31 [(tT 94),(kI 64)]),oM 93 95,oO 96 (.extract (tT 93) 0),oO 97 (.extract (tT 93) 1),
 oO 98 (.extract (tT 93) 2),oO 99 (.extract (tT 93) 3),oM 20 96,oM 21 97,oM 22 98,oM 23 99]) (sQ (.region [oM 100 23,oO 101 (.bin .neq .num (tT 100) (kI 0)),oM 102 101,oF 102 103 (.mov (tT 22)),oF 102 104 (.mov (tT 103)),
 oT 104 105 (.mov (tT 12)),oT 104 106 (.una .not (tT 105)),oF 102 107 (.pick (tT 104) (tT 106) kF),oO 108 (.pick (tT 102) kT (tT 107))]) (.cond (tT 108) (sQ (.region [oO 6 (.mov kF)]) .ret) .skip))) .skip)) (sQ (.region [oO 6 (.mov kT)]) .ret)))))))))))
theorem ok11 : FnOk Tryz.prog 11 109 ir11 [.tmp 6] := Z7 mixed Tryz.func11 (by kernel_rfl) Tryz.ntmps11 (by kernel_rfl) (by kernel_rfl)
def ir13 : ACode := (sQ (.region [oO 0 (.mov kF)]) (sQ (.region [oO 15 (kC 42 []),oO 16 (.build [(.bool false),nS,nS,(.int .i64 0),(.int .i64 0)] [(3,1,(kI 1))]),oO 17 (.bslice [(.int .i64 0)] 1 [(0,(kI 1))]),
 oO 18 (kC 38 [(tT 17)]),oO 19 (.build [nS,nS] [(0,1,(tT 18))]),oO 20 (.build [(.bool false),nS,nS,(.int .i64 0),(.int .i64 0)] [(3,1,(kI 2)),(1,2,(tT 19))]),oO 21 (.build [(.bool false),nS,nS,(.int .i64 0),
 (.int .i64 0)] [(0,1,kT),(3,1,(kI 1))]),oO 22 (.bslice [(.bool false),nS,nS,(.int .i64 0),(.int .i64 0)] 3 [(0,(tT 16)),(1,(tT 20)),(2,(tT 21))]),oO 23 (.bslice [(.int .i64 0)] 1 [(0,(kI 2))]),oO 24 (kC 38 [(tT 23)]),
 oO 25 (.bslice [(.int .i64 0)] 1 [(0,(kI 1))]),oO 26 (kC 38 [(tT 25)]),oO 27 (.build [nS,nS] [(0,1,(tT 24)),(1,1,(tT 26))]),oO 28 (.bslice [nS,nS] 1 [(0,(tT 27))]),oO 29 (.build [(.int .i64 0),(.pointer none),
 nS,nS,nS,nS] [(0,1,(kI 3)),(1,1,(tT 15)),(3,1,(tT 22)),(5,1,(tT 28))]),oO 1 (.alloc [(.int .i64 0),(.pointer none),nS,nS,nS,nS]),⟨none,.store 6 (tT 1) (tT 29),none⟩]) (sQ (.region [oO 31 (.load true 6 (tT 1)),
 oO 32 (kC 31 [(tT 31),(kI 8)]),oM 30 32,oO 33 (.extract (tT 30) 0),oO 34 (.extract (tT 30) 1),oO 35 (.extract (tT 30) 2),oO 36 (.extract (tT 30) 3),oM 2 33,oM 3 34,oM 4 35,oM 5 36]) (sQ (.region [oO 38 (.load true 6 (tT 1)),
 oO 39 (kC 20 [(tT 38)]),oM 37 39,oO 40 (.extract (tT 37) 0),oO 41 (.extract (tT 37) 1),oM 6 40,oM 7 41]) (sQ (.draw [⟨0,oO 43 (.load true 6 (tT 1)),0,1,false⟩,⟨1,oO 44 (.bslice [(.int .i64 0)] 1 [(0,(kI 2))]),
 0,0,false⟩,⟨2,oO 45 (kC 38 [(tT 44)]),2,0,false⟩,⟨3,oO 46 (.bslice [(.int .i64 0)] 1 [(0,(kI 1))]),0,0,false⟩,⟨4,oO 47 (kC 38 [(tT 46)]),14,0,false⟩,⟨5,oO 48 (.build [nS,nS] [(0,1,(tT 45)),(1,1,(tT 47))]),
 30,0,false⟩,⟨6,oO 49 (kC 26 [(tT 43),(tT 48),(kI 2)]),63,1,false⟩,⟨7,oM 42 49,127,1,false⟩,⟨8,oO 50 (.extract (tT 42) 0),255,1,false⟩,⟨9,oO 51 (.extract (tT 42) 1),255,1,false⟩,⟨10,oM 8 50,511,1,false⟩,
 ⟨11,oM 9 51,2047,1,false⟩]) (sQ (.region [oO 53 (.load true 6 (tT 1)),oM 54 2,oO 55 (kC 43 [(tT 53),(tT 54)]),oM 52 55,oO 56 (.extract (tT 52) 0),oO 57 (.extract (tT 52) 1),oO 58 (.extract (tT 52) 2),oO 10 (.alloc [nS]),
 ⟨none,.store 1 (tT 10) (tT 56),none⟩,oM 11 57,oM 12 58]) (sQ (sQ (.region [oM 59 5,oO 60 (.bin .neq .num (tT 59) (kI 0)),oM 61 60,oF 61 62 (.mov (tT 7)),oF 61 63 (.bin .neq .num (tT 62) (kI 0)),oO 64 (.pick (tT 61) kT (tT 63)),
 oM 65 64,oF 65 66 (.mov (tT 9)),oF 65 67 (.bin .neq .num (tT 66) (kI 0)),oO 68 (.pick (tT 65) kT (tT 67)),oM 69 68,oF 69 70 (.mov (tT 4)),oF 69 71 (.una .not (tT 70)),oO 72 (.pick (tT 69) kT (tT 71)),oM 73 72,
 oF 73 74 (.mov (tT 12)),oF 73 75 (.una .not (tT 74)),oO 76 (.pick (tT 73) kT (tT 75)),oM 77 76,oF 77 78 (.mov (tT 11)),oF 77 79 (.mov (tT 2)),oF 77 80 (.len (tT 79)),oF 77 81 (.bin .neq .num (tT 78) (tT 80)),
 oO 82 (.pick (tT 77) kT (tT 81)),oM 83 82,oF 83 84 (.load true 6 (tT 1)),oF 83 85 (.load true 1 (tT 10)),oF 83 86 (kC 44 [(tT 84),(tT 85)]),oF 83 87 (.una .not (tT 86)),oO 88 (.pick (tT 83) kT (tT 87)),
 oM 89 88,oF 89 90 (.mov (tT 6)),oF 89 91 (.len (tT 90)),oF 89 92 (.bin .neq .num (tT 91) (kI 1)),oO 93 (.pick (tT 89) kT (tT 92)),oM 94 93,oF 94 95 (.mov (tT 6)),oF 94 96 (.iaddr 2 (tT 95) (kI 0)),oF 94 97 (.load true 2 (tT 96)),
 oF 94 98 (kC 45 [(tT 97)]),⟨(some 99),.bin .neq .num (tT 98) (.const (.string ⟨#[33,49,32,50]⟩)),(some (94,false))⟩,oO 100 (.pick (tT 94) kT (tT 99)),oM 101 100,oF 101 102 (.mov (tT 8)),oF 101 103 (.bslice [(.int .i64 0)] 2 [(0,
 (kI 1)),(1,(kI 2))]),oF 101 104 (kC 38 [(tT 103)]),oF 101 105 (kC 17 [(tT 102),(tT 104)]),oF 101 106 (.una .not (tT 105)),oO 107 (.pick (tT 101) kT (tT 106)),oM 108 107,oF 108 109 (.mov (tT 8)),oF 108 110 (.bslice [(.int .i64 0)] 1 [(0,
 (kI 2))]),oF 108 111 (kC 38 [(tT 110)]),oF 108 112 (kC 17 [(tT 109),(tT 111)]),oO 113 (.pick (tT 108) kT (tT 112))]) (.cond (tT 113) (sQ (.region [oO 0 (.mov kF)]) .ret) .skip)) (sQ (.region [oO 114 (.bslice [(.int .i64 0)] 2 [(0,
 (kI 1)),(1,(kI 2))]),oO 115 (kC 38 [(tT 114)]),oO 116 (.build [nS,nS] [(0,1,(tT 115))]),oO 117 (.bslice [nS,nS] 1 [(0,(tT 116))]),oO 118 (.faddr 4 (tT 1)),⟨none,.store 1 (tT 118) (tT 117),none⟩]) (sQ (.region [oO 120 (.load true 6 (tT 1)),
 oO 121 (kC 31 [(tT 120),(kI 8)]),oM 119 121,oO 122 (.extract (tT 119) 0),oO 123 (.extract (tT 119) 1),oO 124 (.extract (tT 119) 2),oO 125 (.extract (tT 119) 3),oM 13 122,oM 14 123,oM 4 124,oM 5 125]) (sQ (.region [oM 126 5,
 oO 127 (.bin .eql .num (tT 126) (kI 0)),oM 128 127,oT 128 129 (.mov (tT 4)),oT 128 130 (.una .not (tT 129)),oO 131 (.pick (tT 128) (tT 130) kF),oM 132 131,oT 132 133 (.mov (tT 14)),oT 132 134 (.bslice [(.int .i64 0)] 1 [(0,
 (kI 2))]),oT 132 135 (kC 38 [(tT 134)]),oT 132 136 (kC 17 [(tT 133),(tT 135)]),oO 137 (.pick (tT 132) (tT 136) kF),oM 138 137,oT 138 139 (.mov (tT 14)),oT 138 140 (.bslice [(.int .i64 0)] 1 [(0,(kI 1))]),
 oT 138 141 (kC 38 [(tT 140)]),oT 138 142 (kC 17 [(tT 139),(tT 141)]),oT 138 143 (.una .not (tT 142)),oO 144 (.pick (tT 138) (tT 143) kF),oM 145 144,oT 145 146 (.mov (tT 14)),oT 145 147 (.build [nS] []),
 oT 145 148 (kC 17 [(tT 146),(tT 147)]),oT 145 149 (.una .not (tT 148)),oO 150 (.pick (tT 145) (tT 149) kF),oM 0 150]) .ret))))))))))
theorem ok13 : FnOk Tryz.prog 13 151 ir13 [.tmp 0] := Z7 mixed Tryz.func13 (by kernel_rfl) Tryz.ntmps13 (by kernel_rfl) (by kernel_rfl)
def ir14 : ACode := (sQ (.region [oO 2 (.alloc [(.int .i64 0),(.pointer none),nS,nS,nS,nS]),oO 3 (.alloc [(.int .i64 0),nS,(.int .u64 0),nS,nS,nS]),oO 4 (.mov kF)]) (sQ (.region [oM 8 0,oO 9 (kC 46 [(tT 8)]),
 oO 5 (.alloc [(.int .i64 0),nS,(.int .u64 0),nS,nS,nS]),⟨none,.store 6 (tT 5) (tT 9),none⟩]) (sQ (.region [oO 11 (.load true 6 (tT 5)),oO 12 (kC 47 [(tT 11)]),oM 10 12,oO 13 (.extract (tT 10) 0),oO 14 (.extract (tT 10) 1),
 oO 6 (.alloc [(.int .i64 0),(.pointer none),nS,nS,nS,nS]),⟨none,.store 6 (tT 6) (tT 13),none⟩,oM 7 14]) (sQ (.draw [⟨0,oO 15 (.load true 6 (tT 6)),0,0,false⟩,⟨1,oO 16 (.load true 6 (tT 5)),0,0,false⟩,⟨2,
 oM 17 7,0,0,false⟩,⟨3,⟨none,.store 6 (tT 2) (tT 15),none⟩,1,2,false⟩,⟨4,⟨none,.store 6 (tT 3) (tT 16),none⟩,11,1,false⟩,⟨5,oM 4 17,31,1,false⟩]) .ret))))
theorem ok14 : FnOk Tryz.prog 14 18 ir14 [.cell 2 true 6, .cell 3 true 6, .tmp 4] := Z7 mixed Tryz.func14 (by kernel_rfl) Tryz.ntmps14 (by kernel_rfl) (by kernel_rfl)
def ir15 : ACode := (sQ (.region [oO 1 (.box (tT 0)),oO 2 (.mov (.const nS)),oO 3 (.mov (kI 0))]) (sQ (sQ (.region [oO 7 (.load true 6 (tT 1)),oO 8 (kC 39 [(tT 7)]),oM 4 8]) (sQ (.region [oM 9 4,oO 10 (.bin .neq .num (tT 9) (kI 0))]) (.cond (tT 10) (sQ (.region [oM 11 4,
 oO 2 (.mov (.const nS)),oM 3 11]) .ret) .skip))) (sQ (.region [oO 13 (.load true 6 (tT 1)),oO 14 (.faddr 4 (tT 1)),oO 15 (.load false 1 (tT 14)),oO 16 (kC 48 [(tT 13),(tT 15)]),oM 12 16,oO 17 (.extract (tT 12) 0),
 oO 18 (.extract (tT 12) 1),oM 5 17,oM 6 18]) (sQ (sQ (.region [oM 19 6,oO 20 (.bin .neq .num (tT 19) (kI 0))]) (.cond (tT 20) (sQ (.region [oM 21 6,oO 2 (.mov (.const nS)),oM 3 21]) .ret) .skip)) (sQ (.region [oM 22 5,
 oO 23 (kC 49 [(tT 22)]),oO 24 (.extract (tT 23) 0),oO 25 (.extract (tT 23) 1),oM 2 24,oM 3 25]) .ret)))))
theorem ok15 : FnOk Tryz.prog 15 26 ir15 [.tmp 2, .tmp 3] := Z7 mixed Tryz.func15 (by kernel_rfl) Tryz.ntmps15 (by kernel_rfl) (by kernel_rfl)
def ir17 : ACode := (sQ (.region [oO 3 (.box (tT 1)),oO 4 (.mov kF)]) (sQ (.region [oM 5 0,oO 6 (.mkfn 51 [(tT 3)]),oO 7 (kC 50 [(tT 5),(tT 6)]),oM 4 7]) .ret))
theorem ok17 : FnOk Tryz.prog 17 8 ir17 [.tmp 4] := Z7 mixed Tryz.func17 (by kernel_rfl) Tryz.ntmps17 (by kernel_rfl) (by kernel_rfl)
def ir18 : ACode := (sQ (.region [oO 2 (.alloc [nS])]) (sQ (.region [oM 3 0,oO 4 (kC 53 [(tT 3)]),oO 5 (kC 38 [(tT 4)]),⟨none,.store 1 (tT 2) (tT 5),none⟩]) .ret))
theorem ok18 : FnOk Tryz.prog 18 6 ir18 [.cell 2 true 1] := Z7 mixed Tryz.func18 (by kernel_rfl) Tryz.ntmps18 (by kernel_rfl) (by kernel_rfl)
def ir20 : ACode := (sQ (.region [oO 1 (.box (tT 0)),oO 2 (.mov (.const nS)),oO 3 (.mov (kI 0))]) (sQ (.region [oO 8 (.load true 6 (tT 1)),oO 9 (kC 15 [(tT 8)]),oM 7 9,oO 10 (.extract (tT 7) 0),oO 11 (.extract (tT 7) 1),
 oM 4 10,oM 5 11]) (sQ (sQ (.region [oM 12 5,oO 13 (.bin .neq .num (tT 12) (kI 0))]) (.cond (tT 13) (sQ (.region [oM 14 5,oO 2 (.mov (.const nS)),oM 3 14]) .ret) .skip)) (sQ (.region [oO 16 (.load true 6 (tT 1)),
 oO 17 (.faddr 5 (tT 1)),oO 18 (.load false 1 (tT 17)),oO 19 (kC 48 [(tT 16),(tT 18)]),oM 15 19,oO 20 (.extract (tT 15) 0),oO 21 (.extract (tT 15) 1),oM 6 20,oM 5 21]) (sQ (sQ (.region [oM 22 5,oO 23 (.bin .neq .num (tT 22) (kI 0))]) (.cond (tT 23) (sQ (.region [oM 24 5,
 oO 2 (.mov (.const nS)),oM 3 24]) .ret) .skip)) (sQ (.region [oM 26 6,oM 27 4,oO 28 (kC 56 [(tT 26),(tT 27)]),oM 25 28,oO 29 (.extract (tT 25) 0),oO 30 (.extract (tT 25) 1),oM 6 29,oM 5 30]) (sQ (sQ (.region [oM 31 5,
 oO 32 (.bin .neq .num (tT 31) (kI 0))]) (.cond (tT 32) (sQ (.region [oM 33 5,oO 2 (.mov (.const nS)),oM 3 33]) .ret) .skip)) (sQ (.region [oM 34 6,oO 35 (kC 49 [(tT 34)]),oO 36 (.extract (tT 35) 0),oO 37 (.extract (tT 35) 1),
 oM 2 36,oM 3 37]) .ret))))))))
theorem ok20 : FnOk Tryz.prog 20 38 ir20 [.tmp 2, .tmp 3] := Z7 mixed Tryz.func20 (by kernel_rfl) Tryz.ntmps20 (by kernel_rfl) (by kernel_rfl)
def ir22 : ACode := (sQ (.region [oO 2 (.mov (.const nS))]) (sQ (.region [oM 10 0,oO 11 (kC 57 [(tT 10)]),oM 3 11]) (sQ (.region [oM 12 3,oO 13 (kC 58 [(tT 12),(.func 59)])]) (sQ (.region [oM 14 3,oO 15 (kC 60 [(tT 14),
 (.func 24)]),oM 3 15]) (sQ (.region [oO 4 (.mov (.const nS))]) (sQ (sQ (.region [oM 16 3,oO 17 (.len (tT 16)),oO 18 (.mov (kI 0))]) (.block 0 (.loop (sQ (.region [oO 19 (.bin .lss .num (tT 18) (tT 17))]) (sQ (.cond (tT 19) .skip (.exit 0)) (sQ (.block 1 (sQ (.region [oM 20 18,
 oO 21 (.iaddr 2 (tT 16) (tT 18)),oO 22 (.load true 2 (tT 21)),oO 6 (.alloc [nS,nS]),oM 5 20,⟨none,.store 2 (tT 6) (tT 22),none⟩]) (sQ (.region [oO 23 (.load true 2 (tT 6)),oO 24 (kC 28 [(tT 23)]),oM 7 24]) (sQ (sQ (.region [oM 25 3,
 oO 26 (.len (tT 25)),oO 27 (.mov (kI 0))]) (.block 2 (.loop (sQ (.region [oO 28 (.bin .lss .num (tT 27) (tT 26))]) (sQ (.cond (tT 28) .skip (.exit 2)) (sQ (.block 3 (sQ (.region [oM 29 27,oO 30 (.iaddr 2 (tT 25) (tT 27)),
 oO 31 (.load true 2 (tT 30)),oO 9 (.alloc [nS,nS]),oM 8 29,⟨none,.store 2 (tT 9) (tT 31),none⟩]) (.region [oM 32 7,oM 33 32,oF 33 34 (.mov (tT 8)),oF 33 35 (.mov (tT 5)),oF 33 36 (.bin .neq .num (tT 34) (tT 35)),
 oF 33 37 (.mov (tT 36)),oT 37 38 (.load true 2 (tT 9)),oT 37 39 (kC 28 [(tT 38)]),oT 37 40 (.una .not (tT 39)),oF 33 41 (.pick (tT 37) (tT 40) kF),oF 33 42 (.mov (tT 41)),oT 42 43 (.load true 2 (tT 6)),
 oT 42 44 (.load true 2 (tT 9)),oT 42 45 (kC 61 [(tT 43),(tT 44)]),oF 33 46 (.pick (tT 42) (tT 45) kF),oO 47 (.pick (tT 33) kT (tT 46)),oM 7 47]))) (.region [oO 48 (.bin .add .num (tT 27) (kI 1)),oM 27 48]))))))) (sQ (.region [oM 49 7,
 oO 50 (.una .not (tT 49))]) (.cond (tT 50) (.region [oM 51 4,oO 52 (.load true 2 (tT 6)),oO 53 (.bslice [nS,nS] 1 [(0,(tT 52))]),oO 54 (.append [nS,nS] 48 (tT 51) (tT 53)),oM 4 54]) .skip)))))) (.region [oO 55 (.bin .add .num (tT 18) (kI 1)),
 oM 18 55]))))))) (sQ (.region [oM 56 4,oM 2 56]) .ret)))))))
theorem ok22 : FnOk Tryz.prog 22 57 ir22 [.tmp 2] := Z7 mixed Tryz.func22 (by kernel_rfl) Tryz.ntmps22 (by kernel_rfl) (by kernel_rfl)
def ir24 : ACode := (sQ (.region [oO 2 (.box (tT 0)),oO 3 (.box (tT 1)),oO 4 (.mov kF)]) (sQ (.region [oO 5 (.faddr 0 (tT 2)),oO 6 (.load true 1 (tT 5)),oO 7 (.faddr 0 (tT 3)),oO 8 (.load true 1 (tT 7)),
 oO 9 (kC 62 [(tT 6),(tT 8)]),oM 10 9,oT 10 11 (.faddr 1 (tT 2)),oT 10 12 (.load true 1 (tT 11)),oT 10 13 (.faddr 1 (tT 3)),oT 10 14 (.load true 1 (tT 13)),oT 10 15 (kC 62 [(tT 12),(tT 14)]),oO 16 (.pick (tT 10) (tT 15) kF),
 oM 4 16]) .ret))
theorem ok24 : FnOk Tryz.prog 24 17 ir24 [.tmp 4] := Z7 mixed Tryz.func24 (by kernel_rfl) Tryz.ntmps24 (by kernel_rfl) (by kernel_rfl)
def ir25 : ACode := (sQ (.region [oO 4 (.alloc [(.int .u64 0),(.int .u64 0)])]) (sQ (.region [oM 5 0,oM 6 1,oO 7 (.bin .and .num (tT 5) (tT 6)),oO 8 (.bin .and .num (tT 7) (.const (.int .u8 63))),oO 9 (.conv .u64 (tT 8)),
 oO 10 (.bin .shl .num (tT 9) (.const (.int .u64 1))),oM 11 0,oO 12 (.bin .and .num (tT 11) (.const (.int .u8 63))),oM 13 1,oO 14 (.bin .sub .num (.const (.int .u8 255)) (tT 13)),oO 15 (.bin .and .num (tT 12) (tT 14)),
 oO 16 (.conv .u64 (tT 15)),oO 17 (.bin .shl .num (tT 16) (.const (.int .u64 1))),oO 18 (.build [(.int .u64 0),(.int .u64 0)] [(0,1,(tT 10)),(1,1,(tT 17))]),⟨none,.store 2 (tT 4) (tT 18),none⟩]) .ret))
theorem ok25 : FnOk Tryz.prog 25 19 ir25 [.cell 4 true 2] := Z7 mixed Tryz.func25 (by kernel_rfl) Tryz.ntmps25 (by kernel_rfl) (by kernel_rfl)
def ir26 : ACode := (sQ (.region [oO 3 (.box (tT 0)),oO 4 (.box (tT 1)),oO 6 (.mov (.const nS)),oO 7 (.mov (kI 0))]) (sQ (sQ (.region [oO 12 (.load true 6 (tT 3)),oO 13 (kC 39 [(tT 12)]),oM 8 13]) (sQ (.region [oM 14 8,
 oO 15 (.bin .neq .num (tT 14) (kI 0))]) (.cond (tT 15) (sQ (.region [oM 16 8,oO 6 (.mov (.const nS)),oM 7 16]) .ret) .skip))) (sQ (sQ (.region [oM 17 2,oO 18 (.bin .lss .num (tT 17) (kI 0)),oM 19 18,oF 19 20 (.mov (tT 2)),
 oF 19 21 (.faddr 3 (tT 3)),oF 19 22 (.load false 1 (tT 21)),oF 19 23 (.len (tT 22)),oF 19 24 (.bin .geq .num (tT 20) (tT 23)),oO 25 (.pick (tT 19) kT (tT 24))]) (.cond (tT 25) (sQ (.region [oO 6 (.mov (.const nS)),
 oO 7 (.mov (kI 1))]) .ret) .skip)) (sQ (sQ (.region [oO 26 (.faddr 0 (tT 4)),oO 27 (.load true 1 (tT 26)),oO 28 (.faddr 1 (tT 4)),oO 29 (.load true 1 (tT 28)),oO 30 (kC 63 [(tT 27),(tT 29)]),oO 9 (.alloc [nS]),
 ⟨none,.store 1 (tT 9) (tT 30),none⟩]) (sQ (.draw [⟨0,oO 31 (.load true 1 (tT 9)),0,1,false⟩,⟨1,oO 32 (kC 64 [(tT 31),(kI 0)]),1,1,false⟩,⟨2,oM 33 32,3,1,false⟩,⟨3,oF 33 34 (.load true 1 (tT 9)),7,0,false⟩,
 ⟨4,oF 33 35 (.faddr 0 (tT 3)),7,0,false⟩,⟨5,oF 33 36 (.load false 1 (tT 35)),23,0,false⟩,⟨6,oF 33 37 (.bin .add .num (tT 36) (kI 1)),55,0,false⟩,⟨7,oF 33 38 (kC 66 [(tT 37)]),119,0,false⟩,⟨8,oF 33 39 (kC 65 [(tT 34),
 (tT 38)]),255,1,false⟩,⟨9,oF 33 40 (.una .not (tT 39)),511,1,false⟩,⟨10,oO 41 (.pick (tT 33) kT (tT 40)),1023,1,false⟩]) (.cond (tT 41) (sQ (.region [oO 6 (.mov (.const nS)),oO 7 (.mov (kI 4))]) .ret) .skip))) (sQ (.region [oO 43 (.load true 6 (tT 3)),
 oO 44 (kC 67 [(tT 43)]),oM 42 44,oO 45 (.extract (tT 42) 0),oO 46 (.extract (tT 42) 1),oM 10 45,oM 11 46]) (sQ (sQ (.region [oM 47 11,oO 48 (.bin .neq .num (tT 47) (kI 0))]) (.cond (tT 48) (sQ (.region [oM 49 11,
 oO 6 (.mov (.const nS)),oM 7 49]) .ret) .skip)) (sQ (.region [oM 50 10,oO 51 (.load true 2 (tT 4)),oM 52 2,oO 53 (kC 68 [(tT 50),(tT 51),(tT 52)]),oO 54 (.extract (tT 53) 0),oO 55 (.extract (tT 53) 1),
 oM 6 54,oM 7 55]) .ret)))))))
theorem ok26 : FnOk Tryz.prog 26 56 ir26 [.tmp 6, .tmp 7] := Z7 mixed Tryz.func26 (by kernel_rfl) Tryz.ntmps26 (by kernel_rfl) (by kernel_rfl)
def ir27 : ACode := (sQ (.region [oO 1 (.box (tT 0)),oO 2 (.alloc [nS,nS])]) (sQ (.draw [⟨0,oO 3 (.faddr 0 (tT 1)),0,0,false⟩,⟨1,oO 4 (.load false 1 (tT 3)),1,0,false⟩,⟨2,oO 5 (kC 18 [(tT 4)]),3,0,false⟩,
 ⟨3,oO 6 (.faddr 1 (tT 1)),0,0,false⟩,⟨4,oO 7 (.load false 1 (tT 6)),8,0,false⟩,⟨5,oO 8 (kC 18 [(tT 7)]),31,1,false⟩,⟨6,oO 9 (.build [nS,nS] [(0,1,(tT 5)),(1,1,(tT 8))]),63,1,false⟩,⟨7,⟨none,.store 2 (tT 2) (tT 9),
 none⟩,127,1,false⟩]) .ret))
theorem ok27 : FnOk Tryz.prog 27 10 ir27 [.cell 2 true 2] := Z7 mixed Tryz.func27 (by kernel_rfl) Tryz.ntmps27 (by kernel_rfl) (by kernel_rfl)
def ir28 : ACode := (sQ (.region [oO 1 (.box (tT 0)),oO 2 (.mov kF)]) (sQ (.region [oO 3 (.faddr 0 (tT 1)),oO 4 (.load true 1 (tT 3)),oO 5 (.faddr 1 (tT 1)),oO 6 (.load true 1 (tT 5)),oO 7 (kC 69 [(tT 4),
 (tT 6)]),oM 2 7]) .ret))
theorem ok28 : FnOk Tryz.prog 28 8 ir28 [.tmp 2] := Z7 mixed Tryz.func28 (by kernel_rfl) Tryz.ntmps28 (by kernel_rfl) (by kernel_rfl)
def ir30 : ACode := (sQ (.region [oO 2 (.box (tT 0)),oO 4 (.mov kF)]) (sQ (.region [oM 5 1,oO 6 (.faddr 0 (tT 2)),oO 7 (.load false 1 (tT 6)),oO 8 (.bin .and .num (tT 5) (tT 7)),oO 9 (.faddr 0 (tT 2)),
 oO 10 (.load false 1 (tT 9)),oO 11 (.bin .eql .num (tT 8) (tT 10)),oM 12 11,oT 12 13 (.mov (tT 1)),oT 12 14 (.faddr 1 (tT 2)),oT 12 15 (.load false 1 (tT 14)),oT 12 16 (.bin .and .num (tT 13) (tT 15)),
 oT 12 17 (.bin .eql .num (tT 16) (.const (.int .u64 0))),oO 18 (.pick (tT 12) (tT 17) kF),oM 4 18]) .ret))
theorem ok30 : FnOk Tryz.prog 30 19 ir30 [.tmp 4] := Z7 mixed Tryz.func30 (by kernel_rfl) Tryz.ntmps30 (by kernel_rfl) (by kernel_rfl)
def ir31 : ACode := (sQ (.region [oO 2 (.box (tT 0)),oO 4 (.mov (.const nS)),oO 5 (.mov (.const nS)),oO 6 (.mov kF),oO 7 (.mov (kI 0))]) (sQ (sQ (.region [oO 17 (.load true 6 (tT 2)),oO 18 (kC 39 [(tT 17)]),
 oM 8 18]) (sQ (.region [oM 19 8,oO 20 (.bin .neq .num (tT 19) (kI 0))]) (.cond (tT 20) (sQ (.region [oM 21 8,oO 4 (.mov (.const nS)),oO 5 (.mov (.const nS)),oO 6 (.mov kF),oM 7 21]) .ret) .skip))) (sQ (sQ (.region [oM 22 1,
 oO 23 (.bin .lss .num (tT 22) (kI 1))]) (.cond (tT 23) (sQ (.region [oO 4 (.mov (.const nS)),oO 5 (.mov (.const nS)),oO 6 (.mov kF),oO 7 (.mov (kI 1))]) .ret) .skip)) (sQ (.region [oO 25 (.load true 6 (tT 2)),
 oO 26 (kC 67 [(tT 25)]),oM 24 26,oO 27 (.extract (tT 24) 0),oO 28 (.extract (tT 24) 1),oM 9 27,oM 7 28]) (sQ (sQ (.region [oM 29 7,oO 30 (.bin .neq .num (tT 29) (kI 0))]) (.cond (tT 30) (sQ (.region [oM 31 7,
 oO 4 (.mov (.const nS)),oO 5 (.mov (.const nS)),oO 6 (.mov kF),oM 7 31]) .ret) .skip)) (sQ (.region [oO 33 (.load true 6 (tT 2)),oO 34 (kC 20 [(tT 33)]),oM 32 34,oO 35 (.extract (tT 32) 0),oO 36 (.extract (tT 32) 1),
 oM 10 35,oM 7 36]) (sQ (sQ (.region [oM 37 7,oO 38 (.bin .neq .num (tT 37) (kI 0))]) (.cond (tT 38) (sQ (.region [oM 39 7,oO 4 (.mov (.const nS)),oO 5 (.mov (.const nS)),oO 6 (.mov kF),oM 7 39]) .ret) .skip)) (sQ (.region [oM 40 1,
 oO 41 (.build [nS,nS,(.int .i64 0)] [(2,1,(tT 40))]),oO 42 (.box (tT 41)),oM 11 42]) (sQ (sQ (.region [oM 43 10,oO 44 (.len (tT 43)),oO 45 (.mov (kI 0))]) (.block 0 (.loop (sQ (.region [oO 46 (.bin .lss .num (tT 45) (tT 44))]) (sQ (.cond (tT 46) .skip (.exit 0)) (sQ (.block 1 (sQ (.region [oO 47 (.iaddr 2 (tT 43) (tT 45)),
 oO 48 (.load true 2 (tT 47)),oO 13 (.alloc [nS,nS]),⟨none,.store 2 (tT 13) (tT 48),none⟩]) (sQ (.region [oM 49 11,oO 50 (.load true 2 (tT 13)),oO 51 (.build [(.int .i64 0),(.int .i64 0)] [(0,1,(.const (.int .i64 (-1)))),
 (1,1,(kI 0))]),oO 52 (kC 70 [(tT 49),(tT 50),(tT 51)]),oM 14 52]) (sQ (.region [oM 53 14,oO 54 (.bin .neq .num (tT 53) (kI 0))]) (.cond (tT 54) (sQ (.region [oM 55 14,oO 4 (.mov (.const nS)),oO 5 (.mov (.const nS)),
 oO 6 (.mov kF),oM 7 55]) .ret) .skip))))) (.region [oO 56 (.bin .add .num (tT 45) (kI 1)),oM 45 56]))))))) (sQ (sQ (.region [oO 15 (.mov (kI 0))]) (.block 2 (.loop (sQ (sQ (.region [oM 57 15,oM 58 11,oO 59 (.nilck (tT 58)),
 oO 60 (.faddr 0 (tT 59)),oO 61 (.load false 1 (tT 60)),oO 62 (.len (tT 61)),oO 63 (.bin .lss .num (tT 57) (tT 62))]) (.cond (tT 63) .skip (.exit 2))) (sQ (.block 3 (sQ (sQ (.draw [⟨0,oM 66 11,0,0,false⟩,
 ⟨1,oO 67 (.nilck (tT 66)),1,0,false⟩,⟨2,oO 68 (.faddr 0 (tT 67)),3,0,false⟩,⟨3,oO 69 (.load false 1 (tT 68)),7,0,false⟩,⟨4,oM 70 15,0,0,false⟩,⟨5,oO 71 (.iaddr 2 (tT 69) (tT 70)),31,0,false⟩,⟨6,oO 72 (.load true 2 (tT 71)),
 63,0,false⟩,⟨7,oO 73 (.faddr 2 (tT 2)),0,0,false⟩,⟨8,oO 74 (.load true 1 (tT 73)),128,0,false⟩,⟨9,oO 75 (kC 52 [(tT 72),(tT 74)]),511,1,false⟩]) (.cond (tT 75) (sQ (.region [oM 76 11,oM 77 15,oO 78 (kC 71 [(tT 76),
 (tT 77)]),oM 4 78,oO 5 (.mov (.const nS)),oO 6 (.mov kT),oO 7 (.mov (kI 0))]) .ret) .skip)) (sQ (.region [oM 79 9,oM 80 11,oM 81 15,oO 82 (kC 72 [(tT 79),(tT 80),(tT 81)]),oM 16 82]) (sQ (.region [oM 83 16,
 oO 84 (.bin .neq .num (tT 83) (kI 0))]) (.cond (tT 84) (sQ (.region [oM 85 16,oO 4 (.mov (.const nS)),oO 5 (.mov (.const nS)),oO 6 (.mov kF),oM 7 85]) .ret) .skip))))) (.region [oM 64 15,oO 65 (.bin .add .num (tT 64) (kI 1)),
 oM 15 65])))))) (sQ (.draw [⟨0,oM 86 11,0,1,false⟩,⟨1,oO 87 (.nilck (tT 86)),1,1,false⟩,⟨2,oO 88 (.faddr 0 (tT 87)),3,1,false⟩,⟨3,oO 89 (.load false 1 (tT 88)),7,1,false⟩,⟨4,oO 4 (.mov (.const nS)),0,0,
 false⟩,⟨5,oM 5 89,31,1,false⟩,⟨6,oO 6 (.mov kF),63,1,false⟩,⟨7,oO 7 (.mov (kI 0)),127,1,false⟩]) .ret)))))))))))
theorem ok31 : FnOk Tryz.prog 31 90 ir31 [.tmp 4, .tmp 5, .tmp 6, .tmp 7] := Z7 mixed Tryz.func31 (by kernel_rfl) Tryz.ntmps31 (by kernel_rfl) (by kernel_rfl)
def ir36 : ACode := (sQ (.region [oO 2 (.box (tT 0)),oO 4 (.mov kF)]) (sQ (sQ (.region [oO 7 (.load true 2 (tT 2)),oO 8 (kC 28 [(tT 7)])]) (.cond (tT 8) (sQ (.region [oO 4 (.mov kT)]) .ret) .skip)) (sQ (.block 0 (.loop (sQ (sQ (.draw [⟨0,
 oM 9 1,0,1,false⟩,⟨1,oO 10 (.len (tT 9)),1,1,false⟩,⟨2,oO 11 (.bin .gtr .num (tT 10) (kI 0)),3,1,false⟩,⟨3,oM 12 11,7,1,false⟩,⟨4,oT 12 13 (.load true 2 (tT 2)),15,0,false⟩,⟨5,oT 12 14 (.mov (tT 1)),15,
 0,false⟩,⟨6,oT 12 15 (.iaddr 2 (tT 14) (kI 0)),47,0,false⟩,⟨7,oT 12 16 (.load true 2 (tT 15)),111,0,false⟩,⟨8,oT 12 17 (kC 75 [(tT 13),(tT 16)]),255,1,false⟩,⟨9,oT 12 18 (kC 28 [(tT 17)]),511,1,false⟩,
 ⟨10,oO 19 (.pick (tT 12) (tT 18) kF),1023,1,false⟩]) (.cond (tT 19) .skip (.exit 0))) (.block 1 (.region [oM 20 1,oO 21 (.slc 2 (tT 20) (some (kI 1)) none none),oM 1 21]))))) (sQ (sQ (.region [oM 22 1,
 oO 23 (.len (tT 22)),oO 24 (.bin .eql .num (tT 23) (kI 0))]) (.cond (tT 24) (sQ (.region [oO 4 (.mov kF)]) .ret) .skip)) (sQ (sQ (.draw [⟨0,oO 25 (.load true 2 (tT 2)),0,0,false⟩,⟨1,oM 26 1,0,0,false⟩,
 ⟨2,oO 27 (.iaddr 2 (tT 26) (kI 0)),2,0,false⟩,⟨3,oO 28 (.load true 2 (tT 27)),6,0,false⟩,⟨4,oO 29 (kC 76 [(tT 25),(tT 28)]),15,1,false⟩,⟨5,oO 30 (.len (tT 29)),31,1,false⟩,⟨6,oO 31 (.mov (kI 0)),0,0,false⟩]) (.block 2 (.loop (sQ (.region [oO 32 (.bin .lss .num (tT 31) (tT 30))]) (sQ (.cond (tT 32) .skip (.exit 2)) (sQ (.block 3 (sQ (.region [oO 33 (.iaddr 2 (tT 29) (tT 31)),
 oO 34 (.load true 2 (tT 33)),oO 6 (.alloc [nS,nS]),⟨none,.store 2 (tT 6) (tT 34),none⟩]) (sQ (.draw [⟨0,oO 35 (.load true 2 (tT 6)),0,0,false⟩,⟨1,oM 36 1,0,0,false⟩,⟨2,oO 37 (.slc 2 (tT 36) (some (kI 1)) none none),
 2,0,false⟩,⟨3,oO 38 (kC 36 [(tT 35),(tT 37)]),7,1,false⟩,⟨4,oO 39 (.una .not (tT 38)),15,1,false⟩]) (.cond (tT 39) (sQ (.region [oO 4 (.mov kF)]) .ret) .skip)))) (.region [oO 40 (.bin .add .num (tT 31) (kI 1)),
 oM 31 40]))))))) (sQ (.region [oO 4 (.mov kT)]) .ret))))))
theorem ok36 : FnOk Tryz.prog 36 41 ir36 [.tmp 4] := Z7 mixed Tryz.func36 (by kernel_rfl) Tryz.ntmps36 (by kernel_rfl) (by kernel_rfl)
def ir37 : ACode := (sQ (.region [oO 2 (.box (tT 0)),oO 4 (.alloc [nS])]) (sQ (sQ (.region [oM 6 1,oO 7 (.bin .lss .num (tT 6) (kI 0)),oM 8 7,oF 8 9 (.mov (tT 1)),oF 8 10 (.bin .gtr .num (tT 9) (kI 4095)),
 oO 11 (.pick (tT 8) kT (tT 10)),oM 12 11,oF 12 13 (.load true 1 (tT 2)),oF 12 14 (.mov (tT 1)),oF 12 15 (kC 64 [(tT 13),(tT 14)]),oO 16 (.pick (tT 12) kT (tT 15))]) (.cond (tT 16) (sQ (.region [oO 17 (.load true 1 (tT 2)),
 ⟨none,.store 1 (tT 4) (tT 17),none⟩]) .ret) .skip)) (sQ (.region [oO 18 (.faddr 0 (tT 2)),oO 19 (.load false 1 (tT 18)),oO 20 (.len (tT 19)),oM 21 1,oO 22 (.bin .quo .num (tT 21) (kI 64)),oO 23 (.bin .add .num (tT 22) (kI 1)),
 oO 24 (.mx (tT 20) (tT 23)),oO 25 (.mslice [(.int .u64 0)] 8 (tT 24) (tT 24)),oM 5 25]) (sQ (.region [oM 26 5,oO 27 (.faddr 0 (tT 2)),oO 28 (.load false 1 (tT 27)),oO 29 (.copy 1 (tT 26) (tT 28))]) (sQ (.draw [⟨0,
 oM 30 5,0,1,false⟩,⟨1,oM 31 1,0,1,false⟩,⟨2,oO 32 (.bin .quo .num (tT 31) (kI 64)),2,1,false⟩,⟨3,oO 33 (.iaddr 1 (tT 30) (tT 32)),7,1,false⟩,⟨4,oO 34 (.load false 1 (tT 33)),15,1,false⟩,⟨5,oM 35 1,0,0,
 false⟩,⟨6,oO 36 (.bin .rem .num (tT 35) (kI 64)),32,0,false⟩,⟨7,oO 37 (.bin .shl .num (.const (.int .u64 1)) (tT 36)),96,0,false⟩,⟨8,oO 38 (.bin .or .num (tT 34) (tT 37)),255,1,false⟩,⟨9,oO 39 (.iaddr 1 (tT 30) (tT 32)),
 511,1,false⟩,⟨10,⟨none,.store 1 (tT 39) (tT 38),none⟩,1023,1,false⟩]) (sQ (.region [oM 40 5,oO 41 (.build [nS] [(0,1,(tT 40))]),⟨none,.store 1 (tT 4) (tT 41),none⟩]) .ret))))))
theorem ok37 : FnOk Tryz.prog 37 42 ir37 [.cell 4 true 1] := Z7 mixed Tryz.func37 (by kernel_rfl) Tryz.ntmps37 (by kernel_rfl) (by kernel_rfl)
def ir38 : ACode := (sQ (.region [oO 2 (.alloc [nS])]) (sQ (.region [oO 3 (.mov (.const (.int .i64 (-1))))]) (sQ (sQ (.region [oM 9 0,oO 10 (.len (tT 9)),oO 11 (.mov (kI 0))]) (.block 0 (.loop (sQ (.region [oO 12 (.bin .lss .num (tT 11) (tT 10))]) (sQ (.cond (tT 12) .skip (.exit 0)) (sQ (.block 1 (sQ (.region [oO 13 (.iaddr 1 (tT 9) (tT 11)),
 oO 14 (.load false 1 (tT 13)),oM 5 14]) (sQ (.region [oM 15 5,oO 16 (.bin .leq .num (tT 15) (kI 4095))]) (.cond (tT 16) (.region [oM 17 3,oM 18 5,oO 19 (.mx (tT 17) (tT 18)),oM 3 19]) .skip)))) (.region [oO 20 (.bin .add .num (tT 11) (kI 1)),
 oM 11 20]))))))) (sQ (sQ (.region [oM 21 3,oO 22 (.bin .lss .num (tT 21) (kI 0))]) (.cond (tT 22) (sQ (.region [oO 23 (.build [nS] []),⟨none,.store 1 (tT 2) (tT 23),none⟩]) .ret) .skip)) (sQ (.region [oM 24 3,
 oO 25 (.bin .quo .num (tT 24) (kI 64)),oO 26 (.bin .add .num (tT 25) (kI 1)),oO 27 (.mslice [(.int .u64 0)] 8 (tT 26) (tT 26)),oM 6 27]) (sQ (sQ (.region [oM 28 0,oO 29 (.len (tT 28)),oO 30 (.mov (kI 0))]) (.block 2 (.loop (sQ (.region [oO 31 (.bin .lss .num (tT 30) (tT 29))]) (sQ (.cond (tT 31) .skip (.exit 2)) (sQ (.block 3 (sQ (.region [oO 32 (.iaddr 1 (tT 28) (tT 30)),
 oO 33 (.load false 1 (tT 32)),oM 8 33]) (sQ (.region [oM 34 8,oO 35 (.bin .geq .num (tT 34) (kI 0)),oM 36 35,oT 36 37 (.mov (tT 8)),oT 36 38 (.mov (tT 3)),oT 36 39 (.bin .leq .num (tT 37) (tT 38)),oO 40 (.pick (tT 36) (tT 39) kF)]) (.cond (tT 40) (.draw [⟨0,
 oM 41 6,0,1,false⟩,⟨1,oM 42 8,0,1,false⟩,⟨2,oO 43 (.bin .quo .num (tT 42) (kI 64)),2,1,false⟩,⟨3,oO 44 (.iaddr 1 (tT 41) (tT 43)),7,1,false⟩,⟨4,oO 45 (.load false 1 (tT 44)),15,1,false⟩,⟨5,oM 46 8,0,0,
 false⟩,⟨6,oO 47 (.bin .rem .num (tT 46) (kI 64)),32,0,false⟩,⟨7,oO 48 (.bin .shl .num (.const (.int .u64 1)) (tT 47)),96,0,false⟩,⟨8,oO 49 (.bin .or .num (tT 45) (tT 48)),255,1,false⟩,⟨9,oO 50 (.iaddr 1 (tT 41) (tT 43)),
 511,1,false⟩,⟨10,⟨none,.store 1 (tT 50) (tT 49),none⟩,1023,1,false⟩]) .skip)))) (.region [oO 51 (.bin .add .num (tT 30) (kI 1)),oM 30 51]))))))) (sQ (.region [oM 52 6,oO 53 (kC 77 [(tT 52)]),⟨none,.store 1 (tT 2) (tT 53),
 none⟩]) .ret)))))))
theorem ok38 : FnOk Tryz.prog 38 54 ir38 [.cell 2 true 1] := Z7 mixed Tryz.func38 (by kernel_rfl) Tryz.ntmps38 (by kernel_rfl) (by kernel_rfl)
def ir39 : ACode := (sQ (.region [oO 1 (.box (tT 0)),oO 2 (.mov (kI 0))]) (sQ (.region [oO 3 (.mov (.func 78))]) (sQ (.block 0 (sQ (.region [oO 5 (.faddr 1 (tT 1)),oO 6 (.load false 1 (tT 5)),oO 7 (.bin .eql .ptr (tT 6) (.const (.pointer none))),
 oM 8 7,oF 8 9 (.faddr 0 (tT 1)),oF 8 10 (.load false 1 (tT 9)),oF 8 11 (.bin .lss .num (tT 10) (kI 1)),oO 12 (.pick (tT 8) kT (tT 11)),oM 13 12,oF 13 14 (.faddr 0 (tT 1)),oF 13 15 (.load false 1 (tT 14)),
 oF 13 16 (.bin .gtr .num (tT 15) (kI 63)),oO 17 (.pick (tT 13) kT (tT 16)),oM 4 17]) (.cond (tT 4) (sQ (.region [oO 2 (.mov (kI 1))]) .ret) (sQ (.region [oO 19 (.faddr 3 (tT 1)),oO 20 (.load false 1 (tT 19)),
 oO 21 (.len (tT 20)),oO 22 (.bin .gtr .num (tT 21) (kI 64)),oM 23 22,oF 23 24 (.faddr 4 (tT 1)),oF 23 25 (.load false 1 (tT 24)),oF 23 26 (.len (tT 25)),oF 23 27 (.bin .gtr .num (tT 26) (kI 2000)),oO 28 (.pick (tT 23) kT (tT 27)),
 oM 29 28,oF 29 30 (.faddr 5 (tT 1)),oF 29 31 (.load false 1 (tT 30)),oF 29 32 (.len (tT 31)),oF 29 33 (.bin .gtr .num (tT 32) (kI 2000)),oO 34 (.pick (tT 29) kT (tT 33)),oM 18 34]) (.cond (tT 18) (sQ (.region [oO 2 (.mov (kI 3))]) .ret) (sQ (.region [oO 36 (.load true 6 (tT 1)),
 oO 37 (kC 80 [(tT 36)]),oO 38 (.una .not (tT 37)),oM 35 38]) (.cond (tT 35) (sQ (.region [oO 2 (.mov (kI 4))]) .ret) (sQ (.region [oO 40 (.load true 6 (tT 1)),oO 41 (kC 81 [(tT 40)]),oO 42 (kC 50 [(tT 41),
 (.func 28)]),oM 43 42,oF 43 44 (.faddr 3 (tT 1)),oF 43 45 (.load false 1 (tT 44)),oF 43 46 (.mov (tT 3)),oF 43 47 (kC 82 [(tT 45),(tT 46)]),oF 43 48 (.una .not (tT 47)),oO 49 (.pick (tT 43) kT (tT 48)),
 oM 39 49]) (.cond (tT 39) (sQ (.region [oO 2 (.mov (kI 6))]) .ret) (sQ (.region [oO 51 (.load true 6 (tT 1)),oO 52 (.faddr 2 (tT 1)),oO 53 (.load true 1 (tT 52)),oO 54 (kC 83 [(tT 51),(tT 53)]),oO 55 (.una .not (tT 54)),
 oM 50 55]) (.cond (tT 50) (sQ (.region [oO 2 (.mov (kI 7))]) .ret) .skip))))))))))) (sQ (.region [oO 2 (.mov (kI 0))]) .ret))))
theorem ok39 : FnOk Tryz.prog 39 56 ir39 [.tmp 2] := Z7 mixed Tryz.func39 (by kernel_rfl) Tryz.ntmps39 (by kernel_rfl) (by kernel_rfl)
def ir40 : ACode := (sQ (.region [oO 1 (.box (tT 0)),oO 2 (.alloc [(.int .i64 0),(.pointer none),nS,nS,nS,nS])]) (sQ (.draw [⟨0,oO 3 (.faddr 3 (tT 1)),0,0,false⟩,⟨1,oO 4 (.load false 1 (tT 3)),1,0,false⟩,
 ⟨2,oO 5 (kC 84 [(tT 4)]),3,0,false⟩,⟨3,oO 6 (.faddr 4 (tT 1)),0,0,false⟩,⟨4,oO 7 (.load false 1 (tT 6)),8,0,false⟩,⟨5,oO 8 (kC 85 [(tT 7)]),31,0,false⟩,⟨6,oO 9 (.faddr 5 (tT 1)),0,0,false⟩,⟨7,oO 10 (.load false 1 (tT 9)),
 64,0,false⟩,⟨8,oO 11 (kC 85 [(tT 10)]),255,1,false⟩,⟨9,oO 12 (.faddr 3 (tT 1)),223,1,false⟩,⟨10,⟨none,.store 1 (tT 12) (tT 5),none⟩,1023,1,false⟩,⟨11,oO 13 (.faddr 4 (tT 1)),2047,1,false⟩,⟨12,⟨none,.store 1 (tT 13) (tT 8),
 none⟩,4095,1,false⟩,⟨13,oO 14 (.faddr 5 (tT 1)),8191,1,false⟩,⟨14,⟨none,.store 1 (tT 14) (tT 11),none⟩,16383,1,false⟩]) (sQ (.region [oO 15 (.load true 6 (tT 1)),⟨none,.store 6 (tT 2) (tT 15),none⟩]) .ret)))
theorem ok40 : FnOk Tryz.prog 40 16 ir40 [.cell 2 true 6] := Z7 mixed Tryz.func40 (by kernel_rfl) Tryz.ntmps40 (by kernel_rfl) (by kernel_rfl)
def ir42 : ACode := (sQ (.region [oO 0 (.mov (.const (.pointer none)))]) (sQ (.region [oO 4 (kC 90 [(kI 64),(.const nS)]),oM 3 4,oO 5 (.extract (tT 3) 0),oO 6 (.extract (tT 3) 1),oM 1 5,oM 2 6]) (sQ (.region [oM 7 1,
 oO 8 (.build [(.pointer none)] [(0,1,(tT 7))]),oO 9 (.box (tT 8)),oM 0 9]) .ret)))
theorem ok42 : FnOk Tryz.prog 42 10 ir42 [.tmp 0] := Z7 mixed Tryz.func42 (by kernel_rfl) Tryz.ntmps42 (by kernel_rfl) (by kernel_rfl)
def ir43 : ACode := (sQ (.region [oO 2 (.box (tT 0)),oO 4 (.alloc [nS]),oO 5 (.mov (kI 0)),oO 6 (.mov kF)]) (sQ (sQ (.region [oO 12 (.faddr 1 (tT 2)),oO 13 (.load false 1 (tT 12)),oO 14 (.bin .eql .ptr (tT 13) (.const (.pointer none)))]) (.cond (tT 14) (sQ (.region [oO 15 (.build [nS] []),
 ⟨none,.store 1 (tT 4) (tT 15),none⟩,oO 5 (.mov (kI 0)),oO 6 (.mov kF)]) .ret) .skip)) (sQ (.region [oO 16 (.faddr 2 (tT 2)),oO 17 (.load true 1 (tT 16)),oO 7 (.alloc [nS]),⟨none,.store 1 (tT 7) (tT 17),
 none⟩]) (sQ (sQ (.region [oM 18 1,oO 19 (.len (tT 18)),oO 20 (.mov (kI 0))]) (.block 0 (.loop (sQ (.region [oO 21 (.bin .lss .num (tT 20) (tT 19))]) (sQ (.cond (tT 21) .skip (.exit 0)) (sQ (.block 1 (sQ (.region [oM 22 20,
 oO 23 (.iaddr 1 (tT 18) (tT 20)),oO 24 (.load false 1 (tT 23)),oM 8 22,oM 9 24]) (sQ (.region [oO 26 (.load true 6 (tT 2)),oO 27 (.load true 1 (tT 7)),oM 28 9,oO 29 (kC 91 [(tT 26),(tT 27),(tT 28)]),oM 25 29,
 oO 30 (.extract (tT 25) 0),oO 31 (.extract (tT 25) 1),oO 10 (.alloc [nS]),⟨none,.store 1 (tT 10) (tT 30),none⟩,oM 11 31]) (sQ (sQ (.region [oM 32 11,oO 33 (.una .not (tT 32))]) (.cond (tT 33) (sQ (.region [oO 34 (.load true 1 (tT 7)),
 oM 35 8,⟨none,.store 1 (tT 4) (tT 34),none⟩,oM 5 35,oO 6 (.mov kF)]) .ret) .skip)) (.region [oO 36 (.load true 1 (tT 10)),⟨none,.store 1 (tT 7) (tT 36),none⟩]))))) (.region [oO 37 (.bin .add .num (tT 20) (kI 1)),
 oM 20 37]))))))) (sQ (.region [oO 38 (.load true 1 (tT 7)),oM 39 1,oO 40 (.len (tT 39)),⟨none,.store 1 (tT 4) (tT 38),none⟩,oM 5 40,oO 6 (.mov kT)]) .ret)))))
theorem ok43 : FnOk Tryz.prog 43 41 ir43 [.cell 4 true 1, .tmp 5, .tmp 6] := Z7 mixed Tryz.func43 (by kernel_rfl) Tryz.ntmps43 (by kernel_rfl) (by kernel_rfl)
def ir44 : ACode := (sQ (.region [oO 2 (.box (tT 0)),oO 3 (.box (tT 1)),oO 4 (.mov kF)]) (sQ (.draw [⟨0,oO 5 (.faddr 1 (tT 2)),0,1,false⟩,⟨1,oO 6 (.load false 1 (tT 5)),1,1,false⟩,⟨2,oO 7 (.bin .neq .ptr (tT 6) (.const (.pointer none))),
 3,1,false⟩,⟨3,oM 8 7,7,1,false⟩,⟨4,oT 8 9 (.faddr 5 (tT 2)),15,0,false⟩,⟨5,oT 8 10 (.load false 1 (tT 9)),31,0,false⟩,⟨6,oT 8 11 (.faddr 1 (tT 2)),15,0,false⟩,⟨7,oT 8 12 (.load false 1 (tT 11)),79,0,false⟩,
 ⟨8,oT 8 13 (.load true 1 (tT 3)),15,0,false⟩,⟨9,oT 8 14 (kC 92 [(tT 12),(tT 13)]),463,0,false⟩,⟨10,oT 8 15 (kC 17 [(tT 10),(tT 14)]),1023,1,false⟩,⟨11,oO 16 (.pick (tT 8) (tT 15) kF),2047,1,false⟩,⟨12,
 oM 4 16,4095,1,false⟩]) .ret))
theorem ok44 : FnOk Tryz.prog 44 17 ir44 [.tmp 4] := Z7 mixed Tryz.func44 (by kernel_rfl) Tryz.ntmps44 (by kernel_rfl) (by kernel_rfl)
def ir45 : ACode := (sQ (.region [oO 1 (.box (tT 0)),⟨(some 2),.mov (.const (.string ⟨#[]⟩)),none⟩]) (sQ (.region [oO 3 (.alloc [nS])]) (sQ (sQ (.region [oO 5 (.faddr 0 (tT 1)),oO 6 (.load true 1 (tT 5)),
 oO 7 (.faddr 1 (tT 1)),oO 8 (.load true 1 (tT 7)),oO 9 (kC 63 [(tT 6),(tT 8)]),oO 10 (kC 93 [(tT 9)])]) (.block 0 (.range (tT 10) [11] [(4,(tT 11))] (.block 1 (sQ (sQ (.region [oO 12 (.faddr 0 (tT 1)),
 oO 13 (.load true 1 (tT 12)),oM 14 4,oO 15 (kC 64 [(tT 13),(tT 14)])]) (.cond (tT 15) (.draw [⟨0,oO 16 (.load false 1 (tT 3)),0,1,false⟩,⟨1,oM 17 4,0,0,false⟩,⟨2,oO 18 (kC 94 [(tT 17)]),2,0,false⟩,⟨3,⟨(some 19),
 .bslice [(.string ⟨#[]⟩)] 1 [(0,(tT 18))],none⟩,6,0,false⟩,⟨4,⟨(some 20),.append [(.string ⟨#[]⟩)] 16 (tT 16) (tT 19),none⟩,15,1,false⟩,⟨5,⟨none,.store 1 (tT 3) (tT 20),none⟩,31,1,false⟩]) .skip)) (sQ (.region [oO 21 (.faddr 1 (tT 1)),
 oO 22 (.load true 1 (tT 21)),oM 23 4,oO 24 (kC 64 [(tT 22),(tT 23)])]) (.cond (tT 24) (.draw [⟨0,oO 25 (.load false 1 (tT 3)),0,1,false⟩,⟨1,oM 26 4,0,0,false⟩,⟨2,oO 27 (kC 94 [(tT 26)]),2,0,false⟩,⟨3,⟨(some 28),
 .bin .add .num (.const (.string ⟨#[33]⟩)) (tT 27),none⟩,6,0,false⟩,⟨4,⟨(some 29),.bslice [(.string ⟨#[]⟩)] 1 [(0,(tT 28))],none⟩,14,0,false⟩,⟨5,⟨(some 30),.append [(.string ⟨#[]⟩)] 16 (tT 25) (tT 29),none⟩,
 31,1,false⟩,⟨6,⟨none,.store 1 (tT 3) (tT 30),none⟩,63,1,false⟩]) .skip))))))) (sQ (sQ (.region [oO 31 (.load false 1 (tT 3)),oO 32 (.len (tT 31)),oO 33 (.bin .eql .num (tT 32) (kI 0))]) (.cond (tT 33) (sQ (.region [⟨(some 2),
 .mov (.const (.string ⟨#[102,117,108,108]⟩)),none⟩]) .ret) .skip)) (sQ (.region [oO 34 (.load false 1 (tT 3)),⟨(some 35),kC 95 [(tT 34),(.const (.string ⟨#[32]⟩))],none⟩,oM 2 35]) .ret)))))
theorem ok45 : FnOk Tryz.prog 45 36 ir45 [.tmp 2] := Z7 mixed Tryz.func45 (by kernel_rfl) Tryz.ntmps45 (by kernel_rfl) (by kernel_rfl)
def ir46 : ACode := (sQ (.region [oO 2 (.alloc [(.int .i64 0),nS,(.int .u64 0),nS,nS,nS])]) (sQ (.region [oM 26 0,oO 27 (.build [nS,(.int .i64 0)] [(0,1,(tT 26))]),oO 28 (.box (tT 27)),oM 3 28]) (sQ (.region [oM 29 3,
 oO 30 (kC 96 [(tT 29)]),oO 31 (.bin .rem .num (tT 30) (kI 4)),oO 32 (.bin .add .num (kI 2) (tT 31)),oO 33 (.build [(.int .i64 0),nS,(.int .u64 0),nS,nS,nS] [(0,1,(tT 32))]),oO 4 (.alloc [(.int .i64 0),
 nS,(.int .u64 0),nS,nS,nS]),⟨none,.store 6 (tT 4) (tT 33),none⟩]) (sQ (.region [oO 34 (.faddr 0 (tT 4)),oO 35 (.load false 1 (tT 34)),oO 36 (.conv .u64 (tT 35)),oO 37 (.bin .shl .num (.const (.int .u8 2)) (tT 36)),
 oO 38 (.bin .sub .num (tT 37) (.const (.int .u8 2))),oM 5 38]) (sQ (.region [oM 39 3,oO 40 (kC 96 [(tT 39)]),oM 6 40]) (sQ (.region [oO 7 (.mov (kI 0))]) (sQ (sQ (.region [oO 8 (.mov (kI 1))]) (.block 0 (.loop (sQ (sQ (.region [oM 41 8,
 oO 42 (.faddr 0 (tT 4)),oO 43 (.load false 1 (tT 42)),oO 44 (.bin .lss .num (tT 41) (tT 43))]) (.cond (tT 44) .skip (.exit 0))) (sQ (.block 1 (sQ (.region [oM 47 8,oO 48 (.bin .add .num (tT 47) (kI 1)),
 oM 9 48]) (.block 2 (.loop (sQ (sQ (.region [oM 49 9,oO 50 (.faddr 0 (tT 4)),oO 51 (.load false 1 (tT 50)),oO 52 (.bin .leq .num (tT 49) (tT 51))]) (.cond (tT 52) .skip (.exit 2))) (sQ (.block 3 (sQ (sQ (.region [oM 55 6,
 oM 56 7,oO 57 (.bin .rem .num (tT 56) (kI 8)),oO 58 (.conv .u64 (tT 57)),oO 59 (.bin .shr .num (tT 55) (tT 58)),oO 60 (.bin .rem .num (tT 59) (kI 2)),oO 61 (.bin .eql .num (tT 60) (kI 1)),oM 62 61,oT 62 63 (.mov (tT 7)),
 oT 62 64 (.bin .rem .num (tT 63) (kI 3)),oT 62 65 (.bin .neq .num (tT 64) (kI 2)),oO 66 (.pick (tT 62) (tT 65) kF)]) (.cond (tT 66) (.region [oO 68 (.faddr 1 (tT 4)),oO 69 (.load false 1 (tT 68)),oM 70 8,
 oM 71 9,oO 72 (kC 97 [(tT 69),(tT 70),(tT 71)]),oM 67 72,oO 73 (.extract (tT 67) 0),oO 74 (.extract (tT 67) 1),oO 75 (.faddr 1 (tT 4)),⟨none,.store 1 (tT 75) (tT 73),none⟩]) .skip)) (.region [oM 76 7,oO 77 (.bin .add .num (tT 76) (kI 1)),
 oM 7 77]))) (.region [oM 53 9,oO 54 (.bin .add .num (tT 53) (kI 1)),oM 9 54]))))))) (.region [oM 45 8,oO 46 (.bin .add .num (tT 45) (kI 1)),oM 8 46])))))) (sQ (.region [oM 78 3,oO 79 (kC 96 [(tT 78)]),
 oO 80 (.conv .u8 (tT 79)),oM 81 5,oO 82 (.bin .and .num (tT 80) (tT 81)),oO 83 (.conv .u64 (tT 82)),oO 84 (.faddr 2 (tT 4)),⟨none,.store 1 (tT 84) (tT 83),none⟩]) (sQ (.region [oM 85 3,oO 86 (kC 96 [(tT 85)]),
 oO 87 (.bin .rem .num (tT 86) (kI 7)),oM 10 87]) (sQ (sQ (.region [oO 11 (.mov (kI 0))]) (.block 4 (.loop (sQ (sQ (.region [oM 88 11,oM 89 10,oO 90 (.bin .lss .num (tT 88) (tT 89))]) (.cond (tT 90) .skip (.exit 4))) (sQ (.block 5 (sQ (.region [oM 93 3,
 oO 94 (kC 96 [(tT 93)]),oM 12 94]) (sQ (.region [oM 95 3,oO 96 (kC 96 [(tT 95)]),oM 13 96]) (sQ (.region [oM 97 3,oO 98 (kC 96 [(tT 97)]),oM 14 98]) (sQ (.region [oM 99 3,oO 100 (kC 96 [(tT 99)]),oM 15 100]) (sQ (.region [oM 101 12,
 oO 102 (.bin .rem .num (tT 101) (kI 4)),oO 103 (.bin .eql .num (tT 102) (kI 3)),oM 104 13,oO 105 (.faddr 0 (tT 4)),oO 106 (.load false 1 (tT 105)),oO 107 (.bin .rem .num (tT 104) (tT 106)),oO 108 (.bin .add .num (kI 1) (tT 107)),
 oM 109 11,oO 110 (.build [(.bool false),(.int .u64 0),(.int .u64 0),(.int .i64 0),(.int .i64 0)] [(0,1,(tT 103)),(3,1,(tT 108)),(4,1,(tT 109))]),oO 16 (.alloc [(.bool false),(.int .u64 0),(.int .u64 0),
 (.int .i64 0),(.int .i64 0)]),⟨none,.store 5 (tT 16) (tT 110),none⟩]) (sQ (sQ (.region [oO 111 (.faddr 0 (tT 16)),oO 112 (.load false 1 (tT 111)),oO 113 (.una .not (tT 112))]) (.cond (tT 113) (.region [oM 114 14,
 oM 115 15,oM 116 5,oO 117 (kC 98 [(tT 114),(tT 115),(tT 116)]),oO 118 (.faddr 1 (tT 16)),⟨none,.store 2 (tT 118) (tT 117),none⟩]) .skip)) (.region [oO 119 (.faddr 3 (tT 4)),oO 120 (.load false 1 (tT 119)),
 oO 121 (.load true 5 (tT 16)),oO 122 (.bslice [(.bool false),(.int .u64 0),(.int .u64 0),(.int .i64 0),(.int .i64 0)] 1 [(0,(tT 121))]),oO 123 (.append [(.bool false),(.int .u64 0),(.int .u64 0),(.int .i64 0),
 (.int .i64 0)] 40 (tT 120) (tT 122)),oO 124 (.faddr 3 (tT 4)),⟨none,.store 1 (tT 124) (tT 123),none⟩])))))))) (.region [oM 91 11,oO 92 (.bin .add .num (tT 91) (kI 1)),oM 11 92])))))) (sQ (.region [oM 125 3,
 oO 126 (kC 96 [(tT 125)]),oO 127 (.bin .rem .num (tT 126) (kI 4)),oM 17 127]) (sQ (.region [oM 128 3,oO 129 (kC 96 [(tT 128)]),oO 130 (.bin .rem .num (tT 129) (kI 3)),oO 131 (.bin .add .num (kI 1) (tT 130)),
 oM 18 131]) (sQ (sQ (.region [oO 19 (.mov (kI 0))]) (.block 6 (.loop (sQ (sQ (.region [oM 132 19,oM 133 17,oO 134 (.bin .lss .num (tT 132) (tT 133))]) (.cond (tT 134) .skip (.exit 6))) (sQ (.block 7 (sQ (.region [oM 137 3,
 oO 138 (kC 96 [(tT 137)]),oM 20 138]) (sQ (.region [oM 139 3,oO 140 (kC 96 [(tT 139)]),oM 21 140]) (sQ (.region [oM 141 20,oM 142 19,oO 143 (.faddr 0 (tT 4)),oO 144 (.load false 1 (tT 143)),oO 145 (.bin .rem .num (tT 142) (tT 144)),
 oO 146 (.conv .u64 (tT 145)),oO 147 (.bin .shl .num (kI 2) (tT 146)),oO 148 (.bin .or .num (tT 141) (tT 147)),oM 149 21,oM 150 5,oO 151 (kC 98 [(tT 148),(tT 149),(tT 150)]),oO 22 (.alloc [(.int .u64 0),
 (.int .u64 0)]),⟨none,.store 2 (tT 22) (tT 151),none⟩]) (sQ (.draw [⟨0,oO 152 (.load true 2 (tT 22)),0,0,false⟩,⟨1,oO 153 (.faddr 1 (tT 4)),0,0,false⟩,⟨2,oO 154 (.load false 1 (tT 153)),2,0,false⟩,⟨3,oO 155 (.faddr 2 (tT 4)),
 0,0,false⟩,⟨4,oO 156 (.load false 1 (tT 155)),8,0,false⟩,⟨5,oO 157 (kC 55 [(tT 154),(tT 156)]),30,0,false⟩,⟨6,oO 158 (kC 30 [(tT 152),(tT 157)]),63,1,false⟩,⟨7,oO 159 (.una .not (tT 158)),127,1,false⟩]) (.cond (tT 159) (.region [oO 160 (.faddr 4 (tT 4)),
 oO 161 (.load false 1 (tT 160)),oO 162 (.load true 2 (tT 22)),oO 163 (.bslice [(.int .u64 0),(.int .u64 0)] 1 [(0,(tT 162))]),oO 164 (.append [(.int .u64 0),(.int .u64 0)] 16 (tT 161) (tT 163)),oO 165 (.faddr 4 (tT 4)),
 ⟨none,.store 1 (tT 165) (tT 164),none⟩]) .skip)))))) (.region [oM 135 19,oO 136 (.bin .add .num (tT 135) (kI 1)),oM 19 136])))))) (sQ (sQ (.region [oO 23 (.mov (kI 0))]) (.block 8 (.loop (sQ (sQ (.region [oM 166 23,
 oM 167 18,oO 168 (.bin .lss .num (tT 166) (tT 167))]) (.cond (tT 168) .skip (.exit 8))) (sQ (.block 9 (sQ (.region [oM 171 3,oO 172 (kC 96 [(tT 171)]),oM 24 172]) (sQ (.region [oM 173 3,oO 174 (kC 96 [(tT 173)]),
 oM 25 174]) (.draw [⟨0,oO 175 (.faddr 5 (tT 4)),0,1,false⟩,⟨1,oO 176 (.load false 1 (tT 175)),1,1,false⟩,⟨2,oM 177 24,0,0,false⟩,⟨3,oM 178 25,0,0,false⟩,⟨4,oM 179 5,0,0,false⟩,⟨5,oO 180 (kC 98 [(tT 177),
 (tT 178),(tT 179)]),28,0,false⟩,⟨6,oO 181 (.bslice [(.int .u64 0),(.int .u64 0)] 1 [(0,(tT 180))]),60,0,false⟩,⟨7,oO 182 (.append [(.int .u64 0),(.int .u64 0)] 16 (tT 176) (tT 181)),127,1,false⟩,⟨8,oO 183 (.faddr 5 (tT 4)),
 255,1,false⟩,⟨9,⟨none,.store 1 (tT 183) (tT 182),none⟩,511,1,false⟩])))) (.region [oM 169 23,oO 170 (.bin .add .num (tT 169) (kI 1)),oM 23 170])))))) (sQ (.region [oO 184 (.load true 6 (tT 4)),⟨none,.store 6 (tT 2) (tT 184),
 none⟩]) .ret)))))))))))))))
theorem ok46 : FnOk Tryz.prog 46 185 ir46 [.cell 2 true 6] := Z7 mixed Tryz.func46 (by kernel_rfl) Tryz.ntmps46 (by kernel_rfl) (by kernel_rfl)
def ir47 : ACode := (sQ (.region [oO 1 (.box (tT 0)),oO 2 (.alloc [(.int .i64 0),(.pointer none),nS,nS,nS,nS]),oO 3 (.mov kF)]) (sQ (.draw [⟨0,oO 11 (.faddr 0 (tT 1)),0,0,false⟩,⟨1,oO 12 (.load false 1 (tT 11)),
 1,0,false⟩,⟨2,oO 13 (kC 42 []),0,0,false⟩,⟨3,oO 14 (.faddr 2 (tT 1)),0,0,false⟩,⟨4,oO 15 (.load false 1 (tT 14)),8,0,false⟩,⟨5,oO 16 (kC 18 [(tT 15)]),28,0,false⟩,⟨6,oO 17 (.faddr 4 (tT 1)),0,0,false⟩,
 ⟨7,oO 18 (.load false 1 (tT 17)),64,0,false⟩,⟨8,oO 19 (kC 99 [(tT 18)]),252,0,false⟩,⟨9,oO 20 (.faddr 5 (tT 1)),0,0,false⟩,⟨10,oO 21 (.load false 1 (tT 20)),512,0,false⟩,⟨11,oO 22 (kC 99 [(tT 21)]),2044,
 0,false⟩,⟨12,oO 23 (.build [(.int .i64 0),(.pointer none),nS,nS,nS,nS] [(0,1,(tT 12)),(1,1,(tT 13)),(2,1,(tT 16)),(4,1,(tT 19)),(5,1,(tT 22))]),4095,1,false⟩,⟨13,oO 4 (.alloc [(.int .i64 0),(.pointer none),
 nS,nS,nS,nS]),0,0,false⟩,⟨14,⟨none,.store 6 (tT 4) (tT 23),none⟩,16383,1,false⟩]) (sQ (sQ (.region [oO 24 (.faddr 1 (tT 1)),oO 25 (.load false 1 (tT 24)),oO 26 (.len (tT 25)),oO 27 (.mov (kI 0))]) (.block 0 (.loop (sQ (.region [oO 28 (.bin .lss .num (tT 27) (tT 26))]) (sQ (.cond (tT 28) .skip (.exit 0)) (sQ (.block 1 (sQ (.region [oO 29 (.iaddr 2 (tT 25) (tT 27)),
 oO 30 (.load true 2 (tT 29)),oO 6 (.alloc [(.int .i64 0),(.int .i64 0)]),⟨none,.store 2 (tT 6) (tT 30),none⟩]) (sQ (.region [oO 32 (.faddr 1 (tT 4)),oO 33 (.load false 1 (tT 32)),oO 34 (.iaddrA 2 1 (tT 6) (kI 0)),
 oO 35 (.load false 1 (tT 34)),oO 36 (.iaddrA 2 1 (tT 6) (kI 1)),oO 37 (.load false 1 (tT 36)),oO 38 (kC 100 [(tT 33),(tT 35),(tT 37)]),oM 31 38,oO 39 (.extract (tT 31) 0),oO 40 (.extract (tT 31) 1),oM 7 39,
 oM 8 40]) (sQ (sQ (.region [oM 41 8,oO 42 (.bin .neq .num (tT 41) (kI 0))]) (.cond (tT 42) (sQ (.region [oO 43 (.build [(.int .i64 0),(.pointer none),nS,nS,nS,nS] []),⟨none,.store 6 (tT 2) (tT 43),none⟩,
 oO 3 (.mov kF)]) .ret) .skip)) (.region [oM 44 7,oO 45 (.faddr 1 (tT 4)),⟨none,.store 1 (tT 45) (tT 44),none⟩]))))) (.region [oO 46 (.bin .add .num (tT 27) (kI 1)),oM 27 46]))))))) (sQ (sQ (.region [oO 47 (.faddr 3 (tT 1)),
 oO 48 (.load false 1 (tT 47)),oO 49 (.len (tT 48)),oO 50 (.mov (kI 0))]) (.block 2 (.loop (sQ (.region [oO 51 (.bin .lss .num (tT 50) (tT 49))]) (sQ (.cond (tT 51) .skip (.exit 2)) (sQ (.block 3 (sQ (.region [oO 52 (.iaddr 5 (tT 48) (tT 50)),
 oO 53 (.load true 5 (tT 52)),oO 10 (.alloc [(.bool false),(.int .u64 0),(.int .u64 0),(.int .i64 0),(.int .i64 0)]),⟨none,.store 5 (tT 10) (tT 53),none⟩]) (.draw [⟨0,oO 54 (.faddr 3 (tT 4)),0,0,false⟩,
 ⟨1,oO 55 (.load false 1 (tT 54)),1,0,false⟩,⟨2,oO 56 (.faddr 0 (tT 10)),0,0,false⟩,⟨3,oO 57 (.load false 1 (tT 56)),4,0,false⟩,⟨4,oO 58 (.faddr 1 (tT 10)),0,0,false⟩,⟨5,oO 59 (.load true 2 (tT 58)),16,
 0,false⟩,⟨6,oO 60 (kC 27 [(tT 59)]),48,0,false⟩,⟨7,oO 61 (.faddr 3 (tT 10)),0,0,false⟩,⟨8,oO 62 (.load false 1 (tT 61)),128,0,false⟩,⟨9,oO 63 (.faddr 4 (tT 10)),0,0,false⟩,⟨10,oO 64 (.load false 1 (tT 63)),
 512,0,false⟩,⟨11,oO 65 (.build [(.bool false),nS,nS,(.int .i64 0),(.int .i64 0)] [(0,1,(tT 57)),(1,2,(tT 60)),(3,1,(tT 62)),(4,1,(tT 64))]),2044,0,false⟩,⟨12,oO 66 (.bslice [(.bool false),nS,nS,(.int .i64 0),
 (.int .i64 0)] 1 [(0,(tT 65))]),4092,0,false⟩,⟨13,oO 67 (.append [(.bool false),nS,nS,(.int .i64 0),(.int .i64 0)] 72 (tT 55) (tT 66)),8191,1,false⟩,⟨14,oO 68 (.faddr 3 (tT 4)),16383,1,false⟩,⟨15,⟨none,
 .store 1 (tT 68) (tT 67),none⟩,32767,1,false⟩]))) (.region [oO 69 (.bin .add .num (tT 50) (kI 1)),oM 50 69]))))))) (sQ (.draw [⟨0,oO 70 (.load true 6 (tT 4)),0,0,false⟩,⟨1,oO 71 (.faddr 1 (tT 4)),0,0,false⟩,
 ⟨2,oO 72 (.load false 1 (tT 71)),2,0,false⟩,⟨3,oO 73 (.bin .neq .ptr (tT 72) (.const (.pointer none))),6,0,false⟩,⟨4,⟨none,.store 6 (tT 2) (tT 70),none⟩,1,2,false⟩,⟨5,oM 3 73,31,1,false⟩]) .ret)))))
theorem ok47 : FnOk Tryz.prog 47 74 ir47 [.cell 2 true 6, .tmp 3] := Z7 mixed Tryz.func47 (by kernel_rfl) Tryz.ntmps47 (by kernel_rfl) (by kernel_rfl)
def ir48 : ACode := (sQ (.region [oO 2 (.box (tT 0)),oO 4 (.mov (.const nS)),oO 5 (.mov (kI 0))]) (sQ (.region [oO 6 (.mov (.const nS))]) (sQ (sQ (.region [oM 11 1,oO 12 (.len (tT 11)),oO 13 (.mov (kI 0))]) (.block 0 (.loop (sQ (.region [oO 14 (.bin .lss .num (tT 13) (tT 12))]) (sQ (.cond (tT 14) .skip (.exit 0)) (sQ (.block 1 (sQ (.region [oO 15 (.iaddr 2 (tT 11) (tT 13)),
 oO 16 (.load true 2 (tT 15)),oO 8 (.alloc [nS,nS]),⟨none,.store 2 (tT 8) (tT 16),none⟩]) (sQ (.region [oO 18 (.load true 6 (tT 2)),oO 19 (.load true 2 (tT 8)),oO 20 (kC 101 [(tT 18),(tT 19)]),oM 17 20,
 oO 21 (.extract (tT 17) 0),oO 22 (.extract (tT 17) 1),oM 9 21,oM 10 22]) (sQ (sQ (.region [oM 23 10,oO 24 (.bin .neq .num (tT 23) (kI 0))]) (.cond (tT 24) (sQ (.region [oM 25 10,oO 4 (.mov (.const nS)),
 oM 5 25]) .ret) .skip)) (.region [oM 26 6,oM 27 9,oO 28 (.append [nS,nS] 48 (tT 26) (tT 27)),oM 6 28]))))) (.region [oO 29 (.bin .add .num (tT 13) (kI 1)),oM 13 29]))))))) (sQ (.region [oM 30 6,oM 4 30,
 oO 5 (.mov (kI 0))]) .ret))))
theorem ok48 : FnOk Tryz.prog 48 31 ir48 [.tmp 4, .tmp 5] := Z7 mixed Tryz.func48 (by kernel_rfl) Tryz.ntmps48 (by kernel_rfl) (by kernel_rfl)
def ir49 : ACode := (sQ (.region [oO 2 (.mov (.const nS)),oO 3 (.mov (kI 0))]) (sQ (.region [oM 4 0,oO 5 (kC 22 [(tT 4)]),oM 0 5]) (sQ (sQ (.region [oM 6 0,oO 7 (.len (tT 6)),oO 8 (.bin .gtr .num (tT 7) (kI 2000))]) (.cond (tT 8) (sQ (.region [oO 2 (.mov (.const nS)),
 oO 3 (.mov (kI 3))]) .ret) .skip)) (sQ (.region [oM 9 0,oM 2 9,oO 3 (.mov (kI 0))]) .ret))))
theorem ok49 : FnOk Tryz.prog 49 10 ir49 [.tmp 2, .tmp 3] := Z7 mixed Tryz.func49 (by kernel_rfl) Tryz.ntmps49 (by kernel_rfl) (by kernel_rfl)
def ir50 : ACode := (sQ (.region [oO 4 (.mov kF)]) (sQ (.region [oM 5 0,oM 6 1,oO 7 (kC 102 [(tT 5),(tT 6)]),oO 8 (.bin .geq .num (tT 7) (kI 0)),oM 4 8]) .ret))
theorem ok50 : FnOk Tryz.prog 50 9 ir50 [.tmp 4] := Z7 mixed Tryz.func50 (by kernel_rfl) Tryz.ntmps50 (by kernel_rfl) (by kernel_rfl)
def ir51 : ACode := (sQ (.region [oO 2 (.box (tT 0)),oO 3 (.mov kF)]) (sQ (.region [oO 4 (.load true 2 (tT 2)),oO 5 (.load true 1 (tT 1)),oO 6 (kC 52 [(tT 4),(tT 5)]),oM 3 6]) .ret))
theorem ok51 : FnOk Tryz.prog 51 7 ir51 [.tmp 3] := Z7 mixed Tryz.func51 (by kernel_rfl) Tryz.ntmps51 (by kernel_rfl) (by kernel_rfl)
def ir52 : ACode := (sQ (.region [oO 2 (.box (tT 0)),oO 3 (.box (tT 1)),oO 4 (.mov kF)]) (sQ (.region [oO 5 (.faddr 0 (tT 2)),oO 6 (.load true 1 (tT 5)),oO 7 (.load true 1 (tT 3)),oO 8 (kC 65 [(tT 6),(tT 7)]),
 oM 9 8,oT 9 10 (.faddr 1 (tT 2)),oT 9 11 (.load true 1 (tT 10)),oT 9 12 (.load true 1 (tT 3)),oT 9 13 (kC 69 [(tT 11),(tT 12)]),oT 9 14 (.una .not (tT 13)),oO 15 (.pick (tT 9) (tT 14) kF),oM 4 15]) .ret))
theorem ok52 : FnOk Tryz.prog 52 16 ir52 [.tmp 4] := Z7 mixed Tryz.func52 (by kernel_rfl) Tryz.ntmps52 (by kernel_rfl) (by kernel_rfl)
def ir53 : ACode := (sQ (.region [oO 2 (.mov (.const nS))]) (sQ (.region [oO 3 (.mov (.const nS))]) (sQ (sQ (.region [oO 4 (.mov (kI 0))]) (.block 0 (.loop (sQ (sQ (.region [oM 5 4,oO 6 (.bin .lss .num (tT 5) (kI 64))]) (.cond (tT 6) .skip (.exit 0))) (sQ (.block 1 (sQ (.region [oM 9 0,
 oM 10 4,oO 11 (.bin .shr .num (tT 9) (tT 10)),oO 12 (.bin .rem .num (tT 11) (.const (.int .u64 2))),oO 13 (.bin .eql .num (tT 12) (.const (.int .u64 1)))]) (.cond (tT 13) (.region [oM 14 3,oM 15 4,oO 16 (.bslice [(.int .i64 0)] 1 [(0,
 (tT 15))]),oO 17 (.append [(.int .i64 0)] 8 (tT 14) (tT 16)),oM 3 17]) .skip))) (.region [oM 7 4,oO 8 (.bin .add .num (tT 7) (kI 1)),oM 4 8])))))) (sQ (.region [oM 18 3,oM 2 18]) .ret))))
theorem ok53 : FnOk Tryz.prog 53 19 ir53 [.tmp 2] := Z7 mixed Tryz.func53 (by kernel_rfl) Tryz.ntmps53 (by kernel_rfl) (by kernel_rfl)
def ir55 : ACode := (sQ (.region [oO 4 (.mov (.const (.int .u64 0)))]) (sQ (.region [oO 5 (.mov (.const (.int .u64 0)))]) (sQ (sQ (.region [oO 6 (.mov (kI 1))]) (.block 0 (.loop (sQ (sQ (.region [oM 7 6,
 oO 8 (.bin .lss .num (tT 7) (kI 64))]) (.cond (tT 8) .skip (.exit 0))) (sQ (.block 1 (sQ (.region [oM 11 1,oM 12 6,oO 13 (.bin .shr .num (tT 11) (tT 12)),oO 14 (.bin .rem .num (tT 13) (.const (.int .u64 2))),
 oO 15 (.bin .eql .num (tT 14) (.const (.int .u64 1)))]) (.cond (tT 15) (.region [oM 16 5,oM 17 0,oM 18 6,oO 19 (kC 103 [(tT 17),(tT 18)]),oO 20 (.bin .or .num (tT 16) (tT 19)),oM 5 20]) .skip))) (.region [oM 9 6,
 oO 10 (.bin .add .num (tT 9) (kI 1)),oM 6 10])))))) (sQ (.region [oM 21 5,oM 4 21]) .ret))))
theorem ok55 : FnOk Tryz.prog 55 22 ir55 [.tmp 4] := Z7 mixed Tryz.func55 (by kernel_rfl) Tryz.ntmps55 (by kernel_rfl) (by kernel_rfl)
def ir56 : ACode := (sQ (.region [oO 4 (.mov (.const nS)),oO 5 (.mov (kI 0))]) (sQ (.region [oO 6 (.mov (.const nS))]) (sQ (sQ (.region [oM 11 0,oO 12 (.len (tT 11)),oO 13 (.mov (kI 0))]) (.block 0 (.loop (sQ (.region [oO 14 (.bin .lss .num (tT 13) (tT 12))]) (sQ (.cond (tT 14) .skip (.exit 0)) (sQ (.block 1 (sQ (.region [oO 15 (.iaddr 2 (tT 11) (tT 13)),
 oO 16 (.load true 2 (tT 15)),oO 8 (.alloc [nS,nS]),⟨none,.store 2 (tT 8) (tT 16),none⟩]) (sQ (.region [oO 18 (.load true 2 (tT 8)),oM 19 1,oO 20 (kC 104 [(tT 18),(tT 19)]),oM 17 20,oO 21 (.extract (tT 17) 0),
 oO 22 (.extract (tT 17) 1),oM 9 21,oM 10 22]) (sQ (sQ (.region [oM 23 10,oO 24 (.bin .neq .num (tT 23) (kI 0))]) (.cond (tT 24) (sQ (.region [oM 25 10,oO 4 (.mov (.const nS)),oM 5 25]) .ret) .skip)) (.region [oM 26 6,
 oM 27 9,oO 28 (.append [nS,nS] 48 (tT 26) (tT 27)),oM 6 28]))))) (.region [oO 29 (.bin .add .num (tT 13) (kI 1)),oM 13 29]))))))) (sQ (.region [oM 30 6,oM 4 30,oO 5 (.mov (kI 0))]) .ret))))
theorem ok56 : FnOk Tryz.prog 56 31 ir56 [.tmp 4, .tmp 5] := Z7 mixed Tryz.func56 (by kernel_rfl) Tryz.ntmps56 (by kernel_rfl) (by kernel_rfl)
def ir57 : ACode := (sQ (.region [oO 2 (.mov (.const nS))]) (sQ (sQ (.region [oM 3 0,oO 4 (.isnil false (tT 3))]) (.cond (tT 4) (sQ (.region [oO 2 (.mov (.const nS))]) .ret) .skip)) (sQ (.region [oO 5 (.bslice [nS,
 nS] 0 []),oM 6 0,oO 7 (.append [nS,nS] 48 (tT 5) (tT 6)),oM 2 7]) .ret)))
theorem ok57 : FnOk Tryz.prog 57 8 ir57 [.tmp 2] := Z7 mixed Tryz.func57 (by kernel_rfl) Tryz.ntmps57 (by kernel_rfl) (by kernel_rfl)
def ir59 : ACode := (sQ (.region [oO 2 (.box (tT 0)),oO 3 (.box (tT 1)),oO 4 (.mov (kI 0))]) (sQ (sQ (.region [oO 6 (.faddr 0 (tT 2)),oO 7 (.load true 1 (tT 6)),oO 8 (.faddr 0 (tT 3)),oO 9 (.load true 1 (tT 8)),
 oO 10 (kC 107 [(tT 7),(tT 9)]),oM 5 10]) (sQ (.region [oM 11 5,oO 12 (.bin .neq .num (tT 11) (kI 0))]) (.cond (tT 12) (sQ (.region [oM 13 5,oM 4 13]) .ret) .skip))) (sQ (.region [oO 14 (.faddr 1 (tT 2)),
 oO 15 (.load true 1 (tT 14)),oO 16 (.faddr 1 (tT 3)),oO 17 (.load true 1 (tT 16)),oO 18 (kC 107 [(tT 15),(tT 17)]),oM 4 18]) .ret)))
theorem ok59 : FnOk Tryz.prog 59 19 ir59 [.tmp 4] := Z7 mixed Tryz.func59 (by kernel_rfl) Tryz.ntmps59 (by kernel_rfl) (by kernel_rfl)
def ir60 : ACode := (sQ (.region [oO 4 (.mov (.const nS))]) (sQ (sQ (.region [oM 8 0,oO 9 (.len (tT 8)),oO 10 (.bin .lss .num (tT 9) (kI 2))]) (.cond (tT 10) (sQ (.region [oM 11 0,oM 4 11]) .ret) .skip)) (sQ (sQ (.region [oO 5 (.mov (kI 1))]) (.block 0 (.loop (sQ (sQ (.region [oM 12 5,
 oM 13 0,oO 14 (.len (tT 13)),oO 15 (.bin .lss .num (tT 12) (tT 14))]) (.cond (tT 15) .skip (.exit 0))) (sQ (.block 1 (sQ (.draw [⟨0,oM 18 1,0,0,false⟩,⟨1,oM 19 0,0,0,false⟩,⟨2,oM 20 5,0,0,false⟩,⟨3,oO 21 (.iaddr 2 (tT 19) (tT 20)),
 6,0,false⟩,⟨4,oO 22 (.load true 2 (tT 21)),14,0,false⟩,⟨5,oM 23 0,0,0,false⟩,⟨6,oM 24 5,0,0,false⟩,⟨7,oO 25 (.bin .sub .num (tT 24) (kI 1)),64,0,false⟩,⟨8,oO 26 (.iaddr 2 (tT 23) (tT 25)),224,0,false⟩,
 ⟨9,oO 27 (.load true 2 (tT 26)),480,0,false⟩,⟨10,oO 28 (.call (tT 18) [(tT 22),(tT 27)]),1023,1,false⟩]) (.cond (tT 28) (sQ (.region [oM 29 0,oM 30 5,oO 31 (.slc 2 (tT 29) (some (tT 30)) none none),oM 6 31]) (sQ (sQ (.region [oO 7 (.mov (kI 1))]) (.block 2 (.loop (sQ (sQ (.region [oM 32 7,
 oM 33 6,oO 34 (.len (tT 33)),oO 35 (.bin .lss .num (tT 32) (tT 34))]) (.cond (tT 35) .skip (.exit 2))) (sQ (.block 3 (sQ (.draw [⟨0,oM 38 1,0,0,false⟩,⟨1,oM 39 6,0,0,false⟩,⟨2,oM 40 7,0,0,false⟩,⟨3,oO 41 (.iaddr 2 (tT 39) (tT 40)),
 6,0,false⟩,⟨4,oO 42 (.load true 2 (tT 41)),14,0,false⟩,⟨5,oM 43 6,0,0,false⟩,⟨6,oM 44 7,0,0,false⟩,⟨7,oO 45 (.bin .sub .num (tT 44) (kI 1)),64,0,false⟩,⟨8,oO 46 (.iaddr 2 (tT 43) (tT 45)),224,0,false⟩,
 ⟨9,oO 47 (.load true 2 (tT 46)),480,0,false⟩,⟨10,oO 48 (.call (tT 38) [(tT 42),(tT 47)]),1023,1,false⟩,⟨11,oO 49 (.una .not (tT 48)),2047,1,false⟩]) (.cond (tT 49) (sQ (.region [oM 50 0,oM 51 5,oM 52 6,
 oM 53 7,oO 54 (.iaddr 2 (tT 52) (tT 53)),oO 55 (.load true 2 (tT 54)),oO 56 (.iaddr 2 (tT 50) (tT 51)),⟨none,.store 2 (tT 56) (tT 55),none⟩]) (.region [oM 57 5,oO 58 (.bin .add .num (tT 57) (kI 1)),oM 5 58])) .skip))) (.region [oM 36 7,
 oO 37 (.bin .add .num (tT 36) (kI 1)),oM 7 37])))))) (sQ (.region [oM 59 0,oM 60 5,oO 61 (.slc 2 (tT 59) (some (tT 60)) none none),⟨none,.clear [nS,nS] (tT 61),none⟩]) (sQ (.region [oM 62 0,oM 63 5,oO 64 (.slc 2 (tT 62) none (some (tT 63)) none),
 oM 4 64]) .ret)))) .skip))) (.region [oM 16 5,oO 17 (.bin .add .num (tT 16) (kI 1)),oM 5 17])))))) (sQ (.region [oM 65 0,oM 4 65]) .ret))))
theorem ok60 : FnOk Tryz.prog 60 66 ir60 [.tmp 4] := Z7 mixed Tryz.func60 (by kernel_rfl) Tryz.ntmps60 (by kernel_rfl) (by kernel_rfl)
def ir61 : ACode := (sQ (.region [oO 2 (.box (tT 0)),oO 3 (.box (tT 1)),oO 4 (.mov kF)]) (sQ (.region [oO 5 (.load true 2 (tT 2)),oO 6 (kC 28 [(tT 5)]),oM 7 6,oF 7 8 (.faddr 0 (tT 3)),oF 7 9 (.load true 1 (tT 8)),
 oF 7 10 (.faddr 0 (tT 2)),oF 7 11 (.load true 1 (tT 10)),oF 7 12 (kC 65 [(tT 9),(tT 11)]),oF 7 13 (.mov (tT 12)),oT 13 14 (.faddr 1 (tT 3)),oT 13 15 (.load true 1 (tT 14)),oT 13 16 (.faddr 1 (tT 2)),oT 13 17 (.load true 1 (tT 16)),
 oT 13 18 (kC 65 [(tT 15),(tT 17)]),oF 7 19 (.pick (tT 13) (tT 18) kF),oO 20 (.pick (tT 7) kT (tT 19)),oM 4 20]) .ret))
theorem ok61 : FnOk Tryz.prog 61 21 ir61 [.tmp 4] := Z7 mixed Tryz.func61 (by kernel_rfl) Tryz.ntmps61 (by kernel_rfl) (by kernel_rfl)
def ir62 : ACode := (sQ (.region [oO 2 (.box (tT 0)),oO 3 (.box (tT 1)),oO 4 (.mov kF)]) (sQ (sQ (.region [oO 7 (.faddr 0 (tT 2)),oO 8 (.load false 1 (tT 7)),oO 9 (.len (tT 8)),oO 10 (.faddr 0 (tT 3)),
 oO 11 (.load false 1 (tT 10)),oO 12 (.len (tT 11)),oO 13 (.bin .neq .num (tT 9) (tT 12))]) (.cond (tT 13) (sQ (.region [oO 4 (.mov kF)]) .ret) .skip)) (sQ (sQ (.region [oO 14 (.faddr 0 (tT 2)),oO 15 (.load false 1 (tT 14)),
 oO 16 (.len (tT 15)),oO 17 (.mov (kI 0))]) (.block 0 (.loop (sQ (.region [oO 18 (.bin .lss .num (tT 17) (tT 16))]) (sQ (.cond (tT 18) .skip (.exit 0)) (sQ (.block 1 (sQ (.region [oM 19 17,oO 20 (.iaddr 1 (tT 15) (tT 17)),
 oO 21 (.load false 1 (tT 20)),oM 5 19,oM 6 21]) (sQ (.region [oM 22 6,oO 23 (.faddr 0 (tT 3)),oO 24 (.load false 1 (tT 23)),oM 25 5,oO 26 (.iaddr 1 (tT 24) (tT 25)),oO 27 (.load false 1 (tT 26)),oO 28 (.bin .neq .num (tT 22) (tT 27))]) (.cond (tT 28) (sQ (.region [oO 4 (.mov kF)]) .ret) .skip)))) (.region [oO 29 (.bin .add .num (tT 17) (kI 1)),
 oM 17 29]))))))) (sQ (.region [oO 4 (.mov kT)]) .ret))))
theorem ok62 : FnOk Tryz.prog 62 30 ir62 [.tmp 4] := Z7 mixed Tryz.func62 (by kernel_rfl) Tryz.ntmps62 (by kernel_rfl) (by kernel_rfl)
def ir63 : ACode := (sQ (.region [oO 2 (.box (tT 0)),oO 3 (.box (tT 1)),oO 4 (.alloc [nS])]) (sQ (.region [oO 7 (.faddr 0 (tT 2)),oO 8 (.load false 1 (tT 7)),oO 9 (.len (tT 8)),oO 10 (.faddr 0 (tT 3)),
 oO 11 (.load false 1 (tT 10)),oO 12 (.len (tT 11)),oO 13 (.mx (tT 9) (tT 12)),oO 14 (.mslice [(.int .u64 0)] 8 (tT 13) (tT 13)),oM 5 14]) (sQ (sQ (.region [oM 15 5,oO 16 (.len (tT 15)),oO 17 (.mov (kI 0))]) (.block 0 (.loop (sQ (.region [oO 18 (.bin .lss .num (tT 17) (tT 16))]) (sQ (.cond (tT 18) .skip (.exit 0)) (sQ (.block 1 (sQ (.region [oM 19 17,
 oM 6 19]) (.draw [⟨0,oM 20 5,0,0,false⟩,⟨1,oM 21 6,0,0,false⟩,⟨2,oO 22 (.load true 1 (tT 2)),0,0,false⟩,⟨3,oM 23 6,0,0,false⟩,⟨4,oO 24 (kC 108 [(tT 22),(tT 23)]),12,0,false⟩,⟨5,oO 25 (.load true 1 (tT 3)),
 0,0,false⟩,⟨6,oM 26 6,0,0,false⟩,⟨7,oO 27 (kC 108 [(tT 25),(tT 26)]),124,1,false⟩,⟨8,oO 28 (.bin .or .num (tT 24) (tT 27)),252,1,false⟩,⟨9,oO 29 (.iaddr 1 (tT 20) (tT 21)),511,1,false⟩,⟨10,⟨none,.store 1 (tT 29) (tT 28),
 none⟩,1023,1,false⟩]))) (.region [oO 30 (.bin .add .num (tT 17) (kI 1)),oM 17 30]))))))) (sQ (.region [oM 31 5,oO 32 (.build [nS] [(0,1,(tT 31))]),⟨none,.store 1 (tT 4) (tT 32),none⟩]) .ret))))
theorem ok63 : FnOk Tryz.prog 63 33 ir63 [.cell 4 true 1] := Z7 mixed Tryz.func63 (by kernel_rfl) Tryz.ntmps63 (by kernel_rfl) (by kernel_rfl)
def ir64 : ACode := (sQ (.region [oO 2 (.box (tT 0)),oO 4 (.mov kF)]) (sQ (.region [oM 5 1,oO 6 (.bin .geq .num (tT 5) (kI 0)),oM 7 6,oT 7 8 (.mov (tT 1)),oT 7 9 (.bin .leq .num (tT 8) (kI 4095)),oO 10 (.pick (tT 7) (tT 9) kF),
 oM 11 10,oT 11 12 (.load true 1 (tT 2)),oT 11 13 (.mov (tT 1)),oT 11 14 (.bin .quo .num (tT 13) (kI 64)),oT 11 15 (kC 108 [(tT 12),(tT 14)]),oT 11 16 (.mov (tT 1)),oT 11 17 (.bin .rem .num (tT 16) (kI 64)),
 oT 11 18 (.bin .shr .num (tT 15) (tT 17)),oT 11 19 (.bin .and .num (tT 18) (.const (.int .u64 1))),oT 11 20 (.bin .eql .num (tT 19) (.const (.int .u64 1))),oO 21 (.pick (tT 11) (tT 20) kF),oM 4 21]) .ret))
theorem ok64 : FnOk Tryz.prog 64 22 ir64 [.tmp 4] := Z7 mixed Tryz.func64 (by kernel_rfl) Tryz.ntmps64 (by kernel_rfl) (by kernel_rfl)
def ir65 : ACode := (sQ (.region [oO 2 (.box (tT 0)),oO 3 (.box (tT 1)),oO 4 (.mov kF)]) (sQ (sQ (.region [oO 7 (.faddr 0 (tT 2)),oO 8 (.load false 1 (tT 7)),oO 9 (.len (tT 8)),oO 10 (.mov (kI 0))]) (.block 0 (.loop (sQ (.region [oO 11 (.bin .lss .num (tT 10) (tT 9))]) (sQ (.cond (tT 11) .skip (.exit 0)) (sQ (.block 1 (sQ (.region [oM 12 10,
 oO 13 (.iaddr 1 (tT 8) (tT 10)),oO 14 (.load false 1 (tT 13)),oM 5 12,oM 6 14]) (sQ (.region [oM 15 6,oO 16 (.load true 1 (tT 3)),oM 17 5,oO 18 (kC 108 [(tT 16),(tT 17)]),oO 19 (.bin .andNot .num (tT 15) (tT 18)),
 oO 20 (.bin .neq .num (tT 19) (.const (.int .u64 0)))]) (.cond (tT 20) (sQ (.region [oO 4 (.mov kF)]) .ret) .skip)))) (.region [oO 21 (.bin .add .num (tT 10) (kI 1)),oM 10 21]))))))) (sQ (.region [oO 4 (.mov kT)]) .ret)))
theorem ok65 : FnOk Tryz.prog 65 22 ir65 [.tmp 4] := Z7 mixed Tryz.func65 (by kernel_rfl) Tryz.ntmps65 (by kernel_rfl) (by kernel_rfl)
def ir66 : ACode := (sQ (.region [oO 2 (.alloc [nS])]) (sQ (.region [oM 5 0,oO 6 (.mx (tT 5) (kI 0)),oO 7 (.mn (tT 6) (kI 4096)),oM 0 7]) (sQ (.region [oM 8 0,oO 9 (.bin .add .num (tT 8) (kI 63)),oO 10 (.bin .quo .num (tT 9) (kI 64)),
 oO 11 (.mslice [(.int .u64 0)] 8 (tT 10) (tT 10)),oM 3 11]) (sQ (sQ (.region [oM 12 3,oO 13 (.len (tT 12)),oO 14 (.mov (kI 0))]) (.block 0 (.loop (sQ (.region [oO 15 (.bin .lss .num (tT 14) (tT 13))]) (sQ (.cond (tT 15) .skip (.exit 0)) (sQ (.block 1 (sQ (.region [oM 16 14,
 oM 4 16]) (.region [oM 17 3,oM 18 4,oO 19 (.iaddr 1 (tT 17) (tT 18)),⟨none,.store 1 (tT 19) (.const (.int .u64 18446744073709551615)),none⟩]))) (.region [oO 20 (.bin .add .num (tT 14) (kI 1)),oM 14 20]))))))) (sQ (sQ (.region [oM 21 0,
 oO 22 (.bin .rem .num (tT 21) (kI 64)),oO 23 (.bin .gtr .num (tT 22) (kI 0))]) (.cond (tT 23) (.region [oM 24 3,oM 25 3,oO 26 (.len (tT 25)),oO 27 (.bin .sub .num (tT 26) (kI 1)),oM 28 0,oO 29 (.bin .rem .num (tT 28) (kI 64)),
 oO 30 (.bin .shl .num (.const (.int .u64 1)) (tT 29)),oO 31 (.bin .sub .num (tT 30) (.const (.int .u64 1))),oO 32 (.iaddr 1 (tT 24) (tT 27)),⟨none,.store 1 (tT 32) (tT 31),none⟩]) .skip)) (sQ (.region [oM 33 3,
 oO 34 (.build [nS] [(0,1,(tT 33))]),⟨none,.store 1 (tT 2) (tT 34),none⟩]) .ret))))))
theorem ok66 : FnOk Tryz.prog 66 35 ir66 [.cell 2 true 1] := Z7 mixed Tryz.func66 (by kernel_rfl) Tryz.ntmps66 (by kernel_rfl) (by kernel_rfl)
def ir67 : ACode := (sQ (.region [oO 1 (.box (tT 0)),oO 2 (.mov (.const (.pointer none))),oO 3 (.mov (kI 0))]) (sQ (.region [oO 17 (.load true 6 (tT 1)),oO 18 (kC 15 [(tT 17)]),oM 16 18,oO 19 (.extract (tT 16) 0),
 oO 20 (.extract (tT 16) 1),oM 4 19,oM 5 20]) (sQ (sQ (.region [oM 21 5,oO 22 (.bin .neq .num (tT 21) (kI 0))]) (.cond (tT 22) (sQ (.region [oM 23 5,oO 2 (.mov (.const (.pointer none))),oM 3 23]) .ret) .skip)) (sQ (.region [oO 24 (.load true 6 (tT 1)),
 oM 25 4,oO 26 (.build [(.int .i64 0),(.pointer none),nS,nS,nS,nS,nS,nS,nS] [(0,6,(tT 24)),(6,1,(tT 25))]),oO 27 (.box (tT 26)),oM 6 27]) (sQ (sQ (.region [oO 28 (.faddr 3 (tT 1)),oO 29 (.load false 1 (tT 28)),
 oO 30 (.len (tT 29)),oO 31 (.mov (kI 0))]) (.block 0 (.loop (sQ (.region [oO 32 (.bin .lss .num (tT 31) (tT 30))]) (sQ (.cond (tT 32) .skip (.exit 0)) (sQ (.block 1 (sQ (.region [oO 33 (.iaddr 5 (tT 29) (tT 31)),
 oO 34 (.load true 5 (tT 33)),oO 8 (.alloc [(.bool false),nS,nS,(.int .i64 0),(.int .i64 0)]),⟨none,.store 5 (tT 8) (tT 34),none⟩]) (sQ (.region [oO 36 (.load true 6 (tT 1)),oO 37 (.faddr 1 (tT 8)),oO 38 (.load true 2 (tT 37)),
 oO 39 (kC 101 [(tT 36),(tT 38)]),oM 35 39,oO 40 (.extract (tT 35) 0),oO 41 (.extract (tT 35) 1),oM 9 40,oM 10 41]) (sQ (sQ (.region [oM 42 10,oO 43 (.bin .neq .num (tT 42) (kI 0))]) (.cond (tT 43) (sQ (.region [oM 44 10,
 oO 2 (.mov (.const (.pointer none))),oM 3 44]) .ret) .skip)) (sQ (.region [oO 45 (.bslice [nS,nS] 0 []),oM 46 4,oO 47 (.append [nS,nS] 48 (tT 45) (tT 46)),oM 11 47]) (sQ (sQ (.region [oM 48 4,oO 49 (.len (tT 48)),
 oO 50 (.mov (kI 0))]) (.block 2 (.loop (sQ (.region [oO 51 (.bin .lss .num (tT 50) (tT 49))]) (sQ (.cond (tT 51) .skip (.exit 2)) (sQ (.block 3 (sQ (.region [oO 52 (.iaddr 2 (tT 48) (tT 50)),oO 53 (.load true 2 (tT 52)),
 oO 13 (.alloc [nS,nS]),⟨none,.store 2 (tT 13) (tT 53),none⟩]) (sQ (.region [oO 55 (.load true 2 (tT 13)),oO 56 (.faddr 3 (tT 8)),oO 57 (.load false 1 (tT 56)),oO 58 (.faddr 0 (tT 8)),oO 59 (.load false 1 (tT 58)),
 oO 60 (kC 109 [(tT 55),(tT 57),(tT 59)]),oM 54 60,oO 61 (.extract (tT 54) 0),oO 62 (.extract (tT 54) 1),oO 14 (.alloc [nS,nS]),⟨none,.store 2 (tT 14) (tT 61),none⟩,oM 15 62]) (sQ (.region [oM 63 15]) (.cond (tT 63) (.region [oM 64 11,
 oO 65 (.load true 2 (tT 14)),oO 66 (.bslice [nS,nS] 1 [(0,(tT 65))]),oO 67 (.append [nS,nS] 48 (tT 64) (tT 66)),oM 11 67]) .skip))))) (.region [oO 68 (.bin .add .num (tT 50) (kI 1)),oM 50 68]))))))) (.draw [⟨0,
 oM 69 6,0,0,false⟩,⟨1,oM 70 6,0,0,false⟩,⟨2,oM 71 6,0,0,false⟩,⟨3,oO 72 (.nilck (tT 71)),4,0,false⟩,⟨4,oO 73 (.faddr 7 (tT 72)),12,0,false⟩,⟨5,oO 74 (.load false 1 (tT 73)),28,0,false⟩,⟨6,oM 75 9,0,0,false⟩,
 ⟨7,oO 76 (.bslice [nS] 1 [(0,(tT 75))]),64,0,false⟩,⟨8,oO 77 (.append [nS] 24 (tT 74) (tT 76)),252,504,false⟩,⟨9,oM 78 6,0,0,false⟩,⟨10,oO 79 (.nilck (tT 78)),512,0,false⟩,⟨11,oO 80 (.faddr 8 (tT 79)),
 1536,0,false⟩,⟨12,oO 81 (.load false 1 (tT 80)),3584,0,false⟩,⟨13,oM 82 11,0,0,false⟩,⟨14,oO 83 (.bslice [nS] 1 [(0,(tT 82))]),8192,0,false⟩,⟨15,oO 84 (.append [nS] 24 (tT 81) (tT 83)),32764,1,false⟩,⟨16,
 oO 85 (.nilck (tT 69)),65533,1,false⟩,⟨17,oO 86 (.faddr 7 (tT 85)),131069,1,false⟩,⟨18,⟨none,.store 1 (tT 86) (tT 77),none⟩,262141,1,false⟩,⟨19,oO 87 (.nilck (tT 70)),524287,1,false⟩,⟨20,oO 88 (.faddr 8 (tT 87)),
 1048575,1,false⟩,⟨21,⟨none,.store 1 (tT 88) (tT 84),none⟩,2097151,1,false⟩]))))))) (.region [oO 89 (.bin .add .num (tT 31) (kI 1)),oM 31 89]))))))) (sQ (.region [oM 90 6,oM 2 90,oO 3 (.mov (kI 0))]) .ret))))))
theorem ok67 : FnOk Tryz.prog 67 91 ir67 [.tmp 2, .tmp 3] := Z7 mixed Tryz.func67 (by kernel_rfl) Tryz.ntmps67 (by kernel_rfl) (by kernel_rfl)
def ir68 : ACode := (sQ (.region [oO 4 (.box (tT 1)),oO 6 (.mov (.const nS)),oO 7 (.mov (kI 0))]) (sQ (.region [oM 17 0,oO 18 (.nilck (tT 17)),oO 19 (.faddr 0 (tT 18)),oO 20 (.faddr 3 (tT 19)),oO 21 (.load false 1 (tT 20)),
 oM 22 2,oO 23 (.iaddr 5 (tT 21) (tT 22)),oO 24 (.load true 5 (tT 23)),oO 8 (.alloc [(.bool false),nS,nS,(.int .i64 0),(.int .i64 0)]),⟨none,.store 5 (tT 8) (tT 24),none⟩]) (sQ (.region [oO 26 (.load true 2 (tT 4)),
 oO 27 (.faddr 3 (tT 8)),oO 28 (.load false 1 (tT 27)),oO 29 (.faddr 0 (tT 8)),oO 30 (.load false 1 (tT 29)),oO 31 (kC 109 [(tT 26),(tT 28),(tT 30)]),oM 25 31,oO 32 (.extract (tT 25) 0),oO 33 (.extract (tT 25) 1),
 oO 9 (.alloc [nS,nS]),⟨none,.store 2 (tT 9) (tT 32),none⟩,oM 10 33]) (sQ (sQ (.region [oM 34 10,oO 35 (.una .not (tT 34))]) (.cond (tT 35) (sQ (.region [oO 6 (.mov (.const nS)),oO 7 (.mov (kI 0))]) .ret) .skip)) (sQ (sQ (.region [oO 36 (.faddr 0 (tT 8)),
 oO 37 (.load false 1 (tT 36))]) (.cond (tT 37) (.region [oO 38 (.faddr 0 (tT 9)),oO 39 (.load true 1 (tT 38)),oO 40 (.faddr 3 (tT 8)),oO 41 (.load false 1 (tT 40)),oO 42 (kC 37 [(tT 39),(tT 41)]),oO 43 (.faddr 0 (tT 9)),
 ⟨none,.store 1 (tT 43) (tT 42),none⟩]) (.region [oO 44 (.faddr 1 (tT 9)),oO 45 (.load true 1 (tT 44)),oO 46 (.faddr 3 (tT 8)),oO 47 (.load false 1 (tT 46)),oO 48 (kC 37 [(tT 45),(tT 47)]),oO 49 (.faddr 1 (tT 9)),
 ⟨none,.store 1 (tT 49) (tT 48),none⟩]))) (sQ (.region [oO 11 (.mov (.const nS))]) (sQ (sQ (.region [oM 50 0,oO 51 (.nilck (tT 50)),oO 52 (.faddr 7 (tT 51)),oO 53 (.load false 1 (tT 52)),oM 54 2,oO 55 (.iaddr 1 (tT 53) (tT 54)),
 oO 56 (.load false 1 (tT 55)),oO 57 (.len (tT 56)),oO 58 (.mov (kI 0))]) (.block 0 (.loop (sQ (.region [oO 59 (.bin .lss .num (tT 58) (tT 57))]) (sQ (.cond (tT 59) .skip (.exit 0)) (sQ (.block 1 (sQ (.region [oO 60 (.iaddr 2 (tT 56) (tT 58)),
 oO 61 (.load true 2 (tT 60)),oO 13 (.alloc [nS,nS]),⟨none,.store 2 (tT 13) (tT 61),none⟩]) (sQ (.region [oO 63 (.load true 2 (tT 9)),oO 64 (.load true 2 (tT 13)),oO 65 (kC 110 [(tT 63),(tT 64)]),oM 62 65,
 oO 66 (.extract (tT 62) 0),oO 67 (.extract (tT 62) 1),oO 14 (.alloc [nS,nS]),⟨none,.store 2 (tT 14) (tT 66),none⟩,oM 15 67]) (sQ (.region [oM 68 15]) (.cond (tT 68) (.region [oM 69 11,oO 70 (.load true 2 (tT 14)),
 oO 71 (.bslice [nS,nS] 1 [(0,(tT 70))]),oO 72 (.append [nS,nS] 48 (tT 69) (tT 71)),oM 11 72]) .skip))))) (.region [oO 73 (.bin .add .num (tT 58) (kI 1)),oM 58 73]))))))) (sQ (.region [oM 75 11,oM 76 0,
 oO 77 (.nilck (tT 76)),oO 78 (.faddr 8 (tT 77)),oO 79 (.load false 1 (tT 78)),oM 80 2,oO 81 (.iaddr 1 (tT 79) (tT 80)),oO 82 (.load false 1 (tT 81)),oO 83 (kC 56 [(tT 75),(tT 82)]),oM 74 83,oO 84 (.extract (tT 74) 0),
 oO 85 (.extract (tT 74) 1),oM 11 84,oM 16 85]) (sQ (sQ (.region [oM 86 16,oO 87 (.bin .neq .num (tT 86) (kI 0))]) (.cond (tT 87) (sQ (.region [oM 88 16,oO 6 (.mov (.const nS)),oM 7 88]) .ret) .skip)) (sQ (.region [oM 89 11,
 oO 90 (kC 49 [(tT 89)]),oO 91 (.extract (tT 90) 0),oO 92 (.extract (tT 90) 1),oM 6 91,oM 7 92]) .ret))))))))))
theorem ok68 : FnOk Tryz.prog 68 93 ir68 [.tmp 6, .tmp 7] := Z7 mixed Tryz.func68 (by kernel_rfl) Tryz.ntmps68 (by kernel_rfl) (by kernel_rfl)
def ir69 : ACode := (sQ (.region [oO 2 (.box (tT 0)),oO 3 (.box (tT 1)),oO 4 (.mov kF)]) (sQ (sQ (.region [oO 6 (.faddr 0 (tT 2)),oO 7 (.load false 1 (tT 6)),oO 8 (.len (tT 7)),oO 9 (.faddr 0 (tT 3)),oO 10 (.load false 1 (tT 9)),
 oO 11 (.len (tT 10)),oO 12 (.mn (tT 8) (tT 11)),oO 13 (.mov (kI 0))]) (.block 0 (.loop (sQ (.region [oO 14 (.bin .lss .num (tT 13) (tT 12))]) (sQ (.cond (tT 14) .skip (.exit 0)) (sQ (.block 1 (sQ (.region [oM 15 13,
 oM 5 15]) (sQ (.draw [⟨0,oO 16 (.faddr 0 (tT 2)),0,0,false⟩,⟨1,oO 17 (.load false 1 (tT 16)),1,0,false⟩,⟨2,oM 18 5,0,0,false⟩,⟨3,oO 19 (.iaddr 1 (tT 17) (tT 18)),7,0,false⟩,⟨4,oO 20 (.load false 1 (tT 19)),
 15,0,false⟩,⟨5,oO 21 (.faddr 0 (tT 3)),0,0,false⟩,⟨6,oO 22 (.load false 1 (tT 21)),32,0,false⟩,⟨7,oM 23 5,0,0,false⟩,⟨8,oO 24 (.iaddr 1 (tT 22) (tT 23)),224,0,false⟩,⟨9,oO 25 (.load false 1 (tT 24)),480,
 0,false⟩,⟨10,oO 26 (.bin .and .num (tT 20) (tT 25)),1023,1,false⟩,⟨11,oO 27 (.bin .neq .num (tT 26) (.const (.int .u64 0))),2047,1,false⟩]) (.cond (tT 27) (sQ (.region [oO 4 (.mov kT)]) .ret) .skip)))) (.region [oO 28 (.bin .add .num (tT 13) (kI 1)),
 oM 13 28]))))))) (sQ (.region [oO 4 (.mov kF)]) .ret)))
theorem ok69 : FnOk Tryz.prog 69 29 ir69 [.tmp 4] := Z7 mixed Tryz.func69 (by kernel_rfl) Tryz.ntmps69 (by kernel_rfl) (by kernel_rfl)
set_option maxRecDepth 100000
def ir70 : ACode := (sQ (.region [oO 4 (.box (tT 1)),oO 5 (.box (tT 2)),oO 6 (.mov (kI 0))]) (sQ (sQ (.draw [⟨0,oO 7 (.load true 2 (tT 4)),0,0,false⟩,⟨1,oM 8 0,0,0,false⟩,⟨2,oO 9 (.nilck (tT 8)),2,0,false⟩,
 ⟨3,oO 10 (.faddr 0 (tT 9)),6,0,false⟩,⟨4,oO 11 (.load false 1 (tT 10)),14,0,false⟩,⟨5,oO 12 (kC 36 [(tT 7),(tT 11)]),31,1,false⟩]) (.cond (tT 12) (sQ (.region [oO 6 (.mov (kI 0))]) .ret) .skip)) (sQ (.draw [⟨0,
 oM 13 0,0,0,false⟩,⟨1,oM 14 0,0,0,false⟩,⟨2,oM 15 0,0,0,false⟩,⟨3,oO 16 (.nilck (tT 15)),4,0,false⟩,⟨4,oO 17 (.faddr 0 (tT 16)),12,0,false⟩,⟨5,oO 18 (.load false 1 (tT 17)),28,0,false⟩,⟨6,oO 19 (.load true 2 (tT 4)),
 0,0,false⟩,⟨7,oO 20 (.bslice [nS,nS] 1 [(0,(tT 19))]),64,0,false⟩,⟨8,oO 21 (.append [nS,nS] 48 (tT 18) (tT 20)),252,504,false⟩,⟨9,oM 22 0,0,0,false⟩,⟨10,oO 23 (.nilck (tT 22)),512,0,false⟩,⟨11,oO 24 (.faddr 1 (tT 23)),
 1536,0,false⟩,⟨12,oO 25 (.load false 1 (tT 24)),3584,0,false⟩,⟨13,oO 26 (.load true 2 (tT 5)),0,0,false⟩,⟨14,oO 27 (.bslice [(.int .i64 0),(.int .i64 0)] 1 [(0,(tT 26))]),8192,0,false⟩,⟨15,oO 28 (.append [(.int .i64 0),
 (.int .i64 0)] 16 (tT 25) (tT 27)),32764,1,false⟩,⟨16,oO 29 (.nilck (tT 13)),65533,1,false⟩,⟨17,oO 30 (.faddr 0 (tT 29)),131069,1,false⟩,⟨18,⟨none,.store 1 (tT 30) (tT 21),none⟩,262141,1,false⟩,⟨19,oO 31 (.nilck (tT 14)),
 524287,1,false⟩,⟨20,oO 32 (.faddr 1 (tT 31)),1048575,1,false⟩,⟨21,⟨none,.store 1 (tT 32) (tT 28),none⟩,2097151,1,false⟩]) (sQ (sQ (.draw [⟨0,oM 33 0,0,0,false⟩,⟨1,oO 34 (.nilck (tT 33)),1,0,false⟩,⟨2,oO 35 (.faddr 0 (tT 34)),
 3,0,false⟩,⟨3,oO 36 (.load false 1 (tT 35)),7,0,false⟩,⟨4,oO 37 (.len (tT 36)),15,0,false⟩,⟨5,oM 38 0,0,0,false⟩,⟨6,oO 39 (.nilck (tT 38)),32,0,false⟩,⟨7,oO 40 (.faddr 2 (tT 39)),96,0,false⟩,⟨8,oO 41 (.load false 1 (tT 40)),
 224,0,false⟩,⟨9,oO 42 (.bin .gtr .num (tT 37) (tT 41)),511,1,false⟩,⟨10,oM 43 42,1023,1,false⟩,⟨11,oF 43 44 (.mov (tT 0)),2047,1,false⟩,⟨12,oF 43 45 (.nilck (tT 44)),4095,1,false⟩,⟨13,oF 43 46 (.faddr 0 (tT 45)),
 8191,1,false⟩,⟨14,oF 43 47 (.load false 1 (tT 46)),16383,1,false⟩,⟨15,oF 43 48 (.len (tT 47)),32767,1,false⟩,⟨16,oF 43 49 (.bin .gtr .num (tT 48) (kI 2000)),65535,1,false⟩,⟨17,oO 50 (.pick (tT 43) kT (tT 49)),
 131071,1,false⟩]) (.cond (tT 50) (sQ (.region [oO 6 (.mov (kI 3))]) .ret) .skip)) (sQ (.region [oO 6 (.mov (kI 0))]) .ret)))))
theorem ok70 : FnOk Tryz.prog 70 51 ir70 [.tmp 6] := Z7 mixed Tryz.func70 (by kernel_rfl) Tryz.ntmps70 (by kernel_rfl) (by kernel_rfl)
def ir71 : ACode := (sQ (.region [oO 4 (.mov (.const nS))]) (sQ (.region [oO 5 (.mov (.const nS))]) (sQ (.block 0 (.loop (sQ (sQ (.region [oM 6 0,oO 7 (.nilck (tT 6)),oO 8 (.faddr 1 (tT 7)),oO 9 (.load false 1 (tT 8)),
 oM 10 1,oO 11 (.iaddr 2 (tT 9) (tT 10)),oO 12 (.faddr 0 (tT 11)),oO 13 (.load false 1 (tT 12)),oO 14 (.bin .geq .num (tT 13) (kI 0))]) (.cond (tT 14) .skip (.exit 0))) (.block 1 (sQ (.region [oM 15 5,oM 16 0,
 oO 17 (.nilck (tT 16)),oO 18 (.faddr 1 (tT 17)),oO 19 (.load false 1 (tT 18)),oM 20 1,oO 21 (.iaddr 2 (tT 19) (tT 20)),oO 22 (.faddr 0 (tT 21)),oO 23 (.load false 1 (tT 22)),oO 24 (.bslice [(.int .i64 0)] 1 [(0,
 (tT 23))]),oO 25 (.append [(.int .i64 0)] 8 (tT 15) (tT 24)),oM 5 25]) (.region [oM 26 0,oO 27 (.nilck (tT 26)),oO 28 (.faddr 1 (tT 27)),oO 29 (.load false 1 (tT 28)),oM 30 1,oO 31 (.iaddr 2 (tT 29) (tT 30)),
 oO 32 (.faddr 1 (tT 31)),oO 33 (.load false 1 (tT 32)),oM 1 33])))))) (sQ (.region [oM 34 5,oM 4 34]) .ret))))
theorem ok71 : FnOk Tryz.prog 71 35 ir71 [.tmp 4] := Z7 mixed Tryz.func71 (by kernel_rfl) Tryz.ntmps71 (by kernel_rfl) (by kernel_rfl)
def ir72 : ACode := (sQ (.region [oO 6 (.mov (kI 0))]) (sQ (sQ (.region [oM 13 0,oO 14 (.nilck (tT 13)),oO 15 (.faddr 0 (tT 14)),oO 16 (.faddr 3 (tT 15)),oO 17 (.load false 1 (tT 16)),oO 18 (.len (tT 17)),
 oO 19 (.mov (kI 0))]) (.block 0 (.loop (sQ (.region [oO 20 (.bin .lss .num (tT 19) (tT 18))]) (sQ (.cond (tT 20) .skip (.exit 0)) (sQ (.block 1 (sQ (.region [oM 21 19,oM 7 21]) (sQ (.region [oM 23 0,oM 24 1,
 oO 25 (.nilck (tT 24)),oO 26 (.faddr 0 (tT 25)),oO 27 (.load false 1 (tT 26)),oM 28 2,oO 29 (.iaddr 2 (tT 27) (tT 28)),oO 30 (.load true 2 (tT 29)),oM 31 7,oO 32 (kC 68 [(tT 23),(tT 30),(tT 31)]),oM 22 32,
 oO 33 (.extract (tT 22) 0),oO 34 (.extract (tT 22) 1),oM 8 33,oM 9 34]) (sQ (sQ (.region [oM 35 9,oO 36 (.bin .neq .num (tT 35) (kI 0))]) (.cond (tT 36) (sQ (.region [oM 37 9,oM 6 37]) .ret) .skip)) (sQ (.region [oM 38 8,
 oO 39 (.len (tT 38)),oO 40 (.mov (kI 0))]) (.block 2 (.loop (sQ (.region [oO 41 (.bin .lss .num (tT 40) (tT 39))]) (sQ (.cond (tT 41) .skip (.exit 2)) (sQ (.block 3 (sQ (.region [oO 42 (.iaddr 2 (tT 38) (tT 40)),
 oO 43 (.load true 2 (tT 42)),oO 11 (.alloc [nS,nS]),⟨none,.store 2 (tT 11) (tT 43),none⟩]) (sQ (.region [oM 44 1,oO 45 (.load true 2 (tT 11)),oM 46 7,oM 47 2,oO 48 (.build [(.int .i64 0),(.int .i64 0)] [(0,
 1,(tT 46)),(1,1,(tT 47))]),oO 49 (kC 70 [(tT 44),(tT 45),(tT 48)]),oM 12 49]) (sQ (.region [oM 50 12,oO 51 (.bin .neq .num (tT 50) (kI 0))]) (.cond (tT 51) (sQ (.region [oM 52 12,oM 6 52]) .ret) .skip))))) (.region [oO 53 (.bin .add .num (tT 40) (kI 1)),
 oM 40 53]))))))))))) (.region [oO 54 (.bin .add .num (tT 19) (kI 1)),oM 19 54]))))))) (sQ (.region [oO 6 (.mov (kI 0))]) .ret)))
theorem ok72 : FnOk Tryz.prog 72 55 ir72 [.tmp 6] := Z7 mixed Tryz.func72 (by kernel_rfl) Tryz.ntmps72 (by kernel_rfl) (by kernel_rfl)
def ir75 : ACode := (sQ (.region [oO 2 (.box (tT 0)),oO 3 (.box (tT 1)),oO 4 (.alloc [nS,nS])]) (sQ (.draw [⟨0,oO 5 (.faddr 0 (tT 2)),0,0,false⟩,⟨1,oO 6 (.load true 1 (tT 5)),1,0,false⟩,⟨2,oO 7 (.faddr 0 (tT 3)),
 0,0,false⟩,⟨3,oO 8 (.load true 1 (tT 7)),4,0,false⟩,⟨4,oO 9 (kC 63 [(tT 6),(tT 8)]),15,0,false⟩,⟨5,oO 10 (.faddr 1 (tT 2)),0,0,false⟩,⟨6,oO 11 (.load true 1 (tT 10)),32,0,false⟩,⟨7,oO 12 (.faddr 1 (tT 3)),
 0,0,false⟩,⟨8,oO 13 (.load true 1 (tT 12)),128,0,false⟩,⟨9,oO 14 (kC 63 [(tT 11),(tT 13)]),511,1,false⟩,⟨10,oO 15 (.build [nS,nS] [(0,1,(tT 9)),(1,1,(tT 14))]),1023,1,false⟩,⟨11,⟨none,.store 2 (tT 4) (tT 15),
 none⟩,2047,1,false⟩]) .ret))
theorem ok75 : FnOk Tryz.prog 75 16 ir75 [.cell 4 true 2] := Z7 mixed Tryz.func75 (by kernel_rfl) Tryz.ntmps75 (by kernel_rfl) (by kernel_rfl)
def ir76 : ACode := (sQ (.region [oO 2 (.box (tT 0)),oO 3 (.box (tT 1)),oO 4 (.mov (.const nS))]) (sQ (sQ (.region [oO 9 (.load true 2 (tT 2)),oO 10 (kC 28 [(tT 9)])]) (.cond (tT 10) (sQ (.region [oO 4 (.mov (.const nS))]) .ret) .skip)) (sQ (sQ (.region [oO 12 (.load true 2 (tT 2)),
 oO 13 (.load true 2 (tT 3)),oO 14 (kC 110 [(tT 12),(tT 13)]),oM 11 14,oO 15 (.extract (tT 11) 0),oO 16 (.extract (tT 11) 1),oO 5 (.alloc [nS,nS]),⟨none,.store 2 (tT 5) (tT 15),none⟩,oM 6 16]) (sQ (.region [oM 17 6,
 oO 18 (.una .not (tT 17))]) (.cond (tT 18) (sQ (.region [oO 19 (.load true 2 (tT 2)),oO 20 (.bslice [nS,nS] 1 [(0,(tT 19))]),oM 4 20]) .ret) .skip))) (sQ (.region [oO 7 (.alloc [nS])]) (sQ (sQ (.region [oO 21 (.faddr 0 (tT 3)),
 oO 22 (.load true 1 (tT 21)),oO 23 (.faddr 1 (tT 3)),oO 24 (.load true 1 (tT 23)),oO 25 (kC 63 [(tT 22),(tT 24)]),oO 26 (kC 93 [(tT 25)])]) (.block 0 (.range (tT 26) [27] [(8,(tT 27))] (.block 1 (.block 2 (sQ (.region [oO 29 (.faddr 0 (tT 3)),
 oO 30 (.load true 1 (tT 29)),oM 31 8,oO 32 (kC 64 [(tT 30),(tT 31)]),oM 33 32,oT 33 34 (.faddr 0 (tT 2)),oT 33 35 (.load true 1 (tT 34)),oT 33 36 (.mov (tT 8)),oT 33 37 (kC 64 [(tT 35),(tT 36)]),oT 33 38 (.una .not (tT 37)),
 oO 39 (.pick (tT 33) (tT 38) kF),oM 28 39]) (.cond (tT 28) (sQ (.draw [⟨0,oO 40 (.load false 1 (tT 7)),0,0,false⟩,⟨1,oO 41 (.faddr 0 (tT 2)),0,0,false⟩,⟨2,oO 42 (.load true 1 (tT 41)),2,0,false⟩,⟨3,oO 43 (.faddr 1 (tT 2)),
 0,0,false⟩,⟨4,oO 44 (.load true 1 (tT 43)),8,0,false⟩,⟨5,oM 45 8,0,0,false⟩,⟨6,oO 46 (kC 37 [(tT 44),(tT 45)]),56,0,false⟩,⟨7,oO 47 (.build [nS,nS] [(0,1,(tT 42)),(1,1,(tT 46))]),126,0,false⟩,⟨8,oO 48 (.bslice [nS,
 nS] 1 [(0,(tT 47))]),254,0,false⟩,⟨9,oO 49 (.append [nS,nS] 48 (tT 40) (tT 48)),511,1,false⟩,⟨10,⟨none,.store 1 (tT 7) (tT 49),none⟩,1023,1,false⟩]) (.region [oO 50 (.faddr 0 (tT 2)),oO 51 (.load true 1 (tT 50)),
 oM 52 8,oO 53 (kC 37 [(tT 51),(tT 52)]),oO 54 (.faddr 0 (tT 2)),⟨none,.store 1 (tT 54) (tT 53),none⟩])) (sQ (.region [oO 56 (.faddr 1 (tT 3)),oO 57 (.load true 1 (tT 56)),oM 58 8,oO 59 (kC 64 [(tT 57),
 (tT 58)]),oM 60 59,oT 60 61 (.faddr 1 (tT 2)),oT 60 62 (.load true 1 (tT 61)),oT 60 63 (.mov (tT 8)),oT 60 64 (kC 64 [(tT 62),(tT 63)]),oT 60 65 (.una .not (tT 64)),oO 66 (.pick (tT 60) (tT 65) kF),oM 55 66]) (.cond (tT 55) (sQ (.draw [⟨0,
 oO 67 (.load false 1 (tT 7)),0,0,false⟩,⟨1,oO 68 (.faddr 0 (tT 2)),0,0,false⟩,⟨2,oO 69 (.load true 1 (tT 68)),2,0,false⟩,⟨3,oM 70 8,0,0,false⟩,⟨4,oO 71 (kC 37 [(tT 69),(tT 70)]),14,0,false⟩,⟨5,oO 72 (.faddr 1 (tT 2)),
 0,0,false⟩,⟨6,oO 73 (.load true 1 (tT 72)),32,0,false⟩,⟨7,oO 74 (.build [nS,nS] [(0,1,(tT 71)),(1,1,(tT 73))]),126,0,false⟩,⟨8,oO 75 (.bslice [nS,nS] 1 [(0,(tT 74))]),254,0,false⟩,⟨9,oO 76 (.append [nS,
 nS] 48 (tT 67) (tT 75)),511,1,false⟩,⟨10,⟨none,.store 1 (tT 7) (tT 76),none⟩,1023,1,false⟩]) (.region [oO 77 (.faddr 1 (tT 2)),oO 78 (.load true 1 (tT 77)),oM 79 8,oO 80 (kC 37 [(tT 78),(tT 79)]),oO 81 (.faddr 1 (tT 2)),
 ⟨none,.store 1 (tT 81) (tT 80),none⟩])) .skip))))))))) (sQ (.region [oO 82 (.load false 1 (tT 7)),oM 4 82]) .ret))))))
theorem ok76 : FnOk Tryz.prog 76 83 ir76 [.tmp 4] := Z7 mixed Tryz.func76 (by kernel_rfl) Tryz.ntmps76 (by kernel_rfl) (by kernel_rfl)
def ir77 : ACode := (sQ (.region [oO 2 (.alloc [nS])]) (sQ (.block 0 (.loop (sQ (sQ (.region [oM 3 0,oO 4 (.len (tT 3)),oO 5 (.bin .gtr .num (tT 4) (kI 0)),oM 6 5,oT 6 7 (.mov (tT 0)),oT 6 8 (.mov (tT 0)),
 oT 6 9 (.len (tT 8)),oT 6 10 (.bin .sub .num (tT 9) (kI 1)),oT 6 11 (.iaddr 1 (tT 7) (tT 10)),oT 6 12 (.load false 1 (tT 11)),oT 6 13 (.bin .eql .num (tT 12) (.const (.int .u64 0))),oO 14 (.pick (tT 6) (tT 13) kF)]) (.cond (tT 14) .skip (.exit 0))) (.block 1 (.region [oM 15 0,
 oM 16 0,oO 17 (.len (tT 16)),oO 18 (.bin .sub .num (tT 17) (kI 1)),oO 19 (.slc 1 (tT 15) none (some (tT 18)) none),oM 0 19]))))) (sQ (.region [oM 20 0,oO 21 (.build [nS] [(0,1,(tT 20))]),⟨none,.store 1 (tT 2) (tT 21),
 none⟩]) .ret)))
theorem ok77 : FnOk Tryz.prog 77 22 ir77 [.cell 2 true 1] := Z7 mixed Tryz.func77 (by kernel_rfl) Tryz.ntmps77 (by kernel_rfl) (by kernel_rfl)
def ir78 : ACode := (sQ (.region [oO 1 (.box (tT 0)),oO 2 (.mov kF)]) (sQ (.region [oO 3 (.faddr 0 (tT 1)),oO 4 (.load false 1 (tT 3)),oO 5 (.una .not (tT 4)),oM 6 5,oF 6 7 (.faddr 1 (tT 1)),oF 6 8 (.faddr 0 (tT 7)),
 oF 6 9 (.load true 1 (tT 8)),oF 6 10 (kC 79 [(tT 9)]),oF 6 11 (.mov (tT 10)),oT 11 12 (.faddr 1 (tT 1)),oT 11 13 (.faddr 1 (tT 12)),oT 11 14 (.load true 1 (tT 13)),oT 11 15 (kC 79 [(tT 14)]),oF 6 16 (.pick (tT 11) (tT 15) kF),
 oO 17 (.pick (tT 6) kT (tT 16)),oM 2 17]) .ret))
theorem ok78 : FnOk Tryz.prog 78 18 ir78 [.tmp 2] := Z7 mixed Tryz.func78 (by kernel_rfl) Tryz.ntmps78 (by kernel_rfl) (by kernel_rfl)
def ir79 : ACode := (sQ (.region [oO 1 (.box (tT 0)),oO 2 (.mov kF)]) (sQ (.region [oO 3 (.faddr 0 (tT 1)),oO 4 (.load false 1 (tT 3)),oO 5 (.len (tT 4)),oO 6 (.bin .eql .num (tT 5) (kI 0)),oM 2 6]) .ret))
theorem ok79 : FnOk Tryz.prog 79 7 ir79 [.tmp 2] := Z7 mixed Tryz.func79 (by kernel_rfl) Tryz.ntmps79 (by kernel_rfl) (by kernel_rfl)
def ir80 : ACode := (sQ (.region [oO 1 (.box (tT 0)),oO 2 (.mov kF)]) (sQ (.region [oO 4 (.faddr 0 (tT 1)),oO 5 (.load false 1 (tT 4)),oO 6 (.bin .add .num (tT 5) (kI 1)),oO 7 (kC 66 [(tT 6)]),oO 8 (kC 111 [(tT 7),
 (kI 0)]),oO 3 (.alloc [nS]),⟨none,.store 1 (tT 3) (tT 8),none⟩]) (sQ (.region [oO 9 (.faddr 2 (tT 1)),oO 10 (.load true 1 (tT 9)),oO 11 (.load true 1 (tT 3)),oO 12 (kC 65 [(tT 10),(tT 11)]),oM 13 12,oT 13 14 (.faddr 1 (tT 1)),
 oT 13 15 (.load false 1 (tT 14)),oT 13 16 (kC 113 [(tT 15)]),oT 13 17 (.mkfn 114 [(tT 3)]),oT 13 18 (kC 112 [(tT 16),(tT 17)]),oO 19 (.pick (tT 13) (tT 18) kF),oM 20 19,oT 20 21 (.faddr 3 (tT 1)),oT 20 22 (.load false 1 (tT 21)),
 oT 20 23 (.mkfn 115 [(tT 3)]),oT 20 24 (kC 82 [(tT 22),(tT 23)]),oO 25 (.pick (tT 20) (tT 24) kF),oM 26 25,oT 26 27 (.load true 6 (tT 1)),oT 26 28 (kC 81 [(tT 27)]),oT 26 29 (.mkfn 117 [(tT 3)]),oT 26 30 (kC 116 [(tT 28),
 (tT 29)]),oO 31 (.pick (tT 26) (tT 30) kF),oM 2 31]) .ret)))
theorem ok80 : FnOk Tryz.prog 80 32 ir80 [.tmp 2] := Z7 mixed Tryz.func80 (by kernel_rfl) Tryz.ntmps80 (by kernel_rfl) (by kernel_rfl)
def ir81 : ACode := (sQ (.region [oO 1 (.box (tT 0)),oO 2 (.mov (.const nS))]) (sQ (.region [oO 3 (.mov (.const nS))]) (sQ (sQ (.region [oO 6 (.faddr 3 (tT 1)),oO 7 (.load false 1 (tT 6)),oO 8 (.len (tT 7)),
 oO 9 (.mov (kI 0))]) (.block 0 (.loop (sQ (.region [oO 10 (.bin .lss .num (tT 9) (tT 8))]) (sQ (.cond (tT 10) .skip (.exit 0)) (sQ (.block 1 (sQ (.region [oO 11 (.iaddr 5 (tT 7) (tT 9)),oO 12 (.load true 5 (tT 11)),
 oO 5 (.alloc [(.bool false),nS,nS,(.int .i64 0),(.int .i64 0)]),⟨none,.store 5 (tT 5) (tT 12),none⟩]) (.region [oM 13 3,oO 14 (.faddr 1 (tT 5)),oO 15 (.load true 2 (tT 14)),oO 16 (.bslice [nS,nS] 1 [(0,
 (tT 15))]),oO 17 (.append [nS,nS] 48 (tT 13) (tT 16)),oM 3 17]))) (.region [oO 18 (.bin .add .num (tT 9) (kI 1)),oM 9 18]))))))) (sQ (.draw [⟨0,oM 19 3,0,0,false⟩,⟨1,oO 20 (.faddr 4 (tT 1)),0,0,false⟩,
 ⟨2,oO 21 (.load false 1 (tT 20)),2,0,false⟩,⟨3,oO 22 (.append [nS,nS] 48 (tT 19) (tT 21)),7,14,false⟩,⟨4,oO 23 (.faddr 5 (tT 1)),0,0,false⟩,⟨5,oO 24 (.load false 1 (tT 23)),16,0,false⟩,⟨6,oO 25 (.append [nS,
 nS] 48 (tT 22) (tT 24)),63,1,false⟩,⟨7,oM 2 25,127,1,false⟩]) .ret))))
theorem ok81 : FnOk Tryz.prog 81 26 ir81 [.tmp 2] := Z7 mixed Tryz.func81 (by kernel_rfl) Tryz.ntmps81 (by kernel_rfl) (by kernel_rfl)
def ir82 : ACode := (sQ (.region [oO 3 (.box (tT 1)),oO 4 (.mov kF)]) (sQ (.region [oM 5 0,oO 6 (.mkfn 119 [(tT 3)]),oO 7 (kC 118 [(tT 5),(tT 6)]),oO 8 (.una .not (tT 7)),oM 4 8]) .ret))
theorem ok82 : FnOk Tryz.prog 82 9 ir82 [.tmp 4] := Z7 mixed Tryz.func82 (by kernel_rfl) Tryz.ntmps82 (by kernel_rfl) (by kernel_rfl)
def ir83 : ACode := (sQ (.region [oO 2 (.box (tT 0)),oO 3 (.box (tT 1)),oO 4 (.mov kF)]) (sQ (.draw [⟨0,oO 5 (.faddr 1 (tT 2)),0,1,false⟩,⟨1,oO 6 (.load false 1 (tT 5)),1,1,false⟩,⟨2,oO 7 (.bin .neq .ptr (tT 6) (.const (.pointer none))),
 3,1,false⟩,⟨3,oM 8 7,7,1,false⟩,⟨4,oT 8 9 (.faddr 4 (tT 2)),15,0,false⟩,⟨5,oT 8 10 (.load false 1 (tT 9)),31,0,false⟩,⟨6,oT 8 11 (.faddr 1 (tT 2)),15,0,false⟩,⟨7,oT 8 12 (.load false 1 (tT 11)),79,0,false⟩,
 ⟨8,oT 8 13 (.load true 1 (tT 3)),15,0,false⟩,⟨9,oT 8 14 (kC 92 [(tT 12),(tT 13)]),463,0,false⟩,⟨10,oT 8 15 (kC 17 [(tT 10),(tT 14)]),1023,1,false⟩,⟨11,oT 8 16 (.una .not (tT 15)),2047,1,false⟩,⟨12,oO 17 (.pick (tT 8) (tT 16) kF),
 4095,1,false⟩,⟨13,oM 4 17,8191,1,false⟩]) .ret))
theorem ok83 : FnOk Tryz.prog 83 18 ir83 [.tmp 4] := Z7 mixed Tryz.func83 (by kernel_rfl) Tryz.ntmps83 (by kernel_rfl) (by kernel_rfl)
def ir84 : ACode := (sQ (.region [oO 2 (.mov (.const nS))]) (sQ (sQ (.region [oM 3 0,oO 4 (.isnil false (tT 3))]) (.cond (tT 4) (sQ (.region [oO 2 (.mov (.const nS))]) .ret) .skip)) (sQ (.region [oO 5 (.bslice [(.bool false),
 nS,nS,(.int .i64 0),(.int .i64 0)] 0 []),oM 6 0,oO 7 (.append [(.bool false),nS,nS,(.int .i64 0),(.int .i64 0)] 72 (tT 5) (tT 6)),oM 2 7]) .ret)))
theorem ok84 : FnOk Tryz.prog 84 8 ir84 [.tmp 2] := Z7 mixed Tryz.func84 (by kernel_rfl) Tryz.ntmps84 (by kernel_rfl) (by kernel_rfl)
def ir85 : ACode := (sQ (.region [oO 2 (.mov (.const nS))]) (sQ (.region [oM 3 0,oO 4 (kC 57 [(tT 3)]),oM 2 4]) .ret))
theorem ok85 : FnOk Tryz.prog 85 5 ir85 [.tmp 2] := Z7 mixed Tryz.func85 (by kernel_rfl) Tryz.ntmps85 (by kernel_rfl) (by kernel_rfl)
def ir90 : ACode := (sQ (.region [oO 4 (.mov (.const (.pointer none))),oO 5 (.mov (kI 0))]) (sQ (sQ (.region [oM 10 0,oO 11 (.bin .lss .num (tT 10) (kI 0)),oM 12 11,oF 12 13 (.mov (tT 0)),oF 12 14 (.bin .gtr .num (tT 13) (kI 256)),
 oO 15 (.pick (tT 12) kT (tT 14))]) (.cond (tT 15) (sQ (.region [oO 4 (.mov (.const (.pointer none))),oO 5 (.mov (kI 1))]) .ret) .skip)) (sQ (sQ (.region [oM 16 1,oO 17 (.len (tT 16)),oO 18 (.mov (kI 0))]) (.block 0 (.loop (sQ (.region [oO 19 (.bin .lss .num (tT 18) (tT 17))]) (sQ (.cond (tT 19) .skip (.exit 0)) (sQ (.block 1 (sQ (.region [oO 20 (.iaddr 2 (tT 16) (tT 18)),
 oO 21 (.load true 2 (tT 20)),oO 7 (.alloc [(.int .i64 0),(.int .i64 0)]),⟨none,.store 2 (tT 7) (tT 21),none⟩]) (sQ (.region [oO 22 (.iaddrA 2 1 (tT 7) (kI 0)),oO 23 (.load false 1 (tT 22)),oO 24 (.iaddrA 2 1 (tT 7) (kI 1)),
 oO 25 (.load false 1 (tT 24)),oO 26 (.mn (tT 23) (tT 25)),oO 27 (.bin .lss .num (tT 26) (kI 0)),oM 28 27,oF 28 29 (.iaddrA 2 1 (tT 7) (kI 0)),oF 28 30 (.load false 1 (tT 29)),oF 28 31 (.iaddrA 2 1 (tT 7) (kI 1)),
 oF 28 32 (.load false 1 (tT 31)),oF 28 33 (.mx (tT 30) (tT 32)),oF 28 34 (.mov (tT 0)),oF 28 35 (.bin .geq .num (tT 33) (tT 34)),oO 36 (.pick (tT 28) kT (tT 35))]) (.cond (tT 36) (sQ (.region [oO 4 (.mov (.const (.pointer none))),
 oO 5 (.mov (kI 2))]) .ret) .skip)))) (.region [oO 37 (.bin .add .num (tT 18) (kI 1)),oM 18 37]))))))) (sQ (.region [oO 38 (.bslice [(.int .i64 0),(.int .i64 0)] 0 []),oM 39 1,oO 40 (.append [(.int .i64 0),
 (.int .i64 0)] 16 (tT 38) (tT 39)),oM 8 40]) (sQ (.region [oM 41 8,oO 42 (kC 123 [(tT 41),(.func 124)])]) (sQ (.region [oM 43 0,oM 44 8,oO 45 (kC 126 [(tT 44)]),oO 46 (kC 125 [(tT 45)]),oO 47 (.build [(.int .i64 0),
 nS,nS,nS,nS] [(0,1,(tT 43)),(1,1,(tT 46))]),oO 48 (.box (tT 47)),oM 9 48]) (sQ (sQ (.region [oM 49 9,oO 50 (kC 127 [(tT 49)]),oO 51 (.una .not (tT 50))]) (.cond (tT 51) (sQ (.region [oO 4 (.mov (.const (.pointer none))),
 oO 5 (.mov (kI 16))]) .ret) .skip)) (sQ (.region [oM 52 9,oO 53 (kC 128 [(tT 52)])]) (sQ (.region [oM 54 9,oM 4 54,oO 5 (.mov (kI 0))]) .ret)))))))))
theorem ok90 : FnOk Tryz.prog 90 55 ir90 [.tmp 4, .tmp 5] := Z7 mixed Tryz.func90 (by kernel_rfl) Tryz.ntmps90 (by kernel_rfl) (by kernel_rfl)
def ir91 : ACode := (sQ (.region [oO 3 (.box (tT 0)),oO 4 (.box (tT 1)),oO 6 (.alloc [nS]),oO 7 (.mov kF)]) (sQ (sQ (.region [oO 10 (.faddr 1 (tT 3)),oO 11 (.load false 1 (tT 10)),oO 12 (.bin .eql .ptr (tT 11) (.const (.pointer none))),
 oM 13 12,oF 13 14 (.mov (tT 2)),oF 13 15 (.bin .lss .num (tT 14) (kI 0)),oO 16 (.pick (tT 13) kT (tT 15)),oM 17 16,oF 17 18 (.mov (tT 2)),oF 17 19 (.faddr 3 (tT 3)),oF 17 20 (.load false 1 (tT 19)),oF 17 21 (.len (tT 20)),
 oF 17 22 (.bin .geq .num (tT 18) (tT 21)),oO 23 (.pick (tT 17) kT (tT 22))]) (.cond (tT 23) (sQ (.region [oO 24 (.build [nS] []),⟨none,.store 1 (tT 6) (tT 24),none⟩,oO 7 (.mov kF)]) .ret) .skip)) (sQ (.region [oO 25 (.faddr 3 (tT 3)),
 oO 26 (.load false 1 (tT 25)),oM 27 2,oO 28 (.iaddr 5 (tT 26) (tT 27)),oO 29 (.load true 5 (tT 28)),oO 8 (.alloc [(.bool false),nS,nS,(.int .i64 0),(.int .i64 0)]),⟨none,.store 5 (tT 8) (tT 29),none⟩]) (sQ (.region [oO 30 (.load true 1 (tT 4)),
 oO 31 (.faddr 3 (tT 8)),oO 32 (.load false 1 (tT 31)),oO 33 (kC 37 [(tT 30),(tT 32)]),oO 9 (.alloc [nS]),⟨none,.store 1 (tT 9) (tT 33),none⟩]) (sQ (sQ (.region [oO 34 (.faddr 0 (tT 8)),oO 35 (.load false 1 (tT 34))]) (.cond (tT 35) (.region [oO 36 (.load true 1 (tT 4)),
 oO 37 (.faddr 3 (tT 8)),oO 38 (.load false 1 (tT 37)),oO 39 (kC 111 [(tT 36),(tT 38)]),⟨none,.store 1 (tT 9) (tT 39),none⟩]) .skip)) (sQ (sQ (.draw [⟨0,oO 40 (.load true 1 (tT 4)),0,0,false⟩,⟨1,oO 41 (.faddr 3 (tT 8)),
 0,0,false⟩,⟨2,oO 42 (.load false 1 (tT 41)),2,0,false⟩,⟨3,oO 43 (kC 64 [(tT 40),(tT 42)]),7,0,false⟩,⟨4,oO 44 (.faddr 0 (tT 8)),0,0,false⟩,⟨5,oO 45 (.load false 1 (tT 44)),16,0,false⟩,⟨6,oO 46 (.bin .neq .bool (tT 43) (tT 45)),
 63,1,false⟩,⟨7,oM 47 46,127,1,false⟩,⟨8,oF 47 48 (.faddr 0 (tT 8)),255,1,false⟩,⟨9,oF 47 49 (.load false 1 (tT 48)),511,1,false⟩,⟨10,oF 47 50 (.una .not (tT 49)),1023,1,false⟩,⟨11,oF 47 51 (.mov (tT 50)),
 2047,1,false⟩,⟨12,oT 51 52 (.faddr 1 (tT 8)),4095,0,false⟩,⟨13,oT 51 53 (.load true 2 (tT 52)),8191,0,false⟩,⟨14,oT 51 54 (.faddr 1 (tT 3)),4095,0,false⟩,⟨15,oT 51 55 (.load false 1 (tT 54)),20479,0,false⟩,
 ⟨16,oT 51 56 (.load true 1 (tT 4)),4095,0,false⟩,⟨17,oT 51 57 (kC 92 [(tT 55),(tT 56)]),118783,0,false⟩,⟨18,oT 51 58 (kC 52 [(tT 53),(tT 57)]),262143,1,false⟩,⟨19,oT 51 59 (.una .not (tT 58)),524287,1,
 false⟩,⟨20,oF 47 60 (.pick (tT 51) (tT 59) kF),1048575,1,false⟩,⟨21,oO 61 (.pick (tT 47) kT (tT 60)),2097151,1,false⟩,⟨22,oM 62 61,4194303,1,false⟩,⟨23,oF 62 63 (.load true 6 (tT 3)),8388607,0,false⟩,⟨24,
 oF 62 64 (.load true 1 (tT 9)),8388607,0,false⟩,⟨25,oF 62 65 (kC 83 [(tT 63),(tT 64)]),33554431,1,false⟩,⟨26,oF 62 66 (.una .not (tT 65)),67108863,1,false⟩,⟨27,oO 67 (.pick (tT 62) kT (tT 66)),134217727,
 1,false⟩]) (.cond (tT 67) (sQ (.region [oO 68 (.build [nS] []),⟨none,.store 1 (tT 6) (tT 68),none⟩,oO 7 (.mov kF)]) .ret) .skip)) (sQ (.region [oO 69 (.load true 1 (tT 9)),⟨none,.store 1 (tT 6) (tT 69),
 none⟩,oO 7 (.mov kT)]) .ret)))))))
theorem ok91 : FnOk Tryz.prog 91 70 ir91 [.cell 6 true 1, .tmp 7] := Z7 mixed Tryz.func91 (by kernel_rfl) Tryz.ntmps91 (by kernel_rfl) (by kernel_rfl)
def ir92 : ACode := (sQ (.region [oO 2 (.box (tT 0)),oO 3 (.box (tT 1)),oO 4 (.alloc [nS])]) (sQ (.region [oO 5 (.alloc [nS])]) (sQ (sQ (.region [oO 7 (.load true 1 (tT 3)),oO 8 (kC 93 [(tT 7)])]) (.block 0 (.range (tT 8) [9] [(6,
 (tT 9))] (.block 1 (.draw [⟨0,oO 10 (.load true 1 (tT 5)),0,0,false⟩,⟨1,oO 11 (.load false 1 (tT 2)),0,0,false⟩,⟨2,oM 12 6,0,0,false⟩,⟨3,oO 13 (kC 129 [(tT 11),(tT 12)]),6,0,false⟩,⟨4,oO 14 (kC 63 [(tT 10),
 (tT 13)]),15,1,false⟩,⟨5,⟨none,.store 1 (tT 5) (tT 14),none⟩,31,1,false⟩]))))) (sQ (.region [oO 15 (.load true 1 (tT 5)),⟨none,.store 1 (tT 4) (tT 15),none⟩]) .ret))))
theorem ok92 : FnOk Tryz.prog 92 16 ir92 [.cell 4 true 1] := Z7 mixed Tryz.func92 (by kernel_rfl) Tryz.ntmps92 (by kernel_rfl) (by kernel_rfl)
def ir93 : ACode := (sQ (.region [oO 1 (.box (tT 0)),oO 2 (.mov (.const .nilFunc))]) (sQ (.region [oO 3 (.mkfn 130 [(tT 1)]),oM 2 3]) .ret))
theorem ok93 : FnOk Tryz.prog 93 4 ir93 [.tmp 2] := Z7 mixed Tryz.func93 (by kernel_rfl) Tryz.ntmps93 (by kernel_rfl) (by kernel_rfl)
def ir96 : ACode := (sQ (.region [oO 2 (.mov (kI 0))]) (sQ (.region [oM 3 0,oO 4 (.nilck (tT 3)),oO 5 (.faddr 1 (tT 4)),oO 6 (.load false 1 (tT 5)),oO 7 (.bin .add .num (tT 6) (kI 1)),oO 8 (.nilck (tT 3)),
 oO 9 (.faddr 1 (tT 8)),⟨none,.store 1 (tT 9) (tT 7),none⟩]) (sQ (sQ (.draw [⟨0,oM 10 0,0,0,false⟩,⟨1,oO 11 (.nilck (tT 10)),1,0,false⟩,⟨2,oO 12 (.faddr 1 (tT 11)),3,0,false⟩,⟨3,oO 13 (.load false 1 (tT 12)),
 7,0,false⟩,⟨4,oM 14 0,0,0,false⟩,⟨5,oO 15 (.nilck (tT 14)),16,0,false⟩,⟨6,oO 16 (.faddr 0 (tT 15)),48,0,false⟩,⟨7,oO 17 (.load false 1 (tT 16)),112,0,false⟩,⟨8,oO 18 (.len (tT 17)),240,0,false⟩,⟨9,oO 19 (.bin .gtr .num (tT 13) (tT 18)),
 511,1,false⟩]) (.cond (tT 19) (sQ (.region [oO 2 (.mov (kI 0))]) .ret) .skip)) (sQ (.draw [⟨0,oM 20 0,0,0,false⟩,⟨1,oO 21 (.nilck (tT 20)),1,0,false⟩,⟨2,oO 22 (.faddr 0 (tT 21)),3,0,false⟩,⟨3,oO 23 (.load false 1 (tT 22)),
 7,0,false⟩,⟨4,oM 24 0,0,0,false⟩,⟨5,oO 25 (.nilck (tT 24)),16,0,false⟩,⟨6,oO 26 (.faddr 1 (tT 25)),48,0,false⟩,⟨7,oO 27 (.load false 1 (tT 26)),112,0,false⟩,⟨8,oO 28 (.bin .sub .num (tT 27) (kI 1)),240,
 0,false⟩,⟨9,oO 29 (.iaddr 1 (tT 23) (tT 28)),511,1,false⟩,⟨10,oO 30 (.load false 1 (tT 29)),1023,1,false⟩,⟨11,oO 31 (.conv .i64 (tT 30)),2047,1,false⟩,⟨12,oM 2 31,4095,1,false⟩]) .ret))))
theorem ok96 : FnOk Tryz.prog 96 32 ir96 [.tmp 2] := Z7 mixed Tryz.func96 (by kernel_rfl) Tryz.ntmps96 (by kernel_rfl) (by kernel_rfl)
def ir97 : ACode := (sQ (.region [oO 6 (.mov (.const nS)),oO 7 (.mov (kI 0))]) (sQ (sQ (.region [oM 9 1,oO 10 (kC 136 [(tT 9)]),oO 11 (.una .not (tT 10)),oM 12 11,oF 12 13 (.mov (tT 2)),oF 12 14 (kC 136 [(tT 13)]),
 oF 12 15 (.una .not (tT 14)),oO 16 (.pick (tT 12) kT (tT 15)),oM 17 16,oF 17 18 (.mov (tT 1)),oF 17 19 (.mov (tT 2)),oF 17 20 (.bin .eql .num (tT 18) (tT 19)),oO 21 (.pick (tT 17) kT (tT 20))]) (.cond (tT 21) (sQ (.region [oM 22 0,
 oM 6 22,oO 7 (.mov (kI 1))]) .ret) .skip)) (sQ (sQ (.region [oM 23 0,oM 24 1,oM 25 2,oO 26 (kC 137 [(tT 23),(tT 24),(tT 25)])]) (.cond (tT 26) (sQ (.region [oM 27 0,oM 6 27,oO 7 (.mov (kI 5))]) .ret) .skip)) (sQ (sQ (.region [oM 28 0,
 oM 29 2,oM 30 1,oO 31 (kC 138 [(tT 28),(tT 29),(tT 30)])]) (.cond (tT 31) (sQ (.region [oM 32 0,oM 6 32,oO 7 (.mov (kI 16))]) .ret) .skip)) (sQ (.region [oO 8 (.mov (kI 0))]) (sQ (.block 0 (.loop (sQ (sQ (.region [oM 33 8,
 oM 34 0,oO 35 (.len (tT 34)),oO 36 (.bin .lss .num (tT 33) (tT 35)),oM 37 36,oT 37 38 (.mov (tT 0)),oT 37 39 (.mov (tT 8)),oT 37 40 (.iaddr 2 (tT 38) (tT 39)),oT 37 41 (.iaddrA 2 1 (tT 40) (kI 0)),oT 37 42 (.load false 1 (tT 41)),
 oT 37 43 (.mov (tT 1)),oT 37 44 (.bin .lss .num (tT 42) (tT 43)),oT 37 45 (.mov (tT 44)),oF 45 46 (.mov (tT 0)),oF 45 47 (.mov (tT 8)),oF 45 48 (.iaddr 2 (tT 46) (tT 47)),oF 45 49 (.iaddrA 2 1 (tT 48) (kI 0)),
 oF 45 50 (.load false 1 (tT 49)),oF 45 51 (.mov (tT 1)),oF 45 52 (.bin .eql .num (tT 50) (tT 51)),oF 45 53 (.mov (tT 52)),oT 53 54 (.mov (tT 0)),oT 53 55 (.mov (tT 8)),oT 53 56 (.iaddr 2 (tT 54) (tT 55)),
 oT 53 57 (.iaddrA 2 1 (tT 56) (kI 1)),oT 53 58 (.load false 1 (tT 57)),oT 53 59 (.mov (tT 2)),oT 53 60 (.bin .lss .num (tT 58) (tT 59)),oF 45 61 (.pick (tT 53) (tT 60) kF),oT 37 62 (.pick (tT 45) kT (tT 61)),
 oO 63 (.pick (tT 37) (tT 62) kF)]) (.cond (tT 63) .skip (.exit 0))) (.block 1 (.region [oM 64 8,oO 65 (.bin .add .num (tT 64) (kI 1)),oM 8 65]))))) (sQ (.draw [⟨0,oO 66 (.bslice [(.int .i64 0),(.int .i64 0)] 0 []),
 0,0,false⟩,⟨1,oM 67 0,0,0,false⟩,⟨2,oM 68 8,0,0,false⟩,⟨3,oO 69 (.slc 2 (tT 67) none (some (tT 68)) none),6,0,false⟩,⟨4,oO 70 (.append [(.int .i64 0),(.int .i64 0)] 16 (tT 66) (tT 69)),15,30,false⟩,⟨5,
 oM 71 1,0,0,false⟩,⟨6,oM 72 2,0,0,false⟩,⟨7,oO 73 (.build [(.int .i64 0),(.int .i64 0)] [(0,1,(tT 71)),(1,1,(tT 72))]),96,0,false⟩,⟨8,oO 74 (.bslice [(.int .i64 0),(.int .i64 0)] 1 [(0,(tT 73))]),224,0,
 false⟩,⟨9,oO 75 (.append [(.int .i64 0),(.int .i64 0)] 16 (tT 70) (tT 74)),511,1022,false⟩,⟨10,oM 76 0,0,0,false⟩,⟨11,oM 77 8,0,0,false⟩,⟨12,oO 78 (.slc 2 (tT 76) (some (tT 77)) none none),3072,0,false⟩,
 ⟨13,oO 79 (.append [(.int .i64 0),(.int .i64 0)] 16 (tT 75) (tT 78)),8191,1,false⟩,⟨14,oM 6 79,16383,1,false⟩,⟨15,oO 7 (.mov (kI 0)),32767,1,false⟩]) .ret)))))))
theorem ok97 : FnOk Tryz.prog 97 80 ir97 [.tmp 6, .tmp 7] := Z7 mixed Tryz.func97 (by kernel_rfl) Tryz.ntmps97 (by kernel_rfl) (by kernel_rfl)
def ir98 : ACode := (sQ (.region [oO 6 (.alloc [(.int .u64 0),(.int .u64 0)])]) (sQ (.region [oM 9 0,oO 10 (.conv .u8 (tT 9)),oM 11 0,oO 12 (.bin .shr .num (tT 11) (.const (.int .u64 1))),oM 13 0,oO 14 (.bin .shl .num (tT 13) (.const (.int .u64 3))),
 oO 15 (.bin .or .num (tT 12) (tT 14)),oO 16 (.conv .u8 (tT 15)),oO 17 (.bin .and .num (tT 10) (tT 16)),oM 18 2,oO 19 (.bin .and .num (tT 17) (tT 18)),oM 7 19]) (sQ (.region [oM 20 1,oO 21 (.conv .u8 (tT 20)),
 oM 22 1,oO 23 (.bin .shr .num (tT 22) (.const (.int .u64 2))),oM 24 1,oO 25 (.bin .shl .num (tT 24) (.const (.int .u64 1))),oO 26 (.bin .or .num (tT 23) (tT 25)),oO 27 (.conv .u8 (tT 26)),oO 28 (.bin .and .num (tT 21) (tT 27)),
 oM 29 2,oO 30 (.bin .and .num (tT 28) (tT 29)),oM 31 7,oO 32 (.bin .andNot .num (tT 30) (tT 31)),oM 8 32]) (sQ (.region [oM 33 7,oO 34 (.conv .u64 (tT 33)),oM 35 8,oO 36 (.conv .u64 (tT 35)),oO 37 (.build [(.int .u64 0),
 (.int .u64 0)] [(0,1,(tT 34)),(1,1,(tT 36))]),⟨none,.store 2 (tT 6) (tT 37),none⟩]) .ret))))
theorem ok98 : FnOk Tryz.prog 98 38 ir98 [.cell 6 true 2] := Z7 mixed Tryz.func98 (by kernel_rfl) Tryz.ntmps98 (by kernel_rfl) (by kernel_rfl)
def ir99 : ACode := (sQ (.region [oO 2 (.mov (.const nS))]) (sQ (.region [oO 3 (.mov (.const nS))]) (sQ (sQ (.region [oM 6 0,oO 7 (.len (tT 6)),oO 8 (.mov (kI 0))]) (.block 0 (.loop (sQ (.region [oO 9 (.bin .lss .num (tT 8) (tT 7))]) (sQ (.cond (tT 9) .skip (.exit 0)) (sQ (.block 1 (sQ (.region [oO 10 (.iaddr 2 (tT 6) (tT 8)),
 oO 11 (.load true 2 (tT 10)),oO 5 (.alloc [(.int .u64 0),(.int .u64 0)]),⟨none,.store 2 (tT 5) (tT 11),none⟩]) (.region [oM 12 3,oO 13 (.load true 2 (tT 5)),oO 14 (kC 27 [(tT 13)]),oO 15 (.bslice [nS,nS] 1 [(0,
 (tT 14))]),oO 16 (.append [nS,nS] 48 (tT 12) (tT 15)),oM 3 16]))) (.region [oO 17 (.bin .add .num (tT 8) (kI 1)),oM 8 17]))))))) (sQ (.region [oM 18 3,oM 2 18]) .ret))))
theorem ok99 : FnOk Tryz.prog 99 19 ir99 [.tmp 2] := Z7 mixed Tryz.func99 (by kernel_rfl) Tryz.ntmps99 (by kernel_rfl) (by kernel_rfl)
def ir100 : ACode := (sQ (.region [oO 6 (.mov (.const (.pointer none))),oO 7 (.mov (kI 0))]) (sQ (sQ (.region [oM 10 0,oO 11 (.bin .eql .ptr (tT 10) (.const (.pointer none))),oM 12 11,oF 12 13 (.mov (tT 1)),
 oF 12 14 (kC 139 [(tT 13)]),oF 12 15 (.una .not (tT 14)),oO 16 (.pick (tT 12) kT (tT 15)),oM 17 16,oF 17 18 (.mov (tT 2)),oF 17 19 (kC 139 [(tT 18)]),oF 17 20 (.una .not (tT 19)),oO 21 (.pick (tT 17) kT (tT 20)),
 oM 22 21,oF 22 23 (.mov (tT 1)),oF 22 24 (.mov (tT 2)),oF 22 25 (.bin .eql .num (tT 23) (tT 24)),oO 26 (.pick (tT 22) kT (tT 25))]) (.cond (tT 26) (sQ (.region [oO 6 (.mov (.const (.pointer none))),oO 7 (.mov (kI 1))]) .ret) .skip)) (sQ (.region [oM 28 0,
 oO 29 (.nilck (tT 28)),oO 30 (.faddr 0 (tT 29)),oO 31 (.load false 1 (tT 30)),oM 32 1,oM 33 2,oO 34 (kC 140 [(tT 31),(tT 32),(tT 33)]),oM 27 34,oO 35 (.extract (tT 27) 0),oO 36 (.extract (tT 27) 1),oM 8 35,
 oM 9 36]) (sQ (sQ (.region [oM 37 9,oO 38 (.bin .neq .num (tT 37) (kI 0))]) (.cond (tT 38) (sQ (.region [oM 39 9,oO 6 (.mov (.const (.pointer none))),oM 7 39]) .ret) .skip)) (sQ (.region [oM 40 8,oO 41 (.build [(.pointer none)] [(0,
 1,(tT 40))]),oO 42 (.box (tT 41)),oM 6 42,oO 7 (.mov (kI 0))]) .ret)))))
theorem ok100 : FnOk Tryz.prog 100 43 ir100 [.tmp 6, .tmp 7] := Z7 mixed Tryz.func100 (by kernel_rfl) Tryz.ntmps100 (by kernel_rfl) (by kernel_rfl)
def ir101 : ACode := (sQ (.region [oO 2 (.box (tT 0)),oO 3 (.box (tT 1)),oO 4 (.alloc [nS]),oO 5 (.alloc [(.int .i64 0)])]) (sQ (sQ (.region [oO 15 (.faddr 1 (tT 2)),oO 16 (.load false 1 (tT 15)),oO 17 (.bin .eql .ptr (tT 16) (.const (.pointer none)))]) (.cond (tT 17) (sQ (.region [⟨none,
 .store 1 (tT 4) (.const nS),none⟩,⟨none,.store 1 (tT 5) (kI 1),none⟩]) .ret) .skip)) (sQ (.region [oO 18 (.faddr 0 (tT 2)),oO 19 (.load false 1 (tT 18)),oO 20 (.bin .add .num (tT 19) (kI 1)),oO 21 (kC 66 [(tT 20)]),
 oO 22 (kC 111 [(tT 21),(kI 0)]),oO 6 (.alloc [nS]),⟨none,.store 1 (tT 6) (tT 22),none⟩]) (sQ (sQ (.draw [⟨0,oO 23 (.faddr 0 (tT 3)),0,0,false⟩,⟨1,oO 24 (.load true 1 (tT 23)),1,0,false⟩,⟨2,oO 25 (.faddr 1 (tT 3)),
 0,0,false⟩,⟨3,oO 26 (.load true 1 (tT 25)),4,0,false⟩,⟨4,oO 27 (kC 63 [(tT 24),(tT 26)]),15,0,false⟩,⟨5,oO 28 (.load true 1 (tT 6)),0,0,false⟩,⟨6,oO 29 (kC 65 [(tT 27),(tT 28)]),63,1,false⟩,⟨7,oO 30 (.una .not (tT 29)),
 127,1,false⟩]) (.cond (tT 30) (sQ (.region [⟨none,.store 1 (tT 4) (.const nS),none⟩,⟨none,.store 1 (tT 5) (kI 4),none⟩]) .ret) .skip)) (sQ (.region [oO 7 (.alloc [nS])]) (sQ (sQ (.region [oO 31 (.faddr 1 (tT 3)),
 oO 32 (.load true 1 (tT 31)),oO 33 (kC 93 [(tT 32)])]) (.block 0 (.range (tT 33) [34] [(8,(tT 34))] (.block 1 (.draw [⟨0,oO 35 (.load true 1 (tT 7)),0,0,false⟩,⟨1,oO 36 (.faddr 1 (tT 2)),0,0,false⟩,⟨2,
 oO 37 (.load false 1 (tT 36)),2,0,false⟩,⟨3,oM 38 8,0,0,false⟩,⟨4,oO 39 (kC 141 [(tT 37),(tT 38)]),14,0,false⟩,⟨5,oO 40 (.load true 1 (tT 6)),0,0,false⟩,⟨6,oO 41 (kC 142 [(tT 39),(tT 40)]),62,0,false⟩,
 ⟨7,oO 42 (kC 63 [(tT 35),(tT 41)]),127,1,false⟩,⟨8,⟨none,.store 1 (tT 7) (tT 42),none⟩,255,1,false⟩]))))) (sQ (.region [oO 43 (.load true 1 (tT 7)),oO 44 (.build [nS,nS] [(1,1,(tT 43))]),oO 45 (.bslice [nS,
 nS] 1 [(0,(tT 44))]),oO 9 (.alloc [nS]),⟨none,.store 1 (tT 9) (tT 45),none⟩]) (sQ (sQ (.region [oO 46 (.faddr 0 (tT 3)),oO 47 (.load true 1 (tT 46)),oO 48 (kC 93 [(tT 47)])]) (.block 2 (.range (tT 48) [49] [(10,
 (tT 49))] (.block 3 (sQ (.region [oO 11 (.alloc [nS])]) (sQ (sQ (.region [oO 50 (.load false 1 (tT 9)),oO 51 (.len (tT 50)),oO 52 (.mov (kI 0))]) (.block 4 (.loop (sQ (.region [oO 53 (.bin .lss .num (tT 52) (tT 51))]) (sQ (.cond (tT 53) .skip (.exit 4)) (sQ (.block 5 (sQ (.region [oO 54 (.iaddr 2 (tT 50) (tT 52)),
 oO 55 (.load true 2 (tT 54)),oO 13 (.alloc [nS,nS]),⟨none,.store 2 (tT 13) (tT 55),none⟩]) (sQ (.draw [⟨0,oO 56 (.faddr 1 (tT 2)),0,0,false⟩,⟨1,oO 57 (.load false 1 (tT 56)),1,0,false⟩,⟨2,oM 58 10,0,0,
 false⟩,⟨3,oO 59 (kC 141 [(tT 57),(tT 58)]),7,0,false⟩,⟨4,oO 60 (.load true 1 (tT 6)),0,0,false⟩,⟨5,oO 61 (kC 142 [(tT 59),(tT 60)]),31,1,false⟩,⟨6,oO 62 (kC 93 [(tT 61)]),63,1,false⟩]) (.block 6 (.range (tT 62) [63] [(14,
 (tT 63))] (.block 7 (.draw [⟨0,oO 64 (.load false 1 (tT 11)),0,0,false⟩,⟨1,oO 65 (.faddr 0 (tT 13)),0,0,false⟩,⟨2,oO 66 (.load true 1 (tT 65)),2,0,false⟩,⟨3,oM 67 14,0,0,false⟩,⟨4,oO 68 (kC 37 [(tT 66),
 (tT 67)]),14,0,false⟩,⟨5,oO 69 (.faddr 1 (tT 13)),0,0,false⟩,⟨6,oO 70 (.load true 1 (tT 69)),32,0,false⟩,⟨7,oO 71 (.build [nS,nS] [(0,1,(tT 68)),(1,1,(tT 70))]),126,0,false⟩,⟨8,oO 72 (.bslice [nS,nS] 1 [(0,
 (tT 71))]),254,0,false⟩,⟨9,oO 73 (.append [nS,nS] 48 (tT 64) (tT 72)),511,1,false⟩,⟨10,⟨none,.store 1 (tT 11) (tT 73),none⟩,1023,1,false⟩]))))))) (.region [oO 74 (.bin .add .num (tT 52) (kI 1)),oM 52 74]))))))) (sQ (.region [oO 75 (.load false 1 (tT 11)),
 oO 76 (kC 22 [(tT 75)]),⟨none,.store 1 (tT 9) (tT 76),none⟩]) (sQ (.region [oO 77 (.load false 1 (tT 9)),oO 78 (.len (tT 77)),oO 79 (.bin .gtr .num (tT 78) (kI 2000))]) (.cond (tT 79) (sQ (.region [⟨none,
 .store 1 (tT 4) (.const nS),none⟩,⟨none,.store 1 (tT 5) (kI 3),none⟩]) .ret) .skip))))))))) (sQ (.region [oO 80 (.load false 1 (tT 9)),⟨none,.store 1 (tT 4) (tT 80),none⟩,⟨none,.store 1 (tT 5) (kI 0),none⟩]) .ret)))))))))
theorem ok101 : FnOk Tryz.prog 101 81 ir101 [.cell 4 false 1, .cell 5 false 1] := Z7 mixed Tryz.func101 (by kernel_rfl) Tryz.ntmps101 (by kernel_rfl) (by kernel_rfl)
def ir102 : ACode := (sQ (.region [oO 4 (.mov (kI 0))]) (sQ (sQ (.region [oM 6 0,oO 7 (.len (tT 6)),oO 8 (.mov (kI 0))]) (.block 0 (.loop (sQ (.region [oO 9 (.bin .lss .num (tT 8) (tT 7))]) (sQ (.cond (tT 9) .skip (.exit 0)) (sQ (.block 1 (sQ (.region [oM 10 8,
 oM 5 10]) (sQ (.region [oM 11 1,oM 12 0,oM 13 5,oO 14 (.iaddr 2 (tT 12) (tT 13)),oO 15 (.load true 2 (tT 14)),oO 16 (.call (tT 11) [(tT 15)])]) (.cond (tT 16) (sQ (.region [oM 17 5,oM 4 17]) .ret) .skip)))) (.region [oO 18 (.bin .add .num (tT 8) (kI 1)),
 oM 8 18]))))))) (sQ (.region [oO 4 (.mov (.const (.int .i64 (-1))))]) .ret)))
theorem ok102 : FnOk Tryz.prog 102 19 ir102 [.tmp 4] := Z7 mixed Tryz.func102 (by kernel_rfl) Tryz.ntmps102 (by kernel_rfl) (by kernel_rfl)
def ir103 : ACode := (sQ (.region [oO 4 (.mov (.const (.int .u64 0)))]) (sQ (sQ (.region [oM 9 1,oO 10 (kC 136 [(tT 9)]),oO 11 (.una .not (tT 10))]) (.cond (tT 11) (sQ (.region [oO 4 (.mov (.const (.int .u64 0)))]) .ret) .skip)) (sQ (.region [oM 12 1,
 oO 13 (.bin .shl .num (.const (.int .u64 1)) (tT 12)),oM 5 13]) (.block 0 (.loop (.block 1 (sQ (.region [oM 14 5,oM 6 14]) (sQ (sQ (.region [oM 15 0,oO 16 (.len (tT 15)),oO 17 (.mov (kI 0))]) (.block 2 (.loop (sQ (.region [oO 18 (.bin .lss .num (tT 17) (tT 16))]) (sQ (.cond (tT 18) .skip (.exit 2)) (sQ (.block 3 (sQ (.region [oO 19 (.iaddr 2 (tT 15) (tT 17)),
 oO 20 (.load true 2 (tT 19)),oO 8 (.alloc [(.int .i64 0),(.int .i64 0)]),⟨none,.store 2 (tT 8) (tT 20),none⟩]) (sQ (.region [oM 21 5,oO 22 (.iaddrA 2 1 (tT 8) (kI 0)),oO 23 (.load false 1 (tT 22)),oO 24 (.bin .shr .num (tT 21) (tT 23)),
 oO 25 (.bin .rem .num (tT 24) (.const (.int .u64 2))),oO 26 (.bin .eql .num (tT 25) (.const (.int .u64 1)))]) (.cond (tT 26) (.region [oM 27 6,oO 28 (.iaddrA 2 1 (tT 8) (kI 1)),oO 29 (.load false 1 (tT 28)),
 oO 30 (.bin .shl .num (.const (.int .u64 1)) (tT 29)),oO 31 (.bin .or .num (tT 27) (tT 30)),oM 6 31]) .skip)))) (.region [oO 32 (.bin .add .num (tT 17) (kI 1)),oM 17 32]))))))) (sQ (sQ (.region [oM 33 6,
 oM 34 5,oO 35 (.bin .eql .num (tT 33) (tT 34))]) (.cond (tT 35) (sQ (.region [oM 36 5,oM 4 36]) .ret) .skip)) (.region [oM 37 6,oM 5 37]))))))))))
theorem ok103 : FnOk Tryz.prog 103 38 ir103 [.tmp 4] := Z7 mixed Tryz.func103 (by kernel_rfl) Tryz.ntmps103 (by kernel_rfl) (by kernel_rfl)
def ir104 : ACode := (sQ (.region [oO 2 (.box (tT 0)),oO 4 (.mov (.const nS)),oO 5 (.mov (kI 0))]) (sQ (.region [oO 6 (.mov (.const nS))]) (sQ (sQ (.region [oO 12 (.load true 2 (tT 2)),oO 13 (kC 28 [(tT 12)]),
 oO 14 (.una .not (tT 13))]) (.cond (tT 14) (.region [oM 15 6,oO 16 (.load true 2 (tT 2)),oO 17 (.bslice [nS,nS] 1 [(0,(tT 16))]),oO 18 (.append [nS,nS] 48 (tT 15) (tT 17)),oM 6 18]) .skip)) (sQ (sQ (.region [oM 19 1,
 oO 20 (.len (tT 19)),oO 21 (.mov (kI 0))]) (.block 0 (.loop (sQ (.region [oO 22 (.bin .lss .num (tT 21) (tT 20))]) (sQ (.cond (tT 22) .skip (.exit 0)) (sQ (.block 1 (sQ (.region [oO 23 (.iaddr 2 (tT 19) (tT 21)),
 oO 24 (.load true 2 (tT 23)),oO 8 (.alloc [nS,nS]),⟨none,.store 2 (tT 8) (tT 24),none⟩]) (sQ (.region [oO 9 (.mov (.const nS))]) (sQ (sQ (.region [oM 25 6,oO 26 (.len (tT 25)),oO 27 (.mov (kI 0))]) (.block 2 (.loop (sQ (.region [oO 28 (.bin .lss .num (tT 27) (tT 26))]) (sQ (.cond (tT 28) .skip (.exit 2)) (sQ (.block 3 (sQ (.region [oO 29 (.iaddr 2 (tT 25) (tT 27)),
 oO 30 (.load true 2 (tT 29)),oO 11 (.alloc [nS,nS]),⟨none,.store 2 (tT 11) (tT 30),none⟩]) (.region [oM 31 9,oO 32 (.load true 2 (tT 11)),oO 33 (.load true 2 (tT 8)),oO 34 (kC 76 [(tT 32),(tT 33)]),oO 35 (.append [nS,
 nS] 48 (tT 31) (tT 34)),oM 9 35]))) (.region [oO 36 (.bin .add .num (tT 27) (kI 1)),oM 27 36]))))))) (sQ (sQ (.region [oM 37 9,oO 38 (.len (tT 37)),oO 39 (.bin .gtr .num (tT 38) (kI 2000))]) (.cond (tT 39) (sQ (.region [oO 4 (.mov (.const nS)),
 oO 5 (.mov (kI 3))]) .ret) .skip)) (.region [oM 40 9,oM 6 40])))))) (.region [oO 41 (.bin .add .num (tT 21) (kI 1)),oM 21 41]))))))) (sQ (.region [oM 42 6,oM 4 42,oO 5 (.mov (kI 0))]) .ret)))))
theorem ok104 : FnOk Tryz.prog 104 43 ir104 [.tmp 4, .tmp 5] := Z7 mixed Tryz.func104 (by kernel_rfl) Tryz.ntmps104 (by kernel_rfl) (by kernel_rfl)
def ir107 : ACode := (sQ (.region [oO 2 (.box (tT 0)),oO 3 (.box (tT 1)),oO 4 (.mov (kI 0))]) (sQ (sQ (.region [oO 8 (.faddr 0 (tT 2)),oO 9 (.load false 1 (tT 8)),oO 10 (.len (tT 9)),oO 11 (.faddr 0 (tT 3)),
 oO 12 (.load false 1 (tT 11)),oO 13 (.len (tT 12)),oO 14 (.mx (tT 10) (tT 13)),oO 15 (.mov (kI 0))]) (.block 0 (.loop (sQ (.region [oO 16 (.bin .lss .num (tT 15) (tT 14))]) (sQ (.cond (tT 16) .skip (.exit 0)) (sQ (.block 1 (sQ (.region [oM 17 15,
 oM 5 17]) (sQ (.draw [⟨0,oO 18 (.load true 1 (tT 2)),0,0,false⟩,⟨1,oM 19 5,0,0,false⟩,⟨2,oO 20 (kC 108 [(tT 18),(tT 19)]),3,0,false⟩,⟨3,oO 21 (.load true 1 (tT 3)),0,0,false⟩,⟨4,oM 22 5,0,0,false⟩,⟨5,oO 23 (kC 108 [(tT 21),
 (tT 22)]),31,1,false⟩,⟨6,oO 24 (.bin .xor .num (tT 20) (tT 23)),63,1,false⟩,⟨7,oM 6 24,127,1,false⟩]) (sQ (sQ (.region [oM 25 6,oO 26 (.bin .eql .num (tT 25) (.const (.int .u64 0)))]) (.cond (tT 26) (.exit 1) .skip)) (sQ (.region [oM 27 5,
 oO 28 (.bin .mul .num (kI 64) (tT 27)),oM 29 6,oO 30 (kC 131 [(tT 29)]),oO 31 (.bin .add .num (tT 28) (tT 30)),oM 7 31]) (sQ (sQ (.draw [⟨0,oO 32 (.load true 1 (tT 2)),0,0,false⟩,⟨1,oM 33 7,0,0,false⟩,
 ⟨2,oO 34 (kC 64 [(tT 32),(tT 33)]),3,0,false⟩,⟨3,oO 35 (.load true 1 (tT 3)),0,0,false⟩,⟨4,oM 36 7,0,0,false⟩,⟨5,oO 37 (kC 64 [(tT 35),(tT 36)]),31,1,false⟩,⟨6,oO 38 (.bin .eql .bool (tT 34) (tT 37)),63,
 1,false⟩]) (.cond (tT 38) (sQ (.region [oO 4 (.mov (kI 0))]) .ret) .skip)) (sQ (sQ (.region [oO 39 (.load true 1 (tT 2)),oM 40 7,oO 41 (kC 64 [(tT 39),(tT 40)]),oM 42 41,oT 42 43 (.load true 1 (tT 3)),
 oT 42 44 (.mov (tT 7)),oT 42 45 (kC 153 [(tT 43),(tT 44)]),oO 46 (.pick (tT 42) (tT 45) kF),oM 47 46,oF 47 48 (.load true 1 (tT 3)),oF 47 49 (.mov (tT 7)),oF 47 50 (kC 64 [(tT 48),(tT 49)]),oF 47 51 (.mov (tT 50)),
 oT 51 52 (.load true 1 (tT 2)),oT 51 53 (.mov (tT 7)),oT 51 54 (kC 153 [(tT 52),(tT 53)]),oT 51 55 (.una .not (tT 54)),oF 47 56 (.pick (tT 51) (tT 55) kF),oO 57 (.pick (tT 47) kT (tT 56))]) (.cond (tT 57) (sQ (.region [oO 4 (.mov (.const (.int .i64 (-1))))]) .ret) .skip)) (sQ (.region [oO 4 (.mov (kI 1))]) .ret)))))))) (.region [oO 58 (.bin .add .num (tT 15) (kI 1)),
 oM 15 58]))))))) (sQ (.region [oO 4 (.mov (kI 0))]) .ret)))
theorem ok107 : FnOk Tryz.prog 107 59 ir107 [.tmp 4] := Z7 mixed Tryz.func107 (by kernel_rfl) Tryz.ntmps107 (by kernel_rfl) (by kernel_rfl)
def ir108 : ACode := (sQ (.region [oO 2 (.box (tT 0)),oO 4 (.mov (.const (.int .u64 0)))]) (sQ (sQ (.region [oM 5 1,oO 6 (.faddr 0 (tT 2)),oO 7 (.load false 1 (tT 6)),oO 8 (.len (tT 7)),oO 9 (.bin .lss .num (tT 5) (tT 8))]) (.cond (tT 9) (sQ (.region [oO 10 (.faddr 0 (tT 2)),
 oO 11 (.load false 1 (tT 10)),oM 12 1,oO 13 (.iaddr 1 (tT 11) (tT 12)),oO 14 (.load false 1 (tT 13)),oM 4 14]) .ret) .skip)) (sQ (.region [oO 4 (.mov (.const (.int .u64 0)))]) .ret)))
theorem ok108 : FnOk Tryz.prog 108 15 ir108 [.tmp 4] := Z7 mixed Tryz.func108 (by kernel_rfl) Tryz.ntmps108 (by kernel_rfl) (by kernel_rfl)
def ir109 : ACode := (sQ (.region [oO 3 (.box (tT 0)),oO 6 (.alloc [nS,nS]),oO 7 (.mov kF)]) (sQ (sQ (.region [oM 8 2]) (.cond (tT 8) (sQ (.draw [⟨0,oO 9 (.faddr 0 (tT 3)),0,0,false⟩,⟨1,oO 10 (.load true 1 (tT 9)),
 1,0,false⟩,⟨2,oO 11 (.faddr 1 (tT 3)),0,0,false⟩,⟨3,oO 12 (.load true 1 (tT 11)),4,0,false⟩,⟨4,oM 13 1,0,0,false⟩,⟨5,oO 14 (kC 111 [(tT 12),(tT 13)]),28,0,false⟩,⟨6,oO 15 (.build [nS,nS] [(0,1,(tT 10)),
 (1,1,(tT 14))]),63,0,false⟩,⟨7,oO 16 (.faddr 0 (tT 3)),0,0,false⟩,⟨8,oO 17 (.load true 1 (tT 16)),128,0,false⟩,⟨9,oM 18 1,0,0,false⟩,⟨10,oO 19 (kC 64 [(tT 17),(tT 18)]),956,0,false⟩,⟨11,oO 20 (.una .not (tT 19)),
 1980,0,false⟩,⟨12,⟨none,.store 2 (tT 6) (tT 15),none⟩,2047,1,false⟩,⟨13,oM 7 20,8191,1,false⟩]) .ret) .skip)) (sQ (.draw [⟨0,oO 21 (.faddr 0 (tT 3)),0,0,false⟩,⟨1,oO 22 (.load true 1 (tT 21)),1,0,false⟩,
 ⟨2,oM 23 1,0,0,false⟩,⟨3,oO 24 (kC 111 [(tT 22),(tT 23)]),7,0,false⟩,⟨4,oO 25 (.faddr 1 (tT 3)),0,0,false⟩,⟨5,oO 26 (.load true 1 (tT 25)),16,0,false⟩,⟨6,oO 27 (.build [nS,nS] [(0,1,(tT 24)),(1,1,(tT 26))]),
 63,0,false⟩,⟨7,oO 28 (.faddr 1 (tT 3)),0,0,false⟩,⟨8,oO 29 (.load true 1 (tT 28)),128,0,false⟩,⟨9,oM 30 1,0,0,false⟩,⟨10,oO 31 (kC 64 [(tT 29),(tT 30)]),911,0,false⟩,⟨11,oO 32 (.una .not (tT 31)),1935,
 0,false⟩,⟨12,⟨none,.store 2 (tT 6) (tT 27),none⟩,2047,1,false⟩,⟨13,oM 7 32,8191,1,false⟩]) .ret)))
theorem ok109 : FnOk Tryz.prog 109 33 ir109 [.cell 6 true 2, .tmp 7] := Z7 mixed Tryz.func109 (by kernel_rfl) Tryz.ntmps109 (by kernel_rfl) (by kernel_rfl)
def ir110 : ACode := (sQ (.region [oO 2 (.box (tT 0)),oO 3 (.box (tT 1)),oO 4 (.alloc [nS,nS]),oO 5 (.mov kF)]) (sQ (.region [oO 7 (.load true 2 (tT 2)),oO 8 (.load true 2 (tT 3)),oO 9 (kC 75 [(tT 7),(tT 8)]),
 oO 6 (.alloc [nS,nS]),⟨none,.store 2 (tT 6) (tT 9),none⟩]) (sQ (sQ (.region [oO 10 (.load true 2 (tT 6)),oO 11 (kC 28 [(tT 10)])]) (.cond (tT 11) (sQ (.region [oO 12 (.build [nS,nS] []),⟨none,.store 2 (tT 4) (tT 12),
 none⟩,oO 5 (.mov kF)]) .ret) .skip)) (sQ (.region [oO 13 (.load true 2 (tT 6)),⟨none,.store 2 (tT 4) (tT 13),none⟩,oO 5 (.mov kT)]) .ret))))
theorem ok110 : FnOk Tryz.prog 110 14 ir110 [.cell 4 true 2, .tmp 5] := Z7 mixed Tryz.func110 (by kernel_rfl) Tryz.ntmps110 (by kernel_rfl) (by kernel_rfl)
def ir111 : ACode := (sQ (.region [oO 2 (.box (tT 0)),oO 4 (.alloc [nS])]) (sQ (sQ (.region [oO 6 (.load true 1 (tT 2)),oM 7 1,oO 8 (kC 64 [(tT 6),(tT 7)]),oO 9 (.una .not (tT 8))]) (.cond (tT 9) (sQ (.region [oO 10 (.load true 1 (tT 2)),
 ⟨none,.store 1 (tT 4) (tT 10),none⟩]) .ret) .skip)) (sQ (.region [oO 11 (.bslice [(.int .u64 0)] 0 []),oO 12 (.faddr 0 (tT 2)),oO 13 (.load false 1 (tT 12)),oO 14 (.append [(.int .u64 0)] 8 (tT 11) (tT 13)),
 oM 5 14]) (sQ (.draw [⟨0,oM 15 5,0,1,false⟩,⟨1,oM 16 1,0,1,false⟩,⟨2,oO 17 (.bin .quo .num (tT 16) (kI 64)),2,1,false⟩,⟨3,oO 18 (.iaddr 1 (tT 15) (tT 17)),7,1,false⟩,⟨4,oO 19 (.load false 1 (tT 18)),15,
 1,false⟩,⟨5,oM 20 1,0,0,false⟩,⟨6,oO 21 (.bin .rem .num (tT 20) (kI 64)),32,0,false⟩,⟨7,oO 22 (.bin .shl .num (.const (.int .u64 1)) (tT 21)),96,0,false⟩,⟨8,oO 23 (.bin .andNot .num (tT 19) (tT 22)),255,
 1,false⟩,⟨9,oO 24 (.iaddr 1 (tT 15) (tT 17)),511,1,false⟩,⟨10,⟨none,.store 1 (tT 24) (tT 23),none⟩,1023,1,false⟩]) (sQ (.region [oM 25 5,oO 26 (kC 77 [(tT 25)]),⟨none,.store 1 (tT 4) (tT 26),none⟩]) .ret)))))
theorem ok111 : FnOk Tryz.prog 111 27 ir111 [.cell 4 true 1] := Z7 mixed Tryz.func111 (by kernel_rfl) Tryz.ntmps111 (by kernel_rfl) (by kernel_rfl)
def ir112 : ACode := (sQ (.region [oO 3 (.box (tT 1)),oO 4 (.mov kF)]) (sQ (.region [oM 5 0,oO 6 (.mkfn 155 [(tT 3)]),oO 7 (kC 154 [(tT 5),(tT 6)]),oO 8 (.una .not (tT 7)),oM 4 8]) .ret))
theorem ok112 : FnOk Tryz.prog 112 9 ir112 [.tmp 4] := Z7 mixed Tryz.func112 (by kernel_rfl) Tryz.ntmps112 (by kernel_rfl) (by kernel_rfl)
def ir113 : ACode := (sQ (.region [oO 2 (.mov (.const nS))]) (sQ (sQ (.region [oM 3 0,oO 4 (.bin .eql .ptr (tT 3) (.const (.pointer none)))]) (.cond (tT 4) (sQ (.region [oO 2 (.mov (.const nS))]) .ret) .skip)) (sQ (.region [oM 5 0,
 oO 6 (.nilck (tT 5)),oO 7 (.faddr 0 (tT 6)),oO 8 (.load false 1 (tT 7)),oO 9 (kC 156 [(tT 8)]),oM 2 9]) .ret)))
theorem ok113 : FnOk Tryz.prog 113 10 ir113 [.tmp 2] := Z7 mixed Tryz.func113 (by kernel_rfl) Tryz.ntmps113 (by kernel_rfl) (by kernel_rfl)
def ir114 : ACode := (sQ (.region [oO 2 (.box (tT 0)),oO 3 (.mov kF)]) (sQ (.region [oO 4 (.load true 1 (tT 1)),oO 5 (.iaddrA 2 1 (tT 2) (kI 0)),oO 6 (.load false 1 (tT 5)),oO 7 (kC 64 [(tT 4),(tT 6)]),
 oM 8 7,oT 8 9 (.load true 1 (tT 1)),oT 8 10 (.iaddrA 2 1 (tT 2) (kI 1)),oT 8 11 (.load false 1 (tT 10)),oT 8 12 (kC 64 [(tT 9),(tT 11)]),oO 13 (.pick (tT 8) (tT 12) kF),oM 3 13]) .ret))
theorem ok114 : FnOk Tryz.prog 114 14 ir114 [.tmp 3] := Z7 mixed Tryz.func114 (by kernel_rfl) Tryz.ntmps114 (by kernel_rfl) (by kernel_rfl)
def ir115 : ACode := (sQ (.region [oO 2 (.box (tT 0)),oO 3 (.mov kF)]) (sQ (.region [oO 4 (.load true 1 (tT 1)),oO 5 (.faddr 3 (tT 2)),oO 6 (.load false 1 (tT 5)),oO 7 (kC 64 [(tT 4),(tT 6)]),oM 3 7]) .ret))
theorem ok115 : FnOk Tryz.prog 115 8 ir115 [.tmp 3] := Z7 mixed Tryz.func115 (by kernel_rfl) Tryz.ntmps115 (by kernel_rfl) (by kernel_rfl)
def ir116 : ACode := (sQ (.region [oO 3 (.box (tT 1)),oO 4 (.mov kF)]) (sQ (.region [oM 5 0,oO 6 (.mkfn 157 [(tT 3)]),oO 7 (kC 50 [(tT 5),(tT 6)]),oO 8 (.una .not (tT 7)),oM 4 8]) .ret))
theorem ok116 : FnOk Tryz.prog 116 9 ir116 [.tmp 4] := Z7 mixed Tryz.func116 (by kernel_rfl) Tryz.ntmps116 (by kernel_rfl) (by kernel_rfl)
def ir117 : ACode := (sQ (.region [oO 2 (.box (tT 0)),oO 3 (.mov kF)]) (sQ (.draw [⟨0,oO 4 (.faddr 0 (tT 2)),0,0,false⟩,⟨1,oO 5 (.load true 1 (tT 4)),1,0,false⟩,⟨2,oO 6 (.faddr 1 (tT 2)),0,0,false⟩,⟨3,
 oO 7 (.load true 1 (tT 6)),4,0,false⟩,⟨4,oO 8 (kC 63 [(tT 5),(tT 7)]),15,0,false⟩,⟨5,oO 9 (.load true 1 (tT 1)),0,0,false⟩,⟨6,oO 10 (kC 65 [(tT 8),(tT 9)]),63,1,false⟩,⟨7,oM 3 10,127,1,false⟩]) .ret))
theorem ok117 : FnOk Tryz.prog 117 11 ir117 [.tmp 3] := Z7 mixed Tryz.func117 (by kernel_rfl) Tryz.ntmps117 (by kernel_rfl) (by kernel_rfl)
def ir118 : ACode := (sQ (.region [oO 4 (.mov kF)]) (sQ (.region [oM 5 0,oM 6 1,oO 7 (kC 158 [(tT 5),(tT 6)]),oO 8 (.bin .geq .num (tT 7) (kI 0)),oM 4 8]) .ret))
theorem ok118 : FnOk Tryz.prog 118 9 ir118 [.tmp 4] := Z7 mixed Tryz.func118 (by kernel_rfl) Tryz.ntmps118 (by kernel_rfl) (by kernel_rfl)
def ir119 : ACode := (sQ (.region [oO 2 (.box (tT 0)),oO 3 (.mov kF)]) (sQ (.region [oO 4 (.load false 1 (tT 1)),oO 5 (.load true 5 (tT 2)),oO 6 (.call (tT 4) [(tT 5)]),oO 7 (.una .not (tT 6)),oM 3 7]) .ret))
theorem ok119 : FnOk Tryz.prog 119 8 ir119 [.tmp 3] := Z7 mixed Tryz.func119 (by kernel_rfl) Tryz.ntmps119 (by kernel_rfl) (by kernel_rfl)
def ir124 : ACode := (sQ (.region [oO 2 (.box (tT 0)),oO 3 (.box (tT 1)),oO 4 (.mov (kI 0))]) (sQ (sQ (.region [oO 5 (.iaddrA 2 1 (tT 2) (kI 0)),oO 6 (.load false 1 (tT 5)),oO 7 (.iaddrA 2 1 (tT 3) (kI 0)),
 oO 8 (.load false 1 (tT 7)),oO 9 (.bin .neq .num (tT 6) (tT 8))]) (.cond (tT 9) (sQ (.region [oO 10 (.iaddrA 2 1 (tT 2) (kI 0)),oO 11 (.load false 1 (tT 10)),oO 12 (.iaddrA 2 1 (tT 3) (kI 0)),oO 13 (.load false 1 (tT 12)),
 oO 14 (.bin .sub .num (tT 11) (tT 13)),oM 4 14]) .ret) .skip)) (sQ (.region [oO 15 (.iaddrA 2 1 (tT 2) (kI 1)),oO 16 (.load false 1 (tT 15)),oO 17 (.iaddrA 2 1 (tT 3) (kI 1)),oO 18 (.load false 1 (tT 17)),
 oO 19 (.bin .sub .num (tT 16) (tT 18)),oM 4 19]) .ret)))
theorem ok124 : FnOk Tryz.prog 124 20 ir124 [.tmp 4] := Z7 mixed Tryz.func124 (by kernel_rfl) Tryz.ntmps124 (by kernel_rfl) (by kernel_rfl)
def ir125 : ACode := (sQ (.region [oO 2 (.mov (.const nS))]) (sQ (.region [oM 3 0,oM 4 0,oO 5 (.len (tT 4)),oM 6 0,oO 7 (.len (tT 6)),oO 8 (.slc 2 (tT 3) none (some (tT 5)) (some (tT 7))),oM 2 8]) .ret))
theorem ok125 : FnOk Tryz.prog 125 9 ir125 [.tmp 2] := Z7 mixed Tryz.func125 (by kernel_rfl) Tryz.ntmps125 (by kernel_rfl) (by kernel_rfl)
def ir126 : ACode := (sQ (.region [oO 2 (.mov (.const nS))]) (sQ (sQ (.region [oM 6 0,oO 7 (.len (tT 6)),oO 8 (.bin .lss .num (tT 7) (kI 2))]) (.cond (tT 8) (sQ (.region [oM 9 0,oM 2 9]) .ret) .skip)) (sQ (sQ (.region [oO 3 (.mov (kI 1))]) (.block 0 (.loop (sQ (sQ (.region [oM 10 3,
 oM 11 0,oO 12 (.len (tT 11)),oO 13 (.bin .lss .num (tT 10) (tT 12))]) (.cond (tT 13) .skip (.exit 0))) (sQ (.block 1 (sQ (.draw [⟨0,oM 16 0,0,0,false⟩,⟨1,oM 17 3,0,0,false⟩,⟨2,oO 18 (.iaddr 2 (tT 16) (tT 17)),
 3,0,false⟩,⟨3,oO 19 (.load true 2 (tT 18)),7,0,false⟩,⟨4,oM 20 0,0,0,false⟩,⟨5,oM 21 3,0,0,false⟩,⟨6,oO 22 (.bin .sub .num (tT 21) (kI 1)),32,0,false⟩,⟨7,oO 23 (.iaddr 2 (tT 20) (tT 22)),112,0,false⟩,⟨8,
 oO 24 (.load true 2 (tT 23)),240,0,false⟩,⟨9,oO 25 (.bin .eql (.cells [0,0]) (tT 19) (tT 24)),511,1,false⟩]) (.cond (tT 25) (sQ (.region [oM 26 0,oM 27 3,oO 28 (.slc 2 (tT 26) (some (tT 27)) none none),
 oM 4 28]) (sQ (sQ (.region [oO 5 (.mov (kI 1))]) (.block 2 (.loop (sQ (sQ (.region [oM 29 5,oM 30 4,oO 31 (.len (tT 30)),oO 32 (.bin .lss .num (tT 29) (tT 31))]) (.cond (tT 32) .skip (.exit 2))) (sQ (.block 3 (sQ (.draw [⟨0,
 oM 35 4,0,0,false⟩,⟨1,oM 36 5,0,0,false⟩,⟨2,oO 37 (.iaddr 2 (tT 35) (tT 36)),3,0,false⟩,⟨3,oO 38 (.load true 2 (tT 37)),7,0,false⟩,⟨4,oM 39 4,0,0,false⟩,⟨5,oM 40 5,0,0,false⟩,⟨6,oO 41 (.bin .sub .num (tT 40) (kI 1)),
 32,0,false⟩,⟨7,oO 42 (.iaddr 2 (tT 39) (tT 41)),112,0,false⟩,⟨8,oO 43 (.load true 2 (tT 42)),240,0,false⟩,⟨9,oO 44 (.bin .neq (.cells [0,0]) (tT 38) (tT 43)),511,1,false⟩]) (.cond (tT 44) (sQ (.region [oM 45 0,
 oM 46 3,oM 47 4,oM 48 5,oO 49 (.iaddr 2 (tT 47) (tT 48)),oO 50 (.load true 2 (tT 49)),oO 51 (.iaddr 2 (tT 45) (tT 46)),⟨none,.store 2 (tT 51) (tT 50),none⟩]) (.region [oM 52 3,oO 53 (.bin .add .num (tT 52) (kI 1)),
 oM 3 53])) .skip))) (.region [oM 33 5,oO 34 (.bin .add .num (tT 33) (kI 1)),oM 5 34])))))) (sQ (.region [oM 54 0,oM 55 3,oO 56 (.slc 2 (tT 54) (some (tT 55)) none none),⟨none,.clear [(.int .i64 0),(.int .i64 0)] (tT 56),
 none⟩]) (sQ (.region [oM 57 0,oM 58 3,oO 59 (.slc 2 (tT 57) none (some (tT 58)) none),oM 2 59]) .ret)))) .skip))) (.region [oM 14 3,oO 15 (.bin .add .num (tT 14) (kI 1)),oM 3 15])))))) (sQ (.region [oM 60 0,
 oM 2 60]) .ret))))
theorem ok126 : FnOk Tryz.prog 126 61 ir126 [.tmp 2] := Z7 mixed Tryz.func126 (by kernel_rfl) Tryz.ntmps126 (by kernel_rfl) (by kernel_rfl)
def ir127 : ACode := (sQ (.region [oO 2 (.mov kF)]) (sQ (.region [oM 9 0,oO 10 (.nilck (tT 9)),oO 11 (.faddr 0 (tT 10)),oO 12 (.load false 1 (tT 11)),oO 13 (.mslice [(.int .i64 0)] 8 (tT 12) (tT 12)),oM 3 13]) (sQ (sQ (.region [oM 14 0,
 oO 15 (.nilck (tT 14)),oO 16 (.faddr 1 (tT 15)),oO 17 (.load false 1 (tT 16)),oO 18 (.len (tT 17)),oO 19 (.mov (kI 0))]) (.block 0 (.loop (sQ (.region [oO 20 (.bin .lss .num (tT 19) (tT 18))]) (sQ (.cond (tT 20) .skip (.exit 0)) (sQ (.block 1 (sQ (.region [oO 21 (.iaddr 2 (tT 17) (tT 19)),
 oO 22 (.load true 2 (tT 21)),oO 5 (.alloc [(.int .i64 0),(.int .i64 0)]),⟨none,.store 2 (tT 5) (tT 22),none⟩]) (.region [oM 23 3,oO 24 (.iaddrA 2 1 (tT 5) (kI 1)),oO 25 (.load false 1 (tT 24)),oO 26 (.iaddr 1 (tT 23) (tT 25)),
 oO 27 (.load false 1 (tT 26)),oO 28 (.bin .add .num (tT 27) (kI 1)),oO 29 (.iaddr 1 (tT 23) (tT 25)),⟨none,.store 1 (tT 29) (tT 28),none⟩]))) (.region [oO 30 (.bin .add .num (tT 19) (kI 1)),oM 19 30]))))))) (sQ (.block 2 (.loop (sQ (sQ (.draw [⟨0,
 oM 31 0,0,0,false⟩,⟨1,oO 32 (.nilck (tT 31)),1,0,false⟩,⟨2,oO 33 (.faddr 4 (tT 32)),3,0,false⟩,⟨3,oO 34 (.load false 1 (tT 33)),7,0,false⟩,⟨4,oO 35 (.len (tT 34)),15,0,false⟩,⟨5,oM 36 0,0,0,false⟩,⟨6,oO 37 (.nilck (tT 36)),
 32,0,false⟩,⟨7,oO 38 (.faddr 0 (tT 37)),96,0,false⟩,⟨8,oO 39 (.load false 1 (tT 38)),224,0,false⟩,⟨9,oO 40 (.bin .lss .num (tT 35) (tT 39)),511,1,false⟩]) (.cond (tT 40) .skip (.exit 2))) (.block 3 (sQ (.region [oM 41 3,
 oO 42 (kC 162 [(tT 41),(kI 0)]),oM 6 42]) (sQ (sQ (.region [oM 43 6,oO 44 (.bin .lss .num (tT 43) (kI 0))]) (.cond (tT 44) (sQ (.region [oO 2 (.mov kF)]) .ret) .skip)) (sQ (.region [oM 45 3,oM 46 6,oO 47 (.iaddr 1 (tT 45) (tT 46)),
 ⟨none,.store 1 (tT 47) (.const (.int .i64 (-1))),none⟩]) (sQ (.region [oM 48 0,oM 49 0,oO 50 (.nilck (tT 49)),oO 51 (.faddr 4 (tT 50)),oO 52 (.load false 1 (tT 51)),oM 53 6,oO 54 (.bslice [(.int .i64 0)] 1 [(0,
 (tT 53))]),oO 55 (.append [(.int .i64 0)] 8 (tT 52) (tT 54)),oO 56 (.nilck (tT 48)),oO 57 (.faddr 4 (tT 56)),⟨none,.store 1 (tT 57) (tT 55),none⟩]) (sQ (.region [oM 58 0,oO 59 (.nilck (tT 58)),oO 60 (.faddr 1 (tT 59)),
 oO 61 (.load false 1 (tT 60)),oO 62 (.len (tT 61)),oO 63 (.mov (kI 0))]) (.block 4 (.loop (sQ (.region [oO 64 (.bin .lss .num (tT 63) (tT 62))]) (sQ (.cond (tT 64) .skip (.exit 4)) (sQ (.block 5 (sQ (.region [oO 65 (.iaddr 2 (tT 61) (tT 63)),
 oO 66 (.load true 2 (tT 65)),oO 8 (.alloc [(.int .i64 0),(.int .i64 0)]),⟨none,.store 2 (tT 8) (tT 66),none⟩]) (sQ (.region [oO 67 (.iaddrA 2 1 (tT 8) (kI 0)),oO 68 (.load false 1 (tT 67)),oM 69 6,oO 70 (.bin .eql .num (tT 68) (tT 69))]) (.cond (tT 70) (.region [oM 71 3,
 oO 72 (.iaddrA 2 1 (tT 8) (kI 1)),oO 73 (.load false 1 (tT 72)),oO 74 (.iaddr 1 (tT 71) (tT 73)),oO 75 (.load false 1 (tT 74)),oO 76 (.bin .sub .num (tT 75) (kI 1)),oO 77 (.iaddr 1 (tT 71) (tT 73)),⟨none,
 .store 1 (tT 77) (tT 76),none⟩]) .skip)))) (.region [oO 78 (.bin .add .num (tT 63) (kI 1)),oM 63 78]))))))))))))))) (sQ (.region [oO 2 (.mov kT)]) .ret)))))
theorem ok127 : FnOk Tryz.prog 127 79 ir127 [.tmp 2] := Z7 mixed Tryz.func127 (by kernel_rfl) Tryz.ntmps127 (by kernel_rfl) (by kernel_rfl)
def ir128 : ACode := (sQ (.region [oO 1 (.box (tT 0))]) (sQ (.draw [⟨0,oO 10 (.load false 1 (tT 1)),0,0,false⟩,⟨1,oO 11 (.load false 1 (tT 1)),0,0,false⟩,⟨2,oO 12 (.load false 1 (tT 1)),0,0,false⟩,⟨3,oO 13 (.nilck (tT 12)),
 4,0,false⟩,⟨4,oO 14 (.faddr 0 (tT 13)),12,0,false⟩,⟨5,oO 15 (.load false 1 (tT 14)),28,0,false⟩,⟨6,oO 16 (.mslice [nS] 24 (tT 15) (tT 15)),60,0,false⟩,⟨7,oO 17 (.load false 1 (tT 1)),0,0,false⟩,⟨8,oO 18 (.nilck (tT 17)),
 128,0,false⟩,⟨9,oO 19 (.faddr 0 (tT 18)),384,0,false⟩,⟨10,oO 20 (.load false 1 (tT 19)),896,0,false⟩,⟨11,oO 21 (.mslice [nS] 24 (tT 20) (tT 20)),1920,0,false⟩,⟨12,oO 22 (.nilck (tT 10)),2045,0,false⟩,⟨13,
 oO 23 (.faddr 2 (tT 22)),6141,0,false⟩,⟨14,⟨none,.store 1 (tT 23) (tT 16),none⟩,14333,28666,false⟩,⟨15,oO 24 (.nilck (tT 11)),32767,1,false⟩,⟨16,oO 25 (.faddr 3 (tT 24)),65535,1,false⟩,⟨17,⟨none,.store 1 (tT 25) (tT 21),
 none⟩,131071,1,false⟩]) (sQ (.region [oO 26 (.load false 1 (tT 1)),oO 27 (.nilck (tT 26)),oO 28 (.faddr 0 (tT 27)),oO 29 (.load false 1 (tT 28)),oO 30 (.mslice [nS] 24 (tT 29) (tT 29)),oM 2 30]) (sQ (sQ (.region [oO 31 (.load false 1 (tT 1)),
 oO 32 (.nilck (tT 31)),oO 33 (.faddr 1 (tT 32)),oO 34 (.load false 1 (tT 33)),oO 35 (.len (tT 34)),oO 36 (.mov (kI 0))]) (.block 0 (.loop (sQ (.region [oO 37 (.bin .lss .num (tT 36) (tT 35))]) (sQ (.cond (tT 37) .skip (.exit 0)) (sQ (.block 1 (sQ (.region [oO 38 (.iaddr 2 (tT 34) (tT 36)),
 oO 39 (.load true 2 (tT 38)),oO 4 (.alloc [(.int .i64 0),(.int .i64 0)]),⟨none,.store 2 (tT 4) (tT 39),none⟩]) (.draw [⟨0,oM 40 2,0,0,false⟩,⟨1,oO 41 (.iaddrA 2 1 (tT 4) (kI 1)),0,0,false⟩,⟨2,oO 42 (.load false 1 (tT 41)),
 2,0,false⟩,⟨3,oM 43 2,0,0,false⟩,⟨4,oO 44 (.iaddrA 2 1 (tT 4) (kI 1)),0,0,false⟩,⟨5,oO 45 (.load false 1 (tT 44)),16,0,false⟩,⟨6,oO 46 (.iaddr 1 (tT 43) (tT 45)),56,0,false⟩,⟨7,oO 47 (.load false 1 (tT 46)),
 120,0,false⟩,⟨8,oO 48 (.iaddrA 2 1 (tT 4) (kI 0)),0,0,false⟩,⟨9,oO 49 (.load false 1 (tT 48)),256,0,false⟩,⟨10,oO 50 (.bslice [(.int .i64 0)] 1 [(0,(tT 49))]),768,0,false⟩,⟨11,oO 51 (.append [(.int .i64 0)] 8 (tT 47) (tT 50)),
 2040,4080,false⟩,⟨12,oO 52 (.iaddr 1 (tT 40) (tT 42)),4095,1,false⟩,⟨13,⟨none,.store 1 (tT 52) (tT 51),none⟩,8191,1,false⟩]))) (.region [oO 53 (.bin .add .num (tT 36) (kI 1)),oM 36 53]))))))) (sQ (.region [oO 54 (.load false 1 (tT 1)),
 oO 55 (.nilck (tT 54)),oO 56 (.faddr 4 (tT 55)),oO 57 (.load false 1 (tT 56)),oO 58 (.len (tT 57)),oO 59 (.mov (kI 0))]) (.block 2 (.loop (sQ (.region [oO 60 (.bin .lss .num (tT 59) (tT 58))]) (sQ (.cond (tT 60) .skip (.exit 2)) (sQ (.block 3 (sQ (.region [oO 61 (.iaddr 1 (tT 57) (tT 59)),
 oO 62 (.load false 1 (tT 61)),oO 6 (.alloc [(.int .i64 0)]),⟨none,.store 1 (tT 6) (tT 62),none⟩]) (sQ (sQ (.region [oM 63 2,oO 64 (.load false 1 (tT 6)),oO 65 (.iaddr 1 (tT 63) (tT 64)),oO 66 (.load false 1 (tT 65)),
 oO 67 (.len (tT 66)),oO 68 (.mov (kI 0))]) (.block 4 (.loop (sQ (.region [oO 69 (.bin .lss .num (tT 68) (tT 67))]) (sQ (.cond (tT 69) .skip (.exit 4)) (sQ (.block 5 (sQ (.region [oO 70 (.iaddr 1 (tT 66) (tT 68)),
 oO 71 (.load false 1 (tT 70)),oM 8 71]) (.draw [⟨0,oO 72 (.load false 1 (tT 1)),0,0,false⟩,⟨1,oO 73 (.nilck (tT 72)),1,0,false⟩,⟨2,oO 74 (.faddr 2 (tT 73)),3,0,false⟩,⟨3,oO 75 (.load false 1 (tT 74)),7,
 0,false⟩,⟨4,oO 76 (.load false 1 (tT 6)),0,0,false⟩,⟨5,oO 77 (.load false 1 (tT 1)),0,0,false⟩,⟨6,oO 78 (.nilck (tT 77)),32,0,false⟩,⟨7,oO 79 (.faddr 2 (tT 78)),96,0,false⟩,⟨8,oO 80 (.load false 1 (tT 79)),
 224,0,false⟩,⟨9,oO 81 (.load false 1 (tT 6)),0,0,false⟩,⟨10,oO 82 (.iaddr 1 (tT 80) (tT 81)),992,0,false⟩,⟨11,oO 83 (.load true 1 (tT 82)),2016,0,false⟩,⟨12,oO 84 (.load false 1 (tT 1)),0,0,false⟩,⟨13,
 oO 85 (.nilck (tT 84)),4096,0,false⟩,⟨14,oO 86 (.faddr 2 (tT 85)),12288,0,false⟩,⟨15,oO 87 (.load false 1 (tT 86)),28672,0,false⟩,⟨16,oM 88 8,0,0,false⟩,⟨17,oO 89 (.iaddr 1 (tT 87) (tT 88)),126976,0,false⟩,
 ⟨18,oO 90 (.load true 1 (tT 89)),258048,0,false⟩,⟨19,oO 91 (kC 63 [(tT 83),(tT 90)]),524256,0,false⟩,⟨20,oM 92 8,0,0,false⟩,⟨21,oO 93 (kC 37 [(tT 91),(tT 92)]),2097120,0,false⟩,⟨22,oO 94 (.iaddr 1 (tT 75) (tT 76)),
 4194303,1,false⟩,⟨23,⟨none,.store 1 (tT 94) (tT 93),none⟩,8388607,1,false⟩]))) (.region [oO 95 (.bin .add .num (tT 68) (kI 1)),oM 68 95]))))))) (sQ (.draw [⟨0,oO 96 (.load false 1 (tT 1)),0,0,false⟩,⟨1,
 oO 97 (.nilck (tT 96)),1,0,false⟩,⟨2,oO 98 (.faddr 2 (tT 97)),3,0,false⟩,⟨3,oO 99 (.load false 1 (tT 98)),7,0,false⟩,⟨4,oO 100 (.load false 1 (tT 6)),0,0,false⟩,⟨5,oO 101 (.iaddr 1 (tT 99) (tT 100)),31,
 1,false⟩,⟨6,oO 102 (.load true 1 (tT 101)),63,1,false⟩,⟨7,oO 103 (kC 93 [(tT 102)]),127,1,false⟩]) (.block 6 (.range (tT 103) [104] [(9,(tT 104))] (.block 7 (.draw [⟨0,oO 105 (.load false 1 (tT 1)),0,0,
 false⟩,⟨1,oO 106 (.nilck (tT 105)),1,0,false⟩,⟨2,oO 107 (.faddr 3 (tT 106)),3,0,false⟩,⟨3,oO 108 (.load false 1 (tT 107)),7,0,false⟩,⟨4,oM 109 9,0,0,false⟩,⟨5,oO 110 (.load false 1 (tT 1)),0,0,false⟩,⟨6,
 oO 111 (.nilck (tT 110)),32,0,false⟩,⟨7,oO 112 (.faddr 3 (tT 111)),96,0,false⟩,⟨8,oO 113 (.load false 1 (tT 112)),224,0,false⟩,⟨9,oM 114 9,0,0,false⟩,⟨10,oO 115 (.iaddr 1 (tT 113) (tT 114)),992,0,false⟩,
 ⟨11,oO 116 (.load true 1 (tT 115)),2016,0,false⟩,⟨12,oO 117 (.load false 1 (tT 6)),0,0,false⟩,⟨13,oO 118 (kC 37 [(tT 116),(tT 117)]),8160,0,false⟩,⟨14,oO 119 (.iaddr 1 (tT 108) (tT 109)),16383,1,false⟩,
 ⟨15,⟨none,.store 1 (tT 119) (tT 118),none⟩,32767,1,false⟩])))))))) (.region [oO 120 (.bin .add .num (tT 59) (kI 1)),oM 59 120])))))))))))
theorem ok128 : FnOk Tryz.prog 128 121 ir128 [] := Z7 mixed Tryz.func128 (by kernel_rfl) Tryz.ntmps128 (by kernel_rfl) (by kernel_rfl)
def ir129 : ACode := (sQ (.region [oO 4 (.alloc [nS])]) (sQ (sQ (.region [oM 5 0,oO 6 (.bin .eql .ptr (tT 5) (.const (.pointer none))),oM 7 6,oF 7 8 (.mov (tT 1)),oF 7 9 (kC 139 [(tT 8)]),oF 7 10 (.una .not (tT 9)),
 oO 11 (.pick (tT 7) kT (tT 10))]) (.cond (tT 11) (sQ (.region [oO 12 (.build [nS] []),⟨none,.store 1 (tT 4) (tT 12),none⟩]) .ret) .skip)) (sQ (.region [oM 13 0,oO 14 (.nilck (tT 13)),oO 15 (.faddr 0 (tT 14)),
 oO 16 (.load false 1 (tT 15)),oM 17 1,oO 18 (kC 163 [(tT 16),(tT 17)]),oM 19 1,oO 20 (kC 37 [(tT 18),(tT 19)]),⟨none,.store 1 (tT 4) (tT 20),none⟩]) .ret)))
theorem ok129 : FnOk Tryz.prog 129 21 ir129 [.cell 4 true 1] := Z7 mixed Tryz.func129 (by kernel_rfl) Tryz.ntmps129 (by kernel_rfl) (by kernel_rfl)
def ir130 : ACode := (sQ (.region [oO 5 (.faddr 0 (tT 1)),oO 6 (.load false 1 (tT 5)),oO 7 (.len (tT 6)),oO 8 (.mov (kI 0))]) (.block 0 (.loop (sQ (.region [oO 9 (.bin .lss .num (tT 8) (tT 7))]) (sQ (.cond (tT 9) .skip (.exit 0)) (sQ (.block 1 (sQ (.region [oM 10 8,
 oO 11 (.iaddr 1 (tT 6) (tT 8)),oO 12 (.load false 1 (tT 11)),oM 3 10,oM 4 12]) (.block 2 (.loop (sQ (sQ (.region [oM 13 4,oO 14 (.bin .neq .num (tT 13) (.const (.int .u64 0)))]) (.cond (tT 14) .skip (.exit 2))) (sQ (.block 3 (sQ (.region [oM 19 0,
 oM 20 3,oO 21 (.bin .mul .num (kI 64) (tT 20)),oM 22 4,oO 23 (kC 131 [(tT 22)]),oO 24 (.bin .add .num (tT 21) (tT 23)),oO 25 (.call (tT 19) [(tT 24)]),oO 26 (.una .not (tT 25))]) (.cond (tT 26) .ret .skip))) (.region [oM 15 4,
 oM 16 4,oO 17 (.bin .sub .num (tT 16) (.const (.int .u64 1))),oO 18 (.bin .and .num (tT 15) (tT 17)),oM 4 18]))))))) (.region [oO 27 (.bin .add .num (tT 8) (kI 1)),oM 8 27])))))))
theorem ok130 : FnOk Tryz.prog 130 28 ir130 [] := Z7 mixed Tryz.func130 (by kernel_rfl) Tryz.ntmps130 (by kernel_rfl) (by kernel_rfl)
def ir131 : ACode := (sQ (.region [oO 2 (.mov (kI 0))]) (sQ (sQ (.region [oM 3 0,oO 4 (.bin .eql .num (tT 3) (.const (.int .u64 0)))]) (.cond (tT 4) (sQ (.region [oO 2 (.mov (kI 64))]) .ret) .skip)) (sQ (.region [oM 5 0,
 oM 6 0,oO 7 (.una .neg (tT 6)),oO 8 (.bin .and .num (tT 5) (tT 7)),oO 9 (.bin .mul .num (tT 8) (.const (.int .u64 285870213051353865))),oO 10 (.bin .shr .num (tT 9) (.const (.int .u64 58))),oO 11 (.iaddrA 64 1 (.global 0) (tT 10)),
 oO 12 (.load false 1 (tT 11)),oO 13 (.conv .i64 (tT 12)),oM 2 13]) .ret)))
theorem ok131 : FnOk Tryz.prog 131 14 ir131 [.tmp 2] := Z7 mixed Tryz.func131 (by kernel_rfl) Tryz.ntmps131 (by kernel_rfl) (by kernel_rfl)
def ir136 : ACode := (sQ (.region [oO 2 (.mov kF)]) (sQ (.region [oM 3 0,oO 4 (.bin .geq .num (tT 3) (kI 1)),oM 5 4,oT 5 6 (.mov (tT 0)),oT 5 7 (.bin .leq .num (tT 6) (kI 63)),oO 8 (.pick (tT 5) (tT 7) kF),
 oM 2 8]) .ret))
theorem ok136 : FnOk Tryz.prog 136 9 ir136 [.tmp 2] := Z7 mixed Tryz.func136 (by kernel_rfl) Tryz.ntmps136 (by kernel_rfl) (by kernel_rfl)
def ir137 : ACode := (sQ (.region [oO 6 (.mov kF)]) (sQ (sQ (.region [oM 9 0,oO 10 (.len (tT 9)),oO 11 (.mov (kI 0))]) (.block 0 (.loop (sQ (.region [oO 12 (.bin .lss .num (tT 11) (tT 10))]) (sQ (.cond (tT 12) .skip (.exit 0)) (sQ (.block 1 (sQ (.region [oO 13 (.iaddr 2 (tT 9) (tT 11)),
 oO 14 (.load true 2 (tT 13)),oO 8 (.alloc [(.int .i64 0),(.int .i64 0)]),⟨none,.store 2 (tT 8) (tT 14),none⟩]) (sQ (.region [oO 15 (.iaddrA 2 1 (tT 8) (kI 0)),oO 16 (.load false 1 (tT 15)),oM 17 1,oO 18 (.bin .eql .num (tT 16) (tT 17)),
 oM 19 18,oT 19 20 (.iaddrA 2 1 (tT 8) (kI 1)),oT 19 21 (.load false 1 (tT 20)),oT 19 22 (.mov (tT 2)),oT 19 23 (.bin .eql .num (tT 21) (tT 22)),oO 24 (.pick (tT 19) (tT 23) kF)]) (.cond (tT 24) (sQ (.region [oO 6 (.mov kT)]) .ret) .skip)))) (.region [oO 25 (.bin .add .num (tT 11) (kI 1)),
 oM 11 25]))))))) (sQ (.region [oO 6 (.mov kF)]) .ret)))
theorem ok137 : FnOk Tryz.prog 137 26 ir137 [.tmp 6] := Z7 mixed Tryz.func137 (by kernel_rfl) Tryz.ntmps137 (by kernel_rfl) (by kernel_rfl)
def ir138 : ACode := (sQ (.region [oO 6 (.mov kF)]) (sQ (.region [oM 7 2,oO 8 (kC 136 [(tT 7)]),oM 9 8,oT 9 10 (.mov (tT 0)),oT 9 11 (.mov (tT 1)),oT 9 12 (kC 103 [(tT 10),(tT 11)]),oT 9 13 (.mov (tT 2)),
 oT 9 14 (.bin .shr .num (tT 12) (tT 13)),oT 9 15 (.bin .rem .num (tT 14) (.const (.int .u64 2))),oT 9 16 (.bin .eql .num (tT 15) (.const (.int .u64 1))),oO 17 (.pick (tT 9) (tT 16) kF),oM 6 17]) .ret))
theorem ok138 : FnOk Tryz.prog 138 18 ir138 [.tmp 6] := Z7 mixed Tryz.func138 (by kernel_rfl) Tryz.ntmps138 (by kernel_rfl) (by kernel_rfl)
def ir139 : ACode := (sQ (.region [oO 2 (.mov kF)]) (sQ (.region [oM 3 0,oO 4 (.bin .geq .num (tT 3) (kI 1)),oM 5 4,oT 5 6 (.mov (tT 0)),oT 5 7 (.bin .leq .num (tT 6) (kI 63)),oO 8 (.pick (tT 5) (tT 7) kF),
 oM 2 8]) .ret))
theorem ok139 : FnOk Tryz.prog 139 9 ir139 [.tmp 2] := Z7 mixed Tryz.func139 (by kernel_rfl) Tryz.ntmps139 (by kernel_rfl) (by kernel_rfl)
def ir140 : ACode := (sQ (.region [oO 6 (.mov (.const (.pointer none))),oO 7 (.mov (kI 0))]) (sQ (sQ (.region [oM 8 0,oO 9 (.bin .eql .ptr (tT 8) (.const (.pointer none)))]) (.cond (tT 9) (sQ (.region [oO 6 (.mov (.const (.pointer none))),
 oO 7 (.mov (kI 1))]) .ret) .skip)) (sQ (sQ (.region [oM 10 0,oM 11 1,oO 12 (kC 167 [(tT 10),(tT 11)]),oO 13 (.una .not (tT 12)),oM 14 13,oF 14 15 (.mov (tT 0)),oF 14 16 (.mov (tT 2)),oF 14 17 (kC 167 [(tT 15),
 (tT 16)]),oF 14 18 (.una .not (tT 17)),oO 19 (.pick (tT 14) kT (tT 18))]) (.cond (tT 19) (sQ (.region [oO 6 (.mov (.const (.pointer none))),oO 7 (.mov (kI 2))]) .ret) .skip)) (sQ (sQ (.region [oM 20 0,
 oO 21 (.nilck (tT 20)),oO 22 (.faddr 1 (tT 21)),oO 23 (.load false 1 (tT 22)),oM 24 1,oM 25 2,oO 26 (.build [(.int .i64 0),(.int .i64 0)] [(0,1,(tT 24)),(1,1,(tT 25))]),oO 27 (kC 168 [(tT 23),(tT 26)])]) (.cond (tT 27) (sQ (.region [oO 6 (.mov (.const (.pointer none))),
 oO 7 (.mov (kI 5))]) .ret) .skip)) (sQ (.draw [⟨0,oM 28 0,0,0,false⟩,⟨1,oO 29 (.nilck (tT 28)),1,0,false⟩,⟨2,oO 30 (.faddr 0 (tT 29)),3,0,false⟩,⟨3,oO 31 (.load false 1 (tT 30)),7,0,false⟩,⟨4,oM 32 0,0,
 0,false⟩,⟨5,oO 33 (kC 156 [(tT 32)]),16,0,false⟩,⟨6,oM 34 1,0,0,false⟩,⟨7,oM 35 2,0,0,false⟩,⟨8,oO 36 (.build [(.int .i64 0),(.int .i64 0)] [(0,1,(tT 34)),(1,1,(tT 35))]),192,0,false⟩,⟨9,oO 37 (.bslice [(.int .i64 0),
 (.int .i64 0)] 1 [(0,(tT 36))]),448,0,false⟩,⟨10,oO 38 (.append [(.int .i64 0),(.int .i64 0)] 16 (tT 33) (tT 37)),1008,2016,false⟩,⟨11,oO 39 (kC 90 [(tT 31),(tT 38)]),2047,1,false⟩,⟨12,oO 40 (.extract (tT 39) 0),
 4095,1,false⟩,⟨13,oO 41 (.extract (tT 39) 1),4095,1,false⟩,⟨14,oM 6 40,16383,1,false⟩,⟨15,oM 7 41,32767,1,false⟩]) .ret)))))
theorem ok140 : FnOk Tryz.prog 140 42 ir140 [.tmp 6, .tmp 7] := Z7 mixed Tryz.func140 (by kernel_rfl) Tryz.ntmps140 (by kernel_rfl) (by kernel_rfl)
def ir141 : ACode := (sQ (.region [oO 4 (.alloc [nS])]) (sQ (sQ (.region [oM 5 0,oO 6 (.bin .eql .ptr (tT 5) (.const (.pointer none))),oM 7 6,oF 7 8 (.mov (tT 1)),oF 7 9 (kC 139 [(tT 8)]),oF 7 10 (.una .not (tT 9)),
 oO 11 (.pick (tT 7) kT (tT 10))]) (.cond (tT 11) (sQ (.region [oO 12 (.build [nS] []),⟨none,.store 1 (tT 4) (tT 12),none⟩]) .ret) .skip)) (sQ (.region [oM 13 0,oO 14 (.nilck (tT 13)),oO 15 (.faddr 0 (tT 14)),
 oO 16 (.load false 1 (tT 15)),oM 17 1,oO 18 (kC 169 [(tT 16),(tT 17)]),oM 19 1,oO 20 (kC 37 [(tT 18),(tT 19)]),⟨none,.store 1 (tT 4) (tT 20),none⟩]) .ret)))
theorem ok141 : FnOk Tryz.prog 141 21 ir141 [.cell 4 true 1] := Z7 mixed Tryz.func141 (by kernel_rfl) Tryz.ntmps141 (by kernel_rfl) (by kernel_rfl)
def ir142 : ACode := (sQ (.region [oO 2 (.box (tT 0)),oO 3 (.box (tT 1)),oO 4 (.alloc [nS])]) (sQ (.region [oO 7 (.faddr 0 (tT 2)),oO 8 (.load false 1 (tT 7)),oO 9 (.len (tT 8)),oO 10 (.faddr 0 (tT 3)),
 oO 11 (.load false 1 (tT 10)),oO 12 (.len (tT 11)),oO 13 (.mn (tT 9) (tT 12)),oO 14 (.mslice [(.int .u64 0)] 8 (tT 13) (tT 13)),oM 5 14]) (sQ (sQ (.region [oM 15 5,oO 16 (.len (tT 15)),oO 17 (.mov (kI 0))]) (.block 0 (.loop (sQ (.region [oO 18 (.bin .lss .num (tT 17) (tT 16))]) (sQ (.cond (tT 18) .skip (.exit 0)) (sQ (.block 1 (sQ (.region [oM 19 17,
 oM 6 19]) (.draw [⟨0,oM 20 5,0,0,false⟩,⟨1,oM 21 6,0,0,false⟩,⟨2,oO 22 (.faddr 0 (tT 2)),0,0,false⟩,⟨3,oO 23 (.load false 1 (tT 22)),4,0,false⟩,⟨4,oM 24 6,0,0,false⟩,⟨5,oO 25 (.iaddr 1 (tT 23) (tT 24)),
 28,0,false⟩,⟨6,oO 26 (.load false 1 (tT 25)),60,0,false⟩,⟨7,oO 27 (.faddr 0 (tT 3)),0,0,false⟩,⟨8,oO 28 (.load false 1 (tT 27)),128,0,false⟩,⟨9,oM 29 6,0,0,false⟩,⟨10,oO 30 (.iaddr 1 (tT 28) (tT 29)),896,
 0,false⟩,⟨11,oO 31 (.load false 1 (tT 30)),1920,0,false⟩,⟨12,oO 32 (.bin .and .num (tT 26) (tT 31)),4092,1,false⟩,⟨13,oO 33 (.iaddr 1 (tT 20) (tT 21)),8191,1,false⟩,⟨14,⟨none,.store 1 (tT 33) (tT 32),none⟩,
 16383,1,false⟩]))) (.region [oO 34 (.bin .add .num (tT 17) (kI 1)),oM 17 34]))))))) (sQ (.region [oM 35 5,oO 36 (kC 77 [(tT 35)]),⟨none,.store 1 (tT 4) (tT 36),none⟩]) .ret))))
theorem ok142 : FnOk Tryz.prog 142 37 ir142 [.cell 4 true 1] := Z7 mixed Tryz.func142 (by kernel_rfl) Tryz.ntmps142 (by kernel_rfl) (by kernel_rfl)
set_option maxRecDepth 100000
def ir152 : ACode := (sQ (.region [oO 2 (.mov (kI 0))]) (sQ (sQ (.region [oM 3 0,oO 4 (.bin .geq .num (tT 3) (.const (.int .u64 4294967296)))]) (.cond (tT 4) (sQ (.region [oM 5 0,oO 6 (.bin .shr .num (tT 5) (.const (.int .u64 32))),
 oM 0 6]) (.region [oO 2 (.mov (kI 32))])) .skip)) (sQ (sQ (.region [oM 7 0,oO 8 (.bin .geq .num (tT 7) (.const (.int .u64 65536)))]) (.cond (tT 8) (sQ (.region [oM 9 0,oO 10 (.bin .shr .num (tT 9) (.const (.int .u64 16))),
 oM 0 10]) (.region [oM 11 2,oO 12 (.bin .add .num (tT 11) (kI 16)),oM 2 12])) .skip)) (sQ (sQ (.region [oM 13 0,oO 14 (.bin .geq .num (tT 13) (.const (.int .u64 256)))]) (.cond (tT 14) (sQ (.region [oM 15 0,
 oO 16 (.bin .shr .num (tT 15) (.const (.int .u64 8))),oM 0 16]) (.region [oM 17 2,oO 18 (.bin .add .num (tT 17) (kI 8)),oM 2 18])) .skip)) (sQ (.region [oM 19 2,oM 20 0,oO 21 (.conv .u8 (tT 20)),⟨(some 22),
 .indexS (.const (.string ⟨#[0,1,2,2,3,3,3,3,4,4,4,4,4,4,4,4,5,5,5,5,5,5,5,5,5,5,5,5,5,5,5,5,6,6,6,6,6,6,6,6,6,6,6,6,6,6,6,6,6,6,6,6,6,6,6,6,6,6,6,6,6,6,6,6,7,7,7,7,7,7,7,7,7,7,7,7,7,7,7,7,7,7,7,7,7,7,7,
 7,7,7,7,7,7,7,7,7,7,7,7,7,7,7,7,7,7,7,7,7,7,7,7,7,7,7,7,7,7,7,7,7,7,7,7,7,7,7,7,7,8,8,8,8,8,8,8,8,8,8,8,8,8,8,8,8,8,8,8,8,8,8,8,8,8,8,8,8,8,8,8,8,8,8,8,8,8,8,8,8,8,8,8,8,8,8,8,8,8,8,8,8,8,8,8,8,8,8,8,8,
 8,8,8,8,8,8,8,8,8,8,8,8,8,8,8,8,8,8,8,8,8,8,8,8,8,8,8,8,8,8,8,8,8,8,8,8,8,8,8,8,8,8,8,8,8,8,8,8,8,8,8,8,8,8,8,8,8,8,8,8,8,8,8,8,8,8,8,8]⟩)) (tT 21),none⟩,oO 23 (.conv .i64 (tT 22)),oO 24 (.bin .add .num (tT 19) (tT 23)),
 oM 2 24]) .ret)))))
theorem ok152 : FnOk Tryz.prog 152 25 ir152 [.tmp 2] := Z7 mixed Tryz.func152 (by kernel_rfl) Tryz.ntmps152 (by kernel_rfl) (by kernel_rfl)
def ir153 : ACode := (sQ (.region [oO 2 (.box (tT 0)),oO 4 (.mov kF)]) (sQ (.region [oO 8 (.load true 1 (tT 2)),oO 9 (kC 159 [(tT 8)]),oM 7 9,oO 10 (.extract (tT 7) 0),oO 11 (.extract (tT 7) 1),oM 5 10,
 oM 6 11]) (sQ (.region [oM 12 6,oM 13 12,oT 13 14 (.mov (tT 5)),oT 13 15 (.mov (tT 1)),oT 13 16 (.bin .gtr .num (tT 14) (tT 15)),oO 17 (.pick (tT 13) (tT 16) kF),oM 4 17]) .ret)))
theorem ok153 : FnOk Tryz.prog 153 18 ir153 [.tmp 4] := Z7 mixed Tryz.func153 (by kernel_rfl) Tryz.ntmps153 (by kernel_rfl) (by kernel_rfl)
def ir154 : ACode := (sQ (.region [oO 4 (.mov kF)]) (sQ (.region [oM 5 0,oM 6 1,oO 7 (kC 175 [(tT 5),(tT 6)]),oO 8 (.bin .geq .num (tT 7) (kI 0)),oM 4 8]) .ret))
theorem ok154 : FnOk Tryz.prog 154 9 ir154 [.tmp 4] := Z7 mixed Tryz.func154 (by kernel_rfl) Tryz.ntmps154 (by kernel_rfl) (by kernel_rfl)
def ir155 : ACode := (sQ (.region [oO 2 (.box (tT 0)),oO 3 (.mov kF)]) (sQ (.region [oO 4 (.load false 1 (tT 1)),oO 5 (.load true 2 (tT 2)),oO 6 (.call (tT 4) [(tT 5)]),oO 7 (.una .not (tT 6)),oM 3 7]) .ret))
theorem ok155 : FnOk Tryz.prog 155 8 ir155 [.tmp 3] := Z7 mixed Tryz.func155 (by kernel_rfl) Tryz.ntmps155 (by kernel_rfl) (by kernel_rfl)
def ir156 : ACode := (sQ (.region [oO 2 (.mov (.const nS))]) (sQ (sQ (.region [oM 3 0,oO 4 (.bin .eql .ptr (tT 3) (.const (.pointer none)))]) (.cond (tT 4) (sQ (.region [oO 2 (.mov (.const nS))]) .ret) .skip)) (sQ (.region [oM 5 0,
 oO 6 (.nilck (tT 5)),oO 7 (.faddr 1 (tT 6)),oO 8 (.load false 1 (tT 7)),oO 9 (kC 176 [(tT 8)]),oM 2 9]) .ret)))
theorem ok156 : FnOk Tryz.prog 156 10 ir156 [.tmp 2] := Z7 mixed Tryz.func156 (by kernel_rfl) Tryz.ntmps156 (by kernel_rfl) (by kernel_rfl)
def ir157 : ACode := (sQ (.region [oO 2 (.box (tT 0)),oO 3 (.mov kF)]) (sQ (.region [oO 4 (.load false 1 (tT 1)),oO 5 (.load true 2 (tT 2)),oO 6 (.call (tT 4) [(tT 5)]),oO 7 (.una .not (tT 6)),oM 3 7]) .ret))
theorem ok157 : FnOk Tryz.prog 157 8 ir157 [.tmp 3] := Z7 mixed Tryz.func157 (by kernel_rfl) Tryz.ntmps157 (by kernel_rfl) (by kernel_rfl)
def ir158 : ACode := (sQ (.region [oO 4 (.mov (kI 0))]) (sQ (sQ (.region [oM 6 0,oO 7 (.len (tT 6)),oO 8 (.mov (kI 0))]) (.block 0 (.loop (sQ (.region [oO 9 (.bin .lss .num (tT 8) (tT 7))]) (sQ (.cond (tT 9) .skip (.exit 0)) (sQ (.block 1 (sQ (.region [oM 10 8,
 oM 5 10]) (sQ (.region [oM 11 1,oM 12 0,oM 13 5,oO 14 (.iaddr 5 (tT 12) (tT 13)),oO 15 (.load true 5 (tT 14)),oO 16 (.call (tT 11) [(tT 15)])]) (.cond (tT 16) (sQ (.region [oM 17 5,oM 4 17]) .ret) .skip)))) (.region [oO 18 (.bin .add .num (tT 8) (kI 1)),
 oM 8 18]))))))) (sQ (.region [oO 4 (.mov (.const (.int .i64 (-1))))]) .ret)))
theorem ok158 : FnOk Tryz.prog 158 19 ir158 [.tmp 4] := Z7 mixed Tryz.func158 (by kernel_rfl) Tryz.ntmps158 (by kernel_rfl) (by kernel_rfl)
def ir159 : ACode := (sQ (.region [oO 1 (.box (tT 0)),oO 2 (.mov (kI 0)),oO 3 (.mov kF)]) (sQ (sQ (.region [oO 5 (.load true 1 (tT 1)),oO 6 (kC 79 [(tT 5)])]) (.cond (tT 6) (sQ (.region [oO 2 (.mov (kI 0)),
 oO 3 (.mov kF)]) .ret) .skip)) (sQ (.region [oO 7 (.faddr 0 (tT 1)),oO 8 (.load false 1 (tT 7)),oO 9 (.len (tT 8)),oO 10 (.bin .sub .num (tT 9) (kI 1)),oM 4 10]) (sQ (.region [oM 11 4,oO 12 (.bin .mul .num (kI 64) (tT 11)),
 oO 13 (.faddr 0 (tT 1)),oO 14 (.load false 1 (tT 13)),oM 15 4,oO 16 (.iaddr 1 (tT 14) (tT 15)),oO 17 (.load false 1 (tT 16)),oO 18 (kC 152 [(tT 17)]),oO 19 (.bin .add .num (tT 12) (tT 18)),oO 20 (.bin .sub .num (tT 19) (kI 1)),
 oM 2 20,oO 3 (.mov kT)]) .ret))))
theorem ok159 : FnOk Tryz.prog 159 21 ir159 [.tmp 2, .tmp 3] := Z7 mixed Tryz.func159 (by kernel_rfl) Tryz.ntmps159 (by kernel_rfl) (by kernel_rfl)
def ir162 : ACode := (sQ (.region [oO 4 (.mov (kI 0))]) (sQ (sQ (.region [oM 6 0,oO 7 (.len (tT 6)),oO 8 (.mov (kI 0))]) (.block 0 (.loop (sQ (.region [oO 9 (.bin .lss .num (tT 8) (tT 7))]) (sQ (.cond (tT 9) .skip (.exit 0)) (sQ (.block 1 (sQ (.region [oM 10 8,
 oM 5 10]) (sQ (.region [oM 11 1,oM 12 0,oM 13 5,oO 14 (.iaddr 1 (tT 12) (tT 13)),oO 15 (.load false 1 (tT 14)),oO 16 (.bin .eql .num (tT 11) (tT 15))]) (.cond (tT 16) (sQ (.region [oM 17 5,oM 4 17]) .ret) .skip)))) (.region [oO 18 (.bin .add .num (tT 8) (kI 1)),
 oM 8 18]))))))) (sQ (.region [oO 4 (.mov (.const (.int .i64 (-1))))]) .ret)))
theorem ok162 : FnOk Tryz.prog 162 19 ir162 [.tmp 4] := Z7 mixed Tryz.func162 (by kernel_rfl) Tryz.ntmps162 (by kernel_rfl) (by kernel_rfl)
def ir163 : ACode := (sQ (.region [oO 4 (.alloc [nS])]) (sQ (sQ (.region [oM 5 0,oM 6 1,oO 7 (kC 167 [(tT 5),(tT 6)]),oO 8 (.una .not (tT 7))]) (.cond (tT 8) (sQ (.region [oO 9 (.build [nS] []),⟨none,.store 1 (tT 4) (tT 9),
 none⟩]) .ret) .skip)) (sQ (.region [oM 10 0,oO 11 (.nilck (tT 10)),oO 12 (.faddr 3 (tT 11)),oO 13 (.load false 1 (tT 12)),oM 14 1,oO 15 (.iaddr 1 (tT 13) (tT 14)),oO 16 (.load true 1 (tT 15)),⟨none,.store 1 (tT 4) (tT 16),
 none⟩]) .ret)))
theorem ok163 : FnOk Tryz.prog 163 17 ir163 [.cell 4 true 1] := Z7 mixed Tryz.func163 (by kernel_rfl) Tryz.ntmps163 (by kernel_rfl) (by kernel_rfl)
def ir167 : ACode := (sQ (.region [oO 4 (.mov kF)]) (sQ (.region [oM 5 0,oO 6 (.bin .neq .ptr (tT 5) (.const (.pointer none))),oM 7 6,oT 7 8 (.mov (tT 1)),oT 7 9 (.bin .geq .num (tT 8) (kI 0)),oO 10 (.pick (tT 7) (tT 9) kF),
 oM 11 10,oT 11 12 (.mov (tT 1)),oT 11 13 (.mov (tT 0)),oT 11 14 (.nilck (tT 13)),oT 11 15 (.faddr 0 (tT 14)),oT 11 16 (.load false 1 (tT 15)),oT 11 17 (.bin .lss .num (tT 12) (tT 16)),oO 18 (.pick (tT 11) (tT 17) kF),
 oM 4 18]) .ret))
theorem ok167 : FnOk Tryz.prog 167 19 ir167 [.tmp 4] := Z7 mixed Tryz.func167 (by kernel_rfl) Tryz.ntmps167 (by kernel_rfl) (by kernel_rfl)
def ir168 : ACode := (sQ (.region [oO 3 (.box (tT 1)),oO 4 (.mov kF)]) (sQ (.region [oM 5 0,oO 6 (.load true 2 (tT 3)),oO 7 (kC 191 [(tT 5),(tT 6)]),oO 8 (.bin .geq .num (tT 7) (kI 0)),oM 4 8]) .ret))
theorem ok168 : FnOk Tryz.prog 168 9 ir168 [.tmp 4] := Z7 mixed Tryz.func168 (by kernel_rfl) Tryz.ntmps168 (by kernel_rfl) (by kernel_rfl)
def ir169 : ACode := (sQ (.region [oO 4 (.alloc [nS])]) (sQ (sQ (.region [oM 5 0,oM 6 1,oO 7 (kC 167 [(tT 5),(tT 6)]),oO 8 (.una .not (tT 7))]) (.cond (tT 8) (sQ (.region [oO 9 (.build [nS] []),⟨none,.store 1 (tT 4) (tT 9),
 none⟩]) .ret) .skip)) (sQ (.region [oM 10 0,oO 11 (.nilck (tT 10)),oO 12 (.faddr 2 (tT 11)),oO 13 (.load false 1 (tT 12)),oM 14 1,oO 15 (.iaddr 1 (tT 13) (tT 14)),oO 16 (.load true 1 (tT 15)),⟨none,.store 1 (tT 4) (tT 16),
 none⟩]) .ret)))
theorem ok169 : FnOk Tryz.prog 169 17 ir169 [.cell 4 true 1] := Z7 mixed Tryz.func169 (by kernel_rfl) Tryz.ntmps169 (by kernel_rfl) (by kernel_rfl)
def ir175 : ACode := (sQ (.region [oO 4 (.mov (kI 0))]) (sQ (sQ (.region [oM 6 0,oO 7 (.len (tT 6)),oO 8 (.mov (kI 0))]) (.block 0 (.loop (sQ (.region [oO 9 (.bin .lss .num (tT 8) (tT 7))]) (sQ (.cond (tT 9) .skip (.exit 0)) (sQ (.block 1 (sQ (.region [oM 10 8,
 oM 5 10]) (sQ (.region [oM 11 1,oM 12 0,oM 13 5,oO 14 (.iaddr 2 (tT 12) (tT 13)),oO 15 (.load true 2 (tT 14)),oO 16 (.call (tT 11) [(tT 15)])]) (.cond (tT 16) (sQ (.region [oM 17 5,oM 4 17]) .ret) .skip)))) (.region [oO 18 (.bin .add .num (tT 8) (kI 1)),
 oM 8 18]))))))) (sQ (.region [oO 4 (.mov (.const (.int .i64 (-1))))]) .ret)))
theorem ok175 : FnOk Tryz.prog 175 19 ir175 [.tmp 4] := Z7 mixed Tryz.func175 (by kernel_rfl) Tryz.ntmps175 (by kernel_rfl) (by kernel_rfl)
def ir176 : ACode := (sQ (.region [oO 2 (.mov (.const nS))]) (sQ (sQ (.region [oM 3 0,oO 4 (.isnil false (tT 3))]) (.cond (tT 4) (sQ (.region [oO 2 (.mov (.const nS))]) .ret) .skip)) (sQ (.region [oO 5 (.bslice [(.int .i64 0),
 (.int .i64 0)] 0 []),oM 6 0,oO 7 (.append [(.int .i64 0),(.int .i64 0)] 16 (tT 5) (tT 6)),oM 2 7]) .ret)))
theorem ok176 : FnOk Tryz.prog 176 8 ir176 [.tmp 2] := Z7 mixed Tryz.func176 (by kernel_rfl) Tryz.ntmps176 (by kernel_rfl) (by kernel_rfl)
def ir191 : ACode := (sQ (.region [oO 3 (.box (tT 1)),oO 4 (.mov (kI 0))]) (sQ (sQ (.region [oM 6 0,oO 7 (.len (tT 6)),oO 8 (.mov (kI 0))]) (.block 0 (.loop (sQ (.region [oO 9 (.bin .lss .num (tT 8) (tT 7))]) (sQ (.cond (tT 9) .skip (.exit 0)) (sQ (.block 1 (sQ (.region [oM 10 8,
 oM 5 10]) (sQ (.draw [⟨0,oO 11 (.load true 2 (tT 3)),0,0,false⟩,⟨1,oM 12 0,0,0,false⟩,⟨2,oM 13 5,0,0,false⟩,⟨3,oO 14 (.iaddr 2 (tT 12) (tT 13)),6,0,false⟩,⟨4,oO 15 (.load true 2 (tT 14)),14,0,false⟩,⟨5,
 oO 16 (.bin .eql (.cells [0,0]) (tT 11) (tT 15)),31,1,false⟩]) (.cond (tT 16) (sQ (.region [oM 17 5,oM 4 17]) .ret) .skip)))) (.region [oO 18 (.bin .add .num (tT 8) (kI 1)),oM 8 18]))))))) (sQ (.region [oO 4 (.mov (.const (.int .i64 (-1))))]) .ret)))
theorem ok191 : FnOk Tryz.prog 191 19 ir191 [.tmp 4] := Z7 mixed Tryz.func191 (by kernel_rfl) Tryz.ntmps191 (by kernel_rfl) (by kernel_rfl)
end Go.Proofs.YthgklpbcmbmmcaaGreatDoor
namespace Go.Proofs.YthgklpbcmbmmcaaGreatDoor
open Go.RowKit
attribute [local irreducible] aw opsK dK
def nums (l:List Int):List (List PV):=l.map fun x => [.val (.int .i64 x)]
def words (l:List Nat):List (List PV):=l.map fun (x:Nat) => [.val (.int .u64 (x:Int))]
def setP (l:List Nat):PV:=.agg [.vec (words l) false]
theorem Z2u {α:Type} (l:List α) (g:α→List PV) (hg:∀ x∈l,pureL (g x)):pureLL (l.map g):=by
 refine (Z1S _ _).2 fun p hp=>?_; obtain⟨x,hx,rfl⟩:=List.mem_map.1 hp; exact hg x hx
theorem Z32 (l:List Nat):(setP l).pure:=⟨Z2u _ _ fun _ _=>⟨trivial,trivial⟩,trivial⟩
theorem Z8 (l:List Nat):pureLL (words l):=Z2u _ _ fun _ _=>⟨trivial,trivial⟩
def IsTrim (l:List Nat) (r:PV):Prop:=∃ k,k≤l.length∧(∀ j,k≤j→l.getD j 0=0)∧(k=0 ∨ l.getD (k-1) 0≠0)∧r=setP (l.take k)
theorem Z7d (k:Nat) (h:k≤9223372036854775807):IntKind.i64.wrap (k:Int)=k:=IntWalk.i64_in _ ⟨by omega,by omega⟩
theorem Z45 (l:List Nat):Spec Tryz.prog 77 [.vec (words l) false] (IsTrim l):=by
 refine Z2 ok77 (Nat.le_of_ble_eq_true rfl) fun C hC=>?_
 refine Z3B (k:=0) rfl fun hmax=>?_
 have hlm:l.length≤maxVec:=by simpa [words] using hmax
 refine Zk ?_
 refine Z9 ?_
 refine go ?_
 refine Z3l (fun k=>k≤l.length∧∀ j,k≤j→l.getD j 0=0) id (fun k => [(0,.vec (words (l.take k)) false),(2,.ptr 0 0 0)]) l.length ⟨Nat.le_refl _,fun j hj=>by simp [List.getD_eq_getElem?_getD,hj]⟩ ⟨by rw [List.take_length]; rfl,rfl,trivial⟩ ?_
 rintro k ⟨hk,hzero⟩
 have hlen:(words (l.take k)).length=k:=by simp [words,hk]
 have hkm:k≤maxVec:=by omega
 (refine go ?_;repeat' (apply B<;>intro hb<;>try cases hb))
 · -- the last word
   have hpos:0<k:=by simpa [hlen] using hb
   have hsub:IntKind.i64.wrap (((words (l.take k)).length:Int)-1)=((k-1:Nat):Int):=by
    rw [hlen,show (k:Int)-1=((k-1:Nat):Int) by omega]; exact Z7d _ (by simp only [maxVec] at hkm;omega)
   refine Z6r (xs:=l.take k) rfl rfl (k-1) hsub (by simp;omega) rfl rfl ?_
   have hget : (l.take k)[k - 1]'(by simp;omega) = l.getD (k - 1) 0 := by
    simp [List.getD_eq_getElem?_getD,show k-1<l.length by omega]
   rw [hget]
   (refine go ?_;repeat' (apply B<;>intro hb<;>try cases hb))
   · refine Zem (xs := l.take k) rfl 0 (k - 1) rfl (by show some _ = some _; rw [hsub]) (by omega) (by simp; omega) (fun _ => rfl) rfl ?_
     (refine go ?_;repeat' (apply B<;>intro hb<;>try cases hb))
     refine⟨k-1,⟨by omega,fun j hj=>?_⟩,by simp; omega,rfl,rfl,⟨?_,rfl,trivial⟩⟩
     · by_cases hjk : j = k - 1
       · subst hjk; simpa using hb
       · exact hzero j (by omega)
     · show some (PV.vec (words (((l.take k).take (k - 1)).drop 0)) false) = _
       rw [List.drop_zero,List.take_take,Nat.min_eq_left (by omega)]
   · refine Z6 rfl (Z32 (l.take k)) ⟨k, hk, hzero, .inr ?_, rfl⟩
     intro h0
     rw [h0] at hb
     simp at hb
 · refine Z6 rfl (Z32 (l.take k)) ⟨k, hk, hzero, .inl ?_, rfl⟩
   simpa [hlen] using hb
theorem Z1h (l:List Nat) (k:Nat):Spec Tryz.prog 108 [setP l,.val (.int .i64 k)] (· = .val (.int .u64 (l.getD k 0:Nat))):=by
 refine Z2 ok108 (Nat.le_of_ble_eq_true rfl) fun C hC=>?_
 refine Zk ?_
 refine Z9 ?_
 refine Z4 rfl rfl rfl ?_
 (refine go ?_;repeat' (apply B<;>intro hb<;>try cases hb))
 · have hk : k < l.length := by simpa [words] using hb
   refine Z6r (xs:=l) rfl rfl k rfl hk rfl rfl ?_
   (refine go ?_;repeat' (apply B<;>intro hb<;>try cases hb))
   exact Z6 rfl trivial (by simp [List.getD_eq_getElem?_getD,hk])
 · have hk : l.length ≤ k := by simpa [words] using hb
   exact Z6 rfl trivial (by simp [List.getD_eq_getElem?_getD,hk,pvOf])
def ofW:List Nat→Nat
 | []=>0
 | x :: r=>x+18446744073709551616*ofW r
def Words (l:List Nat):Prop:=∀ x∈l,x<18446744073709551616
theorem Words.getD {l:List Nat} (h:Words l) (k:Nat):l.getD k 0<18446744073709551616:=by
 rw [List.getD_eq_getElem?_getD]
 cases hk:l[k]? with
 | none=>simp
 | some x=>exact h x (List.mem_of_getElem? hk)
theorem Z29:∀ {l:List Nat},Words l→∀ i,(ofW l).testBit i=(l.getD (i / 64) 0).testBit (i % 64)
 | [],_,i=>by simp [ofW]
 | x :: r, h, i => by
   have hx:x<2 ^ 64:=h x (by simp)
   have hr:Words r:=fun y hy=>h y (by simp [hy])
   have he:ofW (x :: r)=2 ^ 64*ofW r+x:=by simp only [ofW]; omega
   rw [he,Nat.testBit_two_pow_mul_add _ hx]
   by_cases hi:i<64
   · rw [if_pos hi,Nat.div_eq_of_lt hi,Nat.mod_eq_of_lt hi]; rfl
   · rw [if_neg hi, Z29 hr]
     have h1:i / 64=(i-64) / 64+1:=by omega
     have h2:(i-64) % 64=i % 64:=by omega
     rw [h1,h2]
     rfl
theorem Z5c:∀ {l:List Nat},(∀ j,l.getD j 0=0)→ofW l=0
 | [],_=>rfl
 | x :: r, h => by
   have h0:x=0:=h 0
   have hr:ofW r=0:=Z5c fun j=>h (j+1)
   simp [ofW,h0,hr]
theorem ZaA:∀ {l:List Nat} {k:Nat},(∀ j,k≤j→l.getD j 0=0)→ofW (l.take k)=ofW l
 | [],k,_=>by simp
 | x :: r,0,h=>by simp only [List.take_zero]; exact (Z5c fun j=>h j (Nat.zero_le _)).symm
 | x :: r, k + 1, h => by
   simp only [List.take_succ_cons,ofW]
   rw [ZaA (l:=r) (k:=k) fun j hj=>h (j+1) (by omega)]
def digs (N:Nat):List Nat:=if h:N=0 then [] else N % 18446744073709551616 :: digs (N / 18446744073709551616)
termination_by N
decreasing_by omega
theorem ZC:digs 0 = []:=by rw [digs]; simp
theorem Z3n {N:Nat} (h:N≠0):digs N=N % 18446744073709551616 :: digs (N / 18446744073709551616):=by rw [digs]; simp [h]
theorem Z2v (N:Nat):Words (digs N):=by
 induction N using Nat.strongRecOn with
 | _ N ih =>
   by_cases h:N=0
   · rw [h,ZC]; intro x hx; cases hx
   · rw [Z3n h]
     intro x hx
     rcases List.mem_cons.1 hx with rfl|hx
     · omega
     · exact ih _ (by omega) x hx
theorem Z5d (N:Nat):ofW (digs N)=N:=by
 induction N using Nat.strongRecOn with
 | _ N ih =>
   by_cases h:N=0
   · rw [h,ZC]; rfl
   · rw [Z3n h,ofW,ih _ (by omega)]; omega
def Canon (l:List Nat):Prop:=l.length=0 ∨ l.getD (l.length-1) 0≠0
theorem ZaB:∀ {l:List Nat},Words l→Canon l→digs (ofW l)=l
 | [],_,_=>by simp [ofW,ZC]
 | x :: r, h, hc => by
   have hx:x<18446744073709551616:=h x (by simp)
   have hr:Words r:=fun y hy=>h y (by simp [hy])
   have hcr:Canon r:=by
    cases r with
    | nil=>exact .inl rfl
    | cons y s => refine .inr ?_; rcases hc with hc | hc
                  · simp at hc
                  · simpa using hc
   have ih:=ZaB hr hcr
   have hne:ofW (x :: r)≠0:=by
    simp only [ofW]
    cases r with
    | nil => rcases hc with hc | hc
             · simp at hc
             · simp at hc; simp [ofW]; exact hc
    | cons y s =>
      have:ofW (y :: s)≠0:=fun h0=>by rw [h0,ZC] at ih; cases ih
      omega
   have h1:ofW (x :: r) % 18446744073709551616=x:=by simp only [ofW]; omega
   have h2:ofW (x :: r) / 18446744073709551616=ofW r:=by simp only [ofW]; omega
   rw [Z3n hne,h1,h2,ih]
def setN (N:Nat):PV:=setP (digs N)
theorem Z1 (N:Nat):(setN N).pure:=Z32 _
theorem ZaC {l:List Nat} (h:Words l) (hc:Canon l):setP l=setN (ofW l):=by rw [setN,ZaB h hc]
theorem IsTrim.set {l:List Nat} (hl:Words l) {r:PV} (h:IsTrim l r):r=setN (ofW l):=by
 obtain⟨k,hk,hz,hn,rfl⟩:=h
 rw [← ZaA hz]
 refine ZaC (fun x hx=>hl x (List.mem_of_mem_take hx)) ?_
 rcases hn with rfl|hn
 · exact .inl (by simp)
 · by_cases h0 : k = 0
   · subst h0; exact .inl (by simp)
   · refine .inr ?_
     have e:(l.take k).length=k:=by simp [hk]
     rw [e]
     simpa [List.getD_eq_getElem?_getD,List.getElem?_take,show k-1<k by omega] using hn
theorem Z8d (l:List Nat) (k v:Nat):(words l).set k [.val (.int .u64 (v:Int))]=words (l.set k v):=by simp [words,List.map_set]
theorem Words.set {l:List Nat} (h:Words l) (k:Nat) {v:Nat} (hv:v<18446744073709551616):Words (l.set k v):=fun x hx=>by
 rcases List.mem_or_eq_of_mem_set hx with hx|rfl
 · exact h x hx
 · exact hv
theorem Zfr {l:List Nat} (h:Words l) {k j:Nat} (hk:k<l.length) (hj:j<64):ofW (l.set k (l.getD k 0 ||| 2 ^ j))=ofW l ||| 2 ^ (64*k+j):=by
 have hv:l.getD k 0 ||| 2 ^ j<18446744073709551616:=Nat.or_lt_two_pow (n:=64) (h.getD k) (Nat.pow_lt_pow_right (by omega) hj)
 refine Nat.eq_of_testBit_eq fun i=>?_
 rw [Z29 (h.set k hv),Nat.testBit_or,Z29 h,Nat.testBit_two_pow]
 by_cases hik:i / 64=k
 · subst hik
   have:(l.set (i / 64) (l.getD (i / 64) 0 ||| 2 ^ j)).getD (i / 64) 0=l.getD (i / 64) 0 ||| 2 ^ j:=by simp [List.getD_eq_getElem?_getD,hk]
   rw [this,Nat.testBit_or,Nat.testBit_two_pow]
   congr 1
   rw [decide_eq_decide]
   omega
 · have : (l.set k (l.getD k 0 ||| 2 ^ j)).getD (i / 64) 0 = l.getD (i / 64) 0 := by
    simp only [List.getD_eq_getElem?_getD,List.getElem?_set,if_neg (Ne.symm hik)]
   rw [this]
   have:¬ (64*k+j=i):=by omega
   simp [this]
def maskTo (top:Int) (l:List Int):Nat:=l.foldl (fun acc i=>if 0≤i∧i≤top then acc ||| 2 ^ i.toNat else acc) 0
def topOf (l:List Int):Int:=l.foldl (fun t i=>if i≤4095 then (if i>t then i else t) else t) (-1)
theorem Z6v {l:List Int} {i:Nat} (hi:i<l.length):topOf (l.take (i+1))=if l[i]≤4095 then (if l[i]>topOf (l.take i) then l[i] else topOf (l.take i)) else topOf (l.take i):=by
 simp only [topOf,List.take_add_one,List.getElem?_eq_getElem hi,Option.toList_some,List.foldl_append,List.foldl_cons,List.foldl_nil]
 rfl
theorem topOf_take' {l:List Int} {i:Nat} (hi:i<l.length) (h:l[i]≤4095):topOf (l.take (i+1))=if l[i]>topOf (l.take i) then l[i] else topOf (l.take i):=by rw [Z6v hi,if_pos h]
theorem Z9g {l:List Int} {i:Nat} (hi:i<l.length) (h:¬ l[i]≤4095):topOf (l.take (i+1))=topOf (l.take i):=by rw [Z6v hi,if_neg h]
theorem Z5w {t:Int} {l:List Int} {i:Nat} (hi:i<l.length):maskTo t (l.take (i+1))=if 0≤l[i]∧l[i]≤t then maskTo t (l.take i) ||| 2 ^ l[i].toNat else maskTo t (l.take i):=by
 simp only [maskTo,List.take_add_one,List.getElem?_eq_getElem hi,Option.toList_some,List.foldl_append,List.foldl_cons,List.foldl_nil]
theorem Z9h:∀ (l:List Int),-1≤topOf l∧topOf l≤4095:=by
 intro l
 have:∀ (l:List Int) (t:Int),-1≤t→t≤4095 → -1≤l.foldl (fun t i=>if i≤4095 then (if i>t then i else t) else t) t∧l.foldl (fun t i=>if i≤4095 then (if i>t then i else t) else t) t≤4095:=by
  intro l
  induction l with
  | nil=>intro t h1 h2; exact⟨h1,h2⟩
  | cons x r ih =>
    intro t h1 h2
    simp only [List.foldl_cons]
    refine ih _ ?_ ?_
    · split
      · split<;>omega
      · exact h1
    · split
      · split<;>omega
      · exact h2
 exact this l (-1) (by omega) (by omega)
theorem Zbw {t:Int} {l:List Int} (h:t<0):maskTo t l=0:=by
 have:∀ (l:List Int) (a:Nat),l.foldl (fun acc i=>if 0≤i∧i≤t then acc ||| 2 ^ i.toNat else acc) a=a:=by
  intro l
  induction l with
  | nil=>intro a; rfl
  | cons x r ih=>intro a; simp only [List.foldl_cons]; rw [if_neg (by omega)]; exact ih a
 exact this l 0
theorem Zr (l:List Int):pureLL (nums l):=Z2u _ _ fun _ _=>⟨trivial,trivial⟩
theorem Z46 (l:List Int) (D:Nat→Prop):innLL D (nums l):=Zi (fun _ h=>h.elim) _ (Zr l)
theorem Zg (l:List Nat) (D:Nat→Prop):innLL D (words l):=Zi (fun _ h=>h.elim) _ (Z8 l)
set_option maxHeartbeats 1000000 in
theorem ZcN (l:List Int) (fl:Bool):Spec Tryz.prog 38 [.vec (nums l) fl] (· = setN (maskTo (topOf l) l)):=by
 refine Z2 ok38 (Nat.le_of_ble_eq_true rfl) fun C hC=>?_
 refine Z3B (k:=0) rfl fun hmax=>?_
 have hlm:l.length≤maxVec:=by simpa [nums] using hmax
 have hnl:(nums l).length=l.length:=by simp [nums]
 refine go ?_
 refine Z3l (fun i=>i≤l.length) (fun i=>l.length-i) (fun i => [(0,.vec (nums l) fl),(2,.ptr 0 0 0),(3,.val (.int .i64 (topOf (l.take i)))),(9,.vec (nums l) fl),(10,.val (.int .i64 (l.length:Int))),(11,.val (.int .i64 (i:Int)))]) 0 (Nat.zero_le _) ⟨rfl,rfl,rfl,rfl,by rw [← hnl]; rfl,rfl,trivial⟩ ?_
 intro i hi
 have hinc:IntKind.i64.wrap ((i:Int)+1)=((i+1:Nat):Int):=IntWalk.i64_in _ ⟨by omega,by simp only [maxVec] at hlm; omega⟩
 (refine go ?_;repeat' (apply B<;>intro hb<;>try cases hb))
 · have hil : i < l.length := by simpa using hb
   refine Z3 (Zn (xs:=l) rfl rfl i rfl hil rfl) rfl rfl ?_
   (refine go ?_;repeat' (apply B<;>intro hb<;>try cases hb))
   · refine ⟨i + 1, by omega, by omega, rfl, rfl, ⟨rfl, rfl, ?_, rfl, rfl, by show some _ = some _; rw [hinc], trivial⟩⟩
     rw [topOf_take' hil (by simpa using hb)]; rfl
   · refine ⟨i + 1, by omega, by omega, rfl, rfl, ⟨rfl, rfl, ?_, rfl, rfl, by show some _ = some _; rw [hinc], trivial⟩⟩
     rw [Z9g hil (by simpa using hb)]; rfl
 · -- no member
   rename_i hb2
   have hil:i=l.length:=by simp at hb2; omega
   subst hil
   refine Z1b rfl ⟨trivial,trivial⟩ ?_
   rw [List.take_length] at hb
   have hlt:topOf l<0:=by simpa using hb
   rw [Zbw hlt,setN,ZC]
   rfl
 · rename_i hb2
   have hil:i=l.length:=by simp at hb2; omega
   subst hil
   rw [List.take_length] at hb ⊢
   have hge:0≤topOf l:=by simpa using hb
   obtain⟨t,ht⟩:∃ t:Nat,topOf l=t:=⟨(topOf l).toNat,by omega⟩
   have htr:=(Z9h l).2
   rw [ht] at htr ⊢
   have hq:IntKind.i64.wrap ((t:Int).tdiv 64)=((t / 64:Nat):Int):=by
    rw [IntWalk.i64_quo _ _ ⟨by omega,by omega,by omega⟩]; omega
   have hq1:IntKind.i64.wrap (((t / 64:Nat):Int)+1)=((t / 64+1:Nat):Int):=IntWalk.i64_in _ ⟨by omega,by omega⟩
   rw [hq,hq1]
   refine ZA (Zax (a:=t / 64+1) (b:=t / 64+1) rfl rfl (Nat.le_refl _) (by omega)) rfl rfl ?_
   have hrep:List.replicate (t / 64+1) (zpv [Value.int .u64 0])=words (List.replicate (t / 64+1) 0):=by simp [words,zpv,pvOf]
   rw [hrep]
   refine go ?_
   refine ZH hC (fun (x:Nat×List Nat)=>x.1≤l.length∧x.2.length=t / 64+1∧Words x.2∧ofW x.2=maskTo t (l.take x.1)) (fun x=>l.length-x.1) 2 (fun x => [(2,.ptr 0 0 0),(3,.val (.int .i64 (t:Int))),(6,.own 1),(28,.vec (nums l) fl),(29,.val (.int .i64 (l.length:Int))),(30,.val (.int .i64 (x.1:Int)))])
    (fun x => [(0,⟨1,[[.vec [] true]]⟩),(1,⟨1,words x.2⟩)]) (by omega) (0,List.replicate (t / 64+1) 0) ⟨Nat.zero_le _,by simp,fun x hx=>by obtain rfl:=List.eq_of_mem_replicate hx; omega,?_⟩ ⟨⟨rfl,show (0:Nat)<2 by decide⟩,⟨rfl,trivial⟩,⟨rfl,show (1:Nat)<2 by decide⟩,⟨rfl,Z46 _ _⟩,⟨by rw [← hnl]; rfl,trivial⟩,⟨rfl,trivial⟩,trivial⟩
    ⟨⟨by omega,rfl,⟨trivial,trivial⟩,trivial⟩,⟨by omega,rfl,Zg _ _⟩,trivial⟩ ?_
   · rw [Z5c fun j=>by simp [List.getD_eq_getElem?_getD,List.getElem?_replicate]; split<;>rfl]; rfl
   rintro⟨i,ws⟩ ⟨hi,hwl,hww,hmask⟩
   simp only at hi hwl hww hmask
   have hinc:IntKind.i64.wrap ((i:Int)+1)=((i+1:Nat):Int):=IntWalk.i64_in _ ⟨by omega,by simp only [maxVec] at hlm; omega⟩
   (refine go ?_;repeat' (apply B<;>intro hb<;>try cases hb))
   · have hil : i < l.length := by simpa using hb
     refine Z3 (Zn (xs:=l) rfl rfl i rfl hil rfl) rfl rfl ?_
     (refine go ?_;repeat' (apply B<;>intro hb<;>try cases hb))
     · have h0 : 0 ≤ l[i] := by rename_i h0; simpa using h0
       have h1:l[i]≤(t:Int):=by simpa using hb
       have hm:maskTo t (l.take (i+1))=maskTo t (l.take i) ||| 2 ^ l[i].toNat:=by rw [Z5w hil,if_pos ⟨h0,h1⟩]
       obtain⟨j,hj⟩:∃ j:Nat,l[i]=j:=⟨l[i].toNat,by omega⟩
       rw [hj] at h1 hm ⊢
       rw [Int.toNat_natCast] at hm
       have hjq:IntKind.i64.wrap ((j:Int).tdiv 64)=((j / 64:Nat):Int):=by
        rw [IntWalk.i64_quo _ _ ⟨by omega,by omega,by omega⟩]; omega
       have hjr:(j:Int).tmod 64=((j % 64:Nat):Int):=by
        rw [Int.tmod_eq_emod_of_nonneg (by omega)]; omega
       rw [hjq]
       have hjl:j / 64<ws.length:=by omega
       have hel:(words ws).getD (j / 64) [] = [.val (.int .u64 (ws.getD (j / 64) 0:Nat))]:=by simp [words,List.getD_eq_getElem?_getD,hjl]
       have hj64:j % 64<64:=Nat.mod_lt _ (by omega)
       have hwn:(words ws).length=ws.length:=by simp [words]
       refine Zt (ZL rfl rfl rfl (j / 64) rfl (by rw [hwn]; exact hjl) rfl) rfl rfl ?_
       refine Zt (Z2T rfl rfl (by rw [hwn]; exact hjl) (by rw [hel]; rfl)) rfl rfl ?_
       (first|refine st ?_|(apply B<;>intro hb<;>try cases hb))
       refine Zt (Z40 rfl hjr) rfl rfl ?_
       refine Zt (ZcG rfl rfl (by omega) (v:=((2 ^ (j % 64):Nat):Int)) (by
        rw [show min (((j % 64:Nat):Int)).toNat IntKind.u64.bits=j % 64 by simp [IntKind.bits]; omega]
        have:2 ^ (j % 64)<2 ^ 64:=Nat.pow_lt_pow_right (by omega) hj64
        rw [Int.one_mul,show (2:Int) ^ (j % 64)=((2 ^ (j % 64):Nat):Int) by simp]
        exact IntWalk.u64_in _ ⟨Int.natCast_nonneg _,Int.ofNat_le.2 (show _≤18446744073709551615 by omega)⟩)) rfl rfl ?_
       refine Zt (Z40 rfl (bits_or_u64_nat _ _ (hww.getD _) (show 2 ^ (j % 64)<2 ^ 64 from Nat.pow_lt_pow_right (by omega) hj64))) rfl rfl ?_
       refine Zt (ZL rfl rfl rfl (j / 64) rfl (by rw [hwn]; exact hjl) rfl) rfl rfl ?_
       refine Zt (Z2H rfl rfl rfl rfl rfl (by rw [hwn]; exact hjl) (Nat.le_refl _)) rfl rfl ?_
       rw [hel,show setAt [PV.val (Value.int .u64 (ws.getD (j / 64) 0:Nat))] 0 (PV.val (Value.int .u64 ((ws.getD (j / 64) 0 ||| 2 ^ (j % 64):Nat):Int))).cells = [.val (.int .u64 ((ws.getD (j / 64) 0 ||| 2 ^ (j % 64):Nat):Int))] from rfl]
       simp only
       rw [Z8d]
       (refine go ?_;repeat' (apply B<;>intro hb<;>try cases hb))
       refine⟨(i+1,ws.set (j / 64) (ws.getD (j / 64) 0 ||| 2 ^ (j % 64))),⟨by simp only; omega,by simpa using hwl,hww.set _ (Nat.or_lt_two_pow (n:=64) (hww.getD _) (Nat.pow_lt_pow_right (a:=2) (by omega) hj64)),?_⟩,by simp only; omega,⟨⟨rfl,show (0:Nat)<2 by decide⟩,⟨rfl,trivial⟩,⟨rfl,show (1:Nat)<2 by decide⟩,⟨rfl,Z46 _ _⟩,⟨rfl,trivial⟩,⟨by show some _=some _; rw [hinc],trivial⟩,trivial⟩,⟨⟨by omega,rfl,⟨trivial,trivial⟩,trivial⟩,⟨by omega,rfl,Zg _ _⟩,trivial⟩⟩
       simp only
       rw [Zfr hww hjl hj64,hm,hmask,show 64*(j / 64)+j % 64=j by omega]
     all_goals
      refine⟨(i+1,ws),⟨by simp only; omega,hwl,hww,?_⟩,by simp only; omega,⟨⟨rfl,show (0:Nat)<2 by decide⟩,⟨rfl,trivial⟩,⟨rfl,show (1:Nat)<2 by decide⟩,⟨rfl,Z46 _ _⟩,⟨rfl,trivial⟩,⟨by show some _=some _; rw [hinc],trivial⟩,trivial⟩,⟨⟨by omega,rfl,⟨trivial,trivial⟩,trivial⟩,⟨by omega,rfl,Zg _ _⟩,trivial⟩⟩
      simp only
      rw [Z5w hil,if_neg (by simp at hb;omega)]
      exact hmask
   · have hil : i = l.length := by simp at hb; omega
     subst hil
     refine Za (Zo (k:=52) rfl rfl (Z8 ws)) ?_
     refine ZF rfl rfl (Z45 ws) ⟨Z8 ws,trivial⟩ rfl fun r hr=>?_
     obtain rfl:=hr.set hww
     refine go ?_
     exact Z6 (r:=setN (ofW ws)) rfl (Z1 _) (by rw [hmask,List.take_length])
theorem Z7e (a k:Nat):Int.fdiv (a:Int) (2 ^ k)=((a / 2 ^ k:Nat):Int):=by
 rw [Int.fdiv_eq_ediv_of_nonneg _ (by exact Int.le_of_lt (Int.pow_pos (by omega)))]
 simp
theorem ZaD (l:List Nat) (hl:Words l) (i:Int):Spec Tryz.prog 64 [setP l,.val (.int .i64 i)] (· = .val (.bool (decide (0≤i∧i≤4095)&&(l.getD (i.toNat / 64) 0).testBit (i.toNat % 64)))):=by
 refine Z2 ok64 (Nat.le_of_ble_eq_true rfl) fun C hC=>?_
 refine Zk ?_
 refine Z9 ?_
 refine Z4 rfl rfl rfl ?_
 (refine go ?_;repeat' (apply B<;>intro hb<;>try cases hb))
 · rename_i h0
   have h1:0≤i:=by simpa using h0
   have h2:i≤4095:=by simpa using hb
   obtain⟨j,rfl⟩:∃ j:Nat,i=j:=⟨i.toNat,by omega⟩
   have hq:IntKind.i64.wrap ((j:Int).tdiv 64)=((j / 64:Nat):Int):=by
    rw [IntWalk.i64_quo _ _ ⟨by omega,by omega,by omega⟩]; omega
   have hr:(j:Int).tmod 64=((j % 64:Nat):Int):=by
    rw [Int.tmod_eq_emod_of_nonneg (by omega)]; omega
   refine Z5 (Z1h l (j / 64)) rfl rfl (by show [_,_]=_; rw [hq]; rfl) ⟨Z32 l,trivial,trivial⟩ rfl ?_
   refine Zq rfl ?_
   (first|refine st ?_|(apply B<;>intro hb<;>try cases hb))
   refine Zq rfl ?_
   refine Zv rfl rfl rfl hr ?_
   refine Zq rfl ?_
   have hw:=hl.getD (j / 64)
   have hm:j % 64<64:=Nat.mod_lt _ (by omega)
   refine Zaw rfl rfl (by omega) (v:=((l.getD (j / 64) 0 / 2 ^ (j % 64):Nat):Int)) (by
    rw [show min (((j % 64:Nat):Int)).toNat IntKind.u64.bits=j % 64 by simp [IntKind.bits]; omega]
    exact Z7e _ _) rfl ?_
   refine Zq rfl ?_
   refine Zv rfl rfl rfl (and_one_u64 _ (Int.natCast_nonneg _) (by
    have:=Nat.div_le_self (l.getD (j / 64) 0) (2 ^ (j % 64))
    exact Int.ofNat_le.2 (show _≤18446744073709551615 by omega))) ?_
   have ht:(((l.getD (j / 64) 0 / 2 ^ (j % 64):Nat):Int) % 2 == 1)=(l.getD (j / 64) 0).testBit (j % 64):=by
    rw [Nat.testBit_eq_decide_div_mod_eq,Bool.eq_iff_iff]
    generalize l.getD (j / 64) 0 / 2 ^ (j % 64)=z
    simp only [beq_iff_eq,decide_eq_true_eq]
    omega
   have ht':(decide (0≤(j:Int)∧(j:Int)≤4095)&&(l.getD ((j:Int).toNat / 64) 0).testBit ((j:Int).toNat % 64))=(l.getD (j / 64) 0).testBit (j % 64):=by
    simp only [Int.toNat_natCast,decide_eq_true (show 0≤(j:Int)∧(j:Int)≤4095 from ⟨h1,h2⟩),Bool.true_and]
   rw [ht',← ht]
   refine Zq rfl ?_
   generalize (((l.getD (j / 64) 0 / 2 ^ (j % 64):Nat):Int) % 2)=z
   (refine go ?_;repeat' (apply B<;>intro hb<;>try cases hb))
   all_goals exact Z6 rfl trivial (by rw [hb])
 · exact Z6 rfl trivial (by simp at hb ⊢;omega)
 · exact Z6 rfl trivial (by simp at hb ⊢;omega)
def rep (c:Nat):Nat→Nat
 | 0=>0
 | n+1=>c+256*rep c n
def s1 (m x:Nat):Nat:=(x / 2 &&& m)+(x &&& m)
def s2 (m x:Nat):Nat:=(x / 4 &&& m)+(x &&& m)
def s3 (m x:Nat):Nat:=(x / 16+x) &&& m
theorem Z9i (l:List Int):(nums l).length=l.length:=by simp [nums]
theorem ZcO (N:Nat) (r:Int) (h1:0≤r) (h2:r≤4095):Spec Tryz.prog 64 [.agg [.vec (words (digs N)) false],.val (.int .i64 r)] (· = .val (.bool (N.testBit r.toNat))):=by
 have h:=ZaD (digs N) (Z2v N) r
 rw [decide_eq_true (⟨h1,h2⟩:0≤r∧r≤4095),Bool.true_and,← Z29 (Z2v N),Z5d] at h
 exact h
theorem Z5x (N j:Nat):((((N / 2 ^ j % 2:Nat):Int)) == 1)=N.testBit j:=by
 rw [Nat.testBit_eq_decide_div_mod_eq,Bool.eq_iff_iff]
 simp only [beq_iff_eq,decide_eq_true_eq]
 omega
theorem Z3E (N j:Nat) (h:j<64):Int.fdiv (N:Int) (2 ^ (min ((j:Nat):Int).toNat IntKind.u64.bits))=((N / 2 ^ j:Nat):Int):=by
 rw [show min (((j:Nat):Int)).toNat IntKind.u64.bits=j by simp [IntKind.bits]; omega]
 exact Z7e _ _
theorem Z2I (N j:Nat):(((N / 2 ^ j:Nat):Int)).tmod 2=((N / 2 ^ j % 2:Nat):Int):=by
 generalize N / 2 ^ j=z
 rw [Int.tmod_eq_emod_of_nonneg (by omega)]; omega
theorem Zbx (N:Nat):Canon (digs N):=by
 induction N using Nat.strongRecOn with
 | _ N ih =>
   by_cases h:N=0
   · rw [h,ZC]; exact .inl rfl
   · rw [Z3n h]
     refine .inr ?_
     have:=ih (N / 18446744073709551616) (by omega)
     cases hd:digs (N / 18446744073709551616) with
     | nil =>
       have h0:=Z5d (N / 18446744073709551616)
       rw [hd] at h0
       simp only [ofW] at h0
       simp
       omega
     | cons y s =>
       rw [hd] at this
       rcases this with h|h
       · simp at h
       · simpa using h
theorem ZcP:∀ (l:List Nat) (k:Nat),ofW (l++List.replicate k 0)=ofW l
 | [], k => by
   rw [List.nil_append]
   exact Z5c fun j=>by rw [List.getD_eq_getElem?_getD,List.getElem?_replicate]; split<;>rfl
 | x :: r,k=>by simp only [List.cons_append,ofW,ZcP r k]
theorem ZcQ (x j:Nat):x ||| 2 ^ j≠0:=fun h=>by
 have:=congrArg (fun z=>Nat.testBit z j) h
 simp [Nat.testBit_or] at this
theorem Zby (N i:Nat) (h:i≤4095) (L:Nat) (hL:L=max (digs N).length (i / 64+1)) :
 let l:=digs N++List.replicate (L-(digs N).length) 0
 Words l∧l.length=L∧i / 64<l.length∧∃ v,v=l.getD (i / 64) 0 ||| 2 ^ (i % 64)∧setP (l.set (i / 64) v)=setN (N ||| 2 ^ i):=by
 intro l
 have hw:Words l:=fun x hx=>by
  rcases List.mem_append.1 hx with hx|hx
  · exact Z2v N x hx
  · rw [List.eq_of_mem_replicate hx]; omega
 have hl:l.length=L:=by simp [l]; omega
 have hi:i / 64<l.length:=by omega
 refine⟨hw,hl,hi,_,rfl,?_⟩
 have hm:i % 64<64:=Nat.mod_lt _ (by omega)
 have hv:l.getD (i / 64) 0 ||| 2 ^ (i % 64)<18446744073709551616:=Nat.or_lt_two_pow (n:=64) (hw.getD _) (Nat.pow_lt_pow_right (by omega) hm)
 have hc:Canon (l.set (i / 64) (l.getD (i / 64) 0 ||| 2 ^ (i % 64))):=by
  refine .inr ?_
  rw [List.length_set,hl]
  by_cases he:L-1=i / 64
  · rw [he, List.getD_eq_getElem?_getD, List.getElem?_set]
    simp only [if_pos hi,if_true,Option.getD_some]
    exact ZcQ _ _
  · have hLd : L = (digs N).length := by omega
    rw [List.getD_eq_getElem?_getD,List.getElem?_set,if_neg (Ne.symm he),← List.getD_eq_getElem?_getD]
    have hl2:l=digs N:=by simp [l,hLd]
    rw [hl2,hLd]
    rcases Zbx N with h0|h0
    · omega
    · exact h0
 rw [ZaC (hw.set _ hv) hc,Zfr hw hi hm,ZcP,Z5d,show 64*(i / 64)+i % 64=i by omega]
def withN (N:Nat) (i:Int):Nat:=if 0≤i∧i≤4095 then N ||| 2 ^ i.toNat else N
theorem ZcR {N i:Nat} (h:N.testBit i=true):N ||| 2 ^ i=N:=by
 refine Nat.eq_of_testBit_eq fun j=>?_
 rw [Nat.testBit_or,Nat.testBit_two_pow]
 by_cases hj:i=j
 · subst hj; simp [h]
 · simp [hj]
set_option maxHeartbeats 1000000 in
theorem Z33 (N:Nat) (hN:(digs N).length≤64) (i:Int):Spec Tryz.prog 37 [setN N,.val (.int .i64 i)] (· = setN (withN N i)):=by
 refine Z2 ok37 (Nat.le_of_ble_eq_true rfl) fun C hC=>?_
 refine Zk ?_
 refine Z9 ?_
 refine Z4 rfl rfl rfl ?_
 (refine go ?_;repeat' (apply B<;>intro hb<;>try cases hb))
 · refine Z6 rfl (Z1 N) ?_
   rw [withN,if_neg (by simp at hb;omega)]; rfl
 · refine Z6 rfl (Z1 N) ?_
   rw [withN,if_neg (by simp at hb;omega)]; rfl
 rename_i h0
 have h1:0≤i:=by simp at h0; omega
 have h2:i≤4095:=by simp at hb; omega
 obtain⟨j,rfl⟩:∃ j:Nat,i=j:=⟨i.toNat,by omega⟩
 rw [withN,if_pos ⟨h1,h2⟩,Int.toNat_natCast]
 have hs:=ZcO N j h1 h2
 rw [Int.toNat_natCast] at hs
 refine Z5 hs rfl rfl rfl ⟨⟨Z8 _,trivial⟩,trivial,trivial⟩ rfl ?_
 cases ht:N.testBit j with
 | true =>
   refine go ?_
   refine Z6 rfl (Z1 N) ?_
   rw [ZcR ht]; rfl
 | false =>
   have hdl:(words (digs N)).length=(digs N).length:=by simp [words]
   obtain⟨hw,hl,hi,v,hv,hset⟩:=Zby N j (by omega) _ rfl
   have hq:IntKind.i64.wrap ((j:Int).tdiv 64)=((j / 64:Nat):Int):=by
    rw [IntWalk.i64_quo _ _ ⟨by omega,by omega,by omega⟩]; omega
   have hr:(j:Int).tmod 64=((j % 64:Nat):Int):=by
    rw [Int.tmod_eq_emod_of_nonneg (by omega)]; omega
   have hq1:IntKind.i64.wrap (((j / 64:Nat):Int)+1)=((j / 64+1:Nat):Int):=IntWalk.i64_in _ ⟨by omega,by omega⟩
   have hmax:(if ((j / 64+1:Nat):Int)>(((words (digs N)).length:Nat):Int) then ((j / 64+1:Nat):Int) else (((words (digs N)).length:Nat):Int))=((max (digs N).length (j / 64+1):Nat):Int):=by
    rw [hdl]; split<;>omega
   generalize max (digs N).length (j / 64+1)=L at *
   refine go ?_
   rw [hq,hq1,hmax]
   refine ZA (Zax (a:=L) (b:=L) rfl rfl (Nat.le_refl _) (by omega)) rfl rfl ?_
   have hrep:List.replicate L (zpv [Value.int .u64 0])=words (List.replicate L 0):=by simp [words,zpv,pvOf]
   rw [hrep]
   have hcopy:(words (digs N)).take (words (List.replicate L 0)).length++(words (List.replicate L 0)).drop (words (digs N)).length=words (digs N++List.replicate (L-(digs N).length) 0):=by
    have hle:(digs N).length≤L:=by omega
    have e1:(words (List.replicate L 0)).length=L:=by simp [words]
    rw [e1,List.take_of_length_le (by rw [hdl]; exact hle),hdl]
    simp [words,List.map_append,List.drop_replicate]
   have hwl:∀ c∈words (digs N),c.length=1:=fun c hc=>by obtain⟨x,_,rfl⟩:=List.mem_map.1 hc; rfl
   iterate 7 (first|refine st ?_|(apply B<;>intro hb<;>try cases hb))
   refine Z3 (Zgr (k:=1) rfl rfl rfl hwl rfl) rfl rfl ?_
   simp only
   rw [hcopy]
   generalize digs N++List.replicate (L-(digs N).length) 0=ws at *
   have hm64:j % 64<64:=Nat.mod_lt _ (by omega)
   have hwn:(words ws).length=ws.length:=by simp [words]
   have hel:(words ws).getD (j / 64) [] = [.val (.int .u64 (ws.getD (j / 64) 0:Nat))]:=by simp [words,List.getD_eq_getElem?_getD,hi]
   refine go ?_
   rw [hq]
   refine Zt (ZL rfl rfl rfl (j / 64) rfl (by rw [hwn]; exact hi) rfl) rfl rfl ?_
   refine Zt (Z2T rfl rfl (by rw [hwn]; exact hi) (by rw [hel]; rfl)) rfl rfl ?_
   (first|refine st ?_|(apply B<;>intro hb<;>try cases hb))
   refine Zt (Z40 rfl hr) rfl rfl ?_
   refine Zt (ZcG rfl rfl (by omega) (v:=((2 ^ (j % 64):Nat):Int)) (by
    rw [show min (((j % 64:Nat):Int)).toNat IntKind.u64.bits=j % 64 by simp [IntKind.bits]; omega]
    have:2 ^ (j % 64)<2 ^ 64:=Nat.pow_lt_pow_right (by omega) hm64
    rw [Int.one_mul,show (2:Int) ^ (j % 64)=((2 ^ (j % 64):Nat):Int) by simp]
    exact IntWalk.u64_in _ ⟨Int.natCast_nonneg _,Int.ofNat_le.2 (show _≤18446744073709551615 by omega)⟩)) rfl rfl ?_
   refine Zt (Z40 rfl (bits_or_u64_nat _ _ (hw.getD _) (show 2 ^ (j % 64)<2 ^ 64 from Nat.pow_lt_pow_right (by omega) hm64))) rfl rfl ?_
   refine Zt (ZL rfl rfl rfl (j / 64) rfl (by rw [hwn]; exact hi) rfl) rfl rfl ?_
   refine Zt (Z2H rfl rfl rfl rfl rfl (by rw [hwn]; exact hi) (Nat.le_refl _)) rfl rfl ?_
   rw [hel,show setAt [PV.val (Value.int .u64 (ws.getD (j / 64) 0:Nat))] 0 (PV.val (Value.int .u64 ((ws.getD (j / 64) 0 ||| 2 ^ (j % 64):Nat):Int))).cells = [.val (.int .u64 ((ws.getD (j / 64) 0 ||| 2 ^ (j % 64):Nat):Int))] from rfl]
   simp only
   rw [Z8d,← hv]
   generalize ws.set (j / 64) v=w2 at *
   iterate 4 (first|refine st ?_|(apply B<;>intro hb<;>try cases hb))
   refine Za (Zo (k:=40) rfl rfl (Z8 w2)) ?_
   refine go ?_
   refine Z6 rfl (Z32 w2) ?_
   exact hset
theorem Z2w {N:Nat} (h:N<18446744073709551616):(digs N).length≤1:=by
 by_cases h0:N=0
 · rw [h0,ZC]; simp
 · rw [Z3n h0,Nat.div_eq_of_lt h,ZC]; simp
end Go.Proofs.YthgklpbcmbmmcaaGreatDoor
