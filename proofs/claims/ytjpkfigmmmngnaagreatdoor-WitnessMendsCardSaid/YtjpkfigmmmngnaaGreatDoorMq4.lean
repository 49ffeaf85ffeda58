/-
  Merged from the texts that this claim's theorem needs, part 5 of 8. No statement of the seat is proved here.
-/
import Derived.Carry
import Derived.LaidMore
import Derived.OpenShut
import Derived.ProofKit
import Derived.SizedLaws
import Derived.Test.YtjpkfigmmmngnaaGreatDoorRows
import Derived.Test.YtjpkfigmmmngnaaGreatDoorMq3
set_option linter.unusedSimpArgs false
set_option linter.unusedVariables false
set_option linter.unusedSectionVars false
namespace Go.Proofs.YtjpkfigmmmngnaaGreatDoor
open Go.RowKit Go.ChangeShapes
def cellF (w:World):Froz:=fun x=>match x.spot with
 | none => match w.cell? x with
   | some v=>if v.oneCell' then some v else none
   | none=>none
 | some _=>none
def GlobsIn (w:World):Prop:=∀ (g j:Nat) (v:Value),(globs g)[j]?=some v→w.cell? ⟨g,j,none⟩=some v
theorem Zan {w:World} (hgl:GlobsIn w):Holds (cellF w) w:=by
 refine⟨?_,fun g j v hv=>by
  have h1:=hgl g j v hv
  have h2:=Zd4 g j v hv
  simp [cellF,h1,h2]⟩
 intro x v hx
 unfold cellF at hx
 split at hx
 · rename_i hs
   split at hx
   · rename_i u hu
     split at hx
     · rename_i h1
       cases hx
       exact⟨hs,h1,hu⟩
     · cases hx
   · cases hx
 · cases hx
theorem ZfF {w:World} {b o:Nat} {v:Value} (hc:w.cell? ⟨b,o,none⟩=some v) (h1:v.oneCell'=true):cellF w ⟨b,o,none⟩=some v:=by
 simp [cellF,hc,h1]
def Shape (P:Program):Nat→TypeId→List PV→Prop
 | 0,_,_=>False
 | n + 1, t, ps => match P.underlying t with
   | some .bool=>∃ b,ps = [.val (.bool b)]
   | some (.int k)=>∃ m,(Lit.int k m).wf=true∧ps = [.val (.int k m)]
   | some .string=>∃ s,s.size≤maxVec∧ps = [.val (.string s)]
   | some (.pointer e)=>ps = [.val (.pointer none)] ∨ ∃ l,Shape P n e l∧ps = [.cp l]
   | some (.slice e)=>∃ ll fl,ll.length≤maxVec∧(∀ l∈ll,Shape P n e l)∧ps = [.vec ll fl]
   | some (.struct fs)=>ps.length=P.cellsOf t∧∀ f∈fs.toList,Shape P n f.type ((ps.drop f.offset).take (P.cellsOf f.type))
   | some (.array m e)=>ps.length=P.cellsOf t∧∀ i,i<m→Shape P n e ((ps.drop (i*P.cellsOf e)).take (P.cellsOf e))
   | _=>∃ v,ps = [.val v]
theorem mapM_some' {α β:Type} {f:α→Option β}:∀ {l:List α} {ys:List β},l.mapM f=some ys→ys.length=l.length∧∀ i (h:i<l.length) (h':i<ys.length),f l[i]=some ys[i]
 | [], ys, h => by
   obtain rfl : []=ys:=by simpa using h
   exact⟨rfl,fun i hi=>absurd hi (Nat.not_lt_zero _)⟩
 | a :: l, ys, h => by
   rw [List.mapM_cons] at h
   cases ha:f a with
   | none=>simp [ha] at h
   | some b =>
     cases hl:l.mapM f with
     | none=>simp [ha,hl] at h
     | some bs =>
       obtain rfl:b :: bs=ys:=by simpa [ha,hl] using h
       obtain⟨h1,h2⟩:=mapM_some' hl
       refine⟨by simp [h1],fun i hi hi'=>?_⟩
       cases i with
       | zero=>simpa using ha
       | succ i=>simpa using h2 i (by simpa using hi) (by simpa using hi')
theorem cells?_some {w:World} {a:Addr} {n:Nat} {cs:List Value} (h:w.cells? 0 a n=some cs):cs.length=n∧∀ j,(hj:j<cs.length)→w.cell? (a.add j)=some cs[j]:=by
 unfold World.cells? at h
 rw [if_pos (Nat.zero_le _)] at h
 obtain⟨h1,h2⟩:=mapM_some' h
 have hn:cs.length=n:=by simpa using h1
 refine⟨hn,fun j hj=>?_⟩
 have:=h2 j (by simp;omega) hj
 simpa using this
structure CellsR (w:World) (cs:List Value) (ps:List PV):Prop where
 len:cs.length=ps.length
 one:∀ j,j<ps.length→(cs.getD j undef).oneCell'=true
 rep:∀ j,j<ps.length→Rep (cellF w) noLoc (cs.getD j undef) (ps.getD j pvu)
 pure:pureL ps
theorem CellsR.single {w:World} {v:Value} {p:PV} (h1:v.oneCell'=true) (hr:Rep (cellF w) noLoc v p) (hp:p.pure):CellsR w [v] [p] :=
 ⟨rfl, fun j hj => by obtain rfl : j = 0 := by simpa using hj
                      exact h1, fun j hj => by obtain rfl : j = 0 := by simpa using hj
                                               exact hr,hp,trivial⟩
theorem CellsR.nil {w:World}:CellsR w [] []:=⟨rfl,fun j hj=>absurd hj (Nat.not_lt_zero _),fun j hj=>absurd hj (Nat.not_lt_zero _),trivial⟩
theorem CellsR.append {w:World} {cs cs':List Value} {ps ps':List PV} (h:CellsR w cs ps) (h':CellsR w cs' ps'):CellsR w (cs++cs') (ps++ps'):=by
 refine⟨by simp [h.len,h'.len],fun j hj=>?_,fun j hj=>?_,(Z3z _ _).2 fun p hp=>?_⟩
 · by_cases hl : j < ps.length
   · have := h.one j hl
     simpa [List.getD_eq_getElem?_getD,List.getElem?_append,h.len,hl] using this
   · have := h'.one (j - ps.length) (by simp at hj; omega)
     simpa [List.getD_eq_getElem?_getD,List.getElem?_append,h.len,hl] using this
 · by_cases hl : j < ps.length
   · have := h.rep j hl
     simpa [List.getD_eq_getElem?_getD,List.getElem?_append,h.len,hl] using this
   · have := h'.rep (j - ps.length) (by simp at hj; omega)
     simpa [List.getD_eq_getElem?_getD,List.getElem?_append,h.len,hl] using this
 · rcases List.mem_append.1 hp with hp | hp
   · exact (Z3z _ _).1 h.pure p hp
   · exact (Z3z _ _).1 h'.pure p hp
def tile (P:Program) (off:Nat) (total:Nat):List Field→Bool
 | []=>off == total
 | f :: r=>f.offset == off&&tile P (off+P.cellsOf f.type) total r
def tilesT (P:Program) (G:List TypeId) (t:TypeId):Bool:=match P.underlying t with
 | some (.struct fs)=>tile P 0 (P.cellsOf t) fs.toList&&fs.toList.all fun f=>G.contains f.type
 | some (.array m e)=>P.cellsOf t == m*P.cellsOf e&&G.contains e
 | some (.slice e)=>decide (0<P.bytesOf e)&&decide (0<P.cellsOf e)&&G.contains e
 | some (.pointer e)=>decide (0<P.cellsOf e)&&G.contains e
 | _=>true
def tilesB (P:Program) (G:List TypeId):Bool:=G.all (tilesT P G)
theorem Ze9 {P:Program} {G:List TypeId} (h:tilesB P G=true) {t:TypeId} (ht:G.contains t=true):tilesT P G t=true:=List.all_eq_true.1 h t (by simpa using ht)
def partsG (P:Program) (ts:List TypeId):List TypeId:=ts.flatMap P.book
theorem Z5r {P:Program} {w:World} {S:TypeId→List PV→Prop} {cs:List Value}:∀ {fs:List Field} {off total:Nat},tile P off total fs=true→cs.length=total →
 (∀ f∈fs,∃ ps,S f.type ps∧CellsR w ((cs.drop f.offset).take (P.cellsOf f.type)) ps)→off≤total∧∃ ps,CellsR w (cs.drop off) ps∧∀ f∈fs,off≤f.offset∧S f.type ((ps.drop (f.offset-off)).take (P.cellsOf f.type))
 | [], off, total, ht, hl, _ => by
   obtain rfl:off=total:=by simpa [tile] using ht
   refine⟨Nat.le_refl _,[],?_,fun f hf=>by cases hf⟩
   rw [List.drop_eq_nil_of_le (by omega)]
   exact .nil
 | f :: r, off, total, ht, hl, hf => by
   simp only [tile,Bool.and_eq_true,beq_iff_eq] at ht
   obtain⟨rfl,ht⟩:=ht
   obtain⟨hle,ps2,hc2,hs2⟩:=Z5r ht hl fun g hg=>hf g (by simp [hg])
   obtain⟨ps1,hs1,hc1⟩:=hf f (by simp)
   have hl1:ps1.length=P.cellsOf f.type:=by rw [← hc1.len]; simp; omega
   refine⟨by omega,ps1++ps2,?_,fun g hg=>?_⟩
   · have := hc1.append hc2
     rw [← List.drop_drop,List.take_append_drop] at this
     exact this
   · rcases List.mem_cons.1 hg with rfl | hg
     · refine ⟨Nat.le_refl _, ?_⟩
       rw [Nat.sub_self,List.drop_zero,← hl1,List.take_left]
       exact hs1
     · obtain ⟨h1, h2⟩ := hs2 g hg
       refine⟨by omega,?_⟩
       have e:g.offset-f.offset=ps1.length+(g.offset-(f.offset+P.cellsOf f.type)):=by omega
       rw [e,← List.drop_drop,List.drop_left]
       exact h2
theorem Z6t {w:World} {S:List PV→Prop} {cs:List Value} {sz:Nat}:∀ {m:Nat},cs.length=m*sz→(∀ i,i<m→∃ ps,S ps∧CellsR w ((cs.drop (i*sz)).take sz) ps)→∃ ps,CellsR w cs ps∧∀ i,i<m→S ((ps.drop (i*sz)).take sz)
 | 0, hl, _ => by
   obtain rfl:cs = []:=List.eq_nil_of_length_eq_zero (by simpa using hl)
   exact⟨[],.nil,fun i hi=>absurd hi (Nat.not_lt_zero _)⟩
 | m + 1, hl, hf => by
   have hlm:(cs.take (m*sz)).length=m*sz:=by rw [List.length_take,hl]; exact Nat.min_eq_left (Nat.mul_le_mul_right _ (by omega))
   obtain⟨ps1,hc1,hs1⟩:=Z6t (cs:=cs.take (m*sz)) hlm fun i hi=>by
    obtain⟨ps,h1,h2⟩:=hf i (by omega)
    refine⟨ps,h1,?_⟩
    rw [List.drop_take,List.take_take,Nat.min_eq_left (by
     have:(i+1)*sz≤m*sz:=Nat.mul_le_mul_right _ hi
     rw [Nat.add_mul] at this;omega)]
    exact h2
   obtain⟨ps2,hs2,hc2⟩:=hf m (by omega)
   have hl1:ps1.length=m*sz:=by rw [← hc1.len,hlm]
   have hd:(cs.drop (m*sz)).take sz=cs.drop (m*sz):=List.take_of_length_le (by rw [List.length_drop,hl,Nat.add_mul];omega)
   rw [hd] at hc2
   have hl2:ps2.length=sz:=by rw [← hc2.len,List.length_drop,hl,Nat.add_mul]; omega
   refine⟨ps1++ps2,by have:=hc1.append hc2; rwa [List.take_append_drop] at this,fun i hi=>?_⟩
   by_cases him:i<m
   · have hle : i * sz + sz ≤ ps1.length := by
      have:(i+1)*sz≤m*sz:=Nat.mul_le_mul_right _ him
      rw [Nat.add_mul] at this; omega
     rw [List.drop_append_of_le_length (by omega),List.take_append_of_le_length (by rw [List.length_drop];omega)]
     exact hs1 i him
   · obtain rfl : i = m := by omega
     rw [← hl1,List.drop_left,List.take_of_length_le (by omega)]
     exact hs2
theorem Z2B {H:Type} {P:Program} {e:TypeId}:∀ {ds:List (DataW H)} {d:DataW H},d∈ds→∀ x∈d.weights P e,x∈DataW.weightsAll P e ds
 | [],_,h,_,_=>by cases h
 | a :: r, d, h, x, hx => by
   rw [DataW.weightsAll,List.mem_append]
   rcases List.mem_cons.1 h with rfl|h
   · exact .inl hx
   · exact .inr (Z2B h x hx)
theorem Z3n {H:Type} {P:Program}:∀ {ts:List TypeId} {ds:List (DataW H)} {i:Nat} {t:TypeId} {d:DataW H},ts[i]?=some t→ds[i]?=some d→∀ x∈d.weights P t,x∈DataW.weightsEach P ts ds
 | [],_,i,t,d,h,_,_,_=>by simp at h
 | a :: ts,[],i,t,d,_,h,_,_=>by simp at h
 | a :: ts, b :: ds, 0, t, d, h, h', x, hx => by
   obtain rfl:a=t:=by simpa using h
   obtain rfl:b=d:=by simpa using h'
   rw [DataW.weightsEach,List.mem_append]
   exact .inl hx
 | a :: ts, b :: ds, i + 1, t, d, h, h', x, hx => by
   rw [DataW.weightsEach,List.mem_append]
   exact .inr (Z3n (i:=i) (by simpa using h) (by simpa using h') x hx)
section
variable {H:Type} {enc:TypeId×Value→H} {P:Program} {w:World} {sp:Nat→Bool}
theorem Z97 {a:Addr} {n:Nat} {cs:List Value} {ps:List PV} (hc:w.cells? 0 a n=some cs) (hs:a.spot=none) (h:CellsR w cs ps):ps.length=n∧∀ j,j<ps.length→cellF w ⟨a.block,a.off+j,none⟩=some (cs.getD j undef):=by
 obtain⟨h1,h2⟩:=cells?_some hc
 refine⟨by rw [← h.len,h1],fun j hj=>?_⟩
 have hj':j<cs.length:=by rw [h.len]; exact hj
 have:=h2 j hj'
 rw [ZZ _ _ hs] at this
 have e:cs.getD j undef=cs[j]:=by simp [List.getD_eq_getElem?_getD,hj']
 rw [e]
 exact ZfF this (by rw [← e]; exact h.one j hj)
theorem Zbs {a:Addr} {n:Nat} {cs:List Value} (hc:w.cells? 0 a n=some cs) (hn:0<n):a.spot=none:=by
 obtain⟨h1,h2⟩:=cells?_some hc
 have:=h2 0 (by omega)
 have e:a.add 0=a:=rfl
 rw [e] at this
 cases hs:a.spot with
 | none=>rfl
 | some k =>
   unfold World.cell? at this
   rw [hs] at this
   split at this<;>simp at this
theorem Z6u {α:Type} (z:α) {Q:Nat→α→Prop}:∀ {n:Nat},(∀ i,i<n→∃ x,Q i x)→∃ l:List α,l.length=n∧∀ i,i<n→Q i (l.getD i z)
 | 0,_=>⟨[],rfl,fun i hi=>absurd hi (Nat.not_lt_zero _)⟩
 | n + 1, h => by
   obtain⟨l,hl,hq⟩:=Z6u z (n:=n) fun i hi=>h i (by omega)
   obtain⟨x,hx⟩:=h n (by omega)
   refine⟨l ++ [x],by simp [hl],fun i hi=>?_⟩
   by_cases hin:i<n
   · have := hq i hin
     simpa [List.getD_eq_getElem?_getD,List.getElem?_append,hl,hin] using this
   · obtain rfl : i = n := by omega
     simpa [List.getD_eq_getElem?_getD,List.getElem?_append,hl] using hx
theorem Z1C {G:List TypeId} (hT:tilesB P G=true):∀ {fuel:Nat} {t:TypeId} {cs:List Value} {d:DataW H} {pl:List MemPlace},G.contains t=true→DataW.trod enc P w 0 sp true fuel t cs=some (d,pl)→(∀ x∈d.weights P t,x≤reachBytes)→∃ ps,Shape P fuel t ps∧CellsR w cs ps
 | 0,_,_,_,_,_,h,_=>by simp [DataW.trod] at h
 | fuel + 1, t, cs, d, pl, ht, h, hw => by
   have hTt:=Ze9 hT ht
   unfold tilesT at hTt
   have other:∀ v:Value,v.oneCell'=true→cs = [v]→(match P.underlying t with
    | some .bool|some (.int _)|some .string|some (.pointer _)|some (.slice _)|some (.struct _)|some (.array _ _)=>False
    | _=>True)→∃ ps,Shape P (fuel+1) t ps∧CellsR w cs ps:=by
    intro v h1 hcs hu
    refine⟨[.val v],?_,hcs▸.single h1 (.val v) trivial⟩
    unfold Shape
    split at hu<;>first|exact hu.elim|skip
    first|exact⟨v,rfl⟩|(split<;>first|exact⟨v,rfl⟩|simp_all)
   unfold DataW.trod at h
   split at h
   · rename_i b hu
     exact⟨[.val (.bool b)],by simp [Shape,hu],.single rfl (.val _) trivial⟩
   · rename_i k k' m hu
     split at h
     · rename_i hk
       obtain⟨rfl,hwf⟩:=hk
       exact⟨[.val (.int k' m)],by simp [Shape,hu,hwf],.single rfl (.val _) trivial⟩
     · cases h
   · rename_i k k' m hu
     exact other _ rfl rfl (by rw [hu]; trivial)
   · rename_i str hu
     split at h
     · cases h
       refine⟨[.val (.string str)],?_,.single rfl (.val _) trivial⟩
       have:=hw str.data.toList.length (by simp [DataW.weights])
       have hs:str.size≤maxVec:=by
        have e:str.data.toList.length=str.size:=Array.length_toList
        rw [e] at this
        simp only [reachBytes] at this
        simp only [maxVec]
        omega
       simp [Shape,hu,hs]
     · cases h
   · rename_i e hu
     exact⟨[.val (.pointer none)],by simp [Shape,hu],.single rfl (.val _) trivial⟩
   · rename_i e a hu
     rw [hu] at hTt
     simp only [Bool.and_eq_true,decide_eq_true_eq] at hTt
     cases hc:w.cells? 0 a (P.cellsOf e) with
     | none=>simp [hc] at h
     | some cs' =>
       cases hr:DataW.trod enc P w 0 sp true fuel e cs' with
       | none=>simp [hc,hr] at h
       | some r =>
         obtain⟨d',pl'⟩:=r
         have hd:d=.ptr d':=by simp [hc,hr] at h; exact h.1.symm
         subst hd
         obtain⟨l,hs,hcl⟩:=Z1C hT hTt.2 hr (fun x hx=>hw x (by simp only [DataW.weights,hu]; exact hx))
         have hspot:=Zbs hc hTt.1
         obtain⟨hl,hF⟩:=Z97 hc hspot hcl
         refine⟨[.cp l],by simp only [Shape,hu]; exact .inr ⟨l,hs,rfl⟩,.single rfl ?_ hcl.pure⟩
         exact .cp a l (fun j=>cs'.getD j undef) hspot hF hcl.rep
   · rename_i e hu
     exact⟨[.vec [] true],by simp only [Shape,hu]; exact⟨[],true,by simp,by simp,rfl⟩,.single rfl (.vecnil true) trivial⟩
   · rename_i e a len cap hu
     rw [hu] at hTt
     simp only [Bool.and_eq_true,decide_eq_true_eq] at hTt
     obtain⟨⟨hby,hsz⟩,het⟩:=hTt
     simp only at h
     split at h
     case isFalse=>cases h
     rename_i hcond
     cases hm:(List.range len).mapM (fun i=>(w.cells? 0 (a.add (i*P.cellsOf e)) (P.cellsOf e)).bind (DataW.trod enc P w 0 sp true fuel e)) with
     | none=>simp [hm] at h
     | some elems =>
       obtain⟨hel,hget⟩:=mapM_some' hm
       have hd:∃ rest:List (DataW H×List MemPlace),d=.slice (elems.map (·.1)) (rest.map (·.1)):=by
        rw [hm] at h
        simp only [Option.bind_some,Option.map_eq_some_iff] at h
        obtain⟨rest,_,h2⟩:=h
        exact⟨rest,by cases h2; rfl⟩
       obtain⟨rest,rfl⟩:=hd
       have hlen:elems.length=len:=by simpa using hel
       have hbound:len≤maxVec:=by
        have:=hw ((elems.length+rest.length)*P.bytesOf e) (by simp [DataW.weights,hu])
        have h3:elems.length+rest.length≤(elems.length+rest.length)*P.bytesOf e:=Nat.le_mul_of_pos_right _ hby
        simp only [reachBytes] at this
        simp only [maxVec]
        omega
       have each:∀ i,i<len→∃ cs' d' pl',w.cells? 0 (a.add (i*P.cellsOf e)) (P.cellsOf e)=some cs'∧DataW.trod enc P w 0 sp true fuel e cs'=some (d',pl')∧d'∈elems.map (·.1):=fun i hi=>by
        have:=hget i (by simpa using hi) (by omega)
        simp only [List.getElem_range,Option.bind_eq_some_iff] at this
        obtain⟨cs',h1,h2⟩:=this
        exact⟨cs',_,_,h1,h2,List.mem_map.2 ⟨elems[i],List.getElem_mem _,rfl⟩⟩
       have hspot:0<len→a.spot=none:=fun h0=>by
        obtain⟨cs',d',pl',h1,_⟩:=each 0 h0
        rw [Nat.zero_mul] at h1
        exact Zbs h1 hsz
       obtain⟨ll,hll,hq⟩:=Z6u (α:=List PV) [] (n:=len) (Q:=fun i l=>Shape P fuel e l∧l.length=P.cellsOf e∧pureL l∧∀ j,j<P.cellsOf e→∃ v,cellF w ⟨a.block,a.off+(i*P.cellsOf e+j),none⟩=some v∧Rep (cellF w) noLoc v (l.getD j pvu)) fun i hi=>by
        obtain⟨cs',d',pl',h1,h2,h3⟩:=each i hi
        obtain⟨l,hs,hcl⟩:=Z1C hT het h2 (fun x hx=>hw x (by simp only [DataW.weights,hu]; exact List.mem_cons_of_mem _ (List.mem_append.2 (.inl (Z2B h3 x hx)))))
        rw [ZZ _ _ (hspot (by omega))] at h1
        obtain⟨hl,hF⟩:=Z97 h1 rfl hcl
        refine⟨l,hs,hl,hcl.pure,fun j hj=>⟨_,?_,hcl.rep j (by omega)⟩⟩
        have:=hF j (by omega)
        simp only at this
        rw [Nat.add_assoc] at this
        exact this
       have hmem:∀ l∈ll,∃ i,i<len∧ll.getD i []=l:=fun l hl=>by
        obtain⟨i,hi,rfl⟩:=List.getElem_of_mem hl
        exact⟨i,by omega,by simp [List.getD_eq_getElem?_getD,hi]⟩
       refine⟨[.vec ll false],?_,.single rfl ?_ ((Z1W _ _).2 fun l hl=>?_)⟩
       · simp only [Shape, hu]
         exact⟨ll,false,by omega,fun l hl=>by obtain⟨i,hi,rfl⟩:=hmem l hl; exact (hq i hi).1,rfl⟩
       · rw [← hll]
         refine .vec a cap (P.cellsOf e) ll false (fun i j=>(cellF w ⟨a.block,a.off+(i*P.cellsOf e+j),none⟩).getD undef) (fun hne=>hspot (by rw [← hll]; exact List.length_pos_iff.2 hne)) (by omega) (by simp) (by omega) (fun i hi=>(hq i (by omega)).2.1) (fun i j hi hj=>?_) (fun i j hi hj=>?_)
         · obtain ⟨v, h1, _⟩ := (hq i (by omega)).2.2.2 j hj
           rw [h1]; rfl
         · obtain ⟨v, h1, h2⟩ := (hq i (by omega)).2.2.2 j hj
           rw [h1]; exact h2
       · obtain ⟨i, hi, rfl⟩ := hmem l hl
         exact (hq i hi).2.2.1
   · rename_i cs _ _ fs hu
     rw [hu] at hTt
     simp only [Bool.and_eq_true,List.all_eq_true,decide_eq_true_eq] at hTt
     obtain⟨htile,hft⟩:=hTt
     split at h
     case isFalse=>cases h
     rename_i hlen
     cases hm:fs.toList.mapM (fun f=>DataW.trod enc P w 0 sp true fuel f.type ((cs.drop f.offset).take (P.cellsOf f.type))) with
     | none=>simp [hm] at h
     | some xs =>
       obtain⟨hxl,hget⟩:=mapM_some' hm
       obtain rfl:d=.agg (xs.map (·.1)):=by simp [hm] at h; exact h.1.symm
       obtain⟨_,ps,hc,hs⟩:=Z5r (P:=P) (S:=fun t ps=>Shape P fuel t ps) htile hlen fun f hf=>by
        obtain⟨i,hi,rfl⟩:=List.getElem_of_mem hf
        have h2:=hget i hi (by omega)
        refine Z1C hT (hft _ hf) (d := (xs[i]'(by omega)).1) (pl := (xs[i]'(by omega)).2) h2 fun x hx => hw x ?_
        simp only [DataW.weights,hu]
        exact Z3n (i := i) (t := fs.toList[i].type) (d := (xs[i]'(by omega)).1) (by rw [List.getElem?_map,List.getElem?_eq_getElem hi]; rfl) (by rw [List.getElem?_map,List.getElem?_eq_getElem (by omega)]; rfl) x hx
       rw [List.drop_zero] at hc
       refine⟨ps,?_,hc⟩
       simp only [Shape,hu]
       exact⟨by rw [← hc.len]; exact hlen,fun f hf=>by have:=(hs f hf).2; rwa [Nat.sub_zero] at this⟩
   · rename_i cs _ _ m e hu
     rw [hu] at hTt
     simp only [Bool.and_eq_true,beq_iff_eq,decide_eq_true_eq] at hTt
     obtain⟨htile,het⟩:=hTt
     split at h
     case isFalse=>cases h
     rename_i hlen
     cases hm:(List.range m).mapM (fun i=>DataW.trod enc P w 0 sp true fuel e ((cs.drop (i*P.cellsOf e)).take (P.cellsOf e))) with
     | none=>simp [hm] at h
     | some xs =>
       obtain⟨hxl,hget⟩:=mapM_some' hm
       obtain rfl:d=.agg (xs.map (·.1)):=by simp [hm] at h; exact h.1.symm
       have hxm:xs.length=m:=by simpa using hxl
       obtain⟨ps,hc,hs⟩:=Z6t (S:=Shape P fuel e) (sz:=P.cellsOf e) (m:=m) (by rw [hlen,htile]) fun i hi=>by
        have h2:=hget i (by simpa using hi) (by omega)
        simp only [List.getElem_range] at h2
        refine Z1C hT het (d := (xs[i]'(by omega)).1) (pl := (xs[i]'(by omega)).2) h2 fun x hx => hw x ?_
        simp only [DataW.weights,hu]
        exact Z2B (List.mem_map.2 ⟨xs[i]'(by omega),List.getElem_mem _,rfl⟩) x hx
       refine⟨ps,?_,hc⟩
       simp only [Shape,hu]
       exact⟨by rw [← hc.len]; exact hlen,hs⟩
   all_goals first
    | (cases h; done)
    | (rename_i hu; exact other _ rfl rfl (by rw [hu]; trivial))
end
end Go.Proofs.YtjpkfigmmmngnaaGreatDoor
namespace Go.Proofs.YtjpkfigmmmngnaaGreatDoor
open Go.RowKit Go.ChangeShapes Go.WideShapes
def ShapeV (P:Program) (t:TypeId) (p:PV):Prop:=∃ n,match P.underlying t with
 | some (.struct _)|some (.array _ _)=>∃ ps,p=.agg ps∧Shape P n t ps
 | _=>Shape P n t [p]
def ShapeVs (P:Program):List TypeId→List PV→Prop
 | [],[]=>True
 | t :: ts,p :: ps=>ShapeV P t p∧ShapeVs P ts ps
 | _,_=>False
section
variable {H:Type} {enc:TypeId×Value→H} {P:Program} {w:World}
theorem Z4F {v:Value} {ps:List PV} (h:CellsR w [v] ps):∃ p,ps = [p]∧Rep (cellF w) noLoc v p∧p.pure:=by
 have hl:=h.len
 obtain⟨p,rfl⟩:∃ p,ps = [p]:=by
  cases ps with
  | nil=>simp at hl
  | cons p r => cases r with
    | nil=>exact⟨p,rfl⟩
    | cons _ _=>simp at hl
 exact⟨p,rfl,by simpa using h.rep 0 (by simp),h.pure.1⟩
theorem Z7m {t:TypeId} {v:Value} {base:Nat} (hu:match P.underlying t with|some (.struct _)|some (.array _ _)=>False|_=>True) (h:Value.okWide P w .any base t v):v.cells.toList = [v]:=by
 cases v with
 | agg cs =>
   exfalso
   unfold Value.okWide at h
   split at h
   · rename_i hu'; rw [hu'] at hu; exact hu
   · rename_i hu'; rw [hu'] at hu; exact hu
   · unfold Cell.okWide at h
     split at h<;>first|(rename_i hv; cases hv; done)|skip
     all_goals first|(cases ‹Value.agg cs=_›; done)|(unfold Cell.ok at h; split at h<;>first|exact h|(cases ‹Value.agg cs=_›; done)|simp_all)
 | _=>rfl
theorem Zea {G:List TypeId} (hT:tilesB P G=true) {t:TypeId} {v:Value} {d:DataW H} {pl:List MemPlace} {base:Nat} (ht:G.contains t=true) (hok:Value.okWide P w .any base t v) (h:DataW.Trod enc P w 0 (fun _=>true) true t v d pl) (hw:∀ x∈d.weights P t,x≤reachBytes) :
 ∃ p,ShapeV P t p∧Rep (cellF w) noLoc v p∧p.pure:=by
 obtain⟨fuel,h⟩:=h
 obtain⟨ps,hs,hc⟩:=Z1C hT ht h hw
 cases hu:P.underlying t with
 | none =>
   rw [Z7m (by rw [hu]; trivial) hok] at hc
   obtain⟨p,rfl,h1,h2⟩:=Z4F hc
   exact⟨p,⟨fuel,by rw [hu]; exact hs⟩,h1,h2⟩
 | some dsc =>
   have agg:(∃ cs,v=.agg cs)→∃ p,(∃ ps,p=.agg ps∧Shape P fuel t ps)∧Rep (cellF w) noLoc v p∧p.pure:=by
    rintro⟨cs,rfl⟩
    have e:∀ j,cs.getD j undef=cs.toList.getD j undef:=fun j=>by simp [Array.getD_eq_getD_getElem?,List.getD_eq_getElem?_getD]
    refine⟨.agg ps,⟨ps,rfl,hs⟩,.agg cs ps (by rw [← hc.len]; simp [Value.cells]) (fun i hi=>?_) (fun i hi=>?_),hc.pure⟩
    · rw [e]; exact hc.one i hi
    · rw [e]; exact hc.rep i hi
   have one:(match P.underlying t with|some (.struct _)|some (.array _ _)=>False|_=>True)→∃ p,Shape P fuel t [p]∧Rep (cellF w) noLoc v p∧p.pure:=by
    intro hu'
    rw [Z7m hu' hok] at hc
    obtain⟨p,rfl,h1,h2⟩:=Z4F hc
    exact⟨p,hs,h1,h2⟩
   have isAgg:(∃ fs,dsc=.struct fs) ∨ (∃ m e,dsc=.array m e)→∃ cs,v=.agg cs:=by
    intro hd
    unfold Value.okWide at hok
    rw [hu] at hok
    rcases hd with⟨fs,rfl⟩|⟨m,e,rfl⟩
    · obtain⟨cs,h1,_⟩:=hok; exact⟨cs,h1⟩
    · obtain⟨cs,h1,_⟩:=hok; exact⟨cs,h1⟩
   cases dsc with
   | struct fs =>
     obtain⟨p,h1,h2⟩:=agg (isAgg (.inl ⟨fs,rfl⟩))
     exact⟨p,⟨fuel,by rw [hu]; exact h1⟩,h2⟩
   | array m e =>
     obtain⟨p,h1,h2⟩:=agg (isAgg (.inr ⟨m,e,rfl⟩))
     exact⟨p,⟨fuel,by rw [hu]; exact h1⟩,h2⟩
   | _ =>
     obtain⟨p,h1,h2⟩:=one (by rw [hu]; trivial)
     exact⟨p,⟨fuel,by rw [hu]; exact h1⟩,h2⟩
theorem Z7n {G:List TypeId} (hT:tilesB P G=true):∀ {ts:List TypeId} {vs:List Value} {ds:List (DataW H)} {pl:List MemPlace},(∀ t∈ts,G.contains t=true)→(∀ (j:Nat) t v,ts[j]?=some t→vs[j]?=some v→∃ base,Value.okWide P w .any base t v) →
 DataW.TrodAll enc P w 0 (fun _=>true) true ts vs ds pl→(∀ x∈DataW.weightsEach P ts ds,x≤reachBytes)→∃ ps,ShapeVs P ts ps∧vs.length=ps.length∧(∀ i,i<ps.length→Rep (cellF w) noLoc (vs.getD i undef) (ps.getD i pvu))∧pureL ps
 | [], vs, ds, pl, _, _, h, _ => by
   obtain⟨rfl,rfl,rfl⟩:=trodAll_nil h
   exact⟨[],trivial,rfl,fun i hi=>absurd hi (Nat.not_lt_zero _),trivial⟩
 | t :: ts, vs, ds, pl, hlt, hok, h, hw => by
   obtain⟨v,vs',d,ds',p,q,rfl,rfl,rfl,h1,h2⟩:=trodAll_cons h
   obtain⟨base,hv⟩:=hok 0 t v rfl rfl
   obtain⟨x,hs,hr,hp⟩:=Zea hT (hlt t (by simp)) hv h1 fun x hx=>hw x (by rw [DataW.weightsEach]; exact List.mem_append.2 (.inl hx))
   obtain⟨ps,hs',hl,hr',hp'⟩:=Z7n hT (fun t ht=>hlt t (by simp [ht])) (fun j t v hj hv=>hok (j+1) t v (by simpa using hj) (by simpa using hv)) h2 fun x hx=>hw x (by rw [DataW.weightsEach]; exact List.mem_append.2 (.inr hx))
   refine⟨x :: ps,⟨hs,hs'⟩,by simp [hl],fun i hi=>?_,hp,hp'⟩
   cases i with
   | zero=>simpa using hr
   | succ i=>simpa using hr' i (by simpa using hi)
theorem Z4G (hl:laidOutB P=true) {W W':World} (hb:Below W.heap.size W W') {sp':Nat→Bool}:∀ {ts:List TypeId} {vs:List Value} {ds:List (DataW H)} {pl:List MemPlace},(∀ t∈ts,P.readableRec t=true∧t<P.types.size)→DataW.TrodAll enc P W 0 (fun _=>true) true ts vs ds pl →
 (∀ x∈pl,x.block<W.heap.size)→(∀ x∈pl,sp' x.block=true)→DataW.TrodAll enc P W' 0 sp' true ts vs ds pl
 | [], vs, ds, pl, _, h, _, _ => by
   obtain⟨rfl,rfl,rfl⟩:=trodAll_nil h
   exact rfl
 | t :: ts, vs, ds, pl, hr, h, hlt, hsp => by
   obtain⟨v,vs',d,ds',p,q,rfl,rfl,rfl,h1,h2⟩:=trodAll_cons h
   obtain⟨hr1,hr2⟩:=hr t (by simp)
   exact⟨p,q,WideElems.Trod_stays hl hr1 hr2 h1 (fun x hx=>hb.same (hlt x (List.mem_append.2 (.inl hx)))) (fun x hx=>hsp x (List.mem_append.2 (.inl hx))),
    Z4G hl hb (fun t ht=>hr t (by simp [ht])) h2 (fun x hx=>hlt x (List.mem_append.2 (.inr hx))) (fun x hx=>hsp x (List.mem_append.2 (.inr hx))),rfl⟩
end
theorem Z3o {H:Type} {enc:TypeId×Value→H} {P:Program} {f:FuncId} {fn:Func} {s:ChangeSpec} {apart fresh handsOn again:Bool} {tb:TypeId} {G:List TypeId} (hT:tilesB P G=true) (hG:∀ t∈fn.params.toList,G.contains t=true) (hl:laidOutB P=true) (hpar:∀ t∈fn.params.toList,P.readableRec t=true∧t<P.types.size) (hres:fn.resultTypes = #[tb]) (htb:P.underlying tb=some .bool)
 (hvars:s.vars = []) (hs:∀ ds:List (DataW H),ds.length=fn.params.size→(s.fn H ds).results = [.lit (.bool true)]∧(s.fn H ds).args=ds∧(s.fn H ds).vars = []) (hspec:∀ ps,ShapeVs P fn.params.toList ps→pureL ps→Spec P f ps (· = .val (.bool true)))
 (W:World) (hgl:GlobsIn W) (base:Nat) (args:Array Value) (ds gs:List (DataW H)) (before:List MemPlace) (hval:∀ (j:Nat) t v,fn.params[j]?=some t→args[j]?=some v→Value.okWide P W .any base t v) (hW:DataW.Whole enc P fn.params.toList s.vars apart W args.toList ds gs before)
 (hwt:(DataW.weightsEach P (fn.params.toList++s.plain.varTypes P) (ds++gs)).all (· ≤ reachBytes)=true) :
 Calls P f args W fun e W'=>∃ v,e=.returned v∧s.post enc P fn apart fresh handsOn again W args v W':=by
 have hW':=hW
 obtain⟨p,q,hA,hV,rfl,hfz,hnd⟩:=hW
 rw [hvars] at hV
 obtain⟨rfl,rfl⟩:=trodVars_none hV
 rw [List.append_nil] at hwt
 have hlen:ds.length=fn.params.toList.length:=by
  have:∀ {ts:List TypeId} {vs:List Value} {ds:List (DataW H)} {pl:List MemPlace},DataW.TrodAll enc P W 0 (fun _=>true) true ts vs ds pl→ds.length=ts.length:=by
   intro ts
   induction ts with
   | nil=>intro vs ds pl h; obtain⟨_,rfl,_⟩:=trodAll_nil h; rfl
   | cons t ts ih=>intro vs ds pl h; obtain⟨v,vs',d,ds',p,q,_,rfl,_,_,h2⟩:=trodAll_cons h; simp [ih h2]
  exact this hA
 have hvt:s.plain.varTypes P = []:=by
  simp [ChangeSpec.plain,DataSpec.varTypes,hvars]
 rw [hvt,List.append_nil] at hwt
 obtain⟨ps,hsh,hpl,hrep,hpure⟩:=Z7n hT hG (fun j t v hj hv=>⟨base,hval j t v (by simpa using hj) (by simpa using hv)⟩) hA (fun x hx=>by simpa using List.all_eq_true.1 hwt x hx)
 have e:∀ j,args.getD j undef=args.toList.getD j undef:=fun j=>by simp [Array.getD_eq_getD_getElem?,List.getD_eq_getElem?_getD]
 refine ((hspec ps hsh hpure).2 (cellF W) W args (Zan hgl) ⟨by simpa using hpl,fun i hi=>by rw [e]; exact hrep i hi⟩).mono ?_
 rintro en W' ⟨v,r,F',rfl,rfl,hvr,hbel,_⟩
 obtain rfl:=hvr.val_inv
 obtain⟨hs1,hs2,hs3⟩:=hs ds (by simpa using hlen)
 have hlt:=hW'.lt
 simp only [List.append_nil] at hlt hW' ⊢
 have hstay:∀ sp':Nat→Bool,(∀ x∈p,sp' x.block=true)→DataW.TrodAll enc P W' 0 sp' true fn.params.toList args.toList ds p:=fun sp' hsp=>Z4G hl hbel hpar hA hlt hsp
 have hresults:∀ (b:Nat) (sp:Nat→Bool) (hd:Bool),DataW.TrodAll enc P W' b sp hd fn.resultTypes.toList ((Value.bool true).resultList fn.resultTypes.size) [.lit (.bool true)] []:=fun b sp hd=>by
  rw [hres]
  exact trodAll_mk1 (shut_bool htb true)
 refine⟨_,rfl,ds,[],p,[],p,[],hW',?_,?_,?_,hbel.frame _,fun _=>⟨ok_one hres rfl (okWide_bool_mk htb true),?_⟩⟩
 · rw [List.append_nil,hs1]; exact hresults _ _ _
 · rw [List.append_nil,hs2]; exact hstay _ fun x hx=>by simpa using hlt x hx
 · rw [List.append_nil,hvars,hs3]; exact rfl
 · refine ⟨_, [], p, ⟨p, [], trodAll_append (p := []) (hstay _ fun _ _ => rfl) (hresults _ _ _), by rw [hvars]; exact rfl, by simp, ?_, by simpa using hnd⟩, fun x hx _ => hx⟩
   intro b off hp
   rw [hbel.frozen (hlt _ hp)]
   exact hfz b off (by simpa using hp)
end Go.Proofs.YtjpkfigmmmngnaaGreatDoor
namespace Go.Proofs.YtjpkfigmmmngnaaGreatDoor
open Go.ChangeShapes Go.WideShapes Go.ChangeAt Go.RowKit
theorem own:ownKnob Tryz.prog.godebug=none:=by kernel_rfl
theorem laidOut:laidOutB Tryz.prog=true:=by kernel_rfl
def parsOk (P:Program) (ts:List TypeId):Bool:=ts.all fun t=>P.readableRec t&&decide (t<P.types.size)
def inG (G ts:List TypeId):Bool:=ts.all fun t=>G.contains t
theorem Zeb {G ts:List TypeId} (h:inG G ts=true):∀ t∈ts,G.contains t=true:=fun t ht=>List.all_eq_true.1 h t ht
theorem Z6v {P:Program} {ts:List TypeId} (h:parsOk P ts=true):∀ t∈ts,P.readableRec t=true∧t<P.types.size:=fun t ht=>by
 have:=List.all_eq_true.1 h t ht
 simpa using this
abbrev laidV : List (String × DataW Unit) := [("math/bits.deBruijn32tab",Rows.laid_math_bits_deBruijn32tab),("math/bits.deBruijn64tab",Rows.laid_math_bits_deBruijn64tab),("internal/strconv.uint64pow10",Rows.laid_internal_strconv_uint64pow10)]
set_option maxRecDepth 100000 in
theorem Z8f (os:Os) (args:Array Value):laidMetH Tryz.prog laidV ((World.doorLaid Tryz.prog 400 os).forCall (fun _ _=>0) ⟨#[],args,[]⟩).memory :=
 laidMetH_of_parts3 (fuel:=8) (laidMet_of_run' 8 (by kernel_rfl) (by kernel_rfl)) (by kernel_rfl) (by kernel_rfl)
theorem ZfG:(Rows.laid_math_bits_deBruijn64tab:DataW Unit)=.agg (tzTab.map fun x=>.lit (.int .u8 x)):=rfl
set_option maxRecDepth 100000 in
theorem Z8g {W:World} (h:laidMetH Tryz.prog laidV W):GlobsIn W:=by
 rw [MakeChecks.laidMetH_plain _ _ _ (by kernel_rfl)] at h
 obtain⟨ps,⟨_,_,_,_,_,_,_,_,_,_,⟨g0,t0,cs,f0,p0,q0,hg0,ht0,hv0,hd0,_,_⟩,_⟩,_,_⟩:=h
 obtain rfl := Option.some.inj ((show Tryz.prog.globalNamed "math/bits.deBruijn64tab" = some 0 by kernel_rfl).symm.trans hg0)
 obtain rfl:=Option.some.inj ((show (Tryz.prog.globals[0]?).map (·.type)=some 176 by kernel_rfl).symm.trans ht0)
 obtain⟨xs,m,rfl,hx,hlen,hn,hel⟩:=DataW.trod_array (show Tryz.prog.underlying 176=some (.array 64 5) by kernel_rfl) hd0
 have c1:Tryz.prog.cellsOf 5=1:=by kernel_rfl
 have c64:Tryz.prog.cellsOf 176=64:=by kernel_rfl
 simp only [Prod.mk.injEq] at hx
 have hx1:tzTab.map (fun x=>(DataW.lit (.int .u8 x):DataW Unit))=xs.map (·.1):=by
  have:=hx.1
  rw [ZfG] at this
  simpa using this
 intro g j v hv
 unfold globs at hv
 cases hb:Nat.beq g 0 with
 | false=>rw [hb] at hv; simp at hv
 | true =>
   obtain rfl:g=0:=Nat.eq_of_beq_eq_true hb
   rw [hb] at hv
   simp only [cond_true,List.getElem?_map] at hv
   have hj:j<64:=by
    cases hx:tzTab[j]? with
    | none=>rw [hx] at hv; cases hv
    | some x=>have:=(List.getElem?_eq_some_iff.1 hx).1; exact this
   have hj2:j<tzTab.length:=hj
   rw [List.getElem?_eq_getElem hj2] at hv
   simp only [Option.map_some,Option.some.injEq] at hv
   subst hv
   have e1:=congrArg (fun l=>l[j]?) hx1
   simp only [List.getElem?_map] at e1
   rw [List.getElem?_eq_getElem hj2,List.getElem?_eq_getElem (show j<xs.length by omega)] at e1
   simp only [Option.map_some,Option.some.injEq] at e1
   have e2:=hel j hj
   rw [List.getElem?_eq_getElem (show j<xs.length by omega),c1] at e2
   obtain⟨k,h1,h2,_⟩:=DataW.trod_int (show Tryz.prog.underlying 5=some (.int .u8) by kernel_rfl) e2
   rw [h2] at e1
   simp only [DataW.lit.injEq,Lit.int.injEq,true_and] at e1
   subst e1
   rw [Nat.mul_one] at h1
   rw [World.var?_cell hg0 hv0 j]
   have h3:cs.toList[j]?=(cs.toList.drop j)[0]?:=by simp
   have h4:(cs.toList.drop j)[0]?=((cs.toList.drop j).take 1)[0]?:=by simp
   rw [← Array.getElem?_toList,h3,h4,h1]
   rfl
end Go.Proofs.YtjpkfigmmmngnaaGreatDoor
namespace Go.Proofs.YtjpkfigmmmngnaaGreatDoor
open Go.RowKit
abbrev Pr:=Nat×Nat
def prC (p:Pr):List PV := [.val (.int .i64 (p.1:Int)),.val (.int .i64 (p.2:Int))]
theorem Z4H (p:Pr):pureL (prC p):=⟨trivial,trivial,trivial⟩
inductive Up (l:List Pr):Nat→Nat→Prop
 | one {a b:Nat} (h:(a,b)∈l):Up l a b
 | more {a b c:Nat} (h:Up l a b) (k:(b,c)∈l):Up l a c
theorem Zhj {l:List Pr} {a b:Nat}:Up l a b↔∃ c,(c,b)∈l∧(a=c ∨ Up l a c):=by
 constructor
 · intro h
   cases h with
   | one h=>exact⟨a,h,.inl rfl⟩
   | more h k=>exact⟨_,k,.inr h⟩
 · rintro ⟨c, h, rfl | k⟩
   · exact .one h
   · exact .more k h
def Small (l:List Pr):Prop:=∀ p∈l,p.1<64∧p.2<64
theorem Up.lt {l:List Pr} (hl:Small l) {a b:Nat} (h:Up l a b):a<64∧b<64:=by
 induction h with
 | one h=>exact hl _ h
 | more _ k ih=>exact⟨ih.1,(hl _ k).2⟩
def Acy (l:List Pr):Prop:=∃ rank:Nat→Nat,∀ p∈l,rank p.1<rank p.2
theorem Acy.sub {l m:List Pr} (h:Acy m) (hs:∀ p∈l,p∈m):Acy l:=by
 obtain⟨r,hr⟩:=h
 exact⟨r,fun p hp=>hr p (hs p hp)⟩
def ofP (p:Nat→Bool):Nat→Nat
 | 0=>0
 | k+1=>if p k then ofP p k ||| 2 ^ k else ofP p k
theorem Z8h (p:Nat→Bool):∀ k i,(ofP p k).testBit i=(decide (i<k)&&p i)
 | 0,i=>by simp [ofP]
 | k + 1, i => by
   have ih:=Z8h p k i
   unfold ofP
   by_cases hk:i=k
   · subst hk
     cases hp:p i with
     | true=>rw [if_pos rfl,Nat.testBit_or,Nat.testBit_two_pow_self]; simp
     | false=>rw [if_neg (by decide),ih]; simp
   · have h2 : decide (i < k + 1) = decide (i < k) := decide_eq_decide.2 (by omega)
     rw [h2]
     split
     · rw [Nat.testBit_or,Nat.testBit_two_pow_of_ne (by omega),Bool.or_false,ih]
     · exact ih
theorem Zgp (p:Nat→Bool):∀ k,ofP p k<2 ^ k
 | 0=>by simp [ofP]
 | k + 1 => by
   have:=Zgp p k
   have h2:2 ^ (k+1)=2 ^ k+2 ^ k:=by rw [Nat.pow_succ]; omega
   unfold ofP
   split
   · exact Nat.or_lt_two_pow (by omega) (by omega)
   · omega
theorem Zec (p:Nat→Bool):ofP p 64<18446744073709551616:=Zgp p 64
theorem eq64 {a b:Nat} (ha:a<18446744073709551616) (hb:b<18446744073709551616) (h:∀ i,i<64→a.testBit i=b.testBit i):a=b:=by
 apply Nat.eq_of_testBit_eq
 intro i
 by_cases hi:i<64
 · exact h i hi
 · have e : ∀ {x : Nat}, x < 18446744073709551616 → x.testBit i = false := fun {x} hx => Nat.testBit_lt_two_pow (Nat.lt_of_lt_of_le hx (Nat.pow_le_pow_right (n := 2) (by decide) (show 64 ≤ i by omega)))
   rw [e ha,e hb]
open Classical in
noncomputable def abv (l:List Pr) (b:Nat):Nat:=ofP (fun a=>decide (Up l a b)) 64
open Classical in
noncomputable def bel (l:List Pr) (a:Nat):Nat:=ofP (fun b=>decide (Up l a b)) 64
theorem Z6w {l:List Pr} (hl:Small l) (a b:Nat):(abv l b).testBit a=true↔Up l a b:=by
 unfold abv
 rw [Z8h]
 simp only [Bool.and_eq_true,decide_eq_true_eq]
 exact⟨fun h=>h.2,fun h=>⟨(h.lt hl).1,h⟩⟩
theorem Zed {l:List Pr} (hl:Small l) (a b:Nat):(bel l a).testBit b=true↔Up l a b:=by
 unfold bel
 rw [Z8h]
 simp only [Bool.and_eq_true,decide_eq_true_eq]
 exact⟨fun h=>h.2,fun h=>⟨(h.lt hl).2,h⟩⟩
theorem Z7o (l:List Pr) (b:Nat):abv l b<18446744073709551616:=Zec _
theorem Zee (l:List Pr) (a:Nat):bel l a<18446744073709551616:=Zec _
structure Topo (l:List Pr) (S:List Nat):Prop where
 nodup:S.Nodup
 lt:∀ x∈S,x<64
 pred:∀ (t:Nat) (ht:t<S.length) (a:Nat),(a,S[t])∈l→a∈S.take t
theorem Topo.nil (l:List Pr):Topo l []:=⟨List.nodup_nil,fun _ h=>(by cases h),fun t ht=>absurd ht (Nat.not_lt_zero t)⟩
theorem Topo.closed {l:List Pr} {S:List Nat} (h:Topo l S) {a b:Nat} (hp:(a,b)∈l) (hb:b∈S):a∈S:=by
 obtain⟨t,ht,rfl⟩:=List.getElem_of_mem hb
 exact List.mem_of_mem_take (h.pred t ht a hp)
theorem Topo.snoc {l:List Pr} {S:List Nat} (h:Topo l S) {k:Nat} (hk:k ∉ S) (h64:k<64) (hp:∀ a,(a,k)∈l→a∈S):Topo l (S ++ [k]):=by
 refine⟨?_,?_,?_⟩
 · rw [List.nodup_append]
   exact⟨h.nodup,by simp,fun a ha b hb e=>by rw [List.mem_singleton] at hb; subst hb; subst e; exact hk ha⟩
 · intro x hx
   rcases List.mem_append.1 hx with hx|hx
   · exact h.lt x hx
   · rw [List.mem_singleton] at hx; omega
 · intro t ht a ha
   rw [List.length_append,List.length_singleton] at ht
   by_cases htl:t<S.length
   · rw [List.getElem_append_left htl] at ha
     rw [List.take_append_of_le_length (by omega)]
     exact h.pred t htl a ha
   · have e : t = S.length := by omega
     subst e
     rw [List.getElem_append_right (Nat.le_refl _)] at ha
     simp only [Nat.sub_self,List.getElem_singleton] at ha
     rw [List.take_left']
     · exact hp a ha
     · rfl
theorem Z3L:∀ (n:Nat) (S:List Nat),S.Nodup→(∀ x∈S,x<n)→S.length≤n
 | 0, S, _, h => by
   cases S with
   | nil=>exact Nat.le_refl _
   | cons a S=>exact absurd (h a (List.mem_cons_self ..)) (Nat.not_lt_zero a)
 | n + 1, S, hn, h => by
   have hlen:=List.length_erase (a:=n) (l:=S)
   have ih:=Z3L n (S.erase n) (hn.sublist List.erase_sublist) fun x hx=>by
    have h1:=h x (List.mem_of_mem_erase hx)
    have h2:x≠n:=fun e=>by rw [e] at hx; exact (List.Nodup.mem_erase_iff hn).1 hx |>.1 rfl
    omega
   split at hlen<;>omega
theorem Topo.len {l:List Pr} {S:List Nat} (h:Topo l S):S.length≤64:=Z3L 64 S h.nodup h.lt
theorem Topo.all {l:List Pr} {S:List Nat} (h:Topo l S) (h64:S.length=64) {j:Nat} (hj:j<64):j∈S:=by
 apply Classical.byContradiction
 intro hno
 have:=Z3L 64 (j :: S) (List.nodup_cons.2 ⟨hno,h.nodup⟩) fun x hx=>by
  rcases List.mem_cons.1 hx with rfl|hx
  · exact hj
  · exact h.lt x hx
 rw [List.length_cons] at this
 omega
theorem kahn {l:List Pr} (hl:Small l) (hacy:Acy l) {S:List Nat} (h:Topo l S) (hlt:S.length<64):∃ j,j<64∧j ∉ S∧∀ a,(a,j)∈l→a∈S:=by
 obtain⟨rank,hr⟩:=hacy
 have key:∀ m j,rank j≤m→j<64→j ∉ S→∃ j,j<64∧j ∉ S∧∀ a,(a,j)∈l→a∈S:=by
  intro m
  induction m with
  | zero =>
    intro j hm hj hno
    exact⟨j,hj,hno,fun a ha=>by have:=hr _ ha; simp only at this; omega⟩
  | succ m ih =>
    intro j hm hj hno
    by_cases hall:∀ a,(a,j)∈l→a∈S
    · exact⟨j,hj,hno,hall⟩
    · obtain ⟨a, ha⟩ := Classical.not_forall.1 hall
      obtain⟨ha,hna⟩:=Classical.not_imp.1 ha
      have h1:=hr _ ha
      simp only at h1
      exact ih a (by omega) (hl _ ha).1 hna
 have hex:∃ j,j<64∧j ∉ S:=by
  apply Classical.byContradiction
  intro hno
  have hall:∀ j,j<64→j∈S:=fun j hj=>Classical.byContradiction fun h=>hno ⟨j,hj,h⟩
  have hp:(List.range 64).Perm S:=(List.perm_ext_iff_of_nodup List.nodup_range h.nodup).2 fun x=>by
   rw [List.mem_range]
   exact⟨hall x,h.lt x⟩
  have:=hp.length_eq
  rw [List.length_range] at this
  omega
 obtain⟨j,hj,hno⟩:=hex
 exact key _ j (Nat.le_refl _) hj hno
def leftA (l:List Pr) (S:List Nat) (j:Nat):Int:=if j∈S then -1 else (l.countP fun p=>p.2 == j && !decide (p.1∈S):Nat)
def leftB (l:List Pr) (S:List Nat) (k i j:Nat):Int:=if j∈S ++ [k] then -1 else ((l.take i).countP (fun p=>p.2 == j && !decide (p.1∈S ++ [k]))+(l.drop i).countP (fun p=>p.2 == j && !decide (p.1∈S)):Nat)
theorem Z7p {l:List Pr} {S:List Nat} {j:Nat}:leftA l S j=0↔j ∉ S∧∀ a,(a,j)∈l→a∈S:=by
 unfold leftA
 split
 · rename_i h; exact⟨fun e=>absurd e (by decide),fun e=>absurd h e.1⟩
 · rename_i h
   rw [show ((0:Int))=((0:Nat):Int) from rfl,Int.ofNat_inj,List.countP_eq_zero]
   constructor
   · intro h2
     refine⟨h,fun a ha=>?_⟩
     have:=h2 _ ha
     simpa using this
   · rintro ⟨-, h2⟩ p hp
     by_cases e:p.2=j
     · have := h2 p.1 (by rw [← e]; exact hp)
       simp [this]
     · simp [e]
theorem ZcE (l:List Pr) (S:List Nat) (k j:Nat):leftB l S k 0 j=if j=k then -1 else leftA l S j:=by
 unfold leftB leftA
 rw [List.take_zero,List.drop_zero,List.countP_nil,Nat.zero_add]
 by_cases hk:j=k
 · rw [if_pos hk,if_pos (by rw [hk]; simp)]
 · rw [if_neg hk]
   by_cases hj:j∈S
   · rw [if_pos hj,if_pos (List.mem_append_left _ hj)]
   · rw [if_neg hj,if_neg (by simp [hj,hk])]
theorem Zef (l:List Pr) (S:List Nat) (k j:Nat):leftB l S k l.length j=leftA l (S ++ [k]) j:=by
 unfold leftB leftA
 rw [List.take_length,List.drop_length,List.countP_nil,Nat.add_zero]
theorem ZcF {l:List Pr} {S:List Nat} {k i:Nat} (hi:i<l.length) (j:Nat) (hT:Topo l S) (hk:k ∉ S) (hp:∀ a,(a,k)∈l→a∈S) :
 leftB l S k (i+1) j=if l[i].1=k∧j=l[i].2 then leftB l S k i j-1 else leftB l S k i j:=by
 have htk:l.take (i+1)=l.take i ++ [l[i]]:=by rw [List.take_add_one,List.getElem?_eq_getElem hi]; rfl
 have hdr:l.drop i=l[i] :: l.drop (i+1):=List.drop_eq_getElem_cons hi
 have hmem:l[i]∈l:=List.getElem_mem hi
 unfold leftB
 rw [htk,hdr,List.countP_append,List.countP_cons,List.countP_nil,Nat.zero_add,List.countP_cons]
 generalize l[i]=p at hmem
 by_cases hpk:p.1=k
 · have hkk : (k, p.2) ∈ l := by rw [← hpk]; exact hmem
   have hp2:p.2 ∉ S ++ [k]:=by
    rw [List.mem_append,List.mem_singleton]
    rintro (h|h)
    · exact hk (hT.closed hkk h)
    · rw [h] at hkk; exact hk (hp k hkk)
   by_cases hj:j=p.2
   · have e1 : (p.2 == j && !decide (p.1 ∈ S ++ [k])) = false := by rw [hpk]; simp
     have e2:(p.2 == j && !decide (p.1∈S))=true:=by rw [hpk,hj]; simp [hk]
     have hjn:¬ j∈S ++ [k]:=hj▸hp2
     rw [e1,e2,if_pos (show p.1=k∧j=p.2 from ⟨hpk,hj⟩),if_neg hjn,if_neg hjn,if_neg Bool.false_ne_true,if_pos rfl]
     omega
   · rw [if_neg (show ¬ (p.1 = k ∧ j = p.2) from fun h => hj h.2)]
     have e:(p.2 == j)=false:=by rw [beq_eq_false_iff_ne]; exact Ne.symm hj
     simp only [e,Bool.false_and,Bool.false_eq_true,if_false,Nat.add_zero]
 · rw [if_neg (show ¬ (p.1 = k ∧ j = p.2) from fun h => hpk h.1)]
   have e:decide (p.1∈S ++ [k])=decide (p.1∈S):=decide_eq_decide.2 (by rw [List.mem_append,List.mem_singleton]; exact⟨fun h=>h.elim id fun h=>absurd h hpk,.inl⟩)
   rw [e]
   by_cases hjn:j∈S ++ [k]
   · rw [if_pos hjn,if_pos hjn]
   · rw [if_neg hjn,if_neg hjn]; omega
theorem ZfH (l:List Pr) (S:List Nat) (k i j:Nat) : -1≤leftB l S k i j∧leftB l S k i j≤l.length:=by
 unfold leftB
 have h1:=List.countP_le_length (p:=fun p:Pr=>p.2 == j && !decide (p.1∈S ++ [k])) (l:=l.take i)
 have h2:=List.countP_le_length (p:=fun p:Pr=>p.2 == j && !decide (p.1∈S)) (l:=l.drop i)
 rw [List.length_take] at h1
 rw [List.length_drop] at h2
 split<;>omega
def cntP (l:List Pr) (j:Nat):Nat:=l.countP fun p=>p.2 == j
theorem Zeg {l:List Pr} {i:Nat} (hi:i<l.length) (j:Nat):cntP (l.take (i+1)) j=if j=l[i].2 then cntP (l.take i) j+1 else cntP (l.take i) j:=by
 have htk:l.take (i+1)=l.take i ++ [l[i]]:=by rw [List.take_add_one,List.getElem?_eq_getElem hi]; rfl
 unfold cntP
 rw [htk,List.countP_append,List.countP_singleton]
 by_cases h:j=l[i].2
 · rw [if_pos h]; simp [h]
 · rw [if_neg h]; simp [Ne.symm h]
theorem ZfI (l:List Pr) (j:Nat):leftA l [] j=(cntP l j:Nat):=by
 unfold leftA cntP
 simp
theorem ZgR (l:List Pr) (j:Nat):cntP l j≤l.length:=List.countP_le_length
def tab (f:Nat→List PV):List (List PV):=(List.range 64).map f
theorem ZO (f:Nat→List PV):(tab f).length=64:=by simp [tab]
theorem Z2C {f:Nat→List PV} {i:Nat} (hi:i<64):(tab f).getD i []=f i:=by
 rw [List.getD_eq_getElem?_getD,tab,List.getElem?_map,List.getElem?_range hi]; rfl
theorem Zeh {f:Nat→List PV} {i:Nat} (r:List PV) (hi:i<64):(tab f).set i r=tab fun j=>if j=i then r else f j:=by
 apply List.ext_getElem?
 intro j
 rw [List.getElem?_set,ZO]
 unfold tab
 rw [List.getElem?_map,List.getElem?_map]
 by_cases hj:j<64
 · rw [List.getElem?_range hj]
   by_cases e:i=j
   · subst e; simp [hi]
   · rw [if_neg e]; simp [Ne.symm e]
 · rw [List.getElem?_eq_none (by simpa using hj)]
   by_cases e:i=j
   · subst e; exact absurd hi hj
   · rw [if_neg e]; rfl
theorem Z3p {f g:Nat→List PV} (h:∀ j,j<64→f j=g j):tab f=tab g:=List.map_congr_left fun j hj=>h j (List.mem_range.1 hj)
theorem Z1i {f:Nat→List PV} (h:∀ j,pureL (f j)):pureLL (tab f):=by
 refine (Z1W _ _).2 fun r hr=>?_
 obtain⟨j,_,rfl⟩:=List.mem_map.1 hr
 exact h j
theorem ZgS (r:List PV):List.replicate 64 r=tab fun _=>r:=by rw [tab,List.map_const',List.length_range]
def intR (f:Nat→Int) (j:Nat):List PV := [.val (.int .i64 (f j))]
theorem Z4I (f:Nat→Int) (j:Nat):pureL (intR f j):=⟨trivial,trivial⟩
section
variable {P:Program} {C:Ctx} {e:Env} {h:Heap} {F:Froz} {φ:Locs} {a:Act} {w:World}
theorem St'.renF {n:Nat} (s:St' C (fun i=>n≤i) e h F φ a w) (ρ:Nat→Nat) {n':Nat} {e':Env} {h':Heap} (he:∀ k p,e' k=some p→∃ p0,e k=some p0∧RenP ρ (fun i=>i<n') p0 p) (hh:∀ k b,h' k=some b→k<n'∧∃ b0,h (ρ k)=some b0∧RenB ρ (fun i=>i<n') b0 b)
 (hinj:∀ k k' b b',h' k=some b→h' k'=some b'→ρ k=ρ k'→k=k') {m:Nat} (hdom:C.dom m) (hm:m≤n') (hρ:∀ i,i<m→ρ i=i):∃ φ',St' C (fun i=>n'≤i) e' h' F φ' a w:=by
 let φ':Locs:=fun i=>if i<n' then φ (ρ i) else none
 have hφ:∀ i x,i<n'→φ (ρ i)=some x→φ' i=some x:=fun i x hi hx=>by simp only [φ',hi,if_true]; exact hx
 refine⟨φ',{ nt:=s.nt,glob:=s.glob,marks:=s.marks,loc0:=fun i x hx=>?_,free:=fun i hi=>?_,env:=fun k p hp=>?_,froz:=s.froz,ext:=s.ext,old:=s.old,os:=s.os,tape:=s.tape,output:=s.output,size:=s.size,kept:=s.kept,live:=fun i b hb=>?_,sep:=?_ }⟩
 · have : ¬ i < n' := by omega
   simp only [φ',this,if_false]
 · obtain ⟨p0, h0, hr⟩ := he _ _ hp
   exact⟨(s.env k p0 h0).1,hr.rep hφ (s.env k p0 h0).2⟩
 · by_cases him : i < m
   · exact hφ i x (by omega) (by rw [hρ i him]; exact s.loc0 i x hx)
   · rw [hdom i (by omega)] at hx; cases hx
 · obtain ⟨hi, b0, h0, hr⟩ := hh _ _ hb
   obtain⟨loc,h1,h2,h3⟩:=s.live _ b0 h0
   refine⟨loc,hφ i loc hi h1,?_,h3⟩
   cases hr with
   | same hp=>exact h2.names hp
   | gen _ hz he hl hcl hrp =>
     have h2:=h2.cellsB (by rw [he]; exact hz)
     refine .inl ⟨by rw [← he]; exact h2.esz,h2.pos,by rw [← hl]; exact h2.len,h2.cap,h2.max,fun c hc=>?_,fun hc=>?_⟩
     · obtain ⟨k, hk, rfl⟩ := List.getElem_of_mem hc
       have e1:b.elems[k]=b.elems.getD k []:=by simp [List.getD_eq_getElem?_getD,hk]
       rw [e1,← hcl k hk]
       exact h2.el _ (by have hk' : k < b0.elems.length := by rw [hl]; exact hk
                         simp [List.getD_eq_getElem?_getD,hk'])
     · obtain ⟨x, hx, hs, cells, t, hg, hsz, hrep⟩ := h2.room hc
       refine⟨x,hx,hs,cells,t,hg,hsz,fun i j hi hj=>⟨(hrep i j hi hj).1,?_⟩⟩
       exact (hrp i j (by rw [← hl,h2.len]; exact hi) (by rw [← he,h2.esz]; exact hj)).rep hφ (hrep i j hi hj).2
 · intro i j bi bj li lj k hi hj hli hlj hki hkj
   obtain⟨hin,b0,h0,_⟩:=hh _ _ hi
   obtain⟨hjn,c0,g0,_⟩:=hh _ _ hj
   have hli':φ (ρ i)=some li:=by simpa only [φ',show i<n' from hin,if_true] using hli
   have hlj':φ (ρ j)=some lj:=by simpa only [φ',show j<n' from hjn,if_true] using hlj
   exact hinj _ _ _ _ hi hj (s.sep _ _ b0 c0 li lj k h0 g0 hli' hlj' hki hkj)
theorem ZfK (ρ:Nat→Nat) {n n':Nat} {e':Env} {h':Heap} (he:∀ k p,e' k=some p→∃ p0,e k=some p0∧RenP ρ (fun i=>i<n') p0 p) (hh:∀ k b,h' k=some b→k<n'∧∃ b0,h (ρ k)=some b0∧RenB ρ (fun i=>i<n') b0 b)
 (hinj:∀ k k' b b',h' k=some b→h' k'=some b'→ρ k=ρ k'→k=k') {m:Nat} (hdom:C.dom m) (hm:m≤n') (hρ:∀ i,i<m→ρ i=i):Sub C n e h n' e' h':=by
 rintro a w ⟨F,φ,s⟩
 obtain⟨φ',s'⟩:=s.renF ρ he hh hinj hdom hm hρ
 exact⟨F,φ',s'⟩
def tabH (h:Heap) (D n:Nat) (f:Nat→PV) (K:Nat) (g:Nat→Bx):Heap:=fun k =>
 bif Nat.beq k D then some ⟨1,(List.range 64).map fun j => [f j]⟩ else bif Nat.ble n k&&Nat.blt k (n+K) then some (g (k-n)) else h k
def ownsTo (n i:Nat) (j:Nat):PV:=if j<i then .own (n+j) else .vec [] true
theorem Z2v (h:Heap) (D n:Nat) (f:Nat→PV) (K:Nat) (g:Nat→Bx):tabH h D n f K g D=some ⟨1,(List.range 64).map fun j => [f j]⟩:=by
 unfold tabH
 rw [show Nat.beq D D=true from Nat.beq_refl D]; rfl
theorem Z27 (h:Heap) {D n:Nat} (hD:D<n) (f:Nat→PV) {K:Nat} (g:Nat→Bx) {j:Nat} (hj:j<K):tabH h D n f K g (n+j)=some (g j):=by
 unfold tabH
 have e1:Nat.beq (n+j) D=false:=Bool.eq_false_iff.2 fun hb=>by have:=Nat.eq_of_beq_eq_true hb; omega
 have e2:Nat.ble n (n+j)=true:=Eq.mpr Nat.ble_eq (by omega)
 have e3:Nat.blt (n+j) (n+K)=true:=Eq.mpr Nat.blt_eq (by omega)
 rw [e1,e2,e3]
 simp
theorem Z28 (h:Heap) {D n:Nat} (f:Nat→PV) {K:Nat} (g:Nat→Bx) {k:Nat} (hk:k≠D) (hn:k<n ∨ n+K≤k):tabH h D n f K g k=h k:=by
 unfold tabH
 have e1:Nat.beq k D=false:=Bool.eq_false_iff.2 fun hb=>hk (Nat.eq_of_beq_eq_true hb)
 rw [e1]
 rcases hn with hn|hn
 · have e2 : Nat.ble n k = false := Bool.eq_false_iff.2 fun hb => by have := Nat.le_of_ble_eq_true hb; omega
   rw [e2]; rfl
 · have e2 : Nat.blt k (n + K) = false := Bool.eq_false_iff.2 fun hb => by have := Eq.mp Nat.blt_eq hb; omega
   rw [e2]; simp
theorem Z7q {h:Heap} {D n:Nat} (hD:D<n) {f:Nat→PV} {K:Nat} {g:Nat→Bx} {k:Nat} {b:Bx} (hk:tabH h D n f K g k=some b):(k=D∧b=⟨1,(List.range 64).map fun j => [f j]⟩) ∨ (∃ j,j<K∧k=n+j∧b=g j) ∨ (k≠D∧(k<n ∨ n+K≤k)∧h k=some b):=by
 by_cases h1:k=D
 · subst h1; rw [Z2v] at hk; cases hk; exact .inl ⟨rfl,rfl⟩
 · by_cases h2 : n ≤ k ∧ k < n + K
   · obtain ⟨j, rfl⟩ : ∃ j, k = n + j := ⟨k - n, by omega⟩
     rw [Z27 h hD f g (by omega)] at hk
     cases hk
     exact .inr (.inl ⟨j,by omega,rfl,rfl⟩)
   · have h3 : k < n ∨ n + K ≤ k := by omega
     rw [Z28 h f g h1 h3] at hk
     exact .inr (.inr ⟨h1,h3,hk⟩)
theorem Z4J {f:Nat→List PV} {i:Nat} (r:List PV) (hi:i<64):((List.range 64).map f).set i r=(List.range 64).map fun j=>if j=i then r else f j:=by
 apply List.ext_getElem?
 intro j
 rw [List.getElem?_set,List.length_map,List.length_range,List.getElem?_map,List.getElem?_map]
 by_cases hj:j<64
 · rw [List.getElem?_range hj]
   by_cases e:i=j
   · subst e; simp [hi]
   · rw [if_neg e]; simp [Ne.symm e]
 · rw [List.getElem?_eq_none (by simpa using hj)]
   by_cases e:i=j
   · subst e; exact absurd hi hj
   · rw [if_neg e]; rfl
theorem Z19 {f:Nat→List PV} {i:Nat} (hi:i<64):((List.range 64).map f).getD i []=f i:=by
 rw [List.getD_eq_getElem?_getD,List.getElem?_map,List.getElem?_range hi]; rfl
theorem Zei {h:Heap} {D n i:Nat} (hD:D<n) (hi:i<64) (esz:Nat) :
 ((tabH h D n (ownsTo n i) i (fun _=>⟨esz,[]⟩)).upd D ⟨1,((List.range 64).map fun j => [ownsTo n i j]).set i ((((List.range 64).map fun j => [ownsTo n i j]).getD i []).set 0 (.own (n+i)))⟩).upd (n+i) ⟨esz,[]⟩=tabH h D n (ownsTo n (i+1)) (i+1) (fun _=>⟨esz,[]⟩):=by
 funext k
 rw [Z19 hi,Z4J _ hi]
 by_cases h1:k=n+i
 · subst h1
   rw [Heap.upd_same,Z27 _ hD _ _ (Nat.lt_succ_self i)]
 · rw [Heap.upd_ne _ _ h1]
   by_cases h2:k=D
   · subst h2
     rw [Heap.upd_same,Z2v]
     refine congrArg (fun l=>some (Bx.mk 1 l)) (List.map_congr_left fun j hj=>?_)
     unfold ownsTo
     by_cases hji:j=i
     · subst hji; rw [if_pos rfl,if_pos (Nat.lt_succ_self _)]; rfl
     · rw [if_neg hji]
       by_cases hlt:j<i
       · rw [if_pos hlt,if_pos (by omega)]
       · rw [if_neg hlt,if_neg (by omega)]
   · rw [Heap.upd_ne _ _ h2]
     by_cases h3:n≤k∧k<n+i
     · obtain ⟨j, rfl⟩ : ∃ j, k = n + j := ⟨k - n, by omega⟩
       rw [Z27 _ hD _ _ (by omega:j<i),Z27 _ hD _ _ (by omega:j<i+1)]
     · rw [Z28 _ _ _ h2 (by omega),Z28 _ _ _ h2 (by omega)]
theorem ZcJ {n D:Nat} (hD:D<n) (hb:h D=some ⟨1,List.replicate 64 [.vec [] true]⟩) (esz:Nat) (hp:0<esz):Sub C n e h (n+64) e (tabH h D n (fun j=>.own (n+j)) 64 (fun _=>⟨esz,[]⟩)):=by
 have key:∀ i,i≤64→Sub C n e h (n+i) e (tabH h D n (ownsTo n i) i (fun _=>⟨esz,[]⟩)):=by
  intro i
  induction i with
  | zero =>
    intro _
    have e0:tabH h D n (ownsTo n 0) 0 (fun _=>⟨esz,[]⟩)=h:=by
     funext k
     by_cases h2:k=D
     · subst h2
       rw [Z2v,hb]
       have:∀ l:List Nat,(l.map fun j => [ownsTo n 0 j])=List.replicate l.length [PV.vec [] true]:=by
        intro l
        induction l with
        | nil=>rfl
        | cons x l ih=>rw [List.map_cons,ih]; rfl
       rw [this,List.length_range]
     · exact Z28 _ _ _ h2 (by omega)
    rw [e0]
    exact Z7K
  | succ i ih =>
    intro hi
    have hi':i<64:=by omega
    refine Z5U (ih (by omega)) ?_
    have e1:=Zei (h:=h) hD hi' esz
    rw [← e1]
    refine Z67 (id:=D) (b:=⟨1,(List.range 64).map fun j => [ownsTo n i j]⟩) (i0:=i) (j0:=0) (Z2v _ _ _ _ _ _) (by simpa using hi') (by rw [Z19 hi']; exact Nat.zero_lt_one) ?_ esz hp (by omega)
    rw [Z19 hi']
    show (ownsTo n i i)=_
    unfold ownsTo
    rw [if_neg (Nat.lt_irrefl i)]
 have e2:tabH h D n (ownsTo n 64) 64 (fun _=>⟨esz,[]⟩)=tabH h D n (fun j=>.own (n+j)) 64 (fun _=>⟨esz,[]⟩):=by
  unfold tabH
  have:((List.range 64).map fun j => [ownsTo n 64 j])=(List.range 64).map fun j => [PV.own (n+j)]:=List.map_congr_left fun j hj=>by
   unfold ownsTo
   rw [if_pos (List.mem_range.1 hj)]
  rw [this]
 rw [← e2]
 exact key 64 (Nat.le_refl _)
end
noncomputable def jun (l:List Pr) (r:Nat):Nat:=bel l r ||| 2 ^ r
theorem Zat {l:List Pr} (hl:Small l) (r b:Nat):(jun l r).testBit b=true↔Up l r b ∨ b=r:=by
 unfold jun
 rw [Nat.testBit_or,Bool.or_eq_true,Zed hl,Nat.testBit_two_pow]
 simp only [decide_eq_true_eq]
 exact⟨fun h=>h.imp id Eq.symm,fun h=>h.imp id Eq.symm⟩
theorem Zbx (l:List Pr) {r:Nat} (hr:r<64):jun l r<18446744073709551616:=Z38 (Zee l r) (Z16 hr)
def stepJ (l:List Pr) (s:Nat):Nat:=l.foldl (fun n x=>if s.testBit x.1=true then n ||| 2 ^ x.2 else n) s
theorem Z7r (s b:Nat):∀ (l:List Pr) (n:Nat),(l.foldl (fun n x=>if s.testBit x.1=true then n ||| 2 ^ x.2 else n) n).testBit b=true↔n.testBit b=true ∨ ∃ x∈l,s.testBit x.1=true∧x.2=b
 | [],n=>by simp
 | x :: l, n => by
   rw [List.foldl_cons,Z7r s b l]
   by_cases hx:s.testBit x.1=true
   · rw [if_pos hx, Nat.testBit_or, Bool.or_eq_true, Nat.testBit_two_pow]
     simp only [decide_eq_true_eq]
     constructor
     · rintro ((h | h) | ⟨y, hy, h⟩)
       · exact .inl h
       · exact .inr ⟨x,List.mem_cons_self ..,hx,h⟩
       · exact .inr ⟨y,List.mem_cons_of_mem _ hy,h⟩
     · rintro (h | ⟨y, hy, h1, h2⟩)
       · exact .inl (.inl h)
       · rcases List.mem_cons.1 hy with rfl | hy
         · exact .inl (.inr h2)
         · exact .inr ⟨y,hy,h1,h2⟩
   · rw [if_neg hx]
     constructor
     · rintro (h | ⟨y, hy, h⟩)
       · exact .inl h
       · exact .inr ⟨y,List.mem_cons_of_mem _ hy,h⟩
     · rintro (h | ⟨y, hy, h1, h2⟩)
       · exact .inl h
       · rcases List.mem_cons.1 hy with rfl | hy
         · exact absurd h1 hx
         · exact .inr ⟨y,hy,h1,h2⟩
theorem Z4L (l:List Pr) (s b:Nat):(stepJ l s).testBit b=true↔s.testBit b=true ∨ ∃ x∈l,s.testBit x.1=true∧x.2=b:=Z7r s b l s
theorem ZcM {l:List Pr} {i:Nat} (hi:i<l.length) (s n:Nat):(l.take (i+1)).foldl (fun n x=>if s.testBit x.1=true then n ||| 2 ^ x.2 else n) n=if s.testBit l[i].1=true then (l.take i).foldl (fun n x=>if s.testBit x.1=true then n ||| 2 ^ x.2 else n) n ||| 2 ^ l[i].2 else (l.take i).foldl (fun n x=>if s.testBit x.1=true then n ||| 2 ^ x.2 else n) n:=by
 have e:l.take (i+1)=l.take i ++ [l[i]]:=by rw [List.take_add_one,List.getElem?_eq_getElem hi]; rfl
 rw [e,List.foldl_append]; rfl
theorem Z9b {l:List Pr} (hl:Small l) (s:Nat):∀ (n:Nat),n<18446744073709551616→l.foldl (fun n x=>if s.testBit x.1=true then n ||| 2 ^ x.2 else n) n<18446744073709551616:=by
 induction l with
 | nil=>exact fun n hn=>hn
 | cons x l ih =>
   intro n hn
   rw [List.foldl_cons]
   refine ih (fun p hp=>hl p (List.mem_cons_of_mem _ hp)) _ ?_
   split
   · exact Z38 hn (Z16 (hl x (List.mem_cons_self ..)).2)
   · exact hn
theorem ZfS {l:List Pr} (hl:Small l) {s:Nat} (hs:s<18446744073709551616):stepJ l s<18446744073709551616:=Z9b hl s s hs
structure Reach (l:List Pr) (r s:Nat):Prop where
 lt:s<18446744073709551616
 self:s.testBit r=true
 sound:∀ b,s.testBit b=true→Up l r b ∨ b=r
theorem Reach.init {l:List Pr} {r:Nat} (hr:r<64):Reach l r (2 ^ r):=⟨Z16 hr,Nat.testBit_two_pow_self,fun b hb=>by rw [Nat.testBit_two_pow] at hb; exact .inr (of_decide_eq_true hb).symm⟩
theorem Reach.step {l:List Pr} (hl:Small l) {r s:Nat} (h:Reach l r s):Reach l r (stepJ l s):=by
 refine⟨ZfS hl h.lt,(Z4L l s r).2 (.inl h.self),fun b hb=>?_⟩
 rcases (Z4L l s b).1 hb with hb|⟨x,hx,h1,rfl⟩
 · exact h.sound b hb
 · rcases h.sound _ h1 with h2 | h2
   · exact .inl (.more h2 hx)
   · refine .inl (.one ?_)
     rw [← h2]; exact hx
theorem Reach.done {l:List Pr} (hl:Small l) {r s:Nat} (hr:r<64) (h:Reach l r s) (he:stepJ l s=s):s=jun l r:=by
 refine eq64 h.lt (Zbx l hr) fun b hb=>?_
 rw [Bool.eq_iff_iff,Zat hl]
 refine⟨h.sound b,?_⟩
 have hcl:∀ a b,s.testBit a=true→(a,b)∈l→s.testBit b=true:=fun a b ha hab=>by
  rw [← he]
  exact (Z4L l s b).2 (.inr ⟨(a,b),hab,ha,rfl⟩)
 rintro (hu|rfl)
 · induction hu with
   | one k=>exact hcl _ _ h.self k
   | more _ k ih=>exact hcl _ _ (ih (hl _ k).1) k
 · exact h.self
theorem Zau (l:List Pr) (s:Nat) (h:stepJ l s≠s):s<stepJ l s:=by
 have hle:s≤stepJ l s:=by
  have e:s ||| stepJ l s=stepJ l s:=by
   apply Nat.eq_of_testBit_eq
   intro i
   rw [Nat.testBit_or]
   cases hi:s.testBit i with
   | true=>rw [(Z4L l s i).2 (.inl hi)]; rfl
   | false=>rw [Bool.false_or]
  rw [← e]
  exact Nat.left_le_or
 omega
noncomputable def cloTo (l:List Pr) (s k:Nat):Nat:=((List.range k).filter fun i=>s.testBit i).foldl (fun o r=>if 1≤r then o ||| jun l r else o) 0
noncomputable def clo (l:List Pr) (s:Nat):Nat:=cloTo l s 64
theorem Zep (l:List Pr) (s:Nat):clo l s=(mem s).foldl (fun o r=>if 1≤r then o ||| jun l r else o) 0:=rfl
theorem Z7s (l:List Pr) (s k:Nat):cloTo l s (k+1)=if s.testBit k=true∧1≤k then cloTo l s k ||| jun l k else cloTo l s k:=by
 unfold cloTo
 rw [List.range_succ,List.filter_append,List.foldl_append]
 by_cases h:s.testBit k=true
 · rw [List.filter_cons_of_pos (by simpa using h)]
   by_cases h1:1≤k
   · simp [h,h1]
   · simp [h,h1]
 · rw [List.filter_cons_of_neg (by simpa using h)]
   simp [h]
theorem Zeq (l:List Pr) (s:Nat):cloTo l s 1=0:=by
 rw [Z7s,if_neg (by omega)]; rfl
theorem Zav (l:List Pr):∀ (rs:List Nat) (o:Nat),(∀ r∈rs,r<64)→o<18446744073709551616→rs.foldl (fun o r=>if 1≤r then o ||| jun l r else o) o<18446744073709551616
 | [],o,_,ho=>ho
 | r :: rs, o, h, ho => by
   rw [List.foldl_cons]
   refine Zav l rs _ (fun x hx=>h x (List.mem_cons_of_mem _ hx)) ?_
   split
   · exact Z38 ho (Zbx l (h r (List.mem_cons_self ..)))
   · exact ho
theorem ZfT (l:List Pr) (s:Nat) {k:Nat} (hk:k≤64):cloTo l s k<18446744073709551616:=Zav l _ 0 (fun r hr=>by have:=List.mem_range.1 (List.mem_filter.1 hr).1;omega) (by decide)
theorem Zby (l:List Pr) (b:Nat):∀ (rs:List Nat) (o:Nat),(rs.foldl (fun o r=>if 1≤r then o ||| jun l r else o) o).testBit b=true↔o.testBit b=true ∨ ∃ r∈rs,1≤r∧(jun l r).testBit b=true
 | [],o=>by simp
 | r :: rs, o => by
   rw [List.foldl_cons,Zby l b rs]
   by_cases h1:1≤r
   · rw [if_pos h1, Nat.testBit_or, Bool.or_eq_true]
     constructor
     · rintro ((h | h) | ⟨x, hx, h⟩)
       · exact .inl h
       · exact .inr ⟨r,List.mem_cons_self ..,h1,h⟩
       · exact .inr ⟨x,List.mem_cons_of_mem _ hx,h⟩
     · rintro (h | ⟨x, hx, h2, h3⟩)
       · exact .inl (.inl h)
       · rcases List.mem_cons.1 hx with rfl | hx
         · exact .inl (.inr h3)
         · exact .inr ⟨x,hx,h2,h3⟩
   · rw [if_neg h1]
     constructor
     · rintro (h | ⟨x, hx, h⟩)
       · exact .inl h
       · exact .inr ⟨x,List.mem_cons_of_mem _ hx,h⟩
     · rintro (h | ⟨x, hx, h2, h3⟩)
       · exact .inl h
       · rcases List.mem_cons.1 hx with rfl | hx
         · exact absurd h2 h1
         · exact .inr ⟨x,hx,h2,h3⟩
theorem ZgX {l:List Pr} (s b:Nat) (hs:s<18446744073709551616):(clo l s).testBit b=true↔∃ r,s.testBit r=true∧1≤r∧(jun l r).testBit b=true:=by
 rw [Zep,Zby]
 constructor
 · rintro (h | ⟨r, hr, h⟩)
   · simp at h
   · exact⟨r,(Z1P hs).1 hr,h⟩
 · rintro ⟨r, hr, h⟩
   exact .inr ⟨r,(Z1P hs).2 hr,h⟩
structure GoodL (l:List Pr):Prop where
 asc:l.Pairwise fun p q=>p.1<q.1 ∨ p.1=q.1∧p.2<q.2
 role:∀ p∈l,1≤p.1∧p.1≤6∧1≤p.2∧p.2≤6∧p.1≠p.2
 acy:Acy l
theorem GoodL.small {l:List Pr} (h:GoodL l):Small l:=fun p hp=>by have:=h.role p hp; omega
end Go.Proofs.YtjpkfigmmmngnaaGreatDoor
namespace Go.Proofs.YtjpkfigmmmngnaaGreatDoor
open Go.RowKit
attribute [local irreducible] aw opsK dK
def Nice:Nat→Fm→Prop
 | 0,_=>False
 | d+1,f=>0≤f.op∧f.op≤255∧f.roles.length≤1000∧f.args.length≤1000∧∀ a∈f.args,Nice d a
theorem Wf.nice:∀ (d:Nat) (f:Fm),Wf f→f.depth≤d→Nice d f
 | 0,f,_,h=>by rw [Fm.depth_eq] at h; omega
 | d + 1, f, w, h => by
   have hi:=w.inv'
   have hm:mostM f.op≤8:=by
    unfold mostM
    split
    · omega
    · split<;>omega
   have ho:operandsM f.op≤2:=by
    unfold operandsM
    split
    · omega
    · split<;>omega
   refine⟨by have:=hi.lo; omega,by have:=hi.hi; omega,by have:=hi.most; omega,by have:=hi.ar; omega,fun a ha=>?_⟩
   obtain⟨i,hil,rfl⟩:=List.getElem_of_mem ha
   have:=Z1c hil
   have:=f.depth_eq
   exact Wf.nice d _ (w.arg _ (List.getElem_mem _)).1 (by omega)
set_option maxHeartbeats 2000000 in
theorem Z9n:∀ (d:Nat) (f:Fm),Nice d f→Spec Tryz.prog 13 [.agg (fC .i64 f)] (· = .agg (fC .u8 f)):=by
 intro d
 induction d with
 | zero=>intro f hf; exact hf.elim
 | succ d ih =>
   rintro f ⟨hop0,hop1,hrl,hal,harg⟩
   have hll:(f.args.map (cellsK .i64)).length=f.args.length:=by simp
   have hnl:=ZB f.roles
   have hconv:IntKind.u8.wrap f.op=f.op:=by rw [IntKind.wrap_u8]; omega
   refine Z3 ok13 (Nat.le_of_ble_eq_true rfl) fun C hC=>?_
   refine Zm ?_
   refine Za ?_
   refine Z6 rfl rfl rfl ?_
   (first|refine st ?_|(apply B<;>intro hb<;>try cases hb))
   (first|refine st ?_|(apply B<;>intro hb<;>try cases hb))
   (first|refine st ?_|(apply B<;>intro hb<;>try cases hb))
   refine Z5T [8] ?_
   iterate 2 (first|refine st ?_|(apply B<;>intro hb<;>try cases hb))
   refine Zq (Z3M rfl hconv) rfl rfl ?_
   (refine go ?_;repeat' (apply B<;>intro hb<;>try cases hb))
   refine Zb9 (Z5W (l := []) (m:=nums f.roles) rfl rfl (fun c hc=>by cases hc) (fun c hc=>by obtain⟨x,_,rfl⟩:=List.mem_map.1 hc; rfl) (by show ((0:Nat)+(nums f.roles).length)*8≤_; rw [hnl];omega)) rfl rfl ?_
   rw [List.nil_append]
   iterate 9 (first|refine st ?_|(apply B<;>intro hb<;>try cases hb))
   refine Ze (Z1s (id:=11) (b:=⟨4,[[.val (.int .u8 f.op),.val (.int .i64 f.n),.vec (nums f.roles) false,.vec [] true]]⟩) (i0:=0) (j0:=3) rfl (show 0<1 by decide) (show 3<4 by decide) rfl 4 (by decide) (by decide)) ?_
   (refine go ?_;repeat' (apply B<;>intro hb<;>try cases hb))
   refine Z1S hC (fun i=>i≤f.args.length) (fun i=>f.args.length-i) 3 (fun i => [(2,.ptr 0 0 0),(3,.ptr 1 0 0),(17,.vec (f.args.map (cellsK .i64)) false),(18,.val (.int .i64 f.args.length)),(19,.val (.int .i64 (i:Int)))])
    (fun i => [(0,⟨4,[[.val (.int .u8 0),.val (.int .i64 0),.vec [] true,.vec [] true]]⟩),(1,⟨4,[[.val (.int .u8 f.op),.val (.int .i64 f.n),.vec (nums f.roles) false,.own 2]]⟩),(2,⟨4,(f.args.take i).map (cellsK .u8)⟩)]) (by omega) 0 (by omega) (fun i=>mv 1 11 (mv 2 13 i)) (fun i hi=>by omega) (ZK rfl)
    ⟨⟨_,rfl,.ptr (ρ:=fun i=>mv 1 11 (mv 2 13 i)) 0 0 0 (by decide)⟩,⟨_,rfl,.ptr (ρ:=fun i=>mv 1 11 (mv 2 13 i)) 1 0 0 (by decide)⟩,⟨_,rfl,.pure _ (Z1M _ _)⟩,⟨_,by rw [← hll]; rfl,.pure _ trivial⟩,⟨_,rfl,.pure _ trivial⟩,trivial⟩
    ⟨⟨by omega,_,rfl,.same _ ⟨⟨trivial,trivial,trivial,trivial,trivial⟩,trivial⟩⟩,⟨by omega,_,rfl,RenB.single ⟨.pure _ trivial,.pure _ trivial,.pure _ (Z9 _),.own (ρ:=fun i=>mv 1 11 (mv 2 13 i)) 2 (by decide),trivial⟩ rfl⟩,⟨by omega,_,rfl,.same _ trivial⟩,trivial⟩ ?_
   intro i hi
   have hinc:IntKind.i64.wrap ((i:Int)+1)=((i+1:Nat):Int):=IntWalk.i64_in _ ⟨by omega,by omega⟩
   have hcl:((f.args.take i).map (cellsK .u8)).length=i:=by rw [List.length_map,List.length_take]; omega
   iterate 2 (first|refine st ?_|(apply B<;>intro hb<;>try cases hb))
   refine Zi rfl rfl rfl (fun hb=>?_) (fun hb=>?_)
   · have hil : i < f.args.length := by simpa using hb
     (refine go ?_;repeat' (apply B<;>intro hb<;>try cases hb))
     refine Z7 (Zl (xs:=f.args) rfl rfl i rfl hil (ZA _ _)) rfl rfl ?_
     rw [ZI .i64 f.args[i]]
     (refine go ?_;repeat' (apply B<;>intro hb<;>try cases hb))
     refine Zt (ih f.args[i] (harg _ (List.getElem_mem _))) rfl rfl rfl ⟨Zk _ _,trivial⟩ ?_
     (refine go ?_;repeat' (apply B<;>intro hb<;>try cases hb))
     refine Zq (Zy (k:=2) (m := [fC .u8 f.args[i]]) (fl:=true) rfl rfl rfl (fun c hc=>by rw [List.mem_singleton.1 hc]; rfl) rfl (by
      show (((f.args.take i).map (cellsK .u8)).length+1)*64≤_
      rw [hcl];omega)) rfl rfl ?_
     have happ:(f.args.take i).map (cellsK .u8) ++ [fC .u8 f.args[i]]=(f.args.take (i+1)).map (cellsK .u8):=by
      rw [List.take_add_one,List.getElem?_eq_getElem hil,List.map_append,← ZI]; rfl
     simp only
     rw [happ]
     (refine go ?_;repeat' (apply B<;>intro hb<;>try cases hb))
     exact⟨i+1,mv 2 9,by omega,by omega,Z3S (by decide),ZK rfl,
      ⟨⟨_,rfl,.ptr (ρ:=mv 2 9) 0 0 0 (by decide)⟩,⟨_,rfl,.ptr (ρ:=mv 2 9) 1 0 0 (by decide)⟩,⟨_,rfl,.pure _ (Z1M _ _)⟩,⟨_,rfl,.pure _ trivial⟩,⟨_,by show some _=some _; rw [hinc],.pure _ trivial⟩,trivial⟩,
      ⟨⟨by omega,_,rfl,.same _ ⟨⟨trivial,trivial,trivial,trivial,trivial⟩,trivial⟩⟩,⟨by omega,_,rfl,RenB.single ⟨.pure _ trivial,.pure _ trivial,.pure _ (Z9 _),.own (ρ:=mv 2 9) 2 (by decide),trivial⟩ rfl⟩,⟨by omega,_,rfl,.same _ (Z1M _ _)⟩,trivial⟩⟩
   · have hil : i = f.args.length := by simp at hb; omega
     subst hil
     rw [List.take_length]
     iterate 7 (first|refine st ?_|(apply B<;>intro hb<;>try cases hb))
     refine Ze (Z5m (k:=31) (id:=2) (b:=⟨4,f.args.map (cellsK .u8)⟩) rfl rfl (Z1M _ _) (FrzLs.agg (id:=2) (l:=f.args.map (cellsK .u8)) (xs := [.val (.int .u8 f.op),.val (.int .i64 f.n),.vec (nums f.roles) false,.own 2]) (ys:=fC .u8 f) ⟨.pure _ trivial,.pure _ trivial,.pure _ (Z9 _),.own,trivial⟩)) ?_
     (refine go ?_;repeat' (apply B<;>intro hb<;>try cases hb))
     exact Z5 rfl (Zk .u8 f) rfl
end Go.Proofs.YtjpkfigmmmngnaaGreatDoor
namespace Go.Proofs.YtjpkfigmmmngnaaGreatDoor
open Go.RowKit
def intT (P:Program) (t:TypeId):Option IntKind:=match P.underlying t with|some (.int k)=>some k|_=>none
def sliceT (P:Program) (t:TypeId):Option TypeId:=match P.underlying t with|some (.slice e)=>some e|_=>none
section
variable {P:Program} {t:TypeId} {n:Nat} {ps:List PV} {p:PV}
theorem Z9p {k:IntKind} (h:intT P t=some k):P.underlying t=some (.int k):=by
 unfold intT at h
 split at h
 · rename_i k' hu; cases h; exact hu
 · cases h
theorem Z6Q {e:TypeId} (h:sliceT P t=some e):P.underlying t=some (.slice e):=by
 unfold sliceT at h
 split at h
 · rename_i k' hu; cases h; exact hu
 · cases h
theorem Z4U {k:IntKind} (h:Shape P n t ps) (hk:intT P t=some k):∃ m,(Lit.int k m).wf=true∧ps = [.val (.int k m)]:=by
 cases n with
 | zero=>exact h.elim
 | succ n=>simpa only [Shape,Z9p hk] using h
theorem ZaM {e:TypeId} (h:Shape P n t ps) (hk:sliceT P t=some e):∃ n' ll fl,ll.length≤maxVec∧(∀ l∈ll,Shape P n' e l)∧ps = [.vec ll fl]:=by
 cases n with
 | zero=>exact h.elim
 | succ n =>
   have:∃ ll fl,ll.length≤maxVec∧(∀ l∈ll,Shape P n e l)∧ps = [.vec ll fl]:=by simpa only [Shape,Z6Q hk] using h
   obtain⟨ll,fl,h⟩:=this
   exact⟨n,ll,fl,h⟩
theorem Zd3 {k:IntKind} (h:ShapeV P t p) (hk:intT P t=some k):∃ m,(Lit.int k m).wf=true∧p=.val (.int k m):=by
 obtain⟨n,h⟩:=h
 rw [Z9p hk] at h
 obtain⟨m,h1,h2⟩:=Z4U (show Shape P n t [p] from h) hk
 exact⟨m,h1,by simpa using h2⟩
theorem Z9q {e:TypeId} (h:ShapeV P t p) (hk:sliceT P t=some e):∃ n' ll fl,ll.length≤maxVec∧(∀ l∈ll,Shape P n' e l)∧p=.vec ll fl:=by
 obtain⟨n,h⟩:=h
 rw [Z6Q hk] at h
 obtain⟨n',ll,fl,h1,h2,h3⟩:=ZaM (show Shape P n t [p] from h) hk
 exact⟨n',ll,fl,h1,h2,by simpa using h3⟩
end
end Go.Proofs.YtjpkfigmmmngnaaGreatDoor
