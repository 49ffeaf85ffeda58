/-
  Merged from the texts that this claim's theorem needs, part 5 of 7. No statement of the seat is proved here.
-/
import Derived.KernelRfl
import Derived.Shelf.SlSortCmp.NoneTotal
import Derived.Test.YtbfbcdjjhhcbaaaGreatDoorChecked
import Derived.Test.YtbfbcdjjhhcbaaaGreatDoorMq3
set_option linter.unusedSimpArgs false
set_option linter.unusedVariables false
set_option linter.unusedSectionVars false
set_option maxRecDepth 100000
set_option maxHeartbeats 16000000
namespace Go.Proofs.YtbfbcdjjhhcbaaaGreatDoor
section
open Go.RowKit Go.Sort
section
variable {P:Program} {ρ:Go.Shelf.Ren} {α:Type}
def X3U (F:XF) (k:Nat) (enc:α->List PV) (p:List Value×α):Prop :=
 p.1.length=k/\(∀ v∈p.1,v.oneCell'=true)/\∀ j,j<k->Rep F Xw (p.1.getD j undef) ((enc p.2).getD j pvu)
abbrev Raw (F:XF) (k:Nat) (enc:α->List PV):={ p:List Value×α // X3U F k enc p }
theorem Z8J {w:World} {blk off:Nat} {cells:Array Value} {t:TypeId} {fr:Nat×Nat} (hg:w.heap[blk]?=some (.cells cells t fr)) (D:Array Value):putRow id w blk off D=w.setRow blk (putCells id off D cells):=by
 unfold putRow;rw [mapBlock_congr w blk _ (fun _=>putCells id off D cells) (fun c e fr' h=>by rw [hg] at h; cases h; rfl)];unfold mapBlock World.setRow;congr 2
theorem Zhm {W w':World} (hb:Below W.heap.size W w') (hd:W.drawn<=w'.drawn):∃ q os,w'=grow (W.drewN q) os:=by
 refine⟨w'.drawn-W.drawn,w'.heap.extract W.heap.size w'.heap.size,?_⟩;obtain⟨h1,h2,h3,h4,h5⟩:=hb;obtain⟨heap,tape,drawn,os,output⟩:=w';simp only at h1 h2 h3 h4 h5 hd ⊢;subst h1 h2 h3;simp only [grow,World.drewN,World.mk.injEq,true_and,and_true];refine⟨?_,by omega⟩;apply Y4l;intro i;rw [Y39];by_cases hi:i<W.heap.size
 . rw [Y5 hi]; exact h5 i hi
 . rw [Y6 hi, Array.getElem?_extract];by_cases h6:i<heap.size
   . rw [Y5 (by omega)];congr 1;omega
   . rw [Y6 (by omega)];exact Y3R (by omega)
theorem X3U.agg {F:XF} {k:Nat} {enc:α->List PV} {p:List Value×α} (h:X3U F k enc p) (hl:(enc p.2).length=k):Rep F Xw (.agg p.1.toArray) (.agg (enc p.2)):=by
 obtain⟨h1,h2,h3⟩:=h;have hg:∀ i,p.1.toArray.getD i undef=p.1.getD i undef:=fun i=>by simp [Y0d,Y0b]
 refine .agg _ _ (by simp [h1,hl]) (fun i hi=>?_) (fun i hi=>?_)
 . rw [hg, Y0b, Y0c (by omega)];exact h2 _ (Y0j _)
 . rw [hg]; exact h3 i (by omega)
theorem Zj9 {β:Type} {cf:β->β->Int} {key:β->Nat} (h:∀ a b,cf a b<0↔key a<key b):SWO (ltOf cf):=by
 have e:∀ a b,ltOf cf a b=decide (key a<key b):=fun a b=>by unfold ltOf; exact Y3a.2 (h a b)
 refine⟨fun x=>?_,fun x y z h1 h2=>?_,fun x y z h1 h2=>?_⟩
 . rw [e]; simp
 . rw [e] at *; simp at *; omega
 . rw [e] at *; simp at *; omega
theorem Z7S (L:SlLaysF0.n6 P ρ) (hbody:X1D P (ρ.f 6)) (k:Nat) (hk0:0<k) (aE:∀ w,(isAgg (ρ.t 24)).run P w=.ok true w) (zE:∀ w,(Go.sizeOf (ρ.t 24)).run P w=.ok k w) (enc:α->List PV) (hl:∀ x,(enc x).length=k) (hp:∀ x,X6 (enc x))
 (key:α->Nat) (cf:α->α->Int) (hcf:∀ a b,cf a b<0↔key a<key b) (g:FuncId) (caps:List PV) (hcaps:X6 caps) (hcmp:∀ a b,Xa P g (.agg (enc a) :: .agg (enc b) :: caps) (· = .val (.int .i64 (cf a b)))) {n ob:Nat} {h:X1} (xs:List α) (hh:h ob=some ⟨k,xs.map enc⟩) :
 XX P (ρ.f 6) n [.own ob,.fn g caps] h fun n' r h'=>n'=n/\r=.tup []/\∃ ys:List α,ys.Perm xs/\ys.Pairwise (fun a b=>key a<=key b)/\h'=h.upd ob ⟨k,ys.map enc⟩:=by
 refine⟨hbody,?_⟩;intro C e F φ a w vs s hv;obtain⟨hsz,hvs⟩:=hv;have h0:Rep F φ (vs.getD 0 undef) (.own ob):=hvs 0 (by simp);have h1:Rep F φ (vs.getD 1 undef) (.fn g caps):=hvs 1 (by simp);obtain⟨loc,hloc,hz,hv0⟩:=h0.own_inv;obtain⟨cb,hv1,hcsz,hcb⟩:=h1.fn_inv;have hvs':vs = #[.slice loc.base loc.len loc.cap,.func (.func g) #[] cb]:=by
  simp only [Y04,Y2A] at hsz;apply Array.ext (by simpa using hsz);intro i hi1 hi2;have hi:i=0 \/ i=1:=by simp at hi2; omega
  have hget:∀ j (hj:j<vs.size),vs.getD j undef=vs[j]:=fun j hj=>by simp [Array.getD,hj]
  rcases hi with rfl|rfl
  . rw [hget 0 hi1] at hv0; exact hv0
  . rw [hget 1 hi1] at hv1; exact hv1
 obtain⟨loc',hl1,hob,hhas⟩:=s.live ob _ hh;obtain rfl:loc'=loc:=by rw [hl1] at hloc; simpa using hloc
 have hbx:=hob.cells hz;have hlen:xs.length=loc'.len:=by have:=hbx.len; simpa using this
 have hke:k=loc'.esz:=hbx.esz;rw [hvs'];by_cases hx0:xs = []
 . subst hx0;have hl0:loc'.len=0:=hlen.symm;have hc:=AnyF.slices_SortFunc_none (P:=P) (ρ:=ρ) { L with } loc'.base loc'.cap (.func (.func g) #[] cb) w;rw [hl0];refine hc.mono ?_;rintro en w' ⟨rfl,rfl⟩;refine⟨_,.tup [],n,h.upd ob ⟨k,[].map enc⟩,F,φ,rfl,⟨rfl,rfl,[],.refl _,.nil,rfl⟩,.tup _ _ rfl (fun i hi=>absurd hi (YL i)),s.sub (fun _ _ h=>h) fun i b hi=>?_⟩;by_cases hid:i=ob
   . subst hid; rw [X1.upd_same] at hi; rw [hh]; exact hi
   . rw [X1.upd_ne _ _ hid] at hi; exact hi
 . have hpos : 0 < xs.length := Y4a.2 hx0;have hcap:=hbx.cap;have hc0:loc'.cap≠0:=by omega
   obtain⟨ad,hbase,hspot,cells,t,hg,hroom,hrep⟩:=hbx.room hc0;have hhb:loc'.has ad.block:=⟨hc0,ad,hbase,rfl⟩
   have hFn:∀ x:Addr,x.block=ad.block->F x=none:=(hhas _ hhb).2;have hblk:ad.block<w.heap.size:=(Y7.1 hg).1;have hin:∀ i j,i<xs.length->j<k->i*k+j<xs.length*k:=fun i j hi hj=>by
    have:=YR k (show i+1<=xs.length from hi);rw [Y1n,Nat.one_mul] at this;omega
   have hsize:xs.length*k<=loc'.cap*loc'.esz:=by rw [hke]; exact YR _ (by omega)
   have hraw:∀ i:Fin xs.length,X3U F k enc ((List.range k).map fun j=>cells.getD (ad.off+(i.1*k+j)) undef,xs[i.1]):=by
    intro i;have hi:=i.2;refine⟨by simp,fun v hv=>?_,fun j hj=>?_⟩
    . obtain ⟨j, hj, rfl⟩ := Y0i.1 hv;have:=(hrep i.1 j (by omega) (by rw [<- hke]; exact Y1t.1 hj)).1;rw [<- hke] at this;exact this
    . have h2 := (hrep i.1 j (by omega) (by omega)).2;rw [<- hke] at h2;have e1:((xs.map enc).getD i.1 [])=enc xs[i.1]:=by simp [Y0b,hi]
      rw [e1] at h2;have e2:((List.range k).map fun j=>cells.getD (ad.off+(i.1*k+j)) undef).getD j undef=cells.getD (ad.off+(i.1*k+j)) undef:=by simp [Y0b,hj]
      show Rep F Xw (((List.range k).map fun j=>cells.getD (ad.off+(i.1*k+j)) undef).getD j undef) ((enc xs[i.1]).getD j pvu);rw [e2];exact h2.pure (ZL (hp _) j)
   letI:Inhabited (Raw F k enc):=⟨⟨_,hraw ⟨0,hpos⟩⟩⟩
   obtain⟨d,hd⟩:∃ d:Array (Raw F k enc),d=Array.ofFn fun i:Fin xs.length=>(⟨_,hraw i⟩:Raw F k enc):=⟨_,rfl⟩
   have hdsz:d.size=xs.length:=by rw [hd]; simp
   have hdget:∀ (i:Nat) (hi:i<xs.length),d[i]! = ⟨_,hraw ⟨i,hi⟩⟩:=fun i hi=>by
    have:i<d.size:=by omega
    rw [getElem!_pos d i this];simp only [hd,Array.getElem_ofFn]
   have hdl:d.toList.map (fun p=>p.1.2)=xs:=by
    apply Y4v
    . simp [hdsz]
    . intro i h3 h4;have h5:=hdget i h4;rw [getElem!_pos d i (by omega)] at h5;simp [h5]
   have encK:∀ x:Raw F k enc,(x.1.1).length=k:=fun x=>x.2.1;have enc1:∀ x:Raw F k enc,∀ v∈x.1.1,v.oneCell'=true:=fun x=>x.2.2.1;have hH:HoldsK (fun x:Raw F k enc=>x.1.1) k w ad.block ad.off d:=by
    intro q hq;rw [size_flatK,hdsz] at hq;have hi:q / k<xs.length:=(Nat.div_lt_iff_lt_mul hk0).2 hq;have hj:q % k<k:=Y1l _ hk0;have hqe:q / k*k+q % k=q:=by rw [Y1M]; exact Nat.div_add_mod q k
    rw [get_flatK _ _ _ _ (by rw [hdsz]; exact hq),hdget _ hi];have hlt:ad.off+q<cells.size:=by omega
    constructor
    . simp only [World.cell?, hg];rw [Y6 (by simp),Y1D hlt];congr 1;rw [getElem!_pos _ _ (by simp [hj])];simp only [Y3K,Y2c,hqe,id];simp [Array.getD,hlt]
    . simp only [World.frozen?, hg];simp
   have hcmpL:CmpLays P g cb (fun x:Raw F k enc=>x.1.1) k (fun x y=>cf x.1.2 y.1.2) ad.block ad.off d.size w:=by
    intro m os dk hdk x y;have hW:Proofs.YtbfbcdjjhhcbaaaGreatDoor.Holds F (sortWorldK (fun x:Raw F k enc=>x.1.1) k w ad.block ad.off m dk os):=by
     refine⟨fun x v hx=>?_,s.glob⟩;obtain⟨f1,f2,f3⟩:=s.froz x v hx;refine⟨f1,f2,?_⟩;have hne:x.block≠ad.block:=fun he=>by rw [hFn x he] at hx; cases hx
     have h5:(putRowK (fun x:Raw F k enc=>x.1.1) k (Sort.ahead w m) ad.block ad.off dk).cell? x=some v:=by
      rw [cell?_putRowK_other _ _ _ _ _ _ _ hne]; exact f3
     unfold sortWorldK;have hlt:x.block<(putRowK (fun x:Raw F k enc=>x.1.1) k (Sort.ahead w m) ad.block ad.off dk).heap.size:=by
      unfold World.cell? at h5
      split at h5
      . rename_i hgx; exact (Y7.1 hgx).1
      . cases h5
     rw [Y2G (w:=putRowK (fun x:Raw F k enc=>x.1.1) k (Sort.ahead w m) ad.block ad.off dk)]
     . exact h5
     . unfold grow;exact YS hlt
    have hR:X1B F Xw (#[.agg x.1.1.toArray,.agg y.1.1.toArray]++cb) (.agg (enc x.1.2) :: .agg (enc y.1.2) :: caps):=by
     refine⟨by simp [hcsz]; omega,fun i hi=>?_⟩
     match i,hi with
     | 0, _ =>
       rw [show (#[Value.agg x.1.1.toArray,Value.agg y.1.1.toArray]++cb).getD 0 undef=.agg x.1.1.toArray by simp [Y0d,Y39]];exact X3U.agg x.2 (hl _)
     | 1, _ =>
       rw [show (#[Value.agg x.1.1.toArray,Value.agg y.1.1.toArray]++cb).getD 1 undef=.agg y.1.1.toArray by simp [Y0d,Y39]];exact X3U.agg y.2 (hl _)
     | i + 2, hi =>
       have e1:(#[Value.agg x.1.1.toArray,Value.agg y.1.1.toArray]++cb).getD (i+2) undef=cb.getD i undef:=by
        simp only [Y0d];rw [Y1q (by simp)];simp
       rw [e1];exact (hcb i (by simpa using hi)).pure (ZL hcaps i)
    refine (Zbf ((hcmp x.1.2 y.1.2).2 F _ _ hW hR)).mono ?_;rintro en w' ⟨⟨v,r,F',rfl,rfl,hr,hbel,_⟩,hdr⟩;have hvi:=hr.val_inv;exact⟨by rw [hvi],Zhm hbel (hdr v rfl)⟩
   have eg:∀ args w,(callFunc g args).run P w=.ok (.enter g args) w:=by
    obtain⟨⟨fn,hfn,hname,hbd⟩,_⟩:=hcmp xs[0] xs[0];intro args w;have h1 : ¬ fn.name = "runtime.NumGoroutine" := by simpa using hname
    have h2:¬ fn.body=none:=fun h=>by rw [h] at hbd; simp at hbd
    simp [callFunc,hfn,h1,h2]
   have hmx:=hbx.max;have hc:=AnyQ.slices_SortFunc L k aE zE (fun x:Raw F k enc=>x.1.1) encK enc1 (fun x y=>cf x.1.2 y.1.2) (Zj9 (key:=fun x:Raw F k enc=>key x.1.2) fun a b=>hcf _ _) g cb ad.block ad.off loc'.cap d w eg hcmpL hH hblk (by rw [hdsz]; simp only [Xd] at hmx;omega);rw [hbase,<- hlen,<- hdsz];rw [<- Z44 ad hspot] at hc;refine hc.mono ?_;rintro en w' ⟨rfl,d',m,os,⟨hps,-,hpp⟩,hso,rfl⟩;have hpp':d'.toList.Perm d.toList:=by
    have e1:d'.extract 0 d.size=d':=by rw [<- hps]; exact Array.extract_size
    have e2:d.extract 0 d.size=d:=Array.extract_size;rw [e1,e2] at hpp;exact hpp
   have hg':(Sort.ahead w m).heap[ad.block]?=some (.cells cells t (0,0)):=hg;obtain⟨cur',hcur⟩:∃ cur',cur'=putCells id ad.off (flatK (fun x:Raw F k enc=>x.1.1) k d') cells:=⟨_,rfl⟩
   have hw1:sortWorldK (fun x:Raw F k enc=>x.1.1) k w ad.block ad.off m d' os=grow ((Sort.ahead w m).setRow ad.block cur') os:=by
    unfold sortWorldK putRowK;rw [Z8J hg',hcur]
   have hget':∀ i j,i<xs.length->j<k->cur'.getD (ad.off+(i*k+j)) undef=(d'[i]!).1.1.getD j undef:=by
    intro i j hi hj;have hq:=hin i j hi hj;have hlt:ad.off+(i*k+j)<cells.size:=by omega
    have e1:(i*k+j) / k=i:=(blk_iff k i _ hk0).1 ⟨by omega,by omega⟩;have e2:(i*k+j) % k=j:=by rw [Nat.mod_eq_sub_div_mul,e1]; omega
    rw [hcur,putCells,Y0d,Array.getElem?_mapIdx,Y1D hlt];simp only [Y1e,Y2r];rw [Y5 ⟨by omega,by rw [size_flatK,hps,hdsz]; omega⟩,show ad.off+(i*k+j)-ad.off=i*k+j by omega];show (flatK (fun x:Raw F k enc=>x.1.1) k d')[i*k+j]! = _;rw [get_flatK (fun x:Raw F k enc=>x.1.1) k d' (i*k+j) (by rw [hps,hdsz]; exact hq),e1,e2];have hj':j<(d'[i]!).1.1.length:=by rw [encK]; exact hj
    rw [getElem!_pos (d'[i]!).1.1 j hj',Y0b,Y0c hj',Y2r]
   have hysl:(d'.toList.map fun p=>p.1.2).length=xs.length:=by simp [hps,hdsz]
   refine⟨_,.tup [],n,h.upd ob ⟨k,(d'.toList.map fun p=>p.1.2).map enc⟩,F,φ,rfl,⟨rfl,rfl,d'.toList.map fun p=>p.1.2,?_,?_,rfl⟩,.tup _ _ rfl (fun i hi=>absurd hi (YL i)),?_⟩
   . have := hpp'.map fun p : Raw F k enc => p.1.2;rw [hdl] at this;exact this
   . rw [Y2I];intro i j hi hj hij;have hi':i<d'.size:=by simpa using hi
     have hj':j<d'.size:=by simpa using hj
     have h5:=hso i j (Y0l _) hij (by omega);rw [getElem!_pos d' i hi',getElem!_pos d' j hj'] at h5;unfold ltOf at h5;have h6:=Ye h5;rw [hcf] at h6;simp only [Y3K,Array.getElem_toList];omega
   . rw [hw1];have sA:St' C (fun i=>n<=i) e h F φ a (Sort.ahead w m):=s.turned (row:=none) (w':=Sort.ahead w m) ⟨rfl,rfl,rfl,Y0m _,fun _ _ _=>rfl⟩ (fun r hr=>by cases hr) (.inr fun r es t hr=>by cases hr) rfl (s.marks.mono fun _ h=>h);have s1:St' C (fun i=>n<=i) e (h.del ob) F φ a (Sort.ahead w m):=sA.sub (fun _ _ h=>h) (fun _ _ hh=>(X1.del_some hh).2);have hbx':X4o F φ ((Sort.ahead w m).setRow ad.block cur') loc' ⟨k,(d'.toList.map fun p=>p.1.2).map enc⟩:=by
      refine⟨hke,hz,by rw [<- hlen]; simp [hps,hdsz],hcap,hmx,fun c hc=>?_,fun _=>⟨ad,hbase,hspot,cur',t,Y32 _ _ _ _ _ _ hg',?_,fun i j hi hj=>?_⟩⟩
      . obtain ⟨y, _, rfl⟩ := Y0i.1 hc;rw [hl,hke]
      . have : cur'.size = cells.size := by rw [hcur]; simp [putCells]
        omega
      . rw [<- hke] at hj ⊢;have hi':i<xs.length:=by omega
        have hid:i<d'.size:=by omega
        rw [hget' i j hi' hj];obtain⟨r1,r2,r3⟩:=(d'[i]!).2;have hj':j<(d'[i]!).1.1.length:=by rw [r1]; exact hj
        have e3:((d'.toList.map fun p=>p.1.2).map enc).getD i []=enc (d'[i]!).1.2:=by
         rw [getElem!_pos d' i hid];simp [Y0b,hid]
        refine⟨?_,?_⟩
        . rw [Y0b, Y0c hj'];exact r2 _ (Y0j _)
        . show Rep F φ _ ((((d'.toList.map fun p => p.1.2).map enc).getD i []).getD j pvu);rw [e3];exact (r3 j hj).mono (fun _ _ h=>h) (fun i x hx=>by cases hx)
     have s2:=s1.adopt hg' (hhas _ hhb).1 hFn (s.del_no hh hl1 hhb) hl1 (fun _ _ h=>h) (fun _ _=>rfl) s.free (fun k' hk'=>by
      obtain⟨_,x,hx,rfl⟩:=hk';rw [hbase] at hx;cases hx
      rfl) hbx'
     have s3:=s2.turned (row:=none) (w':=grow ((Sort.ahead w m).setRow ad.block cur') os) ⟨rfl,rfl,rfl,by simp [grow],fun j hj _=>by unfold grow; exact YS hj⟩ (fun r hr=>by cases hr) (.inr fun r es t hr=>by cases hr) rfl (s2.marks.mono fun j hj=>by
      unfold grow;rw [YS (Y7.1 hj).1]
      exact hj)
     refine s3.sub (fun _ _ h=>h) fun i b hi=>?_;by_cases hid:i=ob
     . subst hid; rw [X1.upd_same] at hi ⊢; exact hi
     . rw [X1.upd_ne _ _ hid] at hi ⊢; rw [X1.del_ne _ hid]; exact hi
end
end
section
open Go.RowKit
section
variable {P:Program} {C:Ctx} {Fr:Nat->Prop} {e:Env} {h:X1} {F:XF} {φ:XD} {a:Act} {w:World}
def X4b (P:Program) (f:FuncId) (b:Bx) (args:List PV) (R:PV->Bx->Prop):Prop :=
 XX P f 1 args (X1.upd (fun _=>none) 0 b) fun _ r h'=>∃ b',h' 0=some b'/\r.inn (· = 0)/\X2 b'.elems/\R r b'
theorem X4b.run {f:FuncId} {b:Bx} {args:List PV} {R:PV->Bx->Prop} (hs:X4b P f b args R) (hpb:X2 b.elems) (hpr:X26 (· = 0) args) (hb:h 0=some b) (s:St' C Fr e h F φ a w) {vs:Array Value} (hv:X1B F φ vs args) :
 Calls P f vs w fun en w'=>∃ v r b' F',en=.returned v/\(r.inn (· = 0)/\X2 b'.elems/\R r b')/\Rep F' φ v r/\St' C Fr e (h.upd 0 b') F' φ a w':=by
 obtain⟨loc,hloc,hbx,hhas⟩:=s.live 0 b hb
 let φ1:XD:=fun i=>if i=0 then some loc else none
 let C1:Ctx:=⟨w,fun k=>loc.has k,F,C.nt,φ1⟩
 have hG:∀ k,C1.G k->C.w0.heap.size<=k \/ C.G k:=fun k hk=>(hhas k hk).1;have hcells:∀ k,C1.G k->∀ o:Obj,w.heap[k]?=some o->¬ o=.deferred (some []):=by
  rintro k hk o ho rfl;rcases hbx.there hk with⟨cells,t,hg⟩|⟨es,t,hg⟩
  . rw [hg] at ho; cases ho
  . rw [hg] at ho; cases ho
 have h0:∀ {i:Nat} {b0:Bx},(X1.upd (fun _=>none) 0 b) i=some b0->i=0/\b0=b:=by
  intro i b0 hi;by_cases hi0:i=0
  . subst hi0; rw [X1.upd_same] at hi; exact⟨rfl,(YN hi).symm⟩
  . rw [X1.upd_ne _ _ hi0] at hi; cases hi
 have s1:St' C1 (fun i=>1<=i) (fun _=>none) (X1.upd (fun _=>none) 0 b) F φ1 { a with defers := [] } w:=by
  refine { nt:=s.nt,glob:=s.glob,marks:=X1l.nil rfl,loc0:=fun i x hx=>hx,free:=fun i hi=>?_,env:=fun k p hp=>(by cases hp),froz:=s.froz,ext:=fun _ _ h=>h,old:=fun _ _ _=>rfl,os:=rfl,tape:=rfl,output:=rfl,size:=Y0m _,kept:=fun _ _ _=>rfl,live:=fun i b0 hi=>?_,sep:=fun i j bi bj li lj k hi hj _ _ _ _=>?_ }
  . simp only [φ1]; rw [Y6 (by omega)]
  . obtain ⟨rfl, rfl⟩ := h0 hi;exact⟨loc,by simp [φ1],hbx.names hpb,fun k hk=>⟨.inr hk,(hhas k hk).2⟩⟩
  . rw [(h0 hi).1,(h0 hj).1]
 have hv1:X1B F φ1 vs args:=by
  refine⟨hv.1,fun i hi=>(hv.2 i hi).inn (fun j x hj hx=>?_) (ZL hpr i)⟩;subst hj;rw [hloc] at hx;simp only [φ1,Y1Z];exact hx
 refine (hs.2 C1 _ F φ1 { a with defers := [] } w vs s1 hv1).mono ?_;rintro en w' ⟨v,r,n',h',F',φ',rfl,⟨b',hb',hr,hpb',hR⟩,hvr,s'⟩;have hφ0:φ' 0=some loc:=s'.loc0 0 loc (by simp [C1,φ1]);refine⟨v,r,b',F',rfl,⟨hr,hpb',hR⟩,hvr.inn (fun j x hj hx=>by subst hj; rw [hφ0] at hx; rw [hloc]; exact hx) hr,?_⟩
 refine { nt := s.nt, glob := s'.glob, marks := s.marks.mono (fun k hk => by rw [s'.kept k (Y7.1 hk).1 (fun hg => hcells k hg _ hk rfl)]; exact hk), loc0 := s.loc0, free := s.free, env := fun k p hp => ⟨(s.env k p hp).1, (s.env k p hp).2.mono s'.ext fun _ _ h => h⟩, froz := s'.froz, ext := fun x v hx => s'.ext _ _ (s.ext x v hx),
          old:=fun x hx hg=>?_,os:=s'.os.trans s.os,tape:=s'.tape.trans s.tape,output:=s'.output.trans s.output,size:=Y03 s.size s'.size,kept:=fun k hk hg=>?_,live:=fun i bi hi=>?_,sep:=fun i j bi bj li lj k hi hj hli hlj hki hkj=>?_ }
 . have hx2 : x.block < w.heap.size := YE hx s.size;rw [s'.old x hx2 fun hg'=>(hG _ hg').elim (fun h1=>absurd hx (Y1T.2 h1)) hg];exact s.old x hx hg
 . rw [s'.kept k (YE hk s.size) fun hg' => (hG _ hg').elim (fun h1 => absurd hk (Y1T.2 h1)) hg];exact s.kept k hk hg
 . by_cases hid : i = 0
   . subst hid;rw [X1.upd_same] at hi;cases hi;obtain⟨loc',g1,g2,g3⟩:=s'.live 0 b' hb';obtain rfl:loc'=loc:=by rw [hφ0] at g1; simpa using g1.symm
     exact⟨loc',hloc,g2.names hpb',fun k hk=>⟨(hhas k hk).1,(g3 k hk).2⟩⟩
   . rw [X1.upd_ne _ _ hid] at hi;obtain⟨li,g1,g2,g3⟩:=s.live i bi hi;have hout:∀ k,li.has k->¬ C1.G k:=fun k hk hg=>hid (s.sep i 0 bi b li loc k hi hb g1 hloc hk hg);have hblk:∀ k,li.has k->w'.heap[k]?=w.heap[k]?:=fun k hk=>s'.kept k (s.has_lt hi g1 hk) (hout k hk);refine⟨li,g1,g2.mono s'.ext (fun _ _ h=>h) hblk,fun k hk=>⟨(g3 k hk).1,fun x hx=>?_⟩⟩;rw [s'.old x (by rw [hx]; exact s.has_lt hi g1 hk) (by rw [hx]; exact hout k hk)];exact (g3 k hk).2 x hx
 . have conv : ∀ {i : Nat} {bi : Bx}, (h.upd 0 b') i = some bi -> ∃ b0, h i = some b0 := by
    intro i bi hi;by_cases hid:i=0
    . subst hid; exact⟨b,hb⟩
    . rw [X1.upd_ne _ _ hid] at hi; exact⟨bi,hi⟩
   obtain⟨b1,h1⟩:=conv hi
   obtain⟨b2,h2⟩:=conv hj
   exact s.sep i j b1 b2 li lj k h1 h2 hli hlj hki hkj
theorem X4b.ispec {f:FuncId} {b:Bx} {args:List PV} {R:PV->Bx->Prop} (hs:X4b P f b args R) (hpb:X2 b.elems) (hpr:X26 (· = 0) args) {n:Nat} (hb:h 0=some b):XX P f n args h fun n' r h'=>n'=n/\∃ b',r.inn (· = 0)/\X2 b'.elems/\R r b'/\h'=h.upd 0 b':=by
 refine⟨hs.1,fun C e F φ a w vs s hv=>(hs.run hpb hpr hb s hv).mono ?_⟩;rintro en w' ⟨v,r,b',F',rfl,⟨h1,h2,h3⟩,hr,s'⟩;exact⟨v,r,n,h.upd 0 b',F',φ,rfl,⟨rfl,b',h1,h2,h3,rfl⟩,hr,s'⟩
end
section
variable {P:Program} {C:Ctx} {Fr:Nat->Prop} {e:Env} {h:X1} {F:XF} {φ:XD} {a:Act} {w:World}
theorem X1s.ispec {f:FuncId} {args:List PV} {mk:Nat->PV} {b:Bx} (hs:X1s P f args mk b) (hmk:Mk mk) (hpb:X2 b.elems) (hpr:X6 args) {n:Nat}:XX P f n args h fun n' r h'=>n'=n+1/\r=mk n/\h'=h.upd n b:=by
 refine⟨hs.1,fun C e F φ a w vs s hv=>(hs.run hmk hpb hpr (Y0m n) s hv).mono ?_⟩;rintro en w' ⟨v,F',φ',rfl,hr,s'⟩;exact⟨v,mk n,n+1,h.upd n b,F',φ',rfl,⟨rfl,rfl,rfl⟩,hr,{ s' with free:=fun i hi=>s'.free i ⟨by omega,by omega⟩ }⟩
theorem Z1A {f nt:Nat} {ac:X4} {rs:List X27} (hf:X3R P f nt ac rs) {args:List PV} {mk:Nat->PV} {b:Bx} (hn:args.length<=nt) (hk:∀ C:Ctx,C.dom 0->aw P C ac (X5w rs fun _ r h'=>∃ id,r=mk id/\h' id=some b) 0 (XQ args) (fun _=>none)):X1s P f args mk b:=Z1y hf hn hk
theorem Z3n {f:Operand} {args:List Operand} {g:FuncId} {caps as0:List PV} {mk:Nat->PV} {b:Bx} {d:Option Nat} {os:List Xl} {n:Nat} {K:Nat->Env->X1->Prop} (hs:X1s P g (as0++caps) mk b) (hmk:Mk mk) (hpb:X2 b.elems) (hf:ev e f=some (.fn g caps)) (ha:evs e args=some as0) (hp:X6 (as0++caps))
 (hk:Xk P os (n+1) (Xy e d (mk n)) (h.upd n b) K):Xk P (⟨d,.call f args,none⟩ :: os) n e h K :=
 Z1d hf ha (hs.ispec hmk hpb hp) fun n' r h' hh=>by obtain⟨rfl,rfl,rfl⟩:=hh; exact hk
end
theorem X1s.spec {P:Program} {f:FuncId} {args:List PV} {mk:Nat->PV} {b:Bx} (hs:X1s P f args mk b) (hpb:X2 b.elems) {q:PV} (hfr:∀ id,X4y id b.elems (mk id) q) (hq:q.pure):Xa P f args (· = q):=by
 refine⟨hs.1,fun F w vs hF hv=>?_⟩
 let C1:Ctx:=⟨w,fun _=>False,F,1,Xw⟩
 let a1:Act:={ tmps := #[undef],defers := [] }
 have s1:St' C1 (fun i=>0<=i) (fun _=>none) (fun _=>none) F Xw a1 w :=
  { nt:=rfl,glob:=hF.2,marks:=X1l.nil rfl,loc0:=fun i x hx=>hx,free:=fun i hi=>rfl,env:=fun k p hp=>(by cases hp),froz:=hF.1,ext:=fun _ _ h=>h,old:=fun _ _ _=>rfl,os:=rfl,tape:=rfl,output:=rfl,size:=Y0m _,kept:=fun _ _ _=>rfl,live:=fun i b0 hi=>(by cases hi),sep:=fun i j bi bj li lj k hi hj _ _ _ _=>(by cases hi) }
 refine (hs.2 C1 _ F Xw a1 w vs s1 hv).mono ?_;rintro en w' ⟨v,r,n',h',F',φ',rfl,⟨id,rfl,hb'⟩,hvr,s'⟩;have s2:=s'.put (d:=0) (show 0<1 by decide) hvr;obtain⟨F2,φ2,s3⟩:=Z6E (k:=0) (p:=mk id) (Env.upd_same _ _ _) hb' hpb (hfr id) _ _ ⟨F',φ',s2⟩;have hr:=(s3.env 0 q (Env.upd_same _ _ _)).2;exact⟨v,q,F2,rfl,rfl,Rep.pure (φ:=φ2) (φ':=Xw) hr hq,⟨s3.os,s3.tape,s3.output,s3.size,fun k hk=>s3.kept k hk fun h=>h⟩,⟨s3.froz,s3.glob⟩,s3.ext,fun x hx=>s3.old x hx fun h=>h⟩
section
variable {P:Program} {e:Env} {h:X1} {n:Nat} {K:Nat->Env->X1->Prop} {os:List Xl} {d:Option Nat}
theorem Xa.ro {g:FuncId} {args:List PV} {i k:Nat} {b:Bx} {v:Value} (hs:Xa P g (args.set i (.vec b.elems false)) (· = .val v)) (hi:args[i]?=some (.own k)) (hb:h k=some b) (hpb:X2 b.elems) (hpr:X6 (args.set i (.vec b.elems false))) :
 XX P g n args h fun n' r h'=>n'=n/\r=.val v/\h'=h:=by
 refine⟨hs.1,fun C e F φ a w vs s hv=>?_⟩
 let C1:Ctx:=⟨C.w0,C.G,C.F0,vs.size,C.φ0⟩
 let a1:Act:={ a with tmps:=vs }
 have s1:St' C1 (fun j=>n<=j) (XQ args) h F φ a1 w:=by
  refine { nt:=rfl,glob:=s.glob,marks:=⟨s.marks.nd,s.marks.all⟩,loc0:=s.loc0,free:=s.free,env:=fun j p hp=>?_,froz:=s.froz,ext:=s.ext,old:=s.old,os:=s.os,tape:=s.tape,output:=s.output,size:=s.size,kept:=s.kept,live:=s.live,sep:=s.sep };have hj:j<args.length:=(Y8.1 hp).1;refine⟨by show j<vs.size; rw [hv.1]; exact hj,?_⟩;have h1:=hv.2 j hj;have e2:args.getD j pvu=p:=by
   rw [Y0b];have hp':args[j]?=some p:=hp;rw [hp']; rfl
  rw [<- e2];exact h1
 obtain⟨F2,φ2,s2⟩:=Z6E (k:=i) (p:=.own k) (q:=.vec b.elems false) hi hb hpb .own a1 w ⟨F,φ,s1⟩;have hrep:X1B F2 Xw vs (args.set i (.vec b.elems false)):=by
  refine⟨by rw [hv.1,Y14],fun j hj=>?_⟩;have hj':j<args.length:=by rwa [Y14] at hj
  have he:((XQ args).upd i (.vec b.elems false)) j=some ((args.set i (.vec b.elems false)).getD j pvu):=by
   by_cases hji:j=i
   . subst hji;rw [Env.upd_same,Y0b,Y3P hj']
     rfl
   . rw [Env.upd_ne _ _ hji, Y0b, Y3g (Y25 hji)];show args[j]?=_;rw [Y0c hj']
     rfl
  exact Rep.pure (φ:=φ2) (φ':=Xw) (s2.env j _ he).2 (ZL hpr j)
 refine (hs.2 F2 w vs ⟨s2.froz,s2.glob⟩ hrep).mono ?_;rintro en w' ⟨v',r,F3,rfl,rfl,hr,hbel,-,-,-⟩;obtain rfl:v'=v:=hr.val_inv;exact⟨v',.val v',n,h,F,φ,rfl,⟨rfl,rfl,rfl⟩,.val _,s.called hbel (Holds.kept ⟨s.froz,s.glob⟩ hbel) (fun _ _ h=>h) fun _ _=>rfl⟩
theorem Zja {f:Operand} {args:List Operand} {g:FuncId} {caps as0 args':List PV} {i k:Nat} {b:Bx} {v:Value} (hs:Xa P g args' (· = .val v)) (hf:ev e f=some (.fn g caps)) (ha:evs e args=some as0) (hi:(as0++caps)[i]?=some (.own k)) (hb:h k=some b) (hargs:(as0++caps).set i (.vec b.elems false)=args') (hpb:X2 b.elems) (hpr:X6 args')
 (hk:Xk P os n (Xy e d (.val v)) h K):Xk P (⟨d,.call f args,none⟩ :: os) n e h K:=by
 subst hargs;exact Z1d hf ha (hs.ro hi hb hpb hpr) fun n' r h' hh=>by obtain⟨rfl,rfl,rfl⟩:=hh; exact hk
theorem Z4f {neg:Bool} {x:Operand} (hx:(∃ l fl,ev e x=some (.vec l fl)) \/ ∃ k,ev e x=some (.own k)) (hz:h n=none) (hk:∀ b,Xk P os n (Xy e d (.val (.bool b))) h K):Xk P (⟨d,.isnil neg x,none⟩ :: os) n e h K:=by
 unfold Xk;exact⟨n,e,h,Z4Q,.inl (Zf1 hx fun b=>by rw [Z6a hz]; exact hk b)⟩
theorem Zbg {C:Ctx} {k id lo len:Nat} {b:Bx} (hk:e k=some (.view id lo len)) (hb:h id=some b) (hin:lo+len<=b.elems.length) (hp:X2 b.elems):Sub C n e h n (e.upd k (.vec ((b.elems.drop lo).take len) false)) (h.del id):=by
 rintro a w ⟨F,φ,s⟩;obtain⟨hlt,hr⟩:=s.env k _ hk;obtain⟨loc,base,hl,hz,hcapv,hbs,hv⟩:=hr.view_inv;obtain⟨loc',h1,h2,h3⟩:=s.live id b hb;obtain rfl:loc'=loc:=by rw [h1] at hl; simpa using hl
 have h2:=h2.cells hz;have s1:St' C (fun i=>n<=i) e (h.del id) F φ a w:=s.sub (fun _ _ h=>h) (fun _ _ hh=>(X1.del_some hh).2);have hput:∀ {F':XF},St' C (fun i=>n<=i) e (h.del id) F' φ a w->Rep F' φ (a.tmps.getD k undef) (.vec ((b.elems.drop lo).take len) false)->St C (fun i=>n<=i) (e.upd k (.vec ((b.elems.drop lo).take len) false)) (h.del id) a w:=fun {F'} s2 hrep=>by
  refine⟨F',φ,{ s2 with env:=fun j p hj=>?_ }⟩;by_cases hjk:j=k
  . subst hjk; rw [Env.upd_same] at hj; cases hj; exact⟨hlt,hrep⟩
  . rw [Env.upd_ne _ _ hjk] at hj; exact s2.env j p hj
 have hll:((b.elems.drop lo).take len).length=len:=by rw [Y0o,YQ]; omega
 have hget:∀ i,i<len->((b.elems.drop lo).take len).getD i []=b.elems.getD (lo+i) []:=fun i hi=>by
  simp only [Y0b,Y1i,Y1r,Y5 hi]
 by_cases hlo:lo<loc'.cap
 . have hc0 : loc'.cap ≠ 0 := by omega
   obtain⟨ad,hbase,hs,cells,ct,hg,hroom,hrep⟩:=h2.room hc0;have hhas:loc'.has ad.block:=⟨hc0,ad,hbase,rfl⟩
   have s2:=s1.frz hg (h3 _ hhas).2 (s.del_no hb h1 hhas) (h3 _ hhas).1;have hx:=Z1i (h3 _ hhas).2 cells;refine hput s2 ?_;have hbv:base=some ⟨ad.block,ad.off+lo*loc'.esz,none⟩:=by
    rw [hbs hlo,hbase];show some (ad.add _)=_;rw [ZR _ _ hs]
   rw [hv,hbv]
   conv=>lhs; rw [<- hll]
   have hlt2:∀ i j,i<b.elems.length->j<loc'.esz->ad.off+(i*loc'.esz+j)<cells.size:=fun i j hi hj=>by
    have:=Z1K (n:=loc'.cap) (i:=i) (j:=j) (esz:=loc'.esz) (by have:=h2.cap; have:=h2.len;omega) hj;omega
   have hmul:∀ i j,ad.off+lo*loc'.esz+(i*loc'.esz+j)=ad.off+((lo+i)*loc'.esz+j):=fun i j=>by rw [Y1n]; omega
   refine .vec ⟨ad.block,ad.off+lo*loc'.esz,none⟩ (loc'.cap-lo) loc'.esz ((b.elems.drop lo).take len) false (fun i j=>cells.getD (ad.off+((lo+i)*loc'.esz+j)) undef) (fun _=>rfl) (by rw [hll];omega) (by simp) (by rw [hll]; have:=h2.max; have:=h2.len;omega) (fun i hi=>?_) (fun i j hi hj=>?_) (fun i j hi hj=>?_)
   . rw [hll] at hi;rw [hget i hi];exact h2.el _ (by rw [Y0b,Y0c (by omega)]; exact Y0j _)
   . rw [hll] at hi;show XO _ _ _ ⟨ad.block,ad.off+lo*loc'.esz+(i*loc'.esz+j),none⟩=_;rw [hmul];exact Z1p F _ _ (hlt2 (lo+i) j (by omega) hj) (hrep (lo+i) j (by rw [<- h2.len];omega) hj).1
   . rw [hll] at hi;rw [hget i hi];exact (hrep (lo+i) j (by rw [<- h2.len];omega) hj).2.mono hx fun _ _ h=>h
 . have hl0 : len = 0 := by omega
   subst hl0;refine hput s1 ?_;rw [hv,Y1A,show loc'.cap-lo=0 by omega];cases base with
   | none=>exact .vecnil false
   | some x=>exact .vec (F:=F) (φ:=φ) x 0 0 [] false (fun _ _=>undef) (fun h=>absurd rfl h) (Y0m _) (by simp) (by simp) (by simp) (by simp) (by simp)
theorem Z9L {k id lo len:Nat} {b:Bx} (hk:e k=some (.view id lo len)) (hb:h id=some b) (hin:lo+len<=b.elems.length) (hp:X2 b.elems):X49 n e h n (e.upd k (.vec ((b.elems.drop lo).take len) false)) (h.del id):=fun _=>Zbg hk hb hin hp
end
section
variable {P:Program} {C:Ctx} {e:Env} {h:X1} {n:Nat}
theorem Z2c {ob id i0 j0:Nat} {bo b:Bx} (hob:h ob=some bo) (hb:h id=some b) (hne:ob≠id) (hp:X2 b.elems) (hi0:i0<bo.elems.length) (hj0:j0<(bo.elems.getD i0 []).length) (hcell:(bo.elems.getD i0 []).getD j0 pvu=.own id) (hz:0<bo.esz:=by exact Y0 rfl) :
 Sub C n e h n e ((h.del id).upd ob ⟨bo.esz,bo.elems.set i0 ((bo.elems.getD i0 []).set j0 (.vec b.elems false))⟩):=by
 rintro a w ⟨F,φ,s⟩;obtain⟨lo,o1,o2,o3⟩:=s.live ob bo hob;have o2:=o2.cellsB hz;have hcl:(bo.elems.getD i0 []).length=lo.esz:=o2.el _ (by simp [Y0b,hi0]);have hc0o:lo.cap≠0:=by have:=o2.cap; have:=o2.len; omega
 obtain⟨ado,hbaseo,hso,cellso,cto,hgo,hroomo,hrepo⟩:=o2.room hc0o;have hr0:=(hrepo i0 j0 (by rw [<- o2.len]; exact hi0) (by rw [<- hcl]; exact hj0)).2;rw [hcell] at hr0;obtain⟨loc,hl,hzl,hv⟩:=hr0.own_inv;obtain⟨loc',h1,h2,h3⟩:=s.live id b hb;obtain rfl:loc'=loc:=by rw [h1] at hl; simpa using hl
 have h2:=h2.cells hzl;have s1:St' C (fun i=>n<=i) e (h.del id) F φ a w:=s.sub (fun _ _ h=>h) (fun _ _ hh=>(X1.del_some hh).2);have hdel:(h.del id) ob=some bo:=by rw [X1.del_ne _ hne]; exact hob
 have fin:∀ {F':XF},(∀ x v,F x=some v->F' x=some v)->St' C (fun i=>n<=i) e (h.del id) F' φ a w->Rep F' φ (cellso.getD (ado.off+(i0*lo.esz+j0)) undef) (.vec b.elems false) ->
  St C (fun i=>n<=i) e ((h.del id).upd ob ⟨bo.esz,bo.elems.set i0 ((bo.elems.getD i0 []).set j0 (.vec b.elems false))⟩) a w:=by
  intro F' hx s2 hrep;refine⟨F',φ,{ s2 with live:=fun i bi hi=>?_,sep:=fun i j bi bj li lj k hi hj hli hlj hki hkj=>?_ }⟩
  . by_cases hio : i = ob
    . subst hio;rw [X1.upd_same] at hi;cases hi;obtain⟨l2,g1,g2,g3⟩:=s2.live i bo hdel;obtain rfl:l2=lo:=by rw [g1] at o1; simpa using o1
      refine⟨l2,g1,.inl ⟨o2.esz,o2.pos,by simpa using o2.len,o2.cap,o2.max,fun c hc=>?_,fun _=>⟨ado,hbaseo,hso,cellso,cto,hgo,hroomo,fun i' j' hi' hj'=>?_⟩⟩,g3⟩
      . rcases Y1R hc with h | h
        . exact o2.el c h
        . rw [h,Y14]; exact hcl
      . refine ⟨(hrepo i' j' hi' hj').1, ?_⟩;by_cases hii:i'=i0
        . subst hii;have e1:(bo.elems.set i' ((bo.elems.getD i' []).set j0 (.vec b.elems false))).getD i' []=(bo.elems.getD i' []).set j0 (.vec b.elems false):=by
           rw [Y0b,YW]; simp [hi0]
          rw [e1];by_cases hjj:j'=j0
          . subst hjj;have e2:((bo.elems.getD i' []).set j' (.vec b.elems false)).getD j' pvu=.vec b.elems false:=by
             rw [Y0b,YW,Y5 rfl,Y5 hj0]; rfl
            rw [e2];exact hrep
          . have e2 : ((bo.elems.getD i' []).set j0 (.vec b.elems false)).getD j' pvu = (bo.elems.getD i' []).getD j' pvu := by
             rw [Y0b,YW,Y6 (Y25 hjj),<- Y0b]
            rw [e2];exact (hrepo i' j' hi' hj').2.mono hx fun _ _ h=>h
        . have e1 : (bo.elems.set i0 ((bo.elems.getD i0 []).set j0 (.vec b.elems false))).getD i' [] = bo.elems.getD i' [] := by
           rw [Y0b,YW,Y6 (Y25 hii),<- Y0b]
          rw [e1];exact (hrepo i' j' hi' hj').2.mono hx fun _ _ h=>h
    . rw [X1.upd_ne _ _ hio] at hi;exact s2.live i bi hi
  . have conv : ∀ {i : Nat} {bi : Bx}, ((h.del id).upd ob ⟨bo.esz, bo.elems.set i0 ((bo.elems.getD i0 []).set j0 (.vec b.elems false))⟩) i = some bi -> ∃ b0, (h.del id) i = some b0 := by
     intro i bi hi;by_cases hio:i=ob
     . subst hio; exact⟨bo,hdel⟩
     . rw [X1.upd_ne _ _ hio] at hi; exact⟨bi,hi⟩
    obtain⟨b1,g1⟩:=conv hi
    obtain⟨b2,g2⟩:=conv hj
    exact s2.sep i j b1 b2 li lj k g1 g2 hli hlj hki hkj
 by_cases hc0:loc'.cap=0
 . have hl0 : loc'.len = 0 := by have := h2.cap; omega
   have he0:b.elems = []:=YC (by rw [h2.len,hl0]);refine fin (fun _ _ h=>h) s1 ?_;rw [hv,he0,hl0,hc0];cases hbs:loc'.base with
   | none=>exact .vecnil false
   | some x=>exact .vec (F:=F) (φ:=φ) x 0 0 [] false (fun _ _=>undef) (fun h=>absurd rfl h) (Y0m _) (by simp) (by simp) (by simp) (by simp) (by simp)
 . obtain ⟨ad, hbase, hs, cells, ct, hg, hroom, hrep⟩ := h2.room hc0;have hhas:loc'.has ad.block:=⟨hc0,ad,hbase,rfl⟩
   have s2:=s1.frz hg (h3 _ hhas).2 (s.del_no hb h1 hhas) (h3 _ hhas).1;have hx:=Z1i (h3 _ hhas).2 cells;refine fin hx s2 ?_;rw [hv,hbase,<- h2.len];have hlt2:∀ i j,i<b.elems.length->j<loc'.esz->ad.off+(i*loc'.esz+j)<cells.size:=fun i j hi hj=>by
    have:=Z1K (n:=loc'.cap) (i:=i) (j:=j) (esz:=loc'.esz) (by have:=h2.cap; have:=h2.len;omega) hj;omega
   refine .vec ad loc'.cap loc'.esz b.elems false (fun i j=>cells.getD (ad.off+(i*loc'.esz+j)) undef) (fun _=>hs) (by rw [h2.len]; exact h2.cap) (by simp) (by rw [h2.len]; exact h2.max) (fun i hi=>h2.el _ (by simp [Y0b,hi])) (fun i j hi hj=>?_) (fun i j hi hj=>?_)
   . exact Z1p F _ _ (hlt2 i j hi hj) (hrep i j (by rw [<- h2.len]; exact hi) hj).1
   . exact (hrep i j (by rw [<- h2.len]; exact hi) hj).2.mono hx fun _ _ h=>h
theorem Zk {ob id i0 j0:Nat} {bo b:Bx} (hob:h ob=some bo) (hb:h id=some b) (hne:ob≠id) (hp:X2 b.elems) (hi0:i0<bo.elems.length) (hj0:j0<(bo.elems.getD i0 []).length) (hcell:(bo.elems.getD i0 []).getD j0 pvu=.own id) (hz:0<bo.esz:=by exact Y0 rfl) :
 X49 n e h n e ((h.del id).upd ob ⟨bo.esz,bo.elems.set i0 ((bo.elems.getD i0 []).set j0 (.vec b.elems false))⟩):=fun _=>Z2c hob hb hne hp hi0 hj0 hcell hz
end
end
section
open Go.RowKit
attribute [local irreducible] aw Xk dK
theorem Z9M {α:Type} {p:α->Bool}:∀ {xs:List α},(∃ x∈xs,p x=true)->∃ (i:Nat) (hi:i<xs.length),X2G p xs=(i:Int)/\p xs[i]=true
 | [],h=>by obtain⟨_,h,_⟩:=h; cases h
 | x :: xs, h => by
   by_cases hx:p x=true
   . exact⟨0,Y1z _,by simp [X2G,hx],hx⟩
   . obtain ⟨y, hy, hp⟩ := h;obtain⟨i,hi,h1,h2⟩:=Z9M (p:=p) (xs:=xs) ⟨y,(Y9.1 hy).resolve_left fun e=>hx (e▸hp),hp⟩;refine⟨i+1,by rw [Y04]; omega,?_,h2⟩;have hn:¬ ((i:Int)<0):=by omega
     simp [X2G,hx,h1,hn]
theorem ZdR (xs:List Int) (v:Int) (fl:Bool):Xa Tryz.prog 146 [.vec (XG xs) fl,.val (.int .i64 v)] (· = .val (.int .i64 (X2G (fun x=>v == x) xs))):=by
 have hnl:=Zb5 xs;refine Yp ok146 fun C hC=>?_;refine Z4t (k:=0) rfl fun hmax=>?_;have hlm:xs.length<=Xd:=by rw [<- hnl]; exact hmax
 refine go ?_;refine Z49 (fun i=>i<=xs.length/\(xs.take i).any (fun x=>v == x)=false) (fun i=>xs.length-i) (fun i => [(0,.vec (XG xs) fl),(1,.val (.int .i64 v)),(7,.val (.int .i64 (xs.length:Int))),(8,Yv i)]) 0 ⟨Y0l _,rfl⟩ ⟨rfl,rfl,by rw [<- hnl]; rfl,rfl,Yt⟩ ?_;rintro i ⟨hi,hno⟩;have hinc:IntKind.i64.wrap ((i:Int)+1)=((i+1:Nat):Int):=Y0v _ ⟨by omega,by simp only [Xd] at hlm; omega⟩
 iterate 2 (first|refine st ?_|(apply B<;>intro hb<;>try cases hb))
 refine Zv rfl rfl rfl (fun hb=>?_) (fun hb=>?_)
 . have hil : i < xs.length := by have := Y0u hb; omega
   clear hb;refine go ?_;refine Qo (Zo (xs:=xs) (g:=fun x => [.val (.int .i64 x)]) rfl rfl i rfl hil rfl) ?_
   iterate 1 (first|refine st ?_|(apply B<;>intro hb<;>try cases hb))
   refine Zv rfl rfl rfl (fun hx=>?_) (fun hx=>?_)
   . refine go ?_;exact Z8 rfl Yt (by rw [Z5w hil hno hx])
   . refine go ?_;exact⟨i+1,⟨by omega,Z54 hil hno hx⟩,by omega,rfl,rfl,⟨rfl,rfl,rfl,by show some _=some _; rw [hinc],Yt⟩⟩
 . have hil : i = xs.length := by have := Ye hb; omega
   subst hil;rw [Y0q] at hno;refine go ?_;exact Z8 rfl Yt (by rw [Z2D hno]; rfl)
theorem Zhn (f:Nat->Int):tab (X2s f)=XG ((List.range 64).map f):=by rw [tab,XG,Y2z]; rfl
theorem Z8K {f:Nat->Int} {i:Nat} (v:Int) (hi:i<64):(tab (X2s f)).set i (Xj ((tab (X2s f)).getD i []) 0 [.val (.int .i64 v)])=tab (X2s fun j=>if j=i then v else f j):=by
 rw [Z2X hi,show Xj (X2s f i) 0 [.val (.int .i64 v)] = [.val (.int .i64 v)] from rfl,Zfn _ hi];refine Z3P fun j _=>?_;show (if j=i then [PV.val (.int .i64 v)] else X2s f j) = [PV.val (.int .i64 (if j=i then v else f j))];by_cases hj:j=i
 . rw [Y5 hj,Y5 hj]
 . rw [Y6 hj,Y6 hj]; rfl
theorem Z6O {f g:Nat->Int} (h:∀ j,j<64->f j=g j):tab (X2s f)=tab (X2s g):=Z3P fun j hj=>by show [PV.val (.int .i64 (f j))] = [PV.val (.int .i64 (g j))]; rw [h j hj]
def X38 (l:List Pr) (fp:Bool) (a b s:PV):Bx:=⟨5,[[.val (.int .i64 64),.vec (l.map prC) fp,a,b,s]]⟩
theorem Zl (l:List Pr):X2 (l.map prC):=Zc Z4d l
theorem ZdS (l:List Pr) (fp:Bool) (hl:XL l) (hacy:Acy l) (hlen:l.length<=1000000) :
 X2f Tryz.prog 102 (X38 l fp (.vec [] true) (.vec [] true) (.vec [] true)) [] fun r b'=>r=.val (.bool true)/\∃ S,X2Z l S/\S.length=64/\b'=X38 l fp (.vec [] true) (.vec [] true) (.vec (XG (Xb S)) false):=by
 have hpl:∀ D,Xu D (l.map prC):=fun D=>Ze (fun _ h=>h.elim) _ (Zl l);have hnl:(l.map prC).length=l.length:=by simp
 have hti:∀ (f:Nat->Int) D,Xu D (tab (X2s f)):=fun f D=>Ze (fun _ h=>h.elim) _ (Z1H (Z52 f));refine Z1O ok102 (Y0 rfl) fun C hC=>?_
 iterate 2 (first|refine st ?_|(apply B<;>intro hb<;>try cases hb))
 refine Zb (ZP (id:=0) (i0:=0) (j0:=4) rfl (Y0 rfl) (Y0 rfl) rfl 1 (by decide) (by decide)) ?_;refine go ?_;refine ZB hC (fun i=>i<=l.length) (fun i=>l.length-i) 3 (fun i => [(0,.ptr 0 0 0),(3,.own 2),(17,.vec (l.map prC) fp),(18,.val (.int .i64 l.length)),(19,Yv i)])
  (fun i => [(0,X38 l fp (.vec [] true) (.vec [] true) (.own 1)),(1,⟨1,[]⟩),(2,⟨1,tab (X2s fun j=>(X3r (l.take i) j:Nat))⟩)]) (by omega) 0 (Y0l _)
  ⟨⟨rfl,show (0:Nat)<3 by decide⟩,⟨rfl,show (2:Nat)<3 by decide⟩,⟨rfl,hpl _⟩,⟨by rw [<- hnl]; rfl,Yt⟩,⟨rfl,Yt⟩,Yt⟩
  ⟨⟨by decide,rfl,⟨⟨Yt,hpl _,Yt,Yt,show (1:Nat)<3 by decide,Yt⟩,Yt⟩⟩,⟨by decide,rfl,Yt⟩,⟨by decide,by show some (Bx.mk 1 (List.replicate 64 (zpv [Value.int .i64 0])))=_; rw [Zj7]; rfl,hti _ _⟩,Yt⟩ ?_
 intro i hi;have hinc:IntKind.i64.wrap ((i:Int)+1)=((i+1:Nat):Int):=Y0v _ ⟨by omega,by omega⟩
 iterate 2 (first|refine st ?_|(apply B<;>intro hb<;>try cases hb))
 refine Zv rfl rfl rfl (fun hb=>?_) (fun hb=>?_)
 . have hil : i < l.length := by have := Y0u hb; omega
   have hp:=hl _ (Y0j hil);have hst:=fun j=>Zfm hil j;have hcl:=Zj6 (l.take i) l[i].2;rw [Y0o] at hcl;clear hb;refine go ?_;refine Qo (Zo (xs:=l) (g:=prC) rfl rfl i rfl hil rfl) ?_;generalize l[i]=p at hp hst hcl ⊢;refine go ?_;refine Qo (ZO rfl rfl rfl p.2 rfl (by rw [Z10]; exact hp.2) rfl) ?_;refine Qo (Z2p (i:=p.2) rfl rfl (by rw [Z10]; exact hp.2) (by rw [Z2X hp.2]; rfl)) ?_;refine go ?_;refine Qo (ZO rfl rfl rfl p.2 rfl (by rw [Z10]; exact hp.2) rfl) ?_;refine Qo (Z1T (i:=p.2) rfl rfl rfl rfl rfl (by rw [Z10]; exact hp.2) (Y0m _)) ?_;refine go ?_;have hadd:IntKind.i64.wrap (((X3r (l.take i) p.2:Nat):Int)+1)=((X3r (l.take i) p.2+1:Nat):Int):=Y0v _ ⟨by omega,by omega⟩
   refine⟨i+1,by omega,by omega,⟨⟨rfl,show (0:Nat)<3 by decide⟩,⟨rfl,show (2:Nat)<3 by decide⟩,⟨rfl,hpl _⟩,⟨rfl,Yt⟩,⟨by show some _=some _; rw [hinc],Yt⟩,Yt⟩,
    ⟨⟨by decide,rfl,⟨⟨Yt,hpl _,Yt,Yt,show (1:Nat)<3 by decide,Yt⟩,Yt⟩⟩,⟨by decide,rfl,Yt⟩,⟨by decide,?_,hti _ _⟩,Yt⟩⟩
   show some (Bx.mk 1 ((tab (X2s fun j=>(X3r (l.take i) j:Nat))).set p.2 (Xj ((tab (X2s fun j=>(X3r (l.take i) j:Nat))).getD p.2 []) 0 [.val (.int .i64 (IntKind.i64.wrap (((X3r (l.take i) p.2:Nat):Int)+1)))])))=some _;rw [Z8K _ hp.2,hadd];refine congrArg (fun t=>some (Bx.mk 1 t)) (Z6O fun j _=>?_);show (if j=p.2 then ((X3r (l.take i) p.2+1:Nat):Int) else ((X3r (l.take i) j:Nat):Int))=((X3r (l.take (i+1)) j:Nat):Int)
   rw [hst j];by_cases hj:j=p.2
   . rw [Y5 hj,Y5 hj,hj]
   . rw [Y6 hj,Y6 hj]
 . have hil : i = l.length := by have := Ye hb; omega
   subst hil;rw [Y0q];clear hb;refine go ?_;refine ZC hC (fun S:List Nat=>X2Z l S) (fun S=>64-S.length) 3 (fun S => [(0,.ptr 0 0 0),(3,.own 2)])
    (fun S => [(0,X38 l fp (.vec [] true) (.vec [] true) (.own 1)),(1,⟨1,XG (Xb S)⟩),(2,⟨1,tab (X2s (X1A l S))⟩)]) (by decide) [] (X2Z.nil l) (fun i=>i) (fun _ _=>rfl) Zp
    ⟨Qt 0 0 0,Qw 2,Yt⟩
    ⟨⟨by decide, _, rfl, Xr.single ⟨.pure _ Yt, .pure _ (Zl l), .pure _ Yt, .pure _ Yt, .own (ρ := fun i => i) 1 (by decide), Yt⟩ rfl⟩, Qs Yt,
      ⟨by decide,_,rfl,by rw [show X1A l []=fun j=>((X3r l j:Nat):Int) from funext (Zhl l)]; exact .same _ (Z1H (Z52 _))⟩,Yt⟩ ?_
   intro S hT;have hSl:=hT.len;have hSn:(XG (Xb S)).length=S.length:=by simp [XG,Xb]
   have hap:∀ (l:List Nat) D,Xu D (XG (Xb l)):=fun l D=>Z4W _ D;refine gd 40 ⟨?_⟩;refine Z8A rfl rfl rfl (fun hb=>?_) (fun hb=>?_)
   . have hlt : S.length < 64 := by
      have h2:=Y0u hb;rw [hSn] at h2;omega
     clear hb;refine go ?_;obtain⟨j0,hj0,hjn,hjp⟩:=X7Z hl hacy hT hlt;obtain⟨k,hk,hidx,hpk⟩:=Z9M (p:=fun x=>(0:Int) == x) (xs:=(List.range 64).map (X1A l S)) ⟨X1A l S j0,Y0i.2 ⟨j0,Y1t.2 hj0,rfl⟩,by rw [Z7Q.2 ⟨hjn,hjp⟩]; rfl⟩;have hk64:k<64:=by simpa using hk
     have hz:X1A l S k=0:=by
      have:=eq_of_beq hpk;rw [Y3K,Y2c] at this;exact this.symm
     obtain⟨hkS,hkp⟩:=Z7Q.1 hz;refine Zja (i:=0) (k:=2) (ZdR ((List.range 64).map (X1A l S)) 0 false) rfl rfl rfl rfl (by show [PV.vec (tab (X2s (X1A l S))) false,PV.val (.int .i64 0)]=_; rw [Zhn]) (Z1H (Z52 _)) ⟨ZG _,Yt,Yt⟩ ?_;rw [hidx];have hT':=hT.snoc hkS hk64 hkp;refine go ?_
     . refine Qo (ZO rfl rfl rfl k rfl (by rw [Z10]; exact hk64) rfl) ?_;refine Qo (Z1T (i:=k) rfl rfl rfl rfl rfl (by rw [Z10]; exact hk64) (Y0m _)) ?_;have e0:(tab (X2s (X1A l S))).set k (Xj ((tab (X2s (X1A l S))).getD k []) 0 [.val (.int .i64 (-1))])=tab (X2s (X1c l S k 0)):=by
        rw [Z8K _ hk64];exact Z6O fun j _=>(ZdK l S k j).symm
       refine go ?_
       refine ZH (Zt (k:=1) (m := [[.val (.int .i64 (k:Int))]]) (fl:=true) (b:=⟨1,XG (Xb S)⟩) rfl rfl rfl (fun r hr=>by rw [Y0g] at hr; subst hr; rfl) rfl (by
        show ((XG (Xb S)).length+1)*8<=_
        rw [hSn];omega)) rfl rfl ?_
       refine go ?_;have hSk:XG (Xb S) ++ [[PV.val (.int .i64 (k:Int))]]=XG (Xb (S ++ [k])):=by simp [XG,Xb]
       refine ZB hC (fun i=>i<=l.length) (fun i=>l.length-i) 14 (fun i => [(0,.ptr 0 0 0),(3,.own 2),(6,.val (.int .i64 (k:Int))),(61,.vec (l.map prC) fp),(62,.val (.int .i64 l.length)),(63,Yv i)])
        (fun i => [(0,X38 l fp (.vec [] true) (.vec [] true) (.own 13)),(13,⟨1,XG (Xb (S ++ [k]))⟩),(2,⟨1,tab (X2s (X1c l S k i))⟩)]) (by decide) 0 (Y0l _)
        ⟨⟨rfl,show (0:Nat)<14 by decide⟩,⟨rfl,show (2:Nat)<14 by decide⟩,⟨rfl,Yt⟩,⟨rfl,hpl _⟩,⟨by rw [<- hnl]; rfl,Yt⟩,⟨rfl,Yt⟩,Yt⟩
        ⟨⟨by decide,rfl,⟨⟨Yt,hpl _,Yt,Yt,show (13:Nat)<14 by decide,Yt⟩,Yt⟩⟩,⟨by decide,by rw [<- hSk]; rfl,hap _ _⟩,⟨by decide,by rw [<- e0]; rfl,hti _ _⟩,Yt⟩ ?_
       intro i hi;have hinc:IntKind.i64.wrap ((i:Int)+1)=((i+1:Nat):Int):=Y0v _ ⟨by omega,by omega⟩
       iterate 2 (first|refine st ?_|(apply B<;>intro hb<;>try cases hb))
       refine Zv rfl rfl rfl (fun hb=>?_) (fun hb=>?_)
       . have hil : i < l.length := by have := Y0u hb; omega
         have hp:=hl _ (Y0j hil);have hst:=fun j=>ZdL hil j hT hkS hkp;clear hb;refine go ?_;refine Qo (Zo (xs:=l) (g:=prC) rfl rfl i rfl hil rfl) ?_;generalize l[i]=p at hp hst ⊢;have hbl:=Zhk l S k i p.2;(refine go ?_;repeat' (apply B<;>intro hb<;>try cases hb))
         . have hpk1 : p.1 = k := by have := eq_of_beq hb; exact Y2q.1 this
           clear hb;refine Qo (ZO rfl rfl rfl p.2 rfl (by rw [Z10]; exact hp.2) rfl) ?_;refine Qo (Z2p (i:=p.2) rfl rfl (by rw [Z10]; exact hp.2) (by rw [Z2X hp.2]; rfl)) ?_;refine go ?_;refine Qo (ZO rfl rfl rfl p.2 rfl (by rw [Z10]; exact hp.2) rfl) ?_;refine Qo (Z1T (i:=p.2) rfl rfl rfl rfl rfl (by rw [Z10]; exact hp.2) (Y0m _)) ?_;(refine go ?_;repeat' (apply B<;>intro hb<;>try cases hb));have hsub:IntKind.i64.wrap (X1c l S k i p.2-1)=X1c l S k i p.2-1:=Y0v _ ⟨by omega,by omega⟩
           refine⟨i+1,by omega,by omega,⟨⟨rfl,show (0:Nat)<14 by decide⟩,⟨rfl,show (2:Nat)<14 by decide⟩,⟨rfl,Yt⟩,⟨rfl,hpl _⟩,⟨rfl,Yt⟩,⟨by show some _=some _; rw [hinc],Yt⟩,Yt⟩,
            ⟨⟨by decide,rfl,⟨⟨Yt,hpl _,Yt,Yt,show (13:Nat)<14 by decide,Yt⟩,Yt⟩⟩,⟨by decide,rfl,hap _ _⟩,⟨by decide,?_,hti _ _⟩,Yt⟩⟩
           show some (Bx.mk 1 ((tab (X2s (X1c l S k i))).set p.2 (Xj ((tab (X2s (X1c l S k i))).getD p.2 []) 0 [.val (.int .i64 (IntKind.i64.wrap (X1c l S k i p.2-1)))])))=some _;rw [Z8K _ hp.2,hsub];refine congrArg (fun t=>some (Bx.mk 1 t)) (Z6O fun j _=>?_);show (if j=p.2 then X1c l S k i p.2-1 else X1c l S k i j)=X1c l S k (i+1) j;rw [hst j];by_cases hj:j=p.2
           . rw [Y5 hj,Y5 ⟨hpk1,hj⟩,hj]
           . rw [Y6 hj,Y6 fun h=>hj h.2]
         . have hpk1 : ¬ p.1 = k := fun h => by rw [h] at hb; simp at hb
           clear hb
           refine⟨i+1,by omega,by omega,⟨⟨rfl,show (0:Nat)<14 by decide⟩,⟨rfl,show (2:Nat)<14 by decide⟩,⟨rfl,Yt⟩,⟨rfl,hpl _⟩,⟨rfl,Yt⟩,⟨by show some _=some _; rw [hinc],Yt⟩,Yt⟩,
            ⟨⟨by decide,rfl,⟨⟨Yt,hpl _,Yt,Yt,show (13:Nat)<14 by decide,Yt⟩,Yt⟩⟩,⟨by decide,rfl,hap _ _⟩,⟨by decide,?_,hti _ _⟩,Yt⟩⟩
           show some (Bx.mk 1 (tab (X2s (X1c l S k i))))=some _;refine congrArg (fun t=>some (Bx.mk 1 t)) (Z6O fun j _=>?_);rw [hst j,Y6 fun h=>hpk1 h.1]
       . have hil : i = l.length := by have := Ye hb; omega
         subst hil;clear hb;refine go ?_
         refine⟨S ++ [k],mv 1 13,hT',by rw [Y0e,Y0s]; omega,Z4X (Y0m 1),Zu rfl,
          ⟨Qt 0 0 0,Qw 2,Yt⟩,
          ⟨⟨by decide,_,rfl,Xr.single ⟨.pure _ Yt,.pure _ (Zl l),.pure _ Yt,.pure _ Yt,.own (ρ:=mv 1 13) 1 (by decide),Yt⟩ rfl⟩,Qs (ZG _),
          ⟨by decide,_,rfl,?_⟩,Yt⟩⟩
         rw [show tab (X2s (X1c l S k l.length))=tab (X2s (X1A l (S ++ [k]))) from Z6O fun j _=>Zfl l S k j];exact .same _ (Z1H (Z52 _))
   . have h64 : S.length = 64 := by
      have h2:=Ye hb;rw [hSn] at h2;omega
     clear hb;refine gd 2 ⟨?_⟩;refine Zb (Zk (ob:=0) (id:=1) (i0:=0) (j0:=4) rfl rfl (by decide) (ZG _) (Y0 rfl) (Y0 rfl) rfl) ?_;refine go ?_;exact⟨_,_,rfl,.inl rfl,_,rfl,Yt,⟨⟨Yt,Zl l,Yt,Yt,ZG _,Yt⟩,Yt⟩,rfl,S,hT,h64,rfl⟩
end
section
open Go.RowKit
section
variable {P:Program} {C:Ctx} {e:Env} {h:X1}
theorem Zhp (k k':Nat):mv k k' k=k':=by
 unfold mv;rw [show Nat.beq k k=true from Y3W k]; rfl
theorem Z61 {k k' i:Nat} (hi:i≠k):mv k k' i=i:=by
 have e1:Nat.beq i k=false:=YB.2 fun hb=>hi (YJ hb);unfold mv;rw [e1]; rfl
theorem Zbh {h0:X1} {D n0:Nat} (hD:D<n0) {g:Nat->Bx} {j0 new n':Nat} (hj:j0<64) (hnew:n0+64<=new) {r:Bx} (hr:X2 r.elems) (hg:∀ j,X2 (g j).elems) {e':Env} (he:∀ k p,e' k=some p->∃ p0,e k=some p0/\X1x (mv (n0+j0) new) (fun i=>i<n0+64) p0 p)
 (hb:∀ k b,h0 k=some b->k≠D->k<n0/\Xr (mv (n0+j0) new) (fun i=>i<n0+64) b b) {m:Nat} (hdom:C.dom m) (hm:m<=n0) :
 Sub C n' e ((((X1K h0 D n0 (fun j=>.own (n0+j)) 64 g).del (n0+j0)).upd new r).upd D ⟨1,((List.range 64).map fun j => [PV.own (n0+j)]).set j0 [.own new]⟩) (n0+64) e' (X1K h0 D n0 (fun j=>.own (n0+j)) 64 fun j=>if j=j0 then r else g j):=by
 have hcase:∀ k b,X1K h0 D n0 (fun j=>.own (n0+j)) 64 (fun j=>if j=j0 then r else g j) k=some b->k<n0+64:=fun k b hk=>by
  rcases Z7T hD hk with⟨rfl,_⟩|⟨j,hj,rfl,_⟩|⟨h1,h2,h3⟩
  . omega
  . omega
  . have:=(hb k b h3 h1).1; omega
 refine Zho (mv (n0+j0) new) he (fun k b hk=>⟨hcase k b hk,?_⟩) (fun k k' b b' hk hk' hh=>?_) hdom (by omega) (fun i hi=>Z61 (by omega))
 . rcases Z7T hD hk with ⟨rfl, rfl⟩ | ⟨j, hj2, rfl, rfl⟩ | ⟨h1, h2, h3⟩
   . rw [Z61 (by omega), X1.upd_same];refine⟨_,rfl,.gen _ _ Y1K rfl (by simp) (fun i hi=>?_) fun i q hi hq=>?_⟩
     . have hi' : i < 64 := by simpa using hi
       rw [Z55 _ hj,Z1m hi',Z1m hi']
       split<;>rfl
     . have hi' : i < 64 := by simpa using hi
       have hq0:q=0:=Nat.lt_one_iff.1 hq;subst hq0;rw [Z55 _ hj,Z1m hi',Z1m hi'];by_cases hij:i=j0
       . subst hij;rw [Y5 rfl];show X1x _ _ (.own new) (.own (n0+i));have:=X1x.own (ρ:=mv (n0+i) new) (D:=fun x=>x<n0+64) (n0+i) (by omega);rw [Zhp] at this;exact this
       . rw [Y6 hij];show X1x _ _ (.own (n0+i)) (.own (n0+i));have:=X1x.own (ρ:=mv (n0+j0) new) (D:=fun x=>x<n0+64) (n0+i) (by omega);rw [Z61 (by omega)] at this;exact this
   . by_cases hjj : j = j0
     . subst hjj;rw [Zhp,X1.upd_ne _ _ (by omega),X1.upd_same,Y5 rfl];exact⟨r,rfl,.same r hr⟩
     . rw [Z61 (by omega), X1.upd_ne _ _ (by omega), X1.upd_ne _ _ (by omega), X1.del_ne _ (by omega), Z2t _ hD _ _ hj2, Y6 hjj];exact⟨g j,rfl,.same _ (hg j)⟩
   . have h4 := hb k b h3 h1;rw [Z61 (by omega),X1.upd_ne _ _ h1,X1.upd_ne _ _ (by omega),X1.del_ne _ (by omega),Z2u _ _ _ h1 h2];exact⟨b,h3,h4.2⟩
 . have l1 := hcase k b hk;have l2:=hcase k' b' hk';by_cases e1:k=n0+j0
   . by_cases e2 : k' = n0 + j0
     . rw [e1,e2]
     . rw [e1,Zhp,Z61 e2] at hh; omega
   . by_cases e2 : k' = n0 + j0
     . rw [e2,Zhp,Z61 e1] at hh; omega
     . rw [Z61 e1,Z61 e2] at hh; exact hh
def X21 (n0 i:Nat) (g:Nat->Bx) (j:Nat):PV:=if j<i then .vec (g j).elems false else .own (n0+j)
theorem Zhq {h0:X1} {D n0 i:Nat} (hD:D<n0) (h0n:∀ k,n0<=k->k<n0+64->h0 k=none) (g:Nat->Bx) (hi:i<64) :
 ((X1K h0 D (n0 + i) (X21 n0 i g) (64 - i) (fun q => g (i + q))).del (n0 + i)).upd D ⟨1, ((List.range 64).map fun j => [X21 n0 i g j]).set i ((((List.range 64).map fun j => [X21 n0 i g j]).getD i []).set 0 (.vec (g i).elems false))⟩
   = X1K h0 D (n0+(i+1)) (X21 n0 (i+1) g) (64-(i+1)) (fun q=>g (i+1+q)):=by
 funext k;rw [Z1m hi,Z55 _ hi];by_cases h2:k=D
 . subst h2;rw [X1.upd_same,Z2N];refine congrArg (fun l=>some (Bx.mk 1 l)) (Y2p fun j hj=>?_);unfold X21;by_cases hji:j=i
   . subst hji; rw [Y5 rfl,Y5 (Y2L _)]; rfl
   . rw [Y6 hji];by_cases hlt:j<i
     . rw [Y5 hlt,Y5 (by omega)]
     . rw [Y6 hlt,Y6 (by omega)]
 . rw [X1.upd_ne _ _ h2];by_cases h1:k=n0+i
   . subst h1;rw [X1.del_same,Z2u _ _ _ h2 (by omega),h0n _ (by omega) (by omega)]
   . rw [X1.del_ne _ h1];by_cases h3:n0+(i+1)<=k/\k<n0+64
     . obtain ⟨q, rfl⟩ : ∃ q, k = n0 + (i + 1) + q := ⟨k - (n0 + (i + 1)), by omega⟩;rw [Z2t _ (by omega) _ _ (by omega:q<64-(i+1)),show n0+(i+1)+q=n0+i+(q+1) by omega,Z2t _ (by omega) _ _ (by omega:q+1<64-i)];rw [show i+(q+1)=i+1+q by omega]
     . rw [Z2u _ _ _ h2 (by omega),Z2u _ _ _ h2 (by omega)]
theorem Z8L {h0:X1} {D n0 n k:Nat} (hD:D<n0) (h0n:∀ k,n0<=k->k<n0+64->h0 k=none) (hk:e k=some (.own D)) {g:Nat->Bx} (hg:∀ j,X2 (g j).elems) :
 Sub C n e (X1K h0 D n0 (fun j=>.own (n0+j)) 64 g) n (e.upd k (.vec ((List.range 64).map fun j => [.vec (g j).elems false]) false)) (h0.del D):=by
 have key:∀ i,i<=64->Sub C n e (X1K h0 D n0 (fun j=>.own (n0+j)) 64 g) n e (X1K h0 D (n0+i) (X21 n0 i g) (64-i) (fun q=>g (i+q))):=by
  intro i
  induction i with
  | zero =>
    intro _;have e1:X1K h0 D (n0+0) (X21 n0 0 g) (64-0) (fun q=>g (0+q))=X1K h0 D n0 (fun j=>.own (n0+j)) 64 g:=by
     have e2:(fun q=>g (0+q))=g:=funext fun q=>by rw [Y17]
     rw [e2]
     rfl
    rw [e1];exact Z8z
  | succ i ih =>
    intro hi;have hi':i<64:=by omega
    refine Z6x (ih (by omega)) ?_;rw [<- Zhq hD h0n g hi'];have hrow:=Z2t h0 (D:=D) (n:=n0+i) (by omega) (X21 n0 i g) (K:=64-i) (fun q=>g (i+q)) (j:=0) (by omega);refine Z2c (ob:=D) (id:=n0+i) (i0:=i) (j0:=0) (bo:=⟨1,(List.range 64).map fun j => [X21 n0 i g j]⟩) (b:=g i) (Z2N _ _ _ _ _ _) hrow (by omega) (hg i) (by simpa using hi') (by rw [Z1m hi']; exact Y1K) ?_;rw [Z1m hi'];show X21 n0 i g i=_;unfold X21;rw [Y6 (Nat.lt_irrefl i)]
 have last:=key 64 (Y0m _);have htab:X1K h0 D (n0+64) (X21 n0 64 g) (64-64) (fun q=>g (64+q)) D=some ⟨1,(List.range 64).map fun j => [PV.vec (g j).elems false]⟩:=by
  rw [Z2N];refine congrArg (fun l=>some (Bx.mk 1 l)) (Y2p fun j hj=>?_);unfold X21;rw [Y5 (Y1t.1 hj)]
 have hpl:X2 ((List.range 64).map fun j => [PV.vec (g j).elems false]):=by
  refine (Z2g _ _).2 fun r hr=>?_;obtain⟨j,_,rfl⟩:=Y0i.1 hr;exact⟨hg j,Yt⟩
 have fz:=Z7G (C:=C) (n:=n) hk htab hpl;have e3:(X1K h0 D (n0+64) (X21 n0 64 g) (64-64) (fun q=>g (64+q))).del D=h0.del D:=by
  funext q;by_cases hq:q=D
  . subst hq; rw [X1.del_same,X1.del_same]
  . rw [X1.del_ne _ hq,X1.del_ne _ hq,Z2u _ _ _ hq (by omega)]
 rw [e3] at fz;exact Z6x last fz
end
end
section
open Go.RowKit
attribute [local irreducible] aw Xk dK
def X1f (l:List Pr) (j:Nat):List Nat:=(l.filter fun p=>p.2 == j).map (·.1)
theorem Zfs {l:List Pr} {i:Nat} (hi:i<l.length) (j:Nat):X1f (l.take (i+1)) j=if j=l[i].2 then X1f (l.take i) j ++ [l[i].1] else X1f (l.take i) j:=by
 have e:l.take (i+1)=l.take i ++ [l[i]]:=by rw [YY,Y0c hi]; rfl
 unfold X1f;rw [e,Y2d];by_cases h:j=l[i].2
 . rw [Y5 h,Y4Q (by simp [h])]; simp
 . rw [Y6 h,Y4R (by simp [Y25 h])]; simp
theorem Z6h {l:List Pr} {a j:Nat}:a∈X1f l j↔(a,j)∈l:=by
 unfold X1f;rw [Y0i];constructor
 . rintro ⟨p, hp, rfl⟩;obtain⟨h1,h2⟩:=Y18.1 hp;have:=eq_of_beq h2;rw [<- this]; exact h1
 . intro h;exact⟨(a,j),Y18.2 ⟨h,by simp⟩,rfl⟩
theorem ZcC (l:List Pr) (j:Nat):(X1f l j).length<=l.length:=by
 unfold X1f;rw [Y0f];exact Y1J _ _
def X3v (l:List Pr) (j:Nat):Bx:=⟨1,XG (Xb (X1f l j))⟩
theorem Z9N (l:List Pr) (j:Nat):X2 (X3v l j).elems:=ZG _
def X29 (f:Nat->Nat) (j:Nat):List PV := [.vec (X5 (X7 (f j))) false]
theorem Z21 (f:Nat->Nat) (j:Nat):X6 (X29 f j):=⟨Z4 _,Yt⟩
theorem Zjb {k m n it mask:Nat} {un:List Nat} (h1:k<n) (h2:m.testBit it=true):X1n ⟨none,[(k,m)],un,none⟩ n it mask k=true:=by
 have e1:Nat.blt k n=true:=Eq.mpr Y4M h1;simp [X1n,X6P,X5O,X3D,e1,h2]
theorem ZcD {k k' m n it mask:Nat} {un:List Nat} (h1:k<n) (h2:k≠k'):X1n ⟨none,[(k',m)],un,none⟩ n it mask k=true:=by
 have e1:Nat.blt k n=true:=Eq.mpr Y4M h1;have e2:Nat.beq k k'=false:=YB.2 fun hb=>h2 (YJ hb);simp only [X1n,X6P,X5O,X3D,e1,e2]
 rfl
theorem Zlc {k m n it iso:Nat} {un:List Nat} (h:m &&& un.getD it 0=0):okW ⟨none,[(k,m)],un,none⟩ n it iso k=true:=by
 have e1:Nat.beq k k=true:=Y3W k;have e2:X3P ⟨none,[(k,m)],un,none⟩ it k=true:=by
  unfold X3P X3D;rw [e1];show Nat.beq (m &&& un.getD it 0) 0=true;rw [h]; rfl
 unfold okW;rw [e2,Y3v]
theorem Zhr {q m:Nat} (q':Nat) {un:List Nat} {l:List X8}:X4E ⟨none,[(q,m)],un,none⟩ l=X4E ⟨none,[(q',m)],un,none⟩ l:=rfl
theorem X7Y {z:Rsv} {zz:List Value} {b:Nat} {s x:Operand} {e:Env} {n it mask iso k:Nat} (hs:ev e s=some (.own k)) (h1:X1n z n it mask k=true) (h2:okW z n it iso k=true):XP z (.append zz b s x) e n it mask iso=true:=by
 simp [XP,hs,h1,h2]
theorem X6Y {z:Rsv} {b:Nat} {s x:Operand} {e:Env} {n it mask iso k:Nat} (hs:ev e s=some (.own k)) (h1:X1n z n it mask k=true):XP z (.iaddr b s x) e n it mask iso=true:=by
 simp [XP,hs,X15,h1]
theorem X82 {z:Rsv} {g:Bool} {b:Nat} {s:Operand} {e:Env} {n it mask iso k i off:Nat} (hs:ev e s=some (.ptr k i off)) (h1:X1n z n it mask k=true):XP z (.load g b s) e n it mask iso=true:=by
 simp [XP,hs,X15,h1]
theorem X7K {z:Rsv} {b:Nat} {s v:Operand} {e:Env} {n it mask iso k i off:Nat} (hs:ev e s=some (.ptr k i off)) (h1:X1n z n it mask k=true) (h2:iso.testBit 0=true):XP z (.store b s v) e n it mask iso=true:=by
 simp [XP,hs,X15,X4q,okW,h1,h2]
def X2A (l:List Pr) (fp:Bool) (S:List Nat):X1:=XE [(0,X38 l fp (.own 7) (.own 12) (.vec (XG (Xb S)) false)),(7,⟨1,List.replicate 64 [.vec [] true]⟩),(12,⟨1,List.replicate 64 [.vec [] true]⟩),(19,⟨1,List.replicate 64 [.vec [] true]⟩)]
noncomputable def aS (l:List Pr) (rs:List Nat):Nat:=rs.foldl (fun o a=>(o ||| abv l a) ||| 2 ^ a) 0
theorem Zjc (l:List Pr) (rs:List Nat) (a:Nat):aS l (rs ++ [a])=(aS l rs ||| abv l a) ||| 2 ^ a:=by simp [aS,Y1u]
theorem Zft (l:List Pr) (b:Nat):∀ (rs:List Nat) (o:Nat),(rs.foldl (fun o a=>(o ||| abv l a) ||| 2 ^ a) o).testBit b=true↔o.testBit b=true \/ ∃ a∈rs,(abv l a).testBit b=true \/ b=a
 | [],o=>by simp
 | a :: rs, o => by
   rw [Y19,Zft l b rs,Y00,Y00,YP,YP,YK,Y2b];constructor
   . rintro (((h | h) | h) | ⟨x, hx, h⟩)
     . exact .inl h
     . exact .inr ⟨a,Y0t ..,.inl h⟩
     . exact .inr ⟨a,Y0t ..,.inr h.symm⟩
     . exact .inr ⟨x,YD _ hx,h⟩
   . rintro (h | ⟨x, hx, h⟩)
     . exact .inl (.inl (.inl h))
     . rcases Y9.1 hx with rfl | hx
       . rcases h with h | h
         . exact .inl (.inl (.inr h))
         . exact .inl (.inr h.symm)
       . exact .inr ⟨x,hx,h⟩
theorem Zjd (l:List Pr):∀ (rs:List Nat) (o:Nat),(∀ a∈rs,a<64)->o<18446744073709551616->rs.foldl (fun o a=>(o ||| abv l a) ||| 2 ^ a) o<18446744073709551616
 | [],o,_,ho=>ho
 | a :: rs, o, h, ho => by
   rw [Y19];exact Zjd l rs _ (fun x hx=>h x (YD _ hx)) (Z1X (Z1X ho (Z6I l a)) (ZV (h a (Y0t ..))))
theorem Zbi {l:List Pr} (hl:XL l) {a j:Nat} (h:a∈X1f l j):a<64:=(hl _ (Z6h.1 h)).1
theorem Zkp {l:List Pr} (hl:XL l) (b:Nat):aS l (X1f l b)=abv l b:=by
 refine X5T (Zjd l _ 0 (fun a ha=>Zbi hl ha) (by decide)) (Z6I l b) fun i hi=>?_;rw [YO,Z6H hl,Zko];unfold aS;rw [Zft];constructor
 . rintro (h | ⟨a, ha, h⟩)
   . simp at h
   . exact⟨a,Z6h.1 ha,h.elim (fun h=>.inr ((Z6H hl i a).1 h)) .inl⟩
 . rintro ⟨c, hc, h⟩;exact .inr ⟨c,Z6h.2 hc,h.elim .inr fun h=>.inl ((Z6H hl i c).2 h)⟩
noncomputable def X2U (l:List Pr) (S:List Nat) (t j:Nat):Nat:=if j∈S.take t then abv l j else 0
open Classical in
noncomputable def X2m (l:List Pr) (S:List Nat) (t j:Nat):Nat:=ofP (fun b=>decide (b∈S.take t/\Up l j b)) 64
theorem Z4E (l:List Pr) (S:List Nat) (t j:Nat):X2m l S t j<18446744073709551616:=Zfi _
theorem Z56 (l:List Pr) (S:List Nat) (t j b:Nat):(X2m l S t j).testBit b=true↔b<64/\b∈S.take t/\Up l j b:=by
 unfold X2m;rw [Z8F];simp only [Y0k,Y0n]
theorem Z6P {S:List Nat} {t:Nat} (ht:t<S.length):S.take (t+1)=S.take t ++ [S[t]]:=by rw [YY,Y0c ht]; rfl
theorem Zfu {l:List Pr} {S:List Nat} {t:Nat} (ht:t<S.length) (j:Nat):X2U l S (t+1) j=if j=S[t] then abv l S[t] else X2U l S t j:=by
 unfold X2U;rw [Z6P ht];by_cases h:j=S[t]
 . rw [Y5 (Y0h.2 (.inr (Y0g.2 h))),Y5 h,h]
 . rw [Y6 h];by_cases h2:j∈S.take t
   . rw [Y5 (Y3f _ h2),Y5 h2]
   . rw [Y6 (fun hh=>(Y0h.1 hh).elim h2 fun h3=>h (Y0g.1 h3)),Y6 h2]
theorem ZcE {S:List Nat} (hn:S.Nodup) {t:Nat} (ht:t<S.length):S[t] ∉ S.take t:=by
 intro h;obtain⟨i,hi,he⟩:=Y15 h;rw [Y0o] at hi;rw [List.getElem_take] at he;exact (Y2I.1 hn) i t (by omega) ht (by omega) he
theorem Zhs {l:List Pr} {S:List Nat} (hn:S.Nodup) {t:Nat} (ht:t<S.length):X2U l S t S[t]=0:=Y6 (ZcE hn ht)
theorem Zht {l:List Pr} {S:List Nat} {t a:Nat} (h:a∈S.take t):X2U l S t a=abv l a:=Y5 h
theorem Zfv {l:List Pr} (hl:XL l) {S:List Nat} {t:Nat} (ht:t<S.length) (h64:S[t]<64) (j:Nat):X2m l S (t+1) j=if j∈mem (abv l S[t]) then X2m l S t j ||| 2 ^ S[t] else X2m l S t j:=by
 have hm:j∈mem (abv l S[t])↔Up l j S[t]:=by rw [Z15 (Z6I l _),Z6H hl]
 refine X5T (Z4E ..) (by split; exact Z1X (Z4E ..) (ZV h64); exact Z4E ..) fun b hb=>?_;rw [YO,Z56,Z6P ht];by_cases h:Up l j S[t]
 . rw [Y5 (hm.2 h), Y00, YP, Z56, YK, Y2b, Y0h, Y0g];constructor
   . rintro ⟨h1, h2 | h2, h3⟩
     . exact .inl ⟨h1,h2,h3⟩
     . exact .inr h2.symm
   . rintro (⟨h1, h2, h3⟩ | h2)
     . exact⟨h1,.inl h2,h3⟩
     . subst h2; exact⟨hb,.inr rfl,h⟩
 . rw [Y6 fun hh => h (hm.1 hh), Z56, Y0h, Y0g];constructor
   . rintro ⟨h1, h2 | h2, h3⟩
     . exact⟨h1,h2,h3⟩
     . subst h2; exact absurd h3 h
   . rintro⟨h1,h2,h3⟩; exact⟨h1,.inl h2,h3⟩
theorem Zhu {l:List Pr} {S:List Nat} (hS:X2Z l S) (h64:S.length=64) {j:Nat} (hj:j<64):X2U l S 64 j=abv l j:=by
 unfold X2U;rw [<- h64,Y0q,Y5 (hS.all h64 hj)]
theorem Zhv {l:List Pr} (hl:XL l) {S:List Nat} (hS:X2Z l S) (h64:S.length=64) (j:Nat):X2m l S 64 j=bel l j:=by
 refine X5T (Z4E ..) (Zfk ..) fun b hb=>?_;rw [YO,Z56,Zfj hl,<- h64,Y0q];exact⟨fun h=>h.2.2,fun h=>⟨by omega,hS.all h64 hb,h⟩⟩
theorem Z3Q {f g:Nat->Nat} (h:∀ j,j<64->f j=g j):tab (X29 f)=tab (X29 g):=Z3P fun j hj=>by show [PV.vec (X5 (X7 (f j))) false] = [PV.vec (X5 (X7 (g j))) false]; rw [h j hj]
theorem ZcF {f:Nat->Nat} {i v:Nat} (hi:i<64):(tab (X29 f)).set i (Xj ((tab (X29 f)).getD i []) 0 [.vec (X5 (X7 v)) false])=tab (X29 fun j=>if j=i then v else f j):=by
 rw [Z2X hi,show Xj (X29 f i) 0 [.vec (X5 (X7 v)) false] = [.vec (X5 (X7 v)) false] from rfl,Zfn _ hi];refine Z3P fun j _=>?_;show (if j=i then [PV.vec (X5 (X7 v)) false] else X29 f j) = [PV.vec (X5 (X7 (if j=i then v else f j))) false];by_cases hj:j=i
 . rw [Y5 hj,Y5 hj]
 . rw [Y6 hj,Y6 hj]; rfl
theorem Zfw (l:List Pr) (S:List Nat) (j:Nat):X2m l S 0 j=0:=by
 refine X5T (Z4E ..) (by decide) fun b hb=>?_;rw [YO,Z56];simp
theorem Zbj (l:List Pr) (fp:Bool) (hl:XL l) (hlen:l.length<=1000000) (S:List Nat) (hS:X2Z l S) (h64:S.length=64) :
 X2f Tryz.prog 103 (X38 l fp (.vec [] true) (.vec [] true) (.vec (XG (Xb S)) false)) [] fun r b'=>r=.tup []/\b'=X38 l fp (.vec (tab (X29 (abv l))) false) (.vec (tab (X29 (bel l))) false) (.vec (XG (Xb S)) false):=by
 have hpl:∀ D,Xu D (l.map prC):=fun D=>Ze (fun _ h=>h.elim) _ (Zl l);have hnl:(l.map prC).length=l.length:=by simp
 have hti:∀ (f:Nat->Nat) D,Xu D (tab (X29 f)):=fun f D=>Ze (fun _ h=>h.elim) _ (Z1H (Z21 f));have hap:∀ (l:List Nat) D,Xu D (XG (Xb l)):=fun l D=>Z4W _ D;have hSn:(XG (Xb S)).length=S.length:=by simp [XG,Xb]
 refine Z1O ok103 (Y0 rfl) fun C hC=>?_;refine Zq ?_;refine Za ?_;refine Z5 rfl rfl rfl ?_;refine Z1L ?_;refine Zq ?_;refine Z3h [] [(0,148512)] [262143,262143,262143,262143,262143,262143,262143,262143,262143,262143,262143,262143,262143,262143,2050,262143,262143,0] (by kernel_rfl) ?_;refine go ?_;refine Z6z hC (n':=20) [(1,.cp [.ptr 0 0 0]),(2,.own 19),(34,.vec (l.map prC) fp),(35,.val (.int .i64 l.length)),(36,.val (.int .i64 ((0:Nat):Int)))]
  [(0,X38 l fp (.own 7) (.own 12) (.vec (XG (Xb S)) false)),(7,⟨1,List.replicate 64 [.vec [] true]⟩),(12,⟨1,List.replicate 64 [.vec [] true]⟩),(19,⟨1,List.replicate 64 [.vec [] true]⟩)] (by decide)
  ⟨⟨rfl,show (0:Nat)<20 by decide,Yt⟩,⟨rfl,show (19:Nat)<20 by decide⟩,⟨rfl,hpl _⟩,⟨by rw [<- hnl]; rfl,Yt⟩,⟨rfl,Yt⟩,Yt⟩ ?_ ?_
 . exact⟨⟨by decide,rfl,⟨⟨Yt,hpl _,show (7:Nat)<20 by decide,show (12:Nat)<20 by decide,hap _ _,Yt⟩,Yt⟩⟩,⟨by decide,rfl,ZU rfl |> Ze (fun _ h=>h.elim) _⟩,⟨by decide,rfl,ZU rfl |> Ze (fun _ h=>h.elim) _⟩,⟨by decide,rfl,ZU rfl |> Ze (fun _ h=>h.elim) _⟩,Yt⟩
 refine Z1l (ZdT (n:=20) (D:=19) (by decide) rfl 1 (by decide)) ?_;show aw _ C _ _ 84 _ (X1K (X2A l fp S) 19 20 (fun j=>.own (20+j)) 64 (X3v (l.take 0)));have hbs:∀ k b,X2A l fp S k=some b->k≠19->(k=0/\b=X38 l fp (.own 7) (.own 12) (.vec (XG (Xb S)) false)) \/ ((k=7 \/ k=12)/\b=⟨1,List.replicate 64 [.vec [] true]⟩):=by
  intro k b hk h19;have:=Z1F hk;simp only [Y9,Y2T,Y2a,Y44] at this;rcases this with h|h|h|h
  . exact .inl h
  . exact .inr ⟨.inl h.1,h.2⟩
  . exact .inr ⟨.inr h.1,h.2⟩
  . exact absurd h.1 h19
 have hren:∀ k0 k',20<=k0->∀ k b,X2A l fp S k=some b->k≠19->k<20/\Xr (mv k0 k') (fun i=>i<20+64) b b:=by
  intro k0 k' hk0 k b hk h19;have o7:=X1x.own (ρ:=mv k0 k') (D:=fun i=>i<20+64) 7 (by omega);have o12:=X1x.own (ρ:=mv k0 k') (D:=fun i=>i<20+64) 12 (by omega);rw [Z61 (by omega)] at o7 o12;rcases hbs k b hk h19 with⟨rfl,rfl⟩|⟨h,rfl⟩
  . exact⟨by omega,Xr.single ⟨.pure _ Yt,.pure _ (Zl l),o7,o12,.pure _ (ZG _),Yt⟩ rfl⟩
  . exact⟨by omega,.same _ (ZU rfl)⟩
 refine Z8w (fun i=>i<=l.length) (fun i=>l.length-i) (fun _=>84) (fun i=>X1v [(1,.cp [.ptr 0 0 0]),(2,.own 19),(34,.vec (l.map prC) fp),(35,.val (.int .i64 l.length)),(36,Yv i)]) (fun i=>X1K (X2A l fp S) 19 20 (fun j=>.own (20+j)) 64 (X3v (l.take i))) 0 (Y0l _) Z8z ?_;intro i hi;have hinc:IntKind.i64.wrap ((i:Int)+1)=((i+1:Nat):Int):=Y0v _ ⟨by omega,by omega⟩;refine gd 37 ⟨?_⟩;refine Zv rfl rfl rfl (fun hb=>?_) (fun hb=>?_)
 . have hil : i < l.length := by have := Y0u hb; omega
   have hp:=hl _ (Y0j hil);have hst:=fun j=>Zfs hil j;have hdl:=ZcC (l.take i) l[i].2;rw [Y0o] at hdl;clear hb;refine go ?_;refine Qo (Zo (xs:=l) (g:=prC) rfl rfl i rfl hil rfl) ?_;generalize l[i]=p at hp hst hdl ⊢
   iterate 4 (first|refine st ?_|(apply B<;>intro hb<;>try cases hb))
   refine Z1l (Z2r (k:=4) (id:=84) (esz:=2) (l:=prC p) rfl rfl) ?_;refine Z1l (Zh9 (h':=X1K (X2A l fp S) 19 20 (fun j=>.own (20+j)) 64 (X3v (l.take i))) fun k b hk=>?_) ?_
   . have hne : k ≠ 84 := fun h => by
      rw [h,show X1K (X2A l fp S) 19 20 (fun j=>PV.own (20+j)) 64 (X3v (l.take i)) 84=none from rfl] at hk;cases hk
     rw [X1.del_ne _ hne,X1.upd_ne _ _ hne,X1.upd_ne _ _ hne];exact hk
   refine Z3h [] [(20+p.2,2048)] [16383,16383,16383,16383,16383,16383,16383,16383,16383,16383,16383,4,16383,16383] ((Zhr 0).trans (by kernel_rfl)) ?_;have hT19:∀ g,X1K (X2A l fp S) 19 20 (fun j=>PV.own (20+j)) 64 g 19=some ⟨1,(List.range 64).map fun j => [PV.own (20+j)]⟩:=fun g=>Z2N _ _ _ _ _ _;have hlen64:∀ f:Nat->List PV,((List.range 64).map f).length=64:=fun f=>by simp
   refine gd 46 ⟨?_⟩;refine Zd (ZO rfl rfl (hT19 _) p.2 rfl (by rw [hlen64]; exact hp.2) rfl) (X6Y rfl (ZcD (by omega) (by omega))) rfl ?_;refine Zd (Z2p (p:=.own (20+p.2)) (i:=p.2) rfl (hT19 _) (by rw [hlen64]; exact hp.2) (by rw [Z1m hp.2]; rfl)) (X82 rfl (ZcD (by omega) (by omega))) rfl ?_;refine gd 51 ⟨?_⟩
   refine Zd (Zt (k:=20+p.2) (m := [[.val (.int .i64 (p.1:Int))]]) (fl:=true) (b:=X3v (l.take i) p.2) rfl rfl (Z2t _ (by decide) _ _ hp.2) (fun r hr=>by rw [Y0g] at hr; subst hr; rfl) rfl (by
    show ((XG (Xb (X1f (l.take i) p.2))).length+1)*8<=_;have:(XG (Xb (X1f (l.take i) p.2))).length=(X1f (l.take i) p.2).length:=by simp [XG,Xb]
    omega)) (X7Y rfl (Zjb (by show _<85;omega) rfl) (Zlc rfl)) rfl ?_
   have hT19b:∀ (g:Nat->Bx) (b:Bx),((X1K (X2A l fp S) 19 20 (fun j=>PV.own (20+j)) 64 g).del (20+p.2)).upd 96 b 19=some ⟨1,(List.range 64).map fun j => [PV.own (20+j)]⟩:=fun g b=>by
    rw [X1.upd_ne _ _ (by decide),X1.del_ne _ (by omega)]; exact hT19 g
   refine Zd (ZO rfl rfl (hT19b _ _) p.2 rfl (by rw [hlen64]; exact hp.2) rfl) (X6Y rfl (ZcD (by show _<85;omega) (by omega))) rfl ?_;refine Zd (Z1T (i:=p.2) rfl rfl (hT19b _ _) rfl rfl (by rw [hlen64]; exact hp.2) (Y0m _)) (X7K rfl (ZcD (by show _<85;omega) (by omega)) rfl) rfl ?_;refine Z6y ?_;have es:Xj (((List.range 64).map fun j => [PV.own (20+j)]).getD p.2 []) 0 (PV.own 96).cells = [.own 96]:=by rw [Z1m hp.2]; rfl
   have hfun:(fun j=>if j=p.2 then (⟨1,(X3v (l.take i) p.2).elems ++ [[.val (.int .i64 (p.1:Int))]]⟩:Bx) else X3v (l.take i) j)=X3v (l.take (i+1)):=by
    funext j;unfold X3v;rw [hst j];by_cases hj:j=p.2
    . rw [Y5 hj, Y5 hj, hj];simp [XG,Xb]
    . rw [Y6 hj,Y6 hj]
   have o19:=X1x.own (ρ:=mv (20+p.2) 96) (D:=fun i=>i<20+64) 19 (by omega);rw [Z61 (by omega)] at o19;have hrp:X2 ((X3v (l.take i) p.2).elems ++ [[PV.val (.int .i64 (p.1:Int))]]):=by
    have:(X3v (l.take i) p.2).elems ++ [[PV.val (.int .i64 (p.1:Int))]]=XG (Xb (X1f (l.take i) p.2 ++ [p.1])):=by simp [X3v,XG,Xb]
    rw [this]; exact ZG _
   have hsub:=fun (e:Env) (he:X37 (mv (20+p.2) 96) e (20+64) [(1,.cp [.ptr 0 0 0]),(2,.own 19),(34,.vec (l.map prC) fp),(35,.val (.int .i64 l.length)),(36,Yv i)]) =>
    Zbh (C:=C) (h0:=X2A l fp S) (D:=19) (n0:=20) (n':=99) (e:=e) (by decide) (g:=X3v (l.take i)) (j0:=p.2) (new:=96) hp.2 (by decide) (r:=⟨1,(X3v (l.take i) p.2).elems ++ [[.val (.int .i64 (p.1:Int))]]⟩) hrp (Z9N _)
     (e':=X1v [(1,.cp [.ptr 0 0 0]),(2,.own 19),(34,.vec (l.map prC) fp),(35,.val (.int .i64 l.length)),(36,Yv i)]) (fun k q hk=>he.mem _ (Z9B hk)) (hren (20+p.2) 96 (by omega)) hC (by decide)
   rw [hfun] at hsub;simp only [<- es] at hsub;refine Z1l (hsub _ ⟨⟨_,rfl,.same _ ⟨⟨by omega,Z61 (by omega)⟩,Yt⟩⟩,⟨_,rfl,o19⟩,Qp (Zl l),Qp Yt,Qp Yt,Yt⟩) ?_;refine go ?_;exact⟨i+1,by omega,by omega,ZaY ⟨rfl,rfl,rfl,rfl,by show some _=some _; rw [hinc],Yt⟩⟩
 . have hil : i = l.length := by have := Ye hb; omega
   subst hil;rw [Y0q];clear hb;refine gd 54 ⟨?_⟩;have h0n:∀ k,20<=k->k<20+64->X2A l fp S k=none:=fun k h1 h2=>by
    cases hk:X2A l fp S k with
    | none=>rfl
    | some b=>rcases hbs k b hk (by omega) with⟨h,_⟩|⟨h,_⟩<;>omega
   refine Zb (fun C=>Z8L (D:=19) (k:=2) (by decide) h0n rfl (Z9N l)) ?_;refine go ?_;have hdp:(PV.vec ((List.range 64).map fun j => [.vec (XG (Xb (X1f l j))) false]) false).pure:=by
    refine (Z2g _ _).2 fun r hr=>?_;obtain⟨j,_,rfl⟩:=Y0i.1 hr;exact⟨ZG _,Yt⟩
   have hdi:∀ D,(PV.vec ((List.range 64).map fun j => [.vec (XG (Xb (X1f l j))) false]) false).inn D:=fun D=>PV.pure.inn hdp D;have hob:∀ n,12<n->Xu (· < n) (X38 l fp (.own 7) (.own 12) (.vec (XG (Xb S)) false)).elems:=fun n hn=>⟨⟨Yt,hpl _,show (7:Nat)<n by omega,show (12:Nat)<n from hn,hap _ _,Yt⟩,Yt⟩
   have hlow:Xr (fun i=>i) (fun i=>i<84) ⟨1,List.replicate 64 [.vec [] true]⟩ ⟨1,tab fun _ => [.vec [] false]⟩:=by
    have er:∀ i,i<64->(List.replicate 64 [PV.vec [] true]).getD i [] = [PV.vec [] true]:=fun i hi=>by rw [Y0b,Y3F,Y5 hi]; rfl
    refine .gen _ _ Y1K rfl (by rw [Z10]; simp) (fun i hi=>?_) fun i q hi hq=>?_
    . rw [Z10] at hi;rw [Z2X hi,er i hi]; rfl
    . rw [Z10] at hi;have hq0:q=0:=Nat.lt_one_iff.1 hq;subst hq0;rw [Z2X hi,er i hi];exact .low (.vec [] true) Yt
   refine Z1l (Z2q (n':=84) (L := [(1,.cp [.ptr 0 0 0]),(2,.vec ((List.range 64).map fun j => [.vec (XG (Xb (X1f l j))) false]) false),(57,.vec (XG (Xb S)) false),(58,.val (.int .i64 64)),(59,.val (.int .i64 ((0:Nat):Int)))])
    (HL := [(0,X38 l fp (.own 7) (.own 12) (.vec (XG (Xb S)) false)),(7,⟨1,tab fun _ => [.vec [] false]⟩),(12,⟨1,tab fun _ => [.vec [] false]⟩)]) ?_ ?_ hC (by decide)) ?_
   . exact X37.mem (L := [(1, .cp [.ptr 0 0 0]), (2, .vec ((List.range 64).map fun j => [.vec (XG (Xb (X1f l j))) false]) false), (57, .vec (XG (Xb S)) false), (58, .val (.int .i64 64)), (59, .val (.int .i64 ((0 : Nat) : Int)))])
      ⟨⟨_,rfl,.same _ ⟨⟨by decide,rfl⟩,Yt⟩⟩,Qp hdp,Qp (ZG _),⟨_,by rw [show (64:Int)=((XG (Xb S)).length:Nat) by rw [hSn,h64]; rfl]; rfl,.pure _ Yt⟩,Qp Yt,Yt⟩
   . exact X1o.mem (L := [(0, X38 l fp (.own 7) (.own 12) (.vec (XG (Xb S)) false)), (7, ⟨1, tab fun _ => [.vec [] false]⟩), (12, ⟨1, tab fun _ => [.vec [] false]⟩)])
      ⟨⟨by decide,_,rfl,Xr.single (ρ:=fun i=>i) (l0 := [.val (.int .i64 64),.vec (l.map prC) fp,.own 7,.own 12,.vec (XG (Xb S)) false]) (l := [.val (.int .i64 64),.vec (l.map prC) fp,.own 7,.own 12,.vec (XG (Xb S)) false]) (show X2n _ _ [_,_,_,_,_] [_,_,_,_,_] from ⟨.pure _ Yt,.pure _ (Zl l),.own (ρ:=fun i=>i) 7 (by decide),.own (ρ:=fun i=>i) 12 (by decide),.pure _ (ZG _),Yt⟩) rfl⟩,⟨by decide,_,rfl,hlow⟩,⟨by decide,_,rfl,hlow⟩,Yt⟩
   have hren0:Xr (fun i=>i) (fun i=>i<84) (X38 l fp (.own 7) (.own 12) (.vec (XG (Xb S)) false)) (X38 l fp (.own 7) (.own 12) (.vec (XG (Xb S)) false)) :=
    Xr.single (ρ:=fun i=>i) (l0 := [.val (.int .i64 64),.vec (l.map prC) fp,.own 7,.own 12,.vec (XG (Xb S)) false]) (l := [.val (.int .i64 64),.vec (l.map prC) fp,.own 7,.own 12,.vec (XG (Xb S)) false]) (show X2n _ _ [_,_,_,_,_] [_,_,_,_,_] from ⟨.pure _ Yt,.pure _ (Zl l),.own (ρ:=fun i=>i) 7 (by decide),.own (ρ:=fun i=>i) 12 (by decide),.pure _ (ZG _),Yt⟩) rfl
   have hz0:∀ f:Nat->Nat,(∀ j,f j=0)->(tab fun _ => [PV.vec [] false])=tab (X29 f):=fun f hf=>Z3P fun j _=>by
    show [PV.vec [] false] = [PV.vec (X5 (X7 (f j))) false];rw [hf,ZM]; rfl
   refine ZB hC (fun t=>t<=64) (fun t=>64-t) 84 (fun t => [(1,.cp [.ptr 0 0 0]),(2,.vec ((List.range 64).map fun j => [.vec (XG (Xb (X1f l j))) false]) false),(57,.vec (XG (Xb S)) false),(58,.val (.int .i64 64)),(59,.val (.int .i64 (t:Int)))])
    (fun t => [(0,X38 l fp (.own 7) (.own 12) (.vec (XG (Xb S)) false)),(7,⟨1,tab (X29 (X2U l S t))⟩),(12,⟨1,tab (X29 (X2m l S t))⟩)]) (by decide) 0 (by decide)
    ⟨⟨rfl,show (0:Nat)<84 by decide,Yt⟩,⟨rfl,hdi _⟩,⟨rfl,hap _ _⟩,⟨rfl,Yt⟩,⟨rfl,Yt⟩,Yt⟩
    ⟨⟨by decide,rfl,hob _ (by decide)⟩,⟨by decide,by rw [<- hz0 _ fun j=>show X2U l S 0 j=0 from Y6 (by simp)]; rfl,hti _ _⟩,⟨by decide,by rw [<- hz0 _ (Zfw l S)]; rfl,hti _ _⟩,Yt⟩ ?_
   intro t ht;have htinc:IntKind.i64.wrap ((t:Int)+1)=((t+1:Nat):Int):=Y0v _ ⟨by omega,by omega⟩;refine gd 60 ⟨?_⟩;refine Zv rfl rfl rfl (fun hb=>?_) (fun hb=>?_)
   . have htl : t < S.length := by have := Y0u hb; omega
     have hb64:=hS.lt _ (Y0j htl);have hpred:=hS.pred t htl;have hnew:=Zhs (l:=l) hS.nodup htl;have hbS:=ZcE hS.nodup htl;have hastep:=fun j=>Zfu (l:=l) htl j;have hbstep:=fun j=>Zfv hl htl hb64 j;have hgetS : (Xb S)[t]'(by simpa [Xb] using htl) = ((S[t] : Nat) : Int) := by simp [Xb]
     clear hb;refine go ?_;refine Qo (Zo (xs:=Xb S) (g:=fun x => [.val (.int .i64 x)]) rfl rfl t rfl (by simpa [Xb] using htl) rfl) ?_;rw [hgetS];generalize S[t]=b at hb64 hpred hnew hbS hastep hbstep ⊢
     iterate 4 (first|refine st ?_|(apply B<;>intro hb<;>try cases hb))
     refine Z1l (Z2r (k:=6) (id:=84) (esz:=1) (l := [.val (.int .i64 (b:Int))]) rfl rfl) ?_;refine go ?_;refine Qo (Zo (xs:=List.range 64) (g:=fun j => [.vec (XG (Xb (X1f l j))) false]) rfl rfl b rfl (by simpa using hb64) rfl) ?_;rw [Y2c];refine go ?_;have hnd:(XG (Xb (X1f l b))).length=(X1f l b).length:=by simp [XG,Xb]
     have hdlen:=ZcC l b;refine ZB hC (fun s=>s<=(X1f l b).length) (fun s=>(X1f l b).length-s) 85 (fun s => [(1,.cp [.ptr 0 0 0]),(2,.vec ((List.range 64).map fun j => [.vec (XG (Xb (X1f l j))) false]) false),(6,.cp [.val (.int .i64 (b:Int))]),(57,.vec (XG (Xb S)) false),(58,.val (.int .i64 64)),(59,.val (.int .i64 (t:Int))),(66,.vec (XG (Xb (X1f l b))) false),(67,.val (.int .i64 (X1f l b).length)),(68,.val (.int .i64 (s:Int)))])
      (fun s => [(0,X38 l fp (.own 7) (.own 12) (.vec (XG (Xb S)) false)),(7,⟨1,tab (X29 fun j=>if j=b then aS l ((X1f l b).take s) else X2U l S t j)⟩),(12,⟨1,tab (X29 (X2m l S t))⟩)]) (by decide) 0 (Y0l _)
      ⟨⟨rfl,show (0:Nat)<85 by decide,Yt⟩,⟨rfl,hdi _⟩,⟨rfl,Yt,Yt⟩,⟨rfl,hap _ _⟩,⟨rfl,Yt⟩,⟨rfl,Yt⟩,⟨rfl,hap _ _⟩,⟨by rw [<- hnd]; rfl,Yt⟩,⟨rfl,Yt⟩,Yt⟩
      ⟨⟨by decide,rfl,hob _ (by decide)⟩,⟨by decide,by rw [Z3Q (f:=fun j=>if j=b then aS l ((X1f l b).take 0) else X2U l S t j) (g:=X2U l S t) fun j _=>by by_cases hj:j=b; (rw [Y5 hj,hj,hnew]; rfl); rw [Y6 hj]]; rfl,hti _ _⟩,⟨by decide,rfl,hti _ _⟩,Yt⟩ ?_
     intro s hs;have hsinc:IntKind.i64.wrap ((s:Int)+1)=((s+1:Nat):Int):=Y0v _ ⟨by omega,by omega⟩;refine gd 69 ⟨?_⟩;refine Zv rfl rfl rfl (fun hb=>?_) (fun hb=>?_)
     . have hsl : s < (X1f l b).length := by have := Y0u hb; omega
       have htk:=Z6P hsl;have hga : (Xb (X1f l b))[s]'(by simpa [Xb] using hsl) = (((X1f l b)[s] : Nat) : Int) := by simp [Xb]
       have hma:(X1f l b)[s]∈X1f l b:=Y0j hsl;have hcur:aS l ((X1f l b).take s)<18446744073709551616:=Zjd l _ 0 (fun a ha=>Zbi hl (YM ha)) (by decide);clear hb;refine go ?_;refine Qo (Zo (xs:=Xb (X1f l b)) (g:=fun x => [.val (.int .i64 x)]) rfl rfl s rfl (by simpa [Xb] using hsl) rfl) ?_;rw [hga];generalize (X1f l b)[s]=a at htk hma ⊢;have ha64:=Zbi hl hma;have haS:=hpred a (Z6h.1 hma);have hab:a≠b:=fun h=>hbS (h▸haS);have hor:=Z1X hcur (Z6I l a);have hwn:X2p (aS l ((X1f l b).take s) ||| abv l a) (a:Int)=aS l ((X1f l b).take (s+1)):=by
        rw [htk,Zjc,X2p,Y5 ⟨by omega,by omega⟩]; rfl
       refine gd 82 ⟨?_⟩;refine Qr (ZO rfl rfl rfl b rfl (by rw [Z10]; exact hb64) rfl) ?_;refine Qr (Z2p (p:=XH (aS l ((X1f l b).take s))) (i:=b) rfl rfl (by rw [Z10]; exact hb64) (by rw [Z2X hb64]; show some (XH (if b=b then _ else _))=_; rw [Y5 rfl])) ?_;refine gd 89 ⟨?_⟩;refine Qr (ZO rfl rfl rfl a rfl (by rw [Z10]; exact ha64) rfl) ?_;refine Qr (Z2p (p:=XH (abv l a)) (i:=a) rfl rfl (by rw [Z10]; exact ha64) (by rw [Z2X ha64]; show some (XH (if a=b then _ else X2U l S t a))=_; rw [Y6 hab,Zht haS])) ?_;refine Qd (Z1G _ (abv l a) hcur (Z6I l a)) ⟨Z2 _,Z2 _,Yt⟩ ?_;refine gd 93 ⟨?_⟩;refine Qd (Z3N _ (Y03 (Z35 hor) (by decide)) (a:Int)) ⟨Z2 _,Yt,Yt⟩ ?_;rw [hwn];refine Qr (ZO rfl rfl rfl b rfl (by rw [Z10]; exact hb64) rfl) ?_;refine Qr (Z1T (i:=b) rfl rfl rfl rfl rfl (by rw [Z10]; exact hb64) (Y0m _)) ?_;refine go ?_
       refine⟨s+1,by omega,by omega,⟨⟨rfl,show (0:Nat)<85 by decide,Yt⟩,⟨rfl,hdi _⟩,⟨rfl,Yt,Yt⟩,⟨rfl,hap _ _⟩,⟨rfl,Yt⟩,⟨rfl,Yt⟩,⟨rfl,hap _ _⟩,⟨rfl,Yt⟩,⟨by show some _=some _; rw [hsinc],Yt⟩,Yt⟩,
        ⟨⟨by decide,rfl,hob _ (by decide)⟩,⟨by decide,?_,hti _ _⟩,⟨by decide,rfl,hti _ _⟩,Yt⟩⟩
       show some (Bx.mk 1 ((tab (X29 fun j=>if j=b then aS l ((X1f l b).take s) else X2U l S t j)).set b (Xj ((tab (X29 fun j=>if j=b then aS l ((X1f l b).take s) else X2U l S t j)).getD b []) 0 [.vec (X5 (X7 (aS l ((X1f l b).take (s+1))))) false])))=some _;rw [ZcF hb64];refine congrArg (fun x=>some (Bx.mk 1 x)) (Z3Q fun j _=>?_);by_cases hj:j=b
       . rw [Y5 hj,Y5 hj]
       . rw [Y6 hj,Y6 hj,Y6 hj]
     . have hsl : s = (X1f l b).length := by have := Ye hb; omega
       subst hsl;clear hb;rw [Y0q,Zkp hl b];refine gd 101 ⟨?_⟩;refine Qr (ZO rfl rfl rfl b rfl (by rw [Z10]; exact hb64) rfl) ?_;refine Qr (Z2p (p:=XH (abv l b)) (i:=b) rfl rfl (by rw [Z10]; exact hb64) (by rw [Z2X hb64]; show some (XH (if b=b then _ else _))=_; rw [Y5 rfl])) ?_;refine Qd (Z1R (abv l b)) ⟨Z2 _,Yt⟩ ?_;refine go ?_;refine Z2K (X:=List Nat) hC (caps := [.cp [.vec (X5 (X7 (abv l b))) false]]) [(1,.cp [.ptr 0 0 0]),(2,.vec ((List.range 64).map fun j => [.vec (XG (Xb (X1f l j))) false]) false),(6,.cp [.val (.int .i64 (b:Int))]),(57,.vec (XG (Xb S)) false),(58,.val (.int .i64 64)),(59,.val (.int .i64 (t:Int))),(103,.fn 134 [.cp [.vec (X5 (X7 (abv l b))) false]])]
        (fun z => [(0,X38 l fp (.own 7) (.own 12) (.vec (XG (Xb S)) false)),(7,⟨1,tab (X29 fun j=>if j=b then abv l b else X2U l S t j)⟩),(12,⟨1,tab (X29 fun j=>if j∈z then X2m l S t j ||| 2 ^ b else X2m l S t j)⟩)]) rfl ⟨⟨Z4 _,Yt⟩,Yt⟩ (Z2L (abv l b) (Z6I l b)) (fun _=>rfl)
        (fun ex pre z=>ex=.normal/\z=pre.map (·.val)) 84 (by decide) [] ⟨rfl,rfl⟩
        (Z4S hC (by decide) ⟨⟨rfl, show (0 : Nat) < 84 by decide, Yt⟩, ⟨rfl, hdi _⟩, ⟨rfl, Yt, Yt⟩, ⟨rfl, hap _ _⟩, ⟨rfl, Yt⟩, ⟨rfl, Yt⟩, ⟨rfl, ⟨Zr _ _, Yt⟩, Yt⟩, Yt⟩
          ⟨⟨by decide,rfl,hob _ (by decide)⟩,⟨by decide,rfl,hti _ _⟩,⟨by decide,by rw [Z3Q (f:=fun j=>if j∈([]:List Nat) then X2m l S t j ||| 2 ^ b else X2m l S t j) (g:=X2m l S t) fun j _=>Y6 (by simp)]; rfl,hti _ _⟩,Yt⟩)
        (fun z q hq=>by simp at hq; rcases hq with rfl|rfl|rfl<;>exact Y1z _) _ (fun x=>rfl) ?_ ?_ ?_
       . rintro C2 hC2 pre x z ⟨-, hz⟩ hlen;have ha64:=Z3C x.2;generalize hf:(fun j=>if j∈z then X2m l S t j ||| 2 ^ b else X2m l S t j)=f;have hf64:∀ j,f j<18446744073709551616:=fun j=>by
          rw [<- hf];dsimp only
          split
          . exact Z1X (Z4E ..) (ZV hb64)
          . exact Z4E ..
         have hwn:X2p (f x.val) (b:Int)=f x.val ||| 2 ^ b:=by rw [X2p,Y5 ⟨by omega,by omega⟩]; rfl
         refine gd 115 ⟨?_⟩;refine Qr (ZO rfl rfl rfl x.val rfl (by rw [Z10]; exact ha64) rfl) ?_;refine Qr (Z2p (p:=XH (f x.val)) (i:=x.val) rfl rfl (by rw [Z10]; exact ha64) (by rw [Z2X ha64]; rfl)) ?_;refine gd 118 ⟨?_⟩;refine Qd (Z3N _ (Y03 (Z35 (hf64 _)) (by decide)) (b:Int)) ⟨Z2 _,Yt,Yt⟩ ?_;rw [hwn];refine Qr (ZO rfl rfl rfl x.val rfl (by rw [Z10]; exact ha64) rfl) ?_;refine Qr (Z1T (i:=x.val) rfl rfl rfl rfl rfl (by rw [Z10]; exact ha64) (Y0m _)) ?_;refine go ?_
         refine⟨.inl rfl,z ++ [x.val],fun i=>i,⟨rfl,by rw [hz,Y0r]; rfl⟩,fun i hi=>rfl,Zp,
          ⟨⟨_,rfl,.same _ ⟨⟨by decide,rfl⟩,Yt⟩⟩,Qp hdp,Qp ⟨Yt,Yt⟩,Qp (ZG _),Qp Yt,Qp Yt,Qp ⟨⟨Z4 _,Yt⟩,Yt⟩,Yt⟩,
          ⟨⟨by decide,_,rfl,hren0⟩,Qs (Z1H (Z21 _)),⟨by decide,_,rfl,?_⟩,Yt⟩⟩
         show Xr _ _ ⟨1,(tab (X29 f)).set x.val (Xj ((tab (X29 f)).getD x.val []) 0 [.vec (X5 (X7 (f x.val ||| 2 ^ b))) false])⟩ ⟨1,tab (X29 fun j=>if j∈z ++ [x.val] then X2m l S t j ||| 2 ^ b else X2m l S t j)⟩;rw [ZcF ha64,Z3Q (g:=fun j=>if j∈z ++ [x.val] then X2m l S t j ||| 2 ^ b else X2m l S t j)]
         . exact .same _ (Z1H (Z21 _))
         . intro j _;rw [<- hf];dsimp only;by_cases hj:j=x.val
           . rw [Y5 hj, Y5 (Y0h.2 (.inr (Y0g.2 hj))), hj];by_cases hx:x.val∈z
             . rw [Y5 hx,Y3t,Nat.or_self]
             . rw [Y6 hx]
           . rw [Y6 hj];by_cases hx:j∈z
             . rw [Y5 hx,Y5 (Y0h.2 (.inl hx))]
             . rw [Y6 hx,Y6 fun h=>(Y0h.1 h).elim hx fun h=>hj (Y0g.1 h)]
       . rintro xs z hxs ⟨-, rfl⟩;rw [hxs];refine go ?_
         refine⟨t+1,by omega,by omega,⟨⟨rfl,show (0:Nat)<84 by decide,Yt⟩,⟨rfl,hdi _⟩,⟨rfl,hap _ _⟩,⟨rfl,Yt⟩,⟨by show some _=some _; rw [htinc],Yt⟩,Yt⟩,
          ⟨⟨by decide,rfl,hob _ (by decide)⟩,⟨by decide,by rw [Z3Q (f:=X2U l S (t+1)) (g:=fun j=>if j=b then abv l b else X2U l S t j) fun j _=>hastep j]; rfl,hti _ _⟩,⟨by decide,by rw [Z3Q (f:=X2m l S (t+1)) (g:=fun j=>if j∈mem (abv l b) then X2m l S t j ||| 2 ^ b else X2m l S t j) fun j _=>hbstep j]; rfl,hti _ _⟩,Yt⟩⟩
       . rintro ex pre z - ⟨rfl,_⟩ (h|⟨id,h⟩)<;>cases h
   . have htl : t = 64 := by have := Ye hb; omega
     subst htl;clear hb;refine Z1L ?_;rw [Z3Q (f:=X2U l S 64) (g:=abv l) fun j hj=>Zhu hS h64 hj,Z3Q (f:=X2m l S 64) (g:=bel l) fun j _=>Zhv hl hS h64 j];refine Z1l (Z2c (ob:=0) (id:=7) (i0:=0) (j0:=2) rfl rfl (by decide) (Z1H (Z21 _)) (Y0 rfl) (Y0 rfl) rfl) ?_;refine Z1l (Z2c (ob:=0) (id:=12) (i0:=0) (j0:=3) rfl rfl (by decide) (Z1H (Z21 _)) (Y0 rfl) (Y0 rfl) rfl) ?_;refine go ?_;exact⟨_,_,rfl,.inl rfl,_,rfl,Yt,⟨⟨Yt,Zl l,Z1H (Z21 _),Z1H (Z21 _),ZG _,Yt⟩,Yt⟩,rfl,rfl⟩
end
section
open Go.Shelf
def Z2O:Go.Shelf.Ren:=⟨fun|6=>98|15=>145|14=>144|28=>185|29=>186|20=>177|21=>178|22=>179|23=>180|24=>181|25=>182|26=>183|27=>184|46=>198|47=>199|48=>200|49=>201|50=>202|57=>217|n=>n,fun|22=>33|24=>124|25=>165|3=>3|39=>112|0=>0|53=>259|55=>34|4=>4|46=>253|45=>252|50=>246|5=>5|9=>9|66=>272|70=>276|76=>287|77=>288|n=>n,fun|n=>n⟩
theorem X4M:Go.Proofs.SlLaysF0.n6 Tryz.prog Z2O:={
 mixed:=by kernel_rfl
 f6:=⟨Tryz.f98.name,by decide,Tryz.func98.trans (congrArg some (by kernel_rfl))⟩
 f14:=⟨Tryz.f144.name,by decide,Tryz.func144.trans (congrArg some (by kernel_rfl))⟩
 f15:=Tryz.func145.trans (congrArg some (by kernel_rfl))
 f20:=⟨Tryz.f177.name,by decide,Tryz.func177.trans (congrArg some (by kernel_rfl))⟩
 f21:=⟨Tryz.f178.name,by decide,Tryz.func178.trans (congrArg some (by kernel_rfl))⟩
 f22:=⟨Tryz.f179.name,by decide,Tryz.func179.trans (congrArg some (by kernel_rfl))⟩
 f23:=⟨Tryz.f180.name,by decide,Tryz.func180.trans (congrArg some (by kernel_rfl))⟩
 f24:=⟨Tryz.f181.name,by decide,Tryz.func181.trans (congrArg some (by kernel_rfl))⟩
 f25:=⟨Tryz.f182.name,by decide,Tryz.func182.trans (congrArg some (by kernel_rfl))⟩
 f26:=⟨Tryz.f183.name,by decide,Tryz.func183.trans (congrArg some (by kernel_rfl))⟩
 f27:=⟨Tryz.f184.name,by decide,Tryz.func184.trans (congrArg some (by kernel_rfl))⟩
 f28:=Tryz.func185.trans (congrArg some (by kernel_rfl))
 f29:=Tryz.func186.trans (congrArg some (by kernel_rfl))
 f46:=⟨Tryz.f198.name,by decide,Tryz.func198.trans (congrArg some (by kernel_rfl))⟩
 f47:=Tryz.func199.trans (congrArg some (by kernel_rfl))
 f48:=Tryz.func200.trans (congrArg some (by kernel_rfl))
 f49:=⟨Tryz.f201.name,by decide,Tryz.func201.trans (congrArg some (by kernel_rfl))⟩
 f50:=⟨Tryz.f202.name,by decide,Tryz.func202.trans (congrArg some (by kernel_rfl))⟩
 f57:=⟨Tryz.f217.name,by decide,Tryz.func217.trans (congrArg some (by kernel_rfl))⟩
 t0:=Tryz.underlying0
 a0:=Tryz.isAgg0
 z0:=Tryz.sizeOf0
 v0:=Tryz.zeroValue0
 t3:=Tryz.underlying3
 a3:=Tryz.isAgg3
 z3:=Tryz.sizeOf3
 v3:=Tryz.zeroValue3
 t4:=Tryz.underlying4
 a4:=Tryz.isAgg4
 z4:=Tryz.sizeOf4
 v4:=Tryz.zeroValue4
 t5:=Tryz.underlying5
 a5:=Tryz.isAgg5
 z5:=Tryz.sizeOf5
 v5:=Tryz.zeroValue5
 t9:=Tryz.underlying9
 a9:=Tryz.isAgg9
 z9:=Tryz.sizeOf9
 v9:=Tryz.zeroValue9
 t22:=Tryz.underlying33
 a22:=Tryz.isAgg33
 z22:=Tryz.sizeOf33
 v22:=Tryz.zeroValue33
 t25:=Tryz.underlying165
 a25:=Tryz.isAgg165
 z25:=Tryz.sizeOf165
 v25:=Tryz.zeroValue165
 t39:=Tryz.underlying112
 a39:=Tryz.isAgg112
 z39:=Tryz.sizeOf112
 v39:=Tryz.zeroValue112
 t45:=Tryz.underlying252
 a45:=Tryz.isAgg252
 z45:=Tryz.sizeOf252
 v45:=Tryz.zeroValue252
 t46:=Tryz.underlying253
 a46:=Tryz.isAgg253
 z46:=Tryz.sizeOf253
 v46:=Tryz.zeroValue253
 t50:=Tryz.underlying246
 a50:=Tryz.isAgg246
 z50:=Tryz.sizeOf246
 v50:=Tryz.zeroValue246
 t53:=Tryz.underlying259
 a53:=Tryz.isAgg259
 z53:=Tryz.sizeOf259
 v53:=Tryz.zeroValue259
 t55:=Tryz.underlying34
 a55:=Tryz.isAgg34
 z55:=Tryz.sizeOf34
 v55:=Tryz.zeroValue34
 t66:=Tryz.underlying272
 a66:=Tryz.isAgg272
 z66:=Tryz.sizeOf272
 v66:=Tryz.zeroValue272
 t70:=Tryz.underlying276
 a70:=Tryz.isAgg276
 z70:=Tryz.sizeOf276
 v70:=Tryz.zeroValue276
 t76:=Tryz.underlying287
 a76:=Tryz.isAgg287
 z76:=Tryz.sizeOf287
 v76:=Tryz.zeroValue287
 t77:=Tryz.underlying288
 a77:=Tryz.isAgg288
 z77:=Tryz.sizeOf288
 v77:=Tryz.zeroValue288 }
theorem Z9O:∀ w,(isAgg (Z2O.t 24)).run Tryz.prog w=.ok true w:=Tryz.isAgg124
theorem Z8M:∀ w,(Go.sizeOf (Z2O.t 24)).run Tryz.prog w=.ok 2 w:=Tryz.sizeOf124
end
section
open Go.RowKit
attribute [local irreducible] aw Xk dK
theorem Z2n (l:List Pr):(l.map prC).length=l.length:=by simp
theorem ZdU (xs:List Pr) (fl:Bool) (hlen:xs.length<=1000000):X1s Tryz.prog 188 [.vec (xs.map prC) fl] .own ⟨2,xs.map prC⟩:=by
 refine Z1A ok188 (Y0 rfl) fun C hC=>?_;have fin:∀ (x:Pr) (xs:List Pr),(∀ c∈(x :: xs).map prC,c.length=2):=fun x xs c hc=>by obtain⟨y,_,rfl⟩:=Y0i.1 hc; rfl
 cases xs with
 | nil =>
   refine go ?_;refine Z4f (.inl ⟨_,_,rfl⟩) rfl fun b=>?_;cases b
   . repeat' (first | refine Zb (Zw (k := 5) rfl 2 (by decide)) ?_ | (first|refine st ?_|(apply B<;>intro hb<;>try cases hb)))
     exact⟨_,_,rfl,.inl rfl,_,rfl,rfl⟩
   . iterate 6 (first|refine st ?_|(apply B<;>intro hb<;>try cases hb))
     refine Z1l (Zw (k:=2) rfl 2 (by decide) _) ?_;refine go ?_;exact⟨_,_,rfl,.inl rfl,_,rfl,rfl⟩
 | cons x xs =>
   repeat' (first|refine Zb (Zw (k:=5) rfl 2 (by decide)) ?_|(first|refine st ?_|(apply B<;>intro hb<;>try cases hb)))
   refine ZH (Zt (k:=0) (m:=(x :: xs).map prC) (fl:=fl) rfl rfl rfl (fin x xs) rfl (by
    show (([]:List (List PV)).length+((x :: xs).map prC).length)*16<=_
    rw [Y0f,Y2A];omega)) rfl rfl ?_
   refine go ?_;exact⟨_,_,rfl,.inl rfl,_,rfl,by rw [Y1h]; rfl⟩
def pB (p x:Pr):Bool:=((p.1:Int) == (x.1:Int))&&(((p.2:Int) == (x.2:Int))&&true)
theorem Zfx (p x:Pr):pB p x=true↔p=x:=by
 unfold pB;rw [Y1k,Y0k,Y22,Y22,Y2q,Y2q];exact⟨fun h=>Y4f h.1 h.2,fun h=>by rw [h]; exact⟨rfl,rfl⟩⟩
theorem Zkq {xs:List Pr} {p:Pr}:xs.any (pB p)=decide (p∈xs):=by
 rw [YO,Y01,Y2b];constructor
 . rintro ⟨x, hx, h⟩;rw [(Zfx p x).1 h]; exact hx
 . intro h;exact⟨p,h,(Zfx p p).2 rfl⟩
theorem Zbk (xs:List Pr) (p:Pr) (fl:Bool):Xa Tryz.prog 187 [.vec (xs.map prC) fl,.agg (prC p)] (· = .val (.int .i64 (X2G (pB p) xs))):=by
 have hnl:=Z2n xs;refine Yp ok187 fun C hC=>?_;refine Z4t (k:=0) rfl fun hmax=>?_;have hlm:xs.length<=Xd:=by rw [<- hnl]; exact hmax
 refine Zq ?_;refine Za ?_;refine Z5 rfl rfl rfl ?_;refine go ?_;have hpi:∀ D,Xu D (xs.map prC):=fun D=>Ze (fun _ h=>h.elim) _ (Zl xs);have hpc:∀ D,X26 D (prC p):=fun D=>ZI (fun _ h=>h.elim) _ (Z4d p);refine ZB hC (fun i=>i<=xs.length/\(xs.take i).any (pB p)=false) (fun i=>xs.length-i) 0 (fun i => [(0,.vec (xs.map prC) fl),(3,.cp (prC p)),(7,.val (.int .i64 (xs.length:Int))),(8,Yv i)]) (fun _=>[]) (Y0l _) 0 ⟨Y0l _,rfl⟩ ⟨⟨rfl,hpi _⟩,⟨rfl,hpc _⟩,⟨by rw [<- hnl]; rfl,Yt⟩,⟨rfl,Yt⟩,Yt⟩ Yt ?_;rintro i ⟨hi,hno⟩;have hinc:IntKind.i64.wrap ((i:Int)+1)=((i+1:Nat):Int):=Y0v _ ⟨by omega,by simp only [Xd] at hlm; omega⟩;refine gd 9 ⟨?_⟩;refine Zv rfl rfl rfl (fun hb=>?_) (fun hb=>?_)
 . have hil : i < xs.length := by have := Y0u hb; omega
   clear hb;refine gd 14 ⟨?_⟩;refine Qr (Zo (xs:=xs) (g:=prC) rfl rfl i rfl hil rfl) ?_;refine gd 16 ⟨?_⟩;refine Z8A (b:=pB p xs[i]) rfl rfl rfl (fun hx=>?_) (fun hx=>?_)
   . refine go ?_;exact Z8 rfl Yt (by rw [Z5w hil hno hx])
   . refine go ?_;exact⟨i+1,⟨by omega,Z54 hil hno hx⟩,by omega,⟨⟨rfl,hpi _⟩,⟨rfl,hpc _⟩,⟨rfl,Yt⟩,⟨by show some _=some _; rw [hinc],Yt⟩,Yt⟩,Yt⟩
 . have hil : i = xs.length := by have := Ye hb; omega
   subst hil;rw [Y0q] at hno;refine go ?_;exact Z8 rfl Yt (by rw [Z2D hno]; rfl)
theorem Z7u (xs:List Pr) (p:Pr) (fl:Bool):Xa Tryz.prog 149 [.vec (xs.map prC) fl,.agg (prC p)] (· = .val (.bool (decide (p∈xs)))):=by
 refine Yp ok149 fun C hC=>?_;refine Zq ?_;refine Za ?_;refine Z5 rfl rfl rfl ?_;refine go ?_;refine Qe (Zbk xs p fl) ⟨Zl xs,Z4d p,Yt⟩ ?_;refine Qo (Z7 rfl ((Z6g (p:=pB p) (xs:=xs)).trans Zkq)) ?_;(refine go ?_;repeat' (apply B<;>intro hb<;>try cases hb))
 all_goals exact Z8 rfl Yt (by rw [hb])
theorem Zkr {esz n:Nat} {e:Env} {h:X1} {x hi mx:Operand} {l:List (List PV)} {fl:Bool} (hx:ev e x=some (.vec l fl)) (h1:X1G (ev e hi)=some (l.length:Int)) (h2:X1G (ev e mx)=some (l.length:Int)) (hl:∀ c∈l,c.length=esz):X3 (.slc esz x none (some hi) (some mx)) e h n=some (.vec l true,h):=by
 simp only [X3,hx,XK,h1,h2];rw [Y5 ⟨⟨by omega,by omega,by omega,by omega⟩,hl⟩];simp
theorem ZdV (xs:List Pr) (fl:Bool):Xa Tryz.prog 100 [.vec (xs.map prC) fl] (· = .vec (xs.map prC) true):=by
 refine Yp ok100 fun C hC=>?_;refine gd 8 ⟨?_⟩;refine Qo (Zkr rfl rfl rfl (fun c hc=>by obtain⟨y,_,rfl⟩:=Y0i.1 hc; rfl)) ?_;refine go ?_;exact Z8 rfl (Zl xs) rfl
theorem Z8N (xs:List Pr) (fl:Bool) (hne:∀ i (h:i+1<xs.length),xs[i]≠xs[i+1]):Xa Tryz.prog 101 [.vec (xs.map prC) fl] (· = .vec (xs.map prC) fl):=by
 have hnl:=Z2n xs;refine Yp ok101 fun C hC=>?_;refine Z4t (k:=0) rfl fun hmax=>?_;have hlm:xs.length<=Xd:=by rw [<- hnl]; exact hmax
 (refine go ?_;repeat' (apply B<;>intro hb<;>try cases hb))
 . exact Z8 rfl (Zl xs) rfl
 . rw [hnl] at hb;have h2:2<=xs.length:=by have:=Ye hb; omega
   clear hb;have hpi:∀ D,Xu D (xs.map prC):=fun D=>Ze (fun _ h=>h.elim) _ (Zl xs);refine ZB hC (fun k=>1<=k/\k<=xs.length) (fun k=>xs.length-k) 0 (fun k => [(0,.vec (xs.map prC) fl),(3,.val (.int .i64 (k:Int)))]) (fun _=>[]) (Y0l _) 1 ⟨Y0m _,by omega⟩ ⟨⟨rfl,hpi _⟩,⟨rfl,Yt⟩,Yt⟩ Yt ?_;rintro k ⟨hk1,hk⟩;have hinc:IntKind.i64.wrap ((k:Int)+1)=((k+1:Nat):Int):=Y0v _ ⟨by omega,by simp only [Xd] at hlm; omega⟩;have hdec:IntKind.i64.wrap ((k:Int)-1)=((k-1:Nat):Int):=(Y0v _ ⟨by omega,by simp only [Xd] at hlm; omega⟩).trans (by omega);refine gd 13 ⟨?_⟩;refine Zv rfl rfl rfl (fun hb=>?_) (fun hb=>?_)
   . rw [hnl] at hb;have hil:k<xs.length:=by have:=Y0u hb; omega
     clear hb;refine gd 18 ⟨?_⟩;refine Qr (Zo (xs:=xs) (g:=prC) rfl rfl k rfl hil rfl) ?_;refine gd 22 ⟨?_⟩;refine Qr (ZS rfl hdec) ?_;refine Qr (Zo (xs:=xs) (g:=prC) rfl rfl (k-1) rfl (by omega) rfl) ?_;refine gd 25 ⟨?_⟩;refine Z8A (b:=pB xs[k] xs[k-1]) rfl rfl rfl (fun hx=>?_) (fun hx=>?_)
     . refine absurd ((Zfx _ _).1 hx).symm ?_;have:=hne (k-1) (by omega);simpa only [show k-1+1=k by omega] using this
     . refine go ?_;exact⟨k+1,⟨by omega,by omega⟩,by omega,⟨⟨rfl,hpi _⟩,⟨by show some _=some _; rw [hinc],Yt⟩,Yt⟩,Yt⟩
   . refine go ?_;exact Z8 rfl (Zl xs) rfl
def X6b (p q:Pr):Int:=if p.1=q.1 then (p.2:Int)-q.2 else (p.1:Int)-q.1
theorem Z8O (p q:Pr) (hp:p.1<64/\p.2<64) (hq:q.1<64/\q.2<64):Xa Tryz.prog 99 [.agg (prC p),.agg (prC q)] (· = .val (.int .i64 (X6b p q))):=by
 refine Yp ok99 fun C hC=>?_;have h1:IntKind.i64.wrap ((p.1:Int)-q.1)=(p.1:Int)-q.1:=Y0v _ ⟨by omega,by omega⟩;have h2:IntKind.i64.wrap ((p.2:Int)-q.2)=(p.2:Int)-q.2:=Y0v _ ⟨by omega,by omega⟩;refine Zq ?_;refine Za ?_;refine Z5 rfl rfl rfl ?_;refine Z5 rfl rfl rfl ?_;(refine go ?_;repeat' (apply B<;>intro hb<;>try cases hb))
 . have h3 : ¬ p.1 = q.1 := fun h => by rw [h] at hb; simp at hb
   exact Z8 rfl Yt (by rw [h1,X6b,Y6 h3])
 . have h3 : p.1 = q.1 := Y2q.1 (by simpa using hb);exact Z8 rfl Yt (by rw [h2,X6b,Y5 h3])
abbrev X5I:={ p:Pr // p.1<64/\p.2<64 }
theorem X61 {xs:List Pr} (h:XL xs):∃ l:List X5I,l.map (·.1)=xs:=by
 induction xs with
 | nil=>exact⟨[],rfl⟩
 | cons c xs ih =>
   obtain⟨l,hl⟩:=ih fun d hd=>h d (YD _ hd);exact⟨⟨c,h c (Y0t ..)⟩ :: l,by rw [Y20,hl]⟩
def X5l (p:Pr):Nat:=64*p.1+p.2
theorem Zbl {n ob:Nat} {h:X1} (xs:List Pr) (hx:XL xs) (hh:h ob=some ⟨2,xs.map prC⟩) :
 XX Tryz.prog 98 n [.own ob,.fn 99 []] h fun n' r h'=>n'=n/\r=.tup []/\∃ ys:List Pr,ys.Perm xs/\ys.Pairwise (fun a b=>X5l a<=X5l b)/\h'=h.upd ob ⟨2,ys.map prC⟩:=by
 obtain⟨l,rfl⟩:=X61 hx;have e:∀ l:List X5I,(l.map (·.1)).map prC=l.map fun c:X5I=>prC c.1:=fun l=>by rw [Y2z]; rfl
 rw [e] at hh
 have hs:=Z7S (P:=Tryz.prog) (ρ:=Z2O) (n:=n) X4M ⟨_,Tryz.func98,by kernel_rfl,by kernel_rfl⟩ 2 (by decide) Z9O Z8M (fun c:X5I=>prC c.1) (fun c=>rfl) (fun c=>Z4d c.1) (fun c:X5I=>X5l c.1) (fun a b:X5I=>X6b a.1 b.1) (fun a b=>by
  have h1:=a.2; have h2:=b.2;unfold X6b X5l
  split<;>omega) 99 [] Yt (fun a b=>Z8O a.1 b.1 a.2 b.2) l hh
 refine hs.mono ?_;rintro n' r h' ⟨h1,h2,ys,h3,h4,h5⟩;refine⟨h1,h2,ys.map (·.1),h3.map _,?_,by rw [e]; exact h5⟩;exact Y1o.2 h4
def Xv (l:List Pr):Prop:=l.Pairwise fun p q=>p.1<q.1 \/ p.1=q.1/\p.2<q.2
noncomputable def X4p (l:List Pr) (S:List Nat):List PV := [.val (.int .i64 64),.vec (l.map prC) true,.vec (tab (X29 (abv l))) false,.vec (tab (X29 (bel l))) false,.vec (XG (Xb S)) false]
theorem Z1g (l:List Pr) (S:List Nat):X6 (X4p l S):=⟨Yt,Zl l,Z1H (Z21 _),Z1H (Z21 _),ZG _,Yt⟩
def X65 (l:List Pr) (r:PV):Prop:=∃ S,r=.cp (X4p l S)
theorem Z8P {l:List Pr} (hl:XL l) (hn:l.Nodup) (hs:l.Pairwise fun a b=>X5l a<=X5l b):Xv l:=by
 have h:=hs.and hn;refine Y1x (fun {p q} hp hq h=>?_) h;have h1:=hl p hp;have h2:=hl q hq;obtain⟨h3,h4⟩:=h;unfold X5l at h3;have h5:¬ (p.1=q.1/\p.2=q.2):=fun h=>h4 (Y4f h.1 h.2);omega
theorem ZfA {l:List Pr} (hs:Xv l):∀ i (h:i+1<l.length),l[i]≠l[i+1]:=fun i h he=>by
 have:=(Y2I.1 hs) i (i+1) (by omega) h (by omega);rw [he] at this;omega
theorem Acy.perm {l m:List Pr} (h:Acy l) (hp:m.Perm l):Acy m:=h.sub fun p hpm=>hp.mem_iff.1 hpm
theorem XL.perm {l m:List Pr} (h:XL l) (hp:m.Perm l):XL m:=fun p hpm=>h p (hp.mem_iff.1 hpm)
theorem Z9Q (l:List Pr) (fl:Bool) (hl:XL l) (hn:l.Nodup) (hacy:Acy l) (hlen:l.length<=1000000):Xa Tryz.prog 44 [.val (.int .i64 64),.vec (l.map prC) fl] fun r=>∃ l' o,l'.Perm l/\Xv l'/\X65 l' o/\r=.tup [o,.val (.int .i64 0)]:=by
 have hnl:=Z2n l;have hpl:∀ D,Xu D (l.map prC):=fun D=>Ze (fun _ h=>h.elim) _ (Zl l);refine Yp ok44 fun C hC=>?_;refine go ?_;refine ZB hC (fun i=>i<=l.length) (fun i=>l.length-i) 0 (fun i => [(0,.val (.int .i64 64)),(1,.vec (l.map prC) fl),(16,.vec (l.map prC) fl),(17,.val (.int .i64 l.length)),(18,Yv i)]) (fun _=>[]) (Y0l _) 0 (Y0l _)
  ⟨⟨rfl,Yt⟩,⟨rfl,hpl _⟩,⟨rfl,hpl _⟩,⟨by rw [<- hnl]; rfl,Yt⟩,⟨rfl,Yt⟩,Yt⟩ Yt ?_
 intro i hi;have hinc:IntKind.i64.wrap ((i:Int)+1)=((i+1:Nat):Int):=Y0v _ ⟨by omega,by omega⟩;refine gd 19 ⟨?_⟩;refine Zv rfl rfl rfl (fun hb=>?_) (fun hb=>?_)
 . have hil : i < l.length := by have := Y0u hb; omega
   have hp:=hl _ (Y0j hil);clear hb;refine go ?_;refine Qo (Zo (xs:=l) (g:=prC) rfl rfl i rfl hil rfl) ?_;generalize l[i]=p at hp ⊢;(refine go ?_;repeat' (apply B<;>intro hb<;>try cases hb))
   . refine absurd (Y0u hb) ?_
     split<;>omega
   . rename_i hb2;refine absurd (Y0u hb) ?_
     split<;>omega
   . exact⟨i+1,by omega,by omega,⟨⟨rfl,Yt⟩,⟨rfl,hpl _⟩,⟨rfl,hpl _⟩,⟨rfl,Yt⟩,⟨by show some _=some _; rw [hinc],Yt⟩,Yt⟩,Yt⟩
 . have hil : i = l.length := by have := Ye hb; omega
   subst hil;clear hb
   repeat' (first|refine Zb (Zw (k:=38) rfl 2 (by decide)) ?_|(first|refine st ?_|(apply B<;>intro hb<;>try cases hb)))
   refine ZH (Zt (k:=0) (m:=l.map prC) (fl:=fl) (b:=⟨2,[]⟩) rfl rfl rfl (fun c hc=>by obtain⟨y,_,rfl⟩:=Y0i.1 hc; rfl) rfl (by
    show (0+(l.map prC).length)*16<=_
    rw [hnl];omega)) rfl rfl ?_
   refine go ?_;refine Z1d rfl rfl (Zbl (n:=_) (ob:=1) l hl rfl) ?_;rintro n' r h' ⟨rfl,rfl,ys,hys1,hys2,rfl⟩;have hyl:=hl.perm hys1;have hso:=Z8P hyl (hys1.nodup_iff.2 hn) hys2;have hylen:ys.length<=1000000:=by rw [hys1.length_eq]; exact hlen
   refine gd 43 ⟨?_⟩;refine Zb (Zn (k:=8) (id:=1) rfl rfl (Zl ys)) ?_;refine go ?_;refine Qe (Z8N ys false (ZfA hso)) ⟨Zl ys,Yt⟩ ?_;refine Qe (ZdV ys false) ⟨Zl ys,Yt⟩ ?_;refine go ?_;refine ZT (ZdS ys true hyl (hacy.perm hys1) hylen) rfl rfl rfl rfl ⟨⟨Yt,Zl ys,Yt,Yt,Yt,Yt⟩,Yt⟩ Yt ?_;rintro r b' - - ⟨rfl,S,hT,h64,rfl⟩;refine go ?_;refine ZT (Zbj ys true hyl hylen S hT h64) rfl rfl rfl rfl ⟨⟨Yt,Zl ys,Yt,Yt,ZG _,Yt⟩,Yt⟩ Yt ?_;rintro r b' - - ⟨rfl,rfl⟩;refine gd 54 ⟨?_⟩;refine Zb (Z1q (k:=9) (l:=X4p ys S) rfl rfl (Z1g ys S)) ?_;refine go ?_;exact Z8 rfl ⟨Z1g ys S,Yt,Yt⟩ ⟨ys,_,hys1,hso,⟨S,rfl⟩,rfl⟩
theorem Z8Q (l:List Pr) (S:List Nat) (a:Int):Xa Tryz.prog 148 [.cp (X4p l S),.val (.int .i64 a)] (· = .val (.bool (decide (0<=a)&&decide (a<64)))):=by
 refine Yp ok148 fun C hC=>?_;(refine go ?_;repeat' (apply B<;>intro hb<;>try cases hb))
 . have h1 := Y0u hb;rename_i hb2;exact Z8 rfl Yt (by simp_all)
 . exact Z8 rfl Yt (by simp_all)
 . exact Z8 rfl Yt (by simp_all;omega)
theorem Z7X (l:List Pr) (S:List Nat) (hlen:l.length<=1000000):X1s Tryz.prog 150 [.cp (X4p l S)] .own ⟨2,l.map prC⟩:=by
 refine Z1A ok150 (Y0 rfl) fun C hC=>?_;refine go ?_;refine Z3n (ZdU l true hlen) Z24 (by exact Zl l) rfl rfl ⟨Zl l,Yt⟩ ?_;refine go ?_;exact⟨_,_,rfl,.inl rfl,_,rfl,rfl⟩
theorem Zbp (l:List Pr) (S:List Nat) (hlen:l.length<=1000000):Xa Tryz.prog 150 [.cp (X4p l S)] (· = .vec (l.map prC) false) :=
 (Z7X l S hlen).spec (Zl l) (fun _=>.own) (Zl l)
theorem Zbq (l:List Pr) (S:List Nat) (a:Int):Xa Tryz.prog 147 [.cp (X4p l S),.val (.int .i64 a)] (· = XH (if 0<=a/\a<64 then bel l a.toNat else 0)):=by
 refine Yp ok147 fun C hC=>?_;refine go ?_;refine Qe (Z8Q l S a) ⟨Z1g l S,Yt,Yt⟩ ?_;by_cases h:0<=a/\a<64
 . rw [Y5 h, Yw h.1, Yw h.2];obtain⟨k,rfl⟩:∃ k:Nat,a=(k:Int):=⟨a.toNat,by omega⟩
   have hk:k<64:=by omega
   have hkl:k<(List.range 64).length:=by simpa using hk
   refine gd 15 ⟨?_⟩;refine Qo (Zo (xs:=List.range 64) (g:=X29 (bel l)) rfl rfl k rfl hkl rfl) ?_;rw [Y2c];refine go ?_;exact Z8 rfl (Z2 _) rfl
 . rw [Y6 h];have h2:(decide (0<=a)&&decide (a<64))=false:=by
    rw [Y43];by_cases h1:0<=a
    . exact .inr (Y0w fun h3=>h ⟨h1,h3⟩)
    . exact .inl (Y0w h1)
   rw [h2];refine go ?_;refine Z1I rfl (Z2 0 |> fun h=>by rw [Z1W] at h; exact h) ?_;rw [Z1W]; rfl
theorem Zbr (l:List Pr) (S:List Nat) (a:Int):Xa Tryz.prog 136 [.cp (X4p l S),.val (.int .i64 a)] (· = XH (if 0<=a/\a<64 then abv l a.toNat else 0)):=by
 refine Yp ok136 fun C hC=>?_;refine go ?_;refine Qe (Z8Q l S a) ⟨Z1g l S,Yt,Yt⟩ ?_;by_cases h:0<=a/\a<64
 . rw [Y5 h, Yw h.1, Yw h.2];obtain⟨k,rfl⟩:∃ k:Nat,a=(k:Int):=⟨a.toNat,by omega⟩
   have hk:k<64:=by omega
   have hkl:k<(List.range 64).length:=by simpa using hk
   refine gd 15 ⟨?_⟩;refine Qo (Zo (xs:=List.range 64) (g:=X29 (abv l)) rfl rfl k rfl hkl rfl) ?_;rw [Y2c];refine go ?_;exact Z8 rfl (Z2 _) rfl
 . rw [Y6 h];have h2:(decide (0<=a)&&decide (a<64))=false:=by
    rw [Y43];by_cases h1:0<=a
    . exact .inr (Y0w fun h3=>h ⟨h1,h3⟩)
    . exact .inl (Y0w h1)
   rw [h2];refine go ?_;refine Z1I rfl (Z2 0 |> fun h=>by rw [Z1W] at h; exact h) ?_;rw [Z1W]; rfl
theorem ZdX (l:List Pr) (S:List Nat) (a b:Nat) (ha:a<64) (hb:b<64) (hl:XL l) (hn:l.Nodup) (hno:(a,b) ∉ l) (hacy:Acy (l ++ [(a,b)])) (hlen:l.length<=100000):Xa Tryz.prog 114 [.cp (X4p l S),.val (.int .i64 (a:Int)),.val (.int .i64 (b:Int))] fun r=>∃ l' o,l'.Perm (l ++ [(a,b)])/\Xv l'/\X65 l' o/\r=.tup [o,.val (.int .i64 0)]:=by
 have hi:∀ c:Nat,c<64->Xa Tryz.prog 148 [.cp (X4p l S),.val (.int .i64 (c:Int))] (· = .val (.bool true)):=fun c hc=>by
  have:=Z8Q l S (c:Int)
  rwa [Yw (show (0:Int)<=c by omega),Yw (show (c:Int)<64 by omega)] at this
 have hcon:=Z7u l (a,b) true;rw [Y0w hno] at hcon;have hl2:XL (l ++ [(a,b)]):=fun p hp=>(Y0h.1 hp).elim (hl p) fun h=>by rw [Y0g] at h; subst h; exact⟨ha,hb⟩
 have hn2:(l ++ [(a,b)]).Nodup:=by
  rw [Y34];exact⟨hn,by simp,fun x hx y hy e=>by rw [Y0g] at hy; subst hy; subst e; exact hno hx⟩
 refine Yp ok114 fun C hC=>?_;refine go ?_;refine Qe (hi a ha) ⟨Z1g l S,Yt,Yt⟩ ?_;refine go ?_;refine Qe (hi b hb) ⟨Z1g l S,Yt,Yt⟩ ?_;refine go ?_;refine Qe hcon ⟨Zl l,Z4d _,Yt⟩ ?_
 repeat' (first|refine Z5t [10] ?_|(first|refine st ?_|(apply B<;>intro hb<;>try cases hb)))
 refine Z3i (Z7X l S (by omega)) Z24 (by exact Zl l) rfl rfl rfl ⟨Z1g l S,Yt⟩ ?_;refine gd 38 ⟨?_⟩;have hap:(l.map prC) ++ [prC (a,b)]=(l ++ [(a,b)]).map prC:=by rw [Y0r]; rfl
 refine ZaW (k:=5) (m := [prC (a,b)]) (fl:=true) (b:=⟨2,l.map prC⟩) rfl rfl rfl (fun c hc=>by rw [Y0g] at hc; subst hc; rfl) rfl (by
  show ((l.map prC).length+1)*16<=_
  rw [Z2n];omega) (by show X2 (l.map prC ++ [prC (a,b)]); rw [hap]; exact Zl _) rfl rfl ?_
 show dK _ _ _ _ (Env.upd _ 38 (.vec (l.map prC ++ [prC (a,b)]) false)) _ _;rw [hap];have hnew:=Z9Q (l ++ [(a,b)]) false hl2 hn2 hacy (by rw [Y0e,Y0s];omega);refine Z4x rfl rfl (.inl rfl) hnew ⟨Yt,Zl _,Yt⟩ ?_;rintro r ⟨l',o,h1,h2,⟨S',rfl⟩,rfl⟩;refine go ?_;exact Z8 rfl ⟨Z1g l' S',Yt,Yt⟩ ⟨l',_,h1,h2,⟨S',rfl⟩,rfl⟩
theorem ZfB (i:Nat) (h:i<64):IntKind.u64.wrap (1*2 ^ (min ((i:Nat):Int).toNat IntKind.u64.bits))=((2 ^ i:Nat):Int):=by
 rw [show min ((i:Nat):Int).toNat IntKind.u64.bits=i by show min i 64=i; omega,Y4d];have h2:=ZV h;have e:((2:Int) ^ i)=((2 ^ i:Nat):Int):=by rw [Y4G]; rfl
 rw [e];exact Y0x _ ⟨Y1U _,Y38.2 (show _<=18446744073709551615 by omega)⟩
theorem ZdY (a:Int):Xa Tryz.prog 108 [.val (.int .i64 a)] (· = .val (.bool (decide (1<=a)&&decide (a<=63)))):=by
 refine Yp ok108 fun C hC=>?_;(refine go ?_;repeat' (apply B<;>intro hb<;>try cases hb))
 all_goals exact Z8 rfl Yt (by simp_all<;>omega)
theorem Z58 (a:Nat) (h1:1<=a) (h2:a<64):Xa Tryz.prog 108 [.val (.int .i64 (a:Int))] (· = .val (.bool true)):=by
 have:=ZdY (a:Int)
 rwa [Yw (show (1:Int)<=a by omega),Yw (show (a:Int)<=63 by omega)] at this
theorem Z59 (l:List Pr) (fl:Bool) (hl:XL l) (r:Nat) (hr1:1<=r) (hr:r<64):Xa Tryz.prog 111 [.vec (l.map prC) fl,.val (.int .i64 (r:Int))] (· = .val (.int .u64 (jun l r:Nat))):=by
 have hnl:=Z2n l;have hpl:∀ D,Xu D (l.map prC):=fun D=>Ze (fun _ h=>h.elim) _ (Zl l);refine Yp ok111 fun C hC=>?_;refine Z4t (k:=0) rfl fun hmax=>?_;have hlm:l.length<=Xd:=by rw [<- hnl]; exact hmax
 refine go ?_;refine Qe (Z58 r hr1 hr) ⟨Yt,Yt⟩ ?_;refine gd 13 ⟨?_⟩;refine Qo (Zf2 rfl rfl (by omega) (ZfB r hr)) ?_;refine go ?_;refine ZB hC (fun s=>X2Q l r s) (fun s=>18446744073709551616-s) 0 (fun s => [(0,.vec (l.map prC) fl),(5,.val (.int .u64 (s:Int)))]) (fun _=>[]) (Y0l _) (2 ^ r) (X2Q.init hr) ⟨⟨rfl,hpl _⟩,⟨rfl,Yt⟩,Yt⟩ Yt ?_;intro s hs;have hs64:=hs.lt;refine go ?_;refine ZB hC (fun i=>i<=l.length) (fun i=>l.length-i) 0 (fun i => [(0,.vec (l.map prC) fl),(5,.val (.int .u64 (s:Int))),(6,.val (.int .u64 ((l.take i).foldl (fun n x=>if s.testBit x.1=true then n ||| 2 ^ x.2 else n) s:Nat))),(15,.vec (l.map prC) fl),(16,.val (.int .i64 l.length)),(17,Yv i)]) (fun _=>[]) (Y0l _) 0 (Y0l _)
  ⟨⟨rfl,hpl _⟩,⟨rfl,Yt⟩,⟨rfl,Yt⟩,⟨rfl,hpl _⟩,⟨by rw [<- hnl]; rfl,Yt⟩,⟨rfl,Yt⟩,Yt⟩ Yt ?_
 intro i hi;have hinc:IntKind.i64.wrap ((i:Int)+1)=((i+1:Nat):Int):=Y0v _ ⟨by omega,by simp only [Xd] at hlm; omega⟩;have hcur:=Z9P (l:=l.take i) (fun p hp=>hl p (YM hp)) s s hs64;refine gd 18 ⟨?_⟩;refine Zv rfl rfl rfl (fun hb=>?_) (fun hb=>?_)
 . have hil : i < l.length := by have := Y0u hb; omega
   have hp:=hl _ (Y0j hil);have htk:=ZdW hil s s;clear hb;generalize (l.take i).foldl (fun n x=>if s.testBit x.1=true then n ||| 2 ^ x.2 else n) s=cur at hcur htk ⊢;refine go ?_;refine Qo (Zo (xs:=l) (g:=prC) rfl rfl i rfl hil rfl) ?_;generalize l[i]=p at hp htk ⊢;(refine go ?_;repeat' (apply B<;>intro hb<;>try cases hb))
   . rw [Z3M s p.1 hp.1, Z3k s p.1, Z6D s p.1] at hb;rw [Y5 hb] at htk;clear hb;have hor:bits .or .u64 (cur:Int) (IntKind.u64.wrap (1*2 ^ (min ((p.2:Nat):Int).toNat IntKind.u64.bits)))=((cur ||| 2 ^ p.2:Nat):Int):=by
      rw [ZfB p.2 hp.2]; exact Y1S cur (2 ^ p.2) hcur (ZV hp.2)
     exact⟨i+1,by omega,by omega,⟨⟨rfl,hpl _⟩,⟨rfl,Yt⟩,⟨by rw [htk,<- hor]; rfl,Yt⟩,⟨rfl,hpl _⟩,⟨rfl,Yt⟩,⟨by show some _=some _; rw [hinc],Yt⟩,Yt⟩,Yt⟩
   . rw [Z3M s p.1 hp.1, Z3k s p.1, Z6D s p.1] at hb;rw [Y6 (by rw [hb]; decide)] at htk;exact⟨i+1,by omega,by omega,⟨⟨rfl,hpl _⟩,⟨rfl,Yt⟩,⟨by rw [htk]; rfl,Yt⟩,⟨rfl,hpl _⟩,⟨rfl,Yt⟩,⟨by show some _=some _; rw [hinc],Yt⟩,Yt⟩,Yt⟩
 . have hil : i = l.length := by have := Ye hb; omega
   subst hil;rw [Y0q];rw [Y0q] at hcur;clear hb;have hst:=hs.step hl;have hst64:=hst.lt;(refine go ?_;repeat' (apply B<;>intro hb<;>try cases hb))
   . have he : X2q l s = s := by
      have:=eq_of_beq hb;exact Y2q.1 this
     rw [<- hs.done hl hr he];exact Z8 rfl Yt rfl
   . have he : X2q l s ≠ s := fun h => by
      rw [show l.foldl (fun n x=>if s.testBit x.1=true then n ||| 2 ^ x.2 else n) s=s from h] at hb;simp at hb
     have hg:=Zbm l s he;exact⟨X2q l s,hst,by omega,⟨⟨rfl,hpl _⟩,⟨rfl,Yt⟩,Yt⟩,Yt⟩
theorem Z8R (l:List Pr) (fl:Bool) (hl:XL l) (r s:Nat) (hr1:1<=r) (hr:r<64) (hs1:1<=s) (hs:s<64):Xa Tryz.prog 110 [.vec (l.map prC) fl,.val (.int .i64 (r:Int)),.val (.int .i64 (s:Int))] (· = .val (.bool ((jun l r).testBit s))):=by
 refine Yp ok110 fun C hC=>?_;refine go ?_;refine Qe (Z58 s hs1 hs) ⟨Yt,Yt⟩ ?_;refine go ?_;refine Qe (Z59 l fl hl r hr1 hr) ⟨Zl l,Yt,Yt⟩ ?_;(refine go ?_;repeat' (apply B<;>intro hb<;>try cases hb))
 all_goals
  rw [Z3M _ s hs,Z3k _ s,Z6D _ s] at hb;exact Z8 rfl Yt (by rw [hb])
theorem Z7Y {α:Type} {S:List α} {t:Nat} (ht:t<S.length):S.take (t+1)=S.take t ++ [S[t]]:=by rw [YY,Y0c ht]; rfl
theorem ZfC (l:List Pr) (fl:Bool) (a b:Nat):Xa Tryz.prog 109 [.vec (l.map prC) fl,.val (.int .i64 (a:Int)),.val (.int .i64 (b:Int))] (· = .val (.bool (decide ((a,b)∈l)))):=by
 have hnl:=Z2n l;have hpl:∀ D,Xu D (l.map prC):=fun D=>Ze (fun _ h=>h.elim) _ (Zl l);refine Yp ok109 fun C hC=>?_;refine Z4t (k:=0) rfl fun hmax=>?_;have hlm:l.length<=Xd:=by rw [<- hnl]; exact hmax
 refine go ?_;refine ZB hC (fun i=>i<=l.length/\(a,b) ∉ l.take i) (fun i=>l.length-i) 0 (fun i => [(1,.val (.int .i64 (a:Int))),(2,.val (.int .i64 (b:Int))),(9,.vec (l.map prC) fl),(10,.val (.int .i64 l.length)),(11,Yv i)]) (fun _=>[]) (Y0l _) 0 ⟨Y0l _,by simp⟩
  ⟨⟨rfl,Yt⟩,⟨rfl,Yt⟩,⟨rfl,hpl _⟩,⟨by rw [<- hnl]; rfl,Yt⟩,⟨rfl,Yt⟩,Yt⟩ Yt ?_
 rintro i ⟨hi,hno⟩;have hinc:IntKind.i64.wrap ((i:Int)+1)=((i+1:Nat):Int):=Y0v _ ⟨by omega,by simp only [Xd] at hlm; omega⟩;refine gd 12 ⟨?_⟩;refine Zv rfl rfl rfl (fun hb=>?_) (fun hb=>?_)
 . have hil : i < l.length := by have := Y0u hb; omega
   have htk:=Z7Y hil;have hmem:=Y0j hil;clear hb;refine go ?_;refine Qo (Zo (xs:=l) (g:=prC) rfl rfl i rfl hil rfl) ?_;generalize l[i]=p at htk hmem ⊢;have hnext:¬ (a,b)=p->(a,b) ∉ l.take (i+1):=fun h hh=>by
    rw [htk] at hh;rcases Y0h.1 hh with hh|hh
    . exact hno hh
    . exact h (Y0g.1 hh)
   (refine go ?_;repeat' (apply B<;>intro hb<;>try cases hb))
   . rename_i hb2;have h1:p.1=a:=Y2q.1 (by simpa using hb2);have h2:p.2=b:=Y2q.1 (by simpa using hb);refine Z8 rfl Yt ?_;rw [Yw];rw [<- h1,<- h2]; exact hmem
   . have h2 : ¬ p.2 = b := fun h => by rw [h] at hb; simp at hb
     exact⟨i+1,⟨by omega,hnext fun h=>h2 (by rw [<- h])⟩,by omega,⟨⟨rfl,Yt⟩,⟨rfl,Yt⟩,⟨rfl,hpl _⟩,⟨rfl,Yt⟩,⟨by show some _=some _; rw [hinc],Yt⟩,Yt⟩,Yt⟩
   . have h2 : ¬ p.1 = a := fun h => by rw [h] at hb; simp at hb
     exact⟨i+1,⟨by omega,hnext fun h=>h2 (by rw [<- h])⟩,by omega,⟨⟨rfl,Yt⟩,⟨rfl,Yt⟩,⟨rfl,hpl _⟩,⟨rfl,Yt⟩,⟨by show some _=some _; rw [hinc],Yt⟩,Yt⟩,Yt⟩
 . have hil : i = l.length := by have := Ye hb; omega
   subst hil;rw [Y0q] at hno;clear hb;refine go ?_;exact Z8 rfl Yt (by rw [Y0w hno])
theorem Z8S (l:List Pr) (fl:Bool) (hl:XL l) (s:Nat) (hs:s<18446744073709551616):Xa Tryz.prog 52 [.vec (l.map prC) fl,.val (.int .u64 (s:Int))] (· = .val (.int .u64 (clo l s:Nat))):=by
 have hpl:∀ D,Xu D (l.map prC):=fun D=>Ze (fun _ h=>h.elim) _ (Zl l);refine Yp ok52 fun C hC=>?_;refine go ?_;refine ZB hC (fun r=>1<=r/\r<=64) (fun r=>64-r) 0 (fun r => [(0,.vec (l.map prC) fl),(1,.val (.int .u64 (s:Int))),(5,.val (.int .u64 (X2T l s r:Nat))),(6,.val (.int .i64 (r:Int)))]) (fun _=>[]) (Y0l _) 1 ⟨Y0m _,by decide⟩
  ⟨⟨rfl,hpl _⟩,⟨rfl,Yt⟩,⟨by rw [Zfy]; rfl,Yt⟩,⟨rfl,Yt⟩,Yt⟩ Yt ?_
 rintro r ⟨hr1,hr⟩;have hinc:IntKind.i64.wrap ((r:Int)+1)=((r+1:Nat):Int):=Y0v _ ⟨by omega,by omega⟩;have hcur:=ZcH l s hr;have hstep:=Z7V l s r;refine gd 8 ⟨?_⟩;refine Zv rfl rfl rfl (fun hb=>?_) (fun hb=>?_)
 . have hrl : r < 64 := by have := Y0u hb; omega
   clear hb;have hor:=Y1S (X2T l s r) (jun l r) hcur (ZcG l hrl);(refine go ?_;repeat' (apply B<;>intro hb<;>try cases hb))
   . rw [Z3M _ r hrl, Z3k _ r, Z6D _ r] at hb;rw [Y5 ⟨hb,hr1⟩] at hstep;refine Qe (Z59 l fl hl r hr1 hrl) ⟨Zl l,Yt,Yt⟩ ?_;(refine go ?_;repeat' (apply B<;>intro hb<;>try cases hb));exact⟨r+1,⟨by omega,by omega⟩,by omega,⟨⟨rfl,hpl _⟩,⟨rfl,Yt⟩,⟨by rw [hstep,<- hor]; rfl,Yt⟩,⟨by show some _=some _; rw [hinc],Yt⟩,Yt⟩,Yt⟩
   . rw [Z3M _ r hrl, Z3k _ r, Z6D _ r] at hb;rw [Y6 (fun h=>by rw [hb] at h; exact absurd h.1 (by decide))] at hstep;exact⟨r+1,⟨by omega,by omega⟩,by omega,⟨⟨rfl,hpl _⟩,⟨rfl,Yt⟩,⟨by rw [hstep]; rfl,Yt⟩,⟨by show some _=some _; rw [hinc],Yt⟩,Yt⟩,Yt⟩
 . have hrl : r = 64 := by have := Ye hb; omega
   subst hrl;clear hb;refine go ?_;exact Z8 rfl Yt rfl
def ltP (p q:Pr):Prop:=p.1<q.1 \/ p.1=q.1/\p.2<q.2
instance (p q:Pr):Decidable (ltP p q):=inferInstanceAs (Decidable (_ \/ _))
def X2j (l:List Pr) (p:Pr) (l':List Pr):Prop:=l'=l \/ (p ∉ l/\∃ i,i<=l.length/\(∀ q∈l.take i,ltP q p)/\(∀ q,l[i]?=some q->¬ ltP q p)/\l'=l.take i++p :: l.drop i)
theorem X2j.sorted {l:List Pr} {p:Pr} {l':List Pr} (h:X2j l p l') (hs:Xv l):Xv l':=by
 rcases h with rfl|⟨hp,i,hi,h1,h2,rfl⟩
 . exact hs
 . have hd : Xv (l.take i) /\ Xv (l.drop i) /\ ∀ a ∈ l.take i, ∀ b ∈ l.drop i, ltP a b := by
    have:=hs;unfold Xv at this;rw [<- Y3Y i l,Y1X] at this;exact this
   obtain⟨d1,d2,d3⟩:=hd;have h3:∀ q∈l.drop i,ltP p q:=by
    cases hdr:l.drop i with
    | nil=>intro q hq; cases hq
    | cons x r =>
      have hx:l[i]?=some x:=by
       have:=congrArg List.head? hdr;rw [List.head?_drop] at this;exact this
      have hne:x≠p:=fun e=>hp (by rw [<- e]; exact Y13 hx);have hpx:ltP p x:=by
       have h4:=h2 x hx;have h5:¬ (x.1=p.1/\x.2=p.2):=fun h=>hne (Y4f h.1 h.2);unfold ltP at h4 ⊢;omega
      intro q hq;rcases Y9.1 hq with rfl|hq
      . exact hpx
      . rw [hdr] at d2;have h6:ltP x q:=(Y10.1 d2).1 q hq;unfold ltP at hpx h6 ⊢;omega
   show List.Pairwise _ _;rw [Y1X];refine⟨d1,Y10.2 ⟨h3,d2⟩,fun a ha b hb=>?_⟩;rcases Y9.1 hb with rfl|hb
   . exact h1 a ha
   . exact d3 a ha b hb
theorem X2j.mem {l:List Pr} {p:Pr} {l':List Pr} (h:X2j l p l'):∀ q∈l',q∈l \/ q=p:=by
 rcases h with rfl|⟨hp,i,hi,h1,h2,rfl⟩
 . exact fun q hq=>.inl hq
 . intro q hq;rcases Y0h.1 hq with hq|hq
   . exact .inl (YM hq)
   . rcases Y9.1 hq with rfl | hq
     . exact .inr rfl
     . exact .inl (Y1b hq)
theorem X2j.len {l:List Pr} {p:Pr} {l':List Pr} (h:X2j l p l'):l'.length<=l.length+1:=by
 rcases h with rfl|⟨hp,i,hi,h1,h2,rfl⟩
 . omega
 . rw [Y0e,Y04,Y0o,YQ]; omega
theorem ZdZ (l:List Pr) (fl:Bool) (hl:XL l) (a b:Nat) (ha:1<=a/\a<64) (hb0:1<=b/\b<64) (hab:a≠b) (hlen:l.length<=100000):Xa Tryz.prog 49 [.vec (l.map prC) fl,.val (.int .i64 (a:Int)),.val (.int .i64 (b:Int))] fun r=>∃ l' fl' e,X2j l (a,b) l'/\r=.tup [.vec (l'.map prC) fl',.val (.int .i64 e)]:=by
 have hnl:=Z2n l;have hpl:∀ D,Xu D (l.map prC):=fun D=>Ze (fun _ h=>h.elim) _ (Zl l);have hne:((a:Int) == (b:Int))=false:=by rw [Y48]; omega
 refine Yp ok49 fun C hC=>?_;refine go ?_;refine Qe (Z58 a ha.1 ha.2) ⟨Yt,Yt⟩ ?_;refine go ?_;refine Qe (Z58 b hb0.1 hb0.2) ⟨Yt,Yt⟩ ?_;refine gd 20 ⟨?_⟩;refine ZA rfl ?_;refine Qo (Z7 rfl hne) ?_;refine go ?_;refine Qe (ZfC l fl a b) ⟨Zl l,Yt,Yt,Yt⟩ ?_;by_cases hin:(a,b)∈l
 . rw [Yw hin];refine go ?_;exact Z8 rfl ⟨Zl l,Yt,Yt⟩ ⟨l,fl,5,.inl rfl,rfl⟩
 rw [Y0w hin];refine go ?_;refine Qe (Z8R l fl hl b a hb0.1 hb0.2 ha.1 ha.2) ⟨Zl l,Yt,Yt,Yt⟩ ?_;generalize (jun l b).testBit a=v;cases v
 case true =>
  refine go ?_;exact Z8 rfl ⟨Zl l,Yt,Yt⟩ ⟨l,fl,16,.inl rfl,rfl⟩
 refine gd 8 ⟨?_⟩;refine Z1 rfl rfl rfl ?_;refine Z1L ?_;refine Zb6 (X:=Nat) hC (fun i=>i<=l.length/\(∀ q∈l.take i,ltP q (a,b))/\(∀ q,l[i]?=some q->¬ ltP q (a,b))) 0 (fun i => [(0,.vec (l.map prC) fl),(1,.val (.int .i64 (a:Int))),(2,.val (.int .i64 (b:Int))),(8,Yv i)]) (fun _=>[]) (Y0l _) ?_ ?_
 . refine go ?_;refine ZB hC (fun i=>i<=l.length/\∀ q∈l.take i,ltP q (a,b)) (fun i=>l.length-i) 0 (fun i => [(0,.vec (l.map prC) fl),(1,.val (.int .i64 (a:Int))),(2,.val (.int .i64 (b:Int))),(8,Yv i)]) (fun _=>[]) (Y0l _) 0 ⟨Y0l _,by simp⟩ ⟨⟨rfl,hpl _⟩,⟨rfl,Yt⟩,⟨rfl,Yt⟩,⟨rfl,Yt⟩,Yt⟩ Yt ?_;rintro i ⟨hi,hlt⟩;have hinc:IntKind.i64.wrap ((i:Int)+1)=((i+1:Nat):Int):=Y0v _ ⟨by omega,by omega⟩;refine gd 36 ⟨?_⟩;refine Zv rfl rfl rfl (fun hb=>?_) (fun hb=>?_)
   . rw [hnl] at hb;have hil:i<l.length:=by have:=Y0u hb; omega
     have htk:=Z7Y hil;have hget:l[i]?=some l[i]:=Y0c hil;clear hb;refine gd 40 ⟨?_⟩;refine ZA rfl ?_;refine Qo (Zo (xs:=l) (g:=prC) rfl rfl i rfl hil rfl) ?_;have ei:∀ {e:Env} {h:X1} {x j:Operand} {n:Nat},ev e x=some (.vec (l.map prC) fl)->ev e j=some (Yv i)->X3 (.iaddr 2 x j) e h n=some (.cp (prC l[i]),h):=fun h1 h2=>Zo (xs:=l) (g:=prC) h1 h2 i rfl hil rfl;generalize l[i]=p at htk hget ei ⊢;have stop:¬ ltP p (a,b)->∀ q,l[i]?=some q->¬ ltP q (a,b):=fun h q hq=>by rw [hget] at hq; cases hq; exact h
     have more:ltP p (a,b)->∀ q∈l.take (i+1),ltP q (a,b):=fun h q hq=>by
      rw [htk] at hq;rcases Y0h.1 hq with hq|hq
      . exact hlt q hq
      . rw [Y0g] at hq; subst hq; exact h
     refine gd 44 ⟨?_⟩;refine ZA rfl ?_;refine Zv rfl rfl rfl (fun hb=>?_) (fun hb=>?_)
     . have h1 : p.1 < a := by have := Y0u hb; omega
       refine go ?_;exact⟨i+1,⟨by omega,more (.inl h1)⟩,by omega,⟨⟨rfl,hpl _⟩,⟨rfl,Yt⟩,⟨rfl,Yt⟩,⟨by show some _=some _; rw [hinc],Yt⟩,Yt⟩,Yt⟩
     . have h1 : ¬ p.1 < a := by have := Ye hb; omega
       refine gd 48 ⟨?_⟩;refine ZA rfl ?_;refine Qo (ei rfl rfl) ?_;refine gd 52 ⟨?_⟩;refine ZA rfl ?_;refine Zv rfl rfl rfl (fun hb=>?_) (fun hb=>?_)
       . have h2 : p.1 = a := Y2q.1 (eq_of_beq hb);refine gd 56 ⟨?_⟩;refine ZA rfl ?_;refine Qo (ei rfl rfl) ?_;refine gd 60 ⟨?_⟩;refine ZA rfl ?_;refine Zv rfl rfl rfl (fun hb=>?_) (fun hb=>?_)
         . have h3 : p.2 < b := by have := Y0u hb; omega
           refine go ?_;exact⟨i+1,⟨by omega,more (.inr ⟨h2,h3⟩)⟩,by omega,⟨⟨rfl,hpl _⟩,⟨rfl,Yt⟩,⟨rfl,Yt⟩,⟨by show some _=some _; rw [hinc],Yt⟩,Yt⟩,Yt⟩
         . have h3 : ¬ p.2 < b := by have := Ye hb; omega
           refine go ?_;exact⟨i,⟨hi,hlt,stop (by unfold ltP; show ¬ (p.1<a \/ p.1=a/\p.2<b);omega)⟩,⟨⟨rfl,hpl _⟩,⟨rfl,Yt⟩,⟨rfl,Yt⟩,⟨rfl,Yt⟩,Yt⟩,Yt⟩
       . have h2 : ¬ p.1 = a := fun h => by rw [h] at hb; simp at hb
         refine go ?_;exact⟨i,⟨hi,hlt,stop (by unfold ltP; show ¬ (p.1<a \/ p.1=a/\p.2<b);omega)⟩,⟨⟨rfl,hpl _⟩,⟨rfl,Yt⟩,⟨rfl,Yt⟩,⟨rfl,Yt⟩,Yt⟩,Yt⟩
   . rw [hnl] at hb;have hil:i=l.length:=by have:=Ye hb; omega
     clear hb;refine go ?_;exact⟨i,⟨hi,hlt,fun q hq=>by rw [hil,Y2B (Y0m _)] at hq; cases hq⟩,⟨⟨rfl,hpl _⟩,⟨rfl,Yt⟩,⟨rfl,Yt⟩,⟨rfl,Yt⟩,Yt⟩,Yt⟩
 . rintro i ⟨hi, h1, h2⟩
   repeat' (first|refine Z5t [0,13] ?_|(first|refine st ?_|(apply B<;>intro hb<;>try cases hb)))
   refine Zh8 rfl rfl rfl ?_;refine go ?_;have hm:∀ c∈l.map prC,c.length=2:=fun c hc=>by obtain⟨y,_,rfl⟩:=Y0i.1 hc; rfl
   have ht:(l.take i).length=i:=by rw [Y0o]; omega
   refine Qr (Zf3 (xs:=l) (g:=prC) rfl 0 i rfl rfl (Y0l _) hi (fun _=>rfl)) ?_;rw [Y16]
   refine Qr (Zt (k:=0) (b:=⟨2,[]⟩) rfl rfl rfl (fun c hc=>hm c (by rw [Y2o] at hc; exact YM hc)) rfl (by
    show (0+((l.take i).map prC).length)*16<=_
    rw [Z2n];omega)) ?_
   refine gd 75 ⟨?_⟩
   refine Qr (Zt (k:=4) (m := [prC (a,b)]) (fl:=true) (b:=⟨2,[]++(l.take i).map prC⟩) rfl rfl rfl (fun c hc=>by rw [Y0g] at hc; subst hc; rfl) rfl (by
    show (([]++(l.take i).map prC).length+1)*16<=_
    rw [Y1h,Z2n];omega)) ?_
   refine gd 78 ⟨?_⟩;refine Qr (Zf3 (xs:=l) (g:=prC) rfl i l.length rfl (by show some ((l.map prC).length:Int)=_; rw [hnl]) hi (Y0m _) (fun _=>rfl)) ?_;rw [Y0q];have hap:([]++(l.take i).map prC) ++ [prC (a,b)]++(l.drop i).map prC=(l.take i++(a,b) :: l.drop i).map prC:=by simp
   have hby:(([]++(l.take i).map prC ++ [prC (a,b)]).length+((l.drop i).map prC).length)*16<=140737488355328:=by
    rw [Y1h,Y0e,Y0s,Z2n,Z2n,YQ]; omega
   have hpp:X2 ([]++(l.take i).map prC ++ [prC (a,b)]++(l.drop i).map prC):=by rw [hap]; exact Zl _
   refine ZaW (k:=9) (m:=(l.drop i).map prC) (fl:=false) (b:=⟨2,[]++(l.take i).map prC ++ [prC (a,b)]⟩) rfl rfl rfl (fun c hc=>hm c (by rw [Y3E] at hc; exact Y1b hc)) rfl hby hpp rfl rfl ?_;show dK _ _ _ _ (Env.upd _ 79 (.vec ([]++(l.take i).map prC ++ [prC (a,b)]++(l.drop i).map prC) false)) _ _;rw [hap];refine go ?_;exact Z8 rfl ⟨Zl _,Yt,Yt⟩ ⟨_,_,0,.inr ⟨hin,i,hi,h1,h2,rfl⟩,rfl⟩
end
section
open Go.Shelf
def Z2P:Go.Shelf.Ren:=⟨fun|6=>203|15=>145|14=>218|28=>185|29=>186|20=>223|21=>224|22=>225|23=>226|24=>227|25=>228|26=>229|27=>230|46=>232|47=>199|48=>200|49=>233|50=>234|57=>235|n=>n,fun|22=>30|24=>52|25=>279|3=>3|39=>112|0=>0|53=>259|55=>34|4=>4|46=>253|45=>252|50=>246|5=>5|9=>9|66=>272|70=>276|76=>287|77=>288|n=>n,fun|n=>n⟩
theorem X4J:Go.Proofs.SlLaysF0.n6 Tryz.prog Z2P:={
 mixed:=by kernel_rfl
 f6:=⟨Tryz.f203.name,by decide,Tryz.func203.trans (congrArg some (by kernel_rfl))⟩
 f14:=⟨Tryz.f218.name,by decide,Tryz.func218.trans (congrArg some (by kernel_rfl))⟩
 f15:=Tryz.func145.trans (congrArg some (by kernel_rfl))
 f20:=⟨Tryz.f223.name,by decide,Tryz.func223.trans (congrArg some (by kernel_rfl))⟩
 f21:=⟨Tryz.f224.name,by decide,Tryz.func224.trans (congrArg some (by kernel_rfl))⟩
 f22:=⟨Tryz.f225.name,by decide,Tryz.func225.trans (congrArg some (by kernel_rfl))⟩
 f23:=⟨Tryz.f226.name,by decide,Tryz.func226.trans (congrArg some (by kernel_rfl))⟩
 f24:=⟨Tryz.f227.name,by decide,Tryz.func227.trans (congrArg some (by kernel_rfl))⟩
 f25:=⟨Tryz.f228.name,by decide,Tryz.func228.trans (congrArg some (by kernel_rfl))⟩
 f26:=⟨Tryz.f229.name,by decide,Tryz.func229.trans (congrArg some (by kernel_rfl))⟩
 f27:=⟨Tryz.f230.name,by decide,Tryz.func230.trans (congrArg some (by kernel_rfl))⟩
 f28:=Tryz.func185.trans (congrArg some (by kernel_rfl))
 f29:=Tryz.func186.trans (congrArg some (by kernel_rfl))
 f46:=⟨Tryz.f232.name,by decide,Tryz.func232.trans (congrArg some (by kernel_rfl))⟩
 f47:=Tryz.func199.trans (congrArg some (by kernel_rfl))
 f48:=Tryz.func200.trans (congrArg some (by kernel_rfl))
 f49:=⟨Tryz.f233.name,by decide,Tryz.func233.trans (congrArg some (by kernel_rfl))⟩
 f50:=⟨Tryz.f234.name,by decide,Tryz.func234.trans (congrArg some (by kernel_rfl))⟩
 f57:=⟨Tryz.f235.name,by decide,Tryz.func235.trans (congrArg some (by kernel_rfl))⟩
 t0:=Tryz.underlying0
 a0:=Tryz.isAgg0
 z0:=Tryz.sizeOf0
 v0:=Tryz.zeroValue0
 t3:=Tryz.underlying3
 a3:=Tryz.isAgg3
 z3:=Tryz.sizeOf3
 v3:=Tryz.zeroValue3
 t4:=Tryz.underlying4
 a4:=Tryz.isAgg4
 z4:=Tryz.sizeOf4
 v4:=Tryz.zeroValue4
 t5:=Tryz.underlying5
 a5:=Tryz.isAgg5
 z5:=Tryz.sizeOf5
 v5:=Tryz.zeroValue5
 t9:=Tryz.underlying9
 a9:=Tryz.isAgg9
 z9:=Tryz.sizeOf9
 v9:=Tryz.zeroValue9
 t22:=Tryz.underlying30
 a22:=Tryz.isAgg30
 z22:=Tryz.sizeOf30
 v22:=Tryz.zeroValue30
 t25:=Tryz.underlying279
 a25:=Tryz.isAgg279
 z25:=Tryz.sizeOf279
 v25:=Tryz.zeroValue279
 t39:=Tryz.underlying112
 a39:=Tryz.isAgg112
 z39:=Tryz.sizeOf112
 v39:=Tryz.zeroValue112
 t45:=Tryz.underlying252
 a45:=Tryz.isAgg252
 z45:=Tryz.sizeOf252
 v45:=Tryz.zeroValue252
 t46:=Tryz.underlying253
 a46:=Tryz.isAgg253
 z46:=Tryz.sizeOf253
 v46:=Tryz.zeroValue253
 t50:=Tryz.underlying246
 a50:=Tryz.isAgg246
 z50:=Tryz.sizeOf246
 v50:=Tryz.zeroValue246
 t53:=Tryz.underlying259
 a53:=Tryz.isAgg259
 z53:=Tryz.sizeOf259
 v53:=Tryz.zeroValue259
 t55:=Tryz.underlying34
 a55:=Tryz.isAgg34
 z55:=Tryz.sizeOf34
 v55:=Tryz.zeroValue34
 t66:=Tryz.underlying272
 a66:=Tryz.isAgg272
 z66:=Tryz.sizeOf272
 v66:=Tryz.zeroValue272
 t70:=Tryz.underlying276
 a70:=Tryz.isAgg276
 z70:=Tryz.sizeOf276
 v70:=Tryz.zeroValue276
 t76:=Tryz.underlying287
 a76:=Tryz.isAgg287
 z76:=Tryz.sizeOf287
 v76:=Tryz.zeroValue287
 t77:=Tryz.underlying288
 a77:=Tryz.isAgg288
 z77:=Tryz.sizeOf288
 v77:=Tryz.zeroValue288 }
theorem Z9R:∀ w,(isAgg (Z2P.t 24)).run Tryz.prog w=.ok true w:=Tryz.isAgg52
theorem Z8T:∀ w,(Go.sizeOf (Z2P.t 24)).run Tryz.prog w=.ok 2 w:=Tryz.sizeOf52
end
section
open Go.RowKit
attribute [local irreducible] aw Xk dK
abbrev X5F:={ c:Cu // XA c }
def X5i (l:List Cu):Prop:=l.Pairwise fun a b=>X1V a<=X1V b
theorem ZhA (a b:Cu):X5j a b<0↔X1V a<X1V b:=by rw [Zhz]; exact Zhy
theorem X6A {xs:List Cu} (h:∀ c∈xs,XA c):∃ l:List X5F,l.map (·.1)=xs:=by
 induction xs with
 | nil=>exact⟨[],rfl⟩
 | cons c xs ih =>
   obtain⟨l,hl⟩:=ih fun d hd=>h d (YD _ hd);exact⟨⟨c,h c (Y0t ..)⟩ :: l,by rw [Y20,hl]⟩
theorem Zbu {n ob:Nat} {h:X1} (xs:List Cu) (hx:∀ c∈xs,XA c) (hh:h ob=some ⟨2,xs.map cuC⟩) :
 XX Tryz.prog 203 n [.own ob,.fn 204 []] h fun n' r h'=>n'=n/\r=.tup []/\∃ ys:List Cu,ys.Perm xs/\X5i ys/\h'=h.upd ob ⟨2,ys.map cuC⟩:=by
 obtain⟨l,rfl⟩:=X6A hx;have e:∀ l:List X5F,(l.map (·.1)).map cuC=l.map fun c:X5F=>cuC c.1:=fun l=>by rw [Y2z]; rfl
 rw [e] at hh;have hs:=Z7S (P:=Tryz.prog) (ρ:=Z2P) (n:=n) X4J ⟨_,Tryz.func203,by kernel_rfl,by kernel_rfl⟩ 2 (by decide) Z9R Z8T (fun c:X5F=>cuC c.1) (fun c=>rfl) (fun c=>Zi c.1) (fun c:X5F=>X1V c.1) (fun a b:X5F=>X5j a.1 b.1) (fun a b=>ZhA a.1 b.1) 204 [] Yt (fun a b=>Z8U a.1 b.1 a.2 b.2) l hh;refine hs.mono ?_;rintro n' r h' ⟨h1,h2,ys,h3,h4,h5⟩;refine⟨h1,h2,ys.map (·.1),h3.map _,?_,by rw [e]; exact h5⟩;exact Y1o.2 h4
theorem Z1s (N:Nat) (hN:N<18446744073709551616) (i:Nat) (hi:i<64):Xa Tryz.prog 104 [XH N,Yv i] (· = XH (N ||| 2 ^ i)):=by
 have h:=Z3N N (Y03 (Z35 hN) (by decide)) (i:Int);have e:X2p N (i:Int)=N ||| 2 ^ i:=by
  unfold X2p;rw [Y5 ⟨by omega,by omega⟩,Y11]
 rw [e] at h;exact h
theorem Z16 (l:List Nat):Xp (X5 l)=X5 l:=by simp [X5,Z8n,X2l,PV.low]
theorem Z0 (l:List Cu):X2 (l.map cuC):=Zc Zi l
theorem Z5y (xs:List Cu) (fl:Bool) (hlen:xs.length<=1000000):X1s Tryz.prog 63 [.vec (xs.map cuC) fl] .own ⟨2,xs.map cuC⟩:=by
 refine Z1A ok63 (Y0 rfl) fun C hC=>?_;have fin:∀ (x:Cu) (xs:List Cu),(∀ c∈(x :: xs).map cuC,c.length=2):=fun x xs c hc=>by obtain⟨y,_,rfl⟩:=Y0i.1 hc; rfl
 cases xs with
 | nil =>
   refine go ?_;refine Z4f (.inl ⟨_,_,rfl⟩) rfl fun b=>?_;cases b
   . repeat' (first | refine Zb (Zw (k := 5) rfl 2 (by decide)) ?_ | (first|refine st ?_|(apply B<;>intro hb<;>try cases hb)))
     exact⟨_,_,rfl,.inl rfl,_,rfl,rfl⟩
   . iterate 6 (first|refine st ?_|(apply B<;>intro hb<;>try cases hb))
     refine Z1l (Zw (k:=2) rfl 2 (by decide) _) ?_;refine go ?_;exact⟨_,_,rfl,.inl rfl,_,rfl,rfl⟩
 | cons x xs =>
   repeat' (first|refine Zb (Zw (k:=5) rfl 2 (by decide)) ?_|(first|refine st ?_|(apply B<;>intro hb<;>try cases hb)))
   refine ZH (Zt (k:=0) (m:=(x :: xs).map cuC) (fl:=fl) rfl rfl rfl (fin x xs) rfl (by
    show (([]:List (List PV)).length+((x :: xs).map cuC).length)*48<=_
    rw [Y0f,Y2A];omega)) rfl rfl ?_
   refine go ?_;exact⟨_,_,rfl,.inl rfl,_,rfl,by rw [Y1h]; rfl⟩
def X2o:Cu->List Cu->List Cu
 | _,[] => []
 | p,x :: r=>if eqC x p then X2o x r else x :: X2o x r
def X2B:List Cu->List Cu
 | [] => []
 | a :: r=>a :: X2o a r
theorem ZhB (a:Cu):eqC a a=true:=(Zbs a a).2 rfl
theorem ZcN:∀ (p:Cu) (l:List Cu) (c:Cu),c∈X2o p l \/ c=p↔c∈l \/ c=p
 | _,[],c=>by simp [X2o]
 | p, x :: r, c => by
   have ih:=ZcN x r c;unfold X2o;cases he:eqC x p with
   | true =>
     obtain rfl:=(Zbs _ _).1 he;rw [Y5 rfl,ih];simp only [Y9];exact⟨fun h=>h.elim (fun h=>.inl (.inr h)) .inr,fun h=>h.elim (fun h=>h.elim .inr .inl) .inr⟩
   | false =>
     rw [Y6 (by decide)];simp only [Y9];constructor
     . rintro ((h | h) | h)
       . exact .inl (.inl h)
       . rcases ih.1 (.inl h) with h | h
         . exact .inl (.inr h)
         . exact .inl (.inl h)
       . exact .inr h
     . rintro ((h | h) | h)
       . exact .inl (.inl h)
       . rcases ih.2 (.inl h) with h | h
         . exact .inl (.inr h)
         . exact .inl (.inl h)
       . exact .inr h
theorem Z8V (l:List Cu) (c:Cu):c∈X2B l↔c∈l:=by
 cases l with
 | nil=>rfl
 | cons a r =>
   unfold X2B;rw [Y9,Y9];have:=ZcN a r c;constructor
   . rintro (h | h)
     . exact .inl h
     . exact (this.1 (.inl h)).symm
   . rintro (h | h)
     . exact .inl h
     . exact (this.2 (.inl h)).symm
theorem Z6i:∀ (p:Cu) (l:List Cu),(X2o p l).Sublist l
 | _,[]=>Y2E _
 | p, x :: r => by
   unfold X2o
   split
   . exact (Z6i x r).cons x
   . exact (Z6i x r).cons_cons x
theorem ZhC (l:List Cu):(X2B l).Sublist l:=by
 cases l with
 | nil=>exact Y2E _
 | cons a r=>exact (Z6i a r).cons_cons a
theorem Z6X {p x:Cu} {r:List Cu} (h:eqC x p=true):X2o p (x :: r)=X2o x r:=by rw [X2o,Y5 h]
theorem Z6Y {p x:Cu} {r:List Cu} (h:eqC x p=false):X2o p (x :: r)=x :: X2o x r:=by rw [X2o,Y6 (by rw [h]; decide)]
theorem ZfH {l:List Cu} {i:Nat} (h:i<l.length):l.drop i=l[i] :: l.drop (i+1):=Y1C h
theorem ZfI (l:List Cu) {i:Nat} (h:i<l.length):(l.map cuC).getD i []=cuC l[i]:=by simp [Y0b,h]
theorem X81 (c:Cu):X1a true 2 0 (cuC c)=some (cuP c):=rfl
section
variable {e:Env} {h:X1} {n:Nat}
theorem ZfJ {esz:Nat} {x:Operand} {lo hi:Option Operand} {id:Nat} {b:Bx} (hx:ev e x=some (.own id)) (hb:h id=some b) (i j:Nat) (hlo:XK e 0 lo=some (i:Int)) (hhi:XK e b.elems.length hi=some (j:Int)) (hij:i<=j) (hj:j<=b.elems.length) (he:b.esz=esz) :
 Xc (.slc esz x lo hi none) e h n=some (.view id i (j-i),h):=by
 simp only [Xc,hx,hb,hlo,hhi];rw [Y5 ⟨⟨by omega,by omega,by omega⟩,he⟩];simp
theorem Z8W {esz:Nat} {x i:Operand} {id lo len:Nat} {b:Bx} {k:IntKind} {m:Int} (hx:ev e x=some (.view id lo len)) (hi:ev e i=some (.val (.int k m))) (hb:h id=some b) (j:Nat) (hm:m=(j:Int)) (hj:j<len) (hl:lo+len<=b.elems.length) (he:b.esz=esz) :
 X3 (.iaddr esz x i) e h n=some (.ptr id (lo+j) 0,h):=by
 subst hm;simp only [X3,hx,hi,hb];rw [Y5 ⟨by omega,by omega,hl⟩,Y5 he];simp
theorem ZhD {z:List Value} {x:Operand} {id lo len:Nat} {b:Bx} (hx:ev e x=some (.view id lo len)) (hb:h id=some b) (hl:lo+len<=b.elems.length) (he:b.esz=z.length) :
 X3 (.clear z x) e h n=some (.val (.tuple #[]),h.upd id ⟨b.esz,b.elems.take lo++(List.replicate len (zpv z)++b.elems.drop (lo+len))⟩):=by
 simp only [X3,hx,hb];rw [Y5 ⟨hl,he⟩]
theorem Z6Z {a:Operand} {k i:Nat} {zs:List Cu} (ha:ev e a=some (.ptr k i 0)) (hb:h k=some ⟨2,zs.map cuC⟩) (hi:i<zs.length):X3 (.load true 2 a) e h n=some (cuP zs[i],h) :=
 Z2p ha hb (by simpa using hi) (by rw [ZfI zs hi]; exact X81 _)
end
theorem Z81:∀ {l:List (List PV)},(∀ c∈l,X6 c)->X2 l
 | [],_=>trivial
 | c :: l,h=>⟨h c (Y0t ..),Z81 fun d hd=>h d (YD _ hd)⟩
theorem Z9V:∀ (l:List Cu) (p:Nat) (x:Cu),p<l.length->(l.set p x).take (p+1)=l.take p ++ [x]
 | a :: l,0,x,_=>by simp
 | a :: l, p + 1, x, h => by
   have:=Z9V l p x (by simpa using h);simp [this]
theorem Zjh {l:List Cu} {p:Nat} {x:Cu} (h:p<l.length):(l.map cuC).set p (Xj ((l.map cuC).getD p []) 0 (cuP x).cells)=(l.set p x).map cuC:=by
 rw [ZfI l h,Y4p]
 rfl
def X5t (xs:List Cu) (r:PV) (b':Bx):Prop:=∃ m,m<=b'.elems.length/\b'.esz=2/\b'.elems.take m=(X2B xs).map cuC/\(r=.own 0/\m=b'.elems.length \/ r=.view 0 0 m)
theorem ZfK {xs:List Cu} (h:X2B xs=xs):X5t xs (.own 0) ⟨2,xs.map cuC⟩:=⟨(xs.map cuC).length,Y0m _,rfl,by rw [h,Y0q],.inl ⟨rfl,rfl⟩⟩
theorem Z7v (xs:List Cu) (hx:∀ c∈xs,XA c) (hlen:xs.length<=1000000):X4b Tryz.prog 205 ⟨2,xs.map cuC⟩ [.own 0,.fn 37 []] (X5t xs):=by
 have hml:(xs.map cuC).length=xs.length:=by simp
 refine Z1y ok205 (Y0 rfl) fun C hC=>?_;by_cases h2:xs.length<2
 . have hc : X2B xs = xs := by
    match xs,h2 with
    | [],_=>rfl
    | [a],_=>rfl
   iterate 9 (first|refine st ?_|(apply B<;>intro hb<;>try cases hb))
   refine Qo (Qy rfl (by show ((xs.map cuC).length:Int)<2;omega)) ?_;refine go ?_;exact⟨_,_,rfl,.inl rfl,_,rfl,rfl,Z0 xs,ZfK hc⟩
 . iterate 9 (first|refine st ?_|(apply B<;>intro hb<;>try cases hb))
   refine Qo (Qz rfl (by show ¬ ((xs.map cuC).length:Int)<2;omega)) ?_;have hpl:∀ (l:List Cu) D,Xu D (l.map cuC):=fun l D=>Ze (fun _ h=>h.elim) _ (Z0 l);refine go ?_
   refine ZB hC (fun (k:Nat)=>1<=k/\k<=xs.length/\X2B xs=xs.take k++X2o (xs.getD (k-1) (0,0)) (xs.drop k)) (fun k=>xs.length-k) 1 (fun k => [(0,.own 0),(1,.fn 37 []),(5,.val (.int .i64 (k:Int)))]) (fun _ => [(0,⟨2,xs.map cuC⟩)]) (by omega) 1 ⟨by omega,by omega,by
    match xs,h2 with
    | a :: r,_=>rfl⟩
    ⟨⟨rfl,show (0:Nat)<1 by decide⟩,⟨rfl,Yt⟩,⟨rfl,Yt⟩,Yt⟩ ⟨⟨by decide,rfl,hpl _ _⟩,Yt⟩ ?_
   rintro k ⟨hk1,hkl,hcmp⟩;have hinc:IntKind.i64.wrap ((k:Int)+1)=((k+1:Nat):Int):=Y0v _ ⟨by omega,by omega⟩;have hdec:IntKind.i64.wrap ((k:Int)-1)=((k-1:Nat):Int):=(Y0v _ ⟨by omega,by omega⟩).trans (by omega)
   iterate 6 (first|refine st ?_|(apply B<;>intro hb<;>try cases hb))
   by_cases hkl2:k<xs.length
   . refine Qo (Qy rfl (by show (k : Int) < ((xs.map cuC).length : Int); omega)) ?_;refine go ?_;refine Qr (ZO (b:=⟨2,xs.map cuC⟩) rfl rfl rfl k rfl (by show k<(xs.map cuC).length;omega) rfl) ?_;refine Qr (Z6Z (zs:=xs) rfl rfl hkl2) ?_;refine go ?_;refine Qr (ZO (b:=⟨2,xs.map cuC⟩) rfl rfl rfl (k-1) hdec (by show k-1<(xs.map cuC).length;omega) rfl) ?_;refine Qr (Z6Z (zs:=xs) rfl rfl (show k-1<xs.length by omega)) ?_;have hok1:=hx _ (Y0j hkl2);have hok2:=hx _ (Y0j (show k-1<xs.length by omega));refine Qd (Z6R xs[k] xs[k-1] hok1 hok2) ⟨Zx _,Zx _,Yt⟩ ?_;have hg1:xs.getD (k-1) (0,0)=xs[k-1]:=by simp [Y0b,show k-1<xs.length by omega]
     have hg2:xs.getD k (0,0)=xs[k]:=by simp [Y0b,hkl2]
     rw [hg1,ZfH hkl2] at hcmp;have htk:xs.take (k+1)=xs.take k ++ [xs[k]]:=by rw [YY,Y0c hkl2]; rfl
     cases heq:eqC xs[k] xs[k-1]
     case false =>
      rw [Z6Y heq] at hcmp;refine go ?_;exact⟨k+1,⟨by omega,by omega,by rw [hcmp,htk,YU,Y3u,hg2]; rfl⟩,by omega,⟨⟨rfl,show (0:Nat)<1 by decide⟩,⟨rfl,Yt⟩,⟨by show some _=some _; rw [hinc],Yt⟩,Yt⟩,⟨⟨by decide,rfl,hpl _ _⟩,Yt⟩⟩
     rw [Z6X heq] at hcmp;refine go ?_;refine Z5 (ZfJ (b:=⟨2,xs.map cuC⟩) rfl rfl k xs.length rfl (by show some ((xs.map cuC).length:Int)=_; rw [hml]) hkl (by show xs.length<=(xs.map cuC).length;omega) rfl) rfl rfl ?_;refine go ?_;refine ZB hC (fun (q:Nat×Nat×List Cu)=>1<=q.2.1/\q.2.1<=xs.length-k/\k<=q.1/\q.1+1<=k+q.2.1/\q.2.2.length=xs.length/\(∀ j,k+q.2.1-1<=j->q.2.2.getD j (0,0)=xs.getD j (0,0))/\X2B xs=q.2.2.take q.1++X2o (xs.getD (k+q.2.1-1) (0,0)) (xs.drop (k+q.2.1))) (fun q=>xs.length-q.2.1) 1 (fun q => [(0,.own 0),(1,.fn 37 []),(5,.val (.int .i64 (q.1:Int))),(6,.view 0 k (xs.length-k)),(7,.val (.int .i64 (q.2.1:Int)))]) (fun q => [(0,⟨2,q.2.2.map cuC⟩)]) (by omega) (k,1,xs) ⟨Y0m 1,by show 1<=xs.length-k; omega,Y0m _,Y0m _,rfl,fun _ _=>rfl,by show X2B xs=xs.take k++X2o (xs.getD (k+1-1) (0,0)) (xs.drop (k+1)); rw [Y3u,hg2]; exact hcmp⟩
      ⟨⟨rfl,show (0:Nat)<1 by decide⟩,⟨rfl,Yt⟩,⟨rfl,Yt⟩,⟨rfl,show (0:Nat)<1 by decide⟩,⟨rfl,Yt⟩,Yt⟩ ⟨⟨by decide,rfl,hpl _ _⟩,Yt⟩ ?_
     rintro⟨p,j,zs⟩ ⟨hj1,hjl,hkp,hpj,hzl,hsame,hc2⟩;dsimp only at hj1 hjl hkp hpj hzl hsame hc2 ⊢;have hzm:(zs.map cuC).length=xs.length:=by simp [hzl]
     have hincj:IntKind.i64.wrap ((j:Int)+1)=((j+1:Nat):Int):=Y0v _ ⟨by omega,by omega⟩;have hdecj:IntKind.i64.wrap ((j:Int)-1)=((j-1:Nat):Int):=(Y0v _ ⟨by omega,by omega⟩).trans (by omega);have hincp:IntKind.i64.wrap ((p:Int)+1)=((p+1:Nat):Int):=Y0v _ ⟨by omega,by omega⟩
     iterate 6 (first|refine st ?_|(apply B<;>intro hb<;>try cases hb))
     by_cases hjl2:j<xs.length-k
     . refine Qo (Qy rfl (by show (j : Int) < ((xs.length - k : Nat) : Int); omega)) ?_;have hb1:k+j<zs.length:=by omega
       have hb2:k+(j-1)<zs.length:=by omega
       have hb3:k+j<xs.length:=by omega
       have hz1:zs[k+j]=xs.getD (k+j) (0,0):=by rw [<- hsame (k+j) (by omega)]; simp [Y0b,hb1]
       have hz2:zs[k+(j-1)]=xs.getD (k+j-1) (0,0):=by rw [<- hsame (k+j-1) (by omega)]; simp [Y0b,show k+j-1<zs.length by omega,show k+(j-1)=k+j-1 by omega]
       have hx1:xs.getD (k+j) (0,0)=xs[k+j]:=by simp [Y0b,hb3]
       have hx2:xs.getD (k+j-1) (0,0)∈xs:=by
        rw [Y0b,Y0c (show k+j-1<xs.length by omega)];exact Y0j _
       refine go ?_;refine Qr (Z8W (b:=⟨2,zs.map cuC⟩) rfl rfl rfl j rfl hjl2 (by show k+(xs.length-k)<=(zs.map cuC).length;omega) rfl) ?_;refine Qr (Z6Z (zs:=zs) rfl rfl hb1) ?_;refine go ?_;refine Qr (Z8W (b:=⟨2,zs.map cuC⟩) rfl rfl rfl (j-1) hdecj (by omega) (by show k+(xs.length-k)<=(zs.map cuC).length;omega) rfl) ?_;refine Qr (Z6Z (zs:=zs) rfl rfl hb2) ?_;rw [hz1,hz2,hx1];rw [ZfH hb3] at hc2;generalize xs.getD (k+j-1) (0,0)=pv at hc2 hx2 ⊢;refine Qd (Z6R xs[k+j] pv (hx _ (Y0j hb3)) (hx _ hx2)) ⟨Zx _,Zx _,Yt⟩ ?_;have hsx:xs.getD (k+(j+1)-1) (0,0)=xs[k+j]:=by rw [show k+(j+1)-1=k+j by omega]; exact hx1
       cases heq2:eqC xs[k+j] pv
       . rw [Z6Y heq2] at hc2;refine go ?_;refine Qo (Z8W (b:=⟨2,zs.map cuC⟩) rfl rfl rfl j rfl hjl2 (by show k+(xs.length-k)<=(zs.map cuC).length;omega) rfl) ?_;refine Qo (Z6Z (zs:=zs) rfl rfl hb1) ?_;refine Qo (ZO (b:=⟨2,zs.map cuC⟩) rfl rfl rfl p rfl (by show p<(zs.map cuC).length;omega) rfl) ?_;refine Qo (Z1T (b:=⟨2,zs.map cuC⟩) (p:=cuP zs[k+j]) rfl rfl rfl rfl rfl (by show p<(zs.map cuC).length;omega) (Y0m 2)) ?_;rw [Zjh (show p<zs.length by omega),hz1,hx1];refine go ?_;refine⟨(p+1,j+1,zs.set p xs[k+j]),⟨by show 1<=j+1; omega,by show j+1<=xs.length-k; omega,by show k<=p+1; omega,by show p+1+1<=k+(j+1); omega,by show (zs.set p xs[k+j]).length=xs.length; rw [Y14,hzl],fun i hi=>?_,?_⟩,by show xs.length-(j+1)<xs.length-j; omega,⟨⟨rfl,show (0:Nat)<1 by decide⟩,⟨rfl,Yt⟩,⟨by show some _=some _; rw [hincp],Yt⟩,⟨rfl,show (0:Nat)<1 by decide⟩,⟨by show some _=some _; rw [hincj],Yt⟩,Yt⟩,⟨⟨by decide,rfl,hpl _ _⟩,Yt⟩⟩
         . have hi' : k + (j + 1) - 1 <= i := hi;rw [<- hsame i (by omega)];simp [Y0b,Y3g (show p≠i by omega)]
         . show X2B xs = (zs.set p xs[k + j]).take (p + 1) ++ X2o (xs.getD (k + (j + 1) - 1) (0, 0)) (xs.drop (k + (j + 1)));rw [hsx,Z9V zs p _ (by omega),YU];exact hc2
       . rw [Z6X heq2] at hc2;refine go ?_;exact⟨(p,j+1,zs),⟨by show 1<=j+1; omega,by show j+1<=xs.length-k; omega,hkp,by show p+1<=k+(j+1); omega,hzl,fun i hi=>hsame i (by have:k+(j+1)-1<=i:=hi;omega),by show X2B xs=zs.take p++X2o (xs.getD (k+(j+1)-1) (0,0)) (xs.drop (k+(j+1))); rw [hsx]; exact hc2⟩,by show xs.length-(j+1)<xs.length-j; omega,⟨⟨rfl,show (0:Nat)<1 by decide⟩,⟨rfl,Yt⟩,⟨rfl,Yt⟩,⟨rfl,show (0:Nat)<1 by decide⟩,⟨by show some _=some _; rw [hincj],Yt⟩,Yt⟩,⟨⟨by decide,rfl,hpl _ _⟩,Yt⟩⟩
     . have hjx : j = xs.length - k := by omega
       refine Qo (Qz rfl (by show ¬ (j:Int)<((xs.length-k:Nat):Int);omega)) ?_;have hfin:X2B xs=zs.take p:=by rw [hc2,Y31 (by omega)]; simp [X2o]
       have hpz:p<=(zs.map cuC).length:=by omega
       refine go ?_;refine Z5 (ZfJ (b:=⟨2,zs.map cuC⟩) rfl rfl p (zs.map cuC).length rfl rfl hpz (Y0m _) rfl) rfl rfl ?_;refine Qo (ZhD (b:=⟨2,zs.map cuC⟩) rfl rfl (by show p+((zs.map cuC).length-p)<=(zs.map cuC).length;omega) rfl) ?_;have hy:((zs.map cuC).take p++(List.replicate ((zs.map cuC).length-p) (zpv [.slice none 0 0,.slice none 0 0])++(zs.map cuC).drop (p+((zs.map cuC).length-p)))).length=xs.length:=by
        simp only [Y0e,Y0o,Y41,YQ,hzm];omega
       have hyt:((zs.map cuC).take p++(List.replicate ((zs.map cuC).length-p) (zpv [.slice none 0 0,.slice none 0 0])++(zs.map cuC).drop (p+((zs.map cuC).length-p)))).take p=(X2B xs).map cuC:=by
        rw [Y3c (by rw [Y0o];omega),Y3x,Nat.min_self,hfin,Y2o]
       have hyp:X2 ((zs.map cuC).take p++(List.replicate ((zs.map cuC).length-p) (zpv [.slice none 0 0,.slice none 0 0])++(zs.map cuC).drop (p+((zs.map cuC).length-p)))):=by
        refine Z81 fun c hc=>?_;rcases Y0h.1 hc with h|h
        . obtain⟨x,_,rfl⟩:=Y0i.1 (YM h); exact Zi x
        . rcases Y0h.1 h with h | h
          . rw [Y1p h]; exact⟨Yt,Yt,Yt⟩
          . obtain⟨x,_,rfl⟩:=Y0i.1 (Y1b h); exact Zi x
       generalize ((zs.map cuC).take p++(List.replicate ((zs.map cuC).length-p) (zpv [.slice none 0 0,.slice none 0 0])++(zs.map cuC).drop (p+((zs.map cuC).length-p))))=ys at hy hyt hyp ⊢;refine go ?_;refine Z5 (ZfJ (b:=⟨2,ys⟩) rfl rfl 0 p rfl rfl (Y0l _) (by show p<=ys.length;omega) rfl) rfl rfl ?_;refine go ?_;exact⟨_,_,rfl,.inl rfl,⟨2,ys⟩,rfl,rfl,hyp,p,by show p<=ys.length; omega,rfl,hyt,.inr rfl⟩
   . have hkx : k = xs.length := by omega
     refine Qo (Qz rfl (by show ¬ (k:Int)<((xs.map cuC).length:Int);omega)) ?_;have hfin:X2B xs=xs:=by rw [hcmp,hkx,List.drop_length,Y0q]; simp [X2o]
     refine go ?_;exact⟨_,_,rfl,.inl rfl,_,rfl,rfl,Z0 xs,ZfK hfin⟩
def X3Y (l:List Cu):Nat:=l.foldl (fun s c=>(s ||| c.1) ||| c.2) 0
def X5Y (l:List Cu):List Cu:=l.filter fun c => !emC c
def X73 (l:List Cu):Int:=if (X3Y (X5Y l)).testBit 0=true then 1 else if 8<(mem (X3Y (X5Y l))).length then 3 else 0
end
section
open Go.RowKit
theorem tb {y i:Nat} (h:¬ y.testBit i=true):y.testBit i=false:=by simpa using h
theorem tb2 {b:Bool} (h:¬ b=true):b=false:=by simpa using h
theorem Z4h (a s:Nat):a ||| s=s↔∀ i,a.testBit i=true->s.testBit i=true:=by
 constructor
 . intro h i hi;rw [<- h,Y00,hi,Y2R]
 . intro h;refine YF fun i=>?_;rw [Y00];cases ha:a.testBit i with
   | false=>rfl
   | true=>rw [h i ha]; rfl
theorem Z2Q (a s:Nat):a &&& s=0↔∀ i,a.testBit i=true->s.testBit i=false:=by
 constructor
 . intro h i hi;have:=congrArg (·.testBit i) h;simp only [Y0z,hi,Y1j,Y1E] at this;exact this
 . intro h;refine YF fun i=>?_;rw [Y0z,Y1E];cases ha:a.testBit i with
   | false=>rfl
   | true=>rw [h i ha]; rfl
theorem Z1a (c:Cu) (s:Nat):hoC c s=true↔(∀ i,c.1.testBit i=true->s.testBit i=true)/\∀ i,c.2.testBit i=true->s.testBit i=false:=by
 unfold hoC;rw [Y0k,Y12,Y2b,Y3A,Y3z,Z4h,Z2Q]
def X48 (a b:Nat):Prop:=∀ i,a.testBit i=true->b.testBit i=true
theorem Z9W (a:Nat):X48 a a:=fun _ h=>h
section
variable {N:Nat} (hN:N<18446744073709551616)
include hN
end
def X2b (b:Cu) (z:Cu×List Cu) (r:Nat):Cu×List Cu :=
 if b.1.testBit r && !z.1.1.testBit r then ((z.1.1 ||| 2 ^ r,z.1.2),z.2 ++ [(z.1.1,z.1.2 ||| 2 ^ r)])
 else if b.2.testBit r && !z.1.2.testBit r then ((z.1.1,z.1.2 ||| 2 ^ r),z.2 ++ [(z.1.1 ||| 2 ^ r,z.1.2)]) else z
def X2w (a b:Cu) (l:List Nat):Cu×List Cu:=l.foldl (X2b b) (a,[])
def X25 (a b:Cu):List Cu:=if emC a then [] else if (meC a b).2 then (X2w a b (mem (b.1 ||| b.2))).2 else [a]
def X2c:List Cu->Cu->Bool
 | [],c=>emC c
 | b :: l,c=>emC c||if emC (X16 c b) then X2c l c else (X25 c b).all fun x=>X2c l x
theorem Z83 {a:Cu} {r S:Nat}:hoC (a.1 ||| 2 ^ r,a.2) S=(hoC a S&&S.testBit r):=by
 rw [YO,Y0k,Z1a,Z1a];constructor
 . rintro ⟨h1, h2⟩;exact⟨⟨fun i hi=>h1 i (by rw [Z1r,hi,Y2R]),h2⟩,h1 r (by rw [Z1r]; simp)⟩
 . rintro ⟨⟨h1, h2⟩, h3⟩;refine⟨fun i hi=>?_,h2⟩;rw [Z1r,YP,Y0n] at hi;rcases hi with hi|rfl
   . exact h1 i hi
   . exact h3
theorem ZhF {a:Cu} {r S:Nat}:hoC (a.1,a.2 ||| 2 ^ r) S=(hoC a S && !S.testBit r):=by
 rw [YO,Y0k,Z1a,Z1a];constructor
 . rintro ⟨h1, h2⟩;refine⟨⟨h1,fun i hi=>h2 i (by rw [Z1r,hi,Y2R])⟩,?_⟩;rw [h2 r (by rw [Z1r]; simp)]; rfl
 . rintro ⟨⟨h1, h2⟩, h3⟩;refine⟨h1,fun i hi=>?_⟩;rw [Z1r,YP,Y0n] at hi;rcases hi with hi|rfl
   . exact h2 i hi
   . simpa using h3
theorem Z6j (l:List Cu) (c:Cu) (S:Nat):soC (l ++ [c]) S=(soC l S||hoC c S):=by simp [soC]
def X2z (b:Cu) (l:List Nat) (S:Nat):Bool:=l.all fun r=>(!b.1.testBit r||S.testBit r)&&(!b.2.testBit r || !S.testBit r)
theorem ZhG {b a0:Cu} {l:List Nat} {z:Cu×List Cu} (h1:∀ S,hoC z.1 S=(hoC a0 S&&X2z b l S)) (h2:∀ S,soC z.2 S=(hoC a0 S && !X2z b l S)) (r:Nat) (hd:¬ (b.1.testBit r=true/\b.2.testBit r=true)) :
 (∀ S,hoC (X2b b z r).1 S=(hoC a0 S&&X2z b (l ++ [r]) S))/\∀ S,soC (X2b b z r).2 S=(hoC a0 S && !X2z b (l ++ [r]) S):=by
 have hat:∀ S,X2z b (l ++ [r]) S=(X2z b l S&&((!b.1.testBit r||S.testBit r)&&(!b.2.testBit r || !S.testBit r))):=fun S=>by simp [X2z]
 have key:∀ S,hoC z.1 S=true->(z.1.1.testBit r=true->S.testBit r=true)/\(z.1.2.testBit r=true->S.testBit r=false):=fun S h=>⟨((Z1a _ _).1 h).1 r,((Z1a _ _).1 h).2 r⟩
 unfold X2b
 split
 . rename_i h;rw [Y0k,Y12] at h;have hb2:b.2.testBit r=false:=tb fun h'=>hd ⟨h.1,h'⟩;constructor
   . intro S;rw [Z83,h1,hat,h.1,hb2];cases hoC a0 S<;>cases X2z b l S<;>cases S.testBit r<;>rfl
   . intro S;rw [Z6j,ZhF,h1,h2,hat,h.1,hb2];cases hoC a0 S<;>cases X2z b l S<;>cases S.testBit r<;>rfl
 . rename_i h
   split
   . rename_i h';rw [Y0k,Y12] at h';have hb1 : b.1.testBit r = false := tb fun h'' => hd ⟨h'',h'.1⟩;constructor
     . intro S;rw [ZhF,h1,hat,h'.1,hb1];cases hoC a0 S<;>cases X2z b l S<;>cases S.testBit r<;>rfl
     . intro S;rw [Z6j,Z83,h1,h2,hat,h'.1,hb1];cases hoC a0 S<;>cases X2z b l S<;>cases S.testBit r<;>rfl
   . rename_i h';have e:∀ S,hoC a0 S=true->X2z b l S=true->((!b.1.testBit r||S.testBit r)&&(!b.2.testBit r || !S.testBit r))=true:=by
      intro S ha hl;have hz:hoC z.1 S=true:=by rw [h1,ha,hl]; rfl
      obtain⟨k1,k2⟩:=key S hz;cases e1:b.1.testBit r<;>cases e2:b.2.testBit r
      . rfl
      . have : z.1.2.testBit r = true := by
         apply YV;intro hn;exact h' (by rw [e2,tb hn]; rfl)
        rw [k2 this]; rfl
      . have : z.1.1.testBit r = true := by
         apply YV;intro hn;exact h (by rw [e1,tb hn]; rfl)
        rw [k1 this]; rfl
      . exact absurd ⟨e1,e2⟩ hd
     have e':∀ S,(hoC a0 S&&X2z b (l ++ [r]) S)=(hoC a0 S&&X2z b l S)/\(hoC a0 S && !X2z b (l ++ [r]) S)=(hoC a0 S && !X2z b l S):=by
      intro S;rw [hat];cases ha:hoC a0 S
      . exact⟨rfl,rfl⟩
      cases hl:X2z b l S
      . exact⟨rfl,rfl⟩
      rw [e S ha hl];exact⟨rfl,rfl⟩
     exact⟨fun S=>by rw [(e' S).1]; exact h1 S,fun S=>by rw [(e' S).2]; exact h2 S⟩
theorem Z8X (a b:Cu) (hd:b.1 &&& b.2=0):∀ l:List Nat,(∀ S,hoC (X2w a b l).1 S=(hoC a S&&X2z b l S))/\∀ S,soC (X2w a b l).2 S=(hoC a S && !X2z b l S):=by
 have main:∀ (l pre:List Nat) (z:Cu×List Cu),((∀ S,hoC z.1 S=(hoC a S&&X2z b pre S))/\∀ S,soC z.2 S=(hoC a S && !X2z b pre S))->(∀ S,hoC (l.foldl (X2b b) z).1 S=(hoC a S&&X2z b (pre++l) S))/\∀ S,soC (l.foldl (X2b b) z).2 S=(hoC a S && !X2z b (pre++l) S):=by
  intro l
  induction l with
  | nil=>intro pre z hz; rw [Y0p]; exact hz
  | cons r l ih =>
    intro pre z hz;have hr:¬ (b.1.testBit r=true/\b.2.testBit r=true):=fun ⟨p,q⟩=>by
     have:=(Z2Q _ _).1 hd r p;rw [q] at this; cases this
    have:=ih (pre ++ [r]) (X2b b z r) (ZhG hz.1 hz.2 r hr);rw [YU] at this;exact this
 intro l;exact main l [] (a,[]) ⟨fun S=>by simp [X2z],fun S=>by simp [X2z,soC]⟩
theorem ZhH {b:Cu} (hb:XA b) (S:Nat):X2z b (mem (b.1 ||| b.2)) S=hoC b S:=by
 have hlt:b.1 ||| b.2<18446744073709551616:=Z1X hb.1 hb.2
 rw [YO,Z1a];unfold X2z;rw [YI];constructor
 . intro h;constructor
   . intro i hi;have:=h i ((Z15 hlt).2 (by rw [Y00,hi,Y2R]));rw [hi] at this;simp only [Y0k] at this;simpa using this.1
   . intro i hi;have:=h i ((Z15 hlt).2 (by rw [Y00,hi,Y3v]));rw [hi] at this;simp only [Y0k] at this;simpa using this.2
 . rintro ⟨h1, h2⟩ r -;cases e1:b.1.testBit r<;>cases e2:b.2.testBit r<;>first
    | rfl
    | (rw [h1 r e1]; try rw [h2 r e2]
       rfl)
    | (rw [h2 r e2]; rfl)
    | (have:=h1 r e1; rw [h2 r e2] at this; cases this)
theorem Z5z {a b:Cu} {S:Nat}:hoC (X16 a b) S=(hoC a S&&hoC b S):=by
 rw [YO,Y0k,Z1a,Z1a,Z1a];unfold X16;simp only [Y00,YP]
 exact⟨fun ⟨h1,h2⟩=>⟨⟨fun i hi=>h1 i (.inl hi),fun i hi=>h2 i (.inl hi)⟩,fun i hi=>h1 i (.inr hi),fun i hi=>h2 i (.inr hi)⟩,
  fun ⟨⟨h1,h2⟩,h3,h4⟩=>⟨fun i hi=>hi.elim (h1 i) (h3 i),fun i hi=>hi.elim (h2 i) (h4 i)⟩⟩
theorem Z2E {c:Cu} (h:emC c=true) (S:Nat):hoC c S=false:=by
 apply tb2;intro hs;rw [Z1a] at hs;unfold emC at h;refine Y0u h ((Z2Q _ _).2 fun i hi=>?_);apply tb;intro h2;have:=hs.2 i h2;rw [hs.1 i hi] at this;cases this
theorem Z4i {c:Cu} (h:emC c=false):hoC c c.1=true:=by
 unfold emC at h;rw [Z1a];have h0:c.1 &&& c.2=0:=by simpa using h
 refine⟨fun i hi=>hi,fun i hi=>tb fun h1=>?_⟩;have:=(Z2Q _ _).1 h0 i h1;rw [hi] at this; cases this
theorem Z8Y (c:Cu) (S:Nat):soC [c] S=hoC c S:=by simp [soC]
theorem Z3q (b:Cu) (l:List Cu) (S:Nat):soC (b :: l) S=(hoC b S||soC l S):=rfl
theorem Z6k {a b:Cu} (hb:XA b) (S:Nat):soC (X25 a b) S=(hoC a S && !hoC b S):=by
 unfold X25;cases ha:emC a with
 | true=>rw [Y5 rfl,Z2E ha]; rfl
 | false =>
   rw [Y6 (by decide)];unfold meC;cases hm:emC (X16 a b) with
   | true =>
     rw [Y5 rfl,Y6 (by decide),Z8Y];have:=Z2E hm S;rw [Z5z] at this
     revert this
     cases hoC a S<;>cases hoC b S<;>decide
   | false =>
     show soC (X2w a b (mem (b.1 ||| b.2))).2 S=_;have hd:b.1 &&& b.2=0:=by
      have h0:=Z4i hm;rw [Z5z,Y0k] at h0;apply YV;intro hn;have:emC b=true:=by unfold emC; exact Yw hn
      rw [Z2E this] at h0;cases h0.2
     rw [(Z8X a b hd _).2 S,ZhH hb]
theorem Z8Z:∀ (l:List Cu),(∀ b∈l,XA b)->∀ c,X2c l c=true↔∀ S,hoC c S=true->soC l S=true
 | [], _, c => by
   unfold X2c;constructor
   . intro h S hs; rw [Z2E h] at hs; cases hs
   . intro h;apply YV;intro hn;have:=h c.1 (Z4i (tb2 hn));cases this
 | b :: l, hl, c => by
   have hb:=hl b (Y0t ..);have ih:=Z8Z l fun x hx=>hl x (YD _ hx);unfold X2c;cases he:emC c with
   | true=>exact⟨fun _ S hs=>(by rw [Z2E he] at hs; cases hs),fun _=>rfl⟩
   | false =>
     rw [Y1G];cases hm:emC (X16 c b) with
     | true =>
       rw [Y5 rfl,ih];refine forall_congr' fun S=>Y3l fun hs=>?_;have:=Z2E hm S;rw [Z5z,hs,Y1j] at this;rw [Z3q,this,Y1G]
     | false =>
       rw [Y6 (by decide),YI];constructor
       . intro h S hs;rw [Z3q];cases hbs:hoC b S with
         | true=>rfl
         | false =>
           have hx:soC (X25 c b) S=true:=by rw [Z6k hb,hs,hbs]; rfl
           obtain⟨x,hx1,hx2⟩:=Y01.1 hx;rw [Y1G];exact (ih x).1 (h x hx1) S hx2
       . intro h x hx;refine (ih x).2 fun S hs=>?_;have hm2:soC (X25 c b) S=true:=Y01.2 ⟨x,hx,hs⟩;rw [Z6k hb,Y0k] at hm2;have:=h S hm2.1;rw [Z3q] at this;cases hbs:hoC b S with
         | true=>rw [hbs] at hm2; cases hm2.2
         | false=>rwa [hbs,Y1G] at this
theorem Zji {b:Cu} {z:Cu×List Cu} {r:Nat} (hr:r<64) (hz:XA z.1/\∀ c∈z.2,XA c):XA (X2b b z r).1/\∀ c∈(X2b b z r).2,XA c:=by
 have hp:=ZV hr;have s1:∀ {l:List Cu} {c:Cu},(∀ c∈l,XA c)->XA c->∀ d∈l ++ [c],XA d:=fun h1 h2 d hd=>by
  rcases Y0h.1 hd with h|h
  . exact h1 d h
  . rw [Y0g.1 h]; exact h2
 unfold X2b
 split
 . exact⟨⟨Z1X hz.1.1 hp,hz.1.2⟩,s1 hz.2 ⟨hz.1.1,Z1X hz.1.2 hp⟩⟩
 . split
   . exact⟨⟨hz.1.1,Z1X hz.1.2 hp⟩,s1 hz.2 ⟨Z1X hz.1.1 hp,hz.1.2⟩⟩
   . exact hz
theorem Zbw {a b:Cu} (ha:XA a) {l:List Nat} (hl:∀ r∈l,r<64):XA (X2w a b l).1/\(∀ c∈(X2w a b l).2,XA c)/\(X2w a b l).2.length<=l.length:=by
 have main:∀ (l:List Nat),(∀ r∈l,r<64)->∀ z:Cu×List Cu,XA z.1/\(∀ c∈z.2,XA c)->XA (l.foldl (X2b b) z).1/\(∀ c∈(l.foldl (X2b b) z).2,XA c)/\(l.foldl (X2b b) z).2.length<=z.2.length+l.length:=by
  intro l
  induction l with
  | nil=>intro _ z hz; exact⟨hz.1,hz.2,by simp⟩
  | cons r l ih =>
    intro hl z hz;have h:=ih (fun x hx=>hl x (by simp [hx])) (X2b b z r) (Zji (hl r (by simp)) hz);refine⟨h.1,h.2.1,Y03 h.2.2 ?_⟩;have:(X2b b z r).2.length<=z.2.length+1:=by
     unfold X2b
     split
     . simp
     . split<;>simp
    simp only [Y04]; omega
 have:=main l hl (a,[]) ⟨ha,fun c hc=>by cases hc⟩;exact⟨this.1,this.2.1,by simpa [X2w] using this.2.2⟩
theorem Zjj {a b:Cu} (ha:XA a):∀ c∈X25 a b,XA c:=by
 intro c hc;unfold X25 at hc
 split at hc
 . cases hc
 split at hc
 . exact (Zbw ha fun r hr=>Z3C hr).2.1 c hc
 . rw [Y0g.1 hc]; exact ha
theorem ZcO (a b:Cu) (ha:XA a):(X25 a b).length<=64:=by
 unfold X25
 split
 . simp
 split
 . exact Y03 (Zbw ha fun r hr=>Z3C hr).2.2 (Z2y _)
 . simp
end
section
open Go.RowKit
attribute [local irreducible] aw Xk dK
def X3a (s k:Nat):List Nat:=(List.range k).filter fun i=>s.testBit i
theorem Ze1 (s k:Nat):X3a s (k+1)=X3a s k++(if s.testBit k=true then [k] else []):=by
 unfold X3a;rw [Y40,Y2d];cases h:s.testBit k<;>simp [h]
theorem ZfL (s k:Nat):(X3a s k).length<=k:=by
 have:=Y1J (fun i=>s.testBit i) (List.range k);rw [Y2D] at this;exact this
theorem Z9Z (l m:List Nat):Xb (l++m)=Xb l++Xb m:=by simp [Xb]
theorem Z70 (l m:List Int):XG (l++m)=XG l++XG m:=by simp [XG]
theorem Z90 (s:Nat) (hs:s<18446744073709551616):Xa Tryz.prog 112 [.val (.int .u64 (s:Int))] (· = .vec (XG (Xb (mem s))) false):=by
 refine Yp ok112 fun C hC=>?_
 repeat' (first|refine Zb (Zw (k:=3) rfl 1 (by decide)) ?_|(first|refine st ?_|(apply B<;>intro hb<;>try cases hb)))
 refine ZC hC (fun (i:Nat)=>i<=64) (fun i=>64-i) 1 (fun i => [(0,.val (.int .u64 (s:Int))),(3,.own 0),(4,Yv i)])
  (fun i => [(0,⟨1,XG (Xb (X3a s i))⟩)]) (Y0l _) 0 (Y0l _) (fun i=>i) (fun _ _=>rfl) Zp
  ⟨Qp Yt,⟨_,rfl,.own 0 (by decide)⟩,Qp Yt,Yt⟩ ⟨Qs Yt,Yt⟩ ?_
 intro i hi;have hinc:IntKind.i64.wrap ((i:Int)+1)=((i+1:Nat):Int):=Y0v _ ⟨by omega,by omega⟩;have hstep:=Ze1 s i;have hlen:=ZfL s i
 iterate 4 (first|refine st ?_|(apply B<;>intro hb<;>try cases hb))
 refine Zv rfl rfl rfl (fun hb=>?_) (fun hb=>?_)
 . have hil : i < 64 := by have := Y0u hb; omega
   clear hb;(refine go ?_;repeat' (apply B<;>intro hb<;>try cases hb))
   . rw [Z3M s i hil, Z3k s i, Z6D s i] at hb;rw [Y5 hb] at hstep
     refine ZH (Zt (k:=0) (m:=XG [(i:Int)]) (fl:=true) rfl rfl rfl (fun c hc=>by obtain⟨y,_,rfl⟩:=Y0i.1 hc; rfl) rfl (by
      show ((XG (Xb (X3a s i))).length+(XG [(i:Int)]).length)*8<=_;simp [XG,Xb]
      omega)) rfl rfl ?_
     (refine go ?_;repeat' (apply B<;>intro hb<;>try cases hb))
     refine⟨i+1,mv 0 1,by omega,by omega,fun i hi=>absurd hi (YL i),Zu rfl,
      ⟨Qp Yt,⟨_,rfl,.own 0 (by decide)⟩,⟨_,by show some _=some _; rw [hinc],.pure _ Yt⟩,Yt⟩,
      ⟨⟨by decide,_,rfl,?_⟩,Yt⟩⟩
     show Xr _ _ ⟨1,XG (Xb (X3a s i))++XG [(i:Int)]⟩ ⟨1,XG (Xb (X3a s (i+1)))⟩;rw [hstep,Z9Z,Z70,show Xb [i] = [(i:Int)] from rfl];exact .same _ (by rw [<- Z70]; exact ZG _)
   . rw [Z3M s i hil, Z3k s i, Z6D s i] at hb;rw [Y6 (by rw [hb]; decide),Y0p] at hstep
     exact⟨i+1,fun i=>i,by omega,by omega,fun _ _=>rfl,Zp,
      ⟨Qp Yt,⟨_,rfl,.own 0 (by decide)⟩,⟨_,by show some _=some _; rw [hinc],.pure _ Yt⟩,Yt⟩,
      ⟨⟨by decide,_,rfl,by rw [hstep]; exact .same _ (ZG _)⟩,Yt⟩⟩
 . have hil : i = 64 := by have := Ye hb; omega
   subst hil;clear hb
   repeat' (first|refine Zb (Zn (k:=3) rfl rfl (ZG _)) ?_|(first|refine st ?_|(apply B<;>intro hb<;>try cases hb)))
   exact Z8 rfl (ZG _) rfl
theorem ZhI {N:Nat} (hN:N<18446744073709551616):X1q (X1g (Xb (mem N))) (Xb (mem N))=N:=by
 have h1:∀ r∈Xb (mem N),0<=r/\r<=X1g (Xb (mem N)):=fun r hr=>by
  obtain⟨x,hx,rfl⟩:=Y0i.1 hr;have:=Z3C hx;exact⟨by omega,(Z9X _ (-1)).2 _ hr (by omega)⟩
 rw [X1q,Z82 _ 0 h1];refine YF fun i=>?_;rw [YO,Z9Y,<- Z15 hN];simp only [Y1E,Y2w,false_or];constructor
 . rintro ⟨r, hr, h⟩;obtain⟨x,hx,rfl⟩:=Y0i.1 hr;rw [<- h];simpa using hx
 . intro h;exact⟨(i:Int),Y0i.2 ⟨i,h,rfl⟩,by simp⟩
theorem Z5A (s:Nat) (hs:s<18446744073709551616):Xa Tryz.prog 53 [.val (.int .u64 (s:Int))] (· = XH s):=by
 refine Yp ok53 fun C hC=>?_;refine go ?_;refine Qe (Z90 s hs) ⟨Yt,Yt⟩ ?_;refine Qe (Zb4 (Xb (mem s)) false) ⟨ZG _,Yt⟩ ?_;rw [ZhI hs];refine go ?_;exact Z8 rfl (Z2 _) rfl
def raC (c:Cu):List PV := [.val (.int .u64 (c.1:Int)),.val (.int .u64 (c.2:Int))]
theorem Z5c (c:Cu):X6 (raC c):=⟨Yt,Yt,Yt⟩
theorem Z71 (c:Cu) (hc:XA c):Xa Tryz.prog 56 [.agg (raC c)] (· = cuP c):=by
 refine Yp ok56 fun C hC=>?_;refine Zq ?_;refine Za ?_;refine Z5 rfl rfl rfl ?_;refine go ?_;refine Qd (Z5A c.1 hc.1) ⟨Yt,Yt⟩ ?_;refine go ?_;refine Qd (Z5A c.2 hc.2) ⟨Yt,Yt⟩ ?_;refine go ?_;exact Z8 (r:=cuP c) rfl (Zx c) rfl
theorem Z5T (l:List Cu) (fl:Bool) (hl:∀ c∈l,XA c) (hlen:l.length<=1000000):Xa Tryz.prog 54 [.vec (l.map raC) fl] (· = .vec (l.map cuC) false):=by
 have hnl:(l.map raC).length=l.length:=by simp
 have hrp:∀ m,Xu m (l.map raC):=fun m=>Ze (fun _ h=>h.elim) _ (Zc Z5c l);refine Yp ok54 fun C hC=>?_
 repeat' (first|refine Zb (Zw (k:=3) rfl 2 (by decide)) ?_|(first|refine st ?_|(apply B<;>intro hb<;>try cases hb)))
 refine ZC hC (fun (i:Nat)=>i<=l.length) (fun i=>l.length-i) 1 (fun i => [(3,.own 0),(6,.vec (l.map raC) fl),(7,.val (.int .i64 (l.length:Int))),(8,Yv i)])
  (fun i => [(0,⟨2,(l.take i).map cuC⟩)]) (Y0l _) 0 (Y0l _) (fun i=>i) (fun _ _=>rfl) Zp
  ⟨⟨_,rfl,.own 0 (by decide)⟩,Qp (hrp _),⟨_,by rw [<- hnl]; rfl,.pure _ Yt⟩,Qp Yt,Yt⟩ ⟨Qs Yt,Yt⟩ ?_
 intro i hi;have hinc:IntKind.i64.wrap ((i:Int)+1)=((i+1:Nat):Int):=Y0v _ ⟨by omega,by omega⟩
 iterate 2 (first|refine st ?_|(apply B<;>intro hb<;>try cases hb))
 refine Zv rfl rfl rfl (fun hb=>?_) (fun hb=>?_)
 . have hil : i < l.length := by have := Y0u hb; omega
   have htake:l.take (i+1)=l.take i ++ [l[i]]:=by rw [YY,Y0c hil]; rfl
   clear hb;refine go ?_;refine Qo (Zo (xs:=l) rfl rfl i rfl hil rfl) ?_;refine go ?_;refine Qe (Z71 l[i] (hl _ (Y0j hil))) ⟨Z5c _,Yt⟩ ?_;refine go ?_
   refine ZH (Zt (k:=0) (m := [cuC l[i]]) (fl:=true) rfl rfl rfl (fun c hc=>by rw [Y0g] at hc; subst hc; rfl) rfl (by
    show (((l.take i).map cuC).length+1)*48<=_;rw [Y0f,Y0o]
    omega)) rfl rfl ?_
   refine go ?_
   refine⟨i+1,mv 0 2,by omega,by omega,fun i hi=>absurd hi (YL i),Zu rfl,
    ⟨⟨_,rfl,.own 0 (by decide)⟩,Qp (hrp _),Qp Yt,⟨_,by show some _=some _; rw [hinc],.pure _ Yt⟩,Yt⟩,
    ⟨⟨by decide,_,rfl,?_⟩,Yt⟩⟩
   show Xr _ _ ⟨2,(l.take i).map cuC ++ [cuC l[i]]⟩ ⟨2,(l.take (i+1)).map cuC⟩;rw [htake,Y0r];exact .same _ (by rw [<- Y1a,<- Y0r]; exact Z0 _)
 . have hil : i = l.length := by have := Ye hb; omega
   subst hil;clear hb;rw [Y0q]
   repeat' (first|refine Zb (Zn (k:=3) rfl rfl (Z0 _)) ?_|(first|refine st ?_|(apply B<;>intro hb<;>try cases hb)))
   exact Z8 rfl (Z0 _) rfl
theorem ZfM (a s:Nat):s &&& a=a↔a ||| s=s:=by
 constructor
 . intro h;refine YF fun i=>?_;have:=congrArg (·.testBit i) h;simp only [Y0z] at this;rw [Y00];cases h1:a.testBit i<;>cases h2:s.testBit i<;>simp_all
 . intro h;refine YF fun i=>?_;have:=congrArg (·.testBit i) h;simp only [Y00] at this;rw [Y0z];cases h1:a.testBit i<;>cases h2:s.testBit i<;>simp_all
theorem Za0 (c:Cu) (s:Nat) (hc:XA c) (hs:s<18446744073709551616):Xa Tryz.prog 51 [.agg (raC c),.val (.int .u64 (s:Int))] (· = .val (.bool (hoC c s))):=by
 refine Yp ok51 fun C hC=>?_;have h1:=Y28 s c.1 hs hc.1;have h2:=Y28 s c.2 hs hc.2;have e1:(((s &&& c.1:Nat):Int) == (c.1:Int))=decide (c.1 ||| s=s):=by
  rw [YO,Y22,Y2b,<- ZfM]; omega
 have e2:(((s &&& c.2:Nat):Int) == 0) = !decide (c.2 &&& s≠0):=by
  rw [Nat.and_comm s c.2,YO,Y22]; simp
 refine Zq ?_;refine Za ?_;refine Z5 rfl rfl rfl ?_;(refine go ?_;repeat' (apply B<;>intro hb<;>try cases hb))
 . rw [h1, e1] at *;rw [h2,e2] at hb;exact Z8 rfl Yt (XZ (by unfold hoC; simp_all))
 . rw [h1, e1] at *;rw [h2,e2] at hb;exact Z8 rfl Yt (XZ (by unfold hoC; simp_all))
 . rw [h1, e1] at hb;exact Z8 rfl Yt (XZ (by unfold hoC; simp_all))
theorem ZiF (a b:Nat) (ha:a<256) (hb:b<256):bits .and .u8 (a:Int) (b:Int)=((a &&& b:Nat):Int):=by
 have h1:(BitVec.ofInt 8 (a:Int)).toNat=a:=by rw [Y1v,Y1V]; exact Y1m (by omega)
 have h2:(BitVec.ofInt 8 (b:Int)).toNat=b:=by rw [Y1v,Y1V]; exact Y1m (by omega)
 show IntKind.u8.wrap ((BitVec.ofInt 8 (a:Int) &&& BitVec.ofInt 8 (b:Int)).toNat:Int)=_;rw [Y3M,h1,h2];have:a &&& b<=a:=Y1s;exact Y3G _ ⟨by omega,by omega⟩
theorem ZhJ {n k:Nat} {e:Env} {h:X1} {xs:List Cu} {r:PV} {b:Bx} (hk:e k=some r) (hb:h 0=some b) (hp:X2 b.elems) (hok:X5t xs r b):X49 n e h n (e.upd k (.vec ((X2B xs).map cuC) false)) (h.del 0):=by
 obtain⟨m,hm,hesz,htake,hr⟩:=hok;rcases hr with⟨rfl,rfl⟩|rfl
 . rw [Y0q] at htake;have:=Zn (n:=n) hk hb hp
   rwa [htake] at this
 . have := Z9L (n := n) hk hb (by omega) hp
   rwa [Y16,htake] at this
def X17 (s:List Cu) (i j:Nat):Bool:=emC (s.getD i (0,0))||(List.range j).any fun k=>decide (k≠i)&&(!emC (s.getD k (0,0))&&wiC (s.getD i (0,0)) (s.getD k (0,0)))
theorem Zbx (s:List Cu) (i j:Nat):X17 s i (j+1)=(X17 s i j||(decide (j≠i)&&(!emC (s.getD j (0,0))&&wiC (s.getD i (0,0)) (s.getD j (0,0))))):=by
 unfold X17;rw [Y40,Y2Y,Bool.or_assoc];simp
def X13 (s:List Cu) (i:Nat):List Cu:=((List.range i).filter fun i => !X17 s i s.length).map fun i=>s.getD i (0,0)
theorem Z72 (s:List Cu) (i:Nat):X13 s (i+1)=X13 s i++(if X17 s i s.length then [] else [s.getD i (0,0)]):=by
 unfold X13;rw [Y40,Y2d,Y0r];cases h:X17 s i s.length<;>simp [h]
theorem Ze2 (s:List Cu) (i:Nat):(X13 s i).length<=i:=by
 unfold X13;rw [Y0f];have:=Y1J (fun i => !X17 s i s.length) (List.range i)
 rwa [Y2D] at this
def X36 (l:List Cu):List Cu:=X13 (X2B (X1L l)) (X2B (X1L l)).length
theorem Z73 (l:List Cu) (fl:Bool) (hl:∀ c∈l,XA c) (hlen:l.length<=1000000):Xa Tryz.prog 189 [.vec (l.map cuC) fl] (· = .vec ((X36 l).map cuC) false):=by
 refine Yp ok189 fun C hC=>?_;refine go ?_;refine Z3n (Z5y l fl hlen) Z24 (Z0 _) rfl rfl ⟨Z0 _,Yt⟩ ?_;refine go ?_;refine Z1d rfl rfl (Zbu (ob:=0) l hl rfl) ?_;rintro n' r h' ⟨rfl,rfl,ys,hperm,hsort,rfl⟩;obtain rfl:=Z9U hperm hsort hl;have h64:∀ c∈X1L l,XA c:=ZcM hl;have hsl:(X1L l).length=l.length:=(Z2z l).length_eq;have hcl:(X2B (X1L l)).length<=l.length:=by rw [<- hsl]; exact (ZhC _).length_le
 have hc64:∀ c∈X2B (X1L l),XA c:=fun c hc=>h64 c ((Z8V _ c).1 hc);unfold X36;refine go ?_;refine Z1d rfl rfl ((Z7v (X1L l) h64 (by omega)).ispec (Z0 _) ⟨rfl,Yt,Yt⟩ rfl) ?_;rintro n' r h' ⟨rfl,b',-,hpb,hok,rfl⟩;refine Zb (ZhJ (k:=15) rfl rfl hpb hok) ?_;generalize X2B (X1L l)=s at hcl hc64 ⊢;have hsm:(s.map cuC).length=s.length:=by simp
 have hpl:∀ (l:List Cu) D,Xu D (l.map cuC):=fun l D=>Ze (fun _ h=>h.elim) _ (Z0 l)
 repeat' (first|refine Zb (Zw (k:=4) rfl 2 (by decide)) ?_|(first|refine st ?_|(apply B<;>intro hb<;>try cases hb)))
 refine ZC hC (fun i=>i<=s.length) (fun i=>s.length-i) 2 (fun i => [(3,.vec (s.map cuC) false),(4,.own 1),(16,.vec (s.map cuC) false),(17,.val (.int .i64 s.length)),(18,Yv i)])
  (fun i => [(1,⟨2,(X13 s i).map cuC⟩)]) (by omega) 0 (Y0l _) (fun i=>i) (fun _ _=>rfl) Zp
  ⟨Qp (Z0 s),⟨_,rfl,.own 1 (by decide)⟩,Qp (Z0 s),⟨_,by rw [<- hsm]; rfl,.pure _ Yt⟩,Qp Yt,Yt⟩
  ⟨Qs Yt,Yt⟩ ?_
 intro i hi;have hinc:IntKind.i64.wrap ((i:Int)+1)=((i+1:Nat):Int):=Y0v _ ⟨by omega,by omega⟩;have hts:=Z72 s i;have htl:=Ze2 s i
 iterate 2 (first|refine st ?_|(apply B<;>intro hb<;>try cases hb))
 refine Zv rfl rfl rfl (fun hb=>?_) (fun hb=>?_)
 . have hil : i < s.length := by have := Y0u hb; omega
   have hgi:s.getD i (0,0)=s[i]:=by simp [Y0b,hil]
   have hci:=hc64 _ (Y0j hil);clear hb;refine go ?_;refine Qo (Zo (xs:=s) (g:=cuC) rfl rfl i rfl hil rfl) ?_;rw [hgi] at hts;have hns:=fun j=>Zbx s i j;have hn0:X17 s i 0=emC s[i]:=by unfold X17; rw [hgi]; simp
   rw [hgi] at hns;generalize s[i]=c at hci hts hns hn0 ⊢
   iterate 7 (first|refine st ?_|(apply B<;>intro hb<;>try cases hb))
   refine Zb (Z1q (k:=6) (l:=cuC c) rfl rfl (Zi c)) ?_;refine go ?_;refine Qe (Z1k c hci) ⟨Zx c,Yt⟩ ?_;rw [<- hn0];refine gv ?_;refine ZB hC (fun j=>j<=s.length) (fun j=>s.length-j) 2 (fun j => [(3,.vec (s.map cuC) false),(4,.own 1),(5,Yv i),(6,.cp (cuC c)),(7,.val (.bool (X17 s i j))),(16,.vec (s.map cuC) false),(17,.val (.int .i64 s.length)),(18,Yv i),(25,.vec (s.map cuC) false),(26,.val (.int .i64 s.length)),(27,Yv j)])
    (fun _ => [(1,⟨2,(X13 s i).map cuC⟩)]) (by omega) 0 (Y0l _)
    ⟨⟨rfl,hpl _ _⟩,⟨rfl,show (1:Nat)<2 by decide⟩,⟨rfl,Yt⟩,⟨rfl,Zr _ _,Zr _ _,Yt⟩,⟨rfl,Yt⟩,⟨rfl,hpl _ _⟩,⟨rfl,Yt⟩,⟨rfl,Yt⟩,⟨rfl,hpl _ _⟩,⟨by rw [<- hsm]; rfl,Yt⟩,⟨rfl,Yt⟩,Yt⟩ ⟨⟨by decide,rfl,hpl _ _⟩,Yt⟩ ?_
   intro j hj;have hincj:IntKind.i64.wrap ((j:Int)+1)=((j+1:Nat):Int):=Y0v _ ⟨by omega,by omega⟩;have hnj:=hns j
   iterate 2 (first|refine st ?_|(apply B<;>intro hb<;>try cases hb))
   refine Zv rfl rfl rfl (fun hb=>?_) (fun hb=>?_)
   . have hjl : j < s.length := by have := Y0u hb; omega
     have hgj:s.getD j (0,0)=s[j]:=by simp [Y0b,hjl]
     have hcj:=hc64 _ (Y0j hjl);clear hb;have hfin:∀ v,X17 s i (j+1)=v->some (PV.val (.bool v))=some (PV.val (.bool (X17 s i (j+1)))):=fun v h=>by rw [h]
     rw [hgj] at hnj;refine go ?_;refine Qo (Zo (xs:=s) (g:=cuC) rfl rfl j rfl hjl rfl) ?_;generalize s[j]=d at hcj hnj ⊢;generalize X17 s i j=v at hnj ⊢;cases v
     . (refine go ?_;repeat' (apply B<;>intro hb<;>try cases hb))
       . have hne : j ≠ i := fun e => by rw [e] at hb; simp at hb
         rw [Y1G,Yw hne,Y1j] at hnj;refine Qe (Z1k d hcj) ⟨Zx d,Yt⟩ ?_;generalize emC d=v2 at hnj ⊢;cases v2
         . rw [Bool.not_false, Y1j] at hnj;refine go ?_;refine Qe (Z9S c d hci hcj) ⟨Zx c,Zx d,Yt⟩ ?_;refine gv ?_;exact⟨j+1,by omega,by omega,⟨⟨rfl,hpl _ _⟩,⟨rfl,show (1:Nat)<2 by decide⟩,⟨rfl,Yt⟩,⟨rfl,Zr _ _,Zr _ _,Yt⟩,⟨by rw [hnj]; rfl,Yt⟩,⟨rfl,hpl _ _⟩,⟨rfl,Yt⟩,⟨rfl,Yt⟩,⟨rfl,hpl _ _⟩,⟨rfl,Yt⟩,⟨by show some _=some _; rw [hincj],Yt⟩,Yt⟩,⟨⟨by decide,rfl,hpl _ _⟩,Yt⟩⟩
         . rw [Y3H, Y35] at hnj;(refine go ?_;repeat' (apply B<;>intro hb<;>try cases hb));exact⟨j+1,by omega,by omega,⟨⟨rfl,hpl _ _⟩,⟨rfl,show (1:Nat)<2 by decide⟩,⟨rfl,Yt⟩,⟨rfl,Zr _ _,Zr _ _,Yt⟩,⟨by rw [hnj]; rfl,Yt⟩,⟨rfl,hpl _ _⟩,⟨rfl,Yt⟩,⟨rfl,Yt⟩,⟨rfl,hpl _ _⟩,⟨rfl,Yt⟩,⟨by show some _=some _; rw [hincj],Yt⟩,Yt⟩,⟨⟨by decide,rfl,hpl _ _⟩,Yt⟩⟩
       . have hne : j = i := by
          have h:=hb;simp at h;omega
         rw [Y1G,Y0w (fun h=>h hne),Y35] at hnj;exact⟨j+1,by omega,by omega,⟨⟨rfl,hpl _ _⟩,⟨rfl,show (1:Nat)<2 by decide⟩,⟨rfl,Yt⟩,⟨rfl,Zr _ _,Zr _ _,Yt⟩,⟨by rw [hnj]; rfl,Yt⟩,⟨rfl,hpl _ _⟩,⟨rfl,Yt⟩,⟨rfl,Yt⟩,⟨rfl,hpl _ _⟩,⟨rfl,Yt⟩,⟨by show some _=some _; rw [hincj],Yt⟩,Yt⟩,⟨⟨by decide,rfl,hpl _ _⟩,Yt⟩⟩
     . rw [Y2R] at hnj;refine go ?_;exact⟨j+1,by omega,by omega,⟨⟨rfl,hpl _ _⟩,⟨rfl,show (1:Nat)<2 by decide⟩,⟨rfl,Yt⟩,⟨rfl,Zr _ _,Zr _ _,Yt⟩,⟨by rw [hnj]; rfl,Yt⟩,⟨rfl,hpl _ _⟩,⟨rfl,Yt⟩,⟨rfl,Yt⟩,⟨rfl,hpl _ _⟩,⟨rfl,Yt⟩,⟨by show some _=some _; rw [hincj],Yt⟩,Yt⟩,⟨⟨by decide,rfl,hpl _ _⟩,Yt⟩⟩
   . have hjl : j = s.length := by have := Ye hb; omega
     subst hjl;clear hb;generalize X17 s i s.length=v at hts ⊢;cases v
     . rw [Y6 (by decide)] at hts;refine go ?_
       refine ZH (Zt (k:=1) (m := [cuC c]) (fl:=true) rfl rfl rfl (fun q hq=>by rw [Y0g] at hq; subst hq; rfl) rfl (by
        show (((X13 s i).map cuC).length+1)*48<=_
        rw [Y0f];omega)) rfl rfl ?_
       refine go ?_;refine⟨i+1,mv 1 2,by omega,by omega,fun i hi=>absurd hi (YL i),Zu rfl,⟨Qp (Z0 s),⟨_,rfl,.own 1 (by decide)⟩,Qp (Z0 s),Qp Yt,⟨_,by show some _=some _; rw [hinc],.pure _ Yt⟩,Yt⟩,⟨⟨by decide,_,rfl,?_⟩,Yt⟩⟩;show Xr _ _ ⟨2,(X13 s i).map cuC ++ [cuC c]⟩ ⟨2,(X13 s (i+1)).map cuC⟩;rw [hts,Y0r];exact .same _ (by rw [<- Y1a,<- Y0r]; exact Z0 _)
     . rw [Y5 rfl, Y0p] at hts;refine go ?_;exact⟨i+1,fun i=>i,by omega,by omega,fun _ _=>rfl,Zp,⟨Qp (Z0 s),Qw 1,Qp (Z0 s),Qp Yt,⟨_,by show some _=some _; rw [hinc],.pure _ Yt⟩,Yt⟩,⟨⟨by decide,_,rfl,by rw [hts]; exact .same _ (Z0 _)⟩,Yt⟩⟩
 . have hil : i = s.length := by have := Ye hb; omega
   subst hil;clear hb
   repeat' (first|refine Zb (Zn (k:=4) rfl rfl (Z0 _)) ?_|(first|refine st ?_|(apply B<;>intro hb<;>try cases hb)))
   exact Z8 rfl (Z0 _) rfl
end
section
open Go.RowKit
theorem Z84:∀ (l:List Cu) (p:Cu),(p :: l).Pairwise (fun a b=>X1V a<=X1V b)->(∀ c∈p :: l,XA c)->p ∉ X2o p l/\(X2o p l).Nodup
 | [],p,_,_=>⟨by simp [X2o],by simp [X2o]⟩
 | x :: r, p, hs, h64 => by
   obtain⟨hp,hs2⟩:=Y10.1 hs;obtain⟨i1,i2⟩:=Z84 r x hs2 fun c hc=>h64 c (YD _ hc);cases he:eqC x p with
   | true =>
     obtain rfl:=(Zbs _ _).1 he;rw [Z6X he];exact⟨i1,i2⟩
   | false =>
     rw [Z6Y he];refine⟨fun hm=>?_,Y2X.2 ⟨i1,i2⟩⟩;have hne:p≠x:=fun e=>by rw [e,ZhB] at he; cases he
     rcases Y9.1 hm with h|h
     . exact hne h
     . have hr : p ∈ r := (Z6i x r).subset h;have k1:=hp x (Y0t ..);have k2:=(Y10.1 hs2).1 p hr;exact hne (ZcL (h64 p (Y0t ..)) (h64 x (by simp)) (Nat.le_antisymm k1 k2))
theorem Z85 {l:List Cu} (hl:∀ c∈l,XA c):(X2B (X1L l)).Nodup:=by
 have hs:=Z3S l;have h64:=ZcM hl;cases h:X1L l with
 | nil=>exact Y3y
 | cons a r =>
   rw [h] at hs h64;exact Y2X.2 (Z84 r a hs h64)
theorem X5J {s:List Cu} {i:Nat} (h:i<s.length):s.getD i (0,0)=s[i]:=by simp [Y0b,h]
theorem ZcP (s:List Cu) (i:Nat):X17 s i s.length=false↔emC (s.getD i (0,0))=false/\∀ k,k<s.length->k≠i->emC (s.getD k (0,0))=false->wiC (s.getD i (0,0)) (s.getD k (0,0))=false:=by
 unfold X17;rw [Y3h,Y24];refine Y2y fun _=>?_;constructor
 . intro h k hk hne he;have:=h k (Y1t.2 hk);rw [Yw hne,he] at this;simpa using this
 . intro h k hk;by_cases hne:k=i
   . simp [hne]
   . cases he : emC (s.getD k (0, 0)) with
     | true=>simp
     | false=>rw [h k (Y1t.1 hk) hne he]; simp
theorem Ze3 {s:List Cu} {n:Nat} (hn:n<=s.length) {c:Cu} (h:c∈X13 s n):c∈s/\emC c=false:=by
 obtain⟨i,hi,rfl⟩:=Y0i.1 h;obtain⟨h1,h2⟩:=Y18.1 hi;rw [Y1t] at h1;have h3:=((ZcP s i).1 (by simpa using h2)).1;exact⟨by rw [X5J (show i<s.length by omega)]; exact Y0j _,h3⟩
theorem Z2R {l:List Cu} {c:Cu} (h:c∈X36 l):c∈l/\emC c=false:=by
 obtain⟨h1,h2⟩:=Ze3 (Y0m _) h;exact⟨(Z2z l).mem_iff.1 ((Z8V _ _).1 h1),h2⟩
theorem Zks {a b:Cu} (he:emC a=false) (h:wiC a b=true):X48 b.1 a.1/\X48 b.2 a.2:=by
 unfold wiC at h;rw [he,Y1G,Y0k] at h;exact⟨(Z4h _ _).1 (Y0u h.1),(Z4h _ _).1 (Y0u h.2)⟩
theorem ZiG {a b:Nat} (h:X48 a b):a<=b:=by
 have:a ||| b=b:=(Z4h _ _).2 h
 rw [<- this];exact YZ
theorem ZhK {s:List Cu} (hn:s.Nodup):∀ (m i:Nat) (hi:i<s.length),s[i].1+s[i].2<=m->emC s[i]=false->∃ d∈X13 s s.length,X48 d.1 s[i].1/\X48 d.2 s[i].2:=by
 intro m;have key:∀ m,(∀ (i:Nat) (hi:i<s.length),s[i].1+s[i].2<m->emC s[i]=false->∃ d∈X13 s s.length,X48 d.1 s[i].1/\X48 d.2 s[i].2)->∀ (i:Nat) (hi:i<s.length),s[i].1+s[i].2<=m->emC s[i]=false->∃ d∈X13 s s.length,X48 d.1 s[i].1/\X48 d.2 s[i].2:=by
  intro m ih i hi hm he;cases hnd:X17 s i s.length with
  | false=>exact⟨s[i],Y0i.2 ⟨i,Y18.2 ⟨Y1t.2 hi,by rw [hnd]; rfl⟩,X5J hi⟩,Z9W _,Z9W _⟩
  | true =>
    have:∃ k,∃ hk:k<s.length,k≠i/\emC s[k]=false/\wiC s[i] s[k]=true:=by
     apply YV;intro hno
     have:X17 s i s.length=false:=(ZcP s i).2 ⟨by rw [X5J hi]; exact he,fun k hk hne hek=>by
      rw [X5J hk] at hek ⊢;rw [X5J hi]
      exact tb2 fun hw=>hno ⟨k,hk,hne,hek,hw⟩⟩
     rw [hnd] at this; cases this
    obtain⟨k,hk,hne,hek,hw⟩:=this;obtain⟨s1,s2⟩:=Zks he hw;have l1:=ZiG s1;have l2:=ZiG s2;have hlt:s[k].1+s[k].2<m:=by
     apply YV;intro hge;have e1:s[k].1=s[i].1:=by omega
     have e2:s[k].2=s[i].2:=by omega
     have e3:s[k]=s[i]:=Y4f e1 e2;have hp:=Y2I.1 hn;rcases Y4n k i with h|h|h
     . exact hp k i hk hi h e3
     . exact hne h
     . exact hp i k hi hk h e3.symm
    obtain⟨d,d1,d2,d3⟩:=ih k hk hlt hek;exact⟨d,d1,fun j hj=>s1 j (d2 j hj),fun j hj=>s2 j (d3 j hj)⟩
 induction m with
 | zero=>exact key 0 fun i hi h=>absurd h (YL _)
 | succ m ih=>exact key (m+1) fun i hi h=>ih i hi (by omega)
theorem Zjk {c d:Cu} (h1:X48 d.1 c.1) (h2:X48 d.2 c.2) {S:Nat} (h:hoC c S=true):hoC d S=true:=by
 rw [Z1a] at h ⊢;exact⟨fun i hi=>h.1 i (h1 i hi),fun i hi=>h.2 i (h2 i hi)⟩
theorem Z91 {l:List Cu} (hl:∀ c∈l,XA c) (S:Nat):soC (X36 l) S=soC l S:=by
 rw [YO];unfold soC;rw [Y01,Y01];constructor
 . rintro ⟨c, hc, hs⟩;exact⟨c,(Z2R hc).1,hs⟩
 . rintro ⟨c, hc, hs⟩;have he:emC c=false:=tb2 fun he=>by rw [Z2E he] at hs; cases hs
   obtain⟨i,hi,rfl⟩:=Y15 ((Z8V _ _).2 ((Z2z l).mem_iff.2 hc));obtain⟨d,d1,d2,d3⟩:=ZhK (Z85 hl) _ i hi (Y0m _) he;exact⟨d,d1,Zjk d2 d3 hs⟩
theorem Z86 (s:List Cu):∀ n,n<=s.length->(X13 s n).Sublist (s.take n)
 | 0,_=>by simp [X13]
 | n + 1, h => by
   rw [Z72,YY,Y0c (show n<s.length by omega)];refine (Z86 s n (by omega)).append ?_;rw [X5J (show n<s.length by omega)]
   split
   . exact List.nil_sublist _
   . exact Y2E _
theorem Z5B {l:List Cu} (hl:∀ c∈l,XA c):(X36 l).Nodup:=by
 have:=Z86 (X2B (X1L l)) _ (Y0m _);rw [Y0q] at this;exact (Z85 hl).sublist this
theorem Xg {a b:Nat}:a ||| b=b↔∀ i,a.testBit i=true->b.testBit i=true:=by
 constructor
 . intro h i hi;rw [<- h,Y00,hi,Y2R]
 . intro h;refine YF fun i=>?_;rw [Y00];cases hi:a.testBit i with
   | true=>rw [h i hi]; rfl
   | false=>rw [Y1G]
theorem ZhL {a b:Nat}:a &&& b=0↔∀ i,a.testBit i=true->b.testBit i=false:=by
 constructor
 . intro h i hi;have h1:=congrArg (·.testBit i) h;simp only [Y0z,hi,Y1j,Y1E] at h1;exact h1
 . intro h;refine YF fun i=>?_;rw [Y0z,Y1E];cases hi:a.testBit i with
   | true=>rw [h i hi]; rfl
   | false=>rw [Y35]
structure RU where
 rev:Bool
 cu:Cu
 tg:Nat
 og:Nat
structure PB where
 n:Nat
 l:List Pr
 st:Nat
 rs:List RU
 nv:List Cu
 gl:List Cu
def mkN (n:Nat):Nat:=2*2 ^ n-2
theorem Z2o (n i:Nat):(mkN n).testBit i=(decide (1<=i)&&decide (i<=n)):=by
 have e:mkN n=2*(2 ^ n-1):=by unfold mkN; have:=Y2U n; omega
 rw [e];cases i with
 | zero=>simp [Y2s,Nat.mul_mod_right]
 | succ i =>
   rw [Y2K,show 2*(2 ^ n-1) / 2=2 ^ n-1 by omega,Y3n];simp;omega
theorem Z5d {n:Nat} (h:n<=63):mkN n<18446744073709551616:=by
 have:2 ^ n<=2 ^ 63:=YX (by decide) h;unfold mkN;omega
structure InC (n:Nat) (c:Cu):Prop where
 y:c.1 ||| mkN n=mkN n
 n:c.2 ||| mkN n=mkN n
 e:emC c=false
def InM (m:Nat) (c:Cu):Prop:=c.1 ||| m=m/\c.2 ||| m=m
structure X3M (n:Nat) (r:RU):Prop where
 cu:InC n r.cu
 m:InM 62 r.cu
 tg:1<=r.tg/\r.tg<=n/\r.tg<=5
 rv:r.rev=true->r.cu=(0,0)
structure Xz (t:PB):Prop where
 n:1<=t.n/\t.n<=63
 good:X3X t.l
 lk:∀ p∈t.l,p.1<=t.n/\p.2<=t.n/\p.1<=5/\p.2<=5
 st:t.st ||| mkN t.n=mkN t.n
 rl:t.rs.length<=64
 rs:∀ r∈t.rs,X3M t.n r
 nl:t.nv.length<=64
 nv:∀ c∈t.nv,InC t.n c/\InM 62 c
 gk:t.gl.length<=64
 gl:∀ c∈t.gl,InC t.n c/\InM 62 c
 sg:soC t.nv (clo t.l t.st)=false
theorem InC.lt {n:Nat} {c:Cu} (h:InC n c) (hn:n<=63):XA c:=by
 have h1:c.1<=mkN n:=by rw [<- h.y]; exact YZ
 have h2:c.2<=mkN n:=by rw [<- h.n]; exact YZ
 have:=Z5d hn;exact⟨by omega,by omega⟩
noncomputable def sen (l:List Pr) (r:Nat):Nat:=abv l r ||| 2 ^ r
theorem Z4G {l:List Pr} (hl:XL l) (r a:Nat):(sen l r).testBit a=true↔Up l a r \/ a=r:=by
 unfold sen;rw [Y00,YP,Z6H hl,YK,Y0n,eq_comm (a:=r)]
theorem ZcQ (l:List Pr) (hl:XL l) {r:Nat} (hr:r<64):sen l r<18446744073709551616:=by
 refine Nat.lt_pow_two_of_testBit (n:=64) _ fun i hi=>?_;refine YB.2 fun hb=>?_;rcases (Z4G hl r i).1 hb with h1|h1
 . have:=(h1.lt hl).1; omega
 . omega
theorem Z92 {l:List Pr} (hl:XL l) {s:Nat} (hs:s<18446744073709551616) (r:Nat):(clo l s).testBit r=true↔∃ a,s.testBit a=true/\1<=a/\(sen l r).testBit a=true:=by
 rw [Zfz s r hs];constructor
 . rintro ⟨a, h1, h2, h3⟩;exact⟨a,h1,h2,(Z4G hl r a).2 ((Z6Q hl a r).1 h3 |>.imp (fun h=>h) fun h=>h.symm)⟩
 . rintro ⟨a, h1, h2, h3⟩;exact⟨a,h1,h2,(Z6Q hl a r).2 ((Z4G hl r a).1 h3 |>.imp (fun h=>h) fun h=>h.symm)⟩
noncomputable def exN (l:List Pr) (n:Nat) (rs:List Nat):Nat:=rs.foldl (fun o r=>o ||| (sen l r &&& mkN n)) 0
noncomputable def exX (l:List Pr) (n r:Nat) (x:List Cu):List Cu:=x.flatMap fun y=>(mem (sen l r &&& mkN n)).map fun a=>(y.1 ||| 2 ^ a,y.2)
noncomputable def exF (l:List Pr) (n:Nat) (rs:List Nat) (x:List Cu):List Cu:=rs.foldl (fun x r=>X36 (exX l n r x)) x
noncomputable def exL (l:List Pr) (n:Nat) (c:Cu):List Cu:=exF l n (mem c.1) [(0,exN l n (mem c.2))]
theorem Z74 (l:List Pr) (n:Nat) (i:Nat):∀ (rs:List Nat) (o:Nat),(rs.foldl (fun o r=>o ||| (sen l r &&& mkN n)) o).testBit i=true↔o.testBit i=true \/ ∃ r∈rs,(sen l r).testBit i=true/\(mkN n).testBit i=true
 | [],o=>by simp
 | r :: rs, o => by
   rw [Y19,Z74 l n i rs,Y00,YP,Y0z,Y0k];simp only [Y9,exists_eq_or_imp,or_assoc]
theorem Z3T {a n:Nat} (hn:n<=63):a &&& mkN n<18446744073709551616:=Y02 Y29 (Z5d hn)
theorem Zkt {l:List Pr} {n r:Nat} (hn:n<=63) {x:List Cu} (hx:∀ c∈x,XA c):∀ c∈exX l n r x,XA c:=fun c hc=>by
 obtain⟨y,hy,hc⟩:=Y1d.1 hc;obtain⟨a,ha,rfl⟩:=Y0i.1 hc;exact⟨Z1X (hx y hy).1 (ZV (Z3C ha)),(hx y hy).2⟩
theorem Zku {l:List Pr} {n r:Nat} (hn:n<=63) (x:List Cu) (S:Nat):soC (exX l n r x) S=true↔soC x S=true/\∃ a,(sen l r).testBit a=true/\(mkN n).testBit a=true/\S.testBit a=true:=by
 unfold soC exX;rw [List.any_flatMap,Y01,Y01];constructor
 . rintro ⟨y, hy, h⟩;rw [List.any_map,Y01] at h;obtain⟨a,ha,h⟩:=h;have h2:hoC (y.1 ||| 2 ^ a,y.2) S=true:=h;rw [Z83,Y0k] at h2;have h3:=(Z15 (Z3T hn)).1 ha;rw [Y0z,Y0k] at h3;exact⟨⟨y,hy,h2.1⟩,a,h3.1,h3.2,h2.2⟩
 . rintro ⟨⟨y, hy, h1⟩, a, h2, h3, h4⟩;refine⟨y,hy,?_⟩;rw [List.any_map,Y01];refine⟨a,(Z15 (Z3T hn)).2 (by rw [Y0z,h2,h3]; rfl),?_⟩;show hoC (y.1 ||| 2 ^ a,y.2) S=true;rw [Z83,h1,h4]; rfl
theorem ZiH {l:List Pr} {n:Nat} (hn:n<=63) (S:Nat):∀ (rs:List Nat) (x:List Cu),(∀ c∈x,XA c)->(soC (exF l n rs x) S=true↔soC x S=true/\∀ r∈rs,∃ a,(sen l r).testBit a=true/\(mkN n).testBit a=true/\S.testBit a=true)
 | [],x,hx=>by simp [exF]
 | r :: rs, x, hx => by
   have h1:=Zkt (l:=l) (r:=r) hn hx;have ih:=ZiH (l:=l) hn S rs (X36 (exX l n r x)) fun c hc=>h1 c (Z2R hc).1;rw [Z91 h1,Zku hn] at ih;rw [show exF l n (r :: rs) x=exF l n rs (X36 (exX l n r x)) from rfl,ih];simp only [Y9,forall_eq_or_imp,and_assoc]
theorem ZiI {l:List Pr} (hl:XL l) {n:Nat} (hn:n<=63) {c:Cu} (hc:InC n c) {S:Nat} (hS:S ||| mkN n=mkN n):soC (exL l n c) S=hoC c (clo l S):=by
 have hS64:S<18446744073709551616:=by
  have h1:S<=mkN n:=by rw [<- hS]; exact YZ
  have:=Z5d hn;omega
 have hin:=Xg.1 hS;have hc64:=hc.lt hn;have hN64:exN l n (mem c.2)<18446744073709551616:=by
  have:∀ (rs:List Nat) (o:Nat),o<18446744073709551616->rs.foldl (fun o r=>o ||| (sen l r &&& mkN n)) o<18446744073709551616:=by
   intro rs
   induction rs with
   | nil=>exact fun o h=>h
   | cons r rs ih=>exact fun o h=>ih _ (Z1X h (Z3T hn))
  exact this _ 0 (by decide)
 rw [YO];unfold exL;rw [ZiH hn S _ _ (fun q hq=>by rw [Y0g] at hq; subst hq; exact⟨(by decide:(0:Nat)<18446744073709551616),hN64⟩),Z8Y,Z1a,Z1a];constructor
 . rintro ⟨⟨-, h1⟩, h2⟩;refine⟨fun r hr=>?_,fun r hr=>?_⟩
   . obtain ⟨a, ha, hm, hs⟩ := h2 r ((Z15 hc64.1).2 hr);rw [Z2o,Y0k,Y0n,Y0n] at hm;exact (Z92 hl hS64 r).2 ⟨a,hs,hm.1,ha⟩
   . refine YB.2 fun hb => ?_;obtain⟨a,hs,ha1,ha⟩:=(Z92 hl hS64 r).1 hb;have h3:=h1 a ((Z74 l n a (mem c.2) 0).2 (.inr ⟨r,(Z15 hc64.2).2 hr,ha,hin a hs⟩));rw [hs] at h3; cases h3
 . rintro ⟨h1, h2⟩;refine⟨⟨fun i hi=>by simp at hi,fun a ha=>?_⟩,fun r hr=>?_⟩
   . rcases (Z74 l n a (mem c.2) 0).1 ha with h3 | ⟨r, hr, h3, h4⟩
     . simp at h3
     . refine YB.2 fun hs => ?_;rw [Z2o,Y0k,Y0n,Y0n] at h4;have h5:=h2 r ((Z15 hc64.2).1 hr);rw [(Z92 hl hS64 r).2 ⟨a,hs,h4.1,h3⟩] at h5;cases h5
   . obtain ⟨a, hs, ha1, ha⟩ := (Z92 hl hS64 r).1 (h1 r ((Z15 hc64.1).1 hr));exact⟨a,ha,hin a hs,hs⟩
def Dis (l:List Cu):Prop:=(∀ c∈l,emC c=false)/\l.Pairwise fun a b=>∀ S,hoC a S=true->hoC b S=false
theorem ZcR {l:List Cu} {d:Cu} (h:Dis l) (hd:emC d=false) (hx:∀ S,hoC d S=true->soC l S=false):Dis (l ++ [d]):=by
 refine⟨fun c hc=>(Y0h.1 hc).elim (h.1 c) fun e=>by rw [Y0g] at e; subst e; exact hd,?_⟩;rw [Y1X];refine⟨h.2,Y2W ..,fun a ha b hb S hs=>?_⟩;rw [Y0g] at hb;subst hb;refine YB.2 fun hS=>?_;have:=hx S hS;have h2:soC l S=true:=Y01.2 ⟨a,ha,hs⟩;rw [this] at h2; cases h2
theorem Z93 {c:Cu} {S:Nat} (h:hoC c S=true):emC c=false:=YB.2 fun he=>by rw [Z2E he S] at h; cases h
theorem ZhM {b a0:Cu} {l:List Nat} {z:Cu×List Cu} (h1:∀ S,hoC z.1 S=(hoC a0 S&&X2z b l S)) (h2:∀ S,soC z.2 S=(hoC a0 S && !X2z b l S)) (r:Nat) (hz:emC z.1=false) (hD:Dis z.2):Dis (X2b b z r).2:=by
 have hxx:∀ {d:Cu},(∀ S,hoC d S=true->hoC z.1 S=true)->∀ S,hoC d S=true->soC z.2 S=false:=fun {d} hd S hS=>by
  have h3:=hd S hS;rw [h1,Y0k] at h3;rw [h2,h3.2,Y3H,Y47]
 have hself:=Z4i hz;unfold X2b
 split
 . rename_i h;rw [Y0k,Y12] at h;have hd:∀ S,hoC (z.1.1,z.1.2 ||| 2 ^ r) S=(hoC z.1 S && !S.testBit r):=fun S=>ZhF;refine ZcR hD (Z93 (S:=z.1.1) (by rw [hd,hself,h.2]; rfl)) (hxx fun S hS=>?_);rw [hd,Y0k] at hS;exact hS.1
 . split
   . rename_i _ h;rw [Y0k,Y12] at h;have hd:∀ S,hoC (z.1.1 ||| 2 ^ r,z.1.2) S=(hoC z.1 S&&S.testBit r):=fun S=>Z83;refine ZcR hD (Z93 (S:=z.1.1 ||| 2 ^ r) ?_) (hxx fun S hS=>?_)
     . rw [Z1a];refine⟨fun i hi=>hi,fun i hi=>?_⟩;rw [Y00,Y3h];refine⟨((Z1a _ _).1 hself).2 i hi,?_⟩;rw [YK];refine Y0w fun e=>?_;subst e;rw [h.2] at hi; cases hi
     . rw [hd, Y0k] at hS;exact hS.1
   . exact hD
theorem ZhN {a b:Cu} (ha:emC a=false) (hab:emC (X16 a b)=false):∀ l:List Nat,emC (X2w a b l).1=false/\Dis (X2w a b l).2:=by
 have hS0:=Z4i hab;rw [Z5z,Y0k] at hS0;have hd:b.1 &&& b.2=0:=by
  apply YV;intro hn;have:emC b=true:=by unfold emC; exact Yw hn
  rw [Z2E this] at hS0;cases hS0.2
 have hat:∀ l:List Nat,X2z b l (X16 a b).1=true:=fun l=>by
  unfold X2z;rw [YI];intro r _;have h3:=(Z1a _ _).1 hS0.2;cases e1:b.1.testBit r<;>cases e2:b.2.testBit r
  . rfl
  . rw [h3.2 r e2]; rfl
  . rw [h3.1 r e1]; rfl
  . have:=h3.1 r e1; rw [h3.2 r e2] at this; cases this
 have main:∀ (l pre:List Nat) (z:Cu×List Cu),z=X2w a b pre->emC z.1=false/\Dis z.2->emC (l.foldl (X2b b) z).1=false/\Dis (l.foldl (X2b b) z).2:=by
  intro l
  induction l with
  | nil=>exact fun _ _ _ h=>h
  | cons r l ih =>
    rintro pre z rfl ⟨hz,hD⟩;have hlaw:=Z8X a b hd pre;refine ih (pre ++ [r]) (X2b b (X2w a b pre) r) (by unfold X2w; rw [Y1u]; rfl) ⟨?_,ZhM hlaw.1 hlaw.2 r hz hD⟩;have hlaw2:=(Z8X a b hd (pre ++ [r])).1 (X16 a b).1;rw [hS0.1,hat] at hlaw2;have e:(X2w a b (pre ++ [r])).1=(X2b b (X2w a b pre) r).1:=by unfold X2w; rw [Y1u]; rfl
    rw [e] at hlaw2;exact Z93 hlaw2
 intro l;exact main l [] (a,[]) rfl ⟨ha,(fun c hc=>by cases hc),List.Pairwise.nil⟩
theorem ZhO {a:Cu} (ha:emC a=false) (b:Cu):Dis (X25 a b):=by
 unfold X25;rw [Y6 (by rw [ha]; decide)];unfold meC;cases hm:emC (X16 a b) with
 | true =>
   rw [Y5 rfl,Y6 (by decide)];exact⟨fun c hc=>by rw [Y0g] at hc; subst hc; exact ha,Y2W ..⟩
 | false=>exact (ZhN ha hm _).2
theorem Z94 {m r:Nat} {c:Cu} (h:InM m c) (hr:m.testBit r=true):InM m (c.1 ||| 2 ^ r,c.2):=⟨Xg.2 fun i hi=>by
 rw [Y00,YP,YK,Y0n] at hi;rcases hi with hi|rfl
 . exact Xg.1 h.1 i hi
 . exact hr,h.2⟩
theorem ZcS {m r:Nat} {c:Cu} (h:InM m c) (hr:m.testBit r=true):InM m (c.1,c.2 ||| 2 ^ r):=⟨h.1,Xg.2 fun i hi=>by
 rw [Y00,YP,YK,Y0n] at hi;rcases hi with hi|rfl
 . exact Xg.1 h.2 i hi
 . exact hr⟩
theorem Zjl {m:Nat} {a b:Cu} (ha:InM m a) (hb:InM m b) (l:List Nat):InM m (X2w a b l).1/\∀ c∈(X2w a b l).2,InM m c:=by
 have main:∀ (l:List Nat) (z:Cu×List Cu),(InM m z.1/\∀ c∈z.2,InM m c)->InM m (l.foldl (X2b b) z).1/\∀ c∈(l.foldl (X2b b) z).2,InM m c:=by
  intro l
  induction l with
  | nil=>exact fun z h=>h
  | cons r l ih =>
    intro z hz;refine ih _ ?_;unfold X2b
    split
    . rename_i h;rw [Y0k] at h;have hr:=Xg.1 hb.1 r h.1;exact⟨Z94 hz.1 hr,fun c hc=>(Y0h.1 hc).elim (hz.2 c) fun e=>by rw [Y0g] at e; subst e; exact ZcS hz.1 hr⟩
    . split
      . rename_i _ h;rw [Y0k] at h;have hr:=Xg.1 hb.2 r h.1;exact⟨ZcS hz.1 hr,fun c hc=>(Y0h.1 hc).elim (hz.2 c) fun e=>by rw [Y0g] at e; subst e; exact Z94 hz.1 hr⟩
      . exact hz
 exact main l (a,[]) ⟨ha,fun c hc=>by cases hc⟩
theorem Zjm {m:Nat} {a b:Cu} (ha:InM m a) (hb:InM m b):∀ c∈X25 a b,InM m c:=by
 intro c hc;unfold X25 at hc
 split at hc
 . cases hc
 . split at hc
   . exact (Zjl ha hb _).2 c hc
   . rw [Y0g] at hc; subst hc; exact ha
def X3I (out:List Cu) (b:Cu):List Cu:=out.flatMap fun x=>X25 x b
def X34 (l:List Cu) (c:Cu):List Cu:=l.foldl X3I (if emC c then [] else [c])
theorem Zjn {b:Cu} (hb:XA b) (out:List Cu) (S:Nat):soC (X3I out b) S=(soC out S && !hoC b S):=by
 unfold X3I
 induction out with
 | nil=>rfl
 | cons x out ih =>
   rw [Y1Q,Z3q];have e:soC (X25 x b++out.flatMap fun x=>X25 x b) S=(soC (X25 x b) S||soC (out.flatMap fun x=>X25 x b) S):=Y2Y;rw [e,ih,Z6k hb];cases hoC x S<;>cases soC out S<;>cases hoC b S<;>rfl
theorem Zjo {l:List Cu} (hl:∀ b∈l,XA b) (c:Cu) (S:Nat):soC (X34 l c) S=(hoC c S && !soC l S):=by
 have main:∀ (l:List Cu),(∀ b∈l,XA b)->∀ out:List Cu,soC (l.foldl X3I out) S=(soC out S && !soC l S):=by
  intro l
  induction l with
  | nil=>intro _ out; simp [soC]
  | cons b l ih =>
    intro hl out;rw [Y19,ih (fun x hx=>hl x (YD _ hx)),Zjn (hl b (Y0t ..)),Z3q];cases soC out S<;>cases hoC b S<;>cases soC l S<;>rfl
 unfold X34;rw [main l hl];cases he:emC c with
 | true=>rw [Y5 rfl,Z2E he]; rfl
 | false=>rw [Y6 (by decide),Z8Y]
theorem ZcT {out:List Cu} (h:Dis out) {b:Cu} (hb:XA b):Dis (X3I out b):=by
 have hsub:∀ {x c:Cu} {S:Nat},c∈X25 x b->hoC c S=true->hoC x S=true:=fun {x c S} hc hs=>by
  have h2:soC (X25 x b) S=true:=Y01.2 ⟨c,hc,hs⟩;rw [Z6k hb,Y0k] at h2;exact h2.1
 unfold X3I;obtain⟨h1,h2⟩:=h
 induction out with
 | nil=>exact⟨(fun c hc=>by cases hc),List.Pairwise.nil⟩
 | cons x out ih =>
   rw [Y10] at h2;have ih:=ih (fun c hc=>h1 c (YD _ hc)) h2.2;have hx:=ZhO (h1 x (Y0t ..)) b;rw [Y1Q];refine⟨fun c hc=>(Y0h.1 hc).elim (hx.1 c) (ih.1 c),Y1X.2 ⟨hx.2,ih.2,fun c hc d hd S hs=>?_⟩⟩;obtain⟨y,hy,hd⟩:=Y1d.1 hd;refine YB.2 fun hS=>?_;have h3:=h2.1 y hy S (hsub hc hs);rw [hsub hd hS] at h3; cases h3
theorem Zby {m:Nat} {out:List Cu} (h:∀ c∈out,InM m c) {b:Cu} (hb:InM m b):∀ c∈X3I out b,InM m c:=fun c hc=>by
 obtain⟨x,hx,hc⟩:=Y1d.1 hc;exact Zjm (h x hx) hb c hc
theorem Zbz {l:List Cu} (h:Dis l) {m N:Nat} (hin:∀ c∈l,InM m c) (hN:m<N):l.length<=N:=by
 have hnd:(l.map (·.1)).Nodup:=by
  rw [Y1f,Y1o];refine Y1x (fun {a b} ha hb hab e=>?_) h.2;have h1:=hab a.1 (Z4i (h.1 a ha));rw [e,Z4i (h.1 b hb)] at h1; cases h1
 have:=Z2M N _ hnd fun x hx=>by
  obtain⟨c,hc,rfl⟩:=Y0i.1 hx;have:c.1<=m:=by rw [<- (hin c hc).1]; exact YZ
  omega
 rwa [Y0f] at this
theorem ZfN {m N:Nat} (hN:m<N) (hm:m<18446744073709551616):∀ (l:List Cu),(∀ b∈l,InM m b)->∀ out:List Cu,Dis out->(∀ c∈out,InM m c)->Dis (l.foldl X3I out)/\∀ c∈l.foldl X3I out,InM m c
 | [],_,out,h1,h2=>⟨h1,h2⟩
 | b :: l, hl, out, h1, h2 => by
   have hb:=hl b (Y0t ..);have hb64:XA b:=⟨Y02 (by rw [<- hb.1]; exact YZ) hm,Y02 (by rw [<- hb.2]; exact YZ) hm⟩
   exact ZfN hN hm l (fun x hx=>hl x (YD _ hx)) _ (ZcT h1 hb64) (Zby h2 hb)
theorem InM.lt {m:Nat} {c:Cu} (h:InM m c) (hm:m<18446744073709551616):XA c :=
 ⟨Y02 (by rw [<- h.1]; exact YZ) hm,Y02 (by rw [<- h.2]; exact YZ) hm⟩
noncomputable def Xq (t:PB) (s:Nat):Bool := !soC t.nv (clo t.l s)
noncomputable def XB (t:PB) (s:Nat):Bool:=soC t.gl (clo t.l s)
def Xo (r:RU) (s:Nat):Nat:=if r.rev then Xe s (2 ^ r.tg) else s ||| 2 ^ r.tg
noncomputable def XU (t:PB) (r:RU) (s:Nat):Bool:=decide (Xo r s≠s)&&(Xq t (Xo r s)&&(r.rev||hoC r.cu (clo t.l s)))
def InS (t:PB) (s:Nat):Prop:=s ||| mkN t.n=mkN t.n
theorem InS.lt {t:PB} (hn:t.n<=63) {s:Nat} (h:InS t s):s<18446744073709551616:=by
 have h1:s<=mkN t.n:=by rw [<- h]; exact YZ
 have:=Z5d hn;omega
theorem ZQ {r:RU} (hr:r.tg<64) {s:Nat} (hs:s<18446744073709551616) (i:Nat):(Xo r s).testBit i=if i=r.tg then !r.rev else s.testBit i:=by
 unfold Xo;cases hv:r.rev with
 | true =>
   rw [Y5 rfl,ZF hs (ZV hr),YK];by_cases hi:i=r.tg
   . subst hi; simp
   . rw [Y6 hi,Y0w (fun h=>hi h.symm)]; simp
 | false =>
   rw [Y6 (by decide),Y00,YK];by_cases hi:i=r.tg
   . subst hi; simp
   . rw [Y6 hi,Y0w (fun h=>hi h.symm),Y4S]
theorem ZcU {t:PB} {r:RU} (h1:1<=r.tg) (h2:r.tg<=t.n) (hn:t.n<=63) {s:Nat} (hs:InS t s):InS t (Xo r s):=by
 refine Xg.2 fun i hi=>?_;rw [ZQ (by omega) (hs.lt hn)] at hi;by_cases he:i=r.tg
 . rw [Z2o,Yw (show 1<=i by omega),Yw (show i<=t.n by omega)]; rfl
 . rw [Y6 he] at hi;exact Xg.1 hs i hi
theorem Z2v {r:RU} (hr:r.tg<64) {s:Nat} (hs:s<18446744073709551616):Xo r s≠s↔s.testBit r.tg=r.rev:=by
 constructor
 . intro h;apply YV;intro he;refine h (YF fun i=>?_);rw [ZQ hr hs];by_cases hi:i=r.tg
   . subst hi; rw [Y5 rfl]
     revert he
     cases s.testBit r.tg<;>cases r.rev<;>decide
   . rw [Y6 hi]
 . intro h he;have:=ZQ hr hs r.tg;rw [he,Y5 rfl,h] at this
   revert this
   cases r.rev<;>decide
def X2I (c:Cu) (tg:Nat) (rev:Bool):Cu:=if rev then (c.1,Xe c.2 (2 ^ tg)) else (Xe c.1 (2 ^ tg),c.2)
def X45 (c:Cu) (tg:Nat) (rev:Bool):Bool:=if rev then !c.1.testBit tg else !c.2.testBit tg
theorem ZfO {c:Cu} (hc:XA c) {r:RU} (hr:r.tg<64) {s:Nat} (hs:s<18446744073709551616):hoC c (Xo r s)=(X45 c r.tg r.rev&&hoC (X2I c r.tg r.rev) s):=by
 rw [YO,Y0k,Z1a,Z1a];have hp:=ZV hr;unfold X45 X2I;cases hv:r.rev with
 | true =>
   simp only [Y1Z];constructor
   . rintro ⟨h1, h2⟩;refine⟨?_,fun i hi=>?_,fun i hi=>?_⟩
     . cases hb : c.1.testBit r.tg with
       | false=>rfl
       | true=>have:=h1 r.tg hb; rw [ZQ hr hs,Y5 rfl,hv] at this; cases this
     . have := h1 i hi;rw [ZQ hr hs] at this;by_cases he:i=r.tg
       . rw [Y5 he,hv] at this; cases this
       . rwa [Y6 he] at this
     . rw [ZF hc.2 hp, YK, Y0k] at hi;have:=h2 i hi.1;rw [ZQ hr hs] at this;have he:¬ i=r.tg:=fun he=>by subst he; simp at hi
       rwa [Y6 he] at this
   . rintro ⟨h0, h1, h2⟩;refine⟨fun i hi=>?_,fun i hi=>?_⟩
     . rw [ZQ hr hs];have he:¬ i=r.tg:=fun he=>by subst he; rw [hi] at h0; cases h0
       rw [Y6 he]; exact h1 i hi
     . rw [ZQ hr hs];by_cases he:i=r.tg
       . rw [Y5 he,hv]; rfl
       . rw [Y6 he];exact h2 i (by rw [ZF hc.2 hp,YK,hi,Y0w fun h=>he h.symm]; rfl)
 | false =>
   simp only [Y2w,Y2g];constructor
   . rintro ⟨h1, h2⟩;refine⟨?_,fun i hi=>?_,fun i hi=>?_⟩
     . cases hb : c.2.testBit r.tg with
       | false=>rfl
       | true=>have:=h2 r.tg hb; rw [ZQ hr hs,Y5 rfl,hv] at this; cases this
     . rw [ZF hc.1 hp, YK, Y0k] at hi;have:=h1 i hi.1;rw [ZQ hr hs] at this;have he:¬ i=r.tg:=fun he=>by subst he; simp at hi
       rwa [Y6 he] at this
     . have := h2 i hi;rw [ZQ hr hs] at this;by_cases he:i=r.tg
       . rw [Y5 he,hv] at this; cases this
       . rwa [Y6 he] at this
   . rintro ⟨h0, h1, h2⟩;refine⟨fun i hi=>?_,fun i hi=>?_⟩
     . rw [ZQ hr hs];by_cases he:i=r.tg
       . rw [Y5 he,hv]; rfl
       . rw [Y6 he];exact h1 i (by rw [ZF hc.1 hp,YK,hi,Y0w fun h=>he h.symm]; rfl)
     . rw [ZQ hr hs];have he:¬ i=r.tg:=fun he=>by subst he; rw [hi] at h0; cases h0
       rw [Y6 he]; exact h2 i hi
def X44 (c:Cu) (tg:Nat) (rev:Bool):Cu:=if rev then ((X2I c tg rev).1 ||| 2 ^ tg,(X2I c tg rev).2) else ((X2I c tg rev).1,(X2I c tg rev).2 ||| 2 ^ tg)
theorem ZhP {c:Cu} (hc:XA c) {r:RU} (hr:r.tg<64) {s:Nat} (hs:s<18446744073709551616):(X45 c r.tg r.rev&&hoC (X44 c r.tg r.rev) s)=(hoC c (Xo r s)&&decide (Xo r s≠s)):=by
 rw [ZfO hc hr hs];have hne:=Z2v hr hs;have e:hoC (X44 c r.tg r.rev) s=(hoC (X2I c r.tg r.rev) s&&decide (Xo r s≠s)):=by
  unfold X44;cases hv:r.rev with
  | true =>
    rw [Y5 rfl,Z83];rw [hv] at hne;congr 1;rw [YO,Y0n,hne]
  | false =>
    rw [Y6 (by decide),ZhF];rw [hv] at hne;congr 1;rw [YO,Y0n,hne,Y12]
 rw [e,Bool.and_assoc]
end
section
open Go.RowKit
attribute [local irreducible] aw Xk dK
theorem ZW (l:List Nat) (hl:X4d l) (fl:Bool) (t:Nat) (ht:t<=1099511627776):X2f Tryz.prog 48 (X4B l fl t) [] fun r b'=>∃ v:Nat,v<=255/\r=.val (.int .i64 (v:Int))/\b'=X4B l fl (t+1):=by
 refine Z1O ok48 (Y0 rfl) fun C hC=>?_;have hll:(bys l).length=l.length:=by simp [bys]
 have hinc:IntKind.i64.wrap ((t:Int)+1)=((t+1:Nat):Int):=Y0v _ ⟨by omega,by omega⟩;have hdec:IntKind.i64.wrap (((t+1:Nat):Int)-1)=(t:Int):=by rw [show ((t+1:Nat):Int)-1=(t:Int) by omega]; exact Z8C _ (by omega)
 iterate 10 (first|refine st ?_|(apply B<;>intro hb<;>try cases hb))
 refine Zh rfl rfl rfl hinc ?_;(refine go ?_;repeat' (apply B<;>intro hb<;>try cases hb))
 . refine Zkk rfl Yt rfl (ZK l fl (t+1)) ⟨0,by omega,rfl,rfl⟩
 . have htl : t < l.length := by simp [hll] at hb; omega
   rw [hdec];refine Qr (Zo (xs:=l) rfl rfl t rfl htl rfl) ?_;refine go ?_;have hx:=hl l[t] (Y0j _);refine Zkk rfl Yt rfl (ZK l fl (t+1)) ⟨l[t],hx,?_,rfl⟩;rw [Z8C _ (by omega)]
theorem ZfP (a b:Nat) (ha:a<256) (hb:b<256):bits .andNot .u8 (a:Int) (b:Int)=((Xe a b:Nat):Int):=by
 have hx:Xe a b<=a:=Y1s;have h1:(BitVec.ofInt 8 (a:Int)).toNat=a:=by
  rw [Y1v,Y1V]; exact Y1m (by omega)
 have h2:(~~~(BitVec.ofInt 8 (b:Int))).toNat=255-b:=by
  rw [BitVec.toNat_not,Y1v,Y1V,Y1m (by omega)]
 have h3:a &&& (255-b)=Xe a b:=by
  refine YF fun i=>?_;rw [ZF (by omega) (by omega),Y0z];have h:=Y3i (n:=8) (show b<2 ^ 8 by omega) i;rw [show (2:Nat) ^ 8-(b+1)=255-b by omega] at h;rw [h];by_cases hi:i<8
  . simp [hi]
  . have : a.testBit i = false := Y27 (YE (show a < 2 ^ 8 by omega) (YX (by decide) (by omega)));simp [this]
 show IntKind.u8.wrap ((BitVec.ofInt 8 (a:Int) &&& ~~~(BitVec.ofInt 8 (b:Int))).toNat:Int)=_;rw [Y3M,h1,h2,h3];exact Y3G _ ⟨by omega,by omega⟩
theorem ZfQ (a m:Nat):a &&& m ||| m=m:=Xg.2 fun i hi=>by
 rw [Y0z,Y0k] at hi;exact hi.2
theorem Zjp (X Y:Int) (m:Nat) (hm:m<256):∃ c:Cu,InM m c/\emC c=false/\([.val (.int .u64 (IntKind.u64.wrap (bits .and .u8 X (m:Int)))),.val (.int .u64 (IntKind.u64.wrap (bits .andNot .u8 (bits .and .u8 Y (m:Int)) (bits .and .u8 X (m:Int)))))]:List PV)=raC c:=by
 have hA:∀ X:Int,∃ a:Nat,a<256/\bits .and .u8 X (m:Int)=((a &&& m:Nat):Int):=fun X=>by
  refine⟨(BitVec.ofInt 8 X).toNat,(BitVec.ofInt 8 X).isLt,?_⟩;rw [<- ZiF _ _ (BitVec.ofInt 8 X).isLt hm];show IntKind.u8.wrap ((BitVec.ofInt 8 X &&& BitVec.ofInt 8 (m:Int)).toNat:Int)=IntKind.u8.wrap ((BitVec.ofInt 8 ((BitVec.ofInt 8 X).toNat:Int) &&& BitVec.ofInt 8 (m:Int)).toNat:Int);rw [show BitVec.ofInt 8 ((BitVec.ofInt 8 X).toNat:Int)=BitVec.ofInt 8 X by rw [Y1v,BitVec.ofNat_toNat,BitVec.setWidth_eq]]
 obtain⟨a,ha,ea⟩:=hA X;obtain⟨b,hb,eb⟩:=hA Y;have h1:a &&& m<256:=Y02 Y1s ha;have h2:b &&& m<256:=Y02 Y1s hb;have h3:Xe (b &&& m) (a &&& m)<=b &&& m:=Y1s;rw [ea,eb,ZfP _ _ h2 h1,Y0x _ ⟨by omega,by omega⟩,Y0x _ ⟨by omega,by omega⟩];refine⟨(a &&& m,Xe (b &&& m) (a &&& m)),⟨ZfQ a m,Xg.2 fun i hi=>?_⟩,?_,rfl⟩
 . show m.testBit i = true;have hi:(Xe (b &&& m) (a &&& m)).testBit i=true:=hi;rw [ZF (by omega) (by omega),Y0k,Y0z,Y0k] at hi;exact hi.1.2
 . unfold emC;refine Y0w fun hn=>hn (ZhL.2 fun i hi=>?_);show (Xe (b &&& m) (a &&& m)).testBit i=false;rw [ZF (by omega) (by omega),show (a &&& m).testBit i=true from hi];simp
theorem Z5C (x y:Int) (m:Nat) (hm:m<256):Xa Tryz.prog 50 [.val (.int .i64 x),.val (.int .i64 y),.val (.int .u8 (m:Int))] fun r=>∃ c:Cu,InM m c/\emC c=false/\r=.agg (raC c):=by
 refine Yp ok50 fun C hC=>?_;refine go ?_;obtain⟨c,h1,h2,h3⟩:=Zjp (bits .and .u8 (IntKind.u8.wrap x) (IntKind.u8.wrap (bits .or .i64 (x.fdiv (2 ^ (min (1:Int).toNat IntKind.i64.bits))) (IntKind.i64.wrap (x*2 ^ (min (3:Int).toNat IntKind.i64.bits)))))) (bits .and .u8 (IntKind.u8.wrap y) (IntKind.u8.wrap (bits .or .i64 (y.fdiv (2 ^ (min (2:Int).toNat IntKind.i64.bits))) (IntKind.i64.wrap (y*2 ^ (min (1:Int).toNat IntKind.i64.bits)))))) m hm;refine Z8 rfl ⟨Yt,Yt,Yt⟩ ⟨c,h1,h2,?_⟩;exact congrArg PV.agg h3
noncomputable def XR (l:List Pr) (S:List Nat):PV:=.cp [.cp (X4p l S)]
theorem Zm (l:List Pr) (S:List Nat):(XR l S).pure:=⟨Z1g l S,Yt⟩
theorem Z3U:Xa Tryz.prog 16 [] fun r=>∃ S,r=XR [] S:=by
 refine Yp ok16 fun C hC=>?_;refine go ?_;refine Zz rfl rfl (Z9Q [] true (fun p hp=>by cases hp) Y3y ⟨fun _=>0,fun p hp=>by cases hp⟩ (by decide)) ⟨Yt,Yt,Yt⟩ rfl ?_;rintro r ⟨l',o,h1,h2,⟨S',rfl⟩,rfl⟩;obtain rfl:=List.Perm.eq_nil h1;refine gd 9 ⟨?_⟩;refine Z5 rfl rfl rfl ?_;refine go ?_;exact Z8 rfl (Zm [] S') ⟨S',rfl⟩
theorem Z87 (a:Int):Xa Tryz.prog 113 [.val (.int .i64 a)] (· = .val (.bool (decide (1<=a)&&decide (a<=63)))):=by
 refine Yp ok113 fun C hC=>?_;(refine go ?_;repeat' (apply B<;>intro hb<;>try cases hb))
 all_goals exact Z8 rfl Yt (by simp_all<;>omega)
theorem Z75 (a:Nat) (h1:1<=a) (h2:a<64):Xa Tryz.prog 113 [.val (.int .i64 (a:Int))] (· = .val (.bool true)):=by
 have:=Z87 (a:Int)
 rwa [Yw (show (1:Int)<=a by omega),Yw (show (a:Int)<=63 by omega)] at this
theorem ZfR (l:List Pr) (S:List Nat) (a b:Nat) (ha:1<=a/\a<64) (hb:1<=b/\b<64) (hab:a≠b) (hl:XL l) (hn:l.Nodup) (hno:(a,b) ∉ l) (hacy:Acy (l ++ [(a,b)])) (hlen:l.length<=100000):Xa Tryz.prog 55 [XR l S,.val (.int .i64 (a:Int)),.val (.int .i64 (b:Int))] fun r=>∃ l' S',l'.Perm (l ++ [(a,b)])/\Xv l'/\r=.tup [XR l' S',.val (.int .i64 0)]:=by
 have hne:((a:Int) == (b:Int))=false:=by rw [Y48]; omega
 refine Yp ok55 fun C hC=>?_;refine go ?_;refine Qe (Z75 a ha.1 ha.2) ⟨Yt,Yt⟩ ?_;refine go ?_;refine Qe (Z75 b hb.1 hb.2) ⟨Yt,Yt⟩ ?_;refine gd 25 ⟨?_⟩;refine ZA rfl ?_;refine Qo (Z7 rfl hne) ?_;refine go ?_;refine Zz rfl rfl (ZdX l S a b ha.2 hb.2 hl hn hno hacy hlen) ⟨Z1g l S,Yt,Yt,Yt⟩ rfl ?_;rintro r ⟨l',o,h1,h2,⟨S',rfl⟩,rfl⟩;refine gd 42 ⟨?_⟩;refine Z5 rfl rfl rfl ?_;refine go ?_;exact Z8 rfl ⟨Zm l' S',Yt,Yt⟩ ⟨l',S',h1,h2,rfl⟩
theorem Za1 (l:List Pr) (S:List Nat) (r:Int):Xa Tryz.prog 107 [XR l S,.val (.int .i64 r)] (· = XH (if 1<=r/\r<=63 then jun l r.toNat else 0)):=by
 refine Yp ok107 fun C hC=>?_;refine go ?_;refine Qe (Z87 r) ⟨Yt,Yt⟩ ?_;by_cases h:1<=r/\r<=63
 . rw [Y5 h, Yw h.1, Yw h.2];obtain⟨k,rfl⟩:∃ k:Nat,r=(k:Int):=⟨r.toNat,by omega⟩
   have hk:k<64:=by omega
   have h1:=Zbq l S (k:Int);rw [Y5 ⟨by omega,by omega⟩] at h1;have h2:=Z3N (bel l k) (Y03 (Z35 (Zfk l k)) (by decide)) (k:Int);rw [X2p,Y5 ⟨by omega,by omega⟩] at h2;refine go ?_;refine Qe h1 ⟨Z1g l S,Yt,Yt⟩ ?_;refine go ?_;refine Qe h2 ⟨Z2 _,Yt,Yt⟩ ?_;refine go ?_;exact Z8 rfl (Z2 _) rfl
 . rw [Y6 h];have h2:(decide (1<=r)&&decide (r<=63))=false:=by
    rw [Y43];by_cases h1:1<=r
    . exact .inr (Y0w fun h3=>h ⟨h1,h3⟩)
    . exact .inl (Y0w h1)
   rw [h2];refine go ?_;refine Z1I rfl (Z2 0 |> fun h=>by rw [Z1W] at h; exact h) ?_;rw [Z1W]; rfl
noncomputable def X4l (l:List Pr) (rs:List Nat):Nat:=rs.foldl (fun o r=>if 1<=r then o ||| jun l r else o) 0
theorem ZfS (l:List Pr) (rs:List Nat) (r:Nat):X4l l (rs ++ [r])=if 1<=r then X4l l rs ||| jun l r else X4l l rs:=by simp [X4l,Y1u]
theorem Z2k (l:List Pr) (S:List Nat) (s:Nat) (hs:s<18446744073709551616):Xa Tryz.prog 47 [XR l S,XH s] (· = XH (clo l s)):=by
 refine Yp ok47 fun C hC=>?_;refine Zq ?_;refine Za ?_;refine Z5 rfl rfl rfl ?_;refine Z5 rfl rfl rfl ?_;refine go ?_;refine Qe (Z1R s) ⟨Z2 _,Yt⟩ ?_;refine go ?_;have hhp:=Zm l S;refine Z2K (X:=List Nat) hC (caps := [.cp [.vec (X5 (X7 s)) false]]) [(2,.cp [XR l S]),(4,.ptr 0 0 0),(5,.ptr 1 0 0),(8,.fn 134 [.cp [.vec (X5 (X7 s)) false]])]
  (fun z => [(0,⟨1,[[.vec [] true]]⟩),(1,⟨1,[[.vec (X5 (X7 (X4l l z))) false]]⟩)]) rfl ⟨⟨Z4 _,Yt⟩,Yt⟩ (Z2L s hs) (fun _=>rfl)
  (fun ex pre z=>ex=.normal/\z=pre.map (·.val)) 2 (by decide) [] ⟨rfl,rfl⟩
  (Z2q (X37.mem (ρ := fun i => i) (m := 2) (L := [(2, .cp [XR l S]), (4, .ptr 0 0 0), (5, .ptr 1 0 0), (8, .fn 134 [.cp [.vec (X5 (X7 s)) false]])]) ⟨Qp ⟨hhp, Yt⟩, Qt 0 0 0, Qt 1 0 0, Qp ⟨⟨Z4 _, Yt⟩, Yt⟩, Yt⟩)
    (X1o.mem (ρ:=fun i=>i) (m:=2) (L := [(0,⟨1,[[.vec [] true]]⟩),(1,⟨1,[[.vec (X5 (X7 (X4l l []))) false]]⟩)]) ⟨Qs ⟨⟨Yt,Yt⟩,Yt⟩,⟨by decide,⟨1,[[.vec [] true]]⟩,rfl,by rw [show X4l l []=0 from rfl,ZM]; exact Xr.single (ρ:=fun i=>i) (l0 := [.vec [] true]) (l := [.vec [] false]) (show X2n _ _ [_] [_] from ⟨.low (.vec [] true) Yt,Yt⟩) rfl⟩,Yt⟩) hC (by decide))
  (fun z q hq=>by simp at hq; rcases hq with rfl|rfl<;>exact Y1z _) _ (fun x=>rfl) ?_ ?_ ?_
 . rintro C2 hC2 pre x z ⟨-, rfl⟩ hlen;have hx64:=Z3C x.2;have hj:=Za1 l S (x.val:Int);have hcz:X4l l (pre.map (·.val))<18446744073709551616:=by
    unfold X4l;exact Zbo l _ 0 (fun r hr=>by obtain⟨y,_,rfl⟩:=Y0i.1 hr; exact Z3C y.2) (by decide)
   have hstep:=ZfS l (pre.map (·.val)) x.val;have hnew:X4l l (pre.map (·.val)) ||| (if 1<=(x.val:Int)/\(x.val:Int)<=63 then jun l (x.val:Int).toNat else 0)=X4l l (pre.map (·.val) ++ [x.val]):=by
    rw [hstep];by_cases h1:1<=x.val
    . rw [Y5 h1,Y5 ⟨by omega,by omega⟩]; rfl
    . rw [Y6 h1,Y6 (by omega),Nat.or_zero]
   have hj64:(if 1<=(x.val:Int)/\(x.val:Int)<=63 then jun l (x.val:Int).toNat else 0)<18446744073709551616:=by
    split
    . exact ZcG l hx64
    . decide
   refine go ?_;refine Qd hj ⟨hhp,Yt,Yt⟩ ?_;refine Qd (Z1G _ _ hcz hj64) ⟨Z2 _,Z2 _,Yt⟩ ?_;rw [hnew];refine go ?_
   exact⟨.inl rfl,pre.map (·.val) ++ [x.val],fun i=>i,⟨rfl,by rw [Y0r]; rfl⟩,fun i hi=>rfl,Zp,
    ⟨Qp ⟨hhp,Yt⟩,Qt 0 0 0,Qt 1 0 0,Qp ⟨⟨Z4 _,Yt⟩,Yt⟩,Yt⟩,
    ⟨Qs ⟨⟨Yt,Yt⟩,Yt⟩,Qs ⟨⟨Z4 _,Yt⟩,Yt⟩,Yt⟩⟩
 . rintro xs z hxs ⟨-, rfl⟩;rw [hxs];refine go ?_;exact Z8 rfl (Z2 _) (by rw [Zbn]; rfl)
 . rintro ex pre z - ⟨rfl,_⟩ (h|⟨id,h⟩)<;>cases h
theorem Z88 (l:List Pr) (S:List Nat) (hlen:l.length<=1000000):Xa Tryz.prog 127 [XR l S] (· = .vec (l.map prC) false):=by
 refine Yp ok127 fun C hC=>?_;refine go ?_;refine Qe (Zbp l S hlen) ⟨Z1g l S,Yt⟩ ?_;refine go ?_;exact Z8 rfl (Zl l) rfl
def ruR (r:RU):List PV := [.val (.bool r.rev),.val (.int .u64 (r.cu.1:Int)),.val (.int .u64 (r.cu.2:Int)),.val (.int .i64 (r.tg:Int)),.val (.int .i64 (r.og:Int))]
def ruP (r:RU):List PV := [.val (.bool r.rev),.vec (X5 (X7 r.cu.1)) false,.vec (X5 (X7 r.cu.2)) false,.val (.int .i64 (r.tg:Int)),.val (.int .i64 (r.og:Int))]
theorem ZhQ (r:RU):X6 (ruR r):=⟨Yt,Yt,Yt,Yt,Yt,Yt⟩
theorem Z6l (r:RU):X6 (ruP r):=⟨Yt,Z4 _,Z4 _,Yt,Yt,Yt⟩
theorem Z1B (l:List RU):X2 (l.map ruR):=Zc ZhQ l
theorem Zs (l:List RU):X2 (l.map ruP):=Zc Z6l l
theorem Z1C (l:List Cu):X2 (l.map raC):=Zc Z5c l
theorem Z1n (l:List Cu):X2 (l.map cuC):=Zc Zi l
def pbR (t:PB):List PV := [.val (.int .i64 (t.n:Int)),.vec (t.l.map prC) false,.val (.int .u64 (t.st:Int)),.vec (t.rs.map ruR) false,.vec (t.nv.map raC) false,.vec (t.gl.map raC) false]
noncomputable def pbP (t:PB) (S:List Nat):List PV := [.val (.int .i64 (t.n:Int)),XR t.l S,.vec (X5 (X7 t.st)) false,.vec (t.rs.map ruP) false,.vec (t.nv.map cuC) false,.vec (t.gl.map cuC) false]
theorem Z6m (t:PB):X6 (pbR t):=⟨Yt,Zl _,Yt,Z1B _,Z1C _,Z1C _,Yt⟩
theorem ZD (t:PB) (S:List Nat):X6 (pbP t S):=⟨Yt,Zm _ _,Z4 _,Zs _,Z1n _,Z1n _,Yt⟩
theorem Xz.nv64 {t:PB} (h:Xz t):∀ c∈t.nv,XA c:=fun c hc=>(h.nv c hc).1.lt h.n.2
theorem Xz.gl64 {t:PB} (h:Xz t):∀ c∈t.gl,XA c:=fun c hc=>(h.gl c hc).1.lt h.n.2
theorem Ze4 {t:PB} (h:Xz t) (S:List Nat) (s:Nat) (hs:s<18446744073709551616):Xa Tryz.prog 69 [.agg (pbP t S),XH s] (· = .val (.bool (Xq t s))):=by
 have hc:=Z2k t.l S s hs;have hso:=Z5x t.nv false (clo t.l s) h.nv64 (Z7W _ _);have e:Xq t s = !soC t.nv (clo t.l s):=rfl;rw [e];refine Yp ok69 fun C hC=>?_;refine Zq ?_;refine Za ?_;refine Z5 rfl rfl rfl ?_;refine Z5 rfl rfl rfl ?_;refine gd 14 ⟨?_⟩;refine Z3J rfl ?_;refine Qd hc ⟨Zm _ _,Z2 _,Yt⟩ ?_;refine gd 15 ⟨?_⟩;refine Z3J rfl ?_;refine Qd hso ⟨Z1n _,Z2 _,Yt⟩ ?_;generalize soC t.nv (clo t.l s)=b;cases b
 all_goals
  refine go ?_;exact Z8 rfl Yt rfl
theorem Z76 {t:PB} (h:Xz t) (S:List Nat) (s:Nat) (hs:s<18446744073709551616):Xa Tryz.prog 18 [.agg (pbP t S),XH s] (· = .val (.bool (XB t s))):=by
 have hc:=Z2k t.l S s hs;have hso:=Z5x t.gl false (clo t.l s) h.gl64 (Z7W _ _);have e:XB t s=soC t.gl (clo t.l s):=rfl;rw [e];refine Yp ok18 fun C hC=>?_;refine Zq ?_;refine Za ?_;refine Z5 rfl rfl rfl ?_;refine Z5 rfl rfl rfl ?_;refine gd 14 ⟨?_⟩;refine Z3J rfl ?_;refine Qd hc ⟨Zm _ _,Z2 _,Yt⟩ ?_;refine gd 15 ⟨?_⟩;refine Z3J rfl ?_;refine Qd hso ⟨Z1n _,Z2 _,Yt⟩ ?_;generalize soC t.gl (clo t.l s)=b;cases b
 all_goals
  refine go ?_;exact Z8 rfl Yt rfl
theorem Z1o (N:Nat) (hN:N<18446744073709551616) (i:Nat):Xa Tryz.prog 29 [XH N,Yv i] (· = .val (.bool (N.testBit i))):=by
 have:=Z1Y N hN (i:Int)
 rwa [Yw (show (0:Int)<=(i:Int) by omega),Y1j,Y11] at this
theorem ZfT (c:Cu):X2l (cuC c)=cuC c:=by
 show [PV.vec (Xp (X5 (X7 c.1))) false,PV.vec (Xp (X5 (X7 c.2))) false]=_;rw [Z16,Z16]
 rfl
theorem Z89 (a b:Cu) (ha:XA a) (hb0:XA b):Xa Tryz.prog 168 [cuP a,cuP b] (· = .vec ((X25 a b).map cuC) false):=by
 have hN:b.1 ||| b.2<18446744073709551616:=Z1X hb0.1 hb0.2
 refine Yp ok168 fun C hC=>?_;refine Zq ?_;refine Za ?_;(first|refine st ?_|(apply B<;>intro hb<;>try cases hb));refine Z5 rfl rfl rfl ?_;refine go ?_;refine Qe (Z1k a ha) ⟨Zx a,Yt⟩ ?_;unfold X25;cases he:emC a
 case true =>
  refine go ?_;exact Z1I rfl (Z2C rfl) rfl
 rw [Y6 (by decide)];refine go ?_;refine Qe (Z80 a b ha hb0) ⟨Zx a,Zx b,Yt⟩ ?_;generalize hme:meC a b=me;obtain⟨mc,mb⟩:=me;cases mb
 case false =>
  refine go ?_;refine Z1I rfl ?_ ?_
  . show X2 [X2l (cuC a)];rw [ZfT]; exact⟨Zi a,Yt⟩
  . show PV.vec [X2l (cuC a)] false = _;rw [ZfT]; rfl
 rw [Y5 rfl];refine go ?_;refine Zb (ZP (id:=2) (i0:=0) (j0:=0) rfl (by decide) (by decide) rfl 2 (by decide) (by decide)) ?_;refine Qe (Z1G b.1 b.2 hb0.1 hb0.2) ⟨Z2 _,Z2 _,Yt⟩ ?_;refine Qe (Z1R (b.1 ||| b.2)) ⟨Z2 _,Yt⟩ ?_;refine go ?_;refine Z2K (X:=Cu×List Cu) hC (caps := [.cp [.vec (X5 (X7 (b.1 ||| b.2))) false]]) [(2,.ptr 0 0 0),(3,.cp (cuC b)),(7,.ptr 2 0 0),(26,.fn 134 [.cp [.vec (X5 (X7 (b.1 ||| b.2))) false]])] (fun z => [(0,⟨2,[cuC z.1]⟩),(2,⟨1,[[.own 3]]⟩),(3,⟨2,z.2.map cuC⟩)]) rfl ⟨⟨Z4 _,Yt⟩,Yt⟩ (Z2L (b.1 ||| b.2) hN) (fun _=>rfl)
  (fun ex pre z=>ex=.normal/\z=X2w a b (pre.map (·.val))) 4 (Y0l _) (a,[]) ⟨rfl,rfl⟩ (Z4S hC (Y0l _) ⟨⟨rfl,show (0:Nat)<4 by decide⟩,⟨rfl,Zr _ _,Zr _ _,Yt⟩,⟨rfl,show (2:Nat)<4 by decide⟩,⟨rfl,⟨Zr _ _,Yt⟩,Yt⟩,Yt⟩ ⟨⟨by decide,rfl,⟨Zr _ _,Zr _ _,Yt⟩,Yt⟩,⟨by decide,rfl,⟨show (3:Nat)<4 by decide,Yt⟩,Yt⟩,⟨by decide,rfl,Yt⟩,Yt⟩)
  (fun z q hq=>by simp at hq; rcases hq with rfl|rfl|rfl<;>exact Y1z _) _ (fun x=>rfl) ?_ ?_ ?_
 . rintro C2 hC2 pre x z ⟨-, rfl⟩ hlen;have hr64:x.val<64:=Z3C x.2;have hm:=Z2y (b.1 ||| b.2);obtain⟨hz1,hz2,hz3⟩:=Zbw (b:=b) ha (l:=pre.map (·.val)) (fun r hr=>by obtain⟨y,_,rfl⟩:=Y0i.1 hr; exact Z3C y.2);rw [Y0f] at hz3;have hnext:X2w a b ((pre ++ [x]).map (·.val))=X2b b (X2w a b (pre.map (·.val))) x.val:=by simp [X2w,Y1u]
   generalize X2w a b (pre.map (·.val))=z at *;obtain⟨c,out⟩:=z;dsimp only at hz1 hz2 hz3 ⊢;have hlen1:out.length<=64:=by omega
   unfold X2b at hnext;dsimp only at hnext;refine Z48 ?_;refine Z48 ?_;refine ZiA hC2 True 4 [(2,.ptr 0 0 0),(3,.cp (cuC b)),(7,.ptr 2 0 0),(8,.val (.int .i64 (x.val:Int))),(26,.fn 134 [.cp [.vec (X5 (X7 (b.1 ||| b.2))) false]]),(28,.val (.bool (b.1.testBit x.val && !c.1.testBit x.val)))] [(0,⟨2,[cuC c]⟩),(2,⟨1,[[.own 3]]⟩),(3,⟨2,out.map cuC⟩)] (Y0m _) ?_ fun _=>?_
   . have fin : ∀ D, Xu D (out.map cuC) := fun D => Ze (fun _ h => h.elim) _ (Zc Zi out);refine go ?_;refine Qe (Z1o b.1 hb0.1 x.val) ⟨Z2 _,Yt,Yt⟩ ?_;generalize b.1.testBit x.val=v1;cases v1
     . refine go ?_;exact⟨Yt,⟨⟨rfl,show (0:Nat)<4 by decide⟩,⟨rfl,Zr _ _,Zr _ _,Yt⟩,⟨rfl,show (2:Nat)<4 by decide⟩,⟨rfl,Yt⟩,⟨rfl,⟨Zr _ _,Yt⟩,Yt⟩,⟨rfl,Yt⟩,Yt⟩,⟨⟨by decide,rfl,⟨Zr _ _,Zr _ _,Yt⟩,Yt⟩,⟨by decide,rfl,⟨show (3:Nat)<4 by decide,Yt⟩,Yt⟩,⟨by decide,rfl,fin _⟩,Yt⟩⟩
     . refine go ?_;refine Qe (Z1o c.1 hz1.1 x.val) ⟨Z2 _,Yt,Yt⟩ ?_;refine gv ?_;exact⟨Yt,⟨⟨rfl,show (0:Nat)<4 by decide⟩,⟨rfl,Zr _ _,Zr _ _,Yt⟩,⟨rfl,show (2:Nat)<4 by decide⟩,⟨rfl,Yt⟩,⟨rfl,⟨Zr _ _,Yt⟩,Yt⟩,⟨rfl,Yt⟩,Yt⟩,⟨⟨by decide,rfl,⟨Zr _ _,Zr _ _,Yt⟩,Yt⟩,⟨by decide,rfl,⟨show (3:Nat)<4 by decide,Yt⟩,Yt⟩,⟨by decide,rfl,fin _⟩,Yt⟩⟩
   generalize (b.1.testBit x.val && !c.1.testBit x.val)=v at hnext;cases v
   . rw [Y6 (by decide)] at hnext;refine go ?_;refine Qe (Z1o b.2 hb0.2 x.val) ⟨Z2 _,Yt,Yt⟩ ?_;generalize b.2.testBit x.val=v2 at hnext;cases v2
     . rw [Y6 (by simp)] at hnext;refine go ?_;exact⟨.inl rfl,(c,out),fun i=>i,⟨rfl,hnext.symm⟩,fun i hi=>absurd hi (by omega),Zp,⟨Qt 0 0 0,Qp (Zi b),Qt 2 0 0,Qp ⟨⟨Z4 _,Yt⟩,Yt⟩,Yt⟩,⟨Qs ⟨Zi c,Yt⟩,⟨by decide,_,rfl,Xr.single ⟨.own (ρ:=fun i=>i) 3 (by decide),Yt⟩ rfl⟩,Qs (Zc Zi out),Yt⟩⟩
     . refine go ?_;refine Qe (Z1o c.2 hz1.2 x.val) ⟨Z2 _,Yt,Yt⟩ ?_;generalize c.2.testBit x.val=v3 at hnext;cases v3
       . rw [Y5 (by decide)] at hnext;refine go ?_;refine Qd (Z1s c.1 hz1.1 x.val hr64) ⟨Z2 _,Yt,Yt⟩ ?_;refine go ?_
         refine Qr (Zt (k:=3) (m := [cuC (c.1 ||| 2 ^ x.val,c.2)]) (fl:=true) rfl rfl rfl (fun q hq=>by rw [Y0g] at hq; subst hq; rfl) rfl (by
          show ((out.map cuC).length+1)*48<=_
          rw [Y0f];omega)) ?_
         refine go ?_;refine Qe (Z1s c.2 hz1.2 x.val hr64) ⟨Z2 _,Yt,Yt⟩ ?_;refine go ?_;refine⟨.inl rfl,((c.1,c.2 ||| 2 ^ x.val),out ++ [(c.1 ||| 2 ^ x.val,c.2)]),mv 3 13,⟨rfl,hnext.symm⟩,fun i hi=>absurd hi (by omega),Zu rfl,⟨Qt 0 0 0,Qp (Zi b),Qt 2 0 0,Qp ⟨⟨Z4 _,Yt⟩,Yt⟩,Yt⟩,⟨Qs ⟨Zi (c.1,c.2 ||| 2 ^ x.val),Yt⟩,⟨by decide,_,rfl,Xr.single ⟨.own (ρ:=mv 3 13) 3 (by decide),Yt⟩ rfl⟩,⟨by decide,_,rfl,?_⟩,Yt⟩⟩;show Xr _ _ ⟨2,out.map cuC ++ [cuC (c.1 ||| 2 ^ x.val,c.2)]⟩ ⟨2,(out ++ [(c.1 ||| 2 ^ x.val,c.2)]).map cuC⟩;rw [Y0r];exact .same _ (by rw [<- Y1a,<- Y0r]; exact Zc Zi _)
       . rw [Y6 (by simp)] at hnext;refine go ?_;exact⟨.inl rfl,(c,out),fun i=>i,⟨rfl,hnext.symm⟩,fun i hi=>absurd hi (by omega),Zp,⟨Qt 0 0 0,Qp (Zi b),Qt 2 0 0,Qp ⟨⟨Z4 _,Yt⟩,Yt⟩,Yt⟩,⟨Qs ⟨Zi c,Yt⟩,⟨by decide,_,rfl,Xr.single ⟨.own (ρ:=fun i=>i) 3 (by decide),Yt⟩ rfl⟩,Qs (Zc Zi out),Yt⟩⟩
   . rw [Y5 rfl] at hnext;refine go ?_;refine Qd (Z1s c.2 hz1.2 x.val hr64) ⟨Z2 _,Yt,Yt⟩ ?_;refine go ?_
     refine Qr (Zt (k:=3) (m := [cuC (c.1,c.2 ||| 2 ^ x.val)]) (fl:=true) rfl rfl rfl (fun q hq=>by rw [Y0g] at hq; subst hq; rfl) rfl (by
      show ((out.map cuC).length+1)*48<=_
      rw [Y0f];omega)) ?_
     refine go ?_;refine Qe (Z1s c.1 hz1.1 x.val hr64) ⟨Z2 _,Yt,Yt⟩ ?_;refine go ?_;refine⟨.inl rfl,((c.1 ||| 2 ^ x.val,c.2),out ++ [(c.1,c.2 ||| 2 ^ x.val)]),mv 3 13,⟨rfl,hnext.symm⟩,fun i hi=>absurd hi (by omega),Zu rfl,⟨Qt 0 0 0,Qp (Zi b),Qt 2 0 0,Qp ⟨⟨Z4 _,Yt⟩,Yt⟩,Yt⟩,⟨Qs ⟨Zi (c.1 ||| 2 ^ x.val,c.2),Yt⟩,⟨by decide,_,rfl,Xr.single ⟨.own (ρ:=mv 3 13) 3 (by decide),Yt⟩ rfl⟩,⟨by decide,_,rfl,?_⟩,Yt⟩⟩;show Xr _ _ ⟨2,out.map cuC ++ [cuC (c.1,c.2 ||| 2 ^ x.val)]⟩ ⟨2,(out ++ [(c.1,c.2 ||| 2 ^ x.val)]).map cuC⟩;rw [Y0r];exact .same _ (by rw [<- Y1a,<- Y0r]; exact Zc Zi _)
 . rintro xs z hS ⟨-, rfl⟩;rw [hS]
   repeat' (first|refine Zb (Zn (k:=82) rfl rfl (Zc Zi _)) ?_|(first|refine st ?_|(apply B<;>intro hb<;>try cases hb)))
   exact Z8 rfl (Zc Zi _) rfl
 . rintro ex pre z - ⟨rfl,-⟩ (h|⟨id,h⟩)<;>cases h
theorem Z3V (l:List Pr) (S:List Nat) (k:Nat) (h1:1<=k) (hk:k<64):Xa Tryz.prog 74 [XR l S,.val (.int .i64 (k:Int))] (· = XH (sen l k)):=by
 have h2:=Zbr l S (k:Int);rw [Y5 ⟨by omega,by omega⟩] at h2;have h3:=Z3N (abv l k) (Y03 (Z35 (Z6I l k)) (by decide)) (k:Int);rw [X2p,Y5 ⟨by omega,by omega⟩] at h3;refine Yp ok74 fun C hC=>?_;refine go ?_;refine Qe (Z75 k h1 hk) ⟨Yt,Yt⟩ ?_;refine go ?_;refine Qe h2 ⟨Z1g l S,Yt,Yt⟩ ?_;refine go ?_;refine Qe h3 ⟨Z2 _,Yt,Yt⟩ ?_;refine go ?_;exact Z8 rfl (Z2 _) rfl
theorem Z3r:∀ l:List Cu,Xp (l.map cuC)=l.map cuC
 | []=>rfl
 | c :: l => by
   show X2l (cuC c) :: Xp (l.map cuC)=_;rw [ZfT,Z3r l]; rfl
def X3G (l:List Cu) (c:Cu) (i:Nat):List Cu:=(l.take i).foldl X3I (if emC c then [] else [c])
theorem ZfU (l:List Cu) (c:Cu) {i:Nat} (hi:i<l.length):X3G l c (i+1)=X3I (X3G l c i) l[i]:=by
 unfold X3G;rw [YY,Y0c hi,Y1u]; rfl
theorem ZfV {m:Nat} (hm:m<64) {l:List Cu} {c:Cu} (hl:∀ b∈l,InM m b) (hc:InM m c) (i:Nat):Dis (X3G l c i)/\∀ c'∈X3G l c i,InM m c':=by
 refine ZfN (N:=64) hm (by omega) _ (fun b hb=>hl b (YM hb)) _ ?_ ?_
 . split
   . exact⟨(fun c hc=>by cases hc),List.Pairwise.nil⟩
   . rename_i h;exact⟨fun c hc=>by rw [Y0g] at hc; subst hc; simpa using h,Y2W ..⟩
 . intro c' hc'
   split at hc'
   . cases hc'
   . rw [Y0g] at hc'; subst hc'; exact hc
def X4x (out:List Cu) (b:Cu) (j:Nat):List Cu:=X3I (out.take j) b
theorem ZfW (out:List Cu) (b:Cu) {j:Nat} (hj:j<out.length):X4x out b (j+1)=X4x out b j++X25 out[j] b:=by
 unfold X4x X3I;rw [YY,Y0c hj,Y1H];simp
theorem ZhR {out:List Cu} {b:Cu} {m:Nat} (hm:m<64) (h:Dis out/\∀ c∈out,InM m c) (hb:InM m b) (j:Nat):(X4x out b j).length<=64:=by
 have h1:Dis (out.take j):=⟨fun c hc=>h.1.1 c (YM hc),h.1.2.sublist (List.take_sublist _ _)⟩
 exact Zbz (ZcT h1 (hb.lt (by omega))) (m:=m) (Zby (fun c hc=>h.2 c (YM hc)) hb) hm
theorem Ze5 (l:List Cu) (fl:Bool) (c:Cu) (m:Nat) (hm:m<64) (hl:∀ b∈l,InM m b) (hc:InM m c) (hlen:l.length<=100000):Xa Tryz.prog 124 [cuP c,.vec (l.map cuC) fl] (· = .tup [.vec ((X34 l c).map cuC) false,.val (.int .i64 0)]):=by
 have hnl:(l.map cuC).length=l.length:=by simp
 have hlp:∀ (l:List Cu) D,Xu D (l.map cuC):=fun i D=>Ze (fun _ h=>h.elim) _ (Z0 _);have hc64:=hc.lt (by omega);refine Yp ok124 fun C hC=>?_;refine Zq ?_;refine Za ?_;refine Z5 rfl rfl rfl ?_
 iterate 7 (first|refine st ?_|(apply B<;>intro hb<;>try cases hb))
 refine Zb6 hC (X:=Bool) (fun _=>True) 0 (fun z => [(1,.vec (l.map cuC) fl),(6,.vec ((X3G l c 0).map cuC) z)]) (fun _=>[]) (Y0l _) ?_ fun z _=>?_
 . refine go ?_;refine Qe (Z1k c hc64) ⟨Zx c,Yt⟩ ?_;unfold X3G;rw [Y1A,Y4I];cases he:emC c
   . refine gd 18 ⟨?_⟩;refine Z5 (Z9C (l := []) (m := [cuC c]) rfl rfl (fun c hc=>by cases hc) (fun q hq=>by rw [Y0g] at hq; subst hq; rfl) (by show (0+1)*48<=_; decide)) rfl rfl ?_;refine go ?_;exact⟨_,Yt,⟨⟨rfl,hlp _ _⟩,⟨rfl,hlp [c] _⟩,Yt⟩,Yt⟩
   . refine go ?_;exact⟨_,Yt,⟨⟨rfl,hlp _ _⟩,⟨rfl,Yt⟩,Yt⟩,Yt⟩
 . have hloop := ZfV hm hl hc;refine go ?_;refine ZB hC (fun (x:Nat×Bool)=>x.1<=l.length) (fun x=>l.length-x.1) 0 (fun x => [(6,.vec ((X3G l c x.1).map cuC) x.2),(19,.vec (l.map cuC) fl),(20,.val (.int .i64 (l.length:Int))),(21,.val (.int .i64 (x.1:Int)))]) (fun _=>[]) (Y0m _) (0,z) (Y0l _)
    ⟨⟨rfl,hlp _ _⟩,⟨rfl,hlp _ _⟩,⟨by rw [<- hnl]; rfl,Yt⟩,⟨rfl,Yt⟩,Yt⟩ Yt ?_
   rintro⟨i,z⟩ hi;dsimp only at hi ⊢;have hinc:IntKind.i64.wrap ((i:Int)+1)=((i+1:Nat):Int):=Y0v _ ⟨by omega,by omega⟩
   iterate 2 (first|refine st ?_|(apply B<;>intro hb<;>try cases hb))
   refine Zv rfl rfl rfl (fun hb=>?_) (fun hb=>?_)
   . have hil : i < l.length := by have := Y0u hb; omega
     clear hb;have hsucc:=ZfU l c hil;obtain⟨hD,hI⟩:=hloop i;generalize X3G l c i=out at hsucc hD hI ⊢;have hb:=hl l[i] (Y0j hil);have hb64:=hb.lt (by omega);have hol:out.length<=64:=Zbz hD hI hm;have hsub:=ZhR (out:=out) hm ⟨hD,hI⟩ hb;have hnl2:(out.map cuC).length=out.length:=by simp
     refine go ?_;refine Qo (Zo (xs:=l) rfl rfl i rfl hil rfl) ?_
     repeat' (first|refine Zb (Zw (k:=9) rfl 2 (by decide)) ?_|(first|refine st ?_|(apply B<;>intro hb<;>try cases hb)))
     refine ZC hC (fun (j:Nat)=>j<=out.length) (fun j=>out.length-j) 2 (fun j => [(8,.ptr 0 0 0),(9,.own 1),(19,.vec (l.map cuC) fl),(20,.val (.int .i64 (l.length:Int))),(21,Yv i),(25,.vec (out.map cuC) z),(26,.val (.int .i64 (out.length:Int))),(27,Yv j)])
      (fun j => [(0,⟨2,[cuC l[i]]⟩),(1,⟨2,(X4x out l[i] j).map cuC⟩)]) (by decide) 0 (Y0l _) (fun i=>i) (fun _ _=>rfl) Zp
      ⟨Qt 0 0 0,⟨_,rfl,.own 1 (by decide)⟩,Qp (Z0 _),Qp Yt,Qp Yt,Qp (Z0 _),⟨_,by rw [<- hnl2]; rfl,.pure _ Yt⟩,Qp Yt,Yt⟩ ⟨Qs ⟨Zi _,Yt⟩,Qs Yt,Yt⟩ ?_
     intro j hj;have hinc2:IntKind.i64.wrap ((j:Int)+1)=((j+1:Nat):Int):=Y0v _ ⟨by omega,by omega⟩
     iterate 2 (first|refine st ?_|(apply B<;>intro hb<;>try cases hb))
     refine Zv rfl rfl rfl (fun hb=>?_) (fun hb=>?_)
     . have hjl : j < out.length := by have := Y0u hb; omega
       clear hb;have hs2:=ZfW out l[i] hjl;have hx:=(hI _ (Y0j hjl)).lt (by omega);have hml:=ZcO out[j] l[i] hx;have hsl:=hsub j;refine go ?_;refine Qo (Zo (xs:=out) rfl rfl j rfl hjl rfl) ?_;refine go ?_;refine Qe (Z89 out[j] l[i] hx hb64) ⟨Zx _,Zx _,Yt⟩ ?_
       refine ZH (Zt (k:=1) (m:=(X25 out[j] l[i]).map cuC) (fl:=false) rfl rfl rfl (fun q hq=>by obtain⟨x,_,rfl⟩:=Y0i.1 hq; rfl) rfl (by
        show (((X4x out l[i] j).map cuC).length+((X25 out[j] l[i]).map cuC).length)*48<=_
        rw [Y0f,Y0f];omega)) rfl rfl ?_
       refine go ?_
       refine⟨j+1,mv 1 3,hjl,by omega,fun i hi=>absurd hi (YL i),Zu rfl,
        ⟨Qt 0 0 0,Qw 1,Qp (Z0 _),Qp Yt,Qp Yt,Qp (Z0 _),Qp Yt,⟨_,by show some _=some _; rw [hinc2],.pure _ Yt⟩,Yt⟩,
        ⟨Qs ⟨Zi _,Yt⟩,⟨by decide,_,rfl,?_⟩,Yt⟩⟩
       show Xr _ _ ⟨2,(X4x out l[i] j).map cuC++(X25 out[j] l[i]).map cuC⟩ ⟨2,(X4x out l[i] (j+1)).map cuC⟩;rw [<- Y0r,<- hs2];exact .same _ (Z0 _)
     . have hjl : j = out.length := by have := Ye hb; omega
       subst hjl;clear hb;have hend:X4x out l[i] out.length=X3G l c (i+1):=by rw [hsucc]; unfold X4x; rw [Y0q]
       have hle:=hsub out.length;rw [hend] at hle ⊢
       repeat' (first|refine Zb (Zn (k:=9) rfl rfl (Z0 _)) ?_|refine Zki 39 ?_|(first|refine st ?_|(apply B<;>intro hb<;>try cases hb)))
       refine At.mk ?_;refine Qo (Z7 (v:=false) rfl (by simp;omega)) ?_;refine go ?_;exact⟨(i+1,false),by show i+1<=_; omega,by show _-(i+1)<_-i; omega,⟨⟨rfl,hlp _ _⟩,⟨rfl,hlp _ _⟩,⟨rfl,Yt⟩,⟨by show some _=some _; rw [hinc],Yt⟩,Yt⟩,Yt⟩
   . have hil : i = l.length := by have := Ye hb; omega
     subst hil;clear hb;refine go ?_;have he:X3G l c l.length=X34 l c:=by unfold X3G X34; rw [Y0q]
     rw [he];refine Z1I rfl ⟨?_,Yt,Yt⟩ ?_
     . show X2 (Xp ((X34 l c).map cuC));rw [Z3r]; exact Z0 _
     . show PV.tup [.vec (Xp ((X34 l c).map cuC)) false, _] = _;rw [Z3r]; rfl
end
end Go.Proofs.YtbfbcdjjhhcbaaaGreatDoor
