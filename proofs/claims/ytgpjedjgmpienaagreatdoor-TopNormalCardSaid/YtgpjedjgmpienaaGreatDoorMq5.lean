/-
  Merged from the texts that this claim's theorem needs, part 6 of 8. No statement of the seat is proved here.
-/
import Derived.KernelRfl
import Derived.Shelf.SlMaps.Clone
import Derived.Shelf.SlSortCmp.NoneTotal
import Derived.Shelf.Strconv.Itoa3
import Derived.Shelf.Strings.OnBuilder
import Derived.Test.YtgpjedjgmpienaaGreatDoorChecked
import Derived.Test.YtgpjedjgmpienaaGreatDoorMq4
set_option linter.unusedSimpArgs false
set_option linter.unusedVariables false
set_option linter.unusedSectionVars false
set_option linter.defProp false
set_option maxRecDepth 100000
set_option maxHeartbeats 16000000
namespace Go.Proofs.YtgpjedjgmpienaaGreatDoor
section
open Go.RowKit Go.Sort
section
variable {P:Program} {ρ:Go.Shelf.Ren} {α:Type}
def X44 (F:XC) (k:Nat) (enc:α->List PV) (p:List Value×α):Prop :=
 p.1.length=k/\(∀ v∈p.1,v.oneCell'=true)/\∀ j,j<k->Rep F Xz (p.1.getD j undef) ((enc p.2).getD j pvu)
abbrev Raw (F:XC) (k:Nat) (enc:α->List PV):={ p:List Value×α // X44 F k enc p }
theorem Z8z {w:World} {blk off:Nat} {cells:Array Value} {t:TypeId} {fr:Nat×Nat} (hg:w.heap[blk]?=some (.cells cells t fr)) (D:Array Value):putRow id w blk off D=w.setRow blk (putCells id off D cells):=by
 unfold putRow;rw [mapBlock_congr w blk _ (fun _=>putCells id off D cells) (fun c e fr' h=>by rw [hg] at h; cases h; rfl)];unfold mapBlock World.setRow;congr 2
theorem Zi4 {W w':World} (hb:Below W.heap.size W w') (hd:W.drawn<=w'.drawn):∃ q os,w'=grow (W.drewN q) os:=by
 refine⟨w'.drawn-W.drawn,w'.heap.extract W.heap.size w'.heap.size,?_⟩;obtain⟨h1,h2,h3,h4,h5⟩:=hb;obtain⟨heap,tape,drawn,os,output⟩:=w';simp only at h1 h2 h3 h4 h5 hd ⊢;subst h1 h2 h3;simp only [grow,World.drewN,World.mk.injEq,true_and,and_true];refine⟨?_,by omega⟩;apply Array.ext_getElem?;intro i;rw [Y2K];by_cases hi:i<W.heap.size
 . rw [Y7 hi]; exact h5 i hi
 . rw [Y8 hi, Array.getElem?_extract];by_cases h6:i<heap.size
   . rw [Y7 (by omega)];congr 1;omega
   . rw [Y8 (by omega)];exact Y3o (by omega)
theorem X44.agg {F:XC} {k:Nat} {enc:α->List PV} {p:List Value×α} (h:X44 F k enc p) (hl:(enc p.2).length=k):Rep F Xz (.agg p.1.toArray) (.agg (enc p.2)):=by
 obtain⟨h1,h2,h3⟩:=h;have hg:∀ i,p.1.toArray.getD i undef=p.1.getD i undef:=fun i=>by simp [Y0d,Y0b]
 refine .agg _ _ (by simp [h1,hl]) (fun i hi=>?_) (fun i hi=>?_)
 . rw [hg, Y0b, Y0c (by omega)];exact h2 _ (Y0j _)
 . rw [hg]; exact h3 i (by omega)
theorem ZjG {β:Type} {cf:β->β->Int} {key:β->Nat} (h:∀ a b,cf a b<0↔key a<key b):SWO (ltOf cf):=by
 have e:∀ a b,ltOf cf a b=decide (key a<key b):=fun a b=>by unfold ltOf; exact Y2n.2 (h a b)
 refine⟨fun x=>?_,fun x y z h1 h2=>?_,fun x y z h1 h2=>?_⟩
 . rw [e]; simp
 . rw [e] at *; simp at *; omega
 . rw [e] at *; simp at *; omega
theorem Z7P (L:SlLaysF0.n6 P ρ) (hbody:X12 P (ρ.f 6)) (k:Nat) (hk0:0<k) (aE:∀ w,(isAgg (ρ.t 24)).run P w=.ok true w) (zE:∀ w,(Go.sizeOf (ρ.t 24)).run P w=.ok k w) (enc:α->List PV) (hl:∀ x,(enc x).length=k) (hp:∀ x,Xe (enc x))
 (key:α->Nat) (cf:α->α->Int) (hcf:∀ a b,cf a b<0↔key a<key b) (g:FuncId) (caps:List PV) (hcaps:Xe caps) (hcmp:∀ a b,X7 P g (.agg (enc a) :: .agg (enc b) :: caps) (· = .val (.int .i64 (cf a b)))) {n ob:Nat} {h:X0} (xs:List α) (hh:h ob=some ⟨k,xs.map enc⟩) :
 Xp P (ρ.f 6) n [.own ob,.fn g caps] h fun n' r h'=>n'=n/\r=.tup []/\∃ ys:List α,ys.Perm xs/\ys.Pairwise (fun a b=>key a<=key b)/\h'=h.upd ob ⟨k,ys.map enc⟩:=by
 refine⟨hbody,?_⟩;intro C e F φ a w vs s hv;obtain⟨hsz,hvs⟩:=hv;have h0:Rep F φ (vs.getD 0 undef) (.own ob):=hvs 0 (by simp);have h1:Rep F φ (vs.getD 1 undef) (.fn g caps):=hvs 1 (by simp);obtain⟨loc,hloc,hz,hv0⟩:=h0.own_inv;obtain⟨cb,hv1,hcsz,hcb⟩:=h1.fn_inv;have hvs':vs = #[.slice loc.base loc.len loc.cap,.func (.func g) #[] cb]:=by
  simp only [Y04,Y1u] at hsz;apply Array.ext (by simpa using hsz);intro i hi1 hi2;have hi:i=0 \/ i=1:=by simp at hi2; omega
  have hget:∀ j (hj:j<vs.size),vs.getD j undef=vs[j]:=fun j hj=>by simp [Array.getD,hj]
  rcases hi with rfl|rfl
  . rw [hget 0 hi1] at hv0; exact hv0
  . rw [hget 1 hi1] at hv1; exact hv1
 obtain⟨loc',hl1,hob,hhas⟩:=s.live ob _ hh;obtain rfl:loc'=loc:=by rw [hl1] at hloc; simpa using hloc
 have hbx:=hob.cells hz;have hlen:xs.length=loc'.len:=by have:=hbx.len; simpa using this
 have hke:k=loc'.esz:=hbx.esz;rw [hvs'];by_cases hx0:xs = []
 . subst hx0;have hl0:loc'.len=0:=hlen.symm;have hc:=AnyF.slices_SortFunc_none (P:=P) (ρ:=ρ) { L with } loc'.base loc'.cap (.func (.func g) #[] cb) w;rw [hl0];refine hc.mono ?_;rintro en w' ⟨rfl,rfl⟩;refine⟨_,.tup [],n,h.upd ob ⟨k,[].map enc⟩,F,φ,rfl,⟨rfl,rfl,[],.refl _,.nil,rfl⟩,.tup _ _ rfl (fun i hi=>absurd hi (YR i)),s.sub (fun _ _ h=>h) fun i b hi=>?_⟩;by_cases hid:i=ob
   . subst hid; rw [X0.upd_same] at hi; rw [hh]; exact hi
   . rw [X0.upd_ne _ _ hid] at hi; exact hi
 . have hpos : 0 < xs.length := Y1N.2 hx0;have hcap:=hbx.cap;have hc0:loc'.cap≠0:=by omega
   obtain⟨ad,hbase,hspot,cells,t,hg,hroom,hrep⟩:=hbx.room hc0;have hhb:loc'.has ad.block:=⟨hc0,ad,hbase,rfl⟩
   have hFn:∀ x:Addr,x.block=ad.block->F x=none:=(hhas _ hhb).2;have hblk:ad.block<w.heap.size:=(Y9.1 hg).1;have hin:∀ i j,i<xs.length->j<k->i*k+j<xs.length*k:=fun i j hi hj=>by
    have:=YM k (show i+1<=xs.length from hi);rw [Y1i,Nat.one_mul] at this;omega
   have hsize:xs.length*k<=loc'.cap*loc'.esz:=by rw [hke]; exact YM _ (by omega)
   have hraw:∀ i:Fin xs.length,X44 F k enc ((List.range k).map fun j=>cells.getD (ad.off+(i.1*k+j)) undef,xs[i.1]):=by
    intro i;have hi:=i.2;refine⟨by simp,fun v hv=>?_,fun j hj=>?_⟩
    . obtain ⟨j, hj, rfl⟩ := Y0i.1 hv;have:=(hrep i.1 j (by omega) (by rw [<- hke]; exact YZ.1 hj)).1;rw [<- hke] at this;exact this
    . have h2 := (hrep i.1 j (by omega) (by omega)).2;rw [<- hke] at h2;have e1:((xs.map enc).getD i.1 [])=enc xs[i.1]:=by simp [Y0b,hi]
      rw [e1] at h2;have e2:((List.range k).map fun j=>cells.getD (ad.off+(i.1*k+j)) undef).getD j undef=cells.getD (ad.off+(i.1*k+j)) undef:=by simp [Y0b,hj]
      show Rep F Xz (((List.range k).map fun j=>cells.getD (ad.off+(i.1*k+j)) undef).getD j undef) ((enc xs[i.1]).getD j pvu);rw [e2];exact h2.pure (ZW (hp _) j)
   letI:Inhabited (Raw F k enc):=⟨⟨_,hraw ⟨0,hpos⟩⟩⟩
   obtain⟨d,hd⟩:∃ d:Array (Raw F k enc),d=Array.ofFn fun i:Fin xs.length=>(⟨_,hraw i⟩:Raw F k enc):=⟨_,rfl⟩
   have hdsz:d.size=xs.length:=by rw [hd]; simp
   have hdget:∀ (i:Nat) (hi:i<xs.length),d[i]! = ⟨_,hraw ⟨i,hi⟩⟩:=fun i hi=>by
    have:i<d.size:=by omega
    rw [getElem!_pos d i this];simp only [hd,Array.getElem_ofFn]
   have hdl:d.toList.map (fun p=>p.1.2)=xs:=by
    apply Y4b
    . simp [hdsz]
    . intro i h3 h4;have h5:=hdget i h4;rw [getElem!_pos d i (by omega)] at h5;simp [h5]
   have encK:∀ x:Raw F k enc,(x.1.1).length=k:=fun x=>x.2.1;have enc1:∀ x:Raw F k enc,∀ v∈x.1.1,v.oneCell'=true:=fun x=>x.2.2.1;have hH:HoldsK (fun x:Raw F k enc=>x.1.1) k w ad.block ad.off d:=by
    intro q hq;rw [size_flatK,hdsz] at hq;have hi:q / k<xs.length:=(Nat.div_lt_iff_lt_mul hk0).2 hq;have hj:q % k<k:=Y28 _ hk0;have hqe:q / k*k+q % k=q:=by rw [Y1t]; exact Nat.div_add_mod q k
    rw [get_flatK _ _ _ _ (by rw [hdsz]; exact hq),hdget _ hi];have hlt:ad.off+q<cells.size:=by omega
    constructor
    . simp only [World.cell?, hg];rw [Y8 (by simp),Y1r hlt];congr 1;rw [getElem!_pos _ _ (by simp [hj])];simp only [Y4a,Y2w,hqe,id];simp [Array.getD,hlt]
    . simp only [World.frozen?, hg];simp
   have hcmpL:CmpLays P g cb (fun x:Raw F k enc=>x.1.1) k (fun x y=>cf x.1.2 y.1.2) ad.block ad.off d.size w:=by
    intro m os dk hdk x y;have hW:Proofs.YtgpjedjgmpienaaGreatDoor.Holds F (sortWorldK (fun x:Raw F k enc=>x.1.1) k w ad.block ad.off m dk os):=by
     refine⟨fun x v hx=>?_,s.glob⟩;obtain⟨f1,f2,f3⟩:=s.froz x v hx;refine⟨f1,f2,?_⟩;have hne:x.block≠ad.block:=fun he=>by rw [hFn x he] at hx; cases hx
     have h5:(putRowK (fun x:Raw F k enc=>x.1.1) k (Sort.ahead w m) ad.block ad.off dk).cell? x=some v:=by
      rw [cell?_putRowK_other _ _ _ _ _ _ _ hne]; exact f3
     unfold sortWorldK;have hlt:x.block<(putRowK (fun x:Raw F k enc=>x.1.1) k (Sort.ahead w m) ad.block ad.off dk).heap.size:=by
      unfold World.cell? at h5
      split at h5
      . rename_i hgx; exact (Y9.1 hgx).1
      . cases h5
     rw [Y1Y (w:=putRowK (fun x:Raw F k enc=>x.1.1) k (Sort.ahead w m) ad.block ad.off dk)]
     . exact h5
     . unfold grow;exact YP hlt
    have hR:X1Y F Xz (#[.agg x.1.1.toArray,.agg y.1.1.toArray]++cb) (.agg (enc x.1.2) :: .agg (enc y.1.2) :: caps):=by
     refine⟨by simp [hcsz]; omega,fun i hi=>?_⟩
     match i,hi with
     | 0, _ =>
       rw [show (#[Value.agg x.1.1.toArray,Value.agg y.1.1.toArray]++cb).getD 0 undef=.agg x.1.1.toArray by simp [Y0d,Y2K]];exact X44.agg x.2 (hl _)
     | 1, _ =>
       rw [show (#[Value.agg x.1.1.toArray,Value.agg y.1.1.toArray]++cb).getD 1 undef=.agg y.1.1.toArray by simp [Y0d,Y2K]];exact X44.agg y.2 (hl _)
     | i + 2, hi =>
       have e1:(#[Value.agg x.1.1.toArray,Value.agg y.1.1.toArray]++cb).getD (i+2) undef=cb.getD i undef:=by
        simp only [Y0d];rw [Y1O (by simp)];simp
       rw [e1];exact (hcb i (by simpa using hi)).pure (ZW hcaps i)
    refine (ZbC ((hcmp x.1.2 y.1.2).2 F _ _ hW hR)).mono ?_;rintro en w' ⟨⟨v,r,F',rfl,rfl,hr,hbel,_⟩,hdr⟩;have hvi:=hr.val_inv;exact⟨by rw [hvi],Zi4 hbel (hdr v rfl)⟩
   have eg:∀ args w,(callFunc g args).run P w=.ok (.enter g args) w:=by
    obtain⟨⟨fn,hfn,hname,hbd⟩,_⟩:=hcmp xs[0] xs[0];intro args w;have h1 : ¬ fn.name = "runtime.NumGoroutine" := by simpa using hname
    have h2:¬ fn.body=none:=fun h=>by rw [h] at hbd; simp at hbd
    simp [callFunc,hfn,h1,h2]
   have hmx:=hbx.max;have hc:=AnyQ.slices_SortFunc L k aE zE (fun x:Raw F k enc=>x.1.1) encK enc1 (fun x y=>cf x.1.2 y.1.2) (ZjG (key:=fun x:Raw F k enc=>key x.1.2) fun a b=>hcf _ _) g cb ad.block ad.off loc'.cap d w eg hcmpL hH hblk (by rw [hdsz]; simp only [Xd] at hmx;omega);rw [hbase,<- hlen,<- hdsz];rw [<- Z4v ad hspot] at hc;refine hc.mono ?_;rintro en w' ⟨rfl,d',m,os,⟨hps,-,hpp⟩,hso,rfl⟩;have hpp':d'.toList.Perm d.toList:=by
    have e1:d'.extract 0 d.size=d':=by rw [<- hps]; exact Array.extract_size
    have e2:d.extract 0 d.size=d:=Array.extract_size;rw [e1,e2] at hpp;exact hpp
   have hg':(Sort.ahead w m).heap[ad.block]?=some (.cells cells t (0,0)):=hg;obtain⟨cur',hcur⟩:∃ cur',cur'=putCells id ad.off (flatK (fun x:Raw F k enc=>x.1.1) k d') cells:=⟨_,rfl⟩
   have hw1:sortWorldK (fun x:Raw F k enc=>x.1.1) k w ad.block ad.off m d' os=grow ((Sort.ahead w m).setRow ad.block cur') os:=by
    unfold sortWorldK putRowK;rw [Z8z hg',hcur]
   have hget':∀ i j,i<xs.length->j<k->cur'.getD (ad.off+(i*k+j)) undef=(d'[i]!).1.1.getD j undef:=by
    intro i j hi hj;have hq:=hin i j hi hj;have hlt:ad.off+(i*k+j)<cells.size:=by omega
    have e1:(i*k+j) / k=i:=(blk_iff k i _ hk0).1 ⟨by omega,by omega⟩;have e2:(i*k+j) % k=j:=by rw [Nat.mod_eq_sub_div_mul,e1]; omega
    rw [hcur,putCells,Y0d,Array.getElem?_mapIdx,Y1r hlt];simp only [Y1m,Y1R];rw [Y7 ⟨by omega,by rw [size_flatK,hps,hdsz]; omega⟩,show ad.off+(i*k+j)-ad.off=i*k+j by omega];show (flatK (fun x:Raw F k enc=>x.1.1) k d')[i*k+j]! = _;rw [get_flatK (fun x:Raw F k enc=>x.1.1) k d' (i*k+j) (by rw [hps,hdsz]; exact hq),e1,e2];have hj':j<(d'[i]!).1.1.length:=by rw [encK]; exact hj
    rw [getElem!_pos (d'[i]!).1.1 j hj',Y0b,Y0c hj',Y1R]
   have hysl:(d'.toList.map fun p=>p.1.2).length=xs.length:=by simp [hps,hdsz]
   refine⟨_,.tup [],n,h.upd ob ⟨k,(d'.toList.map fun p=>p.1.2).map enc⟩,F,φ,rfl,⟨rfl,rfl,d'.toList.map fun p=>p.1.2,?_,?_,rfl⟩,.tup _ _ rfl (fun i hi=>absurd hi (YR i)),?_⟩
   . have := hpp'.map fun p : Raw F k enc => p.1.2;rw [hdl] at this;exact this
   . rw [Y1W];intro i j hi hj hij;have hi':i<d'.size:=by simpa using hi
     have hj':j<d'.size:=by simpa using hj
     have h5:=hso i j (Y0l _) hij (by omega);rw [getElem!_pos d' i hi',getElem!_pos d' j hj'] at h5;unfold ltOf at h5;have h6:=YH h5;rw [hcf] at h6;simp only [Y4a,Array.getElem_toList];omega
   . rw [hw1];have sA:St' C (fun i=>n<=i) e h F φ a (Sort.ahead w m):=s.turned (row:=none) (w':=Sort.ahead w m) ⟨rfl,rfl,rfl,Y0m _,fun _ _ _=>rfl⟩ (fun r hr=>by cases hr) (.inr fun r es t hr=>by cases hr) rfl (s.marks.mono fun _ h=>h);have s1:St' C (fun i=>n<=i) e (h.del ob) F φ a (Sort.ahead w m):=sA.sub (fun _ _ h=>h) (fun _ _ hh=>(X0.del_some hh).2);have hbx':X4b F φ ((Sort.ahead w m).setRow ad.block cur') loc' ⟨k,(d'.toList.map fun p=>p.1.2).map enc⟩:=by
      refine⟨hke,hz,by rw [<- hlen]; simp [hps,hdsz],hcap,hmx,fun c hc=>?_,fun _=>⟨ad,hbase,hspot,cur',t,Y3z _ _ _ _ _ _ hg',?_,fun i j hi hj=>?_⟩⟩
      . obtain ⟨y, _, rfl⟩ := Y0i.1 hc;rw [hl,hke]
      . have : cur'.size = cells.size := by rw [hcur]; simp [putCells]
        omega
      . rw [<- hke] at hj ⊢;have hi':i<xs.length:=by omega
        have hid:i<d'.size:=by omega
        rw [hget' i j hi' hj];obtain⟨r1,r2,r3⟩:=(d'[i]!).2;have hj':j<(d'[i]!).1.1.length:=by rw [r1]; exact hj
        have e3:((d'.toList.map fun p=>p.1.2).map enc).getD i []=enc (d'[i]!).1.2:=by
         rw [getElem!_pos d' i hid];simp [Y0b,hid]
        refine⟨?_,?_⟩
        . rw [Y0b, Y0c hj'];exact r2 _ (Y0j _)
        . show Rep F φ _ ((((d'.toList.map fun p => p.1.2).map enc).getD i []).getD j pvu);rw [e3];exact (r3 j hj).mono (fun _ _ h=>h) (fun i x hx=>by cases hx)
     have s2:=s1.adopt hg' (hhas _ hhb).1 hFn (s.del_no hh hl1 hhb) hl1 (fun _ _ h=>h) (fun _ _=>rfl) s.free (fun k' hk'=>by
      obtain⟨_,x,hx,rfl⟩:=hk';rw [hbase] at hx;cases hx
      rfl) hbx'
     have s3:=s2.turned (row:=none) (w':=grow ((Sort.ahead w m).setRow ad.block cur') os) ⟨rfl,rfl,rfl,by simp [grow],fun j hj _=>by unfold grow; exact YP hj⟩ (fun r hr=>by cases hr) (.inr fun r es t hr=>by cases hr) rfl (s2.marks.mono fun j hj=>by
      unfold grow;rw [YP (Y9.1 hj).1]
      exact hj)
     refine s3.sub (fun _ _ h=>h) fun i b hi=>?_;by_cases hid:i=ob
     . subst hid; rw [X0.upd_same] at hi ⊢; exact hi
     . rw [X0.upd_ne _ _ hid] at hi ⊢; rw [X0.del_ne _ hid]; exact hi
end
end
section
open Go.RowKit
section
variable {P:Program} {C:Ctx} {Fr:Nat->Prop} {e:Env} {h:X0} {F:XC} {φ:XE} {a:Act} {w:World}
def X41 (P:Program) (f:FuncId) (b:Bx) (args:List PV) (R:PV->Bx->Prop):Prop :=
 Xp P f 1 args (X0.upd (fun _=>none) 0 b) fun _ r h'=>∃ b',h' 0=some b'/\r.pure/\X2 b'.elems/\R r b'
def X4h (P:Program) (f:FuncId) (b:Bx) (args:List PV) (R:PV->Bx->Prop):Prop :=
 Xp P f 1 args (X0.upd (fun _=>none) 0 b) fun _ r h'=>∃ b',h' 0=some b'/\r.inn (· = 0)/\X2 b'.elems/\R r b'
theorem X41.vspec {f:FuncId} {b:Bx} {args:List PV} {R:PV->Bx->Prop} (hs:X41 P f b args R):X4h P f b args fun r b'=>r.pure/\R r b' :=
 Xp.mono hs fun _ r _ ⟨b',h1,h2,h3,h4⟩=>⟨b',h1,PV.inn_mono (fun _ h=>h.elim) r h2,h3,h2,h4⟩
theorem X4h.run {f:FuncId} {b:Bx} {args:List PV} {R:PV->Bx->Prop} (hs:X4h P f b args R) (hpb:X2 b.elems) (hpr:X26 (· = 0) args) (hb:h 0=some b) (s:St' C Fr e h F φ a w) {vs:Array Value} (hv:X1Y F φ vs args) :
 Calls P f vs w fun en w'=>∃ v r b' F',en=.returned v/\(r.inn (· = 0)/\X2 b'.elems/\R r b')/\Rep F' φ v r/\St' C Fr e (h.upd 0 b') F' φ a w':=by
 refine (X5e (R:=fun r b'=>r.inn (· = 0)/\R r b') (Xp.mono hs fun _ _ _ ⟨b',h1,h2,h3,h4⟩=>⟨b',h1,h3,h2,h4⟩) hpb hb s fun φ1 h1=>⟨hv.1,fun i hi=>(hv.2 i hi).inn (fun j x hj hx=>?_) (ZW hpr i)⟩).mono fun _ _ ⟨v,r,b',F',h1,⟨h2,h3,h4⟩,⟨_,h5,h6⟩,h7⟩=>⟨v,r,b',F',h1,⟨h3,h2,h4⟩,h6.inn (fun j x hj hx=>?_) h3,h7⟩
 . subst hj; rw [h1]; exact hx
 . subst hj; rw [<- h5]; exact hx
theorem X4h.ispec {f:FuncId} {b:Bx} {args:List PV} {R:PV->Bx->Prop} (hs:X4h P f b args R) (hpb:X2 b.elems) (hpr:X26 (· = 0) args) {n:Nat} (hb:h 0=some b):Xp P f n args h fun n' r h'=>n'=n/\∃ b',r.inn (· = 0)/\X2 b'.elems/\R r b'/\h'=h.upd 0 b':=by
 refine⟨hs.1,fun C e F φ a w vs s hv=>(hs.run hpb hpr hb s hv).mono ?_⟩;rintro en w' ⟨v,r,b',F',rfl,⟨h1,h2,h3⟩,hr,s'⟩;exact⟨v,r,n,h.upd 0 b',F',φ,rfl,⟨rfl,b',h1,h2,h3,rfl⟩,hr,s'⟩
theorem X41.ispec {f:FuncId} {b:Bx} {args:List PV} {R:PV->Bx->Prop} (hs:X41 P f b args R) (hpb:X2 b.elems) (hpr:X26 (· = 0) args) {n:Nat} (hb:h 0=some b):Xp P f n args h fun n' r h'=>n'=n/\∃ b',r.pure/\X2 b'.elems/\R r b'/\h'=h.upd 0 b':=by
 exact Xp.mono (hs.vspec.ispec hpb hpr hb) fun _ _ _ ⟨h1,b',_,h3,⟨h4,h5⟩,h6⟩=>⟨h1,b',h4,h3,h5,h6⟩
end
section
variable {P:Program} {C:Ctx} {Fr:Nat->Prop} {e:Env} {h:X0} {F:XC} {φ:XE} {a:Act} {w:World}
theorem X1a.ispec {f:FuncId} {args:List PV} {mk:Nat->PV} {b:Bx} (hs:X1a P f args mk b) (hmk:Mk mk) (hpb:X2 b.elems) (hpr:Xe args) {n:Nat}:Xp P f n args h fun n' r h'=>n'=n+1/\r=mk n/\h'=h.upd n b:=by
 refine⟨hs.1,fun C e F φ a w vs s hv=>(hs.run hmk hpb hpr (Y0m n) s hv).mono ?_⟩;rintro en w' ⟨v,F',φ',rfl,hr,s'⟩;exact⟨v,mk n,n+1,h.upd n b,F',φ',rfl,⟨rfl,rfl,rfl⟩,hr,{ s' with free:=fun i hi=>s'.free i ⟨by omega,by omega⟩ }⟩
theorem ZY {f nt:Nat} {ac:X3} {rs:List X2o} (hf:X46 P f nt ac rs) {args:List PV} {mk:Nat->PV} {b:Bx} (hn:args.length<=nt) (hk:∀ C:Ctx,C.dom 0->aw P C ac (X68 rs fun _ r h'=>∃ id,r=mk id/\h' id=some b) 0 (X1k args) (fun _=>none)):X1a P f args mk b:=ZX hf hn hk
theorem Z2m {f:Operand} {args:List Operand} {g:FuncId} {caps as0:List PV} {mk:Nat->PV} {b:Bx} {d:Option Nat} {os:List Xm} {n:Nat} {K:Nat->Env->X0->Prop} (hs:X1a P g (as0++caps) mk b) (hmk:Mk mk) (hpb:X2 b.elems) (hf:ev e f=some (.fn g caps)) (ha:evs e args=some as0) (hp:Xe (as0++caps))
 (hk:Xj P os (n+1) (Xq e d (mk n)) (h.upd n b) K):Xj P (⟨d,.call f args,none⟩ :: os) n e h K :=
 ZH hf ha (hs.ispec hmk hpb hp) fun n' r h' hh=>by obtain⟨rfl,rfl,rfl⟩:=hh; exact hk
end
theorem X1a.spec {P:Program} {f:FuncId} {args:List PV} {mk:Nat->PV} {b:Bx} (hs:X1a P f args mk b) (hpb:X2 b.elems) {q:PV} (hfr:∀ id,X3N id b.elems (mk id) q) (hq:q.pure):X7 P f args (· = q):=by
 refine⟨hs.1,fun F w vs hF hv=>?_⟩
 let C1:Ctx:=⟨w,fun _=>False,F,1,Xz⟩
 let a1:Act:={ tmps := #[undef],defers := [] }
 have s1:St' C1 (fun i=>0<=i) (fun _=>none) (fun _=>none) F Xz a1 w :=
  { nt:=rfl,glob:=hF.2,marks:=X2f.nil rfl,loc0:=fun i x hx=>hx,free:=fun i hi=>rfl,env:=fun k p hp=>(by cases hp),froz:=hF.1,ext:=fun _ _ h=>h,old:=fun _ _ _=>rfl,os:=rfl,tape:=rfl,output:=rfl,size:=Y0m _,kept:=fun _ _ _=>rfl,live:=fun i b0 hi=>(by cases hi),sep:=fun i j bi bj li lj k hi hj _ _ _ _=>(by cases hi) }
 refine (hs.2 C1 _ F Xz a1 w vs s1 hv).mono ?_;rintro en w' ⟨v,r,n',h',F',φ',rfl,⟨id,rfl,hb'⟩,hvr,s'⟩;have s2:=s'.put (d:=0) (show 0<1 by decide) hvr;obtain⟨F2,φ2,s3⟩:=Z4d (k:=0) (p:=mk id) (Env.upd_same _ _ _) hb' hpb (hfr id) _ _ ⟨F',φ',s2⟩;have hr:=(s3.env 0 q (Env.upd_same _ _ _)).2;exact⟨v,q,F2,rfl,rfl,Rep.pure (φ:=φ2) (φ':=Xz) hr hq,⟨s3.os,s3.tape,s3.output,s3.size,fun k hk=>s3.kept k hk fun h=>h⟩,⟨s3.froz,s3.glob⟩,s3.ext,fun x hx=>s3.old x hx fun h=>h⟩
section
variable {P:Program} {e:Env} {h:X0} {n:Nat} {K:Nat->Env->X0->Prop} {os:List Xm} {d:Option Nat}
theorem X7.ro {g:FuncId} {args:List PV} {i k:Nat} {b:Bx} {v:Value} (hs:X7 P g (args.set i (.vec b.elems false)) (· = .val v)) (hi:args[i]?=some (.own k)) (hb:h k=some b) (hpb:X2 b.elems) (hpr:Xe (args.set i (.vec b.elems false))) :
 Xp P g n args h fun n' r h'=>n'=n/\r=.val v/\h'=h:=by
 refine⟨hs.1,fun C e F φ a w vs s hv=>?_⟩
 let C1:Ctx:=⟨C.w0,C.G,C.F0,vs.size,C.φ0⟩
 let a1:Act:={ a with tmps:=vs }
 have s1:St' C1 (fun j=>n<=j) (X1k args) h F φ a1 w:=by
  refine { nt:=rfl,glob:=s.glob,marks:=⟨s.marks.nd,s.marks.all⟩,loc0:=s.loc0,free:=s.free,env:=fun j p hp=>?_,froz:=s.froz,ext:=s.ext,old:=s.old,os:=s.os,tape:=s.tape,output:=s.output,size:=s.size,kept:=s.kept,live:=s.live,sep:=s.sep };have hj:j<args.length:=(Yy.1 hp).1;refine⟨by show j<vs.size; rw [hv.1]; exact hj,?_⟩;have h1:=hv.2 j hj;have e2:args.getD j pvu=p:=by
   rw [Y0b];have hp':args[j]?=some p:=hp;rw [hp']; rfl
  rw [<- e2];exact h1
 obtain⟨F2,φ2,s2⟩:=Z4d (k:=i) (p:=.own k) (q:=.vec b.elems false) hi hb hpb .own a1 w ⟨F,φ,s1⟩;have hrep:X1Y F2 Xz vs (args.set i (.vec b.elems false)):=by
  refine⟨by rw [hv.1,Y3t],fun j hj=>?_⟩;have hj':j<args.length:=by rwa [Y3t] at hj
  have he:((X1k args).upd i (.vec b.elems false)) j=some ((args.set i (.vec b.elems false)).getD j pvu):=by
   by_cases hji:j=i
   . subst hji;rw [Env.upd_same,Y0b,List.getElem?_set_self hj']
     rfl
   . rw [Env.upd_ne _ _ hji, Y0b, List.getElem?_set_ne (Y2t hji)];show args[j]?=_;rw [Y0c hj']
     rfl
  exact Rep.pure (φ:=φ2) (φ':=Xz) (s2.env j _ he).2 (ZW hpr j)
 refine (hs.2 F2 w vs ⟨s2.froz,s2.glob⟩ hrep).mono ?_;rintro en w' ⟨v',r,F3,rfl,rfl,hr,hbel,-,-,-⟩;obtain rfl:v'=v:=hr.val_inv;exact⟨v',.val v',n,h,F,φ,rfl,⟨rfl,rfl,rfl⟩,.val _,s.called hbel (Holds.kept ⟨s.froz,s.glob⟩ hbel) (fun _ _ h=>h) fun _ _=>rfl⟩
theorem ZjH {f:Operand} {args:List Operand} {g:FuncId} {caps as0 args':List PV} {i k:Nat} {b:Bx} {v:Value} (hs:X7 P g args' (· = .val v)) (hf:ev e f=some (.fn g caps)) (ha:evs e args=some as0) (hi:(as0++caps)[i]?=some (.own k)) (hb:h k=some b) (hargs:(as0++caps).set i (.vec b.elems false)=args') (hpb:X2 b.elems) (hpr:Xe args')
 (hk:Xj P os n (Xq e d (.val v)) h K):Xj P (⟨d,.call f args,none⟩ :: os) n e h K:=by
 subst hargs;exact ZH hf ha (hs.ro hi hb hpb hpr) fun n' r h' hh=>by obtain⟨rfl,rfl,rfl⟩:=hh; exact hk
theorem Z2Y {neg:Bool} {x:Operand} (hx:(∃ l fl,ev e x=some (.vec l fl)) \/ ∃ k,ev e x=some (.own k)) (hz:h n=none) (hk:∀ b,Xj P os n (Xq e d (.val (.bool b))) h K):Xj P (⟨d,.isnil neg x,none⟩ :: os) n e h K:=by
 unfold Xj;exact⟨n,e,h,Z2w,.inl (ZfC hx fun b=>by rw [Z3T hz]; exact hk b)⟩
end
section
variable {P:Program} {C:Ctx} {e:Env} {h:X0} {n:Nat}
theorem Z22 {ob id i0 j0:Nat} {bo b:Bx} (hob:h ob=some bo) (hb:h id=some b) (hne:ob≠id) (hp:X2 b.elems) (hi0:i0<bo.elems.length) (hj0:j0<(bo.elems.getD i0 []).length) (hcell:(bo.elems.getD i0 []).getD j0 pvu=.own id) (hz:0<bo.esz:=by exact Y0 rfl) :
 Sub C n e h n e ((h.del id).upd ob ⟨bo.esz,bo.elems.set i0 ((bo.elems.getD i0 []).set j0 (.vec b.elems false))⟩):=by
 rintro a w ⟨F,φ,s⟩;obtain⟨v,hv,fin⟩:=s.cell (q:=.vec b.elems false) hob hi0 hj0 hz;rw [hcell] at hv;obtain⟨F',hx,s2,hr2⟩:=s.frzObj hb;exact⟨F',φ,fin hx (fun _ _ h=>h) (by rw [X0.del_ne _ hne]; exact hob) s2 (hr2 v hv)⟩
theorem Z1y {ob id i0 j0:Nat} {bo b:Bx} (hob:h ob=some bo) (hb:h id=some b) (hne:ob≠id) (hp:X2 b.elems) (hi0:i0<bo.elems.length) (hj0:j0<(bo.elems.getD i0 []).length) (hcell:(bo.elems.getD i0 []).getD j0 pvu=.own id) (hz:0<bo.esz:=by exact Y0 rfl) :
 X4C n e h n e ((h.del id).upd ob ⟨bo.esz,bo.elems.set i0 ((bo.elems.getD i0 []).set j0 (.vec b.elems false))⟩):=fun _=>Z22 hob hb hne hp hi0 hj0 hcell hz
end
end
section
open Go.RowKit
attribute [local irreducible] aw Xj dK
theorem Z6B {α:Type} {p:α->Bool}:∀ {xs:List α},(∃ x∈xs,p x=true)->∃ (i:Nat) (hi:i<xs.length),X35 p xs=(i:Int)/\p xs[i]=true
 | [],h=>by obtain⟨_,h,_⟩:=h; cases h
 | x :: xs, h => by
   by_cases hx:p x=true
   . exact⟨0,Y1g _,by simp [X35,hx],hx⟩
   . obtain ⟨y, hy, hp⟩ := h;obtain⟨i,hi,h1,h2⟩:=Z6B (p:=p) (xs:=xs) ⟨y,(Ye.1 hy).resolve_left fun e=>hx (e▸hp),hp⟩;refine⟨i+1,by rw [Y04]; omega,?_,h2⟩;have hn:¬ ((i:Int)<0):=by omega
     simp [X35,hx,h1,hn]
theorem Zef (xs:List Int) (v:Int) (fl:Bool):X7 Tryz.prog 255 [.vec (Xc xs) fl,.val (.int .i64 v)] (· = .val (.int .i64 (X35 (fun x=>v == x) xs))):=by
 have hnl:=Z19 xs;refine Yp ok255 fun C hC=>?_;refine Z3m (k:=0) rfl fun hmax=>?_;have hlm:xs.length<=Xd:=by rw [<- hnl]; exact hmax
 refine go ?_;refine Z3U (fun i=>i<=xs.length/\(xs.take i).any (fun x=>v == x)=false) (fun i=>xs.length-i) (fun i => [(0,.vec (Xc xs) fl),(1,.val (.int .i64 v)),(7,.val (.int .i64 (xs.length:Int))),(8,Yv i)]) 0 ⟨Y0l _,rfl⟩ ⟨rfl,rfl,by rw [<- hnl]; rfl,rfl,Yt⟩ ?_;rintro i ⟨hi,hno⟩;have hinc:IntKind.i64.wrap ((i:Int)+1)=((i+1:Nat):Int):=Y0v _ ⟨by omega,by simp only [Xd] at hlm; omega⟩
 iterate 2 (first|refine st ?_|(apply B<;>intro hb<;>try cases hb))
 refine Zx rfl rfl rfl (fun hb=>?_) (fun hb=>?_)
 . have hil : i < xs.length := by have := Y0u hb; omega
   clear hb;refine go ?_;refine Qo (Zk (xs:=xs) (g:=fun x => [.val (.int .i64 x)]) rfl rfl i rfl hil rfl) ?_
   iterate 1 (first|refine st ?_|(apply B<;>intro hb<;>try cases hb))
   refine Zx rfl rfl rfl (fun hx=>?_) (fun hx=>?_)
   . refine go ?_;exact Z4 rfl Yt (by rw [Z8B hil hno hx])
   . refine go ?_;exact⟨i+1,⟨by omega,Z8A hil hno hx⟩,by omega,rfl,rfl,⟨rfl,rfl,rfl,by show some _=some _; rw [hinc],Yt⟩⟩
 . have hil : i = xs.length := by have := YH hb; omega
   subst hil;rw [Y0q] at hno;refine go ?_;exact Z4 rfl Yt (by rw [Z4U hno]; rfl)
theorem Zi6 (f:Nat->Int):tab (X2F f)=Xc ((List.range 64).map f):=by rw [tab,Xc,Y40]; rfl
theorem Z8C {f:Nat->Int} {i:Nat} (v:Int) (hi:i<64):(tab (X2F f)).set i (XK ((tab (X2F f)).getD i []) 0 [.val (.int .i64 v)])=tab (X2F fun j=>if j=i then v else f j):=by
 rw [Z2Q hi,show XK (X2F f i) 0 [.val (.int .i64 v)] = [.val (.int .i64 v)] from rfl,Zg5 _ hi];refine Z3A fun j _=>?_;show (if j=i then [PV.val (.int .i64 v)] else X2F f j) = [PV.val (.int .i64 (if j=i then v else f j))];by_cases hj:j=i
 . rw [Y7 hj,Y7 hj]
 . rw [Y8 hj,Y8 hj]; rfl
theorem Z6C {f g:Nat->Int} (h:∀ j,j<64->f j=g j):tab (X2F f)=tab (X2F g):=Z3A fun j hj=>by show [PV.val (.int .i64 (f j))] = [PV.val (.int .i64 (g j))]; rw [h j hj]
def X3h (l:List Pr) (fp:Bool) (a b s:PV):Bx:=⟨5,[[.val (.int .i64 64),.vec (l.map prC) fp,a,b,s]]⟩
theorem ZF (l:List Pr):X2 (l.map prC):=Z17 Zd5 l
theorem Zeg (l:List Pr) (fp:Bool) (hl:X1R l) (hacy:Acy l) (hlen:l.length<=1000000) :
 X15 Tryz.prog 173 (X3h l fp (.vec [] true) (.vec [] true) (.vec [] true)) [] fun r b'=>r=.val (.bool true)/\∃ S,X3e l S/\S.length=64/\b'=X3h l fp (.vec [] true) (.vec [] true) (.vec (Xc (X9 S)) false):=by
 have hpl:∀ D,XG D (l.map prC):=fun D=>Zc (fun _ h=>h.elim) _ (ZF l);have hnl:(l.map prC).length=l.length:=by simp
 have hti:∀ (f:Nat->Int) D,XG D (tab (X2F f)):=fun f D=>Zc (fun _ h=>h.elim) _ (Z1B (Z4S f));refine ZE ok173 (Y0 rfl) fun C hC=>?_
 iterate 2 (first|refine st ?_|(apply B<;>intro hb<;>try cases hb))
 refine Zm (Z1w (id:=0) (i0:=0) (j0:=4) rfl (Y0 rfl) (Y0 rfl) rfl 1 (by decide) (by decide)) ?_;refine go ?_;refine Zv hC (fun i=>i<=l.length) (fun i=>l.length-i) 3 (fun i => [(0,.ptr 0 0 0),(3,.own 2),(17,.vec (l.map prC) fp),(18,.val (.int .i64 l.length)),(19,Yv i)])
  (fun i => [(0,X3h l fp (.vec [] true) (.vec [] true) (.own 1)),(1,⟨1,[]⟩),(2,⟨1,tab (X2F fun j=>(X3l (l.take i) j:Nat))⟩)]) (by omega) 0 (Y0l _)
  ⟨⟨rfl,show (0:Nat)<3 by decide⟩,⟨rfl,show (2:Nat)<3 by decide⟩,⟨rfl,hpl _⟩,⟨by rw [<- hnl]; rfl,Yt⟩,⟨rfl,Yt⟩,Yt⟩
  ⟨⟨by decide,rfl,⟨⟨Yt,hpl _,Yt,Yt,show (1:Nat)<3 by decide,Yt⟩,Yt⟩⟩,⟨by decide,rfl,Yt⟩,⟨by decide,by show some (Bx.mk 1 (List.replicate 64 (zpv [Value.int .i64 0])))=_; rw [ZjE]; rfl,hti _ _⟩,Yt⟩ ?_
 intro i hi;have hinc:IntKind.i64.wrap ((i:Int)+1)=((i+1:Nat):Int):=Y0v _ ⟨by omega,by omega⟩
 iterate 2 (first|refine st ?_|(apply B<;>intro hb<;>try cases hb))
 refine Zx rfl rfl rfl (fun hb=>?_) (fun hb=>?_)
 . have hil : i < l.length := by have := Y0u hb; omega
   have hp:=hl _ (Y0j hil);have hst:=fun j=>Zg4 hil j;have hcl:=ZjD (l.take i) l[i].2;rw [Y0o] at hcl;clear hb;refine go ?_;refine Qo (Zk (xs:=l) (g:=prC) rfl rfl i rfl hil rfl) ?_;generalize l[i]=p at hp hst hcl ⊢;refine go ?_;refine Qo (Z1d rfl rfl rfl p.2 rfl (by rw [Z15]; exact hp.2) rfl) ?_;refine Qo (Z4F (i:=p.2) rfl rfl (by rw [Z15]; exact hp.2) (by rw [Z2Q hp.2]; rfl)) ?_;refine go ?_;refine Qo (Z1d rfl rfl rfl p.2 rfl (by rw [Z15]; exact hp.2) rfl) ?_;refine Qo (Z3s (i:=p.2) rfl rfl rfl rfl rfl (by rw [Z15]; exact hp.2) (Y0m _)) ?_;refine go ?_;have hadd:IntKind.i64.wrap (((X3l (l.take i) p.2:Nat):Int)+1)=((X3l (l.take i) p.2+1:Nat):Int):=Y0v _ ⟨by omega,by omega⟩
   refine⟨i+1,by omega,by omega,⟨⟨rfl,show (0:Nat)<3 by decide⟩,⟨rfl,show (2:Nat)<3 by decide⟩,⟨rfl,hpl _⟩,⟨rfl,Yt⟩,⟨by show some _=some _; rw [hinc],Yt⟩,Yt⟩,
    ⟨⟨by decide,rfl,⟨⟨Yt,hpl _,Yt,Yt,show (1:Nat)<3 by decide,Yt⟩,Yt⟩⟩,⟨by decide,rfl,Yt⟩,⟨by decide,?_,hti _ _⟩,Yt⟩⟩
   show some (Bx.mk 1 ((tab (X2F fun j=>(X3l (l.take i) j:Nat))).set p.2 (XK ((tab (X2F fun j=>(X3l (l.take i) j:Nat))).getD p.2 []) 0 [.val (.int .i64 (IntKind.i64.wrap (((X3l (l.take i) p.2:Nat):Int)+1)))])))=some _;rw [Z8C _ hp.2,hadd];refine congrArg (fun t=>some (Bx.mk 1 t)) (Z6C fun j _=>?_);show (if j=p.2 then ((X3l (l.take i) p.2+1:Nat):Int) else ((X3l (l.take i) j:Nat):Int))=((X3l (l.take (i+1)) j:Nat):Int)
   rw [hst j];by_cases hj:j=p.2
   . rw [Y7 hj,Y7 hj,hj]
   . rw [Y8 hj,Y8 hj]
 . have hil : i = l.length := by have := YH hb; omega
   subst hil;rw [Y0q];clear hb;refine go ?_;refine Z1n hC (fun S:List Nat=>X3e l S) (fun S=>64-S.length) 3 (fun S => [(0,.ptr 0 0 0),(3,.own 2)])
    (fun S => [(0,X3h l fp (.vec [] true) (.vec [] true) (.own 1)),(1,⟨1,Xc (X9 S)⟩),(2,⟨1,tab (X2F (X1H l S))⟩)]) (by decide) [] (X3e.nil l) (fun i=>i) (fun _ _=>rfl) Z1a
    ⟨Qt 0 0 0,Qw 2,Yt⟩
    ⟨⟨by decide, _, rfl, X1w.single ⟨.pure _ Yt, .pure _ (ZF l), .pure _ Yt, .pure _ Yt, .own (ρ := fun i => i) 1 (by decide), Yt⟩ rfl⟩, Qs Yt,
      ⟨by decide,_,rfl,by rw [show X1H l []=fun j=>((X3l l j:Nat):Int) from funext (Zi3 l)]; exact .same _ (Z1B (Z4S _))⟩,Yt⟩ ?_
   intro S hT;have hSl:=hT.len;have hSn:(Xc (X9 S)).length=S.length:=by simp [Xc,X9]
   have hap:∀ (l:List Nat) D,XG D (Xc (X9 l)):=fun l D=>ZU _ D;refine gd 40 ⟨?_⟩;refine Zbg rfl rfl rfl (fun hb=>?_) (fun hb=>?_)
   . have hlt : S.length < 64 := by
      have h2:=Y0u hb;rw [hSn] at h2;omega
     clear hb;refine go ?_;obtain⟨j0,hj0,hjn,hjp⟩:=X7r hl hacy hT hlt;obtain⟨k,hk,hidx,hpk⟩:=Z6B (p:=fun x=>(0:Int) == x) (xs:=(List.range 64).map (X1H l S)) ⟨X1H l S j0,Y0i.2 ⟨j0,YZ.2 hj0,rfl⟩,by rw [Z7N.2 ⟨hjn,hjp⟩]; rfl⟩;have hk64:k<64:=by simpa using hk
     have hz:X1H l S k=0:=by
      have:=eq_of_beq hpk;rw [Y4a,Y2w] at this;exact this.symm
     obtain⟨hkS,hkp⟩:=Z7N.1 hz;refine ZjH (i:=0) (k:=2) (Zef ((List.range 64).map (X1H l S)) 0 false) rfl rfl rfl rfl (by show [PV.vec (tab (X2F (X1H l S))) false,PV.val (.int .i64 0)]=_; rw [Zi6]) (Z1B (Z4S _)) ⟨Zf _,Yt,Yt⟩ ?_;rw [hidx];have hT':=hT.snoc hkS hk64 hkp;refine go ?_
     . refine Qo (Z1d rfl rfl rfl k rfl (by rw [Z15]; exact hk64) rfl) ?_;refine Qo (Z3s (i:=k) rfl rfl rfl rfl rfl (by rw [Z15]; exact hk64) (Y0m _)) ?_;have e0:(tab (X2F (X1H l S))).set k (XK ((tab (X2F (X1H l S))).getD k []) 0 [.val (.int .i64 (-1))])=tab (X2F (X1d l S k 0)):=by
        rw [Z8C _ hk64];exact Z6C fun j _=>(Ze8 l S k j).symm
       refine go ?_
       refine ZB (Z11 (k:=1) (m := [[.val (.int .i64 (k:Int))]]) (fl:=true) (b:=⟨1,Xc (X9 S)⟩) rfl rfl rfl (fun r hr=>by rw [Y0g] at hr; subst hr; rfl) rfl (by
        show ((Xc (X9 S)).length+1)*8<=_
        rw [hSn];omega)) rfl rfl ?_
       refine go ?_;have hSk:Xc (X9 S) ++ [[PV.val (.int .i64 (k:Int))]]=Xc (X9 (S ++ [k])):=by simp [Xc,X9]
       refine Zv hC (fun i=>i<=l.length) (fun i=>l.length-i) 14 (fun i => [(0,.ptr 0 0 0),(3,.own 2),(6,.val (.int .i64 (k:Int))),(61,.vec (l.map prC) fp),(62,.val (.int .i64 l.length)),(63,Yv i)])
        (fun i => [(0,X3h l fp (.vec [] true) (.vec [] true) (.own 13)),(13,⟨1,Xc (X9 (S ++ [k]))⟩),(2,⟨1,tab (X2F (X1d l S k i))⟩)]) (by decide) 0 (Y0l _)
        ⟨⟨rfl,show (0:Nat)<14 by decide⟩,⟨rfl,show (2:Nat)<14 by decide⟩,⟨rfl,Yt⟩,⟨rfl,hpl _⟩,⟨by rw [<- hnl]; rfl,Yt⟩,⟨rfl,Yt⟩,Yt⟩
        ⟨⟨by decide,rfl,⟨⟨Yt,hpl _,Yt,Yt,show (13:Nat)<14 by decide,Yt⟩,Yt⟩⟩,⟨by decide,by rw [<- hSk]; rfl,hap _ _⟩,⟨by decide,by rw [<- e0]; rfl,hti _ _⟩,Yt⟩ ?_
       intro i hi;have hinc:IntKind.i64.wrap ((i:Int)+1)=((i+1:Nat):Int):=Y0v _ ⟨by omega,by omega⟩
       iterate 2 (first|refine st ?_|(apply B<;>intro hb<;>try cases hb))
       refine Zx rfl rfl rfl (fun hb=>?_) (fun hb=>?_)
       . have hil : i < l.length := by have := Y0u hb; omega
         have hp:=hl _ (Y0j hil);have hst:=fun j=>Ze9 hil j hT hkS hkp;clear hb;refine go ?_;refine Qo (Zk (xs:=l) (g:=prC) rfl rfl i rfl hil rfl) ?_;generalize l[i]=p at hp hst ⊢;have hbl:=Zi2 l S k i p.2;(refine go ?_;repeat' (apply B<;>intro hb<;>try cases hb))
         . have hpk1 : p.1 = k := by have := eq_of_beq hb; exact Y3e.1 this
           clear hb;refine Qo (Z1d rfl rfl rfl p.2 rfl (by rw [Z15]; exact hp.2) rfl) ?_;refine Qo (Z4F (i:=p.2) rfl rfl (by rw [Z15]; exact hp.2) (by rw [Z2Q hp.2]; rfl)) ?_;refine go ?_;refine Qo (Z1d rfl rfl rfl p.2 rfl (by rw [Z15]; exact hp.2) rfl) ?_;refine Qo (Z3s (i:=p.2) rfl rfl rfl rfl rfl (by rw [Z15]; exact hp.2) (Y0m _)) ?_;(refine go ?_;repeat' (apply B<;>intro hb<;>try cases hb));have hsub:IntKind.i64.wrap (X1d l S k i p.2-1)=X1d l S k i p.2-1:=Y0v _ ⟨by omega,by omega⟩
           refine⟨i+1,by omega,by omega,⟨⟨rfl,show (0:Nat)<14 by decide⟩,⟨rfl,show (2:Nat)<14 by decide⟩,⟨rfl,Yt⟩,⟨rfl,hpl _⟩,⟨rfl,Yt⟩,⟨by show some _=some _; rw [hinc],Yt⟩,Yt⟩,
            ⟨⟨by decide,rfl,⟨⟨Yt,hpl _,Yt,Yt,show (13:Nat)<14 by decide,Yt⟩,Yt⟩⟩,⟨by decide,rfl,hap _ _⟩,⟨by decide,?_,hti _ _⟩,Yt⟩⟩
           show some (Bx.mk 1 ((tab (X2F (X1d l S k i))).set p.2 (XK ((tab (X2F (X1d l S k i))).getD p.2 []) 0 [.val (.int .i64 (IntKind.i64.wrap (X1d l S k i p.2-1)))])))=some _;rw [Z8C _ hp.2,hsub];refine congrArg (fun t=>some (Bx.mk 1 t)) (Z6C fun j _=>?_);show (if j=p.2 then X1d l S k i p.2-1 else X1d l S k i j)=X1d l S k (i+1) j;rw [hst j];by_cases hj:j=p.2
           . rw [Y7 hj,Y7 ⟨hpk1,hj⟩,hj]
           . rw [Y8 hj,Y8 fun h=>hj h.2]
         . have hpk1 : ¬ p.1 = k := fun h => by rw [h] at hb; simp at hb
           clear hb
           refine⟨i+1,by omega,by omega,⟨⟨rfl,show (0:Nat)<14 by decide⟩,⟨rfl,show (2:Nat)<14 by decide⟩,⟨rfl,Yt⟩,⟨rfl,hpl _⟩,⟨rfl,Yt⟩,⟨by show some _=some _; rw [hinc],Yt⟩,Yt⟩,
            ⟨⟨by decide,rfl,⟨⟨Yt,hpl _,Yt,Yt,show (13:Nat)<14 by decide,Yt⟩,Yt⟩⟩,⟨by decide,rfl,hap _ _⟩,⟨by decide,?_,hti _ _⟩,Yt⟩⟩
           show some (Bx.mk 1 (tab (X2F (X1d l S k i))))=some _;refine congrArg (fun t=>some (Bx.mk 1 t)) (Z6C fun j _=>?_);rw [hst j,Y8 fun h=>hpk1 h.1]
       . have hil : i = l.length := by have := YH hb; omega
         subst hil;clear hb;refine go ?_
         refine⟨S ++ [k],mv 1 13,hT',by rw [Y0e,Y0s]; omega,Z3y (Y0m 1),Z1e rfl,
          ⟨Qt 0 0 0,Qw 2,Yt⟩,
          ⟨⟨by decide,_,rfl,X1w.single ⟨.pure _ Yt,.pure _ (ZF l),.pure _ Yt,.pure _ Yt,.own (ρ:=mv 1 13) 1 (by decide),Yt⟩ rfl⟩,Qs (Zf _),
          ⟨by decide,_,rfl,?_⟩,Yt⟩⟩
         rw [show tab (X2F (X1d l S k l.length))=tab (X2F (X1H l (S ++ [k]))) from Z6C fun j _=>Zg3 l S k j];exact .same _ (Z1B (Z4S _))
   . have h64 : S.length = 64 := by
      have h2:=YH hb;rw [hSn] at h2;omega
     clear hb;refine gd 2 ⟨?_⟩;refine Zm (Z1y (ob:=0) (id:=1) (i0:=0) (j0:=4) rfl rfl (by decide) (Zf _) (Y0 rfl) (Y0 rfl) rfl) ?_;refine go ?_;exact⟨_,_,rfl,.inl rfl,_,rfl,Yt,⟨⟨Yt,ZF l,Yt,Yt,Zf _,Yt⟩,Yt⟩,rfl,S,hT,h64,rfl⟩
end
section
open Go.RowKit
section
variable {P:Program} {C:Ctx} {e:Env} {h:X0}
theorem Zi8 (k k':Nat):mv k k' k=k':=by
 unfold mv;rw [show Nat.beq k k=true from Y2F k]; rfl
theorem Z5R {k k' i:Nat} (hi:i≠k):mv k k' i=i:=by
 have e1:Nat.beq i k=false:=YK.2 fun hb=>hi (Yw hb);unfold mv;rw [e1]; rfl
theorem ZbD {h0:X0} {D n0:Nat} (hD:D<n0) {g:Nat->Bx} {j0 new n':Nat} (hj:j0<64) (hnew:n0+64<=new) {r:Bx} (hr:X2 r.elems) (hg:∀ j,X2 (g j).elems) {e':Env} (he:∀ k p,e' k=some p->∃ p0,e k=some p0/\X1S (mv (n0+j0) new) (fun i=>i<n0+64) p0 p)
 (hb:∀ k b,h0 k=some b->k≠D->k<n0/\X1w (mv (n0+j0) new) (fun i=>i<n0+64) b b) {m:Nat} (hdom:C.dom m) (hm:m<=n0) :
 Sub C n' e ((((X1U h0 D n0 (fun j=>.own (n0+j)) 64 g).del (n0+j0)).upd new r).upd D ⟨1,((List.range 64).map fun j => [PV.own (n0+j)]).set j0 [.own new]⟩) (n0+64) e' (X1U h0 D n0 (fun j=>.own (n0+j)) 64 fun j=>if j=j0 then r else g j):=by
 have hcase:∀ k b,X1U h0 D n0 (fun j=>.own (n0+j)) 64 (fun j=>if j=j0 then r else g j) k=some b->k<n0+64:=fun k b hk=>by
  rcases Z7Q hD hk with⟨rfl,_⟩|⟨j,hj,rfl,_⟩|⟨h1,h2,h3⟩
  . omega
  . omega
  . have:=(hb k b h3 h1).1; omega
 refine Zi7 (mv (n0+j0) new) he (fun k b hk=>⟨hcase k b hk,?_⟩) (fun k k' b b' hk hk' hh=>?_) hdom (by omega) (fun i hi=>Z5R (by omega))
 . rcases Z7Q hD hk with ⟨rfl, rfl⟩ | ⟨j, hj2, rfl, rfl⟩ | ⟨h1, h2, h3⟩
   . rw [Z5R (by omega), X0.upd_same];refine⟨_,rfl,.gen _ _ Y2u rfl (by simp) (fun i hi=>?_) fun i q hi hq=>?_⟩
     . have hi' : i < 64 := by simpa using hi
       rw [Z4V _ hj,Z1q hi',Z1q hi']
       split<;>rfl
     . have hi' : i < 64 := by simpa using hi
       have hq0:q=0:=Nat.lt_one_iff.1 hq;subst hq0;rw [Z4V _ hj,Z1q hi',Z1q hi'];by_cases hij:i=j0
       . subst hij;rw [Y7 rfl];show X1S _ _ (.own new) (.own (n0+i));have:=X1S.own (ρ:=mv (n0+i) new) (D:=fun x=>x<n0+64) (n0+i) (by omega);rw [Zi8] at this;exact this
       . rw [Y8 hij];show X1S _ _ (.own (n0+i)) (.own (n0+i));have:=X1S.own (ρ:=mv (n0+j0) new) (D:=fun x=>x<n0+64) (n0+i) (by omega);rw [Z5R (by omega)] at this;exact this
   . by_cases hjj : j = j0
     . subst hjj;rw [Zi8,X0.upd_ne _ _ (by omega),X0.upd_same,Y7 rfl];exact⟨r,rfl,.same r hr⟩
     . rw [Z5R (by omega), X0.upd_ne _ _ (by omega), X0.upd_ne _ _ (by omega), X0.del_ne _ (by omega), Z2n _ hD _ _ hj2, Y8 hjj];exact⟨g j,rfl,.same _ (hg j)⟩
   . have h4 := hb k b h3 h1;rw [Z5R (by omega),X0.upd_ne _ _ h1,X0.upd_ne _ _ (by omega),X0.del_ne _ (by omega),Z2o _ _ _ h1 h2];exact⟨b,h3,h4.2⟩
 . have l1 := hcase k b hk;have l2:=hcase k' b' hk';by_cases e1:k=n0+j0
   . by_cases e2 : k' = n0 + j0
     . rw [e1,e2]
     . rw [e1,Zi8,Z5R e2] at hh; omega
   . by_cases e2 : k' = n0 + j0
     . rw [e2,Zi8,Z5R e1] at hh; omega
     . rw [Z5R e1,Z5R e2] at hh; exact hh
def X2h (n0 i:Nat) (g:Nat->Bx) (j:Nat):PV:=if j<i then .vec (g j).elems false else .own (n0+j)
theorem Zi9 {h0:X0} {D n0 i:Nat} (hD:D<n0) (h0n:∀ k,n0<=k->k<n0+64->h0 k=none) (g:Nat->Bx) (hi:i<64) :
 ((X1U h0 D (n0 + i) (X2h n0 i g) (64 - i) (fun q => g (i + q))).del (n0 + i)).upd D ⟨1, ((List.range 64).map fun j => [X2h n0 i g j]).set i ((((List.range 64).map fun j => [X2h n0 i g j]).getD i []).set 0 (.vec (g i).elems false))⟩
   = X1U h0 D (n0+(i+1)) (X2h n0 (i+1) g) (64-(i+1)) (fun q=>g (i+1+q)):=by
 funext k;rw [Z1q hi,Z4V _ hi];by_cases h2:k=D
 . subst h2;rw [X0.upd_same,Z2G];refine congrArg (fun l=>some (Bx.mk 1 l)) (Y2p fun j hj=>?_);unfold X2h;by_cases hji:j=i
   . subst hji; rw [Y7 rfl,Y7 (Y1S _)]; rfl
   . rw [Y8 hji];by_cases hlt:j<i
     . rw [Y7 hlt,Y7 (by omega)]
     . rw [Y8 hlt,Y8 (by omega)]
 . rw [X0.upd_ne _ _ h2];by_cases h1:k=n0+i
   . subst h1;rw [X0.del_same,Z2o _ _ _ h2 (by omega),h0n _ (by omega) (by omega)]
   . rw [X0.del_ne _ h1];by_cases h3:n0+(i+1)<=k/\k<n0+64
     . obtain ⟨q, rfl⟩ : ∃ q, k = n0 + (i + 1) + q := ⟨k - (n0 + (i + 1)), by omega⟩;rw [Z2n _ (by omega) _ _ (by omega:q<64-(i+1)),show n0+(i+1)+q=n0+i+(q+1) by omega,Z2n _ (by omega) _ _ (by omega:q+1<64-i)];rw [show i+(q+1)=i+1+q by omega]
     . rw [Z2o _ _ _ h2 (by omega),Z2o _ _ _ h2 (by omega)]
theorem Z8D {h0:X0} {D n0 n k:Nat} (hD:D<n0) (h0n:∀ k,n0<=k->k<n0+64->h0 k=none) (hk:e k=some (.own D)) {g:Nat->Bx} (hg:∀ j,X2 (g j).elems) :
 Sub C n e (X1U h0 D n0 (fun j=>.own (n0+j)) 64 g) n (e.upd k (.vec ((List.range 64).map fun j => [.vec (g j).elems false]) false)) (h0.del D):=by
 have key:∀ i,i<=64->Sub C n e (X1U h0 D n0 (fun j=>.own (n0+j)) 64 g) n e (X1U h0 D (n0+i) (X2h n0 i g) (64-i) (fun q=>g (i+q))):=by
  intro i
  induction i with
  | zero =>
    intro _;have e1:X1U h0 D (n0+0) (X2h n0 0 g) (64-0) (fun q=>g (0+q))=X1U h0 D n0 (fun j=>.own (n0+j)) 64 g:=by
     have e2:(fun q=>g (0+q))=g:=funext fun q=>by rw [YQ]
     rw [e2]
     rfl
    rw [e1];exact Z8k
  | succ i ih =>
    intro hi;have hi':i<64:=by omega
    refine Z6h (ih (by omega)) ?_;rw [<- Zi9 hD h0n g hi'];have hrow:=Z2n h0 (D:=D) (n:=n0+i) (by omega) (X2h n0 i g) (K:=64-i) (fun q=>g (i+q)) (j:=0) (by omega);refine Z22 (ob:=D) (id:=n0+i) (i0:=i) (j0:=0) (bo:=⟨1,(List.range 64).map fun j => [X2h n0 i g j]⟩) (b:=g i) (Z2G _ _ _ _ _ _) hrow (by omega) (hg i) (by simpa using hi') (by rw [Z1q hi']; exact Y2u) ?_;rw [Z1q hi'];show X2h n0 i g i=_;unfold X2h;rw [Y8 (Nat.lt_irrefl i)]
 have last:=key 64 (Y0m _);have htab:X1U h0 D (n0+64) (X2h n0 64 g) (64-64) (fun q=>g (64+q)) D=some ⟨1,(List.range 64).map fun j => [PV.vec (g j).elems false]⟩:=by
  rw [Z2G];refine congrArg (fun l=>some (Bx.mk 1 l)) (Y2p fun j hj=>?_);unfold X2h;rw [Y7 (YZ.1 hj)]
 have hpl:X2 ((List.range 64).map fun j => [PV.vec (g j).elems false]):=by
  refine (Z25 _ _).2 fun r hr=>?_;obtain⟨j,_,rfl⟩:=Y0i.1 hr;exact⟨hg j,Yt⟩
 have fz:=Z7w (C:=C) (n:=n) hk htab hpl;have e3:(X1U h0 D (n0+64) (X2h n0 64 g) (64-64) (fun q=>g (64+q))).del D=h0.del D:=by
  funext q;by_cases hq:q=D
  . subst hq; rw [X0.del_same,X0.del_same]
  . rw [X0.del_ne _ hq,X0.del_ne _ hq,Z2o _ _ _ hq (by omega)]
 rw [e3] at fz;exact Z6h last fz
end
end
section
open Go.RowKit
attribute [local irreducible] aw Xj dK
def X1i (l:List Pr) (j:Nat):List Nat:=(l.filter fun p=>p.2 == j).map (·.1)
theorem Zga {l:List Pr} {i:Nat} (hi:i<l.length) (j:Nat):X1i (l.take (i+1)) j=if j=l[i].2 then X1i (l.take i) j ++ [l[i].1] else X1i (l.take i) j:=by
 have e:l.take (i+1)=l.take i ++ [l[i]]:=by rw [YI,Y0c hi]; rfl
 unfold X1i;rw [e,Y34];by_cases h:j=l[i].2
 . rw [Y7 h,List.filter_cons_of_pos (by simp [h])]; simp
 . rw [Y8 h,List.filter_cons_of_neg (by simp [Y2t h])]; simp
theorem Z65 {l:List Pr} {a j:Nat}:a∈X1i l j↔(a,j)∈l:=by
 unfold X1i;rw [Y0i];constructor
 . rintro ⟨p, hp, rfl⟩;obtain⟨h1,h2⟩:=Y1E.1 hp;have:=eq_of_beq h2;rw [<- this]; exact h1
 . intro h;exact⟨(a,j),Y1E.2 ⟨h,by simp⟩,rfl⟩
theorem Zd6 (l:List Pr) (j:Nat):(X1i l j).length<=l.length:=by
 unfold X1i;rw [Y0f];exact Y2H _ _
def X3H (l:List Pr) (j:Nat):Bx:=⟨1,Xc (X9 (X1i l j))⟩
theorem Z9X (l:List Pr) (j:Nat):X2 (X3H l j).elems:=Zf _
def X2B (f:Nat->Nat) (j:Nat):List PV := [.vec (X8 (Xt (f j))) false]
theorem Z1O (f:Nat->Nat) (j:Nat):Xe (X2B f j):=⟨ZA _,Yt⟩
theorem ZjI {k m n it mask:Nat} {un:List Nat} (h1:k<n) (h2:m.testBit it=true):X1W ⟨none,[(k,m)],un,none⟩ n it mask k=true:=by
 have e1:Nat.blt k n=true:=Eq.mpr Y4r h1;simp [X1W,X6t,X5Y,X3K,e1,h2]
theorem Zd7 {k k' m n it mask:Nat} {un:List Nat} (h1:k<n) (h2:k≠k'):X1W ⟨none,[(k',m)],un,none⟩ n it mask k=true:=by
 have e1:Nat.blt k n=true:=Eq.mpr Y4r h1;have e2:Nat.beq k k'=false:=YK.2 fun hb=>h2 (Yw hb);simp only [X1W,X6t,X5Y,X3K,e1,e2]
 rfl
theorem ZkU {k m n it iso:Nat} {un:List Nat} (h:m &&& un.getD it 0=0):okW ⟨none,[(k,m)],un,none⟩ n it iso k=true:=by
 have e1:Nat.beq k k=true:=Y2F k;have e2:X3S ⟨none,[(k,m)],un,none⟩ it k=true:=by
  unfold X3S X3K;rw [e1];show Nat.beq (m &&& un.getD it 0) 0=true;rw [h]; rfl
 unfold okW;rw [e2,Bool.or_true]
theorem Zia {q m:Nat} (q':Nat) {un:List Nat} {l:List X5}:X4E ⟨none,[(q,m)],un,none⟩ l=X4E ⟨none,[(q',m)],un,none⟩ l:=rfl
theorem X7N {z:Rsv} {zz:List Value} {b:Nat} {s x:Operand} {e:Env} {n it mask iso k:Nat} (hs:ev e s=some (.own k)) (h1:X1W z n it mask k=true) (h2:okW z n it iso k=true):X10 z (.append zz b s x) e n it mask iso=true:=by
 simp [X10,hs,h1,h2]
theorem X75 {z:Rsv} {b:Nat} {s x:Operand} {e:Env} {n it mask iso k:Nat} (hs:ev e s=some (.own k)) (h1:X1W z n it mask k=true):X10 z (.iaddr b s x) e n it mask iso=true:=by
 simp [X10,hs,X1L,h1]
theorem X7H {z:Rsv} {g:Bool} {b:Nat} {s:Operand} {e:Env} {n it mask iso k i off:Nat} (hs:ev e s=some (.ptr k i off)) (h1:X1W z n it mask k=true):X10 z (.load g b s) e n it mask iso=true:=by
 simp [X10,hs,X1L,h1]
theorem X7v {z:Rsv} {b:Nat} {s v:Operand} {e:Env} {n it mask iso k i off:Nat} (hs:ev e s=some (.ptr k i off)) (h1:X1W z n it mask k=true) (h2:iso.testBit 0=true):X10 z (.store b s v) e n it mask iso=true:=by
 simp [X10,hs,X1L,X52,okW,h1,h2]
def X2R (l:List Pr) (fp:Bool) (S:List Nat):X0:=Xs [(0,X3h l fp (.own 7) (.own 12) (.vec (Xc (X9 S)) false)),(7,⟨1,List.replicate 64 [.vec [] true]⟩),(12,⟨1,List.replicate 64 [.vec [] true]⟩),(19,⟨1,List.replicate 64 [.vec [] true]⟩)]
noncomputable def aS (l:List Pr) (rs:List Nat):Nat:=rs.foldl (fun o a=>(o ||| abv l a) ||| 2 ^ a) 0
theorem ZjJ (l:List Pr) (rs:List Nat) (a:Nat):aS l (rs ++ [a])=(aS l rs ||| abv l a) ||| 2 ^ a:=by simp [aS,Y2C]
theorem Zgb (l:List Pr) (b:Nat):∀ (rs:List Nat) (o:Nat),(rs.foldl (fun o a=>(o ||| abv l a) ||| 2 ^ a) o).testBit b=true↔o.testBit b=true \/ ∃ a∈rs,(abv l a).testBit b=true \/ b=a
 | [],o=>by simp
 | a :: rs, o => by
   rw [Y1d,Zgb l b rs,Y00,Y00,YO,YO,YJ,Y1q];constructor
   . rintro (((h | h) | h) | ⟨x, hx, h⟩)
     . exact .inl h
     . exact .inr ⟨a,Y0t ..,.inl h⟩
     . exact .inr ⟨a,Y0t ..,.inr h.symm⟩
     . exact .inr ⟨x,YC _ hx,h⟩
   . rintro (h | ⟨x, hx, h⟩)
     . exact .inl (.inl (.inl h))
     . rcases Ye.1 hx with rfl | hx
       . rcases h with h | h
         . exact .inl (.inl (.inr h))
         . exact .inl (.inr h.symm)
       . exact .inr ⟨x,hx,h⟩
theorem ZjK (l:List Pr):∀ (rs:List Nat) (o:Nat),(∀ a∈rs,a<64)->o<18446744073709551616->rs.foldl (fun o a=>(o ||| abv l a) ||| 2 ^ a) o<18446744073709551616
 | [],o,_,ho=>ho
 | a :: rs, o, h, ho => by
   rw [Y1d];exact ZjK l rs _ (fun x hx=>h x (YC _ hx)) (Z5Q (Z5Q ho (Z7M l a)) (Z2k (h a (Y0t ..))))
theorem ZbE {l:List Pr} (hl:X1R l) {a j:Nat} (h:a∈X1i l j):a<64:=(hl _ (Z65.1 h)).1
theorem Zkq {l:List Pr} (hl:X1R l) (b:Nat):aS l (X1i l b)=abv l b:=by
 refine X6a (ZjK l _ 0 (fun a ha=>ZbE hl ha) (by decide)) (Z7M l b) fun i hi=>?_;rw [YS,Z8u hl,Zko];unfold aS;rw [Zgb];constructor
 . rintro (h | ⟨a, ha, h⟩)
   . simp at h
   . exact⟨a,Z65.1 ha,h.elim (fun h=>.inr ((Z8u hl i a).1 h)) .inl⟩
 . rintro ⟨c, hc, h⟩;exact .inr ⟨c,Z65.2 hc,h.elim .inr fun h=>.inl ((Z8u hl i c).2 h)⟩
noncomputable def X33 (l:List Pr) (S:List Nat) (t j:Nat):Nat:=if j∈S.take t then abv l j else 0
open Classical in
noncomputable def X2D (l:List Pr) (S:List Nat) (t j:Nat):Nat:=ofP (fun b=>decide (b∈S.take t/\Up l j b)) 64
theorem Z4j (l:List Pr) (S:List Nat) (t j:Nat):X2D l S t j<18446744073709551616:=Zg2 _
theorem Z4W (l:List Pr) (S:List Nat) (t j b:Nat):(X2D l S t j).testBit b=true↔b<64/\b∈S.take t/\Up l j b:=by
 unfold X2D;rw [Z8t];simp only [Y0k,Y0n]
theorem Z6D {S:List Nat} {t:Nat} (ht:t<S.length):S.take (t+1)=S.take t ++ [S[t]]:=by rw [YI,Y0c ht]; rfl
theorem Zgc {l:List Pr} {S:List Nat} {t:Nat} (ht:t<S.length) (j:Nat):X33 l S (t+1) j=if j=S[t] then abv l S[t] else X33 l S t j:=by
 unfold X33;rw [Z6D ht];by_cases h:j=S[t]
 . rw [Y7 (Y0h.2 (.inr (Y0g.2 h))),Y7 h,h]
 . rw [Y8 h];by_cases h2:j∈S.take t
   . rw [Y7 (List.mem_append_left _ h2),Y7 h2]
   . rw [Y8 (fun hh=>(Y0h.1 hh).elim h2 fun h3=>h (Y0g.1 h3)),Y8 h2]
theorem Zd8 {S:List Nat} (hn:S.Nodup) {t:Nat} (ht:t<S.length):S[t] ∉ S.take t:=by
 intro h;obtain⟨i,hi,he⟩:=YE h;rw [Y0o] at hi;rw [List.getElem_take] at he;exact (Y1W.1 hn) i t (by omega) ht (by omega) he
theorem Zib {l:List Pr} {S:List Nat} (hn:S.Nodup) {t:Nat} (ht:t<S.length):X33 l S t S[t]=0:=Y8 (Zd8 hn ht)
theorem Zic {l:List Pr} {S:List Nat} {t a:Nat} (h:a∈S.take t):X33 l S t a=abv l a:=Y7 h
theorem Zgd {l:List Pr} (hl:X1R l) {S:List Nat} {t:Nat} (ht:t<S.length) (h64:S[t]<64) (j:Nat):X2D l S (t+1) j=if j∈mem (abv l S[t]) then X2D l S t j ||| 2 ^ S[t] else X2D l S t j:=by
 have hm:j∈mem (abv l S[t])↔Up l j S[t]:=by rw [Z5o (Z7M l _),Z8u hl]
 refine X6a (Z4j ..) (by split; exact Z5Q (Z4j ..) (Z2k h64); exact Z4j ..) fun b hb=>?_;rw [YS,Z4W,Z6D ht];by_cases h:Up l j S[t]
 . rw [Y7 (hm.2 h), Y00, YO, Z4W, YJ, Y1q, Y0h, Y0g];constructor
   . rintro ⟨h1, h2 | h2, h3⟩
     . exact .inl ⟨h1,h2,h3⟩
     . exact .inr h2.symm
   . rintro (⟨h1, h2, h3⟩ | h2)
     . exact⟨h1,.inl h2,h3⟩
     . subst h2; exact⟨hb,.inr rfl,h⟩
 . rw [Y8 fun hh => h (hm.1 hh), Z4W, Y0h, Y0g];constructor
   . rintro ⟨h1, h2 | h2, h3⟩
     . exact⟨h1,h2,h3⟩
     . subst h2; exact absurd h3 h
   . rintro⟨h1,h2,h3⟩; exact⟨h1,.inl h2,h3⟩
theorem Zid {l:List Pr} {S:List Nat} (hS:X3e l S) (h64:S.length=64) {j:Nat} (hj:j<64):X33 l S 64 j=abv l j:=by
 unfold X33;rw [<- h64,Y0q,Y7 (hS.all h64 hj)]
theorem Zie {l:List Pr} (hl:X1R l) {S:List Nat} (hS:X3e l S) (h64:S.length=64) (j:Nat):X2D l S 64 j=bel l j:=by
 refine X6a (Z4j ..) (Zkp ..) fun b hb=>?_;rw [YS,Z4W,ZjC hl,<- h64,Y0q];exact⟨fun h=>h.2.2,fun h=>⟨by omega,hS.all h64 hb,h⟩⟩
theorem Z3B {f g:Nat->Nat} (h:∀ j,j<64->f j=g j):tab (X2B f)=tab (X2B g):=Z3A fun j hj=>by show [PV.vec (X8 (Xt (f j))) false] = [PV.vec (X8 (Xt (g j))) false]; rw [h j hj]
theorem Zd9 {f:Nat->Nat} {i v:Nat} (hi:i<64):(tab (X2B f)).set i (XK ((tab (X2B f)).getD i []) 0 [.vec (X8 (Xt v)) false])=tab (X2B fun j=>if j=i then v else f j):=by
 rw [Z2Q hi,show XK (X2B f i) 0 [.vec (X8 (Xt v)) false] = [.vec (X8 (Xt v)) false] from rfl,Zg5 _ hi];refine Z3A fun j _=>?_;show (if j=i then [PV.vec (X8 (Xt v)) false] else X2B f j) = [PV.vec (X8 (Xt (if j=i then v else f j))) false];by_cases hj:j=i
 . rw [Y7 hj,Y7 hj]
 . rw [Y8 hj,Y8 hj]; rfl
theorem Zge (l:List Pr) (S:List Nat) (j:Nat):X2D l S 0 j=0:=by
 refine X6a (Z4j ..) (by decide) fun b hb=>?_;rw [YS,Z4W];simp
theorem ZbF (l:List Pr) (fp:Bool) (hl:X1R l) (hlen:l.length<=1000000) (S:List Nat) (hS:X3e l S) (h64:S.length=64) :
 X15 Tryz.prog 174 (X3h l fp (.vec [] true) (.vec [] true) (.vec (Xc (X9 S)) false)) [] fun r b'=>r=.tup []/\b'=X3h l fp (.vec (tab (X2B (abv l))) false) (.vec (tab (X2B (bel l))) false) (.vec (Xc (X9 S)) false):=by
 have hpl:∀ D,XG D (l.map prC):=fun D=>Zc (fun _ h=>h.elim) _ (ZF l);have hnl:(l.map prC).length=l.length:=by simp
 have hti:∀ (f:Nat->Nat) D,XG D (tab (X2B f)):=fun f D=>Zc (fun _ h=>h.elim) _ (Z1B (Z1O f));have hap:∀ (l:List Nat) D,XG D (Xc (X9 l)):=fun l D=>ZU _ D;have hSn:(Xc (X9 S)).length=S.length:=by simp [Xc,X9]
 refine ZE ok174 (Y0 rfl) fun C hC=>?_;refine Zn ?_;refine Z8 ?_;refine Z5 rfl rfl rfl ?_;refine Z1h ?_;refine Zn ?_;refine Z8j [] [(0,148512)] [262143,262143,262143,262143,262143,262143,262143,262143,262143,262143,262143,262143,262143,262143,2050,262143,262143,0] (by kernel_rfl) ?_;refine go ?_;refine Z5i hC (n':=20) [(1,.cp [.ptr 0 0 0]),(2,.own 19),(34,.vec (l.map prC) fp),(35,.val (.int .i64 l.length)),(36,.val (.int .i64 ((0:Nat):Int)))]
  [(0,X3h l fp (.own 7) (.own 12) (.vec (Xc (X9 S)) false)),(7,⟨1,List.replicate 64 [.vec [] true]⟩),(12,⟨1,List.replicate 64 [.vec [] true]⟩),(19,⟨1,List.replicate 64 [.vec [] true]⟩)] (by decide)
  ⟨⟨rfl,show (0:Nat)<20 by decide,Yt⟩,⟨rfl,show (19:Nat)<20 by decide⟩,⟨rfl,hpl _⟩,⟨by rw [<- hnl]; rfl,Yt⟩,⟨rfl,Yt⟩,Yt⟩ ?_ ?_
 . exact⟨⟨by decide,rfl,⟨⟨Yt,hpl _,show (7:Nat)<20 by decide,show (12:Nat)<20 by decide,hap _ _,Yt⟩,Yt⟩⟩,⟨by decide,rfl,ZP rfl |> Zc (fun _ h=>h.elim) _⟩,⟨by decide,rfl,ZP rfl |> Zc (fun _ h=>h.elim) _⟩,⟨by decide,rfl,ZP rfl |> Zc (fun _ h=>h.elim) _⟩,Yt⟩
 refine Z1p (Zeh (n:=20) (D:=19) (by decide) rfl 1 (by decide)) ?_;show aw _ C _ _ 84 _ (X1U (X2R l fp S) 19 20 (fun j=>.own (20+j)) 64 (X3H (l.take 0)));have hbs:∀ k b,X2R l fp S k=some b->k≠19->(k=0/\b=X3h l fp (.own 7) (.own 12) (.vec (Xc (X9 S)) false)) \/ ((k=7 \/ k=12)/\b=⟨1,List.replicate 64 [.vec [] true]⟩):=by
  intro k b hk h19;have:=Z1s hk;simp only [Ye,Y2s,Y1z,Y2Y] at this;rcases this with h|h|h|h
  . exact .inl h
  . exact .inr ⟨.inl h.1,h.2⟩
  . exact .inr ⟨.inr h.1,h.2⟩
  . exact absurd h.1 h19
 have hren:∀ k0 k',20<=k0->∀ k b,X2R l fp S k=some b->k≠19->k<20/\X1w (mv k0 k') (fun i=>i<20+64) b b:=by
  intro k0 k' hk0 k b hk h19;have o7:=X1S.own (ρ:=mv k0 k') (D:=fun i=>i<20+64) 7 (by omega);have o12:=X1S.own (ρ:=mv k0 k') (D:=fun i=>i<20+64) 12 (by omega);rw [Z5R (by omega)] at o7 o12;rcases hbs k b hk h19 with⟨rfl,rfl⟩|⟨h,rfl⟩
  . exact⟨by omega,X1w.single ⟨.pure _ Yt,.pure _ (ZF l),o7,o12,.pure _ (Zf _),Yt⟩ rfl⟩
  . exact⟨by omega,.same _ (ZP rfl)⟩
 refine Z8h (fun i=>i<=l.length) (fun i=>l.length-i) (fun _=>84) (fun i=>X1F [(1,.cp [.ptr 0 0 0]),(2,.own 19),(34,.vec (l.map prC) fp),(35,.val (.int .i64 l.length)),(36,Yv i)]) (fun i=>X1U (X2R l fp S) 19 20 (fun j=>.own (20+j)) 64 (X3H (l.take i))) 0 (Y0l _) Z8k ?_;intro i hi;have hinc:IntKind.i64.wrap ((i:Int)+1)=((i+1:Nat):Int):=Y0v _ ⟨by omega,by omega⟩;refine gd 37 ⟨?_⟩;refine Zx rfl rfl rfl (fun hb=>?_) (fun hb=>?_)
 . have hil : i < l.length := by have := Y0u hb; omega
   have hp:=hl _ (Y0j hil);have hst:=fun j=>Zga hil j;have hdl:=Zd6 (l.take i) l[i].2;rw [Y0o] at hdl;clear hb;refine go ?_;refine Qo (Zk (xs:=l) (g:=prC) rfl rfl i rfl hil rfl) ?_;generalize l[i]=p at hp hst hdl ⊢
   iterate 4 (first|refine st ?_|(apply B<;>intro hb<;>try cases hb))
   refine Z1p (Z2j (k:=4) (id:=84) (esz:=2) (l:=prC p) rfl rfl) ?_;refine Z1p (ZhO (h':=X1U (X2R l fp S) 19 20 (fun j=>.own (20+j)) 64 (X3H (l.take i))) fun k b hk=>?_) ?_
   . have hne : k ≠ 84 := fun h => by
      rw [h,show X1U (X2R l fp S) 19 20 (fun j=>PV.own (20+j)) 64 (X3H (l.take i)) 84=none from rfl] at hk;cases hk
     rw [X0.del_ne _ hne,X0.upd_ne _ _ hne,X0.upd_ne _ _ hne];exact hk
   refine Z8j [] [(20+p.2,2048)] [16383,16383,16383,16383,16383,16383,16383,16383,16383,16383,16383,4,16383,16383] ((Zia 0).trans (by kernel_rfl)) ?_;have hT19:∀ g,X1U (X2R l fp S) 19 20 (fun j=>PV.own (20+j)) 64 g 19=some ⟨1,(List.range 64).map fun j => [PV.own (20+j)]⟩:=fun g=>Z2G _ _ _ _ _ _;have hlen64:∀ f:Nat->List PV,((List.range 64).map f).length=64:=fun f=>by simp
   refine gd 46 ⟨?_⟩;refine Zu (Z1d rfl rfl (hT19 _) p.2 rfl (by rw [hlen64]; exact hp.2) rfl) (X75 rfl (Zd7 (by omega) (by omega))) rfl ?_;refine Zu (Z4F (p:=.own (20+p.2)) (i:=p.2) rfl (hT19 _) (by rw [hlen64]; exact hp.2) (by rw [Z1q hp.2]; rfl)) (X7H rfl (Zd7 (by omega) (by omega))) rfl ?_;refine gd 51 ⟨?_⟩
   refine Zu (Z11 (k:=20+p.2) (m := [[.val (.int .i64 (p.1:Int))]]) (fl:=true) (b:=X3H (l.take i) p.2) rfl rfl (Z2n _ (by decide) _ _ hp.2) (fun r hr=>by rw [Y0g] at hr; subst hr; rfl) rfl (by
    show ((Xc (X9 (X1i (l.take i) p.2))).length+1)*8<=_;have:(Xc (X9 (X1i (l.take i) p.2))).length=(X1i (l.take i) p.2).length:=by simp [Xc,X9]
    omega)) (X7N rfl (ZjI (by show _<85;omega) rfl) (ZkU rfl)) rfl ?_
   have hT19b:∀ (g:Nat->Bx) (b:Bx),((X1U (X2R l fp S) 19 20 (fun j=>PV.own (20+j)) 64 g).del (20+p.2)).upd 96 b 19=some ⟨1,(List.range 64).map fun j => [PV.own (20+j)]⟩:=fun g b=>by
    rw [X0.upd_ne _ _ (by decide),X0.del_ne _ (by omega)]; exact hT19 g
   refine Zu (Z1d rfl rfl (hT19b _ _) p.2 rfl (by rw [hlen64]; exact hp.2) rfl) (X75 rfl (Zd7 (by show _<85;omega) (by omega))) rfl ?_;refine Zu (Z3s (i:=p.2) rfl rfl (hT19b _ _) rfl rfl (by rw [hlen64]; exact hp.2) (Y0m _)) (X7v rfl (Zd7 (by show _<85;omega) (by omega)) rfl) rfl ?_;refine Z6k ?_;have es:XK (((List.range 64).map fun j => [PV.own (20+j)]).getD p.2 []) 0 (PV.own 96).cells = [.own 96]:=by rw [Z1q hp.2]; rfl
   have hfun:(fun j=>if j=p.2 then (⟨1,(X3H (l.take i) p.2).elems ++ [[.val (.int .i64 (p.1:Int))]]⟩:Bx) else X3H (l.take i) j)=X3H (l.take (i+1)):=by
    funext j;unfold X3H;rw [hst j];by_cases hj:j=p.2
    . rw [Y7 hj, Y7 hj, hj];simp [Xc,X9]
    . rw [Y8 hj,Y8 hj]
   have o19:=X1S.own (ρ:=mv (20+p.2) 96) (D:=fun i=>i<20+64) 19 (by omega);rw [Z5R (by omega)] at o19;have hrp:X2 ((X3H (l.take i) p.2).elems ++ [[PV.val (.int .i64 (p.1:Int))]]):=by
    have:(X3H (l.take i) p.2).elems ++ [[PV.val (.int .i64 (p.1:Int))]]=Xc (X9 (X1i (l.take i) p.2 ++ [p.1])):=by simp [X3H,Xc,X9]
    rw [this]; exact Zf _
   have hsub:=fun (e:Env) (he:X4R (mv (20+p.2) 96) e (20+64) [(1,.cp [.ptr 0 0 0]),(2,.own 19),(34,.vec (l.map prC) fp),(35,.val (.int .i64 l.length)),(36,Yv i)]) =>
    ZbD (C:=C) (h0:=X2R l fp S) (D:=19) (n0:=20) (n':=99) (e:=e) (by decide) (g:=X3H (l.take i)) (j0:=p.2) (new:=96) hp.2 (by decide) (r:=⟨1,(X3H (l.take i) p.2).elems ++ [[.val (.int .i64 (p.1:Int))]]⟩) hrp (Z9X _)
     (e':=X1F [(1,.cp [.ptr 0 0 0]),(2,.own 19),(34,.vec (l.map prC) fp),(35,.val (.int .i64 l.length)),(36,Yv i)]) (fun k q hk=>he.mem _ (Z9C hk)) (hren (20+p.2) 96 (by omega)) hC (by decide)
   rw [hfun] at hsub;simp only [<- es] at hsub;refine Z1p (hsub _ ⟨⟨_,rfl,.same _ ⟨⟨by omega,Z5R (by omega)⟩,Yt⟩⟩,⟨_,rfl,o19⟩,Qp (ZF l),Qp Yt,Qp Yt,Yt⟩) ?_;refine go ?_;exact⟨i+1,by omega,by omega,Zbh ⟨rfl,rfl,rfl,rfl,by show some _=some _; rw [hinc],Yt⟩⟩
 . have hil : i = l.length := by have := YH hb; omega
   subst hil;rw [Y0q];clear hb;refine gd 54 ⟨?_⟩;have h0n:∀ k,20<=k->k<20+64->X2R l fp S k=none:=fun k h1 h2=>by
    cases hk:X2R l fp S k with
    | none=>rfl
    | some b=>rcases hbs k b hk (by omega) with⟨h,_⟩|⟨h,_⟩<;>omega
   refine Zm (fun C=>Z8D (D:=19) (k:=2) (by decide) h0n rfl (Z9X l)) ?_;refine go ?_;have hdp:(PV.vec ((List.range 64).map fun j => [.vec (Xc (X9 (X1i l j))) false]) false).pure:=by
    refine (Z25 _ _).2 fun r hr=>?_;obtain⟨j,_,rfl⟩:=Y0i.1 hr;exact⟨Zf _,Yt⟩
   have hdi:∀ D,(PV.vec ((List.range 64).map fun j => [.vec (Xc (X9 (X1i l j))) false]) false).inn D:=fun D=>PV.pure.inn hdp D;have hob:∀ n,12<n->XG (· < n) (X3h l fp (.own 7) (.own 12) (.vec (Xc (X9 S)) false)).elems:=fun n hn=>⟨⟨Yt,hpl _,show (7:Nat)<n by omega,show (12:Nat)<n from hn,hap _ _,Yt⟩,Yt⟩
   have hlow:X1w (fun i=>i) (fun i=>i<84) ⟨1,List.replicate 64 [.vec [] true]⟩ ⟨1,tab fun _ => [.vec [] false]⟩:=by
    have er:∀ i,i<64->(List.replicate 64 [PV.vec [] true]).getD i [] = [PV.vec [] true]:=fun i hi=>by rw [Y0b,Y2x,Y7 hi]; rfl
    refine .gen _ _ Y2u rfl (by rw [Z15]; simp) (fun i hi=>?_) fun i q hi hq=>?_
    . rw [Z15] at hi;rw [Z2Q hi,er i hi]; rfl
    . rw [Z15] at hi;have hq0:q=0:=Nat.lt_one_iff.1 hq;subst hq0;rw [Z2Q hi,er i hi];exact .low (.vec [] true) Yt
   refine Z1p (ZhJ (n':=84) (L := [(1,.cp [.ptr 0 0 0]),(2,.vec ((List.range 64).map fun j => [.vec (Xc (X9 (X1i l j))) false]) false),(57,.vec (Xc (X9 S)) false),(58,.val (.int .i64 64)),(59,.val (.int .i64 ((0:Nat):Int)))])
    (HL := [(0,X3h l fp (.own 7) (.own 12) (.vec (Xc (X9 S)) false)),(7,⟨1,tab fun _ => [.vec [] false]⟩),(12,⟨1,tab fun _ => [.vec [] false]⟩)]) ?_ ?_ hC (by decide)) ?_
   . exact X4R.mem (L := [(1, .cp [.ptr 0 0 0]), (2, .vec ((List.range 64).map fun j => [.vec (Xc (X9 (X1i l j))) false]) false), (57, .vec (Xc (X9 S)) false), (58, .val (.int .i64 64)), (59, .val (.int .i64 ((0 : Nat) : Int)))])
      ⟨⟨_,rfl,.same _ ⟨⟨by decide,rfl⟩,Yt⟩⟩,Qp hdp,Qp (Zf _),⟨_,by rw [show (64:Int)=((Xc (X9 S)).length:Nat) by rw [hSn,h64]; rfl]; rfl,.pure _ Yt⟩,Qp Yt,Yt⟩
   . exact X3n.mem (L := [(0, X3h l fp (.own 7) (.own 12) (.vec (Xc (X9 S)) false)), (7, ⟨1, tab fun _ => [.vec [] false]⟩), (12, ⟨1, tab fun _ => [.vec [] false]⟩)])
      ⟨⟨by decide,_,rfl,X1w.single (ρ:=fun i=>i) (l0 := [.val (.int .i64 64),.vec (l.map prC) fp,.own 7,.own 12,.vec (Xc (X9 S)) false]) (l := [.val (.int .i64 64),.vec (l.map prC) fp,.own 7,.own 12,.vec (Xc (X9 S)) false]) (show X3C _ _ [_,_,_,_,_] [_,_,_,_,_] from ⟨.pure _ Yt,.pure _ (ZF l),.own (ρ:=fun i=>i) 7 (by decide),.own (ρ:=fun i=>i) 12 (by decide),.pure _ (Zf _),Yt⟩) rfl⟩,⟨by decide,_,rfl,hlow⟩,⟨by decide,_,rfl,hlow⟩,Yt⟩
   have hren0:X1w (fun i=>i) (fun i=>i<84) (X3h l fp (.own 7) (.own 12) (.vec (Xc (X9 S)) false)) (X3h l fp (.own 7) (.own 12) (.vec (Xc (X9 S)) false)) :=
    X1w.single (ρ:=fun i=>i) (l0 := [.val (.int .i64 64),.vec (l.map prC) fp,.own 7,.own 12,.vec (Xc (X9 S)) false]) (l := [.val (.int .i64 64),.vec (l.map prC) fp,.own 7,.own 12,.vec (Xc (X9 S)) false]) (show X3C _ _ [_,_,_,_,_] [_,_,_,_,_] from ⟨.pure _ Yt,.pure _ (ZF l),.own (ρ:=fun i=>i) 7 (by decide),.own (ρ:=fun i=>i) 12 (by decide),.pure _ (Zf _),Yt⟩) rfl
   have hz0:∀ f:Nat->Nat,(∀ j,f j=0)->(tab fun _ => [PV.vec [] false])=tab (X2B f):=fun f hf=>Z3A fun j _=>by
    show [PV.vec [] false] = [PV.vec (X8 (Xt (f j))) false];rw [hf,ZK]; rfl
   refine Zv hC (fun t=>t<=64) (fun t=>64-t) 84 (fun t => [(1,.cp [.ptr 0 0 0]),(2,.vec ((List.range 64).map fun j => [.vec (Xc (X9 (X1i l j))) false]) false),(57,.vec (Xc (X9 S)) false),(58,.val (.int .i64 64)),(59,.val (.int .i64 (t:Int)))])
    (fun t => [(0,X3h l fp (.own 7) (.own 12) (.vec (Xc (X9 S)) false)),(7,⟨1,tab (X2B (X33 l S t))⟩),(12,⟨1,tab (X2B (X2D l S t))⟩)]) (by decide) 0 (by decide)
    ⟨⟨rfl,show (0:Nat)<84 by decide,Yt⟩,⟨rfl,hdi _⟩,⟨rfl,hap _ _⟩,⟨rfl,Yt⟩,⟨rfl,Yt⟩,Yt⟩
    ⟨⟨by decide,rfl,hob _ (by decide)⟩,⟨by decide,by rw [<- hz0 _ fun j=>show X33 l S 0 j=0 from Y8 (by simp)]; rfl,hti _ _⟩,⟨by decide,by rw [<- hz0 _ (Zge l S)]; rfl,hti _ _⟩,Yt⟩ ?_
   intro t ht;have htinc:IntKind.i64.wrap ((t:Int)+1)=((t+1:Nat):Int):=Y0v _ ⟨by omega,by omega⟩;refine gd 60 ⟨?_⟩;refine Zx rfl rfl rfl (fun hb=>?_) (fun hb=>?_)
   . have htl : t < S.length := by have := Y0u hb; omega
     have hb64:=hS.lt _ (Y0j htl);have hpred:=hS.pred t htl;have hnew:=Zib (l:=l) hS.nodup htl;have hbS:=Zd8 hS.nodup htl;have hastep:=fun j=>Zgc (l:=l) htl j;have hbstep:=fun j=>Zgd hl htl hb64 j;have hgetS : (X9 S)[t]'(by simpa [X9] using htl) = ((S[t] : Nat) : Int) := by simp [X9]
     clear hb;refine go ?_;refine Qo (Zk (xs:=X9 S) (g:=fun x => [.val (.int .i64 x)]) rfl rfl t rfl (by simpa [X9] using htl) rfl) ?_;rw [hgetS];generalize S[t]=b at hb64 hpred hnew hbS hastep hbstep ⊢
     iterate 4 (first|refine st ?_|(apply B<;>intro hb<;>try cases hb))
     refine Z1p (Z2j (k:=6) (id:=84) (esz:=1) (l := [.val (.int .i64 (b:Int))]) rfl rfl) ?_;refine go ?_;refine Qo (Zk (xs:=List.range 64) (g:=fun j => [.vec (Xc (X9 (X1i l j))) false]) rfl rfl b rfl (by simpa using hb64) rfl) ?_;rw [Y2w];refine go ?_;have hnd:(Xc (X9 (X1i l b))).length=(X1i l b).length:=by simp [Xc,X9]
     have hdlen:=Zd6 l b;refine Zv hC (fun s=>s<=(X1i l b).length) (fun s=>(X1i l b).length-s) 85 (fun s => [(1,.cp [.ptr 0 0 0]),(2,.vec ((List.range 64).map fun j => [.vec (Xc (X9 (X1i l j))) false]) false),(6,.cp [.val (.int .i64 (b:Int))]),(57,.vec (Xc (X9 S)) false),(58,.val (.int .i64 64)),(59,.val (.int .i64 (t:Int))),(66,.vec (Xc (X9 (X1i l b))) false),(67,.val (.int .i64 (X1i l b).length)),(68,.val (.int .i64 (s:Int)))])
      (fun s => [(0,X3h l fp (.own 7) (.own 12) (.vec (Xc (X9 S)) false)),(7,⟨1,tab (X2B fun j=>if j=b then aS l ((X1i l b).take s) else X33 l S t j)⟩),(12,⟨1,tab (X2B (X2D l S t))⟩)]) (by decide) 0 (Y0l _)
      ⟨⟨rfl,show (0:Nat)<85 by decide,Yt⟩,⟨rfl,hdi _⟩,⟨rfl,Yt,Yt⟩,⟨rfl,hap _ _⟩,⟨rfl,Yt⟩,⟨rfl,Yt⟩,⟨rfl,hap _ _⟩,⟨by rw [<- hnd]; rfl,Yt⟩,⟨rfl,Yt⟩,Yt⟩
      ⟨⟨by decide,rfl,hob _ (by decide)⟩,⟨by decide,by rw [Z3B (f:=fun j=>if j=b then aS l ((X1i l b).take 0) else X33 l S t j) (g:=X33 l S t) fun j _=>by by_cases hj:j=b; (rw [Y7 hj,hj,hnew]; rfl); rw [Y8 hj]]; rfl,hti _ _⟩,⟨by decide,rfl,hti _ _⟩,Yt⟩ ?_
     intro s hs;have hsinc:IntKind.i64.wrap ((s:Int)+1)=((s+1:Nat):Int):=Y0v _ ⟨by omega,by omega⟩;refine gd 69 ⟨?_⟩;refine Zx rfl rfl rfl (fun hb=>?_) (fun hb=>?_)
     . have hsl : s < (X1i l b).length := by have := Y0u hb; omega
       have htk:=Z6D hsl;have hga : (X9 (X1i l b))[s]'(by simpa [X9] using hsl) = (((X1i l b)[s] : Nat) : Int) := by simp [X9]
       have hma:(X1i l b)[s]∈X1i l b:=Y0j hsl;have hcur:aS l ((X1i l b).take s)<18446744073709551616:=ZjK l _ 0 (fun a ha=>ZbE hl (Y1w ha)) (by decide);clear hb;refine go ?_;refine Qo (Zk (xs:=X9 (X1i l b)) (g:=fun x => [.val (.int .i64 x)]) rfl rfl s rfl (by simpa [X9] using hsl) rfl) ?_;rw [hga];generalize (X1i l b)[s]=a at htk hma ⊢;have ha64:=ZbE hl hma;have haS:=hpred a (Z65.1 hma);have hab:a≠b:=fun h=>hbS (h▸haS);have hor:=Z5Q hcur (Z7M l a);have hwn:X2W (aS l ((X1i l b).take s) ||| abv l a) (a:Int)=aS l ((X1i l b).take (s+1)):=by
        rw [htk,ZjJ,X2W,Y7 ⟨by omega,by omega⟩]; rfl
       refine gd 82 ⟨?_⟩;refine Qr (Z1d rfl rfl rfl b rfl (by rw [Z15]; exact hb64) rfl) ?_;refine Qr (Z4F (p:=XH (aS l ((X1i l b).take s))) (i:=b) rfl rfl (by rw [Z15]; exact hb64) (by rw [Z2Q hb64]; show some (XH (if b=b then _ else _))=_; rw [Y7 rfl])) ?_;refine gd 89 ⟨?_⟩;refine Qr (Z1d rfl rfl rfl a rfl (by rw [Z15]; exact ha64) rfl) ?_;refine Qr (Z4F (p:=XH (abv l a)) (i:=a) rfl rfl (by rw [Z15]; exact ha64) (by rw [Z2Q ha64]; show some (XH (if a=b then _ else X33 l S t a))=_; rw [Y8 hab,Zic haS])) ?_;refine Qd (Z63 _ (abv l a) hcur (Z7M l a)) ⟨Z9 _,Z9 _,Yt⟩ ?_;refine gd 93 ⟨?_⟩;refine Qd (Z6s _ (Y03 (Z3W hor) (by decide)) (a:Int)) ⟨Z9 _,Yt,Yt⟩ ?_;rw [hwn];refine Qr (Z1d rfl rfl rfl b rfl (by rw [Z15]; exact hb64) rfl) ?_;refine Qr (Z3s (i:=b) rfl rfl rfl rfl rfl (by rw [Z15]; exact hb64) (Y0m _)) ?_;refine go ?_
       refine⟨s+1,by omega,by omega,⟨⟨rfl,show (0:Nat)<85 by decide,Yt⟩,⟨rfl,hdi _⟩,⟨rfl,Yt,Yt⟩,⟨rfl,hap _ _⟩,⟨rfl,Yt⟩,⟨rfl,Yt⟩,⟨rfl,hap _ _⟩,⟨rfl,Yt⟩,⟨by show some _=some _; rw [hsinc],Yt⟩,Yt⟩,
        ⟨⟨by decide,rfl,hob _ (by decide)⟩,⟨by decide,?_,hti _ _⟩,⟨by decide,rfl,hti _ _⟩,Yt⟩⟩
       show some (Bx.mk 1 ((tab (X2B fun j=>if j=b then aS l ((X1i l b).take s) else X33 l S t j)).set b (XK ((tab (X2B fun j=>if j=b then aS l ((X1i l b).take s) else X33 l S t j)).getD b []) 0 [.vec (X8 (Xt (aS l ((X1i l b).take (s+1))))) false])))=some _;rw [Zd9 hb64];refine congrArg (fun x=>some (Bx.mk 1 x)) (Z3B fun j _=>?_);by_cases hj:j=b
       . rw [Y7 hj,Y7 hj]
       . rw [Y8 hj,Y8 hj,Y8 hj]
     . have hsl : s = (X1i l b).length := by have := YH hb; omega
       subst hsl;clear hb;rw [Y0q,Zkq hl b];refine gd 101 ⟨?_⟩;refine Qr (Z1d rfl rfl rfl b rfl (by rw [Z15]; exact hb64) rfl) ?_;refine Qr (Z4F (p:=XH (abv l b)) (i:=b) rfl rfl (by rw [Z15]; exact hb64) (by rw [Z2Q hb64]; show some (XH (if b=b then _ else _))=_; rw [Y7 rfl])) ?_;refine Qd (Z7L (abv l b)) ⟨Z9 _,Yt⟩ ?_;refine go ?_;refine Zd2 (X:=List Nat) hC (caps := [.cp [.vec (X8 (Xt (abv l b))) false]]) [(1,.cp [.ptr 0 0 0]),(2,.vec ((List.range 64).map fun j => [.vec (Xc (X9 (X1i l j))) false]) false),(6,.cp [.val (.int .i64 (b:Int))]),(57,.vec (Xc (X9 S)) false),(58,.val (.int .i64 64)),(59,.val (.int .i64 (t:Int))),(103,.fn 133 [.cp [.vec (X8 (Xt (abv l b))) false]])]
        (fun z => [(0,X3h l fp (.own 7) (.own 12) (.vec (Xc (X9 S)) false)),(7,⟨1,tab (X2B fun j=>if j=b then abv l b else X33 l S t j)⟩),(12,⟨1,tab (X2B fun j=>if j∈z then X2D l S t j ||| 2 ^ b else X2D l S t j)⟩)]) rfl ⟨⟨ZA _,Yt⟩,Yt⟩ (Zd4 (abv l b) (Z7M l b)) (fun _=>rfl)
        (fun ex pre z=>ex=.normal/\z=pre.map (·.val)) 84 (by decide) [] ⟨rfl,rfl⟩
        (Z4G hC (by decide) ⟨⟨rfl, show (0 : Nat) < 84 by decide, Yt⟩, ⟨rfl, hdi _⟩, ⟨rfl, Yt, Yt⟩, ⟨rfl, hap _ _⟩, ⟨rfl, Yt⟩, ⟨rfl, Yt⟩, ⟨rfl, ⟨Z1b _ _, Yt⟩, Yt⟩, Yt⟩
          ⟨⟨by decide,rfl,hob _ (by decide)⟩,⟨by decide,rfl,hti _ _⟩,⟨by decide,by rw [Z3B (f:=fun j=>if j∈([]:List Nat) then X2D l S t j ||| 2 ^ b else X2D l S t j) (g:=X2D l S t) fun j _=>Y8 (by simp)]; rfl,hti _ _⟩,Yt⟩)
        (fun z q hq=>by simp at hq; rcases hq with rfl|rfl|rfl<;>exact Y1g _) _ (fun x=>rfl) ?_ ?_ ?_
       . rintro C2 hC2 pre x z ⟨-, hz⟩ hlen;have ha64:=Z9T x.2;generalize hf:(fun j=>if j∈z then X2D l S t j ||| 2 ^ b else X2D l S t j)=f;have hf64:∀ j,f j<18446744073709551616:=fun j=>by
          rw [<- hf];dsimp only
          split
          . exact Z5Q (Z4j ..) (Z2k hb64)
          . exact Z4j ..
         have hwn:X2W (f x.val) (b:Int)=f x.val ||| 2 ^ b:=by rw [X2W,Y7 ⟨by omega,by omega⟩]; rfl
         refine gd 115 ⟨?_⟩;refine Qr (Z1d rfl rfl rfl x.val rfl (by rw [Z15]; exact ha64) rfl) ?_;refine Qr (Z4F (p:=XH (f x.val)) (i:=x.val) rfl rfl (by rw [Z15]; exact ha64) (by rw [Z2Q ha64]; rfl)) ?_;refine gd 118 ⟨?_⟩;refine Qd (Z6s _ (Y03 (Z3W (hf64 _)) (by decide)) (b:Int)) ⟨Z9 _,Yt,Yt⟩ ?_;rw [hwn];refine Qr (Z1d rfl rfl rfl x.val rfl (by rw [Z15]; exact ha64) rfl) ?_;refine Qr (Z3s (i:=x.val) rfl rfl rfl rfl rfl (by rw [Z15]; exact ha64) (Y0m _)) ?_;refine go ?_
         refine⟨.inl rfl,z ++ [x.val],fun i=>i,⟨rfl,by rw [hz,Y0r]; rfl⟩,fun i hi=>rfl,Z1a,
          ⟨⟨_,rfl,.same _ ⟨⟨by decide,rfl⟩,Yt⟩⟩,Qp hdp,Qp ⟨Yt,Yt⟩,Qp (Zf _),Qp Yt,Qp Yt,Qp ⟨⟨ZA _,Yt⟩,Yt⟩,Yt⟩,
          ⟨⟨by decide,_,rfl,hren0⟩,Qs (Z1B (Z1O _)),⟨by decide,_,rfl,?_⟩,Yt⟩⟩
         show X1w _ _ ⟨1,(tab (X2B f)).set x.val (XK ((tab (X2B f)).getD x.val []) 0 [.vec (X8 (Xt (f x.val ||| 2 ^ b))) false])⟩ ⟨1,tab (X2B fun j=>if j∈z ++ [x.val] then X2D l S t j ||| 2 ^ b else X2D l S t j)⟩;rw [Zd9 ha64,Z3B (g:=fun j=>if j∈z ++ [x.val] then X2D l S t j ||| 2 ^ b else X2D l S t j)]
         . exact .same _ (Z1B (Z1O _))
         . intro j _;rw [<- hf];dsimp only;by_cases hj:j=x.val
           . rw [Y7 hj, Y7 (Y0h.2 (.inr (Y0g.2 hj))), hj];by_cases hx:x.val∈z
             . rw [Y7 hx,Y31,Nat.or_self]
             . rw [Y8 hx]
           . rw [Y8 hj];by_cases hx:j∈z
             . rw [Y7 hx,Y7 (Y0h.2 (.inl hx))]
             . rw [Y8 hx,Y8 fun h=>(Y0h.1 h).elim hx fun h=>hj (Y0g.1 h)]
       . rintro xs z hxs ⟨-, rfl⟩;rw [hxs];refine go ?_
         refine⟨t+1,by omega,by omega,⟨⟨rfl,show (0:Nat)<84 by decide,Yt⟩,⟨rfl,hdi _⟩,⟨rfl,hap _ _⟩,⟨rfl,Yt⟩,⟨by show some _=some _; rw [htinc],Yt⟩,Yt⟩,
          ⟨⟨by decide,rfl,hob _ (by decide)⟩,⟨by decide,by rw [Z3B (f:=X33 l S (t+1)) (g:=fun j=>if j=b then abv l b else X33 l S t j) fun j _=>hastep j]; rfl,hti _ _⟩,⟨by decide,by rw [Z3B (f:=X2D l S (t+1)) (g:=fun j=>if j∈mem (abv l b) then X2D l S t j ||| 2 ^ b else X2D l S t j) fun j _=>hbstep j]; rfl,hti _ _⟩,Yt⟩⟩
       . rintro ex pre z - ⟨rfl,_⟩ (h|⟨id,h⟩)<;>cases h
   . have htl : t = 64 := by have := YH hb; omega
     subst htl;clear hb;refine Z1h ?_;rw [Z3B (f:=X33 l S 64) (g:=abv l) fun j hj=>Zid hS h64 hj,Z3B (f:=X2D l S 64) (g:=bel l) fun j _=>Zie hl hS h64 j];refine Z1p (Z22 (ob:=0) (id:=7) (i0:=0) (j0:=2) rfl rfl (by decide) (Z1B (Z1O _)) (Y0 rfl) (Y0 rfl) rfl) ?_;refine Z1p (Z22 (ob:=0) (id:=12) (i0:=0) (j0:=3) rfl rfl (by decide) (Z1B (Z1O _)) (Y0 rfl) (Y0 rfl) rfl) ?_;refine go ?_;exact⟨_,_,rfl,.inl rfl,_,rfl,Yt,⟨⟨Yt,ZF l,Z1B (Z1O _),Z1B (Z1O _),Zf _,Yt⟩,Yt⟩,rfl,rfl⟩
end
section
open Go.Shelf
def Z2H:Go.Shelf.Ren:=⟨fun|6=>169|15=>131|14=>254|28=>209|29=>210|20=>313|21=>314|22=>315|23=>316|24=>317|25=>318|26=>319|27=>320|46=>344|47=>273|48=>274|49=>345|50=>346|57=>370|n=>n,fun|22=>270|24=>160|25=>272|3=>3|39=>223|0=>0|53=>307|55=>92|4=>4|46=>301|45=>300|50=>216|5=>5|9=>9|66=>371|70=>229|76=>415|77=>218|n=>n,fun|n=>n⟩
theorem X4L:Go.Proofs.SlLaysF0.n6 Tryz.prog Z2H:={
 mixed:=by kernel_rfl
 f6:=⟨Tryz.f169.name,by decide,Tryz.func169.trans (congrArg some (by kernel_rfl))⟩
 f14:=⟨Tryz.f254.name,by decide,Tryz.func254.trans (congrArg some (by kernel_rfl))⟩
 f15:=Tryz.func131.trans (congrArg some (by kernel_rfl))
 f20:=⟨Tryz.f313.name,by decide,Tryz.func313.trans (congrArg some (by kernel_rfl))⟩
 f21:=⟨Tryz.f314.name,by decide,Tryz.func314.trans (congrArg some (by kernel_rfl))⟩
 f22:=⟨Tryz.f315.name,by decide,Tryz.func315.trans (congrArg some (by kernel_rfl))⟩
 f23:=⟨Tryz.f316.name,by decide,Tryz.func316.trans (congrArg some (by kernel_rfl))⟩
 f24:=⟨Tryz.f317.name,by decide,Tryz.func317.trans (congrArg some (by kernel_rfl))⟩
 f25:=⟨Tryz.f318.name,by decide,Tryz.func318.trans (congrArg some (by kernel_rfl))⟩
 f26:=⟨Tryz.f319.name,by decide,Tryz.func319.trans (congrArg some (by kernel_rfl))⟩
 f27:=⟨Tryz.f320.name,by decide,Tryz.func320.trans (congrArg some (by kernel_rfl))⟩
 f28:=Tryz.func209.trans (congrArg some (by kernel_rfl))
 f29:=Tryz.func210.trans (congrArg some (by kernel_rfl))
 f46:=⟨Tryz.f344.name,by decide,Tryz.func344.trans (congrArg some (by kernel_rfl))⟩
 f47:=Tryz.func273.trans (congrArg some (by kernel_rfl))
 f48:=Tryz.func274.trans (congrArg some (by kernel_rfl))
 f49:=⟨Tryz.f345.name,by decide,Tryz.func345.trans (congrArg some (by kernel_rfl))⟩
 f50:=⟨Tryz.f346.name,by decide,Tryz.func346.trans (congrArg some (by kernel_rfl))⟩
 f57:=⟨Tryz.f370.name,by decide,Tryz.func370.trans (congrArg some (by kernel_rfl))⟩
 t0:=Tryz.underlying0
 a0:=Tryz.isAgg0
 z0:=Tryz.sizeOf0
 v0:=Tryz.zeroValue0
 t3:=Tryz.underlying3
 a3:=Tryz.isAgg3
 z3:=Tryz.sizeOf3
 v3:=Tryz.zeroValue3
 t4:=Tryz.underlying4
 a4:=Tryz.isAgg4
 z4:=Tryz.sizeOf4
 v4:=Tryz.zeroValue4
 t5:=Tryz.underlying5
 a5:=Tryz.isAgg5
 z5:=Tryz.sizeOf5
 v5:=Tryz.zeroValue5
 t9:=Tryz.underlying9
 a9:=Tryz.isAgg9
 z9:=Tryz.sizeOf9
 v9:=Tryz.zeroValue9
 t22:=Tryz.underlying270
 a22:=Tryz.isAgg270
 z22:=Tryz.sizeOf270
 v22:=Tryz.zeroValue270
 t25:=Tryz.underlying272
 a25:=Tryz.isAgg272
 z25:=Tryz.sizeOf272
 v25:=Tryz.zeroValue272
 t39:=Tryz.underlying223
 a39:=Tryz.isAgg223
 z39:=Tryz.sizeOf223
 v39:=Tryz.zeroValue223
 t45:=Tryz.underlying300
 a45:=Tryz.isAgg300
 z45:=Tryz.sizeOf300
 v45:=Tryz.zeroValue300
 t46:=Tryz.underlying301
 a46:=Tryz.isAgg301
 z46:=Tryz.sizeOf301
 v46:=Tryz.zeroValue301
 t50:=Tryz.underlying216
 a50:=Tryz.isAgg216
 z50:=Tryz.sizeOf216
 v50:=Tryz.zeroValue216
 t53:=Tryz.underlying307
 a53:=Tryz.isAgg307
 z53:=Tryz.sizeOf307
 v53:=Tryz.zeroValue307
 t55:=Tryz.underlying92
 a55:=Tryz.isAgg92
 z55:=Tryz.sizeOf92
 v55:=Tryz.zeroValue92
 t66:=Tryz.underlying371
 a66:=Tryz.isAgg371
 z66:=Tryz.sizeOf371
 v66:=Tryz.zeroValue371
 t70:=Tryz.underlying229
 a70:=Tryz.isAgg229
 z70:=Tryz.sizeOf229
 v70:=Tryz.zeroValue229
 t76:=Tryz.underlying415
 a76:=Tryz.isAgg415
 z76:=Tryz.sizeOf415
 v76:=Tryz.zeroValue415
 t77:=Tryz.underlying218
 a77:=Tryz.isAgg218
 z77:=Tryz.sizeOf218
 v77:=Tryz.zeroValue218 }
theorem Z9Y:∀ w,(isAgg (Z2H.t 24)).run Tryz.prog w=.ok true w:=Tryz.isAgg160
theorem Z8E:∀ w,(Go.sizeOf (Z2H.t 24)).run Tryz.prog w=.ok 2 w:=Tryz.sizeOf160
end
section
open Go.RowKit
attribute [local irreducible] aw Xj dK
theorem Zgf (l:List Pr):(l.map prC).length=l.length:=by simp
theorem Zei (xs:List Pr) (fl:Bool) (hlen:xs.length<=1000000):X1a Tryz.prog 332 [.vec (xs.map prC) fl] .own ⟨2,xs.map prC⟩:=by
 refine ZY ok332 (Y0 rfl) fun C hC=>?_;have fin:∀ (x:Pr) (xs:List Pr),(∀ c∈(x :: xs).map prC,c.length=2):=fun x xs c hc=>by obtain⟨y,_,rfl⟩:=Y0i.1 hc; rfl
 cases xs with
 | nil =>
   refine go ?_;refine Z2Y (.inl ⟨_,_,rfl⟩) rfl fun b=>?_;cases b
   . repeat' (first | refine Zm (ZD (k := 5) rfl 2 (by decide)) ?_ | (first|refine st ?_|(apply B<;>intro hb<;>try cases hb)))
     exact⟨_,_,rfl,.inl rfl,_,rfl,rfl⟩
   . iterate 6 (first|refine st ?_|(apply B<;>intro hb<;>try cases hb))
     refine Z1p (ZD (k:=2) rfl 2 (by decide) _) ?_;refine go ?_;exact⟨_,_,rfl,.inl rfl,_,rfl,rfl⟩
 | cons x xs =>
   repeat' (first|refine Zm (ZD (k:=5) rfl 2 (by decide)) ?_|(first|refine st ?_|(apply B<;>intro hb<;>try cases hb)))
   refine ZB (Z11 (k:=0) (m:=(x :: xs).map prC) (fl:=fl) rfl rfl rfl (fin x xs) rfl (by
    show (([]:List (List PV)).length+((x :: xs).map prC).length)*16<=_
    rw [Y0f,Y1u];omega)) rfl rfl ?_
   refine go ?_;exact⟨_,_,rfl,.inl rfl,_,rfl,by rw [Y1M]; rfl⟩
def pB (p x:Pr):Bool:=((p.1:Int) == (x.1:Int))&&(((p.2:Int) == (x.2:Int))&&true)
theorem Zkr (p x:Pr):pB p x=true↔p=x:=by
 unfold pB;rw [Y2h,Y0k,Y1s,Y1s,Y3e,Y3e];exact⟨fun h=>Prod.ext h.1 h.2,fun h=>by rw [h]; exact⟨rfl,rfl⟩⟩
theorem Zks {esz n:Nat} {e:Env} {h:X0} {x hi mx:Operand} {l:List (List PV)} {fl:Bool} (hx:ev e x=some (.vec l fl)) (h1:X1T (ev e hi)=some (l.length:Int)) (h2:X1T (ev e mx)=some (l.length:Int)) (hl:∀ c∈l,c.length=esz):X1 (.slc esz x none (some hi) (some mx)) e h n=some (.vec l true,h):=by
 simp only [X1,hx,XD,h1,h2];rw [Y7 ⟨⟨by omega,by omega,by omega,by omega⟩,hl⟩];simp
theorem Zej (xs:List Pr) (fl:Bool):X7 Tryz.prog 171 [.vec (xs.map prC) fl] (· = .vec (xs.map prC) true):=by
 refine Yp ok171 fun C hC=>?_;refine gd 8 ⟨?_⟩;refine Qo (Zks rfl rfl rfl (fun c hc=>by obtain⟨y,_,rfl⟩:=Y0i.1 hc; rfl)) ?_;refine go ?_;exact Z4 rfl (ZF xs) rfl
theorem Z8F (xs:List Pr) (fl:Bool) (hne:∀ i (h:i+1<xs.length),xs[i]≠xs[i+1]):X7 Tryz.prog 172 [.vec (xs.map prC) fl] (· = .vec (xs.map prC) fl):=by
 have hnl:=Zgf xs;refine Yp ok172 fun C hC=>?_;refine Z3m (k:=0) rfl fun hmax=>?_;have hlm:xs.length<=Xd:=by rw [<- hnl]; exact hmax
 (refine go ?_;repeat' (apply B<;>intro hb<;>try cases hb))
 . exact Z4 rfl (ZF xs) rfl
 . rw [hnl] at hb;have h2:2<=xs.length:=by have:=YH hb; omega
   clear hb;have hpi:∀ D,XG D (xs.map prC):=fun D=>Zc (fun _ h=>h.elim) _ (ZF xs);refine Zv hC (fun k=>1<=k/\k<=xs.length) (fun k=>xs.length-k) 0 (fun k => [(0,.vec (xs.map prC) fl),(3,.val (.int .i64 (k:Int)))]) (fun _=>[]) (Y0l _) 1 ⟨Y0m _,by omega⟩ ⟨⟨rfl,hpi _⟩,⟨rfl,Yt⟩,Yt⟩ Yt ?_;rintro k ⟨hk1,hk⟩;have hinc:IntKind.i64.wrap ((k:Int)+1)=((k+1:Nat):Int):=Y0v _ ⟨by omega,by simp only [Xd] at hlm; omega⟩;have hdec:IntKind.i64.wrap ((k:Int)-1)=((k-1:Nat):Int):=(Y0v _ ⟨by omega,by simp only [Xd] at hlm; omega⟩).trans (by omega);refine gd 13 ⟨?_⟩;refine Zx rfl rfl rfl (fun hb=>?_) (fun hb=>?_)
   . rw [hnl] at hb;have hil:k<xs.length:=by have:=Y0u hb; omega
     clear hb;refine gd 18 ⟨?_⟩;refine Qr (Zk (xs:=xs) (g:=prC) rfl rfl k rfl hil rfl) ?_;refine gd 22 ⟨?_⟩;refine Qr (Z2N rfl hdec) ?_;refine Qr (Zk (xs:=xs) (g:=prC) rfl rfl (k-1) rfl (by omega) rfl) ?_;refine gd 25 ⟨?_⟩;refine Zbg (b:=pB xs[k] xs[k-1]) rfl rfl rfl (fun hx=>?_) (fun hx=>?_)
     . refine absurd ((Zkr _ _).1 hx).symm ?_;have:=hne (k-1) (by omega);simpa only [show k-1+1=k by omega] using this
     . refine go ?_;exact⟨k+1,⟨by omega,by omega⟩,by omega,⟨⟨rfl,hpi _⟩,⟨by show some _=some _; rw [hinc],Yt⟩,Yt⟩,Yt⟩
   . refine go ?_;exact Z4 rfl (ZF xs) rfl
def X5H (p q:Pr):Int:=if p.1=q.1 then (p.2:Int)-q.2 else (p.1:Int)-q.1
theorem Z8G (p q:Pr) (hp:p.1<64/\p.2<64) (hq:q.1<64/\q.2<64):X7 Tryz.prog 170 [.agg (prC p),.agg (prC q)] (· = .val (.int .i64 (X5H p q))):=by
 refine Yp ok170 fun C hC=>?_;have h1:IntKind.i64.wrap ((p.1:Int)-q.1)=(p.1:Int)-q.1:=Y0v _ ⟨by omega,by omega⟩;have h2:IntKind.i64.wrap ((p.2:Int)-q.2)=(p.2:Int)-q.2:=Y0v _ ⟨by omega,by omega⟩;refine Zn ?_;refine Z8 ?_;refine Z5 rfl rfl rfl ?_;refine Z5 rfl rfl rfl ?_;(refine go ?_;repeat' (apply B<;>intro hb<;>try cases hb))
 . have h3 : ¬ p.1 = q.1 := fun h => by rw [h] at hb; simp at hb
   exact Z4 rfl Yt (by rw [h1,X5H,Y8 h3])
 . have h3 : p.1 = q.1 := Y3e.1 (by simpa using hb);exact Z4 rfl Yt (by rw [h2,X5H,Y7 h3])
abbrev X5y:={ p:Pr // p.1<64/\p.2<64 }
theorem X5R {xs:List Pr} (h:X1R xs):∃ l:List X5y,l.map (·.1)=xs:=by
 induction xs with
 | nil=>exact⟨[],rfl⟩
 | cons c xs ih =>
   obtain⟨l,hl⟩:=ih fun d hd=>h d (YC _ hd);exact⟨⟨c,h c (Y0t ..)⟩ :: l,by rw [Y1c,hl]⟩
def X5g (p:Pr):Nat:=64*p.1+p.2
theorem ZbG {n ob:Nat} {h:X0} (xs:List Pr) (hx:X1R xs) (hh:h ob=some ⟨2,xs.map prC⟩) :
 Xp Tryz.prog 169 n [.own ob,.fn 170 []] h fun n' r h'=>n'=n/\r=.tup []/\∃ ys:List Pr,ys.Perm xs/\ys.Pairwise (fun a b=>X5g a<=X5g b)/\h'=h.upd ob ⟨2,ys.map prC⟩:=by
 obtain⟨l,rfl⟩:=X5R hx;have e:∀ l:List X5y,(l.map (·.1)).map prC=l.map fun c:X5y=>prC c.1:=fun l=>by rw [Y40]; rfl
 rw [e] at hh
 have hs:=Z7P (P:=Tryz.prog) (ρ:=Z2H) (n:=n) X4L ⟨_,Tryz.func169,by kernel_rfl,by kernel_rfl⟩ 2 (by decide) Z9Y Z8E (fun c:X5y=>prC c.1) (fun c=>rfl) (fun c=>Zd5 c.1) (fun c:X5y=>X5g c.1) (fun a b:X5y=>X5H a.1 b.1) (fun a b=>by
  have h1:=a.2; have h2:=b.2;unfold X5H X5g
  split<;>omega) 170 [] Yt (fun a b=>Z8G a.1 b.1 a.2 b.2) l hh
 refine hs.mono ?_;rintro n' r h' ⟨h1,h2,ys,h3,h4,h5⟩;refine⟨h1,h2,ys.map (·.1),h3.map _,?_,by rw [e]; exact h5⟩;exact Y1I.2 h4
def X3J (l:List Pr):Prop:=l.Pairwise fun p q=>p.1<q.1 \/ p.1=q.1/\p.2<q.2
noncomputable def X5B (l:List Pr) (S:List Nat):List PV := [.val (.int .i64 64),.vec (l.map prC) true,.vec (tab (X2B (abv l))) false,.vec (tab (X2B (bel l))) false,.vec (Xc (X9 S)) false]
theorem Z4X (l:List Pr) (S:List Nat):Xe (X5B l S):=⟨Yt,ZF l,Z1B (Z1O _),Z1B (Z1O _),Zf _,Yt⟩
def X6Z (l:List Pr) (r:PV):Prop:=∃ S,r=.cp (X5B l S)
theorem Z8H {l:List Pr} (hl:X1R l) (hn:l.Nodup) (hs:l.Pairwise fun a b=>X5g a<=X5g b):X3J l:=by
 have h:=hs.and hn;refine Y38 (fun {p q} hp hq h=>?_) h;have h1:=hl p hp;have h2:=hl q hq;obtain⟨h3,h4⟩:=h;unfold X5g at h3;have h5:¬ (p.1=q.1/\p.2=q.2):=fun h=>h4 (Prod.ext h.1 h.2);omega
theorem Zgg {l:List Pr} (hs:X3J l):∀ i (h:i+1<l.length),l[i]≠l[i+1]:=fun i h he=>by
 have:=(Y1W.1 hs) i (i+1) (by omega) h (by omega);rw [he] at this;omega
theorem Acy.perm {l m:List Pr} (h:Acy l) (hp:m.Perm l):Acy m:=h.sub fun p hpm=>hp.mem_iff.1 hpm
theorem X1R.perm {l m:List Pr} (h:X1R l) (hp:m.Perm l):X1R m:=fun p hpm=>h p (hp.mem_iff.1 hpm)
theorem Zgh (l:List Pr) (fl:Bool) (hl:X1R l) (hn:l.Nodup) (hacy:Acy l) (hlen:l.length<=1000000):X7 Tryz.prog 103 [.val (.int .i64 64),.vec (l.map prC) fl] fun r=>∃ l' o,l'.Perm l/\X3J l'/\X6Z l' o/\r=.tup [o,.val (.int .i64 0)]:=by
 have hnl:=Zgf l;have hpl:∀ D,XG D (l.map prC):=fun D=>Zc (fun _ h=>h.elim) _ (ZF l);refine Yp ok103 fun C hC=>?_;refine go ?_;refine Zv hC (fun i=>i<=l.length) (fun i=>l.length-i) 0 (fun i => [(0,.val (.int .i64 64)),(1,.vec (l.map prC) fl),(16,.vec (l.map prC) fl),(17,.val (.int .i64 l.length)),(18,Yv i)]) (fun _=>[]) (Y0l _) 0 (Y0l _)
  ⟨⟨rfl,Yt⟩,⟨rfl,hpl _⟩,⟨rfl,hpl _⟩,⟨by rw [<- hnl]; rfl,Yt⟩,⟨rfl,Yt⟩,Yt⟩ Yt ?_
 intro i hi;have hinc:IntKind.i64.wrap ((i:Int)+1)=((i+1:Nat):Int):=Y0v _ ⟨by omega,by omega⟩;refine gd 19 ⟨?_⟩;refine Zx rfl rfl rfl (fun hb=>?_) (fun hb=>?_)
 . have hil : i < l.length := by have := Y0u hb; omega
   have hp:=hl _ (Y0j hil);clear hb;refine go ?_;refine Qo (Zk (xs:=l) (g:=prC) rfl rfl i rfl hil rfl) ?_;generalize l[i]=p at hp ⊢;(refine go ?_;repeat' (apply B<;>intro hb<;>try cases hb))
   . refine absurd (Y0u hb) ?_
     split<;>omega
   . rename_i hb2;refine absurd (Y0u hb) ?_
     split<;>omega
   . exact⟨i+1,by omega,by omega,⟨⟨rfl,Yt⟩,⟨rfl,hpl _⟩,⟨rfl,hpl _⟩,⟨rfl,Yt⟩,⟨by show some _=some _; rw [hinc],Yt⟩,Yt⟩,Yt⟩
 . have hil : i = l.length := by have := YH hb; omega
   subst hil;clear hb
   repeat' (first|refine Zm (ZD (k:=38) rfl 2 (by decide)) ?_|(first|refine st ?_|(apply B<;>intro hb<;>try cases hb)))
   refine ZB (Z11 (k:=0) (m:=l.map prC) (fl:=fl) (b:=⟨2,[]⟩) rfl rfl rfl (fun c hc=>by obtain⟨y,_,rfl⟩:=Y0i.1 hc; rfl) rfl (by
    show (0+(l.map prC).length)*16<=_
    rw [hnl];omega)) rfl rfl ?_
   refine go ?_;refine ZH rfl rfl (ZbG (n:=_) (ob:=1) l hl rfl) ?_;rintro n' r h' ⟨rfl,rfl,ys,hys1,hys2,rfl⟩;have hyl:=hl.perm hys1;have hso:=Z8H hyl (hys1.nodup_iff.2 hn) hys2;have hylen:ys.length<=1000000:=by rw [hys1.length_eq]; exact hlen
   refine gd 43 ⟨?_⟩;refine Zm (Zo (k:=8) (id:=1) rfl rfl (ZF ys)) ?_;refine go ?_;refine Qe (Z8F ys false (Zgg hso)) ⟨ZF ys,Yt⟩ ?_;refine Qe (Zej ys false) ⟨ZF ys,Yt⟩ ?_;refine go ?_;refine Zb (Zeg ys true hyl (hacy.perm hys1) hylen) rfl rfl rfl rfl ⟨⟨Yt,ZF ys,Yt,Yt,Yt,Yt⟩,Yt⟩ Yt ?_;rintro r b' - - ⟨rfl,S,hT,h64,rfl⟩;refine go ?_;refine Zb (ZbF ys true hyl hylen S hT h64) rfl rfl rfl rfl ⟨⟨Yt,ZF ys,Yt,Yt,Zf _,Yt⟩,Yt⟩ Yt ?_;rintro r b' - - ⟨rfl,rfl⟩;refine gd 54 ⟨?_⟩;refine Zm (Z1t (k:=9) (l:=X5B ys S) rfl rfl (Z4X ys S)) ?_;refine go ?_;exact Z4 rfl ⟨Z4X ys S,Yt,Yt⟩ ⟨ys,_,hys1,hso,⟨S,rfl⟩,rfl⟩
theorem Zek (l:List Pr) (S:List Nat) (hlen:l.length<=1000000):X1a Tryz.prog 280 [.cp (X5B l S)] .own ⟨2,l.map prC⟩:=by
 refine ZY ok280 (Y0 rfl) fun C hC=>?_;refine go ?_;refine Z2m (Zei l true hlen) Z47 (by exact ZF l) rfl rfl ⟨ZF l,Yt⟩ ?_;refine go ?_;exact⟨_,_,rfl,.inl rfl,_,rfl,rfl⟩
theorem ZbH (l:List Pr) (S:List Nat) (hlen:l.length<=1000000):X7 Tryz.prog 280 [.cp (X5B l S)] (· = .vec (l.map prC) false) :=
 (Zek l S hlen).spec (ZF l) (fun _=>.own) (ZF l)
noncomputable def X43 (l:List Pr) (S:List Nat):PV:=.cp [.cp (X5B l S)]
theorem Z2r (l:List Pr) (S:List Nat):(X43 l S).pure:=⟨Z4X l S,Yt⟩
theorem Z9Z:X7 Tryz.prog 58 [] fun r=>∃ S,r=X43 [] S:=by
 refine Yp ok58 fun C hC=>?_;refine go ?_;refine Z13 rfl rfl (Zgh [] true (fun p hp=>by cases hp) Y36 ⟨fun _=>0,fun p hp=>by cases hp⟩ (by decide)) ⟨Yt,Yt,Yt⟩ rfl ?_;rintro r ⟨l',o,h1,h2,⟨S',rfl⟩,rfl⟩;obtain rfl:=List.Perm.eq_nil h1;refine gd 9 ⟨?_⟩;refine Z5 rfl rfl rfl ?_;refine go ?_;exact Z4 rfl (Z2r [] S') ⟨S',rfl⟩
theorem Z7R (l:List Pr) (S:List Nat) (hlen:l.length<=1000000):X7 Tryz.prog 245 [X43 l S] (· = .vec (l.map prC) false):=by
 refine Yp ok245 fun C hC=>?_;refine go ?_;refine Qe (ZbH l S hlen) ⟨Z4X l S,Yt⟩ ?_;refine go ?_;exact Z4 rfl (ZF l) rfl
end
section
open Go.Shelf
def Z2J:Go.Shelf.Ren:=⟨fun|6=>80|15=>131|14=>130|28=>209|29=>210|20=>201|21=>202|22=>203|23=>204|24=>205|25=>206|26=>207|27=>208|46=>272|47=>273|48=>274|49=>275|50=>276|57=>331|n=>n,fun|22=>36|24=>45|25=>156|3=>3|39=>223|0=>0|53=>307|55=>92|4=>4|46=>301|45=>300|50=>216|5=>5|9=>9|66=>371|70=>229|76=>415|77=>218|n=>n,fun|n=>n⟩
theorem X4F:Go.Proofs.SlLaysF0.n6 Tryz.prog Z2J:={
 mixed:=by kernel_rfl
 f6:=⟨Tryz.f80.name,by decide,Tryz.func80.trans (congrArg some (by kernel_rfl))⟩
 f14:=⟨Tryz.f130.name,by decide,Tryz.func130.trans (congrArg some (by kernel_rfl))⟩
 f15:=Tryz.func131.trans (congrArg some (by kernel_rfl))
 f20:=⟨Tryz.f201.name,by decide,Tryz.func201.trans (congrArg some (by kernel_rfl))⟩
 f21:=⟨Tryz.f202.name,by decide,Tryz.func202.trans (congrArg some (by kernel_rfl))⟩
 f22:=⟨Tryz.f203.name,by decide,Tryz.func203.trans (congrArg some (by kernel_rfl))⟩
 f23:=⟨Tryz.f204.name,by decide,Tryz.func204.trans (congrArg some (by kernel_rfl))⟩
 f24:=⟨Tryz.f205.name,by decide,Tryz.func205.trans (congrArg some (by kernel_rfl))⟩
 f25:=⟨Tryz.f206.name,by decide,Tryz.func206.trans (congrArg some (by kernel_rfl))⟩
 f26:=⟨Tryz.f207.name,by decide,Tryz.func207.trans (congrArg some (by kernel_rfl))⟩
 f27:=⟨Tryz.f208.name,by decide,Tryz.func208.trans (congrArg some (by kernel_rfl))⟩
 f28:=Tryz.func209.trans (congrArg some (by kernel_rfl))
 f29:=Tryz.func210.trans (congrArg some (by kernel_rfl))
 f46:=⟨Tryz.f272.name,by decide,Tryz.func272.trans (congrArg some (by kernel_rfl))⟩
 f47:=Tryz.func273.trans (congrArg some (by kernel_rfl))
 f48:=Tryz.func274.trans (congrArg some (by kernel_rfl))
 f49:=⟨Tryz.f275.name,by decide,Tryz.func275.trans (congrArg some (by kernel_rfl))⟩
 f50:=⟨Tryz.f276.name,by decide,Tryz.func276.trans (congrArg some (by kernel_rfl))⟩
 f57:=⟨Tryz.f331.name,by decide,Tryz.func331.trans (congrArg some (by kernel_rfl))⟩
 t0:=Tryz.underlying0
 a0:=Tryz.isAgg0
 z0:=Tryz.sizeOf0
 v0:=Tryz.zeroValue0
 t3:=Tryz.underlying3
 a3:=Tryz.isAgg3
 z3:=Tryz.sizeOf3
 v3:=Tryz.zeroValue3
 t4:=Tryz.underlying4
 a4:=Tryz.isAgg4
 z4:=Tryz.sizeOf4
 v4:=Tryz.zeroValue4
 t5:=Tryz.underlying5
 a5:=Tryz.isAgg5
 z5:=Tryz.sizeOf5
 v5:=Tryz.zeroValue5
 t9:=Tryz.underlying9
 a9:=Tryz.isAgg9
 z9:=Tryz.sizeOf9
 v9:=Tryz.zeroValue9
 t22:=Tryz.underlying36
 a22:=Tryz.isAgg36
 z22:=Tryz.sizeOf36
 v22:=Tryz.zeroValue36
 t25:=Tryz.underlying156
 a25:=Tryz.isAgg156
 z25:=Tryz.sizeOf156
 v25:=Tryz.zeroValue156
 t39:=Tryz.underlying223
 a39:=Tryz.isAgg223
 z39:=Tryz.sizeOf223
 v39:=Tryz.zeroValue223
 t45:=Tryz.underlying300
 a45:=Tryz.isAgg300
 z45:=Tryz.sizeOf300
 v45:=Tryz.zeroValue300
 t46:=Tryz.underlying301
 a46:=Tryz.isAgg301
 z46:=Tryz.sizeOf301
 v46:=Tryz.zeroValue301
 t50:=Tryz.underlying216
 a50:=Tryz.isAgg216
 z50:=Tryz.sizeOf216
 v50:=Tryz.zeroValue216
 t53:=Tryz.underlying307
 a53:=Tryz.isAgg307
 z53:=Tryz.sizeOf307
 v53:=Tryz.zeroValue307
 t55:=Tryz.underlying92
 a55:=Tryz.isAgg92
 z55:=Tryz.sizeOf92
 v55:=Tryz.zeroValue92
 t66:=Tryz.underlying371
 a66:=Tryz.isAgg371
 z66:=Tryz.sizeOf371
 v66:=Tryz.zeroValue371
 t70:=Tryz.underlying229
 a70:=Tryz.isAgg229
 z70:=Tryz.sizeOf229
 v70:=Tryz.zeroValue229
 t76:=Tryz.underlying415
 a76:=Tryz.isAgg415
 z76:=Tryz.sizeOf415
 v76:=Tryz.zeroValue415
 t77:=Tryz.underlying218
 a77:=Tryz.isAgg218
 z77:=Tryz.sizeOf218
 v77:=Tryz.zeroValue218 }
theorem Za9:∀ w,(isAgg (Z2J.t 24)).run Tryz.prog w=.ok true w:=Tryz.isAgg45
theorem Z8L:∀ w,(Go.sizeOf (Z2J.t 24)).run Tryz.prog w=.ok 2 w:=Tryz.sizeOf45
end
section
open Go.RowKit
attribute [local irreducible] aw Xj dK
abbrev X5w:={ c:Cu // X4j c }
def X5t (l:List Cu):Prop:=l.Pairwise fun a b=>X2c a<=X2c b
theorem Zio (a b:Cu):X5f a b<0↔X2c a<X2c b:=by rw [Zik]; exact Zii
theorem X6H {xs:List Cu} (h:∀ c∈xs,X4j c):∃ l:List X5w,l.map (·.1)=xs:=by
 induction xs with
 | nil=>exact⟨[],rfl⟩
 | cons c xs ih =>
   obtain⟨l,hl⟩:=ih fun d hd=>h d (YC _ hd);exact⟨⟨c,h c (Y0t ..)⟩ :: l,by rw [Y1c,hl]⟩
theorem ZbP {n ob:Nat} {h:X0} (xs:List Cu) (hx:∀ c∈xs,X4j c) (hh:h ob=some ⟨2,xs.map cuC⟩) :
 Xp Tryz.prog 80 n [.own ob,.fn 81 []] h fun n' r h'=>n'=n/\r=.tup []/\∃ ys:List Cu,ys.Perm xs/\X5t ys/\h'=h.upd ob ⟨2,ys.map cuC⟩:=by
 obtain⟨l,rfl⟩:=X6H hx;have e:∀ l:List X5w,(l.map (·.1)).map cuC=l.map fun c:X5w=>cuC c.1:=fun l=>by rw [Y40]; rfl
 rw [e] at hh;have hs:=Z7P (P:=Tryz.prog) (ρ:=Z2J) (n:=n) X4F ⟨_,Tryz.func80,by kernel_rfl,by kernel_rfl⟩ 2 (by decide) Za9 Z8L (fun c:X5w=>cuC c.1) (fun c=>rfl) (fun c=>Z23 c.1) (fun c:X5w=>X2c c.1) (fun a b:X5w=>X5f a.1 b.1) (fun a b=>Zio a.1 b.1) 81 [] Yt (fun a b=>Z8O a.1 b.1 a.2 b.2) l hh;refine hs.mono ?_;rintro n' r h' ⟨h1,h2,ys,h3,h4,h5⟩;refine⟨h1,h2,ys.map (·.1),h3.map _,?_,by rw [e]; exact h5⟩;exact Y1I.2 h4
theorem Z7T (N:Nat) (hN:N<18446744073709551616) (i:Nat) (hi:i<64):X7 Tryz.prog 11 [XH N,Yv i] (· = XH (N ||| 2 ^ i)):=by
 have h:=Z6s N (Y03 (Z3W hN) (by decide)) (i:Int);have e:X2W N (i:Int)=N ||| 2 ^ i:=by
  unfold X2W;rw [Y7 ⟨by omega,by omega⟩,YY]
 rw [e] at h;exact h
theorem X6e (a i:Nat) (hi:i<64):Int.fdiv (a:Int) (2 ^ (min (i:Int).toNat IntKind.i64.bits))=((a / 2 ^ i:Nat):Int):=by
 have e:min (i:Int).toNat IntKind.i64.bits=i:=by rw [YY]; show min i 64=i; omega
 rw [e,Z38]
theorem ZbQ (a b:Nat) (ha:a<9223372036854775808) (hb:b<9223372036854775808):bits .and .i64 (a:Int) (b:Int)=((a &&& b:Nat):Int):=by
 have h1:(BitVec.ofInt 64 (a:Int)).toNat=a:=by rw [Y1p,Y1v]; exact Y1a (by omega)
 have h2:(BitVec.ofInt 64 (b:Int)).toNat=b:=by rw [Y1p,Y1v]; exact Y1a (by omega)
 show IntKind.i64.wrap ((BitVec.ofInt 64 (a:Int) &&& BitVec.ofInt 64 (b:Int)).toNat:Int)=_;rw [Y3k,h1,h2];have:a &&& b<=a:=Y2c;exact Y0v _ ⟨by omega,by omega⟩
theorem ZgA (a b:Nat) (ha:a<9223372036854775808) (hb:b<9223372036854775808):bits .or .i64 (a:Int) (b:Int)=((a ||| b:Nat):Int):=by
 have h1:(BitVec.ofInt 64 (a:Int)).toNat=a:=by rw [Y1p,Y1v]; exact Y1a (by omega)
 have h2:(BitVec.ofInt 64 (b:Int)).toNat=b:=by rw [Y1p,Y1v]; exact Y1a (by omega)
 show IntKind.i64.wrap ((BitVec.ofInt 64 (a:Int) ||| BitVec.ofInt 64 (b:Int)).toNat:Int)=_;rw [BitVec.toNat_or,h1,h2];have:a ||| b<2 ^ 63:=Y1h ha hb
 exact Y0v _ ⟨by omega,by omega⟩
theorem Z8P (a i:Nat) (ha:a<9223372036854775808):bits .and .i64 ((a / 2 ^ i:Nat):Int) 1=if a.testBit i=true then 1 else 0:=by
 have h:=ZbQ (a / 2 ^ i) 1 (Y02 (Nat.div_le_self _ _) ha) (by decide);rw [show ((1:Nat):Int)=1 from rfl] at h;rw [h,Nat.and_one_is_mod,Y2A];by_cases hb:a / 2 ^ i % 2=1
 . simp [hb]
 . have : a / 2 ^ i % 2 = 0 := by omega
   simp [this]
theorem Z4m (l:List Nat):X13 (X8 l)=X8 l:=by simp [X8,Z35,X1h,PV.low]
theorem ZgB (roles:List Nat) (hr:∀ r∈roles,r<64) (hl:roles.length<=60) (p q:PV) (fl:Bool) (hp:p.pure) (hq:q.pure) (m:Nat) (hm:m<9223372036854775808) :
 X7 Tryz.prog 79 [.cp [.vec (Xc (X9 roles)) fl,p,q],.val (.int .i64 (m:Int))] (· = XH (X1j roles m)):=by
 refine Yp ok79 fun C hC=>?_;have hnl:(Xc (X9 roles)).length=roles.length:=by simp [Xc,X9]
 have hrw:Xc (X9 roles)=roles.map fun (x:Nat) => [PV.val (.int .i64 (x:Int))]:=by simp [Xc,X9]
 refine Zn ?_;refine Z8 ?_;(first|refine st ?_|(apply B<;>intro hb<;>try cases hb));(refine go ?_;repeat' (apply B<;>intro hb<;>try cases hb));refine Zv hC (fun (x:Nat×Bool)=>x.1<=roles.length) (fun x=>roles.length-x.1) 2 (fun x => [(1,.val (.int .i64 (m:Int))),(4,.ptr 0 0 0),(5,.ptr 1 0 0),(11,.vec (Xc (X9 roles)) fl),(12,.val (.int .i64 (roles.length:Int))),(13,.val (.int .i64 (x.1:Int)))])
  (fun x => [(0,⟨1,[[.vec [] true]]⟩),(1,⟨1,[[.vec (X8 (Xt (X1E roles m x.1))) x.2]]⟩)]) (Y0l _) (0,true) (Y0l _)
  ⟨⟨rfl,Yt⟩,⟨rfl,show (0:Nat)<2 by decide⟩,⟨rfl,show (1:Nat)<2 by decide⟩,⟨rfl,ZU _ _⟩,⟨by rw [<- hnl]; rfl,Yt⟩,⟨rfl,Yt⟩,Yt⟩
  ⟨⟨by decide,rfl,⟨Yt,Yt⟩,Yt⟩,⟨by decide,by simp only [X1E]; rw [ZK]; rfl,⟨Z1b _ _,Yt⟩,Yt⟩,Yt⟩ ?_
 rintro⟨i,b⟩ hi;dsimp only at hi ⊢;have hinc:IntKind.i64.wrap ((i:Int)+1)=((i+1:Nat):Int):=Y0v _ ⟨by omega,by omega⟩;have hlt:=Z8K hr m i hi;(refine go ?_;repeat' (apply B<;>intro hb<;>try cases hb))
 . have hil : i < roles.length := by simpa using hb
   have hri:roles.getD i 0<64:=by rw [Y0b,Y0c hil]; exact hr _ (Y0j _)
   have hre:roles[i]=roles.getD i 0:=by rw [Y0b,Y0c hil]; rfl
   rw [hrw];refine Qo (Zk (xs:=roles) rfl rfl i rfl hil rfl) ?_;(refine go ?_;repeat' (apply B<;>intro hb<;>try cases hb))
   . rw [X6e m i (by omega), Z8P m i hm] at hb;have hbit:m.testBit i=true:=by
      cases h:m.testBit i with
      | true=>rfl
      | false=>rw [h] at hb; cases hb
     rw [hre];refine Z7x (Z7T (X1E roles m i) hlt _ hri) rfl rfl (by show [PV.agg [PV.vec (X13 (X8 _)) false],_]=_; rw [Z4m]; rfl) ⟨Z9 _,Yt,Yt⟩ rfl ?_;(refine go ?_;repeat' (apply B<;>intro hb<;>try cases hb));have hst:X1E roles m (i+1)=X1E roles m i ||| 2 ^ (roles.getD i 0):=by simp only [X1E]; rw [Y7 hbit]
     exact⟨(i+1,false),by show i+1<=_; omega,by show _-(i+1)<_-i; omega,
      ⟨⟨rfl,Yt⟩,⟨rfl,show (0:Nat)<2 by decide⟩,⟨rfl,show (1:Nat)<2 by decide⟩,⟨rfl,by rw [<- hrw]; exact ZU _ _⟩,⟨rfl,Yt⟩,⟨by show some _=some _; rw [hinc],Yt⟩,Yt⟩,
      ⟨⟨by decide,rfl,⟨Yt,Yt⟩,Yt⟩,⟨by decide,by rw [hst]; rfl,⟨Z1b _ _,Yt⟩,Yt⟩,Yt⟩⟩
   . rw [X6e m i (by omega), Z8P m i hm] at hb;have hbit:¬ m.testBit i=true:=fun h=>by rw [h] at hb; cases hb
     have hst:X1E roles m (i+1)=X1E roles m i:=by simp only [X1E]; rw [Y8 hbit]
     exact⟨(i+1,b),by show i+1<=_; omega,by show _-(i+1)<_-i; omega,
      ⟨⟨rfl,Yt⟩,⟨rfl,show (0:Nat)<2 by decide⟩,⟨rfl,show (1:Nat)<2 by decide⟩,⟨rfl,by rw [<- hrw]; exact ZU _ _⟩,⟨rfl,Yt⟩,⟨by show some _=some _; rw [hinc],Yt⟩,Yt⟩,
      ⟨⟨by decide,rfl,⟨Yt,Yt⟩,Yt⟩,⟨by decide,by rw [hst]; rfl,⟨Z1b _ _,Yt⟩,Yt⟩,Yt⟩⟩
 . have hil : i = roles.length := by simp at hb; omega
   subst hil;refine Z8o rfl ⟨by show X2 (X13 (X8 _)); rw [Z4m]; exact ZA _,Yt⟩ ?_;show PV.agg [PV.vec (X13 (X8 _)) false]=_;rw [Z4m]
   rfl
abbrev Ke:=Nat×Nat
def X3i (p:Ke):PV:=.agg [.val (.int .i64 (p.1:Int)),.val (.int .i64 (p.2:Int))]
def X4T (k:Nat) (ok:Nat->Bool) (p:Ke):List PV := [X3i p,.val (.bool (X1X k ok p.1 p.2))]
def X1O (k:Nat) (ok:Nat->Bool) (ks:List Ke):List (List PV):=ks.map (X4T k ok)
theorem Zq (k:Nat) (ok:Nat->Bool) (ks:List Ke):X2 (X1O k ok ks):=Z2q _ _ fun _ _=>⟨⟨Yt,Yt,Yt⟩,Yt,Yt⟩
theorem Z8Q (p q:Ke):X2t (.agg [0,0]) (X3i p) (X3i q)=some (decide (p=q)):=by
 have h:X2t (.agg [0,0]) (X3i p) (X3i q)=some (((p.1:Int) == (q.1:Int))&&(((p.2:Int) == (q.2:Int))&&true)):=by
  simp [X2t,X3i,Xa,X1z]
 rw [h];congr 1;rw [YS];simp [Prod.ext_iff];omega
theorem Z5s (k:Nat) (ok:Nat->Bool) (p:Ke):∀ ks:List Ke,(∃ j,XT (.agg [0,0]) (X3i p) (X1O k ok ks)=some (some j)/\(X1O k ok ks).getD j []=X4T k ok p/\j<ks.length) \/ XT (.agg [0,0]) (X3i p) (X1O k ok ks)=some none
 | []=>.inr rfl
 | q :: ks => by
   have hq:X2t (.agg [0,0]) (X3i p) ((X4T k ok q).getD 0 pvu)=some (decide (p=q)):=Z8Q p q;show (∃ j,XT _ _ (X4T k ok q :: X1O k ok ks)=_/\(X4T k ok q :: X1O k ok ks).getD j []=_/\_) \/ XT _ _ (X4T k ok q :: X1O k ok ks)=_;by_cases h:p=q
   . subst h;refine .inl ⟨0,?_,rfl,Nat.succ_pos _⟩;simp only [XT,hq,decide_true]
   . rw [Y0w h] at hq;rcases Z5s k ok p ks with⟨j,h1,h2,h3⟩|h1
     . exact .inl ⟨j+1,by simp only [XT,hq,h1],h2,Y44 h3⟩
     . exact .inr (by simp only [XT,hq,h1])
theorem ZjQ {n:Nat} {e:Env} {h:X0} {z:List Value} {x y:Operand} {i j:Nat} {b:Bx} {c:KC} {kp:PV} (hx:ev e x=some (.mp i)) (hy:ev e y=some kp) (hb:h i=some b) (hz:b.esz=0) (hk:X2t c kp kp=some true) (hf:XT c kp b.elems=some (some j)) :
 X1 (.lookup c false z true x y) e h n=some (.tup [(b.elems.getD j []).getD 1 pvu,.val (.bool true)],h):=by
 simp [X1,hx,hy,hb,hz,hk,hf]
theorem ZjR {n:Nat} {e:Env} {h:X0} {z:List Value} {x y:Operand} {i:Nat} {b:Bx} {c:KC} {kp:PV} (hx:ev e x=some (.mp i)) (hy:ev e y=some kp) (hb:h i=some b) (hz:b.esz=0) (hk:X2t c kp kp=some true) (hf:XT c kp b.elems=some none) :
 X1 (.lookup c false z true x y) e h n=some (.tup [X4S false z,.val (.bool false)],h):=by
 simp [X1,hx,hy,hb,hz,hk,hf]
theorem ZkA {n:Nat} {e:Env} {h:X0} {x y v:Operand} {k:Nat} {ok:Nat->Bool} {ks:List Ke} {p:Ke} (hx:ev e x=some (.mp 0)) (hy:ev e y=some (X3i p)) (hv:ev e v=some (.val (.bool (X1X k ok p.1 p.2)))) (hb:h 0=some ⟨0,X1O k ok ks⟩) :
 ∃ ks',X1 (.mapset (.agg [0,0]) x y v) e h n=some (pvu,h.upd 0 ⟨0,X1O k ok ks'⟩):=by
 have hk:X2t (.agg [0,0]) (X3i p) (X3i p)=some true:=by rw [Z8Q]; simp
 rcases Z5s k ok p ks with⟨j,h1,h2,h3⟩|h1
 . refine ⟨ks, ?_⟩;have hset:(X1O k ok ks).set j (X4T k ok p)=X1O k ok ks:=by
    apply Y4b
    . simp
    . intro i h4 h5;rw [List.getElem_set]
      split
      . rename_i hij;subst hij;rw [Y0b,Y0c h5] at h2;exact h2.symm
      . rfl
   simp only [X1,hx,hy,hv,hb,hk,h1,and_self,Y1P];rw [show [X3i p,PV.val (.bool (X1X k ok p.1 p.2))]=X4T k ok p from rfl,hset]
 . refine ⟨ks ++ [p], ?_⟩;simp only [X1,hx,hy,hv,hb,hk,h1,and_self,Y1P];simp [X1O,X4T]
structure X3a (roles:List Nat) (is:Nat->Bool) (g:Nat) (caps:List PV):Prop where
 lt:∀ r∈roles,r<64
 len:roles.length<=60
 pure:Xe caps
 is:∀ S,S<18446744073709551616->X7 Tryz.prog g (XH S :: caps) (· = .val (.bool (is S)))
def X3O (roles:List Nat) (fl:Bool) (g:Nat) (caps:List PV):PV:=.cp [.vec (Xc (X9 roles)) fl,.fn g caps,.mp 0]
theorem Z3Z {roles:List Nat} {fl:Bool} {is:Nat->Bool} {g:Nat} {caps:List PV} (H:X3a roles is g caps) {m:Nat} (hm:0<m):(X3O roles fl g caps).inn (· < m):=⟨ZU _ _,ZC (fun _ h=>h.elim) _ H.pure,hm,Yt⟩
def okM (roles:List Nat) (is:Nat->Bool) (m:Nat):Bool:=is (X1j roles m)
def X4d (roles:List Nat) (is:Nat->Bool) (ks:List Ke):Bx:=⟨0,X1O roles.length (okM roles is) ks⟩
def X7t (roles:List Nat) (is:Nat->Bool) (y n:Nat) (r:PV) (b':Bx):Prop:=r=.val (.bool (X1X roles.length (okM roles is) y n))/\∃ ks,b'=X4d roles is ks
theorem ZjS {n:Nat} {e:Env} {h:X0} {x y:Operand} {k:Nat} {ok:Nat->Bool} {ks:List Ke} {p:Ke} (hx:ev e x=some (.mp 0)) (hy:ev e y=some (X3i p)) (hb:h 0=some ⟨0,X1O k ok ks⟩) :
 X1 (.lookup (.agg [0,0]) false [.bool false] true x y) e h n=some (.tup [.val (.bool (X1X k ok p.1 p.2)),.val (.bool true)],h) \/ X1 (.lookup (.agg [0,0]) false [.bool false] true x y) e h n=some (.tup [.val (.bool false),.val (.bool false)],h):=by
 have hk:X2t (.agg [0,0]) (X3i p) (X3i p)=some true:=by rw [Z8Q]; simp
 rcases Z5s k ok p ks with⟨j,h1,h2,h3⟩|h1
 . left;rw [ZjQ hx hy hb rfl hk h1,h2]
   rfl
 . exact .inr (ZjR hx hy hb rfl hk h1)
theorem Zip {P:Program} {zz:Rsv} {n i mask:Nat} {e:Env} {h:X0} {d:Option Nat} {iso:Nat} {xs:List X5} {K:Env->X0->Prop} {x y:Operand} {k:Nat} {ok:Nat->Bool} {ks:List Ke} (p:Ke) (hx:ev e x=some (.mp 0)) (hy:ev e y=some (X3i p)) (hb:h 0=some ⟨0,X1O k ok ks⟩)
 (ha:X10 zz (.lookup (.agg [0,0]) false [.bool false] true x y) e n i mask iso=true) (h1:dK P zz n xs (Xq e d (.tup [.val (.bool (X1X k ok p.1 p.2)),.val (.bool true)])) h K) (h2:dK P zz n xs (Xq e d (.tup [.val (.bool false),.val (.bool false)])) h K) :
 dK P zz n (⟨i,⟨d,.lookup (.agg [0,0]) false [.bool false] true x y,none⟩,mask,iso,false⟩ :: xs) e h K:=by
 rcases ZjS (n:=n+i) hx hy hb with hE|hE
 . exact Zu hE ha rfl h1
 . exact Zu hE ha rfl h2
theorem ZbR {P:Program} {zz:Rsv} {n i mask:Nat} {e:Env} {h:X0} {iso:Nat} {xs:List X5} {K:Env->X0->Prop} {d:Option Nat} {x y v:Operand} {k:Nat} {ok:Nat->Bool} {ks:List Ke} (p:Ke) (hx:ev e x=some (.mp 0)) (hy:ev e y=some (X3i p)) (hv:ev e v=some (.val (.bool (X1X k ok p.1 p.2)))) (hb:h 0=some ⟨0,X1O k ok ks⟩)
 (ha:X10 zz (.mapset (.agg [0,0]) x y v) e n i mask iso=true) (hk:∀ ks',dK P zz n xs (Xq e d pvu) (h.upd 0 ⟨0,X1O k ok ks'⟩) K) :
 dK P zz n (⟨i,⟨d,.mapset (.agg [0,0]) x y v,none⟩,mask,iso,false⟩ :: xs) e h K:=by
 obtain⟨ks',hE⟩:=ZkA (n:=n+i) hx hy hv hb;exact Zu hE ha rfl (hk ks')
def X2d (x:Nat):Nat->Int
 | 0 => -1
 | t+1=>if x.testBit t then X2d x t else (t:Int)
theorem Z4n (x:Nat):∀ t,(X2d x t = -1/\∀ i,i<t->x.testBit i=true) \/ ∃ i:Nat,X2d x t=(i:Int)/\i<t/\x.testBit i=false
 | 0=>.inl ⟨rfl,fun i hi=>absurd hi (YR i)⟩
 | t + 1 => by
   simp only [X2d];cases hb:x.testBit t with
   | false=>exact .inr ⟨t,by simp,Y1S t,hb⟩
   | true =>
     rcases Z4n x t with⟨h1,h2⟩|⟨i,h1,h2,h3⟩
     . refine .inl ⟨by simpa using h1, fun i hi => ?_⟩;by_cases h:i=t
       . subst h; exact hb
       . exact h2 i (by omega)
     . exact .inr ⟨i,by simpa using h1,by omega,h3⟩
theorem Z6L (roles:List Nat) (fl:Bool) (is:Nat->Bool) (g:Nat) (caps:List PV) (H:X3a roles is g caps) (m:Nat) (hm:m<9223372036854775808) :
 X3E Tryz.prog 79 [X3O roles fl g caps,.val (.int .i64 (m:Int))] (· = XH (X1j roles m)):=by
 have hs:=fun q hq=>ZgB roles H.lt H.len (.fn g caps) q fl H.pure hq m hm;refine⟨(hs pvu Yt).1,fun F φ vs hr=>?_⟩;have h0:Rep F φ (vs.getD 0 undef) (X3O roles fl g caps):=hr.2 0 (by simp);obtain⟨x,cs,hv,hsp,hF,hR⟩:=h0.cp_inv;refine⟨[.cp [.vec (Xc (X9 roles)) fl,.fn g caps,.val (cs 2)],.val (.int .i64 (m:Int))],⟨hr.1,fun i hi=>?_⟩,hs (.val (cs 2)) Yt⟩
 match i,hi with
 | 0, _ =>
   rw [hv];refine .cp x _ cs hsp hF fun j hj=>?_
   match j,hj with
   | 0,_=>exact (hR 0 (by simp)).pure (Zf _)
   | 1,_=>exact (hR 1 (by simp)).pure H.pure
   | 2,_=>exact .val _
 | 1,_=>exact (hr.2 1 (by simp)).pure Yt
theorem ZgC {x i:Nat} (h:x.testBit i=false):x<x ||| 2 ^ i:=by
 refine Nat.lt_of_le_of_ne Nat.left_le_or fun he=>?_;have:=congrArg (·.testBit i) he;simp only [ZJ,h] at this;simp at this
theorem X6i (j:Nat) (hj:j<62):IntKind.i64.wrap (1*2 ^ (min (j:Int).toNat IntKind.i64.bits))=((2 ^ j:Nat):Int):=by
 have e:min (j:Int).toNat IntKind.i64.bits=j:=by rw [YY]; show min j 64=j; omega
 have h:2 ^ j<4611686018427387904:=Y14 (a:=2) (n:=62) (by decide) hj;rw [e,Y3J,show ((2:Int) ^ j)=((2 ^ j:Nat):Int) by rw [Int.natCast_pow]; rfl];generalize 2 ^ j=q at h ⊢;exact Y0v _ ⟨by omega,by omega⟩
theorem Z6M {y n j:Nat} (h:y &&& n=0) (hj:n.testBit j=false):(y ||| 2 ^ j) &&& n=0:=by
 refine YB fun i=>?_;have h1:=congrArg (·.testBit i) h;simp only [Y0z,Y1l] at h1;rw [Y0z,ZJ,Y1l];by_cases hi:j=i
 . subst hi; rw [hj]; simp
 . rw [Y0w hi,Bool.or_false]; exact h1
theorem Z7g (roles:List Nat) (fl:Bool) (is:Nat->Bool) (g:Nat) (caps:List PV) (H:X3a roles is g caps):∀ (d y n:Nat),y<2 ^ roles.length->n<2 ^ roles.length->y &&& n=0->2 ^ roles.length-(y ||| n)<=d->∀ ks,
 X41 Tryz.prog 129 (X4d roles is ks) [X3O roles fl g caps,.val (.int .i64 (y:Int)),.val (.int .i64 (n:Int))] (X7t roles is y n):=by
 intro d
 induction d with
 | zero=>intro y n hy hn _ hd; have:=Y1h hy hn; omega
 | succ d ih =>
   intro y n hy hn hdis hd ks;have hk60:2 ^ roles.length<=1152921504606846976:=Y03 (Y1f (by decide) H.len) (by decide);have hlen:=H.len;have hor:=Y1h hy hn;have hor64:=ZgA y n (by omega) (by omega);have hnl:(Xc (X9 roles)).length=roles.length:=by simp [Xc,X9]
   refine ZX ok129 (Y0 rfl) fun C hC=>?_;refine Zn ?_;refine Z8 ?_;(refine go ?_;repeat' (apply B<;>intro hb<;>try cases hb));refine Zip (y,n) rfl rfl rfl rfl ?_ ?_
   . dsimp only;generalize hv:X1X roles.length (okM roles is) y n=v;(refine go ?_;repeat' (apply B<;>intro hb<;>try cases hb))
     all_goals exact Z12 rfl Yt rfl (Zq _ _ ks) ⟨by rw [hv],ks,rfl⟩
   . (refine go ?_;repeat' (apply B<;>intro hb<;>try cases hb));refine Z5i (n':=13) hC [(0,X3O roles fl g caps),(1,.val (.int .i64 (y:Int))),(2,.val (.int .i64 (n:Int))),(7,.ptr 1 0 0),(10,.val (.int .i64 (-1))),(31,.val (.int .i64 (roles.length:Int))),(32,.val (.int .i64 0))] [(0,X4d roles is ks),(1,⟨2,[[.val (.int .i64 (y:Int)),.val (.int .i64 (n:Int))]]⟩)] (by decide)
      ⟨⟨rfl,Z3Z H (by decide)⟩,⟨rfl,Yt⟩,⟨rfl,Yt⟩,⟨rfl,show (1:Nat)<13 by decide⟩,⟨rfl,Yt⟩,⟨by rw [<- hnl]; rfl,Yt⟩,⟨rfl,Yt⟩,Yt⟩
      ⟨⟨by decide,rfl,Zc (fun _ h=>h.elim) _ (Zq _ _ ks)⟩,⟨by decide,rfl,⟨Yt,Yt,Yt⟩,Yt⟩,Yt⟩ ?_
     refine Z3U (fun i=>i<=roles.length) (fun i=>roles.length-i) (fun i => [(0,X3O roles fl g caps),(1,.val (.int .i64 (y:Int))),(2,.val (.int .i64 (n:Int))),(7,.ptr 1 0 0),(10,.val (.int .i64 (X2d (y ||| n) i))),(31,.val (.int .i64 (roles.length:Int))),(32,Yv i)]) 0 (Y0l _) ⟨rfl,rfl,rfl,rfl,rfl,rfl,rfl,Yt⟩ ?_;intro i hi;have hinc:IntKind.i64.wrap ((i:Int)+1)=((i+1:Nat):Int):=Y0v _ ⟨by omega,by omega⟩;(refine go ?_;repeat' (apply B<;>intro hb<;>try cases hb))
     . have hil : i < roles.length := by simpa using ‹decide ((i : Int) < (roles.length : Int)) = true›
       rw [hor64,X6e _ i (by omega),Z8P _ i (by omega)] at hb;have hbit:(y ||| n).testBit i=false:=by
        cases h:(y ||| n).testBit i with
        | false=>rfl
        | true=>rw [h] at hb; cases hb
       refine⟨i+1,by omega,by omega,rfl,rfl,⟨rfl,rfl,rfl,rfl,?_,rfl,by show some _=some _; rw [hinc],Yt⟩⟩;show some _=some _;simp only [X2d,hbit]
       rfl
     . have hil : i < roles.length := by simpa using ‹decide ((i : Int) < (roles.length : Int)) = true›
       rw [hor64,X6e _ i (by omega),Z8P _ i (by omega)] at hb;have hbit:(y ||| n).testBit i=true:=by
        cases h:(y ||| n).testBit i with
        | true=>rfl
        | false=>rw [h] at hb; cases hb
       refine⟨i+1,by omega,by omega,rfl,rfl,⟨rfl,rfl,rfl,rfl,?_,rfl,by show some _=some _; rw [hinc],Yt⟩⟩;show some _=some _;simp only [X2d,hbit]
       rfl
     . -- every role is mentioned
       have hil:i=roles.length:=by have:=YH ‹decide ((i:Int)<(roles.length:Int))=false›; omega
       subst hil;have hneg:X2d (y ||| n) roles.length<0:=by simpa using hb
       have hall:∀ i,i<roles.length->(y ||| n).testBit i=true:=by
        rcases Z4n (y ||| n) roles.length with⟨_,h⟩|⟨i,h1,_,_⟩
        . exact h
        . omega
       have himp:=Za5 (okM roles is) hy hdis hall;refine ZkP rfl rfl (Z6L roles fl is g caps H y (by omega)) ?_;rintro r rfl;refine Qd (H.is (X1j roles y) (ZbN H.lt y)) ⟨Z9 _,H.pure⟩ ?_;rw [show is (X1j roles y)=X1X roles.length (okM roles is) y n from himp.symm];generalize hv:X1X roles.length (okM roles is) y n=v;clear himp;cases v
       all_goals
        (refine go ?_;repeat' (apply B<;>intro hb<;>try cases hb));refine ZbR (y,n) rfl rfl (by show some _=some _; rw [hv]) rfl rfl ?_;intro ks';(refine go ?_;repeat' (apply B<;>intro hb<;>try cases hb));exact Z12 rfl Yt rfl (Zq _ _ ks') ⟨by rw [hv],ks',rfl⟩
     . -- a role is not mentioned
       have hil:i=roles.length:=by have:=YH ‹decide ((i:Int)<(roles.length:Int))=false›; omega
       subst hil;obtain⟨j,hj,hjl,hjb⟩:∃ j:Nat,X2d (y ||| n) roles.length=(j:Int)/\j<roles.length/\(y ||| n).testBit j=false:=by
        rcases Z4n (y ||| n) roles.length with⟨h,_⟩|h
        . rw [h] at hb; cases hb
        . exact h
       rw [hj];have hpj:2 ^ j<2 ^ roles.length:=Y14 (by decide) hjl;have hshl:IntKind.i64.wrap (1*2 ^ (min (j:Int).toNat IntKind.i64.bits))=((2 ^ j:Nat):Int):=X6i j (by omega);have hjy:y.testBit j=false/\n.testBit j=false:=by rw [Y00,Y1x] at hjb; exact hjb
       have hlt:=ZgC hjb;have e1:(y ||| 2 ^ j) ||| n=(y ||| n) ||| 2 ^ j:=by rw [Y31,Nat.or_comm (2 ^ j),<- Y31]
       have e2:y ||| (n ||| 2 ^ j)=(y ||| n) ||| 2 ^ j:=by rw [Y31]
       have hy1:=Y1h hy hpj;have hn1:=Y1h hn hpj;have hd1:(y ||| 2 ^ j) &&& n=0:=Z6M hdis hjy.2;have hd2:y &&& (n ||| 2 ^ j)=0:=by rw [Y2q]; exact Z6M (by rw [Y2q]; exact hdis) hjy.1
       have hall:=Y1h hor hpj;have hsp:=Zeo roles.length (okM roles is) y n j;refine Qo (ZfF rfl rfl (by omega) hshl) ?_;refine Qo (Z2N rfl (ZgA y (2 ^ j) (by omega) (by omega))) ?_;(refine go ?_;repeat' (apply B<;>intro hb<;>try cases hb));refine ZH rfl rfl ((ih (y ||| 2 ^ j) n hy1 hn hd1 (by rw [e1];omega) ks).ispec (Zq _ _ ks) ⟨⟨ZU _ _,ZC (fun _ h=>h.elim) _ H.pure,rfl,Yt⟩,Yt,Yt,Yt⟩ rfl) ?_;rintro n' r h' ⟨rfl,b',-,-,⟨rfl,ks1,rfl⟩,rfl⟩;generalize hv1:X1X roles.length (okM roles is) (y ||| 2 ^ j) n=v1 at hsp;cases v1
       . have hv : X1X roles.length (okM roles is) y n = false := by rw [hsp]; rfl
         (refine go ?_;repeat' (apply B<;>intro hb<;>try cases hb));refine ZbR (y,n) rfl rfl (by show some _=some _; rw [hv]) rfl rfl ?_;intro ks';(refine go ?_;repeat' (apply B<;>intro hb<;>try cases hb));exact Z12 rfl Yt rfl (Zq _ _ ks') ⟨by rw [hv],ks',rfl⟩
       . (refine go ?_;repeat' (apply B<;>intro hb<;>try cases hb));rw [hshl,ZgA n (2 ^ j) (by omega) (by omega)];refine ZH rfl rfl ((ih y (n ||| 2 ^ j) hy hn1 hd2 (by rw [e2];omega) ks1).ispec (Zq _ _ ks1) ⟨⟨ZU _ _,ZC (fun _ h=>h.elim) _ H.pure,rfl,Yt⟩,Yt,Yt,Yt⟩ rfl) ?_;rintro n' r h' ⟨rfl,b',-,-,⟨rfl,ks2,rfl⟩,rfl⟩;rw [Y19] at hsp;rw [<- hsp];generalize hv:X1X roles.length (okM roles is) y n=v;clear hsp;cases v
         all_goals
          (refine go ?_;repeat' (apply B<;>intro hb<;>try cases hb));refine ZbR (y,n) rfl rfl (by show some _=some _; rw [hv]) rfl rfl ?_;intro ks';(refine go ?_;repeat' (apply B<;>intro hb<;>try cases hb));exact Z12 rfl Yt rfl (Zq _ _ ks') ⟨by rw [hv],ks',rfl⟩
theorem ZgD (y i:Nat):y &&& 2 ^ i=if y.testBit i=true then 2 ^ i else 0:=by
 refine YB fun j=>?_;rw [Y0z,YJ];by_cases h:i=j
 . subst h;cases hb:y.testBit i<;>simp
 . cases hb:y.testBit i<;>simp [h]
theorem Zab {y i:Nat} (h:y.testBit i=true):2 ^ i<=y:=Nat.ge_two_pow_of_testBit h
theorem Z4o {y i:Nat} (hy:y<9223372036854775808) (hi:i<62) {b:Bool} (h:(bits .and .i64 (y:Int) (IntKind.i64.wrap (1*2 ^ (min (i:Int).toNat IntKind.i64.bits))) != 0)=b):y.testBit i=b:=by
 have hp:2 ^ i<4611686018427387904:=Y14 (a:=2) (n:=62) (by decide) hi;rw [X6i i hi,ZbQ y (2 ^ i) hy (by omega),ZgD] at h;cases hb:y.testBit i with
 | true =>
   rw [hb,Y7 rfl] at h;rw [<- h];have:0<2 ^ i:=Y23 (by decide);generalize 2 ^ i=q at this;symm;simp;omega
 | false =>
   rw [hb,Y8 (by decide)] at h;rw [<- h]
   rfl
theorem ZbS {y i:Nat} (hy:y<9223372036854775808) (hi:i<62) (h:y.testBit i=true):IntKind.i64.wrap ((y:Int)-IntKind.i64.wrap (1*2 ^ (min (i:Int).toNat IntKind.i64.bits)))=((y-2 ^ i:Nat):Int):=by
 rw [X6i i hi];have:=Zab h;generalize 2 ^ i=q at this ⊢;rw [<- Int.ofNat_sub this];exact Y0v _ ⟨by omega,by omega⟩
theorem Zje:∀ {a b:Nat},a &&& b=0->a+b=a ||| b:=by
 intro a
 induction a using Nat.strongRecOn with
 | ind a ih =>
   intro b h;by_cases h0:a=0
   . subst h0; simp
   . have h1 : a / 2 &&& b / 2 = 0 := by rw [<- Nat.and_div_two, h]
     have h2:=ih (a / 2) (by omega) h1;have h3:(a ||| b) / 2=a / 2 ||| b / 2:=Y4l
     have h4 := @Nat.or_mod_two_eq_one a b;have h5 := @Nat.and_mod_two_eq_one a b;rw [h] at h5;omega
theorem Z2A {y n i:Nat} (h:y.testBit i=true) (hd:y &&& n=0):(y-2 ^ i) &&& n=0:=by
 refine YB fun j=>?_;have h1:=congrArg (·.testBit j) hd;simp only [Y0z,Y1l] at h1;rw [Y0z,Y1l];have e:(y-2 ^ i).testBit j=(y.testBit j&&decide (j≠i)):=by
  have hle:=Zab h;have hy:y=(y-2 ^ i)+2 ^ i:=by omega
  have hx:y-2 ^ i=y ^^^ 2 ^ i:=by
   have h2:y &&& 2 ^ i=2 ^ i:=by rw [ZgD,Y7 h]
   have h3:(y ^^^ 2 ^ i) &&& 2 ^ i=0:=by
    refine YB fun t=>?_;rw [Y0z,Y1K,YJ,Y1l];by_cases ht:i=t
    . subst ht; rw [h]; simp
    . simp [ht]
   have h4:(y ^^^ 2 ^ i) ||| 2 ^ i=y:=by
    refine YB fun t=>?_;rw [Y00,Y1K,YJ];by_cases ht:i=t
    . subst ht; rw [h]; simp
    . simp [ht]
   have h5:(y ^^^ 2 ^ i)+2 ^ i=(y ^^^ 2 ^ i) ||| 2 ^ i:=Zje h3
   omega
  rw [hx,Y1K,YJ];by_cases hj:i=j
  . subst hj; rw [h]; simp
  . have : j ≠ i := fun e => hj e.symm;simp [hj,this]
 rw [e];cases hy:y.testBit j with
 | false=>rfl
 | true=>rw [hy] at h1; simp at h1; simp [h1]
def PrR (roles:List Nat) (is:Nat->Bool) (y n:Nat) (r:PV) (b':Bx):Prop:=r=.val (.bool (prB roles.length (okM roles is) y n))/\∃ ks,b'=X4d roles is ks
theorem Z6N {k:Nat} {ok:Nat->Bool} {y n i:Nat} (hi:i<k) (h:X17 k ok y n i=true):prB k ok y n=false:=by
 unfold prB;rw [Bool.and_eq_false_iff];right;rw [List.all_eq_false];exact⟨i,YZ.2 hi,by rw [h]; decide⟩
theorem Z8R {k:Nat} {ok:Nat->Bool} {y n:Nat} (h0:X1X k ok y n=true) (h:∀ i,i<k->X17 k ok y n i=false):prB k ok y n=true:=by
 unfold prB;rw [Y0k,YA];exact⟨h0,fun i hi=>by rw [h i (YZ.1 hi)]; rfl⟩
theorem Z24 (roles:List Nat) (fl:Bool) (is:Nat->Bool) (g:Nat) (caps:List PV) (H:X3a roles is g caps) {y n:Nat} (hy:y<2 ^ roles.length) (hn:n<2 ^ roles.length) (hd:y &&& n=0) (ks:List Ke) {m:Nat} {h:X0} (hh:h 0=some (X4d roles is ks)) :
 Xp Tryz.prog 129 m [X3O roles fl g caps,.val (.int .i64 (y:Int)),.val (.int .i64 (n:Int))] h fun n' r h'=>n'=m/\r=.val (.bool (X1X roles.length (okM roles is) y n))/\∃ ks',h'=h.upd 0 (X4d roles is ks') :=
 Xp.mono ((Z7g roles fl is g caps H _ y n hy hn hd (Y0m _) ks).ispec (Zq _ _ ks) ⟨⟨ZU _ _,ZC (fun _ h=>h.elim) _ H.pure,rfl,Yt⟩,Yt,Yt,Yt⟩ hh)
  fun n' r h' ⟨h1,b',_,_,⟨h2,ks',h3⟩,h4⟩=>⟨h1,h2,ks',by rw [<- h3]; exact h4⟩
theorem Zer (roles:List Nat) (fl:Bool) (is:Nat->Bool) (g:Nat) (caps:List PV) (H:X3a roles is g caps) (y n:Nat) (hy:y<2 ^ roles.length) (hn:n<2 ^ roles.length) (hdis:y &&& n=0) (ks:List Ke) :
 X41 Tryz.prog 78 (X4d roles is ks) [X3O roles fl g caps,.val (.int .i64 (y:Int)),.val (.int .i64 (n:Int))] (PrR roles is y n):=by
 have hk60:2 ^ roles.length<=1152921504606846976:=Y03 (Y1f (by decide) H.len) (by decide);have hlen:=H.len;have hnl:(Xc (X9 roles)).length=roles.length:=by simp [Xc,X9]
 refine ZX ok78 (Y0 rfl) fun C hC=>?_;refine Zn ?_;refine Z8 ?_;(refine go ?_;repeat' (apply B<;>intro hb<;>try cases hb));refine ZH rfl rfl (Z24 roles fl is g caps H hy hn hdis ks rfl) ?_;rintro n' r h' ⟨rfl,rfl,ks1,rfl⟩;generalize hv:X1X roles.length (okM roles is) y n=v;cases v
 . (refine go ?_;repeat' (apply B<;>intro hb<;>try cases hb));exact Z12 rfl Yt rfl (Zq _ _ ks1) ⟨by rw [prB,hv]; rfl,ks1,rfl⟩
 . (refine go ?_;repeat' (apply B<;>intro hb<;>try cases hb));refine Zv hC (fun (x:Nat×List Ke)=>x.1<=roles.length/\∀ i,i<x.1->X17 roles.length (okM roles is) y n i=false) (fun x=>roles.length-x.1) 1 (fun x => [(0,X3O roles fl g caps),(1,.val (.int .i64 (y:Int))),(2,.val (.int .i64 (n:Int))),(18,.val (.int .i64 (roles.length:Int))),(19,.val (.int .i64 (x.1:Int)))])
    (fun x => [(0,X4d roles is x.2)]) (Y0m _) (0,ks1) ⟨Y0l _,fun i hi=>absurd hi (YR i)⟩
    ⟨⟨rfl,Z3Z H (by decide)⟩,⟨rfl,Yt⟩,⟨rfl,Yt⟩,⟨by rw [<- hnl]; rfl,Yt⟩,⟨rfl,Yt⟩,Yt⟩
    ⟨⟨by decide,rfl,Zc (fun _ h=>h.elim) _ (Zq _ _ ks1)⟩,Yt⟩ ?_
   rintro⟨i,ks2⟩ ⟨hi,hno⟩;dsimp only at hi hno ⊢;have hinc:IntKind.i64.wrap ((i:Int)+1)=((i+1:Nat):Int):=Y0v _ ⟨by omega,by omega⟩;have hnext:X17 roles.length (okM roles is) y n i=false->∀ t,t<i+1->X17 roles.length (okM roles is) y n t=false:=fun h t ht=>by
    by_cases hti:t=i
    . subst hti; exact h
    . exact hno t (by omega)
   (refine go ?_;repeat' (apply B<;>intro hb<;>try cases hb))
   . have hil : i < roles.length := by simpa using ‹decide ((i : Int) < (roles.length : Int)) = true›
     have hyb:=Z4o (by omega) (by omega) hb;rw [ZbS (by omega) (by omega) hyb];refine ZH rfl rfl (Z24 roles fl is g caps H (Y02 (Y4q _ _) hy) hn (Z2A hyb hdis) ks2 rfl) ?_;rintro n' r h' ⟨rfl,rfl,ks3,rfl⟩;generalize hv1:X1X roles.length (okM roles is) (y-2 ^ i) n=v1;cases v1
     . clear hb;(refine go ?_;repeat' (apply B<;>intro hb<;>try cases hb))
       . have hnb := Z4o (by omega) (by omega) hb;rw [ZbS (by omega) (by omega) hnb];refine ZH rfl rfl (Z24 roles fl is g caps H hy (Y02 (Y4q _ _) hn) (by rw [Y2q]; exact Z2A hnb (by rw [Y2q]; exact hdis)) ks3 rfl) ?_;rintro n' r h' ⟨rfl,rfl,ks4,rfl⟩;generalize hv2:X1X roles.length (okM roles is) y (n-2 ^ i)=v2;cases v2
         . (refine go ?_;repeat' (apply B<;>intro hb<;>try cases hb));have hst:X17 roles.length (okM roles is) y n i=false:=by rw [X17,hyb,hv1,hnb,hv2]; rfl
           exact⟨(i+1,ks4),⟨by show i+1<=_; omega,hnext hst⟩,by show _-(i+1)<_-i; omega,⟨⟨rfl,Z3Z H (by decide)⟩,⟨rfl,Yt⟩,⟨rfl,Yt⟩,⟨rfl,Yt⟩,⟨by show some _=some _; rw [hinc],Yt⟩,Yt⟩,⟨⟨by decide,rfl,Zc (fun _ h=>h.elim) _ (Zq _ _ ks4)⟩,Yt⟩⟩
         . (refine go ?_;repeat' (apply B<;>intro hb<;>try cases hb));have hst:X17 roles.length (okM roles is) y n i=true:=by rw [X17,hyb,hv1,hnb,hv2]; rfl
           exact Z12 rfl Yt rfl (Zq _ _ ks4) ⟨by rw [Z6N hil hst],ks4,rfl⟩
       . have hnb := Z4o (by omega) (by omega) hb;have hst:X17 roles.length (okM roles is) y n i=false:=by rw [X17,hyb,hv1,hnb]; rfl
         exact⟨(i+1,ks3),⟨by show i+1<=_; omega,hnext hst⟩,by show _-(i+1)<_-i; omega,⟨⟨rfl,Z3Z H (by decide)⟩,⟨rfl,Yt⟩,⟨rfl,Yt⟩,⟨rfl,Yt⟩,⟨by show some _=some _; rw [hinc],Yt⟩,Yt⟩,⟨⟨by decide,rfl,Zc (fun _ h=>h.elim) _ (Zq _ _ ks3)⟩,Yt⟩⟩
     . (refine go ?_;repeat' (apply B<;>intro hb<;>try cases hb));have hst:X17 roles.length (okM roles is) y n i=true:=by rw [X17,hyb,hv1]; rfl
       exact Z12 rfl Yt rfl (Zq _ _ ks3) ⟨by rw [Z6N hil hst],ks3,rfl⟩
   . have hil : i < roles.length := by simpa using ‹decide ((i : Int) < (roles.length : Int)) = true›
     have hyb:=Z4o (by omega) (by omega) ‹(bits .and .i64 (y:Int) (IntKind.i64.wrap (1*2 ^ (min (i:Int).toNat IntKind.i64.bits))) != 0)=false›;have hnb:=Z4o (by omega) (by omega) hb;rw [ZbS (by omega) (by omega) hnb];refine ZH rfl rfl (Z24 roles fl is g caps H hy (Y02 (Y4q _ _) hn) (by rw [Y2q]; exact Z2A hnb (by rw [Y2q]; exact hdis)) ks2 rfl) ?_;rintro n' r h' ⟨rfl,rfl,ks4,rfl⟩;generalize hv2:X1X roles.length (okM roles is) y (n-2 ^ i)=v2;cases v2
     . (refine go ?_;repeat' (apply B<;>intro hb<;>try cases hb));have hst:X17 roles.length (okM roles is) y n i=false:=by rw [X17,hyb,hnb,hv2]; rfl
       exact⟨(i+1,ks4),⟨by show i+1<=_; omega,hnext hst⟩,by show _-(i+1)<_-i; omega,⟨⟨rfl,Z3Z H (by decide)⟩,⟨rfl,Yt⟩,⟨rfl,Yt⟩,⟨rfl,Yt⟩,⟨by show some _=some _; rw [hinc],Yt⟩,Yt⟩,⟨⟨by decide,rfl,Zc (fun _ h=>h.elim) _ (Zq _ _ ks4)⟩,Yt⟩⟩
     . (refine go ?_;repeat' (apply B<;>intro hb<;>try cases hb));have hst:X17 roles.length (okM roles is) y n i=true:=by rw [X17,hyb,hnb,hv2]; rfl
       exact Z12 rfl Yt rfl (Zq _ _ ks4) ⟨by rw [Z6N hil hst],ks4,rfl⟩
   . have hil : i < roles.length := by simpa using ‹decide ((i : Int) < (roles.length : Int)) = true›
     have hyb:=Z4o (by omega) (by omega) ‹(bits .and .i64 (y:Int) (IntKind.i64.wrap (1*2 ^ (min (i:Int).toNat IntKind.i64.bits))) != 0)=false›;have hnb:=Z4o (by omega) (by omega) hb;have hst:X17 roles.length (okM roles is) y n i=false:=by rw [X17,hyb,hnb]; rfl
     exact⟨(i+1,ks2),⟨by show i+1<=_; omega,hnext hst⟩,by show _-(i+1)<_-i; omega,⟨⟨rfl,Z3Z H (by decide)⟩,⟨rfl,Yt⟩,⟨rfl,Yt⟩,⟨rfl,Yt⟩,⟨by show some _=some _; rw [hinc],Yt⟩,Yt⟩,⟨⟨by decide,rfl,Zc (fun _ h=>h.elim) _ (Zq _ _ ks2)⟩,Yt⟩⟩
   . have hil : i = roles.length := by have := YH hb; omega
     subst hil;exact Z12 rfl Yt rfl (Zq _ _ ks2) ⟨by rw [Z8R hv hno],ks2,rfl⟩
theorem Zes (roles:List Nat) (fl:Bool) (is:Nat->Bool) (g:Nat) (caps:List PV) (H:X3a roles is g caps) {y n:Nat} (hy:y<2 ^ roles.length) (hn:n<2 ^ roles.length) (hd:y &&& n=0) (ks:List Ke) {m:Nat} {h:X0} (hh:h 0=some (X4d roles is ks)) :
 Xp Tryz.prog 78 m [X3O roles fl g caps,.val (.int .i64 (y:Int)),.val (.int .i64 (n:Int))] h fun n' r h'=>n'=m/\r=.val (.bool (prB roles.length (okM roles is) y n))/\∃ ks',h'=h.upd 0 (X4d roles is ks') :=
 Xp.mono ((Zer roles fl is g caps H y n hy hn hd ks).ispec (Zq _ _ ks) ⟨⟨ZU _ _,ZC (fun _ h=>h.elim) _ H.pure,rfl,Yt⟩,Yt,Yt,Yt⟩ hh)
  fun n' r h' ⟨h1,b',_,_,⟨h2,ks',h3⟩,h4⟩=>⟨h1,h2,ks',by rw [<- h3]; exact h4⟩
theorem Zdj {y n:Nat} (hy:y<9223372036854775808) (hn:n<9223372036854775808) {b:Bool} (h:(bits .and .i64 (y:Int) (n:Int) == 0)=b):decide (y &&& n=0)=b:=by
 rw [ZbQ y n hy hn] at h;rw [<- h,YS];simp
theorem Zr (l:List Cu):X2 (l.map cuC):=Z17 Z23 l
theorem Z31 {roles:List Nat} {fl:Bool} {is:Nat->Bool} {g:Nat} {caps:List PV} (H:X3a roles is g caps) {ρ:Nat->Nat} {D:Nat->Prop} (h0:D 0) (hρ:ρ 0=0):X1S ρ D (X3O roles fl g caps) (X3O roles fl g caps) :=
 .same _ ⟨ZU _ _,ZC (fun _ h=>h.elim) _ H.pure,⟨h0,hρ⟩,Yt⟩
theorem Zet (roles:List Nat) (fl:Bool) (is:Nat->Bool) (g:Nat) (caps:List PV) (H:X3a roles is g caps) (h8:roles.length<=8) :
 X1a Tryz.prog 35 [.vec (Xc (X9 roles)) fl,.fn g caps] .own ⟨2,(X2N (prL (okM roles is) roles)).map cuC⟩:=by
 have hk8:2 ^ roles.length<=256:=Y03 (Y1f (by decide) h8) (by decide);have hnl:(Xc (X9 roles)).length=roles.length:=by simp [Xc,X9]
 have hshl:=X6i roles.length (by omega);have hcp:∀ l:List Cu,XG (· < 2) (l.map cuC):=fun l=>Zc (fun _ h=>h.elim) _ (Zr l);refine ZY ok35 (Y0 rfl) fun C hC=>?_
 iterate 10 (first|refine st ?_|(apply B<;>intro hb<;>try cases hb))
 refine Z5 rfl rfl rfl ?_
 iterate 9 (first|refine st ?_|(apply B<;>intro hb<;>try cases hb))
 refine Zm (ZD (k:=6) rfl 2 (by decide)) ?_;(refine go ?_;repeat' (apply B<;>intro hb<;>try cases hb));refine Z1n hC (fun (x:Nat×List Ke)=>x.1<=2 ^ roles.length) (fun x=>2 ^ roles.length-x.1) 2 (fun x => [(0,.vec (Xc (X9 roles)) fl),(5,X3O roles fl g caps),(6,.own 1),(16,.val (.int .i64 ((2 ^ roles.length:Nat):Int))),(17,.val (.int .i64 (x.1:Int)))])
  (fun x => [(0,X4d roles is x.2),(1,⟨2,(X3F roles.length (okM roles is) roles x.1).map cuC⟩)]) (Y0l _) (0,[]) (Y0l _) (fun i=>i) (fun _ _=>rfl) Z1a
  ⟨Qp (Zf _),⟨_,rfl,Z31 H (by decide) rfl⟩,⟨_,rfl,.own 1 (by decide)⟩,⟨_,by show some _=some (PV.val (.int .i64 ((2 ^ roles.length:Nat):Int))); rw [<- hshl,<- hnl],.pure _ Yt⟩,Qp Yt,Yt⟩
  ⟨Qs Yt,Qs Yt,Yt⟩ ?_
 rintro⟨y,ks⟩ hy;dsimp only at hy ⊢;have hinc:IntKind.i64.wrap ((y:Int)+1)=((y+1:Nat):Int):=Y0v _ ⟨by omega,by omega⟩;(refine go ?_;repeat' (apply B<;>intro hb<;>try cases hb))
 . have hyl : y < 2 ^ roles.length := by have := Y0u hb; omega
   refine Z1n hC (fun (x:Nat×List Ke)=>x.1<=2 ^ roles.length) (fun x=>2 ^ roles.length-x.1) 2 (fun x => [(0,.vec (Xc (X9 roles)) fl),(5,X3O roles fl g caps),(6,.own 1),(7,.val (.int .i64 (y:Int))),(16,.val (.int .i64 ((2 ^ roles.length:Nat):Int))),(17,.val (.int .i64 (y:Int))),(22,.val (.int .i64 ((2 ^ roles.length:Nat):Int))),(23,.val (.int .i64 (x.1:Int)))])
    (fun x => [(0,X4d roles is x.2),(1,⟨2,(X3F roles.length (okM roles is) roles y++X20 roles.length (okM roles is) roles y x.1).map cuC⟩)]) (Y0l _) (0,ks) (Y0l _) (fun i=>i) (fun _ _=>rfl) Z1a
    ⟨Qp (Zf _),⟨_,rfl,Z31 H (by decide) rfl⟩,⟨_,rfl,.own 1 (by decide)⟩,Qp Yt,Qp Yt,Qp Yt,⟨_,by show some _=some (PV.val (.int .i64 ((2 ^ roles.length:Nat):Int))); rw [<- hshl,<- hnl],.pure _ Yt⟩,Qp Yt,Yt⟩
    ⟨Qs (Zq _ _ _),⟨by decide,_,rfl,by rw [show X20 roles.length (okM roles is) roles y 0 = [] from rfl,Y0p]; exact .same _ (Zr _)⟩,Yt⟩ ?_
   rintro⟨n,ks1⟩ hn;dsimp only at hn ⊢;have hincn:IntKind.i64.wrap ((n:Int)+1)=((n+1:Nat):Int):=Y0v _ ⟨by omega,by omega⟩;clear hb;have hlen1:=Zdi roles.length (okM roles is) roles y;have hlen2:=Za7 roles.length (okM roles is) roles y n;have hmul:y*2 ^ roles.length<=256*256:=Nat.mul_le_mul (by omega) hk8;have hsucc:=Zep roles.length (okM roles is) roles y n;(refine go ?_;repeat' (apply B<;>intro hb<;>try cases hb))
   . -- disjoint
     have hnl1:n<2 ^ roles.length:=by have:=Y0u ‹decide ((n:Int)<((2 ^ roles.length:Nat):Int))=true›; omega
     have hdis:=Zdj (by omega) (by omega) hb;rw [hdis,Y19] at hsucc;refine ZH rfl rfl (Zes roles fl is g caps H hyl hnl1 (Y0u hdis) ks1 rfl) ?_;rintro n' r h' ⟨rfl,rfl,ks2,rfl⟩;generalize prB roles.length (okM roles is) y n=v at hsucc;cases v
     . rw [Y8 (by decide), Y0p] at hsucc;(refine go ?_;repeat' (apply B<;>intro hb<;>try cases hb))
       exact⟨(n+1,ks2),fun i=>i,by show n+1<=_; omega,by show _-(n+1)<_-n; omega,fun _ _=>rfl,Z1a,⟨Qp (Zf _),⟨_,rfl,Z31 H (by decide) rfl⟩,⟨_,rfl,.own 1 (by decide)⟩,Qp Yt,Qp Yt,Qp Yt,Qp Yt,⟨_,by show some _=some _; rw [hincn],.pure _ Yt⟩,Yt⟩,
        ⟨Qs (Zq _ _ _),⟨by decide,_,rfl,by rw [hsucc]; exact .same _ (Zr _)⟩,Yt⟩⟩
     . rw [Y7 rfl] at hsucc;(refine go ?_;repeat' (apply B<;>intro hb<;>try cases hb));refine ZfE rfl rfl (Z6L roles fl is g caps H y (by omega)) rfl ?_;rintro r rfl;(refine go ?_;repeat' (apply B<;>intro hb<;>try cases hb));refine ZfE rfl rfl (Z6L roles fl is g caps H n (by omega)) rfl ?_;rintro r rfl;(refine go ?_;repeat' (apply B<;>intro hb<;>try cases hb))
       refine ZB (Z11 (k:=1) (m := [cuC (X1j roles y,X1j roles n)]) (fl:=true) rfl rfl rfl (fun c hc=>by rw [Y0g] at hc; subst hc; rfl) rfl (by
        show (((X3F roles.length (okM roles is) roles y++X20 roles.length (okM roles is) roles y n).map cuC).length+1)*48<=_;rw [Y0f,Y0e]
        omega)) rfl rfl ?_
       (refine go ?_;repeat' (apply B<;>intro hb<;>try cases hb))
       refine⟨(n+1,ks2),mv 1 2,by show n+1<=_; omega,by show _-(n+1)<_-n; omega,fun i hi=>absurd hi (YR i),Z1e rfl,⟨Qp (Zf _),⟨_,rfl,Z31 H (by decide) rfl⟩,⟨_,rfl,.own 1 (by decide)⟩,Qp Yt,Qp Yt,Qp Yt,Qp Yt,⟨_,by show some _=some _; rw [hincn],.pure _ Yt⟩,Yt⟩,
        ⟨Qs (Zq _ _ _),⟨by decide,_,rfl,?_⟩,Yt⟩⟩
       show X1w _ _ ⟨2,(X3F roles.length (okM roles is) roles y++X20 roles.length (okM roles is) roles y n).map cuC ++ [cuC (X1j roles y,X1j roles n)]⟩ ⟨2,(X3F roles.length (okM roles is) roles y++X20 roles.length (okM roles is) roles y (n+1)).map cuC⟩;rw [hsucc,<- Y1b,Y0r (l₁:=X3F roles.length (okM roles is) roles y++X20 roles.length (okM roles is) roles y n)];exact .same _ (by rw [<- List.map_singleton,<- Y0r]; exact Zr _)
   . have hnl1 : n < 2 ^ roles.length := by have := Y0u ‹decide ((n : Int) < ((2 ^ roles.length : Nat) : Int)) = true›; omega
     have hdis:=Zdj (by omega) (by omega) hb;rw [hdis,Y2m,Y8 (by decide),Y0p] at hsucc
     exact⟨(n+1,ks1),fun i=>i,by show n+1<=_; omega,by show _-(n+1)<_-n; omega,fun _ _=>rfl,Z1a,⟨Qp (Zf _),⟨_,rfl,Z31 H (by decide) rfl⟩,⟨_,rfl,.own 1 (by decide)⟩,Qp Yt,Qp Yt,Qp Yt,Qp Yt,⟨_,by show some _=some _; rw [hincn],.pure _ Yt⟩,Yt⟩,
      ⟨Qs (Zq _ _ _),⟨by decide,_,rfl,by rw [hsucc]; exact .same _ (Zr _)⟩,Yt⟩⟩
   . have hnl1 : n = 2 ^ roles.length := by have := YH hb; omega
     subst hnl1
     exact⟨(y+1,ks1),fun i=>i,by show y+1<=_; omega,by show _-(y+1)<_-y; omega,fun _ _=>rfl,Z1a,
      ⟨Qp (Zf _),⟨_,rfl,Z31 H (by decide) rfl⟩,⟨_,rfl,.own 1 (by decide)⟩,Qp Yt,⟨_,by show some _=some _; rw [hinc],.pure _ Yt⟩,Yt⟩,
      ⟨Qs (Zq _ _ _),⟨by decide,_,rfl,by rw [Za6]; exact .same _ (Zr _)⟩,Yt⟩⟩
 . have hyl : y = 2 ^ roles.length := by have := YH hb; omega
   have h64:∀ c∈prL (okM roles is) roles,X4j c:=fun c hc=>Zgz H.lt hc;have hfin:X3F roles.length (okM roles is) roles y=prL (okM roles is) roles:=by rw [hyl]; rfl
   rw [hfin];refine ZH rfl rfl (ZbP (ob:=1) (prL (okM roles is) roles) h64 rfl) ?_;rintro n' r h' ⟨rfl,rfl,ys,hperm,hsort,rfl⟩;have hys:=Z5J hperm hsort h64;subst hys;(refine go ?_;repeat' (apply B<;>intro hb<;>try cases hb));exact⟨_,_,rfl,.inl rfl,1,rfl,rfl⟩
theorem ZbT (roles:List Nat) (fl:Bool) (is:Nat->Bool) (g:Nat) (caps:List PV) (H:X3a roles is g caps) (h8:roles.length<=8) :
 X7 Tryz.prog 35 [.vec (Xc (X9 roles)) fl,.fn g caps] (· = .vec ((X2N (prL (okM roles is) roles)).map cuC) false) :=
 (Zet roles fl is g caps H h8).spec (Zr _) (fun _=>.own) (Zr _)
theorem Zjf {P:Program} {z:Rsv} {n i mask:Nat} {d:Option Nat} {e:Env} {h:X0} {f:Operand} {args:List Operand} {iso:Nat} {alt:Bool} {xs:List X5} {K:Env->X0->Prop} {g:FuncId} {caps as0 args':List PV} {v:PV} (hs:X7 P g args' (· = v)) (hf:ev e f=some (.fn g caps)) (ha:evs e args=some as0) (ha':X1h (as0++caps)=args') (hp:Xe args') (hk:dK P z n xs (Xq e d v) h K) :
 dK P z n (⟨i,⟨d,.call f args,none⟩,mask,iso,alt⟩ :: xs) e h K:=by
 subst ha';exact ZfD hf ha (.inr rfl) hs hp fun _ hr=>hr▸hk
theorem Zac:∀ (k N:Nat),X1c k N=(X6g k N).length
 | 0,N=>rfl
 | k + 1, N => by
   rw [Zgv,Y0e,Y0f,<- Zac k (N / 2)];simp only [X1c];by_cases h:N % 2=1
   . rw [Y7 h,h]; simp
   . rw [Y8 h]; have : N % 2 = 0 := by omega
     rw [this]; simp
theorem Ziq (N:Nat):X1c 64 N=(mem N).length:=Zac 64 N
end
section
open Go.RowKit
theorem tb {y i:Nat} (h:¬ y.testBit i=true):y.testBit i=false:=by simpa using h
theorem tb2 {b:Bool} (h:¬ b=true):b=false:=by simpa using h
theorem Zeu (a s:Nat):a ||| s=s↔∀ i,a.testBit i=true->s.testBit i=true:=by
 constructor
 . intro h i hi;rw [<- h,Y00,hi,Bool.true_or]
 . intro h;refine YB fun i=>?_;rw [Y00];cases ha:a.testBit i with
   | false=>rfl
   | true=>rw [h i ha]; rfl
theorem Z1J (a s:Nat):a &&& s=0↔∀ i,a.testBit i=true->s.testBit i=false:=by
 constructor
 . intro h i hi;have:=congrArg (·.testBit i) h;simp only [Y0z,hi,Y19,Y1l] at this;exact this
 . intro h;refine YB fun i=>?_;rw [Y0z,Y1l];cases ha:a.testBit i with
   | false=>rfl
   | true=>rw [h i ha]; rfl
theorem Z6O (c:Cu) (s:Nat):hoC c s=true↔(∀ i,c.1.testBit i=true->s.testBit i=true)/\∀ i,c.2.testBit i=true->s.testBit i=false:=by
 unfold hoC;rw [Y0k,Y39,Y1q,Y15,Decidable.not_not,Zeu,Z1J]
theorem Z1g {y i:Nat} (h:y.testBit i=true) (j:Nat):(y-2 ^ i).testBit j=(y.testBit j&&decide (j≠i)):=by
 have hle:=Zab h;have h3:(y ^^^ 2 ^ i) &&& 2 ^ i=0:=by
  refine YB fun t=>?_;rw [Y0z,Y1K,YJ,Y1l];by_cases ht:i=t
  . subst ht; rw [h]; simp
  . simp [ht]
 have h4:(y ^^^ 2 ^ i) ||| 2 ^ i=y:=by
  refine YB fun t=>?_;rw [Y00,Y1K,YJ];by_cases ht:i=t
  . subst ht; rw [h]; simp
  . simp [ht]
 have h5:(y ^^^ 2 ^ i)+2 ^ i=(y ^^^ 2 ^ i) ||| 2 ^ i:=Zje h3
 have hx:y-2 ^ i=y ^^^ 2 ^ i:=by omega
 rw [hx,Y1K,YJ];by_cases hj:i=j
 . subst hj; rw [h]; simp
 . have : j ≠ i := fun e => hj e.symm;simp [hj,this]
def X6b (a b:Nat):Prop:=∀ i,a.testBit i=true->b.testBit i=true
theorem Zad (a:Nat):X6b a a:=fun _ h=>h
theorem Zdk {y i:Nat} (h:y.testBit i=true):X6b (y-2 ^ i) y:=fun j hj=>by rw [Z1g h,Y0k] at hj; exact hj.1
theorem Z3E (k:Nat) (ok:Nat->Bool):∀ (m y n:Nat),y+n<=m->y<2 ^ k->n<2 ^ k->y &&& n=0->X1X k ok y n=true->∃ y' n',X6b y' y/\X6b n' n/\y'<2 ^ k/\n'<2 ^ k/\y' &&& n'=0/\prB k ok y' n'=true
 | m, y, n, hm, hy, hn, hd, hi => by
   by_cases hp:prB k ok y n=true
   . exact⟨y,n,Zad y,Zad n,hy,hn,hd,hp⟩
   . have hex : ∃ i, i < k /\ X17 k ok y n i = true := by
      apply Y2l;intro hno;exact hp (Z8R hi fun i hik=>tb2 fun h=>hno ⟨i,hik,h⟩)
     obtain⟨i,hik,hs⟩:=hex;unfold X17 at hs;rw [YO,Y0k,Y0k] at hs;have hpos:0<2 ^ i:=Y23 (by decide);rcases hs with⟨hb,h2⟩|⟨hb,h2⟩
     . have hle := Zab hb;obtain⟨y',n',s1,s2,r⟩:=Z3E k ok (m-1) (y-2 ^ i) n (by omega) (by omega) hn (Z2A hb hd) h2;exact⟨y',n',fun j hj=>Zdk hb j (s1 j hj),s2,r⟩
     . have hle := Zab hb;have hd2:y &&& (n-2 ^ i)=0:=by rw [Y2q]; exact Z2A hb (by rw [Y2q]; exact hd)
       obtain⟨y',n',s1,s2,r⟩:=Z3E k ok (m-1) y (n-2 ^ i) (by omega) hy (by omega) hd2 h2;exact⟨y',n',s1,fun j hj=>Zdk hb j (s2 j hj),r⟩
termination_by m=>m
decreasing_by all_goals omega
def X34 (roles:List Nat) (S:Nat):Nat->Nat
 | 0=>0
 | t+1=>X34 roles S t+(if S.testBit (roles.getD t 0)=true then 2 ^ t else 0)
def msk (roles:List Nat) (S:Nat):Nat:=X34 roles S roles.length
theorem Z8S (roles:List Nat) (S:Nat):∀ t,X34 roles S t<2 ^ t
 | 0=>by simp [X34]
 | t + 1 => by
   have:=Z8S roles S t;simp only [X34,YU]
   split<;>omega
theorem Zae (roles:List Nat) (S j:Nat):∀ t,(X34 roles S t).testBit j=(decide (j<t)&&S.testBit (roles.getD j 0))
 | 0=>by simp [X34]
 | t + 1 => by
   have ih:=Zae roles S j t;have hlt:=Z8S roles S t;simp only [X34];by_cases hb:S.testBit (roles.getD t 0)=true
   . rw [Y7 hb, Y33];by_cases hj:j=t
     . subst hj;rw [Nat.testBit_two_pow_add_eq,Y1A hlt,hb];simp
     . by_cases hj2 : j < t
       . rw [Nat.testBit_two_pow_add_gt hj2, ih];simp [hj2,show j<t+1 by omega]
       . have : 2 ^ t + X34 roles S t < 2 ^ j := by
          have:=Y1f (n:=2) (by decide) (show t+1<=j by omega);rw [YU] at this;omega
         rw [Y1A this];simp [show ¬ j<t+1 by omega]
   . rw [Y8 hb, YX, ih];by_cases hj:j=t
     . subst hj; rw [tb hb,Y29,Y29]
     . by_cases hj2 : j < t
       . simp [hj2,show j<t+1 by omega]
       . simp [hj2,show ¬ j<t+1 by omega]
theorem Zaf (roles:List Nat) (S:Nat):msk roles S<2 ^ roles.length:=Z8S _ _ _
theorem Z4p (roles:List Nat) (S j:Nat):(msk roles S).testBit j=(decide (j<roles.length)&&S.testBit (roles.getD j 0)):=Zae _ _ _ _
theorem Z1Q (roles:List Nat) (m j:Nat):(X1j roles m).testBit j=true↔∃ t,t<roles.length/\m.testBit t=true/\roles.getD t 0=j:=Z51 roles m j _
theorem Z6P {k y i:Nat} (hy:y<2 ^ k) (h:y.testBit i=true):i<k:=by
 apply Y2l;intro hn;have:y<2 ^ i:=YW hy (Y1f (by decide) (by omega));rw [Y1A this] at h;cases h
theorem Z8T (roles:List Nat) {y n:Nat} (hy:y<2 ^ roles.length) (hn:n<2 ^ roles.length) (S:Nat):hoC (X1j roles y,X1j roles n) S=X4P y n (msk roles S):=by
 rw [YS,Z6O,Z2I];constructor
 . rintro ⟨h1, h2⟩;refine⟨fun t ht=>?_,fun t ht=>?_⟩
   . have hl := Z6P hy ht;rw [Z4p,h1 _ ((Z1Q _ _ _).2 ⟨t,hl,ht,rfl⟩)];simp [hl]
   . have hl := Z6P hn ht;rw [Z4p,h2 _ ((Z1Q _ _ _).2 ⟨t,hl,ht,rfl⟩)];simp
 . rintro ⟨h1, h2⟩;refine⟨fun i hi=>?_,fun i hi=>?_⟩
   . obtain ⟨t, hl, ht, rfl⟩ := (Z1Q _ _ _).1 hi;have:=h1 t ht;rw [Z4p,Y0k] at this;exact this.2
   . obtain ⟨t, hl, ht, rfl⟩ := (Z1Q _ _ _).1 hi;have:=h2 t ht;rw [Z4p,YF hl,Y19] at this;exact this
theorem ZbU {ok:Nat->Bool} {roles:List Nat} {c:Cu}:c∈prL ok roles↔∃ y n,y<2 ^ roles.length/\n<2 ^ roles.length/\y &&& n=0/\prB roles.length ok y n=true/\c=(X1j roles y,X1j roles n):=by
 rw [Zjb,Y0i];constructor
 . rintro ⟨p, hp, rfl⟩;rw [Y1E,Z5r] at hp;exact⟨p.1,p.2,hp.1.1,hp.1.2.1,hp.1.2.2,hp.2,rfl⟩
 . rintro ⟨y, n, h1, h2, h3, h4, rfl⟩;exact⟨(y,n),Y1E.2 ⟨Z5r.2 ⟨h1,h2,h3⟩,h4⟩,rfl⟩
theorem ZgE {k:Nat} {ok:Nat->Bool} {y n:Nat} (h:prB k ok y n=true):X1X k ok y n=true:=by
 unfold prB at h; rw [Y0k] at h; exact h.1
theorem ZjT (ok:Nat->Bool) (roles:List Nat) (S:Nat):soC (prL ok roles) S=ok (msk roles S):=by
 rw [YS];unfold soC;rw [Y01];constructor
 . rintro ⟨c, hc, hs⟩;obtain⟨y,n,h1,h2,h3,h4,rfl⟩:=ZbU.1 hc;rw [Z8T roles h1 h2] at hs;exact Z3Y.1 (ZgE h4) _ (Zaf _ _) hs
 . intro hok;have hm:=Zaf roles S;generalize hmm:msk roles S=m at *;obtain⟨n,hn⟩:∃ n,n=2 ^ roles.length-1-m:=⟨_,rfl⟩
   have hnb:∀ i,n.testBit i=(decide (i<roles.length) && !m.testBit i):=fun i=>by rw [hn,show 2 ^ roles.length-1-m=2 ^ roles.length-(m+1) by omega]; exact Y2P hm i
   have hd:m &&& n=0:=(Z1J _ _).2 fun i hi=>by rw [hnb,hi]; simp
   have hf:X1X roles.length ok m n=true:=by
    rw [Za5 ok hm hd fun i hi=>by rw [Y00,hnb]; simp [hi]];exact hok
   obtain⟨y',n',s1,s2,h1,h2,h3,h4⟩:=Z3E roles.length ok (m+n) m n (Y0m _) hm (by omega) hd hf;refine⟨_,ZbU.2 ⟨y',n',h1,h2,h3,h4,rfl⟩,?_⟩;rw [Z8T roles h1 h2,hmm,Z2I];refine⟨s1,fun i hi=>?_⟩;have:=s2 i hi;rw [hnb,Y0k,Y39] at this;exact this.2
def X4W (φ:Nat->Bool) (c:Cu):Prop:=∀ S,hoC c S=true->φ S=true
structure X6M (φ:Nat->Bool) (c:Cu):Prop where
 dis:c.1 &&& c.2=0
 imp:X4W φ c
 yes:∀ i,c.1.testBit i=true->¬ X4W φ (c.1-2 ^ i,c.2)
 no:∀ i,c.2.testBit i=true->¬ X4W φ (c.1,c.2-2 ^ i)
def Dep (N:Nat) (φ:Nat->Bool):Prop:=∀ S T,(∀ i,N.testBit i=true->S.testBit i=T.testBit i)->φ S=φ T
theorem Zag {l:List Nat} (h:l.Nodup) {s t:Nat} (hs:s<l.length) (ht:t<l.length) (he:l.getD s 0=l.getD t 0):s=t:=by
 rw [Y0b,Y0b,Y0c hs,Y0c ht] at he;have hp:=Y1W.1 h;have he':l[s]=l[t]:=he;rcases Y3R s t with hlt|hlt|hlt
 . exact absurd he' (hp s t hs ht hlt)
 . exact hlt
 . exact absurd he'.symm (hp t s ht hs hlt)
theorem Zah (N:Nat):(mem N).Nodup:=(Z5p N).imp fun h=>Nat.ne_of_lt h
theorem Zir {N t:Nat} (hN:N<18446744073709551616) (ht:t<(mem N).length):N.testBit ((mem N).getD t 0)=true:=by
 rw [Y0b,Y0c ht];exact (Z5o hN).1 (Y0j ht)
section
variable {N:Nat} (hN:N<18446744073709551616)
include hN
theorem ZkB {i:Nat} (h:N.testBit i=true):∃ t,t<(mem N).length/\(mem N).getD t 0=i:=by
 obtain⟨t,ht,he⟩:=YE ((Z5o hN).2 h);exact⟨t,ht,by rw [Y0b,Y0c ht]; exact he⟩
theorem Z4q {y t:Nat} (ht:t<(mem N).length):(X1j (mem N) y).testBit ((mem N).getD t 0)=y.testBit t:=by
 rw [YS,Z1Q];constructor
 . rintro ⟨s, h1, h2, h3⟩;have:=Zag (Zah N) h1 ht h3;subst this; exact h2
 . intro h; exact⟨t,ht,h,rfl⟩
theorem Z8U (S i:Nat):(X1j (mem N) (msk (mem N) S)).testBit i=(N.testBit i&&S.testBit i):=by
 rw [YS,Y0k,Z1Q];constructor
 . rintro ⟨t, h1, h2, rfl⟩;rw [Z4p,Y0k] at h2;exact⟨Zir hN h1,h2.2⟩
 . rintro ⟨h1, h2⟩;obtain⟨t,ht,rfl⟩:=ZkB hN h1;exact⟨t,ht,by rw [Z4p,h2]; simp [ht],rfl⟩
theorem Z8V {y:Nat} (hy:y<2 ^ (mem N).length):msk (mem N) (X1j (mem N) y)=y:=by
 refine YB fun t=>?_;rw [Z4p];by_cases ht:t<(mem N).length
 . rw [YF ht,Y19,Z4q hN ht]
 . rw [Y0w ht, Y2m];exact (tb fun h=>ht (Z6P hy h)).symm
theorem Zdl {y z:Nat} (hy:y<2 ^ (mem N).length) (hz:z<2 ^ (mem N).length) (h:X1j (mem N) y=X1j (mem N) z):y=z:=by
 rw [<- Z8V hN hy,h,Z8V hN hz]
theorem ZgF {φ:Nat->Bool} (hd:Dep N φ) (S:Nat):φ (X1j (mem N) (msk (mem N) S))=φ S:=hd _ _ fun i hi=>by rw [Z8U hN,hi,Y19]
theorem Z40 {φ:Nat->Bool} (hd:Dep N φ) {y n:Nat} (hy:y<2 ^ (mem N).length) (hn:n<2 ^ (mem N).length):X4W φ (X1j (mem N) y,X1j (mem N) n)↔X1X (mem N).length (okM (mem N) φ) y n=true:=by
 rw [Z3Y];constructor
 . intro h m hm hb;exact h _ (by rw [Z8T _ hy hn,Z8V hN hm]; exact hb)
 . intro h S hs;rw [Z8T _ hy hn] at hs;have:=h _ (Zaf _ _) hs;rw [<- ZgF hN hd S]; exact this
theorem Z66 {y t:Nat} (hy:y<2 ^ (mem N).length) (ht:y.testBit t=true):X1j (mem N) y-2 ^ ((mem N).getD t 0)=X1j (mem N) (y-2 ^ t):=by
 have hl:=Z6P hy ht;have hb:(X1j (mem N) y).testBit ((mem N).getD t 0)=true:=by rw [Z4q hN hl]; exact ht
 refine YB fun j=>?_;rw [Z1g hb,YS,Y0k,Z1Q,Z1Q,Y1q];constructor
 . rintro ⟨⟨s, h1, h2, rfl⟩, hne⟩;exact⟨s,h1,by rw [Z1g ht,h2,Y19]; exact YF fun e=>hne (by rw [e]),rfl⟩
 . rintro ⟨s, h1, h2, rfl⟩;rw [Z1g ht,Y0k,Y1q] at h2;exact⟨⟨s,h1,h2.1,rfl⟩,fun e=>h2.2 (Zag (Zah N) h1 hl e)⟩
theorem Zdm {k y t:Nat} (hy:y<2 ^ k):y-2 ^ t<2 ^ k:=Y02 (Y4q _ _) hy
theorem Zai {φ:Nat->Bool} (hd:Dep N φ) (c:Cu):c∈prL (okM (mem N) φ) (mem N)↔X6M φ c:=by
 rw [ZbU];constructor
 . rintro ⟨y, n, hy, hn, hdis, hp, rfl⟩;have hst:∀ i,i<(mem N).length->X17 (mem N).length (okM (mem N) φ) y n i=false:=fun i hi=>by
    unfold prB at hp;rw [Y0k,YA] at hp;have:=hp.2 i (YZ.2 hi);simpa using this
   refine⟨(Z1J _ _).2 fun i hi=>?_,(Z40 hN hd hy hn).2 (ZgE hp),fun i hi=>?_,fun i hi=>?_⟩
   . obtain ⟨t, h1, h2, rfl⟩ := (Z1Q _ _ _).1 hi;show (X1j (mem N) n).testBit _=false;rw [Z4q hN h1];exact (Z1J _ _).1 hdis t h2
   . obtain ⟨t, h1, h2, rfl⟩ := (Z1Q _ _ _).1 hi;show ¬ X4W φ (X1j (mem N) y-_,X1j (mem N) n);rw [Z66 hN hy h2,Z40 hN hd (Zdm hN hy) hn];have:=hst t h1;unfold X17 at this;rw [Y1x,h2,Y19] at this;rw [this.1]; decide
   . obtain ⟨t, h1, h2, rfl⟩ := (Z1Q _ _ _).1 hi;show ¬ X4W φ (X1j (mem N) y,X1j (mem N) n-_);rw [Z66 hN hn h2,Z40 hN hd hy (Zdm hN hn)];have:=hst t h1;unfold X17 at this;rw [Y1x,h2,Y19] at this;rw [this.2]; decide
 . intro h;obtain⟨Y,M⟩:=c;have hd0:=(Z1J _ _).1 h.dis;have hYN:∀ i,Y.testBit i=true->N.testBit i=true:=fun i hi=>by
    apply Y2l;intro hni;refine h.yes i hi fun S hs=>?_;rw [Z6O] at hs;have h1:hoC (Y,M) (S ||| 2 ^ i)=true:=by
     rw [Z6O];refine⟨fun j hj=>?_,fun j hj=>?_⟩
     . rw [ZJ];by_cases e:i=j
       . simp [e]
       . rw [hs.1 j (by show (Y-2 ^ i).testBit j=true; rw [Z1g hi,show Y.testBit j=true from hj]; simp; exact fun e'=>e e'.symm)]; rfl
     . rw [ZJ, hs.2 j hj];have:i≠j:=fun e=>by subst e; have:=hd0 i hi; rw [show M.testBit i=true from hj] at this; cases this
       simp [this]
    have h2:=h.imp _ h1;rw [<- h2];refine hd _ _ fun j hj=>?_;rw [ZJ];have:i≠j:=fun e=>by subst e; exact hni hj
    simp [this]
   have hMN:∀ i,M.testBit i=true->N.testBit i=true:=fun i hi=>by
    apply Y2l;intro hni;refine h.no i hi fun S hs=>?_;rw [Z6O] at hs;by_cases hSi:S.testBit i=true
    . have h1 : hoC (Y, M) (S - 2 ^ i) = true := by
       rw [Z6O];refine⟨fun j hj=>?_,fun j hj=>?_⟩
       . rw [Z1g hSi, hs.1 j hj];have:j≠i:=fun e=>by subst e; have:=hd0 j hj; rw [show M.testBit j=true from hi] at this; cases this
         simp [this]
       . rw [Z1g hSi];by_cases e:j=i
         . simp [e]
         . rw [hs.2 j (by show (M-2 ^ i).testBit j=true; rw [Z1g hi,show M.testBit j=true from hj]; simp [e])]; rfl
      have h2:=h.imp _ h1;rw [<- h2];refine hd _ _ fun j hj=>?_;rw [Z1g hSi];have:j≠i:=fun e=>by subst e; exact hni hj
      simp [this]
    . refine h.imp S ((Z6O _ _).2 ⟨hs.1, fun j hj => ?_⟩);by_cases e:j=i
      . subst e; exact tb hSi
      . exact hs.2 j (by show (M-2 ^ i).testBit j=true; rw [Z1g hi,show M.testBit j=true from hj]; simp [e])
   have eY:X1j (mem N) (msk (mem N) Y)=Y:=YB fun i=>by
    rw [Z8U hN];cases hi:Y.testBit i with
    | false=>rw [Y29]
    | true=>rw [hYN i hi]; rfl
   have eM:X1j (mem N) (msk (mem N) M)=M:=YB fun i=>by
    rw [Z8U hN];cases hi:M.testBit i with
    | false=>rw [Y29]
    | true=>rw [hMN i hi]; rfl
   have hy:=Zaf (mem N) Y;have hn:=Zaf (mem N) M;generalize msk (mem N) Y=y at *;generalize msk (mem N) M=n at *;subst eY;subst eM;refine⟨y,n,hy,hn,(Z1J _ _).2 fun t ht=>?_,Z8R ((Z40 hN hd hy hn).1 h.imp) fun t ht=>?_,rfl⟩
   . have hl := Z6P hy ht;have:=hd0 ((mem N).getD t 0) (by rw [Z4q hN hl]; exact ht);rw [Z4q hN hl] at this; exact this
   . unfold X17;rw [Y1x];constructor
     . cases hb : y.testBit t with
       | false=>rfl
       | true =>
         rw [Y19];refine tb2 fun hi=>h.yes ((mem N).getD t 0) (by show (X1j _ _).testBit _=true; rw [Z4q hN ht]; exact hb) ?_;show X4W φ (X1j (mem N) y-_,X1j (mem N) n);rw [Z66 hN hy hb];exact (Z40 hN hd (Zdm hN hy) hn).2 hi
     . cases hb : n.testBit t with
       | false=>rfl
       | true =>
         rw [Y19];refine tb2 fun hi=>h.no ((mem N).getD t 0) (by show (X1j _ _).testBit _=true; rw [Z4q hN ht]; exact hb) ?_;show X4W φ (X1j (mem N) y,X1j (mem N) n-_);rw [Z66 hN hn hb];exact (Z40 hN hd hy (Zdm hN hn)).2 hi
theorem Zaj (ok:Nat->Bool):(prL ok (mem N)).Nodup:=by
 rw [Zjb];refine Z6J (fun a ha b hb he=>?_) ((Za8 _).filter _);rw [Y1E,Z5r] at ha hb;simp only [X5I,Y2s] at he;exact Prod.ext (Zdl hN ha.1.1 hb.1.1 he.1) (Zdl hN ha.1.2.1 hb.1.2.1 he.2)
end
theorem Zev {N M:Nat} (hN:N<18446744073709551616) (hM:M<18446744073709551616) {φ ψ:Nat->Bool} (h1:Dep N φ) (h2:Dep M ψ) (he:∀ S,φ S=ψ S):X2N (prL (okM (mem N) φ) (mem N))=X2N (prL (okM (mem M) ψ) (mem M)):=by
 have hfe:φ=ψ:=funext he;subst hfe;have hp:(prL (okM (mem N) φ) (mem N)).Perm (prL (okM (mem M) φ) (mem M)):=(Y4h (Zaj hN _) (Zaj hM _)).2 fun c=>by rw [Zai hN h1,Zai hM h2]
 exact Z5J (((Z30 _).trans hp)) (Z3C _) fun c hc=>Zgz (fun r hr=>Z9T hr) hc
theorem Zis {l m:List Cu} (h:l.Perm m) (S:Nat):soC l S=soC m S:=by
 unfold soC;rw [YS,Y01,Y01];exact⟨fun ⟨c,h1,h2⟩=>⟨c,h.mem_iff.1 h1,h2⟩,fun ⟨c,h1,h2⟩=>⟨c,h.mem_iff.2 h1,h2⟩⟩
theorem Zit {N:Nat} (hN:N<18446744073709551616) {φ:Nat->Bool} (hd:Dep N φ) (S:Nat):soC (X2N (prL (okM (mem N) φ) (mem N))) S=φ S:=by
 rw [Zis (Z30 _),ZjT];exact ZgF hN hd S
end
section
open Go.RowKit
attribute [local irreducible] aw Xj dK
theorem Z6Q (b:Bool):X7 Tryz.prog 84 [.val (.bool b)] (· = .val (.int .i64 (b2i b))):=by
 refine Yp ok84 fun C hC=>?_;(refine go ?_;repeat' (apply B<;>intro hb<;>try cases hb))
 . exact Z4 rfl Yt rfl
 . exact Z4 rfl Yt rfl
theorem ZbV (roles:List Int) (N:Nat) (hN:N<18446744073709551616) (hr:∀ r∈roles,1<=r/\r<=63) (hlen:roles.length<=1000):X7 Tryz.prog 83 [.vec (Xc roles) false,XH N] (· = .val (.int .i64 (X2y N roles))):=by
 have hl:=Z19 roles;refine Yp ok83 fun C hC=>?_;refine Zn ?_;refine Z8 ?_;refine Z5 rfl rfl rfl ?_;(refine go ?_;repeat' (apply B<;>intro hb<;>try cases hb));refine Z3U (fun i=>i<=roles.length) (fun i=>roles.length-i) (fun i => [(3,.cp [.vec (X8 (Xt N)) false]),(5,.val (.int .i64 (X2y N (roles.take i)))),(8,.vec (Xc roles) false),(9,.val (.int .i64 roles.length)),(10,Yv i)]) 0 (Y0l _) ⟨rfl,rfl,rfl,by rw [<- hl]; rfl,rfl,Yt⟩ ?_;intro i hi;have hinc:IntKind.i64.wrap ((i:Int)+1)=((i+1:Nat):Int):=Y0v _ ⟨by omega,by omega⟩;(refine go ?_;repeat' (apply B<;>intro hb<;>try cases hb))
 . have hil : i < roles.length := by simpa using hb
   have hrr:=hr roles[i] (Y0j hil);have hadd:IntKind.i64.wrap (X2y N (roles.take i)+b2i (N.testBit roles[i].toNat))=X2y N (roles.take (i+1)):=by
    have h1:=Z9P (N:=N) hil;have h2:=Z5m N (roles.take (i+1));have h3:(roles.take (i+1)).length<=roles.length:=by rw [Y0o]; omega
    rw [<- h1];exact Y0v _ ⟨by omega,by omega⟩
   refine Qo (Zk (xs:=roles) rfl rfl i rfl hil rfl) ?_;(refine go ?_;repeat' (apply B<;>intro hb<;>try cases hb));refine Qe (Z2c N hN roles[i]) ⟨Z9 N,Yt,Yt⟩ ?_;rw [show (decide ((0:Int)<=roles[i])&&N.testBit roles[i].toNat)=N.testBit roles[i].toNat by rw [YF (by omega),Y19]];refine Qe (Z6Q _) ⟨Yt,Yt⟩ ?_;refine Ze rfl rfl rfl hadd ?_;(refine go ?_;repeat' (apply B<;>intro hb<;>try cases hb));exact⟨i+1,by omega,by omega,rfl,rfl,⟨rfl,rfl,rfl,rfl,by show some _=some _; rw [hinc],Yt⟩⟩
 . have hil : i = roles.length := by have := YH hb; omega
   subst hil;rw [Y0q];exact Z4 rfl Yt rfl
theorem ZbW {op n:Int} {roles:List Int} {args:List Fm} (h:Xh 1 (.mk op n roles args)=0):op≠6/\∀ a∈args,Xh 1 a=0:=by
 rw [Z1k] at h
 split at h
 . rename_i h0;refine⟨fun h6=>?_,Z3a h⟩;subst h6;unfold X2k at h0
   split at h0
   . have hb : X1v 1 (Fm.mk 6 n roles args).op = true := by simp [X1v, Fm.op]
     rw [Y7 hb] at h0;cases h0
   . rename_i h1; exact h1 h0
 . rename_i h0; exact absurd h h0
theorem ZbX (N:Nat) (hN:N<18446744073709551616):∀ (d:Nat) (f:Fm),f.depth<=d->Wf f->Xh 1 f=0->f.size<=1000->X7 Tryz.prog 39 [.agg (fC .u8 f),XH N] (· = .val (.int .i64 (evM N [] f))):=by
 intro d
 induction d with
 | zero=>intro f hf; rw [Fm.depth_eq] at hf; omega
 | succ d ih =>
   rintro⟨op,n,roles,args⟩ hf hw hk1 hsz;have w:=hw.inv;have hpu:∀ m,X26 (· < m) (fC .u8 (.mk op n roles args)):=fun m=>Z7E .u8 (.mk op n roles args) (· < m);have hset:∀ m,X26 (· < m) [PV.vec (X8 (Xt N)) false]:=fun m=>⟨Z1b _ _,Yt⟩
   obtain⟨hk6,hka⟩:=ZbW hk1;refine Yp ok39 fun C hC=>?_;refine Zn ?_;refine Z8 ?_;refine Z5 rfl rfl rfl ?_;refine Z5 rfl rfl rfl ?_
   iterate 6 (first|refine st ?_|(apply B<;>intro hb<;>try cases hb))
   by_cases h8:8<=op
   . obtain ⟨x, y, rfl⟩ := w.two h8;obtain⟨wx,tx⟩:=w.arg x (by simp);obtain⟨wy,ty⟩:=w.arg y (by simp);rw [Z4O] at hf;rw [Z61] at hsz;obtain⟨⟨x1,x2⟩,x3⟩:=Z2z N [] d x (by omega) wx;obtain⟨⟨y1,y2⟩,y3⟩:=Z2z N [] d y (by omega) wy;have ihx:=ih x (by omega) wx (hka x (by simp)) (by omega);have ihy:=ih y (by omega) wy (hka y (by simp)) (by omega);rw [Zbt _ _ _ _ _ _ h8];have hwt:op<11->Xx x.op=1/\Xx y.op=1:=fun h=>by
      rw [X1J,Y8 (by omega)] at tx ty; exact⟨tx,ty⟩
     refine Z2g hC True 1 [(2,.cp (fC .u8 (.mk op n roles [x,y]))),(3,.cp [.vec (X8 (Xt N)) false]),(5,.ptr 0 0 0)] [(0,⟨2,[[.val (.int .i64 (evM N [] x)),.val (.int .i64 (evM N [] y))]]⟩)] (Y0l _) ?_ fun _=>?_
     . (refine go ?_;repeat' (apply B<;>intro hb<;>try cases hb));refine Zh 2 ?_;(refine go ?_;repeat' (apply B<;>intro hb<;>try cases hb));refine Qo (Zk (xs := [x,y]) rfl rfl 0 rfl (Y1g _) (Zz _ _)) ?_;rw [show [x,y][0]=x from rfl,ZI .u8 x];(refine go ?_;repeat' (apply B<;>intro hb<;>try cases hb));refine Qe ihx ⟨Zl _ _,Z9 N,Yt⟩ ?_;(refine go ?_;repeat' (apply B<;>intro hb<;>try cases hb));refine Qo (Zk (xs := [x,y]) rfl rfl 1 rfl (Y1S _) (Zz _ _)) ?_;rw [show [x,y][1]=y from rfl,ZI .u8 y];(refine go ?_;repeat' (apply B<;>intro hb<;>try cases hb));refine Qe ihy ⟨Zl _ _,Z9 N,Yt⟩ ?_;(refine go ?_;repeat' (apply B<;>intro hb<;>try cases hb));exact⟨Yt,⟨⟨rfl,hpu 1⟩,⟨rfl,hset 1⟩,⟨rfl,Y2u⟩,Yt⟩,⟨Y2u,rfl,⟨Yt,Yt,Yt⟩,Yt⟩,Yt⟩
     generalize evM N [] x=a at *;generalize evM N [] y=b at *;rcases X3Y w.lo w.hi with rfl|rfl|rfl|rfl|rfl|rfl|rfl|rfl|rfl|rfl|rfl|rfl|rfl|rfl|rfl|rfl
     all_goals first|(exfalso;omega)|skip
     . obtain ⟨t1, t2⟩ := hwt (by omega);have:bits .and .i64 a b=a*b:=by rcases x3 t1 with h|h<;>rcases y3 t2 with h' | h'<;>rw [h,h']<;>decide
       (refine go ?_;repeat' (apply B<;>intro hb<;>try cases hb));exact Z4 rfl Yt (by rw [this]; rfl)
     . obtain ⟨t1, t2⟩ := hwt (by omega);have:bits .or .i64 a b=if b>a then b else a:=by rcases x3 t1 with h|h<;>rcases y3 t2 with h' | h'<;>rw [h,h']<;>decide
       (refine go ?_;repeat' (apply B<;>intro hb<;>try cases hb));exact Z4 rfl Yt (by rw [this]; rfl)
     . obtain ⟨t1, t2⟩ := hwt (by omega);have:bits .or .i64 (IntKind.i64.wrap (1-a)) b=if b>1-a then b else 1-a:=by rcases x3 t1 with h|h<;>rcases y3 t2 with h' | h'<;>rw [h,h']<;>decide
       (refine go ?_;repeat' (apply B<;>intro hb<;>try cases hb));exact Z4 rfl Yt (by rw [this]; rfl)
     iterate 5
      . (refine go ?_;repeat' (apply B<;>intro hb<;>try cases hb))
        all_goals
         refine Qe (Z6Q _) ⟨Yt,Yt⟩ ?_;(refine go ?_;repeat' (apply B<;>intro hb<;>try cases hb));exact Z4 rfl Yt (congrArg (fun z=>PV.val (Value.int .i64 (b2i z))) hb.symm)
     . have : IntKind.i64.wrap (a + b) = a + b := Y0v _ ⟨by omega, by omega⟩;(refine go ?_;repeat' (apply B<;>intro hb<;>try cases hb));refine Z4 rfl Yt ?_;rw [this]; rfl
   by_cases h7:op=7
   . subst h7;obtain⟨x,rfl⟩:=w.one;obtain⟨wx,tx⟩:=w.arg x (by simp);rw [Z4N] at hf;rw [Z60] at hsz;obtain⟨⟨x1,x2⟩,x3⟩:=Z2z N [] d x (by omega) wx;have ihx:=ih x (by omega) wx (hka x (by simp)) (by omega);rw [Zbs];(refine go ?_;repeat' (apply B<;>intro hb<;>try cases hb));refine Zh 1 ?_;(refine go ?_;repeat' (apply B<;>intro hb<;>try cases hb));refine Qo (Zk (xs := [x]) rfl rfl 0 rfl (Y1g _) (Zz _ _)) ?_;rw [show [x][0]=x from rfl,ZI .u8 x];(refine go ?_;repeat' (apply B<;>intro hb<;>try cases hb));refine Qe ihx ⟨Zl _ _,Z9 N,Yt⟩ ?_;have:IntKind.i64.wrap (1-evM N [] x)=1-evM N [] x:=Y0v _ ⟨by omega,by omega⟩;(refine go ?_;repeat' (apply B<;>intro hb<;>try cases hb));exact Z4 rfl Yt (by rw [this])
   have ha0:args = []:=by
    have:=w.ar;rw [Xl,Y8 h8,Y8 h7] at this;cases args with
    | nil=>rfl
    | cons a r=>simp at this; omega
   subst ha0;rcases X3Y w.lo w.hi with rfl|rfl|rfl|rfl|rfl|rfl|h
   . (refine go ?_;repeat' (apply B<;>intro hb<;>try cases hb));refine Zh 0 ?_;(refine go ?_;repeat' (apply B<;>intro hb<;>try cases hb));exact Z4 rfl Yt rfl
   . (refine go ?_;repeat' (apply B<;>intro hb<;>try cases hb));refine Zh 0 ?_;(refine go ?_;repeat' (apply B<;>intro hb<;>try cases hb));exact Z4 rfl Yt rfl
   . (refine go ?_;repeat' (apply B<;>intro hb<;>try cases hb));refine Zh 0 ?_;(refine go ?_;repeat' (apply B<;>intro hb<;>try cases hb));exact Z4 rfl Yt rfl
   iterate 2
    . have hmost := w.most;have hm8:roles.length<=8:=by
       have:(roles.length:Int)<=8:=Y43 hmost (by decide);omega
      (refine go ?_;repeat' (apply B<;>intro hb<;>try cases hb));refine Zh 0 ?_;(refine go ?_;repeat' (apply B<;>intro hb<;>try cases hb));refine Qe (ZbV roles N hN w.rng (by omega)) ⟨Zf _,Z9 N,Yt⟩ ?_;(refine go ?_;repeat' (apply B<;>intro hb<;>try cases hb));exact Z4 rfl Yt rfl
   . exact absurd rfl hk6
   . omega
def XA (f:Fm):Int:=if X1u 1 f≠0 then X1u 1 f else if X1G f=true/\Xx f.op=1 then (if 8<(mem (XM f)).length then 3 else 0) else 10
theorem Z7Y (f:Fm) (hd:f.depth<=1000) (hsz:f.size<=1099511627776):X7 Tryz.prog 34 [.agg (fC .u8 f),.val (.int .u8 1)] (· = .val (.int .i64 (XA f))):=by
 refine Yp ok34 fun C hC=>?_;refine Zn ?_;refine Z8 ?_;refine Z5 rfl rfl rfl ?_;(refine go ?_;repeat' (apply B<;>intro hb<;>try cases hb));refine Qe (Z9N 1 f hd hsz) ⟨Zl _ _,Yt,Yt⟩ ?_;(refine go ?_;repeat' (apply B<;>intro hb<;>try cases hb))
 . have h0 : X1u 1 f ≠ 0 := by simpa using hb
   exact Z4 rfl Yt (by rw [XA,Y7 h0])
 . have h0 : X1u 1 f = 0 := by simpa using hb
   clear hb;have h10:f.depth<=10/\f.size<=200/\Xh 1 f=0:=by
    unfold X1u at h0
    split at h0
    . cases h0
    . rename_i h1; exact⟨by omega,by omega,h0⟩
   have hc:XA f=if X1G f=true/\Xx f.op=1 then (if 8<(mem (XM f)).length then 3 else 0) else 10:=by rw [XA,Y8 (by rw [h0]; decide)]
   refine Qe (Z9J f.depth f (Y0m _)) ⟨Zl _ _,Yt⟩ ?_;cases hfit:X1G f
   . (refine go ?_;repeat' (apply B<;>intro hb<;>try cases hb));exact Z4 rfl Yt (by rw [hc,hfit,Y8 (by simp)]; rfl)
   . (refine go ?_;repeat' (apply B<;>intro hb<;>try cases hb));refine Qe (Z4c f.op) ⟨Yt,Yt⟩ ?_;(refine go ?_;repeat' (apply B<;>intro hb<;>try cases hb))
     . have ht : Xx f.op ≠ 1 := by simpa using hb
       exact Z4 rfl Yt (by rw [hc,Y8 (fun h=>ht h.2)]; rfl)
     . have ht : Xx f.op = 1 := by simpa using hb
       clear hb;refine Qe (Z3F 1 f.depth f (Y0m _) (by omega) h10.2.2) ⟨Zl _ _,Yt⟩ ?_;(refine go ?_;repeat' (apply B<;>intro hb<;>try cases hb));refine Qe (Z9U _ (Z55 _ f (Y0m _) h10.2.2)) ⟨Z9 _,Yt⟩ ?_;rw [Ziq];(refine go ?_;repeat' (apply B<;>intro hb<;>try cases hb))
       . have h8 : 8 < (mem (XM f)).length := by have := Y0u hb; omega
         exact Z4 rfl Yt (by rw [hc,Y7 ⟨hfit,ht⟩,Y7 h8]; rfl)
       . have h8 : ¬ 8 < (mem (XM f)).length := by have := YH hb; omega
         exact Z4 rfl Yt (by rw [hc,Y7 ⟨hfit,ht⟩,Y8 h8]; rfl)
theorem Zez (f:Fm) (hw:Wf f) (hk:Xh 1 f=0) (hsz:f.size<=1000) (S:Nat) (hS:S<18446744073709551616):X7 Tryz.prog 38 [XH S,.cp (fC .u8 f)] (· = .val (.bool (decide (evM S [] f=0)))):=by
 refine Yp ok38 fun C hC=>?_;refine Zn ?_;refine Z8 ?_;refine Z5 rfl rfl rfl ?_;(refine go ?_;repeat' (apply B<;>intro hb<;>try cases hb));refine Qe (ZbX S hS f.depth f (Y0m _) hw hk hsz) ⟨Zl _ _,Z9 _,Yt⟩ ?_;(refine go ?_;repeat' (apply B<;>intro hb<;>try cases hb))
 . have h : evM S [] f = 0 := by simpa using hb
   exact Z4 rfl Yt (by rw [YF h])
 . have h : ¬ evM S [] f = 0 := by simpa using hb
   exact Z4 rfl Yt (by rw [Y0w h])
def X2X (f:Fm) (S:Nat):Bool:=decide (evM S [] f=0)
def X11 (f:Fm):List Cu:=if XA f=0 then X2N (prL (okM (mem (XM f)) (X2X f)) (mem (XM f))) else []
theorem Zc2 {k:Int}:∀ (d:Nat) (f:Fm),f.depth<=d->Xh k f=0->Xh 0 f=0:=by
 intro d
 induction d with
 | zero=>intro f hf; rw [Fm.depth_eq] at hf; omega
 | succ d ih =>
   intro f hf h;obtain⟨h1,h2⟩:=Z4r h;rw [Z1k,Y7 (by rw [Z5l]; exact h1)];rw [f.depth_eq] at hf;refine Z2K fun a ha=>?_;obtain⟨i,hi,rfl⟩:=YE ha;have:=ZG hi;exact ih _ (by omega) (h2 _ ha)
theorem Zao {f:Fm} (h:XA f=0):Wf f/\Xh 1 f=0/\f.depth<=10/\f.size<=200/\Xx f.op=1/\(mem (XM f)).length<=8:=by
 unfold XA at h
 split at h
 . rename_i h1; exact absurd h h1
 rename_i h1;have h1:X1u 1 f=0:=Y1X h1;have h10:f.depth<=10/\f.size<=200/\Xh 1 f=0:=by
  unfold X1u at h1
  split at h1
  . cases h1
  . rename_i h2; exact⟨by omega,by omega,h1⟩
 split at h
 . rename_i h2
   split at h
   . cases h
   . exact⟨⟨Zc2 _ f (Y0m _) h10.2.2,h2.1⟩,h10.2.2,h10.1,h10.2.1,h2.2,by omega⟩
 . cases h
theorem Z1R (f:Fm) (hd:f.depth<=1000) (hsz:f.size<=1099511627776):X7 Tryz.prog 7 [.agg (fC .u8 f)] (· = .tup [.vec ((X11 f).map cuC) false,.val (.int .i64 (XA f))]):=by
 refine Yp ok7 fun C hC=>?_;refine Zn ?_;refine Z8 ?_;refine Z5 rfl rfl rfl ?_;(refine go ?_;repeat' (apply B<;>intro hb<;>try cases hb));refine Qe (Z7Y f hd hsz) ⟨Zl _ _,Yt,Yt⟩ ?_;(refine go ?_;repeat' (apply B<;>intro hb<;>try cases hb))
 . have he : ¬ XA f = 0 := by simpa using hb
   refine Z8o rfl (Z1x rfl) ?_;rw [X11,Y8 he]
   rfl
 . have he : XA f = 0 := by simpa using hb
   clear hb;obtain⟨hw,hk,hd10,hs200,ht,h8⟩:=Zao he;have hm:=Z55 f.depth f (Y0m _) hk;refine Qe (Z3F 1 f.depth f (Y0m _) (by omega) hk) ⟨Zl _ _,Yt⟩ ?_;refine Qe (Zg1 (XM f) hm) ⟨Z9 _,Yt⟩ ?_;(refine go ?_;repeat' (apply B<;>intro hb<;>try cases hb));refine Qe (ZbT (mem (XM f)) false (X2X f) 38 [.cp (fC .u8 f)] ⟨fun r hr=>Z9T hr,by omega,⟨Zl .u8 f,Yt⟩,fun S hS=>Zez f hw hk (by omega) S hS⟩ h8) ⟨Zf _,⟨Zl _ _,Yt⟩,Yt⟩ ?_;(refine go ?_;repeat' (apply B<;>intro hb<;>try cases hb));refine Z4 rfl ⟨Zr _,Yt,Yt⟩ ?_;rw [X11,Y7 he,he]
   rfl
theorem Zap:∀ {l:List Fm} {a:Fm},a∈l->∀ i,(XM a).testBit i=true->(X16 l).testBit i=true
 | [],_,h,_,_=>by cases h
 | b :: l, a, h, i, hi => by
   simp only [X16,Y00,YO];rcases Ye.1 h with rfl|h
   . exact .inl hi
   . exact .inr (Zap h i hi)
theorem ZgK {f a:Fm} (h:a∈f.args) {i:Nat} (hi:(XM a).testBit i=true):(XM f).testBit i=true:=by
 rw [Z54,Y00,YO]; exact .inr (Zap h i hi)
theorem ZeA {f:Fm} {r:Int} (h:r∈f.roles):(XM f).testBit r.toNat=true:=by
 rw [Z54,Y00,YO]; exact .inl ((Zdo _ _).2 ⟨r,h,rfl⟩)
theorem Ziw {N s:Nat}:∀ {l:List Int},(∀ r∈l,N.testBit r.toNat=s.testBit r.toNat)->X2y N l=X2y s l:=by
 intro l
 induction l with
 | nil=>intro _; rfl
 | cons a r ih =>
   intro h;have:=ih fun x hx=>h x (by simp [hx]);simp only [X2y,Y1c,Y4u] at *;rw [h a (by simp),this]
theorem ZjU {N s:Nat} (ms:List Int):∀ (d:Nat) (f:Fm),f.depth<=d->(∀ i,(XM f).testBit i=true->N.testBit i=s.testBit i)->evM N ms f=evM s ms f:=by
 intro d
 induction d with
 | zero=>intro f hf; rw [Fm.depth_eq] at hf; omega
 | succ d ih =>
   rintro⟨op,n,roles,args⟩ hf h;have hargs:evL N ms args=evL s ms args:=by
    have hd:XU args<=d:=by have:=(Fm.mk op n roles args).depth_eq; simp only [Fm.args] at this; omega
    have:∀ l:List Fm,(∀ a∈l,a∈args)->evL N ms l=evL s ms l:=by
     intro l
     induction l with
     | nil=>intro _; rfl
     | cons a r ihl =>
       intro hl;have ha:=hl a (by simp);obtain⟨i,hi,he⟩:=YE ha;have:=ZG hi;simp only [evL];rw [ih a (by rw [<- he];omega) (fun i hi=>h i (ZgK (f:=.mk op n roles args) ha hi)),ihl fun x hx=>hl x (by simp [hx])]
    exact this args fun _ h=>h
   have hc:X2y N roles=X2y s roles:=Ziw fun r hr=>h _ (ZeA (f:=.mk op n roles args) hr);simp only [evM,opM,hargs,hc]
theorem Z69 (f:Fm):Dep (XM f) (X2X f):=fun S T h=>by unfold X2X; rw [ZjU [] f.depth f (Y0m _) h]
theorem Z8Z {f:Fm} (h:XA f=0):XM f<18446744073709551616:=Z55 f.depth f (Y0m _) (Zao h).2.1
theorem Z90 {f:Fm} (h:XA f=0) (S:Nat):soC (X11 f) S=X2X f S:=by
 unfold X11;rw [Y7 h];exact Zit (Z8Z h) (Z69 f) S
theorem ZgL {f g:Fm} (hf:XA f=0) (hg:XA g=0) (h:∀ S,X2X f S=X2X g S):X11 f=X11 g:=by
 unfold X11;rw [Y7 hf,Y7 hg];exact Zev (Z8Z hf) (Z8Z hg) (Z69 f) (Z69 g) h
theorem Zix {f g:Fm} (hf:XA f=0) (hg:XA g=0):X11 f=X11 g↔∀ S,X2X f S=X2X g S :=
 ⟨fun h S=>by rw [<- Z90 hf,<- Z90 hg,h],ZgL hf hg⟩
theorem Zl0 {k:Int} {f:Fm} (h:in6 k f=true):f.n<=6:=by
 rw [Zak] at h;simp only [Y0k,Y4x,Y0n] at h;exact h.1.2.1.1
theorem ZjV {k:Int} {f:Fm} (h:in6 k f=true):f.roles.Pairwise (· < ·):=by
 rw [Zak] at h;simp only [Y0k] at h;exact Z8W.1 h.1.2.2
theorem Zc3 {k:Int} {f:Fm} (h:in6 k f=true):(k=3 \/ f.op≠6)/\(∀ r∈f.roles,r<=6)/\∀ a∈f.args,in6 k a=true:=by
 rw [Zak] at h;simp only [Y0k,YO,Y0n,ZbY,YA] at h;refine⟨h.1.1,fun r hr=>h.1.2.1 r (YC _ hr),?_⟩;have:∀ l:List Fm,X4U k l=true->∀ a∈l,in6 k a=true:=by
  intro l
  induction l with
  | nil=>intro _ a ha; cases ha
  | cons b l ih =>
    intro hl a ha;simp only [X4U,Y0k] at hl;rcases Ye.1 ha with rfl|ha
    . exact hl.1
    . exact ih hl.2 a ha
 exact this _ h.2
theorem Z7Z:∀ (d:Nat) (f:Fm),f.depth<=d->Wf f->in6 1 f=true->Xh 1 f=0
 | 0,f,h,_,_=>by rw [Fm.depth_eq] at h; omega
 | d + 1, f, h, w, hi => by
   obtain⟨h1,_,h3⟩:=Zc3 hi;have hk:X2k 1 f=0:=by
    have h6 : f.op ≠ 6 := by rcases h1 with h1 | h1
                             . exact absurd h1 (by decide)
                             . exact h1
    unfold X2k;rw [Y7 w.node,Y8];simp [X1v,h6]
   rw [Z1k,Y7 hk];refine Z2K fun a ha=>?_;obtain⟨i,hil,he⟩:=YE ha;have:=ZG hil;have:=f.depth_eq;exact Z7Z d a (by rw [<- he];omega) (w.arg a ha).1 (h3 a ha)
theorem Z91 {k:Int}:∀ (d:Nat) (f:Fm),f.depth<=d->Wf f->in6 k f=true->∀ i,(XM f).testBit i=true->1<=i/\i<=6
 | 0,f,h,_,_,_,_=>by rw [Fm.depth_eq] at h; omega
 | d + 1, f, h, w, hi, i, hb => by
   obtain⟨_,h2,h3⟩:=Zc3 hi;rw [Z54,Y00,YO] at hb;rcases hb with hb|hb
   . obtain ⟨r, hr, rfl⟩ := (Zdo _ _).1 hb;have:=w.inv'.rng r hr;have:=h2 r hr;omega
   . have : ∀ l : List Fm, (X16 l).testBit i = true -> ∃ a ∈ l, (XM a).testBit i = true := by
      intro l
      induction l with
      | nil=>intro h; simp [X16] at h
      | cons b l ih =>
        intro h;simp only [X16,Y00,YO] at h;rcases h with h|h
        . exact⟨b,Y0t ..,h⟩
        . obtain ⟨a, ha, hb⟩ := ih h;exact⟨a,YC _ ha,hb⟩
     obtain⟨a,ha,hab⟩:=this _ hb;obtain⟨j,hjl,he⟩:=YE ha;have:=ZG hjl;have:=f.depth_eq;exact Z91 d a (by rw [<- he];omega) (w.arg a ha).1 (h3 a ha) i hab
theorem ZeB {f:Fm} (w:Wf f) (ht:Xx f.op=1) (hd:f.depth<=10) (hs:f.size<=200) (hi:in6 1 f=true):XA f=0:=by
 have hin:=Z7Z f.depth f (Y0m _) w hi;have hl:X1u 1 f=0:=by unfold X1u; rw [Y8 (by omega)]; exact hin
 have h8:(mem (XM f)).length<=8:=by
  have hm:(mem (XM f)).length<=(List.range 7).length:=by
   have hsub:(mem (XM f))=(List.range 7).filter fun i=>(XM f).testBit i:=by
    unfold mem;rw [show (64:Nat)=7+57 from rfl,List.range_add,Y34];have:((List.range 57).map (7+·)).filter (fun i=>(XM f).testBit i) = []:=by
     rw [List.filter_eq_nil_iff];intro a ha hb;obtain⟨x,_,rfl⟩:=Y0i.1 ha;have:=Z91 f.depth f (Y0m _) w hi _ hb;omega
    rw [this,Y0p]
   rw [hsub];exact Y2H _ _
  rw [Y2f] at hm;omega
 unfold XA;rw [hl,Y8 (by decide),Y7 ⟨w.2,ht⟩,Y8 (by omega)]
theorem ZjW {f:Fm} (w:Wf f) {k:Int} (hi:in6 k f=true) {S T:Nat} (h:∀ i,1<=i->i<=6->S.testBit i=T.testBit i):X2X f S=X2X f T :=
 Z69 f S T fun i hb=>by have:=Z91 f.depth f (Y0m _) w hi i hb; exact h i this.1 this.2
theorem ZkC {f:Fm} (w:Wf f) (ht:Xx f.op=1) (S:Nat):decide (evM S [] f=1) = !X2X f S:=by
 unfold X2X;rcases (Z2z S [] f.depth f (Y0m _) w).2 ht with h|h<;>rw [h]<;>rfl
end
section
open Go.Shelf
def Zc4:Go.Shelf.Ren:=⟨fun|171=>121|243=>196|246=>268|283=>325|284=>326|285=>327|286=>328|129=>210|317=>358|318=>359|319=>360|320=>361|337=>375|338=>134|n=>n,fun|3=>3|9=>9|2=>2|4=>4|171=>408|0=>0|53=>92|37=>22|5=>5|173=>410|212=>434|51=>307|20=>20|213=>435|46=>223|232=>451|233=>308|n=>n,fun|17=>1|18=>3|19=>0|n=>n⟩
theorem X5h:Go.Proofs.Lays.n171 Tryz.prog Zc4:={
 mixed:=by kernel_rfl
 f129:=Tryz.func210.trans (congrArg some (by kernel_rfl))
 f171:=Tryz.func121.trans (congrArg some (by kernel_rfl))
 f243:=Tryz.func196.trans (congrArg some (by kernel_rfl))
 f246:=Tryz.func268.trans (congrArg some (by kernel_rfl))
 f283:=Tryz.func325.trans (congrArg some (by kernel_rfl))
 f284:=Tryz.func326.trans (congrArg some (by kernel_rfl))
 f285:=Tryz.func327.trans (congrArg some (by kernel_rfl))
 f286:=Tryz.func328.trans (congrArg some (by kernel_rfl))
 f317:=Tryz.func358.trans (congrArg some (by kernel_rfl))
 f318:=Tryz.func359.trans (congrArg some (by kernel_rfl))
 f319:=Tryz.func360.trans (congrArg some (by kernel_rfl))
 f320:=Tryz.func361.trans (congrArg some (by kernel_rfl))
 f337:=Tryz.func375.trans (congrArg some (by kernel_rfl))
 f338:=Tryz.func134.trans (congrArg some (by kernel_rfl))
 t0:=Tryz.underlying0
 a0:=Tryz.isAgg0
 z0:=Tryz.sizeOf0
 v0:=Tryz.zeroValue0
 t2:=Tryz.underlying2
 a2:=Tryz.isAgg2
 z2:=Tryz.sizeOf2
 v2:=Tryz.zeroValue2
 t3:=Tryz.underlying3
 a3:=Tryz.isAgg3
 z3:=Tryz.sizeOf3
 v3:=Tryz.zeroValue3
 t4:=Tryz.underlying4
 a4:=Tryz.isAgg4
 z4:=Tryz.sizeOf4
 v4:=Tryz.zeroValue4
 t5:=Tryz.underlying5
 a5:=Tryz.isAgg5
 z5:=Tryz.sizeOf5
 v5:=Tryz.zeroValue5
 t9:=Tryz.underlying9
 a9:=Tryz.isAgg9
 z9:=Tryz.sizeOf9
 v9:=Tryz.zeroValue9
 t20:=Tryz.underlying20
 a20:=Tryz.isAgg20
 z20:=Tryz.sizeOf20
 v20:=Tryz.zeroValue20
 t37:=Tryz.underlying22
 a37:=Tryz.isAgg22
 z37:=Tryz.sizeOf22
 v37:=Tryz.zeroValue22
 t46:=Tryz.underlying223
 a46:=Tryz.isAgg223
 z46:=Tryz.sizeOf223
 v46:=Tryz.zeroValue223
 t51:=Tryz.underlying307
 a51:=Tryz.isAgg307
 z51:=Tryz.sizeOf307
 v51:=Tryz.zeroValue307
 t53:=Tryz.underlying92
 a53:=Tryz.isAgg92
 z53:=Tryz.sizeOf92
 v53:=Tryz.zeroValue92
 t171:=Tryz.underlying408
 a171:=Tryz.isAgg408
 z171:=Tryz.sizeOf408
 v171:=Tryz.zeroValue408
 t173:=Tryz.underlying410
 a173:=Tryz.isAgg410
 z173:=Tryz.sizeOf410
 v173:=Tryz.zeroValue410
 t212:=Tryz.underlying434
 a212:=Tryz.isAgg434
 z212:=Tryz.sizeOf434
 v212:=Tryz.zeroValue434
 t213:=Tryz.underlying435
 a213:=Tryz.isAgg435
 z213:=Tryz.sizeOf435
 t232:=Tryz.underlying451
 a232:=Tryz.isAgg451
 z232:=Tryz.sizeOf451
 v232:=Tryz.zeroValue451
 t233:=Tryz.underlying308
 a233:=Tryz.isAgg308
 z233:=Tryz.sizeOf308
 v233:=Tryz.zeroValue308
 g17:=by kernel_rfl
 g18:=by kernel_rfl
 g19:=by kernel_rfl }
def Z6T:Go.Shelf.Ren:=⟨fun|156=>122|165=>197|166=>198|169=>199|240=>269|241=>270|276=>329|277=>330|n=>n,fun|31=>71|9=>9|3=>3|4=>4|0=>0|20=>20|72=>291|76=>295|70=>289|37=>22|75=>294|127=>368|164=>412|5=>5|80=>297|n=>n,fun|n=>n⟩
theorem X3B:Go.Proofs.Lays.n156 Tryz.prog Z6T:={
 mixed:=by kernel_rfl
 f156:=Tryz.func122.trans (congrArg some (by kernel_rfl))
 f165:=Tryz.func197.trans (congrArg some (by kernel_rfl))
 f166:=Tryz.func198.trans (congrArg some (by kernel_rfl))
 f169:=Tryz.func199.trans (congrArg some (by kernel_rfl))
 f240:=Tryz.func269.trans (congrArg some (by kernel_rfl))
 f241:=Tryz.func270.trans (congrArg some (by kernel_rfl))
 f276:=Tryz.func329.trans (congrArg some (by kernel_rfl))
 f277:=Tryz.func330.trans (congrArg some (by kernel_rfl))
 t0:=Tryz.underlying0
 a0:=Tryz.isAgg0
 z0:=Tryz.sizeOf0
 v0:=Tryz.zeroValue0
 t3:=Tryz.underlying3
 a3:=Tryz.isAgg3
 z3:=Tryz.sizeOf3
 v3:=Tryz.zeroValue3
 t4:=Tryz.underlying4
 a4:=Tryz.isAgg4
 z4:=Tryz.sizeOf4
 v4:=Tryz.zeroValue4
 t9:=Tryz.underlying9
 a9:=Tryz.isAgg9
 z9:=Tryz.sizeOf9
 v9:=Tryz.zeroValue9
 t20:=Tryz.underlying20
 a20:=Tryz.isAgg20
 z20:=Tryz.sizeOf20
 v20:=Tryz.zeroValue20
 t31:=Tryz.underlying71
 a31:=Tryz.isAgg71
 z31:=Tryz.sizeOf71
 v31:=Tryz.zeroValue71
 t37:=Tryz.underlying22
 a37:=Tryz.isAgg22
 z37:=Tryz.sizeOf22
 v37:=Tryz.zeroValue22
 t70:=Tryz.underlying289
 a70:=Tryz.isAgg289
 z70:=Tryz.sizeOf289
 v70:=Tryz.zeroValue289
 t72:=Tryz.underlying291
 a72:=Tryz.isAgg291
 z72:=Tryz.sizeOf291
 v72:=Tryz.zeroValue291
 t75:=Tryz.underlying294
 a75:=Tryz.isAgg294
 z75:=Tryz.sizeOf294
 v75:=Tryz.zeroValue294
 t76:=Tryz.underlying295
 a76:=Tryz.isAgg295
 z76:=Tryz.sizeOf295
 v76:=Tryz.zeroValue295
 t127:=Tryz.underlying368
 a127:=Tryz.isAgg368
 z127:=Tryz.sizeOf368
 v127:=Tryz.zeroValue368
 t164:=Tryz.underlying412
 a164:=Tryz.isAgg412
 z164:=Tryz.sizeOf412
 v164:=Tryz.zeroValue412 }
theorem X1e:Builder.Extra Tryz.prog Z6T:={
 sizeBuilder:=by kernel_rfl
 liesBuilder:=by kernel_rfl
 t5:=Tryz.underlying5
 a5:=Tryz.isAgg5
 z5:=Tryz.sizeOf5
 v5:=Tryz.zeroValue5
 infoByte:=by kernel_rfl
 cellsByte:=by kernel_rfl
 sizeByte:=by kernel_rfl
 neB5:=by decide }
end
section
open Go.RowKit
attribute [local irreducible] aw Xj dK
theorem Zdp {f:FuncId} {args:List PV} {v:Value} (hb:X12 Tryz.prog f) (h:∀ (F:XC) (w:World) (vs:Array Value),Holds F w->X1Y F Xz vs args->Calls Tryz.prog f vs w fun e w'=>e=.returned v/\Below w.heap.size w w'):X7 Tryz.prog f args (· = .val v):=by
 refine⟨hb,fun F w vs hF hv=>(h F w vs hF hv).mono ?_⟩;rintro en w' ⟨rfl,hbel⟩;exact⟨v,.val v,F,rfl,rfl,.val _,hbel,Holds.kept hF hbel,fun _ _ h=>h,fun _ _=>rfl⟩
def X7f (k:Nat):ByteArray:=⟨(Go.Lib.decDigits k).toArray⟩
theorem ZgM (k:Nat) (hk:k<100):X7 Tryz.prog 121 [.val (.int .i64 (k:Int))] (· = .val (.string (X7f k))):=by
 refine Zdp ⟨_,Tryz.func121,by kernel_rfl,by kernel_rfl⟩ fun F w vs hF hv=>?_;obtain rfl:vs = #[.int .i64 (k:Int)]:=by
  refine Array.ext hv.1 fun i h1 h2=>?_;have hi:i=0:=by simp at h2; omega
  subst hi;have:=(show Rep F Xz (vs.getD 0 undef) (.val (.int .i64 (k:Int))) from hv.2 0 (Y1g _)).val_inv;simpa [Y0d,h1] using this
 refine (Any.strconv_Itoa_small X5h k hk w).mono ?_;rintro e w' ⟨rfl,rfl⟩;exact⟨rfl,Y3V _ _⟩
def XZ (x:ByteArray):List PV := [.val (.string x)]
theorem Zy (l:List ByteArray):X2 (l.map XZ):=Z17 (enc:=XZ) (fun _=>⟨Yt,Yt⟩) l
def X5o (l:List ByteArray) (sep:ByteArray):ByteArray:=⟨(Go.Lib.join (l.map (·.data.toList)) sep.data.toList).toArray⟩
theorem ZgN (l:List ByteArray) (fl:Bool) (sep:ByteArray) (hl:l.length<=140737488355328) (hlen:(Go.Lib.join (l.map (·.data.toList)) sep.data.toList).length<=140737488355328):X7 Tryz.prog 122 [.vec (l.map XZ) fl,.val (.string sep)] (· = .val (.string (X5o l sep))):=by
 refine Zdp ⟨_,Tryz.func122,by kernel_rfl,by kernel_rfl⟩ fun F w vs hF hv=>?_;have hv1:Rep F Xz (vs.getD 0 undef) (.vec (l.map XZ) fl):=hv.2 0 (show 0<2 by decide);have hv2:vs.getD 1 undef=.string sep:=(show Rep F Xz (vs.getD 1 undef) (.val (.string sep)) from hv.2 1 (show 1<2 by decide)).val_inv;have hvs:vs = #[vs.getD 0 undef,vs.getD 1 undef]:=by
  refine Array.ext hv.1 fun i h1 h2=>?_;have hs:vs.size=2:=hv.1;have hi:i=0 \/ i=1:=by omega
  rcases hi with rfl|rfl<;>simp [Y0d,h1]
 rw [hvs,hv2];rcases hv1.vec_inv with⟨h0,hq⟩|⟨x,cap,esz,cs,hq,hs,hcap,hfull,hmax,he,hF1,hR⟩
 . have h0 : l = [] := List.map_eq_nil_iff.1 h0;subst h0;rw [hq];refine (Any.strings_Join_none X3B X1e none 0 sep w).mono ?_;rintro e w' ⟨rfl,rfl⟩;exact⟨rfl,Y3V _ _⟩
 . rw [hq, Y0f];by_cases hne:l = []
   . subst hne;refine (Any.strings_Join_none X3B X1e (some x) cap sep w).mono ?_;rintro e w' ⟨rfl,rfl⟩;exact⟨rfl,Y3V _ _⟩
   . have hsp := hs (by simpa using hne);obtain⟨bk,o,sp⟩:=x;dsimp only at hsp;subst hsp;rw [Y0f] at hcap;have hpos:0<l.length:=Y1N.2 hne;have hez:esz=1:=by
      have:=he 0 (by simpa using hpos);rw [<- this];simp [Y0b,hpos,XZ]
     subst hez;have hcell:∀ (j:Nat) y,l[j]?=some y->F ⟨bk,o+j,none⟩=some (.string y):=fun j y hj=>by
      have hjl:=(Yy.1 hj).1;have h1:=hF1 j 0 (by simpa using hjl) (by decide);have h2:=hR j 0 (by simpa using hjl) (by decide);have h3:((l.map XZ).getD j []).getD 0 pvu=.val (.string y):=by simp [Y0b,hj,XZ]
      rw [h3] at h2;have h4:=h2.val_inv;rw [h4] at h1;simpa using h1
     refine Any.strings_Join X3B X1e bk o cap l sep w (fun j y hj=>(hF.1 _ _ (hcell j y hj)).2.2) ?_ hl hcap hlen;obtain⟨y,hy⟩:∃ y,l[0]?=some y:=⟨_,Y0c hpos⟩
     have:=(hF.1 _ _ (hcell 0 y hy)).2.2;unfold World.cell? at this
     split at this
     . rename_i ho; exact (Y9.1 ho).1
     . cases this
end
section
open Go.RowKit
def toB (l:By):ByteArray:=⟨l.toArray⟩
theorem ZjX (a b:By):toB a++toB b=toB (a++b):=Y3M (by
 rw [ByteArray.data_append]
 simp [toB])
theorem Z42 (a:By):(toB a).size=a.length:=by
 show a.toArray.size=_;simp
def rnB (r:Int):ByteArray:=toB (rnS r)
theorem Zdq {f:Fm} (h:Sh f):(tx f).length<=40*f.size:=by
 have hA:∀ (a:Fm) (least:Nat),(txA least a).length<=(tx a).length+2:=fun a least=>by
  by_cases hs:stM a.op<least
  . rw [Zgr hs]; simp
  . rw [Zgs hs]; omega
 induction h with
 | num h0 h1=>rw [Fm.size_eq]; show (1:Nat)+0<=_; omega
 | yes=>rw [Fm.size_eq]; show (4:Nat)+0<=_; omega
 | no=>rw [Fm.size_eq]; show (5:Nat)+0<=_; omega
 | role h0=>rw [Fm.size_eq]; show (2:Nat)+0<=_; omega
 | @count r rs h0 h1 =>
   rw [Zde,Fm.size_eq];simp only [Y0e,Z6F];show 6+(2+4*rs.length+1)<=_;omega
 | @neg a ha ih =>
   have:=hA a 4;rw [Zj8 ha,Fm.size_eq];rw [Y0e,show (Fm.mk 7 0 [] [a]).args = [a] from rfl,show X1b [a]=a.size+0 from rfl];show 4+_<=_;omega
 | @two op a b h0 h1 ha hb iha ihb =>
   have h2:=hA a (X2a op);have h3:=hA b (X1C op);have h4:(opS op).length<=3:=by
    have:op=8 \/ op=9 \/ op=10 \/ op=11 \/ op=12 \/ op=13 \/ op=14 \/ op=15 \/ op=16:=by omega
    rcases this with rfl|rfl|rfl|rfl|rfl|rfl|rfl|rfl|rfl<;>decide
   rw [Zj9 h0 hb,Fm.size_eq];rw [show (Fm.mk op 0 [] [a,b]).args = [a,b] from rfl,show X1b [a,b]=a.size+(b.size+0) from rfl];simp only [Y0e,Y04,Y1u];omega
def X1B (l:List Int):List (List PV):=l.map fun r => [PV.val (.string (rnB r))]
mutual
def Xg:Fm->List PV
 | .mk op n roles args => [.val (.int .u8 op),.val (.int .i64 n),.vec (X1B roles) false,.vec (X1M args) false]
def X1M:List Fm->List (List PV)
 | [] => []
 | a :: r=>Xg a :: X1M r
end
def eC (f:Fm):List PV := [.val (.int .u8 f.op),.val (.int .i64 f.n),.vec (X1B f.roles) false,.vec (f.args.map Xg) false]
theorem Z80 (l:List Fm):X1M l=l.map Xg:=by
 induction l with
 | nil=>rfl
 | cons a r ih=>simp [X1M,ih]
theorem ZR (f:Fm):Xg f=eC f:=by
 cases f; simp [Xg,eC,Z80,Fm.op,Fm.n,Fm.roles,Fm.args]
theorem ZS (f:Fm):(Xg f).length=4:=by rw [ZR]; rfl
theorem Zs (l:List Int):X2 (X1B l):=Z17 (enc:=fun r => [PV.val (.string (rnB r))]) (fun _=>⟨Yt,Yt⟩) l
theorem Z56 (l:List Int):(X1B l).length=l.length:=by simp [X1B]
theorem ZgO (l:List Int):X1B l=(l.map rnB).map XZ:=by simp [X1B,XZ]
mutual
theorem Z6U:∀ f:Fm,Xe (Xg f)
 | .mk op n roles args=>⟨Yt,Yt,Zs roles,Z3G args,Yt⟩
theorem Z3G:∀ l:List Fm,X2 (X1M l)
 | []=>trivial
 | a :: r=>⟨Z6U a,Z3G r⟩
end
theorem Zp (f:Fm):Xe (eC f):=ZR f▸Z6U f
theorem Z1K (l:List Fm):X2 (l.map Xg):=Z80 l▸Z3G l
theorem Z3H (l:List Fm) (D:Nat->Prop):XG D (l.map Xg):=Zc (fun _ h=>h.elim) _ (Z1K l)
theorem Zaq (f:Fm) (D:Nat->Prop):X26 D (eC f):=ZC (fun _ h=>h.elim) _ (Zp f)
end
section
open Go.RowKit
attribute [local irreducible] aw Xj dK
theorem ZkD {e:Env} {h:X0} {n:Nat} {x lo hi:Operand} {s:ByteArray} {a b:Nat} (hx:ev e x=some (.val (.string s))) (hlo:X1T (ev e lo)=some (a:Int)) (hhi:X1T (ev e hi)=some (b:Int)) (hab:a<=b) (hb:b<=s.size):X1 (.slcS x (some lo) (some hi)) e h n=some (.val (.string (s.extract a b)),h):=by
 simp only [X1,hx,XD,hlo,hhi];rw [Y7 ⟨by omega,by omega,by omega⟩];simp
theorem ZkE {e:Env} {h:X0} {n:Nat} {x y:Operand} {s t:ByteArray} (hx:ev e x=some (.val (.string s))) (hy:ev e y=some (.val (.string t))) (hz:s.size+t.size<=9223372036854775807):X1 (.bin .add .num x y) e h n=some (.val (.string (s++t)),h):=by
 simp [X1,hx,hy,X3T,X3R,hz]
def nmV (i:Nat):ByteArray:=(⟨#[114]⟩:ByteArray)++(⟨#[48,49,50,51,52,53,54,55,56,57]⟩:ByteArray).extract i (i+1)
def nmU (n:Nat):List ByteArray:=(List.range n).map fun j=>nmV (j+1)
theorem Zc5 (n:Nat) (hn:n<=7):X7 Tryz.prog 29 [.val (.int .i64 (n:Int))] (· = .vec ((nmU n).map XZ) false):=by
 refine Yp ok29 fun C hC=>?_
 repeat' (first|refine Zm (ZD (k:=3) rfl 1 (by decide)) ?_|(first|refine st ?_|(apply B<;>intro hb<;>try cases hb)))
 refine Z1n hC (fun i=>i<=n) (fun i=>n-i) 1 (fun i => [(0,.val (.int .i64 (n:Int))),(3,.own 0),(4,.val (.int .i64 ((i+1:Nat):Int)))])
  (fun i => [(0,⟨1,(nmU i).map XZ⟩)]) (by omega) 0 (Y0l _) (fun i=>i) (fun _ _=>rfl) Z1a
  ⟨Qp Yt,⟨_,rfl,.own 0 (by decide)⟩,Qp Yt,Yt⟩ ⟨Qs Yt,Yt⟩ ?_
 intro i hi;have hinc:IntKind.i64.wrap (((i+1:Nat):Int)+1)=((i+1+1:Nat):Int):=Y0v _ ⟨by omega,by omega⟩;have hnl:(nmU i).length=i:=by simp [nmU]
 (repeat'(first|refine Z1 7 ?_|refine Z0 7 ?_|refine st ?_|(apply B<;>intro hb<;>try cases hb)))<;>try refine At.mk ?_
 refine Zx rfl rfl rfl (fun hb=>?_) (fun hb=>?_)
 . have hin : i < n := by have := Y0u hb; omega
   clear hb;have d1:decide (((i+1:Nat):Int)<10)=true:=YF (by omega);(repeat'(first|refine Z1 11 ?_|refine Z0 11 ?_|refine st ?_|(apply B<;>intro hb<;>try cases hb)))<;>try refine At.mk ?_
   refine Qo (Za rfl d1) ?_;(repeat'(first|refine Z1 15 ?_|refine Z0 15 ?_|refine st ?_|(apply B<;>intro hb<;>try cases hb)))<;>try refine At.mk ?_
   refine Ze rfl rfl rfl hinc ?_;refine Qo (ZkD (a:=i+1) (b:=i+1+1) rfl rfl rfl (by omega) (show i+1+1<=10 by omega)) ?_
   refine Qo (ZkE rfl rfl (by
    rw [ByteArray.size_extract];show 1+(min (i+1+1) 10-(i+1))<=_
    omega)) ?_
   (repeat'(first|refine Z1 19 ?_|refine Z0 19 ?_|refine st ?_|(apply B<;>intro hb<;>try cases hb)))<;>try refine At.mk ?_
   have happ:(nmU i).map XZ ++ [XZ (nmV (i+1))]=(nmU (i+1)).map XZ:=by simp [nmU,Y2T]
   refine ZB (Z11 (k:=0) (m := [XZ (nmV (i+1))]) (fl:=true) (b:=⟨1,(nmU i).map XZ⟩) rfl rfl rfl (fun q hq=>by rw [Y0g] at hq; subst hq; rfl) rfl (by
    show (((nmU i).map XZ).length+1)*16<=_
    rw [Y0f];omega)) rfl rfl ?_
   simp only;rw [happ];(refine go ?_;repeat' (apply B<;>intro hb<;>try cases hb))
   exact⟨i+1,mv 0 1,hin,by omega,fun j hj=>absurd hj (YR _),Z1e rfl,
    ⟨Qp Yt,⟨_,rfl,.own 0 (by decide)⟩,⟨_,by show some _=some _; rw [hinc],.pure _ Yt⟩,Yt⟩,⟨Qs (Zy _),Yt⟩⟩
 . have hin : i = n := by have := YH hb; omega
   subst hin;clear hb;(repeat'(first|refine Z1 37 ?_|refine Z0 37 ?_|refine st ?_|(apply B<;>intro hb<;>try cases hb)))<;>try refine At.mk ?_
   refine Zm (Zo (k:=3) rfl rfl (Zy _)) ?_;(refine go ?_;repeat' (apply B<;>intro hb<;>try cases hb));exact Z4 rfl (Zy _) rfl
theorem Z5t (k:Nat):(nmU k).length=k:=by simp [nmU]
theorem Z92 (l:List ByteArray):(l.map XZ).length=l.length:=by simp
theorem Zc6 (xs:List ByteArray) (v:ByteArray) (fl:Bool):X7 Tryz.prog 321 [.vec (xs.map XZ) fl,.val (.string v)] (· = .val (.int .i64 (X35 (fun x=>v.toList == x.toList) xs))):=by
 have hnl:=Z92 xs;have hpi:∀ D,XG D (xs.map XZ):=fun D=>Zc (fun _ h=>h.elim) _ (Zy xs);refine Yp ok321 fun C hC=>?_;refine Z3m (k:=0) rfl fun hmax=>?_;have hlm:xs.length<=Xd:=by rw [<- hnl]; exact hmax
 (refine go ?_;repeat' (apply B<;>intro hb<;>try cases hb));refine Zv hC (fun i=>i<=xs.length/\(xs.take i).any (fun x=>v.toList == x.toList)=false) (fun i=>xs.length-i) 0 (fun i => [(0,.vec (xs.map XZ) fl),(1,.val (.string v)),(7,.val (.int .i64 (xs.length:Int))),(8,Yv i)]) (fun _=>[]) (Y0l _) 0 ⟨Y0l _,rfl⟩ ⟨⟨rfl,hpi _⟩,⟨rfl,Yt⟩,⟨by rw [<- hnl]; rfl,Yt⟩,⟨rfl,Yt⟩,Yt⟩ Yt ?_;rintro i ⟨hi,hno⟩;have hinc:IntKind.i64.wrap ((i:Int)+1)=((i+1:Nat):Int):=Y0v _ ⟨by omega,by simp only [Xd] at hlm; omega⟩;(repeat'(first|refine Z1 9 ?_|refine Z0 9 ?_|refine st ?_|(apply B<;>intro hb<;>try cases hb)))<;>try refine At.mk ?_
 refine Zx rfl rfl rfl (fun hb=>?_) (fun hb=>?_)
 . have hil : i < xs.length := by have := Y0u hb; omega
   clear hb;(refine go ?_;repeat' (apply B<;>intro hb<;>try cases hb));refine Qo (Zk (xs:=xs) (g:=XZ) rfl rfl i rfl hil rfl) ?_
   iterate 1 (first|refine st ?_|(apply B<;>intro hb<;>try cases hb))
   refine Zx rfl rfl rfl (fun hx=>?_) (fun hx=>?_)
   . (refine go ?_;repeat' (apply B<;>intro hb<;>try cases hb));exact Z4 rfl Yt (by rw [Z8B hil hno hx])
   . (refine go ?_;repeat' (apply B<;>intro hb<;>try cases hb));exact⟨i+1,⟨by omega,Z8A hil hno hx⟩,by omega,⟨⟨rfl,hpi _⟩,⟨rfl,Yt⟩,⟨rfl,Yt⟩,⟨by show some _=some _; rw [hinc],Yt⟩,Yt⟩,Yt⟩
 . have hil : i = xs.length := by have := YH hb; omega
   subst hil;rw [Y0q] at hno;(refine go ?_;repeat' (apply B<;>intro hb<;>try cases hb));exact Z4 rfl Yt (by rw [Z4U hno]; rfl)
theorem Z2S (xs:List ByteArray) (v:ByteArray) (fl:Bool):X7 Tryz.prog 256 [.vec (xs.map XZ) fl,.val (.string v)] (· = .val (.bool (decide (X35 (fun x=>v.toList == x.toList) xs≥0)))):=by
 refine Yp ok256 fun C hC=>?_;(repeat'(first|refine Z1 7 ?_|refine Z0 7 ?_|refine st ?_|(apply B<;>intro hb<;>try cases hb)))<;>try refine At.mk ?_
 refine Qe (Zc6 xs v fl) ⟨Zy xs,Yt,Yt⟩ ?_;(repeat'(first|refine Z1 8 ?_|refine Z0 8 ?_|refine st ?_|(apply B<;>intro hb<;>try cases hb)))<;>try refine At.mk ?_
 refine Z6i (v:=decide (X35 (fun x=>v.toList == x.toList) xs≥0)) rfl rfl rfl rfl ?_;generalize decide (X35 (fun x=>v.toList == x.toList) xs≥0)=b;(refine go ?_;repeat' (apply B<;>intro hb<;>try cases hb))
 all_goals exact Z4 rfl Yt rfl
def kwL:List ByteArray := [⟨#[97,108,108]⟩,⟨#[97,110,100]⟩,⟨#[97,115,115,105,103,110]⟩,⟨#[98,121]⟩,⟨#[99,111,117,110,116]⟩,⟨#[100,101,99,108,97,114,101]⟩,⟨#[100,121,110,97,109,105,99]⟩,⟨#[101,110,102,111,114,99,101]⟩,⟨#[102,97,108,115,101]⟩,⟨#[102,111,114]⟩,⟨#[105,102]⟩,⟨#[109,101,109,98,101,114,115]⟩,⟨#[110,111,110,101]⟩,⟨#[110,111,116]⟩,⟨#[111,110]⟩,⟨#[111,114]⟩,⟨#[114,101,118,111,107,101]⟩,⟨#[115,116,97,116,105,99]⟩,⟨#[116,114,117,101]⟩,⟨#[117,115,101,114,115]⟩]
theorem Z93:X7 Tryz.prog 257 [] (· = .vec (kwL.map XZ) true):=by
 refine Yp ok257 fun C hC=>?_;(refine go ?_;repeat' (apply B<;>intro hb<;>try cases hb));exact Z4 rfl (Zy kwL) rfl
theorem ZgP:∀ d∈[49,50,51,52,53,54,55],X35 (fun x=>(⟨#[114,d]⟩:ByteArray).toList == x.toList) kwL = -1:=by
 intro d hd;simp only [Ye,Y1z,Y2Y] at hd;rcases hd with rfl|rfl|rfl|rfl|rfl|rfl|rfl<;>kernel_rfl
theorem Z4s (c:Nat):X7 Tryz.prog 258 [.val (.int .u8 (c:Int))] (· = .val (.bool (decide (97<=c/\c<=122)))):=by
 refine Yp ok258 fun C hC=>?_;(refine go ?_;repeat' (apply B<;>intro hb<;>try cases hb))
 all_goals
  simp only [Y0n,Y15] at *
  first
   | exact Z4 rfl Yt (by rw [YF (show 97<=c/\c<=122 by omega)])
   | exact Z4 rfl Yt (by rw [Y0w (show ¬ (97<=c/\c<=122) by omega)])
def X73:PV:=.cp [.fn 258 []]
theorem Z6V:X73.pure:=⟨Yt,Yt⟩
theorem Z5u (c:Nat) (hc:(97<=c/\c<=122) \/ (48<=c/\c<=57)):X7 Tryz.prog 259 [.val (.int .u8 (c:Int)),X73] (· = .val (.bool true)):=by
 refine Yp ok259 fun C hC=>?_;(repeat'(first|refine Z1 6 ?_|refine Z0 6 ?_|refine st ?_|(apply B<;>intro hb<;>try cases hb)))<;>try refine At.mk ?_
 refine Qe (Z4s c) ⟨Yt,Yt⟩ ?_;by_cases h1:97<=c/\c<=122
 . rw [YF h1];(refine go ?_;repeat' (apply B<;>intro hb<;>try cases hb));exact Z4 rfl Yt rfl
 . rw [Y0w h1];have d1:decide ((c:Int)≥48)=true:=YF (by omega);have d2:decide ((c:Int)<=57)=true:=YF (by omega);(repeat'(first|refine Z1 9 ?_|refine Z0 9 ?_|refine st ?_|(apply B<;>intro hb<;>try cases hb)))<;>try refine At.mk ?_
   refine Zj rfl ?_;refine Qo (Za rfl d1) ?_;(repeat'(first|refine Z1 12 ?_|refine Z0 12 ?_|refine st ?_|(apply B<;>intro hb<;>try cases hb)))<;>try refine At.mk ?_
   refine Zj rfl ?_;refine Qo (Za rfl d2) ?_;(refine go ?_;repeat' (apply B<;>intro hb<;>try cases hb));exact Z4 rfl Yt rfl
theorem Z4t (d:UInt8) (hd:d∈[49,50,51,52,53,54,55]):X7 Tryz.prog 176 [.val (.string ⟨#[114,d]⟩)] (· = .val (.bool true)):=by
 have hkw:=Z2S kwL ⟨#[114,d]⟩ true;rw [ZgP d hd] at hkw;have hdn:48<=d.toNat/\d.toNat<=57:=by
  simp only [Ye,Y1z,Y2Y] at hd;rcases hd with rfl|rfl|rfl|rfl|rfl|rfl|rfl<;>decide
 refine Yp ok176 fun C hC=>?_;(repeat'(first|refine Z1 15 ?_|refine Z0 15 ?_|refine st ?_|(apply B<;>intro hb<;>try cases hb)))<;>try refine At.mk ?_
 refine Zj rfl ?_;refine Qe Z93 Yt ?_;(repeat'(first|refine Z1 17 ?_|refine Z0 17 ?_|refine st ?_|(apply B<;>intro hb<;>try cases hb)))<;>try refine At.mk ?_
 refine Zj rfl ?_;refine Qe hkw ⟨Zy kwL,Yt,Yt⟩ ?_;(repeat'(first|refine Z1 19 ?_|refine Z0 19 ?_|refine st ?_|(apply B<;>intro hb<;>try cases hb)))<;>try refine At.mk ?_
 refine Zm (Z1t (k:=3) (l := [.fn 258 []]) rfl rfl ⟨Yt,Yt⟩) ?_;(refine go ?_;repeat' (apply B<;>intro hb<;>try cases hb));refine Zh 2 ?_;unfold Xr;(repeat'(first|refine Z1 29 ?_|refine Z0 29 ?_|refine st ?_|(apply B<;>intro hb<;>try cases hb)))<;>try refine At.mk ?_
 refine Qd (Z5u 114 (.inl (by decide))) ⟨Yt,Z6V,Yt⟩ ?_;(repeat'(first|refine Z1 39 ?_|refine Z0 39 ?_|refine st ?_|(apply B<;>intro hb<;>try cases hb)))<;>try refine At.mk ?_
 refine Z27 rfl ?_;refine Qd (Z4s 114) ⟨Yt,Yt⟩ ?_;(refine go ?_;repeat' (apply B<;>intro hb<;>try cases hb));unfold Xr;(repeat'(first|refine Z1 29 ?_|refine Z0 29 ?_|refine st ?_|(apply B<;>intro hb<;>try cases hb)))<;>try refine At.mk ?_
 refine Qd (Z5u d.toNat (.inr hdn)) ⟨Yt,Z6V,Yt⟩ ?_;(refine go ?_;repeat' (apply B<;>intro hb<;>try cases hb));exact Z4 rfl Yt rfl
end
section
open Go.Shelf
def Zar:Go.Shelf.Ren:=⟨fun|5=>178|7=>260|n=>n,fun|23=>176|25=>9|3=>3|4=>4|20=>20|n=>n,fun|n=>n⟩
theorem X4N:Go.Proofs.SlLaysW.n5 Tryz.prog Zar:={
 mixed:=by kernel_rfl
 f5:=⟨Tryz.f178.name,by decide,Tryz.func178.trans (congrArg some (by kernel_rfl))⟩
 f7:=Tryz.func260.trans (congrArg some (by kernel_rfl))
 t4:=Tryz.underlying4
 a4:=Tryz.isAgg4
 z4:=Tryz.sizeOf4
 v4:=Tryz.zeroValue4
 t20:=Tryz.underlying20
 a20:=Tryz.isAgg20
 z20:=Tryz.sizeOf20
 v20:=Tryz.zeroValue20
 t23:=Tryz.underlying176
 a23:=Tryz.isAgg176
 z23:=Tryz.sizeOf176
 v23:=Tryz.zeroValue176 }
end
section
open Go.RowKit
attribute [local irreducible] aw Xj dK
theorem X4O {P:Program} {f nt:Nat} {ac:X3} {rs:List X2o} (hf:X46 P f nt ac rs):X12 P f:=by
 obtain⟨hm,fn,c,hfn,hname,hb,rfl,hc,hr⟩:=hf;exact⟨fn,hfn,hname,by rw [hb]; rfl⟩
theorem Z5v (xs:List ByteArray) (fl:Bool) (hlen:xs.length<=1000000):X1a Tryz.prog 177 [.vec (xs.map XZ) fl] .own ⟨1,xs.map XZ⟩:=by
 refine ZY ok177 (Y0 rfl) fun C hC=>?_;have fin:∀ (x:ByteArray) (xs:List ByteArray),(∀ c∈(x :: xs).map XZ,c.length=1):=fun x xs c hc=>by obtain⟨y,_,rfl⟩:=Y0i.1 hc; rfl
 cases xs with
 | nil =>
   (refine go ?_;repeat' (apply B<;>intro hb<;>try cases hb));refine Z2Y (.inl ⟨_,_,rfl⟩) rfl fun b=>?_;cases b
   . repeat' (first | refine Zm (ZD (k := 5) rfl 1 (by decide)) ?_ | (first|refine st ?_|(apply B<;>intro hb<;>try cases hb)))
     exact⟨_,_,rfl,.inl rfl,_,rfl,rfl⟩
   . iterate 6 (first|refine st ?_|(apply B<;>intro hb<;>try cases hb))
     refine Z1p (ZD (k:=2) rfl 1 (by decide) _) ?_;(refine go ?_;repeat' (apply B<;>intro hb<;>try cases hb));exact⟨_,_,rfl,.inl rfl,_,rfl,rfl⟩
 | cons x xs =>
   repeat' (first|refine Zm (ZD (k:=5) rfl 1 (by decide)) ?_|(first|refine st ?_|(apply B<;>intro hb<;>try cases hb)))
   refine ZB (Z11 (k:=0) (m:=(x :: xs).map XZ) (fl:=fl) rfl rfl rfl (fin x xs) rfl (by
    show (([]:List (List PV)).length+((x :: xs).map XZ).length)*16<=_
    rw [Y0f,Y1u];omega)) rfl rfl ?_
   (refine go ?_;repeat' (apply B<;>intro hb<;>try cases hb));exact⟨_,_,rfl,.inl rfl,_,rfl,by rw [Y1M]; rfl⟩
theorem Z57:X7 Tryz.prog 178 [.val (.map none)] (· = .val (.map none)):=by
 refine Yp ok178 fun C hC=>?_;(refine go ?_;repeat' (apply B<;>intro hb<;>try cases hb));exact Z4 rfl Yt rfl
theorem Zc7 (k:Nat) (rows:List (List PV)):X5v Tryz.prog 178 (some (k,⟨0,rows⟩)) [.mp k] .mp ⟨0,rows⟩ :=
 ZeC (X4O ok178) (fun b es clock w hb=>AnyW.maps_Clone X4N b es clock w hb) k rows
theorem X79 (s x:ByteArray):(s == x)=(s.data == x.data):=by cases s; cases x; rfl
theorem ZjY {s x:ByteArray} (h:s≠x):(s == x)=false:=by
 rw [X79,Y1B];exact fun e=>h (Y3M e)
def X5C (j:Nat) (x:ByteArray):List PV := [.val (.string x),Yv j]
def X2e:Nat->List ByteArray->List (List PV)
 | _,[] => []
 | j,x :: r=>X5C (j+1) x :: X2e (j+1) r
theorem Z81 (s:ByteArray):∀ (xs:List ByteArray) (j:Nat),X2e j (xs ++ [s])=X2e j xs ++ [X5C (j+xs.length+1) s]
 | [],j=>rfl
 | x :: r, j => by
   show X5C (j+1) x :: X2e (j+1) (r ++ [s])=X5C (j+1) x :: (X2e (j+1) r++_);rw [Z81 s r (j+1),Y04,show j+1+r.length+1=j+(r.length+1)+1 by omega]
theorem Z5w {s:ByteArray}:∀ {xs:List ByteArray} {j:Nat},(∀ x∈xs,s≠x)->XT (.one 2) (.val (.string s)) (X2e j xs)=some none
 | [],j,_=>rfl
 | x :: r, j, h => by
   have h1:X2t (.one 2) (.val (.string s)) ((X5C (j+1) x).getD 0 pvu)=some false:=by
    show some (s == x)=some false;rw [ZjY (h x (Y0t ..))]
   show XT (.one 2) (.val (.string s)) (X5C (j+1) x :: X2e (j+1) r)=some none;simp only [XT,h1,Z5w (j:=j+1) fun y hy=>h y (YC _ hy)]
theorem Z43:∀ (j:Nat) (xs:List ByteArray),X2 (X2e j xs)
 | _,[]=>trivial
 | j,x :: r=>⟨⟨Yt,Yt,Yt⟩,Z43 (j+1) r⟩
theorem X5q (s:ByteArray):X2t (.one 2) (.val (.string s)) (.val (.string s))=some true:=by
 show some (s == s)=some true;rw [X79,beq_self_eq_true]
theorem Ziy {n:Nat} {e:Env} {h:X0} {agg:Bool} {z:List Value} {x y:Operand} {i:Nat} {b:Bx} {c:KC} {kp:PV} (hx:ev e x=some (.mp i)) (hy:ev e y=some kp) (hb:h i=some b) (hz:b.esz=0) (hk:X2t c kp kp=some true) (hf:XT c kp b.elems=some none) :
 X1 (.lookup c agg z false x y) e h n=some (X4S agg z,h):=by
 simp [X1,hx,hy,hb,hz,hk,hf]
theorem Zas {n:Nat} {e:Env} {h:X0} {agg:Bool} {z:List Value} {x y:Operand} {c:KC} {kp:PV} (hx:ev e x=some (.val (.map none))) (hy:ev e y=some kp) (hk:X2t c kp kp=some true) :
 Xv (.lookup c agg z false x y) e h n=some (X4S agg z,h):=by
 simp [Xv,hx,hy,hk]
theorem Z95 {n:Nat} {e:Env} {h:X0} {x y v:Operand} {i:Nat} {rows:List (List PV)} {c:KC} {kp p:PV} (hx:ev e x=some (.mp i)) (hy:ev e y=some kp) (hv:ev e v=some p) (hb:h i=some ⟨0,rows⟩) (hk:X2t c kp kp=some true) (hf:XT c kp rows=some none) :
 X1 (.mapset c x y v) e h n=some (pvu,h.upd i ⟨0,rows ++ [[kp,p]]⟩):=by
 simp [X1,hx,hy,hv,hb,hk,hf]
def X6E:Bx:=⟨2,[[.vec [] true,.val (.map none)]]⟩
def X5d (xs:List ByteArray) (m:Nat):Bx:=⟨2,[[.vec (xs.map XZ) false,.mp m]]⟩
def X22 (xs:List ByteArray):Bx:=⟨0,X2e 0 xs⟩
theorem ZeD:Xp Tryz.prog 57 0 [] (fun _=>none) fun n' r h'=>n'=1/\r=.ptr 0 0 0/\h'=X0.upd (fun _=>none) 0 X6E:=by
 refine ZX ok57 (Y0 rfl) fun C hC=>?_;(refine go ?_;repeat' (apply B<;>intro hb<;>try cases hb));exact⟨_,_,rfl,.inl rfl,rfl,rfl,rfl⟩
theorem ZeE {s:ByteArray} (hs:X7 Tryz.prog 176 [.val (.string s)] (· = .val (.bool true))) (xs:List ByteArray) (hno:∀ x∈xs,s≠x) (hl:xs.length<63) :
 Xp Tryz.prog 106 2 [.ptr 0 0 0,.val (.string s),.val (.int .i64 63)] (Xs [(0,X5d xs 1),(1,X22 xs)]) fun n' r h'=>n'=38/\r=.tup [.ptr 16 0 0,.val (.int .i64 ((xs.length+1:Nat):Int)),.val (.int .i64 0)]/\h'=Xs [(16,X5d (xs ++ [s]) 14),(14,X22 (xs ++ [s]))]:=by
 refine Xp.less (R:=fun n' r h'=>n'=38/\r=.tup [.ptr 16 0 0,.val (.int .i64 ((xs.length+1:Nat):Int)),.val (.int .i64 0)]/\h' 16=some (X5d (xs ++ [s]) 14)/\h' 14=some (X22 (xs ++ [s]))) ?_ fun n' r h' ⟨h1,h2,h3,h4⟩=>⟨_,Z94 h3 h4,h1,h2,rfl⟩
 have hsl:=Z92 xs;refine ZX ok106 (Y0 rfl) fun C hC=>?_;(repeat'(first|refine Z1 15 ?_|refine Z0 15 ?_|refine st ?_|(apply B<;>intro hb<;>try cases hb)))<;>try refine At.mk ?_
 refine Qe hs ⟨Yt,Yt⟩ ?_;(repeat'(first|refine Z1 23 ?_|refine Z0 23 ?_|refine st ?_|(apply B<;>intro hb<;>try cases hb)))<;>try refine At.mk ?_
 refine Qo (Ziy (b:=X22 xs) rfl rfl rfl rfl (X5q s) (Z5w hno)) ?_;(repeat'(first|refine Z1 32 ?_|refine Z0 32 ?_|refine st ?_|(apply B<;>intro hb<;>try cases hb)))<;>try refine At.mk ?_
 refine Qo (Qz rfl (by rw [hsl];omega)) ?_;(repeat'(first|refine Z1 39 ?_|refine Z0 39 ?_|refine st ?_|(apply B<;>intro hb<;>try cases hb)))<;>try refine At.mk ?_
 refine Zj rfl ?_;refine Qo (Qz rfl (by rw [hsl];omega)) ?_
 repeat' (first|refine Z4D [7] 1 (by decide) ?_|refine Z0 45 ?_|(first|refine st ?_|(apply B<;>intro hb<;>try cases hb)))
 refine At.mk ?_;refine Z5X (Z5v xs false (by omega)) Z47 (Zy _) rfl rfl rfl ⟨Zy _,Yt⟩ ?_;(repeat'(first|refine Z1 48 ?_|refine Z0 48 ?_|refine st ?_|(apply B<;>intro hb<;>try cases hb)))<;>try refine At.mk ?_
 refine Zbf (k:=6) (m := [XZ s]) (fl:=true) (b:=⟨1,xs.map XZ⟩) rfl rfl rfl (fun c hc=>by rw [Y0g] at hc; subst hc; rfl) rfl (by
  show ((xs.map XZ).length+1)*16<=_
  rw [hsl];omega) (by show X2 (xs.map XZ ++ [XZ s]); have:=Zy (xs ++ [s]); rwa [Y0r] at this) rfl rfl ?_
 have happ:xs.map XZ ++ [XZ s]=(xs ++ [s]).map XZ:=by rw [Y0r]; rfl
 show dK _ _ _ _ (Env.upd _ 48 (.vec (xs.map XZ ++ [XZ s]) false)) _ _;rw [happ];have hl2:=Z92 (xs ++ [s]);rw [Y0e,Y0s] at hl2;generalize hys:(xs ++ [s]).map XZ=ys at hl2;(repeat'(first|refine Z1 53 ?_|refine Z0 53 ?_|refine st ?_|(apply B<;>intro hb<;>try cases hb)))<;>try refine At.mk ?_
 refine ZhK (Zc7 1 (X2e 0 xs)) rfl rfl rfl rfl ?_;(repeat'(first|refine Z1 74 ?_|refine Z0 74 ?_|refine st ?_|(apply B<;>intro hb<;>try cases hb)))<;>try refine At.mk ?_
 refine Qr (Z2N (v:=((xs.length+1:Nat):Int)) rfl (by rw [hl2])) ?_;refine Qr (Z95 (i:=14) rfl rfl rfl rfl (X5q s) (Z5w hno)) ?_;have hrow:X2e 0 xs ++ [[.val (.string s),.val (.int .i64 ((xs.length+1:Nat):Int))]]=X2e 0 (xs ++ [s]):=by
  rw [Z81,YQ]; rfl
 rw [hrow];(repeat'(first|refine Z1 80 ?_|refine Z0 80 ?_|refine st ?_|(apply B<;>intro hb<;>try cases hb)))<;>try refine At.mk ?_
 refine Qr (Z2N (v:=((xs.length+1:Nat):Int)) rfl (by rw [hl2])) ?_;(refine go ?_;repeat' (apply B<;>intro hb<;>try cases hb));exact⟨_,_,rfl,.inl rfl,rfl,rfl,by unfold X5d; rw [hys]; rfl,rfl⟩
theorem ZeF {s:ByteArray} (hs:X7 Tryz.prog 176 [.val (.string s)] (· = .val (.bool true))) :
 Xp Tryz.prog 106 2 [.ptr 0 0 0,.val (.string s),.val (.int .i64 63)] (Xs [(0,X6E)]) fun n' r h'=>n'=39/\r=.tup [.ptr 16 0 0,.val (.int .i64 1),.val (.int .i64 0)]/\h'=Xs [(16,X5d [s] 18),(18,X22 [s])]:=by
 refine Xp.less (R:=fun n' r h'=>n'=39/\r=.tup [.ptr 16 0 0,.val (.int .i64 1),.val (.int .i64 0)]/\h' 16=some (X5d [s] 18)/\h' 18=some (X22 [s])) ?_ fun n' r h' ⟨h1,h2,h3,h4⟩=>⟨_,Z94 h3 h4,h1,h2,rfl⟩
 refine ZX ok106 (Y0 rfl) fun C hC=>?_;(repeat'(first|refine Z1 15 ?_|refine Z0 15 ?_|refine st ?_|(apply B<;>intro hb<;>try cases hb)))<;>try refine At.mk ?_
 refine Qe hs ⟨Yt,Yt⟩ ?_;(repeat'(first|refine Z1 23 ?_|refine Z0 23 ?_|refine st ?_|(apply B<;>intro hb<;>try cases hb)))<;>try refine At.mk ?_
 refine Z5 (Zas rfl rfl (X5q s)) rfl rfl ?_
 repeat' (first|refine Z18 [7] ?_|refine Z0 45 ?_|(first|refine st ?_|(apply B<;>intro hb<;>try cases hb)))
 refine At.mk ?_;refine Z5X (Z5v [] true (by decide)) Z47 Yt rfl rfl rfl ⟨Yt,Yt⟩ ?_;(repeat'(first|refine Z1 48 ?_|refine Z0 48 ?_|refine st ?_|(apply B<;>intro hb<;>try cases hb)))<;>try refine At.mk ?_
 refine Zbf (k:=6) (m := [XZ s]) (fl:=true) (b:=⟨1,[]⟩) rfl rfl rfl (fun c hc=>by rw [Y0g] at hc; subst hc; rfl) rfl (by show (0+1)*16<=_;omega) (by exact Zy [s]) rfl rfl ?_;(repeat'(first|refine Z1 53 ?_|refine Z0 53 ?_|refine st ?_|(apply B<;>intro hb<;>try cases hb)))<;>try refine At.mk ?_
 refine Qd Z57 ⟨Yt,Yt⟩ ?_
 repeat' (first|refine Z18 [] ?_|refine Z0 74 ?_|(first|refine st ?_|(apply B<;>intro hb<;>try cases hb)))
 refine At.mk ?_
 iterate 1 (first|refine st ?_|(apply B<;>intro hb<;>try cases hb))
 refine Qr (Z95 (i:=18) (rows := []) rfl rfl rfl rfl (X5q s) rfl) ?_;(refine go ?_;repeat' (apply B<;>intro hb<;>try cases hb));exact⟨_,_,rfl,.inl rfl,rfl,rfl,rfl,rfl⟩
theorem Zjg:∀ j,j<7->∃ d:UInt8,d∈([49,50,51,52,53,54,55]:List UInt8)/\nmV (j+1)=⟨#[114,d]⟩:=by
 intro j hj;refine⟨UInt8.ofNat (49+j),?_,?_⟩
 . have : ∀ j, j < 7 -> UInt8.ofNat (49 + j) ∈ ([49, 50, 51, 52, 53, 54, 55] : List UInt8) := by decide
   exact this j hj
 . have : ∀ j, j < 7 -> nmV (j + 1) = ⟨#[114, UInt8.ofNat (49 + j)]⟩ := by decide +kernel
   exact this j hj
theorem ZjZ:∀ i,i<7->∀ j,j<7->nmV (i+1)=nmV (j+1)->i=j:=by decide +kernel
theorem Ziz (i:Nat):nmU (i+1)=nmU i ++ [nmV (i+1)]:=by simp [nmU,Y2T]
theorem Zc8 (k i : Nat) (h : i < k) : (nmU k)[i]'(by rw [Z5t]; exact h) = nmV (i + 1) := by simp [nmU]
theorem Zk0 {i:Nat} (hi:i<7):∀ x∈nmU i,nmV (i+1)≠x:=by
 intro x hx e;obtain⟨j,hj,rfl⟩:=Y0i.1 hx;rw [YZ] at hj;have:=ZjZ i hi j (by omega) e;omega
def X6Y:Nat->List (Nat×Bx)
 | 0 => [(0,X6E)]
 | i+1 => [(0,X5d (nmU (i+1)) 1),(1,X22 (nmU (i+1)))]
def X72 (A B:Nat):Nat->Nat:=fun i=>bif Nat.beq i 0 then A else bif Nat.beq i 1 then B else i
def X31 (xs:List ByteArray) (i:Nat):PV:=.cp [.vec (xs.map XZ) false,.mp i]
theorem Z33 (xs:List ByteArray):Mk (X31 xs):=fun F φ φ' v i n hn hv=>by
 obtain⟨x,cs,rfl,hs,hF,hR⟩:=hv.cp_inv;refine .cp x _ cs hs hF fun j hj=>?_
 match j,hj with
 | 0,_=>exact (hR 0 (show 0<2 by decide)).pure (Zy xs)
 | 1, _ =>
   obtain⟨loc,ad,h1,h2,h3,h4⟩:=(hR 1 (show 1<2 by decide)).mp_inv;show Rep F φ' (cs 1) (.mp n);rw [h4];exact .mp n loc ad (hn▸h1) h2 h3
theorem Zk1 (xs:List ByteArray) {q:PV} (hq:q.pure):Mk fun i=>.tup [X31 xs i,q]:=fun F φ φ' v i n hn hv=>by
 obtain⟨vs,rfl,hl,hv⟩:=hv.tup_inv;refine .tup vs _ hl fun j hj=>?_
 match j,hj with
 | 0,_=>exact Z33 xs F φ φ' _ i n hn (hv 0 (show 0<2 by decide))
 | 1,_=>exact (show Rep F φ (vs.getD 1 undef) q from hv 1 (show 1<2 by decide)).pure hq
theorem Zk2 (k:Nat) (h0:0<k) (hk:k<=7):X1a Tryz.prog 64 [.vec ((nmU k).map XZ) false,.val (.int .i64 63)] (fun i=>.tup [X31 (nmU k) i,.val (.int .i64 0)]) (X22 (nmU k)):=by
 have hkl:((nmU k).map XZ).length=k:=by simp [nmU]
 refine ZY ok64 (Y0 rfl) fun C hC=>?_;(repeat'(first|refine Z1 12 ?_|refine Z0 12 ?_|refine st ?_|(apply B<;>intro hb<;>try cases hb)))<;>try refine At.mk ?_
 refine ZH rfl rfl ZeD ?_;rintro n' r h' ⟨rfl,rfl,rfl⟩;(repeat'(first|refine Z1 14 ?_|refine Z0 14 ?_|refine st ?_|(apply B<;>intro hb<;>try cases hb)))<;>try refine At.mk ?_
 refine Ze (v:=(k:Int)) rfl rfl rfl (by rw [hkl]) ?_;(refine go ?_;repeat' (apply B<;>intro hb<;>try cases hb));refine Z1n hC (fun i=>i<=k) (fun i=>k-i) 2 (fun i => [(1,.val (.int .i64 63)),(6,.ptr 0 0 0),(13,.vec ((nmU k).map XZ) false),(14,.val (.int .i64 (k:Int))),(15,Yv i)])
  X6Y (by omega) 0 (Y0l _) (fun i=>i) (fun _ _=>rfl) Z1a
  ⟨Qp Yt,Qt 0 0 0,Qp (Zy _),Qp Yt,Qp Yt,Yt⟩ ⟨Qs ⟨⟨Yt,Yt,Yt⟩,Yt⟩,Yt⟩ ?_
 intro i hi;have hinc:IntKind.i64.wrap ((i:Int)+1)=((i+1:Nat):Int):=Y0v _ ⟨by omega,by omega⟩;cases i with
 | zero =>
   (repeat'(first|refine Z1 16 ?_|refine Z0 16 ?_|refine st ?_|(apply B<;>intro hb<;>try cases hb)))<;>try refine At.mk ?_
   by_cases hik:0<k
   . refine Qo (Qy rfl (Int.ofNat_lt.2 hik)) ?_;(repeat'(first|refine Z1 17 ?_|refine Z0 17 ?_|refine st ?_|(apply B<;>intro hb<;>try cases hb)))<;>try refine At.mk ?_
     refine Qo (Zk (xs:=nmU k) (g:=XZ) rfl rfl (0) rfl (by rw [Z5t]; exact hik) rfl) ?_;rw [Zc8 k (0) hik];obtain⟨d,hd,he⟩:=Zjg (0) (by omega);have hv:=Z4t d hd;rw [<- he] at hv;(repeat'(first|refine Z1 23 ?_|refine Z0 23 ?_|refine st ?_|(apply B<;>intro hb<;>try cases hb)))<;>try refine At.mk ?_
     refine ZH rfl rfl (ZeF hv) ?_;rintro n' r h' ⟨rfl,rfl,rfl⟩;(refine go ?_;repeat' (apply B<;>intro hb<;>try cases hb))
     exact⟨0+1,X72 16 18,by omega,by omega,fun j hj=>absurd hj (YR _),Z1e rfl,
      ⟨Qp Yt,Qt 0 0 0,Qp (Zy _),Qp Yt,⟨_,by show some _=some _; rw [hinc],.pure _ Yt⟩,Yt⟩,
      ⟨by decide,_,rfl,X1w.single ⟨.pure _ (Zy _),.mp 1 (by decide),Yt⟩ rfl⟩,Qs (Z43 _ _),Yt⟩
   . omega
 | succ i =>
   (repeat'(first|refine Z1 16 ?_|refine Z0 16 ?_|refine st ?_|(apply B<;>intro hb<;>try cases hb)))<;>try refine At.mk ?_
   by_cases hik:i+1<k
   . refine Qo (Qy rfl (Int.ofNat_lt.2 hik)) ?_;(repeat'(first|refine Z1 17 ?_|refine Z0 17 ?_|refine st ?_|(apply B<;>intro hb<;>try cases hb)))<;>try refine At.mk ?_
     refine Qo (Zk (xs:=nmU k) (g:=XZ) rfl rfl (i+1) rfl (by rw [Z5t]; exact hik) rfl) ?_;rw [Zc8 k (i+1) hik];obtain⟨d,hd,he⟩:=Zjg (i+1) (by omega);have hv:=Z4t d hd;rw [<- he] at hv;(repeat'(first|refine Z1 23 ?_|refine Z0 23 ?_|refine st ?_|(apply B<;>intro hb<;>try cases hb)))<;>try refine At.mk ?_
     refine ZH rfl rfl (ZeE hv (nmU (i+1)) (Zk0 (by omega)) (by rw [Z5t];omega)) ?_;rintro n' r h' ⟨rfl,rfl,rfl⟩;rw [<- Ziz];(refine go ?_;repeat' (apply B<;>intro hb<;>try cases hb))
     exact⟨i+1+1,X72 16 14,by omega,by omega,fun j hj=>absurd hj (YR _),Z1e rfl,
      ⟨Qp Yt,Qt 0 0 0,Qp (Zy _),Qp Yt,⟨_,by show some _=some _; rw [hinc],.pure _ Yt⟩,Yt⟩,
      ⟨by decide,_,rfl,X1w.single ⟨.pure _ (Zy _),.mp 1 (by decide),Yt⟩ rfl⟩,Qs (Z43 _ _),Yt⟩
   . have hik : k = i + 1 := by omega
     refine Qo (Qz rfl (by omega)) ?_
     iterate 4 (first|refine st ?_|(apply B<;>intro hb<;>try cases hb))
     show aw _ _ _ _ _ _ _;subst hik;refine Z1p (Z2x (k:=6) rfl rfl _) ?_;(refine go ?_;repeat' (apply B<;>intro hb<;>try cases hb));exact⟨_,_,rfl,.inl rfl,_,rfl,rfl⟩
end
section
open Go.RowKit
theorem Z2L {α:Type} {l:List α} {i:Nat} {c:α} {cs:List α} (h:l.drop i=c :: cs):i<l.length/\l[i]?=some c/\l.drop (i+1)=cs:=by
 have h1:(l.drop i)[0]?=some c:=by rw [h]; rfl
 rw [Y18,YX] at h1;refine⟨(Yy.1 h1).1,h1,?_⟩;rw [<- Y2k,h]; rfl
theorem Zat {α:Type} {l:List α} {i:Nat} (h:l.drop i = []):l.length<=i:=by simpa using h
theorem Zdr {α:Type} {l:List α} {i:Nat} (h:l.drop i = []) (hi:i<=l.length):i=l.length:=by have:=Zat h; omega
theorem ZiA {α:Type} {l:List α} {i:Nat} {a b:List α} (h:l.drop i=a++b):l.drop (i+a.length)=b/\i+a.length<=max i l.length:=by
 refine⟨by rw [<- Y2k,h,Y3y],?_⟩;have:=congrArg List.length h;rw [Y17,Y0e] at this;omega
abbrev Tp:=Tk×Nat
def blB (b:Bool):Nat:=if b then 1 else 0
def X49:Nat->List Pc->List Tp
 | _,[] => []
 | i,(b,t) :: r=>(t,i+blB b) :: X49 (i+blB b+t.s.length) r
theorem Z96:∀ (i:Nat) (r:List Pc),(X49 i r).map (·.1)=r.map (·.2)
 | _,[]=>rfl
 | i, (b, t) :: r => by
   show t :: (X49 _ r).map (·.1)=t :: r.map (·.2);rw [Z96]
theorem Z97 (i:Nat) (r:List Pc):(X49 i r).length=r.length:=by
 have:=congrArg List.length (Z96 i r);simpa using this
def blk:List Pc->Nat
 | []=>0
 | (b,_) :: _=>blB b
def X4m (f:Fm):List Tp:=X49 0 (pcM f false) ++ [(X48,(tx f).length)]
theorem ZiB {f:Fm} (h:Sh f):(X4m f).map (·.1)=tkM f ++ [X48]:=by
 unfold X4m;rw [Y0r,Z96,ZkV h]; rfl
theorem Zau {f:Fm} (h:Sh f):(pcM f false).length<=(tx f).length:=by
 have:∀ r:List Pc,(∀ x∈r,OkT x.2)->r.length<=(txP r).length:=by
  intro r
  induction r with
  | nil=>exact fun _=>Y0m _
  | cons x r ih =>
    intro hr;obtain⟨b,t⟩:=x;have h1:=ih fun y hy=>hr y (YC _ hy);obtain⟨c,cs,hc,_⟩:=(hr (b,t) (Y0t ..)).head;have hc:t.s=c :: cs:=hc;show r.length+1<=((if b then 32 :: t.s else t.s)++txP r).length;rw [Y0e,hc];cases b<;>simp<;>omega
 exact this _ (Zkx h false)
theorem Zds {f:Fm} (h:Sh f):(X4m f).length<=40*f.size+1:=by
 unfold X4m;rw [Y0e,Z97];have:=Zau h;have:=Zdq h;show _+1<=_;omega
def tkR (x:Tp):List PV := [.val (.int .u8 (x.1.k:Int)),.val (.string (toB x.1.s)),.val (.int .i64 (x.1.n:Int)),.val (.int .i64 (x.2:Int))]
theorem Z44 (x:Tp):Xe (tkR x):=⟨Yt,Yt,Yt,Yt,Yt⟩
theorem Z2B (l:List Tp):X2 (l.map tkR):=Z17 Z44 l
theorem Z98 (a:By):(toB a).toList=a:=by rw [Go.Lib.toList_data]; rfl
theorem Zk3 (a:By) (i j:Nat):(toB a).extract i j=toB ((a.take j).drop i):=Y3M (by
 rw [ByteArray.data_extract];apply Y3W;show (a.toArray.extract i j).toList=_;simp [Y4o]
 rfl)
section
variable {e:Env} {h:X0} {n:Nat} {x y:Operand} {a b:By}
theorem ZiC (hx:ev e x=some (.val (.string (toB a)))) (hy:ev e y=some (.val (.string (toB b)))):X1 (.bin .eql .num x y) e h n=some (.val (.bool (decide (a=b))),h):=by
 have he:(a == b)=decide (a=b):=by rw [YS]; simp
 simp [X1,hx,hy,X3T,X3R,Z98,he]
theorem Zl1 (hx:ev e x=some (.val (.string (toB a)))) (hy:ev e y=some (.val (.string (toB b)))):X1 (.bin .neq .num x y) e h n=some (.val (.bool (!decide (a=b))),h):=by
 have he:(a == b)=decide (a=b):=by rw [YS]; simp
 simp [X1,hx,hy,X3T,X3R,Z98,he]
theorem ZiD (hx:ev e x=some (.val (.string (toB a)))) (hy:ev e y=some (.val (.string (toB b)))) (hl:a.length+b.length<=100000):X1 (.bin .add .num x y) e h n=some (.val (.string (toB (a++b))),h):=by
 have:(toB a).size+(toB b).size<=9223372036854775807:=by rw [Z42,Z42]; omega
 simp [X1,hx,hy,X3T,X3R,this,ZjX]
theorem Z1T {k:IntKind} {m:Int} {j:Nat} {c:UInt8} (hx:ev e x=some (.val (.string (toB a)))) (hy:ev e y=some (.val (.int k m))) (hm:m=(j:Int)) (hc:a[j]?=some c):X1 (.indexS x y) e h n=some (.val (.int .u8 (c.toNat:Int)),h):=by
 subst hm;have hj:=(Yy.1 hc).1;have h1:0<=(j:Int)/\(j:Int)<((toB a).size:Int):=by rw [Z42]; omega
 have h2:(toB a).data.toList.getD (j:Int).toNat 0=c:=by
  show a.getD j 0=c;rw [Y0b,hc]; rfl
 simp only [X1,hx,hy];rw [Y7 h1,h2]
theorem Z34 (hx:ev e x=some (.val (.string (toB a)))):X1 (.lenS x) e h n=some (.val (.int .i64 (a.length:Int)),h):=by
 simp [X1,hx,Z42]
theorem ZgR {lo hi:Option Operand} {i j:Nat} (hx:ev e x=some (.val (.string (toB a)))) (hlo:XD e 0 lo=some (i:Int)) (hhi:XD e (a.length:Int) hi=some (j:Int)) (hij:i<=j) (hj:j<=a.length):X1 (.slcS x lo hi) e h n=some (.val (.string (toB ((a.take j).drop i))),h):=by
 have hhi:XD e ((toB a).size:Int) hi=some (j:Int):=by rw [Z42]; exact hhi
 simp only [X1,hx,hlo,hhi];rw [Y7 ⟨by omega,by omega,by rw [Z42]; omega⟩,YY,YY,Zk3]
end
def X59:List X5->(X5->Prop)->Prop
 | [],_=>True
 | y :: ys,p=>p y/\X59 ys p
theorem ZgS {p:X5->Prop} {l:List X5} (h:X59 l p):∀ y∈l,p y:=by
 induction l with
 | nil=>intro y hy; cases hy
 | cons x xs ih =>
   intro y hy;rcases Ye.1 hy with rfl|hy
   . exact h.1
   . exact ih h.2 y hy
def X55 (rem:List X5) (y:X5):Bool:=rem.all fun x => !y.mask.testBit x.i
def X6f (P:Program):Nat->List X5->Nat->Env->X0->(Nat->Env->X0->Prop)->Prop
 | 0,_,n,e,h,K=>K n e h
 | f+1,rem,n,e,h,K=>X59 (rem.filter (X55 rem)) fun y=>Xj P [y.o] n e h fun n e h=>X6f P f (rem.filter fun x => !Nat.beq x.i y.i) n e h K
structure Lf (p:Prop):Prop where
 h:p
section
variable {P:Program} {C:Ctx} {n:Nat} {e:Env} {h:X0} {a:Act} {w:World} {FN:Fence} {m:Nat} {Q:Exit->Nat->Env->X0->Prop}
theorem ZiE (hok:Xo FN m) {ops:Array Oper} {y:X5} {o:Oper} (ho:ops[y.i]?=some o) (hc:X28 P C.nt ops o=some y.o) (hs:St C (fun i=>n<=i) e h a w) {K:Nat->Env->X0->Prop} (hk:Xj P [y.o] n e h K)
 {next:Act->World->Prop} {Q:Exit->Act->World->Prop} (hnext:∀ n' e' h' a' w',K n' e' h'->St C (fun i=>n'<=i) e' h' a' w'->next a' w'):wpOpIn FN m P ops Q y.i next a w:=by
 unfold X28 at hc
 split at hc
 case h_2=>simp at hc
 rename_i op g hop hg
 split at hc
 case isFalse=>simp at hc
 rename_i hdst;have hx:y.o=⟨o.dst,op,g⟩:=(Y13 hc).symm;rw [hx] at hk;simp only [Xj] at hk;obtain⟨F,φ,s⟩:=hs;simp only [wpOpIn,ho];rcases Z3n hg s rfl hk with⟨hw,hA⟩|⟨hw,hB⟩
 . rw [Y7 hw];obtain⟨n1,e1,h1,hsub,hA⟩:=hA;obtain⟨F,φ,s⟩:=hsub C a w ⟨F,φ,s⟩;rcases hA with hA|⟨f,args,g,v,as0,l0,R,hop',hf,has,hcl,hsp,hR⟩
   . refine Z4A hok hop hdst (Y0m n1) s hA fun p h' a' w' hK hs' => ?_;obtain⟨F',φ',s'⟩:=hs';refine hnext _ _ _ a' w' hK ⟨F',φ',s'.weaken fun i hi=>?_⟩;unfold bmp at hi;cases hb:h' n1 with
     | none=>rw [hb] at hi; exact⟨hi,fun hne=>absurd rfl hne⟩
     | some b=>rw [hb] at hi; exact⟨by simp only at hi; omega,fun _=>by simp only at hi; omega⟩
   . subst hop';refine Z6f hok hop hdst s hf has hcl hsp fun n' r h' a' w' hr hs'=>?_;exact hnext _ _ _ a' w' (hR n' r h' hr) hs'
 . rw [Y8 (by simp [hw])];refine⟨fun f _=>hok.fn f,?_⟩;have s':=s.putO (p:=pvu) hdst (.val undef);exact hnext _ _ _ _ _ hB ⟨F,φ,s'⟩
theorem ZiF (hok:Xo FN m) {ops:Array Oper} {L:List Nat} (hL:MOk ops L) {K:Nat->Env->X0->Prop} {Q:Exit->Act->World->Prop}
 (hQ : ∀ n e h a w, K n e h -> St C (fun i => n <= i) e h a w -> Q .normal a w) : ∀ (fuel : Nat) (rem : List X5) (listed : Array Bool), X6h .no P C.nt ops L rem listed -> rem.length <= fuel ->
   ∀ {n:Nat} {e:Env} {h:X0} {a:Act} {w:World},St C (fun i=>n<=i) e h a w->X6f P rem.length rem n e h K->wpAnyIn FN m P .any ops Q fuel listed a w:=by
 intro fuel;have hdone:∀ (rem:List X5) (listed:Array Bool),X6h .no P C.nt ops L rem listed->Region.ready .any ops listed = []->rem = []:=by
  intro rem listed inv hr;cases rem with
  | nil=>rfl
  | cons x xs =>
    exfalso;obtain⟨hxl,hxm,hxo⟩:=inv.item x (by simp);have ho:ops[x.i]?=some ops[x.i]:=Y1r hxl;have hin:x.i∈Region.ready .any ops listed:=by
     rw [Y3K];have h0:=(inv.mem x.i hxl).2 ⟨x,by simp,rfl⟩;refine⟨?_,_,ho,fun ed hed hb=>?_⟩
     . have hlt : x.i < listed.size := by rw [inv.size]; exact hxl
       simpa [Array.getD,hlt] using h0
     . have hlt := hL.lt x.i _ ho ed hed hb;cases hl:listed.getD ed.on false with
       | true=>rfl
       | false =>
         obtain⟨z,hz,hzi⟩:=(inv.mem ed.on (by omega)).1 hl;rcases Ye.1 hz with rfl|hz
         . omega
         . have := (Y1j.1 inv.ord).1 z hz;omega
    rw [hr] at hin;cases hin
 induction fuel with
 | zero =>
   intro rem listed inv hlen n e h a w hs hk;have hrem:rem = []:=YD (by omega);subst hrem;refine⟨?_,hQ n e h a w hk hs⟩;cases hr:Region.ready .any ops listed with
   | nil=>rfl
   | cons j js =>
     exfalso;have hj:j∈Region.ready .any ops listed:=by rw [hr]; simp
     obtain⟨h0,o,ho,_⟩:=Y3K.1 hj;have hlt:j<ops.size:=(Y9.1 ho).1;obtain⟨x,hx,_⟩:=(inv.mem j hlt).1 (Z5W h0).2;cases hx
 | succ fuel ih =>
   intro rem listed inv hlen n e h a w hs hk;refine⟨fun hr=>?_,fun i hi=>?_⟩
   . obtain rfl := hdone rem listed inv hr;exact hQ n e h a w hk hs
   . obtain ⟨h0, o, ho, hpre⟩ := Y3K.1 hi;have hlt:i<ops.size:=(Y9.1 ho).1;obtain⟨y,hy,rfl⟩:=(inv.mem i hlt).1 (Z5W h0).2;obtain⟨_,hym,hyo⟩:=inv.item y hy;have hmask:∀ x∈rem,y.mask.testBit x.i=false:=by
      intro x hx;cases hb:y.mask.testBit x.i with
      | false=>rfl
      | true =>
        exfalso;rw [hym] at hb;obtain⟨ed,hed,hbind,hon⟩:=hL.mem y.i o ho x.i hb;have hl:=hpre ed hed hbind;have hxl:=(inv.item x hx).1;have hxun:=(inv.mem x.i hxl).2 ⟨x,hx,rfl⟩;rcases hon with hon|hon
        . rw [hon] at hl; rw [hl] at hxun; cases hxun
        . have hedl : ed.on < ops.size := by have := hL.lt y.i o ho ed hed hbind; omega
          have:=inv.closed ed.on hedl hl x.i hon;rw [this] at hxun; cases hxun
     have hready:X55 rem y=true:=YA.2 fun x hx=>by rw [hmask x hx]; rfl
     obtain⟨pre,post,rfl⟩:=List.append_of_mem hy;have hnd:∀ z∈pre++post,z.i≠y.i:=by
      have h1:(pre++y :: post).Pairwise fun x y=>x.i≠y.i:=inv.ord.imp fun h=>by omega
      intro z hz;have h2:=Y2L.1 h1;rcases Y0h.1 hz with hz|hz
      . exact h2.2.2 z hz y (by simp)
      . exact ((Y1j.1 h2.2.1).1 z hz).symm
     have hfil:(pre++y :: post).filter (fun x => !Nat.beq x.i y.i)=pre++post:=by
      have hk:∀ z∈pre++post,(!Nat.beq z.i y.i)=true:=fun z hz=>by
       have:=hnd z hz;cases hb:Nat.beq z.i y.i with
       | false=>rfl
       | true=>exact absurd (Yw hb) this
      rw [Y34,Y3i,Y8 (by rw [Y2F]; decide),List.filter_eq_self.2 fun z hz=>hk z (Y0h.2 (.inl hz)),List.filter_eq_self.2 fun z hz=>hk z (Y0h.2 (.inr hz))]
     have hl2:(pre++y :: post).length=(pre++post).length+1:=by simp only [Y0e,Y04]; omega
     rw [hl2] at hk;have hk:=ZgS hk y (Y1E.2 ⟨hy,hready⟩);rw [hfil] at hk;refine ZiE hok ho (hyo o ho) hs hk fun n' e' h' a' w' hk' hs'=>?_;have hne:∀ j,j≠y.i->(listed.setIfInBounds y.i true).getD j false=listed.getD j false:=fun j hj=>by
      simp only [Y0d,Y2Q];rw [Y8 (Y2t hj)]
     have hsame:(listed.setIfInBounds y.i true).getD y.i false=true:=by
      have:y.i<listed.size:=by rw [inv.size]; exact hlt
      simp [Y0d,this]
     refine ih (pre++post) _ ⟨by simpa using inv.size,fun j hj=>?_,fun x hx=>?_,?_,fun j hj hl k hk=>?_⟩ (by omega) hs' hk'
     . by_cases hj' : j = y.i
       . subst hj';rw [hsame];constructor
         . intro h; cases h
         . rintro⟨x,hx,hxi⟩; exact absurd hxi (hnd x hx)
       . rw [hne j hj', inv.mem j hj];constructor
         . rintro ⟨x, hx, hxi⟩;refine⟨x,?_,hxi⟩;rcases Y0h.1 hx with hx|hx
           . exact Y0h.2 (.inl hx)
           . rcases Ye.1 hx with rfl | hx
             . exact absurd hxi.symm hj'
             . exact Y0h.2 (.inr hx)
         . rintro ⟨x, hx, hxi⟩;refine⟨x,?_,hxi⟩;rcases Y0h.1 hx with hx|hx
           . exact Y0h.2 (.inl hx)
           . exact Y0h.2 (.inr (by simp [hx]))
     . refine inv.item x ?_;rcases Y0h.1 hx with hx|hx
       . exact Y0h.2 (.inl hx)
       . exact Y0h.2 (.inr (by simp [hx]))
     . exact inv.ord.sublist (Y3H (Y3U _) (Y3m _ _))
     . by_cases hk' : k = y.i
       . rw [hk']; exact hsame
       . rw [hne k hk'];by_cases hj':j=y.i
         . subst hj';obtain⟨ed,hed,hbind,hon⟩:=hL.mem y.i o ho k hk;have hl':=hpre ed hed hbind;rcases hon with hon|hon
           . rw [<- hon]; exact hl'
           . exact inv.closed ed.on (by have:=hL.lt y.i o ho ed hed hbind;omega) hl' k hon
         . rw [hne j hj'] at hl;exact inv.closed j hj hl k hk
theorem Z99 (hok:Xo FN m) (hm:P.follows .mixedOrders=true) {id:Nat} {ops:Array Oper} {al:List Xm} {L:List Nat} (hc:Xw P C.nt ops ops.toList=some al) (hL:X2r ops L=true) (hp:X2G (XF al L)=true)
 (hs:St C (fun i=>n<=i) e h a w) {Q:Exit->Nat->Env->X0->Prop} (hk:X6f P (XF al L).length (XF al L) n e h fun n e h=>Lf (Q .normal n e h)):(Code.region id ops true).wpIn FN m P (X3v C Q) a w:=by
 obtain⟨hlen,hget⟩:=Z7t hc;have hdl:(XF al L).length=ops.size:=by simp [XF,hlen]
 have hs':St C (fun i=>n<=i) e h a { w with drawn:=w.drawn+1 }:=by obtain⟨F,φ,s⟩:=hs; exact⟨F,φ,s.drew⟩
 refine wpIn_region_any hm (ZiF hok (Z5B hL) (K:=fun n e h=>Lf (Q .normal n e h)) (fun n e h a w hK hSt=>⟨n,e,h,hK.h,hSt⟩) ops.size _ _ ⟨by simp,fun j hj=>?_,fun x hx=>?_,?_,fun j hj hl=>?_⟩ (by omega) hs' hk)
 . have hj' : j < al.length := by rw [hlen]; simpa using hj
   constructor
   . intro _;refine⟨⟨j,al[j],L.getD j 0,X6F al L j,false⟩,?_,rfl⟩;refine Y0i.2 ⟨(al[j],j),?_,rfl⟩;rw [Y1H];simp [hj']
   . intro _; simp [Y0d,hj]
 . obtain ⟨q, hq, rfl⟩ := Y0i.1 hx;have hqg:=Y1H.1 hq;have hql:q.2<al.length:=(Yy.1 hqg).1;refine⟨by rw [hlen] at hql; simpa using hql,rfl,fun o ho=>?_⟩;obtain⟨x,hx1,hx2⟩:=hget q.2 o (by simpa using ho);rw [hqg] at hx1;cases hx1;exact hx2
 . have hsub : (XF al L).Pairwise fun x y => x.i < y.i := by
    unfold XF;rw [Y1I];have h2:(al.zipIdx.map Prod.snd).Pairwise (· < ·):=by
     rw [List.zipIdx_map_snd]; exact Y4w
    exact (Y1I.1 h2)
   refine Y38 ?_ hsub;intro x y hx hy hlt;refine⟨hlt,fun hb=>?_⟩;have h1:=YA.1 hp x hx;have h2:=YA.1 h1 y hy;have hblt:Nat.blt x.i y.i=true:=Nat.ble_eq_true_of_le hlt;have hb':y.mask.testBit x.i=false:=hb;simp only [hblt,hb',Y4y,Y3f] at h2;exact Z6g h2 hlt hb' (z:=.no) rfl hx hy
 . simp [Y0d,hj] at hl
theorem ZeG {l:List X5} (hk:X6f P l.length l n e h fun n e h=>Lf (Q .normal n e h)):aw P C (.draw l) Q n e h:=by
 intro hm FN m hok c hc a w hs;have:∃ id ops al,c=.region id ops true/\Xw P C.nt ops ops.toList=some al/\X2r ops (Region.before ops).toList=true/\X2G (XF al (Region.before ops).toList)=true/\XF al (Region.before ops).toList=l:=by
  unfold Xn at hc
  split at hc<;>first
   | (simp at hc; done)
   | (split at hc
      . split at hc
        . simp at hc
        . split at hc
          . rename_i hb;rw [Y0k] at hb;simp at hc; exact⟨_,_,_,rfl,by assumption,hb.1,hb.2,hc⟩
          . simp at hc
      . simp at hc)
   | (split at hc<;>simp at hc; done)
   | ((repeat' (split at hc))<;>simp at hc; done)
 obtain⟨id,ops,al,rfl,h1,h2,h3,rfl⟩:=this;exact Z99 hok.1 hm h1 h2 h3 hs hk
end
end
section
open Go.RowKit
attribute [local irreducible] aw Xj dK
section
variable {P:Program} {e:Env} {h:X0} {n:Nat} {K:Nat->Env->X0->Prop} {os:List Xm} {d:Option Nat}
theorem Zav:Mk fun k=>.cp [.ptr k 0 0]:=fun F φ φ' v i n hn hv=>by
 obtain⟨x,cs,rfl,hs,hF,hR⟩:=hv.cp_inv;refine .cp x _ cs hs hF fun j hj=>?_
 match j,hj with
 | 0,_=>exact ZgQ 0 0 F φ φ' _ i n hn (hR 0 (Y1g _))
theorem ZkF (g:FuncId):Mk fun k=>.bf g [.cp [.ptr k 0 0]]:=fun F φ φ' v i n hn hv=>by
 obtain⟨vs,rfl,hl,hv⟩:=hv.bf_inv;refine .bf g vs _ hl fun j hj=>?_
 match j,hj with
 | 0,_=>exact Zav F φ φ' _ i n hn (hv 0 (Y1g _))
theorem ZgT {f:Operand} {args':List Operand} {g:FuncId} {first as1:List PV} {args:Nat->List PV} {b:Bx} (id:Nat) {R:PV->Bx->Prop} (hs:Xu P g args b R) (hm:MkL args) (hf:ev e f=some (.bf g first)) (ha:evs e args'=some as1) (hr:first++as1=args id) (hb:h id=some b) (hpb:X2 b.elems)
 (hk:∀ r b',r.pure->X2 b'.elems->R r b'->Xj P os n (Xq e d r) (h.upd id b') K):Xj P (⟨d,.call f args',none⟩ :: os) n e h K:=by
 refine Zjs hf ha (R:=fun n' r h'=>∃ b',n'=n/\h'=h.upd id b'/\r.pure/\X2 b'.elems/\R r b') (by rw [hr]; exact hs.frame hm hpb hb) ?_;rintro n' r h' ⟨b',rfl,rfl,h1,h2,h3⟩;exact hk r b' h1 h2 h3
end
end
end Go.Proofs.YtgpjedjgmpienaaGreatDoor
