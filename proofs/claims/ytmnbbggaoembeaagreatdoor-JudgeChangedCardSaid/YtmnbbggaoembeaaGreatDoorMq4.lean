/-
  Merged from the texts that this claim's theorem needs, part 5 of 7. No statement of the seat is proved here.
-/
import Derived.KernelRfl
import Derived.Shelf.SlSortCmp.NoneTotal
import Derived.Test.YtmnbbggaoembeaaGreatDoorChecked
import Derived.Test.YtmnbbggaoembeaaGreatDoorMq3
set_option linter.unusedSimpArgs false
set_option linter.unusedVariables false
set_option linter.unusedSectionVars false
set_option maxRecDepth 100000
set_option maxHeartbeats 16000000
namespace Go.Proofs.YtmnbbggaoembeaaGreatDoor
section
open Go.RowKit Go.Sort
section
variable {P:Program} {ρ:Go.Shelf.Ren} {α:Type}
def RawOk (F:Froz) (k:Nat) (enc:α->List PV) (p:List Value×α):Prop :=
 p.1.length=k/\(∀ v∈p.1,v.oneCell'=true)/\∀ j,j<k->Rep F noLoc (p.1.getD j undef) ((enc p.2).getD j pvu)
abbrev Raw (F:Froz) (k:Nat) (enc:α->List PV):={ p:List Value×α // RawOk F k enc p }
theorem Z8l {w:World} {blk off:Nat} {cells:Array Value} {t:TypeId} {fr:Nat×Nat} (hg:w.heap[blk]?=some (.cells cells t fr)) (D:Array Value):putRow id w blk off D=w.setRow blk (putCells id off D cells):=by
 unfold putRow;rw [mapBlock_congr w blk _ (fun _=>putCells id off D cells) (fun c e fr' h=>by rw [hg] at h; cases h; rfl)];unfold mapBlock World.setRow;congr 2
theorem ZgQ {W w':World} (hb:Below W.heap.size W w') (hd:W.drawn<=w'.drawn):∃ q os,w'=grow (W.drewN q) os:=by
 refine⟨w'.drawn-W.drawn,w'.heap.extract W.heap.size w'.heap.size,?_⟩;obtain⟨h1,h2,h3,h4,h5⟩:=hb;obtain⟨heap,tape,drawn,os,output⟩:=w';simp only at h1 h2 h3 h4 h5 hd ⊢;subst h1 h2 h3;simp only [grow,World.drewN,World.mk.injEq,true_and,and_true];refine⟨?_,by omega⟩;apply Array.ext_getElem?;intro i;rw [Array.getElem?_append];by_cases hi:i<W.heap.size
 . rw [if_pos hi]; exact h5 i hi
 . rw [if_neg hi, Array.getElem?_extract];by_cases h6:i<heap.size
   . rw [if_pos (by omega)];congr 1;omega
   . rw [if_neg (by omega)];exact Array.getElem?_eq_none (by omega)
theorem RawOk.agg {F:Froz} {k:Nat} {enc:α->List PV} {p:List Value×α} (h:RawOk F k enc p) (hl:(enc p.2).length=k):Rep F noLoc (.agg p.1.toArray) (.agg (enc p.2)):=by
 obtain⟨h1,h2,h3⟩:=h;have hg:∀ i,p.1.toArray.getD i undef=p.1.getD i undef:=fun i=>by simp [Y0d,Y0b]
 refine .agg _ _ (by simp [h1,hl]) (fun i hi=>?_) (fun i hi=>?_)
 . rw [hg, Y0b, Y0c (by omega)];exact h2 _ (Y0j _)
 . rw [hg]; exact h3 i (by omega)
theorem Ziv {β:Type} {cf:β->β->Int} {key:β->Nat} (h:∀ a b,cf a b<0↔key a<key b):SWO (ltOf cf):=by
 have e:∀ a b,ltOf cf a b=decide (key a<key b):=fun a b=>by unfold ltOf; exact decide_eq_decide.2 (h a b)
 refine⟨fun x=>?_,fun x y z h1 h2=>?_,fun x y z h1 h2=>?_⟩
 . rw [e]; simp
 . rw [e] at *; simp at *; omega
 . rw [e] at *; simp at *; omega
theorem Z7w (L:SlLaysF0.n6 P ρ) (hbody:HasBody P (ρ.f 6)) (k:Nat) (hk0:0<k) (aE:∀ w,(isAgg (ρ.t 24)).run P w=.ok true w) (zE:∀ w,(Go.sizeOf (ρ.t 24)).run P w=.ok k w) (enc:α->List PV) (hl:∀ x,(enc x).length=k) (hp:∀ x,pureL (enc x))
 (key:α->Nat) (cf:α->α->Int) (hcf:∀ a b,cf a b<0↔key a<key b) (g:FuncId) (caps:List PV) (hcaps:pureL caps) (hcmp:∀ a b,Spec P g (.agg (enc a) :: .agg (enc b) :: caps) (· = .val (.int .i64 (cf a b)))) {n ob:Nat} {h:Heap} (xs:List α) (hh:h ob=some ⟨k,xs.map enc⟩) :
 ISpec P (ρ.f 6) n [.own ob,.fn g caps] h fun n' r h'=>n'=n/\r=.tup []/\∃ ys:List α,ys.Perm xs/\ys.Pairwise (fun a b=>key a<=key b)/\h'=h.upd ob ⟨k,ys.map enc⟩:=by
 refine⟨hbody,?_⟩;intro C e F φ a w vs s hv;obtain⟨hsz,hvs⟩:=hv;have h0:Rep F φ (vs.getD 0 undef) (.own ob):=hvs 0 (by simp);have h1:Rep F φ (vs.getD 1 undef) (.fn g caps):=hvs 1 (by simp);obtain⟨loc,hloc,hz,hv0⟩:=h0.own_inv;obtain⟨cb,hv1,hcsz,hcb⟩:=h1.fn_inv;have hvs':vs = #[.slice loc.base loc.len loc.cap,.func (.func g) #[] cb]:=by
  simp only [Y04,List.length_nil] at hsz;apply Array.ext (by simpa using hsz);intro i hi1 hi2;have hi:i=0 \/ i=1:=by simp at hi2; omega
  have hget:∀ j (hj:j<vs.size),vs.getD j undef=vs[j]:=fun j hj=>by simp [Array.getD,hj]
  rcases hi with rfl|rfl
  . rw [hget 0 hi1] at hv0; exact hv0
  . rw [hget 1 hi1] at hv1; exact hv1
 obtain⟨loc',hl1,hob,hhas⟩:=s.live ob _ hh;obtain rfl:loc'=loc:=by rw [hl1] at hloc; simpa using hloc
 have hbx:=hob.cells hz;have hlen:xs.length=loc'.len:=by have:=hbx.len; simpa using this
 have hke:k=loc'.esz:=hbx.esz;rw [hvs'];by_cases hx0:xs = []
 . subst hx0;have hl0:loc'.len=0:=hlen.symm;have hc:=AnyF.slices_SortFunc_none (P:=P) (ρ:=ρ) { L with } loc'.base loc'.cap (.func (.func g) #[] cb) w;rw [hl0];refine hc.mono ?_;rintro en w' ⟨rfl,rfl⟩;refine⟨_,.tup [],n,h.upd ob ⟨k,[].map enc⟩,F,φ,rfl,⟨rfl,rfl,[],.refl _,.nil,rfl⟩,.tup _ _ rfl (fun i hi=>absurd hi (Nat.not_lt_zero i)),s.sub (fun _ _ h=>h) fun i b hi=>?_⟩;by_cases hid:i=ob
   . subst hid; rw [Heap.upd_same] at hi; rw [hh]; exact hi
   . rw [Heap.upd_ne _ _ hid] at hi; exact hi
 . have hpos : 0 < xs.length := List.length_pos_iff.2 hx0;have hcap:=hbx.cap;have hc0:loc'.cap≠0:=by omega
   obtain⟨ad,hbase,hspot,cells,t,hg,hroom,hrep⟩:=hbx.room hc0;have hhb:loc'.has ad.block:=⟨hc0,ad,hbase,rfl⟩
   have hFn:∀ x:Addr,x.block=ad.block->F x=none:=(hhas _ hhb).2;have hblk:ad.block<w.heap.size:=(Array.getElem?_eq_some_iff.1 hg).1;have hin:∀ i j,i<xs.length->j<k->i*k+j<xs.length*k:=fun i j hi hj=>by
    have:=Nat.mul_le_mul_right k (show i+1<=xs.length from hi);rw [Nat.add_mul,Nat.one_mul] at this;omega
   have hsize:xs.length*k<=loc'.cap*loc'.esz:=by rw [hke]; exact Nat.mul_le_mul_right _ (by omega)
   have hraw:∀ i:Fin xs.length,RawOk F k enc ((List.range k).map fun j=>cells.getD (ad.off+(i.1*k+j)) undef,xs[i.1]):=by
    intro i;have hi:=i.2;refine⟨by simp,fun v hv=>?_,fun j hj=>?_⟩
    . obtain ⟨j, hj, rfl⟩ := Y0i.1 hv;have:=(hrep i.1 j (by omega) (by rw [<- hke]; exact List.mem_range.1 hj)).1;rw [<- hke] at this;exact this
    . have h2 := (hrep i.1 j (by omega) (by omega)).2;rw [<- hke] at h2;have e1:((xs.map enc).getD i.1 [])=enc xs[i.1]:=by simp [Y0b,hi]
      rw [e1] at h2;have e2:((List.range k).map fun j=>cells.getD (ad.off+(i.1*k+j)) undef).getD j undef=cells.getD (ad.off+(i.1*k+j)) undef:=by simp [Y0b,hj]
      show Rep F noLoc (((List.range k).map fun j=>cells.getD (ad.off+(i.1*k+j)) undef).getD j undef) ((enc xs[i.1]).getD j pvu);rw [e2];exact h2.pure (ZN (hp _) j)
   letI:Inhabited (Raw F k enc):=⟨⟨_,hraw ⟨0,hpos⟩⟩⟩
   obtain⟨d,hd⟩:∃ d:Array (Raw F k enc),d=Array.ofFn fun i:Fin xs.length=>(⟨_,hraw i⟩:Raw F k enc):=⟨_,rfl⟩
   have hdsz:d.size=xs.length:=by rw [hd]; simp
   have hdget:∀ (i:Nat) (hi:i<xs.length),d[i]! = ⟨_,hraw ⟨i,hi⟩⟩:=fun i hi=>by
    have:i<d.size:=by omega
    rw [getElem!_pos d i this];simp only [hd,Array.getElem_ofFn]
   have hdl:d.toList.map (fun p=>p.1.2)=xs:=by
    apply List.ext_getElem
    . simp [hdsz]
    . intro i h3 h4;have h5:=hdget i h4;rw [getElem!_pos d i (by omega)] at h5;simp [h5]
   have encK:∀ x:Raw F k enc,(x.1.1).length=k:=fun x=>x.2.1;have enc1:∀ x:Raw F k enc,∀ v∈x.1.1,v.oneCell'=true:=fun x=>x.2.2.1;have hH:HoldsK (fun x:Raw F k enc=>x.1.1) k w ad.block ad.off d:=by
    intro q hq;rw [size_flatK,hdsz] at hq;have hi:q / k<xs.length:=(Nat.div_lt_iff_lt_mul hk0).2 hq;have hj:q % k<k:=Nat.mod_lt _ hk0;have hqe:q / k*k+q % k=q:=by rw [Nat.mul_comm]; exact Nat.div_add_mod q k
    rw [get_flatK _ _ _ _ (by rw [hdsz]; exact hq),hdget _ hi];have hlt:ad.off+q<cells.size:=by omega
    constructor
    . simp only [World.cell?, hg];rw [if_neg (by simp),Array.getElem?_eq_getElem hlt];congr 1;rw [getElem!_pos _ _ (by simp [hj])];simp only [List.getElem_map,List.getElem_range,hqe,id];simp [Array.getD,hlt]
    . simp only [World.frozen?, hg];simp
   have hcmpL:CmpLays P g cb (fun x:Raw F k enc=>x.1.1) k (fun x y=>cf x.1.2 y.1.2) ad.block ad.off d.size w:=by
    intro m os dk hdk x y;have hW:Proofs.YtmnbbggaoembeaaGreatDoor.Holds F (sortWorldK (fun x:Raw F k enc=>x.1.1) k w ad.block ad.off m dk os):=by
     refine⟨fun x v hx=>?_,s.glob⟩;obtain⟨f1,f2,f3⟩:=s.froz x v hx;refine⟨f1,f2,?_⟩;have hne:x.block≠ad.block:=fun he=>by rw [hFn x he] at hx; cases hx
     have h5:(putRowK (fun x:Raw F k enc=>x.1.1) k (Sort.ahead w m) ad.block ad.off dk).cell? x=some v:=by
      rw [cell?_putRowK_other _ _ _ _ _ _ _ hne]; exact f3
     unfold sortWorldK;have hlt:x.block<(putRowK (fun x:Raw F k enc=>x.1.1) k (Sort.ahead w m) ad.block ad.off dk).heap.size:=by
      unfold World.cell? at h5
      split at h5
      . rename_i hgx; exact (Array.getElem?_eq_some_iff.1 hgx).1
      . cases h5
     rw [World.cell?_of_block (w:=putRowK (fun x:Raw F k enc=>x.1.1) k (Sort.ahead w m) ad.block ad.off dk)]
     . exact h5
     . unfold grow;exact Array.getElem?_append_left hlt
    have hR:RepL F noLoc (#[.agg x.1.1.toArray,.agg y.1.1.toArray]++cb) (.agg (enc x.1.2) :: .agg (enc y.1.2) :: caps):=by
     refine⟨by simp [hcsz]; omega,fun i hi=>?_⟩
     match i,hi with
     | 0, _ =>
       rw [show (#[Value.agg x.1.1.toArray,Value.agg y.1.1.toArray]++cb).getD 0 undef=.agg x.1.1.toArray by simp [Y0d,Array.getElem?_append]];exact RawOk.agg x.2 (hl _)
     | 1, _ =>
       rw [show (#[Value.agg x.1.1.toArray,Value.agg y.1.1.toArray]++cb).getD 1 undef=.agg y.1.1.toArray by simp [Y0d,Array.getElem?_append]];exact RawOk.agg y.2 (hl _)
     | i + 2, hi =>
       have e1:(#[Value.agg x.1.1.toArray,Value.agg y.1.1.toArray]++cb).getD (i+2) undef=cb.getD i undef:=by
        simp only [Y0d];rw [Array.getElem?_append_right (by simp)];simp
       rw [e1];exact (hcb i (by simpa using hi)).pure (ZN hcaps i)
    refine (ZaN ((hcmp x.1.2 y.1.2).2 F _ _ hW hR)).mono ?_;rintro en w' ⟨⟨v,r,F',rfl,rfl,hr,hbel,_⟩,hdr⟩;have hvi:=hr.val_inv;exact⟨by rw [hvi],ZgQ hbel (hdr v rfl)⟩
   have eg:∀ args w,(callFunc g args).run P w=.ok (.enter g args) w:=by
    obtain⟨⟨fn,hfn,hname,hbd⟩,_⟩:=hcmp xs[0] xs[0];intro args w;have h1 : ¬ fn.name = "runtime.NumGoroutine" := by simpa using hname
    have h2:¬ fn.body=none:=fun h=>by rw [h] at hbd; simp at hbd
    simp [callFunc,hfn,h1,h2]
   have hmx:=hbx.max;have hc:=AnyQ.slices_SortFunc L k aE zE (fun x:Raw F k enc=>x.1.1) encK enc1 (fun x y=>cf x.1.2 y.1.2) (Ziv (key:=fun x:Raw F k enc=>key x.1.2) fun a b=>hcf _ _) g cb ad.block ad.off loc'.cap d w eg hcmpL hH hblk (by rw [hdsz]; simp only [maxVec] at hmx;omega);rw [hbase,<- hlen,<- hdsz];rw [<- Z4E ad hspot] at hc;refine hc.mono ?_;rintro en w' ⟨rfl,d',m,os,⟨hps,-,hpp⟩,hso,rfl⟩;have hpp':d'.toList.Perm d.toList:=by
    have e1:d'.extract 0 d.size=d':=by rw [<- hps]; exact Array.extract_size
    have e2:d.extract 0 d.size=d:=Array.extract_size;rw [e1,e2] at hpp;exact hpp
   have hg':(Sort.ahead w m).heap[ad.block]?=some (.cells cells t (0,0)):=hg;obtain⟨cur',hcur⟩:∃ cur',cur'=putCells id ad.off (flatK (fun x:Raw F k enc=>x.1.1) k d') cells:=⟨_,rfl⟩
   have hw1:sortWorldK (fun x:Raw F k enc=>x.1.1) k w ad.block ad.off m d' os=grow ((Sort.ahead w m).setRow ad.block cur') os:=by
    unfold sortWorldK putRowK;rw [Z8l hg',hcur]
   have hget':∀ i j,i<xs.length->j<k->cur'.getD (ad.off+(i*k+j)) undef=(d'[i]!).1.1.getD j undef:=by
    intro i j hi hj;have hq:=hin i j hi hj;have hlt:ad.off+(i*k+j)<cells.size:=by omega
    have e1:(i*k+j) / k=i:=(blk_iff k i _ hk0).1 ⟨by omega,by omega⟩;have e2:(i*k+j) % k=j:=by rw [Nat.mod_eq_sub_div_mul,e1]; omega
    rw [hcur,putCells,Y0d,Array.getElem?_mapIdx,Array.getElem?_eq_getElem hlt];simp only [Option.map_some,Option.getD_some];rw [if_pos ⟨by omega,by rw [size_flatK,hps,hdsz]; omega⟩,show ad.off+(i*k+j)-ad.off=i*k+j by omega];show (flatK (fun x:Raw F k enc=>x.1.1) k d')[i*k+j]! = _;rw [get_flatK (fun x:Raw F k enc=>x.1.1) k d' (i*k+j) (by rw [hps,hdsz]; exact hq),e1,e2];have hj':j<(d'[i]!).1.1.length:=by rw [encK]; exact hj
    rw [getElem!_pos (d'[i]!).1.1 j hj',Y0b,Y0c hj',Option.getD_some]
   have hysl:(d'.toList.map fun p=>p.1.2).length=xs.length:=by simp [hps,hdsz]
   refine⟨_,.tup [],n,h.upd ob ⟨k,(d'.toList.map fun p=>p.1.2).map enc⟩,F,φ,rfl,⟨rfl,rfl,d'.toList.map fun p=>p.1.2,?_,?_,rfl⟩,.tup _ _ rfl (fun i hi=>absurd hi (Nat.not_lt_zero i)),?_⟩
   . have := hpp'.map fun p : Raw F k enc => p.1.2;rw [hdl] at this;exact this
   . rw [List.pairwise_iff_getElem];intro i j hi hj hij;have hi':i<d'.size:=by simpa using hi
     have hj':j<d'.size:=by simpa using hj
     have h5:=hso i j (Y0l _) hij (by omega);rw [getElem!_pos d' i hi',getElem!_pos d' j hj'] at h5;unfold ltOf at h5;have h6:=of_decide_eq_false h5;rw [hcf] at h6;simp only [List.getElem_map,Array.getElem_toList];omega
   . rw [hw1];have sA:St' C (fun i=>n<=i) e h F φ a (Sort.ahead w m):=s.turned (row:=none) (w':=Sort.ahead w m) ⟨rfl,rfl,rfl,Y0m _,fun _ _ _=>rfl⟩ (fun r hr=>by cases hr) (.inr fun r es t hr=>by cases hr) rfl (s.marks.mono fun _ h=>h);have s1:St' C (fun i=>n<=i) e (h.del ob) F φ a (Sort.ahead w m):=sA.sub (fun _ _ h=>h) (fun _ _ hh=>(Heap.del_some hh).2);have hbx':BxAt F φ ((Sort.ahead w m).setRow ad.block cur') loc' ⟨k,(d'.toList.map fun p=>p.1.2).map enc⟩:=by
      refine⟨hke,hz,by rw [<- hlen]; simp [hps,hdsz],hcap,hmx,fun c hc=>?_,fun _=>⟨ad,hbase,hspot,cur',t,setRow_heap _ _ _ _ _ _ hg',?_,fun i j hi hj=>?_⟩⟩
      . obtain ⟨y, _, rfl⟩ := Y0i.1 hc;rw [hl,hke]
      . have : cur'.size = cells.size := by rw [hcur]; simp [putCells]
        omega
      . rw [<- hke] at hj ⊢;have hi':i<xs.length:=by omega
        have hid:i<d'.size:=by omega
        rw [hget' i j hi' hj];obtain⟨r1,r2,r3⟩:=(d'[i]!).2;have hj':j<(d'[i]!).1.1.length:=by rw [r1]; exact hj
        have e3:((d'.toList.map fun p=>p.1.2).map enc).getD i []=enc (d'[i]!).1.2:=by
         rw [getElem!_pos d' i hid];simp [Y0b,hid]
        refine⟨?_,?_⟩
        . rw [Y0b, Y0c hj'];exact r2 _ (Y0j _)
        . show Rep F φ _ ((((d'.toList.map fun p => p.1.2).map enc).getD i []).getD j pvu);rw [e3];exact (r3 j hj).mono (fun _ _ h=>h) (fun i x hx=>by cases hx)
     have s2:=s1.adopt hg' (hhas _ hhb).1 hFn (s.del_no hh hl1 hhb) hl1 (fun _ _ h=>h) (fun _ _=>rfl) s.free (fun k' hk'=>by
      obtain⟨_,x,hx,rfl⟩:=hk';rw [hbase] at hx;cases hx
      rfl) hbx'
     have s3:=s2.turned (row:=none) (w':=grow ((Sort.ahead w m).setRow ad.block cur') os) ⟨rfl,rfl,rfl,by simp [grow],fun j hj _=>by unfold grow; exact Array.getElem?_append_left hj⟩ (fun r hr=>by cases hr) (.inr fun r es t hr=>by cases hr) rfl (s2.marks.mono fun j hj=>by
      unfold grow;rw [Array.getElem?_append_left (Array.getElem?_eq_some_iff.1 hj).1]
      exact hj)
     refine s3.sub (fun _ _ h=>h) fun i b hi=>?_;by_cases hid:i=ob
     . subst hid; rw [Heap.upd_same] at hi ⊢; exact hi
     . rw [Heap.upd_ne _ _ hid] at hi ⊢; rw [Heap.del_ne _ hid]; exact hi
end
end
section
open Go.RowKit
section
variable {P:Program} {C:Ctx} {Fr:Nat->Prop} {e:Env} {h:Heap} {F:Froz} {φ:Locs} {a:Act} {w:World}
def VSpec (P:Program) (f:FuncId) (b:Bx) (args:List PV) (R:PV->Bx->Prop):Prop :=
 ISpec P f 1 args (Heap.upd (fun _=>none) 0 b) fun _ r h'=>∃ b',h' 0=some b'/\r.inn (· = 0)/\pureLL b'.elems/\R r b'
theorem VSpec.run {f:FuncId} {b:Bx} {args:List PV} {R:PV->Bx->Prop} (hs:VSpec P f b args R) (hpb:pureLL b.elems) (hpr:innL (· = 0) args) (hb:h 0=some b) (s:St' C Fr e h F φ a w) {vs:Array Value} (hv:RepL F φ vs args) :
 Calls P f vs w fun en w'=>∃ v r b' F',en=.returned v/\(r.inn (· = 0)/\pureLL b'.elems/\R r b')/\Rep F' φ v r/\St' C Fr e (h.upd 0 b') F' φ a w':=by
 obtain⟨loc,hloc,hbx,hhas⟩:=s.live 0 b hb
 let φ1:Locs:=fun i=>if i=0 then some loc else none
 let C1:Ctx:=⟨w,fun k=>loc.has k,F,C.nt,φ1⟩
 have hG:∀ k,C1.G k->C.w0.heap.size<=k \/ C.G k:=fun k hk=>(hhas k hk).1;have hcells:∀ k,C1.G k->∀ o:Obj,w.heap[k]?=some o->¬ o=.deferred (some []):=by
  rintro k hk o ho rfl;rcases hbx.there hk with⟨cells,t,hg⟩|⟨es,t,hg⟩
  . rw [hg] at ho; cases ho
  . rw [hg] at ho; cases ho
 have h0:∀ {i:Nat} {b0:Bx},(Heap.upd (fun _=>none) 0 b) i=some b0->i=0/\b0=b:=by
  intro i b0 hi;by_cases hi0:i=0
  . subst hi0; rw [Heap.upd_same] at hi; exact⟨rfl,(Option.some.inj hi).symm⟩
  . rw [Heap.upd_ne _ _ hi0] at hi; cases hi
 have s1:St' C1 (fun i=>1<=i) (fun _=>none) (Heap.upd (fun _=>none) 0 b) F φ1 { a with defers := [] } w:=by
  refine { nt:=s.nt,glob:=s.glob,marks:=Marks.nil rfl,loc0:=fun i x hx=>hx,free:=fun i hi=>?_,env:=fun k p hp=>(by cases hp),froz:=s.froz,ext:=fun _ _ h=>h,old:=fun _ _ _=>rfl,os:=rfl,tape:=rfl,output:=rfl,size:=Y0m _,kept:=fun _ _ _=>rfl,live:=fun i b0 hi=>?_,sep:=fun i j bi bj li lj k hi hj _ _ _ _=>?_ }
  . simp only [φ1]; rw [if_neg (by omega)]
  . obtain ⟨rfl, rfl⟩ := h0 hi;exact⟨loc,by simp [φ1],hbx.names hpb,fun k hk=>⟨.inr hk,(hhas k hk).2⟩⟩
  . rw [(h0 hi).1,(h0 hj).1]
 have hv1:RepL F φ1 vs args:=by
  refine⟨hv.1,fun i hi=>(hv.2 i hi).inn (fun j x hj hx=>?_) (ZN hpr i)⟩;subst hj;rw [hloc] at hx;simp only [φ1,if_true];exact hx
 refine (hs.2 C1 _ F φ1 { a with defers := [] } w vs s1 hv1).mono ?_;rintro en w' ⟨v,r,n',h',F',φ',rfl,⟨b',hb',hr,hpb',hR⟩,hvr,s'⟩;have hφ0:φ' 0=some loc:=s'.loc0 0 loc (by simp [C1,φ1]);refine⟨v,r,b',F',rfl,⟨hr,hpb',hR⟩,hvr.inn (fun j x hj hx=>by subst hj; rw [hφ0] at hx; rw [hloc]; exact hx) hr,?_⟩
 refine { nt := s.nt, glob := s'.glob, marks := s.marks.mono (fun k hk => by rw [s'.kept k (Array.getElem?_eq_some_iff.1 hk).1 (fun hg => hcells k hg _ hk rfl)]; exact hk), loc0 := s.loc0, free := s.free, env := fun k p hp => ⟨(s.env k p hp).1, (s.env k p hp).2.mono s'.ext fun _ _ h => h⟩, froz := s'.froz, ext := fun x v hx => s'.ext _ _ (s.ext x v hx),
          old:=fun x hx hg=>?_,os:=s'.os.trans s.os,tape:=s'.tape.trans s.tape,output:=s'.output.trans s.output,size:=Y03 s.size s'.size,kept:=fun k hk hg=>?_,live:=fun i bi hi=>?_,sep:=fun i j bi bj li lj k hi hj hli hlj hki hkj=>?_ }
 . have hx2 : x.block < w.heap.size := Nat.lt_of_lt_of_le hx s.size;rw [s'.old x hx2 fun hg'=>(hG _ hg').elim (fun h1=>absurd hx (Nat.not_lt.2 h1)) hg];exact s.old x hx hg
 . rw [s'.kept k (Nat.lt_of_lt_of_le hk s.size) fun hg' => (hG _ hg').elim (fun h1 => absurd hk (Nat.not_lt.2 h1)) hg];exact s.kept k hk hg
 . by_cases hid : i = 0
   . subst hid;rw [Heap.upd_same] at hi;cases hi;obtain⟨loc',g1,g2,g3⟩:=s'.live 0 b' hb';obtain rfl:loc'=loc:=by rw [hφ0] at g1; simpa using g1.symm
     exact⟨loc',hloc,g2.names hpb',fun k hk=>⟨(hhas k hk).1,(g3 k hk).2⟩⟩
   . rw [Heap.upd_ne _ _ hid] at hi;obtain⟨li,g1,g2,g3⟩:=s.live i bi hi;have hout:∀ k,li.has k->¬ C1.G k:=fun k hk hg=>hid (s.sep i 0 bi b li loc k hi hb g1 hloc hk hg);have hblk:∀ k,li.has k->w'.heap[k]?=w.heap[k]?:=fun k hk=>s'.kept k (s.has_lt hi g1 hk) (hout k hk);refine⟨li,g1,g2.mono s'.ext (fun _ _ h=>h) hblk,fun k hk=>⟨(g3 k hk).1,fun x hx=>?_⟩⟩;rw [s'.old x (by rw [hx]; exact s.has_lt hi g1 hk) (by rw [hx]; exact hout k hk)];exact (g3 k hk).2 x hx
 . have conv : ∀ {i : Nat} {bi : Bx}, (h.upd 0 b') i = some bi -> ∃ b0, h i = some b0 := by
    intro i bi hi;by_cases hid:i=0
    . subst hid; exact⟨b,hb⟩
    . rw [Heap.upd_ne _ _ hid] at hi; exact⟨bi,hi⟩
   obtain⟨b1,h1⟩:=conv hi
   obtain⟨b2,h2⟩:=conv hj
   exact s.sep i j b1 b2 li lj k h1 h2 hli hlj hki hkj
theorem VSpec.ispec {f:FuncId} {b:Bx} {args:List PV} {R:PV->Bx->Prop} (hs:VSpec P f b args R) (hpb:pureLL b.elems) (hpr:innL (· = 0) args) {n:Nat} (hb:h 0=some b):ISpec P f n args h fun n' r h'=>n'=n/\∃ b',r.inn (· = 0)/\pureLL b'.elems/\R r b'/\h'=h.upd 0 b':=by
 refine⟨hs.1,fun C e F φ a w vs s hv=>(hs.run hpb hpr hb s hv).mono ?_⟩;rintro en w' ⟨v,r,b',F',rfl,⟨h1,h2,h3⟩,hr,s'⟩;exact⟨v,r,n,h.upd 0 b',F',φ,rfl,⟨rfl,b',h1,h2,h3,rfl⟩,hr,s'⟩
end
section
variable {P:Program} {C:Ctx} {Fr:Nat->Prop} {e:Env} {h:Heap} {F:Froz} {φ:Locs} {a:Act} {w:World}
theorem NSpec.ispec {f:FuncId} {args:List PV} {mk:Nat->PV} {b:Bx} (hs:NSpec P f args mk b) (hmk:Mk mk) (hpb:pureLL b.elems) (hpr:pureL args) {n:Nat}:ISpec P f n args h fun n' r h'=>n'=n+1/\r=mk n/\h'=h.upd n b:=by
 refine⟨hs.1,fun C e F φ a w vs s hv=>(hs.run hmk hpb hpr (Y0m n) s hv).mono ?_⟩;rintro en w' ⟨v,F',φ',rfl,hr,s'⟩;exact⟨v,mk n,n+1,h.upd n b,F',φ',rfl,⟨rfl,rfl,rfl⟩,hr,{ s' with free:=fun i hi=>s'.free i ⟨by omega,by omega⟩ }⟩
theorem Z26 {f nt:Nat} {ac:ACode} {rs:List ARes} (hf:FnOk P f nt ac rs) {args:List PV} {mk:Nat->PV} {b:Bx} (hn:args.length<=nt) (hk:∀ C:Ctx,C.dom 0->aw P C ac (retI rs fun _ r h'=>∃ id,r=mk id/\h' id=some b) 0 (argEnv args) (fun _=>none)):NSpec P f args mk b:=Z1K hf hn hk
theorem Z47 {f:Operand} {args:List Operand} {g:FuncId} {caps as0:List PV} {mk:Nat->PV} {b:Bx} {d:Option Nat} {os:List AOper} {n:Nat} {K:Nat->Env->Heap->Prop} (hs:NSpec P g (as0++caps) mk b) (hmk:Mk mk) (hpb:pureLL b.elems) (hf:ev e f=some (.fn g caps)) (ha:evs e args=some as0) (hp:pureL (as0++caps))
 (hk:opsK P os (n+1) (updO e d (mk n)) (h.upd n b) K):opsK P (⟨d,.call f args,none⟩ :: os) n e h K :=
 Z1D hf ha (hs.ispec hmk hpb hp) fun n' r h' hh=>by obtain⟨rfl,rfl,rfl⟩:=hh; exact hk
end
theorem NSpec.spec {P:Program} {f:FuncId} {args:List PV} {mk:Nat->PV} {b:Bx} (hs:NSpec P f args mk b) (hpb:pureLL b.elems) {q:PV} (hfr:∀ id,FrzP id b.elems (mk id) q) (hq:q.pure):Spec P f args (· = q):=by
 refine⟨hs.1,fun F w vs hF hv=>?_⟩
 let C1:Ctx:=⟨w,fun _=>False,F,1,noLoc⟩
 let a1:Act:={ tmps := #[undef],defers := [] }
 have s1:St' C1 (fun i=>0<=i) (fun _=>none) (fun _=>none) F noLoc a1 w :=
  { nt:=rfl,glob:=hF.2,marks:=Marks.nil rfl,loc0:=fun i x hx=>hx,free:=fun i hi=>rfl,env:=fun k p hp=>(by cases hp),froz:=hF.1,ext:=fun _ _ h=>h,old:=fun _ _ _=>rfl,os:=rfl,tape:=rfl,output:=rfl,size:=Y0m _,kept:=fun _ _ _=>rfl,live:=fun i b0 hi=>(by cases hi),sep:=fun i j bi bj li lj k hi hj _ _ _ _=>(by cases hi) }
 refine (hs.2 C1 _ F noLoc a1 w vs s1 hv).mono ?_;rintro en w' ⟨v,r,n',h',F',φ',rfl,⟨id,rfl,hb'⟩,hvr,s'⟩;have s2:=s'.put (d:=0) (show 0<1 by decide) hvr;obtain⟨F2,φ2,s3⟩:=Z6j (k:=0) (p:=mk id) (Env.upd_same _ _ _) hb' hpb (hfr id) _ _ ⟨F',φ',s2⟩;have hr:=(s3.env 0 q (Env.upd_same _ _ _)).2;exact⟨v,q,F2,rfl,rfl,Rep.pure (φ:=φ2) (φ':=noLoc) hr hq,⟨s3.os,s3.tape,s3.output,s3.size,fun k hk=>s3.kept k hk fun h=>h⟩,⟨s3.froz,s3.glob⟩,s3.ext,fun x hx=>s3.old x hx fun h=>h⟩
section
variable {P:Program} {e:Env} {h:Heap} {n:Nat} {K:Nat->Env->Heap->Prop} {os:List AOper} {d:Option Nat}
theorem Spec.ro {g:FuncId} {args:List PV} {i k:Nat} {b:Bx} {v:Value} (hs:Spec P g (args.set i (.vec b.elems false)) (· = .val v)) (hi:args[i]?=some (.own k)) (hb:h k=some b) (hpb:pureLL b.elems) (hpr:pureL (args.set i (.vec b.elems false))) :
 ISpec P g n args h fun n' r h'=>n'=n/\r=.val v/\h'=h:=by
 refine⟨hs.1,fun C e F φ a w vs s hv=>?_⟩
 let C1:Ctx:=⟨C.w0,C.G,C.F0,vs.size,C.φ0⟩
 let a1:Act:={ a with tmps:=vs }
 have s1:St' C1 (fun j=>n<=j) (argEnv args) h F φ a1 w:=by
  refine { nt:=rfl,glob:=s.glob,marks:=⟨s.marks.nd,s.marks.all⟩,loc0:=s.loc0,free:=s.free,env:=fun j p hp=>?_,froz:=s.froz,ext:=s.ext,old:=s.old,os:=s.os,tape:=s.tape,output:=s.output,size:=s.size,kept:=s.kept,live:=s.live,sep:=s.sep };have hj:j<args.length:=(List.getElem?_eq_some_iff.1 hp).1;refine⟨by show j<vs.size; rw [hv.1]; exact hj,?_⟩;have h1:=hv.2 j hj;have e2:args.getD j pvu=p:=by
   rw [Y0b];have hp':args[j]?=some p:=hp;rw [hp']; rfl
  rw [<- e2];exact h1
 obtain⟨F2,φ2,s2⟩:=Z6j (k:=i) (p:=.own k) (q:=.vec b.elems false) hi hb hpb .own a1 w ⟨F,φ,s1⟩;have hrep:RepL F2 noLoc vs (args.set i (.vec b.elems false)):=by
  refine⟨by rw [hv.1,List.length_set],fun j hj=>?_⟩;have hj':j<args.length:=by rwa [List.length_set] at hj
  have he:((argEnv args).upd i (.vec b.elems false)) j=some ((args.set i (.vec b.elems false)).getD j pvu):=by
   by_cases hji:j=i
   . subst hji;rw [Env.upd_same,Y0b,List.getElem?_set_self hj']
     rfl
   . rw [Env.upd_ne _ _ hji, Y0b, List.getElem?_set_ne (Ne.symm hji)];show args[j]?=_;rw [Y0c hj']
     rfl
  exact Rep.pure (φ:=φ2) (φ':=noLoc) (s2.env j _ he).2 (ZN hpr j)
 refine (hs.2 F2 w vs ⟨s2.froz,s2.glob⟩ hrep).mono ?_;rintro en w' ⟨v',r,F3,rfl,rfl,hr,hbel,-,-,-⟩;obtain rfl:v'=v:=hr.val_inv;exact⟨v',.val v',n,h,F,φ,rfl,⟨rfl,rfl,rfl⟩,.val _,s.called hbel (Holds.kept ⟨s.froz,s.glob⟩ hbel) (fun _ _ h=>h) fun _ _=>rfl⟩
theorem Ziw {f:Operand} {args:List Operand} {g:FuncId} {caps as0 args':List PV} {i k:Nat} {b:Bx} {v:Value} (hs:Spec P g args' (· = .val v)) (hf:ev e f=some (.fn g caps)) (ha:evs e args=some as0) (hi:(as0++caps)[i]?=some (.own k)) (hb:h k=some b) (hargs:(as0++caps).set i (.vec b.elems false)=args') (hpb:pureLL b.elems) (hpr:pureL args')
 (hk:opsK P os n (updO e d (.val v)) h K):opsK P (⟨d,.call f args,none⟩ :: os) n e h K:=by
 subst hargs;exact Z1D hf ha (hs.ro hi hb hpb hpr) fun n' r h' hh=>by obtain⟨rfl,rfl,rfl⟩:=hh; exact hk
theorem Z5o {neg:Bool} {x:Operand} (hx:(∃ l fl,ev e x=some (.vec l fl)) \/ ∃ k,ev e x=some (.own k)) (hz:h n=none) (hk:∀ b,opsK P os n (updO e d (.val (.bool b))) h K):opsK P (⟨d,.isnil neg x,none⟩ :: os) n e h K:=by
 unfold opsK;exact⟨n,e,h,Z4K,.inl (ZeE hx fun b=>by rw [Z5W hz]; exact hk b)⟩
theorem ZaO {C:Ctx} {k id lo len:Nat} {b:Bx} (hk:e k=some (.view id lo len)) (hb:h id=some b) (hin:lo+len<=b.elems.length) (hp:pureLL b.elems):Sub C n e h n (e.upd k (.vec ((b.elems.drop lo).take len) false)) (h.del id):=by
 rintro a w ⟨F,φ,s⟩;obtain⟨hlt,hr⟩:=s.env k _ hk;obtain⟨loc,base,hl,hz,hcapv,hbs,hv⟩:=hr.view_inv;obtain⟨loc',h1,h2,h3⟩:=s.live id b hb;obtain rfl:loc'=loc:=by rw [h1] at hl; simpa using hl
 have h2:=h2.cells hz;have s1:St' C (fun i=>n<=i) e (h.del id) F φ a w:=s.sub (fun _ _ h=>h) (fun _ _ hh=>(Heap.del_some hh).2);have hput:∀ {F':Froz},St' C (fun i=>n<=i) e (h.del id) F' φ a w->Rep F' φ (a.tmps.getD k undef) (.vec ((b.elems.drop lo).take len) false)->St C (fun i=>n<=i) (e.upd k (.vec ((b.elems.drop lo).take len) false)) (h.del id) a w:=fun {F'} s2 hrep=>by
  refine⟨F',φ,{ s2 with env:=fun j p hj=>?_ }⟩;by_cases hjk:j=k
  . subst hjk; rw [Env.upd_same] at hj; cases hj; exact⟨hlt,hrep⟩
  . rw [Env.upd_ne _ _ hjk] at hj; exact s2.env j p hj
 have hll:((b.elems.drop lo).take len).length=len:=by rw [Y0o,List.length_drop]; omega
 have hget:∀ i,i<len->((b.elems.drop lo).take len).getD i []=b.elems.getD (lo+i) []:=fun i hi=>by
  simp only [Y0b,List.getElem?_take,List.getElem?_drop,if_pos hi]
 by_cases hlo:lo<loc'.cap
 . have hc0 : loc'.cap ≠ 0 := by omega
   obtain⟨ad,hbase,hs,cells,ct,hg,hroom,hrep⟩:=h2.room hc0;have hhas:loc'.has ad.block:=⟨hc0,ad,hbase,rfl⟩
   have s2:=s1.frz hg (h3 _ hhas).2 (s.del_no hb h1 hhas) (h3 _ hhas).1;have hx:=Z1g (h3 _ hhas).2 cells;refine hput s2 ?_;have hbv:base=some ⟨ad.block,ad.off+lo*loc'.esz,none⟩:=by
    rw [hbs hlo,hbase];show some (ad.add _)=_;rw [ZO _ _ hs]
   rw [hv,hbv]
   conv=>lhs; rw [<- hll]
   have hlt2:∀ i j,i<b.elems.length->j<loc'.esz->ad.off+(i*loc'.esz+j)<cells.size:=fun i j hi hj=>by
    have:=Z1C (n:=loc'.cap) (i:=i) (j:=j) (esz:=loc'.esz) (by have:=h2.cap; have:=h2.len;omega) hj;omega
   have hmul:∀ i j,ad.off+lo*loc'.esz+(i*loc'.esz+j)=ad.off+((lo+i)*loc'.esz+j):=fun i j=>by rw [Nat.add_mul]; omega
   refine .vec ⟨ad.block,ad.off+lo*loc'.esz,none⟩ (loc'.cap-lo) loc'.esz ((b.elems.drop lo).take len) false (fun i j=>cells.getD (ad.off+((lo+i)*loc'.esz+j)) undef) (fun _=>rfl) (by rw [hll];omega) (by simp) (by rw [hll]; have:=h2.max; have:=h2.len;omega) (fun i hi=>?_) (fun i j hi hj=>?_) (fun i j hi hj=>?_)
   . rw [hll] at hi;rw [hget i hi];exact h2.el _ (by rw [Y0b,Y0c (by omega)]; exact Y0j _)
   . rw [hll] at hi;show frozNew _ _ _ ⟨ad.block,ad.off+lo*loc'.esz+(i*loc'.esz+j),none⟩=_;rw [hmul];exact Z1o F _ _ (hlt2 (lo+i) j (by omega) hj) (hrep (lo+i) j (by rw [<- h2.len];omega) hj).1
   . rw [hll] at hi;rw [hget i hi];exact (hrep (lo+i) j (by rw [<- h2.len];omega) hj).2.mono hx fun _ _ h=>h
 . have hl0 : len = 0 := by omega
   subst hl0;refine hput s1 ?_;rw [hv,List.take_zero,show loc'.cap-lo=0 by omega];cases base with
   | none=>exact .vecnil false
   | some x=>exact .vec (F:=F) (φ:=φ) x 0 0 [] false (fun _ _=>undef) (fun h=>absurd rfl h) (Y0m _) (by simp) (by simp) (by simp) (by simp) (by simp)
theorem Z9m {k id lo len:Nat} {b:Bx} (hk:e k=some (.view id lo len)) (hb:h id=some b) (hin:lo+len<=b.elems.length) (hp:pureLL b.elems):SubA n e h n (e.upd k (.vec ((b.elems.drop lo).take len) false)) (h.del id):=fun _=>ZaO hk hb hin hp
end
section
variable {P:Program} {C:Ctx} {e:Env} {h:Heap} {n:Nat}
theorem Z2a {ob id i0 j0:Nat} {bo b:Bx} (hob:h ob=some bo) (hb:h id=some b) (hne:ob≠id) (hp:pureLL b.elems) (hi0:i0<bo.elems.length) (hj0:j0<(bo.elems.getD i0 []).length) (hcell:(bo.elems.getD i0 []).getD j0 pvu=.own id) (hz:0<bo.esz:=by exact Nat.le_of_ble_eq_true rfl) :
 Sub C n e h n e ((h.del id).upd ob ⟨bo.esz,bo.elems.set i0 ((bo.elems.getD i0 []).set j0 (.vec b.elems false))⟩):=by
 rintro a w ⟨F,φ,s⟩;obtain⟨lo,o1,o2,o3⟩:=s.live ob bo hob;have o2:=o2.cellsB hz;have hcl:(bo.elems.getD i0 []).length=lo.esz:=o2.el _ (by simp [Y0b,hi0]);have hc0o:lo.cap≠0:=by have:=o2.cap; have:=o2.len; omega
 obtain⟨ado,hbaseo,hso,cellso,cto,hgo,hroomo,hrepo⟩:=o2.room hc0o;have hr0:=(hrepo i0 j0 (by rw [<- o2.len]; exact hi0) (by rw [<- hcl]; exact hj0)).2;rw [hcell] at hr0;obtain⟨loc,hl,hzl,hv⟩:=hr0.own_inv;obtain⟨loc',h1,h2,h3⟩:=s.live id b hb;obtain rfl:loc'=loc:=by rw [h1] at hl; simpa using hl
 have h2:=h2.cells hzl;have s1:St' C (fun i=>n<=i) e (h.del id) F φ a w:=s.sub (fun _ _ h=>h) (fun _ _ hh=>(Heap.del_some hh).2);have hdel:(h.del id) ob=some bo:=by rw [Heap.del_ne _ hne]; exact hob
 have fin:∀ {F':Froz},(∀ x v,F x=some v->F' x=some v)->St' C (fun i=>n<=i) e (h.del id) F' φ a w->Rep F' φ (cellso.getD (ado.off+(i0*lo.esz+j0)) undef) (.vec b.elems false) ->
  St C (fun i=>n<=i) e ((h.del id).upd ob ⟨bo.esz,bo.elems.set i0 ((bo.elems.getD i0 []).set j0 (.vec b.elems false))⟩) a w:=by
  intro F' hx s2 hrep;refine⟨F',φ,{ s2 with live:=fun i bi hi=>?_,sep:=fun i j bi bj li lj k hi hj hli hlj hki hkj=>?_ }⟩
  . by_cases hio : i = ob
    . subst hio;rw [Heap.upd_same] at hi;cases hi;obtain⟨l2,g1,g2,g3⟩:=s2.live i bo hdel;obtain rfl:l2=lo:=by rw [g1] at o1; simpa using o1
      refine⟨l2,g1,.inl ⟨o2.esz,o2.pos,by simpa using o2.len,o2.cap,o2.max,fun c hc=>?_,fun _=>⟨ado,hbaseo,hso,cellso,cto,hgo,hroomo,fun i' j' hi' hj'=>?_⟩⟩,g3⟩
      . rcases List.mem_or_eq_of_mem_set hc with h | h
        . exact o2.el c h
        . rw [h,List.length_set]; exact hcl
      . refine ⟨(hrepo i' j' hi' hj').1, ?_⟩;by_cases hii:i'=i0
        . subst hii;have e1:(bo.elems.set i' ((bo.elems.getD i' []).set j0 (.vec b.elems false))).getD i' []=(bo.elems.getD i' []).set j0 (.vec b.elems false):=by
           rw [Y0b,List.getElem?_set]; simp [hi0]
          rw [e1];by_cases hjj:j'=j0
          . subst hjj;have e2:((bo.elems.getD i' []).set j' (.vec b.elems false)).getD j' pvu=.vec b.elems false:=by
             rw [Y0b,List.getElem?_set,if_pos rfl,if_pos hj0]; rfl
            rw [e2];exact hrep
          . have e2 : ((bo.elems.getD i' []).set j0 (.vec b.elems false)).getD j' pvu = (bo.elems.getD i' []).getD j' pvu := by
             rw [Y0b,List.getElem?_set,if_neg (Ne.symm hjj),<- Y0b]
            rw [e2];exact (hrepo i' j' hi' hj').2.mono hx fun _ _ h=>h
        . have e1 : (bo.elems.set i0 ((bo.elems.getD i0 []).set j0 (.vec b.elems false))).getD i' [] = bo.elems.getD i' [] := by
           rw [Y0b,List.getElem?_set,if_neg (Ne.symm hii),<- Y0b]
          rw [e1];exact (hrepo i' j' hi' hj').2.mono hx fun _ _ h=>h
    . rw [Heap.upd_ne _ _ hio] at hi;exact s2.live i bi hi
  . have conv : ∀ {i : Nat} {bi : Bx}, ((h.del id).upd ob ⟨bo.esz, bo.elems.set i0 ((bo.elems.getD i0 []).set j0 (.vec b.elems false))⟩) i = some bi -> ∃ b0, (h.del id) i = some b0 := by
     intro i bi hi;by_cases hio:i=ob
     . subst hio; exact⟨bo,hdel⟩
     . rw [Heap.upd_ne _ _ hio] at hi; exact⟨bi,hi⟩
    obtain⟨b1,g1⟩:=conv hi
    obtain⟨b2,g2⟩:=conv hj
    exact s2.sep i j b1 b2 li lj k g1 g2 hli hlj hki hkj
 by_cases hc0:loc'.cap=0
 . have hl0 : loc'.len = 0 := by have := h2.cap; omega
   have he0:b.elems = []:=List.eq_nil_of_length_eq_zero (by rw [h2.len,hl0]);refine fin (fun _ _ h=>h) s1 ?_;rw [hv,he0,hl0,hc0];cases hbs:loc'.base with
   | none=>exact .vecnil false
   | some x=>exact .vec (F:=F) (φ:=φ) x 0 0 [] false (fun _ _=>undef) (fun h=>absurd rfl h) (Y0m _) (by simp) (by simp) (by simp) (by simp) (by simp)
 . obtain ⟨ad, hbase, hs, cells, ct, hg, hroom, hrep⟩ := h2.room hc0;have hhas:loc'.has ad.block:=⟨hc0,ad,hbase,rfl⟩
   have s2:=s1.frz hg (h3 _ hhas).2 (s.del_no hb h1 hhas) (h3 _ hhas).1;have hx:=Z1g (h3 _ hhas).2 cells;refine fin hx s2 ?_;rw [hv,hbase,<- h2.len];have hlt2:∀ i j,i<b.elems.length->j<loc'.esz->ad.off+(i*loc'.esz+j)<cells.size:=fun i j hi hj=>by
    have:=Z1C (n:=loc'.cap) (i:=i) (j:=j) (esz:=loc'.esz) (by have:=h2.cap; have:=h2.len;omega) hj;omega
   refine .vec ad loc'.cap loc'.esz b.elems false (fun i j=>cells.getD (ad.off+(i*loc'.esz+j)) undef) (fun _=>hs) (by rw [h2.len]; exact h2.cap) (by simp) (by rw [h2.len]; exact h2.max) (fun i hi=>h2.el _ (by simp [Y0b,hi])) (fun i j hi hj=>?_) (fun i j hi hj=>?_)
   . exact Z1o F _ _ (hlt2 i j hi hj) (hrep i j (by rw [<- h2.len]; exact hi) hj).1
   . exact (hrep i j (by rw [<- h2.len]; exact hi) hj).2.mono hx fun _ _ h=>h
theorem ZA {ob id i0 j0:Nat} {bo b:Bx} (hob:h ob=some bo) (hb:h id=some b) (hne:ob≠id) (hp:pureLL b.elems) (hi0:i0<bo.elems.length) (hj0:j0<(bo.elems.getD i0 []).length) (hcell:(bo.elems.getD i0 []).getD j0 pvu=.own id) (hz:0<bo.esz:=by exact Nat.le_of_ble_eq_true rfl) :
 SubA n e h n e ((h.del id).upd ob ⟨bo.esz,bo.elems.set i0 ((bo.elems.getD i0 []).set j0 (.vec b.elems false))⟩):=fun _=>Z2a hob hb hne hp hi0 hj0 hcell hz
end
end
section
open Go.RowKit
attribute [local irreducible] aw opsK dK
theorem Z9n {α:Type} {p:α->Bool}:∀ {xs:List α},(∃ x∈xs,p x=true)->∃ (i:Nat) (hi:i<xs.length),idxI p xs=(i:Int)/\p xs[i]=true
 | [],h=>by obtain⟨_,h,_⟩:=h; cases h
 | x :: xs, h => by
   by_cases hx:p x=true
   . exact⟨0,Nat.zero_lt_succ _,by simp [idxI,hx],hx⟩
   . obtain ⟨y, hy, hp⟩ := h;obtain⟨i,hi,h1,h2⟩:=Z9n (p:=p) (xs:=xs) ⟨y,(List.mem_cons.1 hy).resolve_left fun e=>hx (e▸hp),hp⟩;refine⟨i+1,by rw [Y04]; omega,?_,h2⟩;have hn:¬ ((i:Int)<0):=by omega
     simp [idxI,hx,h1,hn]
theorem Zdy (xs:List Int) (v:Int) (fl:Bool):Spec Tryz.prog 148 [.vec (nums xs) fl,.val (.int .i64 v)] (· = .val (.int .i64 (idxI (fun x=>v == x) xs))):=by
 have hnl:=ZaC xs;refine Yp ok148 fun C hC=>?_;refine Z2Z (k:=0) rfl fun hmax=>?_;have hlm:xs.length<=maxVec:=by rw [<- hnl]; exact hmax
 refine go ?_;refine Z3c (fun i=>i<=xs.length/\(xs.take i).any (fun x=>v == x)=false) (fun i=>xs.length-i) (fun i => [(0,.vec (nums xs) fl),(1,.val (.int .i64 v)),(7,.val (.int .i64 (xs.length:Int))),(8,Yv i)]) 0 ⟨Y0l _,rfl⟩ ⟨rfl,rfl,by rw [<- hnl]; rfl,rfl,Yt⟩ ?_;rintro i ⟨hi,hno⟩;have hinc:IntKind.i64.wrap ((i:Int)+1)=((i+1:Nat):Int):=Y0v _ ⟨by omega,by simp only [maxVec] at hlm; omega⟩
 iterate 2 (first|refine st ?_|(apply B<;>intro hb<;>try cases hb))
 refine Zq rfl rfl rfl (fun hb=>?_) (fun hb=>?_)
 . have hil : i < xs.length := by have := Y0u hb; omega
   clear hb;refine go ?_;refine Qo (Zm (xs:=xs) (g:=fun x => [.val (.int .i64 x)]) rfl rfl i rfl hil rfl) ?_
   iterate 1 (first|refine st ?_|(apply B<;>intro hb<;>try cases hb))
   refine Zq rfl rfl rfl (fun hx=>?_) (fun hx=>?_)
   . refine go ?_;exact Z7 rfl Yt (by rw [Z4y hil hno hx])
   . refine go ?_;exact⟨i+1,⟨by omega,Z3i hil hno hx⟩,by omega,rfl,rfl,⟨rfl,rfl,rfl,by show some _=some _; rw [hinc],Yt⟩⟩
 . have hil : i = xs.length := by have := of_decide_eq_false hb; omega
   subst hil;rw [Y0q] at hno;refine go ?_;exact Z7 rfl Yt (by rw [Z2e hno]; rfl)
theorem ZgR (f:Nat->Int):tab (intR f)=nums ((List.range 64).map f):=by rw [tab,nums,List.map_map]; rfl
theorem Z8m {f:Nat->Int} {i:Nat} (v:Int) (hi:i<64):(tab (intR f)).set i (setAt ((tab (intR f)).getD i []) 0 [.val (.int .i64 v)])=tab (intR fun j=>if j=i then v else f j):=by
 rw [Z2T hi,show setAt (intR f i) 0 [.val (.int .i64 v)] = [.val (.int .i64 v)] from rfl,ZeZ _ hi];refine Z3G fun j _=>?_;show (if j=i then [PV.val (.int .i64 v)] else intR f j) = [PV.val (.int .i64 (if j=i then v else f j))];by_cases hj:j=i
 . rw [if_pos hj,if_pos hj]
 . rw [if_neg hj,if_neg hj]; rfl
theorem Z6u {f g:Nat->Int} (h:∀ j,j<64->f j=g j):tab (intR f)=tab (intR g):=Z3G fun j hj=>by show [PV.val (.int .i64 (f j))] = [PV.val (.int .i64 (g j))]; rw [h j hj]
def ordB (l:List Pr) (fp:Bool) (a b s:PV):Bx:=⟨5,[[.val (.int .i64 64),.vec (l.map prC) fp,a,b,s]]⟩
theorem Zl (l:List Pr):pureLL (l.map prC):=Z9 Z45 l
theorem Zdz (l:List Pr) (fp:Bool) (hl:Small l) (hacy:Acy l) (hlen:l.length<=1000000) :
 PSpec Tryz.prog 107 (ordB l fp (.vec [] true) (.vec [] true) (.vec [] true)) [] fun r b'=>r=.val (.bool true)/\∃ S,Topo l S/\S.length=64/\b'=ordB l fp (.vec [] true) (.vec [] true) (.vec (nums (intsN S)) false):=by
 have hpl:∀ D,innLL D (l.map prC):=fun D=>Zb (fun _ h=>h.elim) _ (Zl l);have hnl:(l.map prC).length=l.length:=by simp
 have hti:∀ (f:Nat->Int) D,innLL D (tab (intR f)):=fun f D=>Zb (fun _ h=>h.elim) _ (Z1y (Z4V f));refine Z1M ok107 (Nat.le_of_ble_eq_true rfl) fun C hC=>?_
 iterate 2 (first|refine st ?_|(apply B<;>intro hb<;>try cases hb))
 refine Zf (ZU (id:=0) (i0:=0) (j0:=4) rfl (Nat.le_of_ble_eq_true rfl) (Nat.le_of_ble_eq_true rfl) rfl 1 (by decide) (by decide)) ?_;refine go ?_;refine Zn hC (fun i=>i<=l.length) (fun i=>l.length-i) 3 (fun i => [(0,.ptr 0 0 0),(3,.own 2),(17,.vec (l.map prC) fp),(18,.val (.int .i64 l.length)),(19,Yv i)])
  (fun i => [(0,ordB l fp (.vec [] true) (.vec [] true) (.own 1)),(1,⟨1,[]⟩),(2,⟨1,tab (intR fun j=>(cntP (l.take i) j:Nat))⟩)]) (by omega) 0 (Y0l _)
  ⟨⟨rfl,show (0:Nat)<3 by decide⟩,⟨rfl,show (2:Nat)<3 by decide⟩,⟨rfl,hpl _⟩,⟨by rw [<- hnl]; rfl,Yt⟩,⟨rfl,Yt⟩,Yt⟩
  ⟨⟨by decide,rfl,⟨⟨Yt,hpl _,Yt,Yt,show (1:Nat)<3 by decide,Yt⟩,Yt⟩⟩,⟨by decide,rfl,Yt⟩,⟨by decide,by show some (Bx.mk 1 (List.replicate 64 (zpv [Value.int .i64 0])))=_; rw [Zit]; rfl,hti _ _⟩,Yt⟩ ?_
 intro i hi;have hinc:IntKind.i64.wrap ((i:Int)+1)=((i+1:Nat):Int):=Y0v _ ⟨by omega,by omega⟩
 iterate 2 (first|refine st ?_|(apply B<;>intro hb<;>try cases hb))
 refine Zq rfl rfl rfl (fun hb=>?_) (fun hb=>?_)
 . have hil : i < l.length := by have := Y0u hb; omega
   have hp:=hl _ (Y0j hil);have hst:=fun j=>ZeY hil j;have hcl:=Zis (l.take i) l[i].2;rw [Y0o] at hcl;clear hb;refine go ?_;refine Qo (Zm (xs:=l) (g:=prC) rfl rfl i rfl hil rfl) ?_;generalize l[i]=p at hp hst hcl ⊢;refine go ?_;refine Qo (ZE rfl rfl rfl p.2 rfl (by rw [ZW]; exact hp.2) rfl) ?_;refine Qo (Z1S (i:=p.2) rfl rfl (by rw [ZW]; exact hp.2) (by rw [Z2T hp.2]; rfl)) ?_;refine go ?_;refine Qo (ZE rfl rfl rfl p.2 rfl (by rw [ZW]; exact hp.2) rfl) ?_;refine Qo (Z1L (i:=p.2) rfl rfl rfl rfl rfl (by rw [ZW]; exact hp.2) (Y0m _)) ?_;refine go ?_;have hadd:IntKind.i64.wrap (((cntP (l.take i) p.2:Nat):Int)+1)=((cntP (l.take i) p.2+1:Nat):Int):=Y0v _ ⟨by omega,by omega⟩
   refine⟨i+1,by omega,by omega,⟨⟨rfl,show (0:Nat)<3 by decide⟩,⟨rfl,show (2:Nat)<3 by decide⟩,⟨rfl,hpl _⟩,⟨rfl,Yt⟩,⟨by show some _=some _; rw [hinc],Yt⟩,Yt⟩,
    ⟨⟨by decide,rfl,⟨⟨Yt,hpl _,Yt,Yt,show (1:Nat)<3 by decide,Yt⟩,Yt⟩⟩,⟨by decide,rfl,Yt⟩,⟨by decide,?_,hti _ _⟩,Yt⟩⟩
   show some (Bx.mk 1 ((tab (intR fun j=>(cntP (l.take i) j:Nat))).set p.2 (setAt ((tab (intR fun j=>(cntP (l.take i) j:Nat))).getD p.2 []) 0 [.val (.int .i64 (IntKind.i64.wrap (((cntP (l.take i) p.2:Nat):Int)+1)))])))=some _;rw [Z8m _ hp.2,hadd];refine congrArg (fun t=>some (Bx.mk 1 t)) (Z6u fun j _=>?_);show (if j=p.2 then ((cntP (l.take i) p.2+1:Nat):Int) else ((cntP (l.take i) j:Nat):Int))=((cntP (l.take (i+1)) j:Nat):Int)
   rw [hst j];by_cases hj:j=p.2
   . rw [if_pos hj,if_pos hj,hj]
   . rw [if_neg hj,if_neg hj]
 . have hil : i = l.length := by have := of_decide_eq_false hb; omega
   subst hil;rw [Y0q];clear hb;refine go ?_;refine ZF hC (fun S:List Nat=>Topo l S) (fun S=>64-S.length) 3 (fun S => [(0,.ptr 0 0 0),(3,.own 2)])
    (fun S => [(0,ordB l fp (.vec [] true) (.vec [] true) (.own 1)),(1,⟨1,nums (intsN S)⟩),(2,⟨1,tab (intR (leftA l S))⟩)]) (by decide) [] (Topo.nil l) (fun i=>i) (fun _ _=>rfl) Zt
    ⟨Qt 0 0 0,Qw 2,Yt⟩
    ⟨⟨by decide, _, rfl, RenB.single ⟨.pure _ Yt, .pure _ (Zl l), .pure _ Yt, .pure _ Yt, .own (ρ := fun i => i) 1 (by decide), Yt⟩ rfl⟩, Qs Yt,
      ⟨by decide,_,rfl,by rw [show leftA l []=fun j=>((cntP l j:Nat):Int) from funext (ZgP l)]; exact .same _ (Z1y (Z4V _))⟩,Yt⟩ ?_
   intro S hT;have hSl:=hT.len;have hSn:(nums (intsN S)).length=S.length:=by simp [nums,intsN]
   have hap:∀ (l:List Nat) D,innLL D (nums (intsN l)):=fun l D=>Z4P _ D;refine gd 40 ⟨?_⟩;refine Z8c rfl rfl rfl (fun hb=>?_) (fun hb=>?_)
   . have hlt : S.length < 64 := by
      have h2:=Y0u hb;rw [hSn] at h2;omega
     clear hb;refine go ?_;obtain⟨j0,hj0,hjn,hjp⟩:=kahn hl hacy hT hlt;obtain⟨k,hk,hidx,hpk⟩:=Z9n (p:=fun x=>(0:Int) == x) (xs:=(List.range 64).map (leftA l S)) ⟨leftA l S j0,Y0i.2 ⟨j0,List.mem_range.2 hj0,rfl⟩,by rw [Z7u.2 ⟨hjn,hjp⟩]; rfl⟩;have hk64:k<64:=by simpa using hk
     have hz:leftA l S k=0:=by
      have:=eq_of_beq hpk;rw [List.getElem_map,List.getElem_range] at this;exact this.symm
     obtain⟨hkS,hkp⟩:=Z7u.1 hz;refine Ziw (i:=0) (k:=2) (Zdy ((List.range 64).map (leftA l S)) 0 false) rfl rfl rfl rfl (by show [PV.vec (tab (intR (leftA l S))) false,PV.val (.int .i64 0)]=_; rw [ZgR]) (Z1y (Z4V _)) ⟨ZH _,Yt,Yt⟩ ?_;rw [hidx];have hT':=hT.snoc hkS hk64 hkp;refine go ?_
     . refine Qo (ZE rfl rfl rfl k rfl (by rw [ZW]; exact hk64) rfl) ?_;refine Qo (Z1L (i:=k) rfl rfl rfl rfl rfl (by rw [ZW]; exact hk64) (Y0m _)) ?_;have e0:(tab (intR (leftA l S))).set k (setAt ((tab (intR (leftA l S))).getD k []) 0 [.val (.int .i64 (-1))])=tab (intR (leftB l S k 0)):=by
        rw [Z8m _ hk64];exact Z6u fun j _=>(Zdr l S k j).symm
       refine go ?_
       refine ZD (Zx (k:=1) (m := [[.val (.int .i64 (k:Int))]]) (fl:=true) (b:=⟨1,nums (intsN S)⟩) rfl rfl rfl (fun r hr=>by rw [Y0g] at hr; subst hr; rfl) rfl (by
        show ((nums (intsN S)).length+1)*8<=_
        rw [hSn];omega)) rfl rfl ?_
       refine go ?_;have hSk:nums (intsN S) ++ [[PV.val (.int .i64 (k:Int))]]=nums (intsN (S ++ [k])):=by simp [nums,intsN]
       refine Zn hC (fun i=>i<=l.length) (fun i=>l.length-i) 14 (fun i => [(0,.ptr 0 0 0),(3,.own 2),(6,.val (.int .i64 (k:Int))),(61,.vec (l.map prC) fp),(62,.val (.int .i64 l.length)),(63,Yv i)])
        (fun i => [(0,ordB l fp (.vec [] true) (.vec [] true) (.own 13)),(13,⟨1,nums (intsN (S ++ [k]))⟩),(2,⟨1,tab (intR (leftB l S k i))⟩)]) (by decide) 0 (Y0l _)
        ⟨⟨rfl,show (0:Nat)<14 by decide⟩,⟨rfl,show (2:Nat)<14 by decide⟩,⟨rfl,Yt⟩,⟨rfl,hpl _⟩,⟨by rw [<- hnl]; rfl,Yt⟩,⟨rfl,Yt⟩,Yt⟩
        ⟨⟨by decide,rfl,⟨⟨Yt,hpl _,Yt,Yt,show (13:Nat)<14 by decide,Yt⟩,Yt⟩⟩,⟨by decide,by rw [<- hSk]; rfl,hap _ _⟩,⟨by decide,by rw [<- e0]; rfl,hti _ _⟩,Yt⟩ ?_
       intro i hi;have hinc:IntKind.i64.wrap ((i:Int)+1)=((i+1:Nat):Int):=Y0v _ ⟨by omega,by omega⟩
       iterate 2 (first|refine st ?_|(apply B<;>intro hb<;>try cases hb))
       refine Zq rfl rfl rfl (fun hb=>?_) (fun hb=>?_)
       . have hil : i < l.length := by have := Y0u hb; omega
         have hp:=hl _ (Y0j hil);have hst:=fun j=>Zds hil j hT hkS hkp;clear hb;refine go ?_;refine Qo (Zm (xs:=l) (g:=prC) rfl rfl i rfl hil rfl) ?_;generalize l[i]=p at hp hst ⊢;have hbl:=ZgO l S k i p.2;(refine go ?_;repeat' (apply B<;>intro hb<;>try cases hb))
         . have hpk1 : p.1 = k := by have := eq_of_beq hb; exact Int.ofNat_inj.1 this
           clear hb;refine Qo (ZE rfl rfl rfl p.2 rfl (by rw [ZW]; exact hp.2) rfl) ?_;refine Qo (Z1S (i:=p.2) rfl rfl (by rw [ZW]; exact hp.2) (by rw [Z2T hp.2]; rfl)) ?_;refine go ?_;refine Qo (ZE rfl rfl rfl p.2 rfl (by rw [ZW]; exact hp.2) rfl) ?_;refine Qo (Z1L (i:=p.2) rfl rfl rfl rfl rfl (by rw [ZW]; exact hp.2) (Y0m _)) ?_;(refine go ?_;repeat' (apply B<;>intro hb<;>try cases hb));have hsub:IntKind.i64.wrap (leftB l S k i p.2-1)=leftB l S k i p.2-1:=Y0v _ ⟨by omega,by omega⟩
           refine⟨i+1,by omega,by omega,⟨⟨rfl,show (0:Nat)<14 by decide⟩,⟨rfl,show (2:Nat)<14 by decide⟩,⟨rfl,Yt⟩,⟨rfl,hpl _⟩,⟨rfl,Yt⟩,⟨by show some _=some _; rw [hinc],Yt⟩,Yt⟩,
            ⟨⟨by decide,rfl,⟨⟨Yt,hpl _,Yt,Yt,show (13:Nat)<14 by decide,Yt⟩,Yt⟩⟩,⟨by decide,rfl,hap _ _⟩,⟨by decide,?_,hti _ _⟩,Yt⟩⟩
           show some (Bx.mk 1 ((tab (intR (leftB l S k i))).set p.2 (setAt ((tab (intR (leftB l S k i))).getD p.2 []) 0 [.val (.int .i64 (IntKind.i64.wrap (leftB l S k i p.2-1)))])))=some _;rw [Z8m _ hp.2,hsub];refine congrArg (fun t=>some (Bx.mk 1 t)) (Z6u fun j _=>?_);show (if j=p.2 then leftB l S k i p.2-1 else leftB l S k i j)=leftB l S k (i+1) j;rw [hst j];by_cases hj:j=p.2
           . rw [if_pos hj,if_pos ⟨hpk1,hj⟩,hj]
           . rw [if_neg hj,if_neg fun h=>hj h.2]
         . have hpk1 : ¬ p.1 = k := fun h => by rw [h] at hb; simp at hb
           clear hb
           refine⟨i+1,by omega,by omega,⟨⟨rfl,show (0:Nat)<14 by decide⟩,⟨rfl,show (2:Nat)<14 by decide⟩,⟨rfl,Yt⟩,⟨rfl,hpl _⟩,⟨rfl,Yt⟩,⟨by show some _=some _; rw [hinc],Yt⟩,Yt⟩,
            ⟨⟨by decide,rfl,⟨⟨Yt,hpl _,Yt,Yt,show (13:Nat)<14 by decide,Yt⟩,Yt⟩⟩,⟨by decide,rfl,hap _ _⟩,⟨by decide,?_,hti _ _⟩,Yt⟩⟩
           show some (Bx.mk 1 (tab (intR (leftB l S k i))))=some _;refine congrArg (fun t=>some (Bx.mk 1 t)) (Z6u fun j _=>?_);rw [hst j,if_neg fun h=>hpk1 h.1]
       . have hil : i = l.length := by have := of_decide_eq_false hb; omega
         subst hil;clear hb;refine go ?_
         refine⟨S ++ [k],mv 1 13,hT',by rw [Y0e,Y0s]; omega,Z4Q (Y0m 1),Zy rfl,
          ⟨Qt 0 0 0,Qw 2,Yt⟩,
          ⟨⟨by decide,_,rfl,RenB.single ⟨.pure _ Yt,.pure _ (Zl l),.pure _ Yt,.pure _ Yt,.own (ρ:=mv 1 13) 1 (by decide),Yt⟩ rfl⟩,Qs (ZH _),
          ⟨by decide,_,rfl,?_⟩,Yt⟩⟩
         rw [show tab (intR (leftB l S k l.length))=tab (intR (leftA l (S ++ [k]))) from Z6u fun j _=>ZeX l S k j];exact .same _ (Z1y (Z4V _))
   . have h64 : S.length = 64 := by
      have h2:=of_decide_eq_false hb;rw [hSn] at h2;omega
     clear hb;refine gd 2 ⟨?_⟩;refine Zf (ZA (ob:=0) (id:=1) (i0:=0) (j0:=4) rfl rfl (by decide) (ZH _) (Nat.le_of_ble_eq_true rfl) (Nat.le_of_ble_eq_true rfl) rfl) ?_;refine go ?_;exact⟨_,_,rfl,.inl rfl,_,rfl,Yt,⟨⟨Yt,Zl l,Yt,Yt,ZH _,Yt⟩,Yt⟩,rfl,S,hT,h64,rfl⟩
end
section
open Go.RowKit
section
variable {P:Program} {C:Ctx} {e:Env} {h:Heap}
theorem ZgT (k k':Nat):mv k k' k=k':=by
 unfold mv;rw [show Nat.beq k k=true from Nat.beq_refl k]; rfl
theorem Z5O {k k' i:Nat} (hi:i≠k):mv k k' i=i:=by
 have e1:Nat.beq i k=false:=Bool.eq_false_iff.2 fun hb=>hi (Nat.eq_of_beq_eq_true hb);unfold mv;rw [e1]; rfl
theorem ZaP {h0:Heap} {D n0:Nat} (hD:D<n0) {g:Nat->Bx} {j0 new n':Nat} (hj:j0<64) (hnew:n0+64<=new) {r:Bx} (hr:pureLL r.elems) (hg:∀ j,pureLL (g j).elems) {e':Env} (he:∀ k p,e' k=some p->∃ p0,e k=some p0/\RenP (mv (n0+j0) new) (fun i=>i<n0+64) p0 p)
 (hb:∀ k b,h0 k=some b->k≠D->k<n0/\RenB (mv (n0+j0) new) (fun i=>i<n0+64) b b) {m:Nat} (hdom:C.dom m) (hm:m<=n0) :
 Sub C n' e ((((tabH h0 D n0 (fun j=>.own (n0+j)) 64 g).del (n0+j0)).upd new r).upd D ⟨1,((List.range 64).map fun j => [PV.own (n0+j)]).set j0 [.own new]⟩) (n0+64) e' (tabH h0 D n0 (fun j=>.own (n0+j)) 64 fun j=>if j=j0 then r else g j):=by
 have hcase:∀ k b,tabH h0 D n0 (fun j=>.own (n0+j)) 64 (fun j=>if j=j0 then r else g j) k=some b->k<n0+64:=fun k b hk=>by
  rcases Z7x hD hk with⟨rfl,_⟩|⟨j,hj,rfl,_⟩|⟨h1,h2,h3⟩
  . omega
  . omega
  . have:=(hb k b h3 h1).1; omega
 refine ZgS (mv (n0+j0) new) he (fun k b hk=>⟨hcase k b hk,?_⟩) (fun k k' b b' hk hk' hh=>?_) hdom (by omega) (fun i hi=>Z5O (by omega))
 . rcases Z7x hD hk with ⟨rfl, rfl⟩ | ⟨j, hj2, rfl, rfl⟩ | ⟨h1, h2, h3⟩
   . rw [Z5O (by omega), Heap.upd_same];refine⟨_,rfl,.gen _ _ Nat.zero_lt_one rfl (by simp) (fun i hi=>?_) fun i q hi hq=>?_⟩
     . have hi' : i < 64 := by simpa using hi
       rw [Z4Y _ hj,Z1m hi',Z1m hi']
       split<;>rfl
     . have hi' : i < 64 := by simpa using hi
       have hq0:q=0:=Nat.lt_one_iff.1 hq;subst hq0;rw [Z4Y _ hj,Z1m hi',Z1m hi'];by_cases hij:i=j0
       . subst hij;rw [if_pos rfl];show RenP _ _ (.own new) (.own (n0+i));have:=RenP.own (ρ:=mv (n0+i) new) (D:=fun x=>x<n0+64) (n0+i) (by omega);rw [ZgT] at this;exact this
       . rw [if_neg hij];show RenP _ _ (.own (n0+i)) (.own (n0+i));have:=RenP.own (ρ:=mv (n0+j0) new) (D:=fun x=>x<n0+64) (n0+i) (by omega);rw [Z5O (by omega)] at this;exact this
   . by_cases hjj : j = j0
     . subst hjj;rw [ZgT,Heap.upd_ne _ _ (by omega),Heap.upd_same,if_pos rfl];exact⟨r,rfl,.same r hr⟩
     . rw [Z5O (by omega), Heap.upd_ne _ _ (by omega), Heap.upd_ne _ _ (by omega), Heap.del_ne _ (by omega), Z2p _ hD _ _ hj2, if_neg hjj];exact⟨g j,rfl,.same _ (hg j)⟩
   . have h4 := hb k b h3 h1;rw [Z5O (by omega),Heap.upd_ne _ _ h1,Heap.upd_ne _ _ (by omega),Heap.del_ne _ (by omega),Z2q _ _ _ h1 h2];exact⟨b,h3,h4.2⟩
 . have l1 := hcase k b hk;have l2:=hcase k' b' hk';by_cases e1:k=n0+j0
   . by_cases e2 : k' = n0 + j0
     . rw [e1,e2]
     . rw [e1,ZgT,Z5O e2] at hh; omega
   . by_cases e2 : k' = n0 + j0
     . rw [e2,ZgT,Z5O e1] at hh; omega
     . rw [Z5O e1,Z5O e2] at hh; exact hh
def frzTo (n0 i:Nat) (g:Nat->Bx) (j:Nat):PV:=if j<i then .vec (g j).elems false else .own (n0+j)
theorem ZgU {h0:Heap} {D n0 i:Nat} (hD:D<n0) (h0n:∀ k,n0<=k->k<n0+64->h0 k=none) (g:Nat->Bx) (hi:i<64) :
 ((tabH h0 D (n0 + i) (frzTo n0 i g) (64 - i) (fun q => g (i + q))).del (n0 + i)).upd D ⟨1, ((List.range 64).map fun j => [frzTo n0 i g j]).set i ((((List.range 64).map fun j => [frzTo n0 i g j]).getD i []).set 0 (.vec (g i).elems false))⟩
   = tabH h0 D (n0+(i+1)) (frzTo n0 (i+1) g) (64-(i+1)) (fun q=>g (i+1+q)):=by
 funext k;rw [Z1m hi,Z4Y _ hi];by_cases h2:k=D
 . subst h2;rw [Heap.upd_same,Z2G];refine congrArg (fun l=>some (Bx.mk 1 l)) (List.map_congr_left fun j hj=>?_);unfold frzTo;by_cases hji:j=i
   . subst hji; rw [if_pos rfl,if_pos (Nat.lt_succ_self _)]; rfl
   . rw [if_neg hji];by_cases hlt:j<i
     . rw [if_pos hlt,if_pos (by omega)]
     . rw [if_neg hlt,if_neg (by omega)]
 . rw [Heap.upd_ne _ _ h2];by_cases h1:k=n0+i
   . subst h1;rw [Heap.del_same,Z2q _ _ _ h2 (by omega),h0n _ (by omega) (by omega)]
   . rw [Heap.del_ne _ h1];by_cases h3:n0+(i+1)<=k/\k<n0+64
     . obtain ⟨q, rfl⟩ : ∃ q, k = n0 + (i + 1) + q := ⟨k - (n0 + (i + 1)), by omega⟩;rw [Z2p _ (by omega) _ _ (by omega:q<64-(i+1)),show n0+(i+1)+q=n0+i+(q+1) by omega,Z2p _ (by omega) _ _ (by omega:q+1<64-i)];rw [show i+(q+1)=i+1+q by omega]
     . rw [Z2q _ _ _ h2 (by omega),Z2q _ _ _ h2 (by omega)]
theorem Z8n {h0:Heap} {D n0 n k:Nat} (hD:D<n0) (h0n:∀ k,n0<=k->k<n0+64->h0 k=none) (hk:e k=some (.own D)) {g:Nat->Bx} (hg:∀ j,pureLL (g j).elems) :
 Sub C n e (tabH h0 D n0 (fun j=>.own (n0+j)) 64 g) n (e.upd k (.vec ((List.range 64).map fun j => [.vec (g j).elems false]) false)) (h0.del D):=by
 have key:∀ i,i<=64->Sub C n e (tabH h0 D n0 (fun j=>.own (n0+j)) 64 g) n e (tabH h0 D (n0+i) (frzTo n0 i g) (64-i) (fun q=>g (i+q))):=by
  intro i
  induction i with
  | zero =>
    intro _;have e1:tabH h0 D (n0+0) (frzTo n0 0 g) (64-0) (fun q=>g (0+q))=tabH h0 D n0 (fun j=>.own (n0+j)) 64 g:=by
     have e2:(fun q=>g (0+q))=g:=funext fun q=>by rw [Nat.zero_add]
     rw [e2]
     rfl
    rw [e1];exact Z8b
  | succ i ih =>
    intro hi;have hi':i<64:=by omega
    refine Z6c (ih (by omega)) ?_;rw [<- ZgU hD h0n g hi'];have hrow:=Z2p h0 (D:=D) (n:=n0+i) (by omega) (frzTo n0 i g) (K:=64-i) (fun q=>g (i+q)) (j:=0) (by omega);refine Z2a (ob:=D) (id:=n0+i) (i0:=i) (j0:=0) (bo:=⟨1,(List.range 64).map fun j => [frzTo n0 i g j]⟩) (b:=g i) (Z2G _ _ _ _ _ _) hrow (by omega) (hg i) (by simpa using hi') (by rw [Z1m hi']; exact Nat.zero_lt_one) ?_;rw [Z1m hi'];show frzTo n0 i g i=_;unfold frzTo;rw [if_neg (Nat.lt_irrefl i)]
 have last:=key 64 (Y0m _);have htab:tabH h0 D (n0+64) (frzTo n0 64 g) (64-64) (fun q=>g (64+q)) D=some ⟨1,(List.range 64).map fun j => [PV.vec (g j).elems false]⟩:=by
  rw [Z2G];refine congrArg (fun l=>some (Bx.mk 1 l)) (List.map_congr_left fun j hj=>?_);unfold frzTo;rw [if_pos (List.mem_range.1 hj)]
 have hpl:pureLL ((List.range 64).map fun j => [PV.vec (g j).elems false]):=by
  refine (Z2b _ _).2 fun r hr=>?_;obtain⟨j,_,rfl⟩:=Y0i.1 hr;exact⟨hg j,Yt⟩
 have fz:=Z7k (C:=C) (n:=n) hk htab hpl;have e3:(tabH h0 D (n0+64) (frzTo n0 64 g) (64-64) (fun q=>g (64+q))).del D=h0.del D:=by
  funext q;by_cases hq:q=D
  . subst hq; rw [Heap.del_same,Heap.del_same]
  . rw [Heap.del_ne _ hq,Heap.del_ne _ hq,Z2q _ _ _ hq (by omega)]
 rw [e3] at fz;exact Z6c last fz
end
end
section
open Go.RowKit
attribute [local irreducible] aw opsK dK
def dirN (l:List Pr) (j:Nat):List Nat:=(l.filter fun p=>p.2 == j).map (·.1)
theorem Zf4 {l:List Pr} {i:Nat} (hi:i<l.length) (j:Nat):dirN (l.take (i+1)) j=if j=l[i].2 then dirN (l.take i) j ++ [l[i].1] else dirN (l.take i) j:=by
 have e:l.take (i+1)=l.take i ++ [l[i]]:=by rw [List.take_add_one,Y0c hi]; rfl
 unfold dirN;rw [e,List.filter_append];by_cases h:j=l[i].2
 . rw [if_pos h,List.filter_cons_of_pos (by simp [h])]; simp
 . rw [if_neg h,List.filter_cons_of_neg (by simp [Ne.symm h])]; simp
theorem Z61 {l:List Pr} {a j:Nat}:a∈dirN l j↔(a,j)∈l:=by
 unfold dirN;rw [Y0i];constructor
 . rintro ⟨p, hp, rfl⟩;obtain⟨h1,h2⟩:=List.mem_filter.1 hp;have:=eq_of_beq h2;rw [<- this]; exact h1
 . intro h;exact⟨(a,j),List.mem_filter.2 ⟨h,by simp⟩,rfl⟩
theorem Zci (l:List Pr) (j:Nat):(dirN l j).length<=l.length:=by
 unfold dirN;rw [Y0f];exact List.length_filter_le _ _
def dirR (l:List Pr) (j:Nat):Bx:=⟨1,nums (intsN (dirN l j))⟩
theorem Z9o (l:List Pr) (j:Nat):pureLL (dirR l j).elems:=ZH _
def setR (f:Nat->Nat) (j:Nat):List PV := [.vec (words (digs (f j))) false]
theorem Z1Y (f:Nat->Nat) (j:Nat):pureL (setR f j):=⟨Za _,Yt⟩
theorem Zix {k m n it mask:Nat} {un:List Nat} (h1:k<n) (h2:m.testBit it=true):okId ⟨none,[(k,m)],un,none⟩ n it mask k=true:=by
 have e1:Nat.blt k n=true:=Eq.mpr Nat.blt_eq h1;simp [okId,resv,grpB,grpOf,e1,h2]
theorem Zcj {k k' m n it mask:Nat} {un:List Nat} (h1:k<n) (h2:k≠k'):okId ⟨none,[(k',m)],un,none⟩ n it mask k=true:=by
 have e1:Nat.blt k n=true:=Eq.mpr Nat.blt_eq h1;have e2:Nat.beq k k'=false:=Bool.eq_false_iff.2 fun hb=>h2 (Nat.eq_of_beq_eq_true hb);simp only [okId,resv,grpB,grpOf,e1,e2]
 rfl
theorem Zkm {k m n it iso:Nat} {un:List Nat} (h:m &&& un.getD it 0=0):okW ⟨none,[(k,m)],un,none⟩ n it iso k=true:=by
 have e1:Nat.beq k k=true:=Nat.beq_refl k;have e2:apartB ⟨none,[(k,m)],un,none⟩ it k=true:=by
  unfold apartB grpOf;rw [e1];show Nat.beq (m &&& un.getD it 0) 0=true;rw [h]; rfl
 unfold okW;rw [e2,Bool.or_true]
theorem ZgV {q m:Nat} (q':Nat) {un:List Nat} {l:List DItem}:unOk ⟨none,[(q,m)],un,none⟩ l=unOk ⟨none,[(q',m)],un,none⟩ l:=rfl
theorem accA {z:Rsv} {zz:List Value} {b:Nat} {s x:Operand} {e:Env} {n it mask iso k:Nat} (hs:ev e s=some (.own k)) (h1:okId z n it mask k=true) (h2:okW z n it iso k=true):accOk z (.append zz b s x) e n it mask iso=true:=by
 simp [accOk,hs,h1,h2]
theorem accI {z:Rsv} {b:Nat} {s x:Operand} {e:Env} {n it mask iso k:Nat} (hs:ev e s=some (.own k)) (h1:okId z n it mask k=true):accOk z (.iaddr b s x) e n it mask iso=true:=by
 simp [accOk,hs,okPtr,h1]
theorem accL {z:Rsv} {g:Bool} {b:Nat} {s:Operand} {e:Env} {n it mask iso k i off:Nat} (hs:ev e s=some (.ptr k i off)) (h1:okId z n it mask k=true):accOk z (.load g b s) e n it mask iso=true:=by
 simp [accOk,hs,okPtr,h1]
theorem accS {z:Rsv} {b:Nat} {s v:Operand} {e:Env} {n it mask iso k i off:Nat} (hs:ev e s=some (.ptr k i off)) (h1:okId z n it mask k=true) (h2:iso.testBit 0=true):accOk z (.store b s v) e n it mask iso=true:=by
 simp [accOk,hs,okPtr,okWP,okW,h1,h2]
def baseR (l:List Pr) (fp:Bool) (S:List Nat):Heap:=heapL [(0,ordB l fp (.own 7) (.own 12) (.vec (nums (intsN S)) false)),(7,⟨1,List.replicate 64 [.vec [] true]⟩),(12,⟨1,List.replicate 64 [.vec [] true]⟩),(19,⟨1,List.replicate 64 [.vec [] true]⟩)]
noncomputable def aS (l:List Pr) (rs:List Nat):Nat:=rs.foldl (fun o a=>(o ||| abv l a) ||| 2 ^ a) 0
theorem Ziy (l:List Pr) (rs:List Nat) (a:Nat):aS l (rs ++ [a])=(aS l rs ||| abv l a) ||| 2 ^ a:=by simp [aS,List.foldl_append]
theorem Zf5 (l:List Pr) (b:Nat):∀ (rs:List Nat) (o:Nat),(rs.foldl (fun o a=>(o ||| abv l a) ||| 2 ^ a) o).testBit b=true↔o.testBit b=true \/ ∃ a∈rs,(abv l a).testBit b=true \/ b=a
 | [],o=>by simp
 | a :: rs, o => by
   rw [List.foldl_cons,Zf5 l b rs,Y00,Y00,Bool.or_eq_true,Bool.or_eq_true,Nat.testBit_two_pow,decide_eq_true_iff];constructor
   . rintro (((h | h) | h) | ⟨x, hx, h⟩)
     . exact .inl h
     . exact .inr ⟨a,Y0t ..,.inl h⟩
     . exact .inr ⟨a,Y0t ..,.inr h.symm⟩
     . exact .inr ⟨x,List.mem_cons_of_mem _ hx,h⟩
   . rintro (h | ⟨x, hx, h⟩)
     . exact .inl (.inl (.inl h))
     . rcases List.mem_cons.1 hx with rfl | hx
       . rcases h with h | h
         . exact .inl (.inl (.inr h))
         . exact .inl (.inr h.symm)
       . exact .inr ⟨x,hx,h⟩
theorem Ziz (l:List Pr):∀ (rs:List Nat) (o:Nat),(∀ a∈rs,a<64)->o<18446744073709551616->rs.foldl (fun o a=>(o ||| abv l a) ||| 2 ^ a) o<18446744073709551616
 | [],o,_,ho=>ho
 | a :: rs, o, h, ho => by
   rw [List.foldl_cons];exact Ziz l rs _ (fun x hx=>h x (List.mem_cons_of_mem _ hx)) (Z24 (Z24 ho (Z6o l a)) (ZI (h a (Y0t ..))))
theorem ZaQ {l:List Pr} (hl:Small l) {a j:Nat} (h:a∈dirN l j):a<64:=(hl _ (Z61.1 h)).1
theorem ZjB {l:List Pr} (hl:Small l) (b:Nat):aS l (dirN l b)=abv l b:=by
 refine eq64 (Ziz l _ 0 (fun a ha=>ZaQ hl ha) (by decide)) (Z6o l b) fun i hi=>?_;rw [Bool.eq_iff_iff,Z6n hl,ZjA];unfold aS;rw [Zf5];constructor
 . rintro (h | ⟨a, ha, h⟩)
   . simp at h
   . exact⟨a,Z61.1 ha,h.elim (fun h=>.inr ((Z6n hl i a).1 h)) .inl⟩
 . rintro ⟨c, hc, h⟩;exact .inr ⟨c,Z61.2 hc,h.elim .inr fun h=>.inl ((Z6n hl i c).2 h)⟩
noncomputable def abvT (l:List Pr) (S:List Nat) (t j:Nat):Nat:=if j∈S.take t then abv l j else 0
open Classical in
noncomputable def belT (l:List Pr) (S:List Nat) (t j:Nat):Nat:=ofP (fun b=>decide (b∈S.take t/\Up l j b)) 64
theorem Z4z (l:List Pr) (S:List Nat) (t j:Nat):belT l S t j<18446744073709551616:=ZeU _
theorem Z4Z (l:List Pr) (S:List Nat) (t j b:Nat):(belT l S t j).testBit b=true↔b<64/\b∈S.take t/\Up l j b:=by
 unfold belT;rw [Z8h];simp only [Y0k,Y0n]
theorem Z6v {S:List Nat} {t:Nat} (ht:t<S.length):S.take (t+1)=S.take t ++ [S[t]]:=by rw [List.take_add_one,Y0c ht]; rfl
theorem Zf6 {l:List Pr} {S:List Nat} {t:Nat} (ht:t<S.length) (j:Nat):abvT l S (t+1) j=if j=S[t] then abv l S[t] else abvT l S t j:=by
 unfold abvT;rw [Z6v ht];by_cases h:j=S[t]
 . rw [if_pos (Y0h.2 (.inr (Y0g.2 h))),if_pos h,h]
 . rw [if_neg h];by_cases h2:j∈S.take t
   . rw [if_pos (List.mem_append_left _ h2),if_pos h2]
   . rw [if_neg (fun hh=>(Y0h.1 hh).elim h2 fun h3=>h (Y0g.1 h3)),if_neg h2]
theorem Zck {S:List Nat} (hn:S.Nodup) {t:Nat} (ht:t<S.length):S[t] ∉ S.take t:=by
 intro h;obtain⟨i,hi,he⟩:=List.getElem_of_mem h;rw [Y0o] at hi;rw [List.getElem_take] at he;exact (List.pairwise_iff_getElem.1 hn) i t (by omega) ht (by omega) he
theorem ZgW {l:List Pr} {S:List Nat} (hn:S.Nodup) {t:Nat} (ht:t<S.length):abvT l S t S[t]=0:=if_neg (Zck hn ht)
theorem ZgX {l:List Pr} {S:List Nat} {t a:Nat} (h:a∈S.take t):abvT l S t a=abv l a:=if_pos h
theorem Zf7 {l:List Pr} (hl:Small l) {S:List Nat} {t:Nat} (ht:t<S.length) (h64:S[t]<64) (j:Nat):belT l S (t+1) j=if j∈mem (abv l S[t]) then belT l S t j ||| 2 ^ S[t] else belT l S t j:=by
 have hm:j∈mem (abv l S[t])↔Up l j S[t]:=by rw [Z1k (Z6o l _),Z6n hl]
 refine eq64 (Z4z ..) (by split; exact Z24 (Z4z ..) (ZI h64); exact Z4z ..) fun b hb=>?_;rw [Bool.eq_iff_iff,Z4Z,Z6v ht];by_cases h:Up l j S[t]
 . rw [if_pos (hm.2 h), Y00, Bool.or_eq_true, Z4Z, Nat.testBit_two_pow, decide_eq_true_iff, Y0h, Y0g];constructor
   . rintro ⟨h1, h2 | h2, h3⟩
     . exact .inl ⟨h1,h2,h3⟩
     . exact .inr h2.symm
   . rintro (⟨h1, h2, h3⟩ | h2)
     . exact⟨h1,.inl h2,h3⟩
     . subst h2; exact⟨hb,.inr rfl,h⟩
 . rw [if_neg fun hh => h (hm.1 hh), Z4Z, Y0h, Y0g];constructor
   . rintro ⟨h1, h2 | h2, h3⟩
     . exact⟨h1,h2,h3⟩
     . subst h2; exact absurd h3 h
   . rintro⟨h1,h2,h3⟩; exact⟨h1,.inl h2,h3⟩
theorem ZgY {l:List Pr} {S:List Nat} (hS:Topo l S) (h64:S.length=64) {j:Nat} (hj:j<64):abvT l S 64 j=abv l j:=by
 unfold abvT;rw [<- h64,Y0q,if_pos (hS.all h64 hj)]
theorem ZgZ {l:List Pr} (hl:Small l) {S:List Nat} (hS:Topo l S) (h64:S.length=64) (j:Nat):belT l S 64 j=bel l j:=by
 refine eq64 (Z4z ..) (ZeW ..) fun b hb=>?_;rw [Bool.eq_iff_iff,Z4Z,ZeV hl,<- h64,Y0q];exact⟨fun h=>h.2.2,fun h=>⟨by omega,hS.all h64 hb,h⟩⟩
theorem Z3H {f g:Nat->Nat} (h:∀ j,j<64->f j=g j):tab (setR f)=tab (setR g):=Z3G fun j hj=>by show [PV.vec (words (digs (f j))) false] = [PV.vec (words (digs (g j))) false]; rw [h j hj]
theorem Zcl {f:Nat->Nat} {i v:Nat} (hi:i<64):(tab (setR f)).set i (setAt ((tab (setR f)).getD i []) 0 [.vec (words (digs v)) false])=tab (setR fun j=>if j=i then v else f j):=by
 rw [Z2T hi,show setAt (setR f i) 0 [.vec (words (digs v)) false] = [.vec (words (digs v)) false] from rfl,ZeZ _ hi];refine Z3G fun j _=>?_;show (if j=i then [PV.vec (words (digs v)) false] else setR f j) = [PV.vec (words (digs (if j=i then v else f j))) false];by_cases hj:j=i
 . rw [if_pos hj,if_pos hj]
 . rw [if_neg hj,if_neg hj]; rfl
theorem Zf8 (l:List Pr) (S:List Nat) (j:Nat):belT l S 0 j=0:=by
 refine eq64 (Z4z ..) (by decide) fun b hb=>?_;rw [Bool.eq_iff_iff,Z4Z];simp
theorem ZaR (l:List Pr) (fp:Bool) (hl:Small l) (hlen:l.length<=1000000) (S:List Nat) (hS:Topo l S) (h64:S.length=64) :
 PSpec Tryz.prog 108 (ordB l fp (.vec [] true) (.vec [] true) (.vec (nums (intsN S)) false)) [] fun r b'=>r=.tup []/\b'=ordB l fp (.vec (tab (setR (abv l))) false) (.vec (tab (setR (bel l))) false) (.vec (nums (intsN S)) false):=by
 have hpl:∀ D,innLL D (l.map prC):=fun D=>Zb (fun _ h=>h.elim) _ (Zl l);have hnl:(l.map prC).length=l.length:=by simp
 have hti:∀ (f:Nat->Nat) D,innLL D (tab (setR f)):=fun f D=>Zb (fun _ h=>h.elim) _ (Z1y (Z1Y f));have hap:∀ (l:List Nat) D,innLL D (nums (intsN l)):=fun l D=>Z4P _ D;have hSn:(nums (intsN S)).length=S.length:=by simp [nums,intsN]
 refine Z1M ok108 (Nat.le_of_ble_eq_true rfl) fun C hC=>?_;refine Zs ?_;refine Zc ?_;refine Z5 rfl rfl rfl ?_;refine Z1s ?_;refine Zs ?_;refine Z2l [] [(0,148512)] [262143,262143,262143,262143,262143,262143,262143,262143,262143,262143,262143,262143,262143,262143,2050,262143,262143,0] (by kernel_rfl) ?_;refine go ?_;refine Z6e hC (n':=20) [(1,.cp [.ptr 0 0 0]),(2,.own 19),(34,.vec (l.map prC) fp),(35,.val (.int .i64 l.length)),(36,.val (.int .i64 ((0:Nat):Int)))]
  [(0,ordB l fp (.own 7) (.own 12) (.vec (nums (intsN S)) false)),(7,⟨1,List.replicate 64 [.vec [] true]⟩),(12,⟨1,List.replicate 64 [.vec [] true]⟩),(19,⟨1,List.replicate 64 [.vec [] true]⟩)] (by decide)
  ⟨⟨rfl,show (0:Nat)<20 by decide,Yt⟩,⟨rfl,show (19:Nat)<20 by decide⟩,⟨rfl,hpl _⟩,⟨by rw [<- hnl]; rfl,Yt⟩,⟨rfl,Yt⟩,Yt⟩ ?_ ?_
 . exact⟨⟨by decide,rfl,⟨⟨Yt,hpl _,show (7:Nat)<20 by decide,show (12:Nat)<20 by decide,hap _ _,Yt⟩,Yt⟩⟩,⟨by decide,rfl,Z11 rfl |> Zb (fun _ h=>h.elim) _⟩,⟨by decide,rfl,Z11 rfl |> Zb (fun _ h=>h.elim) _⟩,⟨by decide,rfl,Z11 rfl |> Zb (fun _ h=>h.elim) _⟩,Yt⟩
 refine Z20 (ZdA (n:=20) (D:=19) (by decide) rfl 1 (by decide)) ?_;show aw _ C _ _ 84 _ (tabH (baseR l fp S) 19 20 (fun j=>.own (20+j)) 64 (dirR (l.take 0)));have hbs:∀ k b,baseR l fp S k=some b->k≠19->(k=0/\b=ordB l fp (.own 7) (.own 12) (.vec (nums (intsN S)) false)) \/ ((k=7 \/ k=12)/\b=⟨1,List.replicate 64 [.vec [] true]⟩):=by
  intro k b hk h19;have:=Z1x hk;simp only [List.mem_cons,Prod.mk.injEq,List.not_mem_nil,or_false] at this;rcases this with h|h|h|h
  . exact .inl h
  . exact .inr ⟨.inl h.1,h.2⟩
  . exact .inr ⟨.inr h.1,h.2⟩
  . exact absurd h.1 h19
 have hren:∀ k0 k',20<=k0->∀ k b,baseR l fp S k=some b->k≠19->k<20/\RenB (mv k0 k') (fun i=>i<20+64) b b:=by
  intro k0 k' hk0 k b hk h19;have o7:=RenP.own (ρ:=mv k0 k') (D:=fun i=>i<20+64) 7 (by omega);have o12:=RenP.own (ρ:=mv k0 k') (D:=fun i=>i<20+64) 12 (by omega);rw [Z5O (by omega)] at o7 o12;rcases hbs k b hk h19 with⟨rfl,rfl⟩|⟨h,rfl⟩
  . exact⟨by omega,RenB.single ⟨.pure _ Yt,.pure _ (Zl l),o7,o12,.pure _ (ZH _),Yt⟩ rfl⟩
  . exact⟨by omega,.same _ (Z11 rfl)⟩
 refine Z89 (fun i=>i<=l.length) (fun i=>l.length-i) (fun _=>84) (fun i=>envL [(1,.cp [.ptr 0 0 0]),(2,.own 19),(34,.vec (l.map prC) fp),(35,.val (.int .i64 l.length)),(36,Yv i)]) (fun i=>tabH (baseR l fp S) 19 20 (fun j=>.own (20+j)) 64 (dirR (l.take i))) 0 (Y0l _) Z8b ?_;intro i hi;have hinc:IntKind.i64.wrap ((i:Int)+1)=((i+1:Nat):Int):=Y0v _ ⟨by omega,by omega⟩;refine gd 37 ⟨?_⟩;refine Zq rfl rfl rfl (fun hb=>?_) (fun hb=>?_)
 . have hil : i < l.length := by have := Y0u hb; omega
   have hp:=hl _ (Y0j hil);have hst:=fun j=>Zf4 hil j;have hdl:=Zci (l.take i) l[i].2;rw [Y0o] at hdl;clear hb;refine go ?_;refine Qo (Zm (xs:=l) (g:=prC) rfl rfl i rfl hil rfl) ?_;generalize l[i]=p at hp hst hdl ⊢
   iterate 4 (first|refine st ?_|(apply B<;>intro hb<;>try cases hb))
   refine Z20 (Z3a (k:=4) (id:=84) (esz:=2) (l:=prC p) rfl rfl) ?_;refine Z20 (ZgD (h':=tabH (baseR l fp S) 19 20 (fun j=>.own (20+j)) 64 (dirR (l.take i))) fun k b hk=>?_) ?_
   . have hne : k ≠ 84 := fun h => by
      rw [h,show tabH (baseR l fp S) 19 20 (fun j=>PV.own (20+j)) 64 (dirR (l.take i)) 84=none from rfl] at hk;cases hk
     rw [Heap.del_ne _ hne,Heap.upd_ne _ _ hne,Heap.upd_ne _ _ hne];exact hk
   refine Z2l [] [(20+p.2,2048)] [16383,16383,16383,16383,16383,16383,16383,16383,16383,16383,16383,4,16383,16383] ((ZgV 0).trans (by kernel_rfl)) ?_;have hT19:∀ g,tabH (baseR l fp S) 19 20 (fun j=>PV.own (20+j)) 64 g 19=some ⟨1,(List.range 64).map fun j => [PV.own (20+j)]⟩:=fun g=>Z2G _ _ _ _ _ _;have hlen64:∀ f:Nat->List PV,((List.range 64).map f).length=64:=fun f=>by simp
   refine gd 46 ⟨?_⟩;refine Zd (ZE rfl rfl (hT19 _) p.2 rfl (by rw [hlen64]; exact hp.2) rfl) (accI rfl (Zcj (by omega) (by omega))) rfl ?_;refine Zd (Z1S (p:=.own (20+p.2)) (i:=p.2) rfl (hT19 _) (by rw [hlen64]; exact hp.2) (by rw [Z1m hp.2]; rfl)) (accL rfl (Zcj (by omega) (by omega))) rfl ?_;refine gd 51 ⟨?_⟩
   refine Zd (Zx (k:=20+p.2) (m := [[.val (.int .i64 (p.1:Int))]]) (fl:=true) (b:=dirR (l.take i) p.2) rfl rfl (Z2p _ (by decide) _ _ hp.2) (fun r hr=>by rw [Y0g] at hr; subst hr; rfl) rfl (by
    show ((nums (intsN (dirN (l.take i) p.2))).length+1)*8<=_;have:(nums (intsN (dirN (l.take i) p.2))).length=(dirN (l.take i) p.2).length:=by simp [nums,intsN]
    omega)) (accA rfl (Zix (by show _<85;omega) rfl) (Zkm rfl)) rfl ?_
   have hT19b:∀ (g:Nat->Bx) (b:Bx),((tabH (baseR l fp S) 19 20 (fun j=>PV.own (20+j)) 64 g).del (20+p.2)).upd 96 b 19=some ⟨1,(List.range 64).map fun j => [PV.own (20+j)]⟩:=fun g b=>by
    rw [Heap.upd_ne _ _ (by decide),Heap.del_ne _ (by omega)]; exact hT19 g
   refine Zd (ZE rfl rfl (hT19b _ _) p.2 rfl (by rw [hlen64]; exact hp.2) rfl) (accI rfl (Zcj (by show _<85;omega) (by omega))) rfl ?_;refine Zd (Z1L (i:=p.2) rfl rfl (hT19b _ _) rfl rfl (by rw [hlen64]; exact hp.2) (Y0m _)) (accS rfl (Zcj (by show _<85;omega) (by omega)) rfl) rfl ?_;refine Z6d ?_;have es:setAt (((List.range 64).map fun j => [PV.own (20+j)]).getD p.2 []) 0 (PV.own 96).cells = [.own 96]:=by rw [Z1m hp.2]; rfl
   have hfun:(fun j=>if j=p.2 then (⟨1,(dirR (l.take i) p.2).elems ++ [[.val (.int .i64 (p.1:Int))]]⟩:Bx) else dirR (l.take i) j)=dirR (l.take (i+1)):=by
    funext j;unfold dirR;rw [hst j];by_cases hj:j=p.2
    . rw [if_pos hj, if_pos hj, hj];simp [nums,intsN]
    . rw [if_neg hj,if_neg hj]
   have o19:=RenP.own (ρ:=mv (20+p.2) 96) (D:=fun i=>i<20+64) 19 (by omega);rw [Z5O (by omega)] at o19;have hrp:pureLL ((dirR (l.take i) p.2).elems ++ [[PV.val (.int .i64 (p.1:Int))]]):=by
    have:(dirR (l.take i) p.2).elems ++ [[PV.val (.int .i64 (p.1:Int))]]=nums (intsN (dirN (l.take i) p.2 ++ [p.1])):=by simp [dirR,nums,intsN]
    rw [this]; exact ZH _
   have hsub:=fun (e:Env) (he:EnvQ (mv (20+p.2) 96) e (20+64) [(1,.cp [.ptr 0 0 0]),(2,.own 19),(34,.vec (l.map prC) fp),(35,.val (.int .i64 l.length)),(36,Yv i)]) =>
    ZaP (C:=C) (h0:=baseR l fp S) (D:=19) (n0:=20) (n':=99) (e:=e) (by decide) (g:=dirR (l.take i)) (j0:=p.2) (new:=96) hp.2 (by decide) (r:=⟨1,(dirR (l.take i) p.2).elems ++ [[.val (.int .i64 (p.1:Int))]]⟩) hrp (Z9o _)
     (e':=envL [(1,.cp [.ptr 0 0 0]),(2,.own 19),(34,.vec (l.map prC) fp),(35,.val (.int .i64 l.length)),(36,Yv i)]) (fun k q hk=>he.mem _ (Z9b hk)) (hren (20+p.2) 96 (by omega)) hC (by decide)
   rw [hfun] at hsub;simp only [<- es] at hsub;refine Z20 (hsub _ ⟨⟨_,rfl,.same _ ⟨⟨by omega,Z5O (by omega)⟩,Yt⟩⟩,⟨_,rfl,o19⟩,Qp (Zl l),Qp Yt,Qp Yt,Yt⟩) ?_;refine go ?_;exact⟨i+1,by omega,by omega,Zav ⟨rfl,rfl,rfl,rfl,by show some _=some _; rw [hinc],Yt⟩⟩
 . have hil : i = l.length := by have := of_decide_eq_false hb; omega
   subst hil;rw [Y0q];clear hb;refine gd 54 ⟨?_⟩;have h0n:∀ k,20<=k->k<20+64->baseR l fp S k=none:=fun k h1 h2=>by
    cases hk:baseR l fp S k with
    | none=>rfl
    | some b=>rcases hbs k b hk (by omega) with⟨h,_⟩|⟨h,_⟩<;>omega
   refine Zf (fun C=>Z8n (D:=19) (k:=2) (by decide) h0n rfl (Z9o l)) ?_;refine go ?_;have hdp:(PV.vec ((List.range 64).map fun j => [.vec (nums (intsN (dirN l j))) false]) false).pure:=by
    refine (Z2b _ _).2 fun r hr=>?_;obtain⟨j,_,rfl⟩:=Y0i.1 hr;exact⟨ZH _,Yt⟩
   have hdi:∀ D,(PV.vec ((List.range 64).map fun j => [.vec (nums (intsN (dirN l j))) false]) false).inn D:=fun D=>PV.pure.inn hdp D;have hob:∀ n,12<n->innLL (· < n) (ordB l fp (.own 7) (.own 12) (.vec (nums (intsN S)) false)).elems:=fun n hn=>⟨⟨Yt,hpl _,show (7:Nat)<n by omega,show (12:Nat)<n from hn,hap _ _,Yt⟩,Yt⟩
   have hlow:RenB (fun i=>i) (fun i=>i<84) ⟨1,List.replicate 64 [.vec [] true]⟩ ⟨1,tab fun _ => [.vec [] false]⟩:=by
    have er:∀ i,i<64->(List.replicate 64 [PV.vec [] true]).getD i [] = [PV.vec [] true]:=fun i hi=>by rw [Y0b,List.getElem?_replicate,if_pos hi]; rfl
    refine .gen _ _ Nat.zero_lt_one rfl (by rw [ZW]; simp) (fun i hi=>?_) fun i q hi hq=>?_
    . rw [ZW] at hi;rw [Z2T hi,er i hi]; rfl
    . rw [ZW] at hi;have hq0:q=0:=Nat.lt_one_iff.1 hq;subst hq0;rw [Z2T hi,er i hi];exact .low (.vec [] true) Yt
   refine Z20 (Z2m (n':=84) (L := [(1,.cp [.ptr 0 0 0]),(2,.vec ((List.range 64).map fun j => [.vec (nums (intsN (dirN l j))) false]) false),(57,.vec (nums (intsN S)) false),(58,.val (.int .i64 64)),(59,.val (.int .i64 ((0:Nat):Int)))])
    (HL := [(0,ordB l fp (.own 7) (.own 12) (.vec (nums (intsN S)) false)),(7,⟨1,tab fun _ => [.vec [] false]⟩),(12,⟨1,tab fun _ => [.vec [] false]⟩)]) ?_ ?_ hC (by decide)) ?_
   . exact EnvQ.mem (L := [(1, .cp [.ptr 0 0 0]), (2, .vec ((List.range 64).map fun j => [.vec (nums (intsN (dirN l j))) false]) false), (57, .vec (nums (intsN S)) false), (58, .val (.int .i64 64)), (59, .val (.int .i64 ((0 : Nat) : Int)))])
      ⟨⟨_,rfl,.same _ ⟨⟨by decide,rfl⟩,Yt⟩⟩,Qp hdp,Qp (ZH _),⟨_,by rw [show (64:Int)=((nums (intsN S)).length:Nat) by rw [hSn,h64]; rfl]; rfl,.pure _ Yt⟩,Qp Yt,Yt⟩
   . exact HeapQ.mem (L := [(0, ordB l fp (.own 7) (.own 12) (.vec (nums (intsN S)) false)), (7, ⟨1, tab fun _ => [.vec [] false]⟩), (12, ⟨1, tab fun _ => [.vec [] false]⟩)])
      ⟨⟨by decide,_,rfl,RenB.single (ρ:=fun i=>i) (l0 := [.val (.int .i64 64),.vec (l.map prC) fp,.own 7,.own 12,.vec (nums (intsN S)) false]) (l := [.val (.int .i64 64),.vec (l.map prC) fp,.own 7,.own 12,.vec (nums (intsN S)) false]) (show RenLs _ _ [_,_,_,_,_] [_,_,_,_,_] from ⟨.pure _ Yt,.pure _ (Zl l),.own (ρ:=fun i=>i) 7 (by decide),.own (ρ:=fun i=>i) 12 (by decide),.pure _ (ZH _),Yt⟩) rfl⟩,⟨by decide,_,rfl,hlow⟩,⟨by decide,_,rfl,hlow⟩,Yt⟩
   have hren0:RenB (fun i=>i) (fun i=>i<84) (ordB l fp (.own 7) (.own 12) (.vec (nums (intsN S)) false)) (ordB l fp (.own 7) (.own 12) (.vec (nums (intsN S)) false)) :=
    RenB.single (ρ:=fun i=>i) (l0 := [.val (.int .i64 64),.vec (l.map prC) fp,.own 7,.own 12,.vec (nums (intsN S)) false]) (l := [.val (.int .i64 64),.vec (l.map prC) fp,.own 7,.own 12,.vec (nums (intsN S)) false]) (show RenLs _ _ [_,_,_,_,_] [_,_,_,_,_] from ⟨.pure _ Yt,.pure _ (Zl l),.own (ρ:=fun i=>i) 7 (by decide),.own (ρ:=fun i=>i) 12 (by decide),.pure _ (ZH _),Yt⟩) rfl
   have hz0:∀ f:Nat->Nat,(∀ j,f j=0)->(tab fun _ => [PV.vec [] false])=tab (setR f):=fun f hf=>Z3G fun j _=>by
    show [PV.vec [] false] = [PV.vec (words (digs (f j))) false];rw [hf,ZJ]; rfl
   refine Zn hC (fun t=>t<=64) (fun t=>64-t) 84 (fun t => [(1,.cp [.ptr 0 0 0]),(2,.vec ((List.range 64).map fun j => [.vec (nums (intsN (dirN l j))) false]) false),(57,.vec (nums (intsN S)) false),(58,.val (.int .i64 64)),(59,.val (.int .i64 (t:Int)))])
    (fun t => [(0,ordB l fp (.own 7) (.own 12) (.vec (nums (intsN S)) false)),(7,⟨1,tab (setR (abvT l S t))⟩),(12,⟨1,tab (setR (belT l S t))⟩)]) (by decide) 0 (by decide)
    ⟨⟨rfl,show (0:Nat)<84 by decide,Yt⟩,⟨rfl,hdi _⟩,⟨rfl,hap _ _⟩,⟨rfl,Yt⟩,⟨rfl,Yt⟩,Yt⟩
    ⟨⟨by decide,rfl,hob _ (by decide)⟩,⟨by decide,by rw [<- hz0 _ fun j=>show abvT l S 0 j=0 from if_neg (by simp)]; rfl,hti _ _⟩,⟨by decide,by rw [<- hz0 _ (Zf8 l S)]; rfl,hti _ _⟩,Yt⟩ ?_
   intro t ht;have htinc:IntKind.i64.wrap ((t:Int)+1)=((t+1:Nat):Int):=Y0v _ ⟨by omega,by omega⟩;refine gd 60 ⟨?_⟩;refine Zq rfl rfl rfl (fun hb=>?_) (fun hb=>?_)
   . have htl : t < S.length := by have := Y0u hb; omega
     have hb64:=hS.lt _ (Y0j htl);have hpred:=hS.pred t htl;have hnew:=ZgW (l:=l) hS.nodup htl;have hbS:=Zck hS.nodup htl;have hastep:=fun j=>Zf6 (l:=l) htl j;have hbstep:=fun j=>Zf7 hl htl hb64 j;have hgetS : (intsN S)[t]'(by simpa [intsN] using htl) = ((S[t] : Nat) : Int) := by simp [intsN]
     clear hb;refine go ?_;refine Qo (Zm (xs:=intsN S) (g:=fun x => [.val (.int .i64 x)]) rfl rfl t rfl (by simpa [intsN] using htl) rfl) ?_;rw [hgetS];generalize S[t]=b at hb64 hpred hnew hbS hastep hbstep ⊢
     iterate 4 (first|refine st ?_|(apply B<;>intro hb<;>try cases hb))
     refine Z20 (Z3a (k:=6) (id:=84) (esz:=1) (l := [.val (.int .i64 (b:Int))]) rfl rfl) ?_;refine go ?_;refine Qo (Zm (xs:=List.range 64) (g:=fun j => [.vec (nums (intsN (dirN l j))) false]) rfl rfl b rfl (by simpa using hb64) rfl) ?_;rw [List.getElem_range];refine go ?_;have hnd:(nums (intsN (dirN l b))).length=(dirN l b).length:=by simp [nums,intsN]
     have hdlen:=Zci l b;refine Zn hC (fun s=>s<=(dirN l b).length) (fun s=>(dirN l b).length-s) 85 (fun s => [(1,.cp [.ptr 0 0 0]),(2,.vec ((List.range 64).map fun j => [.vec (nums (intsN (dirN l j))) false]) false),(6,.cp [.val (.int .i64 (b:Int))]),(57,.vec (nums (intsN S)) false),(58,.val (.int .i64 64)),(59,.val (.int .i64 (t:Int))),(66,.vec (nums (intsN (dirN l b))) false),(67,.val (.int .i64 (dirN l b).length)),(68,.val (.int .i64 (s:Int)))])
      (fun s => [(0,ordB l fp (.own 7) (.own 12) (.vec (nums (intsN S)) false)),(7,⟨1,tab (setR fun j=>if j=b then aS l ((dirN l b).take s) else abvT l S t j)⟩),(12,⟨1,tab (setR (belT l S t))⟩)]) (by decide) 0 (Y0l _)
      ⟨⟨rfl,show (0:Nat)<85 by decide,Yt⟩,⟨rfl,hdi _⟩,⟨rfl,Yt,Yt⟩,⟨rfl,hap _ _⟩,⟨rfl,Yt⟩,⟨rfl,Yt⟩,⟨rfl,hap _ _⟩,⟨by rw [<- hnd]; rfl,Yt⟩,⟨rfl,Yt⟩,Yt⟩
      ⟨⟨by decide,rfl,hob _ (by decide)⟩,⟨by decide,by rw [Z3H (f:=fun j=>if j=b then aS l ((dirN l b).take 0) else abvT l S t j) (g:=abvT l S t) fun j _=>by by_cases hj:j=b; (rw [if_pos hj,hj,hnew]; rfl); rw [if_neg hj]]; rfl,hti _ _⟩,⟨by decide,rfl,hti _ _⟩,Yt⟩ ?_
     intro s hs;have hsinc:IntKind.i64.wrap ((s:Int)+1)=((s+1:Nat):Int):=Y0v _ ⟨by omega,by omega⟩;refine gd 69 ⟨?_⟩;refine Zq rfl rfl rfl (fun hb=>?_) (fun hb=>?_)
     . have hsl : s < (dirN l b).length := by have := Y0u hb; omega
       have htk:=Z6v hsl;have hga : (intsN (dirN l b))[s]'(by simpa [intsN] using hsl) = (((dirN l b)[s] : Nat) : Int) := by simp [intsN]
       have hma:(dirN l b)[s]∈dirN l b:=Y0j hsl;have hcur:aS l ((dirN l b).take s)<18446744073709551616:=Ziz l _ 0 (fun a ha=>ZaQ hl (List.mem_of_mem_take ha)) (by decide);clear hb;refine go ?_;refine Qo (Zm (xs:=intsN (dirN l b)) (g:=fun x => [.val (.int .i64 x)]) rfl rfl s rfl (by simpa [intsN] using hsl) rfl) ?_;rw [hga];generalize (dirN l b)[s]=a at htk hma ⊢;have ha64:=ZaQ hl hma;have haS:=hpred a (Z61.1 hma);have hab:a≠b:=fun h=>hbS (h▸haS);have hor:=Z24 hcur (Z6o l a);have hwn:withN (aS l ((dirN l b).take s) ||| abv l a) (a:Int)=aS l ((dirN l b).take (s+1)):=by
        rw [htk,Ziy,withN,if_pos ⟨by omega,by omega⟩]; rfl
       refine gd 82 ⟨?_⟩;refine Qr (ZE rfl rfl rfl b rfl (by rw [ZW]; exact hb64) rfl) ?_;refine Qr (Z1S (p:=setN (aS l ((dirN l b).take s))) (i:=b) rfl rfl (by rw [ZW]; exact hb64) (by rw [Z2T hb64]; show some (setN (if b=b then _ else _))=_; rw [if_pos rfl])) ?_;refine gd 89 ⟨?_⟩;refine Qr (ZE rfl rfl rfl a rfl (by rw [ZW]; exact ha64) rfl) ?_;refine Qr (Z1S (p:=setN (abv l a)) (i:=a) rfl rfl (by rw [ZW]; exact ha64) (by rw [Z2T ha64]; show some (setN (if a=b then _ else abvT l S t a))=_; rw [if_neg hab,ZgX haS])) ?_;refine Qd (Z1j _ (abv l a) hcur (Z6o l a)) ⟨Z1 _,Z1 _,Yt⟩ ?_;refine gd 93 ⟨?_⟩;refine Qd (Z3E _ (Y03 (Z32 hor) (by decide)) (a:Int)) ⟨Z1 _,Yt,Yt⟩ ?_;rw [hwn];refine Qr (ZE rfl rfl rfl b rfl (by rw [ZW]; exact hb64) rfl) ?_;refine Qr (Z1L (i:=b) rfl rfl rfl rfl rfl (by rw [ZW]; exact hb64) (Y0m _)) ?_;refine go ?_
       refine⟨s+1,by omega,by omega,⟨⟨rfl,show (0:Nat)<85 by decide,Yt⟩,⟨rfl,hdi _⟩,⟨rfl,Yt,Yt⟩,⟨rfl,hap _ _⟩,⟨rfl,Yt⟩,⟨rfl,Yt⟩,⟨rfl,hap _ _⟩,⟨rfl,Yt⟩,⟨by show some _=some _; rw [hsinc],Yt⟩,Yt⟩,
        ⟨⟨by decide,rfl,hob _ (by decide)⟩,⟨by decide,?_,hti _ _⟩,⟨by decide,rfl,hti _ _⟩,Yt⟩⟩
       show some (Bx.mk 1 ((tab (setR fun j=>if j=b then aS l ((dirN l b).take s) else abvT l S t j)).set b (setAt ((tab (setR fun j=>if j=b then aS l ((dirN l b).take s) else abvT l S t j)).getD b []) 0 [.vec (words (digs (aS l ((dirN l b).take (s+1))))) false])))=some _;rw [Zcl hb64];refine congrArg (fun x=>some (Bx.mk 1 x)) (Z3H fun j _=>?_);by_cases hj:j=b
       . rw [if_pos hj,if_pos hj]
       . rw [if_neg hj,if_neg hj,if_neg hj]
     . have hsl : s = (dirN l b).length := by have := of_decide_eq_false hb; omega
       subst hsl;clear hb;rw [Y0q,ZjB hl b];refine gd 101 ⟨?_⟩;refine Qr (ZE rfl rfl rfl b rfl (by rw [ZW]; exact hb64) rfl) ?_;refine Qr (Z1S (p:=setN (abv l b)) (i:=b) rfl rfl (by rw [ZW]; exact hb64) (by rw [Z2T hb64]; show some (setN (if b=b then _ else _))=_; rw [if_pos rfl])) ?_;refine Qd (Z25 (abv l b)) ⟨Z1 _,Yt⟩ ?_;refine go ?_;refine Z3e (X:=List Nat) hC (caps := [.cp [.vec (words (digs (abv l b))) false]]) [(1,.cp [.ptr 0 0 0]),(2,.vec ((List.range 64).map fun j => [.vec (nums (intsN (dirN l j))) false]) false),(6,.cp [.val (.int .i64 (b:Int))]),(57,.vec (nums (intsN S)) false),(58,.val (.int .i64 64)),(59,.val (.int .i64 (t:Int))),(103,.fn 128 [.cp [.vec (words (digs (abv l b))) false]])]
        (fun z => [(0,ordB l fp (.own 7) (.own 12) (.vec (nums (intsN S)) false)),(7,⟨1,tab (setR fun j=>if j=b then abv l b else abvT l S t j)⟩),(12,⟨1,tab (setR fun j=>if j∈z then belT l S t j ||| 2 ^ b else belT l S t j)⟩)]) rfl ⟨⟨Za _,Yt⟩,Yt⟩ (Z3h (abv l b) (Z6o l b)) (fun _=>rfl)
        (fun ex pre z=>ex=.normal/\z=pre.map (·.val)) 84 (by decide) [] ⟨rfl,rfl⟩
        (Z40 hC (by decide) ⟨⟨rfl, show (0 : Nat) < 84 by decide, Yt⟩, ⟨rfl, hdi _⟩, ⟨rfl, Yt, Yt⟩, ⟨rfl, hap _ _⟩, ⟨rfl, Yt⟩, ⟨rfl, Yt⟩, ⟨rfl, ⟨Zj _ _, Yt⟩, Yt⟩, Yt⟩
          ⟨⟨by decide,rfl,hob _ (by decide)⟩,⟨by decide,rfl,hti _ _⟩,⟨by decide,by rw [Z3H (f:=fun j=>if j∈([]:List Nat) then belT l S t j ||| 2 ^ b else belT l S t j) (g:=belT l S t) fun j _=>if_neg (by simp)]; rfl,hti _ _⟩,Yt⟩)
        (fun z q hq=>by simp at hq; rcases hq with rfl|rfl|rfl<;>exact Nat.zero_lt_succ _) _ (fun x=>rfl) ?_ ?_ ?_
       . rintro C2 hC2 pre x z ⟨-, hz⟩ hlen;have ha64:=Z33 x.2;generalize hf:(fun j=>if j∈z then belT l S t j ||| 2 ^ b else belT l S t j)=f;have hf64:∀ j,f j<18446744073709551616:=fun j=>by
          rw [<- hf];dsimp only
          split
          . exact Z24 (Z4z ..) (ZI hb64)
          . exact Z4z ..
         have hwn:withN (f x.val) (b:Int)=f x.val ||| 2 ^ b:=by rw [withN,if_pos ⟨by omega,by omega⟩]; rfl
         refine gd 115 ⟨?_⟩;refine Qr (ZE rfl rfl rfl x.val rfl (by rw [ZW]; exact ha64) rfl) ?_;refine Qr (Z1S (p:=setN (f x.val)) (i:=x.val) rfl rfl (by rw [ZW]; exact ha64) (by rw [Z2T ha64]; rfl)) ?_;refine gd 118 ⟨?_⟩;refine Qd (Z3E _ (Y03 (Z32 (hf64 _)) (by decide)) (b:Int)) ⟨Z1 _,Yt,Yt⟩ ?_;rw [hwn];refine Qr (ZE rfl rfl rfl x.val rfl (by rw [ZW]; exact ha64) rfl) ?_;refine Qr (Z1L (i:=x.val) rfl rfl rfl rfl rfl (by rw [ZW]; exact ha64) (Y0m _)) ?_;refine go ?_
         refine⟨.inl rfl,z ++ [x.val],fun i=>i,⟨rfl,by rw [hz,Y0r]; rfl⟩,fun i hi=>rfl,Zt,
          ⟨⟨_,rfl,.same _ ⟨⟨by decide,rfl⟩,Yt⟩⟩,Qp hdp,Qp ⟨Yt,Yt⟩,Qp (ZH _),Qp Yt,Qp Yt,Qp ⟨⟨Za _,Yt⟩,Yt⟩,Yt⟩,
          ⟨⟨by decide,_,rfl,hren0⟩,Qs (Z1y (Z1Y _)),⟨by decide,_,rfl,?_⟩,Yt⟩⟩
         show RenB _ _ ⟨1,(tab (setR f)).set x.val (setAt ((tab (setR f)).getD x.val []) 0 [.vec (words (digs (f x.val ||| 2 ^ b))) false])⟩ ⟨1,tab (setR fun j=>if j∈z ++ [x.val] then belT l S t j ||| 2 ^ b else belT l S t j)⟩;rw [Zcl ha64,Z3H (g:=fun j=>if j∈z ++ [x.val] then belT l S t j ||| 2 ^ b else belT l S t j)]
         . exact .same _ (Z1y (Z1Y _))
         . intro j _;rw [<- hf];dsimp only;by_cases hj:j=x.val
           . rw [if_pos hj, if_pos (Y0h.2 (.inr (Y0g.2 hj))), hj];by_cases hx:x.val∈z
             . rw [if_pos hx,Nat.or_assoc,Nat.or_self]
             . rw [if_neg hx]
           . rw [if_neg hj];by_cases hx:j∈z
             . rw [if_pos hx,if_pos (Y0h.2 (.inl hx))]
             . rw [if_neg hx,if_neg fun h=>(Y0h.1 h).elim hx fun h=>hj (Y0g.1 h)]
       . rintro xs z hxs ⟨-, rfl⟩;rw [hxs];refine go ?_
         refine⟨t+1,by omega,by omega,⟨⟨rfl,show (0:Nat)<84 by decide,Yt⟩,⟨rfl,hdi _⟩,⟨rfl,hap _ _⟩,⟨rfl,Yt⟩,⟨by show some _=some _; rw [htinc],Yt⟩,Yt⟩,
          ⟨⟨by decide,rfl,hob _ (by decide)⟩,⟨by decide,by rw [Z3H (f:=abvT l S (t+1)) (g:=fun j=>if j=b then abv l b else abvT l S t j) fun j _=>hastep j]; rfl,hti _ _⟩,⟨by decide,by rw [Z3H (f:=belT l S (t+1)) (g:=fun j=>if j∈mem (abv l b) then belT l S t j ||| 2 ^ b else belT l S t j) fun j _=>hbstep j]; rfl,hti _ _⟩,Yt⟩⟩
       . rintro ex pre z - ⟨rfl,_⟩ (h|⟨id,h⟩)<;>cases h
   . have htl : t = 64 := by have := of_decide_eq_false hb; omega
     subst htl;clear hb;refine Z1s ?_;rw [Z3H (f:=abvT l S 64) (g:=abv l) fun j hj=>ZgY hS h64 hj,Z3H (f:=belT l S 64) (g:=bel l) fun j _=>ZgZ hl hS h64 j];refine Z20 (Z2a (ob:=0) (id:=7) (i0:=0) (j0:=2) rfl rfl (by decide) (Z1y (Z1Y _)) (Nat.le_of_ble_eq_true rfl) (Nat.le_of_ble_eq_true rfl) rfl) ?_;refine Z20 (Z2a (ob:=0) (id:=12) (i0:=0) (j0:=3) rfl rfl (by decide) (Z1y (Z1Y _)) (Nat.le_of_ble_eq_true rfl) (Nat.le_of_ble_eq_true rfl) rfl) ?_;refine go ?_;exact⟨_,_,rfl,.inl rfl,_,rfl,Yt,⟨⟨Yt,Zl l,Z1y (Z1Y _),Z1y (Z1Y _),ZH _,Yt⟩,Yt⟩,rfl,rfl⟩
end
section
open Go.Shelf
def Z2H:Go.Shelf.Ren:=⟨fun|6=>103|15=>147|14=>146|28=>179|29=>180|20=>171|21=>172|22=>173|23=>174|24=>175|25=>176|26=>177|27=>178|46=>189|47=>190|48=>191|49=>192|50=>193|57=>206|n=>n,fun|22=>35|24=>137|25=>186|3=>3|39=>127|0=>0|53=>243|55=>36|4=>4|46=>237|45=>236|50=>222|5=>5|9=>9|66=>255|70=>259|76=>270|77=>271|n=>n,fun|n=>n⟩
theorem sortPair:Go.Proofs.SlLaysF0.n6 Tryz.prog Z2H:={
 mixed:=by kernel_rfl
 f6:=⟨Tryz.f103.name,by decide,Tryz.func103.trans (congrArg some (by kernel_rfl))⟩
 f14:=⟨Tryz.f146.name,by decide,Tryz.func146.trans (congrArg some (by kernel_rfl))⟩
 f15:=Tryz.func147.trans (congrArg some (by kernel_rfl))
 f20:=⟨Tryz.f171.name,by decide,Tryz.func171.trans (congrArg some (by kernel_rfl))⟩
 f21:=⟨Tryz.f172.name,by decide,Tryz.func172.trans (congrArg some (by kernel_rfl))⟩
 f22:=⟨Tryz.f173.name,by decide,Tryz.func173.trans (congrArg some (by kernel_rfl))⟩
 f23:=⟨Tryz.f174.name,by decide,Tryz.func174.trans (congrArg some (by kernel_rfl))⟩
 f24:=⟨Tryz.f175.name,by decide,Tryz.func175.trans (congrArg some (by kernel_rfl))⟩
 f25:=⟨Tryz.f176.name,by decide,Tryz.func176.trans (congrArg some (by kernel_rfl))⟩
 f26:=⟨Tryz.f177.name,by decide,Tryz.func177.trans (congrArg some (by kernel_rfl))⟩
 f27:=⟨Tryz.f178.name,by decide,Tryz.func178.trans (congrArg some (by kernel_rfl))⟩
 f28:=Tryz.func179.trans (congrArg some (by kernel_rfl))
 f29:=Tryz.func180.trans (congrArg some (by kernel_rfl))
 f46:=⟨Tryz.f189.name,by decide,Tryz.func189.trans (congrArg some (by kernel_rfl))⟩
 f47:=Tryz.func190.trans (congrArg some (by kernel_rfl))
 f48:=Tryz.func191.trans (congrArg some (by kernel_rfl))
 f49:=⟨Tryz.f192.name,by decide,Tryz.func192.trans (congrArg some (by kernel_rfl))⟩
 f50:=⟨Tryz.f193.name,by decide,Tryz.func193.trans (congrArg some (by kernel_rfl))⟩
 f57:=⟨Tryz.f206.name,by decide,Tryz.func206.trans (congrArg some (by kernel_rfl))⟩
 t0:=Tryz.underlying0
 a0:=Tryz.isAgg0
 z0:=Tryz.sizeOf0
 v0:=Tryz.zeroValue0
 t3:=Tryz.underlying3
 a3:=Tryz.isAgg3
 z3:=Tryz.sizeOf3
 v3:=Tryz.zeroValue3
 t4:=Tryz.underlying4
 a4:=Tryz.isAgg4
 z4:=Tryz.sizeOf4
 v4:=Tryz.zeroValue4
 t5:=Tryz.underlying5
 a5:=Tryz.isAgg5
 z5:=Tryz.sizeOf5
 v5:=Tryz.zeroValue5
 t9:=Tryz.underlying9
 a9:=Tryz.isAgg9
 z9:=Tryz.sizeOf9
 v9:=Tryz.zeroValue9
 t22:=Tryz.underlying35
 a22:=Tryz.isAgg35
 z22:=Tryz.sizeOf35
 v22:=Tryz.zeroValue35
 t25:=Tryz.underlying186
 a25:=Tryz.isAgg186
 z25:=Tryz.sizeOf186
 v25:=Tryz.zeroValue186
 t39:=Tryz.underlying127
 a39:=Tryz.isAgg127
 z39:=Tryz.sizeOf127
 v39:=Tryz.zeroValue127
 t45:=Tryz.underlying236
 a45:=Tryz.isAgg236
 z45:=Tryz.sizeOf236
 v45:=Tryz.zeroValue236
 t46:=Tryz.underlying237
 a46:=Tryz.isAgg237
 z46:=Tryz.sizeOf237
 v46:=Tryz.zeroValue237
 t50:=Tryz.underlying222
 a50:=Tryz.isAgg222
 z50:=Tryz.sizeOf222
 v50:=Tryz.zeroValue222
 t53:=Tryz.underlying243
 a53:=Tryz.isAgg243
 z53:=Tryz.sizeOf243
 v53:=Tryz.zeroValue243
 t55:=Tryz.underlying36
 a55:=Tryz.isAgg36
 z55:=Tryz.sizeOf36
 v55:=Tryz.zeroValue36
 t66:=Tryz.underlying255
 a66:=Tryz.isAgg255
 z66:=Tryz.sizeOf255
 v66:=Tryz.zeroValue255
 t70:=Tryz.underlying259
 a70:=Tryz.isAgg259
 z70:=Tryz.sizeOf259
 v70:=Tryz.zeroValue259
 t76:=Tryz.underlying270
 a76:=Tryz.isAgg270
 z76:=Tryz.sizeOf270
 v76:=Tryz.zeroValue270
 t77:=Tryz.underlying271
 a77:=Tryz.isAgg271
 z77:=Tryz.sizeOf271
 v77:=Tryz.zeroValue271 }
theorem Z9p:∀ w,(isAgg (Z2H.t 24)).run Tryz.prog w=.ok true w:=Tryz.isAgg137
theorem Z8o:∀ w,(Go.sizeOf (Z2H.t 24)).run Tryz.prog w=.ok 2 w:=Tryz.sizeOf137
end
section
open Go.RowKit
attribute [local irreducible] aw opsK dK
theorem Z2j (l:List Pr):(l.map prC).length=l.length:=by simp
theorem ZdB (xs:List Pr) (fl:Bool) (hlen:xs.length<=1000000):NSpec Tryz.prog 182 [.vec (xs.map prC) fl] .own ⟨2,xs.map prC⟩:=by
 refine Z26 ok182 (Nat.le_of_ble_eq_true rfl) fun C hC=>?_;have fin:∀ (x:Pr) (xs:List Pr),(∀ c∈(x :: xs).map prC,c.length=2):=fun x xs c hc=>by obtain⟨y,_,rfl⟩:=Y0i.1 hc; rfl
 cases xs with
 | nil =>
   refine go ?_;refine Z5o (.inl ⟨_,_,rfl⟩) rfl fun b=>?_;cases b
   . repeat' (first | refine Zf (ZG (k := 5) rfl 2 (by decide)) ?_ | (first|refine st ?_|(apply B<;>intro hb<;>try cases hb)))
     exact⟨_,_,rfl,.inl rfl,_,rfl,rfl⟩
   . iterate 6 (first|refine st ?_|(apply B<;>intro hb<;>try cases hb))
     refine Z20 (ZG (k:=2) rfl 2 (by decide) _) ?_;refine go ?_;exact⟨_,_,rfl,.inl rfl,_,rfl,rfl⟩
 | cons x xs =>
   repeat' (first|refine Zf (ZG (k:=5) rfl 2 (by decide)) ?_|(first|refine st ?_|(apply B<;>intro hb<;>try cases hb)))
   refine ZD (Zx (k:=0) (m:=(x :: xs).map prC) (fl:=fl) rfl rfl rfl (fin x xs) rfl (by
    show (([]:List (List PV)).length+((x :: xs).map prC).length)*16<=_
    rw [Y0f,List.length_nil];omega)) rfl rfl ?_
   refine go ?_;exact⟨_,_,rfl,.inl rfl,_,rfl,by rw [List.nil_append]; rfl⟩
def pB (p x:Pr):Bool:=((p.1:Int) == (x.1:Int))&&(((p.2:Int) == (x.2:Int))&&true)
theorem Zf9 (p x:Pr):pB p x=true↔p=x:=by
 unfold pB;rw [Bool.and_true,Y0k,beq_iff_eq,beq_iff_eq,Int.ofNat_inj,Int.ofNat_inj];exact⟨fun h=>Prod.ext h.1 h.2,fun h=>by rw [h]; exact⟨rfl,rfl⟩⟩
theorem ZjC {xs:List Pr} {p:Pr}:xs.any (pB p)=decide (p∈xs):=by
 rw [Bool.eq_iff_iff,Y01,decide_eq_true_iff];constructor
 . rintro ⟨x, hx, h⟩;rw [(Zf9 p x).1 h]; exact hx
 . intro h;exact⟨p,h,(Zf9 p p).2 rfl⟩
theorem ZaS (xs:List Pr) (p:Pr) (fl:Bool):Spec Tryz.prog 181 [.vec (xs.map prC) fl,.agg (prC p)] (· = .val (.int .i64 (idxI (pB p) xs))):=by
 have hnl:=Z2j xs;refine Yp ok181 fun C hC=>?_;refine Z2Z (k:=0) rfl fun hmax=>?_;have hlm:xs.length<=maxVec:=by rw [<- hnl]; exact hmax
 refine Zs ?_;refine Zc ?_;refine Z5 rfl rfl rfl ?_;refine go ?_;have hpi:∀ D,innLL D (xs.map prC):=fun D=>Zb (fun _ h=>h.elim) _ (Zl xs);have hpc:∀ D,innL D (prC p):=fun D=>Zv (fun _ h=>h.elim) _ (Z45 p);refine Zn hC (fun i=>i<=xs.length/\(xs.take i).any (pB p)=false) (fun i=>xs.length-i) 0 (fun i => [(0,.vec (xs.map prC) fl),(3,.cp (prC p)),(7,.val (.int .i64 (xs.length:Int))),(8,Yv i)]) (fun _=>[]) (Y0l _) 0 ⟨Y0l _,rfl⟩ ⟨⟨rfl,hpi _⟩,⟨rfl,hpc _⟩,⟨by rw [<- hnl]; rfl,Yt⟩,⟨rfl,Yt⟩,Yt⟩ Yt ?_;rintro i ⟨hi,hno⟩;have hinc:IntKind.i64.wrap ((i:Int)+1)=((i+1:Nat):Int):=Y0v _ ⟨by omega,by simp only [maxVec] at hlm; omega⟩;refine gd 9 ⟨?_⟩;refine Zq rfl rfl rfl (fun hb=>?_) (fun hb=>?_)
 . have hil : i < xs.length := by have := Y0u hb; omega
   clear hb;refine gd 14 ⟨?_⟩;refine Qr (Zm (xs:=xs) (g:=prC) rfl rfl i rfl hil rfl) ?_;refine gd 16 ⟨?_⟩;refine Z8c (b:=pB p xs[i]) rfl rfl rfl (fun hx=>?_) (fun hx=>?_)
   . refine go ?_;exact Z7 rfl Yt (by rw [Z4y hil hno hx])
   . refine go ?_;exact⟨i+1,⟨by omega,Z3i hil hno hx⟩,by omega,⟨⟨rfl,hpi _⟩,⟨rfl,hpc _⟩,⟨rfl,Yt⟩,⟨by show some _=some _; rw [hinc],Yt⟩,Yt⟩,Yt⟩
 . have hil : i = xs.length := by have := of_decide_eq_false hb; omega
   subst hil;rw [Y0q] at hno;refine go ?_;exact Z7 rfl Yt (by rw [Z2e hno]; rfl)
theorem Z7a (xs:List Pr) (p:Pr) (fl:Bool):Spec Tryz.prog 150 [.vec (xs.map prC) fl,.agg (prC p)] (· = .val (.bool (decide (p∈xs)))):=by
 refine Yp ok150 fun C hC=>?_;refine Zs ?_;refine Zc ?_;refine Z5 rfl rfl rfl ?_;refine go ?_;refine Qe (ZaS xs p fl) ⟨Zl xs,Z45 p,Yt⟩ ?_;refine Qo (Z4 rfl ((Z4X (p:=pB p) (xs:=xs)).trans ZjC)) ?_;(refine go ?_;repeat' (apply B<;>intro hb<;>try cases hb))
 all_goals exact Z7 rfl Yt (by rw [hb])
theorem ZjD {esz n:Nat} {e:Env} {h:Heap} {x hi mx:Operand} {l:List (List PV)} {fl:Bool} (hx:ev e x=some (.vec l fl)) (h1:intAt (ev e hi)=some (l.length:Int)) (h2:intAt (ev e mx)=some (l.length:Int)) (hl:∀ c∈l,c.length=esz):dEval (.slc esz x none (some hi) (some mx)) e h n=some (.vec l true,h):=by
 simp only [dEval,hx,bndAt,h1,h2];rw [if_pos ⟨⟨by omega,by omega,by omega,by omega⟩,hl⟩];simp
theorem ZdC (xs:List Pr) (fl:Bool):Spec Tryz.prog 105 [.vec (xs.map prC) fl] (· = .vec (xs.map prC) true):=by
 refine Yp ok105 fun C hC=>?_;refine gd 8 ⟨?_⟩;refine Qo (ZjD rfl rfl rfl (fun c hc=>by obtain⟨y,_,rfl⟩:=Y0i.1 hc; rfl)) ?_;refine go ?_;exact Z7 rfl (Zl xs) rfl
theorem Z8p (xs:List Pr) (fl:Bool) (hne:∀ i (h:i+1<xs.length),xs[i]≠xs[i+1]):Spec Tryz.prog 106 [.vec (xs.map prC) fl] (· = .vec (xs.map prC) fl):=by
 have hnl:=Z2j xs;refine Yp ok106 fun C hC=>?_;refine Z2Z (k:=0) rfl fun hmax=>?_;have hlm:xs.length<=maxVec:=by rw [<- hnl]; exact hmax
 (refine go ?_;repeat' (apply B<;>intro hb<;>try cases hb))
 . exact Z7 rfl (Zl xs) rfl
 . rw [hnl] at hb;have h2:2<=xs.length:=by have:=of_decide_eq_false hb; omega
   clear hb;have hpi:∀ D,innLL D (xs.map prC):=fun D=>Zb (fun _ h=>h.elim) _ (Zl xs);refine Zn hC (fun k=>1<=k/\k<=xs.length) (fun k=>xs.length-k) 0 (fun k => [(0,.vec (xs.map prC) fl),(3,.val (.int .i64 (k:Int)))]) (fun _=>[]) (Y0l _) 1 ⟨Y0m _,by omega⟩ ⟨⟨rfl,hpi _⟩,⟨rfl,Yt⟩,Yt⟩ Yt ?_;rintro k ⟨hk1,hk⟩;have hinc:IntKind.i64.wrap ((k:Int)+1)=((k+1:Nat):Int):=Y0v _ ⟨by omega,by simp only [maxVec] at hlm; omega⟩;have hdec:IntKind.i64.wrap ((k:Int)-1)=((k-1:Nat):Int):=(Y0v _ ⟨by omega,by simp only [maxVec] at hlm; omega⟩).trans (by omega);refine gd 13 ⟨?_⟩;refine Zq rfl rfl rfl (fun hb=>?_) (fun hb=>?_)
   . rw [hnl] at hb;have hil:k<xs.length:=by have:=Y0u hb; omega
     clear hb;refine gd 18 ⟨?_⟩;refine Qr (Zm (xs:=xs) (g:=prC) rfl rfl k rfl hil rfl) ?_;refine gd 22 ⟨?_⟩;refine Qr (ZR rfl hdec) ?_;refine Qr (Zm (xs:=xs) (g:=prC) rfl rfl (k-1) rfl (by omega) rfl) ?_;refine gd 25 ⟨?_⟩;refine Z8c (b:=pB xs[k] xs[k-1]) rfl rfl rfl (fun hx=>?_) (fun hx=>?_)
     . refine absurd ((Zf9 _ _).1 hx).symm ?_;have:=hne (k-1) (by omega);simpa only [show k-1+1=k by omega] using this
     . refine go ?_;exact⟨k+1,⟨by omega,by omega⟩,by omega,⟨⟨rfl,hpi _⟩,⟨by show some _=some _; rw [hinc],Yt⟩,Yt⟩,Yt⟩
   . refine go ?_;exact Z7 rfl (Zl xs) rfl
def cmpP (p q:Pr):Int:=if p.1=q.1 then (p.2:Int)-q.2 else (p.1:Int)-q.1
theorem Z8q (p q:Pr) (hp:p.1<64/\p.2<64) (hq:q.1<64/\q.2<64):Spec Tryz.prog 104 [.agg (prC p),.agg (prC q)] (· = .val (.int .i64 (cmpP p q))):=by
 refine Yp ok104 fun C hC=>?_;have h1:IntKind.i64.wrap ((p.1:Int)-q.1)=(p.1:Int)-q.1:=Y0v _ ⟨by omega,by omega⟩;have h2:IntKind.i64.wrap ((p.2:Int)-q.2)=(p.2:Int)-q.2:=Y0v _ ⟨by omega,by omega⟩;refine Zs ?_;refine Zc ?_;refine Z5 rfl rfl rfl ?_;refine Z5 rfl rfl rfl ?_;(refine go ?_;repeat' (apply B<;>intro hb<;>try cases hb))
 . have h3 : ¬ p.1 = q.1 := fun h => by rw [h] at hb; simp at hb
   exact Z7 rfl Yt (by rw [h1,cmpP,if_neg h3])
 . have h3 : p.1 = q.1 := Int.ofNat_inj.1 (by simpa using hb);exact Z7 rfl Yt (by rw [h2,cmpP,if_pos h3])
abbrev Pr64:={ p:Pr // p.1<64/\p.2<64 }
theorem all64P {xs:List Pr} (h:Small xs):∃ l:List Pr64,l.map (·.1)=xs:=by
 induction xs with
 | nil=>exact⟨[],rfl⟩
 | cons c xs ih =>
   obtain⟨l,hl⟩:=ih fun d hd=>h d (List.mem_cons_of_mem _ hd);exact⟨⟨c,h c (Y0t ..)⟩ :: l,by rw [List.map_cons,hl]⟩
def keyP (p:Pr):Nat:=64*p.1+p.2
theorem ZaT {n ob:Nat} {h:Heap} (xs:List Pr) (hx:Small xs) (hh:h ob=some ⟨2,xs.map prC⟩) :
 ISpec Tryz.prog 103 n [.own ob,.fn 104 []] h fun n' r h'=>n'=n/\r=.tup []/\∃ ys:List Pr,ys.Perm xs/\ys.Pairwise (fun a b=>keyP a<=keyP b)/\h'=h.upd ob ⟨2,ys.map prC⟩:=by
 obtain⟨l,rfl⟩:=all64P hx;have e:∀ l:List Pr64,(l.map (·.1)).map prC=l.map fun c:Pr64=>prC c.1:=fun l=>by rw [List.map_map]; rfl
 rw [e] at hh
 have hs:=Z7w (P:=Tryz.prog) (ρ:=Z2H) (n:=n) sortPair ⟨_,Tryz.func103,by kernel_rfl,by kernel_rfl⟩ 2 (by decide) Z9p Z8o (fun c:Pr64=>prC c.1) (fun c=>rfl) (fun c=>Z45 c.1) (fun c:Pr64=>keyP c.1) (fun a b:Pr64=>cmpP a.1 b.1) (fun a b=>by
  have h1:=a.2; have h2:=b.2;unfold cmpP keyP
  split<;>omega) 104 [] Yt (fun a b=>Z8q a.1 b.1 a.2 b.2) l hh
 refine hs.mono ?_;rintro n' r h' ⟨h1,h2,ys,h3,h4,h5⟩;refine⟨h1,h2,ys.map (·.1),h3.map _,?_,by rw [e]; exact h5⟩;exact List.pairwise_map.2 h4
def SortedP (l:List Pr):Prop:=l.Pairwise fun p q=>p.1<q.1 \/ p.1=q.1/\p.2<q.2
noncomputable def ordC (l:List Pr) (S:List Nat):List PV := [.val (.int .i64 64),.vec (l.map prC) true,.vec (tab (setR (abv l))) false,.vec (tab (setR (bel l))) false,.vec (nums (intsN S)) false]
theorem Z1c (l:List Pr) (S:List Nat):pureL (ordC l S):=⟨Yt,Zl l,Z1y (Z1Y _),Z1y (Z1Y _),ZH _,Yt⟩
def IsOrd (l:List Pr) (r:PV):Prop:=∃ S,r=.cp (ordC l S)
theorem Z8s {l:List Pr} (hl:Small l) (hn:l.Nodup) (hs:l.Pairwise fun a b=>keyP a<=keyP b):SortedP l:=by
 have h:=hs.and hn;refine List.Pairwise.imp_of_mem (fun {p q} hp hq h=>?_) h;have h1:=hl p hp;have h2:=hl q hq;obtain⟨h3,h4⟩:=h;unfold keyP at h3;have h5:¬ (p.1=q.1/\p.2=q.2):=fun h=>h4 (Prod.ext h.1 h.2);omega
theorem Zfb {l:List Pr} (hs:SortedP l):∀ i (h:i+1<l.length),l[i]≠l[i+1]:=fun i h he=>by
 have:=(List.pairwise_iff_getElem.1 hs) i (i+1) (by omega) h (by omega);rw [he] at this;omega
theorem Acy.perm {l m:List Pr} (h:Acy l) (hp:m.Perm l):Acy m:=h.sub fun p hpm=>hp.mem_iff.1 hpm
theorem Small.perm {l m:List Pr} (h:Small l) (hp:m.Perm l):Small m:=fun p hpm=>h p (hp.mem_iff.1 hpm)
theorem Z9r (l:List Pr) (fl:Bool) (hl:Small l) (hn:l.Nodup) (hacy:Acy l) (hlen:l.length<=1000000):Spec Tryz.prog 48 [.val (.int .i64 64),.vec (l.map prC) fl] fun r=>∃ l' o,l'.Perm l/\SortedP l'/\IsOrd l' o/\r=.tup [o,.val (.int .i64 0)]:=by
 have hnl:=Z2j l;have hpl:∀ D,innLL D (l.map prC):=fun D=>Zb (fun _ h=>h.elim) _ (Zl l);refine Yp ok48 fun C hC=>?_;refine go ?_;refine Zn hC (fun i=>i<=l.length) (fun i=>l.length-i) 0 (fun i => [(0,.val (.int .i64 64)),(1,.vec (l.map prC) fl),(16,.vec (l.map prC) fl),(17,.val (.int .i64 l.length)),(18,Yv i)]) (fun _=>[]) (Y0l _) 0 (Y0l _)
  ⟨⟨rfl,Yt⟩,⟨rfl,hpl _⟩,⟨rfl,hpl _⟩,⟨by rw [<- hnl]; rfl,Yt⟩,⟨rfl,Yt⟩,Yt⟩ Yt ?_
 intro i hi;have hinc:IntKind.i64.wrap ((i:Int)+1)=((i+1:Nat):Int):=Y0v _ ⟨by omega,by omega⟩;refine gd 19 ⟨?_⟩;refine Zq rfl rfl rfl (fun hb=>?_) (fun hb=>?_)
 . have hil : i < l.length := by have := Y0u hb; omega
   have hp:=hl _ (Y0j hil);clear hb;refine go ?_;refine Qo (Zm (xs:=l) (g:=prC) rfl rfl i rfl hil rfl) ?_;generalize l[i]=p at hp ⊢;(refine go ?_;repeat' (apply B<;>intro hb<;>try cases hb))
   . refine absurd (Y0u hb) ?_
     split<;>omega
   . rename_i hb2;refine absurd (Y0u hb) ?_
     split<;>omega
   . exact⟨i+1,by omega,by omega,⟨⟨rfl,Yt⟩,⟨rfl,hpl _⟩,⟨rfl,hpl _⟩,⟨rfl,Yt⟩,⟨by show some _=some _; rw [hinc],Yt⟩,Yt⟩,Yt⟩
 . have hil : i = l.length := by have := of_decide_eq_false hb; omega
   subst hil;clear hb
   repeat' (first|refine Zf (ZG (k:=38) rfl 2 (by decide)) ?_|(first|refine st ?_|(apply B<;>intro hb<;>try cases hb)))
   refine ZD (Zx (k:=0) (m:=l.map prC) (fl:=fl) (b:=⟨2,[]⟩) rfl rfl rfl (fun c hc=>by obtain⟨y,_,rfl⟩:=Y0i.1 hc; rfl) rfl (by
    show (0+(l.map prC).length)*16<=_
    rw [hnl];omega)) rfl rfl ?_
   refine go ?_;refine Z1D rfl rfl (ZaT (n:=_) (ob:=1) l hl rfl) ?_;rintro n' r h' ⟨rfl,rfl,ys,hys1,hys2,rfl⟩;have hyl:=hl.perm hys1;have hso:=Z8s hyl (hys1.nodup_iff.2 hn) hys2;have hylen:ys.length<=1000000:=by rw [hys1.length_eq]; exact hlen
   refine gd 43 ⟨?_⟩;refine Zf (Zp (k:=8) (id:=1) rfl rfl (Zl ys)) ?_;refine go ?_;refine Qe (Z8p ys false (Zfb hso)) ⟨Zl ys,Yt⟩ ?_;refine Qe (ZdC ys false) ⟨Zl ys,Yt⟩ ?_;refine go ?_;refine ZP (Zdz ys true hyl (hacy.perm hys1) hylen) rfl rfl rfl rfl ⟨⟨Yt,Zl ys,Yt,Yt,Yt,Yt⟩,Yt⟩ Yt ?_;rintro r b' - - ⟨rfl,S,hT,h64,rfl⟩;refine go ?_;refine ZP (ZaR ys true hyl hylen S hT h64) rfl rfl rfl rfl ⟨⟨Yt,Zl ys,Yt,Yt,ZH _,Yt⟩,Yt⟩ Yt ?_;rintro r b' - - ⟨rfl,rfl⟩;refine gd 54 ⟨?_⟩;refine Zf (Z1E (k:=9) (l:=ordC ys S) rfl rfl (Z1c ys S)) ?_;refine go ?_;exact Z7 rfl ⟨Z1c ys S,Yt,Yt⟩ ⟨ys,_,hys1,hso,⟨S,rfl⟩,rfl⟩
theorem Z8t (l:List Pr) (S:List Nat) (a:Int):Spec Tryz.prog 149 [.cp (ordC l S),.val (.int .i64 a)] (· = .val (.bool (decide (0<=a)&&decide (a<64)))):=by
 refine Yp ok149 fun C hC=>?_;(refine go ?_;repeat' (apply B<;>intro hb<;>try cases hb))
 . have h1 := Y0u hb;rename_i hb2;exact Z7 rfl Yt (by simp_all)
 . exact Z7 rfl Yt (by simp_all)
 . exact Z7 rfl Yt (by simp_all;omega)
theorem Z7A (l:List Pr) (S:List Nat) (hlen:l.length<=1000000):NSpec Tryz.prog 151 [.cp (ordC l S)] .own ⟨2,l.map prC⟩:=by
 refine Z26 ok151 (Nat.le_of_ble_eq_true rfl) fun C hC=>?_;refine go ?_;refine Z47 (ZdB l true hlen) Z6b (by exact Zl l) rfl rfl ⟨Zl l,Yt⟩ ?_;refine go ?_;exact⟨_,_,rfl,.inl rfl,_,rfl,rfl⟩
theorem ZaX (l:List Pr) (S:List Nat) (hlen:l.length<=1000000):Spec Tryz.prog 151 [.cp (ordC l S)] (· = .vec (l.map prC) false) :=
 (Z7A l S hlen).spec (Zl l) (fun _=>.own) (Zl l)
theorem ZaY (l:List Pr) (S:List Nat) (a:Int):Spec Tryz.prog 130 [.cp (ordC l S),.val (.int .i64 a)] (· = setN (if 0<=a/\a<64 then bel l a.toNat else 0)):=by
 refine Yp ok130 fun C hC=>?_;refine go ?_;refine Qe (Z8t l S a) ⟨Z1c l S,Yt,Yt⟩ ?_;by_cases h:0<=a/\a<64
 . rw [if_pos h, decide_eq_true h.1, decide_eq_true h.2];obtain⟨k,rfl⟩:∃ k:Nat,a=(k:Int):=⟨a.toNat,by omega⟩
   have hk:k<64:=by omega
   have hkl:k<(List.range 64).length:=by simpa using hk
   refine gd 15 ⟨?_⟩;refine Qo (Zm (xs:=List.range 64) (g:=setR (bel l)) rfl rfl k rfl hkl rfl) ?_;rw [List.getElem_range];refine go ?_;exact Z7 rfl (Z1 _) rfl
 . rw [if_neg h];have h2:(decide (0<=a)&&decide (a<64))=false:=by
    rw [Bool.and_eq_false_iff];by_cases h1:0<=a
    . exact .inr (Y0w fun h3=>h ⟨h1,h3⟩)
    . exact .inl (Y0w h1)
   rw [h2];refine go ?_;refine Z1a rfl (Z1 0 |> fun h=>by rw [Z1V] at h; exact h) ?_;rw [Z1V]; rfl
theorem ZaZ (l:List Pr) (S:List Nat) (a:Int):Spec Tryz.prog 165 [.cp (ordC l S),.val (.int .i64 a)] (· = setN (if 0<=a/\a<64 then abv l a.toNat else 0)):=by
 refine Yp ok165 fun C hC=>?_;refine go ?_;refine Qe (Z8t l S a) ⟨Z1c l S,Yt,Yt⟩ ?_;by_cases h:0<=a/\a<64
 . rw [if_pos h, decide_eq_true h.1, decide_eq_true h.2];obtain⟨k,rfl⟩:∃ k:Nat,a=(k:Int):=⟨a.toNat,by omega⟩
   have hk:k<64:=by omega
   have hkl:k<(List.range 64).length:=by simpa using hk
   refine gd 15 ⟨?_⟩;refine Qo (Zm (xs:=List.range 64) (g:=setR (abv l)) rfl rfl k rfl hkl rfl) ?_;rw [List.getElem_range];refine go ?_;exact Z7 rfl (Z1 _) rfl
 . rw [if_neg h];have h2:(decide (0<=a)&&decide (a<64))=false:=by
    rw [Bool.and_eq_false_iff];by_cases h1:0<=a
    . exact .inr (Y0w fun h3=>h ⟨h1,h3⟩)
    . exact .inl (Y0w h1)
   rw [h2];refine go ?_;refine Z1a rfl (Z1 0 |> fun h=>by rw [Z1V] at h; exact h) ?_;rw [Z1V]; rfl
theorem ZdE (l:List Pr) (S:List Nat) (a b:Nat) (ha:a<64) (hb:b<64) (hl:Small l) (hn:l.Nodup) (hno:(a,b) ∉ l) (hacy:Acy (l ++ [(a,b)])) (hlen:l.length<=100000):Spec Tryz.prog 114 [.cp (ordC l S),.val (.int .i64 (a:Int)),.val (.int .i64 (b:Int))] fun r=>∃ l' o,l'.Perm (l ++ [(a,b)])/\SortedP l'/\IsOrd l' o/\r=.tup [o,.val (.int .i64 0)]:=by
 have hi:∀ c:Nat,c<64->Spec Tryz.prog 149 [.cp (ordC l S),.val (.int .i64 (c:Int))] (· = .val (.bool true)):=fun c hc=>by
  have:=Z8t l S (c:Int)
  rwa [decide_eq_true (show (0:Int)<=c by omega),decide_eq_true (show (c:Int)<64 by omega)] at this
 have hcon:=Z7a l (a,b) true;rw [Y0w hno] at hcon;have hl2:Small (l ++ [(a,b)]):=fun p hp=>(Y0h.1 hp).elim (hl p) fun h=>by rw [Y0g] at h; subst h; exact⟨ha,hb⟩
 have hn2:(l ++ [(a,b)]).Nodup:=by
  rw [List.nodup_append];exact⟨hn,by simp,fun x hx y hy e=>by rw [Y0g] at hy; subst hy; subst e; exact hno hx⟩
 refine Yp ok114 fun C hC=>?_;refine go ?_;refine Qe (hi a ha) ⟨Z1c l S,Yt,Yt⟩ ?_;refine go ?_;refine Qe (hi b hb) ⟨Z1c l S,Yt,Yt⟩ ?_;refine go ?_;refine Qe hcon ⟨Zl l,Z45 _,Yt⟩ ?_
 repeat' (first|refine Z4r [10] ?_|(first|refine st ?_|(apply B<;>intro hb<;>try cases hb)))
 refine ZgB (Z7A l S (by omega)) Z6b (by exact Zl l) rfl rfl rfl ⟨Z1c l S,Yt⟩ ?_;refine gd 38 ⟨?_⟩;have hap:(l.map prC) ++ [prC (a,b)]=(l ++ [(a,b)]).map prC:=by rw [Y0r]; rfl
 refine Zat (k:=5) (m := [prC (a,b)]) (fl:=true) (b:=⟨2,l.map prC⟩) rfl rfl rfl (fun c hc=>by rw [Y0g] at hc; subst hc; rfl) rfl (by
  show ((l.map prC).length+1)*16<=_
  rw [Z2j];omega) (by show pureLL (l.map prC ++ [prC (a,b)]); rw [hap]; exact Zl _) rfl rfl ?_
 show dK _ _ _ _ (Env.upd _ 38 (.vec (l.map prC ++ [prC (a,b)]) false)) _ _;rw [hap];have hnew:=Z9r (l ++ [(a,b)]) false hl2 hn2 hacy (by rw [Y0e,Y0s];omega);refine Z4s rfl rfl (.inl rfl) hnew ⟨Yt,Zl _,Yt⟩ ?_;rintro r ⟨l',o,h1,h2,⟨S',rfl⟩,rfl⟩;refine go ?_;exact Z7 rfl ⟨Z1c l' S',Yt,Yt⟩ ⟨l',_,h1,h2,⟨S',rfl⟩,rfl⟩
theorem Zb0 (i:Nat) (h:i<64):IntKind.u64.wrap (1*2 ^ (min ((i:Nat):Int).toNat IntKind.u64.bits))=((2 ^ i:Nat):Int):=by
 rw [show min ((i:Nat):Int).toNat IntKind.u64.bits=i by show min i 64=i; omega,Int.one_mul];have h2:=ZI h;have e:((2:Int) ^ i)=((2 ^ i:Nat):Int):=by rw [Int.natCast_pow]; rfl
 rw [e];exact Y0x _ ⟨Int.natCast_nonneg _,Int.ofNat_le.2 (show _<=18446744073709551615 by omega)⟩
theorem ZdF (a:Int):Spec Tryz.prog 109 [.val (.int .i64 a)] (· = .val (.bool (decide (1<=a)&&decide (a<=63)))):=by
 refine Yp ok109 fun C hC=>?_;(refine go ?_;repeat' (apply B<;>intro hb<;>try cases hb))
 all_goals exact Z7 rfl Yt (by simp_all<;>omega)
theorem Z52 (a:Nat) (h1:1<=a) (h2:a<64):Spec Tryz.prog 109 [.val (.int .i64 (a:Int))] (· = .val (.bool true)):=by
 have:=ZdF (a:Int)
 rwa [decide_eq_true (show (1:Int)<=a by omega),decide_eq_true (show (a:Int)<=63 by omega)] at this
theorem Z53 (l:List Pr) (fl:Bool) (hl:Small l) (r:Nat) (hr1:1<=r) (hr:r<64):Spec Tryz.prog 112 [.vec (l.map prC) fl,.val (.int .i64 (r:Int))] (· = .val (.int .u64 (jun l r:Nat))):=by
 have hnl:=Z2j l;have hpl:∀ D,innLL D (l.map prC):=fun D=>Zb (fun _ h=>h.elim) _ (Zl l);refine Yp ok112 fun C hC=>?_;refine Z2Z (k:=0) rfl fun hmax=>?_;have hlm:l.length<=maxVec:=by rw [<- hnl]; exact hmax
 refine go ?_;refine Qe (Z52 r hr1 hr) ⟨Yt,Yt⟩ ?_;refine gd 13 ⟨?_⟩;refine Qo (ZeF rfl rfl (by omega) (Zb0 r hr)) ?_;refine go ?_;refine Zn hC (fun s=>Reach l r s) (fun s=>18446744073709551616-s) 0 (fun s => [(0,.vec (l.map prC) fl),(5,.val (.int .u64 (s:Int)))]) (fun _=>[]) (Y0l _) (2 ^ r) (Reach.init hr) ⟨⟨rfl,hpl _⟩,⟨rfl,Yt⟩,Yt⟩ Yt ?_;intro s hs;have hs64:=hs.lt;refine go ?_;refine Zn hC (fun i=>i<=l.length) (fun i=>l.length-i) 0 (fun i => [(0,.vec (l.map prC) fl),(5,.val (.int .u64 (s:Int))),(6,.val (.int .u64 ((l.take i).foldl (fun n x=>if s.testBit x.1=true then n ||| 2 ^ x.2 else n) s:Nat))),(15,.vec (l.map prC) fl),(16,.val (.int .i64 l.length)),(17,Yv i)]) (fun _=>[]) (Y0l _) 0 (Y0l _)
  ⟨⟨rfl,hpl _⟩,⟨rfl,Yt⟩,⟨rfl,Yt⟩,⟨rfl,hpl _⟩,⟨by rw [<- hnl]; rfl,Yt⟩,⟨rfl,Yt⟩,Yt⟩ Yt ?_
 intro i hi;have hinc:IntKind.i64.wrap ((i:Int)+1)=((i+1:Nat):Int):=Y0v _ ⟨by omega,by simp only [maxVec] at hlm; omega⟩;have hcur:=Z9q (l:=l.take i) (fun p hp=>hl p (List.mem_of_mem_take hp)) s s hs64;refine gd 18 ⟨?_⟩;refine Zq rfl rfl rfl (fun hb=>?_) (fun hb=>?_)
 . have hil : i < l.length := by have := Y0u hb; omega
   have hp:=hl _ (Y0j hil);have htk:=ZdD hil s s;clear hb;generalize (l.take i).foldl (fun n x=>if s.testBit x.1=true then n ||| 2 ^ x.2 else n) s=cur at hcur htk ⊢;refine go ?_;refine Qo (Zm (xs:=l) (g:=prC) rfl rfl i rfl hil rfl) ?_;generalize l[i]=p at hp htk ⊢;(refine go ?_;repeat' (apply B<;>intro hb<;>try cases hb))
   . rw [Z3D s p.1 hp.1, Z3d s p.1, Z6i s p.1] at hb;rw [if_pos hb] at htk;clear hb;have hor:bits .or .u64 (cur:Int) (IntKind.u64.wrap (1*2 ^ (min ((p.2:Nat):Int).toNat IntKind.u64.bits)))=((cur ||| 2 ^ p.2:Nat):Int):=by
      rw [Zb0 p.2 hp.2]; exact bits_or_u64_nat cur (2 ^ p.2) hcur (ZI hp.2)
     exact⟨i+1,by omega,by omega,⟨⟨rfl,hpl _⟩,⟨rfl,Yt⟩,⟨by rw [htk,<- hor]; rfl,Yt⟩,⟨rfl,hpl _⟩,⟨rfl,Yt⟩,⟨by show some _=some _; rw [hinc],Yt⟩,Yt⟩,Yt⟩
   . rw [Z3D s p.1 hp.1, Z3d s p.1, Z6i s p.1] at hb;rw [if_neg (by rw [hb]; decide)] at htk;exact⟨i+1,by omega,by omega,⟨⟨rfl,hpl _⟩,⟨rfl,Yt⟩,⟨by rw [htk]; rfl,Yt⟩,⟨rfl,hpl _⟩,⟨rfl,Yt⟩,⟨by show some _=some _; rw [hinc],Yt⟩,Yt⟩,Yt⟩
 . have hil : i = l.length := by have := of_decide_eq_false hb; omega
   subst hil;rw [Y0q];rw [Y0q] at hcur;clear hb;have hst:=hs.step hl;have hst64:=hst.lt;(refine go ?_;repeat' (apply B<;>intro hb<;>try cases hb))
   . have he : stepJ l s = s := by
      have:=eq_of_beq hb;exact Int.ofNat_inj.1 this
     rw [<- hs.done hl hr he];exact Z7 rfl Yt rfl
   . have he : stepJ l s ≠ s := fun h => by
      rw [show l.foldl (fun n x=>if s.testBit x.1=true then n ||| 2 ^ x.2 else n) s=s from h] at hb;simp at hb
     have hg:=ZaU l s he;exact⟨stepJ l s,hst,by omega,⟨⟨rfl,hpl _⟩,⟨rfl,Yt⟩,Yt⟩,Yt⟩
theorem Z8u (l:List Pr) (fl:Bool) (hl:Small l) (r s:Nat) (hr1:1<=r) (hr:r<64) (hs1:1<=s) (hs:s<64):Spec Tryz.prog 111 [.vec (l.map prC) fl,.val (.int .i64 (r:Int)),.val (.int .i64 (s:Int))] (· = .val (.bool ((jun l r).testBit s))):=by
 refine Yp ok111 fun C hC=>?_;refine go ?_;refine Qe (Z52 s hs1 hs) ⟨Yt,Yt⟩ ?_;refine go ?_;refine Qe (Z53 l fl hl r hr1 hr) ⟨Zl l,Yt,Yt⟩ ?_;(refine go ?_;repeat' (apply B<;>intro hb<;>try cases hb))
 all_goals
  rw [Z3D _ s hs,Z3d _ s,Z6i _ s] at hb;exact Z7 rfl Yt (by rw [hb])
theorem Z7B {α:Type} {S:List α} {t:Nat} (ht:t<S.length):S.take (t+1)=S.take t ++ [S[t]]:=by rw [List.take_add_one,Y0c ht]; rfl
theorem Zfc (l:List Pr) (fl:Bool) (a b:Nat):Spec Tryz.prog 110 [.vec (l.map prC) fl,.val (.int .i64 (a:Int)),.val (.int .i64 (b:Int))] (· = .val (.bool (decide ((a,b)∈l)))):=by
 have hnl:=Z2j l;have hpl:∀ D,innLL D (l.map prC):=fun D=>Zb (fun _ h=>h.elim) _ (Zl l);refine Yp ok110 fun C hC=>?_;refine Z2Z (k:=0) rfl fun hmax=>?_;have hlm:l.length<=maxVec:=by rw [<- hnl]; exact hmax
 refine go ?_;refine Zn hC (fun i=>i<=l.length/\(a,b) ∉ l.take i) (fun i=>l.length-i) 0 (fun i => [(1,.val (.int .i64 (a:Int))),(2,.val (.int .i64 (b:Int))),(9,.vec (l.map prC) fl),(10,.val (.int .i64 l.length)),(11,Yv i)]) (fun _=>[]) (Y0l _) 0 ⟨Y0l _,by simp⟩
  ⟨⟨rfl,Yt⟩,⟨rfl,Yt⟩,⟨rfl,hpl _⟩,⟨by rw [<- hnl]; rfl,Yt⟩,⟨rfl,Yt⟩,Yt⟩ Yt ?_
 rintro i ⟨hi,hno⟩;have hinc:IntKind.i64.wrap ((i:Int)+1)=((i+1:Nat):Int):=Y0v _ ⟨by omega,by simp only [maxVec] at hlm; omega⟩;refine gd 12 ⟨?_⟩;refine Zq rfl rfl rfl (fun hb=>?_) (fun hb=>?_)
 . have hil : i < l.length := by have := Y0u hb; omega
   have htk:=Z7B hil;have hmem:=Y0j hil;clear hb;refine go ?_;refine Qo (Zm (xs:=l) (g:=prC) rfl rfl i rfl hil rfl) ?_;generalize l[i]=p at htk hmem ⊢;have hnext:¬ (a,b)=p->(a,b) ∉ l.take (i+1):=fun h hh=>by
    rw [htk] at hh;rcases Y0h.1 hh with hh|hh
    . exact hno hh
    . exact h (Y0g.1 hh)
   (refine go ?_;repeat' (apply B<;>intro hb<;>try cases hb))
   . rename_i hb2;have h1:p.1=a:=Int.ofNat_inj.1 (by simpa using hb2);have h2:p.2=b:=Int.ofNat_inj.1 (by simpa using hb);refine Z7 rfl Yt ?_;rw [decide_eq_true];rw [<- h1,<- h2]; exact hmem
   . have h2 : ¬ p.2 = b := fun h => by rw [h] at hb; simp at hb
     exact⟨i+1,⟨by omega,hnext fun h=>h2 (by rw [<- h])⟩,by omega,⟨⟨rfl,Yt⟩,⟨rfl,Yt⟩,⟨rfl,hpl _⟩,⟨rfl,Yt⟩,⟨by show some _=some _; rw [hinc],Yt⟩,Yt⟩,Yt⟩
   . have h2 : ¬ p.1 = a := fun h => by rw [h] at hb; simp at hb
     exact⟨i+1,⟨by omega,hnext fun h=>h2 (by rw [<- h])⟩,by omega,⟨⟨rfl,Yt⟩,⟨rfl,Yt⟩,⟨rfl,hpl _⟩,⟨rfl,Yt⟩,⟨by show some _=some _; rw [hinc],Yt⟩,Yt⟩,Yt⟩
 . have hil : i = l.length := by have := of_decide_eq_false hb; omega
   subst hil;rw [Y0q] at hno;clear hb;refine go ?_;exact Z7 rfl Yt (by rw [Y0w hno])
theorem Z2r (l:List Pr) (fl:Bool) (hl:Small l) (s:Nat) (hs:s<18446744073709551616):Spec Tryz.prog 54 [.vec (l.map prC) fl,.val (.int .u64 (s:Int))] (· = .val (.int .u64 (clo l s:Nat))):=by
 have hpl:∀ D,innLL D (l.map prC):=fun D=>Zb (fun _ h=>h.elim) _ (Zl l);refine Yp ok54 fun C hC=>?_;refine go ?_;refine Zn hC (fun r=>1<=r/\r<=64) (fun r=>64-r) 0 (fun r => [(0,.vec (l.map prC) fl),(1,.val (.int .u64 (s:Int))),(5,.val (.int .u64 (cloTo l s r:Nat))),(6,.val (.int .i64 (r:Int)))]) (fun _=>[]) (Y0l _) 1 ⟨Y0m _,by decide⟩
  ⟨⟨rfl,hpl _⟩,⟨rfl,Yt⟩,⟨by rw [Zfa]; rfl,Yt⟩,⟨rfl,Yt⟩,Yt⟩ Yt ?_
 rintro r ⟨hr1,hr⟩;have hinc:IntKind.i64.wrap ((r:Int)+1)=((r+1:Nat):Int):=Y0v _ ⟨by omega,by omega⟩;have hcur:=Zcn l s hr;have hstep:=Z7z l s r;refine gd 8 ⟨?_⟩;refine Zq rfl rfl rfl (fun hb=>?_) (fun hb=>?_)
 . have hrl : r < 64 := by have := Y0u hb; omega
   clear hb;have hor:=bits_or_u64_nat (cloTo l s r) (jun l r) hcur (Zcm l hrl);(refine go ?_;repeat' (apply B<;>intro hb<;>try cases hb))
   . rw [Z3D _ r hrl, Z3d _ r, Z6i _ r] at hb;rw [if_pos ⟨hb,hr1⟩] at hstep;refine Qe (Z53 l fl hl r hr1 hrl) ⟨Zl l,Yt,Yt⟩ ?_;(refine go ?_;repeat' (apply B<;>intro hb<;>try cases hb));exact⟨r+1,⟨by omega,by omega⟩,by omega,⟨⟨rfl,hpl _⟩,⟨rfl,Yt⟩,⟨by rw [hstep,<- hor]; rfl,Yt⟩,⟨by show some _=some _; rw [hinc],Yt⟩,Yt⟩,Yt⟩
   . rw [Z3D _ r hrl, Z3d _ r, Z6i _ r] at hb;rw [if_neg (fun h=>by rw [hb] at h; exact absurd h.1 (by decide))] at hstep;exact⟨r+1,⟨by omega,by omega⟩,by omega,⟨⟨rfl,hpl _⟩,⟨rfl,Yt⟩,⟨by rw [hstep]; rfl,Yt⟩,⟨by show some _=some _; rw [hinc],Yt⟩,Yt⟩,Yt⟩
 . have hrl : r = 64 := by have := of_decide_eq_false hb; omega
   subst hrl;clear hb;refine go ?_;exact Z7 rfl Yt rfl
def ltP (p q:Pr):Prop:=p.1<q.1 \/ p.1=q.1/\p.2<q.2
instance (p q:Pr):Decidable (ltP p q):=inferInstanceAs (Decidable (_ \/ _))
def Linked (l:List Pr) (p:Pr) (l':List Pr):Prop:=l'=l \/ (p ∉ l/\∃ i,i<=l.length/\(∀ q∈l.take i,ltP q p)/\(∀ q,l[i]?=some q->¬ ltP q p)/\l'=l.take i++p :: l.drop i)
theorem Linked.sorted {l:List Pr} {p:Pr} {l':List Pr} (h:Linked l p l') (hs:SortedP l):SortedP l':=by
 rcases h with rfl|⟨hp,i,hi,h1,h2,rfl⟩
 . exact hs
 . have hd : SortedP (l.take i) /\ SortedP (l.drop i) /\ ∀ a ∈ l.take i, ∀ b ∈ l.drop i, ltP a b := by
    have:=hs;unfold SortedP at this;rw [<- List.take_append_drop i l,List.pairwise_append] at this;exact this
   obtain⟨d1,d2,d3⟩:=hd;have h3:∀ q∈l.drop i,ltP p q:=by
    cases hdr:l.drop i with
    | nil=>intro q hq; cases hq
    | cons x r =>
      have hx:l[i]?=some x:=by
       have:=congrArg List.head? hdr;rw [List.head?_drop] at this;exact this
      have hne:x≠p:=fun e=>hp (by rw [<- e]; exact List.mem_of_getElem? hx);have hpx:ltP p x:=by
       have h4:=h2 x hx;have h5:¬ (x.1=p.1/\x.2=p.2):=fun h=>hne (Prod.ext h.1 h.2);unfold ltP at h4 ⊢;omega
      intro q hq;rcases List.mem_cons.1 hq with rfl|hq
      . exact hpx
      . rw [hdr] at d2;have h6:ltP x q:=(List.pairwise_cons.1 d2).1 q hq;unfold ltP at hpx h6 ⊢;omega
   show List.Pairwise _ _;rw [List.pairwise_append];refine⟨d1,List.pairwise_cons.2 ⟨h3,d2⟩,fun a ha b hb=>?_⟩;rcases List.mem_cons.1 hb with rfl|hb
   . exact h1 a ha
   . exact d3 a ha b hb
theorem Linked.mem {l:List Pr} {p:Pr} {l':List Pr} (h:Linked l p l'):∀ q∈l',q∈l \/ q=p:=by
 rcases h with rfl|⟨hp,i,hi,h1,h2,rfl⟩
 . exact fun q hq=>.inl hq
 . intro q hq;rcases Y0h.1 hq with hq|hq
   . exact .inl (List.mem_of_mem_take hq)
   . rcases List.mem_cons.1 hq with rfl | hq
     . exact .inr rfl
     . exact .inl (List.mem_of_mem_drop hq)
theorem Linked.len {l:List Pr} {p:Pr} {l':List Pr} (h:Linked l p l'):l'.length<=l.length+1:=by
 rcases h with rfl|⟨hp,i,hi,h1,h2,rfl⟩
 . omega
 . rw [Y0e,Y04,Y0o,List.length_drop]; omega
theorem ZdG (l:List Pr) (fl:Bool) (hl:Small l) (a b:Nat) (ha:1<=a/\a<64) (hb0:1<=b/\b<64) (hab:a≠b) (hlen:l.length<=100000):Spec Tryz.prog 51 [.vec (l.map prC) fl,.val (.int .i64 (a:Int)),.val (.int .i64 (b:Int))] fun r=>∃ l' fl' e,Linked l (a,b) l'/\r=.tup [.vec (l'.map prC) fl',.val (.int .i64 e)]:=by
 have hnl:=Z2j l;have hpl:∀ D,innLL D (l.map prC):=fun D=>Zb (fun _ h=>h.elim) _ (Zl l);have hne:((a:Int) == (b:Int))=false:=by rw [beq_eq_false_iff_ne]; omega
 refine Yp ok51 fun C hC=>?_;refine go ?_;refine Qe (Z52 a ha.1 ha.2) ⟨Yt,Yt⟩ ?_;refine go ?_;refine Qe (Z52 b hb0.1 hb0.2) ⟨Yt,Yt⟩ ?_;refine gd 20 ⟨?_⟩;refine Zo rfl ?_;refine Qo (Z4 rfl hne) ?_;refine go ?_;refine Qe (Zfc l fl a b) ⟨Zl l,Yt,Yt,Yt⟩ ?_;by_cases hin:(a,b)∈l
 . rw [decide_eq_true hin];refine go ?_;exact Z7 rfl ⟨Zl l,Yt,Yt⟩ ⟨l,fl,5,.inl rfl,rfl⟩
 rw [Y0w hin];refine go ?_;refine Qe (Z8u l fl hl b a hb0.1 hb0.2 ha.1 ha.2) ⟨Zl l,Yt,Yt,Yt⟩ ?_;generalize (jun l b).testBit a=v;cases v
 case true =>
  refine go ?_;exact Z7 rfl ⟨Zl l,Yt,Yt⟩ ⟨l,fl,16,.inl rfl,rfl⟩
 refine gd 8 ⟨?_⟩;refine Z0 rfl rfl rfl ?_;refine Z1s ?_;refine ZeP (X:=Nat) hC (fun i=>i<=l.length/\(∀ q∈l.take i,ltP q (a,b))/\(∀ q,l[i]?=some q->¬ ltP q (a,b))) 0 (fun i => [(0,.vec (l.map prC) fl),(1,.val (.int .i64 (a:Int))),(2,.val (.int .i64 (b:Int))),(8,Yv i)]) (fun _=>[]) (Y0l _) ?_ ?_
 . refine go ?_;refine Zn hC (fun i=>i<=l.length/\∀ q∈l.take i,ltP q (a,b)) (fun i=>l.length-i) 0 (fun i => [(0,.vec (l.map prC) fl),(1,.val (.int .i64 (a:Int))),(2,.val (.int .i64 (b:Int))),(8,Yv i)]) (fun _=>[]) (Y0l _) 0 ⟨Y0l _,by simp⟩ ⟨⟨rfl,hpl _⟩,⟨rfl,Yt⟩,⟨rfl,Yt⟩,⟨rfl,Yt⟩,Yt⟩ Yt ?_;rintro i ⟨hi,hlt⟩;have hinc:IntKind.i64.wrap ((i:Int)+1)=((i+1:Nat):Int):=Y0v _ ⟨by omega,by omega⟩;refine gd 36 ⟨?_⟩;refine Zq rfl rfl rfl (fun hb=>?_) (fun hb=>?_)
   . rw [hnl] at hb;have hil:i<l.length:=by have:=Y0u hb; omega
     have htk:=Z7B hil;have hget:l[i]?=some l[i]:=Y0c hil;clear hb;refine gd 40 ⟨?_⟩;refine Zo rfl ?_;refine Qo (Zm (xs:=l) (g:=prC) rfl rfl i rfl hil rfl) ?_;have ei:∀ {e:Env} {h:Heap} {x j:Operand} {n:Nat},ev e x=some (.vec (l.map prC) fl)->ev e j=some (Yv i)->dEval (.iaddr 2 x j) e h n=some (.cp (prC l[i]),h):=fun h1 h2=>Zm (xs:=l) (g:=prC) h1 h2 i rfl hil rfl;generalize l[i]=p at htk hget ei ⊢;have stop:¬ ltP p (a,b)->∀ q,l[i]?=some q->¬ ltP q (a,b):=fun h q hq=>by rw [hget] at hq; cases hq; exact h
     have more:ltP p (a,b)->∀ q∈l.take (i+1),ltP q (a,b):=fun h q hq=>by
      rw [htk] at hq;rcases Y0h.1 hq with hq|hq
      . exact hlt q hq
      . rw [Y0g] at hq; subst hq; exact h
     refine gd 44 ⟨?_⟩;refine Zo rfl ?_;refine Zq rfl rfl rfl (fun hb=>?_) (fun hb=>?_)
     . have h1 : p.1 < a := by have := Y0u hb; omega
       refine go ?_;exact⟨i+1,⟨by omega,more (.inl h1)⟩,by omega,⟨⟨rfl,hpl _⟩,⟨rfl,Yt⟩,⟨rfl,Yt⟩,⟨by show some _=some _; rw [hinc],Yt⟩,Yt⟩,Yt⟩
     . have h1 : ¬ p.1 < a := by have := of_decide_eq_false hb; omega
       refine gd 48 ⟨?_⟩;refine Zo rfl ?_;refine Qo (ei rfl rfl) ?_;refine gd 52 ⟨?_⟩;refine Zo rfl ?_;refine Zq rfl rfl rfl (fun hb=>?_) (fun hb=>?_)
       . have h2 : p.1 = a := Int.ofNat_inj.1 (eq_of_beq hb);refine gd 56 ⟨?_⟩;refine Zo rfl ?_;refine Qo (ei rfl rfl) ?_;refine gd 60 ⟨?_⟩;refine Zo rfl ?_;refine Zq rfl rfl rfl (fun hb=>?_) (fun hb=>?_)
         . have h3 : p.2 < b := by have := Y0u hb; omega
           refine go ?_;exact⟨i+1,⟨by omega,more (.inr ⟨h2,h3⟩)⟩,by omega,⟨⟨rfl,hpl _⟩,⟨rfl,Yt⟩,⟨rfl,Yt⟩,⟨by show some _=some _; rw [hinc],Yt⟩,Yt⟩,Yt⟩
         . have h3 : ¬ p.2 < b := by have := of_decide_eq_false hb; omega
           refine go ?_;exact⟨i,⟨hi,hlt,stop (by unfold ltP; show ¬ (p.1<a \/ p.1=a/\p.2<b);omega)⟩,⟨⟨rfl,hpl _⟩,⟨rfl,Yt⟩,⟨rfl,Yt⟩,⟨rfl,Yt⟩,Yt⟩,Yt⟩
       . have h2 : ¬ p.1 = a := fun h => by rw [h] at hb; simp at hb
         refine go ?_;exact⟨i,⟨hi,hlt,stop (by unfold ltP; show ¬ (p.1<a \/ p.1=a/\p.2<b);omega)⟩,⟨⟨rfl,hpl _⟩,⟨rfl,Yt⟩,⟨rfl,Yt⟩,⟨rfl,Yt⟩,Yt⟩,Yt⟩
   . rw [hnl] at hb;have hil:i=l.length:=by have:=of_decide_eq_false hb; omega
     clear hb;refine go ?_;exact⟨i,⟨hi,hlt,fun q hq=>by rw [hil,List.getElem?_eq_none (Y0m _)] at hq; cases hq⟩,⟨⟨rfl,hpl _⟩,⟨rfl,Yt⟩,⟨rfl,Yt⟩,⟨rfl,Yt⟩,Yt⟩,Yt⟩
 . rintro i ⟨hi, h1, h2⟩
   repeat' (first|refine Z4r [0,13] ?_|(first|refine st ?_|(apply B<;>intro hb<;>try cases hb)))
   refine Zc8 rfl rfl rfl ?_;refine go ?_;have hm:∀ c∈l.map prC,c.length=2:=fun c hc=>by obtain⟨y,_,rfl⟩:=Y0i.1 hc; rfl
   have ht:(l.take i).length=i:=by rw [Y0o]; omega
   refine Qr (Z9c (xs:=l) (g:=prC) rfl 0 i rfl rfl (Y0l _) hi (fun _=>rfl)) ?_;rw [List.drop_zero]
   refine Qr (Zx (k:=0) (b:=⟨2,[]⟩) rfl rfl rfl (fun c hc=>hm c (by rw [List.map_take] at hc; exact List.mem_of_mem_take hc)) rfl (by
    show (0+((l.take i).map prC).length)*16<=_
    rw [Z2j];omega)) ?_
   refine gd 75 ⟨?_⟩
   refine Qr (Zx (k:=4) (m := [prC (a,b)]) (fl:=true) (b:=⟨2,[]++(l.take i).map prC⟩) rfl rfl rfl (fun c hc=>by rw [Y0g] at hc; subst hc; rfl) rfl (by
    show (([]++(l.take i).map prC).length+1)*16<=_
    rw [List.nil_append,Z2j];omega)) ?_
   refine gd 78 ⟨?_⟩;refine Qr (Z9c (xs:=l) (g:=prC) rfl i l.length rfl (by show some ((l.map prC).length:Int)=_; rw [hnl]) hi (Y0m _) (fun _=>rfl)) ?_;rw [Y0q];have hap:([]++(l.take i).map prC) ++ [prC (a,b)]++(l.drop i).map prC=(l.take i++(a,b) :: l.drop i).map prC:=by simp
   have hby:(([]++(l.take i).map prC ++ [prC (a,b)]).length+((l.drop i).map prC).length)*16<=140737488355328:=by
    rw [List.nil_append,Y0e,Y0s,Z2j,Z2j,List.length_drop]; omega
   have hpp:pureLL ([]++(l.take i).map prC ++ [prC (a,b)]++(l.drop i).map prC):=by rw [hap]; exact Zl _
   refine Zat (k:=9) (m:=(l.drop i).map prC) (fl:=false) (b:=⟨2,[]++(l.take i).map prC ++ [prC (a,b)]⟩) rfl rfl rfl (fun c hc=>hm c (by rw [List.map_drop] at hc; exact List.mem_of_mem_drop hc)) rfl hby hpp rfl rfl ?_;show dK _ _ _ _ (Env.upd _ 79 (.vec ([]++(l.take i).map prC ++ [prC (a,b)]++(l.drop i).map prC) false)) _ _;rw [hap];refine go ?_;exact Z7 rfl ⟨Zl _,Yt,Yt⟩ ⟨_,_,0,.inr ⟨hin,i,hi,h1,h2,rfl⟩,rfl⟩
end
section
open Go.Shelf
def Z2I:Go.Shelf.Ren:=⟨fun|6=>166|15=>147|14=>187|28=>179|29=>180|20=>197|21=>198|22=>199|23=>200|24=>201|25=>202|26=>203|27=>204|46=>209|47=>190|48=>191|49=>210|50=>211|57=>212|n=>n,fun|22=>32|24=>66|25=>232|3=>3|39=>127|0=>0|53=>243|55=>36|4=>4|46=>237|45=>236|50=>222|5=>5|9=>9|66=>255|70=>259|76=>270|77=>271|n=>n,fun|n=>n⟩
theorem sortCube:Go.Proofs.SlLaysF0.n6 Tryz.prog Z2I:={
 mixed:=by kernel_rfl
 f6:=⟨Tryz.f166.name,by decide,Tryz.func166.trans (congrArg some (by kernel_rfl))⟩
 f14:=⟨Tryz.f187.name,by decide,Tryz.func187.trans (congrArg some (by kernel_rfl))⟩
 f15:=Tryz.func147.trans (congrArg some (by kernel_rfl))
 f20:=⟨Tryz.f197.name,by decide,Tryz.func197.trans (congrArg some (by kernel_rfl))⟩
 f21:=⟨Tryz.f198.name,by decide,Tryz.func198.trans (congrArg some (by kernel_rfl))⟩
 f22:=⟨Tryz.f199.name,by decide,Tryz.func199.trans (congrArg some (by kernel_rfl))⟩
 f23:=⟨Tryz.f200.name,by decide,Tryz.func200.trans (congrArg some (by kernel_rfl))⟩
 f24:=⟨Tryz.f201.name,by decide,Tryz.func201.trans (congrArg some (by kernel_rfl))⟩
 f25:=⟨Tryz.f202.name,by decide,Tryz.func202.trans (congrArg some (by kernel_rfl))⟩
 f26:=⟨Tryz.f203.name,by decide,Tryz.func203.trans (congrArg some (by kernel_rfl))⟩
 f27:=⟨Tryz.f204.name,by decide,Tryz.func204.trans (congrArg some (by kernel_rfl))⟩
 f28:=Tryz.func179.trans (congrArg some (by kernel_rfl))
 f29:=Tryz.func180.trans (congrArg some (by kernel_rfl))
 f46:=⟨Tryz.f209.name,by decide,Tryz.func209.trans (congrArg some (by kernel_rfl))⟩
 f47:=Tryz.func190.trans (congrArg some (by kernel_rfl))
 f48:=Tryz.func191.trans (congrArg some (by kernel_rfl))
 f49:=⟨Tryz.f210.name,by decide,Tryz.func210.trans (congrArg some (by kernel_rfl))⟩
 f50:=⟨Tryz.f211.name,by decide,Tryz.func211.trans (congrArg some (by kernel_rfl))⟩
 f57:=⟨Tryz.f212.name,by decide,Tryz.func212.trans (congrArg some (by kernel_rfl))⟩
 t0:=Tryz.underlying0
 a0:=Tryz.isAgg0
 z0:=Tryz.sizeOf0
 v0:=Tryz.zeroValue0
 t3:=Tryz.underlying3
 a3:=Tryz.isAgg3
 z3:=Tryz.sizeOf3
 v3:=Tryz.zeroValue3
 t4:=Tryz.underlying4
 a4:=Tryz.isAgg4
 z4:=Tryz.sizeOf4
 v4:=Tryz.zeroValue4
 t5:=Tryz.underlying5
 a5:=Tryz.isAgg5
 z5:=Tryz.sizeOf5
 v5:=Tryz.zeroValue5
 t9:=Tryz.underlying9
 a9:=Tryz.isAgg9
 z9:=Tryz.sizeOf9
 v9:=Tryz.zeroValue9
 t22:=Tryz.underlying32
 a22:=Tryz.isAgg32
 z22:=Tryz.sizeOf32
 v22:=Tryz.zeroValue32
 t25:=Tryz.underlying232
 a25:=Tryz.isAgg232
 z25:=Tryz.sizeOf232
 v25:=Tryz.zeroValue232
 t39:=Tryz.underlying127
 a39:=Tryz.isAgg127
 z39:=Tryz.sizeOf127
 v39:=Tryz.zeroValue127
 t45:=Tryz.underlying236
 a45:=Tryz.isAgg236
 z45:=Tryz.sizeOf236
 v45:=Tryz.zeroValue236
 t46:=Tryz.underlying237
 a46:=Tryz.isAgg237
 z46:=Tryz.sizeOf237
 v46:=Tryz.zeroValue237
 t50:=Tryz.underlying222
 a50:=Tryz.isAgg222
 z50:=Tryz.sizeOf222
 v50:=Tryz.zeroValue222
 t53:=Tryz.underlying243
 a53:=Tryz.isAgg243
 z53:=Tryz.sizeOf243
 v53:=Tryz.zeroValue243
 t55:=Tryz.underlying36
 a55:=Tryz.isAgg36
 z55:=Tryz.sizeOf36
 v55:=Tryz.zeroValue36
 t66:=Tryz.underlying255
 a66:=Tryz.isAgg255
 z66:=Tryz.sizeOf255
 v66:=Tryz.zeroValue255
 t70:=Tryz.underlying259
 a70:=Tryz.isAgg259
 z70:=Tryz.sizeOf259
 v70:=Tryz.zeroValue259
 t76:=Tryz.underlying270
 a76:=Tryz.isAgg270
 z76:=Tryz.sizeOf270
 v76:=Tryz.zeroValue270
 t77:=Tryz.underlying271
 a77:=Tryz.isAgg271
 z77:=Tryz.sizeOf271
 v77:=Tryz.zeroValue271 }
theorem Z9s:∀ w,(isAgg (Z2I.t 24)).run Tryz.prog w=.ok true w:=Tryz.isAgg66
theorem Z8v:∀ w,(Go.sizeOf (Z2I.t 24)).run Tryz.prog w=.ok 2 w:=Tryz.sizeOf66
end
section
open Go.RowKit
attribute [local irreducible] aw opsK dK
abbrev Cu64:={ c:Cu // Ok64 c }
def SortedC (l:List Cu):Prop:=l.Pairwise fun a b=>keyC a<=keyC b
theorem Zh4 (a b:Cu):cmpC a b<0↔keyC a<keyC b:=by rw [Zh3]; exact Zh2
theorem all64 {xs:List Cu} (h:∀ c∈xs,Ok64 c):∃ l:List Cu64,l.map (·.1)=xs:=by
 induction xs with
 | nil=>exact⟨[],rfl⟩
 | cons c xs ih =>
   obtain⟨l,hl⟩:=ih fun d hd=>h d (List.mem_cons_of_mem _ hd);exact⟨⟨c,h c (Y0t ..)⟩ :: l,by rw [List.map_cons,hl]⟩
theorem Zb3 {n ob:Nat} {h:Heap} (xs:List Cu) (hx:∀ c∈xs,Ok64 c) (hh:h ob=some ⟨2,xs.map cuC⟩) :
 ISpec Tryz.prog 166 n [.own ob,.fn 167 []] h fun n' r h'=>n'=n/\r=.tup []/\∃ ys:List Cu,ys.Perm xs/\SortedC ys/\h'=h.upd ob ⟨2,ys.map cuC⟩:=by
 obtain⟨l,rfl⟩:=all64 hx;have e:∀ l:List Cu64,(l.map (·.1)).map cuC=l.map fun c:Cu64=>cuC c.1:=fun l=>by rw [List.map_map]; rfl
 rw [e] at hh;have hs:=Z7w (P:=Tryz.prog) (ρ:=Z2I) (n:=n) sortCube ⟨_,Tryz.func166,by kernel_rfl,by kernel_rfl⟩ 2 (by decide) Z9s Z8v (fun c:Cu64=>cuC c.1) (fun c=>rfl) (fun c=>Ze c.1) (fun c:Cu64=>keyC c.1) (fun a b:Cu64=>cmpC a.1 b.1) (fun a b=>Zh4 a.1 b.1) 167 [] Yt (fun a b=>Z8w a.1 b.1 a.2 b.2) l hh;refine hs.mono ?_;rintro n' r h' ⟨h1,h2,ys,h3,h4,h5⟩;refine⟨h1,h2,ys.map (·.1),h3.map _,?_,by rw [e]; exact h5⟩;exact List.pairwise_map.2 h4
theorem Z13 (N:Nat) (hN:N<18446744073709551616) (i:Nat) (hi:i<64):Spec Tryz.prog 15 [setN N,Yv i] (· = setN (N ||| 2 ^ i)):=by
 have h:=Z3E N (Y03 (Z32 hN) (by decide)) (i:Int);have e:withN N (i:Int)=N ||| 2 ^ i:=by
  unfold withN;rw [if_pos ⟨by omega,by omega⟩,Int.toNat_natCast]
 rw [e] at h;exact h
theorem ZK (l:List Nat):lowLL (words l)=words l:=by simp [words,Z80,lowL,PV.low]
theorem Z2 (l:List Cu):pureLL (l.map cuC):=Z9 Ze l
theorem Z7E (xs:List Cu) (fl:Bool) (hlen:xs.length<=1000000):NSpec Tryz.prog 46 [.vec (xs.map cuC) fl] .own ⟨2,xs.map cuC⟩:=by
 refine Z26 ok46 (Nat.le_of_ble_eq_true rfl) fun C hC=>?_;have fin:∀ (x:Cu) (xs:List Cu),(∀ c∈(x :: xs).map cuC,c.length=2):=fun x xs c hc=>by obtain⟨y,_,rfl⟩:=Y0i.1 hc; rfl
 cases xs with
 | nil =>
   refine go ?_;refine Z5o (.inl ⟨_,_,rfl⟩) rfl fun b=>?_;cases b
   . repeat' (first | refine Zf (ZG (k := 5) rfl 2 (by decide)) ?_ | (first|refine st ?_|(apply B<;>intro hb<;>try cases hb)))
     exact⟨_,_,rfl,.inl rfl,_,rfl,rfl⟩
   . iterate 6 (first|refine st ?_|(apply B<;>intro hb<;>try cases hb))
     refine Z20 (ZG (k:=2) rfl 2 (by decide) _) ?_;refine go ?_;exact⟨_,_,rfl,.inl rfl,_,rfl,rfl⟩
 | cons x xs =>
   repeat' (first|refine Zf (ZG (k:=5) rfl 2 (by decide)) ?_|(first|refine st ?_|(apply B<;>intro hb<;>try cases hb)))
   refine ZD (Zx (k:=0) (m:=(x :: xs).map cuC) (fl:=fl) rfl rfl rfl (fin x xs) rfl (by
    show (([]:List (List PV)).length+((x :: xs).map cuC).length)*48<=_
    rw [Y0f,List.length_nil];omega)) rfl rfl ?_
   refine go ?_;exact⟨_,_,rfl,.inl rfl,_,rfl,by rw [List.nil_append]; rfl⟩
def cmpR:Cu->List Cu->List Cu
 | _,[] => []
 | p,x :: r=>if eqC x p then cmpR x r else x :: cmpR x r
def cmpL:List Cu->List Cu
 | [] => []
 | a :: r=>a :: cmpR a r
theorem Zh5 (a:Cu):eqC a a=true:=(Zb1 a a).2 rfl
theorem Zct:∀ (p:Cu) (l:List Cu) (c:Cu),c∈cmpR p l \/ c=p↔c∈l \/ c=p
 | _,[],c=>by simp [cmpR]
 | p, x :: r, c => by
   have ih:=Zct x r c;unfold cmpR;cases he:eqC x p with
   | true =>
     obtain rfl:=(Zb1 _ _).1 he;rw [if_pos rfl,ih];simp only [List.mem_cons];exact⟨fun h=>h.elim (fun h=>.inl (.inr h)) .inr,fun h=>h.elim (fun h=>h.elim .inr .inl) .inr⟩
   | false =>
     rw [if_neg (by decide)];simp only [List.mem_cons];constructor
     . rintro ((h | h) | h)
       . exact .inl (.inl h)
       . rcases ih.1 (.inl h) with h | h
         . exact .inl (.inr h)
         . exact .inl (.inl h)
       . exact .inr h
     . rintro ((h | h) | h)
       . exact .inl (.inl h)
       . rcases ih.2 (.inl h) with h | h
         . exact .inl (.inr h)
         . exact .inl (.inl h)
       . exact .inr h
theorem Z8x (l:List Cu) (c:Cu):c∈cmpL l↔c∈l:=by
 cases l with
 | nil=>rfl
 | cons a r =>
   unfold cmpL;rw [List.mem_cons,List.mem_cons];have:=Zct a r c;constructor
   . rintro (h | h)
     . exact .inl h
     . exact (this.1 (.inl h)).symm
   . rintro (h | h)
     . exact .inl h
     . exact (this.2 (.inl h)).symm
theorem Z62:∀ (p:Cu) (l:List Cu),(cmpR p l).Sublist l
 | _,[]=>List.Sublist.refl _
 | p, x :: r => by
   unfold cmpR
   split
   . exact (Z62 x r).cons x
   . exact (Z62 x r).cons_cons x
theorem Zh6 (l:List Cu):(cmpL l).Sublist l:=by
 cases l with
 | nil=>exact List.Sublist.refl _
 | cons a r=>exact (Z62 a r).cons_cons a
theorem Z6C {p x:Cu} {r:List Cu} (h:eqC x p=true):cmpR p (x :: r)=cmpR x r:=by rw [cmpR,if_pos h]
theorem Z6D {p x:Cu} {r:List Cu} (h:eqC x p=false):cmpR p (x :: r)=x :: cmpR x r:=by rw [cmpR,if_neg (by rw [h]; decide)]
theorem Zfh {l:List Cu} {i:Nat} (h:i<l.length):l.drop i=l[i] :: l.drop (i+1):=List.drop_eq_getElem_cons h
theorem Zfi (l:List Cu) {i:Nat} (h:i<l.length):(l.map cuC).getD i []=cuC l[i]:=by simp [Y0b,h]
theorem cut2 (c:Cu):cutAt true 2 0 (cuC c)=some (cuP c):=rfl
section
variable {e:Env} {h:Heap} {n:Nat}
theorem Zfj {esz:Nat} {x:Operand} {lo hi:Option Operand} {id:Nat} {b:Bx} (hx:ev e x=some (.own id)) (hb:h id=some b) (i j:Nat) (hlo:bndAt e 0 lo=some (i:Int)) (hhi:bndAt e b.elems.length hi=some (j:Int)) (hij:i<=j) (hj:j<=b.elems.length) (he:b.esz=esz) :
 fEval (.slc esz x lo hi none) e h n=some (.view id i (j-i),h):=by
 simp only [fEval,hx,hb,hlo,hhi];rw [if_pos ⟨⟨by omega,by omega,by omega⟩,he⟩];simp
theorem Z8y {esz:Nat} {x i:Operand} {id lo len:Nat} {b:Bx} {k:IntKind} {m:Int} (hx:ev e x=some (.view id lo len)) (hi:ev e i=some (.val (.int k m))) (hb:h id=some b) (j:Nat) (hm:m=(j:Int)) (hj:j<len) (hl:lo+len<=b.elems.length) (he:b.esz=esz) :
 dEval (.iaddr esz x i) e h n=some (.ptr id (lo+j) 0,h):=by
 subst hm;simp only [dEval,hx,hi,hb];rw [if_pos ⟨by omega,by omega,hl⟩,if_pos he];simp
theorem Zh7 {z:List Value} {x:Operand} {id lo len:Nat} {b:Bx} (hx:ev e x=some (.view id lo len)) (hb:h id=some b) (hl:lo+len<=b.elems.length) (he:b.esz=z.length) :
 dEval (.clear z x) e h n=some (.val (.tuple #[]),h.upd id ⟨b.esz,b.elems.take lo++(List.replicate len (zpv z)++b.elems.drop (lo+len))⟩):=by
 simp only [dEval,hx,hb];rw [if_pos ⟨hl,he⟩]
theorem Z6E {a:Operand} {k i:Nat} {zs:List Cu} (ha:ev e a=some (.ptr k i 0)) (hb:h k=some ⟨2,zs.map cuC⟩) (hi:i<zs.length):dEval (.load true 2 a) e h n=some (cuP zs[i],h) :=
 Z1S ha hb (by simpa using hi) (by rw [Zfi zs hi]; exact cut2 _)
end
theorem Z7F:∀ {l:List (List PV)},(∀ c∈l,pureL c)->pureLL l
 | [],_=>trivial
 | c :: l,h=>⟨h c (Y0t ..),Z7F fun d hd=>h d (List.mem_cons_of_mem _ hd)⟩
theorem Z9w:∀ (l:List Cu) (p:Nat) (x:Cu),p<l.length->(l.set p x).take (p+1)=l.take p ++ [x]
 | a :: l,0,x,_=>by simp
 | a :: l, p + 1, x, h => by
   have:=Z9w l p x (by simpa using h);simp [this]
theorem ZiE {l:List Cu} {p:Nat} {x:Cu} (h:p<l.length):(l.map cuC).set p (setAt ((l.map cuC).getD p []) 0 (cuP x).cells)=(l.set p x).map cuC:=by
 rw [Zfi l h,List.map_set]
 rfl
def CmpOk (xs:List Cu) (r:PV) (b':Bx):Prop:=∃ m,m<=b'.elems.length/\b'.esz=2/\b'.elems.take m=(cmpL xs).map cuC/\(r=.own 0/\m=b'.elems.length \/ r=.view 0 0 m)
theorem Zfk {xs:List Cu} (h:cmpL xs=xs):CmpOk xs (.own 0) ⟨2,xs.map cuC⟩:=⟨(xs.map cuC).length,Y0m _,rfl,by rw [h,Y0q],.inl ⟨rfl,rfl⟩⟩
theorem Z7b (xs:List Cu) (hx:∀ c∈xs,Ok64 c) (hlen:xs.length<=1000000):VSpec Tryz.prog 168 ⟨2,xs.map cuC⟩ [.own 0,.fn 169 []] (CmpOk xs):=by
 have hml:(xs.map cuC).length=xs.length:=by simp
 refine Z1K ok168 (Nat.le_of_ble_eq_true rfl) fun C hC=>?_;by_cases h2:xs.length<2
 . have hc : cmpL xs = xs := by
    match xs,h2 with
    | [],_=>rfl
    | [a],_=>rfl
   iterate 9 (first|refine st ?_|(apply B<;>intro hb<;>try cases hb))
   refine Qo (Qy rfl (by show ((xs.map cuC).length:Int)<2;omega)) ?_;refine go ?_;exact⟨_,_,rfl,.inl rfl,_,rfl,rfl,Z2 xs,Zfk hc⟩
 . iterate 9 (first|refine st ?_|(apply B<;>intro hb<;>try cases hb))
   refine Qo (Qz rfl (by show ¬ ((xs.map cuC).length:Int)<2;omega)) ?_;have hpl:∀ (l:List Cu) D,innLL D (l.map cuC):=fun l D=>Zb (fun _ h=>h.elim) _ (Z2 l);refine go ?_
   refine Zn hC (fun (k:Nat)=>1<=k/\k<=xs.length/\cmpL xs=xs.take k++cmpR (xs.getD (k-1) (0,0)) (xs.drop k)) (fun k=>xs.length-k) 1 (fun k => [(0,.own 0),(1,.fn 169 []),(5,.val (.int .i64 (k:Int)))]) (fun _ => [(0,⟨2,xs.map cuC⟩)]) (by omega) 1 ⟨by omega,by omega,by
    match xs,h2 with
    | a :: r,_=>rfl⟩
    ⟨⟨rfl,show (0:Nat)<1 by decide⟩,⟨rfl,Yt⟩,⟨rfl,Yt⟩,Yt⟩ ⟨⟨by decide,rfl,hpl _ _⟩,Yt⟩ ?_
   rintro k ⟨hk1,hkl,hcmp⟩;have hinc:IntKind.i64.wrap ((k:Int)+1)=((k+1:Nat):Int):=Y0v _ ⟨by omega,by omega⟩;have hdec:IntKind.i64.wrap ((k:Int)-1)=((k-1:Nat):Int):=(Y0v _ ⟨by omega,by omega⟩).trans (by omega)
   iterate 6 (first|refine st ?_|(apply B<;>intro hb<;>try cases hb))
   by_cases hkl2:k<xs.length
   . refine Qo (Qy rfl (by show (k : Int) < ((xs.map cuC).length : Int); omega)) ?_;refine go ?_;refine Qr (ZE (b:=⟨2,xs.map cuC⟩) rfl rfl rfl k rfl (by show k<(xs.map cuC).length;omega) rfl) ?_;refine Qr (Z6E (zs:=xs) rfl rfl hkl2) ?_;refine go ?_;refine Qr (ZE (b:=⟨2,xs.map cuC⟩) rfl rfl rfl (k-1) hdec (by show k-1<(xs.map cuC).length;omega) rfl) ?_;refine Qr (Z6E (zs:=xs) rfl rfl (show k-1<xs.length by omega)) ?_;have hok1:=hx _ (Y0j hkl2);have hok2:=hx _ (Y0j (show k-1<xs.length by omega));refine Qd (Z6w xs[k] xs[k-1] hok1 hok2) ⟨Zu _,Zu _,Yt⟩ ?_;have hg1:xs.getD (k-1) (0,0)=xs[k-1]:=by simp [Y0b,show k-1<xs.length by omega]
     have hg2:xs.getD k (0,0)=xs[k]:=by simp [Y0b,hkl2]
     rw [hg1,Zfh hkl2] at hcmp;have htk:xs.take (k+1)=xs.take k ++ [xs[k]]:=by rw [List.take_add_one,Y0c hkl2]; rfl
     cases heq:eqC xs[k] xs[k-1]
     case false =>
      rw [Z6D heq] at hcmp;refine go ?_;exact⟨k+1,⟨by omega,by omega,by rw [hcmp,htk,List.append_assoc,Nat.add_sub_cancel,hg2]; rfl⟩,by omega,⟨⟨rfl,show (0:Nat)<1 by decide⟩,⟨rfl,Yt⟩,⟨by show some _=some _; rw [hinc],Yt⟩,Yt⟩,⟨⟨by decide,rfl,hpl _ _⟩,Yt⟩⟩
     rw [Z6C heq] at hcmp;refine go ?_;refine Z5 (Zfj (b:=⟨2,xs.map cuC⟩) rfl rfl k xs.length rfl (by show some ((xs.map cuC).length:Int)=_; rw [hml]) hkl (by show xs.length<=(xs.map cuC).length;omega) rfl) rfl rfl ?_;refine go ?_;refine Zn hC (fun (q:Nat×Nat×List Cu)=>1<=q.2.1/\q.2.1<=xs.length-k/\k<=q.1/\q.1+1<=k+q.2.1/\q.2.2.length=xs.length/\(∀ j,k+q.2.1-1<=j->q.2.2.getD j (0,0)=xs.getD j (0,0))/\cmpL xs=q.2.2.take q.1++cmpR (xs.getD (k+q.2.1-1) (0,0)) (xs.drop (k+q.2.1))) (fun q=>xs.length-q.2.1) 1 (fun q => [(0,.own 0),(1,.fn 169 []),(5,.val (.int .i64 (q.1:Int))),(6,.view 0 k (xs.length-k)),(7,.val (.int .i64 (q.2.1:Int)))]) (fun q => [(0,⟨2,q.2.2.map cuC⟩)]) (by omega) (k,1,xs) ⟨Y0m 1,by show 1<=xs.length-k; omega,Y0m _,Y0m _,rfl,fun _ _=>rfl,by show cmpL xs=xs.take k++cmpR (xs.getD (k+1-1) (0,0)) (xs.drop (k+1)); rw [Nat.add_sub_cancel,hg2]; exact hcmp⟩
      ⟨⟨rfl,show (0:Nat)<1 by decide⟩,⟨rfl,Yt⟩,⟨rfl,Yt⟩,⟨rfl,show (0:Nat)<1 by decide⟩,⟨rfl,Yt⟩,Yt⟩ ⟨⟨by decide,rfl,hpl _ _⟩,Yt⟩ ?_
     rintro⟨p,j,zs⟩ ⟨hj1,hjl,hkp,hpj,hzl,hsame,hc2⟩;dsimp only at hj1 hjl hkp hpj hzl hsame hc2 ⊢;have hzm:(zs.map cuC).length=xs.length:=by simp [hzl]
     have hincj:IntKind.i64.wrap ((j:Int)+1)=((j+1:Nat):Int):=Y0v _ ⟨by omega,by omega⟩;have hdecj:IntKind.i64.wrap ((j:Int)-1)=((j-1:Nat):Int):=(Y0v _ ⟨by omega,by omega⟩).trans (by omega);have hincp:IntKind.i64.wrap ((p:Int)+1)=((p+1:Nat):Int):=Y0v _ ⟨by omega,by omega⟩
     iterate 6 (first|refine st ?_|(apply B<;>intro hb<;>try cases hb))
     by_cases hjl2:j<xs.length-k
     . refine Qo (Qy rfl (by show (j : Int) < ((xs.length - k : Nat) : Int); omega)) ?_;have hb1:k+j<zs.length:=by omega
       have hb2:k+(j-1)<zs.length:=by omega
       have hb3:k+j<xs.length:=by omega
       have hz1:zs[k+j]=xs.getD (k+j) (0,0):=by rw [<- hsame (k+j) (by omega)]; simp [Y0b,hb1]
       have hz2:zs[k+(j-1)]=xs.getD (k+j-1) (0,0):=by rw [<- hsame (k+j-1) (by omega)]; simp [Y0b,show k+j-1<zs.length by omega,show k+(j-1)=k+j-1 by omega]
       have hx1:xs.getD (k+j) (0,0)=xs[k+j]:=by simp [Y0b,hb3]
       have hx2:xs.getD (k+j-1) (0,0)∈xs:=by
        rw [Y0b,Y0c (show k+j-1<xs.length by omega)];exact Y0j _
       refine go ?_;refine Qr (Z8y (b:=⟨2,zs.map cuC⟩) rfl rfl rfl j rfl hjl2 (by show k+(xs.length-k)<=(zs.map cuC).length;omega) rfl) ?_;refine Qr (Z6E (zs:=zs) rfl rfl hb1) ?_;refine go ?_;refine Qr (Z8y (b:=⟨2,zs.map cuC⟩) rfl rfl rfl (j-1) hdecj (by omega) (by show k+(xs.length-k)<=(zs.map cuC).length;omega) rfl) ?_;refine Qr (Z6E (zs:=zs) rfl rfl hb2) ?_;rw [hz1,hz2,hx1];rw [Zfh hb3] at hc2;generalize xs.getD (k+j-1) (0,0)=pv at hc2 hx2 ⊢;refine Qd (Z6w xs[k+j] pv (hx _ (Y0j hb3)) (hx _ hx2)) ⟨Zu _,Zu _,Yt⟩ ?_;have hsx:xs.getD (k+(j+1)-1) (0,0)=xs[k+j]:=by rw [show k+(j+1)-1=k+j by omega]; exact hx1
       cases heq2:eqC xs[k+j] pv
       . rw [Z6D heq2] at hc2;refine go ?_;refine Qo (Z8y (b:=⟨2,zs.map cuC⟩) rfl rfl rfl j rfl hjl2 (by show k+(xs.length-k)<=(zs.map cuC).length;omega) rfl) ?_;refine Qo (Z6E (zs:=zs) rfl rfl hb1) ?_;refine Qo (ZE (b:=⟨2,zs.map cuC⟩) rfl rfl rfl p rfl (by show p<(zs.map cuC).length;omega) rfl) ?_;refine Qo (Z1L (b:=⟨2,zs.map cuC⟩) (p:=cuP zs[k+j]) rfl rfl rfl rfl rfl (by show p<(zs.map cuC).length;omega) (Y0m 2)) ?_;rw [ZiE (show p<zs.length by omega),hz1,hx1];refine go ?_;refine⟨(p+1,j+1,zs.set p xs[k+j]),⟨by show 1<=j+1; omega,by show j+1<=xs.length-k; omega,by show k<=p+1; omega,by show p+1+1<=k+(j+1); omega,by show (zs.set p xs[k+j]).length=xs.length; rw [List.length_set,hzl],fun i hi=>?_,?_⟩,by show xs.length-(j+1)<xs.length-j; omega,⟨⟨rfl,show (0:Nat)<1 by decide⟩,⟨rfl,Yt⟩,⟨by show some _=some _; rw [hincp],Yt⟩,⟨rfl,show (0:Nat)<1 by decide⟩,⟨by show some _=some _; rw [hincj],Yt⟩,Yt⟩,⟨⟨by decide,rfl,hpl _ _⟩,Yt⟩⟩
         . have hi' : k + (j + 1) - 1 <= i := hi;rw [<- hsame i (by omega)];simp [Y0b,List.getElem?_set_ne (show p≠i by omega)]
         . show cmpL xs = (zs.set p xs[k + j]).take (p + 1) ++ cmpR (xs.getD (k + (j + 1) - 1) (0, 0)) (xs.drop (k + (j + 1)));rw [hsx,Z9w zs p _ (by omega),List.append_assoc];exact hc2
       . rw [Z6C heq2] at hc2;refine go ?_;exact⟨(p,j+1,zs),⟨by show 1<=j+1; omega,by show j+1<=xs.length-k; omega,hkp,by show p+1<=k+(j+1); omega,hzl,fun i hi=>hsame i (by have:k+(j+1)-1<=i:=hi;omega),by show cmpL xs=zs.take p++cmpR (xs.getD (k+(j+1)-1) (0,0)) (xs.drop (k+(j+1))); rw [hsx]; exact hc2⟩,by show xs.length-(j+1)<xs.length-j; omega,⟨⟨rfl,show (0:Nat)<1 by decide⟩,⟨rfl,Yt⟩,⟨rfl,Yt⟩,⟨rfl,show (0:Nat)<1 by decide⟩,⟨by show some _=some _; rw [hincj],Yt⟩,Yt⟩,⟨⟨by decide,rfl,hpl _ _⟩,Yt⟩⟩
     . have hjx : j = xs.length - k := by omega
       refine Qo (Qz rfl (by show ¬ (j:Int)<((xs.length-k:Nat):Int);omega)) ?_;have hfin:cmpL xs=zs.take p:=by rw [hc2,List.drop_eq_nil_of_le (by omega)]; simp [cmpR]
       have hpz:p<=(zs.map cuC).length:=by omega
       refine go ?_;refine Z5 (Zfj (b:=⟨2,zs.map cuC⟩) rfl rfl p (zs.map cuC).length rfl rfl hpz (Y0m _) rfl) rfl rfl ?_;refine Qo (Zh7 (b:=⟨2,zs.map cuC⟩) rfl rfl (by show p+((zs.map cuC).length-p)<=(zs.map cuC).length;omega) rfl) ?_;have hy:((zs.map cuC).take p++(List.replicate ((zs.map cuC).length-p) (zpv [.slice none 0 0,.slice none 0 0])++(zs.map cuC).drop (p+((zs.map cuC).length-p)))).length=xs.length:=by
        simp only [Y0e,Y0o,List.length_replicate,List.length_drop,hzm];omega
       have hyt:((zs.map cuC).take p++(List.replicate ((zs.map cuC).length-p) (zpv [.slice none 0 0,.slice none 0 0])++(zs.map cuC).drop (p+((zs.map cuC).length-p)))).take p=(cmpL xs).map cuC:=by
        rw [List.take_append_of_le_length (by rw [Y0o];omega),List.take_take,Nat.min_self,hfin,List.map_take]
       have hyp:pureLL ((zs.map cuC).take p++(List.replicate ((zs.map cuC).length-p) (zpv [.slice none 0 0,.slice none 0 0])++(zs.map cuC).drop (p+((zs.map cuC).length-p)))):=by
        refine Z7F fun c hc=>?_;rcases Y0h.1 hc with h|h
        . obtain⟨x,_,rfl⟩:=Y0i.1 (List.mem_of_mem_take h); exact Ze x
        . rcases Y0h.1 h with h | h
          . rw [List.eq_of_mem_replicate h]; exact⟨Yt,Yt,Yt⟩
          . obtain⟨x,_,rfl⟩:=Y0i.1 (List.mem_of_mem_drop h); exact Ze x
       generalize ((zs.map cuC).take p++(List.replicate ((zs.map cuC).length-p) (zpv [.slice none 0 0,.slice none 0 0])++(zs.map cuC).drop (p+((zs.map cuC).length-p))))=ys at hy hyt hyp ⊢;refine go ?_;refine Z5 (Zfj (b:=⟨2,ys⟩) rfl rfl 0 p rfl rfl (Y0l _) (by show p<=ys.length;omega) rfl) rfl rfl ?_;refine go ?_;exact⟨_,_,rfl,.inl rfl,⟨2,ys⟩,rfl,rfl,hyp,p,by show p<=ys.length; omega,rfl,hyt,.inr rfl⟩
   . have hkx : k = xs.length := by omega
     refine Qo (Qz rfl (by show ¬ (k:Int)<((xs.map cuC).length:Int);omega)) ?_;have hfin:cmpL xs=xs:=by rw [hcmp,hkx,List.drop_length,Y0q]; simp [cmpR]
     refine go ?_;exact⟨_,_,rfl,.inl rfl,_,rfl,rfl,Z2 xs,Zfk hfin⟩
theorem ZjE {P:Program} {z:Rsv} {n i mask:Nat} {d:Option Nat} {e:Env} {h:Heap} {f:Operand} {args:List Operand} {iso:Nat} {alt:Bool} {xs:List DItem} {K:Env->Heap->Prop} {g:FuncId} {caps as0 args':List PV} {v:PV} (hs:Spec P g args' (· = v)) (hf:ev e f=some (.fn g caps)) (ha:evs e args=some as0) (ha':lowL (as0++caps)=args') (hp:pureL args') (hk:dK P z n xs (updO e d v) h K) :
 dK P z n (⟨i,⟨d,.call f args,none⟩,mask,iso,alt⟩ :: xs) e h K:=by
 subst ha';exact Z4s hf ha (.inr rfl) hs hp fun _ hr=>hr▸hk
def mentC (l:List Cu):Nat:=l.foldl (fun s c=>(s ||| c.1) ||| c.2) 0
theorem ZdI (l:List Cu) (c:Cu):mentC (l ++ [c])=(mentC l ||| c.1) ||| c.2:=by simp [mentC,List.foldl_append]
theorem ZdJ {l:List Cu} {i:Nat} (hi:i<l.length):mentC (l.take (i+1))=(mentC (l.take i) ||| l[i].1) ||| l[i].2:=by
 have e:l.take (i+1)=l.take i ++ [l[i]]:=by rw [List.take_add_one,Y0c hi]; rfl
 rw [e,ZdI]
theorem Zcu:∀ (l:List Cu),(∀ c∈l,Ok64 c)->∀ s,s<18446744073709551616->l.foldl (fun s c=>(s ||| c.1) ||| c.2) s<18446744073709551616
 | [],_,s,hs=>hs
 | c :: l, h, s, hs => by
   rw [List.foldl_cons];have hc:=h c (Y0t ..);exact Zcu l (fun d hd=>h d (List.mem_cons_of_mem _ hd)) _ (Z24 (Z24 hs hc.1) hc.2)
theorem Z49 {l:List Cu} (h:∀ c∈l,Ok64 c):mentC l<18446744073709551616:=Zcu l h 0 (by decide)
theorem Z2A (l:List Cu) (fl:Bool) (hl:∀ c∈l,Ok64 c):Spec Tryz.prog 77 [.vec (l.map cuC) fl] (· = setN (mentC l)):=by
 have hnl:(l.map cuC).length=l.length:=by simp
 refine Yp ok77 fun C hC=>?_;refine Z2Z (k:=0) rfl fun hmax=>?_;have hlm:l.length<=maxVec:=by simpa using hmax
 refine go ?_;refine Zn hC (fun (x:Nat×Bool)=>x.1<=l.length) (fun x=>l.length-x.1) 2 (fun x => [(2,.ptr 0 0 0),(3,.ptr 1 0 0),(6,.vec (l.map cuC) fl),(7,.val (.int .i64 (l.length:Int))),(8,.val (.int .i64 (x.1:Int)))])
  (fun x => [(0,⟨1,[[.vec [] true]]⟩),(1,⟨1,[[.vec (words (digs (mentC (l.take x.1)))) x.2]]⟩)]) (Y0l _) (0,true) (Y0l _)
  ⟨⟨rfl,show (0:Nat)<2 by decide⟩,⟨rfl,show (1:Nat)<2 by decide⟩,⟨rfl,Zb (fun _ h=>h.elim) _ (Z2 l)⟩,⟨by rw [<- hnl]; rfl,Yt⟩,⟨rfl,Yt⟩,Yt⟩
  ⟨⟨by decide,rfl,⟨Yt,Yt⟩,Yt⟩,⟨by decide,by rw [List.take_zero,mentC,List.foldl_nil,ZJ]; rfl,⟨Zj _ _,Yt⟩,Yt⟩,Yt⟩ ?_
 rintro⟨i,b⟩ hi;dsimp only at hi ⊢;have hinc:IntKind.i64.wrap ((i:Int)+1)=((i+1:Nat):Int):=Y0v _ ⟨by omega,by simp only [maxVec] at hlm; omega⟩;have hlt:=Z49 fun c hc=>hl c (List.mem_of_mem_take (i:=i) hc);(refine go ?_;repeat' (apply B<;>intro hb<;>try cases hb))
 . have hil : i < l.length := by simpa using hb
   have hci:=hl _ (Y0j hil);refine Qo (Zm (xs:=l) rfl rfl i rfl hil rfl) ?_;refine go ?_;refine ZjE (Z1j (mentC (l.take i)) l[i].1 hlt hci.1) rfl rfl (by show [PV.agg [PV.vec (lowLL (words _)) false],PV.agg [PV.vec (lowLL (words _)) false]]=_; rw [ZK,ZK]; rfl) ⟨Z1 _,Z1 _,Yt⟩ ?_;refine go ?_;refine Qd (Z1j _ l[i].2 (Z24 hlt hci.1) hci.2) ⟨Z1 _,Z1 _,Yt⟩ ?_;(refine go ?_;repeat' (apply B<;>intro hb<;>try cases hb))
   exact⟨(i+1,false),by show i+1<=_; omega,by show _-(i+1)<_-i; omega,
    ⟨⟨rfl,show (0:Nat)<2 by decide⟩,⟨rfl,show (1:Nat)<2 by decide⟩,⟨rfl,Zb (fun _ h=>h.elim) _ (Z2 l)⟩,⟨rfl,Yt⟩,⟨by show some _=some _; rw [hinc],Yt⟩,Yt⟩,
    ⟨⟨by decide,rfl,⟨Yt,Yt⟩,Yt⟩,⟨by decide,by rw [ZdJ hil]; rfl,⟨Zj _ _,Yt⟩,Yt⟩,Yt⟩⟩
 . have hil : i = l.length := by have := of_decide_eq_false hb; omega
   subst hil;rw [Y0q];refine Z1a rfl ⟨by show pureLL (lowLL (words _)); rw [ZK]; exact Za _,Yt⟩ ?_;show PV.agg [PV.vec (lowLL (words _)) false]=_;rw [ZK]
   rfl
def fullL (l:List Cu):List Cu:=l.filter fun c => !emC c
def wholeE (l:List Cu):Int:=if (mentC (fullL l)).testBit 0=true then 1 else if 8<(mem (mentC (fullL l))).length then 3 else 0
end
section
open Go.RowKit
theorem tb {y i:Nat} (h:¬ y.testBit i=true):y.testBit i=false:=by simpa using h
theorem tb2 {b:Bool} (h:¬ b=true):b=false:=by simpa using h
theorem Z4a (a s:Nat):a ||| s=s↔∀ i,a.testBit i=true->s.testBit i=true:=by
 constructor
 . intro h i hi;rw [<- h,Y00,hi,Bool.true_or]
 . intro h;refine Nat.eq_of_testBit_eq fun i=>?_;rw [Y00];cases ha:a.testBit i with
   | false=>rfl
   | true=>rw [h i ha]; rfl
theorem Z2J (a s:Nat):a &&& s=0↔∀ i,a.testBit i=true->s.testBit i=false:=by
 constructor
 . intro h i hi;have:=congrArg (·.testBit i) h;simp only [Y0z,hi,Bool.true_and,Nat.zero_testBit] at this;exact this
 . intro h;refine Nat.eq_of_testBit_eq fun i=>?_;rw [Y0z,Nat.zero_testBit];cases ha:a.testBit i with
   | false=>rfl
   | true=>rw [h i ha]; rfl
theorem Z1u (c:Cu) (s:Nat):hoC c s=true↔(∀ i,c.1.testBit i=true->s.testBit i=true)/\∀ i,c.2.testBit i=true->s.testBit i=false:=by
 unfold hoC;rw [Y0k,Bool.not_eq_true',decide_eq_true_iff,decide_eq_false_iff_not,Decidable.not_not,Z4a,Z2J]
def subB (a b:Nat):Prop:=∀ i,a.testBit i=true->b.testBit i=true
theorem Z9x (a:Nat):subB a a:=fun _ h=>h
section
variable {N:Nat} (hN:N<18446744073709551616)
include hN
end
def minS (b:Cu) (z:Cu×List Cu) (r:Nat):Cu×List Cu :=
 if b.1.testBit r && !z.1.1.testBit r then ((z.1.1 ||| 2 ^ r,z.1.2),z.2 ++ [(z.1.1,z.1.2 ||| 2 ^ r)])
 else if b.2.testBit r && !z.1.2.testBit r then ((z.1.1,z.1.2 ||| 2 ^ r),z.2 ++ [(z.1.1 ||| 2 ^ r,z.1.2)]) else z
def minF (a b:Cu) (l:List Nat):Cu×List Cu:=l.foldl (minS b) (a,[])
def minC (a b:Cu):List Cu:=if emC a then [] else if (meC a b).2 then (minF a b (mem (b.1 ||| b.2))).2 else [a]
def covL:List Cu->Cu->Bool
 | [],c=>emC c
 | b :: l,c=>emC c||if emC (bothC c b) then covL l c else (minC c b).all fun x=>covL l x
theorem Z7H {a:Cu} {r S:Nat}:hoC (a.1 ||| 2 ^ r,a.2) S=(hoC a S&&S.testBit r):=by
 rw [Bool.eq_iff_iff,Y0k,Z1u,Z1u];constructor
 . rintro ⟨h1, h2⟩;exact⟨⟨fun i hi=>h1 i (by rw [Z1p,hi,Bool.true_or]),h2⟩,h1 r (by rw [Z1p]; simp)⟩
 . rintro ⟨⟨h1, h2⟩, h3⟩;refine⟨fun i hi=>?_,h2⟩;rw [Z1p,Bool.or_eq_true,Y0n] at hi;rcases hi with hi|rfl
   . exact h1 i hi
   . exact h3
theorem Zh9 {a:Cu} {r S:Nat}:hoC (a.1,a.2 ||| 2 ^ r) S=(hoC a S && !S.testBit r):=by
 rw [Bool.eq_iff_iff,Y0k,Z1u,Z1u];constructor
 . rintro ⟨h1, h2⟩;refine⟨⟨h1,fun i hi=>h2 i (by rw [Z1p,hi,Bool.true_or])⟩,?_⟩;rw [h2 r (by rw [Z1p]; simp)]; rfl
 . rintro ⟨⟨h1, h2⟩, h3⟩;refine⟨h1,fun i hi=>?_⟩;rw [Z1p,Bool.or_eq_true,Y0n] at hi;rcases hi with hi|rfl
   . exact h2 i hi
   . simpa using h3
theorem Z63 (l:List Cu) (c:Cu) (S:Nat):soC (l ++ [c]) S=(soC l S||hoC c S):=by simp [soC]
def hoAt (b:Cu) (l:List Nat) (S:Nat):Bool:=l.all fun r=>(!b.1.testBit r||S.testBit r)&&(!b.2.testBit r || !S.testBit r)
theorem Zha {b a0:Cu} {l:List Nat} {z:Cu×List Cu} (h1:∀ S,hoC z.1 S=(hoC a0 S&&hoAt b l S)) (h2:∀ S,soC z.2 S=(hoC a0 S && !hoAt b l S)) (r:Nat) (hd:¬ (b.1.testBit r=true/\b.2.testBit r=true)) :
 (∀ S,hoC (minS b z r).1 S=(hoC a0 S&&hoAt b (l ++ [r]) S))/\∀ S,soC (minS b z r).2 S=(hoC a0 S && !hoAt b (l ++ [r]) S):=by
 have hat:∀ S,hoAt b (l ++ [r]) S=(hoAt b l S&&((!b.1.testBit r||S.testBit r)&&(!b.2.testBit r || !S.testBit r))):=fun S=>by simp [hoAt]
 have key:∀ S,hoC z.1 S=true->(z.1.1.testBit r=true->S.testBit r=true)/\(z.1.2.testBit r=true->S.testBit r=false):=fun S h=>⟨((Z1u _ _).1 h).1 r,((Z1u _ _).1 h).2 r⟩
 unfold minS
 split
 . rename_i h;rw [Y0k,Bool.not_eq_true'] at h;have hb2:b.2.testBit r=false:=tb fun h'=>hd ⟨h.1,h'⟩;constructor
   . intro S;rw [Z7H,h1,hat,h.1,hb2];cases hoC a0 S<;>cases hoAt b l S<;>cases S.testBit r<;>rfl
   . intro S;rw [Z63,Zh9,h1,h2,hat,h.1,hb2];cases hoC a0 S<;>cases hoAt b l S<;>cases S.testBit r<;>rfl
 . rename_i h
   split
   . rename_i h';rw [Y0k,Bool.not_eq_true'] at h';have hb1 : b.1.testBit r = false := tb fun h'' => hd ⟨h'',h'.1⟩;constructor
     . intro S;rw [Zh9,h1,hat,h'.1,hb1];cases hoC a0 S<;>cases hoAt b l S<;>cases S.testBit r<;>rfl
     . intro S;rw [Z63,Z7H,h1,h2,hat,h'.1,hb1];cases hoC a0 S<;>cases hoAt b l S<;>cases S.testBit r<;>rfl
   . rename_i h';have e:∀ S,hoC a0 S=true->hoAt b l S=true->((!b.1.testBit r||S.testBit r)&&(!b.2.testBit r || !S.testBit r))=true:=by
      intro S ha hl;have hz:hoC z.1 S=true:=by rw [h1,ha,hl]; rfl
      obtain⟨k1,k2⟩:=key S hz;cases e1:b.1.testBit r<;>cases e2:b.2.testBit r
      . rfl
      . have : z.1.2.testBit r = true := by
         apply Classical.byContradiction;intro hn;exact h' (by rw [e2,tb hn]; rfl)
        rw [k2 this]; rfl
      . have : z.1.1.testBit r = true := by
         apply Classical.byContradiction;intro hn;exact h (by rw [e1,tb hn]; rfl)
        rw [k1 this]; rfl
      . exact absurd ⟨e1,e2⟩ hd
     have e':∀ S,(hoC a0 S&&hoAt b (l ++ [r]) S)=(hoC a0 S&&hoAt b l S)/\(hoC a0 S && !hoAt b (l ++ [r]) S)=(hoC a0 S && !hoAt b l S):=by
      intro S;rw [hat];cases ha:hoC a0 S
      . exact⟨rfl,rfl⟩
      cases hl:hoAt b l S
      . exact⟨rfl,rfl⟩
      rw [e S ha hl];exact⟨rfl,rfl⟩
     exact⟨fun S=>by rw [(e' S).1]; exact h1 S,fun S=>by rw [(e' S).2]; exact h2 S⟩
theorem Z8z (a b:Cu) (hd:b.1 &&& b.2=0):∀ l:List Nat,(∀ S,hoC (minF a b l).1 S=(hoC a S&&hoAt b l S))/\∀ S,soC (minF a b l).2 S=(hoC a S && !hoAt b l S):=by
 have main:∀ (l pre:List Nat) (z:Cu×List Cu),((∀ S,hoC z.1 S=(hoC a S&&hoAt b pre S))/\∀ S,soC z.2 S=(hoC a S && !hoAt b pre S))->(∀ S,hoC (l.foldl (minS b) z).1 S=(hoC a S&&hoAt b (pre++l) S))/\∀ S,soC (l.foldl (minS b) z).2 S=(hoC a S && !hoAt b (pre++l) S):=by
  intro l
  induction l with
  | nil=>intro pre z hz; rw [Y0p]; exact hz
  | cons r l ih =>
    intro pre z hz;have hr:¬ (b.1.testBit r=true/\b.2.testBit r=true):=fun ⟨p,q⟩=>by
     have:=(Z2J _ _).1 hd r p;rw [q] at this; cases this
    have:=ih (pre ++ [r]) (minS b z r) (Zha hz.1 hz.2 r hr);rw [List.append_assoc] at this;exact this
 intro l;exact main l [] (a,[]) ⟨fun S=>by simp [hoAt],fun S=>by simp [hoAt,soC]⟩
theorem Zhb {b:Cu} (hb:Ok64 b) (S:Nat):hoAt b (mem (b.1 ||| b.2)) S=hoC b S:=by
 have hlt:b.1 ||| b.2<18446744073709551616:=Z24 hb.1 hb.2
 rw [Bool.eq_iff_iff,Z1u];unfold hoAt;rw [List.all_eq_true];constructor
 . intro h;constructor
   . intro i hi;have:=h i ((Z1k hlt).2 (by rw [Y00,hi,Bool.true_or]));rw [hi] at this;simp only [Y0k] at this;simpa using this.1
   . intro i hi;have:=h i ((Z1k hlt).2 (by rw [Y00,hi,Bool.or_true]));rw [hi] at this;simp only [Y0k] at this;simpa using this.2
 . rintro ⟨h1, h2⟩ r -;cases e1:b.1.testBit r<;>cases e2:b.2.testBit r<;>first
    | rfl
    | (rw [h1 r e1]; try rw [h2 r e2]
       rfl)
    | (rw [h2 r e2]; rfl)
    | (have:=h1 r e1; rw [h2 r e2] at this; cases this)
theorem Z5q {a b:Cu} {S:Nat}:hoC (bothC a b) S=(hoC a S&&hoC b S):=by
 rw [Bool.eq_iff_iff,Y0k,Z1u,Z1u,Z1u];unfold bothC;simp only [Y00,Bool.or_eq_true]
 exact⟨fun ⟨h1,h2⟩=>⟨⟨fun i hi=>h1 i (.inl hi),fun i hi=>h2 i (.inl hi)⟩,fun i hi=>h1 i (.inr hi),fun i hi=>h2 i (.inr hi)⟩,
  fun ⟨⟨h1,h2⟩,h3,h4⟩=>⟨fun i hi=>hi.elim (h1 i) (h3 i),fun i hi=>hi.elim (h2 i) (h4 i)⟩⟩
theorem Z2B {c:Cu} (h:emC c=true) (S:Nat):hoC c S=false:=by
 apply tb2;intro hs;rw [Z1u] at hs;unfold emC at h;refine Y0u h ((Z2J _ _).2 fun i hi=>?_);apply tb;intro h2;have:=hs.2 i h2;rw [hs.1 i hi] at this;cases this
theorem Z4b {c:Cu} (h:emC c=false):hoC c c.1=true:=by
 unfold emC at h;rw [Z1u];have h0:c.1 &&& c.2=0:=by simpa using h
 refine⟨fun i hi=>hi,fun i hi=>tb fun h1=>?_⟩;have:=(Z2J _ _).1 h0 i h1;rw [hi] at this; cases this
theorem Z8A (c:Cu) (S:Nat):soC [c] S=hoC c S:=by simp [soC]
theorem Z3m (b:Cu) (l:List Cu) (S:Nat):soC (b :: l) S=(hoC b S||soC l S):=rfl
theorem Z64 {a b:Cu} (hb:Ok64 b) (S:Nat):soC (minC a b) S=(hoC a S && !hoC b S):=by
 unfold minC;cases ha:emC a with
 | true=>rw [if_pos rfl,Z2B ha]; rfl
 | false =>
   rw [if_neg (by decide)];unfold meC;cases hm:emC (bothC a b) with
   | true =>
     rw [if_pos rfl,if_neg (by decide),Z8A];have:=Z2B hm S;rw [Z5q] at this
     revert this
     cases hoC a S<;>cases hoC b S<;>decide
   | false =>
     show soC (minF a b (mem (b.1 ||| b.2))).2 S=_;have hd:b.1 &&& b.2=0:=by
      have h0:=Z4b hm;rw [Z5q,Y0k] at h0;apply Classical.byContradiction;intro hn;have:emC b=true:=by unfold emC; exact decide_eq_true hn
      rw [Z2B this] at h0;cases h0.2
     rw [(Z8z a b hd _).2 S,Zhb hb]
theorem Z8B:∀ (l:List Cu),(∀ b∈l,Ok64 b)->∀ c,covL l c=true↔∀ S,hoC c S=true->soC l S=true
 | [], _, c => by
   unfold covL;constructor
   . intro h S hs; rw [Z2B h] at hs; cases hs
   . intro h;apply Classical.byContradiction;intro hn;have:=h c.1 (Z4b (tb2 hn));cases this
 | b :: l, hl, c => by
   have hb:=hl b (Y0t ..);have ih:=Z8B l fun x hx=>hl x (List.mem_cons_of_mem _ hx);unfold covL;cases he:emC c with
   | true=>exact⟨fun _ S hs=>(by rw [Z2B he] at hs; cases hs),fun _=>rfl⟩
   | false =>
     rw [Bool.false_or];cases hm:emC (bothC c b) with
     | true =>
       rw [if_pos rfl,ih];refine forall_congr' fun S=>imp_congr_right fun hs=>?_;have:=Z2B hm S;rw [Z5q,hs,Bool.true_and] at this;rw [Z3m,this,Bool.false_or]
     | false =>
       rw [if_neg (by decide),List.all_eq_true];constructor
       . intro h S hs;rw [Z3m];cases hbs:hoC b S with
         | true=>rfl
         | false =>
           have hx:soC (minC c b) S=true:=by rw [Z64 hb,hs,hbs]; rfl
           obtain⟨x,hx1,hx2⟩:=Y01.1 hx;rw [Bool.false_or];exact (ih x).1 (h x hx1) S hx2
       . intro h x hx;refine (ih x).2 fun S hs=>?_;have hm2:soC (minC c b) S=true:=Y01.2 ⟨x,hx,hs⟩;rw [Z64 hb,Y0k] at hm2;have:=h S hm2.1;rw [Z3m] at this;cases hbs:hoC b S with
         | true=>rw [hbs] at hm2; cases hm2.2
         | false=>rwa [hbs,Bool.false_or] at this
theorem ZiF {b:Cu} {z:Cu×List Cu} {r:Nat} (hr:r<64) (hz:Ok64 z.1/\∀ c∈z.2,Ok64 c):Ok64 (minS b z r).1/\∀ c∈(minS b z r).2,Ok64 c:=by
 have hp:=ZI hr;have s1:∀ {l:List Cu} {c:Cu},(∀ c∈l,Ok64 c)->Ok64 c->∀ d∈l ++ [c],Ok64 d:=fun h1 h2 d hd=>by
  rcases Y0h.1 hd with h|h
  . exact h1 d h
  . rw [Y0g.1 h]; exact h2
 unfold minS
 split
 . exact⟨⟨Z24 hz.1.1 hp,hz.1.2⟩,s1 hz.2 ⟨hz.1.1,Z24 hz.1.2 hp⟩⟩
 . split
   . exact⟨⟨hz.1.1,Z24 hz.1.2 hp⟩,s1 hz.2 ⟨Z24 hz.1.1 hp,hz.1.2⟩⟩
   . exact hz
theorem Zb5 {a b:Cu} (ha:Ok64 a) {l:List Nat} (hl:∀ r∈l,r<64):Ok64 (minF a b l).1/\(∀ c∈(minF a b l).2,Ok64 c)/\(minF a b l).2.length<=l.length:=by
 have main:∀ (l:List Nat),(∀ r∈l,r<64)->∀ z:Cu×List Cu,Ok64 z.1/\(∀ c∈z.2,Ok64 c)->Ok64 (l.foldl (minS b) z).1/\(∀ c∈(l.foldl (minS b) z).2,Ok64 c)/\(l.foldl (minS b) z).2.length<=z.2.length+l.length:=by
  intro l
  induction l with
  | nil=>intro _ z hz; exact⟨hz.1,hz.2,by simp⟩
  | cons r l ih =>
    intro hl z hz;have h:=ih (fun x hx=>hl x (by simp [hx])) (minS b z r) (ZiF (hl r (by simp)) hz);refine⟨h.1,h.2.1,Y03 h.2.2 ?_⟩;have:(minS b z r).2.length<=z.2.length+1:=by
     unfold minS
     split
     . simp
     . split<;>simp
    simp only [Y04]; omega
 have:=main l hl (a,[]) ⟨ha,fun c hc=>by cases hc⟩;exact⟨this.1,this.2.1,by simpa [minF] using this.2.2⟩
theorem ZiG {a b:Cu} (ha:Ok64 a):∀ c∈minC a b,Ok64 c:=by
 intro c hc;unfold minC at hc
 split at hc
 . cases hc
 split at hc
 . exact (Zb5 ha fun r hr=>Z33 hr).2.1 c hc
 . rw [Y0g.1 hc]; exact ha
theorem Zcv (a b:Cu) (ha:Ok64 a):(minC a b).length<=64:=by
 unfold minC
 split
 . simp
 split
 . exact Y03 (Zb5 ha fun r hr=>Z33 hr).2.2 (Z44 _)
 . simp
end
section
open Go.RowKit
attribute [local irreducible] aw opsK dK
def memTo (s k:Nat):List Nat:=(List.range k).filter fun i=>s.testBit i
theorem ZdK (s k:Nat):memTo s (k+1)=memTo s k++(if s.testBit k=true then [k] else []):=by
 unfold memTo;rw [List.range_succ,List.filter_append];cases h:s.testBit k<;>simp [h]
theorem Zfl (s k:Nat):(memTo s k).length<=k:=by
 have:=List.length_filter_le (fun i=>s.testBit i) (List.range k);rw [List.length_range] at this;exact this
theorem Z9A (l m:List Nat):intsN (l++m)=intsN l++intsN m:=by simp [intsN]
theorem Z6F (l m:List Int):nums (l++m)=nums l++nums m:=by simp [nums]
theorem Z8C (s:Nat) (hs:s<18446744073709551616):Spec Tryz.prog 33 [.val (.int .u64 (s:Int))] (· = .vec (nums (intsN (mem s))) false):=by
 refine Yp ok33 fun C hC=>?_
 repeat' (first|refine Zf (ZG (k:=3) rfl 1 (by decide)) ?_|(first|refine st ?_|(apply B<;>intro hb<;>try cases hb)))
 refine ZF hC (fun (i:Nat)=>i<=64) (fun i=>64-i) 1 (fun i => [(0,.val (.int .u64 (s:Int))),(3,.own 0),(4,Yv i)])
  (fun i => [(0,⟨1,nums (intsN (memTo s i))⟩)]) (Y0l _) 0 (Y0l _) (fun i=>i) (fun _ _=>rfl) Zt
  ⟨Qp Yt,⟨_,rfl,.own 0 (by decide)⟩,Qp Yt,Yt⟩ ⟨Qs Yt,Yt⟩ ?_
 intro i hi;have hinc:IntKind.i64.wrap ((i:Int)+1)=((i+1:Nat):Int):=Y0v _ ⟨by omega,by omega⟩;have hstep:=ZdK s i;have hlen:=Zfl s i
 iterate 4 (first|refine st ?_|(apply B<;>intro hb<;>try cases hb))
 refine Zq rfl rfl rfl (fun hb=>?_) (fun hb=>?_)
 . have hil : i < 64 := by have := Y0u hb; omega
   clear hb;(refine go ?_;repeat' (apply B<;>intro hb<;>try cases hb))
   . rw [Z3D s i hil, Z3d s i, Z6i s i] at hb;rw [if_pos hb] at hstep
     refine ZD (Zx (k:=0) (m:=nums [(i:Int)]) (fl:=true) rfl rfl rfl (fun c hc=>by obtain⟨y,_,rfl⟩:=Y0i.1 hc; rfl) rfl (by
      show ((nums (intsN (memTo s i))).length+(nums [(i:Int)]).length)*8<=_;simp [nums,intsN]
      omega)) rfl rfl ?_
     (refine go ?_;repeat' (apply B<;>intro hb<;>try cases hb))
     refine⟨i+1,mv 0 1,by omega,by omega,fun i hi=>absurd hi (Nat.not_lt_zero i),Zy rfl,
      ⟨Qp Yt,⟨_,rfl,.own 0 (by decide)⟩,⟨_,by show some _=some _; rw [hinc],.pure _ Yt⟩,Yt⟩,
      ⟨⟨by decide,_,rfl,?_⟩,Yt⟩⟩
     show RenB _ _ ⟨1,nums (intsN (memTo s i))++nums [(i:Int)]⟩ ⟨1,nums (intsN (memTo s (i+1)))⟩;rw [hstep,Z9A,Z6F,show intsN [i] = [(i:Int)] from rfl];exact .same _ (by rw [<- Z6F]; exact ZH _)
   . rw [Z3D s i hil, Z3d s i, Z6i s i] at hb;rw [if_neg (by rw [hb]; decide),Y0p] at hstep
     exact⟨i+1,fun i=>i,by omega,by omega,fun _ _=>rfl,Zt,
      ⟨Qp Yt,⟨_,rfl,.own 0 (by decide)⟩,⟨_,by show some _=some _; rw [hinc],.pure _ Yt⟩,Yt⟩,
      ⟨⟨by decide,_,rfl,by rw [hstep]; exact .same _ (ZH _)⟩,Yt⟩⟩
 . have hil : i = 64 := by have := of_decide_eq_false hb; omega
   subst hil;clear hb
   repeat' (first|refine Zf (Zp (k:=3) rfl rfl (ZH _)) ?_|(first|refine st ?_|(apply B<;>intro hb<;>try cases hb)))
   exact Z7 rfl (ZH _) rfl
theorem Zhc {N:Nat} (hN:N<18446744073709551616):maskTo (topOf (intsN (mem N))) (intsN (mem N))=N:=by
 have h1:∀ r∈intsN (mem N),0<=r/\r<=topOf (intsN (mem N)):=fun r hr=>by
  obtain⟨x,hx,rfl⟩:=Y0i.1 hr;have:=Z33 hx;exact⟨by omega,(Z9y _ (-1)).2 _ hr (by omega)⟩
 rw [maskTo,Z7G _ 0 h1];refine Nat.eq_of_testBit_eq fun i=>?_;rw [Bool.eq_iff_iff,Z9z,<- Z1k hN];simp only [Nat.zero_testBit,Bool.false_eq_true,false_or];constructor
 . rintro ⟨r, hr, h⟩;obtain⟨x,hx,rfl⟩:=Y0i.1 hr;rw [<- h];simpa using hx
 . intro h;exact⟨(i:Int),Y0i.2 ⟨i,h,rfl⟩,by simp⟩
theorem Z5r (s:Nat) (hs:s<18446744073709551616):Spec Tryz.prog 11 [.val (.int .u64 (s:Int))] (· = setN s):=by
 refine Yp ok11 fun C hC=>?_;refine go ?_;refine Qe (Z8C s hs) ⟨Yt,Yt⟩ ?_;refine Qe (ZaB (intsN (mem s)) false) ⟨ZH _,Yt⟩ ?_;rw [Zhc hs];refine go ?_;exact Z7 rfl (Z1 _) rfl
def raC (c:Cu):List PV := [.val (.int .u64 (c.1:Int)),.val (.int .u64 (c.2:Int))]
theorem Z2K (c:Cu):pureL (raC c):=⟨Yt,Yt,Yt⟩
theorem Z6G (c:Cu) (hc:Ok64 c):Spec Tryz.prog 56 [.agg (raC c)] (· = cuP c):=by
 refine Yp ok56 fun C hC=>?_;refine Zs ?_;refine Zc ?_;refine Z5 rfl rfl rfl ?_;refine go ?_;refine Qd (Z5r c.1 hc.1) ⟨Yt,Yt⟩ ?_;refine go ?_;refine Qd (Z5r c.2 hc.2) ⟨Yt,Yt⟩ ?_;refine go ?_;exact Z7 (r:=cuP c) rfl (Zu c) rfl
theorem Z5G (l:List Cu) (fl:Bool) (hl:∀ c∈l,Ok64 c) (hlen:l.length<=1000000):Spec Tryz.prog 23 [.vec (l.map raC) fl] (· = .vec (l.map cuC) false):=by
 have hnl:(l.map raC).length=l.length:=by simp
 have hrp:∀ m,innLL m (l.map raC):=fun m=>Zb (fun _ h=>h.elim) _ (Z9 Z2K l);refine Yp ok23 fun C hC=>?_
 repeat' (first|refine Zf (ZG (k:=3) rfl 2 (by decide)) ?_|(first|refine st ?_|(apply B<;>intro hb<;>try cases hb)))
 refine ZF hC (fun (i:Nat)=>i<=l.length) (fun i=>l.length-i) 1 (fun i => [(3,.own 0),(6,.vec (l.map raC) fl),(7,.val (.int .i64 (l.length:Int))),(8,Yv i)])
  (fun i => [(0,⟨2,(l.take i).map cuC⟩)]) (Y0l _) 0 (Y0l _) (fun i=>i) (fun _ _=>rfl) Zt
  ⟨⟨_,rfl,.own 0 (by decide)⟩,Qp (hrp _),⟨_,by rw [<- hnl]; rfl,.pure _ Yt⟩,Qp Yt,Yt⟩ ⟨Qs Yt,Yt⟩ ?_
 intro i hi;have hinc:IntKind.i64.wrap ((i:Int)+1)=((i+1:Nat):Int):=Y0v _ ⟨by omega,by omega⟩
 iterate 2 (first|refine st ?_|(apply B<;>intro hb<;>try cases hb))
 refine Zq rfl rfl rfl (fun hb=>?_) (fun hb=>?_)
 . have hil : i < l.length := by have := Y0u hb; omega
   have htake:l.take (i+1)=l.take i ++ [l[i]]:=by rw [List.take_add_one,Y0c hil]; rfl
   clear hb;refine go ?_;refine Qo (Zm (xs:=l) rfl rfl i rfl hil rfl) ?_;refine go ?_;refine Qe (Z6G l[i] (hl _ (Y0j hil))) ⟨Z2K _,Yt⟩ ?_;refine go ?_
   refine ZD (Zx (k:=0) (m := [cuC l[i]]) (fl:=true) rfl rfl rfl (fun c hc=>by rw [Y0g] at hc; subst hc; rfl) rfl (by
    show (((l.take i).map cuC).length+1)*48<=_;rw [Y0f,Y0o]
    omega)) rfl rfl ?_
   refine go ?_
   refine⟨i+1,mv 0 2,by omega,by omega,fun i hi=>absurd hi (Nat.not_lt_zero i),Zy rfl,
    ⟨⟨_,rfl,.own 0 (by decide)⟩,Qp (hrp _),Qp Yt,⟨_,by show some _=some _; rw [hinc],.pure _ Yt⟩,Yt⟩,
    ⟨⟨by decide,_,rfl,?_⟩,Yt⟩⟩
   show RenB _ _ ⟨2,(l.take i).map cuC ++ [cuC l[i]]⟩ ⟨2,(l.take (i+1)).map cuC⟩;rw [htake,Y0r];exact .same _ (by rw [<- List.map_singleton,<- Y0r]; exact Z2 _)
 . have hil : i = l.length := by have := of_decide_eq_false hb; omega
   subst hil;clear hb;rw [Y0q]
   repeat' (first|refine Zf (Zp (k:=3) rfl rfl (Z2 _)) ?_|(first|refine st ?_|(apply B<;>intro hb<;>try cases hb)))
   exact Z7 rfl (Z2 _) rfl
theorem Zfm (a s:Nat):s &&& a=a↔a ||| s=s:=by
 constructor
 . intro h;refine Nat.eq_of_testBit_eq fun i=>?_;have:=congrArg (·.testBit i) h;simp only [Y0z] at this;rw [Y00];cases h1:a.testBit i<;>cases h2:s.testBit i<;>simp_all
 . intro h;refine Nat.eq_of_testBit_eq fun i=>?_;have:=congrArg (·.testBit i) h;simp only [Y00] at this;rw [Y0z];cases h1:a.testBit i<;>cases h2:s.testBit i<;>simp_all
theorem Z3K (c:Cu) (s:Nat) (hc:Ok64 c) (hs:s<18446744073709551616):Spec Tryz.prog 53 [.agg (raC c),.val (.int .u64 (s:Int))] (· = .val (.bool (hoC c s))):=by
 refine Yp ok53 fun C hC=>?_;have h1:=bits_and_u64_nat s c.1 hs hc.1;have h2:=bits_and_u64_nat s c.2 hs hc.2;have e1:(((s &&& c.1:Nat):Int) == (c.1:Int))=decide (c.1 ||| s=s):=by
  rw [Bool.eq_iff_iff,beq_iff_eq,decide_eq_true_iff,<- Zfm]; omega
 have e2:(((s &&& c.2:Nat):Int) == 0) = !decide (c.2 &&& s≠0):=by
  rw [Nat.and_comm s c.2,Bool.eq_iff_iff,beq_iff_eq]; simp
 refine Zs ?_;refine Zc ?_;refine Z5 rfl rfl rfl ?_;(refine go ?_;repeat' (apply B<;>intro hb<;>try cases hb))
 . rw [h1, e1] at *;rw [h2,e2] at hb;exact Z7 rfl Yt (boolE (by unfold hoC; simp_all))
 . rw [h1, e1] at *;rw [h2,e2] at hb;exact Z7 rfl Yt (boolE (by unfold hoC; simp_all))
 . rw [h1, e1] at hb;exact Z7 rfl Yt (boolE (by unfold hoC; simp_all))
theorem Zfn (l:List Cu) (D:Nat->Prop):innLL D (l.map raC):=Zb (fun _ h=>h.elim) _ (Z9 Z2K l)
theorem Z6H (l:List Cu) (fl:Bool) (s:Nat) (hl:∀ c∈l,Ok64 c) (hs:s<18446744073709551616):Spec Tryz.prog 82 [.vec (l.map raC) fl,.val (.int .u64 (s:Int))] (· = .val (.bool (soC l s))):=by
 have hnl:(l.map raC).length=l.length:=by simp
 refine Yp ok82 fun C hC=>?_;refine Z2Z (k:=0) rfl fun hmax=>?_;have hlm:l.length<=maxVec:=by rw [hnl] at hmax; exact hmax
 refine go ?_;refine Zn hC (fun i=>i<=l.length/\(l.take i).any (fun c=>hoC c s)=false) (fun i=>l.length-i) 0 (fun i => [(1,.val (.int .u64 (s:Int))),(7,.vec (l.map raC) fl),(8,.val (.int .i64 (l.length:Int))),(9,Yv i)]) (fun _=>[]) (Y0m _) 0 ⟨Y0l _,rfl⟩
  ⟨⟨rfl,Yt⟩,⟨rfl,Zfn l _⟩,⟨by rw [<- hnl]; rfl,Yt⟩,⟨rfl,Yt⟩,Yt⟩ Yt ?_
 rintro i ⟨hi,hno⟩;have hinc:IntKind.i64.wrap ((i:Int)+1)=((i+1:Nat):Int):=Y0v _ ⟨by omega,by simp only [maxVec] at hlm; omega⟩
 iterate 2 (first|refine st ?_|(apply B<;>intro hb<;>try cases hb))
 refine Zq rfl rfl rfl (fun hb=>?_) (fun hb=>?_)
 . have hil : i < l.length := by have := Y0u hb; omega
   clear hb;refine go ?_;refine Qo (Zm (xs:=l) rfl rfl i rfl hil rfl) ?_;refine go ?_;refine Qe (Z3K l[i] s (hl _ (Y0j hil)) hs) ⟨Z2K _,Yt,Yt⟩ ?_;cases hh:hoC l[i] s
   . refine go ?_;exact⟨i+1,⟨by omega,Z3i hil hno hh⟩,by omega,⟨⟨rfl,Yt⟩,⟨rfl,Zfn l _⟩,⟨rfl,Yt⟩,⟨by show some _=some _; rw [hinc],Yt⟩,Yt⟩,Yt⟩
   . refine go ?_;exact Z7 rfl Yt (boolE (by rw [soC,Y01.2 ⟨l[i],Y0j hil,hh⟩]))
 . have hil : i = l.length := by have := of_decide_eq_false hb; omega
   subst hil;clear hb;rw [Y0q] at hno;refine go ?_;exact Z7 rfl Yt (boolE hno.symm)
theorem Zi3 (a b:Nat) (ha:a<256) (hb:b<256):bits .and .u8 (a:Int) (b:Int)=((a &&& b:Nat):Int):=by
 have h1:(BitVec.ofInt 8 (a:Int)).toNat=a:=by rw [BitVec.ofInt_natCast,BitVec.toNat_ofNat]; exact Nat.mod_eq_of_lt (by omega)
 have h2:(BitVec.ofInt 8 (b:Int)).toNat=b:=by rw [BitVec.ofInt_natCast,BitVec.toNat_ofNat]; exact Nat.mod_eq_of_lt (by omega)
 show IntKind.u8.wrap ((BitVec.ofInt 8 (a:Int) &&& BitVec.ofInt 8 (b:Int)).toNat:Int)=_;rw [BitVec.toNat_and,h1,h2];have:a &&& b<=a:=Nat.and_le_left;exact IntWalk.u8_in _ ⟨by omega,by omega⟩
theorem Zhd {n k:Nat} {e:Env} {h:Heap} {xs:List Cu} {r:PV} {b:Bx} (hk:e k=some r) (hb:h 0=some b) (hp:pureLL b.elems) (hok:CmpOk xs r b):SubA n e h n (e.upd k (.vec ((cmpL xs).map cuC) false)) (h.del 0):=by
 obtain⟨m,hm,hesz,htake,hr⟩:=hok;rcases hr with⟨rfl,rfl⟩|rfl
 . rw [Y0q] at htake;have:=Zp (n:=n) hk hb hp
   rwa [htake] at this
 . have := Z9m (n := n) hk hb (by omega) hp
   rwa [List.drop_zero,htake] at this
def needAt (s:List Cu) (i j:Nat):Bool:=emC (s.getD i (0,0))||(List.range j).any fun k=>decide (k≠i)&&(!emC (s.getD k (0,0))&&wiC (s.getD i (0,0)) (s.getD k (0,0)))
theorem Zb6 (s:List Cu) (i j:Nat):needAt s i (j+1)=(needAt s i j||(decide (j≠i)&&(!emC (s.getD j (0,0))&&wiC (s.getD i (0,0)) (s.getD j (0,0))))):=by
 unfold needAt;rw [List.range_succ,List.any_append,Bool.or_assoc];simp
def simpTo (s:List Cu) (i:Nat):List Cu:=((List.range i).filter fun i => !needAt s i s.length).map fun i=>s.getD i (0,0)
theorem Z6I (s:List Cu) (i:Nat):simpTo s (i+1)=simpTo s i++(if needAt s i s.length then [] else [s.getD i (0,0)]):=by
 unfold simpTo;rw [List.range_succ,List.filter_append,Y0r];cases h:needAt s i s.length<;>simp [h]
theorem ZdL (s:List Cu) (i:Nat):(simpTo s i).length<=i:=by
 unfold simpTo;rw [Y0f];have:=List.length_filter_le (fun i => !needAt s i s.length) (List.range i)
 rwa [List.length_range] at this
def simL (l:List Cu):List Cu:=simpTo (cmpL (sortC l)) (cmpL (sortC l)).length
theorem Z6J (l:List Cu) (fl:Bool) (hl:∀ c∈l,Ok64 c) (hlen:l.length<=1000000):Spec Tryz.prog 141 [.vec (l.map cuC) fl] (· = .vec ((simL l).map cuC) false):=by
 refine Yp ok141 fun C hC=>?_;refine go ?_;refine Z47 (Z7E l fl hlen) Z6b (Z2 _) rfl rfl ⟨Z2 _,Yt⟩ ?_;refine go ?_;refine Z1D rfl rfl (Zb3 (ob:=0) l hl rfl) ?_;rintro n' r h' ⟨rfl,rfl,ys,hperm,hsort,rfl⟩;obtain rfl:=Z9v hperm hsort hl;have h64:∀ c∈sortC l,Ok64 c:=Zcs hl;have hsl:(sortC l).length=l.length:=(Z2u l).length_eq;have hcl:(cmpL (sortC l)).length<=l.length:=by rw [<- hsl]; exact (Zh6 _).length_le
 have hc64:∀ c∈cmpL (sortC l),Ok64 c:=fun c hc=>h64 c ((Z8x _ c).1 hc);unfold simL;refine go ?_;refine Z1D rfl rfl ((Z7b (sortC l) h64 (by omega)).ispec (Z2 _) ⟨rfl,Yt,Yt⟩ rfl) ?_;rintro n' r h' ⟨rfl,b',-,hpb,hok,rfl⟩;refine Zf (Zhd (k:=15) rfl rfl hpb hok) ?_;generalize cmpL (sortC l)=s at hcl hc64 ⊢;have hsm:(s.map cuC).length=s.length:=by simp
 have hpl:∀ (l:List Cu) D,innLL D (l.map cuC):=fun l D=>Zb (fun _ h=>h.elim) _ (Z2 l)
 repeat' (first|refine Zf (ZG (k:=4) rfl 2 (by decide)) ?_|(first|refine st ?_|(apply B<;>intro hb<;>try cases hb)))
 refine ZF hC (fun i=>i<=s.length) (fun i=>s.length-i) 2 (fun i => [(3,.vec (s.map cuC) false),(4,.own 1),(16,.vec (s.map cuC) false),(17,.val (.int .i64 s.length)),(18,Yv i)])
  (fun i => [(1,⟨2,(simpTo s i).map cuC⟩)]) (by omega) 0 (Y0l _) (fun i=>i) (fun _ _=>rfl) Zt
  ⟨Qp (Z2 s),⟨_,rfl,.own 1 (by decide)⟩,Qp (Z2 s),⟨_,by rw [<- hsm]; rfl,.pure _ Yt⟩,Qp Yt,Yt⟩
  ⟨Qs Yt,Yt⟩ ?_
 intro i hi;have hinc:IntKind.i64.wrap ((i:Int)+1)=((i+1:Nat):Int):=Y0v _ ⟨by omega,by omega⟩;have hts:=Z6I s i;have htl:=ZdL s i
 iterate 2 (first|refine st ?_|(apply B<;>intro hb<;>try cases hb))
 refine Zq rfl rfl rfl (fun hb=>?_) (fun hb=>?_)
 . have hil : i < s.length := by have := Y0u hb; omega
   have hgi:s.getD i (0,0)=s[i]:=by simp [Y0b,hil]
   have hci:=hc64 _ (Y0j hil);clear hb;refine go ?_;refine Qo (Zm (xs:=s) (g:=cuC) rfl rfl i rfl hil rfl) ?_;rw [hgi] at hts;have hns:=fun j=>Zb6 s i j;have hn0:needAt s i 0=emC s[i]:=by unfold needAt; rw [hgi]; simp
   rw [hgi] at hns;generalize s[i]=c at hci hts hns hn0 ⊢
   iterate 7 (first|refine st ?_|(apply B<;>intro hb<;>try cases hb))
   refine Zf (Z1E (k:=6) (l:=cuC c) rfl rfl (Ze c)) ?_;refine go ?_;refine Qe (Z18 c hci) ⟨Zu c,Yt⟩ ?_;rw [<- hn0];refine gv ?_;refine Zn hC (fun j=>j<=s.length) (fun j=>s.length-j) 2 (fun j => [(3,.vec (s.map cuC) false),(4,.own 1),(5,Yv i),(6,.cp (cuC c)),(7,.val (.bool (needAt s i j))),(16,.vec (s.map cuC) false),(17,.val (.int .i64 s.length)),(18,Yv i),(25,.vec (s.map cuC) false),(26,.val (.int .i64 s.length)),(27,Yv j)])
    (fun _ => [(1,⟨2,(simpTo s i).map cuC⟩)]) (by omega) 0 (Y0l _)
    ⟨⟨rfl,hpl _ _⟩,⟨rfl,show (1:Nat)<2 by decide⟩,⟨rfl,Yt⟩,⟨rfl,Zj _ _,Zj _ _,Yt⟩,⟨rfl,Yt⟩,⟨rfl,hpl _ _⟩,⟨rfl,Yt⟩,⟨rfl,Yt⟩,⟨rfl,hpl _ _⟩,⟨by rw [<- hsm]; rfl,Yt⟩,⟨rfl,Yt⟩,Yt⟩ ⟨⟨by decide,rfl,hpl _ _⟩,Yt⟩ ?_
   intro j hj;have hincj:IntKind.i64.wrap ((j:Int)+1)=((j+1:Nat):Int):=Y0v _ ⟨by omega,by omega⟩;have hnj:=hns j
   iterate 2 (first|refine st ?_|(apply B<;>intro hb<;>try cases hb))
   refine Zq rfl rfl rfl (fun hb=>?_) (fun hb=>?_)
   . have hjl : j < s.length := by have := Y0u hb; omega
     have hgj:s.getD j (0,0)=s[j]:=by simp [Y0b,hjl]
     have hcj:=hc64 _ (Y0j hjl);clear hb;have hfin:∀ v,needAt s i (j+1)=v->some (PV.val (.bool v))=some (PV.val (.bool (needAt s i (j+1)))):=fun v h=>by rw [h]
     rw [hgj] at hnj;refine go ?_;refine Qo (Zm (xs:=s) (g:=cuC) rfl rfl j rfl hjl rfl) ?_;generalize s[j]=d at hcj hnj ⊢;generalize needAt s i j=v at hnj ⊢;cases v
     . (refine go ?_;repeat' (apply B<;>intro hb<;>try cases hb))
       . have hne : j ≠ i := fun e => by rw [e] at hb; simp at hb
         rw [Bool.false_or,decide_eq_true hne,Bool.true_and] at hnj;refine Qe (Z18 d hcj) ⟨Zu d,Yt⟩ ?_;generalize emC d=v2 at hnj ⊢;cases v2
         . rw [Bool.not_false, Bool.true_and] at hnj;refine go ?_;refine Qe (Z9t c d hci hcj) ⟨Zu c,Zu d,Yt⟩ ?_;refine gv ?_;exact⟨j+1,by omega,by omega,⟨⟨rfl,hpl _ _⟩,⟨rfl,show (1:Nat)<2 by decide⟩,⟨rfl,Yt⟩,⟨rfl,Zj _ _,Zj _ _,Yt⟩,⟨by rw [hnj]; rfl,Yt⟩,⟨rfl,hpl _ _⟩,⟨rfl,Yt⟩,⟨rfl,Yt⟩,⟨rfl,hpl _ _⟩,⟨rfl,Yt⟩,⟨by show some _=some _; rw [hincj],Yt⟩,Yt⟩,⟨⟨by decide,rfl,hpl _ _⟩,Yt⟩⟩
         . rw [Bool.not_true, Bool.false_and] at hnj;(refine go ?_;repeat' (apply B<;>intro hb<;>try cases hb));exact⟨j+1,by omega,by omega,⟨⟨rfl,hpl _ _⟩,⟨rfl,show (1:Nat)<2 by decide⟩,⟨rfl,Yt⟩,⟨rfl,Zj _ _,Zj _ _,Yt⟩,⟨by rw [hnj]; rfl,Yt⟩,⟨rfl,hpl _ _⟩,⟨rfl,Yt⟩,⟨rfl,Yt⟩,⟨rfl,hpl _ _⟩,⟨rfl,Yt⟩,⟨by show some _=some _; rw [hincj],Yt⟩,Yt⟩,⟨⟨by decide,rfl,hpl _ _⟩,Yt⟩⟩
       . have hne : j = i := by
          have h:=hb;simp at h;omega
         rw [Bool.false_or,Y0w (fun h=>h hne),Bool.false_and] at hnj;exact⟨j+1,by omega,by omega,⟨⟨rfl,hpl _ _⟩,⟨rfl,show (1:Nat)<2 by decide⟩,⟨rfl,Yt⟩,⟨rfl,Zj _ _,Zj _ _,Yt⟩,⟨by rw [hnj]; rfl,Yt⟩,⟨rfl,hpl _ _⟩,⟨rfl,Yt⟩,⟨rfl,Yt⟩,⟨rfl,hpl _ _⟩,⟨rfl,Yt⟩,⟨by show some _=some _; rw [hincj],Yt⟩,Yt⟩,⟨⟨by decide,rfl,hpl _ _⟩,Yt⟩⟩
     . rw [Bool.true_or] at hnj;refine go ?_;exact⟨j+1,by omega,by omega,⟨⟨rfl,hpl _ _⟩,⟨rfl,show (1:Nat)<2 by decide⟩,⟨rfl,Yt⟩,⟨rfl,Zj _ _,Zj _ _,Yt⟩,⟨by rw [hnj]; rfl,Yt⟩,⟨rfl,hpl _ _⟩,⟨rfl,Yt⟩,⟨rfl,Yt⟩,⟨rfl,hpl _ _⟩,⟨rfl,Yt⟩,⟨by show some _=some _; rw [hincj],Yt⟩,Yt⟩,⟨⟨by decide,rfl,hpl _ _⟩,Yt⟩⟩
   . have hjl : j = s.length := by have := of_decide_eq_false hb; omega
     subst hjl;clear hb;generalize needAt s i s.length=v at hts ⊢;cases v
     . rw [if_neg (by decide)] at hts;refine go ?_
       refine ZD (Zx (k:=1) (m := [cuC c]) (fl:=true) rfl rfl rfl (fun q hq=>by rw [Y0g] at hq; subst hq; rfl) rfl (by
        show (((simpTo s i).map cuC).length+1)*48<=_
        rw [Y0f];omega)) rfl rfl ?_
       refine go ?_;refine⟨i+1,mv 1 2,by omega,by omega,fun i hi=>absurd hi (Nat.not_lt_zero i),Zy rfl,⟨Qp (Z2 s),⟨_,rfl,.own 1 (by decide)⟩,Qp (Z2 s),Qp Yt,⟨_,by show some _=some _; rw [hinc],.pure _ Yt⟩,Yt⟩,⟨⟨by decide,_,rfl,?_⟩,Yt⟩⟩;show RenB _ _ ⟨2,(simpTo s i).map cuC ++ [cuC c]⟩ ⟨2,(simpTo s (i+1)).map cuC⟩;rw [hts,Y0r];exact .same _ (by rw [<- List.map_singleton,<- Y0r]; exact Z2 _)
     . rw [if_pos rfl, Y0p] at hts;refine go ?_;exact⟨i+1,fun i=>i,by omega,by omega,fun _ _=>rfl,Zt,⟨Qp (Z2 s),Qw 1,Qp (Z2 s),Qp Yt,⟨_,by show some _=some _; rw [hinc],.pure _ Yt⟩,Yt⟩,⟨⟨by decide,_,rfl,by rw [hts]; exact .same _ (Z2 _)⟩,Yt⟩⟩
 . have hil : i = s.length := by have := of_decide_eq_false hb; omega
   subst hil;clear hb
   repeat' (first|refine Zf (Zp (k:=4) rfl rfl (Z2 _)) ?_|(first|refine st ?_|(apply B<;>intro hb<;>try cases hb)))
   exact Z7 rfl (Z2 _) rfl
end
section
open Go.RowKit
theorem Z7I:∀ (l:List Cu) (p:Cu),(p :: l).Pairwise (fun a b=>keyC a<=keyC b)->(∀ c∈p :: l,Ok64 c)->p ∉ cmpR p l/\(cmpR p l).Nodup
 | [],p,_,_=>⟨by simp [cmpR],by simp [cmpR]⟩
 | x :: r, p, hs, h64 => by
   obtain⟨hp,hs2⟩:=List.pairwise_cons.1 hs;obtain⟨i1,i2⟩:=Z7I r x hs2 fun c hc=>h64 c (List.mem_cons_of_mem _ hc);cases he:eqC x p with
   | true =>
     obtain rfl:=(Zb1 _ _).1 he;rw [Z6C he];exact⟨i1,i2⟩
   | false =>
     rw [Z6D he];refine⟨fun hm=>?_,List.nodup_cons.2 ⟨i1,i2⟩⟩;have hne:p≠x:=fun e=>by rw [e,Zh5] at he; cases he
     rcases List.mem_cons.1 hm with h|h
     . exact hne h
     . have hr : p ∈ r := (Z62 x r).subset h;have k1:=hp x (Y0t ..);have k2:=(List.pairwise_cons.1 hs2).1 p hr;exact hne (Zcr (h64 p (Y0t ..)) (h64 x (by simp)) (Nat.le_antisymm k1 k2))
theorem Z7J {l:List Cu} (hl:∀ c∈l,Ok64 c):(cmpL (sortC l)).Nodup:=by
 have hs:=Z3J l;have h64:=Zcs hl;cases h:sortC l with
 | nil=>exact List.nodup_nil
 | cons a r =>
   rw [h] at hs h64;exact List.nodup_cons.2 (Z7I r a hs h64)
theorem getC {s:List Cu} {i:Nat} (h:i<s.length):s.getD i (0,0)=s[i]:=by simp [Y0b,h]
theorem Zcw (s:List Cu) (i:Nat):needAt s i s.length=false↔emC (s.getD i (0,0))=false/\∀ k,k<s.length->k≠i->emC (s.getD k (0,0))=false->wiC (s.getD i (0,0)) (s.getD k (0,0))=false:=by
 unfold needAt;rw [Bool.or_eq_false_iff,List.any_eq_false];refine and_congr_right fun _=>?_;constructor
 . intro h k hk hne he;have:=h k (List.mem_range.2 hk);rw [decide_eq_true hne,he] at this;simpa using this
 . intro h k hk;by_cases hne:k=i
   . simp [hne]
   . cases he : emC (s.getD k (0, 0)) with
     | true=>simp
     | false=>rw [h k (List.mem_range.1 hk) hne he]; simp
theorem ZdM {s:List Cu} {n:Nat} (hn:n<=s.length) {c:Cu} (h:c∈simpTo s n):c∈s/\emC c=false:=by
 obtain⟨i,hi,rfl⟩:=Y0i.1 h;obtain⟨h1,h2⟩:=List.mem_filter.1 hi;rw [List.mem_range] at h1;have h3:=((Zcw s i).1 (by simpa using h2)).1;exact⟨by rw [getC (show i<s.length by omega)]; exact Y0j _,h3⟩
theorem Z2L {l:List Cu} {c:Cu} (h:c∈simL l):c∈l/\emC c=false:=by
 obtain⟨h1,h2⟩:=ZdM (Y0m _) h;exact⟨(Z2u l).mem_iff.1 ((Z8x _ _).1 h1),h2⟩
theorem ZjF {a b:Cu} (he:emC a=false) (h:wiC a b=true):subB b.1 a.1/\subB b.2 a.2:=by
 unfold wiC at h;rw [he,Bool.false_or,Y0k] at h;exact⟨(Z4a _ _).1 (Y0u h.1),(Z4a _ _).1 (Y0u h.2)⟩
theorem Zi4 {a b:Nat} (h:subB a b):a<=b:=by
 have:a ||| b=b:=(Z4a _ _).2 h
 rw [<- this];exact Nat.left_le_or
theorem Zhe {s:List Cu} (hn:s.Nodup):∀ (m i:Nat) (hi:i<s.length),s[i].1+s[i].2<=m->emC s[i]=false->∃ d∈simpTo s s.length,subB d.1 s[i].1/\subB d.2 s[i].2:=by
 intro m;have key:∀ m,(∀ (i:Nat) (hi:i<s.length),s[i].1+s[i].2<m->emC s[i]=false->∃ d∈simpTo s s.length,subB d.1 s[i].1/\subB d.2 s[i].2)->∀ (i:Nat) (hi:i<s.length),s[i].1+s[i].2<=m->emC s[i]=false->∃ d∈simpTo s s.length,subB d.1 s[i].1/\subB d.2 s[i].2:=by
  intro m ih i hi hm he;cases hnd:needAt s i s.length with
  | false=>exact⟨s[i],Y0i.2 ⟨i,List.mem_filter.2 ⟨List.mem_range.2 hi,by rw [hnd]; rfl⟩,getC hi⟩,Z9x _,Z9x _⟩
  | true =>
    have:∃ k,∃ hk:k<s.length,k≠i/\emC s[k]=false/\wiC s[i] s[k]=true:=by
     apply Classical.byContradiction;intro hno
     have:needAt s i s.length=false:=(Zcw s i).2 ⟨by rw [getC hi]; exact he,fun k hk hne hek=>by
      rw [getC hk] at hek ⊢;rw [getC hi]
      exact tb2 fun hw=>hno ⟨k,hk,hne,hek,hw⟩⟩
     rw [hnd] at this; cases this
    obtain⟨k,hk,hne,hek,hw⟩:=this;obtain⟨s1,s2⟩:=ZjF he hw;have l1:=Zi4 s1;have l2:=Zi4 s2;have hlt:s[k].1+s[k].2<m:=by
     apply Classical.byContradiction;intro hge;have e1:s[k].1=s[i].1:=by omega
     have e2:s[k].2=s[i].2:=by omega
     have e3:s[k]=s[i]:=Prod.ext e1 e2;have hp:=List.pairwise_iff_getElem.1 hn;rcases Nat.lt_trichotomy k i with h|h|h
     . exact hp k i hk hi h e3
     . exact hne h
     . exact hp i k hi hk h e3.symm
    obtain⟨d,d1,d2,d3⟩:=ih k hk hlt hek;exact⟨d,d1,fun j hj=>s1 j (d2 j hj),fun j hj=>s2 j (d3 j hj)⟩
 induction m with
 | zero=>exact key 0 fun i hi h=>absurd h (Nat.not_lt_zero _)
 | succ m ih=>exact key (m+1) fun i hi h=>ih i hi (by omega)
theorem ZiH {c d:Cu} (h1:subB d.1 c.1) (h2:subB d.2 c.2) {S:Nat} (h:hoC c S=true):hoC d S=true:=by
 rw [Z1u] at h ⊢;exact⟨fun i hi=>h.1 i (h1 i hi),fun i hi=>h.2 i (h2 i hi)⟩
theorem Z8D {l:List Cu} (hl:∀ c∈l,Ok64 c) (S:Nat):soC (simL l) S=soC l S:=by
 rw [Bool.eq_iff_iff];unfold soC;rw [Y01,Y01];constructor
 . rintro ⟨c, hc, hs⟩;exact⟨c,(Z2L hc).1,hs⟩
 . rintro ⟨c, hc, hs⟩;have he:emC c=false:=tb2 fun he=>by rw [Z2B he] at hs; cases hs
   obtain⟨i,hi,rfl⟩:=List.getElem_of_mem ((Z8x _ _).2 ((Z2u l).mem_iff.2 hc));obtain⟨d,d1,d2,d3⟩:=Zhe (Z7J hl) _ i hi (Y0m _) he;exact⟨d,d1,ZiH d2 d3 hs⟩
theorem Z7K (s:List Cu):∀ n,n<=s.length->(simpTo s n).Sublist (s.take n)
 | 0,_=>by simp [simpTo]
 | n + 1, h => by
   rw [Z6I,List.take_add_one,Y0c (show n<s.length by omega)];refine (Z7K s n (by omega)).append ?_;rw [getC (show n<s.length by omega)]
   split
   . exact List.nil_sublist _
   . exact List.Sublist.refl _
theorem Z5s {l:List Cu} (hl:∀ c∈l,Ok64 c):(simL l).Nodup:=by
 have:=Z7K (cmpL (sortC l)) _ (Y0m _);rw [Y0q] at this;exact (Z7J hl).sublist this
theorem orSub {a b:Nat}:a ||| b=b↔∀ i,a.testBit i=true->b.testBit i=true:=by
 constructor
 . intro h i hi;rw [<- h,Y00,hi,Bool.true_or]
 . intro h;refine Nat.eq_of_testBit_eq fun i=>?_;rw [Y00];cases hi:a.testBit i with
   | true=>rw [h i hi]; rfl
   | false=>rw [Bool.false_or]
theorem Zhf {a b:Nat}:a &&& b=0↔∀ i,a.testBit i=true->b.testBit i=false:=by
 constructor
 . intro h i hi;have h1:=congrArg (·.testBit i) h;simp only [Y0z,hi,Bool.true_and,Nat.zero_testBit] at h1;exact h1
 . intro h;refine Nat.eq_of_testBit_eq fun i=>?_;rw [Y0z,Nat.zero_testBit];cases hi:a.testBit i with
   | true=>rw [h i hi]; rfl
   | false=>rw [Bool.false_and]
structure RU where
 rev:Bool
 cu:Cu
 tg:Nat
 og:Nat
structure PB where
 n:Nat
 l:List Pr
 st:Nat
 rs:List RU
 nv:List Cu
 gl:List Cu
def mkN (n:Nat):Nat:=2*2 ^ n-2
theorem Z2k (n i:Nat):(mkN n).testBit i=(decide (1<=i)&&decide (i<=n)):=by
 have e:mkN n=2*(2 ^ n-1):=by unfold mkN; have:=Nat.two_pow_pos n; omega
 rw [e];cases i with
 | zero=>simp [Nat.testBit_zero,Nat.mul_mod_right]
 | succ i =>
   rw [Nat.testBit_succ,show 2*(2 ^ n-1) / 2=2 ^ n-1 by omega,Nat.testBit_two_pow_sub_one];simp;omega
theorem Z4o {n:Nat} (h:n<=63):mkN n<18446744073709551616:=by
 have:2 ^ n<=2 ^ 63:=Nat.pow_le_pow_right (by decide) h;unfold mkN;omega
structure InC (n:Nat) (c:Cu):Prop where
 y:c.1 ||| mkN n=mkN n
 n:c.2 ||| mkN n=mkN n
 e:emC c=false
def InM (m:Nat) (c:Cu):Prop:=c.1 ||| m=m/\c.2 ||| m=m
structure RuOk (n:Nat) (r:RU):Prop where
 cu:InC n r.cu
 m:InM 62 r.cu
 tg:1<=r.tg/\r.tg<=n/\r.tg<=5
 rv:r.rev=true->r.cu=(0,0)
structure PbOk (t:PB):Prop where
 n:1<=t.n/\t.n<=63
 good:GoodL t.l
 lk:∀ p∈t.l,p.1<=t.n/\p.2<=t.n/\p.1<=5/\p.2<=5
 st:t.st ||| mkN t.n=mkN t.n
 rl:t.rs.length<=64
 rs:∀ r∈t.rs,RuOk t.n r
 nl:t.nv.length<=64
 nv:∀ c∈t.nv,InC t.n c/\InM 62 c
 gk:t.gl.length<=64
 gl:∀ c∈t.gl,InC t.n c/\InM 62 c
 sg:soC t.nv (clo t.l t.st)=false
theorem InC.lt {n:Nat} {c:Cu} (h:InC n c) (hn:n<=63):Ok64 c:=by
 have h1:c.1<=mkN n:=by rw [<- h.y]; exact Nat.left_le_or
 have h2:c.2<=mkN n:=by rw [<- h.n]; exact Nat.left_le_or
 have:=Z4o hn;exact⟨by omega,by omega⟩
noncomputable def sen (l:List Pr) (r:Nat):Nat:=abv l r ||| 2 ^ r
theorem Z4A {l:List Pr} (hl:Small l) (r a:Nat):(sen l r).testBit a=true↔Up l a r \/ a=r:=by
 unfold sen;rw [Y00,Bool.or_eq_true,Z6n hl,Nat.testBit_two_pow,Y0n,eq_comm (a:=r)]
theorem Zcx (l:List Pr) (hl:Small l) {r:Nat} (hr:r<64):sen l r<18446744073709551616:=by
 refine Nat.lt_pow_two_of_testBit (n:=64) _ fun i hi=>?_;refine Bool.eq_false_iff.2 fun hb=>?_;rcases (Z4A hl r i).1 hb with h1|h1
 . have:=(h1.lt hl).1; omega
 . omega
theorem Z6K {l:List Pr} (hl:Small l) {s:Nat} (hs:s<18446744073709551616) (r:Nat):(clo l s).testBit r=true↔∃ a,s.testBit a=true/\1<=a/\(sen l r).testBit a=true:=by
 rw [ZiA s r hs];constructor
 . rintro ⟨a, h1, h2, h3⟩;exact⟨a,h1,h2,(Z4A hl r a).2 ((Z8r hl a r).1 h3 |>.imp (fun h=>h) fun h=>h.symm)⟩
 . rintro ⟨a, h1, h2, h3⟩;exact⟨a,h1,h2,(Z8r hl a r).2 ((Z4A hl r a).1 h3 |>.imp (fun h=>h) fun h=>h.symm)⟩
noncomputable def exN (l:List Pr) (n:Nat) (rs:List Nat):Nat:=rs.foldl (fun o r=>o ||| (sen l r &&& mkN n)) 0
noncomputable def exX (l:List Pr) (n r:Nat) (x:List Cu):List Cu:=x.flatMap fun y=>(mem (sen l r &&& mkN n)).map fun a=>(y.1 ||| 2 ^ a,y.2)
noncomputable def exF (l:List Pr) (n:Nat) (rs:List Nat) (x:List Cu):List Cu:=rs.foldl (fun x r=>simL (exX l n r x)) x
noncomputable def exL (l:List Pr) (n:Nat) (c:Cu):List Cu:=exF l n (mem c.1) [(0,exN l n (mem c.2))]
theorem Z6L (l:List Pr) (n:Nat) (i:Nat):∀ (rs:List Nat) (o:Nat),(rs.foldl (fun o r=>o ||| (sen l r &&& mkN n)) o).testBit i=true↔o.testBit i=true \/ ∃ r∈rs,(sen l r).testBit i=true/\(mkN n).testBit i=true
 | [],o=>by simp
 | r :: rs, o => by
   rw [List.foldl_cons,Z6L l n i rs,Y00,Bool.or_eq_true,Y0z,Y0k];simp only [List.mem_cons,exists_eq_or_imp,or_assoc]
theorem Z3L {a n:Nat} (hn:n<=63):a &&& mkN n<18446744073709551616:=Y02 Nat.and_le_right (Z4o hn)
theorem ZjG {l:List Pr} {n r:Nat} (hn:n<=63) {x:List Cu} (hx:∀ c∈x,Ok64 c):∀ c∈exX l n r x,Ok64 c:=fun c hc=>by
 obtain⟨y,hy,hc⟩:=List.mem_flatMap.1 hc;obtain⟨a,ha,rfl⟩:=Y0i.1 hc;exact⟨Z24 (hx y hy).1 (ZI (Z33 ha)),(hx y hy).2⟩
theorem ZjH {l:List Pr} {n r:Nat} (hn:n<=63) (x:List Cu) (S:Nat):soC (exX l n r x) S=true↔soC x S=true/\∃ a,(sen l r).testBit a=true/\(mkN n).testBit a=true/\S.testBit a=true:=by
 unfold soC exX;rw [List.any_flatMap,Y01,Y01];constructor
 . rintro ⟨y, hy, h⟩;rw [List.any_map,Y01] at h;obtain⟨a,ha,h⟩:=h;have h2:hoC (y.1 ||| 2 ^ a,y.2) S=true:=h;rw [Z7H,Y0k] at h2;have h3:=(Z1k (Z3L hn)).1 ha;rw [Y0z,Y0k] at h3;exact⟨⟨y,hy,h2.1⟩,a,h3.1,h3.2,h2.2⟩
 . rintro ⟨⟨y, hy, h1⟩, a, h2, h3, h4⟩;refine⟨y,hy,?_⟩;rw [List.any_map,Y01];refine⟨a,(Z1k (Z3L hn)).2 (by rw [Y0z,h2,h3]; rfl),?_⟩;show hoC (y.1 ||| 2 ^ a,y.2) S=true;rw [Z7H,h1,h4]; rfl
theorem Zi5 {l:List Pr} {n:Nat} (hn:n<=63) (S:Nat):∀ (rs:List Nat) (x:List Cu),(∀ c∈x,Ok64 c)->(soC (exF l n rs x) S=true↔soC x S=true/\∀ r∈rs,∃ a,(sen l r).testBit a=true/\(mkN n).testBit a=true/\S.testBit a=true)
 | [],x,hx=>by simp [exF]
 | r :: rs, x, hx => by
   have h1:=ZjG (l:=l) (r:=r) hn hx;have ih:=Zi5 (l:=l) hn S rs (simL (exX l n r x)) fun c hc=>h1 c (Z2L hc).1;rw [Z8D h1,ZjH hn] at ih;rw [show exF l n (r :: rs) x=exF l n rs (simL (exX l n r x)) from rfl,ih];simp only [List.mem_cons,forall_eq_or_imp,and_assoc]
theorem Zi6 {l:List Pr} (hl:Small l) {n:Nat} (hn:n<=63) {c:Cu} (hc:InC n c) {S:Nat} (hS:S ||| mkN n=mkN n):soC (exL l n c) S=hoC c (clo l S):=by
 have hS64:S<18446744073709551616:=by
  have h1:S<=mkN n:=by rw [<- hS]; exact Nat.left_le_or
  have:=Z4o hn;omega
 have hin:=orSub.1 hS;have hc64:=hc.lt hn;have hN64:exN l n (mem c.2)<18446744073709551616:=by
  have:∀ (rs:List Nat) (o:Nat),o<18446744073709551616->rs.foldl (fun o r=>o ||| (sen l r &&& mkN n)) o<18446744073709551616:=by
   intro rs
   induction rs with
   | nil=>exact fun o h=>h
   | cons r rs ih=>exact fun o h=>ih _ (Z24 h (Z3L hn))
  exact this _ 0 (by decide)
 rw [Bool.eq_iff_iff];unfold exL;rw [Zi5 hn S _ _ (fun q hq=>by rw [Y0g] at hq; subst hq; exact⟨(by decide:(0:Nat)<18446744073709551616),hN64⟩),Z8A,Z1u,Z1u];constructor
 . rintro ⟨⟨-, h1⟩, h2⟩;refine⟨fun r hr=>?_,fun r hr=>?_⟩
   . obtain ⟨a, ha, hm, hs⟩ := h2 r ((Z1k hc64.1).2 hr);rw [Z2k,Y0k,Y0n,Y0n] at hm;exact (Z6K hl hS64 r).2 ⟨a,hs,hm.1,ha⟩
   . refine Bool.eq_false_iff.2 fun hb => ?_;obtain⟨a,hs,ha1,ha⟩:=(Z6K hl hS64 r).1 hb;have h3:=h1 a ((Z6L l n a (mem c.2) 0).2 (.inr ⟨r,(Z1k hc64.2).2 hr,ha,hin a hs⟩));rw [hs] at h3; cases h3
 . rintro ⟨h1, h2⟩;refine⟨⟨fun i hi=>by simp at hi,fun a ha=>?_⟩,fun r hr=>?_⟩
   . rcases (Z6L l n a (mem c.2) 0).1 ha with h3 | ⟨r, hr, h3, h4⟩
     . simp at h3
     . refine Bool.eq_false_iff.2 fun hs => ?_;rw [Z2k,Y0k,Y0n,Y0n] at h4;have h5:=h2 r ((Z1k hc64.2).1 hr);rw [(Z6K hl hS64 r).2 ⟨a,hs,h4.1,h3⟩] at h5;cases h5
   . obtain ⟨a, hs, ha1, ha⟩ := (Z6K hl hS64 r).1 (h1 r ((Z1k hc64.1).1 hr));exact⟨a,ha,hin a hs,hs⟩
def Dis (l:List Cu):Prop:=(∀ c∈l,emC c=false)/\l.Pairwise fun a b=>∀ S,hoC a S=true->hoC b S=false
theorem Zcy {l:List Cu} {d:Cu} (h:Dis l) (hd:emC d=false) (hx:∀ S,hoC d S=true->soC l S=false):Dis (l ++ [d]):=by
 refine⟨fun c hc=>(Y0h.1 hc).elim (h.1 c) fun e=>by rw [Y0g] at e; subst e; exact hd,?_⟩;rw [List.pairwise_append];refine⟨h.2,List.pairwise_singleton ..,fun a ha b hb S hs=>?_⟩;rw [Y0g] at hb;subst hb;refine Bool.eq_false_iff.2 fun hS=>?_;have:=hx S hS;have h2:soC l S=true:=Y01.2 ⟨a,ha,hs⟩;rw [this] at h2; cases h2
theorem Z8E {c:Cu} {S:Nat} (h:hoC c S=true):emC c=false:=Bool.eq_false_iff.2 fun he=>by rw [Z2B he S] at h; cases h
theorem Zhg {b a0:Cu} {l:List Nat} {z:Cu×List Cu} (h1:∀ S,hoC z.1 S=(hoC a0 S&&hoAt b l S)) (h2:∀ S,soC z.2 S=(hoC a0 S && !hoAt b l S)) (r:Nat) (hz:emC z.1=false) (hD:Dis z.2):Dis (minS b z r).2:=by
 have hxx:∀ {d:Cu},(∀ S,hoC d S=true->hoC z.1 S=true)->∀ S,hoC d S=true->soC z.2 S=false:=fun {d} hd S hS=>by
  have h3:=hd S hS;rw [h1,Y0k] at h3;rw [h2,h3.2,Bool.not_true,Bool.and_false]
 have hself:=Z4b hz;unfold minS
 split
 . rename_i h;rw [Y0k,Bool.not_eq_true'] at h;have hd:∀ S,hoC (z.1.1,z.1.2 ||| 2 ^ r) S=(hoC z.1 S && !S.testBit r):=fun S=>Zh9;refine Zcy hD (Z8E (S:=z.1.1) (by rw [hd,hself,h.2]; rfl)) (hxx fun S hS=>?_);rw [hd,Y0k] at hS;exact hS.1
 . split
   . rename_i _ h;rw [Y0k,Bool.not_eq_true'] at h;have hd:∀ S,hoC (z.1.1 ||| 2 ^ r,z.1.2) S=(hoC z.1 S&&S.testBit r):=fun S=>Z7H;refine Zcy hD (Z8E (S:=z.1.1 ||| 2 ^ r) ?_) (hxx fun S hS=>?_)
     . rw [Z1u];refine⟨fun i hi=>hi,fun i hi=>?_⟩;rw [Y00,Bool.or_eq_false_iff];refine⟨((Z1u _ _).1 hself).2 i hi,?_⟩;rw [Nat.testBit_two_pow];refine Y0w fun e=>?_;subst e;rw [h.2] at hi; cases hi
     . rw [hd, Y0k] at hS;exact hS.1
   . exact hD
theorem Zhh {a b:Cu} (ha:emC a=false) (hab:emC (bothC a b)=false):∀ l:List Nat,emC (minF a b l).1=false/\Dis (minF a b l).2:=by
 have hS0:=Z4b hab;rw [Z5q,Y0k] at hS0;have hd:b.1 &&& b.2=0:=by
  apply Classical.byContradiction;intro hn;have:emC b=true:=by unfold emC; exact decide_eq_true hn
  rw [Z2B this] at hS0;cases hS0.2
 have hat:∀ l:List Nat,hoAt b l (bothC a b).1=true:=fun l=>by
  unfold hoAt;rw [List.all_eq_true];intro r _;have h3:=(Z1u _ _).1 hS0.2;cases e1:b.1.testBit r<;>cases e2:b.2.testBit r
  . rfl
  . rw [h3.2 r e2]; rfl
  . rw [h3.1 r e1]; rfl
  . have:=h3.1 r e1; rw [h3.2 r e2] at this; cases this
 have main:∀ (l pre:List Nat) (z:Cu×List Cu),z=minF a b pre->emC z.1=false/\Dis z.2->emC (l.foldl (minS b) z).1=false/\Dis (l.foldl (minS b) z).2:=by
  intro l
  induction l with
  | nil=>exact fun _ _ _ h=>h
  | cons r l ih =>
    rintro pre z rfl ⟨hz,hD⟩;have hlaw:=Z8z a b hd pre;refine ih (pre ++ [r]) (minS b (minF a b pre) r) (by unfold minF; rw [List.foldl_append]; rfl) ⟨?_,Zhg hlaw.1 hlaw.2 r hz hD⟩;have hlaw2:=(Z8z a b hd (pre ++ [r])).1 (bothC a b).1;rw [hS0.1,hat] at hlaw2;have e:(minF a b (pre ++ [r])).1=(minS b (minF a b pre) r).1:=by unfold minF; rw [List.foldl_append]; rfl
    rw [e] at hlaw2;exact Z8E hlaw2
 intro l;exact main l [] (a,[]) rfl ⟨ha,(fun c hc=>by cases hc),List.Pairwise.nil⟩
theorem Zhi {a:Cu} (ha:emC a=false) (b:Cu):Dis (minC a b):=by
 unfold minC;rw [if_neg (by rw [ha]; decide)];unfold meC;cases hm:emC (bothC a b) with
 | true =>
   rw [if_pos rfl,if_neg (by decide)];exact⟨fun c hc=>by rw [Y0g] at hc; subst hc; exact ha,List.pairwise_singleton ..⟩
 | false=>exact (Zhh ha hm _).2
theorem Z8F {m r:Nat} {c:Cu} (h:InM m c) (hr:m.testBit r=true):InM m (c.1 ||| 2 ^ r,c.2):=⟨orSub.2 fun i hi=>by
 rw [Y00,Bool.or_eq_true,Nat.testBit_two_pow,Y0n] at hi;rcases hi with hi|rfl
 . exact orSub.1 h.1 i hi
 . exact hr,h.2⟩
theorem Zcz {m r:Nat} {c:Cu} (h:InM m c) (hr:m.testBit r=true):InM m (c.1,c.2 ||| 2 ^ r):=⟨h.1,orSub.2 fun i hi=>by
 rw [Y00,Bool.or_eq_true,Nat.testBit_two_pow,Y0n] at hi;rcases hi with hi|rfl
 . exact orSub.1 h.2 i hi
 . exact hr⟩
theorem ZiI {m:Nat} {a b:Cu} (ha:InM m a) (hb:InM m b) (l:List Nat):InM m (minF a b l).1/\∀ c∈(minF a b l).2,InM m c:=by
 have main:∀ (l:List Nat) (z:Cu×List Cu),(InM m z.1/\∀ c∈z.2,InM m c)->InM m (l.foldl (minS b) z).1/\∀ c∈(l.foldl (minS b) z).2,InM m c:=by
  intro l
  induction l with
  | nil=>exact fun z h=>h
  | cons r l ih =>
    intro z hz;refine ih _ ?_;unfold minS
    split
    . rename_i h;rw [Y0k] at h;have hr:=orSub.1 hb.1 r h.1;exact⟨Z8F hz.1 hr,fun c hc=>(Y0h.1 hc).elim (hz.2 c) fun e=>by rw [Y0g] at e; subst e; exact Zcz hz.1 hr⟩
    . split
      . rename_i _ h;rw [Y0k] at h;have hr:=orSub.1 hb.2 r h.1;exact⟨Zcz hz.1 hr,fun c hc=>(Y0h.1 hc).elim (hz.2 c) fun e=>by rw [Y0g] at e; subst e; exact Z8F hz.1 hr⟩
      . exact hz
 exact main l (a,[]) ⟨ha,fun c hc=>by cases hc⟩
theorem ZiJ {m:Nat} {a b:Cu} (ha:InM m a) (hb:InM m b):∀ c∈minC a b,InM m c:=by
 intro c hc;unfold minC at hc
 split at hc
 . cases hc
 . split at hc
   . exact (ZiI ha hb _).2 c hc
   . rw [Y0g] at hc; subst hc; exact ha
def splS (out:List Cu) (b:Cu):List Cu:=out.flatMap fun x=>minC x b
def splL (l:List Cu) (c:Cu):List Cu:=l.foldl splS (if emC c then [] else [c])
theorem ZiK {b:Cu} (hb:Ok64 b) (out:List Cu) (S:Nat):soC (splS out b) S=(soC out S && !hoC b S):=by
 unfold splS
 induction out with
 | nil=>rfl
 | cons x out ih =>
   rw [List.flatMap_cons,Z3m];have e:soC (minC x b++out.flatMap fun x=>minC x b) S=(soC (minC x b) S||soC (out.flatMap fun x=>minC x b) S):=List.any_append;rw [e,ih,Z64 hb];cases hoC x S<;>cases soC out S<;>cases hoC b S<;>rfl
theorem ZiL {l:List Cu} (hl:∀ b∈l,Ok64 b) (c:Cu) (S:Nat):soC (splL l c) S=(hoC c S && !soC l S):=by
 have main:∀ (l:List Cu),(∀ b∈l,Ok64 b)->∀ out:List Cu,soC (l.foldl splS out) S=(soC out S && !soC l S):=by
  intro l
  induction l with
  | nil=>intro _ out; simp [soC]
  | cons b l ih =>
    intro hl out;rw [List.foldl_cons,ih (fun x hx=>hl x (List.mem_cons_of_mem _ hx)),ZiK (hl b (Y0t ..)),Z3m];cases soC out S<;>cases hoC b S<;>cases soC l S<;>rfl
 unfold splL;rw [main l hl];cases he:emC c with
 | true=>rw [if_pos rfl,Z2B he]; rfl
 | false=>rw [if_neg (by decide),Z8A]
theorem ZcA {out:List Cu} (h:Dis out) {b:Cu} (hb:Ok64 b):Dis (splS out b):=by
 have hsub:∀ {x c:Cu} {S:Nat},c∈minC x b->hoC c S=true->hoC x S=true:=fun {x c S} hc hs=>by
  have h2:soC (minC x b) S=true:=Y01.2 ⟨c,hc,hs⟩;rw [Z64 hb,Y0k] at h2;exact h2.1
 unfold splS;obtain⟨h1,h2⟩:=h
 induction out with
 | nil=>exact⟨(fun c hc=>by cases hc),List.Pairwise.nil⟩
 | cons x out ih =>
   rw [List.pairwise_cons] at h2;have ih:=ih (fun c hc=>h1 c (List.mem_cons_of_mem _ hc)) h2.2;have hx:=Zhi (h1 x (Y0t ..)) b;rw [List.flatMap_cons];refine⟨fun c hc=>(Y0h.1 hc).elim (hx.1 c) (ih.1 c),List.pairwise_append.2 ⟨hx.2,ih.2,fun c hc d hd S hs=>?_⟩⟩;obtain⟨y,hy,hd⟩:=List.mem_flatMap.1 hd;refine Bool.eq_false_iff.2 fun hS=>?_;have h3:=h2.1 y hy S (hsub hc hs);rw [hsub hd hS] at h3; cases h3
theorem Zb7 {m:Nat} {out:List Cu} (h:∀ c∈out,InM m c) {b:Cu} (hb:InM m b):∀ c∈splS out b,InM m c:=fun c hc=>by
 obtain⟨x,hx,hc⟩:=List.mem_flatMap.1 hc;exact ZiJ (h x hx) hb c hc
theorem Zb8 {l:List Cu} (h:Dis l) {m N:Nat} (hin:∀ c∈l,InM m c) (hN:m<N):l.length<=N:=by
 have hnd:(l.map (·.1)).Nodup:=by
  rw [List.nodup_iff_pairwise_ne,List.pairwise_map];refine List.Pairwise.imp_of_mem (fun {a b} ha hb hab e=>?_) h.2;have h1:=hab a.1 (Z4b (h.1 a ha));rw [e,Z4b (h.1 b hb)] at h1; cases h1
 have:=Z2o N _ hnd fun x hx=>by
  obtain⟨c,hc,rfl⟩:=Y0i.1 hx;have:c.1<=m:=by rw [<- (hin c hc).1]; exact Nat.left_le_or
  omega
 rwa [Y0f] at this
theorem Zfo {m N:Nat} (hN:m<N) (hm:m<18446744073709551616):∀ (l:List Cu),(∀ b∈l,InM m b)->∀ out:List Cu,Dis out->(∀ c∈out,InM m c)->Dis (l.foldl splS out)/\∀ c∈l.foldl splS out,InM m c
 | [],_,out,h1,h2=>⟨h1,h2⟩
 | b :: l, hl, out, h1, h2 => by
   have hb:=hl b (Y0t ..);have hb64:Ok64 b:=⟨Y02 (by rw [<- hb.1]; exact Nat.left_le_or) hm,Y02 (by rw [<- hb.2]; exact Nat.left_le_or) hm⟩
   exact Zfo hN hm l (fun x hx=>hl x (List.mem_cons_of_mem _ hx)) _ (ZcA h1 hb64) (Zb7 h2 hb)
theorem InM.lt {m:Nat} {c:Cu} (h:InM m c) (hm:m<18446744073709551616):Ok64 c :=
 ⟨Y02 (by rw [<- h.1]; exact Nat.left_le_or) hm,Y02 (by rw [<- h.2]; exact Nat.left_le_or) hm⟩
noncomputable def goodB (t:PB) (s:Nat):Bool := !soC t.nv (clo t.l s)
noncomputable def reachB (t:PB) (s:Nat):Bool:=soC t.gl (clo t.l s)
def nextR (r:RU) (s:Nat):Nat:=if r.rev then minusN s (2 ^ r.tg) else s ||| 2 ^ r.tg
noncomputable def stepR (t:PB) (r:RU) (s:Nat):Bool:=decide (nextR r s≠s)&&(goodB t (nextR r s)&&(r.rev||hoC r.cu (clo t.l s)))
def InS (t:PB) (s:Nat):Prop:=s ||| mkN t.n=mkN t.n
theorem InS.lt {t:PB} (hn:t.n<=63) {s:Nat} (h:InS t s):s<18446744073709551616:=by
 have h1:s<=mkN t.n:=by rw [<- h]; exact Nat.left_le_or
 have:=Z4o hn;omega
theorem Z1d {r:RU} (hr:r.tg<64) {s:Nat} (hs:s<18446744073709551616) (i:Nat):(nextR r s).testBit i=if i=r.tg then !r.rev else s.testBit i:=by
 unfold nextR;cases hv:r.rev with
 | true =>
   rw [if_pos rfl,ZB hs (ZI hr),Nat.testBit_two_pow];by_cases hi:i=r.tg
   . subst hi; simp
   . rw [if_neg hi,Y0w (fun h=>hi h.symm)]; simp
 | false =>
   rw [if_neg (by decide),Y00,Nat.testBit_two_pow];by_cases hi:i=r.tg
   . subst hi; simp
   . rw [if_neg hi,Y0w (fun h=>hi h.symm),Bool.or_false]
theorem ZcB {t:PB} {r:RU} (h1:1<=r.tg) (h2:r.tg<=t.n) (hn:t.n<=63) {s:Nat} (hs:InS t s):InS t (nextR r s):=by
 refine orSub.2 fun i hi=>?_;rw [Z1d (by omega) (hs.lt hn)] at hi;by_cases he:i=r.tg
 . rw [Z2k,decide_eq_true (show 1<=i by omega),decide_eq_true (show i<=t.n by omega)]; rfl
 . rw [if_neg he] at hi;exact orSub.1 hs i hi
theorem Zhj {r:RU} (hr:r.tg<64) {s:Nat} (hs:s<18446744073709551616):nextR r s≠s↔s.testBit r.tg=r.rev:=by
 constructor
 . intro h;apply Classical.byContradiction;intro he;refine h (Nat.eq_of_testBit_eq fun i=>?_);rw [Z1d hr hs];by_cases hi:i=r.tg
   . subst hi; rw [if_pos rfl]
     revert he
     cases s.testBit r.tg<;>cases r.rev<;>decide
   . rw [if_neg hi]
 . intro h he;have:=Z1d hr hs r.tg;rw [he,if_pos rfl,h] at this
   revert this
   cases r.rev<;>decide
def befC (c:Cu) (tg:Nat) (rev:Bool):Cu:=if rev then (c.1,minusN c.2 (2 ^ tg)) else (minusN c.1 (2 ^ tg),c.2)
def befB (c:Cu) (tg:Nat) (rev:Bool):Bool:=if rev then !c.1.testBit tg else !c.2.testBit tg
theorem Zfp {c:Cu} (hc:Ok64 c) {r:RU} (hr:r.tg<64) {s:Nat} (hs:s<18446744073709551616):hoC c (nextR r s)=(befB c r.tg r.rev&&hoC (befC c r.tg r.rev) s):=by
 rw [Bool.eq_iff_iff,Y0k,Z1u,Z1u];have hp:=ZI hr;unfold befB befC;cases hv:r.rev with
 | true =>
   simp only [if_true];constructor
   . rintro ⟨h1, h2⟩;refine⟨?_,fun i hi=>?_,fun i hi=>?_⟩
     . cases hb : c.1.testBit r.tg with
       | false=>rfl
       | true=>have:=h1 r.tg hb; rw [Z1d hr hs,if_pos rfl,hv] at this; cases this
     . have := h1 i hi;rw [Z1d hr hs] at this;by_cases he:i=r.tg
       . rw [if_pos he,hv] at this; cases this
       . rwa [if_neg he] at this
     . rw [ZB hc.2 hp, Nat.testBit_two_pow, Y0k] at hi;have:=h2 i hi.1;rw [Z1d hr hs] at this;have he:¬ i=r.tg:=fun he=>by subst he; simp at hi
       rwa [if_neg he] at this
   . rintro ⟨h0, h1, h2⟩;refine⟨fun i hi=>?_,fun i hi=>?_⟩
     . rw [Z1d hr hs];have he:¬ i=r.tg:=fun he=>by subst he; rw [hi] at h0; cases h0
       rw [if_neg he]; exact h1 i hi
     . rw [Z1d hr hs];by_cases he:i=r.tg
       . rw [if_pos he,hv]; rfl
       . rw [if_neg he];exact h2 i (by rw [ZB hc.2 hp,Nat.testBit_two_pow,hi,Y0w fun h=>he h.symm]; rfl)
 | false =>
   simp only [Bool.false_eq_true,if_false];constructor
   . rintro ⟨h1, h2⟩;refine⟨?_,fun i hi=>?_,fun i hi=>?_⟩
     . cases hb : c.2.testBit r.tg with
       | false=>rfl
       | true=>have:=h2 r.tg hb; rw [Z1d hr hs,if_pos rfl,hv] at this; cases this
     . rw [ZB hc.1 hp, Nat.testBit_two_pow, Y0k] at hi;have:=h1 i hi.1;rw [Z1d hr hs] at this;have he:¬ i=r.tg:=fun he=>by subst he; simp at hi
       rwa [if_neg he] at this
     . have := h2 i hi;rw [Z1d hr hs] at this;by_cases he:i=r.tg
       . rw [if_pos he,hv] at this; cases this
       . rwa [if_neg he] at this
   . rintro ⟨h0, h1, h2⟩;refine⟨fun i hi=>?_,fun i hi=>?_⟩
     . rw [Z1d hr hs];by_cases he:i=r.tg
       . rw [if_pos he,hv]; rfl
       . rw [if_neg he];exact h1 i (by rw [ZB hc.1 hp,Nat.testBit_two_pow,hi,Y0w fun h=>he h.symm]; rfl)
     . rw [Z1d hr hs];have he:¬ i=r.tg:=fun he=>by subst he; rw [hi] at h0; cases h0
       rw [if_neg he]; exact h2 i hi
def befD (c:Cu) (tg:Nat) (rev:Bool):Cu:=if rev then ((befC c tg rev).1 ||| 2 ^ tg,(befC c tg rev).2) else ((befC c tg rev).1,(befC c tg rev).2 ||| 2 ^ tg)
theorem Zhk {c:Cu} (hc:Ok64 c) {r:RU} (hr:r.tg<64) {s:Nat} (hs:s<18446744073709551616):(befB c r.tg r.rev&&hoC (befD c r.tg r.rev) s)=(hoC c (nextR r s)&&decide (nextR r s≠s)):=by
 rw [Zfp hc hr hs];have hne:=Zhj hr hs;have e:hoC (befD c r.tg r.rev) s=(hoC (befC c r.tg r.rev) s&&decide (nextR r s≠s)):=by
  unfold befD;cases hv:r.rev with
  | true =>
    rw [if_pos rfl,Z7H];rw [hv] at hne;congr 1;rw [Bool.eq_iff_iff,Y0n,hne]
  | false =>
    rw [if_neg (by decide),Zh9];rw [hv] at hne;congr 1;rw [Bool.eq_iff_iff,Y0n,hne,Bool.not_eq_true']
 rw [e,Bool.and_assoc]
end
section
open Go.RowKit
attribute [local irreducible] aw opsK dK
theorem ZQ (l:List Nat) (hl:Bytes l) (fl:Bool) (t:Nat) (ht:t<=1099511627776):PSpec Tryz.prog 50 (srcB l fl t) [] fun r b'=>∃ v:Nat,v<=255/\r=.val (.int .i64 (v:Int))/\b'=srcB l fl (t+1):=by
 refine Z1M ok50 (Nat.le_of_ble_eq_true rfl) fun C hC=>?_;have hll:(bys l).length=l.length:=by simp [bys]
 have hinc:IntKind.i64.wrap ((t:Int)+1)=((t+1:Nat):Int):=Y0v _ ⟨by omega,by omega⟩;have hdec:IntKind.i64.wrap (((t+1:Nat):Int)-1)=(t:Int):=by rw [show ((t+1:Nat):Int)-1=(t:Int) by omega]; exact Z8e _ (by omega)
 iterate 10 (first|refine st ?_|(apply B<;>intro hb<;>try cases hb))
 refine Zg rfl rfl rfl hinc ?_;(refine go ?_;repeat' (apply B<;>intro hb<;>try cases hb))
 . refine Zjw rfl Yt rfl (ZC l fl (t+1)) ⟨0,by omega,rfl,rfl⟩
 . have htl : t < l.length := by simp [hll] at hb; omega
   rw [hdec];refine Qr (Zm (xs:=l) rfl rfl t rfl htl rfl) ?_;refine go ?_;have hx:=hl l[t] (Y0j _);refine Zjw rfl Yt rfl (ZC l fl (t+1)) ⟨l[t],hx,?_,rfl⟩;rw [Z8e _ (by omega)]
theorem Zfq (a b:Nat) (ha:a<256) (hb:b<256):bits .andNot .u8 (a:Int) (b:Int)=((minusN a b:Nat):Int):=by
 have hx:minusN a b<=a:=Nat.and_le_left;have h1:(BitVec.ofInt 8 (a:Int)).toNat=a:=by
  rw [BitVec.ofInt_natCast,BitVec.toNat_ofNat]; exact Nat.mod_eq_of_lt (by omega)
 have h2:(~~~(BitVec.ofInt 8 (b:Int))).toNat=255-b:=by
  rw [BitVec.toNat_not,BitVec.ofInt_natCast,BitVec.toNat_ofNat,Nat.mod_eq_of_lt (by omega)]
 have h3:a &&& (255-b)=minusN a b:=by
  refine Nat.eq_of_testBit_eq fun i=>?_;rw [ZB (by omega) (by omega),Y0z];have h:=Nat.testBit_two_pow_sub_succ (n:=8) (show b<2 ^ 8 by omega) i;rw [show (2:Nat) ^ 8-(b+1)=255-b by omega] at h;rw [h];by_cases hi:i<8
  . simp [hi]
  . have : a.testBit i = false := Nat.testBit_lt_two_pow (Nat.lt_of_lt_of_le (show a < 2 ^ 8 by omega) (Nat.pow_le_pow_right (by decide) (by omega)));simp [this]
 show IntKind.u8.wrap ((BitVec.ofInt 8 (a:Int) &&& ~~~(BitVec.ofInt 8 (b:Int))).toNat:Int)=_;rw [BitVec.toNat_and,h1,h2,h3];exact IntWalk.u8_in _ ⟨by omega,by omega⟩
theorem Zfr (a m:Nat):a &&& m ||| m=m:=orSub.2 fun i hi=>by
 rw [Y0z,Y0k] at hi;exact hi.2
theorem ZiM (X Y:Int) (m:Nat) (hm:m<256):∃ c:Cu,InM m c/\emC c=false/\([.val (.int .u64 (IntKind.u64.wrap (bits .and .u8 X (m:Int)))),.val (.int .u64 (IntKind.u64.wrap (bits .andNot .u8 (bits .and .u8 Y (m:Int)) (bits .and .u8 X (m:Int)))))]:List PV)=raC c:=by
 have hA:∀ X:Int,∃ a:Nat,a<256/\bits .and .u8 X (m:Int)=((a &&& m:Nat):Int):=fun X=>by
  refine⟨(BitVec.ofInt 8 X).toNat,(BitVec.ofInt 8 X).isLt,?_⟩;rw [<- Zi3 _ _ (BitVec.ofInt 8 X).isLt hm];show IntKind.u8.wrap ((BitVec.ofInt 8 X &&& BitVec.ofInt 8 (m:Int)).toNat:Int)=IntKind.u8.wrap ((BitVec.ofInt 8 ((BitVec.ofInt 8 X).toNat:Int) &&& BitVec.ofInt 8 (m:Int)).toNat:Int);rw [show BitVec.ofInt 8 ((BitVec.ofInt 8 X).toNat:Int)=BitVec.ofInt 8 X by rw [BitVec.ofInt_natCast,BitVec.ofNat_toNat,BitVec.setWidth_eq]]
 obtain⟨a,ha,ea⟩:=hA X;obtain⟨b,hb,eb⟩:=hA Y;have h1:a &&& m<256:=Y02 Nat.and_le_left ha;have h2:b &&& m<256:=Y02 Nat.and_le_left hb;have h3:minusN (b &&& m) (a &&& m)<=b &&& m:=Nat.and_le_left;rw [ea,eb,Zfq _ _ h2 h1,Y0x _ ⟨by omega,by omega⟩,Y0x _ ⟨by omega,by omega⟩];refine⟨(a &&& m,minusN (b &&& m) (a &&& m)),⟨Zfr a m,orSub.2 fun i hi=>?_⟩,?_,rfl⟩
 . show m.testBit i = true;have hi:(minusN (b &&& m) (a &&& m)).testBit i=true:=hi;rw [ZB (by omega) (by omega),Y0k,Y0z,Y0k] at hi;exact hi.1.2
 . unfold emC;refine Y0w fun hn=>hn (Zhf.2 fun i hi=>?_);show (minusN (b &&& m) (a &&& m)).testBit i=false;rw [ZB (by omega) (by omega),show (a &&& m).testBit i=true from hi];simp
theorem Z5t (x y:Int) (m:Nat) (hm:m<256):Spec Tryz.prog 52 [.val (.int .i64 x),.val (.int .i64 y),.val (.int .u8 (m:Int))] fun r=>∃ c:Cu,InM m c/\emC c=false/\r=.agg (raC c):=by
 refine Yp ok52 fun C hC=>?_;refine go ?_;obtain⟨c,h1,h2,h3⟩:=ZiM (bits .and .u8 (IntKind.u8.wrap x) (IntKind.u8.wrap (bits .or .i64 (x.fdiv (2 ^ (min (1:Int).toNat IntKind.i64.bits))) (IntKind.i64.wrap (x*2 ^ (min (3:Int).toNat IntKind.i64.bits)))))) (bits .and .u8 (IntKind.u8.wrap y) (IntKind.u8.wrap (bits .or .i64 (y.fdiv (2 ^ (min (2:Int).toNat IntKind.i64.bits))) (IntKind.i64.wrap (y*2 ^ (min (1:Int).toNat IntKind.i64.bits)))))) m hm;refine Z7 rfl ⟨Yt,Yt,Yt⟩ ⟨c,h1,h2,?_⟩;exact congrArg PV.agg h3
noncomputable def hierP (l:List Pr) (S:List Nat):PV:=.cp [.cp (ordC l S)]
theorem Zw (l:List Pr) (S:List Nat):(hierP l S).pure:=⟨Z1c l S,Yt⟩
theorem Z5H:Spec Tryz.prog 18 [] fun r=>∃ S,r=hierP [] S:=by
 refine Yp ok18 fun C hC=>?_;refine go ?_;refine ZT rfl rfl (Z9r [] true (fun p hp=>by cases hp) List.nodup_nil ⟨fun _=>0,fun p hp=>by cases hp⟩ (by decide)) ⟨Yt,Yt,Yt⟩ rfl ?_;rintro r ⟨l',o,h1,h2,⟨S',rfl⟩,rfl⟩;obtain rfl:=List.Perm.eq_nil h1;refine gd 9 ⟨?_⟩;refine Z5 rfl rfl rfl ?_;refine go ?_;exact Z7 rfl (Zw [] S') ⟨S',rfl⟩
theorem Z7L (a:Int):Spec Tryz.prog 113 [.val (.int .i64 a)] (· = .val (.bool (decide (1<=a)&&decide (a<=63)))):=by
 refine Yp ok113 fun C hC=>?_;(refine go ?_;repeat' (apply B<;>intro hb<;>try cases hb))
 all_goals exact Z7 rfl Yt (by simp_all<;>omega)
theorem Z6M (a:Nat) (h1:1<=a) (h2:a<64):Spec Tryz.prog 113 [.val (.int .i64 (a:Int))] (· = .val (.bool true)):=by
 have:=Z7L (a:Int)
 rwa [decide_eq_true (show (1:Int)<=a by omega),decide_eq_true (show (a:Int)<=63 by omega)] at this
theorem Zfs (l:List Pr) (S:List Nat) (a b:Nat) (ha:1<=a/\a<64) (hb:1<=b/\b<64) (hab:a≠b) (hl:Small l) (hn:l.Nodup) (hno:(a,b) ∉ l) (hacy:Acy (l ++ [(a,b)])) (hlen:l.length<=100000):Spec Tryz.prog 55 [hierP l S,.val (.int .i64 (a:Int)),.val (.int .i64 (b:Int))] fun r=>∃ l' S',l'.Perm (l ++ [(a,b)])/\SortedP l'/\r=.tup [hierP l' S',.val (.int .i64 0)]:=by
 have hne:((a:Int) == (b:Int))=false:=by rw [beq_eq_false_iff_ne]; omega
 refine Yp ok55 fun C hC=>?_;refine go ?_;refine Qe (Z6M a ha.1 ha.2) ⟨Yt,Yt⟩ ?_;refine go ?_;refine Qe (Z6M b hb.1 hb.2) ⟨Yt,Yt⟩ ?_;refine gd 25 ⟨?_⟩;refine Zo rfl ?_;refine Qo (Z4 rfl hne) ?_;refine go ?_;refine ZT rfl rfl (ZdE l S a b ha.2 hb.2 hl hn hno hacy hlen) ⟨Z1c l S,Yt,Yt,Yt⟩ rfl ?_;rintro r ⟨l',o,h1,h2,⟨S',rfl⟩,rfl⟩;refine gd 42 ⟨?_⟩;refine Z5 rfl rfl rfl ?_;refine go ?_;exact Z7 rfl ⟨Zw l' S',Yt,Yt⟩ ⟨l',S',h1,h2,rfl⟩
theorem Z9B (l:List Pr) (S:List Nat) (r:Int):Spec Tryz.prog 86 [hierP l S,.val (.int .i64 r)] (· = setN (if 1<=r/\r<=63 then jun l r.toNat else 0)):=by
 refine Yp ok86 fun C hC=>?_;refine go ?_;refine Qe (Z7L r) ⟨Yt,Yt⟩ ?_;by_cases h:1<=r/\r<=63
 . rw [if_pos h, decide_eq_true h.1, decide_eq_true h.2];obtain⟨k,rfl⟩:∃ k:Nat,r=(k:Int):=⟨r.toNat,by omega⟩
   have hk:k<64:=by omega
   have h1:=ZaY l S (k:Int);rw [if_pos ⟨by omega,by omega⟩] at h1;have h2:=Z3E (bel l k) (Y03 (Z32 (ZeW l k)) (by decide)) (k:Int);rw [withN,if_pos ⟨by omega,by omega⟩] at h2;refine go ?_;refine Qe h1 ⟨Z1c l S,Yt,Yt⟩ ?_;refine go ?_;refine Qe h2 ⟨Z1 _,Yt,Yt⟩ ?_;refine go ?_;exact Z7 rfl (Z1 _) rfl
 . rw [if_neg h];have h2:(decide (1<=r)&&decide (r<=63))=false:=by
    rw [Bool.and_eq_false_iff];by_cases h1:1<=r
    . exact .inr (Y0w fun h3=>h ⟨h1,h3⟩)
    . exact .inl (Y0w h1)
   rw [h2];refine go ?_;refine Z1a rfl (Z1 0 |> fun h=>by rw [Z1V] at h; exact h) ?_;rw [Z1V]; rfl
noncomputable def cloL (l:List Pr) (rs:List Nat):Nat:=rs.foldl (fun o r=>if 1<=r then o ||| jun l r else o) 0
theorem Zft (l:List Pr) (rs:List Nat) (r:Nat):cloL l (rs ++ [r])=if 1<=r then cloL l rs ||| jun l r else cloL l rs:=by simp [cloL,List.foldl_append]
theorem Z1P (l:List Pr) (S:List Nat) (s:Nat) (hs:s<18446744073709551616):Spec Tryz.prog 37 [hierP l S,setN s] (· = setN (clo l s)):=by
 refine Yp ok37 fun C hC=>?_;refine Zs ?_;refine Zc ?_;refine Z5 rfl rfl rfl ?_;refine Z5 rfl rfl rfl ?_;refine go ?_;refine Qe (Z25 s) ⟨Z1 _,Yt⟩ ?_;refine go ?_;have hhp:=Zw l S;refine Z3e (X:=List Nat) hC (caps := [.cp [.vec (words (digs s)) false]]) [(2,.cp [hierP l S]),(4,.ptr 0 0 0),(5,.ptr 1 0 0),(8,.fn 128 [.cp [.vec (words (digs s)) false]])]
  (fun z => [(0,⟨1,[[.vec [] true]]⟩),(1,⟨1,[[.vec (words (digs (cloL l z))) false]]⟩)]) rfl ⟨⟨Za _,Yt⟩,Yt⟩ (Z3h s hs) (fun _=>rfl)
  (fun ex pre z=>ex=.normal/\z=pre.map (·.val)) 2 (by decide) [] ⟨rfl,rfl⟩
  (Z2m (EnvQ.mem (ρ := fun i => i) (m := 2) (L := [(2, .cp [hierP l S]), (4, .ptr 0 0 0), (5, .ptr 1 0 0), (8, .fn 128 [.cp [.vec (words (digs s)) false]])]) ⟨Qp ⟨hhp, Yt⟩, Qt 0 0 0, Qt 1 0 0, Qp ⟨⟨Za _, Yt⟩, Yt⟩, Yt⟩)
    (HeapQ.mem (ρ:=fun i=>i) (m:=2) (L := [(0,⟨1,[[.vec [] true]]⟩),(1,⟨1,[[.vec (words (digs (cloL l []))) false]]⟩)]) ⟨Qs ⟨⟨Yt,Yt⟩,Yt⟩,⟨by decide,⟨1,[[.vec [] true]]⟩,rfl,by rw [show cloL l []=0 from rfl,ZJ]; exact RenB.single (ρ:=fun i=>i) (l0 := [.vec [] true]) (l := [.vec [] false]) (show RenLs _ _ [_] [_] from ⟨.low (.vec [] true) Yt,Yt⟩) rfl⟩,Yt⟩) hC (by decide))
  (fun z q hq=>by simp at hq; rcases hq with rfl|rfl<;>exact Nat.zero_lt_succ _) _ (fun x=>rfl) ?_ ?_ ?_
 . rintro C2 hC2 pre x z ⟨-, rfl⟩ hlen;have hx64:=Z33 x.2;have hj:=Z9B l S (x.val:Int);have hcz:cloL l (pre.map (·.val))<18446744073709551616:=by
    unfold cloL;exact ZaW l _ 0 (fun r hr=>by obtain⟨y,_,rfl⟩:=Y0i.1 hr; exact Z33 y.2) (by decide)
   have hstep:=Zft l (pre.map (·.val)) x.val;have hnew:cloL l (pre.map (·.val)) ||| (if 1<=(x.val:Int)/\(x.val:Int)<=63 then jun l (x.val:Int).toNat else 0)=cloL l (pre.map (·.val) ++ [x.val]):=by
    rw [hstep];by_cases h1:1<=x.val
    . rw [if_pos h1,if_pos ⟨by omega,by omega⟩]; rfl
    . rw [if_neg h1,if_neg (by omega),Nat.or_zero]
   have hj64:(if 1<=(x.val:Int)/\(x.val:Int)<=63 then jun l (x.val:Int).toNat else 0)<18446744073709551616:=by
    split
    . exact Zcm l hx64
    . decide
   refine go ?_;refine Qd hj ⟨hhp,Yt,Yt⟩ ?_;refine Qd (Z1j _ _ hcz hj64) ⟨Z1 _,Z1 _,Yt⟩ ?_;rw [hnew];refine go ?_
   exact⟨.inl rfl,pre.map (·.val) ++ [x.val],fun i=>i,⟨rfl,by rw [Y0r]; rfl⟩,fun i hi=>rfl,Zt,
    ⟨Qp ⟨hhp,Yt⟩,Qt 0 0 0,Qt 1 0 0,Qp ⟨⟨Za _,Yt⟩,Yt⟩,Yt⟩,
    ⟨Qs ⟨⟨Yt,Yt⟩,Yt⟩,Qs ⟨⟨Za _,Yt⟩,Yt⟩,Yt⟩⟩
 . rintro xs z hxs ⟨-, rfl⟩;rw [hxs];refine go ?_;exact Z7 rfl (Z1 _) (by rw [ZaV]; rfl)
 . rintro ex pre z - ⟨rfl,_⟩ (h|⟨id,h⟩)<;>cases h
theorem Z7M (l:List Pr) (S:List Nat) (hlen:l.length<=1000000):Spec Tryz.prog 119 [hierP l S] (· = .vec (l.map prC) false):=by
 refine Yp ok119 fun C hC=>?_;refine go ?_;refine Qe (ZaX l S hlen) ⟨Z1c l S,Yt⟩ ?_;refine go ?_;exact Z7 rfl (Zl l) rfl
def ruR (r:RU):List PV := [.val (.bool r.rev),.val (.int .u64 (r.cu.1:Int)),.val (.int .u64 (r.cu.2:Int)),.val (.int .i64 (r.tg:Int)),.val (.int .i64 (r.og:Int))]
def ruP (r:RU):List PV := [.val (.bool r.rev),.vec (words (digs r.cu.1)) false,.vec (words (digs r.cu.2)) false,.val (.int .i64 (r.tg:Int)),.val (.int .i64 (r.og:Int))]
theorem Zhl (r:RU):pureL (ruR r):=⟨Yt,Yt,Yt,Yt,Yt,Yt⟩
theorem Z4c (r:RU):pureL (ruP r):=⟨Yt,Za _,Za _,Yt,Yt,Yt⟩
theorem Z1v (l:List RU):pureLL (l.map ruR):=Z9 Zhl l
theorem ZX (l:List RU):pureLL (l.map ruP):=Z9 Z4c l
theorem Z1e (l:List Cu):pureLL (l.map raC):=Z9 Z2K l
theorem Z1H (l:List Cu):pureLL (l.map cuC):=Z9 Ze l
def pbR (t:PB):List PV := [.val (.int .i64 (t.n:Int)),.vec (t.l.map prC) false,.val (.int .u64 (t.st:Int)),.vec (t.rs.map ruR) false,.vec (t.nv.map raC) false,.vec (t.gl.map raC) false]
noncomputable def pbP (t:PB) (S:List Nat):List PV := [.val (.int .i64 (t.n:Int)),hierP t.l S,.vec (words (digs t.st)) false,.vec (t.rs.map ruP) false,.vec (t.nv.map cuC) false,.vec (t.gl.map cuC) false]
theorem Z3n (t:PB):pureL (pbR t):=⟨Yt,Zl _,Yt,Z1v _,Z1e _,Z1e _,Yt⟩
theorem ZL (t:PB) (S:List Nat):pureL (pbP t S):=⟨Yt,Zw _ _,Za _,ZX _,Z1H _,Z1H _,Yt⟩
theorem PbOk.nv64 {t:PB} (h:PbOk t):∀ c∈t.nv,Ok64 c:=fun c hc=>(h.nv c hc).1.lt h.n.2
theorem PbOk.gl64 {t:PB} (h:PbOk t):∀ c∈t.gl,Ok64 c:=fun c hc=>(h.gl c hc).1.lt h.n.2
theorem Zb9 {t:PB} (h:PbOk t) (s:Nat) (hs:s<18446744073709551616):Spec Tryz.prog 127 [.agg (pbR t),.val (.int .u64 (s:Int))] (· = .val (.bool (goodB t s))):=by
 have hc:=Z2r t.l false h.good.small s hs;have hso:=Z6H t.nv false (clo t.l s) h.nv64 (Z51 _ _);have e:goodB t s = !soC t.nv (clo t.l s):=rfl;rw [e];refine Yp ok127 fun C hC=>?_;refine Zs ?_;refine Zc ?_;refine Z5 rfl rfl rfl ?_;refine gd 10 ⟨?_⟩;refine Qd hc ⟨Zl _,Yt,Yt⟩ ?_;refine gd 11 ⟨?_⟩;refine Qd hso ⟨Z1e _,Yt,Yt⟩ ?_;generalize soC t.nv (clo t.l s)=b;cases b
 all_goals
  refine go ?_;exact Z7 rfl Yt rfl
theorem Z9C {t:PB} (h:PbOk t) (s:Nat) (hs:s<18446744073709551616):Spec Tryz.prog 32 [.agg (pbR t),.val (.int .u64 (s:Int))] (· = .val (.bool (reachB t s))):=by
 have hc:=Z2r t.l false h.good.small s hs;have hso:=Z6H t.gl false (clo t.l s) h.gl64 (Z51 _ _);have e:reachB t s=soC t.gl (clo t.l s):=rfl;rw [e];refine Yp ok32 fun C hC=>?_;refine Zs ?_;refine Zc ?_;refine Z5 rfl rfl rfl ?_;refine gd 10 ⟨?_⟩;refine Qd hc ⟨Zl _,Yt,Yt⟩ ?_;refine gd 11 ⟨?_⟩;refine Qd hso ⟨Z1e _,Yt,Yt⟩ ?_;generalize soC t.gl (clo t.l s)=b;cases b
 all_goals
  refine go ?_;exact Z7 rfl Yt rfl
theorem Z2f (N:Nat) (hN:N<18446744073709551616) (i:Nat):Spec Tryz.prog 35 [setN N,Yv i] (· = .val (.bool (N.testBit i))):=by
 have:=Z1G N hN (i:Int)
 rwa [decide_eq_true (show (0:Int)<=(i:Int) by omega),Bool.true_and,Int.toNat_natCast] at this
theorem Zfu (c:Cu):lowL (cuC c)=cuC c:=by
 show [PV.vec (lowLL (words (digs c.1))) false,PV.vec (lowLL (words (digs c.2))) false]=_;rw [ZK,ZK]
 rfl
theorem Z7N (a b:Cu) (ha:Ok64 a) (hb0:Ok64 b):Spec Tryz.prog 144 [cuP a,cuP b] (· = .vec ((minC a b).map cuC) false):=by
 have hN:b.1 ||| b.2<18446744073709551616:=Z24 hb0.1 hb0.2
 refine Yp ok144 fun C hC=>?_;refine Zs ?_;refine Zc ?_;(first|refine st ?_|(apply B<;>intro hb<;>try cases hb));refine Z5 rfl rfl rfl ?_;refine go ?_;refine Qe (Z18 a ha) ⟨Zu a,Yt⟩ ?_;unfold minC;cases he:emC a
 case true =>
  refine go ?_;exact Z1a rfl (Z2z rfl) rfl
 rw [if_neg (by decide)];refine go ?_;refine Qe (Z7D a b ha hb0) ⟨Zu a,Zu b,Yt⟩ ?_;generalize hme:meC a b=me;obtain⟨mc,mb⟩:=me;cases mb
 case false =>
  refine go ?_;refine Z1a rfl ?_ ?_
  . show pureLL [lowL (cuC a)];rw [Zfu]; exact⟨Ze a,Yt⟩
  . show PV.vec [lowL (cuC a)] false = _;rw [Zfu]; rfl
 rw [if_pos rfl];refine go ?_;refine Zf (ZU (id:=2) (i0:=0) (j0:=0) rfl (by decide) (by decide) rfl 2 (by decide) (by decide)) ?_;refine Qe (Z1j b.1 b.2 hb0.1 hb0.2) ⟨Z1 _,Z1 _,Yt⟩ ?_;refine Qe (Z25 (b.1 ||| b.2)) ⟨Z1 _,Yt⟩ ?_;refine go ?_;refine Z3e (X:=Cu×List Cu) hC (caps := [.cp [.vec (words (digs (b.1 ||| b.2))) false]]) [(2,.ptr 0 0 0),(3,.cp (cuC b)),(7,.ptr 2 0 0),(26,.fn 128 [.cp [.vec (words (digs (b.1 ||| b.2))) false]])] (fun z => [(0,⟨2,[cuC z.1]⟩),(2,⟨1,[[.own 3]]⟩),(3,⟨2,z.2.map cuC⟩)]) rfl ⟨⟨Za _,Yt⟩,Yt⟩ (Z3h (b.1 ||| b.2) hN) (fun _=>rfl)
  (fun ex pre z=>ex=.normal/\z=minF a b (pre.map (·.val))) 4 (Y0l _) (a,[]) ⟨rfl,rfl⟩ (Z40 hC (Y0l _) ⟨⟨rfl,show (0:Nat)<4 by decide⟩,⟨rfl,Zj _ _,Zj _ _,Yt⟩,⟨rfl,show (2:Nat)<4 by decide⟩,⟨rfl,⟨Zj _ _,Yt⟩,Yt⟩,Yt⟩ ⟨⟨by decide,rfl,⟨Zj _ _,Zj _ _,Yt⟩,Yt⟩,⟨by decide,rfl,⟨show (3:Nat)<4 by decide,Yt⟩,Yt⟩,⟨by decide,rfl,Yt⟩,Yt⟩)
  (fun z q hq=>by simp at hq; rcases hq with rfl|rfl|rfl<;>exact Nat.zero_lt_succ _) _ (fun x=>rfl) ?_ ?_ ?_
 . rintro C2 hC2 pre x z ⟨-, rfl⟩ hlen;have hr64:x.val<64:=Z33 x.2;have hm:=Z44 (b.1 ||| b.2);obtain⟨hz1,hz2,hz3⟩:=Zb5 (b:=b) ha (l:=pre.map (·.val)) (fun r hr=>by obtain⟨y,_,rfl⟩:=Y0i.1 hr; exact Z33 y.2);rw [Y0f] at hz3;have hnext:minF a b ((pre ++ [x]).map (·.val))=minS b (minF a b (pre.map (·.val))) x.val:=by simp [minF,List.foldl_append]
   generalize minF a b (pre.map (·.val))=z at *;obtain⟨c,out⟩:=z;dsimp only at hz1 hz2 hz3 ⊢;have hlen1:out.length<=64:=by omega
   unfold minS at hnext;dsimp only at hnext;refine Z3Y ?_;refine Z3Y ?_;refine Zca hC2 True 4 [(2,.ptr 0 0 0),(3,.cp (cuC b)),(7,.ptr 2 0 0),(8,.val (.int .i64 (x.val:Int))),(26,.fn 128 [.cp [.vec (words (digs (b.1 ||| b.2))) false]]),(28,.val (.bool (b.1.testBit x.val && !c.1.testBit x.val)))] [(0,⟨2,[cuC c]⟩),(2,⟨1,[[.own 3]]⟩),(3,⟨2,out.map cuC⟩)] (Y0m _) ?_ fun _=>?_
   . have fin : ∀ D, innLL D (out.map cuC) := fun D => Zb (fun _ h => h.elim) _ (Z9 Ze out);refine go ?_;refine Qe (Z2f b.1 hb0.1 x.val) ⟨Z1 _,Yt,Yt⟩ ?_;generalize b.1.testBit x.val=v1;cases v1
     . refine go ?_;exact⟨Yt,⟨⟨rfl,show (0:Nat)<4 by decide⟩,⟨rfl,Zj _ _,Zj _ _,Yt⟩,⟨rfl,show (2:Nat)<4 by decide⟩,⟨rfl,Yt⟩,⟨rfl,⟨Zj _ _,Yt⟩,Yt⟩,⟨rfl,Yt⟩,Yt⟩,⟨⟨by decide,rfl,⟨Zj _ _,Zj _ _,Yt⟩,Yt⟩,⟨by decide,rfl,⟨show (3:Nat)<4 by decide,Yt⟩,Yt⟩,⟨by decide,rfl,fin _⟩,Yt⟩⟩
     . refine go ?_;refine Qe (Z2f c.1 hz1.1 x.val) ⟨Z1 _,Yt,Yt⟩ ?_;refine gv ?_;exact⟨Yt,⟨⟨rfl,show (0:Nat)<4 by decide⟩,⟨rfl,Zj _ _,Zj _ _,Yt⟩,⟨rfl,show (2:Nat)<4 by decide⟩,⟨rfl,Yt⟩,⟨rfl,⟨Zj _ _,Yt⟩,Yt⟩,⟨rfl,Yt⟩,Yt⟩,⟨⟨by decide,rfl,⟨Zj _ _,Zj _ _,Yt⟩,Yt⟩,⟨by decide,rfl,⟨show (3:Nat)<4 by decide,Yt⟩,Yt⟩,⟨by decide,rfl,fin _⟩,Yt⟩⟩
   generalize (b.1.testBit x.val && !c.1.testBit x.val)=v at hnext;cases v
   . rw [if_neg (by decide)] at hnext;refine go ?_;refine Qe (Z2f b.2 hb0.2 x.val) ⟨Z1 _,Yt,Yt⟩ ?_;generalize b.2.testBit x.val=v2 at hnext;cases v2
     . rw [if_neg (by simp)] at hnext;refine go ?_;exact⟨.inl rfl,(c,out),fun i=>i,⟨rfl,hnext.symm⟩,fun i hi=>absurd hi (by omega),Zt,⟨Qt 0 0 0,Qp (Ze b),Qt 2 0 0,Qp ⟨⟨Za _,Yt⟩,Yt⟩,Yt⟩,⟨Qs ⟨Ze c,Yt⟩,⟨by decide,_,rfl,RenB.single ⟨.own (ρ:=fun i=>i) 3 (by decide),Yt⟩ rfl⟩,Qs (Z9 Ze out),Yt⟩⟩
     . refine go ?_;refine Qe (Z2f c.2 hz1.2 x.val) ⟨Z1 _,Yt,Yt⟩ ?_;generalize c.2.testBit x.val=v3 at hnext;cases v3
       . rw [if_pos (by decide)] at hnext;refine go ?_;refine Qd (Z13 c.1 hz1.1 x.val hr64) ⟨Z1 _,Yt,Yt⟩ ?_;refine go ?_
         refine Qr (Zx (k:=3) (m := [cuC (c.1 ||| 2 ^ x.val,c.2)]) (fl:=true) rfl rfl rfl (fun q hq=>by rw [Y0g] at hq; subst hq; rfl) rfl (by
          show ((out.map cuC).length+1)*48<=_
          rw [Y0f];omega)) ?_
         refine go ?_;refine Qe (Z13 c.2 hz1.2 x.val hr64) ⟨Z1 _,Yt,Yt⟩ ?_;refine go ?_;refine⟨.inl rfl,((c.1,c.2 ||| 2 ^ x.val),out ++ [(c.1 ||| 2 ^ x.val,c.2)]),mv 3 13,⟨rfl,hnext.symm⟩,fun i hi=>absurd hi (by omega),Zy rfl,⟨Qt 0 0 0,Qp (Ze b),Qt 2 0 0,Qp ⟨⟨Za _,Yt⟩,Yt⟩,Yt⟩,⟨Qs ⟨Ze (c.1,c.2 ||| 2 ^ x.val),Yt⟩,⟨by decide,_,rfl,RenB.single ⟨.own (ρ:=mv 3 13) 3 (by decide),Yt⟩ rfl⟩,⟨by decide,_,rfl,?_⟩,Yt⟩⟩;show RenB _ _ ⟨2,out.map cuC ++ [cuC (c.1 ||| 2 ^ x.val,c.2)]⟩ ⟨2,(out ++ [(c.1 ||| 2 ^ x.val,c.2)]).map cuC⟩;rw [Y0r];exact .same _ (by rw [<- List.map_singleton,<- Y0r]; exact Z9 Ze _)
       . rw [if_neg (by simp)] at hnext;refine go ?_;exact⟨.inl rfl,(c,out),fun i=>i,⟨rfl,hnext.symm⟩,fun i hi=>absurd hi (by omega),Zt,⟨Qt 0 0 0,Qp (Ze b),Qt 2 0 0,Qp ⟨⟨Za _,Yt⟩,Yt⟩,Yt⟩,⟨Qs ⟨Ze c,Yt⟩,⟨by decide,_,rfl,RenB.single ⟨.own (ρ:=fun i=>i) 3 (by decide),Yt⟩ rfl⟩,Qs (Z9 Ze out),Yt⟩⟩
   . rw [if_pos rfl] at hnext;refine go ?_;refine Qd (Z13 c.2 hz1.2 x.val hr64) ⟨Z1 _,Yt,Yt⟩ ?_;refine go ?_
     refine Qr (Zx (k:=3) (m := [cuC (c.1,c.2 ||| 2 ^ x.val)]) (fl:=true) rfl rfl rfl (fun q hq=>by rw [Y0g] at hq; subst hq; rfl) rfl (by
      show ((out.map cuC).length+1)*48<=_
      rw [Y0f];omega)) ?_
     refine go ?_;refine Qe (Z13 c.1 hz1.1 x.val hr64) ⟨Z1 _,Yt,Yt⟩ ?_;refine go ?_;refine⟨.inl rfl,((c.1 ||| 2 ^ x.val,c.2),out ++ [(c.1,c.2 ||| 2 ^ x.val)]),mv 3 13,⟨rfl,hnext.symm⟩,fun i hi=>absurd hi (by omega),Zy rfl,⟨Qt 0 0 0,Qp (Ze b),Qt 2 0 0,Qp ⟨⟨Za _,Yt⟩,Yt⟩,Yt⟩,⟨Qs ⟨Ze (c.1 ||| 2 ^ x.val,c.2),Yt⟩,⟨by decide,_,rfl,RenB.single ⟨.own (ρ:=mv 3 13) 3 (by decide),Yt⟩ rfl⟩,⟨by decide,_,rfl,?_⟩,Yt⟩⟩;show RenB _ _ ⟨2,out.map cuC ++ [cuC (c.1,c.2 ||| 2 ^ x.val)]⟩ ⟨2,(out ++ [(c.1,c.2 ||| 2 ^ x.val)]).map cuC⟩;rw [Y0r];exact .same _ (by rw [<- List.map_singleton,<- Y0r]; exact Z9 Ze _)
 . rintro xs z hS ⟨-, rfl⟩;rw [hS]
   repeat' (first|refine Zf (Zp (k:=82) rfl rfl (Z9 Ze _)) ?_|(first|refine st ?_|(apply B<;>intro hb<;>try cases hb)))
   exact Z7 rfl (Z9 Ze _) rfl
 . rintro ex pre z - ⟨rfl,-⟩ (h|⟨id,h⟩)<;>cases h
end
end Go.Proofs.YtmnbbggaoembeaaGreatDoor
