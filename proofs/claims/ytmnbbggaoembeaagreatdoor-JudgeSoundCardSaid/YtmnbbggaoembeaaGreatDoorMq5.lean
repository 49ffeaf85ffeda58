/-
  Merged from the texts that this claim's theorem needs, part 6 of 8. No statement of the seat is proved here.
-/
import Derived.KernelRfl
import Derived.Shelf.SlSortCmp.NoneTotal
import Derived.Test.YtmnbbggaoembeaaGreatDoorChecked
import Derived.Test.YtmnbbggaoembeaaGreatDoorMq4
set_option linter.unusedSimpArgs false
set_option linter.unusedVariables false
set_option linter.unusedSectionVars false
set_option maxRecDepth 100000
set_option maxHeartbeats 16000000
namespace Go.Proofs.YtmnbbggaoembeaaGreatDoor
section
open Go.RowKit Go.Sort
section
variable {P:Program} {ρ:Go.Shelf.Ren} {α:Type}
def RawOk (F:Froz) (k:Nat) (enc:α→List PV) (p:List Value×α):Prop :=
 p.1.length=k∧(∀ v∈p.1,v.oneCell'=true)∧∀ j,j<k→Rep F noLoc (p.1.getD j undef) ((enc p.2).getD j pvu)
abbrev Raw (F:Froz) (k:Nat) (enc:α→List PV):={ p:List Value×α // RawOk F k enc p }
theorem Z83 {w:World} {blk off:Nat} {cells:Array Value} {t:TypeId} {fr:Nat×Nat} (hg:w.heap[blk]?=some (.cells cells t fr)) (D:Array Value):putRow id w blk off D=w.setRow blk (putCells id off D cells):=by
 unfold putRow;rw [mapBlock_congr w blk _ (fun _=>putCells id off D cells) (fun c e fr' h=>by rw [hg] at h; cases h; rfl)];unfold mapBlock World.setRow;congr 2
theorem Zg0 {W w':World} (hb:Below W.heap.size W w') (hd:W.drawn≤w'.drawn):∃ q os,w'=grow (W.drewN q) os:=by
 refine⟨w'.drawn-W.drawn,w'.heap.extract W.heap.size w'.heap.size,?_⟩;obtain⟨h1,h2,h3,h4,h5⟩:=hb;obtain⟨heap,tape,drawn,os,output⟩:=w';simp only at h1 h2 h3 h4 h5 hd ⊢;subst h1 h2 h3;simp only [grow,World.drewN,World.mk.injEq,true_and,and_true];refine⟨?_,by omega⟩;apply Array.ext_getElem?;intro i;rw [Array.getElem?_append];by_cases hi:i<W.heap.size
 · rw [if_pos hi]; exact h5 i hi
 · rw [if_neg hi, Array.getElem?_extract];by_cases h6:i<heap.size
   · rw [if_pos (by omega)];congr 1;omega
   · rw [if_neg (by omega)];exact Array.getElem?_eq_none (by omega)
theorem RawOk.agg {F:Froz} {k:Nat} {enc:α→List PV} {p:List Value×α} (h:RawOk F k enc p) (hl:(enc p.2).length=k):Rep F noLoc (.agg p.1.toArray) (.agg (enc p.2)):=by
 obtain⟨h1,h2,h3⟩:=h;have hg:∀ i,p.1.toArray.getD i undef=p.1.getD i undef:=fun i=>by simp [Y0d,Y0b]
 refine .agg _ _ (by simp [h1,hl]) (fun i hi=>?_) (fun i hi=>?_)
 · rw [hg, Y0b, Y0c (by omega)];exact h2 _ (Y0j _)
 · rw [hg]; exact h3 i (by omega)
theorem Zhm {β:Type} {cf:β→β→Int} {key:β→Nat} (h:∀ a b,cf a b<0↔key a<key b):SWO (ltOf cf):=by
 have e:∀ a b,ltOf cf a b=decide (key a<key b):=fun a b=>by unfold ltOf; exact decide_eq_decide.2 (h a b)
 refine⟨fun x=>?_,fun x y z h1 h2=>?_,fun x y z h1 h2=>?_⟩
 · rw [e]; simp
 · rw [e] at *; simp at *; omega
 · rw [e] at *; simp at *; omega
theorem ZcC (L:SlLaysF0.n6 P ρ) (hbody:HasBody P (ρ.f 6)) (k:Nat) (hk0:0<k) (aE:∀ w,(isAgg (ρ.t 24)).run P w=.ok true w) (zE:∀ w,(Go.sizeOf (ρ.t 24)).run P w=.ok k w) (enc:α→List PV) (hl:∀ x,(enc x).length=k) (hp:∀ x,pureL (enc x))
 (key:α→Nat) (cf:α→α→Int) (hcf:∀ a b,cf a b<0↔key a<key b) (g:FuncId) (caps:List PV) (hcaps:pureL caps) (hcmp:∀ a b,Spec P g (.agg (enc a) :: .agg (enc b) :: caps) (· = .val (.int .i64 (cf a b)))) {n ob:Nat} {h:Heap} (xs:List α) (hh:h ob=some ⟨k,xs.map enc⟩) :
 ISpec P (ρ.f 6) n [.own ob,.fn g caps] h fun n' r h'=>n'=n∧r=.tup []∧∃ ys:List α,ys.Perm xs∧ys.Pairwise (fun a b=>key a≤key b)∧h'=h.upd ob ⟨k,ys.map enc⟩:=by
 refine⟨hbody,?_⟩;intro C e F φ a w vs s hv;obtain⟨hsz,hvs⟩:=hv;have h0:Rep F φ (vs.getD 0 undef) (.own ob):=hvs 0 (by simp);have h1:Rep F φ (vs.getD 1 undef) (.fn g caps):=hvs 1 (by simp);obtain⟨loc,hloc,hz,hv0⟩:=h0.own_inv;obtain⟨cb,hv1,hcsz,hcb⟩:=h1.fn_inv;have hvs':vs = #[.slice loc.base loc.len loc.cap,.func (.func g) #[] cb]:=by
  simp only [Y04,List.length_nil] at hsz;apply Array.ext (by simpa using hsz);intro i hi1 hi2;have hi:i=0 ∨ i=1:=by simp at hi2; omega
  have hget:∀ j (hj:j<vs.size),vs.getD j undef=vs[j]:=fun j hj=>by simp [Array.getD,hj]
  rcases hi with rfl|rfl
  · rw [hget 0 hi1] at hv0; exact hv0
  · rw [hget 1 hi1] at hv1; exact hv1
 obtain⟨loc',hl1,hob,hhas⟩:=s.live ob _ hh;obtain rfl:loc'=loc:=by rw [hl1] at hloc; simpa using hloc
 have hbx:=hob.cells hz;have hlen:xs.length=loc'.len:=by have:=hbx.len; simpa using this
 have hke:k=loc'.esz:=hbx.esz;rw [hvs'];by_cases hx0:xs = []
 · subst hx0;have hl0:loc'.len=0:=hlen.symm;have hc:=AnyF.slices_SortFunc_none (P:=P) (ρ:=ρ) { L with } loc'.base loc'.cap (.func (.func g) #[] cb) w;rw [hl0];refine hc.mono ?_;rintro en w' ⟨rfl,rfl⟩;refine⟨_,.tup [],n,h.upd ob ⟨k,[].map enc⟩,F,φ,rfl,⟨rfl,rfl,[],.refl _,.nil,rfl⟩,.tup _ _ rfl (fun i hi=>absurd hi (Nat.not_lt_zero i)),s.sub (fun _ _ h=>h) fun i b hi=>?_⟩;by_cases hid:i=ob
   · subst hid; rw [Heap.upd_same] at hi; rw [hh]; exact hi
   · rw [Heap.upd_ne _ _ hid] at hi; exact hi
 · have hpos : 0 < xs.length := List.length_pos_iff.2 hx0;have hcap:=hbx.cap;have hc0:loc'.cap≠0:=by omega
   obtain⟨ad,hbase,hspot,cells,t,hg,hroom,hrep⟩:=hbx.room hc0;have hhb:loc'.has ad.block:=⟨hc0,ad,hbase,rfl⟩
   have hFn:∀ x:Addr,x.block=ad.block→F x=none:=(hhas _ hhb).2;have hblk:ad.block<w.heap.size:=(Array.getElem?_eq_some_iff.1 hg).1;have hin:∀ i j,i<xs.length→j<k→i*k+j<xs.length*k:=fun i j hi hj=>by
    have:=Nat.mul_le_mul_right k (show i+1≤xs.length from hi);rw [Nat.add_mul,Nat.one_mul] at this;omega
   have hsize:xs.length*k≤loc'.cap*loc'.esz:=by rw [hke]; exact Nat.mul_le_mul_right _ (by omega)
   have hraw:∀ i:Fin xs.length,RawOk F k enc ((List.range k).map fun j=>cells.getD (ad.off+(i.1*k+j)) undef,xs[i.1]):=by
    intro i;have hi:=i.2;refine⟨by simp,fun v hv=>?_,fun j hj=>?_⟩
    · obtain ⟨j, hj, rfl⟩ := Y0i.1 hv;have:=(hrep i.1 j (by omega) (by rw [← hke]; exact List.mem_range.1 hj)).1;rw [← hke] at this;exact this
    · have h2 := (hrep i.1 j (by omega) (by omega)).2;rw [← hke] at h2;have e1:((xs.map enc).getD i.1 [])=enc xs[i.1]:=by simp [Y0b,hi]
      rw [e1] at h2;have e2:((List.range k).map fun j=>cells.getD (ad.off+(i.1*k+j)) undef).getD j undef=cells.getD (ad.off+(i.1*k+j)) undef:=by simp [Y0b,hj]
      show Rep F noLoc (((List.range k).map fun j=>cells.getD (ad.off+(i.1*k+j)) undef).getD j undef) ((enc xs[i.1]).getD j pvu);rw [e2];exact h2.pure (ZS (hp _) j)
   letI:Inhabited (Raw F k enc):=⟨⟨_,hraw ⟨0,hpos⟩⟩⟩
   obtain⟨d,hd⟩:∃ d:Array (Raw F k enc),d=Array.ofFn fun i:Fin xs.length=>(⟨_,hraw i⟩:Raw F k enc):=⟨_,rfl⟩
   have hdsz:d.size=xs.length:=by rw [hd]; simp
   have hdget:∀ (i:Nat) (hi:i<xs.length),d[i]! = ⟨_,hraw ⟨i,hi⟩⟩:=fun i hi=>by
    have:i<d.size:=by omega
    rw [getElem!_pos d i this];simp only [hd,Array.getElem_ofFn]
   have hdl:d.toList.map (fun p=>p.1.2)=xs:=by
    apply List.ext_getElem
    · simp [hdsz]
    · intro i h3 h4;have h5:=hdget i h4;rw [getElem!_pos d i (by omega)] at h5;simp [h5]
   have encK:∀ x:Raw F k enc,(x.1.1).length=k:=fun x=>x.2.1;have enc1:∀ x:Raw F k enc,∀ v∈x.1.1,v.oneCell'=true:=fun x=>x.2.2.1;have hH:HoldsK (fun x:Raw F k enc=>x.1.1) k w ad.block ad.off d:=by
    intro q hq;rw [size_flatK,hdsz] at hq;have hi:q / k<xs.length:=(Nat.div_lt_iff_lt_mul hk0).2 hq;have hj:q % k<k:=Nat.mod_lt _ hk0;have hqe:q / k*k+q % k=q:=by rw [Nat.mul_comm]; exact Nat.div_add_mod q k
    rw [get_flatK _ _ _ _ (by rw [hdsz]; exact hq),hdget _ hi];have hlt:ad.off+q<cells.size:=by omega
    constructor
    · simp only [World.cell?, hg];rw [if_neg (by simp),Array.getElem?_eq_getElem hlt];congr 1;rw [getElem!_pos _ _ (by simp [hj])];simp only [List.getElem_map,List.getElem_range,hqe,id];simp [Array.getD,hlt]
    · simp only [World.frozen?, hg];simp
   have hcmpL:CmpLays P g cb (fun x:Raw F k enc=>x.1.1) k (fun x y=>cf x.1.2 y.1.2) ad.block ad.off d.size w:=by
    intro m os dk hdk x y;have hW:Proofs.YtmnbbggaoembeaaGreatDoor.Holds F (sortWorldK (fun x:Raw F k enc=>x.1.1) k w ad.block ad.off m dk os):=by
     refine⟨fun x v hx=>?_,s.glob⟩;obtain⟨f1,f2,f3⟩:=s.froz x v hx;refine⟨f1,f2,?_⟩;have hne:x.block≠ad.block:=fun he=>by rw [hFn x he] at hx; cases hx
     have h5:(putRowK (fun x:Raw F k enc=>x.1.1) k (Sort.ahead w m) ad.block ad.off dk).cell? x=some v:=by
      rw [cell?_putRowK_other _ _ _ _ _ _ _ hne]; exact f3
     unfold sortWorldK;have hlt:x.block<(putRowK (fun x:Raw F k enc=>x.1.1) k (Sort.ahead w m) ad.block ad.off dk).heap.size:=by
      unfold World.cell? at h5
      split at h5
      · rename_i hgx; exact (Array.getElem?_eq_some_iff.1 hgx).1
      · cases h5
     rw [World.cell?_of_block (w:=putRowK (fun x:Raw F k enc=>x.1.1) k (Sort.ahead w m) ad.block ad.off dk)]
     · exact h5
     · unfold grow;exact Array.getElem?_append_left hlt
    have hR:RepL F noLoc (#[.agg x.1.1.toArray,.agg y.1.1.toArray]++cb) (.agg (enc x.1.2) :: .agg (enc y.1.2) :: caps):=by
     refine⟨by simp [hcsz]; omega,fun i hi=>?_⟩
     match i,hi with
     | 0, _ =>
       rw [show (#[Value.agg x.1.1.toArray,Value.agg y.1.1.toArray]++cb).getD 0 undef=.agg x.1.1.toArray by simp [Y0d,Array.getElem?_append]];exact RawOk.agg x.2 (hl _)
     | 1, _ =>
       rw [show (#[Value.agg x.1.1.toArray,Value.agg y.1.1.toArray]++cb).getD 1 undef=.agg y.1.1.toArray by simp [Y0d,Array.getElem?_append]];exact RawOk.agg y.2 (hl _)
     | i + 2, hi =>
       have e1:(#[Value.agg x.1.1.toArray,Value.agg y.1.1.toArray]++cb).getD (i+2) undef=cb.getD i undef:=by
        simp only [Y0d];rw [Array.getElem?_append_right (by simp)];simp
       rw [e1];exact (hcb i (by simpa using hi)).pure (ZS hcaps i)
    refine (Zai ((hcmp x.1.2 y.1.2).2 F _ _ hW hR)).mono ?_;rintro en w' ⟨⟨v,r,F',rfl,rfl,hr,hbel,_⟩,hdr⟩;have hvi:=hr.val_inv;exact⟨by rw [hvi],Zg0 hbel (hdr v rfl)⟩
   have eg:∀ args w,(callFunc g args).run P w=.ok (.enter g args) w:=by
    obtain⟨⟨fn,hfn,hname,hbd⟩,_⟩:=hcmp xs[0] xs[0];intro args w;have h1 : ¬ fn.name = "runtime.NumGoroutine" := by simpa using hname
    have h2:¬ fn.body=none:=fun h=>by rw [h] at hbd; simp at hbd
    simp [callFunc,hfn,h1,h2]
   have hmx:=hbx.max;have hc:=AnyQ.slices_SortFunc L k aE zE (fun x:Raw F k enc=>x.1.1) encK enc1 (fun x y=>cf x.1.2 y.1.2) (Zhm (key:=fun x:Raw F k enc=>key x.1.2) fun a b=>hcf _ _) g cb ad.block ad.off loc'.cap d w eg hcmpL hH hblk (by rw [hdsz]; simp only [maxVec] at hmx;omega);rw [hbase,← hlen,← hdsz];rw [← Z4n ad hspot] at hc;refine hc.mono ?_;rintro en w' ⟨rfl,d',m,os,⟨hps,-,hpp⟩,hso,rfl⟩;have hpp':d'.toList.Perm d.toList:=by
    have e1:d'.extract 0 d.size=d':=by rw [← hps]; exact Array.extract_size
    have e2:d.extract 0 d.size=d:=Array.extract_size;rw [e1,e2] at hpp;exact hpp
   have hg':(Sort.ahead w m).heap[ad.block]?=some (.cells cells t (0,0)):=hg;obtain⟨cur',hcur⟩:∃ cur',cur'=putCells id ad.off (flatK (fun x:Raw F k enc=>x.1.1) k d') cells:=⟨_,rfl⟩
   have hw1:sortWorldK (fun x:Raw F k enc=>x.1.1) k w ad.block ad.off m d' os=grow ((Sort.ahead w m).setRow ad.block cur') os:=by
    unfold sortWorldK putRowK;rw [Z83 hg',hcur]
   have hget':∀ i j,i<xs.length→j<k→cur'.getD (ad.off+(i*k+j)) undef=(d'[i]!).1.1.getD j undef:=by
    intro i j hi hj;have hq:=hin i j hi hj;have hlt:ad.off+(i*k+j)<cells.size:=by omega
    have e1:(i*k+j) / k=i:=(blk_iff k i _ hk0).1 ⟨by omega,by omega⟩;have e2:(i*k+j) % k=j:=by rw [Nat.mod_eq_sub_div_mul,e1]; omega
    rw [hcur,putCells,Y0d,Array.getElem?_mapIdx,Array.getElem?_eq_getElem hlt];simp only [Option.map_some,Option.getD_some];rw [if_pos ⟨by omega,by rw [size_flatK,hps,hdsz]; omega⟩,show ad.off+(i*k+j)-ad.off=i*k+j by omega];show (flatK (fun x:Raw F k enc=>x.1.1) k d')[i*k+j]! = _;rw [get_flatK (fun x:Raw F k enc=>x.1.1) k d' (i*k+j) (by rw [hps,hdsz]; exact hq),e1,e2];have hj':j<(d'[i]!).1.1.length:=by rw [encK]; exact hj
    rw [getElem!_pos (d'[i]!).1.1 j hj',Y0b,Y0c hj',Option.getD_some]
   have hysl:(d'.toList.map fun p=>p.1.2).length=xs.length:=by simp [hps,hdsz]
   refine⟨_,.tup [],n,h.upd ob ⟨k,(d'.toList.map fun p=>p.1.2).map enc⟩,F,φ,rfl,⟨rfl,rfl,d'.toList.map fun p=>p.1.2,?_,?_,rfl⟩,.tup _ _ rfl (fun i hi=>absurd hi (Nat.not_lt_zero i)),?_⟩
   · have := hpp'.map fun p : Raw F k enc => p.1.2;rw [hdl] at this;exact this
   · rw [List.pairwise_iff_getElem];intro i j hi hj hij;have hi':i<d'.size:=by simpa using hi
     have hj':j<d'.size:=by simpa using hj
     have h5:=hso i j (Y0l _) hij (by omega);rw [getElem!_pos d' i hi',getElem!_pos d' j hj'] at h5;unfold ltOf at h5;have h6:=of_decide_eq_false h5;rw [hcf] at h6;simp only [List.getElem_map,Array.getElem_toList];omega
   · rw [hw1];have sA:St' C (fun i=>n≤i) e h F φ a (Sort.ahead w m):=s.turned (row:=none) (w':=Sort.ahead w m) ⟨rfl,rfl,rfl,Y0m _,fun _ _ _=>rfl⟩ (fun r hr=>by cases hr) (.inr fun r es t hr=>by cases hr) rfl (s.marks.mono fun _ h=>h);have s1:St' C (fun i=>n≤i) e (h.del ob) F φ a (Sort.ahead w m):=sA.sub (fun _ _ h=>h) (fun _ _ hh=>(Heap.del_some hh).2);have hbx':BxAt F φ ((Sort.ahead w m).setRow ad.block cur') loc' ⟨k,(d'.toList.map fun p=>p.1.2).map enc⟩:=by
      refine⟨hke,hz,by rw [← hlen]; simp [hps,hdsz],hcap,hmx,fun c hc=>?_,fun _=>⟨ad,hbase,hspot,cur',t,setRow_heap _ _ _ _ _ _ hg',?_,fun i j hi hj=>?_⟩⟩
      · obtain ⟨y, _, rfl⟩ := Y0i.1 hc;rw [hl,hke]
      · have : cur'.size = cells.size := by rw [hcur]; simp [putCells]
        omega
      · rw [← hke] at hj ⊢;have hi':i<xs.length:=by omega
        have hid:i<d'.size:=by omega
        rw [hget' i j hi' hj];obtain⟨r1,r2,r3⟩:=(d'[i]!).2;have hj':j<(d'[i]!).1.1.length:=by rw [r1]; exact hj
        have e3:((d'.toList.map fun p=>p.1.2).map enc).getD i []=enc (d'[i]!).1.2:=by
         rw [getElem!_pos d' i hid];simp [Y0b,hid]
        refine⟨?_,?_⟩
        · rw [Y0b, Y0c hj'];exact r2 _ (Y0j _)
        · show Rep F φ _ ((((d'.toList.map fun p => p.1.2).map enc).getD i []).getD j pvu);rw [e3];exact (r3 j hj).mono (fun _ _ h=>h) (fun i x hx=>by cases hx)
     have s2:=s1.adopt hg' (hhas _ hhb).1 hFn (s.del_no hh hl1 hhb) hl1 (fun _ _ h=>h) (fun _ _=>rfl) s.free (fun k' hk'=>by
      obtain⟨_,x,hx,rfl⟩:=hk';rw [hbase] at hx;cases hx
      rfl) hbx'
     have s3:=s2.turned (row:=none) (w':=grow ((Sort.ahead w m).setRow ad.block cur') os) ⟨rfl,rfl,rfl,by simp [grow],fun j hj _=>by unfold grow; exact Array.getElem?_append_left hj⟩ (fun r hr=>by cases hr) (.inr fun r es t hr=>by cases hr) rfl (s2.marks.mono fun j hj=>by
      unfold grow;rw [Array.getElem?_append_left (Array.getElem?_eq_some_iff.1 hj).1]
      exact hj)
     refine s3.sub (fun _ _ h=>h) fun i b hi=>?_;by_cases hid:i=ob
     · subst hid; rw [Heap.upd_same] at hi ⊢; exact hi
     · rw [Heap.upd_ne _ _ hid] at hi ⊢; rw [Heap.del_ne _ hid]; exact hi
end
end
section
open Go.RowKit
section
variable {P:Program} {C:Ctx} {Fr:Nat→Prop} {e:Env} {h:Heap} {F:Froz} {φ:Locs} {a:Act} {w:World}
theorem NSpec.ispec {f:FuncId} {args:List PV} {mk:Nat→PV} {b:Bx} (hs:NSpec P f args mk b) (hmk:Mk mk) (hpb:pureLL b.elems) (hpr:pureL args) {n:Nat}:ISpec P f n args h fun n' r h'=>n'=n+1∧r=mk n∧h'=h.upd n b:=by
 refine⟨hs.1,fun C e F φ a w vs s hv=>(hs.run hmk hpb hpr (Y0m n) s hv).mono ?_⟩;rintro en w' ⟨v,F',φ',rfl,hr,s'⟩;exact⟨v,mk n,n+1,h.upd n b,F',φ',rfl,⟨rfl,rfl,rfl⟩,hr,{ s' with free:=fun i hi=>s'.free i ⟨by omega,by omega⟩ }⟩
theorem Z1B {f nt:Nat} {ac:ACode} {rs:List ARes} (hf:FnOk P f nt ac rs) {args:List PV} {mk:Nat→PV} {b:Bx} (hn:args.length≤nt) (hk:∀ C:Ctx,C.dom 0→aw P C ac (retI rs fun _ r h'=>∃ id,r=mk id∧h' id=some b) 0 (argEnv args) (fun _=>none)):NSpec P f args mk b:=Z2q hf hn hk
theorem Z3R {f:Operand} {args:List Operand} {g:FuncId} {caps as0:List PV} {mk:Nat→PV} {b:Bx} {d:Option Nat} {os:List AOper} {n:Nat} {K:Nat→Env→Heap→Prop} (hs:NSpec P g (as0++caps) mk b) (hmk:Mk mk) (hpb:pureLL b.elems) (hf:ev e f=some (.fn g caps)) (ha:evs e args=some as0) (hp:pureL (as0++caps))
 (hk:opsK P os (n+1) (updO e d (mk n)) (h.upd n b) K):opsK P (⟨d,.call f args,none⟩ :: os) n e h K :=
 Z2s hf ha (hs.ispec hmk hpb hp) fun n' r h' hh=>by obtain⟨rfl,rfl,rfl⟩:=hh; exact hk
end
theorem NSpec.spec {P:Program} {f:FuncId} {args:List PV} {mk:Nat→PV} {b:Bx} (hs:NSpec P f args mk b) (hpb:pureLL b.elems) {q:PV} (hfr:∀ id,FrzP id b.elems (mk id) q) (hq:q.pure):Spec P f args (· = q):=by
 refine⟨hs.1,fun F w vs hF hv=>?_⟩
 let C1:Ctx:=⟨w,fun _=>False,F,1,noLoc⟩
 let a1:Act:={ tmps := #[undef],defers := [] }
 have s1:St' C1 (fun i=>0≤i) (fun _=>none) (fun _=>none) F noLoc a1 w :=
  { nt:=rfl,glob:=hF.2,marks:=Marks.nil rfl,loc0:=fun i x hx=>hx,free:=fun i hi=>rfl,env:=fun k p hp=>(by cases hp),froz:=hF.1,ext:=fun _ _ h=>h,old:=fun _ _ _=>rfl,os:=rfl,tape:=rfl,output:=rfl,size:=Y0m _,kept:=fun _ _ _=>rfl,live:=fun i b0 hi=>(by cases hi),sep:=fun i j bi bj li lj k hi hj _ _ _ _=>(by cases hi) }
 refine (hs.2 C1 _ F noLoc a1 w vs s1 hv).mono ?_;rintro en w' ⟨v,r,n',h',F',φ',rfl,⟨id,rfl,hb'⟩,hvr,s'⟩;have s2:=s'.put (d:=0) (show 0<1 by decide) hvr;obtain⟨F2,φ2,s3⟩:=Z66 (k:=0) (p:=mk id) (Env.upd_same _ _ _) hb' hpb (hfr id) _ _ ⟨F',φ',s2⟩;have hr:=(s3.env 0 q (Env.upd_same _ _ _)).2;exact⟨v,q,F2,rfl,rfl,Rep.pure (φ:=φ2) (φ':=noLoc) hr hq,⟨s3.os,s3.tape,s3.output,s3.size,fun k hk=>s3.kept k hk fun h=>h⟩,⟨s3.froz,s3.glob⟩,s3.ext,fun x hx=>s3.old x hx fun h=>h⟩
section
variable {P:Program} {e:Env} {h:Heap} {n:Nat} {K:Nat→Env→Heap→Prop} {os:List AOper} {d:Option Nat}
theorem Spec.ro {g:FuncId} {args:List PV} {i k:Nat} {b:Bx} {v:Value} (hs:Spec P g (args.set i (.vec b.elems false)) (· = .val v)) (hi:args[i]?=some (.own k)) (hb:h k=some b) (hpb:pureLL b.elems) (hpr:pureL (args.set i (.vec b.elems false))) :
 ISpec P g n args h fun n' r h'=>n'=n∧r=.val v∧h'=h:=by
 refine⟨hs.1,fun C e F φ a w vs s hv=>?_⟩
 let C1:Ctx:=⟨C.w0,C.G,C.F0,vs.size,C.φ0⟩
 let a1:Act:={ a with tmps:=vs }
 have s1:St' C1 (fun j=>n≤j) (argEnv args) h F φ a1 w:=by
  refine { nt:=rfl,glob:=s.glob,marks:=⟨s.marks.nd,s.marks.all⟩,loc0:=s.loc0,free:=s.free,env:=fun j p hp=>?_,froz:=s.froz,ext:=s.ext,old:=s.old,os:=s.os,tape:=s.tape,output:=s.output,size:=s.size,kept:=s.kept,live:=s.live,sep:=s.sep };have hj:j<args.length:=(List.getElem?_eq_some_iff.1 hp).1;refine⟨by show j<vs.size; rw [hv.1]; exact hj,?_⟩;have h1:=hv.2 j hj;have e2:args.getD j pvu=p:=by
   rw [Y0b];have hp':args[j]?=some p:=hp;rw [hp']; rfl
  rw [← e2];exact h1
 obtain⟨F2,φ2,s2⟩:=Z66 (k:=i) (p:=.own k) (q:=.vec b.elems false) hi hb hpb .own a1 w ⟨F,φ,s1⟩;have hrep:RepL F2 noLoc vs (args.set i (.vec b.elems false)):=by
  refine⟨by rw [hv.1,List.length_set],fun j hj=>?_⟩;have hj':j<args.length:=by rwa [List.length_set] at hj
  have he:((argEnv args).upd i (.vec b.elems false)) j=some ((args.set i (.vec b.elems false)).getD j pvu):=by
   by_cases hji:j=i
   · subst hji;rw [Env.upd_same,Y0b,List.getElem?_set_self hj']
     rfl
   · rw [Env.upd_ne _ _ hji, Y0b, List.getElem?_set_ne (Ne.symm hji)];show args[j]?=_;rw [Y0c hj']
     rfl
  exact Rep.pure (φ:=φ2) (φ':=noLoc) (s2.env j _ he).2 (ZS hpr j)
 refine (hs.2 F2 w vs ⟨s2.froz,s2.glob⟩ hrep).mono ?_;rintro en w' ⟨v',r,F3,rfl,rfl,hr,hbel,-,-,-⟩;obtain rfl:v'=v:=hr.val_inv;exact⟨v',.val v',n,h,F,φ,rfl,⟨rfl,rfl,rfl⟩,.val _,s.called hbel (Holds.kept ⟨s.froz,s.glob⟩ hbel) (fun _ _ h=>h) fun _ _=>rfl⟩
theorem Zhn {f:Operand} {args:List Operand} {g:FuncId} {caps as0 args':List PV} {i k:Nat} {b:Bx} {v:Value} (hs:Spec P g args' (· = .val v)) (hf:ev e f=some (.fn g caps)) (ha:evs e args=some as0) (hi:(as0++caps)[i]?=some (.own k)) (hb:h k=some b) (hargs:(as0++caps).set i (.vec b.elems false)=args') (hpb:pureLL b.elems) (hpr:pureL args')
 (hk:opsK P os n (updO e d (.val v)) h K):opsK P (⟨d,.call f args,none⟩ :: os) n e h K:=by
 subst hargs;exact Z2s hf ha (hs.ro hi hb hpb hpr) fun n' r h' hh=>by obtain⟨rfl,rfl,rfl⟩:=hh; exact hk
theorem Z5a {neg:Bool} {x:Operand} (hx:(∃ l fl,ev e x=some (.vec l fl)) ∨ ∃ k,ev e x=some (.own k)) (hz:h n=none) (hk:∀ b,opsK P os n (updO e d (.val (.bool b))) h K):opsK P (⟨d,.isnil neg x,none⟩ :: os) n e h K:=by
 unfold opsK;exact⟨n,e,h,Z4u,.inl (ZdN hx fun b=>by rw [Z5J hz]; exact hk b)⟩
end
section
variable {P:Program} {C:Ctx} {e:Env} {h:Heap} {n:Nat}
theorem Z1Z {ob id i0 j0:Nat} {bo b:Bx} (hob:h ob=some bo) (hb:h id=some b) (hne:ob≠id) (hp:pureLL b.elems) (hi0:i0<bo.elems.length) (hj0:j0<(bo.elems.getD i0 []).length) (hcell:(bo.elems.getD i0 []).getD j0 pvu=.own id) (hz:0<bo.esz:=by exact Nat.le_of_ble_eq_true rfl) :
 Sub C n e h n e ((h.del id).upd ob ⟨bo.esz,bo.elems.set i0 ((bo.elems.getD i0 []).set j0 (.vec b.elems false))⟩):=by
 rintro a w ⟨F,φ,s⟩;obtain⟨lo,o1,o2,o3⟩:=s.live ob bo hob;have o2:=o2.cellsB hz;have hcl:(bo.elems.getD i0 []).length=lo.esz:=o2.el _ (by simp [Y0b,hi0]);have hc0o:lo.cap≠0:=by have:=o2.cap; have:=o2.len; omega
 obtain⟨ado,hbaseo,hso,cellso,cto,hgo,hroomo,hrepo⟩:=o2.room hc0o;have hr0:=(hrepo i0 j0 (by rw [← o2.len]; exact hi0) (by rw [← hcl]; exact hj0)).2;rw [hcell] at hr0;obtain⟨loc,hl,hzl,hv⟩:=hr0.own_inv;obtain⟨loc',h1,h2,h3⟩:=s.live id b hb;obtain rfl:loc'=loc:=by rw [h1] at hl; simpa using hl
 have h2:=h2.cells hzl;have s1:St' C (fun i=>n≤i) e (h.del id) F φ a w:=s.sub (fun _ _ h=>h) (fun _ _ hh=>(Heap.del_some hh).2);have hdel:(h.del id) ob=some bo:=by rw [Heap.del_ne _ hne]; exact hob
 have fin:∀ {F':Froz},(∀ x v,F x=some v→F' x=some v)→St' C (fun i=>n≤i) e (h.del id) F' φ a w→Rep F' φ (cellso.getD (ado.off+(i0*lo.esz+j0)) undef) (.vec b.elems false) →
  St C (fun i=>n≤i) e ((h.del id).upd ob ⟨bo.esz,bo.elems.set i0 ((bo.elems.getD i0 []).set j0 (.vec b.elems false))⟩) a w:=by
  intro F' hx s2 hrep;refine⟨F',φ,{ s2 with live:=fun i bi hi=>?_,sep:=fun i j bi bj li lj k hi hj hli hlj hki hkj=>?_ }⟩
  · by_cases hio : i = ob
    · subst hio;rw [Heap.upd_same] at hi;cases hi;obtain⟨l2,g1,g2,g3⟩:=s2.live i bo hdel;obtain rfl:l2=lo:=by rw [g1] at o1; simpa using o1
      refine⟨l2,g1,.inl ⟨o2.esz,o2.pos,by simpa using o2.len,o2.cap,o2.max,fun c hc=>?_,fun _=>⟨ado,hbaseo,hso,cellso,cto,hgo,hroomo,fun i' j' hi' hj'=>?_⟩⟩,g3⟩
      · rcases List.mem_or_eq_of_mem_set hc with h | h
        · exact o2.el c h
        · rw [h,List.length_set]; exact hcl
      · refine ⟨(hrepo i' j' hi' hj').1, ?_⟩;by_cases hii:i'=i0
        · subst hii;have e1:(bo.elems.set i' ((bo.elems.getD i' []).set j0 (.vec b.elems false))).getD i' []=(bo.elems.getD i' []).set j0 (.vec b.elems false):=by
           rw [Y0b,List.getElem?_set]; simp [hi0]
          rw [e1];by_cases hjj:j'=j0
          · subst hjj;have e2:((bo.elems.getD i' []).set j' (.vec b.elems false)).getD j' pvu=.vec b.elems false:=by
             rw [Y0b,List.getElem?_set,if_pos rfl,if_pos hj0]; rfl
            rw [e2];exact hrep
          · have e2 : ((bo.elems.getD i' []).set j0 (.vec b.elems false)).getD j' pvu = (bo.elems.getD i' []).getD j' pvu := by
             rw [Y0b,List.getElem?_set,if_neg (Ne.symm hjj),← Y0b]
            rw [e2];exact (hrepo i' j' hi' hj').2.mono hx fun _ _ h=>h
        · have e1 : (bo.elems.set i0 ((bo.elems.getD i0 []).set j0 (.vec b.elems false))).getD i' [] = bo.elems.getD i' [] := by
           rw [Y0b,List.getElem?_set,if_neg (Ne.symm hii),← Y0b]
          rw [e1];exact (hrepo i' j' hi' hj').2.mono hx fun _ _ h=>h
    · rw [Heap.upd_ne _ _ hio] at hi;exact s2.live i bi hi
  · have conv : ∀ {i : Nat} {bi : Bx}, ((h.del id).upd ob ⟨bo.esz, bo.elems.set i0 ((bo.elems.getD i0 []).set j0 (.vec b.elems false))⟩) i = some bi → ∃ b0, (h.del id) i = some b0 := by
     intro i bi hi;by_cases hio:i=ob
     · subst hio; exact⟨bo,hdel⟩
     · rw [Heap.upd_ne _ _ hio] at hi; exact⟨bi,hi⟩
    obtain⟨b1,g1⟩:=conv hi
    obtain⟨b2,g2⟩:=conv hj
    exact s2.sep i j b1 b2 li lj k g1 g2 hli hlj hki hkj
 by_cases hc0:loc'.cap=0
 · have hl0 : loc'.len = 0 := by have := h2.cap; omega
   have he0:b.elems = []:=List.eq_nil_of_length_eq_zero (by rw [h2.len,hl0]);refine fin (fun _ _ h=>h) s1 ?_;rw [hv,he0,hl0,hc0];cases hbs:loc'.base with
   | none=>exact .vecnil false
   | some x=>exact .vec (F:=F) (φ:=φ) x 0 0 [] false (fun _ _=>undef) (fun h=>absurd rfl h) (Y0m _) (by simp) (by simp) (by simp) (by simp) (by simp)
 · obtain ⟨ad, hbase, hs, cells, ct, hg, hroom, hrep⟩ := h2.room hc0;have hhas:loc'.has ad.block:=⟨hc0,ad,hbase,rfl⟩
   have s2:=s1.frz hg (h3 _ hhas).2 (s.del_no hb h1 hhas) (h3 _ hhas).1;have hx:=Z1k (h3 _ hhas).2 cells;refine fin hx s2 ?_;rw [hv,hbase,← h2.len];have hlt2:∀ i j,i<b.elems.length→j<loc'.esz→ad.off+(i*loc'.esz+j)<cells.size:=fun i j hi hj=>by
    have:=Z1u (n:=loc'.cap) (i:=i) (j:=j) (esz:=loc'.esz) (by have:=h2.cap; have:=h2.len;omega) hj;omega
   refine .vec ad loc'.cap loc'.esz b.elems false (fun i j=>cells.getD (ad.off+(i*loc'.esz+j)) undef) (fun _=>hs) (by rw [h2.len]; exact h2.cap) (by simp) (by rw [h2.len]; exact h2.max) (fun i hi=>h2.el _ (by simp [Y0b,hi])) (fun i j hi hj=>?_) (fun i j hi hj=>?_)
   · exact Z1o F _ _ (hlt2 i j hi hj) (hrep i j (by rw [← h2.len]; exact hi) hj).1
   · exact (hrep i j (by rw [← h2.len]; exact hi) hj).2.mono hx fun _ _ h=>h
theorem ZX {ob id i0 j0:Nat} {bo b:Bx} (hob:h ob=some bo) (hb:h id=some b) (hne:ob≠id) (hp:pureLL b.elems) (hi0:i0<bo.elems.length) (hj0:j0<(bo.elems.getD i0 []).length) (hcell:(bo.elems.getD i0 []).getD j0 pvu=.own id) (hz:0<bo.esz:=by exact Nat.le_of_ble_eq_true rfl) :
 SubA n e h n e ((h.del id).upd ob ⟨bo.esz,bo.elems.set i0 ((bo.elems.getD i0 []).set j0 (.vec b.elems false))⟩):=fun _=>Z1Z hob hb hne hp hi0 hj0 hcell hz
end
end
section
open Go.RowKit
attribute [local irreducible] aw opsK dK
theorem Z8U {α:Type} {p:α→Bool}:∀ {xs:List α},(∃ x∈xs,p x=true)→∃ (i:Nat) (hi:i<xs.length),idxI p xs=(i:Int)∧p xs[i]=true
 | [],h=>by obtain⟨_,h,_⟩:=h; cases h
 | x :: xs, h => by
   by_cases hx:p x=true
   · exact⟨0,Nat.zero_lt_succ _,by simp [idxI,hx],hx⟩
   · obtain ⟨y, hy, hp⟩ := h;obtain⟨i,hi,h1,h2⟩:=Z8U (p:=p) (xs:=xs) ⟨y,(List.mem_cons.1 hy).resolve_left fun e=>hx (e▸hp),hp⟩;refine⟨i+1,by rw [Y04]; omega,?_,h2⟩;have hn:¬ ((i:Int)<0):=by omega
     simp [idxI,hx,h1,hn]
theorem ZcD (xs:List Int) (v:Int) (fl:Bool):Spec Tryz.prog 148 [.vec (nums xs) fl,.val (.int .i64 v)] (· = .val (.int .i64 (idxI (fun x=>v == x) xs))):=by
 have hnl:=Za7 xs;refine Yp ok148 fun C hC=>?_;refine Z2S (k:=0) rfl fun hmax=>?_;have hlm:xs.length≤maxVec:=by rw [← hnl]; exact hmax
 refine go ?_;refine Z31 (fun i=>i≤xs.length∧(xs.take i).any (fun x=>v == x)=false) (fun i=>xs.length-i) (fun i => [(0,.vec (nums xs) fl),(1,.val (.int .i64 v)),(7,.val (.int .i64 (xs.length:Int))),(8,Yv i)]) 0 ⟨Y0l _,rfl⟩ ⟨rfl,rfl,by rw [← hnl]; rfl,rfl,Yt⟩ ?_;rintro i ⟨hi,hno⟩;have hinc:IntKind.i64.wrap ((i:Int)+1)=((i+1:Nat):Int):=Y0v _ ⟨by omega,by simp only [maxVec] at hlm; omega⟩
 iterate 2 (first|refine st ?_|(apply B<;>intro hb<;>try cases hb))
 refine Zt rfl rfl rfl (fun hb=>?_) (fun hb=>?_)
 · have hil : i < xs.length := by have := Y0u hb; omega
   clear hb;refine go ?_;refine Z0 (Zo (xs:=xs) (g:=fun x => [.val (.int .i64 x)]) rfl rfl i rfl hil rfl) rfl rfl ?_
   iterate 1 (first|refine st ?_|(apply B<;>intro hb<;>try cases hb))
   refine Zt rfl rfl rfl (fun hx=>?_) (fun hx=>?_)
   · refine go ?_;exact Z5 rfl Yt (by rw [Z4f hil hno hx])
   · refine go ?_;exact⟨i+1,⟨by omega,Z38 hil hno hx⟩,by omega,rfl,rfl,⟨rfl,rfl,rfl,by show some _=some _; rw [hinc],Yt⟩⟩
 · have hil : i = xs.length := by have := of_decide_eq_false hb; omega
   subst hil;rw [Y0q] at hno;refine go ?_;exact Z5 rfl Yt (by rw [Z27 hno]; rfl)
theorem Zg1 (f:Nat→Int):tab (intR f)=nums ((List.range 64).map f):=by rw [tab,nums,List.map_map]; rfl
theorem Z84 {f:Nat→Int} {i:Nat} (v:Int) (hi:i<64):(tab (intR f)).set i (setAt ((tab (intR f)).getD i []) 0 [.val (.int .i64 v)])=tab (intR fun j=>if j=i then v else f j):=by
 rw [Z2L hi,show setAt (intR f i) 0 [.val (.int .i64 v)] = [.val (.int .i64 v)] from rfl,Zeb _ hi];refine Z3s fun j _=>?_;show (if j=i then [PV.val (.int .i64 v)] else intR f j) = [PV.val (.int .i64 (if j=i then v else f j))];by_cases hj:j=i
 · rw [if_pos hj,if_pos hj]
 · rw [if_neg hj,if_neg hj]; rfl
theorem Z6i {f g:Nat→Int} (h:∀ j,j<64→f j=g j):tab (intR f)=tab (intR g):=Z3s fun j hj=>by show [PV.val (.int .i64 (f j))] = [PV.val (.int .i64 (g j))]; rw [h j hj]
def ordB (l:List Pr) (fp:Bool) (a b s:PV):Bx:=⟨5,[[.val (.int .i64 64),.vec (l.map prC) fp,a,b,s]]⟩
theorem Zh (l:List Pr):pureLL (l.map prC):=Za Z3P l
theorem ZcE (l:List Pr) (fp:Bool) (hl:Small l) (hacy:Acy l) (hlen:l.length≤1000000) :
 PSpec Tryz.prog 107 (ordB l fp (.vec [] true) (.vec [] true) (.vec [] true)) [] fun r b'=>r=.val (.bool true)∧∃ S,Topo l S∧S.length=64∧b'=ordB l fp (.vec [] true) (.vec [] true) (.vec (nums (intsN S)) false):=by
 have hpl:∀ D,innLL D (l.map prC):=fun D=>Z9 (fun _ h=>h.elim) _ (Zh l);have hnl:(l.map prC).length=l.length:=by simp
 have hti:∀ (f:Nat→Int) D,innLL D (tab (intR f)):=fun f D=>Z9 (fun _ h=>h.elim) _ (Z1q (Z4G f));refine Z1z ok107 (Nat.le_of_ble_eq_true rfl) fun C hC=>?_
 iterate 2 (first|refine st ?_|(apply B<;>intro hb<;>try cases hb))
 refine Zi (Z24 (id:=0) (i0:=0) (j0:=4) rfl (Nat.le_of_ble_eq_true rfl) (Nat.le_of_ble_eq_true rfl) rfl 1 (by decide) (by decide)) ?_;refine go ?_;refine Zn hC (fun i=>i≤l.length) (fun i=>l.length-i) 3 (fun i => [(0,.ptr 0 0 0),(3,.own 2),(17,.vec (l.map prC) fp),(18,.val (.int .i64 l.length)),(19,Yv i)])
  (fun i => [(0,ordB l fp (.vec [] true) (.vec [] true) (.own 1)),(1,⟨1,[]⟩),(2,⟨1,tab (intR fun j=>(cntP (l.take i) j:Nat))⟩)]) (by omega) 0 (Y0l _)
  ⟨⟨rfl,show (0:Nat)<3 by decide⟩,⟨rfl,show (2:Nat)<3 by decide⟩,⟨rfl,hpl _⟩,⟨by rw [← hnl]; rfl,Yt⟩,⟨rfl,Yt⟩,Yt⟩
  ⟨⟨by decide,rfl,⟨⟨Yt,hpl _,Yt,Yt,show (1:Nat)<3 by decide,Yt⟩,Yt⟩⟩,⟨by decide,rfl,Yt⟩,⟨by decide,by show some (Bx.mk 1 (List.replicate 64 (zpv [Value.int .i64 0])))=_; rw [Zhk]; rfl,hti _ _⟩,Yt⟩ ?_
 intro i hi;have hinc:IntKind.i64.wrap ((i:Int)+1)=((i+1:Nat):Int):=Y0v _ ⟨by omega,by omega⟩
 iterate 2 (first|refine st ?_|(apply B<;>intro hb<;>try cases hb))
 refine Zt rfl rfl rfl (fun hb=>?_) (fun hb=>?_)
 · have hil : i < l.length := by have := Y0u hb; omega
   have hp:=hl _ (Y0j hil);have hst:=fun j=>Zea hil j;have hcl:=Zhj (l.take i) l[i].2;rw [Y0o] at hcl;clear hb;refine go ?_;refine Z0 (Zo (xs:=l) (g:=prC) rfl rfl i rfl hil rfl) rfl rfl ?_;generalize l[i]=p at hp hst hcl ⊢;refine go ?_;refine Z0 (ZL rfl rfl rfl p.2 rfl (by rw [ZW]; exact hp.2) rfl) rfl rfl ?_;refine Z0 (Z2t (i:=p.2) rfl rfl (by rw [ZW]; exact hp.2) (by rw [Z2L hp.2]; rfl)) rfl rfl ?_;refine go ?_;refine Z0 (ZL rfl rfl rfl p.2 rfl (by rw [ZW]; exact hp.2) rfl) rfl rfl ?_;refine Z0 (Z1R (i:=p.2) rfl rfl rfl rfl rfl (by rw [ZW]; exact hp.2) (Y0m _)) rfl rfl ?_;refine go ?_;have hadd:IntKind.i64.wrap (((cntP (l.take i) p.2:Nat):Int)+1)=((cntP (l.take i) p.2+1:Nat):Int):=Y0v _ ⟨by omega,by omega⟩
   refine⟨i+1,by omega,by omega,⟨⟨rfl,show (0:Nat)<3 by decide⟩,⟨rfl,show (2:Nat)<3 by decide⟩,⟨rfl,hpl _⟩,⟨rfl,Yt⟩,⟨by show some _=some _; rw [hinc],Yt⟩,Yt⟩,
    ⟨⟨by decide,rfl,⟨⟨Yt,hpl _,Yt,Yt,show (1:Nat)<3 by decide,Yt⟩,Yt⟩⟩,⟨by decide,rfl,Yt⟩,⟨by decide,?_,hti _ _⟩,Yt⟩⟩
   show some (Bx.mk 1 ((tab (intR fun j=>(cntP (l.take i) j:Nat))).set p.2 (setAt ((tab (intR fun j=>(cntP (l.take i) j:Nat))).getD p.2 []) 0 [.val (.int .i64 (IntKind.i64.wrap (((cntP (l.take i) p.2:Nat):Int)+1)))])))=some _;rw [Z84 _ hp.2,hadd];refine congrArg (fun t=>some (Bx.mk 1 t)) (Z6i fun j _=>?_);show (if j=p.2 then ((cntP (l.take i) p.2+1:Nat):Int) else ((cntP (l.take i) j:Nat):Int))=((cntP (l.take (i+1)) j:Nat):Int)
   rw [hst j];by_cases hj:j=p.2
   · rw [if_pos hj,if_pos hj,hj]
   · rw [if_neg hj,if_neg hj]
 · have hil : i = l.length := by have := of_decide_eq_false hb; omega
   subst hil;rw [Y0q];clear hb;refine go ?_;refine ZJ hC (fun S:List Nat=>Topo l S) (fun S=>64-S.length) 3 (fun S => [(0,.ptr 0 0 0),(3,.own 2)])
    (fun S => [(0,ordB l fp (.vec [] true) (.vec [] true) (.own 1)),(1,⟨1,nums (intsN S)⟩),(2,⟨1,tab (intR (leftA l S))⟩)]) (by decide) [] (Topo.nil l) (fun i=>i) (fun _ _=>rfl) Zu
    ⟨⟨_,rfl,.ptr (ρ:=fun i=>i) 0 0 0 (by decide)⟩,⟨_,rfl,.own (ρ:=fun i=>i) 2 (by decide)⟩,Yt⟩
    ⟨⟨by decide, _, rfl, RenB.single ⟨.pure _ Yt, .pure _ (Zh l), .pure _ Yt, .pure _ Yt, .own (ρ := fun i => i) 1 (by decide), Yt⟩ rfl⟩, ⟨by decide, _, rfl, .same _ Yt⟩,
      ⟨by decide,_,rfl,by rw [show leftA l []=fun j=>((cntP l j:Nat):Int) from funext (ZfZ l)]; exact .same _ (Z1q (Z4G _))⟩,Yt⟩ ?_
   intro S hT;have hSl:=hT.len;have hSn:(nums (intsN S)).length=S.length:=by simp [nums,intsN]
   have hap:∀ (l:List Nat) D,innLL D (nums (intsN l)):=fun l D=>Z4A _ D;refine gd 40 ⟨?_⟩;refine Z7P rfl rfl rfl (fun hb=>?_) (fun hb=>?_)
   · have hlt : S.length < 64 := by
      have h2:=Y0u hb;rw [hSn] at h2;omega
     clear hb;refine go ?_;obtain⟨j0,hj0,hjn,hjp⟩:=kahn hl hacy hT hlt;obtain⟨k,hk,hidx,hpk⟩:=Z8U (p:=fun x=>(0:Int) == x) (xs:=(List.range 64).map (leftA l S)) ⟨leftA l S j0,Y0i.2 ⟨j0,List.mem_range.2 hj0,rfl⟩,by rw [Z7h.2 ⟨hjn,hjp⟩]; rfl⟩;have hk64:k<64:=by simpa using hk
     have hz:leftA l S k=0:=by
      have:=eq_of_beq hpk;rw [List.getElem_map,List.getElem_range] at this;exact this.symm
     obtain⟨hkS,hkp⟩:=Z7h.1 hz;refine Zhn (i:=0) (k:=2) (ZcD ((List.range 64).map (leftA l S)) 0 false) rfl rfl rfl rfl (by show [PV.vec (tab (intR (leftA l S))) false,PV.val (.int .i64 0)]=_; rw [Zg1]) (Z1q (Z4G _)) ⟨ZF _,Yt,Yt⟩ ?_;rw [hidx];have hT':=hT.snoc hkS hk64 hkp;refine go ?_
     · refine Z0 (ZL rfl rfl rfl k rfl (by rw [ZW]; exact hk64) rfl) rfl rfl ?_;refine Z0 (Z1R (i:=k) rfl rfl rfl rfl rfl (by rw [ZW]; exact hk64) (Y0m _)) rfl rfl ?_;have e0:(tab (intR (leftA l S))).set k (setAt ((tab (intR (leftA l S))).getD k []) 0 [.val (.int .i64 (-1))])=tab (intR (leftB l S k 0)):=by
        rw [Z84 _ hk64];exact Z6i fun j _=>(Zcv l S k j).symm
       refine go ?_
       refine ZD (ZB (k:=1) (m := [[.val (.int .i64 (k:Int))]]) (fl:=true) (b:=⟨1,nums (intsN S)⟩) rfl rfl rfl (fun r hr=>by rw [Y0g] at hr; subst hr; rfl) rfl (by
        show ((nums (intsN S)).length+1)*8≤_
        rw [hSn];omega)) rfl rfl ?_
       refine go ?_;have hSk:nums (intsN S) ++ [[PV.val (.int .i64 (k:Int))]]=nums (intsN (S ++ [k])):=by simp [nums,intsN]
       refine Zn hC (fun i=>i≤l.length) (fun i=>l.length-i) 14 (fun i => [(0,.ptr 0 0 0),(3,.own 2),(6,.val (.int .i64 (k:Int))),(61,.vec (l.map prC) fp),(62,.val (.int .i64 l.length)),(63,Yv i)])
        (fun i => [(0,ordB l fp (.vec [] true) (.vec [] true) (.own 13)),(13,⟨1,nums (intsN (S ++ [k]))⟩),(2,⟨1,tab (intR (leftB l S k i))⟩)]) (by decide) 0 (Y0l _)
        ⟨⟨rfl,show (0:Nat)<14 by decide⟩,⟨rfl,show (2:Nat)<14 by decide⟩,⟨rfl,Yt⟩,⟨rfl,hpl _⟩,⟨by rw [← hnl]; rfl,Yt⟩,⟨rfl,Yt⟩,Yt⟩
        ⟨⟨by decide,rfl,⟨⟨Yt,hpl _,Yt,Yt,show (13:Nat)<14 by decide,Yt⟩,Yt⟩⟩,⟨by decide,by rw [← hSk]; rfl,hap _ _⟩,⟨by decide,by rw [← e0]; rfl,hti _ _⟩,Yt⟩ ?_
       intro i hi;have hinc:IntKind.i64.wrap ((i:Int)+1)=((i+1:Nat):Int):=Y0v _ ⟨by omega,by omega⟩
       iterate 2 (first|refine st ?_|(apply B<;>intro hb<;>try cases hb))
       refine Zt rfl rfl rfl (fun hb=>?_) (fun hb=>?_)
       · have hil : i < l.length := by have := Y0u hb; omega
         have hp:=hl _ (Y0j hil);have hst:=fun j=>Zcw hil j hT hkS hkp;clear hb;refine go ?_;refine Z0 (Zo (xs:=l) (g:=prC) rfl rfl i rfl hil rfl) rfl rfl ?_;generalize l[i]=p at hp hst ⊢;have hbl:=ZfY l S k i p.2;(refine go ?_;repeat' (apply B<;>intro hb<;>try cases hb))
         · have hpk1 : p.1 = k := by have := eq_of_beq hb; exact Int.ofNat_inj.1 this
           clear hb;refine Z0 (ZL rfl rfl rfl p.2 rfl (by rw [ZW]; exact hp.2) rfl) rfl rfl ?_;refine Z0 (Z2t (i:=p.2) rfl rfl (by rw [ZW]; exact hp.2) (by rw [Z2L hp.2]; rfl)) rfl rfl ?_;refine go ?_;refine Z0 (ZL rfl rfl rfl p.2 rfl (by rw [ZW]; exact hp.2) rfl) rfl rfl ?_;refine Z0 (Z1R (i:=p.2) rfl rfl rfl rfl rfl (by rw [ZW]; exact hp.2) (Y0m _)) rfl rfl ?_;(refine go ?_;repeat' (apply B<;>intro hb<;>try cases hb));have hsub:IntKind.i64.wrap (leftB l S k i p.2-1)=leftB l S k i p.2-1:=Y0v _ ⟨by omega,by omega⟩
           refine⟨i+1,by omega,by omega,⟨⟨rfl,show (0:Nat)<14 by decide⟩,⟨rfl,show (2:Nat)<14 by decide⟩,⟨rfl,Yt⟩,⟨rfl,hpl _⟩,⟨rfl,Yt⟩,⟨by show some _=some _; rw [hinc],Yt⟩,Yt⟩,
            ⟨⟨by decide,rfl,⟨⟨Yt,hpl _,Yt,Yt,show (13:Nat)<14 by decide,Yt⟩,Yt⟩⟩,⟨by decide,rfl,hap _ _⟩,⟨by decide,?_,hti _ _⟩,Yt⟩⟩
           show some (Bx.mk 1 ((tab (intR (leftB l S k i))).set p.2 (setAt ((tab (intR (leftB l S k i))).getD p.2 []) 0 [.val (.int .i64 (IntKind.i64.wrap (leftB l S k i p.2-1)))])))=some _;rw [Z84 _ hp.2,hsub];refine congrArg (fun t=>some (Bx.mk 1 t)) (Z6i fun j _=>?_);show (if j=p.2 then leftB l S k i p.2-1 else leftB l S k i j)=leftB l S k (i+1) j;rw [hst j];by_cases hj:j=p.2
           · rw [if_pos hj,if_pos ⟨hpk1,hj⟩,hj]
           · rw [if_neg hj,if_neg fun h=>hj h.2]
         · have hpk1 : ¬ p.1 = k := fun h => by rw [h] at hb; simp at hb
           clear hb
           refine⟨i+1,by omega,by omega,⟨⟨rfl,show (0:Nat)<14 by decide⟩,⟨rfl,show (2:Nat)<14 by decide⟩,⟨rfl,Yt⟩,⟨rfl,hpl _⟩,⟨rfl,Yt⟩,⟨by show some _=some _; rw [hinc],Yt⟩,Yt⟩,
            ⟨⟨by decide,rfl,⟨⟨Yt,hpl _,Yt,Yt,show (13:Nat)<14 by decide,Yt⟩,Yt⟩⟩,⟨by decide,rfl,hap _ _⟩,⟨by decide,?_,hti _ _⟩,Yt⟩⟩
           show some (Bx.mk 1 (tab (intR (leftB l S k i))))=some _;refine congrArg (fun t=>some (Bx.mk 1 t)) (Z6i fun j _=>?_);rw [hst j,if_neg fun h=>hpk1 h.1]
       · have hil : i = l.length := by have := of_decide_eq_false hb; omega
         subst hil;clear hb;refine go ?_
         refine⟨S ++ [k],mv 1 13,hT',by rw [Y0e,Y0s]; omega,Z7c (Y0m 1),Zw rfl,
          ⟨⟨_,rfl,.ptr (ρ:=mv 1 13) 0 0 0 (by decide)⟩,⟨_,rfl,.own (ρ:=mv 1 13) 2 (by decide)⟩,Yt⟩,
          ⟨⟨by decide,_,rfl,RenB.single ⟨.pure _ Yt,.pure _ (Zh l),.pure _ Yt,.pure _ Yt,.own (ρ:=mv 1 13) 1 (by decide),Yt⟩ rfl⟩,⟨by decide,_,rfl,.same _ (ZF _)⟩,
          ⟨by decide,_,rfl,?_⟩,Yt⟩⟩
         rw [show tab (intR (leftB l S k l.length))=tab (intR (leftA l (S ++ [k]))) from Z6i fun j _=>Ze9 l S k j];exact .same _ (Z1q (Z4G _))
   · have h64 : S.length = 64 := by
      have h2:=of_decide_eq_false hb;rw [hSn] at h2;omega
     clear hb;refine gd 2 ⟨?_⟩;refine Zi (ZX (ob:=0) (id:=1) (i0:=0) (j0:=4) rfl rfl (by decide) (ZF _) (Nat.le_of_ble_eq_true rfl) (Nat.le_of_ble_eq_true rfl) rfl) ?_;refine go ?_;exact⟨_,_,rfl,.inl rfl,_,rfl,Yt,⟨⟨Yt,Zh l,Yt,Yt,ZF _,Yt⟩,Yt⟩,rfl,S,hT,h64,rfl⟩
end
section
open Go.RowKit
section
variable {P:Program} {C:Ctx} {e:Env} {h:Heap}
theorem Zg3 (k k':Nat):mv k k' k=k':=by
 unfold mv;rw [show Nat.beq k k=true from Nat.beq_refl k]; rfl
theorem Z5E {k k' i:Nat} (hi:i≠k):mv k k' i=i:=by
 have e1:Nat.beq i k=false:=Bool.eq_false_iff.2 fun hb=>hi (Nat.eq_of_beq_eq_true hb);unfold mv;rw [e1]; rfl
theorem Zaj {h0:Heap} {D n0:Nat} (hD:D<n0) {g:Nat→Bx} {j0 new n':Nat} (hj:j0<64) (hnew:n0+64≤new) {r:Bx} (hr:pureLL r.elems) (hg:∀ j,pureLL (g j).elems) {e':Env} (he:∀ k p,e' k=some p→∃ p0,e k=some p0∧RenP (mv (n0+j0) new) (fun i=>i<n0+64) p0 p)
 (hb:∀ k b,h0 k=some b→k≠D→k<n0∧RenB (mv (n0+j0) new) (fun i=>i<n0+64) b b) {m:Nat} (hdom:C.dom m) (hm:m≤n0) :
 Sub C n' e ((((tabH h0 D n0 (fun j=>.own (n0+j)) 64 g).del (n0+j0)).upd new r).upd D ⟨1,((List.range 64).map fun j => [PV.own (n0+j)]).set j0 [.own new]⟩) (n0+64) e' (tabH h0 D n0 (fun j=>.own (n0+j)) 64 fun j=>if j=j0 then r else g j):=by
 have hcase:∀ k b,tabH h0 D n0 (fun j=>.own (n0+j)) 64 (fun j=>if j=j0 then r else g j) k=some b→k<n0+64:=fun k b hk=>by
  rcases Z7j hD hk with⟨rfl,_⟩|⟨j,hj,rfl,_⟩|⟨h1,h2,h3⟩
  · omega
  · omega
  · have:=(hb k b h3 h1).1; omega
 refine Zg2 (mv (n0+j0) new) he (fun k b hk=>⟨hcase k b hk,?_⟩) (fun k k' b b' hk hk' hh=>?_) hdom (by omega) (fun i hi=>Z5E (by omega))
 · rcases Z7j hD hk with ⟨rfl, rfl⟩ | ⟨j, hj2, rfl, rfl⟩ | ⟨h1, h2, h3⟩
   · rw [Z5E (by omega), Heap.upd_same];refine⟨_,rfl,.gen _ _ Nat.zero_lt_one rfl (by simp) (fun i hi=>?_) fun i q hi hq=>?_⟩
     · have hi' : i < 64 := by simpa using hi
       rw [Z4J _ hj,Z1e hi',Z1e hi']
       split<;>rfl
     · have hi' : i < 64 := by simpa using hi
       have hq0:q=0:=Nat.lt_one_iff.1 hq;subst hq0;rw [Z4J _ hj,Z1e hi',Z1e hi'];by_cases hij:i=j0
       · subst hij;rw [if_pos rfl];show RenP _ _ (.own new) (.own (n0+i));have:=RenP.own (ρ:=mv (n0+i) new) (D:=fun x=>x<n0+64) (n0+i) (by omega);rw [Zg3] at this;exact this
       · rw [if_neg hij];show RenP _ _ (.own (n0+i)) (.own (n0+i));have:=RenP.own (ρ:=mv (n0+j0) new) (D:=fun x=>x<n0+64) (n0+i) (by omega);rw [Z5E (by omega)] at this;exact this
   · by_cases hjj : j = j0
     · subst hjj;rw [Zg3,Heap.upd_ne _ _ (by omega),Heap.upd_same,if_pos rfl];exact⟨r,rfl,.same r hr⟩
     · rw [Z5E (by omega), Heap.upd_ne _ _ (by omega), Heap.upd_ne _ _ (by omega), Heap.del_ne _ (by omega), Z2f _ hD _ _ hj2, if_neg hjj];exact⟨g j,rfl,.same _ (hg j)⟩
   · have h4 := hb k b h3 h1;rw [Z5E (by omega),Heap.upd_ne _ _ h1,Heap.upd_ne _ _ (by omega),Heap.del_ne _ (by omega),Z2g _ _ _ h1 h2];exact⟨b,h3,h4.2⟩
 · have l1 := hcase k b hk;have l2:=hcase k' b' hk';by_cases e1:k=n0+j0
   · by_cases e2 : k' = n0 + j0
     · rw [e1,e2]
     · rw [e1,Zg3,Z5E e2] at hh; omega
   · by_cases e2 : k' = n0 + j0
     · rw [e2,Zg3,Z5E e1] at hh; omega
     · rw [Z5E e1,Z5E e2] at hh; exact hh
def frzTo (n0 i:Nat) (g:Nat→Bx) (j:Nat):PV:=if j<i then .vec (g j).elems false else .own (n0+j)
theorem Zg4 {h0:Heap} {D n0 i:Nat} (hD:D<n0) (h0n:∀ k,n0≤k→k<n0+64→h0 k=none) (g:Nat→Bx) (hi:i<64) :
 ((tabH h0 D (n0 + i) (frzTo n0 i g) (64 - i) (fun q => g (i + q))).del (n0 + i)).upd D ⟨1, ((List.range 64).map fun j => [frzTo n0 i g j]).set i ((((List.range 64).map fun j => [frzTo n0 i g j]).getD i []).set 0 (.vec (g i).elems false))⟩
   = tabH h0 D (n0+(i+1)) (frzTo n0 (i+1) g) (64-(i+1)) (fun q=>g (i+1+q)):=by
 funext k;rw [Z1e hi,Z4J _ hi];by_cases h2:k=D
 · subst h2;rw [Heap.upd_same,Z2D];refine congrArg (fun l=>some (Bx.mk 1 l)) (List.map_congr_left fun j hj=>?_);unfold frzTo;by_cases hji:j=i
   · subst hji; rw [if_pos rfl,if_pos (Nat.lt_succ_self _)]; rfl
   · rw [if_neg hji];by_cases hlt:j<i
     · rw [if_pos hlt,if_pos (by omega)]
     · rw [if_neg hlt,if_neg (by omega)]
 · rw [Heap.upd_ne _ _ h2];by_cases h1:k=n0+i
   · subst h1;rw [Heap.del_same,Z2g _ _ _ h2 (by omega),h0n _ (by omega) (by omega)]
   · rw [Heap.del_ne _ h1];by_cases h3:n0+(i+1)≤k∧k<n0+64
     · obtain ⟨q, rfl⟩ : ∃ q, k = n0 + (i + 1) + q := ⟨k - (n0 + (i + 1)), by omega⟩;rw [Z2f _ (by omega) _ _ (by omega:q<64-(i+1)),show n0+(i+1)+q=n0+i+(q+1) by omega,Z2f _ (by omega) _ _ (by omega:q+1<64-i)];rw [show i+(q+1)=i+1+q by omega]
     · rw [Z2g _ _ _ h2 (by omega),Z2g _ _ _ h2 (by omega)]
theorem Z85 {h0:Heap} {D n0 n k:Nat} (hD:D<n0) (h0n:∀ k,n0≤k→k<n0+64→h0 k=none) (hk:e k=some (.own D)) {g:Nat→Bx} (hg:∀ j,pureLL (g j).elems) :
 Sub C n e (tabH h0 D n0 (fun j=>.own (n0+j)) 64 g) n (e.upd k (.vec ((List.range 64).map fun j => [.vec (g j).elems false]) false)) (h0.del D):=by
 have key:∀ i,i≤64→Sub C n e (tabH h0 D n0 (fun j=>.own (n0+j)) 64 g) n e (tabH h0 D (n0+i) (frzTo n0 i g) (64-i) (fun q=>g (i+q))):=by
  intro i
  induction i with
  | zero =>
    intro _;have e1:tabH h0 D (n0+0) (frzTo n0 0 g) (64-0) (fun q=>g (0+q))=tabH h0 D n0 (fun j=>.own (n0+j)) 64 g:=by
     have e2:(fun q=>g (0+q))=g:=funext fun q=>by rw [Nat.zero_add]
     rw [e2]
     rfl
    rw [e1];exact Z7N
  | succ i ih =>
    intro hi;have hi':i<64:=by omega
    refine Z61 (ih (by omega)) ?_;rw [← Zg4 hD h0n g hi'];have hrow:=Z2f h0 (D:=D) (n:=n0+i) (by omega) (frzTo n0 i g) (K:=64-i) (fun q=>g (i+q)) (j:=0) (by omega);refine Z1Z (ob:=D) (id:=n0+i) (i0:=i) (j0:=0) (bo:=⟨1,(List.range 64).map fun j => [frzTo n0 i g j]⟩) (b:=g i) (Z2D _ _ _ _ _ _) hrow (by omega) (hg i) (by simpa using hi') (by rw [Z1e hi']; exact Nat.zero_lt_one) ?_;rw [Z1e hi'];show frzTo n0 i g i=_;unfold frzTo;rw [if_neg (Nat.lt_irrefl i)]
 have last:=key 64 (Y0m _);have htab:tabH h0 D (n0+64) (frzTo n0 64 g) (64-64) (fun q=>g (64+q)) D=some ⟨1,(List.range 64).map fun j => [PV.vec (g j).elems false]⟩:=by
  rw [Z2D];refine congrArg (fun l=>some (Bx.mk 1 l)) (List.map_congr_left fun j hj=>?_);unfold frzTo;rw [if_pos (List.mem_range.1 hj)]
 have hpl:pureLL ((List.range 64).map fun j => [PV.vec (g j).elems false]):=by
  refine (Z20 _ _).2 fun r hr=>?_;obtain⟨j,_,rfl⟩:=Y0i.1 hr;exact⟨hg j,Yt⟩
 have fz:=Z76 (C:=C) (n:=n) hk htab hpl;have e3:(tabH h0 D (n0+64) (frzTo n0 64 g) (64-64) (fun q=>g (64+q))).del D=h0.del D:=by
  funext q;by_cases hq:q=D
  · subst hq; rw [Heap.del_same,Heap.del_same]
  · rw [Heap.del_ne _ hq,Heap.del_ne _ hq,Z2g _ _ _ hq (by omega)]
 rw [e3] at fz;exact Z61 last fz
end
end
section
open Go.RowKit
attribute [local irreducible] aw opsK dK
def dirN (l:List Pr) (j:Nat):List Nat:=(l.filter fun p=>p.2 == j).map (·.1)
theorem Zeg {l:List Pr} {i:Nat} (hi:i<l.length) (j:Nat):dirN (l.take (i+1)) j=if j=l[i].2 then dirN (l.take i) j ++ [l[i].1] else dirN (l.take i) j:=by
 have e:l.take (i+1)=l.take i ++ [l[i]]:=by rw [List.take_add_one,Y0c hi]; rfl
 unfold dirN;rw [e,List.filter_append];by_cases h:j=l[i].2
 · rw [if_pos h,List.filter_cons_of_pos (by simp [h])]; simp
 · rw [if_neg h,List.filter_cons_of_neg (by simp [Ne.symm h])]; simp
theorem Z5N {l:List Pr} {a j:Nat}:a∈dirN l j↔(a,j)∈l:=by
 unfold dirN;rw [Y0i];constructor
 · rintro ⟨p, hp, rfl⟩;obtain⟨h1,h2⟩:=List.mem_filter.1 hp;have:=eq_of_beq h2;rw [← this]; exact h1
 · intro h;exact⟨(a,j),List.mem_filter.2 ⟨h,by simp⟩,rfl⟩
theorem Zbv (l:List Pr) (j:Nat):(dirN l j).length≤l.length:=by
 unfold dirN;rw [Y0f];exact List.length_filter_le _ _
def dirR (l:List Pr) (j:Nat):Bx:=⟨1,nums (intsN (dirN l j))⟩
theorem Z8V (l:List Pr) (j:Nat):pureLL (dirR l j).elems:=ZF _
def setR (f:Nat→Nat) (j:Nat):List PV := [.vec (words (digs (f j))) false]
theorem Z1N (f:Nat→Nat) (j:Nat):pureL (setR f j):=⟨Zk _,Yt⟩
theorem Zho {k m n it mask:Nat} {un:List Nat} (h1:k<n) (h2:m.testBit it=true):okId ⟨none,[(k,m)],un,none⟩ n it mask k=true:=by
 have e1:Nat.blt k n=true:=Eq.mpr Nat.blt_eq h1;simp [okId,resv,grpB,grpOf,e1,h2]
theorem Zbw {k k' m n it mask:Nat} {un:List Nat} (h1:k<n) (h2:k≠k'):okId ⟨none,[(k',m)],un,none⟩ n it mask k=true:=by
 have e1:Nat.blt k n=true:=Eq.mpr Nat.blt_eq h1;have e2:Nat.beq k k'=false:=Bool.eq_false_iff.2 fun hb=>h2 (Nat.eq_of_beq_eq_true hb);simp only [okId,resv,grpB,grpOf,e1,e2]
 rfl
theorem ZiO {k m n it iso:Nat} {un:List Nat} (h:m &&& un.getD it 0=0):okW ⟨none,[(k,m)],un,none⟩ n it iso k=true:=by
 have e1:Nat.beq k k=true:=Nat.beq_refl k;have e2:apartB ⟨none,[(k,m)],un,none⟩ it k=true:=by
  unfold apartB grpOf;rw [e1];show Nat.beq (m &&& un.getD it 0) 0=true;rw [h]; rfl
 unfold okW;rw [e2,Bool.or_true]
theorem Zg5 {q m:Nat} (q':Nat) {un:List Nat} {l:List DItem}:unOk ⟨none,[(q,m)],un,none⟩ l=unOk ⟨none,[(q',m)],un,none⟩ l:=rfl
theorem accA {z:Rsv} {zz:List Value} {b:Nat} {s x:Operand} {e:Env} {n it mask iso k:Nat} (hs:ev e s=some (.own k)) (h1:okId z n it mask k=true) (h2:okW z n it iso k=true):accOk z (.append zz b s x) e n it mask iso=true:=by
 simp [accOk,hs,h1,h2]
theorem accI {z:Rsv} {b:Nat} {s x:Operand} {e:Env} {n it mask iso k:Nat} (hs:ev e s=some (.own k)) (h1:okId z n it mask k=true):accOk z (.iaddr b s x) e n it mask iso=true:=by
 simp [accOk,hs,okPtr,h1]
theorem accL {z:Rsv} {g:Bool} {b:Nat} {s:Operand} {e:Env} {n it mask iso k i off:Nat} (hs:ev e s=some (.ptr k i off)) (h1:okId z n it mask k=true):accOk z (.load g b s) e n it mask iso=true:=by
 simp [accOk,hs,okPtr,h1]
theorem accS {z:Rsv} {b:Nat} {s v:Operand} {e:Env} {n it mask iso k i off:Nat} (hs:ev e s=some (.ptr k i off)) (h1:okId z n it mask k=true) (h2:iso.testBit 0=true):accOk z (.store b s v) e n it mask iso=true:=by
 simp [accOk,hs,okPtr,okWP,okW,h1,h2]
def baseR (l:List Pr) (fp:Bool) (S:List Nat):Heap:=heapL [(0,ordB l fp (.own 7) (.own 12) (.vec (nums (intsN S)) false)),(7,⟨1,List.replicate 64 [.vec [] true]⟩),(12,⟨1,List.replicate 64 [.vec [] true]⟩),(19,⟨1,List.replicate 64 [.vec [] true]⟩)]
noncomputable def aS (l:List Pr) (rs:List Nat):Nat:=rs.foldl (fun o a=>(o ||| abv l a) ||| 2 ^ a) 0
theorem Zhp (l:List Pr) (rs:List Nat) (a:Nat):aS l (rs ++ [a])=(aS l rs ||| abv l a) ||| 2 ^ a:=by simp [aS,List.foldl_append]
theorem Zeh (l:List Pr) (b:Nat):∀ (rs:List Nat) (o:Nat),(rs.foldl (fun o a=>(o ||| abv l a) ||| 2 ^ a) o).testBit b=true↔o.testBit b=true ∨ ∃ a∈rs,(abv l a).testBit b=true ∨ b=a
 | [],o=>by simp
 | a :: rs, o => by
   rw [List.foldl_cons,Zeh l b rs,Y00,Y00,Bool.or_eq_true,Bool.or_eq_true,Nat.testBit_two_pow,decide_eq_true_iff];constructor
   · rintro (((h | h) | h) | ⟨x, hx, h⟩)
     · exact .inl h
     · exact .inr ⟨a,Y0t ..,.inl h⟩
     · exact .inr ⟨a,Y0t ..,.inr h.symm⟩
     · exact .inr ⟨x,List.mem_cons_of_mem _ hx,h⟩
   · rintro (h | ⟨x, hx, h⟩)
     · exact .inl (.inl (.inl h))
     · rcases List.mem_cons.1 hx with rfl | hx
       · rcases h with h | h
         · exact .inl (.inl (.inr h))
         · exact .inl (.inr h.symm)
       · exact .inr ⟨x,hx,h⟩
theorem Zhq (l:List Pr):∀ (rs:List Nat) (o:Nat),(∀ a∈rs,a<64)→o<18446744073709551616→rs.foldl (fun o a=>(o ||| abv l a) ||| 2 ^ a) o<18446744073709551616
 | [],o,_,ho=>ho
 | a :: rs, o, h, ho => by
   rw [List.foldl_cons];exact Zhq l rs _ (fun x hx=>h x (List.mem_cons_of_mem _ hx)) (Z43 (Z43 ho (Z6c l a)) (ZG (h a (Y0t ..))))
theorem Zak {l:List Pr} (hl:Small l) {a j:Nat} (h:a∈dirN l j):a<64:=(hl _ (Z5N.1 h)).1
theorem Zif {l:List Pr} (hl:Small l) (b:Nat):aS l (dirN l b)=abv l b:=by
 refine eq64 (Zhq l _ 0 (fun a ha=>Zak hl ha) (by decide)) (Z6c l b) fun i hi=>?_;rw [Bool.eq_iff_iff,Z6b hl,Zie];unfold aS;rw [Zeh];constructor
 · rintro (h | ⟨a, ha, h⟩)
   · simp at h
   · exact⟨a,Z5N.1 ha,h.elim (fun h=>.inr ((Z6b hl i a).1 h)) .inl⟩
 · rintro ⟨c, hc, h⟩;exact .inr ⟨c,Z5N.2 hc,h.elim .inr fun h=>.inl ((Z6b hl i c).2 h)⟩
noncomputable def abvT (l:List Pr) (S:List Nat) (t j:Nat):Nat:=if j∈S.take t then abv l j else 0
open Classical in
noncomputable def belT (l:List Pr) (S:List Nat) (t j:Nat):Nat:=ofP (fun b=>decide (b∈S.take t∧Up l j b)) 64
theorem Z4g (l:List Pr) (S:List Nat) (t j:Nat):belT l S t j<18446744073709551616:=Ze6 _
theorem Z4K (l:List Pr) (S:List Nat) (t j b:Nat):(belT l S t j).testBit b=true↔b<64∧b∈S.take t∧Up l j b:=by
 unfold belT;rw [Z7Z];simp only [Y0k,Y0n]
theorem Z6j {S:List Nat} {t:Nat} (ht:t<S.length):S.take (t+1)=S.take t ++ [S[t]]:=by rw [List.take_add_one,Y0c ht]; rfl
theorem Zei {l:List Pr} {S:List Nat} {t:Nat} (ht:t<S.length) (j:Nat):abvT l S (t+1) j=if j=S[t] then abv l S[t] else abvT l S t j:=by
 unfold abvT;rw [Z6j ht];by_cases h:j=S[t]
 · rw [if_pos (Y0h.2 (.inr (Y0g.2 h))),if_pos h,h]
 · rw [if_neg h];by_cases h2:j∈S.take t
   · rw [if_pos (List.mem_append_left _ h2),if_pos h2]
   · rw [if_neg (fun hh=>(Y0h.1 hh).elim h2 fun h3=>h (Y0g.1 h3)),if_neg h2]
theorem Zbx {S:List Nat} (hn:S.Nodup) {t:Nat} (ht:t<S.length):S[t] ∉ S.take t:=by
 intro h;obtain⟨i,hi,he⟩:=List.getElem_of_mem h;rw [Y0o] at hi;rw [List.getElem_take] at he;exact (List.pairwise_iff_getElem.1 hn) i t (by omega) ht (by omega) he
theorem Zg6 {l:List Pr} {S:List Nat} (hn:S.Nodup) {t:Nat} (ht:t<S.length):abvT l S t S[t]=0:=if_neg (Zbx hn ht)
theorem Zg7 {l:List Pr} {S:List Nat} {t a:Nat} (h:a∈S.take t):abvT l S t a=abv l a:=if_pos h
theorem Zej {l:List Pr} (hl:Small l) {S:List Nat} {t:Nat} (ht:t<S.length) (h64:S[t]<64) (j:Nat):belT l S (t+1) j=if j∈mem (abv l S[t]) then belT l S t j ||| 2 ^ S[t] else belT l S t j:=by
 have hm:j∈mem (abv l S[t])↔Up l j S[t]:=by rw [Z37 (Z6c l _),Z6b hl]
 refine eq64 (Z4g ..) (by split; exact Z43 (Z4g ..) (ZG h64); exact Z4g ..) fun b hb=>?_;rw [Bool.eq_iff_iff,Z4K,Z6j ht];by_cases h:Up l j S[t]
 · rw [if_pos (hm.2 h), Y00, Bool.or_eq_true, Z4K, Nat.testBit_two_pow, decide_eq_true_iff, Y0h, Y0g];constructor
   · rintro ⟨h1, h2 | h2, h3⟩
     · exact .inl ⟨h1,h2,h3⟩
     · exact .inr h2.symm
   · rintro (⟨h1, h2, h3⟩ | h2)
     · exact⟨h1,.inl h2,h3⟩
     · subst h2; exact⟨hb,.inr rfl,h⟩
 · rw [if_neg fun hh => h (hm.1 hh), Z4K, Y0h, Y0g];constructor
   · rintro ⟨h1, h2 | h2, h3⟩
     · exact⟨h1,h2,h3⟩
     · subst h2; exact absurd h3 h
   · rintro⟨h1,h2,h3⟩; exact⟨h1,.inl h2,h3⟩
theorem Zg8 {l:List Pr} {S:List Nat} (hS:Topo l S) (h64:S.length=64) {j:Nat} (hj:j<64):abvT l S 64 j=abv l j:=by
 unfold abvT;rw [← h64,Y0q,if_pos (hS.all h64 hj)]
theorem Zg9 {l:List Pr} (hl:Small l) {S:List Nat} (hS:Topo l S) (h64:S.length=64) (j:Nat):belT l S 64 j=bel l j:=by
 refine eq64 (Z4g ..) (Ze8 ..) fun b hb=>?_;rw [Bool.eq_iff_iff,Z4K,Ze7 hl,← h64,Y0q];exact⟨fun h=>h.2.2,fun h=>⟨by omega,hS.all h64 hb,h⟩⟩
theorem Z3t {f g:Nat→Nat} (h:∀ j,j<64→f j=g j):tab (setR f)=tab (setR g):=Z3s fun j hj=>by show [PV.vec (words (digs (f j))) false] = [PV.vec (words (digs (g j))) false]; rw [h j hj]
theorem Zby {f:Nat→Nat} {i v:Nat} (hi:i<64):(tab (setR f)).set i (setAt ((tab (setR f)).getD i []) 0 [.vec (words (digs v)) false])=tab (setR fun j=>if j=i then v else f j):=by
 rw [Z2L hi,show setAt (setR f i) 0 [.vec (words (digs v)) false] = [.vec (words (digs v)) false] from rfl,Zeb _ hi];refine Z3s fun j _=>?_;show (if j=i then [PV.vec (words (digs v)) false] else setR f j) = [PV.vec (words (digs (if j=i then v else f j))) false];by_cases hj:j=i
 · rw [if_pos hj,if_pos hj]
 · rw [if_neg hj,if_neg hj]; rfl
theorem Zek (l:List Pr) (S:List Nat) (j:Nat):belT l S 0 j=0:=by
 refine eq64 (Z4g ..) (by decide) fun b hb=>?_;rw [Bool.eq_iff_iff,Z4K];simp
theorem Zal (l:List Pr) (fp:Bool) (hl:Small l) (hlen:l.length≤1000000) (S:List Nat) (hS:Topo l S) (h64:S.length=64) :
 PSpec Tryz.prog 108 (ordB l fp (.vec [] true) (.vec [] true) (.vec (nums (intsN S)) false)) [] fun r b'=>r=.tup []∧b'=ordB l fp (.vec (tab (setR (abv l))) false) (.vec (tab (setR (bel l))) false) (.vec (nums (intsN S)) false):=by
 have hpl:∀ D,innLL D (l.map prC):=fun D=>Z9 (fun _ h=>h.elim) _ (Zh l);have hnl:(l.map prC).length=l.length:=by simp
 have hti:∀ (f:Nat→Nat) D,innLL D (tab (setR f)):=fun f D=>Z9 (fun _ h=>h.elim) _ (Z1q (Z1N f));have hap:∀ (l:List Nat) D,innLL D (nums (intsN l)):=fun l D=>Z4A _ D;have hSn:(nums (intsN S)).length=S.length:=by simp [nums,intsN]
 refine Z1z ok108 (Nat.le_of_ble_eq_true rfl) fun C hC=>?_;refine Zs ?_;refine Zc ?_;refine Z4 rfl rfl rfl ?_;refine Z1m ?_;refine Zs ?_;refine Z2Z [] [(0,148512)] [262143,262143,262143,262143,262143,262143,262143,262143,262143,262143,262143,262143,262143,262143,2050,262143,262143,0] (by kernel_rfl) ?_;refine go ?_;refine Z7T hC (n':=20) [(1,.cp [.ptr 0 0 0]),(2,.own 19),(34,.vec (l.map prC) fp),(35,.val (.int .i64 l.length)),(36,.val (.int .i64 ((0:Nat):Int)))]
  [(0,ordB l fp (.own 7) (.own 12) (.vec (nums (intsN S)) false)),(7,⟨1,List.replicate 64 [.vec [] true]⟩),(12,⟨1,List.replicate 64 [.vec [] true]⟩),(19,⟨1,List.replicate 64 [.vec [] true]⟩)] (by decide)
  ⟨⟨rfl,show (0:Nat)<20 by decide,Yt⟩,⟨rfl,show (19:Nat)<20 by decide⟩,⟨rfl,hpl _⟩,⟨by rw [← hnl]; rfl,Yt⟩,⟨rfl,Yt⟩,Yt⟩ ?_ ?_
 · exact⟨⟨by decide,rfl,⟨⟨Yt,hpl _,show (7:Nat)<20 by decide,show (12:Nat)<20 by decide,hap _ _,Yt⟩,Yt⟩⟩,⟨by decide,rfl,Z12 rfl |> Z9 (fun _ h=>h.elim) _⟩,⟨by decide,rfl,Z12 rfl |> Z9 (fun _ h=>h.elim) _⟩,⟨by decide,rfl,Z12 rfl |> Z9 (fun _ h=>h.elim) _⟩,Yt⟩
 refine Z22 (ZcF (n:=20) (D:=19) (by decide) rfl 1 (by decide)) ?_;show aw _ C _ _ 84 _ (tabH (baseR l fp S) 19 20 (fun j=>.own (20+j)) 64 (dirR (l.take 0)));have hbs:∀ k b,baseR l fp S k=some b→k≠19→(k=0∧b=ordB l fp (.own 7) (.own 12) (.vec (nums (intsN S)) false)) ∨ ((k=7 ∨ k=12)∧b=⟨1,List.replicate 64 [.vec [] true]⟩):=by
  intro k b hk h19;have:=Z1F hk;simp only [List.mem_cons,Prod.mk.injEq,List.not_mem_nil,or_false] at this;rcases this with h|h|h|h
  · exact .inl h
  · exact .inr ⟨.inl h.1,h.2⟩
  · exact .inr ⟨.inr h.1,h.2⟩
  · exact absurd h.1 h19
 have hren:∀ k0 k',20≤k0→∀ k b,baseR l fp S k=some b→k≠19→k<20∧RenB (mv k0 k') (fun i=>i<20+64) b b:=by
  intro k0 k' hk0 k b hk h19;have o7:=RenP.own (ρ:=mv k0 k') (D:=fun i=>i<20+64) 7 (by omega);have o12:=RenP.own (ρ:=mv k0 k') (D:=fun i=>i<20+64) 12 (by omega);rw [Z5E (by omega)] at o7 o12;rcases hbs k b hk h19 with⟨rfl,rfl⟩|⟨h,rfl⟩
  · exact⟨by omega,RenB.single ⟨.pure _ Yt,.pure _ (Zh l),o7,o12,.pure _ (ZF _),Yt⟩ rfl⟩
  · exact⟨by omega,.same _ (Z12 rfl)⟩
 refine Z7L (fun i=>i≤l.length) (fun i=>l.length-i) (fun _=>84) (fun i=>envL [(1,.cp [.ptr 0 0 0]),(2,.own 19),(34,.vec (l.map prC) fp),(35,.val (.int .i64 l.length)),(36,Yv i)]) (fun i=>tabH (baseR l fp S) 19 20 (fun j=>.own (20+j)) 64 (dirR (l.take i))) 0 (Y0l _) Z7N ?_;intro i hi;have hinc:IntKind.i64.wrap ((i:Int)+1)=((i+1:Nat):Int):=Y0v _ ⟨by omega,by omega⟩;refine gd 37 ⟨?_⟩;refine Zt rfl rfl rfl (fun hb=>?_) (fun hb=>?_)
 · have hil : i < l.length := by have := Y0u hb; omega
   have hp:=hl _ (Y0j hil);have hst:=fun j=>Zeg hil j;have hdl:=Zbv (l.take i) l[i].2;rw [Y0o] at hdl;clear hb;refine go ?_;refine Z0 (Zo (xs:=l) (g:=prC) rfl rfl i rfl hil rfl) rfl rfl ?_;generalize l[i]=p at hp hst hdl ⊢
   iterate 4 (first|refine st ?_|(apply B<;>intro hb<;>try cases hb))
   refine Z22 (Z30 (k:=4) (id:=84) (esz:=2) (l:=prC p) rfl rfl) ?_;refine Z22 (ZfN (h':=tabH (baseR l fp S) 19 20 (fun j=>.own (20+j)) 64 (dirR (l.take i))) fun k b hk=>?_) ?_
   · have hne : k ≠ 84 := fun h => by
      rw [h,show tabH (baseR l fp S) 19 20 (fun j=>PV.own (20+j)) 64 (dirR (l.take i)) 84=none from rfl] at hk;cases hk
     rw [Heap.del_ne _ hne,Heap.upd_ne _ _ hne,Heap.upd_ne _ _ hne];exact hk
   refine Z2Z [] [(20+p.2,2048)] [16383,16383,16383,16383,16383,16383,16383,16383,16383,16383,16383,4,16383,16383] ((Zg5 0).trans (by kernel_rfl)) ?_;have hT19:∀ g,tabH (baseR l fp S) 19 20 (fun j=>PV.own (20+j)) 64 g 19=some ⟨1,(List.range 64).map fun j => [PV.own (20+j)]⟩:=fun g=>Z2D _ _ _ _ _ _;have hlen64:∀ f:Nat→List PV,((List.range 64).map f).length=64:=fun f=>by simp
   refine gd 46 ⟨?_⟩;refine Ze (ZL rfl rfl (hT19 _) p.2 rfl (by rw [hlen64]; exact hp.2) rfl) (accI rfl (Zbw (by omega) (by omega))) rfl ?_;refine Ze (Z2t (p:=.own (20+p.2)) (i:=p.2) rfl (hT19 _) (by rw [hlen64]; exact hp.2) (by rw [Z1e hp.2]; rfl)) (accL rfl (Zbw (by omega) (by omega))) rfl ?_;refine gd 51 ⟨?_⟩
   refine Ze (ZB (k:=20+p.2) (m := [[.val (.int .i64 (p.1:Int))]]) (fl:=true) (b:=dirR (l.take i) p.2) rfl rfl (Z2f _ (by decide) _ _ hp.2) (fun r hr=>by rw [Y0g] at hr; subst hr; rfl) rfl (by
    show ((nums (intsN (dirN (l.take i) p.2))).length+1)*8≤_;have:(nums (intsN (dirN (l.take i) p.2))).length=(dirN (l.take i) p.2).length:=by simp [nums,intsN]
    omega)) (accA rfl (Zho (by show _<85;omega) rfl) (ZiO rfl)) rfl ?_
   have hT19b:∀ (g:Nat→Bx) (b:Bx),((tabH (baseR l fp S) 19 20 (fun j=>PV.own (20+j)) 64 g).del (20+p.2)).upd 96 b 19=some ⟨1,(List.range 64).map fun j => [PV.own (20+j)]⟩:=fun g b=>by
    rw [Heap.upd_ne _ _ (by decide),Heap.del_ne _ (by omega)]; exact hT19 g
   refine Ze (ZL rfl rfl (hT19b _ _) p.2 rfl (by rw [hlen64]; exact hp.2) rfl) (accI rfl (Zbw (by show _<85;omega) (by omega))) rfl ?_;refine Ze (Z1R (i:=p.2) rfl rfl (hT19b _ _) rfl rfl (by rw [hlen64]; exact hp.2) (Y0m _)) (accS rfl (Zbw (by show _<85;omega) (by omega)) rfl) rfl ?_;refine Z7Q ?_;have es:setAt (((List.range 64).map fun j => [PV.own (20+j)]).getD p.2 []) 0 (PV.own 96).cells = [.own 96]:=by rw [Z1e hp.2]; rfl
   have hfun:(fun j=>if j=p.2 then (⟨1,(dirR (l.take i) p.2).elems ++ [[.val (.int .i64 (p.1:Int))]]⟩:Bx) else dirR (l.take i) j)=dirR (l.take (i+1)):=by
    funext j;unfold dirR;rw [hst j];by_cases hj:j=p.2
    · rw [if_pos hj, if_pos hj, hj];simp [nums,intsN]
    · rw [if_neg hj,if_neg hj]
   have o19:=RenP.own (ρ:=mv (20+p.2) 96) (D:=fun i=>i<20+64) 19 (by omega);rw [Z5E (by omega)] at o19;have hrp:pureLL ((dirR (l.take i) p.2).elems ++ [[PV.val (.int .i64 (p.1:Int))]]):=by
    have:(dirR (l.take i) p.2).elems ++ [[PV.val (.int .i64 (p.1:Int))]]=nums (intsN (dirN (l.take i) p.2 ++ [p.1])):=by simp [dirR,nums,intsN]
    rw [this]; exact ZF _
   have hsub:=fun (e:Env) (he:EnvQ (mv (20+p.2) 96) e (20+64) [(1,.cp [.ptr 0 0 0]),(2,.own 19),(34,.vec (l.map prC) fp),(35,.val (.int .i64 l.length)),(36,Yv i)]) =>
    Zaj (C:=C) (h0:=baseR l fp S) (D:=19) (n0:=20) (n':=99) (e:=e) (by decide) (g:=dirR (l.take i)) (j0:=p.2) (new:=96) hp.2 (by decide) (r:=⟨1,(dirR (l.take i) p.2).elems ++ [[.val (.int .i64 (p.1:Int))]]⟩) hrp (Z8V _)
     (e':=envL [(1,.cp [.ptr 0 0 0]),(2,.own 19),(34,.vec (l.map prC) fp),(35,.val (.int .i64 l.length)),(36,Yv i)]) (fun k q hk=>he.mem _ (Z8L hk)) (hren (20+p.2) 96 (by omega)) hC (by decide)
   rw [hfun] at hsub;simp only [← es] at hsub;refine Z22 (hsub _ ⟨⟨_,rfl,.same _ ⟨⟨by omega,Z5E (by omega)⟩,Yt⟩⟩,⟨_,rfl,o19⟩,⟨_,rfl,.pure _ (Zh l)⟩,⟨_,rfl,.pure _ Yt⟩,⟨_,rfl,.pure _ Yt⟩,Yt⟩) ?_;refine go ?_;exact⟨i+1,by omega,by omega,Za0 ⟨rfl,rfl,rfl,rfl,by show some _=some _; rw [hinc],Yt⟩⟩
 · have hil : i = l.length := by have := of_decide_eq_false hb; omega
   subst hil;rw [Y0q];clear hb;refine gd 54 ⟨?_⟩;have h0n:∀ k,20≤k→k<20+64→baseR l fp S k=none:=fun k h1 h2=>by
    cases hk:baseR l fp S k with
    | none=>rfl
    | some b=>rcases hbs k b hk (by omega) with⟨h,_⟩|⟨h,_⟩<;>omega
   refine Zi (fun C=>Z85 (D:=19) (k:=2) (by decide) h0n rfl (Z8V l)) ?_;refine go ?_;have hdp:(PV.vec ((List.range 64).map fun j => [.vec (nums (intsN (dirN l j))) false]) false).pure:=by
    refine (Z20 _ _).2 fun r hr=>?_;obtain⟨j,_,rfl⟩:=Y0i.1 hr;exact⟨ZF _,Yt⟩
   have hdi:∀ D,(PV.vec ((List.range 64).map fun j => [.vec (nums (intsN (dirN l j))) false]) false).inn D:=fun D=>PV.pure.inn hdp D;have hob:∀ n,12<n→innLL (· < n) (ordB l fp (.own 7) (.own 12) (.vec (nums (intsN S)) false)).elems:=fun n hn=>⟨⟨Yt,hpl _,show (7:Nat)<n by omega,show (12:Nat)<n from hn,hap _ _,Yt⟩,Yt⟩
   have hlow:RenB (fun i=>i) (fun i=>i<84) ⟨1,List.replicate 64 [.vec [] true]⟩ ⟨1,tab fun _ => [.vec [] false]⟩:=by
    have er:∀ i,i<64→(List.replicate 64 [PV.vec [] true]).getD i [] = [PV.vec [] true]:=fun i hi=>by rw [Y0b,List.getElem?_replicate,if_pos hi]; rfl
    refine .gen _ _ Nat.zero_lt_one rfl (by rw [ZW]; simp) (fun i hi=>?_) fun i q hi hq=>?_
    · rw [ZW] at hi;rw [Z2L hi,er i hi]; rfl
    · rw [ZW] at hi;have hq0:q=0:=Nat.lt_one_iff.1 hq;subst hq0;rw [Z2L hi,er i hi];exact .low (.vec [] true) Yt
   refine Z22 (Z3M (n':=84) (L := [(1,.cp [.ptr 0 0 0]),(2,.vec ((List.range 64).map fun j => [.vec (nums (intsN (dirN l j))) false]) false),(57,.vec (nums (intsN S)) false),(58,.val (.int .i64 64)),(59,.val (.int .i64 ((0:Nat):Int)))])
    (HL := [(0,ordB l fp (.own 7) (.own 12) (.vec (nums (intsN S)) false)),(7,⟨1,tab fun _ => [.vec [] false]⟩),(12,⟨1,tab fun _ => [.vec [] false]⟩)]) ?_ ?_ hC (by decide)) ?_
   · exact EnvQ.mem (L := [(1, .cp [.ptr 0 0 0]), (2, .vec ((List.range 64).map fun j => [.vec (nums (intsN (dirN l j))) false]) false), (57, .vec (nums (intsN S)) false), (58, .val (.int .i64 64)), (59, .val (.int .i64 ((0 : Nat) : Int)))])
      ⟨⟨_,rfl,.same _ ⟨⟨by decide,rfl⟩,Yt⟩⟩,⟨_,rfl,.pure _ hdp⟩,⟨_,rfl,.pure _ (ZF _)⟩,⟨_,by rw [show (64:Int)=((nums (intsN S)).length:Nat) by rw [hSn,h64]; rfl]; rfl,.pure _ Yt⟩,⟨_,rfl,.pure _ Yt⟩,Yt⟩
   · exact HeapQ.mem (L := [(0, ordB l fp (.own 7) (.own 12) (.vec (nums (intsN S)) false)), (7, ⟨1, tab fun _ => [.vec [] false]⟩), (12, ⟨1, tab fun _ => [.vec [] false]⟩)])
      ⟨⟨by decide,_,rfl,RenB.single (ρ:=fun i=>i) (l0 := [.val (.int .i64 64),.vec (l.map prC) fp,.own 7,.own 12,.vec (nums (intsN S)) false]) (l := [.val (.int .i64 64),.vec (l.map prC) fp,.own 7,.own 12,.vec (nums (intsN S)) false]) (show RenLs _ _ [_,_,_,_,_] [_,_,_,_,_] from ⟨.pure _ Yt,.pure _ (Zh l),.own (ρ:=fun i=>i) 7 (by decide),.own (ρ:=fun i=>i) 12 (by decide),.pure _ (ZF _),Yt⟩) rfl⟩,⟨by decide,_,rfl,hlow⟩,⟨by decide,_,rfl,hlow⟩,Yt⟩
   have hren0:RenB (fun i=>i) (fun i=>i<84) (ordB l fp (.own 7) (.own 12) (.vec (nums (intsN S)) false)) (ordB l fp (.own 7) (.own 12) (.vec (nums (intsN S)) false)) :=
    RenB.single (ρ:=fun i=>i) (l0 := [.val (.int .i64 64),.vec (l.map prC) fp,.own 7,.own 12,.vec (nums (intsN S)) false]) (l := [.val (.int .i64 64),.vec (l.map prC) fp,.own 7,.own 12,.vec (nums (intsN S)) false]) (show RenLs _ _ [_,_,_,_,_] [_,_,_,_,_] from ⟨.pure _ Yt,.pure _ (Zh l),.own (ρ:=fun i=>i) 7 (by decide),.own (ρ:=fun i=>i) 12 (by decide),.pure _ (ZF _),Yt⟩) rfl
   have hz0:∀ f:Nat→Nat,(∀ j,f j=0)→(tab fun _ => [PV.vec [] false])=tab (setR f):=fun f hf=>Z3s fun j _=>by
    show [PV.vec [] false] = [PV.vec (words (digs (f j))) false];rw [hf,ZT]; rfl
   refine Zn hC (fun t=>t≤64) (fun t=>64-t) 84 (fun t => [(1,.cp [.ptr 0 0 0]),(2,.vec ((List.range 64).map fun j => [.vec (nums (intsN (dirN l j))) false]) false),(57,.vec (nums (intsN S)) false),(58,.val (.int .i64 64)),(59,.val (.int .i64 (t:Int)))])
    (fun t => [(0,ordB l fp (.own 7) (.own 12) (.vec (nums (intsN S)) false)),(7,⟨1,tab (setR (abvT l S t))⟩),(12,⟨1,tab (setR (belT l S t))⟩)]) (by decide) 0 (by decide)
    ⟨⟨rfl,show (0:Nat)<84 by decide,Yt⟩,⟨rfl,hdi _⟩,⟨rfl,hap _ _⟩,⟨rfl,Yt⟩,⟨rfl,Yt⟩,Yt⟩
    ⟨⟨by decide,rfl,hob _ (by decide)⟩,⟨by decide,by rw [← hz0 _ fun j=>show abvT l S 0 j=0 from if_neg (by simp)]; rfl,hti _ _⟩,⟨by decide,by rw [← hz0 _ (Zek l S)]; rfl,hti _ _⟩,Yt⟩ ?_
   intro t ht;have htinc:IntKind.i64.wrap ((t:Int)+1)=((t+1:Nat):Int):=Y0v _ ⟨by omega,by omega⟩;refine gd 60 ⟨?_⟩;refine Zt rfl rfl rfl (fun hb=>?_) (fun hb=>?_)
   · have htl : t < S.length := by have := Y0u hb; omega
     have hb64:=hS.lt _ (Y0j htl);have hpred:=hS.pred t htl;have hnew:=Zg6 (l:=l) hS.nodup htl;have hbS:=Zbx hS.nodup htl;have hastep:=fun j=>Zei (l:=l) htl j;have hbstep:=fun j=>Zej hl htl hb64 j;have hgetS : (intsN S)[t]'(by simpa [intsN] using htl) = ((S[t] : Nat) : Int) := by simp [intsN]
     clear hb;refine go ?_;refine Z0 (Zo (xs:=intsN S) (g:=fun x => [.val (.int .i64 x)]) rfl rfl t rfl (by simpa [intsN] using htl) rfl) rfl rfl ?_;rw [hgetS];generalize S[t]=b at hb64 hpred hnew hbS hastep hbstep ⊢
     iterate 4 (first|refine st ?_|(apply B<;>intro hb<;>try cases hb))
     refine Z22 (Z30 (k:=6) (id:=84) (esz:=1) (l := [.val (.int .i64 (b:Int))]) rfl rfl) ?_;refine go ?_;refine Z0 (Zo (xs:=List.range 64) (g:=fun j => [.vec (nums (intsN (dirN l j))) false]) rfl rfl b rfl (by simpa using hb64) rfl) rfl rfl ?_;rw [List.getElem_range];refine go ?_;have hnd:(nums (intsN (dirN l b))).length=(dirN l b).length:=by simp [nums,intsN]
     have hdlen:=Zbv l b;refine Zn hC (fun s=>s≤(dirN l b).length) (fun s=>(dirN l b).length-s) 85 (fun s => [(1,.cp [.ptr 0 0 0]),(2,.vec ((List.range 64).map fun j => [.vec (nums (intsN (dirN l j))) false]) false),(6,.cp [.val (.int .i64 (b:Int))]),(57,.vec (nums (intsN S)) false),(58,.val (.int .i64 64)),(59,.val (.int .i64 (t:Int))),(66,.vec (nums (intsN (dirN l b))) false),(67,.val (.int .i64 (dirN l b).length)),(68,.val (.int .i64 (s:Int)))])
      (fun s => [(0,ordB l fp (.own 7) (.own 12) (.vec (nums (intsN S)) false)),(7,⟨1,tab (setR fun j=>if j=b then aS l ((dirN l b).take s) else abvT l S t j)⟩),(12,⟨1,tab (setR (belT l S t))⟩)]) (by decide) 0 (Y0l _)
      ⟨⟨rfl,show (0:Nat)<85 by decide,Yt⟩,⟨rfl,hdi _⟩,⟨rfl,Yt,Yt⟩,⟨rfl,hap _ _⟩,⟨rfl,Yt⟩,⟨rfl,Yt⟩,⟨rfl,hap _ _⟩,⟨by rw [← hnd]; rfl,Yt⟩,⟨rfl,Yt⟩,Yt⟩
      ⟨⟨by decide,rfl,hob _ (by decide)⟩,⟨by decide,by rw [Z3t (f:=fun j=>if j=b then aS l ((dirN l b).take 0) else abvT l S t j) (g:=abvT l S t) fun j _=>by by_cases hj:j=b; (rw [if_pos hj,hj,hnew]; rfl); rw [if_neg hj]]; rfl,hti _ _⟩,⟨by decide,rfl,hti _ _⟩,Yt⟩ ?_
     intro s hs;have hsinc:IntKind.i64.wrap ((s:Int)+1)=((s+1:Nat):Int):=Y0v _ ⟨by omega,by omega⟩;refine gd 69 ⟨?_⟩;refine Zt rfl rfl rfl (fun hb=>?_) (fun hb=>?_)
     · have hsl : s < (dirN l b).length := by have := Y0u hb; omega
       have htk:=Z6j hsl;have hga : (intsN (dirN l b))[s]'(by simpa [intsN] using hsl) = (((dirN l b)[s] : Nat) : Int) := by simp [intsN]
       have hma:(dirN l b)[s]∈dirN l b:=Y0j hsl;have hcur:aS l ((dirN l b).take s)<18446744073709551616:=Zhq l _ 0 (fun a ha=>Zak hl (List.mem_of_mem_take ha)) (by decide);clear hb;refine go ?_;refine Z0 (Zo (xs:=intsN (dirN l b)) (g:=fun x => [.val (.int .i64 x)]) rfl rfl s rfl (by simpa [intsN] using hsl) rfl) rfl rfl ?_;rw [hga];generalize (dirN l b)[s]=a at htk hma ⊢;have ha64:=Zak hl hma;have haS:=hpred a (Z5N.1 hma);have hab:a≠b:=fun h=>hbS (h▸haS);have hor:=Z43 hcur (Z6c l a);have hwn:withN (aS l ((dirN l b).take s) ||| abv l a) (a:Int)=aS l ((dirN l b).take (s+1)):=by
        rw [htk,Zhp,withN,if_pos ⟨by omega,by omega⟩]; rfl
       refine gd 82 ⟨?_⟩;refine Ze (ZL rfl rfl rfl b rfl (by rw [ZW]; exact hb64) rfl) rfl rfl ?_;refine Ze (Z2t (p:=setN (aS l ((dirN l b).take s))) (i:=b) rfl rfl (by rw [ZW]; exact hb64) (by rw [Z2L hb64]; show some (setN (if b=b then _ else _))=_; rw [if_pos rfl])) rfl rfl ?_;refine gd 89 ⟨?_⟩;refine Ze (ZL rfl rfl rfl a rfl (by rw [ZW]; exact ha64) rfl) rfl rfl ?_;refine Ze (Z2t (p:=setN (abv l a)) (i:=a) rfl rfl (by rw [ZW]; exact ha64) (by rw [Z2L ha64]; show some (setN (if a=b then _ else abvT l S t a))=_; rw [if_neg hab,Zg7 haS])) rfl rfl ?_;refine Zy (Z1Y _ (abv l a) hcur (Z6c l a)) rfl rfl rfl ⟨Z3 _,Z3 _,Yt⟩ ?_;refine gd 93 ⟨?_⟩;refine Zy (Z3q _ (Y03 (Z2U hor) (by decide)) (a:Int)) rfl rfl rfl ⟨Z3 _,Yt,Yt⟩ ?_;rw [hwn];refine Ze (ZL rfl rfl rfl b rfl (by rw [ZW]; exact hb64) rfl) rfl rfl ?_;refine Ze (Z1R (i:=b) rfl rfl rfl rfl rfl (by rw [ZW]; exact hb64) (Y0m _)) rfl rfl ?_;refine go ?_
       refine⟨s+1,by omega,by omega,⟨⟨rfl,show (0:Nat)<85 by decide,Yt⟩,⟨rfl,hdi _⟩,⟨rfl,Yt,Yt⟩,⟨rfl,hap _ _⟩,⟨rfl,Yt⟩,⟨rfl,Yt⟩,⟨rfl,hap _ _⟩,⟨rfl,Yt⟩,⟨by show some _=some _; rw [hsinc],Yt⟩,Yt⟩,
        ⟨⟨by decide,rfl,hob _ (by decide)⟩,⟨by decide,?_,hti _ _⟩,⟨by decide,rfl,hti _ _⟩,Yt⟩⟩
       show some (Bx.mk 1 ((tab (setR fun j=>if j=b then aS l ((dirN l b).take s) else abvT l S t j)).set b (setAt ((tab (setR fun j=>if j=b then aS l ((dirN l b).take s) else abvT l S t j)).getD b []) 0 [.vec (words (digs (aS l ((dirN l b).take (s+1))))) false])))=some _;rw [Zby hb64];refine congrArg (fun x=>some (Bx.mk 1 x)) (Z3t fun j _=>?_);by_cases hj:j=b
       · rw [if_pos hj,if_pos hj]
       · rw [if_neg hj,if_neg hj,if_neg hj]
     · have hsl : s = (dirN l b).length := by have := of_decide_eq_false hb; omega
       subst hsl;clear hb;rw [Y0q,Zif hl b];refine gd 101 ⟨?_⟩;refine Ze (ZL rfl rfl rfl b rfl (by rw [ZW]; exact hb64) rfl) rfl rfl ?_;refine Ze (Z2t (p:=setN (abv l b)) (i:=b) rfl rfl (by rw [ZW]; exact hb64) (by rw [Z2L hb64]; show some (setN (if b=b then _ else _))=_; rw [if_pos rfl])) rfl rfl ?_;refine Zy (Z58 (abv l b)) rfl rfl rfl ⟨Z3 _,Yt⟩ ?_;refine go ?_;refine Z7W (X:=List Nat) hC (caps := [.cp [.vec (words (digs (abv l b))) false]]) [(1,.cp [.ptr 0 0 0]),(2,.vec ((List.range 64).map fun j => [.vec (nums (intsN (dirN l j))) false]) false),(6,.cp [.val (.int .i64 (b:Int))]),(57,.vec (nums (intsN S)) false),(58,.val (.int .i64 64)),(59,.val (.int .i64 (t:Int))),(103,.fn 128 [.cp [.vec (words (digs (abv l b))) false]])]
        (fun z => [(0,ordB l fp (.own 7) (.own 12) (.vec (nums (intsN S)) false)),(7,⟨1,tab (setR fun j=>if j=b then abv l b else abvT l S t j)⟩),(12,⟨1,tab (setR fun j=>if j∈z then belT l S t j ||| 2 ^ b else belT l S t j)⟩)]) rfl ⟨⟨Zk _,Yt⟩,Yt⟩ (Z7Y (abv l b) (Z6c l b)) (fun _=>rfl)
        (fun ex pre z=>ex=.normal∧z=pre.map (·.val)) 84 (by decide) [] ⟨rfl,rfl⟩
        (Z4v hC (by decide) ⟨⟨rfl, show (0 : Nat) < 84 by decide, Yt⟩, ⟨rfl, hdi _⟩, ⟨rfl, Yt, Yt⟩, ⟨rfl, hap _ _⟩, ⟨rfl, Yt⟩, ⟨rfl, Yt⟩, ⟨rfl, ⟨ZU _ _, Yt⟩, Yt⟩, Yt⟩
          ⟨⟨by decide,rfl,hob _ (by decide)⟩,⟨by decide,rfl,hti _ _⟩,⟨by decide,by rw [Z3t (f:=fun j=>if j∈([]:List Nat) then belT l S t j ||| 2 ^ b else belT l S t j) (g:=belT l S t) fun j _=>if_neg (by simp)]; rfl,hti _ _⟩,Yt⟩)
        (fun z q hq=>by simp at hq; rcases hq with rfl|rfl|rfl<;>exact Nat.zero_lt_succ _) _ (fun x=>rfl) ?_ ?_ ?_
       · rintro C2 hC2 pre x z ⟨-, hz⟩ hlen;have ha64:=Z6a x.2;generalize hf:(fun j=>if j∈z then belT l S t j ||| 2 ^ b else belT l S t j)=f;have hf64:∀ j,f j<18446744073709551616:=fun j=>by
          rw [← hf];dsimp only
          split
          · exact Z43 (Z4g ..) (ZG hb64)
          · exact Z4g ..
         have hwn:withN (f x.val) (b:Int)=f x.val ||| 2 ^ b:=by rw [withN,if_pos ⟨by omega,by omega⟩]; rfl
         refine gd 115 ⟨?_⟩;refine Ze (ZL rfl rfl rfl x.val rfl (by rw [ZW]; exact ha64) rfl) rfl rfl ?_;refine Ze (Z2t (p:=setN (f x.val)) (i:=x.val) rfl rfl (by rw [ZW]; exact ha64) (by rw [Z2L ha64]; rfl)) rfl rfl ?_;refine gd 118 ⟨?_⟩;refine Zy (Z3q _ (Y03 (Z2U (hf64 _)) (by decide)) (b:Int)) rfl rfl rfl ⟨Z3 _,Yt,Yt⟩ ?_;rw [hwn];refine Ze (ZL rfl rfl rfl x.val rfl (by rw [ZW]; exact ha64) rfl) rfl rfl ?_;refine Ze (Z1R (i:=x.val) rfl rfl rfl rfl rfl (by rw [ZW]; exact ha64) (Y0m _)) rfl rfl ?_;refine go ?_
         refine⟨.inl rfl,z ++ [x.val],fun i=>i,⟨rfl,by rw [hz,Y0r]; rfl⟩,fun i hi=>rfl,Zu,
          ⟨⟨_,rfl,.same _ ⟨⟨by decide,rfl⟩,Yt⟩⟩,⟨_,rfl,.pure _ hdp⟩,⟨_,rfl,.pure _ ⟨Yt,Yt⟩⟩,⟨_,rfl,.pure _ (ZF _)⟩,⟨_,rfl,.pure _ Yt⟩,⟨_,rfl,.pure _ Yt⟩,⟨_,rfl,.pure _ ⟨⟨Zk _,Yt⟩,Yt⟩⟩,Yt⟩,
          ⟨⟨by decide,_,rfl,hren0⟩,⟨by decide,_,rfl,.same _ (Z1q (Z1N _))⟩,⟨by decide,_,rfl,?_⟩,Yt⟩⟩
         show RenB _ _ ⟨1,(tab (setR f)).set x.val (setAt ((tab (setR f)).getD x.val []) 0 [.vec (words (digs (f x.val ||| 2 ^ b))) false])⟩ ⟨1,tab (setR fun j=>if j∈z ++ [x.val] then belT l S t j ||| 2 ^ b else belT l S t j)⟩;rw [Zby ha64,Z3t (g:=fun j=>if j∈z ++ [x.val] then belT l S t j ||| 2 ^ b else belT l S t j)]
         · exact .same _ (Z1q (Z1N _))
         · intro j _;rw [← hf];dsimp only;by_cases hj:j=x.val
           · rw [if_pos hj, if_pos (Y0h.2 (.inr (Y0g.2 hj))), hj];by_cases hx:x.val∈z
             · rw [if_pos hx,Nat.or_assoc,Nat.or_self]
             · rw [if_neg hx]
           · rw [if_neg hj];by_cases hx:j∈z
             · rw [if_pos hx,if_pos (Y0h.2 (.inl hx))]
             · rw [if_neg hx,if_neg fun h=>(Y0h.1 h).elim hx fun h=>hj (Y0g.1 h)]
       · rintro xs z hxs ⟨-, rfl⟩;rw [hxs];refine go ?_
         refine⟨t+1,by omega,by omega,⟨⟨rfl,show (0:Nat)<84 by decide,Yt⟩,⟨rfl,hdi _⟩,⟨rfl,hap _ _⟩,⟨rfl,Yt⟩,⟨by show some _=some _; rw [htinc],Yt⟩,Yt⟩,
          ⟨⟨by decide,rfl,hob _ (by decide)⟩,⟨by decide,by rw [Z3t (f:=abvT l S (t+1)) (g:=fun j=>if j=b then abv l b else abvT l S t j) fun j _=>hastep j]; rfl,hti _ _⟩,⟨by decide,by rw [Z3t (f:=belT l S (t+1)) (g:=fun j=>if j∈mem (abv l b) then belT l S t j ||| 2 ^ b else belT l S t j) fun j _=>hbstep j]; rfl,hti _ _⟩,Yt⟩⟩
       · rintro ex pre z - ⟨rfl,_⟩ (h|⟨id,h⟩)<;>cases h
   · have htl : t = 64 := by have := of_decide_eq_false hb; omega
     subst htl;clear hb;refine Z1m ?_;rw [Z3t (f:=abvT l S 64) (g:=abv l) fun j hj=>Zg8 hS h64 hj,Z3t (f:=belT l S 64) (g:=bel l) fun j _=>Zg9 hl hS h64 j];refine Z22 (Z1Z (ob:=0) (id:=7) (i0:=0) (j0:=2) rfl rfl (by decide) (Z1q (Z1N _)) (Nat.le_of_ble_eq_true rfl) (Nat.le_of_ble_eq_true rfl) rfl) ?_;refine Z22 (Z1Z (ob:=0) (id:=12) (i0:=0) (j0:=3) rfl rfl (by decide) (Z1q (Z1N _)) (Nat.le_of_ble_eq_true rfl) (Nat.le_of_ble_eq_true rfl) rfl) ?_;refine go ?_;exact⟨_,_,rfl,.inl rfl,_,rfl,Yt,⟨⟨Yt,Zh l,Z1q (Z1N _),Z1q (Z1N _),ZF _,Yt⟩,Yt⟩,rfl,rfl⟩
end
section
open Go.Shelf
def Z2E:Go.Shelf.Ren:=⟨fun|6=>103|15=>147|14=>146|28=>179|29=>180|20=>171|21=>172|22=>173|23=>174|24=>175|25=>176|26=>177|27=>178|46=>189|47=>190|48=>191|49=>192|50=>193|57=>206|n=>n,fun|22=>35|24=>137|25=>186|3=>3|39=>127|0=>0|53=>243|55=>36|4=>4|46=>237|45=>236|50=>222|5=>5|9=>9|66=>255|70=>259|76=>270|77=>271|n=>n,fun|n=>n⟩
theorem sortPair:Go.Proofs.SlLaysF0.n6 Tryz.prog Z2E:={
 mixed:=by kernel_rfl
 f6:=⟨Tryz.f103.name,by decide,Tryz.func103.trans (congrArg some (by kernel_rfl))⟩
 f14:=⟨Tryz.f146.name,by decide,Tryz.func146.trans (congrArg some (by kernel_rfl))⟩
 f15:=Tryz.func147.trans (congrArg some (by kernel_rfl))
 f20:=⟨Tryz.f171.name,by decide,Tryz.func171.trans (congrArg some (by kernel_rfl))⟩
 f21:=⟨Tryz.f172.name,by decide,Tryz.func172.trans (congrArg some (by kernel_rfl))⟩
 f22:=⟨Tryz.f173.name,by decide,Tryz.func173.trans (congrArg some (by kernel_rfl))⟩
 f23:=⟨Tryz.f174.name,by decide,Tryz.func174.trans (congrArg some (by kernel_rfl))⟩
 f24:=⟨Tryz.f175.name,by decide,Tryz.func175.trans (congrArg some (by kernel_rfl))⟩
 f25:=⟨Tryz.f176.name,by decide,Tryz.func176.trans (congrArg some (by kernel_rfl))⟩
 f26:=⟨Tryz.f177.name,by decide,Tryz.func177.trans (congrArg some (by kernel_rfl))⟩
 f27:=⟨Tryz.f178.name,by decide,Tryz.func178.trans (congrArg some (by kernel_rfl))⟩
 f28:=Tryz.func179.trans (congrArg some (by kernel_rfl))
 f29:=Tryz.func180.trans (congrArg some (by kernel_rfl))
 f46:=⟨Tryz.f189.name,by decide,Tryz.func189.trans (congrArg some (by kernel_rfl))⟩
 f47:=Tryz.func190.trans (congrArg some (by kernel_rfl))
 f48:=Tryz.func191.trans (congrArg some (by kernel_rfl))
 f49:=⟨Tryz.f192.name,by decide,Tryz.func192.trans (congrArg some (by kernel_rfl))⟩
 f50:=⟨Tryz.f193.name,by decide,Tryz.func193.trans (congrArg some (by kernel_rfl))⟩
 f57:=⟨Tryz.f206.name,by decide,Tryz.func206.trans (congrArg some (by kernel_rfl))⟩
 t0:=Tryz.underlying0
 a0:=Tryz.isAgg0
 z0:=Tryz.sizeOf0
 v0:=Tryz.zeroValue0
 t3:=Tryz.underlying3
 a3:=Tryz.isAgg3
 z3:=Tryz.sizeOf3
 v3:=Tryz.zeroValue3
 t4:=Tryz.underlying4
 a4:=Tryz.isAgg4
 z4:=Tryz.sizeOf4
 v4:=Tryz.zeroValue4
 t5:=Tryz.underlying5
 a5:=Tryz.isAgg5
 z5:=Tryz.sizeOf5
 v5:=Tryz.zeroValue5
 t9:=Tryz.underlying9
 a9:=Tryz.isAgg9
 z9:=Tryz.sizeOf9
 v9:=Tryz.zeroValue9
 t22:=Tryz.underlying35
 a22:=Tryz.isAgg35
 z22:=Tryz.sizeOf35
 v22:=Tryz.zeroValue35
 t25:=Tryz.underlying186
 a25:=Tryz.isAgg186
 z25:=Tryz.sizeOf186
 v25:=Tryz.zeroValue186
 t39:=Tryz.underlying127
 a39:=Tryz.isAgg127
 z39:=Tryz.sizeOf127
 v39:=Tryz.zeroValue127
 t45:=Tryz.underlying236
 a45:=Tryz.isAgg236
 z45:=Tryz.sizeOf236
 v45:=Tryz.zeroValue236
 t46:=Tryz.underlying237
 a46:=Tryz.isAgg237
 z46:=Tryz.sizeOf237
 v46:=Tryz.zeroValue237
 t50:=Tryz.underlying222
 a50:=Tryz.isAgg222
 z50:=Tryz.sizeOf222
 v50:=Tryz.zeroValue222
 t53:=Tryz.underlying243
 a53:=Tryz.isAgg243
 z53:=Tryz.sizeOf243
 v53:=Tryz.zeroValue243
 t55:=Tryz.underlying36
 a55:=Tryz.isAgg36
 z55:=Tryz.sizeOf36
 v55:=Tryz.zeroValue36
 t66:=Tryz.underlying255
 a66:=Tryz.isAgg255
 z66:=Tryz.sizeOf255
 v66:=Tryz.zeroValue255
 t70:=Tryz.underlying259
 a70:=Tryz.isAgg259
 z70:=Tryz.sizeOf259
 v70:=Tryz.zeroValue259
 t76:=Tryz.underlying270
 a76:=Tryz.isAgg270
 z76:=Tryz.sizeOf270
 v76:=Tryz.zeroValue270
 t77:=Tryz.underlying271
 a77:=Tryz.isAgg271
 z77:=Tryz.sizeOf271
 v77:=Tryz.zeroValue271 }
theorem Z8W:∀ w,(isAgg (Z2E.t 24)).run Tryz.prog w=.ok true w:=Tryz.isAgg137
theorem Z86:∀ w,(Go.sizeOf (Z2E.t 24)).run Tryz.prog w=.ok 2 w:=Tryz.sizeOf137
end
section
open Go.RowKit
attribute [local irreducible] aw opsK dK
theorem Z2b (l:List Pr):(l.map prC).length=l.length:=by simp
theorem ZcG (xs:List Pr) (fl:Bool) (hlen:xs.length≤1000000):NSpec Tryz.prog 182 [.vec (xs.map prC) fl] .own ⟨2,xs.map prC⟩:=by
 refine Z1B ok182 (Nat.le_of_ble_eq_true rfl) fun C hC=>?_;have fin:∀ (x:Pr) (xs:List Pr),(∀ c∈(x :: xs).map prC,c.length=2):=fun x xs c hc=>by obtain⟨y,_,rfl⟩:=Y0i.1 hc; rfl
 cases xs with
 | nil =>
   refine go ?_;refine Z5a (.inl ⟨_,_,rfl⟩) rfl fun b=>?_;cases b
   · repeat' (first | refine Zi (Zv (k := 5) rfl 2 (by decide)) ?_ | (first|refine st ?_|(apply B<;>intro hb<;>try cases hb)))
     exact⟨_,_,rfl,.inl rfl,_,rfl,rfl⟩
   · iterate 6 (first|refine st ?_|(apply B<;>intro hb<;>try cases hb))
     refine Z22 (Zv (k:=2) rfl 2 (by decide) _) ?_;refine go ?_;exact⟨_,_,rfl,.inl rfl,_,rfl,rfl⟩
 | cons x xs =>
   repeat' (first|refine Zi (Zv (k:=5) rfl 2 (by decide)) ?_|(first|refine st ?_|(apply B<;>intro hb<;>try cases hb)))
   refine ZD (ZB (k:=0) (m:=(x :: xs).map prC) (fl:=fl) rfl rfl rfl (fin x xs) rfl (by
    show (([]:List (List PV)).length+((x :: xs).map prC).length)*16≤_
    rw [Y0f,List.length_nil];omega)) rfl rfl ?_
   refine go ?_;exact⟨_,_,rfl,.inl rfl,_,rfl,by rw [List.nil_append]; rfl⟩
def pB (p x:Pr):Bool:=((p.1:Int) == (x.1:Int))&&(((p.2:Int) == (x.2:Int))&&true)
theorem Zel (p x:Pr):pB p x=true↔p=x:=by
 unfold pB;rw [Bool.and_true,Y0k,beq_iff_eq,beq_iff_eq,Int.ofNat_inj,Int.ofNat_inj];exact⟨fun h=>Prod.ext h.1 h.2,fun h=>by rw [h]; exact⟨rfl,rfl⟩⟩
theorem Zig {xs:List Pr} {p:Pr}:xs.any (pB p)=decide (p∈xs):=by
 rw [Bool.eq_iff_iff,Y01,decide_eq_true_iff];constructor
 · rintro ⟨x, hx, h⟩;rw [(Zel p x).1 h]; exact hx
 · intro h;exact⟨p,h,(Zel p p).2 rfl⟩
theorem Zam (xs:List Pr) (p:Pr) (fl:Bool):Spec Tryz.prog 181 [.vec (xs.map prC) fl,.agg (prC p)] (· = .val (.int .i64 (idxI (pB p) xs))):=by
 have hnl:=Z2b xs;refine Yp ok181 fun C hC=>?_;refine Z2S (k:=0) rfl fun hmax=>?_;have hlm:xs.length≤maxVec:=by rw [← hnl]; exact hmax
 refine Zs ?_;refine Zc ?_;refine Z4 rfl rfl rfl ?_;refine go ?_;have hpi:∀ D,innLL D (xs.map prC):=fun D=>Z9 (fun _ h=>h.elim) _ (Zh xs);have hpc:∀ D,innL D (prC p):=fun D=>Zm (fun _ h=>h.elim) _ (Z3P p);refine Zn hC (fun i=>i≤xs.length∧(xs.take i).any (pB p)=false) (fun i=>xs.length-i) 0 (fun i => [(0,.vec (xs.map prC) fl),(3,.cp (prC p)),(7,.val (.int .i64 (xs.length:Int))),(8,Yv i)]) (fun _=>[]) (Y0l _) 0 ⟨Y0l _,rfl⟩ ⟨⟨rfl,hpi _⟩,⟨rfl,hpc _⟩,⟨by rw [← hnl]; rfl,Yt⟩,⟨rfl,Yt⟩,Yt⟩ Yt ?_;rintro i ⟨hi,hno⟩;have hinc:IntKind.i64.wrap ((i:Int)+1)=((i+1:Nat):Int):=Y0v _ ⟨by omega,by simp only [maxVec] at hlm; omega⟩;refine gd 9 ⟨?_⟩;refine Zt rfl rfl rfl (fun hb=>?_) (fun hb=>?_)
 · have hil : i < xs.length := by have := Y0u hb; omega
   clear hb;refine gd 14 ⟨?_⟩;refine Ze (Zo (xs:=xs) (g:=prC) rfl rfl i rfl hil rfl) rfl rfl ?_;refine gd 16 ⟨?_⟩;refine Z7P (b:=pB p xs[i]) rfl rfl rfl (fun hx=>?_) (fun hx=>?_)
   · refine go ?_;exact Z5 rfl Yt (by rw [Z4f hil hno hx])
   · refine go ?_;exact⟨i+1,⟨by omega,Z38 hil hno hx⟩,by omega,⟨⟨rfl,hpi _⟩,⟨rfl,hpc _⟩,⟨rfl,Yt⟩,⟨by show some _=some _; rw [hinc],Yt⟩,Yt⟩,Yt⟩
 · have hil : i = xs.length := by have := of_decide_eq_false hb; omega
   subst hil;rw [Y0q] at hno;refine go ?_;exact Z5 rfl Yt (by rw [Z27 hno]; rfl)
theorem Z6P (xs:List Pr) (p:Pr) (fl:Bool):Spec Tryz.prog 150 [.vec (xs.map prC) fl,.agg (prC p)] (· = .val (.bool (decide (p∈xs)))):=by
 refine Yp ok150 fun C hC=>?_;refine Zs ?_;refine Zc ?_;refine Z4 rfl rfl rfl ?_;refine go ?_;refine Z6 (Zam xs p fl) rfl rfl rfl ⟨Zh xs,Z3P p,Yt⟩ rfl ?_;refine Z0 (Z1 rfl ((Z4I (p:=pB p) (xs:=xs)).trans Zig)) rfl rfl ?_;(refine go ?_;repeat' (apply B<;>intro hb<;>try cases hb))
 all_goals exact Z5 rfl Yt (by rw [hb])
theorem Zih {esz n:Nat} {e:Env} {h:Heap} {x hi mx:Operand} {l:List (List PV)} {fl:Bool} (hx:ev e x=some (.vec l fl)) (h1:intAt (ev e hi)=some (l.length:Int)) (h2:intAt (ev e mx)=some (l.length:Int)) (hl:∀ c∈l,c.length=esz):dEval (.slc esz x none (some hi) (some mx)) e h n=some (.vec l true,h):=by
 simp only [dEval,hx,bndAt,h1,h2];rw [if_pos ⟨⟨by omega,by omega,by omega,by omega⟩,hl⟩];simp
theorem ZcH (xs:List Pr) (fl:Bool):Spec Tryz.prog 105 [.vec (xs.map prC) fl] (· = .vec (xs.map prC) true):=by
 refine Yp ok105 fun C hC=>?_;refine gd 8 ⟨?_⟩;refine Z0 (Zih rfl rfl rfl (fun c hc=>by obtain⟨y,_,rfl⟩:=Y0i.1 hc; rfl)) rfl rfl ?_;refine go ?_;exact Z5 rfl (Zh xs) rfl
theorem Z87 (xs:List Pr) (fl:Bool) (hne:∀ i (h:i+1<xs.length),xs[i]≠xs[i+1]):Spec Tryz.prog 106 [.vec (xs.map prC) fl] (· = .vec (xs.map prC) fl):=by
 have hnl:=Z2b xs;refine Yp ok106 fun C hC=>?_;refine Z2S (k:=0) rfl fun hmax=>?_;have hlm:xs.length≤maxVec:=by rw [← hnl]; exact hmax
 (refine go ?_;repeat' (apply B<;>intro hb<;>try cases hb))
 · exact Z5 rfl (Zh xs) rfl
 · rw [hnl] at hb;have h2:2≤xs.length:=by have:=of_decide_eq_false hb; omega
   clear hb;have hpi:∀ D,innLL D (xs.map prC):=fun D=>Z9 (fun _ h=>h.elim) _ (Zh xs);refine Zn hC (fun k=>1≤k∧k≤xs.length) (fun k=>xs.length-k) 0 (fun k => [(0,.vec (xs.map prC) fl),(3,.val (.int .i64 (k:Int)))]) (fun _=>[]) (Y0l _) 1 ⟨Y0m _,by omega⟩ ⟨⟨rfl,hpi _⟩,⟨rfl,Yt⟩,Yt⟩ Yt ?_;rintro k ⟨hk1,hk⟩;have hinc:IntKind.i64.wrap ((k:Int)+1)=((k+1:Nat):Int):=Y0v _ ⟨by omega,by simp only [maxVec] at hlm; omega⟩;have hdec:IntKind.i64.wrap ((k:Int)-1)=((k-1:Nat):Int):=(Y0v _ ⟨by omega,by simp only [maxVec] at hlm; omega⟩).trans (by omega);refine gd 13 ⟨?_⟩;refine Zt rfl rfl rfl (fun hb=>?_) (fun hb=>?_)
   · rw [hnl] at hb;have hil:k<xs.length:=by have:=Y0u hb; omega
     clear hb;refine gd 18 ⟨?_⟩;refine Ze (Zo (xs:=xs) (g:=prC) rfl rfl k rfl hil rfl) rfl rfl ?_;refine gd 22 ⟨?_⟩;refine Ze (ZY rfl hdec) rfl rfl ?_;refine Ze (Zo (xs:=xs) (g:=prC) rfl rfl (k-1) rfl (by omega) rfl) rfl rfl ?_;refine gd 25 ⟨?_⟩;refine Z7P (b:=pB xs[k] xs[k-1]) rfl rfl rfl (fun hx=>?_) (fun hx=>?_)
     · refine absurd ((Zel _ _).1 hx).symm ?_;have:=hne (k-1) (by omega);simpa only [show k-1+1=k by omega] using this
     · refine go ?_;exact⟨k+1,⟨by omega,by omega⟩,by omega,⟨⟨rfl,hpi _⟩,⟨by show some _=some _; rw [hinc],Yt⟩,Yt⟩,Yt⟩
   · refine go ?_;exact Z5 rfl (Zh xs) rfl
def cmpP (p q:Pr):Int:=if p.1=q.1 then (p.2:Int)-q.2 else (p.1:Int)-q.1
theorem Z88 (p q:Pr) (hp:p.1<64∧p.2<64) (hq:q.1<64∧q.2<64):Spec Tryz.prog 104 [.agg (prC p),.agg (prC q)] (· = .val (.int .i64 (cmpP p q))):=by
 refine Yp ok104 fun C hC=>?_;have h1:IntKind.i64.wrap ((p.1:Int)-q.1)=(p.1:Int)-q.1:=Y0v _ ⟨by omega,by omega⟩;have h2:IntKind.i64.wrap ((p.2:Int)-q.2)=(p.2:Int)-q.2:=Y0v _ ⟨by omega,by omega⟩;refine Zs ?_;refine Zc ?_;refine Z4 rfl rfl rfl ?_;refine Z4 rfl rfl rfl ?_;(refine go ?_;repeat' (apply B<;>intro hb<;>try cases hb))
 · have h3 : ¬ p.1 = q.1 := fun h => by rw [h] at hb; simp at hb
   exact Z5 rfl Yt (by rw [h1,cmpP,if_neg h3])
 · have h3 : p.1 = q.1 := Int.ofNat_inj.1 (by simpa using hb);exact Z5 rfl Yt (by rw [h2,cmpP,if_pos h3])
abbrev Pr64:={ p:Pr // p.1<64∧p.2<64 }
theorem all64P {xs:List Pr} (h:Small xs):∃ l:List Pr64,l.map (·.1)=xs:=by
 induction xs with
 | nil=>exact⟨[],rfl⟩
 | cons c xs ih =>
   obtain⟨l,hl⟩:=ih fun d hd=>h d (List.mem_cons_of_mem _ hd);exact⟨⟨c,h c (Y0t ..)⟩ :: l,by rw [List.map_cons,hl]⟩
def keyP (p:Pr):Nat:=64*p.1+p.2
theorem Zan {n ob:Nat} {h:Heap} (xs:List Pr) (hx:Small xs) (hh:h ob=some ⟨2,xs.map prC⟩) :
 ISpec Tryz.prog 103 n [.own ob,.fn 104 []] h fun n' r h'=>n'=n∧r=.tup []∧∃ ys:List Pr,ys.Perm xs∧ys.Pairwise (fun a b=>keyP a≤keyP b)∧h'=h.upd ob ⟨2,ys.map prC⟩:=by
 obtain⟨l,rfl⟩:=all64P hx;have e:∀ l:List Pr64,(l.map (·.1)).map prC=l.map fun c:Pr64=>prC c.1:=fun l=>by rw [List.map_map]; rfl
 rw [e] at hh
 have hs:=ZcC (P:=Tryz.prog) (ρ:=Z2E) (n:=n) sortPair ⟨_,Tryz.func103,by kernel_rfl,by kernel_rfl⟩ 2 (by decide) Z8W Z86 (fun c:Pr64=>prC c.1) (fun c=>rfl) (fun c=>Z3P c.1) (fun c:Pr64=>keyP c.1) (fun a b:Pr64=>cmpP a.1 b.1) (fun a b=>by
  have h1:=a.2; have h2:=b.2;unfold cmpP keyP
  split<;>omega) 104 [] Yt (fun a b=>Z88 a.1 b.1 a.2 b.2) l hh
 refine hs.mono ?_;rintro n' r h' ⟨h1,h2,ys,h3,h4,h5⟩;refine⟨h1,h2,ys.map (·.1),h3.map _,?_,by rw [e]; exact h5⟩;exact List.pairwise_map.2 h4
def SortedP (l:List Pr):Prop:=l.Pairwise fun p q=>p.1<q.1 ∨ p.1=q.1∧p.2<q.2
noncomputable def ordC (l:List Pr) (S:List Nat):List PV := [.val (.int .i64 64),.vec (l.map prC) true,.vec (tab (setR (abv l))) false,.vec (tab (setR (bel l))) false,.vec (nums (intsN S)) false]
theorem Z17 (l:List Pr) (S:List Nat):pureL (ordC l S):=⟨Yt,Zh l,Z1q (Z1N _),Z1q (Z1N _),ZF _,Yt⟩
def IsOrd (l:List Pr) (r:PV):Prop:=∃ S,r=.cp (ordC l S)
theorem Z89 {l:List Pr} (hl:Small l) (hn:l.Nodup) (hs:l.Pairwise fun a b=>keyP a≤keyP b):SortedP l:=by
 have h:=hs.and hn;refine List.Pairwise.imp_of_mem (fun {p q} hp hq h=>?_) h;have h1:=hl p hp;have h2:=hl q hq;obtain⟨h3,h4⟩:=h;unfold keyP at h3;have h5:¬ (p.1=q.1∧p.2=q.2):=fun h=>h4 (Prod.ext h.1 h.2);omega
theorem Zeo {l:List Pr} (hs:SortedP l):∀ i (h:i+1<l.length),l[i]≠l[i+1]:=fun i h he=>by
 have:=(List.pairwise_iff_getElem.1 hs) i (i+1) (by omega) h (by omega);rw [he] at this;omega
theorem Acy.perm {l m:List Pr} (h:Acy l) (hp:m.Perm l):Acy m:=h.sub fun p hpm=>hp.mem_iff.1 hpm
theorem Small.perm {l m:List Pr} (h:Small l) (hp:m.Perm l):Small m:=fun p hpm=>h p (hp.mem_iff.1 hpm)
theorem Z8Y (l:List Pr) (fl:Bool) (hl:Small l) (hn:l.Nodup) (hacy:Acy l) (hlen:l.length≤1000000):Spec Tryz.prog 48 [.val (.int .i64 64),.vec (l.map prC) fl] fun r=>∃ l' o,l'.Perm l∧SortedP l'∧IsOrd l' o∧r=.tup [o,.val (.int .i64 0)]:=by
 have hnl:=Z2b l;have hpl:∀ D,innLL D (l.map prC):=fun D=>Z9 (fun _ h=>h.elim) _ (Zh l);refine Yp ok48 fun C hC=>?_;refine go ?_;refine Zn hC (fun i=>i≤l.length) (fun i=>l.length-i) 0 (fun i => [(0,.val (.int .i64 64)),(1,.vec (l.map prC) fl),(16,.vec (l.map prC) fl),(17,.val (.int .i64 l.length)),(18,Yv i)]) (fun _=>[]) (Y0l _) 0 (Y0l _)
  ⟨⟨rfl,Yt⟩,⟨rfl,hpl _⟩,⟨rfl,hpl _⟩,⟨by rw [← hnl]; rfl,Yt⟩,⟨rfl,Yt⟩,Yt⟩ Yt ?_
 intro i hi;have hinc:IntKind.i64.wrap ((i:Int)+1)=((i+1:Nat):Int):=Y0v _ ⟨by omega,by omega⟩;refine gd 19 ⟨?_⟩;refine Zt rfl rfl rfl (fun hb=>?_) (fun hb=>?_)
 · have hil : i < l.length := by have := Y0u hb; omega
   have hp:=hl _ (Y0j hil);clear hb;refine go ?_;refine Z0 (Zo (xs:=l) (g:=prC) rfl rfl i rfl hil rfl) rfl rfl ?_;generalize l[i]=p at hp ⊢;(refine go ?_;repeat' (apply B<;>intro hb<;>try cases hb))
   · refine absurd (Y0u hb) ?_
     split<;>omega
   · rename_i hb2;refine absurd (Y0u hb) ?_
     split<;>omega
   · exact⟨i+1,by omega,by omega,⟨⟨rfl,Yt⟩,⟨rfl,hpl _⟩,⟨rfl,hpl _⟩,⟨rfl,Yt⟩,⟨by show some _=some _; rw [hinc],Yt⟩,Yt⟩,Yt⟩
 · have hil : i = l.length := by have := of_decide_eq_false hb; omega
   subst hil;clear hb
   repeat' (first|refine Zi (Zv (k:=38) rfl 2 (by decide)) ?_|(first|refine st ?_|(apply B<;>intro hb<;>try cases hb)))
   refine ZD (ZB (k:=0) (m:=l.map prC) (fl:=fl) (b:=⟨2,[]⟩) rfl rfl rfl (fun c hc=>by obtain⟨y,_,rfl⟩:=Y0i.1 hc; rfl) rfl (by
    show (0+(l.map prC).length)*16≤_
    rw [hnl];omega)) rfl rfl ?_
   refine go ?_;refine Z2s rfl rfl (Zan (n:=_) (ob:=1) l hl rfl) ?_;rintro n' r h' ⟨rfl,rfl,ys,hys1,hys2,rfl⟩;have hyl:=hl.perm hys1;have hso:=Z89 hyl (hys1.nodup_iff.2 hn) hys2;have hylen:ys.length≤1000000:=by rw [hys1.length_eq]; exact hlen
   refine gd 43 ⟨?_⟩;refine Zi (Zq (k:=8) (id:=1) rfl rfl (Zh ys)) ?_;refine go ?_;refine Z6 (Z87 ys false (Zeo hso)) rfl rfl rfl ⟨Zh ys,Yt⟩ rfl ?_;refine Z6 (ZcH ys false) rfl rfl rfl ⟨Zh ys,Yt⟩ rfl ?_;refine go ?_;refine ZM (ZcE ys true hyl (hacy.perm hys1) hylen) rfl rfl rfl rfl ⟨⟨Yt,Zh ys,Yt,Yt,Yt,Yt⟩,Yt⟩ Yt ?_;rintro r b' - - ⟨rfl,S,hT,h64,rfl⟩;refine go ?_;refine ZM (Zal ys true hyl hylen S hT h64) rfl rfl rfl rfl ⟨⟨Yt,Zh ys,Yt,Yt,ZF _,Yt⟩,Yt⟩ Yt ?_;rintro r b' - - ⟨rfl,rfl⟩;refine gd 54 ⟨?_⟩;refine Zi (Z46 (k:=9) (l:=ordC ys S) rfl rfl (Z17 ys S)) ?_;refine go ?_;exact Z5 rfl ⟨Z17 ys S,Yt,Yt⟩ ⟨ys,_,hys1,hso,⟨S,rfl⟩,rfl⟩
theorem Z8a (l:List Pr) (S:List Nat) (a:Int):Spec Tryz.prog 149 [.cp (ordC l S),.val (.int .i64 a)] (· = .val (.bool (decide (0≤a)&&decide (a<64)))):=by
 refine Yp ok149 fun C hC=>?_;(refine go ?_;repeat' (apply B<;>intro hb<;>try cases hb))
 · have h1 := Y0u hb;rename_i hb2;exact Z5 rfl Yt (by simp_all)
 · exact Z5 rfl Yt (by simp_all)
 · exact Z5 rfl Yt (by simp_all;omega)
theorem Z7m (l:List Pr) (S:List Nat) (hlen:l.length≤1000000):NSpec Tryz.prog 151 [.cp (ordC l S)] .own ⟨2,l.map prC⟩:=by
 refine Z1B ok151 (Nat.le_of_ble_eq_true rfl) fun C hC=>?_;refine go ?_;refine Z3R (ZcG l true hlen) Z5Z (by exact Zh l) rfl rfl ⟨Zh l,Yt⟩ ?_;refine go ?_;exact⟨_,_,rfl,.inl rfl,_,rfl,rfl⟩
theorem Zar (l:List Pr) (S:List Nat) (hlen:l.length≤1000000):Spec Tryz.prog 151 [.cp (ordC l S)] (· = .vec (l.map prC) false) :=
 (Z7m l S hlen).spec (Zh l) (fun _=>.own) (Zh l)
theorem Zas (l:List Pr) (S:List Nat) (a:Int):Spec Tryz.prog 130 [.cp (ordC l S),.val (.int .i64 a)] (· = setN (if 0≤a∧a<64 then bel l a.toNat else 0)):=by
 refine Yp ok130 fun C hC=>?_;refine go ?_;refine Z6 (Z8a l S a) rfl rfl rfl ⟨Z17 l S,Yt,Yt⟩ rfl ?_;by_cases h:0≤a∧a<64
 · rw [if_pos h, decide_eq_true h.1, decide_eq_true h.2];obtain⟨k,rfl⟩:∃ k:Nat,a=(k:Int):=⟨a.toNat,by omega⟩
   have hk:k<64:=by omega
   have hkl:k<(List.range 64).length:=by simpa using hk
   refine gd 15 ⟨?_⟩;refine Z0 (Zo (xs:=List.range 64) (g:=setR (bel l)) rfl rfl k rfl hkl rfl) rfl rfl ?_;rw [List.getElem_range];refine go ?_;exact Z5 rfl (Z3 _) rfl
 · rw [if_neg h];have h2:(decide (0≤a)&&decide (a<64))=false:=by
    rw [Bool.and_eq_false_iff];by_cases h1:0≤a
    · exact .inr (Y0w fun h3=>h ⟨h1,h3⟩)
    · exact .inl (Y0w h1)
   rw [h2];refine go ?_;refine Z1y rfl (Z3 0 |> fun h=>by rw [Z26] at h; exact h) ?_;rw [Z26]; rfl
theorem Zat (l:List Pr) (S:List Nat) (a:Int):Spec Tryz.prog 165 [.cp (ordC l S),.val (.int .i64 a)] (· = setN (if 0≤a∧a<64 then abv l a.toNat else 0)):=by
 refine Yp ok165 fun C hC=>?_;refine go ?_;refine Z6 (Z8a l S a) rfl rfl rfl ⟨Z17 l S,Yt,Yt⟩ rfl ?_;by_cases h:0≤a∧a<64
 · rw [if_pos h, decide_eq_true h.1, decide_eq_true h.2];obtain⟨k,rfl⟩:∃ k:Nat,a=(k:Int):=⟨a.toNat,by omega⟩
   have hk:k<64:=by omega
   have hkl:k<(List.range 64).length:=by simpa using hk
   refine gd 15 ⟨?_⟩;refine Z0 (Zo (xs:=List.range 64) (g:=setR (abv l)) rfl rfl k rfl hkl rfl) rfl rfl ?_;rw [List.getElem_range];refine go ?_;exact Z5 rfl (Z3 _) rfl
 · rw [if_neg h];have h2:(decide (0≤a)&&decide (a<64))=false:=by
    rw [Bool.and_eq_false_iff];by_cases h1:0≤a
    · exact .inr (Y0w fun h3=>h ⟨h1,h3⟩)
    · exact .inl (Y0w h1)
   rw [h2];refine go ?_;refine Z1y rfl (Z3 0 |> fun h=>by rw [Z26] at h; exact h) ?_;rw [Z26]; rfl
theorem ZcJ (l:List Pr) (S:List Nat) (a b:Nat) (ha:a<64) (hb:b<64) (hl:Small l) (hn:l.Nodup) (hno:(a,b) ∉ l) (hacy:Acy (l ++ [(a,b)])) (hlen:l.length≤100000):Spec Tryz.prog 114 [.cp (ordC l S),.val (.int .i64 (a:Int)),.val (.int .i64 (b:Int))] fun r=>∃ l' o,l'.Perm (l ++ [(a,b)])∧SortedP l'∧IsOrd l' o∧r=.tup [o,.val (.int .i64 0)]:=by
 have hi:∀ c:Nat,c<64→Spec Tryz.prog 149 [.cp (ordC l S),.val (.int .i64 (c:Int))] (· = .val (.bool true)):=fun c hc=>by
  have:=Z8a l S (c:Int)
  rwa [decide_eq_true (show (0:Int)≤c by omega),decide_eq_true (show (c:Int)<64 by omega)] at this
 have hcon:=Z6P l (a,b) true;rw [Y0w hno] at hcon;have hl2:Small (l ++ [(a,b)]):=fun p hp=>(Y0h.1 hp).elim (hl p) fun h=>by rw [Y0g] at h; subst h; exact⟨ha,hb⟩
 have hn2:(l ++ [(a,b)]).Nodup:=by
  rw [List.nodup_append];exact⟨hn,by simp,fun x hx y hy e=>by rw [Y0g] at hy; subst hy; subst e; exact hno hx⟩
 refine Yp ok114 fun C hC=>?_;refine go ?_;refine Z6 (hi a ha) rfl rfl rfl ⟨Z17 l S,Yt,Yt⟩ rfl ?_;refine go ?_;refine Z6 (hi b hb) rfl rfl rfl ⟨Z17 l S,Yt,Yt⟩ rfl ?_;refine go ?_;refine Z6 hcon rfl rfl rfl ⟨Zh l,Z3P _,Yt⟩ rfl ?_
 repeat' (first|refine Z60 [10] ?_|(first|refine st ?_|(apply B<;>intro hb<;>try cases hb)))
 refine ZfK (Z7m l S (by omega)) Z5Z (by exact Zh l) rfl rfl rfl ⟨Z17 l S,Yt⟩ ?_;refine gd 38 ⟨?_⟩;have hap:(l.map prC) ++ [prC (a,b)]=(l ++ [(a,b)]).map prC:=by rw [Y0r]; rfl
 refine Z9Y (k:=5) (m := [prC (a,b)]) (fl:=true) (b:=⟨2,l.map prC⟩) rfl rfl rfl (fun c hc=>by rw [Y0g] at hc; subst hc; rfl) rfl (by
  show ((l.map prC).length+1)*16≤_
  rw [Z2b];omega) (by show pureLL (l.map prC ++ [prC (a,b)]); rw [hap]; exact Zh _) rfl rfl ?_
 show dK _ _ _ _ (Env.upd _ 38 (.vec (l.map prC ++ [prC (a,b)]) false)) _ _;rw [hap];have hnew:=Z8Y (l ++ [(a,b)]) false hl2 hn2 hacy (by rw [Y0e,Y0s];omega);refine Z2r rfl rfl (.inl rfl) hnew ⟨Yt,Zh _,Yt⟩ ?_;rintro r ⟨l',o,h1,h2,⟨S',rfl⟩,rfl⟩;refine go ?_;exact Z5 rfl ⟨Z17 l' S',Yt,Yt⟩ ⟨l',_,h1,h2,⟨S',rfl⟩,rfl⟩
theorem Z8b (i:Nat) (h:i<64):IntKind.u64.wrap (1*2 ^ (min ((i:Nat):Int).toNat IntKind.u64.bits))=((2 ^ i:Nat):Int):=by
 rw [show min ((i:Nat):Int).toNat IntKind.u64.bits=i by show min i 64=i; omega,Int.one_mul];have h2:=ZG h;have e:((2:Int) ^ i)=((2 ^ i:Nat):Int):=by rw [Int.natCast_pow]; rfl
 rw [e];exact Y0x _ ⟨Int.natCast_nonneg _,Int.ofNat_le.2 (show _≤18446744073709551615 by omega)⟩
theorem ZcK (a:Int):Spec Tryz.prog 109 [.val (.int .i64 a)] (· = .val (.bool (decide (1≤a)&&decide (a≤63)))):=by
 refine Yp ok109 fun C hC=>?_;(refine go ?_;repeat' (apply B<;>intro hb<;>try cases hb))
 all_goals exact Z5 rfl Yt (by simp_all<;>omega)
theorem Z4N (a:Nat) (h1:1≤a) (h2:a<64):Spec Tryz.prog 109 [.val (.int .i64 (a:Int))] (· = .val (.bool true)):=by
 have:=ZcK (a:Int)
 rwa [decide_eq_true (show (1:Int)≤a by omega),decide_eq_true (show (a:Int)≤63 by omega)] at this
theorem Z4O (l:List Pr) (fl:Bool) (hl:Small l) (r:Nat) (hr1:1≤r) (hr:r<64):Spec Tryz.prog 112 [.vec (l.map prC) fl,.val (.int .i64 (r:Int))] (· = .val (.int .u64 (jun l r:Nat))):=by
 have hnl:=Z2b l;have hpl:∀ D,innLL D (l.map prC):=fun D=>Z9 (fun _ h=>h.elim) _ (Zh l);refine Yp ok112 fun C hC=>?_;refine Z2S (k:=0) rfl fun hmax=>?_;have hlm:l.length≤maxVec:=by rw [← hnl]; exact hmax
 refine go ?_;refine Z6 (Z4N r hr1 hr) rfl rfl rfl ⟨Yt,Yt⟩ rfl ?_;refine gd 13 ⟨?_⟩;refine Z0 (ZdO rfl rfl (by omega) (Z8b r hr)) rfl rfl ?_;refine go ?_;refine Zn hC (fun s=>Reach l r s) (fun s=>18446744073709551616-s) 0 (fun s => [(0,.vec (l.map prC) fl),(5,.val (.int .u64 (s:Int)))]) (fun _=>[]) (Y0l _) (2 ^ r) (Reach.init hr) ⟨⟨rfl,hpl _⟩,⟨rfl,Yt⟩,Yt⟩ Yt ?_;intro s hs;have hs64:=hs.lt;refine go ?_;refine Zn hC (fun i=>i≤l.length) (fun i=>l.length-i) 0 (fun i => [(0,.vec (l.map prC) fl),(5,.val (.int .u64 (s:Int))),(6,.val (.int .u64 ((l.take i).foldl (fun n x=>if s.testBit x.1=true then n ||| 2 ^ x.2 else n) s:Nat))),(15,.vec (l.map prC) fl),(16,.val (.int .i64 l.length)),(17,Yv i)]) (fun _=>[]) (Y0l _) 0 (Y0l _)
  ⟨⟨rfl,hpl _⟩,⟨rfl,Yt⟩,⟨rfl,Yt⟩,⟨rfl,hpl _⟩,⟨by rw [← hnl]; rfl,Yt⟩,⟨rfl,Yt⟩,Yt⟩ Yt ?_
 intro i hi;have hinc:IntKind.i64.wrap ((i:Int)+1)=((i+1:Nat):Int):=Y0v _ ⟨by omega,by simp only [maxVec] at hlm; omega⟩;have hcur:=Z8X (l:=l.take i) (fun p hp=>hl p (List.mem_of_mem_take hp)) s s hs64;refine gd 18 ⟨?_⟩;refine Zt rfl rfl rfl (fun hb=>?_) (fun hb=>?_)
 · have hil : i < l.length := by have := Y0u hb; omega
   have hp:=hl _ (Y0j hil);have htk:=ZcI hil s s;clear hb;generalize (l.take i).foldl (fun n x=>if s.testBit x.1=true then n ||| 2 ^ x.2 else n) s=cur at hcur htk ⊢;refine go ?_;refine Z0 (Zo (xs:=l) (g:=prC) rfl rfl i rfl hil rfl) rfl rfl ?_;generalize l[i]=p at hp htk ⊢;(refine go ?_;repeat' (apply B<;>intro hb<;>try cases hb))
   · rw [Z32 s p.1 hp.1, Z33 s p.1, Z65 s p.1] at hb;rw [if_pos hb] at htk;clear hb;have hor:bits .or .u64 (cur:Int) (IntKind.u64.wrap (1*2 ^ (min ((p.2:Nat):Int).toNat IntKind.u64.bits)))=((cur ||| 2 ^ p.2:Nat):Int):=by
      rw [Z8b p.2 hp.2]; exact bits_or_u64_nat cur (2 ^ p.2) hcur (ZG hp.2)
     exact⟨i+1,by omega,by omega,⟨⟨rfl,hpl _⟩,⟨rfl,Yt⟩,⟨by rw [htk,← hor]; rfl,Yt⟩,⟨rfl,hpl _⟩,⟨rfl,Yt⟩,⟨by show some _=some _; rw [hinc],Yt⟩,Yt⟩,Yt⟩
   · rw [Z32 s p.1 hp.1, Z33 s p.1, Z65 s p.1] at hb;rw [if_neg (by rw [hb]; decide)] at htk;exact⟨i+1,by omega,by omega,⟨⟨rfl,hpl _⟩,⟨rfl,Yt⟩,⟨by rw [htk]; rfl,Yt⟩,⟨rfl,hpl _⟩,⟨rfl,Yt⟩,⟨by show some _=some _; rw [hinc],Yt⟩,Yt⟩,Yt⟩
 · have hil : i = l.length := by have := of_decide_eq_false hb; omega
   subst hil;rw [Y0q];rw [Y0q] at hcur;clear hb;have hst:=hs.step hl;have hst64:=hst.lt;(refine go ?_;repeat' (apply B<;>intro hb<;>try cases hb))
   · have he : stepJ l s = s := by
      have:=eq_of_beq hb;exact Int.ofNat_inj.1 this
     rw [← hs.done hl hr he];exact Z5 rfl Yt rfl
   · have he : stepJ l s ≠ s := fun h => by
      rw [show l.foldl (fun n x=>if s.testBit x.1=true then n ||| 2 ^ x.2 else n) s=s from h] at hb;simp at hb
     have hg:=Zao l s he;exact⟨stepJ l s,hst,by omega,⟨⟨rfl,hpl _⟩,⟨rfl,Yt⟩,Yt⟩,Yt⟩
theorem Z8c (l:List Pr) (fl:Bool) (hl:Small l) (r s:Nat) (hr1:1≤r) (hr:r<64) (hs1:1≤s) (hs:s<64):Spec Tryz.prog 111 [.vec (l.map prC) fl,.val (.int .i64 (r:Int)),.val (.int .i64 (s:Int))] (· = .val (.bool ((jun l r).testBit s))):=by
 refine Yp ok111 fun C hC=>?_;refine go ?_;refine Z6 (Z4N s hs1 hs) rfl rfl rfl ⟨Yt,Yt⟩ rfl ?_;refine go ?_;refine Z6 (Z4O l fl hl r hr1 hr) rfl rfl rfl ⟨Zh l,Yt,Yt⟩ rfl ?_;(refine go ?_;repeat' (apply B<;>intro hb<;>try cases hb))
 all_goals
  rw [Z32 _ s hs,Z33 _ s,Z65 _ s] at hb;exact Z5 rfl Yt (by rw [hb])
theorem Z7n {α:Type} {S:List α} {t:Nat} (ht:t<S.length):S.take (t+1)=S.take t ++ [S[t]]:=by rw [List.take_add_one,Y0c ht]; rfl
theorem Zep (l:List Pr) (fl:Bool) (a b:Nat):Spec Tryz.prog 110 [.vec (l.map prC) fl,.val (.int .i64 (a:Int)),.val (.int .i64 (b:Int))] (· = .val (.bool (decide ((a,b)∈l)))):=by
 have hnl:=Z2b l;have hpl:∀ D,innLL D (l.map prC):=fun D=>Z9 (fun _ h=>h.elim) _ (Zh l);refine Yp ok110 fun C hC=>?_;refine Z2S (k:=0) rfl fun hmax=>?_;have hlm:l.length≤maxVec:=by rw [← hnl]; exact hmax
 refine go ?_;refine Zn hC (fun i=>i≤l.length∧(a,b) ∉ l.take i) (fun i=>l.length-i) 0 (fun i => [(1,.val (.int .i64 (a:Int))),(2,.val (.int .i64 (b:Int))),(9,.vec (l.map prC) fl),(10,.val (.int .i64 l.length)),(11,Yv i)]) (fun _=>[]) (Y0l _) 0 ⟨Y0l _,by simp⟩
  ⟨⟨rfl,Yt⟩,⟨rfl,Yt⟩,⟨rfl,hpl _⟩,⟨by rw [← hnl]; rfl,Yt⟩,⟨rfl,Yt⟩,Yt⟩ Yt ?_
 rintro i ⟨hi,hno⟩;have hinc:IntKind.i64.wrap ((i:Int)+1)=((i+1:Nat):Int):=Y0v _ ⟨by omega,by simp only [maxVec] at hlm; omega⟩;refine gd 12 ⟨?_⟩;refine Zt rfl rfl rfl (fun hb=>?_) (fun hb=>?_)
 · have hil : i < l.length := by have := Y0u hb; omega
   have htk:=Z7n hil;have hmem:=Y0j hil;clear hb;refine go ?_;refine Z0 (Zo (xs:=l) (g:=prC) rfl rfl i rfl hil rfl) rfl rfl ?_;generalize l[i]=p at htk hmem ⊢;have hnext:¬ (a,b)=p→(a,b) ∉ l.take (i+1):=fun h hh=>by
    rw [htk] at hh;rcases Y0h.1 hh with hh|hh
    · exact hno hh
    · exact h (Y0g.1 hh)
   (refine go ?_;repeat' (apply B<;>intro hb<;>try cases hb))
   · rename_i hb2;have h1:p.1=a:=Int.ofNat_inj.1 (by simpa using hb2);have h2:p.2=b:=Int.ofNat_inj.1 (by simpa using hb);refine Z5 rfl Yt ?_;rw [decide_eq_true];rw [← h1,← h2]; exact hmem
   · have h2 : ¬ p.2 = b := fun h => by rw [h] at hb; simp at hb
     exact⟨i+1,⟨by omega,hnext fun h=>h2 (by rw [← h])⟩,by omega,⟨⟨rfl,Yt⟩,⟨rfl,Yt⟩,⟨rfl,hpl _⟩,⟨rfl,Yt⟩,⟨by show some _=some _; rw [hinc],Yt⟩,Yt⟩,Yt⟩
   · have h2 : ¬ p.1 = a := fun h => by rw [h] at hb; simp at hb
     exact⟨i+1,⟨by omega,hnext fun h=>h2 (by rw [← h])⟩,by omega,⟨⟨rfl,Yt⟩,⟨rfl,Yt⟩,⟨rfl,hpl _⟩,⟨rfl,Yt⟩,⟨by show some _=some _; rw [hinc],Yt⟩,Yt⟩,Yt⟩
 · have hil : i = l.length := by have := of_decide_eq_false hb; omega
   subst hil;rw [Y0q] at hno;clear hb;refine go ?_;exact Z5 rfl Yt (by rw [Y0w hno])
theorem Z2h (l:List Pr) (fl:Bool) (hl:Small l) (s:Nat) (hs:s<18446744073709551616):Spec Tryz.prog 54 [.vec (l.map prC) fl,.val (.int .u64 (s:Int))] (· = .val (.int .u64 (clo l s:Nat))):=by
 have hpl:∀ D,innLL D (l.map prC):=fun D=>Z9 (fun _ h=>h.elim) _ (Zh l);refine Yp ok54 fun C hC=>?_;refine go ?_;refine Zn hC (fun r=>1≤r∧r≤64) (fun r=>64-r) 0 (fun r => [(0,.vec (l.map prC) fl),(1,.val (.int .u64 (s:Int))),(5,.val (.int .u64 (cloTo l s r:Nat))),(6,.val (.int .i64 (r:Int)))]) (fun _=>[]) (Y0l _) 1 ⟨Y0m _,by decide⟩
  ⟨⟨rfl,hpl _⟩,⟨rfl,Yt⟩,⟨by rw [Zem]; rfl,Yt⟩,⟨rfl,Yt⟩,Yt⟩ Yt ?_
 rintro r ⟨hr1,hr⟩;have hinc:IntKind.i64.wrap ((r:Int)+1)=((r+1:Nat):Int):=Y0v _ ⟨by omega,by omega⟩;have hcur:=ZbA l s hr;have hstep:=Z7l l s r;refine gd 8 ⟨?_⟩;refine Zt rfl rfl rfl (fun hb=>?_) (fun hb=>?_)
 · have hrl : r < 64 := by have := Y0u hb; omega
   clear hb;have hor:=bits_or_u64_nat (cloTo l s r) (jun l r) hcur (Zbz l hrl);(refine go ?_;repeat' (apply B<;>intro hb<;>try cases hb))
   · rw [Z32 _ r hrl, Z33 _ r, Z65 _ r] at hb;rw [if_pos ⟨hb,hr1⟩] at hstep;refine Z6 (Z4O l fl hl r hr1 hrl) rfl rfl rfl ⟨Zh l,Yt,Yt⟩ rfl ?_;(refine go ?_;repeat' (apply B<;>intro hb<;>try cases hb));exact⟨r+1,⟨by omega,by omega⟩,by omega,⟨⟨rfl,hpl _⟩,⟨rfl,Yt⟩,⟨by rw [hstep,← hor]; rfl,Yt⟩,⟨by show some _=some _; rw [hinc],Yt⟩,Yt⟩,Yt⟩
   · rw [Z32 _ r hrl, Z33 _ r, Z65 _ r] at hb;rw [if_neg (fun h=>by rw [hb] at h; exact absurd h.1 (by decide))] at hstep;exact⟨r+1,⟨by omega,by omega⟩,by omega,⟨⟨rfl,hpl _⟩,⟨rfl,Yt⟩,⟨by rw [hstep]; rfl,Yt⟩,⟨by show some _=some _; rw [hinc],Yt⟩,Yt⟩,Yt⟩
 · have hrl : r = 64 := by have := of_decide_eq_false hb; omega
   subst hrl;clear hb;refine go ?_;exact Z5 rfl Yt rfl
def ltP (p q:Pr):Prop:=p.1<q.1 ∨ p.1=q.1∧p.2<q.2
instance (p q:Pr):Decidable (ltP p q):=inferInstanceAs (Decidable (_ ∨ _))
def Linked (l:List Pr) (p:Pr) (l':List Pr):Prop:=l'=l ∨ (p ∉ l∧∃ i,i≤l.length∧(∀ q∈l.take i,ltP q p)∧(∀ q,l[i]?=some q→¬ ltP q p)∧l'=l.take i++p :: l.drop i)
theorem Linked.sorted {l:List Pr} {p:Pr} {l':List Pr} (h:Linked l p l') (hs:SortedP l):SortedP l':=by
 rcases h with rfl|⟨hp,i,hi,h1,h2,rfl⟩
 · exact hs
 · have hd : SortedP (l.take i) ∧ SortedP (l.drop i) ∧ ∀ a ∈ l.take i, ∀ b ∈ l.drop i, ltP a b := by
    have:=hs;unfold SortedP at this;rw [← List.take_append_drop i l,List.pairwise_append] at this;exact this
   obtain⟨d1,d2,d3⟩:=hd;have h3:∀ q∈l.drop i,ltP p q:=by
    cases hdr:l.drop i with
    | nil=>intro q hq; cases hq
    | cons x r =>
      have hx:l[i]?=some x:=by
       have:=congrArg List.head? hdr;rw [List.head?_drop] at this;exact this
      have hne:x≠p:=fun e=>hp (by rw [← e]; exact List.mem_of_getElem? hx);have hpx:ltP p x:=by
       have h4:=h2 x hx;have h5:¬ (x.1=p.1∧x.2=p.2):=fun h=>hne (Prod.ext h.1 h.2);unfold ltP at h4 ⊢;omega
      intro q hq;rcases List.mem_cons.1 hq with rfl|hq
      · exact hpx
      · rw [hdr] at d2;have h6:ltP x q:=(List.pairwise_cons.1 d2).1 q hq;unfold ltP at hpx h6 ⊢;omega
   show List.Pairwise _ _;rw [List.pairwise_append];refine⟨d1,List.pairwise_cons.2 ⟨h3,d2⟩,fun a ha b hb=>?_⟩;rcases List.mem_cons.1 hb with rfl|hb
   · exact h1 a ha
   · exact d3 a ha b hb
theorem Linked.mem {l:List Pr} {p:Pr} {l':List Pr} (h:Linked l p l'):∀ q∈l',q∈l ∨ q=p:=by
 rcases h with rfl|⟨hp,i,hi,h1,h2,rfl⟩
 · exact fun q hq=>.inl hq
 · intro q hq;rcases Y0h.1 hq with hq|hq
   · exact .inl (List.mem_of_mem_take hq)
   · rcases List.mem_cons.1 hq with rfl | hq
     · exact .inr rfl
     · exact .inl (List.mem_of_mem_drop hq)
theorem Linked.len {l:List Pr} {p:Pr} {l':List Pr} (h:Linked l p l'):l'.length≤l.length+1:=by
 rcases h with rfl|⟨hp,i,hi,h1,h2,rfl⟩
 · omega
 · rw [Y0e,Y04,Y0o,List.length_drop]; omega
theorem ZcL (l:List Pr) (fl:Bool) (hl:Small l) (a b:Nat) (ha:1≤a∧a<64) (hb0:1≤b∧b<64) (hab:a≠b) (hlen:l.length≤100000):Spec Tryz.prog 51 [.vec (l.map prC) fl,.val (.int .i64 (a:Int)),.val (.int .i64 (b:Int))] fun r=>∃ l' fl' e,Linked l (a,b) l'∧r=.tup [.vec (l'.map prC) fl',.val (.int .i64 e)]:=by
 have hnl:=Z2b l;have hpl:∀ D,innLL D (l.map prC):=fun D=>Z9 (fun _ h=>h.elim) _ (Zh l);have hne:((a:Int) == (b:Int))=false:=by rw [beq_eq_false_iff_ne]; omega
 refine Yp ok51 fun C hC=>?_;refine go ?_;refine Z6 (Z4N a ha.1 ha.2) rfl rfl rfl ⟨Yt,Yt⟩ rfl ?_;refine go ?_;refine Z6 (Z4N b hb0.1 hb0.2) rfl rfl rfl ⟨Yt,Yt⟩ rfl ?_;refine gd 20 ⟨?_⟩;refine Zl rfl ?_;refine Z0 (Z1 rfl hne) rfl rfl ?_;refine go ?_;refine Z6 (Zep l fl a b) rfl rfl rfl ⟨Zh l,Yt,Yt,Yt⟩ rfl ?_;by_cases hin:(a,b)∈l
 · rw [decide_eq_true hin];refine go ?_;exact Z5 rfl ⟨Zh l,Yt,Yt⟩ ⟨l,fl,5,.inl rfl,rfl⟩
 rw [Y0w hin];refine go ?_;refine Z6 (Z8c l fl hl b a hb0.1 hb0.2 ha.1 ha.2) rfl rfl rfl ⟨Zh l,Yt,Yt,Yt⟩ rfl ?_;generalize (jun l b).testBit a=v;cases v
 case true =>
  refine go ?_;exact Z5 rfl ⟨Zh l,Yt,Yt⟩ ⟨l,fl,16,.inl rfl,rfl⟩
 refine gd 8 ⟨?_⟩;refine Z0 rfl rfl rfl ?_;refine Z1m ?_;refine Zhg (X:=Nat) hC (fun i=>i≤l.length∧(∀ q∈l.take i,ltP q (a,b))∧(∀ q,l[i]?=some q→¬ ltP q (a,b))) 0 (fun i => [(0,.vec (l.map prC) fl),(1,.val (.int .i64 (a:Int))),(2,.val (.int .i64 (b:Int))),(8,Yv i)]) (fun _=>[]) (Y0l _) ?_ ?_
 · refine go ?_;refine Zn hC (fun i=>i≤l.length∧∀ q∈l.take i,ltP q (a,b)) (fun i=>l.length-i) 0 (fun i => [(0,.vec (l.map prC) fl),(1,.val (.int .i64 (a:Int))),(2,.val (.int .i64 (b:Int))),(8,Yv i)]) (fun _=>[]) (Y0l _) 0 ⟨Y0l _,by simp⟩ ⟨⟨rfl,hpl _⟩,⟨rfl,Yt⟩,⟨rfl,Yt⟩,⟨rfl,Yt⟩,Yt⟩ Yt ?_;rintro i ⟨hi,hlt⟩;have hinc:IntKind.i64.wrap ((i:Int)+1)=((i+1:Nat):Int):=Y0v _ ⟨by omega,by omega⟩;refine gd 36 ⟨?_⟩;refine Zt rfl rfl rfl (fun hb=>?_) (fun hb=>?_)
   · rw [hnl] at hb;have hil:i<l.length:=by have:=Y0u hb; omega
     have htk:=Z7n hil;have hget:l[i]?=some l[i]:=Y0c hil;clear hb;refine gd 40 ⟨?_⟩;refine Zl rfl ?_;refine Z0 (Zo (xs:=l) (g:=prC) rfl rfl i rfl hil rfl) rfl rfl ?_;have ei:∀ {e:Env} {h:Heap} {x j:Operand} {n:Nat},ev e x=some (.vec (l.map prC) fl)→ev e j=some (Yv i)→dEval (.iaddr 2 x j) e h n=some (.cp (prC l[i]),h):=fun h1 h2=>Zo (xs:=l) (g:=prC) h1 h2 i rfl hil rfl;generalize l[i]=p at htk hget ei ⊢;have stop:¬ ltP p (a,b)→∀ q,l[i]?=some q→¬ ltP q (a,b):=fun h q hq=>by rw [hget] at hq; cases hq; exact h
     have more:ltP p (a,b)→∀ q∈l.take (i+1),ltP q (a,b):=fun h q hq=>by
      rw [htk] at hq;rcases Y0h.1 hq with hq|hq
      · exact hlt q hq
      · rw [Y0g] at hq; subst hq; exact h
     refine gd 44 ⟨?_⟩;refine Zl rfl ?_;refine Zt rfl rfl rfl (fun hb=>?_) (fun hb=>?_)
     · have h1 : p.1 < a := by have := Y0u hb; omega
       refine go ?_;exact⟨i+1,⟨by omega,more (.inl h1)⟩,by omega,⟨⟨rfl,hpl _⟩,⟨rfl,Yt⟩,⟨rfl,Yt⟩,⟨by show some _=some _; rw [hinc],Yt⟩,Yt⟩,Yt⟩
     · have h1 : ¬ p.1 < a := by have := of_decide_eq_false hb; omega
       refine gd 48 ⟨?_⟩;refine Zl rfl ?_;refine Z0 (ei rfl rfl) rfl rfl ?_;refine gd 52 ⟨?_⟩;refine Zl rfl ?_;refine Zt rfl rfl rfl (fun hb=>?_) (fun hb=>?_)
       · have h2 : p.1 = a := Int.ofNat_inj.1 (eq_of_beq hb);refine gd 56 ⟨?_⟩;refine Zl rfl ?_;refine Z0 (ei rfl rfl) rfl rfl ?_;refine gd 60 ⟨?_⟩;refine Zl rfl ?_;refine Zt rfl rfl rfl (fun hb=>?_) (fun hb=>?_)
         · have h3 : p.2 < b := by have := Y0u hb; omega
           refine go ?_;exact⟨i+1,⟨by omega,more (.inr ⟨h2,h3⟩)⟩,by omega,⟨⟨rfl,hpl _⟩,⟨rfl,Yt⟩,⟨rfl,Yt⟩,⟨by show some _=some _; rw [hinc],Yt⟩,Yt⟩,Yt⟩
         · have h3 : ¬ p.2 < b := by have := of_decide_eq_false hb; omega
           refine go ?_;exact⟨i,⟨hi,hlt,stop (by unfold ltP; show ¬ (p.1<a ∨ p.1=a∧p.2<b);omega)⟩,⟨⟨rfl,hpl _⟩,⟨rfl,Yt⟩,⟨rfl,Yt⟩,⟨rfl,Yt⟩,Yt⟩,Yt⟩
       · have h2 : ¬ p.1 = a := fun h => by rw [h] at hb; simp at hb
         refine go ?_;exact⟨i,⟨hi,hlt,stop (by unfold ltP; show ¬ (p.1<a ∨ p.1=a∧p.2<b);omega)⟩,⟨⟨rfl,hpl _⟩,⟨rfl,Yt⟩,⟨rfl,Yt⟩,⟨rfl,Yt⟩,Yt⟩,Yt⟩
   · rw [hnl] at hb;have hil:i=l.length:=by have:=of_decide_eq_false hb; omega
     clear hb;refine go ?_;exact⟨i,⟨hi,hlt,fun q hq=>by rw [hil,List.getElem?_eq_none (Y0m _)] at hq; cases hq⟩,⟨⟨rfl,hpl _⟩,⟨rfl,Yt⟩,⟨rfl,Yt⟩,⟨rfl,Yt⟩,Yt⟩,Yt⟩
 · rintro i ⟨hi, h1, h2⟩
   repeat' (first|refine Z60 [0,13] ?_|(first|refine st ?_|(apply B<;>intro hb<;>try cases hb)))
   refine ZfM rfl rfl rfl ?_;refine go ?_;have hm:∀ c∈l.map prC,c.length=2:=fun c hc=>by obtain⟨y,_,rfl⟩:=Y0i.1 hc; rfl
   have ht:(l.take i).length=i:=by rw [Y0o]; omega
   refine Ze (Z8M (xs:=l) (g:=prC) rfl 0 i rfl rfl (Y0l _) hi (fun _=>rfl)) rfl rfl ?_;rw [List.drop_zero]
   refine Ze (ZB (k:=0) (b:=⟨2,[]⟩) rfl rfl rfl (fun c hc=>hm c (by rw [List.map_take] at hc; exact List.mem_of_mem_take hc)) rfl (by
    show (0+((l.take i).map prC).length)*16≤_
    rw [Z2b];omega)) rfl rfl ?_
   refine gd 75 ⟨?_⟩
   refine Ze (ZB (k:=4) (m := [prC (a,b)]) (fl:=true) (b:=⟨2,[]++(l.take i).map prC⟩) rfl rfl rfl (fun c hc=>by rw [Y0g] at hc; subst hc; rfl) rfl (by
    show (([]++(l.take i).map prC).length+1)*16≤_
    rw [List.nil_append,Z2b];omega)) rfl rfl ?_
   refine gd 78 ⟨?_⟩;refine Ze (Z8M (xs:=l) (g:=prC) rfl i l.length rfl (by show some ((l.map prC).length:Int)=_; rw [hnl]) hi (Y0m _) (fun _=>rfl)) rfl rfl ?_;rw [Y0q];have hap:([]++(l.take i).map prC) ++ [prC (a,b)]++(l.drop i).map prC=(l.take i++(a,b) :: l.drop i).map prC:=by simp
   have hby:(([]++(l.take i).map prC ++ [prC (a,b)]).length+((l.drop i).map prC).length)*16≤140737488355328:=by
    rw [List.nil_append,Y0e,Y0s,Z2b,Z2b,List.length_drop]; omega
   have hpp:pureLL ([]++(l.take i).map prC ++ [prC (a,b)]++(l.drop i).map prC):=by rw [hap]; exact Zh _
   refine Z9Y (k:=9) (m:=(l.drop i).map prC) (fl:=false) (b:=⟨2,[]++(l.take i).map prC ++ [prC (a,b)]⟩) rfl rfl rfl (fun c hc=>hm c (by rw [List.map_drop] at hc; exact List.mem_of_mem_drop hc)) rfl hby hpp rfl rfl ?_;show dK _ _ _ _ (Env.upd _ 79 (.vec ([]++(l.take i).map prC ++ [prC (a,b)]++(l.drop i).map prC) false)) _ _;rw [hap];refine go ?_;exact Z5 rfl ⟨Zh _,Yt,Yt⟩ ⟨_,_,0,.inr ⟨hin,i,hi,h1,h2,rfl⟩,rfl⟩
theorem Z3T (N:Nat) (hN:N<18446744073709551616) (i:Nat) (hi:i<64):Spec Tryz.prog 15 [setN N,Yv i] (· = setN (N ||| 2 ^ i)):=by
 have h:=Z3q N (Y03 (Z2U hN) (by decide)) (i:Int);have e:withN N (i:Int)=N ||| 2 ^ i:=by
  unfold withN;rw [if_pos ⟨by omega,by omega⟩,Int.toNat_natCast]
 rw [e] at h;exact h
theorem ZN (l:List Nat):lowLL (words l)=words l:=by simp [words,Z7D,lowL,PV.low]
theorem Z18 (l:List Cu):pureLL (l.map cuC):=Za Zp l
theorem ZcN (xs:List Cu) (fl:Bool) (hlen:xs.length≤1000000):NSpec Tryz.prog 46 [.vec (xs.map cuC) fl] .own ⟨2,xs.map cuC⟩:=by
 refine Z1B ok46 (Nat.le_of_ble_eq_true rfl) fun C hC=>?_;have fin:∀ (x:Cu) (xs:List Cu),(∀ c∈(x :: xs).map cuC,c.length=2):=fun x xs c hc=>by obtain⟨y,_,rfl⟩:=Y0i.1 hc; rfl
 cases xs with
 | nil =>
   refine go ?_;refine Z5a (.inl ⟨_,_,rfl⟩) rfl fun b=>?_;cases b
   · repeat' (first | refine Zi (Zv (k := 5) rfl 2 (by decide)) ?_ | (first|refine st ?_|(apply B<;>intro hb<;>try cases hb)))
     exact⟨_,_,rfl,.inl rfl,_,rfl,rfl⟩
   · iterate 6 (first|refine st ?_|(apply B<;>intro hb<;>try cases hb))
     refine Z22 (Zv (k:=2) rfl 2 (by decide) _) ?_;refine go ?_;exact⟨_,_,rfl,.inl rfl,_,rfl,rfl⟩
 | cons x xs =>
   repeat' (first|refine Zi (Zv (k:=5) rfl 2 (by decide)) ?_|(first|refine st ?_|(apply B<;>intro hb<;>try cases hb)))
   refine ZD (ZB (k:=0) (m:=(x :: xs).map cuC) (fl:=fl) rfl rfl rfl (fin x xs) rfl (by
    show (([]:List (List PV)).length+((x :: xs).map cuC).length)*48≤_
    rw [Y0f,List.length_nil];omega)) rfl rfl ?_
   refine go ?_;exact⟨_,_,rfl,.inl rfl,_,rfl,by rw [List.nil_append]; rfl⟩
section
variable {e:Env} {h:Heap} {n:Nat}
end
theorem Zii {P:Program} {z:Rsv} {n i mask:Nat} {d:Option Nat} {e:Env} {h:Heap} {f:Operand} {args:List Operand} {iso:Nat} {alt:Bool} {xs:List DItem} {K:Env→Heap→Prop} {g:FuncId} {caps as0 args':List PV} {v:PV} (hs:Spec P g args' (· = v)) (hf:ev e f=some (.fn g caps)) (ha:evs e args=some as0) (ha':lowL (as0++caps)=args') (hp:pureL args') (hk:dK P z n xs (updO e d v) h K) :
 dK P z n (⟨i,⟨d,.call f args,none⟩,mask,iso,alt⟩ :: xs) e h K:=by
 subst ha';exact Z2r hf ha (.inr rfl) hs hp fun _ hr=>hr▸hk
def mentC (l:List Cu):Nat:=l.foldl (fun s c=>(s ||| c.1) ||| c.2) 0
theorem ZcO (l:List Cu) (c:Cu):mentC (l ++ [c])=(mentC l ||| c.1) ||| c.2:=by simp [mentC,List.foldl_append]
theorem ZcP {l:List Cu} {i:Nat} (hi:i<l.length):mentC (l.take (i+1))=(mentC (l.take i) ||| l[i].1) ||| l[i].2:=by
 have e:l.take (i+1)=l.take i ++ [l[i]]:=by rw [List.take_add_one,Y0c hi]; rfl
 rw [e,ZcO]
theorem ZbC:∀ (l:List Cu),(∀ c∈l,Ok64 c)→∀ s,s<18446744073709551616→l.foldl (fun s c=>(s ||| c.1) ||| c.2) s<18446744073709551616
 | [],_,s,hs=>hs
 | c :: l, h, s, hs => by
   rw [List.foldl_cons];have hc:=h c (Y0t ..);exact ZbC l (fun d hd=>h d (List.mem_cons_of_mem _ hd)) _ (Z43 (Z43 hs hc.1) hc.2)
theorem Z3U {l:List Cu} (h:∀ c∈l,Ok64 c):mentC l<18446744073709551616:=ZbC l h 0 (by decide)
theorem Z2v (l:List Cu) (fl:Bool) (hl:∀ c∈l,Ok64 c):Spec Tryz.prog 77 [.vec (l.map cuC) fl] (· = setN (mentC l)):=by
 have hnl:(l.map cuC).length=l.length:=by simp
 refine Yp ok77 fun C hC=>?_;refine Z2S (k:=0) rfl fun hmax=>?_;have hlm:l.length≤maxVec:=by simpa using hmax
 refine go ?_;refine Zn hC (fun (x:Nat×Bool)=>x.1≤l.length) (fun x=>l.length-x.1) 2 (fun x => [(2,.ptr 0 0 0),(3,.ptr 1 0 0),(6,.vec (l.map cuC) fl),(7,.val (.int .i64 (l.length:Int))),(8,.val (.int .i64 (x.1:Int)))])
  (fun x => [(0,⟨1,[[.vec [] true]]⟩),(1,⟨1,[[.vec (words (digs (mentC (l.take x.1)))) x.2]]⟩)]) (Y0l _) (0,true) (Y0l _)
  ⟨⟨rfl,show (0:Nat)<2 by decide⟩,⟨rfl,show (1:Nat)<2 by decide⟩,⟨rfl,Z9 (fun _ h=>h.elim) _ (Z18 l)⟩,⟨by rw [← hnl]; rfl,Yt⟩,⟨rfl,Yt⟩,Yt⟩
  ⟨⟨by decide,rfl,⟨Yt,Yt⟩,Yt⟩,⟨by decide,by rw [List.take_zero,mentC,List.foldl_nil,ZT]; rfl,⟨ZU _ _,Yt⟩,Yt⟩,Yt⟩ ?_
 rintro⟨i,b⟩ hi;dsimp only at hi ⊢;have hinc:IntKind.i64.wrap ((i:Int)+1)=((i+1:Nat):Int):=Y0v _ ⟨by omega,by simp only [maxVec] at hlm; omega⟩;have hlt:=Z3U fun c hc=>hl c (List.mem_of_mem_take (i:=i) hc);(refine go ?_;repeat' (apply B<;>intro hb<;>try cases hb))
 · have hil : i < l.length := by simpa using hb
   have hci:=hl _ (Y0j hil);refine Z0 (Zo (xs:=l) rfl rfl i rfl hil rfl) rfl rfl ?_;refine go ?_;refine Zii (Z1Y (mentC (l.take i)) l[i].1 hlt hci.1) rfl rfl (by show [PV.agg [PV.vec (lowLL (words _)) false],PV.agg [PV.vec (lowLL (words _)) false]]=_; rw [ZN,ZN]; rfl) ⟨Z3 _,Z3 _,Yt⟩ ?_;refine go ?_;refine Zy (Z1Y _ l[i].2 (Z43 hlt hci.1) hci.2) rfl rfl rfl ⟨Z3 _,Z3 _,Yt⟩ ?_;(refine go ?_;repeat' (apply B<;>intro hb<;>try cases hb))
   exact⟨(i+1,false),by show i+1≤_; omega,by show _-(i+1)<_-i; omega,
    ⟨⟨rfl,show (0:Nat)<2 by decide⟩,⟨rfl,show (1:Nat)<2 by decide⟩,⟨rfl,Z9 (fun _ h=>h.elim) _ (Z18 l)⟩,⟨rfl,Yt⟩,⟨by show some _=some _; rw [hinc],Yt⟩,Yt⟩,
    ⟨⟨by decide,rfl,⟨Yt,Yt⟩,Yt⟩,⟨by decide,by rw [ZcP hil]; rfl,⟨ZU _ _,Yt⟩,Yt⟩,Yt⟩⟩
 · have hil : i = l.length := by have := of_decide_eq_false hb; omega
   subst hil;rw [Y0q];refine Z1y rfl ⟨by show pureLL (lowLL (words _)); rw [ZN]; exact Zk _,Yt⟩ ?_;show PV.agg [PV.vec (lowLL (words _)) false]=_;rw [ZN]
   rfl
def fullL (l:List Cu):List Cu:=l.filter fun c => !emC c
def wholeE (l:List Cu):Int:=if (mentC (fullL l)).testBit 0=true then 1 else if 8<(mem (mentC (fullL l))).length then 3 else 0
end
section
open Go.RowKit
theorem tb {y i:Nat} (h:¬ y.testBit i=true):y.testBit i=false:=by simpa using h
theorem ZcQ (a s:Nat):a ||| s=s↔∀ i,a.testBit i=true→s.testBit i=true:=by
 constructor
 · intro h i hi;rw [← h,Y00,hi,Bool.true_or]
 · intro h;refine Nat.eq_of_testBit_eq fun i=>?_;rw [Y00];cases ha:a.testBit i with
   | false=>rfl
   | true=>rw [h i ha]; rfl
theorem Z8Z (a s:Nat):a &&& s=0↔∀ i,a.testBit i=true→s.testBit i=false:=by
 constructor
 · intro h i hi;have:=congrArg (·.testBit i) h;simp only [Y0z,hi,Bool.true_and,Nat.zero_testBit] at this;exact this
 · intro h;refine Nat.eq_of_testBit_eq fun i=>?_;rw [Y0z,Nat.zero_testBit];cases ha:a.testBit i with
   | false=>rfl
   | true=>rw [h i ha]; rfl
theorem Z7o (c:Cu) (s:Nat):hoC c s=true↔(∀ i,c.1.testBit i=true→s.testBit i=true)∧∀ i,c.2.testBit i=true→s.testBit i=false:=by
 unfold hoC;rw [Y0k,Bool.not_eq_true',decide_eq_true_iff,decide_eq_false_iff_not,Decidable.not_not,ZcQ,Z8Z]
section
variable {N:Nat} (hN:N<18446744073709551616)
include hN
end
theorem Zaw (c:Cu) (S:Nat):soC [c] S=hoC c S:=by simp [soC]
end
section
open Go.RowKit
attribute [local irreducible] aw opsK dK
def memTo (s k:Nat):List Nat:=(List.range k).filter fun i=>s.testBit i
theorem ZcR (s k:Nat):memTo s (k+1)=memTo s k++(if s.testBit k=true then [k] else []):=by
 unfold memTo;rw [List.range_succ,List.filter_append];cases h:s.testBit k<;>simp [h]
theorem Zeq (s k:Nat):(memTo s k).length≤k:=by
 have:=List.length_filter_le (fun i=>s.testBit i) (List.range k);rw [List.length_range] at this;exact this
theorem Z92 (l m:List Nat):intsN (l++m)=intsN l++intsN m:=by simp [intsN]
theorem Z6m (l m:List Int):nums (l++m)=nums l++nums m:=by simp [nums]
theorem Z8e (s:Nat) (hs:s<18446744073709551616):Spec Tryz.prog 33 [.val (.int .u64 (s:Int))] (· = .vec (nums (intsN (mem s))) false):=by
 refine Yp ok33 fun C hC=>?_
 repeat' (first|refine Zi (Zv (k:=3) rfl 1 (by decide)) ?_|(first|refine st ?_|(apply B<;>intro hb<;>try cases hb)))
 refine ZJ hC (fun (i:Nat)=>i≤64) (fun i=>64-i) 1 (fun i => [(0,.val (.int .u64 (s:Int))),(3,.own 0),(4,Yv i)])
  (fun i => [(0,⟨1,nums (intsN (memTo s i))⟩)]) (Y0l _) 0 (Y0l _) (fun i=>i) (fun _ _=>rfl) Zu
  ⟨⟨_,rfl,.pure _ Yt⟩,⟨_,rfl,.own 0 (by decide)⟩,⟨_,rfl,.pure _ Yt⟩,Yt⟩ ⟨⟨by decide,_,rfl,.same _ Yt⟩,Yt⟩ ?_
 intro i hi;have hinc:IntKind.i64.wrap ((i:Int)+1)=((i+1:Nat):Int):=Y0v _ ⟨by omega,by omega⟩;have hstep:=ZcR s i;have hlen:=Zeq s i
 iterate 4 (first|refine st ?_|(apply B<;>intro hb<;>try cases hb))
 refine Zt rfl rfl rfl (fun hb=>?_) (fun hb=>?_)
 · have hil : i < 64 := by have := Y0u hb; omega
   clear hb;(refine go ?_;repeat' (apply B<;>intro hb<;>try cases hb))
   · rw [Z32 s i hil, Z33 s i, Z65 s i] at hb;rw [if_pos hb] at hstep
     refine ZD (ZB (k:=0) (m:=nums [(i:Int)]) (fl:=true) rfl rfl rfl (fun c hc=>by obtain⟨y,_,rfl⟩:=Y0i.1 hc; rfl) rfl (by
      show ((nums (intsN (memTo s i))).length+(nums [(i:Int)]).length)*8≤_;simp [nums,intsN]
      omega)) rfl rfl ?_
     (refine go ?_;repeat' (apply B<;>intro hb<;>try cases hb))
     refine⟨i+1,mv 0 1,by omega,by omega,fun i hi=>absurd hi (Nat.not_lt_zero i),Zw rfl,
      ⟨⟨_,rfl,.pure _ Yt⟩,⟨_,rfl,.own 0 (by decide)⟩,⟨_,by show some _=some _; rw [hinc],.pure _ Yt⟩,Yt⟩,
      ⟨⟨by decide,_,rfl,?_⟩,Yt⟩⟩
     show RenB _ _ ⟨1,nums (intsN (memTo s i))++nums [(i:Int)]⟩ ⟨1,nums (intsN (memTo s (i+1)))⟩;rw [hstep,Z92,Z6m,show intsN [i] = [(i:Int)] from rfl];exact .same _ (by rw [← Z6m]; exact ZF _)
   · rw [Z32 s i hil, Z33 s i, Z65 s i] at hb;rw [if_neg (by rw [hb]; decide),Y0p] at hstep
     exact⟨i+1,fun i=>i,by omega,by omega,fun _ _=>rfl,Zu,
      ⟨⟨_,rfl,.pure _ Yt⟩,⟨_,rfl,.own 0 (by decide)⟩,⟨_,by show some _=some _; rw [hinc],.pure _ Yt⟩,Yt⟩,
      ⟨⟨by decide,_,rfl,by rw [hstep]; exact .same _ (ZF _)⟩,Yt⟩⟩
 · have hil : i = 64 := by have := of_decide_eq_false hb; omega
   subst hil;clear hb
   repeat' (first|refine Zi (Zq (k:=3) rfl rfl (ZF _)) ?_|(first|refine st ?_|(apply B<;>intro hb<;>try cases hb)))
   exact Z5 rfl (ZF _) rfl
theorem Zgd {N:Nat} (hN:N<18446744073709551616):maskTo (topOf (intsN (mem N))) (intsN (mem N))=N:=by
 have h1:∀ r∈intsN (mem N),0≤r∧r≤topOf (intsN (mem N)):=fun r hr=>by
  obtain⟨x,hx,rfl⟩:=Y0i.1 hr;have:=Z6a hx;exact⟨by omega,(Z90 _ (-1)).2 _ hr (by omega)⟩
 rw [maskTo,Z7p _ 0 h1];refine Nat.eq_of_testBit_eq fun i=>?_;rw [Bool.eq_iff_iff,Z91,← Z37 hN];simp only [Nat.zero_testBit,Bool.false_eq_true,false_or];constructor
 · rintro ⟨r, hr, h⟩;obtain⟨x,hx,rfl⟩:=Y0i.1 hr;rw [← h];simpa using hx
 · intro h;exact⟨(i:Int),Y0i.2 ⟨i,h,rfl⟩,by simp⟩
theorem Z5c (s:Nat) (hs:s<18446744073709551616):Spec Tryz.prog 11 [.val (.int .u64 (s:Int))] (· = setN s):=by
 refine Yp ok11 fun C hC=>?_;refine go ?_;refine Z6 (Z8e s hs) rfl rfl rfl ⟨Yt,Yt⟩ rfl ?_;refine Z6 (Za6 (intsN (mem s)) false) rfl rfl rfl ⟨ZF _,Yt⟩ rfl ?_;rw [Zgd hs];refine go ?_;exact Z5 rfl (Z3 _) rfl
def raC (c:Cu):List PV := [.val (.int .u64 (c.1:Int)),.val (.int .u64 (c.2:Int))]
theorem Z1j (c:Cu):pureL (raC c):=⟨Yt,Yt,Yt⟩
theorem Z6n (c:Cu) (hc:Ok64 c):Spec Tryz.prog 56 [.agg (raC c)] (· = cuP c):=by
 refine Yp ok56 fun C hC=>?_;refine Zs ?_;refine Zc ?_;refine Z4 rfl rfl rfl ?_;refine go ?_;refine Zy (Z5c c.1 hc.1) rfl rfl rfl ⟨Yt,Yt⟩ ?_;refine go ?_;refine Zy (Z5c c.2 hc.2) rfl rfl rfl ⟨Yt,Yt⟩ ?_;refine go ?_;exact Z5 (r:=cuP c) rfl (Z39 c) rfl
theorem Z3v (l:List Cu) (fl:Bool) (hl:∀ c∈l,Ok64 c) (hlen:l.length≤1000000):Spec Tryz.prog 23 [.vec (l.map raC) fl] (· = .vec (l.map cuC) false):=by
 have hnl:(l.map raC).length=l.length:=by simp
 have hrp:∀ m,innLL m (l.map raC):=fun m=>Z9 (fun _ h=>h.elim) _ (Za Z1j l);refine Yp ok23 fun C hC=>?_
 repeat' (first|refine Zi (Zv (k:=3) rfl 2 (by decide)) ?_|(first|refine st ?_|(apply B<;>intro hb<;>try cases hb)))
 refine ZJ hC (fun (i:Nat)=>i≤l.length) (fun i=>l.length-i) 1 (fun i => [(3,.own 0),(6,.vec (l.map raC) fl),(7,.val (.int .i64 (l.length:Int))),(8,Yv i)])
  (fun i => [(0,⟨2,(l.take i).map cuC⟩)]) (Y0l _) 0 (Y0l _) (fun i=>i) (fun _ _=>rfl) Zu
  ⟨⟨_,rfl,.own 0 (by decide)⟩,⟨_,rfl,.pure _ (hrp _)⟩,⟨_,by rw [← hnl]; rfl,.pure _ Yt⟩,⟨_,rfl,.pure _ Yt⟩,Yt⟩ ⟨⟨by decide,_,rfl,.same _ Yt⟩,Yt⟩ ?_
 intro i hi;have hinc:IntKind.i64.wrap ((i:Int)+1)=((i+1:Nat):Int):=Y0v _ ⟨by omega,by omega⟩
 iterate 2 (first|refine st ?_|(apply B<;>intro hb<;>try cases hb))
 refine Zt rfl rfl rfl (fun hb=>?_) (fun hb=>?_)
 · have hil : i < l.length := by have := Y0u hb; omega
   have htake:l.take (i+1)=l.take i ++ [l[i]]:=by rw [List.take_add_one,Y0c hil]; rfl
   clear hb;refine go ?_;refine Z0 (Zo (xs:=l) rfl rfl i rfl hil rfl) rfl rfl ?_;refine go ?_;refine Z6 (Z6n l[i] (hl _ (Y0j hil))) rfl rfl rfl ⟨Z1j _,Yt⟩ rfl ?_;refine go ?_
   refine ZD (ZB (k:=0) (m := [cuC l[i]]) (fl:=true) rfl rfl rfl (fun c hc=>by rw [Y0g] at hc; subst hc; rfl) rfl (by
    show (((l.take i).map cuC).length+1)*48≤_;rw [Y0f,Y0o]
    omega)) rfl rfl ?_
   refine go ?_
   refine⟨i+1,mv 0 2,by omega,by omega,fun i hi=>absurd hi (Nat.not_lt_zero i),Zw rfl,
    ⟨⟨_,rfl,.own 0 (by decide)⟩,⟨_,rfl,.pure _ (hrp _)⟩,⟨_,rfl,.pure _ Yt⟩,⟨_,by show some _=some _; rw [hinc],.pure _ Yt⟩,Yt⟩,
    ⟨⟨by decide,_,rfl,?_⟩,Yt⟩⟩
   show RenB _ _ ⟨2,(l.take i).map cuC ++ [cuC l[i]]⟩ ⟨2,(l.take (i+1)).map cuC⟩;rw [htake,Y0r];exact .same _ (by rw [← List.map_singleton,← Y0r]; exact Z18 _)
 · have hil : i = l.length := by have := of_decide_eq_false hb; omega
   subst hil;clear hb;rw [Y0q]
   repeat' (first|refine Zi (Zq (k:=3) rfl rfl (Z18 _)) ?_|(first|refine st ?_|(apply B<;>intro hb<;>try cases hb)))
   exact Z5 rfl (Z18 _) rfl
theorem Zer (a s:Nat):s &&& a=a↔a ||| s=s:=by
 constructor
 · intro h;refine Nat.eq_of_testBit_eq fun i=>?_;have:=congrArg (·.testBit i) h;simp only [Y0z] at this;rw [Y00];cases h1:a.testBit i<;>cases h2:s.testBit i<;>simp_all
 · intro h;refine Nat.eq_of_testBit_eq fun i=>?_;have:=congrArg (·.testBit i) h;simp only [Y00] at this;rw [Y0z];cases h1:a.testBit i<;>cases h2:s.testBit i<;>simp_all
theorem Z28 (c:Cu) (s:Nat) (hc:Ok64 c) (hs:s<18446744073709551616):Spec Tryz.prog 53 [.agg (raC c),.val (.int .u64 (s:Int))] (· = .val (.bool (hoC c s))):=by
 refine Yp ok53 fun C hC=>?_;have h1:=bits_and_u64_nat s c.1 hs hc.1;have h2:=bits_and_u64_nat s c.2 hs hc.2;have e1:(((s &&& c.1:Nat):Int) == (c.1:Int))=decide (c.1 ||| s=s):=by
  rw [Bool.eq_iff_iff,beq_iff_eq,decide_eq_true_iff,← Zer]; omega
 have e2:(((s &&& c.2:Nat):Int) == 0) = !decide (c.2 &&& s≠0):=by
  rw [Nat.and_comm s c.2,Bool.eq_iff_iff,beq_iff_eq]; simp
 refine Zs ?_;refine Zc ?_;refine Z4 rfl rfl rfl ?_;(refine go ?_;repeat' (apply B<;>intro hb<;>try cases hb))
 · rw [h1, e1] at *;rw [h2,e2] at hb;exact Z5 rfl Yt (boolE (by unfold hoC; simp_all))
 · rw [h1, e1] at *;rw [h2,e2] at hb;exact Z5 rfl Yt (boolE (by unfold hoC; simp_all))
 · rw [h1, e1] at hb;exact Z5 rfl Yt (boolE (by unfold hoC; simp_all))
theorem Z19 (l:List Cu) (D:Nat→Prop):innLL D (l.map raC):=Z9 (fun _ h=>h.elim) _ (Za Z1j l)
theorem Z13 (l:List Cu):pureLL (l.map raC):=Za Z1j l
theorem Z2w (l:List Cu) (fl:Bool) (s:Nat) (hl:∀ c∈l,Ok64 c) (hs:s<18446744073709551616):Spec Tryz.prog 82 [.vec (l.map raC) fl,.val (.int .u64 (s:Int))] (· = .val (.bool (soC l s))):=by
 have hnl:(l.map raC).length=l.length:=by simp
 refine Yp ok82 fun C hC=>?_;refine Z2S (k:=0) rfl fun hmax=>?_;have hlm:l.length≤maxVec:=by rw [hnl] at hmax; exact hmax
 refine go ?_;refine Zn hC (fun i=>i≤l.length∧(l.take i).any (fun c=>hoC c s)=false) (fun i=>l.length-i) 0 (fun i => [(1,.val (.int .u64 (s:Int))),(7,.vec (l.map raC) fl),(8,.val (.int .i64 (l.length:Int))),(9,Yv i)]) (fun _=>[]) (Y0m _) 0 ⟨Y0l _,rfl⟩
  ⟨⟨rfl,Yt⟩,⟨rfl,Z19 l _⟩,⟨by rw [← hnl]; rfl,Yt⟩,⟨rfl,Yt⟩,Yt⟩ Yt ?_
 rintro i ⟨hi,hno⟩;have hinc:IntKind.i64.wrap ((i:Int)+1)=((i+1:Nat):Int):=Y0v _ ⟨by omega,by simp only [maxVec] at hlm; omega⟩
 iterate 2 (first|refine st ?_|(apply B<;>intro hb<;>try cases hb))
 refine Zt rfl rfl rfl (fun hb=>?_) (fun hb=>?_)
 · have hil : i < l.length := by have := Y0u hb; omega
   clear hb;refine go ?_;refine Z0 (Zo (xs:=l) rfl rfl i rfl hil rfl) rfl rfl ?_;refine go ?_;refine Z6 (Z28 l[i] s (hl _ (Y0j hil)) hs) rfl rfl rfl ⟨Z1j _,Yt,Yt⟩ rfl ?_;cases hh:hoC l[i] s
   · refine go ?_;exact⟨i+1,⟨by omega,Z38 hil hno hh⟩,by omega,⟨⟨rfl,Yt⟩,⟨rfl,Z19 l _⟩,⟨rfl,Yt⟩,⟨by show some _=some _; rw [hinc],Yt⟩,Yt⟩,Yt⟩
   · refine go ?_;exact Z5 rfl Yt (boolE (by rw [soC,Y01.2 ⟨l[i],Y0j hil,hh⟩]))
 · have hil : i = l.length := by have := of_decide_eq_false hb; omega
   subst hil;clear hb;rw [Y0q] at hno;refine go ?_;exact Z5 rfl Yt (boolE hno.symm)
abbrev RawX:=Nat×Nat×Bool
def rawC (x:RawX):List PV := [.val (.int .u8 (x.1:Int)),.val (.int .u8 (x.2.1:Int)),.val (.bool x.2.2)]
def RawXok (x:RawX):Prop:=x.1<256∧x.2.1<256
def makC (a b:Nat):Cu:=(2*(a &&& b &&& 63),2*(a &&& 63 &&& (255-b)))
theorem Z7q (a b:Nat) (ha:a<256) (hb:b<256):bits .and .u8 (a:Int) (b:Int)=((a &&& b:Nat):Int):=by
 have h1:(BitVec.ofInt 8 (a:Int)).toNat=a:=by rw [BitVec.ofInt_natCast,BitVec.toNat_ofNat]; exact Nat.mod_eq_of_lt (by omega)
 have h2:(BitVec.ofInt 8 (b:Int)).toNat=b:=by rw [BitVec.ofInt_natCast,BitVec.toNat_ofNat]; exact Nat.mod_eq_of_lt (by omega)
 show IntKind.u8.wrap ((BitVec.ofInt 8 (a:Int) &&& BitVec.ofInt 8 (b:Int)).toNat:Int)=_;rw [BitVec.toNat_and,h1,h2];have:a &&& b≤a:=Nat.and_le_left;exact IntWalk.u8_in _ ⟨by omega,by omega⟩
theorem ZbD (a:Nat) (ha:a<256):IntKind.u64.wrap (IntKind.u64.wrap (a:Int)*2 ^ (min (1:Int).toNat IntKind.u64.bits))=((2*a:Nat):Int):=by
 rw [Y0x (a:Int) ⟨by omega,by omega⟩];show IntKind.u64.wrap ((a:Int)*2)=_;rw [Y0x _ ⟨by omega,by omega⟩];omega
theorem Z5v (a b:Nat) (ha:a<256) (hb:b<256):Spec Tryz.prog 57 [.val (.int .u8 (a:Int)),.val (.int .u8 (b:Int))] (· = .agg (raC (makC a b))):=by
 have e1:a &&& b≤a:=Nat.and_le_left;have e2:a &&& 63≤a:=Nat.and_le_left;have e3:a &&& b &&& 63≤a &&& b:=Nat.and_le_left;have e4:a &&& 63 &&& (255-b)≤a &&& 63:=Nat.and_le_left;have hs:IntKind.u8.wrap (255-(b:Int))=((255-b:Nat):Int):=by rw [IntWalk.u8_in _ ⟨by omega,by omega⟩]; omega
 have hx:IntKind.u64.wrap (IntKind.u64.wrap (bits .and .u8 (bits .and .u8 (a:Int) (b:Int)) 63)*2 ^ (min (1:Int).toNat IntKind.u64.bits))=((2*(a &&& b &&& 63):Nat):Int):=by
  rw [Z7q a b ha hb,show (63:Int)=((63:Nat):Int) from rfl,Z7q _ 63 (by omega) (by decide)];exact ZbD _ (by omega)
 have hy:IntKind.u64.wrap (IntKind.u64.wrap (bits .and .u8 (bits .and .u8 (a:Int) 63) (IntKind.u8.wrap (255-(b:Int))))*2 ^ (min (1:Int).toNat IntKind.u64.bits))=((2*(a &&& 63 &&& (255-b)):Nat):Int):=by
  rw [hs,show (63:Int)=((63:Nat):Int) from rfl,Z7q a 63 ha (by decide),Z7q _ _ (by omega) (by omega)];exact ZbD _ (by omega)
 refine Yp ok57 fun C hC=>?_;refine go ?_;refine Z5 rfl ⟨Yt,Yt,Yt⟩ ?_;show PV.agg [.val (.int .u64 _),.val (.int .u64 _)]=PV.agg [.val (.int .u64 _),.val (.int .u64 _)];rw [hx,hy]
 rfl
end
section
open Go.RowKit
theorem orSub {a b:Nat}:a ||| b=b↔∀ i,a.testBit i=true→b.testBit i=true:=by
 constructor
 · intro h i hi;rw [← h,Y00,hi,Bool.true_or]
 · intro h;refine Nat.eq_of_testBit_eq fun i=>?_;rw [Y00];cases hi:a.testBit i with
   | true=>rw [h i hi]; rfl
   | false=>rw [Bool.false_or]
theorem Zge {a b:Nat}:a &&& b=0↔∀ i,a.testBit i=true→b.testBit i=false:=by
 constructor
 · intro h i hi;have h1:=congrArg (·.testBit i) h;simp only [Y0z,hi,Bool.true_and,Nat.zero_testBit] at h1;exact h1
 · intro h;refine Nat.eq_of_testBit_eq fun i=>?_;rw [Y0z,Nat.zero_testBit];cases hi:a.testBit i with
   | true=>rw [h i hi]; rfl
   | false=>rw [Bool.false_and]
structure RU where
 rev:Bool
 cu:Cu
 tg:Nat
 og:Nat
structure PB where
 n:Nat
 l:List Pr
 st:Nat
 rs:List RU
 nv:List Cu
 gl:List Cu
def mkN (n:Nat):Nat:=2*2 ^ n-2
theorem Z2N (n i:Nat):(mkN n).testBit i=(decide (1≤i)&&decide (i≤n)):=by
 have e:mkN n=2*(2 ^ n-1):=by unfold mkN; have:=Nat.two_pow_pos n; omega
 rw [e];cases i with
 | zero=>simp [Nat.testBit_zero,Nat.mul_mod_right]
 | succ i =>
   rw [Nat.testBit_succ,show 2*(2 ^ n-1) / 2=2 ^ n-1 by omega,Nat.testBit_two_pow_sub_one];simp;omega
theorem Z6o {n:Nat} (h:n≤63):mkN n<18446744073709551616:=by
 have:2 ^ n≤2 ^ 63:=Nat.pow_le_pow_right (by decide) h;unfold mkN;omega
structure InC (n:Nat) (c:Cu):Prop where
 y:c.1 ||| mkN n=mkN n
 n:c.2 ||| mkN n=mkN n
 e:emC c=false
def InM (m:Nat) (c:Cu):Prop:=c.1 ||| m=m∧c.2 ||| m=m
structure RuOk (n:Nat) (r:RU):Prop where
 cu:InC n r.cu
 m:InM 62 r.cu
 tg:1≤r.tg∧r.tg≤n∧r.tg≤5
 rv:r.rev=true→r.cu=(0,0)
structure PbOk (t:PB):Prop where
 n:1≤t.n∧t.n≤63
 good:GoodL t.l
 lk:∀ p∈t.l,p.1≤t.n∧p.2≤t.n∧p.1≤5∧p.2≤5
 st:t.st ||| mkN t.n=mkN t.n
 rl:t.rs.length≤64
 rs:∀ r∈t.rs,RuOk t.n r
 nl:t.nv.length≤64
 nv:∀ c∈t.nv,InC t.n c∧InM 62 c
 gk:t.gl.length≤64
 gl:∀ c∈t.gl,InC t.n c∧InM 62 c
 sg:soC t.nv (clo t.l t.st)=false
theorem InC.lt {n:Nat} {c:Cu} (h:InC n c) (hn:n≤63):Ok64 c:=by
 have h1:c.1≤mkN n:=by rw [← h.y]; exact Nat.left_le_or
 have h2:c.2≤mkN n:=by rw [← h.n]; exact Nat.left_le_or
 have:=Z6o hn;exact⟨by omega,by omega⟩
noncomputable def sen (l:List Pr) (r:Nat):Nat:=abv l r ||| 2 ^ r
theorem Z3w {l:List Pr} (hl:Small l) (r a:Nat):(sen l r).testBit a=true↔Up l a r ∨ a=r:=by
 unfold sen;rw [Y00,Bool.or_eq_true,Z6b hl,Nat.testBit_two_pow,Y0n,eq_comm (a:=r)]
theorem Zes (l:List Pr) (hl:Small l) {r:Nat} (hr:r<64):sen l r<18446744073709551616:=by
 refine Nat.lt_pow_two_of_testBit (n:=64) _ fun i hi=>?_;refine Bool.eq_false_iff.2 fun hb=>?_;rcases (Z3w hl r i).1 hb with h1|h1
 · have:=(h1.lt hl).1; omega
 · omega
theorem Zhs {l:List Pr} (hl:Small l) {s:Nat} (hs:s<18446744073709551616) (r:Nat):(clo l s).testBit r=true↔∃ a,s.testBit a=true∧1≤a∧(sen l r).testBit a=true:=by
 rw [Zen s r hs];constructor
 · rintro ⟨a, h1, h2, h3⟩;exact⟨a,h1,h2,(Z3w hl r a).2 ((Z6k hl a r).1 h3 |>.imp (fun h=>h) fun h=>h.symm)⟩
 · rintro ⟨a, h1, h2, h3⟩;exact⟨a,h1,h2,(Z6k hl a r).2 ((Z3w hl r a).1 h3 |>.imp (fun h=>h) fun h=>h.symm)⟩
theorem InM.lt {m:Nat} {c:Cu} (h:InM m c) (hm:m<18446744073709551616):Ok64 c :=
 ⟨Y02 (by rw [← h.1]; exact Nat.left_le_or) hm,Y02 (by rw [← h.2]; exact Nat.left_le_or) hm⟩
noncomputable def goodB (t:PB) (s:Nat):Bool := !soC t.nv (clo t.l s)
noncomputable def reachB (t:PB) (s:Nat):Bool:=soC t.gl (clo t.l s)
def nextR (r:RU) (s:Nat):Nat:=if r.rev then minusN s (2 ^ r.tg) else s ||| 2 ^ r.tg
noncomputable def stepR (t:PB) (r:RU) (s:Nat):Bool:=decide (nextR r s≠s)&&(goodB t (nextR r s)&&(r.rev||hoC r.cu (clo t.l s)))
def InS (t:PB) (s:Nat):Prop:=s ||| mkN t.n=mkN t.n
theorem InS.lt {t:PB} (hn:t.n≤63) {s:Nat} (h:InS t s):s<18446744073709551616:=by
 have h1:s≤mkN t.n:=by rw [← h]; exact Nat.left_le_or
 have:=Z6o hn;omega
theorem Z6p {r:RU} (hr:r.tg<64) {s:Nat} (hs:s<18446744073709551616) (i:Nat):(nextR r s).testBit i=if i=r.tg then !r.rev else s.testBit i:=by
 unfold nextR;cases hv:r.rev with
 | true =>
   rw [if_pos rfl,ZA hs (ZG hr),Nat.testBit_two_pow];by_cases hi:i=r.tg
   · subst hi; simp
   · rw [if_neg hi,Y0w (fun h=>hi h.symm)]; simp
 | false =>
   rw [if_neg (by decide),Y00,Nat.testBit_two_pow];by_cases hi:i=r.tg
   · subst hi; simp
   · rw [if_neg hi,Y0w (fun h=>hi h.symm),Bool.or_false]
theorem Zgf {t:PB} {r:RU} (h1:1≤r.tg) (h2:r.tg≤t.n) (hn:t.n≤63) {s:Nat} (hs:InS t s):InS t (nextR r s):=by
 refine orSub.2 fun i hi=>?_;rw [Z6p (by omega) (hs.lt hn)] at hi;by_cases he:i=r.tg
 · rw [Z2N,decide_eq_true (show 1≤i by omega),decide_eq_true (show i≤t.n by omega)]; rfl
 · rw [if_neg he] at hi;exact orSub.1 hs i hi
theorem Zgg {r:RU} (hr:r.tg<64) {s:Nat} (hs:s<18446744073709551616):nextR r s≠s↔s.testBit r.tg=r.rev:=by
 constructor
 · intro h;apply Classical.byContradiction;intro he;refine h (Nat.eq_of_testBit_eq fun i=>?_);rw [Z6p hr hs];by_cases hi:i=r.tg
   · subst hi; rw [if_pos rfl]
     revert he
     cases s.testBit r.tg<;>cases r.rev<;>decide
   · rw [if_neg hi]
 · intro h he;have:=Z6p hr hs r.tg;rw [he,if_pos rfl,h] at this
   revert this
   cases r.rev<;>decide
end
section
open Go.RowKit
attribute [local irreducible] aw opsK dK
theorem ZO (l:List Nat) (hl:Bytes l) (fl:Bool) (t:Nat) (ht:t≤1099511627776):PSpec Tryz.prog 50 (srcB l fl t) [] fun r b'=>∃ v:Nat,v≤255∧r=.val (.int .i64 (v:Int))∧b'=srcB l fl (t+1):=by
 refine Z1z ok50 (Nat.le_of_ble_eq_true rfl) fun C hC=>?_;have hll:(bys l).length=l.length:=by simp [bys]
 have hinc:IntKind.i64.wrap ((t:Int)+1)=((t+1:Nat):Int):=Y0v _ ⟨by omega,by omega⟩;have hdec:IntKind.i64.wrap (((t+1:Nat):Int)-1)=(t:Int):=by rw [show ((t+1:Nat):Int)-1=(t:Int) by omega]; exact Z7U _ (by omega)
 iterate 10 (first|refine st ?_|(apply B<;>intro hb<;>try cases hb))
 refine Z8 rfl rfl rfl hinc ?_;(refine go ?_;repeat' (apply B<;>intro hb<;>try cases hb))
 · refine Zia rfl Yt rfl (ZC l fl (t+1)) ⟨0,by omega,rfl,rfl⟩
 · have htl : t < l.length := by simp [hll] at hb; omega
   rw [hdec];refine Ze (Zo (xs:=l) rfl rfl t rfl htl rfl) rfl rfl ?_;refine go ?_;have hx:=hl l[t] (Y0j _);refine Zia rfl Yt rfl (ZC l fl (t+1)) ⟨l[t],hx,?_,rfl⟩;rw [Z7U _ (by omega)]
theorem Zet (a b:Nat) (ha:a<256) (hb:b<256):bits .andNot .u8 (a:Int) (b:Int)=((minusN a b:Nat):Int):=by
 have hx:minusN a b≤a:=Nat.and_le_left;have h1:(BitVec.ofInt 8 (a:Int)).toNat=a:=by
  rw [BitVec.ofInt_natCast,BitVec.toNat_ofNat]; exact Nat.mod_eq_of_lt (by omega)
 have h2:(~~~(BitVec.ofInt 8 (b:Int))).toNat=255-b:=by
  rw [BitVec.toNat_not,BitVec.ofInt_natCast,BitVec.toNat_ofNat,Nat.mod_eq_of_lt (by omega)]
 have h3:a &&& (255-b)=minusN a b:=by
  refine Nat.eq_of_testBit_eq fun i=>?_;rw [ZA (by omega) (by omega),Y0z];have h:=Nat.testBit_two_pow_sub_succ (n:=8) (show b<2 ^ 8 by omega) i;rw [show (2:Nat) ^ 8-(b+1)=255-b by omega] at h;rw [h];by_cases hi:i<8
  · simp [hi]
  · have : a.testBit i = false := Nat.testBit_lt_two_pow (Nat.lt_of_lt_of_le (show a < 2 ^ 8 by omega) (Nat.pow_le_pow_right (by decide) (by omega)));simp [this]
 show IntKind.u8.wrap ((BitVec.ofInt 8 (a:Int) &&& ~~~(BitVec.ofInt 8 (b:Int))).toNat:Int)=_;rw [BitVec.toNat_and,h1,h2,h3];exact IntWalk.u8_in _ ⟨by omega,by omega⟩
theorem Zeu (a m:Nat):a &&& m ||| m=m:=orSub.2 fun i hi=>by
 rw [Y0z,Y0k] at hi;exact hi.2
theorem Zht (X Y:Int) (m:Nat) (hm:m<256):∃ c:Cu,InM m c∧emC c=false∧([.val (.int .u64 (IntKind.u64.wrap (bits .and .u8 X (m:Int)))),.val (.int .u64 (IntKind.u64.wrap (bits .andNot .u8 (bits .and .u8 Y (m:Int)) (bits .and .u8 X (m:Int)))))]:List PV)=raC c:=by
 have hA:∀ X:Int,∃ a:Nat,a<256∧bits .and .u8 X (m:Int)=((a &&& m:Nat):Int):=fun X=>by
  refine⟨(BitVec.ofInt 8 X).toNat,(BitVec.ofInt 8 X).isLt,?_⟩;rw [← Z7q _ _ (BitVec.ofInt 8 X).isLt hm];show IntKind.u8.wrap ((BitVec.ofInt 8 X &&& BitVec.ofInt 8 (m:Int)).toNat:Int)=IntKind.u8.wrap ((BitVec.ofInt 8 ((BitVec.ofInt 8 X).toNat:Int) &&& BitVec.ofInt 8 (m:Int)).toNat:Int);rw [show BitVec.ofInt 8 ((BitVec.ofInt 8 X).toNat:Int)=BitVec.ofInt 8 X by rw [BitVec.ofInt_natCast,BitVec.ofNat_toNat,BitVec.setWidth_eq]]
 obtain⟨a,ha,ea⟩:=hA X;obtain⟨b,hb,eb⟩:=hA Y;have h1:a &&& m<256:=Y02 Nat.and_le_left ha;have h2:b &&& m<256:=Y02 Nat.and_le_left hb;have h3:minusN (b &&& m) (a &&& m)≤b &&& m:=Nat.and_le_left;rw [ea,eb,Zet _ _ h2 h1,Y0x _ ⟨by omega,by omega⟩,Y0x _ ⟨by omega,by omega⟩];refine⟨(a &&& m,minusN (b &&& m) (a &&& m)),⟨Zeu a m,orSub.2 fun i hi=>?_⟩,?_,rfl⟩
 · show m.testBit i = true;have hi:(minusN (b &&& m) (a &&& m)).testBit i=true:=hi;rw [ZA (by omega) (by omega),Y0k,Y0z,Y0k] at hi;exact hi.1.2
 · unfold emC;refine Y0w fun hn=>hn (Zge.2 fun i hi=>?_);show (minusN (b &&& m) (a &&& m)).testBit i=false;rw [ZA (by omega) (by omega),show (a &&& m).testBit i=true from hi];simp
theorem Z5d (x y:Int) (m:Nat) (hm:m<256):Spec Tryz.prog 52 [.val (.int .i64 x),.val (.int .i64 y),.val (.int .u8 (m:Int))] fun r=>∃ c:Cu,InM m c∧emC c=false∧r=.agg (raC c):=by
 refine Yp ok52 fun C hC=>?_;refine go ?_;obtain⟨c,h1,h2,h3⟩:=Zht (bits .and .u8 (IntKind.u8.wrap x) (IntKind.u8.wrap (bits .or .i64 (x.fdiv (2 ^ (min (1:Int).toNat IntKind.i64.bits))) (IntKind.i64.wrap (x*2 ^ (min (3:Int).toNat IntKind.i64.bits)))))) (bits .and .u8 (IntKind.u8.wrap y) (IntKind.u8.wrap (bits .or .i64 (y.fdiv (2 ^ (min (2:Int).toNat IntKind.i64.bits))) (IntKind.i64.wrap (y*2 ^ (min (1:Int).toNat IntKind.i64.bits)))))) m hm;refine Z5 rfl ⟨Yt,Yt,Yt⟩ ⟨c,h1,h2,?_⟩;exact congrArg PV.agg h3
noncomputable def hierP (l:List Pr) (S:List Nat):PV:=.cp [.cp (ordC l S)]
theorem ZE (l:List Pr) (S:List Nat):(hierP l S).pure:=⟨Z17 l S,Yt⟩
theorem Z5w:Spec Tryz.prog 18 [] fun r=>∃ S,r=hierP [] S:=by
 refine Yp ok18 fun C hC=>?_;refine go ?_;refine ZH rfl rfl (Z8Y [] true (fun p hp=>by cases hp) List.nodup_nil ⟨fun _=>0,fun p hp=>by cases hp⟩ (by decide)) ⟨Yt,Yt,Yt⟩ rfl ?_;rintro r ⟨l',o,h1,h2,⟨S',rfl⟩,rfl⟩;obtain rfl:=List.Perm.eq_nil h1;refine gd 9 ⟨?_⟩;refine Z4 rfl rfl rfl ?_;refine go ?_;exact Z5 rfl (ZE [] S') ⟨S',rfl⟩
theorem Z7r (a:Int):Spec Tryz.prog 113 [.val (.int .i64 a)] (· = .val (.bool (decide (1≤a)&&decide (a≤63)))):=by
 refine Yp ok113 fun C hC=>?_;(refine go ?_;repeat' (apply B<;>intro hb<;>try cases hb))
 all_goals exact Z5 rfl Yt (by simp_all<;>omega)
theorem Z6q (a:Nat) (h1:1≤a) (h2:a<64):Spec Tryz.prog 113 [.val (.int .i64 (a:Int))] (· = .val (.bool true)):=by
 have:=Z7r (a:Int)
 rwa [decide_eq_true (show (1:Int)≤a by omega),decide_eq_true (show (a:Int)≤63 by omega)] at this
theorem Zev (l:List Pr) (S:List Nat) (a b:Nat) (ha:1≤a∧a<64) (hb:1≤b∧b<64) (hab:a≠b) (hl:Small l) (hn:l.Nodup) (hno:(a,b) ∉ l) (hacy:Acy (l ++ [(a,b)])) (hlen:l.length≤100000):Spec Tryz.prog 55 [hierP l S,.val (.int .i64 (a:Int)),.val (.int .i64 (b:Int))] fun r=>∃ l' S',l'.Perm (l ++ [(a,b)])∧SortedP l'∧r=.tup [hierP l' S',.val (.int .i64 0)]:=by
 have hne:((a:Int) == (b:Int))=false:=by rw [beq_eq_false_iff_ne]; omega
 refine Yp ok55 fun C hC=>?_;refine go ?_;refine Z6 (Z6q a ha.1 ha.2) rfl rfl rfl ⟨Yt,Yt⟩ rfl ?_;refine go ?_;refine Z6 (Z6q b hb.1 hb.2) rfl rfl rfl ⟨Yt,Yt⟩ rfl ?_;refine gd 25 ⟨?_⟩;refine Zl rfl ?_;refine Z0 (Z1 rfl hne) rfl rfl ?_;refine go ?_;refine ZH rfl rfl (ZcJ l S a b ha.2 hb.2 hl hn hno hacy hlen) ⟨Z17 l S,Yt,Yt,Yt⟩ rfl ?_;rintro r ⟨l',o,h1,h2,⟨S',rfl⟩,rfl⟩;refine gd 42 ⟨?_⟩;refine Z4 rfl rfl rfl ?_;refine go ?_;exact Z5 rfl ⟨ZE l' S',Yt,Yt⟩ ⟨l',S',h1,h2,rfl⟩
theorem Z93 (l:List Pr) (S:List Nat) (r:Int):Spec Tryz.prog 86 [hierP l S,.val (.int .i64 r)] (· = setN (if 1≤r∧r≤63 then jun l r.toNat else 0)):=by
 refine Yp ok86 fun C hC=>?_;refine go ?_;refine Z6 (Z7r r) rfl rfl rfl ⟨Yt,Yt⟩ rfl ?_;by_cases h:1≤r∧r≤63
 · rw [if_pos h, decide_eq_true h.1, decide_eq_true h.2];obtain⟨k,rfl⟩:∃ k:Nat,r=(k:Int):=⟨r.toNat,by omega⟩
   have hk:k<64:=by omega
   have h1:=Zas l S (k:Int);rw [if_pos ⟨by omega,by omega⟩] at h1;have h2:=Z3q (bel l k) (Y03 (Z2U (Ze8 l k)) (by decide)) (k:Int);rw [withN,if_pos ⟨by omega,by omega⟩] at h2;refine go ?_;refine Z6 h1 rfl rfl rfl ⟨Z17 l S,Yt,Yt⟩ rfl ?_;refine go ?_;refine Z6 h2 rfl rfl rfl ⟨Z3 _,Yt,Yt⟩ rfl ?_;refine go ?_;exact Z5 rfl (Z3 _) rfl
 · rw [if_neg h];have h2:(decide (1≤r)&&decide (r≤63))=false:=by
    rw [Bool.and_eq_false_iff];by_cases h1:1≤r
    · exact .inr (Y0w fun h3=>h ⟨h1,h3⟩)
    · exact .inl (Y0w h1)
   rw [h2];refine go ?_;refine Z1y rfl (Z3 0 |> fun h=>by rw [Z26] at h; exact h) ?_;rw [Z26]; rfl
noncomputable def cloL (l:List Pr) (rs:List Nat):Nat:=rs.foldl (fun o r=>if 1≤r then o ||| jun l r else o) 0
theorem Zew (l:List Pr) (rs:List Nat) (r:Nat):cloL l (rs ++ [r])=if 1≤r then cloL l rs ||| jun l r else cloL l rs:=by simp [cloL,List.foldl_append]
theorem Z1G (l:List Pr) (S:List Nat) (s:Nat) (hs:s<18446744073709551616):Spec Tryz.prog 37 [hierP l S,setN s] (· = setN (clo l s)):=by
 refine Yp ok37 fun C hC=>?_;refine Zs ?_;refine Zc ?_;refine Z4 rfl rfl rfl ?_;refine Z4 rfl rfl rfl ?_;refine go ?_;refine Z6 (Z58 s) rfl rfl rfl ⟨Z3 _,Yt⟩ rfl ?_;refine go ?_;have hhp:=ZE l S;refine Z7W (X:=List Nat) hC (caps := [.cp [.vec (words (digs s)) false]]) [(2,.cp [hierP l S]),(4,.ptr 0 0 0),(5,.ptr 1 0 0),(8,.fn 128 [.cp [.vec (words (digs s)) false]])]
  (fun z => [(0,⟨1,[[.vec [] true]]⟩),(1,⟨1,[[.vec (words (digs (cloL l z))) false]]⟩)]) rfl ⟨⟨Zk _,Yt⟩,Yt⟩ (Z7Y s hs) (fun _=>rfl)
  (fun ex pre z=>ex=.normal∧z=pre.map (·.val)) 2 (by decide) [] ⟨rfl,rfl⟩
  (Z3M (EnvQ.mem (ρ := fun i => i) (m := 2) (L := [(2, .cp [hierP l S]), (4, .ptr 0 0 0), (5, .ptr 1 0 0), (8, .fn 128 [.cp [.vec (words (digs s)) false]])]) ⟨⟨_, rfl, .pure _ ⟨hhp, Yt⟩⟩, ⟨_, rfl, .ptr (ρ := fun i => i) 0 0 0 (by decide)⟩, ⟨_, rfl, .ptr (ρ := fun i => i) 1 0 0 (by decide)⟩, ⟨_, rfl, .pure _ ⟨⟨Zk _, Yt⟩, Yt⟩⟩, Yt⟩)
    (HeapQ.mem (ρ:=fun i=>i) (m:=2) (L := [(0,⟨1,[[.vec [] true]]⟩),(1,⟨1,[[.vec (words (digs (cloL l []))) false]]⟩)]) ⟨⟨by decide,_,rfl,.same _ ⟨⟨Yt,Yt⟩,Yt⟩⟩,⟨by decide,⟨1,[[.vec [] true]]⟩,rfl,by rw [show cloL l []=0 from rfl,ZT]; exact RenB.single (ρ:=fun i=>i) (l0 := [.vec [] true]) (l := [.vec [] false]) (show RenLs _ _ [_] [_] from ⟨.low (.vec [] true) Yt,Yt⟩) rfl⟩,Yt⟩) hC (by decide))
  (fun z q hq=>by simp at hq; rcases hq with rfl|rfl<;>exact Nat.zero_lt_succ _) _ (fun x=>rfl) ?_ ?_ ?_
 · rintro C2 hC2 pre x z ⟨-, rfl⟩ hlen;have hx64:=Z6a x.2;have hj:=Z93 l S (x.val:Int);have hcz:cloL l (pre.map (·.val))<18446744073709551616:=by
    unfold cloL;exact Zaq l _ 0 (fun r hr=>by obtain⟨y,_,rfl⟩:=Y0i.1 hr; exact Z6a y.2) (by decide)
   have hstep:=Zew l (pre.map (·.val)) x.val;have hnew:cloL l (pre.map (·.val)) ||| (if 1≤(x.val:Int)∧(x.val:Int)≤63 then jun l (x.val:Int).toNat else 0)=cloL l (pre.map (·.val) ++ [x.val]):=by
    rw [hstep];by_cases h1:1≤x.val
    · rw [if_pos h1,if_pos ⟨by omega,by omega⟩]; rfl
    · rw [if_neg h1,if_neg (by omega),Nat.or_zero]
   have hj64:(if 1≤(x.val:Int)∧(x.val:Int)≤63 then jun l (x.val:Int).toNat else 0)<18446744073709551616:=by
    split
    · exact Zbz l hx64
    · decide
   refine go ?_;refine Zy hj rfl rfl rfl ⟨hhp,Yt,Yt⟩ ?_;refine Zy (Z1Y _ _ hcz hj64) rfl rfl rfl ⟨Z3 _,Z3 _,Yt⟩ ?_;rw [hnew];refine go ?_
   exact⟨.inl rfl,pre.map (·.val) ++ [x.val],fun i=>i,⟨rfl,by rw [Y0r]; rfl⟩,fun i hi=>rfl,Zu,
    ⟨⟨_,rfl,.pure _ ⟨hhp,Yt⟩⟩,⟨_,rfl,.ptr (ρ:=fun i=>i) 0 0 0 (by decide)⟩,⟨_,rfl,.ptr (ρ:=fun i=>i) 1 0 0 (by decide)⟩,⟨_,rfl,.pure _ ⟨⟨Zk _,Yt⟩,Yt⟩⟩,Yt⟩,
    ⟨⟨by decide,_,rfl,.same _ ⟨⟨Yt,Yt⟩,Yt⟩⟩,⟨by decide,_,rfl,.same _ ⟨⟨Zk _,Yt⟩,Yt⟩⟩,Yt⟩⟩
 · rintro xs z hxs ⟨-, rfl⟩;rw [hxs];refine go ?_;exact Z5 rfl (Z3 _) (by rw [Zap]; rfl)
 · rintro ex pre z - ⟨rfl,_⟩ (h|⟨id,h⟩)<;>cases h
theorem Z7s (l:List Pr) (S:List Nat) (hlen:l.length≤1000000):Spec Tryz.prog 119 [hierP l S] (· = .vec (l.map prC) false):=by
 refine Yp ok119 fun C hC=>?_;refine go ?_;refine Z6 (Zar l S hlen) rfl rfl rfl ⟨Z17 l S,Yt⟩ rfl ?_;refine go ?_;exact Z5 rfl (Zh l) rfl
def ruR (r:RU):List PV := [.val (.bool r.rev),.val (.int .u64 (r.cu.1:Int)),.val (.int .u64 (r.cu.2:Int)),.val (.int .i64 (r.tg:Int)),.val (.int .i64 (r.og:Int))]
def ruP (r:RU):List PV := [.val (.bool r.rev),.vec (words (digs r.cu.1)) false,.vec (words (digs r.cu.2)) false,.val (.int .i64 (r.tg:Int)),.val (.int .i64 (r.og:Int))]
theorem Zgh (r:RU):pureL (ruR r):=⟨Yt,Yt,Yt,Yt,Yt,Yt⟩
theorem Z8f (r:RU):pureL (ruP r):=⟨Yt,Zk _,Zk _,Yt,Yt,Yt⟩
theorem Z1n (l:List RU):pureLL (l.map ruR):=Za Zgh l
theorem Z2W (l:List RU):pureLL (l.map ruP):=Za Z8f l
theorem Z1a (l:List Cu):pureLL (l.map raC):=Za Z1j l
theorem Z1v (l:List Cu):pureLL (l.map cuC):=Za Zp l
def pbR (t:PB):List PV := [.val (.int .i64 (t.n:Int)),.vec (t.l.map prC) false,.val (.int .u64 (t.st:Int)),.vec (t.rs.map ruR) false,.vec (t.nv.map raC) false,.vec (t.gl.map raC) false]
noncomputable def pbP (t:PB) (S:List Nat):List PV := [.val (.int .i64 (t.n:Int)),hierP t.l S,.vec (words (digs t.st)) false,.vec (t.rs.map ruP) false,.vec (t.nv.map cuC) false,.vec (t.gl.map cuC) false]
theorem Z11 (t:PB):pureL (pbR t):=⟨Yt,Zh _,Yt,Z1n _,Z1a _,Z1a _,Yt⟩
theorem ZR (t:PB) (S:List Nat):pureL (pbP t S):=⟨Yt,ZE _ _,Zk _,Z2W _,Z1v _,Z1v _,Yt⟩
theorem PbOk.nv64 {t:PB} (h:PbOk t):∀ c∈t.nv,Ok64 c:=fun c hc=>(h.nv c hc).1.lt h.n.2
theorem PbOk.gl64 {t:PB} (h:PbOk t):∀ c∈t.gl,Ok64 c:=fun c hc=>(h.gl c hc).1.lt h.n.2
theorem Z3a {t:PB} (h:PbOk t) (s:Nat) (hs:s<18446744073709551616):Spec Tryz.prog 127 [.agg (pbR t),.val (.int .u64 (s:Int))] (· = .val (.bool (goodB t s))):=by
 have hc:=Z2h t.l false h.good.small s hs;have hso:=Z2w t.nv false (clo t.l s) h.nv64 (Z4M _ _);have e:goodB t s = !soC t.nv (clo t.l s):=rfl;rw [e];refine Yp ok127 fun C hC=>?_;refine Zs ?_;refine Zc ?_;refine Z4 rfl rfl rfl ?_;refine gd 10 ⟨?_⟩;refine Zy hc rfl rfl rfl ⟨Zh _,Yt,Yt⟩ ?_;refine gd 11 ⟨?_⟩;refine Zy hso rfl rfl rfl ⟨Z1a _,Yt,Yt⟩ ?_;generalize soC t.nv (clo t.l s)=b;cases b
 all_goals
  refine go ?_;exact Z5 rfl Yt rfl
theorem Z3x {t:PB} (h:PbOk t) (s:Nat) (hs:s<18446744073709551616):Spec Tryz.prog 32 [.agg (pbR t),.val (.int .u64 (s:Int))] (· = .val (.bool (reachB t s))):=by
 have hc:=Z2h t.l false h.good.small s hs;have hso:=Z2w t.gl false (clo t.l s) h.gl64 (Z4M _ _);have e:reachB t s=soC t.gl (clo t.l s):=rfl;rw [e];refine Yp ok32 fun C hC=>?_;refine Zs ?_;refine Zc ?_;refine Z4 rfl rfl rfl ?_;refine gd 10 ⟨?_⟩;refine Zy hc rfl rfl rfl ⟨Zh _,Yt,Yt⟩ ?_;refine gd 11 ⟨?_⟩;refine Zy hso rfl rfl rfl ⟨Z1a _,Yt,Yt⟩ ?_;generalize soC t.gl (clo t.l s)=b;cases b
 all_goals
  refine go ?_;exact Z5 rfl Yt rfl
def stL (i:Nat):List (List PV):=(List.range i).map fun s => [.val (.int .u64 ((2*s:Nat):Int))]
theorem Zhu (i:Nat):(stL i).length=i:=by simp [stL]
theorem Zgi (i:Nat):stL i ++ [[.val (.int .u64 ((2*i:Nat):Int))]]=stL (i+1):=by
 unfold stL;rw [List.range_succ,Y0r]; rfl
theorem Z8g (i:Nat):pureLL (stL i):=Z2m _ _ fun _ _=>⟨Yt,Yt⟩
theorem Z6r {t:PB} (hn:t.n≤5):Spec Tryz.prog 153 [.agg (pbR t)] (· = .vec (stL (2 ^ t.n)) false):=by
 have hp:2 ^ t.n≤32:=Nat.pow_le_pow_right (n:=2) (by decide) hn;have hpc:∀ D,innL D (pbR t):=fun D=>Zm (fun _ h=>h.elim) _ (Z11 t);have hsh:=Z8b t.n (by omega);refine Yp ok153 fun C hC=>?_;refine Zs ?_;refine Zc ?_;refine Z4 rfl rfl rfl ?_
 repeat' (first|refine Zi (Zv (k:=3) rfl 1 (by decide)) ?_|(first|refine st ?_|(apply B<;>intro hb<;>try cases hb)))
 refine ZJ hC (fun i=>i≤2 ^ t.n) (fun i=>2 ^ t.n-i) 1 (fun i => [(1,.cp (pbR t)),(3,.own 0),(4,.val (.int .u64 (i:Int)))]) (fun i => [(0,⟨1,stL i⟩)]) (by decide) 0 (Y0l _) (fun i=>i) (fun _ _=>rfl) Zu
  ⟨⟨_,rfl,.pure _ (Z11 t)⟩,⟨_,rfl,.own (ρ:=fun i=>i) 0 (by decide)⟩,⟨_,rfl,.pure _ Yt⟩,Yt⟩ ⟨⟨by decide,_,rfl,.same _ Yt⟩,Yt⟩ ?_
 intro i hi;have hinc:IntKind.u64.wrap ((i:Int)+1)=((i+1:Nat):Int):=by rw [Y0x _ ⟨by omega,by omega⟩]; omega
 have hdb:IntKind.u64.wrap ((i:Int)*2 ^ (min (1:Int).toNat IntKind.u64.bits))=((2*i:Nat):Int):=by
  show IntKind.u64.wrap ((i:Int)*2)=_;rw [Y0x _ ⟨by omega,by omega⟩]; omega
 refine gd 9 ⟨?_⟩;rw [hsh];refine Zt rfl rfl rfl (fun hb=>?_) (fun hb=>?_)
 · have hil : i < 2 ^ t.n := by have := Y0u hb; omega
   clear hb;refine gd 16 ⟨?_⟩;rw [hdb];refine ZD (ZB (k:=0) (m := [[.val (.int .u64 ((2*i:Nat):Int))]]) (fl:=true) (b:=⟨1,stL i⟩) rfl rfl rfl (fun q hq=>by rw [Y0g] at hq; subst hq; rfl) rfl (by show ((stL i).length+1)*8≤_; rw [Zhu];omega)) rfl rfl ?_;simp only;rw [Zgi];refine go ?_
   exact⟨i+1,mv 0 1,hil,by omega,fun i hi=>absurd hi (Nat.not_lt_zero i),Zw rfl,
    ⟨⟨_,rfl,.pure _ (Z11 t)⟩,⟨_,rfl,.own (ρ:=mv 0 1) 0 (by decide)⟩,⟨_,by show some _=some _; rw [hinc],.pure _ Yt⟩,Yt⟩,⟨⟨by decide,_,rfl,.same _ (Z8g _)⟩,Yt⟩⟩
 · have hil : i = 2 ^ t.n := by have := of_decide_eq_false hb; omega
   subst hil;clear hb;refine gd 17 ⟨?_⟩;refine Zi (Zq (k:=3) rfl rfl (Z8g _)) ?_;refine go ?_;exact Z5 rfl (Z8g _) rfl
theorem Z94 (N:Nat) (hN:N<18446744073709551616) (i:Nat):Spec Tryz.prog 35 [setN N,Yv i] (· = .val (.bool (N.testBit i))):=by
 have:=Z4C N hN (i:Int)
 rwa [decide_eq_true (show (0:Int)≤(i:Int) by omega),Bool.true_and,Int.toNat_natCast] at this
theorem Z95 (l:List Pr) (S:List Nat) (k:Nat) (h1:1≤k) (hk:k<64):Spec Tryz.prog 139 [hierP l S,.val (.int .i64 (k:Int))] (· = setN (sen l k)):=by
 have h2:=Zat l S (k:Int);rw [if_pos ⟨by omega,by omega⟩] at h2;have h3:=Z3q (abv l k) (Y03 (Z2U (Z6c l k)) (by decide)) (k:Int);rw [withN,if_pos ⟨by omega,by omega⟩] at h3;refine Yp ok139 fun C hC=>?_;refine go ?_;refine Z6 (Z6q k h1 hk) rfl rfl rfl ⟨Yt,Yt⟩ rfl ?_;refine go ?_;refine Z6 h2 rfl rfl rfl ⟨Z17 l S,Yt,Yt⟩ rfl ?_;refine go ?_;refine Z6 h3 rfl rfl rfl ⟨Z3 _,Yt,Yt⟩ rfl ?_;refine go ?_;exact Z5 rfl (Z3 _) rfl
theorem Z3V (k:Nat) (h1:1≤k) (h2:k≤64):Spec Tryz.prog 73 [.val (.int .i64 (k:Int))] (· = setN (2 ^ k-1)):=by
 refine Yp ok73 fun C hC=>?_;have hq:IntKind.i64.wrap (((k+63:Nat):Int).tdiv 64)=((1:Nat):Int):=by
  rw [IntWalk.i64_quo _ _ ⟨by omega,by omega,by omega⟩]; omega
 refine gd 6 ⟨?_⟩;refine Z8 rfl rfl rfl (v:=(k:Int)) (by split<;>omega) ?_;refine Z8 rfl rfl rfl (v:=(k:Int)) (by split<;>omega) ?_;refine gd 9 ⟨?_⟩;refine Z8 rfl rfl rfl (show IntKind.i64.wrap ((k:Int)+63)=((k+63:Nat):Int) from Y0v _ ⟨by omega,by omega⟩) ?_;refine gd 10 ⟨?_⟩;refine Z8 rfl rfl rfl hq ?_;refine go ?_;refine Z23 1 ?_;refine gd 22 ⟨?_⟩;by_cases hk:k=64
 · subst hk
   repeat' (first|refine Zi (Zq (k:=33) rfl rfl (Z12 rfl)) ?_|(first|refine st ?_|(apply B<;>intro hb<;>try cases hb)))
   exact Z5 rfl (Z34 rfl) (by rw [Z36 (by decide) (by decide)]; rfl)
 · have hr : (k : Int).tmod 64 = ((k : Nat) : Int) := by rw [Int.tmod_eq_emod_of_nonneg (by omega)]; omega
   refine Z8 rfl rfl rfl hr ?_;refine Z0 (Z1 (v:=true) rfl (by simp;omega)) rfl rfl ?_;refine gd 29 ⟨?_⟩;refine Z8 rfl rfl rfl hr ?_
   refine Z0 (ZdO rfl rfl (by omega) (v:=((2 ^ k:Nat):Int)) (by
    rw [show min ((k:Int)).toNat IntKind.u64.bits=k by simp [IntKind.bits]; omega];have hp:=ZG (show k<64 by omega);rw [Int.one_mul,show (2:Int) ^ k=((2 ^ k:Nat):Int) by simp]
    exact Y0x _ ⟨Int.natCast_nonneg _,Int.ofNat_le.2 (show _≤18446744073709551615 by omega)⟩)) rfl rfl ?_
   refine Z8 rfl rfl rfl (v:=((2 ^ k-1:Nat):Int)) (by
    have hp:=ZG (show k<64 by omega);have:=Nat.two_pow_pos k;rw [show ((2 ^ k:Nat):Int)-1=((2 ^ k-1:Nat):Int) by omega]
    exact Y0x _ ⟨Int.natCast_nonneg _,Int.ofNat_le.2 (show _≤18446744073709551615 by omega)⟩) ?_
   have hp:=ZG (show k<64 by omega);have hp2:2≤2 ^ k:=Nat.pow_le_pow_right (n:=2) (by decide) h1
   repeat' (first|refine Zi (Zq (k:=33) rfl rfl (Z12 rfl)) ?_|(first|refine st ?_|(apply B<;>intro hb<;>try cases hb)))
   exact Z5 rfl (Z34 rfl) (by rw [Z36 (by omega) (by omega)]; rfl)
theorem Zgj {N M:Nat} (hN:N<18446744073709551616):N &&& M<18446744073709551616:=Y02 Nat.and_le_left hN
theorem Zgk (a b:Nat) (ha:a<18446744073709551616) (hb:b<18446744073709551616):bits .and .u64 (a:Int) (b:Int)=((a &&& b:Nat):Int):=by
 have h1:(BitVec.ofInt 64 (a:Int)).toNat=a:=by rw [BitVec.ofInt_natCast,BitVec.toNat_ofNat]; exact Nat.mod_eq_of_lt (by omega)
 have h2:(BitVec.ofInt 64 (b:Int)).toNat=b:=by rw [BitVec.ofInt_natCast,BitVec.toNat_ofNat]; exact Nat.mod_eq_of_lt (by omega)
 show IntKind.u64.wrap ((BitVec.ofInt 64 (a:Int) &&& BitVec.ofInt 64 (b:Int)).toNat:Int)=_;rw [BitVec.toNat_and,h1,h2];have:a &&& b≤a:=Nat.and_le_left;exact Y0x _ ⟨by omega,by omega⟩
theorem Zex (N M:Nat) (hN:N<18446744073709551616) (hM:M<18446744073709551616):Spec Tryz.prog 140 [setN N,setN M] (· = setN (N &&& M)):=by
 have hlt:=Zgj (M:=M) hN;rcases Z1d hN with⟨rfl,e1⟩|⟨h1,e1⟩<;>rcases Z1d hM with⟨rfl,e2⟩|⟨h2,e2⟩<;>rw [e1]<;>(try rw [e2])<;>clear e1 e2
 all_goals
  refine Yp ok140 fun C hC=>?_;refine Zs ?_;refine Zc ?_;refine Z4 rfl rfl rfl ?_;refine Z4 rfl rfl rfl ?_;refine go ?_;refine Z23 1 ?_
 case inr.inr =>
  refine gd 32 ⟨?_⟩;refine Ze (ZY rfl (Zgk N M hN hM)) rfl rfl ?_
  repeat' (first|refine Zi (Zq (k:=35) rfl rfl (Z12 rfl)) ?_|(first|refine st ?_|(apply B<;>intro hb<;>try cases hb)))
  refine ZH rfl rfl (Z4z [N &&& M]) (Z1c rfl) rfl fun r hr=>?_;have hw:Words [N &&& M]:=fun x hx=>by rw [Y0g.1 hx]; exact hlt
  have e1:=hr.set hw;have e2:ofW [N &&& M]=N &&& M:=by simp [ofW]
  rw [e2] at e1;subst e1;refine go ?_;exact Z5 rfl (Z3 _) rfl
 all_goals
  repeat' (first|refine Zi (Zq (k:=35) rfl rfl (Z12 rfl)) ?_|(first|refine st ?_|(apply B<;>intro hb<;>try cases hb)))
  refine ZH rfl rfl (Z4z []) (Z1c rfl) rfl fun r hr=>?_;have e1:=hr.set (fun x hx=>by cases hx);subst e1;refine go ?_;exact Z5 rfl (Z3 _) (show setN (ofW [])=_ by simp [ofW])
theorem Z8h (n:Nat) (hn:n≤63):withoutN (2 ^ (n+1)-1) 0=mkN n:=by
 refine Nat.eq_of_testBit_eq fun i=>?_;have hp:2 ^ (n+1)≤2 ^ 64:=Nat.pow_le_pow_right (by decide) (by omega);have:=Z3h (N:=2 ^ (n+1)-1) (by have:=Nat.two_pow_pos (n+1);omega) 0 i;rw [show ((0:Nat):Int)=0 from rfl] at this;rw [this,Nat.testBit_two_pow_sub_one,Z2N,Bool.eq_iff_iff];simp;omega
theorem ZbE {e:Env} {h:Heap} {n:Nat} {x y:Operand} {a b:Int} (hx:ev e x=some (.val (.int .i64 a))) (hy:ev e y=some (.val (.int .i64 b))) (hb:b≠0):dEval (.bin .rem .num x y) e h n=some (.val (.int .i64 (a.tmod b)),h):=by
 simp [dEval,hx,hy,pbin,sbin,hb]
theorem Z4Q {α:Type} {f:α→List PV} (hf:∀ x,lowL (f x)=f x):∀ l:List α,lowLL (l.map f)=l.map f
 | []=>rfl
 | c :: l => by
   show lowL (f c) :: lowLL (l.map f)=_;rw [hf,Z4Q hf l]; rfl
structure MkOk (t:PB):Prop where
 ok:PbOk t
 n:2≤t.n∧t.n≤5
 rs:t.rs.length≤6
 nv:t.nv.length≤3
 gl:1≤t.gl.length∧t.gl.length≤3
structure LJ (n:Nat) (l:List Pr) (k:Nat):Prop where
 asc:SortedP l
 len:l.length≤k
 mem:∀ p∈l,1≤p.1∧p.1<p.2∧p.2≤n
theorem LJ.nil (n:Nat):LJ n [] 0:=⟨List.Pairwise.nil,Y0m _,fun _ h=>by cases h⟩
theorem LJ.mono {n:Nat} {l:List Pr} {k k':Nat} (h:LJ n l k) (hk:k≤k'):LJ n l k':=⟨h.asc,Y03 h.len hk,h.mem⟩
theorem LJ.step {n:Nat} {l:List Pr} {k a b:Nat} (h:LJ n l k) {l':List Pr} (hL:Linked l (a,b) l') (ha:1≤a) (hab:a<b) (hb:b≤n):LJ n l' (k+1) :=
 ⟨hL.sorted h.asc,Y03 hL.len (Nat.succ_le_succ h.len),fun p hp=>(hL.mem p hp).elim (h.mem p) fun e=>by subst e; exact⟨ha,hab,hb⟩⟩
theorem LJ.good {n:Nat} (hn:n≤5) {l:List Pr} {k:Nat} (h:LJ n l k):GoodL l :=
 ⟨h.asc,fun p hp=>by have:=h.mem p hp; omega,⟨fun i=>i,fun p hp=>(h.mem p hp).2.1⟩⟩
theorem Zij {n:Nat} (h1:2≤n) (h2:n≤5):IntKind.u8.wrap (2*2 ^ (min ((n:Nat):Int).toNat IntKind.u8.bits))=((2*2 ^ n:Nat):Int)∧IntKind.u8.wrap (((2*2 ^ n:Nat):Int)-2)=((mkN n:Nat):Int)∧mkN n<64∧mkN n ||| 62=62:=by
 have:n=2 ∨ n=3 ∨ n=4 ∨ n=5:=by omega
 rcases this with rfl|rfl|rfl|rfl<;>decide
theorem Zhv (X:Int) (m:Nat) (hm:m<256):∃ s:Nat,s ||| m=m∧bits .and .u8 X (m:Int)=(s:Int):=by
 refine⟨(BitVec.ofInt 8 X).toNat &&& m,Zeu _ m,?_⟩;rw [← Z7q _ _ (BitVec.ofInt 8 X).isLt hm];show IntKind.u8.wrap ((BitVec.ofInt 8 X &&& BitVec.ofInt 8 (m:Int)).toNat:Int)=IntKind.u8.wrap ((BitVec.ofInt 8 ((BitVec.ofInt 8 X).toNat:Int) &&& BitVec.ofInt 8 (m:Int)).toNat:Int);rw [show BitVec.ofInt 8 ((BitVec.ofInt 8 X).toNat:Int)=BitVec.ofInt 8 X by rw [BitVec.ofInt_natCast,BitVec.ofNat_toNat,BitVec.setWidth_eq]]
theorem Z3b (a b:Nat):((a:Nat):Int).tmod ((b:Nat):Int)=((a % b:Nat):Int):=by rw [Int.ofNat_tmod]
theorem InM.inC {n:Nat} {c:Cu} (h:InM (mkN n) c) (he:emC c=false):InC n c:=⟨h.1,h.2,he⟩
theorem Z3W {a b c:Nat} (h1:a ||| b=b) (h2:b ||| c=c):a ||| c=c:=orSub.2 fun i hi=>orSub.1 h2 i (orSub.1 h1 i hi)
theorem RuOk.mk0 {n:Nat} (hn:n≤5) {c:Cu} {rev:Bool} {tg og:Nat} (hc:InM (mkN n) c) (h62:mkN n ||| 62=62) (he:emC c=false) (ht:1≤tg∧tg≤n) (hr:rev=true→c=(0,0)):RuOk n ⟨rev,c,tg,og⟩ :=
 ⟨hc.inC he,⟨Z3W hc.1 h62,Z3W hc.2 h62⟩,⟨ht.1,ht.2,by show tg≤5; omega⟩,hr⟩
theorem Zax (p:List Nat) (fl:Bool) (hp:Bytes p):Spec Tryz.prog 20 [.vec (bys p) fl] fun r=>∃ t:PB,MkOk t∧r=.agg (pbR t):=by
 have hpl:∀ (l:List Pr) D,innLL D (l.map prC):=fun l D=>Z9 (fun _ h=>h.elim) _ (Zh l);have hsi:∀ t D,innLL D (srcB p fl t).elems:=fun t D=>Zgc p fl t D;refine Yp ok20 fun C hC=>?_;refine gd 30 ⟨?_⟩;refine ZM (ZO p hp fl 0 (by omega)) rfl rfl rfl rfl (ZC p fl 0) Yt ?_;rintro r b' - - ⟨v1,hv1,rfl,rfl⟩;refine Z8 rfl rfl rfl (Z3b v1 4) ?_;have hn4:=Nat.mod_lt v1 (show 0<4 by decide);refine Z8 rfl rfl rfl (show IntKind.i64.wrap (2+((v1 % 4:Nat):Int))=((2+v1 % 4:Nat):Int) from by rw [Y0v _ ⟨by omega,by omega⟩];omega) ?_;obtain⟨n,hn⟩:∃ n,2+v1 % 4=n:=⟨_,rfl⟩
 rw [hn];have hn2:2≤n∧n≤5:=by omega
 obtain⟨hm1,hm2,hm64,hm62⟩:=Zij hn2.1 hn2.2;clear hn hn4 hv1;refine gd 36 ⟨?_⟩;refine Z8 rfl rfl rfl (show IntKind.u64.wrap ((n:Nat):Int)=((n:Nat):Int) from Y0x _ ⟨by omega,by omega⟩) ?_;refine Z2B rfl rfl (by omega) hm1 rfl ?_;refine Z8 rfl rfl rfl hm2 ?_;refine gd 40 ⟨?_⟩;refine ZM (ZO p hp fl 1 (by omega)) rfl rfl rfl rfl (ZC p fl 1) Yt ?_;rintro r b' - - ⟨v2,hv2,rfl,rfl⟩;refine go ?_;refine Zn hC (fun (z:Nat×Nat×List Pr×Bool)=>1≤z.1∧z.1≤n∧z.2.1≤10*z.1∧LJ n z.2.2.1 z.2.1) (fun z=>n-z.1) 3 (fun z => [(2,.ptr 0 0 0),(3,.ptr 1 0 0),(4,.ptr 2 0 0),(5,.val (.int .u8 (mkN n:Nat))),(6,.val (.int .i64 (v2:Int))),(7,.val (.int .i64 (z.2.1:Int))),(8,Yv z.1)])
  (fun z => [(0,⟨6,[zpv [.int .i64 0,.slice none 0 0,.int .u64 0,.slice none 0 0,.slice none 0 0,.slice none 0 0]]⟩),(1,srcB p fl 2),(2,⟨6,[[.val (.int .i64 (n:Int)),.vec (z.2.2.1.map prC) z.2.2.2,.val (.int .u64 0),.vec [] true,.vec [] true,.vec [] true]]⟩)]) (Y0l _) (1,0,[],true) ⟨Y0m _,by show 1≤n; omega,by show 0≤_; omega,LJ.nil n⟩
  ⟨⟨rfl,show (0:Nat)<3 by decide⟩,⟨rfl,show (1:Nat)<3 by decide⟩,⟨rfl,show (2:Nat)<3 by decide⟩,⟨rfl,Yt⟩,⟨rfl,Yt⟩,⟨rfl,Yt⟩,⟨rfl,Yt⟩,Yt⟩
  ⟨⟨by decide,rfl,⟨⟨Yt,Yt,Yt,Yt,Yt,Yt,Yt⟩,Yt⟩⟩,⟨by decide,rfl,hsi 2 _⟩,⟨by decide,rfl,⟨⟨Yt,Yt,Yt,Yt,Yt,Yt,Yt⟩,Yt⟩⟩,Yt⟩ ?_
 rintro⟨a,k,l,fk⟩ ⟨ha1,han,hk,hl⟩;dsimp only at ha1 han hk hl;have hainc:IntKind.i64.wrap ((a:Int)+1)=((a+1:Nat):Int):=Y0v _ ⟨by omega,by omega⟩;refine gd 44 ⟨?_⟩;refine Zt rfl rfl rfl (fun hb=>?_) (fun hb=>?_)
 · have hal : a < n := by have := Y0u hb; omega
   clear hb;refine go ?_;refine Zn hC (fun (z:Nat×Nat×List Pr×Bool)=>a+1≤z.1∧z.1≤n+1∧z.2.1≤10*a+z.1∧LJ n z.2.2.1 z.2.1) (fun z=>n+1-z.1) 3 (fun z => [(2,.ptr 0 0 0),(3,.ptr 1 0 0),(4,.ptr 2 0 0),(5,.val (.int .u8 (mkN n:Nat))),(6,.val (.int .i64 (v2:Int))),(7,.val (.int .i64 (z.2.1:Int))),(8,.val (.int .i64 (a:Int))),(9,Yv z.1)])
    (fun z => [(0,⟨6,[zpv [.int .i64 0,.slice none 0 0,.int .u64 0,.slice none 0 0,.slice none 0 0,.slice none 0 0]]⟩),(1,srcB p fl 2),(2,⟨6,[[.val (.int .i64 (n:Int)),.vec (z.2.2.1.map prC) z.2.2.2,.val (.int .u64 0),.vec [] true,.vec [] true,.vec [] true]]⟩)]) (Y0l _) (a+1,k,l,fk) ⟨Y0m _,by show a+1≤n+1; omega,by show k≤10*a+(a+1); omega,hl⟩
    ⟨⟨rfl,show (0:Nat)<3 by decide⟩,⟨rfl,show (1:Nat)<3 by decide⟩,⟨rfl,show (2:Nat)<3 by decide⟩,⟨rfl,Yt⟩,⟨rfl,Yt⟩,⟨rfl,Yt⟩,⟨rfl,Yt⟩,⟨by show some _=some _; rw [hainc],Yt⟩,Yt⟩
    ⟨⟨by decide,rfl,⟨⟨Yt,Yt,Yt,Yt,Yt,Yt,Yt⟩,Yt⟩⟩,⟨by decide,rfl,hsi 2 _⟩,⟨by decide,rfl,⟨⟨Yt,hpl _ _,Yt,Yt,Yt,Yt,Yt⟩,Yt⟩⟩,Yt⟩ ?_
   clear hk hl;rintro⟨c,k,l,fk⟩ ⟨hc1,hcn,hk,hl⟩;dsimp only at hc1 hcn hk hl;have hcinc:IntKind.i64.wrap ((c:Int)+1)=((c+1:Nat):Int):=Y0v _ ⟨by omega,by omega⟩;have hkinc:IntKind.i64.wrap ((k:Int)+1)=((k+1:Nat):Int):=Y0v _ ⟨by omega,by omega⟩;have hend:∀ l' fk',LJ n l' (k+1)→c≤n→(fun (z:Nat×Nat×List Pr×Bool)=>a+1≤z.1∧z.1≤n+1∧z.2.1≤10*a+z.1∧LJ n z.2.2.1 z.2.1) (c+1,k+1,l',fk'):=fun l' fk' h1 h2=>⟨by show a+1≤c+1; omega,by show c+1≤n+1; omega,by show k+1≤10*a+(c+1); omega,h1⟩
   refine gd 52 ⟨?_⟩;refine Zt rfl rfl rfl (fun hb=>?_) (fun hb=>?_)
   · have hcl : c ≤ n := by have := Y0u hb; omega
     clear hb;refine gd 57 ⟨?_⟩;refine Z8 rfl rfl rfl (Z3b k 8) ?_;have hk8:=Nat.mod_lt k (show 0<8 by decide);refine Z8 rfl rfl rfl (show IntKind.u64.wrap ((k % 8:Nat):Int)=((k % 8:Nat):Int) from Y0x _ ⟨by omega,by omega⟩) ?_;refine Z2C rfl rfl (by omega) rfl rfl ?_;refine gd 61 ⟨?_⟩;refine Zt rfl rfl rfl (fun hb=>?_) (fun hb=>?_)
     · clear hb;refine gd 65 ⟨?_⟩;refine Zl rfl ?_;refine Zt rfl rfl rfl (fun hb=>?_) (fun hb=>?_)
       · clear hb;refine gd 72 ⟨?_⟩;refine ZH rfl rfl (ZcL l fk (hl.good hn2.2).small a c ⟨ha1,by omega⟩ ⟨by omega,by omega⟩ (by omega) (by have:=hl.len;omega)) ⟨Zh l,Yt,Yt,Yt⟩ rfl ?_;rintro r ⟨l',fl',er,hL,rfl⟩;refine go ?_;exact⟨(c+1,k+1,l',fl'),hend l' fl' (hl.step hL ha1 (by omega) hcl) hcl,by show n+1-(c+1)<n+1-c; omega,⟨⟨rfl,show (0:Nat)<3 by decide⟩,⟨rfl,show (1:Nat)<3 by decide⟩,⟨rfl,show (2:Nat)<3 by decide⟩,⟨rfl,Yt⟩,⟨rfl,Yt⟩,⟨by show some _=some _; rw [hkinc],Yt⟩,⟨rfl,Yt⟩,⟨by show some _=some _; rw [hcinc],Yt⟩,Yt⟩,⟨⟨by decide,rfl,⟨⟨Yt,Yt,Yt,Yt,Yt,Yt,Yt⟩,Yt⟩⟩,⟨by decide,rfl,hsi 2 _⟩,⟨by decide,rfl,⟨⟨Yt,hpl _ _,Yt,Yt,Yt,Yt,Yt⟩,Yt⟩⟩,Yt⟩⟩
       · clear hb;refine go ?_;exact⟨(c+1,k+1,l,fk),hend l fk (hl.mono (Nat.le_succ k)) hcl,by show n+1-(c+1)<n+1-c; omega,⟨⟨rfl,show (0:Nat)<3 by decide⟩,⟨rfl,show (1:Nat)<3 by decide⟩,⟨rfl,show (2:Nat)<3 by decide⟩,⟨rfl,Yt⟩,⟨rfl,Yt⟩,⟨by show some _=some _; rw [hkinc],Yt⟩,⟨rfl,Yt⟩,⟨by show some _=some _; rw [hcinc],Yt⟩,Yt⟩,⟨⟨by decide,rfl,⟨⟨Yt,Yt,Yt,Yt,Yt,Yt,Yt⟩,Yt⟩⟩,⟨by decide,rfl,hsi 2 _⟩,⟨by decide,rfl,⟨⟨Yt,hpl _ _,Yt,Yt,Yt,Yt,Yt⟩,Yt⟩⟩,Yt⟩⟩
     · clear hb;refine go ?_;exact⟨(c+1,k+1,l,fk),hend l fk (hl.mono (Nat.le_succ k)) hcl,by show n+1-(c+1)<n+1-c; omega,⟨⟨rfl,show (0:Nat)<3 by decide⟩,⟨rfl,show (1:Nat)<3 by decide⟩,⟨rfl,show (2:Nat)<3 by decide⟩,⟨rfl,Yt⟩,⟨rfl,Yt⟩,⟨by show some _=some _; rw [hkinc],Yt⟩,⟨rfl,Yt⟩,⟨by show some _=some _; rw [hcinc],Yt⟩,Yt⟩,⟨⟨by decide,rfl,⟨⟨Yt,Yt,Yt,Yt,Yt,Yt,Yt⟩,Yt⟩⟩,⟨by decide,rfl,hsi 2 _⟩,⟨by decide,rfl,⟨⟨Yt,hpl _ _,Yt,Yt,Yt,Yt,Yt⟩,Yt⟩⟩,Yt⟩⟩
   · have hcl : c = n + 1 := by have := of_decide_eq_false hb; omega
     clear hb;refine go ?_;exact⟨(a+1,k,l,fk),⟨by show 1≤a+1; omega,by show a+1≤n; omega,by show k≤10*(a+1); omega,hl⟩,by show n-(a+1)<n-a; omega,⟨⟨rfl,show (0:Nat)<3 by decide⟩,⟨rfl,show (1:Nat)<3 by decide⟩,⟨rfl,show (2:Nat)<3 by decide⟩,⟨rfl,Yt⟩,⟨rfl,Yt⟩,⟨rfl,Yt⟩,⟨by show some _=some _; rw [hainc],Yt⟩,Yt⟩,⟨⟨by decide,rfl,⟨⟨Yt,Yt,Yt,Yt,Yt,Yt,Yt⟩,Yt⟩⟩,⟨by decide,rfl,hsi 2 _⟩,⟨by decide,rfl,⟨⟨Yt,hpl _ _,Yt,Yt,Yt,Yt,Yt⟩,Yt⟩⟩,Yt⟩⟩
 · have hal : a = n := by have := of_decide_eq_false hb; omega
   clear hb;have hgl:=hl.good hn2.2;have hlm:=hl.mem;clear hl hk hv2 hainc;refine gd 79 ⟨?_⟩;refine ZM (ZO p hp fl 2 (by omega)) rfl rfl rfl rfl (ZC p fl 2) Yt ?_;rintro r b' - - ⟨v3,hv3,rfl,rfl⟩;refine gd 82 ⟨?_⟩;obtain⟨s,hs1,hs2⟩:=Zhv (IntKind.u8.wrap (v3:Int)) (mkN n) (by omega);have hs3:s≤mkN n:=by rw [← hs1]; exact Nat.left_le_or
   refine Z8 rfl rfl rfl hs2 ?_;refine Z8 rfl rfl rfl (show IntKind.u64.wrap ((s:Nat):Int)=((s:Nat):Int) from Y0x _ ⟨by omega,by omega⟩) ?_;clear hs2 hv3;refine gd 86 ⟨?_⟩;refine ZM (ZO p hp fl 3 (by omega)) rfl rfl rfl rfl (ZC p fl 3) Yt ?_;rintro r b' - - ⟨v4,hv4,rfl,rfl⟩;refine Z8 rfl rfl rfl (Z3b v4 7) ?_;have hc6:=Nat.mod_lt v4 (show 0<7 by decide);generalize v4 % 7=cnt at hc6 ⊢;clear hv4;refine gd 11 ⟨?_⟩;refine Zi (Z24 (id:=2) (i0:=0) (j0:=3) rfl (Nat.le_of_ble_eq_true rfl) (Nat.le_of_ble_eq_true rfl) rfl 5 (by decide) (by decide)) ?_;refine go ?_;refine ZJ hC (fun (z:Nat×Nat×List RU)=>z.1≤cnt∧z.2.1≤4+4*z.1∧z.2.2.length=z.1∧∀ r∈z.2.2,RuOk n r) (fun z=>cnt-z.1) 4 (fun z => [(2,.ptr 0 0 0),(3,.ptr 1 0 0),(4,.ptr 2 0 0),(5,.val (.int .u8 (mkN n:Nat))),(10,.val (.int .i64 (cnt:Int))),(11,Yv z.1)])
    (fun z => [(0,⟨6,[zpv [.int .i64 0,.slice none 0 0,.int .u64 0,.slice none 0 0,.slice none 0 0,.slice none 0 0]]⟩),(1,srcB p fl z.2.1),(2,⟨6,[[.val (.int .i64 (n:Int)),.vec (l.map prC) fk,.val (.int .u64 (s:Int)),.own 3,.vec [] true,.vec [] true]]⟩),(3,⟨5,z.2.2.map ruR⟩)]) (Y0l _) (0,3+1,[]) ⟨Y0l _,Y0m _,rfl,fun r hr=>by cases hr⟩ (fun i=>i) (fun _ _=>rfl) Zu
    ⟨⟨_,rfl,.ptr (ρ:=fun i=>i) 0 0 0 (by decide)⟩,⟨_,rfl,.ptr (ρ:=fun i=>i) 1 0 0 (by decide)⟩,⟨_,rfl,.ptr (ρ:=fun i=>i) 2 0 0 (by decide)⟩,⟨_,rfl,.pure _ Yt⟩,⟨_,rfl,.pure _ Yt⟩,⟨_,rfl,.pure _ Yt⟩,Yt⟩
    ⟨⟨by decide,_,rfl,.same _ ⟨⟨Yt,Yt,Yt,Yt,Yt,Yt,Yt⟩,Yt⟩⟩,⟨by decide,_,rfl,.same _ (ZC p fl _)⟩,⟨by decide,_,rfl,RenB.single ⟨.pure _ Yt,.pure _ (Zh l),.pure _ Yt,.own (ρ:=fun i=>i) 3 (by decide),.pure _ Yt,.pure _ Yt,Yt⟩ rfl⟩,⟨by decide,_,rfl,.same _ Yt⟩,Yt⟩ ?_
   rintro⟨i,t,rs⟩ ⟨hi,ht,hrl,hro⟩;dsimp only at hi ht hrl hro;have hinc:IntKind.i64.wrap ((i:Int)+1)=((i+1:Nat):Int):=Y0v _ ⟨by omega,by omega⟩;refine gd 90 ⟨?_⟩;refine Zt rfl rfl rfl (fun hb=>?_) (fun hb=>?_)
   · have hil : i < cnt := by have := Y0u hb; omega
     clear hb;refine gd 94 ⟨?_⟩;refine ZM (ZO p hp fl t (by omega)) rfl rfl rfl rfl (ZC p fl _) Yt ?_;rintro r b' - - ⟨w1,hw1,rfl,rfl⟩;refine gd 96 ⟨?_⟩;refine ZM (ZO p hp fl (t+1) (by omega)) rfl rfl rfl rfl (ZC p fl _) Yt ?_;rintro r b' - - ⟨w2,hw2,rfl,rfl⟩;refine gd 98 ⟨?_⟩;refine ZM (ZO p hp fl (t+1+1) (by omega)) rfl rfl rfl rfl (ZC p fl _) Yt ?_;rintro r b' - - ⟨w3,hw3,rfl,rfl⟩;refine gd 100 ⟨?_⟩;refine ZM (ZO p hp fl (t+1+1+1) (by omega)) rfl rfl rfl rfl (ZC p fl _) Yt ?_;rintro r b' - - ⟨w4,hw4,rfl,rfl⟩;refine gd 103 ⟨?_⟩;refine Z0 rfl rfl rfl ?_;generalize ((w1:Int).tmod 4 == 3)=rev;refine gd 107 ⟨?_⟩;refine Z0 (ZbE rfl rfl (by omega)) rfl rfl ?_;rw [Z3b w2 n];have hw:=Nat.mod_lt w2 (show 0<n by omega);refine Z8 rfl rfl rfl (show IntKind.i64.wrap (1+((w2 % n:Nat):Int))=((1+w2 % n:Nat):Int) from by rw [Y0v _ ⟨by omega,by omega⟩];omega) ?_;cases rev
     · refine gd 117 ⟨?_⟩;refine ZH rfl rfl (Z5d (w3:Int) (w4:Int) (mkN n) (by omega)) ⟨Yt,Yt,Yt,Yt⟩ rfl ?_;rintro r ⟨c,hc1,hc2,rfl⟩;refine gd 123 ⟨?_⟩
       refine ZD (ZB (k:=3) (m := [ruR (RU.mk false c (1+w2 % n) i)]) (fl:=true) rfl rfl rfl (fun q hq=>by rw [Y0g] at hq; subst hq; rfl) rfl (by
        show ((rs.map ruR).length+1)*40≤_
        rw [Y0f];omega)) rfl rfl ?_
       refine go ?_
       refine⟨(i+1,t+1+1+1+1,rs ++ [(RU.mk false c (1+w2 % n) i)]),mv 3 5,⟨by show i+1≤cnt; omega,by show t+1+1+1+1≤4+4*(i+1); omega,by rw [Y0e,hrl]; rfl,fun r hr=>(Y0h.1 hr).elim (hro r) fun e=>by
        rw [Y0g] at e; subst e
        exact RuOk.mk0 hn2.2 hc1 hm62 hc2 ⟨by omega,by omega⟩ (fun h=>by cases h)⟩,by show cnt-(i+1)<cnt-i; omega,fun i hi=>absurd hi (Nat.not_lt_zero i),Zw rfl,
        ⟨⟨_,rfl,.ptr (ρ:=mv 3 5) 0 0 0 (by decide)⟩,⟨_,rfl,.ptr (ρ:=mv 3 5) 1 0 0 (by decide)⟩,⟨_,rfl,.ptr (ρ:=mv 3 5) 2 0 0 (by decide)⟩,⟨_,rfl,.pure _ Yt⟩,⟨_,rfl,.pure _ Yt⟩,⟨_,by show some _=some _; rw [hinc],.pure _ Yt⟩,Yt⟩,
        ⟨⟨by decide,_,rfl,.same _ ⟨⟨Yt,Yt,Yt,Yt,Yt,Yt,Yt⟩,Yt⟩⟩,⟨by decide,_,rfl,.same _ (ZC p fl _)⟩,⟨by decide,_,rfl,RenB.single ⟨.pure _ Yt,.pure _ (Zh l),.pure _ Yt,.own (ρ:=mv 3 5) 3 (by decide),.pure _ Yt,.pure _ Yt,Yt⟩ rfl⟩,⟨by decide,_,rfl,?_⟩,Yt⟩⟩
       show RenB _ _ ⟨5,rs.map ruR ++ [ruR (RU.mk false c (1+w2 % n) i)]⟩ ⟨5,(rs ++ [(RU.mk false c (1+w2 % n) i)]).map ruR⟩;rw [Y0r];exact .same _ (by rw [← List.map_singleton,← Y0r]; exact Z1n _)
     · refine gd 123 ⟨?_⟩
       refine ZD (ZB (k:=3) (m := [ruR (RU.mk true (0,0) (1+w2 % n) i)]) (fl:=true) rfl rfl rfl (fun q hq=>by rw [Y0g] at hq; subst hq; rfl) rfl (by
        show ((rs.map ruR).length+1)*40≤_
        rw [Y0f];omega)) rfl rfl ?_
       refine go ?_
       refine⟨(i+1,t+1+1+1+1,rs ++ [(RU.mk true (0,0) (1+w2 % n) i)]),mv 3 5,⟨by show i+1≤cnt; omega,by show t+1+1+1+1≤4+4*(i+1); omega,by rw [Y0e,hrl]; rfl,fun r hr=>(Y0h.1 hr).elim (hro r) fun e=>by
        rw [Y0g] at e; subst e
        exact RuOk.mk0 hn2.2 ⟨Nat.zero_or _,Nat.zero_or _⟩ hm62 rfl ⟨by omega,by omega⟩ (fun h=>rfl)⟩,by show cnt-(i+1)<cnt-i; omega,fun i hi=>absurd hi (Nat.not_lt_zero i),Zw rfl,
        ⟨⟨_,rfl,.ptr (ρ:=mv 3 5) 0 0 0 (by decide)⟩,⟨_,rfl,.ptr (ρ:=mv 3 5) 1 0 0 (by decide)⟩,⟨_,rfl,.ptr (ρ:=mv 3 5) 2 0 0 (by decide)⟩,⟨_,rfl,.pure _ Yt⟩,⟨_,rfl,.pure _ Yt⟩,⟨_,by show some _=some _; rw [hinc],.pure _ Yt⟩,Yt⟩,
        ⟨⟨by decide,_,rfl,.same _ ⟨⟨Yt,Yt,Yt,Yt,Yt,Yt,Yt⟩,Yt⟩⟩,⟨by decide,_,rfl,.same _ (ZC p fl _)⟩,⟨by decide,_,rfl,RenB.single ⟨.pure _ Yt,.pure _ (Zh l),.pure _ Yt,.own (ρ:=mv 3 5) 3 (by decide),.pure _ Yt,.pure _ Yt,Yt⟩ rfl⟩,⟨by decide,_,rfl,?_⟩,Yt⟩⟩
       show RenB _ _ ⟨5,rs.map ruR ++ [ruR (RU.mk true (0,0) (1+w2 % n) i)]⟩ ⟨5,(rs ++ [(RU.mk true (0,0) (1+w2 % n) i)]).map ruR⟩;rw [Y0r];exact .same _ (by rw [← List.map_singleton,← Y0r]; exact Z1n _)
   · have hil : i = cnt := by have := of_decide_eq_false hb; omega
     clear hb hinc;rw [hil] at hrl;have ht28:t≤28:=by omega
     clear hi hil ht;refine gd 126 ⟨?_⟩;refine ZM (ZO p hp fl t (by omega)) rfl rfl rfl rfl (ZC p fl _) Yt ?_;rintro r b' - - ⟨w1,hw1,rfl,rfl⟩;refine Zi (ZX (ob:=2) (id:=3) (i0:=0) (j0:=3) rfl rfl (by decide) (Z1n rs) (Nat.le_of_ble_eq_true rfl) (Nat.le_of_ble_eq_true rfl) rfl) ?_;refine Z8 rfl rfl rfl (Z3b w1 4) ?_;have hv4:=Nat.mod_lt w1 (show 0<4 by decide);generalize w1 % 4=nvc at hv4 ⊢;clear hw1;refine gd 129 ⟨?_⟩;refine ZM (ZO p hp fl (t+1) (by omega)) rfl rfl rfl rfl (ZC p fl _) Yt ?_;rintro r b' - - ⟨w1,hw1,rfl,rfl⟩;refine Z8 rfl rfl rfl (Z3b w1 3) ?_;have hv3:=Nat.mod_lt w1 (show 0<3 by decide);refine Z8 rfl rfl rfl (show IntKind.i64.wrap (1+((w1 % 3:Nat):Int))=((1+w1 % 3:Nat):Int) from by rw [Y0v _ ⟨by omega,by omega⟩];omega) ?_;obtain⟨glc,hglc⟩:∃ g,1+w1 % 3=g:=⟨_,rfl⟩
     rw [hglc];have hgl3:1≤glc∧glc≤3:=by omega
     clear hglc hv3 hw1;refine gd 19 ⟨?_⟩;refine Zi (Z24 (id:=2) (i0:=0) (j0:=4) rfl (Nat.le_of_ble_eq_true rfl) (Nat.le_of_ble_eq_true rfl) rfl 2 (by decide) (by decide)) ?_;refine go ?_;refine ZJ hC (fun (z:Nat×Nat×List Cu)=>z.1≤nvc∧z.2.1≤30+2*z.1∧z.2.2.length≤z.1∧∀ c∈z.2.2,InM (mkN n) c∧emC c=false∧hoC c (clo l s)=false) (fun z=>nvc-z.1) 5 (fun z => [(2,.ptr 0 0 0),(3,.ptr 1 0 0),(4,.ptr 2 0 0),(5,.val (.int .u8 (mkN n:Nat))),(17,.val (.int .i64 (nvc:Int))),(18,.val (.int .i64 (glc:Int))),(19,Yv z.1)])
      (fun z => [(0,⟨6,[zpv [.int .i64 0,.slice none 0 0,.int .u64 0,.slice none 0 0,.slice none 0 0,.slice none 0 0]]⟩),(1,srcB p fl z.2.1),(2,⟨6,[[.val (.int .i64 (n:Int)),.vec (l.map prC) fk,.val (.int .u64 (s:Int)),.vec (rs.map ruR) false,.own 4,.vec [] true]]⟩),(4,⟨2,z.2.2.map raC⟩)]) (Y0l _) (0,t+1+1,[]) ⟨Y0l _,by show t+1+1≤30+2*0; omega,Y0m _,fun r hr=>by cases hr⟩ (fun i=>i) (fun _ _=>rfl) Zu
      ⟨⟨_,rfl,.ptr (ρ:=fun i=>i) 0 0 0 (by decide)⟩,⟨_,rfl,.ptr (ρ:=fun i=>i) 1 0 0 (by decide)⟩,⟨_,rfl,.ptr (ρ:=fun i=>i) 2 0 0 (by decide)⟩,⟨_,rfl,.pure _ Yt⟩,⟨_,rfl,.pure _ Yt⟩,⟨_,rfl,.pure _ Yt⟩,⟨_,rfl,.pure _ Yt⟩,Yt⟩
      ⟨⟨by decide,_,rfl,.same _ ⟨⟨Yt,Yt,Yt,Yt,Yt,Yt,Yt⟩,Yt⟩⟩,⟨by decide,_,rfl,.same _ (ZC p fl _)⟩,⟨by decide,_,rfl,RenB.single ⟨.pure _ Yt,.pure _ (Zh l),.pure _ Yt,.pure _ (Z1n rs),.own (ρ:=fun i=>i) 4 (by decide),.pure _ Yt,Yt⟩ rfl⟩,⟨by decide,_,rfl,.same _ Yt⟩,Yt⟩ ?_
     clear ht28;rintro⟨i,t,nv⟩ ⟨hi,ht,hnl,hno⟩;dsimp only at hi ht hnl hno;have hinc:IntKind.i64.wrap ((i:Int)+1)=((i+1:Nat):Int):=Y0v _ ⟨by omega,by omega⟩;refine gd 134 ⟨?_⟩;refine Zt rfl rfl rfl (fun hb=>?_) (fun hb=>?_)
     · have hil : i < nvc := by have := Y0u hb; omega
       clear hb;refine gd 138 ⟨?_⟩;refine ZM (ZO p hp fl t (by omega)) rfl rfl rfl rfl (ZC p fl _) Yt ?_;rintro r b' - - ⟨w1,hw1,rfl,rfl⟩;refine gd 140 ⟨?_⟩;refine ZM (ZO p hp fl (t+1) (by omega)) rfl rfl rfl rfl (ZC p fl _) Yt ?_;rintro r b' - - ⟨w2,hw2,rfl,rfl⟩;refine gd 145 ⟨?_⟩;refine Z0 (ZbE rfl rfl (by omega)) rfl rfl ?_;rw [Z3b i n];have hw:=Nat.mod_lt i (show 0<n by omega);refine Z8 rfl rfl rfl (show IntKind.u64.wrap ((i % n:Nat):Int)=((i % n:Nat):Int) from Y0x _ ⟨by omega,by omega⟩) ?_;refine Z2B rfl rfl (by omega) rfl rfl ?_;refine gd 151 ⟨?_⟩;refine ZH rfl rfl (Z5d _ (w2:Int) (mkN n) (by omega)) ⟨Yt,Yt,Yt,Yt⟩ rfl ?_;rintro r ⟨c,hc1,hc2,rfl⟩;have hcl:=Z2h l fk hgl.small s (by omega);have hc64:=hc1.lt (by omega);have hho:=Z28 c (clo l s) hc64 (Z4M _ _);refine gd 157 ⟨?_⟩;refine Zy hcl rfl rfl rfl ⟨Zh _,Yt,Yt⟩ ?_;refine Zy hho rfl rfl rfl ⟨Z1j c,Yt,Yt⟩ ?_;cases hb:hoC c (clo l s)
       · refine gd 164 ⟨?_⟩
         refine ZD (ZB (k:=4) (m := [raC c]) (fl:=true) rfl rfl rfl (fun q hq=>by rw [Y0g] at hq; subst hq; rfl) rfl (by
         show ((nv.map raC).length+1)*16≤_
         rw [Y0f];omega)) rfl rfl ?_
         refine go ?_
         refine⟨(i+1,t+1+1,nv ++ [c]),mv 4 14,⟨by show i+1≤nvc; omega,by show t+1+1≤30+2*(i+1); omega,by rw [Y0e]; show nv.length+1≤i+1; omega,fun c' hc'=>(Y0h.1 hc').elim (hno c') fun e=>by rw [Y0g] at e; subst e; exact⟨hc1,hc2,hb⟩⟩,by show nvc-(i+1)<nvc-i; omega,fun i hi=>absurd hi (Nat.not_lt_zero i),Zw rfl,
          ⟨⟨_,rfl,.ptr (ρ:=mv 4 14) 0 0 0 (by decide)⟩,⟨_,rfl,.ptr (ρ:=mv 4 14) 1 0 0 (by decide)⟩,⟨_,rfl,.ptr (ρ:=mv 4 14) 2 0 0 (by decide)⟩,⟨_,rfl,.pure _ Yt⟩,⟨_,rfl,.pure _ Yt⟩,⟨_,rfl,.pure _ Yt⟩,⟨_,by show some _=some _; rw [hinc],.pure _ Yt⟩,Yt⟩,
          ⟨⟨by decide,_,rfl,.same _ ⟨⟨Yt,Yt,Yt,Yt,Yt,Yt,Yt⟩,Yt⟩⟩,⟨by decide,_,rfl,.same _ (ZC p fl _)⟩,⟨by decide,_,rfl,RenB.single ⟨.pure _ Yt,.pure _ (Zh l),.pure _ Yt,.pure _ (Z1n rs),.own (ρ:=mv 4 14) 4 (by decide),.pure _ Yt,Yt⟩ rfl⟩,⟨by decide,_,rfl,?_⟩,Yt⟩⟩
         show RenB _ _ ⟨2,nv.map raC ++ [raC c]⟩ ⟨2,(nv ++ [c]).map raC⟩;rw [Y0r];exact .same _ (by rw [← List.map_singleton,← Y0r]; exact Z1a _)
       · refine go ?_
         exact⟨(i+1,t+1+1,nv),fun i=>i,⟨by show i+1≤nvc; omega,by show t+1+1≤30+2*(i+1); omega,by show nv.length≤i+1; omega,hno⟩,by show nvc-(i+1)<nvc-i; omega,fun i hi=>rfl,Zu,
          ⟨⟨_,rfl,.ptr (ρ:=fun i=>i) 0 0 0 (by decide)⟩,⟨_,rfl,.ptr (ρ:=fun i=>i) 1 0 0 (by decide)⟩,⟨_,rfl,.ptr (ρ:=fun i=>i) 2 0 0 (by decide)⟩,⟨_,rfl,.pure _ Yt⟩,⟨_,rfl,.pure _ Yt⟩,⟨_,rfl,.pure _ Yt⟩,⟨_,by show some _=some _; rw [hinc],.pure _ Yt⟩,Yt⟩,
          ⟨⟨by decide,_,rfl,.same _ ⟨⟨Yt,Yt,Yt,Yt,Yt,Yt,Yt⟩,Yt⟩⟩,⟨by decide,_,rfl,.same _ (ZC p fl _)⟩,⟨by decide,_,rfl,RenB.single ⟨.pure _ Yt,.pure _ (Zh l),.pure _ Yt,.pure _ (Z1n rs),.own (ρ:=fun i=>i) 4 (by decide),.pure _ Yt,Yt⟩ rfl⟩,⟨by decide,_,rfl,.same _ (Z1a _)⟩,Yt⟩⟩
     · have hil : i = nvc := by have := of_decide_eq_false hb; omega
       clear hb hinc;rw [hil] at hnl;have ht40:t≤40:=by omega
       clear hi hil ht;refine gd 23 ⟨?_⟩;refine Zi (ZX (ob:=2) (id:=4) (i0:=0) (j0:=4) rfl rfl (by decide) (Z1a nv) (Nat.le_of_ble_eq_true rfl) (Nat.le_of_ble_eq_true rfl) rfl) ?_;refine Zi (Z24 (id:=2) (i0:=0) (j0:=5) rfl (Nat.le_of_ble_eq_true rfl) (Nat.le_of_ble_eq_true rfl) rfl 2 (by decide) (by decide)) ?_;refine go ?_;refine ZJ hC (fun (z:Nat×Nat×List Cu)=>z.1≤glc∧z.2.1≤40+2*z.1∧z.2.2.length=z.1∧∀ c∈z.2.2,InM (mkN n) c∧emC c=false) (fun z=>glc-z.1) 6 (fun z => [(2,.ptr 0 0 0),(3,.ptr 1 0 0),(4,.ptr 2 0 0),(5,.val (.int .u8 (mkN n:Nat))),(18,.val (.int .i64 (glc:Int))),(23,Yv z.1)])
        (fun z => [(0,⟨6,[zpv [.int .i64 0,.slice none 0 0,.int .u64 0,.slice none 0 0,.slice none 0 0,.slice none 0 0]]⟩),(1,srcB p fl z.2.1),(2,⟨6,[[.val (.int .i64 (n:Int)),.vec (l.map prC) fk,.val (.int .u64 (s:Int)),.vec (rs.map ruR) false,.vec (nv.map raC) false,.own 5]]⟩),(5,⟨2,z.2.2.map raC⟩)]) (Y0l _) (0,t,[]) ⟨Y0l _,by show t≤40+2*0; omega,rfl,fun r hr=>by cases hr⟩ (fun i=>i) (fun _ _=>rfl) Zu
        ⟨⟨_,rfl,.ptr (ρ:=fun i=>i) 0 0 0 (by decide)⟩,⟨_,rfl,.ptr (ρ:=fun i=>i) 1 0 0 (by decide)⟩,⟨_,rfl,.ptr (ρ:=fun i=>i) 2 0 0 (by decide)⟩,⟨_,rfl,.pure _ Yt⟩,⟨_,rfl,.pure _ Yt⟩,⟨_,rfl,.pure _ Yt⟩,Yt⟩
        ⟨⟨by decide,_,rfl,.same _ ⟨⟨Yt,Yt,Yt,Yt,Yt,Yt,Yt⟩,Yt⟩⟩,⟨by decide,_,rfl,.same _ (ZC p fl _)⟩,⟨by decide,_,rfl,RenB.single ⟨.pure _ Yt,.pure _ (Zh l),.pure _ Yt,.pure _ (Z1n rs),.pure _ (Z1a nv),.own (ρ:=fun i=>i) 5 (by decide),Yt⟩ rfl⟩,⟨by decide,_,rfl,.same _ Yt⟩,Yt⟩ ?_
       clear ht40;rintro⟨i,t,gs⟩ ⟨hi,ht,hgn,hgo⟩;dsimp only at hi ht hgn hgo;have hinc:IntKind.i64.wrap ((i:Int)+1)=((i+1:Nat):Int):=Y0v _ ⟨by omega,by omega⟩;refine gd 168 ⟨?_⟩;refine Zt rfl rfl rfl (fun hb=>?_) (fun hb=>?_)
       · have hil : i < glc := by have := Y0u hb; omega
         clear hb;refine gd 172 ⟨?_⟩;refine ZM (ZO p hp fl t (by omega)) rfl rfl rfl rfl (ZC p fl _) Yt ?_;rintro r b' - - ⟨w1,hw1,rfl,rfl⟩;refine gd 174 ⟨?_⟩;refine ZM (ZO p hp fl (t+1) (by omega)) rfl rfl rfl rfl (ZC p fl _) Yt ?_;rintro r b' - - ⟨w2,hw2,rfl,rfl⟩;refine gd 180 ⟨?_⟩;refine Z2r rfl rfl (.inl rfl) (Z5d (w1:Int) (w2:Int) (mkN n) (by omega)) ⟨Yt,Yt,Yt,Yt⟩ ?_;rintro r ⟨c,hc1,hc2,rfl⟩;refine gd 182 ⟨?_⟩
         refine Ze (ZB (k:=5) (m := [raC c]) (fl:=true) rfl rfl rfl (fun q hq=>by rw [Y0g] at hq; subst hq; rfl) rfl (by
          show ((gs.map raC).length+1)*16≤_
          rw [Y0f];omega)) rfl rfl ?_
         refine go ?_
         refine⟨(i+1,t+1+1,gs ++ [c]),mv 5 13,⟨by show i+1≤glc; omega,by show t+1+1≤40+2*(i+1); omega,by rw [Y0e,hgn]; rfl,fun c' hc'=>(Y0h.1 hc').elim (hgo c') fun e=>by rw [Y0g] at e; subst e; exact⟨hc1,hc2⟩⟩,by show glc-(i+1)<glc-i; omega,fun i hi=>absurd hi (Nat.not_lt_zero i),Zw rfl,
          ⟨⟨_,rfl,.ptr (ρ:=mv 5 13) 0 0 0 (by decide)⟩,⟨_,rfl,.ptr (ρ:=mv 5 13) 1 0 0 (by decide)⟩,⟨_,rfl,.ptr (ρ:=mv 5 13) 2 0 0 (by decide)⟩,⟨_,rfl,.pure _ Yt⟩,⟨_,rfl,.pure _ Yt⟩,⟨_,by show some _=some _; rw [hinc],.pure _ Yt⟩,Yt⟩,
          ⟨⟨by decide,_,rfl,.same _ ⟨⟨Yt,Yt,Yt,Yt,Yt,Yt,Yt⟩,Yt⟩⟩,⟨by decide,_,rfl,.same _ (ZC p fl _)⟩,⟨by decide,_,rfl,RenB.single ⟨.pure _ Yt,.pure _ (Zh l),.pure _ Yt,.pure _ (Z1n rs),.pure _ (Z1a nv),.own (ρ:=mv 5 13) 5 (by decide),Yt⟩ rfl⟩,⟨by decide,_,rfl,?_⟩,Yt⟩⟩
         show RenB _ _ ⟨2,gs.map raC ++ [raC c]⟩ ⟨2,(gs ++ [c]).map raC⟩;rw [Y0r];exact .same _ (by rw [← List.map_singleton,← Y0r]; exact Z1a _)
       · have hil : i = glc := by have := of_decide_eq_false hb; omega
         clear hb hinc;rw [hil] at hgn;refine gd 184 ⟨?_⟩;refine Zi (ZX (ob:=2) (id:=5) (i0:=0) (j0:=5) rfl rfl (by decide) (Z1a gs) (Nat.le_of_ble_eq_true rfl) (Nat.le_of_ble_eq_true rfl) rfl) ?_;refine go ?_;have hlo1:lowLL (l.map prC)=l.map prC:=Z4Q (fun _=>rfl) l;have hlo2:lowLL (rs.map ruR)=rs.map ruR:=Z4Q (fun _=>rfl) rs;have hlo3:∀ x:List Cu,lowLL (x.map raC)=x.map raC:=Z4Q (fun _=>rfl);have hcI:∀ c:Cu,InM (mkN n) c→InM 62 c:=fun c hc=>⟨Z3W hc.1 hm62,Z3W hc.2 hm62⟩
         have hOk:MkOk ⟨n,l,s,rs,nv,gs⟩:=by
          refine⟨⟨⟨by show 1≤n; omega,by show n≤63; omega⟩,hgl,fun p hp=>?_,hs1,by show rs.length≤64; omega,hro,by show nv.length≤64; omega,fun c hc=>⟨(hno c hc).1.inC (hno c hc).2.1,hcI c (hno c hc).1⟩,by show gs.length≤64; omega,fun c hc=>⟨(hgo c hc).1.inC (hgo c hc).2,hcI c (hgo c hc).1⟩,?_⟩,hn2,by show rs.length≤6; omega,by show nv.length≤3; omega,by show 1≤gs.length∧gs.length≤3; omega⟩
          · have := hlm p hp;show p.1≤n∧p.2≤n∧p.1≤5∧p.2≤5;omega
          · show soC nv (clo l s) = false;refine Bool.eq_false_iff.2 fun h=>?_;obtain⟨c,hc,h⟩:=Y01.1 h;rw [(hno c hc).2.2] at h; cases h
         have he:(PV.agg [.val (.int .i64 (n:Int)),.vec (l.map prC) fk,.val (.int .u64 (s:Int)),.vec (rs.map ruR) false,.vec (nv.map raC) false,.vec (gs.map raC) false]).low=.agg (pbR ⟨n,l,s,rs,nv,gs⟩):=by
          show PV.agg [.val (.int .i64 (n:Int)),.vec (lowLL (l.map prC)) false,.val (.int .u64 (s:Int)),.vec (lowLL (rs.map ruR)) false,.vec (lowLL (nv.map raC)) false,.vec (lowLL (gs.map raC)) false]=_;rw [hlo1,hlo2,hlo3,hlo3]; rfl
         refine Z1y (r:=.agg [.val (.int .i64 (n:Int)),.vec (l.map prC) fk,.val (.int .u64 (s:Int)),.vec (rs.map ruR) false,.vec (nv.map raC) false,.vec (gs.map raC) false]) rfl ?_ ⟨_,hOk,he⟩;rw [he];exact Z11 _
theorem Z3X (l:List RU):(l.map ruR).length=l.length:=by simp
theorem Z5x:∀ {l m:List Pr},SortedP l→SortedP m→l.Perm m→l=m
 | [],m,_,_,h=>(List.Perm.nil_eq h)
 | a :: l,[],_,_,h=>by have:=h.length_eq; simp at this
 | a :: l, b :: m, h1, h2, h => by
   have h1':=List.pairwise_cons.1 h1;have h2':=List.pairwise_cons.1 h2;have hab:a=b:=by
    rcases List.mem_cons.1 (h.mem_iff.1 (Y0t (a:=a) (l:=l))) with e|ha
    · exact e
    rcases List.mem_cons.1 (h.mem_iff.2 (Y0t (a:=b) (l:=m))) with e|hb
    · exact e.symm
    have x1:=h1'.1 b hb;have x2:=h2'.1 a ha;omega
   subst hab;rw [Z5x h1'.2 h2'.2 (List.Perm.cons_inv h)]
theorem SortedP.tk {l:List Pr} (h:SortedP l) (i:Nat):SortedP (l.take i):=List.Pairwise.sublist (List.take_sublist i l) h
theorem SortedP.nd {l:List Pr} (h:SortedP l):l.Nodup:=List.Pairwise.imp (fun {a b} h e=>by subst e;omega) h
theorem ZbF {l:List Pr} (h:GoodL l):l.length≤4096:=by
 have hn:(l.map fun p=>p.1*64+p.2).Nodup:=by
  rw [List.nodup_iff_pairwise_ne,List.pairwise_map];refine List.Pairwise.imp_of_mem (fun {a b} ha hb hab=>?_) h.asc;have h1:=h.small a ha;have h2:=h.small b hb;show a.1*64+a.2≠b.1*64+b.2;omega
 have:=Z4F 4096 _ hn fun x hx=>by
  obtain⟨p,hp,rfl⟩:=Y0i.1 hx;have:=h.small p hp;show p.1*64+p.2<4096;omega
 rwa [Y0f] at this
theorem Z2n {α:Type} {l:List α} {i:Nat} (hi:i<l.length):l.take (i+1)=l.take i ++ [l[i]]:=by rw [List.take_add_one,Y0c hi]; rfl
theorem Z96 {t:PB} (h:PbOk t):Spec Tryz.prog 21 [.agg (pbR t)] fun r=>∃ S,r=.tup [.agg (pbP t S),.val (.bool true)]:=by
 have hpr:=Z11 t;have hgl:=h.good;have hll:=ZbF hgl;have hnl:=Z2b t.l;have hst:t.st<18446744073709551616:=by
  have h1:t.st≤mkN t.n:=by rw [← h.st]; exact Nat.left_le_or
  have:=Z6o h.n.2;omega
 have hpl:∀ D,innLL D (t.l.map prC):=fun D=>Z9 (fun _ h=>h.elim) _ (Zh t.l);have hpc:∀ D,innL D (pbR t):=fun D=>Zm (fun _ h=>h.elim) _ hpr;have hhp:∀ D l S,(hierP l S).inn D:=fun D l S=>PV.inn_mono (fun _ h=>h.elim) _ (ZE l S);have hcu:∀ (l:List Cu) D,innLL D (l.map cuC):=fun l D=>Z9 (fun _ h=>h.elim) _ (Z1v l);refine Yp ok21 fun C hC=>?_;refine Zs ?_;refine Zc ?_;refine Z4 rfl rfl rfl ?_;refine gd 13 ⟨?_⟩;refine Z2r rfl rfl (.inl rfl) Z5w Yt ?_;rintro r ⟨S0,rfl⟩;refine gd 16 ⟨?_⟩;refine Zy (Z5c t.st hst) rfl rfl rfl ⟨Yt,Yt⟩ ?_;refine gd 19 ⟨?_⟩;refine Zy (Z3v t.nv false h.nv64 (by have:=h.nl;omega)) rfl rfl rfl ⟨Z1a _,Yt⟩ ?_;refine gd 22 ⟨?_⟩;refine Zy (Z3v t.gl false h.gl64 (by have:=h.gk;omega)) rfl rfl rfl ⟨Z1a _,Yt⟩ ?_;refine go ?_;refine Zn hC (fun (z:Nat×List Nat)=>z.1≤t.l.length) (fun z=>t.l.length-z.1) 16 (fun z => [(1,.cp (pbR t)),(2,.ptr 0 0 0),(4,.ptr 14 0 0),(25,.vec (t.l.map prC) false),(26,.val (.int .i64 t.l.length)),(27,Yv z.1)])
  (fun z => [(0,⟨6,[zpv [.int .i64 0,.pointer none,.slice none 0 0,.slice none 0 0,.slice none 0 0,.slice none 0 0]]⟩),(14,⟨6,[[.val (.int .i64 (t.n:Int)),hierP (t.l.take z.1) z.2,.vec (words (digs t.st)) false,.vec [] true,.vec (t.nv.map cuC) false,.vec (t.gl.map cuC) false]]⟩)]) (Y0l _) (0,S0) (Y0l _)
  ⟨⟨rfl,hpc _⟩,⟨rfl,show (0:Nat)<16 by decide⟩,⟨rfl,show (14:Nat)<16 by decide⟩,⟨rfl,hpl _⟩,⟨by rw [← hnl]; rfl,Yt⟩,⟨rfl,Yt⟩,Yt⟩
  ⟨⟨by decide,rfl,⟨⟨Yt,Yt,Yt,Yt,Yt,Yt,Yt⟩,Yt⟩⟩,⟨by decide,rfl,⟨⟨Yt,hhp _ _ _,ZU _ _,Yt,hcu _ _,hcu _ _,Yt⟩,Yt⟩⟩,Yt⟩ ?_
 rintro⟨i,S⟩ hi;dsimp only at hi;have hinc:IntKind.i64.wrap ((i:Int)+1)=((i+1:Nat):Int):=Y0v _ ⟨by omega,by omega⟩;refine gd 28 ⟨?_⟩;refine Zt rfl rfl rfl (fun hb=>?_) (fun hb=>?_)
 · have hil : i < t.l.length := by have := Y0u hb; omega
   have htk:=Z2n hil;have hro:=hgl.role _ (Y0j hil);have hsub:∀ p∈t.l.take i ++ [t.l[i]],p∈t.l:=fun p hp=>by rw [← htk] at hp; exact List.mem_of_mem_take hp
   have hno:t.l[i] ∉ t.l.take i:=fun h=>by
    have hnd:=SortedP.nd (SortedP.tk hgl.asc (i+1));rw [htk,List.nodup_append] at hnd;exact hnd.2.2 _ h _ (Y0g.2 rfl) rfl
   clear hb;refine go ?_;refine Z0 (Zo (xs:=t.l) (g:=prC) rfl rfl i rfl hil rfl) rfl rfl ?_;generalize t.l[i]=p at htk hro hsub hno ⊢;have hls:=Zev (t.l.take i) S p.1 p.2 (by omega) (by omega) hro.2.2.2.2 (fun q hq=>hgl.small q (List.mem_of_mem_take hq)) (SortedP.nd (SortedP.tk hgl.asc i)) hno (hgl.acy.sub hsub) (by rw [Y0o];omega);refine gd 38 ⟨?_⟩;refine ZH rfl rfl hls ⟨ZE _ _,Yt,Yt,Yt⟩ rfl ?_;rintro r ⟨l',S',hpm,hst,rfl⟩;have hle:l'=t.l.take (i+1):=by
    have hx1:l'.Perm (t.l.take (i+1)):=by rw [htk]; exact hpm
    exact Z5x hst (SortedP.tk hgl.asc (i+1)) hx1
   subst hle;refine go ?_
   exact⟨(i+1,S'),hil,by show t.l.length-(i+1)<t.l.length-i; omega,⟨⟨rfl,hpc _⟩,⟨rfl,show (0:Nat)<16 by decide⟩,⟨rfl,show (14:Nat)<16 by decide⟩,⟨rfl,hpl _⟩,⟨rfl,Yt⟩,⟨by show some _=some _; rw [hinc],Yt⟩,Yt⟩,
    ⟨⟨by decide,rfl,⟨⟨Yt,Yt,Yt,Yt,Yt,Yt,Yt⟩,Yt⟩⟩,⟨by decide,rfl,⟨⟨Yt,hhp _ _ _,ZU _ _,Yt,hcu _ _,hcu _ _,Yt⟩,Yt⟩⟩,Yt⟩⟩
 · have hil : i = t.l.length := by have := of_decide_eq_false hb; omega
   subst hil;clear hb hinc hi;rw [Y0q];refine gd 50 ⟨?_⟩;refine Zi (Z24 (id:=14) (i0:=0) (j0:=3) rfl (Nat.le_of_ble_eq_true rfl) (Nat.le_of_ble_eq_true rfl) rfl 5 (by decide) (by decide)) ?_;refine go ?_;have hnr:=Z3X t.rs;have hrl:=h.rl;refine ZJ hC (fun (i:Nat)=>i≤t.rs.length) (fun i=>t.rs.length-i) 17 (fun i => [(2,.ptr 0 0 0),(4,.ptr 14 0 0),(48,.vec (t.rs.map ruR) false),(49,.val (.int .i64 (t.rs.length:Int))),(50,Yv i)])
    (fun i => [(0,⟨6,[zpv [.int .i64 0,.pointer none,.slice none 0 0,.slice none 0 0,.slice none 0 0,.slice none 0 0]]⟩),(14,⟨6,[[.val (.int .i64 (t.n:Int)),hierP t.l S,.vec (words (digs t.st)) false,.own 16,.vec (t.nv.map cuC) false,.vec (t.gl.map cuC) false]]⟩),(16,⟨5,(t.rs.take i).map ruP⟩)]) (Y0l _) 0 (Y0l _) (fun i=>i) (fun _ _=>rfl) Zu
    ⟨⟨_,rfl,.ptr (ρ:=fun i=>i) 0 0 0 (by decide)⟩,⟨_,rfl,.ptr (ρ:=fun i=>i) 14 0 0 (by decide)⟩,⟨_,rfl,.pure _ (Z1n _)⟩,⟨_,by rw [← hnr]; rfl,.pure _ Yt⟩,⟨_,rfl,.pure _ Yt⟩,Yt⟩
    ⟨⟨by decide,_,rfl,.same _ ⟨⟨Yt,Yt,Yt,Yt,Yt,Yt,Yt⟩,Yt⟩⟩,⟨by decide,_,rfl,RenB.single ⟨.pure _ Yt,.pure _ (ZE _ _),.pure _ (Zk _),.own (ρ:=fun i=>i) 16 (by decide),.pure _ (Z1v _),.pure _ (Z1v _),Yt⟩ rfl⟩,⟨by decide,_,rfl,.same _ Yt⟩,Yt⟩ ?_
   intro i hi;have hinc:IntKind.i64.wrap ((i:Int)+1)=((i+1:Nat):Int):=Y0v _ ⟨by omega,by omega⟩;refine gd 51 ⟨?_⟩;by_cases hil:i<t.rs.length
   · have htk := Z2n hil;have hcu64:=(h.rs _ (Y0j hil)).cu.lt h.n.2;refine Z0 (Z1 (v:=true) rfl (decide_eq_true (Int.ofNat_lt.2 hil))) rfl rfl ?_;refine go ?_;refine Z0 (Zo (xs:=t.rs) (g:=ruR) rfl rfl i rfl hil rfl) rfl rfl ?_;generalize t.rs[i]=x at htk hcu64 ⊢;refine gd 57 ⟨?_⟩;refine Ze rfl rfl rfl ?_;refine gd 60 ⟨?_⟩;refine Zy (Z6n x.cu hcu64) rfl rfl rfl ⟨Z1j _,Yt⟩ ?_;refine gd 67 ⟨?_⟩
     refine Ze (ZB (k:=16) (m := [ruP x]) (fl:=true) rfl rfl rfl (fun q hq=>by rw [Y0g] at hq; subst hq; rfl) rfl (by
      show (((t.rs.take i).map ruP).length+1)*72≤_
      rw [Y0f,Y0o];omega)) rfl rfl ?_
     refine go ?_
     refine⟨i+1,mv 16 31,hil,by show t.rs.length-(i+1)<t.rs.length-i; omega,fun i hi=>absurd hi (Nat.not_lt_zero i),Zw rfl,
      ⟨⟨_,rfl,.ptr (ρ:=mv 16 31) 0 0 0 (by decide)⟩,⟨_,rfl,.ptr (ρ:=mv 16 31) 14 0 0 (by decide)⟩,⟨_,rfl,.pure _ (Z1n _)⟩,⟨_,rfl,.pure _ Yt⟩,⟨_,by show some _=some _; rw [hinc],.pure _ Yt⟩,Yt⟩,
      ⟨⟨by decide,_,rfl,.same _ ⟨⟨Yt,Yt,Yt,Yt,Yt,Yt,Yt⟩,Yt⟩⟩,⟨by decide,_,rfl,RenB.single ⟨.pure _ Yt,.pure _ (ZE _ _),.pure _ (Zk _),.own (ρ:=mv 16 31) 16 (by decide),.pure _ (Z1v _),.pure _ (Z1v _),Yt⟩ rfl⟩,⟨by decide,_,rfl,?_⟩,Yt⟩⟩
     show RenB _ _ ⟨5,(t.rs.take i).map ruP ++ [ruP x]⟩ ⟨5,(t.rs.take (i+1)).map ruP⟩;rw [htk,Y0r];exact .same _ (by rw [← List.map_singleton,← Y0r]; exact Z2W _)
   · have hil : i = t.rs.length := by omega
     subst hil;rw [Y0q];refine Zi (ZX (ob:=14) (id:=16) (i0:=0) (j0:=3) rfl rfl (by decide) (Z2W t.rs) (Nat.le_of_ble_eq_true rfl) (Nat.le_of_ble_eq_true rfl) rfl) ?_;refine Z0 (Z1 (v:=false) rfl (Y0w (Int.lt_irrefl _))) rfl rfl ?_
     repeat' (first|refine Z2Z [] [(0,16)] [63,63,63,63,47,63] (by kernel_rfl) ?_|(first|refine st ?_|(apply B<;>intro hb<;>try cases hb)))
     exact Z5 rfl ⟨ZR t S,Yt,Yt⟩ ⟨S,rfl⟩
theorem ZcS (p:List Nat) (fl:Bool) (hp:Bytes p):Spec Tryz.prog 7 [.vec (bys p) fl] fun r=>∃ t S,MkOk t∧r=.tup [.agg (pbP t S),.agg (pbR t),.val (.bool true)]:=by
 refine Yp ok7 fun C hC=>?_;refine gd 9 ⟨?_⟩;refine ZH rfl rfl (Zax p fl hp) ⟨Zd p,Yt⟩ rfl ?_;rintro r ⟨t,ht,rfl⟩;have hpr:=Z11 t;refine gd 12 ⟨?_⟩;refine ZH rfl rfl (Z96 ht.ok) ⟨hpr,Yt⟩ rfl ?_;rintro r ⟨S,rfl⟩;have hpp:=ZR t S
 repeat' (first|refine Z2Z [] [(0,8)] [63,63,63,55,63,63] (by kernel_rfl) ?_|(first|refine st ?_|(apply B<;>intro hb<;>try cases hb)))
 exact Z5 rfl ⟨hpp,hpr,Yt,Yt⟩ ⟨t,S,ht,rfl⟩
theorem Zay {α:Type} (p:α→Bool) (xs:List α):(!xs.any fun x => !p x)=xs.all p:=by
 induction xs with
 | nil=>rfl
 | cons x xs ih=>rw [List.any_cons,List.all_cons,Bool.not_or,ih,Bool.not_not]
theorem Z6s {n:Nat} {e:Env} {h:Heap} {a:Operand} {l:List PV} (ha:ev e a=some (.agg l)) (hl:0<l.length):fEval (.box a) e h n=some (.cp l,h):=by
 simp only [fEval,ha];rw [if_pos (by show (true&&decide (0<l.length))=true; rw [decide_eq_true hl]; rfl)]
 rfl
theorem Z6t {α:Type} (xs:List α) (enc:α→List PV) (fl:Bool) (g:Nat) (caps:List PV) (p:α→Bool) (hl:∀ x,(enc x).length=5) (hp:∀ x,pureL (enc x)) (hc:pureL caps) (hg:∀ x∈xs,Spec Tryz.prog g (.agg (enc x) :: caps) (· = .val (.bool (p x)))) :
 Spec Tryz.prog 164 [.vec (xs.map enc) fl,.fn g caps] (· = .val (.int .i64 (idxI p xs))):=by
 refine Yp ok164 fun C hC=>?_;refine Z2S (k:=0) rfl fun hmax=>?_;have hnl:(xs.map enc).length=xs.length:=by simp
 have hlm:xs.length≤maxVec:=by simpa using hmax
 refine go ?_;refine Z31 (fun i=>i≤xs.length∧(xs.take i).any p=false) (fun i=>xs.length-i) (fun i => [(0,.vec (xs.map enc) fl),(1,.fn g caps),(7,.val (.int .i64 (xs.length:Int))),(8,Yv i)]) 0 ⟨Y0l _,rfl⟩ ⟨rfl,rfl,by rw [← hnl]; rfl,rfl,Yt⟩ ?_;rintro i ⟨hi,hno⟩;have hinc:IntKind.i64.wrap ((i:Int)+1)=((i+1:Nat):Int):=Y0v _ ⟨by omega,by simp only [maxVec] at hlm; omega⟩;(refine go ?_;repeat' (apply B<;>intro hb<;>try cases hb))
 · have hil : i < xs.length := by simpa using hb
   refine Z0 (Zo (xs:=xs) rfl rfl i rfl hil (hl _)) rfl rfl ?_;refine Z0 (Z3S rfl (hl _)) rfl rfl ?_;refine Z6 (hg _ (Y0j hil)) rfl rfl rfl ⟨hp _,hc⟩ rfl ?_;refine Z1m ?_;refine Z3m rfl (fun hx=>?_) (fun hx=>?_)
   · refine go ?_;exact Z5 rfl Yt (by rw [Z4f hil hno hx])
   · (refine go ?_;repeat' (apply B<;>intro hb<;>try cases hb));exact⟨i+1,⟨by omega,Z38 hil hno hx⟩,by omega,rfl,rfl,⟨rfl,rfl,rfl,by show some _=some _; rw [hinc],Yt⟩⟩
 · have hil : i = xs.length := by simp at hb; omega
   subst hil;rw [Y0q] at hno;exact Z5 rfl Yt (by rw [Z27 hno]; rfl)
theorem Z4R {α:Type} (xs:List α) (enc:α→List PV) (fl:Bool) (g:Nat) (caps:List PV) (p:α→Bool) (hl:∀ x,(enc x).length=5) (hp:∀ x,pureL (enc x)) (hc:pureL caps) (hg:∀ x∈xs,Spec Tryz.prog g (.agg (enc x) :: caps) (· = .val (.bool (p x)))) :
 Spec Tryz.prog 137 [.vec (xs.map enc) fl,.fn g caps] (· = .val (.bool (xs.any p))):=by
 refine Yp ok137 fun C hC=>?_;refine go ?_;refine Z6 (Z6t xs enc fl g caps p hl hp hc hg) rfl rfl rfl ⟨Za hp xs,hc,Yt⟩ rfl ?_;refine Z0 (Z1 rfl (Z4I (p:=p) (xs:=xs))) rfl rfl ?_;(refine go ?_;repeat' (apply B<;>intro hb<;>try cases hb))
 all_goals exact Z5 rfl Yt (by rw [hb])
theorem Z6u {α:Type} (xs:List α) (enc:α→List PV) (fl:Bool) (g:Nat) (caps:List PV) (p:α→Bool) (hl:∀ x,(enc x).length=2) (hp:∀ x,pureL (enc x)) (hc:pureL caps) (hg:∀ x∈xs,Spec Tryz.prog g (.agg (enc x) :: caps) (· = .val (.bool (p x)))) :
 Spec Tryz.prog 186 [.vec (xs.map enc) fl,.fn g caps] (· = .val (.int .i64 (idxI p xs))):=by
 refine Yp ok186 fun C hC=>?_;refine Z2S (k:=0) rfl fun hmax=>?_;have hnl:(xs.map enc).length=xs.length:=by simp
 have hlm:xs.length≤maxVec:=by simpa using hmax
 refine go ?_;refine Z31 (fun i=>i≤xs.length∧(xs.take i).any p=false) (fun i=>xs.length-i) (fun i => [(0,.vec (xs.map enc) fl),(1,.fn g caps),(7,.val (.int .i64 (xs.length:Int))),(8,Yv i)]) 0 ⟨Y0l _,rfl⟩ ⟨rfl,rfl,by rw [← hnl]; rfl,rfl,Yt⟩ ?_;rintro i ⟨hi,hno⟩;have hinc:IntKind.i64.wrap ((i:Int)+1)=((i+1:Nat):Int):=Y0v _ ⟨by omega,by simp only [maxVec] at hlm; omega⟩;(refine go ?_;repeat' (apply B<;>intro hb<;>try cases hb))
 · have hil : i < xs.length := by simpa using hb
   refine Z0 (Zo (xs:=xs) rfl rfl i rfl hil (hl _)) rfl rfl ?_;refine Z0 (Z3S rfl (hl _)) rfl rfl ?_;refine Z6 (hg _ (Y0j hil)) rfl rfl rfl ⟨hp _,hc⟩ rfl ?_;refine Z1m ?_;refine Z3m rfl (fun hx=>?_) (fun hx=>?_)
   · refine go ?_;exact Z5 rfl Yt (by rw [Z4f hil hno hx])
   · (refine go ?_;repeat' (apply B<;>intro hb<;>try cases hb));exact⟨i+1,⟨by omega,Z38 hil hno hx⟩,by omega,rfl,rfl,⟨rfl,rfl,rfl,by show some _=some _; rw [hinc],Yt⟩⟩
 · have hil : i = xs.length := by simp at hb; omega
   subst hil;rw [Y0q] at hno;exact Z5 rfl Yt (by rw [Z27 hno]; rfl)
theorem Z4S {α:Type} (xs:List α) (enc:α→List PV) (fl:Bool) (g:Nat) (caps:List PV) (p:α→Bool) (hl:∀ x,(enc x).length=2) (hp:∀ x,pureL (enc x)) (hc:pureL caps) (hg:∀ x∈xs,Spec Tryz.prog g (.agg (enc x) :: caps) (· = .val (.bool (p x)))) :
 Spec Tryz.prog 161 [.vec (xs.map enc) fl,.fn g caps] (· = .val (.bool (xs.any p))):=by
 refine Yp ok161 fun C hC=>?_;refine go ?_;refine Z6 (Z6u xs enc fl g caps p hl hp hc hg) rfl rfl rfl ⟨Za hp xs,hc,Yt⟩ rfl ?_;refine Z0 (Z1 rfl (Z4I (p:=p) (xs:=xs))) rfl rfl ?_;(refine go ?_;repeat' (apply B<;>intro hb<;>try cases hb))
 all_goals exact Z5 rfl Yt (by rw [hb])
theorem ZcT {α:Type} (enc:α→List PV) (g:Nat) (caps:List PV) (p:α→Bool) (hl:∀ x,(enc x).length=5) (hp:∀ x,pureL (enc x)) (hc:pureL caps) (x:α) (hg:Spec Tryz.prog g (.agg (enc x) :: caps) (· = .val (.bool (p x)))) :
 Spec Tryz.prog 138 [.agg (enc x),.cp [.fn g caps]] (· = .val (.bool (!p x))):=by
 refine Yp ok138 fun C hC=>?_;refine Zs ?_;refine Zc ?_;refine Z4 (Z6s rfl (by rw [hl]; decide)) rfl rfl ?_;refine gd 5 ⟨?_⟩;refine Z0 (Z3S rfl (hl _)) rfl rfl ?_;refine Z6 hg rfl rfl rfl ⟨hp _,hc⟩ rfl ?_;generalize p x=b;cases b
 all_goals
  refine go ?_;exact Z5 rfl Yt rfl
theorem Z97 {α:Type} (xs:List α) (enc:α→List PV) (fl:Bool) (g:Nat) (caps:List PV) (p:α→Bool) (hl:∀ x,(enc x).length=5) (hp:∀ x,pureL (enc x)) (hc:pureL caps) (hg:∀ x∈xs,Spec Tryz.prog g (.agg (enc x) :: caps) (· = .val (.bool (p x)))) :
 Spec Tryz.prog 94 [.vec (xs.map enc) fl,.fn g caps] (· = .val (.bool (xs.all p))):=by
 have hcs:pureL [PV.cp [PV.fn g caps]]:=⟨⟨hc,Yt⟩,Yt⟩
 have h1:=Z4R xs enc fl 138 [.cp [.fn g caps]] (fun x => !p x) hl hp hcs fun x hx=>ZcT enc g caps p hl hp hc x (hg x hx);rw [← Zay];refine Yp ok94 fun C hC=>?_;refine Zs ?_;refine Zc ?_;refine Z4 rfl rfl rfl ?_;refine gd 7 ⟨?_⟩;refine Z6 h1 rfl rfl rfl ⟨Za hp xs,hcs,Yt⟩ rfl ?_;generalize (xs.any fun x => !p x)=b;cases b
 all_goals
  refine go ?_;exact Z5 rfl Yt rfl
theorem ZcU {α:Type} (enc:α→List PV) (g:Nat) (caps:List PV) (p:α→Bool) (hl:∀ x,(enc x).length=2) (hp:∀ x,pureL (enc x)) (hc:pureL caps) (x:α) (hg:Spec Tryz.prog g (.agg (enc x) :: caps) (· = .val (.bool (p x)))) :
 Spec Tryz.prog 162 [.agg (enc x),.cp [.fn g caps]] (· = .val (.bool (!p x))):=by
 refine Yp ok162 fun C hC=>?_;refine Zs ?_;refine Zc ?_;refine Z4 (Z6s rfl (by rw [hl]; decide)) rfl rfl ?_;refine gd 5 ⟨?_⟩;refine Z0 (Z3S rfl (hl _)) rfl rfl ?_;refine Z6 hg rfl rfl rfl ⟨hp _,hc⟩ rfl ?_;generalize p x=b;cases b
 all_goals
  refine go ?_;exact Z5 rfl Yt rfl
theorem Zey {α:Type} (xs:List α) (enc:α→List PV) (fl:Bool) (g:Nat) (caps:List PV) (p:α→Bool) (hl:∀ x,(enc x).length=2) (hp:∀ x,pureL (enc x)) (hc:pureL caps) (hg:∀ x∈xs,Spec Tryz.prog g (.agg (enc x) :: caps) (· = .val (.bool (p x)))) :
 Spec Tryz.prog 131 [.vec (xs.map enc) fl,.fn g caps] (· = .val (.bool (xs.all p))):=by
 have hcs:pureL [PV.cp [PV.fn g caps]]:=⟨⟨hc,Yt⟩,Yt⟩
 have h1:=Z4S xs enc fl 162 [.cp [.fn g caps]] (fun x => !p x) hl hp hcs fun x hx=>ZcU enc g caps p hl hp hc x (hg x hx);rw [← Zay];refine Yp ok131 fun C hC=>?_;refine Zs ?_;refine Zc ?_;refine Z4 rfl rfl rfl ?_;refine gd 7 ⟨?_⟩;refine Z6 h1 rfl rfl rfl ⟨Za hp xs,hcs,Yt⟩ rfl ?_;generalize (xs.any fun x => !p x)=b;cases b
 all_goals
  refine go ?_;exact Z5 rfl Yt rfl
theorem ZcV {α:Type} (enc:α→List PV) (g:Nat) (caps:List PV) (p:α→Bool) (hl:∀ x,(enc x).length=2) (hp:∀ x,pureL (enc x)) (hc:pureL caps) (x:α) (hg:Spec Tryz.prog g (.agg (enc x) :: caps) (· = .val (.bool (p x)))) :
 Spec Tryz.prog 163 [.agg (enc x),.cp [.fn g caps]] (· = .val (.bool (!p x))):=by
 refine Yp ok163 fun C hC=>?_;refine Zs ?_;refine Zc ?_;refine Z4 (Z6s rfl (by rw [hl]; decide)) rfl rfl ?_;refine gd 5 ⟨?_⟩;refine Z0 (Z3S rfl (hl _)) rfl rfl ?_;refine Z6 hg rfl rfl rfl ⟨hp _,hc⟩ rfl ?_;generalize p x=b;cases b
 all_goals
  refine go ?_;exact Z5 rfl Yt rfl
theorem Zez {α:Type} (xs:List α) (enc:α→List PV) (fl:Bool) (g:Nat) (caps:List PV) (p:α→Bool) (hl:∀ x,(enc x).length=2) (hp:∀ x,pureL (enc x)) (hc:pureL caps) (hg:∀ x∈xs,Spec Tryz.prog g (.agg (enc x) :: caps) (· = .val (.bool (p x)))) :
 Spec Tryz.prog 134 [.vec (xs.map enc) fl,.fn g caps] (· = .val (.bool (xs.all p))):=by
 have hcs:pureL [PV.cp [PV.fn g caps]]:=⟨⟨hc,Yt⟩,Yt⟩
 have h1:=Z1M xs enc fl 163 [.cp [.fn g caps]] (fun x => !p x) hl hp hcs fun x hx=>ZcV enc g caps p hl hp hc x (hg x hx);rw [← Zay];refine Yp ok134 fun C hC=>?_;refine Zs ?_;refine Zc ?_;refine Z4 rfl rfl rfl ?_;refine gd 7 ⟨?_⟩;refine Z6 h1 rfl rfl rfl ⟨Za hp xs,hcs,Yt⟩ rfl ?_;generalize (xs.any fun x => !p x)=b;cases b
 all_goals
  refine go ?_;exact Z5 rfl Yt rfl
abbrev RI:=Bool×Cu×Int×Int
def ruI (x:RI):List PV := [.val (.bool x.1),.vec (words (digs x.2.1.1)) false,.vec (words (digs x.2.1.2)) false,.val (.int .i64 x.2.2.1),.val (.int .i64 x.2.2.2)]
def toI (r:RU):RI:=(r.rev,r.cu,(r.tg:Int),(r.og:Int))
theorem Z8i (x:RI):pureL (ruI x):=⟨Yt,Zk _,Zk _,Yt,Yt,Yt⟩
theorem Z3y (l:List RI):pureLL (l.map ruI):=Za Z8i l
noncomputable def prbI (n:Int) (l:List Pr) (S:List Nat) (s0:Nat) (rs:List RI) (nv gl:List Cu):List PV := [.val (.int .i64 n),hierP l S,.vec (words (digs s0)) false,.vec (rs.map ruI) false,.vec (nv.map cuC) false,.vec (gl.map cuC) false]
theorem Z6v (n:Int) (l:List Pr) (S:List Nat) (s0:Nat) (rs:List RI) (nv gl:List Cu):pureL (prbI n l S s0 rs nv gl):=⟨Yt,ZE _ _,Zk _,Z3y _,Z1v _,Z1v _,Yt⟩
theorem ZiP (t:PB) (S:List Nat):pbP t S=prbI t.n t.l S t.st (t.rs.map toI) t.nv t.gl:=by
 unfold pbP prbI;rw [List.map_map]; rfl
def cubI (rs:List RI) (nv gl:List Cu):List Cu:=rs.map (·.2.1)++nv++gl
theorem Z7t (n:Int) (l:List Pr) (S:List Nat) (s0:Nat) (rs:List RI) (nv gl:List Cu) (h1:rs.length≤10000) (h2:nv.length≤10000) (h3:gl.length≤10000):Spec Tryz.prog 93 [.agg (prbI n l S s0 rs nv gl)] (· = .vec ((cubI rs nv gl).map cuC) false):=by
 have hpp:=Z6v n l S s0 rs nv gl;have hrl:(rs.map ruI).length=rs.length:=by simp
 refine Yp ok93 fun C hC=>?_;refine Zs ?_;refine Zc ?_;refine Z4 rfl rfl rfl ?_
 repeat' (first|refine Zi (Zv (k:=3) rfl 2 (by decide)) ?_|(first|refine st ?_|(apply B<;>intro hb<;>try cases hb)))
 refine ZJ hC (fun (i:Nat)=>i≤rs.length) (fun i=>rs.length-i) 1 (fun i => [(1,.cp (prbI n l S s0 rs nv gl)),(3,.own 0),(7,.vec (rs.map ruI) false),(8,.val (.int .i64 (rs.length:Int))),(9,Yv i)])
  (fun i => [(0,⟨2,((rs.take i).map (·.2.1)).map cuC⟩)]) (Y0l _) 0 (Y0l _) (fun i=>i) (fun _ _=>rfl) Zu
  ⟨⟨_,rfl,.pure _ hpp⟩,⟨_,rfl,.own 0 (by decide)⟩,⟨_,rfl,.pure _ (Z3y _)⟩,⟨_,by rw [← hrl]; rfl,.pure _ Yt⟩,⟨_,rfl,.pure _ Yt⟩,Yt⟩ ⟨⟨by decide,_,rfl,.same _ Yt⟩,Yt⟩ ?_
 intro i hi;have hinc:IntKind.i64.wrap ((i:Int)+1)=((i+1:Nat):Int):=Y0v _ ⟨by omega,by omega⟩
 iterate 2 (first|refine st ?_|(apply B<;>intro hb<;>try cases hb))
 refine Zt rfl rfl rfl (fun hb=>?_) (fun hb=>?_)
 · have hil : i < rs.length := by have := Y0u hb; omega
   have htake:=Z2n hil;clear hb;refine go ?_;refine Z0 (Zo (xs:=rs) (g:=ruI) rfl rfl i rfl hil rfl) rfl rfl ?_;generalize rs[i]=x at htake ⊢;refine gd 17 ⟨?_⟩
   refine ZD (ZB (k:=0) (m := [cuC x.2.1]) (fl:=true) rfl rfl rfl (fun c hc=>by rw [Y0g] at hc; subst hc; rfl) rfl (by
    show ((((rs.take i).map (·.2.1)).map cuC).length+1)*48≤_;rw [Y0f,Y0f,Y0o]
    omega)) rfl rfl ?_
   refine go ?_
   refine⟨i+1,mv 0 2,by omega,by omega,fun i hi=>absurd hi (Nat.not_lt_zero i),Zw rfl,
    ⟨⟨_,rfl,.pure _ hpp⟩,⟨_,rfl,.own 0 (by decide)⟩,⟨_,rfl,.pure _ (Z3y _)⟩,⟨_,rfl,.pure _ Yt⟩,⟨_,by show some _=some _; rw [hinc],.pure _ Yt⟩,Yt⟩,
    ⟨⟨by decide,_,rfl,?_⟩,Yt⟩⟩
   show RenB _ _ ⟨2,((rs.take i).map (·.2.1)).map cuC ++ [cuC x.2.1]⟩ ⟨2,((rs.take (i+1)).map (·.2.1)).map cuC⟩;rw [htake,Y0r,Y0r];exact .same _ (by show pureLL (((rs.take i).map (·.2.1)).map cuC ++ [x.2.1].map cuC); rw [← Y0r]; exact Z18 _)
 · have hil : i = rs.length := by have := of_decide_eq_false hb; omega
   subst hil;clear hb;rw [Y0q]
   repeat' (first|refine Z2Z [6] [(0,8)] [255,255,255,247,255,255,255,255] (by kernel_rfl) ?_|refine Zb 22 ?_|(first|refine st ?_|(apply B<;>intro hb<;>try cases hb)))
   refine At.mk ?_
   refine Ze (ZB (k:=0) (m:=nv.map cuC) (fl:=false) rfl rfl rfl (fun c hc=>by obtain⟨x,_,rfl⟩:=Y0i.1 hc; rfl) rfl (by
    show (((rs.map (·.2.1)).map cuC).length+(nv.map cuC).length)*48≤_
    rw [Y0f,Y0f,Y0f];omega)) rfl rfl ?_
   have happ:((rs.map (·.2.1)).map cuC++nv.map cuC)++gl.map cuC=(cubI rs nv gl).map cuC:=by
    unfold cubI;rw [Y0r,Y0r]
   refine gd 25 ⟨?_⟩
   refine Z9Y (k:=4) (m:=gl.map cuC) (fl:=false) (b:=⟨2,(rs.map (·.2.1)).map cuC++nv.map cuC⟩) rfl rfl rfl (fun c hc=>by obtain⟨x,_,rfl⟩:=Y0i.1 hc; rfl) rfl (by
    show ((((rs.map (·.2.1)).map cuC)++nv.map cuC).length+(gl.map cuC).length)*48≤_
    rw [Y0e,Y0f,Y0f,Y0f,Y0f];omega) (by show pureLL (((rs.map (·.2.1)).map cuC++nv.map cuC)++gl.map cuC); rw [happ]; exact Z18 _) rfl rfl ?_
   refine go ?_;refine Z5 (r:=.vec (((rs.map (·.2.1)).map cuC++nv.map cuC)++gl.map cuC) false) rfl ?_ ?_
   · rw [happ]; exact Z18 _
   · rw [happ]
theorem Zaz (m:Nat) (hm:m<18446744073709551616) (p:Pr):Spec Tryz.prog 132 [.agg (prC p),.cp [.vec (words (digs m)) false]] (· = .val (.bool (m.testBit p.1&&m.testBit p.2))):=by
 refine Yp ok132 fun C hC=>?_;refine Zs ?_;refine Zc ?_;refine Z4 rfl rfl rfl ?_;refine gd 7 ⟨?_⟩;refine Z6 (Z94 m hm p.1) rfl rfl rfl ⟨Z3 _,Yt,Yt⟩ rfl ?_;generalize m.testBit p.1=b;cases b
 · refine go ?_;exact Z5 rfl Yt rfl
 · refine gd 12 ⟨?_⟩;refine Zl rfl ?_;refine Z6 (Z94 m hm p.2) rfl rfl rfl ⟨Z3 _,Yt,Yt⟩ rfl ?_;generalize m.testBit p.2=b;cases b
   all_goals
    refine go ?_;exact Z5 rfl Yt rfl
theorem ZaA (m:Nat) (hm:m<18446744073709551616) (x:RI):Spec Tryz.prog 133 [.agg (ruI x),.cp [.vec (words (digs m)) false]] (· = .val (.bool (decide (0≤x.2.2.1)&&m.testBit x.2.2.1.toNat))):=by
 refine Yp ok133 fun C hC=>?_;refine Zs ?_;refine Zc ?_;refine Z4 rfl rfl rfl ?_;refine gd 7 ⟨?_⟩;refine Z6 (Z4C m hm x.2.2.1) rfl rfl rfl ⟨Z3 _,Yt,Yt⟩ rfl ?_;generalize (decide (0≤x.2.2.1)&&m.testBit x.2.2.1.toNat)=b;cases b
 all_goals
  refine go ?_;exact Z5 rfl Yt rfl
theorem ZaB (m:Nat) (hm:m<18446744073709551616) (c:Cu) (hc:Ok64 c):Spec Tryz.prog 135 [.agg (cuC c),.cp [.vec (words (digs m)) false]] (· = .val (.bool (decide (c.1 ||| c.2 ||| m=m)))):=by
 refine Yp ok135 fun C hC=>?_;refine Zs ?_;refine Zc ?_;refine Z4 rfl rfl rfl ?_;refine gd 8 ⟨?_⟩;refine Zy (Z1Y c.1 c.2 hc.1 hc.2) rfl rfl rfl ⟨Z3 _,Z3 _,Yt⟩ ?_;refine gd 10 ⟨?_⟩;refine Zy (Z1T (c.1 ||| c.2) m (Z43 hc.1 hc.2) hm) rfl rfl rfl ⟨Z3 _,Z3 _,Yt⟩ ?_;generalize decide (c.1 ||| c.2 ||| m=m)=b;cases b
 all_goals
  refine go ?_;exact Z5 rfl Yt rfl
def knB (m:Nat) (l:List Pr) (s0:Nat) (rs:List RI) (cs:List Cu):Bool:=decide (s0 ||| m=m)&&(l.all (fun p=>m.testBit p.1&&m.testBit p.2)&&(rs.all (fun x=>decide (0≤x.2.2.1)&&m.testBit x.2.2.1.toNat)&&cs.all fun c=>decide (c.1 ||| c.2 ||| m=m)))
structure Fine (l:List Pr) (s0:Nat) (rs:List RI) (nv gl:List Cu):Prop where
 fl:l.length≤10000
 fs:s0<18446744073709551616
 fr:rs.length≤10000
 fv:nv.length≤10000
 fg:gl.length≤10000
 fc:∀ c∈cubI rs nv gl,Ok64 c
theorem ZcW (n:Nat) (h1:1≤n) (h2:n≤63) (l:List Pr) (S:List Nat) (s0:Nat) (rs:List RI) (nv gl:List Cu) (hf:Fine l s0 rs nv gl):Spec Tryz.prog 91 [.agg (prbI (n:Int) l S s0 rs nv gl)] (· = .val (.bool (knB (mkN n) l s0 rs (cubI rs nv gl)))):=by
 have hp1:2 ^ (n+1)≤2 ^ 64:=Nat.pow_le_pow_right (by decide) (by omega);have hp0:=Nat.two_pow_pos (n+1);have hmk:=Z6o h2;have hinc0:IntKind.i64.wrap ((n:Int)+1)=((n+1:Nat):Int):=Y0v _ ⟨by omega,by omega⟩;have hbw:=Z1p (2 ^ (n+1)-1) (by omega) 0;rw [Z8h n h2] at hbw;have hw:=Z1T s0 (mkN n) hf.fs hmk;have hc1:pureL [PV.vec (words (digs (mkN n))) false]:=⟨Zk _,Yt⟩
 have hcc:pureL [PV.cp [PV.vec (words (digs (mkN n))) false]]:=⟨hc1,Yt⟩
 have hl:=Z7s l S (by have:=hf.fl;omega);have ha1:=Zey l prC false 132 [.cp [.vec (words (digs (mkN n))) false]] _ (fun _=>rfl) (fun x=>Z3P x) hcc fun p _=>Zaz (mkN n) hmk p;have ha2:=Z97 rs ruI false 133 [.cp [.vec (words (digs (mkN n))) false]] _ (fun _=>rfl) Z8i hcc fun p _=>ZaA (mkN n) hmk p;have hcb:=Z7t (n:Int) l S s0 rs nv gl hf.fr hf.fv hf.fg;have ha3:=Zez (cubI rs nv gl) cuC false 135 [.cp [.vec (words (digs (mkN n))) false]] _ (fun _=>rfl) Zp hcc fun p hp=>ZaB (mkN n) hmk p (hf.fc p hp);have hpp:=Z6v (n:Int) l S s0 rs nv gl;refine Yp ok91 fun C hC=>?_;refine Zs ?_;refine Zc ?_;refine Z4 rfl rfl rfl ?_;refine gd 6 ⟨?_⟩;refine Z8 rfl rfl rfl hinc0 ?_;refine Z6 (Z3V (n+1) (by omega) (by omega)) rfl rfl rfl ⟨Yt,Yt⟩ rfl ?_;refine Z6 hbw rfl rfl rfl ⟨Z3 _,Yt,Yt⟩ rfl ?_;refine gd 9 ⟨?_⟩;refine Zi (Z46 (k:=3) rfl rfl hc1) ?_;refine gd 12 ⟨?_⟩;refine Z6 hw rfl rfl rfl ⟨Z3 _,Z3 _,Yt⟩ rfl ?_;unfold knB;generalize decide (s0 ||| mkN n=mkN n)=b1;cases b1
 · refine go ?_;exact Z5 rfl Yt rfl
 refine gd 16 ⟨?_⟩;refine Zl rfl ?_;refine Z6 hl rfl rfl rfl ⟨ZE _ _,Yt⟩ rfl ?_;refine gd 18 ⟨?_⟩;refine Zl rfl ?_;refine Z6 ha1 rfl rfl rfl ⟨Zh l,hcc,Yt⟩ rfl ?_;generalize (l.all fun p=>(mkN n).testBit p.1&&(mkN n).testBit p.2)=b2;cases b2
 · refine go ?_;exact Z5 rfl Yt rfl
 refine gd 24 ⟨?_⟩;refine Zl rfl ?_;refine Z6 ha2 rfl rfl rfl ⟨Z3y rs,hcc,Yt⟩ rfl ?_;generalize (rs.all fun x=>decide (0≤x.2.2.1)&&(mkN n).testBit x.2.2.1.toNat)=b3;cases b3
 · refine go ?_;exact Z5 rfl Yt rfl
 refine gd 28 ⟨?_⟩;refine Zl rfl ?_;refine Z6 hcb rfl rfl rfl ⟨hpp,Yt⟩ rfl ?_;refine gd 30 ⟨?_⟩;refine Zl rfl ?_;refine Z6 ha3 rfl rfl rfl ⟨Z18 _,hcc,Yt⟩ rfl ?_;generalize ((cubI rs nv gl).all fun c=>decide (c.1 ||| c.2 ||| mkN n=mkN n))=b4;cases b4
 all_goals
  refine go ?_;exact Z5 rfl Yt rfl
def revB (x:RI):Bool := !x.1||(decide (x.2.1.1=0)&&decide (x.2.1.2=0))
theorem ZaC (x:RI) (hc:Ok64 x.2.1):Spec Tryz.prog 89 [.agg (ruI x)] (· = .val (.bool (revB x))):=by
 obtain⟨rv,c,tg,og⟩:=x;have e1:=Z57 c.1 hc.1;have e2:=Z57 c.2 hc.2;unfold revB;refine Yp ok89 fun C hC=>?_;refine Zs ?_;refine Zc ?_;refine Z4 rfl rfl rfl ?_;cases rv
 · refine go ?_;exact Z5 rfl Yt rfl
 refine gd 10 ⟨?_⟩;refine Zl rfl ?_;refine Z6 e1 rfl rfl rfl ⟨Z3 _,Yt⟩ rfl ?_;dsimp only;generalize decide (c.1=0)=b1;cases b1
 · refine go ?_;exact Z5 rfl Yt rfl
 refine gd 15 ⟨?_⟩;refine Zl rfl ?_;refine Z6 e2 rfl rfl rfl ⟨Z3 _,Yt⟩ rfl ?_;generalize decide (c.2=0)=b2;cases b2
 all_goals
  refine go ?_;exact Z5 rfl Yt rfl
theorem ZcX (n:Int) (l:List Pr) (S:List Nat) (s0:Nat) (rs:List RI) (nv gl:List Cu) (h64:∀ c∈nv,Ok64 c) (s:Nat) (hs:s<18446744073709551616):Spec Tryz.prog 38 [.agg (prbI n l S s0 rs nv gl),setN s] (· = .val (.bool (!soC nv (clo l s)))):=by
 have hc:=Z1G l S s hs;have hso:=Z5b nv false (clo l s) h64 (Z4M _ _);refine Yp ok38 fun C hC=>?_;refine Zs ?_;refine Zc ?_;refine Z4 rfl rfl rfl ?_;refine Z4 rfl rfl rfl ?_;refine gd 14 ⟨?_⟩;refine Z2J rfl ?_;refine Zy hc rfl rfl rfl ⟨ZE _ _,Z3 _,Yt⟩ ?_;refine gd 15 ⟨?_⟩;refine Z2J rfl ?_;refine Zy hso rfl rfl rfl ⟨Z1v _,Z3 _,Yt⟩ ?_;generalize soC nv (clo l s)=b;cases b
 all_goals
  refine go ?_;exact Z5 rfl Yt rfl
noncomputable def chkI (n:Int) (l:List Pr) (s0:Nat) (rs:List RI) (nv gl:List Cu):Int :=
 if n<1 ∨ 63<n then 1 else
 if 64<rs.length ∨ 2000<nv.length ∨ 2000<gl.length then 3 else
 if knB (mkN n.toNat) l s0 rs (cubI rs nv gl)=false then 4 else
 if (cubI rs nv gl).any emC=true ∨ rs.all revB=false then 6 else
 if soC nv (clo l s0)=true then 7 else 0
theorem ZaD (n:Int) (l:List Pr) (S:List Nat) (s0:Nat) (rs:List RI) (nv gl:List Cu) (hf:Fine l s0 rs nv gl):Spec Tryz.prog 40 [.agg (prbI n l S s0 rs nv gl)] (· = .val (.int .i64 (chkI n l s0 rs nv gl))):=by
 have hpp:=Z6v n l S s0 rs nv gl;have hr1:(rs.map ruI).length=rs.length:=by simp
 have hr2:(nv.map cuC).length=nv.length:=by simp
 have hr3:(gl.map cuC).length=gl.length:=by simp
 have hcb:=Z7t n l S s0 rs nv gl hf.fr hf.fv hf.fg;have hn64:∀ c∈nv,Ok64 c:=fun c hc=>hf.fc c (Y0h.2 (.inl (Y0h.2 (.inr hc))));have hr64:∀ x∈rs,Ok64 x.2.1:=fun x hx=>hf.fc _ (Y0h.2 (.inl (Y0h.2 (.inl (Y0i.2 ⟨x,hx,rfl⟩)))));have hce:=Z1M (cubI rs nv gl) cuC false 76 [] emC (fun _=>rfl) Zp Yt fun c hc=>Z6l c (hf.fc c hc);have har:=Z97 rs ruI false 89 [] revB (fun _=>rfl) Z8i Yt fun x hx=>ZaC x (hr64 x hx);have hgo:=ZcX n l S s0 rs nv gl hn64 s0 hf.fs;unfold chkI;refine Yp ok40 fun C hC=>?_;refine Zs ?_;refine Zc ?_;refine Z4 rfl rfl rfl ?_;refine gd 11 ⟨?_⟩;refine Zl rfl ?_;by_cases h1:n<1
 · rw [if_pos (.inl h1)];refine Z0 (Z1 (v:=true) rfl (decide_eq_true h1)) rfl rfl ?_;refine go ?_;exact Z5 rfl Yt rfl
 refine Z0 (Z1 (v:=false) rfl (Y0w h1)) rfl rfl ?_;refine gd 16 ⟨?_⟩;refine Zl rfl ?_;by_cases h2:63<n
 · rw [if_pos (.inr h2)];refine Z0 (Z1 (v:=true) rfl (decide_eq_true h2)) rfl rfl ?_;refine go ?_;exact Z5 rfl Yt rfl
 refine Z0 (Z1 (v:=false) rfl (Y0w h2)) rfl rfl ?_;rw [if_neg (show ¬ (n<1 ∨ 63<n) by omega)];refine gd 22 ⟨?_⟩;by_cases h3:64<rs.length
 · rw [if_pos (.inl h3)];refine Z0 (Z1 (v:=true) rfl (decide_eq_true (by rw [hr1];omega))) rfl rfl ?_;refine go ?_;exact Z5 rfl Yt rfl
 refine Z0 (Z1 (v:=false) rfl (Y0w (by rw [hr1];omega))) rfl rfl ?_;refine gd 27 ⟨?_⟩;refine Zl rfl ?_;by_cases h4:2000<nv.length
 · rw [if_pos (.inr (.inl h4))];refine Z0 (Z1 (v:=true) rfl (decide_eq_true (by rw [hr2];omega))) rfl rfl ?_;refine go ?_;exact Z5 rfl Yt rfl
 refine Z0 (Z1 (v:=false) rfl (Y0w (by rw [hr2];omega))) rfl rfl ?_;refine gd 33 ⟨?_⟩;refine Zl rfl ?_;by_cases h5:2000<gl.length
 · rw [if_pos (.inr (.inr h5))];refine Z0 (Z1 (v:=true) rfl (decide_eq_true (by rw [hr3];omega))) rfl rfl ?_;refine go ?_;exact Z5 rfl Yt rfl
 refine Z0 (Z1 (v:=false) rfl (Y0w (by rw [hr3];omega))) rfl rfl ?_;rw [if_neg (show ¬ (64<rs.length ∨ 2000<nv.length ∨ 2000<gl.length) by omega)];obtain⟨k,rfl⟩:∃ k:Nat,n=(k:Int):=⟨n.toNat,by omega⟩
 have hkn:=ZcW k (by omega) (by omega) l S s0 rs nv gl hf;rw [Int.toNat_natCast];refine gd 37 ⟨?_⟩;refine Z6 hkn rfl rfl rfl ⟨hpp,Yt⟩ rfl ?_;generalize knB (mkN k) l s0 rs (cubI rs nv gl)=b1;cases b1
 · rw [if_pos rfl];refine go ?_;exact Z5 rfl Yt rfl
 rw [if_neg (by decide)];refine gd 41 ⟨?_⟩;refine Z6 hcb rfl rfl rfl ⟨hpp,Yt⟩ rfl ?_;refine Z6 hce rfl rfl rfl ⟨Z18 _,Yt,Yt⟩ rfl ?_;generalize (cubI rs nv gl).any emC=b2;cases b2
 case true =>
  rw [if_pos (.inl rfl)];refine go ?_;exact Z5 rfl Yt rfl
 refine gd 47 ⟨?_⟩;refine Zl rfl ?_;refine Z6 har rfl rfl rfl ⟨Z3y rs,Yt,Yt⟩ rfl ?_;generalize rs.all revB=b3;cases b3
 · rw [if_pos (.inr rfl)];refine go ?_;exact Z5 rfl Yt rfl
 rw [if_neg (by simp)];refine gd 54 ⟨?_⟩;refine Z6 hgo rfl rfl rfl ⟨hpp,Z3 _,Yt⟩ rfl ?_;generalize soC nv (clo l s0)=b4;cases b4
 · rw [if_neg (by decide)];refine go ?_;exact Z5 rfl Yt rfl
 · rw [if_pos rfl];refine go ?_;exact Z5 rfl Yt rfl
theorem Zhw {t:PB} (h:PbOk t):Fine t.l t.st (t.rs.map toI) t.nv t.gl:=by
 have h1:=h.rl;have h2:=h.nl;have h3:=h.gk;refine⟨Y03 (ZbF h.good) (by decide),?_,by rw [Y0f]; omega,by omega,by omega,fun c hc=>?_⟩
 · have h1 : t.st ≤ mkN t.n := by rw [← h.st]; exact Nat.left_le_or
   have:=Z6o h.n.2;omega
 · unfold cubI at hc;rw [Y0h,Y0h,List.map_map,Y0i] at hc;rcases hc with (⟨x,hx,rfl⟩|hc)|hc
   · exact (h.rs x hx).cu.lt h.n.2
   · exact h.nv64 c hc
   · exact h.gl64 c hc
theorem Zik {n:Nat} {c:Cu} (h:InC n c):c.1 ||| c.2 ||| mkN n=mkN n:=by rw [Nat.or_assoc,h.n,h.y]
theorem ZbG {t:PB} (h:PbOk t):∀ c∈cubI (t.rs.map toI) t.nv t.gl,InC t.n c:=fun c hc=>by
 unfold cubI at hc;rw [Y0h,Y0h,List.map_map,Y0i] at hc;rcases hc with (⟨x,hx,rfl⟩|hc)|hc
 · exact (h.rs x hx).cu
 · exact (h.nv c hc).1
 · exact (h.gl c hc).1
theorem Zil {t:PB} (h:PbOk t):chkI t.n t.l t.st (t.rs.map toI) t.nv t.gl=0:=by
 have hn:=h.n;have h1:=h.rl;have h2:=h.nl;have h3:=h.gk;unfold chkI;rw [if_neg (by omega),if_neg (by rw [Y0f];omega),Int.toNat_natCast];have hk:knB (mkN t.n) t.l t.st (t.rs.map toI) (cubI (t.rs.map toI) t.nv t.gl)=true:=by
  unfold knB;rw [decide_eq_true h.st,Bool.true_and,Y0k,Y0k,List.all_eq_true,List.all_eq_true,List.all_eq_true];refine⟨fun p hp=>?_,fun x hx=>?_,fun c hc=>decide_eq_true (Zik (ZbG h c hc))⟩
  · have ha := h.lk p hp;have hb:=h.good.role p hp;rw [Z2N,Z2N,decide_eq_true (show 1≤p.1 by omega),decide_eq_true ha.1,decide_eq_true (show 1≤p.2 by omega),decide_eq_true ha.2.1]; rfl
  · obtain ⟨r, hr, rfl⟩ := Y0i.1 hx;have ht:=(h.rs r hr).tg;show (decide (0≤(r.tg:Int))&&(mkN t.n).testBit (r.tg:Int).toNat)=true;rw [Int.toNat_natCast,decide_eq_true (Int.natCast_nonneg _),Z2N,decide_eq_true ht.1,decide_eq_true ht.2.1]; rfl
 rw [hk,if_neg (by decide)];have he:(cubI (t.rs.map toI) t.nv t.gl).any emC=false:=Bool.eq_false_iff.2 fun h0=>by
  obtain⟨c,hc,h1⟩:=Y01.1 h0;rw [(ZbG h c hc).e] at h1; cases h1
 have hr:(t.rs.map toI).all revB=true:=by
  rw [List.all_eq_true];intro x hx;obtain⟨r,hr,rfl⟩:=Y0i.1 hx;unfold revB;show (!r.rev||(decide (r.cu.1=0)&&decide (r.cu.2=0)))=true;cases hv:r.rev with
  | false=>rfl
  | true=>rw [(h.rs r hr).rv hv]; rfl
 rw [he,hr,if_neg (by simp),h.sg,if_neg (by decide)]
theorem Zgl {t:PB} (h:PbOk t) (S:List Nat):Spec Tryz.prog 40 [.agg (pbP t S)] (· = .val (.int .i64 0)):=by
 have:=ZaD t.n t.l S t.st (t.rs.map toI) t.nv t.gl (Zhw h)
 rwa [Zil h,← ZiP] at this
theorem Z2i {N:Nat} (hN:N<18446744073709551616) {i:Nat} (hi:i<64):withoutN N (i:Int)=minusN N (2 ^ i):=by
 refine Nat.eq_of_testBit_eq fun j=>?_;rw [Z3h hN,ZA hN (ZG hi),Nat.testBit_two_pow];by_cases h:j=i
 · subst h; simp
 · rw [decide_eq_true h,Y0w fun h'=>h h'.symm]; rfl
end
end Go.Proofs.YtmnbbggaoembeaaGreatDoor
