/-
  Merged from the texts that this claim's theorem needs, part 6 of 8. No statement of the seat is proved here.
-/
import Derived.KernelRfl
import Derived.Shelf.SlSortCmp.NoneTotal
import Derived.Test.YtmnbbggaoembeaaGreatDoorChecked
import Derived.Test.YtmnbbggaoembeaaGreatDoorMq4
set_option linter.unusedSimpArgs false
set_option linter.unusedVariables false
set_option linter.unusedSectionVars false
namespace Go.Proofs.YtmnbbggaoembeaaGreatDoor
open Go.RowKit Go.Sort
section
variable {P:Program} {ρ:Go.Shelf.Ren} {α:Type}
def RawOk (F:Froz) (k:Nat) (enc:α→List PV) (p:List Value×α):Prop :=
 p.1.length=k∧(∀ v∈p.1,v.oneCell'=true)∧∀ j,j<k→Rep F noLoc (p.1.getD j undef) ((enc p.2).getD j pvu)
abbrev Raw (F:Froz) (k:Nat) (enc:α→List PV):={ p:List Value×α // RawOk F k enc p }
theorem Z7c {w:World} {blk off:Nat} {cells:Array Value} {t:TypeId} {fr:Nat×Nat} (hg:w.heap[blk]?=some (.cells cells t fr)) (D:Array Value):putRow id w blk off D=w.setRow blk (putCells id off D cells):=by
 unfold putRow
 rw [mapBlock_congr w blk _ (fun _=>putCells id off D cells) (fun c e fr' h=>by rw [hg] at h; cases h; rfl)]
 unfold mapBlock World.setRow
 congr 2
theorem Zer {W w':World} (hb:Below W.heap.size W w') (hd:W.drawn≤w'.drawn):∃ q os,w'=grow (W.drewN q) os:=by
 refine⟨w'.drawn-W.drawn,w'.heap.extract W.heap.size w'.heap.size,?_⟩
 obtain⟨h1,h2,h3,h4,h5⟩:=hb
 obtain⟨heap,tape,drawn,os,output⟩:=w'
 simp only at h1 h2 h3 h4 h5 hd ⊢
 subst h1 h2 h3
 simp only [grow,World.drewN,World.mk.injEq,true_and,and_true]
 refine⟨?_,by omega⟩
 apply Array.ext_getElem?
 intro i
 rw [Array.getElem?_append]
 by_cases hi:i<W.heap.size
 · rw [if_pos hi]; exact h5 i hi
 · rw [if_neg hi, Array.getElem?_extract]
   by_cases h6:i<heap.size
   · rw [if_pos (by omega)]
     congr 1
     omega
   · rw [if_neg (by omega)]
     exact Array.getElem?_eq_none (by omega)
theorem RawOk.agg {F:Froz} {k:Nat} {enc:α→List PV} {p:List Value×α} (h:RawOk F k enc p) (hl:(enc p.2).length=k):Rep F noLoc (.agg p.1.toArray) (.agg (enc p.2)):=by
 obtain⟨h1,h2,h3⟩:=h
 have hg:∀ i,p.1.toArray.getD i undef=p.1.getD i undef:=fun i=>by simp [Array.getD_eq_getD_getElem?,List.getD_eq_getElem?_getD]
 refine .agg _ _ (by simp [h1,hl]) (fun i hi=>?_) (fun i hi=>?_)
 · rw [hg, List.getD_eq_getElem?_getD, List.getElem?_eq_getElem (by omega)]
   exact h2 _ (List.getElem_mem _)
 · rw [hg]; exact h3 i (by omega)
theorem ZfC {β:Type} {cf:β→β→Int} {key:β→Nat} (h:∀ a b,cf a b<0↔key a<key b):SWO (ltOf cf):=by
 have e:∀ a b,ltOf cf a b=decide (key a<key b):=fun a b=>by unfold ltOf; exact decide_eq_decide.2 (h a b)
 refine⟨fun x=>?_,fun x y z h1 h2=>?_,fun x y z h1 h2=>?_⟩
 · rw [e]; simp
 · rw [e] at *; simp at *; omega
 · rw [e] at *; simp at *; omega
set_option maxHeartbeats 1000000 in
theorem Zbn (L:SlLaysF0.n6 P ρ) (hbody:HasBody P (ρ.f 6)) (k:Nat) (hk0:0<k) (aE:∀ w,(isAgg (ρ.t 24)).run P w=.ok true w) (zE:∀ w,(Go.sizeOf (ρ.t 24)).run P w=.ok k w) (enc:α→List PV) (hl:∀ x,(enc x).length=k) (hp:∀ x,pureL (enc x))
 (key:α→Nat) (cf:α→α→Int) (hcf:∀ a b,cf a b<0↔key a<key b) (g:FuncId) (caps:List PV) (hcaps:pureL caps) (hcmp:∀ a b,Spec P g (.agg (enc a) :: .agg (enc b) :: caps) (· = .val (.int .i64 (cf a b)))) {n ob:Nat} {h:Heap} (xs:List α) (hh:h ob=some ⟨k,xs.map enc⟩) :
 ISpec P (ρ.f 6) n [.own ob,.fn g caps] h fun n' r h'=>n'=n∧r=.tup []∧∃ ys:List α,ys.Perm xs∧ys.Pairwise (fun a b=>key a≤key b)∧h'=h.upd ob ⟨k,ys.map enc⟩:=by
 refine⟨hbody,?_⟩
 intro C e F φ a w vs s hv
 obtain⟨hsz,hvs⟩:=hv
 have h0:Rep F φ (vs.getD 0 undef) (.own ob):=hvs 0 (by simp)
 have h1:Rep F φ (vs.getD 1 undef) (.fn g caps):=hvs 1 (by simp)
 obtain⟨loc,hloc,hz,hv0⟩:=h0.own_inv
 obtain⟨cb,hv1,hcsz,hcb⟩:=h1.fn_inv
 have hvs':vs = #[.slice loc.base loc.len loc.cap,.func (.func g) #[] cb]:=by
  simp only [List.length_cons,List.length_nil] at hsz
  apply Array.ext (by simpa using hsz)
  intro i hi1 hi2
  have hi:i=0 ∨ i=1:=by simp at hi2; omega
  have hget:∀ j (hj:j<vs.size),vs.getD j undef=vs[j]:=fun j hj=>by simp [Array.getD,hj]
  rcases hi with rfl|rfl
  · rw [hget 0 hi1] at hv0; exact hv0
  · rw [hget 1 hi1] at hv1; exact hv1
 obtain⟨loc',hl1,hob,hhas⟩:=s.live ob _ hh
 obtain rfl:loc'=loc:=by rw [hl1] at hloc; simpa using hloc
 have hbx:=hob.cells hz
 have hlen:xs.length=loc'.len:=by have:=hbx.len; simpa using this
 have hke:k=loc'.esz:=hbx.esz
 rw [hvs']
 by_cases hx0:xs = []
 · subst hx0
   have hl0:loc'.len=0:=hlen.symm
   have hc:=AnyF.slices_SortFunc_none (P:=P) (ρ:=ρ) { L with } loc'.base loc'.cap (.func (.func g) #[] cb) w
   rw [hl0]
   refine hc.mono ?_
   rintro en w' ⟨rfl,rfl⟩
   refine⟨_,.tup [],n,h.upd ob ⟨k,[].map enc⟩,F,φ,rfl,⟨rfl,rfl,[],.refl _,.nil,rfl⟩,.tup _ _ rfl (fun i hi=>absurd hi (Nat.not_lt_zero i)),s.sub (fun _ _ h=>h) fun i b hi=>?_⟩
   by_cases hid:i=ob
   · subst hid; rw [Heap.upd_same] at hi; rw [hh]; exact hi
   · rw [Heap.upd_ne _ _ hid] at hi; exact hi
 · have hpos : 0 < xs.length := List.length_pos_iff.2 hx0
   have hcap:=hbx.cap
   have hc0:loc'.cap≠0:=by omega
   obtain⟨ad,hbase,hspot,cells,t,hg,hroom,hrep⟩:=hbx.room hc0
   have hhb:loc'.has ad.block:=⟨hc0,ad,hbase,rfl⟩
   have hFn:∀ x:Addr,x.block=ad.block→F x=none:=(hhas _ hhb).2
   have hblk:ad.block<w.heap.size:=(Array.getElem?_eq_some_iff.1 hg).1
   have hin:∀ i j,i<xs.length→j<k→i*k+j<xs.length*k:=fun i j hi hj=>by
    have:=Nat.mul_le_mul_right k (show i+1≤xs.length from hi)
    rw [Nat.add_mul,Nat.one_mul] at this
    omega
   have hsize:xs.length*k≤loc'.cap*loc'.esz:=by rw [hke]; exact Nat.mul_le_mul_right _ (by omega)
   have hraw:∀ i:Fin xs.length,RawOk F k enc ((List.range k).map fun j=>cells.getD (ad.off+(i.1*k+j)) undef,xs[i.1]):=by
    intro i
    have hi:=i.2
    refine⟨by simp,fun v hv=>?_,fun j hj=>?_⟩
    · obtain ⟨j, hj, rfl⟩ := List.mem_map.1 hv
      have:=(hrep i.1 j (by omega) (by rw [← hke]; exact List.mem_range.1 hj)).1
      rw [← hke] at this
      exact this
    · have h2 := (hrep i.1 j (by omega) (by omega)).2
      rw [← hke] at h2
      have e1:((xs.map enc).getD i.1 [])=enc xs[i.1]:=by simp [List.getD_eq_getElem?_getD,hi]
      rw [e1] at h2
      have e2:((List.range k).map fun j=>cells.getD (ad.off+(i.1*k+j)) undef).getD j undef=cells.getD (ad.off+(i.1*k+j)) undef:=by simp [List.getD_eq_getElem?_getD,hj]
      show Rep F noLoc (((List.range k).map fun j=>cells.getD (ad.off+(i.1*k+j)) undef).getD j undef) ((enc xs[i.1]).getD j pvu)
      rw [e2]
      exact h2.pure (ZF (hp _) j)
   letI:Inhabited (Raw F k enc):=⟨⟨_,hraw ⟨0,hpos⟩⟩⟩
   obtain⟨d,hd⟩:∃ d:Array (Raw F k enc),d=Array.ofFn fun i:Fin xs.length=>(⟨_,hraw i⟩:Raw F k enc):=⟨_,rfl⟩
   have hdsz:d.size=xs.length:=by rw [hd]; simp
   have hdget:∀ (i:Nat) (hi:i<xs.length),d[i]! = ⟨_,hraw ⟨i,hi⟩⟩:=fun i hi=>by
    have:i<d.size:=by omega
    rw [getElem!_pos d i this]
    simp only [hd,Array.getElem_ofFn]
   have hdl:d.toList.map (fun p=>p.1.2)=xs:=by
    apply List.ext_getElem
    · simp [hdsz]
    · intro i h3 h4
      have h5:=hdget i h4
      rw [getElem!_pos d i (by omega)] at h5
      simp [h5]
   have encK:∀ x:Raw F k enc,(x.1.1).length=k:=fun x=>x.2.1
   have enc1:∀ x:Raw F k enc,∀ v∈x.1.1,v.oneCell'=true:=fun x=>x.2.2.1
   have hH:HoldsK (fun x:Raw F k enc=>x.1.1) k w ad.block ad.off d:=by
    intro q hq
    rw [size_flatK,hdsz] at hq
    have hi:q / k<xs.length:=(Nat.div_lt_iff_lt_mul hk0).2 hq
    have hj:q % k<k:=Nat.mod_lt _ hk0
    have hqe:q / k*k+q % k=q:=by rw [Nat.mul_comm]; exact Nat.div_add_mod q k
    rw [get_flatK _ _ _ _ (by rw [hdsz]; exact hq),hdget _ hi]
    have hlt:ad.off+q<cells.size:=by omega
    constructor
    · simp only [World.cell?, hg]
      rw [if_neg (by simp),Array.getElem?_eq_getElem hlt]
      congr 1
      rw [getElem!_pos _ _ (by simp [hj])]
      simp only [List.getElem_map,List.getElem_range,hqe,id]
      simp [Array.getD,hlt]
    · simp only [World.frozen?, hg]
      simp
   have hcmpL:CmpLays P g cb (fun x:Raw F k enc=>x.1.1) k (fun x y=>cf x.1.2 y.1.2) ad.block ad.off d.size w:=by
    intro m os dk hdk x y
    have hW:Proofs.YtmnbbggaoembeaaGreatDoor.Holds F (sortWorldK (fun x:Raw F k enc=>x.1.1) k w ad.block ad.off m dk os):=by
     refine⟨fun x v hx=>?_,s.glob⟩
     obtain⟨f1,f2,f3⟩:=s.froz x v hx
     refine⟨f1,f2,?_⟩
     have hne:x.block≠ad.block:=fun he=>by rw [hFn x he] at hx; cases hx
     have h5:(putRowK (fun x:Raw F k enc=>x.1.1) k (Sort.ahead w m) ad.block ad.off dk).cell? x=some v:=by
      rw [cell?_putRowK_other _ _ _ _ _ _ _ hne]; exact f3
     unfold sortWorldK
     have hlt:x.block<(putRowK (fun x:Raw F k enc=>x.1.1) k (Sort.ahead w m) ad.block ad.off dk).heap.size:=by
      unfold World.cell? at h5
      split at h5
      · rename_i hgx; exact (Array.getElem?_eq_some_iff.1 hgx).1
      · cases h5
     rw [World.cell?_of_block (w:=putRowK (fun x:Raw F k enc=>x.1.1) k (Sort.ahead w m) ad.block ad.off dk)]
     · exact h5
     · unfold grow
       exact Array.getElem?_append_left hlt
    have hR:RepL F noLoc (#[.agg x.1.1.toArray,.agg y.1.1.toArray]++cb) (.agg (enc x.1.2) :: .agg (enc y.1.2) :: caps):=by
     refine⟨by simp [hcsz]; omega,fun i hi=>?_⟩
     match i,hi with
     | 0, _ =>
       rw [show (#[Value.agg x.1.1.toArray,Value.agg y.1.1.toArray]++cb).getD 0 undef=.agg x.1.1.toArray by simp [Array.getD_eq_getD_getElem?,Array.getElem?_append]]
       exact RawOk.agg x.2 (hl _)
     | 1, _ =>
       rw [show (#[Value.agg x.1.1.toArray,Value.agg y.1.1.toArray]++cb).getD 1 undef=.agg y.1.1.toArray by simp [Array.getD_eq_getD_getElem?,Array.getElem?_append]]
       exact RawOk.agg y.2 (hl _)
     | i + 2, hi =>
       have e1:(#[Value.agg x.1.1.toArray,Value.agg y.1.1.toArray]++cb).getD (i+2) undef=cb.getD i undef:=by
        simp only [Array.getD_eq_getD_getElem?]
        rw [Array.getElem?_append_right (by simp)]
        simp
       rw [e1]
       exact (hcb i (by simpa using hi)).pure (ZF hcaps i)
    refine (Z9m ((hcmp x.1.2 y.1.2).2 F _ _ hW hR)).mono ?_
    rintro en w' ⟨⟨v,r,F',rfl,rfl,hr,hbel,_⟩,hdr⟩
    have hvi:=hr.val_inv
    exact⟨by rw [hvi],Zer hbel (hdr v rfl)⟩
   have eg:∀ args w,(callFunc g args).run P w=.ok (.enter g args) w:=by
    obtain⟨⟨fn,hfn,hname,hbd⟩,_⟩:=hcmp xs[0] xs[0]
    intro args w
    have h1 : ¬ fn.name = "runtime.NumGoroutine" := by simpa using hname
    have h2:¬ fn.body=none:=fun h=>by rw [h] at hbd; simp at hbd
    simp [callFunc,hfn,h1,h2]
   have hmx:=hbx.max
   have hc:=AnyQ.slices_SortFunc L k aE zE (fun x:Raw F k enc=>x.1.1) encK enc1 (fun x y=>cf x.1.2 y.1.2) (ZfC (key:=fun x:Raw F k enc=>key x.1.2) fun a b=>hcf _ _) g cb ad.block ad.off loc'.cap d w eg hcmpL hH hblk (by rw [hdsz]; simp only [maxVec] at hmx;omega)
   rw [hbase,← hlen,← hdsz]
   rw [← Z3N ad hspot] at hc
   refine hc.mono ?_
   rintro en w' ⟨rfl,d',m,os,⟨hps,-,hpp⟩,hso,rfl⟩
   have hpp':d'.toList.Perm d.toList:=by
    have e1:d'.extract 0 d.size=d':=by rw [← hps]; exact Array.extract_size
    have e2:d.extract 0 d.size=d:=Array.extract_size
    rw [e1,e2] at hpp
    exact hpp
   have hg':(Sort.ahead w m).heap[ad.block]?=some (.cells cells t (0,0)):=hg
   obtain⟨cur',hcur⟩:∃ cur',cur'=putCells id ad.off (flatK (fun x:Raw F k enc=>x.1.1) k d') cells:=⟨_,rfl⟩
   have hw1:sortWorldK (fun x:Raw F k enc=>x.1.1) k w ad.block ad.off m d' os=grow ((Sort.ahead w m).setRow ad.block cur') os:=by
    unfold sortWorldK putRowK
    rw [Z7c hg',hcur]
   have hget':∀ i j,i<xs.length→j<k→cur'.getD (ad.off+(i*k+j)) undef=(d'[i]!).1.1.getD j undef:=by
    intro i j hi hj
    have hq:=hin i j hi hj
    have hlt:ad.off+(i*k+j)<cells.size:=by omega
    have e1:(i*k+j) / k=i:=(blk_iff k i _ hk0).1 ⟨by omega,by omega⟩
    have e2:(i*k+j) % k=j:=by rw [Nat.mod_eq_sub_div_mul,e1]; omega
    rw [hcur,putCells,Array.getD_eq_getD_getElem?,Array.getElem?_mapIdx,Array.getElem?_eq_getElem hlt]
    simp only [Option.map_some,Option.getD_some]
    rw [if_pos ⟨by omega,by rw [size_flatK,hps,hdsz]; omega⟩,show ad.off+(i*k+j)-ad.off=i*k+j by omega]
    show (flatK (fun x:Raw F k enc=>x.1.1) k d')[i*k+j]! = _
    rw [get_flatK (fun x:Raw F k enc=>x.1.1) k d' (i*k+j) (by rw [hps,hdsz]; exact hq),e1,e2]
    have hj':j<(d'[i]!).1.1.length:=by rw [encK]; exact hj
    rw [getElem!_pos (d'[i]!).1.1 j hj',List.getD_eq_getElem?_getD,List.getElem?_eq_getElem hj',Option.getD_some]
   have hysl:(d'.toList.map fun p=>p.1.2).length=xs.length:=by simp [hps,hdsz]
   refine⟨_,.tup [],n,h.upd ob ⟨k,(d'.toList.map fun p=>p.1.2).map enc⟩,F,φ,rfl,⟨rfl,rfl,d'.toList.map fun p=>p.1.2,?_,?_,rfl⟩,.tup _ _ rfl (fun i hi=>absurd hi (Nat.not_lt_zero i)),?_⟩
   · have := hpp'.map fun p : Raw F k enc => p.1.2
     rw [hdl] at this
     exact this
   · rw [List.pairwise_iff_getElem]
     intro i j hi hj hij
     have hi':i<d'.size:=by simpa using hi
     have hj':j<d'.size:=by simpa using hj
     have h5:=hso i j (Nat.zero_le _) hij (by omega)
     rw [getElem!_pos d' i hi',getElem!_pos d' j hj'] at h5
     unfold ltOf at h5
     have h6:=of_decide_eq_false h5
     rw [hcf] at h6
     simp only [List.getElem_map,Array.getElem_toList]
     omega
   · rw [hw1]
     have sA:St' C (fun i=>n≤i) e h F φ a (Sort.ahead w m):=s.turned (row:=none) (w':=Sort.ahead w m) ⟨rfl,rfl,rfl,Nat.le_refl _,fun _ _ _=>rfl⟩ (fun r hr=>by cases hr) (.inr fun r es t hr=>by cases hr) rfl (s.marks.mono fun _ h=>h)
     have s1:St' C (fun i=>n≤i) e (h.del ob) F φ a (Sort.ahead w m):=sA.sub (fun _ _ h=>h) (fun _ _ hh=>(Heap.del_some hh).2)
     have hbx':BxAt F φ ((Sort.ahead w m).setRow ad.block cur') loc' ⟨k,(d'.toList.map fun p=>p.1.2).map enc⟩:=by
      refine⟨hke,hz,by rw [← hlen]; simp [hps,hdsz],hcap,hmx,fun c hc=>?_,fun _=>⟨ad,hbase,hspot,cur',t,setRow_heap _ _ _ _ _ _ hg',?_,fun i j hi hj=>?_⟩⟩
      · obtain ⟨y, _, rfl⟩ := List.mem_map.1 hc
        rw [hl,hke]
      · have : cur'.size = cells.size := by rw [hcur]; simp [putCells]
        omega
      · rw [← hke] at hj ⊢
        have hi':i<xs.length:=by omega
        have hid:i<d'.size:=by omega
        rw [hget' i j hi' hj]
        obtain⟨r1,r2,r3⟩:=(d'[i]!).2
        have hj':j<(d'[i]!).1.1.length:=by rw [r1]; exact hj
        have e3:((d'.toList.map fun p=>p.1.2).map enc).getD i []=enc (d'[i]!).1.2:=by
         rw [getElem!_pos d' i hid]
         simp [List.getD_eq_getElem?_getD,hid]
        refine⟨?_,?_⟩
        · rw [List.getD_eq_getElem?_getD, List.getElem?_eq_getElem hj']
          exact r2 _ (List.getElem_mem _)
        · show Rep F φ _ ((((d'.toList.map fun p => p.1.2).map enc).getD i []).getD j pvu)
          rw [e3]
          exact (r3 j hj).mono (fun _ _ h=>h) (fun i x hx=>by cases hx)
     have s2:=s1.adopt hg' (hhas _ hhb).1 hFn (s.del_no hh hl1 hhb) hl1 (fun _ _ h=>h) (fun _ _=>rfl) s.free (fun k' hk'=>by
      obtain⟨_,x,hx,rfl⟩:=hk'
      rw [hbase] at hx
      cases hx
      rfl) hbx'
     have s3:=s2.turned (row:=none) (w':=grow ((Sort.ahead w m).setRow ad.block cur') os) ⟨rfl,rfl,rfl,by simp [grow],fun j hj _=>by unfold grow; exact Array.getElem?_append_left hj⟩ (fun r hr=>by cases hr) (.inr fun r es t hr=>by cases hr) rfl (s2.marks.mono fun j hj=>by
      unfold grow
      rw [Array.getElem?_append_left (Array.getElem?_eq_some_iff.1 hj).1]
      exact hj)
     refine s3.sub (fun _ _ h=>h) fun i b hi=>?_
     by_cases hid:i=ob
     · subst hid; rw [Heap.upd_same] at hi ⊢; exact hi
     · rw [Heap.upd_ne _ _ hid] at hi ⊢; rw [Heap.del_ne _ hid]; exact hi
end
end Go.Proofs.YtmnbbggaoembeaaGreatDoor
namespace Go.Proofs.YtmnbbggaoembeaaGreatDoor
open Go.RowKit
section
variable {P:Program} {C:Ctx} {Fr:Nat→Prop} {e:Env} {h:Heap} {F:Froz} {φ:Locs} {a:Act} {w:World}
theorem NSpec.ispec {f:FuncId} {args:List PV} {mk:Nat→PV} {b:Bx} (hs:NSpec P f args mk b) (hmk:Mk mk) (hpb:pureLL b.elems) (hpr:pureL args) {n:Nat}:ISpec P f n args h fun n' r h'=>n'=n+1∧r=mk n∧h'=h.upd n b:=by
 refine⟨hs.1,fun C e F φ a w vs s hv=>(hs.run hmk hpb hpr (Nat.le_refl n) s hv).mono ?_⟩
 rintro en w' ⟨v,F',φ',rfl,hr,s'⟩
 exact⟨v,mk n,n+1,h.upd n b,F',φ',rfl,⟨rfl,rfl,rfl⟩,hr,{ s' with free:=fun i hi=>s'.free i ⟨by omega,by omega⟩ }⟩
theorem Z1L {f nt:Nat} {ac:ACode} {rs:List ARes} (hf:FnOk P f nt ac rs) {args:List PV} {mk:Nat→PV} {b:Bx} (hn:args.length≤nt) (hk:∀ C:Ctx,C.dom 0→aw P C ac (retI rs fun _ r h'=>∃ id,r=mk id∧h' id=some b) 0 (argEnv args) (fun _=>none)):NSpec P f args mk b:=Z2d hf hn hk
theorem Z48 {f:Operand} {args:List Operand} {g:FuncId} {caps as0:List PV} {mk:Nat→PV} {b:Bx} {d:Option Nat} {os:List AOper} {n:Nat} {K:Nat→Env→Heap→Prop} (hs:NSpec P g (as0++caps) mk b) (hmk:Mk mk) (hpb:pureLL b.elems) (hf:ev e f=some (.fn g caps)) (ha:evs e args=some as0) (hp:pureL (as0++caps))
 (hk:opsK P os (n+1) (updO e d (mk n)) (h.upd n b) K):opsK P (⟨d,.call f args,none⟩ :: os) n e h K :=
 Z2e hf ha (hs.ispec hmk hpb hp) fun n' r h' hh=>by obtain⟨rfl,rfl,rfl⟩:=hh; exact hk
end
theorem NSpec.spec {P:Program} {f:FuncId} {args:List PV} {mk:Nat→PV} {b:Bx} (hs:NSpec P f args mk b) (hpb:pureLL b.elems) {q:PV} (hfr:∀ id,FrzP id b.elems (mk id) q) (hq:q.pure):Spec P f args (· = q):=by
 refine⟨hs.1,fun F w vs hF hv=>?_⟩
 let C1:Ctx:=⟨w,fun _=>False,F,1,noLoc⟩
 let a1:Act:={ tmps := #[undef],defers := [] }
 have s1:St' C1 (fun i=>0≤i) (fun _=>none) (fun _=>none) F noLoc a1 w :=
  { nt:=rfl,glob:=hF.2,marks:=Marks.nil rfl,loc0:=fun i x hx=>hx,free:=fun i hi=>rfl,env:=fun k p hp=>(by cases hp),froz:=hF.1,ext:=fun _ _ h=>h,old:=fun _ _ _=>rfl,os:=rfl,tape:=rfl,output:=rfl,size:=Nat.le_refl _,kept:=fun _ _ _=>rfl,live:=fun i b0 hi=>(by cases hi),sep:=fun i j bi bj li lj k hi hj _ _ _ _=>(by cases hi) }
 refine (hs.2 C1 _ F noLoc a1 w vs s1 hv).mono ?_
 rintro en w' ⟨v,r,n',h',F',φ',rfl,⟨id,rfl,hb'⟩,hvr,s'⟩
 have s2:=s'.put (d:=0) (show 0<1 by decide) hvr
 obtain⟨F2,φ2,s3⟩:=Z5n (k:=0) (p:=mk id) (Env.upd_same _ _ _) hb' hpb (hfr id) _ _ ⟨F',φ',s2⟩
 have hr:=(s3.env 0 q (Env.upd_same _ _ _)).2
 exact⟨v,q,F2,rfl,rfl,Rep.pure (φ:=φ2) (φ':=noLoc) hr hq,⟨s3.os,s3.tape,s3.output,s3.size,fun k hk=>s3.kept k hk fun h=>h⟩,⟨s3.froz,s3.glob⟩,s3.ext,fun x hx=>s3.old x hx fun h=>h⟩
section
variable {P:Program} {e:Env} {h:Heap} {n:Nat} {K:Nat→Env→Heap→Prop} {os:List AOper} {d:Option Nat}
theorem Spec.ro {g:FuncId} {args:List PV} {i k:Nat} {b:Bx} {v:Value} (hs:Spec P g (args.set i (.vec b.elems false)) (· = .val v)) (hi:args[i]?=some (.own k)) (hb:h k=some b) (hpb:pureLL b.elems) (hpr:pureL (args.set i (.vec b.elems false))) :
 ISpec P g n args h fun n' r h'=>n'=n∧r=.val v∧h'=h:=by
 refine⟨hs.1,fun C e F φ a w vs s hv=>?_⟩
 let C1:Ctx:=⟨C.w0,C.G,C.F0,vs.size,C.φ0⟩
 let a1:Act:={ a with tmps:=vs }
 have s1:St' C1 (fun j=>n≤j) (argEnv args) h F φ a1 w:=by
  refine { nt:=rfl,glob:=s.glob,marks:=⟨s.marks.nd,s.marks.all⟩,loc0:=s.loc0,free:=s.free,env:=fun j p hp=>?_,froz:=s.froz,ext:=s.ext,old:=s.old,os:=s.os,tape:=s.tape,output:=s.output,size:=s.size,kept:=s.kept,live:=s.live,sep:=s.sep }
  have hj:j<args.length:=(List.getElem?_eq_some_iff.1 hp).1
  refine⟨by show j<vs.size; rw [hv.1]; exact hj,?_⟩
  have h1:=hv.2 j hj
  have e2:args.getD j pvu=p:=by
   rw [List.getD_eq_getElem?_getD]
   have hp':args[j]?=some p:=hp
   rw [hp']; rfl
  rw [← e2]
  exact h1
 obtain⟨F2,φ2,s2⟩:=Z5n (k:=i) (p:=.own k) (q:=.vec b.elems false) hi hb hpb .own a1 w ⟨F,φ,s1⟩
 have hrep:RepL F2 noLoc vs (args.set i (.vec b.elems false)):=by
  refine⟨by rw [hv.1,List.length_set],fun j hj=>?_⟩
  have hj':j<args.length:=by rwa [List.length_set] at hj
  have he:((argEnv args).upd i (.vec b.elems false)) j=some ((args.set i (.vec b.elems false)).getD j pvu):=by
   by_cases hji:j=i
   · subst hji
     rw [Env.upd_same,List.getD_eq_getElem?_getD,List.getElem?_set_self hj']
     rfl
   · rw [Env.upd_ne _ _ hji, List.getD_eq_getElem?_getD, List.getElem?_set_ne (Ne.symm hji)]
     show args[j]?=_
     rw [List.getElem?_eq_getElem hj']
     rfl
  exact Rep.pure (φ:=φ2) (φ':=noLoc) (s2.env j _ he).2 (ZF hpr j)
 refine (hs.2 F2 w vs ⟨s2.froz,s2.glob⟩ hrep).mono ?_
 rintro en w' ⟨v',r,F3,rfl,rfl,hr,hbel,-,-,-⟩
 obtain rfl:v'=v:=hr.val_inv
 exact⟨v',.val v',n,h,F,φ,rfl,⟨rfl,rfl,rfl⟩,.val _,s.called hbel (Holds.kept ⟨s.froz,s.glob⟩ hbel) (fun _ _ h=>h) fun _ _=>rfl⟩
theorem ZfD {f:Operand} {args:List Operand} {g:FuncId} {caps as0 args':List PV} {i k:Nat} {b:Bx} {v:Value} (hs:Spec P g args' (· = .val v)) (hf:ev e f=some (.fn g caps)) (ha:evs e args=some as0) (hi:(as0++caps)[i]?=some (.own k)) (hb:h k=some b) (hargs:(as0++caps).set i (.vec b.elems false)=args') (hpb:pureLL b.elems) (hpr:pureL args')
 (hk:opsK P os n (updO e d (.val v)) h K):opsK P (⟨d,.call f args,none⟩ :: os) n e h K:=by
 subst hargs
 exact Z2e hf ha (hs.ro hi hb hpb hpr) fun n' r h' hh=>by obtain⟨rfl,rfl,rfl⟩:=hh; exact hk
theorem Z4z {neg:Bool} {x:Operand} (hx:(∃ l fl,ev e x=some (.vec l fl)) ∨ ∃ k,ev e x=some (.own k)) (hz:h n=none) (hk:∀ b,opsK P os n (updO e d (.val (.bool b))) h K):opsK P (⟨d,.isnil neg x,none⟩ :: os) n e h K:=by
 unfold opsK
 exact⟨n,e,h,Z3U,.inl (Zcr hx fun b=>by rw [Z53 hz]; exact hk b)⟩
end
section
variable {P:Program} {C:Ctx} {e:Env} {h:Heap} {n:Nat}
theorem Z1R {ob id i0 j0:Nat} {bo b:Bx} (hob:h ob=some bo) (hb:h id=some b) (hne:ob≠id) (hp:pureLL b.elems) (hi0:i0<bo.elems.length) (hj0:j0<(bo.elems.getD i0 []).length) (hcell:(bo.elems.getD i0 []).getD j0 pvu=.own id) (hz:0<bo.esz:=by exact Nat.le_of_ble_eq_true rfl) :
 Sub C n e h n e ((h.del id).upd ob ⟨bo.esz,bo.elems.set i0 ((bo.elems.getD i0 []).set j0 (.vec b.elems false))⟩):=by
 rintro a w ⟨F,φ,s⟩
 obtain⟨lo,o1,o2,o3⟩:=s.live ob bo hob
 have o2:=o2.cellsB hz
 have hcl:(bo.elems.getD i0 []).length=lo.esz:=o2.el _ (by simp [List.getD_eq_getElem?_getD,hi0])
 have hc0o:lo.cap≠0:=by have:=o2.cap; have:=o2.len; omega
 obtain⟨ado,hbaseo,hso,cellso,cto,hgo,hroomo,hrepo⟩:=o2.room hc0o
 have hr0:=(hrepo i0 j0 (by rw [← o2.len]; exact hi0) (by rw [← hcl]; exact hj0)).2
 rw [hcell] at hr0
 obtain⟨loc,hl,hzl,hv⟩:=hr0.own_inv
 obtain⟨loc',h1,h2,h3⟩:=s.live id b hb
 obtain rfl:loc'=loc:=by rw [h1] at hl; simpa using hl
 have h2:=h2.cells hzl
 have s1:St' C (fun i=>n≤i) e (h.del id) F φ a w:=s.sub (fun _ _ h=>h) (fun _ _ hh=>(Heap.del_some hh).2)
 have hdel:(h.del id) ob=some bo:=by rw [Heap.del_ne _ hne]; exact hob
 have fin:∀ {F':Froz},(∀ x v,F x=some v→F' x=some v)→St' C (fun i=>n≤i) e (h.del id) F' φ a w→Rep F' φ (cellso.getD (ado.off+(i0*lo.esz+j0)) undef) (.vec b.elems false) →
  St C (fun i=>n≤i) e ((h.del id).upd ob ⟨bo.esz,bo.elems.set i0 ((bo.elems.getD i0 []).set j0 (.vec b.elems false))⟩) a w:=by
  intro F' hx s2 hrep
  refine⟨F',φ,{ s2 with live:=fun i bi hi=>?_,sep:=fun i j bi bj li lj k hi hj hli hlj hki hkj=>?_ }⟩
  · by_cases hio : i = ob
    · subst hio
      rw [Heap.upd_same] at hi
      cases hi
      obtain⟨l2,g1,g2,g3⟩:=s2.live i bo hdel
      obtain rfl:l2=lo:=by rw [g1] at o1; simpa using o1
      refine⟨l2,g1,.inl ⟨o2.esz,o2.pos,by simpa using o2.len,o2.cap,o2.max,fun c hc=>?_,fun _=>⟨ado,hbaseo,hso,cellso,cto,hgo,hroomo,fun i' j' hi' hj'=>?_⟩⟩,g3⟩
      · rcases List.mem_or_eq_of_mem_set hc with h | h
        · exact o2.el c h
        · rw [h,List.length_set]; exact hcl
      · refine ⟨(hrepo i' j' hi' hj').1, ?_⟩
        by_cases hii:i'=i0
        · subst hii
          have e1:(bo.elems.set i' ((bo.elems.getD i' []).set j0 (.vec b.elems false))).getD i' []=(bo.elems.getD i' []).set j0 (.vec b.elems false):=by
           rw [List.getD_eq_getElem?_getD,List.getElem?_set]; simp [hi0]
          rw [e1]
          by_cases hjj:j'=j0
          · subst hjj
            have e2:((bo.elems.getD i' []).set j' (.vec b.elems false)).getD j' pvu=.vec b.elems false:=by
             rw [List.getD_eq_getElem?_getD,List.getElem?_set,if_pos rfl,if_pos hj0]; rfl
            rw [e2]
            exact hrep
          · have e2 : ((bo.elems.getD i' []).set j0 (.vec b.elems false)).getD j' pvu = (bo.elems.getD i' []).getD j' pvu := by
             rw [List.getD_eq_getElem?_getD,List.getElem?_set,if_neg (Ne.symm hjj),← List.getD_eq_getElem?_getD]
            rw [e2]
            exact (hrepo i' j' hi' hj').2.mono hx fun _ _ h=>h
        · have e1 : (bo.elems.set i0 ((bo.elems.getD i0 []).set j0 (.vec b.elems false))).getD i' [] = bo.elems.getD i' [] := by
           rw [List.getD_eq_getElem?_getD,List.getElem?_set,if_neg (Ne.symm hii),← List.getD_eq_getElem?_getD]
          rw [e1]
          exact (hrepo i' j' hi' hj').2.mono hx fun _ _ h=>h
    · rw [Heap.upd_ne _ _ hio] at hi
      exact s2.live i bi hi
  · have conv : ∀ {i : Nat} {bi : Bx}, ((h.del id).upd ob ⟨bo.esz, bo.elems.set i0 ((bo.elems.getD i0 []).set j0 (.vec b.elems false))⟩) i = some bi → ∃ b0, (h.del id) i = some b0 := by
     intro i bi hi
     by_cases hio:i=ob
     · subst hio; exact⟨bo,hdel⟩
     · rw [Heap.upd_ne _ _ hio] at hi; exact⟨bi,hi⟩
    obtain⟨b1,g1⟩:=conv hi
    obtain⟨b2,g2⟩:=conv hj
    exact s2.sep i j b1 b2 li lj k g1 g2 hli hlj hki hkj
 by_cases hc0:loc'.cap=0
 · have hl0 : loc'.len = 0 := by have := h2.cap; omega
   have he0:b.elems = []:=List.eq_nil_of_length_eq_zero (by rw [h2.len,hl0])
   refine fin (fun _ _ h=>h) s1 ?_
   rw [hv,he0,hl0,hc0]
   cases hbs:loc'.base with
   | none=>exact .vecnil false
   | some x=>exact .vec (F:=F) (φ:=φ) x 0 0 [] false (fun _ _=>undef) (fun h=>absurd rfl h) (Nat.le_refl _) (by simp) (by simp) (by simp) (by simp) (by simp)
 · obtain ⟨ad, hbase, hs, cells, ct, hg, hroom, hrep⟩ := h2.room hc0
   have hhas:loc'.has ad.block:=⟨hc0,ad,hbase,rfl⟩
   have s2:=s1.frz hg (h3 _ hhas).2 (s.del_no hb h1 hhas) (h3 _ hhas).1
   have hx:=Z1e (h3 _ hhas).2 cells
   refine fin hx s2 ?_
   rw [hv,hbase,← h2.len]
   have hlt2:∀ i j,i<b.elems.length→j<loc'.esz→ad.off+(i*loc'.esz+j)<cells.size:=fun i j hi hj=>by
    have:=Z1o (n:=loc'.cap) (i:=i) (j:=j) (esz:=loc'.esz) (by have:=h2.cap; have:=h2.len;omega) hj
    omega
   refine .vec ad loc'.cap loc'.esz b.elems false (fun i j=>cells.getD (ad.off+(i*loc'.esz+j)) undef) (fun _=>hs) (by rw [h2.len]; exact h2.cap) (by simp) (by rw [h2.len]; exact h2.max) (fun i hi=>h2.el _ (by simp [List.getD_eq_getElem?_getD,hi])) (fun i j hi hj=>?_) (fun i j hi hj=>?_)
   · exact Z1i F _ _ (hlt2 i j hi hj) (hrep i j (by rw [← h2.len]; exact hi) hj).1
   · exact (hrep i j (by rw [← h2.len]; exact hi) hj).2.mono hx fun _ _ h=>h
theorem ZO {ob id i0 j0:Nat} {bo b:Bx} (hob:h ob=some bo) (hb:h id=some b) (hne:ob≠id) (hp:pureLL b.elems) (hi0:i0<bo.elems.length) (hj0:j0<(bo.elems.getD i0 []).length) (hcell:(bo.elems.getD i0 []).getD j0 pvu=.own id) (hz:0<bo.esz:=by exact Nat.le_of_ble_eq_true rfl) :
 SubA n e h n e ((h.del id).upd ob ⟨bo.esz,bo.elems.set i0 ((bo.elems.getD i0 []).set j0 (.vec b.elems false))⟩):=fun _=>Z1R hob hb hne hp hi0 hj0 hcell hz
end
end Go.Proofs.YtmnbbggaoembeaaGreatDoor
namespace Go.Proofs.YtmnbbggaoembeaaGreatDoor
open Go.RowKit
attribute [local irreducible] aw opsK dK
theorem Z82 {α:Type} {p:α→Bool}:∀ {xs:List α},(∃ x∈xs,p x=true)→∃ (i:Nat) (hi:i<xs.length),idxI p xs=(i:Int)∧p xs[i]=true
 | [],h=>by obtain⟨_,h,_⟩:=h; cases h
 | x :: xs, h => by
   by_cases hx:p x=true
   · exact⟨0,Nat.zero_lt_succ _,by simp [idxI,hx],hx⟩
   · obtain ⟨y, hy, hp⟩ := h
     obtain⟨i,hi,h1,h2⟩:=Z82 (p:=p) (xs:=xs) ⟨y,(List.mem_cons.1 hy).resolve_left fun e=>hx (e▸hp),hp⟩
     refine⟨i+1,by rw [List.length_cons]; omega,?_,h2⟩
     have hn:¬ ((i:Int)<0):=by omega
     simp [idxI,hx,h1,hn]
set_option maxHeartbeats 1000000 in
theorem Zbo (xs:List Int) (v:Int) (fl:Bool):Spec Tryz.prog 148 [.vec (nums xs) fl,.val (.int .i64 v)] (· = .val (.int .i64 (idxI (fun x=>v == x) xs))):=by
 have hnl:=Z9b xs
 refine Z2 ok148 (Nat.le_of_ble_eq_true rfl) fun C hC=>?_
 refine Z2V (k:=0) rfl fun hmax=>?_
 have hlm:xs.length≤maxVec:=by rw [← hnl]; exact hmax
 refine go ?_
 refine Z2L (fun i=>i≤xs.length∧(xs.take i).any (fun x=>v == x)=false) (fun i=>xs.length-i) (fun i => [(0,.vec (nums xs) fl),(1,.val (.int .i64 v)),(7,.val (.int .i64 (xs.length:Int))),(8,.val (.int .i64 (i:Int)))]) 0 ⟨Nat.zero_le _,rfl⟩ ⟨rfl,rfl,by rw [← hnl]; rfl,rfl,trivial⟩ ?_
 rintro i ⟨hi,hno⟩
 have hinc:IntKind.i64.wrap ((i:Int)+1)=((i+1:Nat):Int):=IntWalk.i64_in _ ⟨by omega,by simp only [maxVec] at hlm; omega⟩
 iterate 2 (first|refine st ?_|(apply B<;>intro hb<;>try cases hb))
 refine Zn rfl rfl rfl (fun hb=>?_) (fun hb=>?_)
 · have hil : i < xs.length := by have := of_decide_eq_true hb; omega
   clear hb
   refine go ?_
   refine Z0 (Zo (xs:=xs) (g:=fun x => [.val (.int .i64 x)]) rfl rfl i rfl hil rfl) rfl rfl ?_
   iterate 1 (first|refine st ?_|(apply B<;>intro hb<;>try cases hb))
   refine Zn rfl rfl rfl (fun hx=>?_) (fun hx=>?_)
   · refine go ?_
     exact Z5 rfl trivial (by rw [Z3L hil hno hx])
   · refine go ?_
     exact⟨i+1,⟨by omega,Z3s hil hno hx⟩,by omega,rfl,rfl,⟨rfl,rfl,rfl,by show some _=some _; rw [hinc],trivial⟩⟩
 · have hil : i = xs.length := by have := of_decide_eq_false hb; omega
   subst hil
   rw [List.take_length] at hno
   refine go ?_
   exact Z5 rfl trivial (by rw [Z1Z hno]; rfl)
theorem Zes (f:Nat→Int):tab (intR f)=nums ((List.range 64).map f):=by rw [tab,nums,List.map_map]; rfl
theorem Z7d {f:Nat→Int} {i:Nat} (v:Int) (hi:i<64):(tab (intR f)).set i (setAt ((tab (intR f)).getD i []) 0 [.val (.int .i64 v)])=tab (intR fun j=>if j=i then v else f j):=by
 rw [Z2u hi,show setAt (intR f i) 0 [.val (.int .i64 v)] = [.val (.int .i64 v)] from rfl,ZcQ _ hi]
 refine Z39 fun j _=>?_
 show (if j=i then [PV.val (.int .i64 v)] else intR f j) = [PV.val (.int .i64 (if j=i then v else f j))]
 by_cases hj:j=i
 · rw [if_pos hj,if_pos hj]
 · rw [if_neg hj,if_neg hj]; rfl
theorem Z5A {f g:Nat→Int} (h:∀ j,j<64→f j=g j):tab (intR f)=tab (intR g):=Z39 fun j hj=>by show [PV.val (.int .i64 (f j))] = [PV.val (.int .i64 (g j))]; rw [h j hj]
def ordB (l:List Pr) (fp:Bool) (a b s:PV):Bx:=⟨5,[[.val (.int .i64 64),.vec (l.map prC) fp,a,b,s]]⟩
theorem Zg (l:List Pr):pureLL (l.map prC):=Z9 Z3p l
set_option maxHeartbeats 4000000 in
theorem Zbp (l:List Pr) (fp:Bool) (hl:Small l) (hacy:Acy l) (hlen:l.length≤1000000) :
 PSpec Tryz.prog 107 (ordB l fp (.vec [] true) (.vec [] true) (.vec [] true)) [] fun r b'=>r=.val (.bool true)∧∃ S,Topo l S∧S.length=64∧b'=ordB l fp (.vec [] true) (.vec [] true) (.vec (nums (intsN S)) false):=by
 have hpl:∀ D,innLL D (l.map prC):=fun D=>Za (fun _ h=>h.elim) _ (Zg l)
 have hnl:(l.map prC).length=l.length:=by simp
 have hti:∀ (f:Nat→Int) D,innLL D (tab (intR f)):=fun f D=>Za (fun _ h=>h.elim) _ (Z1j (Z46 f))
 refine Z1t ok107 (Nat.le_of_ble_eq_true rfl) fun C hC=>?_
 iterate 2 (first|refine st ?_|(apply B<;>intro hb<;>try cases hb))
 refine Zj (Z1W (id:=0) (i0:=0) (j0:=4) rfl (Nat.le_of_ble_eq_true rfl) (Nat.le_of_ble_eq_true rfl) rfl 1 (by decide) (by decide)) ?_
 refine go ?_
 refine Zl hC (fun i=>i≤l.length) (fun i=>l.length-i) 3 (fun i => [(0,.ptr 0 0 0),(3,.own 2),(17,.vec (l.map prC) fp),(18,.val (.int .i64 l.length)),(19,.val (.int .i64 (i:Int)))])
  (fun i => [(0,ordB l fp (.vec [] true) (.vec [] true) (.own 1)),(1,⟨1,[]⟩),(2,⟨1,tab (intR fun j=>(cntP (l.take i) j:Nat))⟩)]) (by omega) 0 (Nat.zero_le _)
  ⟨⟨rfl,show (0:Nat)<3 by decide⟩,⟨rfl,show (2:Nat)<3 by decide⟩,⟨rfl,hpl _⟩,⟨by rw [← hnl]; rfl,trivial⟩,⟨rfl,trivial⟩,trivial⟩
  ⟨⟨by decide,rfl,⟨⟨trivial,hpl _,trivial,trivial,show (1:Nat)<3 by decide,trivial⟩,trivial⟩⟩,⟨by decide,rfl,trivial⟩,⟨by decide,by show some (Bx.mk 1 (List.replicate 64 (zpv [Value.int .i64 0])))=_; rw [ZfA]; rfl,hti _ _⟩,trivial⟩ ?_
 intro i hi
 have hinc:IntKind.i64.wrap ((i:Int)+1)=((i+1:Nat):Int):=IntWalk.i64_in _ ⟨by omega,by omega⟩
 iterate 2 (first|refine st ?_|(apply B<;>intro hb<;>try cases hb))
 refine Zn rfl rfl rfl (fun hb=>?_) (fun hb=>?_)
 · have hil : i < l.length := by have := of_decide_eq_true hb; omega
   have hp:=hl _ (List.getElem_mem hil)
   have hst:=fun j=>ZcP hil j
   have hcl:=Zfz (l.take i) l[i].2
   rw [List.length_take] at hcl
   clear hb
   refine go ?_
   refine Z0 (Zo (xs:=l) (g:=prC) rfl rfl i rfl hil rfl) rfl rfl ?_
   generalize l[i]=p at hp hst hcl ⊢
   refine go ?_
   refine Z0 (ZJ rfl rfl rfl p.2 rfl (by rw [ZN]; exact hp.2) rfl) rfl rfl ?_
   refine Z0 (Z2B (i:=p.2) rfl rfl (by rw [ZN]; exact hp.2) (by rw [Z2u hp.2]; rfl)) rfl rfl ?_
   refine go ?_
   refine Z0 (ZJ rfl rfl rfl p.2 rfl (by rw [ZN]; exact hp.2) rfl) rfl rfl ?_
   refine Z0 (Z1I (i:=p.2) rfl rfl rfl rfl rfl (by rw [ZN]; exact hp.2) (Nat.le_refl _)) rfl rfl ?_
   refine go ?_
   have hadd:IntKind.i64.wrap (((cntP (l.take i) p.2:Nat):Int)+1)=((cntP (l.take i) p.2+1:Nat):Int):=IntWalk.i64_in _ ⟨by omega,by omega⟩
   refine⟨i+1,by omega,by omega,⟨⟨rfl,show (0:Nat)<3 by decide⟩,⟨rfl,show (2:Nat)<3 by decide⟩,⟨rfl,hpl _⟩,⟨rfl,trivial⟩,⟨by show some _=some _; rw [hinc],trivial⟩,trivial⟩,
    ⟨⟨by decide,rfl,⟨⟨trivial,hpl _,trivial,trivial,show (1:Nat)<3 by decide,trivial⟩,trivial⟩⟩,⟨by decide,rfl,trivial⟩,⟨by decide,?_,hti _ _⟩,trivial⟩⟩
   show some (Bx.mk 1 ((tab (intR fun j=>(cntP (l.take i) j:Nat))).set p.2 (setAt ((tab (intR fun j=>(cntP (l.take i) j:Nat))).getD p.2 []) 0 [.val (.int .i64 (IntKind.i64.wrap (((cntP (l.take i) p.2:Nat):Int)+1)))])))=some _
   rw [Z7d _ hp.2,hadd]
   refine congrArg (fun t=>some (Bx.mk 1 t)) (Z5A fun j _=>?_)
   show (if j=p.2 then ((cntP (l.take i) p.2+1:Nat):Int) else ((cntP (l.take i) j:Nat):Int))=((cntP (l.take (i+1)) j:Nat):Int)
   rw [hst j]
   by_cases hj:j=p.2
   · rw [if_pos hj,if_pos hj,hj]
   · rw [if_neg hj,if_neg hj]
 · have hil : i = l.length := by have := of_decide_eq_false hb; omega
   subst hil
   rw [List.take_length]
   clear hb
   refine go ?_
   refine Z1d hC (fun S:List Nat=>Topo l S) (fun S=>64-S.length) 3 (fun S => [(0,.ptr 0 0 0),(3,.own 2)])
    (fun S => [(0,ordB l fp (.vec [] true) (.vec [] true) (.own 1)),(1,⟨1,nums (intsN S)⟩),(2,⟨1,tab (intR (leftA l S))⟩)]) (by decide) [] (Topo.nil l) (fun i=>i) (fun _ _=>rfl) Z14
    ⟨⟨_,rfl,.ptr (ρ:=fun i=>i) 0 0 0 (by decide)⟩,⟨_,rfl,.own (ρ:=fun i=>i) 2 (by decide)⟩,trivial⟩
    ⟨⟨by decide, _, rfl, RenB.single ⟨.pure _ trivial, .pure _ (Zg l), .pure _ trivial, .pure _ trivial, .own (ρ := fun i => i) 1 (by decide), trivial⟩ rfl⟩, ⟨by decide, _, rfl, .same _ trivial⟩,
      ⟨by decide,_,rfl,by rw [show leftA l []=fun j=>((cntP l j:Nat):Int) from funext (Zeq l)]; exact .same _ (Z1j (Z46 _))⟩,trivial⟩ ?_
   intro S hT
   have hSl:=hT.len
   have hSn:(nums (intsN S)).length=S.length:=by simp [nums,intsN]
   have hap:∀ (l:List Nat) D,innLL D (nums (intsN l)):=fun l D=>Z40 _ D
   refine gd 40 ⟨?_⟩
   refine Z6Y rfl rfl rfl (fun hb=>?_) (fun hb=>?_)
   · have hlt : S.length < 64 := by
      have h2:=of_decide_eq_true hb
      rw [hSn] at h2
      omega
     clear hb
     refine go ?_
     obtain⟨j0,hj0,hjn,hjp⟩:=kahn hl hacy hT hlt
     obtain⟨k,hk,hidx,hpk⟩:=Z82 (p:=fun x=>(0:Int) == x) (xs:=(List.range 64).map (leftA l S)) ⟨leftA l S j0,List.mem_map.2 ⟨j0,List.mem_range.2 hj0,rfl⟩,by rw [Z6p.2 ⟨hjn,hjp⟩]; rfl⟩
     have hk64:k<64:=by simpa using hk
     have hz:leftA l S k=0:=by
      have:=eq_of_beq hpk
      rw [List.getElem_map,List.getElem_range] at this
      exact this.symm
     obtain⟨hkS,hkp⟩:=Z6p.1 hz
     refine ZfD (i:=0) (k:=2) (Zbo ((List.range 64).map (leftA l S)) 0 false) rfl rfl rfl rfl (by show [PV.vec (tab (intR (leftA l S))) false,PV.val (.int .i64 0)]=_; rw [Zes]) (Z1j (Z46 _)) ⟨Zu _,trivial,trivial⟩ ?_
     rw [hidx]
     have hT':=hT.snoc hkS hk64 hkp
     refine go ?_
     · refine Z0 (ZJ rfl rfl rfl k rfl (by rw [ZN]; exact hk64) rfl) rfl rfl ?_
       refine Z0 (Z1I (i:=k) rfl rfl rfl rfl rfl (by rw [ZN]; exact hk64) (Nat.le_refl _)) rfl rfl ?_
       have e0:(tab (intR (leftA l S))).set k (setAt ((tab (intR (leftA l S))).getD k []) 0 [.val (.int .i64 (-1))])=tab (intR (leftB l S k 0)):=by
        rw [Z7d _ hk64]
        exact Z5A fun j _=>(Zbg l S k j).symm
       refine go ?_
       refine ZU (ZQ (k:=1) (m := [[.val (.int .i64 (k:Int))]]) (fl:=true) (b:=⟨1,nums (intsN S)⟩) rfl rfl rfl (fun r hr=>by rw [List.mem_singleton] at hr; subst hr; rfl) rfl (by
        show ((nums (intsN S)).length+1)*8≤_
        rw [hSn];omega)) rfl rfl ?_
       refine go ?_
       have hSk:nums (intsN S) ++ [[PV.val (.int .i64 (k:Int))]]=nums (intsN (S ++ [k])):=by simp [nums,intsN]
       refine Zl hC (fun i=>i≤l.length) (fun i=>l.length-i) 14 (fun i => [(0,.ptr 0 0 0),(3,.own 2),(6,.val (.int .i64 (k:Int))),(61,.vec (l.map prC) fp),(62,.val (.int .i64 l.length)),(63,.val (.int .i64 (i:Int)))])
        (fun i => [(0,ordB l fp (.vec [] true) (.vec [] true) (.own 13)),(13,⟨1,nums (intsN (S ++ [k]))⟩),(2,⟨1,tab (intR (leftB l S k i))⟩)]) (by decide) 0 (Nat.zero_le _)
        ⟨⟨rfl,show (0:Nat)<14 by decide⟩,⟨rfl,show (2:Nat)<14 by decide⟩,⟨rfl,trivial⟩,⟨rfl,hpl _⟩,⟨by rw [← hnl]; rfl,trivial⟩,⟨rfl,trivial⟩,trivial⟩
        ⟨⟨by decide,rfl,⟨⟨trivial,hpl _,trivial,trivial,show (13:Nat)<14 by decide,trivial⟩,trivial⟩⟩,⟨by decide,by rw [← hSk]; rfl,hap _ _⟩,⟨by decide,by rw [← e0]; rfl,hti _ _⟩,trivial⟩ ?_
       intro i hi
       have hinc:IntKind.i64.wrap ((i:Int)+1)=((i+1:Nat):Int):=IntWalk.i64_in _ ⟨by omega,by omega⟩
       iterate 2 (first|refine st ?_|(apply B<;>intro hb<;>try cases hb))
       refine Zn rfl rfl rfl (fun hb=>?_) (fun hb=>?_)
       · have hil : i < l.length := by have := of_decide_eq_true hb; omega
         have hp:=hl _ (List.getElem_mem hil)
         have hst:=fun j=>Zbh hil j hT hkS hkp
         clear hb
         refine go ?_
         refine Z0 (Zo (xs:=l) (g:=prC) rfl rfl i rfl hil rfl) rfl rfl ?_
         generalize l[i]=p at hp hst ⊢
         have hbl:=Zep l S k i p.2
         (refine go ?_;repeat' (apply B<;>intro hb<;>try cases hb))
         · have hpk1 : p.1 = k := by have := eq_of_beq hb; exact Int.ofNat_inj.1 this
           clear hb
           refine Z0 (ZJ rfl rfl rfl p.2 rfl (by rw [ZN]; exact hp.2) rfl) rfl rfl ?_
           refine Z0 (Z2B (i:=p.2) rfl rfl (by rw [ZN]; exact hp.2) (by rw [Z2u hp.2]; rfl)) rfl rfl ?_
           refine go ?_
           refine Z0 (ZJ rfl rfl rfl p.2 rfl (by rw [ZN]; exact hp.2) rfl) rfl rfl ?_
           refine Z0 (Z1I (i:=p.2) rfl rfl rfl rfl rfl (by rw [ZN]; exact hp.2) (Nat.le_refl _)) rfl rfl ?_
           (refine go ?_;repeat' (apply B<;>intro hb<;>try cases hb))
           have hsub:IntKind.i64.wrap (leftB l S k i p.2-1)=leftB l S k i p.2-1:=IntWalk.i64_in _ ⟨by omega,by omega⟩
           refine⟨i+1,by omega,by omega,⟨⟨rfl,show (0:Nat)<14 by decide⟩,⟨rfl,show (2:Nat)<14 by decide⟩,⟨rfl,trivial⟩,⟨rfl,hpl _⟩,⟨rfl,trivial⟩,⟨by show some _=some _; rw [hinc],trivial⟩,trivial⟩,
            ⟨⟨by decide,rfl,⟨⟨trivial,hpl _,trivial,trivial,show (13:Nat)<14 by decide,trivial⟩,trivial⟩⟩,⟨by decide,rfl,hap _ _⟩,⟨by decide,?_,hti _ _⟩,trivial⟩⟩
           show some (Bx.mk 1 ((tab (intR (leftB l S k i))).set p.2 (setAt ((tab (intR (leftB l S k i))).getD p.2 []) 0 [.val (.int .i64 (IntKind.i64.wrap (leftB l S k i p.2-1)))])))=some _
           rw [Z7d _ hp.2,hsub]
           refine congrArg (fun t=>some (Bx.mk 1 t)) (Z5A fun j _=>?_)
           show (if j=p.2 then leftB l S k i p.2-1 else leftB l S k i j)=leftB l S k (i+1) j
           rw [hst j]
           by_cases hj:j=p.2
           · rw [if_pos hj,if_pos ⟨hpk1,hj⟩,hj]
           · rw [if_neg hj,if_neg fun h=>hj h.2]
         · have hpk1 : ¬ p.1 = k := fun h => by rw [h] at hb; simp at hb
           clear hb
           refine⟨i+1,by omega,by omega,⟨⟨rfl,show (0:Nat)<14 by decide⟩,⟨rfl,show (2:Nat)<14 by decide⟩,⟨rfl,trivial⟩,⟨rfl,hpl _⟩,⟨rfl,trivial⟩,⟨by show some _=some _; rw [hinc],trivial⟩,trivial⟩,
            ⟨⟨by decide,rfl,⟨⟨trivial,hpl _,trivial,trivial,show (13:Nat)<14 by decide,trivial⟩,trivial⟩⟩,⟨by decide,rfl,hap _ _⟩,⟨by decide,?_,hti _ _⟩,trivial⟩⟩
           show some (Bx.mk 1 (tab (intR (leftB l S k i))))=some _
           refine congrArg (fun t=>some (Bx.mk 1 t)) (Z5A fun j _=>?_)
           rw [hst j,if_neg fun h=>hpk1 h.1]
       · have hil : i = l.length := by have := of_decide_eq_false hb; omega
         subst hil
         clear hb
         refine go ?_
         refine⟨S ++ [k],mv 1 13,hT',by rw [List.length_append,List.length_singleton]; omega,Z6k (Nat.le_refl 1),ZR rfl,
          ⟨⟨_,rfl,.ptr (ρ:=mv 1 13) 0 0 0 (by decide)⟩,⟨_,rfl,.own (ρ:=mv 1 13) 2 (by decide)⟩,trivial⟩,
          ⟨⟨by decide,_,rfl,RenB.single ⟨.pure _ trivial,.pure _ (Zg l),.pure _ trivial,.pure _ trivial,.own (ρ:=mv 1 13) 1 (by decide),trivial⟩ rfl⟩,⟨by decide,_,rfl,.same _ (Zu _)⟩,
          ⟨by decide,_,rfl,?_⟩,trivial⟩⟩
         rw [show tab (intR (leftB l S k l.length))=tab (intR (leftA l (S ++ [k]))) from Z5A fun j _=>ZcO l S k j]
         exact .same _ (Z1j (Z46 _))
   · have h64 : S.length = 64 := by
      have h2:=of_decide_eq_false hb
      rw [hSn] at h2
      omega
     clear hb
     refine gd 2 ⟨?_⟩
     refine Zj (ZO (ob:=0) (id:=1) (i0:=0) (j0:=4) rfl rfl (by decide) (Zu _) (Nat.le_of_ble_eq_true rfl) (Nat.le_of_ble_eq_true rfl) rfl) ?_
     refine go ?_
     exact⟨_,_,rfl,.inl rfl,_,rfl,trivial,⟨⟨trivial,Zg l,trivial,trivial,Zu _,trivial⟩,trivial⟩,rfl,S,hT,h64,rfl⟩
end Go.Proofs.YtmnbbggaoembeaaGreatDoor
namespace Go.Proofs.YtmnbbggaoembeaaGreatDoor
open Go.RowKit
section
variable {P:Program} {C:Ctx} {e:Env} {h:Heap}
theorem Zeu (k k':Nat):mv k k' k=k':=by
 unfold mv
 rw [show Nat.beq k k=true from Nat.beq_refl k]; rfl
theorem Z4X {k k' i:Nat} (hi:i≠k):mv k k' i=i:=by
 have e1:Nat.beq i k=false:=Bool.eq_false_iff.2 fun hb=>hi (Nat.eq_of_beq_eq_true hb)
 unfold mv
 rw [e1]; rfl
theorem Z9n {h0:Heap} {D n0:Nat} (hD:D<n0) {g:Nat→Bx} {j0 new n':Nat} (hj:j0<64) (hnew:n0+64≤new) {r:Bx} (hr:pureLL r.elems) (hg:∀ j,pureLL (g j).elems) {e':Env} (he:∀ k p,e' k=some p→∃ p0,e k=some p0∧RenP (mv (n0+j0) new) (fun i=>i<n0+64) p0 p)
 (hb:∀ k b,h0 k=some b→k≠D→k<n0∧RenB (mv (n0+j0) new) (fun i=>i<n0+64) b b) {m:Nat} (hdom:C.dom m) (hm:m≤n0) :
 Sub C n' e ((((tabH h0 D n0 (fun j=>.own (n0+j)) 64 g).del (n0+j0)).upd new r).upd D ⟨1,((List.range 64).map fun j => [PV.own (n0+j)]).set j0 [.own new]⟩) (n0+64) e' (tabH h0 D n0 (fun j=>.own (n0+j)) 64 fun j=>if j=j0 then r else g j):=by
 have hcase:∀ k b,tabH h0 D n0 (fun j=>.own (n0+j)) 64 (fun j=>if j=j0 then r else g j) k=some b→k<n0+64:=fun k b hk=>by
  rcases Z6r hD hk with⟨rfl,_⟩|⟨j,hj,rfl,_⟩|⟨h1,h2,h3⟩
  · omega
  · omega
  · have:=(hb k b h3 h1).1; omega
 refine Zet (mv (n0+j0) new) he (fun k b hk=>⟨hcase k b hk,?_⟩) (fun k k' b b' hk hk' hh=>?_) hdom (by omega) (fun i hi=>Z4X (by omega))
 · rcases Z6r hD hk with ⟨rfl, rfl⟩ | ⟨j, hj2, rfl, rfl⟩ | ⟨h1, h2, h3⟩
   · rw [Z4X (by omega), Heap.upd_same]
     refine⟨_,rfl,.gen _ _ Nat.zero_lt_one rfl (by simp) (fun i hi=>?_) fun i q hi hq=>?_⟩
     · have hi' : i < 64 := by simpa using hi
       rw [Z4a _ hj,Z18 hi',Z18 hi']
       split<;>rfl
     · have hi' : i < 64 := by simpa using hi
       have hq0:q=0:=Nat.lt_one_iff.1 hq
       subst hq0
       rw [Z4a _ hj,Z18 hi',Z18 hi']
       by_cases hij:i=j0
       · subst hij
         rw [if_pos rfl]
         show RenP _ _ (.own new) (.own (n0+i))
         have:=RenP.own (ρ:=mv (n0+i) new) (D:=fun x=>x<n0+64) (n0+i) (by omega)
         rw [Zeu] at this
         exact this
       · rw [if_neg hij]
         show RenP _ _ (.own (n0+i)) (.own (n0+i))
         have:=RenP.own (ρ:=mv (n0+j0) new) (D:=fun x=>x<n0+64) (n0+i) (by omega)
         rw [Z4X (by omega)] at this
         exact this
   · by_cases hjj : j = j0
     · subst hjj
       rw [Zeu,Heap.upd_ne _ _ (by omega),Heap.upd_same,if_pos rfl]
       exact⟨r,rfl,.same r hr⟩
     · rw [Z4X (by omega), Heap.upd_ne _ _ (by omega), Heap.upd_ne _ _ (by omega), Heap.del_ne _ (by omega), Z28 _ hD _ _ hj2, if_neg hjj]
       exact⟨g j,rfl,.same _ (hg j)⟩
   · have h4 := hb k b h3 h1
     rw [Z4X (by omega),Heap.upd_ne _ _ h1,Heap.upd_ne _ _ (by omega),Heap.del_ne _ (by omega),Z29 _ _ _ h1 h2]
     exact⟨b,h3,h4.2⟩
 · have l1 := hcase k b hk
   have l2:=hcase k' b' hk'
   by_cases e1:k=n0+j0
   · by_cases e2 : k' = n0 + j0
     · rw [e1,e2]
     · rw [e1,Zeu,Z4X e2] at hh; omega
   · by_cases e2 : k' = n0 + j0
     · rw [e2,Zeu,Z4X e1] at hh; omega
     · rw [Z4X e1,Z4X e2] at hh; exact hh
def frzTo (n0 i:Nat) (g:Nat→Bx) (j:Nat):PV:=if j<i then .vec (g j).elems false else .own (n0+j)
theorem Zev {h0:Heap} {D n0 i:Nat} (hD:D<n0) (h0n:∀ k,n0≤k→k<n0+64→h0 k=none) (g:Nat→Bx) (hi:i<64) :
 ((tabH h0 D (n0 + i) (frzTo n0 i g) (64 - i) (fun q => g (i + q))).del (n0 + i)).upd D ⟨1, ((List.range 64).map fun j => [frzTo n0 i g j]).set i ((((List.range 64).map fun j => [frzTo n0 i g j]).getD i []).set 0 (.vec (g i).elems false))⟩
   = tabH h0 D (n0+(i+1)) (frzTo n0 (i+1) g) (64-(i+1)) (fun q=>g (i+1+q)):=by
 funext k
 rw [Z18 hi,Z4a _ hi]
 by_cases h2:k=D
 · subst h2
   rw [Heap.upd_same,Z2m]
   refine congrArg (fun l=>some (Bx.mk 1 l)) (List.map_congr_left fun j hj=>?_)
   unfold frzTo
   by_cases hji:j=i
   · subst hji; rw [if_pos rfl,if_pos (Nat.lt_succ_self _)]; rfl
   · rw [if_neg hji]
     by_cases hlt:j<i
     · rw [if_pos hlt,if_pos (by omega)]
     · rw [if_neg hlt,if_neg (by omega)]
 · rw [Heap.upd_ne _ _ h2]
   by_cases h1:k=n0+i
   · subst h1
     rw [Heap.del_same,Z29 _ _ _ h2 (by omega),h0n _ (by omega) (by omega)]
   · rw [Heap.del_ne _ h1]
     by_cases h3:n0+(i+1)≤k∧k<n0+64
     · obtain ⟨q, rfl⟩ : ∃ q, k = n0 + (i + 1) + q := ⟨k - (n0 + (i + 1)), by omega⟩
       rw [Z28 _ (by omega) _ _ (by omega:q<64-(i+1)),show n0+(i+1)+q=n0+i+(q+1) by omega,Z28 _ (by omega) _ _ (by omega:q+1<64-i)]
       rw [show i+(q+1)=i+1+q by omega]
     · rw [Z29 _ _ _ h2 (by omega),Z29 _ _ _ h2 (by omega)]
theorem Z7e {h0:Heap} {D n0 n k:Nat} (hD:D<n0) (h0n:∀ k,n0≤k→k<n0+64→h0 k=none) (hk:e k=some (.own D)) {g:Nat→Bx} (hg:∀ j,pureLL (g j).elems) :
 Sub C n e (tabH h0 D n0 (fun j=>.own (n0+j)) 64 g) n (e.upd k (.vec ((List.range 64).map fun j => [.vec (g j).elems false]) false)) (h0.del D):=by
 have key:∀ i,i≤64→Sub C n e (tabH h0 D n0 (fun j=>.own (n0+j)) 64 g) n e (tabH h0 D (n0+i) (frzTo n0 i g) (64-i) (fun q=>g (i+q))):=by
  intro i
  induction i with
  | zero =>
    intro _
    have e1:tabH h0 D (n0+0) (frzTo n0 0 g) (64-0) (fun q=>g (0+q))=tabH h0 D n0 (fun j=>.own (n0+j)) 64 g:=by
     have e2:(fun q=>g (0+q))=g:=funext fun q=>by rw [Nat.zero_add]
     rw [e2]
     rfl
    rw [e1]
    exact Z6W
  | succ i ih =>
    intro hi
    have hi':i<64:=by omega
    refine Z5h (ih (by omega)) ?_
    rw [← Zev hD h0n g hi']
    have hrow:=Z28 h0 (D:=D) (n:=n0+i) (by omega) (frzTo n0 i g) (K:=64-i) (fun q=>g (i+q)) (j:=0) (by omega)
    refine Z1R (ob:=D) (id:=n0+i) (i0:=i) (j0:=0) (bo:=⟨1,(List.range 64).map fun j => [frzTo n0 i g j]⟩) (b:=g i) (Z2m _ _ _ _ _ _) hrow (by omega) (hg i) (by simpa using hi') (by rw [Z18 hi']; exact Nat.zero_lt_one) ?_
    rw [Z18 hi']
    show frzTo n0 i g i=_
    unfold frzTo
    rw [if_neg (Nat.lt_irrefl i)]
 have last:=key 64 (Nat.le_refl _)
 have htab:tabH h0 D (n0+64) (frzTo n0 64 g) (64-64) (fun q=>g (64+q)) D=some ⟨1,(List.range 64).map fun j => [PV.vec (g j).elems false]⟩:=by
  rw [Z2m]
  refine congrArg (fun l=>some (Bx.mk 1 l)) (List.map_congr_left fun j hj=>?_)
  unfold frzTo
  rw [if_pos (List.mem_range.1 hj)]
 have hpl:pureLL ((List.range 64).map fun j => [PV.vec (g j).elems false]):=by
  refine (Z1S _ _).2 fun r hr=>?_
  obtain⟨j,_,rfl⟩:=List.mem_map.1 hr
  exact⟨hg j,trivial⟩
 have fz:=Z6e (C:=C) (n:=n) hk htab hpl
 have e3:(tabH h0 D (n0+64) (frzTo n0 64 g) (64-64) (fun q=>g (64+q))).del D=h0.del D:=by
  funext q
  by_cases hq:q=D
  · subst hq; rw [Heap.del_same,Heap.del_same]
  · rw [Heap.del_ne _ hq,Heap.del_ne _ hq,Z29 _ _ _ hq (by omega)]
 rw [e3] at fz
 exact Z5h last fz
end
end Go.Proofs.YtmnbbggaoembeaaGreatDoor
namespace Go.Proofs.YtmnbbggaoembeaaGreatDoor
open Go.RowKit
attribute [local irreducible] aw opsK dK
def dirN (l:List Pr) (j:Nat):List Nat:=(l.filter fun p=>p.2 == j).map (·.1)
theorem ZcV {l:List Pr} {i:Nat} (hi:i<l.length) (j:Nat):dirN (l.take (i+1)) j=if j=l[i].2 then dirN (l.take i) j ++ [l[i].1] else dirN (l.take i) j:=by
 have e:l.take (i+1)=l.take i ++ [l[i]]:=by rw [List.take_add_one,List.getElem?_eq_getElem hi]; rfl
 unfold dirN
 rw [e,List.filter_append]
 by_cases h:j=l[i].2
 · rw [if_pos h,List.filter_cons_of_pos (by simp [h])]; simp
 · rw [if_neg h,List.filter_cons_of_neg (by simp [Ne.symm h])]; simp
theorem Z58 {l:List Pr} {a j:Nat}:a∈dirN l j↔(a,j)∈l:=by
 unfold dirN
 rw [List.mem_map]
 constructor
 · rintro ⟨p, hp, rfl⟩
   obtain⟨h1,h2⟩:=List.mem_filter.1 hp
   have:=eq_of_beq h2
   rw [← this]; exact h1
 · intro h
   exact⟨(a,j),List.mem_filter.2 ⟨h,by simp⟩,rfl⟩
theorem Zas (l:List Pr) (j:Nat):(dirN l j).length≤l.length:=by
 unfold dirN
 rw [List.length_map]
 exact List.length_filter_le _ _
def dirR (l:List Pr) (j:Nat):Bx:=⟨1,nums (intsN (dirN l j))⟩
theorem Z83 (l:List Pr) (j:Nat):pureLL (dirR l j).elems:=Zu _
def setR (f:Nat→Nat) (j:Nat):List PV := [.vec (words (digs (f j))) false]
theorem Z1D (f:Nat→Nat) (j:Nat):pureL (setR f j):=⟨Ze _,trivial⟩
theorem ZfE {k m n it mask:Nat} {un:List Nat} (h1:k<n) (h2:m.testBit it=true):okId ⟨none,[(k,m)],un,none⟩ n it mask k=true:=by
 have e1:Nat.blt k n=true:=Eq.mpr Nat.blt_eq h1
 simp [okId,resv,grpB,grpOf,e1,h2]
theorem Zat {k k' m n it mask:Nat} {un:List Nat} (h1:k<n) (h2:k≠k'):okId ⟨none,[(k',m)],un,none⟩ n it mask k=true:=by
 have e1:Nat.blt k n=true:=Eq.mpr Nat.blt_eq h1
 have e2:Nat.beq k k'=false:=Bool.eq_false_iff.2 fun hb=>h2 (Nat.eq_of_beq_eq_true hb)
 simp only [okId,resv,grpB,grpOf,e1,e2]
 rfl
theorem Zh4 {k m n it iso:Nat} {un:List Nat} (h:m &&& un.getD it 0=0):okW ⟨none,[(k,m)],un,none⟩ n it iso k=true:=by
 have e1:Nat.beq k k=true:=Nat.beq_refl k
 have e2:apartB ⟨none,[(k,m)],un,none⟩ it k=true:=by
  unfold apartB grpOf
  rw [e1]
  show Nat.beq (m &&& un.getD it 0) 0=true
  rw [h]; rfl
 unfold okW
 rw [e2,Bool.or_true]
theorem Zew {q m:Nat} (q':Nat) {un:List Nat} {l:List DItem}:unOk ⟨none,[(q,m)],un,none⟩ l=unOk ⟨none,[(q',m)],un,none⟩ l:=rfl
theorem accA {z:Rsv} {zz:List Value} {b:Nat} {s x:Operand} {e:Env} {n it mask iso k:Nat} (hs:ev e s=some (.own k)) (h1:okId z n it mask k=true) (h2:okW z n it iso k=true):accOk z (.append zz b s x) e n it mask iso=true:=by
 simp [accOk,hs,h1,h2]
theorem accI {z:Rsv} {b:Nat} {s x:Operand} {e:Env} {n it mask iso k:Nat} (hs:ev e s=some (.own k)) (h1:okId z n it mask k=true):accOk z (.iaddr b s x) e n it mask iso=true:=by
 simp [accOk,hs,okPtr,h1]
theorem accL {z:Rsv} {g:Bool} {b:Nat} {s:Operand} {e:Env} {n it mask iso k i off:Nat} (hs:ev e s=some (.ptr k i off)) (h1:okId z n it mask k=true):accOk z (.load g b s) e n it mask iso=true:=by
 simp [accOk,hs,okPtr,h1]
theorem accS {z:Rsv} {b:Nat} {s v:Operand} {e:Env} {n it mask iso k i off:Nat} (hs:ev e s=some (.ptr k i off)) (h1:okId z n it mask k=true) (h2:iso.testBit 0=true):accOk z (.store b s v) e n it mask iso=true:=by
 simp [accOk,hs,okPtr,okWP,okW,h1,h2]
def baseR (l:List Pr) (fp:Bool) (S:List Nat):Heap:=heapL [(0,ordB l fp (.own 7) (.own 12) (.vec (nums (intsN S)) false)),(7,⟨1,List.replicate 64 [.vec [] true]⟩),(12,⟨1,List.replicate 64 [.vec [] true]⟩),(19,⟨1,List.replicate 64 [.vec [] true]⟩)]
noncomputable def aS (l:List Pr) (rs:List Nat):Nat:=rs.foldl (fun o a=>(o ||| abv l a) ||| 2 ^ a) 0
theorem ZfF (l:List Pr) (rs:List Nat) (a:Nat):aS l (rs ++ [a])=(aS l rs ||| abv l a) ||| 2 ^ a:=by simp [aS,List.foldl_append]
theorem ZcW (l:List Pr) (b:Nat):∀ (rs:List Nat) (o:Nat),(rs.foldl (fun o a=>(o ||| abv l a) ||| 2 ^ a) o).testBit b=true↔o.testBit b=true ∨ ∃ a∈rs,(abv l a).testBit b=true ∨ b=a
 | [],o=>by simp
 | a :: rs, o => by
   rw [List.foldl_cons,ZcW l b rs,Nat.testBit_or,Nat.testBit_or,Bool.or_eq_true,Bool.or_eq_true,Nat.testBit_two_pow,decide_eq_true_iff]
   constructor
   · rintro (((h | h) | h) | ⟨x, hx, h⟩)
     · exact .inl h
     · exact .inr ⟨a,List.mem_cons_self ..,.inl h⟩
     · exact .inr ⟨a,List.mem_cons_self ..,.inr h.symm⟩
     · exact .inr ⟨x,List.mem_cons_of_mem _ hx,h⟩
   · rintro (h | ⟨x, hx, h⟩)
     · exact .inl (.inl (.inl h))
     · rcases List.mem_cons.1 hx with rfl | hx
       · rcases h with h | h
         · exact .inl (.inl (.inr h))
         · exact .inl (.inr h.symm)
       · exact .inr ⟨x,hx,h⟩
theorem ZfG (l:List Pr):∀ (rs:List Nat) (o:Nat),(∀ a∈rs,a<64)→o<18446744073709551616→rs.foldl (fun o a=>(o ||| abv l a) ||| 2 ^ a) o<18446744073709551616
 | [],o,_,ho=>ho
 | a :: rs, o, h, ho => by
   rw [List.foldl_cons]
   exact ZfG l rs _ (fun x hx=>h x (List.mem_cons_of_mem _ hx)) (Z42 (Z42 ho (Z5u l a)) (ZL (h a (List.mem_cons_self ..))))
theorem Z9o {l:List Pr} (hl:Small l) {a j:Nat} (h:a∈dirN l j):a<64:=(hl _ (Z58.1 h)).1
theorem Zgs {l:List Pr} (hl:Small l) (b:Nat):aS l (dirN l b)=abv l b:=by
 refine eq64 (ZfG l _ 0 (fun a ha=>Z9o hl ha) (by decide)) (Z5u l b) fun i hi=>?_
 rw [Bool.eq_iff_iff,Z5t hl,Zgr]
 unfold aS
 rw [ZcW]
 constructor
 · rintro (h | ⟨a, ha, h⟩)
   · simp at h
   · exact⟨a,Z58.1 ha,h.elim (fun h=>.inr ((Z5t hl i a).1 h)) .inl⟩
 · rintro ⟨c, hc, h⟩
   exact .inr ⟨c,Z58.2 hc,h.elim .inr fun h=>.inl ((Z5t hl i c).2 h)⟩
noncomputable def abvT (l:List Pr) (S:List Nat) (t j:Nat):Nat:=if j∈S.take t then abv l j else 0
open Classical in
noncomputable def belT (l:List Pr) (S:List Nat) (t j:Nat):Nat:=ofP (fun b=>decide (b∈S.take t∧Up l j b)) 64
theorem Z3M (l:List Pr) (S:List Nat) (t j:Nat):belT l S t j<18446744073709551616:=ZcL _
theorem Z4b (l:List Pr) (S:List Nat) (t j b:Nat):(belT l S t j).testBit b=true↔b<64∧b∈S.take t∧Up l j b:=by
 unfold belT
 rw [Z78]
 simp only [Bool.and_eq_true,decide_eq_true_eq]
theorem Z5B {S:List Nat} {t:Nat} (ht:t<S.length):S.take (t+1)=S.take t ++ [S[t]]:=by rw [List.take_add_one,List.getElem?_eq_getElem ht]; rfl
theorem ZcX {l:List Pr} {S:List Nat} {t:Nat} (ht:t<S.length) (j:Nat):abvT l S (t+1) j=if j=S[t] then abv l S[t] else abvT l S t j:=by
 unfold abvT
 rw [Z5B ht]
 by_cases h:j=S[t]
 · rw [if_pos (List.mem_append.2 (.inr (List.mem_singleton.2 h))),if_pos h,h]
 · rw [if_neg h]
   by_cases h2:j∈S.take t
   · rw [if_pos (List.mem_append_left _ h2),if_pos h2]
   · rw [if_neg (fun hh=>(List.mem_append.1 hh).elim h2 fun h3=>h (List.mem_singleton.1 h3)),if_neg h2]
theorem Zau {S:List Nat} (hn:S.Nodup) {t:Nat} (ht:t<S.length):S[t] ∉ S.take t:=by
 intro h
 obtain⟨i,hi,he⟩:=List.getElem_of_mem h
 rw [List.length_take] at hi
 rw [List.getElem_take] at he
 exact (List.pairwise_iff_getElem.1 hn) i t (by omega) ht (by omega) he
theorem Zex {l:List Pr} {S:List Nat} (hn:S.Nodup) {t:Nat} (ht:t<S.length):abvT l S t S[t]=0:=if_neg (Zau hn ht)
theorem Zey {l:List Pr} {S:List Nat} {t a:Nat} (h:a∈S.take t):abvT l S t a=abv l a:=if_pos h
theorem ZcY {l:List Pr} (hl:Small l) {S:List Nat} {t:Nat} (ht:t<S.length) (h64:S[t]<64) (j:Nat):belT l S (t+1) j=if j∈mem (abv l S[t]) then belT l S t j ||| 2 ^ S[t] else belT l S t j:=by
 have hm:j∈mem (abv l S[t])↔Up l j S[t]:=by rw [Z38 (Z5u l _),Z5t hl]
 refine eq64 (Z3M ..) (by split; exact Z42 (Z3M ..) (ZL h64); exact Z3M ..) fun b hb=>?_
 rw [Bool.eq_iff_iff,Z4b,Z5B ht]
 by_cases h:Up l j S[t]
 · rw [if_pos (hm.2 h), Nat.testBit_or, Bool.or_eq_true, Z4b, Nat.testBit_two_pow, decide_eq_true_iff, List.mem_append, List.mem_singleton]
   constructor
   · rintro ⟨h1, h2 | h2, h3⟩
     · exact .inl ⟨h1,h2,h3⟩
     · exact .inr h2.symm
   · rintro (⟨h1, h2, h3⟩ | h2)
     · exact⟨h1,.inl h2,h3⟩
     · subst h2; exact⟨hb,.inr rfl,h⟩
 · rw [if_neg fun hh => h (hm.1 hh), Z4b, List.mem_append, List.mem_singleton]
   constructor
   · rintro ⟨h1, h2 | h2, h3⟩
     · exact⟨h1,h2,h3⟩
     · subst h2; exact absurd h3 h
   · rintro⟨h1,h2,h3⟩; exact⟨h1,.inl h2,h3⟩
theorem Zez {l:List Pr} {S:List Nat} (hS:Topo l S) (h64:S.length=64) {j:Nat} (hj:j<64):abvT l S 64 j=abv l j:=by
 unfold abvT
 rw [← h64,List.take_length,if_pos (hS.all h64 hj)]
theorem ZeA {l:List Pr} (hl:Small l) {S:List Nat} (hS:Topo l S) (h64:S.length=64) (j:Nat):belT l S 64 j=bel l j:=by
 refine eq64 (Z3M ..) (ZcN ..) fun b hb=>?_
 rw [Bool.eq_iff_iff,Z4b,ZcM hl,← h64,List.take_length]
 exact⟨fun h=>h.2.2,fun h=>⟨by omega,hS.all h64 hb,h⟩⟩
theorem Z3a {f g:Nat→Nat} (h:∀ j,j<64→f j=g j):tab (setR f)=tab (setR g):=Z39 fun j hj=>by show [PV.vec (words (digs (f j))) false] = [PV.vec (words (digs (g j))) false]; rw [h j hj]
theorem Zav {f:Nat→Nat} {i v:Nat} (hi:i<64):(tab (setR f)).set i (setAt ((tab (setR f)).getD i []) 0 [.vec (words (digs v)) false])=tab (setR fun j=>if j=i then v else f j):=by
 rw [Z2u hi,show setAt (setR f i) 0 [.vec (words (digs v)) false] = [.vec (words (digs v)) false] from rfl,ZcQ _ hi]
 refine Z39 fun j _=>?_
 show (if j=i then [PV.vec (words (digs v)) false] else setR f j) = [PV.vec (words (digs (if j=i then v else f j))) false]
 by_cases hj:j=i
 · rw [if_pos hj,if_pos hj]
 · rw [if_neg hj,if_neg hj]; rfl
theorem ZcZ (l:List Pr) (S:List Nat) (j:Nat):belT l S 0 j=0:=by
 refine eq64 (Z3M ..) (by decide) fun b hb=>?_
 rw [Bool.eq_iff_iff,Z4b]
 simp
set_option maxHeartbeats 4000000 in
theorem Z9p (l:List Pr) (fp:Bool) (hl:Small l) (hlen:l.length≤1000000) (S:List Nat) (hS:Topo l S) (h64:S.length=64) :
 PSpec Tryz.prog 108 (ordB l fp (.vec [] true) (.vec [] true) (.vec (nums (intsN S)) false)) [] fun r b'=>r=.tup []∧b'=ordB l fp (.vec (tab (setR (abv l))) false) (.vec (tab (setR (bel l))) false) (.vec (nums (intsN S)) false):=by
 have hpl:∀ D,innLL D (l.map prC):=fun D=>Za (fun _ h=>h.elim) _ (Zg l)
 have hnl:(l.map prC).length=l.length:=by simp
 have hti:∀ (f:Nat→Nat) D,innLL D (tab (setR f)):=fun f D=>Za (fun _ h=>h.elim) _ (Z1j (Z1D f))
 have hap:∀ (l:List Nat) D,innLL D (nums (intsN l)):=fun l D=>Z40 _ D
 have hSn:(nums (intsN S)).length=S.length:=by simp [nums,intsN]
 refine Z1t ok108 (Nat.le_of_ble_eq_true rfl) fun C hC=>?_
 refine Zt ?_
 refine Zh ?_
 refine Z3 rfl rfl rfl ?_
 refine Z1p ?_
 refine Zt ?_
 refine Z2I [] [(0,148512)] [262143,262143,262143,262143,262143,262143,262143,262143,262143,262143,262143,262143,262143,262143,2050,262143,262143,0] (by kernel_rfl) ?_
 refine go ?_
 refine Z72 hC (n':=20) [(1,.cp [.ptr 0 0 0]),(2,.own 19),(34,.vec (l.map prC) fp),(35,.val (.int .i64 l.length)),(36,.val (.int .i64 ((0:Nat):Int)))]
  [(0,ordB l fp (.own 7) (.own 12) (.vec (nums (intsN S)) false)),(7,⟨1,List.replicate 64 [.vec [] true]⟩),(12,⟨1,List.replicate 64 [.vec [] true]⟩),(19,⟨1,List.replicate 64 [.vec [] true]⟩)] (by decide)
  ⟨⟨rfl,show (0:Nat)<20 by decide,trivial⟩,⟨rfl,show (19:Nat)<20 by decide⟩,⟨rfl,hpl _⟩,⟨by rw [← hnl]; rfl,trivial⟩,⟨rfl,trivial⟩,trivial⟩ ?_ ?_
 · exact⟨⟨by decide,rfl,⟨⟨trivial,hpl _,show (7:Nat)<20 by decide,show (12:Nat)<20 by decide,hap _ _,trivial⟩,trivial⟩⟩,⟨by decide,rfl,ZW rfl |> Za (fun _ h=>h.elim) _⟩,⟨by decide,rfl,ZW rfl |> Za (fun _ h=>h.elim) _⟩,⟨by decide,rfl,ZW rfl |> Za (fun _ h=>h.elim) _⟩,trivial⟩
 refine Z1U (Zbq (n:=20) (D:=19) (by decide) rfl 1 (by decide)) ?_
 show aw _ C _ _ 84 _ (tabH (baseR l fp S) 19 20 (fun j=>.own (20+j)) 64 (dirR (l.take 0)))
 have hbs:∀ k b,baseR l fp S k=some b→k≠19→(k=0∧b=ordB l fp (.own 7) (.own 12) (.vec (nums (intsN S)) false)) ∨ ((k=7 ∨ k=12)∧b=⟨1,List.replicate 64 [.vec [] true]⟩):=by
  intro k b hk h19
  have:=Z1w hk
  simp only [List.mem_cons,Prod.mk.injEq,List.not_mem_nil,or_false] at this
  rcases this with h|h|h|h
  · exact .inl h
  · exact .inr ⟨.inl h.1,h.2⟩
  · exact .inr ⟨.inr h.1,h.2⟩
  · exact absurd h.1 h19
 have hren:∀ k0 k',20≤k0→∀ k b,baseR l fp S k=some b→k≠19→k<20∧RenB (mv k0 k') (fun i=>i<20+64) b b:=by
  intro k0 k' hk0 k b hk h19
  have o7:=RenP.own (ρ:=mv k0 k') (D:=fun i=>i<20+64) 7 (by omega)
  have o12:=RenP.own (ρ:=mv k0 k') (D:=fun i=>i<20+64) 12 (by omega)
  rw [Z4X (by omega)] at o7 o12
  rcases hbs k b hk h19 with⟨rfl,rfl⟩|⟨h,rfl⟩
  · exact⟨by omega,RenB.single ⟨.pure _ trivial,.pure _ (Zg l),o7,o12,.pure _ (Zu _),trivial⟩ rfl⟩
  · exact⟨by omega,.same _ (ZW rfl)⟩
 refine Z6U (fun i=>i≤l.length) (fun i=>l.length-i) (fun _=>84) (fun i=>envL [(1,.cp [.ptr 0 0 0]),(2,.own 19),(34,.vec (l.map prC) fp),(35,.val (.int .i64 l.length)),(36,.val (.int .i64 (i:Int)))]) (fun i=>tabH (baseR l fp S) 19 20 (fun j=>.own (20+j)) 64 (dirR (l.take i))) 0 (Nat.zero_le _) Z6W ?_
 intro i hi
 have hinc:IntKind.i64.wrap ((i:Int)+1)=((i+1:Nat):Int):=IntWalk.i64_in _ ⟨by omega,by omega⟩
 refine gd 37 ⟨?_⟩
 refine Zn rfl rfl rfl (fun hb=>?_) (fun hb=>?_)
 · have hil : i < l.length := by have := of_decide_eq_true hb; omega
   have hp:=hl _ (List.getElem_mem hil)
   have hst:=fun j=>ZcV hil j
   have hdl:=Zas (l.take i) l[i].2
   rw [List.length_take] at hdl
   clear hb
   refine go ?_
   refine Z0 (Zo (xs:=l) (g:=prC) rfl rfl i rfl hil rfl) rfl rfl ?_
   generalize l[i]=p at hp hst hdl ⊢
   iterate 4 (first|refine st ?_|(apply B<;>intro hb<;>try cases hb))
   refine Z1U (Z2J (k:=4) (id:=84) (esz:=2) (l:=prC p) rfl rfl) ?_
   refine Z1U (Zee (h':=tabH (baseR l fp S) 19 20 (fun j=>.own (20+j)) 64 (dirR (l.take i))) fun k b hk=>?_) ?_
   · have hne : k ≠ 84 := fun h => by
      rw [h,show tabH (baseR l fp S) 19 20 (fun j=>PV.own (20+j)) 64 (dirR (l.take i)) 84=none from rfl] at hk
      cases hk
     rw [Heap.del_ne _ hne,Heap.upd_ne _ _ hne,Heap.upd_ne _ _ hne]
     exact hk
   refine Z2I [] [(20+p.2,2048)] [16383,16383,16383,16383,16383,16383,16383,16383,16383,16383,16383,4,16383,16383] ((Zew 0).trans (by kernel_rfl)) ?_
   have hT19:∀ g,tabH (baseR l fp S) 19 20 (fun j=>PV.own (20+j)) 64 g 19=some ⟨1,(List.range 64).map fun j => [PV.own (20+j)]⟩:=fun g=>Z2m _ _ _ _ _ _
   have hlen64:∀ f:Nat→List PV,((List.range 64).map f).length=64:=fun f=>by simp
   refine gd 46 ⟨?_⟩
   refine Zd (ZJ rfl rfl (hT19 _) p.2 rfl (by rw [hlen64]; exact hp.2) rfl) (accI rfl (Zat (by omega) (by omega))) rfl ?_
   refine Zd (Z2B (p:=.own (20+p.2)) (i:=p.2) rfl (hT19 _) (by rw [hlen64]; exact hp.2) (by rw [Z18 hp.2]; rfl)) (accL rfl (Zat (by omega) (by omega))) rfl ?_
   refine gd 51 ⟨?_⟩
   refine Zd (ZQ (k:=20+p.2) (m := [[.val (.int .i64 (p.1:Int))]]) (fl:=true) (b:=dirR (l.take i) p.2) rfl rfl (Z28 _ (by decide) _ _ hp.2) (fun r hr=>by rw [List.mem_singleton] at hr; subst hr; rfl) rfl (by
    show ((nums (intsN (dirN (l.take i) p.2))).length+1)*8≤_
    have:(nums (intsN (dirN (l.take i) p.2))).length=(dirN (l.take i) p.2).length:=by simp [nums,intsN]
    omega)) (accA rfl (ZfE (by show _<85;omega) rfl) (Zh4 rfl)) rfl ?_
   have hT19b:∀ (g:Nat→Bx) (b:Bx),((tabH (baseR l fp S) 19 20 (fun j=>PV.own (20+j)) 64 g).del (20+p.2)).upd 96 b 19=some ⟨1,(List.range 64).map fun j => [PV.own (20+j)]⟩:=fun g b=>by
    rw [Heap.upd_ne _ _ (by decide),Heap.del_ne _ (by omega)]; exact hT19 g
   refine Zd (ZJ rfl rfl (hT19b _ _) p.2 rfl (by rw [hlen64]; exact hp.2) rfl) (accI rfl (Zat (by show _<85;omega) (by omega))) rfl ?_
   refine Zd (Z1I (i:=p.2) rfl rfl (hT19b _ _) rfl rfl (by rw [hlen64]; exact hp.2) (Nat.le_refl _)) (accS rfl (Zat (by show _<85;omega) (by omega)) rfl) rfl ?_
   refine Z6Z ?_
   have es:setAt (((List.range 64).map fun j => [PV.own (20+j)]).getD p.2 []) 0 (PV.own 96).cells = [.own 96]:=by rw [Z18 hp.2]; rfl
   have hfun:(fun j=>if j=p.2 then (⟨1,(dirR (l.take i) p.2).elems ++ [[.val (.int .i64 (p.1:Int))]]⟩:Bx) else dirR (l.take i) j)=dirR (l.take (i+1)):=by
    funext j
    unfold dirR
    rw [hst j]
    by_cases hj:j=p.2
    · rw [if_pos hj, if_pos hj, hj]
      simp [nums,intsN]
    · rw [if_neg hj,if_neg hj]
   have o19:=RenP.own (ρ:=mv (20+p.2) 96) (D:=fun i=>i<20+64) 19 (by omega)
   rw [Z4X (by omega)] at o19
   have hrp:pureLL ((dirR (l.take i) p.2).elems ++ [[PV.val (.int .i64 (p.1:Int))]]):=by
    have:(dirR (l.take i) p.2).elems ++ [[PV.val (.int .i64 (p.1:Int))]]=nums (intsN (dirN (l.take i) p.2 ++ [p.1])):=by simp [dirR,nums,intsN]
    rw [this]; exact Zu _
   have hsub:=fun (e:Env) (he:EnvQ (mv (20+p.2) 96) e (20+64) [(1,.cp [.ptr 0 0 0]),(2,.own 19),(34,.vec (l.map prC) fp),(35,.val (.int .i64 l.length)),(36,.val (.int .i64 (i:Int)))]) =>
    Z9n (C:=C) (h0:=baseR l fp S) (D:=19) (n0:=20) (n':=99) (e:=e) (by decide) (g:=dirR (l.take i)) (j0:=p.2) (new:=96) hp.2 (by decide) (r:=⟨1,(dirR (l.take i) p.2).elems ++ [[.val (.int .i64 (p.1:Int))]]⟩) hrp (Z83 _)
     (e':=envL [(1,.cp [.ptr 0 0 0]),(2,.own 19),(34,.vec (l.map prC) fp),(35,.val (.int .i64 l.length)),(36,.val (.int .i64 (i:Int)))]) (fun k q hk=>he.mem _ (Z7U hk)) (hren (20+p.2) 96 (by omega)) hC (by decide)
   rw [hfun] at hsub
   simp only [← es] at hsub
   refine Z1U (hsub _ ⟨⟨_,rfl,.same _ ⟨⟨by omega,Z4X (by omega)⟩,trivial⟩⟩,⟨_,rfl,o19⟩,⟨_,rfl,.pure _ (Zg l)⟩,⟨_,rfl,.pure _ trivial⟩,⟨_,rfl,.pure _ trivial⟩,trivial⟩) ?_
   refine go ?_
   exact⟨i+1,by omega,by omega,Z94 ⟨rfl,rfl,rfl,rfl,by show some _=some _; rw [hinc],trivial⟩⟩
 · have hil : i = l.length := by have := of_decide_eq_false hb; omega
   subst hil
   rw [List.take_length]
   clear hb
   refine gd 54 ⟨?_⟩
   have h0n:∀ k,20≤k→k<20+64→baseR l fp S k=none:=fun k h1 h2=>by
    cases hk:baseR l fp S k with
    | none=>rfl
    | some b=>rcases hbs k b hk (by omega) with⟨h,_⟩|⟨h,_⟩<;>omega
   refine Zj (fun C=>Z7e (D:=19) (k:=2) (by decide) h0n rfl (Z83 l)) ?_
   refine go ?_
   have hdp:(PV.vec ((List.range 64).map fun j => [.vec (nums (intsN (dirN l j))) false]) false).pure:=by
    refine (Z1S _ _).2 fun r hr=>?_
    obtain⟨j,_,rfl⟩:=List.mem_map.1 hr
    exact⟨Zu _,trivial⟩
   have hdi:∀ D,(PV.vec ((List.range 64).map fun j => [.vec (nums (intsN (dirN l j))) false]) false).inn D:=fun D=>PV.pure.inn hdp D
   have hob:∀ n,12<n→innLL (· < n) (ordB l fp (.own 7) (.own 12) (.vec (nums (intsN S)) false)).elems:=fun n hn=>⟨⟨trivial,hpl _,show (7:Nat)<n by omega,show (12:Nat)<n from hn,hap _ _,trivial⟩,trivial⟩
   have hlow:RenB (fun i=>i) (fun i=>i<84) ⟨1,List.replicate 64 [.vec [] true]⟩ ⟨1,tab fun _ => [.vec [] false]⟩:=by
    have er:∀ i,i<64→(List.replicate 64 [PV.vec [] true]).getD i [] = [PV.vec [] true]:=fun i hi=>by rw [List.getD_eq_getElem?_getD,List.getElem?_replicate,if_pos hi]; rfl
    refine .gen _ _ Nat.zero_lt_one rfl (by rw [ZN]; simp) (fun i hi=>?_) fun i q hi hq=>?_
    · rw [ZN] at hi
      rw [Z2u hi,er i hi]; rfl
    · rw [ZN] at hi
      have hq0:q=0:=Nat.lt_one_iff.1 hq
      subst hq0
      rw [Z2u hi,er i hi]
      exact .low (.vec [] true) trivial
   refine Z1U (Z3l (n':=84) (L := [(1,.cp [.ptr 0 0 0]),(2,.vec ((List.range 64).map fun j => [.vec (nums (intsN (dirN l j))) false]) false),(57,.vec (nums (intsN S)) false),(58,.val (.int .i64 64)),(59,.val (.int .i64 ((0:Nat):Int)))])
    (HL := [(0,ordB l fp (.own 7) (.own 12) (.vec (nums (intsN S)) false)),(7,⟨1,tab fun _ => [.vec [] false]⟩),(12,⟨1,tab fun _ => [.vec [] false]⟩)]) ?_ ?_ hC (by decide)) ?_
   · exact EnvQ.mem (L := [(1, .cp [.ptr 0 0 0]), (2, .vec ((List.range 64).map fun j => [.vec (nums (intsN (dirN l j))) false]) false), (57, .vec (nums (intsN S)) false), (58, .val (.int .i64 64)), (59, .val (.int .i64 ((0 : Nat) : Int)))])
      ⟨⟨_,rfl,.same _ ⟨⟨by decide,rfl⟩,trivial⟩⟩,⟨_,rfl,.pure _ hdp⟩,⟨_,rfl,.pure _ (Zu _)⟩,⟨_,by rw [show (64:Int)=((nums (intsN S)).length:Nat) by rw [hSn,h64]; rfl]; rfl,.pure _ trivial⟩,⟨_,rfl,.pure _ trivial⟩,trivial⟩
   · exact HeapQ.mem (L := [(0, ordB l fp (.own 7) (.own 12) (.vec (nums (intsN S)) false)), (7, ⟨1, tab fun _ => [.vec [] false]⟩), (12, ⟨1, tab fun _ => [.vec [] false]⟩)])
      ⟨⟨by decide,_,rfl,RenB.single (ρ:=fun i=>i) (l0 := [.val (.int .i64 64),.vec (l.map prC) fp,.own 7,.own 12,.vec (nums (intsN S)) false]) (l := [.val (.int .i64 64),.vec (l.map prC) fp,.own 7,.own 12,.vec (nums (intsN S)) false]) (show RenLs _ _ [_,_,_,_,_] [_,_,_,_,_] from ⟨.pure _ trivial,.pure _ (Zg l),.own (ρ:=fun i=>i) 7 (by decide),.own (ρ:=fun i=>i) 12 (by decide),.pure _ (Zu _),trivial⟩) rfl⟩,⟨by decide,_,rfl,hlow⟩,⟨by decide,_,rfl,hlow⟩,trivial⟩
   have hren0:RenB (fun i=>i) (fun i=>i<84) (ordB l fp (.own 7) (.own 12) (.vec (nums (intsN S)) false)) (ordB l fp (.own 7) (.own 12) (.vec (nums (intsN S)) false)) :=
    RenB.single (ρ:=fun i=>i) (l0 := [.val (.int .i64 64),.vec (l.map prC) fp,.own 7,.own 12,.vec (nums (intsN S)) false]) (l := [.val (.int .i64 64),.vec (l.map prC) fp,.own 7,.own 12,.vec (nums (intsN S)) false]) (show RenLs _ _ [_,_,_,_,_] [_,_,_,_,_] from ⟨.pure _ trivial,.pure _ (Zg l),.own (ρ:=fun i=>i) 7 (by decide),.own (ρ:=fun i=>i) 12 (by decide),.pure _ (Zu _),trivial⟩) rfl
   have hz0:∀ f:Nat→Nat,(∀ j,f j=0)→(tab fun _ => [PV.vec [] false])=tab (setR f):=fun f hf=>Z39 fun j _=>by
    show [PV.vec [] false] = [PV.vec (words (digs (f j))) false]
    rw [hf,ZG]; rfl
   refine Zl hC (fun t=>t≤64) (fun t=>64-t) 84 (fun t => [(1,.cp [.ptr 0 0 0]),(2,.vec ((List.range 64).map fun j => [.vec (nums (intsN (dirN l j))) false]) false),(57,.vec (nums (intsN S)) false),(58,.val (.int .i64 64)),(59,.val (.int .i64 (t:Int)))])
    (fun t => [(0,ordB l fp (.own 7) (.own 12) (.vec (nums (intsN S)) false)),(7,⟨1,tab (setR (abvT l S t))⟩),(12,⟨1,tab (setR (belT l S t))⟩)]) (by decide) 0 (by decide)
    ⟨⟨rfl,show (0:Nat)<84 by decide,trivial⟩,⟨rfl,hdi _⟩,⟨rfl,hap _ _⟩,⟨rfl,trivial⟩,⟨rfl,trivial⟩,trivial⟩
    ⟨⟨by decide,rfl,hob _ (by decide)⟩,⟨by decide,by rw [← hz0 _ fun j=>show abvT l S 0 j=0 from if_neg (by simp)]; rfl,hti _ _⟩,⟨by decide,by rw [← hz0 _ (ZcZ l S)]; rfl,hti _ _⟩,trivial⟩ ?_
   intro t ht
   have htinc:IntKind.i64.wrap ((t:Int)+1)=((t+1:Nat):Int):=IntWalk.i64_in _ ⟨by omega,by omega⟩
   refine gd 60 ⟨?_⟩
   refine Zn rfl rfl rfl (fun hb=>?_) (fun hb=>?_)
   · have htl : t < S.length := by have := of_decide_eq_true hb; omega
     have hb64:=hS.lt _ (List.getElem_mem htl)
     have hpred:=hS.pred t htl
     have hnew:=Zex (l:=l) hS.nodup htl
     have hbS:=Zau hS.nodup htl
     have hastep:=fun j=>ZcX (l:=l) htl j
     have hbstep:=fun j=>ZcY hl htl hb64 j
     have hgetS : (intsN S)[t]'(by simpa [intsN] using htl) = ((S[t] : Nat) : Int) := by simp [intsN]
     clear hb
     refine go ?_
     refine Z0 (Zo (xs:=intsN S) (g:=fun x => [.val (.int .i64 x)]) rfl rfl t rfl (by simpa [intsN] using htl) rfl) rfl rfl ?_
     rw [hgetS]
     generalize S[t]=b at hb64 hpred hnew hbS hastep hbstep ⊢
     iterate 4 (first|refine st ?_|(apply B<;>intro hb<;>try cases hb))
     refine Z1U (Z2J (k:=6) (id:=84) (esz:=1) (l := [.val (.int .i64 (b:Int))]) rfl rfl) ?_
     refine go ?_
     refine Z0 (Zo (xs:=List.range 64) (g:=fun j => [.vec (nums (intsN (dirN l j))) false]) rfl rfl b rfl (by simpa using hb64) rfl) rfl rfl ?_
     rw [List.getElem_range]
     refine go ?_
     have hnd:(nums (intsN (dirN l b))).length=(dirN l b).length:=by simp [nums,intsN]
     have hdlen:=Zas l b
     refine Zl hC (fun s=>s≤(dirN l b).length) (fun s=>(dirN l b).length-s) 85 (fun s => [(1,.cp [.ptr 0 0 0]),(2,.vec ((List.range 64).map fun j => [.vec (nums (intsN (dirN l j))) false]) false),(6,.cp [.val (.int .i64 (b:Int))]),(57,.vec (nums (intsN S)) false),(58,.val (.int .i64 64)),(59,.val (.int .i64 (t:Int))),(66,.vec (nums (intsN (dirN l b))) false),(67,.val (.int .i64 (dirN l b).length)),(68,.val (.int .i64 (s:Int)))])
      (fun s => [(0,ordB l fp (.own 7) (.own 12) (.vec (nums (intsN S)) false)),(7,⟨1,tab (setR fun j=>if j=b then aS l ((dirN l b).take s) else abvT l S t j)⟩),(12,⟨1,tab (setR (belT l S t))⟩)]) (by decide) 0 (Nat.zero_le _)
      ⟨⟨rfl,show (0:Nat)<85 by decide,trivial⟩,⟨rfl,hdi _⟩,⟨rfl,trivial,trivial⟩,⟨rfl,hap _ _⟩,⟨rfl,trivial⟩,⟨rfl,trivial⟩,⟨rfl,hap _ _⟩,⟨by rw [← hnd]; rfl,trivial⟩,⟨rfl,trivial⟩,trivial⟩
      ⟨⟨by decide,rfl,hob _ (by decide)⟩,⟨by decide,by rw [Z3a (f:=fun j=>if j=b then aS l ((dirN l b).take 0) else abvT l S t j) (g:=abvT l S t) fun j _=>by by_cases hj:j=b; (rw [if_pos hj,hj,hnew]; rfl); rw [if_neg hj]]; rfl,hti _ _⟩,⟨by decide,rfl,hti _ _⟩,trivial⟩ ?_
     intro s hs
     have hsinc:IntKind.i64.wrap ((s:Int)+1)=((s+1:Nat):Int):=IntWalk.i64_in _ ⟨by omega,by omega⟩
     refine gd 69 ⟨?_⟩
     refine Zn rfl rfl rfl (fun hb=>?_) (fun hb=>?_)
     · have hsl : s < (dirN l b).length := by have := of_decide_eq_true hb; omega
       have htk:=Z5B hsl
       have hga : (intsN (dirN l b))[s]'(by simpa [intsN] using hsl) = (((dirN l b)[s] : Nat) : Int) := by simp [intsN]
       have hma:(dirN l b)[s]∈dirN l b:=List.getElem_mem hsl
       have hcur:aS l ((dirN l b).take s)<18446744073709551616:=ZfG l _ 0 (fun a ha=>Z9o hl (List.mem_of_mem_take ha)) (by decide)
       clear hb
       refine go ?_
       refine Z0 (Zo (xs:=intsN (dirN l b)) (g:=fun x => [.val (.int .i64 x)]) rfl rfl s rfl (by simpa [intsN] using hsl) rfl) rfl rfl ?_
       rw [hga]
       generalize (dirN l b)[s]=a at htk hma ⊢
       have ha64:=Z9o hl hma
       have haS:=hpred a (Z58.1 hma)
       have hab:a≠b:=fun h=>hbS (h▸haS)
       have hor:=Z42 hcur (Z5u l a)
       have hwn:withN (aS l ((dirN l b).take s) ||| abv l a) (a:Int)=aS l ((dirN l b).take (s+1)):=by
        rw [htk,ZfF,withN,if_pos ⟨by omega,by omega⟩]; rfl
       refine gd 82 ⟨?_⟩
       refine Zd (ZJ rfl rfl rfl b rfl (by rw [ZN]; exact hb64) rfl) rfl rfl ?_
       refine Zd (Z2B (p:=setN (aS l ((dirN l b).take s))) (i:=b) rfl rfl (by rw [ZN]; exact hb64) (by rw [Z2u hb64]; show some (setN (if b=b then _ else _))=_; rw [if_pos rfl])) rfl rfl ?_
       refine gd 89 ⟨?_⟩
       refine Zd (ZJ rfl rfl rfl a rfl (by rw [ZN]; exact ha64) rfl) rfl rfl ?_
       refine Zd (Z2B (p:=setN (abv l a)) (i:=a) rfl rfl (by rw [ZN]; exact ha64) (by rw [Z2u ha64]; show some (setN (if a=b then _ else abvT l S t a))=_; rw [if_neg hab,Zey haS])) rfl rfl ?_
       refine Zr (Z1Q _ (abv l a) hcur (Z5u l a)) rfl rfl rfl ⟨Z1 _,Z1 _,trivial⟩ ?_
       refine gd 93 ⟨?_⟩
       refine Zr (Z36 _ (Nat.le_trans (Z2E hor) (by decide)) (a:Int)) rfl rfl rfl ⟨Z1 _,trivial,trivial⟩ ?_
       rw [hwn]
       refine Zd (ZJ rfl rfl rfl b rfl (by rw [ZN]; exact hb64) rfl) rfl rfl ?_
       refine Zd (Z1I (i:=b) rfl rfl rfl rfl rfl (by rw [ZN]; exact hb64) (Nat.le_refl _)) rfl rfl ?_
       refine go ?_
       refine⟨s+1,by omega,by omega,⟨⟨rfl,show (0:Nat)<85 by decide,trivial⟩,⟨rfl,hdi _⟩,⟨rfl,trivial,trivial⟩,⟨rfl,hap _ _⟩,⟨rfl,trivial⟩,⟨rfl,trivial⟩,⟨rfl,hap _ _⟩,⟨rfl,trivial⟩,⟨by show some _=some _; rw [hsinc],trivial⟩,trivial⟩,
        ⟨⟨by decide,rfl,hob _ (by decide)⟩,⟨by decide,?_,hti _ _⟩,⟨by decide,rfl,hti _ _⟩,trivial⟩⟩
       show some (Bx.mk 1 ((tab (setR fun j=>if j=b then aS l ((dirN l b).take s) else abvT l S t j)).set b (setAt ((tab (setR fun j=>if j=b then aS l ((dirN l b).take s) else abvT l S t j)).getD b []) 0 [.vec (words (digs (aS l ((dirN l b).take (s+1))))) false])))=some _
       rw [Zav hb64]
       refine congrArg (fun x=>some (Bx.mk 1 x)) (Z3a fun j _=>?_)
       by_cases hj:j=b
       · rw [if_pos hj,if_pos hj]
       · rw [if_neg hj,if_neg hj,if_neg hj]
     · have hsl : s = (dirN l b).length := by have := of_decide_eq_false hb; omega
       subst hsl
       clear hb
       rw [List.take_length,Zgs hl b]
       refine gd 101 ⟨?_⟩
       refine Zd (ZJ rfl rfl rfl b rfl (by rw [ZN]; exact hb64) rfl) rfl rfl ?_
       refine Zd (Z2B (p:=setN (abv l b)) (i:=b) rfl rfl (by rw [ZN]; exact hb64) (by rw [Z2u hb64]; show some (setN (if b=b then _ else _))=_; rw [if_pos rfl])) rfl rfl ?_
       refine Zr (Z4x (abv l b)) rfl rfl rfl ⟨Z1 _,trivial⟩ ?_
       refine go ?_
       refine Z75 (X:=List Nat) hC (caps := [.cp [.vec (words (digs (abv l b))) false]]) [(1,.cp [.ptr 0 0 0]),(2,.vec ((List.range 64).map fun j => [.vec (nums (intsN (dirN l j))) false]) false),(6,.cp [.val (.int .i64 (b:Int))]),(57,.vec (nums (intsN S)) false),(58,.val (.int .i64 64)),(59,.val (.int .i64 (t:Int))),(103,.fn 128 [.cp [.vec (words (digs (abv l b))) false]])]
        (fun z => [(0,ordB l fp (.own 7) (.own 12) (.vec (nums (intsN S)) false)),(7,⟨1,tab (setR fun j=>if j=b then abv l b else abvT l S t j)⟩),(12,⟨1,tab (setR fun j=>if j∈z then belT l S t j ||| 2 ^ b else belT l S t j)⟩)]) rfl ⟨⟨Ze _,trivial⟩,trivial⟩ (Z77 (abv l b) (Z5u l b)) (fun _=>rfl)
        (fun ex pre z=>ex=.normal∧z=pre.map (·.val)) 84 (by decide) [] ⟨rfl,rfl⟩
        (Z3V hC (by decide) ⟨⟨rfl, show (0 : Nat) < 84 by decide, trivial⟩, ⟨rfl, hdi _⟩, ⟨rfl, trivial, trivial⟩, ⟨rfl, hap _ _⟩, ⟨rfl, trivial⟩, ⟨rfl, trivial⟩, ⟨rfl, ⟨ZH _ _, trivial⟩, trivial⟩, trivial⟩
          ⟨⟨by decide,rfl,hob _ (by decide)⟩,⟨by decide,rfl,hti _ _⟩,⟨by decide,by rw [Z3a (f:=fun j=>if j∈([]:List Nat) then belT l S t j ||| 2 ^ b else belT l S t j) (g:=belT l S t) fun j _=>if_neg (by simp)]; rfl,hti _ _⟩,trivial⟩)
        (fun z q hq=>by simp at hq; rcases hq with rfl|rfl|rfl<;>exact Nat.zero_lt_succ _) _ (fun x=>rfl) ?_ ?_ ?_
       · rintro C2 hC2 pre x z ⟨-, hz⟩ hlen
         have ha64:=Z5s x.2
         generalize hf:(fun j=>if j∈z then belT l S t j ||| 2 ^ b else belT l S t j)=f
         have hf64:∀ j,f j<18446744073709551616:=fun j=>by
          rw [← hf]
          dsimp only
          split
          · exact Z42 (Z3M ..) (ZL hb64)
          · exact Z3M ..
         have hwn:withN (f x.val) (b:Int)=f x.val ||| 2 ^ b:=by rw [withN,if_pos ⟨by omega,by omega⟩]; rfl
         refine gd 115 ⟨?_⟩
         refine Zd (ZJ rfl rfl rfl x.val rfl (by rw [ZN]; exact ha64) rfl) rfl rfl ?_
         refine Zd (Z2B (p:=setN (f x.val)) (i:=x.val) rfl rfl (by rw [ZN]; exact ha64) (by rw [Z2u ha64]; rfl)) rfl rfl ?_
         refine gd 118 ⟨?_⟩
         refine Zr (Z36 _ (Nat.le_trans (Z2E (hf64 _)) (by decide)) (b:Int)) rfl rfl rfl ⟨Z1 _,trivial,trivial⟩ ?_
         rw [hwn]
         refine Zd (ZJ rfl rfl rfl x.val rfl (by rw [ZN]; exact ha64) rfl) rfl rfl ?_
         refine Zd (Z1I (i:=x.val) rfl rfl rfl rfl rfl (by rw [ZN]; exact ha64) (Nat.le_refl _)) rfl rfl ?_
         refine go ?_
         refine⟨.inl rfl,z ++ [x.val],fun i=>i,⟨rfl,by rw [hz,List.map_append]; rfl⟩,fun i hi=>rfl,Z14,
          ⟨⟨_,rfl,.same _ ⟨⟨by decide,rfl⟩,trivial⟩⟩,⟨_,rfl,.pure _ hdp⟩,⟨_,rfl,.pure _ ⟨trivial,trivial⟩⟩,⟨_,rfl,.pure _ (Zu _)⟩,⟨_,rfl,.pure _ trivial⟩,⟨_,rfl,.pure _ trivial⟩,⟨_,rfl,.pure _ ⟨⟨Ze _,trivial⟩,trivial⟩⟩,trivial⟩,
          ⟨⟨by decide,_,rfl,hren0⟩,⟨by decide,_,rfl,.same _ (Z1j (Z1D _))⟩,⟨by decide,_,rfl,?_⟩,trivial⟩⟩
         show RenB _ _ ⟨1,(tab (setR f)).set x.val (setAt ((tab (setR f)).getD x.val []) 0 [.vec (words (digs (f x.val ||| 2 ^ b))) false])⟩ ⟨1,tab (setR fun j=>if j∈z ++ [x.val] then belT l S t j ||| 2 ^ b else belT l S t j)⟩
         rw [Zav ha64,Z3a (g:=fun j=>if j∈z ++ [x.val] then belT l S t j ||| 2 ^ b else belT l S t j)]
         · exact .same _ (Z1j (Z1D _))
         · intro j _
           rw [← hf]
           dsimp only
           by_cases hj:j=x.val
           · rw [if_pos hj, if_pos (List.mem_append.2 (.inr (List.mem_singleton.2 hj))), hj]
             by_cases hx:x.val∈z
             · rw [if_pos hx,Nat.or_assoc,Nat.or_self]
             · rw [if_neg hx]
           · rw [if_neg hj]
             by_cases hx:j∈z
             · rw [if_pos hx,if_pos (List.mem_append.2 (.inl hx))]
             · rw [if_neg hx,if_neg fun h=>(List.mem_append.1 h).elim hx fun h=>hj (List.mem_singleton.1 h)]
       · rintro xs z hxs ⟨-, rfl⟩
         rw [hxs]
         refine go ?_
         refine⟨t+1,by omega,by omega,⟨⟨rfl,show (0:Nat)<84 by decide,trivial⟩,⟨rfl,hdi _⟩,⟨rfl,hap _ _⟩,⟨rfl,trivial⟩,⟨by show some _=some _; rw [htinc],trivial⟩,trivial⟩,
          ⟨⟨by decide,rfl,hob _ (by decide)⟩,⟨by decide,by rw [Z3a (f:=abvT l S (t+1)) (g:=fun j=>if j=b then abv l b else abvT l S t j) fun j _=>hastep j]; rfl,hti _ _⟩,⟨by decide,by rw [Z3a (f:=belT l S (t+1)) (g:=fun j=>if j∈mem (abv l b) then belT l S t j ||| 2 ^ b else belT l S t j) fun j _=>hbstep j]; rfl,hti _ _⟩,trivial⟩⟩
       · rintro ex pre z - ⟨rfl,_⟩ (h|⟨id,h⟩)<;>cases h
   · have htl : t = 64 := by have := of_decide_eq_false hb; omega
     subst htl
     clear hb
     refine Z1p ?_
     rw [Z3a (f:=abvT l S 64) (g:=abv l) fun j hj=>Zez hS h64 hj,Z3a (f:=belT l S 64) (g:=bel l) fun j _=>ZeA hl hS h64 j]
     refine Z1U (Z1R (ob:=0) (id:=7) (i0:=0) (j0:=2) rfl rfl (by decide) (Z1j (Z1D _)) (Nat.le_of_ble_eq_true rfl) (Nat.le_of_ble_eq_true rfl) rfl) ?_
     refine Z1U (Z1R (ob:=0) (id:=12) (i0:=0) (j0:=3) rfl rfl (by decide) (Z1j (Z1D _)) (Nat.le_of_ble_eq_true rfl) (Nat.le_of_ble_eq_true rfl) rfl) ?_
     refine go ?_
     exact⟨_,_,rfl,.inl rfl,_,rfl,trivial,⟨⟨trivial,Zg l,Z1j (Z1D _),Z1j (Z1D _),Zu _,trivial⟩,trivial⟩,rfl,rfl⟩
end Go.Proofs.YtmnbbggaoembeaaGreatDoor
namespace Go.Proofs.YtmnbbggaoembeaaGreatDoor
open Go.Shelf
def Z2n:Go.Shelf.Ren:=⟨fun|6=>103|15=>147|14=>146|28=>179|29=>180|20=>171|21=>172|22=>173|23=>174|24=>175|25=>176|26=>177|27=>178|46=>189|47=>190|48=>191|49=>192|50=>193|57=>206|n=>n,fun|22=>35|24=>137|25=>186|3=>3|39=>127|0=>0|53=>243|55=>36|4=>4|46=>237|45=>236|50=>222|5=>5|9=>9|66=>255|70=>259|76=>270|77=>271|n=>n,fun|n=>n⟩
theorem sortPair:Go.Proofs.SlLaysF0.n6 Tryz.prog Z2n:={
 mixed:=by kernel_rfl
 f6:=⟨Tryz.f103.name,by decide,Tryz.func103.trans (congrArg some (by kernel_rfl))⟩
 f14:=⟨Tryz.f146.name,by decide,Tryz.func146.trans (congrArg some (by kernel_rfl))⟩
 f15:=Tryz.func147.trans (congrArg some (by kernel_rfl))
 f20:=⟨Tryz.f171.name,by decide,Tryz.func171.trans (congrArg some (by kernel_rfl))⟩
 f21:=⟨Tryz.f172.name,by decide,Tryz.func172.trans (congrArg some (by kernel_rfl))⟩
 f22:=⟨Tryz.f173.name,by decide,Tryz.func173.trans (congrArg some (by kernel_rfl))⟩
 f23:=⟨Tryz.f174.name,by decide,Tryz.func174.trans (congrArg some (by kernel_rfl))⟩
 f24:=⟨Tryz.f175.name,by decide,Tryz.func175.trans (congrArg some (by kernel_rfl))⟩
 f25:=⟨Tryz.f176.name,by decide,Tryz.func176.trans (congrArg some (by kernel_rfl))⟩
 f26:=⟨Tryz.f177.name,by decide,Tryz.func177.trans (congrArg some (by kernel_rfl))⟩
 f27:=⟨Tryz.f178.name,by decide,Tryz.func178.trans (congrArg some (by kernel_rfl))⟩
 f28:=Tryz.func179.trans (congrArg some (by kernel_rfl))
 f29:=Tryz.func180.trans (congrArg some (by kernel_rfl))
 f46:=⟨Tryz.f189.name,by decide,Tryz.func189.trans (congrArg some (by kernel_rfl))⟩
 f47:=Tryz.func190.trans (congrArg some (by kernel_rfl))
 f48:=Tryz.func191.trans (congrArg some (by kernel_rfl))
 f49:=⟨Tryz.f192.name,by decide,Tryz.func192.trans (congrArg some (by kernel_rfl))⟩
 f50:=⟨Tryz.f193.name,by decide,Tryz.func193.trans (congrArg some (by kernel_rfl))⟩
 f57:=⟨Tryz.f206.name,by decide,Tryz.func206.trans (congrArg some (by kernel_rfl))⟩
 t0:=Tryz.underlying0
 a0:=Tryz.isAgg0
 z0:=Tryz.sizeOf0
 v0:=Tryz.zeroValue0
 t3:=Tryz.underlying3
 a3:=Tryz.isAgg3
 z3:=Tryz.sizeOf3
 v3:=Tryz.zeroValue3
 t4:=Tryz.underlying4
 a4:=Tryz.isAgg4
 z4:=Tryz.sizeOf4
 v4:=Tryz.zeroValue4
 t5:=Tryz.underlying5
 a5:=Tryz.isAgg5
 z5:=Tryz.sizeOf5
 v5:=Tryz.zeroValue5
 t9:=Tryz.underlying9
 a9:=Tryz.isAgg9
 z9:=Tryz.sizeOf9
 v9:=Tryz.zeroValue9
 t22:=Tryz.underlying35
 a22:=Tryz.isAgg35
 z22:=Tryz.sizeOf35
 v22:=Tryz.zeroValue35
 t25:=Tryz.underlying186
 a25:=Tryz.isAgg186
 z25:=Tryz.sizeOf186
 v25:=Tryz.zeroValue186
 t39:=Tryz.underlying127
 a39:=Tryz.isAgg127
 z39:=Tryz.sizeOf127
 v39:=Tryz.zeroValue127
 t45:=Tryz.underlying236
 a45:=Tryz.isAgg236
 z45:=Tryz.sizeOf236
 v45:=Tryz.zeroValue236
 t46:=Tryz.underlying237
 a46:=Tryz.isAgg237
 z46:=Tryz.sizeOf237
 v46:=Tryz.zeroValue237
 t50:=Tryz.underlying222
 a50:=Tryz.isAgg222
 z50:=Tryz.sizeOf222
 v50:=Tryz.zeroValue222
 t53:=Tryz.underlying243
 a53:=Tryz.isAgg243
 z53:=Tryz.sizeOf243
 v53:=Tryz.zeroValue243
 t55:=Tryz.underlying36
 a55:=Tryz.isAgg36
 z55:=Tryz.sizeOf36
 v55:=Tryz.zeroValue36
 t66:=Tryz.underlying255
 a66:=Tryz.isAgg255
 z66:=Tryz.sizeOf255
 v66:=Tryz.zeroValue255
 t70:=Tryz.underlying259
 a70:=Tryz.isAgg259
 z70:=Tryz.sizeOf259
 v70:=Tryz.zeroValue259
 t76:=Tryz.underlying270
 a76:=Tryz.isAgg270
 z76:=Tryz.sizeOf270
 v76:=Tryz.zeroValue270
 t77:=Tryz.underlying271
 a77:=Tryz.isAgg271
 z77:=Tryz.sizeOf271
 v77:=Tryz.zeroValue271 }
theorem Z84:∀ w,(isAgg (Z2n.t 24)).run Tryz.prog w=.ok true w:=Tryz.isAgg137
theorem Z7f:∀ w,(Go.sizeOf (Z2n.t 24)).run Tryz.prog w=.ok 2 w:=Tryz.sizeOf137
end Go.Proofs.YtmnbbggaoembeaaGreatDoor
namespace Go.Proofs.YtmnbbggaoembeaaGreatDoor
open Go.RowKit
attribute [local irreducible] aw opsK dK
theorem Z22 (l:List Pr):(l.map prC).length=l.length:=by simp
set_option maxHeartbeats 1000000 in
theorem Zbr (xs:List Pr) (fl:Bool) (hlen:xs.length≤1000000):NSpec Tryz.prog 182 [.vec (xs.map prC) fl] .own ⟨2,xs.map prC⟩:=by
 refine Z1L ok182 (Nat.le_of_ble_eq_true rfl) fun C hC=>?_
 have fin:∀ (x:Pr) (xs:List Pr),(∀ c∈(x :: xs).map prC,c.length=2):=fun x xs c hc=>by obtain⟨y,_,rfl⟩:=List.mem_map.1 hc; rfl
 cases xs with
 | nil =>
   refine go ?_
   refine Z4z (.inl ⟨_,_,rfl⟩) rfl fun b=>?_
   cases b
   · repeat' (first | refine Zj (ZI (k := 5) rfl 2 (by decide)) ?_ | (first|refine st ?_|(apply B<;>intro hb<;>try cases hb)))
     exact⟨_,_,rfl,.inl rfl,_,rfl,rfl⟩
   · iterate 6 (first|refine st ?_|(apply B<;>intro hb<;>try cases hb))
     refine Z1U (ZI (k:=2) rfl 2 (by decide) _) ?_
     refine go ?_
     exact⟨_,_,rfl,.inl rfl,_,rfl,rfl⟩
 | cons x xs =>
   repeat' (first|refine Zj (ZI (k:=5) rfl 2 (by decide)) ?_|(first|refine st ?_|(apply B<;>intro hb<;>try cases hb)))
   refine ZU (ZQ (k:=0) (m:=(x :: xs).map prC) (fl:=fl) rfl rfl rfl (fin x xs) rfl (by
    show (([]:List (List PV)).length+((x :: xs).map prC).length)*16≤_
    rw [List.length_map,List.length_nil];omega)) rfl rfl ?_
   refine go ?_
   exact⟨_,_,rfl,.inl rfl,_,rfl,by rw [List.nil_append]; rfl⟩
def pB (p x:Pr):Bool:=((p.1:Int) == (x.1:Int))&&(((p.2:Int) == (x.2:Int))&&true)
theorem Zd0 (p x:Pr):pB p x=true↔p=x:=by
 unfold pB
 rw [Bool.and_true,Bool.and_eq_true,beq_iff_eq,beq_iff_eq,Int.ofNat_inj,Int.ofNat_inj]
 exact⟨fun h=>Prod.ext h.1 h.2,fun h=>by rw [h]; exact⟨rfl,rfl⟩⟩
theorem Zgt {xs:List Pr} {p:Pr}:xs.any (pB p)=decide (p∈xs):=by
 rw [Bool.eq_iff_iff,List.any_eq_true,decide_eq_true_iff]
 constructor
 · rintro ⟨x, hx, h⟩
   rw [(Zd0 p x).1 h]; exact hx
 · intro h
   exact⟨p,h,(Zd0 p p).2 rfl⟩
set_option maxHeartbeats 1000000 in
theorem Z9q (xs:List Pr) (p:Pr) (fl:Bool):Spec Tryz.prog 181 [.vec (xs.map prC) fl,.agg (prC p)] (· = .val (.int .i64 (idxI (pB p) xs))):=by
 have hnl:=Z22 xs
 refine Z2 ok181 (Nat.le_of_ble_eq_true rfl) fun C hC=>?_
 refine Z2V (k:=0) rfl fun hmax=>?_
 have hlm:xs.length≤maxVec:=by rw [← hnl]; exact hmax
 refine Zt ?_
 refine Zh ?_
 refine Z3 rfl rfl rfl ?_
 refine go ?_
 have hpi:∀ D,innLL D (xs.map prC):=fun D=>Za (fun _ h=>h.elim) _ (Zg xs)
 have hpc:∀ D,innL D (prC p):=fun D=>Zm (fun _ h=>h.elim) _ (Z3p p)
 refine Zl hC (fun i=>i≤xs.length∧(xs.take i).any (pB p)=false) (fun i=>xs.length-i) 0 (fun i => [(0,.vec (xs.map prC) fl),(3,.cp (prC p)),(7,.val (.int .i64 (xs.length:Int))),(8,.val (.int .i64 (i:Int)))]) (fun _=>[]) (Nat.zero_le _) 0 ⟨Nat.zero_le _,rfl⟩ ⟨⟨rfl,hpi _⟩,⟨rfl,hpc _⟩,⟨by rw [← hnl]; rfl,trivial⟩,⟨rfl,trivial⟩,trivial⟩ trivial ?_
 rintro i ⟨hi,hno⟩
 have hinc:IntKind.i64.wrap ((i:Int)+1)=((i+1:Nat):Int):=IntWalk.i64_in _ ⟨by omega,by simp only [maxVec] at hlm; omega⟩
 refine gd 9 ⟨?_⟩
 refine Zn rfl rfl rfl (fun hb=>?_) (fun hb=>?_)
 · have hil : i < xs.length := by have := of_decide_eq_true hb; omega
   clear hb
   refine gd 14 ⟨?_⟩
   refine Zd (Zo (xs:=xs) (g:=prC) rfl rfl i rfl hil rfl) rfl rfl ?_
   refine gd 16 ⟨?_⟩
   refine Z6Y (b:=pB p xs[i]) rfl rfl rfl (fun hx=>?_) (fun hx=>?_)
   · refine go ?_
     exact Z5 rfl trivial (by rw [Z3L hil hno hx])
   · refine go ?_
     exact⟨i+1,⟨by omega,Z3s hil hno hx⟩,by omega,⟨⟨rfl,hpi _⟩,⟨rfl,hpc _⟩,⟨rfl,trivial⟩,⟨by show some _=some _; rw [hinc],trivial⟩,trivial⟩,trivial⟩
 · have hil : i = xs.length := by have := of_decide_eq_false hb; omega
   subst hil
   rw [List.take_length] at hno
   refine go ?_
   exact Z5 rfl trivial (by rw [Z1Z hno]; rfl)
theorem Z61 (xs:List Pr) (p:Pr) (fl:Bool):Spec Tryz.prog 150 [.vec (xs.map prC) fl,.agg (prC p)] (· = .val (.bool (decide (p∈xs)))):=by
 refine Z2 ok150 (Nat.le_of_ble_eq_true rfl) fun C hC=>?_
 refine Zt ?_
 refine Zh ?_
 refine Z3 rfl rfl rfl ?_
 refine go ?_
 refine Z6 (Z9q xs p fl) rfl rfl rfl ⟨Zg xs,Z3p p,trivial⟩ rfl ?_
 refine Z0 (Z4 rfl ((Z49 (p:=pB p) (xs:=xs)).trans Zgt)) rfl rfl ?_
 (refine go ?_;repeat' (apply B<;>intro hb<;>try cases hb))
 all_goals exact Z5 rfl trivial (by rw [hb])
theorem Zgu {esz n:Nat} {e:Env} {h:Heap} {x hi mx:Operand} {l:List (List PV)} {fl:Bool} (hx:ev e x=some (.vec l fl)) (h1:intAt (ev e hi)=some (l.length:Int)) (h2:intAt (ev e mx)=some (l.length:Int)) (hl:∀ c∈l,c.length=esz):dEval (.slc esz x none (some hi) (some mx)) e h n=some (.vec l true,h):=by
 simp only [dEval,hx,bndAt,h1,h2]
 rw [if_pos ⟨⟨by omega,by omega,by omega,by omega⟩,hl⟩]
 simp
theorem Zbs (xs:List Pr) (fl:Bool):Spec Tryz.prog 105 [.vec (xs.map prC) fl] (· = .vec (xs.map prC) true):=by
 refine Z2 ok105 (Nat.le_of_ble_eq_true rfl) fun C hC=>?_
 refine gd 8 ⟨?_⟩
 refine Z0 (Zgu rfl rfl rfl (fun c hc=>by obtain⟨y,_,rfl⟩:=List.mem_map.1 hc; rfl)) rfl rfl ?_
 refine go ?_
 exact Z5 rfl (Zg xs) rfl
set_option maxHeartbeats 1000000 in
theorem Z7g (xs:List Pr) (fl:Bool) (hne:∀ i (h:i+1<xs.length),xs[i]≠xs[i+1]):Spec Tryz.prog 106 [.vec (xs.map prC) fl] (· = .vec (xs.map prC) fl):=by
 have hnl:=Z22 xs
 refine Z2 ok106 (Nat.le_of_ble_eq_true rfl) fun C hC=>?_
 refine Z2V (k:=0) rfl fun hmax=>?_
 have hlm:xs.length≤maxVec:=by rw [← hnl]; exact hmax
 (refine go ?_;repeat' (apply B<;>intro hb<;>try cases hb))
 · exact Z5 rfl (Zg xs) rfl
 · rw [hnl] at hb
   have h2:2≤xs.length:=by have:=of_decide_eq_false hb; omega
   clear hb
   have hpi:∀ D,innLL D (xs.map prC):=fun D=>Za (fun _ h=>h.elim) _ (Zg xs)
   refine Zl hC (fun k=>1≤k∧k≤xs.length) (fun k=>xs.length-k) 0 (fun k => [(0,.vec (xs.map prC) fl),(3,.val (.int .i64 (k:Int)))]) (fun _=>[]) (Nat.zero_le _) 1 ⟨Nat.le_refl _,by omega⟩ ⟨⟨rfl,hpi _⟩,⟨rfl,trivial⟩,trivial⟩ trivial ?_
   rintro k ⟨hk1,hk⟩
   have hinc:IntKind.i64.wrap ((k:Int)+1)=((k+1:Nat):Int):=IntWalk.i64_in _ ⟨by omega,by simp only [maxVec] at hlm; omega⟩
   have hdec:IntKind.i64.wrap ((k:Int)-1)=((k-1:Nat):Int):=(IntWalk.i64_in _ ⟨by omega,by simp only [maxVec] at hlm; omega⟩).trans (by omega)
   refine gd 13 ⟨?_⟩
   refine Zn rfl rfl rfl (fun hb=>?_) (fun hb=>?_)
   · rw [hnl] at hb
     have hil:k<xs.length:=by have:=of_decide_eq_true hb; omega
     clear hb
     refine gd 18 ⟨?_⟩
     refine Zd (Zo (xs:=xs) (g:=prC) rfl rfl k rfl hil rfl) rfl rfl ?_
     refine gd 22 ⟨?_⟩
     refine Zd (ZP rfl hdec) rfl rfl ?_
     refine Zd (Zo (xs:=xs) (g:=prC) rfl rfl (k-1) rfl (by omega) rfl) rfl rfl ?_
     refine gd 25 ⟨?_⟩
     refine Z6Y (b:=pB xs[k] xs[k-1]) rfl rfl rfl (fun hx=>?_) (fun hx=>?_)
     · refine absurd ((Zd0 _ _).1 hx).symm ?_
       have:=hne (k-1) (by omega)
       simpa only [show k-1+1=k by omega] using this
     · refine go ?_
       exact⟨k+1,⟨by omega,by omega⟩,by omega,⟨⟨rfl,hpi _⟩,⟨by show some _=some _; rw [hinc],trivial⟩,trivial⟩,trivial⟩
   · refine go ?_
     exact Z5 rfl (Zg xs) rfl
def cmpP (p q:Pr):Int:=if p.1=q.1 then (p.2:Int)-q.2 else (p.1:Int)-q.1
theorem Z7h (p q:Pr) (hp:p.1<64∧p.2<64) (hq:q.1<64∧q.2<64):Spec Tryz.prog 104 [.agg (prC p),.agg (prC q)] (· = .val (.int .i64 (cmpP p q))):=by
 refine Z2 ok104 (Nat.le_of_ble_eq_true rfl) fun C hC=>?_
 have h1:IntKind.i64.wrap ((p.1:Int)-q.1)=(p.1:Int)-q.1:=IntWalk.i64_in _ ⟨by omega,by omega⟩
 have h2:IntKind.i64.wrap ((p.2:Int)-q.2)=(p.2:Int)-q.2:=IntWalk.i64_in _ ⟨by omega,by omega⟩
 refine Zt ?_
 refine Zh ?_
 refine Z3 rfl rfl rfl ?_
 refine Z3 rfl rfl rfl ?_
 (refine go ?_;repeat' (apply B<;>intro hb<;>try cases hb))
 · have h3 : ¬ p.1 = q.1 := fun h => by rw [h] at hb; simp at hb
   exact Z5 rfl trivial (by rw [h1,cmpP,if_neg h3])
 · have h3 : p.1 = q.1 := Int.ofNat_inj.1 (by simpa using hb)
   exact Z5 rfl trivial (by rw [h2,cmpP,if_pos h3])
abbrev Pr64:={ p:Pr // p.1<64∧p.2<64 }
theorem all64P {xs:List Pr} (h:Small xs):∃ l:List Pr64,l.map (·.1)=xs:=by
 induction xs with
 | nil=>exact⟨[],rfl⟩
 | cons c xs ih =>
   obtain⟨l,hl⟩:=ih fun d hd=>h d (List.mem_cons_of_mem _ hd)
   exact⟨⟨c,h c (List.mem_cons_self ..)⟩ :: l,by rw [List.map_cons,hl]⟩
def keyP (p:Pr):Nat:=64*p.1+p.2
theorem Z9r {n ob:Nat} {h:Heap} (xs:List Pr) (hx:Small xs) (hh:h ob=some ⟨2,xs.map prC⟩) :
 ISpec Tryz.prog 103 n [.own ob,.fn 104 []] h fun n' r h'=>n'=n∧r=.tup []∧∃ ys:List Pr,ys.Perm xs∧ys.Pairwise (fun a b=>keyP a≤keyP b)∧h'=h.upd ob ⟨2,ys.map prC⟩:=by
 obtain⟨l,rfl⟩:=all64P hx
 have e:∀ l:List Pr64,(l.map (·.1)).map prC=l.map fun c:Pr64=>prC c.1:=fun l=>by rw [List.map_map]; rfl
 rw [e] at hh
 have hs:=Zbn (P:=Tryz.prog) (ρ:=Z2n) (n:=n) sortPair ⟨_,Tryz.func103,by kernel_rfl,by kernel_rfl⟩ 2 (by decide) Z84 Z7f (fun c:Pr64=>prC c.1) (fun c=>rfl) (fun c=>Z3p c.1) (fun c:Pr64=>keyP c.1) (fun a b:Pr64=>cmpP a.1 b.1) (fun a b=>by
  have h1:=a.2; have h2:=b.2
  unfold cmpP keyP
  split<;>omega) 104 [] trivial (fun a b=>Z7h a.1 b.1 a.2 b.2) l hh
 refine hs.mono ?_
 rintro n' r h' ⟨h1,h2,ys,h3,h4,h5⟩
 refine⟨h1,h2,ys.map (·.1),h3.map _,?_,by rw [e]; exact h5⟩
 exact List.pairwise_map.2 h4
def SortedP (l:List Pr):Prop:=l.Pairwise fun p q=>p.1<q.1 ∨ p.1=q.1∧p.2<q.2
noncomputable def ordC (l:List Pr) (S:List Nat):List PV := [.val (.int .i64 64),.vec (l.map prC) true,.vec (tab (setR (abv l))) false,.vec (tab (setR (bel l))) false,.vec (nums (intsN S)) false]
theorem Z11 (l:List Pr) (S:List Nat):pureL (ordC l S):=⟨trivial,Zg l,Z1j (Z1D _),Z1j (Z1D _),Zu _,trivial⟩
def IsOrd (l:List Pr) (r:PV):Prop:=∃ S,r=.cp (ordC l S)
theorem Z7j {l:List Pr} (hl:Small l) (hn:l.Nodup) (hs:l.Pairwise fun a b=>keyP a≤keyP b):SortedP l:=by
 have h:=hs.and hn
 refine List.Pairwise.imp_of_mem (fun {p q} hp hq h=>?_) h
 have h1:=hl p hp
 have h2:=hl q hq
 obtain⟨h3,h4⟩:=h
 unfold keyP at h3
 have h5:¬ (p.1=q.1∧p.2=q.2):=fun h=>h4 (Prod.ext h.1 h.2)
 omega
theorem Zd2 {l:List Pr} (hs:SortedP l):∀ i (h:i+1<l.length),l[i]≠l[i+1]:=fun i h he=>by
 have:=(List.pairwise_iff_getElem.1 hs) i (i+1) (by omega) h (by omega)
 rw [he] at this
 omega
theorem Acy.perm {l m:List Pr} (h:Acy l) (hp:m.Perm l):Acy m:=h.sub fun p hpm=>hp.mem_iff.1 hpm
theorem Small.perm {l m:List Pr} (h:Small l) (hp:m.Perm l):Small m:=fun p hpm=>h p (hp.mem_iff.1 hpm)
set_option maxHeartbeats 4000000 in
theorem Z86 (l:List Pr) (fl:Bool) (hl:Small l) (hn:l.Nodup) (hacy:Acy l) (hlen:l.length≤1000000):Spec Tryz.prog 48 [.val (.int .i64 64),.vec (l.map prC) fl] fun r=>∃ l' o,l'.Perm l∧SortedP l'∧IsOrd l' o∧r=.tup [o,.val (.int .i64 0)]:=by
 have hnl:=Z22 l
 have hpl:∀ D,innLL D (l.map prC):=fun D=>Za (fun _ h=>h.elim) _ (Zg l)
 refine Z2 ok48 (Nat.le_of_ble_eq_true rfl) fun C hC=>?_
 refine go ?_
 refine Zl hC (fun i=>i≤l.length) (fun i=>l.length-i) 0 (fun i => [(0,.val (.int .i64 64)),(1,.vec (l.map prC) fl),(16,.vec (l.map prC) fl),(17,.val (.int .i64 l.length)),(18,.val (.int .i64 (i:Int)))]) (fun _=>[]) (Nat.zero_le _) 0 (Nat.zero_le _)
  ⟨⟨rfl,trivial⟩,⟨rfl,hpl _⟩,⟨rfl,hpl _⟩,⟨by rw [← hnl]; rfl,trivial⟩,⟨rfl,trivial⟩,trivial⟩ trivial ?_
 intro i hi
 have hinc:IntKind.i64.wrap ((i:Int)+1)=((i+1:Nat):Int):=IntWalk.i64_in _ ⟨by omega,by omega⟩
 refine gd 19 ⟨?_⟩
 refine Zn rfl rfl rfl (fun hb=>?_) (fun hb=>?_)
 · have hil : i < l.length := by have := of_decide_eq_true hb; omega
   have hp:=hl _ (List.getElem_mem hil)
   clear hb
   refine go ?_
   refine Z0 (Zo (xs:=l) (g:=prC) rfl rfl i rfl hil rfl) rfl rfl ?_
   generalize l[i]=p at hp ⊢
   (refine go ?_;repeat' (apply B<;>intro hb<;>try cases hb))
   · refine absurd (of_decide_eq_true hb) ?_
     split<;>omega
   · rename_i hb2
     refine absurd (of_decide_eq_true hb) ?_
     split<;>omega
   · exact⟨i+1,by omega,by omega,⟨⟨rfl,trivial⟩,⟨rfl,hpl _⟩,⟨rfl,hpl _⟩,⟨rfl,trivial⟩,⟨by show some _=some _; rw [hinc],trivial⟩,trivial⟩,trivial⟩
 · have hil : i = l.length := by have := of_decide_eq_false hb; omega
   subst hil
   clear hb
   repeat' (first|refine Zj (ZI (k:=38) rfl 2 (by decide)) ?_|(first|refine st ?_|(apply B<;>intro hb<;>try cases hb)))
   refine ZU (ZQ (k:=0) (m:=l.map prC) (fl:=fl) (b:=⟨2,[]⟩) rfl rfl rfl (fun c hc=>by obtain⟨y,_,rfl⟩:=List.mem_map.1 hc; rfl) rfl (by
    show (0+(l.map prC).length)*16≤_
    rw [hnl];omega)) rfl rfl ?_
   refine go ?_
   refine Z2e rfl rfl (Z9r (n:=_) (ob:=1) l hl rfl) ?_
   rintro n' r h' ⟨rfl,rfl,ys,hys1,hys2,rfl⟩
   have hyl:=hl.perm hys1
   have hso:=Z7j hyl (hys1.nodup_iff.2 hn) hys2
   have hylen:ys.length≤1000000:=by rw [hys1.length_eq]; exact hlen
   refine gd 43 ⟨?_⟩
   refine Zj (Zw (k:=8) (id:=1) rfl rfl (Zg ys)) ?_
   refine go ?_
   refine Z6 (Z7g ys false (Zd2 hso)) rfl rfl rfl ⟨Zg ys,trivial⟩ rfl ?_
   refine Z6 (Zbs ys false) rfl rfl rfl ⟨Zg ys,trivial⟩ rfl ?_
   refine go ?_
   refine Zz (Zbp ys true hyl (hacy.perm hys1) hylen) rfl rfl rfl rfl ⟨⟨trivial,Zg ys,trivial,trivial,trivial,trivial⟩,trivial⟩ trivial ?_
   rintro r b' - - ⟨rfl,S,hT,h64,rfl⟩
   refine go ?_
   refine Zz (Z9p ys true hyl hylen S hT h64) rfl rfl rfl rfl ⟨⟨trivial,Zg ys,trivial,trivial,Zu _,trivial⟩,trivial⟩ trivial ?_
   rintro r b' - - ⟨rfl,rfl⟩
   refine gd 54 ⟨?_⟩
   refine Zj (Z3E (k:=9) (l:=ordC ys S) rfl rfl (Z11 ys S)) ?_
   refine go ?_
   exact Z5 rfl ⟨Z11 ys S,trivial,trivial⟩ ⟨ys,_,hys1,hso,⟨S,rfl⟩,rfl⟩
theorem Z7k (l:List Pr) (S:List Nat) (a:Int):Spec Tryz.prog 149 [.cp (ordC l S),.val (.int .i64 a)] (· = .val (.bool (decide (0≤a)&&decide (a<64)))):=by
 refine Z2 ok149 (Nat.le_of_ble_eq_true rfl) fun C hC=>?_
 (refine go ?_;repeat' (apply B<;>intro hb<;>try cases hb))
 · have h1 := of_decide_eq_true hb
   rename_i hb2
   exact Z5 rfl trivial (by simp_all)
 · exact Z5 rfl trivial (by simp_all)
 · exact Z5 rfl trivial (by simp_all;omega)
theorem Z6u (l:List Pr) (S:List Nat) (hlen:l.length≤1000000):NSpec Tryz.prog 151 [.cp (ordC l S)] .own ⟨2,l.map prC⟩:=by
 refine Z1L ok151 (Nat.le_of_ble_eq_true rfl) fun C hC=>?_
 refine go ?_
 refine Z48 (Zbr l true hlen) Z69 (by exact Zg l) rfl rfl ⟨Zg l,trivial⟩ ?_
 refine go ?_
 exact⟨_,_,rfl,.inl rfl,_,rfl,rfl⟩
theorem Z9v (l:List Pr) (S:List Nat) (hlen:l.length≤1000000):Spec Tryz.prog 151 [.cp (ordC l S)] (· = .vec (l.map prC) false) :=
 (Z6u l S hlen).spec (Zg l) (fun _=>.own) (Zg l)
theorem Z9w (l:List Pr) (S:List Nat) (a:Int):Spec Tryz.prog 130 [.cp (ordC l S),.val (.int .i64 a)] (· = setN (if 0≤a∧a<64 then bel l a.toNat else 0)):=by
 refine Z2 ok130 (Nat.le_of_ble_eq_true rfl) fun C hC=>?_
 refine go ?_
 refine Z6 (Z7k l S a) rfl rfl rfl ⟨Z11 l S,trivial,trivial⟩ rfl ?_
 by_cases h:0≤a∧a<64
 · rw [if_pos h, decide_eq_true h.1, decide_eq_true h.2]
   obtain⟨k,rfl⟩:∃ k:Nat,a=(k:Int):=⟨a.toNat,by omega⟩
   have hk:k<64:=by omega
   have hkl:k<(List.range 64).length:=by simpa using hk
   refine gd 15 ⟨?_⟩
   refine Z0 (Zo (xs:=List.range 64) (g:=setR (bel l)) rfl rfl k rfl hkl rfl) rfl rfl ?_
   rw [List.getElem_range]
   refine go ?_
   exact Z5 rfl (Z1 _) rfl
 · rw [if_neg h]
   have h2:(decide (0≤a)&&decide (a<64))=false:=by
    rw [Bool.and_eq_false_iff]
    by_cases h1:0≤a
    · exact .inr (decide_eq_false fun h3=>h ⟨h1,h3⟩)
    · exact .inl (decide_eq_false h1)
   rw [h2]
   refine go ?_
   refine ZV rfl (Z1 0 |> fun h=>by rw [Z1Y] at h; exact h) ?_
   rw [Z1Y]; rfl
theorem Z9x (l:List Pr) (S:List Nat) (a:Int):Spec Tryz.prog 165 [.cp (ordC l S),.val (.int .i64 a)] (· = setN (if 0≤a∧a<64 then abv l a.toNat else 0)):=by
 refine Z2 ok165 (Nat.le_of_ble_eq_true rfl) fun C hC=>?_
 refine go ?_
 refine Z6 (Z7k l S a) rfl rfl rfl ⟨Z11 l S,trivial,trivial⟩ rfl ?_
 by_cases h:0≤a∧a<64
 · rw [if_pos h, decide_eq_true h.1, decide_eq_true h.2]
   obtain⟨k,rfl⟩:∃ k:Nat,a=(k:Int):=⟨a.toNat,by omega⟩
   have hk:k<64:=by omega
   have hkl:k<(List.range 64).length:=by simpa using hk
   refine gd 15 ⟨?_⟩
   refine Z0 (Zo (xs:=List.range 64) (g:=setR (abv l)) rfl rfl k rfl hkl rfl) rfl rfl ?_
   rw [List.getElem_range]
   refine go ?_
   exact Z5 rfl (Z1 _) rfl
 · rw [if_neg h]
   have h2:(decide (0≤a)&&decide (a<64))=false:=by
    rw [Bool.and_eq_false_iff]
    by_cases h1:0≤a
    · exact .inr (decide_eq_false fun h3=>h ⟨h1,h3⟩)
    · exact .inl (decide_eq_false h1)
   rw [h2]
   refine go ?_
   refine ZV rfl (Z1 0 |> fun h=>by rw [Z1Y] at h; exact h) ?_
   rw [Z1Y]; rfl
set_option maxHeartbeats 1000000 in
theorem Zbu (l:List Pr) (S:List Nat) (a b:Nat) (ha:a<64) (hb:b<64) (hl:Small l) (hn:l.Nodup) (hno:(a,b) ∉ l) (hacy:Acy (l ++ [(a,b)])) (hlen:l.length≤100000):Spec Tryz.prog 114 [.cp (ordC l S),.val (.int .i64 (a:Int)),.val (.int .i64 (b:Int))] fun r=>∃ l' o,l'.Perm (l ++ [(a,b)])∧SortedP l'∧IsOrd l' o∧r=.tup [o,.val (.int .i64 0)]:=by
 have hi:∀ c:Nat,c<64→Spec Tryz.prog 149 [.cp (ordC l S),.val (.int .i64 (c:Int))] (· = .val (.bool true)):=fun c hc=>by
  have:=Z7k l S (c:Int)
  rwa [decide_eq_true (show (0:Int)≤c by omega),decide_eq_true (show (c:Int)<64 by omega)] at this
 have hcon:=Z61 l (a,b) true
 rw [decide_eq_false hno] at hcon
 have hl2:Small (l ++ [(a,b)]):=fun p hp=>(List.mem_append.1 hp).elim (hl p) fun h=>by rw [List.mem_singleton] at h; subst h; exact⟨ha,hb⟩
 have hn2:(l ++ [(a,b)]).Nodup:=by
  rw [List.nodup_append]
  exact⟨hn,by simp,fun x hx y hy e=>by rw [List.mem_singleton] at hy; subst hy; subst e; exact hno hx⟩
 refine Z2 ok114 (Nat.le_of_ble_eq_true rfl) fun C hC=>?_
 refine go ?_
 refine Z6 (hi a ha) rfl rfl rfl ⟨Z11 l S,trivial,trivial⟩ rfl ?_
 refine go ?_
 refine Z6 (hi b hb) rfl rfl rfl ⟨Z11 l S,trivial,trivial⟩ rfl ?_
 refine go ?_
 refine Z6 hcon rfl rfl rfl ⟨Zg l,Z3p _,trivial⟩ rfl ?_
 repeat' (first|refine Z5g [10] ?_|(first|refine st ?_|(apply B<;>intro hb<;>try cases hb)))
 refine Zea (Z6u l S (by omega)) Z69 (by exact Zg l) rfl rfl rfl ⟨Z11 l S,trivial⟩ ?_
 refine gd 38 ⟨?_⟩
 have hap:(l.map prC) ++ [prC (a,b)]=(l ++ [(a,b)]).map prC:=by rw [List.map_append]; rfl
 refine Z92 (k:=5) (m := [prC (a,b)]) (fl:=true) (b:=⟨2,l.map prC⟩) rfl rfl rfl (fun c hc=>by rw [List.mem_singleton] at hc; subst hc; rfl) rfl (by
  show ((l.map prC).length+1)*16≤_
  rw [Z22];omega) (by show pureLL (l.map prC ++ [prC (a,b)]); rw [hap]; exact Zg _) rfl rfl ?_
 show dK _ _ _ _ (Env.upd _ 38 (.vec (l.map prC ++ [prC (a,b)]) false)) _ _
 rw [hap]
 have hnew:=Z86 (l ++ [(a,b)]) false hl2 hn2 hacy (by rw [List.length_append,List.length_singleton];omega)
 refine Z4t rfl rfl (.inl rfl) hnew ⟨trivial,Zg _,trivial⟩ ?_
 rintro r ⟨l',o,h1,h2,⟨S',rfl⟩,rfl⟩
 refine go ?_
 exact Z5 rfl ⟨Z11 l' S',trivial,trivial⟩ ⟨l',_,h1,h2,⟨S',rfl⟩,rfl⟩
theorem Zd3 (i:Nat) (h:i<64):IntKind.u64.wrap (1*2 ^ (min ((i:Nat):Int).toNat IntKind.u64.bits))=((2 ^ i:Nat):Int):=by
 rw [show min ((i:Nat):Int).toNat IntKind.u64.bits=i by show min i 64=i; omega,Int.one_mul]
 have h2:=ZL h
 have e:((2:Int) ^ i)=((2 ^ i:Nat):Int):=by rw [Int.natCast_pow]; rfl
 rw [e]
 exact IntWalk.u64_in _ ⟨Int.natCast_nonneg _,Int.ofNat_le.2 (show _≤18446744073709551615 by omega)⟩
theorem Zbv (a:Int):Spec Tryz.prog 109 [.val (.int .i64 a)] (· = .val (.bool (decide (1≤a)&&decide (a≤63)))):=by
 refine Z2 ok109 (Nat.le_of_ble_eq_true rfl) fun C hC=>?_
 (refine go ?_;repeat' (apply B<;>intro hb<;>try cases hb))
 all_goals exact Z5 rfl trivial (by simp_all<;>omega)
theorem Z4d (a:Nat) (h1:1≤a) (h2:a<64):Spec Tryz.prog 109 [.val (.int .i64 (a:Int))] (· = .val (.bool true)):=by
 have:=Zbv (a:Int)
 rwa [decide_eq_true (show (1:Int)≤a by omega),decide_eq_true (show (a:Int)≤63 by omega)] at this
set_option maxHeartbeats 2000000 in
theorem Z4e (l:List Pr) (fl:Bool) (hl:Small l) (r:Nat) (hr1:1≤r) (hr:r<64):Spec Tryz.prog 112 [.vec (l.map prC) fl,.val (.int .i64 (r:Int))] (· = .val (.int .u64 (jun l r:Nat))):=by
 have hnl:=Z22 l
 have hpl:∀ D,innLL D (l.map prC):=fun D=>Za (fun _ h=>h.elim) _ (Zg l)
 refine Z2 ok112 (Nat.le_of_ble_eq_true rfl) fun C hC=>?_
 refine Z2V (k:=0) rfl fun hmax=>?_
 have hlm:l.length≤maxVec:=by rw [← hnl]; exact hmax
 refine go ?_
 refine Z6 (Z4d r hr1 hr) rfl rfl rfl ⟨trivial,trivial⟩ rfl ?_
 refine gd 13 ⟨?_⟩
 refine Z0 (Zcs rfl rfl (by omega) (Zd3 r hr)) rfl rfl ?_
 refine go ?_
 refine Zl hC (fun s=>Reach l r s) (fun s=>18446744073709551616-s) 0 (fun s => [(0,.vec (l.map prC) fl),(5,.val (.int .u64 (s:Int)))]) (fun _=>[]) (Nat.zero_le _) (2 ^ r) (Reach.init hr) ⟨⟨rfl,hpl _⟩,⟨rfl,trivial⟩,trivial⟩ trivial ?_
 intro s hs
 have hs64:=hs.lt
 refine go ?_
 refine Zl hC (fun i=>i≤l.length) (fun i=>l.length-i) 0 (fun i => [(0,.vec (l.map prC) fl),(5,.val (.int .u64 (s:Int))),(6,.val (.int .u64 ((l.take i).foldl (fun n x=>if s.testBit x.1=true then n ||| 2 ^ x.2 else n) s:Nat))),(15,.vec (l.map prC) fl),(16,.val (.int .i64 l.length)),(17,.val (.int .i64 (i:Int)))]) (fun _=>[]) (Nat.zero_le _) 0 (Nat.zero_le _)
  ⟨⟨rfl,hpl _⟩,⟨rfl,trivial⟩,⟨rfl,trivial⟩,⟨rfl,hpl _⟩,⟨by rw [← hnl]; rfl,trivial⟩,⟨rfl,trivial⟩,trivial⟩ trivial ?_
 intro i hi
 have hinc:IntKind.i64.wrap ((i:Int)+1)=((i+1:Nat):Int):=IntWalk.i64_in _ ⟨by omega,by simp only [maxVec] at hlm; omega⟩
 have hcur:=Z85 (l:=l.take i) (fun p hp=>hl p (List.mem_of_mem_take hp)) s s hs64
 refine gd 18 ⟨?_⟩
 refine Zn rfl rfl rfl (fun hb=>?_) (fun hb=>?_)
 · have hil : i < l.length := by have := of_decide_eq_true hb; omega
   have hp:=hl _ (List.getElem_mem hil)
   have htk:=Zbt hil s s
   clear hb
   generalize (l.take i).foldl (fun n x=>if s.testBit x.1=true then n ||| 2 ^ x.2 else n) s=cur at hcur htk ⊢
   refine go ?_
   refine Z0 (Zo (xs:=l) (g:=prC) rfl rfl i rfl hil rfl) rfl rfl ?_
   generalize l[i]=p at hp htk ⊢
   (refine go ?_;repeat' (apply B<;>intro hb<;>try cases hb))
   · rw [Z35 s p.1 hp.1, Z2M s p.1, Z5m s p.1] at hb
     rw [if_pos hb] at htk
     clear hb
     have hor:bits .or .u64 (cur:Int) (IntKind.u64.wrap (1*2 ^ (min ((p.2:Nat):Int).toNat IntKind.u64.bits)))=((cur ||| 2 ^ p.2:Nat):Int):=by
      rw [Zd3 p.2 hp.2]; exact bits_or_u64_nat cur (2 ^ p.2) hcur (ZL hp.2)
     exact⟨i+1,by omega,by omega,⟨⟨rfl,hpl _⟩,⟨rfl,trivial⟩,⟨by rw [htk,← hor]; rfl,trivial⟩,⟨rfl,hpl _⟩,⟨rfl,trivial⟩,⟨by show some _=some _; rw [hinc],trivial⟩,trivial⟩,trivial⟩
   · rw [Z35 s p.1 hp.1, Z2M s p.1, Z5m s p.1] at hb
     rw [if_neg (by rw [hb]; decide)] at htk
     exact⟨i+1,by omega,by omega,⟨⟨rfl,hpl _⟩,⟨rfl,trivial⟩,⟨by rw [htk]; rfl,trivial⟩,⟨rfl,hpl _⟩,⟨rfl,trivial⟩,⟨by show some _=some _; rw [hinc],trivial⟩,trivial⟩,trivial⟩
 · have hil : i = l.length := by have := of_decide_eq_false hb; omega
   subst hil
   rw [List.take_length]
   rw [List.take_length] at hcur
   clear hb
   have hst:=hs.step hl
   have hst64:=hst.lt
   (refine go ?_;repeat' (apply B<;>intro hb<;>try cases hb))
   · have he : stepJ l s = s := by
      have:=eq_of_beq hb
      exact Int.ofNat_inj.1 this
     rw [← hs.done hl hr he]
     exact Z5 rfl trivial rfl
   · have he : stepJ l s ≠ s := fun h => by
      rw [show l.foldl (fun n x=>if s.testBit x.1=true then n ||| 2 ^ x.2 else n) s=s from h] at hb
      simp at hb
     have hg:=Z9s l s he
     exact⟨stepJ l s,hst,by omega,⟨⟨rfl,hpl _⟩,⟨rfl,trivial⟩,trivial⟩,trivial⟩
theorem Z7l (l:List Pr) (fl:Bool) (hl:Small l) (r s:Nat) (hr1:1≤r) (hr:r<64) (hs1:1≤s) (hs:s<64):Spec Tryz.prog 111 [.vec (l.map prC) fl,.val (.int .i64 (r:Int)),.val (.int .i64 (s:Int))] (· = .val (.bool ((jun l r).testBit s))):=by
 refine Z2 ok111 (Nat.le_of_ble_eq_true rfl) fun C hC=>?_
 refine go ?_
 refine Z6 (Z4d s hs1 hs) rfl rfl rfl ⟨trivial,trivial⟩ rfl ?_
 refine go ?_
 refine Z6 (Z4e l fl hl r hr1 hr) rfl rfl rfl ⟨Zg l,trivial,trivial⟩ rfl ?_
 (refine go ?_;repeat' (apply B<;>intro hb<;>try cases hb))
 all_goals
  rw [Z35 _ s hs,Z2M _ s,Z5m _ s] at hb
  exact Z5 rfl trivial (by rw [hb])
theorem Z6v {α:Type} {S:List α} {t:Nat} (ht:t<S.length):S.take (t+1)=S.take t ++ [S[t]]:=by rw [List.take_add_one,List.getElem?_eq_getElem ht]; rfl
set_option maxHeartbeats 1000000 in
theorem Zd4 (l:List Pr) (fl:Bool) (a b:Nat):Spec Tryz.prog 110 [.vec (l.map prC) fl,.val (.int .i64 (a:Int)),.val (.int .i64 (b:Int))] (· = .val (.bool (decide ((a,b)∈l)))):=by
 have hnl:=Z22 l
 have hpl:∀ D,innLL D (l.map prC):=fun D=>Za (fun _ h=>h.elim) _ (Zg l)
 refine Z2 ok110 (Nat.le_of_ble_eq_true rfl) fun C hC=>?_
 refine Z2V (k:=0) rfl fun hmax=>?_
 have hlm:l.length≤maxVec:=by rw [← hnl]; exact hmax
 refine go ?_
 refine Zl hC (fun i=>i≤l.length∧(a,b) ∉ l.take i) (fun i=>l.length-i) 0 (fun i => [(1,.val (.int .i64 (a:Int))),(2,.val (.int .i64 (b:Int))),(9,.vec (l.map prC) fl),(10,.val (.int .i64 l.length)),(11,.val (.int .i64 (i:Int)))]) (fun _=>[]) (Nat.zero_le _) 0 ⟨Nat.zero_le _,by simp⟩
  ⟨⟨rfl,trivial⟩,⟨rfl,trivial⟩,⟨rfl,hpl _⟩,⟨by rw [← hnl]; rfl,trivial⟩,⟨rfl,trivial⟩,trivial⟩ trivial ?_
 rintro i ⟨hi,hno⟩
 have hinc:IntKind.i64.wrap ((i:Int)+1)=((i+1:Nat):Int):=IntWalk.i64_in _ ⟨by omega,by simp only [maxVec] at hlm; omega⟩
 refine gd 12 ⟨?_⟩
 refine Zn rfl rfl rfl (fun hb=>?_) (fun hb=>?_)
 · have hil : i < l.length := by have := of_decide_eq_true hb; omega
   have htk:=Z6v hil
   have hmem:=List.getElem_mem hil
   clear hb
   refine go ?_
   refine Z0 (Zo (xs:=l) (g:=prC) rfl rfl i rfl hil rfl) rfl rfl ?_
   generalize l[i]=p at htk hmem ⊢
   have hnext:¬ (a,b)=p→(a,b) ∉ l.take (i+1):=fun h hh=>by
    rw [htk] at hh
    rcases List.mem_append.1 hh with hh|hh
    · exact hno hh
    · exact h (List.mem_singleton.1 hh)
   (refine go ?_;repeat' (apply B<;>intro hb<;>try cases hb))
   · rename_i hb2
     have h1:p.1=a:=Int.ofNat_inj.1 (by simpa using hb2)
     have h2:p.2=b:=Int.ofNat_inj.1 (by simpa using hb)
     refine Z5 rfl trivial ?_
     rw [decide_eq_true]
     rw [← h1,← h2]; exact hmem
   · have h2 : ¬ p.2 = b := fun h => by rw [h] at hb; simp at hb
     exact⟨i+1,⟨by omega,hnext fun h=>h2 (by rw [← h])⟩,by omega,⟨⟨rfl,trivial⟩,⟨rfl,trivial⟩,⟨rfl,hpl _⟩,⟨rfl,trivial⟩,⟨by show some _=some _; rw [hinc],trivial⟩,trivial⟩,trivial⟩
   · have h2 : ¬ p.1 = a := fun h => by rw [h] at hb; simp at hb
     exact⟨i+1,⟨by omega,hnext fun h=>h2 (by rw [← h])⟩,by omega,⟨⟨rfl,trivial⟩,⟨rfl,trivial⟩,⟨rfl,hpl _⟩,⟨rfl,trivial⟩,⟨by show some _=some _; rw [hinc],trivial⟩,trivial⟩,trivial⟩
 · have hil : i = l.length := by have := of_decide_eq_false hb; omega
   subst hil
   rw [List.take_length] at hno
   clear hb
   refine go ?_
   exact Z5 rfl trivial (by rw [decide_eq_false hno])
set_option maxHeartbeats 1000000 in
theorem Z7m (l:List Pr) (fl:Bool) (hl:Small l) (s:Nat) (hs:s<18446744073709551616):Spec Tryz.prog 54 [.vec (l.map prC) fl,.val (.int .u64 (s:Int))] (· = .val (.int .u64 (clo l s:Nat))):=by
 have hpl:∀ D,innLL D (l.map prC):=fun D=>Za (fun _ h=>h.elim) _ (Zg l)
 refine Z2 ok54 (Nat.le_of_ble_eq_true rfl) fun C hC=>?_
 refine go ?_
 refine Zl hC (fun r=>1≤r∧r≤64) (fun r=>64-r) 0 (fun r => [(0,.vec (l.map prC) fl),(1,.val (.int .u64 (s:Int))),(5,.val (.int .u64 (cloTo l s r:Nat))),(6,.val (.int .i64 (r:Int)))]) (fun _=>[]) (Nat.zero_le _) 1 ⟨Nat.le_refl _,by decide⟩
  ⟨⟨rfl,hpl _⟩,⟨rfl,trivial⟩,⟨by rw [Zd1]; rfl,trivial⟩,⟨rfl,trivial⟩,trivial⟩ trivial ?_
 rintro r ⟨hr1,hr⟩
 have hinc:IntKind.i64.wrap ((r:Int)+1)=((r+1:Nat):Int):=IntWalk.i64_in _ ⟨by omega,by omega⟩
 have hcur:=Zax l s hr
 have hstep:=Z6t l s r
 refine gd 8 ⟨?_⟩
 refine Zn rfl rfl rfl (fun hb=>?_) (fun hb=>?_)
 · have hrl : r < 64 := by have := of_decide_eq_true hb; omega
   clear hb
   have hor:=bits_or_u64_nat (cloTo l s r) (jun l r) hcur (Zaw l hrl)
   (refine go ?_;repeat' (apply B<;>intro hb<;>try cases hb))
   · rw [Z35 _ r hrl, Z2M _ r, Z5m _ r] at hb
     rw [if_pos ⟨hb,hr1⟩] at hstep
     refine Z6 (Z4e l fl hl r hr1 hrl) rfl rfl rfl ⟨Zg l,trivial,trivial⟩ rfl ?_
     (refine go ?_;repeat' (apply B<;>intro hb<;>try cases hb))
     exact⟨r+1,⟨by omega,by omega⟩,by omega,⟨⟨rfl,hpl _⟩,⟨rfl,trivial⟩,⟨by rw [hstep,← hor]; rfl,trivial⟩,⟨by show some _=some _; rw [hinc],trivial⟩,trivial⟩,trivial⟩
   · rw [Z35 _ r hrl, Z2M _ r, Z5m _ r] at hb
     rw [if_neg (fun h=>by rw [hb] at h; exact absurd h.1 (by decide))] at hstep
     exact⟨r+1,⟨by omega,by omega⟩,by omega,⟨⟨rfl,hpl _⟩,⟨rfl,trivial⟩,⟨by rw [hstep]; rfl,trivial⟩,⟨by show some _=some _; rw [hinc],trivial⟩,trivial⟩,trivial⟩
 · have hrl : r = 64 := by have := of_decide_eq_false hb; omega
   subst hrl
   clear hb
   refine go ?_
   exact Z5 rfl trivial rfl
def ltP (p q:Pr):Prop:=p.1<q.1 ∨ p.1=q.1∧p.2<q.2
instance (p q:Pr):Decidable (ltP p q):=inferInstanceAs (Decidable (_ ∨ _))
def Linked (l:List Pr) (p:Pr) (l':List Pr):Prop:=l'=l ∨ (p ∉ l∧∃ i,i≤l.length∧(∀ q∈l.take i,ltP q p)∧(∀ q,l[i]?=some q→¬ ltP q p)∧l'=l.take i++p :: l.drop i)
theorem Linked.sorted {l:List Pr} {p:Pr} {l':List Pr} (h:Linked l p l') (hs:SortedP l):SortedP l':=by
 rcases h with rfl|⟨hp,i,hi,h1,h2,rfl⟩
 · exact hs
 · have hd : SortedP (l.take i) ∧ SortedP (l.drop i) ∧ ∀ a ∈ l.take i, ∀ b ∈ l.drop i, ltP a b := by
    have:=hs
    unfold SortedP at this
    rw [← List.take_append_drop i l,List.pairwise_append] at this
    exact this
   obtain⟨d1,d2,d3⟩:=hd
   have h3:∀ q∈l.drop i,ltP p q:=by
    cases hdr:l.drop i with
    | nil=>intro q hq; cases hq
    | cons x r =>
      have hx:l[i]?=some x:=by
       have:=congrArg List.head? hdr
       rw [List.head?_drop] at this
       exact this
      have hne:x≠p:=fun e=>hp (by rw [← e]; exact List.mem_of_getElem? hx)
      have hpx:ltP p x:=by
       have h4:=h2 x hx
       have h5:¬ (x.1=p.1∧x.2=p.2):=fun h=>hne (Prod.ext h.1 h.2)
       unfold ltP at h4 ⊢
       omega
      intro q hq
      rcases List.mem_cons.1 hq with rfl|hq
      · exact hpx
      · rw [hdr] at d2
        have h6:ltP x q:=(List.pairwise_cons.1 d2).1 q hq
        unfold ltP at hpx h6 ⊢
        omega
   show List.Pairwise _ _
   rw [List.pairwise_append]
   refine⟨d1,List.pairwise_cons.2 ⟨h3,d2⟩,fun a ha b hb=>?_⟩
   rcases List.mem_cons.1 hb with rfl|hb
   · exact h1 a ha
   · exact d3 a ha b hb
theorem Linked.mem {l:List Pr} {p:Pr} {l':List Pr} (h:Linked l p l'):∀ q∈l',q∈l ∨ q=p:=by
 rcases h with rfl|⟨hp,i,hi,h1,h2,rfl⟩
 · exact fun q hq=>.inl hq
 · intro q hq
   rcases List.mem_append.1 hq with hq|hq
   · exact .inl (List.mem_of_mem_take hq)
   · rcases List.mem_cons.1 hq with rfl | hq
     · exact .inr rfl
     · exact .inl (List.mem_of_mem_drop hq)
theorem Linked.len {l:List Pr} {p:Pr} {l':List Pr} (h:Linked l p l'):l'.length≤l.length+1:=by
 rcases h with rfl|⟨hp,i,hi,h1,h2,rfl⟩
 · omega
 · rw [List.length_append,List.length_cons,List.length_take,List.length_drop]; omega
set_option maxHeartbeats 4000000 in
theorem Zbw (l:List Pr) (fl:Bool) (hl:Small l) (a b:Nat) (ha:1≤a∧a<64) (hb0:1≤b∧b<64) (hab:a≠b) (hlen:l.length≤100000):Spec Tryz.prog 51 [.vec (l.map prC) fl,.val (.int .i64 (a:Int)),.val (.int .i64 (b:Int))] fun r=>∃ l' fl' e,Linked l (a,b) l'∧r=.tup [.vec (l'.map prC) fl',.val (.int .i64 e)]:=by
 have hnl:=Z22 l
 have hpl:∀ D,innLL D (l.map prC):=fun D=>Za (fun _ h=>h.elim) _ (Zg l)
 have hne:((a:Int) == (b:Int))=false:=by rw [beq_eq_false_iff_ne]; omega
 refine Z2 ok51 (Nat.le_of_ble_eq_true rfl) fun C hC=>?_
 refine go ?_
 refine Z6 (Z4d a ha.1 ha.2) rfl rfl rfl ⟨trivial,trivial⟩ rfl ?_
 refine go ?_
 refine Z6 (Z4d b hb0.1 hb0.2) rfl rfl rfl ⟨trivial,trivial⟩ rfl ?_
 refine gd 20 ⟨?_⟩
 refine Zi rfl ?_
 refine Z0 (Z4 rfl hne) rfl rfl ?_
 refine go ?_
 refine Z6 (Zd4 l fl a b) rfl rfl rfl ⟨Zg l,trivial,trivial,trivial⟩ rfl ?_
 by_cases hin:(a,b)∈l
 · rw [decide_eq_true hin]
   refine go ?_
   exact Z5 rfl ⟨Zg l,trivial,trivial⟩ ⟨l,fl,5,.inl rfl,rfl⟩
 rw [decide_eq_false hin]
 refine go ?_
 refine Z6 (Z7l l fl hl b a hb0.1 hb0.2 ha.1 ha.2) rfl rfl rfl ⟨Zg l,trivial,trivial,trivial⟩ rfl ?_
 generalize (jun l b).testBit a=v
 cases v
 case true =>
  refine go ?_
  exact Z5 rfl ⟨Zg l,trivial,trivial⟩ ⟨l,fl,16,.inl rfl,rfl⟩
 refine gd 8 ⟨?_⟩
 refine Z0 rfl rfl rfl ?_
 refine Z1p ?_
 refine Zfw (X:=Nat) hC (fun i=>i≤l.length∧(∀ q∈l.take i,ltP q (a,b))∧(∀ q,l[i]?=some q→¬ ltP q (a,b))) 0 (fun i => [(0,.vec (l.map prC) fl),(1,.val (.int .i64 (a:Int))),(2,.val (.int .i64 (b:Int))),(8,.val (.int .i64 (i:Int)))]) (fun _=>[]) (Nat.zero_le _) ?_ ?_
 · refine go ?_
   refine Zl hC (fun i=>i≤l.length∧∀ q∈l.take i,ltP q (a,b)) (fun i=>l.length-i) 0 (fun i => [(0,.vec (l.map prC) fl),(1,.val (.int .i64 (a:Int))),(2,.val (.int .i64 (b:Int))),(8,.val (.int .i64 (i:Int)))]) (fun _=>[]) (Nat.zero_le _) 0 ⟨Nat.zero_le _,by simp⟩ ⟨⟨rfl,hpl _⟩,⟨rfl,trivial⟩,⟨rfl,trivial⟩,⟨rfl,trivial⟩,trivial⟩ trivial ?_
   rintro i ⟨hi,hlt⟩
   have hinc:IntKind.i64.wrap ((i:Int)+1)=((i+1:Nat):Int):=IntWalk.i64_in _ ⟨by omega,by omega⟩
   refine gd 36 ⟨?_⟩
   refine Zn rfl rfl rfl (fun hb=>?_) (fun hb=>?_)
   · rw [hnl] at hb
     have hil:i<l.length:=by have:=of_decide_eq_true hb; omega
     have htk:=Z6v hil
     have hget:l[i]?=some l[i]:=List.getElem?_eq_getElem hil
     clear hb
     refine gd 40 ⟨?_⟩
     refine Zi rfl ?_
     refine Z0 (Zo (xs:=l) (g:=prC) rfl rfl i rfl hil rfl) rfl rfl ?_
     have ei:∀ {e:Env} {h:Heap} {x j:Operand} {n:Nat},ev e x=some (.vec (l.map prC) fl)→ev e j=some (.val (.int .i64 (i:Int)))→dEval (.iaddr 2 x j) e h n=some (.cp (prC l[i]),h):=fun h1 h2=>Zo (xs:=l) (g:=prC) h1 h2 i rfl hil rfl
     generalize l[i]=p at htk hget ei ⊢
     have stop:¬ ltP p (a,b)→∀ q,l[i]?=some q→¬ ltP q (a,b):=fun h q hq=>by rw [hget] at hq; cases hq; exact h
     have more:ltP p (a,b)→∀ q∈l.take (i+1),ltP q (a,b):=fun h q hq=>by
      rw [htk] at hq
      rcases List.mem_append.1 hq with hq|hq
      · exact hlt q hq
      · rw [List.mem_singleton] at hq; subst hq; exact h
     refine gd 44 ⟨?_⟩
     refine Zi rfl ?_
     refine Zn rfl rfl rfl (fun hb=>?_) (fun hb=>?_)
     · have h1 : p.1 < a := by have := of_decide_eq_true hb; omega
       refine go ?_
       exact⟨i+1,⟨by omega,more (.inl h1)⟩,by omega,⟨⟨rfl,hpl _⟩,⟨rfl,trivial⟩,⟨rfl,trivial⟩,⟨by show some _=some _; rw [hinc],trivial⟩,trivial⟩,trivial⟩
     · have h1 : ¬ p.1 < a := by have := of_decide_eq_false hb; omega
       refine gd 48 ⟨?_⟩
       refine Zi rfl ?_
       refine Z0 (ei rfl rfl) rfl rfl ?_
       refine gd 52 ⟨?_⟩
       refine Zi rfl ?_
       refine Zn rfl rfl rfl (fun hb=>?_) (fun hb=>?_)
       · have h2 : p.1 = a := Int.ofNat_inj.1 (eq_of_beq hb)
         refine gd 56 ⟨?_⟩
         refine Zi rfl ?_
         refine Z0 (ei rfl rfl) rfl rfl ?_
         refine gd 60 ⟨?_⟩
         refine Zi rfl ?_
         refine Zn rfl rfl rfl (fun hb=>?_) (fun hb=>?_)
         · have h3 : p.2 < b := by have := of_decide_eq_true hb; omega
           refine go ?_
           exact⟨i+1,⟨by omega,more (.inr ⟨h2,h3⟩)⟩,by omega,⟨⟨rfl,hpl _⟩,⟨rfl,trivial⟩,⟨rfl,trivial⟩,⟨by show some _=some _; rw [hinc],trivial⟩,trivial⟩,trivial⟩
         · have h3 : ¬ p.2 < b := by have := of_decide_eq_false hb; omega
           refine go ?_
           exact⟨i,⟨hi,hlt,stop (by unfold ltP; show ¬ (p.1<a ∨ p.1=a∧p.2<b);omega)⟩,⟨⟨rfl,hpl _⟩,⟨rfl,trivial⟩,⟨rfl,trivial⟩,⟨rfl,trivial⟩,trivial⟩,trivial⟩
       · have h2 : ¬ p.1 = a := fun h => by rw [h] at hb; simp at hb
         refine go ?_
         exact⟨i,⟨hi,hlt,stop (by unfold ltP; show ¬ (p.1<a ∨ p.1=a∧p.2<b);omega)⟩,⟨⟨rfl,hpl _⟩,⟨rfl,trivial⟩,⟨rfl,trivial⟩,⟨rfl,trivial⟩,trivial⟩,trivial⟩
   · rw [hnl] at hb
     have hil:i=l.length:=by have:=of_decide_eq_false hb; omega
     clear hb
     refine go ?_
     exact⟨i,⟨hi,hlt,fun q hq=>by rw [hil,List.getElem?_eq_none (Nat.le_refl _)] at hq; cases hq⟩,⟨⟨rfl,hpl _⟩,⟨rfl,trivial⟩,⟨rfl,trivial⟩,⟨rfl,trivial⟩,trivial⟩,trivial⟩
 · rintro i ⟨hi, h1, h2⟩
   repeat' (first|refine Z5g [0,13] ?_|(first|refine st ?_|(apply B<;>intro hb<;>try cases hb)))
   refine Zed rfl rfl rfl ?_
   refine go ?_
   have hm:∀ c∈l.map prC,c.length=2:=fun c hc=>by obtain⟨y,_,rfl⟩:=List.mem_map.1 hc; rfl
   have ht:(l.take i).length=i:=by rw [List.length_take]; omega
   refine Zd (Zec (xs:=l) (g:=prC) rfl 0 i rfl rfl (Nat.zero_le _) hi (fun _=>rfl)) rfl rfl ?_
   rw [List.drop_zero]
   refine Zd (ZQ (k:=0) (b:=⟨2,[]⟩) rfl rfl rfl (fun c hc=>hm c (by rw [List.map_take] at hc; exact List.mem_of_mem_take hc)) rfl (by
    show (0+((l.take i).map prC).length)*16≤_
    rw [Z22];omega)) rfl rfl ?_
   refine gd 75 ⟨?_⟩
   refine Zd (ZQ (k:=4) (m := [prC (a,b)]) (fl:=true) (b:=⟨2,[]++(l.take i).map prC⟩) rfl rfl rfl (fun c hc=>by rw [List.mem_singleton] at hc; subst hc; rfl) rfl (by
    show (([]++(l.take i).map prC).length+1)*16≤_
    rw [List.nil_append,Z22];omega)) rfl rfl ?_
   refine gd 78 ⟨?_⟩
   refine Zd (Zec (xs:=l) (g:=prC) rfl i l.length rfl (by show some ((l.map prC).length:Int)=_; rw [hnl]) hi (Nat.le_refl _) (fun _=>rfl)) rfl rfl ?_
   rw [List.take_length]
   have hap:([]++(l.take i).map prC) ++ [prC (a,b)]++(l.drop i).map prC=(l.take i++(a,b) :: l.drop i).map prC:=by simp
   have hby:(([]++(l.take i).map prC ++ [prC (a,b)]).length+((l.drop i).map prC).length)*16≤140737488355328:=by
    rw [List.nil_append,List.length_append,List.length_singleton,Z22,Z22,List.length_drop]; omega
   have hpp:pureLL ([]++(l.take i).map prC ++ [prC (a,b)]++(l.drop i).map prC):=by rw [hap]; exact Zg _
   refine Z92 (k:=9) (m:=(l.drop i).map prC) (fl:=false) (b:=⟨2,[]++(l.take i).map prC ++ [prC (a,b)]⟩) rfl rfl rfl (fun c hc=>hm c (by rw [List.map_drop] at hc; exact List.mem_of_mem_drop hc)) rfl hby hpp rfl rfl ?_
   show dK _ _ _ _ (Env.upd _ 79 (.vec ([]++(l.take i).map prC ++ [prC (a,b)]++(l.drop i).map prC) false)) _ _
   rw [hap]
   refine go ?_
   exact Z5 rfl ⟨Zg _,trivial,trivial⟩ ⟨_,_,0,.inr ⟨hin,i,hi,h1,h2,rfl⟩,rfl⟩
theorem Z2G (N:Nat) (hN:N<18446744073709551616) (i:Nat) (hi:i<64):Spec Tryz.prog 15 [setN N,.val (.int .i64 (i:Int))] (· = setN (N ||| 2 ^ i)):=by
 have h:=Z36 N (Nat.le_trans (Z2E hN) (by decide)) (i:Int)
 have e:withN N (i:Int)=N ||| 2 ^ i:=by
  unfold withN
  rw [if_pos ⟨by omega,by omega⟩,Int.toNat_natCast]
 rw [e] at h
 exact h
theorem ZA (l:List Nat):lowLL (words l)=words l:=by simp [words,Z6M,lowL,PV.low]
theorem Z1c (l:List Cu):pureLL (l.map cuC):=Z9 Zk l
set_option maxHeartbeats 1000000 in
theorem Zby (xs:List Cu) (fl:Bool) (hlen:xs.length≤1000000):NSpec Tryz.prog 46 [.vec (xs.map cuC) fl] .own ⟨2,xs.map cuC⟩:=by
 refine Z1L ok46 (Nat.le_of_ble_eq_true rfl) fun C hC=>?_
 have fin:∀ (x:Cu) (xs:List Cu),(∀ c∈(x :: xs).map cuC,c.length=2):=fun x xs c hc=>by obtain⟨y,_,rfl⟩:=List.mem_map.1 hc; rfl
 cases xs with
 | nil =>
   refine go ?_
   refine Z4z (.inl ⟨_,_,rfl⟩) rfl fun b=>?_
   cases b
   · repeat' (first | refine Zj (ZI (k := 5) rfl 2 (by decide)) ?_ | (first|refine st ?_|(apply B<;>intro hb<;>try cases hb)))
     exact⟨_,_,rfl,.inl rfl,_,rfl,rfl⟩
   · iterate 6 (first|refine st ?_|(apply B<;>intro hb<;>try cases hb))
     refine Z1U (ZI (k:=2) rfl 2 (by decide) _) ?_
     refine go ?_
     exact⟨_,_,rfl,.inl rfl,_,rfl,rfl⟩
 | cons x xs =>
   repeat' (first|refine Zj (ZI (k:=5) rfl 2 (by decide)) ?_|(first|refine st ?_|(apply B<;>intro hb<;>try cases hb)))
   refine ZU (ZQ (k:=0) (m:=(x :: xs).map cuC) (fl:=fl) rfl rfl rfl (fin x xs) rfl (by
    show (([]:List (List PV)).length+((x :: xs).map cuC).length)*48≤_
    rw [List.length_map,List.length_nil];omega)) rfl rfl ?_
   refine go ?_
   exact⟨_,_,rfl,.inl rfl,_,rfl,by rw [List.nil_append]; rfl⟩
section
variable {e:Env} {h:Heap} {n:Nat}
end
theorem Zgv {P:Program} {z:Rsv} {n i mask:Nat} {d:Option Nat} {e:Env} {h:Heap} {f:Operand} {args:List Operand} {iso:Nat} {alt:Bool} {xs:List DItem} {K:Env→Heap→Prop} {g:FuncId} {caps as0 args':List PV} {v:PV} (hs:Spec P g args' (· = v)) (hf:ev e f=some (.fn g caps)) (ha:evs e args=some as0) (ha':lowL (as0++caps)=args') (hp:pureL args') (hk:dK P z n xs (updO e d v) h K) :
 dK P z n (⟨i,⟨d,.call f args,none⟩,mask,iso,alt⟩ :: xs) e h K:=by
 subst ha'
 exact Z4t hf ha (.inr rfl) hs hp fun _ hr=>hr▸hk
def mentC (l:List Cu):Nat:=l.foldl (fun s c=>(s ||| c.1) ||| c.2) 0
theorem Zbz (l:List Cu) (c:Cu):mentC (l ++ [c])=(mentC l ||| c.1) ||| c.2:=by simp [mentC,List.foldl_append]
theorem ZbA {l:List Cu} {i:Nat} (hi:i<l.length):mentC (l.take (i+1))=(mentC (l.take i) ||| l[i].1) ||| l[i].2:=by
 have e:l.take (i+1)=l.take i ++ [l[i]]:=by rw [List.take_add_one,List.getElem?_eq_getElem hi]; rfl
 rw [e,Zbz]
theorem Zaz:∀ (l:List Cu),(∀ c∈l,Ok64 c)→∀ s,s<18446744073709551616→l.foldl (fun s c=>(s ||| c.1) ||| c.2) s<18446744073709551616
 | [],_,s,hs=>hs
 | c :: l, h, s, hs => by
   rw [List.foldl_cons]
   have hc:=h c (List.mem_cons_self ..)
   exact Zaz l (fun d hd=>h d (List.mem_cons_of_mem _ hd)) _ (Z42 (Z42 hs hc.1) hc.2)
theorem Z3u {l:List Cu} (h:∀ c∈l,Ok64 c):mentC l<18446744073709551616:=Zaz l h 0 (by decide)
set_option maxHeartbeats 2000000 in
theorem Z2h (l:List Cu) (fl:Bool) (hl:∀ c∈l,Ok64 c):Spec Tryz.prog 77 [.vec (l.map cuC) fl] (· = setN (mentC l)):=by
 have hnl:(l.map cuC).length=l.length:=by simp
 refine Z2 ok77 (Nat.le_of_ble_eq_true rfl) fun C hC=>?_
 refine Z2V (k:=0) rfl fun hmax=>?_
 have hlm:l.length≤maxVec:=by simpa using hmax
 refine go ?_
 refine Zl hC (fun (x:Nat×Bool)=>x.1≤l.length) (fun x=>l.length-x.1) 2 (fun x => [(2,.ptr 0 0 0),(3,.ptr 1 0 0),(6,.vec (l.map cuC) fl),(7,.val (.int .i64 (l.length:Int))),(8,.val (.int .i64 (x.1:Int)))])
  (fun x => [(0,⟨1,[[.vec [] true]]⟩),(1,⟨1,[[.vec (words (digs (mentC (l.take x.1)))) x.2]]⟩)]) (Nat.zero_le _) (0,true) (Nat.zero_le _)
  ⟨⟨rfl,show (0:Nat)<2 by decide⟩,⟨rfl,show (1:Nat)<2 by decide⟩,⟨rfl,Za (fun _ h=>h.elim) _ (Z1c l)⟩,⟨by rw [← hnl]; rfl,trivial⟩,⟨rfl,trivial⟩,trivial⟩
  ⟨⟨by decide,rfl,⟨trivial,trivial⟩,trivial⟩,⟨by decide,by rw [List.take_zero,mentC,List.foldl_nil,ZG]; rfl,⟨ZH _ _,trivial⟩,trivial⟩,trivial⟩ ?_
 rintro⟨i,b⟩ hi
 dsimp only at hi ⊢
 have hinc:IntKind.i64.wrap ((i:Int)+1)=((i+1:Nat):Int):=IntWalk.i64_in _ ⟨by omega,by simp only [maxVec] at hlm; omega⟩
 have hlt:=Z3u fun c hc=>hl c (List.mem_of_mem_take (i:=i) hc)
 (refine go ?_;repeat' (apply B<;>intro hb<;>try cases hb))
 · have hil : i < l.length := by simpa using hb
   have hci:=hl _ (List.getElem_mem hil)
   refine Z0 (Zo (xs:=l) rfl rfl i rfl hil rfl) rfl rfl ?_
   refine go ?_
   refine Zgv (Z1Q (mentC (l.take i)) l[i].1 hlt hci.1) rfl rfl (by show [PV.agg [PV.vec (lowLL (words _)) false],PV.agg [PV.vec (lowLL (words _)) false]]=_; rw [ZA,ZA]; rfl) ⟨Z1 _,Z1 _,trivial⟩ ?_
   refine go ?_
   refine Zr (Z1Q _ l[i].2 (Z42 hlt hci.1) hci.2) rfl rfl rfl ⟨Z1 _,Z1 _,trivial⟩ ?_
   (refine go ?_;repeat' (apply B<;>intro hb<;>try cases hb))
   exact⟨(i+1,false),by show i+1≤_; omega,by show _-(i+1)<_-i; omega,
    ⟨⟨rfl,show (0:Nat)<2 by decide⟩,⟨rfl,show (1:Nat)<2 by decide⟩,⟨rfl,Za (fun _ h=>h.elim) _ (Z1c l)⟩,⟨rfl,trivial⟩,⟨by show some _=some _; rw [hinc],trivial⟩,trivial⟩,
    ⟨⟨by decide,rfl,⟨trivial,trivial⟩,trivial⟩,⟨by decide,by rw [ZbA hil]; rfl,⟨ZH _ _,trivial⟩,trivial⟩,trivial⟩⟩
 · have hil : i = l.length := by have := of_decide_eq_false hb; omega
   subst hil
   rw [List.take_length]
   refine ZV rfl ⟨by show pureLL (lowLL (words _)); rw [ZA]; exact Ze _,trivial⟩ ?_
   show PV.agg [PV.vec (lowLL (words _)) false]=_
   rw [ZA]
   rfl
def fullL (l:List Cu):List Cu:=l.filter fun c => !emC c
def wholeE (l:List Cu):Int:=if (mentC (fullL l)).testBit 0=true then 1 else if 8<(mem (mentC (fullL l))).length then 3 else 0
end Go.Proofs.YtmnbbggaoembeaaGreatDoor
namespace Go.Proofs.YtmnbbggaoembeaaGreatDoor
open Go.RowKit
theorem tb {y i:Nat} (h:¬ y.testBit i=true):y.testBit i=false:=by simpa using h
section
variable {N:Nat} (hN:N<18446744073709551616)
include hN
end
end Go.Proofs.YtmnbbggaoembeaaGreatDoor
namespace Go.Proofs.YtmnbbggaoembeaaGreatDoor
open Go.RowKit
attribute [local irreducible] aw opsK dK
def memTo (s k:Nat):List Nat:=(List.range k).filter fun i=>s.testBit i
theorem ZbB (s k:Nat):memTo s (k+1)=memTo s k++(if s.testBit k=true then [k] else []):=by
 unfold memTo
 rw [List.range_succ,List.filter_append]
 cases h:s.testBit k<;>simp [h]
theorem Zd5 (s k:Nat):(memTo s k).length≤k:=by
 have:=List.length_filter_le (fun i=>s.testBit i) (List.range k)
 rw [List.length_range] at this
 exact this
theorem Z89 (l m:List Nat):intsN (l++m)=intsN l++intsN m:=by simp [intsN]
theorem Z5D (l m:List Int):nums (l++m)=nums l++nums m:=by simp [nums]
set_option maxHeartbeats 2000000 in
theorem Z7o (s:Nat) (hs:s<18446744073709551616):Spec Tryz.prog 33 [.val (.int .u64 (s:Int))] (· = .vec (nums (intsN (mem s))) false):=by
 refine Z2 ok33 (Nat.le_of_ble_eq_true rfl) fun C hC=>?_
 repeat' (first|refine Zj (ZI (k:=3) rfl 1 (by decide)) ?_|(first|refine st ?_|(apply B<;>intro hb<;>try cases hb)))
 refine Z1d hC (fun (i:Nat)=>i≤64) (fun i=>64-i) 1 (fun i => [(0,.val (.int .u64 (s:Int))),(3,.own 0),(4,.val (.int .i64 (i:Int)))])
  (fun i => [(0,⟨1,nums (intsN (memTo s i))⟩)]) (Nat.zero_le _) 0 (Nat.zero_le _) (fun i=>i) (fun _ _=>rfl) Z14
  ⟨⟨_,rfl,.pure _ trivial⟩,⟨_,rfl,.own 0 (by decide)⟩,⟨_,rfl,.pure _ trivial⟩,trivial⟩ ⟨⟨by decide,_,rfl,.same _ trivial⟩,trivial⟩ ?_
 intro i hi
 have hinc:IntKind.i64.wrap ((i:Int)+1)=((i+1:Nat):Int):=IntWalk.i64_in _ ⟨by omega,by omega⟩
 have hstep:=ZbB s i
 have hlen:=Zd5 s i
 iterate 4 (first|refine st ?_|(apply B<;>intro hb<;>try cases hb))
 refine Zn rfl rfl rfl (fun hb=>?_) (fun hb=>?_)
 · have hil : i < 64 := by have := of_decide_eq_true hb; omega
   clear hb
   (refine go ?_;repeat' (apply B<;>intro hb<;>try cases hb))
   · rw [Z35 s i hil, Z2M s i, Z5m s i] at hb
     rw [if_pos hb] at hstep
     refine ZU (ZQ (k:=0) (m:=nums [(i:Int)]) (fl:=true) rfl rfl rfl (fun c hc=>by obtain⟨y,_,rfl⟩:=List.mem_map.1 hc; rfl) rfl (by
      show ((nums (intsN (memTo s i))).length+(nums [(i:Int)]).length)*8≤_
      simp [nums,intsN]
      omega)) rfl rfl ?_
     (refine go ?_;repeat' (apply B<;>intro hb<;>try cases hb))
     refine⟨i+1,mv 0 1,by omega,by omega,fun i hi=>absurd hi (Nat.not_lt_zero i),ZR rfl,
      ⟨⟨_,rfl,.pure _ trivial⟩,⟨_,rfl,.own 0 (by decide)⟩,⟨_,by show some _=some _; rw [hinc],.pure _ trivial⟩,trivial⟩,
      ⟨⟨by decide,_,rfl,?_⟩,trivial⟩⟩
     show RenB _ _ ⟨1,nums (intsN (memTo s i))++nums [(i:Int)]⟩ ⟨1,nums (intsN (memTo s (i+1)))⟩
     rw [hstep,Z89,Z5D,show intsN [i] = [(i:Int)] from rfl]
     exact .same _ (by rw [← Z5D]; exact Zu _)
   · rw [Z35 s i hil, Z2M s i, Z5m s i] at hb
     rw [if_neg (by rw [hb]; decide),List.append_nil] at hstep
     exact⟨i+1,fun i=>i,by omega,by omega,fun _ _=>rfl,Z14,
      ⟨⟨_,rfl,.pure _ trivial⟩,⟨_,rfl,.own 0 (by decide)⟩,⟨_,by show some _=some _; rw [hinc],.pure _ trivial⟩,trivial⟩,
      ⟨⟨by decide,_,rfl,by rw [hstep]; exact .same _ (Zu _)⟩,trivial⟩⟩
 · have hil : i = 64 := by have := of_decide_eq_false hb; omega
   subst hil
   clear hb
   repeat' (first|refine Zj (Zw (k:=3) rfl rfl (Zu _)) ?_|(first|refine st ?_|(apply B<;>intro hb<;>try cases hb)))
   exact Z5 rfl (Zu _) rfl
theorem ZeE {N:Nat} (hN:N<18446744073709551616):maskTo (topOf (intsN (mem N))) (intsN (mem N))=N:=by
 have h1:∀ r∈intsN (mem N),0≤r∧r≤topOf (intsN (mem N)):=fun r hr=>by
  obtain⟨x,hx,rfl⟩:=List.mem_map.1 hr
  have:=Z5s hx
  exact⟨by omega,(Z87 _ (-1)).2 _ hr (by omega)⟩
 rw [maskTo,Z6w _ 0 h1]
 refine Nat.eq_of_testBit_eq fun i=>?_
 rw [Bool.eq_iff_iff,Z88,← Z38 hN]
 simp only [Nat.zero_testBit,Bool.false_eq_true,false_or]
 constructor
 · rintro ⟨r, hr, h⟩
   obtain⟨x,hx,rfl⟩:=List.mem_map.1 hr
   rw [← h]
   simpa using hx
 · intro h
   exact⟨(i:Int),List.mem_map.2 ⟨i,h,rfl⟩,by simp⟩
theorem Z3v (s:Nat) (hs:s<18446744073709551616):Spec Tryz.prog 11 [.val (.int .u64 (s:Int))] (· = setN s):=by
 refine Z2 ok11 (Nat.le_of_ble_eq_true rfl) fun C hC=>?_
 refine go ?_
 refine Z6 (Z7o s hs) rfl rfl rfl ⟨trivial,trivial⟩ rfl ?_
 refine Z6 (Z9a (intsN (mem s)) false) rfl rfl rfl ⟨Zu _,trivial⟩ rfl ?_
 rw [ZeE hs]
 refine go ?_
 exact Z5 rfl (Z1 _) rfl
def raC (c:Cu):List PV := [.val (.int .u64 (c.1:Int)),.val (.int .u64 (c.2:Int))]
theorem Z4g (c:Cu):pureL (raC c):=⟨trivial,trivial,trivial⟩
theorem Z5E (c:Cu) (hc:Ok64 c):Spec Tryz.prog 56 [.agg (raC c)] (· = cuP c):=by
 refine Z2 ok56 (Nat.le_of_ble_eq_true rfl) fun C hC=>?_
 refine Zt ?_
 refine Zh ?_
 refine Z3 rfl rfl rfl ?_
 refine go ?_
 refine Zr (Z3v c.1 hc.1) rfl rfl rfl ⟨trivial,trivial⟩ ?_
 refine go ?_
 refine Zr (Z3v c.2 hc.2) rfl rfl rfl ⟨trivial,trivial⟩ ?_
 refine go ?_
 exact Z5 (r:=cuP c) rfl (Z2o c) rfl
set_option maxHeartbeats 2000000 in
theorem Z4Q (l:List Cu) (fl:Bool) (hl:∀ c∈l,Ok64 c) (hlen:l.length≤1000000):Spec Tryz.prog 23 [.vec (l.map raC) fl] (· = .vec (l.map cuC) false):=by
 have hnl:(l.map raC).length=l.length:=by simp
 have hrp:∀ m,innLL m (l.map raC):=fun m=>Za (fun _ h=>h.elim) _ (Z9 Z4g l)
 refine Z2 ok23 (Nat.le_of_ble_eq_true rfl) fun C hC=>?_
 repeat' (first|refine Zj (ZI (k:=3) rfl 2 (by decide)) ?_|(first|refine st ?_|(apply B<;>intro hb<;>try cases hb)))
 refine Z1d hC (fun (i:Nat)=>i≤l.length) (fun i=>l.length-i) 1 (fun i => [(3,.own 0),(6,.vec (l.map raC) fl),(7,.val (.int .i64 (l.length:Int))),(8,.val (.int .i64 (i:Int)))])
  (fun i => [(0,⟨2,(l.take i).map cuC⟩)]) (Nat.zero_le _) 0 (Nat.zero_le _) (fun i=>i) (fun _ _=>rfl) Z14
  ⟨⟨_,rfl,.own 0 (by decide)⟩,⟨_,rfl,.pure _ (hrp _)⟩,⟨_,by rw [← hnl]; rfl,.pure _ trivial⟩,⟨_,rfl,.pure _ trivial⟩,trivial⟩ ⟨⟨by decide,_,rfl,.same _ trivial⟩,trivial⟩ ?_
 intro i hi
 have hinc:IntKind.i64.wrap ((i:Int)+1)=((i+1:Nat):Int):=IntWalk.i64_in _ ⟨by omega,by omega⟩
 iterate 2 (first|refine st ?_|(apply B<;>intro hb<;>try cases hb))
 refine Zn rfl rfl rfl (fun hb=>?_) (fun hb=>?_)
 · have hil : i < l.length := by have := of_decide_eq_true hb; omega
   have htake:l.take (i+1)=l.take i ++ [l[i]]:=by rw [List.take_add_one,List.getElem?_eq_getElem hil]; rfl
   clear hb
   refine go ?_
   refine Z0 (Zo (xs:=l) rfl rfl i rfl hil rfl) rfl rfl ?_
   refine go ?_
   refine Z6 (Z5E l[i] (hl _ (List.getElem_mem hil))) rfl rfl rfl ⟨Z4g _,trivial⟩ rfl ?_
   refine go ?_
   refine ZU (ZQ (k:=0) (m := [cuC l[i]]) (fl:=true) rfl rfl rfl (fun c hc=>by rw [List.mem_singleton] at hc; subst hc; rfl) rfl (by
    show (((l.take i).map cuC).length+1)*48≤_
    rw [List.length_map,List.length_take]
    omega)) rfl rfl ?_
   refine go ?_
   refine⟨i+1,mv 0 2,by omega,by omega,fun i hi=>absurd hi (Nat.not_lt_zero i),ZR rfl,
    ⟨⟨_,rfl,.own 0 (by decide)⟩,⟨_,rfl,.pure _ (hrp _)⟩,⟨_,rfl,.pure _ trivial⟩,⟨_,by show some _=some _; rw [hinc],.pure _ trivial⟩,trivial⟩,
    ⟨⟨by decide,_,rfl,?_⟩,trivial⟩⟩
   show RenB _ _ ⟨2,(l.take i).map cuC ++ [cuC l[i]]⟩ ⟨2,(l.take (i+1)).map cuC⟩
   rw [htake,List.map_append]
   exact .same _ (by rw [← List.map_singleton,← List.map_append]; exact Z1c _)
 · have hil : i = l.length := by have := of_decide_eq_false hb; omega
   subst hil
   clear hb
   rw [List.take_length]
   repeat' (first|refine Zj (Zw (k:=3) rfl rfl (Z1c _)) ?_|(first|refine st ?_|(apply B<;>intro hb<;>try cases hb)))
   exact Z5 rfl (Z1c _) rfl
theorem Zd6 (a s:Nat):s &&& a=a↔a ||| s=s:=by
 constructor
 · intro h
   refine Nat.eq_of_testBit_eq fun i=>?_
   have:=congrArg (·.testBit i) h
   simp only [Nat.testBit_and] at this
   rw [Nat.testBit_or]
   cases h1:a.testBit i<;>cases h2:s.testBit i<;>simp_all
 · intro h
   refine Nat.eq_of_testBit_eq fun i=>?_
   have:=congrArg (·.testBit i) h
   simp only [Nat.testBit_or] at this
   rw [Nat.testBit_and]
   cases h1:a.testBit i<;>cases h2:s.testBit i<;>simp_all
theorem Z8a (c:Cu) (s:Nat) (hc:Ok64 c) (hs:s<18446744073709551616):Spec Tryz.prog 53 [.agg (raC c),.val (.int .u64 (s:Int))] (· = .val (.bool (hoC c s))):=by
 refine Z2 ok53 (Nat.le_of_ble_eq_true rfl) fun C hC=>?_
 have h1:=bits_and_u64_nat s c.1 hs hc.1
 have h2:=bits_and_u64_nat s c.2 hs hc.2
 have e1:(((s &&& c.1:Nat):Int) == (c.1:Int))=decide (c.1 ||| s=s):=by
  rw [Bool.eq_iff_iff,beq_iff_eq,decide_eq_true_iff,← Zd6]; omega
 have e2:(((s &&& c.2:Nat):Int) == 0) = !decide (c.2 &&& s≠0):=by
  rw [Nat.and_comm s c.2,Bool.eq_iff_iff,beq_iff_eq]; simp
 refine Zt ?_
 refine Zh ?_
 refine Z3 rfl rfl rfl ?_
 (refine go ?_;repeat' (apply B<;>intro hb<;>try cases hb))
 · rw [h1, e1] at *
   rw [h2,e2] at hb
   exact Z5 rfl trivial (boolE (by unfold hoC; simp_all))
 · rw [h1, e1] at *
   rw [h2,e2] at hb
   exact Z5 rfl trivial (boolE (by unfold hoC; simp_all))
 · rw [h1, e1] at hb
   exact Z5 rfl trivial (boolE (by unfold hoC; simp_all))
theorem Zfe (a b:Nat) (ha:a<256) (hb:b<256):bits .and .u8 (a:Int) (b:Int)=((a &&& b:Nat):Int):=by
 have h1:(BitVec.ofInt 8 (a:Int)).toNat=a:=by rw [BitVec.ofInt_natCast,BitVec.toNat_ofNat]; exact Nat.mod_eq_of_lt (by omega)
 have h2:(BitVec.ofInt 8 (b:Int)).toNat=b:=by rw [BitVec.ofInt_natCast,BitVec.toNat_ofNat]; exact Nat.mod_eq_of_lt (by omega)
 show IntKind.u8.wrap ((BitVec.ofInt 8 (a:Int) &&& BitVec.ofInt 8 (b:Int)).toNat:Int)=_
 rw [BitVec.toNat_and,h1,h2]
 have:a &&& b≤a:=Nat.and_le_left
 exact IntWalk.u8_in _ ⟨by omega,by omega⟩
end Go.Proofs.YtmnbbggaoembeaaGreatDoor
namespace Go.Proofs.YtmnbbggaoembeaaGreatDoor
open Go.RowKit
theorem orSub {a b:Nat}:a ||| b=b↔∀ i,a.testBit i=true→b.testBit i=true:=by
 constructor
 · intro h i hi
   rw [← h,Nat.testBit_or,hi,Bool.true_or]
 · intro h
   refine Nat.eq_of_testBit_eq fun i=>?_
   rw [Nat.testBit_or]
   cases hi:a.testBit i with
   | true=>rw [h i hi]; rfl
   | false=>rw [Bool.false_or]
theorem ZeF {a b:Nat}:a &&& b=0↔∀ i,a.testBit i=true→b.testBit i=false:=by
 constructor
 · intro h i hi
   have h1:=congrArg (·.testBit i) h
   simp only [Nat.testBit_and,hi,Bool.true_and,Nat.zero_testBit] at h1
   exact h1
 · intro h
   refine Nat.eq_of_testBit_eq fun i=>?_
   rw [Nat.testBit_and,Nat.zero_testBit]
   cases hi:a.testBit i with
   | true=>rw [h i hi]; rfl
   | false=>rw [Bool.false_and]
structure RU where
 rev:Bool
 cu:Cu
 tg:Nat
 og:Nat
structure PB where
 n:Nat
 l:List Pr
 st:Nat
 rs:List RU
 nv:List Cu
 gl:List Cu
def mkN (n:Nat):Nat:=2*2 ^ n-2
theorem Z4A (n i:Nat):(mkN n).testBit i=(decide (1≤i)&&decide (i≤n)):=by
 have e:mkN n=2*(2 ^ n-1):=by unfold mkN; have:=Nat.two_pow_pos n; omega
 rw [e]
 cases i with
 | zero=>simp [Nat.testBit_zero,Nat.mul_mod_right]
 | succ i =>
   rw [Nat.testBit_succ,show 2*(2 ^ n-1) / 2=2 ^ n-1 by omega,Nat.testBit_two_pow_sub_one]
   simp
   omega
theorem Z6x {n:Nat} (h:n≤63):mkN n<18446744073709551616:=by
 have:2 ^ n≤2 ^ 63:=Nat.pow_le_pow_right (by decide) h
 unfold mkN
 omega
structure InC (n:Nat) (c:Cu):Prop where
 y:c.1 ||| mkN n=mkN n
 n:c.2 ||| mkN n=mkN n
 e:emC c=false
def InM (m:Nat) (c:Cu):Prop:=c.1 ||| m=m∧c.2 ||| m=m
structure RuOk (n:Nat) (r:RU):Prop where
 cu:InC n r.cu
 m:InM 62 r.cu
 tg:1≤r.tg∧r.tg≤n∧r.tg≤5
 rv:r.rev=true→r.cu=(0,0)
structure PbOk (t:PB):Prop where
 n:1≤t.n∧t.n≤63
 good:GoodL t.l
 lk:∀ p∈t.l,p.1≤t.n∧p.2≤t.n∧p.1≤5∧p.2≤5
 st:t.st ||| mkN t.n=mkN t.n
 rl:t.rs.length≤64
 rs:∀ r∈t.rs,RuOk t.n r
 nl:t.nv.length≤64
 nv:∀ c∈t.nv,InC t.n c∧InM 62 c
 gk:t.gl.length≤64
 gl:∀ c∈t.gl,InC t.n c∧InM 62 c
 sg:soC t.nv (clo t.l t.st)=false
theorem InC.lt {n:Nat} {c:Cu} (h:InC n c) (hn:n≤63):Ok64 c:=by
 have h1:c.1≤mkN n:=by rw [← h.y]; exact Nat.left_le_or
 have h2:c.2≤mkN n:=by rw [← h.n]; exact Nat.left_le_or
 have:=Z6x hn
 exact⟨by omega,by omega⟩
noncomputable def sen (l:List Pr) (r:Nat):Nat:=abv l r ||| 2 ^ r
theorem Z4B {l:List Pr} (hl:Small l) (r a:Nat):(sen l r).testBit a=true↔Up l a r ∨ a=r:=by
 unfold sen
 rw [Nat.testBit_or,Bool.or_eq_true,Z5t hl,Nat.testBit_two_pow,decide_eq_true_eq,eq_comm (a:=r)]
theorem Zff (l:List Pr) (hl:Small l) {r:Nat} (hr:r<64):sen l r<18446744073709551616:=by
 refine Nat.lt_pow_two_of_testBit (n:=64) _ fun i hi=>?_
 refine Bool.eq_false_iff.2 fun hb=>?_
 rcases (Z4B hl r i).1 hb with h1|h1
 · have:=(h1.lt hl).1; omega
 · omega
theorem ZfJ {l:List Pr} (hl:Small l) {s:Nat} (hs:s<18446744073709551616) (r:Nat):(clo l s).testBit r=true↔∃ a,s.testBit a=true∧1≤a∧(sen l r).testBit a=true:=by
 rw [ZfH s r hs]
 constructor
 · rintro ⟨a, h1, h2, h3⟩
   exact⟨a,h1,h2,(Z4B hl r a).2 ((Z7i hl a r).1 h3 |>.imp (fun h=>h) fun h=>h.symm)⟩
 · rintro ⟨a, h1, h2, h3⟩
   exact⟨a,h1,h2,(Z7i hl a r).2 ((Z4B hl r a).1 h3 |>.imp (fun h=>h) fun h=>h.symm)⟩
theorem InM.lt {m:Nat} {c:Cu} (h:InM m c) (hm:m<18446744073709551616):Ok64 c :=
 ⟨Nat.lt_of_le_of_lt (by rw [← h.1]; exact Nat.left_le_or) hm,Nat.lt_of_le_of_lt (by rw [← h.2]; exact Nat.left_le_or) hm⟩
noncomputable def goodB (t:PB) (s:Nat):Bool := !soC t.nv (clo t.l s)
noncomputable def reachB (t:PB) (s:Nat):Bool:=soC t.gl (clo t.l s)
def nextR (r:RU) (s:Nat):Nat:=if r.rev then minusN s (2 ^ r.tg) else s ||| 2 ^ r.tg
noncomputable def stepR (t:PB) (r:RU) (s:Nat):Bool:=decide (nextR r s≠s)&&(goodB t (nextR r s)&&(r.rev||hoC r.cu (clo t.l s)))
theorem Z8b {r:RU} (hr:r.tg<64) {s:Nat} (hs:s<18446744073709551616) (i:Nat):(nextR r s).testBit i=if i=r.tg then !r.rev else s.testBit i:=by
 unfold nextR
 cases hv:r.rev with
 | true =>
   rw [if_pos rfl,ZK hs (ZL hr),Nat.testBit_two_pow]
   by_cases hi:i=r.tg
   · subst hi; simp
   · rw [if_neg hi,decide_eq_false (fun h=>hi h.symm)]; simp
 | false =>
   rw [if_neg (by decide),Nat.testBit_or,Nat.testBit_two_pow]
   by_cases hi:i=r.tg
   · subst hi; simp
   · rw [if_neg hi,decide_eq_false (fun h=>hi h.symm),Bool.or_false]
theorem ZeG {r:RU} (hr:r.tg<64) {s:Nat} (hs:s<18446744073709551616):nextR r s≠s↔s.testBit r.tg=r.rev:=by
 constructor
 · intro h
   apply Classical.byContradiction
   intro he
   refine h (Nat.eq_of_testBit_eq fun i=>?_)
   rw [Z8b hr hs]
   by_cases hi:i=r.tg
   · subst hi; rw [if_pos rfl]
     revert he
     cases s.testBit r.tg<;>cases r.rev<;>decide
   · rw [if_neg hi]
 · intro h he
   have:=Z8b hr hs r.tg
   rw [he,if_pos rfl,h] at this
   revert this
   cases r.rev<;>decide
end Go.Proofs.YtmnbbggaoembeaaGreatDoor
namespace Go.Proofs.YtmnbbggaoembeaaGreatDoor
open Go.RowKit
attribute [local irreducible] aw opsK dK
theorem ZB (l:List Nat) (hl:Bytes l) (fl:Bool) (t:Nat) (ht:t≤1099511627776):PSpec Tryz.prog 50 (srcB l fl t) [] fun r b'=>∃ v:Nat,v≤255∧r=.val (.int .i64 (v:Int))∧b'=srcB l fl (t+1):=by
 refine Z1t ok50 (Nat.le_of_ble_eq_true rfl) fun C hC=>?_
 have hll:(bys l).length=l.length:=by simp [bys]
 have hinc:IntKind.i64.wrap ((t:Int)+1)=((t+1:Nat):Int):=IntWalk.i64_in _ ⟨by omega,by omega⟩
 have hdec:IntKind.i64.wrap (((t+1:Nat):Int)-1)=(t:Int):=by rw [show ((t+1:Nat):Int)-1=(t:Int) by omega]; exact Z73 _ (by omega)
 iterate 10 (first|refine st ?_|(apply B<;>intro hb<;>try cases hb))
 refine Z8 rfl rfl rfl hinc ?_
 (refine go ?_;repeat' (apply B<;>intro hb<;>try cases hb))
 · refine Zgn rfl trivial rfl (Zs l fl (t+1)) ⟨0,by omega,rfl,rfl⟩
 · have htl : t < l.length := by simp [hll] at hb; omega
   rw [hdec]
   refine Zd (Zo (xs:=l) rfl rfl t rfl htl rfl) rfl rfl ?_
   refine go ?_
   have hx:=hl l[t] (List.getElem_mem _)
   refine Zgn rfl trivial rfl (Zs l fl (t+1)) ⟨l[t],hx,?_,rfl⟩
   rw [Z73 _ (by omega)]
theorem Zd7 (a b:Nat) (ha:a<256) (hb:b<256):bits .andNot .u8 (a:Int) (b:Int)=((minusN a b:Nat):Int):=by
 have hx:minusN a b≤a:=Nat.and_le_left
 have h1:(BitVec.ofInt 8 (a:Int)).toNat=a:=by
  rw [BitVec.ofInt_natCast,BitVec.toNat_ofNat]; exact Nat.mod_eq_of_lt (by omega)
 have h2:(~~~(BitVec.ofInt 8 (b:Int))).toNat=255-b:=by
  rw [BitVec.toNat_not,BitVec.ofInt_natCast,BitVec.toNat_ofNat,Nat.mod_eq_of_lt (by omega)]
 have h3:a &&& (255-b)=minusN a b:=by
  refine Nat.eq_of_testBit_eq fun i=>?_
  rw [ZK (by omega) (by omega),Nat.testBit_and]
  have h:=Nat.testBit_two_pow_sub_succ (n:=8) (show b<2 ^ 8 by omega) i
  rw [show (2:Nat) ^ 8-(b+1)=255-b by omega] at h
  rw [h]
  by_cases hi:i<8
  · simp [hi]
  · have : a.testBit i = false := Nat.testBit_lt_two_pow (Nat.lt_of_lt_of_le (show a < 2 ^ 8 by omega) (Nat.pow_le_pow_right (by decide) (by omega)))
    simp [this]
 show IntKind.u8.wrap ((BitVec.ofInt 8 (a:Int) &&& ~~~(BitVec.ofInt 8 (b:Int))).toNat:Int)=_
 rw [BitVec.toNat_and,h1,h2,h3]
 exact IntWalk.u8_in _ ⟨by omega,by omega⟩
theorem Zd8 (a m:Nat):a &&& m ||| m=m:=orSub.2 fun i hi=>by
 rw [Nat.testBit_and,Bool.and_eq_true] at hi
 exact hi.2
theorem ZfK (X Y:Int) (m:Nat) (hm:m<256):∃ c:Cu,InM m c∧emC c=false∧([.val (.int .u64 (IntKind.u64.wrap (bits .and .u8 X (m:Int)))),.val (.int .u64 (IntKind.u64.wrap (bits .andNot .u8 (bits .and .u8 Y (m:Int)) (bits .and .u8 X (m:Int)))))]:List PV)=raC c:=by
 have hA:∀ X:Int,∃ a:Nat,a<256∧bits .and .u8 X (m:Int)=((a &&& m:Nat):Int):=fun X=>by
  refine⟨(BitVec.ofInt 8 X).toNat,(BitVec.ofInt 8 X).isLt,?_⟩
  rw [← Zfe _ _ (BitVec.ofInt 8 X).isLt hm]
  show IntKind.u8.wrap ((BitVec.ofInt 8 X &&& BitVec.ofInt 8 (m:Int)).toNat:Int)=IntKind.u8.wrap ((BitVec.ofInt 8 ((BitVec.ofInt 8 X).toNat:Int) &&& BitVec.ofInt 8 (m:Int)).toNat:Int)
  rw [show BitVec.ofInt 8 ((BitVec.ofInt 8 X).toNat:Int)=BitVec.ofInt 8 X by rw [BitVec.ofInt_natCast,BitVec.ofNat_toNat,BitVec.setWidth_eq]]
 obtain⟨a,ha,ea⟩:=hA X
 obtain⟨b,hb,eb⟩:=hA Y
 have h1:a &&& m<256:=Nat.lt_of_le_of_lt Nat.and_le_left ha
 have h2:b &&& m<256:=Nat.lt_of_le_of_lt Nat.and_le_left hb
 have h3:minusN (b &&& m) (a &&& m)≤b &&& m:=Nat.and_le_left
 rw [ea,eb,Zd7 _ _ h2 h1,IntWalk.u64_in _ ⟨by omega,by omega⟩,IntWalk.u64_in _ ⟨by omega,by omega⟩]
 refine⟨(a &&& m,minusN (b &&& m) (a &&& m)),⟨Zd8 a m,orSub.2 fun i hi=>?_⟩,?_,rfl⟩
 · show m.testBit i = true
   have hi:(minusN (b &&& m) (a &&& m)).testBit i=true:=hi
   rw [ZK (by omega) (by omega),Bool.and_eq_true,Nat.testBit_and,Bool.and_eq_true] at hi
   exact hi.1.2
 · unfold emC
   refine decide_eq_false fun hn=>hn (ZeF.2 fun i hi=>?_)
   show (minusN (b &&& m) (a &&& m)).testBit i=false
   rw [ZK (by omega) (by omega),show (a &&& m).testBit i=true from hi]
   simp
set_option maxHeartbeats 1000000 in
theorem Z4C (x y:Int) (m:Nat) (hm:m<256):Spec Tryz.prog 52 [.val (.int .i64 x),.val (.int .i64 y),.val (.int .u8 (m:Int))] fun r=>∃ c:Cu,InM m c∧emC c=false∧r=.agg (raC c):=by
 refine Z2 ok52 (Nat.le_of_ble_eq_true rfl) fun C hC=>?_
 refine go ?_
 obtain⟨c,h1,h2,h3⟩:=ZfK (bits .and .u8 (IntKind.u8.wrap x) (IntKind.u8.wrap (bits .or .i64 (x.fdiv (2 ^ (min (1:Int).toNat IntKind.i64.bits))) (IntKind.i64.wrap (x*2 ^ (min (3:Int).toNat IntKind.i64.bits)))))) (bits .and .u8 (IntKind.u8.wrap y) (IntKind.u8.wrap (bits .or .i64 (y.fdiv (2 ^ (min (2:Int).toNat IntKind.i64.bits))) (IntKind.i64.wrap (y*2 ^ (min (1:Int).toNat IntKind.i64.bits)))))) m hm
 refine Z5 rfl ⟨trivial,trivial,trivial⟩ ⟨c,h1,h2,?_⟩
 exact congrArg PV.agg h3
noncomputable def hierP (l:List Pr) (S:List Nat):PV:=.cp [.cp (ordC l S)]
theorem Zq (l:List Pr) (S:List Nat):(hierP l S).pure:=⟨Z11 l S,trivial⟩
theorem Z4R:Spec Tryz.prog 18 [] fun r=>∃ S,r=hierP [] S:=by
 refine Z2 ok18 (Nat.le_of_ble_eq_true rfl) fun C hC=>?_
 refine go ?_
 refine ZY rfl rfl (Z86 [] true (fun p hp=>by cases hp) List.nodup_nil ⟨fun _=>0,fun p hp=>by cases hp⟩ (by decide)) ⟨trivial,trivial,trivial⟩ rfl ?_
 rintro r ⟨l',o,h1,h2,⟨S',rfl⟩,rfl⟩
 obtain rfl:=List.Perm.eq_nil h1
 refine gd 9 ⟨?_⟩
 refine Z3 rfl rfl rfl ?_
 refine go ?_
 exact Z5 rfl (Zq [] S') ⟨S',rfl⟩
theorem Z6y (a:Int):Spec Tryz.prog 113 [.val (.int .i64 a)] (· = .val (.bool (decide (1≤a)&&decide (a≤63)))):=by
 refine Z2 ok113 (Nat.le_of_ble_eq_true rfl) fun C hC=>?_
 (refine go ?_;repeat' (apply B<;>intro hb<;>try cases hb))
 all_goals exact Z5 rfl trivial (by simp_all<;>omega)
theorem Z5F (a:Nat) (h1:1≤a) (h2:a<64):Spec Tryz.prog 113 [.val (.int .i64 (a:Int))] (· = .val (.bool true)):=by
 have:=Z6y (a:Int)
 rwa [decide_eq_true (show (1:Int)≤a by omega),decide_eq_true (show (a:Int)≤63 by omega)] at this
set_option maxHeartbeats 1000000 in
theorem Zd9 (l:List Pr) (S:List Nat) (a b:Nat) (ha:1≤a∧a<64) (hb:1≤b∧b<64) (hab:a≠b) (hl:Small l) (hn:l.Nodup) (hno:(a,b) ∉ l) (hacy:Acy (l ++ [(a,b)])) (hlen:l.length≤100000):Spec Tryz.prog 55 [hierP l S,.val (.int .i64 (a:Int)),.val (.int .i64 (b:Int))] fun r=>∃ l' S',l'.Perm (l ++ [(a,b)])∧SortedP l'∧r=.tup [hierP l' S',.val (.int .i64 0)]:=by
 have hne:((a:Int) == (b:Int))=false:=by rw [beq_eq_false_iff_ne]; omega
 refine Z2 ok55 (Nat.le_of_ble_eq_true rfl) fun C hC=>?_
 refine go ?_
 refine Z6 (Z5F a ha.1 ha.2) rfl rfl rfl ⟨trivial,trivial⟩ rfl ?_
 refine go ?_
 refine Z6 (Z5F b hb.1 hb.2) rfl rfl rfl ⟨trivial,trivial⟩ rfl ?_
 refine gd 25 ⟨?_⟩
 refine Zi rfl ?_
 refine Z0 (Z4 rfl hne) rfl rfl ?_
 refine go ?_
 refine ZY rfl rfl (Zbu l S a b ha.2 hb.2 hl hn hno hacy hlen) ⟨Z11 l S,trivial,trivial,trivial⟩ rfl ?_
 rintro r ⟨l',o,h1,h2,⟨S',rfl⟩,rfl⟩
 refine gd 42 ⟨?_⟩
 refine Z3 rfl rfl rfl ?_
 refine go ?_
 exact Z5 rfl ⟨Zq l' S',trivial,trivial⟩ ⟨l',S',h1,h2,rfl⟩
theorem Z8c (l:List Pr) (S:List Nat) (r:Int):Spec Tryz.prog 86 [hierP l S,.val (.int .i64 r)] (· = setN (if 1≤r∧r≤63 then jun l r.toNat else 0)):=by
 refine Z2 ok86 (Nat.le_of_ble_eq_true rfl) fun C hC=>?_
 refine go ?_
 refine Z6 (Z6y r) rfl rfl rfl ⟨trivial,trivial⟩ rfl ?_
 by_cases h:1≤r∧r≤63
 · rw [if_pos h, decide_eq_true h.1, decide_eq_true h.2]
   obtain⟨k,rfl⟩:∃ k:Nat,r=(k:Int):=⟨r.toNat,by omega⟩
   have hk:k<64:=by omega
   have h1:=Z9w l S (k:Int)
   rw [if_pos ⟨by omega,by omega⟩] at h1
   have h2:=Z36 (bel l k) (Nat.le_trans (Z2E (ZcN l k)) (by decide)) (k:Int)
   rw [withN,if_pos ⟨by omega,by omega⟩] at h2
   refine go ?_
   refine Z6 h1 rfl rfl rfl ⟨Z11 l S,trivial,trivial⟩ rfl ?_
   refine go ?_
   refine Z6 h2 rfl rfl rfl ⟨Z1 _,trivial,trivial⟩ rfl ?_
   refine go ?_
   exact Z5 rfl (Z1 _) rfl
 · rw [if_neg h]
   have h2:(decide (1≤r)&&decide (r≤63))=false:=by
    rw [Bool.and_eq_false_iff]
    by_cases h1:1≤r
    · exact .inr (decide_eq_false fun h3=>h ⟨h1,h3⟩)
    · exact .inl (decide_eq_false h1)
   rw [h2]
   refine go ?_
   refine ZV rfl (Z1 0 |> fun h=>by rw [Z1Y] at h; exact h) ?_
   rw [Z1Y]; rfl
noncomputable def cloL (l:List Pr) (rs:List Nat):Nat:=rs.foldl (fun o r=>if 1≤r then o ||| jun l r else o) 0
theorem Zda (l:List Pr) (rs:List Nat) (r:Nat):cloL l (rs ++ [r])=if 1≤r then cloL l rs ||| jun l r else cloL l rs:=by simp [cloL,List.foldl_append]
set_option maxHeartbeats 2000000 in
theorem Z12 (l:List Pr) (S:List Nat) (s:Nat) (hs:s<18446744073709551616):Spec Tryz.prog 37 [hierP l S,setN s] (· = setN (clo l s)):=by
 refine Z2 ok37 (Nat.le_of_ble_eq_true rfl) fun C hC=>?_
 refine Zt ?_
 refine Zh ?_
 refine Z3 rfl rfl rfl ?_
 refine Z3 rfl rfl rfl ?_
 refine go ?_
 refine Z6 (Z4x s) rfl rfl rfl ⟨Z1 _,trivial⟩ rfl ?_
 refine go ?_
 have hhp:=Zq l S
 refine Z75 (X:=List Nat) hC (caps := [.cp [.vec (words (digs s)) false]]) [(2,.cp [hierP l S]),(4,.ptr 0 0 0),(5,.ptr 1 0 0),(8,.fn 128 [.cp [.vec (words (digs s)) false]])]
  (fun z => [(0,⟨1,[[.vec [] true]]⟩),(1,⟨1,[[.vec (words (digs (cloL l z))) false]]⟩)]) rfl ⟨⟨Ze _,trivial⟩,trivial⟩ (Z77 s hs) (fun _=>rfl)
  (fun ex pre z=>ex=.normal∧z=pre.map (·.val)) 2 (by decide) [] ⟨rfl,rfl⟩
  (Z3l (EnvQ.mem (ρ := fun i => i) (m := 2) (L := [(2, .cp [hierP l S]), (4, .ptr 0 0 0), (5, .ptr 1 0 0), (8, .fn 128 [.cp [.vec (words (digs s)) false]])]) ⟨⟨_, rfl, .pure _ ⟨hhp, trivial⟩⟩, ⟨_, rfl, .ptr (ρ := fun i => i) 0 0 0 (by decide)⟩, ⟨_, rfl, .ptr (ρ := fun i => i) 1 0 0 (by decide)⟩, ⟨_, rfl, .pure _ ⟨⟨Ze _, trivial⟩, trivial⟩⟩, trivial⟩)
    (HeapQ.mem (ρ:=fun i=>i) (m:=2) (L := [(0,⟨1,[[.vec [] true]]⟩),(1,⟨1,[[.vec (words (digs (cloL l []))) false]]⟩)]) ⟨⟨by decide,_,rfl,.same _ ⟨⟨trivial,trivial⟩,trivial⟩⟩,⟨by decide,⟨1,[[.vec [] true]]⟩,rfl,by rw [show cloL l []=0 from rfl,ZG]; exact RenB.single (ρ:=fun i=>i) (l0 := [.vec [] true]) (l := [.vec [] false]) (show RenLs _ _ [_] [_] from ⟨.low (.vec [] true) trivial,trivial⟩) rfl⟩,trivial⟩) hC (by decide))
  (fun z q hq=>by simp at hq; rcases hq with rfl|rfl<;>exact Nat.zero_lt_succ _) _ (fun x=>rfl) ?_ ?_ ?_
 · rintro C2 hC2 pre x z ⟨-, rfl⟩ hlen
   have hx64:=Z5s x.2
   have hj:=Z8c l S (x.val:Int)
   have hcz:cloL l (pre.map (·.val))<18446744073709551616:=by
    unfold cloL
    exact Z9u l _ 0 (fun r hr=>by obtain⟨y,_,rfl⟩:=List.mem_map.1 hr; exact Z5s y.2) (by decide)
   have hstep:=Zda l (pre.map (·.val)) x.val
   have hnew:cloL l (pre.map (·.val)) ||| (if 1≤(x.val:Int)∧(x.val:Int)≤63 then jun l (x.val:Int).toNat else 0)=cloL l (pre.map (·.val) ++ [x.val]):=by
    rw [hstep]
    by_cases h1:1≤x.val
    · rw [if_pos h1,if_pos ⟨by omega,by omega⟩]; rfl
    · rw [if_neg h1,if_neg (by omega),Nat.or_zero]
   have hj64:(if 1≤(x.val:Int)∧(x.val:Int)≤63 then jun l (x.val:Int).toNat else 0)<18446744073709551616:=by
    split
    · exact Zaw l hx64
    · decide
   refine go ?_
   refine Zr hj rfl rfl rfl ⟨hhp,trivial,trivial⟩ ?_
   refine Zr (Z1Q _ _ hcz hj64) rfl rfl rfl ⟨Z1 _,Z1 _,trivial⟩ ?_
   rw [hnew]
   refine go ?_
   exact⟨.inl rfl,pre.map (·.val) ++ [x.val],fun i=>i,⟨rfl,by rw [List.map_append]; rfl⟩,fun i hi=>rfl,Z14,
    ⟨⟨_,rfl,.pure _ ⟨hhp,trivial⟩⟩,⟨_,rfl,.ptr (ρ:=fun i=>i) 0 0 0 (by decide)⟩,⟨_,rfl,.ptr (ρ:=fun i=>i) 1 0 0 (by decide)⟩,⟨_,rfl,.pure _ ⟨⟨Ze _,trivial⟩,trivial⟩⟩,trivial⟩,
    ⟨⟨by decide,_,rfl,.same _ ⟨⟨trivial,trivial⟩,trivial⟩⟩,⟨by decide,_,rfl,.same _ ⟨⟨Ze _,trivial⟩,trivial⟩⟩,trivial⟩⟩
 · rintro xs z hxs ⟨-, rfl⟩
   rw [hxs]
   refine go ?_
   exact Z5 rfl (Z1 _) (by rw [Z9t]; rfl)
 · rintro ex pre z - ⟨rfl,_⟩ (h|⟨id,h⟩)<;>cases h
theorem Z6z (l:List Pr) (S:List Nat) (hlen:l.length≤1000000):Spec Tryz.prog 119 [hierP l S] (· = .vec (l.map prC) false):=by
 refine Z2 ok119 (Nat.le_of_ble_eq_true rfl) fun C hC=>?_
 refine go ?_
 refine Z6 (Z9v l S hlen) rfl rfl rfl ⟨Z11 l S,trivial⟩ rfl ?_
 refine go ?_
 exact Z5 rfl (Zg l) rfl
def ruR (r:RU):List PV := [.val (.bool r.rev),.val (.int .u64 (r.cu.1:Int)),.val (.int .u64 (r.cu.2:Int)),.val (.int .i64 (r.tg:Int)),.val (.int .i64 (r.og:Int))]
def ruP (r:RU):List PV := [.val (.bool r.rev),.vec (words (digs r.cu.1)) false,.vec (words (digs r.cu.2)) false,.val (.int .i64 (r.tg:Int)),.val (.int .i64 (r.og:Int))]
theorem ZeH (r:RU):pureL (ruR r):=⟨trivial,trivial,trivial,trivial,trivial,trivial⟩
theorem Z7p (r:RU):pureL (ruP r):=⟨trivial,Ze _,Ze _,trivial,trivial,trivial⟩
theorem Z1g (l:List RU):pureLL (l.map ruR):=Z9 ZeH l
theorem Z1q (l:List RU):pureLL (l.map ruP):=Z9 Z7p l
theorem Z1h (l:List Cu):pureLL (l.map raC):=Z9 Z4g l
theorem ZC (l:List Cu):pureLL (l.map cuC):=Z9 Zk l
def pbR (t:PB):List PV := [.val (.int .i64 (t.n:Int)),.vec (t.l.map prC) false,.val (.int .u64 (t.st:Int)),.vec (t.rs.map ruR) false,.vec (t.nv.map raC) false,.vec (t.gl.map raC) false]
noncomputable def pbP (t:PB) (S:List Nat):List PV := [.val (.int .i64 (t.n:Int)),hierP t.l S,.vec (words (digs t.st)) false,.vec (t.rs.map ruP) false,.vec (t.nv.map cuC) false,.vec (t.gl.map cuC) false]
theorem Z7q (t:PB):pureL (pbR t):=⟨trivial,Zg _,trivial,Z1g _,Z1h _,Z1h _,trivial⟩
theorem Zx (t:PB) (S:List Nat):pureL (pbP t S):=⟨trivial,Zq _ _,Ze _,Z1q _,ZC _,ZC _,trivial⟩
theorem PbOk.nv64 {t:PB} (h:PbOk t):∀ c∈t.nv,Ok64 c:=fun c hc=>(h.nv c hc).1.lt h.n.2
theorem PbOk.gl64 {t:PB} (h:PbOk t):∀ c∈t.gl,Ok64 c:=fun c hc=>(h.gl c hc).1.lt h.n.2
set_option maxHeartbeats 1000000 in
theorem ZbC {t:PB} (h:PbOk t) (S:List Nat) (s:Nat) (hs:s<18446744073709551616):Spec Tryz.prog 38 [.agg (pbP t S),setN s] (· = .val (.bool (goodB t s))):=by
 have hc:=Z12 t.l S s hs
 have hso:=Z3t t.nv false (clo t.l s) h.nv64 (Z4P _ _)
 have e:goodB t s = !soC t.nv (clo t.l s):=rfl
 rw [e]
 refine Z2 ok38 (Nat.le_of_ble_eq_true rfl) fun C hC=>?_
 refine Zt ?_
 refine Zh ?_
 refine Z3 rfl rfl rfl ?_
 refine Z3 rfl rfl rfl ?_
 refine gd 14 ⟨?_⟩
 refine Z26 rfl ?_
 refine Zr hc rfl rfl rfl ⟨Zq _ _,Z1 _,trivial⟩ ?_
 refine gd 15 ⟨?_⟩
 refine Z26 rfl ?_
 refine Zr hso rfl rfl rfl ⟨ZC _,Z1 _,trivial⟩ ?_
 generalize soC t.nv (clo t.l s)=b
 cases b
 all_goals
  refine go ?_
  exact Z5 rfl trivial rfl
theorem Z5G (N:Nat) (hN:N<18446744073709551616) (i:Nat):Spec Tryz.prog 35 [setN N,.val (.int .i64 (i:Int))] (· = .val (.bool (N.testBit i))):=by
 have:=Z43 N hN (i:Int)
 rwa [decide_eq_true (show (0:Int)≤(i:Int) by omega),Bool.true_and,Int.toNat_natCast] at this
theorem Z8d (l:List Pr) (S:List Nat) (k:Nat) (h1:1≤k) (hk:k<64):Spec Tryz.prog 139 [hierP l S,.val (.int .i64 (k:Int))] (· = setN (sen l k)):=by
 have h2:=Z9x l S (k:Int)
 rw [if_pos ⟨by omega,by omega⟩] at h2
 have h3:=Z36 (abv l k) (Nat.le_trans (Z2E (Z5u l k)) (by decide)) (k:Int)
 rw [withN,if_pos ⟨by omega,by omega⟩] at h3
 refine Z2 ok139 (Nat.le_of_ble_eq_true rfl) fun C hC=>?_
 refine go ?_
 refine Z6 (Z5F k h1 hk) rfl rfl rfl ⟨trivial,trivial⟩ rfl ?_
 refine go ?_
 refine Z6 h2 rfl rfl rfl ⟨Z11 l S,trivial,trivial⟩ rfl ?_
 refine go ?_
 refine Z6 h3 rfl rfl rfl ⟨Z1 _,trivial,trivial⟩ rfl ?_
 refine go ?_
 exact Z5 rfl (Z1 _) rfl
set_option maxHeartbeats 2000000 in
theorem Z3w (k:Nat) (h1:1≤k) (h2:k≤64):Spec Tryz.prog 73 [.val (.int .i64 (k:Int))] (· = setN (2 ^ k-1)):=by
 refine Z2 ok73 (Nat.le_of_ble_eq_true rfl) fun C hC=>?_
 have hq:IntKind.i64.wrap (((k+63:Nat):Int).tdiv 64)=((1:Nat):Int):=by
  rw [IntWalk.i64_quo _ _ ⟨by omega,by omega,by omega⟩]; omega
 refine gd 6 ⟨?_⟩
 refine Z8 rfl rfl rfl (v:=(k:Int)) (by split<;>omega) ?_
 refine Z8 rfl rfl rfl (v:=(k:Int)) (by split<;>omega) ?_
 refine gd 9 ⟨?_⟩
 refine Z8 rfl rfl rfl (show IntKind.i64.wrap ((k:Int)+63)=((k+63:Nat):Int) from IntWalk.i64_in _ ⟨by omega,by omega⟩) ?_
 refine gd 10 ⟨?_⟩
 refine Z8 rfl rfl rfl hq ?_
 refine go ?_
 refine Z1V 1 ?_
 refine gd 22 ⟨?_⟩
 by_cases hk:k=64
 · subst hk
   repeat' (first|refine Zj (Zw (k:=33) rfl rfl (ZW rfl)) ?_|(first|refine st ?_|(apply B<;>intro hb<;>try cases hb)))
   exact Z5 rfl (Z2N rfl) (by rw [Z2P (by decide) (by decide)]; rfl)
 · have hr : (k : Int).tmod 64 = ((k : Nat) : Int) := by rw [Int.tmod_eq_emod_of_nonneg (by omega)]; omega
   refine Z8 rfl rfl rfl hr ?_
   refine Z0 (Z4 (v:=true) rfl (by simp;omega)) rfl rfl ?_
   refine gd 29 ⟨?_⟩
   refine Z8 rfl rfl rfl hr ?_
   refine Z0 (Zcs rfl rfl (by omega) (v:=((2 ^ k:Nat):Int)) (by
    rw [show min ((k:Int)).toNat IntKind.u64.bits=k by simp [IntKind.bits]; omega]
    have hp:=ZL (show k<64 by omega)
    rw [Int.one_mul,show (2:Int) ^ k=((2 ^ k:Nat):Int) by simp]
    exact IntWalk.u64_in _ ⟨Int.natCast_nonneg _,Int.ofNat_le.2 (show _≤18446744073709551615 by omega)⟩)) rfl rfl ?_
   refine Z8 rfl rfl rfl (v:=((2 ^ k-1:Nat):Int)) (by
    have hp:=ZL (show k<64 by omega)
    have:=Nat.two_pow_pos k
    rw [show ((2 ^ k:Nat):Int)-1=((2 ^ k-1:Nat):Int) by omega]
    exact IntWalk.u64_in _ ⟨Int.natCast_nonneg _,Int.ofNat_le.2 (show _≤18446744073709551615 by omega)⟩) ?_
   have hp:=ZL (show k<64 by omega)
   have hp2:2≤2 ^ k:=Nat.pow_le_pow_right (n:=2) (by decide) h1
   repeat' (first|refine Zj (Zw (k:=33) rfl rfl (ZW rfl)) ?_|(first|refine st ?_|(apply B<;>intro hb<;>try cases hb)))
   exact Z5 rfl (Z2N rfl) (by rw [Z2P (by omega) (by omega)]; rfl)
theorem ZeI {N M:Nat} (hN:N<18446744073709551616):N &&& M<18446744073709551616:=Nat.lt_of_le_of_lt Nat.and_le_left hN
theorem ZeJ (a b:Nat) (ha:a<18446744073709551616) (hb:b<18446744073709551616):bits .and .u64 (a:Int) (b:Int)=((a &&& b:Nat):Int):=by
 have h1:(BitVec.ofInt 64 (a:Int)).toNat=a:=by rw [BitVec.ofInt_natCast,BitVec.toNat_ofNat]; exact Nat.mod_eq_of_lt (by omega)
 have h2:(BitVec.ofInt 64 (b:Int)).toNat=b:=by rw [BitVec.ofInt_natCast,BitVec.toNat_ofNat]; exact Nat.mod_eq_of_lt (by omega)
 show IntKind.u64.wrap ((BitVec.ofInt 64 (a:Int) &&& BitVec.ofInt 64 (b:Int)).toNat:Int)=_
 rw [BitVec.toNat_and,h1,h2]
 have:a &&& b≤a:=Nat.and_le_left
 exact IntWalk.u64_in _ ⟨by omega,by omega⟩
set_option maxHeartbeats 2000000 in
theorem Zdb (N M:Nat) (hN:N<18446744073709551616) (hM:M<18446744073709551616):Spec Tryz.prog 140 [setN N,setN M] (· = setN (N &&& M)):=by
 have hlt:=ZeI (M:=M) hN
 rcases Z17 hN with⟨rfl,e1⟩|⟨h1,e1⟩<;>rcases Z17 hM with⟨rfl,e2⟩|⟨h2,e2⟩<;>rw [e1]<;>(try rw [e2])<;>clear e1 e2
 all_goals
  refine Z2 ok140 (Nat.le_of_ble_eq_true rfl) fun C hC=>?_
  refine Zt ?_
  refine Zh ?_
  refine Z3 rfl rfl rfl ?_
  refine Z3 rfl rfl rfl ?_
  refine go ?_
  refine Z1V 1 ?_
 case inr.inr =>
  refine gd 32 ⟨?_⟩
  refine Zd (ZP rfl (ZeJ N M hN hM)) rfl rfl ?_
  repeat' (first|refine Zj (Zw (k:=35) rfl rfl (ZW rfl)) ?_|(first|refine st ?_|(apply B<;>intro hb<;>try cases hb)))
  refine ZY rfl rfl (Z3Z [N &&& M]) (Z15 rfl) rfl fun r hr=>?_
  have hw:Words [N &&& M]:=fun x hx=>by rw [List.mem_singleton.1 hx]; exact hlt
  have e1:=hr.set hw
  have e2:ofW [N &&& M]=N &&& M:=by simp [ofW]
  rw [e2] at e1
  subst e1
  refine go ?_
  exact Z5 rfl (Z1 _) rfl
 all_goals
  repeat' (first|refine Zj (Zw (k:=35) rfl rfl (ZW rfl)) ?_|(first|refine st ?_|(apply B<;>intro hb<;>try cases hb)))
  refine ZY rfl rfl (Z3Z []) (Z15 rfl) rfl fun r hr=>?_
  have e1:=hr.set (fun x hx=>by cases hx)
  subst e1
  refine go ?_
  exact Z5 rfl (Z1 _) (show setN (ofW [])=_ by simp [ofW])
theorem Z7r (n:Nat) (hn:n≤63):withoutN (2 ^ (n+1)-1) 0=mkN n:=by
 refine Nat.eq_of_testBit_eq fun i=>?_
 have hp:2 ^ (n+1)≤2 ^ 64:=Nat.pow_le_pow_right (by decide) (by omega)
 have:=Z2W (N:=2 ^ (n+1)-1) (by have:=Nat.two_pow_pos (n+1);omega) 0 i
 rw [show ((0:Nat):Int)=0 from rfl] at this
 rw [this,Nat.testBit_two_pow_sub_one,Z4A,Bool.eq_iff_iff]
 simp
 omega
theorem Zfg {e:Env} {h:Heap} {n:Nat} {x y:Operand} {a b:Int} (hx:ev e x=some (.val (.int .i64 a))) (hy:ev e y=some (.val (.int .i64 b))) (hb:b≠0):dEval (.bin .rem .num x y) e h n=some (.val (.int .i64 (a.tmod b)),h):=by
 simp [dEval,hx,hy,pbin,sbin,hb]
theorem Z4h {α:Type} {f:α→List PV} (hf:∀ x,lowL (f x)=f x):∀ l:List α,lowLL (l.map f)=l.map f
 | []=>rfl
 | c :: l => by
   show lowL (f c) :: lowLL (l.map f)=_
   rw [hf,Z4h hf l]; rfl
structure MkOk (t:PB):Prop where
 ok:PbOk t
 n:2≤t.n∧t.n≤5
 rs:t.rs.length≤6
 nv:t.nv.length≤3
 gl:1≤t.gl.length∧t.gl.length≤3
structure LJ (n:Nat) (l:List Pr) (k:Nat):Prop where
 asc:SortedP l
 len:l.length≤k
 mem:∀ p∈l,1≤p.1∧p.1<p.2∧p.2≤n
theorem LJ.nil (n:Nat):LJ n [] 0:=⟨List.Pairwise.nil,Nat.le_refl _,fun _ h=>by cases h⟩
theorem LJ.mono {n:Nat} {l:List Pr} {k k':Nat} (h:LJ n l k) (hk:k≤k'):LJ n l k':=⟨h.asc,Nat.le_trans h.len hk,h.mem⟩
theorem LJ.step {n:Nat} {l:List Pr} {k a b:Nat} (h:LJ n l k) {l':List Pr} (hL:Linked l (a,b) l') (ha:1≤a) (hab:a<b) (hb:b≤n):LJ n l' (k+1) :=
 ⟨hL.sorted h.asc,Nat.le_trans hL.len (Nat.succ_le_succ h.len),fun p hp=>(hL.mem p hp).elim (h.mem p) fun e=>by subst e; exact⟨ha,hab,hb⟩⟩
theorem LJ.good {n:Nat} (hn:n≤5) {l:List Pr} {k:Nat} (h:LJ n l k):GoodL l :=
 ⟨h.asc,fun p hp=>by have:=h.mem p hp; omega,⟨fun i=>i,fun p hp=>(h.mem p hp).2.1⟩⟩
theorem Zgw {n:Nat} (h1:2≤n) (h2:n≤5):IntKind.u8.wrap (2*2 ^ (min ((n:Nat):Int).toNat IntKind.u8.bits))=((2*2 ^ n:Nat):Int)∧IntKind.u8.wrap (((2*2 ^ n:Nat):Int)-2)=((mkN n:Nat):Int)∧mkN n<64∧mkN n ||| 62=62:=by
 have:n=2 ∨ n=3 ∨ n=4 ∨ n=5:=by omega
 rcases this with rfl|rfl|rfl|rfl<;>decide
theorem ZfL (X:Int) (m:Nat) (hm:m<256):∃ s:Nat,s ||| m=m∧bits .and .u8 X (m:Int)=(s:Int):=by
 refine⟨(BitVec.ofInt 8 X).toNat &&& m,Zd8 _ m,?_⟩
 rw [← Zfe _ _ (BitVec.ofInt 8 X).isLt hm]
 show IntKind.u8.wrap ((BitVec.ofInt 8 X &&& BitVec.ofInt 8 (m:Int)).toNat:Int)=IntKind.u8.wrap ((BitVec.ofInt 8 ((BitVec.ofInt 8 X).toNat:Int) &&& BitVec.ofInt 8 (m:Int)).toNat:Int)
 rw [show BitVec.ofInt 8 ((BitVec.ofInt 8 X).toNat:Int)=BitVec.ofInt 8 X by rw [BitVec.ofInt_natCast,BitVec.ofNat_toNat,BitVec.setWidth_eq]]
theorem Z2R (a b:Nat):((a:Nat):Int).tmod ((b:Nat):Int)=((a % b:Nat):Int):=by rw [Int.ofNat_tmod]
theorem InM.inC {n:Nat} {c:Cu} (h:InM (mkN n) c) (he:emC c=false):InC n c:=⟨h.1,h.2,he⟩
theorem Z3x {a b c:Nat} (h1:a ||| b=b) (h2:b ||| c=c):a ||| c=c:=orSub.2 fun i hi=>orSub.1 h2 i (orSub.1 h1 i hi)
theorem RuOk.mk0 {n:Nat} (hn:n≤5) {c:Cu} {rev:Bool} {tg og:Nat} (hc:InM (mkN n) c) (h62:mkN n ||| 62=62) (he:emC c=false) (ht:1≤tg∧tg≤n) (hr:rev=true→c=(0,0)):RuOk n ⟨rev,c,tg,og⟩ :=
 ⟨hc.inC he,⟨Z3x hc.1 h62,Z3x hc.2 h62⟩,⟨ht.1,ht.2,by show tg≤5; omega⟩,hr⟩
set_option maxRecDepth 100000 in
set_option maxHeartbeats 16000000 in
theorem Z9A (p:List Nat) (fl:Bool) (hp:Bytes p):Spec Tryz.prog 20 [.vec (bys p) fl] fun r=>∃ t:PB,MkOk t∧r=.agg (pbR t):=by
 have hpl:∀ (l:List Pr) D,innLL D (l.map prC):=fun l D=>Za (fun _ h=>h.elim) _ (Zg l)
 have hsi:∀ t D,innLL D (srcB p fl t).elems:=fun t D=>ZeD p fl t D
 refine Z2 ok20 (Nat.le_of_ble_eq_true rfl) fun C hC=>?_
 refine gd 30 ⟨?_⟩
 refine Zz (ZB p hp fl 0 (by omega)) rfl rfl rfl rfl (Zs p fl 0) trivial ?_
 rintro r b' - - ⟨v1,hv1,rfl,rfl⟩
 refine Z8 rfl rfl rfl (Z2R v1 4) ?_
 have hn4:=Nat.mod_lt v1 (show 0<4 by decide)
 refine Z8 rfl rfl rfl (show IntKind.i64.wrap (2+((v1 % 4:Nat):Int))=((2+v1 % 4:Nat):Int) from by rw [IntWalk.i64_in _ ⟨by omega,by omega⟩];omega) ?_
 obtain⟨n,hn⟩:∃ n,2+v1 % 4=n:=⟨_,rfl⟩
 rw [hn]
 have hn2:2≤n∧n≤5:=by omega
 obtain⟨hm1,hm2,hm64,hm62⟩:=Zgw hn2.1 hn2.2
 clear hn hn4 hv1
 refine gd 36 ⟨?_⟩
 refine Z8 rfl rfl rfl (show IntKind.u64.wrap ((n:Nat):Int)=((n:Nat):Int) from IntWalk.u64_in _ ⟨by omega,by omega⟩) ?_
 refine Z3m rfl rfl (by omega) hm1 rfl ?_
 refine Z8 rfl rfl rfl hm2 ?_
 refine gd 40 ⟨?_⟩
 refine Zz (ZB p hp fl 1 (by omega)) rfl rfl rfl rfl (Zs p fl 1) trivial ?_
 rintro r b' - - ⟨v2,hv2,rfl,rfl⟩
 refine go ?_
 refine Zl hC (fun (z:Nat×Nat×List Pr×Bool)=>1≤z.1∧z.1≤n∧z.2.1≤10*z.1∧LJ n z.2.2.1 z.2.1) (fun z=>n-z.1) 3 (fun z => [(2,.ptr 0 0 0),(3,.ptr 1 0 0),(4,.ptr 2 0 0),(5,.val (.int .u8 (mkN n:Nat))),(6,.val (.int .i64 (v2:Int))),(7,.val (.int .i64 (z.2.1:Int))),(8,.val (.int .i64 (z.1:Int)))])
  (fun z => [(0,⟨6,[zpv [.int .i64 0,.slice none 0 0,.int .u64 0,.slice none 0 0,.slice none 0 0,.slice none 0 0]]⟩),(1,srcB p fl 2),(2,⟨6,[[.val (.int .i64 (n:Int)),.vec (z.2.2.1.map prC) z.2.2.2,.val (.int .u64 0),.vec [] true,.vec [] true,.vec [] true]]⟩)]) (Nat.zero_le _) (1,0,[],true) ⟨Nat.le_refl _,by show 1≤n; omega,by show 0≤_; omega,LJ.nil n⟩
  ⟨⟨rfl,show (0:Nat)<3 by decide⟩,⟨rfl,show (1:Nat)<3 by decide⟩,⟨rfl,show (2:Nat)<3 by decide⟩,⟨rfl,trivial⟩,⟨rfl,trivial⟩,⟨rfl,trivial⟩,⟨rfl,trivial⟩,trivial⟩
  ⟨⟨by decide,rfl,⟨⟨trivial,trivial,trivial,trivial,trivial,trivial,trivial⟩,trivial⟩⟩,⟨by decide,rfl,hsi 2 _⟩,⟨by decide,rfl,⟨⟨trivial,trivial,trivial,trivial,trivial,trivial,trivial⟩,trivial⟩⟩,trivial⟩ ?_
 rintro⟨a,k,l,fk⟩ ⟨ha1,han,hk,hl⟩
 dsimp only at ha1 han hk hl
 have hainc:IntKind.i64.wrap ((a:Int)+1)=((a+1:Nat):Int):=IntWalk.i64_in _ ⟨by omega,by omega⟩
 refine gd 44 ⟨?_⟩
 refine Zn rfl rfl rfl (fun hb=>?_) (fun hb=>?_)
 · have hal : a < n := by have := of_decide_eq_true hb; omega
   clear hb
   refine go ?_
   refine Zl hC (fun (z:Nat×Nat×List Pr×Bool)=>a+1≤z.1∧z.1≤n+1∧z.2.1≤10*a+z.1∧LJ n z.2.2.1 z.2.1) (fun z=>n+1-z.1) 3 (fun z => [(2,.ptr 0 0 0),(3,.ptr 1 0 0),(4,.ptr 2 0 0),(5,.val (.int .u8 (mkN n:Nat))),(6,.val (.int .i64 (v2:Int))),(7,.val (.int .i64 (z.2.1:Int))),(8,.val (.int .i64 (a:Int))),(9,.val (.int .i64 (z.1:Int)))])
    (fun z => [(0,⟨6,[zpv [.int .i64 0,.slice none 0 0,.int .u64 0,.slice none 0 0,.slice none 0 0,.slice none 0 0]]⟩),(1,srcB p fl 2),(2,⟨6,[[.val (.int .i64 (n:Int)),.vec (z.2.2.1.map prC) z.2.2.2,.val (.int .u64 0),.vec [] true,.vec [] true,.vec [] true]]⟩)]) (Nat.zero_le _) (a+1,k,l,fk) ⟨Nat.le_refl _,by show a+1≤n+1; omega,by show k≤10*a+(a+1); omega,hl⟩
    ⟨⟨rfl,show (0:Nat)<3 by decide⟩,⟨rfl,show (1:Nat)<3 by decide⟩,⟨rfl,show (2:Nat)<3 by decide⟩,⟨rfl,trivial⟩,⟨rfl,trivial⟩,⟨rfl,trivial⟩,⟨rfl,trivial⟩,⟨by show some _=some _; rw [hainc],trivial⟩,trivial⟩
    ⟨⟨by decide,rfl,⟨⟨trivial,trivial,trivial,trivial,trivial,trivial,trivial⟩,trivial⟩⟩,⟨by decide,rfl,hsi 2 _⟩,⟨by decide,rfl,⟨⟨trivial,hpl _ _,trivial,trivial,trivial,trivial,trivial⟩,trivial⟩⟩,trivial⟩ ?_
   clear hk hl
   rintro⟨c,k,l,fk⟩ ⟨hc1,hcn,hk,hl⟩
   dsimp only at hc1 hcn hk hl
   have hcinc:IntKind.i64.wrap ((c:Int)+1)=((c+1:Nat):Int):=IntWalk.i64_in _ ⟨by omega,by omega⟩
   have hkinc:IntKind.i64.wrap ((k:Int)+1)=((k+1:Nat):Int):=IntWalk.i64_in _ ⟨by omega,by omega⟩
   have hend:∀ l' fk',LJ n l' (k+1)→c≤n→(fun (z:Nat×Nat×List Pr×Bool)=>a+1≤z.1∧z.1≤n+1∧z.2.1≤10*a+z.1∧LJ n z.2.2.1 z.2.1) (c+1,k+1,l',fk'):=fun l' fk' h1 h2=>⟨by show a+1≤c+1; omega,by show c+1≤n+1; omega,by show k+1≤10*a+(c+1); omega,h1⟩
   refine gd 52 ⟨?_⟩
   refine Zn rfl rfl rfl (fun hb=>?_) (fun hb=>?_)
   · have hcl : c ≤ n := by have := of_decide_eq_true hb; omega
     clear hb
     refine gd 57 ⟨?_⟩
     refine Z8 rfl rfl rfl (Z2R k 8) ?_
     have hk8:=Nat.mod_lt k (show 0<8 by decide)
     refine Z8 rfl rfl rfl (show IntKind.u64.wrap ((k % 8:Nat):Int)=((k % 8:Nat):Int) from IntWalk.u64_in _ ⟨by omega,by omega⟩) ?_
     refine Z2K rfl rfl (by omega) rfl rfl ?_
     refine gd 61 ⟨?_⟩
     refine Zn rfl rfl rfl (fun hb=>?_) (fun hb=>?_)
     · clear hb
       refine gd 65 ⟨?_⟩
       refine Zi rfl ?_
       refine Zn rfl rfl rfl (fun hb=>?_) (fun hb=>?_)
       · clear hb
         refine gd 72 ⟨?_⟩
         refine ZY rfl rfl (Zbw l fk (hl.good hn2.2).small a c ⟨ha1,by omega⟩ ⟨by omega,by omega⟩ (by omega) (by have:=hl.len;omega)) ⟨Zg l,trivial,trivial,trivial⟩ rfl ?_
         rintro r ⟨l',fl',er,hL,rfl⟩
         refine go ?_
         exact⟨(c+1,k+1,l',fl'),hend l' fl' (hl.step hL ha1 (by omega) hcl) hcl,by show n+1-(c+1)<n+1-c; omega,⟨⟨rfl,show (0:Nat)<3 by decide⟩,⟨rfl,show (1:Nat)<3 by decide⟩,⟨rfl,show (2:Nat)<3 by decide⟩,⟨rfl,trivial⟩,⟨rfl,trivial⟩,⟨by show some _=some _; rw [hkinc],trivial⟩,⟨rfl,trivial⟩,⟨by show some _=some _; rw [hcinc],trivial⟩,trivial⟩,⟨⟨by decide,rfl,⟨⟨trivial,trivial,trivial,trivial,trivial,trivial,trivial⟩,trivial⟩⟩,⟨by decide,rfl,hsi 2 _⟩,⟨by decide,rfl,⟨⟨trivial,hpl _ _,trivial,trivial,trivial,trivial,trivial⟩,trivial⟩⟩,trivial⟩⟩
       · clear hb
         refine go ?_
         exact⟨(c+1,k+1,l,fk),hend l fk (hl.mono (Nat.le_succ k)) hcl,by show n+1-(c+1)<n+1-c; omega,⟨⟨rfl,show (0:Nat)<3 by decide⟩,⟨rfl,show (1:Nat)<3 by decide⟩,⟨rfl,show (2:Nat)<3 by decide⟩,⟨rfl,trivial⟩,⟨rfl,trivial⟩,⟨by show some _=some _; rw [hkinc],trivial⟩,⟨rfl,trivial⟩,⟨by show some _=some _; rw [hcinc],trivial⟩,trivial⟩,⟨⟨by decide,rfl,⟨⟨trivial,trivial,trivial,trivial,trivial,trivial,trivial⟩,trivial⟩⟩,⟨by decide,rfl,hsi 2 _⟩,⟨by decide,rfl,⟨⟨trivial,hpl _ _,trivial,trivial,trivial,trivial,trivial⟩,trivial⟩⟩,trivial⟩⟩
     · clear hb
       refine go ?_
       exact⟨(c+1,k+1,l,fk),hend l fk (hl.mono (Nat.le_succ k)) hcl,by show n+1-(c+1)<n+1-c; omega,⟨⟨rfl,show (0:Nat)<3 by decide⟩,⟨rfl,show (1:Nat)<3 by decide⟩,⟨rfl,show (2:Nat)<3 by decide⟩,⟨rfl,trivial⟩,⟨rfl,trivial⟩,⟨by show some _=some _; rw [hkinc],trivial⟩,⟨rfl,trivial⟩,⟨by show some _=some _; rw [hcinc],trivial⟩,trivial⟩,⟨⟨by decide,rfl,⟨⟨trivial,trivial,trivial,trivial,trivial,trivial,trivial⟩,trivial⟩⟩,⟨by decide,rfl,hsi 2 _⟩,⟨by decide,rfl,⟨⟨trivial,hpl _ _,trivial,trivial,trivial,trivial,trivial⟩,trivial⟩⟩,trivial⟩⟩
   · have hcl : c = n + 1 := by have := of_decide_eq_false hb; omega
     clear hb
     refine go ?_
     exact⟨(a+1,k,l,fk),⟨by show 1≤a+1; omega,by show a+1≤n; omega,by show k≤10*(a+1); omega,hl⟩,by show n-(a+1)<n-a; omega,⟨⟨rfl,show (0:Nat)<3 by decide⟩,⟨rfl,show (1:Nat)<3 by decide⟩,⟨rfl,show (2:Nat)<3 by decide⟩,⟨rfl,trivial⟩,⟨rfl,trivial⟩,⟨rfl,trivial⟩,⟨by show some _=some _; rw [hainc],trivial⟩,trivial⟩,⟨⟨by decide,rfl,⟨⟨trivial,trivial,trivial,trivial,trivial,trivial,trivial⟩,trivial⟩⟩,⟨by decide,rfl,hsi 2 _⟩,⟨by decide,rfl,⟨⟨trivial,hpl _ _,trivial,trivial,trivial,trivial,trivial⟩,trivial⟩⟩,trivial⟩⟩
 · have hal : a = n := by have := of_decide_eq_false hb; omega
   clear hb
   have hgl:=hl.good hn2.2
   have hlm:=hl.mem
   clear hl hk hv2 hainc
   refine gd 79 ⟨?_⟩
   refine Zz (ZB p hp fl 2 (by omega)) rfl rfl rfl rfl (Zs p fl 2) trivial ?_
   rintro r b' - - ⟨v3,hv3,rfl,rfl⟩
   refine gd 82 ⟨?_⟩
   obtain⟨s,hs1,hs2⟩:=ZfL (IntKind.u8.wrap (v3:Int)) (mkN n) (by omega)
   have hs3:s≤mkN n:=by rw [← hs1]; exact Nat.left_le_or
   refine Z8 rfl rfl rfl hs2 ?_
   refine Z8 rfl rfl rfl (show IntKind.u64.wrap ((s:Nat):Int)=((s:Nat):Int) from IntWalk.u64_in _ ⟨by omega,by omega⟩) ?_
   clear hs2 hv3
   refine gd 86 ⟨?_⟩
   refine Zz (ZB p hp fl 3 (by omega)) rfl rfl rfl rfl (Zs p fl 3) trivial ?_
   rintro r b' - - ⟨v4,hv4,rfl,rfl⟩
   refine Z8 rfl rfl rfl (Z2R v4 7) ?_
   have hc6:=Nat.mod_lt v4 (show 0<7 by decide)
   generalize v4 % 7=cnt at hc6 ⊢
   clear hv4
   refine gd 11 ⟨?_⟩
   refine Zj (Z1W (id:=2) (i0:=0) (j0:=3) rfl (Nat.le_of_ble_eq_true rfl) (Nat.le_of_ble_eq_true rfl) rfl 5 (by decide) (by decide)) ?_
   refine go ?_
   refine Z1d hC (fun (z:Nat×Nat×List RU)=>z.1≤cnt∧z.2.1≤4+4*z.1∧z.2.2.length=z.1∧∀ r∈z.2.2,RuOk n r) (fun z=>cnt-z.1) 4 (fun z => [(2,.ptr 0 0 0),(3,.ptr 1 0 0),(4,.ptr 2 0 0),(5,.val (.int .u8 (mkN n:Nat))),(10,.val (.int .i64 (cnt:Int))),(11,.val (.int .i64 (z.1:Int)))])
    (fun z => [(0,⟨6,[zpv [.int .i64 0,.slice none 0 0,.int .u64 0,.slice none 0 0,.slice none 0 0,.slice none 0 0]]⟩),(1,srcB p fl z.2.1),(2,⟨6,[[.val (.int .i64 (n:Int)),.vec (l.map prC) fk,.val (.int .u64 (s:Int)),.own 3,.vec [] true,.vec [] true]]⟩),(3,⟨5,z.2.2.map ruR⟩)]) (Nat.zero_le _) (0,3+1,[]) ⟨Nat.zero_le _,Nat.le_refl _,rfl,fun r hr=>by cases hr⟩ (fun i=>i) (fun _ _=>rfl) Z14
    ⟨⟨_,rfl,.ptr (ρ:=fun i=>i) 0 0 0 (by decide)⟩,⟨_,rfl,.ptr (ρ:=fun i=>i) 1 0 0 (by decide)⟩,⟨_,rfl,.ptr (ρ:=fun i=>i) 2 0 0 (by decide)⟩,⟨_,rfl,.pure _ trivial⟩,⟨_,rfl,.pure _ trivial⟩,⟨_,rfl,.pure _ trivial⟩,trivial⟩
    ⟨⟨by decide,_,rfl,.same _ ⟨⟨trivial,trivial,trivial,trivial,trivial,trivial,trivial⟩,trivial⟩⟩,⟨by decide,_,rfl,.same _ (Zs p fl _)⟩,⟨by decide,_,rfl,RenB.single ⟨.pure _ trivial,.pure _ (Zg l),.pure _ trivial,.own (ρ:=fun i=>i) 3 (by decide),.pure _ trivial,.pure _ trivial,trivial⟩ rfl⟩,⟨by decide,_,rfl,.same _ trivial⟩,trivial⟩ ?_
   rintro⟨i,t,rs⟩ ⟨hi,ht,hrl,hro⟩
   dsimp only at hi ht hrl hro
   have hinc:IntKind.i64.wrap ((i:Int)+1)=((i+1:Nat):Int):=IntWalk.i64_in _ ⟨by omega,by omega⟩
   refine gd 90 ⟨?_⟩
   refine Zn rfl rfl rfl (fun hb=>?_) (fun hb=>?_)
   · have hil : i < cnt := by have := of_decide_eq_true hb; omega
     clear hb
     refine gd 94 ⟨?_⟩
     refine Zz (ZB p hp fl t (by omega)) rfl rfl rfl rfl (Zs p fl _) trivial ?_
     rintro r b' - - ⟨w1,hw1,rfl,rfl⟩
     refine gd 96 ⟨?_⟩
     refine Zz (ZB p hp fl (t+1) (by omega)) rfl rfl rfl rfl (Zs p fl _) trivial ?_
     rintro r b' - - ⟨w2,hw2,rfl,rfl⟩
     refine gd 98 ⟨?_⟩
     refine Zz (ZB p hp fl (t+1+1) (by omega)) rfl rfl rfl rfl (Zs p fl _) trivial ?_
     rintro r b' - - ⟨w3,hw3,rfl,rfl⟩
     refine gd 100 ⟨?_⟩
     refine Zz (ZB p hp fl (t+1+1+1) (by omega)) rfl rfl rfl rfl (Zs p fl _) trivial ?_
     rintro r b' - - ⟨w4,hw4,rfl,rfl⟩
     refine gd 103 ⟨?_⟩
     refine Z0 rfl rfl rfl ?_
     generalize ((w1:Int).tmod 4 == 3)=rev
     refine gd 107 ⟨?_⟩
     refine Z0 (Zfg rfl rfl (by omega)) rfl rfl ?_
     rw [Z2R w2 n]
     have hw:=Nat.mod_lt w2 (show 0<n by omega)
     refine Z8 rfl rfl rfl (show IntKind.i64.wrap (1+((w2 % n:Nat):Int))=((1+w2 % n:Nat):Int) from by rw [IntWalk.i64_in _ ⟨by omega,by omega⟩];omega) ?_
     cases rev
     · refine gd 117 ⟨?_⟩
       refine ZY rfl rfl (Z4C (w3:Int) (w4:Int) (mkN n) (by omega)) ⟨trivial,trivial,trivial,trivial⟩ rfl ?_
       rintro r ⟨c,hc1,hc2,rfl⟩
       refine gd 123 ⟨?_⟩
       refine ZU (ZQ (k:=3) (m := [ruR (RU.mk false c (1+w2 % n) i)]) (fl:=true) rfl rfl rfl (fun q hq=>by rw [List.mem_singleton] at hq; subst hq; rfl) rfl (by
        show ((rs.map ruR).length+1)*40≤_
        rw [List.length_map];omega)) rfl rfl ?_
       refine go ?_
       refine⟨(i+1,t+1+1+1+1,rs ++ [(RU.mk false c (1+w2 % n) i)]),mv 3 5,⟨by show i+1≤cnt; omega,by show t+1+1+1+1≤4+4*(i+1); omega,by rw [List.length_append,hrl]; rfl,fun r hr=>(List.mem_append.1 hr).elim (hro r) fun e=>by
        rw [List.mem_singleton] at e; subst e
        exact RuOk.mk0 hn2.2 hc1 hm62 hc2 ⟨by omega,by omega⟩ (fun h=>by cases h)⟩,by show cnt-(i+1)<cnt-i; omega,fun i hi=>absurd hi (Nat.not_lt_zero i),ZR rfl,
        ⟨⟨_,rfl,.ptr (ρ:=mv 3 5) 0 0 0 (by decide)⟩,⟨_,rfl,.ptr (ρ:=mv 3 5) 1 0 0 (by decide)⟩,⟨_,rfl,.ptr (ρ:=mv 3 5) 2 0 0 (by decide)⟩,⟨_,rfl,.pure _ trivial⟩,⟨_,rfl,.pure _ trivial⟩,⟨_,by show some _=some _; rw [hinc],.pure _ trivial⟩,trivial⟩,
        ⟨⟨by decide,_,rfl,.same _ ⟨⟨trivial,trivial,trivial,trivial,trivial,trivial,trivial⟩,trivial⟩⟩,⟨by decide,_,rfl,.same _ (Zs p fl _)⟩,⟨by decide,_,rfl,RenB.single ⟨.pure _ trivial,.pure _ (Zg l),.pure _ trivial,.own (ρ:=mv 3 5) 3 (by decide),.pure _ trivial,.pure _ trivial,trivial⟩ rfl⟩,⟨by decide,_,rfl,?_⟩,trivial⟩⟩
       show RenB _ _ ⟨5,rs.map ruR ++ [ruR (RU.mk false c (1+w2 % n) i)]⟩ ⟨5,(rs ++ [(RU.mk false c (1+w2 % n) i)]).map ruR⟩
       rw [List.map_append]
       exact .same _ (by rw [← List.map_singleton,← List.map_append]; exact Z1g _)
     · refine gd 123 ⟨?_⟩
       refine ZU (ZQ (k:=3) (m := [ruR (RU.mk true (0,0) (1+w2 % n) i)]) (fl:=true) rfl rfl rfl (fun q hq=>by rw [List.mem_singleton] at hq; subst hq; rfl) rfl (by
        show ((rs.map ruR).length+1)*40≤_
        rw [List.length_map];omega)) rfl rfl ?_
       refine go ?_
       refine⟨(i+1,t+1+1+1+1,rs ++ [(RU.mk true (0,0) (1+w2 % n) i)]),mv 3 5,⟨by show i+1≤cnt; omega,by show t+1+1+1+1≤4+4*(i+1); omega,by rw [List.length_append,hrl]; rfl,fun r hr=>(List.mem_append.1 hr).elim (hro r) fun e=>by
        rw [List.mem_singleton] at e; subst e
        exact RuOk.mk0 hn2.2 ⟨Nat.zero_or _,Nat.zero_or _⟩ hm62 rfl ⟨by omega,by omega⟩ (fun h=>rfl)⟩,by show cnt-(i+1)<cnt-i; omega,fun i hi=>absurd hi (Nat.not_lt_zero i),ZR rfl,
        ⟨⟨_,rfl,.ptr (ρ:=mv 3 5) 0 0 0 (by decide)⟩,⟨_,rfl,.ptr (ρ:=mv 3 5) 1 0 0 (by decide)⟩,⟨_,rfl,.ptr (ρ:=mv 3 5) 2 0 0 (by decide)⟩,⟨_,rfl,.pure _ trivial⟩,⟨_,rfl,.pure _ trivial⟩,⟨_,by show some _=some _; rw [hinc],.pure _ trivial⟩,trivial⟩,
        ⟨⟨by decide,_,rfl,.same _ ⟨⟨trivial,trivial,trivial,trivial,trivial,trivial,trivial⟩,trivial⟩⟩,⟨by decide,_,rfl,.same _ (Zs p fl _)⟩,⟨by decide,_,rfl,RenB.single ⟨.pure _ trivial,.pure _ (Zg l),.pure _ trivial,.own (ρ:=mv 3 5) 3 (by decide),.pure _ trivial,.pure _ trivial,trivial⟩ rfl⟩,⟨by decide,_,rfl,?_⟩,trivial⟩⟩
       show RenB _ _ ⟨5,rs.map ruR ++ [ruR (RU.mk true (0,0) (1+w2 % n) i)]⟩ ⟨5,(rs ++ [(RU.mk true (0,0) (1+w2 % n) i)]).map ruR⟩
       rw [List.map_append]
       exact .same _ (by rw [← List.map_singleton,← List.map_append]; exact Z1g _)
   · have hil : i = cnt := by have := of_decide_eq_false hb; omega
     clear hb hinc
     rw [hil] at hrl
     have ht28:t≤28:=by omega
     clear hi hil ht
     refine gd 126 ⟨?_⟩
     refine Zz (ZB p hp fl t (by omega)) rfl rfl rfl rfl (Zs p fl _) trivial ?_
     rintro r b' - - ⟨w1,hw1,rfl,rfl⟩
     refine Zj (ZO (ob:=2) (id:=3) (i0:=0) (j0:=3) rfl rfl (by decide) (Z1g rs) (Nat.le_of_ble_eq_true rfl) (Nat.le_of_ble_eq_true rfl) rfl) ?_
     refine Z8 rfl rfl rfl (Z2R w1 4) ?_
     have hv4:=Nat.mod_lt w1 (show 0<4 by decide)
     generalize w1 % 4=nvc at hv4 ⊢
     clear hw1
     refine gd 129 ⟨?_⟩
     refine Zz (ZB p hp fl (t+1) (by omega)) rfl rfl rfl rfl (Zs p fl _) trivial ?_
     rintro r b' - - ⟨w1,hw1,rfl,rfl⟩
     refine Z8 rfl rfl rfl (Z2R w1 3) ?_
     have hv3:=Nat.mod_lt w1 (show 0<3 by decide)
     refine Z8 rfl rfl rfl (show IntKind.i64.wrap (1+((w1 % 3:Nat):Int))=((1+w1 % 3:Nat):Int) from by rw [IntWalk.i64_in _ ⟨by omega,by omega⟩];omega) ?_
     obtain⟨glc,hglc⟩:∃ g,1+w1 % 3=g:=⟨_,rfl⟩
     rw [hglc]
     have hgl3:1≤glc∧glc≤3:=by omega
     clear hglc hv3 hw1
     refine gd 19 ⟨?_⟩
     refine Zj (Z1W (id:=2) (i0:=0) (j0:=4) rfl (Nat.le_of_ble_eq_true rfl) (Nat.le_of_ble_eq_true rfl) rfl 2 (by decide) (by decide)) ?_
     refine go ?_
     refine Z1d hC (fun (z:Nat×Nat×List Cu)=>z.1≤nvc∧z.2.1≤30+2*z.1∧z.2.2.length≤z.1∧∀ c∈z.2.2,InM (mkN n) c∧emC c=false∧hoC c (clo l s)=false) (fun z=>nvc-z.1) 5 (fun z => [(2,.ptr 0 0 0),(3,.ptr 1 0 0),(4,.ptr 2 0 0),(5,.val (.int .u8 (mkN n:Nat))),(17,.val (.int .i64 (nvc:Int))),(18,.val (.int .i64 (glc:Int))),(19,.val (.int .i64 (z.1:Int)))])
      (fun z => [(0,⟨6,[zpv [.int .i64 0,.slice none 0 0,.int .u64 0,.slice none 0 0,.slice none 0 0,.slice none 0 0]]⟩),(1,srcB p fl z.2.1),(2,⟨6,[[.val (.int .i64 (n:Int)),.vec (l.map prC) fk,.val (.int .u64 (s:Int)),.vec (rs.map ruR) false,.own 4,.vec [] true]]⟩),(4,⟨2,z.2.2.map raC⟩)]) (Nat.zero_le _) (0,t+1+1,[]) ⟨Nat.zero_le _,by show t+1+1≤30+2*0; omega,Nat.le_refl _,fun r hr=>by cases hr⟩ (fun i=>i) (fun _ _=>rfl) Z14
      ⟨⟨_,rfl,.ptr (ρ:=fun i=>i) 0 0 0 (by decide)⟩,⟨_,rfl,.ptr (ρ:=fun i=>i) 1 0 0 (by decide)⟩,⟨_,rfl,.ptr (ρ:=fun i=>i) 2 0 0 (by decide)⟩,⟨_,rfl,.pure _ trivial⟩,⟨_,rfl,.pure _ trivial⟩,⟨_,rfl,.pure _ trivial⟩,⟨_,rfl,.pure _ trivial⟩,trivial⟩
      ⟨⟨by decide,_,rfl,.same _ ⟨⟨trivial,trivial,trivial,trivial,trivial,trivial,trivial⟩,trivial⟩⟩,⟨by decide,_,rfl,.same _ (Zs p fl _)⟩,⟨by decide,_,rfl,RenB.single ⟨.pure _ trivial,.pure _ (Zg l),.pure _ trivial,.pure _ (Z1g rs),.own (ρ:=fun i=>i) 4 (by decide),.pure _ trivial,trivial⟩ rfl⟩,⟨by decide,_,rfl,.same _ trivial⟩,trivial⟩ ?_
     clear ht28
     rintro⟨i,t,nv⟩ ⟨hi,ht,hnl,hno⟩
     dsimp only at hi ht hnl hno
     have hinc:IntKind.i64.wrap ((i:Int)+1)=((i+1:Nat):Int):=IntWalk.i64_in _ ⟨by omega,by omega⟩
     refine gd 134 ⟨?_⟩
     refine Zn rfl rfl rfl (fun hb=>?_) (fun hb=>?_)
     · have hil : i < nvc := by have := of_decide_eq_true hb; omega
       clear hb
       refine gd 138 ⟨?_⟩
       refine Zz (ZB p hp fl t (by omega)) rfl rfl rfl rfl (Zs p fl _) trivial ?_
       rintro r b' - - ⟨w1,hw1,rfl,rfl⟩
       refine gd 140 ⟨?_⟩
       refine Zz (ZB p hp fl (t+1) (by omega)) rfl rfl rfl rfl (Zs p fl _) trivial ?_
       rintro r b' - - ⟨w2,hw2,rfl,rfl⟩
       refine gd 145 ⟨?_⟩
       refine Z0 (Zfg rfl rfl (by omega)) rfl rfl ?_
       rw [Z2R i n]
       have hw:=Nat.mod_lt i (show 0<n by omega)
       refine Z8 rfl rfl rfl (show IntKind.u64.wrap ((i % n:Nat):Int)=((i % n:Nat):Int) from IntWalk.u64_in _ ⟨by omega,by omega⟩) ?_
       refine Z3m rfl rfl (by omega) rfl rfl ?_
       refine gd 151 ⟨?_⟩
       refine ZY rfl rfl (Z4C _ (w2:Int) (mkN n) (by omega)) ⟨trivial,trivial,trivial,trivial⟩ rfl ?_
       rintro r ⟨c,hc1,hc2,rfl⟩
       have hcl:=Z7m l fk hgl.small s (by omega)
       have hc64:=hc1.lt (by omega)
       have hho:=Z8a c (clo l s) hc64 (Z4P _ _)
       refine gd 157 ⟨?_⟩
       refine Zr hcl rfl rfl rfl ⟨Zg _,trivial,trivial⟩ ?_
       refine Zr hho rfl rfl rfl ⟨Z4g c,trivial,trivial⟩ ?_
       cases hb:hoC c (clo l s)
       · refine gd 164 ⟨?_⟩
         refine ZU (ZQ (k:=4) (m := [raC c]) (fl:=true) rfl rfl rfl (fun q hq=>by rw [List.mem_singleton] at hq; subst hq; rfl) rfl (by
         show ((nv.map raC).length+1)*16≤_
         rw [List.length_map];omega)) rfl rfl ?_
         refine go ?_
         refine⟨(i+1,t+1+1,nv ++ [c]),mv 4 14,⟨by show i+1≤nvc; omega,by show t+1+1≤30+2*(i+1); omega,by rw [List.length_append]; show nv.length+1≤i+1; omega,fun c' hc'=>(List.mem_append.1 hc').elim (hno c') fun e=>by rw [List.mem_singleton] at e; subst e; exact⟨hc1,hc2,hb⟩⟩,by show nvc-(i+1)<nvc-i; omega,fun i hi=>absurd hi (Nat.not_lt_zero i),ZR rfl,
          ⟨⟨_,rfl,.ptr (ρ:=mv 4 14) 0 0 0 (by decide)⟩,⟨_,rfl,.ptr (ρ:=mv 4 14) 1 0 0 (by decide)⟩,⟨_,rfl,.ptr (ρ:=mv 4 14) 2 0 0 (by decide)⟩,⟨_,rfl,.pure _ trivial⟩,⟨_,rfl,.pure _ trivial⟩,⟨_,rfl,.pure _ trivial⟩,⟨_,by show some _=some _; rw [hinc],.pure _ trivial⟩,trivial⟩,
          ⟨⟨by decide,_,rfl,.same _ ⟨⟨trivial,trivial,trivial,trivial,trivial,trivial,trivial⟩,trivial⟩⟩,⟨by decide,_,rfl,.same _ (Zs p fl _)⟩,⟨by decide,_,rfl,RenB.single ⟨.pure _ trivial,.pure _ (Zg l),.pure _ trivial,.pure _ (Z1g rs),.own (ρ:=mv 4 14) 4 (by decide),.pure _ trivial,trivial⟩ rfl⟩,⟨by decide,_,rfl,?_⟩,trivial⟩⟩
         show RenB _ _ ⟨2,nv.map raC ++ [raC c]⟩ ⟨2,(nv ++ [c]).map raC⟩
         rw [List.map_append]
         exact .same _ (by rw [← List.map_singleton,← List.map_append]; exact Z1h _)
       · refine go ?_
         exact⟨(i+1,t+1+1,nv),fun i=>i,⟨by show i+1≤nvc; omega,by show t+1+1≤30+2*(i+1); omega,by show nv.length≤i+1; omega,hno⟩,by show nvc-(i+1)<nvc-i; omega,fun i hi=>rfl,Z14,
          ⟨⟨_,rfl,.ptr (ρ:=fun i=>i) 0 0 0 (by decide)⟩,⟨_,rfl,.ptr (ρ:=fun i=>i) 1 0 0 (by decide)⟩,⟨_,rfl,.ptr (ρ:=fun i=>i) 2 0 0 (by decide)⟩,⟨_,rfl,.pure _ trivial⟩,⟨_,rfl,.pure _ trivial⟩,⟨_,rfl,.pure _ trivial⟩,⟨_,by show some _=some _; rw [hinc],.pure _ trivial⟩,trivial⟩,
          ⟨⟨by decide,_,rfl,.same _ ⟨⟨trivial,trivial,trivial,trivial,trivial,trivial,trivial⟩,trivial⟩⟩,⟨by decide,_,rfl,.same _ (Zs p fl _)⟩,⟨by decide,_,rfl,RenB.single ⟨.pure _ trivial,.pure _ (Zg l),.pure _ trivial,.pure _ (Z1g rs),.own (ρ:=fun i=>i) 4 (by decide),.pure _ trivial,trivial⟩ rfl⟩,⟨by decide,_,rfl,.same _ (Z1h _)⟩,trivial⟩⟩
     · have hil : i = nvc := by have := of_decide_eq_false hb; omega
       clear hb hinc
       rw [hil] at hnl
       have ht40:t≤40:=by omega
       clear hi hil ht
       refine gd 23 ⟨?_⟩
       refine Zj (ZO (ob:=2) (id:=4) (i0:=0) (j0:=4) rfl rfl (by decide) (Z1h nv) (Nat.le_of_ble_eq_true rfl) (Nat.le_of_ble_eq_true rfl) rfl) ?_
       refine Zj (Z1W (id:=2) (i0:=0) (j0:=5) rfl (Nat.le_of_ble_eq_true rfl) (Nat.le_of_ble_eq_true rfl) rfl 2 (by decide) (by decide)) ?_
       refine go ?_
       refine Z1d hC (fun (z:Nat×Nat×List Cu)=>z.1≤glc∧z.2.1≤40+2*z.1∧z.2.2.length=z.1∧∀ c∈z.2.2,InM (mkN n) c∧emC c=false) (fun z=>glc-z.1) 6 (fun z => [(2,.ptr 0 0 0),(3,.ptr 1 0 0),(4,.ptr 2 0 0),(5,.val (.int .u8 (mkN n:Nat))),(18,.val (.int .i64 (glc:Int))),(23,.val (.int .i64 (z.1:Int)))])
        (fun z => [(0,⟨6,[zpv [.int .i64 0,.slice none 0 0,.int .u64 0,.slice none 0 0,.slice none 0 0,.slice none 0 0]]⟩),(1,srcB p fl z.2.1),(2,⟨6,[[.val (.int .i64 (n:Int)),.vec (l.map prC) fk,.val (.int .u64 (s:Int)),.vec (rs.map ruR) false,.vec (nv.map raC) false,.own 5]]⟩),(5,⟨2,z.2.2.map raC⟩)]) (Nat.zero_le _) (0,t,[]) ⟨Nat.zero_le _,by show t≤40+2*0; omega,rfl,fun r hr=>by cases hr⟩ (fun i=>i) (fun _ _=>rfl) Z14
        ⟨⟨_,rfl,.ptr (ρ:=fun i=>i) 0 0 0 (by decide)⟩,⟨_,rfl,.ptr (ρ:=fun i=>i) 1 0 0 (by decide)⟩,⟨_,rfl,.ptr (ρ:=fun i=>i) 2 0 0 (by decide)⟩,⟨_,rfl,.pure _ trivial⟩,⟨_,rfl,.pure _ trivial⟩,⟨_,rfl,.pure _ trivial⟩,trivial⟩
        ⟨⟨by decide,_,rfl,.same _ ⟨⟨trivial,trivial,trivial,trivial,trivial,trivial,trivial⟩,trivial⟩⟩,⟨by decide,_,rfl,.same _ (Zs p fl _)⟩,⟨by decide,_,rfl,RenB.single ⟨.pure _ trivial,.pure _ (Zg l),.pure _ trivial,.pure _ (Z1g rs),.pure _ (Z1h nv),.own (ρ:=fun i=>i) 5 (by decide),trivial⟩ rfl⟩,⟨by decide,_,rfl,.same _ trivial⟩,trivial⟩ ?_
       clear ht40
       rintro⟨i,t,gs⟩ ⟨hi,ht,hgn,hgo⟩
       dsimp only at hi ht hgn hgo
       have hinc:IntKind.i64.wrap ((i:Int)+1)=((i+1:Nat):Int):=IntWalk.i64_in _ ⟨by omega,by omega⟩
       refine gd 168 ⟨?_⟩
       refine Zn rfl rfl rfl (fun hb=>?_) (fun hb=>?_)
       · have hil : i < glc := by have := of_decide_eq_true hb; omega
         clear hb
         refine gd 172 ⟨?_⟩
         refine Zz (ZB p hp fl t (by omega)) rfl rfl rfl rfl (Zs p fl _) trivial ?_
         rintro r b' - - ⟨w1,hw1,rfl,rfl⟩
         refine gd 174 ⟨?_⟩
         refine Zz (ZB p hp fl (t+1) (by omega)) rfl rfl rfl rfl (Zs p fl _) trivial ?_
         rintro r b' - - ⟨w2,hw2,rfl,rfl⟩
         refine gd 180 ⟨?_⟩
         refine Z4t rfl rfl (.inl rfl) (Z4C (w1:Int) (w2:Int) (mkN n) (by omega)) ⟨trivial,trivial,trivial,trivial⟩ ?_
         rintro r ⟨c,hc1,hc2,rfl⟩
         refine gd 182 ⟨?_⟩
         refine Zd (ZQ (k:=5) (m := [raC c]) (fl:=true) rfl rfl rfl (fun q hq=>by rw [List.mem_singleton] at hq; subst hq; rfl) rfl (by
          show ((gs.map raC).length+1)*16≤_
          rw [List.length_map];omega)) rfl rfl ?_
         refine go ?_
         refine⟨(i+1,t+1+1,gs ++ [c]),mv 5 13,⟨by show i+1≤glc; omega,by show t+1+1≤40+2*(i+1); omega,by rw [List.length_append,hgn]; rfl,fun c' hc'=>(List.mem_append.1 hc').elim (hgo c') fun e=>by rw [List.mem_singleton] at e; subst e; exact⟨hc1,hc2⟩⟩,by show glc-(i+1)<glc-i; omega,fun i hi=>absurd hi (Nat.not_lt_zero i),ZR rfl,
          ⟨⟨_,rfl,.ptr (ρ:=mv 5 13) 0 0 0 (by decide)⟩,⟨_,rfl,.ptr (ρ:=mv 5 13) 1 0 0 (by decide)⟩,⟨_,rfl,.ptr (ρ:=mv 5 13) 2 0 0 (by decide)⟩,⟨_,rfl,.pure _ trivial⟩,⟨_,rfl,.pure _ trivial⟩,⟨_,by show some _=some _; rw [hinc],.pure _ trivial⟩,trivial⟩,
          ⟨⟨by decide,_,rfl,.same _ ⟨⟨trivial,trivial,trivial,trivial,trivial,trivial,trivial⟩,trivial⟩⟩,⟨by decide,_,rfl,.same _ (Zs p fl _)⟩,⟨by decide,_,rfl,RenB.single ⟨.pure _ trivial,.pure _ (Zg l),.pure _ trivial,.pure _ (Z1g rs),.pure _ (Z1h nv),.own (ρ:=mv 5 13) 5 (by decide),trivial⟩ rfl⟩,⟨by decide,_,rfl,?_⟩,trivial⟩⟩
         show RenB _ _ ⟨2,gs.map raC ++ [raC c]⟩ ⟨2,(gs ++ [c]).map raC⟩
         rw [List.map_append]
         exact .same _ (by rw [← List.map_singleton,← List.map_append]; exact Z1h _)
       · have hil : i = glc := by have := of_decide_eq_false hb; omega
         clear hb hinc
         rw [hil] at hgn
         refine gd 184 ⟨?_⟩
         refine Zj (ZO (ob:=2) (id:=5) (i0:=0) (j0:=5) rfl rfl (by decide) (Z1h gs) (Nat.le_of_ble_eq_true rfl) (Nat.le_of_ble_eq_true rfl) rfl) ?_
         refine go ?_
         have hlo1:lowLL (l.map prC)=l.map prC:=Z4h (fun _=>rfl) l
         have hlo2:lowLL (rs.map ruR)=rs.map ruR:=Z4h (fun _=>rfl) rs
         have hlo3:∀ x:List Cu,lowLL (x.map raC)=x.map raC:=Z4h (fun _=>rfl)
         have hcI:∀ c:Cu,InM (mkN n) c→InM 62 c:=fun c hc=>⟨Z3x hc.1 hm62,Z3x hc.2 hm62⟩
         have hOk:MkOk ⟨n,l,s,rs,nv,gs⟩:=by
          refine⟨⟨⟨by show 1≤n; omega,by show n≤63; omega⟩,hgl,fun p hp=>?_,hs1,by show rs.length≤64; omega,hro,by show nv.length≤64; omega,fun c hc=>⟨(hno c hc).1.inC (hno c hc).2.1,hcI c (hno c hc).1⟩,by show gs.length≤64; omega,fun c hc=>⟨(hgo c hc).1.inC (hgo c hc).2,hcI c (hgo c hc).1⟩,?_⟩,hn2,by show rs.length≤6; omega,by show nv.length≤3; omega,by show 1≤gs.length∧gs.length≤3; omega⟩
          · have := hlm p hp
            show p.1≤n∧p.2≤n∧p.1≤5∧p.2≤5
            omega
          · show soC nv (clo l s) = false
            refine Bool.eq_false_iff.2 fun h=>?_
            obtain⟨c,hc,h⟩:=List.any_eq_true.1 h
            rw [(hno c hc).2.2] at h; cases h
         have he:(PV.agg [.val (.int .i64 (n:Int)),.vec (l.map prC) fk,.val (.int .u64 (s:Int)),.vec (rs.map ruR) false,.vec (nv.map raC) false,.vec (gs.map raC) false]).low=.agg (pbR ⟨n,l,s,rs,nv,gs⟩):=by
          show PV.agg [.val (.int .i64 (n:Int)),.vec (lowLL (l.map prC)) false,.val (.int .u64 (s:Int)),.vec (lowLL (rs.map ruR)) false,.vec (lowLL (nv.map raC)) false,.vec (lowLL (gs.map raC)) false]=_
          rw [hlo1,hlo2,hlo3,hlo3]; rfl
         refine ZV (r:=.agg [.val (.int .i64 (n:Int)),.vec (l.map prC) fk,.val (.int .u64 (s:Int)),.vec (rs.map ruR) false,.vec (nv.map raC) false,.vec (gs.map raC) false]) rfl ?_ ⟨_,hOk,he⟩
         rw [he]
         exact Z7q _
theorem ZeK (l:List RU):(l.map ruR).length=l.length:=by simp
theorem Z4S:∀ {l m:List Pr},SortedP l→SortedP m→l.Perm m→l=m
 | [],m,_,_,h=>(List.Perm.nil_eq h)
 | a :: l,[],_,_,h=>by have:=h.length_eq; simp at this
 | a :: l, b :: m, h1, h2, h => by
   have h1':=List.pairwise_cons.1 h1
   have h2':=List.pairwise_cons.1 h2
   have hab:a=b:=by
    rcases List.mem_cons.1 (h.mem_iff.1 (List.mem_cons_self (a:=a) (l:=l))) with e|ha
    · exact e
    rcases List.mem_cons.1 (h.mem_iff.2 (List.mem_cons_self (a:=b) (l:=m))) with e|hb
    · exact e.symm
    have x1:=h1'.1 b hb
    have x2:=h2'.1 a ha
    omega
   subst hab
   rw [Z4S h1'.2 h2'.2 (List.Perm.cons_inv h)]
theorem SortedP.tk {l:List Pr} (h:SortedP l) (i:Nat):SortedP (l.take i):=List.Pairwise.sublist (List.take_sublist i l) h
theorem SortedP.nd {l:List Pr} (h:SortedP l):l.Nodup:=List.Pairwise.imp (fun {a b} h e=>by subst e;omega) h
theorem ZaA {l:List Pr} (h:GoodL l):l.length≤4096:=by
 have hn:(l.map fun p=>p.1*64+p.2).Nodup:=by
  rw [List.nodup_iff_pairwise_ne,List.pairwise_map]
  refine List.Pairwise.imp_of_mem (fun {a b} ha hb hab=>?_) h.asc
  have h1:=h.small a ha
  have h2:=h.small b hb
  show a.1*64+a.2≠b.1*64+b.2
  omega
 have:=Z57 4096 _ hn fun x hx=>by
  obtain⟨p,hp,rfl⟩:=List.mem_map.1 hx
  have:=h.small p hp
  show p.1*64+p.2<4096
  omega
 rwa [List.length_map] at this
theorem Z4D {α:Type} {l:List α} {i:Nat} (hi:i<l.length):l.take (i+1)=l.take i ++ [l[i]]:=by rw [List.take_add_one,List.getElem?_eq_getElem hi]; rfl
set_option maxRecDepth 100000 in
set_option maxHeartbeats 16000000 in
theorem Z8e {t:PB} (h:PbOk t):Spec Tryz.prog 21 [.agg (pbR t)] fun r=>∃ S,r=.tup [.agg (pbP t S),.val (.bool true)]:=by
 have hpr:=Z7q t
 have hgl:=h.good
 have hll:=ZaA hgl
 have hnl:=Z22 t.l
 have hst:t.st<18446744073709551616:=by
  have h1:t.st≤mkN t.n:=by rw [← h.st]; exact Nat.left_le_or
  have:=Z6x h.n.2
  omega
 have hpl:∀ D,innLL D (t.l.map prC):=fun D=>Za (fun _ h=>h.elim) _ (Zg t.l)
 have hpc:∀ D,innL D (pbR t):=fun D=>Zm (fun _ h=>h.elim) _ hpr
 have hhp:∀ D l S,(hierP l S).inn D:=fun D l S=>PV.inn_mono (fun _ h=>h.elim) _ (Zq l S)
 have hcu:∀ (l:List Cu) D,innLL D (l.map cuC):=fun l D=>Za (fun _ h=>h.elim) _ (ZC l)
 refine Z2 ok21 (Nat.le_of_ble_eq_true rfl) fun C hC=>?_
 refine Zt ?_
 refine Zh ?_
 refine Z3 rfl rfl rfl ?_
 refine gd 13 ⟨?_⟩
 refine Z4t rfl rfl (.inl rfl) Z4R trivial ?_
 rintro r ⟨S0,rfl⟩
 refine gd 16 ⟨?_⟩
 refine Zr (Z3v t.st hst) rfl rfl rfl ⟨trivial,trivial⟩ ?_
 refine gd 19 ⟨?_⟩
 refine Zr (Z4Q t.nv false h.nv64 (by have:=h.nl;omega)) rfl rfl rfl ⟨Z1h _,trivial⟩ ?_
 refine gd 22 ⟨?_⟩
 refine Zr (Z4Q t.gl false h.gl64 (by have:=h.gk;omega)) rfl rfl rfl ⟨Z1h _,trivial⟩ ?_
 refine go ?_
 refine Zl hC (fun (z:Nat×List Nat)=>z.1≤t.l.length) (fun z=>t.l.length-z.1) 16 (fun z => [(1,.cp (pbR t)),(2,.ptr 0 0 0),(4,.ptr 14 0 0),(25,.vec (t.l.map prC) false),(26,.val (.int .i64 t.l.length)),(27,.val (.int .i64 (z.1:Int)))])
  (fun z => [(0,⟨6,[zpv [.int .i64 0,.pointer none,.slice none 0 0,.slice none 0 0,.slice none 0 0,.slice none 0 0]]⟩),(14,⟨6,[[.val (.int .i64 (t.n:Int)),hierP (t.l.take z.1) z.2,.vec (words (digs t.st)) false,.vec [] true,.vec (t.nv.map cuC) false,.vec (t.gl.map cuC) false]]⟩)]) (Nat.zero_le _) (0,S0) (Nat.zero_le _)
  ⟨⟨rfl,hpc _⟩,⟨rfl,show (0:Nat)<16 by decide⟩,⟨rfl,show (14:Nat)<16 by decide⟩,⟨rfl,hpl _⟩,⟨by rw [← hnl]; rfl,trivial⟩,⟨rfl,trivial⟩,trivial⟩
  ⟨⟨by decide,rfl,⟨⟨trivial,trivial,trivial,trivial,trivial,trivial,trivial⟩,trivial⟩⟩,⟨by decide,rfl,⟨⟨trivial,hhp _ _ _,ZH _ _,trivial,hcu _ _,hcu _ _,trivial⟩,trivial⟩⟩,trivial⟩ ?_
 rintro⟨i,S⟩ hi
 dsimp only at hi
 have hinc:IntKind.i64.wrap ((i:Int)+1)=((i+1:Nat):Int):=IntWalk.i64_in _ ⟨by omega,by omega⟩
 refine gd 28 ⟨?_⟩
 refine Zn rfl rfl rfl (fun hb=>?_) (fun hb=>?_)
 · have hil : i < t.l.length := by have := of_decide_eq_true hb; omega
   have htk:=Z4D hil
   have hro:=hgl.role _ (List.getElem_mem hil)
   have hsub:∀ p∈t.l.take i ++ [t.l[i]],p∈t.l:=fun p hp=>by rw [← htk] at hp; exact List.mem_of_mem_take hp
   have hno:t.l[i] ∉ t.l.take i:=fun h=>by
    have hnd:=SortedP.nd (SortedP.tk hgl.asc (i+1))
    rw [htk,List.nodup_append] at hnd
    exact hnd.2.2 _ h _ (List.mem_singleton.2 rfl) rfl
   clear hb
   refine go ?_
   refine Z0 (Zo (xs:=t.l) (g:=prC) rfl rfl i rfl hil rfl) rfl rfl ?_
   generalize t.l[i]=p at htk hro hsub hno ⊢
   have hls:=Zd9 (t.l.take i) S p.1 p.2 (by omega) (by omega) hro.2.2.2.2 (fun q hq=>hgl.small q (List.mem_of_mem_take hq)) (SortedP.nd (SortedP.tk hgl.asc i)) hno (hgl.acy.sub hsub) (by rw [List.length_take];omega)
   refine gd 38 ⟨?_⟩
   refine ZY rfl rfl hls ⟨Zq _ _,trivial,trivial,trivial⟩ rfl ?_
   rintro r ⟨l',S',hpm,hst,rfl⟩
   have hle:l'=t.l.take (i+1):=by
    have hx1:l'.Perm (t.l.take (i+1)):=by rw [htk]; exact hpm
    exact Z4S hst (SortedP.tk hgl.asc (i+1)) hx1
   subst hle
   refine go ?_
   exact⟨(i+1,S'),hil,by show t.l.length-(i+1)<t.l.length-i; omega,⟨⟨rfl,hpc _⟩,⟨rfl,show (0:Nat)<16 by decide⟩,⟨rfl,show (14:Nat)<16 by decide⟩,⟨rfl,hpl _⟩,⟨rfl,trivial⟩,⟨by show some _=some _; rw [hinc],trivial⟩,trivial⟩,
    ⟨⟨by decide,rfl,⟨⟨trivial,trivial,trivial,trivial,trivial,trivial,trivial⟩,trivial⟩⟩,⟨by decide,rfl,⟨⟨trivial,hhp _ _ _,ZH _ _,trivial,hcu _ _,hcu _ _,trivial⟩,trivial⟩⟩,trivial⟩⟩
 · have hil : i = t.l.length := by have := of_decide_eq_false hb; omega
   subst hil
   clear hb hinc hi
   rw [List.take_length]
   refine gd 50 ⟨?_⟩
   refine Zj (Z1W (id:=14) (i0:=0) (j0:=3) rfl (Nat.le_of_ble_eq_true rfl) (Nat.le_of_ble_eq_true rfl) rfl 5 (by decide) (by decide)) ?_
   refine go ?_
   have hnr:=ZeK t.rs
   have hrl:=h.rl
   refine Z1d hC (fun (i:Nat)=>i≤t.rs.length) (fun i=>t.rs.length-i) 17 (fun i => [(2,.ptr 0 0 0),(4,.ptr 14 0 0),(48,.vec (t.rs.map ruR) false),(49,.val (.int .i64 (t.rs.length:Int))),(50,.val (.int .i64 (i:Int)))])
    (fun i => [(0,⟨6,[zpv [.int .i64 0,.pointer none,.slice none 0 0,.slice none 0 0,.slice none 0 0,.slice none 0 0]]⟩),(14,⟨6,[[.val (.int .i64 (t.n:Int)),hierP t.l S,.vec (words (digs t.st)) false,.own 16,.vec (t.nv.map cuC) false,.vec (t.gl.map cuC) false]]⟩),(16,⟨5,(t.rs.take i).map ruP⟩)]) (Nat.zero_le _) 0 (Nat.zero_le _) (fun i=>i) (fun _ _=>rfl) Z14
    ⟨⟨_,rfl,.ptr (ρ:=fun i=>i) 0 0 0 (by decide)⟩,⟨_,rfl,.ptr (ρ:=fun i=>i) 14 0 0 (by decide)⟩,⟨_,rfl,.pure _ (Z1g _)⟩,⟨_,by rw [← hnr]; rfl,.pure _ trivial⟩,⟨_,rfl,.pure _ trivial⟩,trivial⟩
    ⟨⟨by decide,_,rfl,.same _ ⟨⟨trivial,trivial,trivial,trivial,trivial,trivial,trivial⟩,trivial⟩⟩,⟨by decide,_,rfl,RenB.single ⟨.pure _ trivial,.pure _ (Zq _ _),.pure _ (Ze _),.own (ρ:=fun i=>i) 16 (by decide),.pure _ (ZC _),.pure _ (ZC _),trivial⟩ rfl⟩,⟨by decide,_,rfl,.same _ trivial⟩,trivial⟩ ?_
   intro i hi
   have hinc:IntKind.i64.wrap ((i:Int)+1)=((i+1:Nat):Int):=IntWalk.i64_in _ ⟨by omega,by omega⟩
   refine gd 51 ⟨?_⟩
   by_cases hil:i<t.rs.length
   · have htk := Z4D hil
     have hcu64:=(h.rs _ (List.getElem_mem hil)).cu.lt h.n.2
     refine Z0 (Z4 (v:=true) rfl (decide_eq_true (Int.ofNat_lt.2 hil))) rfl rfl ?_
     refine go ?_
     refine Z0 (Zo (xs:=t.rs) (g:=ruR) rfl rfl i rfl hil rfl) rfl rfl ?_
     generalize t.rs[i]=x at htk hcu64 ⊢
     refine gd 57 ⟨?_⟩
     refine Zd rfl rfl rfl ?_
     refine gd 60 ⟨?_⟩
     refine Zr (Z5E x.cu hcu64) rfl rfl rfl ⟨Z4g _,trivial⟩ ?_
     refine gd 67 ⟨?_⟩
     refine Zd (ZQ (k:=16) (m := [ruP x]) (fl:=true) rfl rfl rfl (fun q hq=>by rw [List.mem_singleton] at hq; subst hq; rfl) rfl (by
      show (((t.rs.take i).map ruP).length+1)*72≤_
      rw [List.length_map,List.length_take];omega)) rfl rfl ?_
     refine go ?_
     refine⟨i+1,mv 16 31,hil,by show t.rs.length-(i+1)<t.rs.length-i; omega,fun i hi=>absurd hi (Nat.not_lt_zero i),ZR rfl,
      ⟨⟨_,rfl,.ptr (ρ:=mv 16 31) 0 0 0 (by decide)⟩,⟨_,rfl,.ptr (ρ:=mv 16 31) 14 0 0 (by decide)⟩,⟨_,rfl,.pure _ (Z1g _)⟩,⟨_,rfl,.pure _ trivial⟩,⟨_,by show some _=some _; rw [hinc],.pure _ trivial⟩,trivial⟩,
      ⟨⟨by decide,_,rfl,.same _ ⟨⟨trivial,trivial,trivial,trivial,trivial,trivial,trivial⟩,trivial⟩⟩,⟨by decide,_,rfl,RenB.single ⟨.pure _ trivial,.pure _ (Zq _ _),.pure _ (Ze _),.own (ρ:=mv 16 31) 16 (by decide),.pure _ (ZC _),.pure _ (ZC _),trivial⟩ rfl⟩,⟨by decide,_,rfl,?_⟩,trivial⟩⟩
     show RenB _ _ ⟨5,(t.rs.take i).map ruP ++ [ruP x]⟩ ⟨5,(t.rs.take (i+1)).map ruP⟩
     rw [htk,List.map_append]
     exact .same _ (by rw [← List.map_singleton,← List.map_append]; exact Z1q _)
   · have hil : i = t.rs.length := by omega
     subst hil
     rw [List.take_length]
     refine Zj (ZO (ob:=14) (id:=16) (i0:=0) (j0:=3) rfl rfl (by decide) (Z1q t.rs) (Nat.le_of_ble_eq_true rfl) (Nat.le_of_ble_eq_true rfl) rfl) ?_
     refine Z0 (Z4 (v:=false) rfl (decide_eq_false (Int.lt_irrefl _))) rfl rfl ?_
     repeat' (first|refine Z2I [] [(0,16)] [63,63,63,63,47,63] (by kernel_rfl) ?_|(first|refine st ?_|(apply B<;>intro hb<;>try cases hb)))
     exact Z5 rfl ⟨Zx t S,trivial,trivial⟩ ⟨S,rfl⟩
set_option maxHeartbeats 4000000 in
theorem ZbD (p:List Nat) (fl:Bool) (hp:Bytes p):Spec Tryz.prog 7 [.vec (bys p) fl] fun r=>∃ t S,MkOk t∧r=.tup [.agg (pbP t S),.agg (pbR t),.val (.bool true)]:=by
 refine Z2 ok7 (Nat.le_of_ble_eq_true rfl) fun C hC=>?_
 refine gd 9 ⟨?_⟩
 refine ZY rfl rfl (Z9A p fl hp) ⟨Zc p,trivial⟩ rfl ?_
 rintro r ⟨t,ht,rfl⟩
 have hpr:=Z7q t
 refine gd 12 ⟨?_⟩
 refine ZY rfl rfl (Z8e ht.ok) ⟨hpr,trivial⟩ rfl ?_
 rintro r ⟨S,rfl⟩
 have hpp:=Zx t S
 repeat' (first|refine Z2I [] [(0,8)] [63,63,63,55,63,63] (by kernel_rfl) ?_|(first|refine st ?_|(apply B<;>intro hb<;>try cases hb)))
 exact Z5 rfl ⟨hpp,hpr,trivial,trivial⟩ ⟨t,S,ht,rfl⟩
theorem Z9B {α:Type} (p:α→Bool) (xs:List α):(!xs.any fun x => !p x)=xs.all p:=by
 induction xs with
 | nil=>rfl
 | cons x xs ih=>rw [List.any_cons,List.all_cons,Bool.not_or,ih,Bool.not_not]
theorem Z5H {n:Nat} {e:Env} {h:Heap} {a:Operand} {l:List PV} (ha:ev e a=some (.agg l)) (hl:0<l.length):fEval (.box a) e h n=some (.cp l,h):=by
 simp only [fEval,ha]
 rw [if_pos (by show (true&&decide (0<l.length))=true; rw [decide_eq_true hl]; rfl)]
 rfl
set_option maxHeartbeats 1000000 in
theorem Z5I {α:Type} (xs:List α) (enc:α→List PV) (fl:Bool) (g:Nat) (caps:List PV) (p:α→Bool) (hl:∀ x,(enc x).length=5) (hp:∀ x,pureL (enc x)) (hc:pureL caps) (hg:∀ x∈xs,Spec Tryz.prog g (.agg (enc x) :: caps) (· = .val (.bool (p x)))) :
 Spec Tryz.prog 164 [.vec (xs.map enc) fl,.fn g caps] (· = .val (.int .i64 (idxI p xs))):=by
 refine Z2 ok164 (Nat.le_of_ble_eq_true rfl) fun C hC=>?_
 refine Z2V (k:=0) rfl fun hmax=>?_
 have hnl:(xs.map enc).length=xs.length:=by simp
 have hlm:xs.length≤maxVec:=by simpa using hmax
 refine go ?_
 refine Z2L (fun i=>i≤xs.length∧(xs.take i).any p=false) (fun i=>xs.length-i) (fun i => [(0,.vec (xs.map enc) fl),(1,.fn g caps),(7,.val (.int .i64 (xs.length:Int))),(8,.val (.int .i64 (i:Int)))]) 0 ⟨Nat.zero_le _,rfl⟩ ⟨rfl,rfl,by rw [← hnl]; rfl,rfl,trivial⟩ ?_
 rintro i ⟨hi,hno⟩
 have hinc:IntKind.i64.wrap ((i:Int)+1)=((i+1:Nat):Int):=IntWalk.i64_in _ ⟨by omega,by simp only [maxVec] at hlm; omega⟩
 (refine go ?_;repeat' (apply B<;>intro hb<;>try cases hb))
 · have hil : i < xs.length := by simpa using hb
   refine Z0 (Zo (xs:=xs) rfl rfl i rfl hil (hl _)) rfl rfl ?_
   refine Z0 (Z3r rfl (hl _)) rfl rfl ?_
   refine Z6 (hg _ (List.getElem_mem hil)) rfl rfl rfl ⟨hp _,hc⟩ rfl ?_
   refine Z1p ?_
   refine Z3G rfl (fun hx=>?_) (fun hx=>?_)
   · refine go ?_
     exact Z5 rfl trivial (by rw [Z3L hil hno hx])
   · (refine go ?_;repeat' (apply B<;>intro hb<;>try cases hb))
     exact⟨i+1,⟨by omega,Z3s hil hno hx⟩,by omega,rfl,rfl,⟨rfl,rfl,rfl,by show some _=some _; rw [hinc],trivial⟩⟩
 · have hil : i = xs.length := by simp at hb; omega
   subst hil
   rw [List.take_length] at hno
   exact Z5 rfl trivial (by rw [Z1Z hno]; rfl)
theorem Z4i {α:Type} (xs:List α) (enc:α→List PV) (fl:Bool) (g:Nat) (caps:List PV) (p:α→Bool) (hl:∀ x,(enc x).length=5) (hp:∀ x,pureL (enc x)) (hc:pureL caps) (hg:∀ x∈xs,Spec Tryz.prog g (.agg (enc x) :: caps) (· = .val (.bool (p x)))) :
 Spec Tryz.prog 137 [.vec (xs.map enc) fl,.fn g caps] (· = .val (.bool (xs.any p))):=by
 refine Z2 ok137 (Nat.le_of_ble_eq_true rfl) fun C hC=>?_
 refine go ?_
 refine Z6 (Z5I xs enc fl g caps p hl hp hc hg) rfl rfl rfl ⟨Z9 hp xs,hc,trivial⟩ rfl ?_
 refine Z0 (Z4 rfl (Z49 (p:=p) (xs:=xs))) rfl rfl ?_
 (refine go ?_;repeat' (apply B<;>intro hb<;>try cases hb))
 all_goals exact Z5 rfl trivial (by rw [hb])
set_option maxHeartbeats 1000000 in
theorem Z5J {α:Type} (xs:List α) (enc:α→List PV) (fl:Bool) (g:Nat) (caps:List PV) (p:α→Bool) (hl:∀ x,(enc x).length=2) (hp:∀ x,pureL (enc x)) (hc:pureL caps) (hg:∀ x∈xs,Spec Tryz.prog g (.agg (enc x) :: caps) (· = .val (.bool (p x)))) :
 Spec Tryz.prog 186 [.vec (xs.map enc) fl,.fn g caps] (· = .val (.int .i64 (idxI p xs))):=by
 refine Z2 ok186 (Nat.le_of_ble_eq_true rfl) fun C hC=>?_
 refine Z2V (k:=0) rfl fun hmax=>?_
 have hnl:(xs.map enc).length=xs.length:=by simp
 have hlm:xs.length≤maxVec:=by simpa using hmax
 refine go ?_
 refine Z2L (fun i=>i≤xs.length∧(xs.take i).any p=false) (fun i=>xs.length-i) (fun i => [(0,.vec (xs.map enc) fl),(1,.fn g caps),(7,.val (.int .i64 (xs.length:Int))),(8,.val (.int .i64 (i:Int)))]) 0 ⟨Nat.zero_le _,rfl⟩ ⟨rfl,rfl,by rw [← hnl]; rfl,rfl,trivial⟩ ?_
 rintro i ⟨hi,hno⟩
 have hinc:IntKind.i64.wrap ((i:Int)+1)=((i+1:Nat):Int):=IntWalk.i64_in _ ⟨by omega,by simp only [maxVec] at hlm; omega⟩
 (refine go ?_;repeat' (apply B<;>intro hb<;>try cases hb))
 · have hil : i < xs.length := by simpa using hb
   refine Z0 (Zo (xs:=xs) rfl rfl i rfl hil (hl _)) rfl rfl ?_
   refine Z0 (Z3r rfl (hl _)) rfl rfl ?_
   refine Z6 (hg _ (List.getElem_mem hil)) rfl rfl rfl ⟨hp _,hc⟩ rfl ?_
   refine Z1p ?_
   refine Z3G rfl (fun hx=>?_) (fun hx=>?_)
   · refine go ?_
     exact Z5 rfl trivial (by rw [Z3L hil hno hx])
   · (refine go ?_;repeat' (apply B<;>intro hb<;>try cases hb))
     exact⟨i+1,⟨by omega,Z3s hil hno hx⟩,by omega,rfl,rfl,⟨rfl,rfl,rfl,by show some _=some _; rw [hinc],trivial⟩⟩
 · have hil : i = xs.length := by simp at hb; omega
   subst hil
   rw [List.take_length] at hno
   exact Z5 rfl trivial (by rw [Z1Z hno]; rfl)
theorem Z4j {α:Type} (xs:List α) (enc:α→List PV) (fl:Bool) (g:Nat) (caps:List PV) (p:α→Bool) (hl:∀ x,(enc x).length=2) (hp:∀ x,pureL (enc x)) (hc:pureL caps) (hg:∀ x∈xs,Spec Tryz.prog g (.agg (enc x) :: caps) (· = .val (.bool (p x)))) :
 Spec Tryz.prog 161 [.vec (xs.map enc) fl,.fn g caps] (· = .val (.bool (xs.any p))):=by
 refine Z2 ok161 (Nat.le_of_ble_eq_true rfl) fun C hC=>?_
 refine go ?_
 refine Z6 (Z5J xs enc fl g caps p hl hp hc hg) rfl rfl rfl ⟨Z9 hp xs,hc,trivial⟩ rfl ?_
 refine Z0 (Z4 rfl (Z49 (p:=p) (xs:=xs))) rfl rfl ?_
 (refine go ?_;repeat' (apply B<;>intro hb<;>try cases hb))
 all_goals exact Z5 rfl trivial (by rw [hb])
theorem ZbE {α:Type} (enc:α→List PV) (g:Nat) (caps:List PV) (p:α→Bool) (hl:∀ x,(enc x).length=5) (hp:∀ x,pureL (enc x)) (hc:pureL caps) (x:α) (hg:Spec Tryz.prog g (.agg (enc x) :: caps) (· = .val (.bool (p x)))) :
 Spec Tryz.prog 138 [.agg (enc x),.cp [.fn g caps]] (· = .val (.bool (!p x))):=by
 refine Z2 ok138 (Nat.le_of_ble_eq_true rfl) fun C hC=>?_
 refine Zt ?_
 refine Zh ?_
 refine Z3 (Z5H rfl (by rw [hl]; decide)) rfl rfl ?_
 refine gd 5 ⟨?_⟩
 refine Z0 (Z3r rfl (hl _)) rfl rfl ?_
 refine Z6 hg rfl rfl rfl ⟨hp _,hc⟩ rfl ?_
 generalize p x=b
 cases b
 all_goals
  refine go ?_
  exact Z5 rfl trivial rfl
theorem Z8f {α:Type} (xs:List α) (enc:α→List PV) (fl:Bool) (g:Nat) (caps:List PV) (p:α→Bool) (hl:∀ x,(enc x).length=5) (hp:∀ x,pureL (enc x)) (hc:pureL caps) (hg:∀ x∈xs,Spec Tryz.prog g (.agg (enc x) :: caps) (· = .val (.bool (p x)))) :
 Spec Tryz.prog 94 [.vec (xs.map enc) fl,.fn g caps] (· = .val (.bool (xs.all p))):=by
 have hcs:pureL [PV.cp [PV.fn g caps]]:=⟨⟨hc,trivial⟩,trivial⟩
 have h1:=Z4i xs enc fl 138 [.cp [.fn g caps]] (fun x => !p x) hl hp hcs fun x hx=>ZbE enc g caps p hl hp hc x (hg x hx)
 rw [← Z9B]
 refine Z2 ok94 (Nat.le_of_ble_eq_true rfl) fun C hC=>?_
 refine Zt ?_
 refine Zh ?_
 refine Z3 rfl rfl rfl ?_
 refine gd 7 ⟨?_⟩
 refine Z6 h1 rfl rfl rfl ⟨Z9 hp xs,hcs,trivial⟩ rfl ?_
 generalize (xs.any fun x => !p x)=b
 cases b
 all_goals
  refine go ?_
  exact Z5 rfl trivial rfl
theorem ZbF {α:Type} (enc:α→List PV) (g:Nat) (caps:List PV) (p:α→Bool) (hl:∀ x,(enc x).length=2) (hp:∀ x,pureL (enc x)) (hc:pureL caps) (x:α) (hg:Spec Tryz.prog g (.agg (enc x) :: caps) (· = .val (.bool (p x)))) :
 Spec Tryz.prog 162 [.agg (enc x),.cp [.fn g caps]] (· = .val (.bool (!p x))):=by
 refine Z2 ok162 (Nat.le_of_ble_eq_true rfl) fun C hC=>?_
 refine Zt ?_
 refine Zh ?_
 refine Z3 (Z5H rfl (by rw [hl]; decide)) rfl rfl ?_
 refine gd 5 ⟨?_⟩
 refine Z0 (Z3r rfl (hl _)) rfl rfl ?_
 refine Z6 hg rfl rfl rfl ⟨hp _,hc⟩ rfl ?_
 generalize p x=b
 cases b
 all_goals
  refine go ?_
  exact Z5 rfl trivial rfl
theorem Zdc {α:Type} (xs:List α) (enc:α→List PV) (fl:Bool) (g:Nat) (caps:List PV) (p:α→Bool) (hl:∀ x,(enc x).length=2) (hp:∀ x,pureL (enc x)) (hc:pureL caps) (hg:∀ x∈xs,Spec Tryz.prog g (.agg (enc x) :: caps) (· = .val (.bool (p x)))) :
 Spec Tryz.prog 131 [.vec (xs.map enc) fl,.fn g caps] (· = .val (.bool (xs.all p))):=by
 have hcs:pureL [PV.cp [PV.fn g caps]]:=⟨⟨hc,trivial⟩,trivial⟩
 have h1:=Z4j xs enc fl 162 [.cp [.fn g caps]] (fun x => !p x) hl hp hcs fun x hx=>ZbF enc g caps p hl hp hc x (hg x hx)
 rw [← Z9B]
 refine Z2 ok131 (Nat.le_of_ble_eq_true rfl) fun C hC=>?_
 refine Zt ?_
 refine Zh ?_
 refine Z3 rfl rfl rfl ?_
 refine gd 7 ⟨?_⟩
 refine Z6 h1 rfl rfl rfl ⟨Z9 hp xs,hcs,trivial⟩ rfl ?_
 generalize (xs.any fun x => !p x)=b
 cases b
 all_goals
  refine go ?_
  exact Z5 rfl trivial rfl
theorem ZbG {α:Type} (enc:α→List PV) (g:Nat) (caps:List PV) (p:α→Bool) (hl:∀ x,(enc x).length=2) (hp:∀ x,pureL (enc x)) (hc:pureL caps) (x:α) (hg:Spec Tryz.prog g (.agg (enc x) :: caps) (· = .val (.bool (p x)))) :
 Spec Tryz.prog 163 [.agg (enc x),.cp [.fn g caps]] (· = .val (.bool (!p x))):=by
 refine Z2 ok163 (Nat.le_of_ble_eq_true rfl) fun C hC=>?_
 refine Zt ?_
 refine Zh ?_
 refine Z3 (Z5H rfl (by rw [hl]; decide)) rfl rfl ?_
 refine gd 5 ⟨?_⟩
 refine Z0 (Z3r rfl (hl _)) rfl rfl ?_
 refine Z6 hg rfl rfl rfl ⟨hp _,hc⟩ rfl ?_
 generalize p x=b
 cases b
 all_goals
  refine go ?_
  exact Z5 rfl trivial rfl
theorem Zdd {α:Type} (xs:List α) (enc:α→List PV) (fl:Bool) (g:Nat) (caps:List PV) (p:α→Bool) (hl:∀ x,(enc x).length=2) (hp:∀ x,pureL (enc x)) (hc:pureL caps) (hg:∀ x∈xs,Spec Tryz.prog g (.agg (enc x) :: caps) (· = .val (.bool (p x)))) :
 Spec Tryz.prog 134 [.vec (xs.map enc) fl,.fn g caps] (· = .val (.bool (xs.all p))):=by
 have hcs:pureL [PV.cp [PV.fn g caps]]:=⟨⟨hc,trivial⟩,trivial⟩
 have h1:=Z1C xs enc fl 163 [.cp [.fn g caps]] (fun x => !p x) hl hp hcs fun x hx=>ZbG enc g caps p hl hp hc x (hg x hx)
 rw [← Z9B]
 refine Z2 ok134 (Nat.le_of_ble_eq_true rfl) fun C hC=>?_
 refine Zt ?_
 refine Zh ?_
 refine Z3 rfl rfl rfl ?_
 refine gd 7 ⟨?_⟩
 refine Z6 h1 rfl rfl rfl ⟨Z9 hp xs,hcs,trivial⟩ rfl ?_
 generalize (xs.any fun x => !p x)=b
 cases b
 all_goals
  refine go ?_
  exact Z5 rfl trivial rfl
end Go.Proofs.YtmnbbggaoembeaaGreatDoor
