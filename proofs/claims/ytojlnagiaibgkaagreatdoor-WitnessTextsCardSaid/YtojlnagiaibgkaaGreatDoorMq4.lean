/-
  Merged from the texts that this claim's theorem needs, part 5 of 6. No statement of the seat is proved here.
-/
import Derived.KernelRfl
import Derived.Shelf.SlSortCmp.NoneTotal
import Derived.Test.YtojlnagiaibgkaaGreatDoorChecked
import Derived.Test.YtojlnagiaibgkaaGreatDoorMq3
set_option linter.unusedSimpArgs false
set_option linter.unusedVariables false
set_option linter.unusedSectionVars false
namespace Go.Proofs.YtojlnagiaibgkaaGreatDoor
open Go.RowKit Go.Sort
section
variable {P:Program} {ρ:Go.Shelf.Ren} {α:Type}
def RawOk (F:Froz) (k:Nat) (enc:α→List PV) (p:List Value×α):Prop :=
 p.1.length=k∧(∀ v∈p.1,v.oneCell'=true)∧∀ j,j<k→Rep F noLoc (p.1.getD j undef) ((enc p.2).getD j pvu)
abbrev Raw (F:Froz) (k:Nat) (enc:α→List PV):={ p:List Value×α // RawOk F k enc p }
theorem Z77 {w:World} {blk off:Nat} {cells:Array Value} {t:TypeId} {fr:Nat×Nat} (hg:w.heap[blk]?=some (.cells cells t fr)) (D:Array Value):putRow id w blk off D=w.setRow blk (putCells id off D cells):=by
 unfold putRow
 rw [mapBlock_congr w blk _ (fun _=>putCells id off D cells) (fun c e fr' h=>by rw [hg] at h; cases h; rfl)]
 unfold mapBlock World.setRow
 congr 2
theorem Zeo {W w':World} (hb:Below W.heap.size W w') (hd:W.drawn≤w'.drawn):∃ q os,w'=grow (W.drewN q) os:=by
 refine⟨w'.drawn-W.drawn,w'.heap.extract W.heap.size w'.heap.size,?_⟩
 obtain⟨h1,h2,h3,h4,h5⟩:=hb
 obtain⟨heap,tape,drawn,os,output⟩:=w'
 simp only at h1 h2 h3 h4 h5 hd ⊢
 subst h1 h2 h3
 simp only [grow,World.drewN,World.mk.injEq,true_and,and_true]
 refine⟨?_,by omega⟩
 apply Array.ext_getElem?
 intro i
 rw [Array.getElem?_append]
 by_cases hi:i<W.heap.size
 · rw [if_pos hi]; exact h5 i hi
 · rw [if_neg hi, Array.getElem?_extract]
   by_cases h6:i<heap.size
   · rw [if_pos (by omega)]
     congr 1
     omega
   · rw [if_neg (by omega)]
     exact Array.getElem?_eq_none (by omega)
theorem RawOk.agg {F:Froz} {k:Nat} {enc:α→List PV} {p:List Value×α} (h:RawOk F k enc p) (hl:(enc p.2).length=k):Rep F noLoc (.agg p.1.toArray) (.agg (enc p.2)):=by
 obtain⟨h1,h2,h3⟩:=h
 have hg:∀ i,p.1.toArray.getD i undef=p.1.getD i undef:=fun i=>by simp [Array.getD_eq_getD_getElem?,List.getD_eq_getElem?_getD]
 refine .agg _ _ (by simp [h1,hl]) (fun i hi=>?_) (fun i hi=>?_)
 · rw [hg, List.getD_eq_getElem?_getD, List.getElem?_eq_getElem (by omega)]
   exact h2 _ (List.getElem_mem _)
 · rw [hg]; exact h3 i (by omega)
theorem Zfu {β:Type} {cf:β→β→Int} {key:β→Nat} (h:∀ a b,cf a b<0↔key a<key b):SWO (ltOf cf):=by
 have e:∀ a b,ltOf cf a b=decide (key a<key b):=fun a b=>by unfold ltOf; exact decide_eq_decide.2 (h a b)
 refine⟨fun x=>?_,fun x y z h1 h2=>?_,fun x y z h1 h2=>?_⟩
 · rw [e]; simp
 · rw [e] at *; simp at *; omega
 · rw [e] at *; simp at *; omega
set_option maxHeartbeats 1000000 in
theorem Z48 (L:SlLaysF0.n6 P ρ) (hbody:HasBody P (ρ.f 6)) (k:Nat) (hk0:0<k) (aE:∀ w,(isAgg (ρ.t 24)).run P w=.ok true w) (zE:∀ w,(Go.sizeOf (ρ.t 24)).run P w=.ok k w) (enc:α→List PV) (hl:∀ x,(enc x).length=k) (hp:∀ x,pureL (enc x))
 (key:α→Nat) (cf:α→α→Int) (hcf:∀ a b,cf a b<0↔key a<key b) (g:FuncId) (caps:List PV) (hcaps:pureL caps) (hcmp:∀ a b,Spec P g (.agg (enc a) :: .agg (enc b) :: caps) (· = .val (.int .i64 (cf a b)))) {n ob:Nat} {h:Heap} (xs:List α) (hh:h ob=some ⟨k,xs.map enc⟩) :
 ISpec P (ρ.f 6) n [.own ob,.fn g caps] h fun n' r h'=>n'=n∧r=.tup []∧∃ ys:List α,ys.Perm xs∧ys.Pairwise (fun a b=>key a≤key b)∧h'=h.upd ob ⟨k,ys.map enc⟩:=by
 refine⟨hbody,?_⟩
 intro C e F φ a w vs s hv
 obtain⟨hsz,hvs⟩:=hv
 have h0:Rep F φ (vs.getD 0 undef) (.own ob):=hvs 0 (by simp)
 have h1:Rep F φ (vs.getD 1 undef) (.fn g caps):=hvs 1 (by simp)
 obtain⟨loc,hloc,hz,hv0⟩:=h0.own_inv
 obtain⟨cb,hv1,hcsz,hcb⟩:=h1.fn_inv
 have hvs':vs = #[.slice loc.base loc.len loc.cap,.func (.func g) #[] cb]:=by
  simp only [List.length_cons,List.length_nil] at hsz
  apply Array.ext (by simpa using hsz)
  intro i hi1 hi2
  have hi:i=0 ∨ i=1:=by simp at hi2; omega
  have hget:∀ j (hj:j<vs.size),vs.getD j undef=vs[j]:=fun j hj=>by simp [Array.getD,hj]
  rcases hi with rfl|rfl
  · rw [hget 0 hi1] at hv0; exact hv0
  · rw [hget 1 hi1] at hv1; exact hv1
 obtain⟨loc',hl1,hob,hhas⟩:=s.live ob _ hh
 obtain rfl:loc'=loc:=by rw [hl1] at hloc; simpa using hloc
 have hbx:=hob.cells hz
 have hlen:xs.length=loc'.len:=by have:=hbx.len; simpa using this
 have hke:k=loc'.esz:=hbx.esz
 rw [hvs']
 by_cases hx0:xs = []
 · subst hx0
   have hl0:loc'.len=0:=hlen.symm
   have hc:=AnyF.slices_SortFunc_none (P:=P) (ρ:=ρ) { L with } loc'.base loc'.cap (.func (.func g) #[] cb) w
   rw [hl0]
   refine hc.mono ?_
   rintro en w' ⟨rfl,rfl⟩
   refine⟨_,.tup [],n,h.upd ob ⟨k,[].map enc⟩,F,φ,rfl,⟨rfl,rfl,[],.refl _,.nil,rfl⟩,.tup _ _ rfl (fun i hi=>absurd hi (Nat.not_lt_zero i)),s.sub (fun _ _ h=>h) fun i b hi=>?_⟩
   by_cases hid:i=ob
   · subst hid; rw [Heap.upd_same] at hi; rw [hh]; exact hi
   · rw [Heap.upd_ne _ _ hid] at hi; exact hi
 · have hpos : 0 < xs.length := List.length_pos_iff.2 hx0
   have hcap:=hbx.cap
   have hc0:loc'.cap≠0:=by omega
   obtain⟨ad,hbase,hspot,cells,t,hg,hroom,hrep⟩:=hbx.room hc0
   have hhb:loc'.has ad.block:=⟨hc0,ad,hbase,rfl⟩
   have hFn:∀ x:Addr,x.block=ad.block→F x=none:=(hhas _ hhb).2
   have hblk:ad.block<w.heap.size:=(Array.getElem?_eq_some_iff.1 hg).1
   have hin:∀ i j,i<xs.length→j<k→i*k+j<xs.length*k:=fun i j hi hj=>by
    have:=Nat.mul_le_mul_right k (show i+1≤xs.length from hi)
    rw [Nat.add_mul,Nat.one_mul] at this
    omega
   have hsize:xs.length*k≤loc'.cap*loc'.esz:=by rw [hke]; exact Nat.mul_le_mul_right _ (by omega)
   have hraw:∀ i:Fin xs.length,RawOk F k enc ((List.range k).map fun j=>cells.getD (ad.off+(i.1*k+j)) undef,xs[i.1]):=by
    intro i
    have hi:=i.2
    refine⟨by simp,fun v hv=>?_,fun j hj=>?_⟩
    · obtain ⟨j, hj, rfl⟩ := List.mem_map.1 hv
      have:=(hrep i.1 j (by omega) (by rw [← hke]; exact List.mem_range.1 hj)).1
      rw [← hke] at this
      exact this
    · have h2 := (hrep i.1 j (by omega) (by omega)).2
      rw [← hke] at h2
      have e1:((xs.map enc).getD i.1 [])=enc xs[i.1]:=by simp [List.getD_eq_getElem?_getD,hi]
      rw [e1] at h2
      have e2:((List.range k).map fun j=>cells.getD (ad.off+(i.1*k+j)) undef).getD j undef=cells.getD (ad.off+(i.1*k+j)) undef:=by simp [List.getD_eq_getElem?_getD,hj]
      show Rep F noLoc (((List.range k).map fun j=>cells.getD (ad.off+(i.1*k+j)) undef).getD j undef) ((enc xs[i.1]).getD j pvu)
      rw [e2]
      exact h2.pure (ZI (hp _) j)
   letI:Inhabited (Raw F k enc):=⟨⟨_,hraw ⟨0,hpos⟩⟩⟩
   obtain⟨d,hd⟩:∃ d:Array (Raw F k enc),d=Array.ofFn fun i:Fin xs.length=>(⟨_,hraw i⟩:Raw F k enc):=⟨_,rfl⟩
   have hdsz:d.size=xs.length:=by rw [hd]; simp
   have hdget:∀ (i:Nat) (hi:i<xs.length),d[i]! = ⟨_,hraw ⟨i,hi⟩⟩:=fun i hi=>by
    have:i<d.size:=by omega
    rw [getElem!_pos d i this]
    simp only [hd,Array.getElem_ofFn]
   have hdl:d.toList.map (fun p=>p.1.2)=xs:=by
    apply List.ext_getElem
    · simp [hdsz]
    · intro i h3 h4
      have h5:=hdget i h4
      rw [getElem!_pos d i (by omega)] at h5
      simp [h5]
   have encK:∀ x:Raw F k enc,(x.1.1).length=k:=fun x=>x.2.1
   have enc1:∀ x:Raw F k enc,∀ v∈x.1.1,v.oneCell'=true:=fun x=>x.2.2.1
   have hH:HoldsK (fun x:Raw F k enc=>x.1.1) k w ad.block ad.off d:=by
    intro q hq
    rw [size_flatK,hdsz] at hq
    have hi:q / k<xs.length:=(Nat.div_lt_iff_lt_mul hk0).2 hq
    have hj:q % k<k:=Nat.mod_lt _ hk0
    have hqe:q / k*k+q % k=q:=by rw [Nat.mul_comm]; exact Nat.div_add_mod q k
    rw [get_flatK _ _ _ _ (by rw [hdsz]; exact hq),hdget _ hi]
    have hlt:ad.off+q<cells.size:=by omega
    constructor
    · simp only [World.cell?, hg]
      rw [if_neg (by simp),Array.getElem?_eq_getElem hlt]
      congr 1
      rw [getElem!_pos _ _ (by simp [hj])]
      simp only [List.getElem_map,List.getElem_range,hqe,id]
      simp [Array.getD,hlt]
    · simp only [World.frozen?, hg]
      simp
   have hcmpL:CmpLays P g cb (fun x:Raw F k enc=>x.1.1) k (fun x y=>cf x.1.2 y.1.2) ad.block ad.off d.size w:=by
    intro m os dk hdk x y
    have hW:Proofs.YtojlnagiaibgkaaGreatDoor.Holds F (sortWorldK (fun x:Raw F k enc=>x.1.1) k w ad.block ad.off m dk os):=by
     refine⟨fun x v hx=>?_,s.glob⟩
     obtain⟨f1,f2,f3⟩:=s.froz x v hx
     refine⟨f1,f2,?_⟩
     have hne:x.block≠ad.block:=fun he=>by rw [hFn x he] at hx; cases hx
     have h5:(putRowK (fun x:Raw F k enc=>x.1.1) k (Sort.ahead w m) ad.block ad.off dk).cell? x=some v:=by
      rw [cell?_putRowK_other _ _ _ _ _ _ _ hne]; exact f3
     unfold sortWorldK
     have hlt:x.block<(putRowK (fun x:Raw F k enc=>x.1.1) k (Sort.ahead w m) ad.block ad.off dk).heap.size:=by
      unfold World.cell? at h5
      split at h5
      · rename_i hgx; exact (Array.getElem?_eq_some_iff.1 hgx).1
      · cases h5
     rw [World.cell?_of_block (w:=putRowK (fun x:Raw F k enc=>x.1.1) k (Sort.ahead w m) ad.block ad.off dk)]
     · exact h5
     · unfold grow
       exact Array.getElem?_append_left hlt
    have hR:RepL F noLoc (#[.agg x.1.1.toArray,.agg y.1.1.toArray]++cb) (.agg (enc x.1.2) :: .agg (enc y.1.2) :: caps):=by
     refine⟨by simp [hcsz]; omega,fun i hi=>?_⟩
     match i,hi with
     | 0, _ =>
       rw [show (#[Value.agg x.1.1.toArray,Value.agg y.1.1.toArray]++cb).getD 0 undef=.agg x.1.1.toArray by simp [Array.getD_eq_getD_getElem?,Array.getElem?_append]]
       exact RawOk.agg x.2 (hl _)
     | 1, _ =>
       rw [show (#[Value.agg x.1.1.toArray,Value.agg y.1.1.toArray]++cb).getD 1 undef=.agg y.1.1.toArray by simp [Array.getD_eq_getD_getElem?,Array.getElem?_append]]
       exact RawOk.agg y.2 (hl _)
     | i + 2, hi =>
       have e1:(#[Value.agg x.1.1.toArray,Value.agg y.1.1.toArray]++cb).getD (i+2) undef=cb.getD i undef:=by
        simp only [Array.getD_eq_getD_getElem?]
        rw [Array.getElem?_append_right (by simp)]
        simp
       rw [e1]
       exact (hcb i (by simpa using hi)).pure (ZI hcaps i)
    refine (Z9e ((hcmp x.1.2 y.1.2).2 F _ _ hW hR)).mono ?_
    rintro en w' ⟨⟨v,r,F',rfl,rfl,hr,hbel,_⟩,hdr⟩
    have hvi:=hr.val_inv
    exact⟨by rw [hvi],Zeo hbel (hdr v rfl)⟩
   have eg:∀ args w,(callFunc g args).run P w=.ok (.enter g args) w:=by
    obtain⟨⟨fn,hfn,hname,hbd⟩,_⟩:=hcmp xs[0] xs[0]
    intro args w
    have h1 : ¬ fn.name = "runtime.NumGoroutine" := by simpa using hname
    have h2:¬ fn.body=none:=fun h=>by rw [h] at hbd; simp at hbd
    simp [callFunc,hfn,h1,h2]
   have hmx:=hbx.max
   have hc:=AnyQ.slices_SortFunc L k aE zE (fun x:Raw F k enc=>x.1.1) encK enc1 (fun x y=>cf x.1.2 y.1.2) (Zfu (key:=fun x:Raw F k enc=>key x.1.2) fun a b=>hcf _ _) g cb ad.block ad.off loc'.cap d w eg hcmpL hH hblk (by rw [hdsz]; simp only [maxVec] at hmx;omega)
   rw [hbase,← hlen,← hdsz]
   rw [← Z3s ad hspot] at hc
   refine hc.mono ?_
   rintro en w' ⟨rfl,d',m,os,⟨hps,-,hpp⟩,hso,rfl⟩
   have hpp':d'.toList.Perm d.toList:=by
    have e1:d'.extract 0 d.size=d':=by rw [← hps]; exact Array.extract_size
    have e2:d.extract 0 d.size=d:=Array.extract_size
    rw [e1,e2] at hpp
    exact hpp
   have hg':(Sort.ahead w m).heap[ad.block]?=some (.cells cells t (0,0)):=hg
   obtain⟨cur',hcur⟩:∃ cur',cur'=putCells id ad.off (flatK (fun x:Raw F k enc=>x.1.1) k d') cells:=⟨_,rfl⟩
   have hw1:sortWorldK (fun x:Raw F k enc=>x.1.1) k w ad.block ad.off m d' os=grow ((Sort.ahead w m).setRow ad.block cur') os:=by
    unfold sortWorldK putRowK
    rw [Z77 hg',hcur]
   have hget':∀ i j,i<xs.length→j<k→cur'.getD (ad.off+(i*k+j)) undef=(d'[i]!).1.1.getD j undef:=by
    intro i j hi hj
    have hq:=hin i j hi hj
    have hlt:ad.off+(i*k+j)<cells.size:=by omega
    have e1:(i*k+j) / k=i:=(blk_iff k i _ hk0).1 ⟨by omega,by omega⟩
    have e2:(i*k+j) % k=j:=by rw [Nat.mod_eq_sub_div_mul,e1]; omega
    rw [hcur,putCells,Array.getD_eq_getD_getElem?,Array.getElem?_mapIdx,Array.getElem?_eq_getElem hlt]
    simp only [Option.map_some,Option.getD_some]
    rw [if_pos ⟨by omega,by rw [size_flatK,hps,hdsz]; omega⟩,show ad.off+(i*k+j)-ad.off=i*k+j by omega]
    show (flatK (fun x:Raw F k enc=>x.1.1) k d')[i*k+j]! = _
    rw [get_flatK (fun x:Raw F k enc=>x.1.1) k d' (i*k+j) (by rw [hps,hdsz]; exact hq),e1,e2]
    have hj':j<(d'[i]!).1.1.length:=by rw [encK]; exact hj
    rw [getElem!_pos (d'[i]!).1.1 j hj',List.getD_eq_getElem?_getD,List.getElem?_eq_getElem hj',Option.getD_some]
   have hysl:(d'.toList.map fun p=>p.1.2).length=xs.length:=by simp [hps,hdsz]
   refine⟨_,.tup [],n,h.upd ob ⟨k,(d'.toList.map fun p=>p.1.2).map enc⟩,F,φ,rfl,⟨rfl,rfl,d'.toList.map fun p=>p.1.2,?_,?_,rfl⟩,.tup _ _ rfl (fun i hi=>absurd hi (Nat.not_lt_zero i)),?_⟩
   · have := hpp'.map fun p : Raw F k enc => p.1.2
     rw [hdl] at this
     exact this
   · rw [List.pairwise_iff_getElem]
     intro i j hi hj hij
     have hi':i<d'.size:=by simpa using hi
     have hj':j<d'.size:=by simpa using hj
     have h5:=hso i j (Nat.zero_le _) hij (by omega)
     rw [getElem!_pos d' i hi',getElem!_pos d' j hj'] at h5
     unfold ltOf at h5
     have h6:=of_decide_eq_false h5
     rw [hcf] at h6
     simp only [List.getElem_map,Array.getElem_toList]
     omega
   · rw [hw1]
     have sA:St' C (fun i=>n≤i) e h F φ a (Sort.ahead w m):=s.turned (row:=none) (w':=Sort.ahead w m) ⟨rfl,rfl,rfl,Nat.le_refl _,fun _ _ _=>rfl⟩ (fun r hr=>by cases hr) (.inr fun r es t hr=>by cases hr) rfl (s.marks.mono fun _ h=>h)
     have s1:St' C (fun i=>n≤i) e (h.del ob) F φ a (Sort.ahead w m):=sA.sub (fun _ _ h=>h) (fun _ _ hh=>(Heap.del_some hh).2)
     have hbx':BxAt F φ ((Sort.ahead w m).setRow ad.block cur') loc' ⟨k,(d'.toList.map fun p=>p.1.2).map enc⟩:=by
      refine⟨hke,hz,by rw [← hlen]; simp [hps,hdsz],hcap,hmx,fun c hc=>?_,fun _=>⟨ad,hbase,hspot,cur',t,setRow_heap _ _ _ _ _ _ hg',?_,fun i j hi hj=>?_⟩⟩
      · obtain ⟨y, _, rfl⟩ := List.mem_map.1 hc
        rw [hl,hke]
      · have : cur'.size = cells.size := by rw [hcur]; simp [putCells]
        omega
      · rw [← hke] at hj ⊢
        have hi':i<xs.length:=by omega
        have hid:i<d'.size:=by omega
        rw [hget' i j hi' hj]
        obtain⟨r1,r2,r3⟩:=(d'[i]!).2
        have hj':j<(d'[i]!).1.1.length:=by rw [r1]; exact hj
        have e3:((d'.toList.map fun p=>p.1.2).map enc).getD i []=enc (d'[i]!).1.2:=by
         rw [getElem!_pos d' i hid]
         simp [List.getD_eq_getElem?_getD,hid]
        refine⟨?_,?_⟩
        · rw [List.getD_eq_getElem?_getD, List.getElem?_eq_getElem hj']
          exact r2 _ (List.getElem_mem _)
        · show Rep F φ _ ((((d'.toList.map fun p => p.1.2).map enc).getD i []).getD j pvu)
          rw [e3]
          exact (r3 j hj).mono (fun _ _ h=>h) (fun i x hx=>by cases hx)
     have s2:=s1.adopt hg' (hhas _ hhb).1 hFn (s.del_no hh hl1 hhb) hl1 (fun _ _ h=>h) (fun _ _=>rfl) s.free (fun k' hk'=>by
      obtain⟨_,x,hx,rfl⟩:=hk'
      rw [hbase] at hx
      cases hx
      rfl) hbx'
     have s3:=s2.turned (row:=none) (w':=grow ((Sort.ahead w m).setRow ad.block cur') os) ⟨rfl,rfl,rfl,by simp [grow],fun j hj _=>by unfold grow; exact Array.getElem?_append_left hj⟩ (fun r hr=>by cases hr) (.inr fun r es t hr=>by cases hr) rfl (s2.marks.mono fun j hj=>by
      unfold grow
      rw [Array.getElem?_append_left (Array.getElem?_eq_some_iff.1 hj).1]
      exact hj)
     refine s3.sub (fun _ _ h=>h) fun i b hi=>?_
     by_cases hid:i=ob
     · subst hid; rw [Heap.upd_same] at hi ⊢; exact hi
     · rw [Heap.upd_ne _ _ hid] at hi ⊢; rw [Heap.del_ne _ hid]; exact hi
end
end Go.Proofs.YtojlnagiaibgkaaGreatDoor
namespace Go.Proofs.YtojlnagiaibgkaaGreatDoor
open Go.RowKit
section
variable {P:Program} {C:Ctx} {Fr:Nat→Prop} {e:Env} {h:Heap} {F:Froz} {φ:Locs} {a:Act} {w:World}
def OSpec (P:Program) (f:FuncId) (b:Bx) (args:List PV) (R:PV→Bx→Prop):Prop :=
 ISpec P f 1 args (Heap.upd (fun _=>none) 0 b) fun _ r h'=>∃ b',h' 0=some b'∧r.pure∧pureLL b'.elems∧R r b'
def VSpec (P:Program) (f:FuncId) (b:Bx) (args:List PV) (R:PV→Bx→Prop):Prop :=
 ISpec P f 1 args (Heap.upd (fun _=>none) 0 b) fun _ r h'=>∃ b',h' 0=some b'∧r.inn (· = 0)∧pureLL b'.elems∧R r b'
theorem OSpec.vspec {f:FuncId} {b:Bx} {args:List PV} {R:PV→Bx→Prop} (hs:OSpec P f b args R):VSpec P f b args fun r b'=>r.pure∧R r b' :=
 ISpec.mono hs fun _ r _ ⟨b',h1,h2,h3,h4⟩=>⟨b',h1,PV.inn_mono (fun _ h=>h.elim) r h2,h3,h2,h4⟩
theorem VSpec.run {f:FuncId} {b:Bx} {args:List PV} {R:PV→Bx→Prop} (hs:VSpec P f b args R) (hpb:pureLL b.elems) (hpr:innL (· = 0) args) (hb:h 0=some b) (s:St' C Fr e h F φ a w) {vs:Array Value} (hv:RepL F φ vs args) :
 Calls P f vs w fun en w'=>∃ v r b' F',en=.returned v∧(r.inn (· = 0)∧pureLL b'.elems∧R r b')∧Rep F' φ v r∧St' C Fr e (h.upd 0 b') F' φ a w':=by
 obtain⟨loc,hloc,hbx,hhas⟩:=s.live 0 b hb
 let φ1:Locs:=fun i=>if i=0 then some loc else none
 let C1:Ctx:=⟨w,fun k=>loc.has k,F,C.nt,φ1⟩
 have hG:∀ k,C1.G k→C.w0.heap.size≤k ∨ C.G k:=fun k hk=>(hhas k hk).1
 have hcells:∀ k,C1.G k→∀ o:Obj,w.heap[k]?=some o→¬ o=.deferred (some []):=by
  rintro k hk o ho rfl
  rcases hbx.there hk with⟨cells,t,hg⟩|⟨es,t,hg⟩
  · rw [hg] at ho; cases ho
  · rw [hg] at ho; cases ho
 have h0:∀ {i:Nat} {b0:Bx},(Heap.upd (fun _=>none) 0 b) i=some b0→i=0∧b0=b:=by
  intro i b0 hi
  by_cases hi0:i=0
  · subst hi0; rw [Heap.upd_same] at hi; exact⟨rfl,(Option.some.inj hi).symm⟩
  · rw [Heap.upd_ne _ _ hi0] at hi; cases hi
 have s1:St' C1 (fun i=>1≤i) (fun _=>none) (Heap.upd (fun _=>none) 0 b) F φ1 { a with defers := [] } w:=by
  refine { nt:=s.nt,glob:=s.glob,marks:=Marks.nil rfl,loc0:=fun i x hx=>hx,free:=fun i hi=>?_,env:=fun k p hp=>(by cases hp),froz:=s.froz,ext:=fun _ _ h=>h,old:=fun _ _ _=>rfl,os:=rfl,tape:=rfl,output:=rfl,size:=Nat.le_refl _,kept:=fun _ _ _=>rfl,live:=fun i b0 hi=>?_,sep:=fun i j bi bj li lj k hi hj _ _ _ _=>?_ }
  · simp only [φ1]; rw [if_neg (by omega)]
  · obtain ⟨rfl, rfl⟩ := h0 hi
    exact⟨loc,by simp [φ1],hbx.names hpb,fun k hk=>⟨.inr hk,(hhas k hk).2⟩⟩
  · rw [(h0 hi).1,(h0 hj).1]
 have hv1:RepL F φ1 vs args:=by
  refine⟨hv.1,fun i hi=>(hv.2 i hi).inn (fun j x hj hx=>?_) (ZI hpr i)⟩
  subst hj
  rw [hloc] at hx
  simp only [φ1,if_true]
  exact hx
 refine (hs.2 C1 _ F φ1 { a with defers := [] } w vs s1 hv1).mono ?_
 rintro en w' ⟨v,r,n',h',F',φ',rfl,⟨b',hb',hr,hpb',hR⟩,hvr,s'⟩
 have hφ0:φ' 0=some loc:=s'.loc0 0 loc (by simp [C1,φ1])
 refine⟨v,r,b',F',rfl,⟨hr,hpb',hR⟩,hvr.inn (fun j x hj hx=>by subst hj; rw [hφ0] at hx; rw [hloc]; exact hx) hr,?_⟩
 refine { nt := s.nt, glob := s'.glob, marks := s.marks.mono (fun k hk => by rw [s'.kept k (Array.getElem?_eq_some_iff.1 hk).1 (fun hg => hcells k hg _ hk rfl)]; exact hk), loc0 := s.loc0, free := s.free, env := fun k p hp => ⟨(s.env k p hp).1, (s.env k p hp).2.mono s'.ext fun _ _ h => h⟩, froz := s'.froz, ext := fun x v hx => s'.ext _ _ (s.ext x v hx),
          old:=fun x hx hg=>?_,os:=s'.os.trans s.os,tape:=s'.tape.trans s.tape,output:=s'.output.trans s.output,size:=Nat.le_trans s.size s'.size,kept:=fun k hk hg=>?_,live:=fun i bi hi=>?_,sep:=fun i j bi bj li lj k hi hj hli hlj hki hkj=>?_ }
 · have hx2 : x.block < w.heap.size := Nat.lt_of_lt_of_le hx s.size
   rw [s'.old x hx2 fun hg'=>(hG _ hg').elim (fun h1=>absurd hx (Nat.not_lt.2 h1)) hg]
   exact s.old x hx hg
 · rw [s'.kept k (Nat.lt_of_lt_of_le hk s.size) fun hg' => (hG _ hg').elim (fun h1 => absurd hk (Nat.not_lt.2 h1)) hg]
   exact s.kept k hk hg
 · by_cases hid : i = 0
   · subst hid
     rw [Heap.upd_same] at hi
     cases hi
     obtain⟨loc',g1,g2,g3⟩:=s'.live 0 b' hb'
     obtain rfl:loc'=loc:=by rw [hφ0] at g1; simpa using g1.symm
     exact⟨loc',hloc,g2.names hpb',fun k hk=>⟨(hhas k hk).1,(g3 k hk).2⟩⟩
   · rw [Heap.upd_ne _ _ hid] at hi
     obtain⟨li,g1,g2,g3⟩:=s.live i bi hi
     have hout:∀ k,li.has k→¬ C1.G k:=fun k hk hg=>hid (s.sep i 0 bi b li loc k hi hb g1 hloc hk hg)
     have hblk:∀ k,li.has k→w'.heap[k]?=w.heap[k]?:=fun k hk=>s'.kept k (s.has_lt hi g1 hk) (hout k hk)
     refine⟨li,g1,g2.mono s'.ext (fun _ _ h=>h) hblk,fun k hk=>⟨(g3 k hk).1,fun x hx=>?_⟩⟩
     rw [s'.old x (by rw [hx]; exact s.has_lt hi g1 hk) (by rw [hx]; exact hout k hk)]
     exact (g3 k hk).2 x hx
 · have conv : ∀ {i : Nat} {bi : Bx}, (h.upd 0 b') i = some bi → ∃ b0, h i = some b0 := by
    intro i bi hi
    by_cases hid:i=0
    · subst hid; exact⟨b,hb⟩
    · rw [Heap.upd_ne _ _ hid] at hi; exact⟨bi,hi⟩
   obtain⟨b1,h1⟩:=conv hi
   obtain⟨b2,h2⟩:=conv hj
   exact s.sep i j b1 b2 li lj k h1 h2 hli hlj hki hkj
theorem VSpec.ispec {f:FuncId} {b:Bx} {args:List PV} {R:PV→Bx→Prop} (hs:VSpec P f b args R) (hpb:pureLL b.elems) (hpr:innL (· = 0) args) {n:Nat} (hb:h 0=some b):ISpec P f n args h fun n' r h'=>n'=n∧∃ b',r.inn (· = 0)∧pureLL b'.elems∧R r b'∧h'=h.upd 0 b':=by
 refine⟨hs.1,fun C e F φ a w vs s hv=>(hs.run hpb hpr hb s hv).mono ?_⟩
 rintro en w' ⟨v,r,b',F',rfl,⟨h1,h2,h3⟩,hr,s'⟩
 exact⟨v,r,n,h.upd 0 b',F',φ,rfl,⟨rfl,b',h1,h2,h3,rfl⟩,hr,s'⟩
theorem OSpec.ispec {f:FuncId} {b:Bx} {args:List PV} {R:PV→Bx→Prop} (hs:OSpec P f b args R) (hpb:pureLL b.elems) (hpr:innL (· = 0) args) {n:Nat} (hb:h 0=some b):ISpec P f n args h fun n' r h'=>n'=n∧∃ b',r.pure∧pureLL b'.elems∧R r b'∧h'=h.upd 0 b':=by
 exact ISpec.mono (hs.vspec.ispec hpb hpr hb) fun _ _ _ ⟨h1,b',_,h3,⟨h4,h5⟩,h6⟩=>⟨h1,b',h4,h3,h5,h6⟩
end
end Go.Proofs.YtojlnagiaibgkaaGreatDoor
namespace Go.Proofs.YtojlnagiaibgkaaGreatDoor
open Go.Shelf
def Z22:Go.Shelf.Ren:=⟨fun|6=>101|15=>92|14=>130|28=>126|29=>127|20=>151|21=>152|22=>153|23=>154|24=>155|25=>156|26=>157|27=>158|46=>167|47=>146|48=>147|49=>168|50=>169|57=>172|n=>n,fun|22=>76|24=>38|25=>155|3=>3|39=>101|0=>0|53=>178|55=>25|4=>4|46=>171|45=>170|50=>175|5=>5|9=>9|66=>192|70=>196|76=>210|77=>147|n=>n,fun|n=>n⟩
theorem sortCube:Go.Proofs.SlLaysF0.n6 Tryz.prog Z22:={
 mixed:=by kernel_rfl
 f6:=⟨Tryz.f101.name,by decide,Tryz.func101.trans (congrArg some (by kernel_rfl))⟩
 f14:=⟨Tryz.f130.name,by decide,Tryz.func130.trans (congrArg some (by kernel_rfl))⟩
 f15:=Tryz.func92.trans (congrArg some (by kernel_rfl))
 f20:=⟨Tryz.f151.name,by decide,Tryz.func151.trans (congrArg some (by kernel_rfl))⟩
 f21:=⟨Tryz.f152.name,by decide,Tryz.func152.trans (congrArg some (by kernel_rfl))⟩
 f22:=⟨Tryz.f153.name,by decide,Tryz.func153.trans (congrArg some (by kernel_rfl))⟩
 f23:=⟨Tryz.f154.name,by decide,Tryz.func154.trans (congrArg some (by kernel_rfl))⟩
 f24:=⟨Tryz.f155.name,by decide,Tryz.func155.trans (congrArg some (by kernel_rfl))⟩
 f25:=⟨Tryz.f156.name,by decide,Tryz.func156.trans (congrArg some (by kernel_rfl))⟩
 f26:=⟨Tryz.f157.name,by decide,Tryz.func157.trans (congrArg some (by kernel_rfl))⟩
 f27:=⟨Tryz.f158.name,by decide,Tryz.func158.trans (congrArg some (by kernel_rfl))⟩
 f28:=Tryz.func126.trans (congrArg some (by kernel_rfl))
 f29:=Tryz.func127.trans (congrArg some (by kernel_rfl))
 f46:=⟨Tryz.f167.name,by decide,Tryz.func167.trans (congrArg some (by kernel_rfl))⟩
 f47:=Tryz.func146.trans (congrArg some (by kernel_rfl))
 f48:=Tryz.func147.trans (congrArg some (by kernel_rfl))
 f49:=⟨Tryz.f168.name,by decide,Tryz.func168.trans (congrArg some (by kernel_rfl))⟩
 f50:=⟨Tryz.f169.name,by decide,Tryz.func169.trans (congrArg some (by kernel_rfl))⟩
 f57:=⟨Tryz.f172.name,by decide,Tryz.func172.trans (congrArg some (by kernel_rfl))⟩
 t0:=Tryz.underlying0
 a0:=Tryz.isAgg0
 z0:=Tryz.sizeOf0
 v0:=Tryz.zeroValue0
 t3:=Tryz.underlying3
 a3:=Tryz.isAgg3
 z3:=Tryz.sizeOf3
 v3:=Tryz.zeroValue3
 t4:=Tryz.underlying4
 a4:=Tryz.isAgg4
 z4:=Tryz.sizeOf4
 v4:=Tryz.zeroValue4
 t5:=Tryz.underlying5
 a5:=Tryz.isAgg5
 z5:=Tryz.sizeOf5
 v5:=Tryz.zeroValue5
 t9:=Tryz.underlying9
 a9:=Tryz.isAgg9
 z9:=Tryz.sizeOf9
 v9:=Tryz.zeroValue9
 t22:=Tryz.underlying76
 a22:=Tryz.isAgg76
 z22:=Tryz.sizeOf76
 v22:=Tryz.zeroValue76
 t25:=Tryz.underlying155
 a25:=Tryz.isAgg155
 z25:=Tryz.sizeOf155
 v25:=Tryz.zeroValue155
 t39:=Tryz.underlying101
 a39:=Tryz.isAgg101
 z39:=Tryz.sizeOf101
 v39:=Tryz.zeroValue101
 t45:=Tryz.underlying170
 a45:=Tryz.isAgg170
 z45:=Tryz.sizeOf170
 v45:=Tryz.zeroValue170
 t46:=Tryz.underlying171
 a46:=Tryz.isAgg171
 z46:=Tryz.sizeOf171
 v46:=Tryz.zeroValue171
 t50:=Tryz.underlying175
 a50:=Tryz.isAgg175
 z50:=Tryz.sizeOf175
 v50:=Tryz.zeroValue175
 t53:=Tryz.underlying178
 a53:=Tryz.isAgg178
 z53:=Tryz.sizeOf178
 v53:=Tryz.zeroValue178
 t55:=Tryz.underlying25
 a55:=Tryz.isAgg25
 z55:=Tryz.sizeOf25
 v55:=Tryz.zeroValue25
 t66:=Tryz.underlying192
 a66:=Tryz.isAgg192
 z66:=Tryz.sizeOf192
 v66:=Tryz.zeroValue192
 t70:=Tryz.underlying196
 a70:=Tryz.isAgg196
 z70:=Tryz.sizeOf196
 v70:=Tryz.zeroValue196
 t76:=Tryz.underlying210
 a76:=Tryz.isAgg210
 z76:=Tryz.sizeOf210
 v76:=Tryz.zeroValue210
 t77:=Tryz.underlying147
 a77:=Tryz.isAgg147
 z77:=Tryz.sizeOf147
 v77:=Tryz.zeroValue147 }
theorem Z83:∀ w,(isAgg (Z22.t 24)).run Tryz.prog w=.ok true w:=Tryz.isAgg38
theorem Z78:∀ w,(Go.sizeOf (Z22.t 24)).run Tryz.prog w=.ok 2 w:=Tryz.sizeOf38
end Go.Proofs.YtojlnagiaibgkaaGreatDoor
namespace Go.Proofs.YtojlnagiaibgkaaGreatDoor
open Go.RowKit
attribute [local irreducible] aw opsK dK
abbrev Cu64:={ c:Cu // Ok64 c }
def SortedC (l:List Cu):Prop:=l.Pairwise fun a b=>keyC a≤keyC b
theorem Zer (a b:Cu):cmpC a b<0↔keyC a<keyC b:=by rw [Zem]; exact Zai
theorem all64 {xs:List Cu} (h:∀ c∈xs,Ok64 c):∃ l:List Cu64,l.map (·.1)=xs:=by
 induction xs with
 | nil=>exact⟨[],rfl⟩
 | cons c xs ih =>
   obtain⟨l,hl⟩:=ih fun d hd=>h d (List.mem_cons_of_mem _ hd)
   exact⟨⟨c,h c (List.mem_cons_self ..)⟩ :: l,by rw [List.map_cons,hl]⟩
theorem Z9g {n ob:Nat} {h:Heap} (xs:List Cu) (hx:∀ c∈xs,Ok64 c) (hh:h ob=some ⟨2,xs.map cuC⟩) :
 ISpec Tryz.prog 101 n [.own ob,.fn 102 []] h fun n' r h'=>n'=n∧r=.tup []∧∃ ys:List Cu,ys.Perm xs∧SortedC ys∧h'=h.upd ob ⟨2,ys.map cuC⟩:=by
 obtain⟨l,rfl⟩:=all64 hx
 have e:∀ l:List Cu64,(l.map (·.1)).map cuC=l.map fun c:Cu64=>cuC c.1:=fun l=>by rw [List.map_map]; rfl
 rw [e] at hh
 have hs:=Z48 (P:=Tryz.prog) (ρ:=Z22) (n:=n) sortCube ⟨_,Tryz.func101,by kernel_rfl,by kernel_rfl⟩ 2 (by decide) Z83 Z78 (fun c:Cu64=>cuC c.1) (fun c=>rfl) (fun c=>Z23 c.1) (fun c:Cu64=>keyC c.1) (fun a b:Cu64=>cmpC a.1 b.1) (fun a b=>Zer a.1 b.1) 102 [] trivial (fun a b=>Z7c a.1 b.1 a.2 b.2) l hh
 refine hs.mono ?_
 rintro n' r h' ⟨h1,h2,ys,h3,h4,h5⟩
 refine⟨h1,h2,ys.map (·.1),h3.map _,?_,by rw [e]; exact h5⟩
 exact List.pairwise_map.2 h4
theorem Zbr (N:Nat) (hN:N<18446744073709551616) (i:Nat) (hi:i<64):Spec Tryz.prog 75 [setN N,.val (.int .i64 (i:Int))] (· = setN (N ||| 2 ^ i)):=by
 have h:=Z2I N (Nat.le_trans (Z1P hN) (by decide)) (i:Int)
 have e:withN N (i:Int)=N ||| 2 ^ i:=by
  unfold withN
  rw [if_pos ⟨by omega,by omega⟩,Int.toNat_natCast]
 rw [e] at h
 exact h
theorem fd64 (a i:Nat) (hi:i<64):Int.fdiv (a:Int) (2 ^ (min (i:Int).toNat IntKind.i64.bits))=((a / 2 ^ i:Nat):Int):=by
 have e:min (i:Int).toNat IntKind.i64.bits=i:=by rw [Int.toNat_natCast]; show min i 64=i; omega
 rw [e,Z20]
theorem Z7d (a b:Nat) (ha:a<9223372036854775808) (hb:b<9223372036854775808):bits .and .i64 (a:Int) (b:Int)=((a &&& b:Nat):Int):=by
 have h1:(BitVec.ofInt 64 (a:Int)).toNat=a:=by rw [BitVec.ofInt_natCast,BitVec.toNat_ofNat]; exact Nat.mod_eq_of_lt (by omega)
 have h2:(BitVec.ofInt 64 (b:Int)).toNat=b:=by rw [BitVec.ofInt_natCast,BitVec.toNat_ofNat]; exact Nat.mod_eq_of_lt (by omega)
 show IntKind.i64.wrap ((BitVec.ofInt 64 (a:Int) &&& BitVec.ofInt 64 (b:Int)).toNat:Int)=_
 rw [BitVec.toNat_and,h1,h2]
 have:a &&& b≤a:=Nat.and_le_left
 exact IntWalk.i64_in _ ⟨by omega,by omega⟩
theorem ZcU (a b:Nat) (ha:a<9223372036854775808) (hb:b<9223372036854775808):bits .or .i64 (a:Int) (b:Int)=((a ||| b:Nat):Int):=by
 have h1:(BitVec.ofInt 64 (a:Int)).toNat=a:=by rw [BitVec.ofInt_natCast,BitVec.toNat_ofNat]; exact Nat.mod_eq_of_lt (by omega)
 have h2:(BitVec.ofInt 64 (b:Int)).toNat=b:=by rw [BitVec.ofInt_natCast,BitVec.toNat_ofNat]; exact Nat.mod_eq_of_lt (by omega)
 show IntKind.i64.wrap ((BitVec.ofInt 64 (a:Int) ||| BitVec.ofInt 64 (b:Int)).toNat:Int)=_
 rw [BitVec.toNat_or,h1,h2]
 have:a ||| b<2 ^ 63:=Nat.or_lt_two_pow ha hb
 exact IntWalk.i64_in _ ⟨by omega,by omega⟩
theorem Z7e (a i:Nat) (ha:a<9223372036854775808):bits .and .i64 ((a / 2 ^ i:Nat):Int) 1=if a.testBit i=true then 1 else 0:=by
 have h:=Z7d (a / 2 ^ i) 1 (Nat.lt_of_le_of_lt (Nat.div_le_self _ _) ha) (by decide)
 rw [show ((1:Nat):Int)=1 from rfl] at h
 rw [h,Nat.and_one_is_mod,Nat.testBit_eq_decide_div_mod_eq]
 by_cases hb:a / 2 ^ i % 2=1
 · simp [hb]
 · have : a / 2 ^ i % 2 = 0 := by omega
   simp [this]
theorem Z3k (l:List Nat):lowLL (words l)=words l:=by simp [words,Z6G,lowL,PV.low]
theorem ZcV (roles:List Nat) (hr:∀ r∈roles,r<64) (hl:roles.length≤60) (p q:PV) (fl:Bool) (hp:p.pure) (hq:q.pure) (m:Nat) (hm:m<9223372036854775808) :
 Spec Tryz.prog 100 [.cp [.vec (nums (intsN roles)) fl,p,q],.val (.int .i64 (m:Int))] (· = setN (setM roles m)):=by
 refine Z2 ok100 (Nat.le_of_ble_eq_true rfl) fun C hC=>?_
 have hnl:(nums (intsN roles)).length=roles.length:=by simp [nums,intsN]
 have hrw:nums (intsN roles)=roles.map fun (x:Nat) => [PV.val (.int .i64 (x:Int))]:=by simp [nums,intsN]
 refine Zh ?_
 refine Za ?_
 (first|refine st ?_|(apply B<;>intro hb<;>try cases hb))
 (refine go ?_;repeat' (apply B<;>intro hb<;>try cases hb))
 refine ZD hC (fun (x:Nat×Bool)=>x.1≤roles.length) (fun x=>roles.length-x.1) 2 (fun x => [(1,.val (.int .i64 (m:Int))),(4,.ptr 0 0 0),(5,.ptr 1 0 0),(11,.vec (nums (intsN roles)) fl),(12,.val (.int .i64 (roles.length:Int))),(13,.val (.int .i64 (x.1:Int)))])
  (fun x => [(0,⟨1,[[.vec [] true]]⟩),(1,⟨1,[[.vec (words (digs (setTo roles m x.1))) x.2]]⟩)]) (Nat.zero_le _) (0,true) (Nat.zero_le _)
  ⟨⟨rfl,trivial⟩,⟨rfl,show (0:Nat)<2 by decide⟩,⟨rfl,show (1:Nat)<2 by decide⟩,⟨rfl,Zt _ _⟩,⟨by rw [← hnl]; rfl,trivial⟩,⟨rfl,trivial⟩,trivial⟩
  ⟨⟨by decide,rfl,⟨trivial,trivial⟩,trivial⟩,⟨by decide,by simp only [setTo]; rw [Zr]; rfl,⟨ZA _ _,trivial⟩,trivial⟩,trivial⟩ ?_
 rintro⟨i,b⟩ hi
 dsimp only at hi ⊢
 have hinc:IntKind.i64.wrap ((i:Int)+1)=((i+1:Nat):Int):=IntWalk.i64_in _ ⟨by omega,by omega⟩
 have hlt:=Z73 hr m i hi
 (refine go ?_;repeat' (apply B<;>intro hb<;>try cases hb))
 · have hil : i < roles.length := by simpa using hb
   have hri:roles.getD i 0<64:=by rw [List.getD_eq_getElem?_getD,List.getElem?_eq_getElem hil]; exact hr _ (List.getElem_mem _)
   have hre:roles[i]=roles.getD i 0:=by rw [List.getD_eq_getElem?_getD,List.getElem?_eq_getElem hil]; rfl
   rw [hrw]
   refine Z5 (Zl (xs:=roles) rfl rfl i rfl hil rfl) rfl rfl ?_
   (refine go ?_;repeat' (apply B<;>intro hb<;>try cases hb))
   · rw [fd64 m i (by omega), Z7e m i hm] at hb
     have hbit:m.testBit i=true:=by
      cases h:m.testBit i with
      | true=>rfl
      | false=>rw [h] at hb; cases hb
     rw [hre]
     refine Zb4 (Zbr (setTo roles m i) hlt _ hri) rfl rfl (by show [PV.agg [PV.vec (lowLL (words _)) false],_]=_; rw [Z3k]; rfl) ⟨Z1 _,trivial,trivial⟩ rfl ?_
     (refine go ?_;repeat' (apply B<;>intro hb<;>try cases hb))
     have hst:setTo roles m (i+1)=setTo roles m i ||| 2 ^ (roles.getD i 0):=by simp only [setTo]; rw [if_pos hbit]
     exact⟨(i+1,false),by show i+1≤_; omega,by show _-(i+1)<_-i; omega,
      ⟨⟨rfl,trivial⟩,⟨rfl,show (0:Nat)<2 by decide⟩,⟨rfl,show (1:Nat)<2 by decide⟩,⟨rfl,by rw [← hrw]; exact Zt _ _⟩,⟨rfl,trivial⟩,⟨by show some _=some _; rw [hinc],trivial⟩,trivial⟩,
      ⟨⟨by decide,rfl,⟨trivial,trivial⟩,trivial⟩,⟨by decide,by rw [hst]; rfl,⟨ZA _ _,trivial⟩,trivial⟩,trivial⟩⟩
   · rw [fd64 m i (by omega), Z7e m i hm] at hb
     have hbit:¬ m.testBit i=true:=fun h=>by rw [h] at hb; cases hb
     have hst:setTo roles m (i+1)=setTo roles m i:=by simp only [setTo]; rw [if_neg hbit]
     exact⟨(i+1,b),by show i+1≤_; omega,by show _-(i+1)<_-i; omega,
      ⟨⟨rfl,trivial⟩,⟨rfl,show (0:Nat)<2 by decide⟩,⟨rfl,show (1:Nat)<2 by decide⟩,⟨rfl,by rw [← hrw]; exact Zt _ _⟩,⟨rfl,trivial⟩,⟨by show some _=some _; rw [hinc],trivial⟩,trivial⟩,
      ⟨⟨by decide,rfl,⟨trivial,trivial⟩,trivial⟩,⟨by decide,by rw [hst]; rfl,⟨ZA _ _,trivial⟩,trivial⟩,trivial⟩⟩
 · have hil : i = roles.length := by simp at hb; omega
   subst hil
   refine Z3e rfl ⟨by show pureLL (lowLL (words _)); rw [Z3k]; exact Zd _,trivial⟩ ?_
   show PV.agg [PV.vec (lowLL (words _)) false]=_
   rw [Z3k]
   rfl
abbrev Ke:=Nat×Nat
def keyW (p:Ke):PV:=.agg [.val (.int .i64 (p.1:Int)),.val (.int .i64 (p.2:Int))]
def rowK (k:Nat) (ok:Nat→Bool) (p:Ke):List PV := [keyW p,.val (.bool (impB k ok p.1 p.2))]
def rowsK (k:Nat) (ok:Nat→Bool) (ks:List Ke):List (List PV):=ks.map (rowK k ok)
theorem Zj (k:Nat) (ok:Nat→Bool) (ks:List Ke):pureLL (rowsK k ok ks):=Z2f _ _ fun _ _=>⟨⟨trivial,trivial,trivial⟩,trivial,trivial⟩
theorem Z7f (p q:Ke):pkeq (.agg [0,0]) (keyW p) (keyW q)=some (decide (p=q)):=by
 have h:pkeq (.agg [0,0]) (keyW p) (keyW q)=some (((p.1:Int) == (q.1:Int))&&(((p.2:Int) == (q.2:Int))&&true)):=by
  simp [pkeq,keyW,eqCells,eqCell]
 rw [h]
 congr 1
 rw [Bool.eq_iff_iff]
 simp [Prod.ext_iff]
 omega
theorem Z49 (k:Nat) (ok:Nat→Bool) (p:Ke):∀ ks:List Ke,(∃ j,mfind (.agg [0,0]) (keyW p) (rowsK k ok ks)=some (some j)∧(rowsK k ok ks).getD j []=rowK k ok p∧j<ks.length) ∨ mfind (.agg [0,0]) (keyW p) (rowsK k ok ks)=some none
 | []=>.inr rfl
 | q :: ks => by
   have hq:pkeq (.agg [0,0]) (keyW p) ((rowK k ok q).getD 0 pvu)=some (decide (p=q)):=Z7f p q
   show (∃ j,mfind _ _ (rowK k ok q :: rowsK k ok ks)=_∧(rowK k ok q :: rowsK k ok ks).getD j []=_∧_) ∨ mfind _ _ (rowK k ok q :: rowsK k ok ks)=_
   by_cases h:p=q
   · subst h
     refine .inl ⟨0,?_,rfl,Nat.succ_pos _⟩
     simp only [mfind,hq,decide_true]
   · rw [decide_eq_false h] at hq
     rcases Z49 k ok p ks with⟨j,h1,h2,h3⟩|h1
     · exact .inl ⟨j+1,by simp only [mfind,hq,h1],h2,Nat.succ_lt_succ h3⟩
     · exact .inr (by simp only [mfind,hq,h1])
theorem Zfw {n:Nat} {e:Env} {h:Heap} {z:List Value} {x y:Operand} {i j:Nat} {b:Bx} {c:KC} {kp:PV} (hx:ev e x=some (.mp i)) (hy:ev e y=some kp) (hb:h i=some b) (hz:b.esz=0) (hk:pkeq c kp kp=some true) (hf:mfind c kp b.elems=some (some j)) :
 dEval (.lookup c false z true x y) e h n=some (.tup [(b.elems.getD j []).getD 1 pvu,.val (.bool true)],h):=by
 simp [dEval,hx,hy,hb,hz,hk,hf]
theorem Zfx {n:Nat} {e:Env} {h:Heap} {z:List Value} {x y:Operand} {i:Nat} {b:Bx} {c:KC} {kp:PV} (hx:ev e x=some (.mp i)) (hy:ev e y=some kp) (hb:h i=some b) (hz:b.esz=0) (hk:pkeq c kp kp=some true) (hf:mfind c kp b.elems=some none) :
 dEval (.lookup c false z true x y) e h n=some (.tup [zval false z,.val (.bool false)],h):=by
 simp [dEval,hx,hy,hb,hz,hk,hf]
theorem Zg3 {n:Nat} {e:Env} {h:Heap} {x y v:Operand} {k:Nat} {ok:Nat→Bool} {ks:List Ke} {p:Ke} (hx:ev e x=some (.mp 0)) (hy:ev e y=some (keyW p)) (hv:ev e v=some (.val (.bool (impB k ok p.1 p.2)))) (hb:h 0=some ⟨0,rowsK k ok ks⟩) :
 ∃ ks',dEval (.mapset (.agg [0,0]) x y v) e h n=some (pvu,h.upd 0 ⟨0,rowsK k ok ks'⟩):=by
 have hk:pkeq (.agg [0,0]) (keyW p) (keyW p)=some true:=by rw [Z7f]; simp
 rcases Z49 k ok p ks with⟨j,h1,h2,h3⟩|h1
 · refine ⟨ks, ?_⟩
   have hset:(rowsK k ok ks).set j (rowK k ok p)=rowsK k ok ks:=by
    apply List.ext_getElem
    · simp
    · intro i h4 h5
      rw [List.getElem_set]
      split
      · rename_i hij
        subst hij
        rw [List.getD_eq_getElem?_getD,List.getElem?_eq_getElem h5] at h2
        exact h2.symm
      · rfl
   simp only [dEval,hx,hy,hv,hb,hk,h1,and_self,if_true]
   rw [show [keyW p,PV.val (.bool (impB k ok p.1 p.2))]=rowK k ok p from rfl,hset]
 · refine ⟨ks ++ [p], ?_⟩
   simp only [dEval,hx,hy,hv,hb,hk,h1,and_self,if_true]
   simp [rowsK,rowK]
structure TabOk (roles:List Nat) (is:Nat→Bool) (g:Nat) (caps:List PV):Prop where
 lt:∀ r∈roles,r<64
 len:roles.length≤60
 pure:pureL caps
 is:∀ S,S<18446744073709551616→Spec Tryz.prog g (setN S :: caps) (· = .val (.bool (is S)))
def tabP (roles:List Nat) (fl:Bool) (g:Nat) (caps:List PV):PV:=.cp [.vec (nums (intsN roles)) fl,.fn g caps,.mp 0]
theorem Z35 {roles:List Nat} {fl:Bool} {is:Nat→Bool} {g:Nat} {caps:List PV} (H:TabOk roles is g caps) {m:Nat} (hm:0<m):(tabP roles fl g caps).inn (· < m):=⟨Zt _ _,ZJ (fun _ h=>h.elim) _ H.pure,hm,trivial⟩
def okM (roles:List Nat) (is:Nat→Bool) (m:Nat):Bool:=is (setM roles m)
def tabB (roles:List Nat) (is:Nat→Bool) (ks:List Ke):Bx:=⟨0,rowsK roles.length (okM roles is) ks⟩
def ImpR (roles:List Nat) (is:Nat→Bool) (y n:Nat) (r:PV) (b':Bx):Prop:=r=.val (.bool (impB roles.length (okM roles is) y n))∧∃ ks,b'=tabB roles is ks
theorem Zfy {n:Nat} {e:Env} {h:Heap} {x y:Operand} {k:Nat} {ok:Nat→Bool} {ks:List Ke} {p:Ke} (hx:ev e x=some (.mp 0)) (hy:ev e y=some (keyW p)) (hb:h 0=some ⟨0,rowsK k ok ks⟩) :
 dEval (.lookup (.agg [0,0]) false [.bool false] true x y) e h n=some (.tup [.val (.bool (impB k ok p.1 p.2)),.val (.bool true)],h) ∨ dEval (.lookup (.agg [0,0]) false [.bool false] true x y) e h n=some (.tup [.val (.bool false),.val (.bool false)],h):=by
 have hk:pkeq (.agg [0,0]) (keyW p) (keyW p)=some true:=by rw [Z7f]; simp
 rcases Z49 k ok p ks with⟨j,h1,h2,h3⟩|h1
 · left
   rw [Zfw hx hy hb rfl hk h1,h2]
   rfl
 · exact .inr (Zfx hx hy hb rfl hk h1)
theorem Zes {P:Program} {zz:Rsv} {n i mask:Nat} {e:Env} {h:Heap} {d:Option Nat} {iso:Nat} {xs:List DItem} {K:Env→Heap→Prop} {x y:Operand} {k:Nat} {ok:Nat→Bool} {ks:List Ke} (p:Ke) (hx:ev e x=some (.mp 0)) (hy:ev e y=some (keyW p)) (hb:h 0=some ⟨0,rowsK k ok ks⟩)
 (ha:accOk zz (.lookup (.agg [0,0]) false [.bool false] true x y) e n i mask iso=true) (h1:dK P zz n xs (updO e d (.tup [.val (.bool (impB k ok p.1 p.2)),.val (.bool true)])) h K) (h2:dK P zz n xs (updO e d (.tup [.val (.bool false),.val (.bool false)])) h K) :
 dK P zz n (⟨i,⟨d,.lookup (.agg [0,0]) false [.bool false] true x y,none⟩,mask,iso,false⟩ :: xs) e h K:=by
 rcases Zfy (n:=n+i) hx hy hb with hE|hE
 · exact Zp hE ha rfl h1
 · exact Zp hE ha rfl h2
theorem Z9h {P:Program} {zz:Rsv} {n i mask:Nat} {e:Env} {h:Heap} {iso:Nat} {xs:List DItem} {K:Env→Heap→Prop} {d:Option Nat} {x y v:Operand} {k:Nat} {ok:Nat→Bool} {ks:List Ke} (p:Ke) (hx:ev e x=some (.mp 0)) (hy:ev e y=some (keyW p)) (hv:ev e v=some (.val (.bool (impB k ok p.1 p.2)))) (hb:h 0=some ⟨0,rowsK k ok ks⟩)
 (ha:accOk zz (.mapset (.agg [0,0]) x y v) e n i mask iso=true) (hk:∀ ks',dK P zz n xs (updO e d pvu) (h.upd 0 ⟨0,rowsK k ok ks'⟩) K) :
 dK P zz n (⟨i,⟨d,.mapset (.agg [0,0]) x y v,none⟩,mask,iso,false⟩ :: xs) e h K:=by
 obtain⟨ks',hE⟩:=Zg3 (n:=n+i) hx hy hv hb
 exact Zp hE ha rfl (hk ks')
def freeTo (x:Nat):Nat→Int
 | 0 => -1
 | t+1=>if x.testBit t then freeTo x t else (t:Int)
theorem Z3l (x:Nat):∀ t,(freeTo x t = -1∧∀ i,i<t→x.testBit i=true) ∨ ∃ i:Nat,freeTo x t=(i:Int)∧i<t∧x.testBit i=false
 | 0=>.inl ⟨rfl,fun i hi=>absurd hi (Nat.not_lt_zero i)⟩
 | t + 1 => by
   simp only [freeTo]
   cases hb:x.testBit t with
   | false=>exact .inr ⟨t,by simp,Nat.lt_succ_self t,hb⟩
   | true =>
     rcases Z3l x t with⟨h1,h2⟩|⟨i,h1,h2,h3⟩
     · refine .inl ⟨by simpa using h1, fun i hi => ?_⟩
       by_cases h:i=t
       · subst h; exact hb
       · exact h2 i (by omega)
     · exact .inr ⟨i,by simpa using h1,by omega,h3⟩
theorem Z5o (roles:List Nat) (fl:Bool) (is:Nat→Bool) (g:Nat) (caps:List PV) (H:TabOk roles is g caps) (m:Nat) (hm:m<9223372036854775808) :
 Takes Tryz.prog 100 [tabP roles fl g caps,.val (.int .i64 (m:Int))] (· = setN (setM roles m)):=by
 have hs:=fun q hq=>ZcV roles H.lt H.len (.fn g caps) q fl H.pure hq m hm
 refine⟨(hs pvu trivial).1,fun F φ vs hr=>?_⟩
 have h0:Rep F φ (vs.getD 0 undef) (tabP roles fl g caps):=hr.2 0 (by simp)
 obtain⟨x,cs,hv,hsp,hF,hR⟩:=h0.cp_inv
 refine⟨[.cp [.vec (nums (intsN roles)) fl,.fn g caps,.val (cs 2)],.val (.int .i64 (m:Int))],⟨hr.1,fun i hi=>?_⟩,hs (.val (cs 2)) trivial⟩
 match i,hi with
 | 0, _ =>
   rw [hv]
   refine .cp x _ cs hsp hF fun j hj=>?_
   match j,hj with
   | 0,_=>exact (hR 0 (by simp)).pure (Z9 _)
   | 1,_=>exact (hR 1 (by simp)).pure H.pure
   | 2,_=>exact .val _
 | 1,_=>exact (hr.2 1 (by simp)).pure trivial
theorem ZcW {x i:Nat} (h:x.testBit i=false):x<x ||| 2 ^ i:=by
 refine Nat.lt_of_le_of_ne Nat.left_le_or fun he=>?_
 have:=congrArg (·.testBit i) he
 simp only [ZN,h] at this
 simp at this
theorem shl1 (j:Nat) (hj:j<62):IntKind.i64.wrap (1*2 ^ (min (j:Int).toNat IntKind.i64.bits))=((2 ^ j:Nat):Int):=by
 have e:min (j:Int).toNat IntKind.i64.bits=j:=by rw [Int.toNat_natCast]; show min j 64=j; omega
 have h:2 ^ j<4611686018427387904:=Nat.pow_lt_pow_right (a:=2) (n:=62) (by decide) hj
 rw [e,Int.one_mul,show ((2:Int) ^ j)=((2 ^ j:Nat):Int) by rw [Int.natCast_pow]; rfl]
 generalize 2 ^ j=q at h ⊢
 exact IntWalk.i64_in _ ⟨by omega,by omega⟩
theorem Z5p {y n j:Nat} (h:y &&& n=0) (hj:n.testBit j=false):(y ||| 2 ^ j) &&& n=0:=by
 refine Nat.eq_of_testBit_eq fun i=>?_
 have h1:=congrArg (·.testBit i) h
 simp only [Nat.testBit_and,Nat.zero_testBit] at h1
 rw [Nat.testBit_and,ZN,Nat.zero_testBit]
 by_cases hi:j=i
 · subst hi; rw [hj]; simp
 · rw [decide_eq_false hi,Bool.or_false]; exact h1
set_option maxHeartbeats 4000000 in
theorem Z5W (roles:List Nat) (fl:Bool) (is:Nat→Bool) (g:Nat) (caps:List PV) (H:TabOk roles is g caps):∀ (d y n:Nat),y<2 ^ roles.length→n<2 ^ roles.length→y &&& n=0→2 ^ roles.length-(y ||| n)≤d→∀ ks,
 OSpec Tryz.prog 129 (tabB roles is ks) [tabP roles fl g caps,.val (.int .i64 (y:Int)),.val (.int .i64 (n:Int))] (ImpR roles is y n):=by
 intro d
 induction d with
 | zero=>intro y n hy hn _ hd; have:=Nat.or_lt_two_pow hy hn; omega
 | succ d ih =>
   intro y n hy hn hdis hd ks
   have hk60:2 ^ roles.length≤1152921504606846976:=Nat.le_trans (Nat.pow_le_pow_right (by decide) H.len) (by decide)
   have hlen:=H.len
   have hor:=Nat.or_lt_two_pow hy hn
   have hor64:=ZcU y n (by omega) (by omega)
   have hnl:(nums (intsN roles)).length=roles.length:=by simp [nums,intsN]
   refine ZX ok129 (Nat.le_of_ble_eq_true rfl) fun C hC=>?_
   refine Zh ?_
   refine Za ?_
   (refine go ?_;repeat' (apply B<;>intro hb<;>try cases hb))
   refine Zes (y,n) rfl rfl rfl rfl ?_ ?_
   · dsimp only
     generalize hv:impB roles.length (okM roles is) y n=v
     (refine go ?_;repeat' (apply B<;>intro hb<;>try cases hb))
     all_goals exact Z71 rfl trivial rfl (Zj _ _ ks) ⟨by rw [hv],ks,rfl⟩
   · (refine go ?_;repeat' (apply B<;>intro hb<;>try cases hb))
     refine Z6W (n':=13) hC [(0,tabP roles fl g caps),(1,.val (.int .i64 (y:Int))),(2,.val (.int .i64 (n:Int))),(7,.ptr 1 0 0),(10,.val (.int .i64 (-1))),(31,.val (.int .i64 (roles.length:Int))),(32,.val (.int .i64 0))] [(0,tabB roles is ks),(1,⟨2,[[.val (.int .i64 (y:Int)),.val (.int .i64 (n:Int))]]⟩)] (by decide)
      ⟨⟨rfl,Z35 H (by decide)⟩,⟨rfl,trivial⟩,⟨rfl,trivial⟩,⟨rfl,show (1:Nat)<13 by decide⟩,⟨rfl,trivial⟩,⟨by rw [← hnl]; rfl,trivial⟩,⟨rfl,trivial⟩,trivial⟩
      ⟨⟨by decide,rfl,Zi (fun _ h=>h.elim) _ (Zj _ _ ks)⟩,⟨by decide,rfl,⟨trivial,trivial,trivial⟩,trivial⟩,trivial⟩ ?_
     refine Z3D (fun i=>i≤roles.length) (fun i=>roles.length-i) (fun i => [(0,tabP roles fl g caps),(1,.val (.int .i64 (y:Int))),(2,.val (.int .i64 (n:Int))),(7,.ptr 1 0 0),(10,.val (.int .i64 (freeTo (y ||| n) i))),(31,.val (.int .i64 (roles.length:Int))),(32,.val (.int .i64 (i:Int)))]) 0 (Nat.zero_le _) ⟨rfl,rfl,rfl,rfl,rfl,rfl,rfl,trivial⟩ ?_
     intro i hi
     have hinc:IntKind.i64.wrap ((i:Int)+1)=((i+1:Nat):Int):=IntWalk.i64_in _ ⟨by omega,by omega⟩
     (refine go ?_;repeat' (apply B<;>intro hb<;>try cases hb))
     · have hil : i < roles.length := by simpa using ‹decide ((i : Int) < (roles.length : Int)) = true›
       rw [hor64,fd64 _ i (by omega),Z7e _ i (by omega)] at hb
       have hbit:(y ||| n).testBit i=false:=by
        cases h:(y ||| n).testBit i with
        | false=>rfl
        | true=>rw [h] at hb; cases hb
       refine⟨i+1,by omega,by omega,rfl,rfl,⟨rfl,rfl,rfl,rfl,?_,rfl,by show some _=some _; rw [hinc],trivial⟩⟩
       show some _=some _
       simp only [freeTo,hbit]
       rfl
     · have hil : i < roles.length := by simpa using ‹decide ((i : Int) < (roles.length : Int)) = true›
       rw [hor64,fd64 _ i (by omega),Z7e _ i (by omega)] at hb
       have hbit:(y ||| n).testBit i=true:=by
        cases h:(y ||| n).testBit i with
        | true=>rfl
        | false=>rw [h] at hb; cases hb
       refine⟨i+1,by omega,by omega,rfl,rfl,⟨rfl,rfl,rfl,rfl,?_,rfl,by show some _=some _; rw [hinc],trivial⟩⟩
       show some _=some _
       simp only [freeTo,hbit]
       rfl
     · -- every role is mentioned
       have hil:i=roles.length:=by have:=of_decide_eq_false ‹decide ((i:Int)<(roles.length:Int))=false›; omega
       subst hil
       have hneg:freeTo (y ||| n) roles.length<0:=by simpa using hb
       have hall:∀ i,i<roles.length→(y ||| n).testBit i=true:=by
        rcases Z3l (y ||| n) roles.length with⟨_,h⟩|⟨i,h1,_,_⟩
        · exact h
        · omega
       have himp:=ZcQ (okM roles is) hy hdis hall
       refine Zgn rfl rfl (Z5o roles fl is g caps H y (by omega)) ?_
       rintro r rfl
       refine Zq (H.is (setM roles y) (Z99 H.lt y)) rfl rfl rfl ⟨Z1 _,H.pure⟩ ?_
       rw [show is (setM roles y)=impB roles.length (okM roles is) y n from himp.symm]
       generalize hv:impB roles.length (okM roles is) y n=v
       clear himp
       cases v
       all_goals
        (refine go ?_;repeat' (apply B<;>intro hb<;>try cases hb))
        refine Z9h (y,n) rfl rfl (by show some _=some _; rw [hv]) rfl rfl ?_
        intro ks'
        (refine go ?_;repeat' (apply B<;>intro hb<;>try cases hb))
        exact Z71 rfl trivial rfl (Zj _ _ ks') ⟨by rw [hv],ks',rfl⟩
     · -- a role is not mentioned
       have hil:i=roles.length:=by have:=of_decide_eq_false ‹decide ((i:Int)<(roles.length:Int))=false›; omega
       subst hil
       obtain⟨j,hj,hjl,hjb⟩:∃ j:Nat,freeTo (y ||| n) roles.length=(j:Int)∧j<roles.length∧(y ||| n).testBit j=false:=by
        rcases Z3l (y ||| n) roles.length with⟨h,_⟩|h
        · rw [h] at hb; cases hb
        · exact h
       rw [hj]
       have hpj:2 ^ j<2 ^ roles.length:=Nat.pow_lt_pow_right (by decide) hjl
       have hshl:IntKind.i64.wrap (1*2 ^ (min (j:Int).toNat IntKind.i64.bits))=((2 ^ j:Nat):Int):=shl1 j (by omega)
       have hjy:y.testBit j=false∧n.testBit j=false:=by rw [Nat.testBit_or,Bool.or_eq_false_iff] at hjb; exact hjb
       have hlt:=ZcW hjb
       have e1:(y ||| 2 ^ j) ||| n=(y ||| n) ||| 2 ^ j:=by rw [Nat.or_assoc,Nat.or_comm (2 ^ j),← Nat.or_assoc]
       have e2:y ||| (n ||| 2 ^ j)=(y ||| n) ||| 2 ^ j:=by rw [Nat.or_assoc]
       have hy1:=Nat.or_lt_two_pow hy hpj
       have hn1:=Nat.or_lt_two_pow hn hpj
       have hd1:(y ||| 2 ^ j) &&& n=0:=Z5p hdis hjy.2
       have hd2:y &&& (n ||| 2 ^ j)=0:=by rw [Nat.and_comm]; exact Z5p (by rw [Nat.and_comm]; exact hdis) hjy.1
       have hall:=Nat.or_lt_two_pow hor hpj
       have hsp:=Zbj roles.length (okM roles is) y n j
       refine Z5 (Ze9 rfl rfl (by omega) hshl) rfl rfl ?_
       refine Z5 (Z2p rfl (ZcU y (2 ^ j) (by omega) (by omega))) rfl rfl ?_
       (refine go ?_;repeat' (apply B<;>intro hb<;>try cases hb))
       refine Zx rfl rfl ((ih (y ||| 2 ^ j) n hy1 hn hd1 (by rw [e1];omega) ks).ispec (Zj _ _ ks) ⟨⟨Zt _ _,ZJ (fun _ h=>h.elim) _ H.pure,rfl,trivial⟩,trivial,trivial,trivial⟩ rfl) ?_
       rintro n' r h' ⟨rfl,b',-,-,⟨rfl,ks1,rfl⟩,rfl⟩
       generalize hv1:impB roles.length (okM roles is) (y ||| 2 ^ j) n=v1 at hsp
       cases v1
       · have hv : impB roles.length (okM roles is) y n = false := by rw [hsp]; rfl
         (refine go ?_;repeat' (apply B<;>intro hb<;>try cases hb))
         refine Z9h (y,n) rfl rfl (by show some _=some _; rw [hv]) rfl rfl ?_
         intro ks'
         (refine go ?_;repeat' (apply B<;>intro hb<;>try cases hb))
         exact Z71 rfl trivial rfl (Zj _ _ ks') ⟨by rw [hv],ks',rfl⟩
       · (refine go ?_;repeat' (apply B<;>intro hb<;>try cases hb))
         rw [hshl,ZcU n (2 ^ j) (by omega) (by omega)]
         refine Zx rfl rfl ((ih y (n ||| 2 ^ j) hy hn1 hd2 (by rw [e2];omega) ks1).ispec (Zj _ _ ks1) ⟨⟨Zt _ _,ZJ (fun _ h=>h.elim) _ H.pure,rfl,trivial⟩,trivial,trivial,trivial⟩ rfl) ?_
         rintro n' r h' ⟨rfl,b',-,-,⟨rfl,ks2,rfl⟩,rfl⟩
         rw [Bool.true_and] at hsp
         rw [← hsp]
         generalize hv:impB roles.length (okM roles is) y n=v
         clear hsp
         cases v
         all_goals
          (refine go ?_;repeat' (apply B<;>intro hb<;>try cases hb))
          refine Z9h (y,n) rfl rfl (by show some _=some _; rw [hv]) rfl rfl ?_
          intro ks'
          (refine go ?_;repeat' (apply B<;>intro hb<;>try cases hb))
          exact Z71 rfl trivial rfl (Zj _ _ ks') ⟨by rw [hv],ks',rfl⟩
theorem ZcX (y i:Nat):y &&& 2 ^ i=if y.testBit i=true then 2 ^ i else 0:=by
 refine Nat.eq_of_testBit_eq fun j=>?_
 rw [Nat.testBit_and,Nat.testBit_two_pow]
 by_cases h:i=j
 · subst h
   cases hb:y.testBit i<;>simp
 · cases hb:y.testBit i<;>simp [h]
theorem Zf6 {y i:Nat} (h:y.testBit i=true):2 ^ i≤y:=Nat.ge_two_pow_of_testBit h
theorem Z3m {y i:Nat} (hy:y<9223372036854775808) (hi:i<62) {b:Bool} (h:(bits .and .i64 (y:Int) (IntKind.i64.wrap (1*2 ^ (min (i:Int).toNat IntKind.i64.bits))) != 0)=b):y.testBit i=b:=by
 have hp:2 ^ i<4611686018427387904:=Nat.pow_lt_pow_right (a:=2) (n:=62) (by decide) hi
 rw [shl1 i hi,Z7d y (2 ^ i) hy (by omega),ZcX] at h
 cases hb:y.testBit i with
 | true =>
   rw [hb,if_pos rfl] at h
   rw [← h]
   have:0<2 ^ i:=Nat.pow_pos (by decide)
   generalize 2 ^ i=q at this
   symm
   simp
   omega
 | false =>
   rw [hb,if_neg (by decide)] at h
   rw [← h]
   rfl
theorem Z9i {y i:Nat} (hy:y<9223372036854775808) (hi:i<62) (h:y.testBit i=true):IntKind.i64.wrap ((y:Int)-IntKind.i64.wrap (1*2 ^ (min (i:Int).toNat IntKind.i64.bits)))=((y-2 ^ i:Nat):Int):=by
 rw [shl1 i hi]
 have:=Zf6 h
 generalize 2 ^ i=q at this ⊢
 rw [← Int.ofNat_sub this]
 exact IntWalk.i64_in _ ⟨by omega,by omega⟩
theorem Zg4:∀ {a b:Nat},a &&& b=0→a+b=a ||| b:=by
 intro a
 induction a using Nat.strongRecOn with
 | ind a ih =>
   intro b h
   by_cases h0:a=0
   · subst h0; simp
   · have h1 : a / 2 &&& b / 2 = 0 := by rw [← Nat.and_div_two, h]
     have h2:=ih (a / 2) (by omega) h1
     have h3:(a ||| b) / 2=a / 2 ||| b / 2:=Nat.or_div_two
     have h4 := @Nat.or_mod_two_eq_one a b
     have h5 := @Nat.and_mod_two_eq_one a b
     rw [h] at h5
     omega
theorem Z3n {y n i:Nat} (h:y.testBit i=true) (hd:y &&& n=0):(y-2 ^ i) &&& n=0:=by
 refine Nat.eq_of_testBit_eq fun j=>?_
 have h1:=congrArg (·.testBit j) hd
 simp only [Nat.testBit_and,Nat.zero_testBit] at h1
 rw [Nat.testBit_and,Nat.zero_testBit]
 have e:(y-2 ^ i).testBit j=(y.testBit j&&decide (j≠i)):=by
  have hle:=Zf6 h
  have hy:y=(y-2 ^ i)+2 ^ i:=by omega
  have hx:y-2 ^ i=y ^^^ 2 ^ i:=by
   have h2:y &&& 2 ^ i=2 ^ i:=by rw [ZcX,if_pos h]
   have h3:(y ^^^ 2 ^ i) &&& 2 ^ i=0:=by
    refine Nat.eq_of_testBit_eq fun t=>?_
    rw [Nat.testBit_and,Nat.testBit_xor,Nat.testBit_two_pow,Nat.zero_testBit]
    by_cases ht:i=t
    · subst ht; rw [h]; simp
    · simp [ht]
   have h4:(y ^^^ 2 ^ i) ||| 2 ^ i=y:=by
    refine Nat.eq_of_testBit_eq fun t=>?_
    rw [Nat.testBit_or,Nat.testBit_xor,Nat.testBit_two_pow]
    by_cases ht:i=t
    · subst ht; rw [h]; simp
    · simp [ht]
   have h5:(y ^^^ 2 ^ i)+2 ^ i=(y ^^^ 2 ^ i) ||| 2 ^ i:=Zg4 h3
   omega
  rw [hx,Nat.testBit_xor,Nat.testBit_two_pow]
  by_cases hj:i=j
  · subst hj; rw [h]; simp
  · have : j ≠ i := fun e => hj e.symm
    simp [hj,this]
 rw [e]
 cases hy:y.testBit j with
 | false=>rfl
 | true=>rw [hy] at h1; simp at h1; simp [h1]
def PrR (roles:List Nat) (is:Nat→Bool) (y n:Nat) (r:PV) (b':Bx):Prop:=r=.val (.bool (prB roles.length (okM roles is) y n))∧∃ ks,b'=tabB roles is ks
theorem Z5q {k:Nat} {ok:Nat→Bool} {y n i:Nat} (hi:i<k) (h:stepB k ok y n i=true):prB k ok y n=false:=by
 unfold prB
 rw [Bool.and_eq_false_iff]
 right
 rw [List.all_eq_false]
 exact⟨i,List.mem_range.2 hi,by rw [h]; decide⟩
theorem Zet {k:Nat} {ok:Nat→Bool} {y n:Nat} (h0:impB k ok y n=true) (h:∀ i,i<k→stepB k ok y n i=false):prB k ok y n=true:=by
 unfold prB
 rw [Bool.and_eq_true,List.all_eq_true]
 exact⟨h0,fun i hi=>by rw [h i (List.mem_range.1 hi)]; rfl⟩
theorem Z1y (roles:List Nat) (fl:Bool) (is:Nat→Bool) (g:Nat) (caps:List PV) (H:TabOk roles is g caps) {y n:Nat} (hy:y<2 ^ roles.length) (hn:n<2 ^ roles.length) (hd:y &&& n=0) (ks:List Ke) {m:Nat} {h:Heap} (hh:h 0=some (tabB roles is ks)) :
 ISpec Tryz.prog 129 m [tabP roles fl g caps,.val (.int .i64 (y:Int)),.val (.int .i64 (n:Int))] h fun n' r h'=>n'=m∧r=.val (.bool (impB roles.length (okM roles is) y n))∧∃ ks',h'=h.upd 0 (tabB roles is ks') :=
 ISpec.mono ((Z5W roles fl is g caps H _ y n hy hn hd (Nat.le_refl _) ks).ispec (Zj _ _ ks) ⟨⟨Zt _ _,ZJ (fun _ h=>h.elim) _ H.pure,rfl,trivial⟩,trivial,trivial,trivial⟩ hh)
  fun n' r h' ⟨h1,b',_,_,⟨h2,ks',h3⟩,h4⟩=>⟨h1,h2,ks',by rw [← h3]; exact h4⟩
set_option maxHeartbeats 4000000 in
theorem Zbs (roles:List Nat) (fl:Bool) (is:Nat→Bool) (g:Nat) (caps:List PV) (H:TabOk roles is g caps) (y n:Nat) (hy:y<2 ^ roles.length) (hn:n<2 ^ roles.length) (hdis:y &&& n=0) (ks:List Ke) :
 OSpec Tryz.prog 99 (tabB roles is ks) [tabP roles fl g caps,.val (.int .i64 (y:Int)),.val (.int .i64 (n:Int))] (PrR roles is y n):=by
 have hk60:2 ^ roles.length≤1152921504606846976:=Nat.le_trans (Nat.pow_le_pow_right (by decide) H.len) (by decide)
 have hlen:=H.len
 have hnl:(nums (intsN roles)).length=roles.length:=by simp [nums,intsN]
 refine ZX ok99 (Nat.le_of_ble_eq_true rfl) fun C hC=>?_
 refine Zh ?_
 refine Za ?_
 (refine go ?_;repeat' (apply B<;>intro hb<;>try cases hb))
 refine Zx rfl rfl (Z1y roles fl is g caps H hy hn hdis ks rfl) ?_
 rintro n' r h' ⟨rfl,rfl,ks1,rfl⟩
 generalize hv:impB roles.length (okM roles is) y n=v
 cases v
 · (refine go ?_;repeat' (apply B<;>intro hb<;>try cases hb))
   exact Z71 rfl trivial rfl (Zj _ _ ks1) ⟨by rw [prB,hv]; rfl,ks1,rfl⟩
 · (refine go ?_;repeat' (apply B<;>intro hb<;>try cases hb))
   refine ZD hC (fun (x:Nat×List Ke)=>x.1≤roles.length∧∀ i,i<x.1→stepB roles.length (okM roles is) y n i=false) (fun x=>roles.length-x.1) 1 (fun x => [(0,tabP roles fl g caps),(1,.val (.int .i64 (y:Int))),(2,.val (.int .i64 (n:Int))),(18,.val (.int .i64 (roles.length:Int))),(19,.val (.int .i64 (x.1:Int)))])
    (fun x => [(0,tabB roles is x.2)]) (Nat.le_refl _) (0,ks1) ⟨Nat.zero_le _,fun i hi=>absurd hi (Nat.not_lt_zero i)⟩
    ⟨⟨rfl,Z35 H (by decide)⟩,⟨rfl,trivial⟩,⟨rfl,trivial⟩,⟨by rw [← hnl]; rfl,trivial⟩,⟨rfl,trivial⟩,trivial⟩
    ⟨⟨by decide,rfl,Zi (fun _ h=>h.elim) _ (Zj _ _ ks1)⟩,trivial⟩ ?_
   rintro⟨i,ks2⟩ ⟨hi,hno⟩
   dsimp only at hi hno ⊢
   have hinc:IntKind.i64.wrap ((i:Int)+1)=((i+1:Nat):Int):=IntWalk.i64_in _ ⟨by omega,by omega⟩
   have hnext:stepB roles.length (okM roles is) y n i=false→∀ t,t<i+1→stepB roles.length (okM roles is) y n t=false:=fun h t ht=>by
    by_cases hti:t=i
    · subst hti; exact h
    · exact hno t (by omega)
   (refine go ?_;repeat' (apply B<;>intro hb<;>try cases hb))
   · have hil : i < roles.length := by simpa using ‹decide ((i : Int) < (roles.length : Int)) = true›
     have hyb:=Z3m (by omega) (by omega) hb
     rw [Z9i (by omega) (by omega) hyb]
     refine Zx rfl rfl (Z1y roles fl is g caps H (Nat.lt_of_le_of_lt (Nat.sub_le _ _) hy) hn (Z3n hyb hdis) ks2 rfl) ?_
     rintro n' r h' ⟨rfl,rfl,ks3,rfl⟩
     generalize hv1:impB roles.length (okM roles is) (y-2 ^ i) n=v1
     cases v1
     · clear hb
       (refine go ?_;repeat' (apply B<;>intro hb<;>try cases hb))
       · have hnb := Z3m (by omega) (by omega) hb
         rw [Z9i (by omega) (by omega) hnb]
         refine Zx rfl rfl (Z1y roles fl is g caps H hy (Nat.lt_of_le_of_lt (Nat.sub_le _ _) hn) (by rw [Nat.and_comm]; exact Z3n hnb (by rw [Nat.and_comm]; exact hdis)) ks3 rfl) ?_
         rintro n' r h' ⟨rfl,rfl,ks4,rfl⟩
         generalize hv2:impB roles.length (okM roles is) y (n-2 ^ i)=v2
         cases v2
         · (refine go ?_;repeat' (apply B<;>intro hb<;>try cases hb))
           have hst:stepB roles.length (okM roles is) y n i=false:=by rw [stepB,hyb,hv1,hnb,hv2]; rfl
           exact⟨(i+1,ks4),⟨by show i+1≤_; omega,hnext hst⟩,by show _-(i+1)<_-i; omega,⟨⟨rfl,Z35 H (by decide)⟩,⟨rfl,trivial⟩,⟨rfl,trivial⟩,⟨rfl,trivial⟩,⟨by show some _=some _; rw [hinc],trivial⟩,trivial⟩,⟨⟨by decide,rfl,Zi (fun _ h=>h.elim) _ (Zj _ _ ks4)⟩,trivial⟩⟩
         · (refine go ?_;repeat' (apply B<;>intro hb<;>try cases hb))
           have hst:stepB roles.length (okM roles is) y n i=true:=by rw [stepB,hyb,hv1,hnb,hv2]; rfl
           exact Z71 rfl trivial rfl (Zj _ _ ks4) ⟨by rw [Z5q hil hst],ks4,rfl⟩
       · have hnb := Z3m (by omega) (by omega) hb
         have hst:stepB roles.length (okM roles is) y n i=false:=by rw [stepB,hyb,hv1,hnb]; rfl
         exact⟨(i+1,ks3),⟨by show i+1≤_; omega,hnext hst⟩,by show _-(i+1)<_-i; omega,⟨⟨rfl,Z35 H (by decide)⟩,⟨rfl,trivial⟩,⟨rfl,trivial⟩,⟨rfl,trivial⟩,⟨by show some _=some _; rw [hinc],trivial⟩,trivial⟩,⟨⟨by decide,rfl,Zi (fun _ h=>h.elim) _ (Zj _ _ ks3)⟩,trivial⟩⟩
     · (refine go ?_;repeat' (apply B<;>intro hb<;>try cases hb))
       have hst:stepB roles.length (okM roles is) y n i=true:=by rw [stepB,hyb,hv1]; rfl
       exact Z71 rfl trivial rfl (Zj _ _ ks3) ⟨by rw [Z5q hil hst],ks3,rfl⟩
   · have hil : i < roles.length := by simpa using ‹decide ((i : Int) < (roles.length : Int)) = true›
     have hyb:=Z3m (by omega) (by omega) ‹(bits .and .i64 (y:Int) (IntKind.i64.wrap (1*2 ^ (min (i:Int).toNat IntKind.i64.bits))) != 0)=false›
     have hnb:=Z3m (by omega) (by omega) hb
     rw [Z9i (by omega) (by omega) hnb]
     refine Zx rfl rfl (Z1y roles fl is g caps H hy (Nat.lt_of_le_of_lt (Nat.sub_le _ _) hn) (by rw [Nat.and_comm]; exact Z3n hnb (by rw [Nat.and_comm]; exact hdis)) ks2 rfl) ?_
     rintro n' r h' ⟨rfl,rfl,ks4,rfl⟩
     generalize hv2:impB roles.length (okM roles is) y (n-2 ^ i)=v2
     cases v2
     · (refine go ?_;repeat' (apply B<;>intro hb<;>try cases hb))
       have hst:stepB roles.length (okM roles is) y n i=false:=by rw [stepB,hyb,hnb,hv2]; rfl
       exact⟨(i+1,ks4),⟨by show i+1≤_; omega,hnext hst⟩,by show _-(i+1)<_-i; omega,⟨⟨rfl,Z35 H (by decide)⟩,⟨rfl,trivial⟩,⟨rfl,trivial⟩,⟨rfl,trivial⟩,⟨by show some _=some _; rw [hinc],trivial⟩,trivial⟩,⟨⟨by decide,rfl,Zi (fun _ h=>h.elim) _ (Zj _ _ ks4)⟩,trivial⟩⟩
     · (refine go ?_;repeat' (apply B<;>intro hb<;>try cases hb))
       have hst:stepB roles.length (okM roles is) y n i=true:=by rw [stepB,hyb,hnb,hv2]; rfl
       exact Z71 rfl trivial rfl (Zj _ _ ks4) ⟨by rw [Z5q hil hst],ks4,rfl⟩
   · have hil : i < roles.length := by simpa using ‹decide ((i : Int) < (roles.length : Int)) = true›
     have hyb:=Z3m (by omega) (by omega) ‹(bits .and .i64 (y:Int) (IntKind.i64.wrap (1*2 ^ (min (i:Int).toNat IntKind.i64.bits))) != 0)=false›
     have hnb:=Z3m (by omega) (by omega) hb
     have hst:stepB roles.length (okM roles is) y n i=false:=by rw [stepB,hyb,hnb]; rfl
     exact⟨(i+1,ks2),⟨by show i+1≤_; omega,hnext hst⟩,by show _-(i+1)<_-i; omega,⟨⟨rfl,Z35 H (by decide)⟩,⟨rfl,trivial⟩,⟨rfl,trivial⟩,⟨rfl,trivial⟩,⟨by show some _=some _; rw [hinc],trivial⟩,trivial⟩,⟨⟨by decide,rfl,Zi (fun _ h=>h.elim) _ (Zj _ _ ks2)⟩,trivial⟩⟩
   · have hil : i = roles.length := by have := of_decide_eq_false hb; omega
     subst hil
     exact Z71 rfl trivial rfl (Zj _ _ ks2) ⟨by rw [Zet hv hno],ks2,rfl⟩
end Go.Proofs.YtojlnagiaibgkaaGreatDoor
namespace Go.Proofs.YtojlnagiaibgkaaGreatDoor
open Go.RowKit
section
variable {P:Program} {C:Ctx} {Fr:Nat→Prop} {e:Env} {h:Heap} {F:Froz} {φ:Locs} {a:Act} {w:World}
theorem NSpec.ispec {f:FuncId} {args:List PV} {mk:Nat→PV} {b:Bx} (hs:NSpec P f args mk b) (hmk:Mk mk) (hpb:pureLL b.elems) (hpr:pureL args) {n:Nat}:ISpec P f n args h fun n' r h'=>n'=n+1∧r=mk n∧h'=h.upd n b:=by
 refine⟨hs.1,fun C e F φ a w vs s hv=>(hs.run hmk hpb hpr (Nat.le_refl n) s hv).mono ?_⟩
 rintro en w' ⟨v,F',φ',rfl,hr,s'⟩
 exact⟨v,mk n,n+1,h.upd n b,F',φ',rfl,⟨rfl,rfl,rfl⟩,hr,{ s' with free:=fun i hi=>s'.free i ⟨by omega,by omega⟩ }⟩
theorem Z1V {f nt:Nat} {ac:ACode} {rs:List ARes} (hf:FnOk P f nt ac rs) {args:List PV} {mk:Nat→PV} {b:Bx} (hn:args.length≤nt) (hk:∀ C:Ctx,C.dom 0→aw P C ac (retI rs fun _ r h'=>∃ id,r=mk id∧h' id=some b) 0 (argEnv args) (fun _=>none)):NSpec P f args mk b:=ZX hf hn hk
theorem Z7g {f:Operand} {args:List Operand} {g:FuncId} {caps as0:List PV} {mk:Nat→PV} {b:Bx} {d:Option Nat} {os:List AOper} {n:Nat} {K:Nat→Env→Heap→Prop} (hs:NSpec P g (as0++caps) mk b) (hmk:Mk mk) (hpb:pureLL b.elems) (hf:ev e f=some (.fn g caps)) (ha:evs e args=some as0) (hp:pureL (as0++caps))
 (hk:opsK P os (n+1) (updO e d (mk n)) (h.upd n b) K):opsK P (⟨d,.call f args,none⟩ :: os) n e h K :=
 Zx hf ha (hs.ispec hmk hpb hp) fun n' r h' hh=>by obtain⟨rfl,rfl,rfl⟩:=hh; exact hk
end
theorem NSpec.spec {P:Program} {f:FuncId} {args:List PV} {mk:Nat→PV} {b:Bx} (hs:NSpec P f args mk b) (hpb:pureLL b.elems) {q:PV} (hfr:∀ id,FrzP id b.elems (mk id) q) (hq:q.pure):Spec P f args (· = q):=by
 refine⟨hs.1,fun F w vs hF hv=>?_⟩
 let C1:Ctx:=⟨w,fun _=>False,F,1,noLoc⟩
 let a1:Act:={ tmps := #[undef],defers := [] }
 have s1:St' C1 (fun i=>0≤i) (fun _=>none) (fun _=>none) F noLoc a1 w :=
  { nt:=rfl,glob:=hF.2,marks:=Marks.nil rfl,loc0:=fun i x hx=>hx,free:=fun i hi=>rfl,env:=fun k p hp=>(by cases hp),froz:=hF.1,ext:=fun _ _ h=>h,old:=fun _ _ _=>rfl,os:=rfl,tape:=rfl,output:=rfl,size:=Nat.le_refl _,kept:=fun _ _ _=>rfl,live:=fun i b0 hi=>(by cases hi),sep:=fun i j bi bj li lj k hi hj _ _ _ _=>(by cases hi) }
 refine (hs.2 C1 _ F noLoc a1 w vs s1 hv).mono ?_
 rintro en w' ⟨v,r,n',h',F',φ',rfl,⟨id,rfl,hb'⟩,hvr,s'⟩
 have s2:=s'.put (d:=0) (show 0<1 by decide) hvr
 obtain⟨F2,φ2,s3⟩:=Z5b (k:=0) (p:=mk id) (Env.upd_same _ _ _) hb' hpb (hfr id) _ _ ⟨F',φ',s2⟩
 have hr:=(s3.env 0 q (Env.upd_same _ _ _)).2
 exact⟨v,q,F2,rfl,rfl,Rep.pure (φ:=φ2) (φ':=noLoc) hr hq,⟨s3.os,s3.tape,s3.output,s3.size,fun k hk=>s3.kept k hk fun h=>h⟩,⟨s3.froz,s3.glob⟩,s3.ext,fun x hx=>s3.old x hx fun h=>h⟩
end Go.Proofs.YtojlnagiaibgkaaGreatDoor
namespace Go.Proofs.YtojlnagiaibgkaaGreatDoor
open Go.RowKit
attribute [local irreducible] aw opsK dK
theorem Zbt (roles:List Nat) (fl:Bool) (is:Nat→Bool) (g:Nat) (caps:List PV) (H:TabOk roles is g caps) {y n:Nat} (hy:y<2 ^ roles.length) (hn:n<2 ^ roles.length) (hd:y &&& n=0) (ks:List Ke) {m:Nat} {h:Heap} (hh:h 0=some (tabB roles is ks)) :
 ISpec Tryz.prog 99 m [tabP roles fl g caps,.val (.int .i64 (y:Int)),.val (.int .i64 (n:Int))] h fun n' r h'=>n'=m∧r=.val (.bool (prB roles.length (okM roles is) y n))∧∃ ks',h'=h.upd 0 (tabB roles is ks') :=
 ISpec.mono ((Zbs roles fl is g caps H y n hy hn hd ks).ispec (Zj _ _ ks) ⟨⟨Zt _ _,ZJ (fun _ h=>h.elim) _ H.pure,rfl,trivial⟩,trivial,trivial,trivial⟩ hh)
  fun n' r h' ⟨h1,b',_,_,⟨h2,ks',h3⟩,h4⟩=>⟨h1,h2,ks',by rw [← h3]; exact h4⟩
theorem Zam {y n:Nat} (hy:y<9223372036854775808) (hn:n<9223372036854775808) {b:Bool} (h:(bits .and .i64 (y:Int) (n:Int) == 0)=b):decide (y &&& n=0)=b:=by
 rw [Z7d y n hy hn] at h
 rw [← h,Bool.eq_iff_iff]
 simp
theorem Z11 (l:List Cu):pureLL (l.map cuC):=Z34 Z23 l
theorem Z2l {roles:List Nat} {fl:Bool} {is:Nat→Bool} {g:Nat} {caps:List PV} (H:TabOk roles is g caps) {ρ:Nat→Nat} {D:Nat→Prop} (h0:D 0) (hρ:ρ 0=0):RenP ρ D (tabP roles fl g caps) (tabP roles fl g caps) :=
 .same _ ⟨Zt _ _,ZJ (fun _ h=>h.elim) _ H.pure,⟨h0,hρ⟩,trivial⟩
set_option maxHeartbeats 4000000 in
theorem Zbu (roles:List Nat) (fl:Bool) (is:Nat→Bool) (g:Nat) (caps:List PV) (H:TabOk roles is g caps) (h8:roles.length≤8) :
 NSpec Tryz.prog 69 [.vec (nums (intsN roles)) fl,.fn g caps] .own ⟨2,(sortC (prL (okM roles is) roles)).map cuC⟩:=by
 have hk8:2 ^ roles.length≤256:=Nat.le_trans (Nat.pow_le_pow_right (by decide) h8) (by decide)
 have hnl:(nums (intsN roles)).length=roles.length:=by simp [nums,intsN]
 have hshl:=shl1 roles.length (by omega)
 have hcp:∀ l:List Cu,innLL (· < 2) (l.map cuC):=fun l=>Zi (fun _ h=>h.elim) _ (Z11 l)
 refine Z1V ok69 (Nat.le_of_ble_eq_true rfl) fun C hC=>?_
 iterate 10 (first|refine st ?_|(apply B<;>intro hb<;>try cases hb))
 refine Z6 rfl rfl rfl ?_
 iterate 9 (first|refine st ?_|(apply B<;>intro hb<;>try cases hb))
 refine Zg (ZH (k:=6) rfl 2 (by decide)) ?_
 (refine go ?_;repeat' (apply B<;>intro hb<;>try cases hb))
 refine Z1Y hC (fun (x:Nat×List Ke)=>x.1≤2 ^ roles.length) (fun x=>2 ^ roles.length-x.1) 2 (fun x => [(0,.vec (nums (intsN roles)) fl),(5,tabP roles fl g caps),(6,.own 1),(16,.val (.int .i64 ((2 ^ roles.length:Nat):Int))),(17,.val (.int .i64 (x.1:Int)))])
  (fun x => [(0,tabB roles is x.2),(1,⟨2,(prTo roles.length (okM roles is) roles x.1).map cuC⟩)]) (Nat.zero_le _) (0,[]) (Nat.zero_le _) (fun i=>i) (fun _ _=>rfl) ZU
  ⟨⟨_,rfl,.pure _ (Z9 _)⟩,⟨_,rfl,Z2l H (by decide) rfl⟩,⟨_,rfl,.own 1 (by decide)⟩,⟨_,by show some _=some (PV.val (.int .i64 ((2 ^ roles.length:Nat):Int))); rw [← hshl,← hnl],.pure _ trivial⟩,⟨_,rfl,.pure _ trivial⟩,trivial⟩
  ⟨⟨by decide,_,rfl,.same _ trivial⟩,⟨by decide,_,rfl,.same _ trivial⟩,trivial⟩ ?_
 rintro⟨y,ks⟩ hy
 dsimp only at hy ⊢
 have hinc:IntKind.i64.wrap ((y:Int)+1)=((y+1:Nat):Int):=IntWalk.i64_in _ ⟨by omega,by omega⟩
 (refine go ?_;repeat' (apply B<;>intro hb<;>try cases hb))
 · have hyl : y < 2 ^ roles.length := by have := of_decide_eq_true hb; omega
   refine Z1Y hC (fun (x:Nat×List Ke)=>x.1≤2 ^ roles.length) (fun x=>2 ^ roles.length-x.1) 2 (fun x => [(0,.vec (nums (intsN roles)) fl),(5,tabP roles fl g caps),(6,.own 1),(7,.val (.int .i64 (y:Int))),(16,.val (.int .i64 ((2 ^ roles.length:Nat):Int))),(17,.val (.int .i64 (y:Int))),(22,.val (.int .i64 ((2 ^ roles.length:Nat):Int))),(23,.val (.int .i64 (x.1:Int)))])
    (fun x => [(0,tabB roles is x.2),(1,⟨2,(prTo roles.length (okM roles is) roles y++prRow roles.length (okM roles is) roles y x.1).map cuC⟩)]) (Nat.zero_le _) (0,ks) (Nat.zero_le _) (fun i=>i) (fun _ _=>rfl) ZU
    ⟨⟨_,rfl,.pure _ (Z9 _)⟩,⟨_,rfl,Z2l H (by decide) rfl⟩,⟨_,rfl,.own 1 (by decide)⟩,⟨_,rfl,.pure _ trivial⟩,⟨_,rfl,.pure _ trivial⟩,⟨_,rfl,.pure _ trivial⟩,⟨_,by show some _=some (PV.val (.int .i64 ((2 ^ roles.length:Nat):Int))); rw [← hshl,← hnl],.pure _ trivial⟩,⟨_,rfl,.pure _ trivial⟩,trivial⟩
    ⟨⟨by decide,_,rfl,.same _ (Zj _ _ _)⟩,⟨by decide,_,rfl,by rw [show prRow roles.length (okM roles is) roles y 0 = [] from rfl,List.append_nil]; exact .same _ (Z11 _)⟩,trivial⟩ ?_
   rintro⟨n,ks1⟩ hn
   dsimp only at hn ⊢
   have hincn:IntKind.i64.wrap ((n:Int)+1)=((n+1:Nat):Int):=IntWalk.i64_in _ ⟨by omega,by omega⟩
   clear hb
   have hlen1:=Zal roles.length (okM roles is) roles y
   have hlen2:=Z7Z roles.length (okM roles is) roles y n
   have hmul:y*2 ^ roles.length≤256*256:=Nat.mul_le_mul (by omega) hk8
   have hsucc:=Zbk roles.length (okM roles is) roles y n
   (refine go ?_;repeat' (apply B<;>intro hb<;>try cases hb))
   · -- disjoint
     have hnl1:n<2 ^ roles.length:=by have:=of_decide_eq_true ‹decide ((n:Int)<((2 ^ roles.length:Nat):Int))=true›; omega
     have hdis:=Zam (by omega) (by omega) hb
     rw [hdis,Bool.true_and] at hsucc
     refine Zx rfl rfl (Zbt roles fl is g caps H hyl hnl1 (of_decide_eq_true hdis) ks1 rfl) ?_
     rintro n' r h' ⟨rfl,rfl,ks2,rfl⟩
     generalize prB roles.length (okM roles is) y n=v at hsucc
     cases v
     · rw [if_neg (by decide), List.append_nil] at hsucc
       (refine go ?_;repeat' (apply B<;>intro hb<;>try cases hb))
       exact⟨(n+1,ks2),fun i=>i,by show n+1≤_; omega,by show _-(n+1)<_-n; omega,fun _ _=>rfl,ZU,⟨⟨_,rfl,.pure _ (Z9 _)⟩,⟨_,rfl,Z2l H (by decide) rfl⟩,⟨_,rfl,.own 1 (by decide)⟩,⟨_,rfl,.pure _ trivial⟩,⟨_,rfl,.pure _ trivial⟩,⟨_,rfl,.pure _ trivial⟩,⟨_,rfl,.pure _ trivial⟩,⟨_,by show some _=some _; rw [hincn],.pure _ trivial⟩,trivial⟩,
        ⟨⟨by decide,_,rfl,.same _ (Zj _ _ _)⟩,⟨by decide,_,rfl,by rw [hsucc]; exact .same _ (Z11 _)⟩,trivial⟩⟩
     · rw [if_pos rfl] at hsucc
       (refine go ?_;repeat' (apply B<;>intro hb<;>try cases hb))
       refine Zcs rfl rfl (Z5o roles fl is g caps H y (by omega)) rfl ?_
       rintro r rfl
       (refine go ?_;repeat' (apply B<;>intro hb<;>try cases hb))
       refine Zcs rfl rfl (Z5o roles fl is g caps H n (by omega)) rfl ?_
       rintro r rfl
       (refine go ?_;repeat' (apply B<;>intro hb<;>try cases hb))
       refine ZL (ZQ (k:=1) (m := [cuC (setM roles y,setM roles n)]) (fl:=true) rfl rfl rfl (fun c hc=>by rw [List.mem_singleton] at hc; subst hc; rfl) rfl (by
        show (((prTo roles.length (okM roles is) roles y++prRow roles.length (okM roles is) roles y n).map cuC).length+1)*48≤_
        rw [List.length_map,List.length_append]
        omega)) rfl rfl ?_
       (refine go ?_;repeat' (apply B<;>intro hb<;>try cases hb))
       refine⟨(n+1,ks2),mv 1 2,by show n+1≤_; omega,by show _-(n+1)<_-n; omega,fun i hi=>absurd hi (Nat.not_lt_zero i),ZE rfl,⟨⟨_,rfl,.pure _ (Z9 _)⟩,⟨_,rfl,Z2l H (by decide) rfl⟩,⟨_,rfl,.own 1 (by decide)⟩,⟨_,rfl,.pure _ trivial⟩,⟨_,rfl,.pure _ trivial⟩,⟨_,rfl,.pure _ trivial⟩,⟨_,rfl,.pure _ trivial⟩,⟨_,by show some _=some _; rw [hincn],.pure _ trivial⟩,trivial⟩,
        ⟨⟨by decide,_,rfl,.same _ (Zj _ _ _)⟩,⟨by decide,_,rfl,?_⟩,trivial⟩⟩
       show RenB _ _ ⟨2,(prTo roles.length (okM roles is) roles y++prRow roles.length (okM roles is) roles y n).map cuC ++ [cuC (setM roles y,setM roles n)]⟩ ⟨2,(prTo roles.length (okM roles is) roles y++prRow roles.length (okM roles is) roles y (n+1)).map cuC⟩
       rw [hsucc,← List.append_assoc,List.map_append (l₁:=prTo roles.length (okM roles is) roles y++prRow roles.length (okM roles is) roles y n)]
       exact .same _ (by rw [← List.map_singleton,← List.map_append]; exact Z11 _)
   · have hnl1 : n < 2 ^ roles.length := by have := of_decide_eq_true ‹decide ((n : Int) < ((2 ^ roles.length : Nat) : Int)) = true›; omega
     have hdis:=Zam (by omega) (by omega) hb
     rw [hdis,Bool.false_and,if_neg (by decide),List.append_nil] at hsucc
     exact⟨(n+1,ks1),fun i=>i,by show n+1≤_; omega,by show _-(n+1)<_-n; omega,fun _ _=>rfl,ZU,⟨⟨_,rfl,.pure _ (Z9 _)⟩,⟨_,rfl,Z2l H (by decide) rfl⟩,⟨_,rfl,.own 1 (by decide)⟩,⟨_,rfl,.pure _ trivial⟩,⟨_,rfl,.pure _ trivial⟩,⟨_,rfl,.pure _ trivial⟩,⟨_,rfl,.pure _ trivial⟩,⟨_,by show some _=some _; rw [hincn],.pure _ trivial⟩,trivial⟩,
      ⟨⟨by decide,_,rfl,.same _ (Zj _ _ _)⟩,⟨by decide,_,rfl,by rw [hsucc]; exact .same _ (Z11 _)⟩,trivial⟩⟩
   · have hnl1 : n = 2 ^ roles.length := by have := of_decide_eq_false hb; omega
     subst hnl1
     exact⟨(y+1,ks1),fun i=>i,by show y+1≤_; omega,by show _-(y+1)<_-y; omega,fun _ _=>rfl,ZU,
      ⟨⟨_,rfl,.pure _ (Z9 _)⟩,⟨_,rfl,Z2l H (by decide) rfl⟩,⟨_,rfl,.own 1 (by decide)⟩,⟨_,rfl,.pure _ trivial⟩,⟨_,by show some _=some _; rw [hinc],.pure _ trivial⟩,trivial⟩,
      ⟨⟨by decide,_,rfl,.same _ (Zj _ _ _)⟩,⟨by decide,_,rfl,by rw [Z7Y]; exact .same _ (Z11 _)⟩,trivial⟩⟩
 · have hyl : y = 2 ^ roles.length := by have := of_decide_eq_false hb; omega
   have h64:∀ c∈prL (okM roles is) roles,Ok64 c:=fun c hc=>Zf3 H.lt hc
   have hfin:prTo roles.length (okM roles is) roles y=prL (okM roles is) roles:=by rw [hyl]; rfl
   rw [hfin]
   refine Zx rfl rfl (Z9g (ob:=1) (prL (okM roles is) roles) h64 rfl) ?_
   rintro n' r h' ⟨rfl,rfl,ys,hperm,hsort,rfl⟩
   have hys:=Z80 hperm hsort h64
   subst hys
   (refine go ?_;repeat' (apply B<;>intro hb<;>try cases hb))
   exact⟨_,_,rfl,.inl rfl,1,rfl,rfl⟩
theorem Z9j (roles:List Nat) (fl:Bool) (is:Nat→Bool) (g:Nat) (caps:List PV) (H:TabOk roles is g caps) (h8:roles.length≤8) :
 Spec Tryz.prog 69 [.vec (nums (intsN roles)) fl,.fn g caps] (· = .vec ((sortC (prL (okM roles is) roles)).map cuC) false) :=
 (Zbu roles fl is g caps H h8).spec (Z11 _) (fun _=>.own) (Z11 _)
def mentC (l:List Cu):Nat:=l.foldl (fun s c=>(s ||| c.1) ||| c.2) 0
theorem Z85:∀ (k N:Nat),popK k N=(memK k N).length
 | 0,N=>rfl
 | k + 1, N => by
   rw [ZcN,List.length_append,List.length_map,← Z85 k (N / 2)]
   simp only [popK]
   by_cases h:N % 2=1
   · rw [if_pos h,h]; simp
   · rw [if_neg h]; have : N % 2 = 0 := by omega
     rw [this]; simp
theorem Zan (N:Nat):popK 64 N=(mem N).length:=Z85 64 N
def fullL (l:List Cu):List Cu:=l.filter fun c => !emC c
def wholeE (l:List Cu):Int:=if (mentC (fullL l)).testBit 0=true then 1 else if 8<(mem (mentC (fullL l))).length then 3 else 0
end Go.Proofs.YtojlnagiaibgkaaGreatDoor
namespace Go.Proofs.YtojlnagiaibgkaaGreatDoor
open Go.RowKit
theorem tb {y i:Nat} (h:¬ y.testBit i=true):y.testBit i=false:=by simpa using h
theorem ZcY (N:Nat):(mem N).Nodup:=(Z45 N).imp fun h=>Nat.ne_of_lt h
section
variable {N:Nat} (hN:N<18446744073709551616)
include hN
end
end Go.Proofs.YtojlnagiaibgkaaGreatDoor
namespace Go.Proofs.YtojlnagiaibgkaaGreatDoor
open Go.RowKit
attribute [local irreducible] aw opsK dK
theorem Z5r (b:Bool):Spec Tryz.prog 104 [.val (.bool b)] (· = .val (.int .i64 (b2i b))):=by
 refine Z2 ok104 (Nat.le_of_ble_eq_true rfl) fun C hC=>?_
 (refine go ?_;repeat' (apply B<;>intro hb<;>try cases hb))
 · exact Z3 rfl trivial rfl
 · exact Z3 rfl trivial rfl
theorem Z9k (roles:List Int) (N:Nat) (hN:N<18446744073709551616) (hr:∀ r∈roles,1≤r∧r≤63) (hlen:roles.length≤1000):Spec Tryz.prog 103 [.vec (nums roles) false,setN N] (· = .val (.int .i64 (cntM N roles))):=by
 have hl:=Z1d roles
 refine Z2 ok103 (Nat.le_of_ble_eq_true rfl) fun C hC=>?_
 refine Zh ?_
 refine Za ?_
 refine Z6 rfl rfl rfl ?_
 (refine go ?_;repeat' (apply B<;>intro hb<;>try cases hb))
 refine Z3D (fun i=>i≤roles.length) (fun i=>roles.length-i) (fun i => [(3,.cp [.vec (words (digs N)) false]),(5,.val (.int .i64 (cntM N (roles.take i)))),(8,.vec (nums roles) false),(9,.val (.int .i64 roles.length)),(10,.val (.int .i64 (i:Int)))]) 0 (Nat.zero_le _) ⟨rfl,rfl,rfl,by rw [← hl]; rfl,rfl,trivial⟩ ?_
 intro i hi
 have hinc:IntKind.i64.wrap ((i:Int)+1)=((i+1:Nat):Int):=IntWalk.i64_in _ ⟨by omega,by omega⟩
 (refine go ?_;repeat' (apply B<;>intro hb<;>try cases hb))
 · have hil : i < roles.length := by simpa using hb
   have hrr:=hr roles[i] (List.getElem_mem hil)
   have hadd:IntKind.i64.wrap (cntM N (roles.take i)+b2i (N.testBit roles[i].toNat))=cntM N (roles.take (i+1)):=by
    have h1:=Z7U (N:=N) hil
    have h2:=Z43 N (roles.take (i+1))
    have h3:(roles.take (i+1)).length≤roles.length:=by rw [List.length_take]; omega
    rw [← h1]
    exact IntWalk.i64_in _ ⟨by omega,by omega⟩
   refine Z5 (Zl (xs:=roles) rfl rfl i rfl hil rfl) rfl rfl ?_
   (refine go ?_;repeat' (apply B<;>intro hb<;>try cases hb))
   refine Z7 (Z1G N hN roles[i]) rfl rfl rfl ⟨Z1 N,trivial,trivial⟩ rfl ?_
   rw [show (decide ((0:Int)≤roles[i])&&N.testBit roles[i].toNat)=N.testBit roles[i].toNat by rw [decide_eq_true (by omega),Bool.true_and]]
   refine Z7 (Z5r _) rfl rfl rfl ⟨trivial,trivial⟩ rfl ?_
   refine Zo rfl rfl rfl hadd ?_
   (refine go ?_;repeat' (apply B<;>intro hb<;>try cases hb))
   exact⟨i+1,by omega,by omega,rfl,rfl,⟨rfl,rfl,rfl,rfl,by show some _=some _; rw [hinc],trivial⟩⟩
 · have hil : i = roles.length := by have := of_decide_eq_false hb; omega
   subst hil
   rw [List.take_length]
   exact Z3 rfl trivial rfl
theorem Z9l {op n:Int} {roles:List Int} {args:List Fm} (h:insideM 1 (.mk op n roles args)=0):op≠6∧∀ a∈args,insideM 1 a=0:=by
 rw [Z15] at h
 split at h
 · rename_i h0
   refine⟨fun h6=>?_,Z2q h⟩
   subst h6
   unfold nodeK at h0
   split at h0
   · have hb : badKind 1 (Fm.mk 6 n roles args).op = true := by simp [badKind, Fm.op]
     rw [if_pos hb] at h0
     cases h0
   · rename_i h1; exact h1 h0
 · rename_i h0; exact absurd h h0
set_option maxHeartbeats 8000000 in
theorem Z9m (N:Nat) (hN:N<18446744073709551616):∀ (d:Nat) (f:Fm),f.depth≤d→Wf f→insideM 1 f=0→f.size≤1000→Spec Tryz.prog 71 [.agg (fC .u8 f),setN N] (· = .val (.int .i64 (evM N [] f))):=by
 intro d
 induction d with
 | zero=>intro f hf; rw [Fm.depth_eq] at hf; omega
 | succ d ih =>
   rintro⟨op,n,roles,args⟩ hf hw hk1 hsz
   have w:=hw.inv
   have hpu:∀ m,innL (· < m) (fC .u8 (.mk op n roles args)):=fun m=>Z7L .u8 (.mk op n roles args) (· < m)
   have hset:∀ m,innL (· < m) [PV.vec (words (digs N)) false]:=fun m=>⟨ZA _ _,trivial⟩
   obtain⟨hk6,hka⟩:=Z9l hk1
   refine Z2 ok71 (Nat.le_of_ble_eq_true rfl) fun C hC=>?_
   refine Zh ?_
   refine Za ?_
   refine Z6 rfl rfl rfl ?_
   refine Z6 rfl rfl rfl ?_
   iterate 6 (first|refine st ?_|(apply B<;>intro hb<;>try cases hb))
   by_cases h8:8≤op
   · obtain ⟨x, y, rfl⟩ := w.two h8
     obtain⟨wx,tx⟩:=w.arg x (by simp)
     obtain⟨wy,ty⟩:=w.arg y (by simp)
     rw [Z58] at hf
     rw [Z70] at hsz
     obtain⟨⟨x1,x2⟩,x3⟩:=Z2h N [] d x (by omega) wx
     obtain⟨⟨y1,y2⟩,y3⟩:=Z2h N [] d y (by omega) wy
     have ihx:=ih x (by omega) wx (hka x (by simp)) (by omega)
     have ihy:=ih y (by omega) wy (hka y (by simp)) (by omega)
     rw [Z92 _ _ _ _ _ _ h8]
     have hwt:op<11→typeM x.op=1∧typeM y.op=1:=fun h=>by
      rw [wantM,if_neg (by omega)] at tx ty; exact⟨tx,ty⟩
     refine Z2x hC True 1 [(2,.cp (fC .u8 (.mk op n roles [x,y]))),(3,.cp [.vec (words (digs N)) false]),(5,.ptr 0 0 0)] [(0,⟨2,[[.val (.int .i64 (evM N [] x)),.val (.int .i64 (evM N [] y))]]⟩)] (Nat.zero_le _) ?_ fun _=>?_
     · (refine go ?_;repeat' (apply B<;>intro hb<;>try cases hb))
       refine ZT 2 ?_
       (refine go ?_;repeat' (apply B<;>intro hb<;>try cases hb))
       refine Z5 (Zl (xs := [x,y]) rfl rfl 0 rfl (Nat.zero_lt_succ _) (Zy _ _)) rfl rfl ?_
       rw [show [x,y][0]=x from rfl,ZY .u8 x]
       (refine go ?_;repeat' (apply B<;>intro hb<;>try cases hb))
       refine Z7 ihx rfl rfl rfl ⟨Zm _ _,Z1 N,trivial⟩ rfl ?_
       (refine go ?_;repeat' (apply B<;>intro hb<;>try cases hb))
       refine Z5 (Zl (xs := [x,y]) rfl rfl 1 rfl (Nat.lt_succ_self _) (Zy _ _)) rfl rfl ?_
       rw [show [x,y][1]=y from rfl,ZY .u8 y]
       (refine go ?_;repeat' (apply B<;>intro hb<;>try cases hb))
       refine Z7 ihy rfl rfl rfl ⟨Zm _ _,Z1 N,trivial⟩ rfl ?_
       (refine go ?_;repeat' (apply B<;>intro hb<;>try cases hb))
       exact⟨trivial,⟨⟨rfl,hpu 1⟩,⟨rfl,hset 1⟩,⟨rfl,Nat.zero_lt_one⟩,trivial⟩,⟨Nat.zero_lt_one,rfl,⟨trivial,trivial,trivial⟩,trivial⟩,trivial⟩
     generalize evM N [] x=a at *
     generalize evM N [] y=b at *
     rcases ops16 w.lo w.hi with rfl|rfl|rfl|rfl|rfl|rfl|rfl|rfl|rfl|rfl|rfl|rfl|rfl|rfl|rfl|rfl
     all_goals first|(exfalso;omega)|skip
     · obtain ⟨t1, t2⟩ := hwt (by omega)
       have:bits .and .i64 a b=a*b:=by rcases x3 t1 with h|h<;>rcases y3 t2 with h' | h'<;>rw [h,h']<;>decide
       (refine go ?_;repeat' (apply B<;>intro hb<;>try cases hb))
       exact Z3 rfl trivial (by rw [this]; rfl)
     · obtain ⟨t1, t2⟩ := hwt (by omega)
       have:bits .or .i64 a b=if b>a then b else a:=by rcases x3 t1 with h|h<;>rcases y3 t2 with h' | h'<;>rw [h,h']<;>decide
       (refine go ?_;repeat' (apply B<;>intro hb<;>try cases hb))
       exact Z3 rfl trivial (by rw [this]; rfl)
     · obtain ⟨t1, t2⟩ := hwt (by omega)
       have:bits .or .i64 (IntKind.i64.wrap (1-a)) b=if b>1-a then b else 1-a:=by rcases x3 t1 with h|h<;>rcases y3 t2 with h' | h'<;>rw [h,h']<;>decide
       (refine go ?_;repeat' (apply B<;>intro hb<;>try cases hb))
       exact Z3 rfl trivial (by rw [this]; rfl)
     iterate 5
      · (refine go ?_;repeat' (apply B<;>intro hb<;>try cases hb))
        all_goals
         refine Z7 (Z5r _) rfl rfl rfl ⟨trivial,trivial⟩ rfl ?_
         (refine go ?_;repeat' (apply B<;>intro hb<;>try cases hb))
         exact Z3 rfl trivial (congrArg (fun z=>PV.val (Value.int .i64 (b2i z))) hb.symm)
     · have : IntKind.i64.wrap (a + b) = a + b := IntWalk.i64_in _ ⟨by omega, by omega⟩
       (refine go ?_;repeat' (apply B<;>intro hb<;>try cases hb))
       refine Z3 rfl trivial ?_
       rw [this]; rfl
   by_cases h7:op=7
   · subst h7
     obtain⟨x,rfl⟩:=w.one
     obtain⟨wx,tx⟩:=w.arg x (by simp)
     rw [Z57] at hf
     rw [Z6Z] at hsz
     obtain⟨⟨x1,x2⟩,x3⟩:=Z2h N [] d x (by omega) wx
     have ihx:=ih x (by omega) wx (hka x (by simp)) (by omega)
     rw [Z91]
     (refine go ?_;repeat' (apply B<;>intro hb<;>try cases hb))
     refine ZT 1 ?_
     (refine go ?_;repeat' (apply B<;>intro hb<;>try cases hb))
     refine Z5 (Zl (xs := [x]) rfl rfl 0 rfl (Nat.zero_lt_succ _) (Zy _ _)) rfl rfl ?_
     rw [show [x][0]=x from rfl,ZY .u8 x]
     (refine go ?_;repeat' (apply B<;>intro hb<;>try cases hb))
     refine Z7 ihx rfl rfl rfl ⟨Zm _ _,Z1 N,trivial⟩ rfl ?_
     have:IntKind.i64.wrap (1-evM N [] x)=1-evM N [] x:=IntWalk.i64_in _ ⟨by omega,by omega⟩
     (refine go ?_;repeat' (apply B<;>intro hb<;>try cases hb))
     exact Z3 rfl trivial (by rw [this])
   have ha0:args = []:=by
    have:=w.ar
    rw [operandsM,if_neg h8,if_neg h7] at this
    cases args with
    | nil=>rfl
    | cons a r=>simp at this; omega
   subst ha0
   rcases ops16 w.lo w.hi with rfl|rfl|rfl|rfl|rfl|rfl|h
   · (refine go ?_;repeat' (apply B<;>intro hb<;>try cases hb))
     refine ZT 0 ?_
     (refine go ?_;repeat' (apply B<;>intro hb<;>try cases hb))
     exact Z3 rfl trivial rfl
   · (refine go ?_;repeat' (apply B<;>intro hb<;>try cases hb))
     refine ZT 0 ?_
     (refine go ?_;repeat' (apply B<;>intro hb<;>try cases hb))
     exact Z3 rfl trivial rfl
   · (refine go ?_;repeat' (apply B<;>intro hb<;>try cases hb))
     refine ZT 0 ?_
     (refine go ?_;repeat' (apply B<;>intro hb<;>try cases hb))
     exact Z3 rfl trivial rfl
   iterate 2
    · have hmost := w.most
      have hm8:roles.length≤8:=by
       have:(roles.length:Int)≤8:=Int.le_trans hmost (by decide)
       omega
      (refine go ?_;repeat' (apply B<;>intro hb<;>try cases hb))
      refine ZT 0 ?_
      (refine go ?_;repeat' (apply B<;>intro hb<;>try cases hb))
      refine Z7 (Z9k roles N hN w.rng (by omega)) rfl rfl rfl ⟨Z9 _,Z1 N,trivial⟩ rfl ?_
      (refine go ?_;repeat' (apply B<;>intro hb<;>try cases hb))
      exact Z3 rfl trivial rfl
   · exact absurd rfl hk6
   · omega
def checkM (f:Fm):Int:=if lookM 1 f≠0 then lookM 1 f else if fitsM f=true∧typeM f.op=1 then (if 8<(mem (mentF f)).length then 3 else 0) else 10
set_option maxHeartbeats 4000000 in
theorem Z4b (f:Fm) (hd:f.depth≤1000) (hsz:f.size≤1099511627776):Spec Tryz.prog 28 [.agg (fC .u8 f),.val (.int .u8 1)] (· = .val (.int .i64 (checkM f))):=by
 refine Z2 ok28 (Nat.le_of_ble_eq_true rfl) fun C hC=>?_
 refine Zh ?_
 refine Za ?_
 refine Z6 rfl rfl rfl ?_
 (refine go ?_;repeat' (apply B<;>intro hb<;>try cases hb))
 refine Z7 (Z7S 1 f hd hsz) rfl rfl rfl ⟨Zm _ _,trivial,trivial⟩ rfl ?_
 (refine go ?_;repeat' (apply B<;>intro hb<;>try cases hb))
 · have h0 : lookM 1 f ≠ 0 := by simpa using hb
   exact Z3 rfl trivial (by rw [checkM,if_pos h0])
 · have h0 : lookM 1 f = 0 := by simpa using hb
   clear hb
   have h10:f.depth≤10∧f.size≤200∧insideM 1 f=0:=by
    unfold lookM at h0
    split at h0
    · cases h0
    · rename_i h1; exact⟨by omega,by omega,h0⟩
   have hc:checkM f=if fitsM f=true∧typeM f.op=1 then (if 8<(mem (mentF f)).length then 3 else 0) else 10:=by rw [checkM,if_neg (by rw [h0]; decide)]
   refine Z7 (Z7O f.depth f (Nat.le_refl _)) rfl rfl rfl ⟨Zm _ _,trivial⟩ rfl ?_
   cases hfit:fitsM f
   · (refine go ?_;repeat' (apply B<;>intro hb<;>try cases hb))
     exact Z3 rfl trivial (by rw [hc,hfit,if_neg (by simp)]; rfl)
   · (refine go ?_;repeat' (apply B<;>intro hb<;>try cases hb))
     refine Z7 (Z3f f.op) rfl rfl rfl ⟨trivial,trivial⟩ rfl ?_
     (refine go ?_;repeat' (apply B<;>intro hb<;>try cases hb))
     · have ht : typeM f.op ≠ 1 := by simpa using hb
       exact Z3 rfl trivial (by rw [hc,if_neg (fun h=>ht h.2)]; rfl)
     · have ht : typeM f.op = 1 := by simpa using hb
       clear hb
       refine Z7 (Z2L 1 f.depth f (Nat.le_refl _) (by omega) h10.2.2) rfl rfl rfl ⟨Zm _ _,trivial⟩ rfl ?_
       (refine go ?_;repeat' (apply B<;>intro hb<;>try cases hb))
       refine Z7 (Z3M _ (Z4O _ f (Nat.le_refl _) h10.2.2)) rfl rfl rfl ⟨Z1 _,trivial⟩ rfl ?_
       rw [Zan]
       (refine go ?_;repeat' (apply B<;>intro hb<;>try cases hb))
       · have h8 : 8 < (mem (mentF f)).length := by have := of_decide_eq_true hb; omega
         exact Z3 rfl trivial (by rw [hc,if_pos ⟨hfit,ht⟩,if_pos h8]; rfl)
       · have h8 : ¬ 8 < (mem (mentF f)).length := by have := of_decide_eq_false hb; omega
         exact Z3 rfl trivial (by rw [hc,if_pos ⟨hfit,ht⟩,if_neg h8]; rfl)
theorem Zbw (f:Fm) (hw:Wf f) (hk:insideM 1 f=0) (hsz:f.size≤1000) (S:Nat) (hS:S<18446744073709551616):Spec Tryz.prog 70 [setN S,.cp (fC .u8 f)] (· = .val (.bool (decide (evM S [] f=0)))):=by
 refine Z2 ok70 (Nat.le_of_ble_eq_true rfl) fun C hC=>?_
 refine Zh ?_
 refine Za ?_
 refine Z6 rfl rfl rfl ?_
 (refine go ?_;repeat' (apply B<;>intro hb<;>try cases hb))
 refine Z7 (Z9m S hS f.depth f (Nat.le_refl _) hw hk hsz) rfl rfl rfl ⟨Zm _ _,Z1 _,trivial⟩ rfl ?_
 (refine go ?_;repeat' (apply B<;>intro hb<;>try cases hb))
 · have h : evM S [] f = 0 := by simpa using hb
   exact Z3 rfl trivial (by rw [decide_eq_true h])
 · have h : ¬ evM S [] f = 0 := by simpa using hb
   exact Z3 rfl trivial (by rw [decide_eq_false h])
def vioB (f:Fm) (S:Nat):Bool:=decide (evM S [] f=0)
def vioL (f:Fm):List Cu:=if checkM f=0 then sortC (prL (okM (mem (mentF f)) (vioB f)) (mem (mentF f))) else []
theorem Z9o {k:Int}:∀ (d:Nat) (f:Fm),f.depth≤d→insideM k f=0→insideM 0 f=0:=by
 intro d
 induction d with
 | zero=>intro f hf; rw [Fm.depth_eq] at hf; omega
 | succ d ih =>
   intro f hf h
   obtain⟨h1,h2⟩:=Z3o h
   rw [Z15,if_pos (by rw [Z6g]; exact h1)]
   rw [f.depth_eq] at hf
   refine Z4t fun a ha=>?_
   obtain⟨i,hi,rfl⟩:=List.getElem_of_mem ha
   have:=Z1O hi
   exact ih _ (by omega) (h2 _ ha)
theorem Zd0 {f:Fm} (h:checkM f=0):Wf f∧insideM 1 f=0∧f.depth≤10∧f.size≤200∧typeM f.op=1∧(mem (mentF f)).length≤8:=by
 unfold checkM at h
 split at h
 · rename_i h1; exact absurd h h1
 rename_i h1
 have h1:lookM 1 f=0:=Classical.byContradiction h1
 have h10:f.depth≤10∧f.size≤200∧insideM 1 f=0:=by
  unfold lookM at h1
  split at h1
  · cases h1
  · rename_i h2; exact⟨by omega,by omega,h1⟩
 split at h
 · rename_i h2
   split at h
   · cases h
   · exact⟨⟨Z9o _ f (Nat.le_refl _) h10.2.2,h2.1⟩,h10.2.2,h10.1,h10.2.1,h2.2,by omega⟩
 · cases h
set_option maxHeartbeats 2000000 in
theorem Z5t (f:Fm) (hd:f.depth≤1000) (hsz:f.size≤1099511627776):Spec Tryz.prog 29 [.agg (fC .u8 f)] (· = .tup [.vec ((vioL f).map cuC) false,.val (.int .i64 (checkM f))]):=by
 refine Z2 ok29 (Nat.le_of_ble_eq_true rfl) fun C hC=>?_
 refine Zh ?_
 refine Za ?_
 refine Z6 rfl rfl rfl ?_
 (refine go ?_;repeat' (apply B<;>intro hb<;>try cases hb))
 refine Z7 (Z4b f hd hsz) rfl rfl rfl ⟨Zm _ _,trivial,trivial⟩ rfl ?_
 (refine go ?_;repeat' (apply B<;>intro hb<;>try cases hb))
 · have he : ¬ checkM f = 0 := by simpa using hb
   refine Z3e rfl (Z27 rfl) ?_
   rw [vioL,if_neg he]
   rfl
 · have he : checkM f = 0 := by simpa using hb
   clear hb
   obtain⟨hw,hk,hd10,hs200,ht,h8⟩:=Zd0 he
   have hm:=Z4O f.depth f (Nat.le_refl _) hk
   refine Z7 (Z2L 1 f.depth f (Nat.le_refl _) (by omega) hk) rfl rfl rfl ⟨Zm _ _,trivial⟩ rfl ?_
   refine Z7 (Z5l (mentF f) hm) rfl rfl rfl ⟨Z1 _,trivial⟩ rfl ?_
   (refine go ?_;repeat' (apply B<;>intro hb<;>try cases hb))
   refine Z7 (Z9j (mem (mentF f)) false (vioB f) 70 [.cp (fC .u8 f)] ⟨fun r hr=>Z1r hr,by omega,⟨Zm .u8 f,trivial⟩,fun S hS=>Zbw f hw hk (by omega) S hS⟩ h8) rfl rfl rfl ⟨Z9 _,⟨Zm _ _,trivial⟩,trivial⟩ rfl ?_
   (refine go ?_;repeat' (apply B<;>intro hb<;>try cases hb))
   refine Z3 rfl ⟨Z11 _,trivial,trivial⟩ ?_
   rw [vioL,if_pos he,he]
   rfl
def memTo (s k:Nat):List Nat:=(List.range k).filter fun i=>s.testBit i
theorem Zbx (s k:Nat):memTo s (k+1)=memTo s k++(if s.testBit k=true then [k] else []):=by
 unfold memTo
 rw [List.range_succ,List.filter_append]
 cases h:s.testBit k<;>simp [h]
theorem Zd1 (s k:Nat):(memTo s k).length≤k:=by
 have:=List.length_filter_le (fun i=>s.testBit i) (List.range k)
 rw [List.length_range] at this
 exact this
theorem Z88 (l m:List Nat):intsN (l++m)=intsN l++intsN m:=by simp [intsN]
theorem Z5u (l m:List Int):nums (l++m)=nums l++nums m:=by simp [nums]
set_option maxHeartbeats 2000000 in
theorem Z3N (s:Nat) (hs:s<18446744073709551616):Spec Tryz.prog 53 [.val (.int .u64 (s:Int))] (· = .vec (nums (intsN (mem s))) false):=by
 refine Z2 ok53 (Nat.le_of_ble_eq_true rfl) fun C hC=>?_
 repeat' (first|refine Zg (ZH (k:=3) rfl 1 (by decide)) ?_|(first|refine st ?_|(apply B<;>intro hb<;>try cases hb)))
 refine Z1Y hC (fun (i:Nat)=>i≤64) (fun i=>64-i) 1 (fun i => [(0,.val (.int .u64 (s:Int))),(3,.own 0),(4,.val (.int .i64 (i:Int)))])
  (fun i => [(0,⟨1,nums (intsN (memTo s i))⟩)]) (Nat.zero_le _) 0 (Nat.zero_le _) (fun i=>i) (fun _ _=>rfl) ZU
  ⟨⟨_,rfl,.pure _ trivial⟩,⟨_,rfl,.own 0 (by decide)⟩,⟨_,rfl,.pure _ trivial⟩,trivial⟩ ⟨⟨by decide,_,rfl,.same _ trivial⟩,trivial⟩ ?_
 intro i hi
 have hinc:IntKind.i64.wrap ((i:Int)+1)=((i+1:Nat):Int):=IntWalk.i64_in _ ⟨by omega,by omega⟩
 have hstep:=Zbx s i
 have hlen:=Zd1 s i
 iterate 4 (first|refine st ?_|(apply B<;>intro hb<;>try cases hb))
 refine Zs rfl rfl rfl (fun hb=>?_) (fun hb=>?_)
 · have hil : i < 64 := by have := of_decide_eq_true hb; omega
   clear hb
   (refine go ?_;repeat' (apply B<;>intro hb<;>try cases hb))
   · rw [Z93 s i hil, Zae s i, ZcC s i] at hb
     rw [if_pos hb] at hstep
     refine ZL (ZQ (k:=0) (m:=nums [(i:Int)]) (fl:=true) rfl rfl rfl (fun c hc=>by obtain⟨y,_,rfl⟩:=List.mem_map.1 hc; rfl) rfl (by
      show ((nums (intsN (memTo s i))).length+(nums [(i:Int)]).length)*8≤_
      simp [nums,intsN]
      omega)) rfl rfl ?_
     (refine go ?_;repeat' (apply B<;>intro hb<;>try cases hb))
     refine⟨i+1,mv 0 1,by omega,by omega,fun i hi=>absurd hi (Nat.not_lt_zero i),ZE rfl,
      ⟨⟨_,rfl,.pure _ trivial⟩,⟨_,rfl,.own 0 (by decide)⟩,⟨_,by show some _=some _; rw [hinc],.pure _ trivial⟩,trivial⟩,
      ⟨⟨by decide,_,rfl,?_⟩,trivial⟩⟩
     show RenB _ _ ⟨1,nums (intsN (memTo s i))++nums [(i:Int)]⟩ ⟨1,nums (intsN (memTo s (i+1)))⟩
     rw [hstep,Z88,Z5u,show intsN [i] = [(i:Int)] from rfl]
     exact .same _ (by rw [← Z5u]; exact Z9 _)
   · rw [Z93 s i hil, Zae s i, ZcC s i] at hb
     rw [if_neg (by rw [hb]; decide),List.append_nil] at hstep
     exact⟨i+1,fun i=>i,by omega,by omega,fun _ _=>rfl,ZU,
      ⟨⟨_,rfl,.pure _ trivial⟩,⟨_,rfl,.own 0 (by decide)⟩,⟨_,by show some _=some _; rw [hinc],.pure _ trivial⟩,trivial⟩,
      ⟨⟨by decide,_,rfl,by rw [hstep]; exact .same _ (Z9 _)⟩,trivial⟩⟩
 · have hil : i = 64 := by have := of_decide_eq_false hb; omega
   subst hil
   clear hb
   repeat' (first|refine Zg (Zk (k:=3) rfl rfl (Z9 _)) ?_|(first|refine st ?_|(apply B<;>intro hb<;>try cases hb)))
   exact Z3 rfl (Z9 _) rfl
theorem Zeu {N:Nat} (hN:N<18446744073709551616):maskTo (topOf (intsN (mem N))) (intsN (mem N))=N:=by
 have h1:∀ r∈intsN (mem N),0≤r∧r≤topOf (intsN (mem N)):=fun r hr=>by
  obtain⟨x,hx,rfl⟩:=List.mem_map.1 hr
  have:=Z1r hx
  exact⟨by omega,(Z5s _ (-1)).2 _ hr (by omega)⟩
 rw [maskTo,Z4a _ 0 h1]
 refine Nat.eq_of_testBit_eq fun i=>?_
 rw [Bool.eq_iff_iff,Z86,← Z1l hN]
 simp only [Nat.zero_testBit,Bool.false_eq_true,false_or]
 constructor
 · rintro ⟨r, hr, h⟩
   obtain⟨x,hx,rfl⟩:=List.mem_map.1 hr
   rw [← h]
   simpa using hx
 · intro h
   exact⟨(i:Int),List.mem_map.2 ⟨i,h,rfl⟩,by simp⟩
theorem Z6m (s:Nat) (hs:s<18446744073709551616):Spec Tryz.prog 23 [.val (.int .u64 (s:Int))] (· = setN s):=by
 refine Z2 ok23 (Nat.le_of_ble_eq_true rfl) fun C hC=>?_
 (refine go ?_;repeat' (apply B<;>intro hb<;>try cases hb))
 refine Z7 (Z3N s hs) rfl rfl rfl ⟨trivial,trivial⟩ rfl ?_
 refine Z7 (Z6X (intsN (mem s)) false) rfl rfl rfl ⟨Z9 _,trivial⟩ rfl ?_
 rw [Zeu hs]
 (refine go ?_;repeat' (apply B<;>intro hb<;>try cases hb))
 exact Z3 rfl (Z1 _) rfl
def raC (c:Cu):List PV := [.val (.int .u64 (c.1:Int)),.val (.int .u64 (c.2:Int))]
theorem Z3O (c:Cu):pureL (raC c):=⟨trivial,trivial,trivial⟩
theorem Z5v (c:Cu) (hc:Ok64 c):Spec Tryz.prog 9 [.agg (raC c)] (· = cuP c):=by
 refine Z2 ok9 (Nat.le_of_ble_eq_true rfl) fun C hC=>?_
 refine Zh ?_
 refine Za ?_
 refine Z6 rfl rfl rfl ?_
 (refine go ?_;repeat' (apply B<;>intro hb<;>try cases hb))
 refine Zq (Z6m c.1 hc.1) rfl rfl rfl ⟨trivial,trivial⟩ ?_
 (refine go ?_;repeat' (apply B<;>intro hb<;>try cases hb))
 refine Zq (Z6m c.2 hc.2) rfl rfl rfl ⟨trivial,trivial⟩ ?_
 (refine go ?_;repeat' (apply B<;>intro hb<;>try cases hb))
 exact Z3 (r:=cuP c) rfl (Z2u c) rfl
structure Made6 (f:Fm):Prop where
 wf:Wf f
 ty:typeM f.op=1
 depth:f.depth≤10
 size:f.size≤200
 in6:in6 1 f=true
theorem Zfz (f:Fm):∀ c∈vioL f,Ok64 c:=fun c hc=>by
 unfold vioL at hc
 split at hc
 · exact Zen (fun c hc=>Zf3 (fun r hr=>Z1r hr) hc) c hc
 · cases hc
def holdB (f:Fm) (S:Nat):Bool:=decide (evM S [] f=1)
def monoB (l:List Cu):Bool := !l.any fun c => !emC c&&decide (c.2≠0)
end Go.Proofs.YtojlnagiaibgkaaGreatDoor
namespace Go.Proofs.YtojlnagiaibgkaaGreatDoor
open Go.RowKit
section
variable {P:Program} {e:Env} {h:Heap} {n:Nat} {K:Nat→Env→Heap→Prop} {os:List AOper} {d:Option Nat}
theorem Spec.ro {g:FuncId} {args:List PV} {i k:Nat} {b:Bx} {v:Value} (hs:Spec P g (args.set i (.vec b.elems false)) (· = .val v)) (hi:args[i]?=some (.own k)) (hb:h k=some b) (hpb:pureLL b.elems) (hpr:pureL (args.set i (.vec b.elems false))) :
 ISpec P g n args h fun n' r h'=>n'=n∧r=.val v∧h'=h:=by
 refine⟨hs.1,fun C e F φ a w vs s hv=>?_⟩
 let C1:Ctx:=⟨C.w0,C.G,C.F0,vs.size,C.φ0⟩
 let a1:Act:={ a with tmps:=vs }
 have s1:St' C1 (fun j=>n≤j) (argEnv args) h F φ a1 w:=by
  refine { nt:=rfl,glob:=s.glob,marks:=⟨s.marks.nd,s.marks.all⟩,loc0:=s.loc0,free:=s.free,env:=fun j p hp=>?_,froz:=s.froz,ext:=s.ext,old:=s.old,os:=s.os,tape:=s.tape,output:=s.output,size:=s.size,kept:=s.kept,live:=s.live,sep:=s.sep }
  have hj:j<args.length:=(List.getElem?_eq_some_iff.1 hp).1
  refine⟨by show j<vs.size; rw [hv.1]; exact hj,?_⟩
  have h1:=hv.2 j hj
  have e2:args.getD j pvu=p:=by
   rw [List.getD_eq_getElem?_getD]
   have hp':args[j]?=some p:=hp
   rw [hp']; rfl
  rw [← e2]
  exact h1
 obtain⟨F2,φ2,s2⟩:=Z5b (k:=i) (p:=.own k) (q:=.vec b.elems false) hi hb hpb .own a1 w ⟨F,φ,s1⟩
 have hrep:RepL F2 noLoc vs (args.set i (.vec b.elems false)):=by
  refine⟨by rw [hv.1,List.length_set],fun j hj=>?_⟩
  have hj':j<args.length:=by rwa [List.length_set] at hj
  have he:((argEnv args).upd i (.vec b.elems false)) j=some ((args.set i (.vec b.elems false)).getD j pvu):=by
   by_cases hji:j=i
   · subst hji
     rw [Env.upd_same,List.getD_eq_getElem?_getD,List.getElem?_set_self hj']
     rfl
   · rw [Env.upd_ne _ _ hji, List.getD_eq_getElem?_getD, List.getElem?_set_ne (Ne.symm hji)]
     show args[j]?=_
     rw [List.getElem?_eq_getElem hj']
     rfl
  exact Rep.pure (φ:=φ2) (φ':=noLoc) (s2.env j _ he).2 (ZI hpr j)
 refine (hs.2 F2 w vs ⟨s2.froz,s2.glob⟩ hrep).mono ?_
 rintro en w' ⟨v',r,F3,rfl,rfl,hr,hbel,-,-,-⟩
 obtain rfl:v'=v:=hr.val_inv
 exact⟨v',.val v',n,h,F,φ,rfl,⟨rfl,rfl,rfl⟩,.val _,s.called hbel (Holds.kept ⟨s.froz,s.glob⟩ hbel) (fun _ _ h=>h) fun _ _=>rfl⟩
theorem ZfC {f:Operand} {args:List Operand} {g:FuncId} {caps as0 args':List PV} {i k:Nat} {b:Bx} {v:Value} (hs:Spec P g args' (· = .val v)) (hf:ev e f=some (.fn g caps)) (ha:evs e args=some as0) (hi:(as0++caps)[i]?=some (.own k)) (hb:h k=some b) (hargs:(as0++caps).set i (.vec b.elems false)=args') (hpb:pureLL b.elems) (hpr:pureL args')
 (hk:opsK P os n (updO e d (.val v)) h K):opsK P (⟨d,.call f args,none⟩ :: os) n e h K:=by
 subst hargs
 exact Zx hf ha (hs.ro hi hb hpb hpr) fun n' r h' hh=>by obtain⟨rfl,rfl,rfl⟩:=hh; exact hk
theorem Z6r {neg:Bool} {x:Operand} (hx:(∃ l fl,ev e x=some (.vec l fl)) ∨ ∃ k,ev e x=some (.own k)) (hz:h n=none) (hk:∀ b,opsK P os n (updO e d (.val (.bool b))) h K):opsK P (⟨d,.isnil neg x,none⟩ :: os) n e h K:=by
 unfold opsK
 exact⟨n,e,h,Z2e,.inl (Zcr hx fun b=>by rw [Z2Y hz]; exact hk b)⟩
end
section
variable {P:Program} {C:Ctx} {e:Env} {h:Heap} {n:Nat}
theorem Z1z {ob id i0 j0:Nat} {bo b:Bx} (hob:h ob=some bo) (hb:h id=some b) (hne:ob≠id) (hp:pureLL b.elems) (hi0:i0<bo.elems.length) (hj0:j0<(bo.elems.getD i0 []).length) (hcell:(bo.elems.getD i0 []).getD j0 pvu=.own id) (hz:0<bo.esz:=by exact Nat.le_of_ble_eq_true rfl) :
 Sub C n e h n e ((h.del id).upd ob ⟨bo.esz,bo.elems.set i0 ((bo.elems.getD i0 []).set j0 (.vec b.elems false))⟩):=by
 rintro a w ⟨F,φ,s⟩
 obtain⟨lo,o1,o2,o3⟩:=s.live ob bo hob
 have o2:=o2.cellsB hz
 have hcl:(bo.elems.getD i0 []).length=lo.esz:=o2.el _ (by simp [List.getD_eq_getElem?_getD,hi0])
 have hc0o:lo.cap≠0:=by have:=o2.cap; have:=o2.len; omega
 obtain⟨ado,hbaseo,hso,cellso,cto,hgo,hroomo,hrepo⟩:=o2.room hc0o
 have hr0:=(hrepo i0 j0 (by rw [← o2.len]; exact hi0) (by rw [← hcl]; exact hj0)).2
 rw [hcell] at hr0
 obtain⟨loc,hl,hzl,hv⟩:=hr0.own_inv
 obtain⟨loc',h1,h2,h3⟩:=s.live id b hb
 obtain rfl:loc'=loc:=by rw [h1] at hl; simpa using hl
 have h2:=h2.cells hzl
 have s1:St' C (fun i=>n≤i) e (h.del id) F φ a w:=s.sub (fun _ _ h=>h) (fun _ _ hh=>(Heap.del_some hh).2)
 have hdel:(h.del id) ob=some bo:=by rw [Heap.del_ne _ hne]; exact hob
 have fin:∀ {F':Froz},(∀ x v,F x=some v→F' x=some v)→St' C (fun i=>n≤i) e (h.del id) F' φ a w→Rep F' φ (cellso.getD (ado.off+(i0*lo.esz+j0)) undef) (.vec b.elems false) →
  St C (fun i=>n≤i) e ((h.del id).upd ob ⟨bo.esz,bo.elems.set i0 ((bo.elems.getD i0 []).set j0 (.vec b.elems false))⟩) a w:=by
  intro F' hx s2 hrep
  refine⟨F',φ,{ s2 with live:=fun i bi hi=>?_,sep:=fun i j bi bj li lj k hi hj hli hlj hki hkj=>?_ }⟩
  · by_cases hio : i = ob
    · subst hio
      rw [Heap.upd_same] at hi
      cases hi
      obtain⟨l2,g1,g2,g3⟩:=s2.live i bo hdel
      obtain rfl:l2=lo:=by rw [g1] at o1; simpa using o1
      refine⟨l2,g1,.inl ⟨o2.esz,o2.pos,by simpa using o2.len,o2.cap,o2.max,fun c hc=>?_,fun _=>⟨ado,hbaseo,hso,cellso,cto,hgo,hroomo,fun i' j' hi' hj'=>?_⟩⟩,g3⟩
      · rcases List.mem_or_eq_of_mem_set hc with h | h
        · exact o2.el c h
        · rw [h,List.length_set]; exact hcl
      · refine ⟨(hrepo i' j' hi' hj').1, ?_⟩
        by_cases hii:i'=i0
        · subst hii
          have e1:(bo.elems.set i' ((bo.elems.getD i' []).set j0 (.vec b.elems false))).getD i' []=(bo.elems.getD i' []).set j0 (.vec b.elems false):=by
           rw [List.getD_eq_getElem?_getD,List.getElem?_set]; simp [hi0]
          rw [e1]
          by_cases hjj:j'=j0
          · subst hjj
            have e2:((bo.elems.getD i' []).set j' (.vec b.elems false)).getD j' pvu=.vec b.elems false:=by
             rw [List.getD_eq_getElem?_getD,List.getElem?_set,if_pos rfl,if_pos hj0]; rfl
            rw [e2]
            exact hrep
          · have e2 : ((bo.elems.getD i' []).set j0 (.vec b.elems false)).getD j' pvu = (bo.elems.getD i' []).getD j' pvu := by
             rw [List.getD_eq_getElem?_getD,List.getElem?_set,if_neg (Ne.symm hjj),← List.getD_eq_getElem?_getD]
            rw [e2]
            exact (hrepo i' j' hi' hj').2.mono hx fun _ _ h=>h
        · have e1 : (bo.elems.set i0 ((bo.elems.getD i0 []).set j0 (.vec b.elems false))).getD i' [] = bo.elems.getD i' [] := by
           rw [List.getD_eq_getElem?_getD,List.getElem?_set,if_neg (Ne.symm hii),← List.getD_eq_getElem?_getD]
          rw [e1]
          exact (hrepo i' j' hi' hj').2.mono hx fun _ _ h=>h
    · rw [Heap.upd_ne _ _ hio] at hi
      exact s2.live i bi hi
  · have conv : ∀ {i : Nat} {bi : Bx}, ((h.del id).upd ob ⟨bo.esz, bo.elems.set i0 ((bo.elems.getD i0 []).set j0 (.vec b.elems false))⟩) i = some bi → ∃ b0, (h.del id) i = some b0 := by
     intro i bi hi
     by_cases hio:i=ob
     · subst hio; exact⟨bo,hdel⟩
     · rw [Heap.upd_ne _ _ hio] at hi; exact⟨bi,hi⟩
    obtain⟨b1,g1⟩:=conv hi
    obtain⟨b2,g2⟩:=conv hj
    exact s2.sep i j b1 b2 li lj k g1 g2 hli hlj hki hkj
 by_cases hc0:loc'.cap=0
 · have hl0 : loc'.len = 0 := by have := h2.cap; omega
   have he0:b.elems = []:=List.eq_nil_of_length_eq_zero (by rw [h2.len,hl0])
   refine fin (fun _ _ h=>h) s1 ?_
   rw [hv,he0,hl0,hc0]
   cases hbs:loc'.base with
   | none=>exact .vecnil false
   | some x=>exact .vec (F:=F) (φ:=φ) x 0 0 [] false (fun _ _=>undef) (fun h=>absurd rfl h) (Nat.le_refl _) (by simp) (by simp) (by simp) (by simp) (by simp)
 · obtain ⟨ad, hbase, hs, cells, ct, hg, hroom, hrep⟩ := h2.room hc0
   have hhas:loc'.has ad.block:=⟨hc0,ad,hbase,rfl⟩
   have s2:=s1.frz hg (h3 _ hhas).2 (s.del_no hb h1 hhas) (h3 _ hhas).1
   have hx:=Z1c (h3 _ hhas).2 cells
   refine fin hx s2 ?_
   rw [hv,hbase,← h2.len]
   have hlt2:∀ i j,i<b.elems.length→j<loc'.esz→ad.off+(i*loc'.esz+j)<cells.size:=fun i j hi hj=>by
    have:=Z1i (n:=loc'.cap) (i:=i) (j:=j) (esz:=loc'.esz) (by have:=h2.cap; have:=h2.len;omega) hj
    omega
   refine .vec ad loc'.cap loc'.esz b.elems false (fun i j=>cells.getD (ad.off+(i*loc'.esz+j)) undef) (fun _=>hs) (by rw [h2.len]; exact h2.cap) (by simp) (by rw [h2.len]; exact h2.max) (fun i hi=>h2.el _ (by simp [List.getD_eq_getElem?_getD,hi])) (fun i j hi hj=>?_) (fun i j hi hj=>?_)
   · exact Z1g F _ _ (hlt2 i j hi hj) (hrep i j (by rw [← h2.len]; exact hi) hj).1
   · exact (hrep i j (by rw [← h2.len]; exact hi) hj).2.mono hx fun _ _ h=>h
theorem Z1o {ob id i0 j0:Nat} {bo b:Bx} (hob:h ob=some bo) (hb:h id=some b) (hne:ob≠id) (hp:pureLL b.elems) (hi0:i0<bo.elems.length) (hj0:j0<(bo.elems.getD i0 []).length) (hcell:(bo.elems.getD i0 []).getD j0 pvu=.own id) (hz:0<bo.esz:=by exact Nat.le_of_ble_eq_true rfl) :
 SubA n e h n e ((h.del id).upd ob ⟨bo.esz,bo.elems.set i0 ((bo.elems.getD i0 []).set j0 (.vec b.elems false))⟩):=fun _=>Z1z hob hb hne hp hi0 hj0 hcell hz
end
end Go.Proofs.YtojlnagiaibgkaaGreatDoor
namespace Go.Proofs.YtojlnagiaibgkaaGreatDoor
open Go.RowKit
attribute [local irreducible] aw opsK dK
theorem Z8b {α:Type} {p:α→Bool}:∀ {xs:List α},(∃ x∈xs,p x=true)→∃ (i:Nat) (hi:i<xs.length),idxI p xs=(i:Int)∧p xs[i]=true
 | [],h=>by obtain⟨_,h,_⟩:=h; cases h
 | x :: xs, h => by
   by_cases hx:p x=true
   · exact⟨0,Nat.zero_lt_succ _,by simp [idxI,hx],hx⟩
   · obtain ⟨y, hy, hp⟩ := h
     obtain⟨i,hi,h1,h2⟩:=Z8b (p:=p) (xs:=xs) ⟨y,(List.mem_cons.1 hy).resolve_left fun e=>hx (e▸hp),hp⟩
     refine⟨i+1,by rw [List.length_cons]; omega,?_,h2⟩
     have hn:¬ ((i:Int)<0):=by omega
     simp [idxI,hx,h1,hn]
set_option maxHeartbeats 1000000 in
theorem ZbA (xs:List Int) (v:Int) (fl:Bool):Spec Tryz.prog 93 [.vec (nums xs) fl,.val (.int .i64 v)] (· = .val (.int .i64 (idxI (fun x=>v == x) xs))):=by
 have hnl:=Z1d xs
 refine Z2 ok93 (Nat.le_of_ble_eq_true rfl) fun C hC=>?_
 refine Z3B (k:=0) rfl fun hmax=>?_
 have hlm:xs.length≤maxVec:=by rw [← hnl]; exact hmax
 (refine go ?_;repeat' (apply B<;>intro hb<;>try cases hb))
 refine Z3D (fun i=>i≤xs.length∧(xs.take i).any (fun x=>v == x)=false) (fun i=>xs.length-i) (fun i => [(0,.vec (nums xs) fl),(1,.val (.int .i64 v)),(7,.val (.int .i64 (xs.length:Int))),(8,.val (.int .i64 (i:Int)))]) 0 ⟨Nat.zero_le _,rfl⟩ ⟨rfl,rfl,by rw [← hnl]; rfl,rfl,trivial⟩ ?_
 rintro i ⟨hi,hno⟩
 have hinc:IntKind.i64.wrap ((i:Int)+1)=((i+1:Nat):Int):=IntWalk.i64_in _ ⟨by omega,by simp only [maxVec] at hlm; omega⟩
 iterate 2 (first|refine st ?_|(apply B<;>intro hb<;>try cases hb))
 refine Zs rfl rfl rfl (fun hb=>?_) (fun hb=>?_)
 · have hil : i < xs.length := by have := of_decide_eq_true hb; omega
   clear hb
   (refine go ?_;repeat' (apply B<;>intro hb<;>try cases hb))
   refine Z5 (Zl (xs:=xs) (g:=fun x => [.val (.int .i64 x)]) rfl rfl i rfl hil rfl) rfl rfl ?_
   iterate 1 (first|refine st ?_|(apply B<;>intro hb<;>try cases hb))
   refine Zs rfl rfl rfl (fun hx=>?_) (fun hx=>?_)
   · (refine go ?_;repeat' (apply B<;>intro hb<;>try cases hb))
     exact Z3 rfl trivial (by rw [Z79 hil hno hx])
   · (refine go ?_;repeat' (apply B<;>intro hb<;>try cases hb))
     exact⟨i+1,⟨by omega,Z4N hil hno hx⟩,by omega,rfl,rfl,⟨rfl,rfl,rfl,by show some _=some _; rw [hinc],trivial⟩⟩
 · have hil : i = xs.length := by have := of_decide_eq_false hb; omega
   subst hil
   rw [List.take_length] at hno
   (refine go ?_;repeat' (apply B<;>intro hb<;>try cases hb))
   exact Z3 rfl trivial (by rw [Z2J hno]; rfl)
theorem ZeB (f:Nat→Int):tab (intR f)=nums ((List.range 64).map f):=by rw [tab,nums,List.map_map]; rfl
theorem Z7j {f:Nat→Int} {i:Nat} (v:Int) (hi:i<64):(tab (intR f)).set i (setAt ((tab (intR f)).getD i []) 0 [.val (.int .i64 v)])=tab (intR fun j=>if j=i then v else f j):=by
 rw [Z2a hi,show setAt (intR f i) 0 [.val (.int .i64 v)] = [.val (.int .i64 v)] from rfl,Zda _ hi]
 refine Z2N fun j _=>?_
 show (if j=i then [PV.val (.int .i64 v)] else intR f j) = [PV.val (.int .i64 (if j=i then v else f j))]
 by_cases hj:j=i
 · rw [if_pos hj,if_pos hj]
 · rw [if_neg hj,if_neg hj]; rfl
theorem Z5z {f g:Nat→Int} (h:∀ j,j<64→f j=g j):tab (intR f)=tab (intR g):=Z2N fun j hj=>by show [PV.val (.int .i64 (f j))] = [PV.val (.int .i64 (g j))]; rw [h j hj]
def ordB (l:List Pr) (fp:Bool) (a b s:PV):Bx:=⟨5,[[.val (.int .i64 64),.vec (l.map prC) fp,a,b,s]]⟩
theorem Zn (l:List Pr):pureLL (l.map prC):=Z34 Z3R l
set_option maxHeartbeats 4000000 in
theorem ZbB (l:List Pr) (fp:Bool) (hl:Small l) (hacy:Acy l) (hlen:l.length≤1000000) :
 PSpec Tryz.prog 59 (ordB l fp (.vec [] true) (.vec [] true) (.vec [] true)) [] fun r b'=>r=.val (.bool true)∧∃ S,Topo l S∧S.length=64∧b'=ordB l fp (.vec [] true) (.vec [] true) (.vec (nums (intsN S)) false):=by
 have hpl:∀ D,innLL D (l.map prC):=fun D=>Zi (fun _ h=>h.elim) _ (Zn l)
 have hnl:(l.map prC).length=l.length:=by simp
 have hti:∀ (f:Nat→Int) D,innLL D (tab (intR f)):=fun f D=>Zi (fun _ h=>h.elim) _ (Z16 (Z3S f))
 refine Z5a ok59 (Nat.le_of_ble_eq_true rfl) fun C hC=>?_
 iterate 2 (first|refine st ?_|(apply B<;>intro hb<;>try cases hb))
 refine Zg (Z21 (id:=0) (i0:=0) (j0:=4) rfl (Nat.le_of_ble_eq_true rfl) (Nat.le_of_ble_eq_true rfl) rfl 1 (by decide) (by decide)) ?_
 (refine go ?_;repeat' (apply B<;>intro hb<;>try cases hb))
 refine ZD hC (fun i=>i≤l.length) (fun i=>l.length-i) 3 (fun i => [(0,.ptr 0 0 0),(3,.own 2),(17,.vec (l.map prC) fp),(18,.val (.int .i64 l.length)),(19,.val (.int .i64 (i:Int)))])
  (fun i => [(0,ordB l fp (.vec [] true) (.vec [] true) (.own 1)),(1,⟨1,[]⟩),(2,⟨1,tab (intR fun j=>(cntP (l.take i) j:Nat))⟩)]) (by omega) 0 (Nat.zero_le _)
  ⟨⟨rfl,show (0:Nat)<3 by decide⟩,⟨rfl,show (2:Nat)<3 by decide⟩,⟨rfl,hpl _⟩,⟨by rw [← hnl]; rfl,trivial⟩,⟨rfl,trivial⟩,trivial⟩
  ⟨⟨by decide,rfl,⟨⟨trivial,hpl _,trivial,trivial,show (1:Nat)<3 by decide,trivial⟩,trivial⟩⟩,⟨by decide,rfl,trivial⟩,⟨by decide,by show some (Bx.mk 1 (List.replicate 64 (zpv [Value.int .i64 0])))=_; rw [ZfB]; rfl,hti _ _⟩,trivial⟩ ?_
 intro i hi
 have hinc:IntKind.i64.wrap ((i:Int)+1)=((i+1:Nat):Int):=IntWalk.i64_in _ ⟨by omega,by omega⟩
 iterate 2 (first|refine st ?_|(apply B<;>intro hb<;>try cases hb))
 refine Zs rfl rfl rfl (fun hb=>?_) (fun hb=>?_)
 · have hil : i < l.length := by have := of_decide_eq_true hb; omega
   have hp:=hl _ (List.getElem_mem hil)
   have hst:=fun j=>Zd9 hil j
   have hcl:=ZfA (l.take i) l[i].2
   rw [List.length_take] at hcl
   clear hb
   (refine go ?_;repeat' (apply B<;>intro hb<;>try cases hb))
   refine Z5 (Zl (xs:=l) (g:=prC) rfl rfl i rfl hil rfl) rfl rfl ?_
   generalize l[i]=p at hp hst hcl ⊢
   (refine go ?_;repeat' (apply B<;>intro hb<;>try cases hb))
   refine Z5 (ZM rfl rfl rfl p.2 rfl (by rw [ZC]; exact hp.2) rfl) rfl rfl ?_
   refine Z5 (Z3C (i:=p.2) rfl rfl (by rw [ZC]; exact hp.2) (by rw [Z2a hp.2]; rfl)) rfl rfl ?_
   (refine go ?_;repeat' (apply B<;>intro hb<;>try cases hb))
   refine Z5 (ZM rfl rfl rfl p.2 rfl (by rw [ZC]; exact hp.2) rfl) rfl rfl ?_
   refine Z5 (Z2D (i:=p.2) rfl rfl rfl rfl rfl (by rw [ZC]; exact hp.2) (Nat.le_refl _)) rfl rfl ?_
   (refine go ?_;repeat' (apply B<;>intro hb<;>try cases hb))
   have hadd:IntKind.i64.wrap (((cntP (l.take i) p.2:Nat):Int)+1)=((cntP (l.take i) p.2+1:Nat):Int):=IntWalk.i64_in _ ⟨by omega,by omega⟩
   refine⟨i+1,by omega,by omega,⟨⟨rfl,show (0:Nat)<3 by decide⟩,⟨rfl,show (2:Nat)<3 by decide⟩,⟨rfl,hpl _⟩,⟨rfl,trivial⟩,⟨by show some _=some _; rw [hinc],trivial⟩,trivial⟩,
    ⟨⟨by decide,rfl,⟨⟨trivial,hpl _,trivial,trivial,show (1:Nat)<3 by decide,trivial⟩,trivial⟩⟩,⟨by decide,rfl,trivial⟩,⟨by decide,?_,hti _ _⟩,trivial⟩⟩
   show some (Bx.mk 1 ((tab (intR fun j=>(cntP (l.take i) j:Nat))).set p.2 (setAt ((tab (intR fun j=>(cntP (l.take i) j:Nat))).getD p.2 []) 0 [.val (.int .i64 (IntKind.i64.wrap (((cntP (l.take i) p.2:Nat):Int)+1)))])))=some _
   rw [Z7j _ hp.2,hadd]
   refine congrArg (fun t=>some (Bx.mk 1 t)) (Z5z fun j _=>?_)
   show (if j=p.2 then ((cntP (l.take i) p.2+1:Nat):Int) else ((cntP (l.take i) j:Nat):Int))=((cntP (l.take (i+1)) j:Nat):Int)
   rw [hst j]
   by_cases hj:j=p.2
   · rw [if_pos hj,if_pos hj,hj]
   · rw [if_neg hj,if_neg hj]
 · have hil : i = l.length := by have := of_decide_eq_false hb; omega
   subst hil
   rw [List.take_length]
   clear hb
   (refine go ?_;repeat' (apply B<;>intro hb<;>try cases hb))
   refine Z1Y hC (fun S:List Nat=>Topo l S) (fun S=>64-S.length) 3 (fun S => [(0,.ptr 0 0 0),(3,.own 2)])
    (fun S => [(0,ordB l fp (.vec [] true) (.vec [] true) (.own 1)),(1,⟨1,nums (intsN S)⟩),(2,⟨1,tab (intR (leftA l S))⟩)]) (by decide) [] (Topo.nil l) (fun i=>i) (fun _ _=>rfl) ZU
    ⟨⟨_,rfl,.ptr (ρ:=fun i=>i) 0 0 0 (by decide)⟩,⟨_,rfl,.own (ρ:=fun i=>i) 2 (by decide)⟩,trivial⟩
    ⟨⟨by decide, _, rfl, RenB.single ⟨.pure _ trivial, .pure _ (Zn l), .pure _ trivial, .pure _ trivial, .own (ρ := fun i => i) 1 (by decide), trivial⟩ rfl⟩, ⟨by decide, _, rfl, .same _ trivial⟩,
      ⟨by decide,_,rfl,by rw [show leftA l []=fun j=>((cntP l j:Nat):Int) from funext (ZeA l)]; exact .same _ (Z16 (Z3S _))⟩,trivial⟩ ?_
   intro S hT
   have hSl:=hT.len
   have hSn:(nums (intsN S)).length=S.length:=by simp [nums,intsN]
   have hap:∀ (l:List Nat) D,innLL D (nums (intsN l)):=fun l D=>Zt _ D
   (repeat'(first|refine Z4 40 ?_|refine Z0 40 ?_|refine st ?_|(apply B<;>intro hb<;>try cases hb)))<;>try refine At.mk ?_
   refine Z6U rfl rfl rfl (fun hb=>?_) (fun hb=>?_)
   · have hlt : S.length < 64 := by
      have h2:=of_decide_eq_true hb
      rw [hSn] at h2
      omega
     clear hb
     (refine go ?_;repeat' (apply B<;>intro hb<;>try cases hb))
     obtain⟨j0,hj0,hjn,hjp⟩:=kahn hl hacy hT hlt
     obtain⟨k,hk,hidx,hpk⟩:=Z8b (p:=fun x=>(0:Int) == x) (xs:=(List.range 64).map (leftA l S)) ⟨leftA l S j0,List.mem_map.2 ⟨j0,List.mem_range.2 hj0,rfl⟩,by rw [Z6q.2 ⟨hjn,hjp⟩]; rfl⟩
     have hk64:k<64:=by simpa using hk
     have hz:leftA l S k=0:=by
      have:=eq_of_beq hpk
      rw [List.getElem_map,List.getElem_range] at this
      exact this.symm
     obtain⟨hkS,hkp⟩:=Z6q.1 hz
     refine ZfC (i:=0) (k:=2) (ZbA ((List.range 64).map (leftA l S)) 0 false) rfl rfl rfl rfl (by show [PV.vec (tab (intR (leftA l S))) false,PV.val (.int .i64 0)]=_; rw [ZeB]) (Z16 (Z3S _)) ⟨Z9 _,trivial,trivial⟩ ?_
     rw [hidx]
     have hT':=hT.snoc hkS hk64 hkp
     (refine go ?_;repeat' (apply B<;>intro hb<;>try cases hb))
     · refine Z5 (ZM rfl rfl rfl k rfl (by rw [ZC]; exact hk64) rfl) rfl rfl ?_
       refine Z5 (Z2D (i:=k) rfl rfl rfl rfl rfl (by rw [ZC]; exact hk64) (Nat.le_refl _)) rfl rfl ?_
       have e0:(tab (intR (leftA l S))).set k (setAt ((tab (intR (leftA l S))).getD k []) 0 [.val (.int .i64 (-1))])=tab (intR (leftB l S k 0)):=by
        rw [Z7j _ hk64]
        exact Z5z fun j _=>(Zby l S k j).symm
       (refine go ?_;repeat' (apply B<;>intro hb<;>try cases hb))
       refine ZL (ZQ (k:=1) (m := [[.val (.int .i64 (k:Int))]]) (fl:=true) (b:=⟨1,nums (intsN S)⟩) rfl rfl rfl (fun r hr=>by rw [List.mem_singleton] at hr; subst hr; rfl) rfl (by
        show ((nums (intsN S)).length+1)*8≤_
        rw [hSn];omega)) rfl rfl ?_
       (refine go ?_;repeat' (apply B<;>intro hb<;>try cases hb))
       have hSk:nums (intsN S) ++ [[PV.val (.int .i64 (k:Int))]]=nums (intsN (S ++ [k])):=by simp [nums,intsN]
       refine ZD hC (fun i=>i≤l.length) (fun i=>l.length-i) 14 (fun i => [(0,.ptr 0 0 0),(3,.own 2),(6,.val (.int .i64 (k:Int))),(61,.vec (l.map prC) fp),(62,.val (.int .i64 l.length)),(63,.val (.int .i64 (i:Int)))])
        (fun i => [(0,ordB l fp (.vec [] true) (.vec [] true) (.own 13)),(13,⟨1,nums (intsN (S ++ [k]))⟩),(2,⟨1,tab (intR (leftB l S k i))⟩)]) (by decide) 0 (Nat.zero_le _)
        ⟨⟨rfl,show (0:Nat)<14 by decide⟩,⟨rfl,show (2:Nat)<14 by decide⟩,⟨rfl,trivial⟩,⟨rfl,hpl _⟩,⟨by rw [← hnl]; rfl,trivial⟩,⟨rfl,trivial⟩,trivial⟩
        ⟨⟨by decide,rfl,⟨⟨trivial,hpl _,trivial,trivial,show (13:Nat)<14 by decide,trivial⟩,trivial⟩⟩,⟨by decide,by rw [← hSk]; rfl,hap _ _⟩,⟨by decide,by rw [← e0]; rfl,hti _ _⟩,trivial⟩ ?_
       intro i hi
       have hinc:IntKind.i64.wrap ((i:Int)+1)=((i+1:Nat):Int):=IntWalk.i64_in _ ⟨by omega,by omega⟩
       iterate 2 (first|refine st ?_|(apply B<;>intro hb<;>try cases hb))
       refine Zs rfl rfl rfl (fun hb=>?_) (fun hb=>?_)
       · have hil : i < l.length := by have := of_decide_eq_true hb; omega
         have hp:=hl _ (List.getElem_mem hil)
         have hst:=fun j=>Zbz hil j hT hkS hkp
         clear hb
         (refine go ?_;repeat' (apply B<;>intro hb<;>try cases hb))
         refine Z5 (Zl (xs:=l) (g:=prC) rfl rfl i rfl hil rfl) rfl rfl ?_
         generalize l[i]=p at hp hst ⊢
         have hbl:=Zez l S k i p.2
         (refine go ?_;repeat' (apply B<;>intro hb<;>try cases hb))
         · have hpk1 : p.1 = k := by have := eq_of_beq hb; exact Int.ofNat_inj.1 this
           clear hb
           refine Z5 (ZM rfl rfl rfl p.2 rfl (by rw [ZC]; exact hp.2) rfl) rfl rfl ?_
           refine Z5 (Z3C (i:=p.2) rfl rfl (by rw [ZC]; exact hp.2) (by rw [Z2a hp.2]; rfl)) rfl rfl ?_
           (refine go ?_;repeat' (apply B<;>intro hb<;>try cases hb))
           refine Z5 (ZM rfl rfl rfl p.2 rfl (by rw [ZC]; exact hp.2) rfl) rfl rfl ?_
           refine Z5 (Z2D (i:=p.2) rfl rfl rfl rfl rfl (by rw [ZC]; exact hp.2) (Nat.le_refl _)) rfl rfl ?_
           (refine go ?_;repeat' (apply B<;>intro hb<;>try cases hb))
           have hsub:IntKind.i64.wrap (leftB l S k i p.2-1)=leftB l S k i p.2-1:=IntWalk.i64_in _ ⟨by omega,by omega⟩
           refine⟨i+1,by omega,by omega,⟨⟨rfl,show (0:Nat)<14 by decide⟩,⟨rfl,show (2:Nat)<14 by decide⟩,⟨rfl,trivial⟩,⟨rfl,hpl _⟩,⟨rfl,trivial⟩,⟨by show some _=some _; rw [hinc],trivial⟩,trivial⟩,
            ⟨⟨by decide,rfl,⟨⟨trivial,hpl _,trivial,trivial,show (13:Nat)<14 by decide,trivial⟩,trivial⟩⟩,⟨by decide,rfl,hap _ _⟩,⟨by decide,?_,hti _ _⟩,trivial⟩⟩
           show some (Bx.mk 1 ((tab (intR (leftB l S k i))).set p.2 (setAt ((tab (intR (leftB l S k i))).getD p.2 []) 0 [.val (.int .i64 (IntKind.i64.wrap (leftB l S k i p.2-1)))])))=some _
           rw [Z7j _ hp.2,hsub]
           refine congrArg (fun t=>some (Bx.mk 1 t)) (Z5z fun j _=>?_)
           show (if j=p.2 then leftB l S k i p.2-1 else leftB l S k i j)=leftB l S k (i+1) j
           rw [hst j]
           by_cases hj:j=p.2
           · rw [if_pos hj,if_pos ⟨hpk1,hj⟩,hj]
           · rw [if_neg hj,if_neg fun h=>hj h.2]
         · have hpk1 : ¬ p.1 = k := fun h => by rw [h] at hb; simp at hb
           clear hb
           refine⟨i+1,by omega,by omega,⟨⟨rfl,show (0:Nat)<14 by decide⟩,⟨rfl,show (2:Nat)<14 by decide⟩,⟨rfl,trivial⟩,⟨rfl,hpl _⟩,⟨rfl,trivial⟩,⟨by show some _=some _; rw [hinc],trivial⟩,trivial⟩,
            ⟨⟨by decide,rfl,⟨⟨trivial,hpl _,trivial,trivial,show (13:Nat)<14 by decide,trivial⟩,trivial⟩⟩,⟨by decide,rfl,hap _ _⟩,⟨by decide,?_,hti _ _⟩,trivial⟩⟩
           show some (Bx.mk 1 (tab (intR (leftB l S k i))))=some _
           refine congrArg (fun t=>some (Bx.mk 1 t)) (Z5z fun j _=>?_)
           rw [hst j,if_neg fun h=>hpk1 h.1]
       · have hil : i = l.length := by have := of_decide_eq_false hb; omega
         subst hil
         clear hb
         (refine go ?_;repeat' (apply B<;>intro hb<;>try cases hb))
         refine⟨S ++ [k],mv 1 13,hT',by rw [List.length_append,List.length_singleton]; omega,Z4q (Nat.le_refl 1),ZE rfl,
          ⟨⟨_,rfl,.ptr (ρ:=mv 1 13) 0 0 0 (by decide)⟩,⟨_,rfl,.own (ρ:=mv 1 13) 2 (by decide)⟩,trivial⟩,
          ⟨⟨by decide,_,rfl,RenB.single ⟨.pure _ trivial,.pure _ (Zn l),.pure _ trivial,.pure _ trivial,.own (ρ:=mv 1 13) 1 (by decide),trivial⟩ rfl⟩,⟨by decide,_,rfl,.same _ (Z9 _)⟩,
          ⟨by decide,_,rfl,?_⟩,trivial⟩⟩
         rw [show tab (intR (leftB l S k l.length))=tab (intR (leftA l (S ++ [k]))) from Z5z fun j _=>Zd8 l S k j]
         exact .same _ (Z16 (Z3S _))
   · have h64 : S.length = 64 := by
      have h2:=of_decide_eq_false hb
      rw [hSn] at h2
      omega
     clear hb
     (repeat'(first|refine Z4 2 ?_|refine Z0 2 ?_|refine st ?_|(apply B<;>intro hb<;>try cases hb)))<;>try refine At.mk ?_
     refine Zg (Z1o (ob:=0) (id:=1) (i0:=0) (j0:=4) rfl rfl (by decide) (Z9 _) (Nat.le_of_ble_eq_true rfl) (Nat.le_of_ble_eq_true rfl) rfl) ?_
     (refine go ?_;repeat' (apply B<;>intro hb<;>try cases hb))
     exact⟨_,_,rfl,.inl rfl,_,rfl,trivial,⟨⟨trivial,Zn l,trivial,trivial,Z9 _,trivial⟩,trivial⟩,rfl,S,hT,h64,rfl⟩
end Go.Proofs.YtojlnagiaibgkaaGreatDoor
namespace Go.Proofs.YtojlnagiaibgkaaGreatDoor
open Go.RowKit
section
variable {P:Program} {C:Ctx} {e:Env} {h:Heap}
theorem ZeD (k k':Nat):mv k k' k=k':=by
 unfold mv
 rw [show Nat.beq k k=true from Nat.beq_refl k]; rfl
theorem Z4C {k k' i:Nat} (hi:i≠k):mv k k' i=i:=by
 have e1:Nat.beq i k=false:=Bool.eq_false_iff.2 fun hb=>hi (Nat.eq_of_beq_eq_true hb)
 unfold mv
 rw [e1]; rfl
theorem Z9q {h0:Heap} {D n0:Nat} (hD:D<n0) {g:Nat→Bx} {j0 new n':Nat} (hj:j0<64) (hnew:n0+64≤new) {r:Bx} (hr:pureLL r.elems) (hg:∀ j,pureLL (g j).elems) {e':Env} (he:∀ k p,e' k=some p→∃ p0,e k=some p0∧RenP (mv (n0+j0) new) (fun i=>i<n0+64) p0 p)
 (hb:∀ k b,h0 k=some b→k≠D→k<n0∧RenB (mv (n0+j0) new) (fun i=>i<n0+64) b b) {m:Nat} (hdom:C.dom m) (hm:m≤n0) :
 Sub C n' e ((((tabH h0 D n0 (fun j=>.own (n0+j)) 64 g).del (n0+j0)).upd new r).upd D ⟨1,((List.range 64).map fun j => [PV.own (n0+j)]).set j0 [.own new]⟩) (n0+64) e' (tabH h0 D n0 (fun j=>.own (n0+j)) 64 fun j=>if j=j0 then r else g j):=by
 have hcase:∀ k b,tabH h0 D n0 (fun j=>.own (n0+j)) 64 (fun j=>if j=j0 then r else g j) k=some b→k<n0+64:=fun k b hk=>by
  rcases Z6s hD hk with⟨rfl,_⟩|⟨j,hj,rfl,_⟩|⟨h1,h2,h3⟩
  · omega
  · omega
  · have:=(hb k b h3 h1).1; omega
 refine ZeC (mv (n0+j0) new) he (fun k b hk=>⟨hcase k b hk,?_⟩) (fun k k' b b' hk hk' hh=>?_) hdom (by omega) (fun i hi=>Z4C (by omega))
 · rcases Z6s hD hk with ⟨rfl, rfl⟩ | ⟨j, hj2, rfl, rfl⟩ | ⟨h1, h2, h3⟩
   · rw [Z4C (by omega), Heap.upd_same]
     refine⟨_,rfl,.gen _ _ Nat.zero_lt_one rfl (by simp) (fun i hi=>?_) fun i q hi hq=>?_⟩
     · have hi' : i < 64 := by simpa using hi
       rw [Z3T _ hj,ZZ hi',ZZ hi']
       split<;>rfl
     · have hi' : i < 64 := by simpa using hi
       have hq0:q=0:=Nat.lt_one_iff.1 hq
       subst hq0
       rw [Z3T _ hj,ZZ hi',ZZ hi']
       by_cases hij:i=j0
       · subst hij
         rw [if_pos rfl]
         show RenP _ _ (.own new) (.own (n0+i))
         have:=RenP.own (ρ:=mv (n0+i) new) (D:=fun x=>x<n0+64) (n0+i) (by omega)
         rw [ZeD] at this
         exact this
       · rw [if_neg hij]
         show RenP _ _ (.own (n0+i)) (.own (n0+i))
         have:=RenP.own (ρ:=mv (n0+j0) new) (D:=fun x=>x<n0+64) (n0+i) (by omega)
         rw [Z4C (by omega)] at this
         exact this
   · by_cases hjj : j = j0
     · subst hjj
       rw [ZeD,Heap.upd_ne _ _ (by omega),Heap.upd_same,if_pos rfl]
       exact⟨r,rfl,.same r hr⟩
     · rw [Z4C (by omega), Heap.upd_ne _ _ (by omega), Heap.upd_ne _ _ (by omega), Heap.del_ne _ (by omega), Z1M _ hD _ _ hj2, if_neg hjj]
       exact⟨g j,rfl,.same _ (hg j)⟩
   · have h4 := hb k b h3 h1
     rw [Z4C (by omega),Heap.upd_ne _ _ h1,Heap.upd_ne _ _ (by omega),Heap.del_ne _ (by omega),Z1N _ _ _ h1 h2]
     exact⟨b,h3,h4.2⟩
 · have l1 := hcase k b hk
   have l2:=hcase k' b' hk'
   by_cases e1:k=n0+j0
   · by_cases e2 : k' = n0 + j0
     · rw [e1,e2]
     · rw [e1,ZeD,Z4C e2] at hh; omega
   · by_cases e2 : k' = n0 + j0
     · rw [e2,ZeD,Z4C e1] at hh; omega
     · rw [Z4C e1,Z4C e2] at hh; exact hh
def frzTo (n0 i:Nat) (g:Nat→Bx) (j:Nat):PV:=if j<i then .vec (g j).elems false else .own (n0+j)
theorem ZeE {h0:Heap} {D n0 i:Nat} (hD:D<n0) (h0n:∀ k,n0≤k→k<n0+64→h0 k=none) (g:Nat→Bx) (hi:i<64) :
 ((tabH h0 D (n0 + i) (frzTo n0 i g) (64 - i) (fun q => g (i + q))).del (n0 + i)).upd D ⟨1, ((List.range 64).map fun j => [frzTo n0 i g j]).set i ((((List.range 64).map fun j => [frzTo n0 i g j]).getD i []).set 0 (.vec (g i).elems false))⟩
   = tabH h0 D (n0+(i+1)) (frzTo n0 (i+1) g) (64-(i+1)) (fun q=>g (i+1+q)):=by
 funext k
 rw [ZZ hi,Z3T _ hi]
 by_cases h2:k=D
 · subst h2
   rw [Heap.upd_same,Z24]
   refine congrArg (fun l=>some (Bx.mk 1 l)) (List.map_congr_left fun j hj=>?_)
   unfold frzTo
   by_cases hji:j=i
   · subst hji; rw [if_pos rfl,if_pos (Nat.lt_succ_self _)]; rfl
   · rw [if_neg hji]
     by_cases hlt:j<i
     · rw [if_pos hlt,if_pos (by omega)]
     · rw [if_neg hlt,if_neg (by omega)]
 · rw [Heap.upd_ne _ _ h2]
   by_cases h1:k=n0+i
   · subst h1
     rw [Heap.del_same,Z1N _ _ _ h2 (by omega),h0n _ (by omega) (by omega)]
   · rw [Heap.del_ne _ h1]
     by_cases h3:n0+(i+1)≤k∧k<n0+64
     · obtain ⟨q, rfl⟩ : ∃ q, k = n0 + (i + 1) + q := ⟨k - (n0 + (i + 1)), by omega⟩
       rw [Z1M _ (by omega) _ _ (by omega:q<64-(i+1)),show n0+(i+1)+q=n0+i+(q+1) by omega,Z1M _ (by omega) _ _ (by omega:q+1<64-i)]
       rw [show i+(q+1)=i+1+q by omega]
     · rw [Z1N _ _ _ h2 (by omega),Z1N _ _ _ h2 (by omega)]
theorem Z7k {h0:Heap} {D n0 n k:Nat} (hD:D<n0) (h0n:∀ k,n0≤k→k<n0+64→h0 k=none) (hk:e k=some (.own D)) {g:Nat→Bx} (hg:∀ j,pureLL (g j).elems) :
 Sub C n e (tabH h0 D n0 (fun j=>.own (n0+j)) 64 g) n (e.upd k (.vec ((List.range 64).map fun j => [.vec (g j).elems false]) false)) (h0.del D):=by
 have key:∀ i,i≤64→Sub C n e (tabH h0 D n0 (fun j=>.own (n0+j)) 64 g) n e (tabH h0 D (n0+i) (frzTo n0 i g) (64-i) (fun q=>g (i+q))):=by
  intro i
  induction i with
  | zero =>
    intro _
    have e1:tabH h0 D (n0+0) (frzTo n0 0 g) (64-0) (fun q=>g (0+q))=tabH h0 D n0 (fun j=>.own (n0+j)) 64 g:=by
     have e2:(fun q=>g (0+q))=g:=funext fun q=>by rw [Nat.zero_add]
     rw [e2]
     rfl
    rw [e1]
    exact Z6Q
  | succ i ih =>
    intro hi
    have hi':i<64:=by omega
    refine Z4X (ih (by omega)) ?_
    rw [← ZeE hD h0n g hi']
    have hrow:=Z1M h0 (D:=D) (n:=n0+i) (by omega) (frzTo n0 i g) (K:=64-i) (fun q=>g (i+q)) (j:=0) (by omega)
    refine Z1z (ob:=D) (id:=n0+i) (i0:=i) (j0:=0) (bo:=⟨1,(List.range 64).map fun j => [frzTo n0 i g j]⟩) (b:=g i) (Z24 _ _ _ _ _ _) hrow (by omega) (hg i) (by simpa using hi') (by rw [ZZ hi']; exact Nat.zero_lt_one) ?_
    rw [ZZ hi']
    show frzTo n0 i g i=_
    unfold frzTo
    rw [if_neg (Nat.lt_irrefl i)]
 have last:=key 64 (Nat.le_refl _)
 have htab:tabH h0 D (n0+64) (frzTo n0 64 g) (64-64) (fun q=>g (64+q)) D=some ⟨1,(List.range 64).map fun j => [PV.vec (g j).elems false]⟩:=by
  rw [Z24]
  refine congrArg (fun l=>some (Bx.mk 1 l)) (List.map_congr_left fun j hj=>?_)
  unfold frzTo
  rw [if_pos (List.mem_range.1 hj)]
 have hpl:pureLL ((List.range 64).map fun j => [PV.vec (g j).elems false]):=by
  refine (Z1B _ _).2 fun r hr=>?_
  obtain⟨j,_,rfl⟩:=List.mem_map.1 hr
  exact⟨hg j,trivial⟩
 have fz:=Z69 (C:=C) (n:=n) hk htab hpl
 have e3:(tabH h0 D (n0+64) (frzTo n0 64 g) (64-64) (fun q=>g (64+q))).del D=h0.del D:=by
  funext q
  by_cases hq:q=D
  · subst hq; rw [Heap.del_same,Heap.del_same]
  · rw [Heap.del_ne _ hq,Heap.del_ne _ hq,Z1N _ _ _ hq (by omega)]
 rw [e3] at fz
 exact Z4X last fz
end
end Go.Proofs.YtojlnagiaibgkaaGreatDoor
namespace Go.Proofs.YtojlnagiaibgkaaGreatDoor
open Go.RowKit
attribute [local irreducible] aw opsK dK
def dirN (l:List Pr) (j:Nat):List Nat:=(l.filter fun p=>p.2 == j).map (·.1)
theorem Zdc {l:List Pr} {i:Nat} (hi:i<l.length) (j:Nat):dirN (l.take (i+1)) j=if j=l[i].2 then dirN (l.take i) j ++ [l[i].1] else dirN (l.take i) j:=by
 have e:l.take (i+1)=l.take i ++ [l[i]]:=by rw [List.take_add_one,List.getElem?_eq_getElem hi]; rfl
 unfold dirN
 rw [e,List.filter_append]
 by_cases h:j=l[i].2
 · rw [if_pos h,List.filter_cons_of_pos (by simp [h])]; simp
 · rw [if_neg h,List.filter_cons_of_neg (by simp [Ne.symm h])]; simp
theorem Z4P {l:List Pr} {a j:Nat}:a∈dirN l j↔(a,j)∈l:=by
 unfold dirN
 rw [List.mem_map]
 constructor
 · rintro ⟨p, hp, rfl⟩
   obtain⟨h1,h2⟩:=List.mem_filter.1 hp
   have:=eq_of_beq h2
   rw [← this]; exact h1
 · intro h
   exact⟨(a,j),List.mem_filter.2 ⟨h,by simp⟩,rfl⟩
theorem Zaq (l:List Pr) (j:Nat):(dirN l j).length≤l.length:=by
 unfold dirN
 rw [List.length_map]
 exact List.length_filter_le _ _
def dirR (l:List Pr) (j:Nat):Bx:=⟨1,nums (intsN (dirN l j))⟩
theorem Z8c (l:List Pr) (j:Nat):pureLL (dirR l j).elems:=Z9 _
def setR (f:Nat→Nat) (j:Nat):List PV := [.vec (words (digs (f j))) false]
theorem Z1p (f:Nat→Nat) (j:Nat):pureL (setR f j):=⟨Zd _,trivial⟩
theorem ZfD {k m n it mask:Nat} {un:List Nat} (h1:k<n) (h2:m.testBit it=true):okId ⟨none,[(k,m)],un,none⟩ n it mask k=true:=by
 have e1:Nat.blt k n=true:=Eq.mpr Nat.blt_eq h1
 simp [okId,resv,grpB,grpOf,e1,h2]
theorem Zar {k k' m n it mask:Nat} {un:List Nat} (h1:k<n) (h2:k≠k'):okId ⟨none,[(k',m)],un,none⟩ n it mask k=true:=by
 have e1:Nat.blt k n=true:=Eq.mpr Nat.blt_eq h1
 have e2:Nat.beq k k'=false:=Bool.eq_false_iff.2 fun hb=>h2 (Nat.eq_of_beq_eq_true hb)
 simp only [okId,resv,grpB,grpOf,e1,e2]
 rfl
theorem Zgr {k m n it iso:Nat} {un:List Nat} (h:m &&& un.getD it 0=0):okW ⟨none,[(k,m)],un,none⟩ n it iso k=true:=by
 have e1:Nat.beq k k=true:=Nat.beq_refl k
 have e2:apartB ⟨none,[(k,m)],un,none⟩ it k=true:=by
  unfold apartB grpOf
  rw [e1]
  show Nat.beq (m &&& un.getD it 0) 0=true
  rw [h]; rfl
 unfold okW
 rw [e2,Bool.or_true]
theorem ZeF {q m:Nat} (q':Nat) {un:List Nat} {l:List DItem}:unOk ⟨none,[(q,m)],un,none⟩ l=unOk ⟨none,[(q',m)],un,none⟩ l:=rfl
theorem accA {z:Rsv} {zz:List Value} {b:Nat} {s x:Operand} {e:Env} {n it mask iso k:Nat} (hs:ev e s=some (.own k)) (h1:okId z n it mask k=true) (h2:okW z n it iso k=true):accOk z (.append zz b s x) e n it mask iso=true:=by
 simp [accOk,hs,h1,h2]
theorem accI {z:Rsv} {b:Nat} {s x:Operand} {e:Env} {n it mask iso k:Nat} (hs:ev e s=some (.own k)) (h1:okId z n it mask k=true):accOk z (.iaddr b s x) e n it mask iso=true:=by
 simp [accOk,hs,okPtr,h1]
theorem accL {z:Rsv} {g:Bool} {b:Nat} {s:Operand} {e:Env} {n it mask iso k i off:Nat} (hs:ev e s=some (.ptr k i off)) (h1:okId z n it mask k=true):accOk z (.load g b s) e n it mask iso=true:=by
 simp [accOk,hs,okPtr,h1]
theorem accS {z:Rsv} {b:Nat} {s v:Operand} {e:Env} {n it mask iso k i off:Nat} (hs:ev e s=some (.ptr k i off)) (h1:okId z n it mask k=true) (h2:iso.testBit 0=true):accOk z (.store b s v) e n it mask iso=true:=by
 simp [accOk,hs,okPtr,okWP,okW,h1,h2]
def baseR (l:List Pr) (fp:Bool) (S:List Nat):Heap:=heapL [(0,ordB l fp (.own 7) (.own 12) (.vec (nums (intsN S)) false)),(7,⟨1,List.replicate 64 [.vec [] true]⟩),(12,⟨1,List.replicate 64 [.vec [] true]⟩),(19,⟨1,List.replicate 64 [.vec [] true]⟩)]
noncomputable def aS (l:List Pr) (rs:List Nat):Nat:=rs.foldl (fun o a=>(o ||| abv l a) ||| 2 ^ a) 0
theorem ZfE (l:List Pr) (rs:List Nat) (a:Nat):aS l (rs ++ [a])=(aS l rs ||| abv l a) ||| 2 ^ a:=by simp [aS,List.foldl_append]
theorem Zdd (l:List Pr) (b:Nat):∀ (rs:List Nat) (o:Nat),(rs.foldl (fun o a=>(o ||| abv l a) ||| 2 ^ a) o).testBit b=true↔o.testBit b=true ∨ ∃ a∈rs,(abv l a).testBit b=true ∨ b=a
 | [],o=>by simp
 | a :: rs, o => by
   rw [List.foldl_cons,Zdd l b rs,Nat.testBit_or,Nat.testBit_or,Bool.or_eq_true,Bool.or_eq_true,Nat.testBit_two_pow,decide_eq_true_iff]
   constructor
   · rintro (((h | h) | h) | ⟨x, hx, h⟩)
     · exact .inl h
     · exact .inr ⟨a,List.mem_cons_self ..,.inl h⟩
     · exact .inr ⟨a,List.mem_cons_self ..,.inr h.symm⟩
     · exact .inr ⟨x,List.mem_cons_of_mem _ hx,h⟩
   · rintro (h | ⟨x, hx, h⟩)
     · exact .inl (.inl (.inl h))
     · rcases List.mem_cons.1 hx with rfl | hx
       · rcases h with h | h
         · exact .inl (.inl (.inr h))
         · exact .inl (.inr h.symm)
       · exact .inr ⟨x,hx,h⟩
theorem ZfF (l:List Pr):∀ (rs:List Nat) (o:Nat),(∀ a∈rs,a<64)→o<18446744073709551616→rs.foldl (fun o a=>(o ||| abv l a) ||| 2 ^ a) o<18446744073709551616
 | [],o,_,ho=>ho
 | a :: rs, o, h, ho => by
   rw [List.foldl_cons]
   exact ZfF l rs _ (fun x hx=>h x (List.mem_cons_of_mem _ hx)) (Z36 (Z36 ho (Z6p l a)) (Z1K (h a (List.mem_cons_self ..))))
theorem Z9r {l:List Pr} (hl:Small l) {a j:Nat} (h:a∈dirN l j):a<64:=(hl _ (Z4P.1 h)).1
theorem Zg7 {l:List Pr} (hl:Small l) (b:Nat):aS l (dirN l b)=abv l b:=by
 refine eq64 (ZfF l _ 0 (fun a ha=>Z9r hl ha) (by decide)) (Z6p l b) fun i hi=>?_
 rw [Bool.eq_iff_iff,Z5y hl,Zg6]
 unfold aS
 rw [Zdd]
 constructor
 · rintro (h | ⟨a, ha, h⟩)
   · simp at h
   · exact⟨a,Z4P.1 ha,h.elim (fun h=>.inr ((Z5y hl i a).1 h)) .inl⟩
 · rintro ⟨c, hc, h⟩
   exact .inr ⟨c,Z4P.2 hc,h.elim .inr fun h=>.inl ((Z5y hl i c).2 h)⟩
noncomputable def abvT (l:List Pr) (S:List Nat) (t j:Nat):Nat:=if j∈S.take t then abv l j else 0
open Classical in
noncomputable def belT (l:List Pr) (S:List Nat) (t j:Nat):Nat:=ofP (fun b=>decide (b∈S.take t∧Up l j b)) 64
theorem Z3p (l:List Pr) (S:List Nat) (t j:Nat):belT l S t j<18446744073709551616:=Zd5 _
theorem Z3U (l:List Pr) (S:List Nat) (t j b:Nat):(belT l S t j).testBit b=true↔b<64∧b∈S.take t∧Up l j b:=by
 unfold belT
 rw [Z7h]
 simp only [Bool.and_eq_true,decide_eq_true_eq]
theorem Z5A {S:List Nat} {t:Nat} (ht:t<S.length):S.take (t+1)=S.take t ++ [S[t]]:=by rw [List.take_add_one,List.getElem?_eq_getElem ht]; rfl
theorem Zde {l:List Pr} {S:List Nat} {t:Nat} (ht:t<S.length) (j:Nat):abvT l S (t+1) j=if j=S[t] then abv l S[t] else abvT l S t j:=by
 unfold abvT
 rw [Z5A ht]
 by_cases h:j=S[t]
 · rw [if_pos (List.mem_append.2 (.inr (List.mem_singleton.2 h))),if_pos h,h]
 · rw [if_neg h]
   by_cases h2:j∈S.take t
   · rw [if_pos (List.mem_append_left _ h2),if_pos h2]
   · rw [if_neg (fun hh=>(List.mem_append.1 hh).elim h2 fun h3=>h (List.mem_singleton.1 h3)),if_neg h2]
theorem Zas {S:List Nat} (hn:S.Nodup) {t:Nat} (ht:t<S.length):S[t] ∉ S.take t:=by
 intro h
 obtain⟨i,hi,he⟩:=List.getElem_of_mem h
 rw [List.length_take] at hi
 rw [List.getElem_take] at he
 exact (List.pairwise_iff_getElem.1 hn) i t (by omega) ht (by omega) he
theorem ZeG {l:List Pr} {S:List Nat} (hn:S.Nodup) {t:Nat} (ht:t<S.length):abvT l S t S[t]=0:=if_neg (Zas hn ht)
theorem ZeH {l:List Pr} {S:List Nat} {t a:Nat} (h:a∈S.take t):abvT l S t a=abv l a:=if_pos h
theorem Zdf {l:List Pr} (hl:Small l) {S:List Nat} {t:Nat} (ht:t<S.length) (h64:S[t]<64) (j:Nat):belT l S (t+1) j=if j∈mem (abv l S[t]) then belT l S t j ||| 2 ^ S[t] else belT l S t j:=by
 have hm:j∈mem (abv l S[t])↔Up l j S[t]:=by rw [Z1l (Z6p l _),Z5y hl]
 refine eq64 (Z3p ..) (by split; exact Z36 (Z3p ..) (Z1K h64); exact Z3p ..) fun b hb=>?_
 rw [Bool.eq_iff_iff,Z3U,Z5A ht]
 by_cases h:Up l j S[t]
 · rw [if_pos (hm.2 h), Nat.testBit_or, Bool.or_eq_true, Z3U, Nat.testBit_two_pow, decide_eq_true_iff, List.mem_append, List.mem_singleton]
   constructor
   · rintro ⟨h1, h2 | h2, h3⟩
     · exact .inl ⟨h1,h2,h3⟩
     · exact .inr h2.symm
   · rintro (⟨h1, h2, h3⟩ | h2)
     · exact⟨h1,.inl h2,h3⟩
     · subst h2; exact⟨hb,.inr rfl,h⟩
 · rw [if_neg fun hh => h (hm.1 hh), Z3U, List.mem_append, List.mem_singleton]
   constructor
   · rintro ⟨h1, h2 | h2, h3⟩
     · exact⟨h1,h2,h3⟩
     · subst h2; exact absurd h3 h
   · rintro⟨h1,h2,h3⟩; exact⟨h1,.inl h2,h3⟩
theorem ZeI {l:List Pr} {S:List Nat} (hS:Topo l S) (h64:S.length=64) {j:Nat} (hj:j<64):abvT l S 64 j=abv l j:=by
 unfold abvT
 rw [← h64,List.take_length,if_pos (hS.all h64 hj)]
theorem ZeJ {l:List Pr} (hl:Small l) {S:List Nat} (hS:Topo l S) (h64:S.length=64) (j:Nat):belT l S 64 j=bel l j:=by
 refine eq64 (Z3p ..) (Zd7 ..) fun b hb=>?_
 rw [Bool.eq_iff_iff,Z3U,Zd6 hl,← h64,List.take_length]
 exact⟨fun h=>h.2.2,fun h=>⟨by omega,hS.all h64 hb,h⟩⟩
theorem Z2O {f g:Nat→Nat} (h:∀ j,j<64→f j=g j):tab (setR f)=tab (setR g):=Z2N fun j hj=>by show [PV.vec (words (digs (f j))) false] = [PV.vec (words (digs (g j))) false]; rw [h j hj]
theorem Zat {f:Nat→Nat} {i v:Nat} (hi:i<64):(tab (setR f)).set i (setAt ((tab (setR f)).getD i []) 0 [.vec (words (digs v)) false])=tab (setR fun j=>if j=i then v else f j):=by
 rw [Z2a hi,show setAt (setR f i) 0 [.vec (words (digs v)) false] = [.vec (words (digs v)) false] from rfl,Zda _ hi]
 refine Z2N fun j _=>?_
 show (if j=i then [PV.vec (words (digs v)) false] else setR f j) = [PV.vec (words (digs (if j=i then v else f j))) false]
 by_cases hj:j=i
 · rw [if_pos hj,if_pos hj]
 · rw [if_neg hj,if_neg hj]; rfl
theorem Zdg (l:List Pr) (S:List Nat) (j:Nat):belT l S 0 j=0:=by
 refine eq64 (Z3p ..) (by decide) fun b hb=>?_
 rw [Bool.eq_iff_iff,Z3U]
 simp
set_option maxHeartbeats 4000000 in
theorem Z9s (l:List Pr) (fp:Bool) (hl:Small l) (hlen:l.length≤1000000) (S:List Nat) (hS:Topo l S) (h64:S.length=64) :
 PSpec Tryz.prog 60 (ordB l fp (.vec [] true) (.vec [] true) (.vec (nums (intsN S)) false)) [] fun r b'=>r=.tup []∧b'=ordB l fp (.vec (tab (setR (abv l))) false) (.vec (tab (setR (bel l))) false) (.vec (nums (intsN S)) false):=by
 have hpl:∀ D,innLL D (l.map prC):=fun D=>Zi (fun _ h=>h.elim) _ (Zn l)
 have hnl:(l.map prC).length=l.length:=by simp
 have hti:∀ (f:Nat→Nat) D,innLL D (tab (setR f)):=fun f D=>Zi (fun _ h=>h.elim) _ (Z16 (Z1p f))
 have hap:∀ (l:List Nat) D,innLL D (nums (intsN l)):=fun l D=>Zt _ D
 have hSn:(nums (intsN S)).length=S.length:=by simp [nums,intsN]
 refine Z5a ok60 (Nat.le_of_ble_eq_true rfl) fun C hC=>?_
 refine Zh ?_
 refine Za ?_
 refine Z6 rfl rfl rfl ?_
 refine Z13 ?_
 refine Zh ?_
 refine Z9Z [] [(0,148512)] [262143,262143,262143,262143,262143,262143,262143,262143,262143,262143,262143,262143,262143,262143,2050,262143,262143,0] (by kernel_rfl) ?_
 (refine go ?_;repeat' (apply B<;>intro hb<;>try cases hb))
 refine Z6W hC (n':=20) [(1,.cp [.ptr 0 0 0]),(2,.own 19),(34,.vec (l.map prC) fp),(35,.val (.int .i64 l.length)),(36,.val (.int .i64 ((0:Nat):Int)))]
  [(0,ordB l fp (.own 7) (.own 12) (.vec (nums (intsN S)) false)),(7,⟨1,List.replicate 64 [.vec [] true]⟩),(12,⟨1,List.replicate 64 [.vec [] true]⟩),(19,⟨1,List.replicate 64 [.vec [] true]⟩)] (by decide)
  ⟨⟨rfl,show (0:Nat)<20 by decide,trivial⟩,⟨rfl,show (19:Nat)<20 by decide⟩,⟨rfl,hpl _⟩,⟨by rw [← hnl]; rfl,trivial⟩,⟨rfl,trivial⟩,trivial⟩ ?_ ?_
 · exact⟨⟨by decide,rfl,⟨⟨trivial,hpl _,show (7:Nat)<20 by decide,show (12:Nat)<20 by decide,hap _ _,trivial⟩,trivial⟩⟩,⟨by decide,rfl,ZK rfl |> Zi (fun _ h=>h.elim) _⟩,⟨by decide,rfl,ZK rfl |> Zi (fun _ h=>h.elim) _⟩,⟨by decide,rfl,ZK rfl |> Zi (fun _ h=>h.elim) _⟩,trivial⟩
 refine Z2d (ZbC (n:=20) (D:=19) (by decide) rfl 1 (by decide)) ?_
 show aw _ C _ _ 84 _ (tabH (baseR l fp S) 19 20 (fun j=>.own (20+j)) 64 (dirR (l.take 0)))
 have hbs:∀ k b,baseR l fp S k=some b→k≠19→(k=0∧b=ordB l fp (.own 7) (.own 12) (.vec (nums (intsN S)) false)) ∨ ((k=7 ∨ k=12)∧b=⟨1,List.replicate 64 [.vec [] true]⟩):=by
  intro k b hk h19
  have:=Z1h hk
  simp only [List.mem_cons,Prod.mk.injEq,List.not_mem_nil,or_false] at this
  rcases this with h|h|h|h
  · exact .inl h
  · exact .inr ⟨.inl h.1,h.2⟩
  · exact .inr ⟨.inr h.1,h.2⟩
  · exact absurd h.1 h19
 have hren:∀ k0 k',20≤k0→∀ k b,baseR l fp S k=some b→k≠19→k<20∧RenB (mv k0 k') (fun i=>i<20+64) b b:=by
  intro k0 k' hk0 k b hk h19
  have o7:=RenP.own (ρ:=mv k0 k') (D:=fun i=>i<20+64) 7 (by omega)
  have o12:=RenP.own (ρ:=mv k0 k') (D:=fun i=>i<20+64) 12 (by omega)
  rw [Z4C (by omega)] at o7 o12
  rcases hbs k b hk h19 with⟨rfl,rfl⟩|⟨h,rfl⟩
  · exact⟨by omega,RenB.single ⟨.pure _ trivial,.pure _ (Zn l),o7,o12,.pure _ (Z9 _),trivial⟩ rfl⟩
  · exact⟨by omega,.same _ (ZK rfl)⟩
 refine Z6O (fun i=>i≤l.length) (fun i=>l.length-i) (fun _=>84) (fun i=>envL [(1,.cp [.ptr 0 0 0]),(2,.own 19),(34,.vec (l.map prC) fp),(35,.val (.int .i64 l.length)),(36,.val (.int .i64 (i:Int)))]) (fun i=>tabH (baseR l fp S) 19 20 (fun j=>.own (20+j)) 64 (dirR (l.take i))) 0 (Nat.zero_le _) Z6Q ?_
 intro i hi
 have hinc:IntKind.i64.wrap ((i:Int)+1)=((i+1:Nat):Int):=IntWalk.i64_in _ ⟨by omega,by omega⟩
 (repeat'(first|refine Z4 37 ?_|refine Z0 37 ?_|refine st ?_|(apply B<;>intro hb<;>try cases hb)))<;>try refine At.mk ?_
 refine Zs rfl rfl rfl (fun hb=>?_) (fun hb=>?_)
 · have hil : i < l.length := by have := of_decide_eq_true hb; omega
   have hp:=hl _ (List.getElem_mem hil)
   have hst:=fun j=>Zdc hil j
   have hdl:=Zaq (l.take i) l[i].2
   rw [List.length_take] at hdl
   clear hb
   (refine go ?_;repeat' (apply B<;>intro hb<;>try cases hb))
   refine Z5 (Zl (xs:=l) (g:=prC) rfl rfl i rfl hil rfl) rfl rfl ?_
   generalize l[i]=p at hp hst hdl ⊢
   iterate 4 (first|refine st ?_|(apply B<;>intro hb<;>try cases hb))
   refine Z2d (Z1J (k:=4) (id:=84) (esz:=2) (l:=prC p) rfl rfl) ?_
   refine Z2d (Zea (h':=tabH (baseR l fp S) 19 20 (fun j=>.own (20+j)) 64 (dirR (l.take i))) fun k b hk=>?_) ?_
   · have hne : k ≠ 84 := fun h => by
      rw [h,show tabH (baseR l fp S) 19 20 (fun j=>PV.own (20+j)) 64 (dirR (l.take i)) 84=none from rfl] at hk
      cases hk
     rw [Heap.del_ne _ hne,Heap.upd_ne _ _ hne,Heap.upd_ne _ _ hne]
     exact hk
   refine Z9Z [] [(20+p.2,2048)] [16383,16383,16383,16383,16383,16383,16383,16383,16383,16383,16383,4,16383,16383] ((ZeF 0).trans (by kernel_rfl)) ?_
   have hT19:∀ g,tabH (baseR l fp S) 19 20 (fun j=>PV.own (20+j)) 64 g 19=some ⟨1,(List.range 64).map fun j => [PV.own (20+j)]⟩:=fun g=>Z24 _ _ _ _ _ _
   have hlen64:∀ f:Nat→List PV,((List.range 64).map f).length=64:=fun f=>by simp
   (repeat'(first|refine Z4 46 ?_|refine Z0 46 ?_|refine st ?_|(apply B<;>intro hb<;>try cases hb)))<;>try refine At.mk ?_
   refine Zp (ZM rfl rfl (hT19 _) p.2 rfl (by rw [hlen64]; exact hp.2) rfl) (accI rfl (Zar (by omega) (by omega))) rfl ?_
   refine Zp (Z3C (p:=.own (20+p.2)) (i:=p.2) rfl (hT19 _) (by rw [hlen64]; exact hp.2) (by rw [ZZ hp.2]; rfl)) (accL rfl (Zar (by omega) (by omega))) rfl ?_
   (repeat'(first|refine Z4 51 ?_|refine Z0 51 ?_|refine st ?_|(apply B<;>intro hb<;>try cases hb)))<;>try refine At.mk ?_
   refine Zp (ZQ (k:=20+p.2) (m := [[.val (.int .i64 (p.1:Int))]]) (fl:=true) (b:=dirR (l.take i) p.2) rfl rfl (Z1M _ (by decide) _ _ hp.2) (fun r hr=>by rw [List.mem_singleton] at hr; subst hr; rfl) rfl (by
    show ((nums (intsN (dirN (l.take i) p.2))).length+1)*8≤_
    have:(nums (intsN (dirN (l.take i) p.2))).length=(dirN (l.take i) p.2).length:=by simp [nums,intsN]
    omega)) (accA rfl (ZfD (by show _<85;omega) rfl) (Zgr rfl)) rfl ?_
   have hT19b:∀ (g:Nat→Bx) (b:Bx),((tabH (baseR l fp S) 19 20 (fun j=>PV.own (20+j)) 64 g).del (20+p.2)).upd 96 b 19=some ⟨1,(List.range 64).map fun j => [PV.own (20+j)]⟩:=fun g b=>by
    rw [Heap.upd_ne _ _ (by decide),Heap.del_ne _ (by omega)]; exact hT19 g
   refine Zp (ZM rfl rfl (hT19b _ _) p.2 rfl (by rw [hlen64]; exact hp.2) rfl) (accI rfl (Zar (by show _<85;omega) (by omega))) rfl ?_
   refine Zp (Z2D (i:=p.2) rfl rfl (hT19b _ _) rfl rfl (by rw [hlen64]; exact hp.2) (Nat.le_refl _)) (accS rfl (Zar (by show _<85;omega) (by omega)) rfl) rfl ?_
   refine Z8S ?_
   have es:setAt (((List.range 64).map fun j => [PV.own (20+j)]).getD p.2 []) 0 (PV.own 96).cells = [.own 96]:=by rw [ZZ hp.2]; rfl
   have hfun:(fun j=>if j=p.2 then (⟨1,(dirR (l.take i) p.2).elems ++ [[.val (.int .i64 (p.1:Int))]]⟩:Bx) else dirR (l.take i) j)=dirR (l.take (i+1)):=by
    funext j
    unfold dirR
    rw [hst j]
    by_cases hj:j=p.2
    · rw [if_pos hj, if_pos hj, hj]
      simp [nums,intsN]
    · rw [if_neg hj,if_neg hj]
   have o19:=RenP.own (ρ:=mv (20+p.2) 96) (D:=fun i=>i<20+64) 19 (by omega)
   rw [Z4C (by omega)] at o19
   have hrp:pureLL ((dirR (l.take i) p.2).elems ++ [[PV.val (.int .i64 (p.1:Int))]]):=by
    have:(dirR (l.take i) p.2).elems ++ [[PV.val (.int .i64 (p.1:Int))]]=nums (intsN (dirN (l.take i) p.2 ++ [p.1])):=by simp [dirR,nums,intsN]
    rw [this]; exact Z9 _
   have hsub:=fun (e:Env) (he:EnvQ (mv (20+p.2) 96) e (20+64) [(1,.cp [.ptr 0 0 0]),(2,.own 19),(34,.vec (l.map prC) fp),(35,.val (.int .i64 l.length)),(36,.val (.int .i64 (i:Int)))]) =>
    Z9q (C:=C) (h0:=baseR l fp S) (D:=19) (n0:=20) (n':=99) (e:=e) (by decide) (g:=dirR (l.take i)) (j0:=p.2) (new:=96) hp.2 (by decide) (r:=⟨1,(dirR (l.take i) p.2).elems ++ [[.val (.int .i64 (p.1:Int))]]⟩) hrp (Z8c _)
     (e':=envL [(1,.cp [.ptr 0 0 0]),(2,.own 19),(34,.vec (l.map prC) fp),(35,.val (.int .i64 l.length)),(36,.val (.int .i64 (i:Int)))]) (fun k q hk=>he.mem _ (Z7I hk)) (hren (20+p.2) 96 (by omega)) hC (by decide)
   rw [hfun] at hsub
   simp only [← es] at hsub
   refine Z2d (hsub _ ⟨⟨_,rfl,.same _ ⟨⟨by omega,Z4C (by omega)⟩,trivial⟩⟩,⟨_,rfl,o19⟩,⟨_,rfl,.pure _ (Zn l)⟩,⟨_,rfl,.pure _ trivial⟩,⟨_,rfl,.pure _ trivial⟩,trivial⟩) ?_
   (refine go ?_;repeat' (apply B<;>intro hb<;>try cases hb))
   exact⟨i+1,by omega,by omega,Z8T ⟨rfl,rfl,rfl,rfl,by show some _=some _; rw [hinc],trivial⟩⟩
 · have hil : i = l.length := by have := of_decide_eq_false hb; omega
   subst hil
   rw [List.take_length]
   clear hb
   (repeat'(first|refine Z4 54 ?_|refine Z0 54 ?_|refine st ?_|(apply B<;>intro hb<;>try cases hb)))<;>try refine At.mk ?_
   have h0n:∀ k,20≤k→k<20+64→baseR l fp S k=none:=fun k h1 h2=>by
    cases hk:baseR l fp S k with
    | none=>rfl
    | some b=>rcases hbs k b hk (by omega) with⟨h,_⟩|⟨h,_⟩<;>omega
   refine Zg (fun C=>Z7k (D:=19) (k:=2) (by decide) h0n rfl (Z8c l)) ?_
   (refine go ?_;repeat' (apply B<;>intro hb<;>try cases hb))
   have hdp:(PV.vec ((List.range 64).map fun j => [.vec (nums (intsN (dirN l j))) false]) false).pure:=by
    refine (Z1B _ _).2 fun r hr=>?_
    obtain⟨j,_,rfl⟩:=List.mem_map.1 hr
    exact⟨Z9 _,trivial⟩
   have hdi:∀ D,(PV.vec ((List.range 64).map fun j => [.vec (nums (intsN (dirN l j))) false]) false).inn D:=fun D=>PV.pure.inn hdp D
   have hob:∀ n,12<n→innLL (· < n) (ordB l fp (.own 7) (.own 12) (.vec (nums (intsN S)) false)).elems:=fun n hn=>⟨⟨trivial,hpl _,show (7:Nat)<n by omega,show (12:Nat)<n from hn,hap _ _,trivial⟩,trivial⟩
   have hlow:RenB (fun i=>i) (fun i=>i<84) ⟨1,List.replicate 64 [.vec [] true]⟩ ⟨1,tab fun _ => [.vec [] false]⟩:=by
    have er:∀ i,i<64→(List.replicate 64 [PV.vec [] true]).getD i [] = [PV.vec [] true]:=fun i hi=>by rw [List.getD_eq_getElem?_getD,List.getElem?_replicate,if_pos hi]; rfl
    refine .gen _ _ Nat.zero_lt_one rfl (by rw [ZC]; simp) (fun i hi=>?_) fun i q hi hq=>?_
    · rw [ZC] at hi
      rw [Z2a hi,er i hi]; rfl
    · rw [ZC] at hi
      have hq0:q=0:=Nat.lt_one_iff.1 hq
      subst hq0
      rw [Z2a hi,er i hi]
      exact .low (.vec [] true) trivial
   refine Z2d (Z3A (n':=84) (L := [(1,.cp [.ptr 0 0 0]),(2,.vec ((List.range 64).map fun j => [.vec (nums (intsN (dirN l j))) false]) false),(57,.vec (nums (intsN S)) false),(58,.val (.int .i64 64)),(59,.val (.int .i64 ((0:Nat):Int)))])
    (HL := [(0,ordB l fp (.own 7) (.own 12) (.vec (nums (intsN S)) false)),(7,⟨1,tab fun _ => [.vec [] false]⟩),(12,⟨1,tab fun _ => [.vec [] false]⟩)]) ?_ ?_ hC (by decide)) ?_
   · exact EnvQ.mem (L := [(1, .cp [.ptr 0 0 0]), (2, .vec ((List.range 64).map fun j => [.vec (nums (intsN (dirN l j))) false]) false), (57, .vec (nums (intsN S)) false), (58, .val (.int .i64 64)), (59, .val (.int .i64 ((0 : Nat) : Int)))])
      ⟨⟨_,rfl,.same _ ⟨⟨by decide,rfl⟩,trivial⟩⟩,⟨_,rfl,.pure _ hdp⟩,⟨_,rfl,.pure _ (Z9 _)⟩,⟨_,by rw [show (64:Int)=((nums (intsN S)).length:Nat) by rw [hSn,h64]; rfl]; rfl,.pure _ trivial⟩,⟨_,rfl,.pure _ trivial⟩,trivial⟩
   · exact HeapQ.mem (L := [(0, ordB l fp (.own 7) (.own 12) (.vec (nums (intsN S)) false)), (7, ⟨1, tab fun _ => [.vec [] false]⟩), (12, ⟨1, tab fun _ => [.vec [] false]⟩)])
      ⟨⟨by decide,_,rfl,RenB.single (ρ:=fun i=>i) (l0 := [.val (.int .i64 64),.vec (l.map prC) fp,.own 7,.own 12,.vec (nums (intsN S)) false]) (l := [.val (.int .i64 64),.vec (l.map prC) fp,.own 7,.own 12,.vec (nums (intsN S)) false]) (show RenLs _ _ [_,_,_,_,_] [_,_,_,_,_] from ⟨.pure _ trivial,.pure _ (Zn l),.own (ρ:=fun i=>i) 7 (by decide),.own (ρ:=fun i=>i) 12 (by decide),.pure _ (Z9 _),trivial⟩) rfl⟩,⟨by decide,_,rfl,hlow⟩,⟨by decide,_,rfl,hlow⟩,trivial⟩
   have hren0:RenB (fun i=>i) (fun i=>i<84) (ordB l fp (.own 7) (.own 12) (.vec (nums (intsN S)) false)) (ordB l fp (.own 7) (.own 12) (.vec (nums (intsN S)) false)) :=
    RenB.single (ρ:=fun i=>i) (l0 := [.val (.int .i64 64),.vec (l.map prC) fp,.own 7,.own 12,.vec (nums (intsN S)) false]) (l := [.val (.int .i64 64),.vec (l.map prC) fp,.own 7,.own 12,.vec (nums (intsN S)) false]) (show RenLs _ _ [_,_,_,_,_] [_,_,_,_,_] from ⟨.pure _ trivial,.pure _ (Zn l),.own (ρ:=fun i=>i) 7 (by decide),.own (ρ:=fun i=>i) 12 (by decide),.pure _ (Z9 _),trivial⟩) rfl
   have hz0:∀ f:Nat→Nat,(∀ j,f j=0)→(tab fun _ => [PV.vec [] false])=tab (setR f):=fun f hf=>Z2N fun j _=>by
    show [PV.vec [] false] = [PV.vec (words (digs (f j))) false]
    rw [hf,Zr]; rfl
   refine ZD hC (fun t=>t≤64) (fun t=>64-t) 84 (fun t => [(1,.cp [.ptr 0 0 0]),(2,.vec ((List.range 64).map fun j => [.vec (nums (intsN (dirN l j))) false]) false),(57,.vec (nums (intsN S)) false),(58,.val (.int .i64 64)),(59,.val (.int .i64 (t:Int)))])
    (fun t => [(0,ordB l fp (.own 7) (.own 12) (.vec (nums (intsN S)) false)),(7,⟨1,tab (setR (abvT l S t))⟩),(12,⟨1,tab (setR (belT l S t))⟩)]) (by decide) 0 (by decide)
    ⟨⟨rfl,show (0:Nat)<84 by decide,trivial⟩,⟨rfl,hdi _⟩,⟨rfl,hap _ _⟩,⟨rfl,trivial⟩,⟨rfl,trivial⟩,trivial⟩
    ⟨⟨by decide,rfl,hob _ (by decide)⟩,⟨by decide,by rw [← hz0 _ fun j=>show abvT l S 0 j=0 from if_neg (by simp)]; rfl,hti _ _⟩,⟨by decide,by rw [← hz0 _ (Zdg l S)]; rfl,hti _ _⟩,trivial⟩ ?_
   intro t ht
   have htinc:IntKind.i64.wrap ((t:Int)+1)=((t+1:Nat):Int):=IntWalk.i64_in _ ⟨by omega,by omega⟩
   (repeat'(first|refine Z4 60 ?_|refine Z0 60 ?_|refine st ?_|(apply B<;>intro hb<;>try cases hb)))<;>try refine At.mk ?_
   refine Zs rfl rfl rfl (fun hb=>?_) (fun hb=>?_)
   · have htl : t < S.length := by have := of_decide_eq_true hb; omega
     have hb64:=hS.lt _ (List.getElem_mem htl)
     have hpred:=hS.pred t htl
     have hnew:=ZeG (l:=l) hS.nodup htl
     have hbS:=Zas hS.nodup htl
     have hastep:=fun j=>Zde (l:=l) htl j
     have hbstep:=fun j=>Zdf hl htl hb64 j
     have hgetS : (intsN S)[t]'(by simpa [intsN] using htl) = ((S[t] : Nat) : Int) := by simp [intsN]
     clear hb
     (refine go ?_;repeat' (apply B<;>intro hb<;>try cases hb))
     refine Z5 (Zl (xs:=intsN S) (g:=fun x => [.val (.int .i64 x)]) rfl rfl t rfl (by simpa [intsN] using htl) rfl) rfl rfl ?_
     rw [hgetS]
     generalize S[t]=b at hb64 hpred hnew hbS hastep hbstep ⊢
     iterate 4 (first|refine st ?_|(apply B<;>intro hb<;>try cases hb))
     refine Z2d (Z1J (k:=6) (id:=84) (esz:=1) (l := [.val (.int .i64 (b:Int))]) rfl rfl) ?_
     (refine go ?_;repeat' (apply B<;>intro hb<;>try cases hb))
     refine Z5 (Zl (xs:=List.range 64) (g:=fun j => [.vec (nums (intsN (dirN l j))) false]) rfl rfl b rfl (by simpa using hb64) rfl) rfl rfl ?_
     rw [List.getElem_range]
     (refine go ?_;repeat' (apply B<;>intro hb<;>try cases hb))
     have hnd:(nums (intsN (dirN l b))).length=(dirN l b).length:=by simp [nums,intsN]
     have hdlen:=Zaq l b
     refine ZD hC (fun s=>s≤(dirN l b).length) (fun s=>(dirN l b).length-s) 85 (fun s => [(1,.cp [.ptr 0 0 0]),(2,.vec ((List.range 64).map fun j => [.vec (nums (intsN (dirN l j))) false]) false),(6,.cp [.val (.int .i64 (b:Int))]),(57,.vec (nums (intsN S)) false),(58,.val (.int .i64 64)),(59,.val (.int .i64 (t:Int))),(66,.vec (nums (intsN (dirN l b))) false),(67,.val (.int .i64 (dirN l b).length)),(68,.val (.int .i64 (s:Int)))])
      (fun s => [(0,ordB l fp (.own 7) (.own 12) (.vec (nums (intsN S)) false)),(7,⟨1,tab (setR fun j=>if j=b then aS l ((dirN l b).take s) else abvT l S t j)⟩),(12,⟨1,tab (setR (belT l S t))⟩)]) (by decide) 0 (Nat.zero_le _)
      ⟨⟨rfl,show (0:Nat)<85 by decide,trivial⟩,⟨rfl,hdi _⟩,⟨rfl,trivial,trivial⟩,⟨rfl,hap _ _⟩,⟨rfl,trivial⟩,⟨rfl,trivial⟩,⟨rfl,hap _ _⟩,⟨by rw [← hnd]; rfl,trivial⟩,⟨rfl,trivial⟩,trivial⟩
      ⟨⟨by decide,rfl,hob _ (by decide)⟩,⟨by decide,by rw [Z2O (f:=fun j=>if j=b then aS l ((dirN l b).take 0) else abvT l S t j) (g:=abvT l S t) fun j _=>by by_cases hj:j=b; (rw [if_pos hj,hj,hnew]; rfl); rw [if_neg hj]]; rfl,hti _ _⟩,⟨by decide,rfl,hti _ _⟩,trivial⟩ ?_
     intro s hs
     have hsinc:IntKind.i64.wrap ((s:Int)+1)=((s+1:Nat):Int):=IntWalk.i64_in _ ⟨by omega,by omega⟩
     (repeat'(first|refine Z4 69 ?_|refine Z0 69 ?_|refine st ?_|(apply B<;>intro hb<;>try cases hb)))<;>try refine At.mk ?_
     refine Zs rfl rfl rfl (fun hb=>?_) (fun hb=>?_)
     · have hsl : s < (dirN l b).length := by have := of_decide_eq_true hb; omega
       have htk:=Z5A hsl
       have hga : (intsN (dirN l b))[s]'(by simpa [intsN] using hsl) = (((dirN l b)[s] : Nat) : Int) := by simp [intsN]
       have hma:(dirN l b)[s]∈dirN l b:=List.getElem_mem hsl
       have hcur:aS l ((dirN l b).take s)<18446744073709551616:=ZfF l _ 0 (fun a ha=>Z9r hl (List.mem_of_mem_take ha)) (by decide)
       clear hb
       (refine go ?_;repeat' (apply B<;>intro hb<;>try cases hb))
       refine Z5 (Zl (xs:=intsN (dirN l b)) (g:=fun x => [.val (.int .i64 x)]) rfl rfl s rfl (by simpa [intsN] using hsl) rfl) rfl rfl ?_
       rw [hga]
       generalize (dirN l b)[s]=a at htk hma ⊢
       have ha64:=Z9r hl hma
       have haS:=hpred a (Z4P.1 hma)
       have hab:a≠b:=fun h=>hbS (h▸haS)
       have hor:=Z36 hcur (Z6p l a)
       have hwn:withN (aS l ((dirN l b).take s) ||| abv l a) (a:Int)=aS l ((dirN l b).take (s+1)):=by
        rw [htk,ZfE,withN,if_pos ⟨by omega,by omega⟩]; rfl
       (repeat'(first|refine Z4 82 ?_|refine Z0 82 ?_|refine st ?_|(apply B<;>intro hb<;>try cases hb)))<;>try refine At.mk ?_
       refine Zp (ZM rfl rfl rfl b rfl (by rw [ZC]; exact hb64) rfl) rfl rfl ?_
       refine Zp (Z3C (p:=setN (aS l ((dirN l b).take s))) (i:=b) rfl rfl (by rw [ZC]; exact hb64) (by rw [Z2a hb64]; show some (setN (if b=b then _ else _))=_; rw [if_pos rfl])) rfl rfl ?_
       (repeat'(first|refine Z4 89 ?_|refine Z0 89 ?_|refine st ?_|(apply B<;>intro hb<;>try cases hb)))<;>try refine At.mk ?_
       refine Zp (ZM rfl rfl rfl a rfl (by rw [ZC]; exact ha64) rfl) rfl rfl ?_
       refine Zp (Z3C (p:=setN (abv l a)) (i:=a) rfl rfl (by rw [ZC]; exact ha64) (by rw [Z2a ha64]; show some (setN (if a=b then _ else abvT l S t a))=_; rw [if_neg hab,ZeH haS])) rfl rfl ?_
       refine Zq (Z31 _ (abv l a) hcur (Z6p l a)) rfl rfl rfl ⟨Z1 _,Z1 _,trivial⟩ ?_
       (repeat'(first|refine Z4 93 ?_|refine Z0 93 ?_|refine st ?_|(apply B<;>intro hb<;>try cases hb)))<;>try refine At.mk ?_
       refine Zq (Z2I _ (Nat.le_trans (Z1P hor) (by decide)) (a:Int)) rfl rfl rfl ⟨Z1 _,trivial,trivial⟩ ?_
       rw [hwn]
       refine Zp (ZM rfl rfl rfl b rfl (by rw [ZC]; exact hb64) rfl) rfl rfl ?_
       refine Zp (Z2D (i:=b) rfl rfl rfl rfl rfl (by rw [ZC]; exact hb64) (Nat.le_refl _)) rfl rfl ?_
       (refine go ?_;repeat' (apply B<;>intro hb<;>try cases hb))
       refine⟨s+1,by omega,by omega,⟨⟨rfl,show (0:Nat)<85 by decide,trivial⟩,⟨rfl,hdi _⟩,⟨rfl,trivial,trivial⟩,⟨rfl,hap _ _⟩,⟨rfl,trivial⟩,⟨rfl,trivial⟩,⟨rfl,hap _ _⟩,⟨rfl,trivial⟩,⟨by show some _=some _; rw [hsinc],trivial⟩,trivial⟩,
        ⟨⟨by decide,rfl,hob _ (by decide)⟩,⟨by decide,?_,hti _ _⟩,⟨by decide,rfl,hti _ _⟩,trivial⟩⟩
       show some (Bx.mk 1 ((tab (setR fun j=>if j=b then aS l ((dirN l b).take s) else abvT l S t j)).set b (setAt ((tab (setR fun j=>if j=b then aS l ((dirN l b).take s) else abvT l S t j)).getD b []) 0 [.vec (words (digs (aS l ((dirN l b).take (s+1))))) false])))=some _
       rw [Zat hb64]
       refine congrArg (fun x=>some (Bx.mk 1 x)) (Z2O fun j _=>?_)
       by_cases hj:j=b
       · rw [if_pos hj,if_pos hj]
       · rw [if_neg hj,if_neg hj,if_neg hj]
     · have hsl : s = (dirN l b).length := by have := of_decide_eq_false hb; omega
       subst hsl
       clear hb
       rw [List.take_length,Zg7 hl b]
       (repeat'(first|refine Z4 101 ?_|refine Z0 101 ?_|refine st ?_|(apply B<;>intro hb<;>try cases hb)))<;>try refine At.mk ?_
       refine Zp (ZM rfl rfl rfl b rfl (by rw [ZC]; exact hb64) rfl) rfl rfl ?_
       refine Zp (Z3C (p:=setN (abv l b)) (i:=b) rfl rfl (by rw [ZC]; exact hb64) (by rw [Z2a hb64]; show some (setN (if b=b then _ else _))=_; rw [if_pos rfl])) rfl rfl ?_
       refine Zq (Z1Q (abv l b)) rfl rfl rfl ⟨Z1 _,trivial⟩ ?_
       (refine go ?_;repeat' (apply B<;>intro hb<;>try cases hb))
       refine Z2Z (X:=List Nat) hC (caps := [.cp [.vec (words (digs (abv l b))) false]]) [(1,.cp [.ptr 0 0 0]),(2,.vec ((List.range 64).map fun j => [.vec (nums (intsN (dirN l j))) false]) false),(6,.cp [.val (.int .i64 (b:Int))]),(57,.vec (nums (intsN S)) false),(58,.val (.int .i64 64)),(59,.val (.int .i64 (t:Int))),(103,.fn 82 [.cp [.vec (words (digs (abv l b))) false]])]
        (fun z => [(0,ordB l fp (.own 7) (.own 12) (.vec (nums (intsN S)) false)),(7,⟨1,tab (setR fun j=>if j=b then abv l b else abvT l S t j)⟩),(12,⟨1,tab (setR fun j=>if j∈z then belT l S t j ||| 2 ^ b else belT l S t j)⟩)]) rfl ⟨⟨Zd _,trivial⟩,trivial⟩ (Z2s (abv l b) (Z6p l b)) (fun _=>rfl)
        (fun ex pre z=>ex=.normal∧z=pre.map (·.val)) 84 (by decide) [] ⟨rfl,rfl⟩
        (Z3E hC (by decide) ⟨⟨rfl, show (0 : Nat) < 84 by decide, trivial⟩, ⟨rfl, hdi _⟩, ⟨rfl, trivial, trivial⟩, ⟨rfl, hap _ _⟩, ⟨rfl, trivial⟩, ⟨rfl, trivial⟩, ⟨rfl, ⟨ZA _ _, trivial⟩, trivial⟩, trivial⟩
          ⟨⟨by decide,rfl,hob _ (by decide)⟩,⟨by decide,rfl,hti _ _⟩,⟨by decide,by rw [Z2O (f:=fun j=>if j∈([]:List Nat) then belT l S t j ||| 2 ^ b else belT l S t j) (g:=belT l S t) fun j _=>if_neg (by simp)]; rfl,hti _ _⟩,trivial⟩)
        (fun z q hq=>by simp at hq; rcases hq with rfl|rfl|rfl<;>exact Nat.zero_lt_succ _) _ (fun x=>rfl) ?_ ?_ ?_
       · rintro C2 hC2 pre x z ⟨-, hz⟩ hlen
         have ha64:=Z1r x.2
         generalize hf:(fun j=>if j∈z then belT l S t j ||| 2 ^ b else belT l S t j)=f
         have hf64:∀ j,f j<18446744073709551616:=fun j=>by
          rw [← hf]
          dsimp only
          split
          · exact Z36 (Z3p ..) (Z1K hb64)
          · exact Z3p ..
         have hwn:withN (f x.val) (b:Int)=f x.val ||| 2 ^ b:=by rw [withN,if_pos ⟨by omega,by omega⟩]; rfl
         (repeat'(first|refine Z4 115 ?_|refine Z0 115 ?_|refine st ?_|(apply B<;>intro hb<;>try cases hb)))<;>try refine At.mk ?_
         refine Zp (ZM rfl rfl rfl x.val rfl (by rw [ZC]; exact ha64) rfl) rfl rfl ?_
         refine Zp (Z3C (p:=setN (f x.val)) (i:=x.val) rfl rfl (by rw [ZC]; exact ha64) (by rw [Z2a ha64]; rfl)) rfl rfl ?_
         (repeat'(first|refine Z4 118 ?_|refine Z0 118 ?_|refine st ?_|(apply B<;>intro hb<;>try cases hb)))<;>try refine At.mk ?_
         refine Zq (Z2I _ (Nat.le_trans (Z1P (hf64 _)) (by decide)) (b:Int)) rfl rfl rfl ⟨Z1 _,trivial,trivial⟩ ?_
         rw [hwn]
         refine Zp (ZM rfl rfl rfl x.val rfl (by rw [ZC]; exact ha64) rfl) rfl rfl ?_
         refine Zp (Z2D (i:=x.val) rfl rfl rfl rfl rfl (by rw [ZC]; exact ha64) (Nat.le_refl _)) rfl rfl ?_
         (refine go ?_;repeat' (apply B<;>intro hb<;>try cases hb))
         refine⟨.inl rfl,z ++ [x.val],fun i=>i,⟨rfl,by rw [hz,List.map_append]; rfl⟩,fun i hi=>rfl,ZU,
          ⟨⟨_,rfl,.same _ ⟨⟨by decide,rfl⟩,trivial⟩⟩,⟨_,rfl,.pure _ hdp⟩,⟨_,rfl,.pure _ ⟨trivial,trivial⟩⟩,⟨_,rfl,.pure _ (Z9 _)⟩,⟨_,rfl,.pure _ trivial⟩,⟨_,rfl,.pure _ trivial⟩,⟨_,rfl,.pure _ ⟨⟨Zd _,trivial⟩,trivial⟩⟩,trivial⟩,
          ⟨⟨by decide,_,rfl,hren0⟩,⟨by decide,_,rfl,.same _ (Z16 (Z1p _))⟩,⟨by decide,_,rfl,?_⟩,trivial⟩⟩
         show RenB _ _ ⟨1,(tab (setR f)).set x.val (setAt ((tab (setR f)).getD x.val []) 0 [.vec (words (digs (f x.val ||| 2 ^ b))) false])⟩ ⟨1,tab (setR fun j=>if j∈z ++ [x.val] then belT l S t j ||| 2 ^ b else belT l S t j)⟩
         rw [Zat ha64,Z2O (g:=fun j=>if j∈z ++ [x.val] then belT l S t j ||| 2 ^ b else belT l S t j)]
         · exact .same _ (Z16 (Z1p _))
         · intro j _
           rw [← hf]
           dsimp only
           by_cases hj:j=x.val
           · rw [if_pos hj, if_pos (List.mem_append.2 (.inr (List.mem_singleton.2 hj))), hj]
             by_cases hx:x.val∈z
             · rw [if_pos hx,Nat.or_assoc,Nat.or_self]
             · rw [if_neg hx]
           · rw [if_neg hj]
             by_cases hx:j∈z
             · rw [if_pos hx,if_pos (List.mem_append.2 (.inl hx))]
             · rw [if_neg hx,if_neg fun h=>(List.mem_append.1 h).elim hx fun h=>hj (List.mem_singleton.1 h)]
       · rintro xs z hxs ⟨-, rfl⟩
         rw [hxs]
         (refine go ?_;repeat' (apply B<;>intro hb<;>try cases hb))
         refine⟨t+1,by omega,by omega,⟨⟨rfl,show (0:Nat)<84 by decide,trivial⟩,⟨rfl,hdi _⟩,⟨rfl,hap _ _⟩,⟨rfl,trivial⟩,⟨by show some _=some _; rw [htinc],trivial⟩,trivial⟩,
          ⟨⟨by decide,rfl,hob _ (by decide)⟩,⟨by decide,by rw [Z2O (f:=abvT l S (t+1)) (g:=fun j=>if j=b then abv l b else abvT l S t j) fun j _=>hastep j]; rfl,hti _ _⟩,⟨by decide,by rw [Z2O (f:=belT l S (t+1)) (g:=fun j=>if j∈mem (abv l b) then belT l S t j ||| 2 ^ b else belT l S t j) fun j _=>hbstep j]; rfl,hti _ _⟩,trivial⟩⟩
       · rintro ex pre z - ⟨rfl,_⟩ (h|⟨id,h⟩)<;>cases h
   · have htl : t = 64 := by have := of_decide_eq_false hb; omega
     subst htl
     clear hb
     refine Z13 ?_
     rw [Z2O (f:=abvT l S 64) (g:=abv l) fun j hj=>ZeI hS h64 hj,Z2O (f:=belT l S 64) (g:=bel l) fun j _=>ZeJ hl hS h64 j]
     refine Z2d (Z1z (ob:=0) (id:=7) (i0:=0) (j0:=2) rfl rfl (by decide) (Z16 (Z1p _)) (Nat.le_of_ble_eq_true rfl) (Nat.le_of_ble_eq_true rfl) rfl) ?_
     refine Z2d (Z1z (ob:=0) (id:=12) (i0:=0) (j0:=3) rfl rfl (by decide) (Z16 (Z1p _)) (Nat.le_of_ble_eq_true rfl) (Nat.le_of_ble_eq_true rfl) rfl) ?_
     (refine go ?_;repeat' (apply B<;>intro hb<;>try cases hb))
     exact⟨_,_,rfl,.inl rfl,_,rfl,trivial,⟨⟨trivial,Zn l,Z16 (Z1p _),Z16 (Z1p _),Z9 _,trivial⟩,trivial⟩,rfl,rfl⟩
end Go.Proofs.YtojlnagiaibgkaaGreatDoor
namespace Go.Proofs.YtojlnagiaibgkaaGreatDoor
open Go.Shelf
def Z25:Go.Shelf.Ren:=⟨fun|6=>55|15=>92|14=>91|28=>126|29=>127|20=>118|21=>119|22=>120|23=>121|24=>122|25=>123|26=>124|27=>125|46=>145|47=>146|48=>147|49=>148|50=>149|57=>166|n=>n,fun|22=>109|24=>110|25=>112|3=>3|39=>101|0=>0|53=>178|55=>25|4=>4|46=>171|45=>170|50=>175|5=>5|9=>9|66=>192|70=>196|76=>210|77=>147|n=>n,fun|n=>n⟩
theorem sortPair:Go.Proofs.SlLaysF0.n6 Tryz.prog Z25:={
 mixed:=by kernel_rfl
 f6:=⟨Tryz.f55.name,by decide,Tryz.func55.trans (congrArg some (by kernel_rfl))⟩
 f14:=⟨Tryz.f91.name,by decide,Tryz.func91.trans (congrArg some (by kernel_rfl))⟩
 f15:=Tryz.func92.trans (congrArg some (by kernel_rfl))
 f20:=⟨Tryz.f118.name,by decide,Tryz.func118.trans (congrArg some (by kernel_rfl))⟩
 f21:=⟨Tryz.f119.name,by decide,Tryz.func119.trans (congrArg some (by kernel_rfl))⟩
 f22:=⟨Tryz.f120.name,by decide,Tryz.func120.trans (congrArg some (by kernel_rfl))⟩
 f23:=⟨Tryz.f121.name,by decide,Tryz.func121.trans (congrArg some (by kernel_rfl))⟩
 f24:=⟨Tryz.f122.name,by decide,Tryz.func122.trans (congrArg some (by kernel_rfl))⟩
 f25:=⟨Tryz.f123.name,by decide,Tryz.func123.trans (congrArg some (by kernel_rfl))⟩
 f26:=⟨Tryz.f124.name,by decide,Tryz.func124.trans (congrArg some (by kernel_rfl))⟩
 f27:=⟨Tryz.f125.name,by decide,Tryz.func125.trans (congrArg some (by kernel_rfl))⟩
 f28:=Tryz.func126.trans (congrArg some (by kernel_rfl))
 f29:=Tryz.func127.trans (congrArg some (by kernel_rfl))
 f46:=⟨Tryz.f145.name,by decide,Tryz.func145.trans (congrArg some (by kernel_rfl))⟩
 f47:=Tryz.func146.trans (congrArg some (by kernel_rfl))
 f48:=Tryz.func147.trans (congrArg some (by kernel_rfl))
 f49:=⟨Tryz.f148.name,by decide,Tryz.func148.trans (congrArg some (by kernel_rfl))⟩
 f50:=⟨Tryz.f149.name,by decide,Tryz.func149.trans (congrArg some (by kernel_rfl))⟩
 f57:=⟨Tryz.f166.name,by decide,Tryz.func166.trans (congrArg some (by kernel_rfl))⟩
 t0:=Tryz.underlying0
 a0:=Tryz.isAgg0
 z0:=Tryz.sizeOf0
 v0:=Tryz.zeroValue0
 t3:=Tryz.underlying3
 a3:=Tryz.isAgg3
 z3:=Tryz.sizeOf3
 v3:=Tryz.zeroValue3
 t4:=Tryz.underlying4
 a4:=Tryz.isAgg4
 z4:=Tryz.sizeOf4
 v4:=Tryz.zeroValue4
 t5:=Tryz.underlying5
 a5:=Tryz.isAgg5
 z5:=Tryz.sizeOf5
 v5:=Tryz.zeroValue5
 t9:=Tryz.underlying9
 a9:=Tryz.isAgg9
 z9:=Tryz.sizeOf9
 v9:=Tryz.zeroValue9
 t22:=Tryz.underlying109
 a22:=Tryz.isAgg109
 z22:=Tryz.sizeOf109
 v22:=Tryz.zeroValue109
 t25:=Tryz.underlying112
 a25:=Tryz.isAgg112
 z25:=Tryz.sizeOf112
 v25:=Tryz.zeroValue112
 t39:=Tryz.underlying101
 a39:=Tryz.isAgg101
 z39:=Tryz.sizeOf101
 v39:=Tryz.zeroValue101
 t45:=Tryz.underlying170
 a45:=Tryz.isAgg170
 z45:=Tryz.sizeOf170
 v45:=Tryz.zeroValue170
 t46:=Tryz.underlying171
 a46:=Tryz.isAgg171
 z46:=Tryz.sizeOf171
 v46:=Tryz.zeroValue171
 t50:=Tryz.underlying175
 a50:=Tryz.isAgg175
 z50:=Tryz.sizeOf175
 v50:=Tryz.zeroValue175
 t53:=Tryz.underlying178
 a53:=Tryz.isAgg178
 z53:=Tryz.sizeOf178
 v53:=Tryz.zeroValue178
 t55:=Tryz.underlying25
 a55:=Tryz.isAgg25
 z55:=Tryz.sizeOf25
 v55:=Tryz.zeroValue25
 t66:=Tryz.underlying192
 a66:=Tryz.isAgg192
 z66:=Tryz.sizeOf192
 v66:=Tryz.zeroValue192
 t70:=Tryz.underlying196
 a70:=Tryz.isAgg196
 z70:=Tryz.sizeOf196
 v70:=Tryz.zeroValue196
 t76:=Tryz.underlying210
 a76:=Tryz.isAgg210
 z76:=Tryz.sizeOf210
 v76:=Tryz.zeroValue210
 t77:=Tryz.underlying147
 a77:=Tryz.isAgg147
 z77:=Tryz.sizeOf147
 v77:=Tryz.zeroValue147 }
theorem Z8d:∀ w,(isAgg (Z25.t 24)).run Tryz.prog w=.ok true w:=Tryz.isAgg110
theorem Z7l:∀ w,(Go.sizeOf (Z25.t 24)).run Tryz.prog w=.ok 2 w:=Tryz.sizeOf110
end Go.Proofs.YtojlnagiaibgkaaGreatDoor
namespace Go.Proofs.YtojlnagiaibgkaaGreatDoor
open Go.RowKit
attribute [local irreducible] aw opsK dK
theorem Z7m (l:List Pr):(l.map prC).length=l.length:=by simp
set_option maxHeartbeats 1000000 in
theorem ZbD (xs:List Pr) (fl:Bool) (hlen:xs.length≤1000000):NSpec Tryz.prog 95 [.vec (xs.map prC) fl] .own ⟨2,xs.map prC⟩:=by
 refine Z1V ok95 (Nat.le_of_ble_eq_true rfl) fun C hC=>?_
 have fin:∀ (x:Pr) (xs:List Pr),(∀ c∈(x :: xs).map prC,c.length=2):=fun x xs c hc=>by obtain⟨y,_,rfl⟩:=List.mem_map.1 hc; rfl
 cases xs with
 | nil =>
   (refine go ?_;repeat' (apply B<;>intro hb<;>try cases hb))
   refine Z6r (.inl ⟨_,_,rfl⟩) rfl fun b=>?_
   cases b
   · repeat' (first | refine Zg (ZH (k := 5) rfl 2 (by decide)) ?_ | (first|refine st ?_|(apply B<;>intro hb<;>try cases hb)))
     exact⟨_,_,rfl,.inl rfl,_,rfl,rfl⟩
   · iterate 6 (first|refine st ?_|(apply B<;>intro hb<;>try cases hb))
     refine Z2d (ZH (k:=2) rfl 2 (by decide) _) ?_
     (refine go ?_;repeat' (apply B<;>intro hb<;>try cases hb))
     exact⟨_,_,rfl,.inl rfl,_,rfl,rfl⟩
 | cons x xs =>
   repeat' (first|refine Zg (ZH (k:=5) rfl 2 (by decide)) ?_|(first|refine st ?_|(apply B<;>intro hb<;>try cases hb)))
   refine ZL (ZQ (k:=0) (m:=(x :: xs).map prC) (fl:=fl) rfl rfl rfl (fin x xs) rfl (by
    show (([]:List (List PV)).length+((x :: xs).map prC).length)*16≤_
    rw [List.length_map,List.length_nil];omega)) rfl rfl ?_
   (refine go ?_;repeat' (apply B<;>intro hb<;>try cases hb))
   exact⟨_,_,rfl,.inl rfl,_,rfl,by rw [List.nil_append]; rfl⟩
def pB (p x:Pr):Bool:=((p.1:Int) == (x.1:Int))&&(((p.2:Int) == (x.2:Int))&&true)
theorem Zdh (p x:Pr):pB p x=true↔p=x:=by
 unfold pB
 rw [Bool.and_true,Bool.and_eq_true,beq_iff_eq,beq_iff_eq,Int.ofNat_inj,Int.ofNat_inj]
 exact⟨fun h=>Prod.ext h.1 h.2,fun h=>by rw [h]; exact⟨rfl,rfl⟩⟩
theorem Zg8 {xs:List Pr} {p:Pr}:xs.any (pB p)=decide (p∈xs):=by
 rw [Bool.eq_iff_iff,List.any_eq_true,decide_eq_true_iff]
 constructor
 · rintro ⟨x, hx, h⟩
   rw [(Zdh p x).1 h]; exact hx
 · intro h
   exact⟨p,h,(Zdh p p).2 rfl⟩
set_option maxHeartbeats 1000000 in
theorem Z9t (xs:List Pr) (p:Pr) (fl:Bool):Spec Tryz.prog 94 [.vec (xs.map prC) fl,.agg (prC p)] (· = .val (.int .i64 (idxI (pB p) xs))):=by
 have hnl:=Z7m xs
 refine Z2 ok94 (Nat.le_of_ble_eq_true rfl) fun C hC=>?_
 refine Z3B (k:=0) rfl fun hmax=>?_
 have hlm:xs.length≤maxVec:=by rw [← hnl]; exact hmax
 refine Zh ?_
 refine Za ?_
 refine Z6 rfl rfl rfl ?_
 (refine go ?_;repeat' (apply B<;>intro hb<;>try cases hb))
 have hpi:∀ D,innLL D (xs.map prC):=fun D=>Zi (fun _ h=>h.elim) _ (Zn xs)
 have hpc:∀ D,innL D (prC p):=fun D=>ZJ (fun _ h=>h.elim) _ (Z3R p)
 refine ZD hC (fun i=>i≤xs.length∧(xs.take i).any (pB p)=false) (fun i=>xs.length-i) 0 (fun i => [(0,.vec (xs.map prC) fl),(3,.cp (prC p)),(7,.val (.int .i64 (xs.length:Int))),(8,.val (.int .i64 (i:Int)))]) (fun _=>[]) (Nat.zero_le _) 0 ⟨Nat.zero_le _,rfl⟩ ⟨⟨rfl,hpi _⟩,⟨rfl,hpc _⟩,⟨by rw [← hnl]; rfl,trivial⟩,⟨rfl,trivial⟩,trivial⟩ trivial ?_
 rintro i ⟨hi,hno⟩
 have hinc:IntKind.i64.wrap ((i:Int)+1)=((i+1:Nat):Int):=IntWalk.i64_in _ ⟨by omega,by simp only [maxVec] at hlm; omega⟩
 (repeat'(first|refine Z4 9 ?_|refine Z0 9 ?_|refine st ?_|(apply B<;>intro hb<;>try cases hb)))<;>try refine At.mk ?_
 refine Zs rfl rfl rfl (fun hb=>?_) (fun hb=>?_)
 · have hil : i < xs.length := by have := of_decide_eq_true hb; omega
   clear hb
   (repeat'(first|refine Z4 14 ?_|refine Z0 14 ?_|refine st ?_|(apply B<;>intro hb<;>try cases hb)))<;>try refine At.mk ?_
   refine Zp (Zl (xs:=xs) (g:=prC) rfl rfl i rfl hil rfl) rfl rfl ?_
   (repeat'(first|refine Z4 16 ?_|refine Z0 16 ?_|refine st ?_|(apply B<;>intro hb<;>try cases hb)))<;>try refine At.mk ?_
   refine Z6U (b:=pB p xs[i]) rfl rfl rfl (fun hx=>?_) (fun hx=>?_)
   · (refine go ?_;repeat' (apply B<;>intro hb<;>try cases hb))
     exact Z3 rfl trivial (by rw [Z79 hil hno hx])
   · (refine go ?_;repeat' (apply B<;>intro hb<;>try cases hb))
     exact⟨i+1,⟨by omega,Z4N hil hno hx⟩,by omega,⟨⟨rfl,hpi _⟩,⟨rfl,hpc _⟩,⟨rfl,trivial⟩,⟨by show some _=some _; rw [hinc],trivial⟩,trivial⟩,trivial⟩
 · have hil : i = xs.length := by have := of_decide_eq_false hb; omega
   subst hil
   rw [List.take_length] at hno
   (refine go ?_;repeat' (apply B<;>intro hb<;>try cases hb))
   exact Z3 rfl trivial (by rw [Z2J hno]; rfl)
theorem Z5X (xs:List Pr) (p:Pr) (fl:Bool):Spec Tryz.prog 62 [.vec (xs.map prC) fl,.agg (prC p)] (· = .val (.bool (decide (p∈xs)))):=by
 refine Z2 ok62 (Nat.le_of_ble_eq_true rfl) fun C hC=>?_
 refine Zh ?_
 refine Za ?_
 refine Z6 rfl rfl rfl ?_
 (refine go ?_;repeat' (apply B<;>intro hb<;>try cases hb))
 refine Z7 (Z9t xs p fl) rfl rfl rfl ⟨Zn xs,Z3R p,trivial⟩ rfl ?_
 refine Z5 (Zf rfl ((Zep (p:=pB p) (xs:=xs)).trans Zg8)) rfl rfl ?_
 (refine go ?_;repeat' (apply B<;>intro hb<;>try cases hb))
 all_goals exact Z3 rfl trivial (by rw [hb])
theorem Zg9 {esz n:Nat} {e:Env} {h:Heap} {x hi mx:Operand} {l:List (List PV)} {fl:Bool} (hx:ev e x=some (.vec l fl)) (h1:intAt (ev e hi)=some (l.length:Int)) (h2:intAt (ev e mx)=some (l.length:Int)) (hl:∀ c∈l,c.length=esz):dEval (.slc esz x none (some hi) (some mx)) e h n=some (.vec l true,h):=by
 simp only [dEval,hx,bndAt,h1,h2]
 rw [if_pos ⟨⟨by omega,by omega,by omega,by omega⟩,hl⟩]
 simp
theorem ZbE (xs:List Pr) (fl:Bool):Spec Tryz.prog 57 [.vec (xs.map prC) fl] (· = .vec (xs.map prC) true):=by
 refine Z2 ok57 (Nat.le_of_ble_eq_true rfl) fun C hC=>?_
 (repeat'(first|refine Z4 8 ?_|refine Z0 8 ?_|refine st ?_|(apply B<;>intro hb<;>try cases hb)))<;>try refine At.mk ?_
 refine Z5 (Zg9 rfl rfl rfl (fun c hc=>by obtain⟨y,_,rfl⟩:=List.mem_map.1 hc; rfl)) rfl rfl ?_
 (refine go ?_;repeat' (apply B<;>intro hb<;>try cases hb))
 exact Z3 rfl (Zn xs) rfl
set_option maxHeartbeats 1000000 in
theorem Z7n (xs:List Pr) (fl:Bool) (hne:∀ i (h:i+1<xs.length),xs[i]≠xs[i+1]):Spec Tryz.prog 58 [.vec (xs.map prC) fl] (· = .vec (xs.map prC) fl):=by
 have hnl:=Z7m xs
 refine Z2 ok58 (Nat.le_of_ble_eq_true rfl) fun C hC=>?_
 refine Z3B (k:=0) rfl fun hmax=>?_
 have hlm:xs.length≤maxVec:=by rw [← hnl]; exact hmax
 (refine go ?_;repeat' (apply B<;>intro hb<;>try cases hb))
 · exact Z3 rfl (Zn xs) rfl
 · rw [hnl] at hb
   have h2:2≤xs.length:=by have:=of_decide_eq_false hb; omega
   clear hb
   have hpi:∀ D,innLL D (xs.map prC):=fun D=>Zi (fun _ h=>h.elim) _ (Zn xs)
   refine ZD hC (fun k=>1≤k∧k≤xs.length) (fun k=>xs.length-k) 0 (fun k => [(0,.vec (xs.map prC) fl),(3,.val (.int .i64 (k:Int)))]) (fun _=>[]) (Nat.zero_le _) 1 ⟨Nat.le_refl _,by omega⟩ ⟨⟨rfl,hpi _⟩,⟨rfl,trivial⟩,trivial⟩ trivial ?_
   rintro k ⟨hk1,hk⟩
   have hinc:IntKind.i64.wrap ((k:Int)+1)=((k+1:Nat):Int):=IntWalk.i64_in _ ⟨by omega,by simp only [maxVec] at hlm; omega⟩
   have hdec:IntKind.i64.wrap ((k:Int)-1)=((k-1:Nat):Int):=(IntWalk.i64_in _ ⟨by omega,by simp only [maxVec] at hlm; omega⟩).trans (by omega)
   (repeat'(first|refine Z4 13 ?_|refine Z0 13 ?_|refine st ?_|(apply B<;>intro hb<;>try cases hb)))<;>try refine At.mk ?_
   refine Zs rfl rfl rfl (fun hb=>?_) (fun hb=>?_)
   · rw [hnl] at hb
     have hil:k<xs.length:=by have:=of_decide_eq_true hb; omega
     clear hb
     (repeat'(first|refine Z4 18 ?_|refine Z0 18 ?_|refine st ?_|(apply B<;>intro hb<;>try cases hb)))<;>try refine At.mk ?_
     refine Zp (Zl (xs:=xs) (g:=prC) rfl rfl k rfl hil rfl) rfl rfl ?_
     (repeat'(first|refine Z4 22 ?_|refine Z0 22 ?_|refine st ?_|(apply B<;>intro hb<;>try cases hb)))<;>try refine At.mk ?_
     refine Zp (Z2p rfl hdec) rfl rfl ?_
     refine Zp (Zl (xs:=xs) (g:=prC) rfl rfl (k-1) rfl (by omega) rfl) rfl rfl ?_
     (repeat'(first|refine Z4 25 ?_|refine Z0 25 ?_|refine st ?_|(apply B<;>intro hb<;>try cases hb)))<;>try refine At.mk ?_
     refine Z6U (b:=pB xs[k] xs[k-1]) rfl rfl rfl (fun hx=>?_) (fun hx=>?_)
     · refine absurd ((Zdh _ _).1 hx).symm ?_
       have:=hne (k-1) (by omega)
       simpa only [show k-1+1=k by omega] using this
     · (refine go ?_;repeat' (apply B<;>intro hb<;>try cases hb))
       exact⟨k+1,⟨by omega,by omega⟩,by omega,⟨⟨rfl,hpi _⟩,⟨by show some _=some _; rw [hinc],trivial⟩,trivial⟩,trivial⟩
   · (refine go ?_;repeat' (apply B<;>intro hb<;>try cases hb))
     exact Z3 rfl (Zn xs) rfl
def cmpP (p q:Pr):Int:=if p.1=q.1 then (p.2:Int)-q.2 else (p.1:Int)-q.1
theorem Z7o (p q:Pr) (hp:p.1<64∧p.2<64) (hq:q.1<64∧q.2<64):Spec Tryz.prog 56 [.agg (prC p),.agg (prC q)] (· = .val (.int .i64 (cmpP p q))):=by
 refine Z2 ok56 (Nat.le_of_ble_eq_true rfl) fun C hC=>?_
 have h1:IntKind.i64.wrap ((p.1:Int)-q.1)=(p.1:Int)-q.1:=IntWalk.i64_in _ ⟨by omega,by omega⟩
 have h2:IntKind.i64.wrap ((p.2:Int)-q.2)=(p.2:Int)-q.2:=IntWalk.i64_in _ ⟨by omega,by omega⟩
 refine Zh ?_
 refine Za ?_
 refine Z6 rfl rfl rfl ?_
 refine Z6 rfl rfl rfl ?_
 (refine go ?_;repeat' (apply B<;>intro hb<;>try cases hb))
 · have h3 : ¬ p.1 = q.1 := fun h => by rw [h] at hb; simp at hb
   exact Z3 rfl trivial (by rw [h1,cmpP,if_neg h3])
 · have h3 : p.1 = q.1 := Int.ofNat_inj.1 (by simpa using hb)
   exact Z3 rfl trivial (by rw [h2,cmpP,if_pos h3])
abbrev Pr64:={ p:Pr // p.1<64∧p.2<64 }
theorem all64P {xs:List Pr} (h:Small xs):∃ l:List Pr64,l.map (·.1)=xs:=by
 induction xs with
 | nil=>exact⟨[],rfl⟩
 | cons c xs ih =>
   obtain⟨l,hl⟩:=ih fun d hd=>h d (List.mem_cons_of_mem _ hd)
   exact⟨⟨c,h c (List.mem_cons_self ..)⟩ :: l,by rw [List.map_cons,hl]⟩
def keyP (p:Pr):Nat:=64*p.1+p.2
theorem Z9u {n ob:Nat} {h:Heap} (xs:List Pr) (hx:Small xs) (hh:h ob=some ⟨2,xs.map prC⟩) :
 ISpec Tryz.prog 55 n [.own ob,.fn 56 []] h fun n' r h'=>n'=n∧r=.tup []∧∃ ys:List Pr,ys.Perm xs∧ys.Pairwise (fun a b=>keyP a≤keyP b)∧h'=h.upd ob ⟨2,ys.map prC⟩:=by
 obtain⟨l,rfl⟩:=all64P hx
 have e:∀ l:List Pr64,(l.map (·.1)).map prC=l.map fun c:Pr64=>prC c.1:=fun l=>by rw [List.map_map]; rfl
 rw [e] at hh
 have hs:=Z48 (P:=Tryz.prog) (ρ:=Z25) (n:=n) sortPair ⟨_,Tryz.func55,by kernel_rfl,by kernel_rfl⟩ 2 (by decide) Z8d Z7l (fun c:Pr64=>prC c.1) (fun c=>rfl) (fun c=>Z3R c.1) (fun c:Pr64=>keyP c.1) (fun a b:Pr64=>cmpP a.1 b.1) (fun a b=>by
  have h1:=a.2; have h2:=b.2
  unfold cmpP keyP
  split<;>omega) 56 [] trivial (fun a b=>Z7o a.1 b.1 a.2 b.2) l hh
 refine hs.mono ?_
 rintro n' r h' ⟨h1,h2,ys,h3,h4,h5⟩
 refine⟨h1,h2,ys.map (·.1),h3.map _,?_,by rw [e]; exact h5⟩
 exact List.pairwise_map.2 h4
def SortedP (l:List Pr):Prop:=l.Pairwise fun p q=>p.1<q.1 ∨ p.1=q.1∧p.2<q.2
noncomputable def ordC (l:List Pr) (S:List Nat):List PV := [.val (.int .i64 64),.vec (l.map prC) true,.vec (tab (setR (abv l))) false,.vec (tab (setR (bel l))) false,.vec (nums (intsN S)) false]
theorem Z1a (l:List Pr) (S:List Nat):pureL (ordC l S):=⟨trivial,Zn l,Z16 (Z1p _),Z16 (Z1p _),Z9 _,trivial⟩
def IsOrd (l:List Pr) (r:PV):Prop:=∃ S,r=.cp (ordC l S)
theorem Z7p {l:List Pr} (hl:Small l) (hn:l.Nodup) (hs:l.Pairwise fun a b=>keyP a≤keyP b):SortedP l:=by
 have h:=hs.and hn
 refine List.Pairwise.imp_of_mem (fun {p q} hp hq h=>?_) h
 have h1:=hl p hp
 have h2:=hl q hq
 obtain⟨h3,h4⟩:=h
 unfold keyP at h3
 have h5:¬ (p.1=q.1∧p.2=q.2):=fun h=>h4 (Prod.ext h.1 h.2)
 omega
theorem Zdl {l:List Pr} (hs:SortedP l):∀ i (h:i+1<l.length),l[i]≠l[i+1]:=fun i h he=>by
 have:=(List.pairwise_iff_getElem.1 hs) i (i+1) (by omega) h (by omega)
 rw [he] at this
 omega
theorem Acy.perm {l m:List Pr} (h:Acy l) (hp:m.Perm l):Acy m:=h.sub fun p hpm=>hp.mem_iff.1 hpm
theorem Small.perm {l m:List Pr} (h:Small l) (hp:m.Perm l):Small m:=fun p hpm=>h p (hp.mem_iff.1 hpm)
set_option maxHeartbeats 4000000 in
theorem Z8e (l:List Pr) (fl:Bool) (hl:Small l) (hn:l.Nodup) (hacy:Acy l) (hlen:l.length≤1000000):Spec Tryz.prog 25 [.val (.int .i64 64),.vec (l.map prC) fl] fun r=>∃ l' o,l'.Perm l∧SortedP l'∧IsOrd l' o∧r=.tup [o,.val (.int .i64 0)]:=by
 have hnl:=Z7m l
 have hpl:∀ D,innLL D (l.map prC):=fun D=>Zi (fun _ h=>h.elim) _ (Zn l)
 refine Z2 ok25 (Nat.le_of_ble_eq_true rfl) fun C hC=>?_
 (refine go ?_;repeat' (apply B<;>intro hb<;>try cases hb))
 refine ZD hC (fun i=>i≤l.length) (fun i=>l.length-i) 0 (fun i => [(0,.val (.int .i64 64)),(1,.vec (l.map prC) fl),(16,.vec (l.map prC) fl),(17,.val (.int .i64 l.length)),(18,.val (.int .i64 (i:Int)))]) (fun _=>[]) (Nat.zero_le _) 0 (Nat.zero_le _)
  ⟨⟨rfl,trivial⟩,⟨rfl,hpl _⟩,⟨rfl,hpl _⟩,⟨by rw [← hnl]; rfl,trivial⟩,⟨rfl,trivial⟩,trivial⟩ trivial ?_
 intro i hi
 have hinc:IntKind.i64.wrap ((i:Int)+1)=((i+1:Nat):Int):=IntWalk.i64_in _ ⟨by omega,by omega⟩
 (repeat'(first|refine Z4 19 ?_|refine Z0 19 ?_|refine st ?_|(apply B<;>intro hb<;>try cases hb)))<;>try refine At.mk ?_
 refine Zs rfl rfl rfl (fun hb=>?_) (fun hb=>?_)
 · have hil : i < l.length := by have := of_decide_eq_true hb; omega
   have hp:=hl _ (List.getElem_mem hil)
   clear hb
   (refine go ?_;repeat' (apply B<;>intro hb<;>try cases hb))
   refine Z5 (Zl (xs:=l) (g:=prC) rfl rfl i rfl hil rfl) rfl rfl ?_
   generalize l[i]=p at hp ⊢
   (refine go ?_;repeat' (apply B<;>intro hb<;>try cases hb))
   · refine absurd (of_decide_eq_true hb) ?_
     split<;>omega
   · rename_i hb2
     refine absurd (of_decide_eq_true hb) ?_
     split<;>omega
   · exact⟨i+1,by omega,by omega,⟨⟨rfl,trivial⟩,⟨rfl,hpl _⟩,⟨rfl,hpl _⟩,⟨rfl,trivial⟩,⟨by show some _=some _; rw [hinc],trivial⟩,trivial⟩,trivial⟩
 · have hil : i = l.length := by have := of_decide_eq_false hb; omega
   subst hil
   clear hb
   repeat' (first|refine Zg (ZH (k:=38) rfl 2 (by decide)) ?_|(first|refine st ?_|(apply B<;>intro hb<;>try cases hb)))
   refine ZL (ZQ (k:=0) (m:=l.map prC) (fl:=fl) (b:=⟨2,[]⟩) rfl rfl rfl (fun c hc=>by obtain⟨y,_,rfl⟩:=List.mem_map.1 hc; rfl) rfl (by
    show (0+(l.map prC).length)*16≤_
    rw [hnl];omega)) rfl rfl ?_
   (refine go ?_;repeat' (apply B<;>intro hb<;>try cases hb))
   refine Zx rfl rfl (Z9u (n:=_) (ob:=1) l hl rfl) ?_
   rintro n' r h' ⟨rfl,rfl,ys,hys1,hys2,rfl⟩
   have hyl:=hl.perm hys1
   have hso:=Z7p hyl (hys1.nodup_iff.2 hn) hys2
   have hylen:ys.length≤1000000:=by rw [hys1.length_eq]; exact hlen
   (repeat'(first|refine Z4 43 ?_|refine Z0 43 ?_|refine st ?_|(apply B<;>intro hb<;>try cases hb)))<;>try refine At.mk ?_
   refine Zg (Zk (k:=8) (id:=1) rfl rfl (Zn ys)) ?_
   (refine go ?_;repeat' (apply B<;>intro hb<;>try cases hb))
   refine Z7 (Z7n ys false (Zdl hso)) rfl rfl rfl ⟨Zn ys,trivial⟩ rfl ?_
   refine Z7 (ZbE ys false) rfl rfl rfl ⟨Zn ys,trivial⟩ rfl ?_
   (refine go ?_;repeat' (apply B<;>intro hb<;>try cases hb))
   refine Zaf (ZbB ys true hyl (hacy.perm hys1) hylen) rfl rfl rfl rfl ⟨⟨trivial,Zn ys,trivial,trivial,trivial,trivial⟩,trivial⟩ trivial ?_
   rintro r b' - - ⟨rfl,S,hT,h64,rfl⟩
   (refine go ?_;repeat' (apply B<;>intro hb<;>try cases hb))
   refine Zaf (Z9s ys true hyl hylen S hT h64) rfl rfl rfl rfl ⟨⟨trivial,Zn ys,trivial,trivial,Z9 _,trivial⟩,trivial⟩ trivial ?_
   rintro r b' - - ⟨rfl,rfl⟩
   (repeat'(first|refine Z4 54 ?_|refine Z0 54 ?_|refine st ?_|(apply B<;>intro hb<;>try cases hb)))<;>try refine At.mk ?_
   refine Zg (Z18 (k:=9) (l:=ordC ys S) rfl rfl (Z1a ys S)) ?_
   (refine go ?_;repeat' (apply B<;>intro hb<;>try cases hb))
   exact Z3 rfl ⟨Z1a ys S,trivial,trivial⟩ ⟨ys,_,hys1,hso,⟨S,rfl⟩,rfl⟩
theorem Zav (l:List Pr) (S:List Nat) (a:Int):Spec Tryz.prog 61 [.cp (ordC l S),.val (.int .i64 a)] (· = .val (.bool (decide (0≤a)&&decide (a<64)))):=by
 refine Z2 ok61 (Nat.le_of_ble_eq_true rfl) fun C hC=>?_
 (refine go ?_;repeat' (apply B<;>intro hb<;>try cases hb))
 · have h1 := of_decide_eq_true hb
   rename_i hb2
   exact Z3 rfl trivial (by simp_all)
 · exact Z3 rfl trivial (by simp_all)
 · exact Z3 rfl trivial (by simp_all;omega)
theorem ZbF (l:List Pr) (S:List Nat) (hlen:l.length≤1000000):NSpec Tryz.prog 63 [.cp (ordC l S)] .own ⟨2,l.map prC⟩:=by
 refine Z1V ok63 (Nat.le_of_ble_eq_true rfl) fun C hC=>?_
 (refine go ?_;repeat' (apply B<;>intro hb<;>try cases hb))
 refine Z7g (ZbD l true hlen) Z3x (by exact Zn l) rfl rfl ⟨Zn l,trivial⟩ ?_
 (refine go ?_;repeat' (apply B<;>intro hb<;>try cases hb))
 exact⟨_,_,rfl,.inl rfl,_,rfl,rfl⟩
theorem Z9v (l:List Pr) (S:List Nat) (a:Int):Spec Tryz.prog 109 [.cp (ordC l S),.val (.int .i64 a)] (· = setN (if 0≤a∧a<64 then bel l a.toNat else 0)):=by
 refine Z2 ok109 (Nat.le_of_ble_eq_true rfl) fun C hC=>?_
 (refine go ?_;repeat' (apply B<;>intro hb<;>try cases hb))
 refine Z7 (Zav l S a) rfl rfl rfl ⟨Z1a l S,trivial,trivial⟩ rfl ?_
 by_cases h:0≤a∧a<64
 · rw [if_pos h, decide_eq_true h.1, decide_eq_true h.2]
   obtain⟨k,rfl⟩:∃ k:Nat,a=(k:Int):=⟨a.toNat,by omega⟩
   have hk:k<64:=by omega
   have hkl:k<(List.range 64).length:=by simpa using hk
   (repeat'(first|refine Z4 15 ?_|refine Z0 15 ?_|refine st ?_|(apply B<;>intro hb<;>try cases hb)))<;>try refine At.mk ?_
   refine Z5 (Zl (xs:=List.range 64) (g:=setR (bel l)) rfl rfl k rfl hkl rfl) rfl rfl ?_
   rw [List.getElem_range]
   (refine go ?_;repeat' (apply B<;>intro hb<;>try cases hb))
   exact Z3 rfl (Z1 _) rfl
 · rw [if_neg h]
   have h2:(decide (0≤a)&&decide (a<64))=false:=by
    rw [Bool.and_eq_false_iff]
    by_cases h1:0≤a
    · exact .inr (decide_eq_false fun h3=>h ⟨h1,h3⟩)
    · exact .inl (decide_eq_false h1)
   rw [h2]
   (refine go ?_;repeat' (apply B<;>intro hb<;>try cases hb))
   refine Z3e rfl (Z1 0 |> fun h=>by rw [Z1U] at h; exact h) ?_
   rw [Z1U]; rfl
set_option maxHeartbeats 1000000 in
theorem ZbG (l:List Pr) (S:List Nat) (a b:Nat) (ha:a<64) (hb:b<64) (hl:Small l) (hn:l.Nodup) (hno:(a,b) ∉ l) (hacy:Acy (l ++ [(a,b)])) (hlen:l.length≤100000):Spec Tryz.prog 27 [.cp (ordC l S),.val (.int .i64 (a:Int)),.val (.int .i64 (b:Int))] fun r=>∃ l' o,l'.Perm (l ++ [(a,b)])∧SortedP l'∧IsOrd l' o∧r=.tup [o,.val (.int .i64 0)]:=by
 have hi:∀ c:Nat,c<64→Spec Tryz.prog 61 [.cp (ordC l S),.val (.int .i64 (c:Int))] (· = .val (.bool true)):=fun c hc=>by
  have:=Zav l S (c:Int)
  rwa [decide_eq_true (show (0:Int)≤c by omega),decide_eq_true (show (c:Int)<64 by omega)] at this
 have hcon:=Z5X l (a,b) true
 rw [decide_eq_false hno] at hcon
 have hl2:Small (l ++ [(a,b)]):=fun p hp=>(List.mem_append.1 hp).elim (hl p) fun h=>by rw [List.mem_singleton] at h; subst h; exact⟨ha,hb⟩
 have hn2:(l ++ [(a,b)]).Nodup:=by
  rw [List.nodup_append]
  exact⟨hn,by simp,fun x hx y hy e=>by rw [List.mem_singleton] at hy; subst hy; subst e; exact hno hx⟩
 refine Z2 ok27 (Nat.le_of_ble_eq_true rfl) fun C hC=>?_
 (refine go ?_;repeat' (apply B<;>intro hb<;>try cases hb))
 refine Z7 (hi a ha) rfl rfl rfl ⟨Z1a l S,trivial,trivial⟩ rfl ?_
 (refine go ?_;repeat' (apply B<;>intro hb<;>try cases hb))
 refine Z7 (hi b hb) rfl rfl rfl ⟨Z1a l S,trivial,trivial⟩ rfl ?_
 (refine go ?_;repeat' (apply B<;>intro hb<;>try cases hb))
 refine Z7 hcon rfl rfl rfl ⟨Zn l,Z3R _,trivial⟩ rfl ?_
 repeat' (first|refine Z4W [10] ?_|(first|refine st ?_|(apply B<;>intro hb<;>try cases hb)))
 refine Z6S (ZbF l S (by omega)) Z3x (by exact Zn l) rfl rfl rfl ⟨Z1a l S,trivial⟩ ?_
 (repeat'(first|refine Z4 38 ?_|refine Z0 38 ?_|refine st ?_|(apply B<;>intro hb<;>try cases hb)))<;>try refine At.mk ?_
 have hap:(l.map prC) ++ [prC (a,b)]=(l ++ [(a,b)]).map prC:=by rw [List.map_append]; rfl
 refine Z8R (k:=5) (m := [prC (a,b)]) (fl:=true) (b:=⟨2,l.map prC⟩) rfl rfl rfl (fun c hc=>by rw [List.mem_singleton] at hc; subst hc; rfl) rfl (by
  show ((l.map prC).length+1)*16≤_
  rw [Z7m];omega) (by show pureLL (l.map prC ++ [prC (a,b)]); rw [hap]; exact Zn _) rfl rfl ?_
 show dK _ _ _ _ (Env.upd _ 38 (.vec (l.map prC ++ [prC (a,b)]) false)) _ _
 rw [hap]
 have hnew:=Z8e (l ++ [(a,b)]) false hl2 hn2 hacy (by rw [List.length_append,List.length_singleton];omega)
 refine Z6R rfl rfl (.inl rfl) hnew ⟨trivial,Zn _,trivial⟩ ?_
 rintro r ⟨l',o,h1,h2,⟨S',rfl⟩,rfl⟩
 (refine go ?_;repeat' (apply B<;>intro hb<;>try cases hb))
 exact Z3 rfl ⟨Z1a l' S',trivial,trivial⟩ ⟨l',_,h1,h2,⟨S',rfl⟩,rfl⟩
def ltP (p q:Pr):Prop:=p.1<q.1 ∨ p.1=q.1∧p.2<q.2
instance (p q:Pr):Decidable (ltP p q):=inferInstanceAs (Decidable (_ ∨ _))
abbrev RawX:=Nat×Nat×Bool
def rawC (x:RawX):List PV := [.val (.int .u8 (x.1:Int)),.val (.int .u8 (x.2.1:Int)),.val (.bool x.2.2)]
theorem Zdm (x:RawX):pureL (rawC x):=⟨trivial,trivial,trivial,trivial⟩
def RawXok (x:RawX):Prop:=x.1<256∧x.2.1<256
def makC (a b:Nat):Cu:=(2*(a &&& b &&& 63),2*(a &&& 63 &&& (255-b)))
def fitC (x:RawX):Cu:=if x.2.2=true then (x.1 &&& 254,x.2.1 &&& 254) else makC x.1 x.2.1
theorem Z6t (a b:Nat) (ha:a<256) (hb:b<256):bits .and .u8 (a:Int) (b:Int)=((a &&& b:Nat):Int):=by
 have h1:(BitVec.ofInt 8 (a:Int)).toNat=a:=by rw [BitVec.ofInt_natCast,BitVec.toNat_ofNat]; exact Nat.mod_eq_of_lt (by omega)
 have h2:(BitVec.ofInt 8 (b:Int)).toNat=b:=by rw [BitVec.ofInt_natCast,BitVec.toNat_ofNat]; exact Nat.mod_eq_of_lt (by omega)
 show IntKind.u8.wrap ((BitVec.ofInt 8 (a:Int) &&& BitVec.ofInt 8 (b:Int)).toNat:Int)=_
 rw [BitVec.toNat_and,h1,h2]
 have:a &&& b≤a:=Nat.and_le_left
 exact IntWalk.u8_in _ ⟨by omega,by omega⟩
theorem Zaw (a:Nat) (ha:a<256):IntKind.u64.wrap (IntKind.u64.wrap (a:Int)*2 ^ (min (1:Int).toNat IntKind.u64.bits))=((2*a:Nat):Int):=by
 rw [IntWalk.u64_in (a:Int) ⟨by omega,by omega⟩]
 show IntKind.u64.wrap ((a:Int)*2)=_
 rw [IntWalk.u64_in _ ⟨by omega,by omega⟩]
 omega
theorem Z8f (a b:Nat) (ha:a<256) (hb:b<256):Spec Tryz.prog 19 [.val (.int .u8 (a:Int)),.val (.int .u8 (b:Int))] (· = .agg (raC (makC a b))):=by
 have e1:a &&& b≤a:=Nat.and_le_left
 have e2:a &&& 63≤a:=Nat.and_le_left
 have e3:a &&& b &&& 63≤a &&& b:=Nat.and_le_left
 have e4:a &&& 63 &&& (255-b)≤a &&& 63:=Nat.and_le_left
 have hs:IntKind.u8.wrap (255-(b:Int))=((255-b:Nat):Int):=by rw [IntWalk.u8_in _ ⟨by omega,by omega⟩]; omega
 have hx:IntKind.u64.wrap (IntKind.u64.wrap (bits .and .u8 (bits .and .u8 (a:Int) (b:Int)) 63)*2 ^ (min (1:Int).toNat IntKind.u64.bits))=((2*(a &&& b &&& 63):Nat):Int):=by
  rw [Z6t a b ha hb,show (63:Int)=((63:Nat):Int) from rfl,Z6t _ 63 (by omega) (by decide)]
  exact Zaw _ (by omega)
 have hy:IntKind.u64.wrap (IntKind.u64.wrap (bits .and .u8 (bits .and .u8 (a:Int) 63) (IntKind.u8.wrap (255-(b:Int))))*2 ^ (min (1:Int).toNat IntKind.u64.bits))=((2*(a &&& 63 &&& (255-b)):Nat):Int):=by
  rw [hs,show (63:Int)=((63:Nat):Int) from rfl,Z6t a 63 ha (by decide),Z6t _ _ (by omega) (by omega)]
  exact Zaw _ (by omega)
 refine Z2 ok19 (Nat.le_of_ble_eq_true rfl) fun C hC=>?_
 (refine go ?_;repeat' (apply B<;>intro hb<;>try cases hb))
 refine Z3 rfl ⟨trivial,trivial,trivial⟩ ?_
 show PV.agg [.val (.int .u64 _),.val (.int .u64 _)]=PV.agg [.val (.int .u64 _),.val (.int .u64 _)]
 rw [hx,hy]
 rfl
theorem ZbH (x:RawX) (hx:RawXok x):Spec Tryz.prog 5 [.agg (rawC x)] (· = .agg (raC (fitC x))):=by
 obtain⟨a,b,o⟩:=x
 obtain⟨ha,hb⟩:=hx
 have e1:a &&& 254≤a:=Nat.and_le_left
 have e2:b &&& 254≤b:=Nat.and_le_left
 dsimp only at ha hb
 have w1:IntKind.u64.wrap (bits .and .u8 (a:Int) 254)=((a &&& 254:Nat):Int):=by
  rw [show (254:Int)=((254:Nat):Int) from rfl,Z6t a 254 ha (by decide)]; exact IntWalk.u64_in _ ⟨by omega,by omega⟩
 have w2:IntKind.u64.wrap (bits .and .u8 (b:Int) 254)=((b &&& 254:Nat):Int):=by
  rw [show (254:Int)=((254:Nat):Int) from rfl,Z6t b 254 hb (by decide)]; exact IntWalk.u64_in _ ⟨by omega,by omega⟩
 refine Z2 ok5 (Nat.le_of_ble_eq_true rfl) fun C hC=>?_
 refine Zh ?_
 refine Za ?_
 refine Z6 rfl rfl rfl ?_
 cases o
 · (refine go ?_;repeat' (apply B<;>intro hb<;>try cases hb))
   refine Z7 (Z8f a b ha hb) rfl rfl rfl ⟨trivial,trivial,trivial⟩ rfl ?_
   (refine go ?_;repeat' (apply B<;>intro hb<;>try cases hb))
   exact Z3 rfl (Z3O _) rfl
 · (refine go ?_;repeat' (apply B<;>intro hb<;>try cases hb))
   refine Z3 rfl ⟨trivial,trivial,trivial⟩ ?_
   show PV.agg [.val (.int .u64 _),.val (.int .u64 _)]=PV.agg [.val (.int .u64 _),.val (.int .u64 _)]
   rw [w1,w2]
   rfl
end Go.Proofs.YtojlnagiaibgkaaGreatDoor
namespace Go.Proofs.YtojlnagiaibgkaaGreatDoor
open Go.RowKit
theorem orSub {a b:Nat}:a ||| b=b↔∀ i,a.testBit i=true→b.testBit i=true:=by
 constructor
 · intro h i hi
   rw [← h,Nat.testBit_or,hi,Bool.true_or]
 · intro h
   refine Nat.eq_of_testBit_eq fun i=>?_
   rw [Nat.testBit_or]
   cases hi:a.testBit i with
   | true=>rw [h i hi]; rfl
   | false=>rw [Bool.false_or]
noncomputable def sen (l:List Pr) (r:Nat):Nat:=abv l r ||| 2 ^ r
theorem Z5B {l:List Pr} (hl:Small l) (r a:Nat):(sen l r).testBit a=true↔Up l a r ∨ a=r:=by
 unfold sen
 rw [Nat.testBit_or,Bool.or_eq_true,Z5y hl,Nat.testBit_two_pow,decide_eq_true_eq,eq_comm (a:=r)]
theorem ZfH {l:List Pr} (hl:Small l) {s:Nat} (hs:s<18446744073709551616) (r:Nat):(clo l s).testBit r=true↔∃ a,s.testBit a=true∧1≤a∧(sen l r).testBit a=true:=by
 rw [ZfG s r hs]
 constructor
 · rintro ⟨a, h1, h2, h3⟩
   exact⟨a,h1,h2,(Z5B hl r a).2 ((Zdi hl a r).1 h3 |>.imp (fun h=>h) fun h=>h.symm)⟩
 · rintro ⟨a, h1, h2, h3⟩
   exact⟨a,h1,h2,(Zdi hl a r).2 ((Z5B hl r a).1 h3 |>.imp (fun h=>h) fun h=>h.symm)⟩
def subM:List Nat→Nat→Nat
 | [],_=>0
 | r :: l,m=>(if m.testBit 0 then 2 ^ r else 0) ||| subM l (m / 2)
theorem Z8g:∀ (l:List Nat) (r m:Nat),subM (l ++ [r]) m=subM l m ||| (if m.testBit l.length then 2 ^ r else 0)
 | [],r,m=>by simp [subM]
 | a :: l, r, m => by
   show (if m.testBit 0 then 2 ^ a else 0) ||| subM (l ++ [r]) (m / 2)=(if m.testBit 0 then 2 ^ a else 0) ||| subM l (m / 2) ||| (if m.testBit (l.length+1) then 2 ^ r else 0)
   rw [Z8g l r (m / 2),Nat.or_assoc,Nat.testBit_succ]
theorem Z3V:∀ (l:List Nat) (m i:Nat),(subM l m).testBit i=true↔∃ k,∃ h:k<l.length,l[k]=i∧m.testBit k=true
 | [],m,i=>by simp [subM]
 | a :: l, m, i => by
   show ((if m.testBit 0 then 2 ^ a else 0) ||| subM l (m / 2)).testBit i=true↔_
   rw [Nat.testBit_or,Bool.or_eq_true,Z3V l (m / 2) i]
   constructor
   · rintro (h | ⟨k, hk, h1, h2⟩)
     · by_cases hm : m.testBit 0 = true
       · rw [if_pos hm, Nat.testBit_two_pow, decide_eq_true_eq] at h
         exact⟨0,by simp,h,hm⟩
       · rw [if_neg hm,Nat.zero_testBit] at h; cases h
     · exact⟨k+1,by simp only [List.length_cons]; omega,h1,by rw [Nat.testBit_succ]; exact h2⟩
   · rintro ⟨k, hk, h1, h2⟩
     match k,hk,h1,h2 with
     | 0, _, h1, h2 =>
       left
       rw [if_pos h2,Nat.testBit_two_pow,decide_eq_true_eq]; exact h1
     | k + 1, hk, h1, h2 =>
       right
       exact⟨k,by simp only [List.length_cons] at hk; omega,h1,by rw [← Nat.testBit_succ]; exact h2⟩
theorem Zax {l:List Nat} (hl:l.Nodup) (m:Nat) {k:Nat} (hk:k<l.length):(subM l m).testBit l[k]=m.testBit k:=by
 rw [Bool.eq_iff_iff,Z3V]
 constructor
 · rintro ⟨j, hj, h1, h2⟩
   obtain rfl:j=k:=by
    have hp:=List.pairwise_iff_getElem.1 (List.nodup_iff_pairwise_ne.1 hl)
    rcases Nat.lt_trichotomy j k with h|h|h
    · exact absurd h1 (hp j k hj hk h)
    · exact h
    · exact absurd h1.symm (hp k j hk hj h)
   exact h2
 · exact fun h=>⟨k,hk,rfl,h⟩
theorem ZeK {l:List Nat} (hl:l.Nodup) {m m':Nat} (h1:m<2 ^ l.length) (h2:m'<2 ^ l.length) (h:subM l m=subM l m'):m=m':=by
 refine Nat.eq_of_testBit_eq fun k=>?_
 by_cases hk:k<l.length
 · rw [← Zax hl m hk,← Zax hl m' hk,h]
 · have hp : 2 ^ l.length ≤ 2 ^ k := Nat.pow_le_pow_right (by decide) (by omega)
   rw [Nat.testBit_lt_two_pow (Nat.lt_of_lt_of_le h1 hp),Nat.testBit_lt_two_pow (Nat.lt_of_lt_of_le h2 hp)]
theorem Z5C:∀ (l:List Nat) (s:Nat),(∀ i,s.testBit i=true→i∈l)→∃ m,m<2 ^ l.length∧subM l m=s
 | [], s, h => ⟨0, by decide, Nat.eq_of_testBit_eq fun i => by
   rw [show subM [] 0=0 from rfl,Nat.zero_testBit]
   exact (Bool.eq_false_iff.2 fun hb=>by cases h i hb).symm⟩
 | a :: l, s, h => by
   by_cases ha:a∈l
   · obtain ⟨m, h1, h2⟩ := Z5C l s fun i hi => by
      rcases List.mem_cons.1 (h i hi) with rfl|h3
      · exact ha
      · exact h3
     refine⟨2*m,by rw [List.length_cons,Nat.pow_succ]; omega,?_⟩
     show (if (2*m).testBit 0 then 2 ^ a else 0) ||| subM l (2*m / 2)=s
     rw [show 2*m / 2=m by omega,h2,if_neg (by rw [Nat.testBit_zero]; simp),Nat.zero_or]
   · have hex : ∀ i, (s ^^^ (if s.testBit a then 2 ^ a else 0)).testBit i = (s.testBit i && !decide (a = i)) := fun i => by
      rw [Nat.testBit_xor]
      by_cases hsa:s.testBit a=true
      · rw [if_pos hsa, Nat.testBit_two_pow]
        by_cases hi:a=i
        · subst hi; rw [hsa]; simp
        · rw [decide_eq_false hi]; simp
      · rw [if_neg hsa, Nat.zero_testBit]
        by_cases hi:a=i
        · subst hi; rw [Bool.eq_false_iff.2 hsa]; simp
        · rw [decide_eq_false hi]; simp
     obtain⟨m,h1,h2⟩:=Z5C l (s ^^^ (if s.testBit a then 2 ^ a else 0)) fun i hi=>by
      rw [hex,Bool.and_eq_true] at hi
      rcases List.mem_cons.1 (h i hi.1) with rfl|h3
      · simp at hi
      · exact h3
     refine⟨2*m+(if s.testBit a then 1 else 0),by rw [List.length_cons,Nat.pow_succ]; split<;>omega,?_⟩
     show (if (2*m+(if s.testBit a then 1 else 0)).testBit 0 then 2 ^ a else 0) ||| subM l ((2*m+(if s.testBit a then 1 else 0)) / 2)=s
     have hd:(2*m+(if s.testBit a then 1 else 0)) / 2=m:=by split<;>omega
     have ht:(2*m+(if s.testBit a then 1 else 0)).testBit 0=s.testBit a:=by
      rw [Nat.testBit_zero]
      cases s.testBit a
      · simp
      · rw [if_pos rfl,show (2*m+1) % 2=1 by omega]; rfl
     rw [hd,ht,h2]
     refine Nat.eq_of_testBit_eq fun i=>?_
     rw [Nat.testBit_or,hex]
     by_cases hi:a=i
     · subst hi
       cases hsa:s.testBit a
       · simp
       · rw [if_pos rfl,Nat.testBit_two_pow]; simp
     · rw [decide_eq_false hi]
       cases hsa:s.testBit a
       · simp
       · rw [if_pos rfl,Nat.testBit_two_pow,decide_eq_false hi]; simp
structure Mins (S:Nat→Prop) (good:Nat→Bool) (out:List Nat):Prop where
 nd:out.Nodup
 iff:∀ s,s∈out↔S s∧good s=true∧∀ s',S s'→good s'=true→popK 64 s≤popK 64 s'
theorem Z5D {S:Nat→Prop} {good:Nat→Bool} (f:Nat→Nat):∀ (k:Nat) (s:Nat),f s≤k→S s→good s=true→∃ s,S s∧good s=true∧∀ s',S s'→good s'=true→f s≤f s'
 | 0,s,hk,h1,h2=>⟨s,h1,h2,fun s' _ _=>by omega⟩
 | k + 1, s, hk, h1, h2 => by
   by_cases h:∃ s',S s'∧good s'=true∧f s'<f s
   · obtain ⟨s', h3, h4, h5⟩ := h
     exact Z5D f k s' (by omega) h3 h4
   · exact⟨s,h1,h2,fun s' h3 h4=>Nat.le_of_not_lt fun h5=>h ⟨s',h3,h4,h5⟩⟩
theorem Mins.nil_iff {S:Nat→Prop} {good:Nat→Bool} {out:List Nat} (h:Mins S good out):out = []↔∀ s,S s→good s=false:=by
 constructor
 · intro he s hs
   refine Bool.eq_false_iff.2 fun hg=>?_
   obtain⟨m,h1,h2,h3⟩:=Z5D (S:=S) (good:=good) (popK 64) (popK 64 s) s (Nat.le_refl _) hs hg
   have:=(h.iff m).2 ⟨h1,h2,h3⟩
   rw [he] at this; cases this
 · intro hn
   refine List.eq_nil_iff_forall_not_mem.2 fun s hs=>?_
   obtain⟨h1,h2,_⟩:=(h.iff s).1 hs
   rw [hn s h1] at h2; cases h2
def smStep (good:Nat→Bool) (out:List Nat) (s:Nat):List Nat :=
 match out with
 | []=>if good s then [s] else []
 | a :: r=>if popK 64 a<popK 64 s then a :: r else if good s then (if popK 64 s<popK 64 a then [s] else a :: r ++ [s]) else a :: r
theorem Mins.step {S:Nat→Prop} {good:Nat→Bool} {out:List Nat} (h:Mins S good out) {s:Nat} (hs:¬ S s):Mins (fun x=>S x ∨ x=s) good (smStep good out s):=by
 have same:good s=false→Mins (fun x=>S x ∨ x=s) good out:=fun hg=>⟨h.nd,fun x=>by
  rw [h.iff x]
  constructor
  · rintro ⟨h1, h2, h3⟩
    refine⟨.inl h1,h2,fun s' hs' hg'=>?_⟩
    rcases hs' with hs' | rfl
    · exact h3 s' hs' hg'
    · rw [hg] at hg'; cases hg'
  · rintro ⟨h1, h2, h3⟩
    rcases h1 with h1|rfl
    · exact⟨h1,h2,fun s' hs' hg'=>h3 s' (.inl hs') hg'⟩
    · rw [hg] at h2; cases h2⟩
 match out,h,same with
 | [], h, same =>
   show Mins _ _ (if good s then [s] else [])
   cases hg:good s with
   | false=>exact same hg
   | true =>
     have hn:=h.nil_iff.1 rfl
     refine⟨by simp,fun x=>?_⟩
     rw [if_pos rfl,List.mem_singleton]
     constructor
     · rintro rfl
       refine⟨.inr rfl,hg,fun s' hs' hg'=>?_⟩
       rcases hs' with hs' | rfl
       · rw [hn s' hs'] at hg'; cases hg'
       · exact Nat.le_refl _
     · rintro ⟨h1 | h1, h2, h3⟩
       · rw [hn x h1] at h2; cases h2
       · exact h1
 | a :: r, h, same =>
   show Mins _ _ (if popK 64 a<popK 64 s then a :: r else if good s then (if popK 64 s<popK 64 a then [s] else a :: r ++ [s]) else a :: r)
   obtain⟨ha1,ha2,ha3⟩:=(h.iff a).1 (List.mem_cons_self ..)
   by_cases h1:popK 64 a<popK 64 s
   · rw [if_pos h1]
     refine⟨h.nd,fun x=>?_⟩
     rw [h.iff x]
     constructor
     · rintro ⟨h4, h5, h6⟩
       refine⟨.inl h4,h5,fun s' hs' hg'=>?_⟩
       rcases hs' with hs' | rfl
       · exact h6 s' hs' hg'
       · have:=h6 a ha1 ha2; omega
     · rintro ⟨h4 | rfl, h5, h6⟩
       · exact⟨h4,h5,fun s' hs' hg'=>h6 s' (.inl hs') hg'⟩
       · have:=h6 a (.inl ha1) ha2; omega
   rw [if_neg h1]
   cases hg:good s with
   | false=>exact same hg
   | true =>
     rw [if_pos rfl]
     by_cases h2:popK 64 s<popK 64 a
     · rw [if_pos h2]
       refine⟨by simp,fun x=>?_⟩
       rw [List.mem_singleton]
       constructor
       · rintro rfl
         refine⟨.inr rfl,hg,fun s' hs' hg'=>?_⟩
         rcases hs' with hs' | rfl
         · have:=ha3 s' hs' hg'; omega
         · exact Nat.le_refl _
       · rintro ⟨h4 | h4, h5, h6⟩
         · have := ha3 x h4 h5
           have:=h6 s (.inr rfl) hg
           omega
         · exact h4
     · rw [if_neg h2]
       have hsn:s ∉ a :: r:=fun hm=>hs ((h.iff s).1 hm).1
       refine⟨List.nodup_append.2 ⟨h.nd,by simp,fun x hx y hy=>by rw [List.mem_singleton] at hy; subst hy; exact fun e=>hsn (e▸hx)⟩,fun x=>?_⟩
       rw [List.mem_append,List.mem_singleton,h.iff x]
       constructor
       · rintro (⟨h4, h5, h6⟩ | rfl)
         · refine ⟨.inl h4, h5, fun s' hs' hg' => ?_⟩
           rcases hs' with hs' | rfl
           · exact h6 s' hs' hg'
           · have:=h6 a ha1 ha2; omega
         · refine ⟨.inr rfl, hg, fun s' hs' hg' => ?_⟩
           rcases hs' with hs' | rfl
           · have:=ha3 s' hs' hg'; omega
           · exact Nat.le_refl _
       · rintro ⟨h4 | rfl, h5, h6⟩
         · exact .inl ⟨h4,h5,fun s' hs' hg'=>h6 s' (.inl hs') hg'⟩
         · exact .inr rfl
theorem Mins.congr {S S':Nat→Prop} {good:Nat→Bool} {out:List Nat} (h:Mins S good out) (hS:∀ s,S s↔S' s):Mins S' good out:=⟨h.nd,fun s=>by
 rw [h.iff s,hS s]
 exact⟨fun ⟨a,b,c⟩=>⟨a,b,fun s' hs=>c s' ((hS s').2 hs)⟩,fun ⟨a,b,c⟩=>⟨a,b,fun s' hs=>c s' ((hS s').1 hs)⟩⟩⟩
theorem Mins.perm {S:Nat→Prop} {good:Nat→Bool} {out out':List Nat} (h:Mins S good out) (hp:out'.Perm out):Mins S good out':=⟨hp.nodup_iff.2 h.nd,fun s=>by rw [hp.mem_iff,h.iff s]⟩
theorem Mins.begin (good:Nat→Bool):Mins (fun _=>False) good []:=⟨List.nodup_nil,fun s=>by simp⟩
def tried (l:List Nat) (m:Nat) (s:Nat):Prop:=∃ j,j<m∧subM l j=s
theorem Zdn {l:List Nat} (hl:l.Nodup) {m:Nat} (hm:m<2 ^ l.length):¬ tried l m (subM l m):=by
 rintro⟨j,hj,h⟩
 have:=ZeK hl (by omega) hm h
 omega
theorem ZbI (l:List Nat) (m s:Nat):tried l (m+1) s↔tried l m s ∨ s=subM l m:=by
 constructor
 · rintro ⟨j, hj, h⟩
   by_cases he:j=m
   · subst he; exact .inr h.symm
   · exact .inl ⟨j,by omega,h⟩
 · rintro (⟨j, hj, h⟩ | h)
   · exact⟨j,by omega,h⟩
   · exact⟨m,Nat.lt_succ_self m,h.symm⟩
theorem Zdo {E:Nat} (hE:E<18446744073709551616) (s:Nat):tried (mem E) (2 ^ (mem E).length) s↔s ||| E=E:=by
 constructor
 · rintro ⟨j, _, rfl⟩
   refine orSub.2 fun i hi=>?_
   obtain⟨k,hk,h1,_⟩:=(Z3V _ _ _).1 hi
   exact (Z1l hE).1 (h1▸List.getElem_mem hk)
 · intro h
   exact Z5C (mem E) s fun i hi=>(Z1l hE).2 (orSub.1 h i hi)
def SortedK (l:List Nat):Prop:=l.Pairwise fun a b=>key a≤key b
theorem Z4v:∀ {l m:List Nat},(∀ a∈l,a<18446744073709551616)→SortedK l→SortedK m→l.Perm m→l=m
 | [],m,_,_,_,h=>(List.Perm.nil_eq h)
 | a :: l,[],_,_,_,h=>by have:=h.length_eq; simp at this
 | a :: l, b :: m, hx, h1, h2, h => by
   have h1':=List.pairwise_cons.1 h1
   have h2':=List.pairwise_cons.1 h2
   have hab:a=b:=by
    rcases List.mem_cons.1 (h.mem_iff.1 (List.mem_cons_self (a:=a) (l:=l))) with e|ha
    · exact e
    rcases List.mem_cons.1 (h.mem_iff.2 (List.mem_cons_self (a:=b) (l:=m))) with e|hb
    · exact e.symm
    have x1:=h1'.1 b hb
    have x2:=h2'.1 a ha
    exact Z98 (hx a (List.mem_cons_self ..)) (hx b (List.mem_cons_of_mem _ hb)) (by omega)
   subst hab
   rw [Z4v (fun x hm=>hx x (List.mem_cons_of_mem _ hm)) h1'.2 h2'.2 (List.Perm.cons_inv h)]
theorem Zf9 {x fr n:Nat} (h:x ||| fr=fr) (hf:fr<n):x<n:=Nat.lt_of_le_of_lt (by rw [← h]; exact Nat.left_le_or) hf
theorem Z8h {S:Nat→Prop} {good:Nat→Bool} {l m:List Nat} (h1:Mins S good l) (h2:Mins S good m) (hs:∀ s,S s→s<18446744073709551616) (s1:SortedK l) (s2:SortedK m):l=m :=
 Z4v (fun a ha=>hs a ((h1.iff a).1 ha).1) s1 s2 ((List.perm_ext_iff_of_nodup h1.nd h2.nd).2 fun x=>by rw [h1.iff,h2.iff])
def firstC (l:List Cu) (S:Nat):Option Cu:=l.find? fun c=>hoC c S
theorem Z9w {l:List Cu} {S:Nat}:firstC l S=none↔soC l S=false:=by
 unfold firstC soC
 rw [List.find?_eq_none,List.any_eq_false]
end Go.Proofs.YtojlnagiaibgkaaGreatDoor
namespace Go.Proofs.YtojlnagiaibgkaaGreatDoor
open Go.RowKit
attribute [local irreducible] aw opsK dK
theorem ZbJ {α:Type} {l:List α} {i:Nat} (hi:i<l.length):l.take (i+1)=l.take i ++ [l[i]]:=by rw [List.take_add_one,List.getElem?_eq_getElem hi]; rfl
end Go.Proofs.YtojlnagiaibgkaaGreatDoor
namespace Go.Proofs.YtojlnagiaibgkaaGreatDoor
open Go.RowKit
def smAll (l:List Nat) (good:Nat→Bool):Nat→List Nat
 | 0 => []
 | m+1=>smStep good (smAll l good m) (subM l m)
theorem Z6u {l:List Nat} (hl:l.Nodup) (good:Nat→Bool):∀ m,m≤2 ^ l.length→Mins (tried l m) good (smAll l good m)
 | 0,_=>(Mins.begin good).congr fun s=>⟨False.elim,fun ⟨j,h,_⟩=>absurd h (Nat.not_lt_zero j)⟩
 | m+1,h=>((Z6u hl good m (by omega)).step (Zdn hl (by omega))).congr fun s=>(ZbI l m s).symm
theorem Zdp {E:Nat} (hE:E<18446744073709551616) (good:Nat→Bool):Mins (fun s=>s ||| E=E) good (smAll (mem E) good (2 ^ (mem E).length)) :=
 (Z6u (ZcY E) good _ (Nat.le_refl _)).congr fun s=>Zdo hE s
theorem ZbK (good:Nat→Bool) (out:List Nat) (s:Nat):(smStep good out s).length≤out.length+1:=by
 unfold smStep
 split
 · split<;>simp
 · split
   · simp
   · split
     · split<;>simp
     · simp
theorem Z8i (l:List Nat) (good:Nat→Bool):∀ m,(smAll l good m).length≤m
 | 0=>Nat.le_refl _
 | m+1=>Nat.le_trans (ZbK good _ _) (Nat.succ_le_succ (Z8i l good m))
theorem Zdq {E m:Nat} (hE:E<18446744073709551616):subM (mem E) m<18446744073709551616:=Zf9 (n:=18446744073709551616) (fr:=E) (orSub.2 fun i hi=>by
 obtain⟨k,hk,h1,_⟩:=(Z3V _ _ _).1 hi
 exact (Z1l hE).1 (h1▸List.getElem_mem hk)) hE
theorem Z7q {E:Nat} (hE:E<18446744073709551616) (good:Nat→Bool):∀ m,∀ s∈smAll (mem E) good m,s<18446744073709551616
 | 0,s,h=>by cases h
 | m + 1, s, h => by
   have ih:=Z7q hE good m
   have hx:∀ x∈smStep good (smAll (mem E) good m) (subM (mem E) m),x∈smAll (mem E) good m ∨ x=subM (mem E) m:=fun x hx=>by
    unfold smStep at hx
    split at hx
    · split at hx
      · exact .inr (List.mem_singleton.1 hx)
      · cases hx
    · rename_i a r heq
      rw [heq]
      split at hx
      · exact .inl hx
      · split at hx
        · split at hx
          · exact .inr (List.mem_singleton.1 hx)
          · rcases List.mem_append.1 hx with hx | hx
            · exact .inl hx
            · exact .inr (List.mem_singleton.1 hx)
        · exact .inl hx
   rcases hx s h with h1|rfl
   · exact ih s h1
   · exact Zdq hE
noncomputable def gdR (f:Fm) (l:List Pr) (E s:Nat):Bool:=holdB f (clo l (minusN E s))
noncomputable def gdA (f:Fm) (l:List Pr) (E s:Nat):Bool:=holdB f (clo l (E ||| s))
theorem Z4c {a:Nat} (b:Nat) (ha:a<18446744073709551616):minusN a b<18446744073709551616:=Nat.lt_of_le_of_lt Nat.and_le_left ha
section
variable {f:Fm} (m:Made6 f) {l:List Pr} {E:Nat} (hE:E<18446744073709551616) (hmo:monoB (vioL f)=true) (h0:(0,0) ∉ vioL f)
include m hmo
end
end Go.Proofs.YtojlnagiaibgkaaGreatDoor
namespace Go.Proofs.YtojlnagiaibgkaaGreatDoor
open Go.RowKit
attribute [local irreducible] aw opsK dK
noncomputable def hierP (l:List Pr) (S:List Nat):PV:=.cp [.cp (ordC l S)]
theorem ZF (l:List Pr) (S:List Nat):(hierP l S).pure:=⟨Z1a l S,trivial⟩
theorem Z4w:Spec Tryz.prog 11 [] fun r=>∃ S,r=hierP [] S:=by
 refine Z2 ok11 (Nat.le_of_ble_eq_true rfl) fun C hC=>?_
 (refine go ?_;repeat' (apply B<;>intro hb<;>try cases hb))
 refine Zz rfl rfl (Z8e [] true (fun p hp=>by cases hp) List.nodup_nil ⟨fun _=>0,fun p hp=>by cases hp⟩ (by decide)) ⟨trivial,trivial,trivial⟩ rfl ?_
 rintro r ⟨l',o,h1,h2,⟨S',rfl⟩,rfl⟩
 obtain rfl:=List.Perm.eq_nil h1
 (repeat'(first|refine Z4 9 ?_|refine Z0 9 ?_|refine st ?_|(apply B<;>intro hb<;>try cases hb)))<;>try refine At.mk ?_
 refine Z6 rfl rfl rfl ?_
 (refine go ?_;repeat' (apply B<;>intro hb<;>try cases hb))
 exact Z3 rfl (ZF [] S') ⟨S',rfl⟩
theorem Z6v (a:Int):Spec Tryz.prog 26 [.val (.int .i64 a)] (· = .val (.bool (decide (1≤a)&&decide (a≤63)))):=by
 refine Z2 ok26 (Nat.le_of_ble_eq_true rfl) fun C hC=>?_
 (refine go ?_;repeat' (apply B<;>intro hb<;>try cases hb))
 all_goals exact Z3 rfl trivial (by simp_all<;>omega)
theorem Z8j (a:Nat) (h1:1≤a) (h2:a<64):Spec Tryz.prog 26 [.val (.int .i64 (a:Int))] (· = .val (.bool true)):=by
 have:=Z6v (a:Int)
 rwa [decide_eq_true (show (1:Int)≤a by omega),decide_eq_true (show (a:Int)≤63 by omega)] at this
set_option maxHeartbeats 1000000 in
theorem Z8k (l:List Pr) (S:List Nat) (a b:Nat) (ha:1≤a∧a<64) (hb:1≤b∧b<64) (hab:a≠b) (hl:Small l) (hn:l.Nodup) (hno:(a,b) ∉ l) (hacy:Acy (l ++ [(a,b)])) (hlen:l.length≤100000):Spec Tryz.prog 12 [hierP l S,.val (.int .i64 (a:Int)),.val (.int .i64 (b:Int))] fun r=>∃ l' S',l'.Perm (l ++ [(a,b)])∧SortedP l'∧r=.tup [hierP l' S',.val (.int .i64 0)]:=by
 have hne:((a:Int) == (b:Int))=false:=by rw [beq_eq_false_iff_ne]; omega
 refine Z2 ok12 (Nat.le_of_ble_eq_true rfl) fun C hC=>?_
 (refine go ?_;repeat' (apply B<;>intro hb<;>try cases hb))
 refine Z7 (Z8j a ha.1 ha.2) rfl rfl rfl ⟨trivial,trivial⟩ rfl ?_
 (refine go ?_;repeat' (apply B<;>intro hb<;>try cases hb))
 refine Z7 (Z8j b hb.1 hb.2) rfl rfl rfl ⟨trivial,trivial⟩ rfl ?_
 (repeat'(first|refine Z4 25 ?_|refine Z0 25 ?_|refine st ?_|(apply B<;>intro hb<;>try cases hb)))<;>try refine At.mk ?_
 refine Zv rfl ?_
 refine Z5 (Zf rfl hne) rfl rfl ?_
 (refine go ?_;repeat' (apply B<;>intro hb<;>try cases hb))
 refine Zz rfl rfl (ZbG l S a b ha.2 hb.2 hl hn hno hacy hlen) ⟨Z1a l S,trivial,trivial,trivial⟩ rfl ?_
 rintro r ⟨l',o,h1,h2,⟨S',rfl⟩,rfl⟩
 (repeat'(first|refine Z4 42 ?_|refine Z0 42 ?_|refine st ?_|(apply B<;>intro hb<;>try cases hb)))<;>try refine At.mk ?_
 refine Z6 rfl rfl rfl ?_
 (refine go ?_;repeat' (apply B<;>intro hb<;>try cases hb))
 exact Z3 rfl ⟨ZF l' S',trivial,trivial⟩ ⟨l',S',h1,h2,rfl⟩
theorem Z8l (l:List Pr) (S:List Nat) (r:Int):Spec Tryz.prog 80 [hierP l S,.val (.int .i64 r)] (· = setN (if 1≤r∧r≤63 then jun l r.toNat else 0)):=by
 refine Z2 ok80 (Nat.le_of_ble_eq_true rfl) fun C hC=>?_
 (refine go ?_;repeat' (apply B<;>intro hb<;>try cases hb))
 refine Z7 (Z6v r) rfl rfl rfl ⟨trivial,trivial⟩ rfl ?_
 by_cases h:1≤r∧r≤63
 · rw [if_pos h, decide_eq_true h.1, decide_eq_true h.2]
   obtain⟨k,rfl⟩:∃ k:Nat,r=(k:Int):=⟨r.toNat,by omega⟩
   have hk:k<64:=by omega
   have h1:=Z9v l S (k:Int)
   rw [if_pos ⟨by omega,by omega⟩] at h1
   have h2:=Z2I (bel l k) (Nat.le_trans (Z1P (Zd7 l k)) (by decide)) (k:Int)
   rw [withN,if_pos ⟨by omega,by omega⟩] at h2
   (refine go ?_;repeat' (apply B<;>intro hb<;>try cases hb))
   refine Z7 h1 rfl rfl rfl ⟨Z1a l S,trivial,trivial⟩ rfl ?_
   (refine go ?_;repeat' (apply B<;>intro hb<;>try cases hb))
   refine Z7 h2 rfl rfl rfl ⟨Z1 _,trivial,trivial⟩ rfl ?_
   (refine go ?_;repeat' (apply B<;>intro hb<;>try cases hb))
   exact Z3 rfl (Z1 _) rfl
 · rw [if_neg h]
   have h2:(decide (1≤r)&&decide (r≤63))=false:=by
    rw [Bool.and_eq_false_iff]
    by_cases h1:1≤r
    · exact .inr (decide_eq_false fun h3=>h ⟨h1,h3⟩)
    · exact .inl (decide_eq_false h1)
   rw [h2]
   (refine go ?_;repeat' (apply B<;>intro hb<;>try cases hb))
   refine Z3e rfl (Z1 0 |> fun h=>by rw [Z1U] at h; exact h) ?_
   rw [Z1U]; rfl
noncomputable def cloL (l:List Pr) (rs:List Nat):Nat:=rs.foldl (fun o r=>if 1≤r then o ||| jun l r else o) 0
theorem Zdr (l:List Pr) (rs:List Nat) (r:Nat):cloL l (rs ++ [r])=if 1≤r then cloL l rs ||| jun l r else cloL l rs:=by simp [cloL,List.foldl_append]
set_option maxHeartbeats 2000000 in
theorem Z4x (l:List Pr) (S:List Nat) (s:Nat) (hs:s<18446744073709551616):Spec Tryz.prog 37 [hierP l S,setN s] (· = setN (clo l s)):=by
 refine Z2 ok37 (Nat.le_of_ble_eq_true rfl) fun C hC=>?_
 refine Zh ?_
 refine Za ?_
 refine Z6 rfl rfl rfl ?_
 refine Z6 rfl rfl rfl ?_
 (refine go ?_;repeat' (apply B<;>intro hb<;>try cases hb))
 refine Z7 (Z1Q s) rfl rfl rfl ⟨Z1 _,trivial⟩ rfl ?_
 (refine go ?_;repeat' (apply B<;>intro hb<;>try cases hb))
 have hhp:=ZF l S
 refine Z2Z (X:=List Nat) hC (caps := [.cp [.vec (words (digs s)) false]]) [(2,.cp [hierP l S]),(4,.ptr 0 0 0),(5,.ptr 1 0 0),(8,.fn 82 [.cp [.vec (words (digs s)) false]])]
  (fun z => [(0,⟨1,[[.vec [] true]]⟩),(1,⟨1,[[.vec (words (digs (cloL l z))) false]]⟩)]) rfl ⟨⟨Zd _,trivial⟩,trivial⟩ (Z2s s hs) (fun _=>rfl)
  (fun ex pre z=>ex=.normal∧z=pre.map (·.val)) 2 (by decide) [] ⟨rfl,rfl⟩
  (Z3A (EnvQ.mem (ρ := fun i => i) (m := 2) (L := [(2, .cp [hierP l S]), (4, .ptr 0 0 0), (5, .ptr 1 0 0), (8, .fn 82 [.cp [.vec (words (digs s)) false]])]) ⟨⟨_, rfl, .pure _ ⟨hhp, trivial⟩⟩, ⟨_, rfl, .ptr (ρ := fun i => i) 0 0 0 (by decide)⟩, ⟨_, rfl, .ptr (ρ := fun i => i) 1 0 0 (by decide)⟩, ⟨_, rfl, .pure _ ⟨⟨Zd _, trivial⟩, trivial⟩⟩, trivial⟩)
    (HeapQ.mem (ρ:=fun i=>i) (m:=2) (L := [(0,⟨1,[[.vec [] true]]⟩),(1,⟨1,[[.vec (words (digs (cloL l []))) false]]⟩)]) ⟨⟨by decide,_,rfl,.same _ ⟨⟨trivial,trivial⟩,trivial⟩⟩,⟨by decide,⟨1,[[.vec [] true]]⟩,rfl,by rw [show cloL l []=0 from rfl,Zr]; exact RenB.single (ρ:=fun i=>i) (l0 := [.vec [] true]) (l := [.vec [] false]) (show RenLs _ _ [_] [_] from ⟨.low (.vec [] true) trivial,trivial⟩) rfl⟩,trivial⟩) hC (by decide))
  (fun z q hq=>by simp at hq; rcases hq with rfl|rfl<;>exact Nat.zero_lt_succ _) _ (fun x=>rfl) ?_ ?_ ?_
 · rintro C2 hC2 pre x z ⟨-, rfl⟩ hlen
   have hx64:=Z1r x.2
   have hj:=Z8l l S (x.val:Int)
   have hcz:cloL l (pre.map (·.val))<18446744073709551616:=by
    unfold cloL
    exact Zdk l _ 0 (fun r hr=>by obtain⟨y,_,rfl⟩:=List.mem_map.1 hr; exact Z1r y.2) (by decide)
   have hstep:=Zdr l (pre.map (·.val)) x.val
   have hnew:cloL l (pre.map (·.val)) ||| (if 1≤(x.val:Int)∧(x.val:Int)≤63 then jun l (x.val:Int).toNat else 0)=cloL l (pre.map (·.val) ++ [x.val]):=by
    rw [hstep]
    by_cases h1:1≤x.val
    · rw [if_pos h1,if_pos ⟨by omega,by omega⟩]; rfl
    · rw [if_neg h1,if_neg (by omega),Nat.or_zero]
   have hj64:(if 1≤(x.val:Int)∧(x.val:Int)≤63 then jun l (x.val:Int).toNat else 0)<18446744073709551616:=by
    split
    · exact Zf8 l hx64
    · decide
   (refine go ?_;repeat' (apply B<;>intro hb<;>try cases hb))
   refine Zq hj rfl rfl rfl ⟨hhp,trivial,trivial⟩ ?_
   refine Zq (Z31 _ _ hcz hj64) rfl rfl rfl ⟨Z1 _,Z1 _,trivial⟩ ?_
   rw [hnew]
   (refine go ?_;repeat' (apply B<;>intro hb<;>try cases hb))
   exact⟨.inl rfl,pre.map (·.val) ++ [x.val],fun i=>i,⟨rfl,by rw [List.map_append]; rfl⟩,fun i hi=>rfl,ZU,
    ⟨⟨_,rfl,.pure _ ⟨hhp,trivial⟩⟩,⟨_,rfl,.ptr (ρ:=fun i=>i) 0 0 0 (by decide)⟩,⟨_,rfl,.ptr (ρ:=fun i=>i) 1 0 0 (by decide)⟩,⟨_,rfl,.pure _ ⟨⟨Zd _,trivial⟩,trivial⟩⟩,trivial⟩,
    ⟨⟨by decide,_,rfl,.same _ ⟨⟨trivial,trivial⟩,trivial⟩⟩,⟨by decide,_,rfl,.same _ ⟨⟨Zd _,trivial⟩,trivial⟩⟩,trivial⟩⟩
 · rintro xs z hxs ⟨-, rfl⟩
   rw [hxs]
   (refine go ?_;repeat' (apply B<;>intro hb<;>try cases hb))
   exact Z3 rfl (Z1 _) (by rw [Zdj]; rfl)
 · rintro ex pre z - ⟨rfl,_⟩ (h|⟨id,h⟩)<;>cases h
theorem Z5E (N:Nat) (hN:N<18446744073709551616) (i:Nat):Spec Tryz.prog 42 [setN N,.val (.int .i64 (i:Int))] (· = .val (.bool (N.testBit i))):=by
 have:=Z1G N hN (i:Int)
 rwa [decide_eq_true (show (0:Int)≤(i:Int) by omega),Bool.true_and,Int.toNat_natCast] at this
set_option maxHeartbeats 2000000 in
theorem ZbL (k:Nat) (h1:1≤k) (h2:k≤64):Spec Tryz.prog 74 [.val (.int .i64 (k:Int))] (· = setN (2 ^ k-1)):=by
 refine Z2 ok74 (Nat.le_of_ble_eq_true rfl) fun C hC=>?_
 have hq:IntKind.i64.wrap (((k+63:Nat):Int).tdiv 64)=((1:Nat):Int):=by
  rw [IntWalk.i64_quo _ _ ⟨by omega,by omega,by omega⟩]; omega
 (repeat'(first|refine Z4 6 ?_|refine Z0 6 ?_|refine st ?_|(apply B<;>intro hb<;>try cases hb)))<;>try refine At.mk ?_
 refine Zo rfl rfl rfl (v:=(k:Int)) (by split<;>omega) ?_
 refine Zo rfl rfl rfl (v:=(k:Int)) (by split<;>omega) ?_
 (repeat'(first|refine Z4 9 ?_|refine Z0 9 ?_|refine st ?_|(apply B<;>intro hb<;>try cases hb)))<;>try refine At.mk ?_
 refine Zo rfl rfl rfl (show IntKind.i64.wrap ((k:Int)+63)=((k+63:Nat):Int) from IntWalk.i64_in _ ⟨by omega,by omega⟩) ?_
 (repeat'(first|refine Z4 10 ?_|refine Z0 10 ?_|refine st ?_|(apply B<;>intro hb<;>try cases hb)))<;>try refine At.mk ?_
 refine Zo rfl rfl rfl hq ?_
 (refine go ?_;repeat' (apply B<;>intro hb<;>try cases hb))
 refine ZT 1 ?_
 (repeat'(first|refine Z4 22 ?_|refine Z0 22 ?_|refine st ?_|(apply B<;>intro hb<;>try cases hb)))<;>try refine At.mk ?_
 by_cases hk:k=64
 · subst hk
   repeat' (first|refine Zg (Zk (k:=33) rfl rfl (ZK rfl)) ?_|(first|refine st ?_|(apply B<;>intro hb<;>try cases hb)))
   exact Z3 rfl (Z27 rfl) (by rw [Z30 (by decide) (by decide)]; rfl)
 · have hr : (k : Int).tmod 64 = ((k : Nat) : Int) := by rw [Int.tmod_eq_emod_of_nonneg (by omega)]; omega
   refine Zo rfl rfl rfl hr ?_
   refine Z5 (Zf (v:=true) rfl (by simp;omega)) rfl rfl ?_
   (repeat'(first|refine Z4 29 ?_|refine Z0 29 ?_|refine st ?_|(apply B<;>intro hb<;>try cases hb)))<;>try refine At.mk ?_
   refine Zo rfl rfl rfl hr ?_
   refine Z5 (Ze9 rfl rfl (by omega) (v:=((2 ^ k:Nat):Int)) (by
    rw [show min ((k:Int)).toNat IntKind.u64.bits=k by simp [IntKind.bits]; omega]
    have hp:=Z1K (show k<64 by omega)
    rw [Int.one_mul,show (2:Int) ^ k=((2 ^ k:Nat):Int) by simp]
    exact IntWalk.u64_in _ ⟨Int.natCast_nonneg _,Int.ofNat_le.2 (show _≤18446744073709551615 by omega)⟩)) rfl rfl ?_
   refine Zo rfl rfl rfl (v:=((2 ^ k-1:Nat):Int)) (by
    have hp:=Z1K (show k<64 by omega)
    have:=Nat.two_pow_pos k
    rw [show ((2 ^ k:Nat):Int)-1=((2 ^ k-1:Nat):Int) by omega]
    exact IntWalk.u64_in _ ⟨Int.natCast_nonneg _,Int.ofNat_le.2 (show _≤18446744073709551615 by omega)⟩) ?_
   have hp:=Z1K (show k<64 by omega)
   have hp2:2≤2 ^ k:=Nat.pow_le_pow_right (n:=2) (by decide) h1
   repeat' (first|refine Zg (Zk (k:=33) rfl rfl (ZK rfl)) ?_|(first|refine st ?_|(apply B<;>intro hb<;>try cases hb)))
   exact Z3 rfl (Z27 rfl) (by rw [Z30 (by omega) (by omega)]; rfl)
set_option maxHeartbeats 2000000 in
theorem Z5F (N M:Nat) (hN:N<18446744073709551616) (hM:M<18446744073709551616):Spec Tryz.prog 38 [setN N,setN M] (· = setN (minusN N M)):=by
 have hlt:=Z4c M hN
 have hz:∀ M,minusN 0 M=0:=fun M=>Nat.le_zero.1 Nat.and_le_left
 have fin:∀ {r:PV} {x:Nat},x<18446744073709551616→IsTrim [x] r→r=setN x:=fun {r x} hx hr=>by
  have e1:=hr.set (fun y hy=>by rw [List.mem_singleton.1 hy]; exact hx)
  have e2:ofW [x]=x:=by simp [ofW]
  rw [e2] at e1
  exact e1
 rcases Z19 hN with⟨rfl,e1⟩|⟨h1,e1⟩<;>rcases Z19 hM with⟨rfl,e2⟩|⟨h2,e2⟩<;>rw [e1]<;>(try rw [e2])<;>clear e1 e2
 all_goals
  refine Z2 ok38 (Nat.le_of_ble_eq_true rfl) fun C hC=>?_
  refine Zh ?_
  refine Za ?_
  refine Z6 rfl rfl rfl ?_
  refine Z6 rfl rfl rfl ?_
  (refine go ?_;repeat' (apply B<;>intro hb<;>try cases hb))
  refine ZT 1 ?_
 · repeat' (first | refine Zg (Zk (k := 29) rfl rfl (ZK rfl)) ?_ | (first|refine st ?_|(apply B<;>intro hb<;>try cases hb)))
   refine Zz rfl rfl (Z2E []) (ZR rfl) rfl fun r hr=>?_
   have e1:=hr.set (fun x hx=>by cases hx)
   subst e1
   (refine go ?_;repeat' (apply B<;>intro hb<;>try cases hb))
   exact Z3 rfl (Z1 _) (show setN (ofW [])=_ by rw [hz]; simp [ofW])
 · repeat' (first | refine Zg (Zk (k := 29) rfl rfl (ZK rfl)) ?_ | (first|refine st ?_|(apply B<;>intro hb<;>try cases hb)))
   refine Zz rfl rfl (Z2E []) (ZR rfl) rfl fun r hr=>?_
   have e1:=hr.set (fun x hx=>by cases hx)
   subst e1
   (refine go ?_;repeat' (apply B<;>intro hb<;>try cases hb))
   exact Z3 rfl (Z1 _) (show setN (ofW [])=_ by rw [hz]; simp [ofW])
 · (repeat'(first|refine Z4 25 ?_|refine Z0 25 ?_|refine st ?_|(apply B<;>intro hb<;>try cases hb)))<;>try refine At.mk ?_
   refine Zq (ZV [] 0) rfl rfl rfl (ZR rfl) ?_
   refine Zp (Z2p rfl (Z1e N 0 hN hM)) rfl rfl ?_
   repeat' (first|refine Zg (Zk (k:=29) rfl rfl (ZK rfl)) ?_|(first|refine st ?_|(apply B<;>intro hb<;>try cases hb)))
   refine Zz rfl rfl (Z2E [minusN N 0]) (ZR rfl) rfl fun r hr=>?_
   obtain rfl:=fin hlt hr
   (refine go ?_;repeat' (apply B<;>intro hb<;>try cases hb))
   exact Z3 rfl (Z1 _) rfl
 · (repeat'(first|refine Z4 25 ?_|refine Z0 25 ?_|refine st ?_|(apply B<;>intro hb<;>try cases hb)))<;>try refine At.mk ?_
   refine Zq (ZV [M] 0) rfl rfl rfl (ZR rfl) ?_
   refine Zp (Z2p rfl (Z1e N M hN hM)) rfl rfl ?_
   repeat' (first|refine Zg (Zk (k:=29) rfl rfl (ZK rfl)) ?_|(first|refine st ?_|(apply B<;>intro hb<;>try cases hb)))
   refine Zz rfl rfl (Z2E [minusN N M]) (ZR rfl) rfl fun r hr=>?_
   obtain rfl:=fin hlt hr
   (refine go ?_;repeat' (apply B<;>intro hb<;>try cases hb))
   exact Z3 rfl (Z1 _) rfl
theorem Z9x (N:Nat) (f:Fm) (m:Made6 f):Spec Tryz.prog 36 [.agg (fC .u8 f),setN N,.vec [] true] (· = .val (.bool (holdB f N))):=by
 have hd:=m.depth
 have hs:=m.size
 have:=Zbd N [] true f (by omega) (by omega)
 have e:typeOfE f=0∧typeOfT f=1:=by
  unfold typeOfE typeOfT
  rw [if_neg (by omega),if_pos m.wf.1,if_pos m.wf.2,if_neg (by omega),if_pos m.wf.1,if_pos m.wf.2]
  exact⟨rfl,m.ty⟩
 rw [e.1,e.2] at this
 exact this
def HoldsW (f:Fm):Prop:=∀ N,Spec Tryz.prog 36 [.agg (fC .u8 f),setN N,.vec [] true] (· = .val (.bool (holdB f N)))
theorem Made6.holdsW {f:Fm} (m:Made6 f):HoldsW f:=fun N=>Z9x N f m
theorem Z6w (f:Fm) (hd:f.depth≤1000) (hsz:f.size≤1099511627776) (l:List Pr) (S:List Nat) (s:Nat) (hs:s<18446744073709551616) (h0:s.testBit 0=false):Spec Tryz.prog 32 [.agg (fC .u8 f),hierP l S,setN s] (· = .val (.int .i64 (checkM f))):=by
 have hw:decide (s ||| (2 ^ 64-1)=2 ^ 64-1)=true:=decide_eq_true (orSub.2 fun i hi=>by
  have:i<64:=Nat.lt_of_not_le fun h8=>by
   rw [Nat.testBit_lt_two_pow (Nat.lt_of_lt_of_le hs (Nat.pow_le_pow_right (n:=2) (by decide) h8))] at hi; cases hi
  rw [Nat.testBit_two_pow_sub_one,decide_eq_true this])
 have hh:=Z59 s 0 (by decide) (by decide)
 rw [show (0:Int).toNat=0 from rfl,h0] at hh
 have hh0:=Z5e s (2 ^ 64-1) hs (by decide)
 rw [hw] at hh0
 refine Z2 ok32 (Nat.le_of_ble_eq_true rfl) fun C hC=>?_
 refine Zh ?_
 refine Za ?_
 refine Z6 rfl rfl rfl ?_
 refine Z6 rfl rfl rfl ?_
 (refine go ?_;repeat' (apply B<;>intro hb<;>try cases hb))
 refine Zq hh rfl rfl rfl ⟨Z1 s,trivial,trivial⟩ ?_
 (refine go ?_;repeat' (apply B<;>intro hb<;>try cases hb))
 refine Zq (ZbL 64 (by decide) (by decide)) rfl rfl rfl ⟨trivial,trivial⟩ ?_
 (refine go ?_;repeat' (apply B<;>intro hb<;>try cases hb))
 refine Zq hh0 rfl rfl rfl ⟨Z1 s,Z1 _,trivial⟩ ?_
 (refine go ?_;repeat' (apply B<;>intro hb<;>try cases hb))
 refine Z7 (Z4b f hd hsz) rfl rfl rfl ⟨Zm _ _,trivial,trivial⟩ rfl ?_
 (refine go ?_;repeat' (apply B<;>intro hb<;>try cases hb))
 exact Z3 rfl trivial rfl
theorem Z7r {f:Fm} (m:HoldsW f) (l:List Pr) (S:List Nat) (E s:Nat) (hE:E<18446744073709551616) (hs:s<18446744073709551616):Spec Tryz.prog 35 [setN s,.cp (fC .u8 f),.cp [hierP l S],.cp [.vec (words (digs E)) false]] (· = .val (.bool (gdR f l E s))):=by
 have hp:pureL [PV.vec (words (digs E)) false]:=⟨Zd _,trivial⟩
 refine Z2 ok35 (Nat.le_of_ble_eq_true rfl) fun C hC=>?_
 refine Zh ?_
 refine Za ?_
 refine Z6 rfl rfl rfl ?_
 (refine go ?_;repeat' (apply B<;>intro hb<;>try cases hb))
 refine Zq (Z5F E s hE hs) rfl rfl rfl ⟨Z1 _,Z1 _,trivial⟩ ?_
 refine Zq (Z4x l S _ (Z4c s hE)) rfl rfl rfl ⟨ZF l S,Z1 _,trivial⟩ ?_
 refine Zq (m (clo l (minusN E s))) rfl rfl rfl ⟨Zm _ _,Z1 _,trivial,trivial⟩ ?_
 rw [show holdB f (clo l (minusN E s))=gdR f l E s from rfl]
 generalize gdR f l E s=v
 cases v
 all_goals
  (refine go ?_;repeat' (apply B<;>intro hb<;>try cases hb))
  exact Z3 rfl trivial rfl
theorem Z5G {f:Fm} (m:HoldsW f) (l:List Pr) (S:List Nat) (E s:Nat) (hE:E<18446744073709551616) (hs:s<18446744073709551616):Spec Tryz.prog 40 [setN s,.cp (fC .u8 f),.cp [hierP l S],.cp [.vec (words (digs E)) false]] (· = .val (.bool (gdA f l E s))):=by
 refine Z2 ok40 (Nat.le_of_ble_eq_true rfl) fun C hC=>?_
 refine Zh ?_
 refine Za ?_
 refine Z6 rfl rfl rfl ?_
 (refine go ?_;repeat' (apply B<;>intro hb<;>try cases hb))
 refine Zq (Z31 E s hE hs) rfl rfl rfl ⟨Z1 _,Z1 _,trivial⟩ ?_
 refine Zq (Z4x l S _ (Z36 hE hs)) rfl rfl rfl ⟨ZF l S,Z1 _,trivial⟩ ?_
 refine Zq (m (clo l (E ||| s))) rfl rfl rfl ⟨Zm _ _,Z1 _,trivial,trivial⟩ ?_
 rw [show holdB f (clo l (E ||| s))=gdA f l E s from rfl]
 generalize gdA f l E s=v
 cases v
 all_goals
  (refine go ?_;repeat' (apply B<;>intro hb<;>try cases hb))
  exact Z3 rfl trivial rfl
end Go.Proofs.YtojlnagiaibgkaaGreatDoor
