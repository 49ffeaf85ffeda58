/-
  Merged from the texts that this claim's theorem needs, part 5 of 8. No statement of the seat is proved here.
-/
import Derived.KernelRfl
import Derived.Shelf.SlSortCmp.NoneTotal
import Derived.Test.YtoolafpiaobphaaGreatDoorChecked
import Derived.Test.YtoolafpiaobphaaGreatDoorMq3
set_option linter.unusedSimpArgs false
set_option linter.unusedVariables false
set_option linter.unusedSectionVars false
set_option linter.defProp false
set_option maxRecDepth 100000
set_option maxHeartbeats 16000000
namespace Go.Proofs.YtoolafpiaobphaaGreatDoor
section
open Go.RowKit Go.Sort
section
variable {P:Program} {ρ:Go.Shelf.Ren} {α:Type}
def X4h (F:XL) (k:Nat) (enc:α->List PV) (p:List Value×α):Prop :=
 p.1.length=k/\(∀ v∈p.1,v.oneCell'=true)/\∀ j,j<k->Rep F XP (p.1.getD j undef) ((enc p.2).getD j pvu)
abbrev Raw (F:XL) (k:Nat) (enc:α->List PV):={ p:List Value×α // X4h F k enc p }
theorem Z9l {w:World} {blk off:Nat} {cells:Array Value} {t:TypeId} {fr:Nat×Nat} (hg:w.heap[blk]?=some (.cells cells t fr)) (D:Array Value):putRow id w blk off D=w.setRow blk (putCells id off D cells):=by
 unfold putRow;rw [mapBlock_congr w blk _ (fun _=>putCells id off D cells) (fun c e fr' h=>by rw [hg] at h; cases h; rfl)];unfold mapBlock World.setRow;congr 2
theorem ZiH {W w':World} (hb:Below W.heap.size W w') (hd:W.drawn<=w'.drawn):∃ q os,w'=grow (W.drewN q) os:=by
 refine⟨w'.drawn-W.drawn,w'.heap.extract W.heap.size w'.heap.size,?_⟩;obtain⟨h1,h2,h3,h4,h5⟩:=hb;obtain⟨heap,tape,drawn,os,output⟩:=w';simp only at h1 h2 h3 h4 h5 hd ⊢;subst h1 h2 h3;simp only [grow,World.drewN,World.mk.injEq,true_and,and_true];refine⟨?_,by omega⟩;apply Array.ext_getElem?;intro i;rw [Y3a];by_cases hi:i<W.heap.size
 . rw [Y6 hi]; exact h5 i hi
 . rw [Y8 hi, Array.getElem?_extract];by_cases h6:i<heap.size
   . rw [Y6 (by omega)];congr 1;omega
   . rw [Y8 (by omega)];exact Y3S (by omega)
theorem X4h.agg {F:XL} {k:Nat} {enc:α->List PV} {p:List Value×α} (h:X4h F k enc p) (hl:(enc p.2).length=k):Rep F XP (.agg p.1.toArray) (.agg (enc p.2)):=by
 obtain⟨h1,h2,h3⟩:=h;have hg:∀ i,p.1.toArray.getD i undef=p.1.getD i undef:=fun i=>by simp [Y0d,Y0b]
 refine .agg _ _ (by simp [h1,hl]) (fun i hi=>?_) (fun i hi=>?_)
 . rw [hg, Y0b, Y0c (by omega)];exact h2 _ (Y0j _)
 . rw [hg]; exact h3 i (by omega)
theorem ZkC {β:Type} {cf:β->β->Int} {key:β->Nat} (h:∀ a b,cf a b<0↔key a<key b):SWO (ltOf cf):=by
 have e:∀ a b,ltOf cf a b=decide (key a<key b):=fun a b=>by unfold ltOf; exact Y27.2 (h a b)
 refine⟨fun x=>?_,fun x y z h1 h2=>?_,fun x y z h1 h2=>?_⟩
 . rw [e]; simp
 . rw [e] at *; simp at *; omega
 . rw [e] at *; simp at *; omega
theorem Z63 (L:SlLaysF0.n6 P ρ) (hbody:X1K P (ρ.f 6)) (k:Nat) (hk0:0<k) (aE:∀ w,(isAgg (ρ.t 24)).run P w=.ok true w) (zE:∀ w,(Go.sizeOf (ρ.t 24)).run P w=.ok k w) (enc:α->List PV) (hl:∀ x,(enc x).length=k) (hp:∀ x,X5 (enc x))
 (key:α->Nat) (cf:α->α->Int) (hcf:∀ a b,cf a b<0↔key a<key b) (g:FuncId) (caps:List PV) (hcaps:X5 caps) (hcmp:∀ a b,X7 P g (.agg (enc a) :: .agg (enc b) :: caps) (· = .val (.int .i64 (cf a b)))) {n ob:Nat} {h:X2} (xs:List α) (hh:h ob=some ⟨k,xs.map enc⟩) :
 XF P (ρ.f 6) n [.own ob,.fn g caps] h fun n' r h'=>n'=n/\r=.tup []/\∃ ys:List α,ys.Perm xs/\ys.Pairwise (fun a b=>key a<=key b)/\h'=h.upd ob ⟨k,ys.map enc⟩:=by
 refine⟨hbody,?_⟩;intro C e F φ a w vs s hv;obtain⟨hsz,hvs⟩:=hv;have h0:Rep F φ (vs.getD 0 undef) (.own ob):=hvs 0 (by simp);have h1:Rep F φ (vs.getD 1 undef) (.fn g caps):=hvs 1 (by simp);obtain⟨loc,hloc,hz,hv0⟩:=h0.own_inv;obtain⟨cb,hv1,hcsz,hcb⟩:=h1.fn_inv;have hvs':vs = #[.slice loc.base loc.len loc.cap,.func (.func g) #[] cb]:=by
  simp only [Y04,Y2E] at hsz;apply Array.ext (by simpa using hsz);intro i hi1 hi2;have hi:i=0 \/ i=1:=by simp at hi2; omega
  have hget:∀ j (hj:j<vs.size),vs.getD j undef=vs[j]:=fun j hj=>by simp [Array.getD,hj]
  rcases hi with rfl|rfl
  . rw [hget 0 hi1] at hv0; exact hv0
  . rw [hget 1 hi1] at hv1; exact hv1
 obtain⟨loc',hl1,hob,hhas⟩:=s.live ob _ hh;obtain rfl:loc'=loc:=by rw [hl1] at hloc; simpa using hloc
 have hbx:=hob.cells hz;have hlen:xs.length=loc'.len:=by have:=hbx.len; simpa using this
 have hke:k=loc'.esz:=hbx.esz;rw [hvs'];by_cases hx0:xs = []
 . subst hx0;have hl0:loc'.len=0:=hlen.symm;have hc:=AnyF.slices_SortFunc_none (P:=P) (ρ:=ρ) { L with } loc'.base loc'.cap (.func (.func g) #[] cb) w;rw [hl0];refine hc.mono ?_;rintro en w' ⟨rfl,rfl⟩;refine⟨_,.tup [],n,h.upd ob ⟨k,[].map enc⟩,F,φ,rfl,⟨rfl,rfl,[],.refl _,.nil,rfl⟩,.tup _ _ rfl (fun i hi=>absurd hi (Ye i)),s.sub (fun _ _ h=>h) fun i b hi=>?_⟩;by_cases hid:i=ob
   . subst hid; rw [X2.upd_same] at hi; rw [hh]; exact hi
   . rw [X2.upd_ne _ _ hid] at hi; exact hi
 . have hpos : 0 < xs.length := Y3o.2 hx0;have hcap:=hbx.cap;have hc0:loc'.cap≠0:=by omega
   obtain⟨ad,hbase,hspot,cells,t,hg,hroom,hrep⟩:=hbx.room hc0;have hhb:loc'.has ad.block:=⟨hc0,ad,hbase,rfl⟩
   have hFn:∀ x:Addr,x.block=ad.block->F x=none:=(hhas _ hhb).2;have hblk:ad.block<w.heap.size:=(YF.1 hg).1;have hin:∀ i j,i<xs.length->j<k->i*k+j<xs.length*k:=fun i j hi hj=>by
    have:=YX k (show i+1<=xs.length from hi);rw [Y1t,Nat.one_mul] at this;omega
   have hsize:xs.length*k<=loc'.cap*loc'.esz:=by rw [hke]; exact YX _ (by omega)
   have hraw:∀ i:Fin xs.length,X4h F k enc ((List.range k).map fun j=>cells.getD (ad.off+(i.1*k+j)) undef,xs[i.1]):=by
    intro i;have hi:=i.2;refine⟨by simp,fun v hv=>?_,fun j hj=>?_⟩
    . obtain ⟨j, hj, rfl⟩ := Y0i.1 hv;have:=(hrep i.1 j (by omega) (by rw [<- hke]; exact Y1x.1 hj)).1;rw [<- hke] at this;exact this
    . have h2 := (hrep i.1 j (by omega) (by omega)).2;rw [<- hke] at h2;have e1:((xs.map enc).getD i.1 [])=enc xs[i.1]:=by simp [Y0b,hi]
      rw [e1] at h2;have e2:((List.range k).map fun j=>cells.getD (ad.off+(i.1*k+j)) undef).getD j undef=cells.getD (ad.off+(i.1*k+j)) undef:=by simp [Y0b,hj]
      show Rep F XP (((List.range k).map fun j=>cells.getD (ad.off+(i.1*k+j)) undef).getD j undef) ((enc xs[i.1]).getD j pvu);rw [e2];exact h2.pure (ZM (hp _) j)
   letI:Inhabited (Raw F k enc):=⟨⟨_,hraw ⟨0,hpos⟩⟩⟩
   obtain⟨d,hd⟩:∃ d:Array (Raw F k enc),d=Array.ofFn fun i:Fin xs.length=>(⟨_,hraw i⟩:Raw F k enc):=⟨_,rfl⟩
   have hdsz:d.size=xs.length:=by rw [hd]; simp
   have hdget:∀ (i:Nat) (hi:i<xs.length),d[i]! = ⟨_,hraw ⟨i,hi⟩⟩:=fun i hi=>by
    have:i<d.size:=by omega
    rw [getElem!_pos d i this];simp only [hd,Array.getElem_ofFn]
   have hdl:d.toList.map (fun p=>p.1.2)=xs:=by
    apply Y4s
    . simp [hdsz]
    . intro i h3 h4;have h5:=hdget i h4;rw [getElem!_pos d i (by omega)] at h5;simp [h5]
   have encK:∀ x:Raw F k enc,(x.1.1).length=k:=fun x=>x.2.1;have enc1:∀ x:Raw F k enc,∀ v∈x.1.1,v.oneCell'=true:=fun x=>x.2.2.1;have hH:HoldsK (fun x:Raw F k enc=>x.1.1) k w ad.block ad.off d:=by
    intro q hq;rw [size_flatK,hdsz] at hq;have hi:q / k<xs.length:=(Nat.div_lt_iff_lt_mul hk0).2 hq;have hj:q % k<k:=Y1F _ hk0;have hqe:q / k*k+q % k=q:=by rw [Y24]; exact Nat.div_add_mod q k
    rw [get_flatK _ _ _ _ (by rw [hdsz]; exact hq),hdget _ hi];have hlt:ad.off+q<cells.size:=by omega
    constructor
    . simp only [World.cell?, hg];rw [Y8 (by simp),Y1V hlt];congr 1;rw [getElem!_pos _ _ (by simp [hj])];simp only [Y3L,Y2d,hqe,id];simp [Array.getD,hlt]
    . simp only [World.frozen?, hg];simp
   have hcmpL:CmpLays P g cb (fun x:Raw F k enc=>x.1.1) k (fun x y=>cf x.1.2 y.1.2) ad.block ad.off d.size w:=by
    intro m os dk hdk x y;have hW:Proofs.YtoolafpiaobphaaGreatDoor.Holds F (sortWorldK (fun x:Raw F k enc=>x.1.1) k w ad.block ad.off m dk os):=by
     refine⟨fun x v hx=>?_,s.glob⟩;obtain⟨f1,f2,f3⟩:=s.froz x v hx;refine⟨f1,f2,?_⟩;have hne:x.block≠ad.block:=fun he=>by rw [hFn x he] at hx; cases hx
     have h5:(putRowK (fun x:Raw F k enc=>x.1.1) k (Sort.ahead w m) ad.block ad.off dk).cell? x=some v:=by
      rw [cell?_putRowK_other _ _ _ _ _ _ _ hne]; exact f3
     unfold sortWorldK;have hlt:x.block<(putRowK (fun x:Raw F k enc=>x.1.1) k (Sort.ahead w m) ad.block ad.off dk).heap.size:=by
      unfold World.cell? at h5
      split at h5
      . rename_i hgx; exact (YF.1 hgx).1
      . cases h5
     rw [Y2h (w:=putRowK (fun x:Raw F k enc=>x.1.1) k (Sort.ahead w m) ad.block ad.off dk)]
     . exact h5
     . unfold grow;exact Y17 hlt
    have hR:X27 F XP (#[.agg x.1.1.toArray,.agg y.1.1.toArray]++cb) (.agg (enc x.1.2) :: .agg (enc y.1.2) :: caps):=by
     refine⟨by simp [hcsz]; omega,fun i hi=>?_⟩
     match i,hi with
     | 0, _ =>
       rw [show (#[Value.agg x.1.1.toArray,Value.agg y.1.1.toArray]++cb).getD 0 undef=.agg x.1.1.toArray by simp [Y0d,Y3a]];exact X4h.agg x.2 (hl _)
     | 1, _ =>
       rw [show (#[Value.agg x.1.1.toArray,Value.agg y.1.1.toArray]++cb).getD 1 undef=.agg y.1.1.toArray by simp [Y0d,Y3a]];exact X4h.agg y.2 (hl _)
     | i + 2, hi =>
       have e1:(#[Value.agg x.1.1.toArray,Value.agg y.1.1.toArray]++cb).getD (i+2) undef=cb.getD i undef:=by
        simp only [Y0d];rw [Y2H (by simp)];simp
       rw [e1];exact (hcb i (by simpa using hi)).pure (ZM hcaps i)
    refine (Zc6 ((hcmp x.1.2 y.1.2).2 F _ _ hW hR)).mono ?_;rintro en w' ⟨⟨v,r,F',rfl,rfl,hr,hbel,_⟩,hdr⟩;have hvi:=hr.val_inv;exact⟨by rw [hvi],ZiH hbel (hdr v rfl)⟩
   have eg:∀ args w,(callFunc g args).run P w=.ok (.enter g args) w:=by
    obtain⟨⟨fn,hfn,hname,hbd⟩,_⟩:=hcmp xs[0] xs[0];intro args w;have h1 : ¬ fn.name = "runtime.NumGoroutine" := by simpa using hname
    have h2:¬ fn.body=none:=fun h=>by rw [h] at hbd; simp at hbd
    simp [callFunc,hfn,h1,h2]
   have hmx:=hbx.max;have hc:=AnyQ.slices_SortFunc L k aE zE (fun x:Raw F k enc=>x.1.1) encK enc1 (fun x y=>cf x.1.2 y.1.2) (ZkC (key:=fun x:Raw F k enc=>key x.1.2) fun a b=>hcf _ _) g cb ad.block ad.off loc'.cap d w eg hcmpL hH hblk (by rw [hdsz]; simp only [Xj] at hmx;omega);rw [hbase,<- hlen,<- hdsz];rw [<- Z5f ad hspot] at hc;refine hc.mono ?_;rintro en w' ⟨rfl,d',m,os,⟨hps,-,hpp⟩,hso,rfl⟩;have hpp':d'.toList.Perm d.toList:=by
    have e1:d'.extract 0 d.size=d':=by rw [<- hps]; exact Array.extract_size
    have e2:d.extract 0 d.size=d:=Array.extract_size;rw [e1,e2] at hpp;exact hpp
   have hg':(Sort.ahead w m).heap[ad.block]?=some (.cells cells t (0,0)):=hg;obtain⟨cur',hcur⟩:∃ cur',cur'=putCells id ad.off (flatK (fun x:Raw F k enc=>x.1.1) k d') cells:=⟨_,rfl⟩
   have hw1:sortWorldK (fun x:Raw F k enc=>x.1.1) k w ad.block ad.off m d' os=grow ((Sort.ahead w m).setRow ad.block cur') os:=by
    unfold sortWorldK putRowK;rw [Z9l hg',hcur]
   have hget':∀ i j,i<xs.length->j<k->cur'.getD (ad.off+(i*k+j)) undef=(d'[i]!).1.1.getD j undef:=by
    intro i j hi hj;have hq:=hin i j hi hj;have hlt:ad.off+(i*k+j)<cells.size:=by omega
    have e1:(i*k+j) / k=i:=(blk_iff k i _ hk0).1 ⟨by omega,by omega⟩;have e2:(i*k+j) % k=j:=by rw [Nat.mod_eq_sub_div_mul,e1]; omega
    rw [hcur,putCells,Y0d,Array.getElem?_mapIdx,Y1V hlt];simp only [Y1i,Y29];rw [Y6 ⟨by omega,by rw [size_flatK,hps,hdsz]; omega⟩,show ad.off+(i*k+j)-ad.off=i*k+j by omega];show (flatK (fun x:Raw F k enc=>x.1.1) k d')[i*k+j]! = _;rw [get_flatK (fun x:Raw F k enc=>x.1.1) k d' (i*k+j) (by rw [hps,hdsz]; exact hq),e1,e2];have hj':j<(d'[i]!).1.1.length:=by rw [encK]; exact hj
    rw [getElem!_pos (d'[i]!).1.1 j hj',Y0b,Y0c hj',Y29]
   have hysl:(d'.toList.map fun p=>p.1.2).length=xs.length:=by simp [hps,hdsz]
   refine⟨_,.tup [],n,h.upd ob ⟨k,(d'.toList.map fun p=>p.1.2).map enc⟩,F,φ,rfl,⟨rfl,rfl,d'.toList.map fun p=>p.1.2,?_,?_,rfl⟩,.tup _ _ rfl (fun i hi=>absurd hi (Ye i)),?_⟩
   . have := hpp'.map fun p : Raw F k enc => p.1.2;rw [hdl] at this;exact this
   . rw [Y2N];intro i j hi hj hij;have hi':i<d'.size:=by simpa using hi
     have hj':j<d'.size:=by simpa using hj
     have h5:=hso i j (Y0l _) hij (by omega);rw [getElem!_pos d' i hi',getElem!_pos d' j hj'] at h5;unfold ltOf at h5;have h6:=YC h5;rw [hcf] at h6;simp only [Y3L,Array.getElem_toList];omega
   . rw [hw1];have sA:St' C (fun i=>n<=i) e h F φ a (Sort.ahead w m):=s.turned (row:=none) (w':=Sort.ahead w m) ⟨rfl,rfl,rfl,Y0m _,fun _ _ _=>rfl⟩ (fun r hr=>by cases hr) (.inr fun r es t hr=>by cases hr) rfl (s.marks.mono fun _ h=>h);have s1:St' C (fun i=>n<=i) e (h.del ob) F φ a (Sort.ahead w m):=sA.sub (fun _ _ h=>h) (fun _ _ hh=>(X2.del_some hh).2);have hbx':X4q F φ ((Sort.ahead w m).setRow ad.block cur') loc' ⟨k,(d'.toList.map fun p=>p.1.2).map enc⟩:=by
      refine⟨hke,hz,by rw [<- hlen]; simp [hps,hdsz],hcap,hmx,fun c hc=>?_,fun _=>⟨ad,hbase,hspot,cur',t,Y44 _ _ _ _ _ _ hg',?_,fun i j hi hj=>?_⟩⟩
      . obtain ⟨y, _, rfl⟩ := Y0i.1 hc;rw [hl,hke]
      . have : cur'.size = cells.size := by rw [hcur]; simp [putCells]
        omega
      . rw [<- hke] at hj ⊢;have hi':i<xs.length:=by omega
        have hid:i<d'.size:=by omega
        rw [hget' i j hi' hj];obtain⟨r1,r2,r3⟩:=(d'[i]!).2;have hj':j<(d'[i]!).1.1.length:=by rw [r1]; exact hj
        have e3:((d'.toList.map fun p=>p.1.2).map enc).getD i []=enc (d'[i]!).1.2:=by
         rw [getElem!_pos d' i hid];simp [Y0b,hid]
        refine⟨?_,?_⟩
        . rw [Y0b, Y0c hj'];exact r2 _ (Y0j _)
        . show Rep F φ _ ((((d'.toList.map fun p => p.1.2).map enc).getD i []).getD j pvu);rw [e3];exact (r3 j hj).mono (fun _ _ h=>h) (fun i x hx=>by cases hx)
     have s2:=s1.adopt hg' (hhas _ hhb).1 hFn (s.del_no hh hl1 hhb) hl1 (fun _ _ h=>h) (fun _ _=>rfl) s.free (fun k' hk'=>by
      obtain⟨_,x,hx,rfl⟩:=hk';rw [hbase] at hx;cases hx
      rfl) hbx'
     have s3:=s2.turned (row:=none) (w':=grow ((Sort.ahead w m).setRow ad.block cur') os) ⟨rfl,rfl,rfl,by simp [grow],fun j hj _=>by unfold grow; exact Y17 hj⟩ (fun r hr=>by cases hr) (.inr fun r es t hr=>by cases hr) rfl (s2.marks.mono fun j hj=>by
      unfold grow;rw [Y17 (YF.1 hj).1]
      exact hj)
     refine s3.sub (fun _ _ h=>h) fun i b hi=>?_;by_cases hid:i=ob
     . subst hid; rw [X2.upd_same] at hi ⊢; exact hi
     . rw [X2.upd_ne _ _ hid] at hi ⊢; rw [X2.del_ne _ hid]; exact hi
end
end
section
open Go.RowKit
section
variable {P:Program} {C:Ctx} {Fr:Nat->Prop} {e:Env} {h:X2} {F:XL} {φ:XO} {a:Act} {w:World}
def X4B (P:Program) (f:FuncId) (b:Bx) (args:List PV) (R:PV->Bx->Prop):Prop :=
 XF P f 1 args (X2.upd (fun _=>none) 0 b) fun _ r h'=>∃ b',h' 0=some b'/\r.inn (· = 0)/\X1 b'.elems/\R r b'
theorem X4B.run {f:FuncId} {b:Bx} {args:List PV} {R:PV->Bx->Prop} (hs:X4B P f b args R) (hpb:X1 b.elems) (hpr:X1S (· = 0) args) (hb:h 0=some b) (s:St' C Fr e h F φ a w) {vs:Array Value} (hv:X27 F φ vs args) :
 Calls P f vs w fun en w'=>∃ v r b' F',en=.returned v/\(r.inn (· = 0)/\X1 b'.elems/\R r b')/\Rep F' φ v r/\St' C Fr e (h.upd 0 b') F' φ a w':=by
 refine (X5N (R:=fun r b'=>r.inn (· = 0)/\R r b') (XF.mono hs fun _ _ _ ⟨b',h1,h2,h3,h4⟩=>⟨b',h1,h3,h2,h4⟩) hpb hb s fun φ1 h1=>⟨hv.1,fun i hi=>(hv.2 i hi).inn (fun j x hj hx=>?_) (ZM hpr i)⟩).mono fun _ _ ⟨v,r,b',F',h1,⟨h2,h3,h4⟩,⟨_,h5,h6⟩,h7⟩=>⟨v,r,b',F',h1,⟨h3,h2,h4⟩,h6.inn (fun j x hj hx=>?_) h3,h7⟩
 . subst hj; rw [h1]; exact hx
 . subst hj; rw [<- h5]; exact hx
theorem X4B.ispec {f:FuncId} {b:Bx} {args:List PV} {R:PV->Bx->Prop} (hs:X4B P f b args R) (hpb:X1 b.elems) (hpr:X1S (· = 0) args) {n:Nat} (hb:h 0=some b):XF P f n args h fun n' r h'=>n'=n/\∃ b',r.inn (· = 0)/\X1 b'.elems/\R r b'/\h'=h.upd 0 b':=by
 refine⟨hs.1,fun C e F φ a w vs s hv=>(hs.run hpb hpr hb s hv).mono ?_⟩;rintro en w' ⟨v,r,b',F',rfl,⟨h1,h2,h3⟩,hr,s'⟩;exact⟨v,r,n,h.upd 0 b',F',φ,rfl,⟨rfl,b',h1,h2,h3,rfl⟩,hr,s'⟩
end
section
variable {P:Program} {C:Ctx} {Fr:Nat->Prop} {e:Env} {h:X2} {F:XL} {φ:XO} {a:Act} {w:World}
theorem X1y.ispec {f:FuncId} {args:List PV} {mk:Nat->PV} {b:Bx} (hs:X1y P f args mk b) (hmk:Mk mk) (hpb:X1 b.elems) (hpr:X5 args) {n:Nat}:XF P f n args h fun n' r h'=>n'=n+1/\r=mk n/\h'=h.upd n b:=by
 refine⟨hs.1,fun C e F φ a w vs s hv=>(hs.run hmk hpb hpr (Y0m n) s hv).mono ?_⟩;rintro en w' ⟨v,F',φ',rfl,hr,s'⟩;exact⟨v,mk n,n+1,h.upd n b,F',φ',rfl,⟨rfl,rfl,rfl⟩,hr,{ s' with free:=fun i hi=>s'.free i ⟨by omega,by omega⟩ }⟩
theorem Z1A {f nt:Nat} {ac:X6} {rs:List X2g} (hf:X3O P f nt ac rs) {args:List PV} {mk:Nat->PV} {b:Bx} (hn:args.length<=nt) (hk:∀ C:Ctx,C.dom 0->aw P C ac (X6h rs fun _ r h'=>∃ id,r=mk id/\h' id=some b) 0 (XV args) (fun _=>none)):X1y P f args mk b:=Z18 hf hn hk
theorem Z3B {f:Operand} {args:List Operand} {g:FuncId} {caps as0:List PV} {mk:Nat->PV} {b:Bx} {d:Option Nat} {os:List Xs} {n:Nat} {K:Nat->Env->X2->Prop} (hs:X1y P g (as0++caps) mk b) (hmk:Mk mk) (hpb:X1 b.elems) (hf:ev e f=some (.fn g caps)) (ha:evs e args=some as0) (hp:X5 (as0++caps))
 (hk:Xr P os (n+1) (XC e d (mk n)) (h.upd n b) K):Xr P (⟨d,.call f args,none⟩ :: os) n e h K :=
 Z10 hf ha (hs.ispec hmk hpb hp) fun n' r h' hh=>by obtain⟨rfl,rfl,rfl⟩:=hh; exact hk
end
theorem X1y.spec {P:Program} {f:FuncId} {args:List PV} {mk:Nat->PV} {b:Bx} (hs:X1y P f args mk b) (hpb:X1 b.elems) {q:PV} (hfr:∀ id,X4X id b.elems (mk id) q) (hq:q.pure):X7 P f args (· = q):=by
 refine⟨hs.1,fun F w vs hF hv=>?_⟩
 let C1:Ctx:=⟨w,fun _=>False,F,1,XP⟩
 let a1:Act:={ tmps := #[undef],defers := [] }
 have s1:St' C1 (fun i=>0<=i) (fun _=>none) (fun _=>none) F XP a1 w :=
  { nt:=rfl,glob:=hF.2,marks:=X2b.nil rfl,loc0:=fun i x hx=>hx,free:=fun i hi=>rfl,env:=fun k p hp=>(by cases hp),froz:=hF.1,ext:=fun _ _ h=>h,old:=fun _ _ _=>rfl,os:=rfl,tape:=rfl,output:=rfl,size:=Y0m _,kept:=fun _ _ _=>rfl,live:=fun i b0 hi=>(by cases hi),sep:=fun i j bi bj li lj k hi hj _ _ _ _=>(by cases hi) }
 refine (hs.2 C1 _ F XP a1 w vs s1 hv).mono ?_;rintro en w' ⟨v,r,n',h',F',φ',rfl,⟨id,rfl,hb'⟩,hvr,s'⟩;have s2:=s'.put (d:=0) (show 0<1 by decide) hvr;obtain⟨F2,φ2,s3⟩:=Z7b (k:=0) (p:=mk id) (Env.upd_same _ _ _) hb' hpb (hfr id) _ _ ⟨F',φ',s2⟩;have hr:=(s3.env 0 q (Env.upd_same _ _ _)).2;exact⟨v,q,F2,rfl,rfl,Rep.pure (φ:=φ2) (φ':=XP) hr hq,⟨s3.os,s3.tape,s3.output,s3.size,fun k hk=>s3.kept k hk fun h=>h⟩,⟨s3.froz,s3.glob⟩,s3.ext,fun x hx=>s3.old x hx fun h=>h⟩
section
variable {P:Program} {e:Env} {h:X2} {n:Nat} {K:Nat->Env->X2->Prop} {os:List Xs} {d:Option Nat}
theorem X7.ro {g:FuncId} {args:List PV} {i k:Nat} {b:Bx} {v:Value} (hs:X7 P g (args.set i (.vec b.elems false)) (· = .val v)) (hi:args[i]?=some (.own k)) (hb:h k=some b) (hpb:X1 b.elems) (hpr:X5 (args.set i (.vec b.elems false))) :
 XF P g n args h fun n' r h'=>n'=n/\r=.val v/\h'=h:=by
 refine⟨hs.1,fun C e F φ a w vs s hv=>?_⟩
 let C1:Ctx:=⟨C.w0,C.G,C.F0,vs.size,C.φ0⟩
 let a1:Act:={ a with tmps:=vs }
 have s1:St' C1 (fun j=>n<=j) (XV args) h F φ a1 w:=by
  refine { nt:=rfl,glob:=s.glob,marks:=⟨s.marks.nd,s.marks.all⟩,loc0:=s.loc0,free:=s.free,env:=fun j p hp=>?_,froz:=s.froz,ext:=s.ext,old:=s.old,os:=s.os,tape:=s.tape,output:=s.output,size:=s.size,kept:=s.kept,live:=s.live,sep:=s.sep };have hj:j<args.length:=(Y7.1 hp).1;refine⟨by show j<vs.size; rw [hv.1]; exact hj,?_⟩;have h1:=hv.2 j hj;have e2:args.getD j pvu=p:=by
   rw [Y0b];have hp':args[j]?=some p:=hp;rw [hp']; rfl
  rw [<- e2];exact h1
 obtain⟨F2,φ2,s2⟩:=Z7b (k:=i) (p:=.own k) (q:=.vec b.elems false) hi hb hpb .own a1 w ⟨F,φ,s1⟩;have hrep:X27 F2 XP vs (args.set i (.vec b.elems false)):=by
  refine⟨by rw [hv.1,Y18],fun j hj=>?_⟩;have hj':j<args.length:=by rwa [Y18] at hj
  have he:((XV args).upd i (.vec b.elems false)) j=some ((args.set i (.vec b.elems false)).getD j pvu):=by
   by_cases hji:j=i
   . subst hji;rw [Env.upd_same,Y0b,Y3Q hj']
     rfl
   . rw [Env.upd_ne _ _ hji, Y0b, Y3e (Y2L hji)];show args[j]?=_;rw [Y0c hj']
     rfl
  exact Rep.pure (φ:=φ2) (φ':=XP) (s2.env j _ he).2 (ZM hpr j)
 refine (hs.2 F2 w vs ⟨s2.froz,s2.glob⟩ hrep).mono ?_;rintro en w' ⟨v',r,F3,rfl,rfl,hr,hbel,-,-,-⟩;obtain rfl:v'=v:=hr.val_inv;exact⟨v',.val v',n,h,F,φ,rfl,⟨rfl,rfl,rfl⟩,.val _,s.called hbel (Holds.kept ⟨s.froz,s.glob⟩ hbel) (fun _ _ h=>h) fun _ _=>rfl⟩
theorem ZkD {f:Operand} {args:List Operand} {g:FuncId} {caps as0 args':List PV} {i k:Nat} {b:Bx} {v:Value} (hs:X7 P g args' (· = .val v)) (hf:ev e f=some (.fn g caps)) (ha:evs e args=some as0) (hi:(as0++caps)[i]?=some (.own k)) (hb:h k=some b) (hargs:(as0++caps).set i (.vec b.elems false)=args') (hpb:X1 b.elems) (hpr:X5 args')
 (hk:Xr P os n (XC e d (.val v)) h K):Xr P (⟨d,.call f args,none⟩ :: os) n e h K:=by
 subst hargs;exact Z10 hf ha (hs.ro hi hb hpb hpr) fun n' r h' hh=>by obtain⟨rfl,rfl,rfl⟩:=hh; exact hk
theorem Z4H {neg:Bool} {x:Operand} (hx:(∃ l fl,ev e x=some (.vec l fl)) \/ ∃ k,ev e x=some (.own k)) (hz:h n=none) (hk:∀ b,Xr P os n (XC e d (.val (.bool b))) h K):Xr P (⟨d,.isnil neg x,none⟩ :: os) n e h K:=by
 unfold Xr;exact⟨n,e,h,Z5l,.inl (Zgb hx fun b=>by rw [Z6H hz]; exact hk b)⟩
theorem ZgA {k:Nat} {p:PV} (hk:e k=some p):X4m n e h n (e.upd k p.low) h:=by
 rintro C a w ⟨F,φ,s⟩;refine⟨F,φ,{ s with env:=fun j q hq=>?_ }⟩;by_cases hj:j=k
 . subst hj;rw [Env.upd_same] at hq;cases hq;exact⟨(s.env j p hk).1,(s.env j p hk).2.low⟩
 . rw [Env.upd_ne _ _ hj] at hq;exact s.env j q hq
theorem Zc7 {C:Ctx} {k id lo len:Nat} {b:Bx} (hk:e k=some (.view id lo len)) (hb:h id=some b) (hin:lo+len<=b.elems.length) (hp:X1 b.elems):Sub C n e h n (e.upd k (.vec ((b.elems.drop lo).take len) false)) (h.del id):=by
 rintro a w ⟨F,φ,s⟩;obtain⟨hlt,hr⟩:=s.env k _ hk;obtain⟨loc,base,hl,hz,hcapv,hbs,hv⟩:=hr.view_inv;obtain⟨loc',h1,h2,h3⟩:=s.live id b hb;obtain rfl:loc'=loc:=by rw [h1] at hl; simpa using hl
 have h2:=h2.cells hz;have s1:St' C (fun i=>n<=i) e (h.del id) F φ a w:=s.sub (fun _ _ h=>h) (fun _ _ hh=>(X2.del_some hh).2);have hput:∀ {F':XL},St' C (fun i=>n<=i) e (h.del id) F' φ a w->Rep F' φ (a.tmps.getD k undef) (.vec ((b.elems.drop lo).take len) false)->St C (fun i=>n<=i) (e.upd k (.vec ((b.elems.drop lo).take len) false)) (h.del id) a w:=fun {F'} s2 hrep=>by
  refine⟨F',φ,{ s2 with env:=fun j p hj=>?_ }⟩;by_cases hjk:j=k
  . subst hjk; rw [Env.upd_same] at hj; cases hj; exact⟨hlt,hrep⟩
  . rw [Env.upd_ne _ _ hjk] at hj; exact s2.env j p hj
 have hll:((b.elems.drop lo).take len).length=len:=by rw [Y0o,YV]; omega
 have hget:∀ i,i<len->((b.elems.drop lo).take len).getD i []=b.elems.getD (lo+i) []:=fun i hi=>by
  simp only [Y0b,Y1l,Y1B,Y6 hi]
 by_cases hlo:lo<loc'.cap
 . have hc0 : loc'.cap ≠ 0 := by omega
   obtain⟨ad,hbase,hs,cells,ct,hg,hroom,hrep⟩:=h2.room hc0;have hhas:loc'.has ad.block:=⟨hc0,ad,hbase,rfl⟩
   have s2:=s1.frz hg (h3 _ hhas).2 (s.del_no hb h1 hhas) (h3 _ hhas).1;have hx:=Z29 (h3 _ hhas).2 cells;refine hput s2 ?_;have hbv:base=some ⟨ad.block,ad.off+lo*loc'.esz,none⟩:=by
    rw [hbs hlo,hbase];show some (ad.add _)=_;rw [ZZ _ _ hs]
   rw [hv,hbv]
   conv=>lhs; rw [<- hll]
   have hlt2:∀ i j,i<b.elems.length->j<loc'.esz->ad.off+(i*loc'.esz+j)<cells.size:=fun i j hi hj=>by
    have:=Z2r (n:=loc'.cap) (i:=i) (j:=j) (esz:=loc'.esz) (by have:=h2.cap; have:=h2.len;omega) hj;omega
   have hmul:∀ i j,ad.off+lo*loc'.esz+(i*loc'.esz+j)=ad.off+((lo+i)*loc'.esz+j):=fun i j=>by rw [Y1t]; omega
   refine .vec ⟨ad.block,ad.off+lo*loc'.esz,none⟩ (loc'.cap-lo) loc'.esz ((b.elems.drop lo).take len) false (fun i j=>cells.getD (ad.off+((lo+i)*loc'.esz+j)) undef) (fun _=>rfl) (by rw [hll];omega) (by simp) (by rw [hll]; have:=h2.max; have:=h2.len;omega) (fun i hi=>?_) (fun i j hi hj=>?_) (fun i j hi hj=>?_)
   . rw [hll] at hi;rw [hget i hi];exact h2.el _ (by rw [Y0b,Y0c (by omega)]; exact Y0j _)
   . rw [hll] at hi;show XS _ _ _ ⟨ad.block,ad.off+lo*loc'.esz+(i*loc'.esz+j),none⟩=_;rw [hmul];exact Z28 F _ _ (hlt2 (lo+i) j (by omega) hj) (hrep (lo+i) j (by rw [<- h2.len];omega) hj).1
   . rw [hll] at hi;rw [hget i hi];exact (hrep (lo+i) j (by rw [<- h2.len];omega) hj).2.mono hx fun _ _ h=>h
 . have hl0 : len = 0 := by omega
   subst hl0;refine hput s1 ?_;rw [hv,Y1r,show loc'.cap-lo=0 by omega];cases base with
   | none=>exact .vecnil false
   | some x=>exact .vec (F:=F) (φ:=φ) x 0 0 [] false (fun _ _=>undef) (fun h=>absurd rfl h) (Y0m _) (by simp) (by simp) (by simp) (by simp) (by simp)
theorem Zar {k id lo len:Nat} {b:Bx} (hk:e k=some (.view id lo len)) (hb:h id=some b) (hin:lo+len<=b.elems.length) (hp:X1 b.elems):X4m n e h n (e.upd k (.vec ((b.elems.drop lo).take len) false)) (h.del id):=fun _=>Zc7 hk hb hin hp
end
section
variable {P:Program} {C:Ctx} {e:Env} {h:X2} {n:Nat}
theorem Z2h {ob id i0 j0:Nat} {bo b:Bx} (hob:h ob=some bo) (hb:h id=some b) (hne:ob≠id) (hp:X1 b.elems) (hi0:i0<bo.elems.length) (hj0:j0<(bo.elems.getD i0 []).length) (hcell:(bo.elems.getD i0 []).getD j0 pvu=.own id) (hz:0<bo.esz:=by exact Y0 rfl) :
 Sub C n e h n e ((h.del id).upd ob ⟨bo.esz,bo.elems.set i0 ((bo.elems.getD i0 []).set j0 (.vec b.elems false))⟩):=by
 rintro a w ⟨F,φ,s⟩;obtain⟨v,hv,fin⟩:=s.cell (q:=.vec b.elems false) hob hi0 hj0 hz;rw [hcell] at hv;obtain⟨F',hx,s2,hr2⟩:=s.frzObj hb;exact⟨F',φ,fin hx (fun _ _ h=>h) (by rw [X2.del_ne _ hne]; exact hob) s2 (hr2 v hv)⟩
theorem Zx {ob id i0 j0:Nat} {bo b:Bx} (hob:h ob=some bo) (hb:h id=some b) (hne:ob≠id) (hp:X1 b.elems) (hi0:i0<bo.elems.length) (hj0:j0<(bo.elems.getD i0 []).length) (hcell:(bo.elems.getD i0 []).getD j0 pvu=.own id) (hz:0<bo.esz:=by exact Y0 rfl) :
 X4m n e h n e ((h.del id).upd ob ⟨bo.esz,bo.elems.set i0 ((bo.elems.getD i0 []).set j0 (.vec b.elems false))⟩):=fun _=>Z2h hob hb hne hp hi0 hj0 hcell hz
end
end
section
open Go.RowKit
attribute [local irreducible] aw Xr dK
theorem Zas {α:Type} {p:α->Bool}:∀ {xs:List α},(∃ x∈xs,p x=true)->∃ (i:Nat) (hi:i<xs.length),X2L p xs=(i:Int)/\p xs[i]=true
 | [],h=>by obtain⟨_,h,_⟩:=h; cases h
 | x :: xs, h => by
   by_cases hx:p x=true
   . exact⟨0,Y1u _,by simp [X2L,hx],hx⟩
   . obtain ⟨y, hy, hp⟩ := h;obtain⟨i,hi,h1,h2⟩:=Zas (p:=p) (xs:=xs) ⟨y,(YD.1 hy).resolve_left fun e=>hx (e▸hp),hp⟩;refine⟨i+1,by rw [Y04]; omega,?_,h2⟩;have hn:¬ ((i:Int)<0):=by omega
     simp [X2L,hx,h1,hn]
theorem ZeT (xs:List Int) (v:Int) (fl:Bool):X7 Tryz.prog 144 [.vec (XJ xs) fl,.val (.int .i64 v)] (· = .val (.int .i64 (X2L (fun x=>v == x) xs))):=by
 have hnl:=ZbV xs;refine Yp ok144 fun C hC=>?_;refine Z40 (k:=0) rfl fun hmax=>?_;have hlm:xs.length<=Xj:=by rw [<- hnl]; exact hmax
 refine go ?_;refine Z4A (fun i=>i<=xs.length/\(xs.take i).any (fun x=>v == x)=false) (fun i=>xs.length-i) (fun i => [(0,.vec (XJ xs) fl),(1,.val (.int .i64 v)),(7,.val (.int .i64 (xs.length:Int))),(8,Yv i)]) 0 ⟨Y0l _,rfl⟩ ⟨rfl,rfl,by rw [<- hnl]; rfl,rfl,Yt⟩ ?_;rintro i ⟨hi,hno⟩;have hinc:IntKind.i64.wrap ((i:Int)+1)=((i+1:Nat):Int):=Y0v _ ⟨by omega,by simp only [Xj] at hlm; omega⟩
 iterate 2 (first|refine st ?_|(apply B<;>intro hb<;>try cases hb))
 refine Zt rfl rfl rfl (fun hb=>?_) (fun hb=>?_)
 . have hil : i < xs.length := by have := Y0u hb; omega
   clear hb;refine go ?_;refine Qo (Zl (xs:=xs) (g:=fun x => [.val (.int .i64 x)]) rfl rfl i rfl hil rfl) ?_
   iterate 1 (first|refine st ?_|(apply B<;>intro hb<;>try cases hb))
   refine Zt rfl rfl rfl (fun hx=>?_) (fun hx=>?_)
   . refine go ?_;exact Z8 rfl Yt (by rw [Z64 hil hno hx])
   . refine go ?_;exact⟨i+1,⟨by omega,Z4I hil hno hx⟩,by omega,rfl,rfl,⟨rfl,rfl,rfl,by show some _=some _; rw [hinc],Yt⟩⟩
 . have hil : i = xs.length := by have := YC hb; omega
   subst hil;rw [Y0q] at hno;refine go ?_;exact Z8 rfl Yt (by rw [Z2O hno]; rfl)
theorem ZiI (f:Nat->Int):tab (X2B f)=XJ ((List.range 64).map f):=by rw [tab,XJ,Y2o]; rfl
theorem Z9m {f:Nat->Int} {i:Nat} (v:Int) (hi:i<64):(tab (X2B f)).set i (Xl ((tab (X2B f)).getD i []) 0 [.val (.int .i64 v)])=tab (X2B fun j=>if j=i then v else f j):=by
 rw [Z3a hi,show Xl (X2B f i) 0 [.val (.int .i64 v)] = [.val (.int .i64 v)] from rfl,Zgw _ hi];refine Z48 fun j _=>?_;show (if j=i then [PV.val (.int .i64 v)] else X2B f j) = [PV.val (.int .i64 (if j=i then v else f j))];by_cases hj:j=i
 . rw [Y6 hj,Y6 hj]
 . rw [Y8 hj,Y8 hj]; rfl
theorem Z7l {f g:Nat->Int} (h:∀ j,j<64->f j=g j):tab (X2B f)=tab (X2B g):=Z48 fun j hj=>by show [PV.val (.int .i64 (f j))] = [PV.val (.int .i64 (g j))]; rw [h j hj]
def X3p (l:List Pr) (fp:Bool) (a b s:PV):Bx:=⟨5,[[.val (.int .i64 64),.vec (l.map prC) fp,a,b,s]]⟩
theorem Zk (l:List Pr):X1 (l.map prC):=Zb Z4F l
theorem ZeU (l:List Pr) (fp:Bool) (hl:XN l) (hacy:Acy l) (hlen:l.length<=1000000) :
 X2l Tryz.prog 99 (X3p l fp (.vec [] true) (.vec [] true) (.vec [] true)) [] fun r b'=>r=.val (.bool true)/\∃ S,X3o l S/\S.length=64/\b'=X3p l fp (.vec [] true) (.vec [] true) (.vec (XJ (Xe S)) false):=by
 have hpl:∀ D,Xt D (l.map prC):=fun D=>Zd (fun _ h=>h.elim) _ (Zk l);have hnl:(l.map prC).length=l.length:=by simp
 have hti:∀ (f:Nat->Int) D,Xt D (tab (X2B f)):=fun f D=>Zd (fun _ h=>h.elim) _ (Z1G (Z5t f));refine Z1R ok99 (Y0 rfl) fun C hC=>?_
 iterate 2 (first|refine st ?_|(apply B<;>intro hb<;>try cases hb))
 refine Za (ZO (id:=0) (i0:=0) (j0:=4) rfl (Y0 rfl) (Y0 rfl) rfl 1 (by decide) (by decide)) ?_;refine go ?_;refine Zz hC (fun i=>i<=l.length) (fun i=>l.length-i) 3 (fun i => [(0,.ptr 0 0 0),(3,.own 2),(17,.vec (l.map prC) fp),(18,.val (.int .i64 l.length)),(19,Yv i)])
  (fun i => [(0,X3p l fp (.vec [] true) (.vec [] true) (.own 1)),(1,⟨1,[]⟩),(2,⟨1,tab (X2B fun j=>(X3t (l.take i) j:Nat))⟩)]) (by omega) 0 (Y0l _)
  ⟨⟨rfl,show (0:Nat)<3 by decide⟩,⟨rfl,show (2:Nat)<3 by decide⟩,⟨rfl,hpl _⟩,⟨by rw [<- hnl]; rfl,Yt⟩,⟨rfl,Yt⟩,Yt⟩
  ⟨⟨by decide,rfl,⟨⟨Yt,hpl _,Yt,Yt,show (1:Nat)<3 by decide,Yt⟩,Yt⟩⟩,⟨by decide,rfl,Yt⟩,⟨by decide,by show some (Bx.mk 1 (List.replicate 64 (zpv [Value.int .i64 0])))=_; rw [ZkA]; rfl,hti _ _⟩,Yt⟩ ?_
 intro i hi;have hinc:IntKind.i64.wrap ((i:Int)+1)=((i+1:Nat):Int):=Y0v _ ⟨by omega,by omega⟩
 iterate 2 (first|refine st ?_|(apply B<;>intro hb<;>try cases hb))
 refine Zt rfl rfl rfl (fun hb=>?_) (fun hb=>?_)
 . have hil : i < l.length := by have := Y0u hb; omega
   have hp:=hl _ (Y0j hil);have hst:=fun j=>Zgv hil j;have hcl:=Zkz (l.take i) l[i].2;rw [Y0o] at hcl;clear hb;refine go ?_;refine Qo (Zl (xs:=l) (g:=prC) rfl rfl i rfl hil rfl) ?_;generalize l[i]=p at hp hst hcl ⊢;refine go ?_;refine Qo (ZF rfl rfl rfl p.2 rfl (by rw [Z15]; exact hp.2) rfl) ?_;refine Qo (Z1v (i:=p.2) rfl rfl (by rw [Z15]; exact hp.2) (by rw [Z3a hp.2]; rfl)) ?_;refine go ?_;refine Qo (ZF rfl rfl rfl p.2 rfl (by rw [Z15]; exact hp.2) rfl) ?_;refine Qo (Z1Q (i:=p.2) rfl rfl rfl rfl rfl (by rw [Z15]; exact hp.2) (Y0m _)) ?_;refine go ?_;have hadd:IntKind.i64.wrap (((X3t (l.take i) p.2:Nat):Int)+1)=((X3t (l.take i) p.2+1:Nat):Int):=Y0v _ ⟨by omega,by omega⟩
   refine⟨i+1,by omega,by omega,⟨⟨rfl,show (0:Nat)<3 by decide⟩,⟨rfl,show (2:Nat)<3 by decide⟩,⟨rfl,hpl _⟩,⟨rfl,Yt⟩,⟨by show some _=some _; rw [hinc],Yt⟩,Yt⟩,
    ⟨⟨by decide,rfl,⟨⟨Yt,hpl _,Yt,Yt,show (1:Nat)<3 by decide,Yt⟩,Yt⟩⟩,⟨by decide,rfl,Yt⟩,⟨by decide,?_,hti _ _⟩,Yt⟩⟩
   show some (Bx.mk 1 ((tab (X2B fun j=>(X3t (l.take i) j:Nat))).set p.2 (Xl ((tab (X2B fun j=>(X3t (l.take i) j:Nat))).getD p.2 []) 0 [.val (.int .i64 (IntKind.i64.wrap (((X3t (l.take i) p.2:Nat):Int)+1)))])))=some _;rw [Z9m _ hp.2,hadd];refine congrArg (fun t=>some (Bx.mk 1 t)) (Z7l fun j _=>?_);show (if j=p.2 then ((X3t (l.take i) p.2+1:Nat):Int) else ((X3t (l.take i) j:Nat):Int))=((X3t (l.take (i+1)) j:Nat):Int)
   rw [hst j];by_cases hj:j=p.2
   . rw [Y6 hj,Y6 hj,hj]
   . rw [Y8 hj,Y8 hj]
 . have hil : i = l.length := by have := YC hb; omega
   subst hil;rw [Y0q];clear hb;refine go ?_;refine Zv hC (fun S:List Nat=>X3o l S) (fun S=>64-S.length) 3 (fun S => [(0,.ptr 0 0 0),(3,.own 2)])
    (fun S => [(0,X3p l fp (.vec [] true) (.vec [] true) (.own 1)),(1,⟨1,XJ (Xe S)⟩),(2,⟨1,tab (X2B (X1F l S))⟩)]) (by decide) [] (X3o.nil l) (fun i=>i) (fun _ _=>rfl) Zf
    ⟨Qt 0 0 0,Qw 2,Yt⟩
    ⟨⟨by decide, _, rfl, Xw.single ⟨.pure _ Yt, .pure _ (Zk l), .pure _ Yt, .pure _ Yt, .own (ρ := fun i => i) 1 (by decide), Yt⟩ rfl⟩, Qs Yt,
      ⟨by decide,_,rfl,by rw [show X1F l []=fun j=>((X3t l j:Nat):Int) from funext (ZiG l)]; exact .same _ (Z1G (Z5t _))⟩,Yt⟩ ?_
   intro S hT;have hSl:=hT.len;have hSn:(XJ (Xe S)).length=S.length:=by simp [XJ,Xe]
   have hap:∀ (l:List Nat) D,Xt D (XJ (Xe l)):=fun l D=>Z5p _ D;refine gd 40 ⟨?_⟩;refine Z9c rfl rfl rfl (fun hb=>?_) (fun hb=>?_)
   . have hlt : S.length < 64 := by
      have h2:=Y0u hb;rw [hSn] at h2;omega
     clear hb;refine go ?_;obtain⟨j0,hj0,hjn,hjp⟩:=X8J hl hacy hT hlt;obtain⟨k,hk,hidx,hpk⟩:=Zas (p:=fun x=>(0:Int) == x) (xs:=(List.range 64).map (X1F l S)) ⟨X1F l S j0,Y0i.2 ⟨j0,Y1x.2 hj0,rfl⟩,by rw [Z8s.2 ⟨hjn,hjp⟩]; rfl⟩;have hk64:k<64:=by simpa using hk
     have hz:X1F l S k=0:=by
      have:=eq_of_beq hpk;rw [Y3L,Y2d] at this;exact this.symm
     obtain⟨hkS,hkp⟩:=Z8s.1 hz;refine ZkD (i:=0) (k:=2) (ZeT ((List.range 64).map (X1F l S)) 0 false) rfl rfl rfl rfl (by show [PV.vec (tab (X2B (X1F l S))) false,PV.val (.int .i64 0)]=_; rw [ZiI]) (Z1G (Z5t _)) ⟨ZJ _,Yt,Yt⟩ ?_;rw [hidx];have hT':=hT.snoc hkS hk64 hkp;refine go ?_
     . refine Qo (ZF rfl rfl rfl k rfl (by rw [Z15]; exact hk64) rfl) ?_;refine Qo (Z1Q (i:=k) rfl rfl rfl rfl rfl (by rw [Z15]; exact hk64) (Y0m _)) ?_;have e0:(tab (X2B (X1F l S))).set k (Xl ((tab (X2B (X1F l S))).getD k []) 0 [.val (.int .i64 (-1))])=tab (X2B (X1m l S k 0)):=by
        rw [Z9m _ hk64];exact Z7l fun j _=>(ZeM l S k j).symm
       refine go ?_
       refine ZH (Zu (k:=1) (m := [[.val (.int .i64 (k:Int))]]) (fl:=true) (b:=⟨1,XJ (Xe S)⟩) rfl rfl rfl (fun r hr=>by rw [Y0g] at hr; subst hr; rfl) rfl (by
        show ((XJ (Xe S)).length+1)*8<=_
        rw [hSn];omega)) rfl rfl ?_
       refine go ?_;have hSk:XJ (Xe S) ++ [[PV.val (.int .i64 (k:Int))]]=XJ (Xe (S ++ [k])):=by simp [XJ,Xe]
       refine Zz hC (fun i=>i<=l.length) (fun i=>l.length-i) 14 (fun i => [(0,.ptr 0 0 0),(3,.own 2),(6,.val (.int .i64 (k:Int))),(61,.vec (l.map prC) fp),(62,.val (.int .i64 l.length)),(63,Yv i)])
        (fun i => [(0,X3p l fp (.vec [] true) (.vec [] true) (.own 13)),(13,⟨1,XJ (Xe (S ++ [k]))⟩),(2,⟨1,tab (X2B (X1m l S k i))⟩)]) (by decide) 0 (Y0l _)
        ⟨⟨rfl,show (0:Nat)<14 by decide⟩,⟨rfl,show (2:Nat)<14 by decide⟩,⟨rfl,Yt⟩,⟨rfl,hpl _⟩,⟨by rw [<- hnl]; rfl,Yt⟩,⟨rfl,Yt⟩,Yt⟩
        ⟨⟨by decide,rfl,⟨⟨Yt,hpl _,Yt,Yt,show (13:Nat)<14 by decide,Yt⟩,Yt⟩⟩,⟨by decide,by rw [<- hSk]; rfl,hap _ _⟩,⟨by decide,by rw [<- e0]; rfl,hti _ _⟩,Yt⟩ ?_
       intro i hi;have hinc:IntKind.i64.wrap ((i:Int)+1)=((i+1:Nat):Int):=Y0v _ ⟨by omega,by omega⟩
       iterate 2 (first|refine st ?_|(apply B<;>intro hb<;>try cases hb))
       refine Zt rfl rfl rfl (fun hb=>?_) (fun hb=>?_)
       . have hil : i < l.length := by have := Y0u hb; omega
         have hp:=hl _ (Y0j hil);have hst:=fun j=>ZeN hil j hT hkS hkp;clear hb;refine go ?_;refine Qo (Zl (xs:=l) (g:=prC) rfl rfl i rfl hil rfl) ?_;generalize l[i]=p at hp hst ⊢;have hbl:=ZiF l S k i p.2;(refine go ?_;repeat' (apply B<;>intro hb<;>try cases hb))
         . have hpk1 : p.1 = k := by have := eq_of_beq hb; exact Y2t.1 this
           clear hb;refine Qo (ZF rfl rfl rfl p.2 rfl (by rw [Z15]; exact hp.2) rfl) ?_;refine Qo (Z1v (i:=p.2) rfl rfl (by rw [Z15]; exact hp.2) (by rw [Z3a hp.2]; rfl)) ?_;refine go ?_;refine Qo (ZF rfl rfl rfl p.2 rfl (by rw [Z15]; exact hp.2) rfl) ?_;refine Qo (Z1Q (i:=p.2) rfl rfl rfl rfl rfl (by rw [Z15]; exact hp.2) (Y0m _)) ?_;(refine go ?_;repeat' (apply B<;>intro hb<;>try cases hb));have hsub:IntKind.i64.wrap (X1m l S k i p.2-1)=X1m l S k i p.2-1:=Y0v _ ⟨by omega,by omega⟩
           refine⟨i+1,by omega,by omega,⟨⟨rfl,show (0:Nat)<14 by decide⟩,⟨rfl,show (2:Nat)<14 by decide⟩,⟨rfl,Yt⟩,⟨rfl,hpl _⟩,⟨rfl,Yt⟩,⟨by show some _=some _; rw [hinc],Yt⟩,Yt⟩,
            ⟨⟨by decide,rfl,⟨⟨Yt,hpl _,Yt,Yt,show (13:Nat)<14 by decide,Yt⟩,Yt⟩⟩,⟨by decide,rfl,hap _ _⟩,⟨by decide,?_,hti _ _⟩,Yt⟩⟩
           show some (Bx.mk 1 ((tab (X2B (X1m l S k i))).set p.2 (Xl ((tab (X2B (X1m l S k i))).getD p.2 []) 0 [.val (.int .i64 (IntKind.i64.wrap (X1m l S k i p.2-1)))])))=some _;rw [Z9m _ hp.2,hsub];refine congrArg (fun t=>some (Bx.mk 1 t)) (Z7l fun j _=>?_);show (if j=p.2 then X1m l S k i p.2-1 else X1m l S k i j)=X1m l S k (i+1) j;rw [hst j];by_cases hj:j=p.2
           . rw [Y6 hj,Y6 ⟨hpk1,hj⟩,hj]
           . rw [Y8 hj,Y8 fun h=>hj h.2]
         . have hpk1 : ¬ p.1 = k := fun h => by rw [h] at hb; simp at hb
           clear hb
           refine⟨i+1,by omega,by omega,⟨⟨rfl,show (0:Nat)<14 by decide⟩,⟨rfl,show (2:Nat)<14 by decide⟩,⟨rfl,Yt⟩,⟨rfl,hpl _⟩,⟨rfl,Yt⟩,⟨by show some _=some _; rw [hinc],Yt⟩,Yt⟩,
            ⟨⟨by decide,rfl,⟨⟨Yt,hpl _,Yt,Yt,show (13:Nat)<14 by decide,Yt⟩,Yt⟩⟩,⟨by decide,rfl,hap _ _⟩,⟨by decide,?_,hti _ _⟩,Yt⟩⟩
           show some (Bx.mk 1 (tab (X2B (X1m l S k i))))=some _;refine congrArg (fun t=>some (Bx.mk 1 t)) (Z7l fun j _=>?_);rw [hst j,Y8 fun h=>hpk1 h.1]
       . have hil : i = l.length := by have := YC hb; omega
         subst hil;clear hb;refine go ?_
         refine⟨S ++ [k],mv 1 13,hT',by rw [Y0e,Y0s]; omega,Z3n (Y0m 1),Zq rfl,
          ⟨Qt 0 0 0,Qw 2,Yt⟩,
          ⟨⟨by decide,_,rfl,Xw.single ⟨.pure _ Yt,.pure _ (Zk l),.pure _ Yt,.pure _ Yt,.own (ρ:=mv 1 13) 1 (by decide),Yt⟩ rfl⟩,Qs (ZJ _),
          ⟨by decide,_,rfl,?_⟩,Yt⟩⟩
         rw [show tab (X2B (X1m l S k l.length))=tab (X2B (X1F l (S ++ [k]))) from Z7l fun j _=>Zgu l S k j];exact .same _ (Z1G (Z5t _))
   . have h64 : S.length = 64 := by
      have h2:=YC hb;rw [hSn] at h2;omega
     clear hb;refine gd 2 ⟨?_⟩;refine Za (Zx (ob:=0) (id:=1) (i0:=0) (j0:=4) rfl rfl (by decide) (ZJ _) (Y0 rfl) (Y0 rfl) rfl) ?_;refine go ?_;exact⟨_,_,rfl,.inl rfl,_,rfl,Yt,⟨⟨Yt,Zk l,Yt,Yt,ZJ _,Yt⟩,Yt⟩,rfl,S,hT,h64,rfl⟩
end
section
open Go.RowKit
section
variable {P:Program} {C:Ctx} {e:Env} {h:X2}
theorem ZiK (k k':Nat):mv k k' k=k':=by
 unfold mv;rw [show Nat.beq k k=true from Y4l k]; rfl
theorem Z6A {k k' i:Nat} (hi:i≠k):mv k k' i=i:=by
 have e1:Nat.beq i k=false:=Yy.2 fun hb=>hi (YH hb);unfold mv;rw [e1]; rfl
theorem Zc8 {h0:X2} {D n0:Nat} (hD:D<n0) {g:Nat->Bx} {j0 new n':Nat} (hj:j0<64) (hnew:n0+64<=new) {r:Bx} (hr:X1 r.elems) (hg:∀ j,X1 (g j).elems) {e':Env} (he:∀ k p,e' k=some p->∃ p0,e k=some p0/\X1J (mv (n0+j0) new) (fun i=>i<n0+64) p0 p)
 (hb:∀ k b,h0 k=some b->k≠D->k<n0/\Xw (mv (n0+j0) new) (fun i=>i<n0+64) b b) {m:Nat} (hdom:C.dom m) (hm:m<=n0) :
 Sub C n' e ((((X1T h0 D n0 (fun j=>.own (n0+j)) 64 g).del (n0+j0)).upd new r).upd D ⟨1,((List.range 64).map fun j => [PV.own (n0+j)]).set j0 [.own new]⟩) (n0+64) e' (X1T h0 D n0 (fun j=>.own (n0+j)) 64 fun j=>if j=j0 then r else g j):=by
 have hcase:∀ k b,X1T h0 D n0 (fun j=>.own (n0+j)) 64 (fun j=>if j=j0 then r else g j) k=some b->k<n0+64:=fun k b hk=>by
  rcases Z8u hD hk with⟨rfl,_⟩|⟨j,hj,rfl,_⟩|⟨h1,h2,h3⟩
  . omega
  . omega
  . have:=(hb k b h3 h1).1; omega
 refine ZiJ (mv (n0+j0) new) he (fun k b hk=>⟨hcase k b hk,?_⟩) (fun k k' b b' hk hk' hh=>?_) hdom (by omega) (fun i hi=>Z6A (by omega))
 . rcases Z8u hD hk with ⟨rfl, rfl⟩ | ⟨j, hj2, rfl, rfl⟩ | ⟨h1, h2, h3⟩
   . rw [Z6A (by omega), X2.upd_same];refine⟨_,rfl,.gen _ _ Y1M rfl (by simp) (fun i hi=>?_) fun i q hi hq=>?_⟩
     . have hi' : i < 64 := by simpa using hi
       rw [Z5x _ hj,Z1o hi',Z1o hi']
       split<;>rfl
     . have hi' : i < 64 := by simpa using hi
       have hq0:q=0:=Nat.lt_one_iff.1 hq;subst hq0;rw [Z5x _ hj,Z1o hi',Z1o hi'];by_cases hij:i=j0
       . subst hij;rw [Y6 rfl];show X1J _ _ (.own new) (.own (n0+i));have:=X1J.own (ρ:=mv (n0+i) new) (D:=fun x=>x<n0+64) (n0+i) (by omega);rw [ZiK] at this;exact this
       . rw [Y8 hij];show X1J _ _ (.own (n0+i)) (.own (n0+i));have:=X1J.own (ρ:=mv (n0+j0) new) (D:=fun x=>x<n0+64) (n0+i) (by omega);rw [Z6A (by omega)] at this;exact this
   . by_cases hjj : j = j0
     . subst hjj;rw [ZiK,X2.upd_ne _ _ (by omega),X2.upd_same,Y6 rfl];exact⟨r,rfl,.same r hr⟩
     . rw [Z6A (by omega), X2.upd_ne _ _ (by omega), X2.upd_ne _ _ (by omega), X2.del_ne _ (by omega), Z2z _ hD _ _ hj2, Y8 hjj];exact⟨g j,rfl,.same _ (hg j)⟩
   . have h4 := hb k b h3 h1;rw [Z6A (by omega),X2.upd_ne _ _ h1,X2.upd_ne _ _ (by omega),X2.del_ne _ (by omega),Z2A _ _ _ h1 h2];exact⟨b,h3,h4.2⟩
 . have l1 := hcase k b hk;have l2:=hcase k' b' hk';by_cases e1:k=n0+j0
   . by_cases e2 : k' = n0 + j0
     . rw [e1,e2]
     . rw [e1,ZiK,Z6A e2] at hh; omega
   . by_cases e2 : k' = n0 + j0
     . rw [e2,ZiK,Z6A e1] at hh; omega
     . rw [Z6A e1,Z6A e2] at hh; exact hh
def X2c (n0 i:Nat) (g:Nat->Bx) (j:Nat):PV:=if j<i then .vec (g j).elems false else .own (n0+j)
theorem ZiL {h0:X2} {D n0 i:Nat} (hD:D<n0) (h0n:∀ k,n0<=k->k<n0+64->h0 k=none) (g:Nat->Bx) (hi:i<64) :
 ((X1T h0 D (n0 + i) (X2c n0 i g) (64 - i) (fun q => g (i + q))).del (n0 + i)).upd D ⟨1, ((List.range 64).map fun j => [X2c n0 i g j]).set i ((((List.range 64).map fun j => [X2c n0 i g j]).getD i []).set 0 (.vec (g i).elems false))⟩
   = X1T h0 D (n0+(i+1)) (X2c n0 (i+1) g) (64-(i+1)) (fun q=>g (i+1+q)):=by
 funext k;rw [Z1o hi,Z5x _ hi];by_cases h2:k=D
 . subst h2;rw [X2.upd_same,Z31];refine congrArg (fun l=>some (Bx.mk 1 l)) (Y2s fun j hj=>?_);unfold X2c;by_cases hji:j=i
   . subst hji; rw [Y6 rfl,Y6 (Y2R _)]; rfl
   . rw [Y8 hji];by_cases hlt:j<i
     . rw [Y6 hlt,Y6 (by omega)]
     . rw [Y8 hlt,Y8 (by omega)]
 . rw [X2.upd_ne _ _ h2];by_cases h1:k=n0+i
   . subst h1;rw [X2.del_same,Z2A _ _ _ h2 (by omega),h0n _ (by omega) (by omega)]
   . rw [X2.del_ne _ h1];by_cases h3:n0+(i+1)<=k/\k<n0+64
     . obtain ⟨q, rfl⟩ : ∃ q, k = n0 + (i + 1) + q := ⟨k - (n0 + (i + 1)), by omega⟩;rw [Z2z _ (by omega) _ _ (by omega:q<64-(i+1)),show n0+(i+1)+q=n0+i+(q+1) by omega,Z2z _ (by omega) _ _ (by omega:q+1<64-i)];rw [show i+(q+1)=i+1+q by omega]
     . rw [Z2A _ _ _ h2 (by omega),Z2A _ _ _ h2 (by omega)]
theorem Z9n {h0:X2} {D n0 n k:Nat} (hD:D<n0) (h0n:∀ k,n0<=k->k<n0+64->h0 k=none) (hk:e k=some (.own D)) {g:Nat->Bx} (hg:∀ j,X1 (g j).elems) :
 Sub C n e (X1T h0 D n0 (fun j=>.own (n0+j)) 64 g) n (e.upd k (.vec ((List.range 64).map fun j => [.vec (g j).elems false]) false)) (h0.del D):=by
 have key:∀ i,i<=64->Sub C n e (X1T h0 D n0 (fun j=>.own (n0+j)) 64 g) n e (X1T h0 D (n0+i) (X2c n0 i g) (64-i) (fun q=>g (i+q))):=by
  intro i
  induction i with
  | zero =>
    intro _;have e1:X1T h0 D (n0+0) (X2c n0 0 g) (64-0) (fun q=>g (0+q))=X1T h0 D n0 (fun j=>.own (n0+j)) 64 g:=by
     have e2:(fun q=>g (0+q))=g:=funext fun q=>by rw [Y15]
     rw [e2]
     rfl
    rw [e1];exact Z9a
  | succ i ih =>
    intro hi;have hi':i<64:=by omega
    refine Z74 (ih (by omega)) ?_;rw [<- ZiL hD h0n g hi'];have hrow:=Z2z h0 (D:=D) (n:=n0+i) (by omega) (X2c n0 i g) (K:=64-i) (fun q=>g (i+q)) (j:=0) (by omega);refine Z2h (ob:=D) (id:=n0+i) (i0:=i) (j0:=0) (bo:=⟨1,(List.range 64).map fun j => [X2c n0 i g j]⟩) (b:=g i) (Z31 _ _ _ _ _ _) hrow (by omega) (hg i) (by simpa using hi') (by rw [Z1o hi']; exact Y1M) ?_;rw [Z1o hi'];show X2c n0 i g i=_;unfold X2c;rw [Y8 (Nat.lt_irrefl i)]
 have last:=key 64 (Y0m _);have htab:X1T h0 D (n0+64) (X2c n0 64 g) (64-64) (fun q=>g (64+q)) D=some ⟨1,(List.range 64).map fun j => [PV.vec (g j).elems false]⟩:=by
  rw [Z31];refine congrArg (fun l=>some (Bx.mk 1 l)) (Y2s fun j hj=>?_);unfold X2c;rw [Y6 (Y1x.1 hj)]
 have hpl:X1 ((List.range 64).map fun j => [PV.vec (g j).elems false]):=by
  refine (Z2j _ _).2 fun r hr=>?_;obtain⟨j,_,rfl⟩:=Y0i.1 hr;exact⟨hg j,Yt⟩
 have fz:=Z8i (C:=C) (n:=n) hk htab hpl;have e3:(X1T h0 D (n0+64) (X2c n0 64 g) (64-64) (fun q=>g (64+q))).del D=h0.del D:=by
  funext q;by_cases hq:q=D
  . subst hq; rw [X2.del_same,X2.del_same]
  . rw [X2.del_ne _ hq,X2.del_ne _ hq,Z2A _ _ _ hq (by omega)]
 rw [e3] at fz;exact Z74 last fz
end
end
section
open Go.RowKit
attribute [local irreducible] aw Xr dK
def X1n (l:List Pr) (j:Nat):List Nat:=(l.filter fun p=>p.2 == j).map (·.1)
theorem ZgC {l:List Pr} {i:Nat} (hi:i<l.length) (j:Nat):X1n (l.take (i+1)) j=if j=l[i].2 then X1n (l.take i) j ++ [l[i].1] else X1n (l.take i) j:=by
 have e:l.take (i+1)=l.take i ++ [l[i]]:=by rw [YW,Y0c hi]; rfl
 unfold X1n;rw [e,Y2B];by_cases h:j=l[i].2
 . rw [Y6 h,Y4O (by simp [h])]; simp
 . rw [Y8 h,Y4P (by simp [Y2L h])]; simp
theorem Z6N {l:List Pr} {a j:Nat}:a∈X1n l j↔(a,j)∈l:=by
 unfold X1n;rw [Y0i];constructor
 . rintro ⟨p, hp, rfl⟩;obtain⟨h1,h2⟩:=Y1f.1 hp;have:=eq_of_beq h2;rw [<- this]; exact h1
 . intro h;exact⟨(a,j),Y1f.2 ⟨h,by simp⟩,rfl⟩
theorem Zdy (l:List Pr) (j:Nat):(X1n l j).length<=l.length:=by
 unfold X1n;rw [Y0f];exact Y1L _ _
def X3V (l:List Pr) (j:Nat):Bx:=⟨1,XJ (Xe (X1n l j))⟩
theorem Zat (l:List Pr) (j:Nat):X1 (X3V l j).elems:=ZJ _
def X2o (f:Nat->Nat) (j:Nat):List PV := [.vec (X4 (Xb (f j))) false]
theorem Z20 (f:Nat->Nat) (j:Nat):X5 (X2o f j):=⟨Z7 _,Yt⟩
theorem ZkE {k m n it mask:Nat} {un:List Nat} (h1:k<n) (h2:m.testBit it=true):X1X ⟨none,[(k,m)],un,none⟩ n it mask k=true:=by
 have e1:Nat.blt k n=true:=Eq.mpr Y4K h1;simp [X1X,X7d,X6t,X3W,e1,h2]
theorem Zdz {k k' m n it mask:Nat} {un:List Nat} (h1:k<n) (h2:k≠k'):X1X ⟨none,[(k',m)],un,none⟩ n it mask k=true:=by
 have e1:Nat.blt k n=true:=Eq.mpr Y4K h1;have e2:Nat.beq k k'=false:=Yy.2 fun hb=>h2 (YH hb);simp only [X1X,X7d,X6t,X3W,e1,e2]
 rfl
theorem Zmx {k m n it iso:Nat} {un:List Nat} (h:m &&& un.getD it 0=0):okW ⟨none,[(k,m)],un,none⟩ n it iso k=true:=by
 have e1:Nat.beq k k=true:=Y4l k;have e2:X47 ⟨none,[(k,m)],un,none⟩ it k=true:=by
  unfold X47 X3W;rw [e1];show Nat.beq (m &&& un.getD it 0) 0=true;rw [h]; rfl
 unfold okW;rw [e2,Y39]
theorem ZiM {q m:Nat} (q':Nat) {un:List Nat} {l:List Xd}:X4Z ⟨none,[(q,m)],un,none⟩ l=X4Z ⟨none,[(q',m)],un,none⟩ l:=rfl
theorem X8r {z:Rsv} {zz:List Value} {b:Nat} {s x:Operand} {e:Env} {n it mask iso k:Nat} (hs:ev e s=some (.own k)) (h1:X1X z n it mask k=true) (h2:okW z n it iso k=true):X1j z (.append zz b s x) e n it mask iso=true:=by
 simp [X1j,hs,h1,h2]
theorem X88 {z:Rsv} {b:Nat} {s x:Operand} {e:Env} {n it mask iso k:Nat} (hs:ev e s=some (.own k)) (h1:X1X z n it mask k=true):X1j z (.iaddr b s x) e n it mask iso=true:=by
 simp [X1j,hs,X1P,h1]
theorem X8q {z:Rsv} {g:Bool} {b:Nat} {s:Operand} {e:Env} {n it mask iso k i off:Nat} (hs:ev e s=some (.ptr k i off)) (h1:X1X z n it mask k=true):X1j z (.load g b s) e n it mask iso=true:=by
 simp [X1j,hs,X1P,h1]
theorem X8d {z:Rsv} {b:Nat} {s v:Operand} {e:Env} {n it mask iso k i off:Nat} (hs:ev e s=some (.ptr k i off)) (h1:X1X z n it mask k=true) (h2:iso.testBit 0=true):X1j z (.store b s v) e n it mask iso=true:=by
 simp [X1j,hs,X1P,X5z,okW,h1,h2]
def X2E (l:List Pr) (fp:Bool) (S:List Nat):X2:=Xv [(0,X3p l fp (.own 7) (.own 12) (.vec (XJ (Xe S)) false)),(7,⟨1,List.replicate 64 [.vec [] true]⟩),(12,⟨1,List.replicate 64 [.vec [] true]⟩),(19,⟨1,List.replicate 64 [.vec [] true]⟩)]
noncomputable def aS (l:List Pr) (rs:List Nat):Nat:=rs.foldl (fun o a=>(o ||| abv l a) ||| 2 ^ a) 0
theorem ZkF (l:List Pr) (rs:List Nat) (a:Nat):aS l (rs ++ [a])=(aS l rs ||| abv l a) ||| 2 ^ a:=by simp [aS,Y1y]
theorem ZgD (l:List Pr) (b:Nat):∀ (rs:List Nat) (o:Nat),(rs.foldl (fun o a=>(o ||| abv l a) ||| 2 ^ a) o).testBit b=true↔o.testBit b=true \/ ∃ a∈rs,(abv l a).testBit b=true \/ b=a
 | [],o=>by simp
 | a :: rs, o => by
   rw [Y1b,ZgD l b rs,Y00,Y00,YR,YR,YI,Y2c];constructor
   . rintro (((h | h) | h) | ⟨x, hx, h⟩)
     . exact .inl h
     . exact .inr ⟨a,Y0t ..,.inl h⟩
     . exact .inr ⟨a,Y0t ..,.inr h.symm⟩
     . exact .inr ⟨x,YB _ hx,h⟩
   . rintro (h | ⟨x, hx, h⟩)
     . exact .inl (.inl (.inl h))
     . rcases YD.1 hx with rfl | hx
       . rcases h with h | h
         . exact .inl (.inl (.inr h))
         . exact .inl (.inr h.symm)
       . exact .inr ⟨x,hx,h⟩
theorem ZkG (l:List Pr):∀ (rs:List Nat) (o:Nat),(∀ a∈rs,a<64)->o<18446744073709551616->rs.foldl (fun o a=>(o ||| abv l a) ||| 2 ^ a) o<18446744073709551616
 | [],o,_,ho=>ho
 | a :: rs, o, h, ho => by
   rw [Y1b];exact ZkG l rs _ (fun x hx=>h x (YB _ hx)) (Z1S (Z1S ho (Z7f l a)) (ZP (h a (Y0t ..))))
theorem Zc9 {l:List Pr} (hl:XN l) {a j:Nat} (h:a∈X1n l j):a<64:=(hl _ (Z6N.1 h)).1
theorem ZlP {l:List Pr} (hl:XN l) (b:Nat):aS l (X1n l b)=abv l b:=by
 refine X6n (ZkG l _ 0 (fun a ha=>Zc9 hl ha) (by decide)) (Z7f l b) fun i hi=>?_;rw [YQ,Z7e hl,ZlO];unfold aS;rw [ZgD];constructor
 . rintro (h | ⟨a, ha, h⟩)
   . simp at h
   . exact⟨a,Z6N.1 ha,h.elim (fun h=>.inr ((Z7e hl i a).1 h)) .inl⟩
 . rintro ⟨c, hc, h⟩;exact .inr ⟨c,Z6N.2 hc,h.elim .inr fun h=>.inl ((Z7e hl i c).2 h)⟩
noncomputable def X38 (l:List Pr) (S:List Nat) (t j:Nat):Nat:=if j∈S.take t then abv l j else 0
open Classical in
noncomputable def X2A (l:List Pr) (S:List Nat) (t j:Nat):Nat:=ofP (fun b=>decide (b∈S.take t/\Up l j b)) 64
theorem Z56 (l:List Pr) (S:List Nat) (t j:Nat):X2A l S t j<18446744073709551616:=Zgr _
theorem Z5y (l:List Pr) (S:List Nat) (t j b:Nat):(X2A l S t j).testBit b=true↔b<64/\b∈S.take t/\Up l j b:=by
 unfold X2A;rw [Z9h];simp only [Y0k,Y0n]
theorem Z7m {S:List Nat} {t:Nat} (ht:t<S.length):S.take (t+1)=S.take t ++ [S[t]]:=by rw [YW,Y0c ht]; rfl
theorem ZgE {l:List Pr} {S:List Nat} {t:Nat} (ht:t<S.length) (j:Nat):X38 l S (t+1) j=if j=S[t] then abv l S[t] else X38 l S t j:=by
 unfold X38;rw [Z7m ht];by_cases h:j=S[t]
 . rw [Y6 (Y0h.2 (.inr (Y0g.2 h))),Y6 h,h]
 . rw [Y8 h];by_cases h2:j∈S.take t
   . rw [Y6 (Y2M _ h2),Y6 h2]
   . rw [Y8 (fun hh=>(Y0h.1 hh).elim h2 fun h3=>h (Y0g.1 h3)),Y8 h2]
theorem ZdA {S:List Nat} (hn:S.Nodup) {t:Nat} (ht:t<S.length):S[t] ∉ S.take t:=by
 intro h;obtain⟨i,hi,he⟩:=Y1d h;rw [Y0o] at hi;rw [List.getElem_take] at he;exact (Y2N.1 hn) i t (by omega) ht (by omega) he
theorem ZiN {l:List Pr} {S:List Nat} (hn:S.Nodup) {t:Nat} (ht:t<S.length):X38 l S t S[t]=0:=Y8 (ZdA hn ht)
theorem ZiO {l:List Pr} {S:List Nat} {t a:Nat} (h:a∈S.take t):X38 l S t a=abv l a:=Y6 h
theorem ZgF {l:List Pr} (hl:XN l) {S:List Nat} {t:Nat} (ht:t<S.length) (h64:S[t]<64) (j:Nat):X2A l S (t+1) j=if j∈mem (abv l S[t]) then X2A l S t j ||| 2 ^ S[t] else X2A l S t j:=by
 have hm:j∈mem (abv l S[t])↔Up l j S[t]:=by rw [ZY (Z7f l _),Z7e hl]
 refine X6n (Z56 ..) (by split; exact Z1S (Z56 ..) (ZP h64); exact Z56 ..) fun b hb=>?_;rw [YQ,Z5y,Z7m ht];by_cases h:Up l j S[t]
 . rw [Y6 (hm.2 h), Y00, YR, Z5y, YI, Y2c, Y0h, Y0g];constructor
   . rintro ⟨h1, h2 | h2, h3⟩
     . exact .inl ⟨h1,h2,h3⟩
     . exact .inr h2.symm
   . rintro (⟨h1, h2, h3⟩ | h2)
     . exact⟨h1,.inl h2,h3⟩
     . subst h2; exact⟨hb,.inr rfl,h⟩
 . rw [Y8 fun hh => h (hm.1 hh), Z5y, Y0h, Y0g];constructor
   . rintro ⟨h1, h2 | h2, h3⟩
     . exact⟨h1,h2,h3⟩
     . subst h2; exact absurd h3 h
   . rintro⟨h1,h2,h3⟩; exact⟨h1,.inl h2,h3⟩
theorem ZiP {l:List Pr} {S:List Nat} (hS:X3o l S) (h64:S.length=64) {j:Nat} (hj:j<64):X38 l S 64 j=abv l j:=by
 unfold X38;rw [<- h64,Y0q,Y6 (hS.all h64 hj)]
theorem ZiQ {l:List Pr} (hl:XN l) {S:List Nat} (hS:X3o l S) (h64:S.length=64) (j:Nat):X2A l S 64 j=bel l j:=by
 refine X6n (Z56 ..) (Zgt ..) fun b hb=>?_;rw [YQ,Z5y,Zgs hl,<- h64,Y0q];exact⟨fun h=>h.2.2,fun h=>⟨by omega,hS.all h64 hb,h⟩⟩
theorem Z4a {f g:Nat->Nat} (h:∀ j,j<64->f j=g j):tab (X2o f)=tab (X2o g):=Z48 fun j hj=>by show [PV.vec (X4 (Xb (f j))) false] = [PV.vec (X4 (Xb (g j))) false]; rw [h j hj]
theorem ZdB {f:Nat->Nat} {i v:Nat} (hi:i<64):(tab (X2o f)).set i (Xl ((tab (X2o f)).getD i []) 0 [.vec (X4 (Xb v)) false])=tab (X2o fun j=>if j=i then v else f j):=by
 rw [Z3a hi,show Xl (X2o f i) 0 [.vec (X4 (Xb v)) false] = [.vec (X4 (Xb v)) false] from rfl,Zgw _ hi];refine Z48 fun j _=>?_;show (if j=i then [PV.vec (X4 (Xb v)) false] else X2o f j) = [PV.vec (X4 (Xb (if j=i then v else f j))) false];by_cases hj:j=i
 . rw [Y6 hj,Y6 hj]
 . rw [Y8 hj,Y8 hj]; rfl
theorem ZgG (l:List Pr) (S:List Nat) (j:Nat):X2A l S 0 j=0:=by
 refine X6n (Z56 ..) (by decide) fun b hb=>?_;rw [YQ,Z5y];simp
theorem Zca (l:List Pr) (fp:Bool) (hl:XN l) (hlen:l.length<=1000000) (S:List Nat) (hS:X3o l S) (h64:S.length=64) :
 X2l Tryz.prog 100 (X3p l fp (.vec [] true) (.vec [] true) (.vec (XJ (Xe S)) false)) [] fun r b'=>r=.tup []/\b'=X3p l fp (.vec (tab (X2o (abv l))) false) (.vec (tab (X2o (bel l))) false) (.vec (XJ (Xe S)) false):=by
 have hpl:∀ D,Xt D (l.map prC):=fun D=>Zd (fun _ h=>h.elim) _ (Zk l);have hnl:(l.map prC).length=l.length:=by simp
 have hti:∀ (f:Nat->Nat) D,Xt D (tab (X2o f)):=fun f D=>Zd (fun _ h=>h.elim) _ (Z1G (Z20 f));have hap:∀ (l:List Nat) D,Xt D (XJ (Xe l)):=fun l D=>Z5p _ D;have hSn:(XJ (Xe S)).length=S.length:=by simp [XJ,Xe]
 refine Z1R ok100 (Y0 rfl) fun C hC=>?_;refine Zm ?_;refine Z9 ?_;refine Z5 rfl rfl rfl ?_;refine Z1M ?_;refine Zm ?_;refine Z3v [] [(0,148512)] [262143,262143,262143,262143,262143,262143,262143,262143,262143,262143,262143,262143,262143,262143,2050,262143,262143,0] (by kernel_rfl) ?_;refine go ?_;refine Z76 hC (n':=20) [(1,.cp [.ptr 0 0 0]),(2,.own 19),(34,.vec (l.map prC) fp),(35,.val (.int .i64 l.length)),(36,.val (.int .i64 ((0:Nat):Int)))]
  [(0,X3p l fp (.own 7) (.own 12) (.vec (XJ (Xe S)) false)),(7,⟨1,List.replicate 64 [.vec [] true]⟩),(12,⟨1,List.replicate 64 [.vec [] true]⟩),(19,⟨1,List.replicate 64 [.vec [] true]⟩)] (by decide)
  ⟨⟨rfl,show (0:Nat)<20 by decide,Yt⟩,⟨rfl,show (19:Nat)<20 by decide⟩,⟨rfl,hpl _⟩,⟨by rw [<- hnl]; rfl,Yt⟩,⟨rfl,Yt⟩,Yt⟩ ?_ ?_
 . exact⟨⟨by decide,rfl,⟨⟨Yt,hpl _,show (7:Nat)<20 by decide,show (12:Nat)<20 by decide,hap _ _,Yt⟩,Yt⟩⟩,⟨by decide,rfl,ZV rfl |> Zd (fun _ h=>h.elim) _⟩,⟨by decide,rfl,ZV rfl |> Zd (fun _ h=>h.elim) _⟩,⟨by decide,rfl,ZV rfl |> Zd (fun _ h=>h.elim) _⟩,Yt⟩
 refine Z1U (ZeV (n:=20) (D:=19) (by decide) rfl 1 (by decide)) ?_;show aw _ C _ _ 84 _ (X1T (X2E l fp S) 19 20 (fun j=>.own (20+j)) 64 (X3V (l.take 0)));have hbs:∀ k b,X2E l fp S k=some b->k≠19->(k=0/\b=X3p l fp (.own 7) (.own 12) (.vec (XJ (Xe S)) false)) \/ ((k=7 \/ k=12)/\b=⟨1,List.replicate 64 [.vec [] true]⟩):=by
  intro k b hk h19;have:=Z1r hk;simp only [YD,Y3D,Y2T,Y4v] at this;rcases this with h|h|h|h
  . exact .inl h
  . exact .inr ⟨.inl h.1,h.2⟩
  . exact .inr ⟨.inr h.1,h.2⟩
  . exact absurd h.1 h19
 have hren:∀ k0 k',20<=k0->∀ k b,X2E l fp S k=some b->k≠19->k<20/\Xw (mv k0 k') (fun i=>i<20+64) b b:=by
  intro k0 k' hk0 k b hk h19;have o7:=X1J.own (ρ:=mv k0 k') (D:=fun i=>i<20+64) 7 (by omega);have o12:=X1J.own (ρ:=mv k0 k') (D:=fun i=>i<20+64) 12 (by omega);rw [Z6A (by omega)] at o7 o12;rcases hbs k b hk h19 with⟨rfl,rfl⟩|⟨h,rfl⟩
  . exact⟨by omega,Xw.single ⟨.pure _ Yt,.pure _ (Zk l),o7,o12,.pure _ (ZJ _),Yt⟩ rfl⟩
  . exact⟨by omega,.same _ (ZV rfl)⟩
 refine Z98 (fun i=>i<=l.length) (fun i=>l.length-i) (fun _=>84) (fun i=>X1D [(1,.cp [.ptr 0 0 0]),(2,.own 19),(34,.vec (l.map prC) fp),(35,.val (.int .i64 l.length)),(36,Yv i)]) (fun i=>X1T (X2E l fp S) 19 20 (fun j=>.own (20+j)) 64 (X3V (l.take i))) 0 (Y0l _) Z9a ?_;intro i hi;have hinc:IntKind.i64.wrap ((i:Int)+1)=((i+1:Nat):Int):=Y0v _ ⟨by omega,by omega⟩;refine gd 37 ⟨?_⟩;refine Zt rfl rfl rfl (fun hb=>?_) (fun hb=>?_)
 . have hil : i < l.length := by have := Y0u hb; omega
   have hp:=hl _ (Y0j hil);have hst:=fun j=>ZgC hil j;have hdl:=Zdy (l.take i) l[i].2;rw [Y0o] at hdl;clear hb;refine go ?_;refine Qo (Zl (xs:=l) (g:=prC) rfl rfl i rfl hil rfl) ?_;generalize l[i]=p at hp hst hdl ⊢
   iterate 4 (first|refine st ?_|(apply B<;>intro hb<;>try cases hb))
   refine Z1U (Z2u (k:=4) (id:=84) (esz:=2) (l:=prC p) rfl rfl) ?_;refine Z1U (Ziu (h':=X1T (X2E l fp S) 19 20 (fun j=>.own (20+j)) 64 (X3V (l.take i))) fun k b hk=>?_) ?_
   . have hne : k ≠ 84 := fun h => by
      rw [h,show X1T (X2E l fp S) 19 20 (fun j=>PV.own (20+j)) 64 (X3V (l.take i)) 84=none from rfl] at hk;cases hk
     rw [X2.del_ne _ hne,X2.upd_ne _ _ hne,X2.upd_ne _ _ hne];exact hk
   refine Z3v [] [(20+p.2,2048)] [16383,16383,16383,16383,16383,16383,16383,16383,16383,16383,16383,4,16383,16383] ((ZiM 0).trans (by kernel_rfl)) ?_;have hT19:∀ g,X1T (X2E l fp S) 19 20 (fun j=>PV.own (20+j)) 64 g 19=some ⟨1,(List.range 64).map fun j => [PV.own (20+j)]⟩:=fun g=>Z31 _ _ _ _ _ _;have hlen64:∀ f:Nat->List PV,((List.range 64).map f).length=64:=fun f=>by simp
   refine gd 46 ⟨?_⟩;refine Zc (ZF rfl rfl (hT19 _) p.2 rfl (by rw [hlen64]; exact hp.2) rfl) (X88 rfl (Zdz (by omega) (by omega))) rfl ?_;refine Zc (Z1v (p:=.own (20+p.2)) (i:=p.2) rfl (hT19 _) (by rw [hlen64]; exact hp.2) (by rw [Z1o hp.2]; rfl)) (X8q rfl (Zdz (by omega) (by omega))) rfl ?_;refine gd 51 ⟨?_⟩
   refine Zc (Zu (k:=20+p.2) (m := [[.val (.int .i64 (p.1:Int))]]) (fl:=true) (b:=X3V (l.take i) p.2) rfl rfl (Z2z _ (by decide) _ _ hp.2) (fun r hr=>by rw [Y0g] at hr; subst hr; rfl) rfl (by
    show ((XJ (Xe (X1n (l.take i) p.2))).length+1)*8<=_;have:(XJ (Xe (X1n (l.take i) p.2))).length=(X1n (l.take i) p.2).length:=by simp [XJ,Xe]
    omega)) (X8r rfl (ZkE (by show _<85;omega) rfl) (Zmx rfl)) rfl ?_
   have hT19b:∀ (g:Nat->Bx) (b:Bx),((X1T (X2E l fp S) 19 20 (fun j=>PV.own (20+j)) 64 g).del (20+p.2)).upd 96 b 19=some ⟨1,(List.range 64).map fun j => [PV.own (20+j)]⟩:=fun g b=>by
    rw [X2.upd_ne _ _ (by decide),X2.del_ne _ (by omega)]; exact hT19 g
   refine Zc (ZF rfl rfl (hT19b _ _) p.2 rfl (by rw [hlen64]; exact hp.2) rfl) (X88 rfl (Zdz (by show _<85;omega) (by omega))) rfl ?_;refine Zc (Z1Q (i:=p.2) rfl rfl (hT19b _ _) rfl rfl (by rw [hlen64]; exact hp.2) (Y0m _)) (X8d rfl (Zdz (by show _<85;omega) (by omega)) rfl) rfl ?_;refine Z75 ?_;have es:Xl (((List.range 64).map fun j => [PV.own (20+j)]).getD p.2 []) 0 (PV.own 96).cells = [.own 96]:=by rw [Z1o hp.2]; rfl
   have hfun:(fun j=>if j=p.2 then (⟨1,(X3V (l.take i) p.2).elems ++ [[.val (.int .i64 (p.1:Int))]]⟩:Bx) else X3V (l.take i) j)=X3V (l.take (i+1)):=by
    funext j;unfold X3V;rw [hst j];by_cases hj:j=p.2
    . rw [Y6 hj, Y6 hj, hj];simp [XJ,Xe]
    . rw [Y8 hj,Y8 hj]
   have o19:=X1J.own (ρ:=mv (20+p.2) 96) (D:=fun i=>i<20+64) 19 (by omega);rw [Z6A (by omega)] at o19;have hrp:X1 ((X3V (l.take i) p.2).elems ++ [[PV.val (.int .i64 (p.1:Int))]]):=by
    have:(X3V (l.take i) p.2).elems ++ [[PV.val (.int .i64 (p.1:Int))]]=XJ (Xe (X1n (l.take i) p.2 ++ [p.1])):=by simp [X3V,XJ,Xe]
    rw [this]; exact ZJ _
   have hsub:=fun (e:Env) (he:X3r (mv (20+p.2) 96) e (20+64) [(1,.cp [.ptr 0 0 0]),(2,.own 19),(34,.vec (l.map prC) fp),(35,.val (.int .i64 l.length)),(36,Yv i)]) =>
    Zc8 (C:=C) (h0:=X2E l fp S) (D:=19) (n0:=20) (n':=99) (e:=e) (by decide) (g:=X3V (l.take i)) (j0:=p.2) (new:=96) hp.2 (by decide) (r:=⟨1,(X3V (l.take i) p.2).elems ++ [[.val (.int .i64 (p.1:Int))]]⟩) hrp (Zat _)
     (e':=X1D [(1,.cp [.ptr 0 0 0]),(2,.own 19),(34,.vec (l.map prC) fp),(35,.val (.int .i64 l.length)),(36,Yv i)]) (fun k q hk=>he.mem _ (Zah hk)) (hren (20+p.2) 96 (by omega)) hC (by decide)
   rw [hfun] at hsub;simp only [<- es] at hsub;refine Z1U (hsub _ ⟨⟨_,rfl,.same _ ⟨⟨by omega,Z6A (by omega)⟩,Yt⟩⟩,⟨_,rfl,o19⟩,Qp (Zk l),Qp Yt,Qp Yt,Yt⟩) ?_;refine go ?_;exact⟨i+1,by omega,by omega,ZbO ⟨rfl,rfl,rfl,rfl,by show some _=some _; rw [hinc],Yt⟩⟩
 . have hil : i = l.length := by have := YC hb; omega
   subst hil;rw [Y0q];clear hb;refine gd 54 ⟨?_⟩;have h0n:∀ k,20<=k->k<20+64->X2E l fp S k=none:=fun k h1 h2=>by
    cases hk:X2E l fp S k with
    | none=>rfl
    | some b=>rcases hbs k b hk (by omega) with⟨h,_⟩|⟨h,_⟩<;>omega
   refine Za (fun C=>Z9n (D:=19) (k:=2) (by decide) h0n rfl (Zat l)) ?_;refine go ?_;have hdp:(PV.vec ((List.range 64).map fun j => [.vec (XJ (Xe (X1n l j))) false]) false).pure:=by
    refine (Z2j _ _).2 fun r hr=>?_;obtain⟨j,_,rfl⟩:=Y0i.1 hr;exact⟨ZJ _,Yt⟩
   have hdi:∀ D,(PV.vec ((List.range 64).map fun j => [.vec (XJ (Xe (X1n l j))) false]) false).inn D:=fun D=>PV.pure.inn hdp D;have hob:∀ n,12<n->Xt (· < n) (X3p l fp (.own 7) (.own 12) (.vec (XJ (Xe S)) false)).elems:=fun n hn=>⟨⟨Yt,hpl _,show (7:Nat)<n by omega,show (12:Nat)<n from hn,hap _ _,Yt⟩,Yt⟩
   have hlow:Xw (fun i=>i) (fun i=>i<84) ⟨1,List.replicate 64 [.vec [] true]⟩ ⟨1,tab fun _ => [.vec [] false]⟩:=by
    have er:∀ i,i<64->(List.replicate 64 [PV.vec [] true]).getD i [] = [PV.vec [] true]:=fun i hi=>by rw [Y0b,Y3H,Y6 hi]; rfl
    refine .gen _ _ Y1M rfl (by rw [Z15]; simp) (fun i hi=>?_) fun i q hi hq=>?_
    . rw [Z15] at hi;rw [Z3a hi,er i hi]; rfl
    . rw [Z15] at hi;have hq0:q=0:=Nat.lt_one_iff.1 hq;subst hq0;rw [Z3a hi,er i hi];exact .low (.vec [] true) Yt
   refine Z1U (Z30 (n':=84) (L := [(1,.cp [.ptr 0 0 0]),(2,.vec ((List.range 64).map fun j => [.vec (XJ (Xe (X1n l j))) false]) false),(57,.vec (XJ (Xe S)) false),(58,.val (.int .i64 64)),(59,.val (.int .i64 ((0:Nat):Int)))])
    (HL := [(0,X3p l fp (.own 7) (.own 12) (.vec (XJ (Xe S)) false)),(7,⟨1,tab fun _ => [.vec [] false]⟩),(12,⟨1,tab fun _ => [.vec [] false]⟩)]) ?_ ?_ hC (by decide)) ?_
   . exact X3r.mem (L := [(1, .cp [.ptr 0 0 0]), (2, .vec ((List.range 64).map fun j => [.vec (XJ (Xe (X1n l j))) false]) false), (57, .vec (XJ (Xe S)) false), (58, .val (.int .i64 64)), (59, .val (.int .i64 ((0 : Nat) : Int)))])
      ⟨⟨_,rfl,.same _ ⟨⟨by decide,rfl⟩,Yt⟩⟩,Qp hdp,Qp (ZJ _),⟨_,by rw [show (64:Int)=((XJ (Xe S)).length:Nat) by rw [hSn,h64]; rfl]; rfl,.pure _ Yt⟩,Qp Yt,Yt⟩
   . exact X1o.mem (L := [(0, X3p l fp (.own 7) (.own 12) (.vec (XJ (Xe S)) false)), (7, ⟨1, tab fun _ => [.vec [] false]⟩), (12, ⟨1, tab fun _ => [.vec [] false]⟩)])
      ⟨⟨by decide,_,rfl,Xw.single (ρ:=fun i=>i) (l0 := [.val (.int .i64 64),.vec (l.map prC) fp,.own 7,.own 12,.vec (XJ (Xe S)) false]) (l := [.val (.int .i64 64),.vec (l.map prC) fp,.own 7,.own 12,.vec (XJ (Xe S)) false]) (show X2v _ _ [_,_,_,_,_] [_,_,_,_,_] from ⟨.pure _ Yt,.pure _ (Zk l),.own (ρ:=fun i=>i) 7 (by decide),.own (ρ:=fun i=>i) 12 (by decide),.pure _ (ZJ _),Yt⟩) rfl⟩,⟨by decide,_,rfl,hlow⟩,⟨by decide,_,rfl,hlow⟩,Yt⟩
   have hren0:Xw (fun i=>i) (fun i=>i<84) (X3p l fp (.own 7) (.own 12) (.vec (XJ (Xe S)) false)) (X3p l fp (.own 7) (.own 12) (.vec (XJ (Xe S)) false)) :=
    Xw.single (ρ:=fun i=>i) (l0 := [.val (.int .i64 64),.vec (l.map prC) fp,.own 7,.own 12,.vec (XJ (Xe S)) false]) (l := [.val (.int .i64 64),.vec (l.map prC) fp,.own 7,.own 12,.vec (XJ (Xe S)) false]) (show X2v _ _ [_,_,_,_,_] [_,_,_,_,_] from ⟨.pure _ Yt,.pure _ (Zk l),.own (ρ:=fun i=>i) 7 (by decide),.own (ρ:=fun i=>i) 12 (by decide),.pure _ (ZJ _),Yt⟩) rfl
   have hz0:∀ f:Nat->Nat,(∀ j,f j=0)->(tab fun _ => [PV.vec [] false])=tab (X2o f):=fun f hf=>Z48 fun j _=>by
    show [PV.vec [] false] = [PV.vec (X4 (Xb (f j))) false];rw [hf,ZL]; rfl
   refine Zz hC (fun t=>t<=64) (fun t=>64-t) 84 (fun t => [(1,.cp [.ptr 0 0 0]),(2,.vec ((List.range 64).map fun j => [.vec (XJ (Xe (X1n l j))) false]) false),(57,.vec (XJ (Xe S)) false),(58,.val (.int .i64 64)),(59,.val (.int .i64 (t:Int)))])
    (fun t => [(0,X3p l fp (.own 7) (.own 12) (.vec (XJ (Xe S)) false)),(7,⟨1,tab (X2o (X38 l S t))⟩),(12,⟨1,tab (X2o (X2A l S t))⟩)]) (by decide) 0 (by decide)
    ⟨⟨rfl,show (0:Nat)<84 by decide,Yt⟩,⟨rfl,hdi _⟩,⟨rfl,hap _ _⟩,⟨rfl,Yt⟩,⟨rfl,Yt⟩,Yt⟩
    ⟨⟨by decide,rfl,hob _ (by decide)⟩,⟨by decide,by rw [<- hz0 _ fun j=>show X38 l S 0 j=0 from Y8 (by simp)]; rfl,hti _ _⟩,⟨by decide,by rw [<- hz0 _ (ZgG l S)]; rfl,hti _ _⟩,Yt⟩ ?_
   intro t ht;have htinc:IntKind.i64.wrap ((t:Int)+1)=((t+1:Nat):Int):=Y0v _ ⟨by omega,by omega⟩;refine gd 60 ⟨?_⟩;refine Zt rfl rfl rfl (fun hb=>?_) (fun hb=>?_)
   . have htl : t < S.length := by have := Y0u hb; omega
     have hb64:=hS.lt _ (Y0j htl);have hpred:=hS.pred t htl;have hnew:=ZiN (l:=l) hS.nodup htl;have hbS:=ZdA hS.nodup htl;have hastep:=fun j=>ZgE (l:=l) htl j;have hbstep:=fun j=>ZgF hl htl hb64 j;have hgetS : (Xe S)[t]'(by simpa [Xe] using htl) = ((S[t] : Nat) : Int) := by simp [Xe]
     clear hb;refine go ?_;refine Qo (Zl (xs:=Xe S) (g:=fun x => [.val (.int .i64 x)]) rfl rfl t rfl (by simpa [Xe] using htl) rfl) ?_;rw [hgetS];generalize S[t]=b at hb64 hpred hnew hbS hastep hbstep ⊢
     iterate 4 (first|refine st ?_|(apply B<;>intro hb<;>try cases hb))
     refine Z1U (Z2u (k:=6) (id:=84) (esz:=1) (l := [.val (.int .i64 (b:Int))]) rfl rfl) ?_;refine go ?_;refine Qo (Zl (xs:=List.range 64) (g:=fun j => [.vec (XJ (Xe (X1n l j))) false]) rfl rfl b rfl (by simpa using hb64) rfl) ?_;rw [Y2d];refine go ?_;have hnd:(XJ (Xe (X1n l b))).length=(X1n l b).length:=by simp [XJ,Xe]
     have hdlen:=Zdy l b;refine Zz hC (fun s=>s<=(X1n l b).length) (fun s=>(X1n l b).length-s) 85 (fun s => [(1,.cp [.ptr 0 0 0]),(2,.vec ((List.range 64).map fun j => [.vec (XJ (Xe (X1n l j))) false]) false),(6,.cp [.val (.int .i64 (b:Int))]),(57,.vec (XJ (Xe S)) false),(58,.val (.int .i64 64)),(59,.val (.int .i64 (t:Int))),(66,.vec (XJ (Xe (X1n l b))) false),(67,.val (.int .i64 (X1n l b).length)),(68,.val (.int .i64 (s:Int)))])
      (fun s => [(0,X3p l fp (.own 7) (.own 12) (.vec (XJ (Xe S)) false)),(7,⟨1,tab (X2o fun j=>if j=b then aS l ((X1n l b).take s) else X38 l S t j)⟩),(12,⟨1,tab (X2o (X2A l S t))⟩)]) (by decide) 0 (Y0l _)
      ⟨⟨rfl,show (0:Nat)<85 by decide,Yt⟩,⟨rfl,hdi _⟩,⟨rfl,Yt,Yt⟩,⟨rfl,hap _ _⟩,⟨rfl,Yt⟩,⟨rfl,Yt⟩,⟨rfl,hap _ _⟩,⟨by rw [<- hnd]; rfl,Yt⟩,⟨rfl,Yt⟩,Yt⟩
      ⟨⟨by decide,rfl,hob _ (by decide)⟩,⟨by decide,by rw [Z4a (f:=fun j=>if j=b then aS l ((X1n l b).take 0) else X38 l S t j) (g:=X38 l S t) fun j _=>by by_cases hj:j=b; (rw [Y6 hj,hj,hnew]; rfl); rw [Y8 hj]]; rfl,hti _ _⟩,⟨by decide,rfl,hti _ _⟩,Yt⟩ ?_
     intro s hs;have hsinc:IntKind.i64.wrap ((s:Int)+1)=((s+1:Nat):Int):=Y0v _ ⟨by omega,by omega⟩;refine gd 69 ⟨?_⟩;refine Zt rfl rfl rfl (fun hb=>?_) (fun hb=>?_)
     . have hsl : s < (X1n l b).length := by have := Y0u hb; omega
       have htk:=Z7m hsl;have hga : (Xe (X1n l b))[s]'(by simpa [Xe] using hsl) = (((X1n l b)[s] : Nat) : Int) := by simp [Xe]
       have hma:(X1n l b)[s]∈X1n l b:=Y0j hsl;have hcur:aS l ((X1n l b).take s)<18446744073709551616:=ZkG l _ 0 (fun a ha=>Zc9 hl (YM ha)) (by decide);clear hb;refine go ?_;refine Qo (Zl (xs:=Xe (X1n l b)) (g:=fun x => [.val (.int .i64 x)]) rfl rfl s rfl (by simpa [Xe] using hsl) rfl) ?_;rw [hga];generalize (X1n l b)[s]=a at htk hma ⊢;have ha64:=Zc9 hl hma;have haS:=hpred a (Z6N.1 hma);have hab:a≠b:=fun h=>hbS (h▸haS);have hor:=Z1S hcur (Z7f l a);have hwn:X2y (aS l ((X1n l b).take s) ||| abv l a) (a:Int)=aS l ((X1n l b).take (s+1)):=by
        rw [htk,ZkF,X2y,Y6 ⟨by omega,by omega⟩]; rfl
       refine gd 82 ⟨?_⟩;refine Qr (ZF rfl rfl rfl b rfl (by rw [Z15]; exact hb64) rfl) ?_;refine Qr (Z1v (p:=XG (aS l ((X1n l b).take s))) (i:=b) rfl rfl (by rw [Z15]; exact hb64) (by rw [Z3a hb64]; show some (XG (if b=b then _ else _))=_; rw [Y6 rfl])) ?_;refine gd 89 ⟨?_⟩;refine Qr (ZF rfl rfl rfl a rfl (by rw [Z15]; exact ha64) rfl) ?_;refine Qr (Z1v (p:=XG (abv l a)) (i:=a) rfl rfl (by rw [Z15]; exact ha64) (by rw [Z3a ha64]; show some (XG (if a=b then _ else X38 l S t a))=_; rw [Y8 hab,ZiO haS])) ?_;refine Qd (Z1w _ (abv l a) hcur (Z7f l a)) ⟨Z2 _,Z2 _,Yt⟩ ?_;refine gd 93 ⟨?_⟩;refine Qd (Z45 _ (Y03 (Z3m hor) (by decide)) (a:Int)) ⟨Z2 _,Yt,Yt⟩ ?_;rw [hwn];refine Qr (ZF rfl rfl rfl b rfl (by rw [Z15]; exact hb64) rfl) ?_;refine Qr (Z1Q (i:=b) rfl rfl rfl rfl rfl (by rw [Z15]; exact hb64) (Y0m _)) ?_;refine go ?_
       refine⟨s+1,by omega,by omega,⟨⟨rfl,show (0:Nat)<85 by decide,Yt⟩,⟨rfl,hdi _⟩,⟨rfl,Yt,Yt⟩,⟨rfl,hap _ _⟩,⟨rfl,Yt⟩,⟨rfl,Yt⟩,⟨rfl,hap _ _⟩,⟨rfl,Yt⟩,⟨by show some _=some _; rw [hsinc],Yt⟩,Yt⟩,
        ⟨⟨by decide,rfl,hob _ (by decide)⟩,⟨by decide,?_,hti _ _⟩,⟨by decide,rfl,hti _ _⟩,Yt⟩⟩
       show some (Bx.mk 1 ((tab (X2o fun j=>if j=b then aS l ((X1n l b).take s) else X38 l S t j)).set b (Xl ((tab (X2o fun j=>if j=b then aS l ((X1n l b).take s) else X38 l S t j)).getD b []) 0 [.vec (X4 (Xb (aS l ((X1n l b).take (s+1))))) false])))=some _;rw [ZdB hb64];refine congrArg (fun x=>some (Bx.mk 1 x)) (Z4a fun j _=>?_);by_cases hj:j=b
       . rw [Y6 hj,Y6 hj]
       . rw [Y8 hj,Y8 hj,Y8 hj]
     . have hsl : s = (X1n l b).length := by have := YC hb; omega
       subst hsl;clear hb;rw [Y0q,ZlP hl b];refine gd 101 ⟨?_⟩;refine Qr (ZF rfl rfl rfl b rfl (by rw [Z15]; exact hb64) rfl) ?_;refine Qr (Z1v (p:=XG (abv l b)) (i:=b) rfl rfl (by rw [Z15]; exact hb64) (by rw [Z3a hb64]; show some (XG (if b=b then _ else _))=_; rw [Y6 rfl])) ?_;refine Qd (Z1F (abv l b)) ⟨Z2 _,Yt⟩ ?_;refine go ?_;refine Z2v (X:=List Nat) hC (caps := [.cp [.vec (X4 (Xb (abv l b))) false]]) [(1,.cp [.ptr 0 0 0]),(2,.vec ((List.range 64).map fun j => [.vec (XJ (Xe (X1n l j))) false]) false),(6,.cp [.val (.int .i64 (b:Int))]),(57,.vec (XJ (Xe S)) false),(58,.val (.int .i64 64)),(59,.val (.int .i64 (t:Int))),(103,.fn 121 [.cp [.vec (X4 (Xb (abv l b))) false]])]
        (fun z => [(0,X3p l fp (.own 7) (.own 12) (.vec (XJ (Xe S)) false)),(7,⟨1,tab (X2o fun j=>if j=b then abv l b else X38 l S t j)⟩),(12,⟨1,tab (X2o fun j=>if j∈z then X2A l S t j ||| 2 ^ b else X2A l S t j)⟩)]) rfl ⟨⟨Z7 _,Yt⟩,Yt⟩ (Z2x (abv l b) (Z7f l b)) (fun _=>rfl)
        (fun ex pre z=>ex=.normal/\z=pre.map (·.val)) 84 (by decide) [] ⟨rfl,rfl⟩
        (Z4B hC (by decide) ⟨⟨rfl, show (0 : Nat) < 84 by decide, Yt⟩, ⟨rfl, hdi _⟩, ⟨rfl, Yt, Yt⟩, ⟨rfl, hap _ _⟩, ⟨rfl, Yt⟩, ⟨rfl, Yt⟩, ⟨rfl, ⟨Zp _ _, Yt⟩, Yt⟩, Yt⟩
          ⟨⟨by decide,rfl,hob _ (by decide)⟩,⟨by decide,rfl,hti _ _⟩,⟨by decide,by rw [Z4a (f:=fun j=>if j∈([]:List Nat) then X2A l S t j ||| 2 ^ b else X2A l S t j) (g:=X2A l S t) fun j _=>Y8 (by simp)]; rfl,hti _ _⟩,Yt⟩)
        (fun z q hq=>by simp at hq; rcases hq with rfl|rfl|rfl<;>exact Y1u _) _ (fun x=>rfl) ?_ ?_ ?_
       . rintro C2 hC2 pre x z ⟨-, hz⟩ hlen;have ha64:=Z3T x.2;generalize hf:(fun j=>if j∈z then X2A l S t j ||| 2 ^ b else X2A l S t j)=f;have hf64:∀ j,f j<18446744073709551616:=fun j=>by
          rw [<- hf];dsimp only
          split
          . exact Z1S (Z56 ..) (ZP hb64)
          . exact Z56 ..
         have hwn:X2y (f x.val) (b:Int)=f x.val ||| 2 ^ b:=by rw [X2y,Y6 ⟨by omega,by omega⟩]; rfl
         refine gd 115 ⟨?_⟩;refine Qr (ZF rfl rfl rfl x.val rfl (by rw [Z15]; exact ha64) rfl) ?_;refine Qr (Z1v (p:=XG (f x.val)) (i:=x.val) rfl rfl (by rw [Z15]; exact ha64) (by rw [Z3a ha64]; rfl)) ?_;refine gd 118 ⟨?_⟩;refine Qd (Z45 _ (Y03 (Z3m (hf64 _)) (by decide)) (b:Int)) ⟨Z2 _,Yt,Yt⟩ ?_;rw [hwn];refine Qr (ZF rfl rfl rfl x.val rfl (by rw [Z15]; exact ha64) rfl) ?_;refine Qr (Z1Q (i:=x.val) rfl rfl rfl rfl rfl (by rw [Z15]; exact ha64) (Y0m _)) ?_;refine go ?_
         refine⟨.inl rfl,z ++ [x.val],fun i=>i,⟨rfl,by rw [hz,Y0r]; rfl⟩,fun i hi=>rfl,Zf,
          ⟨⟨_,rfl,.same _ ⟨⟨by decide,rfl⟩,Yt⟩⟩,Qp hdp,Qp ⟨Yt,Yt⟩,Qp (ZJ _),Qp Yt,Qp Yt,Qp ⟨⟨Z7 _,Yt⟩,Yt⟩,Yt⟩,
          ⟨⟨by decide,_,rfl,hren0⟩,Qs (Z1G (Z20 _)),⟨by decide,_,rfl,?_⟩,Yt⟩⟩
         show Xw _ _ ⟨1,(tab (X2o f)).set x.val (Xl ((tab (X2o f)).getD x.val []) 0 [.vec (X4 (Xb (f x.val ||| 2 ^ b))) false])⟩ ⟨1,tab (X2o fun j=>if j∈z ++ [x.val] then X2A l S t j ||| 2 ^ b else X2A l S t j)⟩;rw [ZdB ha64,Z4a (g:=fun j=>if j∈z ++ [x.val] then X2A l S t j ||| 2 ^ b else X2A l S t j)]
         . exact .same _ (Z1G (Z20 _))
         . intro j _;rw [<- hf];dsimp only;by_cases hj:j=x.val
           . rw [Y6 hj, Y6 (Y0h.2 (.inr (Y0g.2 hj))), hj];by_cases hx:x.val∈z
             . rw [Y6 hx,Y3t,Nat.or_self]
             . rw [Y8 hx]
           . rw [Y8 hj];by_cases hx:j∈z
             . rw [Y6 hx,Y6 (Y0h.2 (.inl hx))]
             . rw [Y8 hx,Y8 fun h=>(Y0h.1 h).elim hx fun h=>hj (Y0g.1 h)]
       . rintro xs z hxs ⟨-, rfl⟩;rw [hxs];refine go ?_
         refine⟨t+1,by omega,by omega,⟨⟨rfl,show (0:Nat)<84 by decide,Yt⟩,⟨rfl,hdi _⟩,⟨rfl,hap _ _⟩,⟨rfl,Yt⟩,⟨by show some _=some _; rw [htinc],Yt⟩,Yt⟩,
          ⟨⟨by decide,rfl,hob _ (by decide)⟩,⟨by decide,by rw [Z4a (f:=X38 l S (t+1)) (g:=fun j=>if j=b then abv l b else X38 l S t j) fun j _=>hastep j]; rfl,hti _ _⟩,⟨by decide,by rw [Z4a (f:=X2A l S (t+1)) (g:=fun j=>if j∈mem (abv l b) then X2A l S t j ||| 2 ^ b else X2A l S t j) fun j _=>hbstep j]; rfl,hti _ _⟩,Yt⟩⟩
       . rintro ex pre z - ⟨rfl,_⟩ (h|⟨id,h⟩)<;>cases h
   . have htl : t = 64 := by have := YC hb; omega
     subst htl;clear hb;refine Z1M ?_;rw [Z4a (f:=X38 l S 64) (g:=abv l) fun j hj=>ZiP hS h64 hj,Z4a (f:=X2A l S 64) (g:=bel l) fun j _=>ZiQ hl hS h64 j];refine Z1U (Z2h (ob:=0) (id:=7) (i0:=0) (j0:=2) rfl rfl (by decide) (Z1G (Z20 _)) (Y0 rfl) (Y0 rfl) rfl) ?_;refine Z1U (Z2h (ob:=0) (id:=12) (i0:=0) (j0:=3) rfl rfl (by decide) (Z1G (Z20 _)) (Y0 rfl) (Y0 rfl) rfl) ?_;refine go ?_;exact⟨_,_,rfl,.inl rfl,_,rfl,Yt,⟨⟨Yt,Zk l,Z1G (Z20 _),Z1G (Z20 _),ZJ _,Yt⟩,Yt⟩,rfl,rfl⟩
end
section
open Go.Shelf
def Z32:Go.Shelf.Ren:=⟨fun|6=>95|15=>143|14=>142|28=>183|29=>184|20=>175|21=>176|22=>177|23=>178|24=>179|25=>180|26=>181|27=>182|46=>196|47=>197|48=>198|49=>199|50=>200|57=>215|n=>n,fun|22=>32|24=>119|25=>162|3=>3|39=>107|0=>0|53=>256|55=>33|4=>4|46=>250|45=>249|50=>243|5=>5|9=>9|66=>269|70=>273|76=>284|77=>285|n=>n,fun|n=>n⟩
theorem X5g:Go.Proofs.SlLaysF0.n6 Tryz.prog Z32:={
 mixed:=by kernel_rfl
 f6:=⟨Tryz.f95.name,by decide,Tryz.func95.trans (congrArg some (by kernel_rfl))⟩
 f14:=⟨Tryz.f142.name,by decide,Tryz.func142.trans (congrArg some (by kernel_rfl))⟩
 f15:=Tryz.func143.trans (congrArg some (by kernel_rfl))
 f20:=⟨Tryz.f175.name,by decide,Tryz.func175.trans (congrArg some (by kernel_rfl))⟩
 f21:=⟨Tryz.f176.name,by decide,Tryz.func176.trans (congrArg some (by kernel_rfl))⟩
 f22:=⟨Tryz.f177.name,by decide,Tryz.func177.trans (congrArg some (by kernel_rfl))⟩
 f23:=⟨Tryz.f178.name,by decide,Tryz.func178.trans (congrArg some (by kernel_rfl))⟩
 f24:=⟨Tryz.f179.name,by decide,Tryz.func179.trans (congrArg some (by kernel_rfl))⟩
 f25:=⟨Tryz.f180.name,by decide,Tryz.func180.trans (congrArg some (by kernel_rfl))⟩
 f26:=⟨Tryz.f181.name,by decide,Tryz.func181.trans (congrArg some (by kernel_rfl))⟩
 f27:=⟨Tryz.f182.name,by decide,Tryz.func182.trans (congrArg some (by kernel_rfl))⟩
 f28:=Tryz.func183.trans (congrArg some (by kernel_rfl))
 f29:=Tryz.func184.trans (congrArg some (by kernel_rfl))
 f46:=⟨Tryz.f196.name,by decide,Tryz.func196.trans (congrArg some (by kernel_rfl))⟩
 f47:=Tryz.func197.trans (congrArg some (by kernel_rfl))
 f48:=Tryz.func198.trans (congrArg some (by kernel_rfl))
 f49:=⟨Tryz.f199.name,by decide,Tryz.func199.trans (congrArg some (by kernel_rfl))⟩
 f50:=⟨Tryz.f200.name,by decide,Tryz.func200.trans (congrArg some (by kernel_rfl))⟩
 f57:=⟨Tryz.f215.name,by decide,Tryz.func215.trans (congrArg some (by kernel_rfl))⟩
 t0:=Tryz.underlying0
 a0:=Tryz.isAgg0
 z0:=Tryz.sizeOf0
 v0:=Tryz.zeroValue0
 t3:=Tryz.underlying3
 a3:=Tryz.isAgg3
 z3:=Tryz.sizeOf3
 v3:=Tryz.zeroValue3
 t4:=Tryz.underlying4
 a4:=Tryz.isAgg4
 z4:=Tryz.sizeOf4
 v4:=Tryz.zeroValue4
 t5:=Tryz.underlying5
 a5:=Tryz.isAgg5
 z5:=Tryz.sizeOf5
 v5:=Tryz.zeroValue5
 t9:=Tryz.underlying9
 a9:=Tryz.isAgg9
 z9:=Tryz.sizeOf9
 v9:=Tryz.zeroValue9
 t22:=Tryz.underlying32
 a22:=Tryz.isAgg32
 z22:=Tryz.sizeOf32
 v22:=Tryz.zeroValue32
 t25:=Tryz.underlying162
 a25:=Tryz.isAgg162
 z25:=Tryz.sizeOf162
 v25:=Tryz.zeroValue162
 t39:=Tryz.underlying107
 a39:=Tryz.isAgg107
 z39:=Tryz.sizeOf107
 v39:=Tryz.zeroValue107
 t45:=Tryz.underlying249
 a45:=Tryz.isAgg249
 z45:=Tryz.sizeOf249
 v45:=Tryz.zeroValue249
 t46:=Tryz.underlying250
 a46:=Tryz.isAgg250
 z46:=Tryz.sizeOf250
 v46:=Tryz.zeroValue250
 t50:=Tryz.underlying243
 a50:=Tryz.isAgg243
 z50:=Tryz.sizeOf243
 v50:=Tryz.zeroValue243
 t53:=Tryz.underlying256
 a53:=Tryz.isAgg256
 z53:=Tryz.sizeOf256
 v53:=Tryz.zeroValue256
 t55:=Tryz.underlying33
 a55:=Tryz.isAgg33
 z55:=Tryz.sizeOf33
 v55:=Tryz.zeroValue33
 t66:=Tryz.underlying269
 a66:=Tryz.isAgg269
 z66:=Tryz.sizeOf269
 v66:=Tryz.zeroValue269
 t70:=Tryz.underlying273
 a70:=Tryz.isAgg273
 z70:=Tryz.sizeOf273
 v70:=Tryz.zeroValue273
 t76:=Tryz.underlying284
 a76:=Tryz.isAgg284
 z76:=Tryz.sizeOf284
 v76:=Tryz.zeroValue284
 t77:=Tryz.underlying285
 a77:=Tryz.isAgg285
 z77:=Tryz.sizeOf285
 v77:=Tryz.zeroValue285 }
theorem Zau:∀ w,(isAgg (Z32.t 24)).run Tryz.prog w=.ok true w:=Tryz.isAgg119
theorem Z9o:∀ w,(Go.sizeOf (Z32.t 24)).run Tryz.prog w=.ok 2 w:=Tryz.sizeOf119
end
section
open Go.RowKit
attribute [local irreducible] aw Xr dK
theorem Z2q (l:List Pr):(l.map prC).length=l.length:=by simp
theorem ZeW (xs:List Pr) (fl:Bool) (hlen:xs.length<=1000000):X1y Tryz.prog 186 [.vec (xs.map prC) fl] .own ⟨2,xs.map prC⟩:=by
 refine Z1A ok186 (Y0 rfl) fun C hC=>?_;have fin:∀ (x:Pr) (xs:List Pr),(∀ c∈(x :: xs).map prC,c.length=2):=fun x xs c hc=>by obtain⟨y,_,rfl⟩:=Y0i.1 hc; rfl
 cases xs with
 | nil =>
   refine go ?_;refine Z4H (.inl ⟨_,_,rfl⟩) rfl fun b=>?_;cases b
   . repeat' (first | refine Za (Zy (k := 5) rfl 2 (by decide)) ?_ | (first|refine st ?_|(apply B<;>intro hb<;>try cases hb)))
     exact⟨_,_,rfl,.inl rfl,_,rfl,rfl⟩
   . iterate 6 (first|refine st ?_|(apply B<;>intro hb<;>try cases hb))
     refine Z1U (Zy (k:=2) rfl 2 (by decide) _) ?_;refine go ?_;exact⟨_,_,rfl,.inl rfl,_,rfl,rfl⟩
 | cons x xs =>
   repeat' (first|refine Za (Zy (k:=5) rfl 2 (by decide)) ?_|(first|refine st ?_|(apply B<;>intro hb<;>try cases hb)))
   refine ZH (Zu (k:=0) (m:=(x :: xs).map prC) (fl:=fl) rfl rfl rfl (fin x xs) rfl (by
    show (([]:List (List PV)).length+((x :: xs).map prC).length)*16<=_
    rw [Y0f,Y2E];omega)) rfl rfl ?_
   refine go ?_;exact⟨_,_,rfl,.inl rfl,_,rfl,by rw [Y1e]; rfl⟩
def pB (p x:Pr):Bool:=((p.1:Int) == (x.1:Int))&&(((p.2:Int) == (x.2:Int))&&true)
theorem ZgH (p x:Pr):pB p x=true↔p=x:=by
 unfold pB;rw [Y1m,Y0k,Y1S,Y1S,Y2t,Y2t];exact⟨fun h=>Y4a h.1 h.2,fun h=>by rw [h]; exact⟨rfl,rfl⟩⟩
theorem ZlQ {xs:List Pr} {p:Pr}:xs.any (pB p)=decide (p∈xs):=by
 rw [YQ,Y01,Y2c];constructor
 . rintro ⟨x, hx, h⟩;rw [(ZgH p x).1 h]; exact hx
 . intro h;exact⟨p,h,(ZgH p p).2 rfl⟩
theorem Zcb (xs:List Pr) (p:Pr) (fl:Bool):X7 Tryz.prog 185 [.vec (xs.map prC) fl,.agg (prC p)] (· = .val (.int .i64 (X2L (pB p) xs))):=by
 have hnl:=Z2q xs;refine Yp ok185 fun C hC=>?_;refine Z40 (k:=0) rfl fun hmax=>?_;have hlm:xs.length<=Xj:=by rw [<- hnl]; exact hmax
 refine Zm ?_;refine Z9 ?_;refine Z5 rfl rfl rfl ?_;refine go ?_;have hpi:∀ D,Xt D (xs.map prC):=fun D=>Zd (fun _ h=>h.elim) _ (Zk xs);have hpc:∀ D,X1S D (prC p):=fun D=>ZG (fun _ h=>h.elim) _ (Z4F p);refine Zz hC (fun i=>i<=xs.length/\(xs.take i).any (pB p)=false) (fun i=>xs.length-i) 0 (fun i => [(0,.vec (xs.map prC) fl),(3,.cp (prC p)),(7,.val (.int .i64 (xs.length:Int))),(8,Yv i)]) (fun _=>[]) (Y0l _) 0 ⟨Y0l _,rfl⟩ ⟨⟨rfl,hpi _⟩,⟨rfl,hpc _⟩,⟨by rw [<- hnl]; rfl,Yt⟩,⟨rfl,Yt⟩,Yt⟩ Yt ?_;rintro i ⟨hi,hno⟩;have hinc:IntKind.i64.wrap ((i:Int)+1)=((i+1:Nat):Int):=Y0v _ ⟨by omega,by simp only [Xj] at hlm; omega⟩;refine gd 9 ⟨?_⟩;refine Zt rfl rfl rfl (fun hb=>?_) (fun hb=>?_)
 . have hil : i < xs.length := by have := Y0u hb; omega
   clear hb;refine gd 14 ⟨?_⟩;refine Qr (Zl (xs:=xs) (g:=prC) rfl rfl i rfl hil rfl) ?_;refine gd 16 ⟨?_⟩;refine Z9c (b:=pB p xs[i]) rfl rfl rfl (fun hx=>?_) (fun hx=>?_)
   . refine go ?_;exact Z8 rfl Yt (by rw [Z64 hil hno hx])
   . refine go ?_;exact⟨i+1,⟨by omega,Z4I hil hno hx⟩,by omega,⟨⟨rfl,hpi _⟩,⟨rfl,hpc _⟩,⟨rfl,Yt⟩,⟨by show some _=some _; rw [hinc],Yt⟩,Yt⟩,Yt⟩
 . have hil : i = xs.length := by have := YC hb; omega
   subst hil;rw [Y0q] at hno;refine go ?_;exact Z8 rfl Yt (by rw [Z2O hno]; rfl)
theorem Z84 (xs:List Pr) (p:Pr) (fl:Bool):X7 Tryz.prog 147 [.vec (xs.map prC) fl,.agg (prC p)] (· = .val (.bool (decide (p∈xs)))):=by
 refine Yp ok147 fun C hC=>?_;refine Zm ?_;refine Z9 ?_;refine Z5 rfl rfl rfl ?_;refine go ?_;refine Qe (Zcb xs p fl) ⟨Zk xs,Z4F p,Yt⟩ ?_;refine Qo (Z4 rfl ((Z5w (p:=pB p) (xs:=xs)).trans ZlQ)) ?_;(refine go ?_;repeat' (apply B<;>intro hb<;>try cases hb))
 all_goals exact Z8 rfl Yt (by rw [hb])
theorem ZlR {esz n:Nat} {e:Env} {h:X2} {x hi mx:Operand} {l:List (List PV)} {fl:Bool} (hx:ev e x=some (.vec l fl)) (h1:X1O (ev e hi)=some (l.length:Int)) (h2:X1O (ev e mx)=some (l.length:Int)) (hl:∀ c∈l,c.length=esz):X3 (.slc esz x none (some hi) (some mx)) e h n=some (.vec l true,h):=by
 simp only [X3,hx,XM,h1,h2];rw [Y6 ⟨⟨by omega,by omega,by omega,by omega⟩,hl⟩];simp
theorem ZeX (xs:List Pr) (fl:Bool):X7 Tryz.prog 97 [.vec (xs.map prC) fl] (· = .vec (xs.map prC) true):=by
 refine Yp ok97 fun C hC=>?_;refine gd 8 ⟨?_⟩;refine Qo (ZlR rfl rfl rfl (fun c hc=>by obtain⟨y,_,rfl⟩:=Y0i.1 hc; rfl)) ?_;refine go ?_;exact Z8 rfl (Zk xs) rfl
theorem Z9p (xs:List Pr) (fl:Bool) (hne:∀ i (h:i+1<xs.length),xs[i]≠xs[i+1]):X7 Tryz.prog 98 [.vec (xs.map prC) fl] (· = .vec (xs.map prC) fl):=by
 have hnl:=Z2q xs;refine Yp ok98 fun C hC=>?_;refine Z40 (k:=0) rfl fun hmax=>?_;have hlm:xs.length<=Xj:=by rw [<- hnl]; exact hmax
 (refine go ?_;repeat' (apply B<;>intro hb<;>try cases hb))
 . exact Z8 rfl (Zk xs) rfl
 . rw [hnl] at hb;have h2:2<=xs.length:=by have:=YC hb; omega
   clear hb;have hpi:∀ D,Xt D (xs.map prC):=fun D=>Zd (fun _ h=>h.elim) _ (Zk xs);refine Zz hC (fun k=>1<=k/\k<=xs.length) (fun k=>xs.length-k) 0 (fun k => [(0,.vec (xs.map prC) fl),(3,.val (.int .i64 (k:Int)))]) (fun _=>[]) (Y0l _) 1 ⟨Y0m _,by omega⟩ ⟨⟨rfl,hpi _⟩,⟨rfl,Yt⟩,Yt⟩ Yt ?_;rintro k ⟨hk1,hk⟩;have hinc:IntKind.i64.wrap ((k:Int)+1)=((k+1:Nat):Int):=Y0v _ ⟨by omega,by simp only [Xj] at hlm; omega⟩;have hdec:IntKind.i64.wrap ((k:Int)-1)=((k-1:Nat):Int):=(Y0v _ ⟨by omega,by simp only [Xj] at hlm; omega⟩).trans (by omega);refine gd 13 ⟨?_⟩;refine Zt rfl rfl rfl (fun hb=>?_) (fun hb=>?_)
   . rw [hnl] at hb;have hil:k<xs.length:=by have:=Y0u hb; omega
     clear hb;refine gd 18 ⟨?_⟩;refine Qr (Zl (xs:=xs) (g:=prC) rfl rfl k rfl hil rfl) ?_;refine gd 22 ⟨?_⟩;refine Qr (ZS rfl hdec) ?_;refine Qr (Zl (xs:=xs) (g:=prC) rfl rfl (k-1) rfl (by omega) rfl) ?_;refine gd 25 ⟨?_⟩;refine Z9c (b:=pB xs[k] xs[k-1]) rfl rfl rfl (fun hx=>?_) (fun hx=>?_)
     . refine absurd ((ZgH _ _).1 hx).symm ?_;have:=hne (k-1) (by omega);simpa only [show k-1+1=k by omega] using this
     . refine go ?_;exact⟨k+1,⟨by omega,by omega⟩,by omega,⟨⟨rfl,hpi _⟩,⟨by show some _=some _; rw [hinc],Yt⟩,Yt⟩,Yt⟩
   . refine go ?_;exact Z8 rfl (Zk xs) rfl
def X6m (p q:Pr):Int:=if p.1=q.1 then (p.2:Int)-q.2 else (p.1:Int)-q.1
theorem Z9q (p q:Pr) (hp:p.1<64/\p.2<64) (hq:q.1<64/\q.2<64):X7 Tryz.prog 96 [.agg (prC p),.agg (prC q)] (· = .val (.int .i64 (X6m p q))):=by
 refine Yp ok96 fun C hC=>?_;have h1:IntKind.i64.wrap ((p.1:Int)-q.1)=(p.1:Int)-q.1:=Y0v _ ⟨by omega,by omega⟩;have h2:IntKind.i64.wrap ((p.2:Int)-q.2)=(p.2:Int)-q.2:=Y0v _ ⟨by omega,by omega⟩;refine Zm ?_;refine Z9 ?_;refine Z5 rfl rfl rfl ?_;refine Z5 rfl rfl rfl ?_;(refine go ?_;repeat' (apply B<;>intro hb<;>try cases hb))
 . have h3 : ¬ p.1 = q.1 := fun h => by rw [h] at hb; simp at hb
   exact Z8 rfl Yt (by rw [h1,X6m,Y8 h3])
 . have h3 : p.1 = q.1 := Y2t.1 (by simpa using hb);exact Z8 rfl Yt (by rw [h2,X6m,Y6 h3])
abbrev X6c:={ p:Pr // p.1<64/\p.2<64 }
theorem X6H {xs:List Pr} (h:XN xs):∃ l:List X6c,l.map (·.1)=xs:=by
 induction xs with
 | nil=>exact⟨[],rfl⟩
 | cons c xs ih =>
   obtain⟨l,hl⟩:=ih fun d hd=>h d (YB _ hd);exact⟨⟨c,h c (Y0t ..)⟩ :: l,by rw [Y1J,hl]⟩
def X5S (p:Pr):Nat:=64*p.1+p.2
theorem Zcc {n ob:Nat} {h:X2} (xs:List Pr) (hx:XN xs) (hh:h ob=some ⟨2,xs.map prC⟩) :
 XF Tryz.prog 95 n [.own ob,.fn 96 []] h fun n' r h'=>n'=n/\r=.tup []/\∃ ys:List Pr,ys.Perm xs/\ys.Pairwise (fun a b=>X5S a<=X5S b)/\h'=h.upd ob ⟨2,ys.map prC⟩:=by
 obtain⟨l,rfl⟩:=X6H hx;have e:∀ l:List X6c,(l.map (·.1)).map prC=l.map fun c:X6c=>prC c.1:=fun l=>by rw [Y2o]; rfl
 rw [e] at hh
 have hs:=Z63 (P:=Tryz.prog) (ρ:=Z32) (n:=n) X5g ⟨_,Tryz.func95,by kernel_rfl,by kernel_rfl⟩ 2 (by decide) Zau Z9o (fun c:X6c=>prC c.1) (fun c=>rfl) (fun c=>Z4F c.1) (fun c:X6c=>X5S c.1) (fun a b:X6c=>X6m a.1 b.1) (fun a b=>by
  have h1:=a.2; have h2:=b.2;unfold X6m X5S
  split<;>omega) 96 [] Yt (fun a b=>Z9q a.1 b.1 a.2 b.2) l hh
 refine hs.mono ?_;rintro n' r h' ⟨h1,h2,ys,h3,h4,h5⟩;refine⟨h1,h2,ys.map (·.1),h3.map _,?_,by rw [e]; exact h5⟩;exact Y1w.2 h4
def Xz (l:List Pr):Prop:=l.Pairwise fun p q=>p.1<q.1 \/ p.1=q.1/\p.2<q.2
noncomputable def X4A (l:List Pr) (S:List Nat):List PV := [.val (.int .i64 64),.vec (l.map prC) true,.vec (tab (X2o (abv l))) false,.vec (tab (X2o (bel l))) false,.vec (XJ (Xe S)) false]
theorem Z1l (l:List Pr) (S:List Nat):X5 (X4A l S):=⟨Yt,Zk l,Z1G (Z20 _),Z1G (Z20 _),ZJ _,Yt⟩
def X6u (l:List Pr) (r:PV):Prop:=∃ S,r=.cp (X4A l S)
theorem Z9r {l:List Pr} (hl:XN l) (hn:l.Nodup) (hs:l.Pairwise fun a b=>X5S a<=X5S b):Xz l:=by
 have h:=hs.and hn;refine Y1C (fun {p q} hp hq h=>?_) h;have h1:=hl p hp;have h2:=hl q hq;obtain⟨h3,h4⟩:=h;unfold X5S at h3;have h5:¬ (p.1=q.1/\p.2=q.2):=fun h=>h4 (Y4a h.1 h.2);omega
theorem ZgK {l:List Pr} (hs:Xz l):∀ i (h:i+1<l.length),l[i]≠l[i+1]:=fun i h he=>by
 have:=(Y2N.1 hs) i (i+1) (by omega) h (by omega);rw [he] at this;omega
theorem Acy.perm {l m:List Pr} (h:Acy l) (hp:m.Perm l):Acy m:=h.sub fun p hpm=>hp.mem_iff.1 hpm
theorem XN.perm {l m:List Pr} (h:XN l) (hp:m.Perm l):XN m:=fun p hpm=>h p (hp.mem_iff.1 hpm)
theorem Zaw (l:List Pr) (fl:Bool) (hl:XN l) (hn:l.Nodup) (hacy:Acy l) (hlen:l.length<=1000000):X7 Tryz.prog 39 [.val (.int .i64 64),.vec (l.map prC) fl] fun r=>∃ l' o,l'.Perm l/\Xz l'/\X6u l' o/\r=.tup [o,.val (.int .i64 0)]:=by
 have hnl:=Z2q l;have hpl:∀ D,Xt D (l.map prC):=fun D=>Zd (fun _ h=>h.elim) _ (Zk l);refine Yp ok39 fun C hC=>?_;refine go ?_;refine Zz hC (fun i=>i<=l.length) (fun i=>l.length-i) 0 (fun i => [(0,.val (.int .i64 64)),(1,.vec (l.map prC) fl),(16,.vec (l.map prC) fl),(17,.val (.int .i64 l.length)),(18,Yv i)]) (fun _=>[]) (Y0l _) 0 (Y0l _)
  ⟨⟨rfl,Yt⟩,⟨rfl,hpl _⟩,⟨rfl,hpl _⟩,⟨by rw [<- hnl]; rfl,Yt⟩,⟨rfl,Yt⟩,Yt⟩ Yt ?_
 intro i hi;have hinc:IntKind.i64.wrap ((i:Int)+1)=((i+1:Nat):Int):=Y0v _ ⟨by omega,by omega⟩;refine gd 19 ⟨?_⟩;refine Zt rfl rfl rfl (fun hb=>?_) (fun hb=>?_)
 . have hil : i < l.length := by have := Y0u hb; omega
   have hp:=hl _ (Y0j hil);clear hb;refine go ?_;refine Qo (Zl (xs:=l) (g:=prC) rfl rfl i rfl hil rfl) ?_;generalize l[i]=p at hp ⊢;(refine go ?_;repeat' (apply B<;>intro hb<;>try cases hb))
   . refine absurd (Y0u hb) ?_
     split<;>omega
   . rename_i hb2;refine absurd (Y0u hb) ?_
     split<;>omega
   . exact⟨i+1,by omega,by omega,⟨⟨rfl,Yt⟩,⟨rfl,hpl _⟩,⟨rfl,hpl _⟩,⟨rfl,Yt⟩,⟨by show some _=some _; rw [hinc],Yt⟩,Yt⟩,Yt⟩
 . have hil : i = l.length := by have := YC hb; omega
   subst hil;clear hb
   repeat' (first|refine Za (Zy (k:=38) rfl 2 (by decide)) ?_|(first|refine st ?_|(apply B<;>intro hb<;>try cases hb)))
   refine ZH (Zu (k:=0) (m:=l.map prC) (fl:=fl) (b:=⟨2,[]⟩) rfl rfl rfl (fun c hc=>by obtain⟨y,_,rfl⟩:=Y0i.1 hc; rfl) rfl (by
    show (0+(l.map prC).length)*16<=_
    rw [hnl];omega)) rfl rfl ?_
   refine go ?_;refine Z10 rfl rfl (Zcc (n:=_) (ob:=1) l hl rfl) ?_;rintro n' r h' ⟨rfl,rfl,ys,hys1,hys2,rfl⟩;have hyl:=hl.perm hys1;have hso:=Z9r hyl (hys1.nodup_iff.2 hn) hys2;have hylen:ys.length<=1000000:=by rw [hys1.length_eq]; exact hlen
   refine gd 43 ⟨?_⟩;refine Za (Zj (k:=8) (id:=1) rfl rfl (Zk ys)) ?_;refine go ?_;refine Qe (Z9p ys false (ZgK hso)) ⟨Zk ys,Yt⟩ ?_;refine Qe (ZeX ys false) ⟨Zk ys,Yt⟩ ?_;refine go ?_;refine ZU (ZeU ys true hyl (hacy.perm hys1) hylen) rfl rfl rfl rfl ⟨⟨Yt,Zk ys,Yt,Yt,Yt,Yt⟩,Yt⟩ Yt ?_;rintro r b' - - ⟨rfl,S,hT,h64,rfl⟩;refine go ?_;refine ZU (Zca ys true hyl hylen S hT h64) rfl rfl rfl rfl ⟨⟨Yt,Zk ys,Yt,Yt,ZJ _,Yt⟩,Yt⟩ Yt ?_;rintro r b' - - ⟨rfl,rfl⟩;refine gd 54 ⟨?_⟩;refine Za (Z1s (k:=9) (l:=X4A ys S) rfl rfl (Z1l ys S)) ?_;refine go ?_;exact Z8 rfl ⟨Z1l ys S,Yt,Yt⟩ ⟨ys,_,hys1,hso,⟨S,rfl⟩,rfl⟩
theorem Z9s (l:List Pr) (S:List Nat) (a:Int):X7 Tryz.prog 146 [.cp (X4A l S),.val (.int .i64 a)] (· = .val (.bool (decide (0<=a)&&decide (a<64)))):=by
 refine Yp ok146 fun C hC=>?_;(refine go ?_;repeat' (apply B<;>intro hb<;>try cases hb))
 . have h1 := Y0u hb;rename_i hb2;exact Z8 rfl Yt (by simp_all)
 . exact Z8 rfl Yt (by simp_all)
 . exact Z8 rfl Yt (by simp_all;omega)
theorem Z8x (l:List Pr) (S:List Nat) (hlen:l.length<=1000000):X1y Tryz.prog 148 [.cp (X4A l S)] .own ⟨2,l.map prC⟩:=by
 refine Z1A ok148 (Y0 rfl) fun C hC=>?_;refine go ?_;refine Z3B (ZeW l true hlen) Z3j (by exact Zk l) rfl rfl ⟨Zk l,Yt⟩ ?_;refine go ?_;exact⟨_,_,rfl,.inl rfl,_,rfl,rfl⟩
theorem Zcg (l:List Pr) (S:List Nat) (hlen:l.length<=1000000):X7 Tryz.prog 148 [.cp (X4A l S)] (· = .vec (l.map prC) false) :=
 (Z8x l S hlen).spec (Zk l) (fun _=>.own) (Zk l)
theorem Zch (l:List Pr) (S:List Nat) (a:Int):X7 Tryz.prog 145 [.cp (X4A l S),.val (.int .i64 a)] (· = XG (if 0<=a/\a<64 then bel l a.toNat else 0)):=by
 refine Yp ok145 fun C hC=>?_;refine go ?_;refine Qe (Z9s l S a) ⟨Z1l l S,Yt,Yt⟩ ?_;by_cases h:0<=a/\a<64
 . rw [Y6 h, Yw h.1, Yw h.2];obtain⟨k,rfl⟩:∃ k:Nat,a=(k:Int):=⟨a.toNat,by omega⟩
   have hk:k<64:=by omega
   have hkl:k<(List.range 64).length:=by simpa using hk
   refine gd 15 ⟨?_⟩;refine Qo (Zl (xs:=List.range 64) (g:=X2o (bel l)) rfl rfl k rfl hkl rfl) ?_;rw [Y2d];refine go ?_;exact Z8 rfl (Z2 _) rfl
 . rw [Y8 h];have h2:(decide (0<=a)&&decide (a<64))=false:=by
    rw [Y41];by_cases h1:0<=a
    . exact .inr (Y0w fun h3=>h ⟨h1,h3⟩)
    . exact .inl (Y0w h1)
   rw [h2];refine go ?_;refine Z1K rfl (Z2 0 |> fun h=>by rw [Z1X] at h; exact h) ?_;rw [Z1X]; rfl
theorem Zci (l:List Pr) (S:List Nat) (a:Int):X7 Tryz.prog 123 [.cp (X4A l S),.val (.int .i64 a)] (· = XG (if 0<=a/\a<64 then abv l a.toNat else 0)):=by
 refine Yp ok123 fun C hC=>?_;refine go ?_;refine Qe (Z9s l S a) ⟨Z1l l S,Yt,Yt⟩ ?_;by_cases h:0<=a/\a<64
 . rw [Y6 h, Yw h.1, Yw h.2];obtain⟨k,rfl⟩:∃ k:Nat,a=(k:Int):=⟨a.toNat,by omega⟩
   have hk:k<64:=by omega
   have hkl:k<(List.range 64).length:=by simpa using hk
   refine gd 15 ⟨?_⟩;refine Qo (Zl (xs:=List.range 64) (g:=X2o (abv l)) rfl rfl k rfl hkl rfl) ?_;rw [Y2d];refine go ?_;exact Z8 rfl (Z2 _) rfl
 . rw [Y8 h];have h2:(decide (0<=a)&&decide (a<64))=false:=by
    rw [Y41];by_cases h1:0<=a
    . exact .inr (Y0w fun h3=>h ⟨h1,h3⟩)
    . exact .inl (Y0w h1)
   rw [h2];refine go ?_;refine Z1K rfl (Z2 0 |> fun h=>by rw [Z1X] at h; exact h) ?_;rw [Z1X]; rfl
theorem ZeZ (l:List Pr) (S:List Nat) (a b:Nat) (ha:a<64) (hb:b<64) (hl:XN l) (hn:l.Nodup) (hno:(a,b) ∉ l) (hacy:Acy (l ++ [(a,b)])) (hlen:l.length<=100000):X7 Tryz.prog 111 [.cp (X4A l S),.val (.int .i64 (a:Int)),.val (.int .i64 (b:Int))] fun r=>∃ l' o,l'.Perm (l ++ [(a,b)])/\Xz l'/\X6u l' o/\r=.tup [o,.val (.int .i64 0)]:=by
 have hi:∀ c:Nat,c<64->X7 Tryz.prog 146 [.cp (X4A l S),.val (.int .i64 (c:Int))] (· = .val (.bool true)):=fun c hc=>by
  have:=Z9s l S (c:Int)
  rwa [Yw (show (0:Int)<=c by omega),Yw (show (c:Int)<64 by omega)] at this
 have hcon:=Z84 l (a,b) true;rw [Y0w hno] at hcon;have hl2:XN (l ++ [(a,b)]):=fun p hp=>(Y0h.1 hp).elim (hl p) fun h=>by rw [Y0g] at h; subst h; exact⟨ha,hb⟩
 have hn2:(l ++ [(a,b)]).Nodup:=by
  rw [Y2I];exact⟨hn,by simp,fun x hx y hy e=>by rw [Y0g] at hy; subst hy; subst e; exact hno hx⟩
 refine Yp ok111 fun C hC=>?_;refine go ?_;refine Qe (hi a ha) ⟨Z1l l S,Yt,Yt⟩ ?_;refine go ?_;refine Qe (hi b hb) ⟨Z1l l S,Yt,Yt⟩ ?_;refine go ?_;refine Qe hcon ⟨Zk l,Z4F _,Yt⟩ ?_
 repeat' (first|refine Z60 [10] ?_|(first|refine st ?_|(apply B<;>intro hb<;>try cases hb)))
 refine Z6F (Z8x l S (by omega)) Z3j (by exact Zk l) rfl rfl rfl ⟨Z1l l S,Yt⟩ ?_;refine gd 38 ⟨?_⟩;have hap:(l.map prC) ++ [prC (a,b)]=(l ++ [(a,b)]).map prC:=by rw [Y0r]; rfl
 refine ZbM (k:=5) (m := [prC (a,b)]) (fl:=true) (b:=⟨2,l.map prC⟩) rfl rfl rfl (fun c hc=>by rw [Y0g] at hc; subst hc; rfl) rfl (by
  show ((l.map prC).length+1)*16<=_
  rw [Z2q];omega) (by show X1 (l.map prC ++ [prC (a,b)]); rw [hap]; exact Zk _) rfl rfl ?_
 show dK _ _ _ _ (Env.upd _ 38 (.vec (l.map prC ++ [prC (a,b)]) false)) _ _;rw [hap];have hnew:=Zaw (l ++ [(a,b)]) false hl2 hn2 hacy (by rw [Y0e,Y0s];omega);refine Z41 rfl rfl (.inl rfl) hnew ⟨Yt,Zk _,Yt⟩ ?_;rintro r ⟨l',o,h1,h2,⟨S',rfl⟩,rfl⟩;refine go ?_;exact Z8 rfl ⟨Z1l l' S',Yt,Yt⟩ ⟨l',_,h1,h2,⟨S',rfl⟩,rfl⟩
theorem Z9t (i:Nat) (h:i<64):IntKind.u64.wrap (1*2 ^ (min ((i:Nat):Int).toNat IntKind.u64.bits))=((2 ^ i:Nat):Int):=by
 rw [show min ((i:Nat):Int).toNat IntKind.u64.bits=i by show min i 64=i; omega,Y49];have h2:=ZP h;have e:((2:Int) ^ i)=((2 ^ i:Nat):Int):=by rw [Y4D]; rfl
 rw [e];exact Y0x _ ⟨Y1Y _,Y38.2 (show _<=18446744073709551615 by omega)⟩
theorem Zf0 (a:Int):X7 Tryz.prog 105 [.val (.int .i64 a)] (· = .val (.bool (decide (1<=a)&&decide (a<=63)))):=by
 refine Yp ok105 fun C hC=>?_;(refine go ?_;repeat' (apply B<;>intro hb<;>try cases hb))
 all_goals exact Z8 rfl Yt (by simp_all<;>omega)
theorem Z5B (a:Nat) (h1:1<=a) (h2:a<64):X7 Tryz.prog 105 [.val (.int .i64 (a:Int))] (· = .val (.bool true)):=by
 have:=Zf0 (a:Int)
 rwa [Yw (show (1:Int)<=a by omega),Yw (show (a:Int)<=63 by omega)] at this
theorem Z5C (l:List Pr) (fl:Bool) (hl:XN l) (r:Nat) (hr1:1<=r) (hr:r<64):X7 Tryz.prog 108 [.vec (l.map prC) fl,.val (.int .i64 (r:Int))] (· = .val (.int .u64 (jun l r:Nat))):=by
 have hnl:=Z2q l;have hpl:∀ D,Xt D (l.map prC):=fun D=>Zd (fun _ h=>h.elim) _ (Zk l);refine Yp ok108 fun C hC=>?_;refine Z40 (k:=0) rfl fun hmax=>?_;have hlm:l.length<=Xj:=by rw [<- hnl]; exact hmax
 refine go ?_;refine Qe (Z5B r hr1 hr) ⟨Yt,Yt⟩ ?_;refine gd 13 ⟨?_⟩;refine Qo (ZeE rfl rfl (by omega) (Z9t r hr)) ?_;refine go ?_;refine Zz hC (fun s=>X3j l r s) (fun s=>18446744073709551616-s) 0 (fun s => [(0,.vec (l.map prC) fl),(5,.val (.int .u64 (s:Int)))]) (fun _=>[]) (Y0l _) (2 ^ r) (X3j.init hr) ⟨⟨rfl,hpl _⟩,⟨rfl,Yt⟩,Yt⟩ Yt ?_;intro s hs;have hs64:=hs.lt;refine go ?_;refine Zz hC (fun i=>i<=l.length) (fun i=>l.length-i) 0 (fun i => [(0,.vec (l.map prC) fl),(5,.val (.int .u64 (s:Int))),(6,.val (.int .u64 ((l.take i).foldl (fun n x=>if s.testBit x.1=true then n ||| 2 ^ x.2 else n) s:Nat))),(15,.vec (l.map prC) fl),(16,.val (.int .i64 l.length)),(17,Yv i)]) (fun _=>[]) (Y0l _) 0 (Y0l _)
  ⟨⟨rfl,hpl _⟩,⟨rfl,Yt⟩,⟨rfl,Yt⟩,⟨rfl,hpl _⟩,⟨by rw [<- hnl]; rfl,Yt⟩,⟨rfl,Yt⟩,Yt⟩ Yt ?_
 intro i hi;have hinc:IntKind.i64.wrap ((i:Int)+1)=((i+1:Nat):Int):=Y0v _ ⟨by omega,by simp only [Xj] at hlm; omega⟩;have hcur:=Zav (l:=l.take i) (fun p hp=>hl p (YM hp)) s s hs64;refine gd 18 ⟨?_⟩;refine Zt rfl rfl rfl (fun hb=>?_) (fun hb=>?_)
 . have hil : i < l.length := by have := Y0u hb; omega
   have hp:=hl _ (Y0j hil);have htk:=ZeY hil s s;clear hb;generalize (l.take i).foldl (fun n x=>if s.testBit x.1=true then n ||| 2 ^ x.2 else n) s=cur at hcur htk ⊢;refine go ?_;refine Qo (Zl (xs:=l) (g:=prC) rfl rfl i rfl hil rfl) ?_;generalize l[i]=p at hp htk ⊢;(refine go ?_;repeat' (apply B<;>intro hb<;>try cases hb))
   . rw [Z44 s p.1 hp.1, Z3y s p.1, Z7a s p.1] at hb;rw [Y6 hb] at htk;clear hb;have hor:bits .or .u64 (cur:Int) (IntKind.u64.wrap (1*2 ^ (min ((p.2:Nat):Int).toNat IntKind.u64.bits)))=((cur ||| 2 ^ p.2:Nat):Int):=by
      rw [Z9t p.2 hp.2]; exact Y1H cur (2 ^ p.2) hcur (ZP hp.2)
     exact⟨i+1,by omega,by omega,⟨⟨rfl,hpl _⟩,⟨rfl,Yt⟩,⟨by rw [htk,<- hor]; rfl,Yt⟩,⟨rfl,hpl _⟩,⟨rfl,Yt⟩,⟨by show some _=some _; rw [hinc],Yt⟩,Yt⟩,Yt⟩
   . rw [Z44 s p.1 hp.1, Z3y s p.1, Z7a s p.1] at hb;rw [Y8 (by rw [hb]; decide)] at htk;exact⟨i+1,by omega,by omega,⟨⟨rfl,hpl _⟩,⟨rfl,Yt⟩,⟨by rw [htk]; rfl,Yt⟩,⟨rfl,hpl _⟩,⟨rfl,Yt⟩,⟨by show some _=some _; rw [hinc],Yt⟩,Yt⟩,Yt⟩
 . have hil : i = l.length := by have := YC hb; omega
   subst hil;rw [Y0q];rw [Y0q] at hcur;clear hb;have hst:=hs.step hl;have hst64:=hst.lt;(refine go ?_;repeat' (apply B<;>intro hb<;>try cases hb))
   . have he : X2u l s = s := by
      have:=eq_of_beq hb;exact Y2t.1 this
     rw [<- hs.done hl hr he];exact Z8 rfl Yt rfl
   . have he : X2u l s ≠ s := fun h => by
      rw [show l.foldl (fun n x=>if s.testBit x.1=true then n ||| 2 ^ x.2 else n) s=s from h] at hb;simp at hb
     have hg:=Zcd l s he;exact⟨X2u l s,hst,by omega,⟨⟨rfl,hpl _⟩,⟨rfl,Yt⟩,Yt⟩,Yt⟩
theorem Z9u (l:List Pr) (fl:Bool) (hl:XN l) (r s:Nat) (hr1:1<=r) (hr:r<64) (hs1:1<=s) (hs:s<64):X7 Tryz.prog 107 [.vec (l.map prC) fl,.val (.int .i64 (r:Int)),.val (.int .i64 (s:Int))] (· = .val (.bool ((jun l r).testBit s))):=by
 refine Yp ok107 fun C hC=>?_;refine go ?_;refine Qe (Z5B s hs1 hs) ⟨Yt,Yt⟩ ?_;refine go ?_;refine Qe (Z5C l fl hl r hr1 hr) ⟨Zk l,Yt,Yt⟩ ?_;(refine go ?_;repeat' (apply B<;>intro hb<;>try cases hb))
 all_goals
  rw [Z44 _ s hs,Z3y _ s,Z7a _ s] at hb;exact Z8 rfl Yt (by rw [hb])
theorem Z8y {α:Type} {S:List α} {t:Nat} (ht:t<S.length):S.take (t+1)=S.take t ++ [S[t]]:=by rw [YW,Y0c ht]; rfl
theorem ZgL (l:List Pr) (fl:Bool) (a b:Nat):X7 Tryz.prog 106 [.vec (l.map prC) fl,.val (.int .i64 (a:Int)),.val (.int .i64 (b:Int))] (· = .val (.bool (decide ((a,b)∈l)))):=by
 have hnl:=Z2q l;have hpl:∀ D,Xt D (l.map prC):=fun D=>Zd (fun _ h=>h.elim) _ (Zk l);refine Yp ok106 fun C hC=>?_;refine Z40 (k:=0) rfl fun hmax=>?_;have hlm:l.length<=Xj:=by rw [<- hnl]; exact hmax
 refine go ?_;refine Zz hC (fun i=>i<=l.length/\(a,b) ∉ l.take i) (fun i=>l.length-i) 0 (fun i => [(1,.val (.int .i64 (a:Int))),(2,.val (.int .i64 (b:Int))),(9,.vec (l.map prC) fl),(10,.val (.int .i64 l.length)),(11,Yv i)]) (fun _=>[]) (Y0l _) 0 ⟨Y0l _,by simp⟩
  ⟨⟨rfl,Yt⟩,⟨rfl,Yt⟩,⟨rfl,hpl _⟩,⟨by rw [<- hnl]; rfl,Yt⟩,⟨rfl,Yt⟩,Yt⟩ Yt ?_
 rintro i ⟨hi,hno⟩;have hinc:IntKind.i64.wrap ((i:Int)+1)=((i+1:Nat):Int):=Y0v _ ⟨by omega,by simp only [Xj] at hlm; omega⟩;refine gd 12 ⟨?_⟩;refine Zt rfl rfl rfl (fun hb=>?_) (fun hb=>?_)
 . have hil : i < l.length := by have := Y0u hb; omega
   have htk:=Z8y hil;have hmem:=Y0j hil;clear hb;refine go ?_;refine Qo (Zl (xs:=l) (g:=prC) rfl rfl i rfl hil rfl) ?_;generalize l[i]=p at htk hmem ⊢;have hnext:¬ (a,b)=p->(a,b) ∉ l.take (i+1):=fun h hh=>by
    rw [htk] at hh;rcases Y0h.1 hh with hh|hh
    . exact hno hh
    . exact h (Y0g.1 hh)
   (refine go ?_;repeat' (apply B<;>intro hb<;>try cases hb))
   . rename_i hb2;have h1:p.1=a:=Y2t.1 (by simpa using hb2);have h2:p.2=b:=Y2t.1 (by simpa using hb);refine Z8 rfl Yt ?_;rw [Yw];rw [<- h1,<- h2]; exact hmem
   . have h2 : ¬ p.2 = b := fun h => by rw [h] at hb; simp at hb
     exact⟨i+1,⟨by omega,hnext fun h=>h2 (by rw [<- h])⟩,by omega,⟨⟨rfl,Yt⟩,⟨rfl,Yt⟩,⟨rfl,hpl _⟩,⟨rfl,Yt⟩,⟨by show some _=some _; rw [hinc],Yt⟩,Yt⟩,Yt⟩
   . have h2 : ¬ p.1 = a := fun h => by rw [h] at hb; simp at hb
     exact⟨i+1,⟨by omega,hnext fun h=>h2 (by rw [<- h])⟩,by omega,⟨⟨rfl,Yt⟩,⟨rfl,Yt⟩,⟨rfl,hpl _⟩,⟨rfl,Yt⟩,⟨by show some _=some _; rw [hinc],Yt⟩,Yt⟩,Yt⟩
 . have hil : i = l.length := by have := YC hb; omega
   subst hil;rw [Y0q] at hno;clear hb;refine go ?_;exact Z8 rfl Yt (by rw [Y0w hno])
theorem Z2B (l:List Pr) (fl:Bool) (hl:XN l) (s:Nat) (hs:s<18446744073709551616):X7 Tryz.prog 48 [.vec (l.map prC) fl,.val (.int .u64 (s:Int))] (· = .val (.int .u64 (clo l s:Nat))):=by
 have hpl:∀ D,Xt D (l.map prC):=fun D=>Zd (fun _ h=>h.elim) _ (Zk l);refine Yp ok48 fun C hC=>?_;refine go ?_;refine Zz hC (fun r=>1<=r/\r<=64) (fun r=>64-r) 0 (fun r => [(0,.vec (l.map prC) fl),(1,.val (.int .u64 (s:Int))),(5,.val (.int .u64 (X39 l s r:Nat))),(6,.val (.int .i64 (r:Int)))]) (fun _=>[]) (Y0l _) 1 ⟨Y0m _,by decide⟩
  ⟨⟨rfl,hpl _⟩,⟨rfl,Yt⟩,⟨by rw [ZgI]; rfl,Yt⟩,⟨rfl,Yt⟩,Yt⟩ Yt ?_
 rintro r ⟨hr1,hr⟩;have hinc:IntKind.i64.wrap ((r:Int)+1)=((r+1:Nat):Int):=Y0v _ ⟨by omega,by omega⟩;have hcur:=ZdD l s hr;have hstep:=Z8w l s r;refine gd 8 ⟨?_⟩;refine Zt rfl rfl rfl (fun hb=>?_) (fun hb=>?_)
 . have hrl : r < 64 := by have := Y0u hb; omega
   clear hb;have hor:=Y1H (X39 l s r) (jun l r) hcur (ZdC l hrl);(refine go ?_;repeat' (apply B<;>intro hb<;>try cases hb))
   . rw [Z44 _ r hrl, Z3y _ r, Z7a _ r] at hb;rw [Y6 ⟨hb,hr1⟩] at hstep;refine Qe (Z5C l fl hl r hr1 hrl) ⟨Zk l,Yt,Yt⟩ ?_;(refine go ?_;repeat' (apply B<;>intro hb<;>try cases hb));exact⟨r+1,⟨by omega,by omega⟩,by omega,⟨⟨rfl,hpl _⟩,⟨rfl,Yt⟩,⟨by rw [hstep,<- hor]; rfl,Yt⟩,⟨by show some _=some _; rw [hinc],Yt⟩,Yt⟩,Yt⟩
   . rw [Z44 _ r hrl, Z3y _ r, Z7a _ r] at hb;rw [Y8 (fun h=>by rw [hb] at h; exact absurd h.1 (by decide))] at hstep;exact⟨r+1,⟨by omega,by omega⟩,by omega,⟨⟨rfl,hpl _⟩,⟨rfl,Yt⟩,⟨by rw [hstep]; rfl,Yt⟩,⟨by show some _=some _; rw [hinc],Yt⟩,Yt⟩,Yt⟩
 . have hrl : r = 64 := by have := YC hb; omega
   subst hrl;clear hb;refine go ?_;exact Z8 rfl Yt rfl
def ltP (p q:Pr):Prop:=p.1<q.1 \/ p.1=q.1/\p.2<q.2
instance (p q:Pr):Decidable (ltP p q):=inferInstanceAs (Decidable (_ \/ _))
def X2r (l:List Pr) (p:Pr) (l':List Pr):Prop:=l'=l \/ (p ∉ l/\∃ i,i<=l.length/\(∀ q∈l.take i,ltP q p)/\(∀ q,l[i]?=some q->¬ ltP q p)/\l'=l.take i++p :: l.drop i)
theorem X2r.sorted {l:List Pr} {p:Pr} {l':List Pr} (h:X2r l p l') (hs:Xz l):Xz l':=by
 rcases h with rfl|⟨hp,i,hi,h1,h2,rfl⟩
 . exact hs
 . have hd : Xz (l.take i) /\ Xz (l.drop i) /\ ∀ a ∈ l.take i, ∀ b ∈ l.drop i, ltP a b := by
    have:=hs;unfold Xz at this;rw [<- Y3W i l,Y2i] at this;exact this
   obtain⟨d1,d2,d3⟩:=hd;have h3:∀ q∈l.drop i,ltP p q:=by
    cases hdr:l.drop i with
    | nil=>intro q hq; cases hq
    | cons x r =>
      have hx:l[i]?=some x:=by
       have:=congrArg List.head? hdr;rw [List.head?_drop] at this;exact this
      have hne:x≠p:=fun e=>hp (by rw [<- e]; exact YG hx);have hpx:ltP p x:=by
       have h4:=h2 x hx;have h5:¬ (x.1=p.1/\x.2=p.2):=fun h=>hne (Y4a h.1 h.2);unfold ltP at h4 ⊢;omega
      intro q hq;rcases YD.1 hq with rfl|hq
      . exact hpx
      . rw [hdr] at d2;have h6:ltP x q:=(Y14.1 d2).1 q hq;unfold ltP at hpx h6 ⊢;omega
   show List.Pairwise _ _;rw [Y2i];refine⟨d1,Y14.2 ⟨h3,d2⟩,fun a ha b hb=>?_⟩;rcases YD.1 hb with rfl|hb
   . exact h1 a ha
   . exact d3 a ha b hb
theorem X2r.mem {l:List Pr} {p:Pr} {l':List Pr} (h:X2r l p l'):∀ q∈l',q∈l \/ q=p:=by
 rcases h with rfl|⟨hp,i,hi,h1,h2,rfl⟩
 . exact fun q hq=>.inl hq
 . intro q hq;rcases Y0h.1 hq with hq|hq
   . exact .inl (YM hq)
   . rcases YD.1 hq with rfl | hq
     . exact .inr rfl
     . exact .inl (Y1j hq)
theorem X2r.len {l:List Pr} {p:Pr} {l':List Pr} (h:X2r l p l'):l'.length<=l.length+1:=by
 rcases h with rfl|⟨hp,i,hi,h1,h2,rfl⟩
 . omega
 . rw [Y0e,Y04,Y0o,YV]; omega
theorem Zf1 (l:List Pr) (fl:Bool) (hl:XN l) (a b:Nat) (ha:1<=a/\a<64) (hb0:1<=b/\b<64) (hab:a≠b) (hlen:l.length<=100000):X7 Tryz.prog 45 [.vec (l.map prC) fl,.val (.int .i64 (a:Int)),.val (.int .i64 (b:Int))] fun r=>∃ l' fl' e,X2r l (a,b) l'/\r=.tup [.vec (l'.map prC) fl',.val (.int .i64 e)]:=by
 have hnl:=Z2q l;have hpl:∀ D,Xt D (l.map prC):=fun D=>Zd (fun _ h=>h.elim) _ (Zk l);have hne:((a:Int) == (b:Int))=false:=by rw [Y2p]; omega
 refine Yp ok45 fun C hC=>?_;refine go ?_;refine Qe (Z5B a ha.1 ha.2) ⟨Yt,Yt⟩ ?_;refine go ?_;refine Qe (Z5B b hb0.1 hb0.2) ⟨Yt,Yt⟩ ?_;refine gd 20 ⟨?_⟩;refine Zn rfl ?_;refine Qo (Z4 rfl hne) ?_;refine go ?_;refine Qe (ZgL l fl a b) ⟨Zk l,Yt,Yt,Yt⟩ ?_;by_cases hin:(a,b)∈l
 . rw [Yw hin];refine go ?_;exact Z8 rfl ⟨Zk l,Yt,Yt⟩ ⟨l,fl,5,.inl rfl,rfl⟩
 rw [Y0w hin];refine go ?_;refine Qe (Z9u l fl hl b a hb0.1 hb0.2 ha.1 ha.2) ⟨Zk l,Yt,Yt,Yt⟩ ?_;generalize (jun l b).testBit a=v;cases v
 case true =>
  refine go ?_;exact Z8 rfl ⟨Zk l,Yt,Yt⟩ ⟨l,fl,16,.inl rfl,rfl⟩
 refine gd 8 ⟨?_⟩;refine Z0 rfl rfl rfl ?_;refine Z1M ?_;refine ZbW (X:=Nat) hC (fun i=>i<=l.length/\(∀ q∈l.take i,ltP q (a,b))/\(∀ q,l[i]?=some q->¬ ltP q (a,b))) 0 (fun i => [(0,.vec (l.map prC) fl),(1,.val (.int .i64 (a:Int))),(2,.val (.int .i64 (b:Int))),(8,Yv i)]) (fun _=>[]) (Y0l _) ?_ ?_
 . refine go ?_;refine Zz hC (fun i=>i<=l.length/\∀ q∈l.take i,ltP q (a,b)) (fun i=>l.length-i) 0 (fun i => [(0,.vec (l.map prC) fl),(1,.val (.int .i64 (a:Int))),(2,.val (.int .i64 (b:Int))),(8,Yv i)]) (fun _=>[]) (Y0l _) 0 ⟨Y0l _,by simp⟩ ⟨⟨rfl,hpl _⟩,⟨rfl,Yt⟩,⟨rfl,Yt⟩,⟨rfl,Yt⟩,Yt⟩ Yt ?_;rintro i ⟨hi,hlt⟩;have hinc:IntKind.i64.wrap ((i:Int)+1)=((i+1:Nat):Int):=Y0v _ ⟨by omega,by omega⟩;refine gd 36 ⟨?_⟩;refine Zt rfl rfl rfl (fun hb=>?_) (fun hb=>?_)
   . rw [hnl] at hb;have hil:i<l.length:=by have:=Y0u hb; omega
     have htk:=Z8y hil;have hget:l[i]?=some l[i]:=Y0c hil;clear hb;refine gd 40 ⟨?_⟩;refine Zn rfl ?_;refine Qo (Zl (xs:=l) (g:=prC) rfl rfl i rfl hil rfl) ?_;have ei:∀ {e:Env} {h:X2} {x j:Operand} {n:Nat},ev e x=some (.vec (l.map prC) fl)->ev e j=some (Yv i)->X3 (.iaddr 2 x j) e h n=some (.cp (prC l[i]),h):=fun h1 h2=>Zl (xs:=l) (g:=prC) h1 h2 i rfl hil rfl;generalize l[i]=p at htk hget ei ⊢;have stop:¬ ltP p (a,b)->∀ q,l[i]?=some q->¬ ltP q (a,b):=fun h q hq=>by rw [hget] at hq; cases hq; exact h
     have more:ltP p (a,b)->∀ q∈l.take (i+1),ltP q (a,b):=fun h q hq=>by
      rw [htk] at hq;rcases Y0h.1 hq with hq|hq
      . exact hlt q hq
      . rw [Y0g] at hq; subst hq; exact h
     refine gd 44 ⟨?_⟩;refine Zn rfl ?_;refine Zt rfl rfl rfl (fun hb=>?_) (fun hb=>?_)
     . have h1 : p.1 < a := by have := Y0u hb; omega
       refine go ?_;exact⟨i+1,⟨by omega,more (.inl h1)⟩,by omega,⟨⟨rfl,hpl _⟩,⟨rfl,Yt⟩,⟨rfl,Yt⟩,⟨by show some _=some _; rw [hinc],Yt⟩,Yt⟩,Yt⟩
     . have h1 : ¬ p.1 < a := by have := YC hb; omega
       refine gd 48 ⟨?_⟩;refine Zn rfl ?_;refine Qo (ei rfl rfl) ?_;refine gd 52 ⟨?_⟩;refine Zn rfl ?_;refine Zt rfl rfl rfl (fun hb=>?_) (fun hb=>?_)
       . have h2 : p.1 = a := Y2t.1 (eq_of_beq hb);refine gd 56 ⟨?_⟩;refine Zn rfl ?_;refine Qo (ei rfl rfl) ?_;refine gd 60 ⟨?_⟩;refine Zn rfl ?_;refine Zt rfl rfl rfl (fun hb=>?_) (fun hb=>?_)
         . have h3 : p.2 < b := by have := Y0u hb; omega
           refine go ?_;exact⟨i+1,⟨by omega,more (.inr ⟨h2,h3⟩)⟩,by omega,⟨⟨rfl,hpl _⟩,⟨rfl,Yt⟩,⟨rfl,Yt⟩,⟨by show some _=some _; rw [hinc],Yt⟩,Yt⟩,Yt⟩
         . have h3 : ¬ p.2 < b := by have := YC hb; omega
           refine go ?_;exact⟨i,⟨hi,hlt,stop (by unfold ltP; show ¬ (p.1<a \/ p.1=a/\p.2<b);omega)⟩,⟨⟨rfl,hpl _⟩,⟨rfl,Yt⟩,⟨rfl,Yt⟩,⟨rfl,Yt⟩,Yt⟩,Yt⟩
       . have h2 : ¬ p.1 = a := fun h => by rw [h] at hb; simp at hb
         refine go ?_;exact⟨i,⟨hi,hlt,stop (by unfold ltP; show ¬ (p.1<a \/ p.1=a/\p.2<b);omega)⟩,⟨⟨rfl,hpl _⟩,⟨rfl,Yt⟩,⟨rfl,Yt⟩,⟨rfl,Yt⟩,Yt⟩,Yt⟩
   . rw [hnl] at hb;have hil:i=l.length:=by have:=YC hb; omega
     clear hb;refine go ?_;exact⟨i,⟨hi,hlt,fun q hq=>by rw [hil,Y2F (Y0m _)] at hq; cases hq⟩,⟨⟨rfl,hpl _⟩,⟨rfl,Yt⟩,⟨rfl,Yt⟩,⟨rfl,Yt⟩,Yt⟩,Yt⟩
 . rintro i ⟨hi, h1, h2⟩
   repeat' (first|refine Z60 [0,13] ?_|(first|refine st ?_|(apply B<;>intro hb<;>try cases hb)))
   refine Zit rfl rfl rfl ?_;refine go ?_;have hm:∀ c∈l.map prC,c.length=2:=fun c hc=>by obtain⟨y,_,rfl⟩:=Y0i.1 hc; rfl
   have ht:(l.take i).length=i:=by rw [Y0o]; omega
   refine Qr (Zgc (xs:=l) (g:=prC) rfl 0 i rfl rfl (Y0l _) hi (fun _=>rfl)) ?_;rw [Y12]
   refine Qr (Zu (k:=0) (b:=⟨2,[]⟩) rfl rfl rfl (fun c hc=>hm c (by rw [Y2r] at hc; exact YM hc)) rfl (by
    show (0+((l.take i).map prC).length)*16<=_
    rw [Z2q];omega)) ?_
   refine gd 75 ⟨?_⟩
   refine Qr (Zu (k:=4) (m := [prC (a,b)]) (fl:=true) (b:=⟨2,[]++(l.take i).map prC⟩) rfl rfl rfl (fun c hc=>by rw [Y0g] at hc; subst hc; rfl) rfl (by
    show (([]++(l.take i).map prC).length+1)*16<=_
    rw [Y1e,Z2q];omega)) ?_
   refine gd 78 ⟨?_⟩;refine Qr (Zgc (xs:=l) (g:=prC) rfl i l.length rfl (by show some ((l.map prC).length:Int)=_; rw [hnl]) hi (Y0m _) (fun _=>rfl)) ?_;rw [Y0q];have hap:([]++(l.take i).map prC) ++ [prC (a,b)]++(l.drop i).map prC=(l.take i++(a,b) :: l.drop i).map prC:=by simp
   have hby:(([]++(l.take i).map prC ++ [prC (a,b)]).length+((l.drop i).map prC).length)*16<=140737488355328:=by
    rw [Y1e,Y0e,Y0s,Z2q,Z2q,YV]; omega
   have hpp:X1 ([]++(l.take i).map prC ++ [prC (a,b)]++(l.drop i).map prC):=by rw [hap]; exact Zk _
   refine ZbM (k:=9) (m:=(l.drop i).map prC) (fl:=false) (b:=⟨2,[]++(l.take i).map prC ++ [prC (a,b)]⟩) rfl rfl rfl (fun c hc=>hm c (by rw [Y3G] at hc; exact Y1j hc)) rfl hby hpp rfl rfl ?_;show dK _ _ _ _ (Env.upd _ 79 (.vec ([]++(l.take i).map prC ++ [prC (a,b)]++(l.drop i).map prC) false)) _ _;rw [hap];refine go ?_;exact Z8 rfl ⟨Zk _,Yt,Yt⟩ ⟨_,_,0,.inr ⟨hin,i,hi,h1,h2,rfl⟩,rfl⟩
end
section
open Go.Shelf
def Z33:Go.Shelf.Ren:=⟨fun|6=>201|15=>143|14=>216|28=>183|29=>184|20=>221|21=>222|22=>223|23=>224|24=>225|25=>226|26=>227|27=>228|46=>230|47=>197|48=>198|49=>231|50=>232|57=>233|n=>n,fun|22=>29|24=>59|25=>276|3=>3|39=>107|0=>0|53=>256|55=>33|4=>4|46=>250|45=>249|50=>243|5=>5|9=>9|66=>269|70=>273|76=>284|77=>285|n=>n,fun|n=>n⟩
theorem X5j:Go.Proofs.SlLaysF0.n6 Tryz.prog Z33:={
 mixed:=by kernel_rfl
 f6:=⟨Tryz.f201.name,by decide,Tryz.func201.trans (congrArg some (by kernel_rfl))⟩
 f14:=⟨Tryz.f216.name,by decide,Tryz.func216.trans (congrArg some (by kernel_rfl))⟩
 f15:=Tryz.func143.trans (congrArg some (by kernel_rfl))
 f20:=⟨Tryz.f221.name,by decide,Tryz.func221.trans (congrArg some (by kernel_rfl))⟩
 f21:=⟨Tryz.f222.name,by decide,Tryz.func222.trans (congrArg some (by kernel_rfl))⟩
 f22:=⟨Tryz.f223.name,by decide,Tryz.func223.trans (congrArg some (by kernel_rfl))⟩
 f23:=⟨Tryz.f224.name,by decide,Tryz.func224.trans (congrArg some (by kernel_rfl))⟩
 f24:=⟨Tryz.f225.name,by decide,Tryz.func225.trans (congrArg some (by kernel_rfl))⟩
 f25:=⟨Tryz.f226.name,by decide,Tryz.func226.trans (congrArg some (by kernel_rfl))⟩
 f26:=⟨Tryz.f227.name,by decide,Tryz.func227.trans (congrArg some (by kernel_rfl))⟩
 f27:=⟨Tryz.f228.name,by decide,Tryz.func228.trans (congrArg some (by kernel_rfl))⟩
 f28:=Tryz.func183.trans (congrArg some (by kernel_rfl))
 f29:=Tryz.func184.trans (congrArg some (by kernel_rfl))
 f46:=⟨Tryz.f230.name,by decide,Tryz.func230.trans (congrArg some (by kernel_rfl))⟩
 f47:=Tryz.func197.trans (congrArg some (by kernel_rfl))
 f48:=Tryz.func198.trans (congrArg some (by kernel_rfl))
 f49:=⟨Tryz.f231.name,by decide,Tryz.func231.trans (congrArg some (by kernel_rfl))⟩
 f50:=⟨Tryz.f232.name,by decide,Tryz.func232.trans (congrArg some (by kernel_rfl))⟩
 f57:=⟨Tryz.f233.name,by decide,Tryz.func233.trans (congrArg some (by kernel_rfl))⟩
 t0:=Tryz.underlying0
 a0:=Tryz.isAgg0
 z0:=Tryz.sizeOf0
 v0:=Tryz.zeroValue0
 t3:=Tryz.underlying3
 a3:=Tryz.isAgg3
 z3:=Tryz.sizeOf3
 v3:=Tryz.zeroValue3
 t4:=Tryz.underlying4
 a4:=Tryz.isAgg4
 z4:=Tryz.sizeOf4
 v4:=Tryz.zeroValue4
 t5:=Tryz.underlying5
 a5:=Tryz.isAgg5
 z5:=Tryz.sizeOf5
 v5:=Tryz.zeroValue5
 t9:=Tryz.underlying9
 a9:=Tryz.isAgg9
 z9:=Tryz.sizeOf9
 v9:=Tryz.zeroValue9
 t22:=Tryz.underlying29
 a22:=Tryz.isAgg29
 z22:=Tryz.sizeOf29
 v22:=Tryz.zeroValue29
 t25:=Tryz.underlying276
 a25:=Tryz.isAgg276
 z25:=Tryz.sizeOf276
 v25:=Tryz.zeroValue276
 t39:=Tryz.underlying107
 a39:=Tryz.isAgg107
 z39:=Tryz.sizeOf107
 v39:=Tryz.zeroValue107
 t45:=Tryz.underlying249
 a45:=Tryz.isAgg249
 z45:=Tryz.sizeOf249
 v45:=Tryz.zeroValue249
 t46:=Tryz.underlying250
 a46:=Tryz.isAgg250
 z46:=Tryz.sizeOf250
 v46:=Tryz.zeroValue250
 t50:=Tryz.underlying243
 a50:=Tryz.isAgg243
 z50:=Tryz.sizeOf243
 v50:=Tryz.zeroValue243
 t53:=Tryz.underlying256
 a53:=Tryz.isAgg256
 z53:=Tryz.sizeOf256
 v53:=Tryz.zeroValue256
 t55:=Tryz.underlying33
 a55:=Tryz.isAgg33
 z55:=Tryz.sizeOf33
 v55:=Tryz.zeroValue33
 t66:=Tryz.underlying269
 a66:=Tryz.isAgg269
 z66:=Tryz.sizeOf269
 v66:=Tryz.zeroValue269
 t70:=Tryz.underlying273
 a70:=Tryz.isAgg273
 z70:=Tryz.sizeOf273
 v70:=Tryz.zeroValue273
 t76:=Tryz.underlying284
 a76:=Tryz.isAgg284
 z76:=Tryz.sizeOf284
 v76:=Tryz.zeroValue284
 t77:=Tryz.underlying285
 a77:=Tryz.isAgg285
 z77:=Tryz.sizeOf285
 v77:=Tryz.zeroValue285 }
theorem Zax:∀ w,(isAgg (Z33.t 24)).run Tryz.prog w=.ok true w:=Tryz.isAgg59
theorem Z9v:∀ w,(Go.sizeOf (Z33.t 24)).run Tryz.prog w=.ok 2 w:=Tryz.sizeOf59
end
section
open Go.RowKit
attribute [local irreducible] aw Xr dK
abbrev X6d:={ c:Cu // Xy c }
def X5L (l:List Cu):Prop:=l.Pairwise fun a b=>X20 a<=X20 b
theorem ZiU (a b:Cu):X5V a b<0↔X20 a<X20 b:=by rw [ZiT]; exact ZdG
theorem X7h {xs:List Cu} (h:∀ c∈xs,Xy c):∃ l:List X6d,l.map (·.1)=xs:=by
 induction xs with
 | nil=>exact⟨[],rfl⟩
 | cons c xs ih =>
   obtain⟨l,hl⟩:=ih fun d hd=>h d (YB _ hd);exact⟨⟨c,h c (Y0t ..)⟩ :: l,by rw [Y1J,hl]⟩
theorem Zcl {n ob:Nat} {h:X2} (xs:List Cu) (hx:∀ c∈xs,Xy c) (hh:h ob=some ⟨2,xs.map cuC⟩) :
 XF Tryz.prog 201 n [.own ob,.fn 202 []] h fun n' r h'=>n'=n/\r=.tup []/\∃ ys:List Cu,ys.Perm xs/\X5L ys/\h'=h.upd ob ⟨2,ys.map cuC⟩:=by
 obtain⟨l,rfl⟩:=X7h hx;have e:∀ l:List X6d,(l.map (·.1)).map cuC=l.map fun c:X6d=>cuC c.1:=fun l=>by rw [Y2o]; rfl
 rw [e] at hh;have hs:=Z63 (P:=Tryz.prog) (ρ:=Z33) (n:=n) X5j ⟨_,Tryz.func201,by kernel_rfl,by kernel_rfl⟩ 2 (by decide) Zax Z9v (fun c:X6d=>cuC c.1) (fun c=>rfl) (fun c=>Zh c.1) (fun c:X6d=>X20 c.1) (fun a b:X6d=>X5V a.1 b.1) (fun a b=>ZiU a.1 b.1) 202 [] Yt (fun a b=>Z9w a.1 b.1 a.2 b.2) l hh;refine hs.mono ?_;rintro n' r h' ⟨h1,h2,ys,h3,h4,h5⟩;refine⟨h1,h2,ys.map (·.1),h3.map _,?_,by rw [e]; exact h5⟩;exact Y1w.2 h4
theorem Z1u (N:Nat) (hN:N<18446744073709551616) (i:Nat) (hi:i<64):X7 Tryz.prog 101 [XG N,Yv i] (· = XG (N ||| 2 ^ i)):=by
 have h:=Z45 N (Y03 (Z3m hN) (by decide)) (i:Int);have e:X2y N (i:Int)=N ||| 2 ^ i:=by
  unfold X2y;rw [Y6 ⟨by omega,by omega⟩,YZ]
 rw [e] at h;exact h
theorem Z1B (l:List Nat):XE (X4 l)=X4 l:=by simp [X4,Z8Z,X2C,PV.low]
theorem Z1 (l:List Cu):X1 (l.map cuC):=Zb Zh l
theorem Z66 (xs:List Cu) (fl:Bool) (hlen:xs.length<=1000000):X1y Tryz.prog 120 [.vec (xs.map cuC) fl] .own ⟨2,xs.map cuC⟩:=by
 refine Z1A ok120 (Y0 rfl) fun C hC=>?_;have fin:∀ (x:Cu) (xs:List Cu),(∀ c∈(x :: xs).map cuC,c.length=2):=fun x xs c hc=>by obtain⟨y,_,rfl⟩:=Y0i.1 hc; rfl
 cases xs with
 | nil =>
   refine go ?_;refine Z4H (.inl ⟨_,_,rfl⟩) rfl fun b=>?_;cases b
   . repeat' (first | refine Za (Zy (k := 5) rfl 2 (by decide)) ?_ | (first|refine st ?_|(apply B<;>intro hb<;>try cases hb)))
     exact⟨_,_,rfl,.inl rfl,_,rfl,rfl⟩
   . iterate 6 (first|refine st ?_|(apply B<;>intro hb<;>try cases hb))
     refine Z1U (Zy (k:=2) rfl 2 (by decide) _) ?_;refine go ?_;exact⟨_,_,rfl,.inl rfl,_,rfl,rfl⟩
 | cons x xs =>
   repeat' (first|refine Za (Zy (k:=5) rfl 2 (by decide)) ?_|(first|refine st ?_|(apply B<;>intro hb<;>try cases hb)))
   refine ZH (Zu (k:=0) (m:=(x :: xs).map cuC) (fl:=fl) rfl rfl rfl (fin x xs) rfl (by
    show (([]:List (List PV)).length+((x :: xs).map cuC).length)*48<=_
    rw [Y0f,Y2E];omega)) rfl rfl ?_
   refine go ?_;exact⟨_,_,rfl,.inl rfl,_,rfl,by rw [Y1e]; rfl⟩
def X2x:Cu->List Cu->List Cu
 | _,[] => []
 | p,x :: r=>if eqC x p then X2x x r else x :: X2x x r
def X2R:List Cu->List Cu
 | [] => []
 | a :: r=>a :: X2x a r
theorem ZiV (a:Cu):eqC a a=true:=(Zcj a a).2 rfl
theorem ZdK:∀ (p:Cu) (l:List Cu) (c:Cu),c∈X2x p l \/ c=p↔c∈l \/ c=p
 | _,[],c=>by simp [X2x]
 | p, x :: r, c => by
   have ih:=ZdK x r c;unfold X2x;cases he:eqC x p with
   | true =>
     obtain rfl:=(Zcj _ _).1 he;rw [Y6 rfl,ih];simp only [YD];exact⟨fun h=>h.elim (fun h=>.inl (.inr h)) .inr,fun h=>h.elim (fun h=>h.elim .inr .inl) .inr⟩
   | false =>
     rw [Y8 (by decide)];simp only [YD];constructor
     . rintro ((h | h) | h)
       . exact .inl (.inl h)
       . rcases ih.1 (.inl h) with h | h
         . exact .inl (.inr h)
         . exact .inl (.inl h)
       . exact .inr h
     . rintro ((h | h) | h)
       . exact .inl (.inl h)
       . rcases ih.2 (.inl h) with h | h
         . exact .inl (.inr h)
         . exact .inl (.inl h)
       . exact .inr h
theorem Z9x (l:List Cu) (c:Cu):c∈X2R l↔c∈l:=by
 cases l with
 | nil=>rfl
 | cons a r =>
   unfold X2R;rw [YD,YD];have:=ZdK a r c;constructor
   . rintro (h | h)
     . exact .inl h
     . exact (this.1 (.inl h)).symm
   . rintro (h | h)
     . exact .inl h
     . exact (this.2 (.inl h)).symm
theorem Z6O:∀ (p:Cu) (l:List Cu),(X2x p l).Sublist l
 | _,[]=>Y36 _
 | p, x :: r => by
   unfold X2x
   split
   . exact (Z6O x r).cons x
   . exact (Z6O x r).cons_cons x
theorem ZiW (l:List Cu):(X2R l).Sublist l:=by
 cases l with
 | nil=>exact Y36 _
 | cons a r=>exact (Z6O a r).cons_cons a
theorem Z7u {p x:Cu} {r:List Cu} (h:eqC x p=true):X2x p (x :: r)=X2x x r:=by rw [X2x,Y6 h]
theorem Z7v {p x:Cu} {r:List Cu} (h:eqC x p=false):X2x p (x :: r)=x :: X2x x r:=by rw [X2x,Y8 (by rw [h]; decide)]
theorem ZgQ {l:List Cu} {i:Nat} (h:i<l.length):l.drop i=l[i] :: l.drop (i+1):=Y1n h
theorem ZgR (l:List Cu) {i:Nat} (h:i<l.length):(l.map cuC).getD i []=cuC l[i]:=by simp [Y0b,h]
theorem X8m (c:Cu):X17 true 2 0 (cuC c)=some (cuP c):=rfl
section
variable {e:Env} {h:X2} {n:Nat}
theorem ZgS {esz:Nat} {x:Operand} {lo hi:Option Operand} {id:Nat} {b:Bx} (hx:ev e x=some (.own id)) (hb:h id=some b) (i j:Nat) (hlo:XM e 0 lo=some (i:Int)) (hhi:XM e b.elems.length hi=some (j:Int)) (hij:i<=j) (hj:j<=b.elems.length) (he:b.esz=esz) :
 XH (.slc esz x lo hi none) e h n=some (.view id i (j-i),h):=by
 simp only [XH,hx,hb,hlo,hhi];rw [Y6 ⟨⟨by omega,by omega,by omega⟩,he⟩];simp
theorem Z9y {esz:Nat} {x i:Operand} {id lo len:Nat} {b:Bx} {k:IntKind} {m:Int} (hx:ev e x=some (.view id lo len)) (hi:ev e i=some (.val (.int k m))) (hb:h id=some b) (j:Nat) (hm:m=(j:Int)) (hj:j<len) (hl:lo+len<=b.elems.length) (he:b.esz=esz) :
 X3 (.iaddr esz x i) e h n=some (.ptr id (lo+j) 0,h):=by
 subst hm;simp only [X3,hx,hi,hb];rw [Y6 ⟨by omega,by omega,hl⟩,Y6 he];simp
theorem ZiX {z:List Value} {x:Operand} {id lo len:Nat} {b:Bx} (hx:ev e x=some (.view id lo len)) (hb:h id=some b) (hl:lo+len<=b.elems.length) (he:b.esz=z.length) :
 X3 (.clear z x) e h n=some (.val (.tuple #[]),h.upd id ⟨b.esz,b.elems.take lo++(List.replicate len (zpv z)++b.elems.drop (lo+len))⟩):=by
 simp only [X3,hx,hb];rw [Y6 ⟨hl,he⟩]
theorem Z7w {a:Operand} {k i:Nat} {zs:List Cu} (ha:ev e a=some (.ptr k i 0)) (hb:h k=some ⟨2,zs.map cuC⟩) (hi:i<zs.length):X3 (.load true 2 a) e h n=some (cuP zs[i],h) :=
 Z1v ha hb (by simpa using hi) (by rw [ZgR zs hi]; exact X8m _)
end
theorem Z8B:∀ {l:List (List PV)},(∀ c∈l,X5 c)->X1 l
 | [],_=>trivial
 | c :: l,h=>⟨h c (Y0t ..),Z8B fun d hd=>h d (YB _ hd)⟩
theorem ZaB:∀ (l:List Cu) (p:Nat) (x:Cu),p<l.length->(l.set p x).take (p+1)=l.take p ++ [x]
 | a :: l,0,x,_=>by simp
 | a :: l, p + 1, x, h => by
   have:=ZaB l p x (by simpa using h);simp [this]
theorem ZkK {l:List Cu} {p:Nat} {x:Cu} (h:p<l.length):(l.map cuC).set p (Xl ((l.map cuC).getD p []) 0 (cuP x).cells)=(l.set p x).map cuC:=by
 rw [ZgR l h,Y4m]
 rfl
def X5B (xs:List Cu) (r:PV) (b':Bx):Prop:=∃ m,m<=b'.elems.length/\b'.esz=2/\b'.elems.take m=(X2R xs).map cuC/\(r=.own 0/\m=b'.elems.length \/ r=.view 0 0 m)
theorem ZgT {xs:List Cu} (h:X2R xs=xs):X5B xs (.own 0) ⟨2,xs.map cuC⟩:=⟨(xs.map cuC).length,Y0m _,rfl,by rw [h,Y0q],.inl ⟨rfl,rfl⟩⟩
theorem Z85 (xs:List Cu) (hx:∀ c∈xs,Xy c) (hlen:xs.length<=1000000):X4B Tryz.prog 203 ⟨2,xs.map cuC⟩ [.own 0,.fn 32 []] (X5B xs):=by
 have hml:(xs.map cuC).length=xs.length:=by simp
 refine Z18 ok203 (Y0 rfl) fun C hC=>?_;by_cases h2:xs.length<2
 . have hc : X2R xs = xs := by
    match xs,h2 with
    | [],_=>rfl
    | [a],_=>rfl
   iterate 9 (first|refine st ?_|(apply B<;>intro hb<;>try cases hb))
   refine Qo (Qy rfl (by show ((xs.map cuC).length:Int)<2;omega)) ?_;refine go ?_;exact⟨_,_,rfl,.inl rfl,_,rfl,rfl,Z1 xs,ZgT hc⟩
 . iterate 9 (first|refine st ?_|(apply B<;>intro hb<;>try cases hb))
   refine Qo (Qz rfl (by show ¬ ((xs.map cuC).length:Int)<2;omega)) ?_;have hpl:∀ (l:List Cu) D,Xt D (l.map cuC):=fun l D=>Zd (fun _ h=>h.elim) _ (Z1 l);refine go ?_
   refine Zz hC (fun (k:Nat)=>1<=k/\k<=xs.length/\X2R xs=xs.take k++X2x (xs.getD (k-1) (0,0)) (xs.drop k)) (fun k=>xs.length-k) 1 (fun k => [(0,.own 0),(1,.fn 32 []),(5,.val (.int .i64 (k:Int)))]) (fun _ => [(0,⟨2,xs.map cuC⟩)]) (by omega) 1 ⟨by omega,by omega,by
    match xs,h2 with
    | a :: r,_=>rfl⟩
    ⟨⟨rfl,show (0:Nat)<1 by decide⟩,⟨rfl,Yt⟩,⟨rfl,Yt⟩,Yt⟩ ⟨⟨by decide,rfl,hpl _ _⟩,Yt⟩ ?_
   rintro k ⟨hk1,hkl,hcmp⟩;have hinc:IntKind.i64.wrap ((k:Int)+1)=((k+1:Nat):Int):=Y0v _ ⟨by omega,by omega⟩;have hdec:IntKind.i64.wrap ((k:Int)-1)=((k-1:Nat):Int):=(Y0v _ ⟨by omega,by omega⟩).trans (by omega)
   iterate 6 (first|refine st ?_|(apply B<;>intro hb<;>try cases hb))
   by_cases hkl2:k<xs.length
   . refine Qo (Qy rfl (by show (k : Int) < ((xs.map cuC).length : Int); omega)) ?_;refine go ?_;refine Qr (ZF (b:=⟨2,xs.map cuC⟩) rfl rfl rfl k rfl (by show k<(xs.map cuC).length;omega) rfl) ?_;refine Qr (Z7w (zs:=xs) rfl rfl hkl2) ?_;refine go ?_;refine Qr (ZF (b:=⟨2,xs.map cuC⟩) rfl rfl rfl (k-1) hdec (by show k-1<(xs.map cuC).length;omega) rfl) ?_;refine Qr (Z7w (zs:=xs) rfl rfl (show k-1<xs.length by omega)) ?_;have hok1:=hx _ (Y0j hkl2);have hok2:=hx _ (Y0j (show k-1<xs.length by omega));refine Qd (Z7o xs[k] xs[k-1] hok1 hok2) ⟨ZA _,ZA _,Yt⟩ ?_;have hg1:xs.getD (k-1) (0,0)=xs[k-1]:=by simp [Y0b,show k-1<xs.length by omega]
     have hg2:xs.getD k (0,0)=xs[k]:=by simp [Y0b,hkl2]
     rw [hg1,ZgQ hkl2] at hcmp;have htk:xs.take (k+1)=xs.take k ++ [xs[k]]:=by rw [YW,Y0c hkl2]; rfl
     cases heq:eqC xs[k] xs[k-1]
     case false =>
      rw [Z7v heq] at hcmp;refine go ?_;exact⟨k+1,⟨by omega,by omega,by rw [hcmp,htk,YT,Y2A,hg2]; rfl⟩,by omega,⟨⟨rfl,show (0:Nat)<1 by decide⟩,⟨rfl,Yt⟩,⟨by show some _=some _; rw [hinc],Yt⟩,Yt⟩,⟨⟨by decide,rfl,hpl _ _⟩,Yt⟩⟩
     rw [Z7u heq] at hcmp;refine go ?_;refine Z5 (ZgS (b:=⟨2,xs.map cuC⟩) rfl rfl k xs.length rfl (by show some ((xs.map cuC).length:Int)=_; rw [hml]) hkl (by show xs.length<=(xs.map cuC).length;omega) rfl) rfl rfl ?_;refine go ?_;refine Zz hC (fun (q:Nat×Nat×List Cu)=>1<=q.2.1/\q.2.1<=xs.length-k/\k<=q.1/\q.1+1<=k+q.2.1/\q.2.2.length=xs.length/\(∀ j,k+q.2.1-1<=j->q.2.2.getD j (0,0)=xs.getD j (0,0))/\X2R xs=q.2.2.take q.1++X2x (xs.getD (k+q.2.1-1) (0,0)) (xs.drop (k+q.2.1))) (fun q=>xs.length-q.2.1) 1 (fun q => [(0,.own 0),(1,.fn 32 []),(5,.val (.int .i64 (q.1:Int))),(6,.view 0 k (xs.length-k)),(7,.val (.int .i64 (q.2.1:Int)))]) (fun q => [(0,⟨2,q.2.2.map cuC⟩)]) (by omega) (k,1,xs) ⟨Y0m 1,by show 1<=xs.length-k; omega,Y0m _,Y0m _,rfl,fun _ _=>rfl,by show X2R xs=xs.take k++X2x (xs.getD (k+1-1) (0,0)) (xs.drop (k+1)); rw [Y2A,hg2]; exact hcmp⟩
      ⟨⟨rfl,show (0:Nat)<1 by decide⟩,⟨rfl,Yt⟩,⟨rfl,Yt⟩,⟨rfl,show (0:Nat)<1 by decide⟩,⟨rfl,Yt⟩,Yt⟩ ⟨⟨by decide,rfl,hpl _ _⟩,Yt⟩ ?_
     rintro⟨p,j,zs⟩ ⟨hj1,hjl,hkp,hpj,hzl,hsame,hc2⟩;dsimp only at hj1 hjl hkp hpj hzl hsame hc2 ⊢;have hzm:(zs.map cuC).length=xs.length:=by simp [hzl]
     have hincj:IntKind.i64.wrap ((j:Int)+1)=((j+1:Nat):Int):=Y0v _ ⟨by omega,by omega⟩;have hdecj:IntKind.i64.wrap ((j:Int)-1)=((j-1:Nat):Int):=(Y0v _ ⟨by omega,by omega⟩).trans (by omega);have hincp:IntKind.i64.wrap ((p:Int)+1)=((p+1:Nat):Int):=Y0v _ ⟨by omega,by omega⟩
     iterate 6 (first|refine st ?_|(apply B<;>intro hb<;>try cases hb))
     by_cases hjl2:j<xs.length-k
     . refine Qo (Qy rfl (by show (j : Int) < ((xs.length - k : Nat) : Int); omega)) ?_;have hb1:k+j<zs.length:=by omega
       have hb2:k+(j-1)<zs.length:=by omega
       have hb3:k+j<xs.length:=by omega
       have hz1:zs[k+j]=xs.getD (k+j) (0,0):=by rw [<- hsame (k+j) (by omega)]; simp [Y0b,hb1]
       have hz2:zs[k+(j-1)]=xs.getD (k+j-1) (0,0):=by rw [<- hsame (k+j-1) (by omega)]; simp [Y0b,show k+j-1<zs.length by omega,show k+(j-1)=k+j-1 by omega]
       have hx1:xs.getD (k+j) (0,0)=xs[k+j]:=by simp [Y0b,hb3]
       have hx2:xs.getD (k+j-1) (0,0)∈xs:=by
        rw [Y0b,Y0c (show k+j-1<xs.length by omega)];exact Y0j _
       refine go ?_;refine Qr (Z9y (b:=⟨2,zs.map cuC⟩) rfl rfl rfl j rfl hjl2 (by show k+(xs.length-k)<=(zs.map cuC).length;omega) rfl) ?_;refine Qr (Z7w (zs:=zs) rfl rfl hb1) ?_;refine go ?_;refine Qr (Z9y (b:=⟨2,zs.map cuC⟩) rfl rfl rfl (j-1) hdecj (by omega) (by show k+(xs.length-k)<=(zs.map cuC).length;omega) rfl) ?_;refine Qr (Z7w (zs:=zs) rfl rfl hb2) ?_;rw [hz1,hz2,hx1];rw [ZgQ hb3] at hc2;generalize xs.getD (k+j-1) (0,0)=pv at hc2 hx2 ⊢;refine Qd (Z7o xs[k+j] pv (hx _ (Y0j hb3)) (hx _ hx2)) ⟨ZA _,ZA _,Yt⟩ ?_;have hsx:xs.getD (k+(j+1)-1) (0,0)=xs[k+j]:=by rw [show k+(j+1)-1=k+j by omega]; exact hx1
       cases heq2:eqC xs[k+j] pv
       . rw [Z7v heq2] at hc2;refine go ?_;refine Qo (Z9y (b:=⟨2,zs.map cuC⟩) rfl rfl rfl j rfl hjl2 (by show k+(xs.length-k)<=(zs.map cuC).length;omega) rfl) ?_;refine Qo (Z7w (zs:=zs) rfl rfl hb1) ?_;refine Qo (ZF (b:=⟨2,zs.map cuC⟩) rfl rfl rfl p rfl (by show p<(zs.map cuC).length;omega) rfl) ?_;refine Qo (Z1Q (b:=⟨2,zs.map cuC⟩) (p:=cuP zs[k+j]) rfl rfl rfl rfl rfl (by show p<(zs.map cuC).length;omega) (Y0m 2)) ?_;rw [ZkK (show p<zs.length by omega),hz1,hx1];refine go ?_;refine⟨(p+1,j+1,zs.set p xs[k+j]),⟨by show 1<=j+1; omega,by show j+1<=xs.length-k; omega,by show k<=p+1; omega,by show p+1+1<=k+(j+1); omega,by show (zs.set p xs[k+j]).length=xs.length; rw [Y18,hzl],fun i hi=>?_,?_⟩,by show xs.length-(j+1)<xs.length-j; omega,⟨⟨rfl,show (0:Nat)<1 by decide⟩,⟨rfl,Yt⟩,⟨by show some _=some _; rw [hincp],Yt⟩,⟨rfl,show (0:Nat)<1 by decide⟩,⟨by show some _=some _; rw [hincj],Yt⟩,Yt⟩,⟨⟨by decide,rfl,hpl _ _⟩,Yt⟩⟩
         . have hi' : k + (j + 1) - 1 <= i := hi;rw [<- hsame i (by omega)];simp [Y0b,Y3e (show p≠i by omega)]
         . show X2R xs = (zs.set p xs[k + j]).take (p + 1) ++ X2x (xs.getD (k + (j + 1) - 1) (0, 0)) (xs.drop (k + (j + 1)));rw [hsx,ZaB zs p _ (by omega),YT];exact hc2
       . rw [Z7u heq2] at hc2;refine go ?_;exact⟨(p,j+1,zs),⟨by show 1<=j+1; omega,by show j+1<=xs.length-k; omega,hkp,by show p+1<=k+(j+1); omega,hzl,fun i hi=>hsame i (by have:k+(j+1)-1<=i:=hi;omega),by show X2R xs=zs.take p++X2x (xs.getD (k+(j+1)-1) (0,0)) (xs.drop (k+(j+1))); rw [hsx]; exact hc2⟩,by show xs.length-(j+1)<xs.length-j; omega,⟨⟨rfl,show (0:Nat)<1 by decide⟩,⟨rfl,Yt⟩,⟨rfl,Yt⟩,⟨rfl,show (0:Nat)<1 by decide⟩,⟨by show some _=some _; rw [hincj],Yt⟩,Yt⟩,⟨⟨by decide,rfl,hpl _ _⟩,Yt⟩⟩
     . have hjx : j = xs.length - k := by omega
       refine Qo (Qz rfl (by show ¬ (j:Int)<((xs.length-k:Nat):Int);omega)) ?_;have hfin:X2R xs=zs.take p:=by rw [hc2,Y2z (by omega)]; simp [X2x]
       have hpz:p<=(zs.map cuC).length:=by omega
       refine go ?_;refine Z5 (ZgS (b:=⟨2,zs.map cuC⟩) rfl rfl p (zs.map cuC).length rfl rfl hpz (Y0m _) rfl) rfl rfl ?_;refine Qo (ZiX (b:=⟨2,zs.map cuC⟩) rfl rfl (by show p+((zs.map cuC).length-p)<=(zs.map cuC).length;omega) rfl) ?_;have hy:((zs.map cuC).take p++(List.replicate ((zs.map cuC).length-p) (zpv [.slice none 0 0,.slice none 0 0])++(zs.map cuC).drop (p+((zs.map cuC).length-p)))).length=xs.length:=by
        simp only [Y0e,Y0o,Y37,YV,hzm];omega
       have hyt:((zs.map cuC).take p++(List.replicate ((zs.map cuC).length-p) (zpv [.slice none 0 0,.slice none 0 0])++(zs.map cuC).drop (p+((zs.map cuC).length-p)))).take p=(X2R xs).map cuC:=by
        rw [Y3b (by rw [Y0o];omega),Y3w,Nat.min_self,hfin,Y2r]
       have hyp:X1 ((zs.map cuC).take p++(List.replicate ((zs.map cuC).length-p) (zpv [.slice none 0 0,.slice none 0 0])++(zs.map cuC).drop (p+((zs.map cuC).length-p)))):=by
        refine Z8B fun c hc=>?_;rcases Y0h.1 hc with h|h
        . obtain⟨x,_,rfl⟩:=Y0i.1 (YM h); exact Zh x
        . rcases Y0h.1 h with h | h
          . rw [Y1q h]; exact⟨Yt,Yt,Yt⟩
          . obtain⟨x,_,rfl⟩:=Y0i.1 (Y1j h); exact Zh x
       generalize ((zs.map cuC).take p++(List.replicate ((zs.map cuC).length-p) (zpv [.slice none 0 0,.slice none 0 0])++(zs.map cuC).drop (p+((zs.map cuC).length-p))))=ys at hy hyt hyp ⊢;refine go ?_;refine Z5 (ZgS (b:=⟨2,ys⟩) rfl rfl 0 p rfl rfl (Y0l _) (by show p<=ys.length;omega) rfl) rfl rfl ?_;refine go ?_;exact⟨_,_,rfl,.inl rfl,⟨2,ys⟩,rfl,rfl,hyp,p,by show p<=ys.length; omega,rfl,hyt,.inr rfl⟩
   . have hkx : k = xs.length := by omega
     refine Qo (Qz rfl (by show ¬ (k:Int)<((xs.map cuC).length:Int);omega)) ?_;have hfin:X2R xs=xs:=by rw [hcmp,hkx,Y3N,Y0q]; simp [X2x]
     refine go ?_;exact⟨_,_,rfl,.inl rfl,_,rfl,rfl,Z1 xs,ZgT hfin⟩
def X4i (l:List Cu):Nat:=l.foldl (fun s c=>(s ||| c.1) ||| c.2) 0
def X6A (l:List Cu):List Cu:=l.filter fun c => !emC c
def X7L (l:List Cu):Int:=if (X4i (X6A l)).testBit 0=true then 1 else if 8<(mem (X4i (X6A l))).length then 3 else 0
end
section
open Go.RowKit
theorem tb {y i:Nat} (h:¬ y.testBit i=true):y.testBit i=false:=by simpa using h
theorem tb2 {b:Bool} (h:¬ b=true):b=false:=by simpa using h
theorem Z4J (a s:Nat):a ||| s=s↔∀ i,a.testBit i=true->s.testBit i=true:=by
 constructor
 . intro h i hi;rw [<- h,Y00,hi,Y2G]
 . intro h;refine YE fun i=>?_;rw [Y00];cases ha:a.testBit i with
   | false=>rfl
   | true=>rw [h i ha]; rfl
theorem Z34 (a s:Nat):a &&& s=0↔∀ i,a.testBit i=true->s.testBit i=false:=by
 constructor
 . intro h i hi;have:=congrArg (·.testBit i) h;simp only [Y0z,hi,Y1g,Y1I] at this;exact this
 . intro h;refine YE fun i=>?_;rw [Y0z,Y1I];cases ha:a.testBit i with
   | false=>rfl
   | true=>rw [h i ha]; rfl
theorem Z1a (c:Cu) (s:Nat):hoC c s=true↔(∀ i,c.1.testBit i=true->s.testBit i=true)/\∀ i,c.2.testBit i=true->s.testBit i=false:=by
 unfold hoC;rw [Y0k,Y10,Y2c,Y3B,Y3A,Z4J,Z34]
def X4p (a b:Nat):Prop:=∀ i,a.testBit i=true->b.testBit i=true
theorem ZaC (a:Nat):X4p a a:=fun _ h=>h
section
variable {N:Nat} (hN:N<18446744073709551616)
include hN
end
def X2e (b:Cu) (z:Cu×List Cu) (r:Nat):Cu×List Cu :=
 if b.1.testBit r && !z.1.1.testBit r then ((z.1.1 ||| 2 ^ r,z.1.2),z.2 ++ [(z.1.1,z.1.2 ||| 2 ^ r)])
 else if b.2.testBit r && !z.1.2.testBit r then ((z.1.1,z.1.2 ||| 2 ^ r),z.2 ++ [(z.1.1 ||| 2 ^ r,z.1.2)]) else z
def X2P (a b:Cu) (l:List Nat):Cu×List Cu:=l.foldl (X2e b) (a,[])
def X2d (a b:Cu):List Cu:=if emC a then [] else if (meC a b).2 then (X2P a b (mem (b.1 ||| b.2))).2 else [a]
def X2h:List Cu->Cu->Bool
 | [],c=>emC c
 | b :: l,c=>emC c||if emC (X19 c b) then X2h l c else (X2d c b).all fun x=>X2h l x
theorem Z8D {a:Cu} {r S:Nat}:hoC (a.1 ||| 2 ^ r,a.2) S=(hoC a S&&S.testBit r):=by
 rw [YQ,Y0k,Z1a,Z1a];constructor
 . rintro ⟨h1, h2⟩;exact⟨⟨fun i hi=>h1 i (by rw [Z1t,hi,Y2G]),h2⟩,h1 r (by rw [Z1t]; simp)⟩
 . rintro ⟨⟨h1, h2⟩, h3⟩;refine⟨fun i hi=>?_,h2⟩;rw [Z1t,YR,Y0n] at hi;rcases hi with hi|rfl
   . exact h1 i hi
   . exact h3
theorem ZiZ {a:Cu} {r S:Nat}:hoC (a.1,a.2 ||| 2 ^ r) S=(hoC a S && !S.testBit r):=by
 rw [YQ,Y0k,Z1a,Z1a];constructor
 . rintro ⟨h1, h2⟩;refine⟨⟨h1,fun i hi=>h2 i (by rw [Z1t,hi,Y2G])⟩,?_⟩;rw [h2 r (by rw [Z1t]; simp)]; rfl
 . rintro ⟨⟨h1, h2⟩, h3⟩;refine⟨h1,fun i hi=>?_⟩;rw [Z1t,YR,Y0n] at hi;rcases hi with hi|rfl
   . exact h2 i hi
   . simpa using h3
theorem Z6P (l:List Cu) (c:Cu) (S:Nat):soC (l ++ [c]) S=(soC l S||hoC c S):=by simp [soC]
def X2F (b:Cu) (l:List Nat) (S:Nat):Bool:=l.all fun r=>(!b.1.testBit r||S.testBit r)&&(!b.2.testBit r || !S.testBit r)
theorem Zj0 {b a0:Cu} {l:List Nat} {z:Cu×List Cu} (h1:∀ S,hoC z.1 S=(hoC a0 S&&X2F b l S)) (h2:∀ S,soC z.2 S=(hoC a0 S && !X2F b l S)) (r:Nat) (hd:¬ (b.1.testBit r=true/\b.2.testBit r=true)) :
 (∀ S,hoC (X2e b z r).1 S=(hoC a0 S&&X2F b (l ++ [r]) S))/\∀ S,soC (X2e b z r).2 S=(hoC a0 S && !X2F b (l ++ [r]) S):=by
 have hat:∀ S,X2F b (l ++ [r]) S=(X2F b l S&&((!b.1.testBit r||S.testBit r)&&(!b.2.testBit r || !S.testBit r))):=fun S=>by simp [X2F]
 have key:∀ S,hoC z.1 S=true->(z.1.1.testBit r=true->S.testBit r=true)/\(z.1.2.testBit r=true->S.testBit r=false):=fun S h=>⟨((Z1a _ _).1 h).1 r,((Z1a _ _).1 h).2 r⟩
 unfold X2e
 split
 . rename_i h;rw [Y0k,Y10] at h;have hb2:b.2.testBit r=false:=tb fun h'=>hd ⟨h.1,h'⟩;constructor
   . intro S;rw [Z8D,h1,hat,h.1,hb2];cases hoC a0 S<;>cases X2F b l S<;>cases S.testBit r<;>rfl
   . intro S;rw [Z6P,ZiZ,h1,h2,hat,h.1,hb2];cases hoC a0 S<;>cases X2F b l S<;>cases S.testBit r<;>rfl
 . rename_i h
   split
   . rename_i h';rw [Y0k,Y10] at h';have hb1 : b.1.testBit r = false := tb fun h'' => hd ⟨h'',h'.1⟩;constructor
     . intro S;rw [ZiZ,h1,hat,h'.1,hb1];cases hoC a0 S<;>cases X2F b l S<;>cases S.testBit r<;>rfl
     . intro S;rw [Z6P,Z8D,h1,h2,hat,h'.1,hb1];cases hoC a0 S<;>cases X2F b l S<;>cases S.testBit r<;>rfl
   . rename_i h';have e:∀ S,hoC a0 S=true->X2F b l S=true->((!b.1.testBit r||S.testBit r)&&(!b.2.testBit r || !S.testBit r))=true:=by
      intro S ha hl;have hz:hoC z.1 S=true:=by rw [h1,ha,hl]; rfl
      obtain⟨k1,k2⟩:=key S hz;cases e1:b.1.testBit r<;>cases e2:b.2.testBit r
      . rfl
      . have : z.1.2.testBit r = true := by
         apply YU;intro hn;exact h' (by rw [e2,tb hn]; rfl)
        rw [k2 this]; rfl
      . have : z.1.1.testBit r = true := by
         apply YU;intro hn;exact h (by rw [e1,tb hn]; rfl)
        rw [k1 this]; rfl
      . exact absurd ⟨e1,e2⟩ hd
     have e':∀ S,(hoC a0 S&&X2F b (l ++ [r]) S)=(hoC a0 S&&X2F b l S)/\(hoC a0 S && !X2F b (l ++ [r]) S)=(hoC a0 S && !X2F b l S):=by
      intro S;rw [hat];cases ha:hoC a0 S
      . exact⟨rfl,rfl⟩
      cases hl:X2F b l S
      . exact⟨rfl,rfl⟩
      rw [e S ha hl];exact⟨rfl,rfl⟩
     exact⟨fun S=>by rw [(e' S).1]; exact h1 S,fun S=>by rw [(e' S).2]; exact h2 S⟩
theorem Z9z (a b:Cu) (hd:b.1 &&& b.2=0):∀ l:List Nat,(∀ S,hoC (X2P a b l).1 S=(hoC a S&&X2F b l S))/\∀ S,soC (X2P a b l).2 S=(hoC a S && !X2F b l S):=by
 have main:∀ (l pre:List Nat) (z:Cu×List Cu),((∀ S,hoC z.1 S=(hoC a S&&X2F b pre S))/\∀ S,soC z.2 S=(hoC a S && !X2F b pre S))->(∀ S,hoC (l.foldl (X2e b) z).1 S=(hoC a S&&X2F b (pre++l) S))/\∀ S,soC (l.foldl (X2e b) z).2 S=(hoC a S && !X2F b (pre++l) S):=by
  intro l
  induction l with
  | nil=>intro pre z hz; rw [Y0p]; exact hz
  | cons r l ih =>
    intro pre z hz;have hr:¬ (b.1.testBit r=true/\b.2.testBit r=true):=fun ⟨p,q⟩=>by
     have:=(Z34 _ _).1 hd r p;rw [q] at this; cases this
    have:=ih (pre ++ [r]) (X2e b z r) (Zj0 hz.1 hz.2 r hr);rw [YT] at this;exact this
 intro l;exact main l [] (a,[]) ⟨fun S=>by simp [X2F],fun S=>by simp [X2F,soC]⟩
theorem Zj1 {b:Cu} (hb:Xy b) (S:Nat):X2F b (mem (b.1 ||| b.2)) S=hoC b S:=by
 have hlt:b.1 ||| b.2<18446744073709551616:=Z1S hb.1 hb.2
 rw [YQ,Z1a];unfold X2F;rw [YK];constructor
 . intro h;constructor
   . intro i hi;have:=h i ((ZY hlt).2 (by rw [Y00,hi,Y2G]));rw [hi] at this;simp only [Y0k] at this;simpa using this.1
   . intro i hi;have:=h i ((ZY hlt).2 (by rw [Y00,hi,Y39]));rw [hi] at this;simp only [Y0k] at this;simpa using this.2
 . rintro ⟨h1, h2⟩ r -;cases e1:b.1.testBit r<;>cases e2:b.2.testBit r<;>first
    | rfl
    | (rw [h1 r e1]; try rw [h2 r e2]
       rfl)
    | (rw [h2 r e2]; rfl)
    | (have:=h1 r e1; rw [h2 r e2] at this; cases this)
theorem Z67 {a b:Cu} {S:Nat}:hoC (X19 a b) S=(hoC a S&&hoC b S):=by
 rw [YQ,Y0k,Z1a,Z1a,Z1a];unfold X19;simp only [Y00,YR]
 exact⟨fun ⟨h1,h2⟩=>⟨⟨fun i hi=>h1 i (.inl hi),fun i hi=>h2 i (.inl hi)⟩,fun i hi=>h1 i (.inr hi),fun i hi=>h2 i (.inr hi)⟩,
  fun ⟨⟨h1,h2⟩,h3,h4⟩=>⟨fun i hi=>hi.elim (h1 i) (h3 i),fun i hi=>hi.elim (h2 i) (h4 i)⟩⟩
theorem Z2P {c:Cu} (h:emC c=true) (S:Nat):hoC c S=false:=by
 apply tb2;intro hs;rw [Z1a] at hs;unfold emC at h;refine Y0u h ((Z34 _ _).2 fun i hi=>?_);apply tb;intro h2;have:=hs.2 i h2;rw [hs.1 i hi] at this;cases this
theorem Z4K {c:Cu} (h:emC c=false):hoC c c.1=true:=by
 unfold emC at h;rw [Z1a];have h0:c.1 &&& c.2=0:=by simpa using h
 refine⟨fun i hi=>hi,fun i hi=>tb fun h1=>?_⟩;have:=(Z34 _ _).1 h0 i h1;rw [hi] at this; cases this
theorem Z9A (c:Cu) (S:Nat):soC [c] S=hoC c S:=by simp [soC]
theorem Z3F (b:Cu) (l:List Cu) (S:Nat):soC (b :: l) S=(hoC b S||soC l S):=rfl
theorem Z6Q {a b:Cu} (hb:Xy b) (S:Nat):soC (X2d a b) S=(hoC a S && !hoC b S):=by
 unfold X2d;cases ha:emC a with
 | true=>rw [Y6 rfl,Z2P ha]; rfl
 | false =>
   rw [Y8 (by decide)];unfold meC;cases hm:emC (X19 a b) with
   | true =>
     rw [Y6 rfl,Y8 (by decide),Z9A];have:=Z2P hm S;rw [Z67] at this
     revert this
     cases hoC a S<;>cases hoC b S<;>decide
   | false =>
     show soC (X2P a b (mem (b.1 ||| b.2))).2 S=_;have hd:b.1 &&& b.2=0:=by
      have h0:=Z4K hm;rw [Z67,Y0k] at h0;apply YU;intro hn;have:emC b=true:=by unfold emC; exact Yw hn
      rw [Z2P this] at h0;cases h0.2
     rw [(Z9z a b hd _).2 S,Zj1 hb]
theorem Z9B:∀ (l:List Cu),(∀ b∈l,Xy b)->∀ c,X2h l c=true↔∀ S,hoC c S=true->soC l S=true
 | [], _, c => by
   unfold X2h;constructor
   . intro h S hs; rw [Z2P h] at hs; cases hs
   . intro h;apply YU;intro hn;have:=h c.1 (Z4K (tb2 hn));cases this
 | b :: l, hl, c => by
   have hb:=hl b (Y0t ..);have ih:=Z9B l fun x hx=>hl x (YB _ hx);unfold X2h;cases he:emC c with
   | true=>exact⟨fun _ S hs=>(by rw [Z2P he] at hs; cases hs),fun _=>rfl⟩
   | false =>
     rw [Y1O];cases hm:emC (X19 c b) with
     | true =>
       rw [Y6 rfl,ih];refine forall_congr' fun S=>Y3k fun hs=>?_;have:=Z2P hm S;rw [Z67,hs,Y1g] at this;rw [Z3F,this,Y1O]
     | false =>
       rw [Y8 (by decide),YK];constructor
       . intro h S hs;rw [Z3F];cases hbs:hoC b S with
         | true=>rfl
         | false =>
           have hx:soC (X2d c b) S=true:=by rw [Z6Q hb,hs,hbs]; rfl
           obtain⟨x,hx1,hx2⟩:=Y01.1 hx;rw [Y1O];exact (ih x).1 (h x hx1) S hx2
       . intro h x hx;refine (ih x).2 fun S hs=>?_;have hm2:soC (X2d c b) S=true:=Y01.2 ⟨x,hx,hs⟩;rw [Z6Q hb,Y0k] at hm2;have:=h S hm2.1;rw [Z3F] at this;cases hbs:hoC b S with
         | true=>rw [hbs] at hm2; cases hm2.2
         | false=>rwa [hbs,Y1O] at this
theorem ZkL {b:Cu} {z:Cu×List Cu} {r:Nat} (hr:r<64) (hz:Xy z.1/\∀ c∈z.2,Xy c):Xy (X2e b z r).1/\∀ c∈(X2e b z r).2,Xy c:=by
 have hp:=ZP hr;have s1:∀ {l:List Cu} {c:Cu},(∀ c∈l,Xy c)->Xy c->∀ d∈l ++ [c],Xy d:=fun h1 h2 d hd=>by
  rcases Y0h.1 hd with h|h
  . exact h1 d h
  . rw [Y0g.1 h]; exact h2
 unfold X2e
 split
 . exact⟨⟨Z1S hz.1.1 hp,hz.1.2⟩,s1 hz.2 ⟨hz.1.1,Z1S hz.1.2 hp⟩⟩
 . split
   . exact⟨⟨hz.1.1,Z1S hz.1.2 hp⟩,s1 hz.2 ⟨Z1S hz.1.1 hp,hz.1.2⟩⟩
   . exact hz
theorem Zcn {a b:Cu} (ha:Xy a) {l:List Nat} (hl:∀ r∈l,r<64):Xy (X2P a b l).1/\(∀ c∈(X2P a b l).2,Xy c)/\(X2P a b l).2.length<=l.length:=by
 have main:∀ (l:List Nat),(∀ r∈l,r<64)->∀ z:Cu×List Cu,Xy z.1/\(∀ c∈z.2,Xy c)->Xy (l.foldl (X2e b) z).1/\(∀ c∈(l.foldl (X2e b) z).2,Xy c)/\(l.foldl (X2e b) z).2.length<=z.2.length+l.length:=by
  intro l
  induction l with
  | nil=>intro _ z hz; exact⟨hz.1,hz.2,by simp⟩
  | cons r l ih =>
    intro hl z hz;have h:=ih (fun x hx=>hl x (by simp [hx])) (X2e b z r) (ZkL (hl r (by simp)) hz);refine⟨h.1,h.2.1,Y03 h.2.2 ?_⟩;have:(X2e b z r).2.length<=z.2.length+1:=by
     unfold X2e
     split
     . simp
     . split<;>simp
    simp only [Y04]; omega
 have:=main l hl (a,[]) ⟨ha,fun c hc=>by cases hc⟩;exact⟨this.1,this.2.1,by simpa [X2P] using this.2.2⟩
theorem ZkM {a b:Cu} (ha:Xy a):∀ c∈X2d a b,Xy c:=by
 intro c hc;unfold X2d at hc
 split at hc
 . cases hc
 split at hc
 . exact (Zcn ha fun r hr=>Z3T hr).2.1 c hc
 . rw [Y0g.1 hc]; exact ha
theorem ZdL (a b:Cu) (ha:Xy a):(X2d a b).length<=64:=by
 unfold X2d
 split
 . simp
 split
 . exact Y03 (Zcn ha fun r hr=>Z3T hr).2.2 (Z2H _)
 . simp
end
section
open Go.RowKit
attribute [local irreducible] aw Xr dK
def X3D (s k:Nat):List Nat:=(List.range k).filter fun i=>s.testBit i
theorem Zf3 (s k:Nat):X3D s (k+1)=X3D s k++(if s.testBit k=true then [k] else []):=by
 unfold X3D;rw [Y3Y,Y2B];cases h:s.testBit k<;>simp [h]
theorem ZgU (s k:Nat):(X3D s k).length<=k:=by
 have:=Y1L (fun i=>s.testBit i) (List.range k);rw [Y2J] at this;exact this
theorem ZaF (l m:List Nat):Xe (l++m)=Xe l++Xe m:=by simp [Xe]
theorem Z7x (l m:List Int):XJ (l++m)=XJ l++XJ m:=by simp [XJ]
theorem Z9C (s:Nat) (hs:s<18446744073709551616):X7 Tryz.prog 109 [.val (.int .u64 (s:Int))] (· = .vec (XJ (Xe (mem s))) false):=by
 refine Yp ok109 fun C hC=>?_
 repeat' (first|refine Za (Zy (k:=3) rfl 1 (by decide)) ?_|(first|refine st ?_|(apply B<;>intro hb<;>try cases hb)))
 refine Zv hC (fun (i:Nat)=>i<=64) (fun i=>64-i) 1 (fun i => [(0,.val (.int .u64 (s:Int))),(3,.own 0),(4,Yv i)])
  (fun i => [(0,⟨1,XJ (Xe (X3D s i))⟩)]) (Y0l _) 0 (Y0l _) (fun i=>i) (fun _ _=>rfl) Zf
  ⟨Qp Yt,⟨_,rfl,.own 0 (by decide)⟩,Qp Yt,Yt⟩ ⟨Qs Yt,Yt⟩ ?_
 intro i hi;have hinc:IntKind.i64.wrap ((i:Int)+1)=((i+1:Nat):Int):=Y0v _ ⟨by omega,by omega⟩;have hstep:=Zf3 s i;have hlen:=ZgU s i
 iterate 4 (first|refine st ?_|(apply B<;>intro hb<;>try cases hb))
 refine Zt rfl rfl rfl (fun hb=>?_) (fun hb=>?_)
 . have hil : i < 64 := by have := Y0u hb; omega
   clear hb;(refine go ?_;repeat' (apply B<;>intro hb<;>try cases hb))
   . rw [Z44 s i hil, Z3y s i, Z7a s i] at hb;rw [Y6 hb] at hstep
     refine ZH (Zu (k:=0) (m:=XJ [(i:Int)]) (fl:=true) rfl rfl rfl (fun c hc=>by obtain⟨y,_,rfl⟩:=Y0i.1 hc; rfl) rfl (by
      show ((XJ (Xe (X3D s i))).length+(XJ [(i:Int)]).length)*8<=_;simp [XJ,Xe]
      omega)) rfl rfl ?_
     (refine go ?_;repeat' (apply B<;>intro hb<;>try cases hb))
     refine⟨i+1,mv 0 1,by omega,by omega,fun i hi=>absurd hi (Ye i),Zq rfl,
      ⟨Qp Yt,⟨_,rfl,.own 0 (by decide)⟩,⟨_,by show some _=some _; rw [hinc],.pure _ Yt⟩,Yt⟩,
      ⟨⟨by decide,_,rfl,?_⟩,Yt⟩⟩
     show Xw _ _ ⟨1,XJ (Xe (X3D s i))++XJ [(i:Int)]⟩ ⟨1,XJ (Xe (X3D s (i+1)))⟩;rw [hstep,ZaF,Z7x,show Xe [i] = [(i:Int)] from rfl];exact .same _ (by rw [<- Z7x]; exact ZJ _)
   . rw [Z44 s i hil, Z3y s i, Z7a s i] at hb;rw [Y8 (by rw [hb]; decide),Y0p] at hstep
     exact⟨i+1,fun i=>i,by omega,by omega,fun _ _=>rfl,Zf,
      ⟨Qp Yt,⟨_,rfl,.own 0 (by decide)⟩,⟨_,by show some _=some _; rw [hinc],.pure _ Yt⟩,Yt⟩,
      ⟨⟨by decide,_,rfl,by rw [hstep]; exact .same _ (ZJ _)⟩,Yt⟩⟩
 . have hil : i = 64 := by have := YC hb; omega
   subst hil;clear hb
   repeat' (first|refine Za (Zj (k:=3) rfl rfl (ZJ _)) ?_|(first|refine st ?_|(apply B<;>intro hb<;>try cases hb)))
   exact Z8 rfl (ZJ _) rfl
theorem Zj2 {N:Nat} (hN:N<18446744073709551616):X1v (X1p (Xe (mem N))) (Xe (mem N))=N:=by
 have h1:∀ r∈Xe (mem N),0<=r/\r<=X1p (Xe (mem N)):=fun r hr=>by
  obtain⟨x,hx,rfl⟩:=Y0i.1 hr;have:=Z3T hx;exact⟨by omega,(ZaD _ (-1)).2 _ hr (by omega)⟩
 rw [X1v,Z8C _ 0 h1];refine YE fun i=>?_;rw [YQ,ZaE,<- ZY hN];simp only [Y1I,Y2e,false_or];constructor
 . rintro ⟨r, hr, h⟩;obtain⟨x,hx,rfl⟩:=Y0i.1 hr;rw [<- h];simpa using hx
 . intro h;exact⟨(i:Int),Y0i.2 ⟨i,h,rfl⟩,by simp⟩
theorem Z68 (s:Nat) (hs:s<18446744073709551616):X7 Tryz.prog 49 [.val (.int .u64 (s:Int))] (· = XG s):=by
 refine Yp ok49 fun C hC=>?_;refine go ?_;refine Qe (Z9C s hs) ⟨Yt,Yt⟩ ?_;refine Qe (ZbU (Xe (mem s)) false) ⟨ZJ _,Yt⟩ ?_;rw [Zj2 hs];refine go ?_;exact Z8 rfl (Z2 _) rfl
def raC (c:Cu):List PV := [.val (.int .u64 (c.1:Int)),.val (.int .u64 (c.2:Int))]
theorem Z2C (c:Cu):X5 (raC c):=⟨Yt,Yt,Yt⟩
theorem Z7y (c:Cu) (hc:Xy c):X7 Tryz.prog 52 [.agg (raC c)] (· = cuP c):=by
 refine Yp ok52 fun C hC=>?_;refine Zm ?_;refine Z9 ?_;refine Z5 rfl rfl rfl ?_;refine go ?_;refine Qd (Z68 c.1 hc.1) ⟨Yt,Yt⟩ ?_;refine go ?_;refine Qd (Z68 c.2 hc.2) ⟨Yt,Yt⟩ ?_;refine go ?_;exact Z8 (r:=cuP c) rfl (ZA c) rfl
theorem Z6r (l:List Cu) (fl:Bool) (hl:∀ c∈l,Xy c) (hlen:l.length<=1000000):X7 Tryz.prog 50 [.vec (l.map raC) fl] (· = .vec (l.map cuC) false):=by
 have hnl:(l.map raC).length=l.length:=by simp
 have hrp:∀ m,Xt m (l.map raC):=fun m=>Zd (fun _ h=>h.elim) _ (Zb Z2C l);refine Yp ok50 fun C hC=>?_
 repeat' (first|refine Za (Zy (k:=3) rfl 2 (by decide)) ?_|(first|refine st ?_|(apply B<;>intro hb<;>try cases hb)))
 refine Zv hC (fun (i:Nat)=>i<=l.length) (fun i=>l.length-i) 1 (fun i => [(3,.own 0),(6,.vec (l.map raC) fl),(7,.val (.int .i64 (l.length:Int))),(8,Yv i)])
  (fun i => [(0,⟨2,(l.take i).map cuC⟩)]) (Y0l _) 0 (Y0l _) (fun i=>i) (fun _ _=>rfl) Zf
  ⟨⟨_,rfl,.own 0 (by decide)⟩,Qp (hrp _),⟨_,by rw [<- hnl]; rfl,.pure _ Yt⟩,Qp Yt,Yt⟩ ⟨Qs Yt,Yt⟩ ?_
 intro i hi;have hinc:IntKind.i64.wrap ((i:Int)+1)=((i+1:Nat):Int):=Y0v _ ⟨by omega,by omega⟩
 iterate 2 (first|refine st ?_|(apply B<;>intro hb<;>try cases hb))
 refine Zt rfl rfl rfl (fun hb=>?_) (fun hb=>?_)
 . have hil : i < l.length := by have := Y0u hb; omega
   have htake:l.take (i+1)=l.take i ++ [l[i]]:=by rw [YW,Y0c hil]; rfl
   clear hb;refine go ?_;refine Qo (Zl (xs:=l) rfl rfl i rfl hil rfl) ?_;refine go ?_;refine Qe (Z7y l[i] (hl _ (Y0j hil))) ⟨Z2C _,Yt⟩ ?_;refine go ?_
   refine ZH (Zu (k:=0) (m := [cuC l[i]]) (fl:=true) rfl rfl rfl (fun c hc=>by rw [Y0g] at hc; subst hc; rfl) rfl (by
    show (((l.take i).map cuC).length+1)*48<=_;rw [Y0f,Y0o]
    omega)) rfl rfl ?_
   refine go ?_
   refine⟨i+1,mv 0 2,by omega,by omega,fun i hi=>absurd hi (Ye i),Zq rfl,
    ⟨⟨_,rfl,.own 0 (by decide)⟩,Qp (hrp _),Qp Yt,⟨_,by show some _=some _; rw [hinc],.pure _ Yt⟩,Yt⟩,
    ⟨⟨by decide,_,rfl,?_⟩,Yt⟩⟩
   show Xw _ _ ⟨2,(l.take i).map cuC ++ [cuC l[i]]⟩ ⟨2,(l.take (i+1)).map cuC⟩;rw [htake,Y0r];exact .same _ (by rw [<- Y1c,<- Y0r]; exact Z1 _)
 . have hil : i = l.length := by have := YC hb; omega
   subst hil;clear hb;rw [Y0q]
   repeat' (first|refine Za (Zj (k:=3) rfl rfl (Z1 _)) ?_|(first|refine st ?_|(apply B<;>intro hb<;>try cases hb)))
   exact Z8 rfl (Z1 _) rfl
theorem ZgV (a s:Nat):s &&& a=a↔a ||| s=s:=by
 constructor
 . intro h;refine YE fun i=>?_;have:=congrArg (·.testBit i) h;simp only [Y0z] at this;rw [Y00];cases h1:a.testBit i<;>cases h2:s.testBit i<;>simp_all
 . intro h;refine YE fun i=>?_;have:=congrArg (·.testBit i) h;simp only [Y00] at this;rw [Y0z];cases h1:a.testBit i<;>cases h2:s.testBit i<;>simp_all
theorem Z4d (c:Cu) (s:Nat) (hc:Xy c) (hs:s<18446744073709551616):X7 Tryz.prog 47 [.agg (raC c),.val (.int .u64 (s:Int))] (· = .val (.bool (hoC c s))):=by
 refine Yp ok47 fun C hC=>?_;have h1:=Y28 s c.1 hs hc.1;have h2:=Y28 s c.2 hs hc.2;have e1:(((s &&& c.1:Nat):Int) == (c.1:Int))=decide (c.1 ||| s=s):=by
  rw [YQ,Y1S,Y2c,<- ZgV]; omega
 have e2:(((s &&& c.2:Nat):Int) == 0) = !decide (c.2 &&& s≠0):=by
  rw [Nat.and_comm s c.2,YQ,Y1S]; simp
 refine Zm ?_;refine Z9 ?_;refine Z5 rfl rfl rfl ?_;(refine go ?_;repeat' (apply B<;>intro hb<;>try cases hb))
 . rw [h1, e1] at *;rw [h2,e2] at hb;exact Z8 rfl Yt (XT (by unfold hoC; simp_all))
 . rw [h1, e1] at *;rw [h2,e2] at hb;exact Z8 rfl Yt (XT (by unfold hoC; simp_all))
 . rw [h1, e1] at hb;exact Z8 rfl Yt (XT (by unfold hoC; simp_all))
theorem Z3G (l:List Cu) (D:Nat->Prop):Xt D (l.map raC):=Zd (fun _ h=>h.elim) _ (Zb Z2C l)
theorem Z3H (l:List Cu):X1 (l.map raC):=Zb Z2C l
theorem Z2Q (l:List Cu) (fl:Bool) (s:Nat) (hl:∀ c∈l,Xy c) (hs:s<18446744073709551616):X7 Tryz.prog 92 [.vec (l.map raC) fl,.val (.int .u64 (s:Int))] (· = .val (.bool (soC l s))):=by
 have hnl:(l.map raC).length=l.length:=by simp
 refine Yp ok92 fun C hC=>?_;refine Z40 (k:=0) rfl fun hmax=>?_;have hlm:l.length<=Xj:=by rw [hnl] at hmax; exact hmax
 refine go ?_;refine Zz hC (fun i=>i<=l.length/\(l.take i).any (fun c=>hoC c s)=false) (fun i=>l.length-i) 0 (fun i => [(1,.val (.int .u64 (s:Int))),(7,.vec (l.map raC) fl),(8,.val (.int .i64 (l.length:Int))),(9,Yv i)]) (fun _=>[]) (Y0m _) 0 ⟨Y0l _,rfl⟩
  ⟨⟨rfl,Yt⟩,⟨rfl,Z3G l _⟩,⟨by rw [<- hnl]; rfl,Yt⟩,⟨rfl,Yt⟩,Yt⟩ Yt ?_
 rintro i ⟨hi,hno⟩;have hinc:IntKind.i64.wrap ((i:Int)+1)=((i+1:Nat):Int):=Y0v _ ⟨by omega,by simp only [Xj] at hlm; omega⟩
 iterate 2 (first|refine st ?_|(apply B<;>intro hb<;>try cases hb))
 refine Zt rfl rfl rfl (fun hb=>?_) (fun hb=>?_)
 . have hil : i < l.length := by have := Y0u hb; omega
   clear hb;refine go ?_;refine Qo (Zl (xs:=l) rfl rfl i rfl hil rfl) ?_;refine go ?_;refine Qe (Z4d l[i] s (hl _ (Y0j hil)) hs) ⟨Z2C _,Yt,Yt⟩ ?_;cases hh:hoC l[i] s
   . refine go ?_;exact⟨i+1,⟨by omega,Z4I hil hno hh⟩,by omega,⟨⟨rfl,Yt⟩,⟨rfl,Z3G l _⟩,⟨rfl,Yt⟩,⟨by show some _=some _; rw [hinc],Yt⟩,Yt⟩,Yt⟩
   . refine go ?_;exact Z8 rfl Yt (XT (by rw [soC,Y01.2 ⟨l[i],Y0j hil,hh⟩]))
 . have hil : i = l.length := by have := YC hb; omega
   subst hil;clear hb;rw [Y0q] at hno;refine go ?_;exact Z8 rfl Yt (XT hno.symm)
theorem Zk0 (a b:Nat) (ha:a<256) (hb:b<256):bits .and .u8 (a:Int) (b:Int)=((a &&& b:Nat):Int):=by
 have h1:(BitVec.ofInt 8 (a:Int)).toNat=a:=by rw [Y1A,Y1Z]; exact Y1v (by omega)
 have h2:(BitVec.ofInt 8 (b:Int)).toNat=b:=by rw [Y1A,Y1Z]; exact Y1v (by omega)
 show IntKind.u8.wrap ((BitVec.ofInt 8 (a:Int) &&& BitVec.ofInt 8 (b:Int)).toNat:Int)=_;rw [Y3P,h1,h2];have:a &&& b<=a:=Y1o;exact Y3I _ ⟨by omega,by omega⟩
theorem Zj3 {n k:Nat} {e:Env} {h:X2} {xs:List Cu} {r:PV} {b:Bx} (hk:e k=some r) (hb:h 0=some b) (hp:X1 b.elems) (hok:X5B xs r b):X4m n e h n (e.upd k (.vec ((X2R xs).map cuC) false)) (h.del 0):=by
 obtain⟨m,hm,hesz,htake,hr⟩:=hok;rcases hr with⟨rfl,rfl⟩|rfl
 . rw [Y0q] at htake;have:=Zj (n:=n) hk hb hp
   rwa [htake] at this
 . have := Zar (n := n) hk hb (by omega) hp
   rwa [Y12,htake] at this
def X1f (s:List Cu) (i j:Nat):Bool:=emC (s.getD i (0,0))||(List.range j).any fun k=>decide (k≠i)&&(!emC (s.getD k (0,0))&&wiC (s.getD i (0,0)) (s.getD k (0,0)))
theorem Zco (s:List Cu) (i j:Nat):X1f s i (j+1)=(X1f s i j||(decide (j≠i)&&(!emC (s.getD j (0,0))&&wiC (s.getD i (0,0)) (s.getD j (0,0))))):=by
 unfold X1f;rw [Y3Y,Y31,Bool.or_assoc];simp
def X18 (s:List Cu) (i:Nat):List Cu:=((List.range i).filter fun i => !X1f s i s.length).map fun i=>s.getD i (0,0)
theorem Z7z (s:List Cu) (i:Nat):X18 s (i+1)=X18 s i++(if X1f s i s.length then [] else [s.getD i (0,0)]):=by
 unfold X18;rw [Y3Y,Y2B,Y0r];cases h:X1f s i s.length<;>simp [h]
theorem Zf4 (s:List Cu) (i:Nat):(X18 s i).length<=i:=by
 unfold X18;rw [Y0f];have:=Y1L (fun i => !X1f s i s.length) (List.range i)
 rwa [Y2J] at this
def X3q (l:List Cu):List Cu:=X18 (X2R (X1U l)) (X2R (X1U l)).length
theorem Z7A (l:List Cu) (fl:Bool) (hl:∀ c∈l,Xy c) (hlen:l.length<=1000000):X7 Tryz.prog 188 [.vec (l.map cuC) fl] (· = .vec ((X3q l).map cuC) false):=by
 refine Yp ok188 fun C hC=>?_;refine go ?_;refine Z3B (Z66 l fl hlen) Z3j (Z1 _) rfl rfl ⟨Z1 _,Yt⟩ ?_;refine go ?_;refine Z10 rfl rfl (Zcl (ob:=0) l hl rfl) ?_;rintro n' r h' ⟨rfl,rfl,ys,hperm,hsort,rfl⟩;obtain rfl:=ZaA hperm hsort hl;have h64:∀ c∈X1U l,Xy c:=ZdJ hl;have hsl:(X1U l).length=l.length:=(Z2I l).length_eq;have hcl:(X2R (X1U l)).length<=l.length:=by rw [<- hsl]; exact (ZiW _).length_le
 have hc64:∀ c∈X2R (X1U l),Xy c:=fun c hc=>h64 c ((Z9x _ c).1 hc);unfold X3q;refine go ?_;refine Z10 rfl rfl ((Z85 (X1U l) h64 (by omega)).ispec (Z1 _) ⟨rfl,Yt,Yt⟩ rfl) ?_;rintro n' r h' ⟨rfl,b',-,hpb,hok,rfl⟩;refine Za (Zj3 (k:=15) rfl rfl hpb hok) ?_;generalize X2R (X1U l)=s at hcl hc64 ⊢;have hsm:(s.map cuC).length=s.length:=by simp
 have hpl:∀ (l:List Cu) D,Xt D (l.map cuC):=fun l D=>Zd (fun _ h=>h.elim) _ (Z1 l)
 repeat' (first|refine Za (Zy (k:=4) rfl 2 (by decide)) ?_|(first|refine st ?_|(apply B<;>intro hb<;>try cases hb)))
 refine Zv hC (fun i=>i<=s.length) (fun i=>s.length-i) 2 (fun i => [(3,.vec (s.map cuC) false),(4,.own 1),(16,.vec (s.map cuC) false),(17,.val (.int .i64 s.length)),(18,Yv i)])
  (fun i => [(1,⟨2,(X18 s i).map cuC⟩)]) (by omega) 0 (Y0l _) (fun i=>i) (fun _ _=>rfl) Zf
  ⟨Qp (Z1 s),⟨_,rfl,.own 1 (by decide)⟩,Qp (Z1 s),⟨_,by rw [<- hsm]; rfl,.pure _ Yt⟩,Qp Yt,Yt⟩
  ⟨Qs Yt,Yt⟩ ?_
 intro i hi;have hinc:IntKind.i64.wrap ((i:Int)+1)=((i+1:Nat):Int):=Y0v _ ⟨by omega,by omega⟩;have hts:=Z7z s i;have htl:=Zf4 s i
 iterate 2 (first|refine st ?_|(apply B<;>intro hb<;>try cases hb))
 refine Zt rfl rfl rfl (fun hb=>?_) (fun hb=>?_)
 . have hil : i < s.length := by have := Y0u hb; omega
   have hgi:s.getD i (0,0)=s[i]:=by simp [Y0b,hil]
   have hci:=hc64 _ (Y0j hil);clear hb;refine go ?_;refine Qo (Zl (xs:=s) (g:=cuC) rfl rfl i rfl hil rfl) ?_;rw [hgi] at hts;have hns:=fun j=>Zco s i j;have hn0:X1f s i 0=emC s[i]:=by unfold X1f; rw [hgi]; simp
   rw [hgi] at hns;generalize s[i]=c at hci hts hns hn0 ⊢
   iterate 7 (first|refine st ?_|(apply B<;>intro hb<;>try cases hb))
   refine Za (Z1s (k:=6) (l:=cuC c) rfl rfl (Zh c)) ?_;refine go ?_;refine Qe (Z1f c hci) ⟨ZA c,Yt⟩ ?_;rw [<- hn0];refine gv ?_;refine Zz hC (fun j=>j<=s.length) (fun j=>s.length-j) 2 (fun j => [(3,.vec (s.map cuC) false),(4,.own 1),(5,Yv i),(6,.cp (cuC c)),(7,.val (.bool (X1f s i j))),(16,.vec (s.map cuC) false),(17,.val (.int .i64 s.length)),(18,Yv i),(25,.vec (s.map cuC) false),(26,.val (.int .i64 s.length)),(27,Yv j)])
    (fun _ => [(1,⟨2,(X18 s i).map cuC⟩)]) (by omega) 0 (Y0l _)
    ⟨⟨rfl,hpl _ _⟩,⟨rfl,show (1:Nat)<2 by decide⟩,⟨rfl,Yt⟩,⟨rfl,Zp _ _,Zp _ _,Yt⟩,⟨rfl,Yt⟩,⟨rfl,hpl _ _⟩,⟨rfl,Yt⟩,⟨rfl,Yt⟩,⟨rfl,hpl _ _⟩,⟨by rw [<- hsm]; rfl,Yt⟩,⟨rfl,Yt⟩,Yt⟩ ⟨⟨by decide,rfl,hpl _ _⟩,Yt⟩ ?_
   intro j hj;have hincj:IntKind.i64.wrap ((j:Int)+1)=((j+1:Nat):Int):=Y0v _ ⟨by omega,by omega⟩;have hnj:=hns j
   iterate 2 (first|refine st ?_|(apply B<;>intro hb<;>try cases hb))
   refine Zt rfl rfl rfl (fun hb=>?_) (fun hb=>?_)
   . have hjl : j < s.length := by have := Y0u hb; omega
     have hgj:s.getD j (0,0)=s[j]:=by simp [Y0b,hjl]
     have hcj:=hc64 _ (Y0j hjl);clear hb;have hfin:∀ v,X1f s i (j+1)=v->some (PV.val (.bool v))=some (PV.val (.bool (X1f s i (j+1)))):=fun v h=>by rw [h]
     rw [hgj] at hnj;refine go ?_;refine Qo (Zl (xs:=s) (g:=cuC) rfl rfl j rfl hjl rfl) ?_;generalize s[j]=d at hcj hnj ⊢;generalize X1f s i j=v at hnj ⊢;cases v
     . (refine go ?_;repeat' (apply B<;>intro hb<;>try cases hb))
       . have hne : j ≠ i := fun e => by rw [e] at hb; simp at hb
         rw [Y1O,Yw hne,Y1g] at hnj;refine Qe (Z1f d hcj) ⟨ZA d,Yt⟩ ?_;generalize emC d=v2 at hnj ⊢;cases v2
         . rw [Bool.not_false, Y1g] at hnj;refine go ?_;refine Qe (Zay c d hci hcj) ⟨ZA c,ZA d,Yt⟩ ?_;refine gv ?_;exact⟨j+1,by omega,by omega,⟨⟨rfl,hpl _ _⟩,⟨rfl,show (1:Nat)<2 by decide⟩,⟨rfl,Yt⟩,⟨rfl,Zp _ _,Zp _ _,Yt⟩,⟨by rw [hnj]; rfl,Yt⟩,⟨rfl,hpl _ _⟩,⟨rfl,Yt⟩,⟨rfl,Yt⟩,⟨rfl,hpl _ _⟩,⟨rfl,Yt⟩,⟨by show some _=some _; rw [hincj],Yt⟩,Yt⟩,⟨⟨by decide,rfl,hpl _ _⟩,Yt⟩⟩
         . rw [Y4f, Y2Q] at hnj;(refine go ?_;repeat' (apply B<;>intro hb<;>try cases hb));exact⟨j+1,by omega,by omega,⟨⟨rfl,hpl _ _⟩,⟨rfl,show (1:Nat)<2 by decide⟩,⟨rfl,Yt⟩,⟨rfl,Zp _ _,Zp _ _,Yt⟩,⟨by rw [hnj]; rfl,Yt⟩,⟨rfl,hpl _ _⟩,⟨rfl,Yt⟩,⟨rfl,Yt⟩,⟨rfl,hpl _ _⟩,⟨rfl,Yt⟩,⟨by show some _=some _; rw [hincj],Yt⟩,Yt⟩,⟨⟨by decide,rfl,hpl _ _⟩,Yt⟩⟩
       . have hne : j = i := by
          have h:=hb;simp at h;omega
         rw [Y1O,Y0w (fun h=>h hne),Y2Q] at hnj;exact⟨j+1,by omega,by omega,⟨⟨rfl,hpl _ _⟩,⟨rfl,show (1:Nat)<2 by decide⟩,⟨rfl,Yt⟩,⟨rfl,Zp _ _,Zp _ _,Yt⟩,⟨by rw [hnj]; rfl,Yt⟩,⟨rfl,hpl _ _⟩,⟨rfl,Yt⟩,⟨rfl,Yt⟩,⟨rfl,hpl _ _⟩,⟨rfl,Yt⟩,⟨by show some _=some _; rw [hincj],Yt⟩,Yt⟩,⟨⟨by decide,rfl,hpl _ _⟩,Yt⟩⟩
     . rw [Y2G] at hnj;refine go ?_;exact⟨j+1,by omega,by omega,⟨⟨rfl,hpl _ _⟩,⟨rfl,show (1:Nat)<2 by decide⟩,⟨rfl,Yt⟩,⟨rfl,Zp _ _,Zp _ _,Yt⟩,⟨by rw [hnj]; rfl,Yt⟩,⟨rfl,hpl _ _⟩,⟨rfl,Yt⟩,⟨rfl,Yt⟩,⟨rfl,hpl _ _⟩,⟨rfl,Yt⟩,⟨by show some _=some _; rw [hincj],Yt⟩,Yt⟩,⟨⟨by decide,rfl,hpl _ _⟩,Yt⟩⟩
   . have hjl : j = s.length := by have := YC hb; omega
     subst hjl;clear hb;generalize X1f s i s.length=v at hts ⊢;cases v
     . rw [Y8 (by decide)] at hts;refine go ?_
       refine ZH (Zu (k:=1) (m := [cuC c]) (fl:=true) rfl rfl rfl (fun q hq=>by rw [Y0g] at hq; subst hq; rfl) rfl (by
        show (((X18 s i).map cuC).length+1)*48<=_
        rw [Y0f];omega)) rfl rfl ?_
       refine go ?_;refine⟨i+1,mv 1 2,by omega,by omega,fun i hi=>absurd hi (Ye i),Zq rfl,⟨Qp (Z1 s),⟨_,rfl,.own 1 (by decide)⟩,Qp (Z1 s),Qp Yt,⟨_,by show some _=some _; rw [hinc],.pure _ Yt⟩,Yt⟩,⟨⟨by decide,_,rfl,?_⟩,Yt⟩⟩;show Xw _ _ ⟨2,(X18 s i).map cuC ++ [cuC c]⟩ ⟨2,(X18 s (i+1)).map cuC⟩;rw [hts,Y0r];exact .same _ (by rw [<- Y1c,<- Y0r]; exact Z1 _)
     . rw [Y6 rfl, Y0p] at hts;refine go ?_;exact⟨i+1,fun i=>i,by omega,by omega,fun _ _=>rfl,Zf,⟨Qp (Z1 s),Qw 1,Qp (Z1 s),Qp Yt,⟨_,by show some _=some _; rw [hinc],.pure _ Yt⟩,Yt⟩,⟨⟨by decide,_,rfl,by rw [hts]; exact .same _ (Z1 _)⟩,Yt⟩⟩
 . have hil : i = s.length := by have := YC hb; omega
   subst hil;clear hb
   repeat' (first|refine Za (Zj (k:=4) rfl rfl (Z1 _)) ?_|(first|refine st ?_|(apply B<;>intro hb<;>try cases hb)))
   exact Z8 rfl (Z1 _) rfl
end
section
open Go.RowKit
theorem Z8E:∀ (l:List Cu) (p:Cu),(p :: l).Pairwise (fun a b=>X20 a<=X20 b)->(∀ c∈p :: l,Xy c)->p ∉ X2x p l/\(X2x p l).Nodup
 | [],p,_,_=>⟨by simp [X2x],by simp [X2x]⟩
 | x :: r, p, hs, h64 => by
   obtain⟨hp,hs2⟩:=Y14.1 hs;obtain⟨i1,i2⟩:=Z8E r x hs2 fun c hc=>h64 c (YB _ hc);cases he:eqC x p with
   | true =>
     obtain rfl:=(Zcj _ _).1 he;rw [Z7u he];exact⟨i1,i2⟩
   | false =>
     rw [Z7v he];refine⟨fun hm=>?_,Y2Z.2 ⟨i1,i2⟩⟩;have hne:p≠x:=fun e=>by rw [e,ZiV] at he; cases he
     rcases YD.1 hm with h|h
     . exact hne h
     . have hr : p ∈ r := (Z6O x r).subset h;have k1:=hp x (Y0t ..);have k2:=(Y14.1 hs2).1 p hr;exact hne (ZdI (h64 p (Y0t ..)) (h64 x (by simp)) (Nat.le_antisymm k1 k2))
theorem Z8F {l:List Cu} (hl:∀ c∈l,Xy c):(X2R (X1U l)).Nodup:=by
 have hs:=Z4c l;have h64:=ZdJ hl;cases h:X1U l with
 | nil=>exact Y3x
 | cons a r =>
   rw [h] at hs h64;exact Y2Z.2 (Z8E r a hs h64)
theorem X6e {s:List Cu} {i:Nat} (h:i<s.length):s.getD i (0,0)=s[i]:=by simp [Y0b,h]
theorem ZdM (s:List Cu) (i:Nat):X1f s i s.length=false↔emC (s.getD i (0,0))=false/\∀ k,k<s.length->k≠i->emC (s.getD k (0,0))=false->wiC (s.getD i (0,0)) (s.getD k (0,0))=false:=by
 unfold X1f;rw [Y3f,Y1U];refine Y2D fun _=>?_;constructor
 . intro h k hk hne he;have:=h k (Y1x.2 hk);rw [Yw hne,he] at this;simpa using this
 . intro h k hk;by_cases hne:k=i
   . simp [hne]
   . cases he : emC (s.getD k (0, 0)) with
     | true=>simp
     | false=>rw [h k (Y1x.1 hk) hne he]; simp
theorem Zf5 {s:List Cu} {n:Nat} (hn:n<=s.length) {c:Cu} (h:c∈X18 s n):c∈s/\emC c=false:=by
 obtain⟨i,hi,rfl⟩:=Y0i.1 h;obtain⟨h1,h2⟩:=Y1f.1 hi;rw [Y1x] at h1;have h3:=((ZdM s i).1 (by simpa using h2)).1;exact⟨by rw [X6e (show i<s.length by omega)]; exact Y0j _,h3⟩
theorem Z35 {l:List Cu} {c:Cu} (h:c∈X3q l):c∈l/\emC c=false:=by
 obtain⟨h1,h2⟩:=Zf5 (Y0m _) h;exact⟨(Z2I l).mem_iff.1 ((Z9x _ _).1 h1),h2⟩
theorem ZlS {a b:Cu} (he:emC a=false) (h:wiC a b=true):X4p b.1 a.1/\X4p b.2 a.2:=by
 unfold wiC at h;rw [he,Y1O,Y0k] at h;exact⟨(Z4J _ _).1 (Y0u h.1),(Z4J _ _).1 (Y0u h.2)⟩
theorem Zk1 {a b:Nat} (h:X4p a b):a<=b:=by
 have:a ||| b=b:=(Z4J _ _).2 h
 rw [<- this];exact YN
theorem Zj4 {s:List Cu} (hn:s.Nodup):∀ (m i:Nat) (hi:i<s.length),s[i].1+s[i].2<=m->emC s[i]=false->∃ d∈X18 s s.length,X4p d.1 s[i].1/\X4p d.2 s[i].2:=by
 intro m;have key:∀ m,(∀ (i:Nat) (hi:i<s.length),s[i].1+s[i].2<m->emC s[i]=false->∃ d∈X18 s s.length,X4p d.1 s[i].1/\X4p d.2 s[i].2)->∀ (i:Nat) (hi:i<s.length),s[i].1+s[i].2<=m->emC s[i]=false->∃ d∈X18 s s.length,X4p d.1 s[i].1/\X4p d.2 s[i].2:=by
  intro m ih i hi hm he;cases hnd:X1f s i s.length with
  | false=>exact⟨s[i],Y0i.2 ⟨i,Y1f.2 ⟨Y1x.2 hi,by rw [hnd]; rfl⟩,X6e hi⟩,ZaC _,ZaC _⟩
  | true =>
    have:∃ k,∃ hk:k<s.length,k≠i/\emC s[k]=false/\wiC s[i] s[k]=true:=by
     apply YU;intro hno
     have:X1f s i s.length=false:=(ZdM s i).2 ⟨by rw [X6e hi]; exact he,fun k hk hne hek=>by
      rw [X6e hk] at hek ⊢;rw [X6e hi]
      exact tb2 fun hw=>hno ⟨k,hk,hne,hek,hw⟩⟩
     rw [hnd] at this; cases this
    obtain⟨k,hk,hne,hek,hw⟩:=this;obtain⟨s1,s2⟩:=ZlS he hw;have l1:=Zk1 s1;have l2:=Zk1 s2;have hlt:s[k].1+s[k].2<m:=by
     apply YU;intro hge;have e1:s[k].1=s[i].1:=by omega
     have e2:s[k].2=s[i].2:=by omega
     have e3:s[k]=s[i]:=Y4a e1 e2;have hp:=Y2N.1 hn;rcases Y4i k i with h|h|h
     . exact hp k i hk hi h e3
     . exact hne h
     . exact hp i k hi hk h e3.symm
    obtain⟨d,d1,d2,d3⟩:=ih k hk hlt hek;exact⟨d,d1,fun j hj=>s1 j (d2 j hj),fun j hj=>s2 j (d3 j hj)⟩
 induction m with
 | zero=>exact key 0 fun i hi h=>absurd h (Ye _)
 | succ m ih=>exact key (m+1) fun i hi h=>ih i hi (by omega)
theorem ZkN {c d:Cu} (h1:X4p d.1 c.1) (h2:X4p d.2 c.2) {S:Nat} (h:hoC c S=true):hoC d S=true:=by
 rw [Z1a] at h ⊢;exact⟨fun i hi=>h.1 i (h1 i hi),fun i hi=>h.2 i (h2 i hi)⟩
theorem Z9D {l:List Cu} (hl:∀ c∈l,Xy c) (S:Nat):soC (X3q l) S=soC l S:=by
 rw [YQ];unfold soC;rw [Y01,Y01];constructor
 . rintro ⟨c, hc, hs⟩;exact⟨c,(Z35 hc).1,hs⟩
 . rintro ⟨c, hc, hs⟩;have he:emC c=false:=tb2 fun he=>by rw [Z2P he] at hs; cases hs
   obtain⟨i,hi,rfl⟩:=Y1d ((Z9x _ _).2 ((Z2I l).mem_iff.2 hc));obtain⟨d,d1,d2,d3⟩:=Zj4 (Z8F hl) _ i hi (Y0m _) he;exact⟨d,d1,ZkN d2 d3 hs⟩
theorem Z8G (s:List Cu):∀ n,n<=s.length->(X18 s n).Sublist (s.take n)
 | 0,_=>by simp [X18]
 | n + 1, h => by
   rw [Z7z,YW,Y0c (show n<s.length by omega)];refine (Z8G s n (by omega)).append ?_;rw [X6e (show n<s.length by omega)]
   split
   . exact List.nil_sublist _
   . exact Y36 _
theorem Z69 {l:List Cu} (hl:∀ c∈l,Xy c):(X3q l).Nodup:=by
 have:=Z8G (X2R (X1U l)) _ (Y0m _);rw [Y0q] at this;exact (Z8F hl).sublist this
theorem Xc {a b:Nat}:a ||| b=b↔∀ i,a.testBit i=true->b.testBit i=true:=by
 constructor
 . intro h i hi;rw [<- h,Y00,hi,Y2G]
 . intro h;refine YE fun i=>?_;rw [Y00];cases hi:a.testBit i with
   | true=>rw [h i hi]; rfl
   | false=>rw [Y1O]
theorem Zj5 {a b:Nat}:a &&& b=0↔∀ i,a.testBit i=true->b.testBit i=false:=by
 constructor
 . intro h i hi;have h1:=congrArg (·.testBit i) h;simp only [Y0z,hi,Y1g,Y1I] at h1;exact h1
 . intro h;refine YE fun i=>?_;rw [Y0z,Y1I];cases hi:a.testBit i with
   | true=>rw [h i hi]; rfl
   | false=>rw [Y2Q]
structure RU where
 rev:Bool
 cu:Cu
 tg:Nat
 og:Nat
structure PB where
 n:Nat
 l:List Pr
 st:Nat
 rs:List RU
 nv:List Cu
 gl:List Cu
def mkN (n:Nat):Nat:=2*2 ^ n-2
theorem Z21 (n i:Nat):(mkN n).testBit i=(decide (1<=i)&&decide (i<=n)):=by
 have e:mkN n=2*(2 ^ n-1):=by unfold mkN; have:=Y2X n; omega
 rw [e];cases i with
 | zero=>simp [Y2v,Nat.mul_mod_right]
 | succ i =>
   rw [Y2w,show 2*(2 ^ n-1) / 2=2 ^ n-1 by omega,Y3l];simp;omega
theorem Z5E {n:Nat} (h:n<=63):mkN n<18446744073709551616:=by
 have:2 ^ n<=2 ^ 63:=YJ (by decide) h;unfold mkN;omega
structure InC (n:Nat) (c:Cu):Prop where
 y:c.1 ||| mkN n=mkN n
 n:c.2 ||| mkN n=mkN n
 e:emC c=false
def InM (m:Nat) (c:Cu):Prop:=c.1 ||| m=m/\c.2 ||| m=m
structure X42 (n:Nat) (r:RU):Prop where
 cu:InC n r.cu
 m:InM 62 r.cu
 tg:1<=r.tg/\r.tg<=n/\r.tg<=5
 rv:r.rev=true->r.cu=(0,0)
structure Xo (t:PB):Prop where
 n:1<=t.n/\t.n<=63
 good:X4g t.l
 lk:∀ p∈t.l,p.1<=t.n/\p.2<=t.n/\p.1<=5/\p.2<=5
 st:t.st ||| mkN t.n=mkN t.n
 rl:t.rs.length<=64
 rs:∀ r∈t.rs,X42 t.n r
 nl:t.nv.length<=64
 nv:∀ c∈t.nv,InC t.n c/\InM 62 c
 gk:t.gl.length<=64
 gl:∀ c∈t.gl,InC t.n c/\InM 62 c
 sg:soC t.nv (clo t.l t.st)=false
theorem InC.lt {n:Nat} {c:Cu} (h:InC n c) (hn:n<=63):Xy c:=by
 have h1:c.1<=mkN n:=by rw [<- h.y]; exact YN
 have h2:c.2<=mkN n:=by rw [<- h.n]; exact YN
 have:=Z5E hn;exact⟨by omega,by omega⟩
noncomputable def sen (l:List Pr) (r:Nat):Nat:=abv l r ||| 2 ^ r
theorem Z4e {l:List Pr} (hl:XN l) (r a:Nat):(sen l r).testBit a=true↔Up l a r \/ a=r:=by
 unfold sen;rw [Y00,YR,Z7e hl,YI,Y0n,eq_comm (a:=r)]
theorem ZdN (l:List Pr) (hl:XN l) {r:Nat} (hr:r<64):sen l r<18446744073709551616:=by
 refine Nat.lt_pow_two_of_testBit (n:=64) _ fun i hi=>?_;refine Yy.2 fun hb=>?_;rcases (Z4e hl r i).1 hb with h1|h1
 . have:=(h1.lt hl).1; omega
 . omega
theorem Z9E {l:List Pr} (hl:XN l) {s:Nat} (hs:s<18446744073709551616) (r:Nat):(clo l s).testBit r=true↔∃ a,s.testBit a=true/\1<=a/\(sen l r).testBit a=true:=by
 rw [ZgJ s r hs];constructor
 . rintro ⟨a, h1, h2, h3⟩;exact⟨a,h1,h2,(Z4e hl r a).2 ((Z7n hl a r).1 h3 |>.imp (fun h=>h) fun h=>h.symm)⟩
 . rintro ⟨a, h1, h2, h3⟩;exact⟨a,h1,h2,(Z7n hl a r).2 ((Z4e hl r a).1 h3 |>.imp (fun h=>h) fun h=>h.symm)⟩
noncomputable def exN (l:List Pr) (n:Nat) (rs:List Nat):Nat:=rs.foldl (fun o r=>o ||| (sen l r &&& mkN n)) 0
noncomputable def exX (l:List Pr) (n r:Nat) (x:List Cu):List Cu:=x.flatMap fun y=>(mem (sen l r &&& mkN n)).map fun a=>(y.1 ||| 2 ^ a,y.2)
noncomputable def exF (l:List Pr) (n:Nat) (rs:List Nat) (x:List Cu):List Cu:=rs.foldl (fun x r=>X3q (exX l n r x)) x
noncomputable def exL (l:List Pr) (n:Nat) (c:Cu):List Cu:=exF l n (mem c.1) [(0,exN l n (mem c.2))]
theorem Z7B (l:List Pr) (n:Nat) (i:Nat):∀ (rs:List Nat) (o:Nat),(rs.foldl (fun o r=>o ||| (sen l r &&& mkN n)) o).testBit i=true↔o.testBit i=true \/ ∃ r∈rs,(sen l r).testBit i=true/\(mkN n).testBit i=true
 | [],o=>by simp
 | r :: rs, o => by
   rw [Y1b,Z7B l n i rs,Y00,YR,Y0z,Y0k];simp only [YD,exists_eq_or_imp,or_assoc]
theorem Z4f {a n:Nat} (hn:n<=63):a &&& mkN n<18446744073709551616:=Y02 Y2b (Z5E hn)
theorem ZlT {l:List Pr} {n r:Nat} (hn:n<=63) {x:List Cu} (hx:∀ c∈x,Xy c):∀ c∈exX l n r x,Xy c:=fun c hc=>by
 obtain⟨y,hy,hc⟩:=Y1h.1 hc;obtain⟨a,ha,rfl⟩:=Y0i.1 hc;exact⟨Z1S (hx y hy).1 (ZP (Z3T ha)),(hx y hy).2⟩
theorem ZlU {l:List Pr} {n r:Nat} (hn:n<=63) (x:List Cu) (S:Nat):soC (exX l n r x) S=true↔soC x S=true/\∃ a,(sen l r).testBit a=true/\(mkN n).testBit a=true/\S.testBit a=true:=by
 unfold soC exX;rw [List.any_flatMap,Y01,Y01];constructor
 . rintro ⟨y, hy, h⟩;rw [List.any_map,Y01] at h;obtain⟨a,ha,h⟩:=h;have h2:hoC (y.1 ||| 2 ^ a,y.2) S=true:=h;rw [Z8D,Y0k] at h2;have h3:=(ZY (Z4f hn)).1 ha;rw [Y0z,Y0k] at h3;exact⟨⟨y,hy,h2.1⟩,a,h3.1,h3.2,h2.2⟩
 . rintro ⟨⟨y, hy, h1⟩, a, h2, h3, h4⟩;refine⟨y,hy,?_⟩;rw [List.any_map,Y01];refine⟨a,(ZY (Z4f hn)).2 (by rw [Y0z,h2,h3]; rfl),?_⟩;show hoC (y.1 ||| 2 ^ a,y.2) S=true;rw [Z8D,h1,h4]; rfl
theorem Zk2 {l:List Pr} {n:Nat} (hn:n<=63) (S:Nat):∀ (rs:List Nat) (x:List Cu),(∀ c∈x,Xy c)->(soC (exF l n rs x) S=true↔soC x S=true/\∀ r∈rs,∃ a,(sen l r).testBit a=true/\(mkN n).testBit a=true/\S.testBit a=true)
 | [],x,hx=>by simp [exF]
 | r :: rs, x, hx => by
   have h1:=ZlT (l:=l) (r:=r) hn hx;have ih:=Zk2 (l:=l) hn S rs (X3q (exX l n r x)) fun c hc=>h1 c (Z35 hc).1;rw [Z9D h1,ZlU hn] at ih;rw [show exF l n (r :: rs) x=exF l n rs (X3q (exX l n r x)) from rfl,ih];simp only [YD,forall_eq_or_imp,and_assoc]
theorem Zk3 {l:List Pr} (hl:XN l) {n:Nat} (hn:n<=63) {c:Cu} (hc:InC n c) {S:Nat} (hS:S ||| mkN n=mkN n):soC (exL l n c) S=hoC c (clo l S):=by
 have hS64:S<18446744073709551616:=by
  have h1:S<=mkN n:=by rw [<- hS]; exact YN
  have:=Z5E hn;omega
 have hin:=Xc.1 hS;have hc64:=hc.lt hn;have hN64:exN l n (mem c.2)<18446744073709551616:=by
  have:∀ (rs:List Nat) (o:Nat),o<18446744073709551616->rs.foldl (fun o r=>o ||| (sen l r &&& mkN n)) o<18446744073709551616:=by
   intro rs
   induction rs with
   | nil=>exact fun o h=>h
   | cons r rs ih=>exact fun o h=>ih _ (Z1S h (Z4f hn))
  exact this _ 0 (by decide)
 rw [YQ];unfold exL;rw [Zk2 hn S _ _ (fun q hq=>by rw [Y0g] at hq; subst hq; exact⟨(by decide:(0:Nat)<18446744073709551616),hN64⟩),Z9A,Z1a,Z1a];constructor
 . rintro ⟨⟨-, h1⟩, h2⟩;refine⟨fun r hr=>?_,fun r hr=>?_⟩
   . obtain ⟨a, ha, hm, hs⟩ := h2 r ((ZY hc64.1).2 hr);rw [Z21,Y0k,Y0n,Y0n] at hm;exact (Z9E hl hS64 r).2 ⟨a,hs,hm.1,ha⟩
   . refine Yy.2 fun hb => ?_;obtain⟨a,hs,ha1,ha⟩:=(Z9E hl hS64 r).1 hb;have h3:=h1 a ((Z7B l n a (mem c.2) 0).2 (.inr ⟨r,(ZY hc64.2).2 hr,ha,hin a hs⟩));rw [hs] at h3; cases h3
 . rintro ⟨h1, h2⟩;refine⟨⟨fun i hi=>by simp at hi,fun a ha=>?_⟩,fun r hr=>?_⟩
   . rcases (Z7B l n a (mem c.2) 0).1 ha with h3 | ⟨r, hr, h3, h4⟩
     . simp at h3
     . refine Yy.2 fun hs => ?_;rw [Z21,Y0k,Y0n,Y0n] at h4;have h5:=h2 r ((ZY hc64.2).1 hr);rw [(Z9E hl hS64 r).2 ⟨a,hs,h4.1,h3⟩] at h5;cases h5
   . obtain ⟨a, hs, ha1, ha⟩ := (Z9E hl hS64 r).1 (h1 r ((ZY hc64.1).1 hr));exact⟨a,ha,hin a hs,hs⟩
def Dis (l:List Cu):Prop:=(∀ c∈l,emC c=false)/\l.Pairwise fun a b=>∀ S,hoC a S=true->hoC b S=false
theorem ZdO {l:List Cu} {d:Cu} (h:Dis l) (hd:emC d=false) (hx:∀ S,hoC d S=true->soC l S=false):Dis (l ++ [d]):=by
 refine⟨fun c hc=>(Y0h.1 hc).elim (h.1 c) fun e=>by rw [Y0g] at e; subst e; exact hd,?_⟩;rw [Y2i];refine⟨h.2,Y2Y ..,fun a ha b hb S hs=>?_⟩;rw [Y0g] at hb;subst hb;refine Yy.2 fun hS=>?_;have:=hx S hS;have h2:soC l S=true:=Y01.2 ⟨a,ha,hs⟩;rw [this] at h2; cases h2
theorem Z9F {c:Cu} {S:Nat} (h:hoC c S=true):emC c=false:=Yy.2 fun he=>by rw [Z2P he S] at h; cases h
theorem Zj6 {b a0:Cu} {l:List Nat} {z:Cu×List Cu} (h1:∀ S,hoC z.1 S=(hoC a0 S&&X2F b l S)) (h2:∀ S,soC z.2 S=(hoC a0 S && !X2F b l S)) (r:Nat) (hz:emC z.1=false) (hD:Dis z.2):Dis (X2e b z r).2:=by
 have hxx:∀ {d:Cu},(∀ S,hoC d S=true->hoC z.1 S=true)->∀ S,hoC d S=true->soC z.2 S=false:=fun {d} hd S hS=>by
  have h3:=hd S hS;rw [h1,Y0k] at h3;rw [h2,h3.2,Y4f,Y3y]
 have hself:=Z4K hz;unfold X2e
 split
 . rename_i h;rw [Y0k,Y10] at h;have hd:∀ S,hoC (z.1.1,z.1.2 ||| 2 ^ r) S=(hoC z.1 S && !S.testBit r):=fun S=>ZiZ;refine ZdO hD (Z9F (S:=z.1.1) (by rw [hd,hself,h.2]; rfl)) (hxx fun S hS=>?_);rw [hd,Y0k] at hS;exact hS.1
 . split
   . rename_i _ h;rw [Y0k,Y10] at h;have hd:∀ S,hoC (z.1.1 ||| 2 ^ r,z.1.2) S=(hoC z.1 S&&S.testBit r):=fun S=>Z8D;refine ZdO hD (Z9F (S:=z.1.1 ||| 2 ^ r) ?_) (hxx fun S hS=>?_)
     . rw [Z1a];refine⟨fun i hi=>hi,fun i hi=>?_⟩;rw [Y00,Y3f];refine⟨((Z1a _ _).1 hself).2 i hi,?_⟩;rw [YI];refine Y0w fun e=>?_;subst e;rw [h.2] at hi; cases hi
     . rw [hd, Y0k] at hS;exact hS.1
   . exact hD
theorem Zj7 {a b:Cu} (ha:emC a=false) (hab:emC (X19 a b)=false):∀ l:List Nat,emC (X2P a b l).1=false/\Dis (X2P a b l).2:=by
 have hS0:=Z4K hab;rw [Z67,Y0k] at hS0;have hd:b.1 &&& b.2=0:=by
  apply YU;intro hn;have:emC b=true:=by unfold emC; exact Yw hn
  rw [Z2P this] at hS0;cases hS0.2
 have hat:∀ l:List Nat,X2F b l (X19 a b).1=true:=fun l=>by
  unfold X2F;rw [YK];intro r _;have h3:=(Z1a _ _).1 hS0.2;cases e1:b.1.testBit r<;>cases e2:b.2.testBit r
  . rfl
  . rw [h3.2 r e2]; rfl
  . rw [h3.1 r e1]; rfl
  . have:=h3.1 r e1; rw [h3.2 r e2] at this; cases this
 have main:∀ (l pre:List Nat) (z:Cu×List Cu),z=X2P a b pre->emC z.1=false/\Dis z.2->emC (l.foldl (X2e b) z).1=false/\Dis (l.foldl (X2e b) z).2:=by
  intro l
  induction l with
  | nil=>exact fun _ _ _ h=>h
  | cons r l ih =>
    rintro pre z rfl ⟨hz,hD⟩;have hlaw:=Z9z a b hd pre;refine ih (pre ++ [r]) (X2e b (X2P a b pre) r) (by unfold X2P; rw [Y1y]; rfl) ⟨?_,Zj6 hlaw.1 hlaw.2 r hz hD⟩;have hlaw2:=(Z9z a b hd (pre ++ [r])).1 (X19 a b).1;rw [hS0.1,hat] at hlaw2;have e:(X2P a b (pre ++ [r])).1=(X2e b (X2P a b pre) r).1:=by unfold X2P; rw [Y1y]; rfl
    rw [e] at hlaw2;exact Z9F hlaw2
 intro l;exact main l [] (a,[]) rfl ⟨ha,(fun c hc=>by cases hc),List.Pairwise.nil⟩
theorem Zj8 {a:Cu} (ha:emC a=false) (b:Cu):Dis (X2d a b):=by
 unfold X2d;rw [Y8 (by rw [ha]; decide)];unfold meC;cases hm:emC (X19 a b) with
 | true =>
   rw [Y6 rfl,Y8 (by decide)];exact⟨fun c hc=>by rw [Y0g] at hc; subst hc; exact ha,Y2Y ..⟩
 | false=>exact (Zj7 ha hm _).2
theorem Z9G {m r:Nat} {c:Cu} (h:InM m c) (hr:m.testBit r=true):InM m (c.1 ||| 2 ^ r,c.2):=⟨Xc.2 fun i hi=>by
 rw [Y00,YR,YI,Y0n] at hi;rcases hi with hi|rfl
 . exact Xc.1 h.1 i hi
 . exact hr,h.2⟩
theorem ZdP {m r:Nat} {c:Cu} (h:InM m c) (hr:m.testBit r=true):InM m (c.1,c.2 ||| 2 ^ r):=⟨h.1,Xc.2 fun i hi=>by
 rw [Y00,YR,YI,Y0n] at hi;rcases hi with hi|rfl
 . exact Xc.1 h.2 i hi
 . exact hr⟩
theorem ZkO {m:Nat} {a b:Cu} (ha:InM m a) (hb:InM m b) (l:List Nat):InM m (X2P a b l).1/\∀ c∈(X2P a b l).2,InM m c:=by
 have main:∀ (l:List Nat) (z:Cu×List Cu),(InM m z.1/\∀ c∈z.2,InM m c)->InM m (l.foldl (X2e b) z).1/\∀ c∈(l.foldl (X2e b) z).2,InM m c:=by
  intro l
  induction l with
  | nil=>exact fun z h=>h
  | cons r l ih =>
    intro z hz;refine ih _ ?_;unfold X2e
    split
    . rename_i h;rw [Y0k] at h;have hr:=Xc.1 hb.1 r h.1;exact⟨Z9G hz.1 hr,fun c hc=>(Y0h.1 hc).elim (hz.2 c) fun e=>by rw [Y0g] at e; subst e; exact ZdP hz.1 hr⟩
    . split
      . rename_i _ h;rw [Y0k] at h;have hr:=Xc.1 hb.2 r h.1;exact⟨ZdP hz.1 hr,fun c hc=>(Y0h.1 hc).elim (hz.2 c) fun e=>by rw [Y0g] at e; subst e; exact Z9G hz.1 hr⟩
      . exact hz
 exact main l (a,[]) ⟨ha,fun c hc=>by cases hc⟩
theorem ZkP {m:Nat} {a b:Cu} (ha:InM m a) (hb:InM m b):∀ c∈X2d a b,InM m c:=by
 intro c hc;unfold X2d at hc
 split at hc
 . cases hc
 . split at hc
   . exact (ZkO ha hb _).2 c hc
   . rw [Y0g] at hc; subst hc; exact ha
def X49 (out:List Cu) (b:Cu):List Cu:=out.flatMap fun x=>X2d x b
def X34 (l:List Cu) (c:Cu):List Cu:=l.foldl X49 (if emC c then [] else [c])
theorem ZkQ {b:Cu} (hb:Xy b) (out:List Cu) (S:Nat):soC (X49 out b) S=(soC out S && !hoC b S):=by
 unfold X49
 induction out with
 | nil=>rfl
 | cons x out ih =>
   rw [Y1T,Z3F];have e:soC (X2d x b++out.flatMap fun x=>X2d x b) S=(soC (X2d x b) S||soC (out.flatMap fun x=>X2d x b) S):=Y31;rw [e,ih,Z6Q hb];cases hoC x S<;>cases soC out S<;>cases hoC b S<;>rfl
theorem ZgW {l:List Cu} (hl:∀ b∈l,Xy b) (c:Cu) (S:Nat):soC (X34 l c) S=(hoC c S && !soC l S):=by
 have main:∀ (l:List Cu),(∀ b∈l,Xy b)->∀ out:List Cu,soC (l.foldl X49 out) S=(soC out S && !soC l S):=by
  intro l
  induction l with
  | nil=>intro _ out; simp [soC]
  | cons b l ih =>
    intro hl out;rw [Y1b,ih (fun x hx=>hl x (YB _ hx)),ZkQ (hl b (Y0t ..)),Z3F];cases soC out S<;>cases hoC b S<;>cases soC l S<;>rfl
 unfold X34;rw [main l hl];cases he:emC c with
 | true=>rw [Y6 rfl,Z2P he]; rfl
 | false=>rw [Y8 (by decide),Z9A]
theorem ZdQ {out:List Cu} (h:Dis out) {b:Cu} (hb:Xy b):Dis (X49 out b):=by
 have hsub:∀ {x c:Cu} {S:Nat},c∈X2d x b->hoC c S=true->hoC x S=true:=fun {x c S} hc hs=>by
  have h2:soC (X2d x b) S=true:=Y01.2 ⟨c,hc,hs⟩;rw [Z6Q hb,Y0k] at h2;exact h2.1
 unfold X49;obtain⟨h1,h2⟩:=h
 induction out with
 | nil=>exact⟨(fun c hc=>by cases hc),List.Pairwise.nil⟩
 | cons x out ih =>
   rw [Y14] at h2;have ih:=ih (fun c hc=>h1 c (YB _ hc)) h2.2;have hx:=Zj8 (h1 x (Y0t ..)) b;rw [Y1T];refine⟨fun c hc=>(Y0h.1 hc).elim (hx.1 c) (ih.1 c),Y2i.2 ⟨hx.2,ih.2,fun c hc d hd S hs=>?_⟩⟩;obtain⟨y,hy,hd⟩:=Y1h.1 hd;refine Yy.2 fun hS=>?_;have h3:=h2.1 y hy S (hsub hc hs);rw [hsub hd hS] at h3; cases h3
theorem Zcp {m:Nat} {out:List Cu} (h:∀ c∈out,InM m c) {b:Cu} (hb:InM m b):∀ c∈X49 out b,InM m c:=fun c hc=>by
 obtain⟨x,hx,hc⟩:=Y1h.1 hc;exact ZkP (h x hx) hb c hc
theorem Zcq {l:List Cu} (h:Dis l) {m N:Nat} (hin:∀ c∈l,InM m c) (hN:m<N):l.length<=N:=by
 have hnd:(l.map (·.1)).Nodup:=by
  rw [Y16,Y1w];refine Y1C (fun {a b} ha hb hab e=>?_) h.2;have h1:=hab a.1 (Z4K (h.1 a ha));rw [e,Z4K (h.1 b hb)] at h1; cases h1
 have:=Z2y N _ hnd fun x hx=>by
  obtain⟨c,hc,rfl⟩:=Y0i.1 hx;have:c.1<=m:=by rw [<- (hin c hc).1]; exact YN
  omega
 rwa [Y0f] at this
theorem ZgX {m N:Nat} (hN:m<N) (hm:m<18446744073709551616):∀ (l:List Cu),(∀ b∈l,InM m b)->∀ out:List Cu,Dis out->(∀ c∈out,InM m c)->Dis (l.foldl X49 out)/\∀ c∈l.foldl X49 out,InM m c
 | [],_,out,h1,h2=>⟨h1,h2⟩
 | b :: l, hl, out, h1, h2 => by
   have hb:=hl b (Y0t ..);have hb64:Xy b:=⟨Y02 (by rw [<- hb.1]; exact YN) hm,Y02 (by rw [<- hb.2]; exact YN) hm⟩
   exact ZgX hN hm l (fun x hx=>hl x (YB _ hx)) _ (ZdQ h1 hb64) (Zcp h2 hb)
theorem InM.lt {m:Nat} {c:Cu} (h:InM m c) (hm:m<18446744073709551616):Xy c :=
 ⟨Y02 (by rw [<- h.1]; exact YN) hm,Y02 (by rw [<- h.2]; exact YN) hm⟩
noncomputable def Xq (t:PB) (s:Nat):Bool := !soC t.nv (clo t.l s)
noncomputable def Xp (t:PB) (s:Nat):Bool:=soC t.gl (clo t.l s)
def X9 (r:RU) (s:Nat):Nat:=if r.rev then Xg s (2 ^ r.tg) else s ||| 2 ^ r.tg
noncomputable def XB (t:PB) (r:RU) (s:Nat):Bool:=decide (X9 r s≠s)&&(Xq t (X9 r s)&&(r.rev||hoC r.cu (clo t.l s)))
def InS (t:PB) (s:Nat):Prop:=s ||| mkN t.n=mkN t.n
theorem InS.lt {t:PB} (hn:t.n<=63) {s:Nat} (h:InS t s):s<18446744073709551616:=by
 have h1:s<=mkN t.n:=by rw [<- h]; exact YN
 have:=Z5E hn;omega
theorem ZQ {r:RU} (hr:r.tg<64) {s:Nat} (hs:s<18446744073709551616) (i:Nat):(X9 r s).testBit i=if i=r.tg then !r.rev else s.testBit i:=by
 unfold X9;cases hv:r.rev with
 | true =>
   rw [Y6 rfl,ZB hs (ZP hr),YI];by_cases hi:i=r.tg
   . subst hi; simp
   . rw [Y8 hi,Y0w (fun h=>hi h.symm)]; simp
 | false =>
   rw [Y8 (by decide),Y00,YI];by_cases hi:i=r.tg
   . subst hi; simp
   . rw [Y8 hi,Y0w (fun h=>hi h.symm),Y4T]
theorem ZdR {t:PB} {r:RU} (h1:1<=r.tg) (h2:r.tg<=t.n) (hn:t.n<=63) {s:Nat} (hs:InS t s):InS t (X9 r s):=by
 refine Xc.2 fun i hi=>?_;rw [ZQ (by omega) (hs.lt hn)] at hi;by_cases he:i=r.tg
 . rw [Z21,Yw (show 1<=i by omega),Yw (show i<=t.n by omega)]; rfl
 . rw [Y8 he] at hi;exact Xc.1 hs i hi
theorem Z2D {r:RU} (hr:r.tg<64) {s:Nat} (hs:s<18446744073709551616):X9 r s≠s↔s.testBit r.tg=r.rev:=by
 constructor
 . intro h;apply YU;intro he;refine h (YE fun i=>?_);rw [ZQ hr hs];by_cases hi:i=r.tg
   . subst hi; rw [Y6 rfl]
     revert he
     cases s.testBit r.tg<;>cases r.rev<;>decide
   . rw [Y8 hi]
 . intro h he;have:=ZQ hr hs r.tg;rw [he,Y6 rfl,h] at this
   revert this
   cases r.rev<;>decide
def X2W (c:Cu) (tg:Nat) (rev:Bool):Cu:=if rev then (c.1,Xg c.2 (2 ^ tg)) else (Xg c.1 (2 ^ tg),c.2)
def X4s (c:Cu) (tg:Nat) (rev:Bool):Bool:=if rev then !c.1.testBit tg else !c.2.testBit tg
theorem ZgY {c:Cu} (hc:Xy c) {r:RU} (hr:r.tg<64) {s:Nat} (hs:s<18446744073709551616):hoC c (X9 r s)=(X4s c r.tg r.rev&&hoC (X2W c r.tg r.rev) s):=by
 rw [YQ,Y0k,Z1a,Z1a];have hp:=ZP hr;unfold X4s X2W;cases hv:r.rev with
 | true =>
   simp only [Y25];constructor
   . rintro ⟨h1, h2⟩;refine⟨?_,fun i hi=>?_,fun i hi=>?_⟩
     . cases hb : c.1.testBit r.tg with
       | false=>rfl
       | true=>have:=h1 r.tg hb; rw [ZQ hr hs,Y6 rfl,hv] at this; cases this
     . have := h1 i hi;rw [ZQ hr hs] at this;by_cases he:i=r.tg
       . rw [Y6 he,hv] at this; cases this
       . rwa [Y8 he] at this
     . rw [ZB hc.2 hp, YI, Y0k] at hi;have:=h2 i hi.1;rw [ZQ hr hs] at this;have he:¬ i=r.tg:=fun he=>by subst he; simp at hi
       rwa [Y8 he] at this
   . rintro ⟨h0, h1, h2⟩;refine⟨fun i hi=>?_,fun i hi=>?_⟩
     . rw [ZQ hr hs];have he:¬ i=r.tg:=fun he=>by subst he; rw [hi] at h0; cases h0
       rw [Y8 he]; exact h1 i hi
     . rw [ZQ hr hs];by_cases he:i=r.tg
       . rw [Y6 he,hv]; rfl
       . rw [Y8 he];exact h2 i (by rw [ZB hc.2 hp,YI,hi,Y0w fun h=>he h.symm]; rfl)
 | false =>
   simp only [Y2e,Y26];constructor
   . rintro ⟨h1, h2⟩;refine⟨?_,fun i hi=>?_,fun i hi=>?_⟩
     . cases hb : c.2.testBit r.tg with
       | false=>rfl
       | true=>have:=h2 r.tg hb; rw [ZQ hr hs,Y6 rfl,hv] at this; cases this
     . rw [ZB hc.1 hp, YI, Y0k] at hi;have:=h1 i hi.1;rw [ZQ hr hs] at this;have he:¬ i=r.tg:=fun he=>by subst he; simp at hi
       rwa [Y8 he] at this
     . have := h2 i hi;rw [ZQ hr hs] at this;by_cases he:i=r.tg
       . rw [Y6 he,hv] at this; cases this
       . rwa [Y8 he] at this
   . rintro ⟨h0, h1, h2⟩;refine⟨fun i hi=>?_,fun i hi=>?_⟩
     . rw [ZQ hr hs];by_cases he:i=r.tg
       . rw [Y6 he,hv]; rfl
       . rw [Y8 he];exact h1 i (by rw [ZB hc.1 hp,YI,hi,Y0w fun h=>he h.symm]; rfl)
     . rw [ZQ hr hs];have he:¬ i=r.tg:=fun he=>by subst he; rw [hi] at h0; cases h0
       rw [Y8 he]; exact h2 i hi
def X4f (c:Cu) (tg:Nat) (rev:Bool):Cu:=if rev then ((X2W c tg rev).1 ||| 2 ^ tg,(X2W c tg rev).2) else ((X2W c tg rev).1,(X2W c tg rev).2 ||| 2 ^ tg)
theorem Zj9 {c:Cu} (hc:Xy c) {r:RU} (hr:r.tg<64) {s:Nat} (hs:s<18446744073709551616):(X4s c r.tg r.rev&&hoC (X4f c r.tg r.rev) s)=(hoC c (X9 r s)&&decide (X9 r s≠s)):=by
 rw [ZgY hc hr hs];have hne:=Z2D hr hs;have e:hoC (X4f c r.tg r.rev) s=(hoC (X2W c r.tg r.rev) s&&decide (X9 r s≠s)):=by
  unfold X4f;cases hv:r.rev with
  | true =>
    rw [Y6 rfl,Z8D];rw [hv] at hne;congr 1;rw [YQ,Y0n,hne]
  | false =>
    rw [Y8 (by decide),ZiZ];rw [hv] at hne;congr 1;rw [YQ,Y0n,hne,Y10]
 rw [e,Bool.and_assoc]
end
section
open Go.RowKit
attribute [local irreducible] aw Xr dK
theorem ZW (l:List Nat) (hl:X4K l) (fl:Bool) (t:Nat) (ht:t<=1099511627776):X2l Tryz.prog 44 (X54 l fl t) [] fun r b'=>∃ v:Nat,v<=255/\r=.val (.int .i64 (v:Int))/\b'=X54 l fl (t+1):=by
 refine Z1R ok44 (Y0 rfl) fun C hC=>?_;have hll:(bys l).length=l.length:=by simp [bys]
 have hinc:IntKind.i64.wrap ((t:Int)+1)=((t+1:Nat):Int):=Y0v _ ⟨by omega,by omega⟩;have hdec:IntKind.i64.wrap (((t+1:Nat):Int)-1)=(t:Int):=by rw [show ((t+1:Nat):Int)-1=(t:Int) by omega]; exact Z9e _ (by omega)
 iterate 10 (first|refine st ?_|(apply B<;>intro hb<;>try cases hb))
 refine Ze rfl rfl rfl hinc ?_;(refine go ?_;repeat' (apply B<;>intro hb<;>try cases hb))
 . refine ZlK rfl Yt rfl (ZK l fl (t+1)) ⟨0,by omega,rfl,rfl⟩
 . have htl : t < l.length := by simp [hll] at hb; omega
   rw [hdec];refine Qr (Zl (xs:=l) rfl rfl t rfl htl rfl) ?_;refine go ?_;have hx:=hl l[t] (Y0j _);refine ZlK rfl Yt rfl (ZK l fl (t+1)) ⟨l[t],hx,?_,rfl⟩;rw [Z9e _ (by omega)]
theorem ZgZ (a b:Nat) (ha:a<256) (hb:b<256):bits .andNot .u8 (a:Int) (b:Int)=((Xg a b:Nat):Int):=by
 have hx:Xg a b<=a:=Y1o;have h1:(BitVec.ofInt 8 (a:Int)).toNat=a:=by
  rw [Y1A,Y1Z]; exact Y1v (by omega)
 have h2:(~~~(BitVec.ofInt 8 (b:Int))).toNat=255-b:=by
  rw [BitVec.toNat_not,Y1A,Y1Z,Y1v (by omega)]
 have h3:a &&& (255-b)=Xg a b:=by
  refine YE fun i=>?_;rw [ZB (by omega) (by omega),Y0z];have h:=Y3h (n:=8) (show b<2 ^ 8 by omega) i;rw [show (2:Nat) ^ 8-(b+1)=255-b by omega] at h;rw [h];by_cases hi:i<8
  . simp [hi]
  . have : a.testBit i = false := Y1R (YY (show a < 2 ^ 8 by omega) (YJ (by decide) (by omega)));simp [this]
 show IntKind.u8.wrap ((BitVec.ofInt 8 (a:Int) &&& ~~~(BitVec.ofInt 8 (b:Int))).toNat:Int)=_;rw [Y3P,h1,h2,h3];exact Y3I _ ⟨by omega,by omega⟩
theorem Zh0 (a m:Nat):a &&& m ||| m=m:=Xc.2 fun i hi=>by
 rw [Y0z,Y0k] at hi;exact hi.2
theorem ZkR (X Y:Int) (m:Nat) (hm:m<256):∃ c:Cu,InM m c/\emC c=false/\([.val (.int .u64 (IntKind.u64.wrap (bits .and .u8 X (m:Int)))),.val (.int .u64 (IntKind.u64.wrap (bits .andNot .u8 (bits .and .u8 Y (m:Int)) (bits .and .u8 X (m:Int)))))]:List PV)=raC c:=by
 have hA:∀ X:Int,∃ a:Nat,a<256/\bits .and .u8 X (m:Int)=((a &&& m:Nat):Int):=fun X=>by
  refine⟨(BitVec.ofInt 8 X).toNat,(BitVec.ofInt 8 X).isLt,?_⟩;rw [<- Zk0 _ _ (BitVec.ofInt 8 X).isLt hm];show IntKind.u8.wrap ((BitVec.ofInt 8 X &&& BitVec.ofInt 8 (m:Int)).toNat:Int)=IntKind.u8.wrap ((BitVec.ofInt 8 ((BitVec.ofInt 8 X).toNat:Int) &&& BitVec.ofInt 8 (m:Int)).toNat:Int);rw [show BitVec.ofInt 8 ((BitVec.ofInt 8 X).toNat:Int)=BitVec.ofInt 8 X by rw [Y1A,BitVec.ofNat_toNat,BitVec.setWidth_eq]]
 obtain⟨a,ha,ea⟩:=hA X;obtain⟨b,hb,eb⟩:=hA Y;have h1:a &&& m<256:=Y02 Y1o ha;have h2:b &&& m<256:=Y02 Y1o hb;have h3:Xg (b &&& m) (a &&& m)<=b &&& m:=Y1o;rw [ea,eb,ZgZ _ _ h2 h1,Y0x _ ⟨by omega,by omega⟩,Y0x _ ⟨by omega,by omega⟩];refine⟨(a &&& m,Xg (b &&& m) (a &&& m)),⟨Zh0 a m,Xc.2 fun i hi=>?_⟩,?_,rfl⟩
 . show m.testBit i = true;have hi:(Xg (b &&& m) (a &&& m)).testBit i=true:=hi;rw [ZB (by omega) (by omega),Y0k,Y0z,Y0k] at hi;exact hi.1.2
 . unfold emC;refine Y0w fun hn=>hn (Zj5.2 fun i hi=>?_);show (Xg (b &&& m) (a &&& m)).testBit i=false;rw [ZB (by omega) (by omega),show (a &&& m).testBit i=true from hi];simp
theorem Z6a (x y:Int) (m:Nat) (hm:m<256):X7 Tryz.prog 46 [.val (.int .i64 x),.val (.int .i64 y),.val (.int .u8 (m:Int))] fun r=>∃ c:Cu,InM m c/\emC c=false/\r=.agg (raC c):=by
 refine Yp ok46 fun C hC=>?_;refine go ?_;obtain⟨c,h1,h2,h3⟩:=ZkR (bits .and .u8 (IntKind.u8.wrap x) (IntKind.u8.wrap (bits .or .i64 (x.fdiv (2 ^ (min (1:Int).toNat IntKind.i64.bits))) (IntKind.i64.wrap (x*2 ^ (min (3:Int).toNat IntKind.i64.bits)))))) (bits .and .u8 (IntKind.u8.wrap y) (IntKind.u8.wrap (bits .or .i64 (y.fdiv (2 ^ (min (2:Int).toNat IntKind.i64.bits))) (IntKind.i64.wrap (y*2 ^ (min (1:Int).toNat IntKind.i64.bits)))))) m hm;refine Z8 rfl ⟨Yt,Yt,Yt⟩ ⟨c,h1,h2,?_⟩;exact congrArg PV.agg h3
noncomputable def X16 (l:List Pr) (S:List Nat):PV:=.cp [.cp (X4A l S)]
theorem Zo (l:List Pr) (S:List Nat):(X16 l S).pure:=⟨Z1l l S,Yt⟩
theorem Z4g:X7 Tryz.prog 11 [] fun r=>∃ S,r=X16 [] S:=by
 refine Yp ok11 fun C hC=>?_;refine go ?_;refine Zw rfl rfl (Zaw [] true (fun p hp=>by cases hp) Y3x ⟨fun _=>0,fun p hp=>by cases hp⟩ (by decide)) ⟨Yt,Yt,Yt⟩ rfl ?_;rintro r ⟨l',o,h1,h2,⟨S',rfl⟩,rfl⟩;obtain rfl:=List.Perm.eq_nil h1;refine gd 9 ⟨?_⟩;refine Z5 rfl rfl rfl ?_;refine go ?_;exact Z8 rfl (Zo [] S') ⟨S',rfl⟩
theorem Z8H (a:Int):X7 Tryz.prog 110 [.val (.int .i64 a)] (· = .val (.bool (decide (1<=a)&&decide (a<=63)))):=by
 refine Yp ok110 fun C hC=>?_;(refine go ?_;repeat' (apply B<;>intro hb<;>try cases hb))
 all_goals exact Z8 rfl Yt (by simp_all<;>omega)
theorem Z7C (a:Nat) (h1:1<=a) (h2:a<64):X7 Tryz.prog 110 [.val (.int .i64 (a:Int))] (· = .val (.bool true)):=by
 have:=Z8H (a:Int)
 rwa [Yw (show (1:Int)<=a by omega),Yw (show (a:Int)<=63 by omega)] at this
theorem Zh1 (l:List Pr) (S:List Nat) (a b:Nat) (ha:1<=a/\a<64) (hb:1<=b/\b<64) (hab:a≠b) (hl:XN l) (hn:l.Nodup) (hno:(a,b) ∉ l) (hacy:Acy (l ++ [(a,b)])) (hlen:l.length<=100000):X7 Tryz.prog 51 [X16 l S,.val (.int .i64 (a:Int)),.val (.int .i64 (b:Int))] fun r=>∃ l' S',l'.Perm (l ++ [(a,b)])/\Xz l'/\r=.tup [X16 l' S',.val (.int .i64 0)]:=by
 have hne:((a:Int) == (b:Int))=false:=by rw [Y2p]; omega
 refine Yp ok51 fun C hC=>?_;refine go ?_;refine Qe (Z7C a ha.1 ha.2) ⟨Yt,Yt⟩ ?_;refine go ?_;refine Qe (Z7C b hb.1 hb.2) ⟨Yt,Yt⟩ ?_;refine gd 25 ⟨?_⟩;refine Zn rfl ?_;refine Qo (Z4 rfl hne) ?_;refine go ?_;refine Zw rfl rfl (ZeZ l S a b ha.2 hb.2 hl hn hno hacy hlen) ⟨Z1l l S,Yt,Yt,Yt⟩ rfl ?_;rintro r ⟨l',o,h1,h2,⟨S',rfl⟩,rfl⟩;refine gd 42 ⟨?_⟩;refine Z5 rfl rfl rfl ?_;refine go ?_;exact Z8 rfl ⟨Zo l' S',Yt,Yt⟩ ⟨l',S',h1,h2,rfl⟩
theorem ZaG (l:List Pr) (S:List Nat) (r:Int):X7 Tryz.prog 104 [X16 l S,.val (.int .i64 r)] (· = XG (if 1<=r/\r<=63 then jun l r.toNat else 0)):=by
 refine Yp ok104 fun C hC=>?_;refine go ?_;refine Qe (Z8H r) ⟨Yt,Yt⟩ ?_;by_cases h:1<=r/\r<=63
 . rw [Y6 h, Yw h.1, Yw h.2];obtain⟨k,rfl⟩:∃ k:Nat,r=(k:Int):=⟨r.toNat,by omega⟩
   have hk:k<64:=by omega
   have h1:=Zch l S (k:Int);rw [Y6 ⟨by omega,by omega⟩] at h1;have h2:=Z45 (bel l k) (Y03 (Z3m (Zgt l k)) (by decide)) (k:Int);rw [X2y,Y6 ⟨by omega,by omega⟩] at h2;refine go ?_;refine Qe h1 ⟨Z1l l S,Yt,Yt⟩ ?_;refine go ?_;refine Qe h2 ⟨Z2 _,Yt,Yt⟩ ?_;refine go ?_;exact Z8 rfl (Z2 _) rfl
 . rw [Y8 h];have h2:(decide (1<=r)&&decide (r<=63))=false:=by
    rw [Y41];by_cases h1:1<=r
    . exact .inr (Y0w fun h3=>h ⟨h1,h3⟩)
    . exact .inl (Y0w h1)
   rw [h2];refine go ?_;refine Z1K rfl (Z2 0 |> fun h=>by rw [Z1X] at h; exact h) ?_;rw [Z1X]; rfl
noncomputable def X4T (l:List Pr) (rs:List Nat):Nat:=rs.foldl (fun o r=>if 1<=r then o ||| jun l r else o) 0
theorem Zh2 (l:List Pr) (rs:List Nat) (r:Nat):X4T l (rs ++ [r])=if 1<=r then X4T l rs ||| jun l r else X4T l rs:=by simp [X4T,Y1y]
theorem Z2n (l:List Pr) (S:List Nat) (s:Nat) (hs:s<18446744073709551616):X7 Tryz.prog 43 [X16 l S,XG s] (· = XG (clo l s)):=by
 refine Yp ok43 fun C hC=>?_;refine Zm ?_;refine Z9 ?_;refine Z5 rfl rfl rfl ?_;refine Z5 rfl rfl rfl ?_;refine go ?_;refine Qe (Z1F s) ⟨Z2 _,Yt⟩ ?_;refine go ?_;have hhp:=Zo l S;refine Z2v (X:=List Nat) hC (caps := [.cp [.vec (X4 (Xb s)) false]]) [(2,.cp [X16 l S]),(4,.ptr 0 0 0),(5,.ptr 1 0 0),(8,.fn 121 [.cp [.vec (X4 (Xb s)) false]])]
  (fun z => [(0,⟨1,[[.vec [] true]]⟩),(1,⟨1,[[.vec (X4 (Xb (X4T l z))) false]]⟩)]) rfl ⟨⟨Z7 _,Yt⟩,Yt⟩ (Z2x s hs) (fun _=>rfl)
  (fun ex pre z=>ex=.normal/\z=pre.map (·.val)) 2 (by decide) [] ⟨rfl,rfl⟩
  (Z30 (X3r.mem (ρ := fun i => i) (m := 2) (L := [(2, .cp [X16 l S]), (4, .ptr 0 0 0), (5, .ptr 1 0 0), (8, .fn 121 [.cp [.vec (X4 (Xb s)) false]])]) ⟨Qp ⟨hhp, Yt⟩, Qt 0 0 0, Qt 1 0 0, Qp ⟨⟨Z7 _, Yt⟩, Yt⟩, Yt⟩)
    (X1o.mem (ρ:=fun i=>i) (m:=2) (L := [(0,⟨1,[[.vec [] true]]⟩),(1,⟨1,[[.vec (X4 (Xb (X4T l []))) false]]⟩)]) ⟨Qs ⟨⟨Yt,Yt⟩,Yt⟩,⟨by decide,⟨1,[[.vec [] true]]⟩,rfl,by rw [show X4T l []=0 from rfl,ZL]; exact Xw.single (ρ:=fun i=>i) (l0 := [.vec [] true]) (l := [.vec [] false]) (show X2v _ _ [_] [_] from ⟨.low (.vec [] true) Yt,Yt⟩) rfl⟩,Yt⟩) hC (by decide))
  (fun z q hq=>by simp at hq; rcases hq with rfl|rfl<;>exact Y1u _) _ (fun x=>rfl) ?_ ?_ ?_
 . rintro C2 hC2 pre x z ⟨-, rfl⟩ hlen;have hx64:=Z3T x.2;have hj:=ZaG l S (x.val:Int);have hcz:X4T l (pre.map (·.val))<18446744073709551616:=by
    unfold X4T;exact Zcf l _ 0 (fun r hr=>by obtain⟨y,_,rfl⟩:=Y0i.1 hr; exact Z3T y.2) (by decide)
   have hstep:=Zh2 l (pre.map (·.val)) x.val;have hnew:X4T l (pre.map (·.val)) ||| (if 1<=(x.val:Int)/\(x.val:Int)<=63 then jun l (x.val:Int).toNat else 0)=X4T l (pre.map (·.val) ++ [x.val]):=by
    rw [hstep];by_cases h1:1<=x.val
    . rw [Y6 h1,Y6 ⟨by omega,by omega⟩]; rfl
    . rw [Y8 h1,Y8 (by omega),Nat.or_zero]
   have hj64:(if 1<=(x.val:Int)/\(x.val:Int)<=63 then jun l (x.val:Int).toNat else 0)<18446744073709551616:=by
    split
    . exact ZdC l hx64
    . decide
   refine go ?_;refine Qd hj ⟨hhp,Yt,Yt⟩ ?_;refine Qd (Z1w _ _ hcz hj64) ⟨Z2 _,Z2 _,Yt⟩ ?_;rw [hnew];refine go ?_
   exact⟨.inl rfl,pre.map (·.val) ++ [x.val],fun i=>i,⟨rfl,by rw [Y0r]; rfl⟩,fun i hi=>rfl,Zf,
    ⟨Qp ⟨hhp,Yt⟩,Qt 0 0 0,Qt 1 0 0,Qp ⟨⟨Z7 _,Yt⟩,Yt⟩,Yt⟩,
    ⟨Qs ⟨⟨Yt,Yt⟩,Yt⟩,Qs ⟨⟨Z7 _,Yt⟩,Yt⟩,Yt⟩⟩
 . rintro xs z hxs ⟨-, rfl⟩;rw [hxs];refine go ?_;exact Z8 rfl (Z2 _) (by rw [Zce]; rfl)
 . rintro ex pre z - ⟨rfl,_⟩ (h|⟨id,h⟩)<;>cases h
theorem Z8I (l:List Pr) (S:List Nat) (hlen:l.length<=1000000):X7 Tryz.prog 113 [X16 l S] (· = .vec (l.map prC) false):=by
 refine Yp ok113 fun C hC=>?_;refine go ?_;refine Qe (Zcg l S hlen) ⟨Z1l l S,Yt⟩ ?_;refine go ?_;exact Z8 rfl (Zk l) rfl
def ruR (r:RU):List PV := [.val (.bool r.rev),.val (.int .u64 (r.cu.1:Int)),.val (.int .u64 (r.cu.2:Int)),.val (.int .i64 (r.tg:Int)),.val (.int .i64 (r.og:Int))]
def ruP (r:RU):List PV := [.val (.bool r.rev),.vec (X4 (Xb r.cu.1)) false,.vec (X4 (Xb r.cu.2)) false,.val (.int .i64 (r.tg:Int)),.val (.int .i64 (r.og:Int))]
theorem Zja (r:RU):X5 (ruR r):=⟨Yt,Yt,Yt,Yt,Yt,Yt⟩
theorem Z6R (r:RU):X5 (ruP r):=⟨Yt,Z7 _,Z7 _,Yt,Yt,Yt⟩
theorem Z1C (l:List RU):X1 (l.map ruR):=Zb Zja l
theorem ZE (l:List RU):X1 (l.map ruP):=Zb Z6R l
theorem Z1m (l:List Cu):X1 (l.map raC):=Zb Z2C l
theorem Z11 (l:List Cu):X1 (l.map cuC):=Zb Zh l
def pbR (t:PB):List PV := [.val (.int .i64 (t.n:Int)),.vec (t.l.map prC) false,.val (.int .u64 (t.st:Int)),.vec (t.rs.map ruR) false,.vec (t.nv.map raC) false,.vec (t.gl.map raC) false]
noncomputable def pbP (t:PB) (S:List Nat):List PV := [.val (.int .i64 (t.n:Int)),X16 t.l S,.vec (X4 (Xb t.st)) false,.vec (t.rs.map ruP) false,.vec (t.nv.map cuC) false,.vec (t.gl.map cuC) false]
theorem Z22 (t:PB):X5 (pbR t):=⟨Yt,Zk _,Yt,Z1C _,Z1m _,Z1m _,Yt⟩
theorem ZC (t:PB) (S:List Nat):X5 (pbP t S):=⟨Yt,Zo _ _,Z7 _,ZE _,Z11 _,Z11 _,Yt⟩
theorem Xo.nv64 {t:PB} (h:Xo t):∀ c∈t.nv,Xy c:=fun c hc=>(h.nv c hc).1.lt h.n.2
theorem Xo.gl64 {t:PB} (h:Xo t):∀ c∈t.gl,Xy c:=fun c hc=>(h.gl c hc).1.lt h.n.2
theorem Z7D {t:PB} (h:Xo t) (s:Nat) (hs:s<18446744073709551616):X7 Tryz.prog 93 [.agg (pbR t),.val (.int .u64 (s:Int))] (· = .val (.bool (Xq t s))):=by
 have hc:=Z2B t.l false h.good.small s hs;have hso:=Z2Q t.nv false (clo t.l s) h.nv64 (Z5A _ _);have e:Xq t s = !soC t.nv (clo t.l s):=rfl;rw [e];refine Yp ok93 fun C hC=>?_;refine Zm ?_;refine Z9 ?_;refine Z5 rfl rfl rfl ?_;refine gd 10 ⟨?_⟩;refine Qd hc ⟨Zk _,Yt,Yt⟩ ?_;refine gd 11 ⟨?_⟩;refine Qd hso ⟨Z1m _,Yt,Yt⟩ ?_;generalize soC t.nv (clo t.l s)=b;cases b
 all_goals
  refine go ?_;exact Z8 rfl Yt rfl
theorem Z4h {t:PB} (h:Xo t) (s:Nat) (hs:s<18446744073709551616):X7 Tryz.prog 89 [.agg (pbR t),.val (.int .u64 (s:Int))] (· = .val (.bool (Xp t s))):=by
 have hc:=Z2B t.l false h.good.small s hs;have hso:=Z2Q t.gl false (clo t.l s) h.gl64 (Z5A _ _);have e:Xp t s=soC t.gl (clo t.l s):=rfl;rw [e];refine Yp ok89 fun C hC=>?_;refine Zm ?_;refine Z9 ?_;refine Z5 rfl rfl rfl ?_;refine gd 10 ⟨?_⟩;refine Qd hc ⟨Zk _,Yt,Yt⟩ ?_;refine gd 11 ⟨?_⟩;refine Qd hso ⟨Z1m _,Yt,Yt⟩ ?_;generalize soC t.gl (clo t.l s)=b;cases b
 all_goals
  refine go ?_;exact Z8 rfl Yt rfl
theorem Zf6 {t:PB} (h:Xo t) (S:List Nat) (s:Nat) (hs:s<18446744073709551616):X7 Tryz.prog 58 [.agg (pbP t S),XG s] (· = .val (.bool (Xq t s))):=by
 have hc:=Z2n t.l S s hs;have hso:=Z65 t.nv false (clo t.l s) h.nv64 (Z5A _ _);have e:Xq t s = !soC t.nv (clo t.l s):=rfl;rw [e];refine Yp ok58 fun C hC=>?_;refine Zm ?_;refine Z9 ?_;refine Z5 rfl rfl rfl ?_;refine Z5 rfl rfl rfl ?_;refine gd 14 ⟨?_⟩;refine Z2d rfl ?_;refine Qd hc ⟨Zo _ _,Z2 _,Yt⟩ ?_;refine gd 15 ⟨?_⟩;refine Z2d rfl ?_;refine Qd hso ⟨Z11 _,Z2 _,Yt⟩ ?_;generalize soC t.nv (clo t.l s)=b;cases b
 all_goals
  refine go ?_;exact Z8 rfl Yt rfl
theorem Z58 {t:PB} (h:Xo t) (S:List Nat) (s:Nat) (hs:s<18446744073709551616):X7 Tryz.prog 15 [.agg (pbP t S),XG s] (· = .val (.bool (Xp t s))):=by
 have hc:=Z2n t.l S s hs;have hso:=Z65 t.gl false (clo t.l s) h.gl64 (Z5A _ _);have e:Xp t s=soC t.gl (clo t.l s):=rfl;rw [e];refine Yp ok15 fun C hC=>?_;refine Zm ?_;refine Z9 ?_;refine Z5 rfl rfl rfl ?_;refine Z5 rfl rfl rfl ?_;refine gd 14 ⟨?_⟩;refine Z2d rfl ?_;refine Qd hc ⟨Zo _ _,Z2 _,Yt⟩ ?_;refine gd 15 ⟨?_⟩;refine Z2d rfl ?_;refine Qd hso ⟨Z11 _,Z2 _,Yt⟩ ?_;generalize soC t.gl (clo t.l s)=b;cases b
 all_goals
  refine go ?_;exact Z8 rfl Yt rfl
theorem Z1p (N:Nat) (hN:N<18446744073709551616) (i:Nat):X7 Tryz.prog 22 [XG N,Yv i] (· = .val (.bool (N.testBit i))):=by
 have:=Z1Y N hN (i:Int)
 rwa [Yw (show (0:Int)<=(i:Int) by omega),Y1g,YZ] at this
theorem Zh3 (c:Cu):X2C (cuC c)=cuC c:=by
 show [PV.vec (XE (X4 (Xb c.1))) false,PV.vec (XE (X4 (Xb c.2))) false]=_;rw [Z1B,Z1B]
 rfl
theorem Z8J (a b:Cu) (ha:Xy a) (hb0:Xy b):X7 Tryz.prog 169 [cuP a,cuP b] (· = .vec ((X2d a b).map cuC) false):=by
 have hN:b.1 ||| b.2<18446744073709551616:=Z1S hb0.1 hb0.2
 refine Yp ok169 fun C hC=>?_;refine Zm ?_;refine Z9 ?_;(first|refine st ?_|(apply B<;>intro hb<;>try cases hb));refine Z5 rfl rfl rfl ?_;refine go ?_;refine Qe (Z1f a ha) ⟨ZA a,Yt⟩ ?_;unfold X2d;cases he:emC a
 case true =>
  refine go ?_;exact Z1K rfl (Z2N rfl) rfl
 rw [Y8 (by decide)];refine go ?_;refine Qe (Z8A a b ha hb0) ⟨ZA a,ZA b,Yt⟩ ?_;generalize hme:meC a b=me;obtain⟨mc,mb⟩:=me;cases mb
 case false =>
  refine go ?_;refine Z1K rfl ?_ ?_
  . show X1 [X2C (cuC a)];rw [Zh3]; exact⟨Zh a,Yt⟩
  . show PV.vec [X2C (cuC a)] false = _;rw [Zh3]; rfl
 rw [Y6 rfl];refine go ?_;refine Za (ZO (id:=2) (i0:=0) (j0:=0) rfl (by decide) (by decide) rfl 2 (by decide) (by decide)) ?_;refine Qe (Z1w b.1 b.2 hb0.1 hb0.2) ⟨Z2 _,Z2 _,Yt⟩ ?_;refine Qe (Z1F (b.1 ||| b.2)) ⟨Z2 _,Yt⟩ ?_;refine go ?_;refine Z2v (X:=Cu×List Cu) hC (caps := [.cp [.vec (X4 (Xb (b.1 ||| b.2))) false]]) [(2,.ptr 0 0 0),(3,.cp (cuC b)),(7,.ptr 2 0 0),(26,.fn 121 [.cp [.vec (X4 (Xb (b.1 ||| b.2))) false]])] (fun z => [(0,⟨2,[cuC z.1]⟩),(2,⟨1,[[.own 3]]⟩),(3,⟨2,z.2.map cuC⟩)]) rfl ⟨⟨Z7 _,Yt⟩,Yt⟩ (Z2x (b.1 ||| b.2) hN) (fun _=>rfl)
  (fun ex pre z=>ex=.normal/\z=X2P a b (pre.map (·.val))) 4 (Y0l _) (a,[]) ⟨rfl,rfl⟩ (Z4B hC (Y0l _) ⟨⟨rfl,show (0:Nat)<4 by decide⟩,⟨rfl,Zp _ _,Zp _ _,Yt⟩,⟨rfl,show (2:Nat)<4 by decide⟩,⟨rfl,⟨Zp _ _,Yt⟩,Yt⟩,Yt⟩ ⟨⟨by decide,rfl,⟨Zp _ _,Zp _ _,Yt⟩,Yt⟩,⟨by decide,rfl,⟨show (3:Nat)<4 by decide,Yt⟩,Yt⟩,⟨by decide,rfl,Yt⟩,Yt⟩)
  (fun z q hq=>by simp at hq; rcases hq with rfl|rfl|rfl<;>exact Y1u _) _ (fun x=>rfl) ?_ ?_ ?_
 . rintro C2 hC2 pre x z ⟨-, rfl⟩ hlen;have hr64:x.val<64:=Z3T x.2;have hm:=Z2H (b.1 ||| b.2);obtain⟨hz1,hz2,hz3⟩:=Zcn (b:=b) ha (l:=pre.map (·.val)) (fun r hr=>by obtain⟨y,_,rfl⟩:=Y0i.1 hr; exact Z3T y.2);rw [Y0f] at hz3;have hnext:X2P a b ((pre ++ [x]).map (·.val))=X2e b (X2P a b (pre.map (·.val))) x.val:=by simp [X2P,Y1y]
   generalize X2P a b (pre.map (·.val))=z at *;obtain⟨c,out⟩:=z;dsimp only at hz1 hz2 hz3 ⊢;have hlen1:out.length<=64:=by omega
   unfold X2e at hnext;dsimp only at hnext;refine Z4z ?_;refine Z4z ?_;refine Zdq hC2 True 4 [(2,.ptr 0 0 0),(3,.cp (cuC b)),(7,.ptr 2 0 0),(8,.val (.int .i64 (x.val:Int))),(26,.fn 121 [.cp [.vec (X4 (Xb (b.1 ||| b.2))) false]]),(28,.val (.bool (b.1.testBit x.val && !c.1.testBit x.val)))] [(0,⟨2,[cuC c]⟩),(2,⟨1,[[.own 3]]⟩),(3,⟨2,out.map cuC⟩)] (Y0m _) ?_ fun _=>?_
   . have fin : ∀ D, Xt D (out.map cuC) := fun D => Zd (fun _ h => h.elim) _ (Zb Zh out);refine go ?_;refine Qe (Z1p b.1 hb0.1 x.val) ⟨Z2 _,Yt,Yt⟩ ?_;generalize b.1.testBit x.val=v1;cases v1
     . refine go ?_;exact⟨Yt,⟨⟨rfl,show (0:Nat)<4 by decide⟩,⟨rfl,Zp _ _,Zp _ _,Yt⟩,⟨rfl,show (2:Nat)<4 by decide⟩,⟨rfl,Yt⟩,⟨rfl,⟨Zp _ _,Yt⟩,Yt⟩,⟨rfl,Yt⟩,Yt⟩,⟨⟨by decide,rfl,⟨Zp _ _,Zp _ _,Yt⟩,Yt⟩,⟨by decide,rfl,⟨show (3:Nat)<4 by decide,Yt⟩,Yt⟩,⟨by decide,rfl,fin _⟩,Yt⟩⟩
     . refine go ?_;refine Qe (Z1p c.1 hz1.1 x.val) ⟨Z2 _,Yt,Yt⟩ ?_;refine gv ?_;exact⟨Yt,⟨⟨rfl,show (0:Nat)<4 by decide⟩,⟨rfl,Zp _ _,Zp _ _,Yt⟩,⟨rfl,show (2:Nat)<4 by decide⟩,⟨rfl,Yt⟩,⟨rfl,⟨Zp _ _,Yt⟩,Yt⟩,⟨rfl,Yt⟩,Yt⟩,⟨⟨by decide,rfl,⟨Zp _ _,Zp _ _,Yt⟩,Yt⟩,⟨by decide,rfl,⟨show (3:Nat)<4 by decide,Yt⟩,Yt⟩,⟨by decide,rfl,fin _⟩,Yt⟩⟩
   generalize (b.1.testBit x.val && !c.1.testBit x.val)=v at hnext;cases v
   . rw [Y8 (by decide)] at hnext;refine go ?_;refine Qe (Z1p b.2 hb0.2 x.val) ⟨Z2 _,Yt,Yt⟩ ?_;generalize b.2.testBit x.val=v2 at hnext;cases v2
     . rw [Y8 (by simp)] at hnext;refine go ?_;exact⟨.inl rfl,(c,out),fun i=>i,⟨rfl,hnext.symm⟩,fun i hi=>absurd hi (by omega),Zf,⟨Qt 0 0 0,Qp (Zh b),Qt 2 0 0,Qp ⟨⟨Z7 _,Yt⟩,Yt⟩,Yt⟩,⟨Qs ⟨Zh c,Yt⟩,⟨by decide,_,rfl,Xw.single ⟨.own (ρ:=fun i=>i) 3 (by decide),Yt⟩ rfl⟩,Qs (Zb Zh out),Yt⟩⟩
     . refine go ?_;refine Qe (Z1p c.2 hz1.2 x.val) ⟨Z2 _,Yt,Yt⟩ ?_;generalize c.2.testBit x.val=v3 at hnext;cases v3
       . rw [Y6 (by decide)] at hnext;refine go ?_;refine Qd (Z1u c.1 hz1.1 x.val hr64) ⟨Z2 _,Yt,Yt⟩ ?_;refine go ?_
         refine Qr (Zu (k:=3) (m := [cuC (c.1 ||| 2 ^ x.val,c.2)]) (fl:=true) rfl rfl rfl (fun q hq=>by rw [Y0g] at hq; subst hq; rfl) rfl (by
          show ((out.map cuC).length+1)*48<=_
          rw [Y0f];omega)) ?_
         refine go ?_;refine Qe (Z1u c.2 hz1.2 x.val hr64) ⟨Z2 _,Yt,Yt⟩ ?_;refine go ?_;refine⟨.inl rfl,((c.1,c.2 ||| 2 ^ x.val),out ++ [(c.1 ||| 2 ^ x.val,c.2)]),mv 3 13,⟨rfl,hnext.symm⟩,fun i hi=>absurd hi (by omega),Zq rfl,⟨Qt 0 0 0,Qp (Zh b),Qt 2 0 0,Qp ⟨⟨Z7 _,Yt⟩,Yt⟩,Yt⟩,⟨Qs ⟨Zh (c.1,c.2 ||| 2 ^ x.val),Yt⟩,⟨by decide,_,rfl,Xw.single ⟨.own (ρ:=mv 3 13) 3 (by decide),Yt⟩ rfl⟩,⟨by decide,_,rfl,?_⟩,Yt⟩⟩;show Xw _ _ ⟨2,out.map cuC ++ [cuC (c.1 ||| 2 ^ x.val,c.2)]⟩ ⟨2,(out ++ [(c.1 ||| 2 ^ x.val,c.2)]).map cuC⟩;rw [Y0r];exact .same _ (by rw [<- Y1c,<- Y0r]; exact Zb Zh _)
       . rw [Y8 (by simp)] at hnext;refine go ?_;exact⟨.inl rfl,(c,out),fun i=>i,⟨rfl,hnext.symm⟩,fun i hi=>absurd hi (by omega),Zf,⟨Qt 0 0 0,Qp (Zh b),Qt 2 0 0,Qp ⟨⟨Z7 _,Yt⟩,Yt⟩,Yt⟩,⟨Qs ⟨Zh c,Yt⟩,⟨by decide,_,rfl,Xw.single ⟨.own (ρ:=fun i=>i) 3 (by decide),Yt⟩ rfl⟩,Qs (Zb Zh out),Yt⟩⟩
   . rw [Y6 rfl] at hnext;refine go ?_;refine Qd (Z1u c.2 hz1.2 x.val hr64) ⟨Z2 _,Yt,Yt⟩ ?_;refine go ?_
     refine Qr (Zu (k:=3) (m := [cuC (c.1,c.2 ||| 2 ^ x.val)]) (fl:=true) rfl rfl rfl (fun q hq=>by rw [Y0g] at hq; subst hq; rfl) rfl (by
      show ((out.map cuC).length+1)*48<=_
      rw [Y0f];omega)) ?_
     refine go ?_;refine Qe (Z1u c.1 hz1.1 x.val hr64) ⟨Z2 _,Yt,Yt⟩ ?_;refine go ?_;refine⟨.inl rfl,((c.1 ||| 2 ^ x.val,c.2),out ++ [(c.1,c.2 ||| 2 ^ x.val)]),mv 3 13,⟨rfl,hnext.symm⟩,fun i hi=>absurd hi (by omega),Zq rfl,⟨Qt 0 0 0,Qp (Zh b),Qt 2 0 0,Qp ⟨⟨Z7 _,Yt⟩,Yt⟩,Yt⟩,⟨Qs ⟨Zh (c.1 ||| 2 ^ x.val,c.2),Yt⟩,⟨by decide,_,rfl,Xw.single ⟨.own (ρ:=mv 3 13) 3 (by decide),Yt⟩ rfl⟩,⟨by decide,_,rfl,?_⟩,Yt⟩⟩;show Xw _ _ ⟨2,out.map cuC ++ [cuC (c.1,c.2 ||| 2 ^ x.val)]⟩ ⟨2,(out ++ [(c.1,c.2 ||| 2 ^ x.val)]).map cuC⟩;rw [Y0r];exact .same _ (by rw [<- Y1c,<- Y0r]; exact Zb Zh _)
 . rintro xs z hS ⟨-, rfl⟩;rw [hS]
   repeat' (first|refine Za (Zj (k:=82) rfl rfl (Zb Zh _)) ?_|(first|refine st ?_|(apply B<;>intro hb<;>try cases hb)))
   exact Z8 rfl (Zb Zh _) rfl
 . rintro ex pre z - ⟨rfl,-⟩ (h|⟨id,h⟩)<;>cases h
theorem Z4i (l:List Pr) (S:List Nat) (k:Nat) (h1:1<=k) (hk:k<64):X7 Tryz.prog 65 [X16 l S,.val (.int .i64 (k:Int))] (· = XG (sen l k)):=by
 have h2:=Zci l S (k:Int);rw [Y6 ⟨by omega,by omega⟩] at h2;have h3:=Z45 (abv l k) (Y03 (Z3m (Z7f l k)) (by decide)) (k:Int);rw [X2y,Y6 ⟨by omega,by omega⟩] at h3;refine Yp ok65 fun C hC=>?_;refine go ?_;refine Qe (Z7C k h1 hk) ⟨Yt,Yt⟩ ?_;refine go ?_;refine Qe h2 ⟨Z1l l S,Yt,Yt⟩ ?_;refine go ?_;refine Qe h3 ⟨Z2 _,Yt,Yt⟩ ?_;refine go ?_;exact Z8 rfl (Z2 _) rfl
theorem Z59:∀ l:List Cu,XE (l.map cuC)=l.map cuC
 | []=>rfl
 | c :: l => by
   show X2C (cuC c) :: XE (l.map cuC)=_;rw [Zh3,Z59 l]; rfl
def X4d (l:List Cu) (c:Cu) (i:Nat):List Cu:=(l.take i).foldl X49 (if emC c then [] else [c])
theorem Zh4 (l:List Cu) (c:Cu) {i:Nat} (hi:i<l.length):X4d l c (i+1)=X49 (X4d l c i) l[i]:=by
 unfold X4d;rw [YW,Y0c hi,Y1y]; rfl
theorem Zh5 {m:Nat} (hm:m<64) {l:List Cu} {c:Cu} (hl:∀ b∈l,InM m b) (hc:InM m c) (i:Nat):Dis (X4d l c i)/\∀ c'∈X4d l c i,InM m c':=by
 refine ZgX (N:=64) hm (by omega) _ (fun b hb=>hl b (YM hb)) _ ?_ ?_
 . split
   . exact⟨(fun c hc=>by cases hc),List.Pairwise.nil⟩
   . rename_i h;exact⟨fun c hc=>by rw [Y0g] at hc; subst hc; simpa using h,Y2Y ..⟩
 . intro c' hc'
   split at hc'
   . cases hc'
   . rw [Y0g] at hc'; subst hc'; exact hc
def X51 (out:List Cu) (b:Cu) (j:Nat):List Cu:=X49 (out.take j) b
theorem Zh6 (out:List Cu) (b:Cu) {j:Nat} (hj:j<out.length):X51 out b (j+1)=X51 out b j++X2d out[j] b:=by
 unfold X51 X49;rw [YW,Y0c hj,Y1K];simp
theorem Zjb {out:List Cu} {b:Cu} {m:Nat} (hm:m<64) (h:Dis out/\∀ c∈out,InM m c) (hb:InM m b) (j:Nat):(X51 out b j).length<=64:=by
 have h1:Dis (out.take j):=⟨fun c hc=>h.1.1 c (YM hc),h.1.2.sublist (List.take_sublist _ _)⟩
 exact Zcq (ZdQ h1 (hb.lt (by omega))) (m:=m) (Zcp (fun c hc=>h.2 c (YM hc)) hb) hm
theorem Z8K (l:List Cu) (fl:Bool) (c:Cu) (m:Nat) (hm:m<64) (hl:∀ b∈l,InM m b) (hc:InM m c) (hlen:l.length<=100000):X7 Tryz.prog 133 [cuP c,.vec (l.map cuC) fl] (· = .tup [.vec ((X34 l c).map cuC) false,.val (.int .i64 0)]):=by
 have hnl:(l.map cuC).length=l.length:=by simp
 have hlp:∀ (l:List Cu) D,Xt D (l.map cuC):=fun i D=>Zd (fun _ h=>h.elim) _ (Z1 _);have hc64:=hc.lt (by omega);refine Yp ok133 fun C hC=>?_;refine Zm ?_;refine Z9 ?_;refine Z5 rfl rfl rfl ?_
 iterate 7 (first|refine st ?_|(apply B<;>intro hb<;>try cases hb))
 refine ZbW hC (X:=Bool) (fun _=>True) 0 (fun z => [(1,.vec (l.map cuC) fl),(6,.vec ((X4d l c 0).map cuC) z)]) (fun _=>[]) (Y0l _) ?_ fun z _=>?_
 . refine go ?_;refine Qe (Z1f c hc64) ⟨ZA c,Yt⟩ ?_;unfold X4d;rw [Y1r,Y4G];cases he:emC c
   . refine gd 18 ⟨?_⟩;refine Z5 (Zai (l := []) (m := [cuC c]) rfl rfl (fun c hc=>by cases hc) (fun q hq=>by rw [Y0g] at hq; subst hq; rfl) (by show (0+1)*48<=_; decide)) rfl rfl ?_;refine go ?_;exact⟨_,Yt,⟨⟨rfl,hlp _ _⟩,⟨rfl,hlp [c] _⟩,Yt⟩,Yt⟩
   . refine go ?_;exact⟨_,Yt,⟨⟨rfl,hlp _ _⟩,⟨rfl,Yt⟩,Yt⟩,Yt⟩
 . have hloop := Zh5 hm hl hc;refine go ?_;refine Zz hC (fun (x:Nat×Bool)=>x.1<=l.length) (fun x=>l.length-x.1) 0 (fun x => [(6,.vec ((X4d l c x.1).map cuC) x.2),(19,.vec (l.map cuC) fl),(20,.val (.int .i64 (l.length:Int))),(21,.val (.int .i64 (x.1:Int)))]) (fun _=>[]) (Y0m _) (0,z) (Y0l _)
    ⟨⟨rfl,hlp _ _⟩,⟨rfl,hlp _ _⟩,⟨by rw [<- hnl]; rfl,Yt⟩,⟨rfl,Yt⟩,Yt⟩ Yt ?_
   rintro⟨i,z⟩ hi;dsimp only at hi ⊢;have hinc:IntKind.i64.wrap ((i:Int)+1)=((i+1:Nat):Int):=Y0v _ ⟨by omega,by omega⟩
   iterate 2 (first|refine st ?_|(apply B<;>intro hb<;>try cases hb))
   refine Zt rfl rfl rfl (fun hb=>?_) (fun hb=>?_)
   . have hil : i < l.length := by have := Y0u hb; omega
     clear hb;have hsucc:=Zh4 l c hil;obtain⟨hD,hI⟩:=hloop i;generalize X4d l c i=out at hsucc hD hI ⊢;have hb:=hl l[i] (Y0j hil);have hb64:=hb.lt (by omega);have hol:out.length<=64:=Zcq hD hI hm;have hsub:=Zjb (out:=out) hm ⟨hD,hI⟩ hb;have hnl2:(out.map cuC).length=out.length:=by simp
     refine go ?_;refine Qo (Zl (xs:=l) rfl rfl i rfl hil rfl) ?_
     repeat' (first|refine Za (Zy (k:=9) rfl 2 (by decide)) ?_|(first|refine st ?_|(apply B<;>intro hb<;>try cases hb)))
     refine Zv hC (fun (j:Nat)=>j<=out.length) (fun j=>out.length-j) 2 (fun j => [(8,.ptr 0 0 0),(9,.own 1),(19,.vec (l.map cuC) fl),(20,.val (.int .i64 (l.length:Int))),(21,Yv i),(25,.vec (out.map cuC) z),(26,.val (.int .i64 (out.length:Int))),(27,Yv j)])
      (fun j => [(0,⟨2,[cuC l[i]]⟩),(1,⟨2,(X51 out l[i] j).map cuC⟩)]) (by decide) 0 (Y0l _) (fun i=>i) (fun _ _=>rfl) Zf
      ⟨Qt 0 0 0,⟨_,rfl,.own 1 (by decide)⟩,Qp (Z1 _),Qp Yt,Qp Yt,Qp (Z1 _),⟨_,by rw [<- hnl2]; rfl,.pure _ Yt⟩,Qp Yt,Yt⟩ ⟨Qs ⟨Zh _,Yt⟩,Qs Yt,Yt⟩ ?_
     intro j hj;have hinc2:IntKind.i64.wrap ((j:Int)+1)=((j+1:Nat):Int):=Y0v _ ⟨by omega,by omega⟩
     iterate 2 (first|refine st ?_|(apply B<;>intro hb<;>try cases hb))
     refine Zt rfl rfl rfl (fun hb=>?_) (fun hb=>?_)
     . have hjl : j < out.length := by have := Y0u hb; omega
       clear hb;have hs2:=Zh6 out l[i] hjl;have hx:=(hI _ (Y0j hjl)).lt (by omega);have hml:=ZdL out[j] l[i] hx;have hsl:=hsub j;refine go ?_;refine Qo (Zl (xs:=out) rfl rfl j rfl hjl rfl) ?_;refine go ?_;refine Qe (Z8J out[j] l[i] hx hb64) ⟨ZA _,ZA _,Yt⟩ ?_
       refine ZH (Zu (k:=1) (m:=(X2d out[j] l[i]).map cuC) (fl:=false) rfl rfl rfl (fun q hq=>by obtain⟨x,_,rfl⟩:=Y0i.1 hq; rfl) rfl (by
        show (((X51 out l[i] j).map cuC).length+((X2d out[j] l[i]).map cuC).length)*48<=_
        rw [Y0f,Y0f];omega)) rfl rfl ?_
       refine go ?_
       refine⟨j+1,mv 1 3,hjl,by omega,fun i hi=>absurd hi (Ye i),Zq rfl,
        ⟨Qt 0 0 0,Qw 1,Qp (Z1 _),Qp Yt,Qp Yt,Qp (Z1 _),Qp Yt,⟨_,by show some _=some _; rw [hinc2],.pure _ Yt⟩,Yt⟩,
        ⟨Qs ⟨Zh _,Yt⟩,⟨by decide,_,rfl,?_⟩,Yt⟩⟩
       show Xw _ _ ⟨2,(X51 out l[i] j).map cuC++(X2d out[j] l[i]).map cuC⟩ ⟨2,(X51 out l[i] (j+1)).map cuC⟩;rw [<- Y0r,<- hs2];exact .same _ (Z1 _)
     . have hjl : j = out.length := by have := YC hb; omega
       subst hjl;clear hb;have hend:X51 out l[i] out.length=X4d l c (i+1):=by rw [hsucc]; unfold X51; rw [Y0q]
       have hle:=hsub out.length;rw [hend] at hle ⊢
       repeat' (first|refine Za (Zj (k:=9) rfl rfl (Z1 _)) ?_|refine ZlI 39 ?_|(first|refine st ?_|(apply B<;>intro hb<;>try cases hb)))
       refine At.mk ?_;refine Qo (Z4 (v:=false) rfl (by simp;omega)) ?_;refine go ?_;exact⟨(i+1,false),by show i+1<=_; omega,by show _-(i+1)<_-i; omega,⟨⟨rfl,hlp _ _⟩,⟨rfl,hlp _ _⟩,⟨rfl,Yt⟩,⟨by show some _=some _; rw [hinc],Yt⟩,Yt⟩,Yt⟩
   . have hil : i = l.length := by have := YC hb; omega
     subst hil;clear hb;refine go ?_;have he:X4d l c l.length=X34 l c:=by unfold X4d X34; rw [Y0q]
     rw [he];refine Z1K rfl ⟨?_,Yt,Yt⟩ ?_
     . show X1 (XE ((X34 l c).map cuC));rw [Z59]; exact Z1 _
     . show PV.tup [.vec (XE ((X34 l c).map cuC)) false, _] = _;rw [Z59]; rfl
theorem Z6b (k:Nat) (h1:1<=k) (h2:k<=64):X7 Tryz.prog 85 [.val (.int .i64 (k:Int))] (· = XG (2 ^ k-1)):=by
 refine Yp ok85 fun C hC=>?_;have hq:IntKind.i64.wrap (((k+63:Nat):Int).tdiv 64)=((1:Nat):Int):=by
  rw [Y32 _ _ ⟨by omega,by omega,by omega⟩]; omega
 refine gd 6 ⟨?_⟩;refine Ze rfl rfl rfl (v:=(k:Int)) (by split<;>omega) ?_;refine Ze rfl rfl rfl (v:=(k:Int)) (by split<;>omega) ?_;refine gd 9 ⟨?_⟩;refine Ze rfl rfl rfl (show IntKind.i64.wrap ((k:Int)+63)=((k+63:Nat):Int) from Y0v _ ⟨by omega,by omega⟩) ?_;refine gd 10 ⟨?_⟩;refine Ze rfl rfl rfl hq ?_;refine go ?_;refine Z1i 1 ?_;refine gd 22 ⟨?_⟩;by_cases hk:k=64
 . subst hk
   repeat' (first|refine Za (Zj (k:=33) rfl rfl (ZV rfl)) ?_|(first|refine st ?_|(apply B<;>intro hb<;>try cases hb)))
   exact Z8 rfl (Z2N rfl) (by rw [Z3A (by decide) (by decide)]; rfl)
 . have hr : (k : Int).tmod 64 = ((k : Nat) : Int) := by rw [Y1Q (by omega)]; omega
   refine Ze rfl rfl rfl hr ?_;refine Qo (Z4 (v:=true) rfl (by simp;omega)) ?_;refine gd 29 ⟨?_⟩;refine Ze rfl rfl rfl hr ?_
   refine Qo (ZeE rfl rfl (by omega) (v:=((2 ^ k:Nat):Int)) (by
    rw [show min ((k:Int)).toNat IntKind.u64.bits=k by simp [IntKind.bits]; omega];have hp:=ZP (show k<64 by omega);rw [Y49,show (2:Int) ^ k=((2 ^ k:Nat):Int) by simp]
    exact Y0x _ ⟨Y1Y _,Y38.2 (show _<=18446744073709551615 by omega)⟩)) ?_
   refine Ze rfl rfl rfl (v:=((2 ^ k-1:Nat):Int)) (by
    have hp:=ZP (show k<64 by omega);have:=Y2X k;rw [show ((2 ^ k:Nat):Int)-1=((2 ^ k-1:Nat):Int) by omega]
    exact Y0x _ ⟨Y1Y _,Y38.2 (show _<=18446744073709551615 by omega)⟩) ?_
   have hp:=ZP (show k<64 by omega);have hp2:2<=2 ^ k:=YJ (n:=2) (by decide) h1
   repeat' (first|refine Za (Zj (k:=33) rfl rfl (ZV rfl)) ?_|(first|refine st ?_|(apply B<;>intro hb<;>try cases hb)))
   exact Z8 rfl (Z2N rfl) (by rw [Z3A (by omega) (by omega)]; rfl)
theorem Z9H {N M:Nat} (hN:N<18446744073709551616):N &&& M<18446744073709551616:=Y02 Y1o hN
theorem Zjc (a b:Nat) (ha:a<18446744073709551616) (hb:b<18446744073709551616):bits .and .u64 (a:Int) (b:Int)=((a &&& b:Nat):Int):=by
 have h1:(BitVec.ofInt 64 (a:Int)).toNat=a:=by rw [Y1A,Y1Z]; exact Y1v (by omega)
 have h2:(BitVec.ofInt 64 (b:Int)).toNat=b:=by rw [Y1A,Y1Z]; exact Y1v (by omega)
 show IntKind.u64.wrap ((BitVec.ofInt 64 (a:Int) &&& BitVec.ofInt 64 (b:Int)).toNat:Int)=_;rw [Y3P,h1,h2];have:a &&& b<=a:=Y1o;exact Y0x _ ⟨by omega,by omega⟩
theorem Z4j (N M:Nat) (hN:N<18446744073709551616) (hM:M<18446744073709551616):X7 Tryz.prog 21 [XG N,XG M] (· = XG (N &&& M)):=by
 have hlt:=Z9H (M:=M) hN;rcases Z1d hN with⟨rfl,e1⟩|⟨h1,e1⟩<;>rcases Z1d hM with⟨rfl,e2⟩|⟨h2,e2⟩<;>rw [e1]<;>(try rw [e2])<;>clear e1 e2
 all_goals
  refine Yp ok21 fun C hC=>?_;refine Zm ?_;refine Z9 ?_;refine Z5 rfl rfl rfl ?_;refine Z5 rfl rfl rfl ?_;refine go ?_;refine Z1i 1 ?_
 case inr.inr =>
  refine gd 32 ⟨?_⟩;refine Qr (ZS rfl (Zjc N M hN hM)) ?_
  repeat' (first|refine Za (Zj (k:=35) rfl rfl (ZV rfl)) ?_|(first|refine st ?_|(apply B<;>intro hb<;>try cases hb)))
  refine Zw rfl rfl (Z2l [N &&& M]) (Z13 rfl) rfl fun r hr=>?_;have hw:X1z [N &&& M]:=fun x hx=>by rw [Y0g.1 hx]; exact hlt
  have e1:=hr.set hw;have e2:ofW [N &&& M]=N &&& M:=by simp [ofW]
  rw [e2] at e1;subst e1;refine go ?_;exact Z8 rfl (Z2 _) rfl
 all_goals
  repeat' (first|refine Za (Zj (k:=35) rfl rfl (ZV rfl)) ?_|(first|refine st ?_|(apply B<;>intro hb<;>try cases hb)))
  refine Zw rfl rfl (Z2l []) (Z13 rfl) rfl fun r hr=>?_;have e1:=hr.set (fun x hx=>by cases hx);subst e1;refine go ?_;exact Z8 rfl (Z2 _) (show XG (ofW [])=_ by simp [ofW])
end
end Go.Proofs.YtoolafpiaobphaaGreatDoor
