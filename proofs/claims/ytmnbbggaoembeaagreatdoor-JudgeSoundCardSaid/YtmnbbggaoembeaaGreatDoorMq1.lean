/-
  Merged from the texts that this claim's theorem needs, part 2 of 8. No statement of the seat is proved here.
-/
import Derived.Lib.AppendZerosOnto
import Derived.Lib.ConvBytes
import Derived.Test.YtmnbbggaoembeaaGreatDoorMq0
set_option linter.unusedSimpArgs false
set_option linter.unusedVariables false
set_option linter.unusedSectionVars false
set_option maxRecDepth 100000
set_option maxHeartbeats 16000000
namespace Go.Proofs.YtmnbbggaoembeaaGreatDoor
open Go.RowKit
section
variable {P:Program} {C:Ctx} {Fr:Nat→Prop} {e:Env} {h:Heap} {F:Froz} {φ:Locs} {a:Act} {w:World}
theorem RowsAt.length:∀ {es:List MapEntry} {rs:List (List PV)},RowsAt F φ es rs→es.length=rs.length
 | [],[],_=>rfl
 | m :: es,r :: rs,h=>by simp [h.2.length]
 | [],_ :: _,h=>h.elim
 | _ :: _,[],h=>h.elim
theorem RowsAt.at:∀ {es:List MapEntry} {rs:List (List PV)},RowsAt F φ es rs→∀ {j:Nat} {m:MapEntry},es[j]?=some m→∃ k v,rs[j]?=some [k,v]∧Rep F φ m.key k∧Rep F φ m.val v
 | m :: es, r :: rs, h, 0, m', hm => by
   obtain⟨⟨k,v,rfl,h1,h2⟩,h3⟩:=h;obtain rfl:m=m':=by simpa using hm
   exact⟨k,v,rfl,h1,h2⟩
 | m :: es, r :: rs, h, j + 1, m', hm => by
   obtain⟨k,v,h1,h2,h3⟩:=h.2.at (j:=j) (m:=m') (by simpa using hm);exact⟨k,v,by simpa using h1,h2,h3⟩
 | [],[],_,_,_,hm=>by simp at hm
 | [],_ :: _,h,_,_,_=>h.elim
 | _ :: _,[],h,_,_,_=>h.elim
theorem RowsAt.set:∀ {es:List MapEntry} {rs:List (List PV)},RowsAt F φ es rs→∀ {j:Nat} {m:MapEntry} {k v:PV},Rep F φ m.key k→Rep F φ m.val v→RowsAt F φ (es.set j m) (rs.set j [k,v])
 | [],[],_,_,_,_,_,_,_=>trivial
 | m :: es,r :: rs,h,0,m',k,v,h1,h2=>⟨⟨k,v,rfl,h1,h2⟩,h.2⟩
 | m :: es,r :: rs,h,j+1,m',k,v,h1,h2=>⟨h.1,h.2.set h1 h2⟩
 | [],_ :: _,h,_,_,_,_,_,_=>h.elim
 | _ :: _,[],h,_,_,_,_,_,_=>h.elim
theorem RowsAt.push:∀ {es:List MapEntry} {rs:List (List PV)},RowsAt F φ es rs→∀ {m:MapEntry} {k v:PV},Rep F φ m.key k→Rep F φ m.val v→RowsAt F φ (es ++ [m]) (rs ++ [[k,v]])
 | [],[],_,m,k,v,h1,h2=>⟨⟨k,v,rfl,h1,h2⟩,Yt⟩
 | m :: es,r :: rs,h,m',k,v,h1,h2=>⟨h.1,h.2.push h1 h2⟩
 | [],_ :: _,h,_,_,_,_,_=>h.elim
 | _ :: _,[],h,_,_,_,_,_=>h.elim
theorem St'.allocMapOf (s:St' C Fr e h F φ a w) {id:Nat} (hid:Fr id) (es0:Array MapEntry) (t0:Nat) (rows0:List (List PV)) (hrows:RowsAt F φ es0.toList rows0) :
 St' C (fun i=>Fr i∧i≠id) e (h.upd id ⟨0,rows0⟩) F (locUpd φ id ⟨some ⟨w.heap.size,0,none⟩,0,0,1⟩) a (w.alloc (.map es0 t0)):=by
 have hφ:=s.free id hid;have hext:=Z1g hφ ⟨some ⟨w.heap.size,0,none⟩,0,0,1⟩;have hold:∀ k,k<w.heap.size→(w.alloc (.map es0 t0)).heap[k]?=w.heap[k]?:=fun k hk=>Below.heap_alloc w _ k hk
 refine { nt := s.nt, glob := s.glob, marks := s.marks.mono (fun k hk => by rw [hold k (Array.getElem?_eq_some_iff.1 hk).1]; exact hk), loc0 := fun i x hx => hext _ _ (s.loc0 i x hx), free := ?_, env := fun k p hp => ⟨(s.env k p hp).1, (s.env k p hp).2.mono (fun _ _ h => h) hext⟩, froz := fun x v hx => ?_, ext := s.ext, old := s.old, os := s.os, tape := s.tape, output := s.output,
          size:=by have:=s.size; simp; omega,kept:=fun k hk hG=>by rw [hold k (by have:=s.size;omega)]; exact s.kept k hk hG,live:=?_,sep:=?_ }
 · rintro i ⟨hi, hne⟩;simp [locUpd,hne,s.free i hi]
 · obtain ⟨h1, h2, h3⟩ := s.froz x v hx;exact⟨h1,h2,by rw [World.cell?_of_block (w:=w) (hold _ (block_lt_of_cell h3))]; exact h3⟩
 · intro i b hb;by_cases hi:i=id
   · subst hi;rw [Heap.upd_same] at hb;obtain rfl:_=b:=by simpa using hb
     refine⟨⟨some ⟨w.heap.size,0,none⟩,0,0,1⟩,by simp [locUpd],.inr ⟨rfl,rfl,by simp,⟨w.heap.size,0,none⟩,rfl,es0,t0,heap_alloc_new w _,hrows.imp fun _ _ _ _ _ h=>h.mono (fun _ _ h=>h) hext⟩,?_⟩;rintro k ⟨_,x,hx,rfl⟩;obtain rfl:(⟨w.heap.size,0,none⟩:Addr)=x:=by simpa using hx
     refine⟨.inl s.size,fun y hy=>?_⟩;cases hFy:F y with
     | none=>rfl
     | some v=>have:=s.lt hFy; simp at hy; omega
   · rw [Heap.upd_ne _ _ hi] at hb;obtain⟨loc,h1,h2,h3⟩:=s.live i b hb;exact⟨loc,hext _ _ h1,h2.mono (fun _ _ h=>h) hext (fun k hk=>hold k (s.has_lt hb h1 hk)),h3⟩
 · intro i j bi bj li lj k hi hj hli hlj hki hkj;by_cases h1:i=id
   · by_cases h2 : j = id
     · rw [h1,h2]
     · subst h1;rw [Heap.upd_ne _ _ h2] at hj;have hlj':φ j=some lj:=by simpa [locUpd,h2] using hlj
       have hlt:=s.has_lt hj hlj' hkj;obtain rfl:_=li:=by simpa [locUpd] using hli
       obtain⟨_,x,hx,rfl⟩:=hki;obtain rfl:(⟨w.heap.size,0,none⟩:Addr)=x:=by simpa using hx
       simp at hlt
   · rw [Heap.upd_ne _ _ h1] at hi;have hli':φ i=some li:=by simpa [locUpd,h1] using hli
     by_cases h2:j=id
     · subst h2;have hlt:=s.has_lt hi hli' hki;obtain rfl:_=lj:=by simpa [locUpd] using hlj
       obtain⟨_,x,hx,rfl⟩:=hkj;obtain rfl:(⟨w.heap.size,0,none⟩:Addr)=x:=by simpa using hx
       simp at hlt
     · rw [Heap.upd_ne _ _ h2] at hj;exact s.sep i j bi bj li lj k hi hj hli' (by simpa [locUpd,h2] using hlj) hki hkj
theorem St'.allocMap (s:St' C Fr e h F φ a w) {id:Nat} (hid:Fr id) :
 St' C (fun i=>Fr i∧i≠id) e (h.upd id ⟨0,[]⟩) F (locUpd φ id ⟨some ⟨w.heap.size,0,none⟩,0,0,1⟩) a (w.alloc (.map #[] 0)):=s.allocMapOf hid #[] 0 [] Yt
theorem St'.adoptMap (s:St' C Fr e h F φ a w) {id:Nat} {b:Bx} {loc:Loc} {x:Addr} (hb:h id=some b) (hl:φ id=some loc) (hz:loc.esz=0) (hx:loc.base=some x) {es':Array MapEntry} {t':Nat} {rows:List (List PV)} (hr:RowsAt F φ es'.toList rows) :
 St' C Fr e (h.upd id ⟨0,rows⟩) F φ a (w.putObj x.block (.map es' t')):=by
 obtain⟨loc',h1,h2,h3⟩:=s.live id b hb;obtain rfl:loc'=loc:=by rw [h1] at hl; simpa using hl
 have h2:=h2.rows hz;obtain⟨y,hy,es,t,hg,_⟩:=h2.room;obtain rfl:y=x:=by rw [hy] at hx; simpa using hx
 have hhas:loc'.has y.block:=⟨h2.cap,y,hy,rfl⟩
 have hold:∀ k,k≠y.block→(w.putObj y.block (.map es' t')).heap[k]?=w.heap[k]?:=fun k hk=>World.putObj_heap_other hk
 refine { nt := s.nt, glob := s.glob, marks := s.marks.mono (fun k hk => by rw [hold k (fun e => by subst e; rw [hg] at hk; cases hk)]; exact hk), loc0 := s.loc0, free := s.free, env := s.env, froz := fun x v hx => ?_, ext := s.ext, old := s.old, os := s.os, tape := s.tape, output := s.output,
          size:=by have:=s.size; simpa using this,kept:=fun k hk hG=>?_,live:=?_,sep:=?_ }
 · obtain ⟨g1, g2, g3⟩ := s.froz x v hx;refine⟨g1,g2,?_⟩;have:x.block≠y.block:=fun e=>by rw [(h3 _ hhas).2 x e] at hx; cases hx
   rw [World.cell?_of_block (w:=w) (hold _ this)];exact g3
 · have : k ≠ y.block := by
    rintro rfl;rcases (h3 _ hhas).1 with h' | h'
    · omega
    · exact hG h'
   rw [hold k this];exact s.kept k hk hG
 · intro i bi hbi;by_cases hi:i=id
   · subst hi;rw [Heap.upd_same] at hbi;cases hbi;exact⟨loc',h1,.inr ⟨rfl,hz,h2.cap,y,hy,es',t',World.putObj_heap_same (Array.getElem?_eq_some_iff.1 hg).1,hr⟩,h3⟩
   · rw [Heap.upd_ne _ _ hi] at hbi;obtain⟨li,g1,g2,g3⟩:=s.live i bi hbi;exact⟨li,g1,g2.mono (fun _ _ h=>h) (fun _ _ h=>h) (fun k hk=>hold k fun e=>by subst e; exact hi (s.sep i id bi b li loc' _ hbi hb g1 h1 hk hhas)),g3⟩
 · intro i j bi bj li lj k hi hj hli hlj hki hkj;have conv:∀ {i:Nat} {bi:Bx},(h.upd id ⟨0,rows⟩) i=some bi→∃ b0,h i=some b0:=by
    intro i bi hi;by_cases hid:i=id
    · subst hid; exact⟨b,hb⟩
    · rw [Heap.upd_ne _ _ hid] at hi; exact⟨bi,hi⟩
   obtain⟨b1,g1⟩:=conv hi
   obtain⟨b2,g2⟩:=conv hj
   exact s.sep i j b1 b2 li lj k g1 g2 hli hlj hki hkj
theorem getMap {r t:Nat} {es:Array MapEntry} (hg:w.heap[r]?=some (.map es t)):(getObj r).run P w=.ok (.map es t) w:=by simp [getObj,Sem.run,hg]
theorem ZdA (s:St' C Fr e h F φ a w) {id:Nat} (hid:Fr id) {t:TypeId}:OpRun P C Fr e F φ a w (Instr.makeMap t none) id (.mp id) (h.upd id ⟨0,[]⟩):=by
 refine⟨.map (some w.heap.size),w.alloc (.map #[] 0),F,_,by simp [Instr.makeMap],(s.allocMap hid).made,?_⟩;exact .mp id ⟨some ⟨w.heap.size,0,none⟩,0,0,1⟩ ⟨w.heap.size,0,none⟩ (by simp [locUpd]) rfl rfl
theorem Z5W {t:TypeId} {z:Bool×List Value} (hz:zeroVal P t=some z):∃ v,(zeroValue t).run P w=.ok v w∧Rep F φ v (zval z.1 z.2):=by
 unfold zeroVal at hz
 split at hz
 case h_2=>cases hz
 rename_i i hi
 split at hz
 · rename_i cs hcs
   split at hz
   case isFalse=>cases hz
   rename_i hall;cases hz;refine⟨.agg cs,ZP hi hcs,?_⟩;simp only [zval];refine .agg cs _ (by simp [zpv]) (fun j hj=>?_) (fun j hj=>?_)
   · have hj' : j < cs.size := by simpa [zpv] using hj
     have:=List.all_eq_true.1 hall cs[j] (by simp);simpa [Array.getD,hj'] using this
   · have hj' : j < cs.size := by simpa [zpv] using hj
     have e1:cs.getD j undef=cs[j]:=by simp [Array.getD,hj']
     have e2:(zpv cs.toList).getD j pvu=pvOf cs[j]:=by simp [zpv,Y0b,hj']
     rw [e1,e2];exact Z2c _
 · rename_i v _ hv
   split at hz
   case isFalse=>cases hz
   cases hz;exact⟨v,ZP hi hv,Z2c v⟩
 · cases hz
theorem Zcg (s:St' C Fr e h F φ a w) {id:Nat} {t kt el:TypeId} (hu:P.underlying t=some (.map kt el)) {c:KC} (hk:keyT P kt=some c) {z:Bool×List Value} (hz:zeroVal P el=some z) {ok:Bool}
 {x i:Operand} {p:PV} {h':Heap} (hd:dEval (.lookup c z.1 z.2 ok x i) e h id=some (p,h')):OpRun P C Fr e F φ a w (Instr.lookup t (a.eval x) (a.eval i) ok) id p h':=by
 simp only [dEval] at hd
 split at hd
 case h_2=>cases hd
 rename_i k kp hx hi
 split at hd
 case h_2=>cases hd
 rename_i b hb
 split at hd
 case isFalse=>cases hd
 rename_i hc;obtain⟨loc,ad,hloc,hz0,hbase,hv⟩:=(s.eval hx).mp_inv;obtain⟨loc',h1,h2,h3⟩:=s.live k b hb;obtain rfl:loc'=loc:=by rw [h1] at hloc; simpa using hloc
 obtain⟨y,hy,es,tm,hg,hr⟩:=(h2.rows hz0).room;obtain rfl:y=ad:=by rw [hy] at hbase; simpa using hbase
 have hck:=Z5V (w:=w) hk (s.eval hi) hc.2 es.isEmpty
 split at hd
 case h_3=>cases hd
 · rename_i j hj;cases hd;obtain⟨fx,hf,m,hm,rfl⟩:=Z4r (w:=w) hk (s.eval hi) hr hj;obtain⟨kk,vv,hrow,_,hvr⟩:=hr.at hm;have hval:(b.elems.getD j []).getD 1 pvu=vv:=by simp [Y0b,hrow]
   rw [hval];cases ok with
   | true =>
     refine OpRun.quiet s (val:=.tuple #[m.val,.bool true]) (by simp [Instr.lookup,run_underlying hu,hv,getMap hg,hck,hf]) ?_;exact .tup _ _ rfl fun i hi=>by
      match i,hi with
      | 0,_=>exact hvr
      | 1,_=>exact .val _
   | false=>exact OpRun.quiet s (val:=m.val) (by simp [Instr.lookup,run_underlying hu,hv,getMap hg,hck,hf]) hvr
 · rename_i hj;cases hd;obtain⟨fx,hf,rfl⟩:=Z4r (w:=w) hk (s.eval hi) hr hj;obtain⟨zv,hzr,hzrep⟩:=Z5W (P:=P) (w:=w) (F:=F) (φ:=φ) hz;cases ok with
   | true =>
     refine OpRun.quiet s (val:=.tuple #[zv,.bool false]) (by simp [Instr.lookup,run_underlying hu,hv,getMap hg,hck,hf,hzr]) ?_;exact .tup _ _ rfl fun i hi=>by
      match i,hi with
      | 0,_=>exact hzrep
      | 1,_=>exact .val _
   | false=>exact OpRun.quiet s (val:=zv) (by simp [Instr.lookup,run_underlying hu,hv,getMap hg,hck,hf,hzr]) hzrep
theorem Z7G (s:St' C Fr e h F φ a w) {id:Nat} {t kt el:TypeId} (hu:P.underlying t=some (.map kt el)) {c:KC} (hk:keyT P kt=some c) {z:Bool×List Value} (hz:zeroVal P el=some z) {ok:Bool}
 {x i:Operand} {p:PV} {h':Heap} (hd:fEval (.lookup c z.1 z.2 ok x i) e h id=some (p,h')):OpRun P C Fr e F φ a w (Instr.lookup t (a.eval x) (a.eval i) ok) id p h':=by
 simp only [fEval] at hd
 split at hd
 case h_2=>cases hd
 rename_i kp hx hi
 split at hd
 case isFalse=>cases hd
 rename_i hc;have hv:a.eval x=.map none:=(s.eval hx).val_inv;have hck:=Z5V (w:=w) hk (s.eval hi) hc true;obtain⟨zv,hzr,hzrep⟩:=Z5W (P:=P) (w:=w) (F:=F) (φ:=φ) hz;obtain⟨fx,hf,hfe⟩:=Z4r (w:=w) hk (s.eval hi) (es := []) (rs := []) (r:=none) Yt rfl;have hfe:fx=none:=hfe;subst hfe;cases hd;cases ok with
 | true =>
   refine OpRun.quiet s (val:=.tuple #[zv,.bool false]) (by simp [Instr.lookup,run_underlying hu,hv,hck,hf,hzr]) ?_;exact .tup _ _ rfl fun i hi=>by
    match i,hi with
    | 0,_=>exact hzrep
    | 1,_=>exact .val _
 | false=>exact OpRun.quiet s (val:=zv) (by simp [Instr.lookup,run_underlying hu,hv,hck,hf,hzr]) hzrep
theorem Z70:∀ {l:List (List PV)} {ns:List Int},bytesN l=some ns→l.length=ns.length∧∀ i,i<l.length→l.getD i [] = [.val (.int .u8 (ns.getD i 0))]
 | [], ns, h => by
   have:ns = []:=by simpa [bytesN] using h.symm
   subst this;exact⟨rfl,fun i hi=>absurd hi (Nat.not_lt_zero i)⟩
 | x :: r, ns, h => by
   unfold bytesN at h
   split at h
   · rename_i h0; cases h0
   · rename_i n r' h0;cases h0
     split at h
     case h_2=>cases h
     rename_i l hl;cases h;obtain⟨h1,h2⟩:=Z70 hl;refine⟨by simp [h1],fun i hi=>?_⟩;cases i with
     | zero=>rfl
     | succ i=>simpa using h2 i (by simpa using hi)
   · cases h
theorem Z5D (w:World) (el:TypeId) (str:ByteArray):Go.Lib.bytesWorld w el str=w.drew.alloc (.cells (Go.Lib.bytesCells w el str) el ((Go.Lib.bytesCells w el str).size,(Go.Lib.bytesCells w el str).size+1)):=by
 have h1:=Go.Lib.bytesWorld_at_new w el str;have h2:=Go.Lib.bytesWorld_at_old w el str;have h3:=Go.Lib.bytesWorld_size w el str;have hh:(Go.Lib.bytesWorld w el str).heap=(w.drew.alloc (.cells (Go.Lib.bytesCells w el str) el ((Go.Lib.bytesCells w el str).size,(Go.Lib.bytesCells w el str).size+1))).heap:=by
  apply Array.ext_getElem?;intro j;rcases Nat.lt_trichotomy j w.heap.size with hj|hj|hj
  · rw [h2 j hj];exact (Below.heap_alloc w.drew _ j hj).symm
  · subst hj;rw [h1];exact (heap_alloc_new w.drew _).symm
  · rw [Array.getElem?_eq_none (by rw [h3];omega),Array.getElem?_eq_none (by simp [World.alloc,World.drew,-World.alloc_eq,-World.drew_eq];omega)]
 have hr:∀ w1 w2:World,w1.heap=w2.heap→{ w1 with heap:=w2.heap }=w1:=fun w1 w2 h=>by rw [← h]
 have e1:Go.Lib.bytesWorld w el str={ Go.Lib.bytesWorld w el str with heap:=(w.drew.alloc (.cells (Go.Lib.bytesCells w el str) el ((Go.Lib.bytesCells w el str).size,(Go.Lib.bytesCells w el str).size+1))).heap }:=(hr _ _ hh).symm;rw [e1];unfold Go.Lib.bytesWorld World.freeze
 split<;>rfl
theorem Z9J (str:ByteArray):(strRows str).length=str.size:=by
 unfold strRows;rw [Y0f]
 rfl
theorem Zhb (s:St' C Fr e h F φ a w) {id:Nat} {src dst el:TypeId} (hu:P.underlying src=some .string) (hu':P.underlying dst=some (.slice el)) (hel:P.underlying el=some (.int .u8)) {x:Operand} {p:PV} {h':Heap} (hd:dEval (.s2b x) e h id=some (p,h')) :
 OpRun P C Fr e F φ a w (convert src dst (a.eval x)) id p h':=by
 simp only [dEval] at hd
 split at hd
 case h_2=>cases hd
 rename_i str hx
 split at hd
 case isFalse=>cases hd
 rename_i hmax;cases hd;have hv:=(s.eval hx).val_inv;have sd:=s.drew;have s1:=sd.allocBlock (.cells (Go.Lib.bytesCells w el str) el ((Go.Lib.bytesCells w el str).size,(Go.Lib.bytesCells w el str).size+1));have hF:∀ x:Addr,x.block=w.heap.size→F x=none:=fun x hx=>by
  cases hFx:F x with
  | none=>rfl
  | some v=>have:=s.lt hFx; omega
 have s2:=s1.frz (g:=w.heap.size) (heap_alloc_new w.drew _) hF (fun i b loc hb hl hk=>by have:=s.has_lt hb hl hk;omega) (.inl s.size);have hx2:=Z1k hF (Go.Lib.bytesCells w el str);have hsl:=Z9J str;refine⟨_,_,_,φ,by rw [hv]; exact Go.Lib.run_convert_string_bytes w src dst el str hu hu' hel,by rw [Z5D]; exact s2.weaken fun _ h=>h.1,?_⟩;rw [← hsl];have hcs:(Go.Lib.bytesCells w el str).size=str.size+(grownCap w str.size 0 el-str.size):=by
  unfold Go.Lib.bytesCells;rw [Array.size_append,Array.size_map,Array.size_replicate]
  rfl
 have hcell:∀ i,i<str.size→(Go.Lib.bytesCells w el str).getD i undef=.int .u8 (str.data.toList.getD i 0).toNat:=fun i hi=>by
  simp [Go.Lib.bytesCells,Y0d,Array.getElem?_append,List.getD,hi]
 have hrow:∀ i,i<str.size→(strRows str).getD i [] = [PV.val (.int .u8 ((str.data.toList.getD i 0).toNat:Int))]:=fun i hi=>by
  have hi':i<str.data.toList.length:=hi;unfold strRows;simp [Y0b,Y0y,Y0c hi']
 have hge:=grownCap_ge w str.size 0 el;refine .vec ⟨w.heap.size,0,none⟩ _ 1 (strRows str) false (fun i j=>(Go.Lib.bytesCells w el str).getD (i+j) undef) (fun _=>rfl) (by rw [hsl]; exact hge) (by simp) (by rw [hsl]; exact hmax) (fun j hj=>?_) (fun j k hj hk=>?_) (fun j k hj hk=>?_)
 · rw [hrow j (by omega)]; rfl
 · obtain rfl : k = 0 := by omega
   simp only [Nat.zero_add,Nat.mul_one,Nat.add_zero];exact Z1o F _ _ (by omega) (by rw [hcell j (by omega)]; rfl)
 · obtain rfl : k = 0 := by omega
   simp only [Nat.add_zero];rw [hcell j (by omega),hrow j (by omega)];exact .val _
theorem Zhc (s:St' C Fr e h F φ a w) {id:Nat} {src dst el:TypeId} (hu:P.underlying src=some (.slice el)) (hel:P.underlying el=some (.int .u8)) (hd':P.underlying dst=some .string) {x:Operand} {p:PV} {h':Heap} (hd:dEval (.b2s x) e h id=some (p,h')) :
 OpRun P C Fr e F φ a w (convert src dst (a.eval x)) id p h':=by
 simp only [dEval] at hd
 split at hd
 case h_2=>cases hd
 rename_i l fl hx
 split at hd
 case h_2=>cases hd
 rename_i ns hns;cases hd;obtain⟨hlen,hget⟩:=Z70 hns;have empty:ns = []→strOfNums ns=ByteArray.empty:=by rintro rfl; rfl
 rcases (s.eval hx).vec_inv with⟨rfl,hv⟩|⟨ad,cap,esz,cs,hv,hs,-,-,-,hez,hF,hR⟩
 · have h0 : ns = [] := List.length_eq_zero_iff.1 (by rw [← hlen]; rfl);refine OpRun.quiet s (val:=.string (strOfNums ns)) ?_ (.val _);rw [hv,empty h0,run_convert_bytes_nil w src el hu hel 0 0 dst hd']
 · by_cases hl0 : l = []
   · subst hl0;have h0:ns = []:=List.length_eq_zero_iff.1 (by rw [← hlen]; rfl);refine OpRun.quiet s (val:=.string (strOfNums ns)) ?_ (.val _);rw [hv,empty h0,List.length_nil,run_convert_bytes_string w src dst el (some ad) 0 cap hu hel hd',run_bytesToString w ad 0 cap [] (by simp [loadCells,loadCellsFrom])]
     rfl
   · have had := hs hl0;have hp:0<l.length:=List.length_pos_iff.2 hl0;have he1:esz=1:=by rw [← hez 0 hp,hget 0 hp]; rfl
     subst he1;refine OpRun.quiet s (val:=.string (strOfNums ns)) ?_ (.val _);rw [hv];obtain⟨ab,ao,asp⟩:=ad;have:asp=none:=had;subst this;refine run_convert_bytes_arg w src el hu hel ab ao l.length cap ns hlen.symm (fun i hi=>?_) dst hd';have h1:=hF i 0 hi (by decide);have h2:=hR i 0 hi (by decide);rw [hget i hi] at h2;have h3:cs i 0=.int .u8 (ns.getD i 0):=h2.val_inv;have h4:=(s.froz _ _ h1).2.2;rw [h3] at h4;simpa using h4
theorem Z8D {c:KC} {kp:PV}:∀ {rs:List (List PV)} {j:Nat},mfind c kp rs=some (some j)→pkeq c kp ((rs.getD j []).getD 0 pvu)=some true
 | [],j,h=>by simp [mfind] at h
 | row :: rs, j, h => by
   rcases Z53 h with⟨he,hr⟩|⟨he,r',hr',hr⟩
   · cases hr; simpa using he
   · cases r' with
     | none=>cases hr
     | some j' =>
       cases hr;simpa using Z8D hr'
theorem Z71 (s:St' C Fr e h F φ a w) {id:Nat} {t kt el:TypeId} (hu:P.underlying t=some (.map kt el)) {c:KC} (hk:keyT P kt=some c)
 {x i v:Operand} {p:PV} {h':Heap} (hd:dEval (.mapset c x i v) e h id=some (p,h')):p=pvu∧∃ w',(Instr.mapUpdate t (a.eval x) (a.eval i) (a.eval v)).run P w=.ok () w'∧St' C Fr e h' F φ a w':=by
 simp only [dEval] at hd
 split at hd
 case h_2=>cases hd
 rename_i k kp q hx hi hvq
 split at hd
 case h_2=>cases hd
 rename_i b hb
 split at hd
 case isFalse=>cases hd
 rename_i hc;obtain⟨loc,ad,hloc,hz0,hbase,hv⟩:=(s.eval hx).mp_inv;obtain⟨loc',h1,h2,h3⟩:=s.live k b hb;obtain rfl:loc'=loc:=by rw [h1] at hloc; simpa using hloc
 obtain⟨y,hy,es,tm,hg,hr⟩:=(h2.rows hz0).room;obtain rfl:y=ad:=by rw [hy] at hbase; simpa using hbase
 have hck:=Z5V (w:=w) hk (s.eval hi) hc.2 false;have hset:∀ o:Obj,(setObj y.block o).run P w=.ok () (w.putObj y.block o):=fun o=>by simp [setObj,Sem.run,hg,World.putObj]
 split at hd
 case h_3=>cases hd
 · rename_i j hj;cases hd;obtain⟨fx,hf,m,hm,rfl⟩:=Z4r (w:=w) hk (s.eval hi) hr hj;obtain⟨kk,vv,hrow,hkr,hvr⟩:=hr.at hm;have hkey:=Z8D hj;have hkk:(b.elems.getD j []).getD 0 pvu=kk:=by simp [Y0b,hrow]
   rw [hkk] at hkey;have hm':es[j]?=some m:=by simpa using hm
   have hst:=Zdz (P:=P) (w:=w) (s.eval hi) hkr hkey
   refine⟨rfl,w.putObj y.block (.map (es.modify j fun e=>{ e with key:=a.eval i,val:=a.eval v }) tm),by
    simp [Instr.mapUpdate,run_underlying hu,hv,getMap hg,hck,hf,hm',hst,hset],?_⟩
   have hrows:RowsAt F φ (es.modify j fun e=>{ e with key:=a.eval i,val:=a.eval v }).toList (b.elems.set j [kp,q]):=by
    have e1:(es.modify j fun e=>{ e with key:=a.eval i,val:=a.eval v }).toList=es.toList.set j { m with key:=a.eval i,val:=a.eval v }:=by
     apply List.ext_getElem?;intro n;rw [← Array.getElem?_toList.symm,Array.getElem?_modify,List.getElem?_set];by_cases hn:j=n
     · subst hn;have hlt:j<es.size:=(Array.getElem?_eq_some_iff.1 hm').1;have hb0:=(Array.getElem?_eq_some_iff.1 hm').2;simp [hm',hlt,hb0]
     · simp [hn]
    rw [e1];exact hr.set (s.eval hi) (s.eval hvq)
   exact s.adoptMap hb h1 hz0 hy hrows
 · rename_i hj;cases hd;obtain⟨fx,hf,rfl⟩:=Z4r (w:=w) hk (s.eval hi) hr hj
   refine⟨rfl,w.putObj y.block (.map (es.push { key:=a.eval i,val:=a.eval v,born:=tm }) (tm+1)),by
    simp [Instr.mapUpdate,run_underlying hu,hv,getMap hg,hck,hf,hset],?_⟩
   have hrows:RowsAt F φ (es.push { key:=a.eval i,val:=a.eval v,born:=tm }).toList (b.elems ++ [[kp,q]]):=by
    rw [Array.toList_push];exact hr.push (s.eval hi) (s.eval hvq)
   exact s.adoptMap hb h1 hz0 hy hrows
theorem Zfx (s:St' C Fr e h F φ a w) {id:Nat} {t ty kt el:TypeId} (hu:P.underlying t=some (.map kt el))
 {x:Operand} {p:PV} {h':Heap} (hd:dEval (.lenM x) e h id=some (p,h')):OpRun P C Fr e F φ a w (Builtin.len_ #[t] ty #[a.eval x]) id p h':=by
 simp only [dEval] at hd
 split at hd
 case h_2=>cases hd
 rename_i k hx
 split at hd
 case h_2=>cases hd
 rename_i b hb
 split at hd
 case isFalse=>cases hd
 cases hd;obtain⟨loc,ad,hloc,hz0,hbase,hv⟩:=(s.eval hx).mp_inv;obtain⟨loc',h1,h2,h3⟩:=s.live k b hb;obtain rfl:loc'=loc:=by rw [h1] at hloc; simpa using hloc
 obtain⟨y,hy,es,tm,hg,hr⟩:=(h2.rows hz0).room;obtain rfl:y=ad:=by rw [hy] at hbase; simpa using hbase
 have:=hr.length
 refine OpRun.quiet s (val:=.int .i64 b.elems.length) (by
  rw [← this]
  simp [Builtin.len_,run_underlying hu,hv,getMap hg,goInt]) (.val _)
theorem Z5X {t el:TypeId} (hu:P.underlying t=some (.slice el)) (d n c:Nat) (b:Option Addr):(Op.equalIn (d+1) t (.slice b n c) (.slice none 0 0)).run P w=.ok b.isNone w:=by
 unfold Op.equalIn;cases b<;>simp [run_underlying hu]
theorem ZdB {t el:TypeId} (hu:P.underlying t=some (.slice el)) (n c:Nat) (b:Option Addr):(binOp .eql t (.slice b n c) (.slice none 0 0)).run P w=.ok (.bool b.isNone) w:=by
 simp only [binOp];simp [Op.equal,Op.maxDepth,Z5X hu 9999]
theorem ZdC {t el:TypeId} (hu:P.underlying t=some (.slice el)) (n c:Nat) (b:Option Addr):(binOp .neq t (.slice b n c) (.slice none 0 0)).run P w=.ok (.bool (!b.isNone)) w:=by
 simp only [binOp];simp [Op.equal,Op.maxDepth,Z5X hu 9999]
theorem Z5o {t kt el:TypeId} (hu:P.underlying t=some (.map kt el)) (d:Nat) (b:Option Nat):(Op.equalIn (d+1) t (.map b) (.map none)).run P w=.ok b.isNone w:=by
 cases b<;>simp [Op.equalIn,run_underlying hu]
theorem Zfy {t kt el:TypeId} (hu:P.underlying t=some (.map kt el)) (b:Option Nat):(binOp .eql t (.map b) (.map none)).run P w=.ok (.bool b.isNone) w:=by
 simp only [binOp];simp [Op.equal,Op.maxDepth,Z5o hu 9999]
theorem Zfz {t kt el:TypeId} (hu:P.underlying t=some (.map kt el)) (b:Option Nat):(binOp .neq t (.map b) (.map none)).run P w=.ok (.bool (!b.isNone)) w:=by
 simp only [binOp];simp [Op.equal,Op.maxDepth,Z5o hu 9999]
theorem ZfA (s:St' C Fr e h F φ a w) {id:Nat} {t:TypeId} (hu:P.underlying t=some .string)
 {x:Operand} {lo hi:Option Operand} {p:PV} {h':Heap} (hd:dEval (.slcS x lo hi) e h id=some (p,h')):OpRun P C Fr e F φ a w (Instr.sliceAt t (a.eval x) (lo.map a.eval) (hi.map a.eval) none) id p h':=by
 simp only [dEval] at hd
 split at hd
 case h_2=>cases hd
 rename_i str hx
 split at hd
 case h_2=>cases hd
 rename_i A B hA hB
 split at hd
 case isFalse=>cases hd
 rename_i hb;cases hd;have hv:=(s.eval hx).val_inv;refine OpRun.quiet s (val:=.string (str.extract A.toNat B.toNat)) ?_ (.val _);rcases Z2A s hA with⟨rfl,rfl⟩|⟨ka,oa,rfl,ha⟩<;>rcases Z2A s hB with⟨rfl,rfl⟩|⟨kb,ob,rfl,hb'⟩
 all_goals first
  | (simp [Instr.sliceAt,run_underlying hu,Instr.slice,hv,Instr.sliceBounds,Instr.sliceBound,asIntOf, *]; done)
  | (simp [Instr.sliceAt, run_underlying hu, Instr.slice, hv, Instr.sliceBounds, Instr.sliceBound, asIntOf, *]
     rw [if_pos (by omega),if_pos (by omega)])
theorem ZfB (s:St' C Fr e h F φ a w) {id:Nat} {t el:TypeId} {n:Nat} {inf:TypeInfo} (hu:P.underlying t=some (.array n el)) (hi1:P.info? el=some inf) (h1:inf.size=1) (hn:n≤1048576)
 {x:Operand} {lo hi:Option Operand} {p:PV} {h':Heap} (hd:dEval (.slcA n x lo hi) e h id=some (p,h')):OpRun P C Fr e F φ a w (Instr.sliceAt t (a.eval x) (lo.map a.eval) (hi.map a.eval) none) id p h':=by
 simp only [dEval] at hd;have run:∀ (ad:Addr) (A B:Int),a.eval x=.pointer (some ad)→bndAt e 0 lo=some A→bndAt e n hi=some B→0≤A→A≤B→B≤(n:Int)→A<(n:Int)→(Instr.sliceAt t (a.eval x) (lo.map a.eval) (hi.map a.eval) none).run P w=.ok (.slice (some (ad.add A.toNat)) (B.toNat-A.toNat) (n-A.toNat)) w:=by
  intro ad A B hv hA hB h0 hAB hBn hAn;have hne:¬ n=A.toNat:=by omega
  have hsz:=Zg (w:=w) hi1;rw [h1] at hsz;rcases Z2A s hA with⟨rfl,rfl⟩|⟨ka,oa,rfl,ha⟩<;>rcases Z2A s hB with⟨rfl,rfl⟩|⟨kb,ob,rfl,hb'⟩
  all_goals first
   | (simp [Instr.sliceAt,run_underlying hu,Instr.sureAddr,hv,Instr.sliceBounds,Instr.sliceBound,asIntOf,hsz, *]; done)
   | (simp [Instr.sliceAt,run_underlying hu,Instr.sureAddr,hv,Instr.sliceBounds,Instr.sliceBound,asIntOf,hsz, *]; intro h0;omega)
   | (simp [Instr.sliceAt,run_underlying hu,Instr.sureAddr,hv,Instr.sliceBounds,Instr.sliceBound,asIntOf,hsz, *]; rw [if_pos (by omega)]; simp [hsz,hne]; done)
   | (simp [Instr.sliceAt,run_underlying hu,Instr.sureAddr,hv,Instr.sliceBounds,Instr.sliceBound,asIntOf,hsz, *]; rw [if_pos (by omega)]; simp [hsz]; intro h0;omega)
   | (simp [Instr.sliceAt,run_underlying hu,Instr.sureAddr,hv,Instr.sliceBounds,Instr.sliceBound,asIntOf,hsz, *]; rw [if_pos (by omega)]; done)
   | (simp [Instr.sliceAt,run_underlying hu,Instr.sureAddr,hv,Instr.sliceBounds,Instr.sliceBound,asIntOf,hsz, *]; rw [if_pos (by omega)]; simp [hsz,hne]; done)
   | (simp [Instr.sliceAt,run_underlying hu,Instr.sureAddr,hv,Instr.sliceBounds,Instr.sliceBound,asIntOf,hsz, *]; rw [if_pos (by omega)]; simp [hsz]; intro h0;omega)
   | (simp [Instr.sliceAt,run_underlying hu,Instr.sureAddr,hv,Instr.sliceBounds,Instr.sliceBound,asIntOf,hsz, *]; rw [if_pos (by omega)]; done)
   | (simp [Instr.sliceAt,run_underlying hu,Instr.sureAddr,hv,Instr.sliceBounds,Instr.sliceBound,asIntOf,hsz, *]; rw [if_pos (by omega)]; rw [if_pos (by omega)]; simp [hsz,hne]; done)
   | (simp [Instr.sliceAt,run_underlying hu,Instr.sureAddr,hv,Instr.sliceBounds,Instr.sliceBound,asIntOf,hsz, *]; rw [if_pos (by omega)]; rw [if_pos (by omega)]; simp [hsz]; intro h0;omega)
   | (simp [Instr.sliceAt,run_underlying hu,Instr.sureAddr,hv,Instr.sliceBounds,Instr.sliceBound,asIntOf,hsz, *]; rw [if_pos (by omega)]; rw [if_pos (by omega)]; done)
   | (simp [Instr.sliceAt,run_underlying hu,Instr.sureAddr,hv,Instr.sliceBounds,Instr.sliceBound,asIntOf,hsz, *]; rw [if_pos (by omega)]; simp; rw [if_pos (by omega)]; simp [hsz,hne]; done)
   | (simp [Instr.sliceAt,run_underlying hu,Instr.sureAddr,hv,Instr.sliceBounds,Instr.sliceBound,asIntOf,hsz, *]; rw [if_pos (by omega)]; simp; rw [if_pos (by omega)]; simp [hsz]; intro h0;omega)
   | (simp [Instr.sliceAt,run_underlying hu,Instr.sureAddr,hv,Instr.sliceBounds,Instr.sliceBound,asIntOf,hsz, *]; rw [if_pos (by omega)]; simp; rw [if_pos (by omega)]; done)
 split at hd
 · rename_i l hx
   split at hd
   case h_2=>cases hd
   rename_i A B hA hB
   split at hd
   case isFalse=>cases hd
   rename_i hb;obtain⟨b0,b1,b2,b3,b4⟩:=hb;cases hd;obtain⟨ad,cs,hv,hs,hF,hR⟩:=(s.eval hx).cp_inv;refine OpRun.quiet s (run ad A B hv hA hB b0 b1 b2 b3) ?_;rw [ZQ _ _ hs];have hlen:(((l.take B.toNat).drop A.toNat).map fun c => [c]).length=B.toNat-A.toNat:=by rw [Y0f,List.length_drop,Y0o]; omega
   have hget:∀ i,i<B.toNat-A.toNat→(((l.take B.toNat).drop A.toNat).map fun c => [c]).getD i [] = [l.getD (A.toNat+i) pvu]:=fun i hi=>by
    simp only [Y0b,Y0y,List.getElem?_drop,List.getElem?_take];rw [if_pos (by omega),Y0c (show A.toNat+i<l.length by omega)]
    rfl
   have:=Rep.vec (F:=F) (φ:=φ) ⟨ad.block,ad.off+A.toNat,none⟩ (n-A.toNat) 1 (((l.take B.toNat).drop A.toNat).map fun c => [c]) false (fun i _=>cs (A.toNat+i)) (fun _=>rfl) (by rw [hlen];omega) (by simp) (by rw [hlen]; simp only [maxVec];omega)
    (fun i hi => by rw [hlen] at hi; rw [hget i hi]; rfl) (fun i j hi hj => by
      rw [hlen] at hi;obtain rfl:j=0:=by omega
      have:=hF (A.toNat+i) (by omega);simp only [Nat.mul_one,Nat.add_zero];rw [Nat.add_assoc]
      exact this) (fun i j hi hj=>by
      rw [hlen] at hi;obtain rfl:j=0:=by omega
      rw [hget i hi]
      exact hR (A.toNat+i) (by omega))
   rwa [hlen] at this
 · rename_i k i o hx
   split at hd
   case h_2=>cases hd
   rename_i A B hA hB
   split at hd
   case isFalse=>cases hd
   rename_i hb;obtain⟨b0,b1,b2,b3⟩:=hb;cases hd;obtain⟨loc,ad,hloc,hz,hbase,hs,hv⟩:=(s.eval hx).ptr_inv;refine OpRun.quiet s (run _ A B hv hA hB b0 b1 b2 b3) ?_;rw [ZQ _ _ rfl];have:=Rep.sl (F:=F) (φ:=φ) k i (o+A.toNat) (B.toNat-A.toNat) (n-A.toNat) loc ad hloc hz hbase hs (by omega);rw [show ad.off+(i*loc.esz+o)+A.toNat=ad.off+(i*loc.esz+(o+A.toNat)) by omega];exact this
 · cases hd
theorem ZfC (s:St' C Fr e h F φ a w) {id:Nat} {t el:TypeId} {inf:TypeInfo} (hu:P.underlying t=some (.slice el)) (hi:P.info? el=some inf)
 {x:Operand} {lo hi' mx:Option Operand} {p:PV} {h':Heap} (hd:fEval (.slc inf.size x lo hi' mx) e h id=some (p,h')):OpRun P C Fr e F φ a w (Instr.sliceAt t (a.eval x) (lo.map a.eval) (hi'.map a.eval) (mx.map a.eval)) id p h':=by
 have hel:P.elem t=el:=by simp [Program.elem,hu]
 have hu':P.underlying t=some (.slice (P.elem t)):=by rw [hel]; exact hu
 cases mx with
 | some m=>simp [fEval] at hd
 | none =>
   simp only [fEval] at hd
   split at hd
   case h_4=>cases hd
   case h_3 =>
    rename_i l hx
    split at hd
    case h_2=>cases hd
    rename_i A B hA hB
    split at hd
    case isFalse=>cases hd
    rename_i hc;obtain⟨rfl,rfl⟩:=hc;cases hd;rcases (s.eval hx).vec_inv with⟨rfl,hv⟩|⟨ad,cap,esz,cs,hv,hs,hcap,hfull,hmax,he,hF,hR⟩
    · have hrun : (Instr.sliceAt t (a.eval x) (lo.map a.eval) (hi'.map a.eval) (none : Option Value)).run P w = .ok (sliced none 0 0 0 inf.size) w := by
       rw [hv,run_sliceAt_slice w t _ _ _ _ hu',run_slice_any w t none 0 0 hu',Z1Q (len:=0) (cap:=0) (A:=0) (B:=0) s hA hB (by omega) (by omega) (by simp) (Y0m _)];simp [hel,Zg hi]
      exact OpRun.quiet s hrun (.vecnil true)
    · have hrun : (Instr.sliceAt t (a.eval x) (lo.map a.eval) (hi'.map a.eval) (none : Option Value)).run P w = .ok (sliced (some ad) 0 l.length cap inf.size) w := by
       rw [hv,run_sliceAt_slice w t _ _ _ _ hu',run_slice_any w t (some ad) l.length cap hu',Z1Q (A:=0) (B:=(l.length:Int)) s hA hB (by omega) (by omega) (by omega) hcap];simp [hel,Zg hi]
      refine OpRun.quiet s hrun ?_;have hsl:sliced (some ad) 0 l.length cap inf.size=.slice (some ad) l.length cap:=by
       unfold sliced;by_cases hc:cap=0
       · simp [hc]
       · simp [Ne.symm hc,Addr.add]
      rw [hsl,← hv];exact s.eval hx
   · rename_i k hx
     split at hd
     case h_2=>cases hd
     rename_i b hb
     split at hd
     case h_2=>cases hd
     rename_i A B hA hB
     split at hd
     case isFalse=>cases hd
     rename_i hbd;cases hd;obtain⟨loc,hloc,hz,hv⟩:=(s.eval hx).own_inv;obtain⟨loc',h1,h2,h3⟩:=s.live k b hb;obtain rfl:loc'=loc:=by rw [h1] at hloc; simpa using hloc
     have h2:=h2.cells hz;have hlen:=h2.len;have hcap:=h2.cap;have hesz:inf.size=loc'.esz:=by rw [← h2.esz]; exact hbd.2.symm
     have hrun:(Instr.sliceAt t (a.eval x) (lo.map a.eval) (hi'.map a.eval) (none:Option Value)).run P w=.ok (sliced loc'.base A.toNat B.toNat loc'.cap inf.size) w:=by
      rw [hv,run_sliceAt_slice w t _ _ _ _ hu',run_slice_any w t loc'.base loc'.len loc'.cap hu',Z1Q s (by exact hA) (by rw [← hlen]; exact hB) hbd.1.1 hbd.1.2.1 (by rw [← hlen]; exact hbd.1.2.2) h2.cap];simp [hel,Zg hi]
     refine OpRun.quiet s hrun ?_;unfold sliced;refine .view k A.toNat (B.toNat-A.toNat) loc' _ h1 hz (by omega) (fun hlt=>?_);rw [if_neg (by omega),hesz]
   · rename_i k o n hx
     split at hd
     case h_2=>cases hd
     rename_i b hb
     split at hd
     case h_2=>cases hd
     rename_i A B hA hB
     split at hd
     case isFalse=>cases hd
     rename_i hbd;cases hd;obtain⟨loc,base,hloc,hz,hvc,hbs,hv⟩:=(s.eval hx).view_inv;obtain⟨loc',h1,h2,h3⟩:=s.live k b hb;obtain rfl:loc'=loc:=by rw [h1] at hloc; simpa using hloc
     have h2:=h2.cells hz;have hlen:=h2.len;have hcap:=h2.cap;have hesz:inf.size=loc'.esz:=by rw [← h2.esz]; exact hbd.2.2.symm
     have hrun:(Instr.sliceAt t (a.eval x) (lo.map a.eval) (hi'.map a.eval) (none:Option Value)).run P w=.ok (sliced base A.toNat B.toNat (loc'.cap-o) inf.size) w:=by
      rw [hv,run_sliceAt_slice w t _ _ _ _ hu',run_slice_any w t base n (loc'.cap-o) hu',Z1Q s (by exact hA) (by exact hB) hbd.1.1 hbd.1.2.1 hbd.1.2.2 (by omega)];simp [hel,Zg hi]
     refine OpRun.quiet s hrun ?_;unfold sliced;rw [show loc'.cap-o-A.toNat=loc'.cap-(o+A.toNat) by omega];refine .view k (o+A.toNat) (B.toNat-A.toNat) loc' _ h1 hz (by omega) (fun hlt=>?_);rw [if_neg (by omega),hesz,hbs (by omega),Option.map_map];congr 1;funext y;simp [Addr.add_add,Nat.add_mul]
theorem Zhd (s:St' C Fr e h F φ a w) {id:Nat} {t ty el:TypeId} (hu:P.underlying t=some (.slice el))
 {x:Operand} {p:PV} {h':Heap} (hd:dEval (.cap x) e h id=some (p,h')):OpRun P C Fr e F φ a w (Builtin.cap_ #[t] ty #[a.eval x]) id p h':=by
 simp only [dEval] at hd
 split at hd
 · rename_i l hx;cases hd;rcases (s.eval hx).vec_inv with⟨rfl,hv⟩|⟨ad,cap,esz,cs,hv,hs,hcap,hfull,_⟩
   · exact OpRun.quiet s (val:=.int .i64 0) (by simp [Builtin.cap_,run_underlying hu,hv,goInt]) (.val _)
   · exact OpRun.quiet s (val:=.int .i64 l.length) (by simp [Builtin.cap_,run_underlying hu,hv,goInt,hfull rfl]) (.val _)
 · simp at hd
theorem ZfD (s:St' C Fr e h F φ a w) {id:Nat} (hid:Fr id) {sT xT ty el:TypeId} {kn:IntKind} {z:List Value} {i:TypeInfo} (hu:P.underlying sT=some (.slice el)) (hux:P.underlying xT=some (.int kn)) (hz:zeroOf P el=some z) (hi:P.info? el=some i) (hby:0<i.bytes)
 {x y:Operand} {p:PV} {h':Heap} (hd:dEval (.appz z i.bytes x y) e h id=some (p,h')):OpRun P C Fr e F φ a w (Builtin.append_ #[sT,xT] ty #[a.eval x,a.eval y]) id p h':=by
 simp only [dEval] at hd
 split at hd
 case h_2=>simp at hd
 rename_i m hx hm
 split at hd
 case isFalse=>simp at hd
 rename_i hb;cases hd;obtain⟨km,hvm⟩:=Z1P s hm;obtain⟨i',v,hi',hv,rfl,h1,hl,hp⟩:=ZK hz;obtain rfl:i'=i:=by rw [hi'] at hi; simpa using hi
 have hbase:∃ base,a.eval x=.slice base 0 0:=by
  rcases (s.eval hx).vec_inv with⟨_,h⟩|⟨ad,cap,esz',cs,h,_,_,hf,_⟩
  · exact⟨none,h⟩
  · exact⟨some ad,by rw [h,hf rfl]; rfl⟩
 obtain⟨base,hvx⟩:=hbase;obtain⟨k,rfl⟩:∃ k:Nat,m=(k:Int):=⟨m.toNat,by omega⟩
 have hk0:0<k:=by omega
 have hkb:k*i'.bytes≤140737488355328:=by
  have:=hb.2;rw [← Int.natCast_mul] at this;omega
 have hk48:k≤281474976710656:=by
  have h2:k*1≤k*i'.bytes:=Nat.mul_le_mul_left _ hby;omega
 have hsz0:v.cells.size=i'.size:=by rw [← hl]; simp
 have hfit:Builtin.nextslicecap (0+k) 0*i'.bytes≤281474976710656:=growslice_fits (bytes:=i'.bytes) (by omega) (by rw [Nat.zero_add]; exact hkb);have hold:(Builtin.firstCells i'.size 0 (.slice base 0 0)).run P w.drew=.ok (([]:List Value).toArray) w.drew:=by
  cases base<;>simp [Builtin.firstCells,loadCells,loadCellsFrom]
 have hr:=Lib.run_append_grow_zeros w sT xT ty el i' v km kn hu hux hi' hv base 0 0 [] hold k hk0 (by rw [← hl]; exact hp) (by omega) (by omega) (by omega) hfit;rw [Nat.zero_add] at hr;obtain⟨G,hG⟩:∃ G,G=grownCap w k 0 el:=⟨_,rfl⟩
 have hge:k≤G:=by rw [hG]; exact grownCap_ge w _ _ _
 rw [← hG] at hr;have hrow:(([]:List Value).toArray++Builtin.zeroCells v.cells k++Builtin.zeroCells v.cells (G-k)).size=G*i'.size:=by
  rw [Array.size_append,Array.size_append,size_zeroCells,size_zeroCells,hsz0,List.size_toArray,List.length_nil,Nat.zero_add,← Nat.add_mul];congr 1;omega
 have sd:St' C Fr e h F φ a w.drew:=s.drew;have hnc:=NCells.zero (F:=F) (φ:=φ) h1 k;have hmade:Builtin.zeroCells v.cells k=(Array.range (k*v.cells.toList.length)).map (v.cells.toList.toArray[· % v.cells.toList.length]!):=by
  rw [Array.toArray_toList,hl,← hsz0]
  rfl
 rw [← hmade] at hnc;rw [show (k:Int).toNat=k from rfl];refine⟨_,_,F,_,by rw [hvx,hvm]; exact hr,St'.made <| sd.alloc hid _ el v.cells.toList.length k G (List.replicate k (zpv v.cells.toList)) hp (by simp) hge (by simp [maxVec];omega) (fun c hc'=>?_) ?_ (fun j q hj hq=>?_),?_⟩
 · obtain rfl := List.eq_of_mem_replicate hc';simp [zpv]
 · rw [hrow,hl]; exact Y0m _
 · have := hnc.rep j q (by simpa using hj) hq;have hlt:j*v.cells.toList.length+q<(Builtin.zeroCells v.cells k).size:=by
    rw [hnc.size];have:=Z1u (n:=k) hj hq;simpa using this
   have e1:(([]:List Value).toArray++Builtin.zeroCells v.cells k++Builtin.zeroCells v.cells (G-k)).getD (j*v.cells.toList.length+q) undef=(Builtin.zeroCells v.cells k).getD (j*v.cells.toList.length+q) undef:=by
    simp only [Y0d];rw [Array.getElem?_append_left (by simpa using hlt)];simp
   rw [e1];exact this
 · exact .own id ⟨some ⟨w.heap.size,0,none⟩,v.cells.toList.length,k,G⟩ (by simp [locUpd]) hp
theorem ZdD (s:St' C Fr e h F φ a w) {id:Nat} {t ty el:TypeId} {z:List Value} (hu:P.underlying t=some (.slice el)) (hz:zeroOf P el=some z)
 {x:Operand} {p:PV} {h':Heap} (hd:dEval (.clear z x) e h id=some (p,h')):OpRun P C Fr e F φ a w (Builtin.clear_ #[t] ty #[a.eval x]) id p h':=by
 obtain⟨i,v,hi,hv0,rfl,hz1,hzl,hzp⟩:=ZK hz;simp only [dEval] at hd
 split at hd
 case h_2=>cases hd
 rename_i k lo n hx
 split at hd
 case h_2=>cases hd
 rename_i b hb
 split at hd
 case isFalse=>cases hd
 rename_i hcond;obtain⟨hle,hbesz⟩:=hcond;cases hd;obtain⟨loc,base,hloc,hz,hvc,hbs,hv⟩:=(s.eval hx).view_inv;obtain⟨loc',h1,h2,h3⟩:=s.live k b hb;obtain rfl:loc'=loc:=by rw [h1] at hloc; simpa using hloc
 have h2:=h2.cells hz;have hlen:=h2.len;have hcap:=h2.cap;have hesz:loc'.esz=v.cells.toList.length:=by rw [← h2.esz,hbesz]
 by_cases hn:n=0
 · subst hn;have hrun:(Builtin.clear_ #[t] ty #[a.eval x]).run P w=.ok (.tuple #[]) w:=by
    rw [hv];cases base<;>simp [Builtin.clear_,run_underlying hu]
   have hsame:h.upd k ⟨b.esz,b.elems.take lo++(List.replicate 0 (zpv v.cells.toList)++b.elems.drop (lo+0))⟩=h:=by
    funext j;by_cases hj:j=k
    · subst hj;rw [Heap.upd_same,hb];simp
    · rw [Heap.upd_ne _ _ hj]
   rw [hsame];exact⟨_,w,F,φ,hrun,s.weaken fun _ h=>h.1,.val _⟩
 · have hc0 : loc'.cap ≠ 0 := by omega
   obtain⟨ad,hbase,hs,cells,ct,hg,hroom2,hrep⟩:=h2.room hc0;have hhas:loc'.has ad.block:=⟨hc0,ad,hbase,rfl⟩
   have hbv:=hbs (by omega);rw [hbase,Option.map_some,ZQ _ _ hs] at hbv
   let news:List Value:=(Builtin.zeroCells v.cells n).toList
   have hzs:v.cells.size=loc'.esz:=by rw [hesz]; simp
   have hnl:news.length=n*loc'.esz:=by simp only [news,Array.length_toList,size_zeroCells,hzs]
   have hNC:NCells F φ v.cells.toList.length (Builtin.zeroCells v.cells n) (List.replicate n (zpv v.cells.toList)):=by
    have:=NCells.zero (F:=F) (φ:=φ) hz1 n;simpa [Builtin.zeroCells] using this
   let o:=ad.off+lo*loc'.esz
   have hfit:o+news.length≤cells.size:=by
    have e1:(lo+n)*loc'.esz≤loc'.cap*loc'.esz:=Nat.mul_le_mul_right _ (by omega);rw [Nat.add_mul] at e1;simp only [o,hnl];omega
   have h1n:∀ u∈news,u.oneCell'=true:=fun u hu'=>by
    obtain⟨j,hj,rfl⟩:=List.getElem_of_mem hu';have hj':j<n*loc'.esz:=by rw [← hnl]; exact hj
    have:=(hNC.rep (j / loc'.esz) (j % loc'.esz) (by simp; exact Nat.div_lt_of_lt_mul (by rw [Nat.mul_comm]; exact hj')) (by rw [← hesz]; exact Nat.mod_lt _ hz)).1;rw [← hesz,Nat.div_add_mod' j loc'.esz] at this;have hj2:j<(Builtin.zeroCells v.cells n).size:=by simpa [news] using hj
    simpa [news,Array.getD,hj2] using this
   have hst:=run_storeCells_at P ad.block o ct news 0 cells w hg (by simpa using hfit) h1n;simp only [Nat.add_zero] at hst;have hrun:(Builtin.clear_ #[t] ty #[a.eval x]).run P w=.ok (.tuple #[]) (w.setRow ad.block (cells.toList.take o++news++cells.toList.drop (o+news.length)).toArray):=by
    rw [hv,hbv];obtain⟨n',rfl⟩:∃ n',n=n'+1:=⟨n-1,by omega⟩
    simp only [Builtin.clear_,List.size_toArray,Y04,List.length_nil,Nat.zero_add,Nat.lt_add_one,getElem?_pos,List.getElem_toArray,List.getElem_cons_zero,Sem.run_bind,run_underlying hu,Result.andThen_ok,ZP hi hv0];simp only [o,news] at hst;rw [hst]
    rfl
   have hlenN:(b.elems.take lo++(List.replicate n (zpv v.cells.toList)++b.elems.drop (lo+n))).length=loc'.len:=by simp; omega
   have hkey:h.upd k ⟨b.esz,b.elems.take lo++(List.replicate n (zpv v.cells.toList)++b.elems.drop (lo+n))⟩=(h.del k).upd k ⟨b.esz,b.elems.take lo++(List.replicate n (zpv v.cells.toList)++b.elems.drop (lo+n))⟩:=(Heap.del_upd h k _).symm
   have hs2:=(s.sub (fun _ _ h=>h) (fun _ _ hh=>(Heap.del_some hh).2):St' C Fr e (h.del k) F φ a w).adopt (loc':=loc') (b':=⟨b.esz,b.elems.take lo++(List.replicate n (zpv v.cells.toList)++b.elems.drop (lo+n))⟩) (φ':=φ) (cur':=(cells.toList.take o++news++cells.toList.drop (o+news.length)).toArray) hg (h3 _ hhas).1 (h3 _ hhas).2 (s.del_no hb h1 hhas) h1 (fun _ _ h=>h) (fun _ _=>rfl) s.free (fun k' hk'=>by
    obtain⟨_,y',hy',rfl⟩:=hk';rw [hbase] at hy';cases hy'
    rfl) (by
    refine⟨h2.esz,h2.pos,hlenN,h2.cap,h2.max,fun c hc=>?_,fun _=>⟨ad,hbase,hs,_,ct,setRow_heap w _ cells _ ct _ hg,?_,fun i j hi hj=>?_⟩⟩
    · rcases Y0h.1 hc with h | h
      · exact h2.el c (List.mem_of_mem_take h)
      · rcases Y0h.1 h with h | h
        · rw [List.eq_of_mem_replicate h,hesz]; simp [zpv]
        · exact h2.el c (List.mem_of_mem_drop h)
    · simp only [List.size_toArray,Y0e,Y0o,List.length_drop,Array.length_toList]; omega
    · rw [Z2p _ _ _ hfit];by_cases hin:lo≤i∧i<lo+n
      · have e1 : (i - lo) * loc'.esz + j < n * loc'.esz := Z1u (by omega) hj;have e2:i*loc'.esz=lo*loc'.esz+(i-lo)*loc'.esz:=by rw [← Nat.add_mul]; congr 1; omega
        rw [if_pos (by simp only [o,hnl];omega)];have e3:(b.elems.take lo++(List.replicate n (zpv v.cells.toList)++b.elems.drop (lo+n))).getD i []=(List.replicate n (zpv v.cells.toList)).getD (i-lo) []:=by
         simp only [Y0b];rw [List.getElem?_append_right (by rw [Y0o];omega),Y0o,Nat.min_eq_left (by omega),List.getElem?_append_left (by simp;omega)]
        have e4:ad.off+(i*loc'.esz+j)-o=(i-lo)*loc'.esz+j:=by simp only [o]; omega
        rw [e3,e4];have:=hNC.rep (i-lo) j (by simp;omega) (by rw [← hesz]; exact hj);rw [← hesz] at this;have e5:news.getD ((i-lo)*loc'.esz+j) undef=(Builtin.zeroCells v.cells n).getD ((i-lo)*loc'.esz+j) undef:=by simp [news,Y0b,Y0d]
        rw [e5];exact this
      · rw [if_neg (by
         simp only [o,hnl];rintro⟨g1,g2⟩;apply hin;have g3:lo*loc'.esz≤i*loc'.esz+j:=by omega
         have g4:i*loc'.esz+j<(lo+n)*loc'.esz:=by rw [Nat.add_mul]; omega
         constructor
         · rcases Nat.lt_or_ge i lo with h | h
           · have := Nat.mul_le_mul_right loc'.esz (show i + 1 ≤ lo by omega);rw [Nat.add_mul] at this;omega
           · exact h
         · rcases Nat.lt_or_ge i (lo + n) with h | h
           · exact h
           · have := Nat.mul_le_mul_right loc'.esz h
             omega)]
        have e3:(b.elems.take lo++(List.replicate n (zpv v.cells.toList)++b.elems.drop (lo+n))).getD i []=b.elems.getD i []:=by
         simp only [Y0b];rcases Nat.lt_or_ge i lo with h|h
         · rw [List.getElem?_append_left (by rw [Y0o];omega),List.getElem?_take,if_pos h]
         · rw [List.getElem?_append_right (by rw [Y0o]; omega), Y0o, Nat.min_eq_left (by omega), List.getElem?_append_right (by simp; omega), List.length_replicate, List.getElem?_drop];congr 2;omega
        rw [e3]
        exact hrep i j hi hj)
   rw [hkey];exact⟨_,_,F,φ,hrun,hs2.weaken fun _ h=>h.1,.val _⟩
end
section
variable {P:Program} {C:Ctx} {Fr:Nat→Prop} {e:Env} {h:Heap} {F:Froz} {φ:Locs} {a:Act} {w:World}
def OpDone (P:Program) (C:Ctx) (Fr:Nat→Prop) (e:Env) (a:Act) (w:World) (s:Sem Next) (id:Nat) (v:PV) (h':Heap):Prop :=
 ∃ r val w' F' φ',s.run P w=.ok r w'∧(r=.value val ∨ (r=.skip∧val=undef))∧St' C (fun i=>Fr i∧(h' id≠none→i≠id)) e h' F' φ' a w'∧Rep F' φ' val v
theorem OpRun.done {m:Sem Value} {id:Nat} {v:PV} {h':Heap} (hr:OpRun P C Fr e F φ a w m id v h'):OpDone P C Fr e a w (do pure (.value (← m))) id v h':=by
 obtain⟨val,w',F',φ',h1,h2,h3⟩:=hr;exact⟨_,val,w',F',φ',by simp [h1],.inl rfl,h2,h3⟩
theorem OpRun.done' {m:Sem Value} {id:Nat} {v:PV} {h':Heap} (hr:OpRun P C Fr e F φ a w m id v h') {q:Sem Next} (hq:q=(do pure (.value (← m)))):OpDone P C Fr e a w q id v h':=by subst hq; exact hr.done
theorem OpDone.quiet (s:St' C Fr e h F φ a w) {m:Sem Next} {val:Value} {v:PV} {id:Nat} (hr:m.run P w=.ok (.value val) w) (hv:Rep F φ val v):OpDone P C Fr e a w m id v h :=
 ⟨_,val,w,F,φ,hr,.inl rfl,s.weaken fun _ h=>h.1,hv⟩
theorem Z9K (fs:Array Field) (hall:∀ f∈fs.toList,∃ inf,P.info? f.type=some inf) :
 (fs.mapM (m:=Sem) fun f=>do pure (f.offset,← sizeOf f.type)).run P w=.ok ((fs.toList.map fun f=>(f.offset,P.cellsOf f.type)).toArray) w:=by
 rw [Array.mapM_eq_mapM_toList];have:∀ (l:List Field),(∀ f∈l,∃ inf,P.info? f.type=some inf)→(l.mapM (m:=Sem) fun f=>do pure (f.offset,← sizeOf f.type)).run P w=.ok (l.map fun f=>(f.offset,P.cellsOf f.type)) w:=by
  intro l
  induction l with
  | nil=>intro _; rfl
  | cons f r ih =>
    intro hl;obtain⟨inf,hi⟩:=hl f (by simp);have ih':=ih fun g hg=>hl g (by simp [hg]);simp only [List.mapM_cons,Sem.run_bind,Zg hi,Result.andThen_ok,Sem.run_pure,ih',List.map_cons,Program.cellsOf,hi,Option.map_some,Option.getD_some]
 simp only [Sem.run_map,this _ hall,Result.andThen_ok]
theorem ZdE (s:St' C Fr e h F φ a w) {id:Nat} {t:TypeId} {z:List Value} {fs:Array Field} {parts:Array (Nat×Operand)} {qs:List (Nat×Nat×Operand)} (hz:zeroOf P t=some z) (hu:P.underlying t=some (.struct fs)) (hall:∀ f∈fs.toList,∃ inf,P.info? f.type=some inf)
 (hq:partsOf P fs parts.toList=some qs) {p:PV} {h':Heap} (hd:dEval (.build z qs) e h id=some (p,h')):OpRun P C Fr e F φ a w (Instr.build t (parts.map fun (i,x)=>(i,a.eval x))) id p h':=by
 obtain⟨i,v,hi,hv,rfl,h1,hl,hp⟩:=ZK hz;simp only [dEval] at hd
 split at hd
 case h_2=>simp at hd
 rename_i l hl;cases hd
 obtain⟨vs',hfill,hc⟩:=Zc6 s (fs:=fs) (places:=(fs.toList.map fun f=>(f.offset,P.cellsOf f.type)).toArray) (fun i f inf hf hi=>by
  simp [hf,Program.cellsOf,hi]) parts.toList qs _ _ _ hq (Cells.zero h1) hl
 refine OpRun.quiet s (val:=.agg vs') ?_ hc.rep;simp only [Instr.build,Sem.run_bind,ZP hi hv,Result.andThen_ok,run_underlying hu,Z9K fs hall,Array.toList_map,hfill,Sem.run_pure]
theorem Zch (s:St' C Fr e h F φ a w) {id:Nat} {t el:TypeId} {n:Nat} {z:List Value} {inf:TypeInfo} {parts:Array (Nat×Operand)} (hz:zeroOf P t=some z) (hu:P.underlying t=some (.array n el)) (hinf:P.info? el=some inf)
 {p:PV} {h':Heap} (hd:dEval (.build z (parts.toList.map fun (k,x)=>(k*inf.size,inf.size,x))) e h id=some (p,h')):OpRun P C Fr e F φ a w (Instr.build t (parts.map fun (i,x)=>(i,a.eval x))) id p h':=by
 obtain⟨i,v,hi,hv,rfl,h1,hl,hp⟩:=ZK hz;simp only [dEval] at hd
 split at hd
 case h_2=>simp at hd
 rename_i l hl;cases hd;obtain⟨vs',hfill,hc⟩:=Zdq s inf.size parts.toList _ _ _ (Cells.zero h1) hl;refine OpRun.quiet s (val:=.agg vs') ?_ hc.rep;simp only [Instr.build,Sem.run_bind,ZP hi hv,Result.andThen_ok,run_underlying hu,Zg hinf,Array.toList_map,hfill,Sem.run_pure]
theorem list1 {α:Type} {x:α} {l:Array α} (h:l.toList = [x]):l = #[x]:=by
 apply Array.ext'; simpa using h
theorem list2 {α:Type} {x y:α} {l:Array α} (h:l.toList = [x,y]):l = #[x,y]:=by
 apply Array.ext'; simpa using h
theorem Zbe (s:St' C Fr e h F φ a w) {id:Nat} {t t' ty el:TypeId} {n:Nat} (hu:P.underlying t=some (.array n el) ∨ (P.underlying t=some (.pointer t')∧P.underlying t'=some (.array n el))) (x:Operand) :
 OpRun P C Fr e F φ a w (Builtin.len_ #[t] ty #[a.eval x]) id (.val (.int .i64 n)) h:=by
 rcases hu with hu|⟨hu,hu'⟩
 · exact OpRun.quiet s (val:=.int .i64 n) (by simp [Builtin.len_,run_underlying hu,goInt]) (.val _)
 · exact OpRun.quiet s (val:=.int .i64 n) (by simp [Builtin.len_,run_underlying hu,run_underlying hu',goInt]) (.val _)
theorem Z7H {o:Oper} {op:AOp} (hc:cOp P o=some op) (s:St' C Fr e h F φ a w) {id:Nat} (hid:Fr id) {p:PV} {h':Heap} (hd:dEval op e h id=some (p,h') ∨ fEval op e h id=some (p,h')) :
 OpDone P C Fr e a w (execOp a.eval o) id p h':=by
 unfold cOp at hc
 split at hc
 case h_1 x ho => -- move
  cases hc;rcases hd with hd|hd
  · simp only [dEval] at hd
    split at hd
    · rename_i q hq;cases hd;exact OpDone.quiet s (by simp [execOp,ho]) (s.eval hq)
    · simp at hd
  · simp [fEval] at hd
 case h_2 x ho => -- assign
  cases hc;rcases hd with hd|hd
  · simp only [dEval] at hd
    split at hd
    · rename_i q hq;cases hd;exact OpDone.quiet s (by simp [execOp,ho]) (s.eval hq)
    · simp at hd
  · simp [fEval] at hd
 case h_3 c x y ho => -- pick
  cases hc;rcases hd with hd|hd
  · simp only [dEval] at hd
    split at hd
    · rename_i hcv
      split at hd
      · rename_i q hq;cases hd;have hv:=(s.eval hcv).val_inv;exact OpDone.quiet s (val:=a.eval x) (by simp [execOp,ho,hv,asBool]) (s.eval hq)
      · simp at hd
    · rename_i hcv
      split at hd
      · rename_i q hq;cases hd;have hv:=(s.eval hcv).val_inv;exact OpDone.quiet s (val:=a.eval y) (by simp [execOp,ho,hv,asBool]) (s.eval hq)
      · simp at hd
    · simp at hd
  · simp [fEval] at hd
 case h_4 bop t x y yt ho => -- binOp
  have key:∀ (d:TypeDesc) (c:BC),P.underlying t=some d→bcOf d=some c→op=.bin bop c x y→OpDone P C Fr e a w (execOp a.eval o) id p h':=by
   intro d c hu hb hop;subst hop;rcases hd with hd|hd
   · simp only [dEval] at hd
     split at hd
     · rename_i q r hq hr
       split at hd
       · rename_i v hv;cases hd;obtain⟨val,hrun,hrep⟩:=Zfq (x:=x) (y:=y) (w:=w) hu hb (s.eval hq) (s.eval hr) hv;have hex:execOp a.eval o=(do pure (.value (← (do eqGuard bop t x y (a.eval x) (a.eval y); binOp bop t (a.eval x) (a.eval y):Sem Value)))):=by simp only [execOp,ho]
         exact OpDone.quiet s (val:=val) (by rw [hex,Sem.run_bind,hrun]; rfl) hrep
       · simp at hd
     · simp at hd
   · simp [fEval] at hd
  have cells:∀ ks,flatT P t=some ks→op=.bin bop (.cells ks) x y→OpDone P C Fr e a w (execOp a.eval o) id p h':=by
   intro ks ht hop;subst hop;rcases hd with hd|hd
   · simp only [dEval] at hd
     split at hd
     · rename_i q r hq hr
       split at hd
       · rename_i v hv;cases hd;obtain⟨val,hrun,hrep⟩:=Z6N (x:=x) (y:=y) (w:=w) ht (s.eval hq) (s.eval hr) hv;have hex:execOp a.eval o=(do pure (.value (← (do eqGuard bop t x y (a.eval x) (a.eval y); binOp bop t (a.eval x) (a.eval y):Sem Value)))):=by simp only [execOp,ho]
         exact OpDone.quiet s (val:=val) (by rw [hex,Sem.run_bind,hrun]; rfl) hrep
       · simp at hd
     · simp at hd
   · simp [fEval] at hd
  split at hc
  · rename_i k hu; cases hc; exact key _ _ hu rfl rfl
  · rename_i hu; cases hc; exact key _ _ hu rfl rfl
  · rename_i hu; cases hc; exact key _ _ hu rfl rfl
  · rename_i el hu; cases hc; exact key _ _ hu rfl rfl
  · rename_i fs hu
    split at hc
    case h_2=>cases hc
    rename_i ks ht
    split at hc
    · cases hc; exact cells ks ht rfl
    · cases hc; exact cells ks ht rfl
    · cases hc
  · rename_i n el hu
    split at hc
    case h_2=>cases hc
    rename_i ks ht
    split at hc
    · cases hc; exact cells ks ht rfl
    · cases hc; exact cells ks ht rfl
    · cases hc
  · rename_i el hu
    split at hc
    case isFalse=>cases hc
    rename_i hnil;have hy:y=.const (.slice none 0 0):=by
     unfold nilC at hnil
     split at hnil
     · rfl
     · cases hnil
    subst hy;have nils:∀ neg,dEval (.isnil neg x) e h id=some (p,h')→(∀ (b:Option Addr) (n c:Nat),(binOp bop t (.slice b n c) (.slice none 0 0)).run P w=.ok (.bool (b.isNone != neg)) w)→OpDone P C Fr e a w (execOp a.eval o) id p h':=by
     intro neg hd' hb;simp only [dEval] at hd'
     split at hd'
     case h_2=>cases hd'
     rename_i c0 r0 fl hx;cases hd';have hex:execOp a.eval o=(do pure (.value (← (do eqGuard bop t x (.const (.slice none 0 0)) (a.eval x) (.slice none 0 0); binOp bop t (a.eval x) (.slice none 0 0):Sem Value)))):=by simp only [execOp,ho]; rfl
     rcases (s.eval hx).vec_inv with⟨h0,_⟩|⟨ad,cap,esz,cs,hv,_⟩
     · cases h0
     · refine OpDone.quiet s (val := .bool neg) ?_ (.val _);have:=hb (some ad) (c0 :: r0).length cap;rw [hex,hv,Sem.run_bind];have hg:(eqGuard bop t x (.const (.slice none 0 0)) (.slice (some ad) (c0 :: r0).length cap) (.slice none 0 0)).run P w=.ok () w:=by
        cases bop<;>simp [eqGuard]
       simp only [Sem.run_bind,hg,Result.andThen_ok,this];simp
    split at hc
    · cases hc;rcases hd with hd|hd
      · exact nils false hd fun b n c=>by rw [ZdB hu]; simp
      · simp [fEval] at hd
    · cases hc;rcases hd with hd|hd
      · exact nils true hd fun b n c=>by rw [ZdC hu]; simp
      · simp [fEval] at hd
    · cases hc
  · rename_i kt el hu
    split at hc
    case isFalse=>cases hc
    rename_i hnil;have hy:y=.const (.map none):=by
     unfold nilM at hnil
     split at hnil
     · rfl
     · cases hnil
    subst hy;have nils:∀ neg,dEval (.isnilM neg x) e h id=some (p,h')→(∀ b:Option Nat,(binOp bop t (.map b) (.map none)).run P w=.ok (.bool (b.isNone != neg)) w)→OpDone P C Fr e a w (execOp a.eval o) id p h':=by
     intro neg hd' hb;simp only [dEval] at hd';have hex:execOp a.eval o=(do pure (.value (← (do eqGuard bop t x (.const (.map none)) (a.eval x) (.map none); binOp bop t (a.eval x) (.map none):Sem Value)))):=by simp only [execOp,ho]; rfl
     have fin:∀ b:Option Nat,a.eval x=.map b→p=.val (.bool (b.isNone != neg))→h'=h→OpDone P C Fr e a w (execOp a.eval o) id p h':=by
      rintro b hv rfl rfl;refine OpDone.quiet s (val:=.bool (b.isNone != neg)) ?_ (.val _);have:=hb b;rw [hex,hv,Sem.run_bind];have hg:(eqGuard bop t x (.const (.map none)) (.map b) (.map none)).run P w=.ok () w:=by
       cases bop<;>simp [eqGuard]
      simp only [Sem.run_bind,hg,Result.andThen_ok,this];simp
     split at hd'
     · rename_i id0 hx;cases hd';obtain⟨loc,ad,_,_,_,hv⟩:=(s.eval hx).mp_inv;exact fin (some ad.block) hv (by cases neg<;>rfl) rfl
     · rename_i hx;cases hd';have hv:a.eval x=.map none:=(s.eval hx).val_inv;exact fin none hv (by cases neg<;>rfl) rfl
     · cases hd'
    split at hc
    · cases hc;rcases hd with hd|hd
      · exact nils false hd fun b=>by rw [Zfy hu]; simp
      · simp [fEval] at hd
    · cases hc;rcases hd with hd|hd
      · exact nils true hd fun b=>by rw [Zfz hu]; simp
      · simp [fEval] at hd
    · cases hc
  · simp at hc
 case h_5 uop t x ho => -- unOp
  cases hc;rcases hd with hd|hd
  · simp only [dEval] at hd
    split at hd
    · rename_i q hq
      split at hd
      · rename_i v hv;cases hd;obtain⟨val,hrun,hrep⟩:=Zba (P:=P) (w:=w) (s.eval hq) hv;exact OpDone.quiet s (by simp [execOp,ho,hrun]) hrep
      · simp at hd
    · simp at hd
  · simp [fEval] at hd
 case h_6 src dst x ho => -- convert
  split at hc
  · rename_i k k' hu hu';cases hc;rcases hd with hd|hd
    · simp only [dEval] at hd
      split at hd
      · rename_i k2 n hx;cases hd;have hv:=(s.eval hx).val_inv;exact OpDone.quiet s (val:=.int k' (k'.wrap n)) (by simp [execOp,ho,hv,convert,run_underlying hu,run_underlying hu',Conv.intToInt]) (.val _)
      · simp at hd
    · simp [fEval] at hd
  · rename_i el hu hu'
    split at hc
    case h_2=>cases hc
    rename_i hel;cases hc;rcases hd with hd|hd
    · exact (Zhc s hu hel hu' hd).done' (by simp [execOp,ho])
    · simp [fEval] at hd
  · rename_i el hu hu'
    split at hc
    case h_2=>cases hc
    rename_i hel;cases hc;rcases hd with hd|hd
    · exact (Zhb s hu hu' hel hd).done' (by simp [execOp,ho])
    · simp [fEval] at hd
  · simp at hc
 case h_7 t ho => -- alloc
  cases hz:zeroOf P t with
  | none=>simp [hz] at hc
  | some z =>
    obtain rfl:AOp.alloc z=op:=by simpa [hz] using hc
    have hex:execOp a.eval o=(do pure (.value (← Instr.alloc t true (.tuple #[])))):=by simp [execOp,ho]
    rw [hex];rcases hd with hd|hd
    · simp only [dEval] at hd; cases hd;exact (Zdp s hid hz _).done
    · simp only [fEval] at hd; cases hd;exact (Zca s id hz _).done
 case h_8 t x ho => -- box
  cases hc;have hex:execOp a.eval o=(do pure (.value (← Instr.box t (a.eval x)))):=by simp [execOp,ho]
  rw [hex];rcases hd with hd|hd
  · simp only [dEval] at hd
    split at hd
    · rename_i q hq
      split at hd
      · rename_i hcond;simp only [Y0k,Y0n] at hcond;cases hd;exact (Zh8 s hid (s.eval hq) hcond.1 hcond.2).done
      · simp at hd
    · simp at hd
  · simp only [fEval] at hd
    split at hd
    · rename_i q hq
      split at hd
      · rename_i hcond;simp only [Y0k,Y0n] at hcond;cases hd;exact (Zft s id (s.eval hq) hcond.1).done
      · simp at hd
    · simp at hd
 case h_9 t parts ho => -- build
  have hex:execOp a.eval o=(do pure (.value (← Instr.build t (parts.map fun (i,x)=>(i,a.eval x))))):=by simp [execOp,ho]
  rw [hex]
  split at hc
  · rename_i z fs hz hu
    split at hc
    case isFalse=>simp at hc
    rename_i hall;cases hq:partsOf P fs parts.toList with
    | none=>simp [hq] at hc
    | some qs =>
      obtain rfl:AOp.build z qs=op:=by simpa [hq] using hc
      rcases hd with hd|hd
      · refine (ZdE s hz hu (fun f hf => ?_) hq hd).done;have:=List.all_eq_true.1 hall f hf;exact Option.isSome_iff_exists.1 this
      · simp [fEval] at hd
  · rename_i z n el hz hu
    split at hc
    · rename_i inf hinf;cases hc;rcases hd with hd|hd
      · exact (Zch s hz hu hinf hd).done
      · simp [fEval] at hd
    · simp at hc
  · simp at hc
 case h_10 t n parts ho => -- buildSlice
  have hex:execOp a.eval o=(do pure (.value (← Instr.buildSlice t n (parts.map fun (i,x)=>(i,a.eval x))))):=by simp [execOp,ho]
  rw [hex]
  split at hc
  · rename_i el hu
    split at hc
    · rename_i z hz
      split at hc
      case isFalse=>simp at hc
      rename_i hle;cases hc;rcases hd with hd|hd
      · simp only [dEval] at hd
        split at hd
        · rename_i l hl;cases hd;exact (Z9C s hid hu hz hle hl).done
        · simp at hd
      · simp only [fEval] at hd
        split at hd
        · rename_i l hl;cases hd;exact (Z9D s hid hu hz hle hl).done
        · simp at hd
    · simp at hc
  · simp at hc
 case h_11 t x ho => -- load
  have hex:execOp a.eval o=(do pure (.value (← Instr.loadAt t (a.eval x)))):=by simp [execOp,ho]
  rw [hex];cases hl:layOf P t with
  | none=>simp [hl] at hc
  | some l =>
    obtain rfl:AOp.load l.1 l.2 x=op:=by simpa [hl] using hc
    rcases hd with hd|hd
    · exact (Zfr s hl hd).done
    · simp [fEval] at hd
 case h_12 t x y ho => -- store
  have hex:execOp a.eval o=(do Instr.storeAt t (a.eval x) (a.eval y); pure .skip):=by simp [execOp,ho]
  rw [hex];cases hl:layOf P t with
  | none=>simp [hl] at hc
  | some l =>
    obtain rfl:AOp.store l.2 x y=op:=by simpa [hl] using hc
    rcases hd with hd|hd
    · obtain ⟨rfl, w', hr, s'⟩ := Zdw s hl hd;exact⟨.skip,undef,w',F,φ,by simp [hr],.inr ⟨rfl,rfl⟩,s'.weaken fun _ h=>h.1,.val _⟩
    · simp [fEval] at hd
 case h_13 x ho => -- nilCheck
  cases hc;rcases hd with hd|hd
  · obtain ⟨rfl, hr, hv⟩ := Zdt s hd;rcases hv with⟨ad,hv⟩|⟨f,vs,hv⟩
    · exact OpDone.quiet s (val:=a.eval x) (by simp [execOp,ho,hv]) hr
    · exact OpDone.quiet s (val:=a.eval x) (by simp [execOp,ho,hv]) hr
  · simp [fEval] at hd
 case h_14 t x i ho => -- fieldAddr
  have hex:execOp a.eval o=(do pure (.value (← Instr.fieldAt t (a.eval x) i))):=by simp [execOp,ho]
  rw [hex]
  split at hc
  case h_2=>simp at hc
  rename_i fs hu
  split at hc
  case h_2=>simp at hc
  rename_i f hf
  split at hc
  case h_2=>simp at hc
  rename_i inf hi
  split at hc
  case isFalse=>simp at hc
  rename_i hp;cases hc;rcases hd with hd|hd
  · exact (Zds s hu hf hi hp hd).done
  · simp [fEval] at hd
 case h_15 t x i ho => -- field
  have hex:execOp a.eval o=(do pure (.value (← Instr.field t (a.eval x) i))):=by simp [execOp,ho]
  rw [hex]
  split at hc
  case h_2=>simp at hc
  rename_i fs hu
  split at hc
  case h_2=>simp at hc
  rename_i f hf;cases hl:layOf P f.type with
  | none=>simp [hl] at hc
  | some l =>
    obtain rfl:AOp.field l.1 l.2 f.offset x=op:=by simpa [hl] using hc
    rcases hd with hd|hd
    · exact (Zdu s hu hf hl hd).done
    · simp [fEval] at hd
 case h_16 t x i ho => -- indexAddr
  have hex:execOp a.eval o=(do pure (.value (← Instr.indexAt t (a.eval x) (a.eval i)))):=by simp [execOp,ho]
  rw [hex]
  split at hc
  · rename_i el hu;cases hi:P.info? el with
    | none=>simp [hi] at hc
    | some inf =>
      obtain rfl:AOp.iaddr inf.size x i=op:=by simpa [hi] using hc
      rcases hd with hd|hd
      · exact (Zdv s hu hi hd).done
      · simp [fEval] at hd
  · rename_i n el hu;cases hi:P.info? el with
    | none=>simp [hi] at hc
    | some inf =>
      obtain rfl:AOp.iaddrA n inf.size x i=op:=by simpa [hi] using hc
      rcases hd with hd|hd
      · exact (Zc7 s hu hi hd).done
      · simp [fEval] at hd
  · simp at hc
 case h_17 t x i ho => -- index
  have hex:execOp a.eval o=(do pure (.value (← Instr.index t (a.eval x) (a.eval i)))):=by simp [execOp,ho]
  rw [hex]
  split at hc
  · rename_i n el hu;cases hl:layOf P el with
    | none=>simp [hl] at hc
    | some l =>
      obtain rfl:AOp.indexA l.1 n l.2 x i=op:=by simpa [hl] using hc
      rcases hd with hd|hd
      · exact (Zc8 s hu hl hd).done
      · simp [fEval] at hd
  · rename_i hu;cases hc;rcases hd with hd|hd
    · exact (Zc9 s hu hd).done
    · simp [fEval] at hd
  · simp at hc
 case h_18 t x y ho => -- makeSlice
  have hex:execOp a.eval o=(do pure (.value (← Instr.makeSlice t (a.eval x) (a.eval y)))):=by simp [execOp,ho]
  rw [hex]
  split at hc
  case h_2=>simp at hc
  rename_i el hu
  split at hc
  case h_2=>simp at hc
  rename_i z i hz hi
  split at hc
  case isFalse=>simp at hc
  rename_i hby;cases hc;rcases hd with hd|hd
  · exact (Zcb s hid hu hz hi hby hd).done
  · exact (Z9E s hid hu hz hi hby hd).done
 case h_19 t x lo hi mx ho => -- slice
  have hex:execOp a.eval o=(do pure (.value (← Instr.sliceAt t (a.eval x) (lo.map a.eval) (hi.map a.eval) (mx.map a.eval)))):=by simp [execOp,ho]
  rw [hex]
  split at hc
  · rename_i el hu;cases hi':P.info? el with
    | none=>simp [hi'] at hc
    | some inf =>
      obtain rfl:AOp.slc inf.size x lo hi mx=op:=by simpa [hi'] using hc
      rcases hd with hd|hd
      · exact (Zha s hid hu hi' hd).done
      · exact (ZfC s hu hi' hd).done
  · rename_i hu
    split at hc
    case isFalse=>cases hc
    rename_i hmx;cases mx with
    | some m=>simp at hmx
    | none =>
      cases hc;rcases hd with hd|hd
      · exact (ZfA s hu hd).done
      · simp [fEval] at hd
  · rename_i n el hu
    split at hc
    case h_2=>cases hc
    rename_i inf hi'
    split at hc
    case isFalse=>cases hc
    rename_i hcd;obtain⟨hmx,h1,hn⟩:=hcd;cases mx with
    | some m=>simp at hmx
    | none =>
      cases hc;rcases hd with hd|hd
      · exact (ZfB s hu hi' h1 hn hd).done
      · simp [fEval] at hd
  · cases hc
 case h_20 t ho => -- makeMap
  have hex:execOp a.eval o=(do pure (.value (← Instr.makeMap t none))):=by simp [execOp,ho]
  rw [hex]
  split at hc
  · cases hc;rcases hd with hd|hd
    · simp only [dEval] at hd;cases hd;exact (ZdA s hid).done
    · simp [fEval] at hd
  · cases hc
 case h_21 t x i ok ho => -- lookup
  have hex:execOp a.eval o=(do pure (.value (← Instr.lookup t (a.eval x) (a.eval i) ok))):=by simp [execOp,ho]
  rw [hex]
  split at hc
  case h_2=>cases hc
  rename_i k el hu
  split at hc
  case h_2=>cases hc
  rename_i c z hk hz;cases hc;rcases hd with hd|hd
  · exact (Zcg s hu hk hz hd).done
  · exact (Z7G s hu hk hz hd).done
 case h_22 t x i v ho => -- mapUpdate
  have hex:execOp a.eval o=(do Instr.mapUpdate t (a.eval x) (a.eval i) (a.eval v); pure .skip):=by simp [execOp,ho]
  rw [hex]
  split at hc
  case h_2=>cases hc
  rename_i k el hu
  split at hc
  case h_2=>cases hc
  rename_i c hk;cases hc;rcases hd with hd|hd
  · obtain ⟨rfl, w', hr, s'⟩ := Z71 s hu hk hd;exact⟨.skip,undef,w',F,φ,by simp [hr],.inr ⟨rfl,rfl⟩,s'.weaken fun _ h=>h.1,.val _⟩
  · simp [fEval] at hd
 case h_23 f first caps ho => -- makeFunc
  split at hc
  case isFalse=>simp at hc
  rename_i hfirst;cases hc;have hf0:first = #[]:=by simpa using hfirst
  subst hf0;have hex:execOp a.eval o=(do pure (.value (← Instr.makeFunc (.func f) (#[].map a.eval) (caps.map a.eval)))):=by simp [execOp,ho]
  rw [hex];rcases hd with hd|hd
  · exact (Zfv s hd).done
  · simp [fEval] at hd
 case h_24 x i ho => -- extract
  cases hc;have hex:execOp a.eval o=(do pure (.value (← Instr.extract (a.eval x) i))):=by simp [execOp,ho]
  rw [hex];rcases hd with hd|hd
  · exact (Z9H s hd).done
  · simp [fEval] at hd
 case h_25 c ho => -- call
  split at hc
  · cases hc;rcases hd with hd|hd
    · simp [dEval] at hd
    · simp [fEval] at hd
  · rename_i hcal -- len
    split at hc
    case h_2=>simp at hc
    rename_i t x ht hx;have ha:c.args = #[x]:=list1 hx;have hat:c.argTypes = #[t]:=list1 ht;have hex:execOp a.eval o=(do pure (.value (← Builtin.len_ #[t] o.type #[a.eval x]))):=by simp [execOp,ho,resolve,hcal,invoke,builtin,ha,hat]
    rw [hex]
    split at hc
    · rename_i el hu;cases hc;rcases hd with hd|hd
      · exact (Zh9 s hu hd).done
      · simp [fEval] at hd
    · rename_i hu;cases hc;rcases hd with hd|hd
      · exact (Zfs s hu hd).done
      · simp [fEval] at hd
    · rename_i k el hu;cases hc;rcases hd with hd|hd
      · exact (Zfx s hu hd).done
      · simp [fEval] at hd
    · rename_i n el hu;cases hc;rcases hd with hd|hd
      · simp only [dEval] at hd; cases hd;exact (Zbe (t':=0) s (.inl hu) x).done
      · simp [fEval] at hd
    · rename_i t' hu
      split at hc
      · rename_i n el hu';cases hc;rcases hd with hd|hd
        · simp only [dEval] at hd; cases hd;exact (Zbe s (.inr ⟨hu,hu'⟩) x).done
        · simp [fEval] at hd
      · simp at hc
    · simp at hc
  · rename_i hcal -- append
    split at hc
    case h_2=>simp at hc
    rename_i t u x y ht hx;have ha:c.args = #[x,y]:=list2 hx;have hat:c.argTypes = #[t,u]:=list2 ht;have hex:execOp a.eval o=(do pure (.value (← Builtin.append_ #[t,u] o.type #[a.eval x,a.eval y]))):=by simp [execOp,ho,resolve,hcal,invoke,builtin,ha,hat]
    rw [hex]
    split at hc
    case h_3=>simp at hc
    case h_2 =>
     rename_i el kn hu hux
     split at hc
     case h_2=>simp at hc
     rename_i z i hz hi
     split at hc
     case isFalse=>simp at hc
     rename_i hby;cases hc;rcases hd with hd|hd
     · exact (ZfD s hid hu hux hz hi hby hd).done
     · simp [fEval] at hd
    rename_i el el2 hu hux
    split at hc
    case h_2=>simp at hc
    rename_i z i hz hi
    split at hc
    case isFalse=>simp at hc
    rename_i hby;cases hc;rcases hd with hd|hd
    · exact (Zcc s hid hu hux hz hi hby hd).done
    · exact (Z9G s id hu hux hz hi hby hd).done
  · rename_i hcal -- max
    split at hc
    case h_2=>simp at hc
    rename_i x y hx;cases hc;have ha:c.args = #[x,y]:=list2 hx;have hex:execOp a.eval o=(do pure (.value (← Builtin.max_ c.argTypes o.type #[a.eval x,a.eval y]))):=by simp [execOp,ho,resolve,hcal,invoke,builtin,ha]
    rw [hex];rcases hd with hd|hd
    · exact (Zi3 s hd).done
    · simp [fEval] at hd
  · rename_i hcal -- copy
    split at hc
    case h_2=>simp at hc
    rename_i t u x y ht hx;have ha:c.args = #[x,y]:=list2 hx;have hat:c.argTypes = #[t,u]:=list2 ht;have hex:execOp a.eval o=(do pure (.value (← Builtin.copy_ #[t,u] o.type #[a.eval x,a.eval y]))):=by simp [execOp,ho,resolve,hcal,invoke,builtin,ha,hat]
    rw [hex]
    split at hc
    case h_2=>simp at hc
    rename_i el el2 hu hux
    split at hc
    case h_2=>simp at hc
    rename_i i hi;cases hc;rcases hd with hd|hd
    · exact (Zfu s hu hux hi hd).done
    · simp [fEval] at hd
  · rename_i hcal -- clear
    split at hc
    case h_2=>simp at hc
    rename_i t x ht hx;have ha:c.args = #[x]:=list1 hx;have hat:c.argTypes = #[t]:=list1 ht;have hex:execOp a.eval o=(do pure (.value (← Builtin.clear_ #[t] o.type #[a.eval x]))):=by simp [execOp,ho,resolve,hcal,invoke,builtin,ha,hat]
    rw [hex]
    split at hc
    case h_2=>cases hc
    rename_i el hu;cases hz:zeroOf P el with
    | none=>simp [hz] at hc
    | some z =>
      obtain rfl:AOp.clear z x=op:=by simpa [hz] using hc
      rcases hd with hd|hd
      · exact (ZdD s hu hz hd).done
      · simp [fEval] at hd
  · rename_i hcal -- min
    split at hc
    case h_2=>simp at hc
    rename_i x y hx;cases hc;have ha:c.args = #[x,y]:=list2 hx;have hex:execOp a.eval o=(do pure (.value (← Builtin.min_ c.argTypes o.type #[a.eval x,a.eval y]))):=by simp [execOp,ho,resolve,hcal,invoke,builtin,ha]
    rw [hex];rcases hd with hd|hd
    · exact (Zi4 s hd).done
    · simp [fEval] at hd
  · rename_i hcal -- cap
    split at hc
    case h_2=>simp at hc
    rename_i t x ht hx;have ha:c.args = #[x]:=list1 hx;have hat:c.argTypes = #[t]:=list1 ht;have hex:execOp a.eval o=(do pure (.value (← Builtin.cap_ #[t] o.type #[a.eval x]))):=by simp [execOp,ho,resolve,hcal,invoke,builtin,ha,hat]
    rw [hex]
    split at hc
    case h_2=>cases hc
    rename_i el hu;cases hc;rcases hd with hd|hd
    · exact (Zhd s hu hd).done
    · simp [fEval] at hd
  · simp at hc
 case h_26 t x i v ho => -- insert
  have hex:execOp a.eval o=(do Instr.mapUpdate t (a.eval x) (a.eval i) (a.eval v); pure .skip):=by simp [execOp,ho]
  rw [hex]
  split at hc
  case h_2=>cases hc
  rename_i k el hu
  split at hc
  case h_2=>cases hc
  rename_i c hk;cases hc;rcases hd with hd|hd
  · obtain ⟨rfl, w', hr, s'⟩ := Z71 s hu hk hd;exact⟨.skip,undef,w',F,φ,by simp [hr],.inr ⟨rfl,rfl⟩,s'.weaken fun _ h=>h.1,.val _⟩
  · simp [fEval] at hd
 · simp at hc
theorem ZfE {o:Oper} {neg:Bool} {x:Operand} (hc:cOp P o=some (.isnil neg x)):∃ bop t el yt,o.op=.binOp bop t x (.const (.slice none 0 0)) yt∧P.underlying t=some (.slice el)∧(bop=.eql ∨ bop=.neq):=by
 unfold cOp at hc
 split at hc
 case h_4 bop t x' y yt ho =>
  split at hc
  all_goals first
   | (rename_i el hu
      split at hc
      · rename_i hnil;have hy:y=.const (.slice none 0 0):=by
         unfold nilC at hnil
         split at hnil
         · rfl
         · cases hnil
        subst hy
        split at hc
        · cases hc; exact⟨_,t,el,yt,ho,hu,.inl rfl⟩
        · cases hc; exact⟨_,t,el,yt,ho,hu,.inr rfl⟩
        · cases hc
      · cases hc)
   | (cases hc; done)
   | ((repeat' (split at hc))<;>first|(cases hc; done)|(simp at hc; done))
 all_goals first
  | (cases hc; done)
  | (simp at hc; done)
  | ((repeat' (split at hc))<;>first|(cases hc; done)|(simp at hc; done))
  | (cases hl : layOf P _ with
     | none=>simp [hl] at hc
     | some l=>simp [hl] at hc)
theorem ZdF {o:Oper} {neg:Bool} {x:Operand} (hc:cOp P o=some (.isnil neg x)) {b:Option Addr} {n c:Nat} (hv:a.eval x=.slice b n c):∃ bb,(execOp a.eval o).run P w=.ok (.value (.bool bb)) w:=by
 obtain⟨bop,t,el,yt,ho,hu,hb⟩:=ZfE hc;have hex:execOp a.eval o=(do pure (.value (← (do eqGuard bop t x (.const (.slice none 0 0)) (a.eval x) (.slice none 0 0); binOp bop t (a.eval x) (.slice none 0 0):Sem Value)))):=by simp only [execOp,ho]; rfl
 rcases hb with rfl|rfl
 · exact⟨b.isNone,by rw [hex,hv]; simp [eqGuard,ZdB hu]⟩
 · exact⟨!b.isNone,by rw [hex,hv]; simp [eqGuard,ZdC hu]⟩
end
def noLoc:Locs:=fun _=>none
def Holds (F:Froz) (w:World):Prop:=(∀ x v,F x=some v→x.spot=none∧v.oneCell'=true∧w.cell? x=some v)∧∀ (g j:Nat) (v:Value),(globs g)[j]?=some v→F ⟨g,j,none⟩=some v
def RepL (F:Froz) (φ:Locs) (vs:Array Value) (l:List PV):Prop:=vs.size=l.length∧∀ i,i<l.length→Rep F φ (vs.getD i undef) (l.getD i pvu)
def HasBody (P : Program) (f : FuncId) : Prop := ∃ fn,P.funcs[f]? = some fn∧(fn.name == "runtime.NumGoroutine") = false∧fn.body.isNone = false
def Spec (P:Program) (f:FuncId) (args:List PV) (R:PV→Prop):Prop :=
 HasBody P f∧∀ (F:Froz) (w:World) (vs:Array Value),Holds F w→RepL F noLoc vs args →
  Calls P f vs w fun e w'=>∃ v r F',e=.returned v∧R r∧Rep F' noLoc v r∧Below w.heap.size w w'∧Holds F' w'∧(∀ x u,F x=some u→F' x=some u)∧∀ x:Addr,x.block<w.heap.size→F' x=F x
theorem Spec.mono {P:Program} {f:FuncId} {args:List PV} {R R':PV→Prop} (h:Spec P f args R) (hR:∀ r,R r→R' r):Spec P f args R' :=
 ⟨h.1,fun F w vs hF hv=>(h.2 F w vs hF hv).mono fun _ _ ⟨v,r,F',h1,h2,h3⟩=>⟨v,r,F',h1,hR r h2,h3⟩⟩
def LoP (p q:PV):Prop:=q=p ∨ q=p.low
def LoL (l m:List PV):Prop:=m=l ∨ m=lowL l
theorem LoP.rep {F:Froz} {φ:Locs} {v:Value} {p q:PV} (h:LoP p q) (hr:Rep F φ v p):Rep F φ v q:=by
 rcases h with rfl|rfl
 · exact hr
 · exact hr.low
theorem LoL.rep {F:Froz} {φ:Locs} {vs:Array Value} {l m:List PV} (h:LoL l m) (hr:RepL F φ vs l):RepL F φ vs m:=by
 rcases h with rfl|rfl
 · exact hr
 · refine ⟨by rw [ZZ]; exact hr.1, fun i hi => ?_⟩;rw [Z2Q];exact (hr.2 i (by rwa [ZZ] at hi)).low
def Takes (P:Program) (g:FuncId) (l:List PV) (R:PV→Prop):Prop:=HasBody P g∧∀ (F:Froz) (φ:Locs) (vs:Array Value),RepL F φ vs l→∃ m,RepL F noLoc vs m∧Spec P g m R
theorem Takes.of {P:Program} {g:FuncId} {l m:List PV} {R:PV→Prop} (h:LoL l m) (hp:pureL m) (hs:Spec P g m R):Takes P g l R :=
 ⟨hs.1,fun F φ vs hr=>⟨m,⟨(h.rep hr).1,fun i hi=>((h.rep hr).2 i hi).pure (ZS hp i)⟩,hs⟩⟩
def opK (P:Program) (op:AOp) (n:Nat) (e:Env) (h:Heap) (K:PV→Heap→Prop):Prop :=
 match op with
 | .call f args=>∃ g caps as0 R,ev e f=some (.fn g caps)∧evs e args=some as0∧Takes P g (as0++caps) R∧∀ r,R r→K r h
 | .isnil neg x=>(∃ p h',dEval (.isnil neg x) e h n=some (p,h')∧K p h') ∨ (((∃ l fl,ev e x=some (.vec l fl)) ∨ ∃ k,ev e x=some (.own k))∧∀ b,K (.val (.bool b)) h)
 | op=>∃ p h',(dEval op e h n=some (p,h') ∨ fEval op e h n=some (p,h'))∧K p h'
def ISpec (P:Program) (f n:Nat) (args:List PV) (h:Heap) (R:Nat→PV→Heap→Prop):Prop :=
 HasBody P f∧∀ (C:Ctx) (e:Env) (F:Froz) (φ:Locs) (a:Act) (w:World) (vs:Array Value),St' C (fun i=>n≤i) e h F φ a w→RepL F φ vs args →
  Calls P f vs w fun en w'=>∃ v r n' h' F' φ',en=.returned v∧R n' r h'∧Rep F' φ' v r∧St' C (fun i=>n'≤i) e h' F' φ' a w'
theorem ISpec.mono {P:Program} {f n:Nat} {args:List PV} {h:Heap} {R R':Nat→PV→Heap→Prop} (hs:ISpec P f n args h R) (hR:∀ n' r h',R n' r h'→R' n' r h'):ISpec P f n args h R' :=
 ⟨hs.1,fun C e F φ a w vs hF hv=>(hs.2 C e F φ a w vs hF hv).mono fun _ _ ⟨v,r,n',h',F',φ',h1,h2,h3⟩=>⟨v,r,n',h',F',φ',h1,hR _ _ _ h2,h3⟩⟩
def Sub (C:Ctx) (n:Nat) (e:Env) (h:Heap) (n':Nat) (e':Env) (h':Heap):Prop:=∀ a w,St C (fun i=>n≤i) e h a w→St C (fun i=>n'≤i) e' h' a w
def SubA (n:Nat) (e:Env) (h:Heap) (n':Nat) (e':Env) (h':Heap):Prop:=∀ C,Sub C n e h n' e' h'
def bmp (h:Heap) (n:Nat):Nat:=match h n with|some _=>n+1|none=>n
def opR (P:Program) (op:AOp) (n:Nat) (e:Env) (h:Heap) (K:Nat→PV→Heap→Prop):Prop :=
 opK P op n e h (fun p h'=>K (bmp h' n) p h') ∨ ∃ f args g caps as0 R,op=.call f args∧ev e f=some (.fn g caps)∧evs e args=some as0∧ISpec P g n (as0++caps) h R∧∀ n' r h',R n' r h'→K n' r h'
def wantK (g:Option (Nat×Bool)) (e:Env) (A B:Prop):Prop :=
 match g with
 | none=>A
 | some (s, b) => match e s with
   | some (.val (.bool c))=>if c=b then A else B
   | some (.val (.tuple _))=>B
   | _=>False
def opsK (P:Program):List AOper→Nat→Env→Heap→(Nat→Env→Heap→Prop)→Prop
 | [],n,e,h,K=>K n e h
 | o :: os,n,e,h,K=>wantK o.guard e (∃ n1 e1 h1,SubA n e h n1 e1 h1∧opR P o.op n1 e1 h1 fun n' p h'=>opsK P os n' (updO e1 o.dst p) h' K) (opsK P os n (updO e o.dst pvu) h K)
structure FenceOk (F:Fence) (m:Nat):Prop where
 fn:∀ f,F.fn f
 depth:F.depth=none
 calls:∀ (P:Program) f args w R,Calls P f args w R→CallsIn F (m-1) P f args w R
theorem Z5p (m:Nat):FenceOk Fence.wide m:=⟨fun _=>Yt,rfl,fun _ _ _ _ _ h=>callsIn_wide.2 h⟩
section
variable {P:Program} {C:Ctx} {Fr:Nat→Prop} {e:Env} {h:Heap} {F:Froz} {φ:Locs} {a:Act} {w:World} {FN:Fence} {m:Nat}
theorem Z1H {o:Oper} {op:AOp} (hc:cOp P o=some op):∀ c,o.op ≠ .defer c:=by
 intro c ho;simp [cOp,ho] at hc
theorem St'.called (s:St' C Fr e h F φ a w) {w':World} {F':Froz} (hb:Below w.heap.size w w') (hF':Holds F' w') (hext:∀ x u,F x=some u→F' x=some u) (hold:∀ x:Addr,x.block<w.heap.size→F' x=F x):St' C Fr e h F' φ a w':=by
 refine { nt := s.nt, glob := hF'.2, marks := s.marks.mono (fun k hk => by rw [hb.block k (Array.getElem?_eq_some_iff.1 hk).1]; exact hk), loc0 := s.loc0, free := s.free, env := fun k p hp => ⟨(s.env k p hp).1, (s.env k p hp).2.mono hext fun _ _ h => h⟩, froz := hF'.1, ext := fun x v hx => hext _ _ (s.ext x v hx),
          old:=fun x hx hG=>by rw [hold x (by have:=s.size;omega)]; exact s.old x hx hG,os:=hb.os.trans s.os,tape:=hb.tape.trans s.tape,output:=hb.output.trans s.output,size:=Y03 s.size hb.size,
          kept:=fun k hk hG=>by rw [hb.block k (by have:=s.size;omega)]; exact s.kept k hk hG,live:=fun i b hi=>?_,sep:=s.sep }
 obtain⟨loc,h1,h2,h3⟩:=s.live i b hi;refine⟨loc,h1,h2.mono hext (fun _ _ h=>h) (fun k hk=>hb.block k (s.has_lt hi h1 hk)),fun k hk=>⟨(h3 k hk).1,fun x hx=>?_⟩⟩;rw [hold x (by rw [hx]; exact s.has_lt hi h1 hk)];exact (h3 k hk).2 x hx
theorem Z2Y {o:Oper} {f:Operand} {args:List Operand} (hc:cOp P o=some (.call f args)):∃ c,o.op=.call c∧c.callee=.value f∧c.args.toList=args:=by
 unfold cOp at hc
 split at hc
 all_goals first
  | (rename_i c ho
     split at hc
     · rename_i f' hcal;cases hc;exact⟨c,ho,hcal,rfl⟩
     all_goals (repeat' (split at hc))<;>simp at hc)
  | ((repeat' (split at hc))<;>simp at hc; done)
  | (simp at hc; done)
  | (cases hl : layOf P _ with
     | none=>simp [hl] at hc
     | some l=>simp [hl] at hc)
theorem Z3K (s:St' C Fr e h F φ a w) {f:Operand} {args:Array Operand} {g:Nat} {caps as0:List PV} (hf:ev e f=some (.fn g caps)) (has:evs e args.toList=some as0):∃ vs,a.eval f=.func (.func g) #[] vs∧RepL F φ (args.map a.eval++vs) (as0++caps):=by
 obtain⟨vs,hvf,hsz,hcaps⟩:=(s.eval hf).fn_inv;obtain⟨hl1,hl2⟩:=s.evals has;refine⟨vs,hvf,by simp at hl1 ⊢; omega,fun i hi=>?_⟩;by_cases hi':i<as0.length
 · have e1 : (args.map a.eval ++ vs).getD i undef = ((args.toList.map a.eval).getD i undef) := by
    rw [← Array.toList_map,Z1x];simp only [Y0d];rw [Array.getElem?_append_left (by simp at hl1 ⊢;omega)]
   have e2:(as0++caps).getD i pvu=as0.getD i pvu:=by
    simp only [Y0b];rw [List.getElem?_append_left hi']
   rw [e1,e2];exact hl2 i hi'
 · have e1 : (args.map a.eval ++ vs).getD i undef = vs.getD (i - as0.length) undef := by
    simp only [Y0d];rw [Array.getElem?_append_right (by simp at hl1 ⊢;omega)];simp only [Array.size_map];congr 2;simp at hl1;omega
   have e2:(as0++caps).getD i pvu=caps.getD (i-as0.length) pvu:=by
    simp only [Y0b];rw [List.getElem?_append_right (by omega)]
   rw [e1,e2];exact hcaps _ (by simp at hi;omega)
theorem Z5Y (hok:FenceOk FN m) {o:Oper} {op:AOp} (hc:cOp P o=some op) (hdst:dstOk C.nt o.dst=true) {n:Nat} (hid:Fr n) (s:St' C Fr e h F φ a w) {K:PV→Heap→Prop} (hk:opK P op n e h K) {next:Act→World→Prop} {Q:Exit→Act→World→Prop}
 (hnext:∀ p h' a' w',K p h'→St C (fun i=>Fr i∧(h' n≠none→i≠n)) (updO e o.dst p) h' a' w'→next a' w'):o.wpIn FN m P a w next Q:=by
 refine⟨fun f _=>hok.fn f,?_⟩;rw [Oper.semAt_eq FN.round a.eval o (Z1H hc)];have det:∀ p h',(dEval op e h n=some (p,h') ∨ fEval op e h n=some (p,h'))→K p h'→o.uponIn FN m P a next Q ((execOp a.eval o).run P w):=by
  intro p h' hd hK;obtain⟨r,val,w',F',φ',hr,hval,s',hrep⟩:=Z7H hc s hid hd;have hput:=s'.putO hdst hrep;rw [hr];rcases hval with rfl|⟨rfl,rfl⟩
  · exact hnext p h' _ _ hK ⟨F',φ',hput⟩
  · exact hnext p h' _ _ hK ⟨F',φ',hput⟩
 by_cases hcall:∃ f args,op=.call f args
 · obtain ⟨f, args, rfl⟩ := hcall;obtain⟨g,caps,as0,R,hf,has,⟨⟨fn,hfn,hname,hbody⟩,htk⟩,hR⟩:=hk;obtain⟨c,ho,hcal,hargs⟩:=Z2Y hc;subst hargs;obtain⟨vs,hvf,hrep⟩:=Z3K s hf has;obtain ⟨args',hrep'',-,hspec⟩ := htk F φ _ hrep;have hrun:(execOp a.eval o).run P w=.ok (.enter g (c.args.map a.eval++vs)) w:=by
    have h1 : ¬ fn.name = "runtime.NumGoroutine" := by simpa using hname
    have h2:¬ fn.body=none:=fun h=>by rw [h] at hbody; simp at hbody
    simp [execOp,ho,resolve,hcal,hvf,Deferred.ofValue,invoke,callFunc,hfn,h1,h2]
   rw [hrun];refine ⟨fun hd=>by rw [hok.depth] at hd; simp at hd,hok.calls _ _ _ _ _ ((hspec F w _ ⟨s.froz,s.glob⟩ hrep'').mono ?_)⟩;rintro en w' ⟨v,r,F',rfl,hr,hvr,hbel,hF',hext,hold⟩;have s':=(s.called hbel hF' hext hold).weaken (Fr':=fun i=>Fr i∧(h n≠none→i≠n)) fun _ h=>h.1;have hvr':Rep F' φ v r:=by
    have:∀ {u:Value} {q:PV},Rep F' noLoc u q→Rep F' φ u q:=fun hq=>hq.mono (fun _ _ h=>h) (fun i x hx=>by cases hx);exact this hvr
   exact hnext r h _ _ (hR r hr) ⟨F',φ,s'.putO hdst hvr'⟩
 · have : (∃ p h', (dEval op e h n = some (p, h') ∨ fEval op e h n = some (p, h')) ∧ K p h') ∨ ∃ neg x, op = .isnil neg x ∧ ((∃ l fl, ev e x = some (.vec l fl)) ∨ ∃ k, ev e x = some (.own k)) ∧ ∀ b, K (.val (.bool b)) h := by
    cases op<;>first|exact .inl hk|exact absurd ⟨_,_,rfl⟩ hcall|skip
    rename_i neg x;rcases hk with⟨p,h',hd,hK⟩|⟨hx,hK⟩
    · exact .inl ⟨p,h',.inl hd,hK⟩
    · exact .inr ⟨neg,x,rfl,hx,hK⟩
   rcases this with⟨p,h',hd,hK⟩|⟨neg,x,rfl,hx,hK⟩
   · exact det p h' hd hK
   · have hsl : ∃ b n c, a.eval x = .slice b n c := by
      rcases hx with⟨l,fl,hx⟩|⟨k,hx⟩
      · rcases (s.eval hx).vec_inv with ⟨_, hv⟩ | ⟨ad, cap, esz, cs, hv, _⟩
        · exact⟨_,_,_,hv⟩
        · exact⟨_,_,_,hv⟩
      · obtain ⟨loc, _, _, hv⟩ := (s.eval hx).own_inv;exact⟨_,_,_,hv⟩
     obtain⟨b,n',c',hv⟩:=hsl;obtain⟨bb,hrun⟩:=ZdF (w:=w) hc hv;rw [hrun];exact hnext _ _ _ _ (hK bb) ⟨F,φ,(s.weaken fun _ h=>h.1).putO hdst (.val _)⟩
theorem Z9L (hok:FenceOk FN m) {o:Oper} {f:Operand} {args:List Operand} (hc:cOp P o=some (.call f args)) (hdst:dstOk C.nt o.dst=true) {n:Nat} (s:St' C (fun i=>n≤i) e h F φ a w) {g:Nat} {caps as0:List PV} {R:Nat→PV→Heap→Prop}
 (hf:ev e f=some (.fn g caps)) (has:evs e args=some as0) (hsp:ISpec P g n (as0++caps) h R) {next:Act→World→Prop} {Q:Exit→Act→World→Prop}
 (hnext:∀ n' p h' a' w',R n' p h'→St C (fun i=>n'≤i) (updO e o.dst p) h' a' w'→next a' w'):o.wpIn FN m P a w next Q:=by
 refine⟨fun f _=>hok.fn f,?_⟩;rw [Oper.semAt_eq FN.round a.eval o (Z1H hc)];obtain⟨⟨fn,hfn,hname,hbody⟩,hspec⟩:=hsp;obtain⟨c,ho,hcal,hargs⟩:=Z2Y hc;subst hargs;obtain⟨vs,hvf,hrep⟩:=Z3K s hf has;have hrun:(execOp a.eval o).run P w=.ok (.enter g (c.args.map a.eval++vs)) w:=by
  have h1 : ¬ fn.name = "runtime.NumGoroutine" := by simpa using hname
  have h2:¬ fn.body=none:=fun h=>by rw [h] at hbody; simp at hbody
  simp [execOp,ho,resolve,hcal,hvf,Deferred.ofValue,invoke,callFunc,hfn,h1,h2]
 rw [hrun];refine⟨fun hd=>by rw [hok.depth] at hd; simp at hd,hok.calls _ _ _ _ _ ((hspec C e F φ a w _ s hrep).mono ?_)⟩;rintro en w' ⟨v,r,n',h',F',φ',rfl,hr,hvr,s'⟩;exact hnext n' r h' _ _ hr ⟨F',φ',s'.putO hdst hvr⟩
theorem Z5q {ops:Array Oper} {g:Option (Nat×Bool)} {g':Option (Nat×Bool)} (hg:cGuard ops g=some g') (s:St' C Fr e h F φ a w) {o:Oper} (ho:o.guard=g) {A B:Prop} (hk:wantK g' e A B) :
 (Region.wanted o (yielded ops a.tmps)=true∧A) ∨ (Region.wanted o (yielded ops a.tmps)=false∧B):=by
 unfold cGuard at hg
 split at hg
 · cases hg;exact .inl ⟨by simp [Region.wanted,ho],hk⟩
 · rename_i j b
   split at hg
   case h_2=>simp at hg
   rename_i oj hj
   split at hg
   case h_2=>simp at hg
   rename_i d hd;cases hg;have hy:∀ v,e d=some (.val v)→yielded ops a.tmps j=match v with | .bool c=>some c|_=>none:=fun v hv=>by
    obtain⟨hlt,hr⟩:=s.env d _ hv;have hv':=hr.val_inv;have hlt':d<a.tmps.size:=by rw [s.nt]; exact hlt
    have hg:a.tmps[d]?=some v:=by
     rw [Array.getElem?_eq_getElem hlt'];simpa [Array.getD,hlt'] using hv'
    simp only [yielded,hj,Option.bind_some,hd,hg];cases v<;>rfl
   simp only [wantK] at hk
   split at hk
   · rename_i c hc;have:=hy _ hc;simp only at this
     split at hk
     · rename_i hcb;subst hcb;exact .inl ⟨by simp [Region.wanted,ho,this],hk⟩
     · rename_i hcb;exact .inr ⟨by simp [Region.wanted,ho,this,hcb],hk⟩
   · rename_i v hc;have:=hy _ hc;simp only at this;exact .inr ⟨by simp [Region.wanted,ho,this],hk⟩
   · exact hk.elim
def PostA (C:Ctx) (Q:Exit→Nat→Env→Heap→Prop) (x:Exit) (a:Act) (w:World):Prop:=∃ n e h,Q x n e h∧St C (fun i=>n≤i) e h a w
theorem Zci (hok:FenceOk FN m) {ops:Array Oper}:∀ {l:List Oper} {al:List AOper},cOpers P C.nt ops l=some al→∀ {n:Nat} {e:Env} {h:Heap} {a:Act} {w:World},St C (fun i=>n≤i) e h a w→∀ {Q:Exit→Nat→Env→Heap→Prop},opsK P al n e h (fun n e h=>Q .normal n e h) →
 wpListIn FN m P ops (PostA C Q) l a w:=by
 intro l
 induction l with
 | nil =>
   intro al hc n e h a w hs Q hk;obtain rfl : []=al:=by simpa [cOpers] using hc
   exact⟨n,e,h,hk,hs⟩
 | cons o r ih =>
   intro al hc n e h a w hs Q hk;simp only [cOpers] at hc
   split at hc
   case h_2=>simp at hc
   rename_i ao al' ho hl;obtain rfl:ao :: al'=al:=by simpa using hc
   unfold cOper at ho
   split at ho
   case h_2=>simp at ho
   rename_i op g hop hg
   split at ho
   case isFalse=>simp at ho
   rename_i hdst;cases ho;simp only [opsK] at hk;obtain⟨F,φ,s⟩:=hs;simp only [wpListIn];rcases Z5q hg s rfl hk with⟨hw,hA⟩|⟨hw,hB⟩
   · rw [if_pos hw];obtain⟨n1,e1,h1,hsub,hA⟩:=hA;obtain⟨F,φ,s⟩:=hsub C a w ⟨F,φ,s⟩;rcases hA with hA|⟨f,args,g,caps,as0,R,hop',hf,has,hsp,hR⟩
     · refine Z5Y hok hop hdst (Y0m n1) s hA fun p h' a' w' hK hs' => ?_;obtain⟨F',φ',s'⟩:=hs';refine ih hl ⟨F',φ',s'.weaken fun i hi=>?_⟩ hK;unfold bmp at hi;cases hb:h' n1 with
       | none=>rw [hb] at hi; exact⟨hi,fun hne=>absurd rfl hne⟩
       | some b=>rw [hb] at hi; exact⟨by simp only at hi; omega,fun _=>by simp only at hi; omega⟩
     · subst hop';refine Z9L hok hop hdst s hf has hsp fun n' r h' a' w' hr hs'=>?_;exact ih hl hs' (hR n' r h' hr)
   · rw [if_neg (by simp [hw])];refine⟨fun f _=>hok.fn f,?_⟩;have s':=s.putO (p:=pvu) hdst (.val undef);exact ih hl ⟨F,φ,s'⟩ hB
theorem Z8E (hok:FenceOk FN m) {id:Nat} {ops:Array Oper} {al:List AOper} (hc:cOpers P C.nt ops ops.toList=some al) {n:Nat} (hs:St C (fun i=>n≤i) e h a w) {Q:Exit→Nat→Env→Heap→Prop} (hk:opsK P al n e h (fun n e h=>Q .normal n e h)) :
 (Code.region id ops false).wpIn FN m P (PostA C Q) a w:=wpIn_region_list (Zci hok hc hs hk)
end
section
variable {P:Program} {C:Ctx} {Fr:Nat→Prop} {e:Env} {h:Heap} {n:Nat} {F:Froz} {φ:Locs} {a:Act} {w:World} {FN:Fence} {m:Nat}
theorem BxAt.names {φ':Locs} {loc:Loc} {b:Bx} (h2:BxAt F φ w loc b) (hp:pureLL b.elems):BxAt F φ' w loc b:=by
 refine⟨h2.esz,h2.pos,h2.len,h2.cap,h2.max,h2.el,fun hc=>?_⟩;obtain⟨x,hx,hs,cells,t,hg,hsz,hrep⟩:=h2.room hc;exact⟨x,hx,hs,cells,t,hg,hsz,fun i j hi hj=>⟨(hrep i j hi hj).1,(hrep i j hi hj).2.pure (ZS (Z50 hp i) j)⟩⟩
theorem MapAt.names {φ':Locs} {loc:Loc} {b:Bx} (h2:MapAt F φ w loc b) (hp:pureLL b.elems):MapAt F φ' w loc b:=by
 obtain⟨x,hx,es,t,hg,hr⟩:=h2.room;exact⟨h2.esz,h2.pos,h2.cap,x,hx,es,t,hg,hr.imp fun r hr p hp' v h=>h.pure ((Z1b _ _).1 ((Z20 _ _).1 hp r hr) p hp')⟩
theorem ObAt.inn {φ':Locs} {D:Nat→Prop} {loc:Loc} {b:Bx} (h2:ObAt F φ w loc b) (hφ:∀ i x,D i→φ i=some x→φ' i=some x) (hp:innLL D b.elems):ObAt F φ' w loc b:=by
 rcases h2 with h2|h2
 · refine .inl ⟨h2.esz, h2.pos, h2.len, h2.cap, h2.max, h2.el, fun hc => ?_⟩;obtain⟨x,hx,hs,cells,t,hg,hsz,hrep⟩:=h2.room hc;exact⟨x,hx,hs,cells,t,hg,hsz,fun i j hi hj=>⟨(hrep i j hi hj).1,(hrep i j hi hj).2.inn hφ (ZS (Z50 hp i) j)⟩⟩
 · obtain ⟨x, hx, es, t, hg, hr⟩ := h2.room;exact .inr ⟨h2.esz,h2.pos,h2.cap,x,hx,es,t,hg,hr.imp fun r hr p hp' v h=>h.inn hφ ((Z1b _ _).1 ((Z20 _ _).1 hp r hr) p hp')⟩
theorem ObAt.names {φ':Locs} {loc:Loc} {b:Bx} (h2:ObAt F φ w loc b) (hp:pureLL b.elems):ObAt F φ' w loc b:=h2.imp (fun h=>h.names hp) (fun h=>h.names hp)
def PSpec (P:Program) (f:FuncId) (b:Bx) (rest:List PV) (R:PV→Bx→Prop):Prop :=
 ISpec P f 1 (.ptr 0 0 0 :: rest) (Heap.upd (fun _=>none) 0 b) fun _ r h'=>∃ b',h' 0=some b'∧r.pure∧pureLL b'.elems∧R r b'
theorem PSpec.run {f:FuncId} {b:Bx} {rest:List PV} {R:PV→Bx→Prop} (hs:PSpec P f b rest R) (hpb:pureLL b.elems) (hpr:pureL rest) {id:Nat} (hb:h id=some b) (s:St' C Fr e h F φ a w) {vs:Array Value} (hv:RepL F φ vs (.ptr id 0 0 :: rest)) :
 Calls P f vs w fun en w'=>∃ v r b' F',en=.returned v∧(r.pure∧pureLL b'.elems∧R r b')∧Rep F' φ v r∧St' C Fr e (h.upd id b') F' φ a w':=by
 obtain⟨loc,hloc,hbx,hhas⟩:=s.live id b hb
 let φ1:Locs:=fun i=>if i=0 then some loc else none
 let C1:Ctx:=⟨w,fun k=>loc.has k,F,C.nt,φ1⟩
 have hG:∀ k,C1.G k→C.w0.heap.size≤k ∨ C.G k:=fun k hk=>(hhas k hk).1;have hcells:∀ k,C1.G k→∀ o:Obj,w.heap[k]?=some o→¬ o=.deferred (some []):=by
  rintro k hk o ho rfl;rcases hbx.there hk with⟨cells,t,hg⟩|⟨es,t,hg⟩
  · rw [hg] at ho; cases ho
  · rw [hg] at ho; cases ho
 have h0:∀ {i:Nat} {b0:Bx},(Heap.upd (fun _=>none) 0 b) i=some b0→i=0∧b0=b:=by
  intro i b0 hi;by_cases hi0:i=0
  · subst hi0; rw [Heap.upd_same] at hi; exact⟨rfl,(Option.some.inj hi).symm⟩
  · rw [Heap.upd_ne _ _ hi0] at hi; cases hi
 have s1:St' C1 (fun i=>1≤i) (fun _=>none) (Heap.upd (fun _=>none) 0 b) F φ1 { a with defers := [] } w:=by
  refine { nt:=s.nt,glob:=s.glob,marks:=Marks.nil rfl,loc0:=fun i x hx=>hx,free:=fun i hi=>?_,env:=fun k p hp=>(by cases hp),froz:=s.froz,ext:=fun _ _ h=>h,old:=fun _ _ _=>rfl,os:=rfl,tape:=rfl,output:=rfl,size:=Y0m _,kept:=fun _ _ _=>rfl,live:=fun i b0 hi=>?_,sep:=fun i j bi bj li lj k hi hj _ _ _ _=>?_ }
  · simp only [φ1]; rw [if_neg (by omega)]
  · obtain ⟨rfl, rfl⟩ := h0 hi;exact⟨loc,by simp [φ1],hbx.names hpb,fun k hk=>⟨.inr hk,(hhas k hk).2⟩⟩
  · rw [(h0 hi).1,(h0 hj).1]
 have hv1:RepL F φ1 vs (.ptr 0 0 0 :: rest):=by
  refine⟨hv.1,fun i hi=>?_⟩;have hr:=hv.2 i hi;cases i with
  | zero =>
    obtain⟨loc',x,g1,gz,g2,g3,g4⟩:=(show Rep F φ (vs.getD 0 undef) (.ptr id 0 0) from hr).ptr_inv;obtain rfl:loc'=loc:=by rw [hloc] at g1; simpa using g1.symm
    rw [g4];exact .ptr 0 0 0 loc' x (by simp [φ1]) gz g2 g3
  | succ i =>
    have e1:(PV.ptr id 0 0 :: rest).getD (i+1) pvu=rest.getD i pvu:=rfl;have e2:(PV.ptr 0 0 0 :: rest).getD (i+1) pvu=rest.getD i pvu:=rfl;rw [e1] at hr;rw [e2];exact hr.pure (ZS hpr i)
 refine (hs.2 C1 _ F φ1 { a with defers := [] } w vs s1 hv1).mono ?_;rintro en w' ⟨v,r,n',h',F',φ',rfl,⟨b',hb',hr,hpb',hR⟩,hvr,s'⟩;have hφ0:φ' 0=some loc:=s'.loc0 0 loc (by simp [C1,φ1]);refine⟨v,r,b',F',rfl,⟨hr,hpb',hR⟩,hvr.pure hr,?_⟩
 refine { nt := s.nt, glob := s'.glob, marks := s.marks.mono (fun k hk => by rw [s'.kept k (Array.getElem?_eq_some_iff.1 hk).1 (fun hg => hcells k hg _ hk rfl)]; exact hk), loc0 := s.loc0, free := s.free, env := fun k p hp => ⟨(s.env k p hp).1, (s.env k p hp).2.mono s'.ext fun _ _ h => h⟩, froz := s'.froz, ext := fun x v hx => s'.ext _ _ (s.ext x v hx),
          old:=fun x hx hg=>?_,os:=s'.os.trans s.os,tape:=s'.tape.trans s.tape,output:=s'.output.trans s.output,size:=Y03 s.size s'.size,kept:=fun k hk hg=>?_,live:=fun i bi hi=>?_,sep:=fun i j bi bj li lj k hi hj hli hlj hki hkj=>?_ }
 · have hx2 : x.block < w.heap.size := Nat.lt_of_lt_of_le hx s.size;rw [s'.old x hx2 fun hg'=>(hG _ hg').elim (fun h1=>absurd hx (Nat.not_lt.2 h1)) hg];exact s.old x hx hg
 · rw [s'.kept k (Nat.lt_of_lt_of_le hk s.size) fun hg' => (hG _ hg').elim (fun h1 => absurd hk (Nat.not_lt.2 h1)) hg];exact s.kept k hk hg
 · by_cases hid : i = id
   · subst hid;rw [Heap.upd_same] at hi;cases hi;obtain⟨loc',g1,g2,g3⟩:=s'.live 0 b' hb';obtain rfl:loc'=loc:=by rw [hφ0] at g1; simpa using g1.symm
     exact⟨loc',hloc,g2.names hpb',fun k hk=>⟨(hhas k hk).1,(g3 k hk).2⟩⟩
   · rw [Heap.upd_ne _ _ hid] at hi;obtain⟨li,g1,g2,g3⟩:=s.live i bi hi;have hout:∀ k,li.has k→¬ C1.G k:=fun k hk hg=>hid (s.sep i id bi b li loc k hi hb g1 hloc hk hg);have hblk:∀ k,li.has k→w'.heap[k]?=w.heap[k]?:=fun k hk=>s'.kept k (s.has_lt hi g1 hk) (hout k hk);refine⟨li,g1,g2.mono s'.ext (fun _ _ h=>h) hblk,fun k hk=>⟨(g3 k hk).1,fun x hx=>?_⟩⟩;rw [s'.old x (by rw [hx]; exact s.has_lt hi g1 hk) (by rw [hx]; exact hout k hk)];exact (g3 k hk).2 x hx
 · have conv : ∀ {i : Nat} {bi : Bx}, (h.upd id b') i = some bi → ∃ b0, h i = some b0 := by
    intro i bi hi;by_cases hid:i=id
    · subst hid; exact⟨b,hb⟩
    · rw [Heap.upd_ne _ _ hid] at hi; exact⟨bi,hi⟩
   obtain⟨b1,h1⟩:=conv hi
   obtain⟨b2,h2⟩:=conv hj
   exact s.sep i j b1 b2 li lj k h1 h2 hli hlj hki hkj
def PRun (P:Program) (g:FuncId) (id:Nat) (b:Bx) (as0:List PV) (R:PV→Bx→Prop):Prop :=
 HasBody P g∧∀ {C:Ctx} {Fr:Nat→Prop} {e:Env} {h:Heap} {F:Froz} {φ:Locs} {a:Act} {w:World} {vs:Array Value},h id=some b→St' C Fr e h F φ a w→RepL F φ vs as0 →
  Calls P g vs w fun en w'=>∃ v r b' F',en=.returned v∧(r.pure∧pureLL b'.elems∧R r b')∧Rep F' φ v r∧St' C Fr e (h.upd id b') F' φ a w'
theorem Z9M (hok:FenceOk FN m) {o:Oper} {f:Operand} {args:List Operand} (hc:cOp P o=some (.call f args)) (hdst:dstOk C.nt o.dst=true) (s:St' C Fr e h F φ a w) {g id:Nat} {caps as0:List PV} {b:Bx} {R:PV→Bx→Prop}
 (hf:ev e f=some (.fn g caps)) (has:evs e args=some as0) (hb:h id=some b) (hsp:PRun P g id b (as0++caps) R) {next:Act→World→Prop} {Q:Exit→Act→World→Prop}
 (hnext:∀ p b' a' w',p.pure→pureLL b'.elems→R p b'→St C Fr (updO e o.dst p) (h.upd id b') a' w'→next a' w'):o.wpIn FN m P a w next Q:=by
 refine⟨fun f _=>hok.fn f,?_⟩;rw [Oper.semAt_eq FN.round a.eval o (Z1H hc)];obtain⟨fn,hfn,hname,hbody⟩:=hsp.1;obtain⟨c,ho,hcal,hargs⟩:=Z2Y hc;subst hargs;obtain⟨vs,hvf,hrep⟩:=Z3K s hf has;have hrun:(execOp a.eval o).run P w=.ok (.enter g (c.args.map a.eval++vs)) w:=by
  have h1 : ¬ fn.name = "runtime.NumGoroutine" := by simpa using hname
  have h2:¬ fn.body=none:=fun h=>by rw [h] at hbody; simp at hbody
  simp [execOp,ho,resolve,hcal,hvf,Deferred.ofValue,invoke,callFunc,hfn,h1,h2]
 rw [hrun];refine⟨fun hd=>by rw [hok.depth] at hd; simp at hd,hok.calls _ _ _ _ _ ((hsp.2 hb s hrep).mono ?_)⟩;rintro en w' ⟨v,r,b',F',rfl,⟨h1,h2,h3⟩,hvr,s'⟩;exact hnext r b' _ _ h1 h2 h3 ⟨F',φ,s'.putO hdst hvr⟩
def NSpec (P:Program) (f:FuncId) (args:List PV) (mk:Nat→PV) (b:Bx):Prop :=
 ISpec P f 0 args (fun _=>none) fun n' r h'=>∃ id,r=mk id∧h' id=some b
def Mk (mk:Nat→PV):Prop:=∀ (F:Froz) (φ φ':Locs) (v:Value) (i n:Nat),φ i=φ' n→Rep F φ v (mk i)→Rep F φ' v (mk n)
theorem Z5Z:Mk .own:=fun F φ φ' v i n hn hv=>by
 obtain⟨loc,h1,h2,rfl⟩:=hv.own_inv;exact .own n loc (hn▸h1) h2
theorem NSpec.run {f:FuncId} {args:List PV} {mk:Nat→PV} {b:Bx} (hs:NSpec P f args mk b) (hmk:Mk mk) (hpb:pureLL b.elems) (hpr:pureL args) {n:Nat} (hn:Fr n) (s:St' C Fr e h F φ a w) {vs:Array Value} (hv:RepL F φ vs args) :
 Calls P f vs w fun en w'=>∃ v F' φ',en=.returned v∧Rep F' φ' v (mk n)∧St' C (fun i=>Fr i∧i≠n) e (h.upd n b) F' φ' a w':=by
 let C1:Ctx:=⟨w,fun _=>False,F,C.nt,noLoc⟩
 have hφn:φ n=none:=s.free n hn;have hnone:∀ {i:Nat} {bi:Bx},h i=some bi→i≠n:=by
  rintro i bi hi rfl;obtain⟨loc,h1,_⟩:=s.live i bi hi;rw [hφn] at h1; cases h1
 have s1:St' C1 (fun i=>0≤i) (fun _=>none) (fun _=>none) F noLoc { a with defers := [] } w :=
  { nt:=s.nt,glob:=s.glob,marks:=Marks.nil rfl,loc0:=fun i x hx=>hx,free:=fun i hi=>rfl,env:=fun k p hp=>(by cases hp),froz:=s.froz,ext:=fun _ _ h=>h,old:=fun _ _ _=>rfl,os:=rfl,tape:=rfl,output:=rfl,size:=Y0m _,kept:=fun _ _ _=>rfl,live:=fun i b0 hi=>(by cases hi),sep:=fun i j bi bj li lj k hi hj _ _ _ _=>(by cases hi) }
 have hv1:RepL F noLoc vs args:=⟨hv.1,fun i hi=>(hv.2 i hi).pure (ZS hpr i)⟩
 refine (hs.2 C1 _ F noLoc { a with defers := [] } w vs s1 hv1).mono ?_;rintro en w' ⟨v,r,n',h',F',φ',rfl,⟨id,rfl,hb'⟩,hvr,s'⟩;obtain⟨loc,hl1,hl2,hl3⟩:=s'.live id b hb';have hnew:∀ k,loc.has k→w.heap.size≤k:=fun k hk=>(hl3 k hk).1.elim (fun h=>h) (fun h=>h.elim)
 let φ2:Locs:=fun i=>if i=n then some loc else φ i
 have hφ2:φ2 n=some loc:=by simp [φ2]
 have hφ3:∀ {i:Nat},i≠n→φ2 i=φ i:=fun {i} hi=>by simp [φ2,hi]
 have hφ4:∀ i x,φ i=some x→φ2 i=some x:=fun i x hx=>by
  rw [hφ3 fun e=>by rw [e,hφn] at hx; cases hx]; exact hx
 refine⟨v,F',φ2,rfl,hmk F' φ' φ2 v id n (by rw [hl1,hφ2]) hvr,?_⟩;have hkeep:∀ k,k<w.heap.size→w'.heap[k]?=w.heap[k]?:=fun k hk=>s'.kept k hk fun hg=>hg
 refine { nt := s.nt, glob := s'.glob, marks := s.marks.mono (fun k hk => by rw [hkeep k (Array.getElem?_eq_some_iff.1 hk).1]; exact hk), loc0 := fun i x hx => hφ4 i x (s.loc0 i x hx), free := fun i hi => by rw [hφ3 hi.2]; exact s.free i hi.1, env := fun k p hp => ⟨(s.env k p hp).1, (s.env k p hp).2.mono s'.ext hφ4⟩, froz := s'.froz, ext := fun x v hx => s'.ext _ _ (s.ext x v hx),
          old:=fun x hx hg=>?_,os:=s'.os.trans s.os,tape:=s'.tape.trans s.tape,output:=s'.output.trans s.output,size:=Y03 s.size s'.size,kept:=fun k hk hg=>?_,live:=fun i bi hi=>?_,sep:=fun i j bi bj li lj k hi hj hli hlj hki hkj=>?_ }
 · have hx2 : x.block < w.heap.size := Nat.lt_of_lt_of_le hx s.size;rw [s'.old x hx2 fun hg=>hg];exact s.old x hx hg
 · rw [hkeep k (Nat.lt_of_lt_of_le hk s.size)];exact s.kept k hk hg
 · by_cases hid : i = n
   · subst hid;rw [Heap.upd_same] at hi;cases hi;exact⟨loc,hφ2,hl2.names hpb,fun k hk=>⟨.inl (Y03 s.size (hnew k hk)),(hl3 k hk).2⟩⟩
   · rw [Heap.upd_ne _ _ hid] at hi;obtain⟨li,g1,g2,g3⟩:=s.live i bi hi;have hblk:∀ k,li.has k→w'.heap[k]?=w.heap[k]?:=fun k hk=>hkeep k (s.has_lt hi g1 hk);refine⟨li,by rw [hφ3 hid]; exact g1,g2.mono s'.ext hφ4 hblk,fun k hk=>⟨(g3 k hk).1,fun x hx=>?_⟩⟩;rw [s'.old x (by rw [hx]; exact s.has_lt hi g1 hk) fun hg=>hg];exact (g3 k hk).2 x hx
 · have low : ∀ {i : Nat} {bi : Bx} {li : Loc}, i ≠ n → (h.upd n b) i = some bi → φ2 i = some li → li.has k → h i = some bi ∧ φ i = some li ∧ k < w.heap.size := by
    intro i bi li hne hi hli hki;rw [Heap.upd_ne _ _ hne] at hi;rw [hφ3 hne] at hli;exact⟨hi,hli,s.has_lt hi hli hki⟩
   by_cases hi':i=n
   · by_cases hj' : j = n
     · rw [hi',hj']
     · subst hi';obtain⟨_,_,hlt⟩:=low hj' hj hlj hkj;rw [hφ2] at hli;cases hli;exact absurd (hnew k hki) (by omega)
   · obtain ⟨q1, q2, hlt⟩ := low hi' hi hli hki;by_cases hj':j=n
     · subst hj';rw [hφ2] at hlj;cases hlj;exact absurd (hnew k hkj) (by omega)
     · obtain ⟨p1, p2, _⟩ := low hj' hj hlj hkj;exact s.sep i j bi bj li lj k q1 p1 q2 p2 hki hkj
def NRun (P:Program) (g:FuncId) (rd:Option (Nat×Bx)) (as0:List PV) (mk:Nat→PV) (b:Bx):Prop :=
 HasBody P g∧∀ {C:Ctx} {Fr:Nat→Prop} {e:Env} {h:Heap} {F:Froz} {φ:Locs} {a:Act} {w:World} {vs:Array Value} {n:Nat},(∀ k b0,rd=some (k,b0)→h k=some b0)→Fr n→St' C Fr e h F φ a w→RepL F φ vs as0 →
  Calls P g vs w fun en w'=>∃ v F' φ',en=.returned v∧Rep F' φ' v (mk n)∧St' C (fun i=>Fr i∧i≠n) e (h.upd n b) F' φ' a w'
theorem NSpec.nrun {g:FuncId} {as0:List PV} {mk:Nat→PV} {b:Bx} (hs:NSpec P g as0 mk b) (hmk:Mk mk) (hpb:pureLL b.elems) (hpr:pureL as0):NRun P g none as0 mk b:=⟨hs.1,fun _ hn s hv=>hs.run hmk hpb hpr hn s hv⟩
theorem Z9N (hok:FenceOk FN m) {o:Oper} {f:Operand} {args:List Operand} (hc:cOp P o=some (.call f args)) (hdst:dstOk C.nt o.dst=true) {n:Nat} (hid:Fr n) (s:St' C Fr e h F φ a w) {g:Nat} {caps as0:List PV} {mk:Nat→PV} {b:Bx}
 (hf:ev e f=some (.fn g caps)) (has:evs e args=some as0) {rd:Option (Nat×Bx)} (hrd:∀ k b0,rd=some (k,b0)→h k=some b0) (hsp:NRun P g rd (as0++caps) mk b) {next:Act→World→Prop} {Q:Exit→Act→World→Prop}
 (hnext:∀ a' w',St C (fun i=>Fr i∧i≠n) (updO e o.dst (mk n)) (h.upd n b) a' w'→next a' w'):o.wpIn FN m P a w next Q:=by
 refine⟨fun f _=>hok.fn f,?_⟩;rw [Oper.semAt_eq FN.round a.eval o (Z1H hc)];obtain⟨fn,hfn,hname,hbody⟩:=hsp.1;obtain⟨c,ho,hcal,hargs⟩:=Z2Y hc;subst hargs;obtain⟨vs,hvf,hrep⟩:=Z3K s hf has;have hrun:(execOp a.eval o).run P w=.ok (.enter g (c.args.map a.eval++vs)) w:=by
  have h1 : ¬ fn.name = "runtime.NumGoroutine" := by simpa using hname
  have h2:¬ fn.body=none:=fun h=>by rw [h] at hbody; simp at hbody
  simp [execOp,ho,resolve,hcal,hvf,Deferred.ofValue,invoke,callFunc,hfn,h1,h2]
 rw [hrun];refine⟨fun hd=>by rw [hok.depth] at hd; simp at hd,hok.calls _ _ _ _ _ ((hsp.2 hrd hid s hrep).mono ?_)⟩;rintro en w' ⟨v,F',φ',rfl,hvr,s'⟩;exact hnext _ _ ⟨F',φ',s'.putO hdst hvr⟩
theorem St.frzSlot {k id:Nat} {b:Bx} (hst:St C Fr e h a w) (hk:e k=some (.own id)) (hb:h id=some b) (hp:pureLL b.elems):St C Fr (e.upd k (.vec b.elems false)) (h.del id) a w:=by
 obtain⟨F,φ,s⟩:=hst;obtain⟨hlt,hr⟩:=s.env k _ hk;obtain⟨loc,hl,hz,hv⟩:=hr.own_inv;obtain⟨loc',h1,h2,h3⟩:=s.live id b hb;obtain rfl:loc'=loc:=by rw [h1] at hl; simpa using hl
 have h2:=h2.cells hz;have s1:St' C Fr e (h.del id) F φ a w:=s.sub (fun _ _ h=>h) (fun _ _ hh=>(Heap.del_some hh).2);have hput:∀ {F':Froz},St' C Fr e (h.del id) F' φ a w→Rep F' φ (a.tmps.getD k undef) (.vec b.elems false)→St C Fr (e.upd k (.vec b.elems false)) (h.del id) a w:=fun {F'} s2 hrep=>by
  refine⟨F',φ,{ s2 with env:=fun j p hj=>?_ }⟩;by_cases hjk:j=k
  · subst hjk; rw [Env.upd_same] at hj; cases hj; exact⟨hlt,hrep⟩
  · rw [Env.upd_ne _ _ hjk] at hj; exact s2.env j p hj
 by_cases hc0:loc'.cap=0
 · have hl0 : loc'.len = 0 := by have := h2.cap; omega
   have he0:b.elems = []:=List.eq_nil_of_length_eq_zero (by rw [h2.len,hl0]);refine hput s1 ?_;rw [hv,he0,hl0,hc0];cases hbs:loc'.base with
   | none=>exact .vecnil false
   | some x=>exact .vec (F:=F) (φ:=φ) x 0 0 [] false (fun _ _=>undef) (fun h=>absurd rfl h) (Y0m _) (by simp) (by simp) (by simp) (by simp) (by simp)
 · obtain ⟨ad, hbase, hs, cells, ct, hg, hroom, hrep⟩ := h2.room hc0;have hhas:loc'.has ad.block:=⟨hc0,ad,hbase,rfl⟩
   have s2:=s1.frz hg (h3 _ hhas).2 (s.del_no hb h1 hhas) (h3 _ hhas).1;have hx:=Z1k (h3 _ hhas).2 cells;refine hput s2 ?_;rw [hv,hbase,← h2.len];have hlt2:∀ i j,i<b.elems.length→j<loc'.esz→ad.off+(i*loc'.esz+j)<cells.size:=fun i j hi hj=>by
    have:=Z1u (n:=loc'.cap) (i:=i) (j:=j) (esz:=loc'.esz) (by have:=h2.cap; have:=h2.len;omega) hj;omega
   refine .vec ad loc'.cap loc'.esz b.elems false (fun i j=>cells.getD (ad.off+(i*loc'.esz+j)) undef) (fun _=>hs) (by rw [h2.len]; exact h2.cap) (by simp) (by rw [h2.len]; exact h2.max) (fun i hi=>h2.el _ (by simp [Y0b,hi])) (fun i j hi hj=>?_) (fun i j hi hj=>?_)
   · exact Z1o F _ _ (hlt2 i j hi hj) (hrep i j (by rw [← h2.len]; exact hi) hj).1
   · exact (hrep i j (by rw [← h2.len]; exact hi) hj).2.mono hx fun _ _ h=>h
theorem Z7I (e:Env) (d:Nat) (p q:PV):(e.upd d p).upd d q=e.upd d q:=by
 funext j;by_cases hj:j=d
 · subst hj; rw [Env.upd_same,Env.upd_same]
 · rw [Env.upd_ne _ _ hj,Env.upd_ne _ _ hj,Env.upd_ne _ _ hj]
theorem Z7J (h:Heap) (k id:Nat) (b:Bx) (hid:h id=none):((h.del k).upd id b).del id=h.del k:=by
 funext j;by_cases hj:j=id
 · subst hj;rw [Heap.del_same];by_cases hjk:j=k
   · subst hjk; rw [Heap.del_same]
   · rw [Heap.del_ne _ hjk,hid]
 · rw [Heap.del_ne _ hj,Heap.upd_ne _ _ hj]
def MSpec (P:Program) (f:FuncId) (b:Bx) (rest:List PV) (mk:Nat→PV) (R:Bx→Prop):Prop :=
 ISpec P f 1 (.own 0 :: rest) (Heap.upd (fun _=>none) 0 b) fun n' r h'=>∃ id b',r=mk id∧h' id=some b'∧pureLL b'.elems∧R b'
theorem MSpec.run {f:FuncId} {b:Bx} {rest:List PV} {mk:Nat→PV} {R:Bx→Prop} (hs:MSpec P f b rest mk R) (hmk:Mk mk) (hpb:pureLL b.elems) (hpr:pureL rest) {k n:Nat} (hn:Fr n) (hb:h k=some b) (s:St' C Fr e h F φ a w) {vs:Array Value} (hv:RepL F φ vs (.own k :: rest)) :
 Calls P f vs w fun en w'=>∃ v b' F' φ',en=.returned v∧(pureLL b'.elems∧R b')∧Rep F' φ' v (mk n)∧St' C (fun i=>Fr i∧i≠n) e ((h.del k).upd n b') F' φ' a w':=by
 obtain⟨loc,hloc,hbx,hhas⟩:=s.live k b hb
 let φ1:Locs:=fun i=>if i=0 then some loc else none
 let C1:Ctx:=⟨w,fun g=>loc.has g,F,C.nt,φ1⟩
 have hφn:φ n=none:=s.free n hn;have hnone:∀ {i:Nat} {bi:Bx},h i=some bi→i≠n:=by
  rintro i bi hi rfl;obtain⟨loc,h1,_⟩:=s.live i bi hi;rw [hφn] at h1; cases h1
 have hG:∀ g,C1.G g→C.w0.heap.size≤g ∨ C.G g:=fun g hg=>(hhas g hg).1;have hcells:∀ g,C1.G g→∀ o:Obj,w.heap[g]?=some o→¬ o=.deferred (some []):=by
  rintro g hg o ho rfl;rcases hbx.there hg with⟨cells,t,hg⟩|⟨es,t,hg⟩
  · rw [hg] at ho; cases ho
  · rw [hg] at ho; cases ho
 have h0:∀ {i:Nat} {b0:Bx},(Heap.upd (fun _=>none) 0 b) i=some b0→i=0∧b0=b:=by
  intro i b0 hi;by_cases hi0:i=0
  · subst hi0; rw [Heap.upd_same] at hi; exact⟨rfl,(Option.some.inj hi).symm⟩
  · rw [Heap.upd_ne _ _ hi0] at hi; cases hi
 have s1:St' C1 (fun i=>1≤i) (fun _=>none) (Heap.upd (fun _=>none) 0 b) F φ1 { a with defers := [] } w:=by
  refine { nt:=s.nt,glob:=s.glob,marks:=Marks.nil rfl,loc0:=fun i x hx=>hx,free:=fun i hi=>?_,env:=fun j p hp=>(by cases hp),froz:=s.froz,ext:=fun _ _ h=>h,old:=fun _ _ _=>rfl,os:=rfl,tape:=rfl,output:=rfl,size:=Y0m _,kept:=fun _ _ _=>rfl,live:=fun i b0 hi=>?_,sep:=fun i j bi bj li lj g hi hj _ _ _ _=>?_ }
  · simp only [φ1]; rw [if_neg (by omega)]
  · obtain ⟨rfl, rfl⟩ := h0 hi;exact⟨loc,by simp [φ1],hbx.names hpb,fun g hg=>⟨.inr hg,(hhas g hg).2⟩⟩
  · rw [(h0 hi).1,(h0 hj).1]
 have hv1:RepL F φ1 vs (.own 0 :: rest):=by
  refine⟨hv.1,fun i hi=>?_⟩;have hr:=hv.2 i hi;cases i with
  | zero =>
    obtain⟨loc',g1,gz,g4⟩:=(show Rep F φ (vs.getD 0 undef) (.own k) from hr).own_inv;obtain rfl:loc'=loc:=by rw [hloc] at g1; simpa using g1.symm
    rw [g4];exact .own 0 loc' (by simp [φ1]) gz
  | succ i =>
    have e1:(PV.own k :: rest).getD (i+1) pvu=rest.getD i pvu:=rfl;have e2:(PV.own 0 :: rest).getD (i+1) pvu=rest.getD i pvu:=rfl;rw [e1] at hr;rw [e2];exact hr.pure (ZS hpr i)
 refine (hs.2 C1 _ F φ1 { a with defers := [] } w vs s1 hv1).mono ?_;rintro en w' ⟨v,r,n',h',F',φ',rfl,⟨id,b',rfl,hb',hpb',hR⟩,hvr,s'⟩;obtain⟨loc',hl1,hl2,hl3⟩:=s'.live id b' hb';have hnew:∀ g,loc'.has g→w.heap.size≤g ∨ loc.has g:=fun g hg=>(hl3 g hg).1
 let φ2:Locs:=fun i=>if i=n then some loc' else φ i
 have hφ2:φ2 n=some loc':=by simp [φ2]
 have hφ3:∀ {i:Nat},i≠n→φ2 i=φ i:=fun {i} hi=>by simp [φ2,hi]
 have hφ4:∀ i x,φ i=some x→φ2 i=some x:=fun i x hx=>by
  rw [hφ3 fun e=>by rw [e,hφn] at hx; cases hx]; exact hx
 have hold:∀ {i:Nat} {bi:Bx},i≠n→((h.del k).upd n b') i=some bi→i≠k∧h i=some bi:=by
  intro i bi hin hi;rw [Heap.upd_ne _ _ hin] at hi;exact Heap.del_some hi
 refine⟨v,b',F',φ2,rfl,⟨hpb',hR⟩,hmk F' φ' φ2 v id n (by rw [hl1,hφ2]) hvr,?_⟩
 refine { nt := s.nt, glob := s'.glob, marks := s.marks.mono (fun g hg => by rw [s'.kept g (Array.getElem?_eq_some_iff.1 hg).1 (fun hg' => hcells g hg' _ hg rfl)]; exact hg), loc0 := fun i x hx => hφ4 i x (s.loc0 i x hx), free := fun i hi => by rw [hφ3 hi.2]; exact s.free i hi.1, env := fun j p hp => ⟨(s.env j p hp).1, (s.env j p hp).2.mono s'.ext hφ4⟩, froz := s'.froz, ext := fun x v hx => s'.ext _ _ (s.ext x v hx),
          old:=fun x hx hg=>?_,os:=s'.os.trans s.os,tape:=s'.tape.trans s.tape,output:=s'.output.trans s.output,size:=Y03 s.size s'.size,kept:=fun g hk hg=>?_,live:=fun i bi hi=>?_,sep:=fun i j bi bj li lj g hi hj hli hlj hki hkj=>?_ }
 · have hx2 : x.block < w.heap.size := Nat.lt_of_lt_of_le hx s.size;rw [s'.old x hx2 fun hg'=>(hG _ hg').elim (fun h1=>absurd hx (Nat.not_lt.2 h1)) hg];exact s.old x hx hg
 · rw [s'.kept g (Nat.lt_of_lt_of_le hk s.size) fun hg' => (hG _ hg').elim (fun h1 => absurd hk (Nat.not_lt.2 h1)) hg];exact s.kept g hk hg
 · by_cases hid : i = n
   · subst hid;rw [Heap.upd_same] at hi;cases hi;exact⟨loc',hφ2,hl2.names hpb',fun g hg=>⟨(hnew g hg).elim (fun h1=>.inl (Y03 s.size h1)) (fun h1=>(hhas g h1).1),(hl3 g hg).2⟩⟩
   · obtain ⟨hik, hi0⟩ := hold hid hi;obtain⟨li,g1,g2,g3⟩:=s.live i bi hi0;have hout:∀ g,li.has g→¬ C1.G g:=fun g hk hg=>hik (s.sep i k bi b li loc g hi0 hb g1 hloc hk hg);have hblk:∀ g,li.has g→w'.heap[g]?=w.heap[g]?:=fun g hk=>s'.kept g (s.has_lt hi0 g1 hk) (hout g hk);refine⟨li,by rw [hφ3 hid]; exact g1,g2.mono s'.ext hφ4 hblk,fun g hk=>⟨(g3 g hk).1,fun x hx=>?_⟩⟩;rw [s'.old x (by rw [hx]; exact s.has_lt hi0 g1 hk) (by rw [hx]; exact hout g hk)];exact (g3 g hk).2 x hx
 · have low : ∀ {i : Nat} {bi : Bx} {li : Loc}, i ≠ n → ((h.del k).upd n b') i = some bi → φ2 i = some li → li.has g → (i ≠ k ∧ h i = some bi ∧ φ i = some li ∧ g < w.heap.size) := by
    intro i bi li hne hi hli hki;obtain⟨hik,hi0⟩:=hold hne hi;rw [hφ3 hne] at hli;exact⟨hik,hi0,hli,s.has_lt hi0 hli hki⟩
   have clash:∀ {i:Nat} {bi:Bx} {li:Loc},i≠n→((h.del k).upd n b') i=some bi→φ2 i=some li→li.has g→loc'.has g→False:=by
    intro i bi li hne hi hli hki hkn;obtain⟨hik,q1,q2,hlt⟩:=low hne hi hli hki;rcases hnew g hkn with h1|h1
    · omega
    · exact hik (s.sep i k bi b li loc g q1 hb q2 hloc hki h1)
   by_cases hi':i=n
   · by_cases hj' : j = n
     · rw [hi',hj']
     · subst hi';rw [hφ2] at hli;cases hli;exact (clash hj' hj hlj hkj hki).elim
   · by_cases hj' : j = n
     · subst hj';rw [hφ2] at hlj;cases hlj;exact (clash hi' hi hli hki hkj).elim
     · obtain ⟨_, q1, q2, _⟩ := low hi' hi hli hki;obtain⟨_,p1,p2,_⟩:=low hj' hj hlj hkj;exact s.sep i j bi bj li lj g q1 p1 q2 p2 hki hkj
theorem Z9O (hok:FenceOk FN m) {o:Oper} {f:Operand} {args:List Operand} (hc:cOp P o=some (.call f args)) (hdst:dstOk C.nt o.dst=true) {d n:Nat} (hd:o.dst=some d) (hid:Fr n) (s:St' C Fr e h F φ a w) {g k:Nat} {caps as0 rest:List PV} {b b':Bx}
 (hf:ev e f=some (.fn g caps)) (has:evs e args=some as0) (hr:as0++caps=.own k :: rest) (hb:h k=some b) (hpb:pureLL b.elems) (hpb':pureLL b'.elems) (hpr:pureL rest) (hsp:MSpec P g b rest .own (· = b')) {next:Act→World→Prop} {Q:Exit→Act→World→Prop}
 (hnext:∀ a' w',St C (fun i=>Fr i∧i≠n) (updO e o.dst (.vec b'.elems false)) (h.del k) a' w'→next a' w'):o.wpIn FN m P a w next Q:=by
 refine⟨fun f _=>hok.fn f,?_⟩;rw [Oper.semAt_eq FN.round a.eval o (Z1H hc)];obtain⟨fn,hfn,hname,hbody⟩:=hsp.1;obtain⟨c,ho,hcal,hargs⟩:=Z2Y hc;subst hargs;obtain⟨vs,hvf,hrep⟩:=Z3K s hf has;have hrun:(execOp a.eval o).run P w=.ok (.enter g (c.args.map a.eval++vs)) w:=by
  have h1 : ¬ fn.name = "runtime.NumGoroutine" := by simpa using hname
  have h2:¬ fn.body=none:=fun h=>by rw [h] at hbody; simp at hbody
  simp [execOp,ho,resolve,hcal,hvf,Deferred.ofValue,invoke,callFunc,hfn,h1,h2]
 rw [hrun];rw [hr] at hrep;refine⟨fun hd=>by rw [hok.depth] at hd; simp at hd,hok.calls _ _ _ _ _ ((hsp.run Z5Z hpb hpr hid hb s hrep).mono ?_)⟩;rintro en w' ⟨v,b2,F',φ',rfl,⟨h1,rfl⟩,hvr,s'⟩;refine hnext _ _ ?_;have hnone:h n=none:=by
  cases hq:h n with
  | none=>rfl
  | some bq=>obtain⟨loc,h1,_⟩:=s.live _ bq hq; rw [s.free _ hid] at h1; cases h1
 have s2:St C (fun i=>Fr i∧i≠n) (updO e o.dst (.own n)) ((h.del k).upd n b2) (a.put o.dst v) w':=⟨F',φ',s'.putO hdst hvr⟩
 rw [hd] at s2 ⊢;have s3:=St.frzSlot (k:=d) s2 (Env.upd_same _ _ _) (Heap.upd_same _ _ _) hpb';rw [Z7J _ _ _ _ hnone] at s3;have e1:(updO e (some d) (.own n)).upd d (.vec b2.elems false)=updO e (some d) (.vec b2.elems false):=Z7I _ _ _ _
 rwa [e1] at s3
theorem Holds.kept {F:Froz} {w w':World} (hF:Holds F w) (hb:Below w.heap.size w w'):Holds F w':=by
 refine⟨fun x v hx=>?_,hF.2⟩;obtain⟨h1,h2,h3⟩:=hF.1 x v hx;refine⟨h1,h2,?_⟩;have hlt:x.block<w.heap.size:=by
  unfold World.cell? at h3
  split at h3
  · rename_i ho; exact (Array.getElem?_eq_some_iff.1 ho).1
  · cases h3
 rw [hb.cell hlt];exact h3
end
def opdT:Operand→List Nat
 | .tmp t => [t]
 | _ => []
def opdO:Option Operand→List Nat
 | some x=>opdT x
 | none => []
def AOp.tmps:AOp→List Nat
 | .mov x | .una _ x | .conv _ x | .b2s x | .s2b x | .box x | .load _ _ x | .nilck x | .faddr _ x | .field _ _ _ x | .len x | .lenS x | .extract x _ | .clear _ x | .isnil _ x | .isnilM _ x | .lenM x | .cap x=>opdT x
 | .pick c a b=>opdT c++(opdT a++opdT b)
 | .bin _ _ x y | .store _ x y | .iaddr _ x y | .iaddrA _ _ x y | .indexA _ _ _ x y | .indexS x y | .mslice _ _ x y | .append _ _ x y | .copy _ x y | .mx x y | .mn x y | .lookup _ _ _ _ x y | .appz _ _ x y=>opdT x++opdT y
 | .mapset _ x y z=>opdT x++(opdT y++opdT z)
 | .slcS x lo hi=>opdT x++(opdO lo++opdO hi)
 | .slcA _ x lo hi=>opdT x++(opdO lo++opdO hi)
 | .alloc _ | .lenA _ | .mkmap => []
 | .build _ ps=>ps.flatMap fun q=>opdT q.2.2
 | .bslice _ _ ps=>ps.flatMap fun q=>opdT q.2
 | .slc _ x lo hi top=>opdT x++(opdO lo++(opdO hi++opdO top))
 | .mkfn _ l=>l.flatMap opdT
 | .call f l=>opdT f++l.flatMap opdT
def Agree (l:List Nat) (e e':Env):Prop:=∀ t∈l,e' t=e t
theorem Agree.left {l m:List Nat} {e e':Env} (h:Agree (l++m) e e'):Agree l e e':=fun t ht=>h t (by simp [ht])
theorem Agree.right {l m:List Nat} {e e':Env} (h:Agree (l++m) e e'):Agree m e e':=fun t ht=>h t (by simp [ht])
theorem Zf {e e':Env} {x:Operand} (h:Agree (opdT x) e e'):ev e' x=ev e x:=by
 cases x with
 | tmp t=>exact h t (by simp [opdT])
 | _=>rfl
theorem Z3j {e e':Env} {l:List Operand} (h:Agree (l.flatMap opdT) e e'):evs e' l=evs e l:=by
 induction l with
 | nil=>rfl
 | cons x r ih =>
   rw [List.flatMap_cons] at h;simp only [evs,Zf h.left,ih h.right]
theorem Z1l {e e':Env} {d:Int} {x:Option Operand} (h:Agree (opdO x) e e'):bndAt e' d x=bndAt e d x:=by
 cases x with
 | none=>rfl
 | some y=>simp only [bndAt,Zf (x:=y) h]
theorem Z5r {e e':Env}:∀ {ps:List (Nat×Nat×Operand)} {l:List PV},Agree (ps.flatMap fun q=>opdT q.2.2) e e'→buildL e' l ps=buildL e l ps
 | [],_,_=>rfl
 | (off, size, x) :: r, l, h => by
   rw [List.flatMap_cons] at h;simp only [buildL,Zf (x:=x) h.left]
   split
   · split
     · exact Z5r h.right
     · rfl
   · rfl
theorem Z3k {e e':Env} {size:Nat}:∀ {ps:List (Nat×Operand)} {l:List (List PV)},Agree (ps.flatMap fun q=>opdT q.2) e e'→buildS e' size l ps=buildS e size l ps
 | [],_,_=>rfl
 | (i, x) :: r, l, h => by
   rw [List.flatMap_cons] at h;simp only [buildS,Zf (x:=x) h.left]
   split
   · split
     · exact Z3k h.right
     · rfl
   · rfl
theorem Z9P {op:AOp} {e e':Env} (h:Agree op.tmps e e') (hp:Heap) (id:Nat):dEval op e' hp id=dEval op e hp id:=by
 cases op<;>simp only [AOp.tmps] at h<;>simp only [dEval]
 case mov x=>rw [Zf h]
 case una x=>rw [Zf h]
 case conv x=>rw [Zf h]
 case b2s x=>rw [Zf h]
 case s2b x=>rw [Zf h]
 case box x=>rw [Zf h]
 case load x=>rw [Zf h]
 case nilck x=>rw [Zf h]
 case faddr x=>rw [Zf h]
 case field x=>rw [Zf h]
 case len x=>rw [Zf h]
 case lenS x=>rw [Zf h]
 case clear x=>rw [Zf h]
 case isnil x=>rw [Zf h]
 case isnilM x=>rw [Zf h]
 case lenM x=>rw [Zf h]
 case cap x=>rw [Zf h]
 case appz x y=>rw [Zf h.left,Zf h.right]
 case lookup x y=>rw [Zf h.left,Zf h.right]
 case mapset x y z=>rw [Zf h.left,Zf h.right.left,Zf h.right.right]
 case slcS x lo hi =>
  rw [Zf h.left];simp only [Z1l h.right.left,Z1l h.right.right]
 case slcA x lo hi =>
  rw [Zf h.left];simp only [Z1l h.right.left,Z1l h.right.right]
 case extract x i=>rw [Zf h]
 case pick c a b=>rw [Zf h.left,Zf h.right.left,Zf h.right.right]
 case bin x y=>rw [Zf h.left,Zf h.right]
 case store x y=>rw [Zf h.left,Zf h.right]
 case iaddr x y=>rw [Zf h.left,Zf h.right]
 case iaddrA x y=>rw [Zf h.left,Zf h.right]
 case indexA x y=>rw [Zf h.left,Zf h.right]
 case indexS x y=>rw [Zf h.left,Zf h.right]
 case mslice x y=>rw [Zf h.left,Zf h.right]
 case append x y=>rw [Zf h.left,Zf h.right]
 case copy x y=>rw [Zf h.left,Zf h.right]
 case mx x y=>rw [Zf h.left,Zf h.right]
 case mn x y=>rw [Zf h.left,Zf h.right]
 case build ps=>rw [Z5r h]
 case bslice ps=>rw [Z3k h]
 case mkfn l=>rw [Z3j h]
 case slc x lo hi mx =>
  rw [Zf h.left];simp only [Z1l h.right.left,Z1l h.right.right.left];cases mx with
  | none=>rfl
  | some m=>simp only [Zf (x:=m) h.right.right.right]
theorem Z9Q {op:AOp} {e e':Env} (h:Agree op.tmps e e') (hp:Heap) (id:Nat):fEval op e' hp id=fEval op e hp id:=by
 cases op<;>simp only [AOp.tmps] at h<;>simp only [fEval]
 case box x=>rw [Zf h]
 case mslice x y=>rw [Zf h.left,Zf h.right]
 case lookup x y=>rw [Zf h.left,Zf h.right]
 case append x y=>rw [Zf h.left,Zf h.right]
 case bslice ps=>rw [Z3k h]
 case slc x lo hi mx =>
  cases mx with
  | some m=>rfl
  | none =>
    simp only [Zf h.left,Z1l h.right.left,Z1l h.right.right.left]
inductive Eff where
 | none
 | new (id:Nat) (b:Bx)
 | set (k:Nat) (b:Bx)
 | move (k id:Nat) (b:Bx)
 | drop (k:Nat)
def Eff.app:Eff→Heap→Heap
 | .none,h=>h
 | .new id b,h=>h.upd id b
 | .set k b,h=>h.upd k b
 | .move k id b,h=>fun j=>bif Nat.beq j id then some b else bif Nat.beq j k then Option.none else h j
 | .drop k,h=>h.del k
def AOp.touch:AOp→Bool
 | .load _ _ _ | .store _ _ _ | .iaddr _ _ _ | .len _ | .slc _ _ _ _ _ | .append _ _ _ _ | .copy _ _ _ | .clear _ _ | .lookup _ _ _ _ _ _ | .mapset _ _ _ _ | .lenM _=>true
 | _=>false
structure Rsv where
 call:Option Nat
 grp:List (Nat×Nat)
 un:List Nat
 own:Option Nat:=none
def Rsv.no:Rsv:=⟨none,[],[],none⟩
def Rsv.to (i:Nat):Rsv:=⟨some i,[],[],none⟩
def HZ (z:Rsv) (n:Nat):Prop:=∀ i,z.call=some i→i<n ∨ ∃ j,z.own=some j∧i=n+j
def grpOf:List (Nat×Nat)→Nat→Option Nat
 | [],_=>none
 | (k,m) :: l,j=>bif Nat.beq j k then some m else grpOf l j
def grpB (z:Rsv) (it k:Nat):Bool:=match grpOf z.grp k with|some m=>m.testBit it|none=>true
def apartB (z:Rsv) (it k:Nat):Bool:=match grpOf z.grp k with|some m=>Nat.beq (m &&& z.un.getD it 0) 0|none=>false
def resv:Option Nat→Nat→Bool
 | some j,k=>Nat.beq j k
 | none,_=>false
def okId (z:Rsv) (n it mask k:Nat):Bool := !resv z.call k&&(Nat.blt k n||(mask.testBit (k-n)))&&grpB z it k
def okPtr (z:Rsv) (n it mask:Nat):Option PV→Bool
 | some (.ptr k _ _)=>okId z n it mask k
 | some (.own k)=>okId z n it mask k
 | some (.view k _ _)=>okId z n it mask k
 | some (.sl k _ _ _ _)=>okId z n it mask k
 | some (.mp k)=>okId z n it mask k
 | _=>true
def okW (z:Rsv) (n it iso k:Nat):Bool:=iso.testBit 0||(Nat.ble n k&&iso.testBit (k-n+1))||apartB z it k
def okWP (z:Rsv) (n it iso:Nat):Option PV→Bool
 | some (.ptr k _ _)=>okW z n it iso k
 | some (.own k)=>okW z n it iso k
 | some (.view k _ _)=>okW z n it iso k
 | some (.sl k _ _ _ _)=>okW z n it iso k
 | some (.mp k)=>okW z n it iso k
 | _=>iso.testBit 0
def accOk (z:Rsv) (op:AOp) (e:Env) (n it mask iso:Nat):Bool :=
 match op with
 | .load _ _ a=>okPtr z n it mask (ev e a)
 | .store _ a _=>okPtr z n it mask (ev e a)&&okWP z n it iso (ev e a)
 | .copy _ d x=>okPtr z n it mask (ev e d)&&(okWP z n it iso (ev e d)&&okPtr z n it mask (ev e x))
 | .iaddr _ x _=>okPtr z n it mask (ev e x)
 | .len x=>okPtr z n it mask (ev e x)
 | .slc _ x _ _ _=>match ev e x with|some (.own _)=>false|some (.view _ _ _)=>false|_=>true
 | .clear _ x=>okPtr z n it mask (ev e x)&&okWP z n it iso (ev e x)
 | .lookup _ _ _ _ x _=>okPtr z n it mask (ev e x)
 | .mapset _ x _ _=>okPtr z n it mask (ev e x)&&okWP z n it iso (ev e x)
 | .lenM x=>okPtr z n it mask (ev e x)
 | .append _ _ s _=>match ev e s with|some (.own k)=>okId z n it mask k&&okW z n it iso k|_=>true
 | _=>true
def evalB (alt:Bool) (op:AOp) (e:Env) (h:Heap) (id:Nat):Option (PV×Heap):=match alt with|true=>fEval op e h id|false=>dEval op e h id
def EffOk (z:Rsv) (call:Bool) (n it mask iso:Nat) (id:Nat):Eff→Prop
 | .none=>True
 | .new i _=>i=id
 | .set k _=>(okW z n it iso k=true∧okId z n it mask k=true) ∨ (call=true∧z.call=some k)
 | .move k i _=>okW z n it iso k=true∧okId z n it mask k=true∧i=id
 | .drop k=>(okW z n it iso k=true∧okId z n it mask k=true) ∨ (call=true∧z.call=some k)
theorem ZdG {alt:Bool} {op:AOp} {e:Env} {h h':Heap} {id n it mask iso:Nat} {p:PV} {z:Rsv} (hd:evalB alt op e h id=some (p,h')) (ha:accOk z op e n it mask iso=true) :
 ∃ f:Eff,h'=f.app h∧EffOk z false n it mask iso id f∧(f=.none ∨ op.touch=true ∨ ∃ b,f=.new id b)∧∀ h2:Heap,(op.touch=true→∀ k,okId z n it mask k=true→h2 k=h k)→evalB alt op e h2 id=some (p,f.app h2):=by
 cases alt with
 | true =>
   simp only [evalB] at hd ⊢;cases op<;>simp only [fEval] at hd<;>try (simp at hd; done)
   case alloc z=>cases hd; exact⟨.none,rfl,Yt,.inl rfl,fun h2 _=>rfl⟩
   case box x =>
    split at hd
    case h_2=>simp at hd
    rename_i q hq
    split at hd
    case isFalse=>simp at hd
    rename_i hc;cases hd;exact⟨.none,rfl,Yt,.inl rfl,fun h2 _=>by simp only [fEval,hq,hc,if_true,Eff.app]⟩
   case mslice z b x y =>
    split at hd
    case h_2=>simp at hd
    rename_i n' m' hn hm
    split at hd
    case isFalse=>simp at hd
    rename_i hc;cases hd;exact⟨.none,rfl,Yt,.inl rfl,fun h2 _=>by simp only [fEval,hn,hm,if_pos hc,Eff.app]⟩
   case lookup c agg z ok x y =>
    split at hd
    case h_2=>cases hd
    rename_i kp hx hy
    split at hd
    case isFalse=>cases hd
    rename_i hc;cases hd;exact⟨.none,rfl,Yt,.inl rfl,fun h2 _=>by simp only [fEval,hx,hy,if_pos hc,Eff.app]⟩
   case append z b x y =>
    split at hd
    case h_2=>simp at hd
    rename_i l m full hx hy
    split at hd
    case isFalse=>simp at hd
    rename_i hc;cases hd;exact⟨.none,rfl,Yt,.inl rfl,fun h2 _=>by simp only [fEval,hx,hy,if_pos hc,Eff.app]⟩
   case bslice z n' ps =>
    split at hd
    case h_2=>simp at hd
    rename_i l hl;cases hd;exact⟨.new id ⟨z.length,l⟩,rfl,rfl,.inr (.inr ⟨_,rfl⟩),fun h2 _=>by simp only [fEval,hl,Eff.app]⟩
   case slc esz x lo hi mx =>
    simp only [accOk] at ha;cases mx with
    | some m=>cases hd
    | none =>
      simp only at hd
      split at hd
      · rename_i k hk; rw [hk] at ha; cases ha
      · rename_i k o n' hk; rw [hk] at ha; cases ha
      · rename_i l hx
        split at hd
        case h_2=>cases hd
        rename_i A B hA hB
        split at hd
        case isFalse=>cases hd
        rename_i hc;cases hd;exact⟨.none,rfl,Yt,.inl rfl,fun h2 _=>by simp only [fEval,hx,hA,hB,if_pos hc,Eff.app]⟩
      · cases hd
 | false =>
   simp only [evalB] at hd ⊢
   -- those that make an object,or look at one
   by_cases ht:op.touch=true
   · cases op <;> simp only [AOp.touch, Bool.false_eq_true] at ht
     case load agg size x =>
      simp only [dEval] at hd
      split at hd
      · rename_i l hl
        split at hd
        · rename_i q hq;cases hd;exact⟨.none,rfl,Yt,.inl rfl,fun h2 _=>by simp only [dEval,hl,hq,Eff.app]⟩
        · simp at hd
      · rename_i k i off hl
        split at hd
        · rename_i b hb
          split at hd
          case isFalse=>simp at hd
          rename_i hi
          split at hd
          · rename_i q hq;cases hd;refine⟨.none,rfl,Yt,.inl rfl,fun h2 h2a=>?_⟩;have hk:h2 k=some b:=by rw [h2a rfl k (by simpa [accOk,hl,okPtr] using ha)]; exact hb
            simp only [dEval,hl,hk,if_pos hi,hq,Eff.app]
          · simp at hd
        · simp at hd
      · simp at hd
     case store size x y =>
      simp only [dEval] at hd
      split at hd
      case h_2=>simp at hd
      rename_i k i off q hx hy
      split at hd
      case h_2=>simp at hd
      rename_i b hb
      split at hd
      case isFalse=>simp at hd
      rename_i hc;cases hd;have ha':okId z n it mask k=true∧okW z n it iso k=true:=by simpa [accOk,hx,okPtr,okWP] using ha
      refine⟨.set k ⟨b.esz,b.elems.set i (setAt (b.elems.getD i []) off q.cells)⟩,rfl,.inl ⟨ha'.2,ha'.1⟩,.inr (.inl rfl),fun h2 h2a=>?_⟩;have hk:h2 k=some b:=by rw [h2a rfl k ha'.1]; exact hb
      simp only [dEval,hx,hy,hk,if_pos hc,Eff.app]
     case copy esz x y =>
      simp only [dEval] at hd
      split at hd
      case h_4=>simp at hd
      case h_2 =>
       rename_i k i o len cap m full hx hy
       split at hd
       case h_2=>simp at hd
       rename_i b hb
       split at hd
       case isFalse=>simp at hd
       rename_i hc;cases hd;have ha':okId z n it mask k=true∧okW z n it iso k=true:=by simpa [accOk,hx,hy,okPtr,okWP] using ha
       refine⟨.set k ⟨b.esz,b.elems.set i (setAt (b.elems.getD i []) o ((m.take len).map fun c=>c.getD 0 pvu))⟩,rfl,.inl ⟨ha'.2,ha'.1⟩,.inr (.inl rfl),fun h2 h2a=>?_⟩;have hk:h2 k=some b:=by rw [h2a rfl k ha'.1]; exact hb
       simp only [dEval,hx,hy,hk,if_pos hc,Eff.app]
      case h_3 =>
       rename_i k i o len cap k2 i2 o2 len2 cap2 hx hy
       split at hd
       case h_2=>simp at hd
       rename_i b b2 hb hb2
       split at hd
       case isFalse=>simp at hd
       rename_i hc;cases hd;have ha':okId z n it mask k=true∧okW z n it iso k=true∧okId z n it mask k2=true:=by simpa [accOk,hx,hy,okPtr,okWP] using ha
       refine⟨.set k ⟨b.esz,b.elems.set i (setAt (b.elems.getD i []) o ((((b2.elems.getD i2 []).drop o2).take len2).take len))⟩,rfl,.inl ⟨ha'.2.1,ha'.1⟩,.inr (.inl rfl),fun h2 h2a=>?_⟩;have hk:h2 k=some b:=by rw [h2a rfl k ha'.1]; exact hb
       have hk2:h2 k2=some b2:=by rw [h2a rfl k2 ha'.2.2]; exact hb2
       simp only [dEval,hx,hy,hk,hk2,if_pos hc,Eff.app]
      rename_i k m full hx hy
      split at hd
      case h_2=>simp at hd
      rename_i b hb
      split at hd
      case isFalse=>simp at hd
      rename_i hc;cases hd;have ha':okId z n it mask k=true∧okW z n it iso k=true:=by simpa [accOk,hx,hy,okPtr,okWP] using ha
      refine⟨.set k ⟨b.esz,m.take b.elems.length++b.elems.drop m.length⟩,rfl,.inl ⟨ha'.2,ha'.1⟩,.inr (.inl rfl),fun h2 h2a=>?_⟩;have hk:h2 k=some b:=by rw [h2a rfl k ha'.1]; exact hb
      simp only [dEval,hx,hy,hk,if_pos hc,Eff.app]
     case iaddr esz x i =>
      simp only [dEval] at hd
      split at hd
      · rename_i l full kk j hx hi
        split at hd
        case isFalse=>simp at hd
        rename_i h1
        split at hd
        case isFalse=>simp at hd
        rename_i h2';cases hd;exact⟨.none,rfl,Yt,.inl rfl,fun h2 _=>by simp only [dEval,hx,hi,if_pos h1,if_pos h2',Eff.app]⟩
      · rename_i k kk j hx hi
        split at hd
        case h_2=>simp at hd
        rename_i b hb
        split at hd
        case isFalse=>simp at hd
        rename_i h1
        split at hd
        case isFalse=>simp at hd
        rename_i h2';cases hd;refine⟨.none,rfl,Yt,.inl rfl,fun h2 h2a=>?_⟩;have hk:h2 k=some b:=by rw [h2a rfl k (by simpa [accOk,hx,okPtr] using ha)]; exact hb
        simp only [dEval,hx,hi,hk,if_pos h1,if_pos h2',Eff.app]
      · rename_i k lo len kk j hx hi
        split at hd
        case h_2=>simp at hd
        rename_i b hb
        split at hd
        case isFalse=>simp at hd
        rename_i h1
        split at hd
        case isFalse=>simp at hd
        rename_i h2';cases hd;refine⟨.none,rfl,Yt,.inl rfl,fun h2 h2a=>?_⟩;have hk:h2 k=some b:=by rw [h2a rfl k (by simpa [accOk,hx,okPtr] using ha)]; exact hb
        simp only [dEval,hx,hi,hk,if_pos h1,if_pos h2',Eff.app]
      · rename_i k i0 o len cap kk j hx hi
        split at hd
        case isFalse=>simp at hd
        rename_i h1;cases hd;exact⟨.none,rfl,Yt,.inl rfl,fun h2 _=>by simp only [dEval,hx,hi,if_pos h1,Eff.app]⟩
      · simp at hd
     case len x =>
      simp only [dEval] at hd
      split at hd
      · rename_i l full hx;cases hd;exact⟨.none,rfl,Yt,.inl rfl,fun h2 _=>by simp only [dEval,hx,Eff.app]⟩
      · rename_i k hx
        split at hd
        case h_2=>simp at hd
        rename_i b hb;cases hd;refine⟨.none,rfl,Yt,.inl rfl,fun h2 h2a=>?_⟩;have hk:h2 k=some b:=by rw [h2a rfl k (by simpa [accOk,hx,okPtr] using ha)]; exact hb
        simp only [dEval,hx,hk,Eff.app]
      · rename_i k lo n' hx;cases hd;exact⟨.none,rfl,Yt,.inl rfl,fun h2 _=>by simp only [dEval,hx,Eff.app]⟩
      · rename_i k i0 o n' cap hx;cases hd;exact⟨.none,rfl,Yt,.inl rfl,fun h2 _=>by simp only [dEval,hx,Eff.app]⟩
      · simp at hd
     case clear zv x =>
      simp only [dEval] at hd
      split at hd
      case h_2=>cases hd
      rename_i k lo n' hx
      split at hd
      case h_2=>cases hd
      rename_i b hb
      split at hd
      case isFalse=>cases hd
      rename_i hc;cases hd;have ha':okId z n it mask k=true∧okW z n it iso k=true:=by simpa [accOk,hx,okPtr,okWP] using ha
      refine⟨.set k ⟨b.esz,b.elems.take lo++(List.replicate n' (zpv zv)++b.elems.drop (lo+n'))⟩,rfl,.inl ⟨ha'.2,ha'.1⟩,.inr (.inl rfl),fun h2 h2a=>?_⟩;have hk:h2 k=some b:=by rw [h2a rfl k ha'.1]; exact hb
      simp only [dEval,hx,hk,if_pos hc,Eff.app]
     case lookup c agg zv ok x y =>
      simp only [dEval] at hd
      split at hd
      case h_2=>cases hd
      rename_i k kp hx hy
      split at hd
      case h_2=>cases hd
      rename_i b hb
      split at hd
      case isFalse=>cases hd
      rename_i hc;have hk:∀ h2:Heap,(AOp.touch (.lookup c agg zv ok x y)=true→∀ k,okId z n it mask k=true→h2 k=h k)→h2 k=some b:=fun h2 h2a=>by rw [h2a rfl k (by simpa [accOk,hx,okPtr] using ha)]; exact hb
      split at hd
      case h_3=>cases hd
      · rename_i j hj;cases hd;exact⟨.none,rfl,Yt,.inl rfl,fun h2 h2a=>by simp only [dEval,hx,hy,hk h2 h2a,if_pos hc,hj,Eff.app]⟩
      · rename_i hj;cases hd;exact⟨.none,rfl,Yt,.inl rfl,fun h2 h2a=>by simp only [dEval,hx,hy,hk h2 h2a,if_pos hc,hj,Eff.app]⟩
     case mapset c x y v =>
      simp only [dEval] at hd
      split at hd
      case h_2=>cases hd
      rename_i k kp q hx hy hv
      split at hd
      case h_2=>cases hd
      rename_i b hb
      split at hd
      case isFalse=>cases hd
      rename_i hc;have ha':okId z n it mask k=true∧okW z n it iso k=true:=by simpa [accOk,hx,okPtr,okWP] using ha
      have hk:∀ h2:Heap,(AOp.touch (.mapset c x y v)=true→∀ k,okId z n it mask k=true→h2 k=h k)→h2 k=some b:=fun h2 h2a=>by rw [h2a rfl k ha'.1]; exact hb
      split at hd
      case h_3=>cases hd
      · rename_i j hj;cases hd;exact⟨.set k ⟨0,b.elems.set j [kp,q]⟩,rfl,.inl ⟨ha'.2,ha'.1⟩,.inr (.inl rfl),fun h2 h2a=>by simp only [dEval,hx,hy,hv,hk h2 h2a,if_pos hc,hj,Eff.app]⟩
      · rename_i hj;cases hd;exact⟨.set k ⟨0,b.elems ++ [[kp,q]]⟩,rfl,.inl ⟨ha'.2,ha'.1⟩,.inr (.inl rfl),fun h2 h2a=>by simp only [dEval,hx,hy,hv,hk h2 h2a,if_pos hc,hj,Eff.app]⟩
     case lenM x =>
      simp only [dEval] at hd
      split at hd
      case h_2=>cases hd
      rename_i k hx
      split at hd
      case h_2=>cases hd
      rename_i b hb
      split at hd
      case isFalse=>cases hd
      rename_i hc;cases hd;have hk:∀ h2:Heap,(AOp.touch (.lenM x)=true→∀ k,okId z n it mask k=true→h2 k=h k)→h2 k=some b:=fun h2 h2a=>by rw [h2a rfl k (by simpa [accOk,hx,okPtr] using ha)]; exact hb
      exact⟨.none,rfl,Yt,.inl rfl,fun h2 h2a=>by simp only [dEval,hx,hk h2 h2a,if_pos hc,Eff.app]⟩
     case slc esz x lo hi mx =>
      have key:∀ h2,dEval (.slc esz x lo hi mx) e h2 id=(dEval (.slc esz x lo hi mx) e h id).map fun r=>(r.1,h2):=by
       intro h2;simp only [dEval];simp only [accOk] at ha
       split
       · split
         · split
           · split<;>rfl
           · split
             · split<;>rfl
             · rfl
         · rfl
       · rename_i k hk;rw [hk] at ha;simp at ha
       · rfl
      have hh:h'=h:=by
       have h3:=key h;rw [hd] at h3;have:=Option.some.inj h3;exact (Prod.mk.inj this).2
      subst hh;exact⟨.none,rfl,Yt,.inl rfl,fun h2 _=>by rw [key h2,hd]; rfl⟩
     case append zv b x y =>
      simp only [dEval] at hd
      split at hd
      case h_2=>simp at hd
      rename_i k m full hx hy
      split at hd
      case h_2=>simp at hd
      rename_i bx hb
      split at hd
      case isFalse=>simp at hd
      rename_i hc;cases hd;have ha':okId z n it mask k=true∧okW z n it iso k=true:=by simpa [accOk,hx] using ha
      refine⟨.move k id ⟨bx.esz,bx.elems++m⟩,rfl,⟨ha'.2,ha'.1,rfl⟩,.inr (.inl rfl),fun h2 h2a=>?_⟩;have hk:h2 k=some bx:=by rw [h2a rfl k ha'.1]; exact hb
      simp only [dEval,hx,hy,hk,if_pos hc,Eff.app]
   · have hmk : (∃ b, ∀ h2, dEval op e h2 id = some (p, h2.upd id b)) ∨ ∀ h2, dEval op e h2 id = some (p, h2) := by
      cases op<;>simp only [AOp.touch,not_true_eq_false,Bool.false_eq_true,not_false_eq_true] at ht<;>simp only [dEval] at hd ⊢
      case alloc z=>cases hd; exact .inl ⟨_,fun _=>rfl⟩
      case box x =>
       split at hd
       case h_2=>simp at hd
       rename_i q hq
       split at hd
       case isFalse=>simp at hd
       rename_i hc;cases hd;exact .inl ⟨⟨q.cells.length,[q.cells]⟩,fun h2=>by simp only [hc,if_true]⟩
      case mslice z b x y =>
       split at hd
       case h_2=>simp at hd
       rename_i n' m' hn hm
       split at hd
       case isFalse=>simp at hd
       rename_i hc;cases hd;exact .inl ⟨⟨z.length,List.replicate n'.toNat (zpv z)⟩,fun h2=>by simp only [if_pos hc]⟩
      case appz z b x y =>
       split at hd
       case h_2=>simp at hd
       rename_i m' hn hm
       split at hd
       case isFalse=>simp at hd
       rename_i hc;cases hd;exact .inl ⟨⟨z.length,List.replicate m'.toNat (zpv z)⟩,fun h2=>by simp only [if_pos hc]⟩
      case lenA n'=>cases hd; exact .inr fun _=>rfl
      case mkmap=>cases hd; exact .inl ⟨_,fun _=>rfl⟩
      case call=>simp at hd
      case mx x y =>
       split at hd
       case h_2=>simp at hd
       cases hd;exact .inr fun h2=>rfl
      case mn x y =>
       split at hd
       case h_2=>simp at hd
       cases hd;exact .inr fun h2=>rfl
      all_goals
       refine .inr fun h2=>?_;(repeat' (split at hd)) <;> first
         | (simp at hd; done)
         | (cases hd; simp_all; done)
     rcases hmk with⟨b,hmk⟩|hmk
     · have := hmk h;rw [hd] at this;cases this;exact⟨.new id b,rfl,rfl,.inr (.inr ⟨b,rfl⟩),fun h2 _=>hmk h2⟩
     · have := hmk h;rw [hd] at this;cases this;exact⟨.none,rfl,Yt,.inl rfl,fun h2 _=>hmk h2⟩
structure DItem where
 i:Nat
 o:AOper
 mask:Nat
 iso:Nat
 alt:Bool
def guardT:Option (Nat×Bool)→List Nat
 | some (s,_) => [s]
 | none => []
def DItem.look (x:DItem):List Nat:=x.o.op.tmps++guardT x.o.guard
def wantB (g:Option (Nat×Bool)) (e:Env):Option Bool :=
 match g with
 | none=>some true
 | some (s, b) => match e s with
   | some (.val (.bool c))=>some (c == b)
   | some (.val (.tuple _))=>some false
   | _=>none
def CallOk (P:Program) (f:Operand) (args:List Operand) (e:Env) (R:PV→Prop):Prop:=∃ g caps as0,ev e f=some (.fn g caps)∧evs e args=some as0∧Takes P g (as0++caps) R
def CallP (P:Program) (f:Operand) (args:List Operand) (e:Env) (id:Nat) (b:Bx) (R:PV→Bx→Prop):Prop:=∃ g caps as0,ev e f=some (.fn g caps)∧evs e args=some as0∧PRun P g id b (as0++caps) R
def CallN (P:Program) (f:Operand) (args:List Operand) (e:Env) (rd:Option (Nat×Bx)) (mk:Nat→PV) (b:Bx):Prop:=∃ g caps as0,ev e f=some (.fn g caps)∧evs e args=some as0∧NRun P g rd (as0++caps) mk b
def CallD (P:Program) (f:Operand) (args:List Operand) (e:Env) (k:Nat) (b b':Bx):Prop:=∃ g caps as0 rest,ev e f=some (.fn g caps)∧evs e args=some as0∧as0++caps=.own k :: rest∧pureLL b.elems∧pureLL b'.elems∧pureL rest∧MSpec P g b rest .own (· = b')
structure DetOk (z:Rsv) (n:Nat) (x:DItem) (e:Env) (h:Heap) (p:PV) (f:Eff):Prop where
 eff:EffOk z false n x.i x.mask x.iso (n+x.i) f
 touch:f=.none ∨ x.o.op.touch=true ∨ ∃ b,f=.new (n+x.i) b
 run:∀ h2:Heap,(x.o.op.touch=true→∀ k,okId z n x.i x.mask k=true→h2 k=h k)→evalB x.alt x.o.op e h2 (n+x.i)=some (p,f.app h2)
def isCall:AOp→Bool
 | .call _ _=>true
 | _=>false
inductive Sem1 (P:Program) (z:Rsv) (n:Nat) (x:DItem) (e:Env) (h:Heap):(PV→Eff→Prop)→Prop
 | skip (hw:wantB x.o.guard e=some false):Sem1 P z n x e h (fun q g=>q=pvu∧g=.none)
 | call (hw:wantB x.o.guard e=some true) (f:Operand) (args:List Operand) (ho:x.o.op=.call f args) (R:PV→Prop) (hc:CallOk P f args e R):Sem1 P z n x e h (fun q g=>R q∧g=.none)
 | callP (hw:wantB x.o.guard e=some true) (f:Operand) (args:List Operand) (ho:x.o.op=.call f args) (id:Nat) (hz:z.call=some id) (b:Bx) (hb:h id=some b) (R:PV→Bx→Prop) (hc:CallP P f args e id b R):Sem1 P z n x e h (fun q g=>∃ b',g=.set id b'∧q.pure∧pureLL b'.elems∧R q b')
 | callN (hw:wantB x.o.guard e=some true) (f:Operand) (args:List Operand) (ho:x.o.op=.call f args) (rd:Option (Nat×Bx)) (hrd:∀ k b0,rd=some (k,b0)→z.call=some k∧h k=some b0) (mk:Nat→PV) (b:Bx) (hc:CallN P f args e rd mk b):Sem1 P z n x e h (fun q g=>q=mk (n+x.i)∧g=.new (n+x.i) b)
 | callD (hw:wantB x.o.guard e=some true) (f:Operand) (args:List Operand) (ho:x.o.op=.call f args) (d:Nat) (hdst:x.o.dst=some d) (k:Nat) (hz:z.call=some k) (b b':Bx) (hb:h k=some b) (hc:CallD P f args e k b b'):Sem1 P z n x e h (fun q g=>q=.vec b'.elems false∧g=.drop k)
 | detF (hw : wantB x.o.guard e = some true) (ha : x.alt = true) (d : Nat) (hdst : x.o.dst = some d) (zz : List Value) (bytes : Nat) (sx y : Operand) (ho : x.o.op = .append zz bytes sx y) (k : Nat) (b : Bx) (m : List (List PV)) (fl : Bool) (hs : ev e sx = some (.own k)) (hy : ev e y = some (.vec m fl)) (hb : h k = some b)
    (hcond:(∀ c∈m,c.length=zz.length)∧b.esz=zz.length∧(b.elems.length+m.length)*bytes≤140737488355328) (hp:pureLL (b.elems++m)) (hacc:okId z n x.i x.mask k=true∧okW z n x.i x.iso k=true):Sem1 P z n x e h (fun q g=>q=.vec (b.elems++m) false∧g=.drop k)
 | det (hw:wantB x.o.guard e=some true) (hn:isCall x.o.op=false) (p:PV) (f:Eff) (hd:DetOk z n x e h p f):Sem1 P z n x e h (fun q g=>q=p∧g=f)
def dK (P:Program) (z:Rsv) (n:Nat):List DItem→Env→Heap→(Env→Heap→Prop)→Prop
 | [],e,h,K=>K e h
 | x :: xs,e,h,K=>∃ T,Sem1 P z n x e h T∧∀ p f,T p f→dK P z n xs (updO e x.o.dst p) (f.app h) K
section
variable {P:Program} {z:Rsv} {n:Nat}
theorem Z9R {g:Option (Nat×Bool)} {e e':Env} (h:Agree (guardT g) e e'):wantB g e'=wantB g e:=by
 cases g with
 | none=>rfl
 | some s=>simp only [wantB,h s.1 (by simp [guardT])]
theorem Sem1.agree {x:DItem} {e e':Env} {h h':Heap} {T:PV→Eff→Prop} (hs:Sem1 P z n x e h T) (he:Agree x.look e e') (hh:x.o.op.touch=true→∀ k,okId z n x.i x.mask k=true→h' k=h k) (hz:isCall x.o.op=true→∀ k,z.call=some k→h' k=h k):Sem1 P z n x e' h' T:=by
 have hg:wantB x.o.guard e'=wantB x.o.guard e:=Z9R he.right;cases hs with
 | skip hw=>exact .skip (by rw [hg]; exact hw)
 | call hw f args ho R hc =>
   obtain⟨g,caps,as0,h1,h2,h3⟩:=hc;have he':Agree (opdT f++args.flatMap opdT) e e':=by have:=he.left; rw [ho] at this; exact this
   exact .call (by rw [hg]; exact hw) f args ho R ⟨g,caps,as0,by rw [Zf he'.left]; exact h1,by rw [Z3j he'.right]; exact h2,h3⟩
 | callP hw f args ho id hzi b hb R hc =>
   obtain⟨g,caps,as0,h1,h2,h3⟩:=hc;have he':Agree (opdT f++args.flatMap opdT) e e':=by have:=he.left; rw [ho] at this; exact this
   exact .callP (by rw [hg]; exact hw) f args ho id hzi b (by rw [hz (by rw [ho]; rfl) id hzi]; exact hb) R ⟨g,caps,as0,by rw [Zf he'.left]; exact h1,by rw [Z3j he'.right]; exact h2,h3⟩
 | callN hw f args ho rd hrd mk b hc =>
   obtain⟨g,caps,as0,h1,h2,h3⟩:=hc;have he':Agree (opdT f++args.flatMap opdT) e e':=by have:=he.left; rw [ho] at this; exact this
   exact .callN (by rw [hg]; exact hw) f args ho rd (fun k b0 hk=>⟨(hrd k b0 hk).1,by rw [hz (by rw [ho]; rfl) k (hrd k b0 hk).1]; exact (hrd k b0 hk).2⟩) mk b ⟨g,caps,as0,by rw [Zf he'.left]; exact h1,by rw [Z3j he'.right]; exact h2,h3⟩
 | callD hw f args ho d hdst k hzk b b' hb hc =>
   obtain⟨g,caps,as0,rest,h1,h2,h3⟩:=hc;have he':Agree (opdT f++args.flatMap opdT) e e':=by have:=he.left; rw [ho] at this; exact this
   exact .callD (by rw [hg]; exact hw) f args ho d hdst k hzk b b' (by rw [hz (by rw [ho]; rfl) k hzk]; exact hb) ⟨g,caps,as0,rest,by rw [Zf he'.left]; exact h1,by rw [Z3j he'.right]; exact h2,h3⟩
 | detF hw ha d hdst zz bytes sx y ho k b m fl hs hy hb hcond hp hacc =>
   have he':Agree (opdT sx++opdT y) e e':=by have:=he.left; rw [ho] at this; exact this
   exact .detF (by rw [hg]; exact hw) ha d hdst zz bytes sx y ho k b m fl (by rw [Zf he'.left]; exact hs) (by rw [Zf he'.right]; exact hy) (by rw [hh (by rw [ho]; rfl) k hacc.1]; exact hb) hcond hp hacc
 | det hw hn p f hd =>
   refine .det (by rw [hg]; exact hw) hn p f ⟨hd.eff,hd.touch,fun h2 h2a=>?_⟩;have hev:evalB x.alt x.o.op e' h2 (n+x.i)=evalB x.alt x.o.op e h2 (n+x.i):=by
    unfold evalB;cases x.alt
    · exact Z9P he.left h2 _
    · exact Z9Q he.left h2 _
   rw [hev];exact hd.run h2 fun ht k hk=>by rw [h2a ht k hk,hh ht k hk]
structure Indep (z:Rsv) (x y:DItem):Prop where
 xy:∀ d,x.o.dst=some d→d ∉ y.look∧y.o.dst≠some d
 yx:∀ d,y.o.dst=some d→d ∉ x.look
 calls:isCall x.o.op=true→isCall y.o.op=false
 xiso:x.iso.testBit 0=true→y.o.op.touch=false
 yiso:y.iso.testBit 0=true→x.o.op.touch=false
 xlone:∀ j,x.iso.testBit (j+1)=true→y.o.op.touch=true→y.mask.testBit j=false
 ylone:∀ j,y.iso.testBit (j+1)=true→x.o.op.touch=true→x.mask.testBit j=false
 ne:x.i≠y.i
 mx:x.mask.testBit y.i=false
 my:y.mask.testBit x.i=false
 xun:z.grp = [] ∨ (y.o.op.touch=true→(z.un.getD x.i 0).testBit y.i=true)
 yun:z.grp = [] ∨ (x.o.op.touch=true→(z.un.getD y.i 0).testBit x.i=true)
 xown:z.own=some x.i→isCall x.o.op=true
 yown:z.own=some y.i→isCall y.o.op=true
theorem Z72 {e:Env} {d:Option Nat} {p:PV} {l:List Nat} (h:∀ k,d=some k→k ∉ l):Agree l e (updO e d p):=by
 intro t ht;cases d with
 | none=>rfl
 | some k=>exact Env.upd_ne _ _ fun hk=>h k rfl (hk▸ht)
theorem updO_agree' {e:Env} {d:Option Nat} {p:PV} {l:List Nat} (h:∀ k,d=some k→k ∉ l):Agree l (updO e d p) e:=fun t ht=>(Z72 (e:=e) (p:=p) h t ht).symm
theorem Z8F {e:Env} {d d':Option Nat} {p q:PV} (h:∀ k,d=some k→d'≠some k):updO (updO e d p) d' q=updO (updO e d' q) d p:=by
 cases d with
 | none=>rfl
 | some k =>
   cases d' with
   | none=>rfl
   | some k' =>
     have hne:k'≠k:=fun hk=>h k rfl (by rw [hk]);funext j;simp only [updO];by_cases h1:j=k
     · subst h1; rw [Env.upd_ne _ _ (Ne.symm hne),Env.upd_same,Env.upd_same]
     · by_cases h2 : j = k'
       · subst h2; rw [Env.upd_same,Env.upd_ne _ _ h1,Env.upd_same]
       · rw [Env.upd_ne _ _ h2,Env.upd_ne _ _ h1,Env.upd_ne _ _ h1,Env.upd_ne _ _ h2]
theorem Z4s {it m i:Nat} (h:m.testBit i=false):okId z n it m (n+i)=false:=by
 have h1:Nat.blt (n+i) n=false:=Bool.eq_false_iff.2 fun hb=>by have:=Nat.le_of_ble_eq_true hb; omega
 simp [okId,h,h1]
theorem Z4t {x y:DItem} (hi:Indep z x y) {k:Nat} (hw:okW z n x.i x.iso k=true) (ht:y.o.op.touch=true):okId z n y.i y.mask k=false:=by
 unfold okW at hw;rw [Bool.or_eq_true,Bool.or_eq_true,Y0k] at hw;rcases hw with (hw|⟨h1,h2⟩)|hw
 · have:=hi.xiso hw; rw [this] at ht; cases ht
 · have h1 := Nat.le_of_ble_eq_true h1;have h3:=hi.xlone (k-n) h2 ht;have e:k=n+(k-n):=by omega
   rw [e];exact Z4s h3
 · unfold apartB at hw;have hg:grpB z y.i k=false:=by
    unfold grpB;cases hgk:grpOf z.grp k with
    | none=>rw [hgk] at hw; cases hw
    | some m =>
      rw [hgk] at hw;have h0:m &&& z.un.getD x.i 0=0:=Nat.eq_of_beq_eq_true hw;rcases hi.xun with h1|h1
      · rw [h1] at hgk; cases hgk
      · have h2 := congrArg (·.testBit y.i) h0;simp only [Y0z,Nat.zero_testBit,h1 ht,Bool.and_true] at h2;exact h2
   unfold okId;rw [hg,Bool.and_false]
theorem Z3l {it m i:Nat} (hz:z.call=some i):okId z n it m i=false:=by simp [okId,resv,hz]
theorem Zbf {x y:DItem} (hi:Indep z x y) {e:Env} {h:Heap} {p:PV} {f:Eff} (hd:EffOk z (isCall x.o.op) n x.i x.mask x.iso (n+x.i) f) (ht:y.o.op.touch=true) (h':Heap):∀ k,okId z n y.i y.mask k=true→f.app h' k=h' k:=by
 intro k hk;cases f with
 | none=>rfl
 | new id b =>
   obtain rfl:id=n+x.i:=hd;have:k≠n+x.i:=fun e=>by subst e; rw [Z4s hi.my] at hk; cases hk
   exact Heap.upd_ne _ _ this
 | set k' b =>
   rcases hd with hd|⟨_,hd⟩
   · refine Heap.upd_ne _ _ fun e => ?_;subst e;rw [Z4t hi hd.1 ht] at hk;cases hk
   · refine Heap.upd_ne _ _ fun e => ?_;subst e;rw [Z3l hd] at hk;cases hk
 | move k' id b =>
   obtain⟨h1,h2,rfl⟩:=hd;have e1:Nat.beq k (n+x.i)=false:=Bool.eq_false_iff.2 fun hb=>by
    rw [Nat.eq_of_beq_eq_true hb,Z4s hi.my] at hk; cases hk
   have e2:Nat.beq k k'=false:=Bool.eq_false_iff.2 fun hb=>by
    rw [Nat.eq_of_beq_eq_true hb,Z4t hi h1 ht] at hk; cases hk
   simp only [Eff.app,e1,e2,cond_false]
 | drop k' =>
   refine Heap.del_ne _ fun e=>?_;subst e;rcases hd with hd|⟨_,hd⟩
   · rw [Z4t hi hd.1 ht] at hk;cases hk
   · rw [Z3l hd] at hk;cases hk
theorem Zbg {x:DItem} (hzn:HZ z n) (hxo:z.own=some x.i→isCall x.o.op=true) (hnc:isCall x.o.op=false) {f:Eff} (hd:EffOk z (isCall x.o.op) n x.i x.mask x.iso (n+x.i) f) (h':Heap):∀ k,z.call=some k→f.app h' k=h' k:=by
 intro k hk;have hk0:k≠n+x.i:=by
  rcases hzn k hk with h1|⟨j,h1,h2⟩
  · omega
  · intro he;have hj:j=x.i:=by omega
    rw [hj] at h1;rw [hxo h1] at hnc;cases hnc
 have hne:∀ j,okId z n x.i x.mask j=true→k≠j:=fun j hj e=>by
  subst e;rw [Z3l hk] at hj;cases hj
 cases f with
 | none=>rfl
 | new id b =>
   obtain rfl:id=n+x.i:=hd;exact Heap.upd_ne _ _ hk0
 | set k' b =>
   rcases hd with hd|⟨hc,_⟩
   · exact Heap.upd_ne _ _ (hne k' hd.2)
   · rw [hnc] at hc; cases hc
 | move k' id b =>
   obtain⟨_,h2,rfl⟩:=hd;have e1:Nat.beq k (n+x.i)=false:=Bool.eq_false_iff.2 fun hb=>hk0 (Nat.eq_of_beq_eq_true hb);have e2:Nat.beq k k'=false:=Bool.eq_false_iff.2 fun hb=>hne k' h2 (Nat.eq_of_beq_eq_true hb);simp only [Eff.app,e1,e2,cond_false]
 | drop k' =>
   rcases hd with hd|⟨hc,_⟩
   · exact Heap.del_ne _ (hne k' hd.2)
   · rw [hnc] at hc; cases hc
theorem Indep.symm {x y:DItem} (h:Indep z x y):Indep z y x:=by
 refine⟨fun d hd=>⟨h.yx d hd,fun hx=>(h.xy d hx).2 hd⟩,fun d hd=>(h.xy d hd).1,fun hy=>?_,h.yiso,h.xiso,h.ylone,h.xlone,h.ne.symm,h.my,h.mx,h.yun,h.xun,h.yown,h.xown⟩;cases hx:isCall x.o.op with
 | false=>rfl
 | true=>have:=h.calls hx; rw [this] at hy; cases hy
def Eff.put:Eff→Nat→Option (Option Bx)
 | .none,_=>Option.none
 | .new id b,j=>bif Nat.beq j id then some (some b) else Option.none
 | .set k b,j=>bif Nat.beq j k then some (some b) else Option.none
 | .move k id b,j=>bif Nat.beq j id then some (some b) else bif Nat.beq j k then some Option.none else Option.none
 | .drop k,j=>bif Nat.beq j k then some Option.none else Option.none
theorem Eff.app_put (f:Eff) (h:Heap) (j:Nat):f.app h j=match f.put j with|some v=>v|Option.none=>h j:=by
 cases f with
 | none=>rfl
 | new id b=>simp only [Eff.app,Eff.put,Heap.upd]; cases Nat.beq j id<;>rfl
 | set k b=>simp only [Eff.app,Eff.put,Heap.upd]; cases Nat.beq j k<;>rfl
 | move k id b =>
   simp only [Eff.app,Eff.put];cases Nat.beq j id
   · cases Nat.beq j k<;>rfl
   · rfl
 | drop k=>simp only [Eff.app,Eff.put,Heap.del]; cases Nat.beq j k<;>rfl
theorem ZfF {f g:Eff} (hd:∀ j,f.put j=none ∨ g.put j=none) (h:Heap):g.app (f.app h)=f.app (g.app h):=by
 funext j;rw [Eff.app_put g,Eff.app_put f,Eff.app_put f,Eff.app_put g];rcases hd j with e|e<;>rw [e]
def EffT (z:Rsv) (n:Nat) (x:DItem) (f:Eff):Prop:=f=.none ∨ x.o.op.touch=true ∨ (∃ b,f=.new (n+x.i) b) ∨ (isCall x.o.op=true∧∃ i b,z.call=some i∧f=.set i b) ∨ (isCall x.o.op=true∧∃ i,z.call=some i∧f=.drop i)
theorem ZdH {x:DItem} {f:Eff} (hf:EffOk z (isCall x.o.op) n x.i x.mask x.iso (n+x.i) f) (hf2:EffT z n x f) (j:Nat) (hj:f.put j≠none):j=n+x.i ∨ (okW z n x.i x.iso j=true∧okId z n x.i x.mask j=true∧x.o.op.touch=true) ∨ (isCall x.o.op=true∧z.call=some j):=by
 cases f with
 | none=>exact absurd rfl hj
 | new id b =>
   obtain rfl:id=n+x.i:=hf;simp only [Eff.put] at hj;cases hb:Nat.beq j (n+x.i) with
   | true=>exact .inl (Nat.eq_of_beq_eq_true hb)
   | false=>rw [hb] at hj; exact absurd rfl hj
 | set k b =>
   have hjk:j=k:=by
    simp only [Eff.put] at hj;cases hb:Nat.beq j k with
    | true=>exact Nat.eq_of_beq_eq_true hb
    | false=>rw [hb] at hj; exact absurd rfl hj
   subst hjk;rcases hf with hf|hf
   · rcases hf2 with h | h | ⟨_, h⟩ | ⟨hc, i, _, hz, h⟩ | ⟨_, _, _, h⟩
     · cases h
     · exact .inr (.inl ⟨hf.1,hf.2,h⟩)
     · cases h
     · cases h; exact .inr (.inr ⟨hc,hz⟩)
     · cases h
   · exact .inr (.inr hf)
 | move k id b =>
   obtain⟨h1,h2,rfl⟩:=hf;have ht:x.o.op.touch=true:=by
    rcases hf2 with h|h|⟨_,h⟩|⟨_,_,_,_,h⟩|⟨_,_,_,h⟩
    · cases h
    · exact h
    · cases h
    · cases h
    · cases h
   simp only [Eff.put] at hj;cases hb:Nat.beq j (n+x.i) with
   | true=>exact .inl (Nat.eq_of_beq_eq_true hb)
   | false =>
     rw [hb] at hj;cases hb2:Nat.beq j k with
     | true=>obtain rfl:=Nat.eq_of_beq_eq_true hb2; exact .inr (.inl ⟨h1,h2,ht⟩)
     | false=>rw [hb2] at hj; exact absurd rfl hj
 | drop k =>
   have hjk:j=k:=by
    simp only [Eff.put] at hj;cases hb:Nat.beq j k with
    | true=>exact Nat.eq_of_beq_eq_true hb
    | false=>rw [hb] at hj; exact absurd rfl hj
   subst hjk;rcases hf with hf|hf
   · rcases hf2 with h | h | ⟨_, h⟩ | ⟨_, _, _, _, h⟩ | ⟨hc, i, hz, h⟩
     · cases h
     · exact .inr (.inl ⟨hf.1,hf.2,h⟩)
     · cases h
     · cases h
     · cases h; exact .inr (.inr ⟨hc,hz⟩)
   · exact .inr (.inr hf)
theorem Zbh {x y:DItem} (hzn:HZ z n) (hi:Indep z x y) {f g:Eff} (hf:EffOk z (isCall x.o.op) n x.i x.mask x.iso (n+x.i) f) (hf2:EffT z n x f) (hg:EffOk z (isCall y.o.op) n y.i y.mask y.iso (n+y.i) g) (hg2:EffT z n y g) (h:Heap):g.app (f.app h)=f.app (g.app h):=by
 refine ZfF (fun j=>?_) h;by_cases h1:f.put j=none
 · exact .inl h1
 · by_cases h2 : g.put j = none
   · exact .inr h2
   · exfalso;have hne:=hi.ne;rcases ZdH hf hf2 j h1 with k1|⟨k1,k2,k3⟩|⟨k1,k2⟩<;>rcases ZdH hg hg2 j h2 with l1|⟨l1,l2,l3⟩|⟨l1,l2⟩
     · omega
     · rw [k1,Z4s hi.my] at l2; cases l2
     · rcases hzn j l2 with h3 | ⟨q, h3, h4⟩
       · omega
       · have hq : q = x.i := by omega
         rw [hq] at h3;have:=hi.calls (hi.xown h3);rw [this] at l1; cases l1
     · rw [l1,Z4s hi.mx] at k2; cases k2
     · rw [Z4t hi k1 l3] at l2; cases l2
     · rw [Z3l l2] at k2; cases k2
     · rcases hzn j k2 with h3 | ⟨q, h3, h4⟩
       · omega
       · have hq : q = y.i := by omega
         rw [hq] at h3;have h5:=hi.yown h3;have:=hi.calls k1;rw [this] at h5; cases h5
     · rw [Z3l k2] at l2; cases l2
     · have:=hi.calls k1; rw [this] at l1; cases l1
theorem Sem1.props {x:DItem} {e:Env} {h:Heap} {T:PV→Eff→Prop} (hs:Sem1 P z n x e h T) {p:PV} {f:Eff} (ht:T p f):EffOk z (isCall x.o.op) n x.i x.mask x.iso (n+x.i) f∧EffT z n x f:=by
 cases hs with
 | skip hw=>obtain⟨rfl,rfl⟩:=ht; exact⟨Yt,.inl rfl⟩
 | call hw f' args ho R hc=>obtain⟨_,rfl⟩:=ht; exact⟨Yt,.inl rfl⟩
 | callP hw f' args ho id hz b hb R hc =>
   obtain⟨b',rfl,_⟩:=ht;exact⟨.inr ⟨by rw [ho]; rfl,hz⟩,.inr (.inr (.inr (.inl ⟨by rw [ho]; rfl,id,b',hz,rfl⟩)))⟩
 | callN hw f' args ho rd hrd mk b hc =>
   obtain⟨rfl,rfl⟩:=ht;exact⟨rfl,.inr (.inr (.inl ⟨b,rfl⟩))⟩
 | callD hw f' args ho d hdst k hz b b' hb hc =>
   obtain⟨rfl,rfl⟩:=ht;exact⟨.inr ⟨by rw [ho]; rfl,hz⟩,.inr (.inr (.inr (.inr ⟨by rw [ho]; rfl,k,hz,rfl⟩)))⟩
 | detF hw ha d hdst zz bytes sx y ho k b m fl hs hy hb hcond hp hacc =>
   obtain⟨rfl,rfl⟩:=ht;exact⟨.inl ⟨hacc.2,hacc.1⟩,.inr (.inl (by rw [ho]; rfl))⟩
 | det hw hn p' f' hd =>
   obtain⟨rfl,rfl⟩:=ht;refine⟨by rw [hn]; exact hd.eff,?_⟩;rcases hd.touch with h|h|h
   · exact .inl h
   · exact .inr (.inl h)
   · exact .inr (.inr (.inl h))
theorem Sem1.over {x y:DItem} (hzn:HZ z n) (hi:Indep z x y) {e:Env} {h:Heap} {T Ty:PV→Eff→Prop} (hx:Sem1 P z n x e h T) {p:PV} {f:Eff} (ht:T p f):Sem1 P z n y (updO e x.o.dst p) (f.app h) Ty↔Sem1 P z n y e h Ty:=by
 have hp:=(hx.props ht).1;constructor
 · intro hy;exact hy.agree (updO_agree' fun k hk=>(hi.xy k hk).1) (fun htc k hk=>(Zbf hi (e:=e) (h:=h) (p:=p) hp htc h k hk).symm) fun hc k hk=>(Zbg hzn hi.xown (hi.symm.calls hc) hp h k hk).symm
 · intro hy;exact hy.agree (Z72 fun k hk=>(hi.xy k hk).1) (fun htc k hk=>Zbf hi (e:=e) (h:=h) (p:=p) hp htc h k hk) fun hc k hk=>Zbg hzn hi.xown (hi.symm.calls hc) hp h k hk
theorem Z9S (hzn:HZ z n) {y:DItem} {post:List DItem} {K:Env→Heap→Prop}:∀ {pre:List DItem},(∀ x∈pre,Indep z x y)→∀ {e:Env} {h:Heap} {q:PV} {g:Eff},Sem1 P z n y e h (fun q' g'=>q'=q∧g'=g)→isCall y.o.op=false→dK P z n (pre++y :: post) e h K→dK P z n (pre++post) (updO e y.o.dst q) (g.app h) K:=by
 intro pre
 induction pre with
 | nil =>
   intro _ e h q g hy hnc hk;obtain⟨T,hT,hK⟩:=hk;have hyp:=hy.props (p:=q) (f:=g) ⟨rfl,rfl⟩
   -- the outcome is one
   have huniq:∃ g',T q g'∧g'.app h=g.app h:=by
    have hgen:∀ T':PV→Eff→Prop,Sem1 P z n y e h T'→T' q g→∃ g',T q g'∧g'.app h=g.app h:=by
     intro T' hT' htq;cases hT' with
     | skip hw =>
       obtain⟨rfl,rfl⟩:=htq;cases hT with
       | skip hw'=>exact⟨_,⟨rfl,rfl⟩,rfl⟩
       | call hw'=>rw [hw] at hw'; cases hw'
       | callP hw'=>rw [hw] at hw'; cases hw'
       | callN hw'=>rw [hw] at hw'; cases hw'
       | callD hw'=>rw [hw] at hw'; cases hw'
       | detF hw'=>rw [hw] at hw'; cases hw'
       | det hw'=>rw [hw] at hw'; cases hw'
     | call hw f args ho R hc=>rw [ho] at hnc; simp [isCall] at hnc
     | callP hw f args ho=>rw [ho] at hnc; simp [isCall] at hnc
     | callN hw f args ho=>rw [ho] at hnc; simp [isCall] at hnc
     | callD hw f args ho=>rw [ho] at hnc; simp [isCall] at hnc
     | det hw hn p' f' hd =>
       obtain⟨rfl,rfl⟩:=htq;cases hT with
       | skip hw'=>rw [hw] at hw'; cases hw'
       | call hw' f args ho R hc=>rw [ho] at hnc; simp [isCall] at hnc
       | callP hw' f args ho=>rw [ho] at hnc; simp [isCall] at hnc
       | callN hw' f args ho=>rw [ho] at hnc; simp [isCall] at hnc
       | callD hw' f args ho=>rw [ho] at hnc; simp [isCall] at hnc
       | detF hw' ha d hdst zz bytes sx y' ho k b m fl hs hy' hb =>
         have h1:=hd.run h fun _ _ _=>rfl;rw [ha,ho] at h1;simp [evalB,fEval,hs] at h1
       | det hw' hn' p2 f2 hd2 =>
         have h1:=hd.run h fun _ _ _=>rfl;have h2:=hd2.run h fun _ _ _=>rfl;rw [h1] at h2;have h3:=Prod.mk.inj (Option.some.inj h2);exact⟨f2,⟨h3.1,rfl⟩,h3.2.symm⟩
     | detF hw ha d hdst zz bytes sx y' ho k b m fl hs hy' hb =>
       obtain⟨rfl,rfl⟩:=htq;cases hT with
       | skip hw'=>rw [hw] at hw'; cases hw'
       | call hw' f args ho'=>rw [ho'] at hnc; simp [isCall] at hnc
       | callP hw' f args ho'=>rw [ho'] at hnc; simp [isCall] at hnc
       | callN hw' f args ho'=>rw [ho'] at hnc; simp [isCall] at hnc
       | callD hw' f args ho'=>rw [ho'] at hnc; simp [isCall] at hnc
       | det hw' hn' p2 f2 hd2 =>
         have h1:=hd2.run h fun _ _ _=>rfl;rw [ha,ho] at h1;simp [evalB,fEval,hs] at h1
       | detF hw' ha' d' hdst' zz' bytes' sx' y2 ho' k' b' m' fl' hs' hy2 hb' =>
         rw [ho] at ho';cases ho';rw [hs] at hs';cases hs';rw [hy'] at hy2;cases hy2;rw [hb] at hb';cases hb';exact⟨_,⟨rfl,rfl⟩,rfl⟩
    exact hgen _ hy ⟨rfl,rfl⟩
   obtain⟨g',hq,hg⟩:=huniq;have:=hK q g' hq
   rwa [hg] at this
 | cons x pre ih =>
   intro hall e h q g hy hnc hk;have hi:=hall x (by simp);obtain⟨T,hT,hK⟩:=hk;have hyp:=hy.props (p:=q) (f:=g) ⟨rfl,rfl⟩;refine⟨T,?_,fun p f hpf=>?_⟩
   · exact (Sem1.over hzn hi.symm hy ⟨rfl,rfl⟩).2 hT
   · have hxp := hT.props hpf;have:=ih (fun z hz=>hall z (by simp [hz])) ((Sem1.over hzn hi hT hpf).2 hy) hnc (hK p f hpf);rw [Z8F (fun k hk=>(hi.xy k hk).2),Zbh hzn hi hxp.1 hxp.2 hyp.1 hyp.2] at this;exact this
theorem Z8G (hzn:HZ z n) {y:DItem} {post:List DItem} {K:Env→Heap→Prop}:∀ {pre:List DItem},(∀ x∈pre,Indep z x y)→∀ {e:Env} {h:Heap},isCall y.o.op=true→dK P z n (pre++y :: post) e h K→∃ Ty,Sem1 P z n y e h Ty∧∀ q g,Ty q g→dK P z n (pre++post) (updO e y.o.dst q) (g.app h) K:=by
 intro pre
 induction pre with
 | nil=>intro _ e h _ hk; exact hk
 | cons x pre ih =>
   intro hall e h hyc hk;have hi:=hall x (by simp);obtain⟨T,hT,hK⟩:=hk;have hone:∃ p f,T=fun q g=>q=p∧g=f:=by
    cases hT with
    | skip hw=>exact⟨_,_,rfl⟩
    | call hw f args ho R hc=>have:=hi.calls (by rw [ho]; rfl); rw [this] at hyc; cases hyc
    | callN hw f args ho=>have:=hi.calls (by rw [ho]; rfl); rw [this] at hyc; cases hyc
    | callD hw f args ho=>have:=hi.calls (by rw [ho]; rfl); rw [this] at hyc; cases hyc
    | callP hw f args ho=>have:=hi.calls (by rw [ho]; rfl); rw [this] at hyc; cases hyc
    | detF=>exact⟨_,_,rfl⟩
    | det hw hn p f hd=>exact⟨_,_,rfl⟩
   obtain⟨p,f,rfl⟩:=hone;have hxp:=hT.props (p:=p) (f:=f) ⟨rfl,rfl⟩;obtain⟨Ty,hy,hyK⟩:=ih (fun z hz=>hall z (by simp [hz])) hyc (hK p f ⟨rfl,rfl⟩);have hy':=(Sem1.over hzn hi hT ⟨rfl,rfl⟩).1 hy;refine⟨Ty,hy',fun q g hqg=>⟨_,(Sem1.over hzn hi.symm hy' hqg).2 hT,?_⟩⟩;rintro p' f' ⟨rfl,rfl⟩;have hyp:=hy'.props hqg;have:=hyK q g hqg;rw [Z8F (fun k hk=>(hi.xy k hk).2),Zbh hzn hi hxp.1 hxp.2 hyp.1 hyp.2] at this;exact this
end
def maskStep (L:List Nat) (s:Nat) (ed:Edge):Nat:=match Region.binds .any ed with|true=>s ||| (2 ^ ed.on ||| L.getD ed.on 0)|false=>s
def maskOf (L:List Nat) (o:Oper):Nat:=o.after.toList.foldl (maskStep L) 0
def masksOk (ops:Array Oper) (L:List Nat):Bool :=
 ops.toList.zipIdx.all fun q=>L.getD q.2 0 == maskOf L q.1&&q.1.after.toList.all (fun ed => !Region.binds .any ed||Nat.blt ed.on q.2)&&Nat.blt (L.getD q.2 0) (2 ^ q.2)
def isoB (al:List AOper) (L:List Nat) (i:Nat):Bool :=
 al.zipIdx.all fun q => !q.1.op.touch||q.2 == i||(match Nat.blt q.2 i with|true=>(L.getD i 0).testBit q.2|false=>(L.getD q.2 0).testBit i)
def seenN (al:List AOper) (L:List Nat) (i:Nat):Nat :=
 al.zipIdx.foldl (fun s q=>match !q.1.op.touch||q.2 == i||(match Nat.blt q.2 i with|true=>(L.getD i 0).testBit q.2|false=>(L.getD q.2 0).testBit i) with|true=>s|false=>s ||| L.getD q.2 0) 0
def writes:AOp→Bool
 | .store _ _ _ | .append _ _ _ _ | .copy _ _ _ | .clear _ _ | .mapset _ _ _ _=>true
 | _=>false
def isoN (al:List AOper) (L:List Nat) (i:Nat):Nat:=match isoB al L i with
 | true=>1
 | false => match writes (al.getD i ⟨none, .lenA 0, none⟩).op with
   | true=>2*(L.getD i 0 ^^^ (L.getD i 0 &&& seenN al L i))
   | false=>0
def dItems (al:List AOper) (L:List Nat):List DItem:=al.zipIdx.map fun q=>⟨q.2,q.1,L.getD q.2 0,isoN al L q.2,false⟩
def loneB (x y:DItem):Bool := !y.o.op.touch||Nat.beq (x.iso / 2 &&& y.mask) 0
def away (d:Option Nat) (l:List Nat):Bool:=match d with|some k => !l.contains k|none=>true
def apartD (d d':Option Nat):Bool:=match d,d' with|some k,some k' => !(k == k')|_,_=>true
def indepB (x y:DItem):Bool :=
 away x.o.dst y.look&&apartD x.o.dst y.o.dst&&away y.o.dst x.look&&(!isCall x.o.op || !isCall y.o.op)&&(!x.iso.testBit 0 || !y.o.op.touch)&&(!y.iso.testBit 0 || !x.o.op.touch)&&loneB x y&&loneB y x && !x.mask.testBit y.i
def pairsOk (l:List DItem):Bool:=l.all fun x=>l.all fun y => !Nat.blt x.i y.i||y.mask.testBit x.i||indepB x y
theorem Z8H {d:Option Nat} {l:List Nat} (h:away d l=true):∀ k,d=some k→k ∉ l:=by
 intro k hk;subst hk;simpa [away] using h
theorem Z9T {d d':Option Nat} (h:apartD d d'=true):∀ k,d=some k→d'≠some k:=by
 intro k hk hk';subst hk;subst hk';simp [apartD] at h
theorem Z73 {x y:DItem} (h:loneB x y=true):∀ j,x.iso.testBit (j+1)=true→y.o.op.touch=true→y.mask.testBit j=false:=by
 intro j hj ht;unfold loneB at h;rw [ht] at h;have h0:x.iso / 2 &&& y.mask=0:=Nat.eq_of_beq_eq_true (by simpa using h);have:=congrArg (·.testBit j) h0;simp only [Y0z,Nat.zero_testBit] at this;rw [Nat.testBit_succ] at hj;rw [hj,Bool.true_and] at this;exact this
def ownB (z:Rsv) (l:List DItem):Bool:=match z.own with|none=>true|some j=>l.all fun x => !Nat.beq x.i j||isCall x.o.op
def unOk (z:Rsv) (l:List DItem):Bool:=(z.grp.isEmpty||l.all fun x=>l.all fun y=>Nat.beq x.i y.i || !y.o.op.touch||y.mask.testBit x.i||x.mask.testBit y.i||(z.un.getD x.i 0).testBit y.i)&&ownB z l
theorem Z8I {z:Rsv} {l:List DItem} (h:unOk z l=true) {x y:DItem} (hx:x∈l) (hy:y∈l) (hne:x.i≠y.i) (h1:y.mask.testBit x.i=false) (h2:x.mask.testBit y.i=false):z.grp = [] ∨ (y.o.op.touch=true→(z.un.getD x.i 0).testBit y.i=true):=by
 unfold unOk at h;rw [Y0k] at h;replace h:=h.1;rw [Bool.or_eq_true] at h;rcases h with h|h
 · exact .inl (List.isEmpty_iff.1 h)
 · refine .inr fun ht => ?_;have h3:=List.all_eq_true.1 (List.all_eq_true.1 h x hx) y hy;have hb:Nat.beq x.i y.i=false:=Bool.eq_false_iff.2 fun hb=>hne (Nat.eq_of_beq_eq_true hb);simpa only [hb,ht,h1,h2,Bool.not_true,Bool.false_or] using h3
theorem Z8J {z:Rsv} {l:List DItem} (h:unOk z l=true) {x:DItem} (hx:x∈l):z.own=some x.i→isCall x.o.op=true:=by
 intro ho;unfold unOk at h;rw [Y0k] at h;have h2:=h.2;unfold ownB at h2;rw [ho] at h2;have h3:=List.all_eq_true.1 h2 x hx;simpa using h3
theorem Z9U {z:Rsv} {x y:DItem} (h:indepB x y=true) (hlt:x.i<y.i) (hm:y.mask.testBit x.i=false) {l:List DItem} (hu:unOk z l=true) (hx:x∈l) (hy:y∈l):Indep z x y:=by
 simp only [indepB,Y0k] at h;obtain⟨⟨⟨⟨⟨⟨⟨⟨h1,h2⟩,h3⟩,h4⟩,h5⟩,h6⟩,h8⟩,h9⟩,h7⟩:=h;refine⟨fun d hd=>⟨Z8H h1 d hd,Z9T h2 d hd⟩,Z8H h3,fun hc=>?_,fun hx=>?_,fun hy=>?_,Z73 h8,Z73 h9,by omega,by simpa using h7,hm,Z8I hu hx hy (by omega) hm (by simpa using h7),Z8I hu hy hx (by omega) (by simpa using h7) hm,Z8J hu hx,Z8J hu hy⟩
 · simpa [hc] using h4
 · simpa [hx] using h5
 · simpa [hy] using h6
theorem Zbi (L:List Nat) (k:Nat):∀ (l:List Edge) (s:Nat),(l.foldl (maskStep L) s).testBit k=true→s.testBit k=true ∨ ∃ ed∈l,Region.binds .any ed=true∧(ed.on=k ∨ (L.getD ed.on 0).testBit k=true)
 | [],s,h=>.inl h
 | ed :: l, s, h => by
   rw [List.foldl_cons] at h;rcases Zbi L k l _ h with h|⟨ed',he,h⟩
   · unfold maskStep at h
     split at h
     · rename_i hb;rw [Y00,Y00,Nat.testBit_two_pow] at h;simp only [Bool.or_eq_true,Y0n] at h;rcases h with h|h|h
       · exact .inl h
       · exact .inr ⟨ed,by simp,hb,.inl h⟩
       · exact .inr ⟨ed,by simp,hb,.inr h⟩
     · exact .inl h
   · exact .inr ⟨ed',by simp [he],h⟩
structure MOk (ops:Array Oper) (L:List Nat):Prop where
 mem:∀ j o,ops[j]?=some o→∀ k,(L.getD j 0).testBit k=true→∃ ed∈o.after,Region.binds .any ed=true∧(ed.on=k ∨ (L.getD ed.on 0).testBit k=true)
 lt:∀ j o,ops[j]?=some o→∀ ed∈o.after,Region.binds .any ed=true→ed.on<j
theorem Z8K {ops:Array Oper} {L:List Nat} (h:masksOk ops L=true):MOk ops L:=by
 have hall:∀ j o,ops[j]?=some o→(L.getD j 0=maskOf L o∧∀ ed∈o.after.toList,Region.binds .any ed=true→ed.on<j):=by
  intro j o hj;have hm:(o,j)∈ops.toList.zipIdx:=by
   rw [List.mem_zipIdx_iff_getElem?];simpa using hj
  have:=List.all_eq_true.1 h _ hm;simp only [Y0k,beq_iff_eq,List.all_eq_true,Bool.or_eq_true,Bool.not_eq_true'] at this;refine⟨this.1.1,fun ed hed hb=>?_⟩;rcases this.1.2 ed hed with h' | h'
  · rw [hb] at h'; cases h'
  · exact Nat.le_of_ble_eq_true h'
 refine⟨fun j o hj k hk=>?_,fun j o hj ed hed hb=>(hall j o hj).2 ed (by simpa using hed) hb⟩;rw [(hall j o hj).1] at hk;rcases Zbi L k _ _ hk with h' | ⟨ed,he,h'⟩
 · simp at h'
 · exact⟨ed,by simpa using he,h'⟩
section
variable {z:Rsv} {P:Program} {C:Ctx} {Fr:Nat→Prop} {e:Env} {h:Heap} {F:Froz} {φ:Locs} {a:Act} {w:World} {FN:Fence} {m:Nat}
theorem Zcj {g:Option (Nat×Bool)} {c:Bool} (h:wantB g e=some c):wantK g e (c=true) (c=false):=by
 unfold wantB at h;unfold wantK
 split at h
 · cases h; rfl
 · split at h
   · rename_i s b c' hc;cases h
     try simp only [hc]
     split
     · rename_i hcb; simp [hcb]
     · rename_i hcb; simpa using hcb
   · rename_i s b v hc;cases h
     try simp only [hc]
   · cases h
theorem Zck {n:Nat} {x:DItem} {T:PV→Eff→Prop} (hs:Sem1 P z n x e h T) (hw:wantB x.o.guard e=some true):(∃ f args d k b b',x.o.op=.call f args∧x.o.dst=some d∧h k=some b∧CallD P f args e k b b'∧T=fun q g=>q=.vec b'.elems false∧g=.drop k) ∨ (∃ f args id b R,x.o.op=.call f args∧h id=some b∧CallP P f args e id b R∧T=fun q g=>∃ b',g=.set id b'∧q.pure∧pureLL b'.elems∧R q b') ∨ (∃ f args rd mk b,x.o.op=.call f args∧(∀ k b0,rd=some (k,b0)→h k=some b0)∧CallN P f args e rd mk b∧T=fun q g=>q=mk (n+x.i)∧g=.new (n+x.i) b) ∨ (∃ d zz bytes sx y k b m fl,x.o.dst=some d∧x.o.op=.append zz bytes sx y∧ev e sx=some (.own k)∧ev e y=some (.vec m fl)∧h k=some b∧((∀ c∈m,c.length=zz.length)∧b.esz=zz.length∧(b.elems.length+m.length)*bytes≤140737488355328)∧pureLL (b.elems++m)∧T=fun q g=>q=.vec (b.elems++m) false∧g=.drop k) ∨ opK P x.o.op (n+x.i) e h fun p h'=>∃ f,T p f∧h'=f.app h:=by
 cases hs with
 | skip hw'=>rw [hw] at hw'; cases hw'
 | call _ f args ho R hc =>
   obtain⟨g,caps,as0,h1,h2,h5,h4⟩:=hc;rw [ho];exact .inr (.inr (.inr (.inr ⟨g,caps,as0,R,h1,h2,⟨h5,h4⟩,fun r hr=>⟨.none,⟨hr,rfl⟩,rfl⟩⟩)))
 | callP _ f args ho id hz b hb R hc=>exact .inr (.inl ⟨f,args,id,b,R,ho,hb,hc,rfl⟩)
 | callD _ f args ho d hdst k hz b b' hb hc=>exact .inl ⟨f,args,d,k,b,b',ho,hdst,hb,hc,rfl⟩
 | callN _ f args ho rd hrd mk b hc=>exact .inr (.inr (.inl ⟨f,args,rd,mk,b,ho,fun k b0 hk=>(hrd k b0 hk).2,hc,rfl⟩))
 | detF _ ha d hdst zz bytes sx y ho k b m fl hs hy hb hcond hp hacc=>exact .inr (.inr (.inr (.inl ⟨d,zz,bytes,sx,y,k,b,m,fl,hdst,ho,hs,hy,hb,hcond,hp,rfl⟩)))
 | det _ hn p f hd =>
   have hrun:=hd.run h fun _ _ _=>rfl;have hdf:dEval x.o.op e h (n+x.i)=some (p,f.app h) ∨ fEval x.o.op e h (n+x.i)=some (p,f.app h):=by
    unfold evalB at hrun
    split at hrun
    · exact .inr hrun
    · exact .inl hrun
   have:∃ p' h',(dEval x.o.op e h (n+x.i)=some (p',h') ∨ fEval x.o.op e h (n+x.i)=some (p',h'))∧∃ f',(fun q g=>q=p∧g=f) p' f'∧h'=f'.app h:=⟨p,f.app h,hdf,f,⟨rfl,rfl⟩,rfl⟩
   generalize x.o.op=op at hn this;refine .inr (.inr (.inr (.inr ?_)));cases op<;>first|exact this|(simp [isCall] at hn; done)|skip
   obtain⟨p',h',hd',hk'⟩:=this;rcases hd' with hd' | hd'
   · exact .inl ⟨p',h',hd',hk'⟩
   · simp [fEval] at hd'
theorem ZdI (hok:FenceOk FN m) {ops:Array Oper} {n:Nat} {x:DItem} {o:Oper} (ho:ops[x.i]?=some o) (hc:cOper P C.nt ops o=some x.o) {T:PV→Eff→Prop} (hs:Sem1 P z n x e h T) (s:St' C Fr e h F φ a w) (hid:Fr (n+x.i))
 {next:Act→World→Prop} {Q:Exit→Act→World→Prop} (hnext:∀ p f a' w',T p f→St C (fun i=>Fr i∧i≠n+x.i) (updO e x.o.dst p) (f.app h) a' w'→next a' w'):wpOpIn FN m P ops Q x.i next a w:=by
 unfold cOper at hc
 split at hc
 case h_2=>simp at hc
 rename_i op g hop hg
 split at hc
 case isFalse=>simp at hc
 rename_i hdst;have hx:x.o=⟨o.dst,op,g⟩:=(Option.some.inj hc).symm;simp only [wpOpIn,ho];have hsg:∃ c,wantB x.o.guard e=some c:=by cases hs with|skip hw=>exact⟨_,hw⟩|call hw=>exact⟨_,hw⟩|callP hw=>exact⟨_,hw⟩|callN hw=>exact⟨_,hw⟩|callD hw=>exact⟨_,hw⟩|detF hw=>exact⟨_,hw⟩|det hw=>exact⟨_,hw⟩
 obtain⟨c,hwc⟩:=hsg;have hgx:x.o.guard=g:=by rw [hx]
 have hk:=Zcj hwc;rw [hgx] at hk;rcases Z5q hg s rfl hk with⟨hw,rfl⟩|⟨hw,rfl⟩
 · rw [if_pos hw];rcases Zck hs hwc with⟨f,args,d,k,b,b',hop',hd0,hbk,⟨g',caps,as0,rest,g1,g2,g3,g4,g5,g6,g7⟩,rfl⟩|⟨f,args,id,b,R,hop',hb,⟨g',caps,as0,g1,g2,g3⟩,rfl⟩|⟨f,args,rd,mk,b,hop',hrd,⟨g',caps,as0,g1,g2,g3⟩,rfl⟩|⟨d,zz,bytes,sx,y,k,b,mm,fl,hd0,hop',hsx,hyx,hbk,hcond,hpp,rfl⟩|hopK
   · obtain rfl : op = .call f args := by rw [hx] at hop'; exact hop'
     have hdd:o.dst=some d:=by rw [hx] at hd0; exact hd0
     refine Z9O hok hop hdst hdd hid s g1 g2 g3 hbk g4 g5 g6 g7 fun a' w' hs'=>?_;exact hnext _ (.drop k) a' w' ⟨rfl,rfl⟩ (by rw [hx]; exact hs')
   · obtain rfl : op = .call f args := by rw [hx] at hop'; exact hop'
     refine Z9M hok hop hdst s g1 g2 hb g3 fun p b' a' w' h1 h2 h3 hs'=>?_;obtain⟨F',φ',s'⟩:=hs';exact hnext p (.set id b') a' w' ⟨b',rfl,h1,h2,h3⟩ (by rw [hx]; exact⟨F',φ',s'.weaken fun i hi=>hi.1⟩)
   · obtain rfl : op = .call f args := by rw [hx] at hop'; exact hop'
     refine Z9N hok hop hdst hid s g1 g2 hrd g3 fun a' w' hs'=>?_;exact hnext _ (.new (n+x.i) b) a' w' ⟨rfl,rfl⟩ (by rw [hx]; exact hs')
   · obtain rfl : op = .append zz bytes sx y := by rw [hx] at hop'; exact hop'
     have hdd:o.dst=some d:=by rw [hx] at hd0; exact hd0
     have hopK:opK P (.append zz bytes sx y) (n+x.i) e h fun p h'=>p=.own (n+x.i)∧h'=(h.del k).upd (n+x.i) ⟨b.esz,b.elems++mm⟩:=⟨.own (n+x.i),(h.del k).upd (n+x.i) ⟨b.esz,b.elems++mm⟩,.inl (by simp only [dEval,hsx,hyx,hbk,if_pos hcond]; rfl),rfl,rfl⟩
     refine Z5Y hok hop hdst hid s hopK fun p h' a' w' hK hs'=>?_;obtain⟨rfl,rfl⟩:=hK;have hnone:h (n+x.i)=none:=by
      cases hq:h (n+x.i) with
      | none=>rfl
      | some bq=>obtain⟨loc,h1,_⟩:=s.live _ bq hq; rw [s.free _ hid] at h1; cases h1
     rw [hdd] at hs';have s2:=St.frzSlot (k:=d) hs' (Env.upd_same _ _ _) (Heap.upd_same _ _ _) hpp;rw [Z7J _ _ _ _ hnone] at s2;refine hnext _ (.drop k) a' w' ⟨rfl,rfl⟩ ?_;rw [hx];show St C _ (updO e o.dst _) _ a' w';rw [hdd];have e1:(updO e (some d) (.own (n+x.i))).upd d (.vec (b.elems++mm) false)=updO e (some d) (.vec (b.elems++mm) false):=Z7I _ _ _ _;rw [← e1];obtain⟨F',φ',s'⟩:=s2;exact⟨F',φ',s'.weaken fun i hi=>⟨hi.1,fun _=>hi.2⟩⟩
   rw [hx] at hopK;refine Z5Y hok hop hdst hid s hopK fun p h' a' w' hK hs'=>?_;obtain⟨f,hT,rfl⟩:=hK;obtain⟨F',φ',s'⟩:=hs';exact hnext p f a' w' hT (by rw [hx]; exact⟨F',φ',s'.weaken fun i hi=>⟨hi.1,fun _=>hi.2⟩⟩)
 · rw [if_neg (by simp [hw])];refine⟨fun f _=>hok.fn f,?_⟩;have hT:T pvu .none:=by
    cases hs with
    | skip _=>exact⟨rfl,rfl⟩
    | call hw'=>rw [hwc] at hw'; cases hw'
    | callP hw'=>rw [hwc] at hw'; cases hw'
    | callN hw'=>rw [hwc] at hw'; cases hw'
    | callD hw'=>rw [hwc] at hw'; cases hw'
    | detF hw'=>rw [hwc] at hw'; cases hw'
    | det hw'=>rw [hwc] at hw'; cases hw'
   have s':=s.putO (p:=pvu) hdst (.val undef);refine hnext pvu .none _ _ hT ⟨F,φ,?_⟩;rw [hx];exact s'.weaken fun _ h=>h.1
theorem ZdJ {n:Nat} {x:DItem} {o:Oper} {ops:Array Oper} (hc:cOper P C.nt ops o=some x.o) {T:PV→Eff→Prop} (hs:Sem1 P z n x e h T) (s:St' C Fr e h F φ a w) (hid:Fr (n+x.i)) :
 ∃ p f a' w',T p f∧St C (fun i=>Fr i∧i≠n+x.i) (updO e x.o.dst p) (f.app h) a' w':=by
 unfold cOper at hc
 split at hc
 case h_2=>simp at hc
 rename_i op g hop hg
 split at hc
 case isFalse=>simp at hc
 rename_i hdst;have hx:x.o=⟨o.dst,op,g⟩:=(Option.some.inj hc).symm;cases hs with
 | skip hw =>
   refine⟨pvu,.none,a.put o.dst undef,w,⟨rfl,rfl⟩,F,φ,?_⟩;rw [hx];exact (s.putO (p:=pvu) hdst (.val undef)).weaken fun _ h=>h.1
 | call hw f args ho R hcall =>
   obtain⟨g',caps,as0,h1,h2,hbody,htk⟩:=hcall;obtain⟨vs,hvf,hsz,hcaps⟩:=(s.eval h1).fn_inv;obtain⟨hl1,hl2⟩:=s.evals h2;have hrep:RepL F φ ((args.map a.eval).toArray++vs) (as0++caps):=by
    refine⟨by simp at hl1 ⊢; omega,fun i hi=>?_⟩;by_cases hi':i<as0.length
    · have e1 : ((args.map a.eval).toArray ++ vs).getD i undef = (args.map a.eval).getD i undef := by
       simp only [Y0d,Y0b];rw [Array.getElem?_append_left (by simp at hl1 ⊢;omega)];simp
      have e2:(as0++caps).getD i pvu=as0.getD i pvu:=by
       simp only [Y0b];rw [List.getElem?_append_left hi']
      rw [e1,e2];exact hl2 i hi'
    · have e1 : ((args.map a.eval).toArray ++ vs).getD i undef = vs.getD (i - as0.length) undef := by
       simp only [Y0d];rw [Array.getElem?_append_right (by simp at hl1 ⊢;omega)];congr 2;simp at hl1 ⊢;omega
      have e2:(as0++caps).getD i pvu=caps.getD (i-as0.length) pvu:=by
       simp only [Y0b];rw [List.getElem?_append_right (by omega)]
      rw [e1,e2];exact hcaps _ (by simp at hi;omega)
   obtain ⟨args',hrep'',-,hspec⟩ := htk F φ _ hrep;obtain ⟨en,w',fr,⟨v,r,F',_,hr,hvr,hbel,hF',hext,hold⟩,_⟩ := hspec F w _ ⟨s.froz,s.glob⟩ hrep'' [];have s':=(s.called hbel hF' hext hold).weaken (Fr':=fun i=>Fr i∧i≠n+x.i) fun _ h=>h.1;have hvr':Rep F' φ v r:=hvr.mono (fun _ _ h=>h) (fun i x hx=>by cases hx);exact⟨r,.none,_,w',⟨hr,rfl⟩,F',φ,by rw [hx]; exact s'.putO hdst hvr'⟩
 | callP hw f args ho id hz b hb R hcall =>
   obtain⟨g',caps,as0,h1,h2,hsp⟩:=hcall;obtain⟨vs,hvf,hsz,hcaps⟩:=(s.eval h1).fn_inv;obtain⟨hl1,hl2⟩:=s.evals h2;have hrep:RepL F φ ((args.map a.eval).toArray++vs) (as0++caps):=by
    refine⟨by simp at hl1 ⊢; omega,fun i hi=>?_⟩;by_cases hi':i<as0.length
    · have e1 : ((args.map a.eval).toArray ++ vs).getD i undef = (args.map a.eval).getD i undef := by
       simp only [Y0d,Y0b];rw [Array.getElem?_append_left (by simp at hl1 ⊢;omega)];simp
      have e2:(as0++caps).getD i pvu=as0.getD i pvu:=by
       simp only [Y0b];rw [List.getElem?_append_left hi']
      rw [e1,e2];exact hl2 i hi'
    · have e1 : ((args.map a.eval).toArray ++ vs).getD i undef = vs.getD (i - as0.length) undef := by
       simp only [Y0d];rw [Array.getElem?_append_right (by simp at hl1 ⊢;omega)];congr 2;simp at hl1 ⊢;omega
      have e2:(as0++caps).getD i pvu=caps.getD (i-as0.length) pvu:=by
       simp only [Y0b];rw [List.getElem?_append_right (by omega)]
      rw [e1,e2];exact hcaps _ (by simp at hi;omega)
   obtain⟨en,w',fr,⟨v,r,b',F',_,⟨k1,k2,k3⟩,hvr,s'⟩,_⟩:=hsp.2 hb s hrep [];exact⟨r,.set id b',_,w',⟨b',rfl,k1,k2,k3⟩,F',φ,by rw [hx]; exact (s'.weaken (Fr':=fun i=>Fr i∧i≠n+x.i) fun _ h=>h.1).putO hdst hvr⟩
 | callN hw f args ho rd hrd mk b hcall =>
   obtain⟨g',caps,as0,h1,h2,hsp⟩:=hcall;obtain⟨vs,hvf,hsz,hcaps⟩:=(s.eval h1).fn_inv;obtain⟨hl1,hl2⟩:=s.evals h2;have hrep:RepL F φ ((args.map a.eval).toArray++vs) (as0++caps):=by
    refine⟨by simp at hl1 ⊢; omega,fun i hi=>?_⟩;by_cases hi':i<as0.length
    · have e1 : ((args.map a.eval).toArray ++ vs).getD i undef = (args.map a.eval).getD i undef := by
       simp only [Y0d,Y0b];rw [Array.getElem?_append_left (by simp at hl1 ⊢;omega)];simp
      have e2:(as0++caps).getD i pvu=as0.getD i pvu:=by
       simp only [Y0b];rw [List.getElem?_append_left hi']
      rw [e1,e2];exact hl2 i hi'
    · have e1 : ((args.map a.eval).toArray ++ vs).getD i undef = vs.getD (i - as0.length) undef := by
       simp only [Y0d];rw [Array.getElem?_append_right (by simp at hl1 ⊢;omega)];congr 2;simp at hl1 ⊢;omega
      have e2:(as0++caps).getD i pvu=caps.getD (i-as0.length) pvu:=by
       simp only [Y0b];rw [List.getElem?_append_right (by omega)]
      rw [e1,e2];exact hcaps _ (by simp at hi;omega)
   obtain⟨en,w',fr,⟨v,F',φ',_,hvr,s'⟩,_⟩:=hsp.2 (fun k b0 hk=>(hrd k b0 hk).2) hid s hrep [];exact⟨mk (n+x.i),.new (n+x.i) b,_,w',⟨rfl,rfl⟩,F',φ',by rw [hx]; exact s'.putO hdst hvr⟩
 | callD hw f args ho d hd0 k hzk b b' hbk hcall =>
   obtain⟨g',caps,as0,rest,h1,h2,h3,hpb,hpb',hpr,hsp⟩:=hcall;obtain⟨vs,hvf,hsz,hcaps⟩:=(s.eval h1).fn_inv;obtain⟨hl1,hl2⟩:=s.evals h2;have hrep:RepL F φ ((args.map a.eval).toArray++vs) (as0++caps):=by
    refine⟨by simp at hl1 ⊢; omega,fun i hi=>?_⟩;by_cases hi':i<as0.length
    · have e1 : ((args.map a.eval).toArray ++ vs).getD i undef = (args.map a.eval).getD i undef := by
       simp only [Y0d,Y0b];rw [Array.getElem?_append_left (by simp at hl1 ⊢;omega)];simp
      have e2:(as0++caps).getD i pvu=as0.getD i pvu:=by
       simp only [Y0b];rw [List.getElem?_append_left hi']
      rw [e1,e2];exact hl2 i hi'
    · have e1 : ((args.map a.eval).toArray ++ vs).getD i undef = vs.getD (i - as0.length) undef := by
       simp only [Y0d];rw [Array.getElem?_append_right (by simp at hl1 ⊢;omega)];congr 2;simp at hl1 ⊢;omega
      have e2:(as0++caps).getD i pvu=caps.getD (i-as0.length) pvu:=by
       simp only [Y0b];rw [List.getElem?_append_right (by omega)]
      rw [e1,e2];exact hcaps _ (by simp at hi;omega)
   rw [h3] at hrep;obtain⟨en,w',fr,⟨v,b2,F',φ',_,⟨k1,rfl⟩,hvr,s'⟩,_⟩:=hsp.run Z5Z hpb hpr hid hbk s hrep [];have hdd:o.dst=some d:=by rw [hx] at hd0; exact hd0
   have hnone:h (n+x.i)=none:=by
    cases hq:h (n+x.i) with
    | none=>rfl
    | some bq=>obtain⟨loc,h1,_⟩:=s.live _ bq hq; rw [s.free _ hid] at h1; cases h1
   have s2:St C (fun i=>Fr i∧i≠n+x.i) (updO e o.dst (.own (n+x.i))) ((h.del k).upd (n+x.i) b2) (a.put o.dst v) w':=⟨F',φ',s'.putO hdst hvr⟩
   rw [hdd] at s2;have s3:=St.frzSlot (k:=d) s2 (Env.upd_same _ _ _) (Heap.upd_same _ _ _) hpb';rw [Z7J _ _ _ _ hnone] at s3;have e1:(updO e (some d) (.own (n+x.i))).upd d (.vec b2.elems false)=updO e (some d) (.vec b2.elems false):=Z7I _ _ _ _;rw [e1] at s3;exact⟨.vec b2.elems false,.drop k,_,w',⟨rfl,rfl⟩,by rw [hx]; show St C _ (updO e o.dst _) _ _ _; rw [hdd]; exact s3⟩
 | detF hw ha d hd0 zz bytes sx y ho k b mm fl hsx hyx hbk hcond hpp hacc =>
   obtain rfl:op=.append zz bytes sx y:=by rw [hx] at ho; exact ho
   have hdd:o.dst=some d:=by rw [hx] at hd0; exact hd0
   obtain⟨r,val,w',F',φ',_,_,s',hrep⟩:=Z7H hop s hid (p:=.own (n+x.i)) (h':=(h.del k).upd (n+x.i) ⟨b.esz,b.elems++mm⟩) (.inl (by simp only [dEval,hsx,hyx,hbk,if_pos hcond]; rfl));have hnone:h (n+x.i)=none:=by
    cases hq:h (n+x.i) with
    | none=>rfl
    | some bq=>obtain⟨loc,h1,_⟩:=s.live _ bq hq; rw [s.free _ hid] at h1; cases h1
   have s1:St C (fun i=>Fr i∧i≠n+x.i) (updO e o.dst (.own (n+x.i))) ((h.del k).upd (n+x.i) ⟨b.esz,b.elems++mm⟩) _ w':=⟨F',φ',(s'.weaken (Fr':=fun i=>Fr i∧i≠n+x.i) fun i hi=>⟨hi.1,fun _=>hi.2⟩).putO hdst hrep⟩
   rw [hdd] at s1;have s2:=St.frzSlot (k:=d) s1 (Env.upd_same _ _ _) (Heap.upd_same _ _ _) hpp;rw [Z7J _ _ _ _ hnone] at s2;refine⟨.vec (b.elems++mm) false,.drop k,a.put o.dst val,w',⟨rfl,rfl⟩,?_⟩;rw [hx];show St C _ (updO e o.dst _) _ (a.put o.dst val) w';rw [hdd];have e1:(updO e (some d) (.own (n+x.i))).upd d (.vec (b.elems++mm) false)=updO e (some d) (.vec (b.elems++mm) false):=Z7I _ _ _ _;rw [← e1];exact s2
 | det hw hn p f hd =>
   have hrun:=hd.run h fun _ _ _=>rfl;have hdf:dEval x.o.op e h (n+x.i)=some (p,f.app h) ∨ fEval x.o.op e h (n+x.i)=some (p,f.app h):=by
    unfold evalB at hrun
    split at hrun
    · exact .inr hrun
    · exact .inl hrun
   obtain⟨r,val,w',F',φ',_,_,s',hrep⟩:=Z7H hop s hid (by rw [hx] at hdf; exact hdf);exact⟨p,f,_,w',⟨rfl,rfl⟩,F',φ',by rw [hx]; exact (s'.weaken (Fr':=fun i=>Fr i∧i≠n+x.i) fun i hi=>⟨hi.1,fun _=>hi.2⟩).putO hdst hrep⟩
theorem ZdK {ops:Array Oper} {n:Nat} (hzn:HZ z n) {y:DItem} {post:List DItem} {K:Env→Heap→Prop} (hnc:isCall y.o.op=false):∀ {pre:List DItem},(∀ x∈pre,Indep z x y)→(∀ x∈pre,∃ o,cOper P C.nt ops o=some x.o)→(pre.map (·.i)).Nodup →
 ∀ {Fr:Nat→Prop} {e:Env} {h:Heap} {F:Froz} {φ:Locs} {a:Act} {w:World},St' C Fr e h F φ a w→(∀ x∈pre,Fr (n+x.i))→dK P z n (pre++y :: post) e h K→∃ q g,Sem1 P z n y e h (fun q' g'=>q'=q∧g'=g):=by
 intro pre
 induction pre with
 | nil =>
   intro _ _ _ Fr e h F φ a w s _ hk;obtain⟨T,hT,_⟩:=hk;cases hT with
   | skip hw=>exact⟨_,_,.skip hw⟩
   | call hw f args ho R hc=>rw [ho] at hnc; simp [isCall] at hnc
   | callP hw f args ho=>rw [ho] at hnc; simp [isCall] at hnc
   | callN hw f args ho=>rw [ho] at hnc; simp [isCall] at hnc
   | callD hw f args ho=>rw [ho] at hnc; simp [isCall] at hnc
   | detF hw ha d hd0 zz bytes sx y ho k b mm fl hsx hyx hbk hcond hpp hacc=>exact⟨_,_,.detF hw ha d hd0 zz bytes sx y ho k b mm fl hsx hyx hbk hcond hpp hacc⟩
   | det hw hn p f hd=>exact⟨_,_,.det hw hn p f hd⟩
 | cons x pre ih =>
   intro hall hc hnd Fr e h F φ a w s hfr hk;obtain⟨T,hT,hK⟩:=hk;obtain⟨o,ho⟩:=hc x (by simp);obtain⟨p,f,a',w',hpf,F',φ',s'⟩:=ZdJ (ops:=ops) ho hT s (hfr x (by simp));rw [List.map_cons,List.nodup_cons] at hnd
   obtain⟨q,g,hy⟩:=ih (fun z hz=>hall z (by simp [hz])) (fun z hz=>hc z (by simp [hz])) hnd.2 s' (fun z hz=>⟨hfr z (by simp [hz]),fun he=>hnd.1 (by
    have:z.i=x.i:=by omega
    rw [← this]
    exact List.mem_map_of_mem hz)⟩) (hK p f hpf)
   exact⟨q,g,(Sem1.over hzn (hall x (by simp)) hT hpf).1 hy⟩
structure DInv (z:Rsv) (P:Program) (nt:Nat) (ops:Array Oper) (L:List Nat) (rem:List DItem) (listed:Array Bool):Prop where
 size:listed.size=ops.size
 mem:∀ j,j<ops.size→(listed.getD j false=false↔∃ x∈rem,x.i=j)
 item:∀ x∈rem,x.i<ops.size∧x.mask=L.getD x.i 0∧∀ o,ops[x.i]?=some o→cOper P nt ops o=some x.o
 ord:rem.Pairwise fun x y=>x.i<y.i∧(y.mask.testBit x.i=false→Indep z x y)
 closed:∀ j,j<ops.size→listed.getD j false=true→∀ k,(L.getD j 0).testBit k=true→listed.getD k false=true
theorem Zbj {listed:Array Bool} {j:Nat} (h:listed.getD j true=false):j<listed.size∧listed.getD j false=false:=by
 simp only [Y0d] at h ⊢;cases hj:listed[j]? with
 | none=>rw [hj] at h; simp at h
 | some b=>rw [hj] at h; exact⟨(Array.getElem?_eq_some_iff.1 hj).1,by simpa using h⟩
theorem ZfG (hok:FenceOk FN m) {ops:Array Oper} {L:List Nat} (hL:MOk ops L) {n:Nat} (hzn:HZ z n) {K:Env→Heap→Prop} {Q:Exit→Act→World→Prop}
 (hQ : ∀ e h a w, K e h → St C (fun i => n + ops.size ≤ i) e h a w → Q .normal a w) : ∀ (fuel : Nat) (rem : List DItem) (listed : Array Bool), DInv z P C.nt ops L rem listed → rem.length ≤ fuel →
   ∀ {Fr:Nat→Prop} {e:Env} {h:Heap} {a:Act} {w:World},St C Fr e h a w→(∀ x∈rem,Fr (n+x.i))→(∀ i,n+ops.size≤i→Fr i)→dK P z n rem e h K→wpAnyIn FN m P .any ops Q fuel listed a w:=by
 intro fuel;have hdone:∀ (rem:List DItem) (listed:Array Bool),DInv z P C.nt ops L rem listed→Region.ready .any ops listed = []→rem = []:=by
  intro rem listed inv hr;cases rem with
  | nil=>rfl
  | cons x xs =>
    exfalso;obtain⟨hxl,hxm,hxo⟩:=inv.item x (by simp);have ho:ops[x.i]?=some ops[x.i]:=Array.getElem?_eq_getElem hxl;have hin:x.i∈Region.ready .any ops listed:=by
     rw [mem_ready];have h0:=(inv.mem x.i hxl).2 ⟨x,by simp,rfl⟩;refine⟨?_,_,ho,fun ed hed hb=>?_⟩
     · have hlt : x.i < listed.size := by rw [inv.size]; exact hxl
       simpa [Array.getD,hlt] using h0
     · have hlt := hL.lt x.i _ ho ed hed hb;cases hl:listed.getD ed.on false with
       | true=>rfl
       | false =>
         obtain⟨z,hz,hzi⟩:=(inv.mem ed.on (by omega)).1 hl;rcases List.mem_cons.1 hz with rfl|hz
         · omega
         · have := (List.pairwise_cons.1 inv.ord).1 z hz;omega
    rw [hr] at hin;cases hin
 induction fuel with
 | zero =>
   intro rem listed inv hlen Fr e h a w hs hfr hfr2 hk;have hrem:rem = []:=List.eq_nil_of_length_eq_zero (by omega);subst hrem;refine⟨?_,hQ e h a w hk (by obtain⟨F,φ,s⟩:=hs; exact⟨F,φ,s.weaken hfr2⟩)⟩;cases hr:Region.ready .any ops listed with
   | nil=>rfl
   | cons j js =>
     exfalso;have hj:j∈Region.ready .any ops listed:=by rw [hr]; simp
     obtain⟨h0,o,ho,_⟩:=mem_ready.1 hj;have hlt:j<ops.size:=(Array.getElem?_eq_some_iff.1 ho).1;obtain⟨x,hx,_⟩:=(inv.mem j hlt).1 (Zbj h0).2;cases hx
 | succ fuel ih =>
   intro rem listed inv hlen Fr e h a w hs hfr hfr2 hk;refine⟨fun hr=>?_,fun i hi=>?_⟩
   · obtain rfl := hdone rem listed inv hr;exact hQ e h a w hk (by obtain⟨F,φ,s⟩:=hs; exact⟨F,φ,s.weaken hfr2⟩)
   · obtain ⟨h0, o, ho, hpre⟩ := mem_ready.1 hi;have hlt:i<ops.size:=(Array.getElem?_eq_some_iff.1 ho).1;obtain⟨y,hy,rfl⟩:=(inv.mem i hlt).1 (Zbj h0).2;obtain⟨pre,post,rfl⟩:=List.append_of_mem hy;obtain⟨_,hym,hyo⟩:=inv.item y hy;have hpw:=List.pairwise_append.1 inv.ord;have hall:∀ x∈pre,Indep z x y:=by
      intro x hx;have hxy:=hpw.2.2 x hx y (by simp);refine hxy.2 ?_;cases hb:y.mask.testBit x.i with
      | false=>rfl
      | true =>
        exfalso;rw [hym] at hb;obtain⟨ed,hed,hbind,hon⟩:=hL.mem y.i o ho x.i hb;have hl:=hpre ed hed hbind;have hxl:=(inv.item x (by simp [hx])).1;have hxun:=(inv.mem x.i hxl).2 ⟨x,by simp [hx],rfl⟩;rcases hon with hon|hon
        · rw [hon] at hl; rw [hl] at hxun; cases hxun
        · have hedl : ed.on < ops.size := by have := hL.lt y.i o ho ed hed hbind; omega
          have:=inv.closed ed.on hedl hl x.i hon;rw [this] at hxun; cases hxun
     have hnd:((pre++post).map (·.i)).Nodup∧∀ z∈pre++post,z.i≠y.i:=by
      have h1:(pre++y :: post).Pairwise fun x y=>x.i≠y.i:=inv.ord.imp fun h=>by omega
      constructor
      · rw [List.nodup_iff_pairwise_ne, List.pairwise_map];exact h1.sublist (List.Sublist.append (List.Sublist.refl _) (List.sublist_cons_self _ _))
      · intro z hz;have h2:=List.pairwise_append.1 h1;rcases Y0h.1 hz with hz|hz
        · exact h2.2.2 z hz y (by simp)
        · exact ((List.pairwise_cons.1 h2.2.1).1 z hz).symm
     have hpnd:(pre.map (·.i)).Nodup:=by
      have:=hnd.1;rw [Y0r] at this;exact (List.nodup_append.1 this).1
     obtain⟨F,φ,s⟩:=hs;have hpull:∃ Ty,Sem1 P z n y e h Ty∧∀ q g,Ty q g→dK P z n (pre++post) (updO e y.o.dst q) (g.app h) K:=by
      cases hc:isCall y.o.op with
      | true=>exact Z8G hzn hall hc hk
      | false =>
        obtain⟨q,g,hsem⟩:=ZdK (ops:=ops) hzn hc hall (fun x hx=>by
         obtain⟨h1,_,h3⟩:=inv.item x (by simp [hx])
         exact⟨_,h3 _ (Array.getElem?_eq_getElem h1)⟩) hpnd s (fun x hx=>hfr x (by simp [hx])) hk
        refine⟨_,hsem,?_⟩;rintro q' g' ⟨rfl,rfl⟩;exact Z9S hzn hall hsem hc hk
     obtain⟨Ty,hsem,hnext⟩:=hpull;refine ZdI hok ho (hyo o ho) hsem s (hfr y (by simp)) fun p f a' w' hpf hs'=>?_;have hne:∀ j,j≠y.i→(listed.setIfInBounds y.i true).getD j false=listed.getD j false:=fun j hj=>by
      simp only [Y0d,Array.getElem?_setIfInBounds];rw [if_neg (Ne.symm hj)]
     have hsame:(listed.setIfInBounds y.i true).getD y.i false=true:=by
      have:y.i<listed.size:=by rw [inv.size]; exact hlt
      simp [Y0d,this]
     refine ih (pre++post) _ ⟨by simpa using inv.size,fun j hj=>?_,fun x hx=>?_,?_,fun j hj hl k hk=>?_⟩ (by simp at hlen ⊢;omega) hs' (fun x hx=>⟨hfr x ?_,fun he=>hnd.2 x hx (by omega)⟩) (fun j hj=>⟨hfr2 j hj,by omega⟩) (hnext p f hpf)
     · by_cases hj' : j = y.i
       · subst hj';rw [hsame];constructor
         · intro h; cases h
         · rintro⟨x,hx,hxi⟩; exact absurd hxi (hnd.2 x hx)
       · rw [hne j hj', inv.mem j hj];constructor
         · rintro ⟨x, hx, hxi⟩;refine⟨x,?_,hxi⟩;rcases Y0h.1 hx with hx|hx
           · exact Y0h.2 (.inl hx)
           · rcases List.mem_cons.1 hx with rfl | hx
             · exact absurd hxi.symm hj'
             · exact Y0h.2 (.inr hx)
         · rintro ⟨x, hx, hxi⟩;refine⟨x,?_,hxi⟩;rcases Y0h.1 hx with hx|hx
           · exact Y0h.2 (.inl hx)
           · exact Y0h.2 (.inr (by simp [hx]))
     · refine inv.item x ?_;rcases Y0h.1 hx with hx|hx
       · exact Y0h.2 (.inl hx)
       · exact Y0h.2 (.inr (by simp [hx]))
     · exact inv.ord.sublist (List.Sublist.append (List.Sublist.refl _) (List.sublist_cons_self _ _))
     · by_cases hk' : k = y.i
       · rw [hk']; exact hsame
       · rw [hne k hk'];by_cases hj':j=y.i
         · subst hj';obtain⟨ed,hed,hbind,hon⟩:=hL.mem y.i o ho k hk;have hl':=hpre ed hed hbind;rcases hon with hon|hon
           · rw [← hon]; exact hl'
           · exact inv.closed ed.on (by have:=hL.lt y.i o ho ed hed hbind;omega) hl' k hon
         · rw [hne j hj'] at hl;exact inv.closed j hj hl k hk
     · rcases Y0h.1 hx with hx | hx
       · exact Y0h.2 (.inl hx)
       · exact Y0h.2 (.inr (by simp [hx]))
def DItem.setAlt (alts:List Nat) (x:DItem):DItem:={ x with alt:=alts.contains x.i }
theorem Zcl {nt:Nat} {ops:Array Oper}:∀ {l:List Oper} {al:List AOper},cOpers P nt ops l=some al→al.length=l.length∧∀ (i:Nat) (o:Oper),l[i]?=some o→∃ x,al[i]?=some x∧cOper P nt ops o=some x:=by
 intro l
 induction l with
 | nil =>
   intro al hc;obtain rfl : []=al:=by simpa [cOpers] using hc
   exact⟨rfl,fun i o ho=>by simp at ho⟩
 | cons o r ih =>
   intro al hc;simp only [cOpers] at hc
   split at hc
   case h_2=>simp at hc
   rename_i ao al' ho hl;obtain rfl:ao :: al'=al:=by simpa using hc
   obtain⟨h1,h2⟩:=ih hl;refine⟨by simp [h1],fun i o' ho'=>?_⟩;cases i with
   | zero => obtain rfl : o = o' := by simpa using ho'
             exact⟨ao,rfl,ho⟩
   | succ i=>exact h2 i o' (by simpa using ho')
theorem Zcm (hok:FenceOk FN m) (hm:P.follows .mixedOrders=true) {id:Nat} {ops:Array Oper} {al:List AOper} {L:List Nat} (hc:cOpers P C.nt ops ops.toList=some al) (hL:masksOk ops L=true) (hp:pairsOk (dItems al L)=true) (hu:unOk z (dItems al L)=true)
 {n:Nat} (hzn:HZ z n) (hs:St C (fun i=>n≤i) e h a w) {Q:Exit→Nat→Env→Heap→Prop} (alts:List Nat) (hk:dK P z n ((dItems al L).map (DItem.setAlt alts)) e h fun e h=>Q .normal (n+(dItems al L).length) e h):(Code.region id ops true).wpIn FN m P (PostA C Q) a w:=by
 obtain⟨hlen,hget⟩:=Zcl hc;have hdl:(dItems al L).length=ops.size:=by simp [dItems,hlen]
 have hs':St C (fun i=>n≤i) e h a { w with drawn:=w.drawn+1 }:=by obtain⟨F,φ,s⟩:=hs; exact⟨F,φ,s.drew⟩
 refine wpIn_region_any hm (ZfG (z:=z) hok (Z8K hL) (n:=n) hzn (K:=fun e h=>Q .normal (n+(dItems al L).length) e h) (fun e h a w hK hSt=>⟨n+(dItems al L).length,e,h,hK,by rw [hdl]; exact hSt⟩) ops.size _ _ ⟨by simp,fun j hj=>?_,fun x hx=>?_,?_,fun j hj hl=>?_⟩ (by simp [hdl]) hs' (fun x _=>Nat.le_add_right _ _) (fun i hi=>by omega) hk)
 · have hj' : j < al.length := by rw [hlen]; simpa using hj
   constructor
   · intro _;refine⟨DItem.setAlt alts ⟨j,al[j],L.getD j 0,isoN al L j,false⟩,?_,rfl⟩;refine List.mem_map_of_mem ?_;refine Y0i.2 ⟨(al[j],j),?_,rfl⟩;rw [List.mem_zipIdx_iff_getElem?];simp [hj']
   · intro _; simp [Y0d,hj]
 · obtain ⟨z, hz, rfl⟩ := Y0i.1 hx;obtain⟨q,hq,rfl⟩:=Y0i.1 hz;have hqg:=List.mem_zipIdx_iff_getElem?.1 hq;have hql:q.2<al.length:=(List.getElem?_eq_some_iff.1 hqg).1;refine⟨by simp only [DItem.setAlt]; rw [hlen] at hql; simpa using hql,rfl,fun o ho=>?_⟩;obtain⟨x,hx1,hx2⟩:=hget q.2 o (by simpa [DItem.setAlt] using ho);rw [hqg] at hx1;cases hx1;exact hx2
 · rw [List.pairwise_map];have hsub:(dItems al L).Pairwise fun x y=>x.i<y.i:=by
    unfold dItems;rw [List.pairwise_map];have h2:(al.zipIdx.map Prod.snd).Pairwise (· < ·):=by
     rw [List.zipIdx_map_snd]; exact List.pairwise_lt_range'
    exact (List.pairwise_map.1 h2)
   refine List.Pairwise.imp_of_mem ?_ hsub;intro x y hx hy hlt;refine⟨hlt,fun hb=>?_⟩;have h1:=List.all_eq_true.1 hp x hx;have h2:=List.all_eq_true.1 h1 y hy;have hblt:Nat.blt x.i y.i=true:=Nat.ble_eq_true_of_le hlt;have hb':y.mask.testBit x.i=false:=hb;simp only [hblt,hb',Bool.not_true,Bool.false_or] at h2;have hi:=Z9U h2 hlt hb' hu hx hy;exact⟨hi.xy,hi.yx,hi.calls,hi.xiso,hi.yiso,hi.xlone,hi.ylone,hi.ne,hi.mx,hi.my,hi.xun,hi.yun,hi.xown,hi.yown⟩
 · simp [Y0d,hj] at hl
end
inductive ACode where
 | skip
 | region (ops:List AOper)
 | draw (l:List DItem)
 | seq (a b:ACode)
 | cond (c:Operand) (thn els:ACode)
 | block (id:Nat) (body:ACode)
 | loop (body:ACode)
 | exit (id:Nat)
 | ret
 | range (f:Operand) (ps:List Nat) (asg:List (Nat×Operand)) (body:ACode)
 | bad
def cMoves:List Oper→Option (List (Nat×Operand))
 | []=>some []
 | o :: r => match o.op, o.guard, o.dst, cMoves r with
   | .move x,none,some d,some l=>some ((d,x) :: l)
   | .assign x,none,some d,some l=>some ((d,x) :: l)
   | _,_,_,_=>none
def cAsg:Code→Option (List (Nat×Operand))
 | .skip=>some []
 | .region _ ops false=>cMoves ops.toList
 | _=>none
def cCode (P:Program) (nt:Nat):Code→Option ACode
 | .skip=>some .skip
 | .region _ ops draw => match cOpers P nt ops ops.toList with
   | some al => match draw with
     | false=>some (.region al)
     | true => match masksOk ops (Region.before ops).toList && pairsOk (dItems al (Region.before ops).toList) with
       | true=>some (.draw (dItems al (Region.before ops).toList))
       | false=>some .bad
   | none=>some .bad
 | .seq a b => match cCode P nt a, cCode P nt b with
   | some x,some y=>some (.seq x y)
   | _,_=>none
 | .cond c a b => match cCode P nt a, cCode P nt b with
   | some x,some y=>some (.cond c x y)
   | _,_=>none
 | .block id c => match cCode P nt c with
   | some x=>some (.block id x)
   | none=>none
 | .loop c => match cCode P nt c with
   | some x=>some (.loop x)
   | none=>none
 | .exit id=>some (.exit id)
 | .ret=>some .ret
 | .rangeFunc f ps g c => match cAsg g, cCode P nt c with
   | some l,some x=>if ps.toList.all (· < nt)&&l.all (·.1<nt) then some (.range f ps.toList l x) else none
   | _,_=>none
 | _=>some .bad
def LoopOk (FN:Fence) (C:Ctx):Prop:=∀ l,FN.round=some l→(∃ r,C.w0.heap[l]?=some (.loop r))∧¬ C.G l
def aw (P:Program) (C:Ctx) (ac:ACode) (Q:Exit→Nat→Env→Heap→Prop) (n:Nat) (e:Env) (h:Heap):Prop :=
 P.follows .mixedOrders=true→∀ (FN:Fence) (m:Nat),FenceOk FN m∧LoopOk FN C→∀ c,cCode P C.nt c=some ac→∀ a w,St C (fun i=>n≤i) e h a w→c.wpIn FN m P (PostA C Q) a w
def thenQ (next:Nat→Env→Heap→Prop) (Q:Exit→Nat→Env→Heap→Prop):Exit→Nat→Env→Heap→Prop
 | .normal=>next
 | x=>Q x
def blockQ (id:Nat) (Q:Exit→Nat→Env→Heap→Prop):Exit→Nat→Env→Heap→Prop
 | .exit id'=>bif Nat.beq id' id then Q .normal else Q (.exit id')
 | x=>Q x
noncomputable def least (p:Nat→Prop):Nat:=open Classical in if h:∃ k,p k∧∀ j,p j→k≤j then Classical.choose h else 0
theorem Z3L {p:Nat→Prop} {k:Nat} (hk:p k):p (least p)∧least p≤k:=by
 have hex:∃ k,p k∧∀ j,p j→k≤j:=by
  induction k using Nat.strongRecOn with
  | _ k ih =>
    by_cases h:∃ j,j<k∧p j
    · obtain ⟨j, hj, hpj⟩ := h;exact ih j hj hpj
    · exact ⟨k, hk, fun j hj => by
       rcases Nat.lt_or_ge j k with h' | h'
       · exact absurd ⟨j,h',hj⟩ h
       · exact h'⟩
 unfold least;rw [dif_pos hex];exact⟨(Classical.choose_spec hex).1,(Classical.choose_spec hex).2 k hk⟩
section
variable {P:Program} {C:Ctx} {Q:Exit→Nat→Env→Heap→Prop} {n:Nat} {e:Env} {h:Heap}
theorem Z54 {ac:ACode} {Q':Exit→Nat→Env→Heap→Prop} (hk:aw P C ac Q n e h) (hq:∀ x n e h,Q x n e h→Q' x n e h):aw P C ac Q' n e h :=
 fun hm FN m hok c hc a w hs=>wpIn_mono (hk hm FN m hok c hc a w hs) fun x a w ⟨n,e,h,hQ,hS⟩=>⟨n,e,h,hq _ _ _ _ hQ,hS⟩
theorem Z22 {ac:ACode} {n':Nat} {e':Env} {h':Heap} (hs:Sub C n e h n' e' h') (hk:aw P C ac Q n' e' h'):aw P C ac Q n e h :=
 fun hm FN m hok c hc a w hst=>hk hm FN m hok c hc a w (hs a w hst)
theorem Z9V (hk:Q .normal n e h):aw P C .skip Q n e h:=by
 intro hm FN m hok c hc a w hs;have:c=.skip:=by
  unfold cCode at hc
  split at hc<;>first|rfl|(simp at hc; done)|((repeat' (split at hc))<;>simp at hc)
 subst this;exact wpIn_skip ⟨n,e,h,hk,hs⟩
theorem Z9W {id:Nat} (hk:Q (.exit id) n e h):aw P C (.exit id) Q n e h:=by
 intro hm FN m hok c hc a w hs;have:c=.exit id:=by
  unfold cCode at hc
  split at hc<;>first|(simp at hc; subst hc; rfl)|(simp at hc; done)|((repeat' (split at hc))<;>simp at hc)
 subst this;exact wpIn_exit ⟨n,e,h,hk,hs⟩
theorem ZdL (hk:Q .ret n e h):aw P C .ret Q n e h:=by
 intro hm FN m hok c hc a w hs;have:c=.ret:=by
  unfold cCode at hc
  split at hc<;>first|rfl|(simp at hc; done)|((repeat' (split at hc))<;>simp at hc)
 subst this;exact wpIn_ret ⟨n,e,h,hk,hs⟩
theorem Zs {x y:ACode} (hk:aw P C x (thenQ (aw P C y Q) Q) n e h):aw P C (.seq x y) Q n e h:=by
 intro hm FN m hok c hc a w hs;have:∃ c1 c2,c=.seq c1 c2∧cCode P C.nt c1=some x∧cCode P C.nt c2=some y:=by
  unfold cCode at hc
  split at hc<;>first
   | (split at hc<;>first|(simp at hc; obtain⟨rfl,rfl⟩:=hc; exact⟨_,_,rfl,by assumption,by assumption⟩)|(simp at hc; done)|((repeat' (split at hc))<;>simp at hc; done))
   | (simp at hc; done)
 obtain⟨c1,c2,rfl,h1,h2⟩:=this;refine wpIn_seq (wpIn_mono (hk hm FN m hok c1 h1 a w hs) fun x a w ⟨n,e,h,hQ,hS⟩=>?_);cases x with
 | normal=>exact hQ hm FN m hok c2 h2 a w hS
 | _=>exact⟨n,e,h,hQ,hS⟩
theorem Z3m {c:Operand} {x y:ACode} {b:Bool} (hc:ev e c=some (.val (.bool b))) (ht:b=true→aw P C x Q n e h) (hf:b=false→aw P C y Q n e h):aw P C (.cond c x y) Q n e h:=by
 intro hm FN m hok cc hcc a w hs;have:∃ c1 c2,cc=.cond c c1 c2∧cCode P C.nt c1=some x∧cCode P C.nt c2=some y:=by
  unfold cCode at hcc
  split at hcc<;>first
   | (split at hcc<;>first|(simp at hcc; obtain⟨rfl,rfl,rfl⟩:=hcc; exact⟨_,_,rfl,by assumption,by assumption⟩)|(simp at hcc; done)|((repeat' (split at hcc))<;>simp at hcc; done))
   | (simp at hcc; done)
 obtain⟨c1,c2,rfl,h1,h2⟩:=this;obtain⟨F,φ,s⟩:=hs;refine wpIn_cond_split (s.eval hc).val_inv (fun hb=>ht hb hm FN m hok c1 h1 a w ⟨F,φ,s⟩) (fun hb=>hf hb hm FN m hok c2 h2 a w ⟨F,φ,s⟩)
theorem Z7K {id:Nat} {x:ACode} (hk:aw P C x (blockQ id Q) n e h):aw P C (.block id x) Q n e h:=by
 intro hm FN m hok c hc a w hs;have:∃ c1,c=.block id c1∧cCode P C.nt c1=some x:=by
  unfold cCode at hc
  split at hc<;>first
   | (split at hc<;>first|(simp at hc; obtain⟨rfl,rfl⟩:=hc; exact⟨_,rfl,by assumption⟩)|(simp at hc; done)|((repeat' (split at hc))<;>simp at hc; done))
   | (simp at hc; done)
 obtain⟨c1,rfl,h1⟩:=this;refine wpIn_block (wpIn_mono (hk hm FN m hok c1 h1 a w hs) fun x a w ⟨n,e,h,hQ,hS⟩=>?_);cases x with
 | exit id' =>
   simp only [blockQ] at hQ;simp only [Exit.inBlock];by_cases hid:id'=id
   · subst hid;have hb:Nat.beq id' id'=true:=by simp
     rw [hb] at hQ;rw [if_pos rfl];exact⟨n,e,h,hQ,hS⟩
   · have hb : Nat.beq id' id = false := Bool.eq_false_iff.2 fun hb => hid (Nat.eq_of_beq_eq_true hb);rw [hb] at hQ;rw [if_neg hid];exact⟨n,e,h,hQ,hS⟩
 | _=>exact⟨n,e,h,hQ,hS⟩
theorem Z7L {X:Type} (I:X→Prop) (μ:X→Nat) (N:X→Nat) (E:X→Env) (H:X→Heap) {body:ACode} (x0:X) (h0:I x0) (hs0:Sub C n e h (N x0) (E x0) (H x0))
 (round:∀ x,I x→aw P C body (thenQ (fun n e h=>∃ x',I x'∧μ x'<μ x∧Sub C n e h (N x') (E x') (H x')) Q) (N x) (E x) (H x)):aw P C (.loop body) Q n e h:=by
 intro hm FN m hok c hc a w hs;have:∃ c1,c=.loop c1∧cCode P C.nt c1=some body:=by
  unfold cCode at hc
  split at hc<;>first
   | (split at hc<;>first|(simp at hc; subst hc; exact⟨_,rfl,by assumption⟩)|(simp at hc; done)|((repeat' (split at hc))<;>simp at hc; done))
   | (simp at hc; done)
 obtain⟨c1,rfl,h1⟩:=this
 let p:Act→World→Nat→Prop:=fun a w k=>∃ x,I x∧μ x=k∧St C (fun i=>N x≤i) (E x) (H x) a w
 refine wpIn_loop (fun a w=>∃ k,p a w k) (fun a w=>least (p a w)) ⟨_,x0,h0,rfl,hs0 a w hs⟩ ?_;rintro a w ⟨k,hk⟩;obtain⟨⟨x,hx,hxk,hst⟩,_⟩:=Z3L hk;refine wpIn_mono (round x hx hm FN m hok c1 h1 a w hst) fun ex a' w' ⟨n',e',h',hQ,hS⟩=>?_;cases ex with
 | normal =>
   obtain⟨x',hx',hlt,hsub⟩:=hQ;have hp':p a' w' (μ x'):=⟨x',hx',rfl,hsub a' w' hS⟩
   refine⟨⟨_,hp'⟩,?_⟩;have:=(Z3L hp').2;omega
 | _=>exact⟨n',e',h',hQ,hS⟩
theorem Zc {al:List AOper} (hk:opsK P al n e h (fun n e h=>Q .normal n e h)):aw P C (.region al) Q n e h:=by
 intro hm FN m hok c hc a w hs;have:∃ id ops,c=.region id ops false∧cOpers P C.nt ops ops.toList=some al:=by
  unfold cCode at hc
  split at hc<;>first
   | (simp at hc; done)
   | (split at hc
      · split at hc
        · simp at hc; subst hc; exact⟨_,_,rfl,by assumption⟩
        · split at hc<;>simp at hc
      · simp at hc)
   | (split at hc<;>simp at hc; done)
   | ((repeat' (split at hc))<;>simp at hc; done)
 obtain⟨id,ops,rfl,h1⟩:=this;exact Z8E hok.1 h1 hs hk
theorem Z7M {l:List DItem} (z:Rsv) (hu:unOk z l=true) (hzn:HZ z n) (alts:List Nat) (hk:dK P z n (l.map (DItem.setAlt alts)) e h fun e h=>Q .normal (n+l.length) e h):aw P C (.draw l) Q n e h:=by
 intro hm FN m hok c hc a w hs;have:∃ id ops al,c=.region id ops true∧cOpers P C.nt ops ops.toList=some al∧masksOk ops (Region.before ops).toList=true∧pairsOk (dItems al (Region.before ops).toList)=true∧dItems al (Region.before ops).toList=l:=by
  unfold cCode at hc
  split at hc<;>first
   | (simp at hc; done)
   | (split at hc
      · split at hc
        · simp at hc
        · split at hc
          · rename_i hb;rw [Y0k] at hb;simp at hc; exact⟨_,_,_,rfl,by assumption,hb.1,hb.2,hc⟩
          · simp at hc
      · simp at hc)
   | (split at hc<;>simp at hc; done)
   | ((repeat' (split at hc))<;>simp at hc; done)
 obtain⟨id,ops,al,rfl,h1,h2,h3,rfl⟩:=this;exact Zcm hok.1 hm h1 h2 h3 hu hzn hs alts hk
theorem Z60 {l:List DItem} (alts:List Nat) (hk:dK P .no n (l.map (DItem.setAlt alts)) e h fun e h=>Q .normal (n+l.length) e h):aw P C (.draw l) Q n e h:=Z7M .no rfl (fun _ h=>by cases h) alts hk
theorem Z2Z {l:List DItem} (alts:List Nat) (grp:List (Nat×Nat)) (un:List Nat) (hu:unOk ⟨none,grp,un,none⟩ l=true) (hk:dK P ⟨none,grp,un,none⟩ n (l.map (DItem.setAlt alts)) e h fun e h=>Q .normal (n+l.length) e h):aw P C (.draw l) Q n e h:=Z7M _ hu (fun _ h=>by cases h) alts hk
theorem ZfH {l:List DItem} (alts:List Nat) (id:Nat) (hid:id<n) (hk:dK P (.to id) n (l.map (DItem.setAlt alts)) e h fun e h=>Q .normal (n+l.length) e h):aw P C (.draw l) Q n e h:=Z7M (.to id) rfl (fun i h=>.inl (by cases h; exact hid)) alts hk
end
end Go.Proofs.YtmnbbggaoembeaaGreatDoor
