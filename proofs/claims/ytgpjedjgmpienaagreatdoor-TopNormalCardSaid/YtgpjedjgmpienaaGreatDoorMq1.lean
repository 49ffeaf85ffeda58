/-
  Merged from the texts that this claim's theorem needs, part 2 of 8. No statement of the seat is proved here.
-/
import Derived.Lib.AppendZerosOnto
import Derived.Lib.ConvBytes
import Derived.LoopNIn
import Derived.Test.YtgpjedjgmpienaaGreatDoorMq0
set_option linter.unusedSimpArgs false
set_option linter.unusedVariables false
set_option linter.unusedSectionVars false
set_option linter.defProp false
set_option maxRecDepth 100000
set_option maxHeartbeats 16000000
namespace Go.Proofs.YtgpjedjgmpienaaGreatDoor
section
open Go.RowKit
section
variable {P:Program} {C:Ctx} {Fr:Nat->Prop} {e:Env} {h:X0} {F:XC} {φ:XE} {a:Act} {w:World}
theorem XI.length:∀ {es:List MapEntry} {rs:List (List PV)},XI F φ es rs->es.length=rs.length
 | [],[],_=>rfl
 | m :: es,r :: rs,h=>by simp [h.2.length]
 | [],_ :: _,h=>h.elim
 | _ :: _,[],h=>h.elim
theorem XI.at:∀ {es:List MapEntry} {rs:List (List PV)},XI F φ es rs->∀ {j:Nat} {m:MapEntry},es[j]?=some m->∃ k v,rs[j]?=some [k,v]/\Rep F φ m.key k/\Rep F φ m.val v
 | m :: es, r :: rs, h, 0, m', hm => by
   obtain⟨⟨k,v,rfl,h1,h2⟩,h3⟩:=h;obtain rfl:m=m':=by simpa using hm
   exact⟨k,v,rfl,h1,h2⟩
 | m :: es, r :: rs, h, j + 1, m', hm => by
   obtain⟨k,v,h1,h2,h3⟩:=h.2.at (j:=j) (m:=m') (by simpa using hm);exact⟨k,v,by simpa using h1,h2,h3⟩
 | [],[],_,_,_,hm=>by simp at hm
 | [],_ :: _,h,_,_,_=>h.elim
 | _ :: _,[],h,_,_,_=>h.elim
theorem XI.set:∀ {es:List MapEntry} {rs:List (List PV)},XI F φ es rs->∀ {j:Nat} {m:MapEntry} {k v:PV},Rep F φ m.key k->Rep F φ m.val v->XI F φ (es.set j m) (rs.set j [k,v])
 | [],[],_,_,_,_,_,_,_=>trivial
 | m :: es,r :: rs,h,0,m',k,v,h1,h2=>⟨⟨k,v,rfl,h1,h2⟩,h.2⟩
 | m :: es,r :: rs,h,j+1,m',k,v,h1,h2=>⟨h.1,h.2.set h1 h2⟩
 | [],_ :: _,h,_,_,_,_,_,_=>h.elim
 | _ :: _,[],h,_,_,_,_,_,_=>h.elim
theorem XI.push:∀ {es:List MapEntry} {rs:List (List PV)},XI F φ es rs->∀ {m:MapEntry} {k v:PV},Rep F φ m.key k->Rep F φ m.val v->XI F φ (es ++ [m]) (rs ++ [[k,v]])
 | [],[],_,m,k,v,h1,h2=>⟨⟨k,v,rfl,h1,h2⟩,Yt⟩
 | m :: es,r :: rs,h,m',k,v,h1,h2=>⟨h.1,h.2.push h1 h2⟩
 | [],_ :: _,h,_,_,_,_,_=>h.elim
 | _ :: _,[],h,_,_,_,_,_=>h.elim
theorem St'.allocMapOf (s:St' C Fr e h F φ a w) {id:Nat} (hid:Fr id) (es0:Array MapEntry) (t0:Nat) (rows0:List (List PV)) (hrows:XI F φ es0.toList rows0) :
 St' C (fun i=>Fr i/\i≠id) e (h.upd id ⟨0,rows0⟩) F (Xb φ id ⟨some ⟨w.heap.size,0,none⟩,0,0,1⟩) a (w.alloc (.map es0 t0)) :=
 s.allocOb hid _ rfl fun hext=>.inr ⟨rfl,rfl,by simp,⟨w.heap.size,0,none⟩,rfl,es0,t0,Y35 w _,hrows.imp fun _ _ _ _ _ h=>h.mono (fun _ _ h=>h) hext⟩
theorem St'.allocMap (s:St' C Fr e h F φ a w) {id:Nat} (hid:Fr id) :
 St' C (fun i=>Fr i/\i≠id) e (h.upd id ⟨0,[]⟩) F (Xb φ id ⟨some ⟨w.heap.size,0,none⟩,0,0,1⟩) a (w.alloc (.map #[] 0)):=s.allocMapOf hid #[] 0 [] Yt
theorem St'.adoptMap (s:St' C Fr e h F φ a w) {id:Nat} {b:Bx} {loc:Loc} {x:Addr} (hb:h id=some b) (hl:φ id=some loc) (hz:loc.esz=0) (hx:loc.base=some x) {es':Array MapEntry} {t':Nat} {rows:List (List PV)} (hr:XI F φ es'.toList rows) :
 St' C Fr e (h.upd id ⟨0,rows⟩) F φ a (w.putObj x.block (.map es' t')):=by
 obtain⟨loc',h1,h2,h3⟩:=s.live id b hb;obtain rfl:loc'=loc:=by rw [h1] at hl; simpa using hl
 have h2:=h2.rows hz;obtain⟨y,hy,es,t,hg,_⟩:=h2.room;obtain rfl:y=x:=by rw [hy] at hx; simpa using hx
 have hhas:loc'.has y.block:=⟨h2.cap,y,hy,rfl⟩
 have hold:∀ k,k≠y.block->(w.putObj y.block (.map es' t')).heap[k]?=w.heap[k]?:=fun k hk=>Y4s hk
 refine { nt := s.nt, glob := s.glob, marks := s.marks.mono (fun k hk => by rw [hold k (fun e => by subst e; rw [hg] at hk; cases hk)]; exact hk), loc0 := s.loc0, free := s.free, env := s.env, froz := fun x v hx => ?_, ext := s.ext, old := s.old, os := s.os, tape := s.tape, output := s.output,
          size:=by have:=s.size; simpa using this,kept:=fun k hk hG=>?_,live:=?_,sep:=?_ }
 . obtain ⟨g1, g2, g3⟩ := s.froz x v hx;refine⟨g1,g2,?_⟩;have:x.block≠y.block:=fun e=>by rw [(h3 _ hhas).2 x e] at hx; cases hx
   rw [Y1Y (w:=w) (hold _ this)];exact g3
 . have : k ≠ y.block := by
    rintro rfl;rcases (h3 _ hhas).1 with h' | h'
    . omega
    . exact hG h'
   rw [hold k this];exact s.kept k hk hG
 . intro i bi hbi;by_cases hi:i=id
   . subst hi;rw [X0.upd_same] at hbi;cases hbi;exact⟨loc',h1,.inr ⟨rfl,hz,h2.cap,y,hy,es',t',World.putObj_heap_same (Y9.1 hg).1,hr⟩,h3⟩
   . rw [X0.upd_ne _ _ hi] at hbi;obtain⟨li,g1,g2,g3⟩:=s.live i bi hbi;exact⟨li,g1,g2.mono (fun _ _ h=>h) (fun _ _ h=>h) (fun k hk=>hold k fun e=>by subst e; exact hi (s.sep i id bi b li loc' _ hbi hb g1 h1 hk hhas)),g3⟩
 . intro i j bi bj li lj k hi hj hli hlj hki hkj;have conv:∀ {i:Nat} {bi:Bx},(h.upd id ⟨0,rows⟩) i=some bi->∃ b0,h i=some b0:=by
    intro i bi hi;by_cases hid:i=id
    . subst hid; exact⟨b,hb⟩
    . rw [X0.upd_ne _ _ hid] at hi; exact⟨bi,hi⟩
   obtain⟨b1,g1⟩:=conv hi
   obtain⟨b2,g2⟩:=conv hj
   exact s.sep i j b1 b2 li lj k g1 g2 hli hlj hki hkj
theorem X2Q {r t:Nat} {es:Array MapEntry} (hg:w.heap[r]?=some (.map es t)):(getObj r).run P w=.ok (.map es t) w:=by simp [getObj,Sem.run,hg]
theorem Zfo (s:St' C Fr e h F φ a w) {id:Nat} (hid:Fr id) {t:TypeId}:X4 P C Fr e F φ a w (Instr.makeMap t none) id (.mp id) (h.upd id ⟨0,[]⟩):=by
 refine⟨.map (some w.heap.size),w.alloc (.map #[] 0),F,_,by simp [Instr.makeMap],(s.allocMap hid).made,?_⟩;exact .mp id ⟨some ⟨w.heap.size,0,none⟩,0,0,1⟩ ⟨w.heap.size,0,none⟩ (by simp [Xb]) rfl rfl
theorem Z6c {t:TypeId} {z:Bool×List Value} (hz:X2O P t=some z):∃ v,(zeroValue t).run P w=.ok v w/\Rep F φ v (X4S z.1 z.2):=by
 unfold X2O at hz
 split at hz
 case h_2=>cases hz
 rename_i i hi
 split at hz
 . rename_i cs hcs
   split at hz
   case isFalse=>cases hz
   rename_i hall;cases hz;refine⟨.agg cs,ZT hi hcs,?_⟩;simp only [X4S];refine .agg cs _ (by simp [zpv]) (fun j hj=>?_) (fun j hj=>?_)
   . have hj' : j < cs.size := by simpa [zpv] using hj
     have:=YA.1 hall cs[j] (by simp);simpa [Array.getD,hj'] using this
   . have hj' : j < cs.size := by simpa [zpv] using hj
     have e1:cs.getD j undef=cs[j]:=by simp [Array.getD,hj']
     have e2:(zpv cs.toList).getD j pvu=X2p cs[j]:=by simp [zpv,Y0b,hj']
     rw [e1,e2];exact Z2h _
 . rename_i v _ hv
   split at hz
   case isFalse=>cases hz
   cases hz;exact⟨v,ZT hi hv,Z2h v⟩
 . cases hz
theorem ZdK (s:St' C Fr e h F φ a w) {id:Nat} {t kt el:TypeId} (hu:P.underlying t=some (.map kt el)) {c:KC} (hk:X4e P kt=some c) {z:Bool×List Value} (hz:X2O P el=some z) {ok:Bool}
 {x i:Operand} {p:PV} {h':X0} (hd:X1 (.lookup c z.1 z.2 ok x i) e h id=some (p,h')):X4 P C Fr e F φ a w (Instr.lookup t (a.eval x) (a.eval i) ok) id p h':=by
 simp only [X1] at hd
 split at hd
 case h_2=>cases hd
 rename_i k kp hx hi
 split at hd
 case h_2=>cases hd
 rename_i b hb
 split at hd
 case isFalse=>cases hd
 rename_i hc;obtain⟨loc,ad,hloc,hz0,hbase,hv⟩:=(s.eval hx).mp_inv;obtain⟨loc',h1,h2,h3⟩:=s.live k b hb;obtain rfl:loc'=loc:=by rw [h1] at hloc; simpa using hloc
 obtain⟨y,hy,es,tm,hg,hr⟩:=(h2.rows hz0).room;obtain rfl:y=ad:=by rw [hy] at hbase; simpa using hbase
 have hck:=Z6b (w:=w) hk (s.eval hi) hc.2 es.isEmpty
 split at hd
 case h_3=>cases hd
 . rename_i j hj;cases hd;obtain⟨fx,hf,m,hm,rfl⟩:=Z4z (w:=w) hk (s.eval hi) hr hj;obtain⟨kk,vv,hrow,_,hvr⟩:=hr.at hm;have hval:(b.elems.getD j []).getD 1 pvu=vv:=by simp [Y0b,hrow]
   rw [hval];cases ok with
   | true =>
     refine X4.quiet s (val:=.tuple #[m.val,.bool true]) (by simp [Instr.lookup,Y6 hu,hv,X2Q hg,hck,hf]) ?_;exact .tup _ _ rfl fun i hi=>by
      match i,hi with
      | 0,_=>exact hvr
      | 1,_=>exact .val _
   | false=>exact X4.quiet s (val:=m.val) (by simp [Instr.lookup,Y6 hu,hv,X2Q hg,hck,hf]) hvr
 . rename_i hj;cases hd;obtain⟨fx,hf,rfl⟩:=Z4z (w:=w) hk (s.eval hi) hr hj;obtain⟨zv,hzr,hzrep⟩:=Z6c (P:=P) (w:=w) (F:=F) (φ:=φ) hz;cases ok with
   | true =>
     refine X4.quiet s (val:=.tuple #[zv,.bool false]) (by simp [Instr.lookup,Y6 hu,hv,X2Q hg,hck,hf,hzr]) ?_;exact .tup _ _ rfl fun i hi=>by
      match i,hi with
      | 0,_=>exact hzrep
      | 1,_=>exact .val _
   | false=>exact X4.quiet s (val:=zv) (by simp [Instr.lookup,Y6 hu,hv,X2Q hg,hck,hf,hzr]) hzrep
theorem Z88 (s:St' C Fr e h F φ a w) {id:Nat} {t kt el:TypeId} (hu:P.underlying t=some (.map kt el)) {c:KC} (hk:X4e P kt=some c) {z:Bool×List Value} (hz:X2O P el=some z) {ok:Bool}
 {x i:Operand} {p:PV} {h':X0} (hd:Xv (.lookup c z.1 z.2 ok x i) e h id=some (p,h')):X4 P C Fr e F φ a w (Instr.lookup t (a.eval x) (a.eval i) ok) id p h':=by
 simp only [Xv] at hd
 split at hd
 case h_2=>cases hd
 rename_i kp hx hi
 split at hd
 case isFalse=>cases hd
 rename_i hc;have hv:a.eval x=.map none:=(s.eval hx).val_inv;have hck:=Z6b (w:=w) hk (s.eval hi) hc true;obtain⟨zv,hzr,hzrep⟩:=Z6c (P:=P) (w:=w) (F:=F) (φ:=φ) hz;obtain⟨fx,hf,hfe⟩:=Z4z (w:=w) hk (s.eval hi) (es := []) (rs := []) (r:=none) Yt rfl;have hfe:fx=none:=hfe;subst hfe;cases hd;cases ok with
 | true =>
   refine X4.quiet s (val:=.tuple #[zv,.bool false]) (by simp [Instr.lookup,Y6 hu,hv,hck,hf,hzr]) ?_;exact .tup _ _ rfl fun i hi=>by
    match i,hi with
    | 0,_=>exact hzrep
    | 1,_=>exact .val _
 | false=>exact X4.quiet s (val:=zv) (by simp [Instr.lookup,Y6 hu,hv,hck,hf,hzr]) hzrep
theorem Z7q:∀ {l:List (List PV)} {ns:List Int},X3y l=some ns->l.length=ns.length/\∀ i,i<l.length->l.getD i [] = [.val (.int .u8 (ns.getD i 0))]
 | [], ns, h => by
   have:ns = []:=by simpa [X3y] using h.symm
   subst this;exact⟨rfl,fun i hi=>absurd hi (YR i)⟩
 | x :: r, ns, h => by
   unfold X3y at h
   split at h
   . rename_i h0; cases h0
   . rename_i n r' h0;cases h0
     split at h
     case h_2=>cases h
     rename_i l hl;cases h;obtain⟨h1,h2⟩:=Z7q hl;refine⟨by simp [h1],fun i hi=>?_⟩;cases i with
     | zero=>rfl
     | succ i=>simpa using h2 i (by simpa using hi)
   . cases h
theorem Z5P (w:World) (el:TypeId) (str:ByteArray):Go.Lib.bytesWorld w el str=w.drew.alloc (.cells (Go.Lib.bytesCells w el str) el ((Go.Lib.bytesCells w el str).size,(Go.Lib.bytesCells w el str).size+1)):=by
 have h1:=Go.Lib.bytesWorld_at_new w el str;have h2:=Go.Lib.bytesWorld_at_old w el str;have h3:=Go.Lib.bytesWorld_size w el str;have hh:(Go.Lib.bytesWorld w el str).heap=(w.drew.alloc (.cells (Go.Lib.bytesCells w el str) el ((Go.Lib.bytesCells w el str).size,(Go.Lib.bytesCells w el str).size+1))).heap:=by
  apply Array.ext_getElem?;intro j;rcases Y3R j w.heap.size with hj|hj|hj
  . rw [h2 j hj];exact (Y4c w.drew _ j hj).symm
  . subst hj;rw [h1];exact (Y35 w.drew _).symm
  . rw [Y3o (by rw [h3];omega),Y3o (by simp [World.alloc,World.drew,-World.alloc_eq,-World.drew_eq];omega)]
 have hr:∀ w1 w2:World,w1.heap=w2.heap->{ w1 with heap:=w2.heap }=w1:=fun w1 w2 h=>by rw [<- h]
 have e1:Go.Lib.bytesWorld w el str={ Go.Lib.bytesWorld w el str with heap:=(w.drew.alloc (.cells (Go.Lib.bytesCells w el str) el ((Go.Lib.bytesCells w el str).size,(Go.Lib.bytesCells w el str).size+1))).heap }:=(hr _ _ hh).symm;rw [e1];unfold Go.Lib.bytesWorld World.freeze
 split<;>rfl
theorem Zb2 (str:ByteArray):(X2s str).length=str.size:=by
 unfold X2s;rw [Y0f]
 rfl
theorem Zjo (s:St' C Fr e h F φ a w) {id:Nat} {src dst el:TypeId} (hu:P.underlying src=some .string) (hu':P.underlying dst=some (.slice el)) (hel:P.underlying el=some (.int .u8)) {x:Operand} {p:PV} {h':X0} (hd:X1 (.s2b x) e h id=some (p,h')) :
 X4 P C Fr e F φ a w (convert src dst (a.eval x)) id p h':=by
 simp only [X1] at hd
 split at hd
 case h_2=>cases hd
 rename_i str hx
 split at hd
 case isFalse=>cases hd
 rename_i hmax;cases hd;have hv:=(s.eval hx).val_inv;have sd:=s.drew;have s1:=sd.allocBlock (.cells (Go.Lib.bytesCells w el str) el ((Go.Lib.bytesCells w el str).size,(Go.Lib.bytesCells w el str).size+1));have hF:∀ x:Addr,x.block=w.heap.size->F x=none:=fun x hx=>by
  cases hFx:F x with
  | none=>rfl
  | some v=>have:=s.lt hFx; omega
 have s2:=s1.frz (g:=w.heap.size) (Y35 w.drew _) hF (fun i b loc hb hl hk=>by have:=s.has_lt hb hl hk;omega) (.inl s.size);have hx2:=Z2v hF (Go.Lib.bytesCells w el str);have hsl:=Zb2 str;refine⟨_,_,_,φ,by rw [hv]; exact Go.Lib.run_convert_string_bytes w src dst el str hu hu' hel,by rw [Z5P]; exact s2.weaken fun _ h=>h.1,?_⟩;rw [<- hsl];have hcs:(Go.Lib.bytesCells w el str).size=str.size+(grownCap w str.size 0 el-str.size):=by
  unfold Go.Lib.bytesCells;rw [Y1J,Array.size_map,Array.size_replicate]
  rfl
 have hcell:∀ i,i<str.size->(Go.Lib.bytesCells w el str).getD i undef=.int .u8 (str.data.toList.getD i 0).toNat:=fun i hi=>by
  simp [Go.Lib.bytesCells,Y0d,Y2K,List.getD,hi]
 have hrow:∀ i,i<str.size->(X2s str).getD i [] = [PV.val (.int .u8 ((str.data.toList.getD i 0).toNat:Int))]:=fun i hi=>by
  have hi':i<str.data.toList.length:=hi;unfold X2s;simp [Y0b,Y0y,Y0c hi']
 have hge:=Y4d w str.size 0 el;refine .vec ⟨w.heap.size,0,none⟩ _ 1 (X2s str) false (fun i j=>(Go.Lib.bytesCells w el str).getD (i+j) undef) (fun _=>rfl) (by rw [hsl]; exact hge) (by simp) (by rw [hsl]; exact hmax) (fun j hj=>?_) (fun j k hj hk=>?_) (fun j k hj hk=>?_)
 . rw [hrow j (by omega)]; rfl
 . obtain rfl : k = 0 := by omega
   simp only [YQ,Y24,YX];exact Z2p F _ _ (by omega) (by rw [hcell j (by omega)]; rfl)
 . obtain rfl : k = 0 := by omega
   simp only [YX];rw [hcell j (by omega),hrow j (by omega)];exact .val _
theorem Zjp (s:St' C Fr e h F φ a w) {id:Nat} {src dst el:TypeId} (hu:P.underlying src=some (.slice el)) (hel:P.underlying el=some (.int .u8)) (hd':P.underlying dst=some .string) {x:Operand} {p:PV} {h':X0} (hd:X1 (.b2s x) e h id=some (p,h')) :
 X4 P C Fr e F φ a w (convert src dst (a.eval x)) id p h':=by
 simp only [X1] at hd
 split at hd
 case h_2=>cases hd
 rename_i l fl hx
 split at hd
 case h_2=>cases hd
 rename_i ns hns;cases hd;obtain⟨hlen,hget⟩:=Z7q hns;have empty:ns = []->strOfNums ns=ByteArray.empty:=by rintro rfl; rfl
 rcases (s.eval hx).vec_inv with⟨rfl,hv⟩|⟨ad,cap,esz,cs,hv,hs,-,-,-,hez,hF,hR⟩
 . have h0 : ns = [] := Y10.1 (by rw [<- hlen]; rfl);refine X4.quiet s (val:=.string (strOfNums ns)) ?_ (.val _);rw [hv,empty h0,run_convert_bytes_nil w src el hu hel 0 0 dst hd']
 . by_cases hl0 : l = []
   . subst hl0;have h0:ns = []:=Y10.1 (by rw [<- hlen]; rfl);refine X4.quiet s (val:=.string (strOfNums ns)) ?_ (.val _);rw [hv,empty h0,Y1u,run_convert_bytes_string w src dst el (some ad) 0 cap hu hel hd',run_bytesToString w ad 0 cap [] (by simp [loadCells,loadCellsFrom])]
     rfl
   . have had := hs hl0;have hp:0<l.length:=Y1N.2 hl0;have he1:esz=1:=by rw [<- hez 0 hp,hget 0 hp]; rfl
     subst he1;refine X4.quiet s (val:=.string (strOfNums ns)) ?_ (.val _);rw [hv];obtain⟨ab,ao,asp⟩:=ad;have:asp=none:=had;subst this;refine run_convert_bytes_arg w src el hu hel ab ao l.length cap ns hlen.symm (fun i hi=>?_) dst hd';have h1:=hF i 0 hi (by decide);have h2:=hR i 0 hi (by decide);rw [hget i hi] at h2;have h3:cs i 0=.int .u8 (ns.getD i 0):=h2.val_inv;have h4:=(s.froz _ _ h1).2.2;rw [h3] at h4;simpa using h4
theorem Z9v {c:KC} {kp:PV}:∀ {rs:List (List PV)} {j:Nat},XT c kp rs=some (some j)->X2t c kp ((rs.getD j []).getD 0 pvu)=some true
 | [],j,h=>by simp [XT] at h
 | row :: rs, j, h => by
   rcases Z5g h with⟨he,hr⟩|⟨he,r',hr',hr⟩
   . cases hr; simpa using he
   . cases r' with
     | none=>cases hr
     | some j' =>
       cases hr;simpa using Z9v hr'
theorem ZdL (s:St' C Fr e h F φ a w) {id:Nat} {t kt el:TypeId} (hu:P.underlying t=some (.map kt el)) {c:KC} (hk:X4e P kt=some c)
 {x i v:Operand} {p:PV} {h':X0} (hd:X1 (.mapset c x i v) e h id=some (p,h')):p=pvu/\∃ w',(Instr.mapUpdate t (a.eval x) (a.eval i) (a.eval v)).run P w=.ok () w'/\St' C Fr e h' F φ a w':=by
 simp only [X1] at hd
 split at hd
 case h_2=>cases hd
 rename_i k kp q hx hi hvq
 split at hd
 case h_2=>cases hd
 rename_i b hb
 split at hd
 case isFalse=>cases hd
 rename_i hc;obtain⟨loc,ad,hloc,hz0,hbase,hv⟩:=(s.eval hx).mp_inv;obtain⟨loc',h1,h2,h3⟩:=s.live k b hb;obtain rfl:loc'=loc:=by rw [h1] at hloc; simpa using hloc
 obtain⟨y,hy,es,tm,hg,hr⟩:=(h2.rows hz0).room;obtain rfl:y=ad:=by rw [hy] at hbase; simpa using hbase
 have hck:=Z6b (w:=w) hk (s.eval hi) hc.2 false;have hset:∀ o:Obj,(setObj y.block o).run P w=.ok () (w.putObj y.block o):=fun o=>by simp [setObj,Sem.run,hg,World.putObj]
 split at hd
 case h_3=>cases hd
 . rename_i j hj;cases hd;obtain⟨fx,hf,m,hm,rfl⟩:=Z4z (w:=w) hk (s.eval hi) hr hj;obtain⟨kk,vv,hrow,hkr,hvr⟩:=hr.at hm;have hkey:=Z9v hj;have hkk:(b.elems.getD j []).getD 0 pvu=kk:=by simp [Y0b,hrow]
   rw [hkk] at hkey;have hm':es[j]?=some m:=by simpa using hm
   have hst:=Zfn (P:=P) (w:=w) (s.eval hi) hkr hkey
   refine⟨rfl,w.putObj y.block (.map (es.modify j fun e=>{ e with key:=a.eval i,val:=a.eval v }) tm),by
    simp [Instr.mapUpdate,Y6 hu,hv,X2Q hg,hck,hf,hm',hst,hset],?_⟩
   have hrows:XI F φ (es.modify j fun e=>{ e with key:=a.eval i,val:=a.eval v }).toList (b.elems.set j [kp,q]):=by
    have e1:(es.modify j fun e=>{ e with key:=a.eval i,val:=a.eval v }).toList=es.toList.set j { m with key:=a.eval i,val:=a.eval v }:=by
     apply Y3T;intro n;rw [<- Array.getElem?_toList.symm,Array.getElem?_modify,Y1o];by_cases hn:j=n
     . subst hn;have hlt:j<es.size:=(Y9.1 hm').1;have hb0:=(Y9.1 hm').2;simp [hm',hlt,hb0]
     . simp [hn]
    rw [e1];exact hr.set (s.eval hi) (s.eval hvq)
   exact s.adoptMap hb h1 hz0 hy hrows
 . rename_i hj;cases hd;obtain⟨fx,hf,rfl⟩:=Z4z (w:=w) hk (s.eval hi) hr hj
   refine⟨rfl,w.putObj y.block (.map (es.push { key:=a.eval i,val:=a.eval v,born:=tm }) (tm+1)),by
    simp [Instr.mapUpdate,Y6 hu,hv,X2Q hg,hck,hf,hset],?_⟩
   have hrows:XI F φ (es.push { key:=a.eval i,val:=a.eval v,born:=tm }).toList (b.elems ++ [[kp,q]]):=by
    rw [Array.toList_push];exact hr.push (s.eval hi) (s.eval hvq)
   exact s.adoptMap hb h1 hz0 hy hrows
theorem Zhx (s:St' C Fr e h F φ a w) {id:Nat} {t ty kt el:TypeId} (hu:P.underlying t=some (.map kt el))
 {x:Operand} {p:PV} {h':X0} (hd:X1 (.lenM x) e h id=some (p,h')):X4 P C Fr e F φ a w (Builtin.len_ #[t] ty #[a.eval x]) id p h':=by
 simp only [X1] at hd
 split at hd
 case h_2=>cases hd
 rename_i k hx
 split at hd
 case h_2=>cases hd
 rename_i b hb
 split at hd
 case isFalse=>cases hd
 cases hd;obtain⟨loc,ad,hloc,hz0,hbase,hv⟩:=(s.eval hx).mp_inv;obtain⟨loc',h1,h2,h3⟩:=s.live k b hb;obtain rfl:loc'=loc:=by rw [h1] at hloc; simpa using hloc
 obtain⟨y,hy,es,tm,hg,hr⟩:=(h2.rows hz0).room;obtain rfl:y=ad:=by rw [hy] at hbase; simpa using hbase
 have:=hr.length
 refine X4.quiet s (val:=.int .i64 b.elems.length) (by
  rw [<- this]
  simp [Builtin.len_,Y6 hu,hv,X2Q hg,goInt]) (.val _)
theorem Z6d {t el:TypeId} (hu:P.underlying t=some (.slice el)) (d n c:Nat) (b:Option Addr):(Op.equalIn (d+1) t (.slice b n c) (.slice none 0 0)).run P w=.ok b.isNone w:=by
 unfold Op.equalIn;cases b<;>simp [Y6 hu]
theorem Zfp {t el:TypeId} (hu:P.underlying t=some (.slice el)) (n c:Nat) (b:Option Addr):(binOp .eql t (.slice b n c) (.slice none 0 0)).run P w=.ok (.bool b.isNone) w:=by
 simp only [binOp];simp [Op.equal,Op.maxDepth,Z6d hu 9999]
theorem Zfq {t el:TypeId} (hu:P.underlying t=some (.slice el)) (n c:Nat) (b:Option Addr):(binOp .neq t (.slice b n c) (.slice none 0 0)).run P w=.ok (.bool (!b.isNone)) w:=by
 simp only [binOp];simp [Op.equal,Op.maxDepth,Z6d hu 9999]
theorem Z5y {t kt el:TypeId} (hu:P.underlying t=some (.map kt el)) (d:Nat) (b:Option Nat):(Op.equalIn (d+1) t (.map b) (.map none)).run P w=.ok b.isNone w:=by
 cases b<;>simp [Op.equalIn,Y6 hu]
theorem Zhy {t kt el:TypeId} (hu:P.underlying t=some (.map kt el)) (b:Option Nat):(binOp .eql t (.map b) (.map none)).run P w=.ok (.bool b.isNone) w:=by
 simp only [binOp];simp [Op.equal,Op.maxDepth,Z5y hu 9999]
theorem Zhz {t kt el:TypeId} (hu:P.underlying t=some (.map kt el)) (b:Option Nat):(binOp .neq t (.map b) (.map none)).run P w=.ok (.bool (!b.isNone)) w:=by
 simp only [binOp];simp [Op.equal,Op.maxDepth,Z5y hu 9999]
theorem ZhA (s:St' C Fr e h F φ a w) {id:Nat} {t:TypeId} (hu:P.underlying t=some .string)
 {x:Operand} {lo hi:Option Operand} {p:PV} {h':X0} (hd:X1 (.slcS x lo hi) e h id=some (p,h')):X4 P C Fr e F φ a w (Instr.sliceAt t (a.eval x) (lo.map a.eval) (hi.map a.eval) none) id p h':=by
 simp only [X1] at hd
 split at hd
 case h_2=>cases hd
 rename_i str hx
 split at hd
 case h_2=>cases hd
 rename_i A B hA hB
 split at hd
 case isFalse=>cases hd
 rename_i hb;cases hd;have hv:=(s.eval hx).val_inv;refine X4.quiet s (val:=.string (str.extract A.toNat B.toNat)) ?_ (.val _);rcases Z2E s hA with⟨rfl,rfl⟩|⟨ka,oa,rfl,ha⟩<;>rcases Z2E s hB with⟨rfl,rfl⟩|⟨kb,ob,rfl,hb'⟩
 all_goals first
  | (simp [Instr.sliceAt,Y6 hu,Instr.slice,hv,Instr.sliceBounds,Instr.sliceBound,asIntOf, *]; done)
  | (simp [Instr.sliceAt, Y6 hu, Instr.slice, hv, Instr.sliceBounds, Instr.sliceBound, asIntOf, *]
     rw [Y7 (by omega),Y7 (by omega)])
theorem ZhB (s:St' C Fr e h F φ a w) {id:Nat} {t el:TypeId} {n:Nat} {inf:TypeInfo} (hu:P.underlying t=some (.array n el)) (hi1:P.info? el=some inf) (h1:inf.size=1) (hn:n<=1048576)
 {x:Operand} {lo hi:Option Operand} {p:PV} {h':X0} (hd:X1 (.slcA n x lo hi) e h id=some (p,h')):X4 P C Fr e F φ a w (Instr.sliceAt t (a.eval x) (lo.map a.eval) (hi.map a.eval) none) id p h':=by
 simp only [X1] at hd;have run:∀ (ad:Addr) (A B:Int),a.eval x=.pointer (some ad)->XD e 0 lo=some A->XD e n hi=some B->0<=A->A<=B->B<=(n:Int)->A<(n:Int)->(Instr.sliceAt t (a.eval x) (lo.map a.eval) (hi.map a.eval) none).run P w=.ok (.slice (some (ad.add A.toNat)) (B.toNat-A.toNat) (n-A.toNat)) w:=by
  intro ad A B hv hA hB h0 hAB hBn hAn;have hne:¬ n=A.toNat:=by omega
  have hsz:=Zd (w:=w) hi1;rw [h1] at hsz;rcases Z2E s hA with⟨rfl,rfl⟩|⟨ka,oa,rfl,ha⟩<;>rcases Z2E s hB with⟨rfl,rfl⟩|⟨kb,ob,rfl,hb'⟩
  all_goals first
   | (simp [Instr.sliceAt,Y6 hu,Instr.sureAddr,hv,Instr.sliceBounds,Instr.sliceBound,asIntOf,hsz, *]; done)
   | (simp [Instr.sliceAt,Y6 hu,Instr.sureAddr,hv,Instr.sliceBounds,Instr.sliceBound,asIntOf,hsz, *]; intro h0;omega)
   | (simp [Instr.sliceAt,Y6 hu,Instr.sureAddr,hv,Instr.sliceBounds,Instr.sliceBound,asIntOf,hsz, *]; rw [Y7 (by omega)]; simp [hsz,hne]; done)
   | (simp [Instr.sliceAt,Y6 hu,Instr.sureAddr,hv,Instr.sliceBounds,Instr.sliceBound,asIntOf,hsz, *]; rw [Y7 (by omega)]; simp [hsz]; intro h0;omega)
   | (simp [Instr.sliceAt,Y6 hu,Instr.sureAddr,hv,Instr.sliceBounds,Instr.sliceBound,asIntOf,hsz, *]; rw [Y7 (by omega)]; done)
   | (simp [Instr.sliceAt,Y6 hu,Instr.sureAddr,hv,Instr.sliceBounds,Instr.sliceBound,asIntOf,hsz, *]; rw [Y7 (by omega)]; simp [hsz,hne]; done)
   | (simp [Instr.sliceAt,Y6 hu,Instr.sureAddr,hv,Instr.sliceBounds,Instr.sliceBound,asIntOf,hsz, *]; rw [Y7 (by omega)]; simp [hsz]; intro h0;omega)
   | (simp [Instr.sliceAt,Y6 hu,Instr.sureAddr,hv,Instr.sliceBounds,Instr.sliceBound,asIntOf,hsz, *]; rw [Y7 (by omega)]; done)
   | (simp [Instr.sliceAt,Y6 hu,Instr.sureAddr,hv,Instr.sliceBounds,Instr.sliceBound,asIntOf,hsz, *]; rw [Y7 (by omega)]; rw [Y7 (by omega)]; simp [hsz,hne]; done)
   | (simp [Instr.sliceAt,Y6 hu,Instr.sureAddr,hv,Instr.sliceBounds,Instr.sliceBound,asIntOf,hsz, *]; rw [Y7 (by omega)]; rw [Y7 (by omega)]; simp [hsz]; intro h0;omega)
   | (simp [Instr.sliceAt,Y6 hu,Instr.sureAddr,hv,Instr.sliceBounds,Instr.sliceBound,asIntOf,hsz, *]; rw [Y7 (by omega)]; rw [Y7 (by omega)]; done)
   | (simp [Instr.sliceAt,Y6 hu,Instr.sureAddr,hv,Instr.sliceBounds,Instr.sliceBound,asIntOf,hsz, *]; rw [Y7 (by omega)]; simp; rw [Y7 (by omega)]; simp [hsz,hne]; done)
   | (simp [Instr.sliceAt,Y6 hu,Instr.sureAddr,hv,Instr.sliceBounds,Instr.sliceBound,asIntOf,hsz, *]; rw [Y7 (by omega)]; simp; rw [Y7 (by omega)]; simp [hsz]; intro h0;omega)
   | (simp [Instr.sliceAt,Y6 hu,Instr.sureAddr,hv,Instr.sliceBounds,Instr.sliceBound,asIntOf,hsz, *]; rw [Y7 (by omega)]; simp; rw [Y7 (by omega)]; done)
 split at hd
 . rename_i l hx
   split at hd
   case h_2=>cases hd
   rename_i A B hA hB
   split at hd
   case isFalse=>cases hd
   rename_i hb;obtain⟨b0,b1,b2,b3,b4⟩:=hb;cases hd;obtain⟨ad,cs,hv,hs,hF,hR⟩:=(s.eval hx).cp_inv;refine X4.quiet s (run ad A B hv hA hB b0 b1 b2 b3) ?_;rw [Z10 _ _ hs];have hlen:(((l.take B.toNat).drop A.toNat).map fun c => [c]).length=B.toNat-A.toNat:=by rw [Y0f,Y17,Y0o]; omega
   have hget:∀ i,i<B.toNat-A.toNat->(((l.take B.toNat).drop A.toNat).map fun c => [c]).getD i [] = [l.getD (A.toNat+i) pvu]:=fun i hi=>by
    simp only [Y0b,Y0y,Y18,Y1k];rw [Y7 (by omega),Y0c (show A.toNat+i<l.length by omega)]
    rfl
   have:=Rep.vec (F:=F) (φ:=φ) ⟨ad.block,ad.off+A.toNat,none⟩ (n-A.toNat) 1 (((l.take B.toNat).drop A.toNat).map fun c => [c]) false (fun i _=>cs (A.toNat+i)) (fun _=>rfl) (by rw [hlen];omega) (by simp) (by rw [hlen]; simp only [Xd];omega)
    (fun i hi => by rw [hlen] at hi; rw [hget i hi]; rfl) (fun i j hi hj => by
      rw [hlen] at hi;obtain rfl:j=0:=by omega
      have:=hF (A.toNat+i) (by omega);simp only [Y24,YX];rw [YL]
      exact this) (fun i j hi hj=>by
      rw [hlen] at hi;obtain rfl:j=0:=by omega
      rw [hget i hi]
      exact hR (A.toNat+i) (by omega))
   rwa [hlen] at this
 . rename_i k i o hx
   split at hd
   case h_2=>cases hd
   rename_i A B hA hB
   split at hd
   case isFalse=>cases hd
   rename_i hb;obtain⟨b0,b1,b2,b3⟩:=hb;cases hd;obtain⟨loc,ad,hloc,hz,hbase,hs,hv⟩:=(s.eval hx).ptr_inv;refine X4.quiet s (run _ A B hv hA hB b0 b1 b2 b3) ?_;rw [Z10 _ _ rfl];have:=Rep.sl (F:=F) (φ:=φ) k i (o+A.toNat) (B.toNat-A.toNat) (n-A.toNat) loc ad hloc hz hbase hs (by omega);rw [show ad.off+(i*loc.esz+o)+A.toNat=ad.off+(i*loc.esz+(o+A.toNat)) by omega];exact this
 . cases hd
theorem ZhC (s:St' C Fr e h F φ a w) {id:Nat} {t el:TypeId} {inf:TypeInfo} (hu:P.underlying t=some (.slice el)) (hi:P.info? el=some inf)
 {x:Operand} {lo hi' mx:Option Operand} {p:PV} {h':X0} (hd:Xv (.slc inf.size x lo hi' mx) e h id=some (p,h')):X4 P C Fr e F φ a w (Instr.sliceAt t (a.eval x) (lo.map a.eval) (hi'.map a.eval) (mx.map a.eval)) id p h':=by
 have hel:P.elem t=el:=by simp [Program.elem,hu]
 have hu':P.underlying t=some (.slice (P.elem t)):=by rw [hel]; exact hu
 cases mx with
 | some m=>simp [Xv] at hd
 | none =>
   simp only [Xv] at hd
   split at hd
   case h_4=>cases hd
   case h_3 =>
    rename_i l hx
    split at hd
    case h_2=>cases hd
    rename_i A B hA hB
    split at hd
    case isFalse=>cases hd
    rename_i hc;obtain⟨rfl,rfl⟩:=hc;cases hd;rcases (s.eval hx).vec_inv with⟨rfl,hv⟩|⟨ad,cap,esz,cs,hv,hs,hcap,hfull,hmax,he,hF,hR⟩
    . have hrun : (Instr.sliceAt t (a.eval x) (lo.map a.eval) (hi'.map a.eval) (none : Option Value)).run P w = .ok (sliced none 0 0 0 inf.size) w := by
       rw [hv,Y20 w t _ _ _ _ hu',Y2r w t none 0 0 hu',Z1W (len:=0) (cap:=0) (A:=0) (B:=0) s hA hB (by omega) (by omega) (by simp) (Y0m _)];simp [hel,Zd hi]
      exact X4.quiet s hrun (.vecnil true)
    . have hrun : (Instr.sliceAt t (a.eval x) (lo.map a.eval) (hi'.map a.eval) (none : Option Value)).run P w = .ok (sliced (some ad) 0 l.length cap inf.size) w := by
       rw [hv,Y20 w t _ _ _ _ hu',Y2r w t (some ad) l.length cap hu',Z1W (A:=0) (B:=(l.length:Int)) s hA hB (by omega) (by omega) (by omega) hcap];simp [hel,Zd hi]
      refine X4.quiet s hrun ?_;have hsl:sliced (some ad) 0 l.length cap inf.size=.slice (some ad) l.length cap:=by
       unfold sliced;by_cases hc:cap=0
       . simp [hc]
       . simp [Y2t hc,Addr.add]
      rw [hsl,<- hv];exact s.eval hx
   . rename_i k hx
     split at hd
     case h_2=>cases hd
     rename_i b hb
     split at hd
     case h_2=>cases hd
     rename_i A B hA hB
     split at hd
     case isFalse=>cases hd
     rename_i hbd;cases hd;obtain⟨loc',h1,hz,hv⟩:=(s.eval hx).own_inv;obtain⟨h2,h3⟩:=s.cellAt hb h1 hz;have hlen:=h2.len;have hcap:=h2.cap;have hesz:inf.size=loc'.esz:=by rw [<- h2.esz]; exact hbd.2.symm
     have hrun:(Instr.sliceAt t (a.eval x) (lo.map a.eval) (hi'.map a.eval) (none:Option Value)).run P w=.ok (sliced loc'.base A.toNat B.toNat loc'.cap inf.size) w:=by
      rw [hv,Y20 w t _ _ _ _ hu',Y2r w t loc'.base loc'.len loc'.cap hu',Z1W s (by exact hA) (by rw [<- hlen]; exact hB) hbd.1.1 hbd.1.2.1 (by rw [<- hlen]; exact hbd.1.2.2) h2.cap];simp [hel,Zd hi]
     refine X4.quiet s hrun ?_;unfold sliced;refine .view k A.toNat (B.toNat-A.toNat) loc' _ h1 hz (by omega) (fun hlt=>?_);rw [Y8 (by omega),hesz]
   . rename_i k o n hx
     split at hd
     case h_2=>cases hd
     rename_i b hb
     split at hd
     case h_2=>cases hd
     rename_i A B hA hB
     split at hd
     case isFalse=>cases hd
     rename_i hbd;cases hd;obtain⟨loc,base,hloc,hz,hvc,hbs,hv⟩:=(s.eval hx).view_inv;obtain⟨loc',h1,h2,h3⟩:=s.live k b hb;obtain rfl:loc'=loc:=by rw [h1] at hloc; simpa using hloc
     have h2:=h2.cells hz;have hlen:=h2.len;have hcap:=h2.cap;have hesz:inf.size=loc'.esz:=by rw [<- h2.esz]; exact hbd.2.2.symm
     have hrun:(Instr.sliceAt t (a.eval x) (lo.map a.eval) (hi'.map a.eval) (none:Option Value)).run P w=.ok (sliced base A.toNat B.toNat (loc'.cap-o) inf.size) w:=by
      rw [hv,Y20 w t _ _ _ _ hu',Y2r w t base n (loc'.cap-o) hu',Z1W s (by exact hA) (by exact hB) hbd.1.1 hbd.1.2.1 hbd.1.2.2 (by omega)];simp [hel,Zd hi]
     refine X4.quiet s hrun ?_;unfold sliced;rw [show loc'.cap-o-A.toNat=loc'.cap-(o+A.toNat) by omega];refine .view k (o+A.toNat) (B.toNat-A.toNat) loc' _ h1 hz (by omega) (fun hlt=>?_);rw [Y8 (by omega),hesz,hbs (by omega),Option.map_map];congr 1;funext y;simp [Addr.add_add,Y1i]
theorem Zjq (s:St' C Fr e h F φ a w) {id:Nat} {t ty el:TypeId} (hu:P.underlying t=some (.slice el))
 {x:Operand} {p:PV} {h':X0} (hd:X1 (.cap x) e h id=some (p,h')):X4 P C Fr e F φ a w (Builtin.cap_ #[t] ty #[a.eval x]) id p h':=by
 simp only [X1] at hd
 split at hd
 . rename_i l hx;cases hd;rcases (s.eval hx).vec_inv with⟨rfl,hv⟩|⟨ad,cap,esz,cs,hv,hs,hcap,hfull,_⟩
   . exact X4.quiet s (val:=.int .i64 0) (by simp [Builtin.cap_,Y6 hu,hv,goInt]) (.val _)
   . exact X4.quiet s (val:=.int .i64 l.length) (by simp [Builtin.cap_,Y6 hu,hv,goInt,hfull rfl]) (.val _)
 . simp at hd
theorem ZhD (s:St' C Fr e h F φ a w) {id:Nat} (hid:Fr id) {sT xT ty el:TypeId} {kn:IntKind} {z:List Value} {i:TypeInfo} (hu:P.underlying sT=some (.slice el)) (hux:P.underlying xT=some (.int kn)) (hz:XJ P el=some z) (hi:P.info? el=some i) (hby:0<i.bytes)
 {x y:Operand} {p:PV} {h':X0} (hd:X1 (.appz z i.bytes x y) e h id=some (p,h')):X4 P C Fr e F φ a w (Builtin.append_ #[sT,xT] ty #[a.eval x,a.eval y]) id p h':=by
 simp only [X1] at hd
 split at hd
 case h_2=>simp at hd
 rename_i m hx hm
 split at hd
 case isFalse=>simp at hd
 rename_i hb;cases hd;obtain⟨km,hvm⟩:=Z1V s hm;obtain⟨i',v,hi',hv,rfl,h1,hl,hp⟩:=ZN hz;obtain rfl:i'=i:=by rw [hi'] at hi; simpa using hi
 have hbase:∃ base,a.eval x=.slice base 0 0:=by
  rcases (s.eval hx).vec_inv with⟨_,h⟩|⟨ad,cap,esz',cs,h,_,_,hf,_⟩
  . exact⟨none,h⟩
  . exact⟨some ad,by rw [h,hf rfl]; rfl⟩
 obtain⟨base,hvx⟩:=hbase;obtain⟨k,rfl⟩:∃ k:Nat,m=(k:Int):=⟨m.toNat,by omega⟩
 have hk0:0<k:=by omega
 have hkb:k*i'.bytes<=140737488355328:=by
  have:=hb.2;rw [<- Int.natCast_mul] at this;omega
 have hk48:k<=281474976710656:=by
  have h2:k*1<=k*i'.bytes:=Y3C _ hby;omega
 have hsz0:v.cells.size=i'.size:=by rw [<- hl]; simp
 have hfit:Builtin.nextslicecap (0+k) 0*i'.bytes<=281474976710656:=growslice_fits (bytes:=i'.bytes) (by omega) (by rw [YQ]; exact hkb);have hold:(Builtin.firstCells i'.size 0 (.slice base 0 0)).run P w.drew=.ok (([]:List Value).toArray) w.drew:=by
  cases base<;>simp [Builtin.firstCells,loadCells,loadCellsFrom]
 have hr:=Lib.run_append_grow_zeros w sT xT ty el i' v km kn hu hux hi' hv base 0 0 [] hold k hk0 (by rw [<- hl]; exact hp) (by omega) (by omega) (by omega) hfit;rw [YQ] at hr;obtain⟨G,hG⟩:∃ G,G=grownCap w k 0 el:=⟨_,rfl⟩
 have hge:k<=G:=by rw [hG]; exact Y4d w _ _ _
 rw [<- hG] at hr;have hrow:(([]:List Value).toArray++Builtin.zeroCells v.cells k++Builtin.zeroCells v.cells (G-k)).size=G*i'.size:=by
  rw [Y1J,Y1J,Y3w,Y3w,hsz0,Y2e,Y1u,YQ,<- Y1i];congr 1;omega
 have sd:St' C Fr e h F φ a w.drew:=s.drew;have hnc:=XQ.zero (F:=F) (φ:=φ) h1 k;have hmade:Builtin.zeroCells v.cells k=(Array.range (k*v.cells.toList.length)).map (v.cells.toList.toArray[· % v.cells.toList.length]!):=by
  rw [Y2N,hl,<- hsz0]
  rfl
 rw [<- hmade] at hnc;rw [show (k:Int).toNat=k from rfl];refine⟨_,_,F,_,by rw [hvx,hvm]; exact hr,St'.made <| sd.alloc hid _ el v.cells.toList.length k G (List.replicate k (zpv v.cells.toList)) hp (by simp) hge (by simp [Xd];omega) (fun c hc'=>?_) ?_ (fun j q hj hq=>?_),?_⟩
 . obtain rfl := Y22 hc';simp [zpv]
 . rw [hrow,hl]; exact Y0m _
 . have := hnc.rep j q (by simpa using hj) hq;have hlt:j*v.cells.toList.length+q<(Builtin.zeroCells v.cells k).size:=by
    rw [hnc.size];have:=Z2f (n:=k) hj hq;simpa using this
   have e1:(([]:List Value).toArray++Builtin.zeroCells v.cells k++Builtin.zeroCells v.cells (G-k)).getD (j*v.cells.toList.length+q) undef=(Builtin.zeroCells v.cells k).getD (j*v.cells.toList.length+q) undef:=by
    simp only [Y0d];rw [YP (by simpa using hlt)];simp
   rw [e1];exact this
 . exact .own id ⟨some ⟨w.heap.size,0,none⟩,v.cells.toList.length,k,G⟩ (by simp [Xb]) hp
theorem Zfr (s:St' C Fr e h F φ a w) {id:Nat} {t ty el:TypeId} {z:List Value} (hu:P.underlying t=some (.slice el)) (hz:XJ P el=some z)
 {x:Operand} {p:PV} {h':X0} (hd:X1 (.clear z x) e h id=some (p,h')):X4 P C Fr e F φ a w (Builtin.clear_ #[t] ty #[a.eval x]) id p h':=by
 obtain⟨i,v,hi,hv0,rfl,hz1,hzl,hzp⟩:=ZN hz;simp only [X1] at hd
 split at hd
 case h_2=>cases hd
 rename_i k lo n hx
 split at hd
 case h_2=>cases hd
 rename_i b hb
 split at hd
 case isFalse=>cases hd
 rename_i hcond;obtain⟨hle,hbesz⟩:=hcond;cases hd;obtain⟨loc,base,hloc,hz,hvc,hbs,hv⟩:=(s.eval hx).view_inv;obtain⟨loc',h1,h2,h3⟩:=s.live k b hb;obtain rfl:loc'=loc:=by rw [h1] at hloc; simpa using hloc
 have h2:=h2.cells hz;have hlen:=h2.len;have hcap:=h2.cap;have hesz:loc'.esz=v.cells.toList.length:=by rw [<- h2.esz,hbesz]
 by_cases hn:n=0
 . subst hn;have hrun:(Builtin.clear_ #[t] ty #[a.eval x]).run P w=.ok (.tuple #[]) w:=by
    rw [hv];cases base<;>simp [Builtin.clear_,Y6 hu]
   have hsame:h.upd k ⟨b.esz,b.elems.take lo++(List.replicate 0 (zpv v.cells.toList)++b.elems.drop (lo+0))⟩=h:=by
    funext j;by_cases hj:j=k
    . subst hj;rw [X0.upd_same,hb];simp
    . rw [X0.upd_ne _ _ hj]
   rw [hsame];exact⟨_,w,F,φ,hrun,s.weaken fun _ h=>h.1,.val _⟩
 . have hc0 : loc'.cap ≠ 0 := by omega
   obtain⟨ad,hbase,hs,_⟩:=h2.room hc0;have hbv:=hbs (by omega);rw [hbase,Y1m,Z10 _ _ hs] at hbv;have hzs:v.cells.size=loc'.esz:=by rw [hesz]; simp
   have hNC:XQ F φ v.cells.toList.length (Builtin.zeroCells v.cells n) (List.replicate n (zpv v.cells.toList)):=by
    have:=XQ.zero (F:=F) (φ:=φ) hz1 n;simpa [Builtin.zeroCells] using this
   obtain⟨w',hst,s'⟩:=X3M (P:=P) s hb h1 hz hc0 hbase (lo:=lo) (news:=(Builtin.zeroCells v.cells n).toList) (m:=List.replicate n (zpv v.cells.toList)) (by simp [Y3w,hzs]) (fun c hc=>by rw [Y22 hc,hesz]; simp [zpv]) (by simp;omega) (fun i j hi hj=>by
    have:=hNC.rep i j hi (by rw [<- hesz]; exact hj);rw [<- hesz] at this
    simpa [Y0b,Y0d] using this)
   rw [Y2d] at s';refine⟨_,w',F,φ,?_,s'.weaken fun _ h=>h.1,.val _⟩;rw [hv,hbv];obtain⟨n',rfl⟩:∃ n',n=n'+1:=⟨n-1,by omega⟩
   simp only [Builtin.clear_,Y2e,Y04,Y1u,YQ,Nat.lt_add_one,getElem?_pos,List.getElem_toArray,List.getElem_cons_zero,YT,Y6 hu,YG,ZT hi hv0];rw [hst]
   rfl
end
section
variable {P:Program} {C:Ctx} {Fr:Nat->Prop} {e:Env} {h:X0} {F:XC} {φ:XE} {a:Act} {w:World}
def XV (P:Program) (C:Ctx) (Fr:Nat->Prop) (e:Env) (a:Act) (w:World) (s:Sem Next) (id:Nat) (v:PV) (h':X0):Prop :=
 ∃ r val w' F' φ',s.run P w=.ok r w'/\(r=.value val \/ (r=.skip/\val=undef))/\St' C (fun i=>Fr i/\(h' id≠none->i≠id)) e h' F' φ' a w'/\Rep F' φ' val v
theorem X4.done {m:Sem Value} {id:Nat} {v:PV} {h':X0} (hr:X4 P C Fr e F φ a w m id v h'):XV P C Fr e a w (do pure (.value (<- m))) id v h':=by
 obtain⟨val,w',F',φ',h1,h2,h3⟩:=hr;exact⟨_,val,w',F',φ',by simp [h1],.inl rfl,h2,h3⟩
theorem X4.done' {m:Sem Value} {id:Nat} {v:PV} {h':X0} (hr:X4 P C Fr e F φ a w m id v h') {q:Sem Next} (hq:q=(do pure (.value (<- m)))):XV P C Fr e a w q id v h':=by subst hq; exact hr.done
theorem XV.quiet (s:St' C Fr e h F φ a w) {m:Sem Next} {val:Value} {v:PV} {id:Nat} (hr:m.run P w=.ok (.value val) w) (hv:Rep F φ val v):XV P C Fr e a w m id v h :=
 ⟨_,val,w,F,φ,hr,.inl rfl,s.weaken fun _ h=>h.1,hv⟩
theorem Zb3 (fs:Array Field) (hall:∀ f∈fs.toList,∃ inf,P.info? f.type=some inf) :
 (fs.mapM (m:=Sem) fun f=>do pure (f.offset,<- sizeOf f.type)).run P w=.ok ((fs.toList.map fun f=>(f.offset,P.cellsOf f.type)).toArray) w:=by
 rw [Y4p];have:∀ (l:List Field),(∀ f∈l,∃ inf,P.info? f.type=some inf)->(l.mapM (m:=Sem) fun f=>do pure (f.offset,<- sizeOf f.type)).run P w=.ok (l.map fun f=>(f.offset,P.cellsOf f.type)) w:=by
  intro l
  induction l with
  | nil=>intro _; rfl
  | cons f r ih =>
    intro hl;obtain⟨inf,hi⟩:=hl f (by simp);have ih':=ih fun g hg=>hl g (by simp [hg]);simp only [List.mapM_cons,YT,Zd hi,YG,Y1C,ih',Y1c,Program.cellsOf,hi,Y1m,Y1R]
 simp only [Sem.run_map,this _ hall,YG]
theorem Zfs (s:St' C Fr e h F φ a w) {id:Nat} {t:TypeId} {z:List Value} {fs:Array Field} {parts:Array (Nat×Operand)} {qs:List (Nat×Nat×Operand)} (hz:XJ P t=some z) (hu:P.underlying t=some (.struct fs)) (hall:∀ f∈fs.toList,∃ inf,P.info? f.type=some inf)
 (hq:X2w P fs parts.toList=some qs) {p:PV} {h':X0} (hd:X1 (.build z qs) e h id=some (p,h')):X4 P C Fr e F φ a w (Instr.build t (parts.map fun (i,x)=>(i,a.eval x))) id p h':=by
 obtain⟨i,v,hi,hv,rfl,h1,hl,hp⟩:=ZN hz;simp only [X1] at hd
 split at hd
 case h_2=>simp at hd
 rename_i l hl;cases hd
 obtain⟨vs',hfill,hc⟩:=ZdA s (fs:=fs) (places:=(fs.toList.map fun f=>(f.offset,P.cellsOf f.type)).toArray) (fun i f inf hf hi=>by
  simp [hf,Program.cellsOf,hi]) parts.toList qs _ _ _ hq (X23.zero h1) hl
 refine X4.quiet s (val:=.agg vs') ?_ hc.rep;simp only [Instr.build,YT,ZT hi hv,YG,Y6 hu,Zb3 fs hall,Y3l,hfill,Y1C]
theorem ZdM (s:St' C Fr e h F φ a w) {id:Nat} {t el:TypeId} {n:Nat} {z:List Value} {inf:TypeInfo} {parts:Array (Nat×Operand)} (hz:XJ P t=some z) (hu:P.underlying t=some (.array n el)) (hinf:P.info? el=some inf)
 {p:PV} {h':X0} (hd:X1 (.build z (parts.toList.map fun (k,x)=>(k*inf.size,inf.size,x))) e h id=some (p,h')):X4 P C Fr e F φ a w (Instr.build t (parts.map fun (i,x)=>(i,a.eval x))) id p h':=by
 obtain⟨i,v,hi,hv,rfl,h1,hl,hp⟩:=ZN hz;simp only [X1] at hd
 split at hd
 case h_2=>simp at hd
 rename_i l hl;cases hd;obtain⟨vs',hfill,hc⟩:=Zfe s inf.size parts.toList _ _ _ (X23.zero h1) hl;refine X4.quiet s (val:=.agg vs') ?_ hc.rep;simp only [Instr.build,YT,ZT hi hv,YG,Y6 hu,Zd hinf,Y3l,hfill,Y1C]
theorem X5T {α:Type} {x:α} {l:Array α} (h:l.toList = [x]):l = #[x]:=by
 apply Y3W; simpa using h
theorem ZcK (s:St' C Fr e h F φ a w) {id:Nat} {t t' ty el:TypeId} {n:Nat} (hu:P.underlying t=some (.array n el) \/ (P.underlying t=some (.pointer t')/\P.underlying t'=some (.array n el))) (x:Operand) :
 X4 P C Fr e F φ a w (Builtin.len_ #[t] ty #[a.eval x]) id (.val (.int .i64 n)) h:=by
 rcases hu with hu|⟨hu,hu'⟩
 . exact X4.quiet s (val:=.int .i64 n) (by simp [Builtin.len_,Y6 hu,goInt]) (.val _)
 . exact X4.quiet s (val:=.int .i64 n) (by simp [Builtin.len_,Y6 hu,Y6 hu',goInt]) (.val _)
theorem X5W {α:Type} {l:Array α} {m:List α} (h:l.toList=m):l=m.toArray:=Y3W (by simpa using h)
theorem X2m {op:AOp} {id:Nat} {p:PV} {h':X0} {q:Sem Next} {X:Sem Value} (hd:X1 op e h id=some (p,h') \/ Xv op e h id=some (p,h')) (hr:X1 op e h id=some (p,h')->X4 P C Fr e F φ a w X id p h') (hx:q=(do pure (.value (<- X))):=by simp [execOp,resolve,invoke,builtin, *]) (hf:Xv op e h id=none:=by rfl):XV P C Fr e a w q id p h' :=
 (hr (hd.resolve_right fun hh=>by rw [hf] at hh; cases hh)).done' hx
theorem X5c {op:AOp} {id:Nat} {p:PV} {h':X0} {q:Sem Next} {X:Sem Value} (hd:X1 op e h id=some (p,h') \/ Xv op e h id=some (p,h')) (hr:X1 op e h id=some (p,h')->X4 P C Fr e F φ a w X id p h') (hr':Xv op e h id=some (p,h')->X4 P C Fr e F φ a w X id p h') (hx:q=(do pure (.value (<- X))):=by simp [execOp,resolve,invoke,builtin, *]):XV P C Fr e a w q id p h' :=
 (hd.elim hr hr').done' hx
theorem Z89 {o:Oper} {op:AOp} (hc:cOp P o=some op) (s:St' C Fr e h F φ a w) {id:Nat} (hid:Fr id) {p:PV} {h':X0} (hd:X1 op e h id=some (p,h') \/ Xv op e h id=some (p,h')) :
 XV P C Fr e a w (execOp a.eval o) id p h':=by
 have no:Xv op e h id=none->X1 op e h id=some (p,h'):=fun hf=>hd.resolve_right fun hh=>by rw [hf] at hh; cases hh
 unfold cOp at hc
 split at hc
 case h_1 x ho|h_2 x ho => -- move,assign
  cases hc;have hd:=no rfl;simp only [X1] at hd
  split at hd<;>cases hd
  rename_i q hq;exact XV.quiet s (by simp [execOp,ho]) (s.eval hq)
 case h_3 c x y ho => -- pick
  cases hc;have hd:=no rfl;simp only [X1] at hd;(repeat' split at hd)<;>cases hd
  all_goals
   rename_i hcv _ hq;exact XV.quiet s (by simp [execOp,ho,(s.eval hcv).val_inv,asBool]) (s.eval hq)
 case h_4 bop t x y yt ho => -- binOp
  have key:∀ c,op=.bin bop c x y->(∀ {q r v},Rep F φ (a.eval x) q->Rep F φ (a.eval y) r->X3T bop c q r=some v->∃ val,(do eqGuard bop t x y (a.eval x) (a.eval y); binOp bop t (a.eval x) (a.eval y):Sem Value).run P w=.ok val w/\Rep F φ val v)->XV P C Fr e a w (execOp a.eval o) id p h':=by
   rintro c rfl hb;have hd:=no rfl;simp only [X1] at hd;(repeat' split at hd)<;>cases hd;obtain⟨val,hrun,hrep⟩:=hb (s.eval (by assumption)) (s.eval (by assumption)) (by assumption);have hex:execOp a.eval o=(do pure (.value (<- (do eqGuard bop t x y (a.eval x) (a.eval y); binOp bop t (a.eval x) (a.eval y):Sem Value)))):=by simp only [execOp,ho]
   exact XV.quiet s (val:=val) (by rw [hex,YT,hrun]; rfl) hrep
  split at hc
  case h_7 el hu =>
   split at hc
   case isFalse=>cases hc
   rename_i hnil;have hy:y=.const (.slice none 0 0):=by
    unfold X6P at hnil
    split at hnil
    . rfl
    . cases hnil
   subst hy;have nils:∀ neg,X1 (.isnil neg x) e h id=some (p,h')->(∀ (b:Option Addr) (n c:Nat),(binOp bop t (.slice b n c) (.slice none 0 0)).run P w=.ok (.bool (b.isNone != neg)) w)->XV P C Fr e a w (execOp a.eval o) id p h':=by
    intro neg hd' hb;simp only [X1] at hd'
    split at hd'
    case h_2=>cases hd'
    rename_i c0 r0 fl hx;cases hd';have hex:execOp a.eval o=(do pure (.value (<- (do eqGuard bop t x (.const (.slice none 0 0)) (a.eval x) (.slice none 0 0); binOp bop t (a.eval x) (.slice none 0 0):Sem Value)))):=by simp only [execOp,ho]; rfl
    rcases (s.eval hx).vec_inv with⟨h0,_⟩|⟨ad,cap,esz,cs,hv,_⟩
    . cases h0
    . refine XV.quiet s (val := .bool neg) ?_ (.val _);have:=hb (some ad) (c0 :: r0).length cap;rw [hex,hv,YT];have hg:(eqGuard bop t x (.const (.slice none 0 0)) (.slice (some ad) (c0 :: r0).length cap) (.slice none 0 0)).run P w=.ok () w:=by
       cases bop<;>simp [eqGuard]
      simp only [YT,hg,YG,this];simp
   split at hc
   . cases hc;exact nils false (hd.resolve_right nofun) fun b n c=>by rw [Zfp hu]; simp
   . cases hc;exact nils true (hd.resolve_right nofun) fun b n c=>by rw [Zfq hu]; simp
   . cases hc
  case h_8 kt el hu =>
   split at hc
   case isFalse=>cases hc
   rename_i hnil;have hy:y=.const (.map none):=by
    unfold X7g at hnil
    split at hnil
    . rfl
    . cases hnil
   subst hy;have nils:∀ neg,X1 (.isnilM neg x) e h id=some (p,h')->(∀ b:Option Nat,(binOp bop t (.map b) (.map none)).run P w=.ok (.bool (b.isNone != neg)) w)->XV P C Fr e a w (execOp a.eval o) id p h':=by
    intro neg hd' hb;simp only [X1] at hd';have hex:execOp a.eval o=(do pure (.value (<- (do eqGuard bop t x (.const (.map none)) (a.eval x) (.map none); binOp bop t (a.eval x) (.map none):Sem Value)))):=by simp only [execOp,ho]; rfl
    have fin:∀ b:Option Nat,a.eval x=.map b->p=.val (.bool (b.isNone != neg))->h'=h->XV P C Fr e a w (execOp a.eval o) id p h':=by
     rintro b hv rfl rfl;refine XV.quiet s (val:=.bool (b.isNone != neg)) ?_ (.val _);have:=hb b;rw [hex,hv,YT];have hg:(eqGuard bop t x (.const (.map none)) (.map b) (.map none)).run P w=.ok () w:=by
      cases bop<;>simp [eqGuard]
     simp only [YT,hg,YG,this];simp
    split at hd'
    . rename_i id0 hx;cases hd';obtain⟨loc,ad,_,_,_,hv⟩:=(s.eval hx).mp_inv;exact fin (some ad.block) hv (by cases neg<;>rfl) rfl
    . rename_i hx;cases hd';have hv:a.eval x=.map none:=(s.eval hx).val_inv;exact fin none hv (by cases neg<;>rfl) rfl
    . cases hd'
   split at hc
   . cases hc;exact nils false (hd.resolve_right nofun) fun b=>by rw [Zhy hu]; simp
   . cases hc;exact nils true (hd.resolve_right nofun) fun b=>by rw [Zhz hu]; simp
   . cases hc
  all_goals (repeat' split at hc)<;>cases hc
  all_goals first
   | exact key _ rfl (Zhp (by assumption) rfl)
   | exact key _ rfl (Z7d (by assumption))
 case h_5 uop t x ho => -- unOp
  cases hc;have hd:=no rfl;simp only [X1] at hd;(repeat' split at hd)<;>cases hd;obtain⟨val,hrun,hrep⟩:=ZcF (P:=P) (w:=w) (s.eval (by assumption)) (by assumption);exact XV.quiet s (by simp [execOp,ho,hrun]) hrep
 case h_6 src dst x ho => -- convert
  (repeat' split at hc)<;>cases hc
  . rename_i k k' hu hu';have hd:=no rfl;simp only [X1] at hd
    split at hd<;>cases hd
    rename_i k2 n hx;have hv:=(s.eval hx).val_inv;exact XV.quiet s (val:=.int k' (k'.wrap n)) (by simp [execOp,ho,hv,convert,Y6 hu,Y6 hu',Conv.intToInt]) (.val _)
  all_goals first
   | exact X2m hd (Zjp s (by assumption) (by assumption) (by assumption))
   | exact X2m hd (Zjo s (by assumption) (by assumption) (by assumption))
 case h_7 t ho => -- alloc
  obtain⟨z,hz,rfl⟩:=YN.1 hc;exact X5c hd (X:=Instr.alloc t true (.tuple #[])) (fun hd=>by cases hd; exact Zfd s hid hz _) (fun hd=>by cases hd; exact ZdE s id hz _)
 case h_8 t x ho => -- box
  cases hc;refine X5c (F:=F) (φ:=φ) hd (X:=Instr.box t (a.eval x)) (fun hd=>?_) (fun hd=>?_)
  all_goals
   simp only [X1,Xv] at hd;(repeat' split at hd)<;>cases hd;rename_i q hq hcond;simp only [Y0k,Y0n] at hcond
   first|exact Zjl s hid (s.eval hq) hcond.1 hcond.2|exact Zhs s id (s.eval hq) hcond.1
 case h_9 t parts ho => -- build
  split at hc
  . rename_i z fs hz hu
    split at hc
    case isFalse=>cases hc
    rename_i hall;obtain⟨qs,hq,rfl⟩:=YN.1 hc;exact X2m hd (Zfs s hz hu (fun f hf=>Option.isSome_iff_exists.1 (YA.1 hall f hf)) hq)
  . rename_i z n el hz hu
    split at hc<;>cases hc
    exact X2m hd (ZdM s hz hu (by assumption))
  . cases hc
 case h_10 t n parts ho => -- buildSlice
  (repeat' split at hc)<;>cases hc;rename_i el hu _ z hz hle;refine X5c (F:=F) (φ:=φ) hd (X:=Instr.buildSlice t n (parts.map fun (i,x)=>(i,a.eval x))) (fun hd=>?_) (fun hd=>?_)
  all_goals
   simp only [X1,Xv] at hd
   split at hd<;>cases hd
   first|exact ZaV s hid hu hz hle (by assumption)|exact ZaW s hid hu hz hle (by assumption)
 case h_11 t x ho => -- load
  obtain⟨l,hl,rfl⟩:=YN.1 hc;exact X2m hd (Zhq s hl)
 case h_12 t x y ho => -- store
  obtain⟨l,hl,rfl⟩:=YN.1 hc;obtain⟨rfl,w',hr,s'⟩:=Zfk s hl (no rfl);exact⟨.skip,undef,w',F,φ,by simp [execOp,ho,hr],.inr ⟨rfl,rfl⟩,s'.weaken fun _ h=>h.1,.val _⟩
 case h_13 x ho => -- nilCheck
  cases hc;obtain⟨rfl,hr,hv⟩:=Zfh s (no rfl);rcases hv with⟨ad,hv⟩|⟨f,vs,hv⟩<;>exact XV.quiet s (val:=a.eval x) (by simp [execOp,ho,hv]) hr
 case h_14 t x i ho => -- fieldAddr
  (repeat' split at hc)<;>cases hc;exact X2m hd (Zfg s (by assumption) (by assumption) (by assumption) (by assumption))
 case h_15 t x i ho => -- field
  split at hc
  case h_2=>cases hc
  split at hc
  case h_2=>cases hc
  obtain⟨l,hl,rfl⟩:=YN.1 hc;exact X2m hd (Zfi s (by assumption) (by assumption) hl)
 case h_16 t x i ho => -- indexAddr
  split at hc
  . obtain ⟨l, hl, rfl⟩ := YN.1 hc;exact X2m hd (Zfj s (by assumption) hl)
  . obtain ⟨l, hl, rfl⟩ := YN.1 hc;exact X2m hd (ZdB s (by assumption) hl)
  . cases hc
 case h_17 t x i ho => -- index
  split at hc
  . obtain ⟨l, hl, rfl⟩ := YN.1 hc;exact X2m hd (ZdC s (by assumption) hl)
  . cases hc;exact X2m hd (ZdD s (by assumption))
  . cases hc
 case h_18 t x y ho => -- makeSlice
  (repeat' split at hc)<;>cases hc;rename_i el hu _ _ z i hz hi hby;exact X5c hd (ZdF s hid hu hz hi hby) (ZaX s hid hu hz hi hby)
 case h_19 t x lo hi mx ho => -- slice
  split at hc
  . obtain ⟨l, hl, rfl⟩ := YN.1 hc;exact X5c hd (Zjn s hid (by assumption) hl) (ZhC s (by assumption) hl)
  . split at hc <;> cases hc
    rename_i hu hmx;obtain rfl:=Y4k.1 hmx;exact X2m hd (ZhA s hu)
  . (repeat' split at hc) <;> cases hc;rename_i n el hu _ inf hi' hcd;obtain⟨hmx,h1,hn⟩:=hcd;obtain rfl:=Y4k.1 hmx;exact X2m hd (ZhB s hu hi' h1 hn)
  . cases hc
 case h_20 t ho => -- makeMap
  split at hc<;>cases hc
  exact X2m hd (X:=Instr.makeMap t none) (fun hd=>by cases hd; exact Zfo s hid)
 case h_21 t x i ok ho => -- lookup
  (repeat' split at hc)<;>cases hc;exact X5c hd (ZdK s (by assumption) (by assumption) (by assumption)) (Z88 s (by assumption) (by assumption) (by assumption))
 case h_22 t x i v ho|h_26 t x i v ho => -- mapUpdate,insert
  (repeat' split at hc)<;>cases hc;obtain⟨rfl,w',hr,s'⟩:=ZdL s (by assumption) (by assumption) (no rfl);exact⟨.skip,undef,w',F,φ,by simp [execOp,ho,hr],.inr ⟨rfl,rfl⟩,s'.weaken fun _ h=>h.1,.val _⟩
 case h_23 f first caps ho => -- makeFunc
  (repeat' split at hc)<;>cases hc
  . rename_i hfirst;obtain rfl:first = #[]:=by simpa using hfirst
    exact X2m hd (Zhu s)
  . rename_i hcaps;obtain rfl:caps = #[]:=by simpa using hcaps
    exact X2m hd (Zhv s)
 case h_24 x i ho => -- extract
  cases hc;exact X2m hd (Zb0 s)
 case h_25 c ho => -- call
  split at hc
  . cases hc;cases no rfl
  case h_9=>cases hc
  all_goals
   rename_i hcal;(repeat' split at hc)<;>try cases hc
  all_goals
   have ha:=X5W (l:=c.args) (by assumption)
   first
    | exact X2m hd (Zke (ts:=c.argTypes) (ty:=o.type) s)
    | exact X2m hd (Zkf (ts:=c.argTypes) (ty:=o.type) s)
    | (have hat := X5W (l := c.argTypes) (by assumption)
       first
        | exact X2m hd (Zjm (ty:=o.type) s (by assumption))
        | (rename_i hu hux _ _ _ _ hz hi hby; exact X5c hd (ZdG (ty:=o.type) s hid hu hux hz hi hby) (ZaZ s id hu hux hz hi hby))
        | (rename_i hu hux _ _ hi; exact X2m hd (Zht (ty:=o.type) s hu hux hi))
        | (obtain⟨z,hz,rfl⟩:=YN.1 hc; exact X2m hd (Zfr (ty:=o.type) s (by assumption) hz))
        | exact X2m hd (Zhr (ty:=o.type) s (by assumption))
        | exact X2m hd (Zhx (ty:=o.type) s (by assumption))
        | (rename_i hu hux _ _ _ _ hz hi hby; exact X2m hd (ZhD (ty:=o.type) s hid hu hux hz hi hby))
        | exact X2m hd (Zjq (ty:=o.type) s (by assumption))
        | (rename_i x _ _ _ _ _ _; exact X2m hd (X:=Builtin.len_ #[_] o.type #[a.eval x]) (fun hd=>by cases hd; exact ZcK (t':=0) s (.inl (by assumption)) x))
        | (rename_i x _ _ _ _ _ _ _ _ _; exact X2m hd (X:=Builtin.len_ #[_] o.type #[a.eval x]) (fun hd=>by cases hd; exact ZcK s (.inr ⟨by assumption,by assumption⟩) x)))
 . cases hc
theorem ZhE {o:Oper} {neg:Bool} {x:Operand} (hc:cOp P o=some (.isnil neg x)):∃ bop t el yt,o.op=.binOp bop t x (.const (.slice none 0 0)) yt/\P.underlying t=some (.slice el)/\(bop=.eql \/ bop=.neq):=by
 unfold cOp at hc
 split at hc
 case h_4 bop t x' y yt ho =>
  split at hc
  all_goals first
   | (rename_i el hu
      split at hc
      . rename_i hnil;have hy:y=.const (.slice none 0 0):=by
         unfold X6P at hnil
         split at hnil
         . rfl
         . cases hnil
        subst hy
        split at hc
        . cases hc; exact⟨_,t,el,yt,ho,hu,.inl rfl⟩
        . cases hc; exact⟨_,t,el,yt,ho,hu,.inr rfl⟩
        . cases hc
      . cases hc)
   | (cases hc; done)
   | ((repeat' (split at hc))<;>first|(cases hc; done)|(simp at hc; done))
 all_goals first
  | (cases hc; done)
  | (simp at hc; done)
  | ((repeat' (split at hc))<;>first|(cases hc; done)|(simp at hc; done))
  | (cases hl : XY P _ with
     | none=>simp [hl] at hc
     | some l=>simp [hl] at hc)
theorem Zft {o:Oper} {neg:Bool} {x:Operand} (hc:cOp P o=some (.isnil neg x)) {b:Option Addr} {n c:Nat} (hv:a.eval x=.slice b n c):∃ bb,(execOp a.eval o).run P w=.ok (.value (.bool bb)) w:=by
 obtain⟨bop,t,el,yt,ho,hu,hb⟩:=ZhE hc;have hex:execOp a.eval o=(do pure (.value (<- (do eqGuard bop t x (.const (.slice none 0 0)) (a.eval x) (.slice none 0 0); binOp bop t (a.eval x) (.slice none 0 0):Sem Value)))):=by simp only [execOp,ho]; rfl
 rcases hb with rfl|rfl
 . exact⟨b.isNone,by rw [hex,hv]; simp [eqGuard,Zfp hu]⟩
 . exact⟨!b.isNone,by rw [hex,hv]; simp [eqGuard,Zfq hu]⟩
end
def Xz:XE:=fun _=>none
def Holds (F:XC) (w:World):Prop:=(∀ x v,F x=some v->x.spot=none/\v.oneCell'=true/\w.cell? x=some v)/\∀ (g j:Nat) (v:Value),(X3t g)[j]?=some v->F ⟨g,j,none⟩=some v
def X1Y (F:XC) (φ:XE) (vs:Array Value) (l:List PV):Prop:=vs.size=l.length/\∀ i,i<l.length->Rep F φ (vs.getD i undef) (l.getD i pvu)
def X12 (P : Program) (f : FuncId) : Prop := ∃ fn,P.funcs[f]? = some fn/\(fn.name == "runtime.NumGoroutine") = false/\fn.body.isNone = false
def X7 (P:Program) (f:FuncId) (args:List PV) (R:PV->Prop):Prop :=
 X12 P f/\∀ (F:XC) (w:World) (vs:Array Value),Holds F w->X1Y F Xz vs args ->
  Calls P f vs w fun e w'=>∃ v r F',e=.returned v/\R r/\Rep F' Xz v r/\Below w.heap.size w w'/\Holds F' w'/\(∀ x u,F x=some u->F' x=some u)/\∀ x:Addr,x.block<w.heap.size->F' x=F x
theorem X7.mono {P:Program} {f:FuncId} {args:List PV} {R R':PV->Prop} (h:X7 P f args R) (hR:∀ r,R r->R' r):X7 P f args R' :=
 ⟨h.1,fun F w vs hF hv=>(h.2 F w vs hF hv).mono fun _ _ ⟨v,r,F',h1,h2,h3⟩=>⟨v,r,F',h1,hR r h2,h3⟩⟩
def LoP (p q:PV):Prop:=q=p \/ q=p.low
def LoL (l m:List PV):Prop:=m=l \/ m=X1h l
theorem LoP.rep {F:XC} {φ:XE} {v:Value} {p q:PV} (h:LoP p q) (hr:Rep F φ v p):Rep F φ v q:=by
 rcases h with rfl|rfl
 . exact hr
 . exact hr.low
theorem LoL.rep {F:XC} {φ:XE} {vs:Array Value} {l m:List PV} (h:LoL l m) (hr:X1Y F φ vs l):X1Y F φ vs m:=by
 rcases h with rfl|rfl
 . exact hr
 . refine ⟨by rw [ZM]; exact hr.1, fun i hi => ?_⟩;rw [Z2t];exact (hr.2 i (by rwa [ZM] at hi)).low
def X3E (P:Program) (g:FuncId) (l:List PV) (R:PV->Prop):Prop:=X12 P g/\∀ (F:XC) (φ:XE) (vs:Array Value),X1Y F φ vs l->∃ m,X1Y F Xz vs m/\X7 P g m R
theorem X3E.of {P:Program} {g:FuncId} {l m:List PV} {R:PV->Prop} (h:LoL l m) (hp:Xe m) (hs:X7 P g m R):X3E P g l R :=
 ⟨hs.1,fun F φ vs hr=>⟨m,⟨(h.rep hr).1,fun i hi=>((h.rep hr).2 i hi).pure (ZW hp i)⟩,hs⟩⟩
def opK (P:Program) (op:AOp) (n:Nat) (e:Env) (h:X0) (K:PV->X0->Prop):Prop :=
 match op with
 | .call f args=>∃ g caps as0 R,ev e f=some (.fn g caps)/\evs e args=some as0/\X3E P g (as0++caps) R/\∀ r,R r->K r h
 | .isnil neg x=>(∃ p h',X1 (.isnil neg x) e h n=some (p,h')/\K p h') \/ (((∃ l fl,ev e x=some (.vec l fl)) \/ ∃ k,ev e x=some (.own k))/\∀ b,K (.val (.bool b)) h)
 | op=>∃ p h',(X1 op e h n=some (p,h') \/ Xv op e h n=some (p,h'))/\K p h'
def Xp (P:Program) (f n:Nat) (args:List PV) (h:X0) (R:Nat->PV->X0->Prop):Prop :=
 X12 P f/\∀ (C:Ctx) (e:Env) (F:XC) (φ:XE) (a:Act) (w:World) (vs:Array Value),St' C (fun i=>n<=i) e h F φ a w->X1Y F φ vs args ->
  Calls P f vs w fun en w'=>∃ v r n' h' F' φ',en=.returned v/\R n' r h'/\Rep F' φ' v r/\St' C (fun i=>n'<=i) e h' F' φ' a w'
theorem Xp.mono {P:Program} {f n:Nat} {args:List PV} {h:X0} {R R':Nat->PV->X0->Prop} (hs:Xp P f n args h R) (hR:∀ n' r h',R n' r h'->R' n' r h'):Xp P f n args h R' :=
 ⟨hs.1,fun C e F φ a w vs hF hv=>(hs.2 C e F φ a w vs hF hv).mono fun _ _ ⟨v,r,n',h',F',φ',h1,h2,h3⟩=>⟨v,r,n',h',F',φ',h1,hR _ _ _ h2,h3⟩⟩
def Sub (C:Ctx) (n:Nat) (e:Env) (h:X0) (n':Nat) (e':Env) (h':X0):Prop:=∀ a w,St C (fun i=>n<=i) e h a w->St C (fun i=>n'<=i) e' h' a w
def X4C (n:Nat) (e:Env) (h:X0) (n':Nat) (e':Env) (h':X0):Prop:=∀ C,Sub C n e h n' e' h'
def bmp (h:X0) (n:Nat):Nat:=match h n with|some _=>n+1|none=>n
inductive X5S:PV->FuncId->List PV->List PV->Prop
 | fn (g:FuncId) (caps as0:List PV):X5S (.fn g caps) g as0 (as0++caps)
 | bf (g:FuncId) (first as0:List PV):X5S (.bf g first) g as0 (first++as0)
def opR (P:Program) (op:AOp) (n:Nat) (e:Env) (h:X0) (K:Nat->PV->X0->Prop):Prop :=
 opK P op n e h (fun p h'=>K (bmp h' n) p h') \/ ∃ f args g v as0 l R,op=.call f args/\ev e f=some v/\evs e args=some as0/\X5S v g as0 l/\Xp P g n l h R/\∀ n' r h',R n' r h'->K n' r h'
def X38 (g:Option (Nat×Bool)) (e:Env) (A B:Prop):Prop :=
 match g with
 | none=>A
 | some (s, b) => match e s with
   | some (.val (.bool c))=>if c=b then A else B
   | some (.val (.tuple _))=>B
   | _=>False
def Xj (P:Program):List Xm->Nat->Env->X0->(Nat->Env->X0->Prop)->Prop
 | [],n,e,h,K=>K n e h
 | o :: os,n,e,h,K=>X38 o.guard e (∃ n1 e1 h1,X4C n e h n1 e1 h1/\opR P o.op n1 e1 h1 fun n' p h'=>Xj P os n' (Xq e1 o.dst p) h' K) (Xj P os n (Xq e o.dst pvu) h K)
structure Xo (F:Fence) (m:Nat):Prop where
 fn:∀ f,F.fn f
 depth:F.depth=none
 calls:∀ (P:Program) f args w R,Calls P f args w R->CallsIn F (m-1) P f args w R
theorem Z5z (m:Nat):Xo Fence.wide m:=⟨fun _=>Yt,rfl,fun _ _ _ _ _ h=>callsIn_wide.2 h⟩
section
variable {P:Program} {C:Ctx} {Fr:Nat->Prop} {e:Env} {h:X0} {F:XC} {φ:XE} {a:Act} {w:World} {FN:Fence} {m:Nat}
theorem Z2U {o:Oper} {op:AOp} (hc:cOp P o=some op):∀ c,o.op ≠ .defer c:=by
 intro c ho;simp [cOp,ho] at hc
theorem St'.called (s:St' C Fr e h F φ a w) {w':World} {F':XC} (hb:Below w.heap.size w w') (hF':Holds F' w') (hext:∀ x u,F x=some u->F' x=some u) (hold:∀ x:Addr,x.block<w.heap.size->F' x=F x):St' C Fr e h F' φ a w':=by
 refine { nt := s.nt, glob := hF'.2, marks := s.marks.mono (fun k hk => by rw [hb.block k (Y9.1 hk).1]; exact hk), loc0 := s.loc0, free := s.free, env := fun k p hp => ⟨(s.env k p hp).1, (s.env k p hp).2.mono hext fun _ _ h => h⟩, froz := hF'.1, ext := fun x v hx => hext _ _ (s.ext x v hx),
          old:=fun x hx hG=>by rw [hold x (by have:=s.size;omega)]; exact s.old x hx hG,os:=hb.os.trans s.os,tape:=hb.tape.trans s.tape,output:=hb.output.trans s.output,size:=Y03 s.size hb.size,
          kept:=fun k hk hG=>by rw [hb.block k (by have:=s.size;omega)]; exact s.kept k hk hG,live:=fun i b hi=>?_,sep:=s.sep }
 obtain⟨loc,h1,h2,h3⟩:=s.live i b hi;refine⟨loc,h1,h2.mono hext (fun _ _ h=>h) (fun k hk=>hb.block k (s.has_lt hi h1 hk)),fun k hk=>⟨(h3 k hk).1,fun x hx=>?_⟩⟩;rw [hold x (by rw [hx]; exact s.has_lt hi h1 hk)];exact (h3 k hk).2 x hx
theorem Z8a {o:Oper} {f:Operand} {args:List Operand} (hc:cOp P o=some (.call f args)):∃ c,o.op=.call c/\c.callee=.value f/\c.args.toList=args:=by
 unfold cOp at hc
 split at hc
 all_goals first
  | (rename_i c ho
     split at hc
     . rename_i f' hcal;cases hc;exact⟨c,ho,hcal,rfl⟩
     all_goals (repeat' (split at hc))<;>simp at hc)
  | ((repeat' (split at hc))<;>simp at hc; done)
  | (simp at hc; done)
  | (cases hl : XY P _ with
     | none=>simp [hl] at hc
     | some l=>simp [hl] at hc)
theorem Z3Q (s:St' C Fr e h F φ a w) {f:Operand} {args:Array Operand} {g:Nat} {caps as0:List PV} (hf:ev e f=some (.fn g caps)) (has:evs e args.toList=some as0):∃ vs,a.eval f=.func (.func g) #[] vs/\X1Y F φ (args.map a.eval++vs) (as0++caps):=by
 obtain⟨vs,hvf,hsz,hcaps⟩:=(s.eval hf).fn_inv;obtain⟨hl1,hl2⟩:=s.evals has;refine⟨vs,hvf,by simp at hl1 ⊢; omega,fun i hi=>?_⟩;by_cases hi':i<as0.length
 . have e1 : (args.map a.eval ++ vs).getD i undef = ((args.toList.map a.eval).getD i undef) := by
    rw [<- Y3l,Z1m];simp only [Y0d];rw [YP (by simp at hl1 ⊢;omega)]
   have e2:(as0++caps).getD i pvu=as0.getD i pvu:=by
    simp only [Y0b];rw [Y11 hi']
   rw [e1,e2];exact hl2 i hi'
 . have e1 : (args.map a.eval ++ vs).getD i undef = vs.getD (i - as0.length) undef := by
    simp only [Y0d];rw [Y1O (by simp at hl1 ⊢;omega)];simp only [Array.size_map];congr 2;simp at hl1;omega
   have e2:(as0++caps).getD i pvu=caps.getD (i-as0.length) pvu:=by
    simp only [Y0b];rw [YV (by omega)]
   rw [e1,e2];exact hcaps _ (by simp at hi;omega)
theorem X1Y.app {vs us:Array Value} {l m:List PV} (h1:X1Y F φ vs l) (h2:X1Y F φ us m):X1Y F φ (vs++us) (l++m):=by
 refine⟨by simp [h1.1,h2.1],fun i hi=>?_⟩;have hl:=h1.1;by_cases hi':i<l.length
 . have := h1.2 i hi';simp only [Y0d,Y0b] at this ⊢;rw [YP (by omega),Y11 hi'];exact this
 . have := h2.2 (i - l.length) (by simp at hi; omega);simp only [Y0d,Y0b] at this ⊢;rw [Y1O (by omega),YV (by omega),hl];exact this
theorem Zfu (s:St' C Fr e h F φ a w) {f:Operand} {args:Array Operand} {g:Nat} {first as0:List PV} (hf:ev e f=some (.bf g first)) (has:evs e args.toList=some as0):∃ vs,a.eval f=.func (.func g) vs #[]/\X1Y F φ (vs++args.map a.eval) (first++as0):=by
 obtain⟨vs,hvf,hsz,hfirst⟩:=(s.eval hf).bf_inv;obtain⟨hl1,hl2⟩:=s.evals has;refine⟨vs,hvf,X1Y.app ⟨hsz,hfirst⟩ ⟨by simpa using hl1,fun i hi=>?_⟩⟩;rw [<- Z1m,Y3l];exact hl2 i hi
theorem Z6e (hok:Xo FN m) {o:Oper} {f:Operand} {args:List Operand} (hc:cOp P o=some (.call f args)) (s:St' C Fr e h F φ a w) {g:Nat} {q:PV} {as0 l:List PV} (hb:X12 P g) (hf:ev e f=some q) (has:evs e args=some as0) (hcl:X5S q g as0 l) {next:Act->World->Prop} {Q:Exit->Act->World->Prop}
 (hk:∀ us,X1Y F φ us l->Calls P g us w fun en w'=>∃ v,en=.returned v/\next (a.put o.dst v) w'):o.wpIn FN m P a w next Q:=by
 refine⟨fun f _=>hok.fn f,?_⟩;rw [Y2O FN.round a.eval o (Z2U hc)];obtain⟨fn,hfn,hname,hbody⟩:=hb;obtain⟨c,ho,hcal,hargs⟩:=Z8a hc;subst hargs;have hrun:∃ us,X1Y F φ us l/\(execOp a.eval o).run P w=.ok (.enter g us) w:=by
  have h1 : ¬ fn.name = "runtime.NumGoroutine" := by simpa using hname
  have h2:¬ fn.body=none:=fun h=>by rw [h] at hbody; simp at hbody
  cases hcl with
  | fn g caps as0 =>
    obtain⟨vs,hvf,hrep⟩:=Z3Q s hf has;exact⟨_,hrep,by simp [execOp,ho,resolve,hcal,hvf,Deferred.ofValue,invoke,callFunc,hfn,h1,h2]⟩
  | bf g first as0 =>
    obtain⟨vs,hvf,hrep⟩:=Zfu s hf has;exact⟨_,hrep,by simp [execOp,ho,resolve,hcal,hvf,Deferred.ofValue,invoke,callFunc,hfn,h1,h2]⟩
 obtain⟨us,hrep,hrun⟩:=hrun;rw [hrun];refine⟨fun hd=>by rw [hok.depth] at hd; simp at hd,hok.calls _ _ _ _ _ ((hk _ hrep).mono ?_)⟩;rintro en w' ⟨v,rfl,hn⟩;exact hn
theorem Z3R (hok:Xo FN m) {o:Oper} {f:Operand} {args:List Operand} (hc:cOp P o=some (.call f args)) (s:St' C Fr e h F φ a w) {g:Nat} {caps as0:List PV} (hb:X12 P g) (hf:ev e f=some (.fn g caps)) (has:evs e args=some as0) {next:Act->World->Prop} {Q:Exit->Act->World->Prop}
 (hk:∀ us,X1Y F φ us (as0++caps)->Calls P g us w fun en w'=>∃ v,en=.returned v/\next (a.put o.dst v) w'):o.wpIn FN m P a w next Q:=Z6e hok hc s hb hf has (.fn g caps as0) hk
theorem Z4A (hok:Xo FN m) {o:Oper} {op:AOp} (hc:cOp P o=some op) (hdst:X2I C.nt o.dst=true) {n:Nat} (hid:Fr n) (s:St' C Fr e h F φ a w) {K:PV->X0->Prop} (hk:opK P op n e h K) {next:Act->World->Prop} {Q:Exit->Act->World->Prop}
 (hnext:∀ p h' a' w',K p h'->St C (fun i=>Fr i/\(h' n≠none->i≠n)) (Xq e o.dst p) h' a' w'->next a' w'):o.wpIn FN m P a w next Q:=by
 by_cases hcall:∃ f args,op=.call f args
 . obtain ⟨f, args, rfl⟩ := hcall;obtain⟨g,caps,as0,R,hf,has,⟨hb,htk⟩,hR⟩:=hk;refine Z3R hok hc s hb hf has fun us hrep=>?_;obtain ⟨args',hrep'',-,hspec⟩ := htk F φ _ hrep;refine (hspec F w _ ⟨s.froz,s.glob⟩ hrep'').mono ?_;rintro en w' ⟨v,r,F',rfl,hr,hvr,hbel,hF',hext,hold⟩;exact⟨v,rfl,hnext r h _ _ (hR r hr) ⟨F',φ,((s.called hbel hF' hext hold).weaken (Fr':=fun i=>Fr i/\(h n≠none->i≠n)) fun _ h=>h.1).putO hdst (hvr.mono (fun _ _ h=>h) fun i x hx=>by cases hx)⟩⟩
 refine⟨fun f _=>hok.fn f,?_⟩;rw [Y2O FN.round a.eval o (Z2U hc)];have det:∀ p h',(X1 op e h n=some (p,h') \/ Xv op e h n=some (p,h'))->K p h'->o.uponIn FN m P a next Q ((execOp a.eval o).run P w):=by
  intro p h' hd hK;obtain⟨r,val,w',F',φ',hr,hval,s',hrep⟩:=Z89 hc s hid hd;have hput:=s'.putO hdst hrep;rw [hr];rcases hval with rfl|⟨rfl,rfl⟩
  . exact hnext p h' _ _ hK ⟨F',φ',hput⟩
  . exact hnext p h' _ _ hK ⟨F',φ',hput⟩
 have:(∃ p h',(X1 op e h n=some (p,h') \/ Xv op e h n=some (p,h'))/\K p h') \/ ∃ neg x,op=.isnil neg x/\((∃ l fl,ev e x=some (.vec l fl)) \/ ∃ k,ev e x=some (.own k))/\∀ b,K (.val (.bool b)) h:=by
  cases op<;>first|exact .inl hk|exact absurd ⟨_,_,rfl⟩ hcall|skip
  rename_i neg x;rcases hk with⟨p,h',hd,hK⟩|⟨hx,hK⟩
  . exact .inl ⟨p,h',.inl hd,hK⟩
  . exact .inr ⟨neg,x,rfl,hx,hK⟩
 rcases this with⟨p,h',hd,hK⟩|⟨neg,x,rfl,hx,hK⟩
 . exact det p h' hd hK
 . have hsl : ∃ b n c, a.eval x = .slice b n c := by
    rcases hx with⟨l,fl,hx⟩|⟨k,hx⟩
    . rcases (s.eval hx).vec_inv with ⟨_, hv⟩ | ⟨ad, cap, esz, cs, hv, _⟩
      . exact⟨_,_,_,hv⟩
      . exact⟨_,_,_,hv⟩
    . obtain ⟨loc, _, _, hv⟩ := (s.eval hx).own_inv;exact⟨_,_,_,hv⟩
   obtain⟨b,n',c',hv⟩:=hsl;obtain⟨bb,hrun⟩:=Zft (w:=w) hc hv;rw [hrun];exact hnext _ _ _ _ (hK bb) ⟨F,φ,(s.weaken fun _ h=>h.1).putO hdst (.val _)⟩
theorem Z6f (hok:Xo FN m) {o:Oper} {f:Operand} {args:List Operand} (hc:cOp P o=some (.call f args)) (hdst:X2I C.nt o.dst=true) {n:Nat} (s:St' C (fun i=>n<=i) e h F φ a w) {g:Nat} {v:PV} {as0 l:List PV} {R:Nat->PV->X0->Prop}
 (hf:ev e f=some v) (has:evs e args=some as0) (hl:X5S v g as0 l) (hsp:Xp P g n l h R) {next:Act->World->Prop} {Q:Exit->Act->World->Prop}
 (hnext:∀ n' p h' a' w',R n' p h'->St C (fun i=>n'<=i) (Xq e o.dst p) h' a' w'->next a' w'):o.wpIn FN m P a w next Q:=by
 refine Z6e hok hc s hsp.1 hf has hl fun us hrep=>(hsp.2 C e F φ a w _ s hrep).mono ?_;rintro en w' ⟨v,r,n',h',F',φ',rfl,hr,hvr,s'⟩;exact⟨v,rfl,hnext n' r h' _ _ hr ⟨F',φ',s'.putO hdst hvr⟩⟩
theorem Z3n {ops:Array Oper} {g:Option (Nat×Bool)} {g':Option (Nat×Bool)} (hg:X3o ops g=some g') (s:St' C Fr e h F φ a w) {o:Oper} (ho:o.guard=g) {A B:Prop} (hk:X38 g' e A B) :
 (Region.wanted o (yielded ops a.tmps)=true/\A) \/ (Region.wanted o (yielded ops a.tmps)=false/\B):=by
 unfold X3o at hg
 split at hg
 . cases hg;exact .inl ⟨by simp [Region.wanted,ho],hk⟩
 . rename_i j b
   split at hg
   case h_2=>simp at hg
   rename_i oj hj
   split at hg
   case h_2=>simp at hg
   rename_i d hd;cases hg;have hy:∀ v,e d=some (.val v)->yielded ops a.tmps j=match v with | .bool c=>some c|_=>none:=fun v hv=>by
    obtain⟨hlt,hr⟩:=s.env d _ hv;have hv':=hr.val_inv;have hlt':d<a.tmps.size:=by rw [s.nt]; exact hlt
    have hg:a.tmps[d]?=some v:=by
     rw [Y1r hlt'];simpa [Array.getD,hlt'] using hv'
    simp only [yielded,hj,Option.bind_some,hd,hg];cases v<;>rfl
   simp only [X38] at hk
   split at hk
   . rename_i c hc;have:=hy _ hc;simp only at this
     split at hk
     . rename_i hcb;subst hcb;exact .inl ⟨by simp [Region.wanted,ho,this],hk⟩
     . rename_i hcb;exact .inr ⟨by simp [Region.wanted,ho,this,hcb],hk⟩
   . rename_i v hc;have:=hy _ hc;simp only at this;exact .inr ⟨by simp [Region.wanted,ho,this],hk⟩
   . exact hk.elim
def X3v (C:Ctx) (Q:Exit->Nat->Env->X0->Prop) (x:Exit) (a:Act) (w:World):Prop:=∃ n e h,Q x n e h/\St C (fun i=>n<=i) e h a w
theorem ZdN (hok:Xo FN m) {ops:Array Oper}:∀ {l:List Oper} {al:List Xm},Xw P C.nt ops l=some al->∀ {n:Nat} {e:Env} {h:X0} {a:Act} {w:World},St C (fun i=>n<=i) e h a w->∀ {Q:Exit->Nat->Env->X0->Prop},Xj P al n e h (fun n e h=>Q .normal n e h) ->
 wpListIn FN m P ops (X3v C Q) l a w:=by
 intro l
 induction l with
 | nil =>
   intro al hc n e h a w hs Q hk;obtain rfl : []=al:=by simpa [Xw] using hc
   exact⟨n,e,h,hk,hs⟩
 | cons o r ih =>
   intro al hc n e h a w hs Q hk;simp only [Xw] at hc
   split at hc
   case h_2=>simp at hc
   rename_i ao al' ho hl;obtain rfl:ao :: al'=al:=by simpa using hc
   unfold X28 at ho
   split at ho
   case h_2=>simp at ho
   rename_i op g hop hg
   split at ho
   case isFalse=>simp at ho
   rename_i hdst;cases ho;simp only [Xj] at hk;obtain⟨F,φ,s⟩:=hs;simp only [wpListIn];rcases Z3n hg s rfl hk with⟨hw,hA⟩|⟨hw,hB⟩
   . rw [Y7 hw];obtain⟨n1,e1,h1,hsub,hA⟩:=hA;obtain⟨F,φ,s⟩:=hsub C a w ⟨F,φ,s⟩;rcases hA with hA|⟨f,args,g,v,as0,l,R,hop',hf,has,hcl,hsp,hR⟩
     . refine Z4A hok hop hdst (Y0m n1) s hA fun p h' a' w' hK hs' => ?_;obtain⟨F',φ',s'⟩:=hs';refine ih hl ⟨F',φ',s'.weaken fun i hi=>?_⟩ hK;unfold bmp at hi;cases hb:h' n1 with
       | none=>rw [hb] at hi; exact⟨hi,fun hne=>absurd rfl hne⟩
       | some b=>rw [hb] at hi; exact⟨by simp only at hi; omega,fun _=>by simp only at hi; omega⟩
     . subst hop';refine Z6f hok hop hdst s hf has hcl hsp fun n' r h' a' w' hr hs'=>?_;exact ih hl hs' (hR n' r h' hr)
   . rw [Y8 (by simp [hw])];refine⟨fun f _=>hok.fn f,?_⟩;have s':=s.putO (p:=pvu) hdst (.val undef);exact ih hl ⟨F,φ,s'⟩ hB
theorem Z9w (hok:Xo FN m) {id:Nat} {ops:Array Oper} {al:List Xm} (hc:Xw P C.nt ops ops.toList=some al) {n:Nat} (hs:St C (fun i=>n<=i) e h a w) {Q:Exit->Nat->Env->X0->Prop} (hk:Xj P al n e h (fun n e h=>Q .normal n e h)) :
 (Code.region id ops false).wpIn FN m P (X3v C Q) a w:=Y3g (ZdN hok hc hs hk)
end
section
variable {P:Program} {C:Ctx} {Fr:Nat->Prop} {e:Env} {h:X0} {n:Nat} {F:XC} {φ:XE} {a:Act} {w:World} {FN:Fence} {m:Nat}
theorem X4b.names {φ':XE} {loc:Loc} {b:Bx} (h2:X4b F φ w loc b) (hp:X2 b.elems):X4b F φ' w loc b:=by
 refine⟨h2.esz,h2.pos,h2.len,h2.cap,h2.max,h2.el,fun hc=>?_⟩;obtain⟨x,hx,hs,cells,t,hg,hsz,hrep⟩:=h2.room hc;exact⟨x,hx,hs,cells,t,hg,hsz,fun i j hi hj=>⟨(hrep i j hi hj).1,(hrep i j hi hj).2.pure (ZW (Z5d hp i) j)⟩⟩
theorem X3j.names {φ':XE} {loc:Loc} {b:Bx} (h2:X3j F φ w loc b) (hp:X2 b.elems):X3j F φ' w loc b:=by
 obtain⟨x,hx,es,t,hg,hr⟩:=h2.room;exact⟨h2.esz,h2.pos,h2.cap,x,hx,es,t,hg,hr.imp fun r hr p hp' v h=>h.pure ((Z3L _ _).1 ((Z25 _ _).1 hp r hr) p hp')⟩
theorem X2n.inn {φ':XE} {D:Nat->Prop} {loc:Loc} {b:Bx} (h2:X2n F φ w loc b) (hφ:∀ i x,D i->φ i=some x->φ' i=some x) (hp:XG D b.elems):X2n F φ' w loc b:=by
 rcases h2 with h2|h2
 . refine .inl ⟨h2.esz, h2.pos, h2.len, h2.cap, h2.max, h2.el, fun hc => ?_⟩;obtain⟨x,hx,hs,cells,t,hg,hsz,hrep⟩:=h2.room hc;exact⟨x,hx,hs,cells,t,hg,hsz,fun i j hi hj=>⟨(hrep i j hi hj).1,(hrep i j hi hj).2.inn hφ (ZW (Z5d hp i) j)⟩⟩
 . obtain ⟨x, hx, es, t, hg, hr⟩ := h2.room;exact .inr ⟨h2.esz,h2.pos,h2.cap,x,hx,es,t,hg,hr.imp fun r hr p hp' v h=>h.inn hφ ((Z3L _ _).1 ((Z25 _ _).1 hp r hr) p hp')⟩
theorem X2n.names {φ':XE} {loc:Loc} {b:Bx} (h2:X2n F φ w loc b) (hp:X2 b.elems):X2n F φ' w loc b:=h2.imp (fun h=>h.names hp) (fun h=>h.names hp)
def X15 (P:Program) (f:FuncId) (b:Bx) (rest:List PV) (R:PV->Bx->Prop):Prop :=
 Xp P f 1 (.ptr 0 0 0 :: rest) (X0.upd (fun _=>none) 0 b) fun _ r h'=>∃ b',h' 0=some b'/\r.pure/\X2 b'.elems/\R r b'
theorem X74 {f k:Nat} {args:List PV} {H0:X0} {R:Nat->PV->X0->Prop} (hs:Xp P f k args H0 R) (s:St' C Fr e h F φ a w) {vs:Array Value} {φ1:XE} (ρ:Nat->Nat) (hfr:∀ i,k<=i->φ1 i=none)
 (hl:∀ i b0,H0 i=some b0->∃ loc b,φ1 i=some loc/\φ (ρ i)=some loc/\h (ρ i)=some b/\(X2n F φ w loc b->X2n F φ1 w loc b0)) (hin:∀ i j,H0 i≠none->H0 j≠none->ρ i=ρ j->i=j) (hv:X1Y F φ1 vs args) :
 Calls P f vs w fun en w'=>∃ v r n' h' F' φ',en=.returned v/\R n' r h'/\Rep F' φ' v r/\(∀ i x,φ1 i=some x->φ' i=some x)/\(∀ i b',h' i=some b'->∃ loc,φ' i=some loc/\X2n F' φ' w' loc b') /\
  ∀ (S : Nat -> Nat -> Prop) {Fr2 : Nat -> Prop} {hN : X0} {φN : XE}, (∀ i x, φ i = some x -> φN i = some x) -> (∀ i, Fr2 i -> φN i = none) -> (∀ x y i, S x i -> S y i -> x = y) ->
    (∀ j b,hN j=some b->(∃ i b' loc,S j i/\h' i=some b'/\φ' i=some loc/\φN j=some loc/\(X2n F' φ' w' loc b'->X2n F' φN w' loc b)) \/ (h j=some b/\φN j=φ j/\∀ i,H0 i≠none->j≠ρ i))->St' C Fr2 e hN F' φN a w':=by
 have hlv:∀ i b0,H0 i=some b0->∃ loc b,φ1 i=some loc/\φ (ρ i)=some loc/\h (ρ i)=some b/\X2n F φ w loc b/\X2n F φ1 w loc b0/\∀ g,loc.has g->(C.w0.heap.size<=g \/ C.G g)/\∀ x:Addr,x.block=g->F x=none:=fun i b0 hi=>by
  obtain⟨loc,b,h1,h2,h3,h4⟩:=hl i b0 hi;obtain⟨loc',g1,g2,g3⟩:=s.live _ b h3;obtain rfl:loc'=loc:=by rw [h2] at g1; exact (Y13 g1).symm
  exact⟨loc',b,h1,h2,h3,g2,h4 g2,g3⟩
 let C1:Ctx:=⟨w,fun g=>∃ i b0 loc,H0 i=some b0/\φ1 i=some loc/\loc.has g,F,C.nt,φ1⟩
 have hG:∀ g,C1.G g->(C.w0.heap.size<=g \/ C.G g)/\¬ w.heap[g]?=some (.deferred (some [])):=by
  rintro g ⟨i,b0,loc,h1,h2,h3⟩;obtain⟨loc',b,q1,q2,q3,q4,_,q5⟩:=hlv i b0 h1;obtain rfl:loc'=loc:=by rw [h2] at q1; exact (Y13 q1).symm
  refine⟨(q5 g h3).1,fun ho=>?_⟩;rcases q4.there h3 with⟨cells,t,hg⟩|⟨es,t,hg⟩<;>(rw [hg] at ho; cases ho)
 have s1:St' C1 (fun i=>k<=i) (fun _=>none) H0 F φ1 { a with defers := [] } w:=by
  refine { nt:=s.nt,glob:=s.glob,marks:=X2f.nil rfl,loc0:=fun i x hx=>hx,free:=hfr,env:=fun k p hp=>(by cases hp),froz:=s.froz,ext:=fun _ _ h=>h,old:=fun _ _ _=>rfl,os:=rfl,tape:=rfl,output:=rfl,size:=Y0m _,kept:=fun _ _ _=>rfl,live:=fun i b0 hi=>?_,sep:=fun i j bi bj li lj g hi hj hli hlj hgi hgj=>?_ }
  . obtain ⟨loc, b, q1, _, _, _, q4, q5⟩ := hlv i b0 hi;exact⟨loc,q1,q4,fun g hg=>⟨.inr ⟨i,b0,loc,hi,q1,hg⟩,(q5 g hg).2⟩⟩
  . obtain ⟨l1, b1, q1, q2, q3, _⟩ := hlv i bi hi;obtain⟨l2,b2,p1,p2,p3,_⟩:=hlv j bj hj;rw [q1] at hli; rw [p1] at hlj;cases hli; cases hlj;exact hin i j (by rw [hi]; nofun) (by rw [hj]; nofun) (s.sep _ _ b1 b2 _ _ g q3 p3 q2 p2 hgi hgj)
 refine (hs.2 C1 _ F φ1 { a with defers := [] } w vs s1 hv).mono ?_;rintro en w' ⟨v,r,n',h',F',φ',rfl,hR,hvr,s'⟩;refine⟨v,r,n',h',F',φ',rfl,hR,hvr,s'.loc0,fun i b' hi=>?_,fun S Fr2 hN φN hφ hfr2 hS hsrc=>?_⟩
 . obtain ⟨loc, g1, g2, _⟩ := s'.live i b' hi;exact⟨loc,g1,g2⟩
 have hold:∀ {j b loc g},h j=some b->(∀ i,H0 i≠none->j≠ρ i)->φ j=some loc->loc.has g->¬ C1.G g:=by
  rintro j b loc g h1 h2 h3 h4 ⟨i,b0,l0,q1,q2,q3⟩;obtain⟨l1,b1,p1,p2,p3,_⟩:=hlv i b0 q1;rw [q2] at p1; cases p1;exact h2 i (by rw [q1]; nofun) (s.sep j _ b b1 loc l0 g h1 p3 h3 p2 h4 q3)
 have cls:∀ {j b l g},hN j=some b->φN j=some l->l.has g->(h j=some b/\φ j=some l/\g<w.heap.size/\¬ C1.G g) \/ ((w.heap.size<=g \/ C1.G g)/\∃ i b',h' i=some b'/\φ' i=some l/\S j i):=by
  intro j b l g hj hl hg;rcases hsrc j b hj with⟨i,b',loc,h1,h2,h3,h4,_⟩|⟨h1,h2,h3⟩
  . rw [hl] at h4; cases h4;obtain⟨l',g1,_,g3⟩:=s'.live i b' h2;rw [h3] at g1; cases g1;exact .inr ⟨(g3 g hg).1,i,b',h2,h3,h1⟩
  . rw [h2] at hl;exact .inl ⟨h1,hl,s.has_lt h1 hl hg,hold h1 h3 hl hg⟩
 refine { nt := s.nt, glob := s'.glob, marks := s.marks.mono (fun g hg => by rw [s'.kept g (Y9.1 hg).1 (fun hg' => (hG g hg').2 hg)]; exact hg), loc0 := fun i x hx => hφ i x (s.loc0 i x hx), free := hfr2, env := fun k p hp => ⟨(s.env k p hp).1, (s.env k p hp).2.mono s'.ext hφ⟩, froz := s'.froz, ext := fun x v hx => s'.ext _ _ (s.ext x v hx),
          old:=fun x hx hg=>?_,os:=s'.os.trans s.os,tape:=s'.tape.trans s.tape,output:=s'.output.trans s.output,size:=Y03 s.size s'.size,kept:=fun g hk hg=>?_,live:=fun j b hj=>?_,sep:=fun x y bx bY lx ly g hx hy hlx hly hgx hgy=>?_ }
 . rw [s'.old x (YW hx s.size) fun hg' => (hG _ hg').1.elim (fun h1 => absurd hx (Y2R.2 h1)) hg];exact s.old x hx hg
 . rw [s'.kept g (YW hk s.size) fun hg' => (hG _ hg').1.elim (fun h1 => absurd hk (Y2R.2 h1)) hg];exact s.kept g hk hg
 . rcases hsrc j b hj with ⟨i, b', loc, h1, h2, h3, h4, h5⟩ | ⟨h1, h2, h3⟩
   . obtain ⟨l', g1, g2, g3⟩ := s'.live i b' h2;rw [h3] at g1; cases g1;exact⟨loc,h4,h5 g2,fun g hg=>⟨(g3 g hg).1.elim (fun h1=>.inl (Y03 s.size h1)) fun h1=>(hG g h1).1,(g3 g hg).2⟩⟩
   . obtain ⟨l, g1, g2, g3⟩ := s.live j b h1;refine⟨l,h2.trans g1,g2.mono s'.ext hφ fun g hg=>s'.kept g (s.has_lt h1 g1 hg) (hold h1 h3 g1 hg),fun g hg=>⟨(g3 g hg).1,fun x hx=>?_⟩⟩;rw [s'.old x (by rw [hx]; exact s.has_lt h1 g1 hg) (by rw [hx]; exact hold h1 h3 g1 hg)];exact (g3 g hg).2 x hx
 . rcases cls hx hlx hgx with ⟨a1, a2, a3, a4⟩ | ⟨a1, y1, c1, a2, a3, a4⟩ <;> rcases cls hy hly hgy with ⟨d1, d2, d3, d4⟩ | ⟨d1, y2, c2, d2, d3, d4⟩
   . exact s.sep x y bx bY lx ly g a1 d1 a2 d2 hgx hgy
   . exact (d1.elim (fun d1=>absurd a3 (Y2R.2 d1)) a4).elim
   . exact (a1.elim (fun a1=>absurd d3 (Y2R.2 a1)) d4).elim
   . obtain rfl := s'.sep y1 y2 c1 c2 lx ly g a2 d2 a3 d3 hgx hgy;exact hS x y y1 a4 d4
theorem Z5h {b b0:Bx} {i:Nat} (hi:(X0.upd (fun _=>none) 0 b) i=some b0):i=0/\b0=b:=by
 by_cases hi0:i=0
 . subst hi0; rw [X0.upd_same] at hi; exact⟨rfl,(Y13 hi).symm⟩
 . rw [X0.upd_ne _ _ hi0] at hi; cases hi
theorem Z8b {h:X0} {id j:Nat} {b b':Bx} (hj:(h.upd id b') j=some b):(j=id/\b=b') \/ (j≠id/\h j=some b):=by
 by_cases hi:j=id
 . subst hi; rw [X0.upd_same] at hj; exact .inl ⟨rfl,(Y13 hj).symm⟩
 . rw [X0.upd_ne _ _ hi] at hj; exact .inr ⟨hi,hj⟩
theorem X5e {f:FuncId} {b:Bx} {args:List PV} {R:PV->Bx->Prop} (hs:Xp P f 1 args (X0.upd (fun _=>none) 0 b) fun _ r h'=>∃ b',h' 0=some b'/\X2 b'.elems/\R r b') (hpb:X2 b.elems) {id:Nat} (hb:h id=some b) (s:St' C Fr e h F φ a w) {vs:Array Value} (hv:∀ φ1:XE,φ1 0=φ id->X1Y F φ1 vs args) :
 Calls P f vs w fun en w'=>∃ v r b' F',en=.returned v/\(X2 b'.elems/\R r b')/\(∃ φ':XE,φ' 0=φ id/\Rep F' φ' v r)/\St' C Fr e (h.upd id b') F' φ a w':=by
 obtain⟨loc,hloc,_⟩:=s.live id b hb;refine (X74 hs s (φ1:=fun i=>if i=0 then φ id else none) (fun _=>id) (fun i hi=>Y8 (by omega)) (fun i b0 hi=>?_) (fun i j hi hj _=>?_) (hv _ rfl)).mono ?_
 . obtain ⟨rfl, rfl⟩ := Z5h hi;exact⟨loc,b0,hloc,hloc,hb,fun hx=>hx.names hpb⟩
 . obtain ⟨_, hi⟩ := Y2i.1 hi;obtain⟨_,hj⟩:=Y2i.1 hj;rw [(Z5h hi).1,(Z5h hj).1]
 . rintro en w' ⟨v, r, n', h', F', φ', rfl, ⟨b', hb', hpb', hR⟩, hvr, hφ, hob, hst⟩;have hφ0:φ' 0=φ id:=by rw [hloc]; exact hφ 0 loc hloc
   refine⟨v,r,b',F',rfl,⟨hpb',hR⟩,⟨φ',hφ0,hvr⟩,hst (fun j i=>j=id/\i=0) (fun _ _ h=>h) s.free (fun x y i h1 h2=>h1.1.trans h2.1.symm) fun j bj hj=>?_⟩;rcases Z8b hj with⟨rfl,rfl⟩|⟨hne,hj⟩
   . exact .inl ⟨0,bj,loc,⟨rfl,rfl⟩,hb',hφ0.trans hloc,hloc,fun hx=>hx.names hpb'⟩
   . exact .inr ⟨hj,rfl,fun _ _=>hne⟩
theorem X15.run {f:FuncId} {b:Bx} {rest:List PV} {R:PV->Bx->Prop} (hs:X15 P f b rest R) (hpb:X2 b.elems) (hpr:Xe rest) {id:Nat} (hb:h id=some b) (s:St' C Fr e h F φ a w) {vs:Array Value} (hv:X1Y F φ vs (.ptr id 0 0 :: rest)) :
 Calls P f vs w fun en w'=>∃ v r b' F',en=.returned v/\(r.pure/\X2 b'.elems/\R r b')/\Rep F' φ v r/\St' C Fr e (h.upd id b') F' φ a w':=by
 refine (X5e (R:=fun r b'=>r.pure/\R r b') (Xp.mono hs fun _ _ _ ⟨b',h1,h2,h3,h4⟩=>⟨b',h1,h3,h2,h4⟩) hpb hb s fun φ1 h1=>⟨hv.1,fun i hi=>?_⟩).mono fun _ _ ⟨v,r,b',F',h1,⟨h2,h3,h4⟩,⟨_,_,h5⟩,h6⟩=>⟨v,r,b',F',h1,⟨h3,h2,h4⟩,h5.pure h3,h6⟩
 have hr:=hv.2 i hi;cases i with
 | zero =>
   obtain⟨loc',x,g1,gz,g2,g3,g4⟩:=(show Rep F φ (vs.getD 0 undef) (.ptr id 0 0) from hr).ptr_inv;rw [g4];exact .ptr 0 0 0 loc' x (h1▸g1) gz g2 g3
 | succ i=>exact hr.pure (ZW hpr i)
def X6R (P:Program) (g:FuncId) (id:Nat) (b:Bx) (as0:List PV) (R:PV->Bx->Prop):Prop :=
 X12 P g/\∀ {C:Ctx} {Fr:Nat->Prop} {e:Env} {h:X0} {F:XC} {φ:XE} {a:Act} {w:World} {vs:Array Value},h id=some b->St' C Fr e h F φ a w->X1Y F φ vs as0 ->
  Calls P g vs w fun en w'=>∃ v r b' F',en=.returned v/\(r.pure/\X2 b'.elems/\R r b')/\Rep F' φ v r/\St' C Fr e (h.upd id b') F' φ a w'
theorem Zb4 (hok:Xo FN m) {o:Oper} {f:Operand} {args:List Operand} (hc:cOp P o=some (.call f args)) (hdst:X2I C.nt o.dst=true) (s:St' C Fr e h F φ a w) {g id:Nat} {caps as0:List PV} {b:Bx} {R:PV->Bx->Prop}
 (hf:ev e f=some (.fn g caps)) (has:evs e args=some as0) (hb:h id=some b) (hsp:X6R P g id b (as0++caps) R) {next:Act->World->Prop} {Q:Exit->Act->World->Prop}
 (hnext:∀ p b' a' w',p.pure->X2 b'.elems->R p b'->St C Fr (Xq e o.dst p) (h.upd id b') a' w'->next a' w'):o.wpIn FN m P a w next Q:=by
 refine Z3R hok hc s hsp.1 hf has fun us hrep=>(hsp.2 hb s hrep).mono ?_;rintro en w' ⟨v,r,b',F',rfl,⟨h1,h2,h3⟩,hvr,s'⟩;exact⟨v,rfl,hnext r b' _ _ h1 h2 h3 ⟨F',φ,s'.putO hdst hvr⟩⟩
def X1a (P:Program) (f:FuncId) (args:List PV) (mk:Nat->PV) (b:Bx):Prop :=
 Xp P f 0 args (fun _=>none) fun n' r h'=>∃ id,r=mk id/\h' id=some b
def Mk (mk:Nat->PV):Prop:=∀ (F:XC) (φ φ':XE) (v:Value) (i n:Nat),φ i=φ' n->Rep F φ v (mk i)->Rep F φ' v (mk n)
theorem Z47:Mk .own:=fun F φ φ' v i n hn hv=>by
 obtain⟨loc,h1,h2,rfl⟩:=hv.own_inv;exact .own n loc (hn▸h1) h2
theorem X5N {f k:Nat} {args:List PV} {H0:X0} {mk:Nat->PV} {R:Bx->Prop} (hs:Xp P f k args H0 fun n' r h'=>∃ id b',r=mk id/\h' id=some b'/\X2 b'.elems/\R b') (hmk:Mk mk) {n:Nat} (hn:Fr n) (s:St' C Fr e h F φ a w) {vs:Array Value} {φ1:XE} (ρ:Nat->Nat) (hfr:∀ i,k<=i->φ1 i=none)
 (hl:∀ i b0,H0 i=some b0->∃ loc b,φ1 i=some loc/\φ (ρ i)=some loc/\h (ρ i)=some b/\(X2n F φ w loc b->X2n F φ1 w loc b0)) (hin:∀ i j,H0 i≠none->H0 j≠none->ρ i=ρ j->i=j) (hv:X1Y F φ1 vs args) {hD:X0} (hd:∀ j b,hD j=some b->h j=some b/\∀ i,H0 i≠none->j≠ρ i) :
 Calls P f vs w fun en w'=>∃ v b' F' φ',en=.returned v/\(X2 b'.elems/\R b')/\Rep F' φ' v (mk n)/\St' C (fun i=>Fr i/\i≠n) e (hD.upd n b') F' φ' a w':=by
 refine (X74 hs s ρ hfr hl hin hv).mono ?_;rintro en w' ⟨v,r,n',h',F',φ',rfl,⟨id,b',rfl,hb',hp,hR⟩,hvr,_,hob,hst⟩;obtain⟨loc,hl1,_⟩:=hob id b' hb';refine⟨v,b',F',Xb φ n loc,rfl,⟨hp,hR⟩,hmk F' φ' _ v id n (by rw [hl1]; simp [Xb]) hvr,hst (fun j i=>j=n/\i=id) (Z1A (s.free n hn) loc) (fun i hi=>by simp [Xb,hi.2,s.free i hi.1]) (fun x y i h1 h2=>h1.1.trans h2.1.symm) fun j b hj=>?_⟩;rcases Z8b hj with⟨rfl,rfl⟩|⟨hne,hj⟩
 . exact .inl ⟨id,b,loc,⟨rfl,rfl⟩,hb',hl1,by simp [Xb],fun hx=>hx.names hp⟩
 . exact .inr ⟨(hd j b hj).1,by simp [Xb,hne],(hd j b hj).2⟩
theorem X1a.run {f:FuncId} {args:List PV} {mk:Nat->PV} {b:Bx} (hs:X1a P f args mk b) (hmk:Mk mk) (hpb:X2 b.elems) (hpr:Xe args) {n:Nat} (hn:Fr n) (s:St' C Fr e h F φ a w) {vs:Array Value} (hv:X1Y F φ vs args) :
 Calls P f vs w fun en w'=>∃ v F' φ',en=.returned v/\Rep F' φ' v (mk n)/\St' C (fun i=>Fr i/\i≠n) e (h.upd n b) F' φ' a w' := 
 (X5N (R:=(· = b)) (Xp.mono hs fun _ _ _ ⟨id,h1,h2⟩=>⟨id,b,h1,h2,hpb,rfl⟩) hmk hn s (φ1:=Xz) id (fun _ _=>rfl) (fun _ _ hi=>by cases hi) (fun _ _ hi=>absurd rfl hi) ⟨hv.1,fun i hi=>(hv.2 i hi).pure (ZW hpr i)⟩ fun _ _ hj=>⟨hj,fun _ hi=>absurd rfl hi⟩).mono fun _ _ ⟨v,b',F',φ',h1,⟨_,h2⟩,h3,h4⟩=>⟨v,F',φ',h1,h3,h2▸h4⟩
def X5v (P:Program) (g:FuncId) (rd:Option (Nat×Bx)) (as0:List PV) (mk:Nat->PV) (b:Bx):Prop :=
 X12 P g/\∀ {C:Ctx} {Fr:Nat->Prop} {e:Env} {h:X0} {F:XC} {φ:XE} {a:Act} {w:World} {vs:Array Value} {n:Nat},(∀ k b0,rd=some (k,b0)->h k=some b0)->Fr n->St' C Fr e h F φ a w->X1Y F φ vs as0 ->
  Calls P g vs w fun en w'=>∃ v F' φ',en=.returned v/\Rep F' φ' v (mk n)/\St' C (fun i=>Fr i/\i≠n) e (h.upd n b) F' φ' a w'
theorem X1a.nrun {g:FuncId} {as0:List PV} {mk:Nat->PV} {b:Bx} (hs:X1a P g as0 mk b) (hmk:Mk mk) (hpb:X2 b.elems) (hpr:Xe as0):X5v P g none as0 mk b:=⟨hs.1,fun _ hn s hv=>hs.run hmk hpb hpr hn s hv⟩
theorem Zb5 (hok:Xo FN m) {o:Oper} {f:Operand} {args:List Operand} (hc:cOp P o=some (.call f args)) (hdst:X2I C.nt o.dst=true) {n:Nat} (hid:Fr n) (s:St' C Fr e h F φ a w) {g:Nat} {caps as0:List PV} {mk:Nat->PV} {b:Bx}
 (hf:ev e f=some (.fn g caps)) (has:evs e args=some as0) {rd:Option (Nat×Bx)} (hrd:∀ k b0,rd=some (k,b0)->h k=some b0) (hsp:X5v P g rd (as0++caps) mk b) {next:Act->World->Prop} {Q:Exit->Act->World->Prop}
 (hnext:∀ a' w',St C (fun i=>Fr i/\i≠n) (Xq e o.dst (mk n)) (h.upd n b) a' w'->next a' w'):o.wpIn FN m P a w next Q:=by
 refine Z3R hok hc s hsp.1 hf has fun us hrep=>(hsp.2 hrd hid s hrep).mono ?_;rintro en w' ⟨v,F',φ',rfl,hvr,s'⟩;exact⟨v,rfl,hnext _ _ ⟨F',φ',s'.putO hdst hvr⟩⟩
theorem St'.frzObj (s:St' C Fr e h F φ a w) {id:Nat} {b:Bx} (hb:h id=some b):∃ F':XC,(∀ x v,F x=some v->F' x=some v)/\St' C Fr e (h.del id) F' φ a w/\∀ v,Rep F φ v (.own id)->Rep F' φ v (.vec b.elems false):=by
 obtain⟨loc',h1,h2,h3⟩:=s.live id b hb;have s1:St' C Fr e (h.del id) F φ a w:=s.sub (fun _ _ h=>h) (fun _ _ hh=>(X0.del_some hh).2);have own:∀ {v},Rep F φ v (.own id)->0<loc'.esz/\v=.slice loc'.base loc'.len loc'.cap:=fun hv=>by
  obtain⟨loc,hl,hz,rfl⟩:=hv.own_inv;obtain rfl:loc'=loc:=by rw [h1] at hl; simpa using hl
  exact⟨hz,rfl⟩
 rcases h2 with h2|h2
 case inr=>exact⟨F,fun _ _ h=>h,s1,fun v hv=>by have:=(own hv).1; have:=h2.pos; omega⟩
 by_cases hc0:loc'.cap=0
 . have hl0 : loc'.len = 0 := by have := h2.cap; omega
   have he0:b.elems = []:=YD (by rw [h2.len,hl0]);refine⟨F,fun _ _ h=>h,s1,fun v hv=>?_⟩;rw [(own hv).2,he0,hl0,hc0];cases loc'.base with
   | none=>exact .vecnil false
   | some x=>exact .vec (F:=F) (φ:=φ) x 0 0 [] false (fun _ _=>undef) (fun h=>absurd rfl h) (Y0m _) (by simp) (by simp) (by simp) (by simp) (by simp)
 . obtain ⟨ad, hbase, hs, cells, ct, hg, hroom, hrep⟩ := h2.room hc0;have hhas:loc'.has ad.block:=⟨hc0,ad,hbase,rfl⟩
   have hx:=Z2v (h3 _ hhas).2 cells;refine⟨_,hx,s1.frz hg (h3 _ hhas).2 (s.del_no hb h1 hhas) (h3 _ hhas).1,fun v hv=>?_⟩;rw [(own hv).2,hbase,<- h2.len];refine .vec ad loc'.cap loc'.esz b.elems false (fun i j=>cells.getD (ad.off+(i*loc'.esz+j)) undef) (fun _=>hs) (by rw [h2.len]; exact h2.cap) (by simp) (by rw [h2.len]; exact h2.max) (fun i hi=>h2.el _ (by simp [Y0b,hi])) (fun i j hi hj=>?_) (fun i j hi hj=>(hrep i j (by rw [<- h2.len]; exact hi) hj).2.mono hx fun _ _ h=>h);refine Z2p F _ _ ?_ (hrep i j (by rw [<- h2.len]; exact hi) hj).1;have:=Z2f (n:=loc'.cap) (i:=i) (j:=j) (esz:=loc'.esz) (by have:=h2.cap; have:=h2.len;omega) hj;omega
theorem St.frzSlot {k id:Nat} {b:Bx} (hst:St C Fr e h a w) (hk:e k=some (.own id)) (hb:h id=some b):St C Fr (e.upd k (.vec b.elems false)) (h.del id) a w:=by
 obtain⟨F,φ,s⟩:=hst;obtain⟨hlt,hr⟩:=s.env k _ hk;obtain⟨F',_,s2,hr2⟩:=s.frzObj hb;refine⟨F',φ,{ s2 with env:=fun j p hj=>?_ }⟩;by_cases hjk:j=k
 . subst hjk; rw [Env.upd_same] at hj; cases hj; exact⟨hlt,hr2 _ hr⟩
 . rw [Env.upd_ne _ _ hjk] at hj; exact s2.env j p hj
theorem St'.cell (s:St' C Fr e h F φ a w) {ob i0 j0:Nat} {bo:Bx} {q:PV} (hob:h ob=some bo) (hi0:i0<bo.elems.length) (hj0:j0<(bo.elems.getD i0 []).length) (hz:0<bo.esz):∃ v,Rep F φ v ((bo.elems.getD i0 []).getD j0 pvu) /\
 ∀ {Fr2:Nat->Prop} {h2:X0} {F':XC} {φ':XE},(∀ x u,F x=some u->F' x=some u)->(∀ i x,φ i=some x->φ' i=some x)->h2 ob=some bo->St' C Fr2 e h2 F' φ' a w->Rep F' φ' v q->St' C Fr2 e (h2.upd ob ⟨bo.esz,bo.elems.set i0 ((bo.elems.getD i0 []).set j0 q)⟩) F' φ' a w:=by
 obtain⟨lo,o1,o2,_⟩:=s.live ob bo hob;have o2:=o2.cellsB hz;have hcl:(bo.elems.getD i0 []).length=lo.esz:=o2.el _ (by simp [Y0b,hi0]);obtain⟨ado,hb,hs,cs,ct,hg,hroom,hr⟩:=o2.room (by have:=o2.cap; have:=o2.len;omega);refine⟨_,(hr i0 j0 (by rw [<- o2.len]; exact hi0) (by rw [<- hcl]; exact hj0)).2,fun {Fr2 h2 F' φ'} hx hφ ho s2 hrep=>{ s2 with live:=fun i bi hi=>?_,sep:=fun i j bi bj li lj k hi hj hli hlj hki hkj=>?_ }⟩
 . rcases Z8b hi with ⟨rfl, rfl⟩ | ⟨_, hi⟩
   . obtain ⟨l2, g1, _, g3⟩ := s2.live i bo ho;obtain rfl:l2=lo:=by rw [hφ _ _ o1] at g1; exact (Y13 g1).symm
     refine⟨l2,g1,.inl ⟨o2.esz,o2.pos,by simpa using o2.len,o2.cap,o2.max,fun c hc=>?_,fun _=>⟨ado,hb,hs,cs,ct,hg,hroom,fun i' j' hi' hj'=>⟨(hr i' j' hi' hj').1,?_⟩⟩⟩,g3⟩
     . rcases Y4n hc with h | h
       . exact o2.el c h
       . rw [h,Y3t]; exact hcl
     . have hr' := (hr i' j' hi' hj').2.mono hx hφ;simp only [Y0b,Y1o] at hr' hrep ⊢;by_cases hii:i0=i'
       . subst hii;rw [Y7 rfl,Y7 hi0];simp only [Y1R,Y1o];by_cases hjj:j0=j'
         . subst hjj;rw [Y7 rfl,Y7 (by simpa [Y0b] using hj0)];exact hrep
         . rw [Y8 hjj]; exact hr'
       . rw [Y8 hii]; exact hr'
   . exact s2.live i bi hi
 . have conv : ∀ {i : Nat} {bi : Bx}, (h2.upd ob ⟨bo.esz, bo.elems.set i0 ((bo.elems.getD i0 []).set j0 q)⟩) i = some bi -> ∃ b0, h2 i = some b0 := fun hi => (Z8b hi).elim (fun h => h.1 ▸ ⟨_, ho⟩) fun h => ⟨_, h.2⟩
   obtain⟨b1,g1⟩:=conv hi
   obtain⟨b2,g2⟩:=conv hj
   exact s2.sep i j b1 b2 li lj k g1 g2 hli hlj hki hkj
theorem Z8c (e:Env) (d:Nat) (p q:PV):(e.upd d p).upd d q=e.upd d q:=by
 funext j;by_cases hj:j=d
 . subst hj; rw [Env.upd_same,Env.upd_same]
 . rw [Env.upd_ne _ _ hj,Env.upd_ne _ _ hj,Env.upd_ne _ _ hj]
theorem Z8d (h:X0) (k id:Nat) (b:Bx) (hid:h id=none):((h.del k).upd id b).del id=h.del k:=by
 funext j;by_cases hj:j=id
 . subst hj;rw [X0.del_same];by_cases hjk:j=k
   . subst hjk; rw [X0.del_same]
   . rw [X0.del_ne _ hjk,hid]
 . rw [X0.del_ne _ hj,X0.upd_ne _ _ hj]
def X4G (P:Program) (f:FuncId) (b:Bx) (rest:List PV) (mk:Nat->PV) (R:Bx->Prop):Prop :=
 Xp P f 1 (.own 0 :: rest) (X0.upd (fun _=>none) 0 b) fun n' r h'=>∃ id b',r=mk id/\h' id=some b'/\X2 b'.elems/\R b'
theorem X4G.run {f:FuncId} {b:Bx} {rest:List PV} {mk:Nat->PV} {R:Bx->Prop} (hs:X4G P f b rest mk R) (hmk:Mk mk) (hpb:X2 b.elems) (hpr:Xe rest) {k n:Nat} (hn:Fr n) (hb:h k=some b) (s:St' C Fr e h F φ a w) {vs:Array Value} (hv:X1Y F φ vs (.own k :: rest)) :
 Calls P f vs w fun en w'=>∃ v b' F' φ',en=.returned v/\(X2 b'.elems/\R b')/\Rep F' φ' v (mk n)/\St' C (fun i=>Fr i/\i≠n) e ((h.del k).upd n b') F' φ' a w':=by
 obtain⟨loc,hloc,_⟩:=s.live k b hb;refine X5N hs hmk hn s (φ1:=fun i=>if i=0 then φ k else none) (fun _=>k) (fun i hi=>Y8 (by omega)) (fun i b0 hi=>?_) (fun i j hi hj _=>?_) ⟨hv.1,fun i hi=>?_⟩ fun j b1 hj=>⟨(X0.del_some hj).2,fun _ _=>(X0.del_some hj).1⟩
 . obtain ⟨rfl, rfl⟩ := Z5h hi;exact⟨loc,b0,hloc,hloc,hb,fun hx=>hx.names hpb⟩
 . obtain ⟨_, hi⟩ := Y2i.1 hi;obtain⟨_,hj⟩:=Y2i.1 hj;rw [(Z5h hi).1,(Z5h hj).1]
 . have hr := hv.2 i hi;cases i with
   | zero=>exact Z47 F φ _ _ k 0 rfl hr
   | succ i=>exact hr.pure (ZW hpr i)
theorem Zb6 (hok:Xo FN m) {o:Oper} {f:Operand} {args:List Operand} (hc:cOp P o=some (.call f args)) (hdst:X2I C.nt o.dst=true) {d n:Nat} (hd:o.dst=some d) (hid:Fr n) (s:St' C Fr e h F φ a w) {g k:Nat} {caps as0 rest:List PV} {b b':Bx}
 (hf:ev e f=some (.fn g caps)) (has:evs e args=some as0) (hr:as0++caps=.own k :: rest) (hb:h k=some b) (hpb:X2 b.elems) (hpb':X2 b'.elems) (hpr:Xe rest) (hsp:X4G P g b rest .own (· = b')) {next:Act->World->Prop} {Q:Exit->Act->World->Prop}
 (hnext:∀ a' w',St C (fun i=>Fr i/\i≠n) (Xq e o.dst (.vec b'.elems false)) (h.del k) a' w'->next a' w'):o.wpIn FN m P a w next Q:=by
 refine Z3R hok hc s hsp.1 hf has fun us hrep=>(hsp.run Z47 hpb hpr hid hb s (hr▸hrep)).mono ?_;rintro en w' ⟨v,b2,F',φ',rfl,⟨h1,rfl⟩,hvr,s'⟩;refine⟨v,rfl,hnext _ _ ?_⟩;have hnone:h n=none:=by
  cases hq:h n with
  | none=>rfl
  | some bq=>obtain⟨loc,h1,_⟩:=s.live _ bq hq; rw [s.free _ hid] at h1; cases h1
 have s2:St C (fun i=>Fr i/\i≠n) (Xq e o.dst (.own n)) ((h.del k).upd n b2) (a.put o.dst v) w':=⟨F',φ',s'.putO hdst hvr⟩
 rw [hd] at s2 ⊢;have s3:=St.frzSlot (k:=d) s2 (Env.upd_same _ _ _) (X0.upd_same _ _ _);rw [Z8d _ _ _ _ hnone] at s3;have e1:(Xq e (some d) (.own n)).upd d (.vec b2.elems false)=Xq e (some d) (.vec b2.elems false):=Z8c _ _ _ _
 rwa [e1] at s3
theorem Holds.kept {F:XC} {w w':World} (hF:Holds F w) (hb:Below w.heap.size w w'):Holds F w':=by
 refine⟨fun x v hx=>?_,hF.2⟩;obtain⟨h1,h2,h3⟩:=hF.1 x v hx;refine⟨h1,h2,?_⟩;have hlt:x.block<w.heap.size:=by
  unfold World.cell? at h3
  split at h3
  . rename_i ho; exact (Y9.1 ho).1
  . cases h3
 rw [hb.cell hlt];exact h3
end
def X2K:Operand->List Nat
 | .tmp t => [t]
 | _ => []
def X56:Option Operand->List Nat
 | some x=>X2K x
 | none => []
def AOp.tmps:AOp->List Nat
 | .mov x | .una _ x | .conv _ x | .b2s x | .s2b x | .box x | .load _ _ x | .nilck x | .faddr _ x | .field _ _ _ x | .len x | .lenS x | .extract x _ | .clear _ x | .isnil _ x | .isnilM _ x | .lenM x | .cap x=>X2K x
 | .pick c a b=>X2K c++(X2K a++X2K b)
 | .bin _ _ x y | .store _ x y | .iaddr _ x y | .iaddrA _ _ x y | .indexA _ _ _ x y | .indexS x y | .mslice _ _ x y | .append _ _ x y | .copy _ x y | .mx x y | .mn x y | .lookup _ _ _ _ x y | .appz _ _ x y=>X2K x++X2K y
 | .mapset _ x y z=>X2K x++(X2K y++X2K z)
 | .slcS x lo hi=>X2K x++(X56 lo++X56 hi)
 | .slcA _ x lo hi=>X2K x++(X56 lo++X56 hi)
 | .alloc _ | .lenA _ | .mkmap => []
 | .build _ ps=>ps.flatMap fun q=>X2K q.2.2
 | .bslice _ _ ps=>ps.flatMap fun q=>X2K q.2
 | .slc _ x lo hi top=>X2K x++(X56 lo++(X56 hi++X56 top))
 | .mkfn _ l | .mkbf _ l=>l.flatMap X2K
 | .call f l=>X2K f++l.flatMap X2K
def X1D (l:List Nat) (e e':Env):Prop:=∀ t∈l,e' t=e t
theorem X1D.left {l m:List Nat} {e e':Env} (h:X1D (l++m) e e'):X1D l e e':=fun t ht=>h t (by simp [ht])
theorem X1D.right {l m:List Nat} {e e':Env} (h:X1D (l++m) e e'):X1D m e e':=fun t ht=>h t (by simp [ht])
theorem ZO {e e':Env} {x:Operand} (h:X1D (X2K x) e e'):ev e' x=ev e x:=by
 cases x with
 | tmp t=>exact h t (by simp [X2K])
 | _=>rfl
theorem Z3o {e e':Env} {l:List Operand} (h:X1D (l.flatMap X2K) e e'):evs e' l=evs e l:=by
 induction l with
 | nil=>rfl
 | cons x r ih =>
   rw [Y2g] at h;simp only [evs,ZO h.left,ih h.right]
theorem Z1X {e e':Env} {d:Int} {x:Option Operand} (h:X1D (X56 x) e e'):XD e' d x=XD e d x:=by
 cases x with
 | none=>rfl
 | some y=>simp only [XD,ZO (x:=y) h]
theorem Z5A {e e':Env}:∀ {ps:List (Nat×Nat×Operand)} {l:List PV},X1D (ps.flatMap fun q=>X2K q.2.2) e e'->X1P e' l ps=X1P e l ps
 | [],_,_=>rfl
 | (off, size, x) :: r, l, h => by
   rw [Y2g] at h;simp only [X1P,ZO (x:=x) h.left]
   split
   . split
     . exact Z5A h.right
     . rfl
   . rfl
theorem Z3p {e e':Env} {size:Nat}:∀ {ps:List (Nat×Operand)} {l:List (List PV)},X1D (ps.flatMap fun q=>X2K q.2) e e'->X1A e' size l ps=X1A e size l ps
 | [],_,_=>rfl
 | (i, x) :: r, l, h => by
   rw [Y2g] at h;simp only [X1A,ZO (x:=x) h.left]
   split
   . split
     . exact Z3p h.right
     . rfl
   . rfl
theorem Zb7 {op:AOp} {e e':Env} (h:X1D op.tmps e e') (hp:X0) (id:Nat):X1 op e' hp id=X1 op e hp id:=by
 cases op<;>simp only [AOp.tmps] at h<;>simp only [X1]
 case slc x lo hi mx =>
  rw [ZO h.left];simp only [Z1X h.right.left,Z1X h.right.right.left];cases mx with
  | none=>rfl
  | some m=>simp only [ZO (x:=m) h.right.right.right]
 all_goals first
  | rw [ZO h]
  | rw [ZO h.left,ZO h.right.left,ZO h.right.right]
  | rw [ZO h.left,ZO h.right]
  | rw [Z5A h]
  | rw [Z3p h]
  | rw [Z3o h]
  | simp only [ZO h.left,Z1X h.right.left,Z1X h.right.right]
theorem Zb8 {op:AOp} {e e':Env} (h:X1D op.tmps e e') (hp:X0) (id:Nat):Xv op e' hp id=Xv op e hp id:=by
 cases op<;>simp only [AOp.tmps] at h<;>simp only [Xv]
 case slc x lo hi mx =>
  cases mx with
  | some m=>rfl
  | none =>
    simp only [ZO h.left,Z1X h.right.left,Z1X h.right.right.left]
 all_goals first|rw [ZO h] | rw [ZO h.left,ZO h.right] | rw [Z3p h]
inductive Eff where
 | none
 | new (id:Nat) (b:Bx)
 | set (k:Nat) (b:Bx)
 | move (k id:Nat) (b:Bx)
 | drop (k:Nat)
def Eff.app:Eff->X0->X0
 | .none,h=>h
 | .new id b,h=>h.upd id b
 | .set k b,h=>h.upd k b
 | .move k id b,h=>fun j=>bif Nat.beq j id then some b else bif Nat.beq j k then Option.none else h j
 | .drop k,h=>h.del k
def AOp.touch:AOp->Bool
 | .load _ _ _ | .store _ _ _ | .iaddr _ _ _ | .len _ | .slc _ _ _ _ _ | .append _ _ _ _ | .copy _ _ _ | .clear _ _ | .lookup _ _ _ _ _ _ | .mapset _ _ _ _ | .lenM _=>true
 | _=>false
structure Rsv where
 call:Option Nat
 grp:List (Nat×Nat)
 un:List Nat
 own:Option Nat:=none
def Rsv.no:Rsv:=⟨none,[],[],none⟩
def Rsv.to (i:Nat):Rsv:=⟨some i,[],[],none⟩
def HZ (z:Rsv) (n:Nat):Prop:=∀ i,z.call=some i->i<n \/ ∃ j,z.own=some j/\i=n+j
def X3K:List (Nat×Nat)->Nat->Option Nat
 | [],_=>none
 | (k,m) :: l,j=>bif Nat.beq j k then some m else X3K l j
def X5Y (z:Rsv) (it k:Nat):Bool:=match X3K z.grp k with|some m=>m.testBit it|none=>true
def X3S (z:Rsv) (it k:Nat):Bool:=match X3K z.grp k with|some m=>Nat.beq (m &&& z.un.getD it 0) 0|none=>false
def X6t:Option Nat->Nat->Bool
 | some j,k=>Nat.beq j k
 | none,_=>false
def X1W (z:Rsv) (n it mask k:Nat):Bool := !X6t z.call k&&(Nat.blt k n||(mask.testBit (k-n)))&&X5Y z it k
def X1L (z:Rsv) (n it mask:Nat):Option PV->Bool
 | some (.ptr k _ _)=>X1W z n it mask k
 | some (.own k)=>X1W z n it mask k
 | some (.view k _ _)=>X1W z n it mask k
 | some (.sl k _ _ _ _)=>X1W z n it mask k
 | some (.mp k)=>X1W z n it mask k
 | _=>true
def okW (z:Rsv) (n it iso k:Nat):Bool:=iso.testBit 0||(Nat.ble n k&&iso.testBit (k-n+1))||X3S z it k
def X52 (z:Rsv) (n it iso:Nat):Option PV->Bool
 | some (.ptr k _ _)=>okW z n it iso k
 | some (.own k)=>okW z n it iso k
 | some (.view k _ _)=>okW z n it iso k
 | some (.sl k _ _ _ _)=>okW z n it iso k
 | some (.mp k)=>okW z n it iso k
 | _=>iso.testBit 0
def X10 (z:Rsv) (op:AOp) (e:Env) (n it mask iso:Nat):Bool :=
 match op with
 | .load _ _ a=>X1L z n it mask (ev e a)
 | .store _ a _=>X1L z n it mask (ev e a)&&X52 z n it iso (ev e a)
 | .copy _ d x=>X1L z n it mask (ev e d)&&(X52 z n it iso (ev e d)&&X1L z n it mask (ev e x))
 | .iaddr _ x _=>X1L z n it mask (ev e x)
 | .len x=>X1L z n it mask (ev e x)
 | .slc _ x _ _ _=>match ev e x with|some (.own _)=>false|some (.view _ _ _)=>false|_=>true
 | .clear _ x=>X1L z n it mask (ev e x)&&X52 z n it iso (ev e x)
 | .lookup _ _ _ _ x _=>X1L z n it mask (ev e x)
 | .mapset _ x _ _=>X1L z n it mask (ev e x)&&X52 z n it iso (ev e x)
 | .lenM x=>X1L z n it mask (ev e x)
 | .append _ _ s _=>match ev e s with|some (.own k)=>X1W z n it mask k&&okW z n it iso k|_=>true
 | _=>true
def X2q (alt:Bool) (op:AOp) (e:Env) (h:X0) (id:Nat):Option (PV×X0):=match alt with|true=>Xv op e h id|false=>X1 op e h id
def X3r (z:Rsv) (call:Bool) (n it mask iso:Nat) (id:Nat):Eff->Prop
 | .none=>True
 | .new i _=>i=id
 | .set k _=>(okW z n it iso k=true/\X1W z n it mask k=true) \/ (call=true/\z.call=some k)
 | .move k i _=>okW z n it iso k=true/\X1W z n it mask k=true/\i=id
 | .drop k=>(okW z n it iso k=true/\X1W z n it mask k=true) \/ (call=true/\z.call=some k)
theorem Zfv {alt:Bool} {op:AOp} {e:Env} {h h':X0} {id n it mask iso:Nat} {p:PV} {z:Rsv} (hd:X2q alt op e h id=some (p,h')) (ha:X10 z op e n it mask iso=true) :
 ∃ f:Eff,h'=f.app h/\X3r z false n it mask iso id f/\(f=.none \/ op.touch=true \/ ∃ b,f=.new id b)/\∀ h2:X0,(op.touch=true->∀ k,X1W z n it mask k=true->h2 k=h k)->X2q alt op e h2 id=some (p,f.app h2):=by
 cases alt with
 | true =>
   simp only [X2q] at hd ⊢;cases op<;>simp only [Xv] at hd<;>try (cases hd; done)
   case bslice z n' ps =>
    split at hd<;>cases hd
    rename_i l hl;exact⟨.new id ⟨z.length,l⟩,rfl,rfl,.inr (.inr ⟨_,rfl⟩),fun h2 _=>by simp only [Xv,hl,Eff.app]⟩
   all_goals
    simp only [X10] at ha;(repeat' split at hd) <;> first
      | (cases hd; exact⟨.none,rfl,Yt,.inl rfl,fun h2 _=>by simp_all [Xv,Eff.app]<;>omega⟩)
      | simp_all
 | false =>
   simp only [X2q] at hd ⊢
   -- those that make an object,or look at one
   by_cases ht:op.touch=true
   . cases op <;> simp only [AOp.touch, Y2z] at ht
     case slc esz x lo hi mx =>
      have key:∀ h2,X1 (.slc esz x lo hi mx) e h2 id=(X1 (.slc esz x lo hi mx) e h id).map fun r=>(r.1,h2):=by
       intro h2;simp only [X1];simp only [X10] at ha
       split
       . split
         . split
           . split<;>rfl
           . split
             . split<;>rfl
             . rfl
         . rfl
       . rename_i k hk;rw [hk] at ha;simp at ha
       . rfl
      have hh:h'=h:=by
       have h3:=key h;rw [hd] at h3;have:=Y13 h3;exact (Y3B this).2
      subst hh;exact⟨.none,rfl,Yt,.inl rfl,fun h2 _=>by rw [key h2,hd]; rfl⟩
     case append zv b x y =>
      simp only [X1] at hd
      split at hd
      case h_2=>simp at hd
      rename_i k m full hx hy
      split at hd
      case h_2=>simp at hd
      rename_i bx hb
      split at hd
      case isFalse=>simp at hd
      rename_i hc;cases hd;have ha':X1W z n it mask k=true/\okW z n it iso k=true:=by simpa [X10,hx] using ha
      refine⟨.move k id ⟨bx.esz,bx.elems++m⟩,rfl,⟨ha'.2,ha'.1,rfl⟩,.inr (.inl rfl),fun h2 h2a=>?_⟩;have hk:h2 k=some bx:=by rw [h2a rfl k ha'.1]; exact hb
      simp only [X1,hx,hy,hk,Y7 hc,Eff.app]
     all_goals
      simp only [X1] at hd;(repeat' split at hd) <;> first
        | (cases hd; done)
        | (cases hd; exact⟨.none,rfl,Yt,.inl rfl,fun h2 h2a=>by simp_all [X1,Eff.app,X10,X1L,AOp.touch]⟩)
        | (cases hd; exact⟨.set _ _,rfl,.inl ⟨by simp_all [X10,X1L,X52],by simp_all [X10,X1L,X52]⟩,.inr (.inl rfl),fun h2 h2a=>by simp_all [X1,Eff.app,X10,X1L,X52,AOp.touch]⟩)
   . have hmk : (∃ b, ∀ h2, X1 op e h2 id = some (p, h2.upd id b)) \/ ∀ h2, X1 op e h2 id = some (p, h2) := by
      cases op<;>simp only [AOp.touch,not_true_eq_false,Y2z,not_false_eq_true] at ht<;>simp only [X1] at hd ⊢
      case alloc z=>cases hd; exact .inl ⟨_,fun _=>rfl⟩
      case mkmap=>cases hd; exact .inl ⟨_,fun _=>rfl⟩
      case call=>cases hd
      all_goals (repeat' split at hd)<;>first
       | (cases hd; done)
       | (cases hd; exact .inl ⟨_,fun h2=>by simp_all; rfl⟩)
       | (cases hd; exact .inr fun h2=>by simp_all<;>omega)
     rcases hmk with⟨b,hmk⟩|hmk
     . have := hmk h;rw [hd] at this;cases this;exact⟨.new id b,rfl,rfl,.inr (.inr ⟨b,rfl⟩),fun h2 _=>hmk h2⟩
     . have := hmk h;rw [hd] at this;cases this;exact⟨.none,rfl,Yt,.inl rfl,fun h2 _=>hmk h2⟩
structure X5 where
 i:Nat
 o:Xm
 mask:Nat
 iso:Nat
 alt:Bool
def X4A:Option (Nat×Bool)->List Nat
 | some (s,_) => [s]
 | none => []
def X5.look (x:X5):List Nat:=x.o.op.tmps++X4A x.o.guard
def X1y (g:Option (Nat×Bool)) (e:Env):Option Bool :=
 match g with
 | none=>some true
 | some (s, b) => match e s with
   | some (.val (.bool c))=>some (c == b)
   | some (.val (.tuple _))=>some false
   | _=>none
def X5G (P:Program) (f:Operand) (args:List Operand) (e:Env) (R:PV->Prop):Prop:=∃ g caps as0,ev e f=some (.fn g caps)/\evs e args=some as0/\X3E P g (as0++caps) R
def X5V (P:Program) (f:Operand) (args:List Operand) (e:Env) (id:Nat) (b:Bx) (R:PV->Bx->Prop):Prop:=∃ g caps as0,ev e f=some (.fn g caps)/\evs e args=some as0/\X6R P g id b (as0++caps) R
def X5L (P:Program) (f:Operand) (args:List Operand) (e:Env) (rd:Option (Nat×Bx)) (mk:Nat->PV) (b:Bx):Prop:=∃ g caps as0,ev e f=some (.fn g caps)/\evs e args=some as0/\X5v P g rd (as0++caps) mk b
def X62 (P:Program) (f:Operand) (args:List Operand) (e:Env) (k:Nat) (b b':Bx):Prop:=∃ g caps as0 rest,ev e f=some (.fn g caps)/\evs e args=some as0/\as0++caps=.own k :: rest/\X2 b.elems/\X2 b'.elems/\Xe rest/\X4G P g b rest .own (· = b')
structure X6p (z:Rsv) (n:Nat) (x:X5) (e:Env) (h:X0) (p:PV) (f:Eff):Prop where
 eff:X3r z false n x.i x.mask x.iso (n+x.i) f
 touch:f=.none \/ x.o.op.touch=true \/ ∃ b,f=.new (n+x.i) b
 run:∀ h2:X0,(x.o.op.touch=true->∀ k,X1W z n x.i x.mask k=true->h2 k=h k)->X2q x.alt x.o.op e h2 (n+x.i)=some (p,f.app h2)
def X6:AOp->Bool
 | .call _ _=>true
 | _=>false
inductive X25 (P:Program) (z:Rsv) (n:Nat) (x:X5) (e:Env) (h:X0):(PV->Eff->Prop)->Prop
 | skip (hw:X1y x.o.guard e=some false):X25 P z n x e h (fun q g=>q=pvu/\g=.none)
 | call (hw:X1y x.o.guard e=some true) (f:Operand) (args:List Operand) (ho:x.o.op=.call f args) (R:PV->Prop) (hc:X5G P f args e R):X25 P z n x e h (fun q g=>R q/\g=.none)
 | callP (hw:X1y x.o.guard e=some true) (f:Operand) (args:List Operand) (ho:x.o.op=.call f args) (id:Nat) (hz:z.call=some id) (b:Bx) (hb:h id=some b) (R:PV->Bx->Prop) (hc:X5V P f args e id b R):X25 P z n x e h (fun q g=>∃ b',g=.set id b'/\q.pure/\X2 b'.elems/\R q b')
 | callN (hw:X1y x.o.guard e=some true) (f:Operand) (args:List Operand) (ho:x.o.op=.call f args) (rd:Option (Nat×Bx)) (hrd:∀ k b0,rd=some (k,b0)->z.call=some k/\h k=some b0) (mk:Nat->PV) (b:Bx) (hc:X5L P f args e rd mk b):X25 P z n x e h (fun q g=>q=mk (n+x.i)/\g=.new (n+x.i) b)
 | callD (hw:X1y x.o.guard e=some true) (f:Operand) (args:List Operand) (ho:x.o.op=.call f args) (d:Nat) (hdst:x.o.dst=some d) (k:Nat) (hz:z.call=some k) (b b':Bx) (hb:h k=some b) (hc:X62 P f args e k b b'):X25 P z n x e h (fun q g=>q=.vec b'.elems false/\g=.drop k)
 | detF (hw : X1y x.o.guard e = some true) (ha : x.alt = true) (d : Nat) (hdst : x.o.dst = some d) (zz : List Value) (bytes : Nat) (sx y : Operand) (ho : x.o.op = .append zz bytes sx y) (k : Nat) (b : Bx) (m : List (List PV)) (fl : Bool) (hs : ev e sx = some (.own k)) (hy : ev e y = some (.vec m fl)) (hb : h k = some b)
    (hcond:(∀ c∈m,c.length=zz.length)/\b.esz=zz.length/\(b.elems.length+m.length)*bytes<=140737488355328) (hp:X2 (b.elems++m)) (hacc:X1W z n x.i x.mask k=true/\okW z n x.i x.iso k=true):X25 P z n x e h (fun q g=>q=.vec (b.elems++m) false/\g=.drop k)
 | det (hw:X1y x.o.guard e=some true) (hn:X6 x.o.op=false) (p:PV) (f:Eff) (hd:X6p z n x e h p f):X25 P z n x e h (fun q g=>q=p/\g=f)
def dK (P:Program) (z:Rsv) (n:Nat):List X5->Env->X0->(Env->X0->Prop)->Prop
 | [],e,h,K=>K e h
 | x :: xs,e,h,K=>∃ T,X25 P z n x e h T/\∀ p f,T p f->dK P z n xs (Xq e x.o.dst p) (f.app h) K
section
variable {P:Program} {z:Rsv} {n:Nat}
theorem Zb9 {g:Option (Nat×Bool)} {e e':Env} (h:X1D (X4A g) e e'):X1y g e'=X1y g e:=by
 cases g with
 | none=>rfl
 | some s=>simp only [X1y,h s.1 (by simp [X4A])]
theorem X25.agree {x:X5} {e e':Env} {h h':X0} {T:PV->Eff->Prop} (hs:X25 P z n x e h T) (he:X1D x.look e e') (hh:x.o.op.touch=true->∀ k,X1W z n x.i x.mask k=true->h' k=h k) (hz:X6 x.o.op=true->∀ k,z.call=some k->h' k=h k):X25 P z n x e' h' T:=by
 have hg:X1y x.o.guard e'=X1y x.o.guard e:=Zb9 he.right;have tm:∀ {o},x.o.op=o->X1D o.tmps e e':=fun ho=>ho▸he.left;cases hs with
 | skip hw=>exact .skip (hg.trans hw)
 | call hw f args ho R hc =>
   obtain⟨g,caps,as0,h1,h2,h3⟩:=hc;have he':=tm ho;exact .call (hg.trans hw) f args ho R ⟨g,caps,as0,(ZO he'.left).trans h1,(Z3o he'.right).trans h2,h3⟩
 | callP hw f args ho id hzi b hb R hc =>
   obtain⟨g,caps,as0,h1,h2,h3⟩:=hc;have he':=tm ho;exact .callP (hg.trans hw) f args ho id hzi b ((hz (by rw [ho]; rfl) id hzi).trans hb) R ⟨g,caps,as0,(ZO he'.left).trans h1,(Z3o he'.right).trans h2,h3⟩
 | callN hw f args ho rd hrd mk b hc =>
   obtain⟨g,caps,as0,h1,h2,h3⟩:=hc;have he':=tm ho;exact .callN (hg.trans hw) f args ho rd (fun k b0 hk=>⟨(hrd k b0 hk).1,(hz (by rw [ho]; rfl) k (hrd k b0 hk).1).trans (hrd k b0 hk).2⟩) mk b ⟨g,caps,as0,(ZO he'.left).trans h1,(Z3o he'.right).trans h2,h3⟩
 | callD hw f args ho d hdst k hzk b b' hb hc =>
   obtain⟨g,caps,as0,rest,h1,h2,h3⟩:=hc;have he':=tm ho;exact .callD (hg.trans hw) f args ho d hdst k hzk b b' ((hz (by rw [ho]; rfl) k hzk).trans hb) ⟨g,caps,as0,rest,(ZO he'.left).trans h1,(Z3o he'.right).trans h2,h3⟩
 | detF hw ha d hdst zz bytes sx y ho k b m fl hs hy hb hcond hp hacc =>
   have he':=tm ho;exact .detF (hg.trans hw) ha d hdst zz bytes sx y ho k b m fl ((ZO he'.left).trans hs) ((ZO he'.right).trans hy) ((hh (by rw [ho]; rfl) k hacc.1).trans hb) hcond hp hacc
 | det hw hn p f hd =>
   refine .det (hg.trans hw) hn p f ⟨hd.eff,hd.touch,fun h2 h2a=>?_⟩;have hev:X2q x.alt x.o.op e' h2 (n+x.i)=X2q x.alt x.o.op e h2 (n+x.i):=by
    unfold X2q;cases x.alt
    . exact Zb7 he.left h2 _
    . exact Zb8 he.left h2 _
   rw [hev];exact hd.run h2 fun ht k hk=>by rw [h2a ht k hk,hh ht k hk]
structure X2u (z:Rsv) (x y:X5):Prop where
 xy:∀ d,x.o.dst=some d->d ∉ y.look/\y.o.dst≠some d
 yx:∀ d,y.o.dst=some d->d ∉ x.look
 calls:X6 x.o.op=true->X6 y.o.op=false
 xiso:x.iso.testBit 0=true->y.o.op.touch=false
 yiso:y.iso.testBit 0=true->x.o.op.touch=false
 xlone:∀ j,x.iso.testBit (j+1)=true->y.o.op.touch=true->y.mask.testBit j=false
 ylone:∀ j,y.iso.testBit (j+1)=true->x.o.op.touch=true->x.mask.testBit j=false
 ne:x.i≠y.i
 mx:x.mask.testBit y.i=false
 my:y.mask.testBit x.i=false
 xun:z.grp = [] \/ (y.o.op.touch=true->(z.un.getD x.i 0).testBit y.i=true)
 yun:z.grp = [] \/ (x.o.op.touch=true->(z.un.getD y.i 0).testBit x.i=true)
 xown:z.own=some x.i->X6 x.o.op=true
 yown:z.own=some y.i->X6 y.o.op=true
theorem Z7r {e:Env} {d:Option Nat} {p:PV} {l:List Nat} (h:∀ k,d=some k->k ∉ l):X1D l e (Xq e d p):=by
 intro t ht;cases d with
 | none=>rfl
 | some k=>exact Env.upd_ne _ _ fun hk=>h k rfl (hk▸ht)
theorem updO_agree' {e:Env} {d:Option Nat} {p:PV} {l:List Nat} (h:∀ k,d=some k->k ∉ l):X1D l (Xq e d p) e:=fun t ht=>(Z7r (e:=e) (p:=p) h t ht).symm
theorem Z9x {e:Env} {d d':Option Nat} {p q:PV} (h:∀ k,d=some k->d'≠some k):Xq (Xq e d p) d' q=Xq (Xq e d' q) d p:=by
 cases d with
 | none=>rfl
 | some k =>
   cases d' with
   | none=>rfl
   | some k' =>
     have hne:k'≠k:=fun hk=>h k rfl (by rw [hk]);funext j;simp only [Xq];by_cases h1:j=k
     . subst h1; rw [Env.upd_ne _ _ (Y2t hne),Env.upd_same,Env.upd_same]
     . by_cases h2 : j = k'
       . subst h2; rw [Env.upd_same,Env.upd_ne _ _ h1,Env.upd_same]
       . rw [Env.upd_ne _ _ h2,Env.upd_ne _ _ h1,Env.upd_ne _ _ h1,Env.upd_ne _ _ h2]
theorem Z4B {it m i:Nat} (h:m.testBit i=false):X1W z n it m (n+i)=false:=by
 have h1:Nat.blt (n+i) n=false:=YK.2 fun hb=>by have:=Y0 hb; omega
 simp [X1W,h,h1]
theorem Z4C {x y:X5} (hi:X2u z x y) {k:Nat} (hw:okW z n x.i x.iso k=true) (ht:y.o.op.touch=true):X1W z n y.i y.mask k=false:=by
 unfold okW at hw;rw [YO,YO,Y0k] at hw;rcases hw with (hw|⟨h1,h2⟩)|hw
 . have:=hi.xiso hw; rw [this] at ht; cases ht
 . have h1 := Y0 h1;have h3:=hi.xlone (k-n) h2 ht;have e:k=n+(k-n):=by omega
   rw [e];exact Z4B h3
 . unfold X3S at hw;have hg:X5Y z y.i k=false:=by
    unfold X5Y;cases hgk:X3K z.grp k with
    | none=>rw [hgk] at hw; cases hw
    | some m =>
      rw [hgk] at hw;have h0:m &&& z.un.getD x.i 0=0:=Yw hw;rcases hi.xun with h1|h1
      . rw [h1] at hgk; cases hgk
      . have h2 := congrArg (·.testBit y.i) h0;simp only [Y0z,Y1l,h1 ht,Y2h] at h2;exact h2
   unfold X1W;rw [hg,Y29]
theorem Z3q {it m i:Nat} (hz:z.call=some i):X1W z n it m i=false:=by simp [X1W,X6t,hz]
theorem ZcL {x y:X5} (hi:X2u z x y) {e:Env} {h:X0} {p:PV} {f:Eff} (hd:X3r z (X6 x.o.op) n x.i x.mask x.iso (n+x.i) f) (ht:y.o.op.touch=true) (h':X0):∀ k,X1W z n y.i y.mask k=true->f.app h' k=h' k:=by
 intro k hk;cases f with
 | none=>rfl
 | new id b =>
   obtain rfl:id=n+x.i:=hd;have:k≠n+x.i:=fun e=>by subst e; rw [Z4B hi.my] at hk; cases hk
   exact X0.upd_ne _ _ this
 | set k' b =>
   rcases hd with hd|⟨_,hd⟩
   . refine X0.upd_ne _ _ fun e => ?_;subst e;rw [Z4C hi hd.1 ht] at hk;cases hk
   . refine X0.upd_ne _ _ fun e => ?_;subst e;rw [Z3q hd] at hk;cases hk
 | move k' id b =>
   obtain⟨h1,h2,rfl⟩:=hd;have e1:Nat.beq k (n+x.i)=false:=YK.2 fun hb=>by
    rw [Yw hb,Z4B hi.my] at hk; cases hk
   have e2:Nat.beq k k'=false:=YK.2 fun hb=>by
    rw [Yw hb,Z4C hi h1 ht] at hk; cases hk
   simp only [Eff.app,e1,e2,cond_false]
 | drop k' =>
   refine X0.del_ne _ fun e=>?_;subst e;rcases hd with hd|⟨_,hd⟩
   . rw [Z4C hi hd.1 ht] at hk;cases hk
   . rw [Z3q hd] at hk;cases hk
theorem ZcM {x:X5} (hzn:HZ z n) (hxo:z.own=some x.i->X6 x.o.op=true) (hnc:X6 x.o.op=false) {f:Eff} (hd:X3r z (X6 x.o.op) n x.i x.mask x.iso (n+x.i) f) (h':X0):∀ k,z.call=some k->f.app h' k=h' k:=by
 intro k hk;have hk0:k≠n+x.i:=by
  rcases hzn k hk with h1|⟨j,h1,h2⟩
  . omega
  . intro he;have hj:j=x.i:=by omega
    rw [hj] at h1;rw [hxo h1] at hnc;cases hnc
 have hne:∀ j,X1W z n x.i x.mask j=true->k≠j:=fun j hj e=>by
  subst e;rw [Z3q hk] at hj;cases hj
 cases f with
 | none=>rfl
 | new id b =>
   obtain rfl:id=n+x.i:=hd;exact X0.upd_ne _ _ hk0
 | set k' b =>
   rcases hd with hd|⟨hc,_⟩
   . exact X0.upd_ne _ _ (hne k' hd.2)
   . rw [hnc] at hc; cases hc
 | move k' id b =>
   obtain⟨_,h2,rfl⟩:=hd;have e1:Nat.beq k (n+x.i)=false:=YK.2 fun hb=>hk0 (Yw hb);have e2:Nat.beq k k'=false:=YK.2 fun hb=>hne k' h2 (Yw hb);simp only [Eff.app,e1,e2,cond_false]
 | drop k' =>
   rcases hd with hd|⟨hc,_⟩
   . exact X0.del_ne _ (hne k' hd.2)
   . rw [hnc] at hc; cases hc
theorem X2u.symm {x y:X5} (h:X2u z x y):X2u z y x:=by
 refine⟨fun d hd=>⟨h.yx d hd,fun hx=>(h.xy d hx).2 hd⟩,fun d hd=>(h.xy d hd).1,fun hy=>?_,h.yiso,h.xiso,h.ylone,h.xlone,h.ne.symm,h.my,h.mx,h.yun,h.xun,h.yown,h.xown⟩;cases hx:X6 x.o.op with
 | false=>rfl
 | true=>have:=h.calls hx; rw [this] at hy; cases hy
def Eff.put:Eff->Nat->Option (Option Bx)
 | .none,_=>Option.none
 | .new id b,j=>bif Nat.beq j id then some (some b) else Option.none
 | .set k b,j=>bif Nat.beq j k then some (some b) else Option.none
 | .move k id b,j=>bif Nat.beq j id then some (some b) else bif Nat.beq j k then some Option.none else Option.none
 | .drop k,j=>bif Nat.beq j k then some Option.none else Option.none
theorem Eff.app_put (f:Eff) (h:X0) (j:Nat):f.app h j=match f.put j with|some v=>v|Option.none=>h j:=by
 cases f with
 | none=>rfl
 | new id b=>simp only [Eff.app,Eff.put,X0.upd]; cases Nat.beq j id<;>rfl
 | set k b=>simp only [Eff.app,Eff.put,X0.upd]; cases Nat.beq j k<;>rfl
 | move k id b =>
   simp only [Eff.app,Eff.put];cases Nat.beq j id
   . cases Nat.beq j k<;>rfl
   . rfl
 | drop k=>simp only [Eff.app,Eff.put,X0.del]; cases Nat.beq j k<;>rfl
theorem ZhF {f g:Eff} (hd:∀ j,f.put j=none \/ g.put j=none) (h:X0):g.app (f.app h)=f.app (g.app h):=by
 funext j;rw [Eff.app_put g,Eff.app_put f,Eff.app_put f,Eff.app_put g];rcases hd j with e|e<;>rw [e]
def X6c (z:Rsv) (n:Nat) (x:X5) (f:Eff):Prop:=f=.none \/ x.o.op.touch=true \/ (∃ b,f=.new (n+x.i) b) \/ (X6 x.o.op=true/\∃ i b,z.call=some i/\f=.set i b) \/ (X6 x.o.op=true/\∃ i,z.call=some i/\f=.drop i)
theorem Zfw {x:X5} {f:Eff} (hf:X3r z (X6 x.o.op) n x.i x.mask x.iso (n+x.i) f) (hf2:X6c z n x f) (j:Nat) (hj:f.put j≠none):j=n+x.i \/ (okW z n x.i x.iso j=true/\X1W z n x.i x.mask j=true/\x.o.op.touch=true) \/ (X6 x.o.op=true/\z.call=some j):=by
 cases f with
 | none=>exact absurd rfl hj
 | new id b =>
   obtain rfl:id=n+x.i:=hf;simp only [Eff.put] at hj;cases hb:Nat.beq j (n+x.i) with
   | true=>exact .inl (Yw hb)
   | false=>rw [hb] at hj; exact absurd rfl hj
 | set k b =>
   have hjk:j=k:=by
    simp only [Eff.put] at hj;cases hb:Nat.beq j k with
    | true=>exact Yw hb
    | false=>rw [hb] at hj; exact absurd rfl hj
   subst hjk;rcases hf with hf|hf
   . rcases hf2 with h | h | ⟨_, h⟩ | ⟨hc, i, _, hz, h⟩ | ⟨_, _, _, h⟩
     . cases h
     . exact .inr (.inl ⟨hf.1,hf.2,h⟩)
     . cases h
     . cases h; exact .inr (.inr ⟨hc,hz⟩)
     . cases h
   . exact .inr (.inr hf)
 | move k id b =>
   obtain⟨h1,h2,rfl⟩:=hf;have ht:x.o.op.touch=true:=by
    rcases hf2 with h|h|⟨_,h⟩|⟨_,_,_,_,h⟩|⟨_,_,_,h⟩
    . cases h
    . exact h
    . cases h
    . cases h
    . cases h
   simp only [Eff.put] at hj;cases hb:Nat.beq j (n+x.i) with
   | true=>exact .inl (Yw hb)
   | false =>
     rw [hb] at hj;cases hb2:Nat.beq j k with
     | true=>obtain rfl:=Yw hb2; exact .inr (.inl ⟨h1,h2,ht⟩)
     | false=>rw [hb2] at hj; exact absurd rfl hj
 | drop k =>
   have hjk:j=k:=by
    simp only [Eff.put] at hj;cases hb:Nat.beq j k with
    | true=>exact Yw hb
    | false=>rw [hb] at hj; exact absurd rfl hj
   subst hjk;rcases hf with hf|hf
   . rcases hf2 with h | h | ⟨_, h⟩ | ⟨_, _, _, _, h⟩ | ⟨hc, i, hz, h⟩
     . cases h
     . exact .inr (.inl ⟨hf.1,hf.2,h⟩)
     . cases h
     . cases h
     . cases h; exact .inr (.inr ⟨hc,hz⟩)
   . exact .inr (.inr hf)
theorem ZcN {x y:X5} (hzn:HZ z n) (hi:X2u z x y) {f g:Eff} (hf:X3r z (X6 x.o.op) n x.i x.mask x.iso (n+x.i) f) (hf2:X6c z n x f) (hg:X3r z (X6 y.o.op) n y.i y.mask y.iso (n+y.i) g) (hg2:X6c z n y g) (h:X0):g.app (f.app h)=f.app (g.app h):=by
 refine ZhF (fun j=>?_) h;by_cases h1:f.put j=none
 . exact .inl h1
 . by_cases h2 : g.put j = none
   . exact .inr h2
   . exfalso;have hne:=hi.ne;rcases Zfw hf hf2 j h1 with k1|⟨k1,k2,k3⟩|⟨k1,k2⟩<;>rcases Zfw hg hg2 j h2 with l1|⟨l1,l2,l3⟩|⟨l1,l2⟩
     . omega
     . rw [k1,Z4B hi.my] at l2; cases l2
     . rcases hzn j l2 with h3 | ⟨q, h3, h4⟩
       . omega
       . have hq : q = x.i := by omega
         rw [hq] at h3;have:=hi.calls (hi.xown h3);rw [this] at l1; cases l1
     . rw [l1,Z4B hi.mx] at k2; cases k2
     . rw [Z4C hi k1 l3] at l2; cases l2
     . rw [Z3q l2] at k2; cases k2
     . rcases hzn j k2 with h3 | ⟨q, h3, h4⟩
       . omega
       . have hq : q = y.i := by omega
         rw [hq] at h3;have h5:=hi.yown h3;have:=hi.calls k1;rw [this] at h5; cases h5
     . rw [Z3q k2] at l2; cases l2
     . have:=hi.calls k1; rw [this] at l1; cases l1
theorem X25.props {x:X5} {e:Env} {h:X0} {T:PV->Eff->Prop} (hs:X25 P z n x e h T) {p:PV} {f:Eff} (ht:T p f):X3r z (X6 x.o.op) n x.i x.mask x.iso (n+x.i) f/\X6c z n x f:=by
 cases hs with
 | skip hw=>obtain⟨rfl,rfl⟩:=ht; exact⟨Yt,.inl rfl⟩
 | call hw f' args ho R hc=>obtain⟨_,rfl⟩:=ht; exact⟨Yt,.inl rfl⟩
 | callP hw f' args ho id hz b hb R hc =>
   obtain⟨b',rfl,_⟩:=ht;exact⟨.inr ⟨by rw [ho]; rfl,hz⟩,.inr (.inr (.inr (.inl ⟨by rw [ho]; rfl,id,b',hz,rfl⟩)))⟩
 | callN hw f' args ho rd hrd mk b hc =>
   obtain⟨rfl,rfl⟩:=ht;exact⟨rfl,.inr (.inr (.inl ⟨b,rfl⟩))⟩
 | callD hw f' args ho d hdst k hz b b' hb hc =>
   obtain⟨rfl,rfl⟩:=ht;exact⟨.inr ⟨by rw [ho]; rfl,hz⟩,.inr (.inr (.inr (.inr ⟨by rw [ho]; rfl,k,hz,rfl⟩)))⟩
 | detF hw ha d hdst zz bytes sx y ho k b m fl hs hy hb hcond hp hacc =>
   obtain⟨rfl,rfl⟩:=ht;exact⟨.inl ⟨hacc.2,hacc.1⟩,.inr (.inl (by rw [ho]; rfl))⟩
 | det hw hn p' f' hd =>
   obtain⟨rfl,rfl⟩:=ht;refine⟨by rw [hn]; exact hd.eff,?_⟩;rcases hd.touch with h|h|h
   . exact .inl h
   . exact .inr (.inl h)
   . exact .inr (.inr (.inl h))
theorem X25.over {x y:X5} (hzn:HZ z n) (hi:X2u z x y) {e:Env} {h:X0} {T Ty:PV->Eff->Prop} (hx:X25 P z n x e h T) {p:PV} {f:Eff} (ht:T p f):X25 P z n y (Xq e x.o.dst p) (f.app h) Ty↔X25 P z n y e h Ty:=by
 have hp:=(hx.props ht).1;constructor
 . intro hy;exact hy.agree (updO_agree' fun k hk=>(hi.xy k hk).1) (fun htc k hk=>(ZcL hi (e:=e) (h:=h) (p:=p) hp htc h k hk).symm) fun hc k hk=>(ZcM hzn hi.xown (hi.symm.calls hc) hp h k hk).symm
 . intro hy;exact hy.agree (Z7r fun k hk=>(hi.xy k hk).1) (fun htc k hk=>ZcL hi (e:=e) (h:=h) (p:=p) hp htc h k hk) fun hc k hk=>ZcM hzn hi.xown (hi.symm.calls hc) hp h k hk
theorem Zba (hzn:HZ z n) {y:X5} {post:List X5} {K:Env->X0->Prop}:∀ {pre:List X5},(∀ x∈pre,X2u z x y)->∀ {e:Env} {h:X0} {q:PV} {g:Eff},X25 P z n y e h (fun q' g'=>q'=q/\g'=g)->X6 y.o.op=false->dK P z n (pre++y :: post) e h K->dK P z n (pre++post) (Xq e y.o.dst q) (g.app h) K:=by
 intro pre
 induction pre with
 | nil =>
   intro _ e h q g hy hnc hk;obtain⟨T,hT,hK⟩:=hk;have hyp:=hy.props (p:=q) (f:=g) ⟨rfl,rfl⟩
   -- the outcome is one
   have huniq:∃ g',T q g'/\g'.app h=g.app h:=by
    have hgen:∀ T':PV->Eff->Prop,X25 P z n y e h T'->T' q g->∃ g',T q g'/\g'.app h=g.app h:=by
     intro T' hT' htq;cases hT' with
     | skip hw =>
       obtain⟨rfl,rfl⟩:=htq;cases hT with
       | skip hw'=>exact⟨_,⟨rfl,rfl⟩,rfl⟩
       | call hw'=>rw [hw] at hw'; cases hw'
       | callP hw'=>rw [hw] at hw'; cases hw'
       | callN hw'=>rw [hw] at hw'; cases hw'
       | callD hw'=>rw [hw] at hw'; cases hw'
       | detF hw'=>rw [hw] at hw'; cases hw'
       | det hw'=>rw [hw] at hw'; cases hw'
     | call hw f args ho R hc=>rw [ho] at hnc; simp [X6] at hnc
     | callP hw f args ho=>rw [ho] at hnc; simp [X6] at hnc
     | callN hw f args ho=>rw [ho] at hnc; simp [X6] at hnc
     | callD hw f args ho=>rw [ho] at hnc; simp [X6] at hnc
     | det hw hn p' f' hd =>
       obtain⟨rfl,rfl⟩:=htq;cases hT with
       | skip hw'=>rw [hw] at hw'; cases hw'
       | call hw' f args ho R hc=>rw [ho] at hnc; simp [X6] at hnc
       | callP hw' f args ho=>rw [ho] at hnc; simp [X6] at hnc
       | callN hw' f args ho=>rw [ho] at hnc; simp [X6] at hnc
       | callD hw' f args ho=>rw [ho] at hnc; simp [X6] at hnc
       | detF hw' ha d hdst zz bytes sx y' ho k b m fl hs hy' hb =>
         have h1:=hd.run h fun _ _ _=>rfl;rw [ha,ho] at h1;simp [X2q,Xv,hs] at h1
       | det hw' hn' p2 f2 hd2 =>
         have h1:=hd.run h fun _ _ _=>rfl;have h2:=hd2.run h fun _ _ _=>rfl;rw [h1] at h2;have h3:=Y3B (Y13 h2);exact⟨f2,⟨h3.1,rfl⟩,h3.2.symm⟩
     | detF hw ha d hdst zz bytes sx y' ho k b m fl hs hy' hb =>
       obtain⟨rfl,rfl⟩:=htq;cases hT with
       | skip hw'=>rw [hw] at hw'; cases hw'
       | call hw' f args ho'=>rw [ho'] at hnc; simp [X6] at hnc
       | callP hw' f args ho'=>rw [ho'] at hnc; simp [X6] at hnc
       | callN hw' f args ho'=>rw [ho'] at hnc; simp [X6] at hnc
       | callD hw' f args ho'=>rw [ho'] at hnc; simp [X6] at hnc
       | det hw' hn' p2 f2 hd2 =>
         have h1:=hd2.run h fun _ _ _=>rfl;rw [ha,ho] at h1;simp [X2q,Xv,hs] at h1
       | detF hw' ha' d' hdst' zz' bytes' sx' y2 ho' k' b' m' fl' hs' hy2 hb' =>
         rw [ho] at ho';cases ho';rw [hs] at hs';cases hs';rw [hy'] at hy2;cases hy2;rw [hb] at hb';cases hb';exact⟨_,⟨rfl,rfl⟩,rfl⟩
    exact hgen _ hy ⟨rfl,rfl⟩
   obtain⟨g',hq,hg⟩:=huniq;have:=hK q g' hq
   rwa [hg] at this
 | cons x pre ih =>
   intro hall e h q g hy hnc hk;have hi:=hall x (by simp);obtain⟨T,hT,hK⟩:=hk;have hyp:=hy.props (p:=q) (f:=g) ⟨rfl,rfl⟩;refine⟨T,?_,fun p f hpf=>?_⟩
   . exact (X25.over hzn hi.symm hy ⟨rfl,rfl⟩).2 hT
   . have hxp := hT.props hpf;have:=ih (fun z hz=>hall z (by simp [hz])) ((X25.over hzn hi hT hpf).2 hy) hnc (hK p f hpf);rw [Z9x (fun k hk=>(hi.xy k hk).2),ZcN hzn hi hxp.1 hxp.2 hyp.1 hyp.2] at this;exact this
theorem Z9y (hzn:HZ z n) {y:X5} {post:List X5} {K:Env->X0->Prop}:∀ {pre:List X5},(∀ x∈pre,X2u z x y)->∀ {e:Env} {h:X0},X6 y.o.op=true->dK P z n (pre++y :: post) e h K->∃ Ty,X25 P z n y e h Ty/\∀ q g,Ty q g->dK P z n (pre++post) (Xq e y.o.dst q) (g.app h) K:=by
 intro pre
 induction pre with
 | nil=>intro _ e h _ hk; exact hk
 | cons x pre ih =>
   intro hall e h hyc hk;have hi:=hall x (by simp);obtain⟨T,hT,hK⟩:=hk;have hone:∃ p f,T=fun q g=>q=p/\g=f:=by
    cases hT with
    | skip hw=>exact⟨_,_,rfl⟩
    | call hw f args ho R hc=>have:=hi.calls (by rw [ho]; rfl); rw [this] at hyc; cases hyc
    | callN hw f args ho=>have:=hi.calls (by rw [ho]; rfl); rw [this] at hyc; cases hyc
    | callD hw f args ho=>have:=hi.calls (by rw [ho]; rfl); rw [this] at hyc; cases hyc
    | callP hw f args ho=>have:=hi.calls (by rw [ho]; rfl); rw [this] at hyc; cases hyc
    | detF=>exact⟨_,_,rfl⟩
    | det hw hn p f hd=>exact⟨_,_,rfl⟩
   obtain⟨p,f,rfl⟩:=hone;have hxp:=hT.props (p:=p) (f:=f) ⟨rfl,rfl⟩;obtain⟨Ty,hy,hyK⟩:=ih (fun z hz=>hall z (by simp [hz])) hyc (hK p f ⟨rfl,rfl⟩);have hy':=(X25.over hzn hi hT ⟨rfl,rfl⟩).1 hy;refine⟨Ty,hy',fun q g hqg=>⟨_,(X25.over hzn hi.symm hy' hqg).2 hT,?_⟩⟩;rintro p' f' ⟨rfl,rfl⟩;have hyp:=hy'.props hqg;have:=hyK q g hqg;rw [Z9x (fun k hk=>(hi.xy k hk).2),ZcN hzn hi hxp.1 hxp.2 hyp.1 hyp.2] at this;exact this
end
def X3f (L:List Nat) (s:Nat) (ed:Edge):Nat:=match Region.binds .any ed with|true=>s ||| (2 ^ ed.on ||| L.getD ed.on 0)|false=>s
def X51 (L:List Nat) (o:Oper):Nat:=o.after.toList.foldl (X3f L) 0
def X2r (ops:Array Oper) (L:List Nat):Bool :=
 ops.toList.zipIdx.all fun q=>L.getD q.2 0 == X51 L q.1&&q.1.after.toList.all (fun ed => !Region.binds .any ed||Nat.blt ed.on q.2)&&Nat.blt (L.getD q.2 0) (2 ^ q.2)
def X7y (al:List Xm) (L:List Nat) (i:Nat):Bool :=
 al.zipIdx.all fun q => !q.1.op.touch||q.2 == i||(match Nat.blt q.2 i with|true=>(L.getD i 0).testBit q.2|false=>(L.getD q.2 0).testBit i)
def X6y (al:List Xm) (L:List Nat) (i:Nat):Nat :=
 al.zipIdx.foldl (fun s q=>match !q.1.op.touch||q.2 == i||(match Nat.blt q.2 i with|true=>(L.getD i 0).testBit q.2|false=>(L.getD q.2 0).testBit i) with|true=>s|false=>s ||| L.getD q.2 0) 0
def X5F:AOp->Bool
 | .store _ _ _ | .append _ _ _ _ | .copy _ _ _ | .clear _ _ | .mapset _ _ _ _=>true
 | _=>false
def X6F (al:List Xm) (L:List Nat) (i:Nat):Nat:=match X7y al L i with
 | true=>1
 | false => match X5F (al.getD i ⟨none, .lenA 0, none⟩).op with
   | true=>2*(L.getD i 0 ^^^ (L.getD i 0 &&& X6y al L i))
   | false=>0
def XF (al:List Xm) (L:List Nat):List X5:=al.zipIdx.map fun q=>⟨q.2,q.1,L.getD q.2 0,X6F al L q.2,false⟩
def X4M (x y:X5):Bool := !y.o.op.touch||Nat.beq (x.iso / 2 &&& y.mask) 0
def X66 (d:Option Nat) (l:List Nat):Bool:=match d with|some k => !l.contains k|none=>true
def X4g (d d':Option Nat):Bool:=match d,d' with|some k,some k' => !(k == k')|_,_=>true
def X4q (x y:X5):Bool :=
 X66 x.o.dst y.look&&X4g x.o.dst y.o.dst&&X66 y.o.dst x.look&&(!X6 x.o.op || !X6 y.o.op)&&(!x.iso.testBit 0 || !y.o.op.touch)&&(!y.iso.testBit 0 || !x.o.op.touch)&&X4M x y&&X4M y x && !x.mask.testBit y.i
def X2G (l:List X5):Bool:=l.all fun x=>l.all fun y => !Nat.blt x.i y.i||y.mask.testBit x.i||X4q x y
theorem Z9z {d:Option Nat} {l:List Nat} (h:X66 d l=true):∀ k,d=some k->k ∉ l:=by
 intro k hk;subst hk;simpa [X66] using h
theorem Zbb {d d':Option Nat} (h:X4g d d'=true):∀ k,d=some k->d'≠some k:=by
 intro k hk hk';subst hk;subst hk';simp [X4g] at h
theorem Z7s {x y:X5} (h:X4M x y=true):∀ j,x.iso.testBit (j+1)=true->y.o.op.touch=true->y.mask.testBit j=false:=by
 intro j hj ht;unfold X4M at h;rw [ht] at h;have h0:x.iso / 2 &&& y.mask=0:=Yw (by simpa using h);have:=congrArg (·.testBit j) h0;simp only [Y0z,Y1l] at this;rw [Y27] at hj;rw [hj,Y19] at this;exact this
def X7m (z:Rsv) (l:List X5):Bool:=match z.own with|none=>true|some j=>l.all fun x => !Nat.beq x.i j||X6 x.o.op
def X4E (z:Rsv) (l:List X5):Bool:=(z.grp.isEmpty||l.all fun x=>l.all fun y=>Nat.beq x.i y.i || !y.o.op.touch||y.mask.testBit x.i||x.mask.testBit y.i||(z.un.getD x.i 0).testBit y.i)&&X7m z l
theorem Z9A {z:Rsv} {l:List X5} (h:X4E z l=true) {x y:X5} (hx:x∈l) (hy:y∈l) (hne:x.i≠y.i) (h1:y.mask.testBit x.i=false) (h2:x.mask.testBit y.i=false):z.grp = [] \/ (y.o.op.touch=true->(z.un.getD x.i 0).testBit y.i=true):=by
 unfold X4E at h;rw [Y0k] at h;replace h:=h.1;rw [YO] at h;rcases h with h|h
 . exact .inl (List.isEmpty_iff.1 h)
 . refine .inr fun ht => ?_;have h3:=YA.1 (YA.1 h x hx) y hy;have hb:Nat.beq x.i y.i=false:=YK.2 fun hb=>hne (Yw hb);simpa only [hb,ht,h1,h2,Y4y,Y3f] using h3
theorem Z9B {z:Rsv} {l:List X5} (h:X4E z l=true) {x:X5} (hx:x∈l):z.own=some x.i->X6 x.o.op=true:=by
 intro ho;unfold X4E at h;rw [Y0k] at h;have h2:=h.2;unfold X7m at h2;rw [ho] at h2;have h3:=YA.1 h2 x hx;simpa using h3
theorem Z6g {z:Rsv} {x y:X5} (h:X4q x y=true) (hlt:x.i<y.i) (hm:y.mask.testBit x.i=false) {l:List X5} (hu:X4E z l=true) (hx:x∈l) (hy:y∈l):X2u z x y:=by
 simp only [X4q,Y0k] at h;obtain⟨⟨⟨⟨⟨⟨⟨⟨h1,h2⟩,h3⟩,h4⟩,h5⟩,h6⟩,h8⟩,h9⟩,h7⟩:=h;refine⟨fun d hd=>⟨Z9z h1 d hd,Zbb h2 d hd⟩,Z9z h3,fun hc=>?_,fun hx=>?_,fun hy=>?_,Z7s h8,Z7s h9,by omega,by simpa using h7,hm,Z9A hu hx hy (by omega) hm (by simpa using h7),Z9A hu hy hx (by omega) (by simpa using h7) hm,Z9B hu hx,Z9B hu hy⟩
 . simpa [hc] using h4
 . simpa [hx] using h5
 . simpa [hy] using h6
theorem ZcO (L:List Nat) (k:Nat):∀ (l:List Edge) (s:Nat),(l.foldl (X3f L) s).testBit k=true->s.testBit k=true \/ ∃ ed∈l,Region.binds .any ed=true/\(ed.on=k \/ (L.getD ed.on 0).testBit k=true)
 | [],s,h=>.inl h
 | ed :: l, s, h => by
   rw [Y1d] at h;rcases ZcO L k l _ h with h|⟨ed',he,h⟩
   . unfold X3f at h
     split at h
     . rename_i hb;rw [Y00,Y00,YJ] at h;simp only [YO,Y0n] at h;rcases h with h|h|h
       . exact .inl h
       . exact .inr ⟨ed,by simp,hb,.inl h⟩
       . exact .inr ⟨ed,by simp,hb,.inr h⟩
     . exact .inl h
   . exact .inr ⟨ed',by simp [he],h⟩
structure MOk (ops:Array Oper) (L:List Nat):Prop where
 mem:∀ j o,ops[j]?=some o->∀ k,(L.getD j 0).testBit k=true->∃ ed∈o.after,Region.binds .any ed=true/\(ed.on=k \/ (L.getD ed.on 0).testBit k=true)
 lt:∀ j o,ops[j]?=some o->∀ ed∈o.after,Region.binds .any ed=true->ed.on<j
theorem Z5B {ops:Array Oper} {L:List Nat} (h:X2r ops L=true):MOk ops L:=by
 have hall:∀ j o,ops[j]?=some o->(L.getD j 0=X51 L o/\∀ ed∈o.after.toList,Region.binds .any ed=true->ed.on<j):=by
  intro j o hj;have hm:(o,j)∈ops.toList.zipIdx:=by
   rw [Y1H];simpa using hj
  have:=YA.1 h _ hm;simp only [Y0k,Y1s,YA,YO,Y39] at this;refine⟨this.1.1,fun ed hed hb=>?_⟩;rcases this.1.2 ed hed with h' | h'
  . rw [hb] at h'; cases h'
  . exact Y0 h'
 refine⟨fun j o hj k hk=>?_,fun j o hj ed hed hb=>(hall j o hj).2 ed (by simpa using hed) hb⟩;rw [(hall j o hj).1] at hk;rcases ZcO L k _ _ hk with h' | ⟨ed,he,h'⟩
 . simp at h'
 . exact⟨ed,by simpa using he,h'⟩
section
variable {z:Rsv} {P:Program} {C:Ctx} {Fr:Nat->Prop} {e:Env} {h:X0} {F:XC} {φ:XE} {a:Act} {w:World} {FN:Fence} {m:Nat}
theorem ZdO {g:Option (Nat×Bool)} {c:Bool} (h:X1y g e=some c):X38 g e (c=true) (c=false):=by
 unfold X1y at h;unfold X38
 split at h
 . cases h; rfl
 . split at h
   . rename_i s b c' hc;cases h
     try simp only [hc]
     split
     . rename_i hcb; simp [hcb]
     . rename_i hcb; simpa using hcb
   . rename_i s b v hc;cases h
     try simp only [hc]
   . cases h
theorem ZdP {n:Nat} {x:X5} {T:PV->Eff->Prop} (hs:X25 P z n x e h T) (hw:X1y x.o.guard e=some true):(∃ f args d k b b',x.o.op=.call f args/\x.o.dst=some d/\h k=some b/\X62 P f args e k b b'/\T=fun q g=>q=.vec b'.elems false/\g=.drop k) \/ (∃ f args id b R,x.o.op=.call f args/\h id=some b/\X5V P f args e id b R/\T=fun q g=>∃ b',g=.set id b'/\q.pure/\X2 b'.elems/\R q b') \/ (∃ f args rd mk b,x.o.op=.call f args/\(∀ k b0,rd=some (k,b0)->h k=some b0)/\X5L P f args e rd mk b/\T=fun q g=>q=mk (n+x.i)/\g=.new (n+x.i) b) \/ (∃ d zz bytes sx y k b m fl,x.o.dst=some d/\x.o.op=.append zz bytes sx y/\ev e sx=some (.own k)/\ev e y=some (.vec m fl)/\h k=some b/\((∀ c∈m,c.length=zz.length)/\b.esz=zz.length/\(b.elems.length+m.length)*bytes<=140737488355328)/\X2 (b.elems++m)/\T=fun q g=>q=.vec (b.elems++m) false/\g=.drop k) \/ opK P x.o.op (n+x.i) e h fun p h'=>∃ f,T p f/\h'=f.app h:=by
 cases hs with
 | skip hw'=>rw [hw] at hw'; cases hw'
 | call _ f args ho R hc =>
   obtain⟨g,caps,as0,h1,h2,h5,h4⟩:=hc;rw [ho];exact .inr (.inr (.inr (.inr ⟨g,caps,as0,R,h1,h2,⟨h5,h4⟩,fun r hr=>⟨.none,⟨hr,rfl⟩,rfl⟩⟩)))
 | callP _ f args ho id hz b hb R hc=>exact .inr (.inl ⟨f,args,id,b,R,ho,hb,hc,rfl⟩)
 | callD _ f args ho d hdst k hz b b' hb hc=>exact .inl ⟨f,args,d,k,b,b',ho,hdst,hb,hc,rfl⟩
 | callN _ f args ho rd hrd mk b hc=>exact .inr (.inr (.inl ⟨f,args,rd,mk,b,ho,fun k b0 hk=>(hrd k b0 hk).2,hc,rfl⟩))
 | detF _ ha d hdst zz bytes sx y ho k b m fl hs hy hb hcond hp hacc=>exact .inr (.inr (.inr (.inl ⟨d,zz,bytes,sx,y,k,b,m,fl,hdst,ho,hs,hy,hb,hcond,hp,rfl⟩)))
 | det _ hn p f hd =>
   have hrun:=hd.run h fun _ _ _=>rfl;have hdf:X1 x.o.op e h (n+x.i)=some (p,f.app h) \/ Xv x.o.op e h (n+x.i)=some (p,f.app h):=by
    unfold X2q at hrun
    split at hrun
    . exact .inr hrun
    . exact .inl hrun
   have:∃ p' h',(X1 x.o.op e h (n+x.i)=some (p',h') \/ Xv x.o.op e h (n+x.i)=some (p',h'))/\∃ f',(fun q g=>q=p/\g=f) p' f'/\h'=f'.app h:=⟨p,f.app h,hdf,f,⟨rfl,rfl⟩,rfl⟩
   generalize x.o.op=op at hn this;refine .inr (.inr (.inr (.inr ?_)));cases op<;>first|exact this|(simp [X6] at hn; done)|skip
   obtain⟨p',h',hd',hk'⟩:=this;rcases hd' with hd' | hd'
   . exact .inl ⟨p',h',hd',hk'⟩
   . simp [Xv] at hd'
theorem Zfx (hok:Xo FN m) {ops:Array Oper} {n:Nat} {x:X5} {o:Oper} (ho:ops[x.i]?=some o) (hc:X28 P C.nt ops o=some x.o) {T:PV->Eff->Prop} (hs:X25 P z n x e h T) (s:St' C Fr e h F φ a w) (hid:Fr (n+x.i))
 {next:Act->World->Prop} {Q:Exit->Act->World->Prop} (hnext:∀ p f a' w',T p f->St C (fun i=>Fr i/\i≠n+x.i) (Xq e x.o.dst p) (f.app h) a' w'->next a' w'):wpOpIn FN m P ops Q x.i next a w:=by
 unfold X28 at hc
 split at hc
 case h_2=>simp at hc
 rename_i op g hop hg
 split at hc
 case isFalse=>simp at hc
 rename_i hdst;have hx:x.o=⟨o.dst,op,g⟩:=(Y13 hc).symm;simp only [wpOpIn,ho];have hsg:∃ c,X1y x.o.guard e=some c:=by cases hs with|skip hw=>exact⟨_,hw⟩|call hw=>exact⟨_,hw⟩|callP hw=>exact⟨_,hw⟩|callN hw=>exact⟨_,hw⟩|callD hw=>exact⟨_,hw⟩|detF hw=>exact⟨_,hw⟩|det hw=>exact⟨_,hw⟩
 obtain⟨c,hwc⟩:=hsg;have hgx:x.o.guard=g:=by rw [hx]
 have hk:=ZdO hwc;rw [hgx] at hk;rcases Z3n hg s rfl hk with⟨hw,rfl⟩|⟨hw,rfl⟩
 . rw [Y7 hw];rcases ZdP hs hwc with⟨f,args,d,k,b,b',hop',hd0,hbk,⟨g',caps,as0,rest,g1,g2,g3,g4,g5,g6,g7⟩,rfl⟩|⟨f,args,id,b,R,hop',hb,⟨g',caps,as0,g1,g2,g3⟩,rfl⟩|⟨f,args,rd,mk,b,hop',hrd,⟨g',caps,as0,g1,g2,g3⟩,rfl⟩|⟨d,zz,bytes,sx,y,k,b,mm,fl,hd0,hop',hsx,hyx,hbk,hcond,hpp,rfl⟩|hopK
   . obtain rfl : op = .call f args := by rw [hx] at hop'; exact hop'
     have hdd:o.dst=some d:=by rw [hx] at hd0; exact hd0
     refine Zb6 hok hop hdst hdd hid s g1 g2 g3 hbk g4 g5 g6 g7 fun a' w' hs'=>?_;exact hnext _ (.drop k) a' w' ⟨rfl,rfl⟩ (by rw [hx]; exact hs')
   . obtain rfl : op = .call f args := by rw [hx] at hop'; exact hop'
     refine Zb4 hok hop hdst s g1 g2 hb g3 fun p b' a' w' h1 h2 h3 hs'=>?_;obtain⟨F',φ',s'⟩:=hs';exact hnext p (.set id b') a' w' ⟨b',rfl,h1,h2,h3⟩ (by rw [hx]; exact⟨F',φ',s'.weaken fun i hi=>hi.1⟩)
   . obtain rfl : op = .call f args := by rw [hx] at hop'; exact hop'
     refine Zb5 hok hop hdst hid s g1 g2 hrd g3 fun a' w' hs'=>?_;exact hnext _ (.new (n+x.i) b) a' w' ⟨rfl,rfl⟩ (by rw [hx]; exact hs')
   . obtain rfl : op = .append zz bytes sx y := by rw [hx] at hop'; exact hop'
     have hdd:o.dst=some d:=by rw [hx] at hd0; exact hd0
     have hopK:opK P (.append zz bytes sx y) (n+x.i) e h fun p h'=>p=.own (n+x.i)/\h'=(h.del k).upd (n+x.i) ⟨b.esz,b.elems++mm⟩:=⟨.own (n+x.i),(h.del k).upd (n+x.i) ⟨b.esz,b.elems++mm⟩,.inl (by simp only [X1,hsx,hyx,hbk,Y7 hcond]; rfl),rfl,rfl⟩
     refine Z4A hok hop hdst hid s hopK fun p h' a' w' hK hs'=>?_;obtain⟨rfl,rfl⟩:=hK;have hnone:h (n+x.i)=none:=by
      cases hq:h (n+x.i) with
      | none=>rfl
      | some bq=>obtain⟨loc,h1,_⟩:=s.live _ bq hq; rw [s.free _ hid] at h1; cases h1
     rw [hdd] at hs';have s2:=St.frzSlot (k:=d) hs' (Env.upd_same _ _ _) (X0.upd_same _ _ _);rw [Z8d _ _ _ _ hnone] at s2;refine hnext _ (.drop k) a' w' ⟨rfl,rfl⟩ ?_;rw [hx];show St C _ (Xq e o.dst _) _ a' w';rw [hdd];have e1:(Xq e (some d) (.own (n+x.i))).upd d (.vec (b.elems++mm) false)=Xq e (some d) (.vec (b.elems++mm) false):=Z8c _ _ _ _;rw [<- e1];obtain⟨F',φ',s'⟩:=s2;exact⟨F',φ',s'.weaken fun i hi=>⟨hi.1,fun _=>hi.2⟩⟩
   rw [hx] at hopK;refine Z4A hok hop hdst hid s hopK fun p h' a' w' hK hs'=>?_;obtain⟨f,hT,rfl⟩:=hK;obtain⟨F',φ',s'⟩:=hs';exact hnext p f a' w' hT (by rw [hx]; exact⟨F',φ',s'.weaken fun i hi=>⟨hi.1,fun _=>hi.2⟩⟩)
 . rw [Y8 (by simp [hw])];refine⟨fun f _=>hok.fn f,?_⟩;have hT:T pvu .none:=by
    cases hs with
    | skip _=>exact⟨rfl,rfl⟩
    | call hw'=>rw [hwc] at hw'; cases hw'
    | callP hw'=>rw [hwc] at hw'; cases hw'
    | callN hw'=>rw [hwc] at hw'; cases hw'
    | callD hw'=>rw [hwc] at hw'; cases hw'
    | detF hw'=>rw [hwc] at hw'; cases hw'
    | det hw'=>rw [hwc] at hw'; cases hw'
   have s':=s.putO (p:=pvu) hdst (.val undef);refine hnext pvu .none _ _ hT ⟨F,φ,?_⟩;rw [hx];exact s'.weaken fun _ h=>h.1
theorem Zfy {n:Nat} {x:X5} {o:Oper} {ops:Array Oper} (hc:X28 P C.nt ops o=some x.o) {T:PV->Eff->Prop} (hs:X25 P z n x e h T) (s:St' C Fr e h F φ a w) (hid:Fr (n+x.i)) :
 ∃ p f a' w',T p f/\St C (fun i=>Fr i/\i≠n+x.i) (Xq e x.o.dst p) (f.app h) a' w':=by
 unfold X28 at hc
 split at hc
 case h_2=>simp at hc
 rename_i op g hop hg
 split at hc
 case isFalse=>simp at hc
 rename_i hdst;have hx:x.o=⟨o.dst,op,g⟩:=(Y13 hc).symm;cases hs with
 | skip hw =>
   refine⟨pvu,.none,a.put o.dst undef,w,⟨rfl,rfl⟩,F,φ,?_⟩;rw [hx];exact (s.putO (p:=pvu) hdst (.val undef)).weaken fun _ h=>h.1
 | call hw f args ho R hcall =>
   obtain⟨g',caps,as0,h1,h2,hbody,htk⟩:=hcall;obtain⟨vs,hvf,hrep⟩:=Z3Q s (args:=args.toArray) h1 (by simpa using h2);obtain ⟨args',hrep'',-,hspec⟩ := htk F φ _ hrep;obtain ⟨en,w',fr,⟨v,r,F',_,hr,hvr,hbel,hF',hext,hold⟩,_⟩ := hspec F w _ ⟨s.froz,s.glob⟩ hrep'' [];have s':=(s.called hbel hF' hext hold).weaken (Fr':=fun i=>Fr i/\i≠n+x.i) fun _ h=>h.1;have hvr':Rep F' φ v r:=hvr.mono (fun _ _ h=>h) (fun i x hx=>by cases hx);exact⟨r,.none,_,w',⟨hr,rfl⟩,F',φ,by rw [hx]; exact s'.putO hdst hvr'⟩
 | callP hw f args ho id hz b hb R hcall =>
   obtain⟨g',caps,as0,h1,h2,hsp⟩:=hcall;obtain⟨vs,hvf,hrep⟩:=Z3Q s (args:=args.toArray) h1 (by simpa using h2);obtain⟨en,w',fr,⟨v,r,b',F',_,⟨k1,k2,k3⟩,hvr,s'⟩,_⟩:=hsp.2 hb s hrep [];exact⟨r,.set id b',_,w',⟨b',rfl,k1,k2,k3⟩,F',φ,by rw [hx]; exact (s'.weaken (Fr':=fun i=>Fr i/\i≠n+x.i) fun _ h=>h.1).putO hdst hvr⟩
 | callN hw f args ho rd hrd mk b hcall =>
   obtain⟨g',caps,as0,h1,h2,hsp⟩:=hcall;obtain⟨vs,hvf,hrep⟩:=Z3Q s (args:=args.toArray) h1 (by simpa using h2);obtain⟨en,w',fr,⟨v,F',φ',_,hvr,s'⟩,_⟩:=hsp.2 (fun k b0 hk=>(hrd k b0 hk).2) hid s hrep [];exact⟨mk (n+x.i),.new (n+x.i) b,_,w',⟨rfl,rfl⟩,F',φ',by rw [hx]; exact s'.putO hdst hvr⟩
 | callD hw f args ho d hd0 k hzk b b' hbk hcall =>
   obtain⟨g',caps,as0,rest,h1,h2,h3,hpb,hpb',hpr,hsp⟩:=hcall;obtain⟨vs,hvf,hrep⟩:=Z3Q s (args:=args.toArray) h1 (by simpa using h2);rw [h3] at hrep;obtain⟨en,w',fr,⟨v,b2,F',φ',_,⟨k1,rfl⟩,hvr,s'⟩,_⟩:=hsp.run Z47 hpb hpr hid hbk s hrep [];have hdd:o.dst=some d:=by rw [hx] at hd0; exact hd0
   have hnone:h (n+x.i)=none:=by
    cases hq:h (n+x.i) with
    | none=>rfl
    | some bq=>obtain⟨loc,h1,_⟩:=s.live _ bq hq; rw [s.free _ hid] at h1; cases h1
   have s2:St C (fun i=>Fr i/\i≠n+x.i) (Xq e o.dst (.own (n+x.i))) ((h.del k).upd (n+x.i) b2) (a.put o.dst v) w':=⟨F',φ',s'.putO hdst hvr⟩
   rw [hdd] at s2;have s3:=St.frzSlot (k:=d) s2 (Env.upd_same _ _ _) (X0.upd_same _ _ _);rw [Z8d _ _ _ _ hnone] at s3;have e1:(Xq e (some d) (.own (n+x.i))).upd d (.vec b2.elems false)=Xq e (some d) (.vec b2.elems false):=Z8c _ _ _ _;rw [e1] at s3;exact⟨.vec b2.elems false,.drop k,_,w',⟨rfl,rfl⟩,by rw [hx]; show St C _ (Xq e o.dst _) _ _ _; rw [hdd]; exact s3⟩
 | detF hw ha d hd0 zz bytes sx y ho k b mm fl hsx hyx hbk hcond hpp hacc =>
   obtain rfl:op=.append zz bytes sx y:=by rw [hx] at ho; exact ho
   have hdd:o.dst=some d:=by rw [hx] at hd0; exact hd0
   obtain⟨r,val,w',F',φ',_,_,s',hrep⟩:=Z89 hop s hid (p:=.own (n+x.i)) (h':=(h.del k).upd (n+x.i) ⟨b.esz,b.elems++mm⟩) (.inl (by simp only [X1,hsx,hyx,hbk,Y7 hcond]; rfl));have hnone:h (n+x.i)=none:=by
    cases hq:h (n+x.i) with
    | none=>rfl
    | some bq=>obtain⟨loc,h1,_⟩:=s.live _ bq hq; rw [s.free _ hid] at h1; cases h1
   have s1:St C (fun i=>Fr i/\i≠n+x.i) (Xq e o.dst (.own (n+x.i))) ((h.del k).upd (n+x.i) ⟨b.esz,b.elems++mm⟩) _ w':=⟨F',φ',(s'.weaken (Fr':=fun i=>Fr i/\i≠n+x.i) fun i hi=>⟨hi.1,fun _=>hi.2⟩).putO hdst hrep⟩
   rw [hdd] at s1;have s2:=St.frzSlot (k:=d) s1 (Env.upd_same _ _ _) (X0.upd_same _ _ _);rw [Z8d _ _ _ _ hnone] at s2;refine⟨.vec (b.elems++mm) false,.drop k,a.put o.dst val,w',⟨rfl,rfl⟩,?_⟩;rw [hx];show St C _ (Xq e o.dst _) _ (a.put o.dst val) w';rw [hdd];have e1:(Xq e (some d) (.own (n+x.i))).upd d (.vec (b.elems++mm) false)=Xq e (some d) (.vec (b.elems++mm) false):=Z8c _ _ _ _;rw [<- e1];exact s2
 | det hw hn p f hd =>
   have hrun:=hd.run h fun _ _ _=>rfl;have hdf:X1 x.o.op e h (n+x.i)=some (p,f.app h) \/ Xv x.o.op e h (n+x.i)=some (p,f.app h):=by
    unfold X2q at hrun
    split at hrun
    . exact .inr hrun
    . exact .inl hrun
   obtain⟨r,val,w',F',φ',_,_,s',hrep⟩:=Z89 hop s hid (by rw [hx] at hdf; exact hdf);exact⟨p,f,_,w',⟨rfl,rfl⟩,F',φ',by rw [hx]; exact (s'.weaken (Fr':=fun i=>Fr i/\i≠n+x.i) fun i hi=>⟨hi.1,fun _=>hi.2⟩).putO hdst hrep⟩
theorem Zfz {ops:Array Oper} {n:Nat} (hzn:HZ z n) {y:X5} {post:List X5} {K:Env->X0->Prop} (hnc:X6 y.o.op=false):∀ {pre:List X5},(∀ x∈pre,X2u z x y)->(∀ x∈pre,∃ o,X28 P C.nt ops o=some x.o)->(pre.map (·.i)).Nodup ->
 ∀ {Fr:Nat->Prop} {e:Env} {h:X0} {F:XC} {φ:XE} {a:Act} {w:World},St' C Fr e h F φ a w->(∀ x∈pre,Fr (n+x.i))->dK P z n (pre++y :: post) e h K->∃ q g,X25 P z n y e h (fun q' g'=>q'=q/\g'=g):=by
 intro pre
 induction pre with
 | nil =>
   intro _ _ _ Fr e h F φ a w s _ hk;obtain⟨T,hT,_⟩:=hk;cases hT with
   | skip hw=>exact⟨_,_,.skip hw⟩
   | call hw f args ho R hc=>rw [ho] at hnc; simp [X6] at hnc
   | callP hw f args ho=>rw [ho] at hnc; simp [X6] at hnc
   | callN hw f args ho=>rw [ho] at hnc; simp [X6] at hnc
   | callD hw f args ho=>rw [ho] at hnc; simp [X6] at hnc
   | detF hw ha d hd0 zz bytes sx y ho k b mm fl hsx hyx hbk hcond hpp hacc=>exact⟨_,_,.detF hw ha d hd0 zz bytes sx y ho k b mm fl hsx hyx hbk hcond hpp hacc⟩
   | det hw hn p f hd=>exact⟨_,_,.det hw hn p f hd⟩
 | cons x pre ih =>
   intro hall hc hnd Fr e h F φ a w s hfr hk;obtain⟨T,hT,hK⟩:=hk;obtain⟨o,ho⟩:=hc x (by simp);obtain⟨p,f,a',w',hpf,F',φ',s'⟩:=Zfy (ops:=ops) ho hT s (hfr x (by simp));rw [Y1c,Y21] at hnd
   obtain⟨q,g,hy⟩:=ih (fun z hz=>hall z (by simp [hz])) (fun z hz=>hc z (by simp [hz])) hnd.2 s' (fun z hz=>⟨hfr z (by simp [hz]),fun he=>hnd.1 (by
    have:z.i=x.i:=by omega
    rw [<- this]
    exact Y2U hz)⟩) (hK p f hpf)
   exact⟨q,g,(X25.over hzn (hall x (by simp)) hT hpf).1 hy⟩
structure X6h (z:Rsv) (P:Program) (nt:Nat) (ops:Array Oper) (L:List Nat) (rem:List X5) (listed:Array Bool):Prop where
 size:listed.size=ops.size
 mem:∀ j,j<ops.size->(listed.getD j false=false↔∃ x∈rem,x.i=j)
 item:∀ x∈rem,x.i<ops.size/\x.mask=L.getD x.i 0/\∀ o,ops[x.i]?=some o->X28 P nt ops o=some x.o
 ord:rem.Pairwise fun x y=>x.i<y.i/\(y.mask.testBit x.i=false->X2u z x y)
 closed:∀ j,j<ops.size->listed.getD j false=true->∀ k,(L.getD j 0).testBit k=true->listed.getD k false=true
theorem Z5W {listed:Array Bool} {j:Nat} (h:listed.getD j true=false):j<listed.size/\listed.getD j false=false:=by
 simp only [Y0d] at h ⊢;cases hj:listed[j]? with
 | none=>rw [hj] at h; simp at h
 | some b=>rw [hj] at h; exact⟨(Y9.1 hj).1,by simpa using h⟩
theorem ZhG (hok:Xo FN m) {ops:Array Oper} {L:List Nat} (hL:MOk ops L) {n:Nat} (hzn:HZ z n) {K:Env->X0->Prop} {Q:Exit->Act->World->Prop}
 (hQ : ∀ e h a w, K e h -> St C (fun i => n + ops.size <= i) e h a w -> Q .normal a w) : ∀ (fuel : Nat) (rem : List X5) (listed : Array Bool), X6h z P C.nt ops L rem listed -> rem.length <= fuel ->
   ∀ {Fr:Nat->Prop} {e:Env} {h:X0} {a:Act} {w:World},St C Fr e h a w->(∀ x∈rem,Fr (n+x.i))->(∀ i,n+ops.size<=i->Fr i)->dK P z n rem e h K->wpAnyIn FN m P .any ops Q fuel listed a w:=by
 intro fuel;have hdone:∀ (rem:List X5) (listed:Array Bool),X6h z P C.nt ops L rem listed->Region.ready .any ops listed = []->rem = []:=by
  intro rem listed inv hr;cases rem with
  | nil=>rfl
  | cons x xs =>
    exfalso;obtain⟨hxl,hxm,hxo⟩:=inv.item x (by simp);have ho:ops[x.i]?=some ops[x.i]:=Y1r hxl;have hin:x.i∈Region.ready .any ops listed:=by
     rw [Y3K];have h0:=(inv.mem x.i hxl).2 ⟨x,by simp,rfl⟩;refine⟨?_,_,ho,fun ed hed hb=>?_⟩
     . have hlt : x.i < listed.size := by rw [inv.size]; exact hxl
       simpa [Array.getD,hlt] using h0
     . have hlt := hL.lt x.i _ ho ed hed hb;cases hl:listed.getD ed.on false with
       | true=>rfl
       | false =>
         obtain⟨z,hz,hzi⟩:=(inv.mem ed.on (by omega)).1 hl;rcases Ye.1 hz with rfl|hz
         . omega
         . have := (Y1j.1 inv.ord).1 z hz;omega
    rw [hr] at hin;cases hin
 induction fuel with
 | zero =>
   intro rem listed inv hlen Fr e h a w hs hfr hfr2 hk;have hrem:rem = []:=YD (by omega);subst hrem;refine⟨?_,hQ e h a w hk (by obtain⟨F,φ,s⟩:=hs; exact⟨F,φ,s.weaken hfr2⟩)⟩;cases hr:Region.ready .any ops listed with
   | nil=>rfl
   | cons j js =>
     exfalso;have hj:j∈Region.ready .any ops listed:=by rw [hr]; simp
     obtain⟨h0,o,ho,_⟩:=Y3K.1 hj;have hlt:j<ops.size:=(Y9.1 ho).1;obtain⟨x,hx,_⟩:=(inv.mem j hlt).1 (Z5W h0).2;cases hx
 | succ fuel ih =>
   intro rem listed inv hlen Fr e h a w hs hfr hfr2 hk;refine⟨fun hr=>?_,fun i hi=>?_⟩
   . obtain rfl := hdone rem listed inv hr;exact hQ e h a w hk (by obtain⟨F,φ,s⟩:=hs; exact⟨F,φ,s.weaken hfr2⟩)
   . obtain ⟨h0, o, ho, hpre⟩ := Y3K.1 hi;have hlt:i<ops.size:=(Y9.1 ho).1;obtain⟨y,hy,rfl⟩:=(inv.mem i hlt).1 (Z5W h0).2;obtain⟨pre,post,rfl⟩:=List.append_of_mem hy;obtain⟨_,hym,hyo⟩:=inv.item y hy;have hpw:=Y2L.1 inv.ord;have hall:∀ x∈pre,X2u z x y:=by
      intro x hx;have hxy:=hpw.2.2 x hx y (by simp);refine hxy.2 ?_;cases hb:y.mask.testBit x.i with
      | false=>rfl
      | true =>
        exfalso;rw [hym] at hb;obtain⟨ed,hed,hbind,hon⟩:=hL.mem y.i o ho x.i hb;have hl:=hpre ed hed hbind;have hxl:=(inv.item x (by simp [hx])).1;have hxun:=(inv.mem x.i hxl).2 ⟨x,by simp [hx],rfl⟩;rcases hon with hon|hon
        . rw [hon] at hl; rw [hl] at hxun; cases hxun
        . have hedl : ed.on < ops.size := by have := hL.lt y.i o ho ed hed hbind; omega
          have:=inv.closed ed.on hedl hl x.i hon;rw [this] at hxun; cases hxun
     have hnd:((pre++post).map (·.i)).Nodup/\∀ z∈pre++post,z.i≠y.i:=by
      have h1:(pre++y :: post).Pairwise fun x y=>x.i≠y.i:=inv.ord.imp fun h=>by omega
      constructor
      . rw [List.nodup_iff_pairwise_ne, Y1I];exact h1.sublist (Y3H (Y3U _) (Y3m _ _))
      . intro z hz;have h2:=Y2L.1 h1;rcases Y0h.1 hz with hz|hz
        . exact h2.2.2 z hz y (by simp)
        . exact ((Y1j.1 h2.2.1).1 z hz).symm
     have hpnd:(pre.map (·.i)).Nodup:=by
      have:=hnd.1;rw [Y0r] at this;exact (Y3S.1 this).1
     obtain⟨F,φ,s⟩:=hs;have hpull:∃ Ty,X25 P z n y e h Ty/\∀ q g,Ty q g->dK P z n (pre++post) (Xq e y.o.dst q) (g.app h) K:=by
      cases hc:X6 y.o.op with
      | true=>exact Z9y hzn hall hc hk
      | false =>
        obtain⟨q,g,hsem⟩:=Zfz (ops:=ops) hzn hc hall (fun x hx=>by
         obtain⟨h1,_,h3⟩:=inv.item x (by simp [hx])
         exact⟨_,h3 _ (Y1r h1)⟩) hpnd s (fun x hx=>hfr x (by simp [hx])) hk
        refine⟨_,hsem,?_⟩;rintro q' g' ⟨rfl,rfl⟩;exact Zba hzn hall hsem hc hk
     obtain⟨Ty,hsem,hnext⟩:=hpull;refine Zfx hok ho (hyo o ho) hsem s (hfr y (by simp)) fun p f a' w' hpf hs'=>?_;have hne:∀ j,j≠y.i->(listed.setIfInBounds y.i true).getD j false=listed.getD j false:=fun j hj=>by
      simp only [Y0d,Y2Q];rw [Y8 (Y2t hj)]
     have hsame:(listed.setIfInBounds y.i true).getD y.i false=true:=by
      have:y.i<listed.size:=by rw [inv.size]; exact hlt
      simp [Y0d,this]
     refine ih (pre++post) _ ⟨by simpa using inv.size,fun j hj=>?_,fun x hx=>?_,?_,fun j hj hl k hk=>?_⟩ (by simp at hlen ⊢;omega) hs' (fun x hx=>⟨hfr x ?_,fun he=>hnd.2 x hx (by omega)⟩) (fun j hj=>⟨hfr2 j hj,by omega⟩) (hnext p f hpf)
     . by_cases hj' : j = y.i
       . subst hj';rw [hsame];constructor
         . intro h; cases h
         . rintro⟨x,hx,hxi⟩; exact absurd hxi (hnd.2 x hx)
       . rw [hne j hj', inv.mem j hj];constructor
         . rintro ⟨x, hx, hxi⟩;refine⟨x,?_,hxi⟩;rcases Y0h.1 hx with hx|hx
           . exact Y0h.2 (.inl hx)
           . rcases Ye.1 hx with rfl | hx
             . exact absurd hxi.symm hj'
             . exact Y0h.2 (.inr hx)
         . rintro ⟨x, hx, hxi⟩;refine⟨x,?_,hxi⟩;rcases Y0h.1 hx with hx|hx
           . exact Y0h.2 (.inl hx)
           . exact Y0h.2 (.inr (by simp [hx]))
     . refine inv.item x ?_;rcases Y0h.1 hx with hx|hx
       . exact Y0h.2 (.inl hx)
       . exact Y0h.2 (.inr (by simp [hx]))
     . exact inv.ord.sublist (Y3H (Y3U _) (Y3m _ _))
     . by_cases hk' : k = y.i
       . rw [hk']; exact hsame
       . rw [hne k hk'];by_cases hj':j=y.i
         . subst hj';obtain⟨ed,hed,hbind,hon⟩:=hL.mem y.i o ho k hk;have hl':=hpre ed hed hbind;rcases hon with hon|hon
           . rw [<- hon]; exact hl'
           . exact inv.closed ed.on (by have:=hL.lt y.i o ho ed hed hbind;omega) hl' k hon
         . rw [hne j hj'] at hl;exact inv.closed j hj hl k hk
     . rcases Y0h.1 hx with hx | hx
       . exact Y0h.2 (.inl hx)
       . exact Y0h.2 (.inr (by simp [hx]))
def X5.setAlt (alts:List Nat) (x:X5):X5:={ x with alt:=alts.contains x.i }
theorem Z7t {nt:Nat} {ops:Array Oper}:∀ {l:List Oper} {al:List Xm},Xw P nt ops l=some al->al.length=l.length/\∀ (i:Nat) (o:Oper),l[i]?=some o->∃ x,al[i]?=some x/\X28 P nt ops o=some x:=by
 intro l
 induction l with
 | nil =>
   intro al hc;obtain rfl : []=al:=by simpa [Xw] using hc
   exact⟨rfl,fun i o ho=>by simp at ho⟩
 | cons o r ih =>
   intro al hc;simp only [Xw] at hc
   split at hc
   case h_2=>simp at hc
   rename_i ao al' ho hl;obtain rfl:ao :: al'=al:=by simpa using hc
   obtain⟨h1,h2⟩:=ih hl;refine⟨by simp [h1],fun i o' ho'=>?_⟩;cases i with
   | zero => obtain rfl : o = o' := by simpa using ho'
             exact⟨ao,rfl,ho⟩
   | succ i=>exact h2 i o' (by simpa using ho')
theorem ZdQ (hok:Xo FN m) (hm:P.follows .mixedOrders=true) {id:Nat} {ops:Array Oper} {al:List Xm} {L:List Nat} (hc:Xw P C.nt ops ops.toList=some al) (hL:X2r ops L=true) (hp:X2G (XF al L)=true) (hu:X4E z (XF al L)=true)
 {n:Nat} (hzn:HZ z n) (hs:St C (fun i=>n<=i) e h a w) {Q:Exit->Nat->Env->X0->Prop} (alts:List Nat) (hk:dK P z n ((XF al L).map (X5.setAlt alts)) e h fun e h=>Q .normal (n+(XF al L).length) e h):(Code.region id ops true).wpIn FN m P (X3v C Q) a w:=by
 obtain⟨hlen,hget⟩:=Z7t hc;have hdl:(XF al L).length=ops.size:=by simp [XF,hlen]
 have hs':St C (fun i=>n<=i) e h a { w with drawn:=w.drawn+1 }:=by obtain⟨F,φ,s⟩:=hs; exact⟨F,φ,s.drew⟩
 refine wpIn_region_any hm (ZhG (z:=z) hok (Z5B hL) (n:=n) hzn (K:=fun e h=>Q .normal (n+(XF al L).length) e h) (fun e h a w hK hSt=>⟨n+(XF al L).length,e,h,hK,by rw [hdl]; exact hSt⟩) ops.size _ _ ⟨by simp,fun j hj=>?_,fun x hx=>?_,?_,fun j hj hl=>?_⟩ (by simp [hdl]) hs' (fun x _=>Y46 _ _) (fun i hi=>by omega) hk)
 . have hj' : j < al.length := by rw [hlen]; simpa using hj
   constructor
   . intro _;refine⟨X5.setAlt alts ⟨j,al[j],L.getD j 0,X6F al L j,false⟩,?_,rfl⟩;refine Y2U ?_;refine Y0i.2 ⟨(al[j],j),?_,rfl⟩;rw [Y1H];simp [hj']
   . intro _; simp [Y0d,hj]
 . obtain ⟨z, hz, rfl⟩ := Y0i.1 hx;obtain⟨q,hq,rfl⟩:=Y0i.1 hz;have hqg:=Y1H.1 hq;have hql:q.2<al.length:=(Yy.1 hqg).1;refine⟨by simp only [X5.setAlt]; rw [hlen] at hql; simpa using hql,rfl,fun o ho=>?_⟩;obtain⟨x,hx1,hx2⟩:=hget q.2 o (by simpa [X5.setAlt] using ho);rw [hqg] at hx1;cases hx1;exact hx2
 . rw [Y1I];have hsub:(XF al L).Pairwise fun x y=>x.i<y.i:=by
    unfold XF;rw [Y1I];have h2:(al.zipIdx.map Prod.snd).Pairwise (· < ·):=by
     rw [List.zipIdx_map_snd]; exact Y4w
    exact (Y1I.1 h2)
   refine Y38 ?_ hsub;intro x y hx hy hlt;refine⟨hlt,fun hb=>?_⟩;have h1:=YA.1 hp x hx;have h2:=YA.1 h1 y hy;have hblt:Nat.blt x.i y.i=true:=Nat.ble_eq_true_of_le hlt;have hb':y.mask.testBit x.i=false:=hb;simp only [hblt,hb',Y4y,Y3f] at h2;have hi:=Z6g h2 hlt hb' hu hx hy;exact⟨hi.xy,hi.yx,hi.calls,hi.xiso,hi.yiso,hi.xlone,hi.ylone,hi.ne,hi.mx,hi.my,hi.xun,hi.yun,hi.xown,hi.yown⟩
 . simp [Y0d,hj] at hl
end
inductive X3 where
 | skip
 | region (ops:List Xm)
 | draw (l:List X5)
 | seq (a b:X3)
 | cond (c:Operand) (thn els:X3)
 | block (id:Nat) (body:X3)
 | loop (body:X3)
 | exit (id:Nat)
 | ret
 | range (f:Operand) (ps:List Nat) (asg:List (Nat×Operand)) (body:X3)
 | bad
def X2Z:List Oper->Option (List (Nat×Operand))
 | []=>some []
 | o :: r => match o.op, o.guard, o.dst, X2Z r with
   | .move x,none,some d,some l=>some ((d,x) :: l)
   | .assign x,none,some d,some l=>some ((d,x) :: l)
   | _,_,_,_=>none
def X6d:Code->Option (List (Nat×Operand))
 | .skip=>some []
 | .region _ ops false=>X2Z ops.toList
 | _=>none
def Xn (P:Program) (nt:Nat):Code->Option X3
 | .skip=>some .skip
 | .region _ ops draw => match Xw P nt ops ops.toList with
   | some al => match draw with
     | false=>some (.region al)
     | true => match X2r ops (Region.before ops).toList && X2G (XF al (Region.before ops).toList) with
       | true=>some (.draw (XF al (Region.before ops).toList))
       | false=>some .bad
   | none=>some .bad
 | .seq a b => match Xn P nt a, Xn P nt b with
   | some x,some y=>some (.seq x y)
   | _,_=>none
 | .cond c a b => match Xn P nt a, Xn P nt b with
   | some x,some y=>some (.cond c x y)
   | _,_=>none
 | .block id c => match Xn P nt c with
   | some x=>some (.block id x)
   | none=>none
 | .loop c => match Xn P nt c with
   | some x=>some (.loop x)
   | none=>none
 | .exit id=>some (.exit id)
 | .ret=>some .ret
 | .rangeFunc f ps g c => match X6d g, Xn P nt c with
   | some l,some x=>if ps.toList.all (· < nt)&&l.all (·.1<nt) then some (.range f ps.toList l x) else none
   | _,_=>none
 | _=>some .bad
def X4l (FN:Fence) (C:Ctx):Prop:=∀ l,FN.round=some l->(∃ r,C.w0.heap[l]?=some (.loop r))/\¬ C.G l
def aw (P:Program) (C:Ctx) (ac:X3) (Q:Exit->Nat->Env->X0->Prop) (n:Nat) (e:Env) (h:X0):Prop :=
 P.follows .mixedOrders=true->∀ (FN:Fence) (m:Nat),Xo FN m/\X4l FN C->∀ c,Xn P C.nt c=some ac->∀ a w,St C (fun i=>n<=i) e h a w->c.wpIn FN m P (X3v C Q) a w
def X3w (next:Nat->Env->X0->Prop) (Q:Exit->Nat->Env->X0->Prop):Exit->Nat->Env->X0->Prop
 | .normal=>next
 | x=>Q x
def X4Z (id:Nat) (Q:Exit->Nat->Env->X0->Prop):Exit->Nat->Env->X0->Prop
 | .exit id'=>bif Nat.beq id' id then Q .normal else Q (.exit id')
 | x=>Q x
noncomputable def least (p:Nat->Prop):Nat:=open Classical in if h:∃ k,p k/\∀ j,p j->k<=j then Classical.choose h else 0
theorem Z3S {p:Nat->Prop} {k:Nat} (hk:p k):p (least p)/\least p<=k:=by
 have hex:∃ k,p k/\∀ j,p j->k<=j:=by
  induction k using Nat.strongRecOn with
  | _ k ih =>
    by_cases h:∃ j,j<k/\p j
    . obtain ⟨j, hj, hpj⟩ := h;exact ih j hj hpj
    . exact ⟨k, hk, fun j hj => by
       rcases Y32 j k with h' | h'
       . exact absurd ⟨j,h',hj⟩ h
       . exact h'⟩
 unfold least;rw [dif_pos hex];exact⟨(Classical.choose_spec hex).1,(Classical.choose_spec hex).2 k hk⟩
section
variable {P:Program} {C:Ctx} {Q:Exit->Nat->Env->X0->Prop} {n:Nat} {e:Env} {h:X0}
theorem Z8e {ac:X3} {Q':Exit->Nat->Env->X0->Prop} (hk:aw P C ac Q n e h) (hq:∀ x n e h,Q x n e h->Q' x n e h):aw P C ac Q' n e h :=
 fun hm FN m hok c hc a w hs=>Y2b (hk hm FN m hok c hc a w hs) fun x a w ⟨n,e,h,hQ,hS⟩=>⟨n,e,h,hq _ _ _ _ hQ,hS⟩
theorem Z1p {ac:X3} {n':Nat} {e':Env} {h':X0} (hs:Sub C n e h n' e' h') (hk:aw P C ac Q n' e' h'):aw P C ac Q n e h :=
 fun hm FN m hok c hc a w hst=>hk hm FN m hok c hc a w (hs a w hst)
theorem Zbc (hk:Q .normal n e h):aw P C .skip Q n e h:=by
 intro hm FN m hok c hc a w hs;have:c=.skip:=by
  unfold Xn at hc
  split at hc<;>first|rfl|(simp at hc; done)|((repeat' (split at hc))<;>simp at hc)
 subst this;exact wpIn_skip ⟨n,e,h,hk,hs⟩
theorem Zbd {id:Nat} (hk:Q (.exit id) n e h):aw P C (.exit id) Q n e h:=by
 intro hm FN m hok c hc a w hs;have:c=.exit id:=by
  unfold Xn at hc
  split at hc<;>first|(simp at hc; subst hc; rfl)|(simp at hc; done)|((repeat' (split at hc))<;>simp at hc)
 subst this;exact wpIn_exit ⟨n,e,h,hk,hs⟩
theorem ZfA (hk:Q .ret n e h):aw P C .ret Q n e h:=by
 intro hm FN m hok c hc a w hs;have:c=.ret:=by
  unfold Xn at hc
  split at hc<;>first|rfl|(simp at hc; done)|((repeat' (split at hc))<;>simp at hc)
 subst this;exact wpIn_ret ⟨n,e,h,hk,hs⟩
theorem Zn {x y:X3} (hk:aw P C x (X3w (aw P C y Q) Q) n e h):aw P C (.seq x y) Q n e h:=by
 intro hm FN m hok c hc a w hs;have:∃ c1 c2,c=.seq c1 c2/\Xn P C.nt c1=some x/\Xn P C.nt c2=some y:=by
  unfold Xn at hc
  split at hc<;>first
   | (split at hc<;>first|(simp at hc; obtain⟨rfl,rfl⟩:=hc; exact⟨_,_,rfl,by assumption,by assumption⟩)|(simp at hc; done)|((repeat' (split at hc))<;>simp at hc; done))
   | (simp at hc; done)
 obtain⟨c1,c2,rfl,h1,h2⟩:=this;refine wpIn_seq (Y2b (hk hm FN m hok c1 h1 a w hs) fun x a w ⟨n,e,h,hQ,hS⟩=>?_);cases x with
 | normal=>exact hQ hm FN m hok c2 h2 a w hS
 | _=>exact⟨n,e,h,hQ,hS⟩
theorem Z8f {c:Operand} {x y:X3} {b:Bool} (hc:ev e c=some (.val (.bool b))) (ht:b=true->aw P C x Q n e h) (hf:b=false->aw P C y Q n e h):aw P C (.cond c x y) Q n e h:=by
 intro hm FN m hok cc hcc a w hs;have:∃ c1 c2,cc=.cond c c1 c2/\Xn P C.nt c1=some x/\Xn P C.nt c2=some y:=by
  unfold Xn at hcc
  split at hcc<;>first
   | (split at hcc<;>first|(simp at hcc; obtain⟨rfl,rfl,rfl⟩:=hcc; exact⟨_,_,rfl,by assumption,by assumption⟩)|(simp at hcc; done)|((repeat' (split at hcc))<;>simp at hcc; done))
   | (simp at hcc; done)
 obtain⟨c1,c2,rfl,h1,h2⟩:=this;obtain⟨F,φ,s⟩:=hs;refine Y3p (s.eval hc).val_inv (fun hb=>ht hb hm FN m hok c1 h1 a w ⟨F,φ,s⟩) (fun hb=>hf hb hm FN m hok c2 h2 a w ⟨F,φ,s⟩)
theorem Z8g {id:Nat} {x:X3} (hk:aw P C x (X4Z id Q) n e h):aw P C (.block id x) Q n e h:=by
 intro hm FN m hok c hc a w hs;have:∃ c1,c=.block id c1/\Xn P C.nt c1=some x:=by
  unfold Xn at hc
  split at hc<;>first
   | (split at hc<;>first|(simp at hc; obtain⟨rfl,rfl⟩:=hc; exact⟨_,rfl,by assumption⟩)|(simp at hc; done)|((repeat' (split at hc))<;>simp at hc; done))
   | (simp at hc; done)
 obtain⟨c1,rfl,h1⟩:=this;refine wpIn_block (Y2b (hk hm FN m hok c1 h1 a w hs) fun x a w ⟨n,e,h,hQ,hS⟩=>?_);cases x with
 | exit id' =>
   simp only [X4Z] at hQ;simp only [Exit.inBlock];by_cases hid:id'=id
   . subst hid;have hb:Nat.beq id' id'=true:=by simp
     rw [hb] at hQ;rw [Y7 rfl];exact⟨n,e,h,hQ,hS⟩
   . have hb : Nat.beq id' id = false := YK.2 fun hb => hid (Yw hb);rw [hb] at hQ;rw [Y8 hid];exact⟨n,e,h,hQ,hS⟩
 | _=>exact⟨n,e,h,hQ,hS⟩
theorem Z8h {X:Type} (I:X->Prop) (μ:X->Nat) (N:X->Nat) (E:X->Env) (H:X->X0) {body:X3} (x0:X) (h0:I x0) (hs0:Sub C n e h (N x0) (E x0) (H x0))
 (round:∀ x,I x->aw P C body (X3w (fun n e h=>∃ x',I x'/\μ x'<μ x/\Sub C n e h (N x') (E x') (H x')) Q) (N x) (E x) (H x)):aw P C (.loop body) Q n e h:=by
 intro hm FN m hok c hc a w hs;have:∃ c1,c=.loop c1/\Xn P C.nt c1=some body:=by
  unfold Xn at hc
  split at hc<;>first
   | (split at hc<;>first|(simp at hc; subst hc; exact⟨_,rfl,by assumption⟩)|(simp at hc; done)|((repeat' (split at hc))<;>simp at hc; done))
   | (simp at hc; done)
 obtain⟨c1,rfl,h1⟩:=this
 let p:Act->World->Nat->Prop:=fun a w k=>∃ x,I x/\μ x=k/\St C (fun i=>N x<=i) (E x) (H x) a w
 refine wpIn_loop (fun a w=>∃ k,p a w k) (fun a w=>least (p a w)) ⟨_,x0,h0,rfl,hs0 a w hs⟩ ?_;rintro a w ⟨k,hk⟩;obtain⟨⟨x,hx,hxk,hst⟩,_⟩:=Z3S hk;refine Y2b (round x hx hm FN m hok c1 h1 a w hst) fun ex a' w' ⟨n',e',h',hQ,hS⟩=>?_;cases ex with
 | normal =>
   obtain⟨x',hx',hlt,hsub⟩:=hQ;have hp':p a' w' (μ x'):=⟨x',hx',rfl,hsub a' w' hS⟩
   refine⟨⟨_,hp'⟩,?_⟩;have:=(Z3S hp').2;omega
 | _=>exact⟨n',e',h',hQ,hS⟩
theorem Z8 {al:List Xm} (hk:Xj P al n e h (fun n e h=>Q .normal n e h)):aw P C (.region al) Q n e h:=by
 intro hm FN m hok c hc a w hs;have:∃ id ops,c=.region id ops false/\Xw P C.nt ops ops.toList=some al:=by
  unfold Xn at hc
  split at hc<;>first
   | (simp at hc; done)
   | (split at hc
      . split at hc
        . simp at hc; subst hc; exact⟨_,_,rfl,by assumption⟩
        . split at hc<;>simp at hc
      . simp at hc)
   | (split at hc<;>simp at hc; done)
   | ((repeat' (split at hc))<;>simp at hc; done)
 obtain⟨id,ops,rfl,h1⟩:=this;exact Z9w hok.1 h1 hs hk
theorem Z8i {l:List X5} (z:Rsv) (hu:X4E z l=true) (hzn:HZ z n) (alts:List Nat) (hk:dK P z n (l.map (X5.setAlt alts)) e h fun e h=>Q .normal (n+l.length) e h):aw P C (.draw l) Q n e h:=by
 intro hm FN m hok c hc a w hs;have:∃ id ops al,c=.region id ops true/\Xw P C.nt ops ops.toList=some al/\X2r ops (Region.before ops).toList=true/\X2G (XF al (Region.before ops).toList)=true/\XF al (Region.before ops).toList=l:=by
  unfold Xn at hc
  split at hc<;>first
   | (simp at hc; done)
   | (split at hc
      . split at hc
        . simp at hc
        . split at hc
          . rename_i hb;rw [Y0k] at hb;simp at hc; exact⟨_,_,_,rfl,by assumption,hb.1,hb.2,hc⟩
          . simp at hc
      . simp at hc)
   | (split at hc<;>simp at hc; done)
   | ((repeat' (split at hc))<;>simp at hc; done)
 obtain⟨id,ops,al,rfl,h1,h2,h3,rfl⟩:=this;exact ZdQ hok.1 hm h1 h2 h3 hu hzn hs alts hk
theorem Z18 {l:List X5} (alts:List Nat) (hk:dK P .no n (l.map (X5.setAlt alts)) e h fun e h=>Q .normal (n+l.length) e h):aw P C (.draw l) Q n e h:=Z8i .no rfl (fun _ h=>by cases h) alts hk
theorem Z8j {l:List X5} (alts:List Nat) (grp:List (Nat×Nat)) (un:List Nat) (hu:X4E ⟨none,grp,un,none⟩ l=true) (hk:dK P ⟨none,grp,un,none⟩ n (l.map (X5.setAlt alts)) e h fun e h=>Q .normal (n+l.length) e h):aw P C (.draw l) Q n e h:=Z8i _ hu (fun _ h=>by cases h) alts hk
theorem Z4D {l:List X5} (alts:List Nat) (id:Nat) (hid:id<n) (hk:dK P (.to id) n (l.map (X5.setAlt alts)) e h fun e h=>Q .normal (n+l.length) e h):aw P C (.draw l) Q n e h:=Z8i (.to id) rfl (fun i h=>.inl (by cases h; exact hid)) alts hk
end
inductive X2o where
 | tmp (t:Nat)
 | cell (t:Nat) (agg:Bool) (size:Nat)
def X6k (P:Program):ResultVar->Option X2o
 | .tmp t=>some (.tmp t)
 | .cell a t => match XY P t with
   | some l=>some (.cell a l.1 l.2)
   | none=>none
def X2Y (P:Program):List ResultVar->Option (List X2o)
 | []=>some []
 | r :: l => match X6k P r, X2Y P l with
   | some x,some xs=>some (x :: xs)
   | _,_=>none
def X6K (e:Env) (h:X0):X2o->Option PV
 | .tmp t=>e t
 | .cell a agg size => match X1 (.load agg size (.tmp a)) e h 0 with
   | some (p,_)=>some p
   | none=>none
def X3X (e:Env) (h:X0):List X2o->Option (List PV)
 | []=>some []
 | r :: l => match X6K e h r, X3X e h l with
   | some x,some xs=>some (x :: xs)
   | _,_=>none
def XW (rs:List X2o) (e:Env) (h:X0):Option PV :=
 match X3X e h rs with
 | some [p]=>some p
 | some l=>some (.tup l)
 | none=>none
def X7h (rs:List X2o) (R:PV->Prop):Exit->Nat->Env->X0->Prop
 | .normal,_,e,h=>∃ r0 r,XW rs e h=some r0/\LoP r0 r/\r.pure/\R r
 | .ret,_,e,h=>∃ r0 r,XW rs e h=some r0/\LoP r0 r/\r.pure/\R r
 | _,_,_,_=>False
def X46 (P:Program) (f nt:Nat) (ac:X3) (rs:List X2o):Prop :=
 P.follows .mixedOrders = true/\∃ fn c,P.funcs[f]? = some fn/\(fn.name == "runtime.NumGoroutine") = false/\fn.body = some c/\fn.ntmps = nt/\Xn P nt c = some ac/\X2Y P fn.results.toList = some rs
def X4B (P:Program) (nt:Nat):Option Code->Option X3
 | some c=>Xn P nt c
 | none=>none
theorem Zg {P : Program} {f nt : Nat} {fn : Func} {ac : X3} {rs : List X2o} (hm : P.follows .mixedOrders = true) (hf : P.funcs[f]? = some fn) (hn : (fn.name == "runtime.NumGoroutine") = false) (hnt : fn.ntmps = nt) (hc : X4B P nt fn.body = some ac) (hr : X2Y P fn.results.toList = some rs) : X46 P f nt ac rs := by
 refine⟨hm,fn,?_⟩;cases hb:fn.body with
 | none=>rw [hb] at hc; cases hc
 | some c=>exact⟨c,hf,hn,rfl,hnt,by rw [hb] at hc; exact hc,hr⟩
def Ctx.dom (C:Ctx) (n:Nat):Prop:=∀ i,n<=i->C.φ0 i=none
def X1k (args:List PV):Env:=fun k=>args[k]?
section
variable {P:Program} {C:Ctx} {Fr:Nat->Prop} {e:Env} {h:X0} {F:XC} {φ:XE} {a:Act} {w:World}
theorem ZhH (s:St' C Fr e h F φ a w) {id:Nat} {t:TypeId} {agg:Bool} {size:Nat} (hlay:XY P t=some (agg,size)) {x:Operand} {p:PV} {h':X0} (hd:X1 (.load agg size x) e h id=some (p,h')) :
 ∃ ad val,a.eval x=.pointer (some ad)/\(loadVar t ad).run P w=.ok val w/\Rep F φ val p:=by
 simp only [X1] at hd
 split at hd
 . rename_i l hl
   split at hd
   . rename_i q hq;cases hd;obtain⟨ad,hv,hs,hc⟩:=X3p s (s.eval hl);have hle:=Z5V hq;obtain⟨val,hr,hrep⟩:=Z4x (w:=w) hlay hs hq (fun j hj=>by simpa using hc j (by omega));exact⟨ad,val,hv,hr,hrep⟩
   . simp at hd
 . rename_i k i off hl
   split at hd
   . rename_i b hb
     split at hd
     case isFalse=>simp at hd
     rename_i hi
     split at hd
     . rename_i q hq;cases hd;obtain⟨loc,ad,hloc,hz,hbase,hs,hv⟩:=(s.eval hl).ptr_inv;have hle:=Z5V hq;obtain⟨loc',h1,h2,_⟩:=s.live k b hb;obtain rfl:loc'=loc:=by rw [h1] at hloc; simpa using hloc
       have h2:=h2.cells hz;have hel:(b.elems.getD i []).length=b.esz:=by
        rw [h2.esz];refine h2.el _ ?_;simp [Y0b,hi]
       obtain⟨val,hr,hrep⟩:=Z4x (w:=w) (ad:=⟨ad.block,ad.off+(i*loc'.esz+off),none⟩) hlay rfl hq (fun j hj=>by
        have:=s.objCell hb hloc hi (j:=off+j) (by omega) hbase;rw [show ad.off+(i*loc'.esz+(off+j))=ad.off+(i*loc'.esz+off)+j by omega] at this
        exact this)
       exact⟨_,val,hv,hr,hrep⟩
     . simp at hd
   . simp at hd
 . simp at hd
def X3z (P:Program) (tmps:Array Value):ResultVar->Sem Value
 | .tmp t=>Pure.pure (tmps.getD t undef)
 | .cell a t=>do loadVar t (<- asAddr (tmps.getD a undef))
theorem ZhI (s:St' C Fr e h F φ a w) {r:ResultVar} {x:X2o} (hr:X6k P r=some x) {p:PV} (hp:X6K e h x=some p):∃ v,(X3z P a.tmps r).run P w=.ok v w/\Rep F φ v p:=by
 cases r with
 | tmp t =>
   obtain rfl:X2o.tmp t=x:=by simpa [X6k] using hr
   exact⟨_,rfl,(s.env t p hp).2⟩
 | cell c t =>
   simp only [X6k] at hr
   split at hr
   . rename_i l hl;obtain rfl:X2o.cell c l.1 l.2=x:=by simpa using hr
     simp only [X6K] at hp
     split at hp
     . rename_i q h' hq;cases hp;obtain⟨ad,val,hv,hrun,hrep⟩:=ZhH (P:=P) s hl hq;have hv':a.tmps.getD c undef=.pointer (some ad):=hv;exact⟨val,by simp [X3z,hv',asAddr,hrun],hrep⟩
     . simp at hp
   . simp at hr
theorem ZfB (s:St' C Fr e h F φ a w):∀ {rs:List ResultVar} {xs:List X2o} {ps:List PV},X2Y P rs=some xs->X3X e h xs=some ps->∃ vs:List Value,(rs.mapM (X3z P a.tmps)).run P w=.ok vs w/\vs.length=ps.length/\∀ i,i<ps.length->Rep F φ (vs.getD i undef) (ps.getD i pvu):=by
 intro rs
 induction rs with
 | nil =>
   intro xs ps hx hp;obtain rfl : []=xs:=by simpa [X2Y] using hx
   obtain rfl : []=ps:=by simpa [X3X] using hp
   exact⟨[],rfl,rfl,fun i hi=>by simp at hi⟩
 | cons r rs ih =>
   intro xs ps hx hp;simp only [X2Y] at hx
   split at hx
   case h_2=>simp at hx
   rename_i x xs' h1 h2;obtain rfl:x :: xs'=xs:=by simpa using hx
   simp only [X3X] at hp
   split at hp
   case h_2=>simp at hp
   rename_i p ps' h3 h4;obtain rfl:p :: ps'=ps:=by simpa using hp
   obtain⟨v,hv,hrep⟩:=ZhI s h1 h3;obtain⟨vs,hvs,hl,hreps⟩:=ih h2 h4;refine⟨v :: vs,by simp [hv,hvs],by simp [hl],fun i hi=>?_⟩;cases i with
   | zero=>simpa using hrep
   | succ i=>simpa using hreps i (by simpa using hi)
theorem Z7u (fn:Func) (tmps:Array Value):results fn tmps=(do let vs <- fn.results.mapM (X3z P tmps); Pure.pure (if h:vs.size=1 then vs[0] else .tuple vs)):=by
 unfold results;congr 1
theorem Z7v (s:St' C Fr e h F φ a w) {fn:Func} {rs:List X2o} (hr:X2Y P fn.results.toList=some rs) {p:PV} (hp:XW rs e h=some p):∃ v,(results fn a.tmps).run P w=.ok v w/\Rep F φ v p:=by
 unfold XW at hp;have main:∀ ps,X3X e h rs=some ps->∃ vs:List Value,(fn.results.mapM (X3z P a.tmps)).run P w=.ok vs.toArray w/\vs.length=ps.length/\∀ i,i<ps.length->Rep F φ (vs.getD i undef) (ps.getD i pvu):=by
  intro ps hps;obtain⟨vs,h1,h2,h3⟩:=ZfB s hr hps;exact⟨vs,by rw [Y4p]; simp [h1],h2,h3⟩
 split at hp
 . rename_i q hq;cases hp;obtain⟨vs,h1,h2,h3⟩:=main _ hq;obtain⟨v,rfl⟩:∃ v,vs = [v]:=by
    cases vs with
    | nil=>simp at h2
    | cons v r => cases r with
      | nil=>exact⟨v,rfl⟩
      | cons _ _=>simp at h2
   exact⟨v,by rw [Z7u (P:=P),YT,h1]; simp,by simpa using h3 0 (by simp)⟩
 . rename_i ps hne hq;cases hp;obtain⟨vs,h1,h2,h3⟩:=main _ hq;refine⟨.tuple vs.toArray,?_,.tup _ _ (by simp [h2]) fun i hi=>?_⟩
   . have hne1 : vs.length ≠ 1 := by
      intro hl;rw [hl] at h2;cases ps with
      | nil=>simp at h2
      | cons p r => cases r with
        | nil=>exact hne p rfl
        | cons _ _=>simp at h2
     rw [Z7u (P:=P),YT,h1];simp [hne1]
   . have := h3 i hi;simpa [Y0d,Y0b] using this
 . simp at hp
theorem St'.turned (s:St' C Fr e h F φ a w) {w':World} {row:Option Nat} (hg:w.grownBy w' row) (hrow:∀ r,row=some r->C.w0.heap.size<=r/\∃ o:Obj,w.heap[r]?=some o/\o.isCells=false) (hrm:(∀ i b,h i=some b->0<b.esz) \/ ∀ r es t,row=some r->¬ w.heap[r]?=some (.map es t)) {a':Act} (ht:a'.tmps=a.tmps) (hm:X2f C.w0.heap.size a' w'):St' C Fr e h F φ a' w':=by
 have hrow':∀ r,row=some r->∃ o:Obj,w.heap[r]?=some o/\o.isCells=false:=fun r hr=>(hrow r hr).2
 refine { nt := by rw [ht]; exact s.nt, glob := s.glob, marks := hm, loc0 := s.loc0, free := s.free, env := fun k p hp => by rw [ht]; exact s.env k p hp, froz := fun x v hx => ?_, ext := s.ext, old := s.old, os := hg.os.trans s.os, tape := hg.tape.trans s.tape, output := hg.output.trans s.output,
          size:=Y03 s.size hg.size,kept:=fun k hk hG=>?_,live:=fun i b hb=>?_,sep:=s.sep }
 . obtain ⟨h1, h2, h3⟩ := s.froz x v hx;exact⟨h1,h2,cell_kept h3 hg hrow'⟩
 . rw [hg.block k (YW hk s.size) (fun e => by have := (hrow k e.symm).1; omega)];exact s.kept k hk hG
 . obtain ⟨loc, h1, h2, h3⟩ := s.live i b hb;rcases h2 with h2|h2
   . refine ⟨loc, h1, .inl (h2.mono (fun _ _ h => h) (fun _ _ h => h) fun k hk => ?_), h3⟩;obtain⟨hc,x,hx,rfl⟩:=hk;obtain⟨y,hy,_,cells,t,hgy,_⟩:=h2.room hc;obtain rfl:y=x:=by rw [hy] at hx; simpa using hx
     exact grownBy_keeps_cells hg hrow' hgy rfl
   . refine ⟨loc, h1, .inr (h2.mono (fun _ _ h => h) (fun _ _ h => h) fun k hk => ?_), h3⟩;obtain⟨hc,x,hx,rfl⟩:=hk;obtain⟨y,hy,es,t,hgy,_⟩:=h2.room;obtain rfl:y=x:=by rw [hy] at hx; simpa using hx
     refine hg.block y.block (Y9.1 hgy).1 fun he=>?_;rcases hrm with hrm|hrm
     . have:=hrm i b hb; have:=h2.esz; omega
     . exact hrm y.block es t he.symm hgy
theorem Z3r {FN:Fence} {m:Nat} {fn:Func} {tmps:Array Value} {R:Ending->World->Prop}:∀ (ds:List Deferred) {a:Act} {w:World},a.defers=ds->a.tmps=tmps->St' C Fr e h F φ a w->(∀ a' w',St' C Fr e h F φ a' w'->a'.tmps=tmps->∃ v,(results fn tmps).run P w'=.ok v w'/\R (.returned v) w') ->
 LeavesInM FN m P fn tmps R ds .returning w
 | [],a,w,hd,ht,s,hk=>hk a w s ht
 | d :: ds, a, w, hd, ht, s, hk => by
   obtain⟨D,rfl,hD,hw⟩:=s.marks.all d (by rw [hd]; simp);have hnd:=s.marks.nd;rw [hd,Y21] at hnd;refine⟨by simp,.inl ⟨D,_,rfl,run_takeDeferred hw,?_⟩⟩;have hm:X2f C.w0.heap.size { a with defers:=ds } (w.putObj D (.deferred none)):=by
    refine⟨hnd.2,fun d' hd'=>?_⟩;obtain⟨D',e1,e2,e3⟩:=s.marks.all d' (by rw [hd]; simp at hd' ⊢; exact .inr hd');refine⟨D',e1,e2,?_⟩;have hne:D'≠D:=by
     rintro rfl;exact hnd.1 (by rw [<- e1]; exact hd')
    exact (Y4s hne).trans e3
   exact Z3r ds (a:={ a with defers:=ds }) rfl ht (s.turned (grownBy_putObj' w D _) (fun r hr=>by cases hr; exact⟨hD,_,hw,rfl⟩) (.inr fun r es t hr h=>by cases hr; rw [hw] at h; cases h) rfl hm) hk
theorem Z2 {f nt:Nat} {ac:X3} {rs:List X2o} (hf:X46 P f nt ac rs) {args:List PV} {R:PV->Prop} (hn:args.length<=nt) (hk:∀ C:Ctx,C.dom 0->aw P C ac (X7h rs R) 0 (X1k args) (fun _=>none)):X7 P f args R:=by
 obtain⟨hm,fn,c,hfn,hname,hb,rfl,hc,hr⟩:=hf;refine⟨⟨fn,hfn,hname,by rw [hb]; rfl⟩,fun F w vs hF hv=>?_⟩;refine (callsIn_wide (n:=0)).1 (callsIn_of_wp_marks hfn hb Yt ?_ rfl)
 let C:Ctx:=⟨w,fun _=>False,F,fn.ntmps,fun _=>none⟩
 have hsz:vs.size=args.length:=hv.1;have s0:St' C (fun i=>0<=i) (X1k args) (fun _=>none) F Xz { tmps:=vs++Array.replicate (fn.ntmps-vs.size) undef,defers := [] } w:=by
  refine { nt := (by simp [C]; omega), glob := hF.2, marks := X2f.nil rfl, loc0 := fun i x hx => (by cases hx), free := fun _ _ => rfl, env := fun k p hp => ?_, froz := hF.1, ext := fun _ _ h => h, old := fun _ _ _ => rfl, os := rfl, tape := rfl, output := rfl, size := Y0m _, kept := fun _ _ _ => rfl,
           live:=fun id b hb=>(by cases hb),sep:=fun i j bi bj li lj k hi=>(by cases hi) }
  have hk:k<args.length:=(Yy.1 hp).1;refine⟨by simp [C]; omega,?_⟩;have:=hv.2 k hk;have e1:(vs++Array.replicate (fn.ntmps-vs.size) undef).getD k undef=vs.getD k undef:=by
   simp only [Y0d];rw [YP (by omega)]
  have e2:args.getD k pvu=p:=by
   rw [Y0b];have hp':args[k]?=some p:=hp;rw [hp']; rfl
  rw [e1,<- e2];exact this
 refine Y2b (hk C (fun _ _=>rfl) hm Fence.wide 0 ⟨Z5z 0,fun l hl=>by cases hl⟩ c hc _ w ⟨F,Xz,s0⟩) fun x a' w' ⟨n,e,h,hQ,F',φ',s⟩=>?_;have fin:(∃ r0 r,XW rs e h=some r0/\LoP r0 r/\r.pure/\R r)->LeavesInM Fence.wide 0 P fn a'.tmps (fun e w'=>∃ v' r F',e=.returned v'/\R r/\Rep F' Xz v' r/\Below w.heap.size w w'/\Holds F' w'/\(∀ x u,F x=some u->F' x=some u)/\∀ x:Addr,x.block<w.heap.size->F' x=F x) a'.defers .returning w':=by
  rintro⟨r0,r,h0,hlo,hpure,hR⟩;refine Z3r a'.defers rfl rfl s fun a2 w2 s2 ht=>?_;obtain⟨v,hrun,hrep⟩:=Z7v s2 hr h0;rw [ht] at hrun;exact⟨v,hrun,v,r,F',rfl,hR,(hlo.rep hrep).pure hpure,⟨s2.os,s2.tape,s2.output,s2.size,fun k hk=>s2.kept k hk fun h=>h⟩,⟨s2.froz,s2.glob⟩,s2.ext,fun x hx=>s2.old x hx fun h=>h⟩
 cases x with
 | normal=>exact fin hQ
 | ret=>exact fin hQ
 | _=>exact hQ.elim
def X68 (rs:List X2o) (R:Nat->PV->X0->Prop):Exit->Nat->Env->X0->Prop
 | .normal,n,e,h=>∃ r0 r,XW rs e h=some r0/\LoP r0 r/\R n r h
 | .ret,n,e,h=>∃ r0 r,XW rs e h=some r0/\LoP r0 r/\R n r h
 | _,_,_,_=>False
theorem ZX {f nt:Nat} {ac:X3} {rs:List X2o} (hf:X46 P f nt ac rs) {n:Nat} {args:List PV} {h:X0} {R:Nat->PV->X0->Prop} (hn:args.length<=nt) (hk:∀ C:Ctx,C.dom n->aw P C ac (X68 rs R) n (X1k args) h):Xp P f n args h R:=by
 obtain⟨hm,fn,c,hfn,hname,hb,rfl,hc,hr⟩:=hf;refine⟨⟨fn,hfn,hname,by rw [hb]; rfl⟩,fun C e F φ a w vs s hv=>?_⟩;refine (callsIn_wide (n:=0)).1 (callsIn_of_wp_marks hfn hb Yt ?_ rfl)
 let C':Ctx:=⟨w,fun k=>∃ i b loc,h i=some b/\φ i=some loc/\loc.has k,F,fn.ntmps,φ⟩
 have hG:∀ k,C'.G k->C.w0.heap.size<=k \/ C.G k:=by
  rintro k ⟨i,b,loc,hi,hl,hk⟩;obtain⟨loc',h1,h2,h3⟩:=s.live i b hi;obtain rfl:loc'=loc:=by rw [h1] at hl; simpa using hl
  exact (h3 k hk).1
 have hcells:∀ k,C'.G k->¬ w.heap[k]?=some (.deferred (some [])):=by
  rintro k ⟨i,b,loc,hi,hl,hk⟩ ho;obtain⟨loc',h1,h2,_⟩:=s.live i b hi;obtain rfl:loc'=loc:=by rw [h1] at hl; simpa using hl
  rcases h2.there hk with⟨cells,t,hg⟩|⟨es,t,hg⟩
  . rw [hg] at ho; cases ho
  . rw [hg] at ho; cases ho
 have hsz:vs.size=args.length:=hv.1;have s0:St' C' (fun i=>n<=i) (X1k args) h F φ { tmps:=vs++Array.replicate (fn.ntmps-vs.size) undef,defers := [] } w:=by
  refine { nt := (by simp [C']; omega), glob := s.glob, marks := X2f.nil rfl, loc0 := fun i x hx => hx, free := s.free, env := fun k p hp => ?_, froz := s.froz, ext := fun _ _ h => h, old := fun _ _ _ => rfl, os := rfl, tape := rfl, output := rfl, size := Y0m _, kept := fun _ _ _ => rfl,
           live:=fun id b hb=>?_,sep:=s.sep }
  . have hk : k < args.length := (Yy.1 hp).1;refine⟨by simp [C']; omega,?_⟩;have:=hv.2 k hk;have e1:(vs++Array.replicate (fn.ntmps-vs.size) undef).getD k undef=vs.getD k undef:=by
     simp only [Y0d];rw [YP (by omega)]
    have e2:args.getD k pvu=p:=by
     rw [Y0b];have hp':args[k]?=some p:=hp;rw [hp']; rfl
    rw [e1,<- e2];exact this
  . obtain ⟨loc, h1, h2, h3⟩ := s.live id b hb;exact⟨loc,h1,h2,fun k hk=>⟨.inr ⟨id,b,loc,hb,h1,hk⟩,(h3 k hk).2⟩⟩
 refine Y2b (hk C' s.free hm Fence.wide 0 ⟨Z5z 0,fun l hl=>by cases hl⟩ c hc _ w ⟨F,φ,s0⟩) fun x a' w' ⟨n',e',h',hQ,F',φ',s'⟩=>?_;have back:∀ {a2:Act} {w':World},St' C' (fun i=>n'<=i) e' h' F' φ' a2 w'->St' C (fun i=>n'<=i) e h' F' φ' a w':=fun {a2 w'} s'=>by
  refine { nt := s.nt, glob := s'.glob, marks := s.marks.mono (fun k hk => by rw [s'.kept k (Y9.1 hk).1 (fun hg => hcells k hg hk)]; exact hk), loc0 := fun i x hx => s'.loc0 i x (s.loc0 i x hx), free := s'.free, env := fun k p hp => ⟨(s.env k p hp).1, (s.env k p hp).2.mono s'.ext s'.loc0⟩, froz := s'.froz, ext := fun x v hx => s'.ext _ _ (s.ext x v hx),
           old:=fun x hx hg=>?_,os:=s'.os.trans s.os,tape:=s'.tape.trans s.tape,output:=s'.output.trans s.output,size:=Y03 s.size s'.size,kept:=fun k hk hg=>?_,live:=fun i b hi=>?_,sep:=s'.sep }
  . have hx2 : x.block < w.heap.size := YW hx s.size;rw [s'.old x hx2 fun hg'=>(hG _ hg').elim (fun h1=>absurd hx (Y2R.2 h1)) hg];exact s.old x hx hg
  . rw [s'.kept k (YW hk s.size) fun hg' => (hG _ hg').elim (fun h1 => absurd hk (Y2R.2 h1)) hg];exact s.kept k hk hg
  . obtain ⟨loc, h1, h2, h3⟩ := s'.live i b hi;refine⟨loc,h1,h2,fun k hk=>⟨?_,(h3 k hk).2⟩⟩;rcases (h3 k hk).1 with h4|h4
    . exact .inl (Y03 s.size h4)
    . exact hG k h4
 have fin:(∃ r0 r,XW rs e' h'=some r0/\LoP r0 r/\R n' r h')->LeavesInM Fence.wide 0 P fn a'.tmps (fun en w'=>∃ v' r n1 h1 F1 φ1,en=.returned v'/\R n1 r h1/\Rep F1 φ1 v' r/\St' C (fun i=>n1<=i) e h1 F1 φ1 a w') a'.defers .returning w':=by
  rintro⟨r0,r,h0,hlo,hR⟩;refine Z3r a'.defers rfl rfl s' fun a2 w2 s2 ht=>?_;obtain⟨v,hrun,hrep⟩:=Z7v s2 hr h0;rw [ht] at hrun;exact⟨v,hrun,v,r,n',h',F',φ',rfl,hR,hlo.rep hrep,back s2⟩
 cases x with
 | normal=>exact fin hQ
 | ret=>exact fin hQ
 | _=>exact hQ.elim
def X1F:List (Nat×PV)->Env
 | []=>fun _=>none
 | (k,p) :: r=>(X1F r).upd k p
def Xs:List (Nat×Bx)->X0
 | []=>fun _=>none
 | (k,b) :: r=>(Xs r).upd k b
theorem Z9C {L:List (Nat×PV)} {k:Nat} {p:PV} (h:X1F L k=some p):(k,p)∈L:=by
 induction L with
 | nil=>cases h
 | cons q r ih =>
   obtain⟨k',p'⟩:=q;simp only [X1F] at h;by_cases hk:k=k'
   . subst hk; rw [Env.upd_same] at h; cases h; simp
   . rw [Env.upd_ne _ _ hk] at h; simp [ih h]
theorem Z1s {L:List (Nat×Bx)} {k:Nat} {p:Bx} (h:Xs L k=some p):(k,p)∈L:=by
 induction L with
 | nil=>cases h
 | cons q r ih =>
   obtain⟨k',p'⟩:=q;simp only [Xs] at h;by_cases hk:k=k'
   . subst hk; rw [X0.upd_same] at h; cases h; simp
   . rw [X0.upd_ne _ _ hk] at h; simp [ih h]
inductive X1S (ρ:Nat->Nat) (D:Nat->Prop):PV->PV->Prop
 | pure (p:PV) (hp:p.pure):X1S ρ D p p
 | own (id:Nat) (hd:D id):X1S ρ D (.own (ρ id)) (.own id)
 | ptr (id i off:Nat) (hd:D id):X1S ρ D (.ptr (ρ id) i off) (.ptr id i off)
 | view (id lo len:Nat) (hd:D id):X1S ρ D (.view (ρ id) lo len) (.view id lo len)
 | sl (id i off len cap:Nat) (hd:D id):X1S ρ D (.sl (ρ id) i off len cap) (.sl id i off len cap)
 | mp (id:Nat) (hd:D id):X1S ρ D (.mp (ρ id)) (.mp id)
 | agg (l m:List PV) (hl:l.length=m.length) (h:∀ i,i<l.length->X1S ρ D (l.getD i pvu) (m.getD i pvu)):X1S ρ D (.agg l) (.agg m)
 | low (p:PV) (hp:p.low.pure):X1S ρ D p p.low
 | same (p:PV) (hp:p.inn fun i=>D i/\ρ i=i):X1S ρ D p p
theorem X1S.rep {ρ:Nat->Nat} {D:Nat->Prop} {φ':XE} (hφ:∀ i x,D i->φ (ρ i)=some x->φ' i=some x) {p0 p:PV} (hr:X1S ρ D p0 p):∀ {v:Value},Rep F φ v p0->Rep F φ' v p:=by
 induction hr with
 | pure p hp=>exact fun h=>h.pure hp
 | own id hd=>intro v h; obtain⟨loc,h1,hz,rfl⟩:=h.own_inv; exact .own id loc (hφ _ _ hd h1) hz
 | view id lo len hd=>intro v h; obtain⟨loc,b,h1,hz,hl,hb,rfl⟩:=h.view_inv; exact .view id lo len loc b (hφ _ _ hd h1) hz hl hb
 | sl id i off len cap hd=>intro v h; obtain⟨loc,x,h1,hz,hb,hs,hl,rfl⟩:=h.sl_inv; exact .sl id i off len cap loc x (hφ _ _ hd h1) hz hb hs hl
 | mp id hd=>intro v h; obtain⟨loc,x,h1,hz,hb,rfl⟩:=h.mp_inv; exact .mp id loc x (hφ _ _ hd h1) hz hb
 | ptr id i off hd=>intro v h; obtain⟨loc,x,h1,hz,h2,h3,rfl⟩:=h.ptr_inv; exact .ptr id i off loc x (hφ _ _ hd h1) hz h2 h3
 | agg l m hl _ ih =>
   intro v h;obtain⟨vs,rfl,h1,h2,h3⟩:=h.agg_inv;exact .agg vs m (by rw [h1,hl]) (fun i hi=>h2 i (by rw [hl]; exact hi)) fun i hi=>ih i (by rw [hl]; exact hi) (h3 i (by rw [hl]; exact hi))
 | low p hp=>exact fun h=>h.low.pure hp
 | same p hp=>exact fun h=>h.inn (fun i x hi hx=>hφ i x hi.1 (by rw [hi.2]; exact hx)) hp
inductive X1w (ρ:Nat->Nat) (D:Nat->Prop):Bx->Bx->Prop
 | same (b:Bx) (hp:X2 b.elems):X1w ρ D b b
 | gen (b0 b:Bx) (hz:0<b.esz) (he:b0.esz=b.esz) (hl:b0.elems.length=b.elems.length) (hc:∀ i,i<b.elems.length->(b0.elems.getD i []).length=(b.elems.getD i []).length) (h:∀ i j,i<b.elems.length->j<b.esz->X1S ρ D ((b0.elems.getD i []).getD j pvu) ((b.elems.getD i []).getD j pvu)):X1w ρ D b0 b
theorem St'.ren {F:XC} {φ:XE} {a:Act} {w:World} {n:Nat} (s:St' C (fun i=>n<=i) e h F φ a w) (ρ:Nat->Nat) {n':Nat} {L:List (Nat×PV)} {HL:List (Nat×Bx)} (he:∀ q∈L,∃ p0,e q.1=some p0/\X1S ρ (fun i=>i<n') p0 q.2) (hh:∀ q∈HL,q.1<n'/\∃ b0,h (ρ q.1)=some b0/\X1w ρ (fun i=>i<n') b0 q.2)
 (hinj:∀ q∈HL,∀ q'∈HL,ρ q.1=ρ q'.1->q.1=q'.1) {m:Nat} (hdom:C.dom m) (hm:m<=n') (hρ:∀ i,i<m->ρ i=i):∃ φ',St' C (fun i=>n'<=i) (X1F L) (Xs HL) F φ' a w:=by
 let φ':XE:=fun i=>if i<n' then φ (ρ i) else none
 have hφ:∀ i x,i<n'->φ (ρ i)=some x->φ' i=some x:=fun i x hi hx=>by simp only [φ',hi,Y1P]; exact hx
 refine⟨φ',{ nt:=s.nt,glob:=s.glob,marks:=s.marks,loc0:=fun i x hx=>?_,free:=fun i hi=>?_,env:=fun k p hp=>?_,froz:=s.froz,ext:=s.ext,old:=s.old,os:=s.os,tape:=s.tape,output:=s.output,size:=s.size,kept:=s.kept,live:=fun i b hb=>?_,sep:=?_ }⟩
 . have : ¬ i < n' := by omega
   simp only [φ',this,Y1G]
 . obtain ⟨p0, h0, hr⟩ := he _ (Z9C hp);exact⟨(s.env k p0 h0).1,hr.rep hφ (s.env k p0 h0).2⟩
 . by_cases him : i < m
   . exact hφ i x (by omega) (by rw [hρ i him]; exact s.loc0 i x hx)
   . rw [hdom i (by omega)] at hx; cases hx
 . obtain ⟨hi, b0, h0, hr⟩ := hh _ (Z1s hb);obtain⟨loc,h1,h2,h3⟩:=s.live _ b0 h0;refine⟨loc,hφ i loc hi h1,?_,h3⟩;cases hr with
   | same hp=>exact h2.names hp
   | gen _ hz he hl hcl hrp =>
     have h2:=h2.cellsB (by rw [he]; exact hz);refine .inl ⟨by rw [<- he]; exact h2.esz,h2.pos,by rw [<- hl]; exact h2.len,h2.cap,h2.max,fun c hc=>?_,fun hc=>?_⟩
     . obtain ⟨k, hk, rfl⟩ := YE hc;have e1:b.elems[k]=b.elems.getD k []:=by simp [Y0b,hk]
       rw [e1,<- hcl k hk]
       exact h2.el _ (by have hk' : k < b0.elems.length := by rw [hl]; exact hk
                         simp [Y0b,hk'])
     . obtain ⟨x, hx, hs, cells, t, hg, hsz, hrep⟩ := h2.room hc;refine⟨x,hx,hs,cells,t,hg,hsz,fun i j hi hj=>⟨(hrep i j hi hj).1,?_⟩⟩;exact (hrp i j (by rw [<- hl,h2.len]; exact hi) (by rw [<- he,h2.esz]; exact hj)).rep hφ (hrep i j hi hj).2
 . intro i j bi bj li lj k hi hj hli hlj hki hkj;obtain⟨hin,b0,h0,_⟩:=hh _ (Z1s hi);obtain⟨hjn,c0,g0,_⟩:=hh _ (Z1s hj);have hli':φ (ρ i)=some li:=by simpa only [φ',show i<n' from hin,Y1P] using hli
   have hlj':φ (ρ j)=some lj:=by simpa only [φ',show j<n' from hjn,Y1P] using hlj
   exact hinj _ (Z1s hi) _ (Z1s hj) (s.sep _ _ b0 c0 li lj k h0 g0 hli' hlj' hki hkj)
theorem Zbe (ρ:Nat->Nat) {n n':Nat} {L:List (Nat×PV)} {HL:List (Nat×Bx)} (he:∀ q∈L,∃ p0,e q.1=some p0/\X1S ρ (fun i=>i<n') p0 q.2) (hh:∀ q∈HL,q.1<n'/\∃ b0,h (ρ q.1)=some b0/\X1w ρ (fun i=>i<n') b0 q.2)
 (hinj:∀ q∈HL,∀ q'∈HL,ρ q.1=ρ q'.1->q.1=q'.1) {m:Nat} (hdom:C.dom m) (hm:m<=n') (hρ:∀ i,i<m->ρ i=i):Sub C n e h n' (X1F L) (Xs HL):=by
 rintro a w ⟨F,φ,s⟩;obtain⟨φ',s'⟩:=s.ren ρ he hh hinj hdom hm hρ;exact⟨F,φ',s'⟩
theorem ZhJ {n n':Nat} {L:List (Nat×PV)} {HL:List (Nat×Bx)} (he:∀ q∈L,∃ p0,e q.1=some p0/\X1S (fun i=>i) (fun i=>i<n') p0 q.2) (hh:∀ q∈HL,q.1<n'/\∃ b0,h q.1=some b0/\X1w (fun i=>i) (fun i=>i<n') b0 q.2) {m:Nat} (hdom:C.dom m) (hm:m<=n'):Sub C n e h n' (X1F L) (Xs HL) :=
 Zbe (fun i=>i) he hh (fun _ _ _ _ h=>h) hdom hm fun _ _=>rfl
theorem Z6h {n n' n'' : Nat} {e' e'' : Env} {h' h'' : X0} (h1 : Sub C n e h n' e' h') (h2 : Sub C n' e' h' n'' e'' h'') : Sub C n e h n'' e'' h'' := fun a w hs => h2 a w (h1 a w hs)
theorem Z8k {n:Nat}:Sub C n e h n e h:=fun _ _ hs=>hs
theorem ZdR {n k:Nat} (hk:e k=some (.vec [] true)) (esz:Nat) (hp:0<esz):Sub C n e h (n+1) (e.upd k (.own n)) (h.upd n ⟨esz,[]⟩):=by
 rintro a w ⟨F,φ,s⟩;obtain⟨hlt,hr⟩:=s.env k _ hk;have hbase:∃ base,a.tmps.getD k undef=.slice base 0 0:=by
  rcases hr.vec_inv with⟨_,h⟩|⟨x,cap,esz',cs,h,_,_,hf,_⟩
  . exact⟨none,h⟩
  . exact⟨some x,by rw [h,hf rfl]; rfl⟩
 obtain⟨base,hb⟩:=hbase;have s':=s.allocNil (Y0m n) base esz hp;have hfr:∀ i,n+1<=i->n<=i/\i≠n:=fun i hi=>⟨by omega,by omega⟩
 refine⟨F,_,{ s'.weaken hfr with env:=fun j p hj=>?_ }⟩;by_cases hjk:j=k
 . subst hjk;rw [Env.upd_same] at hj;cases hj;refine⟨hlt,?_⟩;rw [hb];exact .own n ⟨base,esz,0,0⟩ (by simp [Xb]) hp
 . rw [Env.upd_ne _ _ hjk] at hj;exact s'.env j p hj
theorem Z7w {n k id:Nat} {b:Bx} (hk:e k=some (.own id)) (hb:h id=some b) (hp:X2 b.elems):Sub C n e h n (e.upd k (.vec b.elems false)) (h.del id):=fun _ _ hst=>St.frzSlot hst hk hb
theorem Z2j {n k id:Nat} {esz:Nat} {l:List PV} (hk:e k=some (.ptr id 0 0)) (hb:h id=some ⟨esz,[l]⟩):Sub C n e h n (e.upd k (.cp l)) (h.del id):=by
 rintro a w ⟨F,φ,s⟩;obtain⟨hlt,hr⟩:=s.env k _ hk;obtain⟨loc,x,hl,hz,hbase,hsx,hv⟩:=hr.ptr_inv;obtain⟨loc',h1,h2,h3⟩:=s.live id _ hb;obtain rfl:loc'=loc:=by rw [h1] at hl; simpa using hl
 have h2:=h2.cells hz;have hlen:loc'.len=1:=by rw [<- h2.len]; rfl
 have hc0:loc'.cap≠0:=by have:=h2.cap; omega
 have s1:St' C (fun i=>n<=i) e (h.del id) F φ a w:=s.sub (fun _ _ h=>h) (fun _ _ hh=>(X0.del_some hh).2);obtain⟨ad,hbase',hs,cells,ct,hg,hroom,hrep⟩:=h2.room hc0;obtain rfl:ad=x:=by rw [hbase'] at hbase; simpa using hbase
 have hhas:loc'.has ad.block:=⟨hc0,ad,hbase',rfl⟩
 have s2:=s1.frz hg (h3 _ hhas).2 (s.del_no hb h1 hhas) (h3 _ hhas).1;have hx:=Z2v (h3 _ hhas).2 cells;have hll:l.length=loc'.esz:=h2.el l (by simp);refine⟨_,φ,{ s2 with env:=fun j p hj=>?_ }⟩;by_cases hjk:j=k
 . subst hjk;rw [Env.upd_same] at hj;cases hj;refine⟨hlt,?_⟩;rw [hv];simp only [Y3q,YQ,YX];rw [<- Z4v ad hs];have hlt2:∀ j,j<l.length->ad.off+j<cells.size:=fun j hj=>by
    have:=Z2f (n:=loc'.cap) (i:=0) (j:=j) (esz:=loc'.esz) (by omega) (by omega);omega
   refine .cp ad l (fun j=>cells.getD (ad.off+j) undef) hs (fun j hj=>?_) (fun j hj=>?_)
   . have := hrep 0 j (by omega) (by omega);simp only [Y3q,YQ] at this;exact Z2p F _ _ (hlt2 j hj) this.1
   . have := hrep 0 j (by omega) (by omega);simp only [Y3q,YQ] at this;exact this.2.mono hx fun _ _ h=>h
 . rw [Env.upd_ne _ _ hjk] at hj;exact s2.env j p hj
theorem Z3m {ac:X3} {Q:Exit->Nat->Env->X0->Prop} {n k:Nat} {l:List (List PV)} {full:Bool} (hk:e k=some (.vec l full)) (hw:l.length<=Xd->aw P C ac Q n e h):aw P C ac Q n e h:=by
 intro hm FN m hok c hc a w hs;refine hw ?_ hm FN m hok c hc a w hs;obtain⟨F,φ,s⟩:=hs;rcases (s.env k _ hk).2.vec_inv with⟨rfl,_⟩|⟨x,cap,esz,cs,_,_,_,_,hmax,_⟩
 . exact Y0l _
 . exact hmax
theorem Zjr {op:AOp} {n:Nat} {p:PV} {h':X0} {K:PV->X0->Prop} (hn:X6 op=false) (hd:X1 op e h n=some (p,h') \/ Xv op e h n=some (p,h')) (hk:K p h'):opK P op n e h K:=by
 have:∃ p h',(X1 op e h n=some (p,h') \/ Xv op e h n=some (p,h'))/\K p h':=⟨p,h',hd,hk⟩
 cases op<;>first|exact this|(simp [X6] at hn; done)|skip
 rcases hd with hd|hd
 . exact .inl ⟨p,h',hd,hk⟩
 . simp [Xv] at hd
theorem ZfC {neg:Bool} {x:Operand} {n:Nat} {K:PV->X0->Prop} (hx:(∃ l fl,ev e x=some (.vec l fl)) \/ ∃ k,ev e x=some (.own k)) (hk:∀ b,K (.val (.bool b)) h):opK P (.isnil neg x) n e h K:=.inr ⟨hx,hk⟩
theorem Zkh {z:Rsv} {n:Nat} {K:Env->X0->Prop} (hk:K e h):dK P z n [] e h K:=hk
theorem Zj3 {z:Rsv} {n i mask:Nat} {d:Option Nat} {op:AOp} {iso:Nat} {alt:Bool} {xs:List X5} {K:Env->X0->Prop} {p:PV} {h':X0} (hd:X2q alt op e h (n+i)=some (p,h')) (ha:X10 z op e n i mask iso=true) (hn:X6 op=false) (hk:dK P z n xs (Xq e d p) h' K):dK P z n (⟨i,⟨d,op,none⟩,mask,iso,alt⟩ :: xs) e h K:=by
 obtain⟨f,rfl,h1,h2,h3⟩:=Zfv hd ha;refine⟨_,.det rfl hn p f ⟨h1,h2,h3⟩,?_⟩;rintro p' f' ⟨rfl,rfl⟩;exact hk
theorem ZfD {z:Rsv} {n i mask:Nat} {d:Option Nat} {f:Operand} {args:List Operand} {iso:Nat} {alt:Bool} {xs:List X5} {K:Env->X0->Prop} {g:FuncId} {caps as0 args':List PV} {R:PV->Prop} (hf:ev e f=some (.fn g caps)) (ha:evs e args=some as0) (hlo:LoL (as0++caps) args')
 (hs:X7 P g args' R) (hp:Xe args') (hk:∀ r,R r->dK P z n xs (Xq e d r) h K):dK P z n (⟨i,⟨d,.call f args,none⟩,mask,iso,alt⟩ :: xs) e h K:=by
 refine⟨_,.call rfl f args rfl R ⟨g,caps,as0,hf,ha,.of hlo hp hs⟩,?_⟩;rintro p' f' ⟨hr,rfl⟩;exact hk p' hr
theorem ZkP {z:Rsv} {n i mask:Nat} {d:Option Nat} {f:Operand} {args:List Operand} {iso:Nat} {alt:Bool} {xs:List X5} {K:Env->X0->Prop} {g:FuncId} {caps as0:List PV} {R:PV->Prop} (hf:ev e f=some (.fn g caps)) (ha:evs e args=some as0)
 (hs:X3E P g (as0++caps) R) (hk:∀ r,R r->dK P z n xs (Xq e d r) h K):dK P z n (⟨i,⟨d,.call f args,none⟩,mask,iso,alt⟩ :: xs) e h K:=by
 refine⟨_,.call rfl f args rfl R ⟨g,caps,as0,hf,ha,hs⟩,?_⟩;rintro p' f' ⟨hr,rfl⟩;exact hk p' hr
theorem Z5X {z:Rsv} {n i mask:Nat} {d:Option Nat} {f:Operand} {args:List Operand} {iso:Nat} {alt:Bool} {xs:List X5} {K:Env->X0->Prop} {g:FuncId} {caps as0 args':List PV} {mk:Nat->PV} {b:Bx} (hs:X1a P g args' mk b) (hmk:Mk mk) (hpb:X2 b.elems) (hf:ev e f=some (.fn g caps)) (ha:evs e args=some as0) (ha':as0++caps=args') (hp:Xe args')
 (hk:dK P z n xs (Xq e d (mk (n+i))) (h.upd (n+i) b) K):dK P z n (⟨i,⟨d,.call f args,none⟩,mask,iso,alt⟩ :: xs) e h K:=by
 subst ha';refine⟨_,.callN rfl f args rfl none (fun _ _ h=>by cases h) mk b ⟨g,caps,as0,hf,ha,hs.nrun hmk hpb hp⟩,?_⟩;rintro p' f' ⟨rfl,rfl⟩;exact hk
theorem ZhK {z:Rsv} {n i mask:Nat} {d:Option Nat} {f:Operand} {args:List Operand} {iso:Nat} {alt:Bool} {xs:List X5} {K:Env->X0->Prop} {g:FuncId} {caps as0:List PV} {mk:Nat->PV} {b b0:Bx} {k:Nat} (hs:X5v P g (some (k,b0)) (as0++caps) mk b) (hz:z.call=some k) (hb:h k=some b0) (hf:ev e f=some (.fn g caps)) (ha:evs e args=some as0)
 (hk:dK P z n xs (Xq e d (mk (n+i))) (h.upd (n+i) b) K):dK P z n (⟨i,⟨d,.call f args,none⟩,mask,iso,alt⟩ :: xs) e h K:=by
 refine⟨_,.callN rfl f args rfl (some (k,b0)) (fun _ _ h=>by cases h; exact⟨hz,hb⟩) mk b ⟨g,caps,as0,hf,ha,hs⟩,?_⟩;rintro p' f' ⟨rfl,rfl⟩;exact hk
theorem Zbf {z:Rsv} {n i mask:Nat} {d:Nat} {zz:List Value} {bytes:Nat} {sx y:Operand} {iso:Nat} {xs:List X5} {K:Env->X0->Prop} {k:Nat} {b:Bx} {m:List (List PV)} {fl:Bool} (hs:ev e sx=some (.own k)) (hy:ev e y=some (.vec m fl)) (hb:h k=some b) (hm:∀ c∈m,c.length=zz.length) (he:b.esz=zz.length) (hby:(b.elems.length+m.length)*bytes<=140737488355328) (hp:X2 (b.elems++m)) (h1:X1W z n i mask k=true) (h2:okW z n i iso k=true)
 (hk:dK P z n xs (e.upd d (.vec (b.elems++m) false)) (h.del k) K):dK P z n (⟨i,⟨some d,.append zz bytes sx y,none⟩,mask,iso,true⟩ :: xs) e h K:=by
 refine⟨_,.detF rfl rfl d rfl zz bytes sx y rfl k b m fl hs hy hb ⟨hm,he,hby⟩ hp ⟨h1,h2⟩,?_⟩;rintro p' f' ⟨rfl,rfl⟩;exact hk
theorem ZcP {z:Rsv} {n:Nat} {x:X5} {xs:List X5} {K:Env->X0->Prop} {s:Nat} {b c:Bool} (hg:x.o.guard=some (s,b)) (hs:e s=some (.val (.bool c))) (ht:c=b->dK P z n (⟨x.i,⟨x.o.dst,x.o.op,none⟩,x.mask,x.iso,x.alt⟩ :: xs) e h K) (hf:c≠b->dK P z n xs (Xq e x.o.dst pvu) h K):dK P z n (x :: xs) e h K:=by
 have hw:X1y x.o.guard e=some (c == b):=by simp only [X1y,hg,hs]
 by_cases hcb:c=b
 . obtain ⟨T, hT, hK⟩ := ht hcb;have hw':X1y x.o.guard e=some true:=by rw [hw,hcb]; simp
   refine⟨T,?_,hK⟩;cases hT with
   | skip h=>cases h
   | call _ f args ho R hc=>exact .call hw' f args ho R hc
   | callP _ f args ho id hz b hb R hc=>exact .callP hw' f args ho id hz b hb R hc
   | callN _ f args ho rd hrd mk b hc=>exact .callN hw' f args ho rd hrd mk b hc
   | callD _ f args ho d hdst k hz b b' hb hc=>exact .callD hw' f args ho d hdst k hz b b' hb hc
   | detF _ ha d hd0 zz bytes sx y ho k b mm fl hsx hyx hbk hcond hpp hacc=>exact .detF hw' ha d hd0 zz bytes sx y ho k b mm fl hsx hyx hbk hcond hpp hacc
   | det _ hn p f hd=>exact .det hw' hn p f ⟨hd.eff,hd.touch,hd.run⟩
 . refine ⟨_, .skip (by rw [hw]; simp [hcb]), ?_⟩;rintro p' f' ⟨rfl,rfl⟩;exact hf hcb
end
end
section
open Go.RowKit
attribute [local irreducible] aw Xj dK
section
variable {P:Program} {C:Ctx} {e:Env} {h:X0} {n:Nat} {K:Nat->Env->X0->Prop} {os:List Xm} {d:Option Nat} {Q:Exit->Nat->Env->X0->Prop}
def X45 (g:Option (Nat×Bool)) (e:Env):Option Bool :=
 match g with
 | none=>some true
 | some (s, b) => match e s with
   | some (.val (.bool c))=>some (c == b)
   | some (.val (.tuple _))=>some false
   | _=>none
theorem ZcQ {g:Option (Nat×Bool)} {A B:Prop} {b:Bool} (h:X45 g e=some b) (hk:if b=true then A else B):X38 g e A B:=by
 unfold X45 at h;unfold X38
 split at h
 . cases h; exact hk
 . split at h
   . rename_i c hc;cases h
     try simp only [hc]
     split
     . rename_i hcb; subst hcb; simpa using hk
     . rename_i hcb; simpa [hcb] using hk
   . rename_i c hc;cases h
     try simp only [hc]
     simpa using hk
   . cases h
theorem Z2w:X4C n e h n e h:=fun _ _ _ h=>h
theorem Zj {op:AOp} {g:Nat×Bool} (hw:X45 (some g) e=some true) (hk:Xj P (⟨d,op,none⟩ :: os) n e h K):Xj P (⟨d,op,some g⟩ :: os) n e h K:=by
 unfold Xj at hk ⊢;exact ZcQ hw (by simpa [X38] using hk)
theorem Zm {n':Nat} {e':Env} {h':X0} (hs:X4C n e h n' e' h') {op:AOp} (hk:Xj P (⟨d,op,none⟩ :: os) n' e' h' K):Xj P (⟨d,op,none⟩ :: os) n e h K:=by
 unfold Xj at hk ⊢;simp only [X38] at hk ⊢;obtain⟨n1,e1,h1,hs1,hk⟩:=hk;exact⟨n1,e1,h1,fun C a w hst=>hs1 C a w (hs C a w hst),hk⟩
theorem Z8l {op:AOp} {g:Nat×Bool} (hw:X45 (some g) e=some false) (hk:Xj P os n (Xq e d pvu) h K):Xj P (⟨d,op,some g⟩ :: os) n e h K:=by
 unfold Xj;exact ZcQ hw (by simpa using hk)
theorem opsK_of' {op:AOp} {p:PV} {h':X0} (hd:X1 op e h n=some (p,h') \/ Xv op e h n=some (p,h')) (hn:X6 op=false) (hk:Xj P os (bmp h' n) (Xq e d p) h' K):Xj P (⟨d,op,none⟩ :: os) n e h K:=by
 unfold Xj;exact⟨n,e,h,Z2w,.inl (Zjr hn hd hk)⟩
theorem Z3T (hz:h n=none):bmp h n=n:=by simp [bmp,hz]
theorem ZcR {b:Bx} (hz:h n=some b):bmp h n=n+1:=by simp [bmp,hz]
theorem Z3 {op:AOp} {p:PV} {h':X0} (hd:X1 op e h n=some (p,h')) (hn:X6 op=false) (hz:h' n=none) (hk:Xj P os n (Xq e d p) h' K):Xj P (⟨d,op,none⟩ :: os) n e h K :=
 opsK_of' (.inl hd) hn (by rw [Z3T hz]; exact hk)
theorem ZB {op:AOp} {p:PV} {h':X0} {b:Bx} (hd:X1 op e h n=some (p,h')) (hn:X6 op=false) (hz:h' n=some b) (hk:Xj P os (n+1) (Xq e d p) h' K):Xj P (⟨d,op,none⟩ :: os) n e h K :=
 opsK_of' (.inl hd) hn (by rw [ZcR hz]; exact hk)
theorem Z5 {op:AOp} {p:PV} {h':X0} (hd:Xv op e h n=some (p,h')) (hn:X6 op=false) (hz:h' n=none) (hk:Xj P os n (Xq e d p) h' K):Xj P (⟨d,op,none⟩ :: os) n e h K :=
 opsK_of' (.inr hd) hn (by rw [Z3T hz]; exact hk)
theorem Z4a {op:AOp} {p:PV} {h':X0} {b:Bx} (hd:Xv op e h n=some (p,h')) (hn:X6 op=false) (hz:h' n=some b) (hk:Xj P os (n+1) (Xq e d p) h' K):Xj P (⟨d,op,none⟩ :: os) n e h K :=
 opsK_of' (.inr hd) hn (by rw [ZcR hz]; exact hk)
theorem Zx {op:AOp} {b:Bool} {h':X0} (hd:X1 op e h n=some (.val (.bool b),h')) (hn:X6 op=false) (hz:h' n=none) (ht:b=true->Xj P os n (Xq e d (.val (.bool true))) h' K) (hf:b=false->Xj P os n (Xq e d (.val (.bool false))) h' K):Xj P (⟨d,op,none⟩ :: os) n e h K:=by
 cases b with
 | true=>exact Z3 hd hn hz (ht rfl)
 | false=>exact Z3 hd hn hz (hf rfl)
theorem Z13 {f:Operand} {args:List Operand} {g:FuncId} {caps as0:List PV} {R:PV->Prop} (hf:ev e f=some (.fn g caps)) (ha:evs e args=some as0) (hs:X7 P g (as0++caps) R) (hp:Xe (as0++caps)) (hz:h n=none) (hk:∀ r,R r->Xj P os n (Xq e d r) h K) :
 Xj P (⟨d,.call f args,none⟩ :: os) n e h K:=by
 unfold Xj;exact⟨n,e,h,Z2w,.inl ⟨g,caps,as0,R,hf,ha,.of (.inl rfl) hp hs,fun r hr=>by show Xj P os (bmp h n) (Xq e d r) h K; rw [Z3T hz]; exact hk r hr⟩⟩
theorem Z9D {f:Operand} {args:List Operand} {g:FuncId} {caps as0:List PV} {R:PV->Prop} (hf:ev e f=some (.fn g caps)) (ha:evs e args=some as0) (hs:X7 P g (X1h (as0++caps)) R) (hp:Xe (X1h (as0++caps))) (hz:h n=none) (hk:∀ r,R r->Xj P os n (Xq e d r) h K) :
 Xj P (⟨d,.call f args,none⟩ :: os) n e h K:=by
 unfold Xj;exact⟨n,e,h,Z2w,.inl ⟨g,caps,as0,R,hf,ha,.of (.inr rfl) hp hs,fun r hr=>by show Xj P os (bmp h n) (Xq e d r) h K; rw [Z3T hz]; exact hk r hr⟩⟩
theorem ZfE {f:Operand} {args:List Operand} {g:FuncId} {caps as0:List PV} {R:PV->Prop} (hf:ev e f=some (.fn g caps)) (ha:evs e args=some as0) (hs:X3E P g (as0++caps) R) (hz:h n=none) (hk:∀ r,R r->Xj P os n (Xq e d r) h K) :
 Xj P (⟨d,.call f args,none⟩ :: os) n e h K:=by
 unfold Xj;exact⟨n,e,h,Z2w,.inl ⟨g,caps,as0,R,hf,ha,hs,fun r hr=>by show Xj P os (bmp h n) (Xq e d r) h K; rw [Z3T hz]; exact hk r hr⟩⟩
theorem Z6 {f:Operand} {args:List Operand} {g:FuncId} {caps as0 args':List PV} {v:PV} (hs:X7 P g args' (· = v)) (hf:ev e f=some (.fn g caps)) (ha:evs e args=some as0) (ha':as0++caps=args') (hp:Xe args') (hz:h n=none) (hk:Xj P os n (Xq e d v) h K) :
 Xj P (⟨d,.call f args,none⟩ :: os) n e h K:=by
 subst ha';exact Z13 hf ha hs hp hz fun _ hr=>hr▸hk
theorem Z7x {f:Operand} {args:List Operand} {g:FuncId} {caps as0 args':List PV} {v:PV} (hs:X7 P g args' (· = v)) (hf:ev e f=some (.fn g caps)) (ha:evs e args=some as0) (ha':X1h (as0++caps)=args') (hp:Xe args') (hz:h n=none) (hk:Xj P os n (Xq e d v) h K) :
 Xj P (⟨d,.call f args,none⟩ :: os) n e h K:=by
 subst ha';exact Z9D hf ha hs hp hz fun _ hr=>hr▸hk
theorem ZH {f:Operand} {args:List Operand} {g:FuncId} {caps as0:List PV} {R:Nat->PV->X0->Prop} (hf:ev e f=some (.fn g caps)) (ha:evs e args=some as0)
 (hs:Xp P g n (as0++caps) h R) (hk:∀ n' r h',R n' r h'->Xj P os n' (Xq e d r) h' K):Xj P (⟨d,.call f args,none⟩ :: os) n e h K:=by
 unfold Xj;exact⟨n,e,h,Z2w,.inr ⟨f,args,g,_,as0,_,R,rfl,hf,ha,.fn g caps as0,hs,hk⟩⟩
theorem Zjs {f:Operand} {args:List Operand} {g:FuncId} {first as0:List PV} {R:Nat->PV->X0->Prop} (hf:ev e f=some (.bf g first)) (ha:evs e args=some as0)
 (hs:Xp P g n (first++as0) h R) (hk:∀ n' r h',R n' r h'->Xj P os n' (Xq e d r) h' K):Xj P (⟨d,.call f args,none⟩ :: os) n e h K:=by
 unfold Xj;exact⟨n,e,h,Z2w,.inr ⟨f,args,g,_,as0,_,R,rfl,hf,ha,.bf g first as0,hs,hk⟩⟩
theorem Z1h (hk:K n e h):Xj P [] n e h K:=by unfold Xj; exact hk
theorem Z7y {α:Type} {esz:Nat} {x i:Operand} {xs:List α} {g:α->List PV} {fl:Bool} {k:IntKind} {m:Int} (hx:ev e x=some (.vec (xs.map g) fl)) (hi:ev e i=some (.val (.int k m))) (j:Nat) (hm:m=(j:Int)) (hj:j<xs.length) (hl:(g xs[j]).length=esz)
 (hz:h n=none) (hk:Xj P os n (Xq e d (.cp (g xs[j]))) h K):Xj P (⟨d,.iaddr esz x i,none⟩ :: os) n e h K:=by
 subst hm;have e1:(xs.map g).getD (j:Int).toNat []=g xs[j]:=by simp [Y0b,hj]
 refine Z3 (p:=.cp (g xs[j])) (h':=h) ?_ rfl hz hk;simp only [X1,hx,hi,e1,hl];rw [Y7 ⟨by omega,by simp; omega⟩]; simp
theorem ZhL {x y:Operand} {k k':IntKind} {a b:Int} (hx:ev e x=some (.val (.int k a))) (hy:ev e y=some (.val (.int k' b))) (hb:0<=b) {v:Int} (hv:a.fdiv (2 ^ (min b.toNat k.bits))=v) (hz:h n=none) (hk:Xj P os n (Xq e d (.val (.int k v))) h K):Xj P (⟨d,.bin .shr .num x y,none⟩ :: os) n e h K :=
 Z3 (p:=.val (.int k v)) (h':=h) (by simp [X1,hx,hy,X3T,X3R,hb,hv]) rfl hz hk
theorem Ze {op:AOp} {k:IntKind} {a v:Int} {h':X0} (hd:X1 op e h n=some (.val (.int k a),h')) (hn:X6 op=false) (hz:h' n=none) (hv:a=v) (hk:Xj P os n (Xq e d (.val (.int k v))) h' K):Xj P (⟨d,op,none⟩ :: os) n e h K:=by
 subst hv; exact Z3 hd hn hz hk
theorem Z6i {op:AOp} {a v:Bool} {h':X0} (hd:X1 op e h n=some (.val (.bool a),h')) (hn:X6 op=false) (hz:h' n=none) (hv:a=v) (hk:Xj P os n (Xq e d (.val (.bool v))) h' K):Xj P (⟨d,op,none⟩ :: os) n e h K:=by
 subst hv; exact Z3 hd hn hz hk
theorem ZhM {α:Type} {esz:Nat} {x:Operand} {lo hi:Option Operand} {xs:List α} {g:α->List PV} {fl:Bool} (hx:ev e x=some (.vec (xs.map g) fl)) (a b:Nat) (hlo:XD e 0 lo=some (a:Int)) (hhi:XD e ((xs.map g).length:Nat) hi=some (b:Int)) (hab:a<=b) (hb:b<=xs.length) (hg:∀ x,(g x).length=esz)
 (hz:h n=none) (hk:Xj P os n (Xq e d (.vec (((xs.take b).drop a).map g) false)) h K):Xj P (⟨d,.slc esz x lo hi none,none⟩ :: os) n e h K:=by
 refine Z3 (p:=.vec (((xs.take b).drop a).map g) false) (h':=h) ?_ rfl hz hk;simp only [X1,hx,hlo,hhi];have hall:∀ c∈xs.map g,c.length=esz:=fun c hc=>by obtain⟨y,_,rfl⟩:=Y0i.1 hc; exact hg y
 rw [Y7 ⟨⟨by omega,by omega,by simp; omega⟩,hall⟩];simp [List.map_drop,List.map_take]
theorem Zk {α:Type} {esz:Nat} {x i:Operand} {xs:List α} {g:α->List PV} {fl:Bool} {k:IntKind} {m:Int} (hx:ev e x=some (.vec (xs.map g) fl)) (hi:ev e i=some (.val (.int k m))) (j:Nat) (hm:m=(j:Int)) (hj:j<xs.length) (hl:(g xs[j]).length=esz) :
 X1 (.iaddr esz x i) e h n=some (.cp (g xs[j]),h):=by
 subst hm;have e1:(xs.map g).getD (j:Int).toNat []=g xs[j]:=by simp [Y0b,hj]
 simp only [X1,hx,hi,e1,hl];rw [Y7 ⟨by omega,by simp; omega⟩]; simp
theorem Z1d {esz:Nat} {x i:Operand} {id:Nat} {b:Bx} {k:IntKind} {m:Int} (hx:ev e x=some (.own id)) (hi:ev e i=some (.val (.int k m))) (hb:h id=some b) (j:Nat) (hm:m=(j:Int)) (hj:j<b.elems.length) (hl:b.esz=esz) :
 X1 (.iaddr esz x i) e h n=some (.ptr id j 0,h):=by
 subst hm;simp only [X1,hx,hi,hb,hl];rw [Y7 ⟨by omega,by omega⟩]; simp
theorem ZfF {x y:Operand} {k k':IntKind} {a b:Int} (hx:ev e x=some (.val (.int k a))) (hy:ev e y=some (.val (.int k' b))) (hb:0<=b) {v:Int} (hv:k.wrap (a*2 ^ (min b.toNat k.bits))=v):X1 (.bin .shl .num x y) e h n=some (.val (.int k v),h):=by simp [X1,hx,hy,X3T,X3R,hb,hv]
theorem ZkQ {x y:Operand} {k k':IntKind} {a b:Int} (hx:ev e x=some (.val (.int k a))) (hy:ev e y=some (.val (.int k' b))) (hb:0<=b) {v:Int} (hv:a.fdiv (2 ^ (min b.toNat k.bits))=v):X1 (.bin .shr .num x y) e h n=some (.val (.int k v),h):=by simp [X1,hx,hy,X3T,X3R,hb,hv]
theorem Z2N {op:AOp} {k:IntKind} {a v:Int} (hd:X1 op e h n=some (.val (.int k a),h)) (hv:a=v):X1 op e h n=some (.val (.int k v),h):=by subst hv; exact hd
theorem Za {op:AOp} {a v:Bool} (hd:X1 op e h n=some (.val (.bool a),h)) (hv:a=v):X1 op e h n=some (.val (.bool v),h):=by subst hv; exact hd
theorem Z4E {z:List Value} {bytes:Nat} {l c:Operand} {a b:Nat} (hl:X1T (ev e l)=some (a:Int)) (hc:X1T (ev e c)=some (b:Int)) (hab:a<=b) (hb:bytes*b<=281474976710656) :
 X1 (.mslice z bytes l c) e h n=some (.own n,h.upd n ⟨z.length,List.replicate a (zpv z)⟩):=by
 simp only [X1,hl,hc];rw [Y7 ⟨by omega,by omega,by rw [<- Int.natCast_mul]; omega⟩]; simp
theorem ZkR {α:Type} {esz:Nat} {x:Operand} {lo hi:Option Operand} {xs:List α} {g:α->List PV} {fl:Bool} (hx:ev e x=some (.vec (xs.map g) fl)) (a b:Nat) (hlo:XD e 0 lo=some (a:Int)) (hhi:XD e ((xs.map g).length:Nat) hi=some (b:Int)) (hab:a<=b) (hb:b<=xs.length) (hg:∀ x,(g x).length=esz) :
 X1 (.slc esz x lo hi none) e h n=some (.vec (((xs.take b).drop a).map g) false,h):=by
 simp only [X1,hx,hlo,hhi];have hall:∀ c∈xs.map g,c.length=esz:=fun c hc=>by obtain⟨y,_,rfl⟩:=Y0i.1 hc; exact hg y
 rw [Y7 ⟨⟨by omega,by omega,by simp; omega⟩,hall⟩];simp [List.map_drop,List.map_take]
theorem Z4F {agg:Bool} {size:Nat} {a:Operand} {k i off:Nat} {b:Bx} {p:PV} (ha:ev e a=some (.ptr k i off)) (hb:h k=some b) (hi:i<b.elems.length) (hc:X1t agg size off (b.elems.getD i [])=some p):X1 (.load agg size a) e h n=some (p,h):=by
 simp only [X1,ha,hb,Y7 hi,hc]
theorem Z3s {size:Nat} {a v:Operand} {k i off:Nat} {b:Bx} {p:PV} (ha:ev e a=some (.ptr k i off)) (hv:ev e v=some p) (hb:h k=some b) (hf:p.flat=true) (hl:p.cells.length=size) (hi:i<b.elems.length) (ho:off+size<=b.esz) :
 X1 (.store size a v) e h n=some (pvu,h.upd k ⟨b.esz,b.elems.set i (XK (b.elems.getD i []) off p.cells)⟩):=by
 subst hl;simp only [X1,ha,hv,hb];rw [Y7 (by simp [hf,hi,ho])]
theorem Z11 {z:List Value} {bytes:Nat} {s x:Operand} {k:Nat} {m:List (List PV)} {fl:Bool} {b:Bx} (hs:ev e s=some (.own k)) (hx:ev e x=some (.vec m fl)) (hb:h k=some b) (hm:∀ c∈m,c.length=z.length) (he:b.esz=z.length) (hby:(b.elems.length+m.length)*bytes<=140737488355328) :
 X1 (.append z bytes s x) e h n=some (.own n,(h.del k).upd n ⟨b.esz,b.elems++m⟩):=by
 simp only [X1,hs,hx,hb];rw [Y7 ⟨hm,he,hby⟩]; rfl
theorem ZfG {esz:Nat} {d s:Operand} {k:Nat} {m:List (List PV)} {fl:Bool} {b:Bx} (hd:ev e d=some (.own k)) (hs:ev e s=some (.vec m fl)) (hb:h k=some b) (hm:∀ c∈m,c.length=esz) (he:b.esz=esz) :
 X1 (.copy esz d s) e h n=some (.val (.int .i64 (min m.length b.elems.length:Nat)),h.upd k ⟨b.esz,m.take b.elems.length++b.elems.drop m.length⟩):=by
 simp only [X1,hd,hs,hb];rw [Y7 ⟨hm,he⟩]
theorem Z6j {z:List Value} {bytes:Nat} {s x:Operand} {l m:List (List PV)} {fl:Bool} (hs:ev e s=some (.vec l true)) (hx:ev e x=some (.vec m fl)) (hl:∀ c∈l,c.length=z.length) (hm:∀ c∈m,c.length=z.length) (hby:(l.length+m.length)*bytes<=140737488355328) :
 Xv (.append z bytes s x) e h n=some (.vec (l++m) false,h):=by
 simp only [Xv,hs,hx];rw [Y7 ⟨hl,hm,hby⟩]
theorem ZD {k:Nat} (hk:e k=some (.vec [] true)) (esz:Nat) (hp:0<esz):X4C n e h (n+1) (e.upd k (.own n)) (h.upd n ⟨esz,[]⟩):=fun _=>ZdR hk esz hp
theorem Zo {k id:Nat} {b:Bx} (hk:e k=some (.own id)) (hb:h id=some b) (hp:X2 b.elems):X4C n e h n (e.upd k (.vec b.elems false)) (h.del id):=fun _=>Z7w hk hb hp
theorem Z2x {k id:Nat} {esz:Nat} {l:List PV} (hk:e k=some (.ptr id 0 0)) (hb:h id=some ⟨esz,[l]⟩):X4C n e h n (e.upd k (.cp l)) (h.del id):=fun _=>Z2j hk hb
theorem Z1t {k id:Nat} {esz:Nat} {l:List PV} (hk:e k=some (.ptr id 0 0)) (hb:h id=some ⟨esz,[l]⟩) (hp:Xe l):X4C n e h n (e.upd k (.cp l)) (h.del id):=fun _=>Z2j hk hb
theorem Zu {z:Rsv} {i mask:Nat} {op:AOp} {iso:Nat} {xs:List X5} {K:Env->X0->Prop} {p:PV} {h':X0} (hd:X1 op e h (n+i)=some (p,h')) (ha:X10 z op e n i mask iso=true) (hn:X6 op=false) (hk:dK P z n xs (Xq e d p) h' K):dK P z n (⟨i,⟨d,op,none⟩,mask,iso,false⟩ :: xs) e h K:=Zj3 hd ha hn hk
theorem ZhN {z:Rsv} {i mask:Nat} {op:AOp} {iso:Nat} {xs:List X5} {K:Env->X0->Prop} {p:PV} {h':X0} (hd:Xv op e h (n+i)=some (p,h')) (ha:X10 z op e n i mask iso=true) (hn:X6 op=false) (hk:dK P z n xs (Xq e d p) h' K):dK P z n (⟨i,⟨d,op,none⟩,mask,iso,true⟩ :: xs) e h K:=Zj3 hd ha hn hk
theorem Zbg {z:Rsv} {i mask:Nat} {op:AOp} {iso:Nat} {xs:List X5} {K:Env->X0->Prop} {b:Bool} {h':X0} (hd:X1 op e h (n+i)=some (.val (.bool b),h')) (ha:X10 z op e n i mask iso=true) (hn:X6 op=false) (ht:b=true->dK P z n xs (Xq e d (.val (.bool true))) h' K) (hf:b=false->dK P z n xs (Xq e d (.val (.bool false))) h' K):dK P z n (⟨i,⟨d,op,none⟩,mask,iso,false⟩ :: xs) e h K:=by
 cases b with
 | true=>exact Zu hd ha hn (ht rfl)
 | false=>exact Zu hd ha hn (hf rfl)
theorem Z27 {z:Rsv} {i mask:Nat} {op:AOp} {iso:Nat} {alt:Bool} {g:Nat×Bool} {xs:List X5} {K:Env->X0->Prop} (hw:X45 (some g) e=some true) (hk:dK P z n (⟨i,⟨d,op,none⟩,mask,iso,alt⟩ :: xs) e h K):dK P z n (⟨i,⟨d,op,some g⟩,mask,iso,alt⟩ :: xs) e h K:=by
 obtain⟨s,b⟩:=g;unfold X45 at hw;simp only at hw
 split at hw
 . rename_i c hc;exact ZcP (x:=⟨i,⟨d,op,some (s,b)⟩,mask,iso,alt⟩) rfl hc (fun _=>hk) fun hne=>absurd (by simpa using hw) hne
 . cases hw
 . cases hw
theorem ZfH {z:Rsv} {i mask:Nat} {op:AOp} {iso:Nat} {alt:Bool} {g:Nat×Bool} {xs:List X5} {K:Env->X0->Prop} (hw:∃ c,e g.1=some (.val (.bool c))/\c≠g.2) (hk:dK P z n xs (Xq e d pvu) h K):dK P z n (⟨i,⟨d,op,some g⟩,mask,iso,alt⟩ :: xs) e h K:=by
 obtain⟨s,b⟩:=g;obtain⟨c,hc,hne⟩:=hw;exact ZcP (x:=⟨i,⟨d,op,some (s,b)⟩,mask,iso,alt⟩) rfl hc (fun h=>absurd h hne) fun _=>hk
theorem ZL {z:Rsv} {i mask:Nat} {f:Operand} {args:List Operand} {iso:Nat} {alt:Bool} {xs:List X5} {K:Env->X0->Prop} {g:FuncId} {caps as0 args':List PV} {v:PV} (hs:X7 P g args' (· = v)) (hf:ev e f=some (.fn g caps)) (ha:evs e args=some as0) (ha':as0++caps=args') (hp:Xe args') (hk:dK P z n xs (Xq e d v) h K) :
 dK P z n (⟨i,⟨d,.call f args,none⟩,mask,iso,alt⟩ :: xs) e h K:=by
 subst ha';exact ZfD hf ha (.inl rfl) hs hp fun _ hr=>hr▸hk
theorem Z6k {z:Rsv} {K:Env->X0->Prop} (hk:K e h):dK P z n [] e h K:=Zkh hk
theorem Z8m {c:Operand} {x y:X3} (hc:ev e c=some (.val (.bool true))) (hk:aw P C x Q n e h):aw P C (.cond c x y) Q n e h:=Z8f hc (fun _=>hk) fun h=>by cases h
theorem Z8n {c:Operand} {x y:X3} (hc:ev e c=some (.val (.bool false))) (hk:aw P C y Q n e h):aw P C (.cond c x y) Q n e h:=Z8f hc (fun h=>by cases h) fun _=>hk
theorem Z4 {rs:List X2o} {R:PV->Prop} {r:PV} (hr:XW rs e h=some r) (hp:r.pure) (hR:R r):∃ r0 r,XW rs e h=some r0/\LoP r0 r/\r.pure/\R r:=⟨r,r,hr,.inl rfl,hp,hR⟩
theorem Z8o {rs:List X2o} {R:PV->Prop} {r:PV} (hr:XW rs e h=some r) (hp:r.low.pure) (hR:R r.low):∃ r0 r,XW rs e h=some r0/\LoP r0 r/\r.pure/\R r:=⟨r,r.low,hr,.inr rfl,hp,hR⟩
def X36 (e:Env):List (Nat×PV)->Prop
 | []=>True
 | (k,p) :: r=>e k=some p/\X36 e r
theorem X36.some {L:List (Nat×PV)} (he:X36 e L) {k:Nat} {p:PV} (hk:X1F L k=some p):e k=some p:=by
 induction L with
 | nil=>cases hk
 | cons q r ih =>
   obtain⟨k',p'⟩:=q;obtain⟨h1,h2⟩:=he;simp only [X1F] at hk;by_cases hkk:k=k'
   . subst hkk; rw [Env.upd_same] at hk; cases hk; exact h1
   . rw [Env.upd_ne _ _ hkk] at hk; exact ih h2 hk
theorem Zbh {L:List (Nat×PV)} (he:X36 e L):Sub C n e h n (X1F L) h:=by
 rintro a w ⟨F,φ,s⟩;exact⟨F,φ,{ s with env:=fun k p hk=>s.env k p (he.some hk) }⟩
theorem ZhO {h':X0} (hh:∀ i b,h' i=some b->h i=some b):Sub C n e h n e h':=by
 rintro a w ⟨F,φ,s⟩;exact⟨F,φ,{ s with live:=fun i b hb=>s.live i b (hh i b hb),sep:=fun i j bi bj li lj k hi hj=>s.sep i j bi bj li lj k (hh _ _ hi) (hh _ _ hj) }⟩
theorem Z3U {X:Type} (I:X->Prop) (μ:X->Nat) (L:X->List (Nat×PV)) {body:X3} (x0:X) (h0:I x0) (hL:X36 e (L x0))
 (round:∀ x,I x->aw P C body (X3w (fun n' e' h'=>∃ x',I x'/\μ x'<μ x/\n'=n/\h'=h/\X36 e' (L x')) Q) n (X1F (L x)) h):aw P C (.loop body) Q n e h :=
 Z8h I μ (fun _=>n) (fun x=>X1F (L x)) (fun _=>h) x0 h0 (Zbh hL) fun x hx=>Z8e (round x hx) fun ex n e h hq=>by
  cases ex with
  | normal=>obtain⟨x',h1,h2,rfl,rfl,h4⟩:=hq; exact⟨x',h1,h2,Zbh h4⟩
  | _=>exact hq
def X50 (e:Env) (m:Nat):List (Nat×PV)->Prop
 | []=>True
 | (k,p) :: r=>(e k=some p/\p.inn (· < m))/\X50 e m r
def X3s (h:X0) (m:Nat):List (Nat×Bx)->Prop
 | []=>True
 | (k,b) :: r=>(k<m/\h k=some b/\XG (· < m) b.elems)/\X3s h m r
theorem X50.some {m:Nat} {L:List (Nat×PV)} (he:X50 e m L) {k:Nat} {p:PV} (hk:X1F L k=some p):e k=some p/\p.inn (· < m):=by
 induction L with
 | nil=>cases hk
 | cons q r ih =>
   obtain⟨k',p'⟩:=q;obtain⟨h1,h2⟩:=he;simp only [X1F] at hk;by_cases hkk:k=k'
   . subst hkk; rw [Env.upd_same] at hk; cases hk; exact h1
   . rw [Env.upd_ne _ _ hkk] at hk; exact ih h2 hk
theorem X3s.some {m:Nat} {L:List (Nat×Bx)} (he:X3s h m L) {k:Nat} {p:Bx} (hk:Xs L k=some p):k<m/\h k=some p/\XG (· < m) p.elems:=by
 induction L with
 | nil=>cases hk
 | cons q r ih =>
   obtain⟨k',p'⟩:=q;obtain⟨h1,h2⟩:=he;simp only [Xs] at hk;by_cases hkk:k=k'
   . subst hkk; rw [X0.upd_same] at hk; cases hk; exact h1
   . rw [X0.upd_ne _ _ hkk] at hk; exact ih h2 hk
theorem Z4G {m n':Nat} (hdom:C.dom m) (hm:m<=n') {L:List (Nat×PV)} {HL:List (Nat×Bx)} (he:X50 e n' L) (hh:X3s h n' HL):Sub C n e h n' (X1F L) (Xs HL):=by
 rintro a w ⟨F,φ,s⟩
 let φ':XE:=fun i=>if i<n' then φ i else none
 have hφ:∀ i x,i<n'->φ i=some x->φ' i=some x:=fun i x hi hx=>by simp only [φ',hi,Y1P]; exact hx
 refine⟨F,φ',{ nt:=s.nt,glob:=s.glob,marks:=s.marks,loc0:=fun i x hx=>?_,free:=fun i hi=>?_,env:=fun k p hp=>?_,froz:=s.froz,ext:=s.ext,old:=s.old,os:=s.os,tape:=s.tape,output:=s.output,size:=s.size,kept:=s.kept,live:=fun i b hb=>?_,sep:=?_ }⟩
 . have : ¬ i < n' := by omega
   simp only [φ',this,Y1G]
 . obtain ⟨h0, hr⟩ := he.some hp;exact⟨(s.env k p h0).1,(s.env k p h0).2.inn hφ hr⟩
 . by_cases him : i < m
   . exact hφ i x (by omega) (s.loc0 i x hx)
   . rw [hdom i (by omega)] at hx; cases hx
 . obtain ⟨hi, h0, hr⟩ := hh.some hb;obtain⟨loc,h1,h2,h3⟩:=s.live _ b h0;exact⟨loc,hφ i loc hi h1,h2.inn hφ hr,h3⟩
 . intro i j bi bj li lj k hi hj hli hlj hki hkj;obtain⟨hin,h0,_⟩:=hh.some hi;obtain⟨hjn,g0,_⟩:=hh.some hj;have hli':φ i=some li:=by simpa only [φ',show i<n' from hin,Y1P] using hli
   have hlj':φ j=some lj:=by simpa only [φ',show j<n' from hjn,Y1P] using hlj
   exact s.sep _ _ bi bj li lj k h0 g0 hli' hlj' hki hkj
theorem Zv {X:Type} {m:Nat} (hdom:C.dom m) (I:X->Prop) (μ:X->Nat) (N:Nat) (L:X->List (Nat×PV)) (HL:X->List (Nat×Bx)) {body:X3} (hm:m<=N) (x0:X) (h0:I x0) (hL:X50 e N (L x0)) (hH:X3s h N (HL x0))
 (round:∀ x,I x->aw P C body (X3w (fun n' e' h'=>∃ x',I x'/\μ x'<μ x/\X50 e' N (L x')/\X3s h' N (HL x')) Q) N (X1F (L x)) (Xs (HL x))):aw P C (.loop body) Q n e h :=
 Z8h I μ (fun _=>N) (fun x=>X1F (L x)) (fun x=>Xs (HL x)) x0 h0 (Z4G hdom hm hL hH) fun x hx=>Z8e (round x hx) fun ex n e h hq=>by
  cases ex with
  | normal=>obtain⟨x',h1,h2,h3,h4⟩:=hq; exact⟨x',h1,h2,Z4G hdom hm h3 h4⟩
  | _=>exact hq
def X4R (ρ:Nat->Nat) (e:Env) (m:Nat):List (Nat×PV)->Prop
 | []=>True
 | (k,p) :: r=>(∃ p0,e k=some p0/\X1S ρ (· < m) p0 p)/\X4R ρ e m r
def HQ1 (ρ:Nat->Nat) (h:X0) (m k:Nat) (b:Bx):Prop:=k<m/\∃ b0,h (ρ k)=some b0/\X1w ρ (· < m) b0 b
def X3n (ρ:Nat->Nat) (h:X0) (m:Nat):List (Nat×Bx)->Prop
 | []=>True
 | (k,b) :: r=>HQ1 ρ h m k b/\X3n ρ h m r
theorem X4R.mem {ρ:Nat->Nat} {m:Nat}:∀ {L:List (Nat×PV)},X4R ρ e m L->∀ q∈L,∃ p0,e q.1=some p0/\X1S ρ (· < m) p0 q.2
 | [],_,q,hq=>by cases hq
 | (k, p) :: r, h, q, hq => by
   rcases Ye.1 hq with rfl|hq
   . exact h.1
   . exact X4R.mem h.2 q hq
theorem X3n.mem {ρ:Nat->Nat} {m:Nat}:∀ {L:List (Nat×Bx)},X3n ρ h m L->∀ q∈L,q.1<m/\∃ b0,h (ρ q.1)=some b0/\X1w ρ (· < m) b0 q.2
 | [],_,q,hq=>by cases hq
 | (k, p) :: r, h, q, hq => by
   rcases Ye.1 hq with rfl|hq
   . exact h.1
   . exact X3n.mem h.2 q hq
def X47 (ρ:Nat->Nat) (HL:List (Nat×Bx)):Prop:=∀ q∈HL,∀ q'∈HL,ρ q.1=ρ q'.1->q.1=q'.1
theorem Z1n {X:Type} {m:Nat} (hdom:C.dom m) (I:X->Prop) (μ:X->Nat) (N:Nat) (L:X->List (Nat×PV)) (HL:X->List (Nat×Bx)) {body:X3} (hm:m<=N) (x0:X) (h0:I x0) (ρ0:Nat->Nat) (hρ0:∀ i,i<m->ρ0 i=i) (hi0:X47 ρ0 (HL x0)) (hL:X4R ρ0 e N (L x0)) (hH:X3n ρ0 h N (HL x0))
 (round:∀ x,I x->aw P C body (X3w (fun n' e' h'=>∃ x' ρ,I x'/\μ x'<μ x/\(∀ i,i<m->ρ i=i)/\X47 ρ (HL x')/\X4R ρ e' N (L x')/\X3n ρ h' N (HL x')) Q) N (X1F (L x)) (Xs (HL x))):aw P C (.loop body) Q n e h :=
 Z8h I μ (fun _=>N) (fun x=>X1F (L x)) (fun x=>Xs (HL x)) x0 h0 (Zbe ρ0 hL.mem hH.mem hi0 hdom hm hρ0) fun x hx=>Z8e (round x hx) fun ex n e h hq=>by
  cases ex with
  | normal=>obtain⟨x',ρ,h1,h2,h3,h4,h5,h6⟩:=hq; exact⟨x',h1,h2,Zbe ρ h5.mem h6.mem h4 hdom hm h3⟩
  | _=>exact hq
theorem Z5i {m n':Nat} (hdom:C.dom m) (L:List (Nat×PV)) (HL:List (Nat×Bx)) (hm:m<=n') (he:X50 e n' L) (hh:X3s h n' HL) {ac:X3} (hk:aw P C ac Q n' (X1F L) (Xs HL)):aw P C ac Q n e h:=Z1p (Z4G hdom hm he hh) hk
theorem Z2g {m:Nat} (hdom:C.dom m) (A:Prop) (N:Nat) (L:List (Nat×PV)) (HL:List (Nat×Bx)) {x y:X3} (hm:m<=N) (h1:aw P C x (X3w (fun n e h=>A/\X50 e N L/\X3s h N HL) Q) n e h) (h2:A->aw P C y Q N (X1F L) (Xs HL)):aw P C (.seq x y) Q n e h :=
 Zn (Z8e h1 fun ex n e h hq=>by
  cases ex with
  | normal=>obtain⟨ha,he,hh⟩:=hq; exact Z5i hdom L HL hm he hh (h2 ha)
  | _=>exact hq)
def Xr (P:Program) (C:Ctx) (body:X3) (Q:Exit->Nat->Env->X0->Prop):Nat->Nat->Env->X0->Prop
 | 0=>fun n e h=>aw P C body (X3w (fun _ _ _=>False) Q) n e h
 | m+1=>fun n e h=>aw P C body (X3w (Xr P C body Q m) Q) n e h
theorem Z4H {body:X3}:∀ (m:Nat) {n:Nat} {e:Env} {h:X0},Xr P C body Q m n e h->P.follows .mixedOrders=true->∀ (FN:Fence) (k:Nat),Xo FN k/\X4l FN C->∀ c,Xn P C.nt c=some body->∀ a w,St C (fun i=>n<=i) e h a w->Code.roundsIn FN k P c (X3v C Q) (m+1) a w
 | 0, n, e, h, hk, hm, FN, k, hok, c, hc, a, w, hs => by
   unfold Xr at hk;unfold aw at hk;refine Y2b (hk hm FN k hok c hc a w hs) fun x a w hp=>?_;obtain⟨n,e,h,hQ,hS⟩:=hp;cases x with
   | normal=>exact hQ.elim
   | _=>exact⟨n,e,h,hQ,hS⟩
 | m + 1, n, e, h, hk, hm, FN, k, hok, c, hc, a, w, hs => by
   unfold Xr at hk;unfold aw at hk;refine Y2b (hk hm FN k hok c hc a w hs) fun x a w hp=>?_;obtain⟨n,e,h,hQ,hS⟩:=hp;cases x with
   | normal=>exact Z4H m hQ hm FN k hok c hc a w hS
   | _=>exact⟨n,e,h,hQ,hS⟩
theorem Zh {body:X3} (m:Nat) (hk:Xr P C body Q m n e h):aw P C (.loop body) Q n e h:=by
 unfold aw;intro hm FN k hok c hc a w hs;have:∃ c1,c=.loop c1/\Xn P C.nt c1=some body:=by
  unfold Xn at hc
  split at hc<;>first
   | (split at hc<;>first|(simp at hc; subst hc; exact⟨_,rfl,by assumption⟩)|(simp at hc; done)|((repeat' (split at hc))<;>simp at hc; done))
   | (simp at hc; done)
 obtain⟨c1,rfl,h1⟩:=this;exact wpIn_loop_rounds (m+1) (Z4H m hk hm FN k hok c1 h1 a w hs)
end
theorem Qe {P:Program} {os:List Xm} {d:Option Nat} {n:Nat} {e:Env} {h:X0} {K:Nat->Env->X0->Prop} {f:Operand} {args:List Operand} {g:FuncId} {caps as0 args':List PV} {v:PV} (hs:X7 P g args' (· = v)) (hp:Xe args') (hk:Xj P os n (Xq e d v) h K) (hf:ev e f=some (.fn g caps):=by exact rfl) (ha:evs e args=some as0:=by exact rfl) (ha':as0++caps=args':=by exact rfl) (hz:h n=none:=by exact rfl):Xj P (⟨d,.call f args,none⟩ :: os) n e h K:=Z6 hs hf ha ha' hp hz hk
theorem Qo {P:Program} {os:List Xm} {d:Option Nat} {n:Nat} {e:Env} {h:X0} {K:Nat->Env->X0->Prop} {op:AOp} {p:PV} {h':X0} (hd:X1 op e h n=some (p,h')) (hk:Xj P os n (Xq e d p) h' K) (hn:X6 op=false:=by exact rfl) (hz:h' n=none:=by exact rfl):Xj P (⟨d,op,none⟩ :: os) n e h K:=Z3 hd hn hz hk
theorem Qy {e:Env} {h:X0} {n:Nat} {op:AOp} {p:Prop} [Decidable p] (hd:X1 op e h n=some (.val (.bool (decide p)),h)) (hp:p):X1 op e h n=some (.val (.bool true),h):=Za hd (YF hp)
theorem Qz {e:Env} {h:X0} {n:Nat} {op:AOp} {p:Prop} [Decidable p] (hd:X1 op e h n=some (.val (.bool (decide p)),h)) (hp:¬ p):X1 op e h n=some (.val (.bool false),h):=Za hd (Y0w hp)
theorem Qd {P:Program} {z:Rsv} {d:Option Nat} {n i mask:Nat} {e:Env} {h:X0} {f:Operand} {args:List Operand} {iso:Nat} {alt:Bool} {xs:List X5} {K:Env->X0->Prop} {g:FuncId} {caps as0 args':List PV} {v:PV} (hs:X7 P g args' (· = v)) (hp:Xe args') (hk:dK P z n xs (Xq e d v) h K) (hf:ev e f=some (.fn g caps):=by exact rfl) (ha:evs e args=some as0:=by exact rfl) (ha':as0++caps=args':=by exact rfl):dK P z n (⟨i,⟨d,.call f args,none⟩,mask,iso,alt⟩ :: xs) e h K:=ZL hs hf ha ha' hp hk
theorem Qr {P:Program} {z:Rsv} {d:Option Nat} {n i mask:Nat} {e:Env} {h:X0} {op:AOp} {iso:Nat} {xs:List X5} {K:Env->X0->Prop} {p:PV} {h':X0} (hd:X1 op e h (n+i)=some (p,h')) (hk:dK P z n xs (Xq e d p) h' K) (ha:X10 z op e n i mask iso=true:=by exact rfl) (hn:X6 op=false:=by exact rfl):dK P z n (⟨i,⟨d,op,none⟩,mask,iso,false⟩ :: xs) e h K:=Zu hd ha hn hk
theorem Qp {ρ:Nat->Nat} {D:Nat->Prop} {e:Env} {k:Nat} {p:PV} (hp:p.pure) (he:e k=some p:=by exact rfl):∃ p0,e k=some p0/\X1S ρ D p0 p:=⟨p,he,.pure p hp⟩
theorem Qt {ρ:Nat->Nat} {D:Nat->Prop} {e:Env} {k:Nat} (id i off:Nat) (hd:D id:=by decide) (he:e k=some (.ptr (ρ id) i off):=by exact rfl):∃ p0,e k=some p0/\X1S ρ D p0 (.ptr id i off):=⟨_,he,.ptr id i off hd⟩
theorem Qw {ρ:Nat->Nat} {D:Nat->Prop} {e:Env} {k:Nat} (id:Nat) (hd:D id:=by decide) (he:e k=some (.own (ρ id)):=by exact rfl):∃ p0,e k=some p0/\X1S ρ D p0 (.own id):=⟨_,he,.own id hd⟩
theorem Qs {ρ:Nat->Nat} {h:X0} {k m:Nat} {b:Bx} (hp:X2 b.elems) (hk:k<m:=by decide) (hb:h (ρ k)=some b:=by exact rfl):HQ1 ρ h m k b:=⟨hk,b,hb,.same b hp⟩
end
end Go.Proofs.YtgpjedjgmpienaaGreatDoor
