/-
  Merged from the texts that this claim's theorem needs, part 4 of 8. No statement of the seat is proved here.
-/
import Derived.Calls
import Derived.Laws.Bits64
import Derived.Lone
import Derived.StepT
import Derived.Test.YtgpjedjgmpienaaGreatDoorMq2
set_option linter.unusedSimpArgs false
set_option linter.unusedVariables false
set_option linter.unusedSectionVars false
set_option linter.defProp false
set_option maxRecDepth 100000
set_option maxHeartbeats 16000000
namespace Go.Proofs.YtgpjedjgmpienaaGreatDoor
section
open Go.RowKit
section
variable {P:Program} {C:Ctx} {Fr:Nat->Prop} {e:Env} {h:X0} {n:Nat} {F:XC} {φ:XE} {a:Act} {w:World} {K:Nat->Env->X0->Prop} {os:List Xm} {d:Option Nat} {Q:Exit->Nat->Env->X0->Prop}
theorem X15.frame {f:FuncId} {b:Bx} {rest:List PV} {R:PV->Bx->Prop} (hs:X15 P f b rest R) (hpb:X2 b.elems) (hpr:Xe rest) {id:Nat} (hb:h id=some b) :
 Xp P f n (.ptr id 0 0 :: rest) h fun n' r h'=>∃ b',n'=n/\h'=h.upd id b'/\r.pure/\X2 b'.elems/\R r b':=by
 refine⟨hs.1,fun C e F φ a w vs s hv=>(hs.run hpb hpr hb s hv).mono ?_⟩;rintro en w' ⟨v,r,b',F',rfl,⟨h1,h2,h3⟩,hvr,s'⟩;exact⟨v,r,n,_,F',φ,rfl,⟨b',rfl,rfl,h1,h2,h3⟩,hvr,s'⟩
theorem Zb {f:Operand} {args:List Operand} {g:FuncId} {caps as0 rest:List PV} {b:Bx} {id:Nat} {R:PV->Bx->Prop} (hs:X15 P g b rest R) (hf:ev e f=some (.fn g caps)) (ha:evs e args=some as0) (hr:as0++caps=.ptr id 0 0 :: rest) (hb:h id=some b) (hpb:X2 b.elems) (hpr:Xe rest)
 (hk:∀ r b',r.pure->X2 b'.elems->R r b'->Xj P os n (Xq e d r) (h.upd id b') K):Xj P (⟨d,.call f args,none⟩ :: os) n e h K:=by
 refine ZH hf ha (R:=fun n' r h'=>∃ b',n'=n/\h'=h.upd id b'/\r.pure/\X2 b'.elems/\R r b') (by rw [hr]; exact hs.frame hpb hpr hb) ?_;rintro n' r h' ⟨b',rfl,rfl,h1,h2,h3⟩;exact hk r b' h1 h2 h3
theorem ZE {f nt:Nat} {ac:X3} {rs:List X2o} (hf:X46 P f nt ac rs) {b:Bx} {rest:List PV} {R:PV->Bx->Prop} (hn:rest.length+1<=nt) (hk:∀ C:Ctx,C.dom 1->aw P C ac (X68 rs fun _ r h'=>∃ b',h' 0=some b'/\r.pure/\X2 b'.elems/\R r b') 1 (X1k (.ptr 0 0 0 :: rest)) (Xs [(0,b)])):X15 P f b rest R :=
 ZX hf hn hk
theorem Z12 {rs:List X2o} {R:PV->Bx->Prop} {r:PV} {b':Bx} (hr:XW rs e h=some r) (hp:r.pure) (hb:h 0=some b') (hpb:X2 b'.elems) (hR:R r b'):∃ r0 r,XW rs e h=some r0/\LoP r0 r/\∃ b',h 0=some b'/\r.pure/\X2 b'.elems/\R r b' :=
 ⟨r,r,hr,.inl rfl,b',hb,hp,hpb,hR⟩
theorem Z3b {rs:List X2o} {R:PV->Bx->Prop} {r:PV} {b':Bx} (hr:XW rs e h=some r) (hp:r.low.pure) (hb:h 0=some b') (hpb:X2 b'.elems) (hR:R r.low b'):∃ r0 r,XW rs e h=some r0/\LoP r0 r/\∃ b',h 0=some b'/\r.pure/\X2 b'.elems/\R r b' :=
 ⟨r,r.low,hr,.inr rfl,b',hb,hp,hpb,hR⟩
inductive X3N (id:Nat) (l:List (List PV)):PV->PV->Prop
 | pure (p:PV) (hp:p.pure):X3N id l p p
 | own:X3N id l (.own id) (.vec l false)
 | agg (xs ys:List PV) (hl:xs.length=ys.length) (h:∀ i,i<xs.length->X3N id l (xs.getD i pvu) (ys.getD i pvu)):X3N id l (.agg xs) (.agg ys)
 | tup (xs ys:List PV) (hl:xs.length=ys.length) (h:∀ i,i<xs.length->X3N id l (xs.getD i pvu) (ys.getD i pvu)):X3N id l (.tup xs) (.tup ys)
theorem X3N.rep {F':XC} {id:Nat} {l:List (List PV)} (hF:∀ x v,F x=some v->F' x=some v) (hown:∀ v,Rep F φ v (.own id)->Rep F' φ v (.vec l false)) {p q:PV} (hr:X3N id l p q):∀ {v:Value},Rep F φ v p->Rep F' φ v q:=by
 induction hr with
 | pure p hp=>exact fun h=>h.mono hF fun _ _ h=>h
 | own=>exact fun h=>hown _ h
 | agg xs ys hl _ ih =>
   intro v h;obtain⟨vs,rfl,h1,h2,h3⟩:=h.agg_inv;exact .agg vs ys (by rw [h1,hl]) (fun i hi=>h2 i (by rw [hl]; exact hi)) fun i hi=>ih i (by rw [hl]; exact hi) (h3 i (by rw [hl]; exact hi))
 | tup xs ys hl _ ih =>
   intro v h;obtain⟨vs,rfl,h1,h2⟩:=h.tup_inv;exact .tup vs ys (by rw [h1,hl]) fun i hi=>ih i (by rw [hl]; exact hi) (h2 i (by rw [hl]; exact hi))
theorem Z4d {k id:Nat} {b:Bx} {p q:PV} (hk:e k=some p) (hb:h id=some b) (hp:X2 b.elems) (hq:X3N id b.elems p q):Sub C n e h n (e.upd k q) (h.del id):=by
 rintro a w ⟨F,φ,s⟩;obtain⟨hlt,hr⟩:=s.env k _ hk;obtain⟨F',hx,s2,hr2⟩:=s.frzObj hb;refine⟨F',φ,{ s2 with env:=fun j p hj=>?_ }⟩;by_cases hjk:j=k
 . subst hjk; rw [Env.upd_same] at hj; cases hj; exact⟨hlt,hq.rep hx hr2 hr⟩
 . rw [Env.upd_ne _ _ hjk] at hj; exact s2.env j p hj
theorem Z5G {k id:Nat} {b:Bx} {p q:PV} (hk:e k=some p) (hb:h id=some b) (hp:X2 b.elems) (hq:X3N id b.elems p q):X4C n e h n (e.upd k q) (h.del id):=fun _=>Z4d hk hb hp hq
theorem Z7e {ob i0 j0:Nat} {bo:Bx} (esz:Nat) (hp:0<esz) (hob:h ob=some bo) (hi0:i0<bo.elems.length) (hj0:j0<(bo.elems.getD i0 []).length) (hcell:(bo.elems.getD i0 []).getD j0 pvu=.vec [] true) (hz:0<bo.esz:=by exact Y0 rfl) :
 Sub C n e h (n+1) e ((h.upd n ⟨esz,[]⟩).upd ob ⟨bo.esz,bo.elems.set i0 ((bo.elems.getD i0 []).set j0 (.own n))⟩):=by
 rintro a w ⟨F,φ,s⟩;obtain⟨v,hv,fin⟩:=s.cell (q:=.own n) hob hi0 hj0 hz;rw [hcell] at hv;obtain⟨base,rfl⟩:∃ base,v=.slice base 0 0:=by
  rcases hv.vec_inv with⟨_,h⟩|⟨x,cap,esz',cs,h,_,_,hf,_⟩
  . exact⟨none,h⟩
  . exact⟨some x,by rw [h,hf rfl]; rfl⟩
 have hφn:=s.free n (Y0m n);have hno:ob≠n:=fun e1=>by
  obtain⟨_,o1,_⟩:=s.live ob bo hob;rw [e1,hφn] at o1; cases o1
 exact⟨F,_,fin (fun _ _ h=>h) (Z1A hφn ⟨base,esz,0,0⟩) (by rw [X0.upd_ne _ _ hno]; exact hob) ((s.allocNil (Y0m n) base esz hp).weaken fun i hi=>⟨by omega,by omega⟩) (.own n ⟨base,esz,0,0⟩ (by simp [Xb]) hp)⟩
theorem Z6t {id:Nat} {b:Bx} {i0 j0:Nat} (hb:h id=some b) (hi0:i0<b.elems.length) (hj0:j0<(b.elems.getD i0 []).length) (hcell:(b.elems.getD i0 []).getD j0 pvu=.vec [] true) (esz:Nat) (hp:0<esz) (hn:id<n) (hz:0<b.esz:=by exact Y0 rfl) :
 Sub C n e h (n+1) e ((h.upd id ⟨b.esz,b.elems.set i0 ((b.elems.getD i0 []).set j0 (.own n))⟩).upd n ⟨esz,[]⟩):=by
 have hc:(h.upd id ⟨b.esz,b.elems.set i0 ((b.elems.getD i0 []).set j0 (.own n))⟩).upd n ⟨esz,[]⟩=(h.upd n ⟨esz,[]⟩).upd id ⟨b.esz,b.elems.set i0 ((b.elems.getD i0 []).set j0 (.own n))⟩:=by
  funext j;simp only [X0.upd];cases h1:Nat.beq j n<;>cases h2:Nat.beq j id<;>first|rfl|(have:=Yw h1; have:=Yw h2;omega)
 rw [hc];exact Z7e esz hp hb hi0 hj0 hcell hz
theorem Z1w {id:Nat} {b:Bx} {i0 j0:Nat} (hb:h id=some b) (hi0:i0<b.elems.length) (hj0:j0<(b.elems.getD i0 []).length) (hcell:(b.elems.getD i0 []).getD j0 pvu=.vec [] true) (esz:Nat) (hp:0<esz) (hn:id<n) (hz:0<b.esz:=by exact Y0 rfl) :
 X4C n e h (n+1) e ((h.upd id ⟨b.esz,b.elems.set i0 ((b.elems.getD i0 []).set j0 (.own n))⟩).upd n ⟨esz,[]⟩):=fun _=>Z6t hb hi0 hj0 hcell esz hp hn hz
def mv (k k':Nat):Nat->Nat:=fun i=>bif Nat.beq i k then k' else i
theorem ZhV {k k':Nat} {HL:List (Nat×Bx)} (hk:∀ q∈HL,q.1≠k'):X47 (mv k k') HL:=by
 intro q hq q' hq' h;unfold mv at h;by_cases h1:q.1=k<;>by_cases h2:q'.1=k
 . rw [h1,h2]
 . have e1 : Nat.beq q.1 k = true := by rw [h1]; exact Y2F k
   have e2:Nat.beq q'.1 k=false:=YK.2 fun hb=>h2 (Yw hb);rw [e1,e2] at h;exact absurd h.symm (hk q' hq')
 . have e1 : Nat.beq q'.1 k = true := by rw [h2]; exact Y2F k
   have e2:Nat.beq q.1 k=false:=YK.2 fun hb=>h1 (Yw hb);rw [e1,e2] at h;exact absurd h (hk q hq)
 . have e1 : Nat.beq q.1 k = false := YK.2 fun hb => h1 (Yw hb);have e2:Nat.beq q'.1 k=false:=YK.2 fun hb=>h2 (Yw hb);rw [e1,e2] at h;exact h
theorem Z3y {k k' m:Nat} (h:m<=k):∀ i,i<m->mv k k' i=i:=by
 intro i hi;have e1:Nat.beq i k=false:=YK.2 fun hb=>by have:=Yw hb; omega
 unfold mv;rw [e1]; rfl
theorem Z1e {ρ:Nat->Nat} {HL:List (Nat×Bx)} (h:((HL.map Prod.fst).all fun x=>(HL.map Prod.fst).all fun y => !(Nat.beq (ρ x) (ρ y))||Nat.beq x y)=true):X47 ρ HL:=by
 intro q hq q' hq' he;have h1:=YA.1 h q.1 (Y2U hq);have h2:=YA.1 h1 q'.1 (Y2U hq');rw [he] at h2;have e1:Nat.beq (ρ q'.1) (ρ q'.1)=true:=Y2F _;rw [e1] at h2;exact Yw (by simpa using h2)
theorem Z1a {HL:List (Nat×Bx)}:X47 (fun i=>i) HL:=fun _ _ _ _ h=>h
def X3C (ρ:Nat->Nat) (D:Nat->Prop):List PV->List PV->Prop
 | [],[]=>True
 | a :: r,b :: s=>X1S ρ D a b/\X3C ρ D r s
 | _,_=>False
theorem X3C.get {ρ:Nat->Nat} {D:Nat->Prop}:∀ {l m:List PV},X3C ρ D l m->l.length=m.length/\∀ j,j<m.length->X1S ρ D (l.getD j pvu) (m.getD j pvu)
 | [],[],_=>⟨rfl,fun j hj=>by simp at hj⟩
 | a :: r, b :: s, h => by
   obtain⟨h1,h2⟩:=X3C.get h.2;refine⟨by simp [h1],fun j hj=>?_⟩;cases j with
   | zero=>exact h.1
   | succ j=>exact h2 j (by simpa using hj)
 | [],_ :: _,h=>h.elim
 | _ :: _,[],h=>h.elim
theorem X1w.single {ρ:Nat->Nat} {D:Nat->Prop} {esz:Nat} {l0 l:List PV} (h:X3C ρ D l0 l) (hl:l.length=esz):X1w ρ D ⟨esz,[l0]⟩ ⟨esz,[l]⟩:=by
 obtain⟨h1,h2⟩:=h.get;by_cases hz:esz=0
 . subst hz;obtain rfl:l = []:=YD hl;obtain rfl:l0 = []:=YD h1;exact .same _ ⟨Yt,Yt⟩
 refine .gen _ _ (Y30 hz) rfl rfl (fun i hi=>?_) fun i j hi hj=>?_
 . have : i = 0 := by simpa using hi
   subst this; exact h1
 . have : i = 0 := by simpa using hi
   subst this; exact h2 j (by rw [hl]; exact hj)
def X3Z (id:Nat) (l:List (List PV)):List PV->List PV->Prop
 | [],[]=>True
 | a :: r,b :: s=>X3N id l a b/\X3Z id l r s
 | _,_=>False
theorem X3Z.agg {id:Nat} {l:List (List PV)} {xs ys:List PV} (h:X3Z id l xs ys):X3N id l (.agg xs) (.agg ys):=by
 have key:∀ {xs ys:List PV},X3Z id l xs ys->xs.length=ys.length/\∀ j,j<xs.length->X3N id l (xs.getD j pvu) (ys.getD j pvu):=by
  intro xs
  induction xs with
  | nil =>
    intro ys h;cases ys with
    | nil=>exact⟨rfl,fun j hj=>by simp at hj⟩
    | cons=>exact h.elim
  | cons a r ih =>
    intro ys h;cases ys with
    | nil=>exact h.elim
    | cons b s =>
      obtain⟨h1,h2⟩:=ih h.2;refine⟨by simp [h1],fun j hj=>?_⟩;cases j with
      | zero=>exact h.1
      | succ j=>exact h2 j (by simpa using hj)
 exact .agg xs ys (key h).1 (key h).2
end
mutual
def PV.pureB:PV->Bool
 | .val _=>true
 | .agg l=>X2l l
 | .tup l=>X2l l
 | .vec l _=>X37 l
 | .cp l=>X2l l
 | .ptr _ _ _=>false
 | .own _=>false
 | .view _ _ _=>false
 | .sl _ _ _ _ _=>false
 | .mp _=>false
 | .fn _ l=>X2l l
 | .bf _ l=>X2l l
def X2l:List PV->Bool
 | []=>true
 | p :: l=>p.pureB&&X2l l
def X37:List (List PV)->Bool
 | []=>true
 | p :: l=>X2l p&&X37 l
end
mutual
theorem Z1x:∀ {p:PV},p.pureB=true->p.pure
 | .val _,_=>trivial
 | .agg l,h=>by simp only [PV.inn]; exact ZV (by simpa [PV.pureB] using h)
 | .tup l,h=>by simp only [PV.inn]; exact ZV (by simpa [PV.pureB] using h)
 | .vec l _,h=>by simp only [PV.inn]; exact ZP (by simpa [PV.pureB] using h)
 | .cp l,h=>by simp only [PV.inn]; exact ZV (by simpa [PV.pureB] using h)
 | .ptr _ _ _,h=>by simp [PV.pureB] at h
 | .own _,h=>by simp [PV.pureB] at h
 | .view _ _ _,h=>by simp [PV.pureB] at h
 | .sl _ _ _ _ _,h=>by simp [PV.pureB] at h
 | .mp _,h=>by simp [PV.pureB] at h
 | .fn _ l,h=>by simp only [PV.inn]; exact ZV (by simpa [PV.pureB] using h)
 | .bf _ l,h=>by simp only [PV.inn]; exact ZV (by simpa [PV.pureB] using h)
theorem ZV:∀ {l:List PV},X2l l=true->Xe l
 | [],_=>trivial
 | p :: l, h => by
   simp only [X2l,Y0k] at h;exact⟨Z1x h.1,ZV h.2⟩
theorem ZP:∀ {l:List (List PV)},X37 l=true->X2 l
 | [],_=>trivial
 | p :: l, h => by
   simp only [X37,Y0k] at h;exact⟨ZV h.1,ZP h.2⟩
end
def KpF (F:XC) (A B:World):Prop:=(∀ x v,F x=some v->A.cell? x=some v->B.cell? x=some v)/\B.os=A.os/\B.tape=A.tape/\B.output=A.output/\A.heap.size<=B.heap.size
theorem KpF.trans {F:XC} {A B C:World} (h:KpF F A B) (k:KpF F B C):KpF F A C :=
 ⟨fun x v hx hv=>k.1 x v hx (h.1 x v hx hv),k.2.1.trans h.2.1,k.2.2.1.trans h.2.2.1,k.2.2.2.1.trans h.2.2.2.1,Y03 h.2.2.2.2 k.2.2.2.2⟩
theorem KpF.refl (F:XC) (A:World):KpF F A A:=⟨fun _ _ _ h=>h,rfl,rfl,rfl,Y0m _⟩
theorem KpF.grown {F:XC} {A B:World} {row:Option Nat} (hg:A.grownBy B row) (hrow:∀ r,row=some r->∃ o:Obj,A.heap[r]?=some o/\o.isCells=false):KpF F A B :=
 ⟨fun x v _ hv=>cell_kept hv hg hrow,hg.os,hg.tape,hg.output,hg.size⟩
def X4f (P:Program) (g:FuncId) (caps:List PV) {α:Type} (encs:α->List Value) (S Sp:List α->Prop) (M:Nat):Prop :=
 X12 P g/\∀ (F:XC) (w:World) (lb:Array Value) (FN:Fence) (m:Nat),Xo FN m->Holds F w->X1Y F Xz lb caps->SeqStopsK FN m P g lb (fun x=>(encs x).toArray) (KpF F) S Sp M w
def Ctx.apart (h:X0) (φ:XE) (F:XC) (w:World) (nt:Nat):Ctx:=⟨w,fun k=>∃ i b loc,h i=some b/\φ i=some loc/\loc.has k,F,nt,φ⟩
section
variable {P:Program} {C:Ctx} {Fr Fr':Nat->Prop} {e e':Env} {h h':X0} {F F':XC} {φ φ':XE} {a a':Act} {w w':World}
theorem St'.owned (s:St' C Fr e h F φ a w) {nt k:Nat} (hk:(Ctx.apart h φ F w nt).G k):(C.w0.heap.size<=k \/ C.G k)/\((∃ cells t,w.heap[k]?=some (.cells cells t (0,0))) \/ ∃ es t,w.heap[k]?=some (.map es t)):=by
 obtain⟨i,b,loc,hi,hl,hc⟩:=hk;obtain⟨loc',h1,h2,h3⟩:=s.live i b hi;obtain rfl:loc'=loc:=by rw [h1] at hl; simpa using hl
 refine⟨(h3 k hc).1,?_⟩;exact h2.there hc
theorem St'.enter (s:St' C Fr e h F φ a w):St' (Ctx.apart h φ F w C.nt) Fr e h F φ { a with defers := [] } w:=by
 refine { nt:=s.nt,glob:=s.glob,marks:=X2f.nil rfl,loc0:=fun i x hx=>hx,free:=s.free,env:=s.env,froz:=s.froz,ext:=fun _ _ h=>h,old:=fun _ _ _=>rfl,os:=rfl,tape:=rfl,output:=rfl,size:=Y0m _,kept:=fun _ _ _=>rfl,live:=fun id b hb=>?_,sep:=s.sep };obtain⟨loc,h1,h2,h3⟩:=s.live id b hb;exact⟨loc,h1,h2,fun k hk=>⟨.inr ⟨id,b,loc,hb,h1,hk⟩,(h3 k hk).2⟩⟩
theorem St'.back (s:St' C Fr e h F φ a w) {nt:Nat} (s':St' (Ctx.apart h φ F w nt) Fr' e' h' F' φ' a' w'):St' C Fr' e h' F' φ' a w':=by
 have hne:∀ k,w.heap[k]?=some (.deferred (some []))->¬ (Ctx.apart h φ F w nt).G k:=fun k hk hg=>by
  rcases (s.owned hg).2 with⟨cells,t,hc⟩|⟨es,t,hc⟩
  . rw [hk] at hc; cases hc
  . rw [hk] at hc; cases hc
 refine { nt := s.nt, glob := s'.glob, marks := s.marks.mono fun k hk => ?_, loc0 := fun i x hx => s'.loc0 i x (s.loc0 i x hx), free := s'.free, env := fun k p hp => ⟨(s.env k p hp).1, (s.env k p hp).2.mono s'.ext s'.loc0⟩, froz := s'.froz, ext := fun x v hx => s'.ext _ _ (s.ext x v hx),
          old:=fun x hx hg=>?_,os:=s'.os.trans s.os,tape:=s'.tape.trans s.tape,output:=s'.output.trans s.output,size:=Y03 s.size s'.size,kept:=fun k hk hg=>?_,live:=fun i b hi=>?_,sep:=s'.sep }
 . exact (s'.kept k (Y9.1 hk).1 (hne k hk)).trans hk
 . have hx2 : x.block < w.heap.size := YW hx s.size;rw [s'.old x hx2 fun hg'=>(s.owned hg').1.elim (fun h1=>absurd hx (Y2R.2 h1)) hg];exact s.old x hx hg
 . have := s'.kept k (YW hk s.size) fun hg' => (s.owned hg').1.elim (fun h1 => absurd hk (Y2R.2 h1)) hg;exact this.trans (s.kept k hk hg)
 . obtain ⟨loc, h1, h2, h3⟩ := s'.live i b hi;refine⟨loc,h1,h2,fun k hk=>⟨?_,(h3 k hk).2⟩⟩;rcases (h3 k hk).1 with h4|h4
   . exact .inl (Y03 s.size h4)
   . exact (s.owned h4).1
theorem St'.apart_keeps (s:St' C Fr e h F φ a w) {nt:Nat} (s':St' (Ctx.apart h φ F w nt) Fr' e' h' F' φ' a' w') (hnm:∀ i b,h i=some b->0<b.esz) (B:Nat):KeepsFrom B w w':=by
 refine⟨s'.size,fun k o _ hk ho=>?_⟩;refine (s'.kept k (Y9.1 hk).1 fun hg=>?_).trans hk;obtain⟨i,b,loc,hi,hl,hc⟩:=hg;obtain⟨loc',h1,h2,h3⟩:=s.live i b hi;obtain rfl:loc'=loc:=by rw [h1] at hl; simpa using hl
 obtain⟨hc0,x,hx,rfl⟩:=hc;obtain⟨y,hy,_,cells,t,hg,_⟩:=(h2.cellsB (hnm i b hi)).room hc0;obtain rfl:y=x:=by rw [hy] at hx; simpa using hx
 rw [hk] at hg;cases hg;cases ho
theorem St'.apart_kp (s:St' C Fr e h F φ a w) {nt:Nat} (s':St' (Ctx.apart h φ F w nt) Fr' e' h' F' φ' a' w') {F0:XC} (h0:∀ x v,F0 x=some v->F x=some v):KpF F0 w w' :=
 ⟨fun x v hx _=>(s'.froz x v (s'.ext x v (h0 x v hx))).2.2,s'.os,s'.tape,s'.output,s'.size⟩
theorem ZfW {N nt:Nat} (hfr:∀ i,N<=i->φ i=none):(Ctx.apart h φ F w nt).dom N:=hfr
end
def X6U (e:Env):List Nat->List Value->Env
 | p :: ps,v :: vs=>X6U (e.upd p (.val v)) ps vs
 | _,_=>e
def X4J (a:Act):List Nat->List Value->Act
 | p :: ps,v :: vs=>X4J (a.put (some p) v) ps vs
 | _,_=>a
def X6m (e:Env):List (Nat×Operand)->Option Env
 | []=>some e
 | (d, x) :: l => match ev e x with
   | some p=>X6m (e.upd d p) l
   | none=>none
def X5X (a:Act):List (Nat×Operand)->Act
 | []=>a
 | (d,x) :: l=>X5X (a.put (some d) (a.eval x)) l
theorem Z6u:∀ (ps:List Nat) (vs:List Value) (a:Act),(X4J a ps vs).defers=a.defers
 | [],_,_=>rfl
 | _ :: _,[],_=>rfl
 | p :: ps,v :: vs,a=>by simp only [X4J]; exact Z6u ps vs _
theorem Z9R:∀ (ps:List Nat) (vs:List Value) (a:Act),(X4J a ps vs).tmps=(ps.zip vs).foldl (fun t (p,v)=>t.setIfInBounds p v) a.tmps
 | [],_,_=>rfl
 | _ :: _,[],_=>rfl
 | p :: ps,v :: vs,a=>by simp only [X4J,List.zip_cons_cons,Y1d]; exact Z9R ps vs _
section
variable {P:Program} {C:Ctx} {Fr Fr':Nat->Prop} {h h':X0} {F F':XC} {φ φ':XE} {w w':World}
theorem St'.params:∀ {ps:List Nat} {vs:List Value} {e:Env} {a:Act},St' C Fr e h F φ a w->(∀ p∈ps,p<C.nt)->St' C Fr (X6U e ps vs) h F φ (X4J a ps vs) w
 | [],_,_,_,s,_=>s
 | _ :: _,[],_,_,s,_=>s
 | p :: ps,v :: vs,e,a,s,hps=>(s.put (hps p (by simp)) (.val v)).params fun q hq=>hps q (by simp [hq])
theorem St'.moves:∀ {l:List (Nat×Operand)} {e e':Env} {a:Act},St' C Fr e h F φ a w->(∀ q∈l,q.1<C.nt)->X6m e l=some e'->St' C Fr e' h F φ (X5X a l) w
 | [],e,e',a,s,_,he=>by cases he; exact s
 | (d, x) :: l, e, e', a, s, hl, he => by
   simp only [X6m] at he
   split at he
   . rename_i p hp;exact (s.put (hl _ (Y0t ..)) (s.eval hp)).moves (fun q hq=>hl q (by simp [hq])) he
   . cases he
theorem Zd1 {FN:Fence} {m:Nat} (hok:Xo FN m) {ops:Array Oper} {K:Act->World->Prop}:∀ {l:List Oper} {ms:List (Nat×Operand)} {a:Act},X2Z l=some ms->K (X5X a ms) w->wpListIn FN m P ops (Exit.then K (fun _ _ _=>False)) l a w
 | [], ms, a, hc, hk => by
   obtain rfl : []=ms:=by simpa [X2Z] using hc
   exact hk
 | o :: r, ms, a, hc, hk => by
   have key:∀ (x:Operand) (d:Nat) (l':List (Nat×Operand)) (op:AOp),cOp P o=some op->execOp a.eval o=pure (.value (a.eval x))->o.guard=none->o.dst=some d->X2Z r=some l'->ms=(d,x) :: l'->wpListIn FN m P ops (Exit.then K (fun _ _ _=>False)) (o :: r) a w:=by
    intro x d l' op hop hex hg hd hr hms;subst hms;simp only [wpListIn];rw [Y7 (by simp [Region.wanted,hg])];refine⟨fun f _=>hok.fn f,?_⟩;rw [Y2O FN.round a.eval o (Z2U hop),hex];have:=Zd1 hok (ops:=ops) (a:=a.put (some d) (a.eval x)) hr hk;rw [<- hd] at this;exact this
   simp only [X2Z] at hc
   split at hc
   . rename_i x d l' ho hg hd hr;exact key x d l' (.mov x) (by simp [cOp,ho]) (by simp [execOp,ho]) hg hd hr (by simpa using hc.symm)
   . rename_i x d l' ho hg hd hr;exact key x d l' (.mov x) (by simp [cOp,ho]) (by simp [execOp,ho]) hg hd hr (by simpa using hc.symm)
   . cases hc
theorem Zkl {FN:Fence} {m:Nat} (hok:Xo FN m) {K:Act->World->Prop} {c:Code} {ms:List (Nat×Operand)} {a:Act} (hc:X6d c=some ms) (hk:K (X5X a ms) w):c.wpIn FN m P (Exit.then K (fun _ _ _=>False)) a w:=by
 unfold X6d at hc
 split at hc
 . cases hc;exact wpIn_skip hk
 . exact Y3g (Zd1 hok hc hk)
 . cases hc
end
def X5D {β:Type} (B:Exit->β->Prop) (m N:Nat) (L:List (Nat×PV)) (HL:β->List (Nat×Bx)):Exit->Nat->Env->X0->Prop :=
 fun ex _ _ h'=>(ex=.normal \/ ex=.ret \/ ∃ id,ex=.exit id)/\∃ z ρ,B ex z/\(∀ i,i<m->ρ i=i)/\X47 ρ (HL z)/\X4R ρ (X1F L) N L/\X3n ρ h' N (HL z)
theorem Z3z {FN:Fence} {m:Nat} (h:Xo FN m) (l k:Nat):Xo (FN.inRound l) k:=by
 refine⟨h.fn,h.depth,fun P f args w R hc=>?_⟩;obtain⟨h1,h2⟩:=h.calls P f args w R hc;exact CallsIn.inRound l ⟨h1,fun cs _=>h2 cs fun d hd=>by rw [h.depth] at hd; cases hd⟩
theorem Zbu {FN:Fence} {m:Nat} (h:Xo FN m) (k:Nat):Xo FN k:=by
 refine⟨h.fn,h.depth,fun P f args w R hc=>?_⟩;obtain⟨h1,h2⟩:=h.calls P f args w R hc;exact⟨h1,fun cs _=>h2 cs fun d hd=>by rw [h.depth] at hd; cases hd⟩
theorem ZhW {FN:Fence} {m:Nat} (hd:FN.depth=none) (k:Nat) {P:Program} {c:Code} {Q:Exit->Act->World->Prop} {a:Act} {w:World} (h:c.wpIn FN k P Q a w):c.wpIn FN m P Q a w :=
 fun b kk cs hro hb _=>h b kk cs hro hb fun d hd'=>by rw [hd] at hd'; cases hd'
theorem World.grownBy_refl (W:World):W.grownBy W none:=⟨rfl,rfl,rfl,Y0m _,fun _ _ _=>rfl⟩
section
variable {P:Program} {C:Ctx} {e:Env} {h:X0} {n:Nat} {Q:Exit->Nat->Env->X0->Prop}
theorem Zd2 {α X:Type} {m0:Nat} (hdom:C.dom m0) {f:Operand} {ps:List Nat} {asg:List (Nat×Operand)} {body:X3} {g:FuncId} {caps:List PV} {encs:α->List Value} {S Sp:List α->Prop} {M:Nat} (L:List (Nat×PV)) (HL:X->List (Nat×Bx))
 (hf:ev (X1F L) f=some (.fn g caps)) (hp:Xe caps) (hit:X4f P g caps encs S Sp M) (henc:∀ x,(encs x).length=ps.length)
 (B:Exit->List α->X->Prop) (N:Nat) (hm:m0<=N) (z0:X) (h0:B .normal [] z0) (hs0:Sub C n e h N (X1F L) (Xs (HL z0))) (hnm:∀ z,∀ q∈HL z,0<q.2.esz)
 (e2:α->Env) (he2:∀ x,X6m (X6U (X1F L) ps (encs x)) asg=some (e2 x))
 (round:∀ (C2:Ctx),C2.dom N->∀ pre x z,B .normal pre z->pre.length<M->aw P C2 body (X5D (fun ex z'=>B ex (pre ++ [x]) z') m0 N L HL) N (e2 x) (Xs (HL z)))
 (done:∀ xs z,S xs->B .normal xs z->Q .normal N (X1F L) (Xs (HL z)))
 (stop:∀ ex pre z,Sp pre->B ex pre z->(ex=.ret \/ ∃ id,ex=.exit id)->Q ex N (X1F L) (Xs (HL z))):aw P C (.range f ps asg body) Q n e h:=by
 intro hmx FN m hokl c hc a w hs;obtain⟨hok,hlo⟩:=hokl;have:∃ ps' cg cb,c=.rangeFunc f ps' cg cb/\ps'.toList=ps/\X6d cg=some asg/\Xn P C.nt cb=some body/\(∀ p∈ps,p<C.nt)/\∀ q∈asg,q.1<C.nt:=by
  unfold Xn at hc
  split at hc<;>first
   | (simp at hc; done)
   | (split at hc
      . split at hc
        . rename_i hall;simp only [Y3Q,X3.range.injEq] at hc;obtain⟨rfl,rfl,rfl,rfl⟩:=hc;simp only [Y0k,YA,Y0n] at hall;exact⟨_,_,_,rfl,rfl,by assumption,by assumption,hall.1,hall.2⟩
        . simp at hc
      . simp at hc)
   | ((repeat' (split at hc))<;>simp at hc; done)
 obtain⟨ps',cg,cb,rfl,rfl,hcg,hcb,hpl,hal⟩:=this;obtain⟨F1,φ1,s1⟩:=hs0 a w hs;obtain⟨lb,hlb,hlz,hlr⟩:=(s1.eval hf).fn_inv;have hrep:X1Y F1 Xz lb caps:=⟨hlz,fun i hi=>(hlr i hi).pure (ZW hp i)⟩
 obtain⟨⟨fn,hfn,hname,hbody⟩,hcon⟩:=hit;have eg:∀ args w,(callFunc g args).run P w=.ok (.enter g args) w:=fun args w=>by
  have h1 : ¬ fn.name = "runtime.NumGoroutine" := by simpa using hname
  have h2:¬ fn.body=none:=fun h=>by rw [h] at hbody; simp at hbody
  simp [callFunc,hfn,h1,h2]
 have hcon':∀ k,SeqStopsK FN k P g lb (fun x=>(encs x).toArray) (KpF F1) S Sp M w:=fun k=>hcon F1 w lb FN k (Zbu hok k) ⟨s1.froz,s1.glob⟩ hrep;have hmk:∀ d∈a.defers,∀ D,d={ target:=.collected D,args := #[] }->D<w.heap.size:=fun d hd D hD=>by
  obtain⟨D1,e1,_,e3⟩:=s1.marks.all d hd;rw [e1] at hD;have:D1=D:=by simpa using hD
  rw [<- this];exact (Y9.1 e3).1
 let I:List α->World->Prop:=fun pre W=>∃ z,B .normal pre z/\∃ F φ,(∀ x v,F1 x=some v->F x=some v)/\St' C (fun i=>N<=i) (X1F L) (Xs (HL z)) F φ a W
 let Ix:Code->List α->World->Prop:=fun c pre W=>∃ ex z,((c=.ret/\ex=.ret) \/ ∃ id,c=.exit id/\ex=.exit id)/\B ex pre z/\∃ F φ,St' C (fun i=>N<=i) (X1F L) (Xs (HL z)) F φ a W
 have hnm':∀ z i b,Xs (HL z) i=some b->0<b.esz:=fun z i b hb=>hnm z (i,b) (Z1s hb);have turn:∀ {W W':World} {row:Option Nat} {F:XC} {φ:XE} {hh:X0},St' C (fun i=>N<=i) (X1F L) hh F φ a W->(∀ i b,hh i=some b->0<b.esz)->W.grownBy W' row->(∀ r,row=some r->w.heap.size<=r/\∃ o:Obj,W.heap[r]?=some o/\o.isCells=false)->St' C (fun i=>N<=i) (X1F L) hh F φ a W':=by
  intro W W' row F φ hh s hnm hg hr;refine s.turned hg (fun r he=>⟨Y03 s1.size (hr r he).1,(hr r he).2⟩) (.inl hnm) rfl ⟨s.marks.nd,fun d hd=>?_⟩;obtain⟨D,e1,e2,e3⟩:=s.marks.all d hd;refine⟨D,e1,e2,?_⟩;have:=hmk d hd D e1;rw [hg.block D (Y9.1 e3).1 (fun he=>by have:=(hr D he.symm).1;omega)];exact e3
 have hI:OwnFrom w.heap.size I:=by
  rintro pre W W' row ⟨z,hB,F,φ,hF,s⟩ hg hr;exact⟨z,hB,F,φ,hF,turn s (hnm' z) hg hr⟩
 have hIx:∀ c,OwnFrom w.heap.size (Ix c):=by
  rintro c pre W W' row ⟨ex,z,hc,hB,F,φ,s⟩ hg hr;exact⟨ex,z,hc,hB,F,φ,turn s (hnm' z) hg hr⟩
 have hI0:I [] w:=⟨z0,h0,F1,φ1,fun _ _ h=>h,s1⟩
 have hact:∀ x,({ tmps:=(ps'.zip (encs x).toArray).foldl (fun t (p,v)=>t.setIfInBounds p v) a.tmps,defers := [] }:Act)=X4J { a with defers := [] } ps'.toList (encs x):=fun x=>by
  have h1:=Z9R ps'.toList (encs x) { a with defers := [] };have h2:=Z6u ps'.toList (encs x) { a with defers := [] };have h3:(ps'.zip (encs x).toArray).foldl (fun t (p,v)=>t.setIfInBounds p v) a.tmps=(ps'.toList.zip (encs x)).foldl (fun t (p,v)=>t.setIfInBounds p v) a.tmps:=by
   rw [<- Y3P,Array.toList_zip]
  rw [h3];generalize X4J { a with defers := [] } ps'.toList (encs x)=b at h1 h2;obtain⟨bt,bd⟩:=b;simp only at h1 h2;rw [h1,h2]
 let Ax:α->Act->World->Prop:=fun x a' _=>a'=X5X (X4J { a with defers := [] } ps'.toList (encs x)) asg
 have hassign:∀ (k l:Nat) (pre:List α) (x:α) (W:World) (K:Act->World->Prop),I pre W->(∀ a' W',KeepsFrom w.heap.size W W'->KpF F1 W W'->I pre W'->Ax x a' W'->K a' W') ->
  cg.wpIn (FN.inRound l) k P (Exit.then K (fun _ _ _=>False)) { tmps:=(ps'.zip (encs x).toArray).foldl (fun t (p,v)=>t.setIfInBounds p v) a.tmps,defers := [] } W:=by
  intro k l pre x W K hi hK;rw [hact];exact Zkl (Z3z hok l k) hcg (hK _ _ (KeepsFrom.refl _ _) (KpF.refl _ _) hi rfl)
 have hround:∀ (k l:Nat) (pre:List α) (x:α) (a':Act) (W:World),(∃ r,W.heap[l]?=some (.loop r))->I pre W->Ax x a' W->pre.length<M->cb.wpIn (FN.inRound l) k P (ownPostG w.heap.size (KpF F1) I Ix (pre ++ [x]) W) a' W:=by
  rintro k l pre x a' W ⟨r,hl⟩ ⟨z,hB,F,φ,hF,s⟩ rfl hlen;have s3:=(s.enter.params (ps:=ps'.toList) (vs:=encs x) hpl).moves hal (he2 x);have hlo2:X4l (FN.inRound l) (Ctx.apart (Xs (HL z)) φ F W C.nt):=by
   intro l' hl';obtain rfl:l=l':=by simpa [Fence.inRound] using hl'
   refine⟨⟨r,hl⟩,fun hg=>?_⟩;rcases (s.owned hg).2 with⟨cells,t,hc⟩|⟨es,t,hc⟩
   . rw [hl] at hc; cases hc
   . rw [hl] at hc; cases hc
  refine Y2b (round _ (ZfW s.free) pre x z hB hlen hmx (FN.inRound l) k ⟨Z3z hok l k,hlo2⟩ cb hcb _ W ⟨F,φ,s3⟩) ?_;rintro ex a3 W3 ⟨n',e',h',⟨hex,z',ρ,hB',hρ,hinj,hEq,hHq⟩,F',φ',s4⟩;obtain ⟨φ'',s5⟩ := (s.back s4).ren ρ hEq.mem hHq.mem hinj hdom hm hρ;have hF':∀ x v,F1 x=some v->F' x=some v:=fun x v hx=>s4.ext x v (hF x v hx);rcases hex with rfl|rfl|⟨id,rfl⟩
  . exact ⟨s.apart_keeps s4 (hnm' z) _,s.apart_kp s4 hF,z',hB',F',φ'',hF',s5⟩
  . exact ⟨s.apart_keeps s4 (hnm' z) _,.ret,z',.inl ⟨rfl,rfl⟩,hB',F',φ'',s5⟩
  . exact ⟨s.apart_keeps s4 (hnm' z) _,.exit id,z',.inr ⟨id,rfl,rfl⟩,hB',F',φ'',s5⟩
 have hKb:∀ (W:World) (l:Nat) (o o':Obj),w.heap.size<=l->W.heap[l]?=some o->o.isCells=false->o.isWalk=false->KpF F1 W (W.putObj l o'):=fun W l o o' _ hl ho _=>KpF.grown (grownBy_putObj' W l o') fun r hr=>by cases hr; exact⟨o,hl,ho⟩
 have hps:∀ x,((encs x).toArray).size=ps'.size:=fun x=>by have:=henc x; simpa using this
 have hfin:∀ (a':Act) (c:Code) (ex:Exit) (W:World),((c=.ret/\ex=.ret) \/ ∃ id,c=.exit id/\ex=.exit id)->X3v C Q ex a' W->∀ k,c.wpIn FN k P (X3v C Q) a' W:=by
  rintro a' c ex W (⟨rfl,rfl⟩|⟨id,rfl,rfl⟩) hq k
  . exact wpIn_ret hq
  . exact wpIn_exit hq
 refine ZhW hok.depth (m+1) ?_;cases hro:FN.round with
 | none =>
   have hnew:∀ (D:Nat) {W:World} {F:XC} {φ:XE} {hh:X0},w.heap.size<=D->W.heap[D]?=some (.deferred (some []))->St' C (fun i=>N<=i) (X1F L) hh F φ a W->St' C (fun i=>N<=i) (X1F L) hh F φ { a with defers:={ target:=.collected D,args := #[] } :: a.defers } W:=by
    intro D W F φ hh hD hd s;refine s.turned (World.grownBy_refl W) (fun r hr=>by cases hr) (.inr fun r es t hr=>by cases hr) rfl ⟨Y21.2 ⟨fun hin=>?_,s.marks.nd⟩,fun d hd'=>?_⟩
    . have:=hmk _ hin D rfl; omega
    . rcases Ye.1 hd' with rfl | hd'
      . exact⟨D,rfl,Y03 s1.size hD,hd⟩
      . exact s.marks.all d hd'
   refine wpIn_rangeFunc_ownH hro (by omega) hlb (hok.fn g) eg (hcon' _) (fun h k=>h.trans k) hKb (Y3V _ _) hps I Ix hI hIx hI0 Ax (fun x a' _ W W' row h _ _=>h) (fun l=>hassign _ l) (fun l pre x a' W _ hl hi hx hlen=>hround _ l pre x a' W hl hi hx hlen) ?_ ?_
   . rintro D xs W hD hS ⟨z, hB, F, φ, _, s⟩ hd;exact⟨N,_,_,done xs z hS hB,F,φ,hnew D hD hd s⟩
   . rintro D c pre W hD hS ⟨ex, z, hcx, hB, F, φ, s⟩ hd;refine hfin _ c ex W hcx ⟨N,_,_,stop ex pre z hS hB ?_,F,φ,hnew D hD hd s⟩ _;rcases hcx with⟨_,h⟩|⟨id,_,h⟩
     . exact .inl h
     . exact .inr ⟨id,h⟩
 | some l₀ =>
   obtain⟨⟨r₀,hr₀⟩,hg₀⟩:=hlo l₀ hro;have hw₀:w.heap[l₀]?=some (.loop r₀):=(s1.kept l₀ (Y9.1 hr₀).1 hg₀).trans hr₀;refine wpIn_rangeFunc_ownN hro hw₀ (by omega) hlb (hok.fn g) eg (hcon' _) (fun h k=>h.trans k) hKb (Y3V _ _) hps I Ix hI hIx hI0 Ax (fun x a' _ W W' row h _ _=>h) (fun l=>hassign _ l) (fun l pre x a' W _ hl hi hx hlen=>hround _ l pre x a' W hl hi hx hlen) ?_ ?_
   . rintro xs W hS ⟨z, hB, F, φ, _, s⟩;exact⟨N,_,_,done xs z hS hB,F,φ,s⟩
   . rintro c pre W hS ⟨ex, z, hcx, hB, F, φ, s⟩;refine hfin _ c ex W hcx ⟨N,_,_,stop ex pre z hS hB ?_,F,φ,s⟩ _;rcases hcx with⟨_,h⟩|⟨id,_,h⟩
     . exact .inl h
     . exact .inr ⟨id,h⟩
end
def X1x (op:AOp) (e:Env):Option PV :=
 match op with
 | .mov x=>ev e x
 | .bin op .num x y => match ev e x, ev e y with
   | some (.val a),some (.val b)=>(X3R op a b).map .val
   | _,_=>none
 | .una op x => match ev e x with
   | some p=>X6j op p
   | none=>none
 | .faddr off x => match ev e x with
   | some (.cp l)=>some (.cp (l.drop off))
   | _=>none
 | .load false 1 x => match ev e x with
   | some (.cp (p :: _))=>some p
   | _=>none
 | .len x => match ev e x with
   | some (.vec l _)=>some (.val (.int .i64 l.length))
   | _=>none
 | .iaddr esz x i => match ev e x, ev e i with
   | some (.vec l _), some (.val (.int _ n)) => if 0 <= n /\ n < (l.length : Int) then
      (if (l.getD n.toNat []).length=esz then some (.cp (l.getD n.toNat [])) else none) else none
   | _,_=>none
 | _=>none
section
variable {P:Program} {F:XC} {a:Act} {w:World} {e:Env} {nt:Nat}
structure X2U (nt:Nat) (F:XC) (e:Env) (a:Act):Prop where
 sz:a.tmps.size=nt
 nd:a.defers = []
 env:∀ k p,e k=some p->k<nt/\Rep F Xz (a.tmps.getD k undef) p
theorem X2U.eval (s:X2U nt F e a) (hF:Holds F w) {x:Operand} {p:PV} (hx:ev e x=some p):Rep F Xz (a.eval x) p:=by
 cases x with
 | tmp t=>exact (s.env t p (by simpa [ev] using hx)).2
 | const v => obtain rfl : X2p v = p := by simpa [ev] using hx
              exact Z2h v
 | global g =>
   simp only [ev] at hx
   split at hx
   . cases hx; exact .val _
   . rename_i v l hg;cases hx;have hlen:(zpv (v :: l)).length=(v :: l).length:=by simp [zpv]
     refine .cp ⟨g,0,none⟩ (zpv (v :: l)) (fun j=>(v :: l).getD j undef) rfl (fun j hj=>?_) (fun j hj=>?_)
     . have hj' : j < (v :: l).length := by rw [<- hlen]; exact hj
       have e1:(X3t g)[j]?=some ((v :: l).getD j undef):=by rw [hg,Y0b,Y0c hj']; rfl
       have:=hF.2 g j _ e1;rw [YQ];exact this
     . have hj' : j < (v :: l).length := by rw [<- hlen]; exact hj
       have e2:(zpv (v :: l)).getD j pvu=X2p ((v :: l).getD j undef):=by
        simp only [zpv,Y0b,Y0y,Y0c hj',Y1m,Y1R]
       rw [e2];exact Z2h _
 | func f => obtain rfl : _ = p := by simpa [ev] using hx
             exact .fn f #[] [] rfl (fun i hi=>absurd hi (by simp))
theorem X2U.put (s:X2U nt F e a) {d:Nat} {v:Value} {p:PV} (hd:d<nt) (hr:Rep F Xz v p):X2U nt F (e.upd d p) (a.put (some d) v):=by
 refine⟨by simp [Act.put,s.sz],s.nd,fun k q hq=>?_⟩;simp only [Act.put];rw [Z1c _ _ _ _ (by rw [s.sz]; exact hd)];by_cases hk:k=d
 . subst hk;rw [Env.upd_same] at hq;obtain rfl:p=q:=by simpa using hq
   simpa using ⟨hd,hr⟩
 . rw [Env.upd_ne _ _ hk] at hq;simpa [hk] using s.env k q hq
theorem X2U.putO (s:X2U nt F e a) {d:Option Nat} {v:Value} {p:PV} (hd:X2I nt d=true) (hr:Rep F Xz v p):X2U nt F (Xq e d p) (a.put d v):=by
 cases d with
 | none=>exact s
 | some d=>exact s.put (by simpa [X2I] using hd) hr
theorem Zbv {o:Oper} {op:AOp} (hc:cOp P o=some op) (s:X2U nt F e a) (hF:Holds F w) {p:PV} (hq:X1x op e=some p):∃ val,(execOp a.eval o).run P w=.ok (.value val) w/\Rep F Xz val p:=by
 unfold cOp at hc
 split at hc
 case h_1 x ho =>
  cases hc;exact⟨_,by simp [execOp,ho],s.eval hF hq⟩
 case h_2 x ho =>
  cases hc;exact⟨_,by simp [execOp,ho],s.eval hF hq⟩
 case h_4 bop t x y yt ho =>
  have key:op=.bin bop .num x y->∃ val,(execOp a.eval o).run P w=.ok (.value val) w/\Rep F Xz val p:=by
   rintro rfl;simp only [X1x] at hq
   split at hq
   case h_2=>cases hq
   rename_i va vb hx hy;have ha:=(s.eval hF hx).val_inv;have hb:=(s.eval hF hy).val_inv;cases hs:X3R bop va vb with
   | none=>simp [hs] at hq
   | some r =>
     obtain rfl:PV.val r=p:=by simpa [hs] using hq
     have hrun:=ZcE (P:=P) (w:=w) (t:=t) (x:=x) (y:=y) hs;have hex:execOp a.eval o=(do pure (.value (<- (do eqGuard bop t x y (a.eval x) (a.eval y); binOp bop t (a.eval x) (a.eval y):Sem Value)))):=by simp only [execOp,ho]
     exact⟨r,by rw [hex,ha,hb,YT,hrun]; rfl,.val _⟩
  (repeat' (split at hc))<;>first|(cases hc; exact key rfl)|(cases hc; simp [X1x] at hq; done)|(cases hc; done)
 case h_5 uop t x ho =>
  cases hc;simp only [X1x] at hq
  split at hq
  case h_2=>cases hq
  rename_i q hx;obtain⟨val,hrun,hrep⟩:=ZcF (P:=P) (w:=w) (s.eval hF hx) hq;exact⟨val,by simp [execOp,ho,hrun],hrep⟩
 case h_11 t x ho =>
  have hex:execOp a.eval o=(do pure (.value (<- Instr.loadAt t (a.eval x)))):=by simp [execOp,ho]
  cases hl:XY P t with
  | none=>simp [hl] at hc
  | some l =>
    obtain rfl:AOp.load l.1 l.2 x=op:=by simpa [hl] using hc
    obtain⟨agg,size⟩:=l;cases agg with
    | true=>simp [X1x] at hq
    | false =>
      obtain⟨rfl,_⟩:=Z2u hl;simp only [X1x] at hq
      split at hq
      case h_2=>cases hq
      rename_i p' l hx;cases hq;obtain⟨ad,cs,hv,hs,hFc,hR⟩:=(s.eval hF hx).cp_inv;have hcut:X1t false 1 0 (p :: l)=some p:=by simp [X1t]
      obtain⟨val,hr,hrep⟩:=Z4x (w:=w) hl hs hcut (fun j hj=>by
       obtain rfl:j=0:=by omega
       exact⟨cs 0,(hF.1 _ _ (hFc 0 (by simp))).2.2,(hF.1 _ _ (hFc 0 (by simp))).2.1,hR 0 (by simp)⟩)
      exact⟨val,by rw [hex]; simp [Instr.loadAt,hv,Instr.sureAddr,hr],hrep⟩
 case h_14 t x i ho =>
  have hex:execOp a.eval o=(do pure (.value (<- Instr.fieldAt t (a.eval x) i))):=by simp [execOp,ho]
  split at hc
  case h_2=>simp at hc
  rename_i fs hu
  split at hc
  case h_2=>simp at hc
  rename_i f hf
  split at hc
  case h_2=>simp at hc
  rename_i inf hi
  split at hc
  case isFalse=>simp at hc
  rename_i hp;cases hc;simp only [X1x] at hq
  split at hq
  case h_2=>cases hq
  rename_i l hl;cases hq;have hne:inf.size≠0:=by omega
  have hfp:∀ ad:Addr,(fieldPlace ad f).run P w=.ok (ad.add f.offset) w:=fun ad=>by
   simp [fieldPlace,Zd hi,hne]
  obtain⟨ad,cs,hv,hs,hFc,hR⟩:=(s.eval hF hl).cp_inv;refine⟨.pointer (some (ad.add f.offset)),by rw [hex]; simp [Instr.fieldAt,Y6 hu,hf,hv,Instr.sureAddr,hfp],?_⟩;rw [Z10 _ _ hs];refine .cp _ _ (fun j=>cs (f.offset+j)) rfl (fun j hj=>?_) (fun j hj=>?_)
  . have : f.offset + j < l.length := by simp at hj; omega
    simpa [YL] using hFc _ this
  . have : f.offset + j < l.length := by simp at hj; omega
    simpa [Y0b] using hR _ this
 case h_16 t x i ho =>
  have hex:execOp a.eval o=(do pure (.value (<- Instr.indexAt t (a.eval x) (a.eval i)))):=by simp [execOp,ho]
  split at hc
  . rename_i el hu;have hel:P.elem t=el:=by simp [Program.elem,hu]
    have hu':P.underlying t=some (.slice (P.elem t)):=by rw [hel]; exact hu
    cases hi:P.info? el with
    | none=>simp [hi] at hc
    | some inf =>
      obtain rfl:AOp.iaddr inf.size x i=op:=by simpa [hi] using hc
      simp only [X1x] at hq
      split at hq
      case h_2=>cases hq
      rename_i l full k n hx hn
      split at hq
      case isFalse=>cases hq
      rename_i hb
      split at hq
      case isFalse=>cases hq
      rename_i hlen;cases hq;have hvn:=(s.eval hF hn).val_inv;have hlt:n.toNat<l.length:=by omega
      rcases (s.eval hF hx).vec_inv with⟨rfl,_⟩|⟨ad,cap,esz,cs,hv,hs,hcap,_,_,he,hFc,hR⟩
      . simp at hlt
      have hesz:esz=inf.size:=by rw [<- hlen]; exact (he _ hlt).symm
      subst hesz
      refine⟨.pointer (some (ad.add (n.toNat*inf.size))),by
       rw [hex,hv,hvn,YT,Y2B w t ad l.length cap k n hu',Y7 hb,hel,Zd hi]; rfl,?_⟩
      rw [Z10 _ _ (hs (by rintro rfl; simp at hlt))];refine .cp _ _ (fun j=>cs n.toNat j) rfl (fun j hj=>?_) (fun j hj=>?_)
      . have := hFc n.toNat j hlt (by omega);simpa [YL] using this
      . exact hR n.toNat j hlt (by omega)
  . simp only [YN] at hc;obtain⟨_,_,rfl⟩:=hc;simp [X1x] at hq
  . cases hc
 case h_25 c ho =>
  split at hc
  . cases hc; simp [X1x] at hq
  . rename_i hcal
    split at hc
    case h_2=>simp at hc
    rename_i t x ht hx;have ha:c.args = #[x]:=X5T hx;have hat:c.argTypes = #[t]:=X5T ht;have hex:execOp a.eval o=(do pure (.value (<- Builtin.len_ #[t] o.type #[a.eval x]))):=by simp [execOp,ho,resolve,hcal,invoke,builtin,ha,hat]
    split at hc
    . rename_i el hu;cases hc;simp only [X1x] at hq
      split at hq
      case h_2=>cases hq
      rename_i l full hxl;cases hq;rcases (s.eval hF hxl).vec_inv with⟨rfl,hv⟩|⟨ad,cap,esz,cs,hv,_⟩
      . exact⟨.int .i64 0,by rw [hex]; simp [Builtin.len_,Y6 hu,hv,goInt],.val _⟩
      . exact⟨.int .i64 l.length,by rw [hex]; simp [Builtin.len_,Y6 hu,hv,goInt],.val _⟩
    all_goals ((repeat' (split at hc))<;>first
    | (cases hc; done)
    | (cases hc; simp [X1x] at hq; done)
    | (simp at hc; done)
    | (simp only [YN] at hc; obtain⟨_,_,rfl⟩:=hc; simp [X1x] at hq; done))
  all_goals ((repeat' (split at hc))<;>first
   | (cases hc; done)
   | (cases hc; simp [X1x] at hq; done)
   | (simp at hc; done)
   | (simp only [YN] at hc; obtain⟨_,_,rfl⟩:=hc; simp [X1x] at hq; done))
 all_goals ((repeat' (split at hc))<;>first
  | (cases hc; done)
  | (cases hc; simp [X1x] at hq; done)
  | (simp at hc; done)
  | (simp only [YN] at hc; obtain⟨_,_,rfl⟩:=hc; simp [X1x] at hq; done))
end
structure JC (α:Type) where
 FN:Fence
 m:Nat
 nt:Nat
 F:XC
 B:Nat
 K:Bool->List α->World->Prop
 l:Nat
 N:Nat
 encs:α->List Value
 Sp:List α->Prop
structure JC.Ok {α:Type} (Y:JC α) (P:Program):Prop where
 fence:Xo Y.FN Y.m
 round:Y.FN.round=none
 grow:∀ b pre W W',Y.K b pre W->W.grownBy W' none->Y.K b pre W'
 yield:∀ pre x W,Y.K true pre W->pre.length<Y.N->YieldAt Y.FN (Y.m-1) P Y.l (Y.encs x).toArray W fun e W' =>
  (e=.returned (.bool true)/\Y.K true (pre ++ [x]) W'/\KpF Y.F W W') \/ (e=.returned (.bool false)/\Y.K false (pre ++ [x]) W')
section
variable {α:Type} {P:Program} {Y:JC α}
def JSt (Y:JC α) (b:Bool) (pre:List α) (e:Env) (a:Act) (w:World):Prop:=X2U Y.nt Y.F e a/\Holds Y.F w/\Y.K b pre w
def X4s (Y:JC α) (Q:Exit->List α->Env->Prop) (x:Exit) (a:Act) (w:World):Prop:=(∃ pre e,Q x pre e/\JSt Y true pre e a w) \/ (x=.ret/\∃ pre,Y.Sp pre/\Y.K false pre w/\a.defers = [])
def jw (P:Program) (Y:JC α) (ac:X3) (Q:Exit->List α->Env->Prop) (pre:List α) (e:Env):Prop :=
 Y.Ok P->∀ c,Xn P Y.nt c=some ac->∀ a w,JSt Y true pre e a w->c.wpIn Y.FN Y.m P (X4s Y Q) a w
def X5U (next:List α->Env->Prop) (Q:Exit->List α->Env->Prop):Exit->List α->Env->Prop
 | .normal=>next
 | x=>Q x
def X57 (id:Nat) (Q:Exit->List α->Env->Prop):Exit->List α->Env->Prop
 | .exit id'=>bif Nat.beq id' id then Q .normal else Q (.exit id')
 | x=>Q x
variable {Q:Exit->List α->Env->Prop} {pre:List α} {e:Env}
theorem Z4e (hk:Q .normal pre e):jw P Y .skip Q pre e:=by
 intro hY c hc a w hs;have:c=.skip:=by
  unfold Xn at hc
  split at hc<;>first|rfl|(simp at hc; done)|((repeat' (split at hc))<;>simp at hc)
 subst this;exact wpIn_skip (.inl ⟨pre,e,hk,hs⟩)
theorem Z5n {id:Nat} (hk:Q (.exit id) pre e):jw P Y (.exit id) Q pre e:=by
 intro hY c hc a w hs;have:c=.exit id:=by
  unfold Xn at hc
  split at hc<;>first|(simp at hc; subst hc; rfl)|(simp at hc; done)|((repeat' (split at hc))<;>simp at hc)
 subst this;exact wpIn_exit (.inl ⟨pre,e,hk,hs⟩)
theorem Z7H (hk:Q .ret pre e):jw P Y .ret Q pre e:=by
 intro hY c hc a w hs;have:c=.ret:=by
  unfold Xn at hc
  split at hc<;>first|rfl|(simp at hc; done)|((repeat' (split at hc))<;>simp at hc)
 subst this;exact wpIn_ret (.inl ⟨pre,e,hk,hs⟩)
theorem Z4P {x y:X3} (hk:jw P Y x (X5U (jw P Y y Q) Q) pre e):jw P Y (.seq x y) Q pre e:=by
 intro hY c hc a w hs;have:∃ c1 c2,c=.seq c1 c2/\Xn P Y.nt c1=some x/\Xn P Y.nt c2=some y:=by
  unfold Xn at hc
  split at hc<;>first
   | (split at hc<;>first|(simp at hc; obtain⟨rfl,rfl⟩:=hc; exact⟨_,_,rfl,by assumption,by assumption⟩)|(simp at hc; done)|((repeat' (split at hc))<;>simp at hc; done))
   | (simp at hc; done)
 obtain⟨c1,c2,rfl,h1,h2⟩:=this;refine wpIn_seq (Y2b (hk hY c1 h1 a w hs) fun x a w hp=>?_);rcases hp with⟨pre,e,hQ,hS⟩|⟨rfl,hS⟩
 . cases x with
   | normal=>exact hQ hY c2 h2 a w hS
   | _=>exact .inl ⟨pre,e,hQ,hS⟩
 . exact .inr ⟨rfl,hS⟩
theorem Z1Z {c:Operand} {x y:X3} {b:Bool} (hc:ev e c=some (.val (.bool b))) (ht:b=true->jw P Y x Q pre e) (hf:b=false->jw P Y y Q pre e):jw P Y (.cond c x y) Q pre e:=by
 intro hY cc hcc a w hs;have:∃ c1 c2,cc=.cond c c1 c2/\Xn P Y.nt c1=some x/\Xn P Y.nt c2=some y:=by
  unfold Xn at hcc
  split at hcc<;>first
   | (split at hcc<;>first|(simp at hcc; obtain⟨rfl,rfl,rfl⟩:=hcc; exact⟨_,_,rfl,by assumption,by assumption⟩)|(simp at hcc; done)|((repeat' (split at hcc))<;>simp at hcc; done))
   | (simp at hcc; done)
 obtain⟨c1,c2,rfl,h1,h2⟩:=this;refine Y3p (hs.1.eval hs.2.1 hc).val_inv (fun hb=>ht hb hY c1 h1 a w hs) (fun hb=>hf hb hY c2 h2 a w hs)
theorem Z3c {id:Nat} {x:X3} (hk:jw P Y x (X57 id Q) pre e):jw P Y (.block id x) Q pre e:=by
 intro hY c hc a w hs;have:∃ c1,c=.block id c1/\Xn P Y.nt c1=some x:=by
  unfold Xn at hc
  split at hc<;>first
   | (split at hc<;>first|(simp at hc; obtain⟨rfl,rfl⟩:=hc; exact⟨_,rfl,by assumption⟩)|(simp at hc; done)|((repeat' (split at hc))<;>simp at hc; done))
   | (simp at hc; done)
 obtain⟨c1,rfl,h1⟩:=this;refine wpIn_block (Y2b (hk hY c1 h1 a w hs) fun x a w hp=>?_);rcases hp with⟨pre,e,hQ,hS⟩|⟨rfl,hS⟩
 . cases x with
   | exit id' =>
     simp only [X57] at hQ;simp only [Exit.inBlock];by_cases hid:id'=id
     . subst hid;have hb:Nat.beq id' id'=true:=by simp
       rw [hb] at hQ;rw [Y7 rfl];exact .inl ⟨pre,e,hQ,hS⟩
     . have hb : Nat.beq id' id = false := YK.2 fun hb => hid (Yw hb);rw [hb] at hQ;rw [Y8 hid];exact .inl ⟨pre,e,hQ,hS⟩
   | _=>exact .inl ⟨pre,e,hQ,hS⟩
 . exact .inr ⟨rfl,hS⟩
theorem ZfX {L:List (Nat×PV)} {b:Bool} (he:X36 e L) {a:Act} {w:World} (hs:JSt Y b pre e a w):JSt Y b pre (X1F L) a w:=⟨⟨hs.1.sz,hs.1.nd,fun k p hk=>hs.1.env k p (he.some hk)⟩,hs.2⟩
theorem Zbw {X:Type} (I:X->Prop) (μ:X->Nat) (R:X->List α) (L:X->List (Nat×PV)) {body:X3} (x0:X) (h0:I x0) (hR:R x0=pre) (hL:X36 e (L x0))
 (round:∀ x,I x->jw P Y body (X5U (fun pre' e'=>∃ x',I x'/\μ x'<μ x/\R x'=pre'/\X36 e' (L x')) Q) (R x) (X1F (L x))):jw P Y (.loop body) Q pre e:=by
 intro hY c hc a w hs;have:∃ c1,c=.loop c1/\Xn P Y.nt c1=some body:=by
  unfold Xn at hc
  split at hc<;>first
   | (split at hc<;>first|(simp at hc; subst hc; exact⟨_,rfl,by assumption⟩)|(simp at hc; done)|((repeat' (split at hc))<;>simp at hc; done))
   | (simp at hc; done)
 obtain⟨c1,rfl,h1⟩:=this
 let p:Act->World->Nat->Prop:=fun a w k=>∃ x,I x/\μ x=k/\JSt Y true (R x) (X1F (L x)) a w
 refine wpIn_loop (fun a w=>∃ k,p a w k) (fun a w=>least (p a w)) ⟨_,x0,h0,rfl,by rw [hR]; exact ZfX hL hs⟩ ?_;rintro a w ⟨k,hk⟩;obtain⟨⟨x,hx,hxk,hst⟩,_⟩:=Z3S hk;refine Y2b (round x hx hY c1 h1 a w hst) fun ex a' w' hp=>?_;rcases hp with⟨pre',e',hQ,hS⟩|⟨rfl,hS⟩
 . cases ex with
   | normal =>
     obtain⟨x',hx',hlt,rfl,hE⟩:=hQ;have hp':p a' w' (μ x'):=⟨x',hx',rfl,ZfX hE hS⟩
     refine⟨⟨_,hp'⟩,?_⟩;have:=(Z3S hp').2;omega
   | _=>exact .inl ⟨pre',e',hQ,hS⟩
 . exact .inr ⟨rfl,hS⟩
def X4w (P:Program) (Y:JC α):List Xm->List α->Env->(List α->Env->Prop)->Prop
 | [],pre,e,K=>K pre e
 | o :: os, pre, e, K => o.guard = none /\ ((∃ p, X1x o.op e = some p /\ X4w P Y os pre (Xq e o.dst p) K) \/
     (∃ f args g caps as0 v,o.op=.call f args/\ev e f=some (.fn g caps)/\evs e args=some as0/\Xe (as0++caps)/\X7 P g (as0++caps) (· = .val v)/\X4w P Y os pre (Xq e o.dst (.val v)) K))
theorem Z1U {os:List Xm} {d:Option Nat} {op:AOp} {p:PV} {K:List α->Env->Prop} (hq:X1x op e=some p) (hk:X4w P Y os pre (Xq e d p) K):X4w P Y (⟨d,op,none⟩ :: os) pre e K:=⟨rfl,.inl ⟨p,hq,hk⟩⟩
theorem ZfY {os:List Xm} {d:Option Nat} {f:Operand} {args:List Operand} {g:FuncId} {caps as0 args':List PV} {v:Value} {K:List α->Env->Prop} (hs:X7 P g args' (· = .val v)) (hf:ev e f=some (.fn g caps)) (ha:evs e args=some as0) (hr:as0++caps=args') (hp:Xe args') (hk:X4w P Y os pre (Xq e d (.val v)) K):X4w P Y (⟨d,.call f args,none⟩ :: os) pre e K:=by
 subst hr;exact⟨rfl,.inr ⟨f,args,g,caps,as0,v,rfl,hf,ha,hp,hs,hk⟩⟩
theorem Z1M {K:List α->Env->Prop} (hk:K pre e):X4w P Y [] pre e K:=hk
theorem Below.grownN {A B:World} (h:Below A.heap.size A B):A.grownBy B none:=⟨h.os,h.tape,h.output,h.size,fun j hj _=>h.block j hj⟩
theorem Ze3 {b:Bool} {a:Act} {w:World} (hs:JSt Y b pre e a w) {f:Operand} {args:Array Operand} {g:Nat} {caps as0:List PV} (hf:ev e f=some (.fn g caps)) (has:evs e args.toList=some as0):∃ vs,a.eval f=.func (.func g) #[] vs/\X1Y Y.F Xz (args.map a.eval++vs) (as0++caps):=by
 let C:Ctx:=⟨w,fun _=>False,Y.F,Y.nt,fun _=>none⟩
 have s0:St' C (fun _=>True) e (fun _=>none) Y.F Xz a w:=by
  refine { nt := hs.1.sz, glob := hs.2.1.2, marks := X2f.nil hs.1.nd, loc0 := fun i x hx => (by cases hx), free := fun _ _ => rfl, env := hs.1.env, froz := hs.2.1.1, ext := fun _ _ h => h, old := fun _ _ _ => rfl, os := rfl, tape := rfl, output := rfl, size := Y0m _, kept := fun _ _ _ => rfl,
           live:=fun id b hb=>(by cases hb),sep:=fun i j bi bj li lj k hi=>(by cases hi) }
 exact Z3Q s0 hf has
theorem Z7I (hY:Y.Ok P) {ops:Array Oper} {K:List α->Env->Prop}:∀ {l:List Oper} {al:List Xm},Xw P Y.nt ops l=some al->∀ {pre:List α} {e:Env} {a:Act} {w:World},JSt Y true pre e a w->X4w P Y al pre e K ->
 ∀ {QQ:Exit->Act->World->Prop},(∀ pre e a w,K pre e->JSt Y true pre e a w->QQ .normal a w)->wpListIn Y.FN Y.m P ops QQ l a w:=by
 intro l
 induction l with
 | nil =>
   intro al hc pre e a w hs hk QQ hQ;obtain rfl : []=al:=by simpa [Xw] using hc
   exact hQ pre e a w hk hs
 | cons o r ih =>
   intro al hc pre e a w hs hk QQ hQ;simp only [Xw] at hc
   split at hc
   case h_2=>simp at hc
   rename_i ao al' ho hl;obtain rfl:ao :: al'=al:=by simpa using hc
   unfold X28 at ho
   split at ho
   case h_2=>simp at ho
   rename_i op g hop hg
   split at ho
   case isFalse=>simp at ho
   rename_i hdst;cases ho;simp only [X4w] at hk;obtain⟨hgn,hk⟩:=hk;subst hgn;have hgo:o.guard=none:=by
    unfold X3o at hg
    split at hg
    . assumption
    . split at hg
      . split at hg
        . cases hg
        . cases hg
      . cases hg
   simp only [wpListIn];rw [Y7 (by simp [Region.wanted,hgo])];refine⟨fun f _=>hY.fence.fn f,?_⟩;rw [Y2O Y.FN.round a.eval o (Z2U hop)];rcases hk with⟨p,hq,hk⟩|⟨f,args,g,caps,as0,v,hop',hf,has,hp,hsp,hk⟩
   . obtain ⟨val, hr, hrep⟩ := Zbv hop hs.1 hs.2.1 hq;rw [hr];exact ih hl ⟨hs.1.putO hdst hrep,hs.2⟩ hk hQ
   . subst hop';obtain⟨⟨fn,hfn,hname,hbody⟩,hspec⟩:=hsp;obtain⟨c,hoc,hcal,hargs⟩:=Z8a hop;subst hargs;obtain⟨vs,hvf,hrep⟩:=Ze3 hs hf has;have hrun:(execOp a.eval o).run P w=.ok (.enter g (c.args.map a.eval++vs)) w:=by
      have h1 : ¬ fn.name = "runtime.NumGoroutine" := by simpa using hname
      have h2:¬ fn.body=none:=fun h=>by rw [h] at hbody; simp at hbody
      simp [execOp,hoc,resolve,hcal,hvf,Deferred.ofValue,invoke,callFunc,hfn,h1,h2]
     rw [hrun];refine⟨fun hd=>by rw [hY.fence.depth] at hd; simp at hd,hY.fence.calls _ _ _ _ _ ((hspec Y.F w _ hs.2.1 hrep).mono ?_)⟩;rintro en w' ⟨v',r',F',rfl,rfl,hvr,hbel,hF',hext,hold⟩;obtain rfl:v'=v:=hvr.val_inv;refine ih hl ⟨hs.1.putO hdst (.val _),⟨fun x u hx=>⟨(hs.2.1.1 x u hx).1,(hs.2.1.1 x u hx).2.1,(hF'.1 x u (hext x u hx)).2.2⟩,hs.2.1.2⟩,hY.grow _ _ _ _ hs.2.2 (Below.grownN hbel)⟩ hk hQ
theorem Z7J {al:List Xm} {c:Code} (h:Xn P Y.nt c=some (.region al)):∃ id ops,c=.region id ops false/\Xw P Y.nt ops ops.toList=some al:=by
 unfold Xn at h
 split at h<;>first
  | (simp at h; done)
  | (split at h
     . split at h
       . simp at h; subst h; exact⟨_,_,rfl,by assumption⟩
       . split at h<;>simp at h
     . simp at h)
  | (split at h<;>simp at h; done)
  | ((repeat' (split at h))<;>simp at h; done)
theorem Z2b {al:List Xm} (hk:X4w P Y al pre e (fun pre e=>Q .normal pre e)):jw P Y (.region al) Q pre e:=by
 intro hY c hc a w hs;obtain⟨id,ops,rfl,h1⟩:=Z7J hc;exact Y3g (Z7I hY h1 hs hk fun pre e a w hK hS=>.inl ⟨pre,e,hK,hS⟩)
theorem Z8r (ops:Array Oper) {l:List Oper}:∀ {al bl:List Xm},Xw P Y.nt ops l=some (al++bl)->∃ l1 l2,l=l1++l2/\Xw P Y.nt ops l1=some al/\Xw P Y.nt ops l2=some bl:=by
 induction l with
 | nil =>
   intro al bl h;simp [Xw] at h;obtain⟨rfl,rfl⟩:=h;exact⟨[],[],rfl,rfl,rfl⟩
 | cons o r ih =>
   intro al bl h;cases al with
   | nil=>exact⟨[],o :: r,rfl,rfl,h⟩
   | cons x al =>
     simp only [Xw] at h
     split at h
     case h_2=>cases h
     rename_i a' l' h1 h2;simp at h;obtain⟨rfl,rfl⟩:=h;obtain⟨l1,l2,rfl,g1,g2⟩:=ih h2;exact⟨o :: l1,l2,rfl,by simp [Xw,h1,g1],g2⟩
theorem Z14 {FN:Fence} {m:Nat} {ops:Array Oper} {QQ:Exit->Act->World->Prop}:∀ {l1 l2:List Oper} {a:Act} {w:World},wpListIn FN m P ops (fun x a w=>match x with | .normal=>wpListIn FN m P ops QQ l2 a w|x=>QQ x a w) l1 a w->wpListIn FN m P ops QQ (l1++l2) a w
 | [],l2,a,w,h=>h
 | o :: r, l2, a, w, h => by
   simp only [wpListIn,Y1n] at h ⊢
   split
   . rename_i hw;rw [Y7 hw] at h;obtain⟨h1,h2⟩:=h;refine⟨h1,?_⟩;unfold Oper.uponIn at h2 ⊢
     split at h2
     . exact Z14 h2
     . exact Z14 h2
     . exact Z14 h2
     . refine ⟨h2.1, h2.2.mono fun en w' hh => ?_⟩;cases en with
       | returned v=>exact Z14 hh
       | panicked chain=>exact hh
       | outgrown=>exact hh
     . exact⟨h2.1,h2.2.mono fun v w' hh=>Z14 hh⟩
     . refine ⟨h2.1, h2.2.mono fun en w' hh => ?_⟩;cases en with
       | returned v=>exact Z14 hh
       | panicked chain=>exact hh
       | outgrown=>exact hh
     . exact h2
     . exact h2
   . rename_i hw;rw [Y8 hw] at h;exact⟨h.1,Z14 h.2⟩
theorem ZhX (x:α) {al:List Xm} {d1 d2:Nat} {f:Operand} {args:List Operand} (hk:X4w P Y al pre e (fun pre' e'=>pre'=pre/\ev e' f=some (.val (.func (.yield Y.l) #[] #[]))/\evs e' args=some ((Y.encs x).map .val)/\pre.length<Y.N/\Y.Sp (pre ++ [x])/\Q .normal (pre ++ [x]) ((e'.upd d1 (.val (.bool true))).upd d2 (.val (.bool false))))) :
 jw P Y (.seq (.region (al ++ [⟨some d1,.call f args,none⟩,⟨some d2,.una .not (.tmp d1),none⟩])) (.cond (.tmp d2) .ret .skip)) Q pre e:=by
 intro hY c hc a w hs;have:∃ c1 c2,c=.seq c1 c2/\Xn P Y.nt c1=some (.region (al ++ [⟨some d1,.call f args,none⟩,⟨some d2,.una .not (.tmp d1),none⟩]))/\Xn P Y.nt c2=some (.cond (.tmp d2) .ret .skip):=by
  unfold Xn at hc
  split at hc<;>first
   | (split at hc<;>first|(simp at hc; obtain⟨rfl,rfl⟩:=hc; exact⟨_,_,rfl,by assumption,by assumption⟩)|(simp at hc; done)|((repeat' (split at hc))<;>simp at hc; done))
   | (simp at hc; done)
 obtain⟨c1,c2,rfl,h1,h2⟩:=this;have:∃ k1 k2,c2=.cond (.tmp d2) k1 k2/\Xn P Y.nt k1=some .ret/\Xn P Y.nt k2=some .skip:=by
  unfold Xn at h2
  split at h2<;>first
   | (split at h2<;>first|(simp at h2; obtain⟨rfl,rfl,rfl⟩:=h2; exact⟨_,_,rfl,by assumption,by assumption⟩)|(simp at h2; done)|((repeat' (split at h2))<;>simp at h2; done))
   | (simp at h2; done)
 obtain⟨k1,k2,rfl,g1,g2⟩:=this;have hk1:k1=.ret:=by
  unfold Xn at g1
  split at g1<;>first|rfl|(simp at g1; done)|((repeat' (split at g1))<;>simp at g1)
 have hk2:k2=.skip:=by
  unfold Xn at g2
  split at g2<;>first|rfl|(simp at g2; done)|((repeat' (split at g2))<;>simp at g2)
 subst hk1;subst hk2;obtain⟨id,ops,rfl,hops⟩:=Z7J h1;obtain⟨l1,l2,hl,ho1,ho2⟩:=Z8r ops hops;refine wpIn_seq (Y3g ?_);rw [hl];refine Z14 (Z7I hY ho1 hs hk fun pre' e' a' w' hK hS=>?_);obtain⟨rfl,hf,has,hlen,hSp,hQ⟩:=hK;cases l2 with
 | nil=>simp [Xw] at ho2
 | cons o r =>
   simp only [Xw] at ho2
   split at ho2
   case h_2=>cases ho2
   rename_i ao al' ho hl2;simp at ho2;obtain⟨rfl,rfl⟩:=ho2;cases r with
   | nil=>simp [Xw] at hl2
   | cons o2 r2 =>
     simp only [Xw] at hl2
     split at hl2
     case h_2=>cases hl2
     rename_i ao2 al2 hoo2 hl3;simp at hl2;obtain⟨rfl,rfl⟩:=hl2;have hr2:r2 = []:=by
      cases r2 with
      | nil=>rfl
      | cons x y=>simp only [Xw] at hl3; split at hl3<;>simp at hl3
     subst hr2;have dst:∀ {oo:Oper} {d:Nat} {op:AOp},X28 P Y.nt ops oo=some ⟨some d,op,none⟩->oo.dst=some d/\d<Y.nt/\oo.guard=none/\cOp P oo=some op:=by
      intro oo d op h;unfold X28 at h
      split at h
      case h_2=>simp at h
      rename_i op' g hop hg
      split at h
      case isFalse=>simp at h
      rename_i hd;simp at h;obtain⟨hd1,rfl,rfl⟩:=h;refine⟨hd1,by rw [hd1] at hd; simpa [X2I] using hd,?_,hop⟩;unfold X3o at hg
      split at hg
      . assumption
      . split at hg
        . split at hg
          . cases hg
          . cases hg
        . cases hg
     obtain⟨hd1,hlt1,hgd1,hop1⟩:=dst ho;obtain⟨hd2,hlt2,hgd2,hop2⟩:=dst hoo2;obtain⟨cc,hoc,hcal,hargs⟩:=Z8a hop1;have hun:∃ uop t,o2.op=.unOp uop t (.tmp d1)/\uop=.not:=by
      unfold cOp at hop2
      split at hop2<;>first
       | (rename_i uop t x' ho'; simp at hop2; obtain⟨rfl,rfl⟩:=hop2; exact⟨_,_,ho',rfl⟩)
       | (simp at hop2; done)
       | ((repeat' (split at hop2))<;>simp at hop2; done)
     obtain⟨_,ut,hu2,rfl⟩:=hun;have hvf:=(hS.1.eval hS.2.1 hf).val_inv;have hvs:cc.args.map a'.eval=(Y.encs x).toArray:=by
      have hev:∀ {xs:List Operand} {vs:List Value},evs e' xs=some (vs.map .val)->xs.map a'.eval=vs:=by
       intro xs
       induction xs with
       | nil => intro vs h; cases vs with
         | nil=>rfl
         | cons _ _=>simp [evs] at h
       | cons y ys ih =>
         intro vs h;simp only [evs] at h
         split at h
         case h_2=>cases h
         rename_i p l hp hl;cases vs with
         | nil=>simp at h
         | cons v vs =>
           simp at h;obtain⟨rfl,rfl⟩:=h;simp only [Y1c];rw [(hS.1.eval hS.2.1 hp).val_inv,ih hl]
      have h0:=hev (xs:=cc.args.toList) (by rw [hargs]; exact has);apply Y3W;simpa using h0
     obtain⟨fn,tmps,assign,body,hyr,hR⟩:=hY.yield pre' x w' hS.2.2 hlen;have hrun:(execOp a'.eval o).run P w'=.ok (.round Y.l fn tmps assign body) w':=by
      have:execOp a'.eval o=Instr.yield Y.l (cc.args.map a'.eval):=by
       simp [execOp,hoc,resolve,hcal,hvf,Deferred.ofValue,invoke]
      rw [this,hvs];exact hyr
     simp only [wpListIn];rw [Y7 (by simp [Region.wanted,hgd1])];refine⟨fun f _=>hY.fence.fn f,?_⟩;rw [Y2O Y.FN.round a'.eval o (Z2U hop1),hrun];refine⟨fun hd=>by rw [hY.fence.depth] at hd; simp at hd,hR.mono ?_⟩;have step:∀ (bb:Bool) (w3:World),(wpListIn Y.FN Y.m P ops (Exit.then ((Code.cond (.tmp d2) .ret .skip).wpIn Y.FN Y.m P (X4s Y Q)) (X4s Y Q)) [] ((a'.put (some d1) (.bool bb)).put (some d2) (.bool (!bb))) w3) ->
      wpListIn Y.FN Y.m P ops (Exit.then ((Code.cond (.tmp d2) .ret .skip).wpIn Y.FN Y.m P (X4s Y Q)) (X4s Y Q)) [o2] (a'.put o.dst (.bool bb)) w3:=by
      intro bb w3 h3;simp only [wpListIn];rw [Y7 (by simp [Region.wanted,hgd2])];refine⟨fun f _=>hY.fence.fn f,?_⟩;have hv1:(a'.put o.dst (.bool bb)).eval (.tmp d1)=.bool bb:=by
       rw [hd1];show (a'.tmps.setIfInBounds d1 (.bool bb)).getD d1 undef=.bool bb;rw [Z1c _ _ _ _ (by rw [hS.1.sz]; exact hlt1)];simp
      have hex:(execOp (a'.put o.dst (.bool bb)).eval o2).run P w3=.ok (.value (.bool (!bb))) w3:=by
       simp only [execOp,hu2,hv1];cases bb<;>simp [Op.unary]
      rw [Y2O Y.FN.round _ o2 (Z2U hop2),hex];simp only [Oper.uponIn];rw [hd2];rw [hd1];exact h3
     have ev2:∀ bb:Bool,((a'.put (some d1) (.bool bb)).put (some d2) (.bool (!bb))).eval (.tmp d2)=.bool (!bb):=by
      intro bb;show ((a'.tmps.setIfInBounds d1 (.bool bb)).setIfInBounds d2 (.bool (!bb))).getD d2 undef=.bool (!bb);rw [Z1c _ _ _ _ (by simp [hS.1.sz]; exact hlt2)];simp
     rintro en w3 (⟨rfl,hK,hkp⟩|⟨rfl,hK⟩)
     . refine step true w3 (Y3p (t := false) (ev2 true) (fun h => by cases h) fun _ => wpIn_skip (.inl ⟨_, _, hQ, ?_, ?_, hK⟩))
       . exact (hS.1.put hlt1 (.val _)).put hlt2 (.val _)
       . exact⟨fun y u hy=>⟨(hS.2.1.1 y u hy).1,(hS.2.1.1 y u hy).2.1,hkp.1 y u hy (hS.2.1.1 y u hy).2.2⟩,hS.2.1.2⟩
     . exact step false w3 (Y3p (t:=true) (ev2 false) (fun _=>wpIn_ret (.inr ⟨rfl,_,hSp,hK,hS.1.nd⟩)) fun h=>by cases h)
theorem Ze4 {f nt:Nat} {ac:X3} (hf:X46 P f nt ac []) {caps:List PV} {encs:α->List Value} {S Sp:List α->Prop} {M:Nat} (hn:caps.length+1<=nt)
 (hk:∀ Y:JC α,Y.N=M->Y.encs=encs->Y.Sp=Sp->Y.nt=nt->jw P Y ac (fun x pre _=>(x=.normal \/ x=.ret)/\S pre) [] (X1k (.val (.func (.yield Y.l) #[] #[]) :: caps))):X4f P f caps encs S Sp M:=by
 obtain⟨hm,fn,c,hfn,hname,hb,rfl,hc,hr⟩:=hf;refine⟨⟨fn,hfn,hname,by rw [hb]; rfl⟩,fun F w lb FN m hok hF hrep=>?_⟩;intro l J Jx W hbel hJ hJx hyield h0;have hres:fn.results = #[]:=by
  cases hl:fn.results.toList with
  | nil=>simpa using hl
  | cons r rs =>
    rw [hl] at hr;simp only [X2Y] at hr
    split at hr<;>simp at hr
 show CallsIn FN.plain m P f _ W _;refine callsIn_of_wp hfn hb (hok.fn f) ?_ rfl
 let Y:JC α:=⟨FN.plain,m,fn.ntmps,F,W.heap.size,fun b pre W'=>if b=true then J pre W' else Jx pre W',l,M,encs,Sp⟩
 have hY:Y.Ok P:=by
  refine⟨⟨hok.fn,hok.depth,fun P f args w R h=>hok.calls P f args w R h⟩,rfl,?_,?_⟩
  . intro b pre W1 W2 hK hg;cases b with
    | true=>exact hJ pre W1 W2 none hK hg (fun r hr=>by cases hr)
    | false=>exact hJx pre W1 W2 none hK hg (fun r hr=>by cases hr)
  . intro pre x W1 hK hlen;obtain⟨fn',tmps,assign,body,h1,h2⟩:=hyield pre x W1 hK hlen;refine⟨fn',tmps,assign,body,h1,?_⟩;have h2':=h2.mono (R':=fun e W'=>(e=.returned (.bool true)/\Y.K true (pre ++ [x]) W'/\KpF Y.F W1 W') \/ (e=.returned (.bool false)/\Y.K false (pre ++ [x]) W')) (fun en W' h=>h);exact h2'
 have hsz:lb.size=caps.length:=hrep.1
 have hFW:Holds F W:=⟨fun x v hx=>by
  obtain⟨g1,g2,g3⟩:=hF.1 x v hx
  exact⟨g1,g2,by rw [Y1Y (w:=w) (hbel.block x.block (Y3h g3))]; exact g3⟩,hF.2⟩
 have hS:JSt Y true [] (X1k (.val (.func (.yield l) #[] #[]) :: caps)) { tmps:=(#[.func (.yield l) #[] #[]]++lb)++Array.replicate (fn.ntmps-(#[Value.func (.yield l) #[] #[]]++lb).size) undef,defers := [] } W:=by
  refine⟨⟨by simp [Y]; omega,rfl,fun k p hp=>?_⟩,hFW,h0⟩;have hk:k<caps.length+1:=by have:=(Yy.1 hp).1; simpa using this
  refine⟨by simp only [Y]; omega,?_⟩;cases k with
  | zero =>
    simp [X1k] at hp;subst hp;have e0:((#[Value.func (.yield l) #[] #[]]++lb)++Array.replicate (fn.ntmps-(#[Value.func (.yield l) #[] #[]]++lb).size) undef).getD 0 undef=.func (.yield l) #[] #[]:=by
     simp only [Y0d];rw [YP (by simp;omega),YP (by simp)]
     rfl
    show Rep F Xz (((#[Value.func (.yield l) #[] #[]]++lb)++Array.replicate (fn.ntmps-(#[Value.func (.yield l) #[] #[]]++lb).size) undef).getD 0 undef) _;rw [e0];exact .val _
  | succ k =>
    have hk':k<caps.length:=by omega
    have e1:((#[Value.func (.yield l) #[] #[]]++lb)++Array.replicate (fn.ntmps-(#[Value.func (.yield l) #[] #[]]++lb).size) undef).getD (k+1) undef=lb.getD k undef:=by
     simp only [Y0d];rw [YP (by simp;omega),Y1O (by simp)];simp
    have e2:caps.getD k pvu=p:=by
     have hp':caps[k]?=some p:=by simpa [X1k] using hp
     rw [Y0b,hp']; rfl
    rw [e1,<- e2];exact hrep.2 k hk'
 refine Y2b (hk Y rfl rfl rfl rfl hY c hc _ W hS) fun x a' w' hp=>?_;have hres':∀ tmps,(results fn tmps).run P w'=.ok (.tuple #[]) w':=fun tmps=>by simp [results,hres]
 rcases hp with⟨pre,e,⟨hx,hSp⟩,hS'⟩|⟨rfl,pre,hsp,hK,hd⟩
 . have fin : a'.defers = [] /\ ∃ v, (results fn a'.tmps).run P w' = .ok v w' /\ ((∃ v', Ending.returned v = Ending.returned v') /\ ((∃ xs, S xs /\ J xs w') \/ ∃ pre, Sp pre /\ Jx pre w')) :=
    ⟨hS'.1.nd,_,hres' _,⟨_,rfl⟩,.inl ⟨pre,hSp,hS'.2.2⟩⟩
   rcases hx with rfl|rfl
   . exact fin
   . exact fin
 . exact⟨hd,_,hres' _,⟨_,rfl⟩,.inr ⟨pre,hsp,hK⟩⟩
end
end
section
open Go.RowKit
attribute [local irreducible] aw Xj dK
theorem Z2W:XH 0=.agg [.vec [] false]:=by rw [XH,ZK]; rfl
theorem Z62 {N:Nat} (h:N<18446744073709551616) (h0:N≠0):Xt N = [N]:=by
 rw [Z2F h0,Y1a h,Y1y h,ZK]
theorem Z3d {N:Nat} (h:N<18446744073709551616) (h0:N≠0):XH N=.agg [.vec [[.val (.int .u64 (N:Int))]] false]:=by rw [XH,Z62 h h0]; rfl
theorem XO {a b:Bool} (h:a=b):PV.val (.bool a)=PV.val (.bool b):=by rw [h]
theorem Z1f {N:Nat} (h:N<18446744073709551616):(N=0/\XH N=.agg [.vec [] false]) \/ (N≠0/\XH N=.agg [.vec [[.val (.int .u64 (N:Int))]] false]):=by
 by_cases h0:N=0
 . subst h0; exact .inl ⟨rfl,Z2W⟩
 . exact .inr ⟨h0,Z3d h h0⟩
def XN (a b:Nat):Nat:=a &&& (18446744073709551615-b)
theorem Z2P {a b:Nat} (ha:a<18446744073709551616) (hb:b<18446744073709551616) (i:Nat):(XN a b).testBit i=(a.testBit i && !b.testBit i):=by
 have h:=Y2P (n:=64) hb i;have e:(2:Nat) ^ 64-(b+1)=18446744073709551615-b:=by omega
 rw [e] at h;rw [XN,Y0z,h];by_cases hi:i<64
 . simp [hi]
 . have : a.testBit i = false := Y1A (YW ha (Y1f (n := 2) (by omega) (show 64 <= i by omega)));simp [this]
theorem Z4Q {a b:Nat} (ha:a<18446744073709551616):XN a b<18446744073709551616:=Y02 Y2c ha
theorem Z1o (a b:Nat) (ha:a<18446744073709551616) (hb:b<18446744073709551616):bits .andNot .u64 (a:Int) (b:Int)=((XN a b:Nat):Int):=by
 have hx:XN a b<2 ^ 64:=Z4Q ha;have h1:(BitVec.ofInt 64 (a:Int)).toNat=a:=by
  rw [Y1p,Y1v]; exact Y1a (by omega)
 have h2:(~~~(BitVec.ofInt 64 (b:Int))).toNat=18446744073709551615-b:=by
  rw [BitVec.toNat_not,Y1p,Y1v,Y1a (by omega)]
 show IntKind.u64.wrap ((BitVec.ofInt 64 (a:Int) &&& ~~~(BitVec.ofInt 64 (b:Int))).toNat:Int)=_;rw [Y3k,h1,h2,Y3j];show ((XN a b:Nat):Int) % 18446744073709551616=_;omega
theorem Zbx {a b:Nat} (ha:a<18446744073709551616) (hb:b<18446744073709551616):XN a b=0↔a ||| b=b:=by
 constructor
 . intro h;refine YB fun i=>?_;have:=congrArg (fun z=>Nat.testBit z i) h;simp only [Z2P ha hb,Y1l] at this;rw [Y00];cases h1:a.testBit i<;>cases h2:b.testBit i<;>simp_all
 . intro h;refine YB fun i=>?_;have:=congrArg (fun z=>Nat.testBit z i) h;simp only [Y00] at this;rw [Z2P ha hb,Y1l];cases h1:a.testBit i<;>cases h2:b.testBit i<;>simp_all
theorem Ze5 (N M:Nat) (hN:N<18446744073709551616) (hM:M<18446744073709551616):X7 Tryz.prog 46 [XH N,XH M] (· = .val (.bool (decide (N &&& M≠0)))):=by
 have hand:=Y1Q N M hN hM;rcases Z1f hN with⟨rfl,e1⟩|⟨h1,e1⟩<;>rcases Z1f hM with⟨rfl,e2⟩|⟨h2,e2⟩<;>rw [e1]<;>(try rw [e2])<;>clear e1 e2
 all_goals
  refine Yp ok46 fun C hC=>?_;refine Zn ?_;refine Z8 ?_;refine Z5 rfl rfl rfl ?_;refine Z5 rfl rfl rfl ?_;refine go ?_;refine Zh 1 ?_;(refine go ?_;repeat' (apply B<;>intro hb<;>try cases hb))
 . exact Z4 rfl Yt (XO (by simp))
 . exact Z4 rfl Yt (XO (by simp))
 . exact Z4 rfl Yt (XO (by simp))
 . refine Z4 rfl Yt (XO ?_);rw [hand] at hb;have h3:¬ ((N &&& M:Nat):Int)=0:=by simpa using hb
   have h4:N &&& M≠0:=by omega
   simp [h4]
 . refine Z4 rfl Yt (XO ?_);rw [hand] at hb;have h3:((N &&& M:Nat):Int)=0:=by simpa using hb
   have h4:N &&& M=0:=by omega
   simp [h4]
theorem Z6v (N M:Nat) (hN:N<18446744073709551616) (hM:M<18446744073709551616):X7 Tryz.prog 45 [XH N,XH M] (· = .val (.bool (decide (N ||| M=M)))):=by
 have hand:=Z1o N M hN hM;have hz:=Zbx hN hM;rcases Z1f hN with⟨rfl,e1⟩|⟨h1,e1⟩<;>rcases Z1f hM with⟨rfl,e2⟩|⟨h2,e2⟩<;>rw [e1]<;>(try rw [e2])<;>clear e1 e2
 all_goals
  refine Yp ok45 fun C hC=>?_;refine Zn ?_;refine Z8 ?_;refine Z5 rfl rfl rfl ?_;refine Z5 rfl rfl rfl ?_;refine go ?_;refine Zh 1 ?_;refine go ?_
 . exact Z4 rfl Yt (XO (by simp))
 . exact Z4 rfl Yt (XO (by simp))
 . refine Qe (Z1i [] 0) ⟨⟨Yt, Yt⟩, Yt, Yt⟩ ?_;(refine go ?_;repeat' (apply B<;>intro hb<;>try cases hb))
   . exact Z4 rfl Yt (XO (by simp;omega))
   . have h3 : bits .andNot .u64 (N : Int) ((0 : Nat) : Int) = 0 := by simpa using hb
     rw [hand] at h3;exact absurd (hz.1 (by omega)) (by simp;omega)
 . refine Qe (Z1i [M] 0) ⟨⟨⟨⟨Yt, Yt⟩, Yt⟩, Yt⟩, Yt, Yt⟩ ?_;(refine go ?_;repeat' (apply B<;>intro hb<;>try cases hb))
   . have h3 : ¬ bits .andNot .u64 (N : Int) (M : Int) = 0 := by simpa using hb
     rw [hand] at h3;have h4:¬ (N ||| M=M):=fun h=>h3 (by rw [hz.2 h]; rfl);exact Z4 rfl Yt (XO (by simp [h4]))
   . have h3 : bits .andNot .u64 (N : Int) (M : Int) = 0 := by simpa using hb
     rw [hand] at h3;have h4:N ||| M=M:=hz.1 (by omega)
     exact Z4 rfl Yt (XO (by simp [h4]))
theorem Ze6 (N:Nat) (hN:N<18446744073709551616):X7 Tryz.prog 311 [XH N] (· = .val (.bool (decide (N=0)))):=by
 rcases Z1f hN with⟨rfl,e1⟩|⟨h1,e1⟩<;>rw [e1]
 all_goals
  refine Yp ok311 fun C hC=>?_;refine Zn ?_;refine Z8 ?_;refine Z5 rfl rfl rfl ?_;refine go ?_
 . exact Z4 rfl Yt (XO (by simp))
 . exact Z4 rfl Yt (XO (by simp [h1]))
theorem Z4f (N M:Nat) (hN:N<18446744073709551616) (hM:M<18446744073709551616):X7 Tryz.prog 23 [XH N,XH M] (· = .val (.bool (decide (N=M)))):=by
 rcases Z1f hN with⟨rfl,e1⟩|⟨h1,e1⟩<;>rcases Z1f hM with⟨rfl,e2⟩|⟨h2,e2⟩<;>rw [e1]<;>(try rw [e2])<;>clear e1 e2
 all_goals
  refine Yp ok23 fun C hC=>?_;refine Zn ?_;refine Z8 ?_;refine Z5 rfl rfl rfl ?_;refine Z5 rfl rfl rfl ?_;refine go ?_
 . refine Zh 1 ?_;refine go ?_;exact Z4 rfl Yt (XO (by simp))
 . exact Z4 rfl Yt (XO (by simp;omega))
 . exact Z4 rfl Yt (XO (by simp;omega))
 . refine Zh 1 ?_;(refine go ?_;repeat' (apply B<;>intro hb<;>try cases hb))
   . have h3 : ¬ (N : Int) = (M : Int) := by simpa using hb
     exact Z4 rfl Yt (XO (by simp;omega))
   . have h3 : (N : Int) = (M : Int) := by simpa using hb
     exact Z4 rfl Yt (XO (by simp;omega))
theorem Z5Q {N M:Nat} (hN:N<18446744073709551616) (hM:M<18446744073709551616):N ||| M<18446744073709551616:=Y1h (n:=64) hN hM
theorem ZjA {N M:Nat} (h:N≠0 \/ M≠0):N ||| M≠0:=fun h0=>by
 have h1:∀ i,(N ||| M).testBit i=false:=fun i=>by rw [h0]; simp
 rcases h with h|h
 . exact h (YB fun i=>by have:=h1 i; rw [Y00] at this; simp at this; simp [this.1])
 . exact h (YB fun i=>by have:=h1 i; rw [Y00] at this; simp at this; simp [this.2])
theorem Z63 (N M:Nat) (hN:N<18446744073709551616) (hM:M<18446744073709551616):X7 Tryz.prog 16 [XH N,XH M] (· = XH (N ||| M)):=by
 have hlt:=Z5Q hN hM;rcases Z1f hN with⟨rfl,e1⟩|⟨h1,e1⟩<;>rcases Z1f hM with⟨rfl,e2⟩|⟨h2,e2⟩<;>rw [e1]<;>(try rw [e2])<;>clear e1 e2
 all_goals
  refine Yp ok16 fun C hC=>?_;refine Zn ?_;refine Z8 ?_;refine Z5 rfl rfl rfl ?_;refine Z5 rfl rfl rfl ?_;refine go ?_;refine Zh 1 ?_
  repeat' (first|refine Zm (Zo (k:=31) rfl rfl (ZP rfl)) ?_|(first|refine st ?_|(apply B<;>intro hb<;>try cases hb)))
 . exact Z4 rfl (Z1x rfl) Z2W.symm
 . refine Qd (Z1i [] 0) (ZV rfl) ?_;refine go ?_;refine Qd (Z1i [M] 0) (ZV rfl) ?_;refine Qr (Z2N rfl (Y2S 0 M hN hM)) ?_
   repeat' (first|refine Zm (Zo (k:=31) rfl rfl (ZP rfl)) ?_|(first|refine st ?_|(apply B<;>intro hb<;>try cases hb)))
   exact Z4 rfl (Z1x rfl) (Z3d hlt (ZjA (.inr h2))).symm
 . refine Qd (Z1i [N] 0) (ZV rfl) ?_;refine go ?_;refine Qd (Z1i [] 0) (ZV rfl) ?_;refine Qr (Z2N rfl (Y2S N 0 hN hM)) ?_
   repeat' (first|refine Zm (Zo (k:=31) rfl rfl (ZP rfl)) ?_|(first|refine st ?_|(apply B<;>intro hb<;>try cases hb)))
   exact Z4 rfl (Z1x rfl) (Z3d hlt (ZjA (.inl h1))).symm
 . refine Qd (Z1i [N] 0) (ZV rfl) ?_;refine go ?_;refine Qd (Z1i [M] 0) (ZV rfl) ?_;refine Qr (Z2N rfl (Y2S N M hN hM)) ?_
   repeat' (first|refine Zm (Zo (k:=31) rfl rfl (ZP rfl)) ?_|(first|refine st ?_|(apply B<;>intro hb<;>try cases hb)))
   exact Z4 rfl (Z1x rfl) (Z3d hlt (ZjA (.inl h1))).symm
theorem Z7K {N i:Nat} (hN:N<18446744073709551616) (h:N.testBit i=true):i<64:=by
 rcases Y32 i 64 with h' | h'
 . exact h'
 . have : N.testBit i = false := Y1A (YW hN (Y1f (n := 2) (by omega) (show 64 <= i by omega)));rw [this] at h; cases h
theorem Zkm {N i:Nat} (h:N.testBit i=true):N≠0:=fun h0=>by rw [h0] at h; simp at h
theorem Z2k {i:Nat} (h:i<64):2 ^ i<18446744073709551616:=by
 show 2 ^ i<2 ^ 64;exact Y14 (by omega) h
theorem Z2c (N:Nat) (hN:N<18446744073709551616) (i:Int):X7 Tryz.prog 42 [XH N,.val (.int .i64 i)] (· = .val (.bool (decide (0<=i)&&N.testBit i.toNat))):=by
 refine (ZcW (Xt N) (Z1Y N) i).mono fun r hr=>?_;rw [hr];refine XO ?_;have h:=Z2y (Z1Y N) i.toNat;rw [Z5Z] at h;rw [<- h];by_cases h0:0<=i
 . by_cases h1 : i <= 4095
   . simp [h0,h1]
   . have : N.testBit i.toNat = false := by
      cases hb:N.testBit i.toNat with
      | false=>rfl
      | true=>have:=Z7K hN hb; omega
     simp [this]
 . simp [h0]
def X2i (N:Nat) (i:Int):Nat:=if 0<=i/\N.testBit i.toNat=true then XN N (2 ^ i.toNat) else N
theorem Z8s (N:Nat) (hN:N<18446744073709551616) (i:Int):X7 Tryz.prog 243 [XH N,.val (.int .i64 i)] (· = XH (X2i N i)):=by
 refine Yp ok243 fun C hC=>?_;refine Zn ?_;refine Z8 ?_;refine Z5 rfl rfl rfl ?_;refine go ?_;refine Qe (Z2c N hN i) ⟨Z9 N,Yt,Yt⟩ ?_;by_cases h:0<=i/\N.testBit i.toNat=true
 case neg =>
  have hb:(decide (0<=i)&&N.testBit i.toNat)=false:=by
   cases hb:N.testBit i.toNat with
   | false=>simp
   | true=>simp only [hb,and_true] at h; simp [h]
  rw [hb];refine go ?_;refine Z4 rfl (Z9 N) ?_;rw [X2i,Y8 h]; rfl
 obtain⟨h0,hbit⟩:=h;obtain⟨j,rfl⟩:∃ j:Nat,i=j:=⟨i.toNat,by omega⟩
 rw [YY] at hbit;have hj:=Z7K hN hbit;have hne:=Zkm hbit;have hp:=Z2k hj;have e0:X2i N (j:Int)=XN N (2 ^ j):=by rw [X2i,Y7 ⟨h0,by rw [YY]; exact hbit⟩,YY]
 have hb:(decide (0<=(j:Int))&&N.testBit (j:Int).toNat)=true:=by rw [YY,hbit]; simp
 rw [hb,e0,Z3d hN hne];have hq:IntKind.i64.wrap ((j:Int).tdiv 64)=((0:Nat):Int):=by
  rw [Y2y _ _ ⟨by omega,by omega,by omega⟩]; omega
 have hr:(j:Int).tmod 64=((j:Nat):Int):=by
  rw [Y12 (by omega)]; omega
 iterate 5 (first|refine st ?_|(apply B<;>intro hb<;>try cases hb))
 (first|refine st ?_|(apply B<;>intro hb<;>try cases hb));refine Z4a rfl rfl rfl ?_
 iterate 2 (first|refine st ?_|(apply B<;>intro hb<;>try cases hb))
 refine ZB (Z11 (k:=1) rfl rfl rfl (fun c hc=>by
  rw [Y0g.1 hc]; rfl) rfl (by show (0+1)*8<=_;omega)) rfl rfl ?_
 refine go ?_;rw [hq]
 iterate 3 (first|refine st ?_|(apply B<;>intro hb<;>try cases hb))
 refine Qr (Z2N rfl hr) ?_
 refine Qr (ZfF rfl rfl (by omega) (v:=((2 ^ j:Nat):Int)) (by
  rw [show min ((j:Int)).toNat IntKind.u64.bits=j by simp [IntKind.bits]; omega];rw [Y3J,show (2:Int) ^ j=((2 ^ j:Nat):Int) by simp]
  exact Y0x _ ⟨Y1U _,Y2I.2 (show _<=18446744073709551615 by omega)⟩)) ?_
 refine Qr (Z2N rfl (Z1o N (2 ^ j) hN hp)) ?_
 repeat' (first|refine Zm (Zo (k:=25) rfl rfl (ZP rfl)) ?_|(first|refine st ?_|(apply B<;>intro hb<;>try cases hb)))
 refine Z13 rfl rfl (Z28 [XN N (2 ^ j)]) (ZV rfl) rfl fun r hr=>?_;have hw:X1o [XN N (2 ^ j)]:=fun x hx=>by rw [Y0g.1 hx]; exact Z4Q hN
 have e1:=hr.set hw;have e2:ofW [XN N (2 ^ j)]=XN N (2 ^ j):=by simp [ofW]
 rw [e2] at e1;subst e1;refine go ?_;exact Z4 rfl (Z9 _) rfl
def tz (x:Nat):Nat:=if h:x % 2=1 \/ x=0 then 0 else tz (x / 2)+1
termination_by x
decreasing_by omega
theorem Z64:∀ {x:Nat},x≠0->∃ m,x=2 ^ tz x*(2*m+1):=by
 intro x
 induction x using Nat.strongRecOn with
 | _ x ih =>
   intro h0;by_cases h:x % 2=1 \/ x=0
   . rw [tz, dif_pos h];exact⟨x / 2,by omega⟩
   . rw [tz, dif_neg h];obtain⟨m,hm⟩:=ih (x / 2) (by omega) (by omega);refine⟨m,?_⟩;rw [YU,Nat.mul_assoc,Y1t 2,<- Nat.mul_assoc,<- hm];omega
theorem Z2l (k m i:Nat):(2 ^ k*(2*m+1)).testBit i=(decide (i=k)||(decide (k<i)&&m.testBit (i-k-1))):=by
 rw [Nat.testBit_two_pow_mul];by_cases h:k<=i
 . obtain ⟨j, rfl⟩ : ∃ j, i = k + j := ⟨i - k, by omega⟩;rw [show k+j-k=j by omega];cases j with
   | zero=>simp [Y1F]
   | succ j =>
     rw [Y3L];have e:(2*m+1).testBit (j+1)=m.testBit j:=by rw [Y27]; congr 1; omega
     simp [e]
 . have h1 : ¬ i = k := by omega
   have h2:¬ k<i:=by omega
   simp [h,h1,h2]
theorem Z5H (k m i:Nat):(2 ^ k*(2*m+1)-1).testBit i=(decide (i<k)||(decide (k<i)&&m.testBit (i-k-1))):=by
 have hp:0<2 ^ k:=Y30 (by simp);have e:2 ^ k*(2*m+1)-1=2 ^ k*(2*m)+(2 ^ k-1):=by rw [Nat.mul_add]; omega
 rw [e,Y1L _ (by omega)];by_cases h:i<k
 . rw [Y7 h, Nat.testBit_two_pow_sub_one];simp [h]
 . rw [Y8 h];have h':¬ i<k:=h;obtain⟨j,rfl⟩:∃ j,i=k+j:=⟨i-k,by omega⟩
   rw [show k+j-k=j by omega];cases j with
   | zero=>simp [Y1F]
   | succ j =>
     rw [Y3L];have e:(2*m).testBit (j+1)=m.testBit j:=by rw [Y27]; congr 1; omega
     simp [e];omega
theorem Z9S {x:Nat} (h:x≠0):x.testBit (tz x)=true:=by
 obtain⟨m,hm⟩:=Z64 h;generalize tz x=k at hm ⊢;rw [hm,Z2l]; simp
theorem Zkn {x i:Nat} (h:x≠0) (hi:x.testBit i=true):tz x<=i:=by
 obtain⟨m,hm⟩:=Z64 h;generalize tz x=k at hm ⊢;rw [hm,Z2l] at hi;simp at hi;omega
theorem Z4R {x:Nat} (h:x≠0) (i:Nat):(x &&& (x-1)).testBit i=(x.testBit i&&decide (i≠tz x)):=by
 obtain⟨m,hm⟩:=Z64 h;generalize tz x=k at hm ⊢;rw [Y0z,hm,Z2l,Z5H];by_cases h1:i=k
 . subst h1; simp
 . by_cases h2 : k < i
   . have h3 : ¬ i < k := by omega
     simp [h1,h2,h3]
   . simp [h1,h2]
theorem ZjB {x:Nat} (hx:x<18446744073709551616) (h:x≠0):x &&& (18446744073709551616-x)=2 ^ tz x:=by
 have hlt:=Z7K hx (Z9S h);obtain⟨m,hm⟩:=Z64 h;generalize tz x=k at hm hlt ⊢;refine YB fun i=>?_;have e:18446744073709551616-x=2 ^ 64-((x-1)+1):=by omega
 rw [Y0z,e,Y2P (by omega),hm,Z2l,Z5H,YJ];by_cases h1:i=k
 . subst h1; simp [hlt]
 . have h1' : ¬ k = i := fun h => h1 h.symm;by_cases h2:k<i
   . simp [h1, h1', h2];intro a _ _;exact a
   . simp [h1,h1',h2]
theorem ZhY:∀ k:Fin 64,(285870213051353865*2 ^ k.val % 18446744073709551616 / 288230376151711744)<64/\X21[285870213051353865*2 ^ k.val % 18446744073709551616 / 288230376151711744]?=some ((k.val:Nat):Int):=by decide
theorem Zl6 {g j:Nat} {n:Nat} {e:Env} {h:X0} {i:Operand} {k:IntKind} (hg:X3t g=X21.map fun x=>.int .u8 x) (hi:ev e i=some (.val (.int k (j:Nat)))) (hj:j<64) :
 X1 (.iaddrA 64 1 (.global g) i) e h n=some (.cp ((zpv (X21.map fun x=>.int .u8 x)).drop (j*1)),h):=by
 have hev:ev e (.global g)=some (.cp (zpv (X21.map fun x=>.int .u8 x))):=by
  simp only [ev,hg]; rfl
 simp only [X1,hev,hi];rw [Y7 ⟨by omega,by omega⟩,YY]
theorem ZkT {j k n:Nat} {e:Env} {h:X0} {a:Operand} (ha:ev e a=some (.cp ((zpv (X21.map fun x=>.int .u8 x)).drop (j*1)))) (hj:X21[j]?=some ((k:Nat):Int)):X1 (.load false 1 a) e h n=some (.val (.int .u8 (k:Nat)),h):=by
 have hlt:j<X21.length:=(Yy.1 hj).1;have hl:(zpv (X21.map fun x=>.int .u8 x)).drop (j*1)=.val (.int .u8 (k:Nat)) :: (zpv (X21.map fun x=>.int .u8 x)).drop (j+1):=by
  rw [Y24,Y16 (by simp [zpv]; exact hlt)];congr 1;have:=(Yy.1 hj).2;simp [zpv,X2p,this]
 simp only [X1,ha,hl];simp [X1t]
theorem ZfZ (x:Nat) (hx:x<18446744073709551616) (h:x≠0):X7 Tryz.prog 134 [.val (.int .u64 (x:Int))] (· = .val (.int .i64 (tz x:Nat))):=by
 have hk:=Z7K hx (Z9S h);have hp:=Z2k hk;have hneg:IntKind.u64.wrap (0-(x:Int))=((18446744073709551616-x:Nat):Int):=by
  rw [Y3j]; omega
 have hand:bits .and .u64 (x:Int) (IntKind.u64.wrap (0-(x:Int)))=((2 ^ tz x:Nat):Int):=by
  rw [hneg,Y1Q _ _ hx (by omega),ZjB hx h]
 have hmul:IntKind.u64.wrap (((2 ^ tz x:Nat):Int)*285870213051353865)=((285870213051353865*2 ^ tz x % 18446744073709551616:Nat):Int):=by
  rw [Y3j,Int.mul_comm]
  rfl
 obtain⟨t1,t2⟩:=ZhY ⟨tz x,hk⟩;simp only at t1 t2;refine Yp ok134 fun C hC=>?_
 iterate 8 (first|refine st ?_|(apply B<;>intro hb<;>try cases hb))
 refine Z6i rfl rfl rfl (v:=false) (by simp; exact h) ?_;(first|refine st ?_|(apply B<;>intro hb<;>try cases hb));(first|refine st ?_|(apply B<;>intro hb<;>try cases hb))
 iterate 6 (first|refine st ?_|(apply B<;>intro hb<;>try cases hb))
 refine Ze rfl rfl rfl hand ?_;refine Ze rfl rfl rfl hmul ?_;refine Ze rfl rfl rfl (v:=((285870213051353865*2 ^ tz x % 18446744073709551616 / 288230376151711744:Nat):Int)) ?_ ?_
 . show Int.fdiv _ (2 ^ 58) = _;rw [Z38]
 refine Qo (Zl6 rfl rfl t1) ?_;refine Qo (ZkT rfl t2) ?_;refine Ze rfl rfl rfl (Y0v _ ⟨by omega,by omega⟩) ?_;refine go ?_;exact Z4 rfl Yt rfl
end
section
open Go.RowKit
attribute [local irreducible] aw Xj dK jw
def mem (N:Nat):List Nat:=(List.range 64).filter fun i=>N.testBit i
theorem Z5o {N i:Nat} (hN:N<18446744073709551616):i∈mem N↔N.testBit i=true:=by
 simp only [mem,Y1E,YZ];exact⟨fun h=>h.2,fun h=>⟨Z7K hN h,h⟩⟩
theorem Z5p (N:Nat):(mem N).Pairwise (· < ·):=List.Pairwise.filter _ List.pairwise_lt_range
theorem Z9T {N i:Nat} (h:i∈mem N):i<64:=by
 simp only [mem,Y1E,YZ] at h; exact h.1
theorem Ze7 (N:Nat):(mem N).length<=64:=by
 have:=Y2H (fun i=>N.testBit i) (List.range 64);simpa [mem] using this
theorem Zg0:∀ {l m:List Nat},l.Pairwise (· < ·)->m.Pairwise (· < ·)->(∀ x,x∈l↔x∈m)->l=m
 | [],[],_,_,_=>rfl
 | [],y :: m,_,_,h=>by have:=(h y).2 (by simp); cases this
 | x :: l,[],_,_,h=>by have:=(h x).1 (by simp); cases this
 | x :: l, y :: m, hl, hm, h => by
   rw [Y1j] at hl hm;have hxy:x=y:=by
    have h1:=(h x).1 (by simp);have h2:=(h y).2 (by simp);rcases Ye.1 h1 with h1|h1
    . exact h1
    . rcases Ye.1 h2 with h2 | h2
      . exact h2.symm
      . have:=hm.1 x h1; have:=hl.1 y h2; omega
   subst hxy;congr 1;refine Zg0 hl.2 hm.2 fun z=>?_;constructor
   . intro hz;rcases Ye.1 ((h z).1 (by simp [hz])) with hz' | hz'
     . have:=hl.1 z hz; omega
     . exact hz'
   . intro hz;rcases Ye.1 ((h z).2 (by simp [hz])) with hz' | hz'
     . have:=hm.1 z hz; omega
     . exact hz'
theorem Zd3:mem 0 = []:=by simp [mem]
theorem ZhZ {y:Nat} (hy:y<18446744073709551616) (h:y≠0):mem y=tz y :: mem (y &&& (y-1)):=by
 have hlt:y &&& (y-1)<18446744073709551616:=Y02 Y2c hy;refine Zg0 (Z5p y) ?_ fun z=>?_
 . rw [Y1j];refine⟨fun z hz=>?_,Z5p _⟩;rw [Z5o hlt,Z4R h] at hz;have h1:y.testBit z=true/\z≠tz y:=by simpa using hz
   have:=Zkn h h1.1;omega
 . rw [Ye, Z5o hy, Z5o hlt, Z4R h];constructor
   . intro hz;by_cases he:z=tz y
     . exact .inl he
     . exact .inr (by simp [hz,he])
   . rintro (rfl | hz)
     . exact Z9S h
     . have h1 : y.testBit z = true /\ z ≠ tz y := by simpa using hz
       exact h1.1
abbrev X6x (N:Nat):={ i:Nat // i∈mem N }
def X7x (N:Nat) (x:X6x N):List Value := [.int .i64 (x.val:Int)]
theorem Z7L (N:Nat):X7 Tryz.prog 82 [XH N] (· = .fn 133 [.cp [.vec (X8 (Xt N)) false]]):=by
 refine Yp ok82 fun C hC=>?_;refine Zn ?_;refine Z8 ?_;refine Z5 rfl rfl rfl ?_;refine go ?_;exact Z4 rfl ⟨⟨ZA _,Yt⟩,Yt⟩ rfl
theorem Zi0 {y:Nat} (hy:y<18446744073709551616):y &&& (y-1)<18446744073709551616:=Y02 Y2c hy
theorem Zi1 {y:Nat} (h:y≠0):y &&& (y-1)<y:=Y02 Y1T (by omega)
theorem Zd4 (N:Nat) (hN:N<18446744073709551616):X4f Tryz.prog 133 [.cp [.vec (X8 (Xt N)) false]] (X7x N) (fun xs=>xs.map (·.val)=mem N) (fun pre=>∃ t,pre.map (·.val)++t=mem N) (mem N).length:=by
 refine Ze4 ok133 (Y0 rfl) fun Y hYN hYe hYs hYn=>?_;by_cases h0:N=0
 . subst h0;rw [ZK]
   repeat' (first
    | refine Z4P ?_
    | refine Z2b ?_
    | refine Z1M ?_
    | refine Z1U rfl ?_
    | refine Z3c ?_
    | refine Z4e ?_
    | refine Z5n ?_
    | refine Z7H ?_
    | refine Z1Z (b:=true) rfl (fun _=>?_) (fun h=>by cases h)
    | refine Z1Z (b:=false) rfl (fun h=>by cases h) (fun _=>?_))
   refine Zbw (X:=Unit) (fun _=>True) (fun _=>0) (fun _=>[]) (fun _ => [(7,.val (.int .i64 ((0:Nat):Int))),(8,.val (.int .i64 0))]) () Yt rfl ⟨rfl,rfl,Yt⟩ ?_;rintro⟨⟩ -
   repeat' (first
    | refine Z4P ?_
    | refine Z2b ?_
    | refine Z1M ?_
    | refine Z1U rfl ?_
    | refine Z3c ?_
    | refine Z4e ?_
    | refine Z5n ?_
    | refine Z7H ?_
    | refine Z1Z (b:=true) rfl (fun _=>?_) (fun h=>by cases h)
    | refine Z1Z (b:=false) rfl (fun h=>by cases h) (fun _=>?_))
   exact⟨.inl rfl,Zd3.symm⟩
 rw [Z62 hN h0]
 repeat' (first
  | refine Z4P ?_
  | refine Z2b ?_
  | refine Z1M ?_
  | refine Z1U rfl ?_
  | refine Z3c ?_
  | refine Z4e ?_
  | refine Z5n ?_
  | refine Z7H ?_
  | refine Z1Z (b:=true) rfl (fun _=>?_) (fun h=>by cases h)
  | refine Z1Z (b:=false) rfl (fun h=>by cases h) (fun _=>?_))
 refine Zbw (X:=Bool×List (X6x N)) (fun x=>(x.1=true->x.2.map (·.val)=mem N)/\(x.1=false->x.2 = [])) (fun x=>if x.1 then 0 else 1) (fun x=>x.2)
  (fun x => [(0,.val (.func (.yield Y.l) #[] #[])),(6,.vec [[.val (.int .u64 (N:Int))]] false),(7,.val (.int .i64 ((1:Nat):Int))),(8,.val (.int .i64 (if x.1 then 1 else 0)))]) (false,[]) ⟨by simp,by simp⟩ rfl ⟨rfl,rfl,rfl,rfl,Yt⟩ ?_
 rintro⟨b,pre⟩ ⟨hb1,hb2⟩;simp only at hb1 hb2;cases b with
 | true =>
   repeat' (first
    | refine Z4P ?_
    | refine Z2b ?_
    | refine Z1M ?_
    | refine Z1U rfl ?_
    | refine Z3c ?_
    | refine Z4e ?_
    | refine Z5n ?_
    | refine Z7H ?_
    | refine Z1Z (b:=true) rfl (fun _=>?_) (fun h=>by cases h)
    | refine Z1Z (b:=false) rfl (fun h=>by cases h) (fun _=>?_))
   exact⟨.inl rfl,hb1 rfl⟩
 | false =>
   obtain rfl:=hb2 rfl
   repeat' (first
    | refine Z4P ?_
    | refine Z2b ?_
    | refine Z1M ?_
    | refine Z1U rfl ?_
    | refine Z3c ?_
    | refine Z4e ?_
    | refine Z5n ?_
    | refine Z7H ?_
    | refine Z1Z (b:=true) rfl (fun _=>?_) (fun h=>by cases h)
    | refine Z1Z (b:=false) rfl (fun h=>by cases h) (fun _=>?_))
   refine Zbw (X:=Nat×List (X6x N)) (fun x=>x.1<18446744073709551616/\x.2.map (·.val)++mem x.1=mem N) (fun x=>x.1) (fun x=>x.2)
    (fun x => [(0,.val (.func (.yield Y.l) #[] #[])),(3,.val (.int .i64 0)),(4,.val (.int .u64 (x.1:Int))),(6,.vec [[.val (.int .u64 (N:Int))]] false),(7,.val (.int .i64 ((1:Nat):Int))),(8,.val (.int .i64 0))]) (N,[]) ⟨hN,by simp⟩ rfl ⟨rfl,rfl,rfl,rfl,rfl,rfl,Yt⟩ ?_
   rintro⟨y,pre⟩ ⟨hy,hpre⟩;simp only at hy hpre;refine Z4P ?_;refine Z4P ?_;refine Z2b ?_;refine Z1U rfl ?_;refine Z1U rfl ?_;refine Z1M ?_;by_cases hy0:y=0
   . subst hy0;rw [Zd3,Y0p] at hpre
     repeat' (first
      | refine Z4P ?_
      | refine Z2b ?_
      | refine Z1M ?_
      | refine Z1U rfl ?_
      | refine Z3c ?_
      | refine Z4e ?_
      | refine Z5n ?_
      | refine Z7H ?_
      | refine Z1Z (b:=true) rfl (fun _=>?_) (fun h=>by cases h)
      | refine Z1Z (b:=false) rfl (fun h=>by cases h) (fun _=>?_))
     exact⟨(true,pre),⟨fun _=>hpre,fun h=>by cases h⟩,by simp,rfl,rfl,rfl,rfl,rfl,Yt⟩
   . have hne : ((y : Int) != 0) = true := by simp; exact hy0
     have hcond:∀ {e:Env},e 14=some (.val (.bool ((y:Int) != 0)))->ev e (.tmp 14)=some (.val (.bool true)):=fun h=>by rw [hne] at h; exact h
     refine Z1Z (b:=true) (hcond rfl) (fun _=>?_) (fun h=>by cases h);rw [ZhZ hy hy0] at hpre;have hmem:tz y∈mem N:=by rw [<- hpre]; simp
     have hlt:=Z9T hmem;have hlen:pre.length<(mem N).length:=by rw [<- hpre]; simp
     have hsum:IntKind.i64.wrap (IntKind.i64.wrap (64*0)+((tz y:Nat):Int))=((tz y:Nat):Int):=by
      rw [show IntKind.i64.wrap (64*0)=0 from rfl,Y41];exact Y0v _ ⟨by omega,by omega⟩
     refine Z4e ?_;refine Z4P ?_;refine Z3c ?_;refine ZhX (al := [_,_,_,_,_,_]) (d1:=25) (d2:=26) ⟨tz y,hmem⟩ ?_;refine Z1U rfl ?_;refine Z1U rfl ?_;refine Z1U rfl ?_;refine Z1U rfl ?_;refine ZfY (ZfZ y hy hy0) rfl rfl rfl ⟨Yt,Yt⟩ ?_;refine Z1U (p:=.val (.int .i64 ((tz y:Nat):Int))) ?_ ?_
     . show some (PV.val (Value.int .i64 (IntKind.i64.wrap (IntKind.i64.wrap (64 * 0) + ((tz y : Nat) : Int))))) = _;rw [hsum]
     refine Z1M ⟨rfl,rfl,by rw [hYe]; rfl,by rw [hYN]; exact hlen,?_,?_⟩
     . rw [hYs];exact⟨mem (y &&& (y-1)),by rw [Y0r,Y1b]; exact hpre⟩
     have hand:bits .and .u64 (y:Int) (IntKind.u64.wrap ((y:Int)-1))=((y &&& (y-1):Nat):Int):=by
      rw [Y3j,show ((y:Int)-1) % 18446744073709551616=((y-1:Nat):Int) by omega];exact Y1Q _ _ hy (by omega)
     refine Z2b ?_;refine Z1U rfl ?_;refine Z1U rfl ?_;refine Z1U rfl ?_;refine Z1U (p:=.val (.int .u64 ((y &&& (y-1):Nat):Int))) ?_ ?_
     . show some (PV.val (Value.int .u64 (bits .and .u64 (y : Int) (IntKind.u64.wrap ((y : Int) - 1))))) = _;rw [hand]
     refine Z1U rfl ?_;refine Z1M ?_;exact⟨(y &&& (y-1),pre ++ [⟨tz y,hmem⟩]),⟨Zi0 hy,by rw [Y0r,Y1b]; exact hpre⟩,Zi1 hy0,rfl,rfl,rfl,rfl,rfl,rfl,rfl,Yt⟩
def X9 (l:List Nat):List Int:=l.map fun (x:Nat)=>(x:Int)
theorem Z9U (N:Nat) (hN:N<18446744073709551616):X7 Tryz.prog 77 [XH N] (· = .val (.int .i64 (X1c 64 N:Nat))):=by
 have h:=ZcZ (Xt N) (Z1Y N) (by have:=Z3W hN;omega);rw [Z9L hN] at h;exact h
theorem Zg1 (N:Nat) (hN:N<18446744073709551616):X7 Tryz.prog 37 [XH N] (· = .vec (Xc (X9 (mem N))) false):=by
 refine Yp ok37 fun C hC=>?_;refine Zn ?_;refine Z8 ?_;refine Z5 rfl rfl rfl ?_;refine go ?_;refine Qe (Z9U N hN) ⟨Z9 N,Yt⟩ ?_;have hpop:=Zbo 64 N;refine ZB (Z4E (a:=0) (b:=X1c 64 N) rfl rfl (Y0l _) (by omega)) rfl rfl ?_;refine go ?_;refine Qe (Z7L N) ⟨Z9 N,Yt⟩ ?_;refine go ?_;refine Zd2 (X:=List Int) hC (caps := [.cp [.vec (X8 (Xt N)) false]]) [(3,.ptr 1 0 0),(9,.fn 133 [.cp [.vec (X8 (Xt N)) false]])] (fun acc => [(0,⟨1,Xc acc⟩),(1,⟨1,[[.own 0]]⟩)]) rfl ⟨⟨ZA _,Yt⟩,Yt⟩ (Zd4 N hN) (fun _=>rfl)
  (fun ex pre acc=>ex=.normal/\acc=X9 (pre.map (·.val))) 2 (Y0l _) [] ⟨rfl,rfl⟩ (Z4G hC (Y0l _) ⟨⟨rfl,show (1:Nat)<2 by decide⟩,⟨rfl,⟨Z1b _ _,Yt⟩,Yt⟩,Yt⟩ ⟨⟨by decide,rfl,Yt⟩,⟨by decide,rfl,⟨show (0:Nat)<2 by decide,Yt⟩,Yt⟩,Yt⟩)
  (fun z q hq=>by simp at hq; rcases hq with rfl|rfl<;>exact Nat.one_pos) _ (fun x=>rfl) ?_ ?_ ?_
 . rintro C2 hC2 pre x acc ⟨-, rfl⟩ hlen;have hm:=Ze7 N;refine go ?_
   refine ZB (Z11 (k:=0) (m:=Xc [(x.val:Int)]) (fl:=true) rfl rfl rfl (fun c hc=>by obtain⟨y,_,rfl⟩:=Y0i.1 hc; rfl) rfl (by
    show ((Xc (X9 (pre.map (·.val)))).length+(Xc [(x.val:Int)]).length)*8<=_;simp [Xc,X9]
    omega)) rfl rfl ?_
   refine go ?_;have happ:Xc (X9 (pre.map (·.val)))++Xc [(x.val:Int)]=Xc (X9 ((pre ++ [x]).map (·.val))):=by simp [Xc,X9]
   refine⟨.inl rfl,X9 ((pre ++ [x]).map (·.val)),mv 0 2,⟨rfl,rfl⟩,fun i hi=>absurd hi (by omega),Z1e rfl,⟨Qt 1 0 0,Qp ⟨⟨ZA _,Yt⟩,Yt⟩,Yt⟩,⟨⟨by decide,_,rfl,?_⟩,⟨by decide,_,rfl,X1w.single ⟨.own 0 (by decide),Yt⟩ rfl⟩,Yt⟩⟩;rw [<- happ];exact .same _ (by rw [happ]; exact Zf _)
 . rintro xs acc hS ⟨-, rfl⟩;rw [hS]
   repeat' (first|refine Zm (Zo (k:=15) rfl rfl (Zf _)) ?_|(first|refine st ?_|(apply B<;>intro hb<;>try cases hb)))
   exact Z4 rfl (Zf _) rfl
 . rintro ex pre acc - ⟨rfl,-⟩ (h|⟨id,h⟩)<;>cases h
end
section
open Go.RowKit
abbrev Pr:=Nat×Nat
def prC (p:Pr):List PV := [.val (.int .i64 (p.1:Int)),.val (.int .i64 (p.2:Int))]
theorem Zd5 (p:Pr):Xe (prC p):=⟨Yt,Yt,Yt⟩
inductive Up (l:List Pr):Nat->Nat->Prop
 | one {a b:Nat} (h:(a,b)∈l):Up l a b
 | more {a b c:Nat} (h:Up l a b) (k:(b,c)∈l):Up l a c
theorem Zko {l:List Pr} {a b:Nat}:Up l a b↔∃ c,(c,b)∈l/\(a=c \/ Up l a c):=by
 constructor
 . intro h;cases h with
   | one h=>exact⟨a,h,.inl rfl⟩
   | more h k=>exact⟨_,k,.inr h⟩
 . rintro ⟨c, h, rfl | k⟩
   . exact .one h
   . exact .more k h
def X1R (l:List Pr):Prop:=∀ p∈l,p.1<64/\p.2<64
theorem Up.lt {l:List Pr} (hl:X1R l) {a b:Nat} (h:Up l a b):a<64/\b<64:=by
 induction h with
 | one h=>exact hl _ h
 | more _ k ih=>exact⟨ih.1,(hl _ k).2⟩
def Acy (l:List Pr):Prop:=∃ rank:Nat->Nat,∀ p∈l,rank p.1<rank p.2
theorem Acy.sub {l m:List Pr} (h:Acy m) (hs:∀ p∈l,p∈m):Acy l:=by
 obtain⟨r,hr⟩:=h;exact⟨r,fun p hp=>hr p (hs p hp)⟩
def ofP (p:Nat->Bool):Nat->Nat
 | 0=>0
 | k+1=>if p k then ofP p k ||| 2 ^ k else ofP p k
theorem Z8t (p:Nat->Bool):∀ k i,(ofP p k).testBit i=(decide (i<k)&&p i)
 | 0,i=>by simp [ofP]
 | k + 1, i => by
   have ih:=Z8t p k i;unfold ofP;by_cases hk:i=k
   . subst hk;cases hp:p i with
     | true=>rw [Y7 rfl,Y00,Nat.testBit_two_pow_self]; simp
     | false=>rw [Y8 (by decide),ih]; simp
   . have h2 : decide (i < k + 1) = decide (i < k) := Y2n.2 (by omega);rw [h2]
     split
     . rw [Y00,Nat.testBit_two_pow_of_ne (by omega),Bool.or_false,ih]
     . exact ih
theorem Zj5 (p:Nat->Bool):∀ k,ofP p k<2 ^ k
 | 0=>by simp [ofP]
 | k + 1 => by
   have:=Zj5 p k;have h2:2 ^ (k+1)=2 ^ k+2 ^ k:=by rw [YU]; omega
   unfold ofP
   split
   . exact Y1h (by omega) (by omega)
   . omega
theorem Zg2 (p:Nat->Bool):ofP p 64<18446744073709551616:=Zj5 p 64
theorem X6a {a b:Nat} (ha:a<18446744073709551616) (hb:b<18446744073709551616) (h:∀ i,i<64->a.testBit i=b.testBit i):a=b:=by
 apply YB;intro i;by_cases hi:i<64
 . exact h i hi
 . have e : ∀ {x : Nat}, x < 18446744073709551616 -> x.testBit i = false := fun {x} hx => Y1A (YW hx (Y1f (n := 2) (by decide) (show 64 <= i by omega)));rw [e ha,e hb]
open Classical in
noncomputable def abv (l:List Pr) (b:Nat):Nat:=ofP (fun a=>decide (Up l a b)) 64
open Classical in
noncomputable def bel (l:List Pr) (a:Nat):Nat:=ofP (fun b=>decide (Up l a b)) 64
theorem Z8u {l:List Pr} (hl:X1R l) (a b:Nat):(abv l b).testBit a=true↔Up l a b:=by
 unfold abv;rw [Z8t];simp only [Y0k,Y0n];exact⟨fun h=>h.2,fun h=>⟨(h.lt hl).1,h⟩⟩
theorem ZjC {l:List Pr} (hl:X1R l) (a b:Nat):(bel l a).testBit b=true↔Up l a b:=by
 unfold bel;rw [Z8t];simp only [Y0k,Y0n];exact⟨fun h=>h.2,fun h=>⟨(h.lt hl).2,h⟩⟩
theorem Z7M (l:List Pr) (b:Nat):abv l b<18446744073709551616:=Zg2 _
theorem Zkp (l:List Pr) (a:Nat):bel l a<18446744073709551616:=Zg2 _
structure X3e (l:List Pr) (S:List Nat):Prop where
 nodup:S.Nodup
 lt:∀ x∈S,x<64
 pred:∀ (t:Nat) (ht:t<S.length) (a:Nat),(a,S[t])∈l->a∈S.take t
theorem X3e.nil (l:List Pr):X3e l []:=⟨Y36,fun _ h=>(by cases h),fun t ht=>absurd ht (YR t)⟩
theorem X3e.closed {l:List Pr} {S:List Nat} (h:X3e l S) {a b:Nat} (hp:(a,b)∈l) (hb:b∈S):a∈S:=by
 obtain⟨t,ht,rfl⟩:=YE hb;exact Y1w (h.pred t ht a hp)
theorem X3e.snoc {l:List Pr} {S:List Nat} (h:X3e l S) {k:Nat} (hk:k ∉ S) (h64:k<64) (hp:∀ a,(a,k)∈l->a∈S):X3e l (S ++ [k]):=by
 refine⟨?_,?_,?_⟩
 . rw [Y3S];exact⟨h.nodup,by simp,fun a ha b hb e=>by rw [Y0g] at hb; subst hb; subst e; exact hk ha⟩
 . intro x hx;rcases Y0h.1 hx with hx|hx
   . exact h.lt x hx
   . rw [Y0g] at hx; omega
 . intro t ht a ha;rw [Y0e,Y0s] at ht;by_cases htl:t<S.length
   . rw [List.getElem_append_left htl] at ha;rw [Y48 (by omega)];exact h.pred t htl a ha
   . have e : t = S.length := by omega
     subst e;rw [List.getElem_append_right (Y0m _)] at ha;simp only [Y2E,List.getElem_singleton] at ha;rw [List.take_left']
     . exact hp a ha
     . rfl
theorem Z8v:∀ (n:Nat) (S:List Nat),S.Nodup->(∀ x∈S,x<n)->S.length<=n
 | 0, S, _, h => by
   cases S with
   | nil=>exact Y0m _
   | cons a S=>exact absurd (h a (Y0t ..)) (YR a)
 | n + 1, S, hn, h => by
   have hlen:=List.length_erase (a:=n) (l:=S);have ih:=Z8v n (S.erase n) (hn.sublist List.erase_sublist) fun x hx=>by
    have h1:=h x (List.mem_of_mem_erase hx);have h2:x≠n:=fun e=>by rw [e] at hx; exact (List.Nodup.mem_erase_iff hn).1 hx |>.1 rfl
    omega
   split at hlen<;>omega
theorem X3e.len {l:List Pr} {S:List Nat} (h:X3e l S):S.length<=64:=Z8v 64 S h.nodup h.lt
theorem X3e.all {l:List Pr} {S:List Nat} (h:X3e l S) (h64:S.length=64) {j:Nat} (hj:j<64):j∈S:=by
 apply Y1X;intro hno;have:=Z8v 64 (j :: S) (Y21.2 ⟨hno,h.nodup⟩) fun x hx=>by
  rcases Ye.1 hx with rfl|hx
  . exact hj
  . exact h.lt x hx
 rw [Y04] at this;omega
theorem X7r {l:List Pr} (hl:X1R l) (hacy:Acy l) {S:List Nat} (h:X3e l S) (hlt:S.length<64):∃ j,j<64/\j ∉ S/\∀ a,(a,j)∈l->a∈S:=by
 obtain⟨rank,hr⟩:=hacy;have key:∀ m j,rank j<=m->j<64->j ∉ S->∃ j,j<64/\j ∉ S/\∀ a,(a,j)∈l->a∈S:=by
  intro m
  induction m with
  | zero =>
    intro j hm hj hno;exact⟨j,hj,hno,fun a ha=>by have:=hr _ ha; simp only at this; omega⟩
  | succ m ih =>
    intro j hm hj hno;by_cases hall:∀ a,(a,j)∈l->a∈S
    . exact⟨j,hj,hno,hall⟩
    . obtain ⟨a, ha⟩ := Classical.not_forall.1 hall;obtain⟨ha,hna⟩:=Classical.not_imp.1 ha;have h1:=hr _ ha;simp only at h1;exact ih a (by omega) (hl _ ha).1 hna
 have hex:∃ j,j<64/\j ∉ S:=by
  apply Y1X;intro hno;have hall:∀ j,j<64->j∈S:=fun j hj=>Y1X fun h=>hno ⟨j,hj,h⟩;have hp:(List.range 64).Perm S:=(Y4h List.nodup_range h.nodup).2 fun x=>by
   rw [YZ];exact⟨hall x,h.lt x⟩
  have:=hp.length_eq;rw [Y2f] at this;omega
 obtain⟨j,hj,hno⟩:=hex;exact key _ j (Y0m _) hj hno
def X1H (l:List Pr) (S:List Nat) (j:Nat):Int:=if j∈S then -1 else (l.countP fun p=>p.2 == j && !decide (p.1∈S):Nat)
def X1d (l:List Pr) (S:List Nat) (k i j:Nat):Int:=if j∈S ++ [k] then -1 else ((l.take i).countP (fun p=>p.2 == j && !decide (p.1∈S ++ [k]))+(l.drop i).countP (fun p=>p.2 == j && !decide (p.1∈S)):Nat)
theorem Z7N {l:List Pr} {S:List Nat} {j:Nat}:X1H l S j=0↔j ∉ S/\∀ a,(a,j)∈l->a∈S:=by
 unfold X1H
 split
 . rename_i h; exact⟨fun e=>absurd e (by decide),fun e=>absurd h e.1⟩
 . rename_i h;rw [show ((0:Int))=((0:Nat):Int) from rfl,Y3e,List.countP_eq_zero];constructor
   . intro h2;refine⟨h,fun a ha=>?_⟩;have:=h2 _ ha;simpa using this
   . rintro ⟨-, h2⟩ p hp;by_cases e:p.2=j
     . have := h2 p.1 (by rw [<- e]; exact hp);simp [this]
     . simp [e]
theorem Ze8 (l:List Pr) (S:List Nat) (k j:Nat):X1d l S k 0 j=if j=k then -1 else X1H l S j:=by
 unfold X1d X1H;rw [Y3x,Y2D,Y4f,YQ];by_cases hk:j=k
 . rw [Y7 hk,Y7 (by rw [hk]; simp)]
 . rw [Y8 hk];by_cases hj:j∈S
   . rw [Y7 hj,Y7 (List.mem_append_left _ hj)]
   . rw [Y8 hj,Y8 (by simp [hj,hk])]
theorem Zg3 (l:List Pr) (S:List Nat) (k j:Nat):X1d l S k l.length j=X1H l (S ++ [k]) j:=by
 unfold X1d X1H;rw [Y0q,List.drop_length,Y4f,YX]
theorem Ze9 {l:List Pr} {S:List Nat} {k i:Nat} (hi:i<l.length) (j:Nat) (hT:X3e l S) (hk:k ∉ S) (hp:∀ a,(a,k)∈l->a∈S) :
 X1d l S k (i+1) j=if l[i].1=k/\j=l[i].2 then X1d l S k i j-1 else X1d l S k i j:=by
 have htk:l.take (i+1)=l.take i ++ [l[i]]:=by rw [YI,Y0c hi]; rfl
 have hdr:l.drop i=l[i] :: l.drop (i+1):=Y16 hi;have hmem:l[i]∈l:=Y0j hi;unfold X1d;rw [htk,hdr,List.countP_append,List.countP_cons,Y4f,YQ,List.countP_cons];generalize l[i]=p at hmem;by_cases hpk:p.1=k
 . have hkk : (k, p.2) ∈ l := by rw [<- hpk]; exact hmem
   have hp2:p.2 ∉ S ++ [k]:=by
    rw [Y0h,Y0g];rintro (h|h)
    . exact hk (hT.closed hkk h)
    . rw [h] at hkk; exact hk (hp k hkk)
   by_cases hj:j=p.2
   . have e1 : (p.2 == j && !decide (p.1 ∈ S ++ [k])) = false := by rw [hpk]; simp
     have e2:(p.2 == j && !decide (p.1∈S))=true:=by rw [hpk,hj]; simp [hk]
     have hjn:¬ j∈S ++ [k]:=hj▸hp2;rw [e1,e2,Y7 (show p.1=k/\j=p.2 from ⟨hpk,hj⟩),Y8 hjn,Y8 hjn,Y8 Bool.false_ne_true,Y7 rfl];omega
   . rw [Y8 (show ¬ (p.1 = k /\ j = p.2) from fun h => hj h.2)];have e:(p.2 == j)=false:=by rw [Y1B]; exact Y2t hj
     simp only [e,Y2m,Y2z,Y1G,YX]
 . rw [Y8 (show ¬ (p.1 = k /\ j = p.2) from fun h => hpk h.1)];have e:decide (p.1∈S ++ [k])=decide (p.1∈S):=Y2n.2 (by rw [Y0h,Y0g]; exact⟨fun h=>h.elim id fun h=>absurd h hpk,.inl⟩);rw [e];by_cases hjn:j∈S ++ [k]
   . rw [Y7 hjn,Y7 hjn]
   . rw [Y8 hjn,Y8 hjn]; omega
theorem Zi2 (l:List Pr) (S:List Nat) (k i j:Nat) : -1<=X1d l S k i j/\X1d l S k i j<=l.length:=by
 unfold X1d;have h1:=Y3u (p:=fun p:Pr=>p.2 == j && !decide (p.1∈S ++ [k])) (l:=l.take i);have h2:=Y3u (p:=fun p:Pr=>p.2 == j && !decide (p.1∈S)) (l:=l.drop i);rw [Y0o] at h1;rw [Y17] at h2
 split<;>omega
def X3l (l:List Pr) (j:Nat):Nat:=l.countP fun p=>p.2 == j
theorem Zg4 {l:List Pr} {i:Nat} (hi:i<l.length) (j:Nat):X3l (l.take (i+1)) j=if j=l[i].2 then X3l (l.take i) j+1 else X3l (l.take i) j:=by
 have htk:l.take (i+1)=l.take i ++ [l[i]]:=by rw [YI,Y0c hi]; rfl
 unfold X3l;rw [htk,List.countP_append,List.countP_singleton];by_cases h:j=l[i].2
 . rw [Y7 h]; simp [h]
 . rw [Y8 h]; simp [Y2t h]
theorem Zi3 (l:List Pr) (j:Nat):X1H l [] j=(X3l l j:Nat):=by
 unfold X1H X3l;simp
theorem ZjD (l:List Pr) (j:Nat):X3l l j<=l.length:=Y3u
def tab (f:Nat->List PV):List (List PV):=(List.range 64).map f
theorem Z15 (f:Nat->List PV):(tab f).length=64:=by simp [tab]
theorem Z2Q {f:Nat->List PV} {i:Nat} (hi:i<64):(tab f).getD i []=f i:=by
 rw [Y0b,tab,Y0y,Y2V hi]; rfl
theorem Zg5 {f:Nat->List PV} {i:Nat} (r:List PV) (hi:i<64):(tab f).set i r=tab fun j=>if j=i then r else f j:=by
 apply Y3T;intro j;rw [Y1o,Z15];unfold tab;rw [Y0y,Y0y];by_cases hj:j<64
 . rw [Y2V hj];by_cases e:i=j
   . subst e; simp [hi]
   . rw [Y8 e]; simp [Y2t e]
 . rw [List.getElem?_eq_none (by simpa using hj)];by_cases e:i=j
   . subst e; exact absurd hi hj
   . rw [Y8 e]; rfl
theorem Z3A {f g:Nat->List PV} (h:∀ j,j<64->f j=g j):tab f=tab g:=Y2p fun j hj=>h j (YZ.1 hj)
theorem Z1B {f:Nat->List PV} (h:∀ j,Xe (f j)):X2 (tab f):=by
 refine (Z25 _ _).2 fun r hr=>?_;obtain⟨j,_,rfl⟩:=Y0i.1 hr;exact h j
theorem ZjE (r:List PV):List.replicate 64 r=tab fun _=>r:=by rw [tab,List.map_const',Y2f]
def X2F (f:Nat->Int) (j:Nat):List PV := [.val (.int .i64 (f j))]
theorem Z4S (f:Nat->Int) (j:Nat):Xe (X2F f j):=⟨Yt,Yt⟩
end
section
def rW {α:Type}:Result α->World
 | .ok _ w=>w
 | .halt _ w=>w
def sW:Stepped->Option World
 | .next m=>some m.world
 | .ended _ _=>none
def gW:GStep->Option World
 | .go _ w _=>some w
 | .comm _ _ _ _ w _=>some w
 | .spawn _ _ w _=>some w
 | .count _ w _=>some w
 | .timer _ _ w _=>some w
 | .alone _ _ w _=>some w
 | .newcoro _ _ _ w _=>some w
 | .coroswitch _ _ _ w _=>some w
 | .collect _ w _=>some w
 | .watch _ w _=>some w
 | .ended _ _ _=>none
def X1s (D:Nat):Option World->Prop
 | some w=>D<=w.drawn
 | none=>True
theorem X1s.mono {D E:Nat} (h:D<=E):∀ {o:Option World},X1s E o->X1s D o
 | some _,k=>Y03 h k
 | none,_=>trivial
@[simp] theorem Z3X (es:Array Event) (s:GStep):gW (GStep.after es s)=gW s:=by cases s<;>rfl
theorem Z6w {α:Type}:∀ (x:Ask α) (w:World),w.drawn<=(w.ask x).2.drawn
 | .done a,w=>Y0m _
 | .ask what range k, w => by
   rw [World.ask]
   split
   . exact Z6w _ w
   . exact Y03 (Nat.le_succ _) (Z6w _ { w with drawn:=w.drawn+1 })
theorem Zg6 (w:World) (c:Sys):w.drawn<=(w.sys c).2.drawn:=by
 have h:=Z6w (Kernel.perform c w.os) w;unfold World.sys;generalize w.ask (Kernel.perform c w.os)=x at h;obtain⟨⟨r,os⟩,w'⟩:=x;cases r<;>first|exact Y0m _|exact h
theorem Z6x {p:Program} {w w':World} {a:Addr} {u:TypeId} {k:Addr} {v:Value} {at':Bool} {l:List Addr} (h:w.viewStore p a u k v at'=.ok (w',l)):w'.drawn=w.drawn:=by
 unfold World.viewStore at h;simp only [bind,Except.bind,pure,Except.pure] at h
 repeat' first
  | (cases h; done)
  | (cases h; rfl)
  | split at h
theorem Z7f {p:Program} {w w':World} {a:Addr} {v:Value} {at':Bool} {l:List Addr} (h:w.farStore p a v at'=.ok (w',l)):w'.drawn=w.drawn:=by
 unfold World.farStore at h
 repeat' first
  | (cases h; done)
  | (rename_i hv; cases h; exact Z6x hv)
  | split at h
theorem Z9V {α:Type} (P:Program):∀ (s:Sem α) (w:World),w.drawn<=(rW (s.run P w)).drawn:=by
 intro s
 induction s with
 | pure a=>exact fun w=>Y0m _
 | load m a k ih =>
   intro w;simp only [Sem.run]
   split
   . exact ih _ _
   . split
     . exact ih _ _
     . exact Y0m _
 | store m a v k ih =>
   intro w;cases v<;>simp only [Sem.run]<;>first
    | exact Y0m _
    | (split
       . split
         . exact Y0m _
         . exact ih (w.setCell a _)
       . split
         . rename_i hf;exact Y03 (Y3Z (Z7f hf).symm) (ih _)
         . exact Y0m _)
 | new o k ih=>intro w; simp only [Sem.run]; exact ih _ { w with heap:=w.heap.push o }
 | shape r k ih=>intro w; simp only [Sem.run]; exact ih _ _
 | freeze a n k ih =>
   intro w;simp only [Sem.run];refine Y03 (Y3Z ?_) (ih _);unfold World.freeze
   split<;>rfl
 | frozen a k ih=>intro w; simp only [Sem.run]; exact ih _ _
 | getObj r k ih =>
   intro w;simp only [Sem.run]
   split
   . exact Y0m _
   . exact ih _ _
   . exact Y0m _
 | setObj r o k ih =>
   intro w;simp only [Sem.run]
   split
   . exact Y0m _
   . exact ih { w with heap:=w.heap.setIfInBounds r o }
   . exact Y0m _
 | choose q k ih =>
   intro w;simp only [Sem.run]
   split
   . exact ih _ _
   . exact Y03 (Nat.le_succ _) (ih _ { w with drawn:=w.drawn+1 })
 | sys c k ih=>intro w; simp only [Sem.run]; exact Y03 (Zg6 w c) (ih _ _)
 | program k ih=>intro w; simp only [Sem.run]; exact ih _ _
 | mark m k ih=>intro w; simp only [Sem.run]; exact ih _
 | halt h=>exact fun w=>Y0m _
theorem Z1l {α:Type} {P:Program} {s:Sem α} {w w':World} {a:α} (h:s.run P w=.ok a w'):w.drawn<=w'.drawn:=by
 have:=Z9V P s w
 rwa [h] at this
theorem Z1N {α:Type} {P:Program} {s:Sem α} {w w':World} {a:Halt} (h:s.run P w=.halt a w'):w.drawn<=w'.drawn:=by
 have:=Z9V P s w
 rwa [h] at this
theorem Z6y {α β:Type} {P:Program} {s:Sem α} {t:Sem β} {w w1 w2:World} {a:α} {b:β} (h:s.run P w=.ok a w1) (k:t.run P w1=.ok b w2):w.drawn<=w2.drawn:=Y03 (Z1l h) (Z1l k)
theorem ZjF {α β:Type} {P:Program} {s:Sem α} {t:Sem β} {w w1 w2:World} {a:α} {b:Halt} (h:s.run P w=.ok a w1) (k:t.run P w1=.halt b w2):w.drawn<=w2.drawn:=Y03 (Z1l h) (Z1N k)
theorem Zg7 {D:Nat} {α:Type} {o:Option α} {a:GStep} {f:α->GStep} (ha:X1s D (gW a)) (hf:∀ k,X1s D (gW (f k))):X1s D (gW (o.elim a f)):=by
 cases o with
 | none=>exact ha
 | some k=>exact hf k
theorem Z2R (p:Program) (main:Bool) (fr:Frame) (callers:List Frame) (dying:Option Dying) (v:Value) (w:World):X1s w.drawn (gW (doReturn p main fr callers dying v w)):=by
 unfold doReturn
 repeat' first
  | exact Y0m _
  | trivial
  | split
theorem Z4g (fr:Frame) (a:List ByteArray) (m:String) (b:Bool) (w:World):X1s w.drawn (gW (dieOf fr a m b w)):=Y0m _
theorem Z2X (p:Program) (fr:Frame) (v:Value) (w:World):X1s w.drawn (gW (endPrinting p fr v w)):=by
 unfold endPrinting;simp only []
 split
 . exact Y0m _
 . trivial
theorem Z49 (p:Program) (fr:Frame) (callers:List Frame) (dying:Option Dying) (m:String) (w:World):X1s w.drawn (gW (endFatal p fr callers dying m w)):=by
 unfold endFatal;simp only []
 split
 . rename_i h;exact Z1l h
 . trivial
 . trivial
theorem Z8w (w:World) (fd:Nat) (t:ByteArray) (o:Outcome):X1s w.drawn (gW (endWith w fd t o)):=by
 unfold endWith;simp only []
 repeat' first
  | trivial
  | split
theorem Z8x (p:Program) (fr:Frame) (d:Dying) (f:Fatal) (w:World):X1s w.drawn (gW (writeOn p fr d f w)):=by
 unfold writeOn;simp only [Y3a]
 split
 . trivial
 . split
   . rename_i h;exact Z1l (Y3B h).1
   . rename_i h;exact Z1N (Y3B h).1
   . trivial
   . trivial
theorem Zg8 (p:Program) (fr:Frame) (d:Dying) (w:World):X1s w.drawn (gW (die p fr d w)):=by
 unfold die;simp only [Y3a]
 repeat' first
  | exact Y0m _
  | trivial
  | exact Z8x _ _ _ _ _
  | exact Z8w _ _ _ _
  | exact Z1l (by assumption)
  | exact (Z2X _ _ _ _).mono (Z1N (by assumption))
  | rw [Z3X]
  | split
theorem Z4T (p:Program) (fr:Frame) (callers:List Frame) (dying:Option Dying) (d:Deferred) (w:World):X1s w.drawn (gW (callDeferred p fr callers dying d w)):=by
 unfold callDeferred;simp only [Y3a]
 repeat' first
  | exact Y0m _
  | trivial
  | exact Z1l (by assumption)
  | exact Z1N (by assumption)
  | exact (Z49 _ _ _ _ _ _).mono (Z1N (by assumption))
  | exact (Z4g _ _ _ _ _).mono (Z1N (by assumption))
  | rw [Z3X]
  | split
theorem Z9W (p:Program) (main:Bool) (fr:Frame) (callers:List Frame) (dying:Option Dying) (w:World):X1s w.drawn (gW (unwind p main fr callers dying w)):=by
 unfold unwind;simp only [Y3a]
 repeat' first
  | exact Y0m _
  | trivial
  | exact Z4T _ _ _ _ _ _
  | exact Z2R _ _ _ _ _ _ _
  | exact Z2X _ _ _ _
  | exact Z1l (by assumption)
  | exact (Z2R _ _ _ _ _ _ _).mono (Z1l (by assumption))
  | rw [Z3X]
  | split
theorem Zby (p:Program) (fr:Frame) (callers:List Frame) (dying:Option Dying) (g:Nat) (w:World):X1s w.drawn (gW (early p fr callers dying g w)):=by
 unfold early;simp only []
 repeat' first
  | exact Y0m _
  | trivial
  | exact Z1l (by assumption)
  | (simp only [gW,X1s]; exact Z1l (by assumption))
  | rw [Z3X]
  | split
theorem Z4h (p:Program) (b:Bool) (fr:Frame) (callers:List Frame) (dying:Option Dying) (s:Sem Next) (w:World):X1s w.drawn (gW (stepG.apply p b fr callers dying s w)):=by
 unfold stepG.apply;simp only [Y3a];have hs:(if b=true then (s.run p w,s.events p w #[]) else (s.run p w,#[])).1=s.run p w:=by split<;>rfl
 generalize (if b=true then (s.run p w,s.events p w #[]) else (s.run p w,#[]))=x at hs ⊢;obtain⟨r,es⟩:=x;simp only at hs ⊢;subst hs
 repeat' first
  | exact Y0m _
  | trivial
  | exact Z1l (by assumption)
  | exact Z1N (by assumption)
  | exact (Z49 _ _ _ _ _ _).mono (Z1N (by assumption))
  | exact (Z4g _ _ _ _ _).mono (Z1N (by assumption))
  | exact (Z4g _ _ _ _ _).mono (Z1l (by assumption))
  | exact (Zby _ _ _ _ _ _).mono (Z1N (by assumption))
  | rw [Z3X]
  | split
theorem Zea (p:Program) (b:Bool) (fr:Frame) (callers:List Frame) (dying:Option Dying) (w:World):X1s w.drawn (gW (stepG.oper p b fr callers dying w)):=by
 unfold stepG.oper
 repeat' first
  | trivial
  | exact Z4h _ _ _ _ _ _ _
  | split
theorem Zeb (p:Program) (main b:Bool) (fr:Frame) (callers:List Frame) (dying:Option Dying) (w:World):X1s w.drawn (gW (stepG.exec p main b fr callers dying w)):=by
 unfold stepG.exec;simp only [Y3a]
 repeat' first
  | exact Y0m _
  | trivial
  | exact Z4h _ _ _ _ _ _ _
  | exact Zea _ _ _ _ _ _
  | exact Z1l (by assumption)
  | exact Z1N (by assumption)
  | exact (Z4h _ _ _ _ _ _ _).mono (Z1l (by assumption))
  | exact (Z2R _ _ _ _ _ _ _).mono (Z1l (by assumption))
  | rw [Z3X]
  | refine Zg7 ?_ (fun _=>?_)
  | split
theorem Zbz (p:Program) (main b:Bool) (g:Goroutine) (w:World):X1s w.drawn (gW (stepG p main g w b)):=by
 unfold stepG
 repeat' first
  | exact Zg8 _ _ _ _
  | exact Zeb _ _ _ _ _ _ _
  | exact Z9W _ _ _ _ _ _
  | split
theorem Z5q {p:Program} {rest:Rest} {gs:Array Goroutine} {i:Nat} {g:Goroutine} {cases:Array CommCase} {b:Bool} {shape:CommShape} {w:World}:X1s w.drawn (sW (communicate p rest gs i g cases b shape w).1):=by
 have hwait:∀ w',waitingAt rest cases w=some w'->w'.drawn=w.drawn:=by
  intro w' h;unfold waitingAt at h
  repeat' first
   | (cases h; done)
   | (cases h; rfl)
   | split at h
 unfold communicate;simp only []
 repeat' first
  | exact Y0m _
  | trivial
  | exact Z1l (by assumption)
  | (simp only [sW,X1s]; exact Z1l (by assumption))
  | (simp only [sW,X1s]; exact Y3Z (hwait _ (by assumption)).symm)
  | (simp only [sW,X1s]; exact Z6y (by assumption) (by assumption))
  | (simp only [sW,X1s]; exact ZjF (by assumption) (by assumption))
  | split
theorem Z7O (p:Program) (gs:Array Goroutine) (rest:Rest) (w:World):X1s w.drawn (sW (look p gs rest w)):=by
 unfold look;simp only []
 repeat' first
  | exact Y0m _
  | trivial
  | (simp only [sW,X1s]; exact Z1l (by assumption))
  | split
theorem Z8y {m:Machine} {op:TimerOp} {v:Value} {m':Machine} (h:timerOp m op=.ok (v,m')):m'.world.drawn=m.world.drawn:=by
 have hr:∀ (m:Machine) (k:Nat) (t:Timer) (a b:Nat),(retime m k t a b).2.world.drawn=m.world.drawn:=by
  intro m k t a b;unfold retime drain;simp only []
  repeat' first
   | rfl
   | split
 have ho:∀ (m':Machine) (a:Addr),timerOp.opened m a=some m'->m'.world.drawn=m.world.drawn:=by
  intro m' a h;unfold timerOp.opened at h
  repeat' first
   | (cases h; done)
   | (cases h; rfl)
   | split at h
 have hn:∀ (a:Addr) (f:Nat->Timer->Value×Machine) (D:Nat),(∀ k t,(f k t).2.world.drawn=D)->timerOp.named m a f=.ok (v,m')->m'.world.drawn=D:=by
  intro a f D hf h;unfold timerOp.named at h
  split at h
  . rename_i k _;have:=hf k (m.rest.timers.getD k default);injection h with h
    rw [h] at this;exact this
  . cases h
 unfold timerOp at h;simp only [] at h
 repeat' first
  | (cases h; done)
  | (cases h; rfl)
  | exact hn _ _ _ (fun k t=>hr _ _ _ _ _) h
  | (rename_i ho'; rw [<- ho _ _ ho']; exact hn _ _ _ (fun k t=>hr _ _ _ _ _) h)
  | split at h
theorem Zec (p:Program) (m:Machine) (i:Nat) (b:Bool):X1s m.world.drawn (sW (runT p m i b).1):=by
 simp only [runT];generalize m.gs.swapAt! _ _=gg;have hs:=Zbz p (i == 0) b gg.1 m.world;generalize stepG p _ gg.1 m.world b=s at hs;cases s<;>simp only [gW] at hs ⊢
 all_goals first
  | exact hs
  | trivial
  | exact Z5q.mono hs
  | exact (Z7O _ _ _ _).mono hs
  | skip
 all_goals repeat' first
  | exact hs
  | trivial
  | (simp only [sW,X1s]; rename_i ht; exact Y03 hs (Y3Z (Z8y ht).symm))
  | split
theorem ZbA (p:Program) (m:Machine) (k:Nat):X1s m.world.drawn (sW (serve p m k)):=by
 unfold serve;simp only []
 repeat' first
  | exact Y0m _
  | trivial
  | split
def mW:Move->Option World
 | .goroutine m _=>some m.world
 | .machine s _=>sW s
theorem Z4i (p:Program) (m:Machine):X1s m.world.drawn (mW (askOn p m)):=by
 have pick:∀ (D:Nat) (rs:List Nat) (m:Machine),D<=m.world.drawn->X1s D (mW (match (choose (.sched rs.length)).run p m.world with
  | .halt _ w => .machine (.ended (.stuck "sched" "") w)
  | .ok k world =>
    if rs.length<=1 then .goroutine { m with world } (rs.getD k 0) else
    match (choose (.extern "sched.slice" 65536)).run p world with
    | .halt _ w => .machine (.ended (.stuck "sched.slice" "") w)
    | .ok n world=>.goroutine { m with world,rest:={ m.rest with slice:=if n=0 then none else some (rs.getD k 0,n) } } (rs.getD k 0))):=by
  intro D rs m hD;refine X1s.mono hD ?_
  repeat' first
   | trivial
   | (simp only [mW,X1s]; exact Z1l (by assumption))
   | (simp only [mW,X1s]; exact Z6y (by assumption) (by assumption))
   | split
 unfold askOn;simp only []
 generalize hs:(if (due m.rest.timers m.world.os.mono).isEmpty=true then (pure 0:Sem Nat)
  else choose (.extern "timer.serve" ((due m.rest.timers m.world.os.mono).length + (if ((runnable m.gs m.world.os.mono).isEmpty && (ahead m false).isNone) = true then 0 else 1)))) = s0
 cases hr:s0.run p m.world with
 | halt h w=>trivial
 | ok k world =>
   simp only []
   split
   . exact (ZbA p { m with world } _).mono (Z1l hr)
   . split
     . split
       . exact show m.world.drawn<=world.drawn from Z1l hr
       . split
         . exact show m.world.drawn<=world.drawn from Z1l hr
         . split<;>trivial
     . split
       . exact pick _ _ { m with world } (Z1l hr)
       . split
         . trivial
         . exact pick _ _ { m with world:=_ } (Z6y hr (by assumption))
         . simp only [mW, sW, X1s, Machine.advanceTo];exact Z6y hr (by assumption)
         . rename_i w2 h2;exact pick _ _ (Machine.advanceTo { m with world:=w2 } _) (show m.world.drawn<=w2.drawn from Z6y hr h2)
theorem ask_drawn' (p:Program) (m:Machine):X1s m.world.drawn (mW (ask p m)):=by
 unfold ask
 split
 . split
   . trivial
   . rename_i w h;have hl:=Z7O p m.gs m.rest w
     split
     . rename_i m2 h2;rw [h2] at hl;exact (Z4i p m2).mono (Y03 (Z1l h) hl)
     . exact hl.mono (Z1l h)
   . rename_i h;exact (Z4i p { m with world:=_ }).mono (Z1l h)
 . exact Z4i p m
theorem Zed (p:Program) (m:Machine):X1s m.world.drawn (mW (move p m)):=by
 unfold move
 repeat' first
  | exact Y0m _
  | trivial
  | exact ask_drawn' p m
  | exact ask_drawn' p { m with rest:=_ }
  | split
theorem Zee (p:Program) (m:Machine):X1s m.world.drawn (sW (step p m)):=by
 have h:=Zed p m;unfold step stepT;cases hm:move p m with
 | goroutine m2 i =>
   rw [hm] at h;exact (Zec p m2 i true).mono h
 | machine s ops =>
   rw [hm] at h;exact h
theorem ZbB {P:Program} {m m':Machine} (h:Steps P m m'):m.world.drawn<=m'.world.drawn:=by
 obtain⟨n,hn⟩:=h
 induction n generalizing m with
 | zero=>rw [runN] at hn; cases hn; exact Y0m _
 | succ n ih =>
   rw [runN] at hn;have hs:=Zee P m
   split at hn
   . rename_i m1 h1;rw [h1] at hs;exact Y03 hs (ih hn)
   . rename_i e he;cases hst:step P m with
     | next m1=>exact absurd hst (he m1)
     | ended o w=>rw [hst] at hn; cases hn
theorem ZbC {P:Program} {f:FuncId} {args:Array Value} {w:World} {R:Ending->World->Prop} (h:Calls P f args w R):Calls P f args w fun e w'=>R e w'/\∀ v,e=.returned v->w.drawn<=w'.drawn:=by
 intro cs;obtain⟨e,w',fr,hR,hc,hf,hl⟩:=h cs;refine⟨e,w',fr,⟨hR,?_⟩,hc,hf,hl⟩;rintro v rfl;exact ZbB (m:=lone (Frame.enter P f args .normal) cs w) (m':=lone fr cs w') hc
end
section
open Go.RowKit
attribute [local irreducible] aw Xj dK
theorem Zi5 {size n:Nat} {e:Env} {h:X0} {a:Operand} {l:List PV} (ha:ev e a=some (.cp l)) (hl:l.length=size):X1 (.load true size a) e h n=some (.agg l,h):=by
 subst hl;simp [X1,ha,X1t]
theorem Z17 {α:Type} {enc:α->List PV} (hp:∀ x,Xe (enc x)) (xs:List α):X2 (xs.map enc):=Z2q _ _ fun x _=>hp x
theorem Z8A {α:Type} {p:α->Bool} {xs:List α} {i:Nat} (hi:i<xs.length) (h:(xs.take i).any p=false) (hx:p xs[i]=false):(xs.take (i+1)).any p=false:=by
 rw [YI,Y0c hi,List.any_append,h];simp [hx]
def X35 {α:Type} (p:α->Bool):List α->Int
 | [] => -1
 | x :: xs=>if p x then 0 else (if X35 p xs<0 then -1 else X35 p xs+1)
theorem Z4U {α:Type} {p:α->Bool}:∀ {xs:List α},xs.any p=false->X35 p xs = -1
 | [],_=>rfl
 | x :: xs, h => by
   rw [List.any_cons,Y1x] at h;simp [X35,h.1,Z4U h.2]
theorem Z8B {α:Type} {p:α->Bool}:∀ {xs:List α} {i:Nat} (hi:i<xs.length),(xs.take i).any p=false->p xs[i]=true->X35 p xs=(i:Int)
 | x :: xs,0,_,_,hx=>by simp only [List.getElem_cons_zero] at hx; simp [X35,hx]
 | x :: xs, i + 1, hi, h, hx => by
   rw [Y3E,List.any_cons,Y1x] at h;have:=Z8B (p:=p) (xs:=xs) (i:=i) (by simpa using hi) h.2 (by simpa using hx);simp only [X35,h.1,this];have h3:¬ ((i:Int)<0):=by omega
   simp [h3]
theorem Z6z {f nt:Nat} (ok:X46 Tryz.prog f nt ir13 [.tmp 4]) (hn:2<=nt) {α:Type} (xs:List α) (enc:α->List PV) (fl:Bool) (g:Nat) (caps:List PV) (p:α->Bool) (hl:∀ x,(enc x).length=2) (hp:∀ x,Xe (enc x)) (hc:Xe caps) (hg:∀ x∈xs,X7 Tryz.prog g (.agg (enc x) :: caps) (· = .val (.bool (p x)))) :
 X7 Tryz.prog f [.vec (xs.map enc) fl,.fn g caps] (· = .val (.int .i64 (X35 p xs))):=by
 refine Z2 ok hn fun C hC=>?_;refine Z3m (k:=0) rfl fun hmax=>?_;have hnl:(xs.map enc).length=xs.length:=by simp
 have hlm:xs.length<=Xd:=by simpa using hmax
 refine go ?_;refine Z3U (fun i=>i<=xs.length/\(xs.take i).any p=false) (fun i=>xs.length-i) (fun i => [(0,.vec (xs.map enc) fl),(1,.fn g caps),(7,.val (.int .i64 (xs.length:Int))),(8,Yv i)]) 0 ⟨Y0l _,rfl⟩ ⟨rfl,rfl,by rw [<- hnl]; rfl,rfl,Yt⟩ ?_;rintro i ⟨hi,hno⟩;have hinc:IntKind.i64.wrap ((i:Int)+1)=((i+1:Nat):Int):=Y0v _ ⟨by omega,by simp only [Xd] at hlm; omega⟩;(refine go ?_;repeat' (apply B<;>intro hb<;>try cases hb))
 . have hil : i < xs.length := by simpa using hb
   refine Qo (Zk (xs:=xs) rfl rfl i rfl hil (hl _)) ?_;refine Qo (Zi5 rfl (hl _)) ?_;refine Qe (hg _ (Y0j hil)) ⟨hp _,hc⟩ ?_;refine Z1h ?_;refine Z8f rfl (fun hx=>?_) (fun hx=>?_)
   . refine go ?_;exact Z4 rfl Yt (by rw [Z8B hil hno hx])
   . (refine go ?_;repeat' (apply B<;>intro hb<;>try cases hb));exact⟨i+1,⟨by omega,Z8A hil hno hx⟩,by omega,rfl,rfl,⟨rfl,rfl,rfl,by show some _=some _; rw [hinc],Yt⟩⟩
 . have hil : i = xs.length := by simp at hb; omega
   subst hil;rw [Y0q] at hno;exact Z4 rfl Yt (by rw [Z4U hno]; rfl)
theorem Z6A {α:Type} (xs:List α) (enc:α->List PV) (fl:Bool) (g:Nat) (caps:List PV) (p:α->Bool) (hl:∀ x,(enc x).length=2) (hp:∀ x,Xe (enc x)) (hc:Xe caps) (hg:∀ x∈xs,X7 Tryz.prog g (.agg (enc x) :: caps) (· = .val (.bool (p x)))) :
 X7 Tryz.prog 13 [.vec (xs.map enc) fl,.fn g caps] (· = .val (.int .i64 (X35 p xs))):=Z6z ok13 (by decide) xs enc fl g caps p hl hp hc hg
end
section
open Go.RowKit
section
variable {P:Program} {C:Ctx} {e:Env} {h:X0} {F:XC} {φ:XE} {a:Act} {w:World}
theorem St'.renF {n:Nat} (s:St' C (fun i=>n<=i) e h F φ a w) (ρ:Nat->Nat) {n':Nat} {e':Env} {h':X0} (he:∀ k p,e' k=some p->∃ p0,e k=some p0/\X1S ρ (fun i=>i<n') p0 p) (hh:∀ k b,h' k=some b->k<n'/\∃ b0,h (ρ k)=some b0/\X1w ρ (fun i=>i<n') b0 b)
 (hinj:∀ k k' b b',h' k=some b->h' k'=some b'->ρ k=ρ k'->k=k') {m:Nat} (hdom:C.dom m) (hm:m<=n') (hρ:∀ i,i<m->ρ i=i):∃ φ',St' C (fun i=>n'<=i) e' h' F φ' a w:=by
 let φ':XE:=fun i=>if i<n' then φ (ρ i) else none
 have hφ:∀ i x,i<n'->φ (ρ i)=some x->φ' i=some x:=fun i x hi hx=>by simp only [φ',hi,Y1P]; exact hx
 refine⟨φ',{ nt:=s.nt,glob:=s.glob,marks:=s.marks,loc0:=fun i x hx=>?_,free:=fun i hi=>?_,env:=fun k p hp=>?_,froz:=s.froz,ext:=s.ext,old:=s.old,os:=s.os,tape:=s.tape,output:=s.output,size:=s.size,kept:=s.kept,live:=fun i b hb=>?_,sep:=?_ }⟩
 . have : ¬ i < n' := by omega
   simp only [φ',this,Y1G]
 . obtain ⟨p0, h0, hr⟩ := he _ _ hp;exact⟨(s.env k p0 h0).1,hr.rep hφ (s.env k p0 h0).2⟩
 . by_cases him : i < m
   . exact hφ i x (by omega) (by rw [hρ i him]; exact s.loc0 i x hx)
   . rw [hdom i (by omega)] at hx; cases hx
 . obtain ⟨hi, b0, h0, hr⟩ := hh _ _ hb;obtain⟨loc,h1,h2,h3⟩:=s.live _ b0 h0;refine⟨loc,hφ i loc hi h1,?_,h3⟩;cases hr with
   | same hp=>exact h2.names hp
   | gen _ hz he hl hcl hrp =>
     have h2:=h2.cellsB (by rw [he]; exact hz);refine .inl ⟨by rw [<- he]; exact h2.esz,h2.pos,by rw [<- hl]; exact h2.len,h2.cap,h2.max,fun c hc=>?_,fun hc=>?_⟩
     . obtain ⟨k, hk, rfl⟩ := YE hc;have e1:b.elems[k]=b.elems.getD k []:=by simp [Y0b,hk]
       rw [e1,<- hcl k hk]
       exact h2.el _ (by have hk' : k < b0.elems.length := by rw [hl]; exact hk
                         simp [Y0b,hk'])
     . obtain ⟨x, hx, hs, cells, t, hg, hsz, hrep⟩ := h2.room hc;refine⟨x,hx,hs,cells,t,hg,hsz,fun i j hi hj=>⟨(hrep i j hi hj).1,?_⟩⟩;exact (hrp i j (by rw [<- hl,h2.len]; exact hi) (by rw [<- he,h2.esz]; exact hj)).rep hφ (hrep i j hi hj).2
 . intro i j bi bj li lj k hi hj hli hlj hki hkj;obtain⟨hin,b0,h0,_⟩:=hh _ _ hi;obtain⟨hjn,c0,g0,_⟩:=hh _ _ hj;have hli':φ (ρ i)=some li:=by simpa only [φ',show i<n' from hin,Y1P] using hli
   have hlj':φ (ρ j)=some lj:=by simpa only [φ',show j<n' from hjn,Y1P] using hlj
   exact hinj _ _ _ _ hi hj (s.sep _ _ b0 c0 li lj k h0 g0 hli' hlj' hki hkj)
theorem Zi7 (ρ:Nat->Nat) {n n':Nat} {e':Env} {h':X0} (he:∀ k p,e' k=some p->∃ p0,e k=some p0/\X1S ρ (fun i=>i<n') p0 p) (hh:∀ k b,h' k=some b->k<n'/\∃ b0,h (ρ k)=some b0/\X1w ρ (fun i=>i<n') b0 b)
 (hinj:∀ k k' b b',h' k=some b->h' k'=some b'->ρ k=ρ k'->k=k') {m:Nat} (hdom:C.dom m) (hm:m<=n') (hρ:∀ i,i<m->ρ i=i):Sub C n e h n' e' h':=by
 rintro a w ⟨F,φ,s⟩;obtain⟨φ',s'⟩:=s.renF ρ he hh hinj hdom hm hρ;exact⟨F,φ',s'⟩
def X1U (h:X0) (D n:Nat) (f:Nat->PV) (K:Nat) (g:Nat->Bx):X0:=fun k =>
 bif Nat.beq k D then some ⟨1,(List.range 64).map fun j => [f j]⟩ else bif Nat.ble n k&&Nat.blt k (n+K) then some (g (k-n)) else h k
def X1l (n i:Nat) (j:Nat):PV:=if j<i then .own (n+j) else .vec [] true
theorem Z2G (h:X0) (D n:Nat) (f:Nat->PV) (K:Nat) (g:Nat->Bx):X1U h D n f K g D=some ⟨1,(List.range 64).map fun j => [f j]⟩:=by
 unfold X1U;rw [show Nat.beq D D=true from Y2F D]; rfl
theorem Z2n (h:X0) {D n:Nat} (hD:D<n) (f:Nat->PV) {K:Nat} (g:Nat->Bx) {j:Nat} (hj:j<K):X1U h D n f K g (n+j)=some (g j):=by
 unfold X1U;have e1:Nat.beq (n+j) D=false:=YK.2 fun hb=>by have:=Yw hb; omega
 have e2:Nat.ble n (n+j)=true:=Eq.mpr Nat.ble_eq (by omega);have e3:Nat.blt (n+j) (n+K)=true:=Eq.mpr Y4r (by omega);rw [e1,e2,e3];simp
theorem Z2o (h:X0) {D n:Nat} (f:Nat->PV) {K:Nat} (g:Nat->Bx) {k:Nat} (hk:k≠D) (hn:k<n \/ n+K<=k):X1U h D n f K g k=h k:=by
 unfold X1U;have e1:Nat.beq k D=false:=YK.2 fun hb=>hk (Yw hb);rw [e1];rcases hn with hn|hn
 . have e2 : Nat.ble n k = false := YK.2 fun hb => by have := Y0 hb; omega
   rw [e2]; rfl
 . have e2 : Nat.blt k (n + K) = false := YK.2 fun hb => by have := Eq.mp Y4r hb; omega
   rw [e2]; simp
theorem Z7Q {h:X0} {D n:Nat} (hD:D<n) {f:Nat->PV} {K:Nat} {g:Nat->Bx} {k:Nat} {b:Bx} (hk:X1U h D n f K g k=some b):(k=D/\b=⟨1,(List.range 64).map fun j => [f j]⟩) \/ (∃ j,j<K/\k=n+j/\b=g j) \/ (k≠D/\(k<n \/ n+K<=k)/\h k=some b):=by
 by_cases h1:k=D
 . subst h1; rw [Z2G] at hk; cases hk; exact .inl ⟨rfl,rfl⟩
 . by_cases h2 : n <= k /\ k < n + K
   . obtain ⟨j, rfl⟩ : ∃ j, k = n + j := ⟨k - n, by omega⟩;rw [Z2n h hD f g (by omega)] at hk;cases hk;exact .inr (.inl ⟨j,by omega,rfl,rfl⟩)
   . have h3 : k < n \/ n + K <= k := by omega
     rw [Z2o h f g h1 h3] at hk;exact .inr (.inr ⟨h1,h3,hk⟩)
theorem Z4V {f:Nat->List PV} {i:Nat} (r:List PV) (hi:i<64):((List.range 64).map f).set i r=(List.range 64).map fun j=>if j=i then r else f j:=by
 apply Y3T;intro j;rw [Y1o,Y0f,Y2f,Y0y,Y0y];by_cases hj:j<64
 . rw [Y2V hj];by_cases e:i=j
   . subst e; simp [hi]
   . rw [Y8 e]; simp [Y2t e]
 . rw [List.getElem?_eq_none (by simpa using hj)];by_cases e:i=j
   . subst e; exact absurd hi hj
   . rw [Y8 e]; rfl
theorem Z1q {f:Nat->List PV} {i:Nat} (hi:i<64):((List.range 64).map f).getD i []=f i:=by
 rw [Y0b,Y0y,Y2V hi]; rfl
theorem Zg9 {h:X0} {D n i:Nat} (hD:D<n) (hi:i<64) (esz:Nat) :
 ((X1U h D n (X1l n i) i (fun _=>⟨esz,[]⟩)).upd D ⟨1,((List.range 64).map fun j => [X1l n i j]).set i ((((List.range 64).map fun j => [X1l n i j]).getD i []).set 0 (.own (n+i)))⟩).upd (n+i) ⟨esz,[]⟩=X1U h D n (X1l n (i+1)) (i+1) (fun _=>⟨esz,[]⟩):=by
 funext k;rw [Z1q hi,Z4V _ hi];by_cases h1:k=n+i
 . subst h1;rw [X0.upd_same,Z2n _ hD _ _ (Y1S i)]
 . rw [X0.upd_ne _ _ h1];by_cases h2:k=D
   . subst h2;rw [X0.upd_same,Z2G];refine congrArg (fun l=>some (Bx.mk 1 l)) (Y2p fun j hj=>?_);unfold X1l;by_cases hji:j=i
     . subst hji; rw [Y7 rfl,Y7 (Y1S _)]; rfl
     . rw [Y8 hji];by_cases hlt:j<i
       . rw [Y7 hlt,Y7 (by omega)]
       . rw [Y8 hlt,Y8 (by omega)]
   . rw [X0.upd_ne _ _ h2];by_cases h3:n<=k/\k<n+i
     . obtain ⟨j, rfl⟩ : ∃ j, k = n + j := ⟨k - n, by omega⟩;rw [Z2n _ hD _ _ (by omega:j<i),Z2n _ hD _ _ (by omega:j<i+1)]
     . rw [Z2o _ _ _ h2 (by omega),Z2o _ _ _ h2 (by omega)]
theorem Zeh {n D:Nat} (hD:D<n) (hb:h D=some ⟨1,List.replicate 64 [.vec [] true]⟩) (esz:Nat) (hp:0<esz):Sub C n e h (n+64) e (X1U h D n (fun j=>.own (n+j)) 64 (fun _=>⟨esz,[]⟩)):=by
 have key:∀ i,i<=64->Sub C n e h (n+i) e (X1U h D n (X1l n i) i (fun _=>⟨esz,[]⟩)):=by
  intro i
  induction i with
  | zero =>
    intro _;have e0:X1U h D n (X1l n 0) 0 (fun _=>⟨esz,[]⟩)=h:=by
     funext k;by_cases h2:k=D
     . subst h2;rw [Z2G,hb];have:∀ l:List Nat,(l.map fun j => [X1l n 0 j])=List.replicate l.length [PV.vec [] true]:=by
        intro l
        induction l with
        | nil=>rfl
        | cons x l ih=>rw [Y1c,ih]; rfl
       rw [this,Y2f]
     . exact Z2o _ _ _ h2 (by omega)
    rw [e0];exact Z8k
  | succ i ih =>
    intro hi;have hi':i<64:=by omega
    refine Z6h (ih (by omega)) ?_;have e1:=Zg9 (h:=h) hD hi' esz;rw [<- e1];refine Z6t (id:=D) (b:=⟨1,(List.range 64).map fun j => [X1l n i j]⟩) (i0:=i) (j0:=0) (Z2G _ _ _ _ _ _) (by simpa using hi') (by rw [Z1q hi']; exact Y2u) ?_ esz hp (by omega);rw [Z1q hi'];show (X1l n i i)=_;unfold X1l;rw [Y8 (Nat.lt_irrefl i)]
 have e2:X1U h D n (X1l n 64) 64 (fun _=>⟨esz,[]⟩)=X1U h D n (fun j=>.own (n+j)) 64 (fun _=>⟨esz,[]⟩):=by
  unfold X1U;have:((List.range 64).map fun j => [X1l n 64 j])=(List.range 64).map fun j => [PV.own (n+j)]:=Y2p fun j hj=>by
   unfold X1l;rw [Y7 (YZ.1 hj)]
  rw [this]
 rw [<- e2];exact key 64 (Y0m _)
end
abbrev By:=List UInt8
structure Tk where
 k:Nat
 s:By
 n:Nat
deriving DecidableEq
def lpT:Tk:=⟨3,[40],0⟩
def rpT:Tk:=⟨3,[41],0⟩
def coT:Tk:=⟨3,[44],0⟩
def X4p:Tk:=⟨1,[110,111,116],0⟩
def X48:Tk:=⟨0,[],0⟩
def stM (op:Int):Nat:=if op=10 then 1 else if op=9 then 2 else if op=8 then 3 else if op=7 then 4 else if 11<=op/\op<=15 then 5 else if op=16 then 6 else 7
def opS (op:Int):By:=if op=8 then [97,110,100] else if op=9 then [111,114] else if op=10 then [45,62] else if op=11 then [60,61] else if op=12 then [60] else if op=13 then [62,61] else if op=14 then [62] else if op=15 then [61,61] else [43]
def opT (op:Int):Tk:=⟨if op=8 \/ op=9 then 1 else 3,opS op,0⟩
def X2a (op:Int):Nat:=if op=10 then 2 else if stM op=5 then 6 else stM op
def X1C (op:Int):Nat:=if op=10 then 1 else stM op+1
def rnS (r:Int):By := [114,UInt8.ofNat (48+r.toNat)]
def rnT (r:Int):Tk:=⟨1,rnS r,0⟩
def dgS (n:Int):By := [UInt8.ofNat (48+n.toNat)]
def X5s (n:Int):Tk:=⟨2,dgS n,n.toNat⟩
def X4o:Tk:=⟨1,[116,114,117,101],0⟩
def X3q:Tk:=⟨1,[102,97,108,115,101],0⟩
def X2j:Tk:=⟨1,[99,111,117,110,116],0⟩
def X2g:List Int->List Tk
 | [] => []
 | r :: l=>coT :: rnT r :: X2g l
def tkO (op n:Int) (roles:List Int) (al:List (Int×List Tk)):List Tk :=
 if op=1 then [X5s n] else if op=2 then [X4o] else if op=3 then [X3q] else if op=4 then [rnT (roles.getD 0 0)]
 else if op=5 then X2j :: lpT :: rnT (roles.getD 0 0) :: (X2g roles.tail ++ [rpT])
 else if op=7 then X4p :: tkA 4 (al.getD 0 (0,[]))
 else tkA (X2a op) (al.getD 0 (0,[]))++opT op :: tkA (X1C op) (al.getD 1 (0,[]))
where
 tkA (least:Nat) (x:Int×List Tk):List Tk:=if stM x.1<least then lpT :: (x.2 ++ [rpT]) else x.2
mutual
def tkM:Fm->List Tk
 | .mk op n roles args=>tkO op n roles (tkL args)
def tkL:List Fm->List (Int×List Tk)
 | [] => []
 | a :: r=>(a.op,tkM a) :: tkL r
end
def Xy (least:Nat) (f:Fm):List Tk:=if stM f.op<least then lpT :: (tkM f ++ [rpT]) else tkM f
theorem Z3e {least:Nat} {f:Fm} (h:stM f.op<least):Xy least f=lpT :: (tkM f ++ [rpT]):=Y7 h
theorem Z1z {least:Nat} {f:Fm} (h:¬ stM f.op<least):Xy least f=tkM f:=Y8 h
theorem Zj6 {n:Int} {rs:List Int} {a:Fm}:tkM (.mk 7 n rs [a])=X4p :: Xy 4 a:=rfl
theorem Za0 {op n:Int} {rs:List Int} {a b:Fm} (h:8<=op):tkM (.mk op n rs [a,b])=Xy (X2a op) a++opT op :: Xy (X1C op) b:=by
 show tkO op n rs [(a.op,tkM a),(b.op,tkM b)]=_;unfold tkO;rw [Y8 (by omega),Y8 (by omega),Y8 (by omega),Y8 (by omega),Y8 (by omega),Y8 (by omega)]
 rfl
abbrev Pc:=Bool×Tk
def txP:List Pc->By
 | [] => []
 | (b,t) :: r=>(if b then 32 :: t.s else t.s)++txP r
theorem Z8I:∀ a b:List Pc,txP (a++b)=txP a++txP b
 | [],b=>rfl
 | (x,t) :: a,b=>by simp [txP,Z8I a b]
def X27:List Int->List Pc
 | [] => []
 | r :: l=>(false,coT) :: (true,rnT r) :: X27 l
def pcO (op n:Int) (roles:List Int) (al:List (Int×(Bool->List Pc))) (sp:Bool):List Pc :=
 if op=1 then [(sp,X5s n)] else if op=2 then [(sp,X4o)] else if op=3 then [(sp,X3q)] else if op=4 then [(sp,rnT (roles.getD 0 0))]
 else if op=5 then (sp,X2j) :: (false,lpT) :: (false,rnT (roles.getD 0 0)) :: (X27 roles.tail ++ [(false,rpT)])
 else if op=7 then (sp,X4p) :: pcA 4 (al.getD 0 (0,fun _ => [])) true
 else pcA (X2a op) (al.getD 0 (0,fun _ => [])) sp++(true,opT op) :: pcA (X1C op) (al.getD 1 (0,fun _ => [])) true
where
 pcA (least:Nat) (x:Int×(Bool->List Pc)) (sp:Bool):List Pc:=if stM x.1<least then (sp,lpT) :: (x.2 false ++ [(false,rpT)]) else x.2 sp
mutual
def pcM:Fm->Bool->List Pc
 | .mk op n roles args=>pcO op n roles (pcL args)
def pcL:List Fm->List (Int×(Bool->List Pc))
 | [] => []
 | a :: r=>(a.op,pcM a) :: pcL r
end
def X39 (least:Nat) (f:Fm) (sp:Bool):List Pc:=if stM f.op<least then (sp,lpT) :: (pcM f false ++ [(false,rpT)]) else pcM f sp
theorem Zgi {n:Int} {rs:List Int} {a:Fm} (sp:Bool):pcM (.mk 7 n rs [a]) sp=(sp,X4p) :: X39 4 a true:=rfl
theorem Za1 {op n:Int} {rs:List Int} {a b:Fm} (h:8<=op) (sp:Bool):pcM (.mk op n rs [a,b]) sp=X39 (X2a op) a sp++(true,opT op) :: X39 (X1C op) b true:=by
 show pcO op n rs [(a.op,pcM a),(b.op,pcM b)] sp=_;unfold pcO;rw [Y8 (by omega),Y8 (by omega),Y8 (by omega),Y8 (by omega),Y8 (by omega),Y8 (by omega)]
 rfl
inductive Sh:Fm->Prop
 | num {n:Int} (h0:0<=n) (h1:n<=9):Sh (.mk 1 n [] [])
 | yes:Sh (.mk 2 0 [] [])
 | no:Sh (.mk 3 0 [] [])
 | role {r:Int} (h0:1<=r/\r<=6):Sh (.mk 4 0 [r] [])
 | count {r:Int} {rs:List Int} (h0:∀ x∈r :: rs,1<=x/\x<=6) (h1:rs.length<=7):Sh (.mk 5 0 (r :: rs) [])
 | neg {a:Fm} (ha:Sh a):Sh (.mk 7 0 [] [a])
 | two {op:Int} {a b:Fm} (h0:8<=op) (h1:op<=16) (ha:Sh a) (hb:Sh b):Sh (.mk op 0 [] [a,b])
theorem Zda:∀ l:List Int,(X27 l).map (·.2)=X2g l
 | []=>rfl
 | r :: l=>by show coT :: rnT r :: (X27 l).map (·.2)=_; rw [Zda l]; rfl
theorem ZbI {f:Fm} (ih:∀ sp,(pcM f sp).map (·.2)=tkM f) (least:Nat) (sp:Bool):(X39 least f sp).map (·.2)=Xy least f:=by
 unfold X39 Xy
 split
 . simp [ih]
 . exact ih sp
theorem ZkV {f:Fm} (h:Sh f):∀ sp,(pcM f sp).map (·.2)=tkM f:=by
 induction h with
 | num=>exact fun _=>rfl
 | yes=>exact fun _=>rfl
 | no=>exact fun _=>rfl
 | role=>exact fun _=>rfl
 | @count r rs h0 h1 =>
   intro sp;show X2j :: lpT :: rnT r :: (X27 rs ++ [(false,rpT)]).map (·.2)=X2j :: lpT :: rnT r :: (X2g rs ++ [rpT]);rw [Y0r,Zda]; rfl
 | neg ha ih=>intro sp; rw [Zgi,Zj6,Y1c,ZbI ih]
 | two h0 h1 ha hb iha ihb=>intro sp; rw [Za1 h0,Za0 h0,Y0r,Y1c,ZbI iha,ZbI ihb]
theorem Z6E {a:Fm} (ih:∃ u y,∀ sp,pcM a sp=(sp,u) :: y) (least:Nat):∃ u y,∀ sp,X39 least a sp=(sp,u) :: y:=by
 unfold X39
 split
 . exact⟨lpT,_,fun sp=>rfl⟩
 . exact ih
theorem Zgj {f:Fm} (h:Sh f):∃ u y,∀ sp,pcM f sp=(sp,u) :: y:=by
 induction h with
 | num=>exact⟨_,_,fun _=>rfl⟩
 | yes=>exact⟨_,_,fun _=>rfl⟩
 | no=>exact⟨_,_,fun _=>rfl⟩
 | role=>exact⟨_,_,fun _=>rfl⟩
 | count=>exact⟨_,_,fun _=>rfl⟩
 | neg ha ih=>exact⟨_,_,fun _=>rfl⟩
 | @two op a b h0 h1 ha hb iha ihb =>
   obtain⟨u,y,hy⟩:=Z6E iha (X2a op);exact⟨u,_,fun sp=>by rw [Za1 h0,hy,Y1n]⟩
def X3c (t:Tk):Bool:=decide (t=lpT)||decide (t=rpT)||decide (t=coT)
def okN (t:Tk):List Pc->Bool
 | []=>true
 | (b,u) :: _=>b||(decide (u.k=3)&&decide (t.k≠3))||X3c t
def adj:List Pc->Bool
 | []=>true
 | (_,t) :: r=>okN t r&&adj r
def X5z:List Pc->Bool
 | []=>true
 | (b,u) :: _=>b||decide (u.k=3)
theorem Z4Y {t:Tk} (ht:X3c t=true) (r:List Pc):okN t r=true:=by
 cases r with
 | nil=>rfl
 | cons x r=>obtain⟨b,u⟩:=x; show (b||(decide (u.k=3)&&decide (t.k≠3))||X3c t)=true; rw [ht,Bool.or_true]
theorem ZbJ {t:Tk} (ht:t.k≠3) {r:List Pc} (hf:X5z r=true):okN t r=true:=by
 cases r with
 | nil=>rfl
 | cons x r =>
   obtain⟨b,u⟩:=x;have hf:(b||decide (u.k=3))=true:=hf;show (b||(decide (u.k=3)&&decide (t.k≠3))||X3c t)=true;rw [YF ht,Y2h,hf]; rfl
theorem Za2 (t:Tk) {r:List Pc} (h:∃ u y,r=(true,u) :: y):okN t r=true:=by
 obtain⟨u,y,rfl⟩:=h; rfl
theorem Z1P {b:Bool} {t:Tk} {r:List Pc} (h1:okN t r=true) (h2:adj r=true):adj ((b,t) :: r)=true:=by
 show (okN t r&&adj r)=true;rw [h1,h2]; rfl
theorem Zdb:∀ (l:List Int) {r:List Pc},adj r=true->X5z (X27 l++(false,rpT) :: r)=true/\adj (X27 l++(false,rpT) :: r)=true
 | [],r,ha=>⟨rfl,Z1P (Z4Y rfl r) ha⟩
 | x :: l, r, ha => by
   obtain⟨h1,h2⟩:=Zdb l ha;exact⟨rfl,Z1P (Z4Y rfl _) (Z1P (ZbJ (t:=rnT x) (show (1:Nat)≠3 by decide) h1) h2)⟩
theorem Zkt {f:Fm} (h:Sh f):∀ (sp:Bool) {r:List Pc},adj r=true->X5z r=true->adj (pcM f sp++r)=true:=by
 have hat:∀ {a:Fm},(∀ (sp:Bool) {r:List Pc},adj r=true->X5z r=true->adj (pcM a sp++r)=true)->∀ (least:Nat) (sp:Bool) {r:List Pc},adj r=true->X5z r=true->adj (X39 least a sp++r)=true:=by
  intro a ih least sp r ha hf;unfold X39
  split
  . refine Z1P (Z4Y rfl _) ?_;rw [List.append_eq,Y1b];exact ih false (r := [(false,rpT)]++r) (Z1P (Z4Y rfl r) ha) rfl
  . exact ih sp ha hf
 have leaf:∀ (sp:Bool) {t:Tk},t.k≠3->∀ {r:List Pc},adj r=true->X5z r=true->adj ((sp,t) :: r)=true:=fun sp {t} ht {r} ha hf=>Z1P (ZbJ ht hf) ha;have hd:∀ {a:Fm},Sh a->∀ (least:Nat) (r:List Pc),∃ u y,X39 least a true++r=(true,u) :: y:=fun {a} ha least r=>by
  obtain⟨u,y,hy⟩:=Z6E (Zgj ha) least;exact⟨u,y++r,by rw [hy]; rfl⟩
 induction h with
 | num=>intro sp r ha hf; exact leaf sp (show (2:Nat)≠3 by decide) ha hf
 | yes=>intro sp r ha hf; exact leaf sp (show (1:Nat)≠3 by decide) ha hf
 | no=>intro sp r ha hf; exact leaf sp (show (1:Nat)≠3 by decide) ha hf
 | role=>intro sp r ha hf; exact leaf sp (show (1:Nat)≠3 by decide) ha hf
 | @count x rs h0 h1 =>
   intro sp r ha hf;obtain⟨h1,h2⟩:=Zdb rs ha;show adj ((sp,X2j) :: (false,lpT) :: (false,rnT x) :: ((X27 rs ++ [(false,rpT)])++r))=true;rw [Y1b];exact Z1P rfl (Z1P rfl (Z1P (ZbJ (t:=rnT x) (show (1:Nat)≠3 by decide) h1) h2))
 | neg ha ih =>
   intro sp r hr hf;rw [Zgi];exact Z1P (Za2 _ (hd ha 4 r)) (hat ih 4 true hr hf)
 | @two op a b h0 h1 ha hb iha ihb =>
   intro sp r hr hf;rw [Za1 h0,Y1b];exact hat iha _ sp (Z1P (Za2 _ (hd hb _ r)) (hat ihb _ true hr hf)) rfl
def chL (op:Int):Fm->Fm×List Fm
 | .mk o n rs args=>chO op o n rs args (chLL op args)
where
 chO (op o n:Int) (rs:List Int) (args:List Fm) (cl:List (Fm×List Fm)):Fm×List Fm :=
  if o=op then (match args,cl with
   | [_,b],[x,_]=>(x.1,x.2 ++ [b])
   | _,_=>(.mk o n rs args,[])) else (.mk o n rs args,[])
 chLL (op:Int):List Fm->List (Fm×List Fm)
  | [] => []
  | a :: r=>chL op a :: chLL op r
theorem Z8J (op:Int) (n:Int) (rs:List Int) (a b:Fm):chL op (.mk op n rs [a,b])=((chL op a).1,(chL op a).2 ++ [b]):=by
 rw [chL,chL.chLL,chL.chLL,chL.chLL,chL.chO,Y7 rfl]
theorem Z5I {op:Int} {f:Fm} (h:f.op≠op):chL op f=(f,[]):=by
 cases f with
 | mk o n rs args =>
   have h:o≠op:=h;show chL.chO op o n rs args (chL.chLL op args)=_;unfold chL.chO;rw [Y8 h]
def Xf (op:Int) (lv:Nat) (l:List Fm):List Tk:=l.flatMap fun b=>opT op :: Xy lv b
theorem Zel (op:Int) (lv:Nat) (l:List Fm) (b:Fm):Xf op lv (l ++ [b])=Xf op lv l++opT op :: Xy lv b:=by
 unfold Xf; rw [Y3G]; simp
def X2z (op:Int):Prop:=op=8 \/ op=9 \/ op=16
theorem ZjL {op o:Int} (h:X2z op) (ho:1<=o/\o<=16) (hs:¬ stM o<stM op) (hne:o≠op):¬ stM o<stM op+1:=by
 unfold stM at *;rcases h with rfl|rfl|rfl
 . simp at *; repeat' split at hs <;> try omega
   all_goals (repeat' split)<;>omega
 . simp at *; repeat' split at hs <;> try omega
   all_goals (repeat' split)<;>omega
 . simp at *; repeat' split at hs <;> try omega
   all_goals (repeat' split)<;>omega
theorem Sh.op {f:Fm} (h:Sh f):1<=f.op/\f.op<=16:=by
 cases h with
 | num=>exact⟨show (1:Int)<=1 by decide,show (1:Int)<=16 by decide⟩
 | yes=>exact⟨by decide,by decide⟩
 | no=>exact⟨by decide,by decide⟩
 | role=>exact⟨show (1:Int)<=4 by decide,show (4:Int)<=16 by decide⟩
 | count=>exact⟨show (1:Int)<=5 by decide,show (5:Int)<=16 by decide⟩
 | neg=>exact⟨show (1:Int)<=7 by decide,show (7:Int)<=16 by decide⟩
 | @two op a b h0 h1=>exact⟨by show 1<=op; omega,h1⟩
theorem Zgk {op:Int} (hl:X2z op) {f:Fm} (h:Sh f) (hne:f.op≠op):Xy (stM op) f=Xy (stM op+1) f:=by
 by_cases hs:stM f.op<stM op
 . rw [Z3e hs,Z3e (by omega)]
 . rw [Z1z hs,Z1z (ZjL hl h.op hs hne)]
theorem Zif {op:Int} (hl:X2z op) {f:Fm} (h:Sh f):Xy (stM op) f=Xy (stM op+1) (chL op f).1++Xf op (stM op+1) (chL op f).2/\Sh (chL op f).1/\(chL op f).1.op≠op/\(∀ b∈(chL op f).2,Sh b)/\(chL op f).2.foldl (fun x b=>.mk op 0 [] [x,b]) (chL op f).1=f:=by
 by_cases hf:f.op=op
 . induction h with
   | @two o a b h0 h1 ha hb iha ihb =>
     obtain rfl:o=op:=hf;have hle:X2a o=stM o/\X1C o=stM o+1:=by rcases hl with rfl|rfl|rfl<;>exact⟨by decide,by decide⟩
     rw [Z8J];have key:Xy (stM o) a=Xy (stM o+1) (chL o a).1++Xf o (stM o+1) (chL o a).2/\Sh (chL o a).1/\(chL o a).1.op≠o/\(∀ b∈(chL o a).2,Sh b)/\(chL o a).2.foldl (fun x b=>.mk o 0 [] [x,b]) (chL o a).1=a:=by
      by_cases hao:a.op=o
      . exact iha hao
      . rw [Z5I hao];exact⟨by rw [Zgk hl ha hao]; simp [Xf],ha,hao,(fun b hb=>by cases hb),rfl⟩
     obtain⟨k1,k2,k3,k4,k5⟩:=key;refine⟨?_,k2,k3,fun x hx=>?_,?_⟩
     . rw [Z1z (show ¬ stM o<stM o by omega),Za0 h0,hle.1,hle.2,k1,Zel,Y1b]
     . rcases Y0h.1 hx with hx | hx
       . exact k4 x hx
       . rw [Y0g] at hx; subst hx; exact hb
     . show (_ ++ [b]).foldl _ _ = _;rw [Y2C,k5]; rfl
   | num=>rcases hl with rfl|rfl|rfl<;>exact absurd (show (1:Int)=_ from hf) (by decide)
   | yes=>rcases hl with rfl|rfl|rfl<;>exact absurd (show (2:Int)=_ from hf) (by decide)
   | no=>rcases hl with rfl|rfl|rfl<;>exact absurd (show (3:Int)=_ from hf) (by decide)
   | role=>rcases hl with rfl|rfl|rfl<;>exact absurd (show (4:Int)=_ from hf) (by decide)
   | count=>rcases hl with rfl|rfl|rfl<;>exact absurd (show (5:Int)=_ from hf) (by decide)
   | neg=>rcases hl with rfl|rfl|rfl<;>exact absurd (show (7:Int)=_ from hf) (by decide)
 . rw [Z5I hf];exact⟨by rw [Zgk hl h hf]; simp [Xf],h,hf,(fun b hb=>by cases hb),rfl⟩
def chR:Fm->List Fm
 | .mk o n rs args=>chRO o n rs args (chRL args)
where
 chRO (o n:Int) (rs:List Int) (args:List Fm) (cl:List (List Fm)):List Fm :=
  if o=10 then (match args,cl with
   | [a,_],[_,y]=>a :: y
   | _,_ => [.mk o n rs args]) else [.mk o n rs args]
 chRL:List Fm->List (List Fm)
  | [] => []
  | a :: r=>chR a :: chRL r
theorem ZbK (n:Int) (rs:List Int) (a b:Fm):chR (.mk 10 n rs [a,b])=a :: chR b:=by
 rw [chR,chR.chRL,chR.chRL,chR.chRL,chR.chRO,Y7 rfl]
theorem Za3 {f:Fm} (h:f.op≠10):chR f = [f]:=by
 cases f with
 | mk o n rs args =>
   have h:o≠10:=h;show chR.chRO o n rs args (chR.chRL args)=_;unfold chR.chRO;rw [Y8 h]
def X3G:List Fm->List Tk
 | [] => []
 | a :: l=>Xy 2 a++Xf 10 2 l
def X4k:List Fm->Fm
 | []=>.mk 3 0 [] []
 | [a]=>a
 | a :: b :: l=>.mk 10 0 [] [a,X4k (b :: l)]
theorem Zig {f:Fm} (h:f.op≠10):Xy 1 f=Xy 2 f:=by
 have h1:¬ stM f.op<2:=by
  unfold stM;rw [Y8 h];(repeat' split)<;>omega
 rw [Z1z h1,Z1z (by omega)]
theorem Z1G {f:Fm} (h:Sh f) (hop:f.op≠10):Xy 1 f=X3G (chR f)/\chR f≠[]/\(∀ b∈chR f,Sh b)/\X4k (chR f)=f:=by
 rw [Za3 hop];exact⟨by rw [Zig hop]; simp [X3G,Xf],by simp,(fun x hx=>by rw [Y0g] at hx; subst hx; exact h),rfl⟩
theorem Zgl {f:Fm} (h:Sh f):Xy 1 f=X3G (chR f)/\chR f≠[]/\(∀ b∈chR f,Sh b)/\X4k (chR f)=f:=by
 induction h with
 | @two o a b h0 h1 ha hb iha ihb =>
   by_cases hf:o=10
   . subst hf;rw [ZbK];obtain⟨k1,k2,k3,k4⟩:=ihb;refine⟨?_,by simp,fun x hx=>?_,?_⟩
     . rw [Z1z (show ¬ stM 10 < 1 by decide), Za0 h0];show Xy 2 a++opT 10 :: Xy 1 b=Xy 2 a++Xf 10 2 (chR b);rw [k1];cases hc:chR b with
       | nil=>exact absurd hc k2
       | cons x l =>
         show Xy 2 a++opT 10 :: (Xy 2 x++Xf 10 2 l)=_;unfold Xf;rw [Y2g,Y1n]
     . rcases Ye.1 hx with rfl | hx
       . exact ha
       . exact k3 x hx
     . cases hc : chR b with
       | nil=>exact absurd hc k2
       | cons x l =>
         rw [hc] at k4;show Fm.mk 10 0 [] [a,X4k (x :: l)]=_;rw [k4]
   . exact Z1G (.two h0 h1 ha hb) hf
 | num h0 h1=>exact Z1G (.num h0 h1) (show (1:Int)≠10 by decide)
 | yes=>exact Z1G .yes (show (2:Int)≠10 by decide)
 | no=>exact Z1G .no (show (3:Int)≠10 by decide)
 | role h0=>exact Z1G (.role h0) (show (4:Int)≠10 by decide)
 | count h0 h1=>exact Z1G (.count h0 h1) (show (5:Int)≠10 by decide)
 | neg ha=>exact Z1G (.neg ha) (show (7:Int)≠10 by decide)
def chN:Fm->Nat×Fm
 | .mk o n rs args=>chNO o n rs args (chNL args)
where
 chNO (o n:Int) (rs:List Int) (args:List Fm) (cl:List (Nat×Fm)):Nat×Fm :=
  if o=7 then (match args,cl with
   | [_],[x]=>(x.1+1,x.2)
   | _,_=>(0,.mk o n rs args)) else (0,.mk o n rs args)
 chNL:List Fm->List (Nat×Fm)
  | [] => []
  | a :: r=>chN a :: chNL r
theorem Zgm (n:Int) (rs:List Int) (a:Fm):chN (.mk 7 n rs [a])=((chN a).1+1,(chN a).2):=by
 rw [chN,chN.chNL,chN.chNL,chN.chNO,Y7 rfl]
theorem Zdc {f:Fm} (h:f.op≠7):chN f=(0,f):=by
 cases f with
 | mk o n rs args =>
   have h:o≠7:=h;show chN.chNO o n rs args (chN.chNL args)=_;unfold chN.chNO;rw [Y8 h]
def X5x:Nat->Fm->Fm
 | 0,f=>f
 | k+1,f=>.mk 7 0 [] [X5x k f]
theorem Zgn {f:Fm} (h:f.op≠7):Xy 4 f=Xy 5 f:=by
 by_cases hs:stM f.op<4
 . rw [Z3e hs,Z3e (by omega)]
 . have h1 : ¬ stM f.op < 5 := by
    unfold stM at hs ⊢;rw [Y8 h] at hs ⊢;(repeat' split)<;>simp_all
   rw [Z1z hs,Z1z h1]
theorem Z20 {f:Fm} (h:Sh f) (hop:f.op≠7):Xy 4 f=List.replicate (chN f).1 X4p++Xy 5 (chN f).2/\Sh (chN f).2/\(chN f).2.op≠7/\X5x (chN f).1 (chN f).2=f:=by
 rw [Zdc hop];exact⟨Zgn hop,h,hop,rfl⟩
theorem Zgo {f:Fm} (h:Sh f):Xy 4 f=List.replicate (chN f).1 X4p++Xy 5 (chN f).2/\Sh (chN f).2/\(chN f).2.op≠7/\X5x (chN f).1 (chN f).2=f:=by
 induction h with
 | @neg a ha ih =>
   obtain⟨k1,k2,k3,k4⟩:=ih;rw [Zgm];refine⟨?_,k2,k3,?_⟩
   . rw [Z1z (show ¬ stM 7<4 by decide),Zj6,k1,Y3F]; rfl
   . show Fm.mk 7 0 [] [X5x _ _] = _;rw [k4]
 | two h0 h1 ha hb=>exact Z20 (.two h0 h1 ha hb) (show _≠(7:Int) from fun e=>by have e:_=(7:Int):=e; simp only [Fm.op] at e;omega)
 | num h0 h1=>exact Z20 (.num h0 h1) (show (1:Int)≠7 by decide)
 | yes=>exact Z20 .yes (show (2:Int)≠7 by decide)
 | no=>exact Z20 .no (show (3:Int)≠7 by decide)
 | role h0=>exact Z20 (.role h0) (show (4:Int)≠7 by decide)
 | count h0 h1=>exact Z20 (.count h0 h1) (show (5:Int)≠7 by decide)
def X4r (c:UInt8):Bool:=decide (97<=c.toNat)&&decide (c.toNat<=122)
def X3U (c:UInt8):Bool:=decide (48<=c.toNat)&&decide (c.toNat<=57)
def X4I (c:UInt8):Bool:=X4r c||X3U c||decide (c.toNat=95)
def X2A:List By := [[45,62],[60,61],[62,61],[61,61],[60],[62],[40],[41],[44],[59],[58],[43],[45]]
inductive OkT:Tk->Prop
 | word {c:UInt8} {cs:By} (h1:X4r c=true) (h2:∀ x∈cs,X4I x=true):OkT ⟨1,c :: cs,0⟩
 | num {d:UInt8} (h:X3U d=true):OkT ⟨2,[d],d.toNat-48⟩
 | sym {s:By} (h:s∈[[45,62],[60,61],[62,61],[61,61],[60],[62],[40],[41],[44],[43]]):OkT ⟨3,s,0⟩
theorem ZjM {r:Int} (h:1<=r/\r<=6):OkT (rnT r):=by
 have:r=1 \/ r=2 \/ r=3 \/ r=4 \/ r=5 \/ r=6:=by omega
 rcases this with rfl|rfl|rfl|rfl|rfl|rfl<;>exact .word (by decide) (by decide)
theorem Zku {n:Int} (h0:0<=n) (h1:n<=9):OkT (X5s n):=by
 have:n=0 \/ n=1 \/ n=2 \/ n=3 \/ n=4 \/ n=5 \/ n=6 \/ n=7 \/ n=8 \/ n=9:=by omega
 rcases this with rfl|rfl|rfl|rfl|rfl|rfl|rfl|rfl|rfl|rfl<;>exact .num (by decide)
theorem ZkW {op:Int} (h0:8<=op) (h1:op<=16):OkT (opT op):=by
 have:op=8 \/ op=9 \/ op=10 \/ op=11 \/ op=12 \/ op=13 \/ op=14 \/ op=15 \/ op=16:=by omega
 rcases this with rfl|rfl|rfl|rfl|rfl|rfl|rfl|rfl|rfl
 . exact .word (by decide) (by decide)
 . exact .word (by decide) (by decide)
 all_goals exact .sym (by decide)
theorem Zkv:OkT lpT:=.sym (by decide)
theorem Zkw:OkT rpT:=.sym (by decide)
theorem ZkX:OkT coT:=.sym (by decide)
theorem Zgp:∀ {l:List Int},(∀ x∈l,1<=x/\x<=6)->∀ x∈X27 l,OkT x.2
 | [],_,x,hx=>by cases hx
 | r :: l, h, x, hx => by
   have hx:x∈(false,coT) :: (true,rnT r) :: X27 l:=hx;rcases Ye.1 hx with rfl|hx
   . exact ZkX
   rcases Ye.1 hx with rfl|hx
   . exact ZjM (h r (Y0t ..))
   . exact Zgp (fun y hy=>h y (YC _ hy)) x hx
theorem Zkx {f:Fm} (h:Sh f):∀ sp,∀ x∈pcM f sp,OkT x.2:=by
 have hat:∀ {a:Fm},(∀ sp,∀ x∈pcM a sp,OkT x.2)->∀ (least:Nat) (sp:Bool),∀ x∈X39 least a sp,OkT x.2:=by
  intro a ih least sp x hx;unfold X39 at hx
  split at hx
  . rcases Ye.1 hx with rfl | hx
    . exact Zkv
    rcases Y0h.1 hx with hx|hx
    . exact ih false x hx
    . rw [Y0g] at hx; subst hx; exact Zkw
  . exact ih sp x hx
 induction h with
 | num h0 h1=>intro sp x hx; have hx:x∈[(sp,X5s _)]:=hx; rw [Y0g] at hx; subst hx; exact Zku h0 h1
 | yes=>intro sp x hx; have hx:x∈[(sp,X4o)]:=hx; rw [Y0g] at hx; subst hx; exact .word (by decide) (by decide)
 | no=>intro sp x hx; have hx:x∈[(sp,X3q)]:=hx; rw [Y0g] at hx; subst hx; exact .word (by decide) (by decide)
 | @role r h0=>intro sp x hx; have hx:x∈[(sp,rnT r)]:=hx; rw [Y0g] at hx; subst hx; exact ZjM h0
 | @count r rs h0 h1 =>
   intro sp x hx;have hx:x∈(sp,X2j) :: (false,lpT) :: (false,rnT r) :: (X27 rs ++ [(false,rpT)]):=hx;rcases Ye.1 hx with rfl|hx
   . exact .word (by decide) (by decide)
   rcases Ye.1 hx with rfl|hx
   . exact Zkv
   rcases Ye.1 hx with rfl|hx
   . exact ZjM (h0 r (Y0t ..))
   rcases Y0h.1 hx with hx|hx
   . exact Zgp (fun y hy=>h0 y (YC _ hy)) x hx
   . rw [Y0g] at hx; subst hx; exact Zkw
 | @neg a ha ih =>
   intro sp x hx;rw [Zgi] at hx;rcases Ye.1 hx with rfl|hx
   . exact .word (by decide) (by decide)
   . exact hat ih 4 true x hx
 | @two op a b h0 h1 ha hb iha ihb =>
   intro sp x hx;rw [Za1 h0] at hx;rcases Y0h.1 hx with hx|hx
   . exact hat iha _ sp x hx
   rcases Ye.1 hx with rfl|hx
   . exact ZkW h0 h1
   . exact hat ihb _ true x hx
theorem OkT.head {t:Tk} (h:OkT t):∃ c cs,t.s=c :: cs/\c.toNat≠32/\c.toNat≠9/\c.toNat≠10/\c.toNat≠13/\c.toNat≠35:=by
 cases h with
 | @word c cs h1 h2 =>
   unfold X4r at h1;rw [Y0k,Y0n,Y0n] at h1;exact⟨c,cs,rfl,by omega,by omega,by omega,by omega,by omega⟩
 | @num d h =>
   unfold X3U at h;rw [Y0k,Y0n,Y0n] at h;exact⟨d,[],rfl,by omega,by omega,by omega,by omega,by omega⟩
 | @sym s h =>
   simp only [Ye,Y1z,Y2Y] at h;rcases h with rfl|rfl|rfl|rfl|rfl|rfl|rfl|rfl|rfl|rfl<;>exact⟨_,_,rfl,by decide,by decide,by decide,by decide,by decide⟩
inductive Nx:By->Prop
 | nil:Nx []
 | sp (l:By):Nx (32 :: l)
 | sy (c:UInt8) (l:By) (h:X4I c=false):Nx (c :: l)
theorem Zky {t:Tk} (ht:t.k≠3) {r:List Pc} (hr:∀ x∈r,OkT x.2) (hn:okN t r=true):Nx (txP r):=by
 match r,hn with
 | [],_=>exact .nil
 | (true,u) :: r,_=>exact .sp _
 | (false, u) :: r, hn =>
   have hu:=hr _ (Y0t ..);have h1:u.k=3 \/ X3c t=true:=by
    have hn:(false||(decide (u.k=3)&&decide (t.k≠3))||X3c t)=true:=hn;rw [YF ht,Y2h,Y3f,YO,Y0n] at hn;exact hn
   have h3:u.k=3:=by
    rcases h1 with h|h
    . exact h
    . unfold X3c at h;simp only [YO,Y0n] at h;rcases h with (h|h)|h<;>(rw [h] at ht; exact absurd rfl ht)
   show Nx ((if false then 32 :: u.s else u.s)++txP r);rw [Y8 (by decide)];obtain⟨b,u⟩:=(⟨false,u⟩:Pc)
   cases hu with
   | word=>cases h3
   | num=>cases h3
   | @sym s h =>
     simp only [Ye,Y1z,Y2Y] at h;rcases h with rfl|rfl|rfl|rfl|rfl|rfl|rfl|rfl|rfl|rfl<;>exact .sy _ _ (by decide)
theorem X4n {R:By} (h:Nx R):∀ {cs:By},(∀ x∈cs,X4I x=true)->(cs++R).takeWhile X4I=cs
 | [], _ => by
   cases h with
   | nil=>rfl
   | sp l=>rfl
   | sy c l h=>rw [Y1M,Y25,h]; rfl
 | c :: cs, hc => by
   rw [Y1n,Y25,hc c (Y0t ..),Y7 rfl,X4n h fun x hx=>hc x (YC _ hx)]
theorem ZbL {c:UInt8} (h:X4I c=false):X3U c=false/\X4r c=false/\c.toNat≠95:=by
 unfold X4I at h;simp only [Y1x,Y15] at h;exact⟨h.1.2,h.1.1,h.2⟩
theorem X5r {R:By} (h:Nx R) {d:UInt8} (hd:X3U d=true):([d]++R).takeWhile X3U = [d]:=by
 rw [Y1n,Y25,hd,Y7 rfl];cases h with
 | nil=>rfl
 | sp l=>rfl
 | sy c l h=>rw [Y1M,Y25,(ZbL h).1]; rfl
theorem Zgq {s:By} (h:s∈[[45,62],[60,61],[62,61],[61,61],[60],[62],[40],[41],[44],[43]]) {r:List Pc} (hr:okN ⟨3,s,0⟩ r=true):∃ i,X2A[i]?=some s/\∀ (j:Nat) (x:By),j<i->X2A[j]?=some x->x.isPrefixOf (s++txP r)=false:=by
 have hR:X3c ⟨3,s,0⟩=false->txP r = [] \/ ∃ l,txP r=32 :: l:=fun ht=>by
  match r,hr with
  | [],_=>exact .inl rfl
  | (true,u) :: r,_=>exact .inr ⟨_,rfl⟩
  | (false, u) :: r, hr =>
    have hr:(false||(decide (u.k=3)&&false)||X3c ⟨3,s,0⟩)=true:=hr;rw [ht] at hr;simp at hr
 simp only [Ye,Y1z,Y2Y] at h;have sm:∀ {j i:Nat},j<i->i<=13->j=0 \/ j=1 \/ j=2 \/ j=3 \/ j=4 \/ j=5 \/ j=6 \/ j=7 \/ j=8 \/ j=9 \/ j=10 \/ j=11 \/ j=12:=by omega
 rcases h with rfl|rfl|rfl|rfl|rfl|rfl|rfl|rfl|rfl|rfl
 . exact⟨0,rfl,fun j x hj=>absurd hj (YR j)⟩
 . refine ⟨1, rfl, fun j x hj hx => ?_⟩;rcases sm hj (by decide) with rfl|rfl|rfl|rfl|rfl|rfl|rfl|rfl|rfl|rfl|rfl|rfl|rfl<;>first|(cases hx; rfl)|(exact absurd hj (by decide))
 . refine ⟨2, rfl, fun j x hj hx => ?_⟩;rcases sm hj (by decide) with rfl|rfl|rfl|rfl|rfl|rfl|rfl|rfl|rfl|rfl|rfl|rfl|rfl<;>first|(cases hx; rfl)|(exact absurd hj (by decide))
 . refine ⟨3, rfl, fun j x hj hx => ?_⟩;rcases sm hj (by decide) with rfl|rfl|rfl|rfl|rfl|rfl|rfl|rfl|rfl|rfl|rfl|rfl|rfl<;>first|(cases hx; rfl)|(exact absurd hj (by decide))
 . refine ⟨4, rfl, fun j x hj hx => ?_⟩;rcases hR (by decide) with hR|⟨l,hR⟩<;>rw [hR]<;>rcases sm hj (by decide) with rfl|rfl|rfl|rfl|rfl|rfl|rfl|rfl|rfl|rfl|rfl|rfl|rfl<;>first|(cases hx; rfl)|(exact absurd hj (by decide))
 . refine ⟨5, rfl, fun j x hj hx => ?_⟩;rcases hR (by decide) with hR|⟨l,hR⟩<;>rw [hR]<;>rcases sm hj (by decide) with rfl|rfl|rfl|rfl|rfl|rfl|rfl|rfl|rfl|rfl|rfl|rfl|rfl<;>first|(cases hx; rfl)|(exact absurd hj (by decide))
 . refine ⟨6, rfl, fun j x hj hx => ?_⟩;rcases sm hj (by decide) with rfl|rfl|rfl|rfl|rfl|rfl|rfl|rfl|rfl|rfl|rfl|rfl|rfl<;>first|(cases hx; rfl)|(exact absurd hj (by decide))
 . refine ⟨7, rfl, fun j x hj hx => ?_⟩;rcases sm hj (by decide) with rfl|rfl|rfl|rfl|rfl|rfl|rfl|rfl|rfl|rfl|rfl|rfl|rfl<;>first|(cases hx; rfl)|(exact absurd hj (by decide))
 . refine ⟨8, rfl, fun j x hj hx => ?_⟩;rcases sm hj (by decide) with rfl|rfl|rfl|rfl|rfl|rfl|rfl|rfl|rfl|rfl|rfl|rfl|rfl<;>first|(cases hx; rfl)|(exact absurd hj (by decide))
 . refine ⟨11, rfl, fun j x hj hx => ?_⟩;rcases sm hj (by decide) with rfl|rfl|rfl|rfl|rfl|rfl|rfl|rfl|rfl|rfl|rfl|rfl|rfl<;>first|(cases hx; rfl)|(exact absurd hj (by decide))
def tx (f:Fm):By:=txP (pcM f false)
def txA (least:Nat) (f:Fm):By:=txP (X39 least f false)
theorem Zgr {least:Nat} {f:Fm} (h:stM f.op<least):txA least f=40 :: (tx f ++ [41]):=by
 unfold txA X39;rw [Y7 h];show [40]++txP (pcM f false ++ [(false,rpT)])=_;rw [Z8I]
 rfl
theorem Zgs {least:Nat} {f:Fm} (h:¬ stM f.op<least):txA least f=tx f:=by
 unfold txA X39;rw [Y8 h]; rfl
theorem Zj7 {f:Fm} (h:Sh f) (least:Nat):txP (X39 least f true)=32 :: txA least f:=by
 obtain⟨u,y,hy⟩:=Z6E (Zgj h) least;unfold txA;rw [hy,hy]; rfl
theorem Zj8 {a:Fm} (h:Sh a):tx (.mk 7 0 [] [a]) = [110,111,116,32]++txA 4 a:=by
 show txP ((false,X4p) :: X39 4 a true)=_;show [110,111,116]++txP (X39 4 a true)=_;rw [Zj7 h]; rfl
theorem Zj9 {op:Int} {a b:Fm} (h0:8<=op) (hb:Sh b):tx (.mk op 0 [] [a,b])=(txA (X2a op) a++(32 :: (opS op ++ [32])))++txA (X1C op) b:=by
 unfold tx;rw [Za1 h0,Z8I];show txA (X2a op) a++((32 :: opS op)++txP (X39 (X1C op) b true))=_;rw [Zj7 hb];simp
def X3d:List Int->By
 | [] => []
 | r :: l=>44 :: 32 :: (rnS r++X3d l)
theorem Zdd:∀ l:List Int,txP (X27 l)=X3d l
 | []=>rfl
 | r :: l => by
   show [44]++((32 :: rnS r)++txP (X27 l))=_;rw [Zdd l]; rfl
theorem Zde {r:Int} {rs:List Int}:tx (.mk 5 0 (r :: rs) []) = [99,111,117,110,116,40]++((rnS r++X3d rs) ++ [41]):=by
 show [99,111,117,110,116]++([40]++(rnS r++txP (X27 rs ++ [(false,rpT)])))=_;rw [Z8I,Zdd];show [99,111,117,110,116]++([40]++(rnS r++(X3d rs++([41] ++ []))))=_;simp
theorem Z6F:∀ l:List Int,(X3d l).length=4*l.length
 | []=>rfl
 | r :: l => by
   show ((44:UInt8) :: 32 :: (rnS r++X3d l)).length=_;rw [Y04,Y04,Y0e,Z6F l];show 2+_+1+1=4*(l.length+1);omega
def TAt (T:List Tk) (i:Nat) (ts:List Tk):Prop:=∃ r,T.drop i=ts++r
theorem TAt.left {T:List Tk} {i:Nat} {a b:List Tk} (h:TAt T i (a++b)):TAt T i a:=by
 obtain⟨r,hr⟩:=h;exact⟨b++r,by rw [hr,Y1b]⟩
theorem TAt.right {T:List Tk} {i:Nat} {a b:List Tk} (h:TAt T i (a++b)):TAt T (i+a.length) b:=by
 obtain⟨r,hr⟩:=h;refine⟨r,?_⟩;rw [<- Y2k,hr,Y1b,Y3y]
theorem TAt.head {T:List Tk} {i:Nat} {t:Tk} {ts:List Tk} (h:TAt T i (t :: ts)):T[i]?=some t:=by
 obtain⟨r,hr⟩:=h;have:(T.drop i)[0]?=some t:=by rw [hr]; rfl
 rwa [Y18,YX] at this
theorem TAt.tail {T:List Tk} {i:Nat} {t:Tk} {ts:List Tk} (h:TAt T i (t :: ts)):TAt T (i+1) ts:=TAt.right (a := [t]) h
theorem TAt.len {T:List Tk} {i:Nat} {ts:List Tk} (h:TAt T i ts) (hn:ts≠[]):i+ts.length<=T.length:=by
 obtain⟨r,hr⟩:=h;have h1:=congrArg List.length hr;rw [Y17,Y0e] at h1;have:0<ts.length:=Y1N.2 hn;omega
def X67 (t:Tk):Nat:=if t=opT 10 then 1 else if t=opT 9 then 2 else if t=opT 8 then 3 else if t=opT 11 \/ t=opT 12 \/ t=opT 13 \/ t=opT 14 \/ t=opT 15 then 5 else if t=opT 16 then 6 else 0
theorem Zgt {op:Int} (h0:8<=op) (h1:op<=16):X67 (opT op)=stM op:=by
 have:op=8 \/ op=9 \/ op=10 \/ op=11 \/ op=12 \/ op=13 \/ op=14 \/ op=15 \/ op=16:=by omega
 rcases this with rfl|rfl|rfl|rfl|rfl|rfl|rfl|rfl|rfl<;>decide
theorem Z7S (op:Int) (lv:Nat) (a b:List Fm):Xf op lv (a++b)=Xf op lv a++Xf op lv b:=by unfold Xf; rw [Y3G]
theorem Z4k (op:Int) (lv:Nat) (b:Fm) (l:List Fm):Xf op lv (b :: l)=opT op :: (Xy lv b++Xf op lv l):=by
 unfold Xf;rw [Y2g]; rfl
theorem Zem {α:Type} {l:List α} {m:Nat} (hm:m<l.length):l=l.take m++l[m] :: l.drop (m+1):=by
 have h1:=Y16 hm;rw [<- h1,Y1D]
def X3I (op:Int) (lv:Nat) (l:List Fm) (m:Nat):Nat:=(Xf op lv (l.take m)).length
theorem Za4 (op:Int) (lv:Nat) (l:List Fm):X3I op lv l 0=0:=rfl
theorem Z4Z (op:Int) (lv:Nat) (l:List Fm):X3I op lv l l.length=(Xf op lv l).length:=by unfold X3I; rw [Y0q]
theorem Z50 (op:Int) (lv:Nat) {l:List Fm} {m:Nat} (hm:m<l.length):X3I op lv l (m+1)=X3I op lv l m+1+(Xy lv l[m]).length:=by
 unfold X3I;rw [YI,Y0c hm,Z7S];show (_++Xf op lv [l[m]]).length=_;rw [Z4k,Y0e,Y04,Y0e];show _+(_+0+1)=_;omega
theorem ZbM {op:Int} {lv:Nat} {l:List Fm} {T:List Tk} {j:Nat} (h:TAt T j (Xf op lv l)) {m:Nat} (hm:m<l.length):T[j+X3I op lv l m]?=some (opT op)/\TAt T (j+X3I op lv l m+1) (Xy lv l[m]):=by
 have h1:=Zem hm;rw [h1,Z7S] at h;have h2:=h.right;rw [Z4k] at h2;exact⟨h2.head,h2.tail.left⟩
def isT (t:Tk) (s:By):Bool:=(decide (t.k=1)||decide (t.k=3))&&decide (t.s=s)
theorem Zja {op op':Int} (h0:8<=op) (h1:op<=16) (k0:8<=op') (k1:op'<=16):isT (opT op) (opS op')=decide (op=op'):=by
 have a:op=8 \/ op=9 \/ op=10 \/ op=11 \/ op=12 \/ op=13 \/ op=14 \/ op=15 \/ op=16:=by omega
 have b:op'=8 \/ op'=9 \/ op'=10 \/ op'=11 \/ op'=12 \/ op'=13 \/ op'=14 \/ op'=15 \/ op'=16:=by omega
 rcases a with rfl|rfl|rfl|rfl|rfl|rfl|rfl|rfl|rfl<;>rcases b with rfl|rfl|rfl|rfl|rfl|rfl|rfl|rfl|rfl<;>decide
def Fol (t:Tk):Prop:=t=X48 \/ t=rpT \/ ∃ op:Int,8<=op/\op<=16/\t=opT op
theorem Fol.not {t:Tk} (h:Fol t) {op:Int} (k0:8<=op) (k1:op<=16) (hc:X67 t≠stM op):isT t (opS op)=false:=by
 rcases h with rfl|rfl|⟨o,h0,h1,rfl⟩
 . have b : op = 8 \/ op = 9 \/ op = 10 \/ op = 11 \/ op = 12 \/ op = 13 \/ op = 14 \/ op = 15 \/ op = 16 := by omega
   rcases b with rfl|rfl|rfl|rfl|rfl|rfl|rfl|rfl|rfl<;>decide
 . have b : op = 8 \/ op = 9 \/ op = 10 \/ op = 11 \/ op = 12 \/ op = 13 \/ op = 14 \/ op = 15 \/ op = 16 := by omega
   rcases b with rfl|rfl|rfl|rfl|rfl|rfl|rfl|rfl|rfl<;>decide
 . rw [Zja h0 h1 k0 k1, Y15];rintro rfl;exact hc (Zgt h0 h1)
structure Nxt (lv:Nat) (T:List Tk) (j:Nat):Prop where
 fol:∃ t,T[j]?=some t/\Fol t/\(X67 t=0 \/ X67 t<lv)
theorem Nxt.up {lv lv':Nat} {T:List Tk} {j:Nat} (h:Nxt lv T j) (hl:lv<=lv'):Nxt lv' T j:=by
 obtain⟨t,h1,h2,h3⟩:=h.fol;exact⟨t,h1,h2,by omega⟩
theorem Nxt.not {lv:Nat} {T:List Tk} {j:Nat} (h:Nxt lv T j) {op:Int} (k0:8<=op) (k1:op<=16) (hl:lv<=stM op):∃ t,T[j]?=some t/\isT t (opS op)=false:=by
 obtain⟨t,h1,h2,h3⟩:=h.fol;refine⟨t,h1,h2.not k0 k1 fun hc=>?_⟩;have:1<=stM op:=by
  have b:op=8 \/ op=9 \/ op=10 \/ op=11 \/ op=12 \/ op=13 \/ op=14 \/ op=15 \/ op=16:=by omega
  rcases b with rfl|rfl|rfl|rfl|rfl|rfl|rfl|rfl|rfl<;>decide
 omega
theorem Zdf {op:Int} (h0:8<=op) (h1:op<=16) {lv lw:Nat} {l:List Fm} {T:List Tk} {j:Nat} (h:TAt T j (Xf op lv l)) (hl:stM op<lw) (hs:Nxt (stM op) T (j+(Xf op lv l).length)) {m:Nat} (hm:m<=l.length):Nxt lw T (j+X3I op lv l m):=by
 by_cases hml:m<l.length
 . exact⟨_,(ZbM h hml).1,.inr (.inr ⟨op,h0,h1,rfl⟩),.inr (by rw [Zgt h0 h1]; exact hl)⟩
 . have : m = l.length := by omega
   subst this;rw [Z4Z];exact hs.up (by omega)
theorem Zih {f:Fm} (h:Sh f):5<=stM f.op->∃ t r,tkM f=t :: r/\isT t [110,111,116]=false:=by
 induction h with
 | @num n h0 h1 =>
   intro _;exact⟨X5s n,[],rfl,by unfold isT X5s; simp⟩
 | yes=>exact fun _=>⟨X4o,[],rfl,by decide⟩
 | no=>exact fun _=>⟨X3q,[],rfl,by decide⟩
 | @role r h0=>exact fun _=>⟨rnT r,[],rfl,by unfold isT rnT rnS; simp⟩
 | count=>exact fun _=>⟨X2j,_,rfl,by decide⟩
 | neg=>exact fun hh=>absurd hh (by show ¬ 5<=stM 7; decide)
 | @two op a b h0 h1 ha hb iha ihb =>
   intro hh;have hh:5<=stM op:=hh;rw [Za0 h0];have hl:X2a op=6:=by
    have b:op=8 \/ op=9 \/ op=10 \/ op=11 \/ op=12 \/ op=13 \/ op=14 \/ op=15 \/ op=16:=by omega
    rcases b with rfl|rfl|rfl|rfl|rfl|rfl|rfl|rfl|rfl<;>first|rfl|exact absurd hh (by decide)
   rw [hl];by_cases hs:stM a.op<6
   . rw [Z3e hs];exact⟨lpT,_,rfl,by decide⟩
   . rw [Z1z hs];obtain⟨t,r,h2,h3⟩:=iha (by omega);rw [h2];exact⟨t,_,rfl,h3⟩
theorem Zen {f:Fm} (h:Sh f):∃ t r,Xy 5 f=t :: r/\isT t [110,111,116]=false:=by
 by_cases hs:stM f.op<5
 . rw [Z3e hs];exact⟨lpT,_,rfl,by decide⟩
 . rw [Z1z hs];exact Zih h (by omega)
theorem Zkz {n:Nat} {ts:List Tk} {T:List Tk} {i:Nat} (h:TAt T i (List.replicate n X4p++ts)) {m:Nat} (hm:m<n):T[i+m]?=some X4p:=by
 have h1:=h.left;obtain⟨r,hr⟩:=h1;have:(T.drop i)[m]?=some X4p:=by
  rw [hr,Y11 (by rw [Y2d]; exact hm),Y2x,Y7 hm]
 rwa [Y18] at this
theorem Sh.le {f:Fm} (h:Sh f):1<=stM f.op:=by
 have:=h.op;have b:f.op=1 \/ f.op=2 \/ f.op=3 \/ f.op=4 \/ f.op=5 \/ f.op=6 \/ f.op=7 \/ f.op=8 \/ f.op=9 \/ f.op=10 \/ f.op=11 \/ f.op=12 \/ f.op=13 \/ f.op=14 \/ f.op=15 \/ f.op=16:=by omega
 rcases b with h|h|h|h|h|h|h|h|h|h|h|h|h|h|h|h<;>rw [h]<;>decide
section
variable {S:Nat->Fm->Prop}
def X54 (S:Nat->Fm->Prop) (f:Fm):Prop:=∀ lv,1<=lv->lv<=7->S lv f
structure X1V (S:Nat->Fm->Prop):Prop where
 s1:∀ f,Sh f->(∀ x∈chR f,S 2 x)->S 1 f
 sl:∀ op,X2z op->∀ f,Sh f->S (stM op+1) (chL op f).1->(∀ x∈(chL op f).2,S (stM op+1) x)->S (stM op) f
 s4:∀ f,Sh f->S 5 (chN f).2->S 4 f
 s5:∀ (op:Int) (a b:Fm),11<=op->op<=15->Sh a->Sh b->S 6 a->S 6 b->S 5 (.mk op 0 [] [a,b])
 s5n:∀ f,Sh f->¬ (11<=f.op/\f.op<=15)->S 6 f->S 5 f
 s7:∀ f,Sh f->stM f.op=7->S 7 f
 s7p:∀ f,Sh f->stM f.op<7->S 1 f->S 7 f
theorem X1V.f6 (st:X1V S) {f:Fm} (h:Sh f) (hn:f.op≠16) (h7:S 7 f):S 6 f:=by
 have:=st.sl 16 (.inr (.inr rfl)) f h;rw [Z5I hn] at this;exact this h7 fun x hx=>by cases hx
theorem X1V.f4 (st:X1V S) {f:Fm} (h:Sh f) (hn:f.op≠7) (h5:S 5 f):S 4 f:=by
 have:=st.s4 f h;rw [Zdc hn] at this;exact this h5
theorem X1V.f3 (st:X1V S) {f:Fm} (h:Sh f) (hn:f.op≠8) (h4:S 4 f):S 3 f:=by
 have:=st.sl 8 (.inl rfl) f h;rw [Z5I hn] at this;exact this h4 fun x hx=>by cases hx
theorem X1V.f2 (st:X1V S) {f:Fm} (h:Sh f) (hn:f.op≠9) (h3:S 3 f):S 2 f:=by
 have:=st.sl 9 (.inr (.inl rfl)) f h;rw [Z5I hn] at this;exact this h3 fun x hx=>by cases hx
theorem X1V.f1 (st:X1V S) {f:Fm} (h:Sh f) (hn:f.op≠10) (h2:S 2 f):S 1 f:=by
 have:=st.s1 f h;rw [Za3 hn] at this;exact this fun x hx=>by rw [Y0g] at hx; subst hx; exact h2
theorem X3L {lv:Nat} (h1:1<=lv) (h7:lv<=7):lv=1 \/ lv=2 \/ lv=3 \/ lv=4 \/ lv=5 \/ lv=6 \/ lv=7:=by omega
theorem X1V.all (st:X1V S) {f:Fm} (h:Sh f) (hs:S (stM f.op) f):X54 S f:=by
 have h10:f.op≠10->S 2 f->S 1 f:=st.f1 h;have h9:f.op≠9->S 3 f->S 2 f:=st.f2 h;have h8:f.op≠8->S 4 f->S 3 f:=st.f3 h;have h7:f.op≠7->S 5 f->S 4 f:=st.f4 h;have h5:¬ (11<=f.op/\f.op<=15)->S 6 f->S 5 f:=st.s5n f h;have h6:f.op≠16->S 7 f->S 6 f:=st.f6 h;have hp:stM f.op<7->S 1 f->S 7 f:=st.s7p f h;have ho:=h.op;intro lv l1 l7;have b:f.op=1 \/ f.op=2 \/ f.op=3 \/ f.op=4 \/ f.op=5 \/ f.op=6 \/ f.op=7 \/ f.op=8 \/ f.op=9 \/ f.op=10 \/ f.op=11 \/ f.op=12 \/ f.op=13 \/ f.op=14 \/ f.op=15 \/ f.op=16:=by omega
 rcases b with e|e|e|e|e|e|e|e|e|e|e|e|e|e|e|e<;>rw [e] at hs hp h10 h9 h8 h7 h6 h5
 case inr.inr.inr.inr.inr.inr.inl =>
  have k4:S 4 f:=hs;have k3:=h8 (by decide) k4;have k2:=h9 (by decide) k3;have k1:=h10 (by decide) k2;have k7:=hp (by decide) k1;have k6:=h6 (by decide) k7;have k5:=h5 (by decide) k6;rcases X3L l1 l7 with rfl|rfl|rfl|rfl|rfl|rfl|rfl<;>assumption
 case inr.inr.inr.inr.inr.inr.inr.inl =>
  have k3:S 3 f:=hs;have k2:=h9 (by decide) k3;have k1:=h10 (by decide) k2;have k7:=hp (by decide) k1;have k6:=h6 (by decide) k7;have k5:=h5 (by decide) k6;have k4:=h7 (by decide) k5;rcases X3L l1 l7 with rfl|rfl|rfl|rfl|rfl|rfl|rfl<;>assumption
 case inr.inr.inr.inr.inr.inr.inr.inr.inl =>
  have k2:S 2 f:=hs;have k1:=h10 (by decide) k2;have k7:=hp (by decide) k1;have k6:=h6 (by decide) k7;have k5:=h5 (by decide) k6;have k4:=h7 (by decide) k5;have k3:=h8 (by decide) k4;rcases X3L l1 l7 with rfl|rfl|rfl|rfl|rfl|rfl|rfl<;>assumption
 case inr.inr.inr.inr.inr.inr.inr.inr.inr.inl =>
  have k1:S 1 f:=hs;have k7:=hp (by decide) k1;have k6:=h6 (by decide) k7;have k5:=h5 (by decide) k6;have k4:=h7 (by decide) k5;have k3:=h8 (by decide) k4;have k2:=h9 (by decide) k3;rcases X3L l1 l7 with rfl|rfl|rfl|rfl|rfl|rfl|rfl<;>assumption
 case inr.inr.inr.inr.inr.inr.inr.inr.inr.inr.inr.inr.inr.inr.inr =>
  have k6:S 6 f:=hs;have k5:=h5 (by decide) k6;have k4:=h7 (by decide) k5;have k3:=h8 (by decide) k4;have k2:=h9 (by decide) k3;have k1:=h10 (by decide) k2;have k7:=hp (by decide) k1;rcases X3L l1 l7 with rfl|rfl|rfl|rfl|rfl|rfl|rfl<;>assumption
 all_goals first
  | (have k7 : S 7 f := hs
     have k6:=h6 (by decide) k7;have k5:=h5 (by decide) k6;have k4:=h7 (by decide) k5;have k3:=h8 (by decide) k4;have k2:=h9 (by decide) k3;have k1:=h10 (by decide) k2
     rcases X3L l1 l7 with rfl|rfl|rfl|rfl|rfl|rfl|rfl<;>assumption)
  | (have k5 : S 5 f := hs
     have k4:=h7 (by decide) k5;have k3:=h8 (by decide) k4;have k2:=h9 (by decide) k3;have k1:=h10 (by decide) k2;have k7:=hp (by decide) k1;have k6:=h6 (by decide) k7
     rcases X3L l1 l7 with rfl|rfl|rfl|rfl|rfl|rfl|rfl<;>assumption)
structure X5a (S:Nat->Fm->Prop) (f:Fm):Prop where
 a:X54 S f
 l:∀ op,X2z op->X54 S (chL op f).1/\∀ x∈(chL op f).2,X54 S x
 r:∀ x∈chR f,X54 S x
 n:X54 S (chN f).2
theorem X5a.base {f:Fm} (ha:X54 S f) (hop:f.op<7):X5a S f where
 a:=ha
 l := fun op hl => by
   rw [Z5I (by rcases hl with rfl|rfl|rfl<;>omega)];exact⟨ha,fun x hx=>by cases hx⟩
 r := fun x hx => by
   rw [Za3 (by omega),Y0g] at hx;subst hx; exact ha
 n:=by rw [Zdc (by omega)]; exact ha
theorem X1V.known (st:X1V S) {f:Fm} (h:Sh f):X5a S f:=by
 induction h with
 | num h0 h1=>exact .base (st.all (.num h0 h1) (st.s7 _ (.num h0 h1) rfl)) (show (1:Int)<7 by decide)
 | yes=>exact .base (st.all .yes (st.s7 _ .yes rfl)) (show (2:Int)<7 by decide)
 | no=>exact .base (st.all .no (st.s7 _ .no rfl)) (show (3:Int)<7 by decide)
 | role h0=>exact .base (st.all (.role h0) (st.s7 _ (.role h0) rfl)) (show (4:Int)<7 by decide)
 | count h0 h1=>exact .base (st.all (.count h0 h1) (st.s7 _ (.count h0 h1) rfl)) (show (5:Int)<7 by decide)
 | @neg a ha ih =>
   have hn:X54 S (chN (.mk 7 0 [] [a])).2:=by rw [Zgm]; exact ih.n
   have hal:=st.all (.neg ha) (st.s4 _ (.neg ha) (hn 5 (by decide) (by decide)))
   exact⟨hal,fun op hl=>by
    rw [Z5I (f:=.mk 7 0 [] [a]) (show (7:Int)≠op by rcases hl with rfl|rfl|rfl<;>decide)];exact⟨hal,fun x hx=>by cases hx⟩,fun x hx=>by
    rw [Za3 (f:=.mk 7 0 [] [a]) (show (7:Int)≠10 by decide),Y0g] at hx
    subst hx; exact hal,hn⟩
 | @two op a b h0 h1 ha hb iha ihb =>
   have hsh:Sh (.mk op 0 [] [a,b]):=.two h0 h1 ha hb;have hle:stM op+1<=7:=by
    have b:op=8 \/ op=9 \/ op=10 \/ op=11 \/ op=12 \/ op=13 \/ op=14 \/ op=15 \/ op=16:=by omega
    rcases b with rfl|rfl|rfl|rfl|rfl|rfl|rfl|rfl|rfl<;>decide
   have hs:S (stM op) (.mk op 0 [] [a,b]):=by
    by_cases hl:X2z op
    . refine st.sl op hl _ hsh ?_ fun x hx => ?_
      . rw [Z8J]; exact (iha.l op hl).1 _ (by omega) hle
      . rw [Z8J] at hx;rcases Y0h.1 hx with hx|hx
        . exact (iha.l op hl).2 x hx _ (by omega) hle
        . rw [Y0g] at hx; subst hx; exact ihb.a _ (by omega) hle
    . by_cases h10 : op = 10
      . subst h10;refine st.s1 _ hsh fun x hx=>?_;rw [ZbK] at hx;rcases Ye.1 hx with rfl|hx
        . exact iha.a 2 (by decide) (by decide)
        . exact ihb.r x hx 2 (by decide) (by decide)
      . have h5 : 11 <= op /\ op <= 15 := by unfold X2z at hl; omega
        have h6:stM op=5:=by
         have b:op=11 \/ op=12 \/ op=13 \/ op=14 \/ op=15:=by omega
         rcases b with rfl|rfl|rfl|rfl|rfl<;>rfl
        rw [h6];exact st.s5 op a b h5.1 h5.2 ha hb (iha.a 6 (by decide) (by decide)) (ihb.a 6 (by decide) (by decide))
   have hal:=st.all hsh hs;refine⟨hal,fun op' hl=>?_,fun x hx=>?_,?_⟩
   . by_cases he : op = op'
     . subst he;rw [Z8J];refine⟨(iha.l op hl).1,fun x hx=>?_⟩;rcases Y0h.1 hx with hx|hx
       . exact (iha.l op hl).2 x hx
       . rw [Y0g] at hx; subst hx; exact ihb.a
     . rw [Z5I (f := .mk op 0 [] [a, b]) he];exact⟨hal,fun x hx=>by cases hx⟩
   . by_cases h10 : op = 10
     . subst h10;rw [ZbK] at hx;rcases Ye.1 hx with rfl|hx
       . exact iha.a
       . exact ihb.r x hx
     . rw [Za3 (f := .mk op 0 [] [a, b]) h10, Y0g] at hx;subst hx; exact hal
   . rw [Zdc (f:=.mk op 0 [] [a,b]) (show op≠7 by omega)]; exact hal
end
def X24 (x y:Nat):Int:=if x<y then -1 else if x=y then 0 else 1
theorem Zii {x y:Nat}:X24 x y<0↔x<y:=by unfold X24; split<;>(try split)<;>omega
theorem Zgu {x y:Nat}:X24 x y=0↔x=y:=by unfold X24; split<;>(try split)<;>omega
theorem Z6G (x:Nat):X24 x x=0:=Zgu.2 rfl
def X1Z (a:Nat):Nat:=if a=0 then 0 else if a % 2=1 then 1 else 2
def X2V:Nat->Nat->Nat
 | 0,_=>0
 | k+1,a=>X1Z a*3 ^ k+X2V k (a / 2)
theorem ZjN (a:Nat):X1Z a<=2:=by unfold X1Z; split<;>(try split)<;>omega
theorem Z3f:∀ (k a:Nat),X2V k a<3 ^ k
 | 0,_=>by simp [X2V]
 | k + 1, a => by
   have h1:=Z3f k (a / 2);have h2:=ZjN a;have h3:X1Z a*3 ^ k<=2*3 ^ k:=YM _ h2;simp only [X2V,YU];omega
theorem Z2Z:∀ k,X2V k 0=0
 | 0=>rfl
 | k+1=>by simp [X2V,X1Z,Z2Z k]
def X7C:List Nat->List Nat->Int
 | [],[]=>0
 | [],_ :: _ => -1
 | _ :: _,[]=>1
 | x :: xs,y :: ys=>if x<y then -1 else if y<x then 1 else X7C xs ys
def X6g (k N:Nat):List Nat:=(List.range k).filter fun i=>N.testBit i
theorem Zgv (k N:Nat):X6g (k+1) N=(if N % 2=1 then [0] else [])++(X6g k (N / 2)).map (· + 1):=by
 have hf:∀ (l:List Nat),(l.map Nat.succ).filter (fun i=>N.testBit i)=(l.filter fun i=>(N / 2).testBit i).map (· + 1):=by
  intro l;rw [List.filter_map];congr 1;apply List.filter_congr;intro x _;simp [Y27]
 unfold X6g;rw [List.range_succ_eq_map,Y3i,hf,Y1F];by_cases h:N % 2=1<;>simp [h]
theorem Zdg:∀ {k a b:Nat},a<2 ^ k->b<2 ^ k->X2V k a=X2V k b->a=b:=by
 intro k
 induction k with
 | zero=>intro a b ha hb _; simp at ha hb; omega
 | succ k ih =>
   intro a b ha hb h;have ha':a / 2<2 ^ k:=by rw [YU] at ha; omega
   have hb':b / 2<2 ^ k:=by rw [YU] at hb; omega
   have la:=Z3f k (a / 2);have lb:=Z3f k (b / 2);simp only [X2V] at h;have hp:0<3 ^ k:=Y23 (by decide);have hd:X1Z a=X1Z b:=by
    have h1:(X1Z a*3 ^ k+X2V k (a / 2)) / 3 ^ k=X1Z a:=by rw [Y1t,Y3r hp,Y1y la]; rfl
    have h2:(X1Z b*3 ^ k+X2V k (b / 2)) / 3 ^ k=X1Z b:=by rw [Y1t,Y3r hp,Y1y lb]; rfl
    rw [<- h1,<- h2,h]
   rw [hd] at h;have h2:=ih ha' hb' (by omega);unfold X1Z at hd;by_cases h3:a=0<;>by_cases h4:b=0<;>simp only [h3,h4,Y1P,Y1G] at hd
   . omega
   . split at hd<;>omega
   . split at hd<;>omega
   . split at hd<;>split at hd<;>omega
abbrev key (N:Nat):Nat:=X2V 64 N
theorem Zgw {a b:Nat} (ha:a<18446744073709551616) (hb:b<18446744073709551616) (h:key a=key b):a=b:=Zdg (k:=64) ha hb h
theorem Zgx:∀ (k:Nat) {a b:Nat},a<2 ^ k->b<2 ^ k->a≠b->X24 (X2V k a) (X2V k b)=(if a.testBit (tz (a ^^^ b)) then (if b / 2 ^ (tz (a ^^^ b)+1)=0 then 1 else -1) else (if a / 2 ^ (tz (a ^^^ b)+1)=0 then -1 else 1))
 | 0,a,b,ha,hb,hn=>by simp at ha hb; omega
 | k + 1, a, b, ha, hb, hn => by
   have ha':a / 2<2 ^ k:=by rw [YU] at ha; omega
   have hb':b / 2<2 ^ k:=by rw [YU] at hb; omega
   have la:=Z3f k (a / 2);have lb:=Z3f k (b / 2);have hx:(a ^^^ b) % 2=(a+b) % 2:=by have := @Nat.xor_mod_two_eq_one a b; omega
   have hx2:(a ^^^ b) / 2=a / 2 ^^^ b / 2:=Nat.xor_div_two
   have hx0:a ^^^ b≠0:=fun h=>hn (YB fun i=>by
    have:(a ^^^ b).testBit i=false:=by rw [h]; simp
    rw [Y1K] at this
    cases h1:a.testBit i<;>cases h2:b.testBit i<;>simp_all)
   by_cases h1:a % 2=1<;>by_cases h2:b % 2=1
   . have ht : tz (a ^^^ b) = tz (a / 2 ^^^ b / 2) + 1 := by
      rw [tz,dif_neg (by omega),hx2]
     have ih:=Zgx k ha' hb' (by omega);rw [ht,Y27,YU,Y1t,<- Y1e,<- Y1e,<- ih];have d1:X1Z a=1:=by unfold X1Z; rw [Y8 (by omega),Y7 h1]
     have d2:X1Z b=1:=by unfold X1Z; rw [Y8 (by omega),Y7 h2]
     simp only [X2V,d1,d2];unfold X24
     split<;>split<;>(try split)<;>(try split)<;>omega
   . have ht : tz (a ^^^ b) = 0 := by rw [tz, dif_pos (.inl (by omega))]
     have d1:X1Z a=1:=by unfold X1Z; rw [Y8 (by omega),Y7 h1]
     have e1:a.testBit 0=true:=by rw [Y1F]; simp [h1]
     rw [ht,e1];simp only [Y1P,X2V,d1,YQ,Nat.pow_one];by_cases hz:b / 2=0
     . have d2 : X1Z b = 0 := by unfold X1Z; rw [Y7 (by omega)]
       have:0<3 ^ k:=Y23 (by decide);rw [Y7 hz,d2,hz,Z2Z];unfold X24;rw [Y8 (by omega),Y8 (by omega)]
     . have d2 : X1Z b = 2 := by unfold X1Z; rw [Y8 (by omega), Y8 h2]
       rw [Y8 hz,d2];unfold X24;rw [Y7 (by omega)]
   . have ht : tz (a ^^^ b) = 0 := by rw [tz, dif_pos (.inl (by omega))]
     have d2:X1Z b=1:=by unfold X1Z; rw [Y8 (by omega),Y7 h2]
     have e1:a.testBit 0=false:=by rw [Y1F]; simp [h1]
     rw [ht,e1];simp only [Y2z,Y1G,X2V,d2,YQ,Nat.pow_one];by_cases hz:a / 2=0
     . have d1 : X1Z a = 0 := by unfold X1Z; rw [Y7 (by omega)]
       have:0<3 ^ k:=Y23 (by decide);rw [Y7 hz,d1,hz,Z2Z];unfold X24;rw [Y7 (by omega)]
     . have d1 : X1Z a = 2 := by unfold X1Z; rw [Y8 (by omega), Y8 h1]
       rw [Y8 hz,d1];unfold X24;rw [Y8 (by omega),Y8 (by omega)]
   . have ht : tz (a ^^^ b) = tz (a / 2 ^^^ b / 2) + 1 := by
      rw [tz,dif_neg (by omega),hx2]
     have ih:=Zgx k ha' hb' (by omega);rw [ht,Y27,YU,Y1t,<- Y1e,<- Y1e,<- ih];have da:X1Z a=if a / 2=0 then 0 else 2:=by unfold X1Z; by_cases h:a=0<;>simp [h,h1]; omega
     have db:X1Z b=if b / 2=0 then 0 else 2:=by unfold X1Z; by_cases h:b=0<;>simp [h,h2]; omega
     simp only [X2V,da,db];have nz:∀ c,c<2 ^ k->c≠0->0<X2V k c:=fun c hc h0=>by
      rcases Nat.eq_zero_or_pos (X2V k c) with h|h
      . exact absurd (Zdg hc (Y23 (by decide)) (by rw [h,Z2Z])) h0
      . exact h
     by_cases hz1:a / 2=0<;>by_cases hz2:b / 2=0
     . omega
     . have := nz _ hb' hz2;simp only [hz1,hz2,Y1P,Y1G,Z2Z];unfold X24;rw [Y7 (by omega),Y7 (by omega)]
     . have := nz _ ha' hz1;simp only [hz1,hz2,Y1P,Y1G,Z2Z];unfold X24;rw [Y8 (by omega),Y8 (by omega),Y8 (by omega),Y8 (by omega)]
     . simp only [hz1, hz2, Y1G];unfold X24
       split<;>split<;>(try split)<;>(try split)<;>omega
def X2c (c:Nat×Nat):Nat:=key c.1*3 ^ 64+key c.2
theorem Zij {a b:Nat×Nat} (ha:a.1<18446744073709551616/\a.2<18446744073709551616) (hb:b.1<18446744073709551616/\b.2<18446744073709551616) (h:X2c a=X2c b):a=b:=by
 have l1:key a.2<3 ^ 64:=Z3f 64 a.2;have l2:key b.2<3 ^ 64:=Z3f 64 b.2;unfold X2c at h;have h1:(key a.1*3 ^ 64+key a.2) / 3 ^ 64=key a.1:=by rw [Y1t,Y3r (Y23 (by decide)),Y1y l1,YX]
 have h2:(key b.1*3 ^ 64+key b.2) / 3 ^ 64=key b.1:=by rw [Y1t,Y3r (Y23 (by decide)),Y1y l2,YX]
 have h3:key a.1=key b.1:=by rw [<- h1,<- h2,h]
 have h4:key a.2=key b.2:=by rw [h3] at h; omega
 obtain⟨a1,a2⟩:=a;obtain⟨b1,b2⟩:=b;exact Prod.ext (Zgw ha.1 hb.1 h3) (Zgw ha.2 hb.2 h4)
def X5f (a b:Nat×Nat):Int:=if X24 (key a.1) (key b.1)≠0 then X24 (key a.1) (key b.1) else X24 (key a.2) (key b.2)
theorem Zik (a b:Nat×Nat):X5f a b=X24 (X2c a) (X2c b):=by
 have l1:key a.2<3 ^ 64:=Z3f 64 a.2;have l2:key b.2<3 ^ 64:=Z3f 64 b.2;unfold X5f X2c;generalize key a.1=x at *;generalize key b.1=y at *;generalize key a.2=u at *;generalize key b.2=v at *;rcases Y3R x y with h|h|h
 . have e1 : X24 x y = -1 := Y7 h;have e2:X24 (x*3 ^ 64+u) (y*3 ^ 64+v) = -1:=Y7 (by omega);rw [e1,e2]; rfl
 . subst h;rw [Z6G];simp only [ne_eq,not_true_eq_false,Y1G];unfold X24
   split<;>split<;>(try split)<;>(try split)<;>omega
 . have e1 : X24 x y = 1 := by unfold X24; rw [Y8 (by omega), Y8 (by omega)]
   have e2:X24 (x*3 ^ 64+u) (y*3 ^ 64+v)=1:=by unfold X24; rw [Y8 (by omega),Y8 (by omega)]
   rw [e1,e2]; rfl
def X1E (roles:List Nat) (m:Nat):Nat->Nat
 | 0=>0
 | i+1=>if m.testBit i then X1E roles m i ||| 2 ^ (roles.getD i 0) else X1E roles m i
def X1j (roles:List Nat) (m:Nat):Nat:=X1E roles m roles.length
theorem Z8K {roles:List Nat} (h:∀ r∈roles,r<64) (m:Nat):∀ i,i<=roles.length->X1E roles m i<18446744073709551616
 | 0,_=>by simp [X1E]
 | i + 1, hi => by
   have ih:=Z8K h m i (by omega);simp only [X1E]
   split
   . refine Y1h (n := 64) ih ?_;refine Y14 (by decide) ?_;rw [Y0b,Y0c (by omega)];exact h _ (Y0j _)
   . exact ih
theorem ZbN {roles:List Nat} (h:∀ r∈roles,r<64) (m:Nat):X1j roles m<18446744073709551616:=Z8K h m _ (Y0m _)
theorem Z51 (roles:List Nat) (m j:Nat):∀ i,(X1E roles m i).testBit j=true↔∃ t,t<i/\m.testBit t=true/\roles.getD t 0=j
 | 0=>by simp [X1E]
 | i + 1 => by
   have ih:=Z51 roles m j i;simp only [X1E]
   split
   . rename_i hb;rw [Y00,YO,ih,YJ];constructor
     . rintro (⟨t, h1, h2, h3⟩ | h)
       . exact⟨t,by omega,h2,h3⟩
       . exact⟨i,by omega,hb,Y0u h⟩
     . rintro ⟨t, h1, h2, h3⟩;by_cases ht:t=i
       . subst ht; exact .inr (YF h3)
       . exact .inl ⟨t,by omega,h2,h3⟩
   . rename_i hb;rw [ih];constructor
     . rintro⟨t,h1,h2,h3⟩; exact⟨t,by omega,h2,h3⟩
     . rintro ⟨t, h1, h2, h3⟩;have:t≠i:=fun e=>by subst e; exact hb h2
       exact⟨t,by omega,h2,h3⟩
def X4P (y n m:Nat):Bool:=decide (y ||| m=m)&&decide (n &&& m=0)
def X1X (k:Nat) (ok:Nat->Bool) (y n:Nat):Bool:=(List.range (2 ^ k)).all fun m => !X4P y n m||ok m
theorem Z2I (y n m:Nat):X4P y n m=true↔(∀ i,y.testBit i=true->m.testBit i=true)/\∀ i,n.testBit i=true->m.testBit i=false:=by
 unfold X4P;rw [Y0k,Y1q,Y1q];constructor
 . rintro ⟨h1, h2⟩;refine⟨fun i hi=>?_,fun i hi=>?_⟩
   . have := congrArg (·.testBit i) h1;simpa [Y00,hi] using this
   . have := congrArg (·.testBit i) h2;simpa [Y0z,hi] using this
 . rintro ⟨h1, h2⟩;refine⟨YB fun i=>?_,YB fun i=>?_⟩
   . rw [Y00];cases hy:y.testBit i with
     | false=>simp
     | true=>simp [h1 i hy]
   . rw [Y0z, Y1l];cases hn:n.testBit i with
     | false=>simp
     | true=>simp [h2 i hn]
theorem Z3Y {k:Nat} {ok:Nat->Bool} {y n:Nat}:X1X k ok y n=true↔∀ m,m<2 ^ k->X4P y n m=true->ok m=true:=by
 unfold X1X;rw [YA];constructor
 . intro h m hm hb;have:=h m (YZ.2 hm);simpa [hb] using this
 . intro h m hm;cases hb:X4P y n m with
   | false=>simp
   | true=>simp [h m (YZ.1 hm) hb]
theorem ZJ (y i j:Nat):(y ||| 2 ^ i).testBit j=(y.testBit j||decide (i=j)):=by rw [Y00,YJ]
theorem Zdh {y n m i:Nat}:X4P (y ||| 2 ^ i) n m=true↔X4P y n m=true/\m.testBit i=true:=by
 rw [Z2I,Z2I];constructor
 . rintro ⟨h1, h2⟩;exact⟨⟨fun j hj=>h1 j (by rw [ZJ,hj]; rfl),h2⟩,h1 i (by rw [ZJ]; simp)⟩
 . rintro ⟨⟨h1, h2⟩, h3⟩;refine⟨fun j hj=>?_,h2⟩;rw [ZJ,YO] at hj;rcases hj with hj|hj
   . exact h1 j hj
   . rw [<- Y0u hj]; exact h3
theorem Zgy {y n m i:Nat}:X4P y (n ||| 2 ^ i) m=true↔X4P y n m=true/\m.testBit i=false:=by
 rw [Z2I,Z2I];constructor
 . rintro ⟨h1, h2⟩;exact⟨⟨h1,fun j hj=>h2 j (by rw [ZJ,hj]; rfl)⟩,h2 i (by rw [ZJ]; simp)⟩
 . rintro ⟨⟨h1, h2⟩, h3⟩;refine⟨h1,fun j hj=>?_⟩;rw [ZJ,YO] at hj;rcases hj with hj|hj
   . exact h2 j hj
   . rw [<- Y0u hj]; exact h3
theorem Zeo (k:Nat) (ok:Nat->Bool) (y n i:Nat):X1X k ok y n=(X1X k ok (y ||| 2 ^ i) n&&X1X k ok y (n ||| 2 ^ i)):=by
 rw [YS,Y0k,Z3Y,Z3Y,Z3Y];constructor
 . intro h;exact⟨fun m hm hb=>h m hm (Zdh.1 hb).1,fun m hm hb=>h m hm (Zgy.1 hb).1⟩
 . rintro ⟨h1, h2⟩ m hm hb;cases hi:m.testBit i with
   | true=>exact h1 m hm (Zdh.2 ⟨hb,hi⟩)
   | false=>exact h2 m hm (Zgy.2 ⟨hb,hi⟩)
theorem Za5 {k:Nat} (ok:Nat->Bool) {y n:Nat} (hy:y<2 ^ k) (hd:y &&& n=0) (hf:∀ i,i<k->(y ||| n).testBit i=true):X1X k ok y n=ok y:=by
 have hdis:∀ i,y.testBit i=true->n.testBit i=false:=fun i hi=>by
  have:=congrArg (·.testBit i) hd;simpa [Y0z,hi] using this
 rw [YS,Z3Y];constructor
 . intro h
   exact h y hy ((Z2I _ _ _).2 ⟨fun i hi=>hi,fun i hi=>by
    cases hyi:y.testBit i with
    | false=>rfl
    | true=>rw [hdis i hyi] at hi; cases hi⟩)
 . intro h m hm hb;rw [Z2I] at hb;have:m=y:=YB fun i=>by
    cases hyi:y.testBit i with
    | true=>exact hb.1 i hyi
    | false =>
      by_cases hik:i<k
      . have := hf i hik;rw [Y00,hyi,Y3f] at this;exact hb.2 i this
      . exact Y1A (YW hm (Y1f (by decide) (by omega)))
   rw [this]; exact h
def X17 (k:Nat) (ok:Nat->Bool) (y n i:Nat):Bool:=(y.testBit i&&X1X k ok (y-2 ^ i) n)||(n.testBit i&&X1X k ok y (n-2 ^ i))
def prB (k:Nat) (ok:Nat->Bool) (y n:Nat):Bool:=X1X k ok y n&&(List.range k).all fun i => !X17 k ok y n i
def X20 (k:Nat) (ok:Nat->Bool) (roles:List Nat) (y:Nat) (j:Nat):List (Nat×Nat):=((List.range j).filter fun n=>decide (y &&& n=0)&&prB k ok y n).map fun n=>(X1j roles y,X1j roles n)
def X3F (k:Nat) (ok:Nat->Bool) (roles:List Nat) (j:Nat):List (Nat×Nat):=(List.range j).flatMap fun y=>X20 k ok roles y (2 ^ k)
def prL (ok:Nat->Bool) (roles:List Nat):List (Nat×Nat):=X3F roles.length ok roles (2 ^ roles.length)
theorem Zep (k:Nat) (ok:Nat->Bool) (roles:List Nat) (y j:Nat):X20 k ok roles y (j+1)=X20 k ok roles y j++(if (decide (y &&& j=0)&&prB k ok y j)=true then [(X1j roles y,X1j roles j)] else []):=by
 unfold X20;rw [Y2T,Y34,Y0r];by_cases h:(decide (y &&& j=0)&&prB k ok y j)=true
 . rw [Y7 h]; simp only [Y3i,h,Y1P,List.filter_nil,Y1c,List.map_nil]
 . rw [Y8 h]; simp only [Y3i,h,Y2z,Y1G,List.filter_nil,List.map_nil]
theorem Za6 (k:Nat) (ok:Nat->Bool) (roles:List Nat) (j:Nat):X3F k ok roles (j+1)=X3F k ok roles j++X20 k ok roles j (2 ^ k):=by
 unfold X3F;rw [Y2T,Y3G];simp
theorem Za7 (k:Nat) (ok:Nat->Bool) (roles:List Nat) (y j:Nat):(X20 k ok roles y j).length<=j:=by
 unfold X20;rw [Y0f];have:=Y2H (fun n=>decide (y &&& n=0)&&prB k ok y n) (List.range j);rw [Y2f] at this;exact this
theorem Zdi (k:Nat) (ok:Nat->Bool) (roles:List Nat):∀ j,(X3F k ok roles j).length<=j*2 ^ k
 | 0=>by simp [X3F]
 | j + 1 => by
   rw [Za6,Y0e,Y1i,Nat.one_mul];have:=Zdi k ok roles j;have:=Za7 k ok roles j (2 ^ k);omega
theorem Zgz {ok:Nat->Bool} {roles:List Nat} (h:∀ r∈roles,r<64) {c:Nat×Nat} (hc:c∈prL ok roles):c.1<18446744073709551616/\c.2<18446744073709551616:=by
 unfold prL X3F X20 at hc;obtain⟨y,_,hc⟩:=Y49.1 hc;obtain⟨n,_,rfl⟩:=Y0i.1 hc;exact⟨ZbN h _,ZbN h _⟩
def X5A (c:Nat×Nat):List (Nat×Nat)->List (Nat×Nat)
 | [] => [c]
 | d :: l=>if X2c c<=X2c d then c :: d :: l else d :: X5A c l
def X2N:List (Nat×Nat)->List (Nat×Nat)
 | [] => []
 | c :: l=>X5A c (X2N l)
theorem Z6H (c:Nat×Nat):∀ l,(X5A c l).Perm (c :: l)
 | []=>.refl _
 | d :: l => by
   simp only [X5A]
   split
   . exact .refl _
   . exact ((Z6H c l).cons d).trans (.swap c d l)
theorem Z30:∀ l,(X2N l).Perm l
 | []=>.refl _
 | c :: l=>(Z6H c _).trans ((Z30 l).cons c)
theorem Z6I (c:Nat×Nat):∀ {l},l.Pairwise (fun a b=>X2c a<=X2c b)->(X5A c l).Pairwise fun a b=>X2c a<=X2c b
 | [],_=>Y3c _ _
 | d :: l, h => by
   simp only [X5A];rw [Y1j] at h
   split
   . rename_i hle;refine Y1j.2 ⟨fun x hx=>?_,Y1j.2 h⟩;rcases Ye.1 hx with rfl|hx
     . exact hle
     . exact Y03 hle (h.1 x hx)
   . rename_i hle;refine Y1j.2 ⟨fun x hx=>?_,Z6I c h.2⟩;rcases Ye.1 ((Z6H c l).mem_iff.1 hx) with rfl|hx
     . omega
     . exact h.1 x hx
theorem Z3C:∀ l,(X2N l).Pairwise fun a b=>X2c a<=X2c b
 | []=>.nil
 | c :: l=>Z6I c (Z3C l)
theorem Z52:∀ {l m:List (Nat×Nat)},l.Pairwise (fun a b=>X2c a<=X2c b)->m.Pairwise (fun a b=>X2c a<=X2c b)->l.Perm m->(∀ c∈l,c.1<18446744073709551616/\c.2<18446744073709551616)->l=m
 | [],m,_,_,h,_=>h.nil_eq
 | c :: l,[],_,_,h,_=>absurd h.length_eq (by simp)
 | c :: l, d :: m, h1, h2, h, h64 => by
   rw [Y1j] at h1 h2;have hcd:X2c c<=X2c d:=by
    rcases Ye.1 (h.mem_iff.2 (Y0t ..)) with e|e
    . rw [e]; exact Y0m _
    . exact h1.1 d e
   have hdc:X2c d<=X2c c:=by
    rcases Ye.1 (h.mem_iff.1 (Y0t ..)) with e|e
    . rw [e]; exact Y0m _
    . exact h2.1 c e
   have hd64:d.1<18446744073709551616/\d.2<18446744073709551616:=h64 d (h.mem_iff.2 (Y0t ..));have e:c=d:=Zij (h64 c (Y0t ..)) hd64 (Nat.le_antisymm hcd hdc);subst e;rw [Z52 h1.2 h2.2 (List.Perm.cons_inv h) fun x hx=>h64 x (YC _ hx)]
theorem Z5J {l m:List (Nat×Nat)} (h:m.Perm l) (hs:m.Pairwise fun a b=>X2c a<=X2c b) (h64:∀ c∈l,c.1<18446744073709551616/\c.2<18446744073709551616):m=X2N l :=
 Z52 hs (Z3C l) (h.trans (Z30 l).symm) fun c hc=>h64 c (h.mem_iff.1 hc)
theorem Zil {l:List (Nat×Nat)} (h64:∀ c∈l,c.1<18446744073709551616/\c.2<18446744073709551616):∀ c∈X2N l,c.1<18446744073709551616/\c.2<18446744073709551616:=fun c hc=>h64 c ((Z30 l).mem_iff.1 hc)
def X3x (k:Nat):List (Nat×Nat):=(List.range (2 ^ k)).flatMap fun y=>((List.range (2 ^ k)).filter fun n=>decide (y &&& n=0)).map fun n=>(y,n)
theorem Z5r {k:Nat} {c:Nat×Nat}:c∈X3x k↔c.1<2 ^ k/\c.2<2 ^ k/\c.1 &&& c.2=0:=by
 unfold X3x;rw [Y49];constructor
 . rintro ⟨y, hy, hc⟩;obtain⟨n,hn,rfl⟩:=Y0i.1 hc;rw [Y1E] at hn;exact⟨YZ.1 hy,YZ.1 hn.1,Y0u hn.2⟩
 . rintro ⟨h1, h2, h3⟩;exact⟨c.1,YZ.2 h1,Y0i.2 ⟨c.2,Y1E.2 ⟨YZ.2 h2,YF h3⟩,rfl⟩⟩
theorem Z6J {α β:Type} {f:α->β}:∀ {l:List α},(∀ a∈l,∀ b∈l,f a=f b->a=b)->l.Nodup->(l.map f).Nodup
 | [],_,_=>Y36
 | a :: l, h, hn => by
   rw [Y21] at hn;rw [Y1c,Y21];refine⟨fun hm=>?_,Z6J (fun x hx y hy=>h x (YC _ hx) y (YC _ hy)) hn.2⟩;obtain⟨b,hb,he⟩:=Y0i.1 hm;have:=h b (YC _ hb) a (Y0t ..) he;subst this;exact hn.1 hb
theorem Za8 (k:Nat):(X3x k).Nodup:=by
 have gen:∀ (l:List Nat),l.Nodup->(l.flatMap fun y=>((List.range (2 ^ k)).filter fun n=>decide (y &&& n=0)).map fun n=>(y,n)).Nodup:=by
  intro l
  induction l with
  | nil=>intro _; exact Y36
  | cons y l ih =>
    intro hn;rw [Y21] at hn;rw [Y2g,Y3S];refine⟨Z6J (fun a _ b _ he=>(Y3B he).2) (List.nodup_range.filter _),ih hn.2,fun c hc d hd he=>?_⟩;subst he;obtain⟨n,_,rfl⟩:=Y0i.1 hc;obtain⟨z,hz,hd⟩:=Y49.1 hd;obtain⟨m,_,he⟩:=Y0i.1 hd;rw [Y2s] at he;rw [<- he.1] at hn;exact hn.1 hz
 exact gen _ List.nodup_range
def X5I (roles:List Nat) (c:Nat×Nat):Nat×Nat:=(X1j roles c.1,X1j roles c.2)
theorem Zjb (ok:Nat->Bool) (roles:List Nat):prL ok roles=((X3x roles.length).filter fun c=>prB roles.length ok c.1 c.2).map (X5I roles):=by
 unfold prL X3F X3x;rw [List.filter_flatMap,List.map_flatMap];congr 1;funext y;unfold X20;rw [List.filter_map,Y40,List.filter_filter];congr 1;apply List.filter_congr;intro n _;simp only [Function.comp_apply];exact Bool.and_comm _ _
end
section
open Go.RowKit
attribute [local irreducible] aw Xj dK
abbrev Cu:=Nat×Nat
def cuC (c:Cu):List PV := [.vec (X8 (Xt c.1)) false,.vec (X8 (Xt c.2)) false]
def cuP (c:Cu):PV:=.agg (cuC c)
def X4j (c:Cu):Prop:=c.1<18446744073709551616/\c.2<18446744073709551616
theorem Z23 (c:Cu):Xe (cuC c):=⟨ZA _,ZA _,Yt⟩
theorem Zim (c:Cu):(cuP c).pure:=Z23 c
theorem Z3g (c:Cu):(cuC c).length=2:=rfl
def hoC (c:Cu) (s:Nat):Bool:=decide (c.1 ||| s=s) && !decide (c.2 &&& s≠0)
def soC (l:List Cu) (s:Nat):Bool:=l.any fun c=>hoC c s
def eqC (a b:Cu):Bool:=decide (a.1=b.1)&&decide (a.2=b.2)
theorem ZjO (a b:Cu):eqC a b=true↔a=b:=by
 obtain⟨a1,a2⟩:=a;obtain⟨b1,b2⟩:=b;simp [eqC,Y2s]
theorem ZbO (c:Cu) (s:Nat) (hc:X4j c) (hs:s<18446744073709551616):X7 Tryz.prog 15 [cuP c,XH s] (· = .val (.bool (hoC c s))):=by
 refine Yp ok15 fun C hC=>?_;refine Zn ?_;refine Z8 ?_;refine Z5 rfl rfl rfl ?_;refine Z5 rfl rfl rfl ?_;refine go ?_;refine Qe (Z6v c.1 s hc.1 hs) ⟨Z9 _,Z9 _,Yt⟩ ?_;unfold hoC;cases hd:decide (c.1 ||| s=s)
 . refine go ?_;exact Z4 rfl Yt rfl
 . refine go ?_;refine Qe (Ze5 c.2 s hc.2 hs) ⟨Z9 _,Z9 _,Yt⟩ ?_;(refine go ?_;repeat' (apply B<;>intro hb<;>try cases hb))
   all_goals exact Z4 rfl Yt (XO (by simp_all))
theorem Z4l (a b:Cu) (ha:X4j a) (hb:X4j b):X7 Tryz.prog 9 [cuP a,cuP b] (· = .val (.bool (eqC a b))):=by
 refine Yp ok9 fun C hC=>?_;refine Zn ?_;refine Z8 ?_;refine Z5 rfl rfl rfl ?_;refine Z5 rfl rfl rfl ?_;refine go ?_;refine Qe (Z4f a.1 b.1 ha.1 hb.1) ⟨Z9 _,Z9 _,Yt⟩ ?_;unfold eqC;cases hd:decide (a.1=b.1)
 . refine go ?_;exact Z4 rfl Yt rfl
 . refine go ?_;refine Qe (Z4f a.2 b.2 ha.2 hb.2) ⟨Z9 _,Z9 _,Yt⟩ ?_;(refine go ?_;repeat' (apply B<;>intro hb<;>try cases hb))
   all_goals exact Z4 rfl Yt (XO (by simp_all))
def bl (x:Nat):Nat:=if x=0 then 0 else x.log2+1
theorem Z8M {x:Nat} (h:x≠0):bl x=bl (x / 2)+1:=by
 unfold bl;rw [Y8 h];by_cases h1:x / 2=0
 . have : x = 1 := by omega
   subst this
   rfl
 . rw [Y8 h1,Nat.log2_def,Y7 (by omega)]
theorem Z1v:∀ {k x:Nat},2 ^ k<=x->bl x=k+bl (x / 2 ^ k)
 | 0,x,_=>by simp
 | k + 1, x, h => by
   have hp:0<2 ^ k:=Y23 (by decide);rw [YU] at h;rw [Z8M (by omega),Z1v (k:=k) (x:=x / 2) (by omega),Y1e,YU,Y1t 2];omega
theorem Zin:∀ {k x:Nat},x<2 ^ k->bl x<=k
 | 0,x,h=>by simp at h; subst h; exact Y0m _
 | k + 1, x, h => by
   by_cases h0:x=0
   . subst h0; exact Y0l _
   . have := Zin (k := k) (x := x / 2) (by rw [YU] at h; omega);rw [Z8M h0]; omega
theorem fd (a k:Nat) (c:Int) (hc:(2:Int) ^ (min c.toNat IntKind.u64.bits)=((k:Nat):Int)):Int.fdiv (a:Int) (2 ^ (min c.toNat IntKind.u64.bits))=((a / k:Nat):Int):=by
 rw [hc,Y4j _ (by omega)];exact (Int.natCast_ediv a k).symm
theorem X4c (a:Nat):Int.fdiv (a:Int) (2 ^ (min (32:Int).toNat IntKind.u64.bits))=((a / 4294967296:Nat):Int):=fd a _ 32 rfl
theorem X4X (a:Nat):Int.fdiv (a:Int) (2 ^ (min (16:Int).toNat IntKind.u64.bits))=((a / 65536:Nat):Int):=fd a _ 16 rfl
theorem fd8 (a:Nat):Int.fdiv (a:Int) (2 ^ (min (8:Int).toNat IntKind.u64.bits))=((a / 256:Nat):Int):=fd a _ 8 rfl
theorem Z5S {a b:Nat} (h:decide ((a:Int)≥(b:Int))=true):b<=a:=by simpa using h
theorem Z5T {a b:Nat} (h:decide ((a:Int)≥(b:Int))=false):a<b:=by simpa using h
theorem u8w {a:Nat} (h:a<256):IntKind.u8.wrap (a:Int)=(a:Int):=IntWalk.u8_in _ ⟨by omega,by omega⟩
theorem Zjc {n:Nat} {e:Env} {h:X0} {x i:Operand} {s:ByteArray} {k:IntKind} {m:Int} (hx:ev e x=some (.val (.string s))) (hi:ev e i=some (.val (.int k m))) (j:Nat) (hm:m=(j:Int)) (hj:j<256)
 (hs:(decide (s.size=256)&&(List.range 256).all fun j=>(s.data.toList.getD j 0).toNat == bl j)=true):X1 (.indexS x i) e h n=some (.val (.int .u8 (bl j:Nat)),h):=by
 rw [Y0k,YA] at hs;have h1:s.size=256:=Y0u hs.1;have h2:=hs.2 j (YZ.2 hj);have h3:(s.data.toList.getD j 0).toNat=bl j:=by simpa using h2
 subst hm;simp only [X1,hx,hi,h1,YY,h3];rw [Y7 (by omega)]
theorem Z3D {x s j:Nat} (h:bl x=s+bl j) (hs:s<=64) (hj:j<256):PV.val (.int .i64 (IntKind.i64.wrap ((s:Int)+IntKind.i64.wrap (bl j:Nat))))=.val (.int .i64 (bl x:Nat)):=by
 have:=Zin (k:=8) (x:=j) hj;rw [Y0v ((bl j:Nat):Int) ⟨by omega,by omega⟩,Y0v _ ⟨by omega,by omega⟩,h]
 rfl
theorem Zeq (x:Nat) (hx:x<18446744073709551616):X7 Tryz.prog 210 [.val (.int .u64 (x:Int))] (· = .val (.int .i64 (bl x:Nat))):=by
 refine Yp ok210 fun C hC=>?_;(refine go ?_;repeat' (apply B<;>intro hb<;>try cases hb))
 . rename_i h1 h2;have g1:=Z5S (b:=4294967296) h1;rw [X4c] at h2;have g2:=Z5S (b:=65536) h2;rw [X4c,X4X] at hb;have g3:=Z5S (b:=256) hb;refine Qo (Zjc rfl rfl (((x / 4294967296) / 65536) / 256) (by rw [X4c,X4X,fd8]; exact u8w (by omega)) (by omega) (by decide +kernel)) ?_;(refine go ?_;repeat' (apply B<;>intro hb<;>try cases hb));have q1:bl (x)=32+bl ((x) / 4294967296):=Z1v (k:=32) g1;have q2:bl (x / 4294967296)=16+bl ((x / 4294967296) / 65536):=Z1v (k:=16) g2;have q3:bl ((x / 4294967296) / 65536)=8+bl (((x / 4294967296) / 65536) / 256):=Z1v (k:=8) g3;exact Z4 rfl Yt (Z3D (s:=56) (j:=((x / 4294967296) / 65536) / 256) (by omega) (by decide) (by omega))
 . rename_i h1 h2;have g1:=Z5S (b:=4294967296) h1;rw [X4c] at h2;have g2:=Z5S (b:=65536) h2;rw [X4c,X4X] at hb;have g3:=Z5T (b:=256) hb;refine Qo (Zjc rfl rfl ((x / 4294967296) / 65536) (by rw [X4c,X4X]; exact u8w (by omega)) (by omega) (by decide +kernel)) ?_;refine go ?_;have q1:bl (x)=32+bl ((x) / 4294967296):=Z1v (k:=32) g1;have q2:bl (x / 4294967296)=16+bl ((x / 4294967296) / 65536):=Z1v (k:=16) g2;exact Z4 rfl Yt (Z3D (s:=48) (j:=(x / 4294967296) / 65536) (by omega) (by decide) (by omega))
 . rename_i h1 h2;have g1:=Z5S (b:=4294967296) h1;rw [X4c] at h2;have g2:=Z5T (b:=65536) h2;rw [X4c] at hb;have g3:=Z5S (b:=256) hb;refine Qo (Zjc rfl rfl ((x / 4294967296) / 256) (by rw [X4c,fd8]; exact u8w (by omega)) (by omega) (by decide +kernel)) ?_;refine go ?_;have q1:bl (x)=32+bl ((x) / 4294967296):=Z1v (k:=32) g1;have q3:bl (x / 4294967296)=8+bl ((x / 4294967296) / 256):=Z1v (k:=8) g3;exact Z4 rfl Yt (Z3D (s:=40) (j:=(x / 4294967296) / 256) (by omega) (by decide) (by omega))
 . rename_i h1 h2;have g1:=Z5S (b:=4294967296) h1;rw [X4c] at h2;have g2:=Z5T (b:=65536) h2;rw [X4c] at hb;have g3:=Z5T (b:=256) hb;refine Qo (Zjc rfl rfl (x / 4294967296) (by rw [X4c]; exact u8w (by omega)) (by omega) (by decide +kernel)) ?_;refine go ?_;have q1:bl (x)=32+bl ((x) / 4294967296):=Z1v (k:=32) g1;exact Z4 rfl Yt (Z3D (s:=32) (j:=x / 4294967296) (by omega) (by decide) (by omega))
 . rename_i h1 h2;have g1:=Z5T (b:=4294967296) h1;have g2:=Z5S (b:=65536) h2;rw [X4X] at hb;have g3:=Z5S (b:=256) hb;refine Qo (Zjc rfl rfl ((x / 65536) / 256) (by rw [X4X,fd8]; exact u8w (by omega)) (by omega) (by decide +kernel)) ?_;refine go ?_;have q2:bl (x)=16+bl ((x) / 65536):=Z1v (k:=16) g2;have q3:bl (x / 65536)=8+bl ((x / 65536) / 256):=Z1v (k:=8) g3;exact Z4 rfl Yt (Z3D (s:=24) (j:=(x / 65536) / 256) (by omega) (by decide) (by omega))
 . rename_i h1 h2;have g1:=Z5T (b:=4294967296) h1;have g2:=Z5S (b:=65536) h2;rw [X4X] at hb;have g3:=Z5T (b:=256) hb;refine Qo (Zjc rfl rfl (x / 65536) (by rw [X4X]; exact u8w (by omega)) (by omega) (by decide +kernel)) ?_;refine go ?_;have q2:bl (x)=16+bl ((x) / 65536):=Z1v (k:=16) g2;exact Z4 rfl Yt (Z3D (s:=16) (j:=x / 65536) (by omega) (by decide) (by omega))
 . rename_i h1 h2;have g1:=Z5T (b:=4294967296) h1;have g2:=Z5T (b:=65536) h2;have g3:=Z5S (b:=256) hb;refine Qo (Zjc rfl rfl (x / 256) (by rw [fd8]; exact u8w (by omega)) (by omega) (by decide +kernel)) ?_;refine go ?_;have q3:bl (x)=8+bl ((x) / 256):=Z1v (k:=8) g3;exact Z4 rfl Yt (Z3D (s:=8) (j:=x / 256) (by omega) (by decide) (by omega))
 . rename_i h1 h2;have g1:=Z5T (b:=4294967296) h1;have g2:=Z5T (b:=65536) h2;have g3:=Z5T (b:=256) hb;refine Qo (Zjc rfl rfl (x) (by exact u8w (by omega)) (by omega) (by decide +kernel)) ?_;refine go ?_;exact Z4 rfl Yt (Z3D (s:=0) (j:=x) ((YQ _).symm) (by decide) (by omega))
theorem ZkY {k x:Nat}:k<bl x↔2 ^ k<=x:=by
 constructor
 . intro h;rcases Y32 x (2 ^ k) with h1|h1
   . have:=Zin h1; omega
   . exact h1
 . intro h;rw [Z1v h];have h1:1<=x / 2 ^ k:=(Nat.one_le_div_iff (Y23 (by decide))).2 h;have h2:bl (x / 2 ^ k)=bl (x / 2 ^ k / 2)+1:=Z8M (by omega);omega
def X6o (N:Nat):Int:=if N=0 then 0 else (bl N:Int)-1
theorem Z8N (N:Nat) (hN:N<18446744073709551616):X7 Tryz.prog 277 [XH N] (· = .tup [.val (.int .i64 (X6o N)),.val (.bool (decide (N≠0)))]):=by
 rcases Z1f hN with⟨rfl,e1⟩|⟨h1,e1⟩
 all_goals
  refine Yp ok277 fun C hC=>?_;rw [e1];refine Zn ?_;refine Z8 ?_;refine Z5 rfl rfl rfl ?_;refine go ?_;refine Z6 (Ze6 _ hN) rfl rfl (by rw [e1]; rfl) ⟨Z9 _,Yt⟩ rfl ?_
 . refine go ?_;exact Z4 rfl (Z1x rfl) rfl
 . have hd : decide (N = 0) = false := Y0w h1;rw [hd];refine go ?_;refine Qe (Zeq N hN) ⟨Yt,Yt⟩ ?_;have hb:=Zin (k:=64) hN;have hp:=Z8M h1;refine go ?_;refine Z4 rfl (Z1x rfl) ?_;unfold X6o;rw [Y8 h1,YF h1];have w0:IntKind.i64.wrap (64*IntKind.i64.wrap (1-1))=0:=by decide
   have w1:IntKind.i64.wrap (0+(bl N:Int))=(bl N:Int):=by rw [Y41]; exact Y0v _ ⟨by omega,by omega⟩
   have w2:IntKind.i64.wrap ((bl N:Int)-1)=(bl N:Int)-1:=Y0v _ ⟨by omega,by omega⟩;show PV.tup [.val (.int .i64 (IntKind.i64.wrap (IntKind.i64.wrap (IntKind.i64.wrap (64*IntKind.i64.wrap (1-1))+(bl N:Int))-1))),.val (.bool true)]=_;rw [w0,w1,w2]
theorem Z6K (N:Nat) (hN:N<18446744073709551616) (i:Nat) (hi:i<64):X7 Tryz.prog 211 [XH N,Yv i] (· = .val (.bool (decide (N / 2 ^ (i+1)≠0)))):=by
 refine Yp ok211 fun C hC=>?_;refine Zn ?_;refine Z8 ?_;refine Z5 rfl rfl rfl ?_;refine go ?_;refine Qe (Z8N N hN) ⟨Z9 _,Yt⟩ ?_;have hdiv:N / 2 ^ (i+1)≠0↔2 ^ (i+1)<=N:=by
  rw [Ne,Nat.div_eq_zero_iff_lt (Y23 (by decide))];omega
 have hg:=ZkY (k:=i+1) (x:=N);by_cases h0:N=0
 . subst h0;rw [show decide ((0:Nat)≠0)=false from rfl];refine go ?_;exact Z4 rfl Yt (XO (by simp))
 . rw [YF (p := N ≠ 0) h0];have ht:X6o N=(bl N:Int)-1:=Y8 h0;rw [ht];(refine go ?_;repeat' (apply B<;>intro hb<;>try cases hb))
   all_goals
    refine Z4 rfl Yt (XO ?_);symm
   . rw [Y1q, hdiv, <- hg];have:(bl N:Int)-1>(i:Int):=by simpa using hb
     omega
   . rw [Y15, hdiv, <- hg];have:¬ (bl N:Int)-1>(i:Int):=by simpa using hb
     omega
theorem ZkZ {x:Nat} (hx:x<18446744073709551616) (h:x≠0):tz x<64:=Z7K hx (Z9S h)
theorem ZjP {a b:Nat} (ha:a<18446744073709551616) (hb:b<18446744073709551616) (hn:a≠b):X24 (key a) (key b)=(if a.testBit (tz (a ^^^ b)) then (if b / 2 ^ (tz (a ^^^ b)+1)=0 then 1 else -1) else (if a / 2 ^ (tz (a ^^^ b)+1)=0 then -1 else 1)):=Zgx 64 ha hb hn
theorem Zjd {a b:Nat} (hn:a≠b):a ^^^ b≠0:=fun h=>hn (YB fun i=>by
 have:(a ^^^ b).testBit i=false:=by rw [h]; simp
 rw [Y1K] at this
 cases h1:a.testBit i<;>cases h2:b.testBit i<;>simp_all)
theorem Zaa (N:Nat) (hN:N<18446744073709551616):(Xt N).getD 0 0=N:=by
 by_cases h:N=0
 . subst h; rw [ZK]; rfl
 . rw [Z62 hN h]; rfl
theorem Z53 (N M:Nat) (hN:N<18446744073709551616) (hM:M<18446744073709551616):X7 Tryz.prog 132 [XH N,XH M] (· = .val (.int .i64 (X24 (key N) (key M)))):=by
 have hxor:=bits_xor_u64_nat N M hN hM;have hxl:N ^^^ M<18446744073709551616:=Nat.xor_lt_two_pow (n:=64) hN hM;by_cases hz:N=0/\M=0
 . obtain ⟨rfl, rfl⟩ := hz;rw [Z2W];refine Yp ok132 fun C hC=>?_;refine Zn ?_;refine Z8 ?_;refine Z5 rfl rfl rfl ?_;refine Z5 rfl rfl rfl ?_;refine go ?_;refine Zh 0 ?_;refine go ?_;exact Z4 rfl Yt (by rw [Z6G]; rfl)
 . have hlen : max (Xt N).length (Xt M).length = 1 := by
    have h1:∀ x,x<18446744073709551616->(Xt x).length=if x=0 then 0 else 1:=fun x hx=>by
     by_cases h:x=0
     . subst h; rw [ZK]; rfl
     . rw [Z62 hx h,Y8 h]; rfl
    rw [h1 N hN,h1 M hM];by_cases h2:N=0<;>by_cases h3:M=0<;>simp_all
   refine Yp ok132 fun C hC=>?_;refine Zn ?_;refine Z8 ?_;refine Z5 rfl rfl rfl ?_;refine Z5 rfl rfl rfl ?_;refine go ?_;refine Z5i hC [(2,.cp [.vec (X8 (Xt N)) false]),(3,.cp [.vec (X8 (Xt M)) false]),(14,.val (.int .i64 1)),(15,.val (.int .i64 0))] [] (Y0l 0) ⟨⟨rfl,Z1b _ _,Yt⟩,⟨rfl,Z1b _ _,Yt⟩,⟨?_,Yt⟩,⟨rfl,Yt⟩,Yt⟩ Yt ?_
   . have h1 : (X8 (Xt N)).length = (Xt N).length := by simp [X8]
     have h2:(X8 (Xt M)).length=(Xt M).length:=by simp [X8]
     show some (PV.val (.int .i64 (if ((X8 (Xt M)).length:Int)>((X8 (Xt N)).length:Int) then ((X8 (Xt M)).length:Int) else ((X8 (Xt N)).length:Int))))=_;rw [h1,h2,show (if ((Xt M).length:Int)>((Xt N).length:Int) then ((Xt M).length:Int) else ((Xt N).length:Int))=1 by split<;>omega]
   refine Zh 1 ?_;refine go ?_;refine Qd (Z1i (Xt N) 0) ⟨Z9 N,Yt,Yt⟩ ?_;rw [Zaa N hN];refine go ?_;refine Qd (Z1i (Xt M) 0) ⟨Z9 M,Yt,Yt⟩ ?_;rw [Zaa M hM];refine Qr (Z2N rfl hxor) ?_;(refine go ?_;repeat' (apply B<;>intro hb<;>try cases hb))
   . have h0 : ((N ^^^ M : Nat) : Int) = 0 := by simpa using hb
     have hz:N=M:=Y1X fun hn=>Zjd hn (by omega);exact Z4 rfl Yt (by rw [hz,Z6G]; rfl)
   . have h0 : ¬ ((N ^^^ M : Nat) : Int) = 0 := by simpa using hb
     have hn:N≠M:=fun h=>h0 (by subst h; simp);have hx0:=Zjd hn;have ht:=ZkZ hxl hx0;have hbit:=Z9S hx0;rw [Y1K] at hbit;have hsg:=ZjP hN hM hn;refine Qe (ZfZ _ hxl hx0) ⟨Yt,Yt⟩ ?_;have hadd:IntKind.i64.wrap (IntKind.i64.wrap (64*0)+((tz (N ^^^ M):Nat):Int))=((tz (N ^^^ M):Nat):Int):=by
      rw [show IntKind.i64.wrap (64*0)=0 by decide,Y41];exact Y0v _ ⟨by omega,by omega⟩
     refine Qo (Z2N rfl hadd) ?_;generalize tz (N ^^^ M)=t at *;refine go ?_;refine Qd (Z2c N hN t) ⟨Z9 N,Yt,Yt⟩ ?_;rw [show (decide ((0:Int)<=(t:Int))&&N.testBit (t:Int).toNat)=N.testBit t by simp];refine go ?_;refine Qd (Z2c M hM t) ⟨Z9 M,Yt,Yt⟩ ?_;rw [show (decide ((0:Int)<=(t:Int))&&M.testBit (t:Int).toNat)=M.testBit t by simp];cases hN1:N.testBit t<;>cases hM1:M.testBit t<;>rw [hN1,hM1] at hbit<;>try cases hbit
     . rw [hN1] at hsg;refine go ?_;refine Qe (Z2c N hN t) ⟨Z9 N,Yt,Yt⟩ ?_;rw [show (decide ((0:Int)<=(t:Int))&&N.testBit (t:Int).toNat)=false by simp [hN1]];refine go ?_;refine Qe (Z2c M hM t) ⟨Z9 M,Yt,Yt⟩ ?_;rw [show (decide ((0:Int)<=(t:Int))&&M.testBit (t:Int).toNat)=true by simp [hM1]];refine go ?_;refine Qe (Z6K N hN t ht) ⟨Z9 N,Yt,Yt⟩ ?_;by_cases hd:N / 2 ^ (t+1)=0
       . rw [show decide (N / 2 ^ (t + 1) ≠ 0) = false by simp [hd]];refine go ?_;exact Z4 rfl Yt (by rw [hsg,Y8 (by decide),Y7 hd]; rfl)
       . rw [show decide (N / 2 ^ (t + 1) ≠ 0) = true by simp [hd]];refine go ?_;exact Z4 rfl Yt (by rw [hsg,Y8 (by decide),Y8 hd]; rfl)
     . rw [hN1] at hsg;refine go ?_;refine Qe (Z2c N hN t) ⟨Z9 N,Yt,Yt⟩ ?_;rw [show (decide ((0:Int)<=(t:Int))&&N.testBit (t:Int).toNat)=true by simp [hN1]];refine go ?_;refine Qe (Z6K M hM t ht) ⟨Z9 M,Yt,Yt⟩ ?_;by_cases hd:M / 2 ^ (t+1)=0
       . rw [show decide (M / 2 ^ (t + 1) ≠ 0) = false by simp [hd]];refine go ?_;refine Qe (Z2c M hM t) ⟨Z9 M,Yt,Yt⟩ ?_;rw [show (decide ((0:Int)<=(t:Int))&&M.testBit (t:Int).toNat)=false by simp [hM1]];refine go ?_;exact Z4 rfl Yt (by rw [hsg,Y7 rfl,Y7 hd]; rfl)
       . rw [show decide (M / 2 ^ (t + 1) ≠ 0) = true by simp [hd]];refine go ?_;exact Z4 rfl Yt (by rw [hsg,Y7 rfl,Y8 hd]; rfl)
attribute [local irreducible] X24 X2V in
theorem Z8O (a b:Cu) (ha:X4j a) (hb0:X4j b):X7 Tryz.prog 81 [cuP a,cuP b] (· = .val (.int .i64 (X5f a b))):=by
 refine Yp ok81 fun C hC=>?_;refine Zn ?_;refine Z8 ?_;refine Z5 rfl rfl rfl ?_;refine Z5 rfl rfl rfl ?_;refine go ?_;refine Qe (Z53 a.1 b.1 ha.1 hb0.1) ⟨Z9 _,Z9 _,Yt⟩ ?_;(refine go ?_;repeat' (apply B<;>intro hb<;>try cases hb))
 . have h : X24 (key a.1) (key b.1) ≠ 0 := by simpa using hb
   exact Z4 rfl Yt (by rw [X5f,Y7 h])
 . have h : ¬ X24 (key a.1) (key b.1) ≠ 0 := by simpa using hb
   refine Qe (Z53 a.2 b.2 ha.2 hb0.2) ⟨Z9 _,Z9 _,Yt⟩ ?_;refine go ?_;exact Z4 rfl Yt (by rw [X5f,Y8 h])
theorem Z2K {k:Int}:∀ {l:List Fm},(∀ a∈l,Xh k a=0)->XB k l=0
 | [],_=>rfl
 | a :: r,h=>by simp only [XB]; rw [Y7 (h a (by simp))]; exact Z2K fun b hb=>h b (by simp [hb])
theorem Z7U {w:Int}:∀ {l:List Fm},(∀ a∈l,Xx a.op=w/\X1G a=true)->X1Q w l=true
 | [],_=>rfl
 | a :: r, h => by
   simp only [X1Q];rw [YF (h a (by simp)).1,(h a (by simp)).2,Z7U fun b hb=>h b (by simp [hb])]
   rfl
theorem WfI.wf {op n:Int} {roles:List Int} {args:List Fm} (w:WfI op n roles args):Wf (.mk op n roles args):=by
 have key:∀ f:Fm,WfI f.op f.n f.roles f.args->Wf f:=by
  intro f w;have b1:X1m f=false:=by have:=w.lo; have:=w.hi; have:=w.ar; simp [X1m]; omega
  have b2:X1N f=false:=by have:=w.n0; have:=w.least; have:=w.most; simp [X1N]; omega
  have b3:X4Y f=false:=by have:=w.nlo; have:=w.nhi; simp [X4Y]; omega
  have b4:X14 f.roles=true:=YA.2 fun r hr=>by have:=w.rng r hr; simp; omega
  have hn:X1p f=0:=by simp [X1p,b1,b2,b3,b4,w.nd]
  refine⟨?_,?_⟩
  . rw [Z1k, Z5l, Y7 hn];exact Z2K fun a ha=>(w.arg a ha).1.1
  . rw [Z4L];exact Z7U fun a ha=>⟨(w.arg a ha).2,(w.arg a ha).1.2⟩
 exact key (.mk op n roles args) w
mutual
theorem Z7V (k:IntKind):∀ f:Fm,X1h (Xi k f)=Xi k f
 | .mk op n roles args => by
   simp only [Xi,X1h,PV.low];rw [Z6R k args];have:X13 (Xc roles)=Xc roles:=by simp [Xc,Z35,X1h,PV.low]
   rw [this]
theorem Z6R (k:IntKind):∀ l:List Fm,X13 (X1K k l)=X1K k l
 | []=>rfl
 | a :: r=>by simp only [X1K,X13]; rw [Z7V k a,Z6R k r]
end
theorem Z3h (k:IntKind) (f:Fm):X1h (fC k f)=Xi k f:=by rw [<- ZI,Z7V]
theorem Zew (l:List Int):X13 (Xc l)=Xc l:=by simp [Xc,Z35,X1h,PV.low]
def bys (l:List Nat):List (List PV):=l.map fun (x:Nat) => [.val (.int .u8 (x:Int))]
def X2S (l:List Nat):Prop:=∀ x∈l,x<=255
def X3g (l:List Nat) (fl:Bool) (t:Nat):Bx:=⟨2,[[.vec (bys l) fl,.val (.int .i64 (t:Int))]]⟩
theorem Z67 (l:List Nat):X2 (bys l):=Z2q _ _ fun _ _=>⟨Yt,Yt⟩
theorem ZQ (l:List Nat) (fl:Bool) (t:Nat):X2 (X3g l fl t).elems:=⟨⟨Z67 l,Yt,Yt⟩,Yt⟩
theorem Z68 (l:List Nat) (fl:Bool) (t:Nat) (D:Nat->Prop):XG D (X3g l fl t).elems:=Zc (fun _ h=>h.elim) _ (ZQ l fl t)
theorem Z6S (l:List Nat) (hl:X2S l) (fl:Bool) (t:Nat) (ht:t<=1099511627776):X15 Tryz.prog 104 (X3g l fl t) [] fun r b'=>∃ v:Nat,v<=255/\r=.val (.int .i64 (v:Int))/\b'=X3g l fl (t+1):=by
 refine ZE ok104 (Y0 rfl) fun C hC=>?_;have hll:(bys l).length=l.length:=by simp [bys]
 have hinc:IntKind.i64.wrap ((t:Int)+1)=((t+1:Nat):Int):=Y0v _ ⟨by omega,by omega⟩;have hdec:IntKind.i64.wrap (((t+1:Nat):Int)-1)=(t:Int):=by rw [show ((t+1:Nat):Int)-1=(t:Int) by omega]; exact Z37 _ (by omega)
 iterate 10 (first|refine st ?_|(apply B<;>intro hb<;>try cases hb))
 refine Ze rfl rfl rfl hinc ?_;(refine go ?_;repeat' (apply B<;>intro hb<;>try cases hb))
 . refine Z12 rfl Yt rfl (ZQ l fl (t+1)) ⟨0,by omega,rfl,rfl⟩
 . have htl : t < l.length := by simp [hll] at hb; omega
   rw [hdec];refine Qr (Zk (xs:=l) rfl rfl t rfl htl rfl) ?_;(refine go ?_;repeat' (apply B<;>intro hb<;>try cases hb));have hx:=hl l[t] (Y0j _);refine Z12 rfl Yt rfl (ZQ l fl (t+1)) ⟨l[t],hx,?_,rfl⟩;rw [Z37 _ (by omega)]
def ne6 (op:Int):Bool:=decide (op≠6)
theorem ZbY {op:Int}:ne6 op=true↔op≠6:=by unfold ne6; exact Y1q
def X64:List Int->Bool
 | []=>true
 | x :: r=>(r.all fun y=>decide (x<y))&&X64 r
theorem Z8W:∀ {l:List Int},X64 l=true↔l.Pairwise (· < ·)
 | []=>⟨fun _=>.nil,fun _=>rfl⟩
 | x :: r=>by simp only [X64,Y0k,YA,Y0n,Y1j,Z8W]
mutual
def in6 (k:Int):Fm->Bool
 | .mk op n roles args=>(decide (k=3)||ne6 op)&&(((n :: roles).all fun r=>decide (r<=6))&&X64 roles)&&X4U k args
def X4U (k:Int):List Fm->Bool
 | []=>true
 | a :: r=>in6 k a&&X4U k r
end
theorem Zak (k:Int) (f:Fm):in6 k f=((decide (k=3)||ne6 f.op)&&(((f.n :: f.roles).all fun r=>decide (r<=6))&&X64 f.roles)&&X4U k f.args):=by cases f; simp [in6,Fm.op,Fm.n,Fm.roles,Fm.args]
theorem Z41 {k op n:Int} {roles:List Int} (h1:k=3 \/ op≠6) (h2:∀ r∈roles,r<=6) (h3:n<=6:=by decide) (h4:roles.Pairwise (· < ·):=by first|exact .nil|exact Y3c _ _):in6 k (.mk op n roles [])=true:=by
 rw [Zak];simp only [Fm.op,Fm.n,Fm.roles,Fm.args,X4U,Y2h,Y0k,YO,Y0n,ZbY,YA];exact⟨h1,fun r hr=>(Ye.1 hr).elim (fun e=>e▸h3) (h2 r),Z8W.2 h4⟩
theorem Zdn {k op:Int} {args:List Fm} (h1:op≠6) (h2:X4U k args=true):in6 k (.mk op 0 [] args)=true:=by
 rw [Zak];simp only [Fm.op,Fm.n,Fm.roles,Fm.args,Y4x,List.all_nil,Y2h,Y0k,YO,Y0n,ZbY];exact⟨⟨.inr h1,by decide,rfl⟩,h2⟩
def X3k (k ty:Int) (l:List Nat) (fl:Bool) (d t:Nat) (r:PV) (b':Bx):Prop :=
 ∃ (f:Fm) (t':Nat),Wf f/\Xx f.op=ty/\f.depth<=d/\f.size+1<=2 ^ d/\r=.agg (fC .i64 f)/\b'=X3g l fl t'/\t'+1<=t+2 ^ (d+1)/\in6 k f=true
theorem ZgG {op n:Int} {roles:List Int}:(Fm.mk op n roles []).size=1:=by simp [Fm.size,X1b]
theorem Zex {op n:Int} {roles:List Int}:(Fm.mk op n roles []).depth=1:=by simp [Fm.depth,XU]
theorem Z32 {k ty:Int} {l:List Nat} {fl:Bool} {d t t':Nat} {op n:Int} {roles:List Int} (hd:1<=d) (w:WfI op n roles []) (hty:Xx op=ty) (ht:t'<=t+2) (hi:in6 k (.mk op n roles [])=true):X3k k ty l fl d t (.agg (fC .i64 (.mk op n roles []))) (X3g l fl t'):=by
 have h2:2<=2 ^ d:=by
  have:=Y1f (n:=2) (by omega) hd;simpa using this
 refine⟨.mk op n roles [],t',w.wf,hty,by rw [Zex]; exact hd,by rw [ZgG]; exact h2,rfl,rfl,?_,hi⟩;rw [YU]; omega
theorem Z8X {k ty:Int} {l:List Nat} {fl:Bool} {d t t1 t2:Nat} {op:Int} {x y:Fm} (hd:1<=d) (hop:8<=op) (hop':op<=16) (wx:Wf x) (tx:Xx x.op=X1J op) (wy:Wf y) (tyy:Xx y.op=X1J op) (hty:Xx op=ty)
 (dx:x.depth<=d) (dy:y.depth<=d) (sx:x.size+1<=2 ^ d) (sy:y.size+1<=2 ^ d) (h1:t1+1<=t+1+2 ^ (d+1)) (h2:t2+1<=t1+2 ^ (d+1)) (ix:in6 k x=true) (iy:in6 k y=true):X3k k ty l fl (d+1) t (.agg (fC .i64 (.mk op 0 [] [x,y]))) (X3g l fl t2):=by
 have w:WfI op 0 [] [x,y]:=by
  refine⟨by omega,hop',?_,fun _=>rfl,?_,?_,by decide,by decide,fun r hr=>(by cases hr),by simp,fun a ha=>?_⟩
  . rw [Xl,Y7 hop]; rfl
  . simp only [X1r,Y1u]; rw [Y8 (by omega),Y8 (by omega)]; decide
  . simp only [X19,Y1u]; rw [Y8 (by omega),Y8 (by omega)]; decide
  . simp at ha;rcases ha with rfl|rfl
    . exact⟨wx,tx⟩
    . exact⟨wy,tyy⟩
 refine⟨_,t2,w.wf,hty,by rw [Z4O]; omega,by rw [Z61,YU]; omega,rfl,rfl,?_,Zdn (by omega) (by simp [X4U,ix,iy])⟩;rw [YU (n:=2) (m:=d+1)];omega
theorem Z1F {rs:List X2o} {e:Env} {h:X0} {k ty:Int} {l:List Nat} {fl:Bool} {d t t':Nat} {r:PV} {f:Fm} (hr:XW rs e h=some r) (hlow:r.low=.agg (fC .i64 f)) (hb:h 0=some (X3g l fl t')) (hR:X3k k ty l fl d t (.agg (fC .i64 f)) (X3g l fl t')) :
 ∃ r0 r,XW rs e h=some r0/\LoP r0 r/\∃ b',h 0=some b'/\r.pure/\X2 b'.elems/\X3k k ty l fl d t r b' :=
 Z3b hr (by rw [hlow]; exact Zl _ _) hb (ZQ l fl t') (by rw [hlow]; exact hR)
theorem ZgH (v:Nat) (k m:Int) (hk:0<k) (hm:1<=m):0<=((v:Int).tdiv k).tmod m/\((v:Int).tdiv k).tmod m<m:=by
 have h1:(v:Int).tdiv k=(v:Int) / k:=Y2j (by omega);have h0:0<=(v:Int) / k:=Int.ediv_nonneg (by omega) (by omega);have h2:((v:Int).tdiv k).tmod m=((v:Int) / k) % m:=by rw [h1,Y12 h0]
 rw [h2];exact⟨Int.emod_nonneg ((v:Int) / k) (by omega),Int.emod_lt_of_pos ((v:Int) / k) (by omega)⟩
theorem Z8Y (v:Nat) (hv:v<=255) (k:Int) (hk:0<k):IntKind.i64.wrap ((v:Int).tdiv k)=(v:Int).tdiv k:=by
 have h1:(v:Int).tdiv k=(v:Int) / k:=Y2j (by omega);rw [h1];have h2:=Int.ediv_le_self k (show 0<=(v:Int) by omega);have h3:0<=(v:Int) / k:=Int.ediv_nonneg (by omega) (by omega);exact Y0v _ ⟨by omega,by omega⟩
structure Asc (acc:List Int) (k:Nat):Prop where
 len:acc.length<=k
 rng:∀ r∈acc,1<=r/\r<=(k:Int)
 asc:acc.Pairwise (· < ·)
theorem Asc.nd {acc:List Int} {k:Nat} (h:Asc acc k):acc.Nodup:=h.asc.imp fun {a b} hab=>by omega
theorem Asc.snoc {acc:List Int} {k:Nat} (h:Asc acc k):Asc (acc ++ [((k+1:Nat):Int)]) (k+1):=by
 refine⟨by simp; exact h.len,fun r hr=>?_,?_⟩
 . rcases Y0h.1 hr with hr | hr
   . have:=h.rng r hr; omega
   . rw [Y0g.1 hr]; omega
 . rw [Y2L];refine⟨h.asc,by simp,fun a ha b hb=>?_⟩;have:=h.rng a ha;rw [Y0g.1 hb];omega
theorem Asc.skip {acc:List Int} {k:Nat} (h:Asc acc k):Asc acc (k+1):=⟨by have:=h.len; omega,fun r hr=>by have:=h.rng r hr; omega,h.asc⟩
theorem Ziu {roles:List Int} {m:Nat} (hm:m<=8) (h:Asc roles m) (h0:roles≠[]):WfI 5 0 roles []:=by
 have:=Y1N.2 h0;have hl:=h.len;exact⟨by decide,by decide,rfl,fun _=>rfl,by simp [X1r]; omega,by simp [X19]; omega,by decide,by decide,fun r hr=>by have:=h.rng r hr; omega,h.nd,fun a ha=>by cases ha⟩
theorem ZgI {op r:Int} {m:Nat} (hop:op=4 \/ op=5 \/ op=6) (hm:m<=8) (h1:1<=r) (h2:r<=m):WfI op 0 [r] []:=by
 refine⟨by omega,by omega,?_,fun _=>rfl,?_,?_,by decide,by decide,fun x hx=>?_,by simp,fun a ha=>by cases ha⟩
 . rcases hop with rfl|rfl|rfl<;>rfl
 . rcases hop with rfl|rfl|rfl<;>simp [X1r]
 . rcases hop with rfl|rfl|rfl<;>simp [X19]
 . rw [Y0g.1 hx]; omega
theorem Z5K (l:List Nat) (hl:X2S l) (fl:Bool) (k:Int):∀ (d:Nat),1<=d->∀ (t:Nat),t+2 ^ (d+1)<=1099511627776 ->
 X15 Tryz.prog 175 (X3g l fl t) [.val (.int .i64 (d:Int)),.val (.int .i64 k),.val (.int .i64 6)] (X3k k 2 l fl d t):=by
 intro d
 induction d with
 | zero=>intro h; omega
 | succ d ih =>
   intro _ t ht;have hp2:2 ^ (d+1+1)=2*2 ^ (d+1):=by rw [YU]; omega
   refine ZE ok175 (Y0 rfl) fun C hC=>?_;(refine go ?_;repeat' (apply B<;>intro hb<;>try cases hb));refine Zb (Z6S l hl fl t (by omega)) rfl rfl rfl rfl (ZQ l fl t) Yt ?_;rintro r b' - - ⟨v,hv,rfl,rfl⟩;have hdec:IntKind.i64.wrap (((d+1:Nat):Int)-1)=(d:Int):=by rw [show ((d+1:Nat):Int)-1=(d:Int) by omega]; exact Z37 _ (by have:=Y3D (n:=d+1+1);omega)
   have hpt:=Y30 (show 2 ^ (d+1)≠0 from fun h=>by simp at h);(first|refine st ?_|(apply B<;>intro hb<;>try cases hb));(first|refine st ?_|(apply B<;>intro hb<;>try cases hb));refine Z2g hC True 2 [(0,.ptr 0 0 0),(2,.val (.int .i64 k)),(3,.val (.int .i64 6)),(8,.ptr 1 0 0),(9,.val (.int .i64 (v:Int)))] [(0,X3g l fl (t+1)),(1,⟨4,[[.val (.int .i64 0),.val (.int .i64 0),.vec [] true,.vec [] true]]⟩)] (by omega) ?_ fun _=>?_
   . have cut : ∀ {P : Prop}, P -> P := fun h => h;have done:(True/\True):=⟨Yt,Yt⟩
     (refine go ?_;repeat' (apply B<;>intro hb<;>try cases hb))
     . have hd1 : 1 <= d := by
        rename_i h1;simp at h1; omega
       refine Zb (ih hd1 (t+1) (by omega)) rfl rfl (by show [_,_,_,_]=_; rw [hdec]) rfl (ZQ l fl _) ⟨Yt,Yt,Yt,Yt⟩ ?_;rintro r b' - - ⟨x,t1,wx,tx,dx,sx,rfl,rfl,ht1,ix⟩;(refine go ?_;repeat' (apply B<;>intro hb<;>try cases hb));refine Zb (ih hd1 t1 (by omega)) rfl rfl (by show [_,_,_,_]=_; rw [hdec]) rfl (ZQ l fl _) ⟨Yt,Yt,Yt,Yt⟩ ?_;rintro r b' - - ⟨y,t2,wy,ty,dy,sy,rfl,rfl,ht2,iy⟩;(refine go ?_;repeat' (apply B<;>intro hb<;>try cases hb));refine Z1F (f:=.mk 16 0 [] [x,y]) rfl ?_ rfl (Z8X hd1 (by decide) (by decide) wx tx wy ty rfl dx dy sx sy ht1 ht2 ix iy);show PV.agg [_,_,_,.vec [X1h (fC .i64 x),X1h (fC .i64 y)] false]=_;rw [Z3h,Z3h]
       rfl
     all_goals exact⟨Yt,⟨⟨rfl,show (0:Nat)<2 by decide⟩,⟨rfl,Yt⟩,⟨rfl,Yt⟩,⟨rfl,show (1:Nat)<2 by decide⟩,⟨rfl,Yt⟩,Yt⟩,⟨⟨by omega,rfl,Z68 _ _ _ _⟩,⟨by omega,rfl,⟨Yt,Yt,Yt,Yt,Yt⟩,Yt⟩,Yt⟩⟩
   have hq:=Z8Y v hv 3 (by decide);obtain⟨hn1,hn2⟩:=ZgH v 3 4 (by decide) (by decide);obtain⟨hr1,hr2⟩:=ZgH v 3 6 (by decide) (by decide);have hrw:IntKind.i64.wrap (1+((v:Int).tdiv 3).tmod 6)=1+((v:Int).tdiv 3).tmod 6:=Y0v _ ⟨by omega,by omega⟩;(refine go ?_;repeat' (apply B<;>intro hb<;>try cases hb))
   . rw [hq];refine Z1F (f:=.mk 1 (((v:Int).tdiv 3).tmod 4) [] []) rfl rfl rfl (Z32 (by omega) ?_ rfl (by omega) (Z41 (.inr (by decide)) (fun r hr=>by cases hr) (by omega)));exact⟨by decide,by decide,rfl,fun h=>absurd rfl h,by decide,by decide,by omega,by omega,fun r hr=>(by cases hr),by simp,fun a ha=>by cases ha⟩
   . rw [hq, hrw];exact Z1F (f:=.mk 6 0 [1+((v:Int).tdiv 3).tmod 6] []) rfl rfl rfl (Z32 (by omega) (ZgI (m:=6) (.inr (.inr rfl)) (by decide) (by omega) (by omega)) rfl (by omega) (Z41 (.inl (by simpa using hb)) fun r hr=>by rw [Y0g.1 hr];omega))
   refine Zb (Z6S l hl fl (t+1) (by omega)) rfl rfl rfl rfl (ZQ l fl (t+1)) Yt ?_;rintro r b' - - ⟨u,hu,rfl,rfl⟩
   iterate 5 (first|refine st ?_|(apply B<;>intro hb<;>try cases hb))
   refine Zm (Z1w (id:=2) (i0:=0) (j0:=2) rfl (by decide) (by decide) rfl 1 (by decide) (by decide)) ?_;(refine go ?_;repeat' (apply B<;>intro hb<;>try cases hb));refine Z1n hC (fun (x:Nat×List Int)=>x.1<=6/\Asc x.2 x.1) (fun x=>6-x.1) 4 (fun x => [(0,.ptr 0 0 0),(3,.val (.int .i64 6)),(8,.ptr 1 0 0),(9,.val (.int .i64 (v:Int))),(12,.ptr 2 0 0),(13,.val (.int .i64 (u:Int))),(14,.val (.int .i64 ((x.1+1:Nat):Int)))])
    (fun x => [(0,X3g l fl (t+1+1)),(1,⟨4,[[.val (.int .i64 0),.val (.int .i64 0),.vec [] true,.vec [] true]]⟩),(2,⟨4,[[.val (.int .i64 5),.val (.int .i64 0),.own 3,.vec [] true]]⟩),(3,⟨1,Xc x.2⟩)]) (by omega) (0,[]) ⟨by omega,by simp,fun r hr=>(by cases hr),by simp⟩ (fun i=>i) (fun _ _=>rfl) Z1a
    ⟨Qt 0 0 0,Qp Yt,Qt 1 0 0,Qp Yt,Qt 2 0 0,Qp Yt,Qp Yt,Yt⟩
    ⟨⟨by omega,_,rfl,.same _ (ZQ _ _ _)⟩,⟨by omega,_,rfl,.same _ ⟨⟨Yt,Yt,Yt,Yt,Yt⟩,Yt⟩⟩,⟨by omega,_,rfl,X1w.single ⟨.pure _ Yt,.pure _ Yt,.own 3 (by decide),.pure _ Yt,Yt⟩ rfl⟩,⟨by omega,_,rfl,.same _ Yt⟩,Yt⟩ ?_
   rintro⟨j,acc⟩ ⟨hj,hasc⟩;simp only at hj hasc;have hj1:IntKind.i64.wrap (((j+1:Nat):Int)-1)=(j:Int):=by rw [show ((j+1:Nat):Int)-1=(j:Int) by omega]; exact Z37 _ (by omega)
   have hinc:IntKind.i64.wrap (((j+1:Nat):Int)+1)=((j+1+1:Nat):Int):=Y0v _ ⟨by omega,by omega⟩
   iterate 4 (first|refine st ?_|(apply B<;>intro hb<;>try cases hb))
   (first|refine st ?_|(apply B<;>intro hb<;>try cases hb));refine Zx rfl rfl rfl (fun hb=>?_) (fun hb=>?_)
   . have hj6 : j + 1 <= 6 := by simp at hb; omega
     clear hb
     iterate 9 (first|refine st ?_|(apply B<;>intro hb<;>try cases hb))
     refine Ze rfl rfl rfl hj1 ?_;(refine go ?_;repeat' (apply B<;>intro hb<;>try cases hb))
     . refine ZB (Z11 (k := 3) (m := Xc [((j + 1 : Nat) : Int)]) (fl := true) rfl rfl rfl (fun c hc => by obtain ⟨x, _, rfl⟩ := Y0i.1 hc; rfl) rfl (by
        have:=hasc.len;show ((Xc acc).length+(Xc [((j+1:Nat):Int)]).length)*8<=_;rw [Z19,Z19,Y0s]
        omega)) rfl rfl ?_
       have happ:Xc acc++Xc [((j+1:Nat):Int)]=Xc (acc ++ [((j+1:Nat):Int)]):=by simp [Xc]
       simp only;rw [happ];(refine go ?_;repeat' (apply B<;>intro hb<;>try cases hb))
       refine⟨(j+1,acc ++ [((j+1:Nat):Int)]),mv 3 4,⟨hj6,hasc.snoc⟩,by simp only; omega,Z3y (by decide),ZhV (by simp),
        ⟨Qt 0 0 0,Qp Yt,Qt 1 0 0,Qp Yt,Qt 2 0 0,Qp Yt,⟨_,by show some _=some _; rw [hinc],.pure _ Yt⟩,Yt⟩,
        ⟨⟨by omega,_,rfl,.same _ (ZQ _ _ _)⟩,⟨by omega,_,rfl,.same _ ⟨⟨Yt,Yt,Yt,Yt,Yt⟩,Yt⟩⟩,⟨by omega,_,rfl,X1w.single ⟨.pure _ Yt,.pure _ Yt,.own 3 (by decide),.pure _ Yt,Yt⟩ rfl⟩,⟨by omega,_,rfl,.same _ (Zf _)⟩,Yt⟩⟩
     . refine ⟨(j + 1, acc), fun i => i, ⟨hj6, hasc.skip⟩, by simp only; omega, fun _ _ => rfl, Z1a,
        ⟨Qt 0 0 0,Qp Yt,Qt 1 0 0,Qp Yt,Qt 2 0 0,Qp Yt,⟨_,by show some _=some _; rw [hinc],.pure _ Yt⟩,Yt⟩,
        ⟨⟨by omega,_,rfl,.same _ (ZQ _ _ _)⟩,⟨by omega,_,rfl,.same _ ⟨⟨Yt,Yt,Yt,Yt,Yt⟩,Yt⟩⟩,⟨by omega,_,rfl,X1w.single ⟨.pure _ Yt,.pure _ Yt,.own 3 (by decide),.pure _ Yt,Yt⟩ rfl⟩,⟨by omega,_,rfl,.same _ (Zf _)⟩,Yt⟩⟩
   . have hj6 : j = 6 := by simp at hb; omega
     subst hj6;clear hb;have hlow:X13 (Xc acc)=Xc acc:=Zew acc
     iterate 9 (first|refine st ?_|(apply B<;>intro hb<;>try cases hb))
     refine Zx rfl rfl rfl (fun hb=>?_) (fun hb=>?_)
     . (refine go ?_;repeat' (apply B<;>intro hb<;>try cases hb));rw [hq,hrw];refine Z1F (f:=.mk 5 0 [1+((v:Int).tdiv 3).tmod 6] []) rfl rfl rfl (Z32 (by omega) (ZgI (m:=6) (.inr (.inl rfl)) (by decide) (by omega) (by omega)) rfl (by omega) (Z41 (.inr (by decide)) fun r hr=>by rw [Y0g.1 hr];omega))
     . have hne : acc ≠ [] := by
        rintro rfl;simp [Xc] at hb
       iterate 6 (first|refine st ?_|(apply B<;>intro hb<;>try cases hb))
       refine Zm (Z5G (k:=87) (id:=3) (b:=⟨1,Xc acc⟩) rfl rfl (Zf acc) (X3Z.agg (id:=3) (l:=Xc acc) (xs := [.val (.int .i64 5),.val (.int .i64 0),.own 3,.vec [] true]) (ys := [.val (.int .i64 5),.val (.int .i64 0),.vec (Xc acc) false,.vec [] true]) ⟨.pure _ Yt,.pure _ Yt,.own,.pure _ Yt,Yt⟩)) ?_;(refine go ?_;repeat' (apply B<;>intro hb<;>try cases hb));refine Z1F (f:=.mk 5 0 acc []) rfl ?_ rfl (Z32 (by omega) (Ziu (m:=6) (by decide) hasc hne) rfl (by omega) (Z41 (.inr (by decide)) (fun r hr=>(hasc.rng r hr).2) (by decide) hasc.asc));show PV.agg [_,_,.vec (X13 (Xc acc)) false,_]=_;rw [hlow]
       rfl
end
end Go.Proofs.YtgpjedjgmpienaaGreatDoor
