/-
  Merged from the texts that this claim's theorem needs, part 3 of 8. No statement of the seat is proved here.
-/
import Derived.Carry
import Derived.KernelRfl
import Derived.LaidMore
import Derived.LoopNIn
import Derived.OpenShut
import Derived.ProofKit
import Derived.SizedLaws
import Derived.Test.YtmnbbggaoembeaaGreatDoorChecked
import Derived.Test.YtmnbbggaoembeaaGreatDoorRows
import Derived.Test.YtmnbbggaoembeaaGreatDoorMq1
set_option linter.unusedSimpArgs false
set_option linter.unusedVariables false
set_option linter.unusedSectionVars false
namespace Go.Proofs.YtmnbbggaoembeaaGreatDoor
open Go.RowKit
inductive ARes where
 | tmp (t:Nat)
 | cell (t:Nat) (agg:Bool) (size:Nat)
def cRes (P:Program):ResultVar→Option ARes
 | .tmp t=>some (.tmp t)
 | .cell a t => match layOf P t with
   | some l=>some (.cell a l.1 l.2)
   | none=>none
def cRess (P:Program):List ResultVar→Option (List ARes)
 | []=>some []
 | r :: l => match cRes P r, cRess P l with
   | some x,some xs=>some (x :: xs)
   | _,_=>none
def retV (e:Env) (h:Heap):ARes→Option PV
 | .tmp t=>e t
 | .cell a agg size => match dEval (.load agg size (.tmp a)) e h 0 with
   | some (p,_)=>some p
   | none=>none
def retVs (e:Env) (h:Heap):List ARes→Option (List PV)
 | []=>some []
 | r :: l => match retV e h r, retVs e h l with
   | some x,some xs=>some (x :: xs)
   | _,_=>none
def retAll (rs:List ARes) (e:Env) (h:Heap):Option PV :=
 match retVs e h rs with
 | some [p]=>some p
 | some l=>some (.tup l)
 | none=>none
def retQ (rs:List ARes) (R:PV→Prop):Exit→Nat→Env→Heap→Prop
 | .normal,_,e,h=>∃ r0 r,retAll rs e h=some r0∧LoP r0 r∧r.pure∧R r
 | .ret,_,e,h=>∃ r0 r,retAll rs e h=some r0∧LoP r0 r∧r.pure∧R r
 | _,_,_,_=>False
def FnOk (P:Program) (f nt:Nat) (ac:ACode) (rs:List ARes):Prop :=
 P.follows .mixedOrders = true∧∃ fn c,P.funcs[f]? = some fn∧(fn.name == "runtime.NumGoroutine") = false∧fn.body = some c∧fn.ntmps = nt∧cCode P nt c = some ac∧cRess P fn.results.toList = some rs
def codeOf (P:Program) (nt:Nat):Option Code→Option ACode
 | some c=>cCode P nt c
 | none=>none
theorem Z7 {P : Program} {f nt : Nat} {fn : Func} {ac : ACode} {rs : List ARes} (hm : P.follows .mixedOrders = true) (hf : P.funcs[f]? = some fn) (hn : (fn.name == "runtime.NumGoroutine") = false) (hnt : fn.ntmps = nt) (hc : codeOf P nt fn.body = some ac) (hr : cRess P fn.results.toList = some rs) : FnOk P f nt ac rs := by
 refine⟨hm,fn,?_⟩
 cases hb:fn.body with
 | none=>rw [hb] at hc; cases hc
 | some c=>exact⟨c,hf,hn,rfl,hnt,by rw [hb] at hc; exact hc,hr⟩
def Ctx.dom (C:Ctx) (n:Nat):Prop:=∀ i,n≤i→C.φ0 i=none
def argEnv (args:List PV):Env:=fun k=>args[k]?
section
variable {P:Program} {C:Ctx} {Fr:Nat→Prop} {e:Env} {h:Heap} {F:Froz} {φ:Locs} {a:Act} {w:World}
theorem Ze8 (s:St' C Fr e h F φ a w) {id:Nat} {t:TypeId} {agg:Bool} {size:Nat} (hlay:layOf P t=some (agg,size)) {x:Operand} {p:PV} {h':Heap} (hd:dEval (.load agg size x) e h id=some (p,h')) :
 ∃ ad val,a.eval x=.pointer (some ad)∧(loadVar t ad).run P w=.ok val w∧Rep F φ val p:=by
 simp only [dEval] at hd
 split at hd
 · rename_i l hl
   split at hd
   · rename_i q hq
     cases hd
     obtain⟨ad,hv,hs,hc⟩:=frozCells s (s.eval hl)
     have hle:=Z52 hq
     obtain⟨val,hr,hrep⟩:=Z3P (w:=w) hlay hs hq (fun j hj=>by simpa using hc j (by omega))
     exact⟨ad,val,hv,hr,hrep⟩
   · simp at hd
 · rename_i k i off hl
   split at hd
   · rename_i b hb
     split at hd
     case isFalse=>simp at hd
     rename_i hi
     split at hd
     · rename_i q hq
       cases hd
       obtain⟨loc,ad,hloc,hz,hbase,hs,hv⟩:=(s.eval hl).ptr_inv
       have hle:=Z52 hq
       obtain⟨loc',h1,h2,_⟩:=s.live k b hb
       obtain rfl:loc'=loc:=by rw [h1] at hloc; simpa using hloc
       have h2:=h2.cells hz
       have hel:(b.elems.getD i []).length=b.esz:=by
        rw [h2.esz]
        refine h2.el _ ?_
        simp [List.getD_eq_getElem?_getD,hi]
       obtain⟨val,hr,hrep⟩:=Z3P (w:=w) (ad:=⟨ad.block,ad.off+(i*loc'.esz+off),none⟩) hlay rfl hq (fun j hj=>by
        have:=s.objCell hb hloc hi (j:=off+j) (by omega) hbase
        rw [show ad.off+(i*loc'.esz+(off+j))=ad.off+(i*loc'.esz+off)+j by omega] at this
        exact this)
       exact⟨_,val,hv,hr,hrep⟩
     · simp at hd
   · simp at hd
 · simp at hd
def resOne (P:Program) (tmps:Array Value):ResultVar→Sem Value
 | .tmp t=>Pure.pure (tmps.getD t undef)
 | .cell a t=>do loadVar t (← asAddr (tmps.getD a undef))
theorem Ze9 (s:St' C Fr e h F φ a w) {r:ResultVar} {x:ARes} (hr:cRes P r=some x) {p:PV} (hp:retV e h x=some p):∃ v,(resOne P a.tmps r).run P w=.ok v w∧Rep F φ v p:=by
 cases r with
 | tmp t =>
   obtain rfl:ARes.tmp t=x:=by simpa [cRes] using hr
   exact⟨_,rfl,(s.env t p hp).2⟩
 | cell c t =>
   simp only [cRes] at hr
   split at hr
   · rename_i l hl
     obtain rfl:ARes.cell c l.1 l.2=x:=by simpa using hr
     simp only [retV] at hp
     split at hp
     · rename_i q h' hq
       cases hp
       obtain⟨ad,val,hv,hrun,hrep⟩:=Ze8 (P:=P) s hl hq
       have hv':a.tmps.getD c undef=.pointer (some ad):=hv
       exact⟨val,by simp [resOne,hv',asAddr,hrun],hrep⟩
     · simp at hp
   · simp at hr
theorem Zcq (s:St' C Fr e h F φ a w):∀ {rs:List ResultVar} {xs:List ARes} {ps:List PV},cRess P rs=some xs→retVs e h xs=some ps→∃ vs:List Value,(rs.mapM (resOne P a.tmps)).run P w=.ok vs w∧vs.length=ps.length∧∀ i,i<ps.length→Rep F φ (vs.getD i undef) (ps.getD i pvu):=by
 intro rs
 induction rs with
 | nil =>
   intro xs ps hx hp
   obtain rfl : []=xs:=by simpa [cRess] using hx
   obtain rfl : []=ps:=by simpa [retVs] using hp
   exact⟨[],rfl,rfl,fun i hi=>by simp at hi⟩
 | cons r rs ih =>
   intro xs ps hx hp
   simp only [cRess] at hx
   split at hx
   case h_2=>simp at hx
   rename_i x xs' h1 h2
   obtain rfl:x :: xs'=xs:=by simpa using hx
   simp only [retVs] at hp
   split at hp
   case h_2=>simp at hp
   rename_i p ps' h3 h4
   obtain rfl:p :: ps'=ps:=by simpa using hp
   obtain⟨v,hv,hrep⟩:=Ze9 s h1 h3
   obtain⟨vs,hvs,hl,hreps⟩:=ih h2 h4
   refine⟨v :: vs,by simp [hv,hvs],by simp [hl],fun i hi=>?_⟩
   cases i with
   | zero=>simpa using hrep
   | succ i=>simpa using hreps i (by simpa using hi)
theorem Z6c (fn:Func) (tmps:Array Value):results fn tmps=(do let vs ← fn.results.mapM (resOne P tmps); Pure.pure (if h:vs.size=1 then vs[0] else .tuple vs)):=by
 unfold results
 congr 1
theorem Z6d (s:St' C Fr e h F φ a w) {fn:Func} {rs:List ARes} (hr:cRess P fn.results.toList=some rs) {p:PV} (hp:retAll rs e h=some p):∃ v,(results fn a.tmps).run P w=.ok v w∧Rep F φ v p:=by
 unfold retAll at hp
 have main:∀ ps,retVs e h rs=some ps→∃ vs:List Value,(fn.results.mapM (resOne P a.tmps)).run P w=.ok vs.toArray w∧vs.length=ps.length∧∀ i,i<ps.length→Rep F φ (vs.getD i undef) (ps.getD i pvu):=by
  intro ps hps
  obtain⟨vs,h1,h2,h3⟩:=Zcq s hr hps
  exact⟨vs,by rw [Array.mapM_eq_mapM_toList]; simp [h1],h2,h3⟩
 split at hp
 · rename_i q hq
   cases hp
   obtain⟨vs,h1,h2,h3⟩:=main _ hq
   obtain⟨v,rfl⟩:∃ v,vs = [v]:=by
    cases vs with
    | nil=>simp at h2
    | cons v r => cases r with
      | nil=>exact⟨v,rfl⟩
      | cons _ _=>simp at h2
   exact⟨v,by rw [Z6c (P:=P),Sem.run_bind,h1]; simp,by simpa using h3 0 (by simp)⟩
 · rename_i ps hne hq
   cases hp
   obtain⟨vs,h1,h2,h3⟩:=main _ hq
   refine⟨.tuple vs.toArray,?_,.tup _ _ (by simp [h2]) fun i hi=>?_⟩
   · have hne1 : vs.length ≠ 1 := by
      intro hl
      rw [hl] at h2
      cases ps with
      | nil=>simp at h2
      | cons p r => cases r with
        | nil=>exact hne p rfl
        | cons _ _=>simp at h2
     rw [Z6c (P:=P),Sem.run_bind,h1]
     simp [hne1]
   · have := h3 i hi
     simpa [Array.getD_eq_getD_getElem?,List.getD_eq_getElem?_getD] using this
 · simp at hp
theorem St'.turned (s:St' C Fr e h F φ a w) {w':World} {row:Option Nat} (hg:w.grownBy w' row) (hrow:∀ r,row=some r→C.w0.heap.size≤r∧∃ o:Obj,w.heap[r]?=some o∧o.isCells=false) (hrm:(∀ i b,h i=some b→0<b.esz) ∨ ∀ r es t,row=some r→¬ w.heap[r]?=some (.map es t)) {a':Act} (ht:a'.tmps=a.tmps) (hm:Marks C.w0.heap.size a' w'):St' C Fr e h F φ a' w':=by
 have hrow':∀ r,row=some r→∃ o:Obj,w.heap[r]?=some o∧o.isCells=false:=fun r hr=>(hrow r hr).2
 refine { nt := by rw [ht]; exact s.nt, glob := s.glob, marks := hm, loc0 := s.loc0, free := s.free, env := fun k p hp => by rw [ht]; exact s.env k p hp, froz := fun x v hx => ?_, ext := s.ext, old := s.old, os := hg.os.trans s.os, tape := hg.tape.trans s.tape, output := hg.output.trans s.output,
          size:=Nat.le_trans s.size hg.size,kept:=fun k hk hG=>?_,live:=fun i b hb=>?_,sep:=s.sep }
 · obtain ⟨h1, h2, h3⟩ := s.froz x v hx
   exact⟨h1,h2,cell_kept h3 hg hrow'⟩
 · rw [hg.block k (Nat.lt_of_lt_of_le hk s.size) (fun e => by have := (hrow k e.symm).1; omega)]
   exact s.kept k hk hG
 · obtain ⟨loc, h1, h2, h3⟩ := s.live i b hb
   rcases h2 with h2|h2
   · refine ⟨loc, h1, .inl (h2.mono (fun _ _ h => h) (fun _ _ h => h) fun k hk => ?_), h3⟩
     obtain⟨hc,x,hx,rfl⟩:=hk
     obtain⟨y,hy,_,cells,t,hgy,_⟩:=h2.room hc
     obtain rfl:y=x:=by rw [hy] at hx; simpa using hx
     exact grownBy_keeps_cells hg hrow' hgy rfl
   · refine ⟨loc, h1, .inr (h2.mono (fun _ _ h => h) (fun _ _ h => h) fun k hk => ?_), h3⟩
     obtain⟨hc,x,hx,rfl⟩:=hk
     obtain⟨y,hy,es,t,hgy,_⟩:=h2.room
     obtain rfl:y=x:=by rw [hy] at hx; simpa using hx
     refine hg.block y.block (Array.getElem?_eq_some_iff.1 hgy).1 fun he=>?_
     rcases hrm with hrm|hrm
     · have:=hrm i b hb; have:=h2.esz; omega
     · exact hrm y.block es t he.symm hgy
theorem Z32 {FN:Fence} {m:Nat} {fn:Func} {tmps:Array Value} {R:Ending→World→Prop}:∀ (ds:List Deferred) {a:Act} {w:World},a.defers=ds→a.tmps=tmps→St' C Fr e h F φ a w→(∀ a' w',St' C Fr e h F φ a' w'→a'.tmps=tmps→∃ v,(results fn tmps).run P w'=.ok v w'∧R (.returned v) w') →
 LeavesInM FN m P fn tmps R ds .returning w
 | [],a,w,hd,ht,s,hk=>hk a w s ht
 | d :: ds, a, w, hd, ht, s, hk => by
   obtain⟨D,rfl,hD,hw⟩:=s.marks.all d (by rw [hd]; simp)
   have hnd:=s.marks.nd
   rw [hd,List.nodup_cons] at hnd
   refine⟨by simp,.inl ⟨D,_,rfl,run_takeDeferred hw,?_⟩⟩
   have hm:Marks C.w0.heap.size { a with defers:=ds } (w.putObj D (.deferred none)):=by
    refine⟨hnd.2,fun d' hd'=>?_⟩
    obtain⟨D',e1,e2,e3⟩:=s.marks.all d' (by rw [hd]; simp at hd' ⊢; exact .inr hd')
    refine⟨D',e1,e2,?_⟩
    have hne:D'≠D:=by
     rintro rfl
     exact hnd.1 (by rw [← e1]; exact hd')
    exact (World.putObj_heap_other hne).trans e3
   exact Z32 ds (a:={ a with defers:=ds }) rfl ht (s.turned (grownBy_putObj' w D _) (fun r hr=>by cases hr; exact⟨hD,_,hw,rfl⟩) (.inr fun r es t hr h=>by cases hr; rw [hw] at h; cases h) rfl hm) hk
theorem Z2 {f nt:Nat} {ac:ACode} {rs:List ARes} (hf:FnOk P f nt ac rs) {args:List PV} {R:PV→Prop} (hn:args.length≤nt) (hk:∀ C:Ctx,C.dom 0→aw P C ac (retQ rs R) 0 (argEnv args) (fun _=>none)):Spec P f args R:=by
 obtain⟨hm,fn,c,hfn,hname,hb,rfl,hc,hr⟩:=hf
 refine⟨⟨fn,hfn,hname,by rw [hb]; rfl⟩,fun F w vs hF hv=>?_⟩
 refine (callsIn_wide (n:=0)).1 (callsIn_of_wp_marks hfn hb trivial ?_ rfl)
 let C:Ctx:=⟨w,fun _=>False,F,fn.ntmps,fun _=>none⟩
 have hsz:vs.size=args.length:=hv.1
 have s0:St' C (fun i=>0≤i) (argEnv args) (fun _=>none) F noLoc { tmps:=vs++Array.replicate (fn.ntmps-vs.size) undef,defers := [] } w:=by
  refine { nt := (by simp [C]; omega), glob := hF.2, marks := Marks.nil rfl, loc0 := fun i x hx => (by cases hx), free := fun _ _ => rfl, env := fun k p hp => ?_, froz := hF.1, ext := fun _ _ h => h, old := fun _ _ _ => rfl, os := rfl, tape := rfl, output := rfl, size := Nat.le_refl _, kept := fun _ _ _ => rfl,
           live:=fun id b hb=>(by cases hb),sep:=fun i j bi bj li lj k hi=>(by cases hi) }
  have hk:k<args.length:=(List.getElem?_eq_some_iff.1 hp).1
  refine⟨by simp [C]; omega,?_⟩
  have:=hv.2 k hk
  have e1:(vs++Array.replicate (fn.ntmps-vs.size) undef).getD k undef=vs.getD k undef:=by
   simp only [Array.getD_eq_getD_getElem?]
   rw [Array.getElem?_append_left (by omega)]
  have e2:args.getD k pvu=p:=by
   rw [List.getD_eq_getElem?_getD]
   have hp':args[k]?=some p:=hp
   rw [hp']; rfl
  rw [e1,← e2]
  exact this
 refine wpIn_mono (hk C (fun _ _=>rfl) hm Fence.wide 0 ⟨Z4K 0,fun l hl=>by cases hl⟩ c hc _ w ⟨F,noLoc,s0⟩) fun x a' w' ⟨n,e,h,hQ,F',φ',s⟩=>?_
 have fin:(∃ r0 r,retAll rs e h=some r0∧LoP r0 r∧r.pure∧R r)→LeavesInM Fence.wide 0 P fn a'.tmps (fun e w'=>∃ v' r F',e=.returned v'∧R r∧Rep F' noLoc v' r∧Below w.heap.size w w'∧Holds F' w'∧(∀ x u,F x=some u→F' x=some u)∧∀ x:Addr,x.block<w.heap.size→F' x=F x) a'.defers .returning w':=by
  rintro⟨r0,r,h0,hlo,hpure,hR⟩
  refine Z32 a'.defers rfl rfl s fun a2 w2 s2 ht=>?_
  obtain⟨v,hrun,hrep⟩:=Z6d s2 hr h0
  rw [ht] at hrun
  exact⟨v,hrun,v,r,F',rfl,hR,(hlo.rep hrep).pure hpure,⟨s2.os,s2.tape,s2.output,s2.size,fun k hk=>s2.kept k hk fun h=>h⟩,⟨s2.froz,s2.glob⟩,s2.ext,fun x hx=>s2.old x hx fun h=>h⟩
 cases x with
 | normal=>exact fin hQ
 | ret=>exact fin hQ
 | _=>exact hQ.elim
def retI (rs:List ARes) (R:Nat→PV→Heap→Prop):Exit→Nat→Env→Heap→Prop
 | .normal,n,e,h=>∃ r0 r,retAll rs e h=some r0∧LoP r0 r∧R n r h
 | .ret,n,e,h=>∃ r0 r,retAll rs e h=some r0∧LoP r0 r∧R n r h
 | _,_,_,_=>False
theorem Z2d {f nt:Nat} {ac:ACode} {rs:List ARes} (hf:FnOk P f nt ac rs) {n:Nat} {args:List PV} {h:Heap} {R:Nat→PV→Heap→Prop} (hn:args.length≤nt) (hk:∀ C:Ctx,C.dom n→aw P C ac (retI rs R) n (argEnv args) h):ISpec P f n args h R:=by
 obtain⟨hm,fn,c,hfn,hname,hb,rfl,hc,hr⟩:=hf
 refine⟨⟨fn,hfn,hname,by rw [hb]; rfl⟩,fun C e F φ a w vs s hv=>?_⟩
 refine (callsIn_wide (n:=0)).1 (callsIn_of_wp_marks hfn hb trivial ?_ rfl)
 let C':Ctx:=⟨w,fun k=>∃ i b loc,h i=some b∧φ i=some loc∧loc.has k,F,fn.ntmps,φ⟩
 have hG:∀ k,C'.G k→C.w0.heap.size≤k ∨ C.G k:=by
  rintro k ⟨i,b,loc,hi,hl,hk⟩
  obtain⟨loc',h1,h2,h3⟩:=s.live i b hi
  obtain rfl:loc'=loc:=by rw [h1] at hl; simpa using hl
  exact (h3 k hk).1
 have hcells:∀ k,C'.G k→¬ w.heap[k]?=some (.deferred (some [])):=by
  rintro k ⟨i,b,loc,hi,hl,hk⟩ ho
  obtain⟨loc',h1,h2,_⟩:=s.live i b hi
  obtain rfl:loc'=loc:=by rw [h1] at hl; simpa using hl
  rcases h2.there hk with⟨cells,t,hg⟩|⟨es,t,hg⟩
  · rw [hg] at ho; cases ho
  · rw [hg] at ho; cases ho
 have hsz:vs.size=args.length:=hv.1
 have s0:St' C' (fun i=>n≤i) (argEnv args) h F φ { tmps:=vs++Array.replicate (fn.ntmps-vs.size) undef,defers := [] } w:=by
  refine { nt := (by simp [C']; omega), glob := s.glob, marks := Marks.nil rfl, loc0 := fun i x hx => hx, free := s.free, env := fun k p hp => ?_, froz := s.froz, ext := fun _ _ h => h, old := fun _ _ _ => rfl, os := rfl, tape := rfl, output := rfl, size := Nat.le_refl _, kept := fun _ _ _ => rfl,
           live:=fun id b hb=>?_,sep:=s.sep }
  · have hk : k < args.length := (List.getElem?_eq_some_iff.1 hp).1
    refine⟨by simp [C']; omega,?_⟩
    have:=hv.2 k hk
    have e1:(vs++Array.replicate (fn.ntmps-vs.size) undef).getD k undef=vs.getD k undef:=by
     simp only [Array.getD_eq_getD_getElem?]
     rw [Array.getElem?_append_left (by omega)]
    have e2:args.getD k pvu=p:=by
     rw [List.getD_eq_getElem?_getD]
     have hp':args[k]?=some p:=hp
     rw [hp']; rfl
    rw [e1,← e2]
    exact this
  · obtain ⟨loc, h1, h2, h3⟩ := s.live id b hb
    exact⟨loc,h1,h2,fun k hk=>⟨.inr ⟨id,b,loc,hb,h1,hk⟩,(h3 k hk).2⟩⟩
 refine wpIn_mono (hk C' s.free hm Fence.wide 0 ⟨Z4K 0,fun l hl=>by cases hl⟩ c hc _ w ⟨F,φ,s0⟩) fun x a' w' ⟨n',e',h',hQ,F',φ',s'⟩=>?_
 have back:∀ {a2:Act} {w':World},St' C' (fun i=>n'≤i) e' h' F' φ' a2 w'→St' C (fun i=>n'≤i) e h' F' φ' a w':=fun {a2 w'} s'=>by
  refine { nt := s.nt, glob := s'.glob, marks := s.marks.mono (fun k hk => by rw [s'.kept k (Array.getElem?_eq_some_iff.1 hk).1 (fun hg => hcells k hg hk)]; exact hk), loc0 := fun i x hx => s'.loc0 i x (s.loc0 i x hx), free := s'.free, env := fun k p hp => ⟨(s.env k p hp).1, (s.env k p hp).2.mono s'.ext s'.loc0⟩, froz := s'.froz, ext := fun x v hx => s'.ext _ _ (s.ext x v hx),
           old:=fun x hx hg=>?_,os:=s'.os.trans s.os,tape:=s'.tape.trans s.tape,output:=s'.output.trans s.output,size:=Nat.le_trans s.size s'.size,kept:=fun k hk hg=>?_,live:=fun i b hi=>?_,sep:=s'.sep }
  · have hx2 : x.block < w.heap.size := Nat.lt_of_lt_of_le hx s.size
    rw [s'.old x hx2 fun hg'=>(hG _ hg').elim (fun h1=>absurd hx (Nat.not_lt.2 h1)) hg]
    exact s.old x hx hg
  · rw [s'.kept k (Nat.lt_of_lt_of_le hk s.size) fun hg' => (hG _ hg').elim (fun h1 => absurd hk (Nat.not_lt.2 h1)) hg]
    exact s.kept k hk hg
  · obtain ⟨loc, h1, h2, h3⟩ := s'.live i b hi
    refine⟨loc,h1,h2,fun k hk=>⟨?_,(h3 k hk).2⟩⟩
    rcases (h3 k hk).1 with h4|h4
    · exact .inl (Nat.le_trans s.size h4)
    · exact hG k h4
 have fin:(∃ r0 r,retAll rs e' h'=some r0∧LoP r0 r∧R n' r h')→LeavesInM Fence.wide 0 P fn a'.tmps (fun en w'=>∃ v' r n1 h1 F1 φ1,en=.returned v'∧R n1 r h1∧Rep F1 φ1 v' r∧St' C (fun i=>n1≤i) e h1 F1 φ1 a w') a'.defers .returning w':=by
  rintro⟨r0,r,h0,hlo,hR⟩
  refine Z32 a'.defers rfl rfl s' fun a2 w2 s2 ht=>?_
  obtain⟨v,hrun,hrep⟩:=Z6d s2 hr h0
  rw [ht] at hrun
  exact⟨v,hrun,v,r,n',h',F',φ',rfl,hR,hlo.rep hrep,back s2⟩
 cases x with
 | normal=>exact fin hQ
 | ret=>exact fin hQ
 | _=>exact hQ.elim
def envL:List (Nat×PV)→Env
 | []=>fun _=>none
 | (k,p) :: r=>(envL r).upd k p
def heapL:List (Nat×Bx)→Heap
 | []=>fun _=>none
 | (k,b) :: r=>(heapL r).upd k b
theorem Z7U {L:List (Nat×PV)} {k:Nat} {p:PV} (h:envL L k=some p):(k,p)∈L:=by
 induction L with
 | nil=>cases h
 | cons q r ih =>
   obtain⟨k',p'⟩:=q
   simp only [envL] at h
   by_cases hk:k=k'
   · subst hk; rw [Env.upd_same] at h; cases h; simp
   · rw [Env.upd_ne _ _ hk] at h; simp [ih h]
theorem Z1w {L:List (Nat×Bx)} {k:Nat} {p:Bx} (h:heapL L k=some p):(k,p)∈L:=by
 induction L with
 | nil=>cases h
 | cons q r ih =>
   obtain⟨k',p'⟩:=q
   simp only [heapL] at h
   by_cases hk:k=k'
   · subst hk; rw [Heap.upd_same] at h; cases h; simp
   · rw [Heap.upd_ne _ _ hk] at h; simp [ih h]
inductive RenP (ρ:Nat→Nat) (D:Nat→Prop):PV→PV→Prop
 | pure (p:PV) (hp:p.pure):RenP ρ D p p
 | own (id:Nat) (hd:D id):RenP ρ D (.own (ρ id)) (.own id)
 | ptr (id i off:Nat) (hd:D id):RenP ρ D (.ptr (ρ id) i off) (.ptr id i off)
 | view (id lo len:Nat) (hd:D id):RenP ρ D (.view (ρ id) lo len) (.view id lo len)
 | sl (id i off len cap:Nat) (hd:D id):RenP ρ D (.sl (ρ id) i off len cap) (.sl id i off len cap)
 | mp (id:Nat) (hd:D id):RenP ρ D (.mp (ρ id)) (.mp id)
 | agg (l m:List PV) (hl:l.length=m.length) (h:∀ i,i<l.length→RenP ρ D (l.getD i pvu) (m.getD i pvu)):RenP ρ D (.agg l) (.agg m)
 | low (p:PV) (hp:p.low.pure):RenP ρ D p p.low
 | same (p:PV) (hp:p.inn fun i=>D i∧ρ i=i):RenP ρ D p p
theorem RenP.rep {ρ:Nat→Nat} {D:Nat→Prop} {φ':Locs} (hφ:∀ i x,D i→φ (ρ i)=some x→φ' i=some x) {p0 p:PV} (hr:RenP ρ D p0 p):∀ {v:Value},Rep F φ v p0→Rep F φ' v p:=by
 induction hr with
 | pure p hp=>exact fun h=>h.pure hp
 | own id hd=>intro v h; obtain⟨loc,h1,hz,rfl⟩:=h.own_inv; exact .own id loc (hφ _ _ hd h1) hz
 | view id lo len hd=>intro v h; obtain⟨loc,b,h1,hz,hl,hb,rfl⟩:=h.view_inv; exact .view id lo len loc b (hφ _ _ hd h1) hz hl hb
 | sl id i off len cap hd=>intro v h; obtain⟨loc,x,h1,hz,hb,hs,hl,rfl⟩:=h.sl_inv; exact .sl id i off len cap loc x (hφ _ _ hd h1) hz hb hs hl
 | mp id hd=>intro v h; obtain⟨loc,x,h1,hz,hb,rfl⟩:=h.mp_inv; exact .mp id loc x (hφ _ _ hd h1) hz hb
 | ptr id i off hd=>intro v h; obtain⟨loc,x,h1,hz,h2,h3,rfl⟩:=h.ptr_inv; exact .ptr id i off loc x (hφ _ _ hd h1) hz h2 h3
 | agg l m hl _ ih =>
   intro v h
   obtain⟨vs,rfl,h1,h2,h3⟩:=h.agg_inv
   exact .agg vs m (by rw [h1,hl]) (fun i hi=>h2 i (by rw [hl]; exact hi)) fun i hi=>ih i (by rw [hl]; exact hi) (h3 i (by rw [hl]; exact hi))
 | low p hp=>exact fun h=>h.low.pure hp
 | same p hp=>exact fun h=>h.inn (fun i x hi hx=>hφ i x hi.1 (by rw [hi.2]; exact hx)) hp
inductive RenB (ρ:Nat→Nat) (D:Nat→Prop):Bx→Bx→Prop
 | same (b:Bx) (hp:pureLL b.elems):RenB ρ D b b
 | gen (b0 b:Bx) (hz:0<b.esz) (he:b0.esz=b.esz) (hl:b0.elems.length=b.elems.length) (hc:∀ i,i<b.elems.length→(b0.elems.getD i []).length=(b.elems.getD i []).length) (h:∀ i j,i<b.elems.length→j<b.esz→RenP ρ D ((b0.elems.getD i []).getD j pvu) ((b.elems.getD i []).getD j pvu)):RenB ρ D b0 b
theorem St'.ren {F:Froz} {φ:Locs} {a:Act} {w:World} {n:Nat} (s:St' C (fun i=>n≤i) e h F φ a w) (ρ:Nat→Nat) {n':Nat} {L:List (Nat×PV)} {HL:List (Nat×Bx)} (he:∀ q∈L,∃ p0,e q.1=some p0∧RenP ρ (fun i=>i<n') p0 q.2) (hh:∀ q∈HL,q.1<n'∧∃ b0,h (ρ q.1)=some b0∧RenB ρ (fun i=>i<n') b0 q.2)
 (hinj:∀ q∈HL,∀ q'∈HL,ρ q.1=ρ q'.1→q.1=q'.1) {m:Nat} (hdom:C.dom m) (hm:m≤n') (hρ:∀ i,i<m→ρ i=i):∃ φ',St' C (fun i=>n'≤i) (envL L) (heapL HL) F φ' a w:=by
 let φ':Locs:=fun i=>if i<n' then φ (ρ i) else none
 have hφ:∀ i x,i<n'→φ (ρ i)=some x→φ' i=some x:=fun i x hi hx=>by simp only [φ',hi,if_true]; exact hx
 refine⟨φ',{ nt:=s.nt,glob:=s.glob,marks:=s.marks,loc0:=fun i x hx=>?_,free:=fun i hi=>?_,env:=fun k p hp=>?_,froz:=s.froz,ext:=s.ext,old:=s.old,os:=s.os,tape:=s.tape,output:=s.output,size:=s.size,kept:=s.kept,live:=fun i b hb=>?_,sep:=?_ }⟩
 · have : ¬ i < n' := by omega
   simp only [φ',this,if_false]
 · obtain ⟨p0, h0, hr⟩ := he _ (Z7U hp)
   exact⟨(s.env k p0 h0).1,hr.rep hφ (s.env k p0 h0).2⟩
 · by_cases him : i < m
   · exact hφ i x (by omega) (by rw [hρ i him]; exact s.loc0 i x hx)
   · rw [hdom i (by omega)] at hx; cases hx
 · obtain ⟨hi, b0, h0, hr⟩ := hh _ (Z1w hb)
   obtain⟨loc,h1,h2,h3⟩:=s.live _ b0 h0
   refine⟨loc,hφ i loc hi h1,?_,h3⟩
   cases hr with
   | same hp=>exact h2.names hp
   | gen _ hz he hl hcl hrp =>
     have h2:=h2.cellsB (by rw [he]; exact hz)
     refine .inl ⟨by rw [← he]; exact h2.esz,h2.pos,by rw [← hl]; exact h2.len,h2.cap,h2.max,fun c hc=>?_,fun hc=>?_⟩
     · obtain ⟨k, hk, rfl⟩ := List.getElem_of_mem hc
       have e1:b.elems[k]=b.elems.getD k []:=by simp [List.getD_eq_getElem?_getD,hk]
       rw [e1,← hcl k hk]
       exact h2.el _ (by have hk' : k < b0.elems.length := by rw [hl]; exact hk
                         simp [List.getD_eq_getElem?_getD,hk'])
     · obtain ⟨x, hx, hs, cells, t, hg, hsz, hrep⟩ := h2.room hc
       refine⟨x,hx,hs,cells,t,hg,hsz,fun i j hi hj=>⟨(hrep i j hi hj).1,?_⟩⟩
       exact (hrp i j (by rw [← hl,h2.len]; exact hi) (by rw [← he,h2.esz]; exact hj)).rep hφ (hrep i j hi hj).2
 · intro i j bi bj li lj k hi hj hli hlj hki hkj
   obtain⟨hin,b0,h0,_⟩:=hh _ (Z1w hi)
   obtain⟨hjn,c0,g0,_⟩:=hh _ (Z1w hj)
   have hli':φ (ρ i)=some li:=by simpa only [φ',show i<n' from hin,if_true] using hli
   have hlj':φ (ρ j)=some lj:=by simpa only [φ',show j<n' from hjn,if_true] using hlj
   exact hinj _ (Z1w hi) _ (Z1w hj) (s.sep _ _ b0 c0 li lj k h0 g0 hli' hlj' hki hkj)
theorem Z91 (ρ:Nat→Nat) {n n':Nat} {L:List (Nat×PV)} {HL:List (Nat×Bx)} (he:∀ q∈L,∃ p0,e q.1=some p0∧RenP ρ (fun i=>i<n') p0 q.2) (hh:∀ q∈HL,q.1<n'∧∃ b0,h (ρ q.1)=some b0∧RenB ρ (fun i=>i<n') b0 q.2)
 (hinj:∀ q∈HL,∀ q'∈HL,ρ q.1=ρ q'.1→q.1=q'.1) {m:Nat} (hdom:C.dom m) (hm:m≤n') (hρ:∀ i,i<m→ρ i=i):Sub C n e h n' (envL L) (heapL HL):=by
 rintro a w ⟨F,φ,s⟩
 obtain⟨φ',s'⟩:=s.ren ρ he hh hinj hdom hm hρ
 exact⟨F,φ',s'⟩
theorem Z3l {n n':Nat} {L:List (Nat×PV)} {HL:List (Nat×Bx)} (he:∀ q∈L,∃ p0,e q.1=some p0∧RenP (fun i=>i) (fun i=>i<n') p0 q.2) (hh:∀ q∈HL,q.1<n'∧∃ b0,h q.1=some b0∧RenB (fun i=>i) (fun i=>i<n') b0 q.2) {m:Nat} (hdom:C.dom m) (hm:m≤n'):Sub C n e h n' (envL L) (heapL HL) :=
 Z91 (fun i=>i) he hh (fun _ _ _ _ h=>h) hdom hm fun _ _=>rfl
theorem Z5h {n n' n'' : Nat} {e' e'' : Env} {h' h'' : Heap} (h1 : Sub C n e h n' e' h') (h2 : Sub C n' e' h' n'' e'' h'') : Sub C n e h n'' e'' h'' := fun a w hs => h2 a w (h1 a w hs)
theorem Z6W {n:Nat}:Sub C n e h n e h:=fun _ _ hs=>hs
theorem Zb8 {n k:Nat} (hk:e k=some (.vec [] true)) (esz:Nat) (hp:0<esz):Sub C n e h (n+1) (e.upd k (.own n)) (h.upd n ⟨esz,[]⟩):=by
 rintro a w ⟨F,φ,s⟩
 obtain⟨hlt,hr⟩:=s.env k _ hk
 have hbase:∃ base,a.tmps.getD k undef=.slice base 0 0:=by
  rcases hr.vec_inv with⟨_,h⟩|⟨x,cap,esz',cs,h,_,_,hf,_⟩
  · exact⟨none,h⟩
  · exact⟨some x,by rw [h,hf rfl]; rfl⟩
 obtain⟨base,hb⟩:=hbase
 have s':=s.allocNil (Nat.le_refl n) base esz hp
 have hfr:∀ i,n+1≤i→n≤i∧i≠n:=fun i hi=>⟨by omega,by omega⟩
 refine⟨F,_,{ s'.weaken hfr with env:=fun j p hj=>?_ }⟩
 by_cases hjk:j=k
 · subst hjk
   rw [Env.upd_same] at hj
   cases hj
   refine⟨hlt,?_⟩
   rw [hb]
   exact .own n ⟨base,esz,0,0⟩ (by simp [locUpd]) hp
 · rw [Env.upd_ne _ _ hjk] at hj
   exact s'.env j p hj
theorem Z6e {n k id:Nat} {b:Bx} (hk:e k=some (.own id)) (hb:h id=some b) (hp:pureLL b.elems):Sub C n e h n (e.upd k (.vec b.elems false)) (h.del id):=by
 rintro a w ⟨F,φ,s⟩
 obtain⟨hlt,hr⟩:=s.env k _ hk
 obtain⟨loc,hl,hz,hv⟩:=hr.own_inv
 obtain⟨loc',h1,h2,h3⟩:=s.live id b hb
 obtain rfl:loc'=loc:=by rw [h1] at hl; simpa using hl
 have h2:=h2.cells hz
 have s1:St' C (fun i=>n≤i) e (h.del id) F φ a w:=s.sub (fun _ _ h=>h) (fun _ _ hh=>(Heap.del_some hh).2)
 have hput:∀ {F':Froz},St' C (fun i=>n≤i) e (h.del id) F' φ a w→Rep F' φ (a.tmps.getD k undef) (.vec b.elems false)→St C (fun i=>n≤i) (e.upd k (.vec b.elems false)) (h.del id) a w:=fun {F'} s2 hrep=>by
  refine⟨F',φ,{ s2 with env:=fun j p hj=>?_ }⟩
  by_cases hjk:j=k
  · subst hjk; rw [Env.upd_same] at hj; cases hj; exact⟨hlt,hrep⟩
  · rw [Env.upd_ne _ _ hjk] at hj; exact s2.env j p hj
 by_cases hc0:loc'.cap=0
 · have hl0 : loc'.len = 0 := by have := h2.cap; omega
   have he0:b.elems = []:=List.eq_nil_of_length_eq_zero (by rw [h2.len,hl0])
   refine hput s1 ?_
   rw [hv,he0,hl0,hc0]
   cases hbs:loc'.base with
   | none=>exact .vecnil false
   | some x=>exact .vec (F:=F) (φ:=φ) x 0 0 [] false (fun _ _=>undef) (fun h=>absurd rfl h) (Nat.le_refl _) (by simp) (by simp) (by simp) (by simp) (by simp)
 · obtain ⟨ad, hbase, hs, cells, ct, hg, hroom, hrep⟩ := h2.room hc0
   have hhas:loc'.has ad.block:=⟨hc0,ad,hbase,rfl⟩
   have s2:=s1.frz hg (h3 _ hhas).2 (s.del_no hb h1 hhas) (h3 _ hhas).1
   have hx:=Z1e (h3 _ hhas).2 cells
   refine hput s2 ?_
   rw [hv,hbase,← h2.len]
   have hlt2:∀ i j,i<b.elems.length→j<loc'.esz→ad.off+(i*loc'.esz+j)<cells.size:=fun i j hi hj=>by
    have:=Z1o (n:=loc'.cap) (i:=i) (j:=j) (esz:=loc'.esz) (by have:=h2.cap; have:=h2.len;omega) hj
    omega
   refine .vec ad loc'.cap loc'.esz b.elems false (fun i j=>cells.getD (ad.off+(i*loc'.esz+j)) undef) (fun _=>hs) (by rw [h2.len]; exact h2.cap) (by simp) (by rw [h2.len]; exact h2.max) (fun i hi=>h2.el _ (by simp [List.getD_eq_getElem?_getD,hi])) (fun i j hi hj=>?_) (fun i j hi hj=>?_)
   · exact Z1i F _ _ (hlt2 i j hi hj) (hrep i j (by rw [← h2.len]; exact hi) hj).1
   · exact (hrep i j (by rw [← h2.len]; exact hi) hj).2.mono hx fun _ _ h=>h
theorem Z2J {n k id:Nat} {esz:Nat} {l:List PV} (hk:e k=some (.ptr id 0 0)) (hb:h id=some ⟨esz,[l]⟩):Sub C n e h n (e.upd k (.cp l)) (h.del id):=by
 rintro a w ⟨F,φ,s⟩
 obtain⟨hlt,hr⟩:=s.env k _ hk
 obtain⟨loc,x,hl,hz,hbase,hsx,hv⟩:=hr.ptr_inv
 obtain⟨loc',h1,h2,h3⟩:=s.live id _ hb
 obtain rfl:loc'=loc:=by rw [h1] at hl; simpa using hl
 have h2:=h2.cells hz
 have hlen:loc'.len=1:=by rw [← h2.len]; rfl
 have hc0:loc'.cap≠0:=by have:=h2.cap; omega
 have s1:St' C (fun i=>n≤i) e (h.del id) F φ a w:=s.sub (fun _ _ h=>h) (fun _ _ hh=>(Heap.del_some hh).2)
 obtain⟨ad,hbase',hs,cells,ct,hg,hroom,hrep⟩:=h2.room hc0
 obtain rfl:ad=x:=by rw [hbase'] at hbase; simpa using hbase
 have hhas:loc'.has ad.block:=⟨hc0,ad,hbase',rfl⟩
 have s2:=s1.frz hg (h3 _ hhas).2 (s.del_no hb h1 hhas) (h3 _ hhas).1
 have hx:=Z1e (h3 _ hhas).2 cells
 have hll:l.length=loc'.esz:=h2.el l (by simp)
 refine⟨_,φ,{ s2 with env:=fun j p hj=>?_ }⟩
 by_cases hjk:j=k
 · subst hjk
   rw [Env.upd_same] at hj
   cases hj
   refine⟨hlt,?_⟩
   rw [hv]
   simp only [Nat.zero_mul,Nat.zero_add,Nat.add_zero]
   rw [← Z3N ad hs]
   have hlt2:∀ j,j<l.length→ad.off+j<cells.size:=fun j hj=>by
    have:=Z1o (n:=loc'.cap) (i:=0) (j:=j) (esz:=loc'.esz) (by omega) (by omega)
    omega
   refine .cp ad l (fun j=>cells.getD (ad.off+j) undef) hs (fun j hj=>?_) (fun j hj=>?_)
   · have := hrep 0 j (by omega) (by omega)
     simp only [Nat.zero_mul,Nat.zero_add] at this
     exact Z1i F _ _ (hlt2 j hj) this.1
   · have := hrep 0 j (by omega) (by omega)
     simp only [Nat.zero_mul,Nat.zero_add] at this
     exact this.2.mono hx fun _ _ h=>h
 · rw [Env.upd_ne _ _ hjk] at hj
   exact s2.env j p hj
theorem Z2V {ac:ACode} {Q:Exit→Nat→Env→Heap→Prop} {n k:Nat} {l:List (List PV)} {full:Bool} (hk:e k=some (.vec l full)) (hw:l.length≤maxVec→aw P C ac Q n e h):aw P C ac Q n e h:=by
 intro hm FN m hok c hc a w hs
 refine hw ?_ hm FN m hok c hc a w hs
 obtain⟨F,φ,s⟩:=hs
 rcases (s.env k _ hk).2.vec_inv with⟨rfl,_⟩|⟨x,cap,esz,cs,_,_,_,_,hmax,_⟩
 · exact Nat.zero_le _
 · exact hmax
theorem Zfu {op:AOp} {n:Nat} {p:PV} {h':Heap} {K:PV→Heap→Prop} (hn:isCall op=false) (hd:dEval op e h n=some (p,h') ∨ fEval op e h n=some (p,h')) (hk:K p h'):opK P op n e h K:=by
 have:∃ p h',(dEval op e h n=some (p,h') ∨ fEval op e h n=some (p,h'))∧K p h':=⟨p,h',hd,hk⟩
 cases op<;>first|exact this|(simp [isCall] at hn; done)|skip
 rcases hd with hd|hd
 · exact .inl ⟨p,h',hd,hk⟩
 · simp [fEval] at hd
theorem Zcr {neg:Bool} {x:Operand} {n:Nat} {K:PV→Heap→Prop} (hx:(∃ l fl,ev e x=some (.vec l fl)) ∨ ∃ k,ev e x=some (.own k)) (hk:∀ b,K (.val (.bool b)) h):opK P (.isnil neg x) n e h K:=.inr ⟨hx,hk⟩
theorem Zgi {z:Rsv} {n:Nat} {K:Env→Heap→Prop} (hk:K e h):dK P z n [] e h K:=hk
theorem Zf9 {z:Rsv} {n i mask:Nat} {d:Option Nat} {op:AOp} {iso:Nat} {alt:Bool} {xs:List DItem} {K:Env→Heap→Prop} {p:PV} {h':Heap} (hd:evalB alt op e h (n+i)=some (p,h')) (ha:accOk z op e n i mask iso=true) (hn:isCall op=false) (hk:dK P z n xs (updO e d p) h' K):dK P z n (⟨i,⟨d,op,none⟩,mask,iso,alt⟩ :: xs) e h K:=by
 obtain⟨f,rfl,h1,h2,h3⟩:=Zck hd ha
 refine⟨_,.det rfl hn p f ⟨h1,h2,h3⟩,?_⟩
 rintro p' f' ⟨rfl,rfl⟩
 exact hk
theorem Z4t {z:Rsv} {n i mask:Nat} {d:Option Nat} {f:Operand} {args:List Operand} {iso:Nat} {alt:Bool} {xs:List DItem} {K:Env→Heap→Prop} {g:FuncId} {caps as0 args':List PV} {R:PV→Prop} (hf:ev e f=some (.fn g caps)) (ha:evs e args=some as0) (hlo:LoL (as0++caps) args')
 (hs:Spec P g args' R) (hp:pureL args') (hk:∀ r,R r→dK P z n xs (updO e d r) h K):dK P z n (⟨i,⟨d,.call f args,none⟩,mask,iso,alt⟩ :: xs) e h K:=by
 refine⟨_,.call rfl f args rfl R ⟨g,caps,as0,hf,ha,.of hlo hp hs⟩,?_⟩
 rintro p' f' ⟨hr,rfl⟩
 exact hk p' hr
theorem Zea {z:Rsv} {n i mask:Nat} {d:Option Nat} {f:Operand} {args:List Operand} {iso:Nat} {alt:Bool} {xs:List DItem} {K:Env→Heap→Prop} {g:FuncId} {caps as0 args':List PV} {mk:Nat→PV} {b:Bx} (hs:NSpec P g args' mk b) (hmk:Mk mk) (hpb:pureLL b.elems) (hf:ev e f=some (.fn g caps)) (ha:evs e args=some as0) (ha':as0++caps=args') (hp:pureL args')
 (hk:dK P z n xs (updO e d (mk (n+i))) (h.upd (n+i) b) K):dK P z n (⟨i,⟨d,.call f args,none⟩,mask,iso,alt⟩ :: xs) e h K:=by
 subst ha'
 refine⟨_,.callN rfl f args rfl none (fun _ _ h=>by cases h) mk b ⟨g,caps,as0,hf,ha,hs.nrun hmk hpb hp⟩,?_⟩
 rintro p' f' ⟨rfl,rfl⟩
 exact hk
theorem Z92 {z:Rsv} {n i mask:Nat} {d:Nat} {zz:List Value} {bytes:Nat} {sx y:Operand} {iso:Nat} {xs:List DItem} {K:Env→Heap→Prop} {k:Nat} {b:Bx} {m:List (List PV)} {fl:Bool} (hs:ev e sx=some (.own k)) (hy:ev e y=some (.vec m fl)) (hb:h k=some b) (hm:∀ c∈m,c.length=zz.length) (he:b.esz=zz.length) (hby:(b.elems.length+m.length)*bytes≤140737488355328) (hp:pureLL (b.elems++m)) (h1:okId z n i mask k=true) (h2:okW z n i iso k=true)
 (hk:dK P z n xs (e.upd d (.vec (b.elems++m) false)) (h.del k) K):dK P z n (⟨i,⟨some d,.append zz bytes sx y,none⟩,mask,iso,true⟩ :: xs) e h K:=by
 refine⟨_,.detF rfl rfl d rfl zz bytes sx y rfl k b m fl hs hy hb ⟨hm,he,hby⟩ hp ⟨h1,h2⟩,?_⟩
 rintro p' f' ⟨rfl,rfl⟩
 exact hk
theorem Zah {z:Rsv} {n:Nat} {x:DItem} {xs:List DItem} {K:Env→Heap→Prop} {s:Nat} {b c:Bool} (hg:x.o.guard=some (s,b)) (hs:e s=some (.val (.bool c))) (ht:c=b→dK P z n (⟨x.i,⟨x.o.dst,x.o.op,none⟩,x.mask,x.iso,x.alt⟩ :: xs) e h K) (hf:c≠b→dK P z n xs (updO e x.o.dst pvu) h K):dK P z n (x :: xs) e h K:=by
 have hw:wantB x.o.guard e=some (c == b):=by simp only [wantB,hg,hs]
 by_cases hcb:c=b
 · obtain ⟨T, hT, hK⟩ := ht hcb
   have hw':wantB x.o.guard e=some true:=by rw [hw,hcb]; simp
   refine⟨T,?_,hK⟩
   cases hT with
   | skip h=>cases h
   | call _ f args ho R hc=>exact .call hw' f args ho R hc
   | callP _ f args ho id hz b hb R hc=>exact .callP hw' f args ho id hz b hb R hc
   | callN _ f args ho rd hrd mk b hc=>exact .callN hw' f args ho rd hrd mk b hc
   | callD _ f args ho d hdst k hz b b' hb hc=>exact .callD hw' f args ho d hdst k hz b b' hb hc
   | detF _ ha d hd0 zz bytes sx y ho k b mm fl hsx hyx hbk hcond hpp hacc=>exact .detF hw' ha d hd0 zz bytes sx y ho k b mm fl hsx hyx hbk hcond hpp hacc
   | det _ hn p f hd=>exact .det hw' hn p f ⟨hd.eff,hd.touch,hd.run⟩
 · refine ⟨_, .skip (by rw [hw]; simp [hcb]), ?_⟩
   rintro p' f' ⟨rfl,rfl⟩
   exact hf hcb
end
end Go.Proofs.YtmnbbggaoembeaaGreatDoor
namespace Go.Proofs.YtmnbbggaoembeaaGreatDoor
open Go.RowKit
attribute [local irreducible] aw opsK dK
section
variable {P:Program} {C:Ctx} {e:Env} {h:Heap} {n:Nat} {K:Nat→Env→Heap→Prop} {os:List AOper} {d:Option Nat} {Q:Exit→Nat→Env→Heap→Prop}
def wantV (g:Option (Nat×Bool)) (e:Env):Option Bool :=
 match g with
 | none=>some true
 | some (s, b) => match e s with
   | some (.val (.bool c))=>some (c == b)
   | some (.val (.tuple _))=>some false
   | _=>none
theorem Zai {g:Option (Nat×Bool)} {A B:Prop} {b:Bool} (h:wantV g e=some b) (hk:if b=true then A else B):wantK g e A B:=by
 unfold wantV at h
 unfold wantK
 split at h
 · cases h; exact hk
 · split at h
   · rename_i c hc
     cases h
     try simp only [hc]
     split
     · rename_i hcb; subst hcb; simpa using hk
     · rename_i hcb; simpa [hcb] using hk
   · rename_i c hc
     cases h
     try simp only [hc]
     simpa using hk
   · cases h
theorem Z3U:SubA n e h n e h:=fun _ _ _ h=>h
theorem Zi {op:AOp} {g:Nat×Bool} (hw:wantV (some g) e=some true) (hk:opsK P (⟨d,op,none⟩ :: os) n e h K):opsK P (⟨d,op,some g⟩ :: os) n e h K:=by
 unfold opsK at hk ⊢
 exact Zai hw (by simpa [wantK] using hk)
theorem Zj {n':Nat} {e':Env} {h':Heap} (hs:SubA n e h n' e' h') {op:AOp} (hk:opsK P (⟨d,op,none⟩ :: os) n' e' h' K):opsK P (⟨d,op,none⟩ :: os) n e h K:=by
 unfold opsK at hk ⊢
 simp only [wantK] at hk ⊢
 obtain⟨n1,e1,h1,hs1,hk⟩:=hk
 exact⟨n1,e1,h1,fun C a w hst=>hs1 C a w (hs C a w hst),hk⟩
theorem Z6X {op:AOp} {g:Nat×Bool} (hw:wantV (some g) e=some false) (hk:opsK P os n (updO e d pvu) h K):opsK P (⟨d,op,some g⟩ :: os) n e h K:=by
 unfold opsK
 exact Zai hw (by simpa using hk)
theorem opsK_of' {op:AOp} {p:PV} {h':Heap} (hd:dEval op e h n=some (p,h') ∨ fEval op e h n=some (p,h')) (hn:isCall op=false) (hk:opsK P os (bmp h' n) (updO e d p) h' K):opsK P (⟨d,op,none⟩ :: os) n e h K:=by
 unfold opsK
 exact⟨n,e,h,Z3U,.inl (Zfu hn hd hk)⟩
theorem Z53 (hz:h n=none):bmp h n=n:=by simp [bmp,hz]
theorem Zaj {b:Bx} (hz:h n=some b):bmp h n=n+1:=by simp [bmp,hz]
theorem Z0 {op:AOp} {p:PV} {h':Heap} (hd:dEval op e h n=some (p,h')) (hn:isCall op=false) (hz:h' n=none) (hk:opsK P os n (updO e d p) h' K):opsK P (⟨d,op,none⟩ :: os) n e h K :=
 opsK_of' (.inl hd) hn (by rw [Z53 hz]; exact hk)
theorem ZU {op:AOp} {p:PV} {h':Heap} {b:Bx} (hd:dEval op e h n=some (p,h')) (hn:isCall op=false) (hz:h' n=some b) (hk:opsK P os (n+1) (updO e d p) h' K):opsK P (⟨d,op,none⟩ :: os) n e h K :=
 opsK_of' (.inl hd) hn (by rw [Zaj hz]; exact hk)
theorem Z3 {op:AOp} {p:PV} {h':Heap} (hd:fEval op e h n=some (p,h')) (hn:isCall op=false) (hz:h' n=none) (hk:opsK P os n (updO e d p) h' K):opsK P (⟨d,op,none⟩ :: os) n e h K :=
 opsK_of' (.inr hd) hn (by rw [Z53 hz]; exact hk)
theorem Z5i {op:AOp} {p:PV} {h':Heap} {b:Bx} (hd:fEval op e h n=some (p,h')) (hn:isCall op=false) (hz:h' n=some b) (hk:opsK P os (n+1) (updO e d p) h' K):opsK P (⟨d,op,none⟩ :: os) n e h K :=
 opsK_of' (.inr hd) hn (by rw [Zaj hz]; exact hk)
theorem Zn {op:AOp} {b:Bool} {h':Heap} (hd:dEval op e h n=some (.val (.bool b),h')) (hn:isCall op=false) (hz:h' n=none) (ht:b=true→opsK P os n (updO e d (.val (.bool true))) h' K) (hf:b=false→opsK P os n (updO e d (.val (.bool false))) h' K):opsK P (⟨d,op,none⟩ :: os) n e h K:=by
 cases b with
 | true=>exact Z0 hd hn hz (ht rfl)
 | false=>exact Z0 hd hn hz (hf rfl)
theorem ZY {f:Operand} {args:List Operand} {g:FuncId} {caps as0:List PV} {R:PV→Prop} (hf:ev e f=some (.fn g caps)) (ha:evs e args=some as0) (hs:Spec P g (as0++caps) R) (hp:pureL (as0++caps)) (hz:h n=none) (hk:∀ r,R r→opsK P os n (updO e d r) h K) :
 opsK P (⟨d,.call f args,none⟩ :: os) n e h K:=by
 unfold opsK
 exact⟨n,e,h,Z3U,.inl ⟨g,caps,as0,R,hf,ha,.of (.inl rfl) hp hs,fun r hr=>by show opsK P os (bmp h n) (updO e d r) h K; rw [Z53 hz]; exact hk r hr⟩⟩
theorem Z6 {f:Operand} {args:List Operand} {g:FuncId} {caps as0 args':List PV} {v:PV} (hs:Spec P g args' (· = v)) (hf:ev e f=some (.fn g caps)) (ha:evs e args=some as0) (ha':as0++caps=args') (hp:pureL args') (hz:h n=none) (hk:opsK P os n (updO e d v) h K) :
 opsK P (⟨d,.call f args,none⟩ :: os) n e h K:=by
 subst ha'
 exact ZY hf ha hs hp hz fun _ hr=>hr▸hk
theorem Z2e {f:Operand} {args:List Operand} {g:FuncId} {caps as0:List PV} {R:Nat→PV→Heap→Prop} (hf:ev e f=some (.fn g caps)) (ha:evs e args=some as0)
 (hs:ISpec P g n (as0++caps) h R) (hk:∀ n' r h',R n' r h'→opsK P os n' (updO e d r) h' K):opsK P (⟨d,.call f args,none⟩ :: os) n e h K:=by
 unfold opsK
 exact⟨n,e,h,Z3U,.inr ⟨f,args,g,caps,as0,R,rfl,hf,ha,hs,hk⟩⟩
theorem Z1p (hk:K n e h):opsK P [] n e h K:=by unfold opsK; exact hk
theorem Z6f {α:Type} {esz:Nat} {x i:Operand} {xs:List α} {g:α→List PV} {fl:Bool} {k:IntKind} {m:Int} (hx:ev e x=some (.vec (xs.map g) fl)) (hi:ev e i=some (.val (.int k m))) (j:Nat) (hm:m=(j:Int)) (hj:j<xs.length) (hl:(g xs[j]).length=esz)
 (hz:h n=none) (hk:opsK P os n (updO e d (.cp (g xs[j]))) h K):opsK P (⟨d,.iaddr esz x i,none⟩ :: os) n e h K:=by
 subst hm
 have e1:(xs.map g).getD (j:Int).toNat []=g xs[j]:=by simp [List.getD_eq_getElem?_getD,hj]
 refine Z0 (p:=.cp (g xs[j])) (h':=h) ?_ rfl hz hk
 simp only [dEval,hx,hi,e1,hl]
 rw [if_pos ⟨by omega,by simp; omega⟩]; simp
theorem Z3m {x y:Operand} {k k':IntKind} {a b:Int} (hx:ev e x=some (.val (.int k a))) (hy:ev e y=some (.val (.int k' b))) (hb:0≤b) {v:Int} (hv:k.wrap (a*2 ^ (min b.toNat k.bits))=v) (hz:h n=none) (hk:opsK P os n (updO e d (.val (.int k v))) h K):opsK P (⟨d,.bin .shl .num x y,none⟩ :: os) n e h K :=
 Z0 (p:=.val (.int k v)) (h':=h) (by simp [dEval,hx,hy,pbin,sbin,hb,hv]) rfl hz hk
theorem Z2K {x y:Operand} {k k':IntKind} {a b:Int} (hx:ev e x=some (.val (.int k a))) (hy:ev e y=some (.val (.int k' b))) (hb:0≤b) {v:Int} (hv:a.fdiv (2 ^ (min b.toNat k.bits))=v) (hz:h n=none) (hk:opsK P os n (updO e d (.val (.int k v))) h K):opsK P (⟨d,.bin .shr .num x y,none⟩ :: os) n e h K :=
 Z0 (p:=.val (.int k v)) (h':=h) (by simp [dEval,hx,hy,pbin,sbin,hb,hv]) rfl hz hk
theorem Z8 {op:AOp} {k:IntKind} {a v:Int} {h':Heap} (hd:dEval op e h n=some (.val (.int k a),h')) (hn:isCall op=false) (hz:h' n=none) (hv:a=v) (hk:opsK P os n (updO e d (.val (.int k v))) h' K):opsK P (⟨d,op,none⟩ :: os) n e h K:=by
 subst hv; exact Z0 hd hn hz hk
theorem Z93 {op:AOp} {a v:Bool} {h':Heap} (hd:dEval op e h n=some (.val (.bool a),h')) (hn:isCall op=false) (hz:h' n=none) (hv:a=v) (hk:opsK P os n (updO e d (.val (.bool v))) h' K):opsK P (⟨d,op,none⟩ :: os) n e h K:=by
 subst hv; exact Z0 hd hn hz hk
theorem Zeb {α:Type} {esz:Nat} {x:Operand} {lo hi:Option Operand} {xs:List α} {g:α→List PV} {fl:Bool} (hx:ev e x=some (.vec (xs.map g) fl)) (a b:Nat) (hlo:bndAt e 0 lo=some (a:Int)) (hhi:bndAt e ((xs.map g).length:Nat) hi=some (b:Int)) (hab:a≤b) (hb:b≤xs.length) (hg:∀ x,(g x).length=esz)
 (hz:h n=none) (hk:opsK P os n (updO e d (.vec (((xs.take b).drop a).map g) false)) h K):opsK P (⟨d,.slc esz x lo hi none,none⟩ :: os) n e h K:=by
 refine Z0 (p:=.vec (((xs.take b).drop a).map g) false) (h':=h) ?_ rfl hz hk
 simp only [dEval,hx,hlo,hhi]
 have hall:∀ c∈xs.map g,c.length=esz:=fun c hc=>by obtain⟨y,_,rfl⟩:=List.mem_map.1 hc; exact hg y
 rw [if_pos ⟨⟨by omega,by omega,by simp; omega⟩,hall⟩]
 simp [List.map_drop,List.map_take]
theorem Zo {α:Type} {esz:Nat} {x i:Operand} {xs:List α} {g:α→List PV} {fl:Bool} {k:IntKind} {m:Int} (hx:ev e x=some (.vec (xs.map g) fl)) (hi:ev e i=some (.val (.int k m))) (j:Nat) (hm:m=(j:Int)) (hj:j<xs.length) (hl:(g xs[j]).length=esz) :
 dEval (.iaddr esz x i) e h n=some (.cp (g xs[j]),h):=by
 subst hm
 have e1:(xs.map g).getD (j:Int).toNat []=g xs[j]:=by simp [List.getD_eq_getElem?_getD,hj]
 simp only [dEval,hx,hi,e1,hl]
 rw [if_pos ⟨by omega,by simp; omega⟩]; simp
theorem ZJ {esz:Nat} {x i:Operand} {id:Nat} {b:Bx} {k:IntKind} {m:Int} (hx:ev e x=some (.own id)) (hi:ev e i=some (.val (.int k m))) (hb:h id=some b) (j:Nat) (hm:m=(j:Int)) (hj:j<b.elems.length) (hl:b.esz=esz) :
 dEval (.iaddr esz x i) e h n=some (.ptr id j 0,h):=by
 subst hm
 simp only [dEval,hx,hi,hb,hl]
 rw [if_pos ⟨by omega,by omega⟩]; simp
theorem Zcs {x y:Operand} {k k':IntKind} {a b:Int} (hx:ev e x=some (.val (.int k a))) (hy:ev e y=some (.val (.int k' b))) (hb:0≤b) {v:Int} (hv:k.wrap (a*2 ^ (min b.toNat k.bits))=v):dEval (.bin .shl .num x y) e h n=some (.val (.int k v),h):=by simp [dEval,hx,hy,pbin,sbin,hb,hv]
theorem ZP {op:AOp} {k:IntKind} {a v:Int} (hd:dEval op e h n=some (.val (.int k a),h)) (hv:a=v):dEval op e h n=some (.val (.int k v),h):=by subst hv; exact hd
theorem Z4 {op:AOp} {a v:Bool} (hd:dEval op e h n=some (.val (.bool a),h)) (hv:a=v):dEval op e h n=some (.val (.bool v),h):=by subst hv; exact hd
theorem Zak {z:List Value} {bytes:Nat} {l c:Operand} {a b:Nat} (hl:intAt (ev e l)=some (a:Int)) (hc:intAt (ev e c)=some (b:Int)) (hab:a≤b) (hb:bytes*b≤281474976710656) :
 dEval (.mslice z bytes l c) e h n=some (.own n,h.upd n ⟨z.length,List.replicate a (zpv z)⟩):=by
 simp only [dEval,hl,hc]
 rw [if_pos ⟨by omega,by omega,by rw [← Int.natCast_mul]; omega⟩]; simp
theorem Zec {α:Type} {esz:Nat} {x:Operand} {lo hi:Option Operand} {xs:List α} {g:α→List PV} {fl:Bool} (hx:ev e x=some (.vec (xs.map g) fl)) (a b:Nat) (hlo:bndAt e 0 lo=some (a:Int)) (hhi:bndAt e ((xs.map g).length:Nat) hi=some (b:Int)) (hab:a≤b) (hb:b≤xs.length) (hg:∀ x,(g x).length=esz) :
 dEval (.slc esz x lo hi none) e h n=some (.vec (((xs.take b).drop a).map g) false,h):=by
 simp only [dEval,hx,hlo,hhi]
 have hall:∀ c∈xs.map g,c.length=esz:=fun c hc=>by obtain⟨y,_,rfl⟩:=List.mem_map.1 hc; exact hg y
 rw [if_pos ⟨⟨by omega,by omega,by simp; omega⟩,hall⟩]
 simp [List.map_drop,List.map_take]
theorem Z2B {agg:Bool} {size:Nat} {a:Operand} {k i off:Nat} {b:Bx} {p:PV} (ha:ev e a=some (.ptr k i off)) (hb:h k=some b) (hi:i<b.elems.length) (hc:cutAt agg size off (b.elems.getD i [])=some p):dEval (.load agg size a) e h n=some (p,h):=by
 simp only [dEval,ha,hb,if_pos hi,hc]
theorem Z1I {size:Nat} {a v:Operand} {k i off:Nat} {b:Bx} {p:PV} (ha:ev e a=some (.ptr k i off)) (hv:ev e v=some p) (hb:h k=some b) (hf:p.flat=true) (hl:p.cells.length=size) (hi:i<b.elems.length) (ho:off+size≤b.esz) :
 dEval (.store size a v) e h n=some (pvu,h.upd k ⟨b.esz,b.elems.set i (setAt (b.elems.getD i []) off p.cells)⟩):=by
 subst hl
 simp only [dEval,ha,hv,hb]
 rw [if_pos (by simp [hf,hi,ho])]
theorem ZQ {z:List Value} {bytes:Nat} {s x:Operand} {k:Nat} {m:List (List PV)} {fl:Bool} {b:Bx} (hs:ev e s=some (.own k)) (hx:ev e x=some (.vec m fl)) (hb:h k=some b) (hm:∀ c∈m,c.length=z.length) (he:b.esz=z.length) (hby:(b.elems.length+m.length)*bytes≤140737488355328) :
 dEval (.append z bytes s x) e h n=some (.own n,(h.del k).upd n ⟨b.esz,b.elems++m⟩):=by
 simp only [dEval,hs,hx,hb]
 rw [if_pos ⟨hm,he,hby⟩]; rfl
theorem Zgj {esz:Nat} {d s:Operand} {k:Nat} {m:List (List PV)} {fl:Bool} {b:Bx} (hd:ev e d=some (.own k)) (hs:ev e s=some (.vec m fl)) (hb:h k=some b) (hm:∀ c∈m,c.length=esz) (he:b.esz=esz) :
 dEval (.copy esz d s) e h n=some (.val (.int .i64 (min m.length b.elems.length:Nat)),h.upd k ⟨b.esz,m.take b.elems.length++b.elems.drop m.length⟩):=by
 simp only [dEval,hd,hs,hb]
 rw [if_pos ⟨hm,he⟩]
theorem Zct {z:List Value} {bytes:Nat} {s x:Operand} {l m:List (List PV)} {fl:Bool} (hs:ev e s=some (.vec l true)) (hx:ev e x=some (.vec m fl)) (hl:∀ c∈l,c.length=z.length) (hm:∀ c∈m,c.length=z.length) (hby:(l.length+m.length)*bytes≤140737488355328) :
 fEval (.append z bytes s x) e h n=some (.vec (l++m) false,h):=by
 simp only [fEval,hs,hx]
 rw [if_pos ⟨hl,hm,hby⟩]
theorem ZI {k:Nat} (hk:e k=some (.vec [] true)) (esz:Nat) (hp:0<esz):SubA n e h (n+1) (e.upd k (.own n)) (h.upd n ⟨esz,[]⟩):=fun _=>Zb8 hk esz hp
theorem Zw {k id:Nat} {b:Bx} (hk:e k=some (.own id)) (hb:h id=some b) (hp:pureLL b.elems):SubA n e h n (e.upd k (.vec b.elems false)) (h.del id):=fun _=>Z6e hk hb hp
theorem Z3E {k id:Nat} {esz:Nat} {l:List PV} (hk:e k=some (.ptr id 0 0)) (hb:h id=some ⟨esz,[l]⟩) (hp:pureL l):SubA n e h n (e.upd k (.cp l)) (h.del id):=fun _=>Z2J hk hb
theorem Zd {z:Rsv} {i mask:Nat} {op:AOp} {iso:Nat} {xs:List DItem} {K:Env→Heap→Prop} {p:PV} {h':Heap} (hd:dEval op e h (n+i)=some (p,h')) (ha:accOk z op e n i mask iso=true) (hn:isCall op=false) (hk:dK P z n xs (updO e d p) h' K):dK P z n (⟨i,⟨d,op,none⟩,mask,iso,false⟩ :: xs) e h K:=Zf9 hd ha hn hk
theorem Zed {z:Rsv} {i mask:Nat} {op:AOp} {iso:Nat} {xs:List DItem} {K:Env→Heap→Prop} {p:PV} {h':Heap} (hd:fEval op e h (n+i)=some (p,h')) (ha:accOk z op e n i mask iso=true) (hn:isCall op=false) (hk:dK P z n xs (updO e d p) h' K):dK P z n (⟨i,⟨d,op,none⟩,mask,iso,true⟩ :: xs) e h K:=Zf9 hd ha hn hk
theorem Z6Y {z:Rsv} {i mask:Nat} {op:AOp} {iso:Nat} {xs:List DItem} {K:Env→Heap→Prop} {b:Bool} {h':Heap} (hd:dEval op e h (n+i)=some (.val (.bool b),h')) (ha:accOk z op e n i mask iso=true) (hn:isCall op=false) (ht:b=true→dK P z n xs (updO e d (.val (.bool true))) h' K) (hf:b=false→dK P z n xs (updO e d (.val (.bool false))) h' K):dK P z n (⟨i,⟨d,op,none⟩,mask,iso,false⟩ :: xs) e h K:=by
 cases b with
 | true=>exact Zd hd ha hn (ht rfl)
 | false=>exact Zd hd ha hn (hf rfl)
theorem Z26 {z:Rsv} {i mask:Nat} {op:AOp} {iso:Nat} {alt:Bool} {g:Nat×Bool} {xs:List DItem} {K:Env→Heap→Prop} (hw:wantV (some g) e=some true) (hk:dK P z n (⟨i,⟨d,op,none⟩,mask,iso,alt⟩ :: xs) e h K):dK P z n (⟨i,⟨d,op,some g⟩,mask,iso,alt⟩ :: xs) e h K:=by
 obtain⟨s,b⟩:=g
 unfold wantV at hw
 simp only at hw
 split at hw
 · rename_i c hc
   exact Zah (x:=⟨i,⟨d,op,some (s,b)⟩,mask,iso,alt⟩) rfl hc (fun _=>hk) fun hne=>absurd (by simpa using hw) hne
 · cases hw
 · cases hw
theorem Zcu {z:Rsv} {i mask:Nat} {op:AOp} {iso:Nat} {alt:Bool} {g:Nat×Bool} {xs:List DItem} {K:Env→Heap→Prop} (hw:∃ c,e g.1=some (.val (.bool c))∧c≠g.2) (hk:dK P z n xs (updO e d pvu) h K):dK P z n (⟨i,⟨d,op,some g⟩,mask,iso,alt⟩ :: xs) e h K:=by
 obtain⟨s,b⟩:=g
 obtain⟨c,hc,hne⟩:=hw
 exact Zah (x:=⟨i,⟨d,op,some (s,b)⟩,mask,iso,alt⟩) rfl hc (fun h=>absurd h hne) fun _=>hk
theorem Zr {z:Rsv} {i mask:Nat} {f:Operand} {args:List Operand} {iso:Nat} {alt:Bool} {xs:List DItem} {K:Env→Heap→Prop} {g:FuncId} {caps as0 args':List PV} {v:PV} (hs:Spec P g args' (· = v)) (hf:ev e f=some (.fn g caps)) (ha:evs e args=some as0) (ha':as0++caps=args') (hp:pureL args') (hk:dK P z n xs (updO e d v) h K) :
 dK P z n (⟨i,⟨d,.call f args,none⟩,mask,iso,alt⟩ :: xs) e h K:=by
 subst ha'
 exact Z4t hf ha (.inl rfl) hs hp fun _ hr=>hr▸hk
theorem Z6Z {z:Rsv} {K:Env→Heap→Prop} (hk:K e h):dK P z n [] e h K:=Zgi hk
theorem Z70 {c:Operand} {x y:ACode} (hc:ev e c=some (.val (.bool true))) (hk:aw P C x Q n e h):aw P C (.cond c x y) Q n e h:=Z3G hc (fun _=>hk) fun h=>by cases h
theorem Z71 {c:Operand} {x y:ACode} (hc:ev e c=some (.val (.bool false))) (hk:aw P C y Q n e h):aw P C (.cond c x y) Q n e h:=Z3G hc (fun h=>by cases h) fun _=>hk
theorem Z5 {rs:List ARes} {R:PV→Prop} {r:PV} (hr:retAll rs e h=some r) (hp:r.pure) (hR:R r):∃ r0 r,retAll rs e h=some r0∧LoP r0 r∧r.pure∧R r:=⟨r,r,hr,.inl rfl,hp,hR⟩
theorem ZV {rs:List ARes} {R:PV→Prop} {r:PV} (hr:retAll rs e h=some r) (hp:r.low.pure) (hR:R r.low):∃ r0 r,retAll rs e h=some r0∧LoP r0 r∧r.pure∧R r:=⟨r,r.low,hr,.inr rfl,hp,hR⟩
def EnvIn (e:Env):List (Nat×PV)→Prop
 | []=>True
 | (k,p) :: r=>e k=some p∧EnvIn e r
theorem EnvIn.some {L:List (Nat×PV)} (he:EnvIn e L) {k:Nat} {p:PV} (hk:envL L k=some p):e k=some p:=by
 induction L with
 | nil=>cases hk
 | cons q r ih =>
   obtain⟨k',p'⟩:=q
   obtain⟨h1,h2⟩:=he
   simp only [envL] at hk
   by_cases hkk:k=k'
   · subst hkk; rw [Env.upd_same] at hk; cases hk; exact h1
   · rw [Env.upd_ne _ _ hkk] at hk; exact ih h2 hk
theorem Z94 {L:List (Nat×PV)} (he:EnvIn e L):Sub C n e h n (envL L) h:=by
 rintro a w ⟨F,φ,s⟩
 exact⟨F,φ,{ s with env:=fun k p hk=>s.env k p (he.some hk) }⟩
theorem Zee {h':Heap} (hh:∀ i b,h' i=some b→h i=some b):Sub C n e h n e h':=by
 rintro a w ⟨F,φ,s⟩
 exact⟨F,φ,{ s with live:=fun i b hb=>s.live i b (hh i b hb),sep:=fun i j bi bj li lj k hi hj=>s.sep i j bi bj li lj k (hh _ _ hi) (hh _ _ hj) }⟩
theorem Z2L {X:Type} (I:X→Prop) (μ:X→Nat) (L:X→List (Nat×PV)) {body:ACode} (x0:X) (h0:I x0) (hL:EnvIn e (L x0))
 (round:∀ x,I x→aw P C body (thenQ (fun n' e' h'=>∃ x',I x'∧μ x'<μ x∧n'=n∧h'=h∧EnvIn e' (L x')) Q) n (envL (L x)) h):aw P C (.loop body) Q n e h :=
 Z6U I μ (fun _=>n) (fun x=>envL (L x)) (fun _=>h) x0 h0 (Z94 hL) fun x hx=>Z4s (round x hx) fun ex n e h hq=>by
  cases ex with
  | normal=>obtain⟨x',h1,h2,rfl,rfl,h4⟩:=hq; exact⟨x',h1,h2,Z94 h4⟩
  | _=>exact hq
def EnvR (e:Env) (m:Nat):List (Nat×PV)→Prop
 | []=>True
 | (k,p) :: r=>(e k=some p∧p.inn (· < m))∧EnvR e m r
def HeapR (h:Heap) (m:Nat):List (Nat×Bx)→Prop
 | []=>True
 | (k,b) :: r=>(k<m∧h k=some b∧innLL (· < m) b.elems)∧HeapR h m r
theorem EnvR.some {m:Nat} {L:List (Nat×PV)} (he:EnvR e m L) {k:Nat} {p:PV} (hk:envL L k=some p):e k=some p∧p.inn (· < m):=by
 induction L with
 | nil=>cases hk
 | cons q r ih =>
   obtain⟨k',p'⟩:=q
   obtain⟨h1,h2⟩:=he
   simp only [envL] at hk
   by_cases hkk:k=k'
   · subst hkk; rw [Env.upd_same] at hk; cases hk; exact h1
   · rw [Env.upd_ne _ _ hkk] at hk; exact ih h2 hk
theorem HeapR.some {m:Nat} {L:List (Nat×Bx)} (he:HeapR h m L) {k:Nat} {p:Bx} (hk:heapL L k=some p):k<m∧h k=some p∧innLL (· < m) p.elems:=by
 induction L with
 | nil=>cases hk
 | cons q r ih =>
   obtain⟨k',p'⟩:=q
   obtain⟨h1,h2⟩:=he
   simp only [heapL] at hk
   by_cases hkk:k=k'
   · subst hkk; rw [Heap.upd_same] at hk; cases hk; exact h1
   · rw [Heap.upd_ne _ _ hkk] at hk; exact ih h2 hk
theorem Z3V {m n':Nat} (hdom:C.dom m) (hm:m≤n') {L:List (Nat×PV)} {HL:List (Nat×Bx)} (he:EnvR e n' L) (hh:HeapR h n' HL):Sub C n e h n' (envL L) (heapL HL):=by
 rintro a w ⟨F,φ,s⟩
 let φ':Locs:=fun i=>if i<n' then φ i else none
 have hφ:∀ i x,i<n'→φ i=some x→φ' i=some x:=fun i x hi hx=>by simp only [φ',hi,if_true]; exact hx
 refine⟨F,φ',{ nt:=s.nt,glob:=s.glob,marks:=s.marks,loc0:=fun i x hx=>?_,free:=fun i hi=>?_,env:=fun k p hp=>?_,froz:=s.froz,ext:=s.ext,old:=s.old,os:=s.os,tape:=s.tape,output:=s.output,size:=s.size,kept:=s.kept,live:=fun i b hb=>?_,sep:=?_ }⟩
 · have : ¬ i < n' := by omega
   simp only [φ',this,if_false]
 · obtain ⟨h0, hr⟩ := he.some hp
   exact⟨(s.env k p h0).1,(s.env k p h0).2.inn hφ hr⟩
 · by_cases him : i < m
   · exact hφ i x (by omega) (s.loc0 i x hx)
   · rw [hdom i (by omega)] at hx; cases hx
 · obtain ⟨hi, h0, hr⟩ := hh.some hb
   obtain⟨loc,h1,h2,h3⟩:=s.live _ b h0
   exact⟨loc,hφ i loc hi h1,h2.inn hφ hr,h3⟩
 · intro i j bi bj li lj k hi hj hli hlj hki hkj
   obtain⟨hin,h0,_⟩:=hh.some hi
   obtain⟨hjn,g0,_⟩:=hh.some hj
   have hli':φ i=some li:=by simpa only [φ',show i<n' from hin,if_true] using hli
   have hlj':φ j=some lj:=by simpa only [φ',show j<n' from hjn,if_true] using hlj
   exact s.sep _ _ bi bj li lj k h0 g0 hli' hlj' hki hkj
theorem Zl {X:Type} {m:Nat} (hdom:C.dom m) (I:X→Prop) (μ:X→Nat) (N:Nat) (L:X→List (Nat×PV)) (HL:X→List (Nat×Bx)) {body:ACode} (hm:m≤N) (x0:X) (h0:I x0) (hL:EnvR e N (L x0)) (hH:HeapR h N (HL x0))
 (round:∀ x,I x→aw P C body (thenQ (fun n' e' h'=>∃ x',I x'∧μ x'<μ x∧EnvR e' N (L x')∧HeapR h' N (HL x')) Q) N (envL (L x)) (heapL (HL x))):aw P C (.loop body) Q n e h :=
 Z6U I μ (fun _=>N) (fun x=>envL (L x)) (fun x=>heapL (HL x)) x0 h0 (Z3V hdom hm hL hH) fun x hx=>Z4s (round x hx) fun ex n e h hq=>by
  cases ex with
  | normal=>obtain⟨x',h1,h2,h3,h4⟩:=hq; exact⟨x',h1,h2,Z3V hdom hm h3 h4⟩
  | _=>exact hq
def EnvQ (ρ:Nat→Nat) (e:Env) (m:Nat):List (Nat×PV)→Prop
 | []=>True
 | (k,p) :: r=>(∃ p0,e k=some p0∧RenP ρ (· < m) p0 p)∧EnvQ ρ e m r
def HeapQ (ρ:Nat→Nat) (h:Heap) (m:Nat):List (Nat×Bx)→Prop
 | []=>True
 | (k,b) :: r=>(k<m∧∃ b0,h (ρ k)=some b0∧RenB ρ (· < m) b0 b)∧HeapQ ρ h m r
theorem EnvQ.mem {ρ:Nat→Nat} {m:Nat}:∀ {L:List (Nat×PV)},EnvQ ρ e m L→∀ q∈L,∃ p0,e q.1=some p0∧RenP ρ (· < m) p0 q.2
 | [],_,q,hq=>by cases hq
 | (k, p) :: r, h, q, hq => by
   rcases List.mem_cons.1 hq with rfl|hq
   · exact h.1
   · exact EnvQ.mem h.2 q hq
theorem HeapQ.mem {ρ:Nat→Nat} {m:Nat}:∀ {L:List (Nat×Bx)},HeapQ ρ h m L→∀ q∈L,q.1<m∧∃ b0,h (ρ q.1)=some b0∧RenB ρ (· < m) b0 q.2
 | [],_,q,hq=>by cases hq
 | (k, p) :: r, h, q, hq => by
   rcases List.mem_cons.1 hq with rfl|hq
   · exact h.1
   · exact HeapQ.mem h.2 q hq
def InjOn (ρ:Nat→Nat) (HL:List (Nat×Bx)):Prop:=∀ q∈HL,∀ q'∈HL,ρ q.1=ρ q'.1→q.1=q'.1
theorem Z1d {X:Type} {m:Nat} (hdom:C.dom m) (I:X→Prop) (μ:X→Nat) (N:Nat) (L:X→List (Nat×PV)) (HL:X→List (Nat×Bx)) {body:ACode} (hm:m≤N) (x0:X) (h0:I x0) (ρ0:Nat→Nat) (hρ0:∀ i,i<m→ρ0 i=i) (hi0:InjOn ρ0 (HL x0)) (hL:EnvQ ρ0 e N (L x0)) (hH:HeapQ ρ0 h N (HL x0))
 (round:∀ x,I x→aw P C body (thenQ (fun n' e' h'=>∃ x' ρ,I x'∧μ x'<μ x∧(∀ i,i<m→ρ i=i)∧InjOn ρ (HL x')∧EnvQ ρ e' N (L x')∧HeapQ ρ h' N (HL x')) Q) N (envL (L x)) (heapL (HL x))):aw P C (.loop body) Q n e h :=
 Z6U I μ (fun _=>N) (fun x=>envL (L x)) (fun x=>heapL (HL x)) x0 h0 (Z91 ρ0 hL.mem hH.mem hi0 hdom hm hρ0) fun x hx=>Z4s (round x hx) fun ex n e h hq=>by
  cases ex with
  | normal=>obtain⟨x',ρ,h1,h2,h3,h4,h5,h6⟩:=hq; exact⟨x',h1,h2,Z91 ρ h5.mem h6.mem h4 hdom hm h3⟩
  | _=>exact hq
theorem Z72 {m n':Nat} (hdom:C.dom m) (L:List (Nat×PV)) (HL:List (Nat×Bx)) (hm:m≤n') (he:EnvR e n' L) (hh:HeapR h n' HL) {ac:ACode} (hk:aw P C ac Q n' (envL L) (heapL HL)):aw P C ac Q n e h:=Z1U (Z3V hdom hm he hh) hk
theorem Zfa {m:Nat} (hdom:C.dom m) (A:Prop) (N:Nat) (L:List (Nat×PV)) (HL:List (Nat×Bx)) {x y:ACode} (hm:m≤N) (h1:aw P C x (thenQ (fun n e h=>A∧EnvR e N L∧HeapR h N HL) Q) n e h) (h2:A→aw P C y Q N (envL L) (heapL HL)):aw P C (.seq x y) Q n e h :=
 Zt (Z4s h1 fun ex n e h hq=>by
  cases ex with
  | normal=>obtain⟨ha,he,hh⟩:=hq; exact Z72 hdom L HL hm he hh (h2 ha)
  | _=>exact hq)
def roundsQ (P:Program) (C:Ctx) (body:ACode) (Q:Exit→Nat→Env→Heap→Prop):Nat→Nat→Env→Heap→Prop
 | 0=>fun n e h=>aw P C body (thenQ (fun _ _ _=>False) Q) n e h
 | m+1=>fun n e h=>aw P C body (thenQ (roundsQ P C body Q m) Q) n e h
theorem Z3W {body:ACode}:∀ (m:Nat) {n:Nat} {e:Env} {h:Heap},roundsQ P C body Q m n e h→P.follows .mixedOrders=true→∀ (FN:Fence) (k:Nat),FenceOk FN k∧LoopOk FN C→∀ c,cCode P C.nt c=some body→∀ a w,St C (fun i=>n≤i) e h a w→Code.roundsIn FN k P c (PostA C Q) (m+1) a w
 | 0, n, e, h, hk, hm, FN, k, hok, c, hc, a, w, hs => by
   unfold roundsQ at hk
   unfold aw at hk
   refine wpIn_mono (hk hm FN k hok c hc a w hs) fun x a w hp=>?_
   obtain⟨n,e,h,hQ,hS⟩:=hp
   cases x with
   | normal=>exact hQ.elim
   | _=>exact⟨n,e,h,hQ,hS⟩
 | m + 1, n, e, h, hk, hm, FN, k, hok, c, hc, a, w, hs => by
   unfold roundsQ at hk
   unfold aw at hk
   refine wpIn_mono (hk hm FN k hok c hc a w hs) fun x a w hp=>?_
   obtain⟨n,e,h,hQ,hS⟩:=hp
   cases x with
   | normal=>exact Z3W m hQ hm FN k hok c hc a w hS
   | _=>exact⟨n,e,h,hQ,hS⟩
theorem Z1V {body:ACode} (m:Nat) (hk:roundsQ P C body Q m n e h):aw P C (.loop body) Q n e h:=by
 unfold aw
 intro hm FN k hok c hc a w hs
 have:∃ c1,c=.loop c1∧cCode P C.nt c1=some body:=by
  unfold cCode at hc
  split at hc<;>first
   | (split at hc<;>first|(simp at hc; subst hc; exact⟨_,rfl,by assumption⟩)|(simp at hc; done)|((repeat' (split at hc))<;>simp at hc; done))
   | (simp at hc; done)
 obtain⟨c1,rfl,h1⟩:=this
 exact wpIn_loop_rounds (m+1) (Z3W m hk hm FN k hok c1 h1 a w hs)
end
end Go.Proofs.YtmnbbggaoembeaaGreatDoor
namespace Go.Proofs.YtmnbbggaoembeaaGreatDoor
open Go.RowKit
structure Br (b:Bool) (p q:Prop):Prop where
 yes:b=true→p
 no:b=false→q
theorem B {b:Bool} {p q:Prop} (h1:b=true→p) (h2:b=false→q):Br b p q:=⟨h1,h2⟩
def PV.isB:PV→Bool
 | .val (.bool _)=>true
 | _=>false
section
variable {P:Program} {C:Ctx} {n:Nat} {e:Env} {h:Heap} {Q:Exit→Nat→Env→Heap→Prop} {os:List AOper} {d:Option Nat} {K:Nat→Env→Heap→Prop} {z:Rsv} {KD:Env→Heap→Prop} {q1 q2:Prop}
theorem Z95 {op:AOp} {p:PV} {h':Heap} (hd:dEval op e h n=some (p,h')) (hb:p.isB=false) (hn:isCall op=false) (hz:h' n=none) (hk:opsK P os n (updO e d p) h' K):opsK P (⟨d,op,none⟩ :: os) n e h K:=Z0 hd hn hz hk
theorem Zcv {op:AOp} {b:Bool} {h':Heap} (hd:dEval op e h n=some (.val (.bool b),h')) (hn:isCall op=false) (hz:h' n=none) (h1:q1→opsK P os n (updO e d (.val (.bool true))) h' K) (h2:q2→opsK P os n (updO e d (.val (.bool false))) h' K)   : Br b q1 q2→opsK P (⟨d,op,none⟩ :: os) n e h K :=
 fun hq=>Zn hd hn hz (fun hb=>h1 (hq.yes hb)) fun hb=>h2 (hq.no hb)
theorem Z3n {op:AOp} {h':Heap} (v:Bool) (hd:dEval op e h n=some (.val (.bool v),h')) (hn:isCall op=false) (hz:h' n=none) (hk:opsK P os n (updO e d (.val (.bool v))) h' K):opsK P (⟨d,op,none⟩ :: os) n e h K:=Z0 hd hn hz hk
theorem Zfv {i mask:Nat} {op:AOp} {iso:Nat} {xs:List DItem} {p:PV} {h':Heap} (hd:dEval op e h (n+i)=some (p,h')) (hb:p.isB=false) (ha:accOk z op e n i mask iso=true) (hn:isCall op=false) (hk:dK P z n xs (updO e d p) h' KD):dK P z n (⟨i,⟨d,op,none⟩,mask,iso,false⟩ :: xs) e h KD:=Zd hd ha hn hk
theorem Z6g {i mask:Nat} {op:AOp} {iso:Nat} {xs:List DItem} {h':Heap} (v:Bool) (hd:dEval op e h (n+i)=some (.val (.bool v),h')) (ha:accOk z op e n i mask iso=true) (hn:isCall op=false) (hk:dK P z n xs (updO e d (.val (.bool v))) h' KD):dK P z n (⟨i,⟨d,op,none⟩,mask,iso,false⟩ :: xs) e h KD:=Zd hd ha hn hk
theorem Zgk {i mask:Nat} {op:AOp} {iso:Nat} {xs:List DItem} {b:Bool} {h':Heap} (hd:dEval op e h (n+i)=some (.val (.bool b),h')) (ha:accOk z op e n i mask iso=true) (hn:isCall op=false) (h1:q1→dK P z n xs (updO e d (.val (.bool true))) h' KD) (h2:q2→dK P z n xs (updO e d (.val (.bool false))) h' KD)   : Br b q1 q2→dK P z n (⟨i,⟨d,op,none⟩,mask,iso,false⟩ :: xs) e h KD :=
 fun hq=>Z6Y hd ha hn (fun hb=>h1 (hq.yes hb)) fun hb=>h2 (hq.no hb)
theorem Zgl {c:Operand} {x y:ACode} {b:Bool} (hc:ev e c=some (.val (.bool b))) (h1:q1→aw P C x Q n e h) (h2:q2→aw P C y Q n e h)   : Br b q1 q2→aw P C (.cond c x y) Q n e h:=fun hq=>Z3G hc (fun hb=>h1 (hq.yes hb)) fun hb=>h2 (hq.no hb)
end
theorem go {p q:Prop} (hk:q) (hr:q→p:=by
 intro hq
 repeat' (first
  | (show opsK _ _ _ _ _ _; first|refine Z95 rfl rfl rfl rfl ?_|refine Z1p ?_|refine Zi rfl ?_|refine Z6X rfl ?_|refine Z3n true rfl rfl rfl ?_|refine Z3n false rfl rfl rfl ?_|(revert hq; refine' Zcv rfl rfl rfl _ _<;>first|intro hq|skip)|refine ZU rfl rfl rfl ?_)
  | (show aw _ _ _ _ _ _ _; first|refine Zt ?_|refine Zh ?_|refine Z5g [] ?_|refine Z70 rfl ?_|refine Z71 rfl ?_|(revert hq; refine' Zgl rfl _ _<;>first|intro hq|skip)|refine Z6T ?_|refine Z8Z ?_|refine Z90 ?_|refine Zcp ?_)
  | (show dK _ _ _ _ _ _ _; first|refine Zfv rfl rfl rfl rfl ?_|refine Z6Z ?_|refine Z26 rfl ?_|refine Zcu ⟨_,rfl,nofun⟩ ?_|refine Z6g true rfl rfl rfl ?_|refine Z6g false rfl rfl rfl ?_|(revert hq; refine' Zgk rfl rfl rfl _ _<;>first|intro hq|skip)))
 all_goals first|exact hq|skip):p:=hr hk
theorem st {p q:Prop} (hk:q) (hr:q→p:=by
 intro hq
 (first
   | (show opsK _ _ _ _ _ _; first|refine Z95 rfl rfl rfl rfl ?_|refine Z1p ?_|refine Zi rfl ?_|refine Z6X rfl ?_|refine Z3n true rfl rfl rfl ?_|refine Z3n false rfl rfl rfl ?_|(revert hq; refine' Zcv rfl rfl rfl _ _<;>first|intro hq|skip)|refine ZU rfl rfl rfl ?_)
   | (show aw _ _ _ _ _ _ _; first|refine Zt ?_|refine Zh ?_|refine Z5g [] ?_|refine Z70 rfl ?_|refine Z71 rfl ?_|(revert hq; refine' Zgl rfl _ _<;>first|intro hq|skip)|refine Z6T ?_|refine Z8Z ?_|refine Z90 ?_|refine Zcp ?_)
   | (show dK _ _ _ _ _ _ _; first|refine Zfv rfl rfl rfl rfl ?_|refine Z6Z ?_|refine Z26 rfl ?_|refine Zcu ⟨_,rfl,nofun⟩ ?_|refine Z6g true rfl rfl rfl ?_|refine Z6g false rfl rfl rfl ?_|(revert hq; refine' Zgk rfl rfl rfl _ _<;>first|intro hq|skip)))
 all_goals first|exact hq|skip):p:=hr hk
structure At (p:Prop):Prop where
 h:p
theorem Zcw {P:Program} (k:Nat) {z:Rsv} {i mask iso:Nat} {alt:Bool} {op:AOp} {g:Option (Nat×Bool)} {xs:List DItem} {n:Nat} {e:Env} {h:Heap} {K:Env→Heap→Prop} (hk:At (dK P z n (⟨i,⟨some k,op,g⟩,mask,iso,alt⟩ :: xs) e h K)):dK P z n (⟨i,⟨some k,op,g⟩,mask,iso,alt⟩ :: xs) e h K:=hk.h
structure AtK (k:Nat) (p:Prop):Prop where
 h:p
theorem Zhm {P:Program} {k:Nat} {op:AOp} {g:Option (Nat×Bool)} {os:List AOper} {n:Nat} {e:Env} {h:Heap} {K:Nat→Env→Heap→Prop} (hk:AtK k (opsK P (⟨some k,op,g⟩ :: os) n e h K)):opsK P (⟨some k,op,g⟩ :: os) n e h K:=hk.h
theorem Zh2 {P:Program} {k:Nat} {z:Rsv} {i mask iso:Nat} {alt:Bool} {op:AOp} {g:Option (Nat×Bool)} {xs:List DItem} {n:Nat} {e:Env} {h:Heap} {K:Env→Heap→Prop} (hk:AtK k (dK P z n (⟨i,⟨some k,op,g⟩,mask,iso,alt⟩ :: xs) e h K)):dK P z n (⟨i,⟨some k,op,g⟩,mask,iso,alt⟩ :: xs) e h K:=hk.h
theorem gd (k:Nat) {p q:Prop} (hk:AtK k q) (hr:AtK k q→p:=by
 intro hq
 repeat' (first
  | exact Zhm hq
  | exact Zh2 hq
  | (show opsK _ _ _ _ _ _; first|refine Z95 rfl rfl rfl rfl ?_|refine Z1p ?_|refine Zi rfl ?_|refine Z6X rfl ?_|refine Z3n true rfl rfl rfl ?_|refine Z3n false rfl rfl rfl ?_|refine ZU rfl rfl rfl ?_)
  | (show aw _ _ _ _ _ _ _; first|refine Zt ?_|refine Zh ?_|refine Z5g [] ?_|refine Z70 rfl ?_|refine Z71 rfl ?_|refine Z6T ?_|refine Z8Z ?_|refine Z90 ?_|refine Zcp ?_)
  | (show dK _ _ _ _ _ _ _; first|refine Zfv rfl rfl rfl rfl ?_|refine Z6Z ?_|refine Z26 rfl ?_|refine Zcu ⟨_,rfl,nofun⟩ ?_|refine Z6g true rfl rfl rfl ?_|refine Z6g false rfl rfl rfl ?_))
 done):p:=hr hk
end Go.Proofs.YtmnbbggaoembeaaGreatDoor
namespace Go.Proofs.YtmnbbggaoembeaaGreatDoor
open Go.RowKit Go.ChangeShapes
def cellF (w:World):Froz:=fun x=>match x.spot with
 | none => match w.cell? x with
   | some v=>if v.oneCell' then some v else none
   | none=>none
 | some _=>none
def GlobsIn (w:World):Prop:=∀ (g j:Nat) (v:Value),(globs g)[j]?=some v→w.cell? ⟨g,j,none⟩=some v
theorem Z96 {w:World} (hgl:GlobsIn w):Holds (cellF w) w:=by
 refine⟨?_,fun g j v hv=>by
  have h1:=hgl g j v hv
  have h2:=Zc1 g j v hv
  simp [cellF,h1,h2]⟩
 intro x v hx
 unfold cellF at hx
 split at hx
 · rename_i hs
   split at hx
   · rename_i u hu
     split at hx
     · rename_i h1
       cases hx
       exact⟨hs,h1,hu⟩
     · cases hx
   · cases hx
 · cases hx
theorem Zef {w:World} {b o:Nat} {v:Value} (hc:w.cell? ⟨b,o,none⟩=some v) (h1:v.oneCell'=true):cellF w ⟨b,o,none⟩=some v:=by
 simp [cellF,hc,h1]
def Shape (P:Program):Nat→TypeId→List PV→Prop
 | 0,_,_=>False
 | n + 1, t, ps => match P.underlying t with
   | some .bool=>∃ b,ps = [.val (.bool b)]
   | some (.int k)=>∃ m,(Lit.int k m).wf=true∧ps = [.val (.int k m)]
   | some .string=>∃ s,s.size≤maxVec∧ps = [.val (.string s)]
   | some (.pointer e)=>ps = [.val (.pointer none)] ∨ ∃ l,Shape P n e l∧ps = [.cp l]
   | some (.slice e)=>∃ ll fl,ll.length≤maxVec∧(∀ l∈ll,Shape P n e l)∧ps = [.vec ll fl]
   | some (.struct fs)=>ps.length=P.cellsOf t∧∀ f∈fs.toList,Shape P n f.type ((ps.drop f.offset).take (P.cellsOf f.type))
   | some (.array m e)=>ps.length=P.cellsOf t∧∀ i,i<m→Shape P n e ((ps.drop (i*P.cellsOf e)).take (P.cellsOf e))
   | _=>∃ v,ps = [.val v]
theorem mapM_some' {α β:Type} {f:α→Option β}:∀ {l:List α} {ys:List β},l.mapM f=some ys→ys.length=l.length∧∀ i (h:i<l.length) (h':i<ys.length),f l[i]=some ys[i]
 | [], ys, h => by
   obtain rfl : []=ys:=by simpa using h
   exact⟨rfl,fun i hi=>absurd hi (Nat.not_lt_zero _)⟩
 | a :: l, ys, h => by
   rw [List.mapM_cons] at h
   cases ha:f a with
   | none=>simp [ha] at h
   | some b =>
     cases hl:l.mapM f with
     | none=>simp [ha,hl] at h
     | some bs =>
       obtain rfl:b :: bs=ys:=by simpa [ha,hl] using h
       obtain⟨h1,h2⟩:=mapM_some' hl
       refine⟨by simp [h1],fun i hi hi'=>?_⟩
       cases i with
       | zero=>simpa using ha
       | succ i=>simpa using h2 i (by simpa using hi) (by simpa using hi')
theorem cells?_some {w:World} {a:Addr} {n:Nat} {cs:List Value} (h:w.cells? 0 a n=some cs):cs.length=n∧∀ j,(hj:j<cs.length)→w.cell? (a.add j)=some cs[j]:=by
 unfold World.cells? at h
 rw [if_pos (Nat.zero_le _)] at h
 obtain⟨h1,h2⟩:=mapM_some' h
 have hn:cs.length=n:=by simpa using h1
 refine⟨hn,fun j hj=>?_⟩
 have:=h2 j (by simp;omega) hj
 simpa using this
structure CellsR (w:World) (cs:List Value) (ps:List PV):Prop where
 len:cs.length=ps.length
 one:∀ j,j<ps.length→(cs.getD j undef).oneCell'=true
 rep:∀ j,j<ps.length→Rep (cellF w) noLoc (cs.getD j undef) (ps.getD j pvu)
 pure:pureL ps
theorem CellsR.single {w:World} {v:Value} {p:PV} (h1:v.oneCell'=true) (hr:Rep (cellF w) noLoc v p) (hp:p.pure):CellsR w [v] [p] :=
 ⟨rfl, fun j hj => by obtain rfl : j = 0 := by simpa using hj
                      exact h1, fun j hj => by obtain rfl : j = 0 := by simpa using hj
                                               exact hr,hp,trivial⟩
theorem CellsR.nil {w:World}:CellsR w [] []:=⟨rfl,fun j hj=>absurd hj (Nat.not_lt_zero _),fun j hj=>absurd hj (Nat.not_lt_zero _),trivial⟩
theorem CellsR.append {w:World} {cs cs':List Value} {ps ps':List PV} (h:CellsR w cs ps) (h':CellsR w cs' ps'):CellsR w (cs++cs') (ps++ps'):=by
 refine⟨by simp [h.len,h'.len],fun j hj=>?_,fun j hj=>?_,(Z13 _ _).2 fun p hp=>?_⟩
 · by_cases hl : j < ps.length
   · have := h.one j hl
     simpa [List.getD_eq_getElem?_getD,List.getElem?_append,h.len,hl] using this
   · have := h'.one (j - ps.length) (by simp at hj; omega)
     simpa [List.getD_eq_getElem?_getD,List.getElem?_append,h.len,hl] using this
 · by_cases hl : j < ps.length
   · have := h.rep j hl
     simpa [List.getD_eq_getElem?_getD,List.getElem?_append,h.len,hl] using this
   · have := h'.rep (j - ps.length) (by simp at hj; omega)
     simpa [List.getD_eq_getElem?_getD,List.getElem?_append,h.len,hl] using this
 · rcases List.mem_append.1 hp with hp | hp
   · exact (Z13 _ _).1 h.pure p hp
   · exact (Z13 _ _).1 h'.pure p hp
def tile (P:Program) (off:Nat) (total:Nat):List Field→Bool
 | []=>off == total
 | f :: r=>f.offset == off&&tile P (off+P.cellsOf f.type) total r
def tilesT (P:Program) (G:List TypeId) (t:TypeId):Bool:=match P.underlying t with
 | some (.struct fs)=>tile P 0 (P.cellsOf t) fs.toList&&fs.toList.all fun f=>G.contains f.type
 | some (.array m e)=>P.cellsOf t == m*P.cellsOf e&&G.contains e
 | some (.slice e)=>decide (0<P.bytesOf e)&&decide (0<P.cellsOf e)&&G.contains e
 | some (.pointer e)=>decide (0<P.cellsOf e)&&G.contains e
 | _=>true
def tilesB (P:Program) (G:List TypeId):Bool:=G.all (tilesT P G)
theorem Zcx {P:Program} {G:List TypeId} (h:tilesB P G=true) {t:TypeId} (ht:G.contains t=true):tilesT P G t=true:=List.all_eq_true.1 h t (by simpa using ht)
def partsG (P:Program) (ts:List TypeId):List TypeId:=ts.flatMap P.book
theorem Z4N {P:Program} {w:World} {S:TypeId→List PV→Prop} {cs:List Value}:∀ {fs:List Field} {off total:Nat},tile P off total fs=true→cs.length=total →
 (∀ f∈fs,∃ ps,S f.type ps∧CellsR w ((cs.drop f.offset).take (P.cellsOf f.type)) ps)→off≤total∧∃ ps,CellsR w (cs.drop off) ps∧∀ f∈fs,off≤f.offset∧S f.type ((ps.drop (f.offset-off)).take (P.cellsOf f.type))
 | [], off, total, ht, hl, _ => by
   obtain rfl:off=total:=by simpa [tile] using ht
   refine⟨Nat.le_refl _,[],?_,fun f hf=>by cases hf⟩
   rw [List.drop_eq_nil_of_le (by omega)]
   exact .nil
 | f :: r, off, total, ht, hl, hf => by
   simp only [tile,Bool.and_eq_true,beq_iff_eq] at ht
   obtain⟨rfl,ht⟩:=ht
   obtain⟨hle,ps2,hc2,hs2⟩:=Z4N ht hl fun g hg=>hf g (by simp [hg])
   obtain⟨ps1,hs1,hc1⟩:=hf f (by simp)
   have hl1:ps1.length=P.cellsOf f.type:=by rw [← hc1.len]; simp; omega
   refine⟨by omega,ps1++ps2,?_,fun g hg=>?_⟩
   · have := hc1.append hc2
     rw [← List.drop_drop,List.take_append_drop] at this
     exact this
   · rcases List.mem_cons.1 hg with rfl | hg
     · refine ⟨Nat.le_refl _, ?_⟩
       rw [Nat.sub_self,List.drop_zero,← hl1,List.take_left]
       exact hs1
     · obtain ⟨h1, h2⟩ := hs2 g hg
       refine⟨by omega,?_⟩
       have e:g.offset-f.offset=ps1.length+(g.offset-(f.offset+P.cellsOf f.type)):=by omega
       rw [e,← List.drop_drop,List.drop_left]
       exact h2
theorem Z5j {w:World} {S:List PV→Prop} {cs:List Value} {sz:Nat}:∀ {m:Nat},cs.length=m*sz→(∀ i,i<m→∃ ps,S ps∧CellsR w ((cs.drop (i*sz)).take sz) ps)→∃ ps,CellsR w cs ps∧∀ i,i<m→S ((ps.drop (i*sz)).take sz)
 | 0, hl, _ => by
   obtain rfl:cs = []:=List.eq_nil_of_length_eq_zero (by simpa using hl)
   exact⟨[],.nil,fun i hi=>absurd hi (Nat.not_lt_zero _)⟩
 | m + 1, hl, hf => by
   have hlm:(cs.take (m*sz)).length=m*sz:=by rw [List.length_take,hl]; exact Nat.min_eq_left (Nat.mul_le_mul_right _ (by omega))
   obtain⟨ps1,hc1,hs1⟩:=Z5j (cs:=cs.take (m*sz)) hlm fun i hi=>by
    obtain⟨ps,h1,h2⟩:=hf i (by omega)
    refine⟨ps,h1,?_⟩
    rw [List.drop_take,List.take_take,Nat.min_eq_left (by
     have:(i+1)*sz≤m*sz:=Nat.mul_le_mul_right _ hi
     rw [Nat.add_mul] at this;omega)]
    exact h2
   obtain⟨ps2,hs2,hc2⟩:=hf m (by omega)
   have hl1:ps1.length=m*sz:=by rw [← hc1.len,hlm]
   have hd:(cs.drop (m*sz)).take sz=cs.drop (m*sz):=List.take_of_length_le (by rw [List.length_drop,hl,Nat.add_mul];omega)
   rw [hd] at hc2
   have hl2:ps2.length=sz:=by rw [← hc2.len,List.length_drop,hl,Nat.add_mul]; omega
   refine⟨ps1++ps2,by have:=hc1.append hc2; rwa [List.take_append_drop] at this,fun i hi=>?_⟩
   by_cases him:i<m
   · have hle : i * sz + sz ≤ ps1.length := by
      have:(i+1)*sz≤m*sz:=Nat.mul_le_mul_right _ him
      rw [Nat.add_mul] at this; omega
     rw [List.drop_append_of_le_length (by omega),List.take_append_of_le_length (by rw [List.length_drop];omega)]
     exact hs1 i him
   · obtain rfl : i = m := by omega
     rw [← hl1,List.drop_left,List.take_of_length_le (by omega)]
     exact hs2
theorem Z2t {H:Type} {P:Program} {e:TypeId}:∀ {ds:List (DataW H)} {d:DataW H},d∈ds→∀ x∈d.weights P e,x∈DataW.weightsAll P e ds
 | [],_,h,_,_=>by cases h
 | a :: r, d, h, x, hx => by
   rw [DataW.weightsAll,List.mem_append]
   rcases List.mem_cons.1 h with rfl|h
   · exact .inl hx
   · exact .inr (Z2t h x hx)
theorem Z33 {H:Type} {P:Program}:∀ {ts:List TypeId} {ds:List (DataW H)} {i:Nat} {t:TypeId} {d:DataW H},ts[i]?=some t→ds[i]?=some d→∀ x∈d.weights P t,x∈DataW.weightsEach P ts ds
 | [],_,i,t,d,h,_,_,_=>by simp at h
 | a :: ts,[],i,t,d,_,h,_,_=>by simp at h
 | a :: ts, b :: ds, 0, t, d, h, h', x, hx => by
   obtain rfl:a=t:=by simpa using h
   obtain rfl:b=d:=by simpa using h'
   rw [DataW.weightsEach,List.mem_append]
   exact .inl hx
 | a :: ts, b :: ds, i + 1, t, d, h, h', x, hx => by
   rw [DataW.weightsEach,List.mem_append]
   exact .inr (Z33 (i:=i) (by simpa using h) (by simpa using h') x hx)
section
variable {H:Type} {enc:TypeId×Value→H} {P:Program} {w:World} {sp:Nat→Bool}
theorem Z7V {a:Addr} {n:Nat} {cs:List Value} {ps:List PV} (hc:w.cells? 0 a n=some cs) (hs:a.spot=none) (h:CellsR w cs ps):ps.length=n∧∀ j,j<ps.length→cellF w ⟨a.block,a.off+j,none⟩=some (cs.getD j undef):=by
 obtain⟨h1,h2⟩:=cells?_some hc
 refine⟨by rw [← h.len,h1],fun j hj=>?_⟩
 have hj':j<cs.length:=by rw [h.len]; exact hj
 have:=h2 j hj'
 rw [ZE _ _ hs] at this
 have e:cs.getD j undef=cs[j]:=by simp [List.getD_eq_getElem?_getD,hj']
 rw [e]
 exact Zef this (by rw [← e]; exact h.one j hj)
theorem Zal {a:Addr} {n:Nat} {cs:List Value} (hc:w.cells? 0 a n=some cs) (hn:0<n):a.spot=none:=by
 obtain⟨h1,h2⟩:=cells?_some hc
 have:=h2 0 (by omega)
 have e:a.add 0=a:=rfl
 rw [e] at this
 cases hs:a.spot with
 | none=>rfl
 | some k =>
   unfold World.cell? at this
   rw [hs] at this
   split at this<;>simp at this
theorem Z5k {α:Type} (z:α) {Q:Nat→α→Prop}:∀ {n:Nat},(∀ i,i<n→∃ x,Q i x)→∃ l:List α,l.length=n∧∀ i,i<n→Q i (l.getD i z)
 | 0,_=>⟨[],rfl,fun i hi=>absurd hi (Nat.not_lt_zero _)⟩
 | n + 1, h => by
   obtain⟨l,hl,hq⟩:=Z5k z (n:=n) fun i hi=>h i (by omega)
   obtain⟨x,hx⟩:=h n (by omega)
   refine⟨l ++ [x],by simp [hl],fun i hi=>?_⟩
   by_cases hin:i<n
   · have := hq i hin
     simpa [List.getD_eq_getElem?_getD,List.getElem?_append,hl,hin] using this
   · obtain rfl : i = n := by omega
     simpa [List.getD_eq_getElem?_getD,List.getElem?_append,hl] using hx
theorem Z1y {G:List TypeId} (hT:tilesB P G=true):∀ {fuel:Nat} {t:TypeId} {cs:List Value} {d:DataW H} {pl:List MemPlace},G.contains t=true→DataW.trod enc P w 0 sp true fuel t cs=some (d,pl)→(∀ x∈d.weights P t,x≤reachBytes)→∃ ps,Shape P fuel t ps∧CellsR w cs ps
 | 0,_,_,_,_,_,h,_=>by simp [DataW.trod] at h
 | fuel + 1, t, cs, d, pl, ht, h, hw => by
   have hTt:=Zcx hT ht
   unfold tilesT at hTt
   have other:∀ v:Value,v.oneCell'=true→cs = [v]→(match P.underlying t with
    | some .bool|some (.int _)|some .string|some (.pointer _)|some (.slice _)|some (.struct _)|some (.array _ _)=>False
    | _=>True)→∃ ps,Shape P (fuel+1) t ps∧CellsR w cs ps:=by
    intro v h1 hcs hu
    refine⟨[.val v],?_,hcs▸.single h1 (.val v) trivial⟩
    unfold Shape
    split at hu<;>first|exact hu.elim|skip
    first|exact⟨v,rfl⟩|(split<;>first|exact⟨v,rfl⟩|simp_all)
   unfold DataW.trod at h
   split at h
   · rename_i b hu
     exact⟨[.val (.bool b)],by simp [Shape,hu],.single rfl (.val _) trivial⟩
   · rename_i k k' m hu
     split at h
     · rename_i hk
       obtain⟨rfl,hwf⟩:=hk
       exact⟨[.val (.int k' m)],by simp [Shape,hu,hwf],.single rfl (.val _) trivial⟩
     · cases h
   · rename_i k k' m hu
     exact other _ rfl rfl (by rw [hu]; trivial)
   · rename_i str hu
     split at h
     · cases h
       refine⟨[.val (.string str)],?_,.single rfl (.val _) trivial⟩
       have:=hw str.data.toList.length (by simp [DataW.weights])
       have hs:str.size≤maxVec:=by
        have e:str.data.toList.length=str.size:=Array.length_toList
        rw [e] at this
        simp only [reachBytes] at this
        simp only [maxVec]
        omega
       simp [Shape,hu,hs]
     · cases h
   · rename_i e hu
     exact⟨[.val (.pointer none)],by simp [Shape,hu],.single rfl (.val _) trivial⟩
   · rename_i e a hu
     rw [hu] at hTt
     simp only [Bool.and_eq_true,decide_eq_true_eq] at hTt
     cases hc:w.cells? 0 a (P.cellsOf e) with
     | none=>simp [hc] at h
     | some cs' =>
       cases hr:DataW.trod enc P w 0 sp true fuel e cs' with
       | none=>simp [hc,hr] at h
       | some r =>
         obtain⟨d',pl'⟩:=r
         have hd:d=.ptr d':=by simp [hc,hr] at h; exact h.1.symm
         subst hd
         obtain⟨l,hs,hcl⟩:=Z1y hT hTt.2 hr (fun x hx=>hw x (by simp only [DataW.weights,hu]; exact hx))
         have hspot:=Zal hc hTt.1
         obtain⟨hl,hF⟩:=Z7V hc hspot hcl
         refine⟨[.cp l],by simp only [Shape,hu]; exact .inr ⟨l,hs,rfl⟩,.single rfl ?_ hcl.pure⟩
         exact .cp a l (fun j=>cs'.getD j undef) hspot hF hcl.rep
   · rename_i e hu
     exact⟨[.vec [] true],by simp only [Shape,hu]; exact⟨[],true,by simp,by simp,rfl⟩,.single rfl (.vecnil true) trivial⟩
   · rename_i e a len cap hu
     rw [hu] at hTt
     simp only [Bool.and_eq_true,decide_eq_true_eq] at hTt
     obtain⟨⟨hby,hsz⟩,het⟩:=hTt
     simp only at h
     split at h
     case isFalse=>cases h
     rename_i hcond
     cases hm:(List.range len).mapM (fun i=>(w.cells? 0 (a.add (i*P.cellsOf e)) (P.cellsOf e)).bind (DataW.trod enc P w 0 sp true fuel e)) with
     | none=>simp [hm] at h
     | some elems =>
       obtain⟨hel,hget⟩:=mapM_some' hm
       have hd:∃ rest:List (DataW H×List MemPlace),d=.slice (elems.map (·.1)) (rest.map (·.1)):=by
        rw [hm] at h
        simp only [Option.bind_some,Option.map_eq_some_iff] at h
        obtain⟨rest,_,h2⟩:=h
        exact⟨rest,by cases h2; rfl⟩
       obtain⟨rest,rfl⟩:=hd
       have hlen:elems.length=len:=by simpa using hel
       have hbound:len≤maxVec:=by
        have:=hw ((elems.length+rest.length)*P.bytesOf e) (by simp [DataW.weights,hu])
        have h3:elems.length+rest.length≤(elems.length+rest.length)*P.bytesOf e:=Nat.le_mul_of_pos_right _ hby
        simp only [reachBytes] at this
        simp only [maxVec]
        omega
       have each:∀ i,i<len→∃ cs' d' pl',w.cells? 0 (a.add (i*P.cellsOf e)) (P.cellsOf e)=some cs'∧DataW.trod enc P w 0 sp true fuel e cs'=some (d',pl')∧d'∈elems.map (·.1):=fun i hi=>by
        have:=hget i (by simpa using hi) (by omega)
        simp only [List.getElem_range,Option.bind_eq_some_iff] at this
        obtain⟨cs',h1,h2⟩:=this
        exact⟨cs',_,_,h1,h2,List.mem_map.2 ⟨elems[i],List.getElem_mem _,rfl⟩⟩
       have hspot:0<len→a.spot=none:=fun h0=>by
        obtain⟨cs',d',pl',h1,_⟩:=each 0 h0
        rw [Nat.zero_mul] at h1
        exact Zal h1 hsz
       obtain⟨ll,hll,hq⟩:=Z5k (α:=List PV) [] (n:=len) (Q:=fun i l=>Shape P fuel e l∧l.length=P.cellsOf e∧pureL l∧∀ j,j<P.cellsOf e→∃ v,cellF w ⟨a.block,a.off+(i*P.cellsOf e+j),none⟩=some v∧Rep (cellF w) noLoc v (l.getD j pvu)) fun i hi=>by
        obtain⟨cs',d',pl',h1,h2,h3⟩:=each i hi
        obtain⟨l,hs,hcl⟩:=Z1y hT het h2 (fun x hx=>hw x (by simp only [DataW.weights,hu]; exact List.mem_cons_of_mem _ (List.mem_append.2 (.inl (Z2t h3 x hx)))))
        rw [ZE _ _ (hspot (by omega))] at h1
        obtain⟨hl,hF⟩:=Z7V h1 rfl hcl
        refine⟨l,hs,hl,hcl.pure,fun j hj=>⟨_,?_,hcl.rep j (by omega)⟩⟩
        have:=hF j (by omega)
        simp only at this
        rw [Nat.add_assoc] at this
        exact this
       have hmem:∀ l∈ll,∃ i,i<len∧ll.getD i []=l:=fun l hl=>by
        obtain⟨i,hi,rfl⟩:=List.getElem_of_mem hl
        exact⟨i,by omega,by simp [List.getD_eq_getElem?_getD,hi]⟩
       refine⟨[.vec ll false],?_,.single rfl ?_ ((Z1S _ _).2 fun l hl=>?_)⟩
       · simp only [Shape, hu]
         exact⟨ll,false,by omega,fun l hl=>by obtain⟨i,hi,rfl⟩:=hmem l hl; exact (hq i hi).1,rfl⟩
       · rw [← hll]
         refine .vec a cap (P.cellsOf e) ll false (fun i j=>(cellF w ⟨a.block,a.off+(i*P.cellsOf e+j),none⟩).getD undef) (fun hne=>hspot (by rw [← hll]; exact List.length_pos_iff.2 hne)) (by omega) (by simp) (by omega) (fun i hi=>(hq i (by omega)).2.1) (fun i j hi hj=>?_) (fun i j hi hj=>?_)
         · obtain ⟨v, h1, _⟩ := (hq i (by omega)).2.2.2 j hj
           rw [h1]; rfl
         · obtain ⟨v, h1, h2⟩ := (hq i (by omega)).2.2.2 j hj
           rw [h1]; exact h2
       · obtain ⟨i, hi, rfl⟩ := hmem l hl
         exact (hq i hi).2.2.1
   · rename_i cs _ _ fs hu
     rw [hu] at hTt
     simp only [Bool.and_eq_true,List.all_eq_true,decide_eq_true_eq] at hTt
     obtain⟨htile,hft⟩:=hTt
     split at h
     case isFalse=>cases h
     rename_i hlen
     cases hm:fs.toList.mapM (fun f=>DataW.trod enc P w 0 sp true fuel f.type ((cs.drop f.offset).take (P.cellsOf f.type))) with
     | none=>simp [hm] at h
     | some xs =>
       obtain⟨hxl,hget⟩:=mapM_some' hm
       obtain rfl:d=.agg (xs.map (·.1)):=by simp [hm] at h; exact h.1.symm
       obtain⟨_,ps,hc,hs⟩:=Z4N (P:=P) (S:=fun t ps=>Shape P fuel t ps) htile hlen fun f hf=>by
        obtain⟨i,hi,rfl⟩:=List.getElem_of_mem hf
        have h2:=hget i hi (by omega)
        refine Z1y hT (hft _ hf) (d := (xs[i]'(by omega)).1) (pl := (xs[i]'(by omega)).2) h2 fun x hx => hw x ?_
        simp only [DataW.weights,hu]
        exact Z33 (i := i) (t := fs.toList[i].type) (d := (xs[i]'(by omega)).1) (by rw [List.getElem?_map,List.getElem?_eq_getElem hi]; rfl) (by rw [List.getElem?_map,List.getElem?_eq_getElem (by omega)]; rfl) x hx
       rw [List.drop_zero] at hc
       refine⟨ps,?_,hc⟩
       simp only [Shape,hu]
       exact⟨by rw [← hc.len]; exact hlen,fun f hf=>by have:=(hs f hf).2; rwa [Nat.sub_zero] at this⟩
   · rename_i cs _ _ m e hu
     rw [hu] at hTt
     simp only [Bool.and_eq_true,beq_iff_eq,decide_eq_true_eq] at hTt
     obtain⟨htile,het⟩:=hTt
     split at h
     case isFalse=>cases h
     rename_i hlen
     cases hm:(List.range m).mapM (fun i=>DataW.trod enc P w 0 sp true fuel e ((cs.drop (i*P.cellsOf e)).take (P.cellsOf e))) with
     | none=>simp [hm] at h
     | some xs =>
       obtain⟨hxl,hget⟩:=mapM_some' hm
       obtain rfl:d=.agg (xs.map (·.1)):=by simp [hm] at h; exact h.1.symm
       have hxm:xs.length=m:=by simpa using hxl
       obtain⟨ps,hc,hs⟩:=Z5j (S:=Shape P fuel e) (sz:=P.cellsOf e) (m:=m) (by rw [hlen,htile]) fun i hi=>by
        have h2:=hget i (by simpa using hi) (by omega)
        simp only [List.getElem_range] at h2
        refine Z1y hT het (d := (xs[i]'(by omega)).1) (pl := (xs[i]'(by omega)).2) h2 fun x hx => hw x ?_
        simp only [DataW.weights,hu]
        exact Z2t (List.mem_map.2 ⟨xs[i]'(by omega),List.getElem_mem _,rfl⟩) x hx
       refine⟨ps,?_,hc⟩
       simp only [Shape,hu]
       exact⟨by rw [← hc.len]; exact hlen,hs⟩
   all_goals first
    | (cases h; done)
    | (rename_i hu; exact other _ rfl rfl (by rw [hu]; trivial))
end
end Go.Proofs.YtmnbbggaoembeaaGreatDoor
namespace Go.Proofs.YtmnbbggaoembeaaGreatDoor
open Go.RowKit Go.ChangeShapes Go.WideShapes
def ShapeV (P:Program) (t:TypeId) (p:PV):Prop:=∃ n,match P.underlying t with
 | some (.struct _)|some (.array _ _)=>∃ ps,p=.agg ps∧Shape P n t ps
 | _=>Shape P n t [p]
def ShapeVs (P:Program):List TypeId→List PV→Prop
 | [],[]=>True
 | t :: ts,p :: ps=>ShapeV P t p∧ShapeVs P ts ps
 | _,_=>False
section
variable {H:Type} {enc:TypeId×Value→H} {P:Program} {w:World}
theorem Z3X {v:Value} {ps:List PV} (h:CellsR w [v] ps):∃ p,ps = [p]∧Rep (cellF w) noLoc v p∧p.pure:=by
 have hl:=h.len
 obtain⟨p,rfl⟩:∃ p,ps = [p]:=by
  cases ps with
  | nil=>simp at hl
  | cons p r => cases r with
    | nil=>exact⟨p,rfl⟩
    | cons _ _=>simp at hl
 exact⟨p,rfl,by simpa using h.rep 0 (by simp),h.pure.1⟩
theorem Z6h {t:TypeId} {v:Value} {base:Nat} (hu:match P.underlying t with|some (.struct _)|some (.array _ _)=>False|_=>True) (h:Value.okWide P w .any base t v):v.cells.toList = [v]:=by
 cases v with
 | agg cs =>
   exfalso
   unfold Value.okWide at h
   split at h
   · rename_i hu'; rw [hu'] at hu; exact hu
   · rename_i hu'; rw [hu'] at hu; exact hu
   · unfold Cell.okWide at h
     split at h<;>first|(rename_i hv; cases hv; done)|skip
     all_goals first|(cases ‹Value.agg cs=_›; done)|(unfold Cell.ok at h; split at h<;>first|exact h|(cases ‹Value.agg cs=_›; done)|simp_all)
 | _=>rfl
theorem Zcy {G:List TypeId} (hT:tilesB P G=true) {t:TypeId} {v:Value} {d:DataW H} {pl:List MemPlace} {base:Nat} (ht:G.contains t=true) (hok:Value.okWide P w .any base t v) (h:DataW.Trod enc P w 0 (fun _=>true) true t v d pl) (hw:∀ x∈d.weights P t,x≤reachBytes) :
 ∃ p,ShapeV P t p∧Rep (cellF w) noLoc v p∧p.pure:=by
 obtain⟨fuel,h⟩:=h
 obtain⟨ps,hs,hc⟩:=Z1y hT ht h hw
 cases hu:P.underlying t with
 | none =>
   rw [Z6h (by rw [hu]; trivial) hok] at hc
   obtain⟨p,rfl,h1,h2⟩:=Z3X hc
   exact⟨p,⟨fuel,by rw [hu]; exact hs⟩,h1,h2⟩
 | some dsc =>
   have agg:(∃ cs,v=.agg cs)→∃ p,(∃ ps,p=.agg ps∧Shape P fuel t ps)∧Rep (cellF w) noLoc v p∧p.pure:=by
    rintro⟨cs,rfl⟩
    have e:∀ j,cs.getD j undef=cs.toList.getD j undef:=fun j=>by simp [Array.getD_eq_getD_getElem?,List.getD_eq_getElem?_getD]
    refine⟨.agg ps,⟨ps,rfl,hs⟩,.agg cs ps (by rw [← hc.len]; simp [Value.cells]) (fun i hi=>?_) (fun i hi=>?_),hc.pure⟩
    · rw [e]; exact hc.one i hi
    · rw [e]; exact hc.rep i hi
   have one:(match P.underlying t with|some (.struct _)|some (.array _ _)=>False|_=>True)→∃ p,Shape P fuel t [p]∧Rep (cellF w) noLoc v p∧p.pure:=by
    intro hu'
    rw [Z6h hu' hok] at hc
    obtain⟨p,rfl,h1,h2⟩:=Z3X hc
    exact⟨p,hs,h1,h2⟩
   have isAgg:(∃ fs,dsc=.struct fs) ∨ (∃ m e,dsc=.array m e)→∃ cs,v=.agg cs:=by
    intro hd
    unfold Value.okWide at hok
    rw [hu] at hok
    rcases hd with⟨fs,rfl⟩|⟨m,e,rfl⟩
    · obtain⟨cs,h1,_⟩:=hok; exact⟨cs,h1⟩
    · obtain⟨cs,h1,_⟩:=hok; exact⟨cs,h1⟩
   cases dsc with
   | struct fs =>
     obtain⟨p,h1,h2⟩:=agg (isAgg (.inl ⟨fs,rfl⟩))
     exact⟨p,⟨fuel,by rw [hu]; exact h1⟩,h2⟩
   | array m e =>
     obtain⟨p,h1,h2⟩:=agg (isAgg (.inr ⟨m,e,rfl⟩))
     exact⟨p,⟨fuel,by rw [hu]; exact h1⟩,h2⟩
   | _ =>
     obtain⟨p,h1,h2⟩:=one (by rw [hu]; trivial)
     exact⟨p,⟨fuel,by rw [hu]; exact h1⟩,h2⟩
theorem Z6i {G:List TypeId} (hT:tilesB P G=true):∀ {ts:List TypeId} {vs:List Value} {ds:List (DataW H)} {pl:List MemPlace},(∀ t∈ts,G.contains t=true)→(∀ (j:Nat) t v,ts[j]?=some t→vs[j]?=some v→∃ base,Value.okWide P w .any base t v) →
 DataW.TrodAll enc P w 0 (fun _=>true) true ts vs ds pl→(∀ x∈DataW.weightsEach P ts ds,x≤reachBytes)→∃ ps,ShapeVs P ts ps∧vs.length=ps.length∧(∀ i,i<ps.length→Rep (cellF w) noLoc (vs.getD i undef) (ps.getD i pvu))∧pureL ps
 | [], vs, ds, pl, _, _, h, _ => by
   obtain⟨rfl,rfl,rfl⟩:=trodAll_nil h
   exact⟨[],trivial,rfl,fun i hi=>absurd hi (Nat.not_lt_zero _),trivial⟩
 | t :: ts, vs, ds, pl, hlt, hok, h, hw => by
   obtain⟨v,vs',d,ds',p,q,rfl,rfl,rfl,h1,h2⟩:=trodAll_cons h
   obtain⟨base,hv⟩:=hok 0 t v rfl rfl
   obtain⟨x,hs,hr,hp⟩:=Zcy hT (hlt t (by simp)) hv h1 fun x hx=>hw x (by rw [DataW.weightsEach]; exact List.mem_append.2 (.inl hx))
   obtain⟨ps,hs',hl,hr',hp'⟩:=Z6i hT (fun t ht=>hlt t (by simp [ht])) (fun j t v hj hv=>hok (j+1) t v (by simpa using hj) (by simpa using hv)) h2 fun x hx=>hw x (by rw [DataW.weightsEach]; exact List.mem_append.2 (.inr hx))
   refine⟨x :: ps,⟨hs,hs'⟩,by simp [hl],fun i hi=>?_,hp,hp'⟩
   cases i with
   | zero=>simpa using hr
   | succ i=>simpa using hr' i (by simpa using hi)
theorem Z3Y (hl:laidOutB P=true) {W W':World} (hb:Below W.heap.size W W') {sp':Nat→Bool}:∀ {ts:List TypeId} {vs:List Value} {ds:List (DataW H)} {pl:List MemPlace},(∀ t∈ts,P.readableRec t=true∧t<P.types.size)→DataW.TrodAll enc P W 0 (fun _=>true) true ts vs ds pl →
 (∀ x∈pl,x.block<W.heap.size)→(∀ x∈pl,sp' x.block=true)→DataW.TrodAll enc P W' 0 sp' true ts vs ds pl
 | [], vs, ds, pl, _, h, _, _ => by
   obtain⟨rfl,rfl,rfl⟩:=trodAll_nil h
   exact rfl
 | t :: ts, vs, ds, pl, hr, h, hlt, hsp => by
   obtain⟨v,vs',d,ds',p,q,rfl,rfl,rfl,h1,h2⟩:=trodAll_cons h
   obtain⟨hr1,hr2⟩:=hr t (by simp)
   exact⟨p,q,WideElems.Trod_stays hl hr1 hr2 h1 (fun x hx=>hb.same (hlt x (List.mem_append.2 (.inl hx)))) (fun x hx=>hsp x (List.mem_append.2 (.inl hx))),
    Z3Y hl hb (fun t ht=>hr t (by simp [ht])) h2 (fun x hx=>hlt x (List.mem_append.2 (.inr hx))) (fun x hx=>hsp x (List.mem_append.2 (.inr hx))),rfl⟩
end
theorem Z7W {H:Type} {enc:TypeId×Value→H} {P:Program} {f:FuncId} {fn:Func} {s:ChangeSpec} {apart fresh handsOn again:Bool} {tb:TypeId} {G:List TypeId} (hT:tilesB P G=true) (hG:∀ t∈fn.params.toList,G.contains t=true) (hl:laidOutB P=true) (hpar:∀ t∈fn.params.toList,P.readableRec t=true∧t<P.types.size) (hres:fn.resultTypes = #[tb]) (htb:P.underlying tb=some .bool)
 (hvars:s.vars = []) (hs:∀ ds:List (DataW H),ds.length=fn.params.size→(s.fn H ds).results = [.lit (.bool true)]∧(s.fn H ds).args=ds∧(s.fn H ds).vars = []) (hspec:∀ ps,ShapeVs P fn.params.toList ps→pureL ps→Spec P f ps (· = .val (.bool true)))
 (W:World) (hgl:GlobsIn W) (base:Nat) (args:Array Value) (ds gs:List (DataW H)) (before:List MemPlace) (hval:∀ (j:Nat) t v,fn.params[j]?=some t→args[j]?=some v→Value.okWide P W .any base t v) (hW:DataW.Whole enc P fn.params.toList s.vars apart W args.toList ds gs before)
 (hwt:(DataW.weightsEach P (fn.params.toList++s.plain.varTypes P) (ds++gs)).all (· ≤ reachBytes)=true) :
 Calls P f args W fun e W'=>∃ v,e=.returned v∧s.post enc P fn apart fresh handsOn again W args v W':=by
 have hW':=hW
 obtain⟨p,q,hA,hV,rfl,hfz,hnd⟩:=hW
 rw [hvars] at hV
 obtain⟨rfl,rfl⟩:=trodVars_none hV
 rw [List.append_nil] at hwt
 have hlen:ds.length=fn.params.toList.length:=by
  have:∀ {ts:List TypeId} {vs:List Value} {ds:List (DataW H)} {pl:List MemPlace},DataW.TrodAll enc P W 0 (fun _=>true) true ts vs ds pl→ds.length=ts.length:=by
   intro ts
   induction ts with
   | nil=>intro vs ds pl h; obtain⟨_,rfl,_⟩:=trodAll_nil h; rfl
   | cons t ts ih=>intro vs ds pl h; obtain⟨v,vs',d,ds',p,q,_,rfl,_,_,h2⟩:=trodAll_cons h; simp [ih h2]
  exact this hA
 have hvt:s.plain.varTypes P = []:=by
  simp [ChangeSpec.plain,DataSpec.varTypes,hvars]
 rw [hvt,List.append_nil] at hwt
 obtain⟨ps,hsh,hpl,hrep,hpure⟩:=Z6i hT hG (fun j t v hj hv=>⟨base,hval j t v (by simpa using hj) (by simpa using hv)⟩) hA (fun x hx=>by simpa using List.all_eq_true.1 hwt x hx)
 have e:∀ j,args.getD j undef=args.toList.getD j undef:=fun j=>by simp [Array.getD_eq_getD_getElem?,List.getD_eq_getElem?_getD]
 refine ((hspec ps hsh hpure).2 (cellF W) W args (Z96 hgl) ⟨by simpa using hpl,fun i hi=>by rw [e]; exact hrep i hi⟩).mono ?_
 rintro en W' ⟨v,r,F',rfl,rfl,hvr,hbel,_⟩
 obtain rfl:=hvr.val_inv
 obtain⟨hs1,hs2,hs3⟩:=hs ds (by simpa using hlen)
 have hlt:=hW'.lt
 simp only [List.append_nil] at hlt hW' ⊢
 have hstay:∀ sp':Nat→Bool,(∀ x∈p,sp' x.block=true)→DataW.TrodAll enc P W' 0 sp' true fn.params.toList args.toList ds p:=fun sp' hsp=>Z3Y hl hbel hpar hA hlt hsp
 have hresults:∀ (b:Nat) (sp:Nat→Bool) (hd:Bool),DataW.TrodAll enc P W' b sp hd fn.resultTypes.toList ((Value.bool true).resultList fn.resultTypes.size) [.lit (.bool true)] []:=fun b sp hd=>by
  rw [hres]
  exact trodAll_mk1 (shut_bool htb true)
 refine⟨_,rfl,ds,[],p,[],p,[],hW',?_,?_,?_,hbel.frame _,fun _=>⟨ok_one hres rfl (okWide_bool_mk htb true),?_⟩⟩
 · rw [List.append_nil,hs1]; exact hresults _ _ _
 · rw [List.append_nil,hs2]; exact hstay _ fun x hx=>by simpa using hlt x hx
 · rw [List.append_nil,hvars,hs3]; exact rfl
 · refine ⟨_, [], p, ⟨p, [], trodAll_append (p := []) (hstay _ fun _ _ => rfl) (hresults _ _ _), by rw [hvars]; exact rfl, by simp, ?_, by simpa using hnd⟩, fun x hx _ => hx⟩
   intro b off hp
   rw [hbel.frozen (hlt _ hp)]
   exact hfz b off (by simpa using hp)
end Go.Proofs.YtmnbbggaoembeaaGreatDoor
namespace Go.Proofs.YtmnbbggaoembeaaGreatDoor
open Go.ChangeShapes Go.WideShapes Go.ChangeAt Go.RowKit
theorem own:ownKnob Tryz.prog.godebug=none:=by kernel_rfl
theorem laidOut:laidOutB Tryz.prog=true:=by kernel_rfl
def parsOk (P:Program) (ts:List TypeId):Bool:=ts.all fun t=>P.readableRec t&&decide (t<P.types.size)
def inG (G ts:List TypeId):Bool:=ts.all fun t=>G.contains t
theorem Zgm {G ts:List TypeId} (h:inG G ts=true):∀ t∈ts,G.contains t=true:=fun t ht=>List.all_eq_true.1 h t ht
theorem Zcz {P:Program} {ts:List TypeId} (h:parsOk P ts=true):∀ t∈ts,P.readableRec t=true∧t<P.types.size:=fun t ht=>by
 have:=List.all_eq_true.1 h t ht
 simpa using this
abbrev laidV : List (String × DataW Unit) := [("math/bits.deBruijn64tab",Rows.laid_math_bits_deBruijn64tab),("arbac/keccak.rounds",Rows.laid_arbac_keccak_rounds),("arbac/keccak.turns",Rows.laid_arbac_keccak_turns)]
set_option maxRecDepth 100000 in
theorem Zeg (os:Os) (args:Array Value):laidMetH Tryz.prog laidV ((World.doorLaid Tryz.prog 400 os).forCall (fun _ _=>0) ⟨#[],args,[]⟩).memory :=
 laidMetH_of_parts3 (fuel:=8) (laidMet_of_run' 8 (by kernel_rfl) (by kernel_rfl)) (by kernel_rfl) (by kernel_rfl)
theorem Zb9:(Rows.laid_math_bits_deBruijn64tab:DataW Unit)=.agg (tzTab.map fun x=>.lit (.int .u8 x)):=rfl
set_option maxRecDepth 100000 in
theorem Zeh {W:World} (h:laidMetH Tryz.prog laidV W):∀ (j:Nat) (v:Value),(tzTab.map fun x=>Value.int .u8 x)[j]?=some v→W.cell? ⟨0,j,none⟩=some v:=by
 rw [MakeChecks.laidMetH_plain _ _ _ (by kernel_rfl)] at h
 obtain⟨ps,⟨g0,t0,cs,f0,p0,q0,hg0,ht0,hv0,hd0,_,_⟩,_,_⟩:=h
 obtain rfl := Option.some.inj ((show Tryz.prog.globalNamed "math/bits.deBruijn64tab" = some 0 by kernel_rfl).symm.trans hg0)
 obtain rfl:=Option.some.inj ((show (Tryz.prog.globals[0]?).map (·.type)=some 229 by kernel_rfl).symm.trans ht0)
 obtain⟨xs,m,rfl,hx,hlen,hn,hel⟩:=DataW.trod_array (show Tryz.prog.underlying 229=some (.array 64 5) by kernel_rfl) hd0
 have c1:Tryz.prog.cellsOf 5=1:=by kernel_rfl
 simp only [Prod.mk.injEq] at hx
 have hx1:tzTab.map (fun x=>(DataW.lit (.int .u8 x):DataW Unit))=xs.map (·.1):=by
  have:=hx.1
  rw [Zb9] at this
  simpa using this
 intro j v hv
 rw [List.getElem?_map] at hv
 have hj:j<64:=by
  cases hx:tzTab[j]? with
  | none=>rw [hx] at hv; cases hv
  | some x=>have:=(List.getElem?_eq_some_iff.1 hx).1; exact this
 have hj2:j<tzTab.length:=hj
 rw [List.getElem?_eq_getElem hj2] at hv
 simp only [Option.map_some,Option.some.injEq] at hv
 subst hv
 have e1:=congrArg (fun l=>l[j]?) hx1
 simp only [List.getElem?_map] at e1
 rw [List.getElem?_eq_getElem hj2,List.getElem?_eq_getElem (show j<xs.length by omega)] at e1
 simp only [Option.map_some,Option.some.injEq] at e1
 have e2:=hel j hj
 rw [List.getElem?_eq_getElem (show j<xs.length by omega),c1] at e2
 obtain⟨k,h1,h2,_⟩:=DataW.trod_int (show Tryz.prog.underlying 5=some (.int .u8) by kernel_rfl) e2
 rw [h2] at e1
 simp only [DataW.lit.injEq,Lit.int.injEq,true_and] at e1
 subst e1
 rw [Nat.mul_one] at h1
 rw [World.var?_cell hg0 hv0 j]
 have h3:cs.toList[j]?=(cs.toList.drop j)[0]?:=by simp
 have h4:(cs.toList.drop j)[0]?=((cs.toList.drop j).take 1)[0]?:=by simp
 rw [← Array.getElem?_toList,h3,h4,h1]
 rfl
theorem Z7X:(Rows.laid_arbac_keccak_rounds:DataW Unit)=.agg (kRounds.map fun x=>.lit (.int .u64 x)):=rfl
set_option maxRecDepth 100000 in
theorem Zba {W:World} (h:laidMetH Tryz.prog laidV W):∀ (j:Nat) (v:Value),(kRounds.map fun x=>Value.int .u64 x)[j]?=some v→W.cell? ⟨1,j,none⟩=some v:=by
 rw [MakeChecks.laidMetH_plain _ _ _ (by kernel_rfl)] at h
 obtain⟨ps,⟨_,_,_,_,_,_,_,_,_,_,⟨g0,t0,cs,f0,p0,q0,hg0,ht0,hv0,hd0,_,_⟩,_⟩,_,_⟩:=h
 obtain rfl := Option.some.inj ((show Tryz.prog.globalNamed "arbac/keccak.rounds" = some 1 by kernel_rfl).symm.trans hg0)
 obtain rfl:=Option.some.inj ((show (Tryz.prog.globals[1]?).map (·.type)=some 273 by kernel_rfl).symm.trans ht0)
 obtain⟨xs,m,rfl,hx,hlen,hn,hel⟩:=DataW.trod_array (show Tryz.prog.underlying 273=some (.array 24 36) by kernel_rfl) hd0
 have c1:Tryz.prog.cellsOf 36=1:=by kernel_rfl
 simp only [Prod.mk.injEq] at hx
 have hx1:kRounds.map (fun x=>(DataW.lit (.int .u64 x):DataW Unit))=xs.map (·.1):=by
  have:=hx.1
  rw [Z7X] at this
  simpa using this
 intro j v hv
 rw [List.getElem?_map] at hv
 have hj:j<24:=by
  cases hx:kRounds[j]? with
  | none=>rw [hx] at hv; cases hv
  | some x=>have:=(List.getElem?_eq_some_iff.1 hx).1; exact this
 have hj2:j<kRounds.length:=hj
 rw [List.getElem?_eq_getElem hj2] at hv
 simp only [Option.map_some,Option.some.injEq] at hv
 subst hv
 have e1:=congrArg (fun l=>l[j]?) hx1
 simp only [List.getElem?_map] at e1
 rw [List.getElem?_eq_getElem hj2,List.getElem?_eq_getElem (show j<xs.length by omega)] at e1
 simp only [Option.map_some,Option.some.injEq] at e1
 have e2:=hel j hj
 rw [List.getElem?_eq_getElem (show j<xs.length by omega),c1] at e2
 obtain⟨k,h1,h2,_⟩:=DataW.trod_int (show Tryz.prog.underlying 36=some (.int .u64) by kernel_rfl) e2
 rw [h2] at e1
 simp only [DataW.lit.injEq,Lit.int.injEq,true_and] at e1
 subst e1
 rw [Nat.mul_one] at h1
 rw [World.var?_cell hg0 hv0 j]
 have h3:cs.toList[j]?=(cs.toList.drop j)[0]?:=by simp
 have h4:(cs.toList.drop j)[0]?=((cs.toList.drop j).take 1)[0]?:=by simp
 rw [← Array.getElem?_toList,h3,h4,h1]
 rfl
theorem Z97:(Rows.laid_arbac_keccak_turns:DataW Unit)=.agg (kTurns.map fun x=>.lit (.int .i64 x)):=rfl
set_option maxRecDepth 100000 in
theorem ZcA {W:World} (h:laidMetH Tryz.prog laidV W):∀ (j:Nat) (v:Value),(kTurns.map fun x=>Value.int .i64 x)[j]?=some v→W.cell? ⟨2,j,none⟩=some v:=by
 rw [MakeChecks.laidMetH_plain _ _ _ (by kernel_rfl)] at h
 obtain⟨ps,⟨_,_,_,_,_,_,_,_,_,_,⟨_,_,_,_,_,_,_,_,_,_,⟨g0,t0,cs,f0,p0,q0,hg0,ht0,hv0,hd0,_,_⟩,_⟩,_⟩,_,_⟩:=h
 obtain rfl := Option.some.inj ((show Tryz.prog.globalNamed "arbac/keccak.turns" = some 2 by kernel_rfl).symm.trans hg0)
 obtain rfl:=Option.some.inj ((show (Tryz.prog.globals[2]?).map (·.type)=some 276 by kernel_rfl).symm.trans ht0)
 obtain⟨xs,m,rfl,hx,hlen,hn,hel⟩:=DataW.trod_array (show Tryz.prog.underlying 276=some (.array 25 3) by kernel_rfl) hd0
 have c1:Tryz.prog.cellsOf 3=1:=by kernel_rfl
 simp only [Prod.mk.injEq] at hx
 have hx1:kTurns.map (fun x=>(DataW.lit (.int .i64 x):DataW Unit))=xs.map (·.1):=by
  have:=hx.1
  rw [Z97] at this
  simpa using this
 intro j v hv
 rw [List.getElem?_map] at hv
 have hj:j<25:=by
  cases hx:kTurns[j]? with
  | none=>rw [hx] at hv; cases hv
  | some x=>have:=(List.getElem?_eq_some_iff.1 hx).1; exact this
 have hj2:j<kTurns.length:=hj
 rw [List.getElem?_eq_getElem hj2] at hv
 simp only [Option.map_some,Option.some.injEq] at hv
 subst hv
 have e1:=congrArg (fun l=>l[j]?) hx1
 simp only [List.getElem?_map] at e1
 rw [List.getElem?_eq_getElem hj2,List.getElem?_eq_getElem (show j<xs.length by omega)] at e1
 simp only [Option.map_some,Option.some.injEq] at e1
 have e2:=hel j hj
 rw [List.getElem?_eq_getElem (show j<xs.length by omega),c1] at e2
 obtain⟨k,h1,h2,_⟩:=DataW.trod_int (show Tryz.prog.underlying 3=some (.int .i64) by kernel_rfl) e2
 rw [h2] at e1
 simp only [DataW.lit.injEq,Lit.int.injEq,true_and] at e1
 subst e1
 rw [Nat.mul_one] at h1
 rw [World.var?_cell hg0 hv0 j]
 have h3:cs.toList[j]?=(cs.toList.drop j)[0]?:=by simp
 have h4:(cs.toList.drop j)[0]?=((cs.toList.drop j).take 1)[0]?:=by simp
 rw [← Array.getElem?_toList,h3,h4,h1]
 rfl
theorem Zei {W:World} (h:laidMetH Tryz.prog laidV W):GlobsIn W:=by
 intro g j v hv
 have step:∀ (k:Nat) (l:List Value) (r:List (Nat×List Value)),(globT ((k,l) :: r) g)[j]?=some v→(l[j]?=some v∧g=k) ∨ (globT r g)[j]?=some v:=by
  intro k l r hh
  unfold globT at hh
  cases hb:Nat.beq g k with
  | true=>rw [hb] at hh; exact .inl ⟨hh,Nat.eq_of_beq_eq_true hb⟩
  | false=>rw [hb] at hh; exact .inr hh
 have hv:(globT globL g)[j]?=some v:=hv
 unfold globL at hv
 rcases step _ _ _ hv with⟨h1,rfl⟩|hv
 · exact Zeh h j v h1
 rcases step _ _ _ hv with⟨h1,rfl⟩|hv
 · exact Zba h j v h1
 rcases step _ _ _ hv with⟨h1,rfl⟩|hv
 · exact ZcA h j v h1
 simp [globT] at hv
end Go.Proofs.YtmnbbggaoembeaaGreatDoor
namespace Go.Proofs.YtmnbbggaoembeaaGreatDoor
set_option maxRecDepth 100000
theorem mixed : Tryz.prog.follows .mixedOrders = true := by kernel_rfl
abbrev tT (n : Nat) : Operand := .tmp n
abbrev oO (d : Nat) (p : AOp) : AOper := ⟨some d, p, none⟩
abbrev oT (g d : Nat) (p : AOp) : AOper := ⟨some d, p, some (g, true)⟩
abbrev oF (g d : Nat) (p : AOp) : AOper := ⟨some d, p, some (g, false)⟩
abbrev oM (d a : Nat) : AOper := ⟨some d, .mov (.tmp a), none⟩
abbrev nS : Value := .slice none 0 0
abbrev kI (n : Int) : Operand := .const (.int .i64 n)
abbrev kT : Operand := .const (.bool true)
abbrev kF : Operand := .const (.bool false)
abbrev kC (f : FuncId) (l : List Operand) : AOp := .call (.func f) l
abbrev sQ (x y : ACode) : ACode := .seq x y
def ir4 : ACode := (sQ (.region [oO 6 (.mov kF)]) (sQ (sQ (.region [oO 14 (kC 6 []),oO 15 (.una .not (tT 14))]) (.cond (tT 15) (sQ (.region [oO 6 (.mov kF)]) .ret) .skip)) (sQ (.region [oM 17 0,oO 18 (kC 7 [(tT 17)]),
 oM 16 18,oO 19 (.extract (tT 16) 0),oO 20 (.extract (tT 16) 1),oO 21 (.extract (tT 16) 2),oO 7 (.alloc [(.int .i64 0),(.pointer none),nS,nS,nS,nS]),oO 8 (.alloc [(.int .i64 0),nS,(.int .u64 0),nS,nS,nS]),
 ⟨none,.store 6 (tT 7) (tT 19),none⟩,⟨none,.store 6 (tT 8) (tT 20),none⟩,oM 9 21]) (sQ (sQ (.region [oM 22 9,oO 23 (.una .not (tT 22))]) (.cond (tT 23) (sQ (.region [oO 6 (.mov kF)]) .ret) .skip)) (sQ (.region [oM 24 1,
 oO 25 (.faddr 0 (tT 8)),oO 26 (.load false 1 (tT 25)),oO 27 (.bin .shl .num (.const (.int .u64 2)) (tT 26)),oO 28 (.bin .sub .num (tT 27) (.const (.int .u64 2))),oO 29 (.bin .and .num (tT 24) (tT 28)),
 oO 30 (kC 11 [(tT 29)]),oO 10 (.alloc [nS]),⟨none,.store 1 (tT 10) (tT 30),none⟩]) (sQ (.region [oO 32 (.load true 6 (tT 7)),oO 33 (.load true 1 (tT 10)),oM 34 2,oO 35 (.conv .i64 (tT 34)),oO 36 (kC 12 [(tT 32),
 (tT 33),(tT 35)]),oM 31 36,oO 37 (.extract (tT 31) 0),oO 38 (.extract (tT 31) 1),oO 11 (.alloc [nS]),⟨none,.store 1 (tT 11) (tT 37),none⟩,oM 12 38]) (sQ (.region [oO 39 (.load true 6 (tT 7)),oO 13 (.alloc [(.int .i64 0),
 (.pointer none),nS,nS,nS,nS]),⟨none,.store 6 (tT 13) (tT 39),none⟩]) (sQ (.region [oO 40 (.faddr 1 (tT 13)),⟨none,.store 1 (tT 40) (.const (.pointer none)),none⟩]) (sQ (.region [oO 41 (.load true 6 (tT 7)),
 oO 42 (.load true 1 (tT 10)),oM 43 2,oO 44 (.conv .i64 (tT 43)),oO 45 (kC 13 [(tT 41),(tT 42),(tT 44)]),oM 46 12,oO 47 (.bin .eql .bool (tT 45) (tT 46)),oM 48 47,oT 48 49 (.load true 6 (tT 13)),oT 48 50 (.load true 1 (tT 10)),
 oT 48 51 (.mov (tT 2)),oT 48 52 (.conv .i64 (tT 51)),oT 48 53 (kC 13 [(tT 49),(tT 50),(tT 52)]),oT 48 54 (.una .not (tT 53)),oO 55 (.pick (tT 48) (tT 54) kF),oM 6 55]) .ret)))))))))
theorem ok4 : FnOk Tryz.prog 4 56 ir4 [.tmp 6] := Z7 mixed Tryz.func4 (by kernel_rfl) Tryz.ntmps4 (by kernel_rfl) (by kernel_rfl)
def ir6 : ACode := (sQ (.region [oO 0 (.mov kF)]) (sQ (.region [oO 6 (.bslice [(.int .i64 0)] 1 [(0,(kI 1))]),oO 7 (kC 17 [(tT 6)]),oO 8 (.build [nS,nS] [(0,1,(tT 7))]),oO 9 (.bslice [(.int .i64 0)] 1 [(0,
 (kI 2))]),oO 10 (kC 17 [(tT 9)]),oO 11 (.build [nS,nS] [(0,1,(tT 10))]),oO 1 (.alloc [nS,nS]),oO 2 (.alloc [nS,nS]),⟨none,.store 2 (tT 1) (tT 8),none⟩,⟨none,.store 2 (tT 2) (tT 11),none⟩]) (sQ (.draw [⟨0,
 oO 12 (kC 18 []),0,0,false⟩,⟨1,oO 13 (.build [(.bool false),nS,nS,(.int .i64 0),(.int .i64 0)] [(3,1,(kI 1))]),0,0,false⟩,⟨2,oO 14 (.load true 2 (tT 1)),0,0,false⟩,⟨3,oO 15 (.build [(.bool false),nS,nS,
 (.int .i64 0),(.int .i64 0)] [(3,1,(kI 2)),(1,2,(tT 14))]),4,0,false⟩,⟨4,oO 16 (.bslice [(.bool false),nS,nS,(.int .i64 0),(.int .i64 0)] 2 [(0,(tT 13)),(1,(tT 15))]),14,0,false⟩,⟨5,oO 17 (.load true 2 (tT 2)),
 0,0,false⟩,⟨6,oO 18 (.bslice [nS,nS] 1 [(0,(tT 17))]),32,0,false⟩,⟨7,oO 19 (.build [(.int .i64 0),(.pointer none),nS,nS,nS,nS] [(0,1,(kI 2)),(1,1,(tT 12)),(3,1,(tT 16)),(5,1,(tT 18))]),127,1,false⟩,⟨8,
 oO 3 (.alloc [(.int .i64 0),(.pointer none),nS,nS,nS,nS]),0,0,false⟩,⟨9,⟨none,.store 6 (tT 3) (tT 19),none⟩,511,1,false⟩]) (sQ (sQ (.draw [⟨0,oO 20 (.load true 6 (tT 3)),0,0,false⟩,⟨1,oO 21 (.bslice [(.int .i64 0)] 2 [(0,
 (kI 0)),(1,(kI 1))]),0,0,false⟩,⟨2,oO 22 (kC 19 [(tT 20),(tT 21)]),3,0,false⟩,⟨3,oO 23 (.build [(.int .u8 0),(.int .i64 0),(.int .i64 0)] [(0,1,(.const (.int .u8 1)))]),0,0,false⟩,⟨4,oO 24 (.build [(.int .u8 0),
 (.int .u8 0),(.int .u8 0),(.int .u8 0),(.int .u8 0),(.int .u8 0),(.int .u8 0),(.int .u8 0),(.int .u8 0),(.int .u8 0),(.int .u8 0),(.int .u8 0),(.int .u8 0),(.int .u8 0),(.int .u8 0),(.int .u8 0),(.int .u8 0),
 (.int .u8 0),(.int .u8 0),(.int .u8 0),(.int .u8 0),(.int .u8 0),(.int .u8 0),(.int .u8 0),(.int .u8 0),(.int .u8 0),(.int .u8 0),(.int .u8 0),(.int .u8 0),(.int .u8 0),(.int .u8 0),(.int .u8 0),(.bool false),
 nS,nS,(.int .u8 0),(.int .i64 0),(.int .i64 0)] [(0,35,(tT 22)),(35,3,(tT 23))]),15,0,false⟩,⟨5,oO 25 (.load true 6 (tT 3)),0,0,false⟩,⟨6,oO 26 (.bslice [(.int .i64 0)] 2 [(0,(kI 1)),(1,(kI 0))]),0,0,false⟩,
 ⟨7,oO 27 (kC 19 [(tT 25),(tT 26)]),103,0,false⟩,⟨8,oO 28 (.build [(.int .u8 0),(.int .i64 0),(.int .i64 0)] [(0,1,(.const (.int .u8 4))),(1,1,(kI 0)),(2,1,(kI 1))]),0,0,false⟩,⟨9,oO 29 (.build [(.int .u8 0),
 (.int .u8 0),(.int .u8 0),(.int .u8 0),(.int .u8 0),(.int .u8 0),(.int .u8 0),(.int .u8 0),(.int .u8 0),(.int .u8 0),(.int .u8 0),(.int .u8 0),(.int .u8 0),(.int .u8 0),(.int .u8 0),(.int .u8 0),(.int .u8 0),
 (.int .u8 0),(.int .u8 0),(.int .u8 0),(.int .u8 0),(.int .u8 0),(.int .u8 0),(.int .u8 0),(.int .u8 0),(.int .u8 0),(.int .u8 0),(.int .u8 0),(.int .u8 0),(.int .u8 0),(.int .u8 0),(.int .u8 0),(.bool false),
 nS,nS,(.int .u8 0),(.int .i64 0),(.int .i64 0)] [(0,35,(tT 27)),(35,3,(tT 28))]),487,0,false⟩,⟨10,oO 30 (.load true 6 (tT 3)),0,0,false⟩,⟨11,oO 31 (.bslice [(.int .i64 0)] 1 [(0,(kI 0))]),0,0,false⟩,⟨12,
 oO 32 (kC 19 [(tT 30),(tT 31)]),3303,0,false⟩,⟨13,oO 33 (.build [(.int .u8 0),(.int .i64 0),(.int .i64 0)] [(0,1,(.const (.int .u8 5)))]),0,0,false⟩,⟨14,oO 34 (.build [(.int .u8 0),(.int .u8 0),(.int .u8 0),
 (.int .u8 0),(.int .u8 0),(.int .u8 0),(.int .u8 0),(.int .u8 0),(.int .u8 0),(.int .u8 0),(.int .u8 0),(.int .u8 0),(.int .u8 0),(.int .u8 0),(.int .u8 0),(.int .u8 0),(.int .u8 0),(.int .u8 0),(.int .u8 0),
 (.int .u8 0),(.int .u8 0),(.int .u8 0),(.int .u8 0),(.int .u8 0),(.int .u8 0),(.int .u8 0),(.int .u8 0),(.int .u8 0),(.int .u8 0),(.int .u8 0),(.int .u8 0),(.int .u8 0),(.bool false),nS,nS,(.int .u8 0),
 (.int .i64 0),(.int .i64 0)] [(0,35,(tT 32)),(35,3,(tT 33))]),15591,0,false⟩,⟨15,oO 35 (.load true 6 (tT 3)),0,0,false⟩,⟨16,oO 36 (.load true 2 (tT 2)),0,0,false⟩,⟨17,oO 37 (.bslice [nS,nS] 1 [(0,(tT 36))]),
 65536,0,false⟩,⟨18,oO 38 (kC 16 [(tT 35),(tT 37)]),236775,0,false⟩,⟨19,oO 39 (.build [(.int .u8 0),(.int .i64 0),(.int .i64 0)] [(0,1,(.const (.int .u8 8))),(1,1,(kI 0)),(2,1,(kI 1))]),0,0,false⟩,⟨20,oO 40 (.build [(.int .u8 0),
 (.int .u8 0),(.int .u8 0),(.int .u8 0),(.int .u8 0),(.int .u8 0),(.int .u8 0),(.int .u8 0),(.int .u8 0),(.int .u8 0),(.int .u8 0),(.int .u8 0),(.int .u8 0),(.int .u8 0),(.int .u8 0),(.int .u8 0),(.int .u8 0),
 (.int .u8 0),(.int .u8 0),(.int .u8 0),(.int .u8 0),(.int .u8 0),(.int .u8 0),(.int .u8 0),(.int .u8 0),(.int .u8 0),(.int .u8 0),(.int .u8 0),(.int .u8 0),(.int .u8 0),(.int .u8 0),(.int .u8 0),(.bool false),
 nS,nS,(.int .u8 0),(.int .i64 0),(.int .i64 0)] [(0,35,(tT 38)),(35,3,(tT 39))]),1023207,0,false⟩,⟨21,oO 41 (.load true 6 (tT 3)),0,0,false⟩,⟨22,oO 42 (.load true 2 (tT 1)),0,0,false⟩,⟨23,oO 43 (.load true 2 (tT 2)),
 0,0,false⟩,⟨24,oO 44 (.bslice [nS,nS] 2 [(0,(tT 42)),(1,(tT 43))]),12582912,0,false⟩,⟨25,oO 45 (kC 16 [(tT 41),(tT 44)]),31956199,0,false⟩,⟨26,oO 46 (.build [(.int .u8 0),(.int .i64 0),(.int .i64 0)] [(0,
 1,(.const (.int .u8 8))),(1,1,(kI 0)),(2,1,(kI 0))]),0,0,false⟩,⟨27,oO 47 (.build [(.int .u8 0),(.int .u8 0),(.int .u8 0),(.int .u8 0),(.int .u8 0),(.int .u8 0),(.int .u8 0),(.int .u8 0),(.int .u8 0),(.int .u8 0),
 (.int .u8 0),(.int .u8 0),(.int .u8 0),(.int .u8 0),(.int .u8 0),(.int .u8 0),(.int .u8 0),(.int .u8 0),(.int .u8 0),(.int .u8 0),(.int .u8 0),(.int .u8 0),(.int .u8 0),(.int .u8 0),(.int .u8 0),(.int .u8 0),
 (.int .u8 0),(.int .u8 0),(.int .u8 0),(.int .u8 0),(.int .u8 0),(.int .u8 0),(.bool false),nS,nS,(.int .u8 0),(.int .i64 0),(.int .i64 0)] [(0,35,(tT 45)),(35,3,(tT 46))]),132619495,0,false⟩,⟨28,oO 48 (.load true 6 (tT 3)),
 0,0,false⟩,⟨29,oO 49 (kC 16 [(tT 48),(.const nS)]),333946087,1,false⟩,⟨30,oO 50 (.build [(.int .u8 0),(.int .i64 0),(.int .i64 0)] [(0,1,(.const (.int .u8 7)))]),0,0,false⟩,⟨31,oO 51 (.build [(.int .u8 0),
 (.int .u8 0),(.int .u8 0),(.int .u8 0),(.int .u8 0),(.int .u8 0),(.int .u8 0),(.int .u8 0),(.int .u8 0),(.int .u8 0),(.int .u8 0),(.int .u8 0),(.int .u8 0),(.int .u8 0),(.int .u8 0),(.int .u8 0),(.int .u8 0),
 (.int .u8 0),(.int .u8 0),(.int .u8 0),(.int .u8 0),(.int .u8 0),(.int .u8 0),(.int .u8 0),(.int .u8 0),(.int .u8 0),(.int .u8 0),(.int .u8 0),(.int .u8 0),(.int .u8 0),(.int .u8 0),(.int .u8 0),(.bool false),
 nS,nS,(.int .u8 0),(.int .i64 0),(.int .i64 0)] [(0,35,(tT 49)),(35,3,(tT 50))]),1944558823,1,false⟩,⟨32,oO 52 (.bslice [(.int .u8 0),(.int .u8 0),(.int .u8 0),(.int .u8 0),(.int .u8 0),(.int .u8 0),(.int .u8 0),
 (.int .u8 0),(.int .u8 0),(.int .u8 0),(.int .u8 0),(.int .u8 0),(.int .u8 0),(.int .u8 0),(.int .u8 0),(.int .u8 0),(.int .u8 0),(.int .u8 0),(.int .u8 0),(.int .u8 0),(.int .u8 0),(.int .u8 0),(.int .u8 0),
 (.int .u8 0),(.int .u8 0),(.int .u8 0),(.int .u8 0),(.int .u8 0),(.int .u8 0),(.int .u8 0),(.int .u8 0),(.int .u8 0),(.bool false),nS,nS,(.int .u8 0),(.int .i64 0),(.int .i64 0)] 6 [(0,(tT 24)),(1,(tT 29)),
 (2,(tT 34)),(3,(tT 40)),(4,(tT 47)),(5,(tT 51))]),4294967295,1,false⟩,⟨33,oO 53 (.len (tT 52)),8589934591,1,false⟩,⟨34,oO 54 (.mov (kI 0)),0,0,false⟩]) (.block 0 (.loop (sQ (.region [oO 55 (.bin .lss .num (tT 54) (tT 53))]) (sQ (.cond (tT 55) .skip (.exit 0)) (sQ (.block 1 (sQ (.region [oO 56 (.iaddr 38 (tT 52) (tT 54)),
 oO 57 (.load true 38 (tT 56)),oO 5 (.alloc [(.int .u8 0),(.int .u8 0),(.int .u8 0),(.int .u8 0),(.int .u8 0),(.int .u8 0),(.int .u8 0),(.int .u8 0),(.int .u8 0),(.int .u8 0),(.int .u8 0),(.int .u8 0),(.int .u8 0),
 (.int .u8 0),(.int .u8 0),(.int .u8 0),(.int .u8 0),(.int .u8 0),(.int .u8 0),(.int .u8 0),(.int .u8 0),(.int .u8 0),(.int .u8 0),(.int .u8 0),(.int .u8 0),(.int .u8 0),(.int .u8 0),(.int .u8 0),(.int .u8 0),
 (.int .u8 0),(.int .u8 0),(.int .u8 0),(.bool false),nS,nS,(.int .u8 0),(.int .i64 0),(.int .i64 0)]),⟨none,.store 38 (tT 5) (tT 57),none⟩]) (sQ (.draw [⟨0,oO 58 (.load true 6 (tT 3)),0,0,false⟩,⟨1,oO 59 (.faddr 0 (tT 5)),
 0,0,false⟩,⟨2,oO 60 (.load true 35 (tT 59)),2,0,false⟩,⟨3,oO 61 (kC 9 [(tT 58),(tT 60)]),7,0,false⟩,⟨4,oO 62 (.faddr 35 (tT 5)),0,0,false⟩,⟨5,oO 63 (.load true 3 (tT 62)),16,0,false⟩,⟨6,oO 64 (.bin .neq (.cells [0,
 0,0]) (tT 61) (tT 63)),63,1,false⟩]) (.cond (tT 64) (sQ (.region [oO 0 (.mov kF)]) .ret) .skip)))) (.region [oO 65 (.bin .add .num (tT 54) (kI 1)),oM 54 65]))))))) (sQ (.region [oO 66 (.bslice [(.int .i64 0)] 2 [(0,
 (kI 1)),(1,(kI 2))]),oO 67 (kC 17 [(tT 66)]),oO 68 (.build [nS,nS] [(0,1,(tT 67))]),oO 69 (.bslice [nS,nS] 1 [(0,(tT 68))]),oO 70 (.faddr 4 (tT 3)),⟨none,.store 1 (tT 70) (tT 69),none⟩]) (sQ (.draw [⟨0,
 oO 71 (.load true 6 (tT 3)),0,0,false⟩,⟨1,oO 72 (.load true 6 (tT 3)),0,0,false⟩,⟨2,oO 73 (.load true 2 (tT 2)),0,0,false⟩,⟨3,oO 74 (.bslice [nS,nS] 1 [(0,(tT 73))]),4,0,false⟩,⟨4,oO 75 (kC 16 [(tT 72),
 (tT 74)]),14,0,false⟩,⟨5,oO 76 (kC 9 [(tT 71),(tT 75)]),31,1,false⟩,⟨6,oO 77 (.build [(.int .u8 0),(.int .i64 0),(.int .i64 0)] [(0,1,(.const (.int .u8 1)))]),0,0,false⟩,⟨7,oO 78 (.bin .eql (.cells [0,
 0,0]) (tT 76) (tT 77)),127,1,false⟩,⟨8,oM 0 78,255,1,false⟩]) .ret))))))
theorem ok6 : FnOk Tryz.prog 6 79 ir6 [.tmp 0] := Z7 mixed Tryz.func6 (by kernel_rfl) Tryz.ntmps6 (by kernel_rfl) (by kernel_rfl)
def ir7 : ACode := (sQ (.region [oO 2 (.alloc [(.int .i64 0),(.pointer none),nS,nS,nS,nS]),oO 3 (.alloc [(.int .i64 0),nS,(.int .u64 0),nS,nS,nS]),oO 4 (.mov kF)]) (sQ (.region [oM 8 0,oO 9 (kC 20 [(tT 8)]),
 oO 5 (.alloc [(.int .i64 0),nS,(.int .u64 0),nS,nS,nS]),⟨none,.store 6 (tT 5) (tT 9),none⟩]) (sQ (.region [oO 11 (.load true 6 (tT 5)),oO 12 (kC 21 [(tT 11)]),oM 10 12,oO 13 (.extract (tT 10) 0),oO 14 (.extract (tT 10) 1),
 oO 6 (.alloc [(.int .i64 0),(.pointer none),nS,nS,nS,nS]),⟨none,.store 6 (tT 6) (tT 13),none⟩,oM 7 14]) (sQ (.draw [⟨0,oO 15 (.load true 6 (tT 6)),0,0,false⟩,⟨1,oO 16 (.load true 6 (tT 5)),0,0,false⟩,⟨2,
 oM 17 7,0,0,false⟩,⟨3,⟨none,.store 6 (tT 2) (tT 15),none⟩,1,2,false⟩,⟨4,⟨none,.store 6 (tT 3) (tT 16),none⟩,11,1,false⟩,⟨5,oM 4 17,31,1,false⟩]) .ret))))
theorem ok7 : FnOk Tryz.prog 7 18 ir7 [.cell 2 true 6, .cell 3 true 6, .tmp 4] := Z7 mixed Tryz.func7 (by kernel_rfl) Tryz.ntmps7 (by kernel_rfl) (by kernel_rfl)
def ir9 : ACode := (sQ (.region [oO 2 (.box (tT 0)),oO 3 (.box (tT 1)),oO 4 (.alloc [(.int .u8 0),(.int .i64 0),(.int .i64 0)])]) (sQ (.region [oO 8 (.load true 6 (tT 2)),oO 9 (kC 26 [(tT 8)]),oO 5 (.alloc [(.int .u8 0),
 (.int .u8 0),(.int .u8 0),(.int .u8 0),(.int .u8 0),(.int .u8 0),(.int .u8 0),(.int .u8 0),(.int .u8 0),(.int .u8 0),(.int .u8 0),(.int .u8 0),(.int .u8 0),(.int .u8 0),(.int .u8 0),(.int .u8 0),(.int .u8 0),
 (.int .u8 0),(.int .u8 0),(.int .u8 0),(.int .u8 0),(.int .u8 0),(.int .u8 0),(.int .u8 0),(.int .u8 0),(.int .u8 0),(.int .u8 0),(.int .u8 0),(.int .u8 0),(.int .u8 0),(.int .u8 0),(.int .u8 0)]),⟨none,
 .store 32 (tT 5) (tT 9),none⟩]) (sQ (sQ (.region [oO 10 (.faddr 0 (tT 3)),oO 11 (.load true 32 (tT 10)),oO 12 (.load true 32 (tT 5)),oO 13 (.bin .neq (.cells [0,0,0,0,0,0,0,0,0,0,0,0,0,0,0,0,0,0,0,0,0,
 0,0,0,0,0,0,0,0,0,0,0]) (tT 11) (tT 12)),oM 14 13,oF 14 15 (.load true 32 (tT 5)),oF 14 16 (.build [(.int .u8 0),(.int .u8 0),(.int .u8 0),(.int .u8 0),(.int .u8 0),(.int .u8 0),(.int .u8 0),(.int .u8 0),
 (.int .u8 0),(.int .u8 0),(.int .u8 0),(.int .u8 0),(.int .u8 0),(.int .u8 0),(.int .u8 0),(.int .u8 0),(.int .u8 0),(.int .u8 0),(.int .u8 0),(.int .u8 0),(.int .u8 0),(.int .u8 0),(.int .u8 0),(.int .u8 0),
 (.int .u8 0),(.int .u8 0),(.int .u8 0),(.int .u8 0),(.int .u8 0),(.int .u8 0),(.int .u8 0),(.int .u8 0)] []),oF 14 17 (.bin .eql (.cells [0,0,0,0,0,0,0,0,0,0,0,0,0,0,0,0,0,0,0,0,0,0,0,0,0,0,0,0,0,0,0,0]) (tT 15) (tT 16)),
 oO 18 (.pick (tT 14) kT (tT 17))]) (.cond (tT 18) (sQ (.region [oO 19 (.build [(.int .u8 0),(.int .i64 0),(.int .i64 0)] [(0,1,(.const (.int .u8 2)))]),⟨none,.store 3 (tT 4) (tT 19),none⟩]) .ret) .skip)) (sQ (sQ (.region [oO 20 (.load true 35 (tT 3)),
 oO 21 (kC 27 [(tT 20)]),oO 22 (.bin .neq .num (tT 21) (kI 0)),oM 23 22,oF 23 24 (.load true 6 (tT 2)),oF 23 25 (.faddr 34 (tT 3)),oF 23 26 (.load false 1 (tT 25)),oF 23 27 (kC 28 [(tT 24),(tT 26)]),oF 23 28 (.una .not (tT 27)),
 oO 29 (.pick (tT 23) kT (tT 28))]) (.cond (tT 29) (sQ (.region [oO 30 (.build [(.int .u8 0),(.int .i64 0),(.int .i64 0)] [(0,1,(.const (.int .u8 3)))]),⟨none,.store 3 (tT 4) (tT 30),none⟩]) .ret) .skip)) (sQ (sQ (.region [oO 31 (.faddr 33 (tT 3)),
 oO 32 (.load false 1 (tT 31)),oO 33 (.len (tT 32)),oO 34 (.mov (kI 0))]) (.block 0 (.loop (sQ (.region [oO 35 (.bin .lss .num (tT 34) (tT 33))]) (sQ (.cond (tT 35) .skip (.exit 0)) (sQ (.block 1 (sQ (.region [oO 36 (.iaddr 1 (tT 32) (tT 34)),
 oO 37 (.load false 1 (tT 36)),oM 7 37]) (sQ (.region [oM 38 7,oO 39 (.bin .lss .num (tT 38) (kI 0)),oM 40 39,oF 40 41 (.mov (tT 7)),oF 40 42 (.faddr 3 (tT 2)),oF 40 43 (.load false 1 (tT 42)),oF 40 44 (.len (tT 43)),
 oF 40 45 (.bin .geq .num (tT 41) (tT 44)),oO 46 (.pick (tT 40) kT (tT 45))]) (.cond (tT 46) (sQ (.region [oO 47 (.build [(.int .u8 0),(.int .i64 0),(.int .i64 0)] [(0,1,(.const (.int .u8 3)))]),⟨none,.store 3 (tT 4) (tT 47),
 none⟩]) .ret) .skip)))) (.region [oO 48 (.bin .add .num (tT 34) (kI 1)),oM 34 48]))))))) (sQ (sQ (.region [oO 49 (.faddr 32 (tT 3)),oO 50 (.load false 1 (tT 49))]) (.cond (tT 50) (sQ (.region [oO 51 (.load true 6 (tT 2)),
 oO 52 (.faddr 33 (tT 3)),oO 53 (.load false 1 (tT 52)),oO 54 (kC 29 [(tT 51),(tT 53)]),⟨none,.store 3 (tT 4) (tT 54),none⟩]) .ret) .skip)) (sQ (.region [oO 55 (.load true 6 (tT 2)),oO 56 (.faddr 34 (tT 3)),
 oO 57 (.load false 1 (tT 56)),oO 58 (kC 30 [(tT 55),(tT 57)]),⟨none,.store 3 (tT 4) (tT 58),none⟩]) .ret)))))))
theorem ok9 : FnOk Tryz.prog 9 59 ir9 [.cell 4 true 3] := Z7 mixed Tryz.func9 (by kernel_rfl) Tryz.ntmps9 (by kernel_rfl) (by kernel_rfl)
def ir11 : ACode := (sQ (.region [oO 2 (.alloc [nS])]) (sQ (.region [oM 3 0,oO 4 (kC 33 [(tT 3)]),oO 5 (kC 17 [(tT 4)]),⟨none,.store 1 (tT 2) (tT 5),none⟩]) .ret))
theorem ok11 : FnOk Tryz.prog 11 6 ir11 [.cell 2 true 1] := Z7 mixed Tryz.func11 (by kernel_rfl) Tryz.ntmps11 (by kernel_rfl) (by kernel_rfl)
def ir12 : ACode := (sQ (.region [oO 3 (.box (tT 0)),oO 4 (.box (tT 1)),oO 6 (.alloc [nS]),oO 7 (.mov kF)]) (sQ (sQ (.region [oO 10 (.faddr 1 (tT 3)),oO 11 (.load false 1 (tT 10)),oO 12 (.bin .eql .ptr (tT 11) (.const (.pointer none))),
 oM 13 12,oF 13 14 (.mov (tT 2)),oF 13 15 (.bin .lss .num (tT 14) (kI 0)),oO 16 (.pick (tT 13) kT (tT 15)),oM 17 16,oF 17 18 (.mov (tT 2)),oF 17 19 (.faddr 3 (tT 3)),oF 17 20 (.load false 1 (tT 19)),oF 17 21 (.len (tT 20)),
 oF 17 22 (.bin .geq .num (tT 18) (tT 21)),oO 23 (.pick (tT 17) kT (tT 22))]) (.cond (tT 23) (sQ (.region [oO 24 (.build [nS] []),⟨none,.store 1 (tT 6) (tT 24),none⟩,oO 7 (.mov kF)]) .ret) .skip)) (sQ (.region [oO 25 (.faddr 3 (tT 3)),
 oO 26 (.load false 1 (tT 25)),oM 27 2,oO 28 (.iaddr 5 (tT 26) (tT 27)),oO 29 (.load true 5 (tT 28)),oO 8 (.alloc [(.bool false),nS,nS,(.int .i64 0),(.int .i64 0)]),⟨none,.store 5 (tT 8) (tT 29),none⟩]) (sQ (.region [oO 30 (.load true 1 (tT 4)),
 oO 31 (.faddr 3 (tT 8)),oO 32 (.load false 1 (tT 31)),oO 33 (kC 15 [(tT 30),(tT 32)]),oO 9 (.alloc [nS]),⟨none,.store 1 (tT 9) (tT 33),none⟩]) (sQ (sQ (.region [oO 34 (.faddr 0 (tT 8)),oO 35 (.load false 1 (tT 34))]) (.cond (tT 35) (.region [oO 36 (.load true 1 (tT 4)),
 oO 37 (.faddr 3 (tT 8)),oO 38 (.load false 1 (tT 37)),oO 39 (kC 34 [(tT 36),(tT 38)]),⟨none,.store 1 (tT 9) (tT 39),none⟩]) .skip)) (sQ (sQ (.draw [⟨0,oO 40 (.load true 1 (tT 4)),0,0,false⟩,⟨1,oO 41 (.faddr 3 (tT 8)),
 0,0,false⟩,⟨2,oO 42 (.load false 1 (tT 41)),2,0,false⟩,⟨3,oO 43 (kC 35 [(tT 40),(tT 42)]),7,0,false⟩,⟨4,oO 44 (.faddr 0 (tT 8)),0,0,false⟩,⟨5,oO 45 (.load false 1 (tT 44)),16,0,false⟩,⟨6,oO 46 (.bin .neq .bool (tT 43) (tT 45)),
 63,1,false⟩,⟨7,oM 47 46,127,1,false⟩,⟨8,oF 47 48 (.faddr 0 (tT 8)),255,1,false⟩,⟨9,oF 47 49 (.load false 1 (tT 48)),511,1,false⟩,⟨10,oF 47 50 (.una .not (tT 49)),1023,1,false⟩,⟨11,oF 47 51 (.mov (tT 50)),
 2047,1,false⟩,⟨12,oT 51 52 (.faddr 1 (tT 8)),4095,0,false⟩,⟨13,oT 51 53 (.load true 2 (tT 52)),8191,0,false⟩,⟨14,oT 51 54 (.faddr 1 (tT 3)),4095,0,false⟩,⟨15,oT 51 55 (.load false 1 (tT 54)),20479,0,false⟩,
 ⟨16,oT 51 56 (.load true 1 (tT 4)),4095,0,false⟩,⟨17,oT 51 57 (kC 37 [(tT 55),(tT 56)]),118783,0,false⟩,⟨18,oT 51 58 (kC 36 [(tT 53),(tT 57)]),262143,1,false⟩,⟨19,oT 51 59 (.una .not (tT 58)),524287,1,
 false⟩,⟨20,oF 47 60 (.pick (tT 51) (tT 59) kF),1048575,1,false⟩,⟨21,oO 61 (.pick (tT 47) kT (tT 60)),2097151,1,false⟩,⟨22,oM 62 61,4194303,1,false⟩,⟨23,oF 62 63 (.load true 6 (tT 3)),8388607,0,false⟩,⟨24,
 oF 62 64 (.load true 1 (tT 9)),8388607,0,false⟩,⟨25,oF 62 65 (kC 38 [(tT 63),(tT 64)]),33554431,1,false⟩,⟨26,oF 62 66 (.una .not (tT 65)),67108863,1,false⟩,⟨27,oO 67 (.pick (tT 62) kT (tT 66)),134217727,
 1,false⟩]) (.cond (tT 67) (sQ (.region [oO 68 (.build [nS] []),⟨none,.store 1 (tT 6) (tT 68),none⟩,oO 7 (.mov kF)]) .ret) .skip)) (sQ (.region [oO 69 (.load true 1 (tT 9)),⟨none,.store 1 (tT 6) (tT 69),
 none⟩,oO 7 (.mov kT)]) .ret)))))))
theorem ok12 : FnOk Tryz.prog 12 70 ir12 [.cell 6 true 1, .tmp 7] := Z7 mixed Tryz.func12 (by kernel_rfl) Tryz.ntmps12 (by kernel_rfl) (by kernel_rfl)
def ir13 : ACode := (sQ (.region [oO 3 (.box (tT 0)),oO 4 (.box (tT 1)),oO 6 (.mov kF)]) (sQ (.region [oO 10 (.load true 6 (tT 3)),oO 11 (.load true 1 (tT 4)),oM 12 2,oO 13 (kC 39 [(tT 10),(tT 11),(tT 12)]),
 oM 9 13,oO 14 (.extract (tT 9) 0),oO 15 (.extract (tT 9) 1),oO 7 (.alloc [nS]),⟨none,.store 1 (tT 7) (tT 14),none⟩,oM 8 15]) (sQ (.region [oM 16 8,oM 6 16]) .ret)))
theorem ok13 : FnOk Tryz.prog 13 17 ir13 [.tmp 6] := Z7 mixed Tryz.func13 (by kernel_rfl) Tryz.ntmps13 (by kernel_rfl) (by kernel_rfl)
def ir15 : ACode := (sQ (.region [oO 2 (.box (tT 0)),oO 4 (.alloc [nS])]) (sQ (sQ (.region [oM 6 1,oO 7 (.bin .lss .num (tT 6) (kI 0)),oM 8 7,oF 8 9 (.mov (tT 1)),oF 8 10 (.bin .gtr .num (tT 9) (kI 4095)),
 oO 11 (.pick (tT 8) kT (tT 10)),oM 12 11,oF 12 13 (.load true 1 (tT 2)),oF 12 14 (.mov (tT 1)),oF 12 15 (kC 35 [(tT 13),(tT 14)]),oO 16 (.pick (tT 12) kT (tT 15))]) (.cond (tT 16) (sQ (.region [oO 17 (.load true 1 (tT 2)),
 ⟨none,.store 1 (tT 4) (tT 17),none⟩]) .ret) .skip)) (sQ (.region [oO 18 (.faddr 0 (tT 2)),oO 19 (.load false 1 (tT 18)),oO 20 (.len (tT 19)),oM 21 1,oO 22 (.bin .quo .num (tT 21) (kI 64)),oO 23 (.bin .add .num (tT 22) (kI 1)),
 oO 24 (.mx (tT 20) (tT 23)),oO 25 (.mslice [(.int .u64 0)] 8 (tT 24) (tT 24)),oM 5 25]) (sQ (.region [oM 26 5,oO 27 (.faddr 0 (tT 2)),oO 28 (.load false 1 (tT 27)),oO 29 (.copy 1 (tT 26) (tT 28))]) (sQ (.draw [⟨0,
 oM 30 5,0,1,false⟩,⟨1,oM 31 1,0,1,false⟩,⟨2,oO 32 (.bin .quo .num (tT 31) (kI 64)),2,1,false⟩,⟨3,oO 33 (.iaddr 1 (tT 30) (tT 32)),7,1,false⟩,⟨4,oO 34 (.load false 1 (tT 33)),15,1,false⟩,⟨5,oM 35 1,0,0,
 false⟩,⟨6,oO 36 (.bin .rem .num (tT 35) (kI 64)),32,0,false⟩,⟨7,oO 37 (.bin .shl .num (.const (.int .u64 1)) (tT 36)),96,0,false⟩,⟨8,oO 38 (.bin .or .num (tT 34) (tT 37)),255,1,false⟩,⟨9,oO 39 (.iaddr 1 (tT 30) (tT 32)),
 511,1,false⟩,⟨10,⟨none,.store 1 (tT 39) (tT 38),none⟩,1023,1,false⟩]) (sQ (.region [oM 40 5,oO 41 (.build [nS] [(0,1,(tT 40))]),⟨none,.store 1 (tT 4) (tT 41),none⟩]) .ret))))))
theorem ok15 : FnOk Tryz.prog 15 42 ir15 [.cell 4 true 1] := Z7 mixed Tryz.func15 (by kernel_rfl) Tryz.ntmps15 (by kernel_rfl) (by kernel_rfl)
def ir16 : ACode := (sQ (.region [oO 2 (.box (tT 0)),oO 4 (.alloc [(.int .u8 0),(.int .u8 0),(.int .u8 0),(.int .u8 0),(.int .u8 0),(.int .u8 0),(.int .u8 0),(.int .u8 0),(.int .u8 0),(.int .u8 0),(.int .u8 0),
 (.int .u8 0),(.int .u8 0),(.int .u8 0),(.int .u8 0),(.int .u8 0),(.int .u8 0),(.int .u8 0),(.int .u8 0),(.int .u8 0),(.int .u8 0),(.int .u8 0),(.int .u8 0),(.int .u8 0),(.int .u8 0),(.int .u8 0),(.int .u8 0),
 (.int .u8 0),(.int .u8 0),(.int .u8 0),(.int .u8 0),(.int .u8 0),(.bool false),nS,nS])]) (sQ (.region [oO 5 (.load true 6 (tT 2)),oO 6 (kC 26 [(tT 5)]),oM 7 1,oO 8 (kC 46 [(tT 7)]),oO 9 (.build [(.int .u8 0),
 (.int .u8 0),(.int .u8 0),(.int .u8 0),(.int .u8 0),(.int .u8 0),(.int .u8 0),(.int .u8 0),(.int .u8 0),(.int .u8 0),(.int .u8 0),(.int .u8 0),(.int .u8 0),(.int .u8 0),(.int .u8 0),(.int .u8 0),(.int .u8 0),
 (.int .u8 0),(.int .u8 0),(.int .u8 0),(.int .u8 0),(.int .u8 0),(.int .u8 0),(.int .u8 0),(.int .u8 0),(.int .u8 0),(.int .u8 0),(.int .u8 0),(.int .u8 0),(.int .u8 0),(.int .u8 0),(.int .u8 0),(.bool false),
 nS,nS] [(0,32,(tT 6)),(34,1,(tT 8))]),⟨none,.store 35 (tT 4) (tT 9),none⟩]) .ret))
theorem ok16 : FnOk Tryz.prog 16 10 ir16 [.cell 4 true 35] := Z7 mixed Tryz.func16 (by kernel_rfl) Tryz.ntmps16 (by kernel_rfl) (by kernel_rfl)
def ir17 : ACode := (sQ (.region [oO 2 (.alloc [nS])]) (sQ (.region [oO 3 (.mov (.const (.int .i64 (-1))))]) (sQ (sQ (.region [oM 9 0,oO 10 (.len (tT 9)),oO 11 (.mov (kI 0))]) (.block 0 (.loop (sQ (.region [oO 12 (.bin .lss .num (tT 11) (tT 10))]) (sQ (.cond (tT 12) .skip (.exit 0)) (sQ (.block 1 (sQ (.region [oO 13 (.iaddr 1 (tT 9) (tT 11)),
 oO 14 (.load false 1 (tT 13)),oM 5 14]) (sQ (.region [oM 15 5,oO 16 (.bin .leq .num (tT 15) (kI 4095))]) (.cond (tT 16) (.region [oM 17 3,oM 18 5,oO 19 (.mx (tT 17) (tT 18)),oM 3 19]) .skip)))) (.region [oO 20 (.bin .add .num (tT 11) (kI 1)),
 oM 11 20]))))))) (sQ (sQ (.region [oM 21 3,oO 22 (.bin .lss .num (tT 21) (kI 0))]) (.cond (tT 22) (sQ (.region [oO 23 (.build [nS] []),⟨none,.store 1 (tT 2) (tT 23),none⟩]) .ret) .skip)) (sQ (.region [oM 24 3,
 oO 25 (.bin .quo .num (tT 24) (kI 64)),oO 26 (.bin .add .num (tT 25) (kI 1)),oO 27 (.mslice [(.int .u64 0)] 8 (tT 26) (tT 26)),oM 6 27]) (sQ (sQ (.region [oM 28 0,oO 29 (.len (tT 28)),oO 30 (.mov (kI 0))]) (.block 2 (.loop (sQ (.region [oO 31 (.bin .lss .num (tT 30) (tT 29))]) (sQ (.cond (tT 31) .skip (.exit 2)) (sQ (.block 3 (sQ (.region [oO 32 (.iaddr 1 (tT 28) (tT 30)),
 oO 33 (.load false 1 (tT 32)),oM 8 33]) (sQ (.region [oM 34 8,oO 35 (.bin .geq .num (tT 34) (kI 0)),oM 36 35,oT 36 37 (.mov (tT 8)),oT 36 38 (.mov (tT 3)),oT 36 39 (.bin .leq .num (tT 37) (tT 38)),oO 40 (.pick (tT 36) (tT 39) kF)]) (.cond (tT 40) (.draw [⟨0,
 oM 41 6,0,1,false⟩,⟨1,oM 42 8,0,1,false⟩,⟨2,oO 43 (.bin .quo .num (tT 42) (kI 64)),2,1,false⟩,⟨3,oO 44 (.iaddr 1 (tT 41) (tT 43)),7,1,false⟩,⟨4,oO 45 (.load false 1 (tT 44)),15,1,false⟩,⟨5,oM 46 8,0,0,
 false⟩,⟨6,oO 47 (.bin .rem .num (tT 46) (kI 64)),32,0,false⟩,⟨7,oO 48 (.bin .shl .num (.const (.int .u64 1)) (tT 47)),96,0,false⟩,⟨8,oO 49 (.bin .or .num (tT 45) (tT 48)),255,1,false⟩,⟨9,oO 50 (.iaddr 1 (tT 41) (tT 43)),
 511,1,false⟩,⟨10,⟨none,.store 1 (tT 50) (tT 49),none⟩,1023,1,false⟩]) .skip)))) (.region [oO 51 (.bin .add .num (tT 30) (kI 1)),oM 30 51]))))))) (sQ (.region [oM 52 6,oO 53 (kC 47 [(tT 52)]),⟨none,.store 1 (tT 2) (tT 53),
 none⟩]) .ret)))))))
theorem ok17 : FnOk Tryz.prog 17 54 ir17 [.cell 2 true 1] := Z7 mixed Tryz.func17 (by kernel_rfl) Tryz.ntmps17 (by kernel_rfl) (by kernel_rfl)
def ir18 : ACode := (sQ (.region [oO 0 (.mov (.const (.pointer none)))]) (sQ (.region [oO 4 (kC 48 [(kI 64),(.const nS)]),oM 3 4,oO 5 (.extract (tT 3) 0),oO 6 (.extract (tT 3) 1),oM 1 5,oM 2 6]) (sQ (.region [oM 7 1,
 oO 8 (.build [(.pointer none)] [(0,1,(tT 7))]),oO 9 (.box (tT 8)),oM 0 9]) .ret)))
theorem ok18 : FnOk Tryz.prog 18 10 ir18 [.tmp 0] := Z7 mixed Tryz.func18 (by kernel_rfl) Tryz.ntmps18 (by kernel_rfl) (by kernel_rfl)
def ir19 : ACode := (sQ (.region [oO 2 (.box (tT 0)),oO 4 (.alloc [(.int .u8 0),(.int .u8 0),(.int .u8 0),(.int .u8 0),(.int .u8 0),(.int .u8 0),(.int .u8 0),(.int .u8 0),(.int .u8 0),(.int .u8 0),(.int .u8 0),
 (.int .u8 0),(.int .u8 0),(.int .u8 0),(.int .u8 0),(.int .u8 0),(.int .u8 0),(.int .u8 0),(.int .u8 0),(.int .u8 0),(.int .u8 0),(.int .u8 0),(.int .u8 0),(.int .u8 0),(.int .u8 0),(.int .u8 0),(.int .u8 0),
 (.int .u8 0),(.int .u8 0),(.int .u8 0),(.int .u8 0),(.int .u8 0),(.bool false),nS,nS])]) (sQ (.region [oO 5 (.load true 6 (tT 2)),oO 6 (kC 26 [(tT 5)]),oM 7 1,oO 8 (kC 49 [(tT 7)]),oO 9 (.build [(.int .u8 0),
 (.int .u8 0),(.int .u8 0),(.int .u8 0),(.int .u8 0),(.int .u8 0),(.int .u8 0),(.int .u8 0),(.int .u8 0),(.int .u8 0),(.int .u8 0),(.int .u8 0),(.int .u8 0),(.int .u8 0),(.int .u8 0),(.int .u8 0),(.int .u8 0),
 (.int .u8 0),(.int .u8 0),(.int .u8 0),(.int .u8 0),(.int .u8 0),(.int .u8 0),(.int .u8 0),(.int .u8 0),(.int .u8 0),(.int .u8 0),(.int .u8 0),(.int .u8 0),(.int .u8 0),(.int .u8 0),(.int .u8 0),(.bool false),
 nS,nS] [(0,32,(tT 6)),(32,1,kT),(33,1,(tT 8))]),⟨none,.store 35 (tT 4) (tT 9),none⟩]) .ret))
theorem ok19 : FnOk Tryz.prog 19 10 ir19 [.cell 4 true 35] := Z7 mixed Tryz.func19 (by kernel_rfl) Tryz.ntmps19 (by kernel_rfl) (by kernel_rfl)
def ir20 : ACode := (sQ (.region [oO 2 (.alloc [(.int .i64 0),nS,(.int .u64 0),nS,nS,nS])]) (sQ (.region [oM 26 0,oO 27 (.build [nS,(.int .i64 0)] [(0,1,(tT 26))]),oO 28 (.box (tT 27)),oM 3 28]) (sQ (.region [oM 29 3,
 oO 30 (kC 50 [(tT 29)]),oO 31 (.bin .rem .num (tT 30) (kI 4)),oO 32 (.bin .add .num (kI 2) (tT 31)),oO 33 (.build [(.int .i64 0),nS,(.int .u64 0),nS,nS,nS] [(0,1,(tT 32))]),oO 4 (.alloc [(.int .i64 0),
 nS,(.int .u64 0),nS,nS,nS]),⟨none,.store 6 (tT 4) (tT 33),none⟩]) (sQ (.region [oO 34 (.faddr 0 (tT 4)),oO 35 (.load false 1 (tT 34)),oO 36 (.conv .u64 (tT 35)),oO 37 (.bin .shl .num (.const (.int .u8 2)) (tT 36)),
 oO 38 (.bin .sub .num (tT 37) (.const (.int .u8 2))),oM 5 38]) (sQ (.region [oM 39 3,oO 40 (kC 50 [(tT 39)]),oM 6 40]) (sQ (.region [oO 7 (.mov (kI 0))]) (sQ (sQ (.region [oO 8 (.mov (kI 1))]) (.block 0 (.loop (sQ (sQ (.region [oM 41 8,
 oO 42 (.faddr 0 (tT 4)),oO 43 (.load false 1 (tT 42)),oO 44 (.bin .lss .num (tT 41) (tT 43))]) (.cond (tT 44) .skip (.exit 0))) (sQ (.block 1 (sQ (.region [oM 47 8,oO 48 (.bin .add .num (tT 47) (kI 1)),
 oM 9 48]) (.block 2 (.loop (sQ (sQ (.region [oM 49 9,oO 50 (.faddr 0 (tT 4)),oO 51 (.load false 1 (tT 50)),oO 52 (.bin .leq .num (tT 49) (tT 51))]) (.cond (tT 52) .skip (.exit 2))) (sQ (.block 3 (sQ (sQ (.region [oM 55 6,
 oM 56 7,oO 57 (.bin .rem .num (tT 56) (kI 8)),oO 58 (.conv .u64 (tT 57)),oO 59 (.bin .shr .num (tT 55) (tT 58)),oO 60 (.bin .rem .num (tT 59) (kI 2)),oO 61 (.bin .eql .num (tT 60) (kI 1)),oM 62 61,oT 62 63 (.mov (tT 7)),
 oT 62 64 (.bin .rem .num (tT 63) (kI 3)),oT 62 65 (.bin .neq .num (tT 64) (kI 2)),oO 66 (.pick (tT 62) (tT 65) kF)]) (.cond (tT 66) (.region [oO 68 (.faddr 1 (tT 4)),oO 69 (.load false 1 (tT 68)),oM 70 8,
 oM 71 9,oO 72 (kC 51 [(tT 69),(tT 70),(tT 71)]),oM 67 72,oO 73 (.extract (tT 67) 0),oO 74 (.extract (tT 67) 1),oO 75 (.faddr 1 (tT 4)),⟨none,.store 1 (tT 75) (tT 73),none⟩]) .skip)) (.region [oM 76 7,oO 77 (.bin .add .num (tT 76) (kI 1)),
 oM 7 77]))) (.region [oM 53 9,oO 54 (.bin .add .num (tT 53) (kI 1)),oM 9 54]))))))) (.region [oM 45 8,oO 46 (.bin .add .num (tT 45) (kI 1)),oM 8 46])))))) (sQ (.region [oM 78 3,oO 79 (kC 50 [(tT 78)]),
 oO 80 (.conv .u8 (tT 79)),oM 81 5,oO 82 (.bin .and .num (tT 80) (tT 81)),oO 83 (.conv .u64 (tT 82)),oO 84 (.faddr 2 (tT 4)),⟨none,.store 1 (tT 84) (tT 83),none⟩]) (sQ (.region [oM 85 3,oO 86 (kC 50 [(tT 85)]),
 oO 87 (.bin .rem .num (tT 86) (kI 7)),oM 10 87]) (sQ (sQ (.region [oO 11 (.mov (kI 0))]) (.block 4 (.loop (sQ (sQ (.region [oM 88 11,oM 89 10,oO 90 (.bin .lss .num (tT 88) (tT 89))]) (.cond (tT 90) .skip (.exit 4))) (sQ (.block 5 (sQ (.region [oM 93 3,
 oO 94 (kC 50 [(tT 93)]),oM 12 94]) (sQ (.region [oM 95 3,oO 96 (kC 50 [(tT 95)]),oM 13 96]) (sQ (.region [oM 97 3,oO 98 (kC 50 [(tT 97)]),oM 14 98]) (sQ (.region [oM 99 3,oO 100 (kC 50 [(tT 99)]),oM 15 100]) (sQ (.region [oM 101 12,
 oO 102 (.bin .rem .num (tT 101) (kI 4)),oO 103 (.bin .eql .num (tT 102) (kI 3)),oM 104 13,oO 105 (.faddr 0 (tT 4)),oO 106 (.load false 1 (tT 105)),oO 107 (.bin .rem .num (tT 104) (tT 106)),oO 108 (.bin .add .num (kI 1) (tT 107)),
 oM 109 11,oO 110 (.build [(.bool false),(.int .u64 0),(.int .u64 0),(.int .i64 0),(.int .i64 0)] [(0,1,(tT 103)),(3,1,(tT 108)),(4,1,(tT 109))]),oO 16 (.alloc [(.bool false),(.int .u64 0),(.int .u64 0),
 (.int .i64 0),(.int .i64 0)]),⟨none,.store 5 (tT 16) (tT 110),none⟩]) (sQ (sQ (.region [oO 111 (.faddr 0 (tT 16)),oO 112 (.load false 1 (tT 111)),oO 113 (.una .not (tT 112))]) (.cond (tT 113) (.region [oM 114 14,
 oM 115 15,oM 116 5,oO 117 (kC 52 [(tT 114),(tT 115),(tT 116)]),oO 118 (.faddr 1 (tT 16)),⟨none,.store 2 (tT 118) (tT 117),none⟩]) .skip)) (.region [oO 119 (.faddr 3 (tT 4)),oO 120 (.load false 1 (tT 119)),
 oO 121 (.load true 5 (tT 16)),oO 122 (.bslice [(.bool false),(.int .u64 0),(.int .u64 0),(.int .i64 0),(.int .i64 0)] 1 [(0,(tT 121))]),oO 123 (.append [(.bool false),(.int .u64 0),(.int .u64 0),(.int .i64 0),
 (.int .i64 0)] 40 (tT 120) (tT 122)),oO 124 (.faddr 3 (tT 4)),⟨none,.store 1 (tT 124) (tT 123),none⟩])))))))) (.region [oM 91 11,oO 92 (.bin .add .num (tT 91) (kI 1)),oM 11 92])))))) (sQ (.region [oM 125 3,
 oO 126 (kC 50 [(tT 125)]),oO 127 (.bin .rem .num (tT 126) (kI 4)),oM 17 127]) (sQ (.region [oM 128 3,oO 129 (kC 50 [(tT 128)]),oO 130 (.bin .rem .num (tT 129) (kI 3)),oO 131 (.bin .add .num (kI 1) (tT 130)),
 oM 18 131]) (sQ (sQ (.region [oO 19 (.mov (kI 0))]) (.block 6 (.loop (sQ (sQ (.region [oM 132 19,oM 133 17,oO 134 (.bin .lss .num (tT 132) (tT 133))]) (.cond (tT 134) .skip (.exit 6))) (sQ (.block 7 (sQ (.region [oM 137 3,
 oO 138 (kC 50 [(tT 137)]),oM 20 138]) (sQ (.region [oM 139 3,oO 140 (kC 50 [(tT 139)]),oM 21 140]) (sQ (.region [oM 141 20,oM 142 19,oO 143 (.faddr 0 (tT 4)),oO 144 (.load false 1 (tT 143)),oO 145 (.bin .rem .num (tT 142) (tT 144)),
 oO 146 (.conv .u64 (tT 145)),oO 147 (.bin .shl .num (kI 2) (tT 146)),oO 148 (.bin .or .num (tT 141) (tT 147)),oM 149 21,oM 150 5,oO 151 (kC 52 [(tT 148),(tT 149),(tT 150)]),oO 22 (.alloc [(.int .u64 0),
 (.int .u64 0)]),⟨none,.store 2 (tT 22) (tT 151),none⟩]) (sQ (.draw [⟨0,oO 152 (.load true 2 (tT 22)),0,0,false⟩,⟨1,oO 153 (.faddr 1 (tT 4)),0,0,false⟩,⟨2,oO 154 (.load false 1 (tT 153)),2,0,false⟩,⟨3,oO 155 (.faddr 2 (tT 4)),
 0,0,false⟩,⟨4,oO 156 (.load false 1 (tT 155)),8,0,false⟩,⟨5,oO 157 (kC 54 [(tT 154),(tT 156)]),30,0,false⟩,⟨6,oO 158 (kC 53 [(tT 152),(tT 157)]),63,1,false⟩,⟨7,oO 159 (.una .not (tT 158)),127,1,false⟩]) (.cond (tT 159) (.region [oO 160 (.faddr 4 (tT 4)),
 oO 161 (.load false 1 (tT 160)),oO 162 (.load true 2 (tT 22)),oO 163 (.bslice [(.int .u64 0),(.int .u64 0)] 1 [(0,(tT 162))]),oO 164 (.append [(.int .u64 0),(.int .u64 0)] 16 (tT 161) (tT 163)),oO 165 (.faddr 4 (tT 4)),
 ⟨none,.store 1 (tT 165) (tT 164),none⟩]) .skip)))))) (.region [oM 135 19,oO 136 (.bin .add .num (tT 135) (kI 1)),oM 19 136])))))) (sQ (sQ (.region [oO 23 (.mov (kI 0))]) (.block 8 (.loop (sQ (sQ (.region [oM 166 23,
 oM 167 18,oO 168 (.bin .lss .num (tT 166) (tT 167))]) (.cond (tT 168) .skip (.exit 8))) (sQ (.block 9 (sQ (.region [oM 171 3,oO 172 (kC 50 [(tT 171)]),oM 24 172]) (sQ (.region [oM 173 3,oO 174 (kC 50 [(tT 173)]),
 oM 25 174]) (.draw [⟨0,oO 175 (.faddr 5 (tT 4)),0,1,false⟩,⟨1,oO 176 (.load false 1 (tT 175)),1,1,false⟩,⟨2,oM 177 24,0,0,false⟩,⟨3,oM 178 25,0,0,false⟩,⟨4,oM 179 5,0,0,false⟩,⟨5,oO 180 (kC 52 [(tT 177),
 (tT 178),(tT 179)]),28,0,false⟩,⟨6,oO 181 (.bslice [(.int .u64 0),(.int .u64 0)] 1 [(0,(tT 180))]),60,0,false⟩,⟨7,oO 182 (.append [(.int .u64 0),(.int .u64 0)] 16 (tT 176) (tT 181)),127,1,false⟩,⟨8,oO 183 (.faddr 5 (tT 4)),
 255,1,false⟩,⟨9,⟨none,.store 1 (tT 183) (tT 182),none⟩,511,1,false⟩])))) (.region [oM 169 23,oO 170 (.bin .add .num (tT 169) (kI 1)),oM 23 170])))))) (sQ (.region [oO 184 (.load true 6 (tT 4)),⟨none,.store 6 (tT 2) (tT 184),
 none⟩]) .ret)))))))))))))))
theorem ok20 : FnOk Tryz.prog 20 185 ir20 [.cell 2 true 6] := Z7 mixed Tryz.func20 (by kernel_rfl) Tryz.ntmps20 (by kernel_rfl) (by kernel_rfl)
def ir21 : ACode := (sQ (.region [oO 1 (.box (tT 0)),oO 2 (.alloc [(.int .i64 0),(.pointer none),nS,nS,nS,nS]),oO 3 (.mov kF)]) (sQ (.draw [⟨0,oO 11 (.faddr 0 (tT 1)),0,0,false⟩,⟨1,oO 12 (.load false 1 (tT 11)),
 1,0,false⟩,⟨2,oO 13 (kC 18 []),0,0,false⟩,⟨3,oO 14 (.faddr 2 (tT 1)),0,0,false⟩,⟨4,oO 15 (.load false 1 (tT 14)),8,0,false⟩,⟨5,oO 16 (kC 11 [(tT 15)]),28,0,false⟩,⟨6,oO 17 (.faddr 4 (tT 1)),0,0,false⟩,
 ⟨7,oO 18 (.load false 1 (tT 17)),64,0,false⟩,⟨8,oO 19 (kC 23 [(tT 18)]),252,0,false⟩,⟨9,oO 20 (.faddr 5 (tT 1)),0,0,false⟩,⟨10,oO 21 (.load false 1 (tT 20)),512,0,false⟩,⟨11,oO 22 (kC 23 [(tT 21)]),2044,
 0,false⟩,⟨12,oO 23 (.build [(.int .i64 0),(.pointer none),nS,nS,nS,nS] [(0,1,(tT 12)),(1,1,(tT 13)),(2,1,(tT 16)),(4,1,(tT 19)),(5,1,(tT 22))]),4095,1,false⟩,⟨13,oO 4 (.alloc [(.int .i64 0),(.pointer none),
 nS,nS,nS,nS]),0,0,false⟩,⟨14,⟨none,.store 6 (tT 4) (tT 23),none⟩,16383,1,false⟩]) (sQ (sQ (.region [oO 24 (.faddr 1 (tT 1)),oO 25 (.load false 1 (tT 24)),oO 26 (.len (tT 25)),oO 27 (.mov (kI 0))]) (.block 0 (.loop (sQ (.region [oO 28 (.bin .lss .num (tT 27) (tT 26))]) (sQ (.cond (tT 28) .skip (.exit 0)) (sQ (.block 1 (sQ (.region [oO 29 (.iaddr 2 (tT 25) (tT 27)),
 oO 30 (.load true 2 (tT 29)),oO 6 (.alloc [(.int .i64 0),(.int .i64 0)]),⟨none,.store 2 (tT 6) (tT 30),none⟩]) (sQ (.region [oO 32 (.faddr 1 (tT 4)),oO 33 (.load false 1 (tT 32)),oO 34 (.iaddrA 2 1 (tT 6) (kI 0)),
 oO 35 (.load false 1 (tT 34)),oO 36 (.iaddrA 2 1 (tT 6) (kI 1)),oO 37 (.load false 1 (tT 36)),oO 38 (kC 55 [(tT 33),(tT 35),(tT 37)]),oM 31 38,oO 39 (.extract (tT 31) 0),oO 40 (.extract (tT 31) 1),oM 7 39,
 oM 8 40]) (sQ (sQ (.region [oM 41 8,oO 42 (.bin .neq .num (tT 41) (kI 0))]) (.cond (tT 42) (sQ (.region [oO 43 (.build [(.int .i64 0),(.pointer none),nS,nS,nS,nS] []),⟨none,.store 6 (tT 2) (tT 43),none⟩,
 oO 3 (.mov kF)]) .ret) .skip)) (.region [oM 44 7,oO 45 (.faddr 1 (tT 4)),⟨none,.store 1 (tT 45) (tT 44),none⟩]))))) (.region [oO 46 (.bin .add .num (tT 27) (kI 1)),oM 27 46]))))))) (sQ (sQ (.region [oO 47 (.faddr 3 (tT 1)),
 oO 48 (.load false 1 (tT 47)),oO 49 (.len (tT 48)),oO 50 (.mov (kI 0))]) (.block 2 (.loop (sQ (.region [oO 51 (.bin .lss .num (tT 50) (tT 49))]) (sQ (.cond (tT 51) .skip (.exit 2)) (sQ (.block 3 (sQ (.region [oO 52 (.iaddr 5 (tT 48) (tT 50)),
 oO 53 (.load true 5 (tT 52)),oO 10 (.alloc [(.bool false),(.int .u64 0),(.int .u64 0),(.int .i64 0),(.int .i64 0)]),⟨none,.store 5 (tT 10) (tT 53),none⟩]) (.draw [⟨0,oO 54 (.faddr 3 (tT 4)),0,0,false⟩,
 ⟨1,oO 55 (.load false 1 (tT 54)),1,0,false⟩,⟨2,oO 56 (.faddr 0 (tT 10)),0,0,false⟩,⟨3,oO 57 (.load false 1 (tT 56)),4,0,false⟩,⟨4,oO 58 (.faddr 1 (tT 10)),0,0,false⟩,⟨5,oO 59 (.load true 2 (tT 58)),16,
 0,false⟩,⟨6,oO 60 (kC 56 [(tT 59)]),48,0,false⟩,⟨7,oO 61 (.faddr 3 (tT 10)),0,0,false⟩,⟨8,oO 62 (.load false 1 (tT 61)),128,0,false⟩,⟨9,oO 63 (.faddr 4 (tT 10)),0,0,false⟩,⟨10,oO 64 (.load false 1 (tT 63)),
 512,0,false⟩,⟨11,oO 65 (.build [(.bool false),nS,nS,(.int .i64 0),(.int .i64 0)] [(0,1,(tT 57)),(1,2,(tT 60)),(3,1,(tT 62)),(4,1,(tT 64))]),2044,0,false⟩,⟨12,oO 66 (.bslice [(.bool false),nS,nS,(.int .i64 0),
 (.int .i64 0)] 1 [(0,(tT 65))]),4092,0,false⟩,⟨13,oO 67 (.append [(.bool false),nS,nS,(.int .i64 0),(.int .i64 0)] 72 (tT 55) (tT 66)),8191,1,false⟩,⟨14,oO 68 (.faddr 3 (tT 4)),16383,1,false⟩,⟨15,⟨none,
 .store 1 (tT 68) (tT 67),none⟩,32767,1,false⟩]))) (.region [oO 69 (.bin .add .num (tT 50) (kI 1)),oM 50 69]))))))) (sQ (.draw [⟨0,oO 70 (.load true 6 (tT 4)),0,0,false⟩,⟨1,oO 71 (.faddr 1 (tT 4)),0,0,false⟩,
 ⟨2,oO 72 (.load false 1 (tT 71)),2,0,false⟩,⟨3,oO 73 (.bin .neq .ptr (tT 72) (.const (.pointer none))),6,0,false⟩,⟨4,⟨none,.store 6 (tT 2) (tT 70),none⟩,1,2,false⟩,⟨5,oM 3 73,31,1,false⟩]) .ret)))))
theorem ok21 : FnOk Tryz.prog 21 74 ir21 [.cell 2 true 6, .tmp 3] := Z7 mixed Tryz.func21 (by kernel_rfl) Tryz.ntmps21 (by kernel_rfl) (by kernel_rfl)
def ir23 : ACode := (sQ (.region [oO 2 (.mov (.const nS))]) (sQ (.region [oO 3 (.mov (.const nS))]) (sQ (sQ (.region [oM 6 0,oO 7 (.len (tT 6)),oO 8 (.mov (kI 0))]) (.block 0 (.loop (sQ (.region [oO 9 (.bin .lss .num (tT 8) (tT 7))]) (sQ (.cond (tT 9) .skip (.exit 0)) (sQ (.block 1 (sQ (.region [oO 10 (.iaddr 2 (tT 6) (tT 8)),
 oO 11 (.load true 2 (tT 10)),oO 5 (.alloc [(.int .u64 0),(.int .u64 0)]),⟨none,.store 2 (tT 5) (tT 11),none⟩]) (.region [oM 12 3,oO 13 (.load true 2 (tT 5)),oO 14 (kC 56 [(tT 13)]),oO 15 (.bslice [nS,nS] 1 [(0,
 (tT 14))]),oO 16 (.append [nS,nS] 48 (tT 12) (tT 15)),oM 3 16]))) (.region [oO 17 (.bin .add .num (tT 8) (kI 1)),oM 8 17]))))))) (sQ (.region [oM 18 3,oM 2 18]) .ret))))
theorem ok23 : FnOk Tryz.prog 23 19 ir23 [.tmp 2] := Z7 mixed Tryz.func23 (by kernel_rfl) Tryz.ntmps23 (by kernel_rfl) (by kernel_rfl)
def ir26 : ACode := (sQ (.region [oO 1 (.box (tT 0)),oO 2 (.alloc [(.int .u8 0),(.int .u8 0),(.int .u8 0),(.int .u8 0),(.int .u8 0),(.int .u8 0),(.int .u8 0),(.int .u8 0),(.int .u8 0),(.int .u8 0),(.int .u8 0),
 (.int .u8 0),(.int .u8 0),(.int .u8 0),(.int .u8 0),(.int .u8 0),(.int .u8 0),(.int .u8 0),(.int .u8 0),(.int .u8 0),(.int .u8 0),(.int .u8 0),(.int .u8 0),(.int .u8 0),(.int .u8 0),(.int .u8 0),(.int .u8 0),
 (.int .u8 0),(.int .u8 0),(.int .u8 0),(.int .u8 0),(.int .u8 0)])]) (sQ (sQ (.region [oO 6 (.load true 6 (tT 1)),oO 7 (kC 40 [(tT 6)]),oO 8 (.bin .neq .num (tT 7) (kI 0))]) (.cond (tT 8) (sQ (.region [oO 9 (.build [(.int .u8 0),
 (.int .u8 0),(.int .u8 0),(.int .u8 0),(.int .u8 0),(.int .u8 0),(.int .u8 0),(.int .u8 0),(.int .u8 0),(.int .u8 0),(.int .u8 0),(.int .u8 0),(.int .u8 0),(.int .u8 0),(.int .u8 0),(.int .u8 0),(.int .u8 0),
 (.int .u8 0),(.int .u8 0),(.int .u8 0),(.int .u8 0),(.int .u8 0),(.int .u8 0),(.int .u8 0),(.int .u8 0),(.int .u8 0),(.int .u8 0),(.int .u8 0),(.int .u8 0),(.int .u8 0),(.int .u8 0),(.int .u8 0)] []),⟨none,
 .store 32 (tT 2) (tT 9),none⟩]) .ret) .skip)) (sQ (.region [oO 10 (kC 61 []),oM 3 10]) (sQ (.region [oM 11 3,oO 12 (.faddr 0 (tT 1)),oO 13 (.load false 1 (tT 12)),oO 14 (.conv .u64 (tT 13)),oO 15 (kC 62 [(tT 11),
 (tT 14)])]) (sQ (.region [oM 16 3,oO 17 (.faddr 1 (tT 1)),oO 18 (.load false 1 (tT 17)),oO 19 (kC 64 [(tT 18)]),oO 20 (kC 63 [(tT 16),(tT 19)])]) (sQ (.region [oM 21 3,oO 22 (.faddr 2 (tT 1)),oO 23 (.load true 1 (tT 22)),
 oO 24 (kC 65 [(tT 21),(tT 23)])]) (sQ (.region [oM 25 3,oO 26 (.faddr 3 (tT 1)),oO 27 (.load false 1 (tT 26)),oO 28 (.len (tT 27)),oO 29 (.conv .u64 (tT 28)),oO 30 (kC 62 [(tT 25),(tT 29)])]) (sQ (sQ (.region [oO 31 (.faddr 3 (tT 1)),
 oO 32 (.load false 1 (tT 31)),oO 33 (.len (tT 32)),oO 34 (.mov (kI 0))]) (.block 0 (.loop (sQ (.region [oO 35 (.bin .lss .num (tT 34) (tT 33))]) (sQ (.cond (tT 35) .skip (.exit 0)) (sQ (.block 1 (sQ (.region [oO 36 (.iaddr 5 (tT 32) (tT 34)),
 oO 37 (.load true 5 (tT 36)),oO 5 (.alloc [(.bool false),nS,nS,(.int .i64 0),(.int .i64 0)]),⟨none,.store 5 (tT 5) (tT 37),none⟩]) (sQ (.region [oM 38 3,oO 39 (.faddr 0 (tT 5)),oO 40 (.load false 1 (tT 39)),
 oO 41 (kC 66 [(tT 38),(tT 40)])]) (sQ (.region [oM 42 3,oO 43 (.faddr 1 (tT 5)),oO 44 (.load true 2 (tT 43)),oO 45 (kC 67 [(tT 42),(tT 44)])]) (.region [oM 46 3,oO 47 (.faddr 3 (tT 5)),oO 48 (.load false 1 (tT 47)),
 oO 49 (.conv .u64 (tT 48)),oO 50 (kC 62 [(tT 46),(tT 49)])]))))) (.region [oO 51 (.bin .add .num (tT 34) (kI 1)),oM 34 51]))))))) (sQ (.region [oM 52 3,oO 53 (.faddr 4 (tT 1)),oO 54 (.load false 1 (tT 53)),
 oO 55 (kC 68 [(tT 52),(tT 54)])]) (sQ (.region [oM 56 3,oO 57 (.faddr 5 (tT 1)),oO 58 (.load false 1 (tT 57)),oO 59 (kC 68 [(tT 56),(tT 58)])]) (sQ (.region [oM 60 3,oO 61 (kC 70 [(tT 60)]),oO 62 (.bslice [nS] 1 [(0,
 (tT 61))]),⟨(some 63),kC 69 [(.const (.string ⟨#[112,114,111,98,108,101,109]⟩)),(tT 62)],none⟩,⟨none,.store 32 (tT 2) (tT 63),none⟩]) .ret)))))))))))
theorem ok26 : FnOk Tryz.prog 26 64 ir26 [.cell 2 true 32] := Z7 mixed Tryz.func26 (by kernel_rfl) Tryz.ntmps26 (by kernel_rfl) (by kernel_rfl)
def ir27 : ACode := (sQ (.region [oO 1 (.box (tT 0)),oO 2 (.mov (kI 0))]) (sQ (.block 0 (sQ (.region [oO 7 (.faddr 33 (tT 1)),oO 8 (.load false 1 (tT 7)),oO 9 (.len (tT 8)),oO 10 (.bin .gtr .num (tT 9) (kI 10000)),
 oM 11 10,oF 11 12 (.faddr 34 (tT 1)),oF 11 13 (.load false 1 (tT 12)),oF 11 14 (.len (tT 13)),oF 11 15 (.bin .gtr .num (tT 14) (kI 2000)),oO 16 (.pick (tT 11) kT (tT 15)),oM 6 16]) (.cond (tT 6) (sQ (.region [oO 2 (.mov (kI 3))]) .ret) (sQ (.region [oO 18 (.faddr 32 (tT 1)),
 oO 19 (.load false 1 (tT 18)),oM 20 19,oT 20 21 (.faddr 34 (tT 1)),oT 20 22 (.load false 1 (tT 21)),oT 20 23 (.len (tT 22)),oT 20 24 (.bin .gtr .num (tT 23) (kI 0)),oO 25 (.pick (tT 20) (tT 24) kF),oM 26 25,
 oF 26 27 (.faddr 32 (tT 1)),oF 26 28 (.load false 1 (tT 27)),oF 26 29 (.una .not (tT 28)),oF 26 30 (.mov (tT 29)),oT 30 31 (.faddr 33 (tT 1)),oT 30 32 (.load false 1 (tT 31)),oT 30 33 (.len (tT 32)),oT 30 34 (.bin .gtr .num (tT 33) (kI 0)),
 oF 26 35 (.pick (tT 30) (tT 34) kF),oO 36 (.pick (tT 26) kT (tT 35)),oM 17 36]) (.cond (tT 17) (sQ (.region [oO 2 (.mov (kI 6))]) .ret) (sQ (.region [oO 38 (.faddr 33 (tT 1)),oO 39 (.load false 1 (tT 38)),
 oO 40 (kC 71 [(tT 39),(.func 72)]),oM 37 40]) (.cond (tT 37) (sQ (.region [oO 2 (.mov (kI 2))]) .ret) .skip))))))) (sQ (.region [oO 41 (kC 73 [(kI 64)]),oO 42 (kC 34 [(tT 41),(kI 0)]),oO 3 (.alloc [nS]),
 ⟨none,.store 1 (tT 3) (tT 42),none⟩]) (sQ (sQ (.region [oO 43 (.faddr 34 (tT 1)),oO 44 (.load false 1 (tT 43)),oO 45 (.len (tT 44)),oO 46 (.mov (kI 0))]) (.block 1 (.loop (sQ (.region [oO 47 (.bin .lss .num (tT 46) (tT 45))]) (sQ (.cond (tT 47) .skip (.exit 1)) (sQ (.block 2 (sQ (.region [oO 48 (.iaddr 2 (tT 44) (tT 46)),
 oO 49 (.load true 2 (tT 48)),oO 5 (.alloc [nS,nS]),⟨none,.store 2 (tT 5) (tT 49),none⟩]) (sQ (sQ (.draw [⟨0,oO 50 (.faddr 0 (tT 5)),0,0,false⟩,⟨1,oO 51 (.load true 1 (tT 50)),1,0,false⟩,⟨2,oO 52 (.faddr 1 (tT 5)),
 0,0,false⟩,⟨3,oO 53 (.load true 1 (tT 52)),4,0,false⟩,⟨4,oO 54 (kC 74 [(tT 51),(tT 53)]),15,0,false⟩,⟨5,oO 55 (.load true 1 (tT 3)),0,0,false⟩,⟨6,oO 56 (kC 75 [(tT 54),(tT 55)]),63,1,false⟩,⟨7,oO 57 (.una .not (tT 56)),
 127,1,false⟩]) (.cond (tT 57) (sQ (.region [oO 2 (.mov (kI 2))]) .ret) .skip)) (sQ (.region [oO 58 (.load true 2 (tT 5)),oO 59 (kC 76 [(tT 58)])]) (.cond (tT 59) (sQ (.region [oO 2 (.mov (kI 6))]) .ret) .skip))))) (.region [oO 60 (.bin .add .num (tT 46) (kI 1)),
 oM 46 60]))))))) (sQ (.region [oO 2 (.mov (kI 0))]) .ret)))))
theorem ok27 : FnOk Tryz.prog 27 61 ir27 [.tmp 2] := Z7 mixed Tryz.func27 (by kernel_rfl) Tryz.ntmps27 (by kernel_rfl) (by kernel_rfl)
def ir28 : ACode := (sQ (.region [oO 2 (.box (tT 0)),oO 4 (.mov kF)]) (sQ (.region [oM 6 1,oO 7 (kC 77 [(tT 6)]),oO 5 (.alloc [nS]),⟨none,.store 1 (tT 5) (tT 7),none⟩]) (sQ (.draw [⟨0,oO 8 (.load true 1 (tT 5)),
 0,1,false⟩,⟨1,oO 9 (kC 35 [(tT 8),(kI 0)]),1,1,false⟩,⟨2,oO 10 (.una .not (tT 9)),3,1,false⟩,⟨3,oM 11 10,7,1,false⟩,⟨4,oT 11 12 (.load true 1 (tT 5)),15,0,false⟩,⟨5,oT 11 13 (.faddr 0 (tT 2)),15,0,false⟩,
 ⟨6,oT 11 14 (.load false 1 (tT 13)),47,0,false⟩,⟨7,oT 11 15 (.bin .add .num (tT 14) (kI 1)),111,0,false⟩,⟨8,oT 11 16 (kC 73 [(tT 15)]),239,0,false⟩,⟨9,oT 11 17 (kC 75 [(tT 12),(tT 16)]),511,1,false⟩,⟨10,
 oO 18 (.pick (tT 11) (tT 17) kF),1023,1,false⟩,⟨11,oM 4 18,2047,1,false⟩]) .ret)))
theorem ok28 : FnOk Tryz.prog 28 19 ir28 [.tmp 4] := Z7 mixed Tryz.func28 (by kernel_rfl) Tryz.ntmps28 (by kernel_rfl) (by kernel_rfl)
def ir29 : ACode := (sQ (.region [oO 2 (.box (tT 0)),oO 4 (.alloc [(.int .u8 0),(.int .i64 0),(.int .i64 0)])]) (sQ (.region [oO 10 (.faddr 2 (tT 2)),oO 11 (.load true 1 (tT 10)),oO 5 (.alloc [nS]),⟨none,
 .store 1 (tT 5) (tT 11),none⟩]) (sQ (sQ (.region [oM 12 1,oO 13 (.len (tT 12)),oO 14 (.mov (kI 0))]) (.block 0 (.loop (sQ (.region [oO 15 (.bin .lss .num (tT 14) (tT 13))]) (sQ (.cond (tT 15) .skip (.exit 0)) (sQ (.block 1 (sQ (.region [oM 16 14,
 oO 17 (.iaddr 1 (tT 12) (tT 14)),oO 18 (.load false 1 (tT 17)),oM 6 16,oM 7 18]) (sQ (.region [oO 20 (.load true 6 (tT 2)),oO 21 (.load true 1 (tT 5)),oM 22 7,oO 23 (kC 39 [(tT 20),(tT 21),(tT 22)]),oM 19 23,
 oO 24 (.extract (tT 19) 0),oO 25 (.extract (tT 19) 1),oO 8 (.alloc [nS]),⟨none,.store 1 (tT 8) (tT 24),none⟩,oM 9 25]) (sQ (sQ (.region [oM 26 9,oO 27 (.una .not (tT 26))]) (.cond (tT 27) (sQ (.region [oM 28 6,
 oM 29 7,oO 30 (.build [(.int .u8 0),(.int .i64 0),(.int .i64 0)] [(0,1,(.const (.int .u8 4))),(1,1,(tT 28)),(2,1,(tT 29))]),⟨none,.store 3 (tT 4) (tT 30),none⟩]) .ret) .skip)) (.region [oO 31 (.load true 1 (tT 8)),
 ⟨none,.store 1 (tT 5) (tT 31),none⟩]))))) (.region [oO 32 (.bin .add .num (tT 14) (kI 1)),oM 14 32]))))))) (sQ (sQ (.draw [⟨0,oO 33 (.faddr 5 (tT 2)),0,0,false⟩,⟨1,oO 34 (.load false 1 (tT 33)),1,0,false⟩,
 ⟨2,oO 35 (.faddr 1 (tT 2)),0,0,false⟩,⟨3,oO 36 (.load false 1 (tT 35)),4,0,false⟩,⟨4,oO 37 (.load true 1 (tT 5)),0,0,false⟩,⟨5,oO 38 (kC 37 [(tT 36),(tT 37)]),28,0,false⟩,⟨6,oO 39 (kC 78 [(tT 34),(tT 38)]),
 63,1,false⟩,⟨7,oO 40 (.una .not (tT 39)),127,1,false⟩]) (.cond (tT 40) (sQ (.region [oO 41 (.build [(.int .u8 0),(.int .i64 0),(.int .i64 0)] [(0,1,(.const (.int .u8 5)))]),⟨none,.store 3 (tT 4) (tT 41),
 none⟩]) .ret) .skip)) (sQ (.region [oO 42 (.build [(.int .u8 0),(.int .i64 0),(.int .i64 0)] [(0,1,(.const (.int .u8 1)))]),⟨none,.store 3 (tT 4) (tT 42),none⟩]) .ret)))))
theorem ok29 : FnOk Tryz.prog 29 43 ir29 [.cell 4 true 3] := Z7 mixed Tryz.func29 (by kernel_rfl) Tryz.ntmps29 (by kernel_rfl) (by kernel_rfl)
def ir30 : ACode := (sQ (.region [oO 2 (.box (tT 0)),oO 4 (.alloc [(.int .u8 0),(.int .i64 0),(.int .i64 0)])]) (sQ (sQ (.region [oM 13 1,oO 14 (.len (tT 13)),oO 15 (.mov (kI 0))]) (.block 0 (.loop (sQ (.region [oO 16 (.bin .lss .num (tT 15) (tT 14))]) (sQ (.cond (tT 16) .skip (.exit 0)) (sQ (.block 1 (sQ (.region [oM 17 15,
 oO 18 (.iaddr 2 (tT 13) (tT 15)),oO 19 (.load true 2 (tT 18)),oO 6 (.alloc [nS,nS]),oM 5 17,⟨none,.store 2 (tT 6) (tT 19),none⟩]) (sQ (.region [oO 20 (.load true 2 (tT 6)),oO 21 (.faddr 2 (tT 2)),oO 22 (.load true 1 (tT 21)),
 oO 23 (kC 36 [(tT 20),(tT 22)])]) (.cond (tT 23) (sQ (.region [oM 24 5,oO 25 (.build [(.int .u8 0),(.int .i64 0),(.int .i64 0)] [(0,1,(.const (.int .u8 6))),(1,1,(tT 24))]),⟨none,.store 3 (tT 4) (tT 25),
 none⟩]) .ret) .skip)))) (.region [oO 26 (.bin .add .num (tT 15) (kI 1)),oM 15 26]))))))) (sQ (sQ (.region [oO 28 (.load true 6 (tT 2)),oM 29 1,oO 30 (kC 79 [(tT 28),(tT 29)]),oM 27 30,oO 31 (.extract (tT 27) 0),
 oO 32 (.extract (tT 27) 1),oO 7 (.alloc [nS]),⟨none,.store 1 (tT 7) (tT 31),none⟩,oM 8 32]) (sQ (.region [oM 33 8]) (.cond (tT 33) (sQ (.region [oO 34 (.build [(.int .u8 0),(.int .i64 0),(.int .i64 0)] [(0,
 1,(.const (.int .u8 7)))]),⟨none,.store 3 (tT 4) (tT 34),none⟩]) .ret) .skip))) (sQ (sQ (.region [oM 35 1,oO 36 (.len (tT 35)),oO 37 (.mov (kI 0))]) (.block 2 (.loop (sQ (.region [oO 38 (.bin .lss .num (tT 37) (tT 36))]) (sQ (.cond (tT 38) .skip (.exit 2)) (sQ (.block 3 (sQ (.region [oM 39 37,
 oM 9 39]) (sQ (.region [oO 40 (.faddr 3 (tT 2)),oO 41 (.load false 1 (tT 40)),oO 42 (.len (tT 41)),oO 43 (.mov (kI 0))]) (.block 4 (.loop (sQ (.region [oO 44 (.bin .lss .num (tT 43) (tT 42))]) (sQ (.cond (tT 44) .skip (.exit 4)) (sQ (.block 5 (sQ (.region [oM 45 43,
 oM 10 45]) (sQ (.region [oO 47 (.load true 6 (tT 2)),oM 48 1,oM 49 9,oM 50 10,oO 51 (kC 80 [(tT 47),(tT 48),(tT 49),(tT 50)]),oM 46 51,oO 52 (.extract (tT 46) 0),oO 53 (.extract (tT 46) 1),oO 11 (.alloc [nS]),
 ⟨none,.store 1 (tT 11) (tT 52),none⟩,oM 12 53]) (sQ (.region [oM 54 12]) (.cond (tT 54) (sQ (.region [oM 55 9,oM 56 10,oO 57 (.build [(.int .u8 0),(.int .i64 0),(.int .i64 0)] [(0,1,(.const (.int .u8 8))),
 (1,1,(tT 55)),(2,1,(tT 56))]),⟨none,.store 3 (tT 4) (tT 57),none⟩]) .ret) .skip))))) (.region [oO 58 (.bin .add .num (tT 43) (kI 1)),oM 43 58]))))))))) (.region [oO 59 (.bin .add .num (tT 37) (kI 1)),oM 37 59]))))))) (sQ (.region [oO 60 (.build [(.int .u8 0),
 (.int .i64 0),(.int .i64 0)] [(0,1,(.const (.int .u8 1)))]),⟨none,.store 3 (tT 4) (tT 60),none⟩]) .ret)))))
theorem ok30 : FnOk Tryz.prog 30 61 ir30 [.cell 4 true 3] := Z7 mixed Tryz.func30 (by kernel_rfl) Tryz.ntmps30 (by kernel_rfl) (by kernel_rfl)
def ir33 : ACode := (sQ (.region [oO 2 (.mov (.const nS))]) (sQ (.region [oO 3 (.mov (.const nS))]) (sQ (sQ (.region [oO 4 (.mov (kI 0))]) (.block 0 (.loop (sQ (sQ (.region [oM 5 4,oO 6 (.bin .lss .num (tT 5) (kI 64))]) (.cond (tT 6) .skip (.exit 0))) (sQ (.block 1 (sQ (.region [oM 9 0,
 oM 10 4,oO 11 (.bin .shr .num (tT 9) (tT 10)),oO 12 (.bin .rem .num (tT 11) (.const (.int .u64 2))),oO 13 (.bin .eql .num (tT 12) (.const (.int .u64 1)))]) (.cond (tT 13) (.region [oM 14 3,oM 15 4,oO 16 (.bslice [(.int .i64 0)] 1 [(0,
 (tT 15))]),oO 17 (.append [(.int .i64 0)] 8 (tT 14) (tT 16)),oM 3 17]) .skip))) (.region [oM 7 4,oO 8 (.bin .add .num (tT 7) (kI 1)),oM 4 8])))))) (sQ (.region [oM 18 3,oM 2 18]) .ret))))
theorem ok33 : FnOk Tryz.prog 33 19 ir33 [.tmp 2] := Z7 mixed Tryz.func33 (by kernel_rfl) Tryz.ntmps33 (by kernel_rfl) (by kernel_rfl)
def ir34 : ACode := (sQ (.region [oO 2 (.box (tT 0)),oO 4 (.alloc [nS])]) (sQ (sQ (.region [oO 6 (.load true 1 (tT 2)),oM 7 1,oO 8 (kC 35 [(tT 6),(tT 7)]),oO 9 (.una .not (tT 8))]) (.cond (tT 9) (sQ (.region [oO 10 (.load true 1 (tT 2)),
 ⟨none,.store 1 (tT 4) (tT 10),none⟩]) .ret) .skip)) (sQ (.region [oO 11 (.bslice [(.int .u64 0)] 0 []),oO 12 (.faddr 0 (tT 2)),oO 13 (.load false 1 (tT 12)),oO 14 (.append [(.int .u64 0)] 8 (tT 11) (tT 13)),
 oM 5 14]) (sQ (.draw [⟨0,oM 15 5,0,1,false⟩,⟨1,oM 16 1,0,1,false⟩,⟨2,oO 17 (.bin .quo .num (tT 16) (kI 64)),2,1,false⟩,⟨3,oO 18 (.iaddr 1 (tT 15) (tT 17)),7,1,false⟩,⟨4,oO 19 (.load false 1 (tT 18)),15,
 1,false⟩,⟨5,oM 20 1,0,0,false⟩,⟨6,oO 21 (.bin .rem .num (tT 20) (kI 64)),32,0,false⟩,⟨7,oO 22 (.bin .shl .num (.const (.int .u64 1)) (tT 21)),96,0,false⟩,⟨8,oO 23 (.bin .andNot .num (tT 19) (tT 22)),255,
 1,false⟩,⟨9,oO 24 (.iaddr 1 (tT 15) (tT 17)),511,1,false⟩,⟨10,⟨none,.store 1 (tT 24) (tT 23),none⟩,1023,1,false⟩]) (sQ (.region [oM 25 5,oO 26 (kC 47 [(tT 25)]),⟨none,.store 1 (tT 4) (tT 26),none⟩]) .ret)))))
theorem ok34 : FnOk Tryz.prog 34 27 ir34 [.cell 4 true 1] := Z7 mixed Tryz.func34 (by kernel_rfl) Tryz.ntmps34 (by kernel_rfl) (by kernel_rfl)
def ir35 : ACode := (sQ (.region [oO 2 (.box (tT 0)),oO 4 (.mov kF)]) (sQ (.region [oM 5 1,oO 6 (.bin .geq .num (tT 5) (kI 0)),oM 7 6,oT 7 8 (.mov (tT 1)),oT 7 9 (.bin .leq .num (tT 8) (kI 4095)),oO 10 (.pick (tT 7) (tT 9) kF),
 oM 11 10,oT 11 12 (.load true 1 (tT 2)),oT 11 13 (.mov (tT 1)),oT 11 14 (.bin .quo .num (tT 13) (kI 64)),oT 11 15 (kC 83 [(tT 12),(tT 14)]),oT 11 16 (.mov (tT 1)),oT 11 17 (.bin .rem .num (tT 16) (kI 64)),
 oT 11 18 (.bin .shr .num (tT 15) (tT 17)),oT 11 19 (.bin .and .num (tT 18) (.const (.int .u64 1))),oT 11 20 (.bin .eql .num (tT 19) (.const (.int .u64 1))),oO 21 (.pick (tT 11) (tT 20) kF),oM 4 21]) .ret))
theorem ok35 : FnOk Tryz.prog 35 22 ir35 [.tmp 4] := Z7 mixed Tryz.func35 (by kernel_rfl) Tryz.ntmps35 (by kernel_rfl) (by kernel_rfl)
def ir36 : ACode := (sQ (.region [oO 2 (.box (tT 0)),oO 3 (.box (tT 1)),oO 4 (.mov kF)]) (sQ (.region [oO 5 (.faddr 0 (tT 2)),oO 6 (.load true 1 (tT 5)),oO 7 (.load true 1 (tT 3)),oO 8 (kC 75 [(tT 6),(tT 7)]),
 oM 9 8,oT 9 10 (.faddr 1 (tT 2)),oT 9 11 (.load true 1 (tT 10)),oT 9 12 (.load true 1 (tT 3)),oT 9 13 (kC 84 [(tT 11),(tT 12)]),oT 9 14 (.una .not (tT 13)),oO 15 (.pick (tT 9) (tT 14) kF),oM 4 15]) .ret))
theorem ok36 : FnOk Tryz.prog 36 16 ir36 [.tmp 4] := Z7 mixed Tryz.func36 (by kernel_rfl) Tryz.ntmps36 (by kernel_rfl) (by kernel_rfl)
def ir37 : ACode := (sQ (.region [oO 2 (.box (tT 0)),oO 3 (.box (tT 1)),oO 4 (.alloc [nS])]) (sQ (.region [oO 5 (.alloc [nS])]) (sQ (sQ (.region [oO 7 (.load true 1 (tT 3)),oO 8 (kC 85 [(tT 7)])]) (.block 0 (.range (tT 8) [9] [(6,
 (tT 9))] (.block 1 (.draw [⟨0,oO 10 (.load true 1 (tT 5)),0,0,false⟩,⟨1,oO 11 (.load false 1 (tT 2)),0,0,false⟩,⟨2,oM 12 6,0,0,false⟩,⟨3,oO 13 (kC 86 [(tT 11),(tT 12)]),6,0,false⟩,⟨4,oO 14 (kC 74 [(tT 10),
 (tT 13)]),15,1,false⟩,⟨5,⟨none,.store 1 (tT 5) (tT 14),none⟩,31,1,false⟩]))))) (sQ (.region [oO 15 (.load true 1 (tT 5)),⟨none,.store 1 (tT 4) (tT 15),none⟩]) .ret))))
theorem ok37 : FnOk Tryz.prog 37 16 ir37 [.cell 4 true 1] := Z7 mixed Tryz.func37 (by kernel_rfl) Tryz.ntmps37 (by kernel_rfl) (by kernel_rfl)
def ir38 : ACode := (sQ (.region [oO 2 (.box (tT 0)),oO 3 (.box (tT 1)),oO 4 (.mov kF)]) (sQ (.draw [⟨0,oO 5 (.faddr 1 (tT 2)),0,1,false⟩,⟨1,oO 6 (.load false 1 (tT 5)),1,1,false⟩,⟨2,oO 7 (.bin .neq .ptr (tT 6) (.const (.pointer none))),
 3,1,false⟩,⟨3,oM 8 7,7,1,false⟩,⟨4,oT 8 9 (.faddr 4 (tT 2)),15,0,false⟩,⟨5,oT 8 10 (.load false 1 (tT 9)),31,0,false⟩,⟨6,oT 8 11 (.faddr 1 (tT 2)),15,0,false⟩,⟨7,oT 8 12 (.load false 1 (tT 11)),79,0,false⟩,
 ⟨8,oT 8 13 (.load true 1 (tT 3)),15,0,false⟩,⟨9,oT 8 14 (kC 37 [(tT 12),(tT 13)]),463,0,false⟩,⟨10,oT 8 15 (kC 78 [(tT 10),(tT 14)]),1023,1,false⟩,⟨11,oT 8 16 (.una .not (tT 15)),2047,1,false⟩,⟨12,oO 17 (.pick (tT 8) (tT 16) kF),
 4095,1,false⟩,⟨13,oM 4 17,8191,1,false⟩]) .ret))
theorem ok38 : FnOk Tryz.prog 38 18 ir38 [.tmp 4] := Z7 mixed Tryz.func38 (by kernel_rfl) Tryz.ntmps38 (by kernel_rfl) (by kernel_rfl)
def ir39 : ACode := (sQ (.region [oO 3 (.box (tT 0)),oO 4 (.box (tT 1)),oO 6 (.alloc [nS]),oO 7 (.mov kF)]) (sQ (sQ (.region [oO 10 (.faddr 1 (tT 3)),oO 11 (.load false 1 (tT 10)),oO 12 (.bin .eql .ptr (tT 11) (.const (.pointer none))),
 oM 13 12,oF 13 14 (.mov (tT 2)),oF 13 15 (.bin .lss .num (tT 14) (kI 0)),oO 16 (.pick (tT 13) kT (tT 15)),oM 17 16,oF 17 18 (.mov (tT 2)),oF 17 19 (.faddr 3 (tT 3)),oF 17 20 (.load false 1 (tT 19)),oF 17 21 (.len (tT 20)),
 oF 17 22 (.bin .geq .num (tT 18) (tT 21)),oO 23 (.pick (tT 17) kT (tT 22))]) (.cond (tT 23) (sQ (.region [oO 24 (.build [nS] []),⟨none,.store 1 (tT 6) (tT 24),none⟩,oO 7 (.mov kF)]) .ret) .skip)) (sQ (.region [oO 25 (.faddr 3 (tT 3)),
 oO 26 (.load false 1 (tT 25)),oM 27 2,oO 28 (.iaddr 5 (tT 26) (tT 27)),oO 29 (.load true 5 (tT 28)),oO 8 (.alloc [(.bool false),nS,nS,(.int .i64 0),(.int .i64 0)]),⟨none,.store 5 (tT 8) (tT 29),none⟩]) (sQ (.region [oO 30 (.load true 1 (tT 4)),
 oO 31 (.faddr 3 (tT 8)),oO 32 (.load false 1 (tT 31)),oO 33 (kC 15 [(tT 30),(tT 32)]),oO 9 (.alloc [nS]),⟨none,.store 1 (tT 9) (tT 33),none⟩]) (sQ (sQ (.region [oO 34 (.faddr 0 (tT 8)),oO 35 (.load false 1 (tT 34))]) (.cond (tT 35) (.region [oO 36 (.load true 1 (tT 4)),
 oO 37 (.faddr 3 (tT 8)),oO 38 (.load false 1 (tT 37)),oO 39 (kC 34 [(tT 36),(tT 38)]),⟨none,.store 1 (tT 9) (tT 39),none⟩]) .skip)) (sQ (sQ (.draw [⟨0,oO 40 (.load true 1 (tT 9)),0,0,false⟩,⟨1,oO 41 (.load true 1 (tT 4)),
 0,0,false⟩,⟨2,oO 42 (kC 87 [(tT 40),(tT 41)]),3,1,false⟩,⟨3,oM 43 42,7,1,false⟩,⟨4,oF 43 44 (.load true 6 (tT 3)),15,0,false⟩,⟨5,oF 43 45 (.load true 1 (tT 9)),15,0,false⟩,⟨6,oF 43 46 (kC 88 [(tT 44),(tT 45)]),
 63,1,false⟩,⟨7,oF 43 47 (.una .not (tT 46)),127,1,false⟩,⟨8,oO 48 (.pick (tT 43) kT (tT 47)),255,1,false⟩,⟨9,oM 49 48,511,1,false⟩,⟨10,oF 49 50 (.faddr 0 (tT 8)),1023,1,false⟩,⟨11,oF 49 51 (.load false 1 (tT 50)),
 2047,1,false⟩,⟨12,oF 49 52 (.una .not (tT 51)),4095,1,false⟩,⟨13,oF 49 53 (.mov (tT 52)),8191,1,false⟩,⟨14,oT 53 54 (.faddr 1 (tT 8)),16383,0,false⟩,⟨15,oT 53 55 (.load true 2 (tT 54)),32767,0,false⟩,⟨16,
 oT 53 56 (.faddr 1 (tT 3)),16383,0,false⟩,⟨17,oT 53 57 (.load false 1 (tT 56)),81919,0,false⟩,⟨18,oT 53 58 (.load true 1 (tT 4)),16383,0,false⟩,⟨19,oT 53 59 (kC 37 [(tT 57),(tT 58)]),475135,0,false⟩,⟨20,
 oT 53 60 (kC 36 [(tT 55),(tT 59)]),1048575,1,false⟩,⟨21,oT 53 61 (.una .not (tT 60)),2097151,1,false⟩,⟨22,oF 49 62 (.pick (tT 53) (tT 61) kF),4194303,1,false⟩,⟨23,oO 63 (.pick (tT 49) kT (tT 62)),8388607,
 1,false⟩]) (.cond (tT 63) (sQ (.region [oO 64 (.build [nS] []),⟨none,.store 1 (tT 6) (tT 64),none⟩,oO 7 (.mov kF)]) .ret) .skip)) (sQ (.region [oO 65 (.load true 1 (tT 9)),⟨none,.store 1 (tT 6) (tT 65),
 none⟩,oO 7 (.mov kT)]) .ret)))))))
theorem ok39 : FnOk Tryz.prog 39 66 ir39 [.cell 6 true 1, .tmp 7] := Z7 mixed Tryz.func39 (by kernel_rfl) Tryz.ntmps39 (by kernel_rfl) (by kernel_rfl)
def ir40 : ACode := (sQ (.region [oO 1 (.box (tT 0)),oO 2 (.mov (kI 0))]) (sQ (.region [oO 3 (.mov (.func 89))]) (sQ (.block 0 (sQ (.region [oO 5 (.faddr 1 (tT 1)),oO 6 (.load false 1 (tT 5)),oO 7 (.bin .eql .ptr (tT 6) (.const (.pointer none))),
 oM 8 7,oF 8 9 (.faddr 0 (tT 1)),oF 8 10 (.load false 1 (tT 9)),oF 8 11 (.bin .lss .num (tT 10) (kI 1)),oO 12 (.pick (tT 8) kT (tT 11)),oM 13 12,oF 13 14 (.faddr 0 (tT 1)),oF 13 15 (.load false 1 (tT 14)),
 oF 13 16 (.bin .gtr .num (tT 15) (kI 63)),oO 17 (.pick (tT 13) kT (tT 16)),oM 4 17]) (.cond (tT 4) (sQ (.region [oO 2 (.mov (kI 1))]) .ret) (sQ (.region [oO 19 (.faddr 3 (tT 1)),oO 20 (.load false 1 (tT 19)),
 oO 21 (.len (tT 20)),oO 22 (.bin .gtr .num (tT 21) (kI 64)),oM 23 22,oF 23 24 (.faddr 4 (tT 1)),oF 23 25 (.load false 1 (tT 24)),oF 23 26 (.len (tT 25)),oF 23 27 (.bin .gtr .num (tT 26) (kI 2000)),oO 28 (.pick (tT 23) kT (tT 27)),
 oM 29 28,oF 29 30 (.faddr 5 (tT 1)),oF 29 31 (.load false 1 (tT 30)),oF 29 32 (.len (tT 31)),oF 29 33 (.bin .gtr .num (tT 32) (kI 2000)),oO 34 (.pick (tT 29) kT (tT 33)),oM 18 34]) (.cond (tT 18) (sQ (.region [oO 2 (.mov (kI 3))]) .ret) (sQ (.region [oO 36 (.load true 6 (tT 1)),
 oO 37 (kC 91 [(tT 36)]),oO 38 (.una .not (tT 37)),oM 35 38]) (.cond (tT 35) (sQ (.region [oO 2 (.mov (kI 4))]) .ret) (sQ (.region [oO 40 (.load true 6 (tT 1)),oO 41 (kC 93 [(tT 40)]),oO 42 (kC 92 [(tT 41),
 (.func 76)]),oM 43 42,oF 43 44 (.faddr 3 (tT 1)),oF 43 45 (.load false 1 (tT 44)),oF 43 46 (.mov (tT 3)),oF 43 47 (kC 94 [(tT 45),(tT 46)]),oF 43 48 (.una .not (tT 47)),oO 49 (.pick (tT 43) kT (tT 48)),
 oM 39 49]) (.cond (tT 39) (sQ (.region [oO 2 (.mov (kI 6))]) .ret) (sQ (.region [oO 51 (.load true 6 (tT 1)),oO 52 (.faddr 2 (tT 1)),oO 53 (.load true 1 (tT 52)),oO 54 (kC 38 [(tT 51),(tT 53)]),oO 55 (.una .not (tT 54)),
 oM 50 55]) (.cond (tT 50) (sQ (.region [oO 2 (.mov (kI 7))]) .ret) .skip))))))))))) (sQ (.region [oO 2 (.mov (kI 0))]) .ret))))
theorem ok40 : FnOk Tryz.prog 40 56 ir40 [.tmp 2] := Z7 mixed Tryz.func40 (by kernel_rfl) Tryz.ntmps40 (by kernel_rfl) (by kernel_rfl)
def ir46 : ACode := (sQ (.region [oO 2 (.mov (.const nS))]) (sQ (sQ (.region [oM 3 0,oO 4 (.isnil false (tT 3))]) (.cond (tT 4) (sQ (.region [oO 2 (.mov (.const nS))]) .ret) .skip)) (sQ (.region [oO 5 (.bslice [nS,
 nS] 0 []),oM 6 0,oO 7 (.append [nS,nS] 48 (tT 5) (tT 6)),oM 2 7]) .ret)))
theorem ok46 : FnOk Tryz.prog 46 8 ir46 [.tmp 2] := Z7 mixed Tryz.func46 (by kernel_rfl) Tryz.ntmps46 (by kernel_rfl) (by kernel_rfl)
def ir47 : ACode := (sQ (.region [oO 2 (.alloc [nS])]) (sQ (.block 0 (.loop (sQ (sQ (.region [oM 3 0,oO 4 (.len (tT 3)),oO 5 (.bin .gtr .num (tT 4) (kI 0)),oM 6 5,oT 6 7 (.mov (tT 0)),oT 6 8 (.mov (tT 0)),
 oT 6 9 (.len (tT 8)),oT 6 10 (.bin .sub .num (tT 9) (kI 1)),oT 6 11 (.iaddr 1 (tT 7) (tT 10)),oT 6 12 (.load false 1 (tT 11)),oT 6 13 (.bin .eql .num (tT 12) (.const (.int .u64 0))),oO 14 (.pick (tT 6) (tT 13) kF)]) (.cond (tT 14) .skip (.exit 0))) (.block 1 (.region [oM 15 0,
 oM 16 0,oO 17 (.len (tT 16)),oO 18 (.bin .sub .num (tT 17) (kI 1)),oO 19 (.slc 1 (tT 15) none (some (tT 18)) none),oM 0 19]))))) (sQ (.region [oM 20 0,oO 21 (.build [nS] [(0,1,(tT 20))]),⟨none,.store 1 (tT 2) (tT 21),
 none⟩]) .ret)))
theorem ok47 : FnOk Tryz.prog 47 22 ir47 [.cell 2 true 1] := Z7 mixed Tryz.func47 (by kernel_rfl) Tryz.ntmps47 (by kernel_rfl) (by kernel_rfl)
def ir48 : ACode := (sQ (.region [oO 4 (.mov (.const (.pointer none))),oO 5 (.mov (kI 0))]) (sQ (sQ (.region [oM 10 0,oO 11 (.bin .lss .num (tT 10) (kI 0)),oM 12 11,oF 12 13 (.mov (tT 0)),oF 12 14 (.bin .gtr .num (tT 13) (kI 256)),
 oO 15 (.pick (tT 12) kT (tT 14))]) (.cond (tT 15) (sQ (.region [oO 4 (.mov (.const (.pointer none))),oO 5 (.mov (kI 1))]) .ret) .skip)) (sQ (sQ (.region [oM 16 1,oO 17 (.len (tT 16)),oO 18 (.mov (kI 0))]) (.block 0 (.loop (sQ (.region [oO 19 (.bin .lss .num (tT 18) (tT 17))]) (sQ (.cond (tT 19) .skip (.exit 0)) (sQ (.block 1 (sQ (.region [oO 20 (.iaddr 2 (tT 16) (tT 18)),
 oO 21 (.load true 2 (tT 20)),oO 7 (.alloc [(.int .i64 0),(.int .i64 0)]),⟨none,.store 2 (tT 7) (tT 21),none⟩]) (sQ (.region [oO 22 (.iaddrA 2 1 (tT 7) (kI 0)),oO 23 (.load false 1 (tT 22)),oO 24 (.iaddrA 2 1 (tT 7) (kI 1)),
 oO 25 (.load false 1 (tT 24)),oO 26 (.mn (tT 23) (tT 25)),oO 27 (.bin .lss .num (tT 26) (kI 0)),oM 28 27,oF 28 29 (.iaddrA 2 1 (tT 7) (kI 0)),oF 28 30 (.load false 1 (tT 29)),oF 28 31 (.iaddrA 2 1 (tT 7) (kI 1)),
 oF 28 32 (.load false 1 (tT 31)),oF 28 33 (.mx (tT 30) (tT 32)),oF 28 34 (.mov (tT 0)),oF 28 35 (.bin .geq .num (tT 33) (tT 34)),oO 36 (.pick (tT 28) kT (tT 35))]) (.cond (tT 36) (sQ (.region [oO 4 (.mov (.const (.pointer none))),
 oO 5 (.mov (kI 2))]) .ret) .skip)))) (.region [oO 37 (.bin .add .num (tT 18) (kI 1)),oM 18 37]))))))) (sQ (.region [oO 38 (.bslice [(.int .i64 0),(.int .i64 0)] 0 []),oM 39 1,oO 40 (.append [(.int .i64 0),
 (.int .i64 0)] 16 (tT 38) (tT 39)),oM 8 40]) (sQ (.region [oM 41 8,oO 42 (kC 103 [(tT 41),(.func 104)])]) (sQ (.region [oM 43 0,oM 44 8,oO 45 (kC 106 [(tT 44)]),oO 46 (kC 105 [(tT 45)]),oO 47 (.build [(.int .i64 0),
 nS,nS,nS,nS] [(0,1,(tT 43)),(1,1,(tT 46))]),oO 48 (.box (tT 47)),oM 9 48]) (sQ (sQ (.region [oM 49 9,oO 50 (kC 107 [(tT 49)]),oO 51 (.una .not (tT 50))]) (.cond (tT 51) (sQ (.region [oO 4 (.mov (.const (.pointer none))),
 oO 5 (.mov (kI 16))]) .ret) .skip)) (sQ (.region [oM 52 9,oO 53 (kC 108 [(tT 52)])]) (sQ (.region [oM 54 9,oM 4 54,oO 5 (.mov (kI 0))]) .ret)))))))))
theorem ok48 : FnOk Tryz.prog 48 55 ir48 [.tmp 4, .tmp 5] := Z7 mixed Tryz.func48 (by kernel_rfl) Tryz.ntmps48 (by kernel_rfl) (by kernel_rfl)
def ir49 : ACode := (sQ (.region [oO 2 (.mov (.const nS))]) (sQ (sQ (.region [oM 3 0,oO 4 (.isnil false (tT 3))]) (.cond (tT 4) (sQ (.region [oO 2 (.mov (.const nS))]) .ret) .skip)) (sQ (.region [oO 5 (.bslice [(.int .i64 0)] 0 []),
 oM 6 0,oO 7 (.append [(.int .i64 0)] 8 (tT 5) (tT 6)),oM 2 7]) .ret)))
theorem ok49 : FnOk Tryz.prog 49 8 ir49 [.tmp 2] := Z7 mixed Tryz.func49 (by kernel_rfl) Tryz.ntmps49 (by kernel_rfl) (by kernel_rfl)
def ir50 : ACode := (sQ (.region [oO 2 (.mov (kI 0))]) (sQ (.region [oM 3 0,oO 4 (.nilck (tT 3)),oO 5 (.faddr 1 (tT 4)),oO 6 (.load false 1 (tT 5)),oO 7 (.bin .add .num (tT 6) (kI 1)),oO 8 (.nilck (tT 3)),
 oO 9 (.faddr 1 (tT 8)),⟨none,.store 1 (tT 9) (tT 7),none⟩]) (sQ (sQ (.draw [⟨0,oM 10 0,0,0,false⟩,⟨1,oO 11 (.nilck (tT 10)),1,0,false⟩,⟨2,oO 12 (.faddr 1 (tT 11)),3,0,false⟩,⟨3,oO 13 (.load false 1 (tT 12)),
 7,0,false⟩,⟨4,oM 14 0,0,0,false⟩,⟨5,oO 15 (.nilck (tT 14)),16,0,false⟩,⟨6,oO 16 (.faddr 0 (tT 15)),48,0,false⟩,⟨7,oO 17 (.load false 1 (tT 16)),112,0,false⟩,⟨8,oO 18 (.len (tT 17)),240,0,false⟩,⟨9,oO 19 (.bin .gtr .num (tT 13) (tT 18)),
 511,1,false⟩]) (.cond (tT 19) (sQ (.region [oO 2 (.mov (kI 0))]) .ret) .skip)) (sQ (.draw [⟨0,oM 20 0,0,0,false⟩,⟨1,oO 21 (.nilck (tT 20)),1,0,false⟩,⟨2,oO 22 (.faddr 0 (tT 21)),3,0,false⟩,⟨3,oO 23 (.load false 1 (tT 22)),
 7,0,false⟩,⟨4,oM 24 0,0,0,false⟩,⟨5,oO 25 (.nilck (tT 24)),16,0,false⟩,⟨6,oO 26 (.faddr 1 (tT 25)),48,0,false⟩,⟨7,oO 27 (.load false 1 (tT 26)),112,0,false⟩,⟨8,oO 28 (.bin .sub .num (tT 27) (kI 1)),240,
 0,false⟩,⟨9,oO 29 (.iaddr 1 (tT 23) (tT 28)),511,1,false⟩,⟨10,oO 30 (.load false 1 (tT 29)),1023,1,false⟩,⟨11,oO 31 (.conv .i64 (tT 30)),2047,1,false⟩,⟨12,oM 2 31,4095,1,false⟩]) .ret))))
theorem ok50 : FnOk Tryz.prog 50 32 ir50 [.tmp 2] := Z7 mixed Tryz.func50 (by kernel_rfl) Tryz.ntmps50 (by kernel_rfl) (by kernel_rfl)
def ir51 : ACode := (sQ (.region [oO 6 (.mov (.const nS)),oO 7 (.mov (kI 0))]) (sQ (sQ (.region [oM 9 1,oO 10 (kC 109 [(tT 9)]),oO 11 (.una .not (tT 10)),oM 12 11,oF 12 13 (.mov (tT 2)),oF 12 14 (kC 109 [(tT 13)]),
 oF 12 15 (.una .not (tT 14)),oO 16 (.pick (tT 12) kT (tT 15)),oM 17 16,oF 17 18 (.mov (tT 1)),oF 17 19 (.mov (tT 2)),oF 17 20 (.bin .eql .num (tT 18) (tT 19)),oO 21 (.pick (tT 17) kT (tT 20))]) (.cond (tT 21) (sQ (.region [oM 22 0,
 oM 6 22,oO 7 (.mov (kI 1))]) .ret) .skip)) (sQ (sQ (.region [oM 23 0,oM 24 1,oM 25 2,oO 26 (kC 110 [(tT 23),(tT 24),(tT 25)])]) (.cond (tT 26) (sQ (.region [oM 27 0,oM 6 27,oO 7 (.mov (kI 5))]) .ret) .skip)) (sQ (sQ (.region [oM 28 0,
 oM 29 2,oM 30 1,oO 31 (kC 111 [(tT 28),(tT 29),(tT 30)])]) (.cond (tT 31) (sQ (.region [oM 32 0,oM 6 32,oO 7 (.mov (kI 16))]) .ret) .skip)) (sQ (.region [oO 8 (.mov (kI 0))]) (sQ (.block 0 (.loop (sQ (sQ (.region [oM 33 8,
 oM 34 0,oO 35 (.len (tT 34)),oO 36 (.bin .lss .num (tT 33) (tT 35)),oM 37 36,oT 37 38 (.mov (tT 0)),oT 37 39 (.mov (tT 8)),oT 37 40 (.iaddr 2 (tT 38) (tT 39)),oT 37 41 (.iaddrA 2 1 (tT 40) (kI 0)),oT 37 42 (.load false 1 (tT 41)),
 oT 37 43 (.mov (tT 1)),oT 37 44 (.bin .lss .num (tT 42) (tT 43)),oT 37 45 (.mov (tT 44)),oF 45 46 (.mov (tT 0)),oF 45 47 (.mov (tT 8)),oF 45 48 (.iaddr 2 (tT 46) (tT 47)),oF 45 49 (.iaddrA 2 1 (tT 48) (kI 0)),
 oF 45 50 (.load false 1 (tT 49)),oF 45 51 (.mov (tT 1)),oF 45 52 (.bin .eql .num (tT 50) (tT 51)),oF 45 53 (.mov (tT 52)),oT 53 54 (.mov (tT 0)),oT 53 55 (.mov (tT 8)),oT 53 56 (.iaddr 2 (tT 54) (tT 55)),
 oT 53 57 (.iaddrA 2 1 (tT 56) (kI 1)),oT 53 58 (.load false 1 (tT 57)),oT 53 59 (.mov (tT 2)),oT 53 60 (.bin .lss .num (tT 58) (tT 59)),oF 45 61 (.pick (tT 53) (tT 60) kF),oT 37 62 (.pick (tT 45) kT (tT 61)),
 oO 63 (.pick (tT 37) (tT 62) kF)]) (.cond (tT 63) .skip (.exit 0))) (.block 1 (.region [oM 64 8,oO 65 (.bin .add .num (tT 64) (kI 1)),oM 8 65]))))) (sQ (.draw [⟨0,oO 66 (.bslice [(.int .i64 0),(.int .i64 0)] 0 []),
 0,0,false⟩,⟨1,oM 67 0,0,0,false⟩,⟨2,oM 68 8,0,0,false⟩,⟨3,oO 69 (.slc 2 (tT 67) none (some (tT 68)) none),6,0,false⟩,⟨4,oO 70 (.append [(.int .i64 0),(.int .i64 0)] 16 (tT 66) (tT 69)),15,30,false⟩,⟨5,
 oM 71 1,0,0,false⟩,⟨6,oM 72 2,0,0,false⟩,⟨7,oO 73 (.build [(.int .i64 0),(.int .i64 0)] [(0,1,(tT 71)),(1,1,(tT 72))]),96,0,false⟩,⟨8,oO 74 (.bslice [(.int .i64 0),(.int .i64 0)] 1 [(0,(tT 73))]),224,0,
 false⟩,⟨9,oO 75 (.append [(.int .i64 0),(.int .i64 0)] 16 (tT 70) (tT 74)),511,1022,false⟩,⟨10,oM 76 0,0,0,false⟩,⟨11,oM 77 8,0,0,false⟩,⟨12,oO 78 (.slc 2 (tT 76) (some (tT 77)) none none),3072,0,false⟩,
 ⟨13,oO 79 (.append [(.int .i64 0),(.int .i64 0)] 16 (tT 75) (tT 78)),8191,1,false⟩,⟨14,oM 6 79,16383,1,false⟩,⟨15,oO 7 (.mov (kI 0)),32767,1,false⟩]) .ret)))))))
theorem ok51 : FnOk Tryz.prog 51 80 ir51 [.tmp 6, .tmp 7] := Z7 mixed Tryz.func51 (by kernel_rfl) Tryz.ntmps51 (by kernel_rfl) (by kernel_rfl)
def ir52 : ACode := (sQ (.region [oO 6 (.alloc [(.int .u64 0),(.int .u64 0)])]) (sQ (.region [oM 9 0,oO 10 (.conv .u8 (tT 9)),oM 11 0,oO 12 (.bin .shr .num (tT 11) (.const (.int .u64 1))),oM 13 0,oO 14 (.bin .shl .num (tT 13) (.const (.int .u64 3))),
 oO 15 (.bin .or .num (tT 12) (tT 14)),oO 16 (.conv .u8 (tT 15)),oO 17 (.bin .and .num (tT 10) (tT 16)),oM 18 2,oO 19 (.bin .and .num (tT 17) (tT 18)),oM 7 19]) (sQ (.region [oM 20 1,oO 21 (.conv .u8 (tT 20)),
 oM 22 1,oO 23 (.bin .shr .num (tT 22) (.const (.int .u64 2))),oM 24 1,oO 25 (.bin .shl .num (tT 24) (.const (.int .u64 1))),oO 26 (.bin .or .num (tT 23) (tT 25)),oO 27 (.conv .u8 (tT 26)),oO 28 (.bin .and .num (tT 21) (tT 27)),
 oM 29 2,oO 30 (.bin .and .num (tT 28) (tT 29)),oM 31 7,oO 32 (.bin .andNot .num (tT 30) (tT 31)),oM 8 32]) (sQ (.region [oM 33 7,oO 34 (.conv .u64 (tT 33)),oM 35 8,oO 36 (.conv .u64 (tT 35)),oO 37 (.build [(.int .u64 0),
 (.int .u64 0)] [(0,1,(tT 34)),(1,1,(tT 36))]),⟨none,.store 2 (tT 6) (tT 37),none⟩]) .ret))))
theorem ok52 : FnOk Tryz.prog 52 38 ir52 [.cell 6 true 2] := Z7 mixed Tryz.func52 (by kernel_rfl) Tryz.ntmps52 (by kernel_rfl) (by kernel_rfl)
def ir53 : ACode := (sQ (.region [oO 2 (.box (tT 0)),oO 4 (.mov kF)]) (sQ (.region [oM 5 1,oO 6 (.faddr 0 (tT 2)),oO 7 (.load false 1 (tT 6)),oO 8 (.bin .and .num (tT 5) (tT 7)),oO 9 (.faddr 0 (tT 2)),
 oO 10 (.load false 1 (tT 9)),oO 11 (.bin .eql .num (tT 8) (tT 10)),oM 12 11,oT 12 13 (.mov (tT 1)),oT 12 14 (.faddr 1 (tT 2)),oT 12 15 (.load false 1 (tT 14)),oT 12 16 (.bin .and .num (tT 13) (tT 15)),
 oT 12 17 (.bin .eql .num (tT 16) (.const (.int .u64 0))),oO 18 (.pick (tT 12) (tT 17) kF),oM 4 18]) .ret))
theorem ok53 : FnOk Tryz.prog 53 19 ir53 [.tmp 4] := Z7 mixed Tryz.func53 (by kernel_rfl) Tryz.ntmps53 (by kernel_rfl) (by kernel_rfl)
def ir54 : ACode := (sQ (.region [oO 4 (.mov (.const (.int .u64 0)))]) (sQ (.region [oO 5 (.mov (.const (.int .u64 0)))]) (sQ (sQ (.region [oO 6 (.mov (kI 1))]) (.block 0 (.loop (sQ (sQ (.region [oM 7 6,
 oO 8 (.bin .lss .num (tT 7) (kI 64))]) (.cond (tT 8) .skip (.exit 0))) (sQ (.block 1 (sQ (.region [oM 11 1,oM 12 6,oO 13 (.bin .shr .num (tT 11) (tT 12)),oO 14 (.bin .rem .num (tT 13) (.const (.int .u64 2))),
 oO 15 (.bin .eql .num (tT 14) (.const (.int .u64 1)))]) (.cond (tT 15) (.region [oM 16 5,oM 17 0,oM 18 6,oO 19 (kC 112 [(tT 17),(tT 18)]),oO 20 (.bin .or .num (tT 16) (tT 19)),oM 5 20]) .skip))) (.region [oM 9 6,
 oO 10 (.bin .add .num (tT 9) (kI 1)),oM 6 10])))))) (sQ (.region [oM 21 5,oM 4 21]) .ret))))
theorem ok54 : FnOk Tryz.prog 54 22 ir54 [.tmp 4] := Z7 mixed Tryz.func54 (by kernel_rfl) Tryz.ntmps54 (by kernel_rfl) (by kernel_rfl)
def ir55 : ACode := (sQ (.region [oO 6 (.mov (.const (.pointer none))),oO 7 (.mov (kI 0))]) (sQ (sQ (.region [oM 10 0,oO 11 (.bin .eql .ptr (tT 10) (.const (.pointer none))),oM 12 11,oF 12 13 (.mov (tT 1)),
 oF 12 14 (kC 113 [(tT 13)]),oF 12 15 (.una .not (tT 14)),oO 16 (.pick (tT 12) kT (tT 15)),oM 17 16,oF 17 18 (.mov (tT 2)),oF 17 19 (kC 113 [(tT 18)]),oF 17 20 (.una .not (tT 19)),oO 21 (.pick (tT 17) kT (tT 20)),
 oM 22 21,oF 22 23 (.mov (tT 1)),oF 22 24 (.mov (tT 2)),oF 22 25 (.bin .eql .num (tT 23) (tT 24)),oO 26 (.pick (tT 22) kT (tT 25))]) (.cond (tT 26) (sQ (.region [oO 6 (.mov (.const (.pointer none))),oO 7 (.mov (kI 1))]) .ret) .skip)) (sQ (.region [oM 28 0,
 oO 29 (.nilck (tT 28)),oO 30 (.faddr 0 (tT 29)),oO 31 (.load false 1 (tT 30)),oM 32 1,oM 33 2,oO 34 (kC 114 [(tT 31),(tT 32),(tT 33)]),oM 27 34,oO 35 (.extract (tT 27) 0),oO 36 (.extract (tT 27) 1),oM 8 35,
 oM 9 36]) (sQ (sQ (.region [oM 37 9,oO 38 (.bin .neq .num (tT 37) (kI 0))]) (.cond (tT 38) (sQ (.region [oM 39 9,oO 6 (.mov (.const (.pointer none))),oM 7 39]) .ret) .skip)) (sQ (.region [oM 40 8,oO 41 (.build [(.pointer none)] [(0,
 1,(tT 40))]),oO 42 (.box (tT 41)),oM 6 42,oO 7 (.mov (kI 0))]) .ret)))))
theorem ok55 : FnOk Tryz.prog 55 43 ir55 [.tmp 6, .tmp 7] := Z7 mixed Tryz.func55 (by kernel_rfl) Tryz.ntmps55 (by kernel_rfl) (by kernel_rfl)
def ir56 : ACode := (sQ (.region [oO 1 (.box (tT 0)),oO 2 (.alloc [nS,nS])]) (sQ (.draw [⟨0,oO 3 (.faddr 0 (tT 1)),0,0,false⟩,⟨1,oO 4 (.load false 1 (tT 3)),1,0,false⟩,⟨2,oO 5 (kC 11 [(tT 4)]),3,0,false⟩,
 ⟨3,oO 6 (.faddr 1 (tT 1)),0,0,false⟩,⟨4,oO 7 (.load false 1 (tT 6)),8,0,false⟩,⟨5,oO 8 (kC 11 [(tT 7)]),31,1,false⟩,⟨6,oO 9 (.build [nS,nS] [(0,1,(tT 5)),(1,1,(tT 8))]),63,1,false⟩,⟨7,⟨none,.store 2 (tT 2) (tT 9),
 none⟩,127,1,false⟩]) .ret))
theorem ok56 : FnOk Tryz.prog 56 10 ir56 [.cell 2 true 2] := Z7 mixed Tryz.func56 (by kernel_rfl) Tryz.ntmps56 (by kernel_rfl) (by kernel_rfl)
def ir61 : ACode := (sQ (.region [oO 0 (.mov (.const (.pointer none)))]) (sQ (.region [oO 1 (.build [nS] []),oO 2 (.box (tT 1)),oM 0 2]) .ret))
theorem ok61 : FnOk Tryz.prog 61 3 ir61 [.tmp 0] := Z7 mixed Tryz.func61 (by kernel_rfl) Tryz.ntmps61 (by kernel_rfl) (by kernel_rfl)
def ir62 : ACode := (.region [oM 4 0,oM 5 1,oO 6 (kC 118 [(tT 5)]),oO 7 (kC 117 [(tT 4),(tT 6)])])
theorem ok62 : FnOk Tryz.prog 62 8 ir62 [] := Z7 mixed Tryz.func62 (by kernel_rfl) Tryz.ntmps62 (by kernel_rfl) (by kernel_rfl)
def ir63 : ACode := (sQ (.region [oM 4 0,oM 5 1,oO 6 (.len (tT 5)),oO 7 (.conv .u64 (tT 6)),oO 8 (kC 62 [(tT 4),(tT 7)])]) (.region [oM 9 0,oM 10 1,oO 11 (kC 117 [(tT 9),(tT 10)])]))
theorem ok63 : FnOk Tryz.prog 63 12 ir63 [] := Z7 mixed Tryz.func63 (by kernel_rfl) Tryz.ntmps63 (by kernel_rfl) (by kernel_rfl)
def ir64 : ACode := (sQ (.region [oO 2 (.mov (.const nS))]) (sQ (sQ (.region [oM 7 0,oO 8 (.bin .eql .ptr (tT 7) (.const (.pointer none)))]) (.cond (tT 8) (sQ (.region [oO 2 (.mov (.const nS))]) .ret) .skip)) (sQ (.region [oO 9 (kC 61 []),
 oM 3 9]) (sQ (.region [oM 10 0,oO 11 (kC 119 [(tT 10)]),oM 4 11]) (sQ (.region [oM 12 3,oM 13 4,oO 14 (.len (tT 13)),oO 15 (.conv .u64 (tT 14)),oO 16 (kC 62 [(tT 12),(tT 15)])]) (sQ (sQ (.region [oM 17 4,
 oO 18 (.len (tT 17)),oO 19 (.mov (kI 0))]) (.block 0 (.loop (sQ (.region [oO 20 (.bin .lss .num (tT 19) (tT 18))]) (sQ (.cond (tT 20) .skip (.exit 0)) (sQ (.block 1 (sQ (.region [oO 21 (.iaddr 2 (tT 17) (tT 19)),
 oO 22 (.load true 2 (tT 21)),oO 6 (.alloc [(.int .i64 0),(.int .i64 0)]),⟨none,.store 2 (tT 6) (tT 22),none⟩]) (sQ (.region [oM 23 3,oO 24 (.iaddrA 2 1 (tT 6) (kI 0)),oO 25 (.load false 1 (tT 24)),oO 26 (.conv .u64 (tT 25)),
 oO 27 (kC 62 [(tT 23),(tT 26)])]) (.region [oM 28 3,oO 29 (.iaddrA 2 1 (tT 6) (kI 1)),oO 30 (.load false 1 (tT 29)),oO 31 (.conv .u64 (tT 30)),oO 32 (kC 62 [(tT 28),(tT 31)])])))) (.region [oO 33 (.bin .add .num (tT 19) (kI 1)),
 oM 19 33]))))))) (sQ (.region [oM 34 3,oO 35 (kC 70 [(tT 34)]),oM 2 35]) .ret)))))))
theorem ok64 : FnOk Tryz.prog 64 36 ir64 [.tmp 2] := Z7 mixed Tryz.func64 (by kernel_rfl) Tryz.ntmps64 (by kernel_rfl) (by kernel_rfl)
def ir65 : ACode := (sQ (.region [oO 3 (.box (tT 1))]) (.region [oM 4 0,oO 5 (.load true 1 (tT 3)),oO 6 (kC 120 [(tT 5)]),oO 7 (kC 63 [(tT 4),(tT 6)])]))
theorem ok65 : FnOk Tryz.prog 65 8 ir65 [] := Z7 mixed Tryz.func65 (by kernel_rfl) Tryz.ntmps65 (by kernel_rfl) (by kernel_rfl)
def ir66 : ACode := (sQ (sQ (.region [oM 4 1]) (.cond (tT 4) (sQ (.region [oM 5 0,oO 6 (.bslice [(.int .u8 0)] 1 [(0,(.const (.int .u8 1)))]),oO 7 (kC 117 [(tT 5),(tT 6)])]) .ret) .skip)) (.region [oM 8 0,
 oO 9 (.bslice [(.int .u8 0)] 1 [(0,(.const (.int .u8 0)))]),oO 10 (kC 117 [(tT 8),(tT 9)])]))
theorem ok66 : FnOk Tryz.prog 66 11 ir66 [] := Z7 mixed Tryz.func66 (by kernel_rfl) Tryz.ntmps66 (by kernel_rfl) (by kernel_rfl)
def ir67 : ACode := (sQ (.region [oO 3 (.box (tT 1))]) (sQ (.region [oM 4 0,oO 5 (.faddr 0 (tT 3)),oO 6 (.load true 1 (tT 5)),oO 7 (kC 65 [(tT 4),(tT 6)])]) (.region [oM 8 0,oO 9 (.faddr 1 (tT 3)),oO 10 (.load true 1 (tT 9)),
 oO 11 (kC 65 [(tT 8),(tT 10)])])))
theorem ok67 : FnOk Tryz.prog 67 12 ir67 [] := Z7 mixed Tryz.func67 (by kernel_rfl) Tryz.ntmps67 (by kernel_rfl) (by kernel_rfl)
def ir68 : ACode := (sQ (.region [oM 6 0,oM 7 1,oO 8 (.len (tT 7)),oO 9 (.conv .u64 (tT 8)),oO 10 (kC 62 [(tT 6),(tT 9)])]) (sQ (.region [oM 11 1,oO 12 (.len (tT 11)),oO 13 (.mov (kI 0))]) (.block 0 (.loop (sQ (.region [oO 14 (.bin .lss .num (tT 13) (tT 12))]) (sQ (.cond (tT 14) .skip (.exit 0)) (sQ (.block 1 (sQ (.region [oO 15 (.iaddr 2 (tT 11) (tT 13)),
 oO 16 (.load true 2 (tT 15)),oO 5 (.alloc [nS,nS]),⟨none,.store 2 (tT 5) (tT 16),none⟩]) (.region [oM 17 0,oO 18 (.load true 2 (tT 5)),oO 19 (kC 67 [(tT 17),(tT 18)])]))) (.region [oO 20 (.bin .add .num (tT 13) (kI 1)),
 oM 13 20]))))))))
theorem ok68 : FnOk Tryz.prog 68 21 ir68 [] := Z7 mixed Tryz.func68 (by kernel_rfl) Tryz.ntmps68 (by kernel_rfl) (by kernel_rfl)
def ir69 : ACode := (sQ (.region [oO 4 (.alloc [(.int .u8 0),(.int .u8 0),(.int .u8 0),(.int .u8 0),(.int .u8 0),(.int .u8 0),(.int .u8 0),(.int .u8 0),(.int .u8 0),(.int .u8 0),(.int .u8 0),(.int .u8 0),
 (.int .u8 0),(.int .u8 0),(.int .u8 0),(.int .u8 0),(.int .u8 0),(.int .u8 0),(.int .u8 0),(.int .u8 0),(.int .u8 0),(.int .u8 0),(.int .u8 0),(.int .u8 0),(.int .u8 0),(.int .u8 0),(.int .u8 0),(.int .u8 0),
 (.int .u8 0),(.int .u8 0),(.int .u8 0),(.int .u8 0)])]) (sQ (.region [oO 8 (kC 61 []),oM 5 8]) (sQ (.region [oM 9 5,oM 10 0,oO 11 (kC 121 [(tT 9),(tT 10)])]) (sQ (sQ (.region [oM 12 1,oO 13 (.len (tT 12)),
 oO 14 (.mov (kI 0))]) (.block 0 (.loop (sQ (.region [oO 15 (.bin .lss .num (tT 14) (tT 13))]) (sQ (.cond (tT 15) .skip (.exit 0)) (sQ (.block 1 (sQ (.region [oO 16 (.iaddr 1 (tT 12) (tT 14)),oO 17 (.load false 1 (tT 16)),
 oM 7 17]) (.region [oM 18 5,oM 19 7,oO 20 (kC 63 [(tT 18),(tT 19)])]))) (.region [oO 21 (.bin .add .num (tT 14) (kI 1)),oM 14 21]))))))) (sQ (.region [oM 22 5,oO 23 (kC 70 [(tT 22)]),oO 24 (kC 122 [(tT 23)]),
 ⟨none,.store 32 (tT 4) (tT 24),none⟩]) .ret)))))
theorem ok69 : FnOk Tryz.prog 69 25 ir69 [.cell 4 true 32] := Z7 mixed Tryz.func69 (by kernel_rfl) Tryz.ntmps69 (by kernel_rfl) (by kernel_rfl)
def ir70 : ACode := (sQ (.region [oO 2 (.mov (.const nS))]) (sQ (sQ (.region [oM 3 0,oO 4 (.bin .eql .ptr (tT 3) (.const (.pointer none)))]) (.cond (tT 4) (sQ (.region [oO 2 (.mov (.const nS))]) .ret) .skip)) (sQ (.region [oM 5 0,
 oO 6 (.nilck (tT 5)),oO 7 (.faddr 0 (tT 6)),oO 8 (.load false 1 (tT 7)),oO 9 (kC 123 [(tT 8)]),oM 2 9]) .ret)))
theorem ok70 : FnOk Tryz.prog 70 10 ir70 [.tmp 2] := Z7 mixed Tryz.func70 (by kernel_rfl) Tryz.ntmps70 (by kernel_rfl) (by kernel_rfl)
def ir71 : ACode := (sQ (.region [oO 4 (.mov kF)]) (sQ (.region [oM 5 0,oM 6 1,oO 7 (kC 124 [(tT 5),(tT 6)]),oO 8 (.bin .geq .num (tT 7) (kI 0)),oM 4 8]) .ret))
theorem ok71 : FnOk Tryz.prog 71 9 ir71 [.tmp 4] := Z7 mixed Tryz.func71 (by kernel_rfl) Tryz.ntmps71 (by kernel_rfl) (by kernel_rfl)
def ir72 : ACode := (sQ (.region [oO 2 (.mov kF)]) (sQ (.region [oM 3 0,oO 4 (.bin .lss .num (tT 3) (kI 0)),oM 5 4,oF 5 6 (.mov (tT 0)),oF 5 7 (.bin .geq .num (tT 6) (kI 64)),oO 8 (.pick (tT 5) kT (tT 7)),
 oM 2 8]) .ret))
theorem ok72 : FnOk Tryz.prog 72 9 ir72 [.tmp 2] := Z7 mixed Tryz.func72 (by kernel_rfl) Tryz.ntmps72 (by kernel_rfl) (by kernel_rfl)
def ir73 : ACode := (sQ (.region [oO 2 (.alloc [nS])]) (sQ (.region [oM 5 0,oO 6 (.mx (tT 5) (kI 0)),oO 7 (.mn (tT 6) (kI 4096)),oM 0 7]) (sQ (.region [oM 8 0,oO 9 (.bin .add .num (tT 8) (kI 63)),oO 10 (.bin .quo .num (tT 9) (kI 64)),
 oO 11 (.mslice [(.int .u64 0)] 8 (tT 10) (tT 10)),oM 3 11]) (sQ (sQ (.region [oM 12 3,oO 13 (.len (tT 12)),oO 14 (.mov (kI 0))]) (.block 0 (.loop (sQ (.region [oO 15 (.bin .lss .num (tT 14) (tT 13))]) (sQ (.cond (tT 15) .skip (.exit 0)) (sQ (.block 1 (sQ (.region [oM 16 14,
 oM 4 16]) (.region [oM 17 3,oM 18 4,oO 19 (.iaddr 1 (tT 17) (tT 18)),⟨none,.store 1 (tT 19) (.const (.int .u64 18446744073709551615)),none⟩]))) (.region [oO 20 (.bin .add .num (tT 14) (kI 1)),oM 14 20]))))))) (sQ (sQ (.region [oM 21 0,
 oO 22 (.bin .rem .num (tT 21) (kI 64)),oO 23 (.bin .gtr .num (tT 22) (kI 0))]) (.cond (tT 23) (.region [oM 24 3,oM 25 3,oO 26 (.len (tT 25)),oO 27 (.bin .sub .num (tT 26) (kI 1)),oM 28 0,oO 29 (.bin .rem .num (tT 28) (kI 64)),
 oO 30 (.bin .shl .num (.const (.int .u64 1)) (tT 29)),oO 31 (.bin .sub .num (tT 30) (.const (.int .u64 1))),oO 32 (.iaddr 1 (tT 24) (tT 27)),⟨none,.store 1 (tT 32) (tT 31),none⟩]) .skip)) (sQ (.region [oM 33 3,
 oO 34 (.build [nS] [(0,1,(tT 33))]),⟨none,.store 1 (tT 2) (tT 34),none⟩]) .ret))))))
theorem ok73 : FnOk Tryz.prog 73 35 ir73 [.cell 2 true 1] := Z7 mixed Tryz.func73 (by kernel_rfl) Tryz.ntmps73 (by kernel_rfl) (by kernel_rfl)
def ir74 : ACode := (sQ (.region [oO 2 (.box (tT 0)),oO 3 (.box (tT 1)),oO 4 (.alloc [nS])]) (sQ (.region [oO 7 (.faddr 0 (tT 2)),oO 8 (.load false 1 (tT 7)),oO 9 (.len (tT 8)),oO 10 (.faddr 0 (tT 3)),
 oO 11 (.load false 1 (tT 10)),oO 12 (.len (tT 11)),oO 13 (.mx (tT 9) (tT 12)),oO 14 (.mslice [(.int .u64 0)] 8 (tT 13) (tT 13)),oM 5 14]) (sQ (sQ (.region [oM 15 5,oO 16 (.len (tT 15)),oO 17 (.mov (kI 0))]) (.block 0 (.loop (sQ (.region [oO 18 (.bin .lss .num (tT 17) (tT 16))]) (sQ (.cond (tT 18) .skip (.exit 0)) (sQ (.block 1 (sQ (.region [oM 19 17,
 oM 6 19]) (.draw [⟨0,oM 20 5,0,0,false⟩,⟨1,oM 21 6,0,0,false⟩,⟨2,oO 22 (.load true 1 (tT 2)),0,0,false⟩,⟨3,oM 23 6,0,0,false⟩,⟨4,oO 24 (kC 83 [(tT 22),(tT 23)]),12,0,false⟩,⟨5,oO 25 (.load true 1 (tT 3)),
 0,0,false⟩,⟨6,oM 26 6,0,0,false⟩,⟨7,oO 27 (kC 83 [(tT 25),(tT 26)]),124,1,false⟩,⟨8,oO 28 (.bin .or .num (tT 24) (tT 27)),252,1,false⟩,⟨9,oO 29 (.iaddr 1 (tT 20) (tT 21)),511,1,false⟩,⟨10,⟨none,.store 1 (tT 29) (tT 28),
 none⟩,1023,1,false⟩]))) (.region [oO 30 (.bin .add .num (tT 17) (kI 1)),oM 17 30]))))))) (sQ (.region [oM 31 5,oO 32 (.build [nS] [(0,1,(tT 31))]),⟨none,.store 1 (tT 4) (tT 32),none⟩]) .ret))))
theorem ok74 : FnOk Tryz.prog 74 33 ir74 [.cell 4 true 1] := Z7 mixed Tryz.func74 (by kernel_rfl) Tryz.ntmps74 (by kernel_rfl) (by kernel_rfl)
def ir75 : ACode := (sQ (.region [oO 2 (.box (tT 0)),oO 3 (.box (tT 1)),oO 4 (.mov kF)]) (sQ (sQ (.region [oO 7 (.faddr 0 (tT 2)),oO 8 (.load false 1 (tT 7)),oO 9 (.len (tT 8)),oO 10 (.mov (kI 0))]) (.block 0 (.loop (sQ (.region [oO 11 (.bin .lss .num (tT 10) (tT 9))]) (sQ (.cond (tT 11) .skip (.exit 0)) (sQ (.block 1 (sQ (.region [oM 12 10,
 oO 13 (.iaddr 1 (tT 8) (tT 10)),oO 14 (.load false 1 (tT 13)),oM 5 12,oM 6 14]) (sQ (.region [oM 15 6,oO 16 (.load true 1 (tT 3)),oM 17 5,oO 18 (kC 83 [(tT 16),(tT 17)]),oO 19 (.bin .andNot .num (tT 15) (tT 18)),
 oO 20 (.bin .neq .num (tT 19) (.const (.int .u64 0)))]) (.cond (tT 20) (sQ (.region [oO 4 (.mov kF)]) .ret) .skip)))) (.region [oO 21 (.bin .add .num (tT 10) (kI 1)),oM 10 21]))))))) (sQ (.region [oO 4 (.mov kT)]) .ret)))
theorem ok75 : FnOk Tryz.prog 75 22 ir75 [.tmp 4] := Z7 mixed Tryz.func75 (by kernel_rfl) Tryz.ntmps75 (by kernel_rfl) (by kernel_rfl)
def ir76 : ACode := (sQ (.region [oO 1 (.box (tT 0)),oO 2 (.mov kF)]) (sQ (.region [oO 3 (.faddr 0 (tT 1)),oO 4 (.load true 1 (tT 3)),oO 5 (.faddr 1 (tT 1)),oO 6 (.load true 1 (tT 5)),oO 7 (kC 84 [(tT 4),
 (tT 6)]),oM 2 7]) .ret))
theorem ok76 : FnOk Tryz.prog 76 8 ir76 [.tmp 2] := Z7 mixed Tryz.func76 (by kernel_rfl) Tryz.ntmps76 (by kernel_rfl) (by kernel_rfl)
def ir77 : ACode := (sQ (.region [oO 2 (.alloc [nS])]) (sQ (.region [oO 3 (.alloc [nS])]) (sQ (sQ (.region [oM 6 0,oO 7 (.len (tT 6)),oO 8 (.mov (kI 0))]) (.block 0 (.loop (sQ (.region [oO 9 (.bin .lss .num (tT 8) (tT 7))]) (sQ (.cond (tT 9) .skip (.exit 0)) (sQ (.block 1 (sQ (.region [oO 10 (.iaddr 2 (tT 6) (tT 8)),
 oO 11 (.load true 2 (tT 10)),oO 5 (.alloc [nS,nS]),⟨none,.store 2 (tT 5) (tT 11),none⟩]) (.draw [⟨0,oO 12 (.load true 1 (tT 3)),0,0,false⟩,⟨1,oO 13 (.faddr 0 (tT 5)),0,0,false⟩,⟨2,oO 14 (.load true 1 (tT 13)),
 2,0,false⟩,⟨3,oO 15 (kC 74 [(tT 12),(tT 14)]),7,0,false⟩,⟨4,oO 16 (.faddr 1 (tT 5)),0,0,false⟩,⟨5,oO 17 (.load true 1 (tT 16)),16,0,false⟩,⟨6,oO 18 (kC 74 [(tT 15),(tT 17)]),63,1,false⟩,⟨7,⟨none,.store 1 (tT 3) (tT 18),
 none⟩,127,1,false⟩]))) (.region [oO 19 (.bin .add .num (tT 8) (kI 1)),oM 8 19]))))))) (sQ (.region [oO 20 (.load true 1 (tT 3)),⟨none,.store 1 (tT 2) (tT 20),none⟩]) .ret))))
theorem ok77 : FnOk Tryz.prog 77 21 ir77 [.cell 2 true 1] := Z7 mixed Tryz.func77 (by kernel_rfl) Tryz.ntmps77 (by kernel_rfl) (by kernel_rfl)
def ir78 : ACode := (sQ (.region [oO 3 (.box (tT 1)),oO 4 (.mov kF)]) (sQ (.region [oM 5 0,oO 6 (.mkfn 125 [(tT 3)]),oO 7 (kC 92 [(tT 5),(tT 6)]),oM 4 7]) .ret))
theorem ok78 : FnOk Tryz.prog 78 8 ir78 [.tmp 4] := Z7 mixed Tryz.func78 (by kernel_rfl) Tryz.ntmps78 (by kernel_rfl) (by kernel_rfl)
def ir79 : ACode := (sQ (.region [oO 2 (.box (tT 0)),oO 4 (.alloc [nS]),oO 5 (.mov kF)]) (sQ (.region [oO 6 (.load true 6 (tT 2)),oO 7 (.faddr 4 (tT 2)),oO 8 (.load false 1 (tT 7)),oO 9 (.build [(.bool false),
 (.bool false),(.bool false),(.int .i64 0),nS,nS] [(0,1,kT),(5,1,(tT 8))]),oO 10 (.faddr 5 (tT 2)),oO 11 (.load false 1 (tT 10)),oO 12 (.build [(.bool false),(.bool false),(.bool false),(.int .i64 0),nS,
 nS] [(0,1,kT),(4,1,(tT 11)),(2,1,kT)]),oM 13 1,oO 14 (.build [(.bool false),(.bool false),(.bool false),(.int .i64 0),nS,nS] [(5,1,(tT 13))]),oO 15 (.bslice [(.bool false),(.bool false),(.bool false),(.int .i64 0),
 nS,nS] 3 [(0,(tT 9)),(1,(tT 12)),(2,(tT 14))]),oO 16 (kC 126 [(tT 6),(tT 15)]),oO 17 (.extract (tT 16) 0),oO 18 (.extract (tT 16) 1),⟨none,.store 1 (tT 4) (tT 17),none⟩,oM 5 18]) .ret))
theorem ok79 : FnOk Tryz.prog 79 19 ir79 [.cell 4 true 1, .tmp 5] := Z7 mixed Tryz.func79 (by kernel_rfl) Tryz.ntmps79 (by kernel_rfl) (by kernel_rfl)
def ir80 : ACode := (sQ (.region [oO 4 (.box (tT 0)),oO 8 (.alloc [nS]),oO 9 (.mov kF)]) (sQ (.region [oO 12 (.faddr 3 (tT 4)),oO 13 (.load false 1 (tT 12)),oM 14 3,oO 15 (.iaddr 5 (tT 13) (tT 14)),oO 16 (.load true 5 (tT 15)),
 oO 10 (.alloc [(.bool false),nS,nS,(.int .i64 0),(.int .i64 0)]),⟨none,.store 5 (tT 10) (tT 16),none⟩]) (sQ (.region [oO 17 (.faddr 3 (tT 10)),oO 18 (.load false 1 (tT 17)),oO 19 (.bslice [(.int .i64 0)] 1 [(0,
 (tT 18))]),oO 20 (kC 17 [(tT 19)]),oO 21 (.build [nS,nS] [(1,1,(tT 20))]),oO 11 (.alloc [nS,nS]),⟨none,.store 2 (tT 11) (tT 21),none⟩]) (sQ (sQ (.region [oO 22 (.faddr 0 (tT 10)),oO 23 (.load false 1 (tT 22))]) (.cond (tT 23) (.region [oO 24 (.faddr 3 (tT 10)),
 oO 25 (.load false 1 (tT 24)),oO 26 (.bslice [(.int .i64 0)] 1 [(0,(tT 25))]),oO 27 (kC 17 [(tT 26)]),oO 28 (.build [nS,nS] [(0,1,(tT 27))]),⟨none,.store 2 (tT 11) (tT 28),none⟩]) .skip)) (sQ (.draw [⟨0,
 oO 29 (.load true 6 (tT 4)),0,0,false⟩,⟨1,oO 30 (.faddr 4 (tT 4)),0,0,false⟩,⟨2,oO 31 (.load false 1 (tT 30)),2,0,false⟩,⟨3,oO 32 (.build [(.bool false),(.bool false),(.bool false),(.int .i64 0),nS,nS] [(0,
 1,kT),(5,1,(tT 31))]),6,0,false⟩,⟨4,oM 33 1,0,0,false⟩,⟨5,oO 34 (.build [(.bool false),(.bool false),(.bool false),(.int .i64 0),nS,nS] [(5,1,(tT 33))]),16,0,false⟩,⟨6,oO 35 (.load true 2 (tT 11)),0,0,
 false⟩,⟨7,oO 36 (.bslice [nS,nS] 1 [(0,(tT 35))]),64,0,false⟩,⟨8,oO 37 (.build [(.bool false),(.bool false),(.bool false),(.int .i64 0),nS,nS] [(4,1,(tT 36)),(2,1,kT)]),192,0,false⟩,⟨9,oO 38 (.faddr 1 (tT 10)),
 0,0,false⟩,⟨10,oO 39 (.load true 2 (tT 38)),512,0,false⟩,⟨11,oO 40 (.bslice [nS,nS] 1 [(0,(tT 39))]),1536,0,false⟩,⟨12,oO 41 (.build [(.bool false),(.bool false),(.bool false),(.int .i64 0),nS,nS] [(0,
 1,kT),(4,1,(tT 40)),(2,1,kT)]),3584,0,false⟩,⟨13,oO 42 (.faddr 3 (tT 10)),0,0,false⟩,⟨14,oO 43 (.load false 1 (tT 42)),8192,0,false⟩,⟨15,oO 44 (.faddr 0 (tT 10)),0,0,false⟩,⟨16,oO 45 (.load false 1 (tT 44)),
 32768,0,false⟩,⟨17,oO 46 (.faddr 4 (tT 4)),0,0,false⟩,⟨18,oO 47 (.load false 1 (tT 46)),131072,0,false⟩,⟨19,oO 48 (.build [(.bool false),(.bool false),(.bool false),(.int .i64 0),nS,nS] [(0,1,kT),(3,1,
 (tT 43)),(1,1,(tT 45)),(5,1,(tT 47))]),516096,0,false⟩,⟨20,oO 49 (.faddr 3 (tT 10)),0,0,false⟩,⟨21,oO 50 (.load false 1 (tT 49)),1048576,0,false⟩,⟨22,oO 51 (.faddr 0 (tT 10)),0,0,false⟩,⟨23,oO 52 (.load false 1 (tT 51)),
 4194304,0,false⟩,⟨24,oM 53 1,0,0,false⟩,⟨25,oM 54 2,0,0,false⟩,⟨26,oM 55 2,0,0,false⟩,⟨27,oO 56 (.bin .add .num (tT 55) (kI 1)),67108864,0,false⟩,⟨28,oO 57 (.slc 2 (tT 53) (some (tT 54)) (some (tT 56)) none),
 251658240,0,false⟩,⟨29,oO 58 (.build [(.bool false),(.bool false),(.bool false),(.int .i64 0),nS,nS] [(3,1,(tT 50)),(1,1,(tT 52)),(4,1,(tT 57)),(2,1,kT)]),535822336,0,false⟩,⟨30,oO 59 (.bslice [(.bool false),
 (.bool false),(.bool false),(.int .i64 0),nS,nS] 6 [(0,(tT 32)),(1,(tT 34)),(2,(tT 37)),(3,(tT 41)),(4,(tT 48)),(5,(tT 58))]),1073741822,0,false⟩,⟨31,oO 60 (kC 126 [(tT 29),(tT 59)]),2147483647,1,false⟩,
 ⟨32,oO 61 (.extract (tT 60) 0),4294967295,1,false⟩,⟨33,oO 62 (.extract (tT 60) 1),4294967295,1,false⟩,⟨34,⟨none,.store 1 (tT 8) (tT 61),none⟩,17179869183,1,false⟩,⟨35,oM 9 62,34359738367,1,false⟩]) .ret)))))
theorem ok80 : FnOk Tryz.prog 80 63 ir80 [.cell 8 true 1, .tmp 9] := Z7 mixed Tryz.func80 (by kernel_rfl) Tryz.ntmps80 (by kernel_rfl) (by kernel_rfl)
end Go.Proofs.YtmnbbggaoembeaaGreatDoor
