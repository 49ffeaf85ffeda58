/-
  Merged from the texts that this claim's theorem needs, part 3 of 8. No statement of the seat is proved here.
-/
import Derived.Carry
import Derived.KernelRfl
import Derived.LaidMore
import Derived.LoopNIn
import Derived.OpenShut
import Derived.ProofKit
import Derived.SizedLaws
import Derived.Test.YtmnbbggaoembeaaGreatDoorChecked
import Derived.Test.YtmnbbggaoembeaaGreatDoorRows
import Derived.Test.YtmnbbggaoembeaaGreatDoorMq1
set_option linter.unusedSimpArgs false
set_option linter.unusedVariables false
set_option linter.unusedSectionVars false
set_option maxRecDepth 100000
set_option maxHeartbeats 16000000
namespace Go.Proofs.YtmnbbggaoembeaaGreatDoor
section
open Go.RowKit
inductive ARes where
 | tmp (t:Nat)
 | cell (t:Nat) (agg:Bool) (size:Nat)
def cRes (P:Program):ResultVar→Option ARes
 | .tmp t=>some (.tmp t)
 | .cell a t => match layOf P t with
   | some l=>some (.cell a l.1 l.2)
   | none=>none
def cRess (P:Program):List ResultVar→Option (List ARes)
 | []=>some []
 | r :: l => match cRes P r, cRess P l with
   | some x,some xs=>some (x :: xs)
   | _,_=>none
def retV (e:Env) (h:Heap):ARes→Option PV
 | .tmp t=>e t
 | .cell a agg size => match dEval (.load agg size (.tmp a)) e h 0 with
   | some (p,_)=>some p
   | none=>none
def retVs (e:Env) (h:Heap):List ARes→Option (List PV)
 | []=>some []
 | r :: l => match retV e h r, retVs e h l with
   | some x,some xs=>some (x :: xs)
   | _,_=>none
def retAll (rs:List ARes) (e:Env) (h:Heap):Option PV :=
 match retVs e h rs with
 | some [p]=>some p
 | some l=>some (.tup l)
 | none=>none
def retQ (rs:List ARes) (R:PV→Prop):Exit→Nat→Env→Heap→Prop
 | .normal,_,e,h=>∃ r0 r,retAll rs e h=some r0∧LoP r0 r∧r.pure∧R r
 | .ret,_,e,h=>∃ r0 r,retAll rs e h=some r0∧LoP r0 r∧r.pure∧R r
 | _,_,_,_=>False
def FnOk (P:Program) (f nt:Nat) (ac:ACode) (rs:List ARes):Prop :=
 P.follows .mixedOrders = true∧∃ fn c,P.funcs[f]? = some fn∧(fn.name == "runtime.NumGoroutine") = false∧fn.body = some c∧fn.ntmps = nt∧cCode P nt c = some ac∧cRess P fn.results.toList = some rs
def codeOf (P:Program) (nt:Nat):Option Code→Option ACode
 | some c=>cCode P nt c
 | none=>none
theorem Z7 {P : Program} {f nt : Nat} {fn : Func} {ac : ACode} {rs : List ARes} (hm : P.follows .mixedOrders = true) (hf : P.funcs[f]? = some fn) (hn : (fn.name == "runtime.NumGoroutine") = false) (hnt : fn.ntmps = nt) (hc : codeOf P nt fn.body = some ac) (hr : cRess P fn.results.toList = some rs) : FnOk P f nt ac rs := by
 refine⟨hm,fn,?_⟩;cases hb:fn.body with
 | none=>rw [hb] at hc; cases hc
 | some c=>exact⟨c,hf,hn,rfl,hnt,by rw [hb] at hc; exact hc,hr⟩
def Ctx.dom (C:Ctx) (n:Nat):Prop:=∀ i,n≤i→C.φ0 i=none
def argEnv (args:List PV):Env:=fun k=>args[k]?
section
variable {P:Program} {C:Ctx} {Fr:Nat→Prop} {e:Env} {h:Heap} {F:Froz} {φ:Locs} {a:Act} {w:World}
theorem ZfI (s:St' C Fr e h F φ a w) {id:Nat} {t:TypeId} {agg:Bool} {size:Nat} (hlay:layOf P t=some (agg,size)) {x:Operand} {p:PV} {h':Heap} (hd:dEval (.load agg size x) e h id=some (p,h')) :
 ∃ ad val,a.eval x=.pointer (some ad)∧(loadVar t ad).run P w=.ok val w∧Rep F φ val p:=by
 simp only [dEval] at hd
 split at hd
 · rename_i l hl
   split at hd
   · rename_i q hq;cases hd;obtain⟨ad,hv,hs,hc⟩:=frozCells s (s.eval hl);have hle:=Z5I hq;obtain⟨val,hr,hrep⟩:=Z4p (w:=w) hlay hs hq (fun j hj=>by simpa using hc j (by omega));exact⟨ad,val,hv,hr,hrep⟩
   · simp at hd
 · rename_i k i off hl
   split at hd
   · rename_i b hb
     split at hd
     case isFalse=>simp at hd
     rename_i hi
     split at hd
     · rename_i q hq;cases hd;obtain⟨loc,ad,hloc,hz,hbase,hs,hv⟩:=(s.eval hl).ptr_inv;have hle:=Z5I hq;obtain⟨loc',h1,h2,_⟩:=s.live k b hb;obtain rfl:loc'=loc:=by rw [h1] at hloc; simpa using hloc
       have h2:=h2.cells hz;have hel:(b.elems.getD i []).length=b.esz:=by
        rw [h2.esz];refine h2.el _ ?_;simp [Y0b,hi]
       obtain⟨val,hr,hrep⟩:=Z4p (w:=w) (ad:=⟨ad.block,ad.off+(i*loc'.esz+off),none⟩) hlay rfl hq (fun j hj=>by
        have:=s.objCell hb hloc hi (j:=off+j) (by omega) hbase;rw [show ad.off+(i*loc'.esz+(off+j))=ad.off+(i*loc'.esz+off)+j by omega] at this
        exact this)
       exact⟨_,val,hv,hr,hrep⟩
     · simp at hd
   · simp at hd
 · simp at hd
def resOne (P:Program) (tmps:Array Value):ResultVar→Sem Value
 | .tmp t=>Pure.pure (tmps.getD t undef)
 | .cell a t=>do loadVar t (← asAddr (tmps.getD a undef))
theorem ZfJ (s:St' C Fr e h F φ a w) {r:ResultVar} {x:ARes} (hr:cRes P r=some x) {p:PV} (hp:retV e h x=some p):∃ v,(resOne P a.tmps r).run P w=.ok v w∧Rep F φ v p:=by
 cases r with
 | tmp t =>
   obtain rfl:ARes.tmp t=x:=by simpa [cRes] using hr
   exact⟨_,rfl,(s.env t p hp).2⟩
 | cell c t =>
   simp only [cRes] at hr
   split at hr
   · rename_i l hl;obtain rfl:ARes.cell c l.1 l.2=x:=by simpa using hr
     simp only [retV] at hp
     split at hp
     · rename_i q h' hq;cases hp;obtain⟨ad,val,hv,hrun,hrep⟩:=ZfI (P:=P) s hl hq;have hv':a.tmps.getD c undef=.pointer (some ad):=hv;exact⟨val,by simp [resOne,hv',asAddr,hrun],hrep⟩
     · simp at hp
   · simp at hr
theorem ZdM (s:St' C Fr e h F φ a w):∀ {rs:List ResultVar} {xs:List ARes} {ps:List PV},cRess P rs=some xs→retVs e h xs=some ps→∃ vs:List Value,(rs.mapM (resOne P a.tmps)).run P w=.ok vs w∧vs.length=ps.length∧∀ i,i<ps.length→Rep F φ (vs.getD i undef) (ps.getD i pvu):=by
 intro rs
 induction rs with
 | nil =>
   intro xs ps hx hp;obtain rfl : []=xs:=by simpa [cRess] using hx
   obtain rfl : []=ps:=by simpa [retVs] using hp
   exact⟨[],rfl,rfl,fun i hi=>by simp at hi⟩
 | cons r rs ih =>
   intro xs ps hx hp;simp only [cRess] at hx
   split at hx
   case h_2=>simp at hx
   rename_i x xs' h1 h2;obtain rfl:x :: xs'=xs:=by simpa using hx
   simp only [retVs] at hp
   split at hp
   case h_2=>simp at hp
   rename_i p ps' h3 h4;obtain rfl:p :: ps'=ps:=by simpa using hp
   obtain⟨v,hv,hrep⟩:=ZfJ s h1 h3;obtain⟨vs,hvs,hl,hreps⟩:=ih h2 h4;refine⟨v :: vs,by simp [hv,hvs],by simp [hl],fun i hi=>?_⟩;cases i with
   | zero=>simpa using hrep
   | succ i=>simpa using hreps i (by simpa using hi)
theorem Z74 (fn:Func) (tmps:Array Value):results fn tmps=(do let vs ← fn.results.mapM (resOne P tmps); Pure.pure (if h:vs.size=1 then vs[0] else .tuple vs)):=by
 unfold results;congr 1
theorem Z75 (s:St' C Fr e h F φ a w) {fn:Func} {rs:List ARes} (hr:cRess P fn.results.toList=some rs) {p:PV} (hp:retAll rs e h=some p):∃ v,(results fn a.tmps).run P w=.ok v w∧Rep F φ v p:=by
 unfold retAll at hp;have main:∀ ps,retVs e h rs=some ps→∃ vs:List Value,(fn.results.mapM (resOne P a.tmps)).run P w=.ok vs.toArray w∧vs.length=ps.length∧∀ i,i<ps.length→Rep F φ (vs.getD i undef) (ps.getD i pvu):=by
  intro ps hps;obtain⟨vs,h1,h2,h3⟩:=ZdM s hr hps;exact⟨vs,by rw [Array.mapM_eq_mapM_toList]; simp [h1],h2,h3⟩
 split at hp
 · rename_i q hq;cases hp;obtain⟨vs,h1,h2,h3⟩:=main _ hq;obtain⟨v,rfl⟩:∃ v,vs = [v]:=by
    cases vs with
    | nil=>simp at h2
    | cons v r => cases r with
      | nil=>exact⟨v,rfl⟩
      | cons _ _=>simp at h2
   exact⟨v,by rw [Z74 (P:=P),Sem.run_bind,h1]; simp,by simpa using h3 0 (by simp)⟩
 · rename_i ps hne hq;cases hp;obtain⟨vs,h1,h2,h3⟩:=main _ hq;refine⟨.tuple vs.toArray,?_,.tup _ _ (by simp [h2]) fun i hi=>?_⟩
   · have hne1 : vs.length ≠ 1 := by
      intro hl;rw [hl] at h2;cases ps with
      | nil=>simp at h2
      | cons p r => cases r with
        | nil=>exact hne p rfl
        | cons _ _=>simp at h2
     rw [Z74 (P:=P),Sem.run_bind,h1];simp [hne1]
   · have := h3 i hi;simpa [Y0d,Y0b] using this
 · simp at hp
theorem St'.turned (s:St' C Fr e h F φ a w) {w':World} {row:Option Nat} (hg:w.grownBy w' row) (hrow:∀ r,row=some r→C.w0.heap.size≤r∧∃ o:Obj,w.heap[r]?=some o∧o.isCells=false) (hrm:(∀ i b,h i=some b→0<b.esz) ∨ ∀ r es t,row=some r→¬ w.heap[r]?=some (.map es t)) {a':Act} (ht:a'.tmps=a.tmps) (hm:Marks C.w0.heap.size a' w'):St' C Fr e h F φ a' w':=by
 have hrow':∀ r,row=some r→∃ o:Obj,w.heap[r]?=some o∧o.isCells=false:=fun r hr=>(hrow r hr).2
 refine { nt := by rw [ht]; exact s.nt, glob := s.glob, marks := hm, loc0 := s.loc0, free := s.free, env := fun k p hp => by rw [ht]; exact s.env k p hp, froz := fun x v hx => ?_, ext := s.ext, old := s.old, os := hg.os.trans s.os, tape := hg.tape.trans s.tape, output := hg.output.trans s.output,
          size:=Y03 s.size hg.size,kept:=fun k hk hG=>?_,live:=fun i b hb=>?_,sep:=s.sep }
 · obtain ⟨h1, h2, h3⟩ := s.froz x v hx;exact⟨h1,h2,cell_kept h3 hg hrow'⟩
 · rw [hg.block k (Nat.lt_of_lt_of_le hk s.size) (fun e => by have := (hrow k e.symm).1; omega)];exact s.kept k hk hG
 · obtain ⟨loc, h1, h2, h3⟩ := s.live i b hb;rcases h2 with h2|h2
   · refine ⟨loc, h1, .inl (h2.mono (fun _ _ h => h) (fun _ _ h => h) fun k hk => ?_), h3⟩;obtain⟨hc,x,hx,rfl⟩:=hk;obtain⟨y,hy,_,cells,t,hgy,_⟩:=h2.room hc;obtain rfl:y=x:=by rw [hy] at hx; simpa using hx
     exact grownBy_keeps_cells hg hrow' hgy rfl
   · refine ⟨loc, h1, .inr (h2.mono (fun _ _ h => h) (fun _ _ h => h) fun k hk => ?_), h3⟩;obtain⟨hc,x,hx,rfl⟩:=hk;obtain⟨y,hy,es,t,hgy,_⟩:=h2.room;obtain rfl:y=x:=by rw [hy] at hx; simpa using hx
     refine hg.block y.block (Array.getElem?_eq_some_iff.1 hgy).1 fun he=>?_;rcases hrm with hrm|hrm
     · have:=hrm i b hb; have:=h2.esz; omega
     · exact hrm y.block es t he.symm hgy
theorem Z3n {FN:Fence} {m:Nat} {fn:Func} {tmps:Array Value} {R:Ending→World→Prop}:∀ (ds:List Deferred) {a:Act} {w:World},a.defers=ds→a.tmps=tmps→St' C Fr e h F φ a w→(∀ a' w',St' C Fr e h F φ a' w'→a'.tmps=tmps→∃ v,(results fn tmps).run P w'=.ok v w'∧R (.returned v) w') →
 LeavesInM FN m P fn tmps R ds .returning w
 | [],a,w,hd,ht,s,hk=>hk a w s ht
 | d :: ds, a, w, hd, ht, s, hk => by
   obtain⟨D,rfl,hD,hw⟩:=s.marks.all d (by rw [hd]; simp);have hnd:=s.marks.nd;rw [hd,List.nodup_cons] at hnd;refine⟨by simp,.inl ⟨D,_,rfl,run_takeDeferred hw,?_⟩⟩;have hm:Marks C.w0.heap.size { a with defers:=ds } (w.putObj D (.deferred none)):=by
    refine⟨hnd.2,fun d' hd'=>?_⟩;obtain⟨D',e1,e2,e3⟩:=s.marks.all d' (by rw [hd]; simp at hd' ⊢; exact .inr hd');refine⟨D',e1,e2,?_⟩;have hne:D'≠D:=by
     rintro rfl;exact hnd.1 (by rw [← e1]; exact hd')
    exact (World.putObj_heap_other hne).trans e3
   exact Z3n ds (a:={ a with defers:=ds }) rfl ht (s.turned (grownBy_putObj' w D _) (fun r hr=>by cases hr; exact⟨hD,_,hw,rfl⟩) (.inr fun r es t hr h=>by cases hr; rw [hw] at h; cases h) rfl hm) hk
theorem Z2 {f nt:Nat} {ac:ACode} {rs:List ARes} (hf:FnOk P f nt ac rs) {args:List PV} {R:PV→Prop} (hn:args.length≤nt) (hk:∀ C:Ctx,C.dom 0→aw P C ac (retQ rs R) 0 (argEnv args) (fun _=>none)):Spec P f args R:=by
 obtain⟨hm,fn,c,hfn,hname,hb,rfl,hc,hr⟩:=hf;refine⟨⟨fn,hfn,hname,by rw [hb]; rfl⟩,fun F w vs hF hv=>?_⟩;refine (callsIn_wide (n:=0)).1 (callsIn_of_wp_marks hfn hb Yt ?_ rfl)
 let C:Ctx:=⟨w,fun _=>False,F,fn.ntmps,fun _=>none⟩
 have hsz:vs.size=args.length:=hv.1;have s0:St' C (fun i=>0≤i) (argEnv args) (fun _=>none) F noLoc { tmps:=vs++Array.replicate (fn.ntmps-vs.size) undef,defers := [] } w:=by
  refine { nt := (by simp [C]; omega), glob := hF.2, marks := Marks.nil rfl, loc0 := fun i x hx => (by cases hx), free := fun _ _ => rfl, env := fun k p hp => ?_, froz := hF.1, ext := fun _ _ h => h, old := fun _ _ _ => rfl, os := rfl, tape := rfl, output := rfl, size := Y0m _, kept := fun _ _ _ => rfl,
           live:=fun id b hb=>(by cases hb),sep:=fun i j bi bj li lj k hi=>(by cases hi) }
  have hk:k<args.length:=(List.getElem?_eq_some_iff.1 hp).1;refine⟨by simp [C]; omega,?_⟩;have:=hv.2 k hk;have e1:(vs++Array.replicate (fn.ntmps-vs.size) undef).getD k undef=vs.getD k undef:=by
   simp only [Y0d];rw [Array.getElem?_append_left (by omega)]
  have e2:args.getD k pvu=p:=by
   rw [Y0b];have hp':args[k]?=some p:=hp;rw [hp']; rfl
  rw [e1,← e2];exact this
 refine wpIn_mono (hk C (fun _ _=>rfl) hm Fence.wide 0 ⟨Z5p 0,fun l hl=>by cases hl⟩ c hc _ w ⟨F,noLoc,s0⟩) fun x a' w' ⟨n,e,h,hQ,F',φ',s⟩=>?_;have fin:(∃ r0 r,retAll rs e h=some r0∧LoP r0 r∧r.pure∧R r)→LeavesInM Fence.wide 0 P fn a'.tmps (fun e w'=>∃ v' r F',e=.returned v'∧R r∧Rep F' noLoc v' r∧Below w.heap.size w w'∧Holds F' w'∧(∀ x u,F x=some u→F' x=some u)∧∀ x:Addr,x.block<w.heap.size→F' x=F x) a'.defers .returning w':=by
  rintro⟨r0,r,h0,hlo,hpure,hR⟩;refine Z3n a'.defers rfl rfl s fun a2 w2 s2 ht=>?_;obtain⟨v,hrun,hrep⟩:=Z75 s2 hr h0;rw [ht] at hrun;exact⟨v,hrun,v,r,F',rfl,hR,(hlo.rep hrep).pure hpure,⟨s2.os,s2.tape,s2.output,s2.size,fun k hk=>s2.kept k hk fun h=>h⟩,⟨s2.froz,s2.glob⟩,s2.ext,fun x hx=>s2.old x hx fun h=>h⟩
 cases x with
 | normal=>exact fin hQ
 | ret=>exact fin hQ
 | _=>exact hQ.elim
def retI (rs:List ARes) (R:Nat→PV→Heap→Prop):Exit→Nat→Env→Heap→Prop
 | .normal,n,e,h=>∃ r0 r,retAll rs e h=some r0∧LoP r0 r∧R n r h
 | .ret,n,e,h=>∃ r0 r,retAll rs e h=some r0∧LoP r0 r∧R n r h
 | _,_,_,_=>False
theorem Z2q {f nt:Nat} {ac:ACode} {rs:List ARes} (hf:FnOk P f nt ac rs) {n:Nat} {args:List PV} {h:Heap} {R:Nat→PV→Heap→Prop} (hn:args.length≤nt) (hk:∀ C:Ctx,C.dom n→aw P C ac (retI rs R) n (argEnv args) h):ISpec P f n args h R:=by
 obtain⟨hm,fn,c,hfn,hname,hb,rfl,hc,hr⟩:=hf;refine⟨⟨fn,hfn,hname,by rw [hb]; rfl⟩,fun C e F φ a w vs s hv=>?_⟩;refine (callsIn_wide (n:=0)).1 (callsIn_of_wp_marks hfn hb Yt ?_ rfl)
 let C':Ctx:=⟨w,fun k=>∃ i b loc,h i=some b∧φ i=some loc∧loc.has k,F,fn.ntmps,φ⟩
 have hG:∀ k,C'.G k→C.w0.heap.size≤k ∨ C.G k:=by
  rintro k ⟨i,b,loc,hi,hl,hk⟩;obtain⟨loc',h1,h2,h3⟩:=s.live i b hi;obtain rfl:loc'=loc:=by rw [h1] at hl; simpa using hl
  exact (h3 k hk).1
 have hcells:∀ k,C'.G k→¬ w.heap[k]?=some (.deferred (some [])):=by
  rintro k ⟨i,b,loc,hi,hl,hk⟩ ho;obtain⟨loc',h1,h2,_⟩:=s.live i b hi;obtain rfl:loc'=loc:=by rw [h1] at hl; simpa using hl
  rcases h2.there hk with⟨cells,t,hg⟩|⟨es,t,hg⟩
  · rw [hg] at ho; cases ho
  · rw [hg] at ho; cases ho
 have hsz:vs.size=args.length:=hv.1;have s0:St' C' (fun i=>n≤i) (argEnv args) h F φ { tmps:=vs++Array.replicate (fn.ntmps-vs.size) undef,defers := [] } w:=by
  refine { nt := (by simp [C']; omega), glob := s.glob, marks := Marks.nil rfl, loc0 := fun i x hx => hx, free := s.free, env := fun k p hp => ?_, froz := s.froz, ext := fun _ _ h => h, old := fun _ _ _ => rfl, os := rfl, tape := rfl, output := rfl, size := Y0m _, kept := fun _ _ _ => rfl,
           live:=fun id b hb=>?_,sep:=s.sep }
  · have hk : k < args.length := (List.getElem?_eq_some_iff.1 hp).1;refine⟨by simp [C']; omega,?_⟩;have:=hv.2 k hk;have e1:(vs++Array.replicate (fn.ntmps-vs.size) undef).getD k undef=vs.getD k undef:=by
     simp only [Y0d];rw [Array.getElem?_append_left (by omega)]
    have e2:args.getD k pvu=p:=by
     rw [Y0b];have hp':args[k]?=some p:=hp;rw [hp']; rfl
    rw [e1,← e2];exact this
  · obtain ⟨loc, h1, h2, h3⟩ := s.live id b hb;exact⟨loc,h1,h2,fun k hk=>⟨.inr ⟨id,b,loc,hb,h1,hk⟩,(h3 k hk).2⟩⟩
 refine wpIn_mono (hk C' s.free hm Fence.wide 0 ⟨Z5p 0,fun l hl=>by cases hl⟩ c hc _ w ⟨F,φ,s0⟩) fun x a' w' ⟨n',e',h',hQ,F',φ',s'⟩=>?_;have back:∀ {a2:Act} {w':World},St' C' (fun i=>n'≤i) e' h' F' φ' a2 w'→St' C (fun i=>n'≤i) e h' F' φ' a w':=fun {a2 w'} s'=>by
  refine { nt := s.nt, glob := s'.glob, marks := s.marks.mono (fun k hk => by rw [s'.kept k (Array.getElem?_eq_some_iff.1 hk).1 (fun hg => hcells k hg hk)]; exact hk), loc0 := fun i x hx => s'.loc0 i x (s.loc0 i x hx), free := s'.free, env := fun k p hp => ⟨(s.env k p hp).1, (s.env k p hp).2.mono s'.ext s'.loc0⟩, froz := s'.froz, ext := fun x v hx => s'.ext _ _ (s.ext x v hx),
           old:=fun x hx hg=>?_,os:=s'.os.trans s.os,tape:=s'.tape.trans s.tape,output:=s'.output.trans s.output,size:=Y03 s.size s'.size,kept:=fun k hk hg=>?_,live:=fun i b hi=>?_,sep:=s'.sep }
  · have hx2 : x.block < w.heap.size := Nat.lt_of_lt_of_le hx s.size;rw [s'.old x hx2 fun hg'=>(hG _ hg').elim (fun h1=>absurd hx (Nat.not_lt.2 h1)) hg];exact s.old x hx hg
  · rw [s'.kept k (Nat.lt_of_lt_of_le hk s.size) fun hg' => (hG _ hg').elim (fun h1 => absurd hk (Nat.not_lt.2 h1)) hg];exact s.kept k hk hg
  · obtain ⟨loc, h1, h2, h3⟩ := s'.live i b hi;refine⟨loc,h1,h2,fun k hk=>⟨?_,(h3 k hk).2⟩⟩;rcases (h3 k hk).1 with h4|h4
    · exact .inl (Y03 s.size h4)
    · exact hG k h4
 have fin:(∃ r0 r,retAll rs e' h'=some r0∧LoP r0 r∧R n' r h')→LeavesInM Fence.wide 0 P fn a'.tmps (fun en w'=>∃ v' r n1 h1 F1 φ1,en=.returned v'∧R n1 r h1∧Rep F1 φ1 v' r∧St' C (fun i=>n1≤i) e h1 F1 φ1 a w') a'.defers .returning w':=by
  rintro⟨r0,r,h0,hlo,hR⟩;refine Z3n a'.defers rfl rfl s' fun a2 w2 s2 ht=>?_;obtain⟨v,hrun,hrep⟩:=Z75 s2 hr h0;rw [ht] at hrun;exact⟨v,hrun,v,r,n',h',F',φ',rfl,hR,hlo.rep hrep,back s2⟩
 cases x with
 | normal=>exact fin hQ
 | ret=>exact fin hQ
 | _=>exact hQ.elim
def envL:List (Nat×PV)→Env
 | []=>fun _=>none
 | (k,p) :: r=>(envL r).upd k p
def heapL:List (Nat×Bx)→Heap
 | []=>fun _=>none
 | (k,b) :: r=>(heapL r).upd k b
theorem Z8L {L:List (Nat×PV)} {k:Nat} {p:PV} (h:envL L k=some p):(k,p)∈L:=by
 induction L with
 | nil=>cases h
 | cons q r ih =>
   obtain⟨k',p'⟩:=q;simp only [envL] at h;by_cases hk:k=k'
   · subst hk; rw [Env.upd_same] at h; cases h; simp
   · rw [Env.upd_ne _ _ hk] at h; simp [ih h]
theorem Z1F {L:List (Nat×Bx)} {k:Nat} {p:Bx} (h:heapL L k=some p):(k,p)∈L:=by
 induction L with
 | nil=>cases h
 | cons q r ih =>
   obtain⟨k',p'⟩:=q;simp only [heapL] at h;by_cases hk:k=k'
   · subst hk; rw [Heap.upd_same] at h; cases h; simp
   · rw [Heap.upd_ne _ _ hk] at h; simp [ih h]
inductive RenP (ρ:Nat→Nat) (D:Nat→Prop):PV→PV→Prop
 | pure (p:PV) (hp:p.pure):RenP ρ D p p
 | own (id:Nat) (hd:D id):RenP ρ D (.own (ρ id)) (.own id)
 | ptr (id i off:Nat) (hd:D id):RenP ρ D (.ptr (ρ id) i off) (.ptr id i off)
 | view (id lo len:Nat) (hd:D id):RenP ρ D (.view (ρ id) lo len) (.view id lo len)
 | sl (id i off len cap:Nat) (hd:D id):RenP ρ D (.sl (ρ id) i off len cap) (.sl id i off len cap)
 | mp (id:Nat) (hd:D id):RenP ρ D (.mp (ρ id)) (.mp id)
 | agg (l m:List PV) (hl:l.length=m.length) (h:∀ i,i<l.length→RenP ρ D (l.getD i pvu) (m.getD i pvu)):RenP ρ D (.agg l) (.agg m)
 | low (p:PV) (hp:p.low.pure):RenP ρ D p p.low
 | same (p:PV) (hp:p.inn fun i=>D i∧ρ i=i):RenP ρ D p p
theorem RenP.rep {ρ:Nat→Nat} {D:Nat→Prop} {φ':Locs} (hφ:∀ i x,D i→φ (ρ i)=some x→φ' i=some x) {p0 p:PV} (hr:RenP ρ D p0 p):∀ {v:Value},Rep F φ v p0→Rep F φ' v p:=by
 induction hr with
 | pure p hp=>exact fun h=>h.pure hp
 | own id hd=>intro v h; obtain⟨loc,h1,hz,rfl⟩:=h.own_inv; exact .own id loc (hφ _ _ hd h1) hz
 | view id lo len hd=>intro v h; obtain⟨loc,b,h1,hz,hl,hb,rfl⟩:=h.view_inv; exact .view id lo len loc b (hφ _ _ hd h1) hz hl hb
 | sl id i off len cap hd=>intro v h; obtain⟨loc,x,h1,hz,hb,hs,hl,rfl⟩:=h.sl_inv; exact .sl id i off len cap loc x (hφ _ _ hd h1) hz hb hs hl
 | mp id hd=>intro v h; obtain⟨loc,x,h1,hz,hb,rfl⟩:=h.mp_inv; exact .mp id loc x (hφ _ _ hd h1) hz hb
 | ptr id i off hd=>intro v h; obtain⟨loc,x,h1,hz,h2,h3,rfl⟩:=h.ptr_inv; exact .ptr id i off loc x (hφ _ _ hd h1) hz h2 h3
 | agg l m hl _ ih =>
   intro v h;obtain⟨vs,rfl,h1,h2,h3⟩:=h.agg_inv;exact .agg vs m (by rw [h1,hl]) (fun i hi=>h2 i (by rw [hl]; exact hi)) fun i hi=>ih i (by rw [hl]; exact hi) (h3 i (by rw [hl]; exact hi))
 | low p hp=>exact fun h=>h.low.pure hp
 | same p hp=>exact fun h=>h.inn (fun i x hi hx=>hφ i x hi.1 (by rw [hi.2]; exact hx)) hp
inductive RenB (ρ:Nat→Nat) (D:Nat→Prop):Bx→Bx→Prop
 | same (b:Bx) (hp:pureLL b.elems):RenB ρ D b b
 | gen (b0 b:Bx) (hz:0<b.esz) (he:b0.esz=b.esz) (hl:b0.elems.length=b.elems.length) (hc:∀ i,i<b.elems.length→(b0.elems.getD i []).length=(b.elems.getD i []).length) (h:∀ i j,i<b.elems.length→j<b.esz→RenP ρ D ((b0.elems.getD i []).getD j pvu) ((b.elems.getD i []).getD j pvu)):RenB ρ D b0 b
theorem St'.ren {F:Froz} {φ:Locs} {a:Act} {w:World} {n:Nat} (s:St' C (fun i=>n≤i) e h F φ a w) (ρ:Nat→Nat) {n':Nat} {L:List (Nat×PV)} {HL:List (Nat×Bx)} (he:∀ q∈L,∃ p0,e q.1=some p0∧RenP ρ (fun i=>i<n') p0 q.2) (hh:∀ q∈HL,q.1<n'∧∃ b0,h (ρ q.1)=some b0∧RenB ρ (fun i=>i<n') b0 q.2)
 (hinj:∀ q∈HL,∀ q'∈HL,ρ q.1=ρ q'.1→q.1=q'.1) {m:Nat} (hdom:C.dom m) (hm:m≤n') (hρ:∀ i,i<m→ρ i=i):∃ φ',St' C (fun i=>n'≤i) (envL L) (heapL HL) F φ' a w:=by
 let φ':Locs:=fun i=>if i<n' then φ (ρ i) else none
 have hφ:∀ i x,i<n'→φ (ρ i)=some x→φ' i=some x:=fun i x hi hx=>by simp only [φ',hi,if_true]; exact hx
 refine⟨φ',{ nt:=s.nt,glob:=s.glob,marks:=s.marks,loc0:=fun i x hx=>?_,free:=fun i hi=>?_,env:=fun k p hp=>?_,froz:=s.froz,ext:=s.ext,old:=s.old,os:=s.os,tape:=s.tape,output:=s.output,size:=s.size,kept:=s.kept,live:=fun i b hb=>?_,sep:=?_ }⟩
 · have : ¬ i < n' := by omega
   simp only [φ',this,if_false]
 · obtain ⟨p0, h0, hr⟩ := he _ (Z8L hp);exact⟨(s.env k p0 h0).1,hr.rep hφ (s.env k p0 h0).2⟩
 · by_cases him : i < m
   · exact hφ i x (by omega) (by rw [hρ i him]; exact s.loc0 i x hx)
   · rw [hdom i (by omega)] at hx; cases hx
 · obtain ⟨hi, b0, h0, hr⟩ := hh _ (Z1F hb);obtain⟨loc,h1,h2,h3⟩:=s.live _ b0 h0;refine⟨loc,hφ i loc hi h1,?_,h3⟩;cases hr with
   | same hp=>exact h2.names hp
   | gen _ hz he hl hcl hrp =>
     have h2:=h2.cellsB (by rw [he]; exact hz);refine .inl ⟨by rw [← he]; exact h2.esz,h2.pos,by rw [← hl]; exact h2.len,h2.cap,h2.max,fun c hc=>?_,fun hc=>?_⟩
     · obtain ⟨k, hk, rfl⟩ := List.getElem_of_mem hc;have e1:b.elems[k]=b.elems.getD k []:=by simp [Y0b,hk]
       rw [e1,← hcl k hk]
       exact h2.el _ (by have hk' : k < b0.elems.length := by rw [hl]; exact hk
                         simp [Y0b,hk'])
     · obtain ⟨x, hx, hs, cells, t, hg, hsz, hrep⟩ := h2.room hc;refine⟨x,hx,hs,cells,t,hg,hsz,fun i j hi hj=>⟨(hrep i j hi hj).1,?_⟩⟩;exact (hrp i j (by rw [← hl,h2.len]; exact hi) (by rw [← he,h2.esz]; exact hj)).rep hφ (hrep i j hi hj).2
 · intro i j bi bj li lj k hi hj hli hlj hki hkj;obtain⟨hin,b0,h0,_⟩:=hh _ (Z1F hi);obtain⟨hjn,c0,g0,_⟩:=hh _ (Z1F hj);have hli':φ (ρ i)=some li:=by simpa only [φ',show i<n' from hin,if_true] using hli
   have hlj':φ (ρ j)=some lj:=by simpa only [φ',show j<n' from hjn,if_true] using hlj
   exact hinj _ (Z1F hi) _ (Z1F hj) (s.sep _ _ b0 c0 li lj k h0 g0 hli' hlj' hki hkj)
theorem Z9X (ρ:Nat→Nat) {n n':Nat} {L:List (Nat×PV)} {HL:List (Nat×Bx)} (he:∀ q∈L,∃ p0,e q.1=some p0∧RenP ρ (fun i=>i<n') p0 q.2) (hh:∀ q∈HL,q.1<n'∧∃ b0,h (ρ q.1)=some b0∧RenB ρ (fun i=>i<n') b0 q.2)
 (hinj:∀ q∈HL,∀ q'∈HL,ρ q.1=ρ q'.1→q.1=q'.1) {m:Nat} (hdom:C.dom m) (hm:m≤n') (hρ:∀ i,i<m→ρ i=i):Sub C n e h n' (envL L) (heapL HL):=by
 rintro a w ⟨F,φ,s⟩;obtain⟨φ',s'⟩:=s.ren ρ he hh hinj hdom hm hρ;exact⟨F,φ',s'⟩
theorem Z3M {n n':Nat} {L:List (Nat×PV)} {HL:List (Nat×Bx)} (he:∀ q∈L,∃ p0,e q.1=some p0∧RenP (fun i=>i) (fun i=>i<n') p0 q.2) (hh:∀ q∈HL,q.1<n'∧∃ b0,h q.1=some b0∧RenB (fun i=>i) (fun i=>i<n') b0 q.2) {m:Nat} (hdom:C.dom m) (hm:m≤n'):Sub C n e h n' (envL L) (heapL HL) :=
 Z9X (fun i=>i) he hh (fun _ _ _ _ h=>h) hdom hm fun _ _=>rfl
theorem Z61 {n n' n'' : Nat} {e' e'' : Env} {h' h'' : Heap} (h1 : Sub C n e h n' e' h') (h2 : Sub C n' e' h' n'' e'' h'') : Sub C n e h n'' e'' h'' := fun a w hs => h2 a w (h1 a w hs)
theorem Z7N {n:Nat}:Sub C n e h n e h:=fun _ _ hs=>hs
theorem Zcn {n k:Nat} (hk:e k=some (.vec [] true)) (esz:Nat) (hp:0<esz):Sub C n e h (n+1) (e.upd k (.own n)) (h.upd n ⟨esz,[]⟩):=by
 rintro a w ⟨F,φ,s⟩;obtain⟨hlt,hr⟩:=s.env k _ hk;have hbase:∃ base,a.tmps.getD k undef=.slice base 0 0:=by
  rcases hr.vec_inv with⟨_,h⟩|⟨x,cap,esz',cs,h,_,_,hf,_⟩
  · exact⟨none,h⟩
  · exact⟨some x,by rw [h,hf rfl]; rfl⟩
 obtain⟨base,hb⟩:=hbase;have s':=s.allocNil (Y0m n) base esz hp;have hfr:∀ i,n+1≤i→n≤i∧i≠n:=fun i hi=>⟨by omega,by omega⟩
 refine⟨F,_,{ s'.weaken hfr with env:=fun j p hj=>?_ }⟩;by_cases hjk:j=k
 · subst hjk;rw [Env.upd_same] at hj;cases hj;refine⟨hlt,?_⟩;rw [hb];exact .own n ⟨base,esz,0,0⟩ (by simp [locUpd]) hp
 · rw [Env.upd_ne _ _ hjk] at hj;exact s'.env j p hj
theorem Z76 {n k id:Nat} {b:Bx} (hk:e k=some (.own id)) (hb:h id=some b) (hp:pureLL b.elems):Sub C n e h n (e.upd k (.vec b.elems false)) (h.del id):=by
 rintro a w ⟨F,φ,s⟩;obtain⟨hlt,hr⟩:=s.env k _ hk;obtain⟨loc,hl,hz,hv⟩:=hr.own_inv;obtain⟨loc',h1,h2,h3⟩:=s.live id b hb;obtain rfl:loc'=loc:=by rw [h1] at hl; simpa using hl
 have h2:=h2.cells hz;have s1:St' C (fun i=>n≤i) e (h.del id) F φ a w:=s.sub (fun _ _ h=>h) (fun _ _ hh=>(Heap.del_some hh).2);have hput:∀ {F':Froz},St' C (fun i=>n≤i) e (h.del id) F' φ a w→Rep F' φ (a.tmps.getD k undef) (.vec b.elems false)→St C (fun i=>n≤i) (e.upd k (.vec b.elems false)) (h.del id) a w:=fun {F'} s2 hrep=>by
  refine⟨F',φ,{ s2 with env:=fun j p hj=>?_ }⟩;by_cases hjk:j=k
  · subst hjk; rw [Env.upd_same] at hj; cases hj; exact⟨hlt,hrep⟩
  · rw [Env.upd_ne _ _ hjk] at hj; exact s2.env j p hj
 by_cases hc0:loc'.cap=0
 · have hl0 : loc'.len = 0 := by have := h2.cap; omega
   have he0:b.elems = []:=List.eq_nil_of_length_eq_zero (by rw [h2.len,hl0]);refine hput s1 ?_;rw [hv,he0,hl0,hc0];cases hbs:loc'.base with
   | none=>exact .vecnil false
   | some x=>exact .vec (F:=F) (φ:=φ) x 0 0 [] false (fun _ _=>undef) (fun h=>absurd rfl h) (Y0m _) (by simp) (by simp) (by simp) (by simp) (by simp)
 · obtain ⟨ad, hbase, hs, cells, ct, hg, hroom, hrep⟩ := h2.room hc0;have hhas:loc'.has ad.block:=⟨hc0,ad,hbase,rfl⟩
   have s2:=s1.frz hg (h3 _ hhas).2 (s.del_no hb h1 hhas) (h3 _ hhas).1;have hx:=Z1k (h3 _ hhas).2 cells;refine hput s2 ?_;rw [hv,hbase,← h2.len];have hlt2:∀ i j,i<b.elems.length→j<loc'.esz→ad.off+(i*loc'.esz+j)<cells.size:=fun i j hi hj=>by
    have:=Z1u (n:=loc'.cap) (i:=i) (j:=j) (esz:=loc'.esz) (by have:=h2.cap; have:=h2.len;omega) hj;omega
   refine .vec ad loc'.cap loc'.esz b.elems false (fun i j=>cells.getD (ad.off+(i*loc'.esz+j)) undef) (fun _=>hs) (by rw [h2.len]; exact h2.cap) (by simp) (by rw [h2.len]; exact h2.max) (fun i hi=>h2.el _ (by simp [Y0b,hi])) (fun i j hi hj=>?_) (fun i j hi hj=>?_)
   · exact Z1o F _ _ (hlt2 i j hi hj) (hrep i j (by rw [← h2.len]; exact hi) hj).1
   · exact (hrep i j (by rw [← h2.len]; exact hi) hj).2.mono hx fun _ _ h=>h
theorem Z30 {n k id:Nat} {esz:Nat} {l:List PV} (hk:e k=some (.ptr id 0 0)) (hb:h id=some ⟨esz,[l]⟩):Sub C n e h n (e.upd k (.cp l)) (h.del id):=by
 rintro a w ⟨F,φ,s⟩;obtain⟨hlt,hr⟩:=s.env k _ hk;obtain⟨loc,x,hl,hz,hbase,hsx,hv⟩:=hr.ptr_inv;obtain⟨loc',h1,h2,h3⟩:=s.live id _ hb;obtain rfl:loc'=loc:=by rw [h1] at hl; simpa using hl
 have h2:=h2.cells hz;have hlen:loc'.len=1:=by rw [← h2.len]; rfl
 have hc0:loc'.cap≠0:=by have:=h2.cap; omega
 have s1:St' C (fun i=>n≤i) e (h.del id) F φ a w:=s.sub (fun _ _ h=>h) (fun _ _ hh=>(Heap.del_some hh).2);obtain⟨ad,hbase',hs,cells,ct,hg,hroom,hrep⟩:=h2.room hc0;obtain rfl:ad=x:=by rw [hbase'] at hbase; simpa using hbase
 have hhas:loc'.has ad.block:=⟨hc0,ad,hbase',rfl⟩
 have s2:=s1.frz hg (h3 _ hhas).2 (s.del_no hb h1 hhas) (h3 _ hhas).1;have hx:=Z1k (h3 _ hhas).2 cells;have hll:l.length=loc'.esz:=h2.el l (by simp);refine⟨_,φ,{ s2 with env:=fun j p hj=>?_ }⟩;by_cases hjk:j=k
 · subst hjk;rw [Env.upd_same] at hj;cases hj;refine⟨hlt,?_⟩;rw [hv];simp only [Nat.zero_mul,Nat.zero_add,Nat.add_zero];rw [← Z4n ad hs];have hlt2:∀ j,j<l.length→ad.off+j<cells.size:=fun j hj=>by
    have:=Z1u (n:=loc'.cap) (i:=0) (j:=j) (esz:=loc'.esz) (by omega) (by omega);omega
   refine .cp ad l (fun j=>cells.getD (ad.off+j) undef) hs (fun j hj=>?_) (fun j hj=>?_)
   · have := hrep 0 j (by omega) (by omega);simp only [Nat.zero_mul,Nat.zero_add] at this;exact Z1o F _ _ (hlt2 j hj) this.1
   · have := hrep 0 j (by omega) (by omega);simp only [Nat.zero_mul,Nat.zero_add] at this;exact this.2.mono hx fun _ _ h=>h
 · rw [Env.upd_ne _ _ hjk] at hj;exact s2.env j p hj
theorem Z2S {ac:ACode} {Q:Exit→Nat→Env→Heap→Prop} {n k:Nat} {l:List (List PV)} {full:Bool} (hk:e k=some (.vec l full)) (hw:l.length≤maxVec→aw P C ac Q n e h):aw P C ac Q n e h:=by
 intro hm FN m hok c hc a w hs;refine hw ?_ hm FN m hok c hc a w hs;obtain⟨F,φ,s⟩:=hs;rcases (s.env k _ hk).2.vec_inv with⟨rfl,_⟩|⟨x,cap,esz,cs,_,_,_,_,hmax,_⟩
 · exact Y0l _
 · exact hmax
theorem Zhe {op:AOp} {n:Nat} {p:PV} {h':Heap} {K:PV→Heap→Prop} (hn:isCall op=false) (hd:dEval op e h n=some (p,h') ∨ fEval op e h n=some (p,h')) (hk:K p h'):opK P op n e h K:=by
 have:∃ p h',(dEval op e h n=some (p,h') ∨ fEval op e h n=some (p,h'))∧K p h':=⟨p,h',hd,hk⟩
 cases op<;>first|exact this|(simp [isCall] at hn; done)|skip
 rcases hd with hd|hd
 · exact .inl ⟨p,h',hd,hk⟩
 · simp [fEval] at hd
theorem ZdN {neg:Bool} {x:Operand} {n:Nat} {K:PV→Heap→Prop} (hx:(∃ l fl,ev e x=some (.vec l fl)) ∨ ∃ k,ev e x=some (.own k)) (hk:∀ b,K (.val (.bool b)) h):opK P (.isnil neg x) n e h K:=.inr ⟨hx,hk⟩
theorem Zi5 {z:Rsv} {n:Nat} {K:Env→Heap→Prop} (hk:K e h):dK P z n [] e h K:=hk
theorem ZgT {z:Rsv} {n i mask:Nat} {d:Option Nat} {op:AOp} {iso:Nat} {alt:Bool} {xs:List DItem} {K:Env→Heap→Prop} {p:PV} {h':Heap} (hd:evalB alt op e h (n+i)=some (p,h')) (ha:accOk z op e n i mask iso=true) (hn:isCall op=false) (hk:dK P z n xs (updO e d p) h' K):dK P z n (⟨i,⟨d,op,none⟩,mask,iso,alt⟩ :: xs) e h K:=by
 obtain⟨f,rfl,h1,h2,h3⟩:=ZdG hd ha;refine⟨_,.det rfl hn p f ⟨h1,h2,h3⟩,?_⟩;rintro p' f' ⟨rfl,rfl⟩;exact hk
theorem Z2r {z:Rsv} {n i mask:Nat} {d:Option Nat} {f:Operand} {args:List Operand} {iso:Nat} {alt:Bool} {xs:List DItem} {K:Env→Heap→Prop} {g:FuncId} {caps as0 args':List PV} {R:PV→Prop} (hf:ev e f=some (.fn g caps)) (ha:evs e args=some as0) (hlo:LoL (as0++caps) args')
 (hs:Spec P g args' R) (hp:pureL args') (hk:∀ r,R r→dK P z n xs (updO e d r) h K):dK P z n (⟨i,⟨d,.call f args,none⟩,mask,iso,alt⟩ :: xs) e h K:=by
 refine⟨_,.call rfl f args rfl R ⟨g,caps,as0,hf,ha,.of hlo hp hs⟩,?_⟩;rintro p' f' ⟨hr,rfl⟩;exact hk p' hr
theorem ZfK {z:Rsv} {n i mask:Nat} {d:Option Nat} {f:Operand} {args:List Operand} {iso:Nat} {alt:Bool} {xs:List DItem} {K:Env→Heap→Prop} {g:FuncId} {caps as0 args':List PV} {mk:Nat→PV} {b:Bx} (hs:NSpec P g args' mk b) (hmk:Mk mk) (hpb:pureLL b.elems) (hf:ev e f=some (.fn g caps)) (ha:evs e args=some as0) (ha':as0++caps=args') (hp:pureL args')
 (hk:dK P z n xs (updO e d (mk (n+i))) (h.upd (n+i) b) K):dK P z n (⟨i,⟨d,.call f args,none⟩,mask,iso,alt⟩ :: xs) e h K:=by
 subst ha';refine⟨_,.callN rfl f args rfl none (fun _ _ h=>by cases h) mk b ⟨g,caps,as0,hf,ha,hs.nrun hmk hpb hp⟩,?_⟩;rintro p' f' ⟨rfl,rfl⟩;exact hk
theorem Z9Y {z:Rsv} {n i mask:Nat} {d:Nat} {zz:List Value} {bytes:Nat} {sx y:Operand} {iso:Nat} {xs:List DItem} {K:Env→Heap→Prop} {k:Nat} {b:Bx} {m:List (List PV)} {fl:Bool} (hs:ev e sx=some (.own k)) (hy:ev e y=some (.vec m fl)) (hb:h k=some b) (hm:∀ c∈m,c.length=zz.length) (he:b.esz=zz.length) (hby:(b.elems.length+m.length)*bytes≤140737488355328) (hp:pureLL (b.elems++m)) (h1:okId z n i mask k=true) (h2:okW z n i iso k=true)
 (hk:dK P z n xs (e.upd d (.vec (b.elems++m) false)) (h.del k) K):dK P z n (⟨i,⟨some d,.append zz bytes sx y,none⟩,mask,iso,true⟩ :: xs) e h K:=by
 refine⟨_,.detF rfl rfl d rfl zz bytes sx y rfl k b m fl hs hy hb ⟨hm,he,hby⟩ hp ⟨h1,h2⟩,?_⟩;rintro p' f' ⟨rfl,rfl⟩;exact hk
theorem Zbk {z:Rsv} {n:Nat} {x:DItem} {xs:List DItem} {K:Env→Heap→Prop} {s:Nat} {b c:Bool} (hg:x.o.guard=some (s,b)) (hs:e s=some (.val (.bool c))) (ht:c=b→dK P z n (⟨x.i,⟨x.o.dst,x.o.op,none⟩,x.mask,x.iso,x.alt⟩ :: xs) e h K) (hf:c≠b→dK P z n xs (updO e x.o.dst pvu) h K):dK P z n (x :: xs) e h K:=by
 have hw:wantB x.o.guard e=some (c == b):=by simp only [wantB,hg,hs]
 by_cases hcb:c=b
 · obtain ⟨T, hT, hK⟩ := ht hcb;have hw':wantB x.o.guard e=some true:=by rw [hw,hcb]; simp
   refine⟨T,?_,hK⟩;cases hT with
   | skip h=>cases h
   | call _ f args ho R hc=>exact .call hw' f args ho R hc
   | callP _ f args ho id hz b hb R hc=>exact .callP hw' f args ho id hz b hb R hc
   | callN _ f args ho rd hrd mk b hc=>exact .callN hw' f args ho rd hrd mk b hc
   | callD _ f args ho d hdst k hz b b' hb hc=>exact .callD hw' f args ho d hdst k hz b b' hb hc
   | detF _ ha d hd0 zz bytes sx y ho k b mm fl hsx hyx hbk hcond hpp hacc=>exact .detF hw' ha d hd0 zz bytes sx y ho k b mm fl hsx hyx hbk hcond hpp hacc
   | det _ hn p f hd=>exact .det hw' hn p f ⟨hd.eff,hd.touch,hd.run⟩
 · refine ⟨_, .skip (by rw [hw]; simp [hcb]), ?_⟩;rintro p' f' ⟨rfl,rfl⟩;exact hf hcb
end
end
section
open Go.RowKit
attribute [local irreducible] aw opsK dK
section
variable {P:Program} {C:Ctx} {e:Env} {h:Heap} {n:Nat} {K:Nat→Env→Heap→Prop} {os:List AOper} {d:Option Nat} {Q:Exit→Nat→Env→Heap→Prop}
def wantV (g:Option (Nat×Bool)) (e:Env):Option Bool :=
 match g with
 | none=>some true
 | some (s, b) => match e s with
   | some (.val (.bool c))=>some (c == b)
   | some (.val (.tuple _))=>some false
   | _=>none
theorem Zbl {g:Option (Nat×Bool)} {A B:Prop} {b:Bool} (h:wantV g e=some b) (hk:if b=true then A else B):wantK g e A B:=by
 unfold wantV at h;unfold wantK
 split at h
 · cases h; exact hk
 · split at h
   · rename_i c hc;cases h
     try simp only [hc]
     split
     · rename_i hcb; subst hcb; simpa using hk
     · rename_i hcb; simpa [hcb] using hk
   · rename_i c hc;cases h
     try simp only [hc]
     simpa using hk
   · cases h
theorem Z4u:SubA n e h n e h:=fun _ _ _ h=>h
theorem Zl {op:AOp} {g:Nat×Bool} (hw:wantV (some g) e=some true) (hk:opsK P (⟨d,op,none⟩ :: os) n e h K):opsK P (⟨d,op,some g⟩ :: os) n e h K:=by
 unfold opsK at hk ⊢;exact Zbl hw (by simpa [wantK] using hk)
theorem Zi {n':Nat} {e':Env} {h':Heap} (hs:SubA n e h n' e' h') {op:AOp} (hk:opsK P (⟨d,op,none⟩ :: os) n' e' h' K):opsK P (⟨d,op,none⟩ :: os) n e h K:=by
 unfold opsK at hk ⊢;simp only [wantK] at hk ⊢;obtain⟨n1,e1,h1,hs1,hk⟩:=hk;exact⟨n1,e1,h1,fun C a w hst=>hs1 C a w (hs C a w hst),hk⟩
theorem Z7O {op:AOp} {g:Nat×Bool} (hw:wantV (some g) e=some false) (hk:opsK P os n (updO e d pvu) h K):opsK P (⟨d,op,some g⟩ :: os) n e h K:=by
 unfold opsK;exact Zbl hw (by simpa using hk)
theorem opsK_of' {op:AOp} {p:PV} {h':Heap} (hd:dEval op e h n=some (p,h') ∨ fEval op e h n=some (p,h')) (hn:isCall op=false) (hk:opsK P os (bmp h' n) (updO e d p) h' K):opsK P (⟨d,op,none⟩ :: os) n e h K:=by
 unfold opsK;exact⟨n,e,h,Z4u,.inl (Zhe hn hd hk)⟩
theorem Z5J (hz:h n=none):bmp h n=n:=by simp [bmp,hz]
theorem Zbm {b:Bx} (hz:h n=some b):bmp h n=n+1:=by simp [bmp,hz]
theorem Z0 {op:AOp} {p:PV} {h':Heap} (hd:dEval op e h n=some (p,h')) (hn:isCall op=false) (hz:h' n=none) (hk:opsK P os n (updO e d p) h' K):opsK P (⟨d,op,none⟩ :: os) n e h K :=
 opsK_of' (.inl hd) hn (by rw [Z5J hz]; exact hk)
theorem ZD {op:AOp} {p:PV} {h':Heap} {b:Bx} (hd:dEval op e h n=some (p,h')) (hn:isCall op=false) (hz:h' n=some b) (hk:opsK P os (n+1) (updO e d p) h' K):opsK P (⟨d,op,none⟩ :: os) n e h K :=
 opsK_of' (.inl hd) hn (by rw [Zbm hz]; exact hk)
theorem Z4 {op:AOp} {p:PV} {h':Heap} (hd:fEval op e h n=some (p,h')) (hn:isCall op=false) (hz:h' n=none) (hk:opsK P os n (updO e d p) h' K):opsK P (⟨d,op,none⟩ :: os) n e h K :=
 opsK_of' (.inr hd) hn (by rw [Z5J hz]; exact hk)
theorem Z4a {op:AOp} {p:PV} {h':Heap} {b:Bx} (hd:fEval op e h n=some (p,h')) (hn:isCall op=false) (hz:h' n=some b) (hk:opsK P os (n+1) (updO e d p) h' K):opsK P (⟨d,op,none⟩ :: os) n e h K :=
 opsK_of' (.inr hd) hn (by rw [Zbm hz]; exact hk)
theorem Zt {op:AOp} {b:Bool} {h':Heap} (hd:dEval op e h n=some (.val (.bool b),h')) (hn:isCall op=false) (hz:h' n=none) (ht:b=true→opsK P os n (updO e d (.val (.bool true))) h' K) (hf:b=false→opsK P os n (updO e d (.val (.bool false))) h' K):opsK P (⟨d,op,none⟩ :: os) n e h K:=by
 cases b with
 | true=>exact Z0 hd hn hz (ht rfl)
 | false=>exact Z0 hd hn hz (hf rfl)
theorem ZH {f:Operand} {args:List Operand} {g:FuncId} {caps as0:List PV} {R:PV→Prop} (hf:ev e f=some (.fn g caps)) (ha:evs e args=some as0) (hs:Spec P g (as0++caps) R) (hp:pureL (as0++caps)) (hz:h n=none) (hk:∀ r,R r→opsK P os n (updO e d r) h K) :
 opsK P (⟨d,.call f args,none⟩ :: os) n e h K:=by
 unfold opsK;exact⟨n,e,h,Z4u,.inl ⟨g,caps,as0,R,hf,ha,.of (.inl rfl) hp hs,fun r hr=>by show opsK P os (bmp h n) (updO e d r) h K; rw [Z5J hz]; exact hk r hr⟩⟩
theorem Z6 {f:Operand} {args:List Operand} {g:FuncId} {caps as0 args':List PV} {v:PV} (hs:Spec P g args' (· = v)) (hf:ev e f=some (.fn g caps)) (ha:evs e args=some as0) (ha':as0++caps=args') (hp:pureL args') (hz:h n=none) (hk:opsK P os n (updO e d v) h K) :
 opsK P (⟨d,.call f args,none⟩ :: os) n e h K:=by
 subst ha';exact ZH hf ha hs hp hz fun _ hr=>hr▸hk
theorem Z2s {f:Operand} {args:List Operand} {g:FuncId} {caps as0:List PV} {R:Nat→PV→Heap→Prop} (hf:ev e f=some (.fn g caps)) (ha:evs e args=some as0)
 (hs:ISpec P g n (as0++caps) h R) (hk:∀ n' r h',R n' r h'→opsK P os n' (updO e d r) h' K):opsK P (⟨d,.call f args,none⟩ :: os) n e h K:=by
 unfold opsK;exact⟨n,e,h,Z4u,.inr ⟨f,args,g,caps,as0,R,rfl,hf,ha,hs,hk⟩⟩
theorem Z1m (hk:K n e h):opsK P [] n e h K:=by unfold opsK; exact hk
theorem Z77 {α:Type} {esz:Nat} {x i:Operand} {xs:List α} {g:α→List PV} {fl:Bool} {k:IntKind} {m:Int} (hx:ev e x=some (.vec (xs.map g) fl)) (hi:ev e i=some (.val (.int k m))) (j:Nat) (hm:m=(j:Int)) (hj:j<xs.length) (hl:(g xs[j]).length=esz)
 (hz:h n=none) (hk:opsK P os n (updO e d (.cp (g xs[j]))) h K):opsK P (⟨d,.iaddr esz x i,none⟩ :: os) n e h K:=by
 subst hm;have e1:(xs.map g).getD (j:Int).toNat []=g xs[j]:=by simp [Y0b,hj]
 refine Z0 (p:=.cp (g xs[j])) (h':=h) ?_ rfl hz hk;simp only [dEval,hx,hi,e1,hl];rw [if_pos ⟨by omega,by simp; omega⟩]; simp
theorem Z2B {x y:Operand} {k k':IntKind} {a b:Int} (hx:ev e x=some (.val (.int k a))) (hy:ev e y=some (.val (.int k' b))) (hb:0≤b) {v:Int} (hv:k.wrap (a*2 ^ (min b.toNat k.bits))=v) (hz:h n=none) (hk:opsK P os n (updO e d (.val (.int k v))) h K):opsK P (⟨d,.bin .shl .num x y,none⟩ :: os) n e h K :=
 Z0 (p:=.val (.int k v)) (h':=h) (by simp [dEval,hx,hy,pbin,sbin,hb,hv]) rfl hz hk
theorem Z2C {x y:Operand} {k k':IntKind} {a b:Int} (hx:ev e x=some (.val (.int k a))) (hy:ev e y=some (.val (.int k' b))) (hb:0≤b) {v:Int} (hv:a.fdiv (2 ^ (min b.toNat k.bits))=v) (hz:h n=none) (hk:opsK P os n (updO e d (.val (.int k v))) h K):opsK P (⟨d,.bin .shr .num x y,none⟩ :: os) n e h K :=
 Z0 (p:=.val (.int k v)) (h':=h) (by simp [dEval,hx,hy,pbin,sbin,hb,hv]) rfl hz hk
theorem Z8 {op:AOp} {k:IntKind} {a v:Int} {h':Heap} (hd:dEval op e h n=some (.val (.int k a),h')) (hn:isCall op=false) (hz:h' n=none) (hv:a=v) (hk:opsK P os n (updO e d (.val (.int k v))) h' K):opsK P (⟨d,op,none⟩ :: os) n e h K:=by
 subst hv; exact Z0 hd hn hz hk
theorem Z9Z {op:AOp} {a v:Bool} {h':Heap} (hd:dEval op e h n=some (.val (.bool a),h')) (hn:isCall op=false) (hz:h' n=none) (hv:a=v) (hk:opsK P os n (updO e d (.val (.bool v))) h' K):opsK P (⟨d,op,none⟩ :: os) n e h K:=by
 subst hv; exact Z0 hd hn hz hk
theorem ZfL {α:Type} {esz:Nat} {x:Operand} {lo hi:Option Operand} {xs:List α} {g:α→List PV} {fl:Bool} (hx:ev e x=some (.vec (xs.map g) fl)) (a b:Nat) (hlo:bndAt e 0 lo=some (a:Int)) (hhi:bndAt e ((xs.map g).length:Nat) hi=some (b:Int)) (hab:a≤b) (hb:b≤xs.length) (hg:∀ x,(g x).length=esz)
 (hz:h n=none) (hk:opsK P os n (updO e d (.vec (((xs.take b).drop a).map g) false)) h K):opsK P (⟨d,.slc esz x lo hi none,none⟩ :: os) n e h K:=by
 refine Z0 (p:=.vec (((xs.take b).drop a).map g) false) (h':=h) ?_ rfl hz hk;simp only [dEval,hx,hlo,hhi];have hall:∀ c∈xs.map g,c.length=esz:=fun c hc=>by obtain⟨y,_,rfl⟩:=Y0i.1 hc; exact hg y
 rw [if_pos ⟨⟨by omega,by omega,by simp; omega⟩,hall⟩];simp [List.map_drop,List.map_take]
theorem Zo {α:Type} {esz:Nat} {x i:Operand} {xs:List α} {g:α→List PV} {fl:Bool} {k:IntKind} {m:Int} (hx:ev e x=some (.vec (xs.map g) fl)) (hi:ev e i=some (.val (.int k m))) (j:Nat) (hm:m=(j:Int)) (hj:j<xs.length) (hl:(g xs[j]).length=esz) :
 dEval (.iaddr esz x i) e h n=some (.cp (g xs[j]),h):=by
 subst hm;have e1:(xs.map g).getD (j:Int).toNat []=g xs[j]:=by simp [Y0b,hj]
 simp only [dEval,hx,hi,e1,hl];rw [if_pos ⟨by omega,by simp; omega⟩]; simp
theorem ZL {esz:Nat} {x i:Operand} {id:Nat} {b:Bx} {k:IntKind} {m:Int} (hx:ev e x=some (.own id)) (hi:ev e i=some (.val (.int k m))) (hb:h id=some b) (j:Nat) (hm:m=(j:Int)) (hj:j<b.elems.length) (hl:b.esz=esz) :
 dEval (.iaddr esz x i) e h n=some (.ptr id j 0,h):=by
 subst hm;simp only [dEval,hx,hi,hb,hl];rw [if_pos ⟨by omega,by omega⟩]; simp
theorem ZdO {x y:Operand} {k k':IntKind} {a b:Int} (hx:ev e x=some (.val (.int k a))) (hy:ev e y=some (.val (.int k' b))) (hb:0≤b) {v:Int} (hv:k.wrap (a*2 ^ (min b.toNat k.bits))=v):dEval (.bin .shl .num x y) e h n=some (.val (.int k v),h):=by simp [dEval,hx,hy,pbin,sbin,hb,hv]
theorem ZY {op:AOp} {k:IntKind} {a v:Int} (hd:dEval op e h n=some (.val (.int k a),h)) (hv:a=v):dEval op e h n=some (.val (.int k v),h):=by subst hv; exact hd
theorem Z1 {op:AOp} {a v:Bool} (hd:dEval op e h n=some (.val (.bool a),h)) (hv:a=v):dEval op e h n=some (.val (.bool v),h):=by subst hv; exact hd
theorem Zbn {z:List Value} {bytes:Nat} {l c:Operand} {a b:Nat} (hl:intAt (ev e l)=some (a:Int)) (hc:intAt (ev e c)=some (b:Int)) (hab:a≤b) (hb:bytes*b≤281474976710656) :
 dEval (.mslice z bytes l c) e h n=some (.own n,h.upd n ⟨z.length,List.replicate a (zpv z)⟩):=by
 simp only [dEval,hl,hc];rw [if_pos ⟨by omega,by omega,by rw [← Int.natCast_mul]; omega⟩]; simp
theorem Z8M {α:Type} {esz:Nat} {x:Operand} {lo hi:Option Operand} {xs:List α} {g:α→List PV} {fl:Bool} (hx:ev e x=some (.vec (xs.map g) fl)) (a b:Nat) (hlo:bndAt e 0 lo=some (a:Int)) (hhi:bndAt e ((xs.map g).length:Nat) hi=some (b:Int)) (hab:a≤b) (hb:b≤xs.length) (hg:∀ x,(g x).length=esz) :
 dEval (.slc esz x lo hi none) e h n=some (.vec (((xs.take b).drop a).map g) false,h):=by
 simp only [dEval,hx,hlo,hhi];have hall:∀ c∈xs.map g,c.length=esz:=fun c hc=>by obtain⟨y,_,rfl⟩:=Y0i.1 hc; exact hg y
 rw [if_pos ⟨⟨by omega,by omega,by simp; omega⟩,hall⟩];simp [List.map_drop,List.map_take]
theorem Z2t {agg:Bool} {size:Nat} {a:Operand} {k i off:Nat} {b:Bx} {p:PV} (ha:ev e a=some (.ptr k i off)) (hb:h k=some b) (hi:i<b.elems.length) (hc:cutAt agg size off (b.elems.getD i [])=some p):dEval (.load agg size a) e h n=some (p,h):=by
 simp only [dEval,ha,hb,if_pos hi,hc]
theorem Z1R {size:Nat} {a v:Operand} {k i off:Nat} {b:Bx} {p:PV} (ha:ev e a=some (.ptr k i off)) (hv:ev e v=some p) (hb:h k=some b) (hf:p.flat=true) (hl:p.cells.length=size) (hi:i<b.elems.length) (ho:off+size≤b.esz) :
 dEval (.store size a v) e h n=some (pvu,h.upd k ⟨b.esz,b.elems.set i (setAt (b.elems.getD i []) off p.cells)⟩):=by
 subst hl;simp only [dEval,ha,hv,hb];rw [if_pos (by simp [hf,hi,ho])]
theorem ZB {z:List Value} {bytes:Nat} {s x:Operand} {k:Nat} {m:List (List PV)} {fl:Bool} {b:Bx} (hs:ev e s=some (.own k)) (hx:ev e x=some (.vec m fl)) (hb:h k=some b) (hm:∀ c∈m,c.length=z.length) (he:b.esz=z.length) (hby:(b.elems.length+m.length)*bytes≤140737488355328) :
 dEval (.append z bytes s x) e h n=some (.own n,(h.del k).upd n ⟨b.esz,b.elems++m⟩):=by
 simp only [dEval,hs,hx,hb];rw [if_pos ⟨hm,he,hby⟩]; rfl
theorem Zi6 {esz:Nat} {d s:Operand} {k:Nat} {m:List (List PV)} {fl:Bool} {b:Bx} (hd:ev e d=some (.own k)) (hs:ev e s=some (.vec m fl)) (hb:h k=some b) (hm:∀ c∈m,c.length=esz) (he:b.esz=esz) :
 dEval (.copy esz d s) e h n=some (.val (.int .i64 (min m.length b.elems.length:Nat)),h.upd k ⟨b.esz,m.take b.elems.length++b.elems.drop m.length⟩):=by
 simp only [dEval,hd,hs,hb];rw [if_pos ⟨hm,he⟩]
theorem ZdP {z:List Value} {bytes:Nat} {s x:Operand} {l m:List (List PV)} {fl:Bool} (hs:ev e s=some (.vec l true)) (hx:ev e x=some (.vec m fl)) (hl:∀ c∈l,c.length=z.length) (hm:∀ c∈m,c.length=z.length) (hby:(l.length+m.length)*bytes≤140737488355328) :
 fEval (.append z bytes s x) e h n=some (.vec (l++m) false,h):=by
 simp only [fEval,hs,hx];rw [if_pos ⟨hl,hm,hby⟩]
theorem Zv {k:Nat} (hk:e k=some (.vec [] true)) (esz:Nat) (hp:0<esz):SubA n e h (n+1) (e.upd k (.own n)) (h.upd n ⟨esz,[]⟩):=fun _=>Zcn hk esz hp
theorem Zq {k id:Nat} {b:Bx} (hk:e k=some (.own id)) (hb:h id=some b) (hp:pureLL b.elems):SubA n e h n (e.upd k (.vec b.elems false)) (h.del id):=fun _=>Z76 hk hb hp
theorem Z46 {k id:Nat} {esz:Nat} {l:List PV} (hk:e k=some (.ptr id 0 0)) (hb:h id=some ⟨esz,[l]⟩) (hp:pureL l):SubA n e h n (e.upd k (.cp l)) (h.del id):=fun _=>Z30 hk hb
theorem Ze {z:Rsv} {i mask:Nat} {op:AOp} {iso:Nat} {xs:List DItem} {K:Env→Heap→Prop} {p:PV} {h':Heap} (hd:dEval op e h (n+i)=some (p,h')) (ha:accOk z op e n i mask iso=true) (hn:isCall op=false) (hk:dK P z n xs (updO e d p) h' K):dK P z n (⟨i,⟨d,op,none⟩,mask,iso,false⟩ :: xs) e h K:=ZgT hd ha hn hk
theorem ZfM {z:Rsv} {i mask:Nat} {op:AOp} {iso:Nat} {xs:List DItem} {K:Env→Heap→Prop} {p:PV} {h':Heap} (hd:fEval op e h (n+i)=some (p,h')) (ha:accOk z op e n i mask iso=true) (hn:isCall op=false) (hk:dK P z n xs (updO e d p) h' K):dK P z n (⟨i,⟨d,op,none⟩,mask,iso,true⟩ :: xs) e h K:=ZgT hd ha hn hk
theorem Z7P {z:Rsv} {i mask:Nat} {op:AOp} {iso:Nat} {xs:List DItem} {K:Env→Heap→Prop} {b:Bool} {h':Heap} (hd:dEval op e h (n+i)=some (.val (.bool b),h')) (ha:accOk z op e n i mask iso=true) (hn:isCall op=false) (ht:b=true→dK P z n xs (updO e d (.val (.bool true))) h' K) (hf:b=false→dK P z n xs (updO e d (.val (.bool false))) h' K):dK P z n (⟨i,⟨d,op,none⟩,mask,iso,false⟩ :: xs) e h K:=by
 cases b with
 | true=>exact Ze hd ha hn (ht rfl)
 | false=>exact Ze hd ha hn (hf rfl)
theorem Z2J {z:Rsv} {i mask:Nat} {op:AOp} {iso:Nat} {alt:Bool} {g:Nat×Bool} {xs:List DItem} {K:Env→Heap→Prop} (hw:wantV (some g) e=some true) (hk:dK P z n (⟨i,⟨d,op,none⟩,mask,iso,alt⟩ :: xs) e h K):dK P z n (⟨i,⟨d,op,some g⟩,mask,iso,alt⟩ :: xs) e h K:=by
 obtain⟨s,b⟩:=g;unfold wantV at hw;simp only at hw
 split at hw
 · rename_i c hc;exact Zbk (x:=⟨i,⟨d,op,some (s,b)⟩,mask,iso,alt⟩) rfl hc (fun _=>hk) fun hne=>absurd (by simpa using hw) hne
 · cases hw
 · cases hw
theorem ZdQ {z:Rsv} {i mask:Nat} {op:AOp} {iso:Nat} {alt:Bool} {g:Nat×Bool} {xs:List DItem} {K:Env→Heap→Prop} (hw:∃ c,e g.1=some (.val (.bool c))∧c≠g.2) (hk:dK P z n xs (updO e d pvu) h K):dK P z n (⟨i,⟨d,op,some g⟩,mask,iso,alt⟩ :: xs) e h K:=by
 obtain⟨s,b⟩:=g;obtain⟨c,hc,hne⟩:=hw;exact Zbk (x:=⟨i,⟨d,op,some (s,b)⟩,mask,iso,alt⟩) rfl hc (fun h=>absurd h hne) fun _=>hk
theorem Zy {z:Rsv} {i mask:Nat} {f:Operand} {args:List Operand} {iso:Nat} {alt:Bool} {xs:List DItem} {K:Env→Heap→Prop} {g:FuncId} {caps as0 args':List PV} {v:PV} (hs:Spec P g args' (· = v)) (hf:ev e f=some (.fn g caps)) (ha:evs e args=some as0) (ha':as0++caps=args') (hp:pureL args') (hk:dK P z n xs (updO e d v) h K) :
 dK P z n (⟨i,⟨d,.call f args,none⟩,mask,iso,alt⟩ :: xs) e h K:=by
 subst ha';exact Z2r hf ha (.inl rfl) hs hp fun _ hr=>hr▸hk
theorem Z7Q {z:Rsv} {K:Env→Heap→Prop} (hk:K e h):dK P z n [] e h K:=Zi5 hk
theorem Z7R {c:Operand} {x y:ACode} (hc:ev e c=some (.val (.bool true))) (hk:aw P C x Q n e h):aw P C (.cond c x y) Q n e h:=Z3m hc (fun _=>hk) fun h=>by cases h
theorem Z7S {c:Operand} {x y:ACode} (hc:ev e c=some (.val (.bool false))) (hk:aw P C y Q n e h):aw P C (.cond c x y) Q n e h:=Z3m hc (fun h=>by cases h) fun _=>hk
theorem Z5 {rs:List ARes} {R:PV→Prop} {r:PV} (hr:retAll rs e h=some r) (hp:r.pure) (hR:R r):∃ r0 r,retAll rs e h=some r0∧LoP r0 r∧r.pure∧R r:=⟨r,r,hr,.inl rfl,hp,hR⟩
theorem Z1y {rs:List ARes} {R:PV→Prop} {r:PV} (hr:retAll rs e h=some r) (hp:r.low.pure) (hR:R r.low):∃ r0 r,retAll rs e h=some r0∧LoP r0 r∧r.pure∧R r:=⟨r,r.low,hr,.inr rfl,hp,hR⟩
def EnvIn (e:Env):List (Nat×PV)→Prop
 | []=>True
 | (k,p) :: r=>e k=some p∧EnvIn e r
theorem EnvIn.some {L:List (Nat×PV)} (he:EnvIn e L) {k:Nat} {p:PV} (hk:envL L k=some p):e k=some p:=by
 induction L with
 | nil=>cases hk
 | cons q r ih =>
   obtain⟨k',p'⟩:=q;obtain⟨h1,h2⟩:=he;simp only [envL] at hk;by_cases hkk:k=k'
   · subst hkk; rw [Env.upd_same] at hk; cases hk; exact h1
   · rw [Env.upd_ne _ _ hkk] at hk; exact ih h2 hk
theorem Za0 {L:List (Nat×PV)} (he:EnvIn e L):Sub C n e h n (envL L) h:=by
 rintro a w ⟨F,φ,s⟩;exact⟨F,φ,{ s with env:=fun k p hk=>s.env k p (he.some hk) }⟩
theorem ZfN {h':Heap} (hh:∀ i b,h' i=some b→h i=some b):Sub C n e h n e h':=by
 rintro a w ⟨F,φ,s⟩;exact⟨F,φ,{ s with live:=fun i b hb=>s.live i b (hh i b hb),sep:=fun i j bi bj li lj k hi hj=>s.sep i j bi bj li lj k (hh _ _ hi) (hh _ _ hj) }⟩
theorem Z31 {X:Type} (I:X→Prop) (μ:X→Nat) (L:X→List (Nat×PV)) {body:ACode} (x0:X) (h0:I x0) (hL:EnvIn e (L x0))
 (round:∀ x,I x→aw P C body (thenQ (fun n' e' h'=>∃ x',I x'∧μ x'<μ x∧n'=n∧h'=h∧EnvIn e' (L x')) Q) n (envL (L x)) h):aw P C (.loop body) Q n e h :=
 Z7L I μ (fun _=>n) (fun x=>envL (L x)) (fun _=>h) x0 h0 (Za0 hL) fun x hx=>Z54 (round x hx) fun ex n e h hq=>by
  cases ex with
  | normal=>obtain⟨x',h1,h2,rfl,rfl,h4⟩:=hq; exact⟨x',h1,h2,Za0 h4⟩
  | _=>exact hq
def EnvR (e:Env) (m:Nat):List (Nat×PV)→Prop
 | []=>True
 | (k,p) :: r=>(e k=some p∧p.inn (· < m))∧EnvR e m r
def HeapR (h:Heap) (m:Nat):List (Nat×Bx)→Prop
 | []=>True
 | (k,b) :: r=>(k<m∧h k=some b∧innLL (· < m) b.elems)∧HeapR h m r
theorem EnvR.some {m:Nat} {L:List (Nat×PV)} (he:EnvR e m L) {k:Nat} {p:PV} (hk:envL L k=some p):e k=some p∧p.inn (· < m):=by
 induction L with
 | nil=>cases hk
 | cons q r ih =>
   obtain⟨k',p'⟩:=q;obtain⟨h1,h2⟩:=he;simp only [envL] at hk;by_cases hkk:k=k'
   · subst hkk; rw [Env.upd_same] at hk; cases hk; exact h1
   · rw [Env.upd_ne _ _ hkk] at hk; exact ih h2 hk
theorem HeapR.some {m:Nat} {L:List (Nat×Bx)} (he:HeapR h m L) {k:Nat} {p:Bx} (hk:heapL L k=some p):k<m∧h k=some p∧innLL (· < m) p.elems:=by
 induction L with
 | nil=>cases hk
 | cons q r ih =>
   obtain⟨k',p'⟩:=q;obtain⟨h1,h2⟩:=he;simp only [heapL] at hk;by_cases hkk:k=k'
   · subst hkk; rw [Heap.upd_same] at hk; cases hk; exact h1
   · rw [Heap.upd_ne _ _ hkk] at hk; exact ih h2 hk
theorem Z4v {m n':Nat} (hdom:C.dom m) (hm:m≤n') {L:List (Nat×PV)} {HL:List (Nat×Bx)} (he:EnvR e n' L) (hh:HeapR h n' HL):Sub C n e h n' (envL L) (heapL HL):=by
 rintro a w ⟨F,φ,s⟩
 let φ':Locs:=fun i=>if i<n' then φ i else none
 have hφ:∀ i x,i<n'→φ i=some x→φ' i=some x:=fun i x hi hx=>by simp only [φ',hi,if_true]; exact hx
 refine⟨F,φ',{ nt:=s.nt,glob:=s.glob,marks:=s.marks,loc0:=fun i x hx=>?_,free:=fun i hi=>?_,env:=fun k p hp=>?_,froz:=s.froz,ext:=s.ext,old:=s.old,os:=s.os,tape:=s.tape,output:=s.output,size:=s.size,kept:=s.kept,live:=fun i b hb=>?_,sep:=?_ }⟩
 · have : ¬ i < n' := by omega
   simp only [φ',this,if_false]
 · obtain ⟨h0, hr⟩ := he.some hp;exact⟨(s.env k p h0).1,(s.env k p h0).2.inn hφ hr⟩
 · by_cases him : i < m
   · exact hφ i x (by omega) (s.loc0 i x hx)
   · rw [hdom i (by omega)] at hx; cases hx
 · obtain ⟨hi, h0, hr⟩ := hh.some hb;obtain⟨loc,h1,h2,h3⟩:=s.live _ b h0;exact⟨loc,hφ i loc hi h1,h2.inn hφ hr,h3⟩
 · intro i j bi bj li lj k hi hj hli hlj hki hkj;obtain⟨hin,h0,_⟩:=hh.some hi;obtain⟨hjn,g0,_⟩:=hh.some hj;have hli':φ i=some li:=by simpa only [φ',show i<n' from hin,if_true] using hli
   have hlj':φ j=some lj:=by simpa only [φ',show j<n' from hjn,if_true] using hlj
   exact s.sep _ _ bi bj li lj k h0 g0 hli' hlj' hki hkj
theorem Zn {X:Type} {m:Nat} (hdom:C.dom m) (I:X→Prop) (μ:X→Nat) (N:Nat) (L:X→List (Nat×PV)) (HL:X→List (Nat×Bx)) {body:ACode} (hm:m≤N) (x0:X) (h0:I x0) (hL:EnvR e N (L x0)) (hH:HeapR h N (HL x0))
 (round:∀ x,I x→aw P C body (thenQ (fun n' e' h'=>∃ x',I x'∧μ x'<μ x∧EnvR e' N (L x')∧HeapR h' N (HL x')) Q) N (envL (L x)) (heapL (HL x))):aw P C (.loop body) Q n e h :=
 Z7L I μ (fun _=>N) (fun x=>envL (L x)) (fun x=>heapL (HL x)) x0 h0 (Z4v hdom hm hL hH) fun x hx=>Z54 (round x hx) fun ex n e h hq=>by
  cases ex with
  | normal=>obtain⟨x',h1,h2,h3,h4⟩:=hq; exact⟨x',h1,h2,Z4v hdom hm h3 h4⟩
  | _=>exact hq
def EnvQ (ρ:Nat→Nat) (e:Env) (m:Nat):List (Nat×PV)→Prop
 | []=>True
 | (k,p) :: r=>(∃ p0,e k=some p0∧RenP ρ (· < m) p0 p)∧EnvQ ρ e m r
def HeapQ (ρ:Nat→Nat) (h:Heap) (m:Nat):List (Nat×Bx)→Prop
 | []=>True
 | (k,b) :: r=>(k<m∧∃ b0,h (ρ k)=some b0∧RenB ρ (· < m) b0 b)∧HeapQ ρ h m r
theorem EnvQ.mem {ρ:Nat→Nat} {m:Nat}:∀ {L:List (Nat×PV)},EnvQ ρ e m L→∀ q∈L,∃ p0,e q.1=some p0∧RenP ρ (· < m) p0 q.2
 | [],_,q,hq=>by cases hq
 | (k, p) :: r, h, q, hq => by
   rcases List.mem_cons.1 hq with rfl|hq
   · exact h.1
   · exact EnvQ.mem h.2 q hq
theorem HeapQ.mem {ρ:Nat→Nat} {m:Nat}:∀ {L:List (Nat×Bx)},HeapQ ρ h m L→∀ q∈L,q.1<m∧∃ b0,h (ρ q.1)=some b0∧RenB ρ (· < m) b0 q.2
 | [],_,q,hq=>by cases hq
 | (k, p) :: r, h, q, hq => by
   rcases List.mem_cons.1 hq with rfl|hq
   · exact h.1
   · exact HeapQ.mem h.2 q hq
def InjOn (ρ:Nat→Nat) (HL:List (Nat×Bx)):Prop:=∀ q∈HL,∀ q'∈HL,ρ q.1=ρ q'.1→q.1=q'.1
theorem ZJ {X:Type} {m:Nat} (hdom:C.dom m) (I:X→Prop) (μ:X→Nat) (N:Nat) (L:X→List (Nat×PV)) (HL:X→List (Nat×Bx)) {body:ACode} (hm:m≤N) (x0:X) (h0:I x0) (ρ0:Nat→Nat) (hρ0:∀ i,i<m→ρ0 i=i) (hi0:InjOn ρ0 (HL x0)) (hL:EnvQ ρ0 e N (L x0)) (hH:HeapQ ρ0 h N (HL x0))
 (round:∀ x,I x→aw P C body (thenQ (fun n' e' h'=>∃ x' ρ,I x'∧μ x'<μ x∧(∀ i,i<m→ρ i=i)∧InjOn ρ (HL x')∧EnvQ ρ e' N (L x')∧HeapQ ρ h' N (HL x')) Q) N (envL (L x)) (heapL (HL x))):aw P C (.loop body) Q n e h :=
 Z7L I μ (fun _=>N) (fun x=>envL (L x)) (fun x=>heapL (HL x)) x0 h0 (Z9X ρ0 hL.mem hH.mem hi0 hdom hm hρ0) fun x hx=>Z54 (round x hx) fun ex n e h hq=>by
  cases ex with
  | normal=>obtain⟨x',ρ,h1,h2,h3,h4,h5,h6⟩:=hq; exact⟨x',h1,h2,Z9X ρ h5.mem h6.mem h4 hdom hm h3⟩
  | _=>exact hq
theorem Z7T {m n':Nat} (hdom:C.dom m) (L:List (Nat×PV)) (HL:List (Nat×Bx)) (hm:m≤n') (he:EnvR e n' L) (hh:HeapR h n' HL) {ac:ACode} (hk:aw P C ac Q n' (envL L) (heapL HL)):aw P C ac Q n e h:=Z22 (Z4v hdom hm he hh) hk
theorem ZgU {m:Nat} (hdom:C.dom m) (A:Prop) (N:Nat) (L:List (Nat×PV)) (HL:List (Nat×Bx)) {x y:ACode} (hm:m≤N) (h1:aw P C x (thenQ (fun n e h=>A∧EnvR e N L∧HeapR h N HL) Q) n e h) (h2:A→aw P C y Q N (envL L) (heapL HL)):aw P C (.seq x y) Q n e h :=
 Zs (Z54 h1 fun ex n e h hq=>by
  cases ex with
  | normal=>obtain⟨ha,he,hh⟩:=hq; exact Z7T hdom L HL hm he hh (h2 ha)
  | _=>exact hq)
def roundsQ (P:Program) (C:Ctx) (body:ACode) (Q:Exit→Nat→Env→Heap→Prop):Nat→Nat→Env→Heap→Prop
 | 0=>fun n e h=>aw P C body (thenQ (fun _ _ _=>False) Q) n e h
 | m+1=>fun n e h=>aw P C body (thenQ (roundsQ P C body Q m) Q) n e h
theorem Z4w {body:ACode}:∀ (m:Nat) {n:Nat} {e:Env} {h:Heap},roundsQ P C body Q m n e h→P.follows .mixedOrders=true→∀ (FN:Fence) (k:Nat),FenceOk FN k∧LoopOk FN C→∀ c,cCode P C.nt c=some body→∀ a w,St C (fun i=>n≤i) e h a w→Code.roundsIn FN k P c (PostA C Q) (m+1) a w
 | 0, n, e, h, hk, hm, FN, k, hok, c, hc, a, w, hs => by
   unfold roundsQ at hk;unfold aw at hk;refine wpIn_mono (hk hm FN k hok c hc a w hs) fun x a w hp=>?_;obtain⟨n,e,h,hQ,hS⟩:=hp;cases x with
   | normal=>exact hQ.elim
   | _=>exact⟨n,e,h,hQ,hS⟩
 | m + 1, n, e, h, hk, hm, FN, k, hok, c, hc, a, w, hs => by
   unfold roundsQ at hk;unfold aw at hk;refine wpIn_mono (hk hm FN k hok c hc a w hs) fun x a w hp=>?_;obtain⟨n,e,h,hQ,hS⟩:=hp;cases x with
   | normal=>exact Z4w m hQ hm FN k hok c hc a w hS
   | _=>exact⟨n,e,h,hQ,hS⟩
theorem Z23 {body:ACode} (m:Nat) (hk:roundsQ P C body Q m n e h):aw P C (.loop body) Q n e h:=by
 unfold aw;intro hm FN k hok c hc a w hs;have:∃ c1,c=.loop c1∧cCode P C.nt c1=some body:=by
  unfold cCode at hc
  split at hc<;>first
   | (split at hc<;>first|(simp at hc; subst hc; exact⟨_,rfl,by assumption⟩)|(simp at hc; done)|((repeat' (split at hc))<;>simp at hc; done))
   | (simp at hc; done)
 obtain⟨c1,rfl,h1⟩:=this;exact wpIn_loop_rounds (m+1) (Z4w m hk hm FN k hok c1 h1 a w hs)
end
end
section
open Go.RowKit
structure Br (b:Bool) (p q:Prop):Prop where
 yes:b=true→p
 no:b=false→q
theorem B {b:Bool} {p q:Prop} (h1:b=true→p) (h2:b=false→q):Br b p q:=⟨h1,h2⟩
def PV.isB:PV→Bool
 | .val (.bool _)=>true
 | _=>false
section
variable {P:Program} {C:Ctx} {n:Nat} {e:Env} {h:Heap} {Q:Exit→Nat→Env→Heap→Prop} {os:List AOper} {d:Option Nat} {K:Nat→Env→Heap→Prop} {z:Rsv} {KD:Env→Heap→Prop} {q1 q2:Prop}
theorem Za1 {op:AOp} {p:PV} {h':Heap} (hd:dEval op e h n=some (p,h')) (hb:p.isB=false) (hn:isCall op=false) (hz:h' n=none) (hk:opsK P os n (updO e d p) h' K):opsK P (⟨d,op,none⟩ :: os) n e h K:=Z0 hd hn hz hk
theorem ZdR {op:AOp} {b:Bool} {h':Heap} (hd:dEval op e h n=some (.val (.bool b),h')) (hn:isCall op=false) (hz:h' n=none) (h1:q1→opsK P os n (updO e d (.val (.bool true))) h' K) (h2:q2→opsK P os n (updO e d (.val (.bool false))) h' K)   : Br b q1 q2→opsK P (⟨d,op,none⟩ :: os) n e h K :=
 fun hq=>Zt hd hn hz (fun hb=>h1 (hq.yes hb)) fun hb=>h2 (hq.no hb)
theorem Z3N {op:AOp} {h':Heap} (v:Bool) (hd:dEval op e h n=some (.val (.bool v),h')) (hn:isCall op=false) (hz:h' n=none) (hk:opsK P os n (updO e d (.val (.bool v))) h' K):opsK P (⟨d,op,none⟩ :: os) n e h K:=Z0 hd hn hz hk
theorem Zhf {i mask:Nat} {op:AOp} {iso:Nat} {xs:List DItem} {p:PV} {h':Heap} (hd:dEval op e h (n+i)=some (p,h')) (hb:p.isB=false) (ha:accOk z op e n i mask iso=true) (hn:isCall op=false) (hk:dK P z n xs (updO e d p) h' KD):dK P z n (⟨i,⟨d,op,none⟩,mask,iso,false⟩ :: xs) e h KD:=Ze hd ha hn hk
theorem Z78 {i mask:Nat} {op:AOp} {iso:Nat} {xs:List DItem} {h':Heap} (v:Bool) (hd:dEval op e h (n+i)=some (.val (.bool v),h')) (ha:accOk z op e n i mask iso=true) (hn:isCall op=false) (hk:dK P z n xs (updO e d (.val (.bool v))) h' KD):dK P z n (⟨i,⟨d,op,none⟩,mask,iso,false⟩ :: xs) e h KD:=Ze hd ha hn hk
theorem Zi7 {i mask:Nat} {op:AOp} {iso:Nat} {xs:List DItem} {b:Bool} {h':Heap} (hd:dEval op e h (n+i)=some (.val (.bool b),h')) (ha:accOk z op e n i mask iso=true) (hn:isCall op=false) (h1:q1→dK P z n xs (updO e d (.val (.bool true))) h' KD) (h2:q2→dK P z n xs (updO e d (.val (.bool false))) h' KD)   : Br b q1 q2→dK P z n (⟨i,⟨d,op,none⟩,mask,iso,false⟩ :: xs) e h KD :=
 fun hq=>Z7P hd ha hn (fun hb=>h1 (hq.yes hb)) fun hb=>h2 (hq.no hb)
theorem Zi8 {c:Operand} {x y:ACode} {b:Bool} (hc:ev e c=some (.val (.bool b))) (h1:q1→aw P C x Q n e h) (h2:q2→aw P C y Q n e h)   : Br b q1 q2→aw P C (.cond c x y) Q n e h:=fun hq=>Z3m hc (fun hb=>h1 (hq.yes hb)) fun hb=>h2 (hq.no hb)
end
theorem go {p q:Prop} (hk:q) (hr:q→p:=by
 intro hq
 repeat' (first
  | (show opsK _ _ _ _ _ _; first|refine Za1 rfl rfl rfl rfl ?_|refine Z1m ?_|refine Zl rfl ?_|refine Z7O rfl ?_|refine Z3N true rfl rfl rfl ?_|refine Z3N false rfl rfl rfl ?_|(revert hq; refine' ZdR rfl rfl rfl _ _<;>first|intro hq|skip)|refine ZD rfl rfl rfl ?_)
  | (show aw _ _ _ _ _ _ _; first|refine Zs ?_|refine Zc ?_|refine Z60 [] ?_|refine Z7R rfl ?_|refine Z7S rfl ?_|(revert hq; refine' Zi8 rfl _ _<;>first|intro hq|skip)|refine Z7K ?_|refine Z9V ?_|refine Z9W ?_|refine ZdL ?_)
  | (show dK _ _ _ _ _ _ _; first|refine Zhf rfl rfl rfl rfl ?_|refine Z7Q ?_|refine Z2J rfl ?_|refine ZdQ ⟨_,rfl,nofun⟩ ?_|refine Z78 true rfl rfl rfl ?_|refine Z78 false rfl rfl rfl ?_|(revert hq; refine' Zi7 rfl rfl rfl _ _<;>first|intro hq|skip)))
 all_goals first|exact hq|skip):p:=hr hk
theorem st {p q:Prop} (hk:q) (hr:q→p:=by
 intro hq
 (first
   | (show opsK _ _ _ _ _ _; first|refine Za1 rfl rfl rfl rfl ?_|refine Z1m ?_|refine Zl rfl ?_|refine Z7O rfl ?_|refine Z3N true rfl rfl rfl ?_|refine Z3N false rfl rfl rfl ?_|(revert hq; refine' ZdR rfl rfl rfl _ _<;>first|intro hq|skip)|refine ZD rfl rfl rfl ?_)
   | (show aw _ _ _ _ _ _ _; first|refine Zs ?_|refine Zc ?_|refine Z60 [] ?_|refine Z7R rfl ?_|refine Z7S rfl ?_|(revert hq; refine' Zi8 rfl _ _<;>first|intro hq|skip)|refine Z7K ?_|refine Z9V ?_|refine Z9W ?_|refine ZdL ?_)
   | (show dK _ _ _ _ _ _ _; first|refine Zhf rfl rfl rfl rfl ?_|refine Z7Q ?_|refine Z2J rfl ?_|refine ZdQ ⟨_,rfl,nofun⟩ ?_|refine Z78 true rfl rfl rfl ?_|refine Z78 false rfl rfl rfl ?_|(revert hq; refine' Zi7 rfl rfl rfl _ _<;>first|intro hq|skip)))
 all_goals first|exact hq|skip):p:=hr hk
structure At (p:Prop):Prop where
 h:p
theorem Zj {P:Program} (k:Nat) {op:AOp} {g:Option (Nat×Bool)} {os:List AOper} {n:Nat} {e:Env} {h:Heap} {K:Nat→Env→Heap→Prop} (hk:At (opsK P (⟨some k,op,g⟩ :: os) n e h K)):opsK P (⟨some k,op,g⟩ :: os) n e h K:=hk.h
theorem Zb {P:Program} (k:Nat) {z:Rsv} {i mask iso:Nat} {alt:Bool} {op:AOp} {g:Option (Nat×Bool)} {xs:List DItem} {n:Nat} {e:Env} {h:Heap} {K:Env→Heap→Prop} (hk:At (dK P z n (⟨i,⟨some k,op,g⟩,mask,iso,alt⟩ :: xs) e h K)):dK P z n (⟨i,⟨some k,op,g⟩,mask,iso,alt⟩ :: xs) e h K:=hk.h
structure AtK (k:Nat) (p:Prop):Prop where
 h:p
theorem Zj6 {P:Program} {k:Nat} {op:AOp} {g:Option (Nat×Bool)} {os:List AOper} {n:Nat} {e:Env} {h:Heap} {K:Nat→Env→Heap→Prop} (hk:AtK k (opsK P (⟨some k,op,g⟩ :: os) n e h K)):opsK P (⟨some k,op,g⟩ :: os) n e h K:=hk.h
theorem ZiM {P:Program} {k:Nat} {z:Rsv} {i mask iso:Nat} {alt:Bool} {op:AOp} {g:Option (Nat×Bool)} {xs:List DItem} {n:Nat} {e:Env} {h:Heap} {K:Env→Heap→Prop} (hk:AtK k (dK P z n (⟨i,⟨some k,op,g⟩,mask,iso,alt⟩ :: xs) e h K)):dK P z n (⟨i,⟨some k,op,g⟩,mask,iso,alt⟩ :: xs) e h K:=hk.h
theorem gd (k:Nat) {p q:Prop} (hk:AtK k q) (hr:AtK k q→p:=by
 intro hq
 repeat' (first
  | exact Zj6 hq
  | exact ZiM hq
  | (show opsK _ _ _ _ _ _; first|refine Za1 rfl rfl rfl rfl ?_|refine Z1m ?_|refine Zl rfl ?_|refine Z7O rfl ?_|refine Z3N true rfl rfl rfl ?_|refine Z3N false rfl rfl rfl ?_|refine ZD rfl rfl rfl ?_)
  | (show aw _ _ _ _ _ _ _; first|refine Zs ?_|refine Zc ?_|refine Z60 [] ?_|refine Z7R rfl ?_|refine Z7S rfl ?_|refine Z7K ?_|refine Z9V ?_|refine Z9W ?_|refine ZdL ?_)
  | (show dK _ _ _ _ _ _ _; first|refine Zhf rfl rfl rfl rfl ?_|refine Z7Q ?_|refine Z2J rfl ?_|refine ZdQ ⟨_,rfl,nofun⟩ ?_|refine Z78 true rfl rfl rfl ?_|refine Z78 false rfl rfl rfl ?_))
 done):p:=hr hk
end
section
open Go.RowKit Go.ChangeShapes
def cellF (w:World):Froz:=fun x=>match x.spot with
 | none => match w.cell? x with
   | some v=>if v.oneCell' then some v else none
   | none=>none
 | some _=>none
def GlobsIn (w:World):Prop:=∀ (g j:Nat) (v:Value),(globs g)[j]?=some v→w.cell? ⟨g,j,none⟩=some v
theorem Za2 {w:World} (hgl:GlobsIn w):Holds (cellF w) w:=by
 refine⟨?_,fun g j v hv=>by
  have h1:=hgl g j v hv;have h2:=Zdn g j v hv
  simp [cellF,h1,h2]⟩
 intro x v hx;unfold cellF at hx
 split at hx
 · rename_i hs
   split at hx
   · rename_i u hu
     split at hx
     · rename_i h1;cases hx;exact⟨hs,h1,hu⟩
     · cases hx
   · cases hx
 · cases hx
theorem ZfO {w:World} {b o:Nat} {v:Value} (hc:w.cell? ⟨b,o,none⟩=some v) (h1:v.oneCell'=true):cellF w ⟨b,o,none⟩=some v:=by
 simp [cellF,hc,h1]
def Shape (P:Program):Nat→TypeId→List PV→Prop
 | 0,_,_=>False
 | n + 1, t, ps => match P.underlying t with
   | some .bool=>∃ b,ps = [.val (.bool b)]
   | some (.int k)=>∃ m,(Lit.int k m).wf=true∧ps = [.val (.int k m)]
   | some .string=>∃ s,s.size≤maxVec∧ps = [.val (.string s)]
   | some (.pointer e)=>ps = [.val (.pointer none)] ∨ ∃ l,Shape P n e l∧ps = [.cp l]
   | some (.slice e)=>∃ ll fl,ll.length≤maxVec∧(∀ l∈ll,Shape P n e l)∧ps = [.vec ll fl]
   | some (.struct fs)=>ps.length=P.cellsOf t∧∀ f∈fs.toList,Shape P n f.type ((ps.drop f.offset).take (P.cellsOf f.type))
   | some (.array m e)=>ps.length=P.cellsOf t∧∀ i,i<m→Shape P n e ((ps.drop (i*P.cellsOf e)).take (P.cellsOf e))
   | _=>∃ v,ps = [.val v]
theorem mapM_some' {α β:Type} {f:α→Option β}:∀ {l:List α} {ys:List β},l.mapM f=some ys→ys.length=l.length∧∀ i (h:i<l.length) (h':i<ys.length),f l[i]=some ys[i]
 | [], ys, h => by
   obtain rfl : []=ys:=by simpa using h
   exact⟨rfl,fun i hi=>absurd hi (Nat.not_lt_zero _)⟩
 | a :: l, ys, h => by
   rw [List.mapM_cons] at h;cases ha:f a with
   | none=>simp [ha] at h
   | some b =>
     cases hl:l.mapM f with
     | none=>simp [ha,hl] at h
     | some bs =>
       obtain rfl:b :: bs=ys:=by simpa [ha,hl] using h
       obtain⟨h1,h2⟩:=mapM_some' hl;refine⟨by simp [h1],fun i hi hi'=>?_⟩;cases i with
       | zero=>simpa using ha
       | succ i=>simpa using h2 i (by simpa using hi) (by simpa using hi')
theorem cells?_some {w:World} {a:Addr} {n:Nat} {cs:List Value} (h:w.cells? 0 a n=some cs):cs.length=n∧∀ j,(hj:j<cs.length)→w.cell? (a.add j)=some cs[j]:=by
 unfold World.cells? at h;rw [if_pos (Y0l _)] at h;obtain⟨h1,h2⟩:=mapM_some' h;have hn:cs.length=n:=by simpa using h1
 refine⟨hn,fun j hj=>?_⟩;have:=h2 j (by simp;omega) hj;simpa using this
structure CellsR (w:World) (cs:List Value) (ps:List PV):Prop where
 len:cs.length=ps.length
 one:∀ j,j<ps.length→(cs.getD j undef).oneCell'=true
 rep:∀ j,j<ps.length→Rep (cellF w) noLoc (cs.getD j undef) (ps.getD j pvu)
 pure:pureL ps
theorem CellsR.single {w:World} {v:Value} {p:PV} (h1:v.oneCell'=true) (hr:Rep (cellF w) noLoc v p) (hp:p.pure):CellsR w [v] [p] :=
 ⟨rfl, fun j hj => by obtain rfl : j = 0 := by simpa using hj
                      exact h1, fun j hj => by obtain rfl : j = 0 := by simpa using hj
                                               exact hr,hp,Yt⟩
theorem CellsR.nil {w:World}:CellsR w [] []:=⟨rfl,fun j hj=>absurd hj (Nat.not_lt_zero _),fun j hj=>absurd hj (Nat.not_lt_zero _),Yt⟩
theorem CellsR.append {w:World} {cs cs':List Value} {ps ps':List PV} (h:CellsR w cs ps) (h':CellsR w cs' ps'):CellsR w (cs++cs') (ps++ps'):=by
 refine⟨by simp [h.len,h'.len],fun j hj=>?_,fun j hj=>?_,(Z1b _ _).2 fun p hp=>?_⟩
 · by_cases hl : j < ps.length
   · have := h.one j hl;simpa [Y0b,List.getElem?_append,h.len,hl] using this
   · have := h'.one (j - ps.length) (by simp at hj; omega);simpa [Y0b,List.getElem?_append,h.len,hl] using this
 · by_cases hl : j < ps.length
   · have := h.rep j hl;simpa [Y0b,List.getElem?_append,h.len,hl] using this
   · have := h'.rep (j - ps.length) (by simp at hj; omega);simpa [Y0b,List.getElem?_append,h.len,hl] using this
 · rcases Y0h.1 hp with hp | hp
   · exact (Z1b _ _).1 h.pure p hp
   · exact (Z1b _ _).1 h'.pure p hp
def tile (P:Program) (off:Nat) (total:Nat):List Field→Bool
 | []=>off == total
 | f :: r=>f.offset == off&&tile P (off+P.cellsOf f.type) total r
def tilesT (P:Program) (G:List TypeId) (t:TypeId):Bool:=match P.underlying t with
 | some (.struct fs)=>tile P 0 (P.cellsOf t) fs.toList&&fs.toList.all fun f=>G.contains f.type
 | some (.array m e)=>P.cellsOf t == m*P.cellsOf e&&G.contains e
 | some (.slice e)=>decide (0<P.bytesOf e)&&decide (0<P.cellsOf e)&&G.contains e
 | some (.pointer e)=>decide (0<P.cellsOf e)&&G.contains e
 | _=>true
def tilesB (P:Program) (G:List TypeId):Bool:=G.all (tilesT P G)
theorem ZdS {P:Program} {G:List TypeId} (h:tilesB P G=true) {t:TypeId} (ht:G.contains t=true):tilesT P G t=true:=List.all_eq_true.1 h t (by simpa using ht)
def partsG (P:Program) (ts:List TypeId):List TypeId:=ts.flatMap P.book
theorem Z5s {P:Program} {w:World} {S:TypeId→List PV→Prop} {cs:List Value}:∀ {fs:List Field} {off total:Nat},tile P off total fs=true→cs.length=total →
 (∀ f∈fs,∃ ps,S f.type ps∧CellsR w ((cs.drop f.offset).take (P.cellsOf f.type)) ps)→off≤total∧∃ ps,CellsR w (cs.drop off) ps∧∀ f∈fs,off≤f.offset∧S f.type ((ps.drop (f.offset-off)).take (P.cellsOf f.type))
 | [], off, total, ht, hl, _ => by
   obtain rfl:off=total:=by simpa [tile] using ht
   refine⟨Y0m _,[],?_,fun f hf=>by cases hf⟩;rw [List.drop_eq_nil_of_le (by omega)];exact .nil
 | f :: r, off, total, ht, hl, hf => by
   simp only [tile,Y0k,beq_iff_eq] at ht;obtain⟨rfl,ht⟩:=ht;obtain⟨hle,ps2,hc2,hs2⟩:=Z5s ht hl fun g hg=>hf g (by simp [hg]);obtain⟨ps1,hs1,hc1⟩:=hf f (by simp);have hl1:ps1.length=P.cellsOf f.type:=by rw [← hc1.len]; simp; omega
   refine⟨by omega,ps1++ps2,?_,fun g hg=>?_⟩
   · have := hc1.append hc2;rw [← List.drop_drop,List.take_append_drop] at this;exact this
   · rcases List.mem_cons.1 hg with rfl | hg
     · refine ⟨Y0m _, ?_⟩;rw [Nat.sub_self,List.drop_zero,← hl1,List.take_left];exact hs1
     · obtain ⟨h1, h2⟩ := hs2 g hg;refine⟨by omega,?_⟩;have e:g.offset-f.offset=ps1.length+(g.offset-(f.offset+P.cellsOf f.type)):=by omega
       rw [e,← List.drop_drop,List.drop_left];exact h2
theorem Z62 {w:World} {S:List PV→Prop} {cs:List Value} {sz:Nat}:∀ {m:Nat},cs.length=m*sz→(∀ i,i<m→∃ ps,S ps∧CellsR w ((cs.drop (i*sz)).take sz) ps)→∃ ps,CellsR w cs ps∧∀ i,i<m→S ((ps.drop (i*sz)).take sz)
 | 0, hl, _ => by
   obtain rfl:cs = []:=List.eq_nil_of_length_eq_zero (by simpa using hl);exact⟨[],.nil,fun i hi=>absurd hi (Nat.not_lt_zero _)⟩
 | m + 1, hl, hf => by
   have hlm:(cs.take (m*sz)).length=m*sz:=by rw [Y0o,hl]; exact Nat.min_eq_left (Nat.mul_le_mul_right _ (by omega))
   obtain⟨ps1,hc1,hs1⟩:=Z62 (cs:=cs.take (m*sz)) hlm fun i hi=>by
    obtain⟨ps,h1,h2⟩:=hf i (by omega);refine⟨ps,h1,?_⟩
    rw [List.drop_take,List.take_take,Nat.min_eq_left (by
     have:(i+1)*sz≤m*sz:=Nat.mul_le_mul_right _ hi
     rw [Nat.add_mul] at this;omega)]
    exact h2
   obtain⟨ps2,hs2,hc2⟩:=hf m (by omega);have hl1:ps1.length=m*sz:=by rw [← hc1.len,hlm]
   have hd:(cs.drop (m*sz)).take sz=cs.drop (m*sz):=List.take_of_length_le (by rw [List.length_drop,hl,Nat.add_mul];omega);rw [hd] at hc2;have hl2:ps2.length=sz:=by rw [← hc2.len,List.length_drop,hl,Nat.add_mul]; omega
   refine⟨ps1++ps2,by have:=hc1.append hc2; rwa [List.take_append_drop] at this,fun i hi=>?_⟩;by_cases him:i<m
   · have hle : i * sz + sz ≤ ps1.length := by
      have:(i+1)*sz≤m*sz:=Nat.mul_le_mul_right _ him;rw [Nat.add_mul] at this; omega
     rw [List.drop_append_of_le_length (by omega),List.take_append_of_le_length (by rw [List.length_drop];omega)];exact hs1 i him
   · obtain rfl : i = m := by omega
     rw [← hl1,List.drop_left,List.take_of_length_le (by omega)];exact hs2
theorem Z2K {H:Type} {P:Program} {e:TypeId}:∀ {ds:List (DataW H)} {d:DataW H},d∈ds→∀ x∈d.weights P e,x∈DataW.weightsAll P e ds
 | [],_,h,_,_=>by cases h
 | a :: r, d, h, x, hx => by
   rw [DataW.weightsAll,Y0h];rcases List.mem_cons.1 h with rfl|h
   · exact .inl hx
   · exact .inr (Z2K h x hx)
theorem Z3o {H:Type} {P:Program}:∀ {ts:List TypeId} {ds:List (DataW H)} {i:Nat} {t:TypeId} {d:DataW H},ts[i]?=some t→ds[i]?=some d→∀ x∈d.weights P t,x∈DataW.weightsEach P ts ds
 | [],_,i,t,d,h,_,_,_=>by simp at h
 | a :: ts,[],i,t,d,_,h,_,_=>by simp at h
 | a :: ts, b :: ds, 0, t, d, h, h', x, hx => by
   obtain rfl:a=t:=by simpa using h
   obtain rfl:b=d:=by simpa using h'
   rw [DataW.weightsEach,Y0h];exact .inl hx
 | a :: ts, b :: ds, i + 1, t, d, h, h', x, hx => by
   rw [DataW.weightsEach,Y0h];exact .inr (Z3o (i:=i) (by simpa using h) (by simpa using h') x hx)
section
variable {H:Type} {enc:TypeId×Value→H} {P:Program} {w:World} {sp:Nat→Bool}
theorem Z8N {a:Addr} {n:Nat} {cs:List Value} {ps:List PV} (hc:w.cells? 0 a n=some cs) (hs:a.spot=none) (h:CellsR w cs ps):ps.length=n∧∀ j,j<ps.length→cellF w ⟨a.block,a.off+j,none⟩=some (cs.getD j undef):=by
 obtain⟨h1,h2⟩:=cells?_some hc;refine⟨by rw [← h.len,h1],fun j hj=>?_⟩;have hj':j<cs.length:=by rw [h.len]; exact hj
 have:=h2 j hj';rw [ZQ _ _ hs] at this;have e:cs.getD j undef=cs[j]:=by simp [Y0b,hj']
 rw [e];exact ZfO this (by rw [← e]; exact h.one j hj)
theorem Zbo {a:Addr} {n:Nat} {cs:List Value} (hc:w.cells? 0 a n=some cs) (hn:0<n):a.spot=none:=by
 obtain⟨h1,h2⟩:=cells?_some hc;have:=h2 0 (by omega);have e:a.add 0=a:=rfl;rw [e] at this;cases hs:a.spot with
 | none=>rfl
 | some k =>
   unfold World.cell? at this;rw [hs] at this
   split at this<;>simp at this
theorem Z63 {α:Type} (z:α) {Q:Nat→α→Prop}:∀ {n:Nat},(∀ i,i<n→∃ x,Q i x)→∃ l:List α,l.length=n∧∀ i,i<n→Q i (l.getD i z)
 | 0,_=>⟨[],rfl,fun i hi=>absurd hi (Nat.not_lt_zero _)⟩
 | n + 1, h => by
   obtain⟨l,hl,hq⟩:=Z63 z (n:=n) fun i hi=>h i (by omega);obtain⟨x,hx⟩:=h n (by omega);refine⟨l ++ [x],by simp [hl],fun i hi=>?_⟩;by_cases hin:i<n
   · have := hq i hin;simpa [Y0b,List.getElem?_append,hl,hin] using this
   · obtain rfl : i = n := by omega
     simpa [Y0b,List.getElem?_append,hl] using hx
theorem Z1I {G:List TypeId} (hT:tilesB P G=true):∀ {fuel:Nat} {t:TypeId} {cs:List Value} {d:DataW H} {pl:List MemPlace},G.contains t=true→DataW.trod enc P w 0 sp true fuel t cs=some (d,pl)→(∀ x∈d.weights P t,x≤reachBytes)→∃ ps,Shape P fuel t ps∧CellsR w cs ps
 | 0,_,_,_,_,_,h,_=>by simp [DataW.trod] at h
 | fuel + 1, t, cs, d, pl, ht, h, hw => by
   have hTt:=ZdS hT ht;unfold tilesT at hTt
   have other:∀ v:Value,v.oneCell'=true→cs = [v]→(match P.underlying t with
    | some .bool|some (.int _)|some .string|some (.pointer _)|some (.slice _)|some (.struct _)|some (.array _ _)=>False
    | _=>True)→∃ ps,Shape P (fuel+1) t ps∧CellsR w cs ps:=by
    intro v h1 hcs hu;refine⟨[.val v],?_,hcs▸.single h1 (.val v) Yt⟩;unfold Shape
    split at hu<;>first|exact hu.elim|skip
    first|exact⟨v,rfl⟩|(split<;>first|exact⟨v,rfl⟩|simp_all)
   unfold DataW.trod at h
   split at h
   · rename_i b hu;exact⟨[.val (.bool b)],by simp [Shape,hu],.single rfl (.val _) Yt⟩
   · rename_i k k' m hu
     split at h
     · rename_i hk;obtain⟨rfl,hwf⟩:=hk;exact⟨[.val (.int k' m)],by simp [Shape,hu,hwf],.single rfl (.val _) Yt⟩
     · cases h
   · rename_i k k' m hu;exact other _ rfl rfl (by rw [hu]; trivial)
   · rename_i str hu
     split at h
     · cases h;refine⟨[.val (.string str)],?_,.single rfl (.val _) Yt⟩;have:=hw str.data.toList.length (by simp [DataW.weights]);have hs:str.size≤maxVec:=by
        have e:str.data.toList.length=str.size:=Array.length_toList;rw [e] at this;simp only [reachBytes] at this;simp only [maxVec];omega
       simp [Shape,hu,hs]
     · cases h
   · rename_i e hu;exact⟨[.val (.pointer none)],by simp [Shape,hu],.single rfl (.val _) Yt⟩
   · rename_i e a hu;rw [hu] at hTt;simp only [Y0k,Y0n] at hTt;cases hc:w.cells? 0 a (P.cellsOf e) with
     | none=>simp [hc] at h
     | some cs' =>
       cases hr:DataW.trod enc P w 0 sp true fuel e cs' with
       | none=>simp [hc,hr] at h
       | some r =>
         obtain⟨d',pl'⟩:=r;have hd:d=.ptr d':=by simp [hc,hr] at h; exact h.1.symm
         subst hd;obtain⟨l,hs,hcl⟩:=Z1I hT hTt.2 hr (fun x hx=>hw x (by simp only [DataW.weights,hu]; exact hx));have hspot:=Zbo hc hTt.1;obtain⟨hl,hF⟩:=Z8N hc hspot hcl;refine⟨[.cp l],by simp only [Shape,hu]; exact .inr ⟨l,hs,rfl⟩,.single rfl ?_ hcl.pure⟩;exact .cp a l (fun j=>cs'.getD j undef) hspot hF hcl.rep
   · rename_i e hu;exact⟨[.vec [] true],by simp only [Shape,hu]; exact⟨[],true,by simp,by simp,rfl⟩,.single rfl (.vecnil true) Yt⟩
   · rename_i e a len cap hu;rw [hu] at hTt;simp only [Y0k,Y0n] at hTt;obtain⟨⟨hby,hsz⟩,het⟩:=hTt;simp only at h
     split at h
     case isFalse=>cases h
     rename_i hcond;cases hm:(List.range len).mapM (fun i=>(w.cells? 0 (a.add (i*P.cellsOf e)) (P.cellsOf e)).bind (DataW.trod enc P w 0 sp true fuel e)) with
     | none=>simp [hm] at h
     | some elems =>
       obtain⟨hel,hget⟩:=mapM_some' hm;have hd:∃ rest:List (DataW H×List MemPlace),d=.slice (elems.map (·.1)) (rest.map (·.1)):=by
        rw [hm] at h;simp only [Option.bind_some,Option.map_eq_some_iff] at h;obtain⟨rest,_,h2⟩:=h;exact⟨rest,by cases h2; rfl⟩
       obtain⟨rest,rfl⟩:=hd;have hlen:elems.length=len:=by simpa using hel
       have hbound:len≤maxVec:=by
        have:=hw ((elems.length+rest.length)*P.bytesOf e) (by simp [DataW.weights,hu]);have h3:elems.length+rest.length≤(elems.length+rest.length)*P.bytesOf e:=Nat.le_mul_of_pos_right _ hby;simp only [reachBytes] at this;simp only [maxVec];omega
       have each:∀ i,i<len→∃ cs' d' pl',w.cells? 0 (a.add (i*P.cellsOf e)) (P.cellsOf e)=some cs'∧DataW.trod enc P w 0 sp true fuel e cs'=some (d',pl')∧d'∈elems.map (·.1):=fun i hi=>by
        have:=hget i (by simpa using hi) (by omega);simp only [List.getElem_range,Option.bind_eq_some_iff] at this;obtain⟨cs',h1,h2⟩:=this;exact⟨cs',_,_,h1,h2,Y0i.2 ⟨elems[i],Y0j _,rfl⟩⟩
       have hspot:0<len→a.spot=none:=fun h0=>by
        obtain⟨cs',d',pl',h1,_⟩:=each 0 h0;rw [Nat.zero_mul] at h1;exact Zbo h1 hsz
       obtain⟨ll,hll,hq⟩:=Z63 (α:=List PV) [] (n:=len) (Q:=fun i l=>Shape P fuel e l∧l.length=P.cellsOf e∧pureL l∧∀ j,j<P.cellsOf e→∃ v,cellF w ⟨a.block,a.off+(i*P.cellsOf e+j),none⟩=some v∧Rep (cellF w) noLoc v (l.getD j pvu)) fun i hi=>by
        obtain⟨cs',d',pl',h1,h2,h3⟩:=each i hi;obtain⟨l,hs,hcl⟩:=Z1I hT het h2 (fun x hx=>hw x (by simp only [DataW.weights,hu]; exact List.mem_cons_of_mem _ (Y0h.2 (.inl (Z2K h3 x hx)))));rw [ZQ _ _ (hspot (by omega))] at h1;obtain⟨hl,hF⟩:=Z8N h1 rfl hcl;refine⟨l,hs,hl,hcl.pure,fun j hj=>⟨_,?_,hcl.rep j (by omega)⟩⟩;have:=hF j (by omega);simp only at this;rw [Nat.add_assoc] at this;exact this
       have hmem:∀ l∈ll,∃ i,i<len∧ll.getD i []=l:=fun l hl=>by
        obtain⟨i,hi,rfl⟩:=List.getElem_of_mem hl;exact⟨i,by omega,by simp [Y0b,hi]⟩
       refine⟨[.vec ll false],?_,.single rfl ?_ ((Z20 _ _).2 fun l hl=>?_)⟩
       · simp only [Shape, hu];exact⟨ll,false,by omega,fun l hl=>by obtain⟨i,hi,rfl⟩:=hmem l hl; exact (hq i hi).1,rfl⟩
       · rw [← hll];refine .vec a cap (P.cellsOf e) ll false (fun i j=>(cellF w ⟨a.block,a.off+(i*P.cellsOf e+j),none⟩).getD undef) (fun hne=>hspot (by rw [← hll]; exact List.length_pos_iff.2 hne)) (by omega) (by simp) (by omega) (fun i hi=>(hq i (by omega)).2.1) (fun i j hi hj=>?_) (fun i j hi hj=>?_)
         · obtain ⟨v, h1, _⟩ := (hq i (by omega)).2.2.2 j hj;rw [h1]; rfl
         · obtain ⟨v, h1, h2⟩ := (hq i (by omega)).2.2.2 j hj;rw [h1]; exact h2
       · obtain ⟨i, hi, rfl⟩ := hmem l hl;exact (hq i hi).2.2.1
   · rename_i cs _ _ fs hu;rw [hu] at hTt;simp only [Y0k,List.all_eq_true,Y0n] at hTt;obtain⟨htile,hft⟩:=hTt
     split at h
     case isFalse=>cases h
     rename_i hlen;cases hm:fs.toList.mapM (fun f=>DataW.trod enc P w 0 sp true fuel f.type ((cs.drop f.offset).take (P.cellsOf f.type))) with
     | none=>simp [hm] at h
     | some xs =>
       obtain⟨hxl,hget⟩:=mapM_some' hm;obtain rfl:d=.agg (xs.map (·.1)):=by simp [hm] at h; exact h.1.symm
       obtain⟨_,ps,hc,hs⟩:=Z5s (P:=P) (S:=fun t ps=>Shape P fuel t ps) htile hlen fun f hf=>by
        obtain⟨i,hi,rfl⟩:=List.getElem_of_mem hf;have h2:=hget i hi (by omega);refine Z1I hT (hft _ hf) (d := (xs[i]'(by omega)).1) (pl := (xs[i]'(by omega)).2) h2 fun x hx => hw x ?_;simp only [DataW.weights,hu];exact Z3o (i := i) (t := fs.toList[i].type) (d := (xs[i]'(by omega)).1) (by rw [Y0y,Y0c hi]; rfl) (by rw [Y0y,Y0c (by omega)]; rfl) x hx
       rw [List.drop_zero] at hc;refine⟨ps,?_,hc⟩;simp only [Shape,hu];exact⟨by rw [← hc.len]; exact hlen,fun f hf=>by have:=(hs f hf).2; rwa [Nat.sub_zero] at this⟩
   · rename_i cs _ _ m e hu;rw [hu] at hTt;simp only [Y0k,beq_iff_eq,Y0n] at hTt;obtain⟨htile,het⟩:=hTt
     split at h
     case isFalse=>cases h
     rename_i hlen;cases hm:(List.range m).mapM (fun i=>DataW.trod enc P w 0 sp true fuel e ((cs.drop (i*P.cellsOf e)).take (P.cellsOf e))) with
     | none=>simp [hm] at h
     | some xs =>
       obtain⟨hxl,hget⟩:=mapM_some' hm;obtain rfl:d=.agg (xs.map (·.1)):=by simp [hm] at h; exact h.1.symm
       have hxm:xs.length=m:=by simpa using hxl
       obtain⟨ps,hc,hs⟩:=Z62 (S:=Shape P fuel e) (sz:=P.cellsOf e) (m:=m) (by rw [hlen,htile]) fun i hi=>by
        have h2:=hget i (by simpa using hi) (by omega);simp only [List.getElem_range] at h2;refine Z1I hT het (d := (xs[i]'(by omega)).1) (pl := (xs[i]'(by omega)).2) h2 fun x hx => hw x ?_;simp only [DataW.weights,hu];exact Z2K (Y0i.2 ⟨xs[i]'(by omega),Y0j _,rfl⟩) x hx
       refine⟨ps,?_,hc⟩;simp only [Shape,hu];exact⟨by rw [← hc.len]; exact hlen,hs⟩
   all_goals first
    | (cases h; done)
    | (rename_i hu; exact other _ rfl rfl (by rw [hu]; trivial))
end
end
section
open Go.RowKit Go.ChangeShapes Go.WideShapes
def ShapeV (P:Program) (t:TypeId) (p:PV):Prop:=∃ n,match P.underlying t with
 | some (.struct _)|some (.array _ _)=>∃ ps,p=.agg ps∧Shape P n t ps
 | _=>Shape P n t [p]
def ShapeVs (P:Program):List TypeId→List PV→Prop
 | [],[]=>True
 | t :: ts,p :: ps=>ShapeV P t p∧ShapeVs P ts ps
 | _,_=>False
section
variable {H:Type} {enc:TypeId×Value→H} {P:Program} {w:World}
theorem Z4x {v:Value} {ps:List PV} (h:CellsR w [v] ps):∃ p,ps = [p]∧Rep (cellF w) noLoc v p∧p.pure:=by
 have hl:=h.len;obtain⟨p,rfl⟩:∃ p,ps = [p]:=by
  cases ps with
  | nil=>simp at hl
  | cons p r => cases r with
    | nil=>exact⟨p,rfl⟩
    | cons _ _=>simp at hl
 exact⟨p,rfl,by simpa using h.rep 0 (by simp),h.pure.1⟩
theorem Z79 {t:TypeId} {v:Value} {base:Nat} (hu:match P.underlying t with|some (.struct _)|some (.array _ _)=>False|_=>True) (h:Value.okWide P w .any base t v):v.cells.toList = [v]:=by
 cases v with
 | agg cs =>
   exfalso;unfold Value.okWide at h
   split at h
   · rename_i hu'; rw [hu'] at hu; exact hu
   · rename_i hu'; rw [hu'] at hu; exact hu
   · unfold Cell.okWide at h
     split at h<;>first|(rename_i hv; cases hv; done)|skip
     all_goals first|(cases ‹Value.agg cs=_›; done)|(unfold Cell.ok at h; split at h<;>first|exact h|(cases ‹Value.agg cs=_›; done)|simp_all)
 | _=>rfl
theorem ZdT {G:List TypeId} (hT:tilesB P G=true) {t:TypeId} {v:Value} {d:DataW H} {pl:List MemPlace} {base:Nat} (ht:G.contains t=true) (hok:Value.okWide P w .any base t v) (h:DataW.Trod enc P w 0 (fun _=>true) true t v d pl) (hw:∀ x∈d.weights P t,x≤reachBytes) :
 ∃ p,ShapeV P t p∧Rep (cellF w) noLoc v p∧p.pure:=by
 obtain⟨fuel,h⟩:=h;obtain⟨ps,hs,hc⟩:=Z1I hT ht h hw;cases hu:P.underlying t with
 | none =>
   rw [Z79 (by rw [hu]; trivial) hok] at hc;obtain⟨p,rfl,h1,h2⟩:=Z4x hc;exact⟨p,⟨fuel,by rw [hu]; exact hs⟩,h1,h2⟩
 | some dsc =>
   have agg:(∃ cs,v=.agg cs)→∃ p,(∃ ps,p=.agg ps∧Shape P fuel t ps)∧Rep (cellF w) noLoc v p∧p.pure:=by
    rintro⟨cs,rfl⟩;have e:∀ j,cs.getD j undef=cs.toList.getD j undef:=fun j=>by simp [Y0d,Y0b]
    refine⟨.agg ps,⟨ps,rfl,hs⟩,.agg cs ps (by rw [← hc.len]; simp [Value.cells]) (fun i hi=>?_) (fun i hi=>?_),hc.pure⟩
    · rw [e]; exact hc.one i hi
    · rw [e]; exact hc.rep i hi
   have one:(match P.underlying t with|some (.struct _)|some (.array _ _)=>False|_=>True)→∃ p,Shape P fuel t [p]∧Rep (cellF w) noLoc v p∧p.pure:=by
    intro hu';rw [Z79 hu' hok] at hc;obtain⟨p,rfl,h1,h2⟩:=Z4x hc;exact⟨p,hs,h1,h2⟩
   have isAgg:(∃ fs,dsc=.struct fs) ∨ (∃ m e,dsc=.array m e)→∃ cs,v=.agg cs:=by
    intro hd;unfold Value.okWide at hok;rw [hu] at hok;rcases hd with⟨fs,rfl⟩|⟨m,e,rfl⟩
    · obtain⟨cs,h1,_⟩:=hok; exact⟨cs,h1⟩
    · obtain⟨cs,h1,_⟩:=hok; exact⟨cs,h1⟩
   cases dsc with
   | struct fs =>
     obtain⟨p,h1,h2⟩:=agg (isAgg (.inl ⟨fs,rfl⟩));exact⟨p,⟨fuel,by rw [hu]; exact h1⟩,h2⟩
   | array m e =>
     obtain⟨p,h1,h2⟩:=agg (isAgg (.inr ⟨m,e,rfl⟩));exact⟨p,⟨fuel,by rw [hu]; exact h1⟩,h2⟩
   | _ =>
     obtain⟨p,h1,h2⟩:=one (by rw [hu]; trivial);exact⟨p,⟨fuel,by rw [hu]; exact h1⟩,h2⟩
theorem Z7a {G:List TypeId} (hT:tilesB P G=true):∀ {ts:List TypeId} {vs:List Value} {ds:List (DataW H)} {pl:List MemPlace},(∀ t∈ts,G.contains t=true)→(∀ (j:Nat) t v,ts[j]?=some t→vs[j]?=some v→∃ base,Value.okWide P w .any base t v) →
 DataW.TrodAll enc P w 0 (fun _=>true) true ts vs ds pl→(∀ x∈DataW.weightsEach P ts ds,x≤reachBytes)→∃ ps,ShapeVs P ts ps∧vs.length=ps.length∧(∀ i,i<ps.length→Rep (cellF w) noLoc (vs.getD i undef) (ps.getD i pvu))∧pureL ps
 | [], vs, ds, pl, _, _, h, _ => by
   obtain⟨rfl,rfl,rfl⟩:=trodAll_nil h;exact⟨[],Yt,rfl,fun i hi=>absurd hi (Nat.not_lt_zero _),Yt⟩
 | t :: ts, vs, ds, pl, hlt, hok, h, hw => by
   obtain⟨v,vs',d,ds',p,q,rfl,rfl,rfl,h1,h2⟩:=trodAll_cons h;obtain⟨base,hv⟩:=hok 0 t v rfl rfl;obtain⟨x,hs,hr,hp⟩:=ZdT hT (hlt t (by simp)) hv h1 fun x hx=>hw x (by rw [DataW.weightsEach]; exact Y0h.2 (.inl hx));obtain⟨ps,hs',hl,hr',hp'⟩:=Z7a hT (fun t ht=>hlt t (by simp [ht])) (fun j t v hj hv=>hok (j+1) t v (by simpa using hj) (by simpa using hv)) h2 fun x hx=>hw x (by rw [DataW.weightsEach]; exact Y0h.2 (.inr hx));refine⟨x :: ps,⟨hs,hs'⟩,by simp [hl],fun i hi=>?_,hp,hp'⟩;cases i with
   | zero=>simpa using hr
   | succ i=>simpa using hr' i (by simpa using hi)
theorem Z4y (hl:laidOutB P=true) {W W':World} (hb:Below W.heap.size W W') {sp':Nat→Bool}:∀ {ts:List TypeId} {vs:List Value} {ds:List (DataW H)} {pl:List MemPlace},(∀ t∈ts,P.readableRec t=true∧t<P.types.size)→DataW.TrodAll enc P W 0 (fun _=>true) true ts vs ds pl →
 (∀ x∈pl,x.block<W.heap.size)→(∀ x∈pl,sp' x.block=true)→DataW.TrodAll enc P W' 0 sp' true ts vs ds pl
 | [], vs, ds, pl, _, h, _, _ => by
   obtain⟨rfl,rfl,rfl⟩:=trodAll_nil h;exact rfl
 | t :: ts, vs, ds, pl, hr, h, hlt, hsp => by
   obtain⟨v,vs',d,ds',p,q,rfl,rfl,rfl,h1,h2⟩:=trodAll_cons h;obtain⟨hr1,hr2⟩:=hr t (by simp)
   exact⟨p,q,WideElems.Trod_stays hl hr1 hr2 h1 (fun x hx=>hb.same (hlt x (Y0h.2 (.inl hx)))) (fun x hx=>hsp x (Y0h.2 (.inl hx))),
    Z4y hl hb (fun t ht=>hr t (by simp [ht])) h2 (fun x hx=>hlt x (Y0h.2 (.inr hx))) (fun x hx=>hsp x (Y0h.2 (.inr hx))),rfl⟩
end
theorem Z8O {H:Type} {enc:TypeId×Value→H} {P:Program} {f:FuncId} {fn:Func} {s:ChangeSpec} {apart fresh handsOn again:Bool} {tb:TypeId} {G:List TypeId} (hT:tilesB P G=true) (hG:∀ t∈fn.params.toList,G.contains t=true) (hl:laidOutB P=true) (hpar:∀ t∈fn.params.toList,P.readableRec t=true∧t<P.types.size) (hres:fn.resultTypes = #[tb]) (htb:P.underlying tb=some .bool)
 (hvars:s.vars = []) (hs:∀ ds:List (DataW H),ds.length=fn.params.size→(s.fn H ds).results = [.lit (.bool true)]∧(s.fn H ds).args=ds∧(s.fn H ds).vars = []) (hspec:∀ ps,ShapeVs P fn.params.toList ps→pureL ps→Spec P f ps (· = .val (.bool true)))
 (W:World) (hgl:GlobsIn W) (base:Nat) (args:Array Value) (ds gs:List (DataW H)) (before:List MemPlace) (hval:∀ (j:Nat) t v,fn.params[j]?=some t→args[j]?=some v→Value.okWide P W .any base t v) (hW:DataW.Whole enc P fn.params.toList s.vars apart W args.toList ds gs before)
 (hwt:(DataW.weightsEach P (fn.params.toList++s.plain.varTypes P) (ds++gs)).all (· ≤ reachBytes)=true) :
 Calls P f args W fun e W'=>∃ v,e=.returned v∧s.post enc P fn apart fresh handsOn again W args v W':=by
 have hW':=hW;obtain⟨p,q,hA,hV,rfl,hfz,hnd⟩:=hW;rw [hvars] at hV;obtain⟨rfl,rfl⟩:=trodVars_none hV;rw [Y0p] at hwt;have hlen:ds.length=fn.params.toList.length:=by
  have:∀ {ts:List TypeId} {vs:List Value} {ds:List (DataW H)} {pl:List MemPlace},DataW.TrodAll enc P W 0 (fun _=>true) true ts vs ds pl→ds.length=ts.length:=by
   intro ts
   induction ts with
   | nil=>intro vs ds pl h; obtain⟨_,rfl,_⟩:=trodAll_nil h; rfl
   | cons t ts ih=>intro vs ds pl h; obtain⟨v,vs',d,ds',p,q,_,rfl,_,_,h2⟩:=trodAll_cons h; simp [ih h2]
  exact this hA
 have hvt:s.plain.varTypes P = []:=by
  simp [ChangeSpec.plain,DataSpec.varTypes,hvars]
 rw [hvt,Y0p] at hwt;obtain⟨ps,hsh,hpl,hrep,hpure⟩:=Z7a hT hG (fun j t v hj hv=>⟨base,hval j t v (by simpa using hj) (by simpa using hv)⟩) hA (fun x hx=>by simpa using List.all_eq_true.1 hwt x hx);have e:∀ j,args.getD j undef=args.toList.getD j undef:=fun j=>by simp [Y0d,Y0b]
 refine ((hspec ps hsh hpure).2 (cellF W) W args (Za2 hgl) ⟨by simpa using hpl,fun i hi=>by rw [e]; exact hrep i hi⟩).mono ?_;rintro en W' ⟨v,r,F',rfl,rfl,hvr,hbel,_⟩;obtain rfl:=hvr.val_inv;obtain⟨hs1,hs2,hs3⟩:=hs ds (by simpa using hlen);have hlt:=hW'.lt;simp only [Y0p] at hlt hW' ⊢;have hstay:∀ sp':Nat→Bool,(∀ x∈p,sp' x.block=true)→DataW.TrodAll enc P W' 0 sp' true fn.params.toList args.toList ds p:=fun sp' hsp=>Z4y hl hbel hpar hA hlt hsp;have hresults:∀ (b:Nat) (sp:Nat→Bool) (hd:Bool),DataW.TrodAll enc P W' b sp hd fn.resultTypes.toList ((Value.bool true).resultList fn.resultTypes.size) [.lit (.bool true)] []:=fun b sp hd=>by
  rw [hres];exact trodAll_mk1 (shut_bool htb true)
 refine⟨_,rfl,ds,[],p,[],p,[],hW',?_,?_,?_,hbel.frame _,fun _=>⟨ok_one hres rfl (okWide_bool_mk htb true),?_⟩⟩
 · rw [Y0p,hs1]; exact hresults _ _ _
 · rw [Y0p,hs2]; exact hstay _ fun x hx=>by simpa using hlt x hx
 · rw [Y0p,hvars,hs3]; exact rfl
 · refine ⟨_, [], p, ⟨p, [], trodAll_append (p := []) (hstay _ fun _ _ => rfl) (hresults _ _ _), by rw [hvars]; exact rfl, by simp, ?_, by simpa using hnd⟩, fun x hx _ => hx⟩;intro b off hp;rw [hbel.frozen (hlt _ hp)];exact hfz b off (by simpa using hp)
end
section
open Go.ChangeShapes Go.WideShapes Go.ChangeAt Go.RowKit
theorem own:ownKnob Tryz.prog.godebug=none:=by kernel_rfl
theorem laidOut:laidOutB Tryz.prog=true:=by kernel_rfl
def parsOk (P:Program) (ts:List TypeId):Bool:=ts.all fun t=>P.readableRec t&&decide (t<P.types.size)
def inG (G ts:List TypeId):Bool:=ts.all fun t=>G.contains t
theorem Zi9 {G ts:List TypeId} (h:inG G ts=true):∀ t∈ts,G.contains t=true:=fun t ht=>List.all_eq_true.1 h t ht
theorem ZdU {P:Program} {ts:List TypeId} (h:parsOk P ts=true):∀ t∈ts,P.readableRec t=true∧t<P.types.size:=fun t ht=>by
 have:=List.all_eq_true.1 h t ht;simpa using this
abbrev laidV : List (String × DataW Unit) := [("math/bits.deBruijn64tab",Rows.laid_math_bits_deBruijn64tab),("arbac/keccak.rounds",Rows.laid_arbac_keccak_rounds),("arbac/keccak.turns",Rows.laid_arbac_keccak_turns)]
theorem ZfP (os:Os) (args:Array Value):laidMetH Tryz.prog laidV ((World.doorLaid Tryz.prog 400 os).forCall (fun _ _=>0) ⟨#[],args,[]⟩).memory :=
 laidMetH_of_parts3 (fuel:=8) (laidMet_of_run' 8 (by kernel_rfl) (by kernel_rfl)) (by kernel_rfl) (by kernel_rfl)
theorem Zco:(Rows.laid_math_bits_deBruijn64tab:DataW Unit)=.agg (tzTab.map fun x=>.lit (.int .u8 x)):=rfl
theorem ZfQ {W:World} (h:laidMetH Tryz.prog laidV W):∀ (j:Nat) (v:Value),(tzTab.map fun x=>Value.int .u8 x)[j]?=some v→W.cell? ⟨0,j,none⟩=some v:=by
 rw [MakeChecks.laidMetH_plain _ _ _ (by kernel_rfl)] at h;obtain⟨ps,⟨g0,t0,cs,f0,p0,q0,hg0,ht0,hv0,hd0,_,_⟩,_,_⟩:=h;obtain rfl := Option.some.inj ((show Tryz.prog.globalNamed "math/bits.deBruijn64tab" = some 0 by kernel_rfl).symm.trans hg0)
 obtain rfl:=Option.some.inj ((show (Tryz.prog.globals[0]?).map (·.type)=some 229 by kernel_rfl).symm.trans ht0);obtain⟨xs,m,rfl,hx,hlen,hn,hel⟩:=DataW.trod_array (show Tryz.prog.underlying 229=some (.array 64 5) by kernel_rfl) hd0;have c1:Tryz.prog.cellsOf 5=1:=by kernel_rfl
 simp only [Prod.mk.injEq] at hx;have hx1:tzTab.map (fun x=>(DataW.lit (.int .u8 x):DataW Unit))=xs.map (·.1):=by
  have:=hx.1;rw [Zco] at this;simpa using this
 intro j v hv;rw [Y0y] at hv;have hj:j<64:=by
  cases hx:tzTab[j]? with
  | none=>rw [hx] at hv; cases hv
  | some x=>have:=(List.getElem?_eq_some_iff.1 hx).1; exact this
 have hj2:j<tzTab.length:=hj;rw [Y0c hj2] at hv;simp only [Option.map_some,Option.some.injEq] at hv;subst hv;have e1:=congrArg (fun l=>l[j]?) hx1;simp only [Y0y] at e1;rw [Y0c hj2,Y0c (show j<xs.length by omega)] at e1;simp only [Option.map_some,Option.some.injEq] at e1;have e2:=hel j hj;rw [Y0c (show j<xs.length by omega),c1] at e2;obtain⟨k,h1,h2,_⟩:=DataW.trod_int (show Tryz.prog.underlying 5=some (.int .u8) by kernel_rfl) e2;rw [h2] at e1;simp only [DataW.lit.injEq,Lit.int.injEq,true_and] at e1;subst e1;rw [Nat.mul_one] at h1;rw [World.var?_cell hg0 hv0 j];have h3:cs.toList[j]?=(cs.toList.drop j)[0]?:=by simp
 have h4:(cs.toList.drop j)[0]?=((cs.toList.drop j).take 1)[0]?:=by simp
 rw [← Array.getElem?_toList,h3,h4,h1]
 rfl
theorem Z8P:(Rows.laid_arbac_keccak_rounds:DataW Unit)=.agg (kRounds.map fun x=>.lit (.int .u64 x)):=rfl
theorem Zcp {W:World} (h:laidMetH Tryz.prog laidV W):∀ (j:Nat) (v:Value),(kRounds.map fun x=>Value.int .u64 x)[j]?=some v→W.cell? ⟨1,j,none⟩=some v:=by
 rw [MakeChecks.laidMetH_plain _ _ _ (by kernel_rfl)] at h;obtain⟨ps,⟨_,_,_,_,_,_,_,_,_,_,⟨g0,t0,cs,f0,p0,q0,hg0,ht0,hv0,hd0,_,_⟩,_⟩,_,_⟩:=h;obtain rfl := Option.some.inj ((show Tryz.prog.globalNamed "arbac/keccak.rounds" = some 1 by kernel_rfl).symm.trans hg0)
 obtain rfl:=Option.some.inj ((show (Tryz.prog.globals[1]?).map (·.type)=some 273 by kernel_rfl).symm.trans ht0);obtain⟨xs,m,rfl,hx,hlen,hn,hel⟩:=DataW.trod_array (show Tryz.prog.underlying 273=some (.array 24 36) by kernel_rfl) hd0;have c1:Tryz.prog.cellsOf 36=1:=by kernel_rfl
 simp only [Prod.mk.injEq] at hx;have hx1:kRounds.map (fun x=>(DataW.lit (.int .u64 x):DataW Unit))=xs.map (·.1):=by
  have:=hx.1;rw [Z8P] at this;simpa using this
 intro j v hv;rw [Y0y] at hv;have hj:j<24:=by
  cases hx:kRounds[j]? with
  | none=>rw [hx] at hv; cases hv
  | some x=>have:=(List.getElem?_eq_some_iff.1 hx).1; exact this
 have hj2:j<kRounds.length:=hj;rw [Y0c hj2] at hv;simp only [Option.map_some,Option.some.injEq] at hv;subst hv;have e1:=congrArg (fun l=>l[j]?) hx1;simp only [Y0y] at e1;rw [Y0c hj2,Y0c (show j<xs.length by omega)] at e1;simp only [Option.map_some,Option.some.injEq] at e1;have e2:=hel j hj;rw [Y0c (show j<xs.length by omega),c1] at e2;obtain⟨k,h1,h2,_⟩:=DataW.trod_int (show Tryz.prog.underlying 36=some (.int .u64) by kernel_rfl) e2;rw [h2] at e1;simp only [DataW.lit.injEq,Lit.int.injEq,true_and] at e1;subst e1;rw [Nat.mul_one] at h1;rw [World.var?_cell hg0 hv0 j];have h3:cs.toList[j]?=(cs.toList.drop j)[0]?:=by simp
 have h4:(cs.toList.drop j)[0]?=((cs.toList.drop j).take 1)[0]?:=by simp
 rw [← Array.getElem?_toList,h3,h4,h1]
 rfl
theorem Za3:(Rows.laid_arbac_keccak_turns:DataW Unit)=.agg (kTurns.map fun x=>.lit (.int .i64 x)):=rfl
theorem ZdV {W:World} (h:laidMetH Tryz.prog laidV W):∀ (j:Nat) (v:Value),(kTurns.map fun x=>Value.int .i64 x)[j]?=some v→W.cell? ⟨2,j,none⟩=some v:=by
 rw [MakeChecks.laidMetH_plain _ _ _ (by kernel_rfl)] at h;obtain⟨ps,⟨_,_,_,_,_,_,_,_,_,_,⟨_,_,_,_,_,_,_,_,_,_,⟨g0,t0,cs,f0,p0,q0,hg0,ht0,hv0,hd0,_,_⟩,_⟩,_⟩,_,_⟩:=h;obtain rfl := Option.some.inj ((show Tryz.prog.globalNamed "arbac/keccak.turns" = some 2 by kernel_rfl).symm.trans hg0)
 obtain rfl:=Option.some.inj ((show (Tryz.prog.globals[2]?).map (·.type)=some 276 by kernel_rfl).symm.trans ht0);obtain⟨xs,m,rfl,hx,hlen,hn,hel⟩:=DataW.trod_array (show Tryz.prog.underlying 276=some (.array 25 3) by kernel_rfl) hd0;have c1:Tryz.prog.cellsOf 3=1:=by kernel_rfl
 simp only [Prod.mk.injEq] at hx;have hx1:kTurns.map (fun x=>(DataW.lit (.int .i64 x):DataW Unit))=xs.map (·.1):=by
  have:=hx.1;rw [Za3] at this;simpa using this
 intro j v hv;rw [Y0y] at hv;have hj:j<25:=by
  cases hx:kTurns[j]? with
  | none=>rw [hx] at hv; cases hv
  | some x=>have:=(List.getElem?_eq_some_iff.1 hx).1; exact this
 have hj2:j<kTurns.length:=hj;rw [Y0c hj2] at hv;simp only [Option.map_some,Option.some.injEq] at hv;subst hv;have e1:=congrArg (fun l=>l[j]?) hx1;simp only [Y0y] at e1;rw [Y0c hj2,Y0c (show j<xs.length by omega)] at e1;simp only [Option.map_some,Option.some.injEq] at e1;have e2:=hel j hj;rw [Y0c (show j<xs.length by omega),c1] at e2;obtain⟨k,h1,h2,_⟩:=DataW.trod_int (show Tryz.prog.underlying 3=some (.int .i64) by kernel_rfl) e2;rw [h2] at e1;simp only [DataW.lit.injEq,Lit.int.injEq,true_and] at e1;subst e1;rw [Nat.mul_one] at h1;rw [World.var?_cell hg0 hv0 j];have h3:cs.toList[j]?=(cs.toList.drop j)[0]?:=by simp
 have h4:(cs.toList.drop j)[0]?=((cs.toList.drop j).take 1)[0]?:=by simp
 rw [← Array.getElem?_toList,h3,h4,h1]
 rfl
theorem ZfR {W:World} (h:laidMetH Tryz.prog laidV W):GlobsIn W:=by
 intro g j v hv;have step:∀ (k:Nat) (l:List Value) (r:List (Nat×List Value)),(globT ((k,l) :: r) g)[j]?=some v→(l[j]?=some v∧g=k) ∨ (globT r g)[j]?=some v:=by
  intro k l r hh;unfold globT at hh;cases hb:Nat.beq g k with
  | true=>rw [hb] at hh; exact .inl ⟨hh,Nat.eq_of_beq_eq_true hb⟩
  | false=>rw [hb] at hh; exact .inr hh
 have hv:(globT globL g)[j]?=some v:=hv;unfold globL at hv;rcases step _ _ _ hv with⟨h1,rfl⟩|hv
 · exact ZfQ h j v h1
 rcases step _ _ _ hv with⟨h1,rfl⟩|hv
 · exact Zcp h j v h1
 rcases step _ _ _ hv with⟨h1,rfl⟩|hv
 · exact ZdV h j v h1
 simp [globT] at hv
end
section
set_option maxRecDepth 100000
theorem mixed : Tryz.prog.follows .mixedOrders = true := by kernel_rfl
abbrev tT (n : Nat) : Operand := .tmp n
abbrev oO (d : Nat) (p : AOp) : AOper := ⟨some d, p, none⟩
abbrev oT (g d : Nat) (p : AOp) : AOper := ⟨some d, p, some (g, true)⟩
abbrev oF (g d : Nat) (p : AOp) : AOper := ⟨some d, p, some (g, false)⟩
abbrev oM (d a : Nat) : AOper := ⟨some d, .mov (.tmp a), none⟩
abbrev nS : Value := .slice none 0 0
abbrev kI (n : Int) : Operand := .const (.int .i64 n)
abbrev kT : Operand := .const (.bool true)
abbrev kF : Operand := .const (.bool false)
abbrev kC (f : FuncId) (l : List Operand) : AOp := .call (.func f) l
abbrev sQ (x y : ACode) : ACode := .seq x y
abbrev Yl (d n a : Nat) : AOper := ⟨some d, .load true n (.tmp a), none⟩
abbrev Yk (d a : Nat) : AOper := ⟨some d, .load false 1 (.tmp a), none⟩
abbrev Ya (d k a : Nat) : AOper := ⟨some d, .faddr k (.tmp a), none⟩
abbrev Yc (d f : Nat) (l : List Operand) : AOper := ⟨some d, .call (.func f) l, none⟩
abbrev Yb (d a : Nat) : AOper := ⟨some d, .box (.tmp a), none⟩
abbrev Yi (d e a b : Nat) : AOper := ⟨some d, .iaddr e (.tmp a) (.tmp b), none⟩
abbrev Yn (d a : Nat) : AOper := ⟨some d, .len (.tmp a), none⟩
abbrev Yx (d a k : Nat) : AOper := ⟨some d, .extract (.tmp a) k, none⟩
abbrev Ys (n a b : Nat) : AOper := ⟨none, .store n (.tmp a) (.tmp b), none⟩
abbrev Yd (i : Nat) (o : AOper) (m f : Nat) : DItem := ⟨i, o, m, f, false⟩
abbrev Yr (l : List AOper) (x : ACode) : ACode := .seq (.region l) x
abbrev Yg (l : List AOper) : ACode := .region l
abbrev Yu : Value := .int .u8 0
abbrev Y1 : List Value := [Yu,Yu,Yu,Yu,Yu,Yu,Yu,Yu,Yu,Yu,Yu,Yu,Yu,Yu,Yu,Yu,Yu,Yu,Yu,Yu,Yu,Yu,Yu,Yu,Yu,Yu,Yu,Yu,Yu,Yu,Yu,Yu]
abbrev Y2 : List Value := [Yu,Yu,Yu,Yu,Yu,Yu,Yu,Yu,Yu,Yu,Yu,Yu,Yu,Yu,Yu,Yu,Yu,Yu,Yu,Yu,Yu,Yu,Yu,Yu,Yu,Yu,Yu,Yu,Yu,Yu,Yu,Yu,.bool false,.slice none 0 0,.slice none 0 0]
abbrev Yv (n : Nat) : PV := .val (.int .i64 (n : Int))
abbrev Y3 : List Nat := [0,0,0,0,0,0,0,0,0,0,0,0,0,0,0,0,0,0,0,0,0,0,0,0,0,0,0,0,0,0,0,0]
theorem Yf {P : Program} {f nt : Nat} {fn : Func} {ac : ACode} {rs : List ARes} (hf : P.funcs[f]? = some fn) (hnt : fn.ntmps = nt) (hm : P.follows .mixedOrders = true) (hn : (fn.name == "runtime.NumGoroutine") = false := by kernel_rfl) (hc : codeOf P nt fn.body = some ac := by kernel_rfl) (hr : cRess P fn.results.toList = some rs := by kernel_rfl) : FnOk P f nt ac rs := Z7 hm hf hn hnt hc hr
theorem Yp {P : Program} {f nt : Nat} {ac : ACode} {rs : List ARes} (hf : FnOk P f nt ac rs) {args : List PV} {R : PV → Prop} (hk : ∀ C : Ctx, C.dom 0 → aw P C ac (retQ rs R) 0 (argEnv args) (fun _ => none)) (hn : args.length ≤ nt := by exact Nat.le_of_ble_eq_true rfl) : Spec P f args R := Z2 hf hn hk
def ir3 : ACode := (Yr [Yb 3 1,oO 4 (.mov kF)] (sQ (Yr [Yc 10 6 [],oO 11 (.una .not (tT 10))] (.cond (tT 11) (Yr [oO 4 (.mov kF)] .ret) .skip)) (Yr [oM 13 0,Yc 14 7 [tT 13],oM 12 14,Yx 15 12 0,Yx 16 12 1,
 Yx 17 12 2,oO 5 (.alloc [(.int .i64 0),(.pointer none),nS,nS,nS,nS]),oO 6 (.alloc [(.int .i64 0),nS,(.int .u64 0),nS,nS,nS]),Ys 6 5 15,Ys 6 6 16,oM 7 17] (sQ (Yr [oM 18 7,oO 19 (.una .not (tT 18))] (.cond (tT 19) (Yr [oO 4 (.mov kF)] .ret) .skip)) (Yr [Yl 21 6 5,
 Yl 22 6 6,Yl 23 4 3,Yc 24 8 [tT 21,tT 22,tT 23],oM 20 24,Yx 25 20 0,Yx 26 20 1,oO 8 (.alloc Y2),oO 9 (.alloc [Yu,(.int .i64 0),(.int .i64 0)]),Ys 35 8 25,Ys 3 9 26] (sQ (.draw [Yd 0 (Yl 27 6 5) 0 0,Yd 1 (Yl 28 35 8) 0 0,
 Yd 2 (Yc 29 9 [tT 27,tT 28]) 3 1,Yd 3 (oO 30 (.field false 1 0 (tT 29))) 7 1,Yd 4 (oO 31 (.bin .neq .num (tT 30) (.const (.int .u8 1)))) 15 1,Yd 5 (oM 32 31) 31 1,Yd 6 (oF 32 33 (.faddr 32 (tT 8))) 63 0,
 Yd 7 (oF 32 34 (.load false 1 (tT 33))) 127 0,Yd 8 (oF 32 35 (.load true 6 (tT 6))) 63 0,Yd 9 (oF 32 36 (kC 10 [tT 35])) 319 0,Yd 10 (oF 32 37 (.bin .eql .bool (tT 34) (tT 36))) 1023 1,Yd 11 (oO 38 (.pick (tT 32) kT (tT 37))) 2047 1,
 Yd 12 (oM 4 38) 4095 1]) .ret))))))
theorem ok3 : FnOk Tryz.prog 3 39 ir3 [.tmp 4] := Yf Tryz.func3 Tryz.ntmps3 mixed
def ir6 : ACode := (Yr [oO 0 (.mov kF)] (Yr [oO 6 (.bslice [(.int .i64 0)] 1 [(0,(kI 1))]),Yc 7 17 [tT 6],oO 8 (.build [nS,nS] [(0,1,(tT 7))]),oO 9 (.bslice [(.int .i64 0)] 1 [(0,(kI 2))]),Yc 10 17 [tT 9],
 oO 11 (.build [nS,nS] [(0,1,(tT 10))]),oO 1 (.alloc [nS,nS]),oO 2 (.alloc [nS,nS]),Ys 2 1 8,Ys 2 2 11] (sQ (.draw [Yd 0 (Yc 12 18 []) 0 0,Yd 1 (oO 13 (.build [(.bool false),nS,nS,(.int .i64 0),(.int .i64 0)] [(3,
 1,(kI 1))])) 0 0,Yd 2 (Yl 14 2 1) 0 0,Yd 3 (oO 15 (.build [(.bool false),nS,nS,(.int .i64 0),(.int .i64 0)] [(3,1,(kI 2)),(1,2,(tT 14))])) 4 0,Yd 4 (oO 16 (.bslice [(.bool false),nS,nS,(.int .i64 0),(.int .i64 0)] 2 [(0,
 (tT 13)),(1,(tT 15))])) 14 0,Yd 5 (Yl 17 2 2) 0 0,Yd 6 (oO 18 (.bslice [nS,nS] 1 [(0,(tT 17))])) 32 0,Yd 7 (oO 19 (.build [(.int .i64 0),(.pointer none),nS,nS,nS,nS] [(0,1,(kI 2)),(1,1,(tT 12)),(3,1,(tT 16)),
 (5,1,(tT 18))])) 127 1,Yd 8 (oO 3 (.alloc [(.int .i64 0),(.pointer none),nS,nS,nS,nS])) 0 0,Yd 9 (Ys 6 3 19) 511 1]) (sQ (sQ (.draw [Yd 0 (Yl 20 6 3) 0 0,Yd 1 (oO 21 (.bslice [(.int .i64 0)] 2 [(0,(kI 0)),
 (1,(kI 1))])) 0 0,Yd 2 (Yc 22 19 [tT 20,tT 21]) 3 0,Yd 3 (oO 23 (.build [Yu,(.int .i64 0),(.int .i64 0)] [(0,1,(.const (.int .u8 1)))])) 0 0,Yd 4 (oO 24 (.build [Yu,Yu,Yu,Yu,Yu,Yu,Yu,Yu,Yu,Yu,Yu,Yu,Yu,
 Yu,Yu,Yu,Yu,Yu,Yu,Yu,Yu,Yu,Yu,Yu,Yu,Yu,Yu,Yu,Yu,Yu,Yu,Yu,(.bool false),nS,nS,Yu,(.int .i64 0),(.int .i64 0)] [(0,35,(tT 22)),(35,3,(tT 23))])) 15 0,Yd 5 (Yl 25 6 3) 0 0,Yd 6 (oO 26 (.bslice [(.int .i64 0)] 2 [(0,
 (kI 1)),(1,(kI 0))])) 0 0,Yd 7 (Yc 27 19 [tT 25,tT 26]) 103 0,Yd 8 (oO 28 (.build [Yu,(.int .i64 0),(.int .i64 0)] [(0,1,(.const (.int .u8 4))),(1,1,(kI 0)),(2,1,(kI 1))])) 0 0,Yd 9 (oO 29 (.build [Yu,
 Yu,Yu,Yu,Yu,Yu,Yu,Yu,Yu,Yu,Yu,Yu,Yu,Yu,Yu,Yu,Yu,Yu,Yu,Yu,Yu,Yu,Yu,Yu,Yu,Yu,Yu,Yu,Yu,Yu,Yu,Yu,(.bool false),nS,nS,Yu,(.int .i64 0),(.int .i64 0)] [(0,35,(tT 27)),(35,3,(tT 28))])) 487 0,Yd 10 (Yl 30 6 3) 0 0,
 Yd 11 (oO 31 (.bslice [(.int .i64 0)] 1 [(0,(kI 0))])) 0 0,Yd 12 (Yc 32 19 [tT 30,tT 31]) 3303 0,Yd 13 (oO 33 (.build [Yu,(.int .i64 0),(.int .i64 0)] [(0,1,(.const (.int .u8 5)))])) 0 0,Yd 14 (oO 34 (.build [Yu,
 Yu,Yu,Yu,Yu,Yu,Yu,Yu,Yu,Yu,Yu,Yu,Yu,Yu,Yu,Yu,Yu,Yu,Yu,Yu,Yu,Yu,Yu,Yu,Yu,Yu,Yu,Yu,Yu,Yu,Yu,Yu,(.bool false),nS,nS,Yu,(.int .i64 0),(.int .i64 0)] [(0,35,(tT 32)),(35,3,(tT 33))])) 15591 0,Yd 15 (Yl 35 6 3) 0 0,
 Yd 16 (Yl 36 2 2) 0 0,Yd 17 (oO 37 (.bslice [nS,nS] 1 [(0,(tT 36))])) 65536 0,Yd 18 (Yc 38 16 [tT 35,tT 37]) 236775 0,Yd 19 (oO 39 (.build [Yu,(.int .i64 0),(.int .i64 0)] [(0,1,(.const (.int .u8 8))),
 (1,1,(kI 0)),(2,1,(kI 1))])) 0 0,Yd 20 (oO 40 (.build [Yu,Yu,Yu,Yu,Yu,Yu,Yu,Yu,Yu,Yu,Yu,Yu,Yu,Yu,Yu,Yu,Yu,Yu,Yu,Yu,Yu,Yu,Yu,Yu,Yu,Yu,Yu,Yu,Yu,Yu,Yu,Yu,(.bool false),nS,nS,Yu,(.int .i64 0),(.int .i64 0)] [(0,
 35,(tT 38)),(35,3,(tT 39))])) 1023207 0,Yd 21 (Yl 41 6 3) 0 0,Yd 22 (Yl 42 2 1) 0 0,Yd 23 (Yl 43 2 2) 0 0,Yd 24 (oO 44 (.bslice [nS,nS] 2 [(0,(tT 42)),(1,(tT 43))])) 12582912 0,Yd 25 (Yc 45 16 [tT 41,tT 44]) 31956199 0,
 Yd 26 (oO 46 (.build [Yu,(.int .i64 0),(.int .i64 0)] [(0,1,(.const (.int .u8 8))),(1,1,(kI 0)),(2,1,(kI 0))])) 0 0,Yd 27 (oO 47 (.build [Yu,Yu,Yu,Yu,Yu,Yu,Yu,Yu,Yu,Yu,Yu,Yu,Yu,Yu,Yu,Yu,Yu,Yu,Yu,Yu,Yu,
 Yu,Yu,Yu,Yu,Yu,Yu,Yu,Yu,Yu,Yu,Yu,(.bool false),nS,nS,Yu,(.int .i64 0),(.int .i64 0)] [(0,35,(tT 45)),(35,3,(tT 46))])) 132619495 0,Yd 28 (Yl 48 6 3) 0 0,Yd 29 (Yc 49 16 [tT 48,(.const nS)]) 333946087 1,
 Yd 30 (oO 50 (.build [Yu,(.int .i64 0),(.int .i64 0)] [(0,1,(.const (.int .u8 7)))])) 0 0,Yd 31 (oO 51 (.build [Yu,Yu,Yu,Yu,Yu,Yu,Yu,Yu,Yu,Yu,Yu,Yu,Yu,Yu,Yu,Yu,Yu,Yu,Yu,Yu,Yu,Yu,Yu,Yu,Yu,Yu,Yu,Yu,Yu,Yu,
 Yu,Yu,(.bool false),nS,nS,Yu,(.int .i64 0),(.int .i64 0)] [(0,35,(tT 49)),(35,3,(tT 50))])) 1944558823 1,Yd 32 (oO 52 (.bslice [Yu,Yu,Yu,Yu,Yu,Yu,Yu,Yu,Yu,Yu,Yu,Yu,Yu,Yu,Yu,Yu,Yu,Yu,Yu,Yu,Yu,Yu,Yu,Yu,Yu,
 Yu,Yu,Yu,Yu,Yu,Yu,Yu,(.bool false),nS,nS,Yu,(.int .i64 0),(.int .i64 0)] 6 [(0,(tT 24)),(1,(tT 29)),(2,(tT 34)),(3,(tT 40)),(4,(tT 47)),(5,(tT 51))])) 4294967295 1,Yd 33 (Yn 53 52) 8589934591 1,Yd 34 (oO 54 (.mov (kI 0))) 0 0]) (.block 0 (.loop (Yr [oO 55 (.bin .lss .num (tT 54) (tT 53))] (sQ (.cond (tT 55) .skip (.exit 0)) (sQ (.block 1 (Yr [Yi 56 38 52 54,
 Yl 57 38 56,oO 5 (.alloc [Yu,Yu,Yu,Yu,Yu,Yu,Yu,Yu,Yu,Yu,Yu,Yu,Yu,Yu,Yu,Yu,Yu,Yu,Yu,Yu,Yu,Yu,Yu,Yu,Yu,Yu,Yu,Yu,Yu,Yu,Yu,Yu,(.bool false),nS,nS,Yu,(.int .i64 0),(.int .i64 0)]),Ys 38 5 57] (sQ (.draw [Yd 0 (Yl 58 6 3) 0 0,
 Yd 1 (Ya 59 0 5) 0 0,Yd 2 (Yl 60 35 59) 2 0,Yd 3 (Yc 61 9 [tT 58,tT 60]) 7 0,Yd 4 (Ya 62 35 5) 0 0,Yd 5 (Yl 63 3 62) 16 0,Yd 6 (oO 64 (.bin .neq (.cells [0,0,0]) (tT 61) (tT 63))) 63 1]) (.cond (tT 64) (Yr [oO 0 (.mov kF)] .ret) .skip)))) (Yg [oO 65 (.bin .add .num (tT 54) (kI 1)),
 oM 54 65]))))))) (Yr [oO 66 (.bslice [(.int .i64 0)] 2 [(0,(kI 1)),(1,(kI 2))]),Yc 67 17 [tT 66],oO 68 (.build [nS,nS] [(0,1,(tT 67))]),oO 69 (.bslice [nS,nS] 1 [(0,(tT 68))]),Ya 70 4 3,Ys 1 70 69] (sQ (.draw [Yd 0 (Yl 71 6 3) 0 0,
 Yd 1 (Yl 72 6 3) 0 0,Yd 2 (Yl 73 2 2) 0 0,Yd 3 (oO 74 (.bslice [nS,nS] 1 [(0,(tT 73))])) 4 0,Yd 4 (Yc 75 16 [tT 72,tT 74]) 14 0,Yd 5 (Yc 76 9 [tT 71,tT 75]) 31 1,Yd 6 (oO 77 (.build [Yu,(.int .i64 0),(.int .i64 0)] [(0,
 1,(.const (.int .u8 1)))])) 0 0,Yd 7 (oO 78 (.bin .eql (.cells [0,0,0]) (tT 76) (tT 77))) 127 1,Yd 8 (oM 0 78) 255 1]) .ret))))))
theorem ok6 : FnOk Tryz.prog 6 79 ir6 [.tmp 0] := Yf Tryz.func6 Tryz.ntmps6 mixed
def ir7 : ACode := (Yr [oO 2 (.alloc [(.int .i64 0),(.pointer none),nS,nS,nS,nS]),oO 3 (.alloc [(.int .i64 0),nS,(.int .u64 0),nS,nS,nS]),oO 4 (.mov kF)] (Yr [oM 8 0,Yc 9 20 [tT 8],oO 5 (.alloc [(.int .i64 0),
 nS,(.int .u64 0),nS,nS,nS]),Ys 6 5 9] (Yr [Yl 11 6 5,Yc 12 21 [tT 11],oM 10 12,Yx 13 10 0,Yx 14 10 1,oO 6 (.alloc [(.int .i64 0),(.pointer none),nS,nS,nS,nS]),Ys 6 6 13,oM 7 14] (sQ (.draw [Yd 0 (Yl 15 6 6) 0 0,
 Yd 1 (Yl 16 6 5) 0 0,Yd 2 (oM 17 7) 0 0,Yd 3 (Ys 6 2 15) 1 2,Yd 4 (Ys 6 3 16) 11 1,Yd 5 (oM 4 17) 31 1]) .ret))))
theorem ok7 : FnOk Tryz.prog 7 18 ir7 [.cell 2 true 6, .cell 3 true 6, .tmp 4] := Yf Tryz.func7 Tryz.ntmps7 mixed
def ir8 : ACode := (Yr [Yb 3 0,Yb 4 1,Yb 5 2,oO 6 (.alloc Y2),oO 7 (.alloc [Yu,(.int .i64 0),(.int .i64 0)])] (Yr [Yl 12 6 4,Yl 13 4 5,Yc 14 22 [tT 12,tT 13],oM 11 14,Yx 15 11 0,Yx 16 11 1,oM 8 15,oM 9 16] (sQ (.draw [Yd 0 (Yl 17 6 3) 0 1,
 Yd 1 (oM 18 9) 0 0,Yd 2 (Yc 19 23 [tT 18]) 2 0,Yd 3 (Yc 20 16 [tT 17,tT 19]) 7 1,Yd 4 (oO 10 (.alloc Y2)) 0 0,Yd 5 (Ys 35 10 20) 31 1]) (sQ (Yr [Ya 21 0 5,Yk 22 21] (.cond (tT 22) (Yg [Yl 23 6 3,oM 24 8,
 Yc 25 19 [tT 23,tT 24],Ys 35 10 25]) .skip)) (sQ (.draw [Yd 0 (Yl 26 35 10) 0 0,Yd 1 (Yl 27 6 4) 0 0,Yd 2 (Ya 28 0 5) 0 0,Yd 3 (Yk 29 28) 4 0,Yd 4 (oM 30 8) 0 0,Yd 5 (oM 31 9) 0 0,Yd 6 (Yc 32 25 [tT 27,
 tT 29,tT 30,tT 31]) 62 0,Yd 7 (Yc 33 24 [tT 32]) 126 0,Yd 8 (Ys 35 6 26) 255 1,Yd 9 (Ys 3 7 33) 511 1]) .ret)))))
theorem ok8 : FnOk Tryz.prog 8 34 ir8 [.cell 6 true 35, .cell 7 true 3] := Yf Tryz.func8 Tryz.ntmps8 mixed
def ir9 : ACode := (Yr [Yb 2 0,Yb 3 1,oO 4 (.alloc [Yu,(.int .i64 0),(.int .i64 0)])] (Yr [Yl 8 6 2,Yc 9 26 [tT 8],oO 5 (.alloc Y1),Ys 32 5 9] (sQ (Yr [Ya 10 0 3,Yl 11 32 10,Yl 12 32 5,oO 13 (.bin .neq (.cells Y3) (tT 11) (tT 12)),
 oM 14 13,oF 14 15 (.load true 32 (tT 5)),oF 14 16 (.build Y1 []),oF 14 17 (.bin .eql (.cells Y3) (tT 15) (tT 16)),oO 18 (.pick (tT 14) kT (tT 17))] (.cond (tT 18) (Yr [oO 19 (.build [Yu,(.int .i64 0),(.int .i64 0)] [(0,
 1,(.const (.int .u8 2)))]),Ys 3 4 19] .ret) .skip)) (sQ (Yr [Yl 20 35 3,Yc 21 27 [tT 20],oO 22 (.bin .neq .num (tT 21) (kI 0)),oM 23 22,oF 23 24 (.load true 6 (tT 2)),oF 23 25 (.faddr 34 (tT 3)),oF 23 26 (.load false 1 (tT 25)),
 oF 23 27 (kC 28 [tT 24,tT 26]),oF 23 28 (.una .not (tT 27)),oO 29 (.pick (tT 23) kT (tT 28))] (.cond (tT 29) (Yr [oO 30 (.build [Yu,(.int .i64 0),(.int .i64 0)] [(0,1,(.const (.int .u8 3)))]),Ys 3 4 30] .ret) .skip)) (sQ (Yr [Ya 31 33 3,
 Yk 32 31,Yn 33 32,oO 34 (.mov (kI 0))] (.block 0 (.loop (Yr [oO 35 (.bin .lss .num (tT 34) (tT 33))] (sQ (.cond (tT 35) .skip (.exit 0)) (sQ (.block 1 (Yr [Yi 36 1 32 34,Yk 37 36,oM 7 37] (Yr [oM 38 7,
 oO 39 (.bin .lss .num (tT 38) (kI 0)),oM 40 39,oF 40 41 (.mov (tT 7)),oF 40 42 (.faddr 3 (tT 2)),oF 40 43 (.load false 1 (tT 42)),oF 40 44 (.len (tT 43)),oF 40 45 (.bin .geq .num (tT 41) (tT 44)),oO 46 (.pick (tT 40) kT (tT 45))] (.cond (tT 46) (Yr [oO 47 (.build [Yu,
 (.int .i64 0),(.int .i64 0)] [(0,1,(.const (.int .u8 3)))]),Ys 3 4 47] .ret) .skip)))) (Yg [oO 48 (.bin .add .num (tT 34) (kI 1)),oM 34 48]))))))) (sQ (Yr [Ya 49 32 3,Yk 50 49] (.cond (tT 50) (Yr [Yl 51 6 2,
 Ya 52 33 3,Yk 53 52,Yc 54 29 [tT 51,tT 53],Ys 3 4 54] .ret) .skip)) (Yr [Yl 55 6 2,Ya 56 34 3,Yk 57 56,Yc 58 30 [tT 55,tT 57],Ys 3 4 58] .ret)))))))
theorem ok9 : FnOk Tryz.prog 9 59 ir9 [.cell 4 true 3] := Yf Tryz.func9 Tryz.ntmps9 mixed
def ir10 : ACode := (Yr [Yb 1 0,oO 2 (.mov kF)] (sQ (Yr [Yl 5 6 1,Yc 6 31 [tT 5],Yn 7 6,oO 8 (.mov (kI 0))] (.block 0 (.loop (Yr [oO 9 (.bin .lss .num (tT 8) (tT 7))] (sQ (.cond (tT 9) .skip (.exit 0)) (sQ (.block 1 (Yr [Yi 10 1 6 8,
 Yk 11 10,oM 4 11] (Yr [Yl 12 6 1,oM 13 4,Yc 14 32 [tT 12,tT 13]] (.cond (tT 14) (Yr [oO 2 (.mov kT)] .ret) .skip)))) (Yg [oO 15 (.bin .add .num (tT 8) (kI 1)),oM 8 15]))))))) (Yr [oO 2 (.mov kF)] .ret)))
theorem ok10 : FnOk Tryz.prog 10 16 ir10 [.tmp 2] := Yf Tryz.func10 Tryz.ntmps10 mixed
def ir11 : ACode := (Yr [oO 2 (.alloc [nS])] (Yr [oM 3 0,Yc 4 33 [tT 3],Yc 5 17 [tT 4],Ys 1 2 5] .ret))
theorem ok11 : FnOk Tryz.prog 11 6 ir11 [.cell 2 true 1] := Yf Tryz.func11 Tryz.ntmps11 mixed
def ir15 : ACode := (Yr [Yb 2 0,oO 4 (.alloc [nS])] (sQ (Yr [oM 6 1,oO 7 (.bin .lss .num (tT 6) (kI 0)),oM 8 7,oF 8 9 (.mov (tT 1)),oF 8 10 (.bin .gtr .num (tT 9) (kI 4095)),oO 11 (.pick (tT 8) kT (tT 10)),
 oM 12 11,oF 12 13 (.load true 1 (tT 2)),oF 12 14 (.mov (tT 1)),oF 12 15 (kC 35 [tT 13,tT 14]),oO 16 (.pick (tT 12) kT (tT 15))] (.cond (tT 16) (Yr [Yl 17 1 2,Ys 1 4 17] .ret) .skip)) (Yr [Ya 18 0 2,Yk 19 18,
 Yn 20 19,oM 21 1,oO 22 (.bin .quo .num (tT 21) (kI 64)),oO 23 (.bin .add .num (tT 22) (kI 1)),oO 24 (.mx (tT 20) (tT 23)),oO 25 (.mslice [(.int .u64 0)] 8 (tT 24) (tT 24)),oM 5 25] (Yr [oM 26 5,Ya 27 0 2,
 Yk 28 27,oO 29 (.copy 1 (tT 26) (tT 28))] (sQ (.draw [Yd 0 (oM 30 5) 0 1,Yd 1 (oM 31 1) 0 1,Yd 2 (oO 32 (.bin .quo .num (tT 31) (kI 64))) 2 1,Yd 3 (Yi 33 1 30 32) 7 1,Yd 4 (Yk 34 33) 15 1,Yd 5 (oM 35 1) 0 0,
 Yd 6 (oO 36 (.bin .rem .num (tT 35) (kI 64))) 32 0,Yd 7 (oO 37 (.bin .shl .num (.const (.int .u64 1)) (tT 36))) 96 0,Yd 8 (oO 38 (.bin .or .num (tT 34) (tT 37))) 255 1,Yd 9 (Yi 39 1 30 32) 511 1,Yd 10 (Ys 1 39 38) 1023 1]) (Yr [oM 40 5,
 oO 41 (.build [nS] [(0,1,(tT 40))]),Ys 1 4 41] .ret))))))
theorem ok15 : FnOk Tryz.prog 15 42 ir15 [.cell 4 true 1] := Yf Tryz.func15 Tryz.ntmps15 mixed
def ir16 : ACode := (Yr [Yb 2 0,oO 4 (.alloc Y2)] (Yr [Yl 5 6 2,Yc 6 26 [tT 5],oM 7 1,Yc 8 46 [tT 7],oO 9 (.build Y2 [(0,32,(tT 6)),(34,1,(tT 8))]),Ys 35 4 9] .ret))
theorem ok16 : FnOk Tryz.prog 16 10 ir16 [.cell 4 true 35] := Yf Tryz.func16 Tryz.ntmps16 mixed
def ir17 : ACode := (Yr [oO 2 (.alloc [nS])] (Yr [oO 3 (.mov (.const (.int .i64 (-1))))] (sQ (Yr [oM 9 0,Yn 10 9,oO 11 (.mov (kI 0))] (.block 0 (.loop (Yr [oO 12 (.bin .lss .num (tT 11) (tT 10))] (sQ (.cond (tT 12) .skip (.exit 0)) (sQ (.block 1 (Yr [Yi 13 1 9 11,
 Yk 14 13,oM 5 14] (Yr [oM 15 5,oO 16 (.bin .leq .num (tT 15) (kI 4095))] (.cond (tT 16) (Yg [oM 17 3,oM 18 5,oO 19 (.mx (tT 17) (tT 18)),oM 3 19]) .skip)))) (Yg [oO 20 (.bin .add .num (tT 11) (kI 1)),oM 11 20]))))))) (sQ (Yr [oM 21 3,
 oO 22 (.bin .lss .num (tT 21) (kI 0))] (.cond (tT 22) (Yr [oO 23 (.build [nS] []),Ys 1 2 23] .ret) .skip)) (Yr [oM 24 3,oO 25 (.bin .quo .num (tT 24) (kI 64)),oO 26 (.bin .add .num (tT 25) (kI 1)),oO 27 (.mslice [(.int .u64 0)] 8 (tT 26) (tT 26)),
 oM 6 27] (sQ (Yr [oM 28 0,Yn 29 28,oO 30 (.mov (kI 0))] (.block 2 (.loop (Yr [oO 31 (.bin .lss .num (tT 30) (tT 29))] (sQ (.cond (tT 31) .skip (.exit 2)) (sQ (.block 3 (Yr [Yi 32 1 28 30,Yk 33 32,oM 8 33] (Yr [oM 34 8,
 oO 35 (.bin .geq .num (tT 34) (kI 0)),oM 36 35,oT 36 37 (.mov (tT 8)),oT 36 38 (.mov (tT 3)),oT 36 39 (.bin .leq .num (tT 37) (tT 38)),oO 40 (.pick (tT 36) (tT 39) kF)] (.cond (tT 40) (.draw [Yd 0 (oM 41 6) 0 1,
 Yd 1 (oM 42 8) 0 1,Yd 2 (oO 43 (.bin .quo .num (tT 42) (kI 64))) 2 1,Yd 3 (Yi 44 1 41 43) 7 1,Yd 4 (Yk 45 44) 15 1,Yd 5 (oM 46 8) 0 0,Yd 6 (oO 47 (.bin .rem .num (tT 46) (kI 64))) 32 0,Yd 7 (oO 48 (.bin .shl .num (.const (.int .u64 1)) (tT 47))) 96 0,
 Yd 8 (oO 49 (.bin .or .num (tT 45) (tT 48))) 255 1,Yd 9 (Yi 50 1 41 43) 511 1,Yd 10 (Ys 1 50 49) 1023 1]) .skip)))) (Yg [oO 51 (.bin .add .num (tT 30) (kI 1)),oM 30 51]))))))) (Yr [oM 52 6,Yc 53 47 [tT 52],
 Ys 1 2 53] .ret)))))))
theorem ok17 : FnOk Tryz.prog 17 54 ir17 [.cell 2 true 1] := Yf Tryz.func17 Tryz.ntmps17 mixed
def ir18 : ACode := (Yr [oO 0 (.mov (.const (.pointer none)))] (Yr [Yc 4 48 [kI 64,(.const nS)],oM 3 4,Yx 5 3 0,Yx 6 3 1,oM 1 5,oM 2 6] (Yr [oM 7 1,oO 8 (.build [(.pointer none)] [(0,1,(tT 7))]),Yb 9 8,
 oM 0 9] .ret)))
theorem ok18 : FnOk Tryz.prog 18 10 ir18 [.tmp 0] := Yf Tryz.func18 Tryz.ntmps18 mixed
def ir19 : ACode := (Yr [Yb 2 0,oO 4 (.alloc Y2)] (Yr [Yl 5 6 2,Yc 6 26 [tT 5],oM 7 1,Yc 8 49 [tT 7],oO 9 (.build Y2 [(0,32,(tT 6)),(32,1,kT),(33,1,(tT 8))]),Ys 35 4 9] .ret))
theorem ok19 : FnOk Tryz.prog 19 10 ir19 [.cell 4 true 35] := Yf Tryz.func19 Tryz.ntmps19 mixed
def ir20 : ACode := (Yr [oO 2 (.alloc [(.int .i64 0),nS,(.int .u64 0),nS,nS,nS])] (Yr [oM 26 0,oO 27 (.build [nS,(.int .i64 0)] [(0,1,(tT 26))]),Yb 28 27,oM 3 28] (Yr [oM 29 3,Yc 30 50 [tT 29],oO 31 (.bin .rem .num (tT 30) (kI 4)),
 oO 32 (.bin .add .num (kI 2) (tT 31)),oO 33 (.build [(.int .i64 0),nS,(.int .u64 0),nS,nS,nS] [(0,1,(tT 32))]),oO 4 (.alloc [(.int .i64 0),nS,(.int .u64 0),nS,nS,nS]),Ys 6 4 33] (Yr [Ya 34 0 4,Yk 35 34,
 oO 36 (.conv .u64 (tT 35)),oO 37 (.bin .shl .num (.const (.int .u8 2)) (tT 36)),oO 38 (.bin .sub .num (tT 37) (.const (.int .u8 2))),oM 5 38] (Yr [oM 39 3,Yc 40 50 [tT 39],oM 6 40] (Yr [oO 7 (.mov (kI 0))] (sQ (Yr [oO 8 (.mov (kI 1))] (.block 0 (.loop (sQ (Yr [oM 41 8,
 Ya 42 0 4,Yk 43 42,oO 44 (.bin .lss .num (tT 41) (tT 43))] (.cond (tT 44) .skip (.exit 0))) (sQ (.block 1 (Yr [oM 47 8,oO 48 (.bin .add .num (tT 47) (kI 1)),oM 9 48] (.block 2 (.loop (sQ (Yr [oM 49 9,Ya 50 0 4,
 Yk 51 50,oO 52 (.bin .leq .num (tT 49) (tT 51))] (.cond (tT 52) .skip (.exit 2))) (sQ (.block 3 (sQ (Yr [oM 55 6,oM 56 7,oO 57 (.bin .rem .num (tT 56) (kI 8)),oO 58 (.conv .u64 (tT 57)),oO 59 (.bin .shr .num (tT 55) (tT 58)),
 oO 60 (.bin .rem .num (tT 59) (kI 2)),oO 61 (.bin .eql .num (tT 60) (kI 1)),oM 62 61,oT 62 63 (.mov (tT 7)),oT 62 64 (.bin .rem .num (tT 63) (kI 3)),oT 62 65 (.bin .neq .num (tT 64) (kI 2)),oO 66 (.pick (tT 62) (tT 65) kF)] (.cond (tT 66) (Yg [Ya 68 1 4,
 Yk 69 68,oM 70 8,oM 71 9,Yc 72 51 [tT 69,tT 70,tT 71],oM 67 72,Yx 73 67 0,Yx 74 67 1,Ya 75 1 4,Ys 1 75 73]) .skip)) (Yg [oM 76 7,oO 77 (.bin .add .num (tT 76) (kI 1)),oM 7 77]))) (Yg [oM 53 9,oO 54 (.bin .add .num (tT 53) (kI 1)),
 oM 9 54]))))))) (Yg [oM 45 8,oO 46 (.bin .add .num (tT 45) (kI 1)),oM 8 46])))))) (Yr [oM 78 3,Yc 79 50 [tT 78],oO 80 (.conv .u8 (tT 79)),oM 81 5,oO 82 (.bin .and .num (tT 80) (tT 81)),oO 83 (.conv .u64 (tT 82)),
 Ya 84 2 4,Ys 1 84 83] (Yr [oM 85 3,Yc 86 50 [tT 85],oO 87 (.bin .rem .num (tT 86) (kI 7)),oM 10 87] (sQ (Yr [oO 11 (.mov (kI 0))] (.block 4 (.loop (sQ (Yr [oM 88 11,oM 89 10,oO 90 (.bin .lss .num (tT 88) (tT 89))] (.cond (tT 90) .skip (.exit 4))) (sQ (.block 5 (Yr [oM 93 3,
 Yc 94 50 [tT 93],oM 12 94] (Yr [oM 95 3,Yc 96 50 [tT 95],oM 13 96] (Yr [oM 97 3,Yc 98 50 [tT 97],oM 14 98] (Yr [oM 99 3,Yc 100 50 [tT 99],oM 15 100] (Yr [oM 101 12,oO 102 (.bin .rem .num (tT 101) (kI 4)),
 oO 103 (.bin .eql .num (tT 102) (kI 3)),oM 104 13,Ya 105 0 4,Yk 106 105,oO 107 (.bin .rem .num (tT 104) (tT 106)),oO 108 (.bin .add .num (kI 1) (tT 107)),oM 109 11,oO 110 (.build [(.bool false),(.int .u64 0),
 (.int .u64 0),(.int .i64 0),(.int .i64 0)] [(0,1,(tT 103)),(3,1,(tT 108)),(4,1,(tT 109))]),oO 16 (.alloc [(.bool false),(.int .u64 0),(.int .u64 0),(.int .i64 0),(.int .i64 0)]),Ys 5 16 110] (sQ (Yr [Ya 111 0 16,
 Yk 112 111,oO 113 (.una .not (tT 112))] (.cond (tT 113) (Yg [oM 114 14,oM 115 15,oM 116 5,Yc 117 52 [tT 114,tT 115,tT 116],Ya 118 1 16,Ys 2 118 117]) .skip)) (Yg [Ya 119 3 4,Yk 120 119,Yl 121 5 16,oO 122 (.bslice [(.bool false),
 (.int .u64 0),(.int .u64 0),(.int .i64 0),(.int .i64 0)] 1 [(0,(tT 121))]),oO 123 (.append [(.bool false),(.int .u64 0),(.int .u64 0),(.int .i64 0),(.int .i64 0)] 40 (tT 120) (tT 122)),Ya 124 3 4,Ys 1 124 123])))))))) (Yg [oM 91 11,
 oO 92 (.bin .add .num (tT 91) (kI 1)),oM 11 92])))))) (Yr [oM 125 3,Yc 126 50 [tT 125],oO 127 (.bin .rem .num (tT 126) (kI 4)),oM 17 127] (Yr [oM 128 3,Yc 129 50 [tT 128],oO 130 (.bin .rem .num (tT 129) (kI 3)),
 oO 131 (.bin .add .num (kI 1) (tT 130)),oM 18 131] (sQ (Yr [oO 19 (.mov (kI 0))] (.block 6 (.loop (sQ (Yr [oM 132 19,oM 133 17,oO 134 (.bin .lss .num (tT 132) (tT 133))] (.cond (tT 134) .skip (.exit 6))) (sQ (.block 7 (Yr [oM 137 3,
 Yc 138 50 [tT 137],oM 20 138] (Yr [oM 139 3,Yc 140 50 [tT 139],oM 21 140] (Yr [oM 141 20,oM 142 19,Ya 143 0 4,Yk 144 143,oO 145 (.bin .rem .num (tT 142) (tT 144)),oO 146 (.conv .u64 (tT 145)),oO 147 (.bin .shl .num (kI 2) (tT 146)),
 oO 148 (.bin .or .num (tT 141) (tT 147)),oM 149 21,oM 150 5,Yc 151 52 [tT 148,tT 149,tT 150],oO 22 (.alloc [(.int .u64 0),(.int .u64 0)]),Ys 2 22 151] (sQ (.draw [Yd 0 (Yl 152 2 22) 0 0,Yd 1 (Ya 153 1 4) 0 0,
 Yd 2 (Yk 154 153) 2 0,Yd 3 (Ya 155 2 4) 0 0,Yd 4 (Yk 156 155) 8 0,Yd 5 (Yc 157 54 [tT 154,tT 156]) 30 0,Yd 6 (Yc 158 53 [tT 152,tT 157]) 63 1,Yd 7 (oO 159 (.una .not (tT 158))) 127 1]) (.cond (tT 159) (Yg [Ya 160 4 4,
 Yk 161 160,Yl 162 2 22,oO 163 (.bslice [(.int .u64 0),(.int .u64 0)] 1 [(0,(tT 162))]),oO 164 (.append [(.int .u64 0),(.int .u64 0)] 16 (tT 161) (tT 163)),Ya 165 4 4,Ys 1 165 164]) .skip)))))) (Yg [oM 135 19,
 oO 136 (.bin .add .num (tT 135) (kI 1)),oM 19 136])))))) (sQ (Yr [oO 23 (.mov (kI 0))] (.block 8 (.loop (sQ (Yr [oM 166 23,oM 167 18,oO 168 (.bin .lss .num (tT 166) (tT 167))] (.cond (tT 168) .skip (.exit 8))) (sQ (.block 9 (Yr [oM 171 3,
 Yc 172 50 [tT 171],oM 24 172] (Yr [oM 173 3,Yc 174 50 [tT 173],oM 25 174] (.draw [Yd 0 (Ya 175 5 4) 0 1,Yd 1 (Yk 176 175) 1 1,Yd 2 (oM 177 24) 0 0,Yd 3 (oM 178 25) 0 0,Yd 4 (oM 179 5) 0 0,Yd 5 (Yc 180 52 [tT 177,
 tT 178,tT 179]) 28 0,Yd 6 (oO 181 (.bslice [(.int .u64 0),(.int .u64 0)] 1 [(0,(tT 180))])) 60 0,Yd 7 (oO 182 (.append [(.int .u64 0),(.int .u64 0)] 16 (tT 176) (tT 181))) 127 1,Yd 8 (Ya 183 5 4) 255 1,
 Yd 9 (Ys 1 183 182) 511 1])))) (Yg [oM 169 23,oO 170 (.bin .add .num (tT 169) (kI 1)),oM 23 170])))))) (Yr [Yl 184 6 4,Ys 6 2 184] .ret)))))))))))))))
theorem ok20 : FnOk Tryz.prog 20 185 ir20 [.cell 2 true 6] := Yf Tryz.func20 Tryz.ntmps20 mixed
def ir21 : ACode := (Yr [Yb 1 0,oO 2 (.alloc [(.int .i64 0),(.pointer none),nS,nS,nS,nS]),oO 3 (.mov kF)] (sQ (.draw [Yd 0 (Ya 11 0 1) 0 0,Yd 1 (Yk 12 11) 1 0,Yd 2 (Yc 13 18 []) 0 0,Yd 3 (Ya 14 2 1) 0 0,
 Yd 4 (Yk 15 14) 8 0,Yd 5 (Yc 16 11 [tT 15]) 28 0,Yd 6 (Ya 17 4 1) 0 0,Yd 7 (Yk 18 17) 64 0,Yd 8 (Yc 19 23 [tT 18]) 252 0,Yd 9 (Ya 20 5 1) 0 0,Yd 10 (Yk 21 20) 512 0,Yd 11 (Yc 22 23 [tT 21]) 2044 0,Yd 12 (oO 23 (.build [(.int .i64 0),
 (.pointer none),nS,nS,nS,nS] [(0,1,(tT 12)),(1,1,(tT 13)),(2,1,(tT 16)),(4,1,(tT 19)),(5,1,(tT 22))])) 4095 1,Yd 13 (oO 4 (.alloc [(.int .i64 0),(.pointer none),nS,nS,nS,nS])) 0 0,Yd 14 (Ys 6 4 23) 16383 1]) (sQ (Yr [Ya 24 1 1,
 Yk 25 24,Yn 26 25,oO 27 (.mov (kI 0))] (.block 0 (.loop (Yr [oO 28 (.bin .lss .num (tT 27) (tT 26))] (sQ (.cond (tT 28) .skip (.exit 0)) (sQ (.block 1 (Yr [Yi 29 2 25 27,Yl 30 2 29,oO 6 (.alloc [(.int .i64 0),
 (.int .i64 0)]),Ys 2 6 30] (Yr [Ya 32 1 4,Yk 33 32,oO 34 (.iaddrA 2 1 (tT 6) (kI 0)),Yk 35 34,oO 36 (.iaddrA 2 1 (tT 6) (kI 1)),Yk 37 36,Yc 38 55 [tT 33,tT 35,tT 37],oM 31 38,Yx 39 31 0,Yx 40 31 1,oM 7 39,
 oM 8 40] (sQ (Yr [oM 41 8,oO 42 (.bin .neq .num (tT 41) (kI 0))] (.cond (tT 42) (Yr [oO 43 (.build [(.int .i64 0),(.pointer none),nS,nS,nS,nS] []),Ys 6 2 43,oO 3 (.mov kF)] .ret) .skip)) (Yg [oM 44 7,Ya 45 1 4,
 Ys 1 45 44]))))) (Yg [oO 46 (.bin .add .num (tT 27) (kI 1)),oM 27 46]))))))) (sQ (Yr [Ya 47 3 1,Yk 48 47,Yn 49 48,oO 50 (.mov (kI 0))] (.block 2 (.loop (Yr [oO 51 (.bin .lss .num (tT 50) (tT 49))] (sQ (.cond (tT 51) .skip (.exit 2)) (sQ (.block 3 (Yr [Yi 52 5 48 50,
 Yl 53 5 52,oO 10 (.alloc [(.bool false),(.int .u64 0),(.int .u64 0),(.int .i64 0),(.int .i64 0)]),Ys 5 10 53] (.draw [Yd 0 (Ya 54 3 4) 0 0,Yd 1 (Yk 55 54) 1 0,Yd 2 (Ya 56 0 10) 0 0,Yd 3 (Yk 57 56) 4 0,
 Yd 4 (Ya 58 1 10) 0 0,Yd 5 (Yl 59 2 58) 16 0,Yd 6 (Yc 60 56 [tT 59]) 48 0,Yd 7 (Ya 61 3 10) 0 0,Yd 8 (Yk 62 61) 128 0,Yd 9 (Ya 63 4 10) 0 0,Yd 10 (Yk 64 63) 512 0,Yd 11 (oO 65 (.build [(.bool false),nS,
 nS,(.int .i64 0),(.int .i64 0)] [(0,1,(tT 57)),(1,2,(tT 60)),(3,1,(tT 62)),(4,1,(tT 64))])) 2044 0,Yd 12 (oO 66 (.bslice [(.bool false),nS,nS,(.int .i64 0),(.int .i64 0)] 1 [(0,(tT 65))])) 4092 0,Yd 13 (oO 67 (.append [(.bool false),
 nS,nS,(.int .i64 0),(.int .i64 0)] 72 (tT 55) (tT 66))) 8191 1,Yd 14 (Ya 68 3 4) 16383 1,Yd 15 (Ys 1 68 67) 32767 1]))) (Yg [oO 69 (.bin .add .num (tT 50) (kI 1)),oM 50 69]))))))) (sQ (.draw [Yd 0 (Yl 70 6 4) 0 0,
 Yd 1 (Ya 71 1 4) 0 0,Yd 2 (Yk 72 71) 2 0,Yd 3 (oO 73 (.bin .neq .ptr (tT 72) (.const (.pointer none)))) 6 0,Yd 4 (Ys 6 2 70) 1 2,Yd 5 (oM 3 73) 31 1]) .ret)))))
theorem ok21 : FnOk Tryz.prog 21 74 ir21 [.cell 2 true 6, .tmp 3] := Yf Tryz.func21 Tryz.ntmps21 mixed
def ir22 : ACode := (Yr [Yb 2 0,Yb 3 1,oO 4 (.mov (.const nS)),oO 5 (.mov (.const nS))] (Yr [oO 6 (.mov (.const nS))] (Yr [oO 7 (.mov (.const nS))] (Yr [Ya 15 3 2,Yk 16 15,Yn 17 16,oM 8 17] (sQ (Yr [Ya 18 3 3,
 Yk 19 18] (.cond (tT 19) (Yg [oM 20 8,oO 21 (.bin .add .num (tT 20) (kI 2)),oM 8 21]) .skip)) (sQ (Yr [Ya 22 1 3,Yk 23 22,Ya 24 1 3,Yk 25 24,Yn 26 25,oO 27 (.mn (tT 26) (kI 8)),oO 28 (.slc 1 (tT 23) none (some (tT 27)) none),
 Yn 29 28,oO 30 (.mov (kI 0))] (.block 0 (.loop (Yr [oO 31 (.bin .lss .num (tT 30) (tT 29))] (sQ (.cond (tT 31) .skip (.exit 0)) (sQ (.block 1 (Yr [Yi 32 1 28 30,Yk 33 32,oM 10 33] (Yr [oM 34 8,oO 35 (.bin .gtr .num (tT 34) (kI 0))] (.cond (tT 35) (Yg [oM 36 6,
 oM 37 10,oO 38 (.conv .i64 (tT 37)),oM 39 8,oO 40 (.bin .rem .num (tT 38) (tT 39)),oO 41 (.bslice [(.int .i64 0)] 1 [(0,(tT 40))]),oO 42 (.append [(.int .i64 0)] 8 (tT 36) (tT 41)),oM 6 42]) .skip)))) (Yg [oO 43 (.bin .add .num (tT 30) (kI 1)),
 oM 30 43]))))))) (Yr [Ya 44 0 2,Yk 45 44,oO 46 (.bin .shl .num (.const (.int .u64 2)) (tT 45)),oO 47 (.bin .sub .num (tT 46) (.const (.int .u64 2))),oM 11 47] (sQ (Yr [Ya 48 2 3,Yk 49 48,Ya 50 2 3,Yk 51 50,
 Yn 52 51,oO 53 (.mn (tT 52) (kI 6)),oO 54 (.slc 3 (tT 49) none (some (tT 53)) none),Yn 55 54,oO 56 (.mov (kI 0))] (.block 2 (.loop (Yr [oO 57 (.bin .lss .num (tT 56) (tT 55))] (sQ (.cond (tT 57) .skip (.exit 2)) (sQ (.block 3 (Yr [Yi 58 3 54 56,
 Yl 59 3 58,oO 13 (.alloc [Yu,Yu,(.bool false)]),Ys 3 13 59] (Yr [Ya 60 0 13,Yk 61 60,Ya 62 1 13,Yk 63 62,Yc 64 57 [tT 61,tT 63],oO 14 (.alloc [(.int .u64 0),(.int .u64 0)]),Ys 2 14 64] (sQ (Yr [Ya 65 3 3,
 Yk 66 65,oO 67 (.una .not (tT 66))] (.cond (tT 67) (Yg [Ya 68 0 14,Yk 69 68,oM 70 11,oO 71 (.bin .and .num (tT 69) (tT 70)),Ya 72 1 14,Yk 73 72,oM 74 11,oO 75 (.bin .and .num (tT 73) (tT 74)),oO 76 (.build [(.int .u64 0),
 (.int .u64 0)] [(0,1,(tT 71)),(1,1,(tT 75))]),Ys 2 14 76]) .skip)) (Yg [oM 77 7,Yl 78 2 14,oO 79 (.bslice [(.int .u64 0),(.int .u64 0)] 1 [(0,(tT 78))]),oO 80 (.append [(.int .u64 0),(.int .u64 0)] 16 (tT 77) (tT 79)),
 oM 7 80]))))) (Yg [oO 81 (.bin .add .num (tT 56) (kI 1)),oM 56 81]))))))) (sQ (Yr [Ya 82 0 3,Yk 83 82] (.cond (tT 83) (Yr [oM 84 6,oM 4 84,oO 5 (.mov (.const nS))] .ret) .skip)) (Yr [oM 85 7,oO 4 (.mov (.const nS)),
 oM 5 85] .ret))))))))))
theorem ok22 : FnOk Tryz.prog 22 86 ir22 [.tmp 4, .tmp 5] := Yf Tryz.func22 Tryz.ntmps22 mixed
def ir23 : ACode := (Yr [oO 2 (.mov (.const nS))] (Yr [oO 3 (.mov (.const nS))] (sQ (Yr [oM 6 0,Yn 7 6,oO 8 (.mov (kI 0))] (.block 0 (.loop (Yr [oO 9 (.bin .lss .num (tT 8) (tT 7))] (sQ (.cond (tT 9) .skip (.exit 0)) (sQ (.block 1 (Yr [Yi 10 2 6 8,
 Yl 11 2 10,oO 5 (.alloc [(.int .u64 0),(.int .u64 0)]),Ys 2 5 11] (Yg [oM 12 3,Yl 13 2 5,Yc 14 56 [tT 13],oO 15 (.bslice [nS,nS] 1 [(0,(tT 14))]),oO 16 (.append [nS,nS] 48 (tT 12) (tT 15)),oM 3 16]))) (Yg [oO 17 (.bin .add .num (tT 8) (kI 1)),
 oM 8 17]))))))) (Yr [oM 18 3,oM 2 18] .ret))))
theorem ok23 : FnOk Tryz.prog 23 19 ir23 [.tmp 2] := Yf Tryz.func23 Tryz.ntmps23 mixed
def ir24 : ACode := (Yr [Yb 1 0,oO 2 (.alloc [Yu,(.int .i64 0),(.int .i64 0)])] (Yr [Ya 3 0 1,Yk 4 3,oO 5 (.conv .u8 (tT 4)),Ya 6 1 1,Yk 7 6,Ya 8 2 1,Yk 9 8,oO 10 (.build [Yu,(.int .i64 0),(.int .i64 0)] [(0,
 1,(tT 5)),(1,1,(tT 7)),(2,1,(tT 9))]),Ys 3 2 10] .ret))
theorem ok24 : FnOk Tryz.prog 24 11 ir24 [.cell 2 true 3] := Yf Tryz.func24 Tryz.ntmps24 mixed
def ir25 : ACode := (Yr [Yb 4 0,oO 8 (.alloc [(.int .i64 0),(.int .i64 0),(.int .i64 0)])] (sQ (Yr [oM 11 2,Yn 12 11,oO 13 (.mov (kI 0))] (.block 0 (.loop (Yr [oO 14 (.bin .lss .num (tT 13) (tT 12))] (sQ (.cond (tT 14) .skip (.exit 0)) (sQ (.block 1 (Yr [Yi 15 1 11 13,
 Yk 16 15,oM 10 16] (Yr [oM 17 10,Ya 18 3 4,Yk 19 18,Yn 20 19,oO 21 (.bin .geq .num (tT 17) (tT 20))] (.cond (tT 21) (Yr [oO 22 (.build [(.int .i64 0),(.int .i64 0),(.int .i64 0)] [(0,1,(kI 3))]),Ys 3 8 22] .ret) .skip)))) (Yg [oO 23 (.bin .add .num (tT 13) (kI 1)),
 oM 13 23]))))))) (sQ (Yr [Yl 24 6 4,oM 25 3,Yc 26 58 [tT 24,tT 25],oO 27 (.una .not (tT 26))] (.cond (tT 27) (Yr [oO 28 (.build [(.int .i64 0),(.int .i64 0),(.int .i64 0)] [(0,1,(kI 3))]),Ys 3 8 28] .ret) .skip)) (sQ (Yr [oM 29 1] (.cond (tT 29) (Yr [Yl 30 6 4,
 oM 31 2,Yc 32 59 [tT 30,tT 31],Ys 3 8 32] .ret) .skip)) (Yr [Yl 33 6 4,oM 34 3,Yc 35 60 [tT 33,tT 34],Ys 3 8 35] .ret)))))
theorem ok25 : FnOk Tryz.prog 25 36 ir25 [.cell 8 true 3] := Yf Tryz.func25 Tryz.ntmps25 mixed
def ir26 : ACode := (Yr [Yb 1 0,oO 2 (.alloc Y1)] (sQ (Yr [Yl 6 6 1,Yc 7 40 [tT 6],oO 8 (.bin .neq .num (tT 7) (kI 0))] (.cond (tT 8) (Yr [oO 9 (.build Y1 []),Ys 32 2 9] .ret) .skip)) (Yr [Yc 10 61 [],
 oM 3 10] (Yr [oM 11 3,Ya 12 0 1,Yk 13 12,oO 14 (.conv .u64 (tT 13)),Yc 15 62 [tT 11,tT 14]] (Yr [oM 16 3,Ya 17 1 1,Yk 18 17,Yc 19 64 [tT 18],Yc 20 63 [tT 16,tT 19]] (Yr [oM 21 3,Ya 22 2 1,Yl 23 1 22,Yc 24 65 [tT 21,
 tT 23]] (Yr [oM 25 3,Ya 26 3 1,Yk 27 26,Yn 28 27,oO 29 (.conv .u64 (tT 28)),Yc 30 62 [tT 25,tT 29]] (sQ (Yr [Ya 31 3 1,Yk 32 31,Yn 33 32,oO 34 (.mov (kI 0))] (.block 0 (.loop (Yr [oO 35 (.bin .lss .num (tT 34) (tT 33))] (sQ (.cond (tT 35) .skip (.exit 0)) (sQ (.block 1 (Yr [Yi 36 5 32 34,
 Yl 37 5 36,oO 5 (.alloc [(.bool false),nS,nS,(.int .i64 0),(.int .i64 0)]),Ys 5 5 37] (Yr [oM 38 3,Ya 39 0 5,Yk 40 39,Yc 41 66 [tT 38,tT 40]] (Yr [oM 42 3,Ya 43 1 5,Yl 44 2 43,Yc 45 67 [tT 42,tT 44]] (Yg [oM 46 3,
 Ya 47 3 5,Yk 48 47,oO 49 (.conv .u64 (tT 48)),Yc 50 62 [tT 46,tT 49]]))))) (Yg [oO 51 (.bin .add .num (tT 34) (kI 1)),oM 34 51]))))))) (Yr [oM 52 3,Ya 53 4 1,Yk 54 53,Yc 55 68 [tT 52,tT 54]] (Yr [oM 56 3,
 Ya 57 5 1,Yk 58 57,Yc 59 68 [tT 56,tT 58]] (Yr [oM 60 3,Yc 61 70 [tT 60],oO 62 (.bslice [nS] 1 [(0,(tT 61))]),⟨(some 63),kC 69 [(.const (.string ⟨#[112,114,111,98,108,101,109]⟩)),tT 62],none⟩,Ys 32 2 63] .ret)))))))))))
theorem ok26 : FnOk Tryz.prog 26 64 ir26 [.cell 2 true 32] := Yf Tryz.func26 Tryz.ntmps26 mixed
def ir27 : ACode := (Yr [Yb 1 0,oO 2 (.mov (kI 0))] (sQ (.block 0 (Yr [Ya 7 33 1,Yk 8 7,Yn 9 8,oO 10 (.bin .gtr .num (tT 9) (kI 10000)),oM 11 10,oF 11 12 (.faddr 34 (tT 1)),oF 11 13 (.load false 1 (tT 12)),
 oF 11 14 (.len (tT 13)),oF 11 15 (.bin .gtr .num (tT 14) (kI 2000)),oO 16 (.pick (tT 11) kT (tT 15)),oM 6 16] (.cond (tT 6) (Yr [oO 2 (.mov (kI 3))] .ret) (Yr [Ya 18 32 1,Yk 19 18,oM 20 19,oT 20 21 (.faddr 34 (tT 1)),
 oT 20 22 (.load false 1 (tT 21)),oT 20 23 (.len (tT 22)),oT 20 24 (.bin .gtr .num (tT 23) (kI 0)),oO 25 (.pick (tT 20) (tT 24) kF),oM 26 25,oF 26 27 (.faddr 32 (tT 1)),oF 26 28 (.load false 1 (tT 27)),
 oF 26 29 (.una .not (tT 28)),oF 26 30 (.mov (tT 29)),oT 30 31 (.faddr 33 (tT 1)),oT 30 32 (.load false 1 (tT 31)),oT 30 33 (.len (tT 32)),oT 30 34 (.bin .gtr .num (tT 33) (kI 0)),oF 26 35 (.pick (tT 30) (tT 34) kF),
 oO 36 (.pick (tT 26) kT (tT 35)),oM 17 36] (.cond (tT 17) (Yr [oO 2 (.mov (kI 6))] .ret) (Yr [Ya 38 33 1,Yk 39 38,Yc 40 71 [tT 39,(.func 72)],oM 37 40] (.cond (tT 37) (Yr [oO 2 (.mov (kI 2))] .ret) .skip))))))) (Yr [Yc 41 73 [kI 64],
 Yc 42 34 [tT 41,kI 0],oO 3 (.alloc [nS]),Ys 1 3 42] (sQ (Yr [Ya 43 34 1,Yk 44 43,Yn 45 44,oO 46 (.mov (kI 0))] (.block 1 (.loop (Yr [oO 47 (.bin .lss .num (tT 46) (tT 45))] (sQ (.cond (tT 47) .skip (.exit 1)) (sQ (.block 2 (Yr [Yi 48 2 44 46,
 Yl 49 2 48,oO 5 (.alloc [nS,nS]),Ys 2 5 49] (sQ (sQ (.draw [Yd 0 (Ya 50 0 5) 0 0,Yd 1 (Yl 51 1 50) 1 0,Yd 2 (Ya 52 1 5) 0 0,Yd 3 (Yl 53 1 52) 4 0,Yd 4 (Yc 54 74 [tT 51,tT 53]) 15 0,Yd 5 (Yl 55 1 3) 0 0,
 Yd 6 (Yc 56 75 [tT 54,tT 55]) 63 1,Yd 7 (oO 57 (.una .not (tT 56))) 127 1]) (.cond (tT 57) (Yr [oO 2 (.mov (kI 2))] .ret) .skip)) (Yr [Yl 58 2 5,Yc 59 76 [tT 58]] (.cond (tT 59) (Yr [oO 2 (.mov (kI 6))] .ret) .skip))))) (Yg [oO 60 (.bin .add .num (tT 46) (kI 1)),
 oM 46 60]))))))) (Yr [oO 2 (.mov (kI 0))] .ret)))))
theorem ok27 : FnOk Tryz.prog 27 61 ir27 [.tmp 2] := Yf Tryz.func27 Tryz.ntmps27 mixed
def ir28 : ACode := (Yr [Yb 2 0,oO 4 (.mov kF)] (Yr [oM 6 1,Yc 7 77 [tT 6],oO 5 (.alloc [nS]),Ys 1 5 7] (sQ (.draw [Yd 0 (Yl 8 1 5) 0 1,Yd 1 (Yc 9 35 [tT 8,kI 0]) 1 1,Yd 2 (oO 10 (.una .not (tT 9))) 3 1,
 Yd 3 (oM 11 10) 7 1,Yd 4 (oT 11 12 (.load true 1 (tT 5))) 15 0,Yd 5 (oT 11 13 (.faddr 0 (tT 2))) 15 0,Yd 6 (oT 11 14 (.load false 1 (tT 13))) 47 0,Yd 7 (oT 11 15 (.bin .add .num (tT 14) (kI 1))) 111 0,
 Yd 8 (oT 11 16 (kC 73 [tT 15])) 239 0,Yd 9 (oT 11 17 (kC 75 [tT 12,tT 16])) 511 1,Yd 10 (oO 18 (.pick (tT 11) (tT 17) kF)) 1023 1,Yd 11 (oM 4 18) 2047 1]) .ret)))
theorem ok28 : FnOk Tryz.prog 28 19 ir28 [.tmp 4] := Yf Tryz.func28 Tryz.ntmps28 mixed
def ir29 : ACode := (Yr [Yb 2 0,oO 4 (.alloc [Yu,(.int .i64 0),(.int .i64 0)])] (Yr [Ya 10 2 2,Yl 11 1 10,oO 5 (.alloc [nS]),Ys 1 5 11] (sQ (Yr [oM 12 1,Yn 13 12,oO 14 (.mov (kI 0))] (.block 0 (.loop (Yr [oO 15 (.bin .lss .num (tT 14) (tT 13))] (sQ (.cond (tT 15) .skip (.exit 0)) (sQ (.block 1 (Yr [oM 16 14,
 Yi 17 1 12 14,Yk 18 17,oM 6 16,oM 7 18] (Yr [Yl 20 6 2,Yl 21 1 5,oM 22 7,Yc 23 39 [tT 20,tT 21,tT 22],oM 19 23,Yx 24 19 0,Yx 25 19 1,oO 8 (.alloc [nS]),Ys 1 8 24,oM 9 25] (sQ (Yr [oM 26 9,oO 27 (.una .not (tT 26))] (.cond (tT 27) (Yr [oM 28 6,
 oM 29 7,oO 30 (.build [Yu,(.int .i64 0),(.int .i64 0)] [(0,1,(.const (.int .u8 4))),(1,1,(tT 28)),(2,1,(tT 29))]),Ys 3 4 30] .ret) .skip)) (Yg [Yl 31 1 8,Ys 1 5 31]))))) (Yg [oO 32 (.bin .add .num (tT 14) (kI 1)),
 oM 14 32]))))))) (sQ (sQ (.draw [Yd 0 (Ya 33 5 2) 0 0,Yd 1 (Yk 34 33) 1 0,Yd 2 (Ya 35 1 2) 0 0,Yd 3 (Yk 36 35) 4 0,Yd 4 (Yl 37 1 5) 0 0,Yd 5 (Yc 38 37 [tT 36,tT 37]) 28 0,Yd 6 (Yc 39 78 [tT 34,tT 38]) 63 1,
 Yd 7 (oO 40 (.una .not (tT 39))) 127 1]) (.cond (tT 40) (Yr [oO 41 (.build [Yu,(.int .i64 0),(.int .i64 0)] [(0,1,(.const (.int .u8 5)))]),Ys 3 4 41] .ret) .skip)) (Yr [oO 42 (.build [Yu,(.int .i64 0),
 (.int .i64 0)] [(0,1,(.const (.int .u8 1)))]),Ys 3 4 42] .ret)))))
theorem ok29 : FnOk Tryz.prog 29 43 ir29 [.cell 4 true 3] := Yf Tryz.func29 Tryz.ntmps29 mixed
def ir30 : ACode := (Yr [Yb 2 0,oO 4 (.alloc [Yu,(.int .i64 0),(.int .i64 0)])] (sQ (Yr [oM 13 1,Yn 14 13,oO 15 (.mov (kI 0))] (.block 0 (.loop (Yr [oO 16 (.bin .lss .num (tT 15) (tT 14))] (sQ (.cond (tT 16) .skip (.exit 0)) (sQ (.block 1 (Yr [oM 17 15,
 Yi 18 2 13 15,Yl 19 2 18,oO 6 (.alloc [nS,nS]),oM 5 17,Ys 2 6 19] (Yr [Yl 20 2 6,Ya 21 2 2,Yl 22 1 21,Yc 23 36 [tT 20,tT 22]] (.cond (tT 23) (Yr [oM 24 5,oO 25 (.build [Yu,(.int .i64 0),(.int .i64 0)] [(0,
 1,(.const (.int .u8 6))),(1,1,(tT 24))]),Ys 3 4 25] .ret) .skip)))) (Yg [oO 26 (.bin .add .num (tT 15) (kI 1)),oM 15 26]))))))) (sQ (Yr [Yl 28 6 2,oM 29 1,Yc 30 79 [tT 28,tT 29],oM 27 30,Yx 31 27 0,Yx 32 27 1,
 oO 7 (.alloc [nS]),Ys 1 7 31,oM 8 32] (Yr [oM 33 8] (.cond (tT 33) (Yr [oO 34 (.build [Yu,(.int .i64 0),(.int .i64 0)] [(0,1,(.const (.int .u8 7)))]),Ys 3 4 34] .ret) .skip))) (sQ (Yr [oM 35 1,Yn 36 35,
 oO 37 (.mov (kI 0))] (.block 2 (.loop (Yr [oO 38 (.bin .lss .num (tT 37) (tT 36))] (sQ (.cond (tT 38) .skip (.exit 2)) (sQ (.block 3 (Yr [oM 39 37,oM 9 39] (Yr [Ya 40 3 2,Yk 41 40,Yn 42 41,oO 43 (.mov (kI 0))] (.block 4 (.loop (Yr [oO 44 (.bin .lss .num (tT 43) (tT 42))] (sQ (.cond (tT 44) .skip (.exit 4)) (sQ (.block 5 (Yr [oM 45 43,
 oM 10 45] (Yr [Yl 47 6 2,oM 48 1,oM 49 9,oM 50 10,Yc 51 80 [tT 47,tT 48,tT 49,tT 50],oM 46 51,Yx 52 46 0,Yx 53 46 1,oO 11 (.alloc [nS]),Ys 1 11 52,oM 12 53] (Yr [oM 54 12] (.cond (tT 54) (Yr [oM 55 9,oM 56 10,
 oO 57 (.build [Yu,(.int .i64 0),(.int .i64 0)] [(0,1,(.const (.int .u8 8))),(1,1,(tT 55)),(2,1,(tT 56))]),Ys 3 4 57] .ret) .skip))))) (Yg [oO 58 (.bin .add .num (tT 43) (kI 1)),oM 43 58]))))))))) (Yg [oO 59 (.bin .add .num (tT 37) (kI 1)),
 oM 37 59]))))))) (Yr [oO 60 (.build [Yu,(.int .i64 0),(.int .i64 0)] [(0,1,(.const (.int .u8 1)))]),Ys 3 4 60] .ret)))))
theorem ok30 : FnOk Tryz.prog 30 61 ir30 [.cell 4 true 3] := Yf Tryz.func30 Tryz.ntmps30 mixed
def ir31 : ACode := (Yr [Yb 1 0,oO 2 (.mov (.const nS))] (Yr [Ya 11 2 1,Yk 12 11,oO 13 (.bslice [(.int .u64 0)] 1 [(0,(tT 12))]),oM 3 13] (sQ (Yr [oO 4 (.mov (kI 0))] (.block 0 (.loop (sQ (Yr [oM 14 4,
 oM 15 3,Yn 16 15,oO 17 (.bin .lss .num (tT 14) (tT 16))] (.cond (tT 17) .skip (.exit 0))) (sQ (.block 1 (Yr [Ya 20 3 1,Yk 21 20,Yn 22 21,oO 23 (.mov (kI 0))] (.block 2 (.loop (Yr [oO 24 (.bin .lss .num (tT 23) (tT 22))] (sQ (.cond (tT 24) .skip (.exit 2)) (sQ (.block 3 (Yr [oM 25 23,
 oM 5 25] (sQ (.draw [Yd 0 (Yl 27 6 1) 0 0,Yd 1 (oM 28 3) 0 0,Yd 2 (oM 29 4) 0 0,Yd 3 (Yi 30 1 28 29) 6 0,Yd 4 (Yk 31 30) 14 0,Yd 5 (oM 32 5) 0 0,Yd 6 (Yc 33 81 [tT 27,tT 31,tT 32]) 63 1,Yd 7 (oM 26 33) 127 1,
 Yd 8 (Yx 34 26 0) 255 1,Yd 9 (Yx 35 26 1) 255 1,Yd 10 (oM 6 34) 511 1,Yd 11 (oM 7 35) 2047 1]) (sQ (Yr [oM 36 7,oO 37 (.una .not (tT 36))] (.cond (tT 37) (.exit 3) .skip)) (Yr [oO 8 (.mov kF)] (sQ (Yr [oM 38 3,
 Yn 39 38,oO 40 (.mov (kI 0))] (.block 4 (.loop (Yr [oO 41 (.bin .lss .num (tT 40) (tT 39))] (sQ (.cond (tT 41) .skip (.exit 4)) (sQ (.block 5 (Yr [Yi 42 1 38 40,Yk 43 42,oM 10 43] (Yr [oM 44 10,oM 45 6,
 oO 46 (.bin .eql .num (tT 44) (tT 45))] (.cond (tT 46) (Yg [oO 8 (.mov kT)]) .skip)))) (Yg [oO 47 (.bin .add .num (tT 40) (kI 1)),oM 40 47]))))))) (Yr [oM 48 8,oO 49 (.una .not (tT 48))] (.cond (tT 49) (Yg [oM 50 3,
 oM 51 6,oO 52 (.bslice [(.int .u64 0)] 1 [(0,(tT 51))]),oO 53 (.append [(.int .u64 0)] 8 (tT 50) (tT 52)),oM 3 53]) .skip)))))))) (Yg [oO 54 (.bin .add .num (tT 23) (kI 1)),oM 23 54])))))))) (Yg [oM 18 4,
 oO 19 (.bin .add .num (tT 18) (kI 1)),oM 4 19])))))) (Yr [oM 55 3,oM 2 55] .ret))))
theorem ok31 : FnOk Tryz.prog 31 56 ir31 [.tmp 2] := Yf Tryz.func31 Tryz.ntmps31 mixed
def ir32 : ACode := (Yr [Yb 2 0,oO 4 (.mov kF)] (sQ (.draw [Yd 0 (Ya 5 5 2) 0 0,Yd 1 (Yk 6 5) 1 0,Yd 2 (Ya 7 1 2) 0 0,Yd 3 (Yk 8 7) 4 0,Yd 4 (oM 9 1) 0 0,Yd 5 (Yc 10 54 [tT 8,tT 9]) 28 0,Yd 6 (Yc 11 82 [tT 6,
 tT 10]) 63 1,Yd 7 (oM 4 11) 127 1]) .ret))
theorem ok32 : FnOk Tryz.prog 32 12 ir32 [.tmp 4] := Yf Tryz.func32 Tryz.ntmps32 mixed
def ir33 : ACode := (Yr [oO 2 (.mov (.const nS))] (Yr [oO 3 (.mov (.const nS))] (sQ (Yr [oO 4 (.mov (kI 0))] (.block 0 (.loop (sQ (Yr [oM 5 4,oO 6 (.bin .lss .num (tT 5) (kI 64))] (.cond (tT 6) .skip (.exit 0))) (sQ (.block 1 (Yr [oM 9 0,
 oM 10 4,oO 11 (.bin .shr .num (tT 9) (tT 10)),oO 12 (.bin .rem .num (tT 11) (.const (.int .u64 2))),oO 13 (.bin .eql .num (tT 12) (.const (.int .u64 1)))] (.cond (tT 13) (Yg [oM 14 3,oM 15 4,oO 16 (.bslice [(.int .i64 0)] 1 [(0,
 (tT 15))]),oO 17 (.append [(.int .i64 0)] 8 (tT 14) (tT 16)),oM 3 17]) .skip))) (Yg [oM 7 4,oO 8 (.bin .add .num (tT 7) (kI 1)),oM 4 8])))))) (Yr [oM 18 3,oM 2 18] .ret))))
theorem ok33 : FnOk Tryz.prog 33 19 ir33 [.tmp 2] := Yf Tryz.func33 Tryz.ntmps33 mixed
def ir34 : ACode := (Yr [Yb 2 0,oO 4 (.alloc [nS])] (sQ (Yr [Yl 6 1 2,oM 7 1,Yc 8 35 [tT 6,tT 7],oO 9 (.una .not (tT 8))] (.cond (tT 9) (Yr [Yl 10 1 2,Ys 1 4 10] .ret) .skip)) (Yr [oO 11 (.bslice [(.int .u64 0)] 0 []),
 Ya 12 0 2,Yk 13 12,oO 14 (.append [(.int .u64 0)] 8 (tT 11) (tT 13)),oM 5 14] (sQ (.draw [Yd 0 (oM 15 5) 0 1,Yd 1 (oM 16 1) 0 1,Yd 2 (oO 17 (.bin .quo .num (tT 16) (kI 64))) 2 1,Yd 3 (Yi 18 1 15 17) 7 1,
 Yd 4 (Yk 19 18) 15 1,Yd 5 (oM 20 1) 0 0,Yd 6 (oO 21 (.bin .rem .num (tT 20) (kI 64))) 32 0,Yd 7 (oO 22 (.bin .shl .num (.const (.int .u64 1)) (tT 21))) 96 0,Yd 8 (oO 23 (.bin .andNot .num (tT 19) (tT 22))) 255 1,
 Yd 9 (Yi 24 1 15 17) 511 1,Yd 10 (Ys 1 24 23) 1023 1]) (Yr [oM 25 5,Yc 26 47 [tT 25],Ys 1 4 26] .ret)))))
theorem ok34 : FnOk Tryz.prog 34 27 ir34 [.cell 4 true 1] := Yf Tryz.func34 Tryz.ntmps34 mixed
def ir35 : ACode := (Yr [Yb 2 0,oO 4 (.mov kF)] (Yr [oM 5 1,oO 6 (.bin .geq .num (tT 5) (kI 0)),oM 7 6,oT 7 8 (.mov (tT 1)),oT 7 9 (.bin .leq .num (tT 8) (kI 4095)),oO 10 (.pick (tT 7) (tT 9) kF),oM 11 10,
 oT 11 12 (.load true 1 (tT 2)),oT 11 13 (.mov (tT 1)),oT 11 14 (.bin .quo .num (tT 13) (kI 64)),oT 11 15 (kC 83 [tT 12,tT 14]),oT 11 16 (.mov (tT 1)),oT 11 17 (.bin .rem .num (tT 16) (kI 64)),oT 11 18 (.bin .shr .num (tT 15) (tT 17)),
 oT 11 19 (.bin .and .num (tT 18) (.const (.int .u64 1))),oT 11 20 (.bin .eql .num (tT 19) (.const (.int .u64 1))),oO 21 (.pick (tT 11) (tT 20) kF),oM 4 21] .ret))
theorem ok35 : FnOk Tryz.prog 35 22 ir35 [.tmp 4] := Yf Tryz.func35 Tryz.ntmps35 mixed
def ir36 : ACode := (Yr [Yb 2 0,Yb 3 1,oO 4 (.mov kF)] (Yr [Ya 5 0 2,Yl 6 1 5,Yl 7 1 3,Yc 8 75 [tT 6,tT 7],oM 9 8,oT 9 10 (.faddr 1 (tT 2)),oT 9 11 (.load true 1 (tT 10)),oT 9 12 (.load true 1 (tT 3)),
 oT 9 13 (kC 84 [tT 11,tT 12]),oT 9 14 (.una .not (tT 13)),oO 15 (.pick (tT 9) (tT 14) kF),oM 4 15] .ret))
theorem ok36 : FnOk Tryz.prog 36 16 ir36 [.tmp 4] := Yf Tryz.func36 Tryz.ntmps36 mixed
def ir37 : ACode := (Yr [Yb 2 0,Yb 3 1,oO 4 (.alloc [nS])] (Yr [oO 5 (.alloc [nS])] (sQ (Yr [Yl 7 1 3,Yc 8 85 [tT 7]] (.block 0 (.range (tT 8) [9] [(6,(tT 9))] (.block 1 (.draw [Yd 0 (Yl 10 1 5) 0 0,Yd 1 (Yk 11 2) 0 0,
 Yd 2 (oM 12 6) 0 0,Yd 3 (Yc 13 86 [tT 11,tT 12]) 6 0,Yd 4 (Yc 14 74 [tT 10,tT 13]) 15 1,Yd 5 (Ys 1 5 14) 31 1]))))) (Yr [Yl 15 1 5,Ys 1 4 15] .ret))))
theorem ok37 : FnOk Tryz.prog 37 16 ir37 [.cell 4 true 1] := Yf Tryz.func37 Tryz.ntmps37 mixed
def ir38 : ACode := (Yr [Yb 2 0,Yb 3 1,oO 4 (.mov kF)] (sQ (.draw [Yd 0 (Ya 5 1 2) 0 1,Yd 1 (Yk 6 5) 1 1,Yd 2 (oO 7 (.bin .neq .ptr (tT 6) (.const (.pointer none)))) 3 1,Yd 3 (oM 8 7) 7 1,Yd 4 (oT 8 9 (.faddr 4 (tT 2))) 15 0,
 Yd 5 (oT 8 10 (.load false 1 (tT 9))) 31 0,Yd 6 (oT 8 11 (.faddr 1 (tT 2))) 15 0,Yd 7 (oT 8 12 (.load false 1 (tT 11))) 79 0,Yd 8 (oT 8 13 (.load true 1 (tT 3))) 15 0,Yd 9 (oT 8 14 (kC 37 [tT 12,tT 13])) 463 0,
 Yd 10 (oT 8 15 (kC 78 [tT 10,tT 14])) 1023 1,Yd 11 (oT 8 16 (.una .not (tT 15))) 2047 1,Yd 12 (oO 17 (.pick (tT 8) (tT 16) kF)) 4095 1,Yd 13 (oM 4 17) 8191 1]) .ret))
theorem ok38 : FnOk Tryz.prog 38 18 ir38 [.tmp 4] := Yf Tryz.func38 Tryz.ntmps38 mixed
def ir39 : ACode := (Yr [Yb 3 0,Yb 4 1,oO 6 (.alloc [nS]),oO 7 (.mov kF)] (sQ (Yr [Ya 10 1 3,Yk 11 10,oO 12 (.bin .eql .ptr (tT 11) (.const (.pointer none))),oM 13 12,oF 13 14 (.mov (tT 2)),oF 13 15 (.bin .lss .num (tT 14) (kI 0)),
 oO 16 (.pick (tT 13) kT (tT 15)),oM 17 16,oF 17 18 (.mov (tT 2)),oF 17 19 (.faddr 3 (tT 3)),oF 17 20 (.load false 1 (tT 19)),oF 17 21 (.len (tT 20)),oF 17 22 (.bin .geq .num (tT 18) (tT 21)),oO 23 (.pick (tT 17) kT (tT 22))] (.cond (tT 23) (Yr [oO 24 (.build [nS] []),
 Ys 1 6 24,oO 7 (.mov kF)] .ret) .skip)) (Yr [Ya 25 3 3,Yk 26 25,oM 27 2,Yi 28 5 26 27,Yl 29 5 28,oO 8 (.alloc [(.bool false),nS,nS,(.int .i64 0),(.int .i64 0)]),Ys 5 8 29] (Yr [Yl 30 1 4,Ya 31 3 8,Yk 32 31,
 Yc 33 15 [tT 30,tT 32],oO 9 (.alloc [nS]),Ys 1 9 33] (sQ (Yr [Ya 34 0 8,Yk 35 34] (.cond (tT 35) (Yg [Yl 36 1 4,Ya 37 3 8,Yk 38 37,Yc 39 34 [tT 36,tT 38],Ys 1 9 39]) .skip)) (sQ (sQ (.draw [Yd 0 (Yl 40 1 9) 0 0,
 Yd 1 (Yl 41 1 4) 0 0,Yd 2 (Yc 42 87 [tT 40,tT 41]) 3 1,Yd 3 (oM 43 42) 7 1,Yd 4 (oF 43 44 (.load true 6 (tT 3))) 15 0,Yd 5 (oF 43 45 (.load true 1 (tT 9))) 15 0,Yd 6 (oF 43 46 (kC 88 [tT 44,tT 45])) 63 1,
 Yd 7 (oF 43 47 (.una .not (tT 46))) 127 1,Yd 8 (oO 48 (.pick (tT 43) kT (tT 47))) 255 1,Yd 9 (oM 49 48) 511 1,Yd 10 (oF 49 50 (.faddr 0 (tT 8))) 1023 1,Yd 11 (oF 49 51 (.load false 1 (tT 50))) 2047 1,Yd 12 (oF 49 52 (.una .not (tT 51))) 4095 1,
 Yd 13 (oF 49 53 (.mov (tT 52))) 8191 1,Yd 14 (oT 53 54 (.faddr 1 (tT 8))) 16383 0,Yd 15 (oT 53 55 (.load true 2 (tT 54))) 32767 0,Yd 16 (oT 53 56 (.faddr 1 (tT 3))) 16383 0,Yd 17 (oT 53 57 (.load false 1 (tT 56))) 81919 0,
 Yd 18 (oT 53 58 (.load true 1 (tT 4))) 16383 0,Yd 19 (oT 53 59 (kC 37 [tT 57,tT 58])) 475135 0,Yd 20 (oT 53 60 (kC 36 [tT 55,tT 59])) 1048575 1,Yd 21 (oT 53 61 (.una .not (tT 60))) 2097151 1,Yd 22 (oF 49 62 (.pick (tT 53) (tT 61) kF)) 4194303 1,
 Yd 23 (oO 63 (.pick (tT 49) kT (tT 62))) 8388607 1]) (.cond (tT 63) (Yr [oO 64 (.build [nS] []),Ys 1 6 64,oO 7 (.mov kF)] .ret) .skip)) (Yr [Yl 65 1 9,Ys 1 6 65,oO 7 (.mov kT)] .ret)))))))
theorem ok39 : FnOk Tryz.prog 39 66 ir39 [.cell 6 true 1, .tmp 7] := Yf Tryz.func39 Tryz.ntmps39 mixed
def ir40 : ACode := (Yr [Yb 1 0,oO 2 (.mov (kI 0))] (Yr [oO 3 (.mov (.func 89))] (sQ (.block 0 (Yr [Ya 5 1 1,Yk 6 5,oO 7 (.bin .eql .ptr (tT 6) (.const (.pointer none))),oM 8 7,oF 8 9 (.faddr 0 (tT 1)),
 oF 8 10 (.load false 1 (tT 9)),oF 8 11 (.bin .lss .num (tT 10) (kI 1)),oO 12 (.pick (tT 8) kT (tT 11)),oM 13 12,oF 13 14 (.faddr 0 (tT 1)),oF 13 15 (.load false 1 (tT 14)),oF 13 16 (.bin .gtr .num (tT 15) (kI 63)),
 oO 17 (.pick (tT 13) kT (tT 16)),oM 4 17] (.cond (tT 4) (Yr [oO 2 (.mov (kI 1))] .ret) (Yr [Ya 19 3 1,Yk 20 19,Yn 21 20,oO 22 (.bin .gtr .num (tT 21) (kI 64)),oM 23 22,oF 23 24 (.faddr 4 (tT 1)),oF 23 25 (.load false 1 (tT 24)),
 oF 23 26 (.len (tT 25)),oF 23 27 (.bin .gtr .num (tT 26) (kI 2000)),oO 28 (.pick (tT 23) kT (tT 27)),oM 29 28,oF 29 30 (.faddr 5 (tT 1)),oF 29 31 (.load false 1 (tT 30)),oF 29 32 (.len (tT 31)),oF 29 33 (.bin .gtr .num (tT 32) (kI 2000)),
 oO 34 (.pick (tT 29) kT (tT 33)),oM 18 34] (.cond (tT 18) (Yr [oO 2 (.mov (kI 3))] .ret) (Yr [Yl 36 6 1,Yc 37 91 [tT 36],oO 38 (.una .not (tT 37)),oM 35 38] (.cond (tT 35) (Yr [oO 2 (.mov (kI 4))] .ret) (Yr [Yl 40 6 1,
 Yc 41 93 [tT 40],Yc 42 92 [tT 41,(.func 76)],oM 43 42,oF 43 44 (.faddr 3 (tT 1)),oF 43 45 (.load false 1 (tT 44)),oF 43 46 (.mov (tT 3)),oF 43 47 (kC 94 [tT 45,tT 46]),oF 43 48 (.una .not (tT 47)),oO 49 (.pick (tT 43) kT (tT 48)),
 oM 39 49] (.cond (tT 39) (Yr [oO 2 (.mov (kI 6))] .ret) (Yr [Yl 51 6 1,Ya 52 2 1,Yl 53 1 52,Yc 54 38 [tT 51,tT 53],oO 55 (.una .not (tT 54)),oM 50 55] (.cond (tT 50) (Yr [oO 2 (.mov (kI 7))] .ret) .skip))))))))))) (Yr [oO 2 (.mov (kI 0))] .ret))))
theorem ok40 : FnOk Tryz.prog 40 56 ir40 [.tmp 2] := Yf Tryz.func40 Tryz.ntmps40 mixed
def ir46 : ACode := (Yr [oO 2 (.mov (.const nS))] (sQ (Yr [oM 3 0,oO 4 (.isnil false (tT 3))] (.cond (tT 4) (Yr [oO 2 (.mov (.const nS))] .ret) .skip)) (Yr [oO 5 (.bslice [nS,nS] 0 []),oM 6 0,oO 7 (.append [nS,
 nS] 48 (tT 5) (tT 6)),oM 2 7] .ret)))
theorem ok46 : FnOk Tryz.prog 46 8 ir46 [.tmp 2] := Yf Tryz.func46 Tryz.ntmps46 mixed
def ir47 : ACode := (Yr [oO 2 (.alloc [nS])] (sQ (.block 0 (.loop (sQ (Yr [oM 3 0,Yn 4 3,oO 5 (.bin .gtr .num (tT 4) (kI 0)),oM 6 5,oT 6 7 (.mov (tT 0)),oT 6 8 (.mov (tT 0)),oT 6 9 (.len (tT 8)),oT 6 10 (.bin .sub .num (tT 9) (kI 1)),
 oT 6 11 (.iaddr 1 (tT 7) (tT 10)),oT 6 12 (.load false 1 (tT 11)),oT 6 13 (.bin .eql .num (tT 12) (.const (.int .u64 0))),oO 14 (.pick (tT 6) (tT 13) kF)] (.cond (tT 14) .skip (.exit 0))) (.block 1 (Yg [oM 15 0,
 oM 16 0,Yn 17 16,oO 18 (.bin .sub .num (tT 17) (kI 1)),oO 19 (.slc 1 (tT 15) none (some (tT 18)) none),oM 0 19]))))) (Yr [oM 20 0,oO 21 (.build [nS] [(0,1,(tT 20))]),Ys 1 2 21] .ret)))
theorem ok47 : FnOk Tryz.prog 47 22 ir47 [.cell 2 true 1] := Yf Tryz.func47 Tryz.ntmps47 mixed
def ir48 : ACode := (Yr [oO 4 (.mov (.const (.pointer none))),oO 5 (.mov (kI 0))] (sQ (Yr [oM 10 0,oO 11 (.bin .lss .num (tT 10) (kI 0)),oM 12 11,oF 12 13 (.mov (tT 0)),oF 12 14 (.bin .gtr .num (tT 13) (kI 256)),
 oO 15 (.pick (tT 12) kT (tT 14))] (.cond (tT 15) (Yr [oO 4 (.mov (.const (.pointer none))),oO 5 (.mov (kI 1))] .ret) .skip)) (sQ (Yr [oM 16 1,Yn 17 16,oO 18 (.mov (kI 0))] (.block 0 (.loop (Yr [oO 19 (.bin .lss .num (tT 18) (tT 17))] (sQ (.cond (tT 19) .skip (.exit 0)) (sQ (.block 1 (Yr [Yi 20 2 16 18,
 Yl 21 2 20,oO 7 (.alloc [(.int .i64 0),(.int .i64 0)]),Ys 2 7 21] (Yr [oO 22 (.iaddrA 2 1 (tT 7) (kI 0)),Yk 23 22,oO 24 (.iaddrA 2 1 (tT 7) (kI 1)),Yk 25 24,oO 26 (.mn (tT 23) (tT 25)),oO 27 (.bin .lss .num (tT 26) (kI 0)),
 oM 28 27,oF 28 29 (.iaddrA 2 1 (tT 7) (kI 0)),oF 28 30 (.load false 1 (tT 29)),oF 28 31 (.iaddrA 2 1 (tT 7) (kI 1)),oF 28 32 (.load false 1 (tT 31)),oF 28 33 (.mx (tT 30) (tT 32)),oF 28 34 (.mov (tT 0)),
 oF 28 35 (.bin .geq .num (tT 33) (tT 34)),oO 36 (.pick (tT 28) kT (tT 35))] (.cond (tT 36) (Yr [oO 4 (.mov (.const (.pointer none))),oO 5 (.mov (kI 2))] .ret) .skip)))) (Yg [oO 37 (.bin .add .num (tT 18) (kI 1)),
 oM 18 37]))))))) (Yr [oO 38 (.bslice [(.int .i64 0),(.int .i64 0)] 0 []),oM 39 1,oO 40 (.append [(.int .i64 0),(.int .i64 0)] 16 (tT 38) (tT 39)),oM 8 40] (Yr [oM 41 8,Yc 42 103 [tT 41,(.func 104)]] (Yr [oM 43 0,
 oM 44 8,Yc 45 106 [tT 44],Yc 46 105 [tT 45],oO 47 (.build [(.int .i64 0),nS,nS,nS,nS] [(0,1,(tT 43)),(1,1,(tT 46))]),Yb 48 47,oM 9 48] (sQ (Yr [oM 49 9,Yc 50 107 [tT 49],oO 51 (.una .not (tT 50))] (.cond (tT 51) (Yr [oO 4 (.mov (.const (.pointer none))),
 oO 5 (.mov (kI 16))] .ret) .skip)) (Yr [oM 52 9,Yc 53 108 [tT 52]] (Yr [oM 54 9,oM 4 54,oO 5 (.mov (kI 0))] .ret)))))))))
theorem ok48 : FnOk Tryz.prog 48 55 ir48 [.tmp 4, .tmp 5] := Yf Tryz.func48 Tryz.ntmps48 mixed
def ir49 : ACode := (Yr [oO 2 (.mov (.const nS))] (sQ (Yr [oM 3 0,oO 4 (.isnil false (tT 3))] (.cond (tT 4) (Yr [oO 2 (.mov (.const nS))] .ret) .skip)) (Yr [oO 5 (.bslice [(.int .i64 0)] 0 []),oM 6 0,oO 7 (.append [(.int .i64 0)] 8 (tT 5) (tT 6)),
 oM 2 7] .ret)))
theorem ok49 : FnOk Tryz.prog 49 8 ir49 [.tmp 2] := Yf Tryz.func49 Tryz.ntmps49 mixed
def ir50 : ACode := (Yr [oO 2 (.mov (kI 0))] (Yr [oM 3 0,oO 4 (.nilck (tT 3)),Ya 5 1 4,Yk 6 5,oO 7 (.bin .add .num (tT 6) (kI 1)),oO 8 (.nilck (tT 3)),Ya 9 1 8,Ys 1 9 7] (sQ (sQ (.draw [Yd 0 (oM 10 0) 0 0,
 Yd 1 (oO 11 (.nilck (tT 10))) 1 0,Yd 2 (Ya 12 1 11) 3 0,Yd 3 (Yk 13 12) 7 0,Yd 4 (oM 14 0) 0 0,Yd 5 (oO 15 (.nilck (tT 14))) 16 0,Yd 6 (Ya 16 0 15) 48 0,Yd 7 (Yk 17 16) 112 0,Yd 8 (Yn 18 17) 240 0,Yd 9 (oO 19 (.bin .gtr .num (tT 13) (tT 18))) 511 1]) (.cond (tT 19) (Yr [oO 2 (.mov (kI 0))] .ret) .skip)) (sQ (.draw [Yd 0 (oM 20 0) 0 0,
 Yd 1 (oO 21 (.nilck (tT 20))) 1 0,Yd 2 (Ya 22 0 21) 3 0,Yd 3 (Yk 23 22) 7 0,Yd 4 (oM 24 0) 0 0,Yd 5 (oO 25 (.nilck (tT 24))) 16 0,Yd 6 (Ya 26 1 25) 48 0,Yd 7 (Yk 27 26) 112 0,Yd 8 (oO 28 (.bin .sub .num (tT 27) (kI 1))) 240 0,
 Yd 9 (Yi 29 1 23 28) 511 1,Yd 10 (Yk 30 29) 1023 1,Yd 11 (oO 31 (.conv .i64 (tT 30))) 2047 1,Yd 12 (oM 2 31) 4095 1]) .ret))))
theorem ok50 : FnOk Tryz.prog 50 32 ir50 [.tmp 2] := Yf Tryz.func50 Tryz.ntmps50 mixed
def ir51 : ACode := (Yr [oO 6 (.mov (.const nS)),oO 7 (.mov (kI 0))] (sQ (Yr [oM 9 1,Yc 10 109 [tT 9],oO 11 (.una .not (tT 10)),oM 12 11,oF 12 13 (.mov (tT 2)),oF 12 14 (kC 109 [tT 13]),oF 12 15 (.una .not (tT 14)),
 oO 16 (.pick (tT 12) kT (tT 15)),oM 17 16,oF 17 18 (.mov (tT 1)),oF 17 19 (.mov (tT 2)),oF 17 20 (.bin .eql .num (tT 18) (tT 19)),oO 21 (.pick (tT 17) kT (tT 20))] (.cond (tT 21) (Yr [oM 22 0,oM 6 22,oO 7 (.mov (kI 1))] .ret) .skip)) (sQ (Yr [oM 23 0,
 oM 24 1,oM 25 2,Yc 26 110 [tT 23,tT 24,tT 25]] (.cond (tT 26) (Yr [oM 27 0,oM 6 27,oO 7 (.mov (kI 5))] .ret) .skip)) (sQ (Yr [oM 28 0,oM 29 2,oM 30 1,Yc 31 111 [tT 28,tT 29,tT 30]] (.cond (tT 31) (Yr [oM 32 0,
 oM 6 32,oO 7 (.mov (kI 16))] .ret) .skip)) (Yr [oO 8 (.mov (kI 0))] (sQ (.block 0 (.loop (sQ (Yr [oM 33 8,oM 34 0,Yn 35 34,oO 36 (.bin .lss .num (tT 33) (tT 35)),oM 37 36,oT 37 38 (.mov (tT 0)),oT 37 39 (.mov (tT 8)),
 oT 37 40 (.iaddr 2 (tT 38) (tT 39)),oT 37 41 (.iaddrA 2 1 (tT 40) (kI 0)),oT 37 42 (.load false 1 (tT 41)),oT 37 43 (.mov (tT 1)),oT 37 44 (.bin .lss .num (tT 42) (tT 43)),oT 37 45 (.mov (tT 44)),oF 45 46 (.mov (tT 0)),
 oF 45 47 (.mov (tT 8)),oF 45 48 (.iaddr 2 (tT 46) (tT 47)),oF 45 49 (.iaddrA 2 1 (tT 48) (kI 0)),oF 45 50 (.load false 1 (tT 49)),oF 45 51 (.mov (tT 1)),oF 45 52 (.bin .eql .num (tT 50) (tT 51)),oF 45 53 (.mov (tT 52)),
 oT 53 54 (.mov (tT 0)),oT 53 55 (.mov (tT 8)),oT 53 56 (.iaddr 2 (tT 54) (tT 55)),oT 53 57 (.iaddrA 2 1 (tT 56) (kI 1)),oT 53 58 (.load false 1 (tT 57)),oT 53 59 (.mov (tT 2)),oT 53 60 (.bin .lss .num (tT 58) (tT 59)),
 oF 45 61 (.pick (tT 53) (tT 60) kF),oT 37 62 (.pick (tT 45) kT (tT 61)),oO 63 (.pick (tT 37) (tT 62) kF)] (.cond (tT 63) .skip (.exit 0))) (.block 1 (Yg [oM 64 8,oO 65 (.bin .add .num (tT 64) (kI 1)),oM 8 65]))))) (sQ (.draw [Yd 0 (oO 66 (.bslice [(.int .i64 0),
 (.int .i64 0)] 0 [])) 0 0,Yd 1 (oM 67 0) 0 0,Yd 2 (oM 68 8) 0 0,Yd 3 (oO 69 (.slc 2 (tT 67) none (some (tT 68)) none)) 6 0,Yd 4 (oO 70 (.append [(.int .i64 0),(.int .i64 0)] 16 (tT 66) (tT 69))) 15 30,
 Yd 5 (oM 71 1) 0 0,Yd 6 (oM 72 2) 0 0,Yd 7 (oO 73 (.build [(.int .i64 0),(.int .i64 0)] [(0,1,(tT 71)),(1,1,(tT 72))])) 96 0,Yd 8 (oO 74 (.bslice [(.int .i64 0),(.int .i64 0)] 1 [(0,(tT 73))])) 224 0,Yd 9 (oO 75 (.append [(.int .i64 0),
 (.int .i64 0)] 16 (tT 70) (tT 74))) 511 1022,Yd 10 (oM 76 0) 0 0,Yd 11 (oM 77 8) 0 0,Yd 12 (oO 78 (.slc 2 (tT 76) (some (tT 77)) none none)) 3072 0,Yd 13 (oO 79 (.append [(.int .i64 0),(.int .i64 0)] 16 (tT 75) (tT 78))) 8191 1,
 Yd 14 (oM 6 79) 16383 1,Yd 15 (oO 7 (.mov (kI 0))) 32767 1]) .ret)))))))
theorem ok51 : FnOk Tryz.prog 51 80 ir51 [.tmp 6, .tmp 7] := Yf Tryz.func51 Tryz.ntmps51 mixed
def ir52 : ACode := (Yr [oO 6 (.alloc [(.int .u64 0),(.int .u64 0)])] (Yr [oM 9 0,oO 10 (.conv .u8 (tT 9)),oM 11 0,oO 12 (.bin .shr .num (tT 11) (.const (.int .u64 1))),oM 13 0,oO 14 (.bin .shl .num (tT 13) (.const (.int .u64 3))),
 oO 15 (.bin .or .num (tT 12) (tT 14)),oO 16 (.conv .u8 (tT 15)),oO 17 (.bin .and .num (tT 10) (tT 16)),oM 18 2,oO 19 (.bin .and .num (tT 17) (tT 18)),oM 7 19] (Yr [oM 20 1,oO 21 (.conv .u8 (tT 20)),oM 22 1,
 oO 23 (.bin .shr .num (tT 22) (.const (.int .u64 2))),oM 24 1,oO 25 (.bin .shl .num (tT 24) (.const (.int .u64 1))),oO 26 (.bin .or .num (tT 23) (tT 25)),oO 27 (.conv .u8 (tT 26)),oO 28 (.bin .and .num (tT 21) (tT 27)),
 oM 29 2,oO 30 (.bin .and .num (tT 28) (tT 29)),oM 31 7,oO 32 (.bin .andNot .num (tT 30) (tT 31)),oM 8 32] (Yr [oM 33 7,oO 34 (.conv .u64 (tT 33)),oM 35 8,oO 36 (.conv .u64 (tT 35)),oO 37 (.build [(.int .u64 0),
 (.int .u64 0)] [(0,1,(tT 34)),(1,1,(tT 36))]),Ys 2 6 37] .ret))))
theorem ok52 : FnOk Tryz.prog 52 38 ir52 [.cell 6 true 2] := Yf Tryz.func52 Tryz.ntmps52 mixed
def ir53 : ACode := (Yr [Yb 2 0,oO 4 (.mov kF)] (Yr [oM 5 1,Ya 6 0 2,Yk 7 6,oO 8 (.bin .and .num (tT 5) (tT 7)),Ya 9 0 2,Yk 10 9,oO 11 (.bin .eql .num (tT 8) (tT 10)),oM 12 11,oT 12 13 (.mov (tT 1)),oT 12 14 (.faddr 1 (tT 2)),
 oT 12 15 (.load false 1 (tT 14)),oT 12 16 (.bin .and .num (tT 13) (tT 15)),oT 12 17 (.bin .eql .num (tT 16) (.const (.int .u64 0))),oO 18 (.pick (tT 12) (tT 17) kF),oM 4 18] .ret))
theorem ok53 : FnOk Tryz.prog 53 19 ir53 [.tmp 4] := Yf Tryz.func53 Tryz.ntmps53 mixed
def ir54 : ACode := (Yr [oO 4 (.mov (.const (.int .u64 0)))] (Yr [oO 5 (.mov (.const (.int .u64 0)))] (sQ (Yr [oO 6 (.mov (kI 1))] (.block 0 (.loop (sQ (Yr [oM 7 6,oO 8 (.bin .lss .num (tT 7) (kI 64))] (.cond (tT 8) .skip (.exit 0))) (sQ (.block 1 (Yr [oM 11 1,
 oM 12 6,oO 13 (.bin .shr .num (tT 11) (tT 12)),oO 14 (.bin .rem .num (tT 13) (.const (.int .u64 2))),oO 15 (.bin .eql .num (tT 14) (.const (.int .u64 1)))] (.cond (tT 15) (Yg [oM 16 5,oM 17 0,oM 18 6,Yc 19 112 [tT 17,
 tT 18],oO 20 (.bin .or .num (tT 16) (tT 19)),oM 5 20]) .skip))) (Yg [oM 9 6,oO 10 (.bin .add .num (tT 9) (kI 1)),oM 6 10])))))) (Yr [oM 21 5,oM 4 21] .ret))))
theorem ok54 : FnOk Tryz.prog 54 22 ir54 [.tmp 4] := Yf Tryz.func54 Tryz.ntmps54 mixed
def ir55 : ACode := (Yr [oO 6 (.mov (.const (.pointer none))),oO 7 (.mov (kI 0))] (sQ (Yr [oM 10 0,oO 11 (.bin .eql .ptr (tT 10) (.const (.pointer none))),oM 12 11,oF 12 13 (.mov (tT 1)),oF 12 14 (kC 113 [tT 13]),
 oF 12 15 (.una .not (tT 14)),oO 16 (.pick (tT 12) kT (tT 15)),oM 17 16,oF 17 18 (.mov (tT 2)),oF 17 19 (kC 113 [tT 18]),oF 17 20 (.una .not (tT 19)),oO 21 (.pick (tT 17) kT (tT 20)),oM 22 21,oF 22 23 (.mov (tT 1)),
 oF 22 24 (.mov (tT 2)),oF 22 25 (.bin .eql .num (tT 23) (tT 24)),oO 26 (.pick (tT 22) kT (tT 25))] (.cond (tT 26) (Yr [oO 6 (.mov (.const (.pointer none))),oO 7 (.mov (kI 1))] .ret) .skip)) (Yr [oM 28 0,
 oO 29 (.nilck (tT 28)),Ya 30 0 29,Yk 31 30,oM 32 1,oM 33 2,Yc 34 114 [tT 31,tT 32,tT 33],oM 27 34,Yx 35 27 0,Yx 36 27 1,oM 8 35,oM 9 36] (sQ (Yr [oM 37 9,oO 38 (.bin .neq .num (tT 37) (kI 0))] (.cond (tT 38) (Yr [oM 39 9,
 oO 6 (.mov (.const (.pointer none))),oM 7 39] .ret) .skip)) (Yr [oM 40 8,oO 41 (.build [(.pointer none)] [(0,1,(tT 40))]),Yb 42 41,oM 6 42,oO 7 (.mov (kI 0))] .ret)))))
theorem ok55 : FnOk Tryz.prog 55 43 ir55 [.tmp 6, .tmp 7] := Yf Tryz.func55 Tryz.ntmps55 mixed
def ir56 : ACode := (Yr [Yb 1 0,oO 2 (.alloc [nS,nS])] (sQ (.draw [Yd 0 (Ya 3 0 1) 0 0,Yd 1 (Yk 4 3) 1 0,Yd 2 (Yc 5 11 [tT 4]) 3 0,Yd 3 (Ya 6 1 1) 0 0,Yd 4 (Yk 7 6) 8 0,Yd 5 (Yc 8 11 [tT 7]) 31 1,Yd 6 (oO 9 (.build [nS,
 nS] [(0,1,(tT 5)),(1,1,(tT 8))])) 63 1,Yd 7 (Ys 2 2 9) 127 1]) .ret))
theorem ok56 : FnOk Tryz.prog 56 10 ir56 [.cell 2 true 2] := Yf Tryz.func56 Tryz.ntmps56 mixed
def ir57 : ACode := (Yr [oO 4 (.alloc [(.int .u64 0),(.int .u64 0)])] (Yr [oM 5 0,oM 6 1,oO 7 (.bin .and .num (tT 5) (tT 6)),oO 8 (.bin .and .num (tT 7) (.const (.int .u8 63))),oO 9 (.conv .u64 (tT 8)),
 oO 10 (.bin .shl .num (tT 9) (.const (.int .u64 1))),oM 11 0,oO 12 (.bin .and .num (tT 11) (.const (.int .u8 63))),oM 13 1,oO 14 (.bin .sub .num (.const (.int .u8 255)) (tT 13)),oO 15 (.bin .and .num (tT 12) (tT 14)),
 oO 16 (.conv .u64 (tT 15)),oO 17 (.bin .shl .num (tT 16) (.const (.int .u64 1))),oO 18 (.build [(.int .u64 0),(.int .u64 0)] [(0,1,(tT 10)),(1,1,(tT 17))]),Ys 2 4 18] .ret))
theorem ok57 : FnOk Tryz.prog 57 19 ir57 [.cell 4 true 2] := Yf Tryz.func57 Tryz.ntmps57 mixed
def ir58 : ACode := (Yr [Yb 2 0,oO 4 (.mov kF)] (sQ (Yr [oM 7 1,Yn 8 7,oO 9 (.mov (kI 0))] (.block 0 (.loop (Yr [oO 10 (.bin .lss .num (tT 9) (tT 8))] (sQ (.cond (tT 10) .skip (.exit 0)) (sQ (.block 1 (Yr [Yi 11 2 7 9,
 Yl 12 2 11,oO 6 (.alloc [(.int .u64 0),(.int .u64 0)]),Ys 2 6 12] (Yr [Ya 13 0 6,Yk 14 13,Ya 15 1 6,Yk 16 15,oO 17 (.bin .or .num (tT 14) (tT 16)),oO 18 (.bin .rem .num (tT 17) (.const (.int .u64 2))),
 oO 19 (.bin .eql .num (tT 18) (.const (.int .u64 1))),oM 20 19,oF 20 21 (.faddr 0 (tT 6)),oF 20 22 (.load false 1 (tT 21)),oF 20 23 (.faddr 1 (tT 6)),oF 20 24 (.load false 1 (tT 23)),oF 20 25 (.bin .or .num (tT 22) (tT 24)),
 oF 20 26 (.faddr 0 (tT 2)),oF 20 27 (.load false 1 (tT 26)),oF 20 28 (.bin .add .num (tT 27) (kI 1)),oF 20 29 (.bin .shr .num (tT 25) (tT 28)),oF 20 30 (.bin .neq .num (tT 29) (.const (.int .u64 0))),oO 31 (.pick (tT 20) kT (tT 30))] (.cond (tT 31) (Yr [oO 4 (.mov kF)] .ret) .skip)))) (Yg [oO 32 (.bin .add .num (tT 9) (kI 1)),
 oM 9 32]))))))) (Yr [oO 4 (.mov kT)] .ret)))
theorem ok58 : FnOk Tryz.prog 58 33 ir58 [.tmp 4] := Yf Tryz.func58 Tryz.ntmps58 mixed
def ir59 : ACode := (Yr [Yb 2 0,oO 4 (.alloc [(.int .i64 0),(.int .i64 0),(.int .i64 0)])] (Yr [Ya 10 2 2,Yk 11 10,oM 5 11] (sQ (Yr [oM 12 1,Yn 13 12,oO 14 (.mov (kI 0))] (.block 0 (.loop (Yr [oO 15 (.bin .lss .num (tT 14) (tT 13))] (sQ (.cond (tT 15) .skip (.exit 0)) (sQ (.block 1 (Yr [oM 16 14,
 Yi 17 1 12 14,Yk 18 17,oM 6 16,oM 7 18] (Yr [Yl 20 6 2,oM 21 5,oM 22 7,Yc 23 81 [tT 20,tT 21,tT 22],oM 19 23,Yx 24 19 0,Yx 25 19 1,oM 8 24,oM 9 25] (sQ (Yr [oM 26 9,oO 27 (.una .not (tT 26))] (.cond (tT 27) (Yr [oM 28 6,
 oM 29 7,oO 30 (.build [(.int .i64 0),(.int .i64 0),(.int .i64 0)] [(0,1,(kI 4)),(1,1,(tT 28)),(2,1,(tT 29))]),Ys 3 4 30] .ret) .skip)) (Yg [oM 31 8,oM 5 31]))))) (Yg [oO 32 (.bin .add .num (tT 14) (kI 1)),
 oM 14 32]))))))) (sQ (Yr [Yl 33 6 2,oM 34 5,Yc 35 32 [tT 33,tT 34],oO 36 (.una .not (tT 35))] (.cond (tT 36) (Yr [oO 37 (.build [(.int .i64 0),(.int .i64 0),(.int .i64 0)] [(0,1,(kI 5))]),Ys 3 4 37] .ret) .skip)) (Yr [oO 38 (.build [(.int .i64 0),
 (.int .i64 0),(.int .i64 0)] [(0,1,(kI 1))]),Ys 3 4 38] .ret)))))
theorem ok59 : FnOk Tryz.prog 59 39 ir59 [.cell 4 true 3] := Yf Tryz.func59 Tryz.ntmps59 mixed
def ir60 : ACode := (Yr [Yb 2 0,oO 4 (.alloc [(.int .i64 0),(.int .i64 0),(.int .i64 0)])] (sQ (Yr [oM 10 1,Yn 11 10,oO 12 (.mov (kI 0))] (.block 0 (.loop (Yr [oO 13 (.bin .lss .num (tT 12) (tT 11))] (sQ (.cond (tT 13) .skip (.exit 0)) (sQ (.block 1 (Yr [oM 14 12,
 Yi 15 2 10 12,Yl 16 2 15,oO 6 (.alloc [(.int .u64 0),(.int .u64 0)]),oM 5 14,Ys 2 6 16] (Yr [Yl 17 2 6,Ya 18 2 2,Yk 19 18,Yc 20 53 [tT 17,tT 19]] (.cond (tT 20) (Yr [oM 21 5,oO 22 (.build [(.int .i64 0),
 (.int .i64 0),(.int .i64 0)] [(0,1,(kI 6)),(1,1,(tT 21))]),Ys 3 4 22] .ret) .skip)))) (Yg [oO 23 (.bin .add .num (tT 12) (kI 1)),oM 12 23]))))))) (sQ (Yr [Yl 24 6 2,oM 25 1,Yc 26 115 [tT 24,tT 25],Yn 27 26,
 oO 28 (.bin .gtr .num (tT 27) (kI 0))] (.cond (tT 28) (Yr [oO 29 (.build [(.int .i64 0),(.int .i64 0),(.int .i64 0)] [(0,1,(kI 7))]),Ys 3 4 29] .ret) .skip)) (sQ (Yr [oM 30 1,Yn 31 30,oO 32 (.mov (kI 0))] (.block 2 (.loop (Yr [oO 33 (.bin .lss .num (tT 32) (tT 31))] (sQ (.cond (tT 33) .skip (.exit 2)) (sQ (.block 3 (Yr [oM 34 32,
 Yi 35 2 30 32,Yl 36 2 35,oO 8 (.alloc [(.int .u64 0),(.int .u64 0)]),oM 7 34,Ys 2 8 36] (Yr [Ya 37 3 2,Yk 38 37,Yn 39 38,oO 40 (.mov (kI 0))] (.block 4 (.loop (Yr [oO 41 (.bin .lss .num (tT 40) (tT 39))] (sQ (.cond (tT 41) .skip (.exit 4)) (sQ (.block 5 (Yr [oM 42 40,
 oM 9 42] (Yr [Yl 43 6 2,oM 44 1,Yl 45 2 8,oM 46 9,Yc 47 116 [tT 43,tT 44,tT 45,tT 46],Yn 48 47,oO 49 (.bin .gtr .num (tT 48) (kI 0))] (.cond (tT 49) (Yr [oM 50 7,oM 51 9,oO 52 (.build [(.int .i64 0),(.int .i64 0),
 (.int .i64 0)] [(0,1,(kI 8)),(1,1,(tT 50)),(2,1,(tT 51))]),Ys 3 4 52] .ret) .skip)))) (Yg [oO 53 (.bin .add .num (tT 40) (kI 1)),oM 40 53]))))))))) (Yg [oO 54 (.bin .add .num (tT 32) (kI 1)),oM 32 54]))))))) (Yr [oO 55 (.build [(.int .i64 0),
 (.int .i64 0),(.int .i64 0)] [(0,1,(kI 1))]),Ys 3 4 55] .ret)))))
theorem ok60 : FnOk Tryz.prog 60 56 ir60 [.cell 4 true 3] := Yf Tryz.func60 Tryz.ntmps60 mixed
def ir61 : ACode := (Yr [oO 0 (.mov (.const (.pointer none)))] (Yr [oO 1 (.build [nS] []),Yb 2 1,oM 0 2] .ret))
theorem ok61 : FnOk Tryz.prog 61 3 ir61 [.tmp 0] := Yf Tryz.func61 Tryz.ntmps61 mixed
def ir62 : ACode := (Yg [oM 4 0,oM 5 1,Yc 6 118 [tT 5],Yc 7 117 [tT 4,tT 6]])
theorem ok62 : FnOk Tryz.prog 62 8 ir62 [] := Yf Tryz.func62 Tryz.ntmps62 mixed
def ir63 : ACode := (Yr [oM 4 0,oM 5 1,Yn 6 5,oO 7 (.conv .u64 (tT 6)),Yc 8 62 [tT 4,tT 7]] (Yg [oM 9 0,oM 10 1,Yc 11 117 [tT 9,tT 10]]))
theorem ok63 : FnOk Tryz.prog 63 12 ir63 [] := Yf Tryz.func63 Tryz.ntmps63 mixed
def ir64 : ACode := (Yr [oO 2 (.mov (.const nS))] (sQ (Yr [oM 7 0,oO 8 (.bin .eql .ptr (tT 7) (.const (.pointer none)))] (.cond (tT 8) (Yr [oO 2 (.mov (.const nS))] .ret) .skip)) (Yr [Yc 9 61 [],oM 3 9] (Yr [oM 10 0,
 Yc 11 119 [tT 10],oM 4 11] (Yr [oM 12 3,oM 13 4,Yn 14 13,oO 15 (.conv .u64 (tT 14)),Yc 16 62 [tT 12,tT 15]] (sQ (Yr [oM 17 4,Yn 18 17,oO 19 (.mov (kI 0))] (.block 0 (.loop (Yr [oO 20 (.bin .lss .num (tT 19) (tT 18))] (sQ (.cond (tT 20) .skip (.exit 0)) (sQ (.block 1 (Yr [Yi 21 2 17 19,
 Yl 22 2 21,oO 6 (.alloc [(.int .i64 0),(.int .i64 0)]),Ys 2 6 22] (Yr [oM 23 3,oO 24 (.iaddrA 2 1 (tT 6) (kI 0)),Yk 25 24,oO 26 (.conv .u64 (tT 25)),Yc 27 62 [tT 23,tT 26]] (Yg [oM 28 3,oO 29 (.iaddrA 2 1 (tT 6) (kI 1)),
 Yk 30 29,oO 31 (.conv .u64 (tT 30)),Yc 32 62 [tT 28,tT 31]])))) (Yg [oO 33 (.bin .add .num (tT 19) (kI 1)),oM 19 33]))))))) (Yr [oM 34 3,Yc 35 70 [tT 34],oM 2 35] .ret)))))))
theorem ok64 : FnOk Tryz.prog 64 36 ir64 [.tmp 2] := Yf Tryz.func64 Tryz.ntmps64 mixed
def ir65 : ACode := (Yr [Yb 3 1] (Yg [oM 4 0,Yl 5 1 3,Yc 6 120 [tT 5],Yc 7 63 [tT 4,tT 6]]))
theorem ok65 : FnOk Tryz.prog 65 8 ir65 [] := Yf Tryz.func65 Tryz.ntmps65 mixed
def ir66 : ACode := (sQ (Yr [oM 4 1] (.cond (tT 4) (Yr [oM 5 0,oO 6 (.bslice [Yu] 1 [(0,(.const (.int .u8 1)))]),Yc 7 117 [tT 5,tT 6]] .ret) .skip)) (Yg [oM 8 0,oO 9 (.bslice [Yu] 1 [(0,(.const Yu))]),
 Yc 10 117 [tT 8,tT 9]]))
theorem ok66 : FnOk Tryz.prog 66 11 ir66 [] := Yf Tryz.func66 Tryz.ntmps66 mixed
def ir67 : ACode := (Yr [Yb 3 1] (Yr [oM 4 0,Ya 5 0 3,Yl 6 1 5,Yc 7 65 [tT 4,tT 6]] (Yg [oM 8 0,Ya 9 1 3,Yl 10 1 9,Yc 11 65 [tT 8,tT 10]])))
theorem ok67 : FnOk Tryz.prog 67 12 ir67 [] := Yf Tryz.func67 Tryz.ntmps67 mixed
def ir68 : ACode := (Yr [oM 6 0,oM 7 1,Yn 8 7,oO 9 (.conv .u64 (tT 8)),Yc 10 62 [tT 6,tT 9]] (Yr [oM 11 1,Yn 12 11,oO 13 (.mov (kI 0))] (.block 0 (.loop (Yr [oO 14 (.bin .lss .num (tT 13) (tT 12))] (sQ (.cond (tT 14) .skip (.exit 0)) (sQ (.block 1 (Yr [Yi 15 2 11 13,
 Yl 16 2 15,oO 5 (.alloc [nS,nS]),Ys 2 5 16] (Yg [oM 17 0,Yl 18 2 5,Yc 19 67 [tT 17,tT 18]]))) (Yg [oO 20 (.bin .add .num (tT 13) (kI 1)),oM 13 20]))))))))
theorem ok68 : FnOk Tryz.prog 68 21 ir68 [] := Yf Tryz.func68 Tryz.ntmps68 mixed
def ir69 : ACode := (Yr [oO 4 (.alloc Y1)] (Yr [Yc 8 61 [],oM 5 8] (Yr [oM 9 5,oM 10 0,Yc 11 121 [tT 9,tT 10]] (sQ (Yr [oM 12 1,Yn 13 12,oO 14 (.mov (kI 0))] (.block 0 (.loop (Yr [oO 15 (.bin .lss .num (tT 14) (tT 13))] (sQ (.cond (tT 15) .skip (.exit 0)) (sQ (.block 1 (Yr [Yi 16 1 12 14,
 Yk 17 16,oM 7 17] (Yg [oM 18 5,oM 19 7,Yc 20 63 [tT 18,tT 19]]))) (Yg [oO 21 (.bin .add .num (tT 14) (kI 1)),oM 14 21]))))))) (Yr [oM 22 5,Yc 23 70 [tT 22],Yc 24 122 [tT 23],Ys 32 4 24] .ret)))))
theorem ok69 : FnOk Tryz.prog 69 25 ir69 [.cell 4 true 32] := Yf Tryz.func69 Tryz.ntmps69 mixed
def ir70 : ACode := (Yr [oO 2 (.mov (.const nS))] (sQ (Yr [oM 3 0,oO 4 (.bin .eql .ptr (tT 3) (.const (.pointer none)))] (.cond (tT 4) (Yr [oO 2 (.mov (.const nS))] .ret) .skip)) (Yr [oM 5 0,oO 6 (.nilck (tT 5)),
 Ya 7 0 6,Yk 8 7,Yc 9 123 [tT 8],oM 2 9] .ret)))
theorem ok70 : FnOk Tryz.prog 70 10 ir70 [.tmp 2] := Yf Tryz.func70 Tryz.ntmps70 mixed
def ir71 : ACode := (Yr [oO 4 (.mov kF)] (Yr [oM 5 0,oM 6 1,Yc 7 124 [tT 5,tT 6],oO 8 (.bin .geq .num (tT 7) (kI 0)),oM 4 8] .ret))
theorem ok71 : FnOk Tryz.prog 71 9 ir71 [.tmp 4] := Yf Tryz.func71 Tryz.ntmps71 mixed
def ir72 : ACode := (Yr [oO 2 (.mov kF)] (Yr [oM 3 0,oO 4 (.bin .lss .num (tT 3) (kI 0)),oM 5 4,oF 5 6 (.mov (tT 0)),oF 5 7 (.bin .geq .num (tT 6) (kI 64)),oO 8 (.pick (tT 5) kT (tT 7)),oM 2 8] .ret))
theorem ok72 : FnOk Tryz.prog 72 9 ir72 [.tmp 2] := Yf Tryz.func72 Tryz.ntmps72 mixed
def ir73 : ACode := (Yr [oO 2 (.alloc [nS])] (Yr [oM 5 0,oO 6 (.mx (tT 5) (kI 0)),oO 7 (.mn (tT 6) (kI 4096)),oM 0 7] (Yr [oM 8 0,oO 9 (.bin .add .num (tT 8) (kI 63)),oO 10 (.bin .quo .num (tT 9) (kI 64)),
 oO 11 (.mslice [(.int .u64 0)] 8 (tT 10) (tT 10)),oM 3 11] (sQ (Yr [oM 12 3,Yn 13 12,oO 14 (.mov (kI 0))] (.block 0 (.loop (Yr [oO 15 (.bin .lss .num (tT 14) (tT 13))] (sQ (.cond (tT 15) .skip (.exit 0)) (sQ (.block 1 (Yr [oM 16 14,
 oM 4 16] (Yg [oM 17 3,oM 18 4,Yi 19 1 17 18,⟨none,.store 1 (tT 19) (.const (.int .u64 18446744073709551615)),none⟩]))) (Yg [oO 20 (.bin .add .num (tT 14) (kI 1)),oM 14 20]))))))) (sQ (Yr [oM 21 0,oO 22 (.bin .rem .num (tT 21) (kI 64)),
 oO 23 (.bin .gtr .num (tT 22) (kI 0))] (.cond (tT 23) (Yg [oM 24 3,oM 25 3,Yn 26 25,oO 27 (.bin .sub .num (tT 26) (kI 1)),oM 28 0,oO 29 (.bin .rem .num (tT 28) (kI 64)),oO 30 (.bin .shl .num (.const (.int .u64 1)) (tT 29)),
 oO 31 (.bin .sub .num (tT 30) (.const (.int .u64 1))),Yi 32 1 24 27,Ys 1 32 31]) .skip)) (Yr [oM 33 3,oO 34 (.build [nS] [(0,1,(tT 33))]),Ys 1 2 34] .ret))))))
theorem ok73 : FnOk Tryz.prog 73 35 ir73 [.cell 2 true 1] := Yf Tryz.func73 Tryz.ntmps73 mixed
def ir74 : ACode := (Yr [Yb 2 0,Yb 3 1,oO 4 (.alloc [nS])] (Yr [Ya 7 0 2,Yk 8 7,Yn 9 8,Ya 10 0 3,Yk 11 10,Yn 12 11,oO 13 (.mx (tT 9) (tT 12)),oO 14 (.mslice [(.int .u64 0)] 8 (tT 13) (tT 13)),oM 5 14] (sQ (Yr [oM 15 5,
 Yn 16 15,oO 17 (.mov (kI 0))] (.block 0 (.loop (Yr [oO 18 (.bin .lss .num (tT 17) (tT 16))] (sQ (.cond (tT 18) .skip (.exit 0)) (sQ (.block 1 (Yr [oM 19 17,oM 6 19] (.draw [Yd 0 (oM 20 5) 0 0,Yd 1 (oM 21 6) 0 0,
 Yd 2 (Yl 22 1 2) 0 0,Yd 3 (oM 23 6) 0 0,Yd 4 (Yc 24 83 [tT 22,tT 23]) 12 0,Yd 5 (Yl 25 1 3) 0 0,Yd 6 (oM 26 6) 0 0,Yd 7 (Yc 27 83 [tT 25,tT 26]) 124 1,Yd 8 (oO 28 (.bin .or .num (tT 24) (tT 27))) 252 1,
 Yd 9 (Yi 29 1 20 21) 511 1,Yd 10 (Ys 1 29 28) 1023 1]))) (Yg [oO 30 (.bin .add .num (tT 17) (kI 1)),oM 17 30]))))))) (Yr [oM 31 5,oO 32 (.build [nS] [(0,1,(tT 31))]),Ys 1 4 32] .ret))))
theorem ok74 : FnOk Tryz.prog 74 33 ir74 [.cell 4 true 1] := Yf Tryz.func74 Tryz.ntmps74 mixed
def ir75 : ACode := (Yr [Yb 2 0,Yb 3 1,oO 4 (.mov kF)] (sQ (Yr [Ya 7 0 2,Yk 8 7,Yn 9 8,oO 10 (.mov (kI 0))] (.block 0 (.loop (Yr [oO 11 (.bin .lss .num (tT 10) (tT 9))] (sQ (.cond (tT 11) .skip (.exit 0)) (sQ (.block 1 (Yr [oM 12 10,
 Yi 13 1 8 10,Yk 14 13,oM 5 12,oM 6 14] (Yr [oM 15 6,Yl 16 1 3,oM 17 5,Yc 18 83 [tT 16,tT 17],oO 19 (.bin .andNot .num (tT 15) (tT 18)),oO 20 (.bin .neq .num (tT 19) (.const (.int .u64 0)))] (.cond (tT 20) (Yr [oO 4 (.mov kF)] .ret) .skip)))) (Yg [oO 21 (.bin .add .num (tT 10) (kI 1)),
 oM 10 21]))))))) (Yr [oO 4 (.mov kT)] .ret)))
theorem ok75 : FnOk Tryz.prog 75 22 ir75 [.tmp 4] := Yf Tryz.func75 Tryz.ntmps75 mixed
def ir76 : ACode := (Yr [Yb 1 0,oO 2 (.mov kF)] (Yr [Ya 3 0 1,Yl 4 1 3,Ya 5 1 1,Yl 6 1 5,Yc 7 84 [tT 4,tT 6],oM 2 7] .ret))
theorem ok76 : FnOk Tryz.prog 76 8 ir76 [.tmp 2] := Yf Tryz.func76 Tryz.ntmps76 mixed
def ir77 : ACode := (Yr [oO 2 (.alloc [nS])] (Yr [oO 3 (.alloc [nS])] (sQ (Yr [oM 6 0,Yn 7 6,oO 8 (.mov (kI 0))] (.block 0 (.loop (Yr [oO 9 (.bin .lss .num (tT 8) (tT 7))] (sQ (.cond (tT 9) .skip (.exit 0)) (sQ (.block 1 (Yr [Yi 10 2 6 8,
 Yl 11 2 10,oO 5 (.alloc [nS,nS]),Ys 2 5 11] (.draw [Yd 0 (Yl 12 1 3) 0 0,Yd 1 (Ya 13 0 5) 0 0,Yd 2 (Yl 14 1 13) 2 0,Yd 3 (Yc 15 74 [tT 12,tT 14]) 7 0,Yd 4 (Ya 16 1 5) 0 0,Yd 5 (Yl 17 1 16) 16 0,Yd 6 (Yc 18 74 [tT 15,
 tT 17]) 63 1,Yd 7 (Ys 1 3 18) 127 1]))) (Yg [oO 19 (.bin .add .num (tT 8) (kI 1)),oM 8 19]))))))) (Yr [Yl 20 1 3,Ys 1 2 20] .ret))))
theorem ok77 : FnOk Tryz.prog 77 21 ir77 [.cell 2 true 1] := Yf Tryz.func77 Tryz.ntmps77 mixed
def ir78 : ACode := (Yr [Yb 3 1,oO 4 (.mov kF)] (Yr [oM 5 0,oO 6 (.mkfn 125 [tT 3]),Yc 7 92 [tT 5,tT 6],oM 4 7] .ret))
theorem ok78 : FnOk Tryz.prog 78 8 ir78 [.tmp 4] := Yf Tryz.func78 Tryz.ntmps78 mixed
def ir79 : ACode := (Yr [Yb 2 0,oO 4 (.alloc [nS]),oO 5 (.mov kF)] (Yr [Yl 6 6 2,Ya 7 4 2,Yk 8 7,oO 9 (.build [(.bool false),(.bool false),(.bool false),(.int .i64 0),nS,nS] [(0,1,kT),(5,1,(tT 8))]),Ya 10 5 2,
 Yk 11 10,oO 12 (.build [(.bool false),(.bool false),(.bool false),(.int .i64 0),nS,nS] [(0,1,kT),(4,1,(tT 11)),(2,1,kT)]),oM 13 1,oO 14 (.build [(.bool false),(.bool false),(.bool false),(.int .i64 0),
 nS,nS] [(5,1,(tT 13))]),oO 15 (.bslice [(.bool false),(.bool false),(.bool false),(.int .i64 0),nS,nS] 3 [(0,(tT 9)),(1,(tT 12)),(2,(tT 14))]),Yc 16 126 [tT 6,tT 15],Yx 17 16 0,Yx 18 16 1,Ys 1 4 17,oM 5 18] .ret))
theorem ok79 : FnOk Tryz.prog 79 19 ir79 [.cell 4 true 1, .tmp 5] := Yf Tryz.func79 Tryz.ntmps79 mixed
def ir80 : ACode := (Yr [Yb 4 0,oO 8 (.alloc [nS]),oO 9 (.mov kF)] (Yr [Ya 12 3 4,Yk 13 12,oM 14 3,Yi 15 5 13 14,Yl 16 5 15,oO 10 (.alloc [(.bool false),nS,nS,(.int .i64 0),(.int .i64 0)]),Ys 5 10 16] (Yr [Ya 17 3 10,
 Yk 18 17,oO 19 (.bslice [(.int .i64 0)] 1 [(0,(tT 18))]),Yc 20 17 [tT 19],oO 21 (.build [nS,nS] [(1,1,(tT 20))]),oO 11 (.alloc [nS,nS]),Ys 2 11 21] (sQ (Yr [Ya 22 0 10,Yk 23 22] (.cond (tT 23) (Yg [Ya 24 3 10,
 Yk 25 24,oO 26 (.bslice [(.int .i64 0)] 1 [(0,(tT 25))]),Yc 27 17 [tT 26],oO 28 (.build [nS,nS] [(0,1,(tT 27))]),Ys 2 11 28]) .skip)) (sQ (.draw [Yd 0 (Yl 29 6 4) 0 0,Yd 1 (Ya 30 4 4) 0 0,Yd 2 (Yk 31 30) 2 0,
 Yd 3 (oO 32 (.build [(.bool false),(.bool false),(.bool false),(.int .i64 0),nS,nS] [(0,1,kT),(5,1,(tT 31))])) 6 0,Yd 4 (oM 33 1) 0 0,Yd 5 (oO 34 (.build [(.bool false),(.bool false),(.bool false),(.int .i64 0),
 nS,nS] [(5,1,(tT 33))])) 16 0,Yd 6 (Yl 35 2 11) 0 0,Yd 7 (oO 36 (.bslice [nS,nS] 1 [(0,(tT 35))])) 64 0,Yd 8 (oO 37 (.build [(.bool false),(.bool false),(.bool false),(.int .i64 0),nS,nS] [(4,1,(tT 36)),
 (2,1,kT)])) 192 0,Yd 9 (Ya 38 1 10) 0 0,Yd 10 (Yl 39 2 38) 512 0,Yd 11 (oO 40 (.bslice [nS,nS] 1 [(0,(tT 39))])) 1536 0,Yd 12 (oO 41 (.build [(.bool false),(.bool false),(.bool false),(.int .i64 0),nS,
 nS] [(0,1,kT),(4,1,(tT 40)),(2,1,kT)])) 3584 0,Yd 13 (Ya 42 3 10) 0 0,Yd 14 (Yk 43 42) 8192 0,Yd 15 (Ya 44 0 10) 0 0,Yd 16 (Yk 45 44) 32768 0,Yd 17 (Ya 46 4 4) 0 0,Yd 18 (Yk 47 46) 131072 0,Yd 19 (oO 48 (.build [(.bool false),
 (.bool false),(.bool false),(.int .i64 0),nS,nS] [(0,1,kT),(3,1,(tT 43)),(1,1,(tT 45)),(5,1,(tT 47))])) 516096 0,Yd 20 (Ya 49 3 10) 0 0,Yd 21 (Yk 50 49) 1048576 0,Yd 22 (Ya 51 0 10) 0 0,Yd 23 (Yk 52 51) 4194304 0,
 Yd 24 (oM 53 1) 0 0,Yd 25 (oM 54 2) 0 0,Yd 26 (oM 55 2) 0 0,Yd 27 (oO 56 (.bin .add .num (tT 55) (kI 1))) 67108864 0,Yd 28 (oO 57 (.slc 2 (tT 53) (some (tT 54)) (some (tT 56)) none)) 251658240 0,Yd 29 (oO 58 (.build [(.bool false),
 (.bool false),(.bool false),(.int .i64 0),nS,nS] [(3,1,(tT 50)),(1,1,(tT 52)),(4,1,(tT 57)),(2,1,kT)])) 535822336 0,Yd 30 (oO 59 (.bslice [(.bool false),(.bool false),(.bool false),(.int .i64 0),nS,nS] 6 [(0,
 (tT 32)),(1,(tT 34)),(2,(tT 37)),(3,(tT 41)),(4,(tT 48)),(5,(tT 58))])) 1073741822 0,Yd 31 (Yc 60 126 [tT 29,tT 59]) 2147483647 1,Yd 32 (Yx 61 60 0) 4294967295 1,Yd 33 (Yx 62 60 1) 4294967295 1,Yd 34 (Ys 1 8 61) 17179869183 1,
 Yd 35 (oM 9 62) 34359738367 1]) .ret)))))
theorem ok80 : FnOk Tryz.prog 80 63 ir80 [.cell 8 true 1, .tmp 9] := Yf Tryz.func80 Tryz.ntmps80 mixed
set_option maxRecDepth 100000
def ir81 : ACode := (Yr [Yb 3 0,oO 6 (.mov (.const (.int .u64 0))),oO 7 (.mov kF)] (sQ (Yr [oM 11 2,oO 12 (.bin .lss .num (tT 11) (kI 0)),oM 13 12,oF 13 14 (.mov (tT 2)),oF 13 15 (.faddr 3 (tT 3)),oF 13 16 (.load false 1 (tT 15)),
 oF 13 17 (.len (tT 16)),oF 13 18 (.bin .geq .num (tT 14) (tT 17)),oO 19 (.pick (tT 13) kT (tT 18))] (.cond (tT 19) (Yr [oO 6 (.mov (.const (.int .u64 0))),oO 7 (.mov kF)] .ret) .skip)) (Yr [Ya 20 3 3,Yk 21 20,
 oM 22 2,Yi 23 5 21 22,Yl 24 5 23,oO 8 (.alloc [(.bool false),(.int .u64 0),(.int .u64 0),(.int .i64 0),(.int .i64 0)]),Ys 5 8 24] (Yr [Ya 25 3 8,Yk 26 25,oO 27 (.conv .u64 (tT 26)),oO 28 (.bin .shl .num (.const (.int .u64 1)) (tT 27)),
 oM 9 28] (Yr [oM 29 1,oM 30 9,oO 31 (.bin .or .num (tT 29) (tT 30)),oM 10 31] (sQ (Yr [Ya 32 0 8,Yk 33 32] (.cond (tT 33) (Yg [oM 34 1,oM 35 9,oO 36 (.bin .andNot .num (tT 34) (tT 35)),oM 10 36]) .skip)) (sQ (Yr [oM 37 10,
 oM 38 1,oO 39 (.bin .eql .num (tT 37) (tT 38)),oM 40 39,oF 40 41 (.load true 6 (tT 3)),oF 40 42 (.mov (tT 10)),oF 40 43 (kC 127 [tT 41,tT 42]),oF 40 44 (.una .not (tT 43)),oO 45 (.pick (tT 40) kT (tT 44))] (.cond (tT 45) (Yr [oO 6 (.mov (.const (.int .u64 0))),
 oO 7 (.mov kF)] .ret) .skip)) (sQ (sQ (.draw [Yd 0 (Ya 46 0 8) 0 1,Yd 1 (Yk 47 46) 1 1,Yd 2 (oO 48 (.una .not (tT 47))) 3 1,Yd 3 (oM 49 48) 7 1,Yd 4 (oT 49 50 (.faddr 1 (tT 8))) 15 0,Yd 5 (oT 49 51 (.load true 2 (tT 50))) 31 0,
 Yd 6 (oT 49 52 (.faddr 1 (tT 3))) 15 0,Yd 7 (oT 49 53 (.load false 1 (tT 52))) 79 0,Yd 8 (oT 49 54 (.mov (tT 1))) 15 0,Yd 9 (oT 49 55 (kC 54 [tT 53,tT 54])) 463 0,Yd 10 (oT 49 56 (kC 53 [tT 51,tT 55])) 1023 1,
 Yd 11 (oT 49 57 (.una .not (tT 56))) 2047 1,Yd 12 (oO 58 (.pick (tT 49) (tT 57) kF)) 4095 1]) (.cond (tT 58) (Yr [oO 6 (.mov (.const (.int .u64 0))),oO 7 (.mov kF)] .ret) .skip)) (Yr [oM 59 10,oM 6 59,
 oO 7 (.mov kT)] .ret)))))))))
theorem ok81 : FnOk Tryz.prog 81 60 ir81 [.tmp 6, .tmp 7] := Yf Tryz.func81 Tryz.ntmps81 mixed
def ir82 : ACode := (Yr [oO 4 (.mov kF)] (sQ (Yr [oM 7 0,Yn 8 7,oO 9 (.mov (kI 0))] (.block 0 (.loop (Yr [oO 10 (.bin .lss .num (tT 9) (tT 8))] (sQ (.cond (tT 10) .skip (.exit 0)) (sQ (.block 1 (Yr [Yi 11 2 7 9,
 Yl 12 2 11,oO 6 (.alloc [(.int .u64 0),(.int .u64 0)]),Ys 2 6 12] (Yr [Yl 13 2 6,oM 14 1,Yc 15 53 [tT 13,tT 14]] (.cond (tT 15) (Yr [oO 4 (.mov kT)] .ret) .skip)))) (Yg [oO 16 (.bin .add .num (tT 9) (kI 1)),
 oM 9 16]))))))) (Yr [oO 4 (.mov kF)] .ret)))
theorem ok82 : FnOk Tryz.prog 82 17 ir82 [.tmp 4] := Yf Tryz.func82 Tryz.ntmps82 mixed
def ir83 : ACode := (Yr [Yb 2 0,oO 4 (.mov (.const (.int .u64 0)))] (sQ (Yr [oM 5 1,Ya 6 0 2,Yk 7 6,Yn 8 7,oO 9 (.bin .lss .num (tT 5) (tT 8))] (.cond (tT 9) (Yr [Ya 10 0 2,Yk 11 10,oM 12 1,Yi 13 1 11 12,
 Yk 14 13,oM 4 14] .ret) .skip)) (Yr [oO 4 (.mov (.const (.int .u64 0)))] .ret)))
theorem ok83 : FnOk Tryz.prog 83 15 ir83 [.tmp 4] := Yf Tryz.func83 Tryz.ntmps83 mixed
def ir84 : ACode := (Yr [Yb 2 0,Yb 3 1,oO 4 (.mov kF)] (sQ (Yr [Ya 6 0 2,Yk 7 6,Yn 8 7,Ya 9 0 3,Yk 10 9,Yn 11 10,oO 12 (.mn (tT 8) (tT 11)),oO 13 (.mov (kI 0))] (.block 0 (.loop (Yr [oO 14 (.bin .lss .num (tT 13) (tT 12))] (sQ (.cond (tT 14) .skip (.exit 0)) (sQ (.block 1 (Yr [oM 15 13,
 oM 5 15] (sQ (.draw [Yd 0 (Ya 16 0 2) 0 0,Yd 1 (Yk 17 16) 1 0,Yd 2 (oM 18 5) 0 0,Yd 3 (Yi 19 1 17 18) 7 0,Yd 4 (Yk 20 19) 15 0,Yd 5 (Ya 21 0 3) 0 0,Yd 6 (Yk 22 21) 32 0,Yd 7 (oM 23 5) 0 0,Yd 8 (Yi 24 1 22 23) 224 0,
 Yd 9 (Yk 25 24) 480 0,Yd 10 (oO 26 (.bin .and .num (tT 20) (tT 25))) 1023 1,Yd 11 (oO 27 (.bin .neq .num (tT 26) (.const (.int .u64 0)))) 2047 1]) (.cond (tT 27) (Yr [oO 4 (.mov kT)] .ret) .skip)))) (Yg [oO 28 (.bin .add .num (tT 13) (kI 1)),
 oM 13 28]))))))) (Yr [oO 4 (.mov kF)] .ret)))
theorem ok84 : FnOk Tryz.prog 84 29 ir84 [.tmp 4] := Yf Tryz.func84 Tryz.ntmps84 mixed
def ir85 : ACode := (Yr [Yb 1 0,oO 2 (.mov (.const .nilFunc))] (Yr [oO 3 (.mkfn 128 [tT 1]),oM 2 3] .ret))
theorem ok85 : FnOk Tryz.prog 85 4 ir85 [.tmp 2] := Yf Tryz.func85 Tryz.ntmps85 mixed
def ir86 : ACode := (Yr [oO 4 (.alloc [nS])] (sQ (Yr [oM 5 0,oO 6 (.bin .eql .ptr (tT 5) (.const (.pointer none))),oM 7 6,oF 7 8 (.mov (tT 1)),oF 7 9 (kC 113 [tT 8]),oF 7 10 (.una .not (tT 9)),oO 11 (.pick (tT 7) kT (tT 10))] (.cond (tT 11) (Yr [oO 12 (.build [nS] []),
 Ys 1 4 12] .ret) .skip)) (Yr [oM 13 0,oO 14 (.nilck (tT 13)),Ya 15 0 14,Yk 16 15,oM 17 1,Yc 18 130 [tT 16,tT 17],oM 19 1,Yc 20 15 [tT 18,tT 19],Ys 1 4 20] .ret)))
theorem ok86 : FnOk Tryz.prog 86 21 ir86 [.cell 4 true 1] := Yf Tryz.func86 Tryz.ntmps86 mixed
def ir87 : ACode := (Yr [Yb 2 0,Yb 3 1,oO 4 (.mov kF)] (sQ (Yr [Ya 7 0 2,Yk 8 7,Yn 9 8,Ya 10 0 3,Yk 11 10,Yn 12 11,oO 13 (.bin .neq .num (tT 9) (tT 12))] (.cond (tT 13) (Yr [oO 4 (.mov kF)] .ret) .skip)) (sQ (Yr [Ya 14 0 2,
 Yk 15 14,Yn 16 15,oO 17 (.mov (kI 0))] (.block 0 (.loop (Yr [oO 18 (.bin .lss .num (tT 17) (tT 16))] (sQ (.cond (tT 18) .skip (.exit 0)) (sQ (.block 1 (Yr [oM 19 17,Yi 20 1 15 17,Yk 21 20,oM 5 19,oM 6 21] (Yr [oM 22 6,
 Ya 23 0 3,Yk 24 23,oM 25 5,Yi 26 1 24 25,Yk 27 26,oO 28 (.bin .neq .num (tT 22) (tT 27))] (.cond (tT 28) (Yr [oO 4 (.mov kF)] .ret) .skip)))) (Yg [oO 29 (.bin .add .num (tT 17) (kI 1)),oM 17 29]))))))) (Yr [oO 4 (.mov kT)] .ret))))
theorem ok87 : FnOk Tryz.prog 87 30 ir87 [.tmp 4] := Yf Tryz.func87 Tryz.ntmps87 mixed
def ir88 : ACode := (Yr [Yb 2 0,Yb 3 1,oO 4 (.mov kF)] (sQ (.draw [Yd 0 (Ya 5 1 2) 0 1,Yd 1 (Yk 6 5) 1 1,Yd 2 (oO 7 (.bin .neq .ptr (tT 6) (.const (.pointer none)))) 3 1,Yd 3 (oM 8 7) 7 1,Yd 4 (oT 8 9 (.faddr 4 (tT 2))) 15 0,
 Yd 5 (oT 8 10 (.load false 1 (tT 9))) 31 0,Yd 6 (oT 8 11 (.faddr 1 (tT 2))) 15 0,Yd 7 (oT 8 12 (.load false 1 (tT 11))) 79 0,Yd 8 (oT 8 13 (.load true 1 (tT 3))) 15 0,Yd 9 (oT 8 14 (kC 37 [tT 12,tT 13])) 463 0,
 Yd 10 (oT 8 15 (kC 78 [tT 10,tT 14])) 1023 1,Yd 11 (oT 8 16 (.una .not (tT 15))) 2047 1,Yd 12 (oO 17 (.pick (tT 8) (tT 16) kF)) 4095 1,Yd 13 (oM 4 17) 8191 1]) .ret))
theorem ok88 : FnOk Tryz.prog 88 18 ir88 [.tmp 4] := Yf Tryz.func88 Tryz.ntmps88 mixed
def ir89 : ACode := (Yr [Yb 1 0,oO 2 (.mov kF)] (Yr [Ya 3 0 1,Yk 4 3,oO 5 (.una .not (tT 4)),oM 6 5,oF 6 7 (.faddr 1 (tT 1)),oF 6 8 (.faddr 0 (tT 7)),oF 6 9 (.load true 1 (tT 8)),oF 6 10 (kC 90 [tT 9]),
 oF 6 11 (.mov (tT 10)),oT 11 12 (.faddr 1 (tT 1)),oT 11 13 (.faddr 1 (tT 12)),oT 11 14 (.load true 1 (tT 13)),oT 11 15 (kC 90 [tT 14]),oF 6 16 (.pick (tT 11) (tT 15) kF),oO 17 (.pick (tT 6) kT (tT 16)),
 oM 2 17] .ret))
theorem ok89 : FnOk Tryz.prog 89 18 ir89 [.tmp 2] := Yf Tryz.func89 Tryz.ntmps89 mixed
def ir90 : ACode := (Yr [Yb 1 0,oO 2 (.mov kF)] (Yr [Ya 3 0 1,Yk 4 3,Yn 5 4,oO 6 (.bin .eql .num (tT 5) (kI 0)),oM 2 6] .ret))
theorem ok90 : FnOk Tryz.prog 90 7 ir90 [.tmp 2] := Yf Tryz.func90 Tryz.ntmps90 mixed
def ir91 : ACode := (Yr [Yb 1 0,oO 2 (.mov kF)] (Yr [Ya 4 0 1,Yk 5 4,oO 6 (.bin .add .num (tT 5) (kI 1)),Yc 7 73 [tT 6],Yc 8 34 [tT 7,kI 0],oO 3 (.alloc [nS]),Ys 1 3 8] (Yr [Ya 9 2 1,Yl 10 1 9,Yl 11 1 3,
 Yc 12 75 [tT 10,tT 11],oM 13 12,oT 13 14 (.faddr 1 (tT 1)),oT 13 15 (.load false 1 (tT 14)),oT 13 16 (kC 119 [tT 15]),oT 13 17 (.mkfn 132 [tT 3]),oT 13 18 (kC 131 [tT 16,tT 17]),oO 19 (.pick (tT 13) (tT 18) kF),
 oM 20 19,oT 20 21 (.faddr 3 (tT 1)),oT 20 22 (.load false 1 (tT 21)),oT 20 23 (.mkfn 133 [tT 3]),oT 20 24 (kC 94 [tT 22,tT 23]),oO 25 (.pick (tT 20) (tT 24) kF),oM 26 25,oT 26 27 (.load true 6 (tT 1)),
 oT 26 28 (kC 93 [tT 27]),oT 26 29 (.mkfn 135 [tT 3]),oT 26 30 (kC 134 [tT 28,tT 29]),oO 31 (.pick (tT 26) (tT 30) kF),oM 2 31] .ret)))
theorem ok91 : FnOk Tryz.prog 91 32 ir91 [.tmp 2] := Yf Tryz.func91 Tryz.ntmps91 mixed
def ir92 : ACode := (Yr [oO 4 (.mov kF)] (Yr [oM 5 0,oM 6 1,Yc 7 136 [tT 5,tT 6],oO 8 (.bin .geq .num (tT 7) (kI 0)),oM 4 8] .ret))
theorem ok92 : FnOk Tryz.prog 92 9 ir92 [.tmp 4] := Yf Tryz.func92 Tryz.ntmps92 mixed
def ir93 : ACode := (Yr [Yb 1 0,oO 2 (.mov (.const nS))] (Yr [oO 3 (.mov (.const nS))] (sQ (Yr [Ya 6 3 1,Yk 7 6,Yn 8 7,oO 9 (.mov (kI 0))] (.block 0 (.loop (Yr [oO 10 (.bin .lss .num (tT 9) (tT 8))] (sQ (.cond (tT 10) .skip (.exit 0)) (sQ (.block 1 (Yr [Yi 11 5 7 9,
 Yl 12 5 11,oO 5 (.alloc [(.bool false),nS,nS,(.int .i64 0),(.int .i64 0)]),Ys 5 5 12] (Yg [oM 13 3,Ya 14 1 5,Yl 15 2 14,oO 16 (.bslice [nS,nS] 1 [(0,(tT 15))]),oO 17 (.append [nS,nS] 48 (tT 13) (tT 16)),
 oM 3 17]))) (Yg [oO 18 (.bin .add .num (tT 9) (kI 1)),oM 9 18]))))))) (sQ (.draw [Yd 0 (oM 19 3) 0 0,Yd 1 (Ya 20 4 1) 0 0,Yd 2 (Yk 21 20) 2 0,Yd 3 (oO 22 (.append [nS,nS] 48 (tT 19) (tT 21))) 7 14,Yd 4 (Ya 23 5 1) 0 0,
 Yd 5 (Yk 24 23) 16 0,Yd 6 (oO 25 (.append [nS,nS] 48 (tT 22) (tT 24))) 63 1,Yd 7 (oM 2 25) 127 1]) .ret))))
theorem ok93 : FnOk Tryz.prog 93 26 ir93 [.tmp 2] := Yf Tryz.func93 Tryz.ntmps93 mixed
def ir94 : ACode := (Yr [Yb 3 1,oO 4 (.mov kF)] (Yr [oM 5 0,oO 6 (.mkfn 138 [tT 3]),Yc 7 137 [tT 5,tT 6],oO 8 (.una .not (tT 7)),oM 4 8] .ret))
theorem ok94 : FnOk Tryz.prog 94 9 ir94 [.tmp 4] := Yf Tryz.func94 Tryz.ntmps94 mixed
def ir104 : ACode := (Yr [Yb 2 0,Yb 3 1,oO 4 (.mov (kI 0))] (sQ (Yr [oO 5 (.iaddrA 2 1 (tT 2) (kI 0)),Yk 6 5,oO 7 (.iaddrA 2 1 (tT 3) (kI 0)),Yk 8 7,oO 9 (.bin .neq .num (tT 6) (tT 8))] (.cond (tT 9) (Yr [oO 10 (.iaddrA 2 1 (tT 2) (kI 0)),
 Yk 11 10,oO 12 (.iaddrA 2 1 (tT 3) (kI 0)),Yk 13 12,oO 14 (.bin .sub .num (tT 11) (tT 13)),oM 4 14] .ret) .skip)) (Yr [oO 15 (.iaddrA 2 1 (tT 2) (kI 1)),Yk 16 15,oO 17 (.iaddrA 2 1 (tT 3) (kI 1)),Yk 18 17,
 oO 19 (.bin .sub .num (tT 16) (tT 18)),oM 4 19] .ret)))
theorem ok104 : FnOk Tryz.prog 104 20 ir104 [.tmp 4] := Yf Tryz.func104 Tryz.ntmps104 mixed
def ir105 : ACode := (Yr [oO 2 (.mov (.const nS))] (Yr [oM 3 0,oM 4 0,Yn 5 4,oM 6 0,Yn 7 6,oO 8 (.slc 2 (tT 3) none (some (tT 5)) (some (tT 7))),oM 2 8] .ret))
theorem ok105 : FnOk Tryz.prog 105 9 ir105 [.tmp 2] := Yf Tryz.func105 Tryz.ntmps105 mixed
def ir106 : ACode := (Yr [oO 2 (.mov (.const nS))] (sQ (Yr [oM 6 0,Yn 7 6,oO 8 (.bin .lss .num (tT 7) (kI 2))] (.cond (tT 8) (Yr [oM 9 0,oM 2 9] .ret) .skip)) (sQ (Yr [oO 3 (.mov (kI 1))] (.block 0 (.loop (sQ (Yr [oM 10 3,
 oM 11 0,Yn 12 11,oO 13 (.bin .lss .num (tT 10) (tT 12))] (.cond (tT 13) .skip (.exit 0))) (sQ (.block 1 (sQ (.draw [Yd 0 (oM 16 0) 0 0,Yd 1 (oM 17 3) 0 0,Yd 2 (Yi 18 2 16 17) 3 0,Yd 3 (Yl 19 2 18) 7 0,
 Yd 4 (oM 20 0) 0 0,Yd 5 (oM 21 3) 0 0,Yd 6 (oO 22 (.bin .sub .num (tT 21) (kI 1))) 32 0,Yd 7 (Yi 23 2 20 22) 112 0,Yd 8 (Yl 24 2 23) 240 0,Yd 9 (oO 25 (.bin .eql (.cells [0,0]) (tT 19) (tT 24))) 511 1]) (.cond (tT 25) (Yr [oM 26 0,
 oM 27 3,oO 28 (.slc 2 (tT 26) (some (tT 27)) none none),oM 4 28] (sQ (Yr [oO 5 (.mov (kI 1))] (.block 2 (.loop (sQ (Yr [oM 29 5,oM 30 4,Yn 31 30,oO 32 (.bin .lss .num (tT 29) (tT 31))] (.cond (tT 32) .skip (.exit 2))) (sQ (.block 3 (sQ (.draw [Yd 0 (oM 35 4) 0 0,
 Yd 1 (oM 36 5) 0 0,Yd 2 (Yi 37 2 35 36) 3 0,Yd 3 (Yl 38 2 37) 7 0,Yd 4 (oM 39 4) 0 0,Yd 5 (oM 40 5) 0 0,Yd 6 (oO 41 (.bin .sub .num (tT 40) (kI 1))) 32 0,Yd 7 (Yi 42 2 39 41) 112 0,Yd 8 (Yl 43 2 42) 240 0,
 Yd 9 (oO 44 (.bin .neq (.cells [0,0]) (tT 38) (tT 43))) 511 1]) (.cond (tT 44) (Yr [oM 45 0,oM 46 3,oM 47 4,oM 48 5,Yi 49 2 47 48,Yl 50 2 49,Yi 51 2 45 46,Ys 2 51 50] (Yg [oM 52 3,oO 53 (.bin .add .num (tT 52) (kI 1)),
 oM 3 53])) .skip))) (Yg [oM 33 5,oO 34 (.bin .add .num (tT 33) (kI 1)),oM 5 34])))))) (Yr [oM 54 0,oM 55 3,oO 56 (.slc 2 (tT 54) (some (tT 55)) none none),⟨none,.clear [(.int .i64 0),(.int .i64 0)] (tT 56),
 none⟩] (Yr [oM 57 0,oM 58 3,oO 59 (.slc 2 (tT 57) none (some (tT 58)) none),oM 2 59] .ret)))) .skip))) (Yg [oM 14 3,oO 15 (.bin .add .num (tT 14) (kI 1)),oM 3 15])))))) (Yr [oM 60 0,oM 2 60] .ret))))
theorem ok106 : FnOk Tryz.prog 106 61 ir106 [.tmp 2] := Yf Tryz.func106 Tryz.ntmps106 mixed
def ir107 : ACode := (Yr [oO 2 (.mov kF)] (Yr [oM 9 0,oO 10 (.nilck (tT 9)),Ya 11 0 10,Yk 12 11,oO 13 (.mslice [(.int .i64 0)] 8 (tT 12) (tT 12)),oM 3 13] (sQ (Yr [oM 14 0,oO 15 (.nilck (tT 14)),Ya 16 1 15,
 Yk 17 16,Yn 18 17,oO 19 (.mov (kI 0))] (.block 0 (.loop (Yr [oO 20 (.bin .lss .num (tT 19) (tT 18))] (sQ (.cond (tT 20) .skip (.exit 0)) (sQ (.block 1 (Yr [Yi 21 2 17 19,Yl 22 2 21,oO 5 (.alloc [(.int .i64 0),
 (.int .i64 0)]),Ys 2 5 22] (Yg [oM 23 3,oO 24 (.iaddrA 2 1 (tT 5) (kI 1)),Yk 25 24,Yi 26 1 23 25,Yk 27 26,oO 28 (.bin .add .num (tT 27) (kI 1)),Yi 29 1 23 25,Ys 1 29 28]))) (Yg [oO 30 (.bin .add .num (tT 19) (kI 1)),
 oM 19 30]))))))) (sQ (.block 2 (.loop (sQ (sQ (.draw [Yd 0 (oM 31 0) 0 0,Yd 1 (oO 32 (.nilck (tT 31))) 1 0,Yd 2 (Ya 33 4 32) 3 0,Yd 3 (Yk 34 33) 7 0,Yd 4 (Yn 35 34) 15 0,Yd 5 (oM 36 0) 0 0,Yd 6 (oO 37 (.nilck (tT 36))) 32 0,
 Yd 7 (Ya 38 0 37) 96 0,Yd 8 (Yk 39 38) 224 0,Yd 9 (oO 40 (.bin .lss .num (tT 35) (tT 39))) 511 1]) (.cond (tT 40) .skip (.exit 2))) (.block 3 (Yr [oM 41 3,Yc 42 148 [tT 41,kI 0],oM 6 42] (sQ (Yr [oM 43 6,
 oO 44 (.bin .lss .num (tT 43) (kI 0))] (.cond (tT 44) (Yr [oO 2 (.mov kF)] .ret) .skip)) (Yr [oM 45 3,oM 46 6,Yi 47 1 45 46,⟨none,.store 1 (tT 47) (.const (.int .i64 (-1))),none⟩] (Yr [oM 48 0,oM 49 0,
 oO 50 (.nilck (tT 49)),Ya 51 4 50,Yk 52 51,oM 53 6,oO 54 (.bslice [(.int .i64 0)] 1 [(0,(tT 53))]),oO 55 (.append [(.int .i64 0)] 8 (tT 52) (tT 54)),oO 56 (.nilck (tT 48)),Ya 57 4 56,Ys 1 57 55] (Yr [oM 58 0,
 oO 59 (.nilck (tT 58)),Ya 60 1 59,Yk 61 60,Yn 62 61,oO 63 (.mov (kI 0))] (.block 4 (.loop (Yr [oO 64 (.bin .lss .num (tT 63) (tT 62))] (sQ (.cond (tT 64) .skip (.exit 4)) (sQ (.block 5 (Yr [Yi 65 2 61 63,
 Yl 66 2 65,oO 8 (.alloc [(.int .i64 0),(.int .i64 0)]),Ys 2 8 66] (Yr [oO 67 (.iaddrA 2 1 (tT 8) (kI 0)),Yk 68 67,oM 69 6,oO 70 (.bin .eql .num (tT 68) (tT 69))] (.cond (tT 70) (Yg [oM 71 3,oO 72 (.iaddrA 2 1 (tT 8) (kI 1)),
 Yk 73 72,Yi 74 1 71 73,Yk 75 74,oO 76 (.bin .sub .num (tT 75) (kI 1)),Yi 77 1 71 73,Ys 1 77 76]) .skip)))) (Yg [oO 78 (.bin .add .num (tT 63) (kI 1)),oM 63 78]))))))))))))))) (Yr [oO 2 (.mov kT)] .ret)))))
theorem ok107 : FnOk Tryz.prog 107 79 ir107 [.tmp 2] := Yf Tryz.func107 Tryz.ntmps107 mixed
def ir108 : ACode := (Yr [Yb 1 0] (sQ (.draw [Yd 0 (Yk 10 1) 0 0,Yd 1 (Yk 11 1) 0 0,Yd 2 (Yk 12 1) 0 0,Yd 3 (oO 13 (.nilck (tT 12))) 4 0,Yd 4 (Ya 14 0 13) 12 0,Yd 5 (Yk 15 14) 28 0,Yd 6 (oO 16 (.mslice [nS] 24 (tT 15) (tT 15))) 60 0,
 Yd 7 (Yk 17 1) 0 0,Yd 8 (oO 18 (.nilck (tT 17))) 128 0,Yd 9 (Ya 19 0 18) 384 0,Yd 10 (Yk 20 19) 896 0,Yd 11 (oO 21 (.mslice [nS] 24 (tT 20) (tT 20))) 1920 0,Yd 12 (oO 22 (.nilck (tT 10))) 2045 0,Yd 13 (Ya 23 2 22) 6141 0,
 Yd 14 (Ys 1 23 16) 14333 28666,Yd 15 (oO 24 (.nilck (tT 11))) 32767 1,Yd 16 (Ya 25 3 24) 65535 1,Yd 17 (Ys 1 25 21) 131071 1]) (Yr [Yk 26 1,oO 27 (.nilck (tT 26)),Ya 28 0 27,Yk 29 28,oO 30 (.mslice [nS] 24 (tT 29) (tT 29)),
 oM 2 30] (sQ (Yr [Yk 31 1,oO 32 (.nilck (tT 31)),Ya 33 1 32,Yk 34 33,Yn 35 34,oO 36 (.mov (kI 0))] (.block 0 (.loop (Yr [oO 37 (.bin .lss .num (tT 36) (tT 35))] (sQ (.cond (tT 37) .skip (.exit 0)) (sQ (.block 1 (Yr [Yi 38 2 34 36,
 Yl 39 2 38,oO 4 (.alloc [(.int .i64 0),(.int .i64 0)]),Ys 2 4 39] (.draw [Yd 0 (oM 40 2) 0 0,Yd 1 (oO 41 (.iaddrA 2 1 (tT 4) (kI 1))) 0 0,Yd 2 (Yk 42 41) 2 0,Yd 3 (oM 43 2) 0 0,Yd 4 (oO 44 (.iaddrA 2 1 (tT 4) (kI 1))) 0 0,
 Yd 5 (Yk 45 44) 16 0,Yd 6 (Yi 46 1 43 45) 56 0,Yd 7 (Yk 47 46) 120 0,Yd 8 (oO 48 (.iaddrA 2 1 (tT 4) (kI 0))) 0 0,Yd 9 (Yk 49 48) 256 0,Yd 10 (oO 50 (.bslice [(.int .i64 0)] 1 [(0,(tT 49))])) 768 0,Yd 11 (oO 51 (.append [(.int .i64 0)] 8 (tT 47) (tT 50))) 2040 4080,
 Yd 12 (Yi 52 1 40 42) 4095 1,Yd 13 (Ys 1 52 51) 8191 1]))) (Yg [oO 53 (.bin .add .num (tT 36) (kI 1)),oM 36 53]))))))) (Yr [Yk 54 1,oO 55 (.nilck (tT 54)),Ya 56 4 55,Yk 57 56,Yn 58 57,oO 59 (.mov (kI 0))] (.block 2 (.loop (Yr [oO 60 (.bin .lss .num (tT 59) (tT 58))] (sQ (.cond (tT 60) .skip (.exit 2)) (sQ (.block 3 (Yr [Yi 61 1 57 59,
 Yk 62 61,oO 6 (.alloc [(.int .i64 0)]),Ys 1 6 62] (sQ (Yr [oM 63 2,Yk 64 6,Yi 65 1 63 64,Yk 66 65,Yn 67 66,oO 68 (.mov (kI 0))] (.block 4 (.loop (Yr [oO 69 (.bin .lss .num (tT 68) (tT 67))] (sQ (.cond (tT 69) .skip (.exit 4)) (sQ (.block 5 (Yr [Yi 70 1 66 68,
 Yk 71 70,oM 8 71] (.draw [Yd 0 (Yk 72 1) 0 0,Yd 1 (oO 73 (.nilck (tT 72))) 1 0,Yd 2 (Ya 74 2 73) 3 0,Yd 3 (Yk 75 74) 7 0,Yd 4 (Yk 76 6) 0 0,Yd 5 (Yk 77 1) 0 0,Yd 6 (oO 78 (.nilck (tT 77))) 32 0,Yd 7 (Ya 79 2 78) 96 0,
 Yd 8 (Yk 80 79) 224 0,Yd 9 (Yk 81 6) 0 0,Yd 10 (Yi 82 1 80 81) 992 0,Yd 11 (Yl 83 1 82) 2016 0,Yd 12 (Yk 84 1) 0 0,Yd 13 (oO 85 (.nilck (tT 84))) 4096 0,Yd 14 (Ya 86 2 85) 12288 0,Yd 15 (Yk 87 86) 28672 0,
 Yd 16 (oM 88 8) 0 0,Yd 17 (Yi 89 1 87 88) 126976 0,Yd 18 (Yl 90 1 89) 258048 0,Yd 19 (Yc 91 74 [tT 83,tT 90]) 524256 0,Yd 20 (oM 92 8) 0 0,Yd 21 (Yc 93 15 [tT 91,tT 92]) 2097120 0,Yd 22 (Yi 94 1 75 76) 4194303 1,
 Yd 23 (Ys 1 94 93) 8388607 1]))) (Yg [oO 95 (.bin .add .num (tT 68) (kI 1)),oM 68 95]))))))) (sQ (.draw [Yd 0 (Yk 96 1) 0 0,Yd 1 (oO 97 (.nilck (tT 96))) 1 0,Yd 2 (Ya 98 2 97) 3 0,Yd 3 (Yk 99 98) 7 0,Yd 4 (Yk 100 6) 0 0,
 Yd 5 (Yi 101 1 99 100) 31 1,Yd 6 (Yl 102 1 101) 63 1,Yd 7 (Yc 103 85 [tT 102]) 127 1]) (.block 6 (.range (tT 103) [104] [(9,(tT 104))] (.block 7 (.draw [Yd 0 (Yk 105 1) 0 0,Yd 1 (oO 106 (.nilck (tT 105))) 1 0,
 Yd 2 (Ya 107 3 106) 3 0,Yd 3 (Yk 108 107) 7 0,Yd 4 (oM 109 9) 0 0,Yd 5 (Yk 110 1) 0 0,Yd 6 (oO 111 (.nilck (tT 110))) 32 0,Yd 7 (Ya 112 3 111) 96 0,Yd 8 (Yk 113 112) 224 0,Yd 9 (oM 114 9) 0 0,Yd 10 (Yi 115 1 113 114) 992 0,
 Yd 11 (Yl 116 1 115) 2016 0,Yd 12 (Yk 117 6) 0 0,Yd 13 (Yc 118 15 [tT 116,tT 117]) 8160 0,Yd 14 (Yi 119 1 108 109) 16383 1,Yd 15 (Ys 1 119 118) 32767 1])))))))) (Yg [oO 120 (.bin .add .num (tT 59) (kI 1)),
 oM 59 120])))))))))))
theorem ok108 : FnOk Tryz.prog 108 121 ir108 [] := Yf Tryz.func108 Tryz.ntmps108 mixed
def ir109 : ACode := (Yr [oO 2 (.mov kF)] (Yr [oM 3 0,oO 4 (.bin .geq .num (tT 3) (kI 1)),oM 5 4,oT 5 6 (.mov (tT 0)),oT 5 7 (.bin .leq .num (tT 6) (kI 63)),oO 8 (.pick (tT 5) (tT 7) kF),oM 2 8] .ret))
theorem ok109 : FnOk Tryz.prog 109 9 ir109 [.tmp 2] := Yf Tryz.func109 Tryz.ntmps109 mixed
def ir110 : ACode := (Yr [oO 6 (.mov kF)] (sQ (Yr [oM 9 0,Yn 10 9,oO 11 (.mov (kI 0))] (.block 0 (.loop (Yr [oO 12 (.bin .lss .num (tT 11) (tT 10))] (sQ (.cond (tT 12) .skip (.exit 0)) (sQ (.block 1 (Yr [Yi 13 2 9 11,
 Yl 14 2 13,oO 8 (.alloc [(.int .i64 0),(.int .i64 0)]),Ys 2 8 14] (Yr [oO 15 (.iaddrA 2 1 (tT 8) (kI 0)),Yk 16 15,oM 17 1,oO 18 (.bin .eql .num (tT 16) (tT 17)),oM 19 18,oT 19 20 (.iaddrA 2 1 (tT 8) (kI 1)),
 oT 19 21 (.load false 1 (tT 20)),oT 19 22 (.mov (tT 2)),oT 19 23 (.bin .eql .num (tT 21) (tT 22)),oO 24 (.pick (tT 19) (tT 23) kF)] (.cond (tT 24) (Yr [oO 6 (.mov kT)] .ret) .skip)))) (Yg [oO 25 (.bin .add .num (tT 11) (kI 1)),
 oM 11 25]))))))) (Yr [oO 6 (.mov kF)] .ret)))
theorem ok110 : FnOk Tryz.prog 110 26 ir110 [.tmp 6] := Yf Tryz.func110 Tryz.ntmps110 mixed
def ir111 : ACode := (Yr [oO 6 (.mov kF)] (Yr [oM 7 2,Yc 8 109 [tT 7],oM 9 8,oT 9 10 (.mov (tT 0)),oT 9 11 (.mov (tT 1)),oT 9 12 (kC 112 [tT 10,tT 11]),oT 9 13 (.mov (tT 2)),oT 9 14 (.bin .shr .num (tT 12) (tT 13)),
 oT 9 15 (.bin .rem .num (tT 14) (.const (.int .u64 2))),oT 9 16 (.bin .eql .num (tT 15) (.const (.int .u64 1))),oO 17 (.pick (tT 9) (tT 16) kF),oM 6 17] .ret))
theorem ok111 : FnOk Tryz.prog 111 18 ir111 [.tmp 6] := Yf Tryz.func111 Tryz.ntmps111 mixed
def ir112 : ACode := (Yr [oO 4 (.mov (.const (.int .u64 0)))] (sQ (Yr [oM 9 1,Yc 10 109 [tT 9],oO 11 (.una .not (tT 10))] (.cond (tT 11) (Yr [oO 4 (.mov (.const (.int .u64 0)))] .ret) .skip)) (Yr [oM 12 1,
 oO 13 (.bin .shl .num (.const (.int .u64 1)) (tT 12)),oM 5 13] (.block 0 (.loop (.block 1 (Yr [oM 14 5,oM 6 14] (sQ (Yr [oM 15 0,Yn 16 15,oO 17 (.mov (kI 0))] (.block 2 (.loop (Yr [oO 18 (.bin .lss .num (tT 17) (tT 16))] (sQ (.cond (tT 18) .skip (.exit 2)) (sQ (.block 3 (Yr [Yi 19 2 15 17,
 Yl 20 2 19,oO 8 (.alloc [(.int .i64 0),(.int .i64 0)]),Ys 2 8 20] (Yr [oM 21 5,oO 22 (.iaddrA 2 1 (tT 8) (kI 0)),Yk 23 22,oO 24 (.bin .shr .num (tT 21) (tT 23)),oO 25 (.bin .rem .num (tT 24) (.const (.int .u64 2))),
 oO 26 (.bin .eql .num (tT 25) (.const (.int .u64 1)))] (.cond (tT 26) (Yg [oM 27 6,oO 28 (.iaddrA 2 1 (tT 8) (kI 1)),Yk 29 28,oO 30 (.bin .shl .num (.const (.int .u64 1)) (tT 29)),oO 31 (.bin .or .num (tT 27) (tT 30)),
 oM 6 31]) .skip)))) (Yg [oO 32 (.bin .add .num (tT 17) (kI 1)),oM 17 32]))))))) (sQ (Yr [oM 33 6,oM 34 5,oO 35 (.bin .eql .num (tT 33) (tT 34))] (.cond (tT 35) (Yr [oM 36 5,oM 4 36] .ret) .skip)) (Yg [oM 37 6,
 oM 5 37]))))))))))
theorem ok112 : FnOk Tryz.prog 112 38 ir112 [.tmp 4] := Yf Tryz.func112 Tryz.ntmps112 mixed
def ir113 : ACode := (Yr [oO 2 (.mov kF)] (Yr [oM 3 0,oO 4 (.bin .geq .num (tT 3) (kI 1)),oM 5 4,oT 5 6 (.mov (tT 0)),oT 5 7 (.bin .leq .num (tT 6) (kI 63)),oO 8 (.pick (tT 5) (tT 7) kF),oM 2 8] .ret))
theorem ok113 : FnOk Tryz.prog 113 9 ir113 [.tmp 2] := Yf Tryz.func113 Tryz.ntmps113 mixed
def ir114 : ACode := (Yr [oO 6 (.mov (.const (.pointer none))),oO 7 (.mov (kI 0))] (sQ (Yr [oM 8 0,oO 9 (.bin .eql .ptr (tT 8) (.const (.pointer none)))] (.cond (tT 9) (Yr [oO 6 (.mov (.const (.pointer none))),
 oO 7 (.mov (kI 1))] .ret) .skip)) (sQ (Yr [oM 10 0,oM 11 1,Yc 12 149 [tT 10,tT 11],oO 13 (.una .not (tT 12)),oM 14 13,oF 14 15 (.mov (tT 0)),oF 14 16 (.mov (tT 2)),oF 14 17 (kC 149 [tT 15,tT 16]),oF 14 18 (.una .not (tT 17)),
 oO 19 (.pick (tT 14) kT (tT 18))] (.cond (tT 19) (Yr [oO 6 (.mov (.const (.pointer none))),oO 7 (.mov (kI 2))] .ret) .skip)) (sQ (Yr [oM 20 0,oO 21 (.nilck (tT 20)),Ya 22 1 21,Yk 23 22,oM 24 1,oM 25 2,
 oO 26 (.build [(.int .i64 0),(.int .i64 0)] [(0,1,(tT 24)),(1,1,(tT 25))]),Yc 27 150 [tT 23,tT 26]] (.cond (tT 27) (Yr [oO 6 (.mov (.const (.pointer none))),oO 7 (.mov (kI 5))] .ret) .skip)) (sQ (.draw [Yd 0 (oM 28 0) 0 0,
 Yd 1 (oO 29 (.nilck (tT 28))) 1 0,Yd 2 (Ya 30 0 29) 3 0,Yd 3 (Yk 31 30) 7 0,Yd 4 (oM 32 0) 0 0,Yd 5 (Yc 33 151 [tT 32]) 16 0,Yd 6 (oM 34 1) 0 0,Yd 7 (oM 35 2) 0 0,Yd 8 (oO 36 (.build [(.int .i64 0),(.int .i64 0)] [(0,
 1,(tT 34)),(1,1,(tT 35))])) 192 0,Yd 9 (oO 37 (.bslice [(.int .i64 0),(.int .i64 0)] 1 [(0,(tT 36))])) 448 0,Yd 10 (oO 38 (.append [(.int .i64 0),(.int .i64 0)] 16 (tT 33) (tT 37))) 1008 2016,Yd 11 (Yc 39 48 [tT 31,
 tT 38]) 2047 1,Yd 12 (Yx 40 39 0) 4095 1,Yd 13 (Yx 41 39 1) 4095 1,Yd 14 (oM 6 40) 16383 1,Yd 15 (oM 7 41) 32767 1]) .ret)))))
theorem ok114 : FnOk Tryz.prog 114 42 ir114 [.tmp 6, .tmp 7] := Yf Tryz.func114 Tryz.ntmps114 mixed
def ir115 : ACode := (Yr [Yb 2 0,oO 4 (.mov (.const nS))] (Yr [oO 5 (.mov (.const nS))] (sQ (Yr [Yl 8 6 2,Yc 9 152 [tT 8],Yn 10 9,oO 11 (.mov (kI 0))] (.block 0 (.loop (Yr [oO 12 (.bin .lss .num (tT 11) (tT 10))] (sQ (.cond (tT 12) .skip (.exit 0)) (sQ (.block 1 (Yr [Yi 13 1 9 11,
 Yk 14 13,oM 7 14] (Yr [oM 15 1,oM 16 7,Yc 17 82 [tT 15,tT 16],oO 18 (.una .not (tT 17))] (.cond (tT 18) (Yg [oM 19 5,oM 20 7,oO 21 (.bslice [(.int .u64 0)] 1 [(0,(tT 20))]),oO 22 (.append [(.int .u64 0)] 8 (tT 19) (tT 21)),
 oM 5 22]) .skip)))) (Yg [oO 23 (.bin .add .num (tT 11) (kI 1)),oM 11 23]))))))) (Yr [oM 24 5,oM 4 24] .ret))))
theorem ok115 : FnOk Tryz.prog 115 25 ir115 [.tmp 4] := Yf Tryz.func115 Tryz.ntmps115 mixed
def ir116 : ACode := (Yr [Yb 4 0,Yb 6 2,oO 8 (.mov (.const nS))] (Yr [oO 9 (.mov (.const nS))] (sQ (Yr [Yl 14 6 4,Yc 15 153 [tT 14],Yn 16 15,oO 17 (.mov (kI 0))] (.block 0 (.loop (Yr [oO 18 (.bin .lss .num (tT 17) (tT 16))] (sQ (.cond (tT 18) .skip (.exit 0)) (sQ (.block 1 (Yr [Yi 19 1 15 17,
 Yk 20 19,oM 11 20] (Yr [Yl 22 6 4,oM 23 11,oM 24 3,Yc 25 81 [tT 22,tT 23,tT 24],oM 21 25,Yx 26 21 0,Yx 27 21 1,oM 12 26,oM 13 27] (Yr [Yl 28 6 4,oM 29 11,Yc 30 127 [tT 28,tT 29],oM 31 30,oT 31 32 (.mov (tT 1)),
 oT 31 33 (.mov (tT 11)),oT 31 34 (kC 82 [tT 32,tT 33]),oT 31 35 (.una .not (tT 34)),oO 36 (.pick (tT 31) (tT 35) kF),oM 37 36,oT 37 38 (.mov (tT 13)),oO 39 (.pick (tT 37) (tT 38) kF),oM 40 39,oT 40 41 (.load true 2 (tT 6)),
 oT 40 42 (.mov (tT 12)),oT 40 43 (kC 53 [tT 41,tT 42]),oO 44 (.pick (tT 40) (tT 43) kF)] (.cond (tT 44) (Yg [oM 45 9,oM 46 11,oO 47 (.bslice [(.int .u64 0)] 1 [(0,(tT 46))]),oO 48 (.append [(.int .u64 0)] 8 (tT 45) (tT 47)),
 oM 9 48]) .skip))))) (Yg [oO 49 (.bin .add .num (tT 17) (kI 1)),oM 17 49]))))))) (Yr [oM 50 9,oM 8 50] .ret))))
theorem ok116 : FnOk Tryz.prog 116 51 ir116 [.tmp 8] := Yf Tryz.func116 Tryz.ntmps116 mixed
def ir117 : ACode := (Yr [oM 4 0,oO 5 (.bin .neq .ptr (tT 4) (.const (.pointer none)))] (.cond (tT 5) (Yg [oM 6 0,oM 7 0,oO 8 (.nilck (tT 7)),Ya 9 0 8,Yk 10 9,oM 11 1,oO 12 (.append [Yu] 1 (tT 10) (tT 11)),
 oO 13 (.nilck (tT 6)),Ya 14 0 13,Ys 1 14 12]) .skip))
theorem ok117 : FnOk Tryz.prog 117 15 ir117 [] := Yf Tryz.func117 Tryz.ntmps117 mixed
def ir118 : ACode := (Yr [oO 2 (.mov (.const nS))] (Yr [oM 4 0,oO 5 (.bin .and .num (tT 4) (.const (.int .u64 127))),oO 6 (.conv .u8 (tT 5)),oO 7 (.bslice [Yu] 1 [(0,(tT 6))]),oM 3 7] (sQ (Yr [oM 8 0,oO 9 (.bin .shr .num (tT 8) (.const (.int .u64 7))),
 oM 0 9] (.block 0 (.loop (sQ (Yr [oM 10 0,oO 11 (.bin .gtr .num (tT 10) (.const (.int .u64 0)))] (.cond (tT 11) .skip (.exit 0))) (sQ (.block 1 (Yg [oM 14 3,oM 15 0,oO 16 (.bin .and .num (tT 15) (.const (.int .u64 127))),
 oO 17 (.conv .u8 (tT 16)),oO 18 (.bin .or .num (tT 17) (.const (.int .u8 128))),oO 19 (.bslice [Yu] 1 [(0,(tT 18))]),oO 20 (.append [Yu] 1 (tT 14) (tT 19)),oM 3 20])) (Yg [oM 12 0,oO 13 (.bin .shr .num (tT 12) (.const (.int .u64 7))),
 oM 0 13])))))) (Yr [oM 21 3,Yc 22 154 [tT 21]] (Yr [oM 23 3,oM 2 23] .ret)))))
theorem ok118 : FnOk Tryz.prog 118 24 ir118 [.tmp 2] := Yf Tryz.func118 Tryz.ntmps118 mixed
def ir119 : ACode := (Yr [oO 2 (.mov (.const nS))] (sQ (Yr [oM 3 0,oO 4 (.bin .eql .ptr (tT 3) (.const (.pointer none)))] (.cond (tT 4) (Yr [oO 2 (.mov (.const nS))] .ret) .skip)) (Yr [oM 5 0,oO 6 (.nilck (tT 5)),
 Ya 7 0 6,Yk 8 7,Yc 9 151 [tT 8],oM 2 9] .ret)))
theorem ok119 : FnOk Tryz.prog 119 10 ir119 [.tmp 2] := Yf Tryz.func119 Tryz.ntmps119 mixed
def ir120 : ACode := (Yr [Yb 1 0,oO 2 (.mov (.const nS))] (Yr [Yl 8 1 1,Yc 9 155 [tT 8],oM 7 9,Yx 10 7 0,Yx 11 7 1,oM 3 10,oM 4 11] (sQ (Yr [oM 12 4,oO 13 (.una .not (tT 12))] (.cond (tT 13) (Yr [oO 2 (.mov (.const nS))] .ret) .skip)) (Yr [oM 14 3,
 oO 15 (.bin .quo .num (tT 14) (kI 8)),oO 16 (.bin .add .num (tT 15) (kI 1)),oO 17 (.mslice [Yu] 1 (tT 16) (tT 16)),oM 5 17] (sQ (Yr [oM 18 5,Yn 19 18,oO 20 (.mov (kI 0))] (.block 0 (.loop (Yr [oO 21 (.bin .lss .num (tT 20) (tT 19))] (sQ (.cond (tT 21) .skip (.exit 0)) (sQ (.block 1 (Yr [oM 22 20,
 oM 6 22] (Yg [oM 23 5,oM 24 6,Ya 25 0 1,Yk 26 25,oM 27 6,oO 28 (.bin .quo .num (tT 27) (kI 8)),Yi 29 1 26 28,Yk 30 29,oM 31 6,oO 32 (.bin .rem .num (tT 31) (kI 8)),oO 33 (.bin .mul .num (kI 8) (tT 32)),
 oO 34 (.bin .shr .num (tT 30) (tT 33)),oO 35 (.conv .u8 (tT 34)),Yi 36 1 23 24,Ys 1 36 35]))) (Yg [oO 37 (.bin .add .num (tT 20) (kI 1)),oM 20 37]))))))) (Yr [oM 38 5,oM 2 38] .ret))))))
theorem ok120 : FnOk Tryz.prog 120 39 ir120 [.tmp 2] := Yf Tryz.func120 Tryz.ntmps120 mixed
def ir121 : ACode := (Yg [oM 4 0,oM 5 1,oO 6 (.s2b (tT 5)),Yc 7 63 [tT 4,tT 6]])
theorem ok121 : FnOk Tryz.prog 121 8 ir121 [] := Yf Tryz.func121 Tryz.ntmps121 mixed
def ir122 : ACode := (Yr [oO 2 (.alloc Y1)] (Yr [Yc 4 156 [],oM 3 4] (Yr [oM 5 3,oM 6 0,Yc 7 157 [tT 5,tT 6]] (Yr [oM 8 3,Yc 9 158 [tT 8],Ys 32 2 9] .ret))))
theorem ok122 : FnOk Tryz.prog 122 10 ir122 [.cell 2 true 32] := Yf Tryz.func122 Tryz.ntmps122 mixed
def ir123 : ACode := (Yr [oO 2 (.mov (.const nS))] (sQ (Yr [oM 3 0,oO 4 (.isnil false (tT 3))] (.cond (tT 4) (Yr [oO 2 (.mov (.const nS))] .ret) .skip)) (Yr [oO 5 (.bslice [Yu] 0 []),oM 6 0,oO 7 (.append [Yu] 1 (tT 5) (tT 6)),
 oM 2 7] .ret)))
theorem ok123 : FnOk Tryz.prog 123 8 ir123 [.tmp 2] := Yf Tryz.func123 Tryz.ntmps123 mixed
def ir124 : ACode := (Yr [oO 4 (.mov (kI 0))] (sQ (Yr [oM 6 0,Yn 7 6,oO 8 (.mov (kI 0))] (.block 0 (.loop (Yr [oO 9 (.bin .lss .num (tT 8) (tT 7))] (sQ (.cond (tT 9) .skip (.exit 0)) (sQ (.block 1 (Yr [oM 10 8,
 oM 5 10] (Yr [oM 11 1,oM 12 0,oM 13 5,Yi 14 1 12 13,Yk 15 14,oO 16 (.call (tT 11) [tT 15])] (.cond (tT 16) (Yr [oM 17 5,oM 4 17] .ret) .skip)))) (Yg [oO 18 (.bin .add .num (tT 8) (kI 1)),oM 8 18]))))))) (Yr [oO 4 (.mov (.const (.int .i64 (-1))))] .ret)))
theorem ok124 : FnOk Tryz.prog 124 19 ir124 [.tmp 4] := Yf Tryz.func124 Tryz.ntmps124 mixed
def ir125 : ACode := (Yr [Yb 2 0,oO 3 (.mov kF)] (Yr [Yl 4 2 2,Yl 5 1 1,Yc 6 36 [tT 4,tT 5],oM 3 6] .ret))
theorem ok125 : FnOk Tryz.prog 125 7 ir125 [.tmp 3] := Yf Tryz.func125 Tryz.ntmps125 mixed
def ir126 : ACode := (Yr [Yb 2 0,oO 4 (.alloc [nS]),oO 5 (.mov kF)] (sQ (.draw [Yd 0 (Yl 6 6 2) 0 0,Yd 1 (oM 7 1) 0 0,Yd 2 (Yl 8 6 2) 0 0,Yd 3 (oM 9 1) 0 0,Yd 4 (Yc 10 160 [tT 8,tT 9]) 12 0,Yd 5 (Ya 11 0 2) 0 0,
 Yd 6 (Yk 12 11) 32 0,Yd 7 (oO 13 (.bin .add .num (tT 12) (kI 1))) 96 0,Yd 8 (Yc 14 73 [tT 13]) 252 0,Yd 9 (Yc 15 140 [tT 10,tT 14]) 508 0,Yd 10 (oO 16 (.build [nS] [])) 0 0,Yd 11 (Yc 17 159 [tT 6,tT 7,
 tT 15,tT 16]) 2047 1,Yd 12 (Yx 18 17 0) 4095 1,Yd 13 (Yx 19 17 1) 4095 1,Yd 14 (Ys 1 4 18) 16383 1,Yd 15 (oM 5 19) 32767 1]) .ret))
theorem ok126 : FnOk Tryz.prog 126 20 ir126 [.cell 4 true 1, .tmp 5] := Yf Tryz.func126 Tryz.ntmps126 mixed
def ir127 : ACode := (Yr [Yb 2 0,oO 4 (.mov kF)] (sQ (.draw [Yd 0 (Ya 5 4 2) 0 0,Yd 1 (Yk 6 5) 1 0,Yd 2 (Ya 7 1 2) 0 0,Yd 3 (Yk 8 7) 4 0,Yd 4 (oM 9 1) 0 0,Yd 5 (Yc 10 54 [tT 8,tT 9]) 28 0,Yd 6 (Yc 11 82 [tT 6,
 tT 10]) 63 1,Yd 7 (oO 12 (.una .not (tT 11))) 127 1,Yd 8 (oM 4 12) 255 1]) .ret))
theorem ok127 : FnOk Tryz.prog 127 13 ir127 [.tmp 4] := Yf Tryz.func127 Tryz.ntmps127 mixed
def ir128 : ACode := (Yr [Ya 5 0 1,Yk 6 5,Yn 7 6,oO 8 (.mov (kI 0))] (.block 0 (.loop (Yr [oO 9 (.bin .lss .num (tT 8) (tT 7))] (sQ (.cond (tT 9) .skip (.exit 0)) (sQ (.block 1 (Yr [oM 10 8,Yi 11 1 6 8,
 Yk 12 11,oM 3 10,oM 4 12] (.block 2 (.loop (sQ (Yr [oM 13 4,oO 14 (.bin .neq .num (tT 13) (.const (.int .u64 0)))] (.cond (tT 14) .skip (.exit 2))) (sQ (.block 3 (Yr [oM 19 0,oM 20 3,oO 21 (.bin .mul .num (kI 64) (tT 20)),
 oM 22 4,Yc 23 129 [tT 22],oO 24 (.bin .add .num (tT 21) (tT 23)),oO 25 (.call (tT 19) [tT 24]),oO 26 (.una .not (tT 25))] (.cond (tT 26) .ret .skip))) (Yg [oM 15 4,oM 16 4,oO 17 (.bin .sub .num (tT 16) (.const (.int .u64 1))),
 oO 18 (.bin .and .num (tT 15) (tT 17)),oM 4 18]))))))) (Yg [oO 27 (.bin .add .num (tT 8) (kI 1)),oM 8 27])))))))
theorem ok128 : FnOk Tryz.prog 128 28 ir128 [] := Yf Tryz.func128 Tryz.ntmps128 mixed
def ir129 : ACode := (Yr [oO 2 (.mov (kI 0))] (sQ (Yr [oM 3 0,oO 4 (.bin .eql .num (tT 3) (.const (.int .u64 0)))] (.cond (tT 4) (Yr [oO 2 (.mov (kI 64))] .ret) .skip)) (Yr [oM 5 0,oM 6 0,oO 7 (.una .neg (tT 6)),
 oO 8 (.bin .and .num (tT 5) (tT 7)),oO 9 (.bin .mul .num (tT 8) (.const (.int .u64 285870213051353865))),oO 10 (.bin .shr .num (tT 9) (.const (.int .u64 58))),oO 11 (.iaddrA 64 1 (.global 0) (tT 10)),Yk 12 11,
 oO 13 (.conv .i64 (tT 12)),oM 2 13] .ret)))
theorem ok129 : FnOk Tryz.prog 129 14 ir129 [.tmp 2] := Yf Tryz.func129 Tryz.ntmps129 mixed
def ir130 : ACode := (Yr [oO 4 (.alloc [nS])] (sQ (Yr [oM 5 0,oM 6 1,Yc 7 149 [tT 5,tT 6],oO 8 (.una .not (tT 7))] (.cond (tT 8) (Yr [oO 9 (.build [nS] []),Ys 1 4 9] .ret) .skip)) (Yr [oM 10 0,oO 11 (.nilck (tT 10)),
 Ya 12 3 11,Yk 13 12,oM 14 1,Yi 15 1 13 14,Yl 16 1 15,Ys 1 4 16] .ret)))
theorem ok130 : FnOk Tryz.prog 130 17 ir130 [.cell 4 true 1] := Yf Tryz.func130 Tryz.ntmps130 mixed
def ir131 : ACode := (Yr [Yb 3 1,oO 4 (.mov kF)] (Yr [oM 5 0,oO 6 (.mkfn 162 [tT 3]),Yc 7 161 [tT 5,tT 6],oO 8 (.una .not (tT 7)),oM 4 8] .ret))
theorem ok131 : FnOk Tryz.prog 131 9 ir131 [.tmp 4] := Yf Tryz.func131 Tryz.ntmps131 mixed
def ir132 : ACode := (Yr [Yb 2 0,oO 3 (.mov kF)] (Yr [Yl 4 1 1,oO 5 (.iaddrA 2 1 (tT 2) (kI 0)),Yk 6 5,Yc 7 35 [tT 4,tT 6],oM 8 7,oT 8 9 (.load true 1 (tT 1)),oT 8 10 (.iaddrA 2 1 (tT 2) (kI 1)),oT 8 11 (.load false 1 (tT 10)),
 oT 8 12 (kC 35 [tT 9,tT 11]),oO 13 (.pick (tT 8) (tT 12) kF),oM 3 13] .ret))
theorem ok132 : FnOk Tryz.prog 132 14 ir132 [.tmp 3] := Yf Tryz.func132 Tryz.ntmps132 mixed
def ir133 : ACode := (Yr [Yb 2 0,oO 3 (.mov kF)] (Yr [Yl 4 1 1,Ya 5 3 2,Yk 6 5,Yc 7 35 [tT 4,tT 6],oM 3 7] .ret))
theorem ok133 : FnOk Tryz.prog 133 8 ir133 [.tmp 3] := Yf Tryz.func133 Tryz.ntmps133 mixed
def ir134 : ACode := (Yr [Yb 3 1,oO 4 (.mov kF)] (Yr [oM 5 0,oO 6 (.mkfn 163 [tT 3]),Yc 7 92 [tT 5,tT 6],oO 8 (.una .not (tT 7)),oM 4 8] .ret))
theorem ok134 : FnOk Tryz.prog 134 9 ir134 [.tmp 4] := Yf Tryz.func134 Tryz.ntmps134 mixed
def ir135 : ACode := (Yr [Yb 2 0,oO 3 (.mov kF)] (sQ (.draw [Yd 0 (Ya 4 0 2) 0 0,Yd 1 (Yl 5 1 4) 1 0,Yd 2 (Ya 6 1 2) 0 0,Yd 3 (Yl 7 1 6) 4 0,Yd 4 (Yc 8 74 [tT 5,tT 7]) 15 0,Yd 5 (Yl 9 1 1) 0 0,Yd 6 (Yc 10 75 [tT 8,
 tT 9]) 63 1,Yd 7 (oM 3 10) 127 1]) .ret))
theorem ok135 : FnOk Tryz.prog 135 11 ir135 [.tmp 3] := Yf Tryz.func135 Tryz.ntmps135 mixed
def ir136 : ACode := (Yr [oO 4 (.mov (kI 0))] (sQ (Yr [oM 6 0,Yn 7 6,oO 8 (.mov (kI 0))] (.block 0 (.loop (Yr [oO 9 (.bin .lss .num (tT 8) (tT 7))] (sQ (.cond (tT 9) .skip (.exit 0)) (sQ (.block 1 (Yr [oM 10 8,
 oM 5 10] (Yr [oM 11 1,oM 12 0,oM 13 5,Yi 14 2 12 13,Yl 15 2 14,oO 16 (.call (tT 11) [tT 15])] (.cond (tT 16) (Yr [oM 17 5,oM 4 17] .ret) .skip)))) (Yg [oO 18 (.bin .add .num (tT 8) (kI 1)),oM 8 18]))))))) (Yr [oO 4 (.mov (.const (.int .i64 (-1))))] .ret)))
theorem ok136 : FnOk Tryz.prog 136 19 ir136 [.tmp 4] := Yf Tryz.func136 Tryz.ntmps136 mixed
def ir137 : ACode := (Yr [oO 4 (.mov kF)] (Yr [oM 5 0,oM 6 1,Yc 7 164 [tT 5,tT 6],oO 8 (.bin .geq .num (tT 7) (kI 0)),oM 4 8] .ret))
theorem ok137 : FnOk Tryz.prog 137 9 ir137 [.tmp 4] := Yf Tryz.func137 Tryz.ntmps137 mixed
def ir138 : ACode := (Yr [Yb 2 0,oO 3 (.mov kF)] (Yr [Yk 4 1,Yl 5 5 2,oO 6 (.call (tT 4) [tT 5]),oO 7 (.una .not (tT 6)),oM 3 7] .ret))
theorem ok138 : FnOk Tryz.prog 138 8 ir138 [.tmp 3] := Yf Tryz.func138 Tryz.ntmps138 mixed
def ir139 : ACode := (Yr [oO 4 (.alloc [nS])] (sQ (Yr [oM 5 0,oO 6 (.bin .eql .ptr (tT 5) (.const (.pointer none))),oM 7 6,oF 7 8 (.mov (tT 1)),oF 7 9 (kC 113 [tT 8]),oF 7 10 (.una .not (tT 9)),oO 11 (.pick (tT 7) kT (tT 10))] (.cond (tT 11) (Yr [oO 12 (.build [nS] []),
 Ys 1 4 12] .ret) .skip)) (Yr [oM 13 0,oO 14 (.nilck (tT 13)),Ya 15 0 14,Yk 16 15,oM 17 1,Yc 18 165 [tT 16,tT 17],oM 19 1,Yc 20 15 [tT 18,tT 19],Ys 1 4 20] .ret)))
theorem ok139 : FnOk Tryz.prog 139 21 ir139 [.cell 4 true 1] := Yf Tryz.func139 Tryz.ntmps139 mixed
def ir140 : ACode := (Yr [Yb 2 0,Yb 3 1,oO 4 (.alloc [nS])] (Yr [Ya 7 0 2,Yk 8 7,Yn 9 8,Ya 10 0 3,Yk 11 10,Yn 12 11,oO 13 (.mn (tT 9) (tT 12)),oO 14 (.mslice [(.int .u64 0)] 8 (tT 13) (tT 13)),oM 5 14] (sQ (Yr [oM 15 5,
 Yn 16 15,oO 17 (.mov (kI 0))] (.block 0 (.loop (Yr [oO 18 (.bin .lss .num (tT 17) (tT 16))] (sQ (.cond (tT 18) .skip (.exit 0)) (sQ (.block 1 (Yr [oM 19 17,oM 6 19] (.draw [Yd 0 (oM 20 5) 0 0,Yd 1 (oM 21 6) 0 0,
 Yd 2 (Ya 22 0 2) 0 0,Yd 3 (Yk 23 22) 4 0,Yd 4 (oM 24 6) 0 0,Yd 5 (Yi 25 1 23 24) 28 0,Yd 6 (Yk 26 25) 60 0,Yd 7 (Ya 27 0 3) 0 0,Yd 8 (Yk 28 27) 128 0,Yd 9 (oM 29 6) 0 0,Yd 10 (Yi 30 1 28 29) 896 0,Yd 11 (Yk 31 30) 1920 0,
 Yd 12 (oO 32 (.bin .and .num (tT 26) (tT 31))) 4092 1,Yd 13 (Yi 33 1 20 21) 8191 1,Yd 14 (Ys 1 33 32) 16383 1]))) (Yg [oO 34 (.bin .add .num (tT 17) (kI 1)),oM 17 34]))))))) (Yr [oM 35 5,Yc 36 47 [tT 35],
 Ys 1 4 36] .ret))))
theorem ok140 : FnOk Tryz.prog 140 37 ir140 [.cell 4 true 1] := Yf Tryz.func140 Tryz.ntmps140 mixed
def ir148 : ACode := (Yr [oO 4 (.mov (kI 0))] (sQ (Yr [oM 6 0,Yn 7 6,oO 8 (.mov (kI 0))] (.block 0 (.loop (Yr [oO 9 (.bin .lss .num (tT 8) (tT 7))] (sQ (.cond (tT 9) .skip (.exit 0)) (sQ (.block 1 (Yr [oM 10 8,
 oM 5 10] (Yr [oM 11 1,oM 12 0,oM 13 5,Yi 14 1 12 13,Yk 15 14,oO 16 (.bin .eql .num (tT 11) (tT 15))] (.cond (tT 16) (Yr [oM 17 5,oM 4 17] .ret) .skip)))) (Yg [oO 18 (.bin .add .num (tT 8) (kI 1)),oM 8 18]))))))) (Yr [oO 4 (.mov (.const (.int .i64 (-1))))] .ret)))
theorem ok148 : FnOk Tryz.prog 148 19 ir148 [.tmp 4] := Yf Tryz.func148 Tryz.ntmps148 mixed
def ir149 : ACode := (Yr [oO 4 (.mov kF)] (Yr [oM 5 0,oO 6 (.bin .neq .ptr (tT 5) (.const (.pointer none))),oM 7 6,oT 7 8 (.mov (tT 1)),oT 7 9 (.bin .geq .num (tT 8) (kI 0)),oO 10 (.pick (tT 7) (tT 9) kF),
 oM 11 10,oT 11 12 (.mov (tT 1)),oT 11 13 (.mov (tT 0)),oT 11 14 (.nilck (tT 13)),oT 11 15 (.faddr 0 (tT 14)),oT 11 16 (.load false 1 (tT 15)),oT 11 17 (.bin .lss .num (tT 12) (tT 16)),oO 18 (.pick (tT 11) (tT 17) kF),
 oM 4 18] .ret))
theorem ok149 : FnOk Tryz.prog 149 19 ir149 [.tmp 4] := Yf Tryz.func149 Tryz.ntmps149 mixed
def ir150 : ACode := (Yr [Yb 3 1,oO 4 (.mov kF)] (Yr [oM 5 0,Yl 6 2 3,Yc 7 181 [tT 5,tT 6],oO 8 (.bin .geq .num (tT 7) (kI 0)),oM 4 8] .ret))
theorem ok150 : FnOk Tryz.prog 150 9 ir150 [.tmp 4] := Yf Tryz.func150 Tryz.ntmps150 mixed
def ir151 : ACode := (Yr [oO 2 (.mov (.const nS))] (sQ (Yr [oM 3 0,oO 4 (.bin .eql .ptr (tT 3) (.const (.pointer none)))] (.cond (tT 4) (Yr [oO 2 (.mov (.const nS))] .ret) .skip)) (Yr [oM 5 0,oO 6 (.nilck (tT 5)),
 Ya 7 1 6,Yk 8 7,Yc 9 182 [tT 8],oM 2 9] .ret)))
theorem ok151 : FnOk Tryz.prog 151 10 ir151 [.tmp 2] := Yf Tryz.func151 Tryz.ntmps151 mixed
def ir152 : ACode := (Yr [Yb 1 0,oO 2 (.mov (.const nS))] (Yr [oO 3 (.mov (.const nS))] (sQ (Yr [Yl 6 6 1,Yc 7 153 [tT 6],Yn 8 7,oO 9 (.mov (kI 0))] (.block 0 (.loop (Yr [oO 10 (.bin .lss .num (tT 9) (tT 8))] (sQ (.cond (tT 10) .skip (.exit 0)) (sQ (.block 1 (Yr [Yi 11 1 7 9,
 Yk 12 11,oM 5 12] (Yr [Yl 13 6 1,oM 14 5,Yc 15 127 [tT 13,tT 14],oM 16 15,oT 16 17 (.load true 6 (tT 1)),oT 16 18 (.mov (tT 5)),oT 16 19 (kC 32 [tT 17,tT 18]),oO 20 (.pick (tT 16) (tT 19) kF)] (.cond (tT 20) (Yg [oM 21 3,
 oM 22 5,oO 23 (.bslice [(.int .u64 0)] 1 [(0,(tT 22))]),oO 24 (.append [(.int .u64 0)] 8 (tT 21) (tT 23)),oM 3 24]) .skip)))) (Yg [oO 25 (.bin .add .num (tT 9) (kI 1)),oM 9 25]))))))) (Yr [oM 26 3,oM 2 26] .ret))))
theorem ok152 : FnOk Tryz.prog 152 27 ir152 [.tmp 2] := Yf Tryz.func152 Tryz.ntmps152 mixed
def ir153 : ACode := (Yr [Yb 1 0,oO 2 (.mov (.const nS))] (Yr [oO 3 (.mov (.const nS))] (sQ (Yr [oO 4 (.mov (.const (.int .u64 0)))] (.block 0 (.loop (sQ (Yr [oM 5 4,Ya 6 0 1,Yk 7 6,oO 8 (.bin .shl .num (.const (.int .u64 1)) (tT 7)),
 oO 9 (.bin .lss .num (tT 5) (tT 8))] (.cond (tT 9) .skip (.exit 0))) (sQ (.block 1 (Yg [oM 12 3,oM 13 4,oO 14 (.bin .shl .num (tT 13) (.const (.int .u64 1))),oO 15 (.bslice [(.int .u64 0)] 1 [(0,(tT 14))]),
 oO 16 (.append [(.int .u64 0)] 8 (tT 12) (tT 15)),oM 3 16])) (Yg [oM 10 4,oO 11 (.bin .add .num (tT 10) (.const (.int .u64 1))),oM 4 11])))))) (Yr [oM 17 3,oM 2 17] .ret))))
theorem ok153 : FnOk Tryz.prog 153 18 ir153 [.tmp 2] := Yf Tryz.func153 Tryz.ntmps153 mixed
def ir154 : ACode := (Yr [oM 4 0,Yn 5 4,oO 6 (.bin .sub .num (tT 5) (kI 1)),oO 2 (.mov (kI 0)),oM 3 6] (.block 0 (.loop (sQ (Yr [oM 7 2,oM 8 3,oO 9 (.bin .lss .num (tT 7) (tT 8))] (.cond (tT 9) .skip (.exit 0))) (sQ (.block 1 (.draw [Yd 0 (oM 14 0) 0 0,
 Yd 1 (oM 15 2) 0 0,Yd 2 (oM 16 0) 0 0,Yd 3 (oM 17 3) 0 0,Yd 4 (oM 18 0) 0 0,Yd 5 (oM 19 3) 0 0,Yd 6 (Yi 20 1 18 19) 48 0,Yd 7 (Yk 21 20) 112 0,Yd 8 (oM 22 0) 0 0,Yd 9 (oM 23 2) 0 0,Yd 10 (Yi 24 1 22 23) 768 0,
 Yd 11 (Yk 25 24) 1792 0,Yd 12 (Yi 26 1 14 15) 4083 1,Yd 13 (Ys 1 26 21) 8179 1,Yd 14 (Yi 27 1 16 17) 16383 1,Yd 15 (Ys 1 27 25) 32767 1])) (Yg [oM 10 2,oO 11 (.bin .add .num (tT 10) (kI 1)),oM 12 3,oO 13 (.bin .sub .num (tT 12) (kI 1)),
 oM 2 11,oM 3 13]))))))
theorem ok154 : FnOk Tryz.prog 154 28 ir154 [] := Yf Tryz.func154 Tryz.ntmps154 mixed
def ir155 : ACode := (Yr [Yb 1 0,oO 2 (.mov (kI 0)),oO 3 (.mov kF)] (sQ (Yr [Yl 5 1 1,Yc 6 90 [tT 5]] (.cond (tT 6) (Yr [oO 2 (.mov (kI 0)),oO 3 (.mov kF)] .ret) .skip)) (Yr [Ya 7 0 1,Yk 8 7,Yn 9 8,oO 10 (.bin .sub .num (tT 9) (kI 1)),
 oM 4 10] (Yr [oM 11 4,oO 12 (.bin .mul .num (kI 64) (tT 11)),Ya 13 0 1,Yk 14 13,oM 15 4,Yi 16 1 14 15,Yk 17 16,Yc 18 180 [tT 17],oO 19 (.bin .add .num (tT 12) (tT 18)),oO 20 (.bin .sub .num (tT 19) (kI 1)),
 oM 2 20,oO 3 (.mov kT)] .ret))))
theorem ok155 : FnOk Tryz.prog 155 21 ir155 [.tmp 2, .tmp 3] := Yf Tryz.func155 Tryz.ntmps155 mixed
def ir156 : ACode := (Yr [oO 0 (.mov (.const (.pointer none)))] (Yr [oO 1 (.build [(.int .u64 0),(.int .u64 0),(.int .u64 0),(.int .u64 0),(.int .u64 0),(.int .u64 0),(.int .u64 0),(.int .u64 0),(.int .u64 0),
 (.int .u64 0),(.int .u64 0),(.int .u64 0),(.int .u64 0),(.int .u64 0),(.int .u64 0),(.int .u64 0),(.int .u64 0),(.int .u64 0),(.int .u64 0),(.int .u64 0),(.int .u64 0),(.int .u64 0),(.int .u64 0),(.int .u64 0),
 (.int .u64 0),Yu,Yu,Yu,Yu,Yu,Yu,Yu,Yu,Yu,Yu,Yu,Yu,Yu,Yu,Yu,Yu,Yu,Yu,Yu,Yu,Yu,Yu,Yu,Yu,Yu,Yu,Yu,Yu,Yu,Yu,Yu,Yu,Yu,Yu,Yu,Yu,Yu,Yu,Yu,Yu,Yu,Yu,Yu,Yu,Yu,Yu,Yu,Yu,Yu,Yu,Yu,Yu,Yu,Yu,Yu,Yu,Yu,Yu,Yu,Yu,Yu,Yu,Yu,
 Yu,Yu,Yu,Yu,Yu,Yu,Yu,Yu,Yu,Yu,Yu,Yu,Yu,Yu,Yu,Yu,Yu,Yu,Yu,Yu,Yu,Yu,Yu,Yu,Yu,Yu,Yu,Yu,Yu,Yu,Yu,Yu,Yu,Yu,Yu,Yu,Yu,Yu,Yu,Yu,Yu,Yu,Yu,Yu,Yu,Yu,Yu,Yu,Yu,Yu,Yu,Yu,Yu,Yu,Yu,Yu,Yu,Yu,Yu,Yu,Yu,Yu,Yu,Yu,Yu,Yu,Yu,
 Yu,Yu,Yu,Yu,Yu,Yu,(.int .i64 0),(.int .u64 0)] []),Yb 2 1,oM 0 2] .ret))
theorem ok156 : FnOk Tryz.prog 156 3 ir156 [.tmp 0] := Yf Tryz.func156 Tryz.ntmps156 mixed
def ir157 : ACode := (sQ (Yr [oM 5 0,oO 6 (.bin .eql .ptr (tT 5) (.const (.pointer none)))] (.cond (tT 6) .ret .skip)) (Yr [oM 7 0,oO 8 (.nilck (tT 7)),Ya 9 162 8,Yk 10 9,oM 11 1,Yn 12 11,oO 13 (.conv .u64 (tT 12)),
 oO 14 (.bin .add .num (tT 10) (tT 13)),oO 15 (.nilck (tT 7)),Ya 16 162 15,Ys 1 16 14] (.block 0 (.loop (sQ (Yr [oM 17 1,Yn 18 17,oO 19 (.bin .gtr .num (tT 18) (kI 0))] (.cond (tT 19) .skip (.exit 0))) (.block 1 (sQ (.draw [Yd 0 (oM 20 0) 0 0,
 Yd 1 (oO 21 (.nilck (tT 20))) 1 0,Yd 2 (Ya 22 25 21) 3 0,Yd 3 (oM 23 0) 0 1,Yd 4 (oO 24 (.nilck (tT 23))) 8 1,Yd 5 (Ya 25 161 24) 24 1,Yd 6 (Yk 26 25) 56 1,Yd 7 (oO 27 (.slcA 136 (tT 22) (some (tT 26)) none)) 127 1,
 Yd 8 (oM 28 1) 0 0,Yd 9 (oO 29 (.copy 1 (tT 27) (tT 28))) 511 1,Yd 10 (oM 4 29) 1023 1]) (Yr [oM 30 1,oM 31 4,oO 32 (.slc 1 (tT 30) (some (tT 31)) none none),oM 1 32] (Yr [oM 33 0,oO 34 (.nilck (tT 33)),
 Ya 35 161 34,Yk 36 35,oM 37 4,oO 38 (.bin .add .num (tT 36) (tT 37)),oO 39 (.nilck (tT 33)),Ya 40 161 39,Ys 1 40 38] (Yr [oM 41 0,oO 42 (.nilck (tT 41)),Ya 43 161 42,Yk 44 43,oO 45 (.bin .eql .num (tT 44) (kI 136))] (.cond (tT 45) (sQ (.draw [Yd 0 (oM 46 0) 0 1,
 Yd 1 (oO 47 (.nilck (tT 46))) 1 1,Yd 2 (Ya 48 0 47) 3 1,Yd 3 (oM 49 0) 0 1,Yd 4 (oO 50 (.nilck (tT 49))) 8 1,Yd 5 (Ya 51 25 50) 24 1,Yd 6 (oO 52 (.slcA 136 (tT 51) none none)) 56 1,Yd 7 (Yc 53 183 [tT 48,
 tT 52]) 127 1]) (Yg [oM 54 0,oO 55 (.nilck (tT 54)),Ya 56 161 55,⟨none,.store 1 (tT 56) (kI 0),none⟩])) .skip)))))))))))
theorem ok157 : FnOk Tryz.prog 157 57 ir157 [] := Yf Tryz.func157 Tryz.ntmps157 mixed
def ir158 : ACode := (Yr [oO 2 (.alloc Y1)] (sQ (Yr [oM 7 0,oO 8 (.bin .eql .ptr (tT 7) (.const (.pointer none)))] (.cond (tT 8) (Yr [oO 9 (.build Y1 []),Ys 32 2 9] .ret) .skip)) (Yr [oM 10 0,oO 11 (.nilck (tT 10)),
 Ya 12 0 11,Yl 13 25 12,oO 3 (.alloc [(.int .u64 0),(.int .u64 0),(.int .u64 0),(.int .u64 0),(.int .u64 0),(.int .u64 0),(.int .u64 0),(.int .u64 0),(.int .u64 0),(.int .u64 0),(.int .u64 0),(.int .u64 0),
 (.int .u64 0),(.int .u64 0),(.int .u64 0),(.int .u64 0),(.int .u64 0),(.int .u64 0),(.int .u64 0),(.int .u64 0),(.int .u64 0),(.int .u64 0),(.int .u64 0),(.int .u64 0),(.int .u64 0)]),Ys 25 3 13] (Yr [oO 4 (.alloc [Yu,
 Yu,Yu,Yu,Yu,Yu,Yu,Yu,Yu,Yu,Yu,Yu,Yu,Yu,Yu,Yu,Yu,Yu,Yu,Yu,Yu,Yu,Yu,Yu,Yu,Yu,Yu,Yu,Yu,Yu,Yu,Yu,Yu,Yu,Yu,Yu,Yu,Yu,Yu,Yu,Yu,Yu,Yu,Yu,Yu,Yu,Yu,Yu,Yu,Yu,Yu,Yu,Yu,Yu,Yu,Yu,Yu,Yu,Yu,Yu,Yu,Yu,Yu,Yu,Yu,Yu,Yu,Yu,
 Yu,Yu,Yu,Yu,Yu,Yu,Yu,Yu,Yu,Yu,Yu,Yu,Yu,Yu,Yu,Yu,Yu,Yu,Yu,Yu,Yu,Yu,Yu,Yu,Yu,Yu,Yu,Yu,Yu,Yu,Yu,Yu,Yu,Yu,Yu,Yu,Yu,Yu,Yu,Yu,Yu,Yu,Yu,Yu,Yu,Yu,Yu,Yu,Yu,Yu,Yu,Yu,Yu,Yu,Yu,Yu,Yu,Yu,Yu,Yu,Yu,Yu,Yu,Yu,Yu,Yu,Yu,
 Yu])] (sQ (.draw [Yd 0 (oO 14 (.slcA 136 (tT 4) none none)) 0 0,Yd 1 (oM 15 0) 0 0,Yd 2 (oO 16 (.nilck (tT 15))) 2 0,Yd 3 (Ya 17 25 16) 6 0,Yd 4 (oM 18 0) 0 1,Yd 5 (oO 19 (.nilck (tT 18))) 16 1,Yd 6 (Ya 20 161 19) 48 1,
 Yd 7 (Yk 21 20) 112 1,Yd 8 (oO 22 (.slcA 136 (tT 17) none (some (tT 21)))) 254 1,Yd 9 (oO 23 (.copy 1 (tT 14) (tT 22))) 511 1]) (Yr [oM 24 0,oO 25 (.nilck (tT 24)),Ya 26 161 25,Yk 27 26,oO 28 (.iaddrA 136 1 (tT 4) (tT 27)),
 ⟨none,.store 1 (tT 28) (.const (.int .u8 6)),none⟩] (Yr [oO 29 (.iaddrA 136 1 (tT 4) (kI 135)),Yk 30 29,oO 31 (.bin .xor .num (tT 30) (.const (.int .u8 128))),oO 32 (.iaddrA 136 1 (tT 4) (kI 135)),Ys 1 32 31] (Yr [oO 33 (.slcA 136 (tT 4) none none),
 Yc 34 183 [tT 3,tT 33]] (Yr [oO 5 (.alloc Y1)] (sQ (Yr [oO 35 (.mov (kI 0))] (.block 0 (.loop (Yr [oO 36 (.bin .lss .num (tT 35) (kI 32))] (sQ (.cond (tT 36) .skip (.exit 0)) (sQ (.block 1 (Yr [oM 37 35,
 oM 6 37] (Yg [oM 38 6,oM 39 6,oO 40 (.bin .quo .num (tT 39) (kI 8)),oO 41 (.iaddrA 25 1 (tT 3) (tT 40)),Yk 42 41,oM 43 6,oO 44 (.bin .rem .num (tT 43) (kI 8)),oO 45 (.bin .mul .num (kI 8) (tT 44)),oO 46 (.bin .shr .num (tT 42) (tT 45)),
 oO 47 (.conv .u8 (tT 46)),oO 48 (.iaddrA 32 1 (tT 5) (tT 38)),Ys 1 48 47]))) (Yg [oO 49 (.bin .add .num (tT 35) (kI 1)),oM 35 49]))))))) (Yr [Yl 50 32 5,Ys 32 2 50] .ret)))))))))))
theorem ok158 : FnOk Tryz.prog 158 51 ir158 [.cell 2 true 32] := Yf Tryz.func158 Tryz.ntmps158 mixed
def ir159 : ACode := (Yr [Yb 4 0,Yb 6 2,Yb 7 3,oO 8 (.alloc [nS]),oO 9 (.mov kF)] (Yr [oO 10 (.mov (.const (.int .u8 2)))] (sQ (Yr [oM 17 1,Yn 18 17,oO 19 (.mov (kI 0))] (.block 0 (.loop (Yr [oO 20 (.bin .lss .num (tT 19) (tT 18))] (sQ (.cond (tT 20) .skip (.exit 0)) (sQ (.block 1 (Yr [Yi 21 6 17 19,
 Yl 22 6 21,oO 12 (.alloc [(.bool false),(.bool false),(.bool false),(.int .i64 0),nS,nS]),Ys 6 12 22] (.draw [Yd 0 (oM 23 10) 0 0,Yd 1 (Yl 24 6 12) 0 0,Yd 2 (Yl 25 6 4) 0 0,Yd 3 (Yl 26 1 7) 0 0,Yd 4 (Yl 27 1 7) 0 0,
 Yd 5 (Yl 28 1 6) 0 0,Yd 6 (Yc 29 74 [tT 27,tT 28]) 48 0,Yd 7 (Yc 30 184 [tT 24,tT 25,tT 26,tT 29]) 126 1,Yd 8 (oO 31 (.mn (tT 23) (tT 30))) 255 1,Yd 9 (oM 10 31) 511 1]))) (Yg [oO 32 (.bin .add .num (tT 19) (kI 1)),
 oM 19 32]))))))) (sQ (Yr [oM 33 10,oO 34 (.bin .eql .num (tT 33) (.const (.int .u8 2)))] (.cond (tT 34) (Yr [Yl 35 1 7,Ys 1 8 35,oO 9 (.mov kT)] .ret) .skip)) (sQ (Yr [oM 36 10,oO 37 (.bin .eql .num (tT 36) (.const Yu))] (.cond (tT 37) (Yr [oO 38 (.build [nS] []),
 Ys 1 8 38,oO 9 (.mov kF)] .ret) .skip)) (Yr [Yl 40 1 6,Yc 41 185 [tT 40],oM 39 41,Yx 42 39 0,Yx 43 39 1,oM 13 42,oM 14 43] (sQ (Yr [oM 44 14,oO 45 (.una .not (tT 44))] (.cond (tT 45) (Yr [oO 46 (.build [nS] []),
 Ys 1 8 46,oO 9 (.mov kF)] .ret) .skip)) (sQ (sQ (.draw [Yd 0 (Yl 48 6 4) 0 0,Yd 1 (oM 49 1) 0 0,Yd 2 (Yl 50 1 6) 0 0,Yd 3 (oM 51 13) 0 0,Yd 4 (Yc 52 34 [tT 50,tT 51]) 12 0,Yd 5 (Yl 53 1 7) 0 0,Yd 6 (Yc 54 159 [tT 48,
 tT 49,tT 52,tT 53]) 63 1,Yd 7 (oM 47 54) 127 1,Yd 8 (Yx 55 47 0) 255 1,Yd 9 (Yx 56 47 1) 255 0,Yd 10 (oO 15 (.alloc [nS])) 0 0,Yd 11 (Ys 1 15 55) 1535 1,Yd 12 (oM 16 56) 4095 1]) (Yr [oM 57 16] (.cond (tT 57) (Yr [Yl 58 1 15,
 Ys 1 8 58,oO 9 (.mov kT)] .ret) .skip))) (sQ (.draw [Yd 0 (Yl 59 6 4) 0 0,Yd 1 (oM 60 1) 0 0,Yd 2 (Yl 61 1 6) 0 0,Yd 3 (oM 62 13) 0 0,Yd 4 (Yc 63 34 [tT 61,tT 62]) 12 0,Yd 5 (Yl 64 1 7) 0 0,Yd 6 (oM 65 13) 0 0,
 Yd 7 (Yc 66 15 [tT 64,tT 65]) 124 0,Yd 8 (Yc 67 159 [tT 59,tT 60,tT 63,tT 66]) 255 1,Yd 9 (Yx 68 67 0) 511 1,Yd 10 (Yx 69 67 1) 511 1,Yd 11 (Ys 1 8 68) 2047 1,Yd 12 (oM 9 69) 4095 1]) .ret)))))))))
theorem ok159 : FnOk Tryz.prog 159 70 ir159 [.cell 8 true 1, .tmp 9] := Yf Tryz.func159 Tryz.ntmps159 mixed
def ir160 : ACode := (Yr [Yb 2 0,oO 4 (.alloc [nS])] (Yr [oO 5 (.alloc [nS])] (sQ (Yr [oM 10 1,Yn 11 10,oO 12 (.mov (kI 0))] (.block 0 (.loop (Yr [oO 13 (.bin .lss .num (tT 12) (tT 11))] (sQ (.cond (tT 13) .skip (.exit 0)) (sQ (.block 1 (Yr [Yi 14 6 10 12,
 Yl 15 6 14,oO 7 (.alloc [(.bool false),(.bool false),(.bool false),(.int .i64 0),nS,nS]),Ys 6 7 15] (sQ (.draw [Yd 0 (Ya 16 4 7) 0 0,Yd 1 (Yk 17 16) 1 0,Yd 2 (Yc 18 77 [tT 17]) 3 0,Yd 3 (Ya 19 5 7) 0 0,
 Yd 4 (Yk 20 19) 8 0,Yd 5 (Yc 21 77 [tT 20]) 31 1,Yd 6 (Yc 22 74 [tT 18,tT 21]) 63 1,Yd 7 (oO 8 (.alloc [nS])) 0 0,Yd 8 (Ys 1 8 22) 255 1]) (Yr [Yl 23 1 5,Yl 24 1 8,Yc 25 74 [tT 23,tT 24],Ys 1 5 25] (Yr [Yl 26 1 8,
 Yc 27 85 [tT 26]] (.block 2 (.range (tT 27) [28] [(9,(tT 28))] (.block 3 (Yr [Ya 29 0 7,Yk 30 29] (.cond (tT 30) (.draw [Yd 0 (Yl 31 1 5) 0 0,Yd 1 (Ya 32 1 2) 0 0,Yd 2 (Yk 33 32) 2 0,Yd 3 (oM 34 9) 0 0,
 Yd 4 (Yc 35 139 [tT 33,tT 34]) 14 0,Yd 5 (Yc 36 74 [tT 31,tT 35]) 31 1,Yd 6 (Ys 1 5 36) 63 1]) .skip)))))))))) (Yg [oO 37 (.bin .add .num (tT 12) (kI 1)),oM 12 37]))))))) (Yr [Yl 38 1 5,Ys 1 4 38] .ret))))
theorem ok160 : FnOk Tryz.prog 160 39 ir160 [.cell 4 true 1] := Yf Tryz.func160 Tryz.ntmps160 mixed
def ir161 : ACode := (Yr [oO 4 (.mov kF)] (Yr [oM 5 0,oM 6 1,Yc 7 186 [tT 5,tT 6],oO 8 (.bin .geq .num (tT 7) (kI 0)),oM 4 8] .ret))
theorem ok161 : FnOk Tryz.prog 161 9 ir161 [.tmp 4] := Yf Tryz.func161 Tryz.ntmps161 mixed
def ir162 : ACode := (Yr [Yb 2 0,oO 3 (.mov kF)] (Yr [Yk 4 1,Yl 5 2 2,oO 6 (.call (tT 4) [tT 5]),oO 7 (.una .not (tT 6)),oM 3 7] .ret))
theorem ok162 : FnOk Tryz.prog 162 8 ir162 [.tmp 3] := Yf Tryz.func162 Tryz.ntmps162 mixed
def ir163 : ACode := (Yr [Yb 2 0,oO 3 (.mov kF)] (Yr [Yk 4 1,Yl 5 2 2,oO 6 (.call (tT 4) [tT 5]),oO 7 (.una .not (tT 6)),oM 3 7] .ret))
theorem ok163 : FnOk Tryz.prog 163 8 ir163 [.tmp 3] := Yf Tryz.func163 Tryz.ntmps163 mixed
def ir164 : ACode := (Yr [oO 4 (.mov (kI 0))] (sQ (Yr [oM 6 0,Yn 7 6,oO 8 (.mov (kI 0))] (.block 0 (.loop (Yr [oO 9 (.bin .lss .num (tT 8) (tT 7))] (sQ (.cond (tT 9) .skip (.exit 0)) (sQ (.block 1 (Yr [oM 10 8,
 oM 5 10] (Yr [oM 11 1,oM 12 0,oM 13 5,Yi 14 5 12 13,Yl 15 5 14,oO 16 (.call (tT 11) [tT 15])] (.cond (tT 16) (Yr [oM 17 5,oM 4 17] .ret) .skip)))) (Yg [oO 18 (.bin .add .num (tT 8) (kI 1)),oM 8 18]))))))) (Yr [oO 4 (.mov (.const (.int .i64 (-1))))] .ret)))
theorem ok164 : FnOk Tryz.prog 164 19 ir164 [.tmp 4] := Yf Tryz.func164 Tryz.ntmps164 mixed
def ir165 : ACode := (Yr [oO 4 (.alloc [nS])] (sQ (Yr [oM 5 0,oM 6 1,Yc 7 149 [tT 5,tT 6],oO 8 (.una .not (tT 7))] (.cond (tT 8) (Yr [oO 9 (.build [nS] []),Ys 1 4 9] .ret) .skip)) (Yr [oM 10 0,oO 11 (.nilck (tT 10)),
 Ya 12 2 11,Yk 13 12,oM 14 1,Yi 15 1 13 14,Yl 16 1 15,Ys 1 4 16] .ret)))
theorem ok165 : FnOk Tryz.prog 165 17 ir165 [.cell 4 true 1] := Yf Tryz.func165 Tryz.ntmps165 mixed
end
end Go.Proofs.YtmnbbggaoembeaaGreatDoor
