/-
  Merged from the texts that this claim's theorem needs, part 2 of 8. No statement of the seat is proved here.
-/
import Derived.Carry
import Derived.LaidMore
import Derived.LoopNIn
import Derived.OpenShut
import Derived.ProofKit
import Derived.SizedLaws
import Derived.Test.YtoolafpiaobphaaGreatDoorRows
import Derived.Test.YtoolafpiaobphaaGreatDoorMq0
set_option linter.unusedSimpArgs false
set_option linter.unusedVariables false
set_option linter.unusedSectionVars false
set_option linter.defProp false
set_option maxRecDepth 100000
set_option maxHeartbeats 16000000
namespace Go.Proofs.YtoolafpiaobphaaGreatDoor
section
open Go.RowKit
section
variable {P:Program} {C:Ctx} {Fr:Nat->Prop} {e:Env} {h:X2} {F:XL} {φ:XO} {a:Act} {w:World}
def X1c (P:Program) (C:Ctx) (Fr:Nat->Prop) (e:Env) (a:Act) (w:World) (s:Sem Next) (id:Nat) (v:PV) (h':X2):Prop :=
 ∃ r val w' F' φ',s.run P w=.ok r w'/\(r=.value val \/ (r=.skip/\val=undef))/\St' C (fun i=>Fr i/\(h' id≠none->i≠id)) e h' F' φ' a w'/\Rep F' φ' val v
theorem Xf.done {m:Sem Value} {id:Nat} {v:PV} {h':X2} (hr:Xf P C Fr e F φ a w m id v h'):X1c P C Fr e a w (do pure (.value (<- m))) id v h':=by
 obtain⟨val,w',F',φ',h1,h2,h3⟩:=hr;exact⟨_,val,w',F',φ',by simp [h1],.inl rfl,h2,h3⟩
theorem Xf.done' {m:Sem Value} {id:Nat} {v:PV} {h':X2} (hr:Xf P C Fr e F φ a w m id v h') {q:Sem Next} (hq:q=(do pure (.value (<- m)))):X1c P C Fr e a w q id v h':=by subst hq; exact hr.done
theorem X1c.quiet (s:St' C Fr e h F φ a w) {m:Sem Next} {val:Value} {v:PV} {id:Nat} (hr:m.run P w=.ok (.value val) w) (hv:Rep F φ val v):X1c P C Fr e a w m id v h :=
 ⟨_,val,w,F,φ,hr,.inl rfl,s.weaken fun _ h=>h.1,hv⟩
theorem ZbA (fs:Array Field) (hall:∀ f∈fs.toList,∃ inf,P.info? f.type=some inf) :
 (fs.mapM (m:=Sem) fun f=>do pure (f.offset,<- sizeOf f.type)).run P w=.ok ((fs.toList.map fun f=>(f.offset,P.cellsOf f.type)).toArray) w:=by
 rw [Y4J];have:∀ (l:List Field),(∀ f∈l,∃ inf,P.info? f.type=some inf)->(l.mapM (m:=Sem) fun f=>do pure (f.offset,<- sizeOf f.type)).run P w=.ok (l.map fun f=>(f.offset,P.cellsOf f.type)) w:=by
  intro l
  induction l with
  | nil=>intro _; rfl
  | cons f r ih =>
    intro hl;obtain⟨inf,hi⟩:=hl f (by simp);have ih':=ih fun g hg=>hl g (by simp [hg]);simp only [List.mapM_cons,Y1a,Zi hi,YS,Y22,ih',Y1J,Program.cellsOf,hi,Y1i,Y29]
 simp only [Sem.run_map,this _ hall,YS]
theorem Zg3 (s:St' C Fr e h F φ a w) {id:Nat} {t:TypeId} {z:List Value} {fs:Array Field} {parts:Array (Nat×Operand)} {qs:List (Nat×Nat×Operand)} (hz:XX P t=some z) (hu:P.underlying t=some (.struct fs)) (hall:∀ f∈fs.toList,∃ inf,P.info? f.type=some inf)
 (hq:X2p P fs parts.toList=some qs) {p:PV} {h':X2} (hd:X3 (.build z qs) e h id=some (p,h')):Xf P C Fr e F φ a w (Instr.build t (parts.map fun (i,x)=>(i,a.eval x))) id p h':=by
 obtain⟨i,v,hi,hv,rfl,h1,hl,hp⟩:=Z12 hz;simp only [X3] at hd
 split at hd
 case h_2=>simp at hd
 rename_i l hl;cases hd
 obtain⟨vs',hfill,hc⟩:=Zem s (fs:=fs) (places:=(fs.toList.map fun f=>(f.offset,P.cellsOf f.type)).toArray) (fun i f inf hf hi=>by
  simp [hf,Program.cellsOf,hi]) parts.toList qs _ _ _ hq (X21.zero h1) hl
 refine Xf.quiet s (val:=.agg vs') ?_ hc.rep;simp only [Instr.build,Y1a,ZX hi hv,YS,Y9 hu,ZbA fs hall,Y4u,hfill,Y22]
theorem Zey (s:St' C Fr e h F φ a w) {id:Nat} {t el:TypeId} {n:Nat} {z:List Value} {inf:TypeInfo} {parts:Array (Nat×Operand)} (hz:XX P t=some z) (hu:P.underlying t=some (.array n el)) (hinf:P.info? el=some inf)
 {p:PV} {h':X2} (hd:X3 (.build z (parts.toList.map fun (k,x)=>(k*inf.size,inf.size,x))) e h id=some (p,h')):Xf P C Fr e F φ a w (Instr.build t (parts.map fun (i,x)=>(i,a.eval x))) id p h':=by
 obtain⟨i,v,hi,hv,rfl,h1,hl,hp⟩:=Z12 hz;simp only [X3] at hd
 split at hd
 case h_2=>simp at hd
 rename_i l hl;cases hd;obtain⟨vs',hfill,hc⟩:=ZfQ s inf.size parts.toList _ _ _ (X21.zero h1) hl;refine Xf.quiet s (val:=.agg vs') ?_ hc.rep;simp only [Instr.build,Y1a,ZX hi hv,YS,Y9 hu,Zi hinf,Y4u,hfill,Y22]
theorem X6E {α:Type} {x:α} {l:Array α} (h:l.toList = [x]):l = #[x]:=by
 apply Y4L; simpa using h
theorem X6k {α:Type} {l:Array α} {m:List α} (h:l.toList=m):l=m.toArray:=Y4L (by simpa using h)
theorem X33 {op:AOp} {id:Nat} {p:PV} {h':X2} {q:Sem Next} {X:Sem Value} (hd:X3 op e h id=some (p,h') \/ XH op e h id=some (p,h')) (hr:X3 op e h id=some (p,h')->Xf P C Fr e F φ a w X id p h') (hx:q=(do pure (.value (<- X))):=by simp [execOp,resolve,invoke,builtin, *]) (hf:XH op e h id=none:=by rfl):X1c P C Fr e a w q id p h' :=
 (hr (hd.resolve_right fun hh=>by rw [hf] at hh; cases hh)).done' hx
theorem X6f {op:AOp} {id:Nat} {p:PV} {h':X2} {q:Sem Next} {X:Sem Value} (hd:X3 op e h id=some (p,h') \/ XH op e h id=some (p,h')) (hr:X3 op e h id=some (p,h')->Xf P C Fr e F φ a w X id p h') (hr':XH op e h id=some (p,h')->Xf P C Fr e F φ a w X id p h') (hx:q=(do pure (.value (<- X))):=by simp [execOp,resolve,invoke,builtin, *]):X1c P C Fr e a w q id p h' :=
 (hd.elim hr hr').done' hx
theorem Z92 {o:Oper} {op:AOp} (hc:cOp P o=some op) (s:St' C Fr e h F φ a w) {id:Nat} (hid:Fr id) {p:PV} {h':X2} (hd:X3 op e h id=some (p,h') \/ XH op e h id=some (p,h')) :
 X1c P C Fr e a w (execOp a.eval o) id p h':=by
 have no:XH op e h id=none->X3 op e h id=some (p,h'):=fun hf=>hd.resolve_right fun hh=>by rw [hf] at hh; cases hh
 unfold cOp at hc
 split at hc
 case h_1 x ho|h_2 x ho => -- move,assign
  cases hc;have hd:=no rfl;simp only [X3] at hd
  split at hd<;>cases hd
  rename_i q hq;exact X1c.quiet s (by simp [execOp,ho]) (s.eval hq)
 case h_3 c x y ho => -- pick
  cases hc;have hd:=no rfl;simp only [X3] at hd;(repeat' split at hd)<;>cases hd
  all_goals
   rename_i hcv _ hq;exact X1c.quiet s (by simp [execOp,ho,(s.eval hcv).val_inv,asBool]) (s.eval hq)
 case h_4 bop t x y yt ho => -- binOp
  have key:∀ c,op=.bin bop c x y->(∀ {q r v},Rep F φ (a.eval x) q->Rep F φ (a.eval y) r->X4l bop c q r=some v->∃ val,(do eqGuard bop t x y (a.eval x) (a.eval y); binOp bop t (a.eval x) (a.eval y):Sem Value).run P w=.ok val w/\Rep F φ val v)->X1c P C Fr e a w (execOp a.eval o) id p h':=by
   rintro c rfl hb;have hd:=no rfl;simp only [X3] at hd;(repeat' split at hd)<;>cases hd;obtain⟨val,hrun,hrep⟩:=hb (s.eval (by assumption)) (s.eval (by assumption)) (by assumption);have hex:execOp a.eval o=(do pure (.value (<- (do eqGuard bop t x y (a.eval x) (a.eval y); binOp bop t (a.eval x) (a.eval y):Sem Value)))):=by simp only [execOp,ho]
   exact X1c.quiet s (val:=val) (by rw [hex,Y1a,hrun]; rfl) hrep
  split at hc
  case h_7 el hu =>
   split at hc
   case isFalse=>cases hc
   rename_i hnil;have hy:y=.const (.slice none 0 0):=by
    unfold X7u at hnil
    split at hnil
    . rfl
    . cases hnil
   subst hy;have nils:∀ neg,X3 (.isnil neg x) e h id=some (p,h')->(∀ (b:Option Addr) (n c:Nat),(binOp bop t (.slice b n c) (.slice none 0 0)).run P w=.ok (.bool (b.isNone != neg)) w)->X1c P C Fr e a w (execOp a.eval o) id p h':=by
    intro neg hd' hb;simp only [X3] at hd'
    split at hd'
    case h_2=>cases hd'
    rename_i c0 r0 fl hx;cases hd';have hex:execOp a.eval o=(do pure (.value (<- (do eqGuard bop t x (.const (.slice none 0 0)) (a.eval x) (.slice none 0 0); binOp bop t (a.eval x) (.slice none 0 0):Sem Value)))):=by simp only [execOp,ho]; rfl
    rcases (s.eval hx).vec_inv with⟨h0,_⟩|⟨ad,cap,esz,cs,hv,_⟩
    . cases h0
    . refine X1c.quiet s (val := .bool neg) ?_ (.val _);have:=hb (some ad) (c0 :: r0).length cap;rw [hex,hv,Y1a];have hg:(eqGuard bop t x (.const (.slice none 0 0)) (.slice (some ad) (c0 :: r0).length cap) (.slice none 0 0)).run P w=.ok () w:=by
       cases bop<;>simp [eqGuard]
      simp only [Y1a,hg,YS,this];simp
   split at hc
   . cases hc;exact nils false (hd.resolve_right nofun) fun b n c=>by rw [Zg0 hu]; simp
   . cases hc;exact nils true (hd.resolve_right nofun) fun b n c=>by rw [Zg1 hu]; simp
   . cases hc
  case h_8 kt el hu=>cases hc
  all_goals (repeat' split at hc)<;>cases hc
  all_goals first
   | exact key _ rfl (Zif (by assumption) rfl)
   | exact key _ rfl (Z82 (by assumption))
 case h_5 uop t x ho => -- unOp
  cases hc;have hd:=no rfl;simp only [X3] at hd;(repeat' split at hd)<;>cases hd;obtain⟨val,hrun,hrep⟩:=Zdb (P:=P) (w:=w) (s.eval (by assumption)) (by assumption);exact X1c.quiet s (by simp [execOp,ho,hrun]) hrep
 case h_6 src dst x ho => -- convert
  (repeat' split at hc)<;>cases hc
  . rename_i k k' hu hu';have hd:=no rfl;simp only [X3] at hd
    split at hd<;>cases hd
    rename_i k2 n hx;have hv:=(s.eval hx).val_inv;exact X1c.quiet s (val:=.int k' (k'.wrap n)) (by simp [execOp,ho,hv,convert,Y9 hu,Y9 hu',Conv.intToInt]) (.val _)
  all_goals first
   | exact X33 hd (Zkt s (by assumption) (by assumption) (by assumption))
   | exact X33 hd (Zks s (by assumption) (by assumption) (by assumption))
 case h_7 t ho => -- alloc
  obtain⟨z,hz,rfl⟩:=Y11.1 hc;exact X6f hd (X:=Instr.alloc t true (.tuple #[])) (fun hd=>by cases hd; exact ZfP s hid hz _) (fun hd=>by cases hd; exact Zeq s id hz _)
 case h_8 t x ho => -- box
  cases hc;refine X6f (F:=F) (φ:=φ) hd (X:=Instr.box t (a.eval x)) (fun hd=>?_) (fun hd=>?_)
  all_goals
   simp only [X3,XH] at hd;(repeat' split at hd)<;>cases hd;rename_i q hq hcond;simp only [Y0k,Y0n] at hcond
   first|exact Zkp s hid (s.eval hq) hcond.1 hcond.2|exact Zih s id (s.eval hq) hcond.1
 case h_9 t parts ho => -- build
  split at hc
  . rename_i z fs hz hu
    split at hc
    case isFalse=>cases hc
    rename_i hall;obtain⟨qs,hq,rfl⟩:=Y11.1 hc;exact X33 hd (Zg3 s hz hu (fun f hf=>Option.isSome_iff_exists.1 (YK.1 hall f hf)) hq)
  . rename_i z n el hz hu
    split at hc<;>cases hc
    exact X33 hd (Zey s hz hu (by assumption))
  . cases hc
 case h_10 t n parts ho => -- buildSlice
  (repeat' split at hc)<;>cases hc;rename_i el hu _ z hz hle;refine X6f (F:=F) (φ:=φ) hd (X:=Instr.buildSlice t n (parts.map fun (i,x)=>(i,a.eval x))) (fun hd=>?_) (fun hd=>?_)
  all_goals
   simp only [X3,XH] at hd
   split at hd<;>cases hd
   first|exact Zbr s hid hu hz hle (by assumption)|exact Zbs s hid hu hz hle (by assumption)
 case h_11 t x ho => -- load
  obtain⟨l,hl,rfl⟩:=Y11.1 hc;exact X33 hd (Zig s hl)
 case h_12 t x y ho => -- store
  obtain⟨l,hl,rfl⟩:=Y11.1 hc;obtain⟨rfl,w',hr,s'⟩:=ZfV s hl (no rfl);exact⟨.skip,undef,w',F,φ,by simp [execOp,ho,hr],.inr ⟨rfl,rfl⟩,s'.weaken fun _ h=>h.1,.val _⟩
 case h_13 x ho => -- nilCheck
  cases hc;obtain⟨rfl,hr,hv⟩:=ZfT s (no rfl);rcases hv with⟨ad,hv⟩|⟨f,vs,hv⟩<;>exact X1c.quiet s (val:=a.eval x) (by simp [execOp,ho,hv]) hr
 case h_14 t x i ho => -- fieldAddr
  (repeat' split at hc)<;>cases hc;exact X33 hd (ZfS s (by assumption) (by assumption) (by assumption) (by assumption))
 case h_15 t x i ho=>cases hc
 case h_16 t x i ho => -- indexAddr
  split at hc
  . obtain ⟨l, hl, rfl⟩ := Y11.1 hc;exact X33 hd (ZfU s (by assumption) hl)
  . obtain ⟨l, hl, rfl⟩ := Y11.1 hc;exact X33 hd (Zen s (by assumption) hl)
  . cases hc
 case h_17 t x i ho => -- index
  split at hc
  . obtain ⟨l, hl, rfl⟩ := Y11.1 hc;exact X33 hd (Zeo s (by assumption) hl)
  . cases hc;exact X33 hd (Zep s (by assumption))
  . cases hc
 case h_18 t x y ho => -- makeSlice
  (repeat' split at hc)<;>cases hc;rename_i el hu _ _ z i hz hi hby;exact X6f hd (Zer s hid hu hz hi hby) (Zbt s hid hu hz hi hby)
 case h_19 t x lo hi mx ho => -- slice
  split at hc
  . obtain ⟨l, hl, rfl⟩ := Y11.1 hc;exact X6f hd (Zkr s hid (by assumption) hl) (Zim s (by assumption) hl)
  . cases hc
  . (repeat' split at hc) <;> cases hc;rename_i n el hu _ inf hi' hcd;obtain⟨hmx,h1,hn⟩:=hcd;obtain rfl:=Option.isNone_iff_eq_none.1 hmx;exact X33 hd (Zil s hu hi' h1 hn)
  . cases hc
 case h_20 t ho => -- makeMap
  split at hc<;>cases hc
  exact X33 hd (X:=Instr.makeMap t none) (fun hd=>by cases hd; exact ZfZ s hid)
 case h_21 t x i ok ho => -- lookup
  (repeat' split at hc)<;>cases hc;exact X33 hd (Zew s (by assumption) (by assumption) (by assumption))
 case h_22 t x i v ho|h_26 t x i v ho => -- mapUpdate,insert
  (repeat' split at hc)<;>cases hc;obtain⟨rfl,w',hr,s'⟩:=Zex s (by assumption) (by assumption) (no rfl);exact⟨.skip,undef,w',F,φ,by simp [execOp,ho,hr],.inr ⟨rfl,rfl⟩,s'.weaken fun _ h=>h.1,.val _⟩
 case h_23 f first caps ho => -- makeFunc
  split at hc<;>cases hc
  rename_i hfirst;obtain rfl:first = #[]:=by simpa using hfirst
  exact X33 hd (Zij s)
 case h_24 x i ho => -- extract
  cases hc;exact X33 hd (Zbw s)
 case h_25 c ho => -- call
  split at hc
  . cases hc;cases no rfl
  case h_9=>cases hc
  all_goals
   rename_i hcal;(repeat' split at hc)<;>try cases hc
  all_goals
   have ha:=X6k (l:=c.args) (by assumption)
   first
    | exact X33 hd (ZlD (ts:=c.argTypes) (ty:=o.type) s)
    | exact X33 hd (ZlE (ts:=c.argTypes) (ty:=o.type) s)
    | (have hat := X6k (l := c.argTypes) (by assumption)
       first
        | exact X33 hd (Zkq (ty:=o.type) s (by assumption))
        | (rename_i hu hux _ _ _ _ hz hi hby; exact X6f hd (Zes (ty:=o.type) s hid hu hux hz hi hby) (Zbv s id hu hux hz hi hby))
        | (rename_i hu hux _ _ hi; exact X33 hd (Zii (ty:=o.type) s hu hux hi))
        | (obtain⟨z,hz,rfl⟩:=Y11.1 hc; exact X33 hd (Zg2 (ty:=o.type) s (by assumption) hz)))
 . cases hc
theorem Zin {o:Oper} {neg:Bool} {x:Operand} (hc:cOp P o=some (.isnil neg x)):∃ bop t el yt,o.op=.binOp bop t x (.const (.slice none 0 0)) yt/\P.underlying t=some (.slice el)/\(bop=.eql \/ bop=.neq):=by
 unfold cOp at hc
 split at hc
 case h_4 bop t x' y yt ho =>
  split at hc
  all_goals first
   | (rename_i el hu
      split at hc
      . rename_i hnil;have hy:y=.const (.slice none 0 0):=by
         unfold X7u at hnil
         split at hnil
         . rfl
         . cases hnil
        subst hy
        split at hc
        . cases hc; exact⟨_,t,el,yt,ho,hu,.inl rfl⟩
        . cases hc; exact⟨_,t,el,yt,ho,hu,.inr rfl⟩
        . cases hc
      . cases hc)
   | (cases hc; done)
   | ((repeat' (split at hc))<;>first|(cases hc; done)|(simp at hc; done))
 all_goals first
  | (cases hc; done)
  | (simp at hc; done)
  | ((repeat' (split at hc))<;>first|(cases hc; done)|(simp at hc; done))
  | (cases hl : X1l P _ with
     | none=>simp [hl] at hc
     | some l=>simp [hl] at hc)
theorem Zg4 {o:Oper} {neg:Bool} {x:Operand} (hc:cOp P o=some (.isnil neg x)) {b:Option Addr} {n c:Nat} (hv:a.eval x=.slice b n c):∃ bb,(execOp a.eval o).run P w=.ok (.value (.bool bb)) w:=by
 obtain⟨bop,t,el,yt,ho,hu,hb⟩:=Zin hc;have hex:execOp a.eval o=(do pure (.value (<- (do eqGuard bop t x (.const (.slice none 0 0)) (a.eval x) (.slice none 0 0); binOp bop t (a.eval x) (.slice none 0 0):Sem Value)))):=by simp only [execOp,ho]; rfl
 rcases hb with rfl|rfl
 . exact⟨b.isNone,by rw [hex,hv]; simp [eqGuard,Zg0 hu]⟩
 . exact⟨!b.isNone,by rw [hex,hv]; simp [eqGuard,Zg1 hu]⟩
end
def XP:XO:=fun _=>none
def Holds (F:XL) (w:World):Prop:=(∀ x v,F x=some v->x.spot=none/\v.oneCell'=true/\w.cell? x=some v)/\∀ (g j:Nat) (v:Value),(X3u g)[j]?=some v->F ⟨g,j,none⟩=some v
def X27 (F:XL) (φ:XO) (vs:Array Value) (l:List PV):Prop:=vs.size=l.length/\∀ i,i<l.length->Rep F φ (vs.getD i undef) (l.getD i pvu)
def X1K (P : Program) (f : FuncId) : Prop := ∃ fn,P.funcs[f]? = some fn/\(fn.name == "runtime.NumGoroutine") = false/\fn.body.isNone = false
def X7 (P:Program) (f:FuncId) (args:List PV) (R:PV->Prop):Prop :=
 X1K P f/\∀ (F:XL) (w:World) (vs:Array Value),Holds F w->X27 F XP vs args ->
  Calls P f vs w fun e w'=>∃ v r F',e=.returned v/\R r/\Rep F' XP v r/\Below w.heap.size w w'/\Holds F' w'/\(∀ x u,F x=some u->F' x=some u)/\∀ x:Addr,x.block<w.heap.size->F' x=F x
theorem X7.mono {P:Program} {f:FuncId} {args:List PV} {R R':PV->Prop} (h:X7 P f args R) (hR:∀ r,R r->R' r):X7 P f args R' :=
 ⟨h.1,fun F w vs hF hv=>(h.2 F w vs hF hv).mono fun _ _ ⟨v,r,F',h1,h2,h3⟩=>⟨v,r,F',h1,hR r h2,h3⟩⟩
def LoP (p q:PV):Prop:=q=p \/ q=p.low
def LoL (l m:List PV):Prop:=m=l \/ m=X2C l
theorem LoP.rep {F:XL} {φ:XO} {v:Value} {p q:PV} (h:LoP p q) (hr:Rep F φ v p):Rep F φ v q:=by
 rcases h with rfl|rfl
 . exact hr
 . exact hr.low
theorem LoL.rep {F:XL} {φ:XO} {vs:Array Value} {l m:List PV} (h:LoL l m) (hr:X27 F φ vs l):X27 F φ vs m:=by
 rcases h with rfl|rfl
 . exact hr
 . refine ⟨by rw [Z16]; exact hr.1, fun i hi => ?_⟩;rw [Z3g];exact (hr.2 i (by rwa [Z16] at hi)).low
def X59 (P:Program) (g:FuncId) (l:List PV) (R:PV->Prop):Prop:=X1K P g/\∀ (F:XL) (φ:XO) (vs:Array Value),X27 F φ vs l->∃ m,X27 F XP vs m/\X7 P g m R
theorem X59.of {P:Program} {g:FuncId} {l m:List PV} {R:PV->Prop} (h:LoL l m) (hp:X5 m) (hs:X7 P g m R):X59 P g l R :=
 ⟨hs.1,fun F φ vs hr=>⟨m,⟨(h.rep hr).1,fun i hi=>((h.rep hr).2 i hi).pure (ZM hp i)⟩,hs⟩⟩
def opK (P:Program) (op:AOp) (n:Nat) (e:Env) (h:X2) (K:PV->X2->Prop):Prop :=
 match op with
 | .call f args=>∃ g caps as0 R,ev e f=some (.fn g caps)/\evs e args=some as0/\X59 P g (as0++caps) R/\∀ r,R r->K r h
 | .isnil neg x=>(∃ p h',X3 (.isnil neg x) e h n=some (p,h')/\K p h') \/ (((∃ l fl,ev e x=some (.vec l fl)) \/ ∃ k,ev e x=some (.own k))/\∀ b,K (.val (.bool b)) h)
 | op=>∃ p h',(X3 op e h n=some (p,h') \/ XH op e h n=some (p,h'))/\K p h'
def XF (P:Program) (f n:Nat) (args:List PV) (h:X2) (R:Nat->PV->X2->Prop):Prop :=
 X1K P f/\∀ (C:Ctx) (e:Env) (F:XL) (φ:XO) (a:Act) (w:World) (vs:Array Value),St' C (fun i=>n<=i) e h F φ a w->X27 F φ vs args ->
  Calls P f vs w fun en w'=>∃ v r n' h' F' φ',en=.returned v/\R n' r h'/\Rep F' φ' v r/\St' C (fun i=>n'<=i) e h' F' φ' a w'
theorem XF.mono {P:Program} {f n:Nat} {args:List PV} {h:X2} {R R':Nat->PV->X2->Prop} (hs:XF P f n args h R) (hR:∀ n' r h',R n' r h'->R' n' r h'):XF P f n args h R' :=
 ⟨hs.1,fun C e F φ a w vs hF hv=>(hs.2 C e F φ a w vs hF hv).mono fun _ _ ⟨v,r,n',h',F',φ',h1,h2,h3⟩=>⟨v,r,n',h',F',φ',h1,hR _ _ _ h2,h3⟩⟩
def Sub (C:Ctx) (n:Nat) (e:Env) (h:X2) (n':Nat) (e':Env) (h':X2):Prop:=∀ a w,St C (fun i=>n<=i) e h a w->St C (fun i=>n'<=i) e' h' a w
def X4m (n:Nat) (e:Env) (h:X2) (n':Nat) (e':Env) (h':X2):Prop:=∀ C,Sub C n e h n' e' h'
def bmp (h:X2) (n:Nat):Nat:=match h n with|some _=>n+1|none=>n
def opR (P:Program) (op:AOp) (n:Nat) (e:Env) (h:X2) (K:Nat->PV->X2->Prop):Prop :=
 opK P op n e h (fun p h'=>K (bmp h' n) p h') \/ ∃ f args g caps as0 R,op=.call f args/\ev e f=some (.fn g caps)/\evs e args=some as0/\XF P g n (as0++caps) h R/\∀ n' r h',R n' r h'->K n' r h'
def X3d (g:Option (Nat×Bool)) (e:Env) (A B:Prop):Prop :=
 match g with
 | none=>A
 | some (s, b) => match e s with
   | some (.val (.bool c))=>if c=b then A else B
   | some (.val (.tuple _))=>B
   | _=>False
def Xr (P:Program):List Xs->Nat->Env->X2->(Nat->Env->X2->Prop)->Prop
 | [],n,e,h,K=>K n e h
 | o :: os,n,e,h,K=>X3d o.guard e (∃ n1 e1 h1,X4m n e h n1 e1 h1/\opR P o.op n1 e1 h1 fun n' p h'=>Xr P os n' (XC e1 o.dst p) h' K) (Xr P os n (XC e o.dst pvu) h K)
structure XD (F:Fence) (m:Nat):Prop where
 fn:∀ f,F.fn f
 depth:F.depth=none
 calls:∀ (P:Program) f args w R,Calls P f args w R->CallsIn F (m-1) P f args w R
theorem Z6l (m:Nat):XD Fence.wide m:=⟨fun _=>Yt,rfl,fun _ _ _ _ _ h=>callsIn_wide.2 h⟩
section
variable {P:Program} {C:Ctx} {Fr:Nat->Prop} {e:Env} {h:X2} {F:XL} {φ:XO} {a:Act} {w:World} {FN:Fence} {m:Nat}
theorem Z3h {o:Oper} {op:AOp} (hc:cOp P o=some op):∀ c,o.op ≠ .defer c:=by
 intro c ho;simp [cOp,ho] at hc
theorem St'.called (s:St' C Fr e h F φ a w) {w':World} {F':XL} (hb:Below w.heap.size w w') (hF':Holds F' w') (hext:∀ x u,F x=some u->F' x=some u) (hold:∀ x:Addr,x.block<w.heap.size->F' x=F x):St' C Fr e h F' φ a w':=by
 refine { nt := s.nt, glob := hF'.2, marks := s.marks.mono (fun k hk => by rw [hb.block k (YF.1 hk).1]; exact hk), loc0 := s.loc0, free := s.free, env := fun k p hp => ⟨(s.env k p hp).1, (s.env k p hp).2.mono hext fun _ _ h => h⟩, froz := hF'.1, ext := fun x v hx => hext _ _ (s.ext x v hx),
          old:=fun x hx hG=>by rw [hold x (by have:=s.size;omega)]; exact s.old x hx hG,os:=hb.os.trans s.os,tape:=hb.tape.trans s.tape,output:=hb.output.trans s.output,size:=Y03 s.size hb.size,
          kept:=fun k hk hG=>by rw [hb.block k (by have:=s.size;omega)]; exact s.kept k hk hG,live:=fun i b hi=>?_,sep:=s.sep }
 obtain⟨loc,h1,h2,h3⟩:=s.live i b hi;refine⟨loc,h1,h2.mono hext (fun _ _ h=>h) (fun k hk=>hb.block k (s.has_lt hi h1 hk)),fun k hk=>⟨(h3 k hk).1,fun x hx=>?_⟩⟩;rw [hold x (by rw [hx]; exact s.has_lt hi h1 hk)];exact (h3 k hk).2 x hx
theorem Z93 {o:Oper} {f:Operand} {args:List Operand} (hc:cOp P o=some (.call f args)):∃ c,o.op=.call c/\c.callee=.value f/\c.args.toList=args:=by
 unfold cOp at hc
 split at hc
 all_goals first
  | (rename_i c ho
     split at hc
     . rename_i f' hcal;cases hc;exact⟨c,ho,hcal,rfl⟩
     all_goals (repeat' (split at hc))<;>simp at hc)
  | ((repeat' (split at hc))<;>simp at hc; done)
  | (simp at hc; done)
  | (cases hl : X1l P _ with
     | none=>simp [hl] at hc
     | some l=>simp [hl] at hc)
theorem Z4x (s:St' C Fr e h F φ a w) {f:Operand} {args:Array Operand} {g:Nat} {caps as0:List PV} (hf:ev e f=some (.fn g caps)) (has:evs e args.toList=some as0):∃ vs,a.eval f=.func (.func g) #[] vs/\X27 F φ (args.map a.eval++vs) (as0++caps):=by
 obtain⟨vs,hvf,hsz,hcaps⟩:=(s.eval hf).fn_inv;obtain⟨hl1,hl2⟩:=s.evals has;refine⟨vs,hvf,by simp at hl1 ⊢; omega,fun i hi=>?_⟩;by_cases hi':i<as0.length
 . have e1 : (args.map a.eval ++ vs).getD i undef = ((args.toList.map a.eval).getD i undef) := by
    rw [<- Y4u,Z1P];simp only [Y0d];rw [Y17 (by simp at hl1 ⊢;omega)]
   have e2:(as0++caps).getD i pvu=as0.getD i pvu:=by
    simp only [Y0b];rw [YO hi']
   rw [e1,e2];exact hl2 i hi'
 . have e1 : (args.map a.eval ++ vs).getD i undef = vs.getD (i - as0.length) undef := by
    simp only [Y0d];rw [Y2H (by simp at hl1 ⊢;omega)];simp only [Array.size_map];congr 2;simp at hl1;omega
   have e2:(as0++caps).getD i pvu=caps.getD (i-as0.length) pvu:=by
    simp only [Y0b];rw [YL (by omega)]
   rw [e1,e2];exact hcaps _ (by simp at hi;omega)
theorem Z3i (hok:XD FN m) {o:Oper} {f:Operand} {args:List Operand} (hc:cOp P o=some (.call f args)) (s:St' C Fr e h F φ a w) {g:Nat} {caps as0:List PV} (hb:X1K P g) (hf:ev e f=some (.fn g caps)) (has:evs e args=some as0) {next:Act->World->Prop} {Q:Exit->Act->World->Prop}
 (hk:∀ us,X27 F φ us (as0++caps)->Calls P g us w fun en w'=>∃ v,en=.returned v/\next (a.put o.dst v) w'):o.wpIn FN m P a w next Q:=by
 refine⟨fun f _=>hok.fn f,?_⟩;rw [Y3g FN.round a.eval o (Z3h hc)];obtain⟨fn,hfn,hname,hbody⟩:=hb;obtain⟨c,ho,hcal,hargs⟩:=Z93 hc;subst hargs;obtain⟨vs,hvf,hrep⟩:=Z4x s hf has;have hrun:(execOp a.eval o).run P w=.ok (.enter g (c.args.map a.eval++vs)) w:=by
  have h1 : ¬ fn.name = "runtime.NumGoroutine" := by simpa using hname
  have h2:¬ fn.body=none:=fun h=>by rw [h] at hbody; simp at hbody
  simp [execOp,ho,resolve,hcal,hvf,Deferred.ofValue,invoke,callFunc,hfn,h1,h2]
 rw [hrun];refine⟨fun hd=>by rw [hok.depth] at hd; simp at hd,hok.calls _ _ _ _ _ ((hk _ hrep).mono ?_)⟩;rintro en w' ⟨v,rfl,hn⟩;exact hn
theorem Z72 (hok:XD FN m) {o:Oper} {op:AOp} (hc:cOp P o=some op) (hdst:X2O C.nt o.dst=true) {n:Nat} (hid:Fr n) (s:St' C Fr e h F φ a w) {K:PV->X2->Prop} (hk:opK P op n e h K) {next:Act->World->Prop} {Q:Exit->Act->World->Prop}
 (hnext:∀ p h' a' w',K p h'->St C (fun i=>Fr i/\(h' n≠none->i≠n)) (XC e o.dst p) h' a' w'->next a' w'):o.wpIn FN m P a w next Q:=by
 by_cases hcall:∃ f args,op=.call f args
 . obtain ⟨f, args, rfl⟩ := hcall;obtain⟨g,caps,as0,R,hf,has,⟨hb,htk⟩,hR⟩:=hk;refine Z3i hok hc s hb hf has fun us hrep=>?_;obtain ⟨args',hrep'',-,hspec⟩ := htk F φ _ hrep;refine (hspec F w _ ⟨s.froz,s.glob⟩ hrep'').mono ?_;rintro en w' ⟨v,r,F',rfl,hr,hvr,hbel,hF',hext,hold⟩;exact⟨v,rfl,hnext r h _ _ (hR r hr) ⟨F',φ,((s.called hbel hF' hext hold).weaken (Fr':=fun i=>Fr i/\(h n≠none->i≠n)) fun _ h=>h.1).putO hdst (hvr.mono (fun _ _ h=>h) fun i x hx=>by cases hx)⟩⟩
 refine⟨fun f _=>hok.fn f,?_⟩;rw [Y3g FN.round a.eval o (Z3h hc)];have det:∀ p h',(X3 op e h n=some (p,h') \/ XH op e h n=some (p,h'))->K p h'->o.uponIn FN m P a next Q ((execOp a.eval o).run P w):=by
  intro p h' hd hK;obtain⟨r,val,w',F',φ',hr,hval,s',hrep⟩:=Z92 hc s hid hd;have hput:=s'.putO hdst hrep;rw [hr];rcases hval with rfl|⟨rfl,rfl⟩
  . exact hnext p h' _ _ hK ⟨F',φ',hput⟩
  . exact hnext p h' _ _ hK ⟨F',φ',hput⟩
 have:(∃ p h',(X3 op e h n=some (p,h') \/ XH op e h n=some (p,h'))/\K p h') \/ ∃ neg x,op=.isnil neg x/\((∃ l fl,ev e x=some (.vec l fl)) \/ ∃ k,ev e x=some (.own k))/\∀ b,K (.val (.bool b)) h:=by
  cases op<;>first|exact .inl hk|exact absurd ⟨_,_,rfl⟩ hcall|skip
  rename_i neg x;rcases hk with⟨p,h',hd,hK⟩|⟨hx,hK⟩
  . exact .inl ⟨p,h',.inl hd,hK⟩
  . exact .inr ⟨neg,x,rfl,hx,hK⟩
 rcases this with⟨p,h',hd,hK⟩|⟨neg,x,rfl,hx,hK⟩
 . exact det p h' hd hK
 . have hsl : ∃ b n c, a.eval x = .slice b n c := by
    rcases hx with⟨l,fl,hx⟩|⟨k,hx⟩
    . rcases (s.eval hx).vec_inv with ⟨_, hv⟩ | ⟨ad, cap, esz, cs, hv, _⟩
      . exact⟨_,_,_,hv⟩
      . exact⟨_,_,_,hv⟩
    . obtain ⟨loc, _, _, hv⟩ := (s.eval hx).own_inv;exact⟨_,_,_,hv⟩
   obtain⟨b,n',c',hv⟩:=hsl;obtain⟨bb,hrun⟩:=Zg4 (w:=w) hc hv;rw [hrun];exact hnext _ _ _ _ (hK bb) ⟨F,φ,(s.weaken fun _ h=>h.1).putO hdst (.val _)⟩
theorem ZbB (hok:XD FN m) {o:Oper} {f:Operand} {args:List Operand} (hc:cOp P o=some (.call f args)) (hdst:X2O C.nt o.dst=true) {n:Nat} (s:St' C (fun i=>n<=i) e h F φ a w) {g:Nat} {caps as0:List PV} {R:Nat->PV->X2->Prop}
 (hf:ev e f=some (.fn g caps)) (has:evs e args=some as0) (hsp:XF P g n (as0++caps) h R) {next:Act->World->Prop} {Q:Exit->Act->World->Prop}
 (hnext:∀ n' p h' a' w',R n' p h'->St C (fun i=>n'<=i) (XC e o.dst p) h' a' w'->next a' w'):o.wpIn FN m P a w next Q:=by
 refine Z3i hok hc s hsp.1 hf has fun us hrep=>(hsp.2 C e F φ a w _ s hrep).mono ?_;rintro en w' ⟨v,r,n',h',F',φ',rfl,hr,hvr,s'⟩;exact⟨v,rfl,hnext n' r h' _ _ hr ⟨F',φ',s'.putO hdst hvr⟩⟩
theorem Z6m {ops:Array Oper} {g:Option (Nat×Bool)} {g':Option (Nat×Bool)} (hg:X3F ops g=some g') (s:St' C Fr e h F φ a w) {o:Oper} (ho:o.guard=g) {A B:Prop} (hk:X3d g' e A B) :
 (Region.wanted o (yielded ops a.tmps)=true/\A) \/ (Region.wanted o (yielded ops a.tmps)=false/\B):=by
 unfold X3F at hg
 split at hg
 . cases hg;exact .inl ⟨by simp [Region.wanted,ho],hk⟩
 . rename_i j b
   split at hg
   case h_2=>simp at hg
   rename_i oj hj
   split at hg
   case h_2=>simp at hg
   rename_i d hd;cases hg;have hy:∀ v,e d=some (.val v)->yielded ops a.tmps j=match v with | .bool c=>some c|_=>none:=fun v hv=>by
    obtain⟨hlt,hr⟩:=s.env d _ hv;have hv':=hr.val_inv;have hlt':d<a.tmps.size:=by rw [s.nt]; exact hlt
    have hg:a.tmps[d]?=some v:=by
     rw [Y1V hlt'];simpa [Array.getD,hlt'] using hv'
    simp only [yielded,hj,Option.bind_some,hd,hg];cases v<;>rfl
   simp only [X3d] at hk
   split at hk
   . rename_i c hc;have:=hy _ hc;simp only at this
     split at hk
     . rename_i hcb;subst hcb;exact .inl ⟨by simp [Region.wanted,ho,this],hk⟩
     . rename_i hcb;exact .inr ⟨by simp [Region.wanted,ho,this,hcb],hk⟩
   . rename_i v hc;have:=hy _ hc;simp only at this;exact .inr ⟨by simp [Region.wanted,ho,this],hk⟩
   . exact hk.elim
def X3J (C:Ctx) (Q:Exit->Nat->Env->X2->Prop) (x:Exit) (a:Act) (w:World):Prop:=∃ n e h,Q x n e h/\St C (fun i=>n<=i) e h a w
theorem Zez (hok:XD FN m) {ops:Array Oper}:∀ {l:List Oper} {al:List Xs},XK P C.nt ops l=some al->∀ {n:Nat} {e:Env} {h:X2} {a:Act} {w:World},St C (fun i=>n<=i) e h a w->∀ {Q:Exit->Nat->Env->X2->Prop},Xr P al n e h (fun n e h=>Q .normal n e h) ->
 wpListIn FN m P ops (X3J C Q) l a w:=by
 intro l
 induction l with
 | nil =>
   intro al hc n e h a w hs Q hk;obtain rfl : []=al:=by simpa [XK] using hc
   exact⟨n,e,h,hk,hs⟩
 | cons o r ih =>
   intro al hc n e h a w hs Q hk;simp only [XK] at hc
   split at hc
   case h_2=>simp at hc
   rename_i ao al' ho hl;obtain rfl:ao :: al'=al:=by simpa using hc
   unfold X2z at ho
   split at ho
   case h_2=>simp at ho
   rename_i op g hop hg
   split at ho
   case isFalse=>simp at ho
   rename_i hdst;cases ho;simp only [Xr] at hk;obtain⟨F,φ,s⟩:=hs;simp only [wpListIn];rcases Z6m hg s rfl hk with⟨hw,hA⟩|⟨hw,hB⟩
   . rw [Y6 hw];obtain⟨n1,e1,h1,hsub,hA⟩:=hA;obtain⟨F,φ,s⟩:=hsub C a w ⟨F,φ,s⟩;rcases hA with hA|⟨f,args,g,caps,as0,R,hop',hf,has,hsp,hR⟩
     . refine Z72 hok hop hdst (Y0m n1) s hA fun p h' a' w' hK hs' => ?_;obtain⟨F',φ',s'⟩:=hs';refine ih hl ⟨F',φ',s'.weaken fun i hi=>?_⟩ hK;unfold bmp at hi;cases hb:h' n1 with
       | none=>rw [hb] at hi; exact⟨hi,fun hne=>absurd rfl hne⟩
       | some b=>rw [hb] at hi; exact⟨by simp only at hi; omega,fun _=>by simp only at hi; omega⟩
     . subst hop';refine ZbB hok hop hdst s hf has hsp fun n' r h' a' w' hr hs'=>?_;exact ih hl hs' (hR n' r h' hr)
   . rw [Y8 (by simp [hw])];refine⟨fun f _=>hok.fn f,?_⟩;have s':=s.putO (p:=pvu) hdst (.val undef);exact ih hl ⟨F,φ,s'⟩ hB
theorem Zaa (hok:XD FN m) {id:Nat} {ops:Array Oper} {al:List Xs} (hc:XK P C.nt ops ops.toList=some al) {n:Nat} (hs:St C (fun i=>n<=i) e h a w) {Q:Exit->Nat->Env->X2->Prop} (hk:Xr P al n e h (fun n e h=>Q .normal n e h)) :
 (Code.region id ops false).wpIn FN m P (X3J C Q) a w:=Y3J (Zez hok hc hs hk)
end
section
variable {P:Program} {C:Ctx} {Fr:Nat->Prop} {e:Env} {h:X2} {n:Nat} {F:XL} {φ:XO} {a:Act} {w:World} {FN:Fence} {m:Nat}
theorem X4q.names {φ':XO} {loc:Loc} {b:Bx} (h2:X4q F φ w loc b) (hp:X1 b.elems):X4q F φ' w loc b:=by
 refine⟨h2.esz,h2.pos,h2.len,h2.cap,h2.max,h2.el,fun hc=>?_⟩;obtain⟨x,hx,hs,cells,t,hg,hsz,hrep⟩:=h2.room hc;exact⟨x,hx,hs,cells,t,hg,hsz,fun i j hi hj=>⟨(hrep i j hi hj).1,(hrep i j hi hj).2.pure (ZM (Z5U hp i) j)⟩⟩
theorem X3x.names {φ':XO} {loc:Loc} {b:Bx} (h2:X3x F φ w loc b) (hp:X1 b.elems):X3x F φ' w loc b:=by
 obtain⟨x,hx,es,t,hg,hr⟩:=h2.room;exact⟨h2.esz,h2.pos,h2.cap,x,hx,es,t,hg,hr.imp fun r hr p hp' v h=>h.pure ((Z1n _ _).1 ((Z2j _ _).1 hp r hr) p hp')⟩
theorem X1Q.inn {φ':XO} {D:Nat->Prop} {loc:Loc} {b:Bx} (h2:X1Q F φ w loc b) (hφ:∀ i x,D i->φ i=some x->φ' i=some x) (hp:Xt D b.elems):X1Q F φ' w loc b:=by
 rcases h2 with h2|h2
 . refine .inl ⟨h2.esz, h2.pos, h2.len, h2.cap, h2.max, h2.el, fun hc => ?_⟩;obtain⟨x,hx,hs,cells,t,hg,hsz,hrep⟩:=h2.room hc;exact⟨x,hx,hs,cells,t,hg,hsz,fun i j hi hj=>⟨(hrep i j hi hj).1,(hrep i j hi hj).2.inn hφ (ZM (Z5U hp i) j)⟩⟩
 . obtain ⟨x, hx, es, t, hg, hr⟩ := h2.room;exact .inr ⟨h2.esz,h2.pos,h2.cap,x,hx,es,t,hg,hr.imp fun r hr p hp' v h=>h.inn hφ ((Z1n _ _).1 ((Z2j _ _).1 hp r hr) p hp')⟩
theorem X1Q.names {φ':XO} {loc:Loc} {b:Bx} (h2:X1Q F φ w loc b) (hp:X1 b.elems):X1Q F φ' w loc b:=h2.imp (fun h=>h.names hp) (fun h=>h.names hp)
def X2l (P:Program) (f:FuncId) (b:Bx) (rest:List PV) (R:PV->Bx->Prop):Prop :=
 XF P f 1 (.ptr 0 0 0 :: rest) (X2.upd (fun _=>none) 0 b) fun _ r h'=>∃ b',h' 0=some b'/\r.pure/\X1 b'.elems/\R r b'
theorem X6Q {f k:Nat} {args:List PV} {H0:X2} {R:Nat->PV->X2->Prop} (hs:XF P f k args H0 R) (s:St' C Fr e h F φ a w) {vs:Array Value} {φ1:XO} (ρ:Nat->Nat) (hfr:∀ i,k<=i->φ1 i=none)
 (hl:∀ i b0,H0 i=some b0->∃ loc b,φ1 i=some loc/\φ (ρ i)=some loc/\h (ρ i)=some b/\(X1Q F φ w loc b->X1Q F φ1 w loc b0)) (hin:∀ i j,H0 i≠none->H0 j≠none->ρ i=ρ j->i=j) (hv:X27 F φ1 vs args) :
 Calls P f vs w fun en w'=>∃ v r n' h' F' φ',en=.returned v/\R n' r h'/\Rep F' φ' v r/\(∀ i x,φ1 i=some x->φ' i=some x)/\(∀ i b',h' i=some b'->∃ loc,φ' i=some loc/\X1Q F' φ' w' loc b') /\
  ∀ (S : Nat -> Nat -> Prop) {Fr2 : Nat -> Prop} {hN : X2} {φN : XO}, (∀ i x, φ i = some x -> φN i = some x) -> (∀ i, Fr2 i -> φN i = none) -> (∀ x y i, S x i -> S y i -> x = y) ->
    (∀ j b,hN j=some b->(∃ i b' loc,S j i/\h' i=some b'/\φ' i=some loc/\φN j=some loc/\(X1Q F' φ' w' loc b'->X1Q F' φN w' loc b)) \/ (h j=some b/\φN j=φ j/\∀ i,H0 i≠none->j≠ρ i))->St' C Fr2 e hN F' φN a w':=by
 have hlv:∀ i b0,H0 i=some b0->∃ loc b,φ1 i=some loc/\φ (ρ i)=some loc/\h (ρ i)=some b/\X1Q F φ w loc b/\X1Q F φ1 w loc b0/\∀ g,loc.has g->(C.w0.heap.size<=g \/ C.G g)/\∀ x:Addr,x.block=g->F x=none:=fun i b0 hi=>by
  obtain⟨loc,b,h1,h2,h3,h4⟩:=hl i b0 hi;obtain⟨loc',g1,g2,g3⟩:=s.live _ b h3;obtain rfl:loc'=loc:=by rw [h2] at g1; exact (Y13 g1).symm
  exact⟨loc',b,h1,h2,h3,g2,h4 g2,g3⟩
 let C1:Ctx:=⟨w,fun g=>∃ i b0 loc,H0 i=some b0/\φ1 i=some loc/\loc.has g,F,C.nt,φ1⟩
 have hG:∀ g,C1.G g->(C.w0.heap.size<=g \/ C.G g)/\¬ w.heap[g]?=some (.deferred (some [])):=by
  rintro g ⟨i,b0,loc,h1,h2,h3⟩;obtain⟨loc',b,q1,q2,q3,q4,_,q5⟩:=hlv i b0 h1;obtain rfl:loc'=loc:=by rw [h2] at q1; exact (Y13 q1).symm
  refine⟨(q5 g h3).1,fun ho=>?_⟩;rcases q4.there h3 with⟨cells,t,hg⟩|⟨es,t,hg⟩<;>(rw [hg] at ho; cases ho)
 have s1:St' C1 (fun i=>k<=i) (fun _=>none) H0 F φ1 { a with defers := [] } w:=by
  refine { nt:=s.nt,glob:=s.glob,marks:=X2b.nil rfl,loc0:=fun i x hx=>hx,free:=hfr,env:=fun k p hp=>(by cases hp),froz:=s.froz,ext:=fun _ _ h=>h,old:=fun _ _ _=>rfl,os:=rfl,tape:=rfl,output:=rfl,size:=Y0m _,kept:=fun _ _ _=>rfl,live:=fun i b0 hi=>?_,sep:=fun i j bi bj li lj g hi hj hli hlj hgi hgj=>?_ }
  . obtain ⟨loc, b, q1, _, _, _, q4, q5⟩ := hlv i b0 hi;exact⟨loc,q1,q4,fun g hg=>⟨.inr ⟨i,b0,loc,hi,q1,hg⟩,(q5 g hg).2⟩⟩
  . obtain ⟨l1, b1, q1, q2, q3, _⟩ := hlv i bi hi;obtain⟨l2,b2,p1,p2,p3,_⟩:=hlv j bj hj;rw [q1] at hli; rw [p1] at hlj;cases hli; cases hlj;exact hin i j (by rw [hi]; nofun) (by rw [hj]; nofun) (s.sep _ _ b1 b2 _ _ g q3 p3 q2 p2 hgi hgj)
 refine (hs.2 C1 _ F φ1 { a with defers := [] } w vs s1 hv).mono ?_;rintro en w' ⟨v,r,n',h',F',φ',rfl,hR,hvr,s'⟩;refine⟨v,r,n',h',F',φ',rfl,hR,hvr,s'.loc0,fun i b' hi=>?_,fun S Fr2 hN φN hφ hfr2 hS hsrc=>?_⟩
 . obtain ⟨loc, g1, g2, _⟩ := s'.live i b' hi;exact⟨loc,g1,g2⟩
 have hold:∀ {j b loc g},h j=some b->(∀ i,H0 i≠none->j≠ρ i)->φ j=some loc->loc.has g->¬ C1.G g:=by
  rintro j b loc g h1 h2 h3 h4 ⟨i,b0,l0,q1,q2,q3⟩;obtain⟨l1,b1,p1,p2,p3,_⟩:=hlv i b0 q1;rw [q2] at p1; cases p1;exact h2 i (by rw [q1]; nofun) (s.sep j _ b b1 loc l0 g h1 p3 h3 p2 h4 q3)
 have cls:∀ {j b l g},hN j=some b->φN j=some l->l.has g->(h j=some b/\φ j=some l/\g<w.heap.size/\¬ C1.G g) \/ ((w.heap.size<=g \/ C1.G g)/\∃ i b',h' i=some b'/\φ' i=some l/\S j i):=by
  intro j b l g hj hl hg;rcases hsrc j b hj with⟨i,b',loc,h1,h2,h3,h4,_⟩|⟨h1,h2,h3⟩
  . rw [hl] at h4; cases h4;obtain⟨l',g1,_,g3⟩:=s'.live i b' h2;rw [h3] at g1; cases g1;exact .inr ⟨(g3 g hg).1,i,b',h2,h3,h1⟩
  . rw [h2] at hl;exact .inl ⟨h1,hl,s.has_lt h1 hl hg,hold h1 h3 hl hg⟩
 refine { nt := s.nt, glob := s'.glob, marks := s.marks.mono (fun g hg => by rw [s'.kept g (YF.1 hg).1 (fun hg' => (hG g hg').2 hg)]; exact hg), loc0 := fun i x hx => hφ i x (s.loc0 i x hx), free := hfr2, env := fun k p hp => ⟨(s.env k p hp).1, (s.env k p hp).2.mono s'.ext hφ⟩, froz := s'.froz, ext := fun x v hx => s'.ext _ _ (s.ext x v hx),
          old:=fun x hx hg=>?_,os:=s'.os.trans s.os,tape:=s'.tape.trans s.tape,output:=s'.output.trans s.output,size:=Y03 s.size s'.size,kept:=fun g hk hg=>?_,live:=fun j b hj=>?_,sep:=fun x y bx bY lx ly g hx hy hlx hly hgx hgy=>?_ }
 . rw [s'.old x (YY hx s.size) fun hg' => (hG _ hg').1.elim (fun h1 => absurd hx (Y3j.2 h1)) hg];exact s.old x hx hg
 . rw [s'.kept g (YY hk s.size) fun hg' => (hG _ hg').1.elim (fun h1 => absurd hk (Y3j.2 h1)) hg];exact s.kept g hk hg
 . rcases hsrc j b hj with ⟨i, b', loc, h1, h2, h3, h4, h5⟩ | ⟨h1, h2, h3⟩
   . obtain ⟨l', g1, g2, g3⟩ := s'.live i b' h2;rw [h3] at g1; cases g1;exact⟨loc,h4,h5 g2,fun g hg=>⟨(g3 g hg).1.elim (fun h1=>.inl (Y03 s.size h1)) fun h1=>(hG g h1).1,(g3 g hg).2⟩⟩
   . obtain ⟨l, g1, g2, g3⟩ := s.live j b h1;refine⟨l,h2.trans g1,g2.mono s'.ext hφ fun g hg=>s'.kept g (s.has_lt h1 g1 hg) (hold h1 h3 g1 hg),fun g hg=>⟨(g3 g hg).1,fun x hx=>?_⟩⟩;rw [s'.old x (by rw [hx]; exact s.has_lt h1 g1 hg) (by rw [hx]; exact hold h1 h3 g1 hg)];exact (g3 g hg).2 x hx
 . rcases cls hx hlx hgx with ⟨a1, a2, a3, a4⟩ | ⟨a1, y1, c1, a2, a3, a4⟩ <;> rcases cls hy hly hgy with ⟨d1, d2, d3, d4⟩ | ⟨d1, y2, c2, d2, d3, d4⟩
   . exact s.sep x y bx bY lx ly g a1 d1 a2 d2 hgx hgy
   . exact (d1.elim (fun d1=>absurd a3 (Y3j.2 d1)) a4).elim
   . exact (a1.elim (fun a1=>absurd d3 (Y3j.2 a1)) d4).elim
   . obtain rfl := s'.sep y1 y2 c1 c2 lx ly g a2 d2 a3 d3 hgx hgy;exact hS x y y1 a4 d4
theorem Z5Y {b b0:Bx} {i:Nat} (hi:(X2.upd (fun _=>none) 0 b) i=some b0):i=0/\b0=b:=by
 by_cases hi0:i=0
 . subst hi0; rw [X2.upd_same] at hi; exact⟨rfl,(Y13 hi).symm⟩
 . rw [X2.upd_ne _ _ hi0] at hi; cases hi
theorem Z3u {h:X2} {id j:Nat} {b b':Bx} (hj:(h.upd id b') j=some b):(j=id/\b=b') \/ (j≠id/\h j=some b):=by
 by_cases hi:j=id
 . subst hi; rw [X2.upd_same] at hj; exact .inl ⟨rfl,(Y13 hj).symm⟩
 . rw [X2.upd_ne _ _ hi] at hj; exact .inr ⟨hi,hj⟩
theorem X5N {f:FuncId} {b:Bx} {args:List PV} {R:PV->Bx->Prop} (hs:XF P f 1 args (X2.upd (fun _=>none) 0 b) fun _ r h'=>∃ b',h' 0=some b'/\X1 b'.elems/\R r b') (hpb:X1 b.elems) {id:Nat} (hb:h id=some b) (s:St' C Fr e h F φ a w) {vs:Array Value} (hv:∀ φ1:XO,φ1 0=φ id->X27 F φ1 vs args) :
 Calls P f vs w fun en w'=>∃ v r b' F',en=.returned v/\(X1 b'.elems/\R r b')/\(∃ φ':XO,φ' 0=φ id/\Rep F' φ' v r)/\St' C Fr e (h.upd id b') F' φ a w':=by
 obtain⟨loc,hloc,_⟩:=s.live id b hb;refine (X6Q hs s (φ1:=fun i=>if i=0 then φ id else none) (fun _=>id) (fun i hi=>Y8 (by omega)) (fun i b0 hi=>?_) (fun i j hi hj _=>?_) (hv _ rfl)).mono ?_
 . obtain ⟨rfl, rfl⟩ := Z5Y hi;exact⟨loc,b0,hloc,hloc,hb,fun hx=>hx.names hpb⟩
 . obtain ⟨_, hi⟩ := Y1s.1 hi;obtain⟨_,hj⟩:=Y1s.1 hj;rw [(Z5Y hi).1,(Z5Y hj).1]
 . rintro en w' ⟨v, r, n', h', F', φ', rfl, ⟨b', hb', hpb', hR⟩, hvr, hφ, hob, hst⟩;have hφ0:φ' 0=φ id:=by rw [hloc]; exact hφ 0 loc hloc
   refine⟨v,r,b',F',rfl,⟨hpb',hR⟩,⟨φ',hφ0,hvr⟩,hst (fun j i=>j=id/\i=0) (fun _ _ h=>h) s.free (fun x y i h1 h2=>h1.1.trans h2.1.symm) fun j bj hj=>?_⟩;rcases Z3u hj with⟨rfl,rfl⟩|⟨hne,hj⟩
   . exact .inl ⟨0,bj,loc,⟨rfl,rfl⟩,hb',hφ0.trans hloc,hloc,fun hx=>hx.names hpb'⟩
   . exact .inr ⟨hj,rfl,fun _ _=>hne⟩
theorem X2l.run {f:FuncId} {b:Bx} {rest:List PV} {R:PV->Bx->Prop} (hs:X2l P f b rest R) (hpb:X1 b.elems) (hpr:X5 rest) {id:Nat} (hb:h id=some b) (s:St' C Fr e h F φ a w) {vs:Array Value} (hv:X27 F φ vs (.ptr id 0 0 :: rest)) :
 Calls P f vs w fun en w'=>∃ v r b' F',en=.returned v/\(r.pure/\X1 b'.elems/\R r b')/\Rep F' φ v r/\St' C Fr e (h.upd id b') F' φ a w':=by
 refine (X5N (R:=fun r b'=>r.pure/\R r b') (XF.mono hs fun _ _ _ ⟨b',h1,h2,h3,h4⟩=>⟨b',h1,h3,h2,h4⟩) hpb hb s fun φ1 h1=>⟨hv.1,fun i hi=>?_⟩).mono fun _ _ ⟨v,r,b',F',h1,⟨h2,h3,h4⟩,⟨_,_,h5⟩,h6⟩=>⟨v,r,b',F',h1,⟨h3,h2,h4⟩,h5.pure h3,h6⟩
 have hr:=hv.2 i hi;cases i with
 | zero =>
   obtain⟨loc',x,g1,gz,g2,g3,g4⟩:=(show Rep F φ (vs.getD 0 undef) (.ptr id 0 0) from hr).ptr_inv;rw [g4];exact .ptr 0 0 0 loc' x (h1▸g1) gz g2 g3
 | succ i=>exact hr.pure (ZM hpr i)
def X71 (P:Program) (g:FuncId) (id:Nat) (b:Bx) (as0:List PV) (R:PV->Bx->Prop):Prop :=
 X1K P g/\∀ {C:Ctx} {Fr:Nat->Prop} {e:Env} {h:X2} {F:XL} {φ:XO} {a:Act} {w:World} {vs:Array Value},h id=some b->St' C Fr e h F φ a w->X27 F φ vs as0 ->
  Calls P g vs w fun en w'=>∃ v r b' F',en=.returned v/\(r.pure/\X1 b'.elems/\R r b')/\Rep F' φ v r/\St' C Fr e (h.upd id b') F' φ a w'
theorem ZbC (hok:XD FN m) {o:Oper} {f:Operand} {args:List Operand} (hc:cOp P o=some (.call f args)) (hdst:X2O C.nt o.dst=true) (s:St' C Fr e h F φ a w) {g id:Nat} {caps as0:List PV} {b:Bx} {R:PV->Bx->Prop}
 (hf:ev e f=some (.fn g caps)) (has:evs e args=some as0) (hb:h id=some b) (hsp:X71 P g id b (as0++caps) R) {next:Act->World->Prop} {Q:Exit->Act->World->Prop}
 (hnext:∀ p b' a' w',p.pure->X1 b'.elems->R p b'->St C Fr (XC e o.dst p) (h.upd id b') a' w'->next a' w'):o.wpIn FN m P a w next Q:=by
 refine Z3i hok hc s hsp.1 hf has fun us hrep=>(hsp.2 hb s hrep).mono ?_;rintro en w' ⟨v,r,b',F',rfl,⟨h1,h2,h3⟩,hvr,s'⟩;exact⟨v,rfl,hnext r b' _ _ h1 h2 h3 ⟨F',φ,s'.putO hdst hvr⟩⟩
def X1y (P:Program) (f:FuncId) (args:List PV) (mk:Nat->PV) (b:Bx):Prop :=
 XF P f 0 args (fun _=>none) fun n' r h'=>∃ id,r=mk id/\h' id=some b
def Mk (mk:Nat->PV):Prop:=∀ (F:XL) (φ φ':XO) (v:Value) (i n:Nat),φ i=φ' n->Rep F φ v (mk i)->Rep F φ' v (mk n)
theorem Z3j:Mk .own:=fun F φ φ' v i n hn hv=>by
 obtain⟨loc,h1,h2,rfl⟩:=hv.own_inv;exact .own n loc (hn▸h1) h2
theorem X6j {f k:Nat} {args:List PV} {H0:X2} {mk:Nat->PV} {R:Bx->Prop} (hs:XF P f k args H0 fun n' r h'=>∃ id b',r=mk id/\h' id=some b'/\X1 b'.elems/\R b') (hmk:Mk mk) {n:Nat} (hn:Fr n) (s:St' C Fr e h F φ a w) {vs:Array Value} {φ1:XO} (ρ:Nat->Nat) (hfr:∀ i,k<=i->φ1 i=none)
 (hl:∀ i b0,H0 i=some b0->∃ loc b,φ1 i=some loc/\φ (ρ i)=some loc/\h (ρ i)=some b/\(X1Q F φ w loc b->X1Q F φ1 w loc b0)) (hin:∀ i j,H0 i≠none->H0 j≠none->ρ i=ρ j->i=j) (hv:X27 F φ1 vs args) {hD:X2} (hd:∀ j b,hD j=some b->h j=some b/\∀ i,H0 i≠none->j≠ρ i) :
 Calls P f vs w fun en w'=>∃ v b' F' φ',en=.returned v/\(X1 b'.elems/\R b')/\Rep F' φ' v (mk n)/\St' C (fun i=>Fr i/\i≠n) e (hD.upd n b') F' φ' a w':=by
 refine (X6Q hs s ρ hfr hl hin hv).mono ?_;rintro en w' ⟨v,r,n',h',F',φ',rfl,⟨id,b',rfl,hb',hp,hR⟩,hvr,_,hob,hst⟩;obtain⟨loc,hl1,_⟩:=hob id b' hb';refine⟨v,b',F',X8 φ n loc,rfl,⟨hp,hR⟩,hmk F' φ' _ v id n (by rw [hl1]; simp [X8]) hvr,hst (fun j i=>j=n/\i=id) (Z1b (s.free n hn) loc) (fun i hi=>by simp [X8,hi.2,s.free i hi.1]) (fun x y i h1 h2=>h1.1.trans h2.1.symm) fun j b hj=>?_⟩;rcases Z3u hj with⟨rfl,rfl⟩|⟨hne,hj⟩
 . exact .inl ⟨id,b,loc,⟨rfl,rfl⟩,hb',hl1,by simp [X8],fun hx=>hx.names hp⟩
 . exact .inr ⟨(hd j b hj).1,by simp [X8,hne],(hd j b hj).2⟩
theorem X1y.run {f:FuncId} {args:List PV} {mk:Nat->PV} {b:Bx} (hs:X1y P f args mk b) (hmk:Mk mk) (hpb:X1 b.elems) (hpr:X5 args) {n:Nat} (hn:Fr n) (s:St' C Fr e h F φ a w) {vs:Array Value} (hv:X27 F φ vs args) :
 Calls P f vs w fun en w'=>∃ v F' φ',en=.returned v/\Rep F' φ' v (mk n)/\St' C (fun i=>Fr i/\i≠n) e (h.upd n b) F' φ' a w' := 
 (X6j (R:=(· = b)) (XF.mono hs fun _ _ _ ⟨id,h1,h2⟩=>⟨id,b,h1,h2,hpb,rfl⟩) hmk hn s (φ1:=XP) id (fun _ _=>rfl) (fun _ _ hi=>by cases hi) (fun _ _ hi=>absurd rfl hi) ⟨hv.1,fun i hi=>(hv.2 i hi).pure (ZM hpr i)⟩ fun _ _ hj=>⟨hj,fun _ hi=>absurd rfl hi⟩).mono fun _ _ ⟨v,b',F',φ',h1,⟨_,h2⟩,h3,h4⟩=>⟨v,F',φ',h1,h3,h2▸h4⟩
def X7a (P:Program) (g:FuncId) (rd:Option (Nat×Bx)) (as0:List PV) (mk:Nat->PV) (b:Bx):Prop :=
 X1K P g/\∀ {C:Ctx} {Fr:Nat->Prop} {e:Env} {h:X2} {F:XL} {φ:XO} {a:Act} {w:World} {vs:Array Value} {n:Nat},(∀ k b0,rd=some (k,b0)->h k=some b0)->Fr n->St' C Fr e h F φ a w->X27 F φ vs as0 ->
  Calls P g vs w fun en w'=>∃ v F' φ',en=.returned v/\Rep F' φ' v (mk n)/\St' C (fun i=>Fr i/\i≠n) e (h.upd n b) F' φ' a w'
theorem X1y.nrun {g:FuncId} {as0:List PV} {mk:Nat->PV} {b:Bx} (hs:X1y P g as0 mk b) (hmk:Mk mk) (hpb:X1 b.elems) (hpr:X5 as0):X7a P g none as0 mk b:=⟨hs.1,fun _ hn s hv=>hs.run hmk hpb hpr hn s hv⟩
theorem ZbD (hok:XD FN m) {o:Oper} {f:Operand} {args:List Operand} (hc:cOp P o=some (.call f args)) (hdst:X2O C.nt o.dst=true) {n:Nat} (hid:Fr n) (s:St' C Fr e h F φ a w) {g:Nat} {caps as0:List PV} {mk:Nat->PV} {b:Bx}
 (hf:ev e f=some (.fn g caps)) (has:evs e args=some as0) {rd:Option (Nat×Bx)} (hrd:∀ k b0,rd=some (k,b0)->h k=some b0) (hsp:X7a P g rd (as0++caps) mk b) {next:Act->World->Prop} {Q:Exit->Act->World->Prop}
 (hnext:∀ a' w',St C (fun i=>Fr i/\i≠n) (XC e o.dst (mk n)) (h.upd n b) a' w'->next a' w'):o.wpIn FN m P a w next Q:=by
 refine Z3i hok hc s hsp.1 hf has fun us hrep=>(hsp.2 hrd hid s hrep).mono ?_;rintro en w' ⟨v,F',φ',rfl,hvr,s'⟩;exact⟨v,rfl,hnext _ _ ⟨F',φ',s'.putO hdst hvr⟩⟩
theorem St'.frzObj (s:St' C Fr e h F φ a w) {id:Nat} {b:Bx} (hb:h id=some b):∃ F':XL,(∀ x v,F x=some v->F' x=some v)/\St' C Fr e (h.del id) F' φ a w/\∀ v,Rep F φ v (.own id)->Rep F' φ v (.vec b.elems false):=by
 obtain⟨loc',h1,h2,h3⟩:=s.live id b hb;have s1:St' C Fr e (h.del id) F φ a w:=s.sub (fun _ _ h=>h) (fun _ _ hh=>(X2.del_some hh).2);have own:∀ {v},Rep F φ v (.own id)->0<loc'.esz/\v=.slice loc'.base loc'.len loc'.cap:=fun hv=>by
  obtain⟨loc,hl,hz,rfl⟩:=hv.own_inv;obtain rfl:loc'=loc:=by rw [h1] at hl; simpa using hl
  exact⟨hz,rfl⟩
 rcases h2 with h2|h2
 case inr=>exact⟨F,fun _ _ h=>h,s1,fun v hv=>by have:=(own hv).1; have:=h2.pos; omega⟩
 by_cases hc0:loc'.cap=0
 . have hl0 : loc'.len = 0 := by have := h2.cap; omega
   have he0:b.elems = []:=YP (by rw [h2.len,hl0]);refine⟨F,fun _ _ h=>h,s1,fun v hv=>?_⟩;rw [(own hv).2,he0,hl0,hc0];cases loc'.base with
   | none=>exact .vecnil false
   | some x=>exact .vec (F:=F) (φ:=φ) x 0 0 [] false (fun _ _=>undef) (fun h=>absurd rfl h) (Y0m _) (by simp) (by simp) (by simp) (by simp) (by simp)
 . obtain ⟨ad, hbase, hs, cells, ct, hg, hroom, hrep⟩ := h2.room hc0;have hhas:loc'.has ad.block:=⟨hc0,ad,hbase,rfl⟩
   have hx:=Z29 (h3 _ hhas).2 cells;refine⟨_,hx,s1.frz hg (h3 _ hhas).2 (s.del_no hb h1 hhas) (h3 _ hhas).1,fun v hv=>?_⟩;rw [(own hv).2,hbase,<- h2.len];refine .vec ad loc'.cap loc'.esz b.elems false (fun i j=>cells.getD (ad.off+(i*loc'.esz+j)) undef) (fun _=>hs) (by rw [h2.len]; exact h2.cap) (by simp) (by rw [h2.len]; exact h2.max) (fun i hi=>h2.el _ (by simp [Y0b,hi])) (fun i j hi hj=>?_) (fun i j hi hj=>(hrep i j (by rw [<- h2.len]; exact hi) hj).2.mono hx fun _ _ h=>h);refine Z28 F _ _ ?_ (hrep i j (by rw [<- h2.len]; exact hi) hj).1;have:=Z2r (n:=loc'.cap) (i:=i) (j:=j) (esz:=loc'.esz) (by have:=h2.cap; have:=h2.len;omega) hj;omega
theorem St.frzSlot {k id:Nat} {b:Bx} (hst:St C Fr e h a w) (hk:e k=some (.own id)) (hb:h id=some b):St C Fr (e.upd k (.vec b.elems false)) (h.del id) a w:=by
 obtain⟨F,φ,s⟩:=hst;obtain⟨hlt,hr⟩:=s.env k _ hk;obtain⟨F',_,s2,hr2⟩:=s.frzObj hb;refine⟨F',φ,{ s2 with env:=fun j p hj=>?_ }⟩;by_cases hjk:j=k
 . subst hjk; rw [Env.upd_same] at hj; cases hj; exact⟨hlt,hr2 _ hr⟩
 . rw [Env.upd_ne _ _ hjk] at hj; exact s2.env j p hj
theorem St'.cell (s:St' C Fr e h F φ a w) {ob i0 j0:Nat} {bo:Bx} {q:PV} (hob:h ob=some bo) (hi0:i0<bo.elems.length) (hj0:j0<(bo.elems.getD i0 []).length) (hz:0<bo.esz):∃ v,Rep F φ v ((bo.elems.getD i0 []).getD j0 pvu) /\
 ∀ {Fr2:Nat->Prop} {h2:X2} {F':XL} {φ':XO},(∀ x u,F x=some u->F' x=some u)->(∀ i x,φ i=some x->φ' i=some x)->h2 ob=some bo->St' C Fr2 e h2 F' φ' a w->Rep F' φ' v q->St' C Fr2 e (h2.upd ob ⟨bo.esz,bo.elems.set i0 ((bo.elems.getD i0 []).set j0 q)⟩) F' φ' a w:=by
 obtain⟨lo,o1,o2,_⟩:=s.live ob bo hob;have o2:=o2.cellsB hz;have hcl:(bo.elems.getD i0 []).length=lo.esz:=o2.el _ (by simp [Y0b,hi0]);obtain⟨ado,hb,hs,cs,ct,hg,hroom,hr⟩:=o2.room (by have:=o2.cap; have:=o2.len;omega);refine⟨_,(hr i0 j0 (by rw [<- o2.len]; exact hi0) (by rw [<- hcl]; exact hj0)).2,fun {Fr2 h2 F' φ'} hx hφ ho s2 hrep=>{ s2 with live:=fun i bi hi=>?_,sep:=fun i j bi bj li lj k hi hj hli hlj hki hkj=>?_ }⟩
 . rcases Z3u hi with ⟨rfl, rfl⟩ | ⟨_, hi⟩
   . obtain ⟨l2, g1, _, g3⟩ := s2.live i bo ho;obtain rfl:l2=lo:=by rw [hφ _ _ o1] at g1; exact (Y13 g1).symm
     refine⟨l2,g1,.inl ⟨o2.esz,o2.pos,by simpa using o2.len,o2.cap,o2.max,fun c hc=>?_,fun _=>⟨ado,hb,hs,cs,ct,hg,hroom,fun i' j' hi' hj'=>⟨(hr i' j' hi' hj').1,?_⟩⟩⟩,g3⟩
     . rcases Y2O hc with h | h
       . exact o2.el c h
       . rw [h,Y18]; exact hcl
     . have hr' := (hr i' j' hi' hj').2.mono hx hφ;simp only [Y0b,Y1p] at hr' hrep ⊢;by_cases hii:i0=i'
       . subst hii;rw [Y6 rfl,Y6 hi0];simp only [Y29,Y1p];by_cases hjj:j0=j'
         . subst hjj;rw [Y6 rfl,Y6 (by simpa [Y0b] using hj0)];exact hrep
         . rw [Y8 hjj]; exact hr'
       . rw [Y8 hii]; exact hr'
   . exact s2.live i bi hi
 . have conv : ∀ {i : Nat} {bi : Bx}, (h2.upd ob ⟨bo.esz, bo.elems.set i0 ((bo.elems.getD i0 []).set j0 q)⟩) i = some bi -> ∃ b0, h2 i = some b0 := fun hi => (Z3u hi).elim (fun h => h.1 ▸ ⟨_, ho⟩) fun h => ⟨_, h.2⟩
   obtain⟨b1,g1⟩:=conv hi
   obtain⟨b2,g2⟩:=conv hj
   exact s2.sep i j b1 b2 li lj k g1 g2 hli hlj hki hkj
theorem Z94 (e:Env) (d:Nat) (p q:PV):(e.upd d p).upd d q=e.upd d q:=by
 funext j;by_cases hj:j=d
 . subst hj; rw [Env.upd_same,Env.upd_same]
 . rw [Env.upd_ne _ _ hj,Env.upd_ne _ _ hj,Env.upd_ne _ _ hj]
theorem Z95 (h:X2) (k id:Nat) (b:Bx) (hid:h id=none):((h.del k).upd id b).del id=h.del k:=by
 funext j;by_cases hj:j=id
 . subst hj;rw [X2.del_same];by_cases hjk:j=k
   . subst hjk; rw [X2.del_same]
   . rw [X2.del_ne _ hjk,hid]
 . rw [X2.del_ne _ hj,X2.upd_ne _ _ hj]
def X55 (P:Program) (f:FuncId) (b:Bx) (rest:List PV) (mk:Nat->PV) (R:Bx->Prop):Prop :=
 XF P f 1 (.own 0 :: rest) (X2.upd (fun _=>none) 0 b) fun n' r h'=>∃ id b',r=mk id/\h' id=some b'/\X1 b'.elems/\R b'
theorem X55.run {f:FuncId} {b:Bx} {rest:List PV} {mk:Nat->PV} {R:Bx->Prop} (hs:X55 P f b rest mk R) (hmk:Mk mk) (hpb:X1 b.elems) (hpr:X5 rest) {k n:Nat} (hn:Fr n) (hb:h k=some b) (s:St' C Fr e h F φ a w) {vs:Array Value} (hv:X27 F φ vs (.own k :: rest)) :
 Calls P f vs w fun en w'=>∃ v b' F' φ',en=.returned v/\(X1 b'.elems/\R b')/\Rep F' φ' v (mk n)/\St' C (fun i=>Fr i/\i≠n) e ((h.del k).upd n b') F' φ' a w':=by
 obtain⟨loc,hloc,_⟩:=s.live k b hb;refine X6j hs hmk hn s (φ1:=fun i=>if i=0 then φ k else none) (fun _=>k) (fun i hi=>Y8 (by omega)) (fun i b0 hi=>?_) (fun i j hi hj _=>?_) ⟨hv.1,fun i hi=>?_⟩ fun j b1 hj=>⟨(X2.del_some hj).2,fun _ _=>(X2.del_some hj).1⟩
 . obtain ⟨rfl, rfl⟩ := Z5Y hi;exact⟨loc,b0,hloc,hloc,hb,fun hx=>hx.names hpb⟩
 . obtain ⟨_, hi⟩ := Y1s.1 hi;obtain⟨_,hj⟩:=Y1s.1 hj;rw [(Z5Y hi).1,(Z5Y hj).1]
 . have hr := hv.2 i hi;cases i with
   | zero=>exact Z3j F φ _ _ k 0 rfl hr
   | succ i=>exact hr.pure (ZM hpr i)
theorem ZbE (hok:XD FN m) {o:Oper} {f:Operand} {args:List Operand} (hc:cOp P o=some (.call f args)) (hdst:X2O C.nt o.dst=true) {d n:Nat} (hd:o.dst=some d) (hid:Fr n) (s:St' C Fr e h F φ a w) {g k:Nat} {caps as0 rest:List PV} {b b':Bx}
 (hf:ev e f=some (.fn g caps)) (has:evs e args=some as0) (hr:as0++caps=.own k :: rest) (hb:h k=some b) (hpb:X1 b.elems) (hpb':X1 b'.elems) (hpr:X5 rest) (hsp:X55 P g b rest .own (· = b')) {next:Act->World->Prop} {Q:Exit->Act->World->Prop}
 (hnext:∀ a' w',St C (fun i=>Fr i/\i≠n) (XC e o.dst (.vec b'.elems false)) (h.del k) a' w'->next a' w'):o.wpIn FN m P a w next Q:=by
 refine Z3i hok hc s hsp.1 hf has fun us hrep=>(hsp.run Z3j hpb hpr hid hb s (hr▸hrep)).mono ?_;rintro en w' ⟨v,b2,F',φ',rfl,⟨h1,rfl⟩,hvr,s'⟩;refine⟨v,rfl,hnext _ _ ?_⟩;have hnone:h n=none:=by
  cases hq:h n with
  | none=>rfl
  | some bq=>obtain⟨loc,h1,_⟩:=s.live _ bq hq; rw [s.free _ hid] at h1; cases h1
 have s2:St C (fun i=>Fr i/\i≠n) (XC e o.dst (.own n)) ((h.del k).upd n b2) (a.put o.dst v) w':=⟨F',φ',s'.putO hdst hvr⟩
 rw [hd] at s2 ⊢;have s3:=St.frzSlot (k:=d) s2 (Env.upd_same _ _ _) (X2.upd_same _ _ _);rw [Z95 _ _ _ _ hnone] at s3;have e1:(XC e (some d) (.own n)).upd d (.vec b2.elems false)=XC e (some d) (.vec b2.elems false):=Z94 _ _ _ _
 rwa [e1] at s3
theorem Holds.kept {F:XL} {w w':World} (hF:Holds F w) (hb:Below w.heap.size w w'):Holds F w':=by
 refine⟨fun x v hx=>?_,hF.2⟩;obtain⟨h1,h2,h3⟩:=hF.1 x v hx;refine⟨h1,h2,?_⟩;have hlt:x.block<w.heap.size:=by
  unfold World.cell? at h3
  split at h3
  . rename_i ho; exact (YF.1 ho).1
  . cases h3
 rw [hb.cell hlt];exact h3
theorem X7.prun {g:FuncId} {args args':List PV} {i k:Nat} {b:Bx} {v:Value} (hs:X7 P g args' (· = .val v)) (hi:args[i]?=some (.own k)) (hset:args.set i (.vec b.elems false)=args') (hpb:X1 b.elems) (hpr:X5 args') :
 X71 P g k b args fun r b'=>r=.val v/\b'=b:=by
 subst hset;refine⟨hs.1,fun {C Fr e h F φ a w vs} hb s hv=>?_⟩
 let C1:Ctx:=⟨C.w0,C.G,C.F0,vs.size,C.φ0⟩
 let a1:Act:={ a with tmps:=vs }
 have s1:St' C1 Fr (fun k=>args[k]?) h F φ a1 w:=by
  refine { nt:=rfl,glob:=s.glob,marks:=⟨s.marks.nd,s.marks.all⟩,loc0:=s.loc0,free:=s.free,env:=fun j p hp=>?_,froz:=s.froz,ext:=s.ext,old:=s.old,os:=s.os,tape:=s.tape,output:=s.output,size:=s.size,kept:=s.kept,live:=s.live,sep:=s.sep };have hj:j<args.length:=(Y7.1 hp).1;refine⟨by show j<vs.size; rw [hv.1]; exact hj,?_⟩;have h1:=hv.2 j hj;have e2:args.getD j pvu=p:=by
   rw [Y0b];have hp':args[j]?=some p:=hp;rw [hp']; rfl
  rw [<- e2];exact h1
 obtain⟨F2,φ2,s2⟩:=St.frzSlot (k:=i) ⟨F,φ,s1⟩ hi hb;have hrep:X27 F2 XP vs (args.set i (.vec b.elems false)):=by
  refine⟨by rw [hv.1,Y18],fun j hj=>?_⟩;have hj':j<args.length:=by rwa [Y18] at hj
  have he:(Env.upd (fun k=>args[k]?) i (.vec b.elems false)) j=some ((args.set i (.vec b.elems false)).getD j pvu):=by
   by_cases hji:j=i
   . subst hji;rw [Env.upd_same,Y0b,Y3Q hj']
     rfl
   . rw [Env.upd_ne _ _ hji, Y0b, Y3e (Y2L hji)];show args[j]?=_;rw [Y0c hj']
     rfl
  exact Rep.pure (φ:=φ2) (φ':=XP) (s2.env j _ he).2 (ZM hpr j)
 have hup:h.upd k b=h:=by
  funext x;by_cases hx:x=k
  . subst hx; rw [X2.upd_same,hb]
  . rw [X2.upd_ne _ _ hx]
 refine (hs.2 F2 w vs ⟨s2.froz,s2.glob⟩ hrep).mono ?_;rintro en w' ⟨v',r,F3,rfl,rfl,hr,hbel,-,-,-⟩;obtain rfl:v'=v:=hr.val_inv;refine⟨v',.val v',b,F,rfl,⟨Yt,hpb,rfl,rfl⟩,.val _,?_⟩;rw [hup];exact s.called hbel (Holds.kept ⟨s.froz,s.glob⟩ hbel) (fun _ _ h=>h) fun _ _=>rfl
end
def X2K:Operand->List Nat
 | .tmp t => [t]
 | _ => []
def X5A:Option Operand->List Nat
 | some x=>X2K x
 | none => []
def AOp.tmps:AOp->List Nat
 | .mov x | .una _ x | .conv _ x | .b2s x | .s2b x | .box x | .load _ _ x | .nilck x | .faddr _ x | .field _ _ _ x | .len x | .lenS x | .extract x _ | .clear _ x | .isnil _ x | .isnilM _ x | .lenM x | .cap x=>X2K x
 | .pick c a b=>X2K c++(X2K a++X2K b)
 | .bin _ _ x y | .store _ x y | .iaddr _ x y | .iaddrA _ _ x y | .indexA _ _ _ x y | .indexS x y | .mslice _ _ x y | .append _ _ x y | .copy _ x y | .mx x y | .mn x y | .lookup _ _ _ _ x y | .appz _ _ x y=>X2K x++X2K y
 | .mapset _ x y z=>X2K x++(X2K y++X2K z)
 | .slcS x lo hi=>X2K x++(X5A lo++X5A hi)
 | .slcA _ x lo hi=>X2K x++(X5A lo++X5A hi)
 | .alloc _ | .lenA _ | .mkmap => []
 | .build _ ps=>ps.flatMap fun q=>X2K q.2.2
 | .bslice _ _ ps=>ps.flatMap fun q=>X2K q.2
 | .slc _ x lo hi top=>X2K x++(X5A lo++(X5A hi++X5A top))
 | .mkfn _ l=>l.flatMap X2K
 | .call f l=>X2K f++l.flatMap X2K
def X1H (l:List Nat) (e e':Env):Prop:=∀ t∈l,e' t=e t
theorem X1H.left {l m:List Nat} {e e':Env} (h:X1H (l++m) e e'):X1H l e e':=fun t ht=>h t (by simp [ht])
theorem X1H.right {l m:List Nat} {e e':Env} (h:X1H (l++m) e e'):X1H m e e':=fun t ht=>h t (by simp [ht])
theorem ZT {e e':Env} {x:Operand} (h:X1H (X2K x) e e'):ev e' x=ev e x:=by
 cases x with
 | tmp t=>exact h t (by simp [X2K])
 | _=>rfl
theorem Z3W {e e':Env} {l:List Operand} (h:X1H (l.flatMap X2K) e e'):evs e' l=evs e l:=by
 induction l with
 | nil=>rfl
 | cons x r ih =>
   rw [Y1T] at h;simp only [evs,ZT h.left,ih h.right]
theorem Z2b {e e':Env} {d:Int} {x:Option Operand} (h:X1H (X5A x) e e'):XM e' d x=XM e d x:=by
 cases x with
 | none=>rfl
 | some y=>simp only [XM,ZT (x:=y) h]
theorem Z6n {e e':Env}:∀ {ps:List (Nat×Nat×Operand)} {l:List PV},X1H (ps.flatMap fun q=>X2K q.2.2) e e'->X1b e' l ps=X1b e l ps
 | [],_,_=>rfl
 | (off, size, x) :: r, l, h => by
   rw [Y1T] at h;simp only [X1b,ZT (x:=x) h.left]
   split
   . split
     . exact Z6n h.right
     . rfl
   . rfl
theorem Z3X {e e':Env} {size:Nat}:∀ {ps:List (Nat×Operand)} {l:List (List PV)},X1H (ps.flatMap fun q=>X2K q.2) e e'->X1B e' size l ps=X1B e size l ps
 | [],_,_=>rfl
 | (i, x) :: r, l, h => by
   rw [Y1T] at h;simp only [X1B,ZT (x:=x) h.left]
   split
   . split
     . exact Z3X h.right
     . rfl
   . rfl
theorem ZbF {op:AOp} {e e':Env} (h:X1H op.tmps e e') (hp:X2) (id:Nat):X3 op e' hp id=X3 op e hp id:=by
 cases op<;>simp only [AOp.tmps] at h<;>simp only [X3]
 case slc x lo hi mx =>
  rw [ZT h.left];simp only [Z2b h.right.left,Z2b h.right.right.left];cases mx with
  | none=>rfl
  | some m=>simp only [ZT (x:=m) h.right.right.right]
 all_goals first
  | rw [ZT h]
  | rw [ZT h.left,ZT h.right.left,ZT h.right.right]
  | rw [ZT h.left,ZT h.right]
  | rw [Z6n h]
  | rw [Z3X h]
  | rw [Z3W h]
  | simp only [ZT h.left,Z2b h.right.left,Z2b h.right.right]
theorem ZbG {op:AOp} {e e':Env} (h:X1H op.tmps e e') (hp:X2) (id:Nat):XH op e' hp id=XH op e hp id:=by
 cases op<;>simp only [AOp.tmps] at h<;>simp only [XH]
 case slc x lo hi mx =>
  cases mx with
  | some m=>rfl
  | none =>
    simp only [ZT h.left,Z2b h.right.left,Z2b h.right.right.left]
 all_goals first|rw [ZT h] | rw [ZT h.left,ZT h.right] | rw [Z3X h]
inductive Eff where
 | none
 | new (id:Nat) (b:Bx)
 | set (k:Nat) (b:Bx)
 | move (k id:Nat) (b:Bx)
 | drop (k:Nat)
def Eff.app:Eff->X2->X2
 | .none,h=>h
 | .new id b,h=>h.upd id b
 | .set k b,h=>h.upd k b
 | .move k id b,h=>fun j=>bif Nat.beq j id then some b else bif Nat.beq j k then Option.none else h j
 | .drop k,h=>h.del k
def AOp.touch:AOp->Bool
 | .load _ _ _ | .store _ _ _ | .iaddr _ _ _ | .len _ | .slc _ _ _ _ _ | .append _ _ _ _ | .copy _ _ _ | .clear _ _ | .lookup _ _ _ _ _ _ | .mapset _ _ _ _ | .lenM _=>true
 | _=>false
structure Rsv where
 call:Option Nat
 grp:List (Nat×Nat)
 un:List Nat
 own:Option Nat:=none
def Rsv.no:Rsv:=⟨none,[],[],none⟩
def Rsv.to (i:Nat):Rsv:=⟨some i,[],[],none⟩
def HZ (z:Rsv) (n:Nat):Prop:=∀ i,z.call=some i->i<n \/ ∃ j,z.own=some j/\i=n+j
def X3W:List (Nat×Nat)->Nat->Option Nat
 | [],_=>none
 | (k,m) :: l,j=>bif Nat.beq j k then some m else X3W l j
def X6t (z:Rsv) (it k:Nat):Bool:=match X3W z.grp k with|some m=>m.testBit it|none=>true
def X47 (z:Rsv) (it k:Nat):Bool:=match X3W z.grp k with|some m=>Nat.beq (m &&& z.un.getD it 0) 0|none=>false
def X7d:Option Nat->Nat->Bool
 | some j,k=>Nat.beq j k
 | none,_=>false
def X1X (z:Rsv) (n it mask k:Nat):Bool := !X7d z.call k&&(Nat.blt k n||(mask.testBit (k-n)))&&X6t z it k
def X1P (z:Rsv) (n it mask:Nat):Option PV->Bool
 | some (.ptr k _ _)=>X1X z n it mask k
 | some (.own k)=>X1X z n it mask k
 | some (.view k _ _)=>X1X z n it mask k
 | some (.sl k _ _ _ _)=>X1X z n it mask k
 | some (.mp k)=>X1X z n it mask k
 | _=>true
def okW (z:Rsv) (n it iso k:Nat):Bool:=iso.testBit 0||(Nat.ble n k&&iso.testBit (k-n+1))||X47 z it k
def X5z (z:Rsv) (n it iso:Nat):Option PV->Bool
 | some (.ptr k _ _)=>okW z n it iso k
 | some (.own k)=>okW z n it iso k
 | some (.view k _ _)=>okW z n it iso k
 | some (.sl k _ _ _ _)=>okW z n it iso k
 | some (.mp k)=>okW z n it iso k
 | _=>iso.testBit 0
def X1j (z:Rsv) (op:AOp) (e:Env) (n it mask iso:Nat):Bool :=
 match op with
 | .load _ _ a=>X1P z n it mask (ev e a)
 | .store _ a _=>X1P z n it mask (ev e a)&&X5z z n it iso (ev e a)
 | .copy _ d x=>X1P z n it mask (ev e d)&&(X5z z n it iso (ev e d)&&X1P z n it mask (ev e x))
 | .iaddr _ x _=>X1P z n it mask (ev e x)
 | .len x=>X1P z n it mask (ev e x)
 | .slc _ x _ _ _=>match ev e x with|some (.own _)=>false|some (.view _ _ _)=>false|_=>true
 | .clear _ x=>X1P z n it mask (ev e x)&&X5z z n it iso (ev e x)
 | .lookup _ _ _ _ x _=>X1P z n it mask (ev e x)
 | .mapset _ x _ _=>X1P z n it mask (ev e x)&&X5z z n it iso (ev e x)
 | .lenM x=>X1P z n it mask (ev e x)
 | .append _ _ s _=>match ev e s with|some (.own k)=>X1X z n it mask k&&okW z n it iso k|_=>true
 | _=>true
def X2f (alt:Bool) (op:AOp) (e:Env) (h:X2) (id:Nat):Option (PV×X2):=match alt with|true=>XH op e h id|false=>X3 op e h id
def X3z (z:Rsv) (call:Bool) (n it mask iso:Nat) (id:Nat):Eff->Prop
 | .none=>True
 | .new i _=>i=id
 | .set k _=>(okW z n it iso k=true/\X1X z n it mask k=true) \/ (call=true/\z.call=some k)
 | .move k i _=>okW z n it iso k=true/\X1X z n it mask k=true/\i=id
 | .drop k=>(okW z n it iso k=true/\X1X z n it mask k=true) \/ (call=true/\z.call=some k)
theorem Zg5 {alt:Bool} {op:AOp} {e:Env} {h h':X2} {id n it mask iso:Nat} {p:PV} {z:Rsv} (hd:X2f alt op e h id=some (p,h')) (ha:X1j z op e n it mask iso=true) :
 ∃ f:Eff,h'=f.app h/\X3z z false n it mask iso id f/\(f=.none \/ op.touch=true \/ ∃ b,f=.new id b)/\∀ h2:X2,(op.touch=true->∀ k,X1X z n it mask k=true->h2 k=h k)->X2f alt op e h2 id=some (p,f.app h2):=by
 cases alt with
 | true =>
   simp only [X2f] at hd ⊢;cases op<;>simp only [XH] at hd<;>try (cases hd; done)
   case bslice z n' ps =>
    split at hd<;>cases hd
    rename_i l hl;exact⟨.new id ⟨z.length,l⟩,rfl,rfl,.inr (.inr ⟨_,rfl⟩),fun h2 _=>by simp only [XH,hl,Eff.app]⟩
   all_goals
    simp only [X1j] at ha;(repeat' split at hd) <;> first
      | (cases hd; exact⟨.none,rfl,Yt,.inl rfl,fun h2 _=>by simp_all [XH,Eff.app]<;>omega⟩)
      | simp_all
 | false =>
   simp only [X2f] at hd ⊢
   -- those that make an object,or look at one
   by_cases ht:op.touch=true
   . cases op <;> simp only [AOp.touch, Y2e] at ht
     case slc esz x lo hi mx =>
      have key:∀ h2,X3 (.slc esz x lo hi mx) e h2 id=(X3 (.slc esz x lo hi mx) e h id).map fun r=>(r.1,h2):=by
       intro h2;simp only [X3];simp only [X1j] at ha
       split
       . split
         . split
           . split<;>rfl
           . split
             . split<;>rfl
             . rfl
         . rfl
       . rename_i k hk;rw [hk] at ha;simp at ha
       . rfl
      have hh:h'=h:=by
       have h3:=key h;rw [hd] at h3;have:=Y13 h3;exact (Y3E this).2
      subst hh;exact⟨.none,rfl,Yt,.inl rfl,fun h2 _=>by rw [key h2,hd]; rfl⟩
     case append zv b x y =>
      simp only [X3] at hd
      split at hd
      case h_2=>simp at hd
      rename_i k m full hx hy
      split at hd
      case h_2=>simp at hd
      rename_i bx hb
      split at hd
      case isFalse=>simp at hd
      rename_i hc;cases hd;have ha':X1X z n it mask k=true/\okW z n it iso k=true:=by simpa [X1j,hx] using ha
      refine⟨.move k id ⟨bx.esz,bx.elems++m⟩,rfl,⟨ha'.2,ha'.1,rfl⟩,.inr (.inl rfl),fun h2 h2a=>?_⟩;have hk:h2 k=some bx:=by rw [h2a rfl k ha'.1]; exact hb
      simp only [X3,hx,hy,hk,Y6 hc,Eff.app]
     all_goals
      simp only [X3] at hd;(repeat' split at hd) <;> first
        | (cases hd; done)
        | (cases hd; exact⟨.none,rfl,Yt,.inl rfl,fun h2 h2a=>by simp_all [X3,Eff.app,X1j,X1P,AOp.touch]⟩)
        | (cases hd; exact⟨.set _ _,rfl,.inl ⟨by simp_all [X1j,X1P,X5z],by simp_all [X1j,X1P,X5z]⟩,.inr (.inl rfl),fun h2 h2a=>by simp_all [X3,Eff.app,X1j,X1P,X5z,AOp.touch]⟩)
   . have hmk : (∃ b, ∀ h2, X3 op e h2 id = some (p, h2.upd id b)) \/ ∀ h2, X3 op e h2 id = some (p, h2) := by
      cases op<;>simp only [AOp.touch,not_true_eq_false,Y2e,not_false_eq_true] at ht<;>simp only [X3] at hd ⊢
      case alloc z=>cases hd; exact .inl ⟨_,fun _=>rfl⟩
      case mkmap=>cases hd; exact .inl ⟨_,fun _=>rfl⟩
      case call=>cases hd
      all_goals (repeat' split at hd)<;>first
       | (cases hd; done)
       | (cases hd; exact .inl ⟨_,fun h2=>by simp_all; rfl⟩)
       | (cases hd; exact .inr fun h2=>by simp_all<;>omega)
     rcases hmk with⟨b,hmk⟩|hmk
     . have := hmk h;rw [hd] at this;cases this;exact⟨.new id b,rfl,rfl,.inr (.inr ⟨b,rfl⟩),fun h2 _=>hmk h2⟩
     . have := hmk h;rw [hd] at this;cases this;exact⟨.none,rfl,Yt,.inl rfl,fun h2 _=>hmk h2⟩
structure Xd where
 i:Nat
 o:Xs
 mask:Nat
 iso:Nat
 alt:Bool
def X4H:Option (Nat×Bool)->List Nat
 | some (s,_) => [s]
 | none => []
def Xd.look (x:Xd):List Nat:=x.o.op.tmps++X4H x.o.guard
def X1w (g:Option (Nat×Bool)) (e:Env):Option Bool :=
 match g with
 | none=>some true
 | some (s, b) => match e s with
   | some (.val (.bool c))=>some (c == b)
   | some (.val (.tuple _))=>some false
   | _=>none
def X6r (P:Program) (f:Operand) (args:List Operand) (e:Env) (R:PV->Prop):Prop:=∃ g caps as0,ev e f=some (.fn g caps)/\evs e args=some as0/\X59 P g (as0++caps) R
def X6C (P:Program) (f:Operand) (args:List Operand) (e:Env) (id:Nat) (b:Bx) (R:PV->Bx->Prop):Prop:=∃ g caps as0,ev e f=some (.fn g caps)/\evs e args=some as0/\X71 P g id b (as0++caps) R
def X6G (P:Program) (f:Operand) (args:List Operand) (e:Env) (rd:Option (Nat×Bx)) (mk:Nat->PV) (b:Bx):Prop:=∃ g caps as0,ev e f=some (.fn g caps)/\evs e args=some as0/\X7a P g rd (as0++caps) mk b
def X6J (P:Program) (f:Operand) (args:List Operand) (e:Env) (k:Nat) (b b':Bx):Prop:=∃ g caps as0 rest,ev e f=some (.fn g caps)/\evs e args=some as0/\as0++caps=.own k :: rest/\X1 b.elems/\X1 b'.elems/\X5 rest/\X55 P g b rest .own (· = b')
structure X7r (z:Rsv) (n:Nat) (x:Xd) (e:Env) (h:X2) (p:PV) (f:Eff):Prop where
 eff:X3z z false n x.i x.mask x.iso (n+x.i) f
 touch:f=.none \/ x.o.op.touch=true \/ ∃ b,f=.new (n+x.i) b
 run:∀ h2:X2,(x.o.op.touch=true->∀ k,X1X z n x.i x.mask k=true->h2 k=h k)->X2f x.alt x.o.op e h2 (n+x.i)=some (p,f.app h2)
def Xa:AOp->Bool
 | .call _ _=>true
 | _=>false
inductive X25 (P:Program) (z:Rsv) (n:Nat) (x:Xd) (e:Env) (h:X2):(PV->Eff->Prop)->Prop
 | skip (hw:X1w x.o.guard e=some false):X25 P z n x e h (fun q g=>q=pvu/\g=.none)
 | call (hw:X1w x.o.guard e=some true) (f:Operand) (args:List Operand) (ho:x.o.op=.call f args) (R:PV->Prop) (hc:X6r P f args e R):X25 P z n x e h (fun q g=>R q/\g=.none)
 | callP (hw:X1w x.o.guard e=some true) (f:Operand) (args:List Operand) (ho:x.o.op=.call f args) (id:Nat) (hz:z.call=some id) (b:Bx) (hb:h id=some b) (R:PV->Bx->Prop) (hc:X6C P f args e id b R):X25 P z n x e h (fun q g=>∃ b',g=.set id b'/\q.pure/\X1 b'.elems/\R q b')
 | callN (hw:X1w x.o.guard e=some true) (f:Operand) (args:List Operand) (ho:x.o.op=.call f args) (rd:Option (Nat×Bx)) (hrd:∀ k b0,rd=some (k,b0)->z.call=some k/\h k=some b0) (mk:Nat->PV) (b:Bx) (hc:X6G P f args e rd mk b):X25 P z n x e h (fun q g=>q=mk (n+x.i)/\g=.new (n+x.i) b)
 | callD (hw:X1w x.o.guard e=some true) (f:Operand) (args:List Operand) (ho:x.o.op=.call f args) (d:Nat) (hdst:x.o.dst=some d) (k:Nat) (hz:z.call=some k) (b b':Bx) (hb:h k=some b) (hc:X6J P f args e k b b'):X25 P z n x e h (fun q g=>q=.vec b'.elems false/\g=.drop k)
 | detF (hw : X1w x.o.guard e = some true) (ha : x.alt = true) (d : Nat) (hdst : x.o.dst = some d) (zz : List Value) (bytes : Nat) (sx y : Operand) (ho : x.o.op = .append zz bytes sx y) (k : Nat) (b : Bx) (m : List (List PV)) (fl : Bool) (hs : ev e sx = some (.own k)) (hy : ev e y = some (.vec m fl)) (hb : h k = some b)
    (hcond:(∀ c∈m,c.length=zz.length)/\b.esz=zz.length/\(b.elems.length+m.length)*bytes<=140737488355328) (hp:X1 (b.elems++m)) (hacc:X1X z n x.i x.mask k=true/\okW z n x.i x.iso k=true):X25 P z n x e h (fun q g=>q=.vec (b.elems++m) false/\g=.drop k)
 | det (hw:X1w x.o.guard e=some true) (hn:Xa x.o.op=false) (p:PV) (f:Eff) (hd:X7r z n x e h p f):X25 P z n x e h (fun q g=>q=p/\g=f)
def dK (P:Program) (z:Rsv) (n:Nat):List Xd->Env->X2->(Env->X2->Prop)->Prop
 | [],e,h,K=>K e h
 | x :: xs,e,h,K=>∃ T,X25 P z n x e h T/\∀ p f,T p f->dK P z n xs (XC e x.o.dst p) (f.app h) K
section
variable {P:Program} {z:Rsv} {n:Nat}
theorem ZbH {g:Option (Nat×Bool)} {e e':Env} (h:X1H (X4H g) e e'):X1w g e'=X1w g e:=by
 cases g with
 | none=>rfl
 | some s=>simp only [X1w,h s.1 (by simp [X4H])]
theorem X25.agree {x:Xd} {e e':Env} {h h':X2} {T:PV->Eff->Prop} (hs:X25 P z n x e h T) (he:X1H x.look e e') (hh:x.o.op.touch=true->∀ k,X1X z n x.i x.mask k=true->h' k=h k) (hz:Xa x.o.op=true->∀ k,z.call=some k->h' k=h k):X25 P z n x e' h' T:=by
 have hg:X1w x.o.guard e'=X1w x.o.guard e:=ZbH he.right;have tm:∀ {o},x.o.op=o->X1H o.tmps e e':=fun ho=>ho▸he.left;cases hs with
 | skip hw=>exact .skip (hg.trans hw)
 | call hw f args ho R hc =>
   obtain⟨g,caps,as0,h1,h2,h3⟩:=hc;have he':=tm ho;exact .call (hg.trans hw) f args ho R ⟨g,caps,as0,(ZT he'.left).trans h1,(Z3W he'.right).trans h2,h3⟩
 | callP hw f args ho id hzi b hb R hc =>
   obtain⟨g,caps,as0,h1,h2,h3⟩:=hc;have he':=tm ho;exact .callP (hg.trans hw) f args ho id hzi b ((hz (by rw [ho]; rfl) id hzi).trans hb) R ⟨g,caps,as0,(ZT he'.left).trans h1,(Z3W he'.right).trans h2,h3⟩
 | callN hw f args ho rd hrd mk b hc =>
   obtain⟨g,caps,as0,h1,h2,h3⟩:=hc;have he':=tm ho;exact .callN (hg.trans hw) f args ho rd (fun k b0 hk=>⟨(hrd k b0 hk).1,(hz (by rw [ho]; rfl) k (hrd k b0 hk).1).trans (hrd k b0 hk).2⟩) mk b ⟨g,caps,as0,(ZT he'.left).trans h1,(Z3W he'.right).trans h2,h3⟩
 | callD hw f args ho d hdst k hzk b b' hb hc =>
   obtain⟨g,caps,as0,rest,h1,h2,h3⟩:=hc;have he':=tm ho;exact .callD (hg.trans hw) f args ho d hdst k hzk b b' ((hz (by rw [ho]; rfl) k hzk).trans hb) ⟨g,caps,as0,rest,(ZT he'.left).trans h1,(Z3W he'.right).trans h2,h3⟩
 | detF hw ha d hdst zz bytes sx y ho k b m fl hs hy hb hcond hp hacc =>
   have he':=tm ho;exact .detF (hg.trans hw) ha d hdst zz bytes sx y ho k b m fl ((ZT he'.left).trans hs) ((ZT he'.right).trans hy) ((hh (by rw [ho]; rfl) k hacc.1).trans hb) hcond hp hacc
 | det hw hn p f hd =>
   refine .det (hg.trans hw) hn p f ⟨hd.eff,hd.touch,fun h2 h2a=>?_⟩;have hev:X2f x.alt x.o.op e' h2 (n+x.i)=X2f x.alt x.o.op e h2 (n+x.i):=by
    unfold X2f;cases x.alt
    . exact ZbF he.left h2 _
    . exact ZbG he.left h2 _
   rw [hev];exact hd.run h2 fun ht k hk=>by rw [h2a ht k hk,hh ht k hk]
structure X2m (z:Rsv) (x y:Xd):Prop where
 xy:∀ d,x.o.dst=some d->d ∉ y.look/\y.o.dst≠some d
 yx:∀ d,y.o.dst=some d->d ∉ x.look
 calls:Xa x.o.op=true->Xa y.o.op=false
 xiso:x.iso.testBit 0=true->y.o.op.touch=false
 yiso:y.iso.testBit 0=true->x.o.op.touch=false
 xlone:∀ j,x.iso.testBit (j+1)=true->y.o.op.touch=true->y.mask.testBit j=false
 ylone:∀ j,y.iso.testBit (j+1)=true->x.o.op.touch=true->x.mask.testBit j=false
 ne:x.i≠y.i
 mx:x.mask.testBit y.i=false
 my:y.mask.testBit x.i=false
 xun:z.grp = [] \/ (y.o.op.touch=true->(z.un.getD x.i 0).testBit y.i=true)
 yun:z.grp = [] \/ (x.o.op.touch=true->(z.un.getD y.i 0).testBit x.i=true)
 xown:z.own=some x.i->Xa x.o.op=true
 yown:z.own=some y.i->Xa y.o.op=true
theorem Z8d {e:Env} {d:Option Nat} {p:PV} {l:List Nat} (h:∀ k,d=some k->k ∉ l):X1H l e (XC e d p):=by
 intro t ht;cases d with
 | none=>rfl
 | some k=>exact Env.upd_ne _ _ fun hk=>h k rfl (hk▸ht)
theorem updO_agree' {e:Env} {d:Option Nat} {p:PV} {l:List Nat} (h:∀ k,d=some k->k ∉ l):X1H l (XC e d p) e:=fun t ht=>(Z8d (e:=e) (p:=p) h t ht).symm
theorem Zab {e:Env} {d d':Option Nat} {p q:PV} (h:∀ k,d=some k->d'≠some k):XC (XC e d p) d' q=XC (XC e d' q) d p:=by
 cases d with
 | none=>rfl
 | some k =>
   cases d' with
   | none=>rfl
   | some k' =>
     have hne:k'≠k:=fun hk=>h k rfl (by rw [hk]);funext j;simp only [XC];by_cases h1:j=k
     . subst h1; rw [Env.upd_ne _ _ (Y2L hne),Env.upd_same,Env.upd_same]
     . by_cases h2 : j = k'
       . subst h2; rw [Env.upd_same,Env.upd_ne _ _ h1,Env.upd_same]
       . rw [Env.upd_ne _ _ h2,Env.upd_ne _ _ h1,Env.upd_ne _ _ h1,Env.upd_ne _ _ h2]
theorem Z5j {it m i:Nat} (h:m.testBit i=false):X1X z n it m (n+i)=false:=by
 have h1:Nat.blt (n+i) n=false:=Yy.2 fun hb=>by have:=Y0 hb; omega
 simp [X1X,h,h1]
theorem Z5k {x y:Xd} (hi:X2m z x y) {k:Nat} (hw:okW z n x.i x.iso k=true) (ht:y.o.op.touch=true):X1X z n y.i y.mask k=false:=by
 unfold okW at hw;rw [YR,YR,Y0k] at hw;rcases hw with (hw|⟨h1,h2⟩)|hw
 . have:=hi.xiso hw; rw [this] at ht; cases ht
 . have h1 := Y0 h1;have h3:=hi.xlone (k-n) h2 ht;have e:k=n+(k-n):=by omega
   rw [e];exact Z5j h3
 . unfold X47 at hw;have hg:X6t z y.i k=false:=by
    unfold X6t;cases hgk:X3W z.grp k with
    | none=>rw [hgk] at hw; cases hw
    | some m =>
      rw [hgk] at hw;have h0:m &&& z.un.getD x.i 0=0:=YH hw;rcases hi.xun with h1|h1
      . rw [h1] at hgk; cases hgk
      . have h2 := congrArg (·.testBit y.i) h0;simp only [Y0z,Y1I,h1 ht,Y1m] at h2;exact h2
   unfold X1X;rw [hg,Y3y]
theorem Z3Y {it m i:Nat} (hz:z.call=some i):X1X z n it m i=false:=by simp [X1X,X7d,hz]
theorem Zdf {x y:Xd} (hi:X2m z x y) {e:Env} {h:X2} {p:PV} {f:Eff} (hd:X3z z (Xa x.o.op) n x.i x.mask x.iso (n+x.i) f) (ht:y.o.op.touch=true) (h':X2):∀ k,X1X z n y.i y.mask k=true->f.app h' k=h' k:=by
 intro k hk;cases f with
 | none=>rfl
 | new id b =>
   obtain rfl:id=n+x.i:=hd;have:k≠n+x.i:=fun e=>by subst e; rw [Z5j hi.my] at hk; cases hk
   exact X2.upd_ne _ _ this
 | set k' b =>
   rcases hd with hd|⟨_,hd⟩
   . refine X2.upd_ne _ _ fun e => ?_;subst e;rw [Z5k hi hd.1 ht] at hk;cases hk
   . refine X2.upd_ne _ _ fun e => ?_;subst e;rw [Z3Y hd] at hk;cases hk
 | move k' id b =>
   obtain⟨h1,h2,rfl⟩:=hd;have e1:Nat.beq k (n+x.i)=false:=Yy.2 fun hb=>by
    rw [YH hb,Z5j hi.my] at hk; cases hk
   have e2:Nat.beq k k'=false:=Yy.2 fun hb=>by
    rw [YH hb,Z5k hi h1 ht] at hk; cases hk
   simp only [Eff.app,e1,e2,cond_false]
 | drop k' =>
   refine X2.del_ne _ fun e=>?_;subst e;rcases hd with hd|⟨_,hd⟩
   . rw [Z5k hi hd.1 ht] at hk;cases hk
   . rw [Z3Y hd] at hk;cases hk
theorem Zdg {x:Xd} (hzn:HZ z n) (hxo:z.own=some x.i->Xa x.o.op=true) (hnc:Xa x.o.op=false) {f:Eff} (hd:X3z z (Xa x.o.op) n x.i x.mask x.iso (n+x.i) f) (h':X2):∀ k,z.call=some k->f.app h' k=h' k:=by
 intro k hk;have hk0:k≠n+x.i:=by
  rcases hzn k hk with h1|⟨j,h1,h2⟩
  . omega
  . intro he;have hj:j=x.i:=by omega
    rw [hj] at h1;rw [hxo h1] at hnc;cases hnc
 have hne:∀ j,X1X z n x.i x.mask j=true->k≠j:=fun j hj e=>by
  subst e;rw [Z3Y hk] at hj;cases hj
 cases f with
 | none=>rfl
 | new id b =>
   obtain rfl:id=n+x.i:=hd;exact X2.upd_ne _ _ hk0
 | set k' b =>
   rcases hd with hd|⟨hc,_⟩
   . exact X2.upd_ne _ _ (hne k' hd.2)
   . rw [hnc] at hc; cases hc
 | move k' id b =>
   obtain⟨_,h2,rfl⟩:=hd;have e1:Nat.beq k (n+x.i)=false:=Yy.2 fun hb=>hk0 (YH hb);have e2:Nat.beq k k'=false:=Yy.2 fun hb=>hne k' h2 (YH hb);simp only [Eff.app,e1,e2,cond_false]
 | drop k' =>
   rcases hd with hd|⟨hc,_⟩
   . exact X2.del_ne _ (hne k' hd.2)
   . rw [hnc] at hc; cases hc
theorem X2m.symm {x y:Xd} (h:X2m z x y):X2m z y x:=by
 refine⟨fun d hd=>⟨h.yx d hd,fun hx=>(h.xy d hx).2 hd⟩,fun d hd=>(h.xy d hd).1,fun hy=>?_,h.yiso,h.xiso,h.ylone,h.xlone,h.ne.symm,h.my,h.mx,h.yun,h.xun,h.yown,h.xown⟩;cases hx:Xa x.o.op with
 | false=>rfl
 | true=>have:=h.calls hx; rw [this] at hy; cases hy
def Eff.put:Eff->Nat->Option (Option Bx)
 | .none,_=>Option.none
 | .new id b,j=>bif Nat.beq j id then some (some b) else Option.none
 | .set k b,j=>bif Nat.beq j k then some (some b) else Option.none
 | .move k id b,j=>bif Nat.beq j id then some (some b) else bif Nat.beq j k then some Option.none else Option.none
 | .drop k,j=>bif Nat.beq j k then some Option.none else Option.none
theorem Eff.app_put (f:Eff) (h:X2) (j:Nat):f.app h j=match f.put j with|some v=>v|Option.none=>h j:=by
 cases f with
 | none=>rfl
 | new id b=>simp only [Eff.app,Eff.put,X2.upd]; cases Nat.beq j id<;>rfl
 | set k b=>simp only [Eff.app,Eff.put,X2.upd]; cases Nat.beq j k<;>rfl
 | move k id b =>
   simp only [Eff.app,Eff.put];cases Nat.beq j id
   . cases Nat.beq j k<;>rfl
   . rfl
 | drop k=>simp only [Eff.app,Eff.put,X2.del]; cases Nat.beq j k<;>rfl
theorem Zio {f g:Eff} (hd:∀ j,f.put j=none \/ g.put j=none) (h:X2):g.app (f.app h)=f.app (g.app h):=by
 funext j;rw [Eff.app_put g,Eff.app_put f,Eff.app_put f,Eff.app_put g];rcases hd j with e|e<;>rw [e]
def X6Z (z:Rsv) (n:Nat) (x:Xd) (f:Eff):Prop:=f=.none \/ x.o.op.touch=true \/ (∃ b,f=.new (n+x.i) b) \/ (Xa x.o.op=true/\∃ i b,z.call=some i/\f=.set i b) \/ (Xa x.o.op=true/\∃ i,z.call=some i/\f=.drop i)
theorem Zg6 {x:Xd} {f:Eff} (hf:X3z z (Xa x.o.op) n x.i x.mask x.iso (n+x.i) f) (hf2:X6Z z n x f) (j:Nat) (hj:f.put j≠none):j=n+x.i \/ (okW z n x.i x.iso j=true/\X1X z n x.i x.mask j=true/\x.o.op.touch=true) \/ (Xa x.o.op=true/\z.call=some j):=by
 cases f with
 | none=>exact absurd rfl hj
 | new id b =>
   obtain rfl:id=n+x.i:=hf;simp only [Eff.put] at hj;cases hb:Nat.beq j (n+x.i) with
   | true=>exact .inl (YH hb)
   | false=>rw [hb] at hj; exact absurd rfl hj
 | set k b =>
   have hjk:j=k:=by
    simp only [Eff.put] at hj;cases hb:Nat.beq j k with
    | true=>exact YH hb
    | false=>rw [hb] at hj; exact absurd rfl hj
   subst hjk;rcases hf with hf|hf
   . rcases hf2 with h | h | ⟨_, h⟩ | ⟨hc, i, _, hz, h⟩ | ⟨_, _, _, h⟩
     . cases h
     . exact .inr (.inl ⟨hf.1,hf.2,h⟩)
     . cases h
     . cases h; exact .inr (.inr ⟨hc,hz⟩)
     . cases h
   . exact .inr (.inr hf)
 | move k id b =>
   obtain⟨h1,h2,rfl⟩:=hf;have ht:x.o.op.touch=true:=by
    rcases hf2 with h|h|⟨_,h⟩|⟨_,_,_,_,h⟩|⟨_,_,_,h⟩
    . cases h
    . exact h
    . cases h
    . cases h
    . cases h
   simp only [Eff.put] at hj;cases hb:Nat.beq j (n+x.i) with
   | true=>exact .inl (YH hb)
   | false =>
     rw [hb] at hj;cases hb2:Nat.beq j k with
     | true=>obtain rfl:=YH hb2; exact .inr (.inl ⟨h1,h2,ht⟩)
     | false=>rw [hb2] at hj; exact absurd rfl hj
 | drop k =>
   have hjk:j=k:=by
    simp only [Eff.put] at hj;cases hb:Nat.beq j k with
    | true=>exact YH hb
    | false=>rw [hb] at hj; exact absurd rfl hj
   subst hjk;rcases hf with hf|hf
   . rcases hf2 with h | h | ⟨_, h⟩ | ⟨_, _, _, _, h⟩ | ⟨hc, i, hz, h⟩
     . cases h
     . exact .inr (.inl ⟨hf.1,hf.2,h⟩)
     . cases h
     . cases h
     . cases h; exact .inr (.inr ⟨hc,hz⟩)
   . exact .inr (.inr hf)
theorem Zdh {x y:Xd} (hzn:HZ z n) (hi:X2m z x y) {f g:Eff} (hf:X3z z (Xa x.o.op) n x.i x.mask x.iso (n+x.i) f) (hf2:X6Z z n x f) (hg:X3z z (Xa y.o.op) n y.i y.mask y.iso (n+y.i) g) (hg2:X6Z z n y g) (h:X2):g.app (f.app h)=f.app (g.app h):=by
 refine Zio (fun j=>?_) h;by_cases h1:f.put j=none
 . exact .inl h1
 . by_cases h2 : g.put j = none
   . exact .inr h2
   . exfalso;have hne:=hi.ne;rcases Zg6 hf hf2 j h1 with k1|⟨k1,k2,k3⟩|⟨k1,k2⟩<;>rcases Zg6 hg hg2 j h2 with l1|⟨l1,l2,l3⟩|⟨l1,l2⟩
     . omega
     . rw [k1,Z5j hi.my] at l2; cases l2
     . rcases hzn j l2 with h3 | ⟨q, h3, h4⟩
       . omega
       . have hq : q = x.i := by omega
         rw [hq] at h3;have:=hi.calls (hi.xown h3);rw [this] at l1; cases l1
     . rw [l1,Z5j hi.mx] at k2; cases k2
     . rw [Z5k hi k1 l3] at l2; cases l2
     . rw [Z3Y l2] at k2; cases k2
     . rcases hzn j k2 with h3 | ⟨q, h3, h4⟩
       . omega
       . have hq : q = y.i := by omega
         rw [hq] at h3;have h5:=hi.yown h3;have:=hi.calls k1;rw [this] at h5; cases h5
     . rw [Z3Y k2] at l2; cases l2
     . have:=hi.calls k1; rw [this] at l1; cases l1
theorem X25.props {x:Xd} {e:Env} {h:X2} {T:PV->Eff->Prop} (hs:X25 P z n x e h T) {p:PV} {f:Eff} (ht:T p f):X3z z (Xa x.o.op) n x.i x.mask x.iso (n+x.i) f/\X6Z z n x f:=by
 cases hs with
 | skip hw=>obtain⟨rfl,rfl⟩:=ht; exact⟨Yt,.inl rfl⟩
 | call hw f' args ho R hc=>obtain⟨_,rfl⟩:=ht; exact⟨Yt,.inl rfl⟩
 | callP hw f' args ho id hz b hb R hc =>
   obtain⟨b',rfl,_⟩:=ht;exact⟨.inr ⟨by rw [ho]; rfl,hz⟩,.inr (.inr (.inr (.inl ⟨by rw [ho]; rfl,id,b',hz,rfl⟩)))⟩
 | callN hw f' args ho rd hrd mk b hc =>
   obtain⟨rfl,rfl⟩:=ht;exact⟨rfl,.inr (.inr (.inl ⟨b,rfl⟩))⟩
 | callD hw f' args ho d hdst k hz b b' hb hc =>
   obtain⟨rfl,rfl⟩:=ht;exact⟨.inr ⟨by rw [ho]; rfl,hz⟩,.inr (.inr (.inr (.inr ⟨by rw [ho]; rfl,k,hz,rfl⟩)))⟩
 | detF hw ha d hdst zz bytes sx y ho k b m fl hs hy hb hcond hp hacc =>
   obtain⟨rfl,rfl⟩:=ht;exact⟨.inl ⟨hacc.2,hacc.1⟩,.inr (.inl (by rw [ho]; rfl))⟩
 | det hw hn p' f' hd =>
   obtain⟨rfl,rfl⟩:=ht;refine⟨by rw [hn]; exact hd.eff,?_⟩;rcases hd.touch with h|h|h
   . exact .inl h
   . exact .inr (.inl h)
   . exact .inr (.inr (.inl h))
theorem X25.over {x y:Xd} (hzn:HZ z n) (hi:X2m z x y) {e:Env} {h:X2} {T Ty:PV->Eff->Prop} (hx:X25 P z n x e h T) {p:PV} {f:Eff} (ht:T p f):X25 P z n y (XC e x.o.dst p) (f.app h) Ty↔X25 P z n y e h Ty:=by
 have hp:=(hx.props ht).1;constructor
 . intro hy;exact hy.agree (updO_agree' fun k hk=>(hi.xy k hk).1) (fun htc k hk=>(Zdf hi (e:=e) (h:=h) (p:=p) hp htc h k hk).symm) fun hc k hk=>(Zdg hzn hi.xown (hi.symm.calls hc) hp h k hk).symm
 . intro hy;exact hy.agree (Z8d fun k hk=>(hi.xy k hk).1) (fun htc k hk=>Zdf hi (e:=e) (h:=h) (p:=p) hp htc h k hk) fun hc k hk=>Zdg hzn hi.xown (hi.symm.calls hc) hp h k hk
theorem ZbI (hzn:HZ z n) {y:Xd} {post:List Xd} {K:Env->X2->Prop}:∀ {pre:List Xd},(∀ x∈pre,X2m z x y)->∀ {e:Env} {h:X2} {q:PV} {g:Eff},X25 P z n y e h (fun q' g'=>q'=q/\g'=g)->Xa y.o.op=false->dK P z n (pre++y :: post) e h K->dK P z n (pre++post) (XC e y.o.dst q) (g.app h) K:=by
 intro pre
 induction pre with
 | nil =>
   intro _ e h q g hy hnc hk;obtain⟨T,hT,hK⟩:=hk;have hyp:=hy.props (p:=q) (f:=g) ⟨rfl,rfl⟩
   -- the outcome is one
   have huniq:∃ g',T q g'/\g'.app h=g.app h:=by
    have hgen:∀ T':PV->Eff->Prop,X25 P z n y e h T'->T' q g->∃ g',T q g'/\g'.app h=g.app h:=by
     intro T' hT' htq;cases hT' with
     | skip hw =>
       obtain⟨rfl,rfl⟩:=htq;cases hT with
       | skip hw'=>exact⟨_,⟨rfl,rfl⟩,rfl⟩
       | call hw'=>rw [hw] at hw'; cases hw'
       | callP hw'=>rw [hw] at hw'; cases hw'
       | callN hw'=>rw [hw] at hw'; cases hw'
       | callD hw'=>rw [hw] at hw'; cases hw'
       | detF hw'=>rw [hw] at hw'; cases hw'
       | det hw'=>rw [hw] at hw'; cases hw'
     | call hw f args ho R hc=>rw [ho] at hnc; simp [Xa] at hnc
     | callP hw f args ho=>rw [ho] at hnc; simp [Xa] at hnc
     | callN hw f args ho=>rw [ho] at hnc; simp [Xa] at hnc
     | callD hw f args ho=>rw [ho] at hnc; simp [Xa] at hnc
     | det hw hn p' f' hd =>
       obtain⟨rfl,rfl⟩:=htq;cases hT with
       | skip hw'=>rw [hw] at hw'; cases hw'
       | call hw' f args ho R hc=>rw [ho] at hnc; simp [Xa] at hnc
       | callP hw' f args ho=>rw [ho] at hnc; simp [Xa] at hnc
       | callN hw' f args ho=>rw [ho] at hnc; simp [Xa] at hnc
       | callD hw' f args ho=>rw [ho] at hnc; simp [Xa] at hnc
       | detF hw' ha d hdst zz bytes sx y' ho k b m fl hs hy' hb =>
         have h1:=hd.run h fun _ _ _=>rfl;rw [ha,ho] at h1;simp [X2f,XH,hs] at h1
       | det hw' hn' p2 f2 hd2 =>
         have h1:=hd.run h fun _ _ _=>rfl;have h2:=hd2.run h fun _ _ _=>rfl;rw [h1] at h2;have h3:=Y3E (Y13 h2);exact⟨f2,⟨h3.1,rfl⟩,h3.2.symm⟩
     | detF hw ha d hdst zz bytes sx y' ho k b m fl hs hy' hb =>
       obtain⟨rfl,rfl⟩:=htq;cases hT with
       | skip hw'=>rw [hw] at hw'; cases hw'
       | call hw' f args ho'=>rw [ho'] at hnc; simp [Xa] at hnc
       | callP hw' f args ho'=>rw [ho'] at hnc; simp [Xa] at hnc
       | callN hw' f args ho'=>rw [ho'] at hnc; simp [Xa] at hnc
       | callD hw' f args ho'=>rw [ho'] at hnc; simp [Xa] at hnc
       | det hw' hn' p2 f2 hd2 =>
         have h1:=hd2.run h fun _ _ _=>rfl;rw [ha,ho] at h1;simp [X2f,XH,hs] at h1
       | detF hw' ha' d' hdst' zz' bytes' sx' y2 ho' k' b' m' fl' hs' hy2 hb' =>
         rw [ho] at ho';cases ho';rw [hs] at hs';cases hs';rw [hy'] at hy2;cases hy2;rw [hb] at hb';cases hb';exact⟨_,⟨rfl,rfl⟩,rfl⟩
    exact hgen _ hy ⟨rfl,rfl⟩
   obtain⟨g',hq,hg⟩:=huniq;have:=hK q g' hq
   rwa [hg] at this
 | cons x pre ih =>
   intro hall e h q g hy hnc hk;have hi:=hall x (by simp);obtain⟨T,hT,hK⟩:=hk;have hyp:=hy.props (p:=q) (f:=g) ⟨rfl,rfl⟩;refine⟨T,?_,fun p f hpf=>?_⟩
   . exact (X25.over hzn hi.symm hy ⟨rfl,rfl⟩).2 hT
   . have hxp := hT.props hpf;have:=ih (fun z hz=>hall z (by simp [hz])) ((X25.over hzn hi hT hpf).2 hy) hnc (hK p f hpf);rw [Zab (fun k hk=>(hi.xy k hk).2),Zdh hzn hi hxp.1 hxp.2 hyp.1 hyp.2] at this;exact this
theorem Zac (hzn:HZ z n) {y:Xd} {post:List Xd} {K:Env->X2->Prop}:∀ {pre:List Xd},(∀ x∈pre,X2m z x y)->∀ {e:Env} {h:X2},Xa y.o.op=true->dK P z n (pre++y :: post) e h K->∃ Ty,X25 P z n y e h Ty/\∀ q g,Ty q g->dK P z n (pre++post) (XC e y.o.dst q) (g.app h) K:=by
 intro pre
 induction pre with
 | nil=>intro _ e h _ hk; exact hk
 | cons x pre ih =>
   intro hall e h hyc hk;have hi:=hall x (by simp);obtain⟨T,hT,hK⟩:=hk;have hone:∃ p f,T=fun q g=>q=p/\g=f:=by
    cases hT with
    | skip hw=>exact⟨_,_,rfl⟩
    | call hw f args ho R hc=>have:=hi.calls (by rw [ho]; rfl); rw [this] at hyc; cases hyc
    | callN hw f args ho=>have:=hi.calls (by rw [ho]; rfl); rw [this] at hyc; cases hyc
    | callD hw f args ho=>have:=hi.calls (by rw [ho]; rfl); rw [this] at hyc; cases hyc
    | callP hw f args ho=>have:=hi.calls (by rw [ho]; rfl); rw [this] at hyc; cases hyc
    | detF=>exact⟨_,_,rfl⟩
    | det hw hn p f hd=>exact⟨_,_,rfl⟩
   obtain⟨p,f,rfl⟩:=hone;have hxp:=hT.props (p:=p) (f:=f) ⟨rfl,rfl⟩;obtain⟨Ty,hy,hyK⟩:=ih (fun z hz=>hall z (by simp [hz])) hyc (hK p f ⟨rfl,rfl⟩);have hy':=(X25.over hzn hi hT ⟨rfl,rfl⟩).1 hy;refine⟨Ty,hy',fun q g hqg=>⟨_,(X25.over hzn hi.symm hy' hqg).2 hT,?_⟩⟩;rintro p' f' ⟨rfl,rfl⟩;have hyp:=hy'.props hqg;have:=hyK q g hqg;rw [Zab (fun k hk=>(hi.xy k hk).2),Zdh hzn hi hxp.1 hxp.2 hyp.1 hyp.2] at this;exact this
end
def X3l (L:List Nat) (s:Nat) (ed:Edge):Nat:=match Region.binds .any ed with|true=>s ||| (2 ^ ed.on ||| L.getD ed.on 0)|false=>s
def X5o (L:List Nat) (o:Oper):Nat:=o.after.toList.foldl (X3l L) 0
def X3e (ops:Array Oper) (L:List Nat):Bool :=
 ops.toList.zipIdx.all fun q=>L.getD q.2 0 == X5o L q.1&&q.1.after.toList.all (fun ed => !Region.binds .any ed||Nat.blt ed.on q.2)&&Nat.blt (L.getD q.2 0) (2 ^ q.2)
def X8M (al:List Xs) (L:List Nat) (i:Nat):Bool :=
 al.zipIdx.all fun q => !q.1.op.touch||q.2 == i||(match Nat.blt q.2 i with|true=>(L.getD i 0).testBit q.2|false=>(L.getD q.2 0).testBit i)
def X7k (al:List Xs) (L:List Nat) (i:Nat):Nat :=
 al.zipIdx.foldl (fun s q=>match !q.1.op.touch||q.2 == i||(match Nat.blt q.2 i with|true=>(L.getD i 0).testBit q.2|false=>(L.getD q.2 0).testBit i) with|true=>s|false=>s ||| L.getD q.2 0) 0
def X6K:AOp->Bool
 | .store _ _ _ | .append _ _ _ _ | .copy _ _ _ | .clear _ _ | .mapset _ _ _ _=>true
 | _=>false
def X89 (al:List Xs) (L:List Nat) (i:Nat):Nat:=match X8M al L i with
 | true=>1
 | false => match X6K (al.getD i ⟨none, .lenA 0, none⟩).op with
   | true=>2*(L.getD i 0 ^^^ (L.getD i 0 &&& X7k al L i))
   | false=>0
def X1s (al:List Xs) (L:List Nat):List Xd:=al.zipIdx.map fun q=>⟨q.2,q.1,L.getD q.2 0,X89 al L q.2,false⟩
def X5i (x y:Xd):Bool := !y.o.op.touch||Nat.beq (x.iso / 2 &&& y.mask) 0
def X6W (d:Option Nat) (l:List Nat):Bool:=match d with|some k => !l.contains k|none=>true
def X4S (d d':Option Nat):Bool:=match d,d' with|some k,some k' => !(k == k')|_,_=>true
def X4F (x y:Xd):Bool :=
 X6W x.o.dst y.look&&X4S x.o.dst y.o.dst&&X6W y.o.dst x.look&&(!Xa x.o.op || !Xa y.o.op)&&(!x.iso.testBit 0 || !y.o.op.touch)&&(!y.iso.testBit 0 || !x.o.op.touch)&&X5i x y&&X5i y x && !x.mask.testBit y.i
def X3R (l:List Xd):Bool:=l.all fun x=>l.all fun y => !Nat.blt x.i y.i||y.mask.testBit x.i||X4F x y
theorem Zad {d:Option Nat} {l:List Nat} (h:X6W d l=true):∀ k,d=some k->k ∉ l:=by
 intro k hk;subst hk;simpa [X6W] using h
theorem ZbJ {d d':Option Nat} (h:X4S d d'=true):∀ k,d=some k->d'≠some k:=by
 intro k hk hk';subst hk;subst hk';simp [X4S] at h
theorem Z8e {x y:Xd} (h:X5i x y=true):∀ j,x.iso.testBit (j+1)=true->y.o.op.touch=true->y.mask.testBit j=false:=by
 intro j hj ht;unfold X5i at h;rw [ht] at h;have h0:x.iso / 2 &&& y.mask=0:=YH (by simpa using h);have:=congrArg (·.testBit j) h0;simp only [Y0z,Y1I] at this;rw [Y2w] at hj;rw [hj,Y1g] at this;exact this
def X87 (z:Rsv) (l:List Xd):Bool:=match z.own with|none=>true|some j=>l.all fun x => !Nat.beq x.i j||Xa x.o.op
def X4Z (z:Rsv) (l:List Xd):Bool:=(z.grp.isEmpty||l.all fun x=>l.all fun y=>Nat.beq x.i y.i || !y.o.op.touch||y.mask.testBit x.i||x.mask.testBit y.i||(z.un.getD x.i 0).testBit y.i)&&X87 z l
theorem Zae {z:Rsv} {l:List Xd} (h:X4Z z l=true) {x y:Xd} (hx:x∈l) (hy:y∈l) (hne:x.i≠y.i) (h1:y.mask.testBit x.i=false) (h2:x.mask.testBit y.i=false):z.grp = [] \/ (y.o.op.touch=true->(z.un.getD x.i 0).testBit y.i=true):=by
 unfold X4Z at h;rw [Y0k] at h;replace h:=h.1;rw [YR] at h;rcases h with h|h
 . exact .inl (List.isEmpty_iff.1 h)
 . refine .inr fun ht => ?_;have h3:=YK.1 (YK.1 h x hx) y hy;have hb:Nat.beq x.i y.i=false:=Yy.2 fun hb=>hne (YH hb);simpa only [hb,ht,h1,h2,Y4f,Y1O] using h3
theorem Zaf {z:Rsv} {l:List Xd} (h:X4Z z l=true) {x:Xd} (hx:x∈l):z.own=some x.i->Xa x.o.op=true:=by
 intro ho;unfold X4Z at h;rw [Y0k] at h;have h2:=h.2;unfold X87 at h2;rw [ho] at h2;have h3:=YK.1 h2 x hx;simpa using h3
theorem ZbK {z:Rsv} {x y:Xd} (h:X4F x y=true) (hlt:x.i<y.i) (hm:y.mask.testBit x.i=false) {l:List Xd} (hu:X4Z z l=true) (hx:x∈l) (hy:y∈l):X2m z x y:=by
 simp only [X4F,Y0k] at h;obtain⟨⟨⟨⟨⟨⟨⟨⟨h1,h2⟩,h3⟩,h4⟩,h5⟩,h6⟩,h8⟩,h9⟩,h7⟩:=h;refine⟨fun d hd=>⟨Zad h1 d hd,ZbJ h2 d hd⟩,Zad h3,fun hc=>?_,fun hx=>?_,fun hy=>?_,Z8e h8,Z8e h9,by omega,by simpa using h7,hm,Zae hu hx hy (by omega) hm (by simpa using h7),Zae hu hy hx (by omega) (by simpa using h7) hm,Zaf hu hx,Zaf hu hy⟩
 . simpa [hc] using h4
 . simpa [hx] using h5
 . simpa [hy] using h6
theorem Zdi (L:List Nat) (k:Nat):∀ (l:List Edge) (s:Nat),(l.foldl (X3l L) s).testBit k=true->s.testBit k=true \/ ∃ ed∈l,Region.binds .any ed=true/\(ed.on=k \/ (L.getD ed.on 0).testBit k=true)
 | [],s,h=>.inl h
 | ed :: l, s, h => by
   rw [Y1b] at h;rcases Zdi L k l _ h with h|⟨ed',he,h⟩
   . unfold X3l at h
     split at h
     . rename_i hb;rw [Y00,Y00,YI] at h;simp only [YR,Y0n] at h;rcases h with h|h|h
       . exact .inl h
       . exact .inr ⟨ed,by simp,hb,.inl h⟩
       . exact .inr ⟨ed,by simp,hb,.inr h⟩
     . exact .inl h
   . exact .inr ⟨ed',by simp [he],h⟩
structure MOk (ops:Array Oper) (L:List Nat):Prop where
 mem:∀ j o,ops[j]?=some o->∀ k,(L.getD j 0).testBit k=true->∃ ed∈o.after,Region.binds .any ed=true/\(ed.on=k \/ (L.getD ed.on 0).testBit k=true)
 lt:∀ j o,ops[j]?=some o->∀ ed∈o.after,Region.binds .any ed=true->ed.on<j
theorem Zag {ops:Array Oper} {L:List Nat} (h:X3e ops L=true):MOk ops L:=by
 have hall:∀ j o,ops[j]?=some o->(L.getD j 0=X5o L o/\∀ ed∈o.after.toList,Region.binds .any ed=true->ed.on<j):=by
  intro j o hj;have hm:(o,j)∈ops.toList.zipIdx:=by
   rw [Y21];simpa using hj
  have:=YK.1 h _ hm;simp only [Y0k,Y1S,YK,YR,Y10] at this;refine⟨this.1.1,fun ed hed hb=>?_⟩;rcases this.1.2 ed hed with h' | h'
  . rw [hb] at h'; cases h'
  . exact Y0 h'
 refine⟨fun j o hj k hk=>?_,fun j o hj ed hed hb=>(hall j o hj).2 ed (by simpa using hed) hb⟩;rw [(hall j o hj).1] at hk;rcases Zdi L k _ _ hk with h' | ⟨ed,he,h'⟩
 . simp at h'
 . exact⟨ed,by simpa using he,h'⟩
section
variable {z:Rsv} {P:Program} {C:Ctx} {Fr:Nat->Prop} {e:Env} {h:X2} {F:XL} {φ:XO} {a:Act} {w:World} {FN:Fence} {m:Nat}
theorem ZeA {g:Option (Nat×Bool)} {c:Bool} (h:X1w g e=some c):X3d g e (c=true) (c=false):=by
 unfold X1w at h;unfold X3d
 split at h
 . cases h; rfl
 . split at h
   . rename_i s b c' hc;cases h
     try simp only [hc]
     split
     . rename_i hcb; simp [hcb]
     . rename_i hcb; simpa using hcb
   . rename_i s b v hc;cases h
     try simp only [hc]
   . cases h
theorem ZeB {n:Nat} {x:Xd} {T:PV->Eff->Prop} (hs:X25 P z n x e h T) (hw:X1w x.o.guard e=some true):(∃ f args d k b b',x.o.op=.call f args/\x.o.dst=some d/\h k=some b/\X6J P f args e k b b'/\T=fun q g=>q=.vec b'.elems false/\g=.drop k) \/ (∃ f args id b R,x.o.op=.call f args/\h id=some b/\X6C P f args e id b R/\T=fun q g=>∃ b',g=.set id b'/\q.pure/\X1 b'.elems/\R q b') \/ (∃ f args rd mk b,x.o.op=.call f args/\(∀ k b0,rd=some (k,b0)->h k=some b0)/\X6G P f args e rd mk b/\T=fun q g=>q=mk (n+x.i)/\g=.new (n+x.i) b) \/ (∃ d zz bytes sx y k b m fl,x.o.dst=some d/\x.o.op=.append zz bytes sx y/\ev e sx=some (.own k)/\ev e y=some (.vec m fl)/\h k=some b/\((∀ c∈m,c.length=zz.length)/\b.esz=zz.length/\(b.elems.length+m.length)*bytes<=140737488355328)/\X1 (b.elems++m)/\T=fun q g=>q=.vec (b.elems++m) false/\g=.drop k) \/ opK P x.o.op (n+x.i) e h fun p h'=>∃ f,T p f/\h'=f.app h:=by
 cases hs with
 | skip hw'=>rw [hw] at hw'; cases hw'
 | call _ f args ho R hc =>
   obtain⟨g,caps,as0,h1,h2,h5,h4⟩:=hc;rw [ho];exact .inr (.inr (.inr (.inr ⟨g,caps,as0,R,h1,h2,⟨h5,h4⟩,fun r hr=>⟨.none,⟨hr,rfl⟩,rfl⟩⟩)))
 | callP _ f args ho id hz b hb R hc=>exact .inr (.inl ⟨f,args,id,b,R,ho,hb,hc,rfl⟩)
 | callD _ f args ho d hdst k hz b b' hb hc=>exact .inl ⟨f,args,d,k,b,b',ho,hdst,hb,hc,rfl⟩
 | callN _ f args ho rd hrd mk b hc=>exact .inr (.inr (.inl ⟨f,args,rd,mk,b,ho,fun k b0 hk=>(hrd k b0 hk).2,hc,rfl⟩))
 | detF _ ha d hdst zz bytes sx y ho k b m fl hs hy hb hcond hp hacc=>exact .inr (.inr (.inr (.inl ⟨d,zz,bytes,sx,y,k,b,m,fl,hdst,ho,hs,hy,hb,hcond,hp,rfl⟩)))
 | det _ hn p f hd =>
   have hrun:=hd.run h fun _ _ _=>rfl;have hdf:X3 x.o.op e h (n+x.i)=some (p,f.app h) \/ XH x.o.op e h (n+x.i)=some (p,f.app h):=by
    unfold X2f at hrun
    split at hrun
    . exact .inr hrun
    . exact .inl hrun
   have:∃ p' h',(X3 x.o.op e h (n+x.i)=some (p',h') \/ XH x.o.op e h (n+x.i)=some (p',h'))/\∃ f',(fun q g=>q=p/\g=f) p' f'/\h'=f'.app h:=⟨p,f.app h,hdf,f,⟨rfl,rfl⟩,rfl⟩
   generalize x.o.op=op at hn this;refine .inr (.inr (.inr (.inr ?_)));cases op<;>first|exact this|(simp [Xa] at hn; done)|skip
   obtain⟨p',h',hd',hk'⟩:=this;rcases hd' with hd' | hd'
   . exact .inl ⟨p',h',hd',hk'⟩
   . simp [XH] at hd'
theorem Zg7 (hok:XD FN m) {ops:Array Oper} {n:Nat} {x:Xd} {o:Oper} (ho:ops[x.i]?=some o) (hc:X2z P C.nt ops o=some x.o) {T:PV->Eff->Prop} (hs:X25 P z n x e h T) (s:St' C Fr e h F φ a w) (hid:Fr (n+x.i))
 {next:Act->World->Prop} {Q:Exit->Act->World->Prop} (hnext:∀ p f a' w',T p f->St C (fun i=>Fr i/\i≠n+x.i) (XC e x.o.dst p) (f.app h) a' w'->next a' w'):wpOpIn FN m P ops Q x.i next a w:=by
 unfold X2z at hc
 split at hc
 case h_2=>simp at hc
 rename_i op g hop hg
 split at hc
 case isFalse=>simp at hc
 rename_i hdst;have hx:x.o=⟨o.dst,op,g⟩:=(Y13 hc).symm;simp only [wpOpIn,ho];have hsg:∃ c,X1w x.o.guard e=some c:=by cases hs with|skip hw=>exact⟨_,hw⟩|call hw=>exact⟨_,hw⟩|callP hw=>exact⟨_,hw⟩|callN hw=>exact⟨_,hw⟩|callD hw=>exact⟨_,hw⟩|detF hw=>exact⟨_,hw⟩|det hw=>exact⟨_,hw⟩
 obtain⟨c,hwc⟩:=hsg;have hgx:x.o.guard=g:=by rw [hx]
 have hk:=ZeA hwc;rw [hgx] at hk;rcases Z6m hg s rfl hk with⟨hw,rfl⟩|⟨hw,rfl⟩
 . rw [Y6 hw];rcases ZeB hs hwc with⟨f,args,d,k,b,b',hop',hd0,hbk,⟨g',caps,as0,rest,g1,g2,g3,g4,g5,g6,g7⟩,rfl⟩|⟨f,args,id,b,R,hop',hb,⟨g',caps,as0,g1,g2,g3⟩,rfl⟩|⟨f,args,rd,mk,b,hop',hrd,⟨g',caps,as0,g1,g2,g3⟩,rfl⟩|⟨d,zz,bytes,sx,y,k,b,mm,fl,hd0,hop',hsx,hyx,hbk,hcond,hpp,rfl⟩|hopK
   . obtain rfl : op = .call f args := by rw [hx] at hop'; exact hop'
     have hdd:o.dst=some d:=by rw [hx] at hd0; exact hd0
     refine ZbE hok hop hdst hdd hid s g1 g2 g3 hbk g4 g5 g6 g7 fun a' w' hs'=>?_;exact hnext _ (.drop k) a' w' ⟨rfl,rfl⟩ (by rw [hx]; exact hs')
   . obtain rfl : op = .call f args := by rw [hx] at hop'; exact hop'
     refine ZbC hok hop hdst s g1 g2 hb g3 fun p b' a' w' h1 h2 h3 hs'=>?_;obtain⟨F',φ',s'⟩:=hs';exact hnext p (.set id b') a' w' ⟨b',rfl,h1,h2,h3⟩ (by rw [hx]; exact⟨F',φ',s'.weaken fun i hi=>hi.1⟩)
   . obtain rfl : op = .call f args := by rw [hx] at hop'; exact hop'
     refine ZbD hok hop hdst hid s g1 g2 hrd g3 fun a' w' hs'=>?_;exact hnext _ (.new (n+x.i) b) a' w' ⟨rfl,rfl⟩ (by rw [hx]; exact hs')
   . obtain rfl : op = .append zz bytes sx y := by rw [hx] at hop'; exact hop'
     have hdd:o.dst=some d:=by rw [hx] at hd0; exact hd0
     have hopK:opK P (.append zz bytes sx y) (n+x.i) e h fun p h'=>p=.own (n+x.i)/\h'=(h.del k).upd (n+x.i) ⟨b.esz,b.elems++mm⟩:=⟨.own (n+x.i),(h.del k).upd (n+x.i) ⟨b.esz,b.elems++mm⟩,.inl (by simp only [X3,hsx,hyx,hbk,Y6 hcond]; rfl),rfl,rfl⟩
     refine Z72 hok hop hdst hid s hopK fun p h' a' w' hK hs'=>?_;obtain⟨rfl,rfl⟩:=hK;have hnone:h (n+x.i)=none:=by
      cases hq:h (n+x.i) with
      | none=>rfl
      | some bq=>obtain⟨loc,h1,_⟩:=s.live _ bq hq; rw [s.free _ hid] at h1; cases h1
     rw [hdd] at hs';have s2:=St.frzSlot (k:=d) hs' (Env.upd_same _ _ _) (X2.upd_same _ _ _);rw [Z95 _ _ _ _ hnone] at s2;refine hnext _ (.drop k) a' w' ⟨rfl,rfl⟩ ?_;rw [hx];show St C _ (XC e o.dst _) _ a' w';rw [hdd];have e1:(XC e (some d) (.own (n+x.i))).upd d (.vec (b.elems++mm) false)=XC e (some d) (.vec (b.elems++mm) false):=Z94 _ _ _ _;rw [<- e1];obtain⟨F',φ',s'⟩:=s2;exact⟨F',φ',s'.weaken fun i hi=>⟨hi.1,fun _=>hi.2⟩⟩
   rw [hx] at hopK;refine Z72 hok hop hdst hid s hopK fun p h' a' w' hK hs'=>?_;obtain⟨f,hT,rfl⟩:=hK;obtain⟨F',φ',s'⟩:=hs';exact hnext p f a' w' hT (by rw [hx]; exact⟨F',φ',s'.weaken fun i hi=>⟨hi.1,fun _=>hi.2⟩⟩)
 . rw [Y8 (by simp [hw])];refine⟨fun f _=>hok.fn f,?_⟩;have hT:T pvu .none:=by
    cases hs with
    | skip _=>exact⟨rfl,rfl⟩
    | call hw'=>rw [hwc] at hw'; cases hw'
    | callP hw'=>rw [hwc] at hw'; cases hw'
    | callN hw'=>rw [hwc] at hw'; cases hw'
    | callD hw'=>rw [hwc] at hw'; cases hw'
    | detF hw'=>rw [hwc] at hw'; cases hw'
    | det hw'=>rw [hwc] at hw'; cases hw'
   have s':=s.putO (p:=pvu) hdst (.val undef);refine hnext pvu .none _ _ hT ⟨F,φ,?_⟩;rw [hx];exact s'.weaken fun _ h=>h.1
theorem Zg8 {n:Nat} {x:Xd} {o:Oper} {ops:Array Oper} (hc:X2z P C.nt ops o=some x.o) {T:PV->Eff->Prop} (hs:X25 P z n x e h T) (s:St' C Fr e h F φ a w) (hid:Fr (n+x.i)) :
 ∃ p f a' w',T p f/\St C (fun i=>Fr i/\i≠n+x.i) (XC e x.o.dst p) (f.app h) a' w':=by
 unfold X2z at hc
 split at hc
 case h_2=>simp at hc
 rename_i op g hop hg
 split at hc
 case isFalse=>simp at hc
 rename_i hdst;have hx:x.o=⟨o.dst,op,g⟩:=(Y13 hc).symm;cases hs with
 | skip hw =>
   refine⟨pvu,.none,a.put o.dst undef,w,⟨rfl,rfl⟩,F,φ,?_⟩;rw [hx];exact (s.putO (p:=pvu) hdst (.val undef)).weaken fun _ h=>h.1
 | call hw f args ho R hcall =>
   obtain⟨g',caps,as0,h1,h2,hbody,htk⟩:=hcall;obtain⟨vs,hvf,hrep⟩:=Z4x s (args:=args.toArray) h1 (by simpa using h2);obtain ⟨args',hrep'',-,hspec⟩ := htk F φ _ hrep;obtain ⟨en,w',fr,⟨v,r,F',_,hr,hvr,hbel,hF',hext,hold⟩,_⟩ := hspec F w _ ⟨s.froz,s.glob⟩ hrep'' [];have s':=(s.called hbel hF' hext hold).weaken (Fr':=fun i=>Fr i/\i≠n+x.i) fun _ h=>h.1;have hvr':Rep F' φ v r:=hvr.mono (fun _ _ h=>h) (fun i x hx=>by cases hx);exact⟨r,.none,_,w',⟨hr,rfl⟩,F',φ,by rw [hx]; exact s'.putO hdst hvr'⟩
 | callP hw f args ho id hz b hb R hcall =>
   obtain⟨g',caps,as0,h1,h2,hsp⟩:=hcall;obtain⟨vs,hvf,hrep⟩:=Z4x s (args:=args.toArray) h1 (by simpa using h2);obtain⟨en,w',fr,⟨v,r,b',F',_,⟨k1,k2,k3⟩,hvr,s'⟩,_⟩:=hsp.2 hb s hrep [];exact⟨r,.set id b',_,w',⟨b',rfl,k1,k2,k3⟩,F',φ,by rw [hx]; exact (s'.weaken (Fr':=fun i=>Fr i/\i≠n+x.i) fun _ h=>h.1).putO hdst hvr⟩
 | callN hw f args ho rd hrd mk b hcall =>
   obtain⟨g',caps,as0,h1,h2,hsp⟩:=hcall;obtain⟨vs,hvf,hrep⟩:=Z4x s (args:=args.toArray) h1 (by simpa using h2);obtain⟨en,w',fr,⟨v,F',φ',_,hvr,s'⟩,_⟩:=hsp.2 (fun k b0 hk=>(hrd k b0 hk).2) hid s hrep [];exact⟨mk (n+x.i),.new (n+x.i) b,_,w',⟨rfl,rfl⟩,F',φ',by rw [hx]; exact s'.putO hdst hvr⟩
 | callD hw f args ho d hd0 k hzk b b' hbk hcall =>
   obtain⟨g',caps,as0,rest,h1,h2,h3,hpb,hpb',hpr,hsp⟩:=hcall;obtain⟨vs,hvf,hrep⟩:=Z4x s (args:=args.toArray) h1 (by simpa using h2);rw [h3] at hrep;obtain⟨en,w',fr,⟨v,b2,F',φ',_,⟨k1,rfl⟩,hvr,s'⟩,_⟩:=hsp.run Z3j hpb hpr hid hbk s hrep [];have hdd:o.dst=some d:=by rw [hx] at hd0; exact hd0
   have hnone:h (n+x.i)=none:=by
    cases hq:h (n+x.i) with
    | none=>rfl
    | some bq=>obtain⟨loc,h1,_⟩:=s.live _ bq hq; rw [s.free _ hid] at h1; cases h1
   have s2:St C (fun i=>Fr i/\i≠n+x.i) (XC e o.dst (.own (n+x.i))) ((h.del k).upd (n+x.i) b2) (a.put o.dst v) w':=⟨F',φ',s'.putO hdst hvr⟩
   rw [hdd] at s2;have s3:=St.frzSlot (k:=d) s2 (Env.upd_same _ _ _) (X2.upd_same _ _ _);rw [Z95 _ _ _ _ hnone] at s3;have e1:(XC e (some d) (.own (n+x.i))).upd d (.vec b2.elems false)=XC e (some d) (.vec b2.elems false):=Z94 _ _ _ _;rw [e1] at s3;exact⟨.vec b2.elems false,.drop k,_,w',⟨rfl,rfl⟩,by rw [hx]; show St C _ (XC e o.dst _) _ _ _; rw [hdd]; exact s3⟩
 | detF hw ha d hd0 zz bytes sx y ho k b mm fl hsx hyx hbk hcond hpp hacc =>
   obtain rfl:op=.append zz bytes sx y:=by rw [hx] at ho; exact ho
   have hdd:o.dst=some d:=by rw [hx] at hd0; exact hd0
   obtain⟨r,val,w',F',φ',_,_,s',hrep⟩:=Z92 hop s hid (p:=.own (n+x.i)) (h':=(h.del k).upd (n+x.i) ⟨b.esz,b.elems++mm⟩) (.inl (by simp only [X3,hsx,hyx,hbk,Y6 hcond]; rfl));have hnone:h (n+x.i)=none:=by
    cases hq:h (n+x.i) with
    | none=>rfl
    | some bq=>obtain⟨loc,h1,_⟩:=s.live _ bq hq; rw [s.free _ hid] at h1; cases h1
   have s1:St C (fun i=>Fr i/\i≠n+x.i) (XC e o.dst (.own (n+x.i))) ((h.del k).upd (n+x.i) ⟨b.esz,b.elems++mm⟩) _ w':=⟨F',φ',(s'.weaken (Fr':=fun i=>Fr i/\i≠n+x.i) fun i hi=>⟨hi.1,fun _=>hi.2⟩).putO hdst hrep⟩
   rw [hdd] at s1;have s2:=St.frzSlot (k:=d) s1 (Env.upd_same _ _ _) (X2.upd_same _ _ _);rw [Z95 _ _ _ _ hnone] at s2;refine⟨.vec (b.elems++mm) false,.drop k,a.put o.dst val,w',⟨rfl,rfl⟩,?_⟩;rw [hx];show St C _ (XC e o.dst _) _ (a.put o.dst val) w';rw [hdd];have e1:(XC e (some d) (.own (n+x.i))).upd d (.vec (b.elems++mm) false)=XC e (some d) (.vec (b.elems++mm) false):=Z94 _ _ _ _;rw [<- e1];exact s2
 | det hw hn p f hd =>
   have hrun:=hd.run h fun _ _ _=>rfl;have hdf:X3 x.o.op e h (n+x.i)=some (p,f.app h) \/ XH x.o.op e h (n+x.i)=some (p,f.app h):=by
    unfold X2f at hrun
    split at hrun
    . exact .inr hrun
    . exact .inl hrun
   obtain⟨r,val,w',F',φ',_,_,s',hrep⟩:=Z92 hop s hid (by rw [hx] at hdf; exact hdf);exact⟨p,f,_,w',⟨rfl,rfl⟩,F',φ',by rw [hx]; exact (s'.weaken (Fr':=fun i=>Fr i/\i≠n+x.i) fun i hi=>⟨hi.1,fun _=>hi.2⟩).putO hdst hrep⟩
theorem Zg9 {ops:Array Oper} {n:Nat} (hzn:HZ z n) {y:Xd} {post:List Xd} {K:Env->X2->Prop} (hnc:Xa y.o.op=false):∀ {pre:List Xd},(∀ x∈pre,X2m z x y)->(∀ x∈pre,∃ o,X2z P C.nt ops o=some x.o)->(pre.map (·.i)).Nodup ->
 ∀ {Fr:Nat->Prop} {e:Env} {h:X2} {F:XL} {φ:XO} {a:Act} {w:World},St' C Fr e h F φ a w->(∀ x∈pre,Fr (n+x.i))->dK P z n (pre++y :: post) e h K->∃ q g,X25 P z n y e h (fun q' g'=>q'=q/\g'=g):=by
 intro pre
 induction pre with
 | nil =>
   intro _ _ _ Fr e h F φ a w s _ hk;obtain⟨T,hT,_⟩:=hk;cases hT with
   | skip hw=>exact⟨_,_,.skip hw⟩
   | call hw f args ho R hc=>rw [ho] at hnc; simp [Xa] at hnc
   | callP hw f args ho=>rw [ho] at hnc; simp [Xa] at hnc
   | callN hw f args ho=>rw [ho] at hnc; simp [Xa] at hnc
   | callD hw f args ho=>rw [ho] at hnc; simp [Xa] at hnc
   | detF hw ha d hd0 zz bytes sx y ho k b mm fl hsx hyx hbk hcond hpp hacc=>exact⟨_,_,.detF hw ha d hd0 zz bytes sx y ho k b mm fl hsx hyx hbk hcond hpp hacc⟩
   | det hw hn p f hd=>exact⟨_,_,.det hw hn p f hd⟩
 | cons x pre ih =>
   intro hall hc hnd Fr e h F φ a w s hfr hk;obtain⟨T,hT,hK⟩:=hk;obtain⟨o,ho⟩:=hc x (by simp);obtain⟨p,f,a',w',hpf,F',φ',s'⟩:=Zg8 (ops:=ops) ho hT s (hfr x (by simp));rw [Y1J,Y2Z] at hnd
   obtain⟨q,g,hy⟩:=ih (fun z hz=>hall z (by simp [hz])) (fun z hz=>hc z (by simp [hz])) hnd.2 s' (fun z hz=>⟨hfr z (by simp [hz]),fun he=>hnd.1 (by
    have:z.i=x.i:=by omega
    rw [<- this]
    exact Y1D hz)⟩) (hK p f hpf)
   exact⟨q,g,(X25.over hzn (hall x (by simp)) hT hpf).1 hy⟩
structure X7T (z:Rsv) (P:Program) (nt:Nat) (ops:Array Oper) (L:List Nat) (rem:List Xd) (listed:Array Bool):Prop where
 size:listed.size=ops.size
 mem:∀ j,j<ops.size->(listed.getD j false=false↔∃ x∈rem,x.i=j)
 item:∀ x∈rem,x.i<ops.size/\x.mask=L.getD x.i 0/\∀ o,ops[x.i]?=some o->X2z P nt ops o=some x.o
 ord:rem.Pairwise fun x y=>x.i<y.i/\(y.mask.testBit x.i=false->X2m z x y)
 closed:∀ j,j<ops.size->listed.getD j false=true->∀ k,(L.getD j 0).testBit k=true->listed.getD k false=true
theorem Zdj {listed:Array Bool} {j:Nat} (h:listed.getD j true=false):j<listed.size/\listed.getD j false=false:=by
 simp only [Y0d] at h ⊢;cases hj:listed[j]? with
 | none=>rw [hj] at h; simp at h
 | some b=>rw [hj] at h; exact⟨(YF.1 hj).1,by simpa using h⟩
theorem Zip (hok:XD FN m) {ops:Array Oper} {L:List Nat} (hL:MOk ops L) {n:Nat} (hzn:HZ z n) {K:Env->X2->Prop} {Q:Exit->Act->World->Prop}
 (hQ : ∀ e h a w, K e h -> St C (fun i => n + ops.size <= i) e h a w -> Q .normal a w) : ∀ (fuel : Nat) (rem : List Xd) (listed : Array Bool), X7T z P C.nt ops L rem listed -> rem.length <= fuel ->
   ∀ {Fr:Nat->Prop} {e:Env} {h:X2} {a:Act} {w:World},St C Fr e h a w->(∀ x∈rem,Fr (n+x.i))->(∀ i,n+ops.size<=i->Fr i)->dK P z n rem e h K->wpAnyIn FN m P .any ops Q fuel listed a w:=by
 intro fuel;have hdone:∀ (rem:List Xd) (listed:Array Bool),X7T z P C.nt ops L rem listed->Region.ready .any ops listed = []->rem = []:=by
  intro rem listed inv hr;cases rem with
  | nil=>rfl
  | cons x xs =>
    exfalso;obtain⟨hxl,hxm,hxo⟩:=inv.item x (by simp);have ho:ops[x.i]?=some ops[x.i]:=Y1V hxl;have hin:x.i∈Region.ready .any ops listed:=by
     rw [mem_ready];have h0:=(inv.mem x.i hxl).2 ⟨x,by simp,rfl⟩;refine⟨?_,_,ho,fun ed hed hb=>?_⟩
     . have hlt : x.i < listed.size := by rw [inv.size]; exact hxl
       simpa [Array.getD,hlt] using h0
     . have hlt := hL.lt x.i _ ho ed hed hb;cases hl:listed.getD ed.on false with
       | true=>rfl
       | false =>
         obtain⟨z,hz,hzi⟩:=(inv.mem ed.on (by omega)).1 hl;rcases YD.1 hz with rfl|hz
         . omega
         . have := (Y14.1 inv.ord).1 z hz;omega
    rw [hr] at hin;cases hin
 induction fuel with
 | zero =>
   intro rem listed inv hlen Fr e h a w hs hfr hfr2 hk;have hrem:rem = []:=YP (by omega);subst hrem;refine⟨?_,hQ e h a w hk (by obtain⟨F,φ,s⟩:=hs; exact⟨F,φ,s.weaken hfr2⟩)⟩;cases hr:Region.ready .any ops listed with
   | nil=>rfl
   | cons j js =>
     exfalso;have hj:j∈Region.ready .any ops listed:=by rw [hr]; simp
     obtain⟨h0,o,ho,_⟩:=mem_ready.1 hj;have hlt:j<ops.size:=(YF.1 ho).1;obtain⟨x,hx,_⟩:=(inv.mem j hlt).1 (Zdj h0).2;cases hx
 | succ fuel ih =>
   intro rem listed inv hlen Fr e h a w hs hfr hfr2 hk;refine⟨fun hr=>?_,fun i hi=>?_⟩
   . obtain rfl := hdone rem listed inv hr;exact hQ e h a w hk (by obtain⟨F,φ,s⟩:=hs; exact⟨F,φ,s.weaken hfr2⟩)
   . obtain ⟨h0, o, ho, hpre⟩ := mem_ready.1 hi;have hlt:i<ops.size:=(YF.1 ho).1;obtain⟨y,hy,rfl⟩:=(inv.mem i hlt).1 (Zdj h0).2;obtain⟨pre,post,rfl⟩:=List.append_of_mem hy;obtain⟨_,hym,hyo⟩:=inv.item y hy;have hpw:=Y2i.1 inv.ord;have hall:∀ x∈pre,X2m z x y:=by
      intro x hx;have hxy:=hpw.2.2 x hx y (by simp);refine hxy.2 ?_;cases hb:y.mask.testBit x.i with
      | false=>rfl
      | true =>
        exfalso;rw [hym] at hb;obtain⟨ed,hed,hbind,hon⟩:=hL.mem y.i o ho x.i hb;have hl:=hpre ed hed hbind;have hxl:=(inv.item x (by simp [hx])).1;have hxun:=(inv.mem x.i hxl).2 ⟨x,by simp [hx],rfl⟩;rcases hon with hon|hon
        . rw [hon] at hl; rw [hl] at hxun; cases hxun
        . have hedl : ed.on < ops.size := by have := hL.lt y.i o ho ed hed hbind; omega
          have:=inv.closed ed.on hedl hl x.i hon;rw [this] at hxun; cases hxun
     have hnd:((pre++post).map (·.i)).Nodup/\∀ z∈pre++post,z.i≠y.i:=by
      have h1:(pre++y :: post).Pairwise fun x y=>x.i≠y.i:=inv.ord.imp fun h=>by omega
      constructor
      . rw [Y16, Y1w];exact h1.sublist (List.Sublist.append (Y36 _) (List.sublist_cons_self _ _))
      . intro z hz;have h2:=Y2i.1 h1;rcases Y0h.1 hz with hz|hz
        . exact h2.2.2 z hz y (by simp)
        . exact ((Y14.1 h2.2.1).1 z hz).symm
     have hpnd:(pre.map (·.i)).Nodup:=by
      have:=hnd.1;rw [Y0r] at this;exact (Y2I.1 this).1
     obtain⟨F,φ,s⟩:=hs;have hpull:∃ Ty,X25 P z n y e h Ty/\∀ q g,Ty q g->dK P z n (pre++post) (XC e y.o.dst q) (g.app h) K:=by
      cases hc:Xa y.o.op with
      | true=>exact Zac hzn hall hc hk
      | false =>
        obtain⟨q,g,hsem⟩:=Zg9 (ops:=ops) hzn hc hall (fun x hx=>by
         obtain⟨h1,_,h3⟩:=inv.item x (by simp [hx])
         exact⟨_,h3 _ (Y1V h1)⟩) hpnd s (fun x hx=>hfr x (by simp [hx])) hk
        refine⟨_,hsem,?_⟩;rintro q' g' ⟨rfl,rfl⟩;exact ZbI hzn hall hsem hc hk
     obtain⟨Ty,hsem,hnext⟩:=hpull;refine Zg7 hok ho (hyo o ho) hsem s (hfr y (by simp)) fun p f a' w' hpf hs'=>?_;have hne:∀ j,j≠y.i->(listed.setIfInBounds y.i true).getD j false=listed.getD j false:=fun j hj=>by
      simp only [Y0d,Y4w];rw [Y8 (Y2L hj)]
     have hsame:(listed.setIfInBounds y.i true).getD y.i false=true:=by
      have:y.i<listed.size:=by rw [inv.size]; exact hlt
      simp [Y0d,this]
     refine ih (pre++post) _ ⟨by simpa using inv.size,fun j hj=>?_,fun x hx=>?_,?_,fun j hj hl k hk=>?_⟩ (by simp at hlen ⊢;omega) hs' (fun x hx=>⟨hfr x ?_,fun he=>hnd.2 x hx (by omega)⟩) (fun j hj=>⟨hfr2 j hj,by omega⟩) (hnext p f hpf)
     . by_cases hj' : j = y.i
       . subst hj';rw [hsame];constructor
         . intro h; cases h
         . rintro⟨x,hx,hxi⟩; exact absurd hxi (hnd.2 x hx)
       . rw [hne j hj', inv.mem j hj];constructor
         . rintro ⟨x, hx, hxi⟩;refine⟨x,?_,hxi⟩;rcases Y0h.1 hx with hx|hx
           . exact Y0h.2 (.inl hx)
           . rcases YD.1 hx with rfl | hx
             . exact absurd hxi.symm hj'
             . exact Y0h.2 (.inr hx)
         . rintro ⟨x, hx, hxi⟩;refine⟨x,?_,hxi⟩;rcases Y0h.1 hx with hx|hx
           . exact Y0h.2 (.inl hx)
           . exact Y0h.2 (.inr (by simp [hx]))
     . refine inv.item x ?_;rcases Y0h.1 hx with hx|hx
       . exact Y0h.2 (.inl hx)
       . exact Y0h.2 (.inr (by simp [hx]))
     . exact inv.ord.sublist (List.Sublist.append (Y36 _) (List.sublist_cons_self _ _))
     . by_cases hk' : k = y.i
       . rw [hk']; exact hsame
       . rw [hne k hk'];by_cases hj':j=y.i
         . subst hj';obtain⟨ed,hed,hbind,hon⟩:=hL.mem y.i o ho k hk;have hl':=hpre ed hed hbind;rcases hon with hon|hon
           . rw [<- hon]; exact hl'
           . exact inv.closed ed.on (by have:=hL.lt y.i o ho ed hed hbind;omega) hl' k hon
         . rw [hne j hj'] at hl;exact inv.closed j hj hl k hk
     . rcases Y0h.1 hx with hx | hx
       . exact Y0h.2 (.inl hx)
       . exact Y0h.2 (.inr (by simp [hx]))
def Xd.setAlt (alts:List Nat) (x:Xd):Xd:={ x with alt:=alts.contains x.i }
theorem ZeC {nt:Nat} {ops:Array Oper}:∀ {l:List Oper} {al:List Xs},XK P nt ops l=some al->al.length=l.length/\∀ (i:Nat) (o:Oper),l[i]?=some o->∃ x,al[i]?=some x/\X2z P nt ops o=some x:=by
 intro l
 induction l with
 | nil =>
   intro al hc;obtain rfl : []=al:=by simpa [XK] using hc
   exact⟨rfl,fun i o ho=>by simp at ho⟩
 | cons o r ih =>
   intro al hc;simp only [XK] at hc
   split at hc
   case h_2=>simp at hc
   rename_i ao al' ho hl;obtain rfl:ao :: al'=al:=by simpa using hc
   obtain⟨h1,h2⟩:=ih hl;refine⟨by simp [h1],fun i o' ho'=>?_⟩;cases i with
   | zero => obtain rfl : o = o' := by simpa using ho'
             exact⟨ao,rfl,ho⟩
   | succ i=>exact h2 i o' (by simpa using ho')
theorem ZeD (hok:XD FN m) (hm:P.follows .mixedOrders=true) {id:Nat} {ops:Array Oper} {al:List Xs} {L:List Nat} (hc:XK P C.nt ops ops.toList=some al) (hL:X3e ops L=true) (hp:X3R (X1s al L)=true) (hu:X4Z z (X1s al L)=true)
 {n:Nat} (hzn:HZ z n) (hs:St C (fun i=>n<=i) e h a w) {Q:Exit->Nat->Env->X2->Prop} (alts:List Nat) (hk:dK P z n ((X1s al L).map (Xd.setAlt alts)) e h fun e h=>Q .normal (n+(X1s al L).length) e h):(Code.region id ops true).wpIn FN m P (X3J C Q) a w:=by
 obtain⟨hlen,hget⟩:=ZeC hc;have hdl:(X1s al L).length=ops.size:=by simp [X1s,hlen]
 have hs':St C (fun i=>n<=i) e h a { w with drawn:=w.drawn+1 }:=by obtain⟨F,φ,s⟩:=hs; exact⟨F,φ,s.drew⟩
 refine wpIn_region_any hm (Zip (z:=z) hok (Zag hL) (n:=n) hzn (K:=fun e h=>Q .normal (n+(X1s al L).length) e h) (fun e h a w hK hSt=>⟨n+(X1s al L).length,e,h,hK,by rw [hdl]; exact hSt⟩) ops.size _ _ ⟨by simp,fun j hj=>?_,fun x hx=>?_,?_,fun j hj hl=>?_⟩ (by simp [hdl]) hs' (fun x _=>Nat.le_add_right _ _) (fun i hi=>by omega) hk)
 . have hj' : j < al.length := by rw [hlen]; simpa using hj
   constructor
   . intro _;refine⟨Xd.setAlt alts ⟨j,al[j],L.getD j 0,X89 al L j,false⟩,?_,rfl⟩;refine Y1D ?_;refine Y0i.2 ⟨(al[j],j),?_,rfl⟩;rw [Y21];simp [hj']
   . intro _; simp [Y0d,hj]
 . obtain ⟨z, hz, rfl⟩ := Y0i.1 hx;obtain⟨q,hq,rfl⟩:=Y0i.1 hz;have hqg:=Y21.1 hq;have hql:q.2<al.length:=(Y7.1 hqg).1;refine⟨by simp only [Xd.setAlt]; rw [hlen] at hql; simpa using hql,rfl,fun o ho=>?_⟩;obtain⟨x,hx1,hx2⟩:=hget q.2 o (by simpa [Xd.setAlt] using ho);rw [hqg] at hx1;cases hx1;exact hx2
 . rw [Y1w];have hsub:(X1s al L).Pairwise fun x y=>x.i<y.i:=by
    unfold X1s;rw [Y1w];have h2:(al.zipIdx.map Prod.snd).Pairwise (· < ·):=by
     rw [List.zipIdx_map_snd]; exact List.pairwise_lt_range'
    exact (Y1w.1 h2)
   refine Y1C ?_ hsub;intro x y hx hy hlt;refine⟨hlt,fun hb=>?_⟩;have h1:=YK.1 hp x hx;have h2:=YK.1 h1 y hy;have hblt:Nat.blt x.i y.i=true:=Nat.ble_eq_true_of_le hlt;have hb':y.mask.testBit x.i=false:=hb;simp only [hblt,hb',Y4f,Y1O] at h2;have hi:=ZbK h2 hlt hb' hu hx hy;exact⟨hi.xy,hi.yx,hi.calls,hi.xiso,hi.yiso,hi.xlone,hi.ylone,hi.ne,hi.mx,hi.my,hi.xun,hi.yun,hi.xown,hi.yown⟩
 . simp [Y0d,hj] at hl
end
inductive X6 where
 | skip
 | region (ops:List Xs)
 | draw (l:List Xd)
 | seq (a b:X6)
 | cond (c:Operand) (thn els:X6)
 | block (id:Nat) (body:X6)
 | loop (body:X6)
 | exit (id:Nat)
 | ret
 | range (f:Operand) (ps:List Nat) (asg:List (Nat×Operand)) (body:X6)
 | bad
def X35:List Oper->Option (List (Nat×Operand))
 | []=>some []
 | o :: r => match o.op, o.guard, o.dst, X35 r with
   | .move x,none,some d,some l=>some ((d,x) :: l)
   | .assign x,none,some d,some l=>some ((d,x) :: l)
   | _,_,_,_=>none
def X6P:Code->Option (List (Nat×Operand))
 | .skip=>some []
 | .region _ ops false=>X35 ops.toList
 | _=>none
def Xu (P:Program) (nt:Nat):Code->Option X6
 | .skip=>some .skip
 | .region _ ops draw => match XK P nt ops ops.toList with
   | some al => match draw with
     | false=>some (.region al)
     | true => match X3e ops (Region.before ops).toList && X3R (X1s al (Region.before ops).toList) with
       | true=>some (.draw (X1s al (Region.before ops).toList))
       | false=>some .bad
   | none=>some .bad
 | .seq a b => match Xu P nt a, Xu P nt b with
   | some x,some y=>some (.seq x y)
   | _,_=>none
 | .cond c a b => match Xu P nt a, Xu P nt b with
   | some x,some y=>some (.cond c x y)
   | _,_=>none
 | .block id c => match Xu P nt c with
   | some x=>some (.block id x)
   | none=>none
 | .loop c => match Xu P nt c with
   | some x=>some (.loop x)
   | none=>none
 | .exit id=>some (.exit id)
 | .ret=>some .ret
 | .rangeFunc f ps g c => match X6P g, Xu P nt c with
   | some l,some x=>if ps.toList.all (· < nt)&&l.all (·.1<nt) then some (.range f ps.toList l x) else none
   | _,_=>none
 | _=>some .bad
def X4P (FN:Fence) (C:Ctx):Prop:=∀ l,FN.round=some l->(∃ r,C.w0.heap[l]?=some (.loop r))/\¬ C.G l
def aw (P:Program) (C:Ctx) (ac:X6) (Q:Exit->Nat->Env->X2->Prop) (n:Nat) (e:Env) (h:X2):Prop :=
 P.follows .mixedOrders=true->∀ (FN:Fence) (m:Nat),XD FN m/\X4P FN C->∀ c,Xu P C.nt c=some ac->∀ a w,St C (fun i=>n<=i) e h a w->c.wpIn FN m P (X3J C Q) a w
def X3m (next:Nat->Env->X2->Prop) (Q:Exit->Nat->Env->X2->Prop):Exit->Nat->Env->X2->Prop
 | .normal=>next
 | x=>Q x
def X5x (id:Nat) (Q:Exit->Nat->Env->X2->Prop):Exit->Nat->Env->X2->Prop
 | .exit id'=>bif Nat.beq id' id then Q .normal else Q (.exit id')
 | x=>Q x
noncomputable def least (p:Nat->Prop):Nat:=open Classical in if h:∃ k,p k/\∀ j,p j->k<=j then Classical.choose h else 0
theorem Z4y {p:Nat->Prop} {k:Nat} (hk:p k):p (least p)/\least p<=k:=by
 have hex:∃ k,p k/\∀ j,p j->k<=j:=by
  induction k using Nat.strongRecOn with
  | _ k ih =>
    by_cases h:∃ j,j<k/\p j
    . obtain ⟨j, hj, hpj⟩ := h;exact ih j hj hpj
    . exact ⟨k, hk, fun j hj => by
       rcases Y3u j k with h' | h'
       . exact absurd ⟨j,h',hj⟩ h
       . exact h'⟩
 unfold least;rw [dif_pos hex];exact⟨(Classical.choose_spec hex).1,(Classical.choose_spec hex).2 k hk⟩
section
variable {P:Program} {C:Ctx} {Q:Exit->Nat->Env->X2->Prop} {n:Nat} {e:Env} {h:X2}
theorem Z73 {ac:X6} {Q':Exit->Nat->Env->X2->Prop} (hk:aw P C ac Q n e h) (hq:∀ x n e h,Q x n e h->Q' x n e h):aw P C ac Q' n e h :=
 fun hm FN m hok c hc a w hs=>Y2C (hk hm FN m hok c hc a w hs) fun x a w ⟨n,e,h,hQ,hS⟩=>⟨n,e,h,hq _ _ _ _ hQ,hS⟩
theorem Z1U {ac:X6} {n':Nat} {e':Env} {h':X2} (hs:Sub C n e h n' e' h') (hk:aw P C ac Q n' e' h'):aw P C ac Q n e h :=
 fun hm FN m hok c hc a w hst=>hk hm FN m hok c hc a w (hs a w hst)
theorem Z96 (hk:Q .normal n e h):aw P C .skip Q n e h:=by
 intro hm FN m hok c hc a w hs;have:c=.skip:=by
  unfold Xu at hc
  split at hc<;>first|rfl|(simp at hc; done)|((repeat' (split at hc))<;>simp at hc)
 subst this;exact wpIn_skip ⟨n,e,h,hk,hs⟩
theorem Z97 {id:Nat} (hk:Q (.exit id) n e h):aw P C (.exit id) Q n e h:=by
 intro hm FN m hok c hc a w hs;have:c=.exit id:=by
  unfold Xu at hc
  split at hc<;>first|(simp at hc; subst hc; rfl)|(simp at hc; done)|((repeat' (split at hc))<;>simp at hc)
 subst this;exact wpIn_exit ⟨n,e,h,hk,hs⟩
theorem Zdk (hk:Q .ret n e h):aw P C .ret Q n e h:=by
 intro hm FN m hok c hc a w hs;have:c=.ret:=by
  unfold Xu at hc
  split at hc<;>first|rfl|(simp at hc; done)|((repeat' (split at hc))<;>simp at hc)
 subst this;exact wpIn_ret ⟨n,e,h,hk,hs⟩
theorem Zm {x y:X6} (hk:aw P C x (X3m (aw P C y Q) Q) n e h):aw P C (.seq x y) Q n e h:=by
 intro hm FN m hok c hc a w hs;have:∃ c1 c2,c=.seq c1 c2/\Xu P C.nt c1=some x/\Xu P C.nt c2=some y:=by
  unfold Xu at hc
  split at hc<;>first
   | (split at hc<;>first|(simp at hc; obtain⟨rfl,rfl⟩:=hc; exact⟨_,_,rfl,by assumption,by assumption⟩)|(simp at hc; done)|((repeat' (split at hc))<;>simp at hc; done))
   | (simp at hc; done)
 obtain⟨c1,c2,rfl,h1,h2⟩:=this;refine wpIn_seq (Y2C (hk hm FN m hok c1 h1 a w hs) fun x a w ⟨n,e,h,hQ,hS⟩=>?_);cases x with
 | normal=>exact hQ hm FN m hok c2 h2 a w hS
 | _=>exact⟨n,e,h,hQ,hS⟩
theorem Z5Z {c:Operand} {x y:X6} {b:Bool} (hc:ev e c=some (.val (.bool b))) (ht:b=true->aw P C x Q n e h) (hf:b=false->aw P C y Q n e h):aw P C (.cond c x y) Q n e h:=by
 intro hm FN m hok cc hcc a w hs;have:∃ c1 c2,cc=.cond c c1 c2/\Xu P C.nt c1=some x/\Xu P C.nt c2=some y:=by
  unfold Xu at hcc
  split at hcc<;>first
   | (split at hcc<;>first|(simp at hcc; obtain⟨rfl,rfl,rfl⟩:=hcc; exact⟨_,_,rfl,by assumption,by assumption⟩)|(simp at hcc; done)|((repeat' (split at hcc))<;>simp at hcc; done))
   | (simp at hcc; done)
 obtain⟨c1,c2,rfl,h1,h2⟩:=this;obtain⟨F,φ,s⟩:=hs;refine Y3T (s.eval hc).val_inv (fun hb=>ht hb hm FN m hok c1 h1 a w ⟨F,φ,s⟩) (fun hb=>hf hb hm FN m hok c2 h2 a w ⟨F,φ,s⟩)
theorem Z4z {id:Nat} {x:X6} (hk:aw P C x (X5x id Q) n e h):aw P C (.block id x) Q n e h:=by
 intro hm FN m hok c hc a w hs;have:∃ c1,c=.block id c1/\Xu P C.nt c1=some x:=by
  unfold Xu at hc
  split at hc<;>first
   | (split at hc<;>first|(simp at hc; obtain⟨rfl,rfl⟩:=hc; exact⟨_,rfl,by assumption⟩)|(simp at hc; done)|((repeat' (split at hc))<;>simp at hc; done))
   | (simp at hc; done)
 obtain⟨c1,rfl,h1⟩:=this;refine wpIn_block (Y2C (hk hm FN m hok c1 h1 a w hs) fun x a w ⟨n,e,h,hQ,hS⟩=>?_);cases x with
 | exit id' =>
   simp only [X5x] at hQ;simp only [Exit.inBlock];by_cases hid:id'=id
   . subst hid;have hb:Nat.beq id' id'=true:=by simp
     rw [hb] at hQ;rw [Y6 rfl];exact⟨n,e,h,hQ,hS⟩
   . have hb : Nat.beq id' id = false := Yy.2 fun hb => hid (YH hb);rw [hb] at hQ;rw [Y8 hid];exact⟨n,e,h,hQ,hS⟩
 | _=>exact⟨n,e,h,hQ,hS⟩
theorem Z98 {X:Type} (I:X->Prop) (μ:X->Nat) (N:X->Nat) (E:X->Env) (H:X->X2) {body:X6} (x0:X) (h0:I x0) (hs0:Sub C n e h (N x0) (E x0) (H x0))
 (round:∀ x,I x->aw P C body (X3m (fun n e h=>∃ x',I x'/\μ x'<μ x/\Sub C n e h (N x') (E x') (H x')) Q) (N x) (E x) (H x)):aw P C (.loop body) Q n e h:=by
 intro hm FN m hok c hc a w hs;have:∃ c1,c=.loop c1/\Xu P C.nt c1=some body:=by
  unfold Xu at hc
  split at hc<;>first
   | (split at hc<;>first|(simp at hc; subst hc; exact⟨_,rfl,by assumption⟩)|(simp at hc; done)|((repeat' (split at hc))<;>simp at hc; done))
   | (simp at hc; done)
 obtain⟨c1,rfl,h1⟩:=this
 let p:Act->World->Nat->Prop:=fun a w k=>∃ x,I x/\μ x=k/\St C (fun i=>N x<=i) (E x) (H x) a w
 refine wpIn_loop (fun a w=>∃ k,p a w k) (fun a w=>least (p a w)) ⟨_,x0,h0,rfl,hs0 a w hs⟩ ?_;rintro a w ⟨k,hk⟩;obtain⟨⟨x,hx,hxk,hst⟩,_⟩:=Z4y hk;refine Y2C (round x hx hm FN m hok c1 h1 a w hst) fun ex a' w' ⟨n',e',h',hQ,hS⟩=>?_;cases ex with
 | normal =>
   obtain⟨x',hx',hlt,hsub⟩:=hQ;have hp':p a' w' (μ x'):=⟨x',hx',rfl,hsub a' w' hS⟩
   refine⟨⟨_,hp'⟩,?_⟩;have:=(Z4y hp').2;omega
 | _=>exact⟨n',e',h',hQ,hS⟩
theorem Z9 {al:List Xs} (hk:Xr P al n e h (fun n e h=>Q .normal n e h)):aw P C (.region al) Q n e h:=by
 intro hm FN m hok c hc a w hs;have:∃ id ops,c=.region id ops false/\XK P C.nt ops ops.toList=some al:=by
  unfold Xu at hc
  split at hc<;>first
   | (simp at hc; done)
   | (split at hc
      . split at hc
        . simp at hc; subst hc; exact⟨_,_,rfl,by assumption⟩
        . split at hc<;>simp at hc
      . simp at hc)
   | (split at hc<;>simp at hc; done)
   | ((repeat' (split at hc))<;>simp at hc; done)
 obtain⟨id,ops,rfl,h1⟩:=this;exact Zaa hok.1 h1 hs hk
theorem Z99 {l:List Xd} (z:Rsv) (hu:X4Z z l=true) (hzn:HZ z n) (alts:List Nat) (hk:dK P z n (l.map (Xd.setAlt alts)) e h fun e h=>Q .normal (n+l.length) e h):aw P C (.draw l) Q n e h:=by
 intro hm FN m hok c hc a w hs;have:∃ id ops al,c=.region id ops true/\XK P C.nt ops ops.toList=some al/\X3e ops (Region.before ops).toList=true/\X3R (X1s al (Region.before ops).toList)=true/\X1s al (Region.before ops).toList=l:=by
  unfold Xu at hc
  split at hc<;>first
   | (simp at hc; done)
   | (split at hc
      . split at hc
        . simp at hc
        . split at hc
          . rename_i hb;rw [Y0k] at hb;simp at hc; exact⟨_,_,_,rfl,by assumption,hb.1,hb.2,hc⟩
          . simp at hc
      . simp at hc)
   | (split at hc<;>simp at hc; done)
   | ((repeat' (split at hc))<;>simp at hc; done)
 obtain⟨id,ops,al,rfl,h1,h2,h3,rfl⟩:=this;exact ZeD hok.1 hm h1 h2 h3 hu hzn hs alts hk
theorem Z60 {l:List Xd} (alts:List Nat) (hk:dK P .no n (l.map (Xd.setAlt alts)) e h fun e h=>Q .normal (n+l.length) e h):aw P C (.draw l) Q n e h:=Z99 .no rfl (fun _ h=>by cases h) alts hk
theorem Z3v {l:List Xd} (alts:List Nat) (grp:List (Nat×Nat)) (un:List Nat) (hu:X4Z ⟨none,grp,un,none⟩ l=true) (hk:dK P ⟨none,grp,un,none⟩ n (l.map (Xd.setAlt alts)) e h fun e h=>Q .normal (n+l.length) e h):aw P C (.draw l) Q n e h:=Z99 _ hu (fun _ h=>by cases h) alts hk
theorem Zdl {l:List Xd} (alts:List Nat) (id:Nat) (hid:id<n) (hk:dK P (.to id) n (l.map (Xd.setAlt alts)) e h fun e h=>Q .normal (n+l.length) e h):aw P C (.draw l) Q n e h:=Z99 (.to id) rfl (fun i h=>.inl (by cases h; exact hid)) alts hk
end
inductive X2g where
 | tmp (t:Nat)
 | cell (t:Nat) (agg:Bool) (size:Nat)
def X6R (P:Program):ResultVar->Option X2g
 | .tmp t=>some (.tmp t)
 | .cell a t => match X1l P t with
   | some l=>some (.cell a l.1 l.2)
   | none=>none
def X2Z (P:Program):List ResultVar->Option (List X2g)
 | []=>some []
 | r :: l => match X6R P r, X2Z P l with
   | some x,some xs=>some (x :: xs)
   | _,_=>none
def X6a (e:Env) (h:X2):X2g->Option PV
 | .tmp t=>e t
 | .cell a agg size => match X3 (.load agg size (.tmp a)) e h 0 with
   | some (p,_)=>some p
   | none=>none
def X3k (e:Env) (h:X2):List X2g->Option (List PV)
 | []=>some []
 | r :: l => match X6a e h r, X3k e h l with
   | some x,some xs=>some (x :: xs)
   | _,_=>none
def XZ (rs:List X2g) (e:Env) (h:X2):Option PV :=
 match X3k e h rs with
 | some [p]=>some p
 | some l=>some (.tup l)
 | none=>none
def X85 (rs:List X2g) (R:PV->Prop):Exit->Nat->Env->X2->Prop
 | .normal,_,e,h=>∃ r0 r,XZ rs e h=some r0/\LoP r0 r/\r.pure/\R r
 | .ret,_,e,h=>∃ r0 r,XZ rs e h=some r0/\LoP r0 r/\r.pure/\R r
 | _,_,_,_=>False
def X3O (P:Program) (f nt:Nat) (ac:X6) (rs:List X2g):Prop :=
 P.follows .mixedOrders = true/\∃ fn c,P.funcs[f]? = some fn/\(fn.name == "runtime.NumGoroutine") = false/\fn.body = some c/\fn.ntmps = nt/\Xu P nt c = some ac/\X2Z P fn.results.toList = some rs
def X4v (P:Program) (nt:Nat):Option Code->Option X6
 | some c=>Xu P nt c
 | none=>none
theorem Zr {P : Program} {f nt : Nat} {fn : Func} {ac : X6} {rs : List X2g} (hm : P.follows .mixedOrders = true) (hf : P.funcs[f]? = some fn) (hn : (fn.name == "runtime.NumGoroutine") = false) (hnt : fn.ntmps = nt) (hc : X4v P nt fn.body = some ac) (hr : X2Z P fn.results.toList = some rs) : X3O P f nt ac rs := by
 refine⟨hm,fn,?_⟩;cases hb:fn.body with
 | none=>rw [hb] at hc; cases hc
 | some c=>exact⟨c,hf,hn,rfl,hnt,by rw [hb] at hc; exact hc,hr⟩
def Ctx.dom (C:Ctx) (n:Nat):Prop:=∀ i,n<=i->C.φ0 i=none
def XV (args:List PV):Env:=fun k=>args[k]?
section
variable {P:Program} {C:Ctx} {Fr:Nat->Prop} {e:Env} {h:X2} {F:XL} {φ:XO} {a:Act} {w:World}
theorem Ziq (s:St' C Fr e h F φ a w) {id:Nat} {t:TypeId} {agg:Bool} {size:Nat} (hlay:X1l P t=some (agg,size)) {x:Operand} {p:PV} {h':X2} (hd:X3 (.load agg size x) e h id=some (p,h')) :
 ∃ ad val,a.eval x=.pointer (some ad)/\(loadVar t ad).run P w=.ok val w/\Rep F φ val p:=by
 simp only [X3] at hd
 split at hd
 . rename_i l hl
   split at hd
   . rename_i q hq;cases hd;obtain⟨ad,hv,hs,hc⟩:=X3A s (s.eval hl);have hle:=Z6D hq;obtain⟨val,hr,hrep⟩:=Z5h (w:=w) hlay hs hq (fun j hj=>by simpa using hc j (by omega));exact⟨ad,val,hv,hr,hrep⟩
   . simp at hd
 . rename_i k i off hl
   split at hd
   . rename_i b hb
     split at hd
     case isFalse=>simp at hd
     rename_i hi
     split at hd
     . rename_i q hq;cases hd;obtain⟨loc,ad,hloc,hz,hbase,hs,hv⟩:=(s.eval hl).ptr_inv;have hle:=Z6D hq;obtain⟨loc',h1,h2,_⟩:=s.live k b hb;obtain rfl:loc'=loc:=by rw [h1] at hloc; simpa using hloc
       have h2:=h2.cells hz;have hel:(b.elems.getD i []).length=b.esz:=by
        rw [h2.esz];refine h2.el _ ?_;simp [Y0b,hi]
       obtain⟨val,hr,hrep⟩:=Z5h (w:=w) (ad:=⟨ad.block,ad.off+(i*loc'.esz+off),none⟩) hlay rfl hq (fun j hj=>by
        have:=s.objCell hb hloc hi (j:=off+j) (by omega) hbase;rw [show ad.off+(i*loc'.esz+(off+j))=ad.off+(i*loc'.esz+off)+j by omega] at this
        exact this)
       exact⟨_,val,hv,hr,hrep⟩
     . simp at hd
   . simp at hd
 . simp at hd
def X3y (P:Program) (tmps:Array Value):ResultVar->Sem Value
 | .tmp t=>Pure.pure (tmps.getD t undef)
 | .cell a t=>do loadVar t (<- asAddr (tmps.getD a undef))
theorem Zir (s:St' C Fr e h F φ a w) {r:ResultVar} {x:X2g} (hr:X6R P r=some x) {p:PV} (hp:X6a e h x=some p):∃ v,(X3y P a.tmps r).run P w=.ok v w/\Rep F φ v p:=by
 cases r with
 | tmp t =>
   obtain rfl:X2g.tmp t=x:=by simpa [X6R] using hr
   exact⟨_,rfl,(s.env t p hp).2⟩
 | cell c t =>
   simp only [X6R] at hr
   split at hr
   . rename_i l hl;obtain rfl:X2g.cell c l.1 l.2=x:=by simpa using hr
     simp only [X6a] at hp
     split at hp
     . rename_i q h' hq;cases hp;obtain⟨ad,val,hv,hrun,hrep⟩:=Ziq (P:=P) s hl hq;have hv':a.tmps.getD c undef=.pointer (some ad):=hv;exact⟨val,by simp [X3y,hv',asAddr,hrun],hrep⟩
     . simp at hp
   . simp at hr
theorem Zga (s:St' C Fr e h F φ a w):∀ {rs:List ResultVar} {xs:List X2g} {ps:List PV},X2Z P rs=some xs->X3k e h xs=some ps->∃ vs:List Value,(rs.mapM (X3y P a.tmps)).run P w=.ok vs w/\vs.length=ps.length/\∀ i,i<ps.length->Rep F φ (vs.getD i undef) (ps.getD i pvu):=by
 intro rs
 induction rs with
 | nil =>
   intro xs ps hx hp;obtain rfl : []=xs:=by simpa [X2Z] using hx
   obtain rfl : []=ps:=by simpa [X3k] using hp
   exact⟨[],rfl,rfl,fun i hi=>by simp at hi⟩
 | cons r rs ih =>
   intro xs ps hx hp;simp only [X2Z] at hx
   split at hx
   case h_2=>simp at hx
   rename_i x xs' h1 h2;obtain rfl:x :: xs'=xs:=by simpa using hx
   simp only [X3k] at hp
   split at hp
   case h_2=>simp at hp
   rename_i p ps' h3 h4;obtain rfl:p :: ps'=ps:=by simpa using hp
   obtain⟨v,hv,hrep⟩:=Zir s h1 h3;obtain⟨vs,hvs,hl,hreps⟩:=ih h2 h4;refine⟨v :: vs,by simp [hv,hvs],by simp [hl],fun i hi=>?_⟩;cases i with
   | zero=>simpa using hrep
   | succ i=>simpa using hreps i (by simpa using hi)
theorem Z8f (fn:Func) (tmps:Array Value):results fn tmps=(do let vs <- fn.results.mapM (X3y P tmps); Pure.pure (if h:vs.size=1 then vs[0] else .tuple vs)):=by
 unfold results;congr 1
theorem Z8g (s:St' C Fr e h F φ a w) {fn:Func} {rs:List X2g} (hr:X2Z P fn.results.toList=some rs) {p:PV} (hp:XZ rs e h=some p):∃ v,(results fn a.tmps).run P w=.ok v w/\Rep F φ v p:=by
 unfold XZ at hp;have main:∀ ps,X3k e h rs=some ps->∃ vs:List Value,(fn.results.mapM (X3y P a.tmps)).run P w=.ok vs.toArray w/\vs.length=ps.length/\∀ i,i<ps.length->Rep F φ (vs.getD i undef) (ps.getD i pvu):=by
  intro ps hps;obtain⟨vs,h1,h2,h3⟩:=Zga s hr hps;exact⟨vs,by rw [Y4J]; simp [h1],h2,h3⟩
 split at hp
 . rename_i q hq;cases hp;obtain⟨vs,h1,h2,h3⟩:=main _ hq;obtain⟨v,rfl⟩:∃ v,vs = [v]:=by
    cases vs with
    | nil=>simp at h2
    | cons v r => cases r with
      | nil=>exact⟨v,rfl⟩
      | cons _ _=>simp at h2
   exact⟨v,by rw [Z8f (P:=P),Y1a,h1]; simp,by simpa using h3 0 (by simp)⟩
 . rename_i ps hne hq;cases hp;obtain⟨vs,h1,h2,h3⟩:=main _ hq;refine⟨.tuple vs.toArray,?_,.tup _ _ (by simp [h2]) fun i hi=>?_⟩
   . have hne1 : vs.length ≠ 1 := by
      intro hl;rw [hl] at h2;cases ps with
      | nil=>simp at h2
      | cons p r => cases r with
        | nil=>exact hne p rfl
        | cons _ _=>simp at h2
     rw [Z8f (P:=P),Y1a,h1];simp [hne1]
   . have := h3 i hi;simpa [Y0d,Y0b] using this
 . simp at hp
theorem St'.turned (s:St' C Fr e h F φ a w) {w':World} {row:Option Nat} (hg:w.grownBy w' row) (hrow:∀ r,row=some r->C.w0.heap.size<=r/\∃ o:Obj,w.heap[r]?=some o/\o.isCells=false) (hrm:(∀ i b,h i=some b->0<b.esz) \/ ∀ r es t,row=some r->¬ w.heap[r]?=some (.map es t)) {a':Act} (ht:a'.tmps=a.tmps) (hm:X2b C.w0.heap.size a' w'):St' C Fr e h F φ a' w':=by
 have hrow':∀ r,row=some r->∃ o:Obj,w.heap[r]?=some o/\o.isCells=false:=fun r hr=>(hrow r hr).2
 refine { nt := by rw [ht]; exact s.nt, glob := s.glob, marks := hm, loc0 := s.loc0, free := s.free, env := fun k p hp => by rw [ht]; exact s.env k p hp, froz := fun x v hx => ?_, ext := s.ext, old := s.old, os := hg.os.trans s.os, tape := hg.tape.trans s.tape, output := hg.output.trans s.output,
          size:=Y03 s.size hg.size,kept:=fun k hk hG=>?_,live:=fun i b hb=>?_,sep:=s.sep }
 . obtain ⟨h1, h2, h3⟩ := s.froz x v hx;exact⟨h1,h2,cell_kept h3 hg hrow'⟩
 . rw [hg.block k (YY hk s.size) (fun e => by have := (hrow k e.symm).1; omega)];exact s.kept k hk hG
 . obtain ⟨loc, h1, h2, h3⟩ := s.live i b hb;rcases h2 with h2|h2
   . refine ⟨loc, h1, .inl (h2.mono (fun _ _ h => h) (fun _ _ h => h) fun k hk => ?_), h3⟩;obtain⟨hc,x,hx,rfl⟩:=hk;obtain⟨y,hy,_,cells,t,hgy,_⟩:=h2.room hc;obtain rfl:y=x:=by rw [hy] at hx; simpa using hx
     exact grownBy_keeps_cells hg hrow' hgy rfl
   . refine ⟨loc, h1, .inr (h2.mono (fun _ _ h => h) (fun _ _ h => h) fun k hk => ?_), h3⟩;obtain⟨hc,x,hx,rfl⟩:=hk;obtain⟨y,hy,es,t,hgy,_⟩:=h2.room;obtain rfl:y=x:=by rw [hy] at hx; simpa using hx
     refine hg.block y.block (YF.1 hgy).1 fun he=>?_;rcases hrm with hrm|hrm
     . have:=hrm i b hb; have:=h2.esz; omega
     . exact hrm y.block es t he.symm hgy
theorem Z3Z {FN:Fence} {m:Nat} {fn:Func} {tmps:Array Value} {R:Ending->World->Prop}:∀ (ds:List Deferred) {a:Act} {w:World},a.defers=ds->a.tmps=tmps->St' C Fr e h F φ a w->(∀ a' w',St' C Fr e h F φ a' w'->a'.tmps=tmps->∃ v,(results fn tmps).run P w'=.ok v w'/\R (.returned v) w') ->
 LeavesInM FN m P fn tmps R ds .returning w
 | [],a,w,hd,ht,s,hk=>hk a w s ht
 | d :: ds, a, w, hd, ht, s, hk => by
   obtain⟨D,rfl,hD,hw⟩:=s.marks.all d (by rw [hd]; simp);have hnd:=s.marks.nd;rw [hd,Y2Z] at hnd;refine⟨by simp,.inl ⟨D,_,rfl,run_takeDeferred hw,?_⟩⟩;have hm:X2b C.w0.heap.size { a with defers:=ds } (w.putObj D (.deferred none)):=by
    refine⟨hnd.2,fun d' hd'=>?_⟩;obtain⟨D',e1,e2,e3⟩:=s.marks.all d' (by rw [hd]; simp at hd' ⊢; exact .inr hd');refine⟨D',e1,e2,?_⟩;have hne:D'≠D:=by
     rintro rfl;exact hnd.1 (by rw [<- e1]; exact hd')
    exact (Y4M hne).trans e3
   exact Z3Z ds (a:={ a with defers:=ds }) rfl ht (s.turned (grownBy_putObj' w D _) (fun r hr=>by cases hr; exact⟨hD,_,hw,rfl⟩) (.inr fun r es t hr h=>by cases hr; rw [hw] at h; cases h) rfl hm) hk
theorem Z3 {f nt:Nat} {ac:X6} {rs:List X2g} (hf:X3O P f nt ac rs) {args:List PV} {R:PV->Prop} (hn:args.length<=nt) (hk:∀ C:Ctx,C.dom 0->aw P C ac (X85 rs R) 0 (XV args) (fun _=>none)):X7 P f args R:=by
 obtain⟨hm,fn,c,hfn,hname,hb,rfl,hc,hr⟩:=hf;refine⟨⟨fn,hfn,hname,by rw [hb]; rfl⟩,fun F w vs hF hv=>?_⟩;refine (callsIn_wide (n:=0)).1 (callsIn_of_wp_marks hfn hb Yt ?_ rfl)
 let C:Ctx:=⟨w,fun _=>False,F,fn.ntmps,fun _=>none⟩
 have hsz:vs.size=args.length:=hv.1;have s0:St' C (fun i=>0<=i) (XV args) (fun _=>none) F XP { tmps:=vs++Array.replicate (fn.ntmps-vs.size) undef,defers := [] } w:=by
  refine { nt := (by simp [C]; omega), glob := hF.2, marks := X2b.nil rfl, loc0 := fun i x hx => (by cases hx), free := fun _ _ => rfl, env := fun k p hp => ?_, froz := hF.1, ext := fun _ _ h => h, old := fun _ _ _ => rfl, os := rfl, tape := rfl, output := rfl, size := Y0m _, kept := fun _ _ _ => rfl,
           live:=fun id b hb=>(by cases hb),sep:=fun i j bi bj li lj k hi=>(by cases hi) }
  have hk:k<args.length:=(Y7.1 hp).1;refine⟨by simp [C]; omega,?_⟩;have:=hv.2 k hk;have e1:(vs++Array.replicate (fn.ntmps-vs.size) undef).getD k undef=vs.getD k undef:=by
   simp only [Y0d];rw [Y17 (by omega)]
  have e2:args.getD k pvu=p:=by
   rw [Y0b];have hp':args[k]?=some p:=hp;rw [hp']; rfl
  rw [e1,<- e2];exact this
 refine Y2C (hk C (fun _ _=>rfl) hm Fence.wide 0 ⟨Z6l 0,fun l hl=>by cases hl⟩ c hc _ w ⟨F,XP,s0⟩) fun x a' w' ⟨n,e,h,hQ,F',φ',s⟩=>?_;have fin:(∃ r0 r,XZ rs e h=some r0/\LoP r0 r/\r.pure/\R r)->LeavesInM Fence.wide 0 P fn a'.tmps (fun e w'=>∃ v' r F',e=.returned v'/\R r/\Rep F' XP v' r/\Below w.heap.size w w'/\Holds F' w'/\(∀ x u,F x=some u->F' x=some u)/\∀ x:Addr,x.block<w.heap.size->F' x=F x) a'.defers .returning w':=by
  rintro⟨r0,r,h0,hlo,hpure,hR⟩;refine Z3Z a'.defers rfl rfl s fun a2 w2 s2 ht=>?_;obtain⟨v,hrun,hrep⟩:=Z8g s2 hr h0;rw [ht] at hrun;exact⟨v,hrun,v,r,F',rfl,hR,(hlo.rep hrep).pure hpure,⟨s2.os,s2.tape,s2.output,s2.size,fun k hk=>s2.kept k hk fun h=>h⟩,⟨s2.froz,s2.glob⟩,s2.ext,fun x hx=>s2.old x hx fun h=>h⟩
 cases x with
 | normal=>exact fin hQ
 | ret=>exact fin hQ
 | _=>exact hQ.elim
def X6h (rs:List X2g) (R:Nat->PV->X2->Prop):Exit->Nat->Env->X2->Prop
 | .normal,n,e,h=>∃ r0 r,XZ rs e h=some r0/\LoP r0 r/\R n r h
 | .ret,n,e,h=>∃ r0 r,XZ rs e h=some r0/\LoP r0 r/\R n r h
 | _,_,_,_=>False
theorem Z18 {f nt:Nat} {ac:X6} {rs:List X2g} (hf:X3O P f nt ac rs) {n:Nat} {args:List PV} {h:X2} {R:Nat->PV->X2->Prop} (hn:args.length<=nt) (hk:∀ C:Ctx,C.dom n->aw P C ac (X6h rs R) n (XV args) h):XF P f n args h R:=by
 obtain⟨hm,fn,c,hfn,hname,hb,rfl,hc,hr⟩:=hf;refine⟨⟨fn,hfn,hname,by rw [hb]; rfl⟩,fun C e F φ a w vs s hv=>?_⟩;refine (callsIn_wide (n:=0)).1 (callsIn_of_wp_marks hfn hb Yt ?_ rfl)
 let C':Ctx:=⟨w,fun k=>∃ i b loc,h i=some b/\φ i=some loc/\loc.has k,F,fn.ntmps,φ⟩
 have hG:∀ k,C'.G k->C.w0.heap.size<=k \/ C.G k:=by
  rintro k ⟨i,b,loc,hi,hl,hk⟩;obtain⟨loc',h1,h2,h3⟩:=s.live i b hi;obtain rfl:loc'=loc:=by rw [h1] at hl; simpa using hl
  exact (h3 k hk).1
 have hcells:∀ k,C'.G k->¬ w.heap[k]?=some (.deferred (some [])):=by
  rintro k ⟨i,b,loc,hi,hl,hk⟩ ho;obtain⟨loc',h1,h2,_⟩:=s.live i b hi;obtain rfl:loc'=loc:=by rw [h1] at hl; simpa using hl
  rcases h2.there hk with⟨cells,t,hg⟩|⟨es,t,hg⟩
  . rw [hg] at ho; cases ho
  . rw [hg] at ho; cases ho
 have hsz:vs.size=args.length:=hv.1;have s0:St' C' (fun i=>n<=i) (XV args) h F φ { tmps:=vs++Array.replicate (fn.ntmps-vs.size) undef,defers := [] } w:=by
  refine { nt := (by simp [C']; omega), glob := s.glob, marks := X2b.nil rfl, loc0 := fun i x hx => hx, free := s.free, env := fun k p hp => ?_, froz := s.froz, ext := fun _ _ h => h, old := fun _ _ _ => rfl, os := rfl, tape := rfl, output := rfl, size := Y0m _, kept := fun _ _ _ => rfl,
           live:=fun id b hb=>?_,sep:=s.sep }
  . have hk : k < args.length := (Y7.1 hp).1;refine⟨by simp [C']; omega,?_⟩;have:=hv.2 k hk;have e1:(vs++Array.replicate (fn.ntmps-vs.size) undef).getD k undef=vs.getD k undef:=by
     simp only [Y0d];rw [Y17 (by omega)]
    have e2:args.getD k pvu=p:=by
     rw [Y0b];have hp':args[k]?=some p:=hp;rw [hp']; rfl
    rw [e1,<- e2];exact this
  . obtain ⟨loc, h1, h2, h3⟩ := s.live id b hb;exact⟨loc,h1,h2,fun k hk=>⟨.inr ⟨id,b,loc,hb,h1,hk⟩,(h3 k hk).2⟩⟩
 refine Y2C (hk C' s.free hm Fence.wide 0 ⟨Z6l 0,fun l hl=>by cases hl⟩ c hc _ w ⟨F,φ,s0⟩) fun x a' w' ⟨n',e',h',hQ,F',φ',s'⟩=>?_;have back:∀ {a2:Act} {w':World},St' C' (fun i=>n'<=i) e' h' F' φ' a2 w'->St' C (fun i=>n'<=i) e h' F' φ' a w':=fun {a2 w'} s'=>by
  refine { nt := s.nt, glob := s'.glob, marks := s.marks.mono (fun k hk => by rw [s'.kept k (YF.1 hk).1 (fun hg => hcells k hg hk)]; exact hk), loc0 := fun i x hx => s'.loc0 i x (s.loc0 i x hx), free := s'.free, env := fun k p hp => ⟨(s.env k p hp).1, (s.env k p hp).2.mono s'.ext s'.loc0⟩, froz := s'.froz, ext := fun x v hx => s'.ext _ _ (s.ext x v hx),
           old:=fun x hx hg=>?_,os:=s'.os.trans s.os,tape:=s'.tape.trans s.tape,output:=s'.output.trans s.output,size:=Y03 s.size s'.size,kept:=fun k hk hg=>?_,live:=fun i b hi=>?_,sep:=s'.sep }
  . have hx2 : x.block < w.heap.size := YY hx s.size;rw [s'.old x hx2 fun hg'=>(hG _ hg').elim (fun h1=>absurd hx (Y3j.2 h1)) hg];exact s.old x hx hg
  . rw [s'.kept k (YY hk s.size) fun hg' => (hG _ hg').elim (fun h1 => absurd hk (Y3j.2 h1)) hg];exact s.kept k hk hg
  . obtain ⟨loc, h1, h2, h3⟩ := s'.live i b hi;refine⟨loc,h1,h2,fun k hk=>⟨?_,(h3 k hk).2⟩⟩;rcases (h3 k hk).1 with h4|h4
    . exact .inl (Y03 s.size h4)
    . exact hG k h4
 have fin:(∃ r0 r,XZ rs e' h'=some r0/\LoP r0 r/\R n' r h')->LeavesInM Fence.wide 0 P fn a'.tmps (fun en w'=>∃ v' r n1 h1 F1 φ1,en=.returned v'/\R n1 r h1/\Rep F1 φ1 v' r/\St' C (fun i=>n1<=i) e h1 F1 φ1 a w') a'.defers .returning w':=by
  rintro⟨r0,r,h0,hlo,hR⟩;refine Z3Z a'.defers rfl rfl s' fun a2 w2 s2 ht=>?_;obtain⟨v,hrun,hrep⟩:=Z8g s2 hr h0;rw [ht] at hrun;exact⟨v,hrun,v,r,n',h',F',φ',rfl,hR,hlo.rep hrep,back s2⟩
 cases x with
 | normal=>exact fin hQ
 | ret=>exact fin hQ
 | _=>exact hQ.elim
def X1D:List (Nat×PV)->Env
 | []=>fun _=>none
 | (k,p) :: r=>(X1D r).upd k p
def Xv:List (Nat×Bx)->X2
 | []=>fun _=>none
 | (k,b) :: r=>(Xv r).upd k b
theorem Zah {L:List (Nat×PV)} {k:Nat} {p:PV} (h:X1D L k=some p):(k,p)∈L:=by
 induction L with
 | nil=>cases h
 | cons q r ih =>
   obtain⟨k',p'⟩:=q;simp only [X1D] at h;by_cases hk:k=k'
   . subst hk; rw [Env.upd_same] at h; cases h; simp
   . rw [Env.upd_ne _ _ hk] at h; simp [ih h]
theorem Z1r {L:List (Nat×Bx)} {k:Nat} {p:Bx} (h:Xv L k=some p):(k,p)∈L:=by
 induction L with
 | nil=>cases h
 | cons q r ih =>
   obtain⟨k',p'⟩:=q;simp only [Xv] at h;by_cases hk:k=k'
   . subst hk; rw [X2.upd_same] at h; cases h; simp
   . rw [X2.upd_ne _ _ hk] at h; simp [ih h]
inductive X1J (ρ:Nat->Nat) (D:Nat->Prop):PV->PV->Prop
 | pure (p:PV) (hp:p.pure):X1J ρ D p p
 | own (id:Nat) (hd:D id):X1J ρ D (.own (ρ id)) (.own id)
 | ptr (id i off:Nat) (hd:D id):X1J ρ D (.ptr (ρ id) i off) (.ptr id i off)
 | view (id lo len:Nat) (hd:D id):X1J ρ D (.view (ρ id) lo len) (.view id lo len)
 | sl (id i off len cap:Nat) (hd:D id):X1J ρ D (.sl (ρ id) i off len cap) (.sl id i off len cap)
 | mp (id:Nat) (hd:D id):X1J ρ D (.mp (ρ id)) (.mp id)
 | agg (l m:List PV) (hl:l.length=m.length) (h:∀ i,i<l.length->X1J ρ D (l.getD i pvu) (m.getD i pvu)):X1J ρ D (.agg l) (.agg m)
 | low (p:PV) (hp:p.low.pure):X1J ρ D p p.low
 | same (p:PV) (hp:p.inn fun i=>D i/\ρ i=i):X1J ρ D p p
theorem X1J.rep {ρ:Nat->Nat} {D:Nat->Prop} {φ':XO} (hφ:∀ i x,D i->φ (ρ i)=some x->φ' i=some x) {p0 p:PV} (hr:X1J ρ D p0 p):∀ {v:Value},Rep F φ v p0->Rep F φ' v p:=by
 induction hr with
 | pure p hp=>exact fun h=>h.pure hp
 | own id hd=>intro v h; obtain⟨loc,h1,hz,rfl⟩:=h.own_inv; exact .own id loc (hφ _ _ hd h1) hz
 | view id lo len hd=>intro v h; obtain⟨loc,b,h1,hz,hl,hb,rfl⟩:=h.view_inv; exact .view id lo len loc b (hφ _ _ hd h1) hz hl hb
 | sl id i off len cap hd=>intro v h; obtain⟨loc,x,h1,hz,hb,hs,hl,rfl⟩:=h.sl_inv; exact .sl id i off len cap loc x (hφ _ _ hd h1) hz hb hs hl
 | mp id hd=>intro v h; obtain⟨loc,x,h1,hz,hb,rfl⟩:=h.mp_inv; exact .mp id loc x (hφ _ _ hd h1) hz hb
 | ptr id i off hd=>intro v h; obtain⟨loc,x,h1,hz,h2,h3,rfl⟩:=h.ptr_inv; exact .ptr id i off loc x (hφ _ _ hd h1) hz h2 h3
 | agg l m hl _ ih =>
   intro v h;obtain⟨vs,rfl,h1,h2,h3⟩:=h.agg_inv;exact .agg vs m (by rw [h1,hl]) (fun i hi=>h2 i (by rw [hl]; exact hi)) fun i hi=>ih i (by rw [hl]; exact hi) (h3 i (by rw [hl]; exact hi))
 | low p hp=>exact fun h=>h.low.pure hp
 | same p hp=>exact fun h=>h.inn (fun i x hi hx=>hφ i x hi.1 (by rw [hi.2]; exact hx)) hp
inductive Xw (ρ:Nat->Nat) (D:Nat->Prop):Bx->Bx->Prop
 | same (b:Bx) (hp:X1 b.elems):Xw ρ D b b
 | gen (b0 b:Bx) (hz:0<b.esz) (he:b0.esz=b.esz) (hl:b0.elems.length=b.elems.length) (hc:∀ i,i<b.elems.length->(b0.elems.getD i []).length=(b.elems.getD i []).length) (h:∀ i j,i<b.elems.length->j<b.esz->X1J ρ D ((b0.elems.getD i []).getD j pvu) ((b.elems.getD i []).getD j pvu)):Xw ρ D b0 b
theorem St'.ren {F:XL} {φ:XO} {a:Act} {w:World} {n:Nat} (s:St' C (fun i=>n<=i) e h F φ a w) (ρ:Nat->Nat) {n':Nat} {L:List (Nat×PV)} {HL:List (Nat×Bx)} (he:∀ q∈L,∃ p0,e q.1=some p0/\X1J ρ (fun i=>i<n') p0 q.2) (hh:∀ q∈HL,q.1<n'/\∃ b0,h (ρ q.1)=some b0/\Xw ρ (fun i=>i<n') b0 q.2)
 (hinj:∀ q∈HL,∀ q'∈HL,ρ q.1=ρ q'.1->q.1=q'.1) {m:Nat} (hdom:C.dom m) (hm:m<=n') (hρ:∀ i,i<m->ρ i=i):∃ φ',St' C (fun i=>n'<=i) (X1D L) (Xv HL) F φ' a w:=by
 let φ':XO:=fun i=>if i<n' then φ (ρ i) else none
 have hφ:∀ i x,i<n'->φ (ρ i)=some x->φ' i=some x:=fun i x hi hx=>by simp only [φ',hi,Y25]; exact hx
 refine⟨φ',{ nt:=s.nt,glob:=s.glob,marks:=s.marks,loc0:=fun i x hx=>?_,free:=fun i hi=>?_,env:=fun k p hp=>?_,froz:=s.froz,ext:=s.ext,old:=s.old,os:=s.os,tape:=s.tape,output:=s.output,size:=s.size,kept:=s.kept,live:=fun i b hb=>?_,sep:=?_ }⟩
 . have : ¬ i < n' := by omega
   simp only [φ',this,Y26]
 . obtain ⟨p0, h0, hr⟩ := he _ (Zah hp);exact⟨(s.env k p0 h0).1,hr.rep hφ (s.env k p0 h0).2⟩
 . by_cases him : i < m
   . exact hφ i x (by omega) (by rw [hρ i him]; exact s.loc0 i x hx)
   . rw [hdom i (by omega)] at hx; cases hx
 . obtain ⟨hi, b0, h0, hr⟩ := hh _ (Z1r hb);obtain⟨loc,h1,h2,h3⟩:=s.live _ b0 h0;refine⟨loc,hφ i loc hi h1,?_,h3⟩;cases hr with
   | same hp=>exact h2.names hp
   | gen _ hz he hl hcl hrp =>
     have h2:=h2.cellsB (by rw [he]; exact hz);refine .inl ⟨by rw [<- he]; exact h2.esz,h2.pos,by rw [<- hl]; exact h2.len,h2.cap,h2.max,fun c hc=>?_,fun hc=>?_⟩
     . obtain ⟨k, hk, rfl⟩ := Y1d hc;have e1:b.elems[k]=b.elems.getD k []:=by simp [Y0b,hk]
       rw [e1,<- hcl k hk]
       exact h2.el _ (by have hk' : k < b0.elems.length := by rw [hl]; exact hk
                         simp [Y0b,hk'])
     . obtain ⟨x, hx, hs, cells, t, hg, hsz, hrep⟩ := h2.room hc;refine⟨x,hx,hs,cells,t,hg,hsz,fun i j hi hj=>⟨(hrep i j hi hj).1,?_⟩⟩;exact (hrp i j (by rw [<- hl,h2.len]; exact hi) (by rw [<- he,h2.esz]; exact hj)).rep hφ (hrep i j hi hj).2
 . intro i j bi bj li lj k hi hj hli hlj hki hkj;obtain⟨hin,b0,h0,_⟩:=hh _ (Z1r hi);obtain⟨hjn,c0,g0,_⟩:=hh _ (Z1r hj);have hli':φ (ρ i)=some li:=by simpa only [φ',show i<n' from hin,Y25] using hli
   have hlj':φ (ρ j)=some lj:=by simpa only [φ',show j<n' from hjn,Y25] using hlj
   exact hinj _ (Z1r hi) _ (Z1r hj) (s.sep _ _ b0 c0 li lj k h0 g0 hli' hlj' hki hkj)
theorem ZbL (ρ:Nat->Nat) {n n':Nat} {L:List (Nat×PV)} {HL:List (Nat×Bx)} (he:∀ q∈L,∃ p0,e q.1=some p0/\X1J ρ (fun i=>i<n') p0 q.2) (hh:∀ q∈HL,q.1<n'/\∃ b0,h (ρ q.1)=some b0/\Xw ρ (fun i=>i<n') b0 q.2)
 (hinj:∀ q∈HL,∀ q'∈HL,ρ q.1=ρ q'.1->q.1=q'.1) {m:Nat} (hdom:C.dom m) (hm:m<=n') (hρ:∀ i,i<m->ρ i=i):Sub C n e h n' (X1D L) (Xv HL):=by
 rintro a w ⟨F,φ,s⟩;obtain⟨φ',s'⟩:=s.ren ρ he hh hinj hdom hm hρ;exact⟨F,φ',s'⟩
theorem Z30 {n n':Nat} {L:List (Nat×PV)} {HL:List (Nat×Bx)} (he:∀ q∈L,∃ p0,e q.1=some p0/\X1J (fun i=>i) (fun i=>i<n') p0 q.2) (hh:∀ q∈HL,q.1<n'/\∃ b0,h q.1=some b0/\Xw (fun i=>i) (fun i=>i<n') b0 q.2) {m:Nat} (hdom:C.dom m) (hm:m<=n'):Sub C n e h n' (X1D L) (Xv HL) :=
 ZbL (fun i=>i) he hh (fun _ _ _ _ h=>h) hdom hm fun _ _=>rfl
theorem Z74 {n n' n'' : Nat} {e' e'' : Env} {h' h'' : X2} (h1 : Sub C n e h n' e' h') (h2 : Sub C n' e' h' n'' e'' h'') : Sub C n e h n'' e'' h'' := fun a w hs => h2 a w (h1 a w hs)
theorem Z9a {n:Nat}:Sub C n e h n e h:=fun _ _ hs=>hs
theorem Z8h {n k:Nat} (hk:e k=some (.vec [] true)) (esz:Nat) (hp:0<esz):Sub C n e h (n+1) (e.upd k (.own n)) (h.upd n ⟨esz,[]⟩):=by
 rintro a w ⟨F,φ,s⟩;obtain⟨hlt,hr⟩:=s.env k _ hk;have hbase:∃ base,a.tmps.getD k undef=.slice base 0 0:=by
  rcases hr.vec_inv with⟨_,h⟩|⟨x,cap,esz',cs,h,_,_,hf,_⟩
  . exact⟨none,h⟩
  . exact⟨some x,by rw [h,hf rfl]; rfl⟩
 obtain⟨base,hb⟩:=hbase;have s':=s.allocNil (Y0m n) base esz hp;have hfr:∀ i,n+1<=i->n<=i/\i≠n:=fun i hi=>⟨by omega,by omega⟩
 refine⟨F,_,{ s'.weaken hfr with env:=fun j p hj=>?_ }⟩;by_cases hjk:j=k
 . subst hjk;rw [Env.upd_same] at hj;cases hj;refine⟨hlt,?_⟩;rw [hb];exact .own n ⟨base,esz,0,0⟩ (by simp [X8]) hp
 . rw [Env.upd_ne _ _ hjk] at hj;exact s'.env j p hj
theorem Z8i {n k id:Nat} {b:Bx} (hk:e k=some (.own id)) (hb:h id=some b) (hp:X1 b.elems):Sub C n e h n (e.upd k (.vec b.elems false)) (h.del id):=fun _ _ hst=>St.frzSlot hst hk hb
theorem Z2u {n k id:Nat} {esz:Nat} {l:List PV} (hk:e k=some (.ptr id 0 0)) (hb:h id=some ⟨esz,[l]⟩):Sub C n e h n (e.upd k (.cp l)) (h.del id):=by
 rintro a w ⟨F,φ,s⟩;obtain⟨hlt,hr⟩:=s.env k _ hk;obtain⟨loc,x,hl,hz,hbase,hsx,hv⟩:=hr.ptr_inv;obtain⟨loc',h1,h2,h3⟩:=s.live id _ hb;obtain rfl:loc'=loc:=by rw [h1] at hl; simpa using hl
 have h2:=h2.cells hz;have hlen:loc'.len=1:=by rw [<- h2.len]; rfl
 have hc0:loc'.cap≠0:=by have:=h2.cap; omega
 have s1:St' C (fun i=>n<=i) e (h.del id) F φ a w:=s.sub (fun _ _ h=>h) (fun _ _ hh=>(X2.del_some hh).2);obtain⟨ad,hbase',hs,cells,ct,hg,hroom,hrep⟩:=h2.room hc0;obtain rfl:ad=x:=by rw [hbase'] at hbase; simpa using hbase
 have hhas:loc'.has ad.block:=⟨hc0,ad,hbase',rfl⟩
 have s2:=s1.frz hg (h3 _ hhas).2 (s.del_no hb h1 hhas) (h3 _ hhas).1;have hx:=Z29 (h3 _ hhas).2 cells;have hll:l.length=loc'.esz:=h2.el l (by simp);refine⟨_,φ,{ s2 with env:=fun j p hj=>?_ }⟩;by_cases hjk:j=k
 . subst hjk;rw [Env.upd_same] at hj;cases hj;refine⟨hlt,?_⟩;rw [hv];simp only [Y3U,Y15,Y1k];rw [<- Z5f ad hs];have hlt2:∀ j,j<l.length->ad.off+j<cells.size:=fun j hj=>by
    have:=Z2r (n:=loc'.cap) (i:=0) (j:=j) (esz:=loc'.esz) (by omega) (by omega);omega
   refine .cp ad l (fun j=>cells.getD (ad.off+j) undef) hs (fun j hj=>?_) (fun j hj=>?_)
   . have := hrep 0 j (by omega) (by omega);simp only [Y3U,Y15] at this;exact Z28 F _ _ (hlt2 j hj) this.1
   . have := hrep 0 j (by omega) (by omega);simp only [Y3U,Y15] at this;exact this.2.mono hx fun _ _ h=>h
 . rw [Env.upd_ne _ _ hjk] at hj;exact s2.env j p hj
theorem Z40 {ac:X6} {Q:Exit->Nat->Env->X2->Prop} {n k:Nat} {l:List (List PV)} {full:Bool} (hk:e k=some (.vec l full)) (hw:l.length<=Xj->aw P C ac Q n e h):aw P C ac Q n e h:=by
 intro hm FN m hok c hc a w hs;refine hw ?_ hm FN m hok c hc a w hs;obtain⟨F,φ,s⟩:=hs;rcases (s.env k _ hk).2.vec_inv with⟨rfl,_⟩|⟨x,cap,esz,cs,_,_,_,_,hmax,_⟩
 . exact Y0l _
 . exact hmax
theorem Zku {op:AOp} {n:Nat} {p:PV} {h':X2} {K:PV->X2->Prop} (hn:Xa op=false) (hd:X3 op e h n=some (p,h') \/ XH op e h n=some (p,h')) (hk:K p h'):opK P op n e h K:=by
 have:∃ p h',(X3 op e h n=some (p,h') \/ XH op e h n=some (p,h'))/\K p h':=⟨p,h',hd,hk⟩
 cases op<;>first|exact this|(simp [Xa] at hn; done)|skip
 rcases hd with hd|hd
 . exact .inl ⟨p,h',hd,hk⟩
 . simp [XH] at hd
theorem Zgb {neg:Bool} {x:Operand} {n:Nat} {K:PV->X2->Prop} (hx:(∃ l fl,ev e x=some (.vec l fl)) \/ ∃ k,ev e x=some (.own k)) (hk:∀ b,K (.val (.bool b)) h):opK P (.isnil neg x) n e h K:=.inr ⟨hx,hk⟩
theorem ZlF {z:Rsv} {n:Nat} {K:Env->X2->Prop} (hk:K e h):dK P z n [] e h K:=hk
theorem ZjV {z:Rsv} {n i mask:Nat} {d:Option Nat} {op:AOp} {iso:Nat} {alt:Bool} {xs:List Xd} {K:Env->X2->Prop} {p:PV} {h':X2} (hd:X2f alt op e h (n+i)=some (p,h')) (ha:X1j z op e n i mask iso=true) (hn:Xa op=false) (hk:dK P z n xs (XC e d p) h' K):dK P z n (⟨i,⟨d,op,none⟩,mask,iso,alt⟩ :: xs) e h K:=by
 obtain⟨f,rfl,h1,h2,h3⟩:=Zg5 hd ha;refine⟨_,.det rfl hn p f ⟨h1,h2,h3⟩,?_⟩;rintro p' f' ⟨rfl,rfl⟩;exact hk
theorem Z41 {z:Rsv} {n i mask:Nat} {d:Option Nat} {f:Operand} {args:List Operand} {iso:Nat} {alt:Bool} {xs:List Xd} {K:Env->X2->Prop} {g:FuncId} {caps as0 args':List PV} {R:PV->Prop} (hf:ev e f=some (.fn g caps)) (ha:evs e args=some as0) (hlo:LoL (as0++caps) args')
 (hs:X7 P g args' R) (hp:X5 args') (hk:∀ r,R r->dK P z n xs (XC e d r) h K):dK P z n (⟨i,⟨d,.call f args,none⟩,mask,iso,alt⟩ :: xs) e h K:=by
 refine⟨_,.call rfl f args rfl R ⟨g,caps,as0,hf,ha,.of hlo hp hs⟩,?_⟩;rintro p' f' ⟨hr,rfl⟩;exact hk p' hr
theorem Zmu {n i mask k j:Nat} {d:Option Nat} {f:Operand} {args:List Operand} {iso:Nat} {alt:Bool} {xs:List Xd} {K:Env->X2->Prop} {g:FuncId} {caps as0 args':List PV} {b:Bx} {v:Value} (hs:X7 P g args' (· = .val v)) (hf:ev e f=some (.fn g caps)) (ha:evs e args=some as0) (hi:(as0++caps)[j]?=some (.own k)) (hb:h k=some b) (hset:(as0++caps).set j (.vec b.elems false)=args') (hpb:X1 b.elems) (hpr:X5 args')
 (hk:dK P (.to k) n xs (XC e d (.val v)) (h.upd k b) K):dK P (.to k) n (⟨i,⟨d,.call f args,none⟩,mask,iso,alt⟩ :: xs) e h K:=by
 refine⟨_,.callP rfl f args rfl k rfl b hb (fun r b'=>r=.val v/\b'=b) ⟨g,caps,as0,hf,ha,hs.prun hi hset hpb hpr⟩,?_⟩;rintro p' f' ⟨b',rfl,h1,h2,rfl,rfl⟩;exact hk
theorem Z6F {z:Rsv} {n i mask:Nat} {d:Option Nat} {f:Operand} {args:List Operand} {iso:Nat} {alt:Bool} {xs:List Xd} {K:Env->X2->Prop} {g:FuncId} {caps as0 args':List PV} {mk:Nat->PV} {b:Bx} (hs:X1y P g args' mk b) (hmk:Mk mk) (hpb:X1 b.elems) (hf:ev e f=some (.fn g caps)) (ha:evs e args=some as0) (ha':as0++caps=args') (hp:X5 args')
 (hk:dK P z n xs (XC e d (mk (n+i))) (h.upd (n+i) b) K):dK P z n (⟨i,⟨d,.call f args,none⟩,mask,iso,alt⟩ :: xs) e h K:=by
 subst ha';refine⟨_,.callN rfl f args rfl none (fun _ _ h=>by cases h) mk b ⟨g,caps,as0,hf,ha,hs.nrun hmk hpb hp⟩,?_⟩;rintro p' f' ⟨rfl,rfl⟩;exact hk
theorem ZbM {z:Rsv} {n i mask:Nat} {d:Nat} {zz:List Value} {bytes:Nat} {sx y:Operand} {iso:Nat} {xs:List Xd} {K:Env->X2->Prop} {k:Nat} {b:Bx} {m:List (List PV)} {fl:Bool} (hs:ev e sx=some (.own k)) (hy:ev e y=some (.vec m fl)) (hb:h k=some b) (hm:∀ c∈m,c.length=zz.length) (he:b.esz=zz.length) (hby:(b.elems.length+m.length)*bytes<=140737488355328) (hp:X1 (b.elems++m)) (h1:X1X z n i mask k=true) (h2:okW z n i iso k=true)
 (hk:dK P z n xs (e.upd d (.vec (b.elems++m) false)) (h.del k) K):dK P z n (⟨i,⟨some d,.append zz bytes sx y,none⟩,mask,iso,true⟩ :: xs) e h K:=by
 refine⟨_,.detF rfl rfl d rfl zz bytes sx y rfl k b m fl hs hy hb ⟨hm,he,hby⟩ hp ⟨h1,h2⟩,?_⟩;rintro p' f' ⟨rfl,rfl⟩;exact hk
theorem Zdm {z:Rsv} {n:Nat} {x:Xd} {xs:List Xd} {K:Env->X2->Prop} {s:Nat} {b c:Bool} (hg:x.o.guard=some (s,b)) (hs:e s=some (.val (.bool c))) (ht:c=b->dK P z n (⟨x.i,⟨x.o.dst,x.o.op,none⟩,x.mask,x.iso,x.alt⟩ :: xs) e h K) (hf:c≠b->dK P z n xs (XC e x.o.dst pvu) h K):dK P z n (x :: xs) e h K:=by
 have hw:X1w x.o.guard e=some (c == b):=by simp only [X1w,hg,hs]
 by_cases hcb:c=b
 . obtain ⟨T, hT, hK⟩ := ht hcb;have hw':X1w x.o.guard e=some true:=by rw [hw,hcb]; simp
   refine⟨T,?_,hK⟩;cases hT with
   | skip h=>cases h
   | call _ f args ho R hc=>exact .call hw' f args ho R hc
   | callP _ f args ho id hz b hb R hc=>exact .callP hw' f args ho id hz b hb R hc
   | callN _ f args ho rd hrd mk b hc=>exact .callN hw' f args ho rd hrd mk b hc
   | callD _ f args ho d hdst k hz b b' hb hc=>exact .callD hw' f args ho d hdst k hz b b' hb hc
   | detF _ ha d hd0 zz bytes sx y ho k b mm fl hsx hyx hbk hcond hpp hacc=>exact .detF hw' ha d hd0 zz bytes sx y ho k b mm fl hsx hyx hbk hcond hpp hacc
   | det _ hn p f hd=>exact .det hw' hn p f ⟨hd.eff,hd.touch,hd.run⟩
 . refine ⟨_, .skip (by rw [hw]; simp [hcb]), ?_⟩;rintro p' f' ⟨rfl,rfl⟩;exact hf hcb
end
end
section
open Go.RowKit
attribute [local irreducible] aw Xr dK
section
variable {P:Program} {C:Ctx} {e:Env} {h:X2} {n:Nat} {K:Nat->Env->X2->Prop} {os:List Xs} {d:Option Nat} {Q:Exit->Nat->Env->X2->Prop}
def X4k (g:Option (Nat×Bool)) (e:Env):Option Bool :=
 match g with
 | none=>some true
 | some (s, b) => match e s with
   | some (.val (.bool c))=>some (c == b)
   | some (.val (.tuple _))=>some false
   | _=>none
theorem Zdn {g:Option (Nat×Bool)} {A B:Prop} {b:Bool} (h:X4k g e=some b) (hk:if b=true then A else B):X3d g e A B:=by
 unfold X4k at h;unfold X3d
 split at h
 . cases h; exact hk
 . split at h
   . rename_i c hc;cases h
     try simp only [hc]
     split
     . rename_i hcb; subst hcb; simpa using hk
     . rename_i hcb; simpa [hcb] using hk
   . rename_i c hc;cases h
     try simp only [hc]
     simpa using hk
   . cases h
theorem Z5l:X4m n e h n e h:=fun _ _ _ h=>h
theorem Zn {op:AOp} {g:Nat×Bool} (hw:X4k (some g) e=some true) (hk:Xr P (⟨d,op,none⟩ :: os) n e h K):Xr P (⟨d,op,some g⟩ :: os) n e h K:=by
 unfold Xr at hk ⊢;exact Zdn hw (by simpa [X3d] using hk)
theorem Za {n':Nat} {e':Env} {h':X2} (hs:X4m n e h n' e' h') {op:AOp} (hk:Xr P (⟨d,op,none⟩ :: os) n' e' h' K):Xr P (⟨d,op,none⟩ :: os) n e h K:=by
 unfold Xr at hk ⊢;simp only [X3d] at hk ⊢;obtain⟨n1,e1,h1,hs1,hk⟩:=hk;exact⟨n1,e1,h1,fun C a w hst=>hs1 C a w (hs C a w hst),hk⟩
theorem Z6G {op:AOp} {g:Nat×Bool} (hw:X4k (some g) e=some false) (hk:Xr P os n (XC e d pvu) h K):Xr P (⟨d,op,some g⟩ :: os) n e h K:=by
 unfold Xr;exact Zdn hw (by simpa using hk)
theorem opsK_of' {op:AOp} {p:PV} {h':X2} (hd:X3 op e h n=some (p,h') \/ XH op e h n=some (p,h')) (hn:Xa op=false) (hk:Xr P os (bmp h' n) (XC e d p) h' K):Xr P (⟨d,op,none⟩ :: os) n e h K:=by
 unfold Xr;exact⟨n,e,h,Z5l,.inl (Zku hn hd hk)⟩
theorem Z6H (hz:h n=none):bmp h n=n:=by simp [bmp,hz]
theorem Zdo {b:Bx} (hz:h n=some b):bmp h n=n+1:=by simp [bmp,hz]
theorem Z0 {op:AOp} {p:PV} {h':X2} (hd:X3 op e h n=some (p,h')) (hn:Xa op=false) (hz:h' n=none) (hk:Xr P os n (XC e d p) h' K):Xr P (⟨d,op,none⟩ :: os) n e h K :=
 opsK_of' (.inl hd) hn (by rw [Z6H hz]; exact hk)
theorem ZH {op:AOp} {p:PV} {h':X2} {b:Bx} (hd:X3 op e h n=some (p,h')) (hn:Xa op=false) (hz:h' n=some b) (hk:Xr P os (n+1) (XC e d p) h' K):Xr P (⟨d,op,none⟩ :: os) n e h K :=
 opsK_of' (.inl hd) hn (by rw [Zdo hz]; exact hk)
theorem Z5 {op:AOp} {p:PV} {h':X2} (hd:XH op e h n=some (p,h')) (hn:Xa op=false) (hz:h' n=none) (hk:Xr P os n (XC e d p) h' K):Xr P (⟨d,op,none⟩ :: os) n e h K :=
 opsK_of' (.inr hd) hn (by rw [Z6H hz]; exact hk)
theorem Z2c {op:AOp} {p:PV} {h':X2} {b:Bx} (hd:XH op e h n=some (p,h')) (hn:Xa op=false) (hz:h' n=some b) (hk:Xr P os (n+1) (XC e d p) h' K):Xr P (⟨d,op,none⟩ :: os) n e h K :=
 opsK_of' (.inr hd) hn (by rw [Zdo hz]; exact hk)
theorem Zt {op:AOp} {b:Bool} {h':X2} (hd:X3 op e h n=some (.val (.bool b),h')) (hn:Xa op=false) (hz:h' n=none) (ht:b=true->Xr P os n (XC e d (.val (.bool true))) h' K) (hf:b=false->Xr P os n (XC e d (.val (.bool false))) h' K):Xr P (⟨d,op,none⟩ :: os) n e h K:=by
 cases b with
 | true=>exact Z0 hd hn hz (ht rfl)
 | false=>exact Z0 hd hn hz (hf rfl)
theorem Zw {f:Operand} {args:List Operand} {g:FuncId} {caps as0:List PV} {R:PV->Prop} (hf:ev e f=some (.fn g caps)) (ha:evs e args=some as0) (hs:X7 P g (as0++caps) R) (hp:X5 (as0++caps)) (hz:h n=none) (hk:∀ r,R r->Xr P os n (XC e d r) h K) :
 Xr P (⟨d,.call f args,none⟩ :: os) n e h K:=by
 unfold Xr;exact⟨n,e,h,Z5l,.inl ⟨g,caps,as0,R,hf,ha,.of (.inl rfl) hp hs,fun r hr=>by show Xr P os (bmp h n) (XC e d r) h K; rw [Z6H hz]; exact hk r hr⟩⟩
theorem Z6 {f:Operand} {args:List Operand} {g:FuncId} {caps as0 args':List PV} {v:PV} (hs:X7 P g args' (· = v)) (hf:ev e f=some (.fn g caps)) (ha:evs e args=some as0) (ha':as0++caps=args') (hp:X5 args') (hz:h n=none) (hk:Xr P os n (XC e d v) h K) :
 Xr P (⟨d,.call f args,none⟩ :: os) n e h K:=by
 subst ha';exact Zw hf ha hs hp hz fun _ hr=>hr▸hk
theorem Z10 {f:Operand} {args:List Operand} {g:FuncId} {caps as0:List PV} {R:Nat->PV->X2->Prop} (hf:ev e f=some (.fn g caps)) (ha:evs e args=some as0)
 (hs:XF P g n (as0++caps) h R) (hk:∀ n' r h',R n' r h'->Xr P os n' (XC e d r) h' K):Xr P (⟨d,.call f args,none⟩ :: os) n e h K:=by
 unfold Xr;exact⟨n,e,h,Z5l,.inr ⟨f,args,g,caps,as0,R,rfl,hf,ha,hs,hk⟩⟩
theorem Z1M (hk:K n e h):Xr P [] n e h K:=by unfold Xr; exact hk
theorem Z8j {α:Type} {esz:Nat} {x i:Operand} {xs:List α} {g:α->List PV} {fl:Bool} {k:IntKind} {m:Int} (hx:ev e x=some (.vec (xs.map g) fl)) (hi:ev e i=some (.val (.int k m))) (j:Nat) (hm:m=(j:Int)) (hj:j<xs.length) (hl:(g xs[j]).length=esz)
 (hz:h n=none) (hk:Xr P os n (XC e d (.cp (g xs[j]))) h K):Xr P (⟨d,.iaddr esz x i,none⟩ :: os) n e h K:=by
 subst hm;have e1:(xs.map g).getD (j:Int).toNat []=g xs[j]:=by simp [Y0b,hj]
 refine Z0 (p:=.cp (g xs[j])) (h':=h) ?_ rfl hz hk;simp only [X3,hx,hi,e1,hl];rw [Y6 ⟨by omega,by simp; omega⟩]; simp
theorem Z3w {x y:Operand} {k k':IntKind} {a b:Int} (hx:ev e x=some (.val (.int k a))) (hy:ev e y=some (.val (.int k' b))) (hb:0<=b) {v:Int} (hv:k.wrap (a*2 ^ (min b.toNat k.bits))=v) (hz:h n=none) (hk:Xr P os n (XC e d (.val (.int k v))) h K):Xr P (⟨d,.bin .shl .num x y,none⟩ :: os) n e h K :=
 Z0 (p:=.val (.int k v)) (h':=h) (by simp [X3,hx,hy,X4l,X53,hb,hv]) rfl hz hk
theorem Z3x {x y:Operand} {k k':IntKind} {a b:Int} (hx:ev e x=some (.val (.int k a))) (hy:ev e y=some (.val (.int k' b))) (hb:0<=b) {v:Int} (hv:a.fdiv (2 ^ (min b.toNat k.bits))=v) (hz:h n=none) (hk:Xr P os n (XC e d (.val (.int k v))) h K):Xr P (⟨d,.bin .shr .num x y,none⟩ :: os) n e h K :=
 Z0 (p:=.val (.int k v)) (h':=h) (by simp [X3,hx,hy,X4l,X53,hb,hv]) rfl hz hk
theorem Ze {op:AOp} {k:IntKind} {a v:Int} {h':X2} (hd:X3 op e h n=some (.val (.int k a),h')) (hn:Xa op=false) (hz:h' n=none) (hv:a=v) (hk:Xr P os n (XC e d (.val (.int k v))) h' K):Xr P (⟨d,op,none⟩ :: os) n e h K:=by
 subst hv; exact Z0 hd hn hz hk
theorem ZbN {op:AOp} {a v:Bool} {h':X2} (hd:X3 op e h n=some (.val (.bool a),h')) (hn:Xa op=false) (hz:h' n=none) (hv:a=v) (hk:Xr P os n (XC e d (.val (.bool v))) h' K):Xr P (⟨d,op,none⟩ :: os) n e h K:=by
 subst hv; exact Z0 hd hn hz hk
theorem Zis {α:Type} {esz:Nat} {x:Operand} {lo hi:Option Operand} {xs:List α} {g:α->List PV} {fl:Bool} (hx:ev e x=some (.vec (xs.map g) fl)) (a b:Nat) (hlo:XM e 0 lo=some (a:Int)) (hhi:XM e ((xs.map g).length:Nat) hi=some (b:Int)) (hab:a<=b) (hb:b<=xs.length) (hg:∀ x,(g x).length=esz)
 (hz:h n=none) (hk:Xr P os n (XC e d (.vec (((xs.take b).drop a).map g) false)) h K):Xr P (⟨d,.slc esz x lo hi none,none⟩ :: os) n e h K:=by
 refine Z0 (p:=.vec (((xs.take b).drop a).map g) false) (h':=h) ?_ rfl hz hk;simp only [X3,hx,hlo,hhi];have hall:∀ c∈xs.map g,c.length=esz:=fun c hc=>by obtain⟨y,_,rfl⟩:=Y0i.1 hc; exact hg y
 rw [Y6 ⟨⟨by omega,by omega,by simp; omega⟩,hall⟩];simp [Y3G,Y2r]
theorem Zl {α:Type} {esz:Nat} {x i:Operand} {xs:List α} {g:α->List PV} {fl:Bool} {k:IntKind} {m:Int} (hx:ev e x=some (.vec (xs.map g) fl)) (hi:ev e i=some (.val (.int k m))) (j:Nat) (hm:m=(j:Int)) (hj:j<xs.length) (hl:(g xs[j]).length=esz) :
 X3 (.iaddr esz x i) e h n=some (.cp (g xs[j]),h):=by
 subst hm;have e1:(xs.map g).getD (j:Int).toNat []=g xs[j]:=by simp [Y0b,hj]
 simp only [X3,hx,hi,e1,hl];rw [Y6 ⟨by omega,by simp; omega⟩]; simp
theorem ZF {esz:Nat} {x i:Operand} {id:Nat} {b:Bx} {k:IntKind} {m:Int} (hx:ev e x=some (.own id)) (hi:ev e i=some (.val (.int k m))) (hb:h id=some b) (j:Nat) (hm:m=(j:Int)) (hj:j<b.elems.length) (hl:b.esz=esz) :
 X3 (.iaddr esz x i) e h n=some (.ptr id j 0,h):=by
 subst hm;simp only [X3,hx,hi,hb,hl];rw [Y6 ⟨by omega,by omega⟩]; simp
theorem ZeE {x y:Operand} {k k':IntKind} {a b:Int} (hx:ev e x=some (.val (.int k a))) (hy:ev e y=some (.val (.int k' b))) (hb:0<=b) {v:Int} (hv:k.wrap (a*2 ^ (min b.toNat k.bits))=v):X3 (.bin .shl .num x y) e h n=some (.val (.int k v),h):=by simp [X3,hx,hy,X4l,X53,hb,hv]
theorem ZS {op:AOp} {k:IntKind} {a v:Int} (hd:X3 op e h n=some (.val (.int k a),h)) (hv:a=v):X3 op e h n=some (.val (.int k v),h):=by subst hv; exact hd
theorem Z4 {op:AOp} {a v:Bool} (hd:X3 op e h n=some (.val (.bool a),h)) (hv:a=v):X3 op e h n=some (.val (.bool v),h):=by subst hv; exact hd
theorem Z9b {z:List Value} {bytes:Nat} {l c:Operand} {a b:Nat} (hl:X1O (ev e l)=some (a:Int)) (hc:X1O (ev e c)=some (b:Int)) (hab:a<=b) (hb:bytes*b<=281474976710656) :
 X3 (.mslice z bytes l c) e h n=some (.own n,h.upd n ⟨z.length,List.replicate a (zpv z)⟩):=by
 simp only [X3,hl,hc];rw [Y6 ⟨by omega,by omega,by rw [<- Int.natCast_mul]; omega⟩]; simp
theorem Zgc {α:Type} {esz:Nat} {x:Operand} {lo hi:Option Operand} {xs:List α} {g:α->List PV} {fl:Bool} (hx:ev e x=some (.vec (xs.map g) fl)) (a b:Nat) (hlo:XM e 0 lo=some (a:Int)) (hhi:XM e ((xs.map g).length:Nat) hi=some (b:Int)) (hab:a<=b) (hb:b<=xs.length) (hg:∀ x,(g x).length=esz) :
 X3 (.slc esz x lo hi none) e h n=some (.vec (((xs.take b).drop a).map g) false,h):=by
 simp only [X3,hx,hlo,hhi];have hall:∀ c∈xs.map g,c.length=esz:=fun c hc=>by obtain⟨y,_,rfl⟩:=Y0i.1 hc; exact hg y
 rw [Y6 ⟨⟨by omega,by omega,by simp; omega⟩,hall⟩];simp [Y3G,Y2r]
theorem Z1v {agg:Bool} {size:Nat} {a:Operand} {k i off:Nat} {b:Bx} {p:PV} (ha:ev e a=some (.ptr k i off)) (hb:h k=some b) (hi:i<b.elems.length) (hc:X17 agg size off (b.elems.getD i [])=some p):X3 (.load agg size a) e h n=some (p,h):=by
 simp only [X3,ha,hb,Y6 hi,hc]
theorem Z1Q {size:Nat} {a v:Operand} {k i off:Nat} {b:Bx} {p:PV} (ha:ev e a=some (.ptr k i off)) (hv:ev e v=some p) (hb:h k=some b) (hf:p.flat=true) (hl:p.cells.length=size) (hi:i<b.elems.length) (ho:off+size<=b.esz) :
 X3 (.store size a v) e h n=some (pvu,h.upd k ⟨b.esz,b.elems.set i (Xl (b.elems.getD i []) off p.cells)⟩):=by
 subst hl;simp only [X3,ha,hv,hb];rw [Y6 (by simp [hf,hi,ho])]
theorem Zu {z:List Value} {bytes:Nat} {s x:Operand} {k:Nat} {m:List (List PV)} {fl:Bool} {b:Bx} (hs:ev e s=some (.own k)) (hx:ev e x=some (.vec m fl)) (hb:h k=some b) (hm:∀ c∈m,c.length=z.length) (he:b.esz=z.length) (hby:(b.elems.length+m.length)*bytes<=140737488355328) :
 X3 (.append z bytes s x) e h n=some (.own n,(h.del k).upd n ⟨b.esz,b.elems++m⟩):=by
 simp only [X3,hs,hx,hb];rw [Y6 ⟨hm,he,hby⟩]; rfl
theorem ZlG {esz:Nat} {d s:Operand} {k:Nat} {m:List (List PV)} {fl:Bool} {b:Bx} (hd:ev e d=some (.own k)) (hs:ev e s=some (.vec m fl)) (hb:h k=some b) (hm:∀ c∈m,c.length=esz) (he:b.esz=esz) :
 X3 (.copy esz d s) e h n=some (.val (.int .i64 (min m.length b.elems.length:Nat)),h.upd k ⟨b.esz,m.take b.elems.length++b.elems.drop m.length⟩):=by
 simp only [X3,hd,hs,hb];rw [Y6 ⟨hm,he⟩]
theorem Zai {z:List Value} {bytes:Nat} {s x:Operand} {l m:List (List PV)} {fl:Bool} (hs:ev e s=some (.vec l true)) (hx:ev e x=some (.vec m fl)) (hl:∀ c∈l,c.length=z.length) (hm:∀ c∈m,c.length=z.length) (hby:(l.length+m.length)*bytes<=140737488355328) :
 XH (.append z bytes s x) e h n=some (.vec (l++m) false,h):=by
 simp only [XH,hs,hx];rw [Y6 ⟨hl,hm,hby⟩]
theorem Zy {k:Nat} (hk:e k=some (.vec [] true)) (esz:Nat) (hp:0<esz):X4m n e h (n+1) (e.upd k (.own n)) (h.upd n ⟨esz,[]⟩):=fun _=>Z8h hk esz hp
theorem Zj {k id:Nat} {b:Bx} (hk:e k=some (.own id)) (hb:h id=some b) (hp:X1 b.elems):X4m n e h n (e.upd k (.vec b.elems false)) (h.del id):=fun _=>Z8i hk hb hp
theorem Z1s {k id:Nat} {esz:Nat} {l:List PV} (hk:e k=some (.ptr id 0 0)) (hb:h id=some ⟨esz,[l]⟩) (hp:X5 l):X4m n e h n (e.upd k (.cp l)) (h.del id):=fun _=>Z2u hk hb
theorem Zc {z:Rsv} {i mask:Nat} {op:AOp} {iso:Nat} {xs:List Xd} {K:Env->X2->Prop} {p:PV} {h':X2} (hd:X3 op e h (n+i)=some (p,h')) (ha:X1j z op e n i mask iso=true) (hn:Xa op=false) (hk:dK P z n xs (XC e d p) h' K):dK P z n (⟨i,⟨d,op,none⟩,mask,iso,false⟩ :: xs) e h K:=ZjV hd ha hn hk
theorem Zit {z:Rsv} {i mask:Nat} {op:AOp} {iso:Nat} {xs:List Xd} {K:Env->X2->Prop} {p:PV} {h':X2} (hd:XH op e h (n+i)=some (p,h')) (ha:X1j z op e n i mask iso=true) (hn:Xa op=false) (hk:dK P z n xs (XC e d p) h' K):dK P z n (⟨i,⟨d,op,none⟩,mask,iso,true⟩ :: xs) e h K:=ZjV hd ha hn hk
theorem Z9c {z:Rsv} {i mask:Nat} {op:AOp} {iso:Nat} {xs:List Xd} {K:Env->X2->Prop} {b:Bool} {h':X2} (hd:X3 op e h (n+i)=some (.val (.bool b),h')) (ha:X1j z op e n i mask iso=true) (hn:Xa op=false) (ht:b=true->dK P z n xs (XC e d (.val (.bool true))) h' K) (hf:b=false->dK P z n xs (XC e d (.val (.bool false))) h' K):dK P z n (⟨i,⟨d,op,none⟩,mask,iso,false⟩ :: xs) e h K:=by
 cases b with
 | true=>exact Zc hd ha hn (ht rfl)
 | false=>exact Zc hd ha hn (hf rfl)
theorem Z2d {z:Rsv} {i mask:Nat} {op:AOp} {iso:Nat} {alt:Bool} {g:Nat×Bool} {xs:List Xd} {K:Env->X2->Prop} (hw:X4k (some g) e=some true) (hk:dK P z n (⟨i,⟨d,op,none⟩,mask,iso,alt⟩ :: xs) e h K):dK P z n (⟨i,⟨d,op,some g⟩,mask,iso,alt⟩ :: xs) e h K:=by
 obtain⟨s,b⟩:=g;unfold X4k at hw;simp only at hw
 split at hw
 . rename_i c hc;exact Zdm (x:=⟨i,⟨d,op,some (s,b)⟩,mask,iso,alt⟩) rfl hc (fun _=>hk) fun hne=>absurd (by simpa using hw) hne
 . cases hw
 . cases hw
theorem Zdp {z:Rsv} {i mask:Nat} {op:AOp} {iso:Nat} {alt:Bool} {g:Nat×Bool} {xs:List Xd} {K:Env->X2->Prop} (hw:∃ c,e g.1=some (.val (.bool c))/\c≠g.2) (hk:dK P z n xs (XC e d pvu) h K):dK P z n (⟨i,⟨d,op,some g⟩,mask,iso,alt⟩ :: xs) e h K:=by
 obtain⟨s,b⟩:=g;obtain⟨c,hc,hne⟩:=hw;exact Zdm (x:=⟨i,⟨d,op,some (s,b)⟩,mask,iso,alt⟩) rfl hc (fun h=>absurd h hne) fun _=>hk
theorem ZD {z:Rsv} {i mask:Nat} {f:Operand} {args:List Operand} {iso:Nat} {alt:Bool} {xs:List Xd} {K:Env->X2->Prop} {g:FuncId} {caps as0 args':List PV} {v:PV} (hs:X7 P g args' (· = v)) (hf:ev e f=some (.fn g caps)) (ha:evs e args=some as0) (ha':as0++caps=args') (hp:X5 args') (hk:dK P z n xs (XC e d v) h K) :
 dK P z n (⟨i,⟨d,.call f args,none⟩,mask,iso,alt⟩ :: xs) e h K:=by
 subst ha';exact Z41 hf ha (.inl rfl) hs hp fun _ hr=>hr▸hk
theorem Z75 {z:Rsv} {K:Env->X2->Prop} (hk:K e h):dK P z n [] e h K:=ZlF hk
theorem Z6I {c:Operand} {x y:X6} (hc:ev e c=some (.val (.bool true))) (hk:aw P C x Q n e h):aw P C (.cond c x y) Q n e h:=Z5Z hc (fun _=>hk) fun h=>by cases h
theorem Z6J {c:Operand} {x y:X6} (hc:ev e c=some (.val (.bool false))) (hk:aw P C y Q n e h):aw P C (.cond c x y) Q n e h:=Z5Z hc (fun h=>by cases h) fun _=>hk
theorem Z8 {rs:List X2g} {R:PV->Prop} {r:PV} (hr:XZ rs e h=some r) (hp:r.pure) (hR:R r):∃ r0 r,XZ rs e h=some r0/\LoP r0 r/\r.pure/\R r:=⟨r,r,hr,.inl rfl,hp,hR⟩
theorem Z1K {rs:List X2g} {R:PV->Prop} {r:PV} (hr:XZ rs e h=some r) (hp:r.low.pure) (hR:R r.low):∃ r0 r,XZ rs e h=some r0/\LoP r0 r/\r.pure/\R r:=⟨r,r.low,hr,.inr rfl,hp,hR⟩
def X3i (e:Env):List (Nat×PV)->Prop
 | []=>True
 | (k,p) :: r=>e k=some p/\X3i e r
theorem X3i.some {L:List (Nat×PV)} (he:X3i e L) {k:Nat} {p:PV} (hk:X1D L k=some p):e k=some p:=by
 induction L with
 | nil=>cases hk
 | cons q r ih =>
   obtain⟨k',p'⟩:=q;obtain⟨h1,h2⟩:=he;simp only [X1D] at hk;by_cases hkk:k=k'
   . subst hkk; rw [Env.upd_same] at hk; cases hk; exact h1
   . rw [Env.upd_ne _ _ hkk] at hk; exact ih h2 hk
theorem ZbO {L:List (Nat×PV)} (he:X3i e L):Sub C n e h n (X1D L) h:=by
 rintro a w ⟨F,φ,s⟩;exact⟨F,φ,{ s with env:=fun k p hk=>s.env k p (he.some hk) }⟩
theorem Ziu {h':X2} (hh:∀ i b,h' i=some b->h i=some b):Sub C n e h n e h':=by
 rintro a w ⟨F,φ,s⟩;exact⟨F,φ,{ s with live:=fun i b hb=>s.live i b (hh i b hb),sep:=fun i j bi bj li lj k hi hj=>s.sep i j bi bj li lj k (hh _ _ hi) (hh _ _ hj) }⟩
theorem Z4A {X:Type} (I:X->Prop) (μ:X->Nat) (L:X->List (Nat×PV)) {body:X6} (x0:X) (h0:I x0) (hL:X3i e (L x0))
 (round:∀ x,I x->aw P C body (X3m (fun n' e' h'=>∃ x',I x'/\μ x'<μ x/\n'=n/\h'=h/\X3i e' (L x')) Q) n (X1D (L x)) h):aw P C (.loop body) Q n e h :=
 Z98 I μ (fun _=>n) (fun x=>X1D (L x)) (fun _=>h) x0 h0 (ZbO hL) fun x hx=>Z73 (round x hx) fun ex n e h hq=>by
  cases ex with
  | normal=>obtain⟨x',h1,h2,rfl,rfl,h4⟩:=hq; exact⟨x',h1,h2,ZbO h4⟩
  | _=>exact hq
def X50 (e:Env) (m:Nat):List (Nat×PV)->Prop
 | []=>True
 | (k,p) :: r=>(e k=some p/\p.inn (· < m))/\X50 e m r
def X2N (h:X2) (m:Nat):List (Nat×Bx)->Prop
 | []=>True
 | (k,b) :: r=>(k<m/\h k=some b/\Xt (· < m) b.elems)/\X2N h m r
theorem X50.some {m:Nat} {L:List (Nat×PV)} (he:X50 e m L) {k:Nat} {p:PV} (hk:X1D L k=some p):e k=some p/\p.inn (· < m):=by
 induction L with
 | nil=>cases hk
 | cons q r ih =>
   obtain⟨k',p'⟩:=q;obtain⟨h1,h2⟩:=he;simp only [X1D] at hk;by_cases hkk:k=k'
   . subst hkk; rw [Env.upd_same] at hk; cases hk; exact h1
   . rw [Env.upd_ne _ _ hkk] at hk; exact ih h2 hk
theorem X2N.some {m:Nat} {L:List (Nat×Bx)} (he:X2N h m L) {k:Nat} {p:Bx} (hk:Xv L k=some p):k<m/\h k=some p/\Xt (· < m) p.elems:=by
 induction L with
 | nil=>cases hk
 | cons q r ih =>
   obtain⟨k',p'⟩:=q;obtain⟨h1,h2⟩:=he;simp only [Xv] at hk;by_cases hkk:k=k'
   . subst hkk; rw [X2.upd_same] at hk; cases hk; exact h1
   . rw [X2.upd_ne _ _ hkk] at hk; exact ih h2 hk
theorem Z4B {m n':Nat} (hdom:C.dom m) (hm:m<=n') {L:List (Nat×PV)} {HL:List (Nat×Bx)} (he:X50 e n' L) (hh:X2N h n' HL):Sub C n e h n' (X1D L) (Xv HL):=by
 rintro a w ⟨F,φ,s⟩
 let φ':XO:=fun i=>if i<n' then φ i else none
 have hφ:∀ i x,i<n'->φ i=some x->φ' i=some x:=fun i x hi hx=>by simp only [φ',hi,Y25]; exact hx
 refine⟨F,φ',{ nt:=s.nt,glob:=s.glob,marks:=s.marks,loc0:=fun i x hx=>?_,free:=fun i hi=>?_,env:=fun k p hp=>?_,froz:=s.froz,ext:=s.ext,old:=s.old,os:=s.os,tape:=s.tape,output:=s.output,size:=s.size,kept:=s.kept,live:=fun i b hb=>?_,sep:=?_ }⟩
 . have : ¬ i < n' := by omega
   simp only [φ',this,Y26]
 . obtain ⟨h0, hr⟩ := he.some hp;exact⟨(s.env k p h0).1,(s.env k p h0).2.inn hφ hr⟩
 . by_cases him : i < m
   . exact hφ i x (by omega) (s.loc0 i x hx)
   . rw [hdom i (by omega)] at hx; cases hx
 . obtain ⟨hi, h0, hr⟩ := hh.some hb;obtain⟨loc,h1,h2,h3⟩:=s.live _ b h0;exact⟨loc,hφ i loc hi h1,h2.inn hφ hr,h3⟩
 . intro i j bi bj li lj k hi hj hli hlj hki hkj;obtain⟨hin,h0,_⟩:=hh.some hi;obtain⟨hjn,g0,_⟩:=hh.some hj;have hli':φ i=some li:=by simpa only [φ',show i<n' from hin,Y25] using hli
   have hlj':φ j=some lj:=by simpa only [φ',show j<n' from hjn,Y25] using hlj
   exact s.sep _ _ bi bj li lj k h0 g0 hli' hlj' hki hkj
theorem Zz {X:Type} {m:Nat} (hdom:C.dom m) (I:X->Prop) (μ:X->Nat) (N:Nat) (L:X->List (Nat×PV)) (HL:X->List (Nat×Bx)) {body:X6} (hm:m<=N) (x0:X) (h0:I x0) (hL:X50 e N (L x0)) (hH:X2N h N (HL x0))
 (round:∀ x,I x->aw P C body (X3m (fun n' e' h'=>∃ x',I x'/\μ x'<μ x/\X50 e' N (L x')/\X2N h' N (HL x')) Q) N (X1D (L x)) (Xv (HL x))):aw P C (.loop body) Q n e h :=
 Z98 I μ (fun _=>N) (fun x=>X1D (L x)) (fun x=>Xv (HL x)) x0 h0 (Z4B hdom hm hL hH) fun x hx=>Z73 (round x hx) fun ex n e h hq=>by
  cases ex with
  | normal=>obtain⟨x',h1,h2,h3,h4⟩:=hq; exact⟨x',h1,h2,Z4B hdom hm h3 h4⟩
  | _=>exact hq
def X3r (ρ:Nat->Nat) (e:Env) (m:Nat):List (Nat×PV)->Prop
 | []=>True
 | (k,p) :: r=>(∃ p0,e k=some p0/\X1J ρ (· < m) p0 p)/\X3r ρ e m r
def HQ1 (ρ:Nat->Nat) (h:X2) (m k:Nat) (b:Bx):Prop:=k<m/\∃ b0,h (ρ k)=some b0/\Xw ρ (· < m) b0 b
def X1o (ρ:Nat->Nat) (h:X2) (m:Nat):List (Nat×Bx)->Prop
 | []=>True
 | (k,b) :: r=>HQ1 ρ h m k b/\X1o ρ h m r
theorem X3r.mem {ρ:Nat->Nat} {m:Nat}:∀ {L:List (Nat×PV)},X3r ρ e m L->∀ q∈L,∃ p0,e q.1=some p0/\X1J ρ (· < m) p0 q.2
 | [],_,q,hq=>by cases hq
 | (k, p) :: r, h, q, hq => by
   rcases YD.1 hq with rfl|hq
   . exact h.1
   . exact X3r.mem h.2 q hq
theorem X1o.mem {ρ:Nat->Nat} {m:Nat}:∀ {L:List (Nat×Bx)},X1o ρ h m L->∀ q∈L,q.1<m/\∃ b0,h (ρ q.1)=some b0/\Xw ρ (· < m) b0 q.2
 | [],_,q,hq=>by cases hq
 | (k, p) :: r, h, q, hq => by
   rcases YD.1 hq with rfl|hq
   . exact h.1
   . exact X1o.mem h.2 q hq
def X3Q (ρ:Nat->Nat) (HL:List (Nat×Bx)):Prop:=∀ q∈HL,∀ q'∈HL,ρ q.1=ρ q'.1->q.1=q'.1
theorem Zv {X:Type} {m:Nat} (hdom:C.dom m) (I:X->Prop) (μ:X->Nat) (N:Nat) (L:X->List (Nat×PV)) (HL:X->List (Nat×Bx)) {body:X6} (hm:m<=N) (x0:X) (h0:I x0) (ρ0:Nat->Nat) (hρ0:∀ i,i<m->ρ0 i=i) (hi0:X3Q ρ0 (HL x0)) (hL:X3r ρ0 e N (L x0)) (hH:X1o ρ0 h N (HL x0))
 (round:∀ x,I x->aw P C body (X3m (fun n' e' h'=>∃ x' ρ,I x'/\μ x'<μ x/\(∀ i,i<m->ρ i=i)/\X3Q ρ (HL x')/\X3r ρ e' N (L x')/\X1o ρ h' N (HL x')) Q) N (X1D (L x)) (Xv (HL x))):aw P C (.loop body) Q n e h :=
 Z98 I μ (fun _=>N) (fun x=>X1D (L x)) (fun x=>Xv (HL x)) x0 h0 (ZbL ρ0 hL.mem hH.mem hi0 hdom hm hρ0) fun x hx=>Z73 (round x hx) fun ex n e h hq=>by
  cases ex with
  | normal=>obtain⟨x',ρ,h1,h2,h3,h4,h5,h6⟩:=hq; exact⟨x',h1,h2,ZbL ρ h5.mem h6.mem h4 hdom hm h3⟩
  | _=>exact hq
theorem Z76 {m n':Nat} (hdom:C.dom m) (L:List (Nat×PV)) (HL:List (Nat×Bx)) (hm:m<=n') (he:X50 e n' L) (hh:X2N h n' HL) {ac:X6} (hk:aw P C ac Q n' (X1D L) (Xv HL)):aw P C ac Q n e h:=Z1U (Z4B hdom hm he hh) hk
theorem Zdq {m:Nat} (hdom:C.dom m) (A:Prop) (N:Nat) (L:List (Nat×PV)) (HL:List (Nat×Bx)) {x y:X6} (hm:m<=N) (h1:aw P C x (X3m (fun n e h=>A/\X50 e N L/\X2N h N HL) Q) n e h) (h2:A->aw P C y Q N (X1D L) (Xv HL)):aw P C (.seq x y) Q n e h :=
 Zm (Z73 h1 fun ex n e h hq=>by
  cases ex with
  | normal=>obtain⟨ha,he,hh⟩:=hq; exact Z76 hdom L HL hm he hh (h2 ha)
  | _=>exact hq)
def X1N (P:Program) (C:Ctx) (body:X6) (Q:Exit->Nat->Env->X2->Prop):Nat->Nat->Env->X2->Prop
 | 0=>fun n e h=>aw P C body (X3m (fun _ _ _=>False) Q) n e h
 | m+1=>fun n e h=>aw P C body (X3m (X1N P C body Q m) Q) n e h
theorem Z5m {body:X6}:∀ (m:Nat) {n:Nat} {e:Env} {h:X2},X1N P C body Q m n e h->P.follows .mixedOrders=true->∀ (FN:Fence) (k:Nat),XD FN k/\X4P FN C->∀ c,Xu P C.nt c=some body->∀ a w,St C (fun i=>n<=i) e h a w->Code.roundsIn FN k P c (X3J C Q) (m+1) a w
 | 0, n, e, h, hk, hm, FN, k, hok, c, hc, a, w, hs => by
   unfold X1N at hk;unfold aw at hk;refine Y2C (hk hm FN k hok c hc a w hs) fun x a w hp=>?_;obtain⟨n,e,h,hQ,hS⟩:=hp;cases x with
   | normal=>exact hQ.elim
   | _=>exact⟨n,e,h,hQ,hS⟩
 | m + 1, n, e, h, hk, hm, FN, k, hok, c, hc, a, w, hs => by
   unfold X1N at hk;unfold aw at hk;refine Y2C (hk hm FN k hok c hc a w hs) fun x a w hp=>?_;obtain⟨n,e,h,hQ,hS⟩:=hp;cases x with
   | normal=>exact Z5m m hQ hm FN k hok c hc a w hS
   | _=>exact⟨n,e,h,hQ,hS⟩
theorem Z1i {body:X6} (m:Nat) (hk:X1N P C body Q m n e h):aw P C (.loop body) Q n e h:=by
 unfold aw;intro hm FN k hok c hc a w hs;have:∃ c1,c=.loop c1/\Xu P C.nt c1=some body:=by
  unfold Xu at hc
  split at hc<;>first
   | (split at hc<;>first|(simp at hc; subst hc; exact⟨_,rfl,by assumption⟩)|(simp at hc; done)|((repeat' (split at hc))<;>simp at hc; done))
   | (simp at hc; done)
 obtain⟨c1,rfl,h1⟩:=this;exact wpIn_loop_rounds (m+1) (Z5m m hk hm FN k hok c1 h1 a w hs)
end
theorem Qe {P:Program} {os:List Xs} {d:Option Nat} {n:Nat} {e:Env} {h:X2} {K:Nat->Env->X2->Prop} {f:Operand} {args:List Operand} {g:FuncId} {caps as0 args':List PV} {v:PV} (hs:X7 P g args' (· = v)) (hp:X5 args') (hk:Xr P os n (XC e d v) h K) (hf:ev e f=some (.fn g caps):=by exact rfl) (ha:evs e args=some as0:=by exact rfl) (ha':as0++caps=args':=by exact rfl) (hz:h n=none:=by exact rfl):Xr P (⟨d,.call f args,none⟩ :: os) n e h K:=Z6 hs hf ha ha' hp hz hk
theorem Qo {P:Program} {os:List Xs} {d:Option Nat} {n:Nat} {e:Env} {h:X2} {K:Nat->Env->X2->Prop} {op:AOp} {p:PV} {h':X2} (hd:X3 op e h n=some (p,h')) (hk:Xr P os n (XC e d p) h' K) (hn:Xa op=false:=by exact rfl) (hz:h' n=none:=by exact rfl):Xr P (⟨d,op,none⟩ :: os) n e h K:=Z0 hd hn hz hk
theorem Qy {e:Env} {h:X2} {n:Nat} {op:AOp} {p:Prop} [Decidable p] (hd:X3 op e h n=some (.val (.bool (decide p)),h)) (hp:p):X3 op e h n=some (.val (.bool true),h):=Z4 hd (Yw hp)
theorem Qz {e:Env} {h:X2} {n:Nat} {op:AOp} {p:Prop} [Decidable p] (hd:X3 op e h n=some (.val (.bool (decide p)),h)) (hp:¬ p):X3 op e h n=some (.val (.bool false),h):=Z4 hd (Y0w hp)
theorem Qd {P:Program} {z:Rsv} {d:Option Nat} {n i mask:Nat} {e:Env} {h:X2} {f:Operand} {args:List Operand} {iso:Nat} {alt:Bool} {xs:List Xd} {K:Env->X2->Prop} {g:FuncId} {caps as0 args':List PV} {v:PV} (hs:X7 P g args' (· = v)) (hp:X5 args') (hk:dK P z n xs (XC e d v) h K) (hf:ev e f=some (.fn g caps):=by exact rfl) (ha:evs e args=some as0:=by exact rfl) (ha':as0++caps=args':=by exact rfl):dK P z n (⟨i,⟨d,.call f args,none⟩,mask,iso,alt⟩ :: xs) e h K:=ZD hs hf ha ha' hp hk
theorem Qr {P:Program} {z:Rsv} {d:Option Nat} {n i mask:Nat} {e:Env} {h:X2} {op:AOp} {iso:Nat} {xs:List Xd} {K:Env->X2->Prop} {p:PV} {h':X2} (hd:X3 op e h (n+i)=some (p,h')) (hk:dK P z n xs (XC e d p) h' K) (ha:X1j z op e n i mask iso=true:=by exact rfl) (hn:Xa op=false:=by exact rfl):dK P z n (⟨i,⟨d,op,none⟩,mask,iso,false⟩ :: xs) e h K:=Zc hd ha hn hk
theorem Qp {ρ:Nat->Nat} {D:Nat->Prop} {e:Env} {k:Nat} {p:PV} (hp:p.pure) (he:e k=some p:=by exact rfl):∃ p0,e k=some p0/\X1J ρ D p0 p:=⟨p,he,.pure p hp⟩
theorem Qt {ρ:Nat->Nat} {D:Nat->Prop} {e:Env} {k:Nat} (id i off:Nat) (hd:D id:=by decide) (he:e k=some (.ptr (ρ id) i off):=by exact rfl):∃ p0,e k=some p0/\X1J ρ D p0 (.ptr id i off):=⟨_,he,.ptr id i off hd⟩
theorem Qw {ρ:Nat->Nat} {D:Nat->Prop} {e:Env} {k:Nat} (id:Nat) (hd:D id:=by decide) (he:e k=some (.own (ρ id)):=by exact rfl):∃ p0,e k=some p0/\X1J ρ D p0 (.own id):=⟨_,he,.own id hd⟩
theorem Qs {ρ:Nat->Nat} {h:X2} {k m:Nat} {b:Bx} (hp:X1 b.elems) (hk:k<m:=by decide) (hb:h (ρ k)=some b:=by exact rfl):HQ1 ρ h m k b:=⟨hk,b,hb,.same b hp⟩
end
section
open Go.RowKit
structure Br (b:Bool) (p q:Prop):Prop where
 yes:b=true->p
 no:b=false->q
theorem B {b:Bool} {p q:Prop} (h1:b=true->p) (h2:b=false->q):Br b p q:=⟨h1,h2⟩
def PV.isB:PV->Bool
 | .val (.bool _)=>true
 | _=>false
section
variable {P:Program} {C:Ctx} {n:Nat} {e:Env} {h:X2} {Q:Exit->Nat->Env->X2->Prop} {os:List Xs} {d:Option Nat} {K:Nat->Env->X2->Prop} {z:Rsv} {KD:Env->X2->Prop} {q1 q2:Prop}
theorem ZbP {op:AOp} {p:PV} {h':X2} (hd:X3 op e h n=some (p,h')) (hb:p.isB=false) (hn:Xa op=false) (hz:h' n=none) (hk:Xr P os n (XC e d p) h' K):Xr P (⟨d,op,none⟩ :: os) n e h K:=Z0 hd hn hz hk
theorem Zgd {op:AOp} {b:Bool} {h':X2} (hd:X3 op e h n=some (.val (.bool b),h')) (hn:Xa op=false) (hz:h' n=none) (h1:q1->Xr P os n (XC e d (.val (.bool true))) h' K) (h2:q2->Xr P os n (XC e d (.val (.bool false))) h' K)   : Br b q1 q2->Xr P (⟨d,op,none⟩ :: os) n e h K :=
 fun hq=>Zt hd hn hz (fun hb=>h1 (hq.yes hb)) fun hb=>h2 (hq.no hb)
theorem Z4C {op:AOp} {h':X2} (v:Bool) (hd:X3 op e h n=some (.val (.bool v),h')) (hn:Xa op=false) (hz:h' n=none) (hk:Xr P os n (XC e d (.val (.bool v))) h' K):Xr P (⟨d,op,none⟩ :: os) n e h K:=Z0 hd hn hz hk
theorem Zkv {i mask:Nat} {op:AOp} {iso:Nat} {xs:List Xd} {p:PV} {h':X2} (hd:X3 op e h (n+i)=some (p,h')) (hb:p.isB=false) (ha:X1j z op e n i mask iso=true) (hn:Xa op=false) (hk:dK P z n xs (XC e d p) h' KD):dK P z n (⟨i,⟨d,op,none⟩,mask,iso,false⟩ :: xs) e h KD:=Zc hd ha hn hk
theorem Z8k {i mask:Nat} {op:AOp} {iso:Nat} {xs:List Xd} {h':X2} (v:Bool) (hd:X3 op e h (n+i)=some (.val (.bool v),h')) (ha:X1j z op e n i mask iso=true) (hn:Xa op=false) (hk:dK P z n xs (XC e d (.val (.bool v))) h' KD):dK P z n (⟨i,⟨d,op,none⟩,mask,iso,false⟩ :: xs) e h KD:=Zc hd ha hn hk
theorem ZlH {i mask:Nat} {op:AOp} {iso:Nat} {xs:List Xd} {b:Bool} {h':X2} (hd:X3 op e h (n+i)=some (.val (.bool b),h')) (ha:X1j z op e n i mask iso=true) (hn:Xa op=false) (h1:q1->dK P z n xs (XC e d (.val (.bool true))) h' KD) (h2:q2->dK P z n xs (XC e d (.val (.bool false))) h' KD)   : Br b q1 q2->dK P z n (⟨i,⟨d,op,none⟩,mask,iso,false⟩ :: xs) e h KD :=
 fun hq=>Z9c hd ha hn (fun hb=>h1 (hq.yes hb)) fun hb=>h2 (hq.no hb)
theorem Zkw {c:Operand} {x y:X6} {b:Bool} (hc:ev e c=some (.val (.bool b))) (h1:q1->aw P C x Q n e h) (h2:q2->aw P C y Q n e h)   : Br b q1 q2->aw P C (.cond c x y) Q n e h:=fun hq=>Z5Z hc (fun hb=>h1 (hq.yes hb)) fun hb=>h2 (hq.no hb)
end
theorem go {p q:Prop} (hk:q) (hr:q->p:=by
 intro hq
 repeat' (first
  | (show Xr _ _ _ _ _ _; first|refine ZbP rfl rfl rfl rfl ?_|refine Z1M ?_|refine Zn rfl ?_|refine Z6G rfl ?_|refine Z4C true rfl rfl rfl ?_|refine Z4C false rfl rfl rfl ?_|(revert hq; refine' Zgd rfl rfl rfl _ _<;>first|intro hq|skip)|refine ZH rfl rfl rfl ?_)
  | (show aw _ _ _ _ _ _ _; first|refine Zm ?_|refine Z9 ?_|refine Z60 [] ?_|refine Z6I rfl ?_|refine Z6J rfl ?_|(revert hq; refine' Zkw rfl _ _<;>first|intro hq|skip)|refine Z4z ?_|refine Z96 ?_|refine Z97 ?_|refine Zdk ?_)
  | (show dK _ _ _ _ _ _ _; first|refine Zkv rfl rfl rfl rfl ?_|refine Z75 ?_|refine Z2d rfl ?_|refine Zdp ⟨_,rfl,nofun⟩ ?_|refine Z8k true rfl rfl rfl ?_|refine Z8k false rfl rfl rfl ?_|(revert hq; refine' ZlH rfl rfl rfl _ _<;>first|intro hq|skip)))
 all_goals first|exact hq|skip):p:=hr hk
theorem st {p q:Prop} (hk:q) (hr:q->p:=by
 intro hq
 (first
   | (show Xr _ _ _ _ _ _; first|refine ZbP rfl rfl rfl rfl ?_|refine Z1M ?_|refine Zn rfl ?_|refine Z6G rfl ?_|refine Z4C true rfl rfl rfl ?_|refine Z4C false rfl rfl rfl ?_|(revert hq; refine' Zgd rfl rfl rfl _ _<;>first|intro hq|skip)|refine ZH rfl rfl rfl ?_)
   | (show aw _ _ _ _ _ _ _; first|refine Zm ?_|refine Z9 ?_|refine Z60 [] ?_|refine Z6I rfl ?_|refine Z6J rfl ?_|(revert hq; refine' Zkw rfl _ _<;>first|intro hq|skip)|refine Z4z ?_|refine Z96 ?_|refine Z97 ?_|refine Zdk ?_)
   | (show dK _ _ _ _ _ _ _; first|refine Zkv rfl rfl rfl rfl ?_|refine Z75 ?_|refine Z2d rfl ?_|refine Zdp ⟨_,rfl,nofun⟩ ?_|refine Z8k true rfl rfl rfl ?_|refine Z8k false rfl rfl rfl ?_|(revert hq; refine' ZlH rfl rfl rfl _ _<;>first|intro hq|skip)))
 all_goals first|exact hq|skip):p:=hr hk
theorem gv {p q:Prop} (hk:q) (hr:q->p:=by
 intro hq
 repeat' (first
  | (show Xr _ _ _ _ _ _; first|refine Z0 rfl rfl rfl ?_|refine Z1M ?_|refine Zn rfl ?_|refine Z6G rfl ?_|refine ZH rfl rfl rfl ?_)
  | (show aw _ _ _ _ _ _ _; first|refine Zm ?_|refine Z9 ?_|refine Z60 [] ?_|refine Z6I rfl ?_|refine Z6J rfl ?_|(revert hq; refine' Zkw rfl _ _<;>first|intro hq|skip)|refine Z4z ?_|refine Z96 ?_|refine Z97 ?_|refine Zdk ?_)
  | (show dK _ _ _ _ _ _ _; first|refine Zc rfl rfl rfl ?_|refine Z75 ?_|refine Z2d rfl ?_|refine Zdp ⟨_,rfl,nofun⟩ ?_))
 all_goals first|exact hq|skip):p:=hr hk
structure At (p:Prop):Prop where
 h:p
theorem ZlI {P:Program} (k:Nat) {op:AOp} {g:Option (Nat×Bool)} {os:List Xs} {n:Nat} {e:Env} {h:X2} {K:Nat->Env->X2->Prop} (hk:At (Xr P (⟨some k,op,g⟩ :: os) n e h K)):Xr P (⟨some k,op,g⟩ :: os) n e h K:=hk.h
theorem Z9d {P:Program} (k:Nat) {z:Rsv} {i mask iso:Nat} {alt:Bool} {op:AOp} {g:Option (Nat×Bool)} {xs:List Xd} {n:Nat} {e:Env} {h:X2} {K:Env->X2->Prop} (hk:At (dK P z n (⟨i,⟨some k,op,g⟩,mask,iso,alt⟩ :: xs) e h K)):dK P z n (⟨i,⟨some k,op,g⟩,mask,iso,alt⟩ :: xs) e h K:=hk.h
structure AtK (k:Nat) (p:Prop):Prop where
 h:p
theorem ZmU {P:Program} {k:Nat} {op:AOp} {g:Option (Nat×Bool)} {os:List Xs} {n:Nat} {e:Env} {h:X2} {K:Nat->Env->X2->Prop} (hk:AtK k (Xr P (⟨some k,op,g⟩ :: os) n e h K)):Xr P (⟨some k,op,g⟩ :: os) n e h K:=hk.h
theorem Zmv {P:Program} {k:Nat} {z:Rsv} {i mask iso:Nat} {alt:Bool} {op:AOp} {g:Option (Nat×Bool)} {xs:List Xd} {n:Nat} {e:Env} {h:X2} {K:Env->X2->Prop} (hk:AtK k (dK P z n (⟨i,⟨some k,op,g⟩,mask,iso,alt⟩ :: xs) e h K)):dK P z n (⟨i,⟨some k,op,g⟩,mask,iso,alt⟩ :: xs) e h K:=hk.h
theorem gd (k:Nat) {p q:Prop} (hk:AtK k q) (hr:AtK k q->p:=by
 intro hq
 repeat' (first
  | exact ZmU hq
  | exact Zmv hq
  | (show Xr _ _ _ _ _ _; first|refine ZbP rfl rfl rfl rfl ?_|refine Z1M ?_|refine Zn rfl ?_|refine Z6G rfl ?_|refine Z4C true rfl rfl rfl ?_|refine Z4C false rfl rfl rfl ?_|refine ZH rfl rfl rfl ?_)
  | (show aw _ _ _ _ _ _ _; first|refine Zm ?_|refine Z9 ?_|refine Z60 [] ?_|refine Z6I rfl ?_|refine Z6J rfl ?_|refine Z4z ?_|refine Z96 ?_|refine Z97 ?_|refine Zdk ?_)
  | (show dK _ _ _ _ _ _ _; first|refine Zkv rfl rfl rfl rfl ?_|refine Z75 ?_|refine Z2d rfl ?_|refine Zdp ⟨_,rfl,nofun⟩ ?_|refine Z8k true rfl rfl rfl ?_|refine Z8k false rfl rfl rfl ?_))
 done):p:=hr hk
end
section
open Go.RowKit Go.ChangeShapes
def X1M (w:World):XL:=fun x=>match x.spot with
 | none => match w.cell? x with
   | some v=>if v.oneCell' then some v else none
   | none=>none
 | some _=>none
def X3T (w:World):Prop:=∀ (g j:Nat) (v:Value),(X3u g)[j]?=some v->w.cell? ⟨g,j,none⟩=some v
theorem ZbQ {w:World} (hgl:X3T w):Holds (X1M w) w:=by
 refine⟨?_,fun g j v hv=>by
  have h1:=hgl g j v hv;have h2:=ZfN g j v hv
  simp [X1M,h1,h2]⟩
 intro x v hx;unfold X1M at hx
 split at hx
 . rename_i hs
   split at hx
   . rename_i u hu
     split at hx
     . rename_i h1;cases hx;exact⟨hs,h1,hu⟩
     . cases hx
   . cases hx
 . cases hx
theorem Ziv {w:World} {b o:Nat} {v:Value} (hc:w.cell? ⟨b,o,none⟩=some v) (h1:v.oneCell'=true):X1M w ⟨b,o,none⟩=some v:=by
 simp [X1M,hc,h1]
def XR (P:Program):Nat->TypeId->List PV->Prop
 | 0,_,_=>False
 | n + 1, t, ps => match P.underlying t with
   | some .bool=>∃ b,ps = [.val (.bool b)]
   | some (.int k)=>∃ m,(Lit.int k m).wf=true/\ps = [.val (.int k m)]
   | some .string=>∃ s,s.size<=Xj/\ps = [.val (.string s)]
   | some (.pointer e)=>ps = [.val (.pointer none)] \/ ∃ l,XR P n e l/\ps = [.cp l]
   | some (.slice e)=>∃ ll fl,ll.length<=Xj/\(∀ l∈ll,XR P n e l)/\ps = [.vec ll fl]
   | some (.struct fs)=>ps.length=P.cellsOf t/\∀ f∈fs.toList,XR P n f.type ((ps.drop f.offset).take (P.cellsOf f.type))
   | some (.array m e)=>ps.length=P.cellsOf t/\∀ i,i<m->XR P n e ((ps.drop (i*P.cellsOf e)).take (P.cellsOf e))
   | _=>∃ v,ps = [.val v]
theorem mapM_some' {α β:Type} {f:α->Option β}:∀ {l:List α} {ys:List β},l.mapM f=some ys->ys.length=l.length/\∀ i (h:i<l.length) (h':i<ys.length),f l[i]=some ys[i]
 | [], ys, h => by
   obtain rfl : []=ys:=by simpa using h
   exact⟨rfl,fun i hi=>absurd hi (Ye _)⟩
 | a :: l, ys, h => by
   rw [List.mapM_cons] at h;cases ha:f a with
   | none=>simp [ha] at h
   | some b =>
     cases hl:l.mapM f with
     | none=>simp [ha,hl] at h
     | some bs =>
       obtain rfl:b :: bs=ys:=by simpa [ha,hl] using h
       obtain⟨h1,h2⟩:=mapM_some' hl;refine⟨by simp [h1],fun i hi hi'=>?_⟩;cases i with
       | zero=>simpa using ha
       | succ i=>simpa using h2 i (by simpa using hi) (by simpa using hi')
theorem cells?_some {w:World} {a:Addr} {n:Nat} {cs:List Value} (h:w.cells? 0 a n=some cs):cs.length=n/\∀ j,(hj:j<cs.length)->w.cell? (a.add j)=some cs[j]:=by
 unfold World.cells? at h;rw [Y6 (Y0l _)] at h;obtain⟨h1,h2⟩:=mapM_some' h;have hn:cs.length=n:=by simpa using h1
 refine⟨hn,fun j hj=>?_⟩;have:=h2 j (by simp;omega) hj;simpa using this
structure X1d (w:World) (cs:List Value) (ps:List PV):Prop where
 len:cs.length=ps.length
 one:∀ j,j<ps.length->(cs.getD j undef).oneCell'=true
 rep:∀ j,j<ps.length->Rep (X1M w) XP (cs.getD j undef) (ps.getD j pvu)
 pure:X5 ps
theorem X1d.single {w:World} {v:Value} {p:PV} (h1:v.oneCell'=true) (hr:Rep (X1M w) XP v p) (hp:p.pure):X1d w [v] [p] :=
 ⟨rfl, fun j hj => by obtain rfl : j = 0 := by simpa using hj
                      exact h1, fun j hj => by obtain rfl : j = 0 := by simpa using hj
                                               exact hr,hp,Yt⟩
theorem X1d.nil {w:World}:X1d w [] []:=⟨rfl,fun j hj=>absurd hj (Ye _),fun j hj=>absurd hj (Ye _),Yt⟩
theorem X1d.append {w:World} {cs cs':List Value} {ps ps':List PV} (h:X1d w cs ps) (h':X1d w cs' ps'):X1d w (cs++cs') (ps++ps'):=by
 refine⟨by simp [h.len,h'.len],fun j hj=>?_,fun j hj=>?_,(Z1n _ _).2 fun p hp=>?_⟩
 . by_cases hl : j < ps.length
   . have := h.one j hl;simpa [Y0b,Y2j,h.len,hl] using this
   . have := h'.one (j - ps.length) (by simp at hj; omega);simpa [Y0b,Y2j,h.len,hl] using this
 . by_cases hl : j < ps.length
   . have := h.rep j hl;simpa [Y0b,Y2j,h.len,hl] using this
   . have := h'.rep (j - ps.length) (by simp at hj; omega);simpa [Y0b,Y2j,h.len,hl] using this
 . rcases Y0h.1 hp with hp | hp
   . exact (Z1n _ _).1 h.pure p hp
   . exact (Z1n _ _).1 h'.pure p hp
def X6I (P:Program) (off:Nat) (total:Nat):List Field->Bool
 | []=>off == total
 | f :: r=>f.offset == off&&X6I P (off+P.cellsOf f.type) total r
def X4U (P:Program) (G:List TypeId) (t:TypeId):Bool:=match P.underlying t with
 | some (.struct fs)=>X6I P 0 (P.cellsOf t) fs.toList&&fs.toList.all fun f=>G.contains f.type
 | some (.array m e)=>P.cellsOf t == m*P.cellsOf e&&G.contains e
 | some (.slice e)=>decide (0<P.bytesOf e)&&decide (0<P.cellsOf e)&&G.contains e
 | some (.pointer e)=>decide (0<P.cellsOf e)&&G.contains e
 | _=>true
def X3B (P:Program) (G:List TypeId):Bool:=G.all (X4U P G)
theorem Zge {P:Program} {G:List TypeId} (h:X3B P G=true) {t:TypeId} (ht:G.contains t=true):X4U P G t=true:=YK.1 h t (by simpa using ht)
def X6B (P:Program) (ts:List TypeId):List TypeId:=ts.flatMap P.book
theorem Z6o {P:Program} {w:World} {S:TypeId->List PV->Prop} {cs:List Value}:∀ {fs:List Field} {off total:Nat},X6I P off total fs=true->cs.length=total ->
 (∀ f∈fs,∃ ps,S f.type ps/\X1d w ((cs.drop f.offset).take (P.cellsOf f.type)) ps)->off<=total/\∃ ps,X1d w (cs.drop off) ps/\∀ f∈fs,off<=f.offset/\S f.type ((ps.drop (f.offset-off)).take (P.cellsOf f.type))
 | [], off, total, ht, hl, _ => by
   obtain rfl:off=total:=by simpa [X6I] using ht
   refine⟨Y0m _,[],?_,fun f hf=>by cases hf⟩;rw [Y2z (by omega)];exact .nil
 | f :: r, off, total, ht, hl, hf => by
   simp only [X6I,Y0k,Y1S] at ht;obtain⟨rfl,ht⟩:=ht;obtain⟨hle,ps2,hc2,hs2⟩:=Z6o ht hl fun g hg=>hf g (by simp [hg]);obtain⟨ps1,hs1,hc1⟩:=hf f (by simp);have hl1:ps1.length=P.cellsOf f.type:=by rw [<- hc1.len]; simp; omega
   refine⟨by omega,ps1++ps2,?_,fun g hg=>?_⟩
   . have := hc1.append hc2;rw [<- Y4H,Y3W] at this;exact this
   . rcases YD.1 hg with rfl | hg
     . refine ⟨Y0m _, ?_⟩;rw [Y1W,Y12,<- hl1,List.take_left];exact hs1
     . obtain ⟨h1, h2⟩ := hs2 g hg;refine⟨by omega,?_⟩;have e:g.offset-f.offset=ps1.length+(g.offset-(f.offset+P.cellsOf f.type)):=by omega
       rw [e,<- Y4H,List.drop_left];exact h2
theorem Z77 {w:World} {S:List PV->Prop} {cs:List Value} {sz:Nat}:∀ {m:Nat},cs.length=m*sz->(∀ i,i<m->∃ ps,S ps/\X1d w ((cs.drop (i*sz)).take sz) ps)->∃ ps,X1d w cs ps/\∀ i,i<m->S ((ps.drop (i*sz)).take sz)
 | 0, hl, _ => by
   obtain rfl:cs = []:=YP (by simpa using hl);exact⟨[],.nil,fun i hi=>absurd hi (Ye _)⟩
 | m + 1, hl, hf => by
   have hlm:(cs.take (m*sz)).length=m*sz:=by rw [Y0o,hl]; exact Y1X (YX _ (by omega))
   obtain⟨ps1,hc1,hs1⟩:=Z77 (cs:=cs.take (m*sz)) hlm fun i hi=>by
    obtain⟨ps,h1,h2⟩:=hf i (by omega);refine⟨ps,h1,?_⟩
    rw [List.drop_take,Y3w,Y1X (by
     have:(i+1)*sz<=m*sz:=YX _ hi
     rw [Y1t] at this;omega)]
    exact h2
   obtain⟨ps2,hs2,hc2⟩:=hf m (by omega);have hl1:ps1.length=m*sz:=by rw [<- hc1.len,hlm]
   have hd:(cs.drop (m*sz)).take sz=cs.drop (m*sz):=YA (by rw [YV,hl,Y1t];omega);rw [hd] at hc2;have hl2:ps2.length=sz:=by rw [<- hc2.len,YV,hl,Y1t]; omega
   refine⟨ps1++ps2,by have:=hc1.append hc2; rwa [Y3W] at this,fun i hi=>?_⟩;by_cases him:i<m
   . have hle : i * sz + sz <= ps1.length := by
      have:(i+1)*sz<=m*sz:=YX _ him;rw [Y1t] at this; omega
     rw [List.drop_append_of_le_length (by omega),Y3b (by rw [YV];omega)];exact hs1 i him
   . obtain rfl : i = m := by omega
     rw [<- hl1,List.drop_left,YA (by omega)];exact hs2
theorem Z39 {H:Type} {P:Program} {e:TypeId}:∀ {ds:List (DataW H)} {d:DataW H},d∈ds->∀ x∈d.weights P e,x∈DataW.weightsAll P e ds
 | [],_,h,_,_=>by cases h
 | a :: r, d, h, x, hx => by
   rw [DataW.weightsAll,Y0h];rcases YD.1 h with rfl|h
   . exact .inl hx
   . exact .inr (Z39 h x hx)
theorem Z42 {H:Type} {P:Program}:∀ {ts:List TypeId} {ds:List (DataW H)} {i:Nat} {t:TypeId} {d:DataW H},ts[i]?=some t->ds[i]?=some d->∀ x∈d.weights P t,x∈DataW.weightsEach P ts ds
 | [],_,i,t,d,h,_,_,_=>by simp at h
 | a :: ts,[],i,t,d,_,h,_,_=>by simp at h
 | a :: ts, b :: ds, 0, t, d, h, h', x, hx => by
   obtain rfl:a=t:=by simpa using h
   obtain rfl:b=d:=by simpa using h'
   rw [DataW.weightsEach,Y0h];exact .inl hx
 | a :: ts, b :: ds, i + 1, t, d, h, h', x, hx => by
   rw [DataW.weightsEach,Y0h];exact .inr (Z42 (i:=i) (by simpa using h) (by simpa using h') x hx)
section
variable {H:Type} {enc:TypeId×Value->H} {P:Program} {w:World} {sp:Nat->Bool}
theorem Zaj {a:Addr} {n:Nat} {cs:List Value} {ps:List PV} (hc:w.cells? 0 a n=some cs) (hs:a.spot=none) (h:X1d w cs ps):ps.length=n/\∀ j,j<ps.length->X1M w ⟨a.block,a.off+j,none⟩=some (cs.getD j undef):=by
 obtain⟨h1,h2⟩:=cells?_some hc;refine⟨by rw [<- h.len,h1],fun j hj=>?_⟩;have hj':j<cs.length:=by rw [h.len]; exact hj
 have:=h2 j hj';rw [ZZ _ _ hs] at this;have e:cs.getD j undef=cs[j]:=by simp [Y0b,hj']
 rw [e];exact Ziv this (by rw [<- e]; exact h.one j hj)
theorem Zdr {a:Addr} {n:Nat} {cs:List Value} (hc:w.cells? 0 a n=some cs) (hn:0<n):a.spot=none:=by
 obtain⟨h1,h2⟩:=cells?_some hc;have:=h2 0 (by omega);have e:a.add 0=a:=rfl;rw [e] at this;cases hs:a.spot with
 | none=>rfl
 | some k =>
   unfold World.cell? at this;rw [hs] at this
   split at this<;>simp at this
theorem Z78 {α:Type} (z:α) {Q:Nat->α->Prop}:∀ {n:Nat},(∀ i,i<n->∃ x,Q i x)->∃ l:List α,l.length=n/\∀ i,i<n->Q i (l.getD i z)
 | 0,_=>⟨[],rfl,fun i hi=>absurd hi (Ye _)⟩
 | n + 1, h => by
   obtain⟨l,hl,hq⟩:=Z78 z (n:=n) fun i hi=>h i (by omega);obtain⟨x,hx⟩:=h n (by omega);refine⟨l ++ [x],by simp [hl],fun i hi=>?_⟩;by_cases hin:i<n
   . have := hq i hin;simpa [Y0b,Y2j,hl,hin] using this
   . obtain rfl : i = n := by omega
     simpa [Y0b,Y2j,hl] using hx
theorem Z1V {G:List TypeId} (hT:X3B P G=true):∀ {fuel:Nat} {t:TypeId} {cs:List Value} {d:DataW H} {pl:List MemPlace},G.contains t=true->DataW.trod enc P w 0 sp true fuel t cs=some (d,pl)->(∀ x∈d.weights P t,x<=reachBytes)->∃ ps,XR P fuel t ps/\X1d w cs ps
 | 0,_,_,_,_,_,h,_=>by simp [DataW.trod] at h
 | fuel + 1, t, cs, d, pl, ht, h, hw => by
   have hTt:=Zge hT ht;unfold X4U at hTt
   have other:∀ v:Value,v.oneCell'=true->cs = [v]->(match P.underlying t with
    | some .bool|some (.int _)|some .string|some (.pointer _)|some (.slice _)|some (.struct _)|some (.array _ _)=>False
    | _=>True)->∃ ps,XR P (fuel+1) t ps/\X1d w cs ps:=by
    intro v h1 hcs hu;refine⟨[.val v],?_,hcs▸.single h1 (.val v) Yt⟩;unfold XR
    split at hu<;>first|exact hu.elim|skip
    first|exact⟨v,rfl⟩|(split<;>first|exact⟨v,rfl⟩|simp_all)
   unfold DataW.trod at h
   split at h
   . rename_i b hu;exact⟨[.val (.bool b)],by simp [XR,hu],.single rfl (.val _) Yt⟩
   . rename_i k k' m hu
     split at h
     . rename_i hk;obtain⟨rfl,hwf⟩:=hk;exact⟨[.val (.int k' m)],by simp [XR,hu,hwf],.single rfl (.val _) Yt⟩
     . cases h
   . rename_i k k' m hu;exact other _ rfl rfl (by rw [hu]; trivial)
   . rename_i str hu
     split at h
     . cases h;refine⟨[.val (.string str)],?_,.single rfl (.val _) Yt⟩;have:=hw str.data.toList.length (by simp [DataW.weights]);have hs:str.size<=Xj:=by
        have e:str.data.toList.length=str.size:=Y2u;rw [e] at this;simp only [reachBytes] at this;simp only [Xj];omega
       simp [XR,hu,hs]
     . cases h
   . rename_i e hu;exact⟨[.val (.pointer none)],by simp [XR,hu],.single rfl (.val _) Yt⟩
   . rename_i e a hu;rw [hu] at hTt;simp only [Y0k,Y0n] at hTt;cases hc:w.cells? 0 a (P.cellsOf e) with
     | none=>simp [hc] at h
     | some cs' =>
       cases hr:DataW.trod enc P w 0 sp true fuel e cs' with
       | none=>simp [hc,hr] at h
       | some r =>
         obtain⟨d',pl'⟩:=r;have hd:d=.ptr d':=by simp [hc,hr] at h; exact h.1.symm
         subst hd;obtain⟨l,hs,hcl⟩:=Z1V hT hTt.2 hr (fun x hx=>hw x (by simp only [DataW.weights,hu]; exact hx));have hspot:=Zdr hc hTt.1;obtain⟨hl,hF⟩:=Zaj hc hspot hcl;refine⟨[.cp l],by simp only [XR,hu]; exact .inr ⟨l,hs,rfl⟩,.single rfl ?_ hcl.pure⟩;exact .cp a l (fun j=>cs'.getD j undef) hspot hF hcl.rep
   . rename_i e hu;exact⟨[.vec [] true],by simp only [XR,hu]; exact⟨[],true,by simp,by simp,rfl⟩,.single rfl (.vecnil true) Yt⟩
   . rename_i e a len cap hu;rw [hu] at hTt;simp only [Y0k,Y0n] at hTt;obtain⟨⟨hby,hsz⟩,het⟩:=hTt;simp only at h
     split at h
     case isFalse=>cases h
     rename_i hcond;cases hm:(List.range len).mapM (fun i=>(w.cells? 0 (a.add (i*P.cellsOf e)) (P.cellsOf e)).bind (DataW.trod enc P w 0 sp true fuel e)) with
     | none=>simp [hm] at h
     | some elems =>
       obtain⟨hel,hget⟩:=mapM_some' hm;have hd:∃ rest:List (DataW H×List MemPlace),d=.slice (elems.map (·.1)) (rest.map (·.1)):=by
        rw [hm] at h;simp only [Option.bind_some,Y11] at h;obtain⟨rest,_,h2⟩:=h;exact⟨rest,by cases h2; rfl⟩
       obtain⟨rest,rfl⟩:=hd;have hlen:elems.length=len:=by simpa using hel
       have hbound:len<=Xj:=by
        have:=hw ((elems.length+rest.length)*P.bytesOf e) (by simp [DataW.weights,hu]);have h3:elems.length+rest.length<=(elems.length+rest.length)*P.bytesOf e:=Y3F _ hby;simp only [reachBytes] at this;simp only [Xj];omega
       have each:∀ i,i<len->∃ cs' d' pl',w.cells? 0 (a.add (i*P.cellsOf e)) (P.cellsOf e)=some cs'/\DataW.trod enc P w 0 sp true fuel e cs'=some (d',pl')/\d'∈elems.map (·.1):=fun i hi=>by
        have:=hget i (by simpa using hi) (by omega);simp only [Y2d,Option.bind_eq_some_iff] at this;obtain⟨cs',h1,h2⟩:=this;exact⟨cs',_,_,h1,h2,Y0i.2 ⟨elems[i],Y0j _,rfl⟩⟩
       have hspot:0<len->a.spot=none:=fun h0=>by
        obtain⟨cs',d',pl',h1,_⟩:=each 0 h0;rw [Y3U] at h1;exact Zdr h1 hsz
       obtain⟨ll,hll,hq⟩:=Z78 (α:=List PV) [] (n:=len) (Q:=fun i l=>XR P fuel e l/\l.length=P.cellsOf e/\X5 l/\∀ j,j<P.cellsOf e->∃ v,X1M w ⟨a.block,a.off+(i*P.cellsOf e+j),none⟩=some v/\Rep (X1M w) XP v (l.getD j pvu)) fun i hi=>by
        obtain⟨cs',d',pl',h1,h2,h3⟩:=each i hi;obtain⟨l,hs,hcl⟩:=Z1V hT het h2 (fun x hx=>hw x (by simp only [DataW.weights,hu]; exact YB _ (Y0h.2 (.inl (Z39 h3 x hx)))));rw [ZZ _ _ (hspot (by omega))] at h1;obtain⟨hl,hF⟩:=Zaj h1 rfl hcl;refine⟨l,hs,hl,hcl.pure,fun j hj=>⟨_,?_,hcl.rep j (by omega)⟩⟩;have:=hF j (by omega);simp only at this;rw [Y1N] at this;exact this
       have hmem:∀ l∈ll,∃ i,i<len/\ll.getD i []=l:=fun l hl=>by
        obtain⟨i,hi,rfl⟩:=Y1d hl;exact⟨i,by omega,by simp [Y0b,hi]⟩
       refine⟨[.vec ll false],?_,.single rfl ?_ ((Z2j _ _).2 fun l hl=>?_)⟩
       . simp only [XR, hu];exact⟨ll,false,by omega,fun l hl=>by obtain⟨i,hi,rfl⟩:=hmem l hl; exact (hq i hi).1,rfl⟩
       . rw [<- hll];refine .vec a cap (P.cellsOf e) ll false (fun i j=>(X1M w ⟨a.block,a.off+(i*P.cellsOf e+j),none⟩).getD undef) (fun hne=>hspot (by rw [<- hll]; exact Y3o.2 hne)) (by omega) (by simp) (by omega) (fun i hi=>(hq i (by omega)).2.1) (fun i j hi hj=>?_) (fun i j hi hj=>?_)
         . obtain ⟨v, h1, _⟩ := (hq i (by omega)).2.2.2 j hj;rw [h1]; rfl
         . obtain ⟨v, h1, h2⟩ := (hq i (by omega)).2.2.2 j hj;rw [h1]; exact h2
       . obtain ⟨i, hi, rfl⟩ := hmem l hl;exact (hq i hi).2.2.1
   . rename_i cs _ _ fs hu;rw [hu] at hTt;simp only [Y0k,YK,Y0n] at hTt;obtain⟨htile,hft⟩:=hTt
     split at h
     case isFalse=>cases h
     rename_i hlen;cases hm:fs.toList.mapM (fun f=>DataW.trod enc P w 0 sp true fuel f.type ((cs.drop f.offset).take (P.cellsOf f.type))) with
     | none=>simp [hm] at h
     | some xs =>
       obtain⟨hxl,hget⟩:=mapM_some' hm;obtain rfl:d=.agg (xs.map (·.1)):=by simp [hm] at h; exact h.1.symm
       obtain⟨_,ps,hc,hs⟩:=Z6o (P:=P) (S:=fun t ps=>XR P fuel t ps) htile hlen fun f hf=>by
        obtain⟨i,hi,rfl⟩:=Y1d hf;have h2:=hget i hi (by omega);refine Z1V hT (hft _ hf) (d := (xs[i]'(by omega)).1) (pl := (xs[i]'(by omega)).2) h2 fun x hx => hw x ?_;simp only [DataW.weights,hu];exact Z42 (i := i) (t := fs.toList[i].type) (d := (xs[i]'(by omega)).1) (by rw [Y0y,Y0c hi]; rfl) (by rw [Y0y,Y0c (by omega)]; rfl) x hx
       rw [Y12] at hc;refine⟨ps,?_,hc⟩;simp only [XR,hu];exact⟨by rw [<- hc.len]; exact hlen,fun f hf=>by have:=(hs f hf).2; rwa [Nat.sub_zero] at this⟩
   . rename_i cs _ _ m e hu;rw [hu] at hTt;simp only [Y0k,Y1S,Y0n] at hTt;obtain⟨htile,het⟩:=hTt
     split at h
     case isFalse=>cases h
     rename_i hlen;cases hm:(List.range m).mapM (fun i=>DataW.trod enc P w 0 sp true fuel e ((cs.drop (i*P.cellsOf e)).take (P.cellsOf e))) with
     | none=>simp [hm] at h
     | some xs =>
       obtain⟨hxl,hget⟩:=mapM_some' hm;obtain rfl:d=.agg (xs.map (·.1)):=by simp [hm] at h; exact h.1.symm
       have hxm:xs.length=m:=by simpa using hxl
       obtain⟨ps,hc,hs⟩:=Z77 (S:=XR P fuel e) (sz:=P.cellsOf e) (m:=m) (by rw [hlen,htile]) fun i hi=>by
        have h2:=hget i (by simpa using hi) (by omega);simp only [Y2d] at h2;refine Z1V hT het (d := (xs[i]'(by omega)).1) (pl := (xs[i]'(by omega)).2) h2 fun x hx => hw x ?_;simp only [DataW.weights,hu];exact Z39 (Y0i.2 ⟨xs[i]'(by omega),Y0j _,rfl⟩) x hx
       refine⟨ps,?_,hc⟩;simp only [XR,hu];exact⟨by rw [<- hc.len]; exact hlen,hs⟩
   all_goals first
    | (cases h; done)
    | (rename_i hu; exact other _ rfl rfl (by rw [hu]; trivial))
end
end
section
open Go.RowKit Go.ChangeShapes Go.WideShapes
def X2t (P:Program) (t:TypeId) (p:PV):Prop:=∃ n,match P.underlying t with
 | some (.struct _)|some (.array _ _)=>∃ ps,p=.agg ps/\XR P n t ps
 | _=>XR P n t [p]
def X2M (P:Program):List TypeId->List PV->Prop
 | [],[]=>True
 | t :: ts,p :: ps=>X2t P t p/\X2M P ts ps
 | _,_=>False
section
variable {H:Type} {enc:TypeId×Value->H} {P:Program} {w:World}
theorem Z5n {v:Value} {ps:List PV} (h:X1d w [v] ps):∃ p,ps = [p]/\Rep (X1M w) XP v p/\p.pure:=by
 have hl:=h.len;obtain⟨p,rfl⟩:∃ p,ps = [p]:=by
  cases ps with
  | nil=>simp at hl
  | cons p r => cases r with
    | nil=>exact⟨p,rfl⟩
    | cons _ _=>simp at hl
 exact⟨p,rfl,by simpa using h.rep 0 (by simp),h.pure.1⟩
theorem Z8l {t:TypeId} {v:Value} {base:Nat} (hu:match P.underlying t with|some (.struct _)|some (.array _ _)=>False|_=>True) (h:Value.okWide P w .any base t v):v.cells.toList = [v]:=by
 cases v with
 | agg cs =>
   exfalso;unfold Value.okWide at h
   split at h
   . rename_i hu'; rw [hu'] at hu; exact hu
   . rename_i hu'; rw [hu'] at hu; exact hu
   . unfold Cell.okWide at h
     split at h<;>first|(rename_i hv; cases hv; done)|skip
     all_goals first|(cases ‹Value.agg cs=_›; done)|(unfold Cell.ok at h; split at h<;>first|exact h|(cases ‹Value.agg cs=_›; done)|simp_all)
 | _=>rfl
theorem Zgf {G:List TypeId} (hT:X3B P G=true) {t:TypeId} {v:Value} {d:DataW H} {pl:List MemPlace} {base:Nat} (ht:G.contains t=true) (hok:Value.okWide P w .any base t v) (h:DataW.Trod enc P w 0 (fun _=>true) true t v d pl) (hw:∀ x∈d.weights P t,x<=reachBytes) :
 ∃ p,X2t P t p/\Rep (X1M w) XP v p/\p.pure:=by
 obtain⟨fuel,h⟩:=h;obtain⟨ps,hs,hc⟩:=Z1V hT ht h hw;cases hu:P.underlying t with
 | none =>
   rw [Z8l (by rw [hu]; trivial) hok] at hc;obtain⟨p,rfl,h1,h2⟩:=Z5n hc;exact⟨p,⟨fuel,by rw [hu]; exact hs⟩,h1,h2⟩
 | some dsc =>
   have agg:(∃ cs,v=.agg cs)->∃ p,(∃ ps,p=.agg ps/\XR P fuel t ps)/\Rep (X1M w) XP v p/\p.pure:=by
    rintro⟨cs,rfl⟩;have e:∀ j,cs.getD j undef=cs.toList.getD j undef:=fun j=>by simp [Y0d,Y0b]
    refine⟨.agg ps,⟨ps,rfl,hs⟩,.agg cs ps (by rw [<- hc.len]; simp [Value.cells]) (fun i hi=>?_) (fun i hi=>?_),hc.pure⟩
    . rw [e]; exact hc.one i hi
    . rw [e]; exact hc.rep i hi
   have one:(match P.underlying t with|some (.struct _)|some (.array _ _)=>False|_=>True)->∃ p,XR P fuel t [p]/\Rep (X1M w) XP v p/\p.pure:=by
    intro hu';rw [Z8l hu' hok] at hc;obtain⟨p,rfl,h1,h2⟩:=Z5n hc;exact⟨p,hs,h1,h2⟩
   have isAgg:(∃ fs,dsc=.struct fs) \/ (∃ m e,dsc=.array m e)->∃ cs,v=.agg cs:=by
    intro hd;unfold Value.okWide at hok;rw [hu] at hok;rcases hd with⟨fs,rfl⟩|⟨m,e,rfl⟩
    . obtain⟨cs,h1,_⟩:=hok; exact⟨cs,h1⟩
    . obtain⟨cs,h1,_⟩:=hok; exact⟨cs,h1⟩
   cases dsc with
   | struct fs =>
     obtain⟨p,h1,h2⟩:=agg (isAgg (.inl ⟨fs,rfl⟩));exact⟨p,⟨fuel,by rw [hu]; exact h1⟩,h2⟩
   | array m e =>
     obtain⟨p,h1,h2⟩:=agg (isAgg (.inr ⟨m,e,rfl⟩));exact⟨p,⟨fuel,by rw [hu]; exact h1⟩,h2⟩
   | _ =>
     obtain⟨p,h1,h2⟩:=one (by rw [hu]; trivial);exact⟨p,⟨fuel,by rw [hu]; exact h1⟩,h2⟩
theorem Z8m {G:List TypeId} (hT:X3B P G=true):∀ {ts:List TypeId} {vs:List Value} {ds:List (DataW H)} {pl:List MemPlace},(∀ t∈ts,G.contains t=true)->(∀ (j:Nat) t v,ts[j]?=some t->vs[j]?=some v->∃ base,Value.okWide P w .any base t v) ->
 DataW.TrodAll enc P w 0 (fun _=>true) true ts vs ds pl->(∀ x∈DataW.weightsEach P ts ds,x<=reachBytes)->∃ ps,X2M P ts ps/\vs.length=ps.length/\(∀ i,i<ps.length->Rep (X1M w) XP (vs.getD i undef) (ps.getD i pvu))/\X5 ps
 | [], vs, ds, pl, _, _, h, _ => by
   obtain⟨rfl,rfl,rfl⟩:=trodAll_nil h;exact⟨[],Yt,rfl,fun i hi=>absurd hi (Ye _),Yt⟩
 | t :: ts, vs, ds, pl, hlt, hok, h, hw => by
   obtain⟨v,vs',d,ds',p,q,rfl,rfl,rfl,h1,h2⟩:=trodAll_cons h;obtain⟨base,hv⟩:=hok 0 t v rfl rfl;obtain⟨x,hs,hr,hp⟩:=Zgf hT (hlt t (by simp)) hv h1 fun x hx=>hw x (by rw [DataW.weightsEach]; exact Y0h.2 (.inl hx));obtain⟨ps,hs',hl,hr',hp'⟩:=Z8m hT (fun t ht=>hlt t (by simp [ht])) (fun j t v hj hv=>hok (j+1) t v (by simpa using hj) (by simpa using hv)) h2 fun x hx=>hw x (by rw [DataW.weightsEach]; exact Y0h.2 (.inr hx));refine⟨x :: ps,⟨hs,hs'⟩,by simp [hl],fun i hi=>?_,hp,hp'⟩;cases i with
   | zero=>simpa using hr
   | succ i=>simpa using hr' i (by simpa using hi)
theorem Z5o (hl:laidOutB P=true) {W W':World} (hb:Below W.heap.size W W') {sp':Nat->Bool}:∀ {ts:List TypeId} {vs:List Value} {ds:List (DataW H)} {pl:List MemPlace},(∀ t∈ts,P.readableRec t=true/\t<P.types.size)->DataW.TrodAll enc P W 0 (fun _=>true) true ts vs ds pl ->
 (∀ x∈pl,x.block<W.heap.size)->(∀ x∈pl,sp' x.block=true)->DataW.TrodAll enc P W' 0 sp' true ts vs ds pl
 | [], vs, ds, pl, _, h, _, _ => by
   obtain⟨rfl,rfl,rfl⟩:=trodAll_nil h;exact rfl
 | t :: ts, vs, ds, pl, hr, h, hlt, hsp => by
   obtain⟨v,vs',d,ds',p,q,rfl,rfl,rfl,h1,h2⟩:=trodAll_cons h;obtain⟨hr1,hr2⟩:=hr t (by simp)
   exact⟨p,q,WideElems.Trod_stays hl hr1 hr2 h1 (fun x hx=>hb.same (hlt x (Y0h.2 (.inl hx)))) (fun x hx=>hsp x (Y0h.2 (.inl hx))),
    Z5o hl hb (fun t ht=>hr t (by simp [ht])) h2 (fun x hx=>hlt x (Y0h.2 (.inr hx))) (fun x hx=>hsp x (Y0h.2 (.inr hx))),rfl⟩
end
theorem Zak {H:Type} {enc:TypeId×Value->H} {P:Program} {f:FuncId} {fn:Func} {s:ChangeSpec} {apart fresh handsOn again:Bool} {tb:TypeId} {G:List TypeId} (hT:X3B P G=true) (hG:∀ t∈fn.params.toList,G.contains t=true) (hl:laidOutB P=true) (hpar:∀ t∈fn.params.toList,P.readableRec t=true/\t<P.types.size) (hres:fn.resultTypes = #[tb]) (htb:P.underlying tb=some .bool)
 (hvars:s.vars = []) (hs:∀ ds:List (DataW H),ds.length=fn.params.size->(s.fn H ds).results = [.lit (.bool true)]/\(s.fn H ds).args=ds/\(s.fn H ds).vars = []) (hspec:∀ ps,X2M P fn.params.toList ps->X5 ps->X7 P f ps (· = .val (.bool true)))
 (W:World) (hgl:X3T W) (base:Nat) (args:Array Value) (ds gs:List (DataW H)) (before:List MemPlace) (hval:∀ (j:Nat) t v,fn.params[j]?=some t->args[j]?=some v->Value.okWide P W .any base t v) (hW:DataW.Whole enc P fn.params.toList s.vars apart W args.toList ds gs before)
 (hwt:(DataW.weightsEach P (fn.params.toList++s.plain.varTypes P) (ds++gs)).all (· <= reachBytes)=true) :
 Calls P f args W fun e W'=>∃ v,e=.returned v/\s.post enc P fn apart fresh handsOn again W args v W':=by
 have hW':=hW;obtain⟨p,q,hA,hV,rfl,hfz,hnd⟩:=hW;rw [hvars] at hV;obtain⟨rfl,rfl⟩:=trodVars_none hV;rw [Y0p] at hwt;have hlen:ds.length=fn.params.toList.length:=by
  have:∀ {ts:List TypeId} {vs:List Value} {ds:List (DataW H)} {pl:List MemPlace},DataW.TrodAll enc P W 0 (fun _=>true) true ts vs ds pl->ds.length=ts.length:=by
   intro ts
   induction ts with
   | nil=>intro vs ds pl h; obtain⟨_,rfl,_⟩:=trodAll_nil h; rfl
   | cons t ts ih=>intro vs ds pl h; obtain⟨v,vs',d,ds',p,q,_,rfl,_,_,h2⟩:=trodAll_cons h; simp [ih h2]
  exact this hA
 have hvt:s.plain.varTypes P = []:=by
  simp [ChangeSpec.plain,DataSpec.varTypes,hvars]
 rw [hvt,Y0p] at hwt;obtain⟨ps,hsh,hpl,hrep,hpure⟩:=Z8m hT hG (fun j t v hj hv=>⟨base,hval j t v (by simpa using hj) (by simpa using hv)⟩) hA (fun x hx=>by simpa using YK.1 hwt x hx);have e:∀ j,args.getD j undef=args.toList.getD j undef:=fun j=>by simp [Y0d,Y0b]
 refine ((hspec ps hsh hpure).2 (X1M W) W args (ZbQ hgl) ⟨by simpa using hpl,fun i hi=>by rw [e]; exact hrep i hi⟩).mono ?_;rintro en W' ⟨v,r,F',rfl,rfl,hvr,hbel,_⟩;obtain rfl:=hvr.val_inv;obtain⟨hs1,hs2,hs3⟩:=hs ds (by simpa using hlen);have hlt:=hW'.lt;simp only [Y0p] at hlt hW' ⊢;have hstay:∀ sp':Nat->Bool,(∀ x∈p,sp' x.block=true)->DataW.TrodAll enc P W' 0 sp' true fn.params.toList args.toList ds p:=fun sp' hsp=>Z5o hl hbel hpar hA hlt hsp;have hresults:∀ (b:Nat) (sp:Nat->Bool) (hd:Bool),DataW.TrodAll enc P W' b sp hd fn.resultTypes.toList ((Value.bool true).resultList fn.resultTypes.size) [.lit (.bool true)] []:=fun b sp hd=>by
  rw [hres];exact trodAll_mk1 (shut_bool htb true)
 refine⟨_,rfl,ds,[],p,[],p,[],hW',?_,?_,?_,hbel.frame _,fun _=>⟨ok_one hres rfl (okWide_bool_mk htb true),?_⟩⟩
 . rw [Y0p,hs1]; exact hresults _ _ _
 . rw [Y0p,hs2]; exact hstay _ fun x hx=>by simpa using hlt x hx
 . rw [Y0p,hvars,hs3]; exact rfl
 . refine ⟨_, [], p, ⟨p, [], trodAll_append (p := []) (hstay _ fun _ _ => rfl) (hresults _ _ _), by rw [hvars]; exact rfl, by simp, ?_, by simpa using hnd⟩, fun x hx _ => hx⟩;intro b off hp;rw [hbel.frozen (hlt _ hp)];exact hfz b off (by simpa using hp)
end
section
open Go.ChangeShapes Go.WideShapes Go.ChangeAt Go.RowKit
theorem own:ownKnob Tryz.prog.godebug=none:=by kernel_rfl
theorem X5C:laidOutB Tryz.prog=true:=by kernel_rfl
def X6l (P:Program) (ts:List TypeId):Bool:=ts.all fun t=>P.readableRec t&&decide (t<P.types.size)
def inG (G ts:List TypeId):Bool:=ts.all fun t=>G.contains t
theorem ZlJ {G ts:List TypeId} (h:inG G ts=true):∀ t∈ts,G.contains t=true:=fun t ht=>YK.1 h t ht
theorem Zgg {P:Program} {ts:List TypeId} (h:X6l P ts=true):∀ t∈ts,P.readableRec t=true/\t<P.types.size:=fun t ht=>by
 have:=YK.1 h t ht;simpa using this
abbrev X3H : List (String × DataW Unit) := [("math/bits.deBruijn64tab",Rows.laid_math_bits_deBruijn64tab),("arbac/keccak.rounds",Rows.laid_arbac_keccak_rounds),("arbac/keccak.turns",Rows.laid_arbac_keccak_turns)]
theorem Ziw (os:Os) (args:Array Value):laidMetH Tryz.prog X3H ((World.doorLaid Tryz.prog 400 os).forCall (fun _ _=>0) ⟨#[],args,[]⟩).memory :=
 laidMetH_of_parts3 (fuel:=8) (laidMet_of_run' 8 (by kernel_rfl) (by kernel_rfl)) (by kernel_rfl) (by kernel_rfl)
theorem ZeF:(Rows.laid_math_bits_deBruijn64tab:DataW Unit)=.agg (X22.map fun x=>.lit (.int .u8 x)):=rfl
theorem Zix {W:World} (h:laidMetH Tryz.prog X3H W):∀ (j:Nat) (v:Value),(X22.map fun x=>Value.int .u8 x)[j]?=some v->W.cell? ⟨0,j,none⟩=some v:=by
 rw [MakeChecks.laidMetH_plain _ _ _ (by kernel_rfl)] at h;obtain⟨ps,⟨g0,t0,cs,f0,p0,q0,hg0,ht0,hv0,hd0,_,_⟩,_,_⟩:=h;obtain rfl := Y13 ((show Tryz.prog.globalNamed "math/bits.deBruijn64tab" = some 0 by kernel_rfl).symm.trans hg0)
 obtain rfl:=Y13 ((show (Tryz.prog.globals[0]?).map (·.type)=some 214 by kernel_rfl).symm.trans ht0);obtain⟨xs,m,rfl,hx,hlen,hn,hel⟩:=DataW.trod_array (show Tryz.prog.underlying 214=some (.array 64 5) by kernel_rfl) hd0;have c1:Tryz.prog.cellsOf 5=1:=by kernel_rfl
 simp only [Y3D] at hx;have hx1:X22.map (fun x=>(DataW.lit (.int .u8 x):DataW Unit))=xs.map (·.1):=by
  have:=hx.1;rw [ZeF] at this;simpa using this
 intro j v hv;rw [Y0y] at hv;have hj:j<64:=by
  cases hx:X22[j]? with
  | none=>rw [hx] at hv; cases hv
  | some x=>have:=(Y7.1 hx).1; exact this
 have hj2:j<X22.length:=hj;rw [Y0c hj2] at hv;simp only [Y1i,Y2l] at hv;subst hv;have e1:=congrArg (fun l=>l[j]?) hx1;simp only [Y0y] at e1;rw [Y0c hj2,Y0c (show j<xs.length by omega)] at e1;simp only [Y1i,Y2l] at e1;have e2:=hel j hj;rw [Y0c (show j<xs.length by omega),c1] at e2;obtain⟨k,h1,h2,_⟩:=Y4I (show Tryz.prog.underlying 5=some (.int .u8) by kernel_rfl) e2;rw [h2] at e1;simp only [Y4E,Y4N,true_and] at e1;subst e1;rw [Y20] at h1;rw [Y4x hg0 hv0 j];have h3:cs.toList[j]?=(cs.toList.drop j)[0]?:=by simp
 have h4:(cs.toList.drop j)[0]?=((cs.toList.drop j).take 1)[0]?:=by simp
 rw [<- Y2f,h3,h4,h1]
 rfl
theorem Zal:(Rows.laid_arbac_keccak_rounds:DataW Unit)=.agg (XU.map fun x=>.lit (.int .u64 x)):=rfl
theorem ZeG {W:World} (h:laidMetH Tryz.prog X3H W):∀ (j:Nat) (v:Value),(XU.map fun x=>Value.int .u64 x)[j]?=some v->W.cell? ⟨1,j,none⟩=some v:=by
 rw [MakeChecks.laidMetH_plain _ _ _ (by kernel_rfl)] at h;obtain⟨ps,⟨_,_,_,_,_,_,_,_,_,_,⟨g0,t0,cs,f0,p0,q0,hg0,ht0,hv0,hd0,_,_⟩,_⟩,_,_⟩:=h;obtain rfl := Y13 ((show Tryz.prog.globalNamed "arbac/keccak.rounds" = some 1 by kernel_rfl).symm.trans hg0)
 obtain rfl:=Y13 ((show (Tryz.prog.globals[1]?).map (·.type)=some 290 by kernel_rfl).symm.trans ht0);obtain⟨xs,m,rfl,hx,hlen,hn,hel⟩:=DataW.trod_array (show Tryz.prog.underlying 290=some (.array 24 33) by kernel_rfl) hd0;have c1:Tryz.prog.cellsOf 33=1:=by kernel_rfl
 simp only [Y3D] at hx;have hx1:XU.map (fun x=>(DataW.lit (.int .u64 x):DataW Unit))=xs.map (·.1):=by
  have:=hx.1;rw [Zal] at this;simpa using this
 intro j v hv;rw [Y0y] at hv;have hj:j<24:=by
  cases hx:XU[j]? with
  | none=>rw [hx] at hv; cases hv
  | some x=>have:=(Y7.1 hx).1; exact this
 have hj2:j<XU.length:=hj;rw [Y0c hj2] at hv;simp only [Y1i,Y2l] at hv;subst hv;have e1:=congrArg (fun l=>l[j]?) hx1;simp only [Y0y] at e1;rw [Y0c hj2,Y0c (show j<xs.length by omega)] at e1;simp only [Y1i,Y2l] at e1;have e2:=hel j hj;rw [Y0c (show j<xs.length by omega),c1] at e2;obtain⟨k,h1,h2,_⟩:=Y4I (show Tryz.prog.underlying 33=some (.int .u64) by kernel_rfl) e2;rw [h2] at e1;simp only [Y4E,Y4N,true_and] at e1;subst e1;rw [Y20] at h1;rw [Y4x hg0 hv0 j];have h3:cs.toList[j]?=(cs.toList.drop j)[0]?:=by simp
 have h4:(cs.toList.drop j)[0]?=((cs.toList.drop j).take 1)[0]?:=by simp
 rw [<- Y2f,h3,h4,h1]
 rfl
theorem ZbR:(Rows.laid_arbac_keccak_turns:DataW Unit)=.agg (X1Y.map fun x=>.lit (.int .i64 x)):=rfl
theorem Zgh {W:World} (h:laidMetH Tryz.prog X3H W):∀ (j:Nat) (v:Value),(X1Y.map fun x=>Value.int .i64 x)[j]?=some v->W.cell? ⟨2,j,none⟩=some v:=by
 rw [MakeChecks.laidMetH_plain _ _ _ (by kernel_rfl)] at h;obtain⟨ps,⟨_,_,_,_,_,_,_,_,_,_,⟨_,_,_,_,_,_,_,_,_,_,⟨g0,t0,cs,f0,p0,q0,hg0,ht0,hv0,hd0,_,_⟩,_⟩,_⟩,_,_⟩:=h;obtain rfl := Y13 ((show Tryz.prog.globalNamed "arbac/keccak.turns" = some 2 by kernel_rfl).symm.trans hg0)
 obtain rfl:=Y13 ((show (Tryz.prog.globals[2]?).map (·.type)=some 293 by kernel_rfl).symm.trans ht0);obtain⟨xs,m,rfl,hx,hlen,hn,hel⟩:=DataW.trod_array (show Tryz.prog.underlying 293=some (.array 25 3) by kernel_rfl) hd0;have c1:Tryz.prog.cellsOf 3=1:=by kernel_rfl
 simp only [Y3D] at hx;have hx1:X1Y.map (fun x=>(DataW.lit (.int .i64 x):DataW Unit))=xs.map (·.1):=by
  have:=hx.1;rw [ZbR] at this;simpa using this
 intro j v hv;rw [Y0y] at hv;have hj:j<25:=by
  cases hx:X1Y[j]? with
  | none=>rw [hx] at hv; cases hv
  | some x=>have:=(Y7.1 hx).1; exact this
 have hj2:j<X1Y.length:=hj;rw [Y0c hj2] at hv;simp only [Y1i,Y2l] at hv;subst hv;have e1:=congrArg (fun l=>l[j]?) hx1;simp only [Y0y] at e1;rw [Y0c hj2,Y0c (show j<xs.length by omega)] at e1;simp only [Y1i,Y2l] at e1;have e2:=hel j hj;rw [Y0c (show j<xs.length by omega),c1] at e2;obtain⟨k,h1,h2,_⟩:=Y4I (show Tryz.prog.underlying 3=some (.int .i64) by kernel_rfl) e2;rw [h2] at e1;simp only [Y4E,Y4N,true_and] at e1;subst e1;rw [Y20] at h1;rw [Y4x hg0 hv0 j];have h3:cs.toList[j]?=(cs.toList.drop j)[0]?:=by simp
 have h4:(cs.toList.drop j)[0]?=((cs.toList.drop j).take 1)[0]?:=by simp
 rw [<- Y2f,h3,h4,h1]
 rfl
theorem Ziy {W:World} (h:laidMetH Tryz.prog X3H W):X3T W:=by
 intro g j v hv;have step:∀ (k:Nat) (l:List Value) (r:List (Nat×List Value)),(X2V ((k,l) :: r) g)[j]?=some v->(l[j]?=some v/\g=k) \/ (X2V r g)[j]?=some v:=by
  intro k l r hh;unfold X2V at hh;cases hb:Nat.beq g k with
  | true=>rw [hb] at hh; exact .inl ⟨hh,YH hb⟩
  | false=>rw [hb] at hh; exact .inr hh
 have hv:(X2V X58 g)[j]?=some v:=hv;unfold X58 at hv;rcases step _ _ _ hv with⟨h1,rfl⟩|hv
 . exact Zix h j v h1
 rcases step _ _ _ hv with⟨h1,rfl⟩|hv
 . exact ZeG h j v h1
 rcases step _ _ _ hv with⟨h1,rfl⟩|hv
 . exact Zgh h j v h1
 simp [X2V] at hv
end
end Go.Proofs.YtoolafpiaobphaaGreatDoor
