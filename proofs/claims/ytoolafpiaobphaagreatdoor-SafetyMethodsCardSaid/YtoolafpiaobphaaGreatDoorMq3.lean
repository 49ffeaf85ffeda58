/-
  Merged from the texts that this claim's theorem needs, part 4 of 8. No statement of the seat is proved here.
-/
import Derived.Calls
import Derived.Laws.Bits64
import Derived.Laws.Bits64b
import Derived.Lone
import Derived.StepT
import Derived.Test.YtoolafpiaobphaaGreatDoorMq2
set_option linter.unusedSimpArgs false
set_option linter.unusedVariables false
set_option linter.unusedSectionVars false
set_option linter.defProp false
set_option maxRecDepth 100000
set_option maxHeartbeats 16000000
namespace Go.Proofs.YtoolafpiaobphaaGreatDoor
section
def rW {α:Type}:Result α->World
 | .ok _ w=>w
 | .halt _ w=>w
def sW:Stepped->Option World
 | .next m=>some m.world
 | .ended _ _=>none
def gW:GStep->Option World
 | .go _ w _=>some w
 | .comm _ _ _ _ w _=>some w
 | .spawn _ _ w _=>some w
 | .count _ w _=>some w
 | .timer _ _ w _=>some w
 | .alone _ _ w _=>some w
 | .newcoro _ _ _ w _=>some w
 | .coroswitch _ _ _ w _=>some w
 | .collect _ w _=>some w
 | .watch _ w _=>some w
 | .ended _ _ _=>none
def X1x (D:Nat):Option World->Prop
 | some w=>D<=w.drawn
 | none=>True
theorem X1x.mono {D E:Nat} (h:D<=E):∀ {o:Option World},X1x E o->X1x D o
 | some _,k=>Y03 h k
 | none,_=>trivial
@[simp] theorem Z4G (es:Array Event) (s:GStep):gW (GStep.after es s)=gW s:=by cases s<;>rfl
theorem Z7g {α:Type}:∀ (x:Ask α) (w:World),w.drawn<=(w.ask x).2.drawn
 | .done a,w=>Y0m _
 | .ask what range k, w => by
   rw [World.ask]
   split
   . exact Z7g _ w
   . exact Y03 (Y47 _) (Z7g _ { w with drawn:=w.drawn+1 })
theorem Zgx (w:World) (c:Sys):w.drawn<=(w.sys c).2.drawn:=by
 have h:=Z7g (Kernel.perform c w.os) w;unfold World.sys;generalize w.ask (Kernel.perform c w.os)=x at h;obtain⟨⟨r,os⟩,w'⟩:=x;cases r<;>first|exact Y0m _|exact h
theorem Z7h {p:Program} {w w':World} {a:Addr} {u:TypeId} {k:Addr} {v:Value} {at':Bool} {l:List Addr} (h:w.viewStore p a u k v at'=.ok (w',l)):w'.drawn=w.drawn:=by
 unfold World.viewStore at h;simp only [bind,Except.bind,pure,Except.pure] at h
 repeat' first
  | (cases h; done)
  | (cases h; rfl)
  | split at h
theorem Z83 {p:Program} {w w':World} {a:Addr} {v:Value} {at':Bool} {l:List Addr} (h:w.farStore p a v at'=.ok (w',l)):w'.drawn=w.drawn:=by
 unfold World.farStore at h
 repeat' first
  | (cases h; done)
  | (rename_i hv; cases h; exact Z7h hv)
  | split at h
theorem Zap {α:Type} (P:Program):∀ (s:Sem α) (w:World),w.drawn<=(rW (s.run P w)).drawn:=by
 intro s
 induction s with
 | pure a=>exact fun w=>Y0m _
 | load m a k ih =>
   intro w;simp only [Sem.run]
   split
   . exact ih _ _
   . split
     . exact ih _ _
     . exact Y0m _
 | store m a v k ih =>
   intro w;cases v<;>simp only [Sem.run]<;>first
    | exact Y0m _
    | (split
       . split
         . exact Y0m _
         . exact ih (w.setCell a _)
       . split
         . rename_i hf;exact Y03 (Y4k (Z83 hf).symm) (ih _)
         . exact Y0m _)
 | new o k ih=>intro w; simp only [Sem.run]; exact ih _ { w with heap:=w.heap.push o }
 | shape r k ih=>intro w; simp only [Sem.run]; exact ih _ _
 | freeze a n k ih =>
   intro w;simp only [Sem.run];refine Y03 (Y4k ?_) (ih _);unfold World.freeze
   split<;>rfl
 | frozen a k ih=>intro w; simp only [Sem.run]; exact ih _ _
 | getObj r k ih =>
   intro w;simp only [Sem.run]
   split
   . exact Y0m _
   . exact ih _ _
   . exact Y0m _
 | setObj r o k ih =>
   intro w;simp only [Sem.run]
   split
   . exact Y0m _
   . exact ih { w with heap:=w.heap.setIfInBounds r o }
   . exact Y0m _
 | choose q k ih =>
   intro w;simp only [Sem.run]
   split
   . exact ih _ _
   . exact Y03 (Y47 _) (ih _ { w with drawn:=w.drawn+1 })
 | sys c k ih=>intro w; simp only [Sem.run]; exact Y03 (Zgx w c) (ih _ _)
 | program k ih=>intro w; simp only [Sem.run]; exact ih _ _
 | mark m k ih=>intro w; simp only [Sem.run]; exact ih _
 | halt h=>exact fun w=>Y0m _
theorem Z1k {α:Type} {P:Program} {s:Sem α} {w w':World} {a:α} (h:s.run P w=.ok a w'):w.drawn<=w'.drawn:=by
 have:=Zap P s w
 rwa [h] at this
theorem Z1Z {α:Type} {P:Program} {s:Sem α} {w w':World} {a:Halt} (h:s.run P w=.halt a w'):w.drawn<=w'.drawn:=by
 have:=Zap P s w
 rwa [h] at this
theorem Z7i {α β:Type} {P:Program} {s:Sem α} {t:Sem β} {w w1 w2:World} {a:α} {b:β} (h:s.run P w=.ok a w1) (k:t.run P w1=.ok b w2):w.drawn<=w2.drawn:=Y03 (Z1k h) (Z1k k)
theorem ZkB {α β:Type} {P:Program} {s:Sem α} {t:Sem β} {w w1 w2:World} {a:α} {b:Halt} (h:s.run P w=.ok a w1) (k:t.run P w1=.halt b w2):w.drawn<=w2.drawn:=Y03 (Z1k h) (Z1Z k)
theorem Zgy {D:Nat} {α:Type} {o:Option α} {a:GStep} {f:α->GStep} (ha:X1x D (gW a)) (hf:∀ k,X1x D (gW (f k))):X1x D (gW (o.elim a f)):=by
 cases o with
 | none=>exact ha
 | some k=>exact hf k
theorem Z3b (p:Program) (main:Bool) (fr:Frame) (callers:List Frame) (dying:Option Dying) (v:Value) (w:World):X1x w.drawn (gW (doReturn p main fr callers dying v w)):=by
 unfold doReturn
 repeat' first
  | exact Y0m _
  | trivial
  | split
theorem Z53 (fr:Frame) (a:List ByteArray) (m:String) (b:Bool) (w:World):X1x w.drawn (gW (dieOf fr a m b w)):=Y0m _
theorem Z3p (p:Program) (fr:Frame) (v:Value) (w:World):X1x w.drawn (gW (endPrinting p fr v w)):=by
 unfold endPrinting;simp only []
 split
 . exact Y0m _
 . trivial
theorem Z4Z (p:Program) (fr:Frame) (callers:List Frame) (dying:Option Dying) (m:String) (w:World):X1x w.drawn (gW (endFatal p fr callers dying m w)):=by
 unfold endFatal;simp only []
 split
 . rename_i h;exact Z1k h
 . trivial
 . trivial
theorem Z9i (w:World) (fd:Nat) (t:ByteArray) (o:Outcome):X1x w.drawn (gW (endWith w fd t o)):=by
 unfold endWith;simp only []
 repeat' first
  | trivial
  | split
theorem Z9j (p:Program) (fr:Frame) (d:Dying) (f:Fatal) (w:World):X1x w.drawn (gW (writeOn p fr d f w)):=by
 unfold writeOn;simp only [Y3C]
 split
 . trivial
 . split
   . rename_i h;exact Z1k (Y3E h).1
   . rename_i h;exact Z1Z (Y3E h).1
   . trivial
   . trivial
theorem Zgz (p:Program) (fr:Frame) (d:Dying) (w:World):X1x w.drawn (gW (die p fr d w)):=by
 unfold die;simp only [Y3C]
 repeat' first
  | exact Y0m _
  | trivial
  | exact Z9j _ _ _ _ _
  | exact Z9i _ _ _ _
  | exact Z1k (by assumption)
  | exact (Z3p _ _ _ _).mono (Z1Z (by assumption))
  | rw [Z4G]
  | split
theorem Z5u (p:Program) (fr:Frame) (callers:List Frame) (dying:Option Dying) (d:Deferred) (w:World):X1x w.drawn (gW (callDeferred p fr callers dying d w)):=by
 unfold callDeferred;simp only [Y3C]
 repeat' first
  | exact Y0m _
  | trivial
  | exact Z1k (by assumption)
  | exact Z1Z (by assumption)
  | exact (Z4Z _ _ _ _ _ _).mono (Z1Z (by assumption))
  | exact (Z53 _ _ _ _ _).mono (Z1Z (by assumption))
  | rw [Z4G]
  | split
theorem Zaq (p:Program) (main:Bool) (fr:Frame) (callers:List Frame) (dying:Option Dying) (w:World):X1x w.drawn (gW (unwind p main fr callers dying w)):=by
 unfold unwind;simp only [Y3C]
 repeat' first
  | exact Y0m _
  | trivial
  | exact Z5u _ _ _ _ _ _
  | exact Z3b _ _ _ _ _ _ _
  | exact Z3p _ _ _ _
  | exact Z1k (by assumption)
  | exact (Z3b _ _ _ _ _ _ _).mono (Z1k (by assumption))
  | rw [Z4G]
  | split
theorem Zc2 (p:Program) (fr:Frame) (callers:List Frame) (dying:Option Dying) (g:Nat) (w:World):X1x w.drawn (gW (early p fr callers dying g w)):=by
 unfold early;simp only []
 repeat' first
  | exact Y0m _
  | trivial
  | exact Z1k (by assumption)
  | (simp only [gW,X1x]; exact Z1k (by assumption))
  | rw [Z4G]
  | split
theorem Z54 (p:Program) (b:Bool) (fr:Frame) (callers:List Frame) (dying:Option Dying) (s:Sem Next) (w:World):X1x w.drawn (gW (stepG.apply p b fr callers dying s w)):=by
 unfold stepG.apply;simp only [Y3C];have hs:(if b=true then (s.run p w,s.events p w #[]) else (s.run p w,#[])).1=s.run p w:=by split<;>rfl
 generalize (if b=true then (s.run p w,s.events p w #[]) else (s.run p w,#[]))=x at hs ⊢;obtain⟨r,es⟩:=x;simp only at hs ⊢;subst hs
 repeat' first
  | exact Y0m _
  | trivial
  | exact Z1k (by assumption)
  | exact Z1Z (by assumption)
  | exact (Z4Z _ _ _ _ _ _).mono (Z1Z (by assumption))
  | exact (Z53 _ _ _ _ _).mono (Z1Z (by assumption))
  | exact (Z53 _ _ _ _ _).mono (Z1k (by assumption))
  | exact (Zc2 _ _ _ _ _ _).mono (Z1Z (by assumption))
  | rw [Z4G]
  | split
theorem ZeO (p:Program) (b:Bool) (fr:Frame) (callers:List Frame) (dying:Option Dying) (w:World):X1x w.drawn (gW (stepG.oper p b fr callers dying w)):=by
 unfold stepG.oper
 repeat' first
  | trivial
  | exact Z54 _ _ _ _ _ _ _
  | split
theorem ZeP (p:Program) (main b:Bool) (fr:Frame) (callers:List Frame) (dying:Option Dying) (w:World):X1x w.drawn (gW (stepG.exec p main b fr callers dying w)):=by
 unfold stepG.exec;simp only [Y3C]
 repeat' first
  | exact Y0m _
  | trivial
  | exact Z54 _ _ _ _ _ _ _
  | exact ZeO _ _ _ _ _ _
  | exact Z1k (by assumption)
  | exact Z1Z (by assumption)
  | exact (Z54 _ _ _ _ _ _ _).mono (Z1k (by assumption))
  | exact (Z3b _ _ _ _ _ _ _).mono (Z1k (by assumption))
  | rw [Z4G]
  | refine Zgy ?_ (fun _=>?_)
  | split
theorem Zc3 (p:Program) (main b:Bool) (g:Goroutine) (w:World):X1x w.drawn (gW (stepG p main g w b)):=by
 unfold stepG
 repeat' first
  | exact Zgz _ _ _ _
  | exact ZeP _ _ _ _ _ _ _
  | exact Zaq _ _ _ _ _ _
  | split
theorem Z62 {p:Program} {rest:Rest} {gs:Array Goroutine} {i:Nat} {g:Goroutine} {cases:Array CommCase} {b:Bool} {shape:CommShape} {w:World}:X1x w.drawn (sW (communicate p rest gs i g cases b shape w).1):=by
 have hwait:∀ w',waitingAt rest cases w=some w'->w'.drawn=w.drawn:=by
  intro w' h;unfold waitingAt at h
  repeat' first
   | (cases h; done)
   | (cases h; rfl)
   | split at h
 unfold communicate;simp only []
 repeat' first
  | exact Y0m _
  | trivial
  | exact Z1k (by assumption)
  | (simp only [sW,X1x]; exact Z1k (by assumption))
  | (simp only [sW,X1x]; exact Y4k (hwait _ (by assumption)).symm)
  | (simp only [sW,X1x]; exact Z7i (by assumption) (by assumption))
  | (simp only [sW,X1x]; exact ZkB (by assumption) (by assumption))
  | split
theorem Z8t (p:Program) (gs:Array Goroutine) (rest:Rest) (w:World):X1x w.drawn (sW (look p gs rest w)):=by
 unfold look;simp only []
 repeat' first
  | exact Y0m _
  | trivial
  | (simp only [sW,X1x]; exact Z1k (by assumption))
  | split
theorem Z9k {m:Machine} {op:TimerOp} {v:Value} {m':Machine} (h:timerOp m op=.ok (v,m')):m'.world.drawn=m.world.drawn:=by
 have hr:∀ (m:Machine) (k:Nat) (t:Timer) (a b:Nat),(retime m k t a b).2.world.drawn=m.world.drawn:=by
  intro m k t a b;unfold retime drain;simp only []
  repeat' first
   | rfl
   | split
 have ho:∀ (m':Machine) (a:Addr),timerOp.opened m a=some m'->m'.world.drawn=m.world.drawn:=by
  intro m' a h;unfold timerOp.opened at h
  repeat' first
   | (cases h; done)
   | (cases h; rfl)
   | split at h
 have hn:∀ (a:Addr) (f:Nat->Timer->Value×Machine) (D:Nat),(∀ k t,(f k t).2.world.drawn=D)->timerOp.named m a f=.ok (v,m')->m'.world.drawn=D:=by
  intro a f D hf h;unfold timerOp.named at h
  split at h
  . rename_i k _;have:=hf k (m.rest.timers.getD k default);injection h with h
    rw [h] at this;exact this
  . cases h
 unfold timerOp at h;simp only [] at h
 repeat' first
  | (cases h; done)
  | (cases h; rfl)
  | exact hn _ _ _ (fun k t=>hr _ _ _ _ _) h
  | (rename_i ho'; rw [<- ho _ _ ho']; exact hn _ _ _ (fun k t=>hr _ _ _ _ _) h)
  | split at h
theorem ZeQ (p:Program) (m:Machine) (i:Nat) (b:Bool):X1x m.world.drawn (sW (runT p m i b).1):=by
 simp only [runT];generalize m.gs.swapAt! _ _=gg;have hs:=Zc3 p (i == 0) b gg.1 m.world;generalize stepG p _ gg.1 m.world b=s at hs;cases s<;>simp only [gW] at hs ⊢
 all_goals first
  | exact hs
  | trivial
  | exact Z62.mono hs
  | exact (Z8t _ _ _ _).mono hs
  | skip
 all_goals repeat' first
  | exact hs
  | trivial
  | (simp only [sW,X1x]; rename_i ht; exact Y03 hs (Y4k (Z9k ht).symm))
  | split
theorem Zc4 (p:Program) (m:Machine) (k:Nat):X1x m.world.drawn (sW (serve p m k)):=by
 unfold serve;simp only []
 repeat' first
  | exact Y0m _
  | trivial
  | split
def mW:Move->Option World
 | .goroutine m _=>some m.world
 | .machine s _=>sW s
theorem Z55 (p:Program) (m:Machine):X1x m.world.drawn (mW (askOn p m)):=by
 have pick:∀ (D:Nat) (rs:List Nat) (m:Machine),D<=m.world.drawn->X1x D (mW (match (choose (.sched rs.length)).run p m.world with
  | .halt _ w => .machine (.ended (.stuck "sched" "") w)
  | .ok k world =>
    if rs.length<=1 then .goroutine { m with world } (rs.getD k 0) else
    match (choose (.extern "sched.slice" 65536)).run p world with
    | .halt _ w => .machine (.ended (.stuck "sched.slice" "") w)
    | .ok n world=>.goroutine { m with world,rest:={ m.rest with slice:=if n=0 then none else some (rs.getD k 0,n) } } (rs.getD k 0))):=by
  intro D rs m hD;refine X1x.mono hD ?_
  repeat' first
   | trivial
   | (simp only [mW,X1x]; exact Z1k (by assumption))
   | (simp only [mW,X1x]; exact Z7i (by assumption) (by assumption))
   | split
 unfold askOn;simp only []
 generalize hs:(if (due m.rest.timers m.world.os.mono).isEmpty=true then (pure 0:Sem Nat)
  else choose (.extern "timer.serve" ((due m.rest.timers m.world.os.mono).length + (if ((runnable m.gs m.world.os.mono).isEmpty && (ahead m false).isNone) = true then 0 else 1)))) = s0
 cases hr:s0.run p m.world with
 | halt h w=>trivial
 | ok k world =>
   simp only []
   split
   . exact (Zc4 p { m with world } _).mono (Z1k hr)
   . split
     . split
       . exact show m.world.drawn<=world.drawn from Z1k hr
       . split
         . exact show m.world.drawn<=world.drawn from Z1k hr
         . split<;>trivial
     . split
       . exact pick _ _ { m with world } (Z1k hr)
       . split
         . trivial
         . exact pick _ _ { m with world:=_ } (Z7i hr (by assumption))
         . simp only [mW, sW, X1x, Machine.advanceTo];exact Z7i hr (by assumption)
         . rename_i w2 h2;exact pick _ _ (Machine.advanceTo { m with world:=w2 } _) (show m.world.drawn<=w2.drawn from Z7i hr h2)
theorem ask_drawn' (p:Program) (m:Machine):X1x m.world.drawn (mW (ask p m)):=by
 unfold ask
 split
 . split
   . trivial
   . rename_i w h;have hl:=Z8t p m.gs m.rest w
     split
     . rename_i m2 h2;rw [h2] at hl;exact (Z55 p m2).mono (Y03 (Z1k h) hl)
     . exact hl.mono (Z1k h)
   . rename_i h;exact (Z55 p { m with world:=_ }).mono (Z1k h)
 . exact Z55 p m
theorem ZeR (p:Program) (m:Machine):X1x m.world.drawn (mW (move p m)):=by
 unfold move
 repeat' first
  | exact Y0m _
  | trivial
  | exact ask_drawn' p m
  | exact ask_drawn' p { m with rest:=_ }
  | split
theorem ZeS (p:Program) (m:Machine):X1x m.world.drawn (sW (step p m)):=by
 have h:=ZeR p m;unfold step stepT;cases hm:move p m with
 | goroutine m2 i =>
   rw [hm] at h;exact (ZeQ p m2 i true).mono h
 | machine s ops =>
   rw [hm] at h;exact h
theorem Zc5 {P:Program} {m m':Machine} (h:Steps P m m'):m.world.drawn<=m'.world.drawn:=by
 obtain⟨n,hn⟩:=h
 induction n generalizing m with
 | zero=>rw [runN] at hn; cases hn; exact Y0m _
 | succ n ih =>
   rw [runN] at hn;have hs:=ZeS P m
   split at hn
   . rename_i m1 h1;rw [h1] at hs;exact Y03 hs (ih hn)
   . rename_i e he;cases hst:step P m with
     | next m1=>exact absurd hst (he m1)
     | ended o w=>rw [hst] at hn; cases hn
theorem Zc6 {P:Program} {f:FuncId} {args:Array Value} {w:World} {R:Ending->World->Prop} (h:Calls P f args w R):Calls P f args w fun e w'=>R e w'/\∀ v,e=.returned v->w.drawn<=w'.drawn:=by
 intro cs;obtain⟨e,w',fr,hR,hc,hf,hl⟩:=h cs;refine⟨e,w',fr,⟨hR,?_⟩,hc,hf,hl⟩;rintro v rfl;exact Zc5 (m:=lone (Frame.enter P f args .normal) cs w) (m':=lone fr cs w') hc
end
section
open Go.RowKit
attribute [local irreducible] aw Xr dK
theorem Z5v {size n:Nat} {e:Env} {h:X2} {a:Operand} {l:List PV} (ha:ev e a=some (.cp l)) (hl:l.length=size):X3 (.load true size a) e h n=some (.agg l,h):=by
 subst hl;simp [X3,ha,X17]
theorem Zb {α:Type} {enc:α->List PV} (hp:∀ x,X5 (enc x)) (xs:List α):X1 (xs.map enc):=Z3k _ _ fun x _=>hp x
theorem Z4I {α:Type} {p:α->Bool} {xs:List α} {i:Nat} (hi:i<xs.length) (h:(xs.take i).any p=false) (hx:p xs[i]=false):(xs.take (i+1)).any p=false:=by
 rw [YW,Y0c hi,Y31,h];simp [hx]
def X2L {α:Type} (p:α->Bool):List α->Int
 | [] => -1
 | x :: xs=>if p x then 0 else (if X2L p xs<0 then -1 else X2L p xs+1)
theorem Z2O {α:Type} {p:α->Bool}:∀ {xs:List α},xs.any p=false->X2L p xs = -1
 | [],_=>rfl
 | x :: xs, h => by
   rw [Y3i,Y3f] at h;simp [X2L,h.1,Z2O h.2]
theorem Z64 {α:Type} {p:α->Bool}:∀ {xs:List α} {i:Nat} (hi:i<xs.length),(xs.take i).any p=false->p xs[i]=true->X2L p xs=(i:Int)
 | x :: xs,0,_,_,hx=>by simp only [List.getElem_cons_zero] at hx; simp [X2L,hx]
 | x :: xs, i + 1, hi, h, hx => by
   rw [List.take_succ_cons,Y3i,Y3f] at h;have:=Z64 (p:=p) (xs:=xs) (i:=i) (by simpa using hi) h.2 (by simpa using hx);simp only [X2L,h.1,this];have h3:¬ ((i:Int)<0):=by omega
   simp [h3]
theorem Z7j {α:Type} {p:α->Bool}:∀ {xs:List α},xs.any p=true->0<=X2L p xs
 | [],h=>by cases h
 | x :: xs, h => by
   rw [Y3i,YR] at h;unfold X2L;by_cases hx:p x=true
   . rw [Y6 hx]; exact Int.le_refl 0
   . have := Z7j (h.resolve_left hx);rw [Y8 hx,Y8 (by omega)];omega
theorem Z5w {α:Type} {p:α->Bool} {xs:List α}:decide (0<=X2L p xs)=xs.any p:=by
 cases h:xs.any p
 . rw [Z2O h]; rfl
 . exact Yw (Z7j h)
theorem Z49 {f nt:Nat} (ok:X3O Tryz.prog f nt ir72 [.tmp 4]) (hn:2<=nt) {α:Type} (xs:List α) (enc:α->List PV) (fl:Bool) (g:Nat) (caps:List PV) (p:α->Bool) (hl:∀ x,(enc x).length=2) (hp:∀ x,X5 (enc x)) (hc:X5 caps) (hg:∀ x∈xs,X7 Tryz.prog g (.agg (enc x) :: caps) (· = .val (.bool (p x)))) :
 X7 Tryz.prog f [.vec (xs.map enc) fl,.fn g caps] (· = .val (.int .i64 (X2L p xs))):=by
 refine Z3 ok hn fun C hC=>?_;refine Z40 (k:=0) rfl fun hmax=>?_;have hnl:(xs.map enc).length=xs.length:=by simp
 have hlm:xs.length<=Xj:=by simpa using hmax
 refine go ?_;refine Z4A (fun i=>i<=xs.length/\(xs.take i).any p=false) (fun i=>xs.length-i) (fun i => [(0,.vec (xs.map enc) fl),(1,.fn g caps),(7,.val (.int .i64 (xs.length:Int))),(8,Yv i)]) 0 ⟨Y0l _,rfl⟩ ⟨rfl,rfl,by rw [<- hnl]; rfl,rfl,Yt⟩ ?_;rintro i ⟨hi,hno⟩;have hinc:IntKind.i64.wrap ((i:Int)+1)=((i+1:Nat):Int):=Y0v _ ⟨by omega,by simp only [Xj] at hlm; omega⟩;(refine go ?_;repeat' (apply B<;>intro hb<;>try cases hb))
 . have hil : i < xs.length := by simpa using hb
   refine Qo (Zl (xs:=xs) rfl rfl i rfl hil (hl _)) ?_;refine Qo (Z5v rfl (hl _)) ?_;refine Qe (hg _ (Y0j hil)) ⟨hp _,hc⟩ ?_;refine Z1M ?_;refine Z5Z rfl (fun hx=>?_) (fun hx=>?_)
   . refine go ?_;exact Z8 rfl Yt (by rw [Z64 hil hno hx])
   . (refine go ?_;repeat' (apply B<;>intro hb<;>try cases hb));exact⟨i+1,⟨by omega,Z4I hil hno hx⟩,by omega,rfl,rfl,⟨rfl,rfl,rfl,by show some _=some _; rw [hinc],Yt⟩⟩
 . have hil : i = xs.length := by simp at hb; omega
   subst hil;rw [Y0q] at hno;exact Z8 rfl Yt (by rw [Z2O hno]; rfl)
theorem Z7k {α:Type} (xs:List α) (enc:α->List PV) (fl:Bool) (g:Nat) (caps:List PV) (p:α->Bool) (hl:∀ x,(enc x).length=2) (hp:∀ x,X5 (enc x)) (hc:X5 caps) (hg:∀ x∈xs,X7 Tryz.prog g (.agg (enc x) :: caps) (· = .val (.bool (p x)))) :
 X7 Tryz.prog 72 [.vec (xs.map enc) fl,.fn g caps] (· = .val (.int .i64 (X2L p xs))):=Z49 ok72 (by decide) xs enc fl g caps p hl hp hc hg
theorem Z1x {α:Type} (xs:List α) (enc:α->List PV) (fl:Bool) (g:Nat) (caps:List PV) (p:α->Bool) (hl:∀ x,(enc x).length=2) (hp:∀ x,X5 (enc x)) (hc:X5 caps) (hg:∀ x∈xs,X7 Tryz.prog g (.agg (enc x) :: caps) (· = .val (.bool (p x)))) :
 X7 Tryz.prog 28 [.vec (xs.map enc) fl,.fn g caps] (· = .val (.bool (xs.any p))):=by
 refine Yp ok28 fun C hC=>?_;refine go ?_;refine Qe (Z7k xs enc fl g caps p hl hp hc hg) ⟨Zb hp xs,hc,Yt⟩ ?_;refine Qo (Z4 rfl (Z5w (p:=p) (xs:=xs))) ?_;(refine go ?_;repeat' (apply B<;>intro hb<;>try cases hb))
 all_goals exact Z8 rfl Yt (by rw [hb])
end
section
open Go.RowKit
section
variable {P:Program} {C:Ctx} {e:Env} {h:X2} {F:XL} {φ:XO} {a:Act} {w:World}
theorem St'.renF {n:Nat} (s:St' C (fun i=>n<=i) e h F φ a w) (ρ:Nat->Nat) {n':Nat} {e':Env} {h':X2} (he:∀ k p,e' k=some p->∃ p0,e k=some p0/\X1J ρ (fun i=>i<n') p0 p) (hh:∀ k b,h' k=some b->k<n'/\∃ b0,h (ρ k)=some b0/\Xw ρ (fun i=>i<n') b0 b)
 (hinj:∀ k k' b b',h' k=some b->h' k'=some b'->ρ k=ρ k'->k=k') {m:Nat} (hdom:C.dom m) (hm:m<=n') (hρ:∀ i,i<m->ρ i=i):∃ φ',St' C (fun i=>n'<=i) e' h' F φ' a w:=by
 let φ':XO:=fun i=>if i<n' then φ (ρ i) else none
 have hφ:∀ i x,i<n'->φ (ρ i)=some x->φ' i=some x:=fun i x hi hx=>by simp only [φ',hi,Y25]; exact hx
 refine⟨φ',{ nt:=s.nt,glob:=s.glob,marks:=s.marks,loc0:=fun i x hx=>?_,free:=fun i hi=>?_,env:=fun k p hp=>?_,froz:=s.froz,ext:=s.ext,old:=s.old,os:=s.os,tape:=s.tape,output:=s.output,size:=s.size,kept:=s.kept,live:=fun i b hb=>?_,sep:=?_ }⟩
 . have : ¬ i < n' := by omega
   simp only [φ',this,Y26]
 . obtain ⟨p0, h0, hr⟩ := he _ _ hp;exact⟨(s.env k p0 h0).1,hr.rep hφ (s.env k p0 h0).2⟩
 . by_cases him : i < m
   . exact hφ i x (by omega) (by rw [hρ i him]; exact s.loc0 i x hx)
   . rw [hdom i (by omega)] at hx; cases hx
 . obtain ⟨hi, b0, h0, hr⟩ := hh _ _ hb;obtain⟨loc,h1,h2,h3⟩:=s.live _ b0 h0;refine⟨loc,hφ i loc hi h1,?_,h3⟩;cases hr with
   | same hp=>exact h2.names hp
   | gen _ hz he hl hcl hrp =>
     have h2:=h2.cellsB (by rw [he]; exact hz);refine .inl ⟨by rw [<- he]; exact h2.esz,h2.pos,by rw [<- hl]; exact h2.len,h2.cap,h2.max,fun c hc=>?_,fun hc=>?_⟩
     . obtain ⟨k, hk, rfl⟩ := Y1d hc;have e1:b.elems[k]=b.elems.getD k []:=by simp [Y0b,hk]
       rw [e1,<- hcl k hk]
       exact h2.el _ (by have hk' : k < b0.elems.length := by rw [hl]; exact hk
                         simp [Y0b,hk'])
     . obtain ⟨x, hx, hs, cells, t, hg, hsz, hrep⟩ := h2.room hc;refine⟨x,hx,hs,cells,t,hg,hsz,fun i j hi hj=>⟨(hrep i j hi hj).1,?_⟩⟩;exact (hrp i j (by rw [<- hl,h2.len]; exact hi) (by rw [<- he,h2.esz]; exact hj)).rep hφ (hrep i j hi hj).2
 . intro i j bi bj li lj k hi hj hli hlj hki hkj;obtain⟨hin,b0,h0,_⟩:=hh _ _ hi;obtain⟨hjn,c0,g0,_⟩:=hh _ _ hj;have hli':φ (ρ i)=some li:=by simpa only [φ',show i<n' from hin,Y25] using hli
   have hlj':φ (ρ j)=some lj:=by simpa only [φ',show j<n' from hjn,Y25] using hlj
   exact hinj _ _ _ _ hi hj (s.sep _ _ b0 c0 li lj k h0 g0 hli' hlj' hki hkj)
theorem ZiJ (ρ:Nat->Nat) {n n':Nat} {e':Env} {h':X2} (he:∀ k p,e' k=some p->∃ p0,e k=some p0/\X1J ρ (fun i=>i<n') p0 p) (hh:∀ k b,h' k=some b->k<n'/\∃ b0,h (ρ k)=some b0/\Xw ρ (fun i=>i<n') b0 b)
 (hinj:∀ k k' b b',h' k=some b->h' k'=some b'->ρ k=ρ k'->k=k') {m:Nat} (hdom:C.dom m) (hm:m<=n') (hρ:∀ i,i<m->ρ i=i):Sub C n e h n' e' h':=by
 rintro a w ⟨F,φ,s⟩;obtain⟨φ',s'⟩:=s.renF ρ he hh hinj hdom hm hρ;exact⟨F,φ',s'⟩
def X1T (h:X2) (D n:Nat) (f:Nat->PV) (K:Nat) (g:Nat->Bx):X2:=fun k =>
 bif Nat.beq k D then some ⟨1,(List.range 64).map fun j => [f j]⟩ else bif Nat.ble n k&&Nat.blt k (n+K) then some (g (k-n)) else h k
def X1r (n i:Nat) (j:Nat):PV:=if j<i then .own (n+j) else .vec [] true
theorem Z31 (h:X2) (D n:Nat) (f:Nat->PV) (K:Nat) (g:Nat->Bx):X1T h D n f K g D=some ⟨1,(List.range 64).map fun j => [f j]⟩:=by
 unfold X1T;rw [show Nat.beq D D=true from Y4l D]; rfl
theorem Z2z (h:X2) {D n:Nat} (hD:D<n) (f:Nat->PV) {K:Nat} (g:Nat->Bx) {j:Nat} (hj:j<K):X1T h D n f K g (n+j)=some (g j):=by
 unfold X1T;have e1:Nat.beq (n+j) D=false:=Yy.2 fun hb=>by have:=YH hb; omega
 have e2:Nat.ble n (n+j)=true:=Eq.mpr Nat.ble_eq (by omega);have e3:Nat.blt (n+j) (n+K)=true:=Eq.mpr Y4K (by omega);rw [e1,e2,e3];simp
theorem Z2A (h:X2) {D n:Nat} (f:Nat->PV) {K:Nat} (g:Nat->Bx) {k:Nat} (hk:k≠D) (hn:k<n \/ n+K<=k):X1T h D n f K g k=h k:=by
 unfold X1T;have e1:Nat.beq k D=false:=Yy.2 fun hb=>hk (YH hb);rw [e1];rcases hn with hn|hn
 . have e2 : Nat.ble n k = false := Yy.2 fun hb => by have := Y0 hb; omega
   rw [e2]; rfl
 . have e2 : Nat.blt k (n + K) = false := Yy.2 fun hb => by have := Eq.mp Y4K hb; omega
   rw [e2]; simp
theorem Z8u {h:X2} {D n:Nat} (hD:D<n) {f:Nat->PV} {K:Nat} {g:Nat->Bx} {k:Nat} {b:Bx} (hk:X1T h D n f K g k=some b):(k=D/\b=⟨1,(List.range 64).map fun j => [f j]⟩) \/ (∃ j,j<K/\k=n+j/\b=g j) \/ (k≠D/\(k<n \/ n+K<=k)/\h k=some b):=by
 by_cases h1:k=D
 . subst h1; rw [Z31] at hk; cases hk; exact .inl ⟨rfl,rfl⟩
 . by_cases h2 : n <= k /\ k < n + K
   . obtain ⟨j, rfl⟩ : ∃ j, k = n + j := ⟨k - n, by omega⟩;rw [Z2z h hD f g (by omega)] at hk;cases hk;exact .inr (.inl ⟨j,by omega,rfl,rfl⟩)
   . have h3 : k < n \/ n + K <= k := by omega
     rw [Z2A h f g h1 h3] at hk;exact .inr (.inr ⟨h1,h3,hk⟩)
theorem Z5x {f:Nat->List PV} {i:Nat} (r:List PV) (hi:i<64):((List.range 64).map f).set i r=(List.range 64).map fun j=>if j=i then r else f j:=by
 apply Y4j;intro j;rw [Y1p,Y0f,Y2J,Y0y,Y0y];by_cases hj:j<64
 . rw [Y3p hj];by_cases e:i=j
   . subst e; simp [hi]
   . rw [Y8 e]; simp [Y2L e]
 . rw [Y2F (by simpa using hj)];by_cases e:i=j
   . subst e; exact absurd hi hj
   . rw [Y8 e]; rfl
theorem Z1o {f:Nat->List PV} {i:Nat} (hi:i<64):((List.range 64).map f).getD i []=f i:=by
 rw [Y0b,Y0y,Y3p hi]; rfl
theorem ZgB {h:X2} {D n i:Nat} (hD:D<n) (hi:i<64) (esz:Nat) :
 ((X1T h D n (X1r n i) i (fun _=>⟨esz,[]⟩)).upd D ⟨1,((List.range 64).map fun j => [X1r n i j]).set i ((((List.range 64).map fun j => [X1r n i j]).getD i []).set 0 (.own (n+i)))⟩).upd (n+i) ⟨esz,[]⟩=X1T h D n (X1r n (i+1)) (i+1) (fun _=>⟨esz,[]⟩):=by
 funext k;rw [Z1o hi,Z5x _ hi];by_cases h1:k=n+i
 . subst h1;rw [X2.upd_same,Z2z _ hD _ _ (Y2R i)]
 . rw [X2.upd_ne _ _ h1];by_cases h2:k=D
   . subst h2;rw [X2.upd_same,Z31];refine congrArg (fun l=>some (Bx.mk 1 l)) (Y2s fun j hj=>?_);unfold X1r;by_cases hji:j=i
     . subst hji; rw [Y6 rfl,Y6 (Y2R _)]; rfl
     . rw [Y8 hji];by_cases hlt:j<i
       . rw [Y6 hlt,Y6 (by omega)]
       . rw [Y8 hlt,Y8 (by omega)]
   . rw [X2.upd_ne _ _ h2];by_cases h3:n<=k/\k<n+i
     . obtain ⟨j, rfl⟩ : ∃ j, k = n + j := ⟨k - n, by omega⟩;rw [Z2z _ hD _ _ (by omega:j<i),Z2z _ hD _ _ (by omega:j<i+1)]
     . rw [Z2A _ _ _ h2 (by omega),Z2A _ _ _ h2 (by omega)]
theorem ZeV {n D:Nat} (hD:D<n) (hb:h D=some ⟨1,List.replicate 64 [.vec [] true]⟩) (esz:Nat) (hp:0<esz):Sub C n e h (n+64) e (X1T h D n (fun j=>.own (n+j)) 64 (fun _=>⟨esz,[]⟩)):=by
 have key:∀ i,i<=64->Sub C n e h (n+i) e (X1T h D n (X1r n i) i (fun _=>⟨esz,[]⟩)):=by
  intro i
  induction i with
  | zero =>
    intro _;have e0:X1T h D n (X1r n 0) 0 (fun _=>⟨esz,[]⟩)=h:=by
     funext k;by_cases h2:k=D
     . subst h2;rw [Z31,hb];have:∀ l:List Nat,(l.map fun j => [X1r n 0 j])=List.replicate l.length [PV.vec [] true]:=by
        intro l
        induction l with
        | nil=>rfl
        | cons x l ih=>rw [Y1J,ih]; rfl
       rw [this,Y2J]
     . exact Z2A _ _ _ h2 (by omega)
    rw [e0];exact Z9a
  | succ i ih =>
    intro hi;have hi':i<64:=by omega
    refine Z74 (ih (by omega)) ?_;have e1:=ZgB (h:=h) hD hi' esz;rw [<- e1];refine Z7c (id:=D) (b:=⟨1,(List.range 64).map fun j => [X1r n i j]⟩) (i0:=i) (j0:=0) (Z31 _ _ _ _ _ _) (by simpa using hi') (by rw [Z1o hi']; exact Y1M) ?_ esz hp (by omega);rw [Z1o hi'];show (X1r n i i)=_;unfold X1r;rw [Y8 (Nat.lt_irrefl i)]
 have e2:X1T h D n (X1r n 64) 64 (fun _=>⟨esz,[]⟩)=X1T h D n (fun j=>.own (n+j)) 64 (fun _=>⟨esz,[]⟩):=by
  unfold X1T;have:((List.range 64).map fun j => [X1r n 64 j])=(List.range 64).map fun j => [PV.own (n+j)]:=Y2s fun j hj=>by
   unfold X1r;rw [Y6 (Y1x.1 hj)]
  rw [this]
 rw [<- e2];exact key 64 (Y0m _)
end
noncomputable def jun (l:List Pr) (r:Nat):Nat:=bel l r ||| 2 ^ r
theorem Z7n {l:List Pr} (hl:XN l) (r b:Nat):(jun l r).testBit b=true↔Up l r b \/ b=r:=by
 unfold jun;rw [Y00,YR,Zgs hl,YI];simp only [Y0n];exact⟨fun h=>h.imp id Eq.symm,fun h=>h.imp id Eq.symm⟩
theorem ZdC (l:List Pr) {r:Nat} (hr:r<64):jun l r<18446744073709551616:=Z1S (Zgt l r) (ZP hr)
def X2u (l:List Pr) (s:Nat):Nat:=l.foldl (fun n x=>if s.testBit x.1=true then n ||| 2 ^ x.2 else n) s
theorem Z8v (s b:Nat):∀ (l:List Pr) (n:Nat),(l.foldl (fun n x=>if s.testBit x.1=true then n ||| 2 ^ x.2 else n) n).testBit b=true↔n.testBit b=true \/ ∃ x∈l,s.testBit x.1=true/\x.2=b
 | [],n=>by simp
 | x :: l, n => by
   rw [Y1b,Z8v s b l];by_cases hx:s.testBit x.1=true
   . rw [Y6 hx, Y00, YR, YI];simp only [Y0n];constructor
     . rintro ((h | h) | ⟨y, hy, h⟩)
       . exact .inl h
       . exact .inr ⟨x,Y0t ..,hx,h⟩
       . exact .inr ⟨y,YB _ hy,h⟩
     . rintro (h | ⟨y, hy, h1, h2⟩)
       . exact .inl (.inl h)
       . rcases YD.1 hy with rfl | hy
         . exact .inl (.inr h2)
         . exact .inr ⟨y,hy,h1,h2⟩
   . rw [Y8 hx];constructor
     . rintro (h | ⟨y, hy, h⟩)
       . exact .inl h
       . exact .inr ⟨y,YB _ hy,h⟩
     . rintro (h | ⟨y, hy, h1, h2⟩)
       . exact .inl h
       . rcases YD.1 hy with rfl | hy
         . exact absurd h1 hx
         . exact .inr ⟨y,hy,h1,h2⟩
theorem Z5z (l:List Pr) (s b:Nat):(X2u l s).testBit b=true↔s.testBit b=true \/ ∃ x∈l,s.testBit x.1=true/\x.2=b:=Z8v s b l s
theorem ZeY {l:List Pr} {i:Nat} (hi:i<l.length) (s n:Nat):(l.take (i+1)).foldl (fun n x=>if s.testBit x.1=true then n ||| 2 ^ x.2 else n) n=if s.testBit l[i].1=true then (l.take i).foldl (fun n x=>if s.testBit x.1=true then n ||| 2 ^ x.2 else n) n ||| 2 ^ l[i].2 else (l.take i).foldl (fun n x=>if s.testBit x.1=true then n ||| 2 ^ x.2 else n) n:=by
 have e:l.take (i+1)=l.take i ++ [l[i]]:=by rw [YW,Y0c hi]; rfl
 rw [e,Y1y]; rfl
theorem Zav {l:List Pr} (hl:XN l) (s:Nat):∀ (n:Nat),n<18446744073709551616->l.foldl (fun n x=>if s.testBit x.1=true then n ||| 2 ^ x.2 else n) n<18446744073709551616:=by
 induction l with
 | nil=>exact fun n hn=>hn
 | cons x l ih =>
   intro n hn;rw [Y1b];refine ih (fun p hp=>hl p (YB _ hp)) _ ?_
   split
   . exact Z1S hn (ZP (hl x (Y0t ..)).2)
   . exact hn
theorem ZiR {l:List Pr} (hl:XN l) {s:Nat} (hs:s<18446744073709551616):X2u l s<18446744073709551616:=Zav hl s s hs
structure X3j (l:List Pr) (r s:Nat):Prop where
 lt:s<18446744073709551616
 self:s.testBit r=true
 sound:∀ b,s.testBit b=true->Up l r b \/ b=r
theorem X3j.init {l:List Pr} {r:Nat} (hr:r<64):X3j l r (2 ^ r):=⟨ZP hr,Y2m,fun b hb=>by rw [YI] at hb; exact .inr (Y0u hb).symm⟩
theorem X3j.step {l:List Pr} (hl:XN l) {r s:Nat} (h:X3j l r s):X3j l r (X2u l s):=by
 refine⟨ZiR hl h.lt,(Z5z l s r).2 (.inl h.self),fun b hb=>?_⟩;rcases (Z5z l s b).1 hb with hb|⟨x,hx,h1,rfl⟩
 . exact h.sound b hb
 . rcases h.sound _ h1 with h2 | h2
   . exact .inl (.more h2 hx)
   . refine .inl (.one ?_);rw [<- h2]; exact hx
theorem X3j.done {l:List Pr} (hl:XN l) {r s:Nat} (hr:r<64) (h:X3j l r s) (he:X2u l s=s):s=jun l r:=by
 refine X6n h.lt (ZdC l hr) fun b hb=>?_;rw [YQ,Z7n hl];refine⟨h.sound b,?_⟩;have hcl:∀ a b,s.testBit a=true->(a,b)∈l->s.testBit b=true:=fun a b ha hab=>by
  rw [<- he];exact (Z5z l s b).2 (.inr ⟨(a,b),hab,ha,rfl⟩)
 rintro (hu|rfl)
 . induction hu with
   | one k=>exact hcl _ _ h.self k
   | more _ k ih=>exact hcl _ _ (ih (hl _ k).1) k
 . exact h.self
theorem Zcd (l:List Pr) (s:Nat) (h:X2u l s≠s):s<X2u l s:=by
 have hle:s<=X2u l s:=by
  have e:s ||| X2u l s=X2u l s:=by
   apply YE;intro i;rw [Y00];cases hi:s.testBit i with
   | true=>rw [(Z5z l s i).2 (.inl hi)]; rfl
   | false=>rw [Y1O]
  rw [<- e];exact YN
 omega
noncomputable def X39 (l:List Pr) (s k:Nat):Nat:=((List.range k).filter fun i=>s.testBit i).foldl (fun o r=>if 1<=r then o ||| jun l r else o) 0
noncomputable def clo (l:List Pr) (s:Nat):Nat:=X39 l s 64
theorem Zce (l:List Pr) (s:Nat):clo l s=(mem s).foldl (fun o r=>if 1<=r then o ||| jun l r else o) 0:=rfl
theorem Z8w (l:List Pr) (s k:Nat):X39 l s (k+1)=if s.testBit k=true/\1<=k then X39 l s k ||| jun l k else X39 l s k:=by
 unfold X39;rw [Y3Y,Y2B,Y1y];by_cases h:s.testBit k=true
 . rw [Y4O (by simpa using h)];by_cases h1:1<=k
   . simp [h,h1]
   . simp [h,h1]
 . rw [Y4P (by simpa using h)];simp [h]
theorem ZgI (l:List Pr) (s:Nat):X39 l s 1=0:=by
 rw [Z8w,Y8 (by omega)]; rfl
theorem Zcf (l:List Pr):∀ (rs:List Nat) (o:Nat),(∀ r∈rs,r<64)->o<18446744073709551616->rs.foldl (fun o r=>if 1<=r then o ||| jun l r else o) o<18446744073709551616
 | [],o,_,ho=>ho
 | r :: rs, o, h, ho => by
   rw [Y1b];refine Zcf l rs _ (fun x hx=>h x (YB _ hx)) ?_
   split
   . exact Z1S ho (ZdC l (h r (Y0t ..)))
   . exact ho
theorem ZdD (l:List Pr) (s:Nat) {k:Nat} (hk:k<=64):X39 l s k<18446744073709551616:=Zcf l _ 0 (fun r hr=>by have:=Y1x.1 (Y1f.1 hr).1;omega) (by decide)
theorem Z5A (l:List Pr) (s:Nat):clo l s<18446744073709551616:=ZdD l s (Y0m _)
theorem ZdE (l:List Pr) (b:Nat):∀ (rs:List Nat) (o:Nat),(rs.foldl (fun o r=>if 1<=r then o ||| jun l r else o) o).testBit b=true↔o.testBit b=true \/ ∃ r∈rs,1<=r/\(jun l r).testBit b=true
 | [],o=>by simp
 | r :: rs, o => by
   rw [Y1b,ZdE l b rs];by_cases h1:1<=r
   . rw [Y6 h1, Y00, YR];constructor
     . rintro ((h | h) | ⟨x, hx, h⟩)
       . exact .inl h
       . exact .inr ⟨r,Y0t ..,h1,h⟩
       . exact .inr ⟨x,YB _ hx,h⟩
     . rintro (h | ⟨x, hx, h2, h3⟩)
       . exact .inl (.inl h)
       . rcases YD.1 hx with rfl | hx
         . exact .inl (.inr h3)
         . exact .inr ⟨x,hx,h2,h3⟩
   . rw [Y8 h1];constructor
     . rintro (h | ⟨x, hx, h⟩)
       . exact .inl h
       . exact .inr ⟨x,YB _ hx,h⟩
     . rintro (h | ⟨x, hx, h2, h3⟩)
       . exact .inl h
       . rcases YD.1 hx with rfl | hx
         . exact absurd h2 h1
         . exact .inr ⟨x,hx,h2,h3⟩
theorem ZgJ {l:List Pr} (s b:Nat) (hs:s<18446744073709551616):(clo l s).testBit b=true↔∃ r,s.testBit r=true/\1<=r/\(jun l r).testBit b=true:=by
 rw [Zce,ZdE];constructor
 . rintro (h | ⟨r, hr, h⟩)
   . simp at h
   . exact⟨r,(ZY hs).1 hr,h⟩
 . rintro ⟨r, hr, h⟩;exact .inr ⟨r,(ZY hs).2 hr,h⟩
structure X4g (l:List Pr):Prop where
 asc:l.Pairwise fun p q=>p.1<q.1 \/ p.1=q.1/\p.2<q.2
 role:∀ p∈l,1<=p.1/\p.1<=6/\1<=p.2/\p.2<=6/\p.1≠p.2
 acy:Acy l
theorem X4g.small {l:List Pr} (h:X4g l):XN l:=fun p hp=>by have:=h.role p hp; omega
end
section
open Go.RowKit
attribute [local irreducible] aw Xr dK
abbrev Cu:=Nat×Nat
def cuC (c:Cu):List PV := [.vec (X4 (Xb c.1)) false,.vec (X4 (Xb c.2)) false]
def cuP (c:Cu):PV:=.agg (cuC c)
def Xy (c:Cu):Prop:=c.1<18446744073709551616/\c.2<18446744073709551616
theorem Zh (c:Cu):X5 (cuC c):=⟨Z7 _,Z7 _,Yt⟩
theorem ZA (c:Cu):(cuP c).pure:=Zh c
theorem ZkH (c:Cu):(cuC c).length=2:=rfl
def emC (c:Cu):Bool:=decide (c.1 &&& c.2≠0)
def hoC (c:Cu) (s:Nat):Bool:=decide (c.1 ||| s=s) && !decide (c.2 &&& s≠0)
def soC (l:List Cu) (s:Nat):Bool:=l.any fun c=>hoC c s
def wiC (a b:Cu):Bool:=emC a||(decide (b.1 ||| a.1=a.1)&&decide (b.2 ||| a.2=a.2))
def X19 (a b:Cu):Cu:=(a.1 ||| b.1,a.2 ||| b.2)
def eqC (a b:Cu):Bool:=decide (a.1=b.1)&&decide (a.2=b.2)
theorem Zcj (a b:Cu):eqC a b=true↔a=b:=by
 obtain⟨a1,a2⟩:=a;obtain⟨b1,b2⟩:=b;simp [eqC,Y3D]
theorem Z1f (c:Cu) (hc:Xy c):X7 Tryz.prog 56 [cuP c] (· = .val (.bool (emC c))):=by
 refine Yp ok56 fun C hC=>?_;refine Zm ?_;refine Z9 ?_;refine Z5 rfl rfl rfl ?_;refine go ?_;refine Qe (Z4E c.1 c.2 hc.1 hc.2) ⟨Z2 _,Z2 _,Yt⟩ ?_;(refine go ?_;repeat' (apply B<;>intro hb<;>try cases hb))
 all_goals exact Z8 rfl Yt (XT hb.symm)
theorem Z57 (c:Cu) (s:Nat) (hc:Xy c) (hs:s<18446744073709551616):X7 Tryz.prog 102 [cuP c,XG s] (· = .val (.bool (hoC c s))):=by
 refine Yp ok102 fun C hC=>?_;refine Zm ?_;refine Z9 ?_;refine Z5 rfl rfl rfl ?_;refine Z5 rfl rfl rfl ?_;refine go ?_;refine Qe (Z1z c.1 s hc.1 hs) ⟨Z2 _,Z2 _,Yt⟩ ?_;unfold hoC;cases hd:decide (c.1 ||| s=s)
 . refine go ?_;exact Z8 rfl Yt rfl
 . refine go ?_;refine Qe (Z4E c.2 s hc.2 hs) ⟨Z2 _,Z2 _,Yt⟩ ?_;(refine go ?_;repeat' (apply B<;>intro hb<;>try cases hb))
   all_goals exact Z8 rfl Yt (XT (by simp_all))
theorem Zck (c:Cu) (s:Nat) (hc:Xy c) (hs:s<18446744073709551616):X7 Tryz.prog 103 [cuP c,.cp [.vec (X4 (Xb s)) false]] (· = .val (.bool (hoC c s))):=by
 refine Yp ok103 fun C hC=>?_;refine Zm ?_;refine Z9 ?_;refine Z5 rfl rfl rfl ?_;refine go ?_;refine Qe (Z57 c s hc hs) ⟨Zh _,Z2 _,Yt⟩ ?_;(refine go ?_;repeat' (apply B<;>intro hb<;>try cases hb))
 all_goals exact Z8 rfl Yt (XT (by simp [hb]))
theorem Z65 (l:List Cu) (fl:Bool) (s:Nat) (hl:∀ c∈l,Xy c) (hs:s<18446744073709551616):X7 Tryz.prog 42 [.vec (l.map cuC) fl,XG s] (· = .val (.bool (soC l s))):=by
 refine Yp ok42 fun C hC=>?_;refine Zm ?_;refine Z9 ?_;refine Z5 rfl rfl rfl ?_;refine go ?_;refine Qe (Z1x l cuC fl _ [.cp [.vec (X4 (Xb s)) false]] (fun c=>hoC c s) ZkH Zh ⟨Z2 s,Yt⟩ fun c hc=>Zck c s (hl c hc) hs) ⟨Zb Zh l,⟨Z2 s,Yt⟩,Yt⟩ ?_;(refine go ?_;repeat' (apply B<;>intro hb<;>try cases hb))
 all_goals exact Z8 rfl Yt (XT hb.symm)
theorem Zay (a b:Cu) (ha:Xy a) (hb:Xy b):X7 Tryz.prog 204 [cuP a,cuP b] (· = .val (.bool (wiC a b))):=by
 refine Yp ok204 fun C hC=>?_;refine Zm ?_;refine Z9 ?_;refine Z5 rfl rfl rfl ?_;refine Z5 rfl rfl rfl ?_;refine go ?_;refine Qe (Z1f a ha) ⟨Zh _,Yt⟩ ?_;unfold wiC;cases he:emC a
 . refine go ?_;refine Qe (Z1z b.1 a.1 hb.1 ha.1) ⟨Z2 _,Z2 _,Yt⟩ ?_;cases hd:decide (b.1 ||| a.1=a.1)
   . refine go ?_;exact Z8 rfl Yt rfl
   . refine go ?_;refine Qe (Z1z b.2 a.2 hb.2 ha.2) ⟨Z2 _,Z2 _,Yt⟩ ?_;(refine go ?_;repeat' (apply B<;>intro hb<;>try cases hb))
     all_goals exact Z8 rfl Yt (XT (by simp_all))
 . refine go ?_;exact Z8 rfl Yt rfl
theorem Z8z (a b:Cu) (ha:Xy a) (hb:Xy b):X7 Tryz.prog 189 [cuP a,cuP b] (· = cuP (X19 a b)):=by
 refine Yp ok189 fun C hC=>?_;refine Zm ?_;refine Z9 ?_;refine Z5 rfl rfl rfl ?_;refine Z5 rfl rfl rfl ?_;refine go ?_;refine Qd (Z1w a.1 b.1 ha.1 hb.1) ⟨Z2 _,Z2 _,Yt⟩ ?_;refine go ?_;refine Qd (Z1w a.2 b.2 ha.2 hb.2) ⟨Z2 _,Z2 _,Yt⟩ ?_;refine go ?_;exact Z8 (r:=cuP (X19 a b)) rfl (ZA _) rfl
def meC (a b:Cu):Cu×Bool:=if emC (X19 a b) then ((0,0),false) else (X19 a b,true)
theorem ZdF {a b:Cu} (ha:Xy a) (hb:Xy b):Xy (X19 a b):=⟨Z1S ha.1 hb.1,Z1S ha.2 hb.2⟩
theorem ZiS:cuC (0,0) = [.vec [] false,.vec [] false]:=by simp only [cuC]; rw [ZL]; rfl
theorem Z8A (a b:Cu) (ha:Xy a) (hb:Xy b):X7 Tryz.prog 190 [cuP a,cuP b] (· = .tup [cuP (meC a b).1,.val (.bool (meC a b).2)]):=by
 refine Yp ok190 fun C hC=>?_;refine Zm ?_;refine Z9 ?_;refine Z5 rfl rfl rfl ?_;refine Z5 rfl rfl rfl ?_;refine go ?_;refine Qe (Z8z a b ha hb) ⟨Zh _,Zh _,Yt⟩ ?_;refine go ?_;refine Qe (Z1f _ (ZdF ha hb)) ⟨Zh _,Yt⟩ ?_;unfold meC;cases he:emC (X19 a b)
 . refine go ?_;exact Z8 rfl ⟨ZA _,Yt,Yt⟩ rfl
 . refine go ?_;refine Z1K rfl (Z2N rfl) ?_;simp only [Y25,cuP,ZiS]
   rfl
theorem Z7o (a b:Cu) (ha:Xy a) (hb:Xy b):X7 Tryz.prog 32 [cuP a,cuP b] (· = .val (.bool (eqC a b))):=by
 refine Yp ok32 fun C hC=>?_;refine Zm ?_;refine Z9 ?_;refine Z5 rfl rfl rfl ?_;refine Z5 rfl rfl rfl ?_;refine go ?_;refine Qe (Z52 a.1 b.1 ha.1 hb.1) ⟨Z2 _,Z2 _,Yt⟩ ?_;unfold eqC;cases hd:decide (a.1=b.1)
 . refine go ?_;exact Z8 rfl Yt rfl
 . refine go ?_;refine Qe (Z52 a.2 b.2 ha.2 hb.2) ⟨Z2 _,Z2 _,Yt⟩ ?_;(refine go ?_;repeat' (apply B<;>intro hb<;>try cases hb))
   all_goals exact Z8 rfl Yt (XT (by simp_all))
end
section
open Go.RowKit
def X24 (x y:Nat):Int:=if x<y then -1 else if x=y then 0 else 1
theorem ZdG {x y:Nat}:X24 x y<0↔x<y:=by unfold X24; split<;>(try split)<;>omega
theorem ZgM {x y:Nat}:X24 x y=0↔x=y:=by unfold X24; split<;>(try split)<;>omega
theorem Z7p (x:Nat):X24 x x=0:=ZgM.2 rfl
def X1Z (a:Nat):Nat:=if a=0 then 0 else if a % 2=1 then 1 else 2
def X2U:Nat->Nat->Nat
 | 0,_=>0
 | k+1,a=>X1Z a*3 ^ k+X2U k (a / 2)
theorem ZkI (a:Nat):X1Z a<=2:=by unfold X1Z; split<;>(try split)<;>omega
theorem Z3C:∀ (k a:Nat),X2U k a<3 ^ k
 | 0,_=>by simp [X2U]
 | k + 1, a => by
   have h1:=Z3C k (a / 2);have h2:=ZkI a;have h3:X1Z a*3 ^ k<=2*3 ^ k:=YX _ h2;simp only [X2U,Y23];omega
theorem Z3q:∀ k,X2U k 0=0
 | 0=>rfl
 | k+1=>by simp [X2U,X1Z,Z3q k]
def X8Q:List Nat->List Nat->Int
 | [],[]=>0
 | [],_ :: _ => -1
 | _ :: _,[]=>1
 | x :: xs,y :: ys=>if x<y then -1 else if y<x then 1 else X8Q xs ys
def X8Y (k N:Nat):List Nat:=(List.range k).filter fun i=>N.testBit i
theorem ZdH:∀ {k a b:Nat},a<2 ^ k->b<2 ^ k->X2U k a=X2U k b->a=b:=by
 intro k
 induction k with
 | zero=>intro a b ha hb _; simp at ha hb; omega
 | succ k ih =>
   intro a b ha hb h;have ha':a / 2<2 ^ k:=by rw [Y23] at ha; omega
   have hb':b / 2<2 ^ k:=by rw [Y23] at hb; omega
   have la:=Z3C k (a / 2);have lb:=Z3C k (b / 2);simp only [X2U] at h;have hp:0<3 ^ k:=Y2V (by decide);have hd:X1Z a=X1Z b:=by
    have h1:(X1Z a*3 ^ k+X2U k (a / 2)) / 3 ^ k=X1Z a:=by rw [Y24,Y3V hp,Y2a la]; rfl
    have h2:(X1Z b*3 ^ k+X2U k (b / 2)) / 3 ^ k=X1Z b:=by rw [Y24,Y3V hp,Y2a lb]; rfl
    rw [<- h1,<- h2,h]
   rw [hd] at h;have h2:=ih ha' hb' (by omega);unfold X1Z at hd;by_cases h3:a=0<;>by_cases h4:b=0<;>simp only [h3,h4,Y25,Y26] at hd
   . omega
   . split at hd<;>omega
   . split at hd<;>omega
   . split at hd<;>split at hd<;>omega
abbrev key (N:Nat):Nat:=X2U 64 N
theorem ZgN {a b:Nat} (ha:a<18446744073709551616) (hb:b<18446744073709551616) (h:key a=key b):a=b:=ZdH (k:=64) ha hb h
theorem ZgO:∀ (k:Nat) {a b:Nat},a<2 ^ k->b<2 ^ k->a≠b->X24 (X2U k a) (X2U k b)=(if a.testBit (tz (a ^^^ b)) then (if b / 2 ^ (tz (a ^^^ b)+1)=0 then 1 else -1) else (if a / 2 ^ (tz (a ^^^ b)+1)=0 then -1 else 1))
 | 0,a,b,ha,hb,hn=>by simp at ha hb; omega
 | k + 1, a, b, ha, hb, hn => by
   have ha':a / 2<2 ^ k:=by rw [Y23] at ha; omega
   have hb':b / 2<2 ^ k:=by rw [Y23] at hb; omega
   have la:=Z3C k (a / 2);have lb:=Z3C k (b / 2);have hx:(a ^^^ b) % 2=(a+b) % 2:=by have := @Nat.xor_mod_two_eq_one a b; omega
   have hx2:(a ^^^ b) / 2=a / 2 ^^^ b / 2:=Nat.xor_div_two
   have hx0:a ^^^ b≠0:=fun h=>hn (YE fun i=>by
    have:(a ^^^ b).testBit i=false:=by rw [h]; simp
    rw [Y4y] at this
    cases h1:a.testBit i<;>cases h2:b.testBit i<;>simp_all)
   by_cases h1:a % 2=1<;>by_cases h2:b % 2=1
   . have ht : tz (a ^^^ b) = tz (a / 2 ^^^ b / 2) + 1 := by
      rw [tz,dif_neg (by omega),hx2]
     have ih:=ZgO k ha' hb' (by omega);rw [ht,Y2w,Y23,Y24,<- Y2y,<- Y2y,<- ih];have d1:X1Z a=1:=by unfold X1Z; rw [Y8 (by omega),Y6 h1]
     have d2:X1Z b=1:=by unfold X1Z; rw [Y8 (by omega),Y6 h2]
     simp only [X2U,d1,d2];unfold X24
     split<;>split<;>(try split)<;>(try split)<;>omega
   . have ht : tz (a ^^^ b) = 0 := by rw [tz, dif_pos (.inl (by omega))]
     have d1:X1Z a=1:=by unfold X1Z; rw [Y8 (by omega),Y6 h1]
     have e1:a.testBit 0=true:=by rw [Y2v]; simp [h1]
     rw [ht,e1];simp only [Y25,X2U,d1,Y15,Nat.pow_one];by_cases hz:b / 2=0
     . have d2 : X1Z b = 0 := by unfold X1Z; rw [Y6 (by omega)]
       have:0<3 ^ k:=Y2V (by decide);rw [Y6 hz,d2,hz,Z3q];unfold X24;rw [Y8 (by omega),Y8 (by omega)]
     . have d2 : X1Z b = 2 := by unfold X1Z; rw [Y8 (by omega), Y8 h2]
       rw [Y8 hz,d2];unfold X24;rw [Y6 (by omega)]
   . have ht : tz (a ^^^ b) = 0 := by rw [tz, dif_pos (.inl (by omega))]
     have d2:X1Z b=1:=by unfold X1Z; rw [Y8 (by omega),Y6 h2]
     have e1:a.testBit 0=false:=by rw [Y2v]; simp [h1]
     rw [ht,e1];simp only [Y2e,Y26,X2U,d2,Y15,Nat.pow_one];by_cases hz:a / 2=0
     . have d1 : X1Z a = 0 := by unfold X1Z; rw [Y6 (by omega)]
       have:0<3 ^ k:=Y2V (by decide);rw [Y6 hz,d1,hz,Z3q];unfold X24;rw [Y6 (by omega)]
     . have d1 : X1Z a = 2 := by unfold X1Z; rw [Y8 (by omega), Y8 h1]
       rw [Y8 hz,d1];unfold X24;rw [Y8 (by omega),Y8 (by omega)]
   . have ht : tz (a ^^^ b) = tz (a / 2 ^^^ b / 2) + 1 := by
      rw [tz,dif_neg (by omega),hx2]
     have ih:=ZgO k ha' hb' (by omega);rw [ht,Y2w,Y23,Y24,<- Y2y,<- Y2y,<- ih];have da:X1Z a=if a / 2=0 then 0 else 2:=by unfold X1Z; by_cases h:a=0<;>simp [h,h1]; omega
     have db:X1Z b=if b / 2=0 then 0 else 2:=by unfold X1Z; by_cases h:b=0<;>simp [h,h2]; omega
     simp only [X2U,da,db];have nz:∀ c,c<2 ^ k->c≠0->0<X2U k c:=fun c hc h0=>by
      rcases Nat.eq_zero_or_pos (X2U k c) with h|h
      . exact absurd (ZdH hc (Y2V (by decide)) (by rw [h,Z3q])) h0
      . exact h
     by_cases hz1:a / 2=0<;>by_cases hz2:b / 2=0
     . omega
     . have := nz _ hb' hz2;simp only [hz1,hz2,Y25,Y26,Z3q];unfold X24;rw [Y6 (by omega),Y6 (by omega)]
     . have := nz _ ha' hz1;simp only [hz1,hz2,Y25,Y26,Z3q];unfold X24;rw [Y8 (by omega),Y8 (by omega),Y8 (by omega),Y8 (by omega)]
     . simp only [hz1, hz2, Y26];unfold X24
       split<;>split<;>(try split)<;>(try split)<;>omega
def X20 (c:Nat×Nat):Nat:=key c.1*3 ^ 64+key c.2
theorem ZdI {a b:Nat×Nat} (ha:a.1<18446744073709551616/\a.2<18446744073709551616) (hb:b.1<18446744073709551616/\b.2<18446744073709551616) (h:X20 a=X20 b):a=b:=by
 have l1:key a.2<3 ^ 64:=Z3C 64 a.2;have l2:key b.2<3 ^ 64:=Z3C 64 b.2;unfold X20 at h;have h1:(key a.1*3 ^ 64+key a.2) / 3 ^ 64=key a.1:=by rw [Y24,Y3V (Y2V (by decide)),Y2a l1,Y1k]
 have h2:(key b.1*3 ^ 64+key b.2) / 3 ^ 64=key b.1:=by rw [Y24,Y3V (Y2V (by decide)),Y2a l2,Y1k]
 have h3:key a.1=key b.1:=by rw [<- h1,<- h2,h]
 have h4:key a.2=key b.2:=by rw [h3] at h; omega
 obtain⟨a1,a2⟩:=a;obtain⟨b1,b2⟩:=b;exact Y4a (ZgN ha.1 hb.1 h3) (ZgN ha.2 hb.2 h4)
def X5V (a b:Nat×Nat):Int:=if X24 (key a.1) (key b.1)≠0 then X24 (key a.1) (key b.1) else X24 (key a.2) (key b.2)
theorem ZiT (a b:Nat×Nat):X5V a b=X24 (X20 a) (X20 b):=by
 have l1:key a.2<3 ^ 64:=Z3C 64 a.2;have l2:key b.2<3 ^ 64:=Z3C 64 b.2;unfold X5V X20;generalize key a.1=x at *;generalize key b.1=y at *;generalize key a.2=u at *;generalize key b.2=v at *;rcases Y4i x y with h|h|h
 . have e1 : X24 x y = -1 := Y6 h;have e2:X24 (x*3 ^ 64+u) (y*3 ^ 64+v) = -1:=Y6 (by omega);rw [e1,e2]; rfl
 . subst h;rw [Z7p];simp only [ne_eq,not_true_eq_false,Y26];unfold X24
   split<;>split<;>(try split)<;>(try split)<;>omega
 . have e1 : X24 x y = 1 := by unfold X24; rw [Y8 (by omega), Y8 (by omega)]
   have e2:X24 (x*3 ^ 64+u) (y*3 ^ 64+v)=1:=by unfold X24; rw [Y8 (by omega),Y8 (by omega)]
   rw [e1,e2]; rfl
end
section
open Go.RowKit
attribute [local irreducible] aw Xr dK
def bl (x:Nat):Nat:=if x=0 then 0 else x.log2+1
theorem Z7q {x:Nat} (h:x≠0):bl x=bl (x / 2)+1:=by
 unfold bl;rw [Y8 h];by_cases h1:x / 2=0
 . have : x = 1 := by omega
   subst this
   rfl
 . rw [Y8 h1,Nat.log2_def,Y6 (by omega)]
theorem Z1y:∀ {k x:Nat},2 ^ k<=x->bl x=k+bl (x / 2 ^ k)
 | 0,x,_=>by simp
 | k + 1, x, h => by
   have hp:0<2 ^ k:=Y2V (by decide);rw [Y23] at h;rw [Z7q (by omega),Z1y (k:=k) (x:=x / 2) (by omega),Y2y,Y23,Y24 2];omega
theorem ZgP:∀ {k x:Nat},x<2 ^ k->bl x<=k
 | 0,x,h=>by simp at h; subst h; exact Y0m _
 | k + 1, x, h => by
   by_cases h0:x=0
   . subst h0; exact Y0l _
   . have := ZgP (k := k) (x := x / 2) (by rw [Y23] at h; omega);rw [Z7q h0]; omega
theorem fd (a k:Nat) (c:Int) (hc:(2:Int) ^ (min c.toNat IntKind.u64.bits)=((k:Nat):Int)):Int.fdiv (a:Int) (2 ^ (min c.toNat IntKind.u64.bits))=((a / k:Nat):Int):=by
 rw [hc,Y3q _ (by omega)];exact (Int.natCast_ediv a k).symm
theorem X4r (a:Nat):Int.fdiv (a:Int) (2 ^ (min (32:Int).toNat IntKind.u64.bits))=((a / 4294967296:Nat):Int):=fd a _ 32 rfl
theorem X5w (a:Nat):Int.fdiv (a:Int) (2 ^ (min (16:Int).toNat IntKind.u64.bits))=((a / 65536:Nat):Int):=fd a _ 16 rfl
theorem fd8 (a:Nat):Int.fdiv (a:Int) (2 ^ (min (8:Int).toNat IntKind.u64.bits))=((a / 256:Nat):Int):=fd a _ 8 rfl
theorem Z6B {a b:Nat} (h:decide ((a:Int)≥(b:Int))=true):b<=a:=by simpa using h
theorem Z6C {a b:Nat} (h:decide ((a:Int)≥(b:Int))=false):a<b:=by simpa using h
theorem u8w {a:Nat} (h:a<256):IntKind.u8.wrap (a:Int)=(a:Int):=Y3I _ ⟨by omega,by omega⟩
theorem ZjY {n:Nat} {e:Env} {h:X2} {x i:Operand} {s:ByteArray} {k:IntKind} {m:Int} (hx:ev e x=some (.val (.string s))) (hi:ev e i=some (.val (.int k m))) (j:Nat) (hm:m=(j:Int)) (hj:j<256)
 (hs:(decide (s.size=256)&&(List.range 256).all fun j=>(s.data.toList.getD j 0).toNat == bl j)=true):X3 (.indexS x i) e h n=some (.val (.int .u8 (bl j:Nat)),h):=by
 rw [Y0k,YK] at hs;have h1:s.size=256:=Y0u hs.1;have h2:=hs.2 j (Y1x.2 hj);have h3:(s.data.toList.getD j 0).toNat=bl j:=by simpa using h2
 subst hm;simp only [X3,hx,hi,h1,YZ,h3];rw [Y6 (by omega)]
theorem Z4b {x s j:Nat} (h:bl x=s+bl j) (hs:s<=64) (hj:j<256):PV.val (.int .i64 (IntKind.i64.wrap ((s:Int)+IntKind.i64.wrap (bl j:Nat))))=.val (.int .i64 (bl x:Nat)):=by
 have:=ZgP (k:=8) (x:=j) hj;rw [Y0v ((bl j:Nat):Int) ⟨by omega,by omega⟩,Y0v _ ⟨by omega,by omega⟩,h]
 rfl
theorem Zf2 (x:Nat) (hx:x<18446744073709551616):X7 Tryz.prog 184 [.val (.int .u64 (x:Int))] (· = .val (.int .i64 (bl x:Nat))):=by
 refine Yp ok184 fun C hC=>?_;(refine go ?_;repeat' (apply B<;>intro hb<;>try cases hb))
 . rename_i h1 h2;have g1:=Z6B (b:=4294967296) h1;rw [X4r] at h2;have g2:=Z6B (b:=65536) h2;rw [X4r,X5w] at hb;have g3:=Z6B (b:=256) hb;refine Qo (ZjY rfl rfl (((x / 4294967296) / 65536) / 256) (by rw [X4r,X5w,fd8]; exact u8w (by omega)) (by omega) (by decide +kernel)) ?_;(refine go ?_;repeat' (apply B<;>intro hb<;>try cases hb));have q1:bl (x)=32+bl ((x) / 4294967296):=Z1y (k:=32) g1;have q2:bl (x / 4294967296)=16+bl ((x / 4294967296) / 65536):=Z1y (k:=16) g2;have q3:bl ((x / 4294967296) / 65536)=8+bl (((x / 4294967296) / 65536) / 256):=Z1y (k:=8) g3;exact Z8 rfl Yt (Z4b (s:=56) (j:=((x / 4294967296) / 65536) / 256) (by omega) (by decide) (by omega))
 . rename_i h1 h2;have g1:=Z6B (b:=4294967296) h1;rw [X4r] at h2;have g2:=Z6B (b:=65536) h2;rw [X4r,X5w] at hb;have g3:=Z6C (b:=256) hb;refine Qo (ZjY rfl rfl ((x / 4294967296) / 65536) (by rw [X4r,X5w]; exact u8w (by omega)) (by omega) (by decide +kernel)) ?_;refine go ?_;have q1:bl (x)=32+bl ((x) / 4294967296):=Z1y (k:=32) g1;have q2:bl (x / 4294967296)=16+bl ((x / 4294967296) / 65536):=Z1y (k:=16) g2;exact Z8 rfl Yt (Z4b (s:=48) (j:=(x / 4294967296) / 65536) (by omega) (by decide) (by omega))
 . rename_i h1 h2;have g1:=Z6B (b:=4294967296) h1;rw [X4r] at h2;have g2:=Z6C (b:=65536) h2;rw [X4r] at hb;have g3:=Z6B (b:=256) hb;refine Qo (ZjY rfl rfl ((x / 4294967296) / 256) (by rw [X4r,fd8]; exact u8w (by omega)) (by omega) (by decide +kernel)) ?_;refine go ?_;have q1:bl (x)=32+bl ((x) / 4294967296):=Z1y (k:=32) g1;have q3:bl (x / 4294967296)=8+bl ((x / 4294967296) / 256):=Z1y (k:=8) g3;exact Z8 rfl Yt (Z4b (s:=40) (j:=(x / 4294967296) / 256) (by omega) (by decide) (by omega))
 . rename_i h1 h2;have g1:=Z6B (b:=4294967296) h1;rw [X4r] at h2;have g2:=Z6C (b:=65536) h2;rw [X4r] at hb;have g3:=Z6C (b:=256) hb;refine Qo (ZjY rfl rfl (x / 4294967296) (by rw [X4r]; exact u8w (by omega)) (by omega) (by decide +kernel)) ?_;refine go ?_;have q1:bl (x)=32+bl ((x) / 4294967296):=Z1y (k:=32) g1;exact Z8 rfl Yt (Z4b (s:=32) (j:=x / 4294967296) (by omega) (by decide) (by omega))
 . rename_i h1 h2;have g1:=Z6C (b:=4294967296) h1;have g2:=Z6B (b:=65536) h2;rw [X5w] at hb;have g3:=Z6B (b:=256) hb;refine Qo (ZjY rfl rfl ((x / 65536) / 256) (by rw [X5w,fd8]; exact u8w (by omega)) (by omega) (by decide +kernel)) ?_;refine go ?_;have q2:bl (x)=16+bl ((x) / 65536):=Z1y (k:=16) g2;have q3:bl (x / 65536)=8+bl ((x / 65536) / 256):=Z1y (k:=8) g3;exact Z8 rfl Yt (Z4b (s:=24) (j:=(x / 65536) / 256) (by omega) (by decide) (by omega))
 . rename_i h1 h2;have g1:=Z6C (b:=4294967296) h1;have g2:=Z6B (b:=65536) h2;rw [X5w] at hb;have g3:=Z6C (b:=256) hb;refine Qo (ZjY rfl rfl (x / 65536) (by rw [X5w]; exact u8w (by omega)) (by omega) (by decide +kernel)) ?_;refine go ?_;have q2:bl (x)=16+bl ((x) / 65536):=Z1y (k:=16) g2;exact Z8 rfl Yt (Z4b (s:=16) (j:=x / 65536) (by omega) (by decide) (by omega))
 . rename_i h1 h2;have g1:=Z6C (b:=4294967296) h1;have g2:=Z6C (b:=65536) h2;have g3:=Z6B (b:=256) hb;refine Qo (ZjY rfl rfl (x / 256) (by rw [fd8]; exact u8w (by omega)) (by omega) (by decide +kernel)) ?_;refine go ?_;have q3:bl (x)=8+bl ((x) / 256):=Z1y (k:=8) g3;exact Z8 rfl Yt (Z4b (s:=8) (j:=x / 256) (by omega) (by decide) (by omega))
 . rename_i h1 h2;have g1:=Z6C (b:=4294967296) h1;have g2:=Z6C (b:=65536) h2;have g3:=Z6C (b:=256) hb;refine Qo (ZjY rfl rfl (x) (by exact u8w (by omega)) (by omega) (by decide +kernel)) ?_;refine go ?_;exact Z8 rfl Yt (Z4b (s:=0) (j:=x) ((Y15 _).symm) (by decide) (by omega))
theorem Zmy {k x:Nat}:k<bl x↔2 ^ k<=x:=by
 constructor
 . intro h;rcases Y3u x (2 ^ k) with h1|h1
   . have:=ZgP h1; omega
   . exact h1
 . intro h;rw [Z1y h];have h1:1<=x / 2 ^ k:=(Nat.one_le_div_iff (Y2V (by decide))).2 h;have h2:bl (x / 2 ^ k)=bl (x / 2 ^ k / 2)+1:=Z7q (by omega);omega
def X67 (N:Nat):Int:=if N=0 then 0 else (bl N:Int)-1
theorem Z3D (N:Nat) (hN:N<18446744073709551616):X7 Tryz.prog 171 [XG N] (· = .tup [.val (.int .i64 (X67 N)),.val (.bool (decide (N≠0)))]):=by
 rcases Z1d hN with⟨rfl,e1⟩|⟨h1,e1⟩
 all_goals
  refine Yp ok171 fun C hC=>?_;rw [e1];refine Zm ?_;refine Z9 ?_;refine Z5 rfl rfl rfl ?_;refine go ?_;refine Z6 (Z3o _ hN) rfl rfl (by rw [e1]; rfl) ⟨Z2 _,Yt⟩ rfl ?_
 . refine go ?_;exact Z8 rfl (Z2N rfl) rfl
 . have hd : decide (N = 0) = false := Y0w h1;rw [hd];refine go ?_;refine Qe (Zf2 N hN) ⟨Yt,Yt⟩ ?_;have hb:=ZgP (k:=64) hN;have hp:=Z7q h1;refine go ?_;refine Z8 rfl (Z2N rfl) ?_;unfold X67;rw [Y8 h1,Yw h1];have w0:IntKind.i64.wrap (64*IntKind.i64.wrap (1-1))=0:=by decide
   have w1:IntKind.i64.wrap (0+(bl N:Int))=(bl N:Int):=by rw [Int.zero_add]; exact Y0v _ ⟨by omega,by omega⟩
   have w2:IntKind.i64.wrap ((bl N:Int)-1)=(bl N:Int)-1:=Y0v _ ⟨by omega,by omega⟩;show PV.tup [.val (.int .i64 (IntKind.i64.wrap (IntKind.i64.wrap (IntKind.i64.wrap (64*IntKind.i64.wrap (1-1))+(bl N:Int))-1))),.val (.bool true)]=_;rw [w0,w1,w2]
theorem Z7r (N:Nat) (hN:N<18446744073709551616) (i:Nat) (hi:i<64):X7 Tryz.prog 194 [XG N,Yv i] (· = .val (.bool (decide (N / 2 ^ (i+1)≠0)))):=by
 refine Yp ok194 fun C hC=>?_;refine Zm ?_;refine Z9 ?_;refine Z5 rfl rfl rfl ?_;refine go ?_;refine Qe (Z3D N hN) ⟨Z2 _,Yt⟩ ?_;have hdiv:N / 2 ^ (i+1)≠0↔2 ^ (i+1)<=N:=by
  rw [Ne,Nat.div_eq_zero_iff_lt (Y2V (by decide))];omega
 have hg:=Zmy (k:=i+1) (x:=N);by_cases h0:N=0
 . subst h0;rw [show decide ((0:Nat)≠0)=false from rfl];refine go ?_;exact Z8 rfl Yt (XT (by simp))
 . rw [Yw (p := N ≠ 0) h0];have ht:X67 N=(bl N:Int)-1:=Y8 h0;rw [ht];(refine go ?_;repeat' (apply B<;>intro hb<;>try cases hb))
   all_goals
    refine Z8 rfl Yt (XT ?_);symm
   . rw [Y2c, hdiv, <- hg];have:(bl N:Int)-1>(i:Int):=by simpa using hb
     omega
   . rw [Y3B, hdiv, <- hg];have:¬ (bl N:Int)-1>(i:Int):=by simpa using hb
     omega
theorem Zmz {x:Nat} (hx:x<18446744073709551616) (h:x≠0):tz x<64:=Z6p hx (Zao h)
theorem ZkJ {a b:Nat} (ha:a<18446744073709551616) (hb:b<18446744073709551616) (hn:a≠b):X24 (key a) (key b)=(if a.testBit (tz (a ^^^ b)) then (if b / 2 ^ (tz (a ^^^ b)+1)=0 then 1 else -1) else (if a / 2 ^ (tz (a ^^^ b)+1)=0 then -1 else 1)):=ZgO 64 ha hb hn
theorem ZjZ {a b:Nat} (hn:a≠b):a ^^^ b≠0:=fun h=>hn (YE fun i=>by
 have:(a ^^^ b).testBit i=false:=by rw [h]; simp
 rw [Y4y] at this
 cases h1:a.testBit i<;>cases h2:b.testBit i<;>simp_all)
theorem Zaz (N:Nat) (hN:N<18446744073709551616):(Xb N).getD 0 0=N:=by
 by_cases h:N=0
 . subst h; rw [ZL]; rfl
 . rw [Z5r hN h]; rfl
theorem Z3E (N M:Nat) (hN:N<18446744073709551616) (hM:M<18446744073709551616):X7 Tryz.prog 168 [XG N,XG M] (· = .val (.int .i64 (X24 (key N) (key M)))):=by
 have hxor:=Y1E N M hN hM;have hxl:N ^^^ M<18446744073709551616:=Y4b (n:=64) hN hM;by_cases hz:N=0/\M=0
 . obtain ⟨rfl, rfl⟩ := hz;rw [Z1X];refine Yp ok168 fun C hC=>?_;refine Zm ?_;refine Z9 ?_;refine Z5 rfl rfl rfl ?_;refine Z5 rfl rfl rfl ?_;refine go ?_;refine Z1i 0 ?_;refine go ?_;exact Z8 rfl Yt (by rw [Z7p]; rfl)
 . have hlen : max (Xb N).length (Xb M).length = 1 := by
    have h1:∀ x,x<18446744073709551616->(Xb x).length=if x=0 then 0 else 1:=fun x hx=>by
     by_cases h:x=0
     . subst h; rw [ZL]; rfl
     . rw [Z5r hx h,Y8 h]; rfl
    rw [h1 N hN,h1 M hM];by_cases h2:N=0<;>by_cases h3:M=0<;>simp_all
   refine Yp ok168 fun C hC=>?_;refine Zm ?_;refine Z9 ?_;refine Z5 rfl rfl rfl ?_;refine Z5 rfl rfl rfl ?_;refine go ?_;refine Z76 hC [(2,.cp [.vec (X4 (Xb N)) false]),(3,.cp [.vec (X4 (Xb M)) false]),(14,.val (.int .i64 1)),(15,.val (.int .i64 0))] [] (Y0l 0) ⟨⟨rfl,Zp _ _,Yt⟩,⟨rfl,Zp _ _,Yt⟩,⟨?_,Yt⟩,⟨rfl,Yt⟩,Yt⟩ Yt ?_
   . have h1 : (X4 (Xb N)).length = (Xb N).length := by simp [X4]
     have h2:(X4 (Xb M)).length=(Xb M).length:=by simp [X4]
     show some (PV.val (.int .i64 (if ((X4 (Xb M)).length:Int)>((X4 (Xb N)).length:Int) then ((X4 (Xb M)).length:Int) else ((X4 (Xb N)).length:Int))))=_;rw [h1,h2,show (if ((Xb M).length:Int)>((Xb N).length:Int) then ((Xb M).length:Int) else ((Xb N).length:Int))=1 by split<;>omega]
   refine Z1i 1 ?_;refine go ?_;refine Qd (Z1j (Xb N) 0) ⟨Z2 N,Yt,Yt⟩ ?_;rw [Zaz N hN];refine go ?_;refine Qd (Z1j (Xb M) 0) ⟨Z2 M,Yt,Yt⟩ ?_;rw [Zaz M hM];refine Qr (ZS rfl hxor) ?_;(refine go ?_;repeat' (apply B<;>intro hb<;>try cases hb))
   . have h0 : ((N ^^^ M : Nat) : Int) = 0 := by simpa using hb
     have hz:N=M:=YU fun hn=>ZjZ hn (by omega);exact Z8 rfl Yt (by rw [hz,Z7p]; rfl)
   . have h0 : ¬ ((N ^^^ M : Nat) : Int) = 0 := by simpa using hb
     have hn:N≠M:=fun h=>h0 (by subst h; simp);have hx0:=ZjZ hn;have ht:=Zmz hxl hx0;have hbit:=Zao hx0;rw [Y4y] at hbit;have hsg:=ZkJ hN hM hn;refine Qe (Zgp _ hxl hx0) ⟨Yt,Yt⟩ ?_;have hadd:IntKind.i64.wrap (IntKind.i64.wrap (64*0)+((tz (N ^^^ M):Nat):Int))=((tz (N ^^^ M):Nat):Int):=by
      rw [show IntKind.i64.wrap (64*0)=0 by decide,Int.zero_add];exact Y0v _ ⟨by omega,by omega⟩
     refine Qo (ZS rfl hadd) ?_;generalize tz (N ^^^ M)=t at *;refine go ?_;refine Qd (Z1Y N hN t) ⟨Z2 N,Yt,Yt⟩ ?_;rw [show (decide ((0:Int)<=(t:Int))&&N.testBit (t:Int).toNat)=N.testBit t by simp];refine go ?_;refine Qd (Z1Y M hM t) ⟨Z2 M,Yt,Yt⟩ ?_;rw [show (decide ((0:Int)<=(t:Int))&&M.testBit (t:Int).toNat)=M.testBit t by simp];cases hN1:N.testBit t<;>cases hM1:M.testBit t<;>rw [hN1,hM1] at hbit<;>try cases hbit
     . rw [hN1] at hsg;refine go ?_;refine Qe (Z1Y N hN t) ⟨Z2 N,Yt,Yt⟩ ?_;rw [show (decide ((0:Int)<=(t:Int))&&N.testBit (t:Int).toNat)=false by simp [hN1]];refine go ?_;refine Qe (Z1Y M hM t) ⟨Z2 M,Yt,Yt⟩ ?_;rw [show (decide ((0:Int)<=(t:Int))&&M.testBit (t:Int).toNat)=true by simp [hM1]];refine go ?_;refine Qe (Z7r N hN t ht) ⟨Z2 N,Yt,Yt⟩ ?_;by_cases hd:N / 2 ^ (t+1)=0
       . rw [show decide (N / 2 ^ (t + 1) ≠ 0) = false by simp [hd]];refine go ?_;exact Z8 rfl Yt (by rw [hsg,Y8 (by decide),Y6 hd]; rfl)
       . rw [show decide (N / 2 ^ (t + 1) ≠ 0) = true by simp [hd]];refine go ?_;exact Z8 rfl Yt (by rw [hsg,Y8 (by decide),Y8 hd]; rfl)
     . rw [hN1] at hsg;refine go ?_;refine Qe (Z1Y N hN t) ⟨Z2 N,Yt,Yt⟩ ?_;rw [show (decide ((0:Int)<=(t:Int))&&N.testBit (t:Int).toNat)=true by simp [hN1]];refine go ?_;refine Qe (Z7r M hM t ht) ⟨Z2 M,Yt,Yt⟩ ?_;by_cases hd:M / 2 ^ (t+1)=0
       . rw [show decide (M / 2 ^ (t + 1) ≠ 0) = false by simp [hd]];refine go ?_;refine Qe (Z1Y M hM t) ⟨Z2 M,Yt,Yt⟩ ?_;rw [show (decide ((0:Int)<=(t:Int))&&M.testBit (t:Int).toNat)=false by simp [hM1]];refine go ?_;exact Z8 rfl Yt (by rw [hsg,Y6 rfl,Y6 hd]; rfl)
       . rw [show decide (M / 2 ^ (t + 1) ≠ 0) = true by simp [hd]];refine go ?_;exact Z8 rfl Yt (by rw [hsg,Y6 rfl,Y8 hd]; rfl)
attribute [local irreducible] X24 X2U in
theorem Z9w (a b:Cu) (ha:Xy a) (hb0:Xy b):X7 Tryz.prog 202 [cuP a,cuP b] (· = .val (.int .i64 (X5V a b))):=by
 refine Yp ok202 fun C hC=>?_;refine Zm ?_;refine Z9 ?_;refine Z5 rfl rfl rfl ?_;refine Z5 rfl rfl rfl ?_;refine go ?_;refine Qe (Z3E a.1 b.1 ha.1 hb0.1) ⟨Z2 _,Z2 _,Yt⟩ ?_;(refine go ?_;repeat' (apply B<;>intro hb<;>try cases hb))
 . have h : X24 (key a.1) (key b.1) ≠ 0 := by simpa using hb
   exact Z8 rfl Yt (by rw [X5V,Y6 h])
 . have h : ¬ X24 (key a.1) (key b.1) ≠ 0 := by simpa using hb
   refine Qe (Z3E a.2 b.2 ha.2 hb0.2) ⟨Z2 _,Z2 _,Yt⟩ ?_;refine go ?_;exact Z8 rfl Yt (by rw [X5V,Y8 h])
end
section
open Go.RowKit
theorem Z1t (y i j:Nat):(y ||| 2 ^ i).testBit j=(y.testBit j||decide (i=j)):=by rw [Y00,YI]
def X68 (c:Nat×Nat):List (Nat×Nat)->List (Nat×Nat)
 | [] => [c]
 | d :: l=>if X20 c<=X20 d then c :: d :: l else d :: X68 c l
def X1U:List (Nat×Nat)->List (Nat×Nat)
 | [] => []
 | c :: l=>X68 c (X1U l)
theorem Z7s (c:Nat×Nat):∀ l,(X68 c l).Perm (c :: l)
 | []=>.refl _
 | d :: l => by
   simp only [X68]
   split
   . exact .refl _
   . exact ((Z7s c l).cons d).trans (.swap c d l)
theorem Z2I:∀ l,(X1U l).Perm l
 | []=>.refl _
 | c :: l=>(Z7s c _).trans ((Z2I l).cons c)
theorem Z7t (c:Nat×Nat):∀ {l},l.Pairwise (fun a b=>X20 a<=X20 b)->(X68 c l).Pairwise fun a b=>X20 a<=X20 b
 | [],_=>Y2Y _ _
 | d :: l, h => by
   simp only [X68];rw [Y14] at h
   split
   . rename_i hle;refine Y14.2 ⟨fun x hx=>?_,Y14.2 h⟩;rcases YD.1 hx with rfl|hx
     . exact hle
     . exact Y03 hle (h.1 x hx)
   . rename_i hle;refine Y14.2 ⟨fun x hx=>?_,Z7t c h.2⟩;rcases YD.1 ((Z7s c l).mem_iff.1 hx) with rfl|hx
     . omega
     . exact h.1 x hx
theorem Z4c:∀ l,(X1U l).Pairwise fun a b=>X20 a<=X20 b
 | []=>.nil
 | c :: l=>Z7t c (Z4c l)
theorem Z5D:∀ {l m:List (Nat×Nat)},l.Pairwise (fun a b=>X20 a<=X20 b)->m.Pairwise (fun a b=>X20 a<=X20 b)->l.Perm m->(∀ c∈l,c.1<18446744073709551616/\c.2<18446744073709551616)->l=m
 | [],m,_,_,h,_=>h.nil_eq
 | c :: l,[],_,_,h,_=>absurd h.length_eq (by simp)
 | c :: l, d :: m, h1, h2, h, h64 => by
   rw [Y14] at h1 h2;have hcd:X20 c<=X20 d:=by
    rcases YD.1 (h.mem_iff.2 (Y0t ..)) with e|e
    . rw [e]; exact Y0m _
    . exact h1.1 d e
   have hdc:X20 d<=X20 c:=by
    rcases YD.1 (h.mem_iff.1 (Y0t ..)) with e|e
    . rw [e]; exact Y0m _
    . exact h2.1 c e
   have hd64:d.1<18446744073709551616/\d.2<18446744073709551616:=h64 d (h.mem_iff.2 (Y0t ..));have e:c=d:=ZdI (h64 c (Y0t ..)) hd64 (Nat.le_antisymm hcd hdc);subst e;rw [Z5D h1.2 h2.2 (List.Perm.cons_inv h) fun x hx=>h64 x (YB _ hx)]
theorem ZaA {l m:List (Nat×Nat)} (h:m.Perm l) (hs:m.Pairwise fun a b=>X20 a<=X20 b) (h64:∀ c∈l,c.1<18446744073709551616/\c.2<18446744073709551616):m=X1U l :=
 Z5D hs (Z4c l) (h.trans (Z2I l).symm) fun c hc=>h64 c (h.mem_iff.1 hc)
theorem ZdJ {l:List (Nat×Nat)} (h64:∀ c∈l,c.1<18446744073709551616/\c.2<18446744073709551616):∀ c∈X1U l,c.1<18446744073709551616/\c.2<18446744073709551616:=fun c hc=>h64 c ((Z2I l).mem_iff.1 hc)
end
section
open Go.RowKit
attribute [local irreducible] aw Xr dK
def bys (l:List Nat):List (List PV):=l.map fun (x:Nat) => [.val (.int .u8 (x:Int))]
def X4K (l:List Nat):Prop:=∀ x∈l,x<=255
def X54 (l:List Nat) (fl:Bool) (t:Nat):Bx:=⟨2,[[.vec (bys l) fl,.val (.int .i64 (t:Int))]]⟩
theorem Zg (l:List Nat):X1 (bys l):=Z3k _ _ fun _ _=>⟨Yt,Yt⟩
theorem Zcm (l:List Nat) (D:Nat->Prop):Xt D (bys l):=Zd (fun _ h=>h.elim) _ (Zg l)
theorem ZK (l:List Nat) (fl:Bool) (t:Nat):X1 (X54 l fl t).elems:=⟨⟨Zg l,Yt,Yt⟩,Yt⟩
theorem ZiY (l:List Nat) (fl:Bool) (t:Nat) (D:Nat->Prop):Xt D (X54 l fl t).elems:=Zd (fun _ h=>h.elim) _ (ZK l fl t)
theorem or_pow_bit' (y i j:Nat):(y ||| 2 ^ i).testBit j=(y.testBit j||decide (i=j)):=by rw [Y00,YI]
theorem ZaD:∀ (l:List Int) (t:Int),t<=l.foldl (fun t i=>if i<=4095 then (if i>t then i else t) else t) t/\∀ r∈l,r<=4095->r<=l.foldl (fun t i=>if i<=4095 then (if i>t then i else t) else t) t
 | [],t=>⟨Int.le_refl t,fun r hr=>by cases hr⟩
 | a :: l, t => by
   rw [Y1b];obtain⟨h1,h2⟩:=ZaD l (if a<=4095 then (if a>t then a else t) else t);refine⟨Int.le_trans (by split<;>(try split)<;>omega) h1,fun r hr h=>?_⟩;rcases YD.1 hr with rfl|hr
   . refine Int.le_trans ?_ h1;rw [Y6 h]
     split<;>omega
   . exact h2 r hr h
theorem Z8C {top:Int}:∀ (l:List Int) (a:Nat),(∀ r∈l,0<=r/\r<=top)->l.foldl (fun acc i=>if 0<=i/\i<=top then acc ||| 2 ^ i.toNat else acc) a=l.foldl (fun acc r=>acc ||| 2 ^ r.toNat) a
 | [],a,_=>rfl
 | x :: l, a, h => by
   rw [Y1b,Y1b,Y6 (h x (Y0t ..))];exact Z8C l _ fun r hr=>h r (YB _ hr)
theorem ZaE:∀ (l:List Int) (a i:Nat),(l.foldl (fun acc r=>acc ||| 2 ^ r.toNat) a).testBit i=true↔a.testBit i=true \/ ∃ r∈l,r.toNat=i
 | [],a,i=>by simp
 | x :: l, a, i => by
   rw [Y1b,ZaE l,or_pow_bit',YR,Y2c];constructor
   . rintro ((h | h) | ⟨r, hr, h⟩)
     . exact .inl h
     . exact .inr ⟨x,Y0t ..,h⟩
     . exact .inr ⟨r,YB _ hr,h⟩
   . rintro (h | ⟨r, hr, h⟩)
     . exact .inl (.inl h)
     . rcases YD.1 hr with rfl | hr
       . exact .inl (.inr h)
       . exact .inr ⟨r,hr,h⟩
section
variable {P:Program} {C:Ctx} {Fr:Nat->Prop} {e:Env} {h:X2} {n:Nat} {F:XL} {φ:XO} {a:Act} {w:World} {K:Nat->Env->X2->Prop} {os:List Xs} {d:Option Nat} {Q:Exit->Nat->Env->X2->Prop}
def X2n (P:Program) (f:FuncId) (args:Nat->List PV) (b:Bx) (R:PV->Bx->Prop):Prop :=
 XF P f 1 (args 0) (X2.upd (fun _=>none) 0 b) fun _ r h'=>∃ b',h' 0=some b'/\r.pure/\X1 b'.elems/\R r b'
def MkL (args:Nat->List PV):Prop:=(∀ i n,(args i).length=(args n).length)/\∀ (F:XL) (φ φ':XO) (v:Value) (i n j:Nat),φ i=φ' n->Rep F φ v ((args i).getD j pvu)->Rep F φ' v ((args n).getD j pvu)
theorem Z7I (k off:Nat):Mk fun i=>.ptr i k off:=fun F φ φ' v i n hn hv=>by
 obtain⟨loc,x,g1,gz,g2,g3,rfl⟩:=hv.ptr_inv;exact .ptr n k off loc x (hn▸g1) gz g2 g3
theorem Zm4 (k off len cap:Nat):Mk fun i=>.sl i k off len cap:=fun F φ φ' v i n hn hv=>by
 obtain⟨loc,x,g1,gz,g2,g3,g4,rfl⟩:=hv.sl_inv;exact .sl n k off len cap loc x (hn▸g1) gz g2 g3 g4
theorem ZcG:MkL fun _ => []:=⟨fun _ _=>rfl,fun F φ φ' v i n j hn hv=>by simpa [pvu] using hv.pure (φ':=φ') (show (([]:List PV).getD j pvu).pure by simp [pvu,PV.inn])⟩
theorem Z6V {a:Nat->PV} {l:Nat->List PV} (ha:Mk a) (hl:MkL l):MkL fun i=>a i :: l i:=⟨fun i n=>by simp [hl.1 i n],fun F φ φ' v i n j hn hv=>by
 cases j with
 | zero=>exact ha F φ φ' v i n hn hv
 | succ j=>exact hl.2 F φ φ' v i n j hn hv⟩
theorem X2n.run {f:FuncId} {b:Bx} {args:Nat->List PV} {R:PV->Bx->Prop} (hs:X2n P f args b R) (hm:MkL args) (hpb:X1 b.elems) {id:Nat} (hb:h id=some b) (s:St' C Fr e h F φ a w) {vs:Array Value} (hv:X27 F φ vs (args id)) :
 Calls P f vs w fun en w'=>∃ v r b' F',en=.returned v/\(r.pure/\X1 b'.elems/\R r b')/\Rep F' φ v r/\St' C Fr e (h.upd id b') F' φ a w':=by
 exact (X5N (R:=fun r b'=>r.pure/\R r b') (XF.mono hs fun _ _ _ ⟨b',h1,h2,h3,h4⟩=>⟨b',h1,h3,h2,h4⟩) hpb hb s fun φ1 h1=>⟨by rw [hv.1]; exact hm.1 id 0,fun i hi=>hm.2 F φ φ1 _ id 0 i h1.symm (hv.2 i (by rw [hm.1 id 0]; exact hi))⟩).mono fun _ _ ⟨v,r,b',F',h1,⟨h2,h3,h4⟩,⟨_,_,h5⟩,h6⟩=>⟨v,r,b',F',h1,⟨h3,h2,h4⟩,h5.pure h3,h6⟩
theorem X2n.frame {f:FuncId} {b:Bx} {args:Nat->List PV} {R:PV->Bx->Prop} (hs:X2n P f args b R) (hm:MkL args) (hpb:X1 b.elems) {id:Nat} (hb:h id=some b) :
 XF P f n (args id) h fun n' r h'=>∃ b',n'=n/\h'=h.upd id b'/\r.pure/\X1 b'.elems/\R r b':=by
 refine⟨hs.1,fun C e F φ a w vs s hv=>(hs.run hm hpb hb s hv).mono ?_⟩;rintro en w' ⟨v,r,b',F',rfl,⟨h1,h2,h3⟩,hvr,s'⟩;exact⟨v,r,n,_,F',φ,rfl,⟨b',rfl,rfl,h1,h2,h3⟩,hvr,s'⟩
theorem X2n.prun {g:FuncId} {b:Bx} {args:Nat->List PV} {R:PV->Bx->Prop} (hs:X2n P g args b R) (hm:MkL args) (hpb:X1 b.elems) (id:Nat):X71 P g id b (args id) R:=⟨hs.1,fun hb s hv=>hs.run hm hpb hb s hv⟩
theorem Zk8 {f:Operand} {args':List Operand} {g:FuncId} {caps as0:List PV} {args:Nat->List PV} {b:Bx} (id:Nat) {R:PV->Bx->Prop} (hs:X2n P g args b R) (hm:MkL args) (hf:ev e f=some (.fn g caps)) (ha:evs e args'=some as0) (hr:as0++caps=args id) (hb:h id=some b) (hpb:X1 b.elems)
 (hk:∀ r b',r.pure->X1 b'.elems->R r b'->Xr P os n (XC e d r) (h.upd id b') K):Xr P (⟨d,.call f args',none⟩ :: os) n e h K:=by
 refine Z10 hf ha (R:=fun n' r h'=>∃ b',n'=n/\h'=h.upd id b'/\r.pure/\X1 b'.elems/\R r b') (by rw [hr]; exact hs.frame hm hpb hb) ?_;rintro n' r h' ⟨b',rfl,rfl,h1,h2,h3⟩;exact hk r b' h1 h2 h3
theorem Z7J {f nt:Nat} {ac:X6} {rs:List X2g} (hf:X3O P f nt ac rs) {b:Bx} {args:Nat->List PV} {R:PV->Bx->Prop} (hn:(args 0).length<=nt) (hk:∀ C:Ctx,C.dom 1->aw P C ac (X6h rs fun _ r h'=>∃ b',h' 0=some b'/\r.pure/\X1 b'.elems/\R r b') 1 (XV (args 0)) (Xv [(0,b)])):X2n P f args b R :=
 Z18 hf hn hk
theorem XF.less {f n:Nat} {args:List PV} {R R2:Nat->PV->X2->Prop} (hs:XF P f n args h R) (hR:∀ n' r h',R n' r h'->∃ h2:X2,(∀ i b,h2 i=some b->h' i=some b)/\R2 n' r h2):XF P f n args h R2 :=
 ⟨hs.1,fun C e F φ a w vs hF hv=>(hs.2 C e F φ a w vs hF hv).mono fun _ _ ⟨v,r,n',h',F',φ',h1,h2,h3,h4⟩=>let ⟨h2',g1,g2⟩:=hR _ _ _ h2; ⟨v,r,n',h2',F',φ',h1,g2,h3,h4.sub (fun _ _ h=>h) g1⟩⟩
end
end
section
def g0 (l:List Nat) (i:Nat):Nat:=l.getD i 0
def X5R (w n:Nat):Nat:=(w*2 ^ n) % 18446744073709551616 ||| w / 2 ^ (64-n)
def kkC (a:List Nat) (x:Nat):Nat:=g0 a x ^^^ g0 a (x+5) ^^^ g0 a (x+10) ^^^ g0 a (x+15) ^^^ g0 a (x+20)
def kCs (a:List Nat):List Nat:=(List.range 5).map (kkC a)
def kkD (c:List Nat) (x:Nat):Nat:=g0 c ((x+4) % 5) ^^^ X5R (g0 c ((x+1) % 5)) 1
def kkT (i:Nat):Nat:=(X1Y.getD i 0).toNat
def X5J (a c b:List Nat) (m:Nat):List Nat:=b.set (m % 5+5*((2*(m / 5)+3*(m % 5)) % 5)) (X5R (g0 a (m / 5+5*(m % 5)) ^^^ kkD c (m / 5)) (kkT (m / 5+5*(m % 5))))
def X2w (a c:List Nat):Nat->List Nat
 | 0=>List.replicate 25 0
 | m+1=>X5J a c (X2w a c m) m
def X5t (b:List Nat) (i:Nat):Nat:=g0 b i ^^^ ((18446744073709551615 ^^^ g0 b ((i % 5+1) % 5+(i-i % 5))) &&& g0 b ((i % 5+2) % 5+(i-i % 5)))
def X4W (b:List Nat):List Nat:=(List.range 25).map (X5t b)
def X46 (a:List Nat) (rc:Nat):List Nat :=
 let a':=X4W (X2w a (kCs a) 25)
 a'.set 0 (g0 a' 0 ^^^ rc)
def X3E (a:List Nat):Nat->List Nat
 | 0=>a
 | m+1=>X46 (X3E a m) (XU.getD m 0).toNat
def perm (a:List Nat):List Nat:=X3E a 24
def X23 (bl:List Nat) (i:Nat):Nat->Nat
 | 0=>0
 | j+1=>(X23 bl i j*256) % 18446744073709551616 ||| g0 bl (8*i+(7-j))
def X4a (a bl:List Nat):Nat->List Nat
 | 0=>a
 | i+1=>let b:=X4a a bl i; b.set i (g0 b i ^^^ X23 bl i 8)
def X1V (a bl:List Nat):List Nat:=perm (X4a a bl 17)
structure HS where
 st:List Nat
 bl:List Nat
 used:Nat
 total:Nat
def HS.put (h:HS) (p:List Nat):HS :=
 let n:=min p.length (136-h.used)
 let bl:=h.bl.take h.used++p.take n++h.bl.drop (h.used+n)
 if h.used+n=136 then ⟨X1V h.st bl,bl,0,h.total⟩ else ⟨h.st,bl,h.used+n,h.total⟩
def HS.puts:Nat->HS->List Nat->HS
 | 0,h,_=>h
 | f+1,h,p=>if p.length=0 then h else HS.puts f (h.put p) (p.drop (min p.length (136-h.used)))
def X37 (bl:List Nat) (used:Nat):List Nat :=
 let l:=(bl.take used++List.replicate (136-used) 0).set used 6
 l.set 135 (g0 l 135 ^^^ 128)
def X63 (st:List Nat) (i:Nat):Nat:=(g0 st (i / 8) / 2 ^ (8*(i % 8))) % 256
end
section
open Go.RowKit
attribute [local irreducible] aw Xr dK
def Xi (kd:IntKind) (l:List Nat):List PV:=l.map fun (x:Nat)=>.val (.int kd (x:Int))
theorem ZI (kd:IntKind) (l:List Nat):(Xi kd l).length=l.length:=by simp [Xi]
theorem ZN (kd:IntKind) (l:List Nat):X5 (Xi kd l):=(Z1n _ _).2 fun p hp=>by
 obtain⟨x,_,rfl⟩:=Y0i.1 hp;exact Yt
theorem Z1D {a b:List PV} (ha:X5 a) (hb:X5 b):X5 (a++b):=(Z1n _ _).2 fun p hp=>(Y0h.1 hp).elim ((Z1n _ _).1 ha p) ((Z1n _ _).1 hb p)
theorem X7e (l:List PV) (off:Nat) (h:off<l.length):X17 false 1 off l=some (l.getD off pvu):=by
 unfold X17;rw [Y6 (by omega),Y1n h,Y0b,Y0c h]
 rfl
theorem Zhw {kd:IntKind} {L:List Nat} {j:Nat} (hj:j<L.length) (pre post:List PV):(pre++(Xi kd L++post)).getD (pre.length+j) pvu=.val (.int kd ((g0 L j:Nat):Int)):=by
 have h2:j<(Xi kd L).length:=by rw [ZI]; exact hj
 rw [Y0b,YL (by omega),Y2q,YO h2];unfold Xi g0;simp [Y0b,hj]
theorem Z7P (l:List PV) (off:Nat) (v:PV) (h:off<l.length):Xl l off [v]=l.set off v:=by
 unfold Xl;rw [List.set_eq_take_append_cons_drop,Y6 h];simp
theorem Zjw {kd:IntKind} {L:List Nat} {j x:Nat} (hj:j<L.length) (pre post:List PV):Xl (pre++(Xi kd L++post)) (pre.length+j) [.val (.int kd (x:Int))]=pre++(Xi kd (L.set j x)++post):=by
 have h2:j<(Xi kd L).length:=by rw [ZI]; exact hj
 rw [Z7P _ _ _ (by rw [Y0e,Y0e];omega),Y3X _ _ (by omega),Y2q,List.set_append_left _ _ h2];unfold Xi;rw [Y4m]
section
variable {kd:IntKind} {e:Env} {h:X2} {n k o j:Nat} {Eb:Nat} {L:List Nat} {pre post:List PV}
theorem Z3V {a:Operand} (ha:ev e a=some (.ptr k 0 (o+j))) (hb:h k=some ⟨Eb,[pre++(Xi kd L++post)]⟩) (ho:pre.length=o) (hj:j<L.length):X3 (.load false 1 a) e h n=some (.val (.int kd ((g0 L j:Nat):Int)),h):=by
 subst ho;have hl:pre.length+j<(pre++(Xi kd L++post)).length:=by rw [Y0e,Y0e,ZI]; omega
 exact Z1v ha hb Y1M (by
  show X17 false 1 _ (pre++(Xi kd L++post))=_
  rw [X7e _ _ hl,Zhw hj])
theorem Z9Q {a v:Operand} {x:Nat} (ha:ev e a=some (.ptr k 0 (o+j))) (hv:ev e v=some (.val (.int kd (x:Int)))) (hb:h k=some ⟨Eb,[pre++(Xi kd L++post)]⟩) (ho:pre.length=o) (hj:j<L.length) (hE:o+L.length<=Eb) :
 X3 (.store 1 a v) e h n=some (pvu,h.upd k ⟨Eb,[pre++(Xi kd (L.set j x)++post)]⟩):=by
 subst ho;have:=Z1Q (n:=n) (size:=1) ha hv hb rfl rfl (show 0<1 by decide) (by show pre.length+j+1<=Eb;omega);rw [this];simp only;have e1:([pre++(Xi kd L++post)]:List (List PV)).set 0 (Xl (([pre++(Xi kd L++post)]:List (List PV)).getD 0 []) (pre.length+j) (PV.val (.int kd (x:Int))).cells) = [pre++(Xi kd (L.set j x)++post)]:=by
  show [Xl (pre++(Xi kd L++post)) (pre.length+j) [.val (.int kd (x:Int))]]=_;rw [Zjw hj]
 rw [e1]
theorem Z3e {x i:Operand} {i0 n0:Nat} {kk:IntKind} {m:Int} (hx:ev e x=some (.ptr k i0 o)) (hi:ev e i=some (.val (.int kk m))) (j:Nat) (hm:m=(j:Int)) (hj:j<n0):X3 (.iaddrA n0 1 x i) e h n=some (.ptr k i0 (o+j),h):=by
 subst hm;simp only [X3,hx,hi];rw [Y6 ⟨by omega,by omega⟩];simp
theorem Zm9 {x i:Operand} {n0:Nat} {kk:IntKind} {m:Int} {l:List PV} (hx:ev e x=some (.agg l)) (hi:ev e i=some (.val (.int kk m))) (j:Nat) (hm:m=(j:Int)) (hj:j<n0) (hl:l.length=n0):X3 (.indexA false n0 1 x i) e h n=some (l.getD j pvu,h):=by
 subst hm;simp only [X3,hx,hi];rw [Y6 ⟨by omega,by omega⟩];simp only [YZ,Y20];rw [X7e _ _ (by omega)]
end
def W64 (l:List Nat):Prop:=∀ w∈l,w<18446744073709551616
theorem Zkc {l:List Nat} {i:Nat} (h:i<l.length):g0 l i∈l:=by
 unfold g0;rw [Y0b,Y0c h];exact Y0j h
theorem W64.g {l:List Nat} (h:W64 l) (i:Nat):g0 l i<18446744073709551616:=by
 by_cases hi:i<l.length
 . exact h _ (Zkc hi)
 . unfold g0;rw [Y0b,Y2F (by omega)]
   decide
theorem W64.set {l:List Nat} (h:W64 l) {i x:Nat} (hx:x<18446744073709551616):W64 (l.set i x):=fun w hw=>by
 rcases Y2O hw with hw|rfl
 . exact h w hw
 . exact hx
theorem Z1e {a b:Nat} (ha:a<18446744073709551616) (hb:b<18446744073709551616):a ^^^ b<18446744073709551616:=Y4b (n:=64) ha hb
theorem ZcL {a b:Nat} (ha:a<18446744073709551616) (hb:b<18446744073709551616):a ||| b<18446744073709551616:=Y2n (n:=64) ha hb
theorem ZcM {x s:Nat} (hx:x<18446744073709551616):X5R x s<18446744073709551616 :=
 ZcL (Y1F _ (by decide)) (Y02 (Y4B ..) hx)
theorem X61 (N j:Nat) (h:j<=64):Int.fdiv (N:Int) (2 ^ (min ((j:Nat):Int).toNat IntKind.u64.bits))=((N / 2 ^ j:Nat):Int):=by
 have hb:IntKind.u64.bits=64:=rfl;rw [YZ,hb,Y1X h,Y3q _ (Int.pow_nonneg (by decide))];rw [show (2:Int) ^ j=((2 ^ j:Nat):Int) by rw [Y4D]; rfl];exact (Int.natCast_ediv ..).symm
theorem X5Z (N j:Nat) (h:j<=64):IntKind.u64.wrap ((N:Int)*2 ^ (min ((j:Nat):Int).toNat IntKind.u64.bits))=((N*2 ^ j % 18446744073709551616:Nat):Int):=by
 have hb:IntKind.u64.bits=64:=rfl;rw [YZ,hb,Y1X h,Y3d];rw [show (2:Int) ^ j=((2 ^ j:Nat):Int) by rw [Y4D]; rfl,<- Int.natCast_mul]
 rfl
theorem ZaW (x s:Nat) (hx:x<18446744073709551616) (hs:s<64):X7 Tryz.prog 220 [.val (.int .u64 (x:Int)),.val (.int .i64 (s:Int))] (· = .val (.int .u64 ((X5R x s:Nat):Int))):=by
 refine Yp ok220 fun C hC=>?_;refine gd 7 ⟨?_⟩;refine Ze (v:=(s:Int)) rfl rfl rfl (by exact Y0x _ ⟨by omega,by omega⟩) ?_
 refine Ze (v:=(s:Int)) rfl rfl rfl (by
  have h1:=Y28 s 63 (by omega) (by decide);have h2:s &&& 63=s:=by
   have:=Nat.and_two_pow_sub_one_eq_mod s 6;rw [show (2:Nat) ^ 6-1=63 by decide] at this;rw [this]; exact Y1v hs
  rw [h2] at h1
  exact h1) ?_
 refine gd 11 ⟨?_⟩;refine Z3w rfl rfl (by omega) (X5Z x s (by omega)) rfl ?_;refine gd 14 ⟨?_⟩
 refine Ze (v:=((64-s:Nat):Int)) rfl rfl rfl (by
  rw [show (64:Int)-(s:Int)=((64-s:Nat):Int) by omega]
  exact Y0x _ ⟨by omega,by omega⟩) ?_
 refine Z3x rfl rfl (by omega) (X61 x (64-s) (by omega)) rfl ?_;refine Ze (v:=((X5R x s:Nat):Int)) rfl rfl rfl (Y1H _ _ (Y1F _ (by decide)) (Y02 (Y4B ..) hx)) ?_;refine go ?_;exact Z8 rfl Yt rfl
theorem wi (n:Nat) (h:n<1000000):IntKind.i64.wrap ((n:Nat):Int)=(n:Int):=Y0v _ ⟨by omega,by omega⟩
theorem ZmF {a:List Nat} (h:W64 a) (x:Nat):kkC a x<18446744073709551616:=Z1e (Z1e (Z1e (Z1e (h.g _) (h.g _)) (h.g _)) (h.g _)) (h.g _)
theorem Zl7 {a:List Nat} (h:W64 a):W64 (kCs a):=fun w hw=>by
 obtain⟨x,_,rfl⟩:=Y0i.1 hw;exact ZmF h x
theorem Zma {c:List Nat} (h:W64 c) (x:Nat):kkD c x<18446744073709551616:=Z1e (h.g _) (ZcM (h.g _))
theorem Z9R {a c:List Nat} (ha:W64 a) (hc:W64 c):∀ m,W64 (X2w a c m)
 | 0=>fun w hw=>by rw [Y1q hw]; decide
 | m+1=>(Z9R ha hc m).set (ZcM (Z1e (ha.g _) (Zma hc _)))
theorem Z7Q (a c:List Nat):∀ m,(X2w a c m).length=25
 | 0=>rfl
 | m+1=>by show (List.set ..).length=25; rw [Y18,Z7Q a c m]
theorem Zl8 {b:List Nat} (h:W64 b) (i:Nat):X5t b i<18446744073709551616:=Z1e (h.g _) (Y02 Y2b (h.g _))
theorem Ze7 (b:List Nat):(X4W b).length=25:=by simp [X4W]
theorem Zhx {b:List Nat} (h:W64 b):W64 (X4W b):=fun w hw=>by
 obtain⟨x,_,rfl⟩:=Y0i.1 hw;exact Zl8 h x
theorem Zfm (a:List Nat) (rc:Nat):(X46 a rc).length=25:=by show (List.set ..).length=25; rw [Y18,Ze7]
theorem Zjx {a:List Nat} (h:W64 a) {rc:Nat} (hr:rc<18446744073709551616):W64 (X46 a rc) :=
 (Zhx (Z9R h (Zl7 h) 25)).set (Z1e ((Zhx (Z9R h (Zl7 h) 25)).g _) hr)
theorem Zmb:∀ m,m<24->(XU.getD m 0).toNat<18446744073709551616:=by decide
theorem Zmc:∀ m,m<24->(((XU.getD m 0).toNat:Nat):Int)=XU.getD m 0:=by decide
theorem ZaX {a:List Nat} (ha:a.length=25):∀ m,(X3E a m).length=25
 | 0=>ha
 | m+1=>Zfm _ _
theorem ZcN {a:List Nat} (ha:W64 a):∀ m,m<=24->W64 (X3E a m)
 | 0,_=>ha
 | m+1,h=>Zjx (ZcN ha m (by omega)) (Zmb m (by omega))
def rdL:List PV:=XU.map fun x=>.val (.int .u64 x)
theorem Z1O:X5 rdL:=(Z1n _ _).2 fun p hp=>by
 obtain⟨x,_,rfl⟩:=Y0i.1 hp;exact Yt
theorem Zl9 {m:Nat} (h:m<24):rdL.getD m pvu=.val (.int .u64 (((XU.getD m 0).toNat:Nat):Int)):=by
 rw [Zmc m h];have hl:m<XU.length:=h;unfold rdL;simp [Y0b,hl]
def X2j (a:List Nat) (x:Nat):List Nat:=(List.range 5).map fun i=>if i<x then kkC a i else 0
theorem ZaY (a:List Nat) (x:Nat):(X2j a x).length=5:=by simp [X2j]
theorem Z4o (f:Nat->Nat) {n i:Nat} (h:i<n):g0 ((List.range n).map f) i=f i:=by
 unfold g0;simp [Y0b,h]
theorem Z6e {l m:List Nat} (hl:l.length=m.length) (h:∀ x,x<l.length->g0 l x=g0 m x):l=m:=by
 refine Y4s hl fun i h1 h2=>?_;have:=h i h1;unfold g0 at this;simpa [Y0b,h1,h2] using this
theorem Zhy (L:List Nat) (j x y:Nat):g0 (L.set j x) y=if y=j/\j<L.length then x else g0 L y:=by
 unfold g0;simp only [Y0b,Y1p];by_cases h:j=y
 . subst h;by_cases hj:j<L.length
   . simp [hj]
   . simp [hj]
 . rw [Y8 h,Y8 (fun c=>h c.1.symm)]
theorem Zfn (a:List Nat) {x:Nat} (h:x<5):(X2j a x).set x (kkC a x)=X2j a (x+1):=Z6e (by simp [X2j]) fun i hi=>by
 have hi:i<5:=by simpa [X2j] using hi
 rw [Zhy,ZaY];unfold X2j;rw [Z4o _ hi,Z4o _ hi];by_cases hx:i=x
 . subst hx; rw [Y6 ⟨rfl,h⟩,Y6 (by omega)]
 . rw [Y8 (fun c => hx c.1)];by_cases hlt:i<x
   . rw [Y6 hlt,Y6 (by omega)]
   . rw [Y8 hlt,Y8 (by omega)]
theorem Zhz (a:List Nat):X2j a 5=kCs a:=Z6e (by simp [X2j,kCs]) fun i hi=>by
 have hi:i<5:=by simpa [X2j] using hi
 unfold X2j kCs;rw [Z4o _ hi,Z4o _ hi,Y6 hi]
def X1G (b a:List Nat) (k:Nat):List Nat:=(List.range 25).map fun i=>if i<k then X5t b i else g0 a i
theorem ZaZ (b a:List Nat) (k:Nat):(X1G b a k).length=25:=by simp [X1G]
theorem Zfo (b:List Nat) {a:List Nat} (ha:a.length=25):X1G b a 0=a:=Z6e (by simp [X1G,ha]) fun i hi=>by
 have hi:i<25:=by simpa [X1G] using hi
 unfold X1G;rw [Z4o _ hi,Y8 (by omega)]
theorem ZhA (b a:List Nat):X1G b a 25=X4W b:=Z6e (by simp [X1G,X4W]) fun i hi=>by
 have hi:i<25:=by simpa [X1G] using hi
 unfold X1G X4W;rw [Z4o _ hi,Z4o _ hi,Y6 hi]
theorem Zfp (b a:List Nat) {k:Nat} (h:k<25):(X1G b a k).set k (X5t b k)=X1G b a (k+1):=Z6e (by simp [X1G]) fun i hi=>by
 have hi:i<25:=by simpa [X1G] using hi
 rw [Zhy,ZaZ];unfold X1G;rw [Z4o _ hi,Z4o _ hi];by_cases hx:i=k
 . subst hx; rw [Y6 ⟨rfl,h⟩,Y6 (by omega)]
 . rw [Y8 (fun c => hx c.1)];by_cases hlt:i<k
   . rw [Y6 hlt,Y6 (by omega)]
   . rw [Y8 hlt,Y8 (by omega)]
def trL:List PV:=X1Y.map fun x=>.val (.int .i64 x)
theorem Zmd:∀ m,m<25->((kkT m:Nat):Int)=X1Y.getD m 0:=by decide
theorem ZmG:∀ m,m<25->kkT m<64:=by decide
theorem Zjy {m:Nat} (h:m<25):∃ r,trL.drop m=.val (.int .i64 ((kkT m:Nat):Int)) :: r:=by
 have hl:m<trL.length:=h;have hl2:m<X1Y.length:=h;refine⟨trL.drop (m+1),?_⟩;rw [Y1n hl,Zmd m h];congr 1;unfold trL;simp [Y0b,hl2];exact Y3L ..
theorem ZmH {e:Env} {h:X2} {n:Nat} {x i:Operand} {n0:Nat} {kk:IntKind} {m:Int} {l:List PV} (hx:ev e x=some (.cp l)) (hi:ev e i=some (.val (.int kk m))) (j:Nat) (hm:m=(j:Int)) (hj:j<n0):X3 (.iaddrA n0 1 x i) e h n=some (.cp (l.drop j),h):=by
 subst hm;simp only [X3,hx,hi];rw [Y6 ⟨by omega,by omega⟩];simp
theorem Z4p {e:Env} {h:X2} {n:Nat} {a:Operand} {l r:List PV} {v:PV} (ha:ev e a=some (.cp l)) (hl:l=v :: r):X3 (.load false 1 a) e h n=some (v,h):=by
 subst hl;simp [X3,ha,X17]
theorem Zla {e:Env} {h:X2} {n:Nat} {x:Operand} {w:Nat} (hx:ev e x=some (.val (.int .u64 (w:Int)))) (hw:w<18446744073709551616):X3 (.una .xor x) e h n=some (.val (.int .u64 ((18446744073709551615 ^^^ w:Nat):Int)),h):=by
 have:=Y1E 18446744073709551615 w (by decide) hw;simp only [X3,hx];show (match (some (PV.val (.int .u64 (bits .xor .u64 ((18446744073709551615:Nat):Int) (w:Int)))):Option PV) with|some r=>some (r,h)|none=>none)=_;rw [this]
theorem Z4q {kd:IntKind} {l:List Nat} {rest:List PV} (hr:X5 rest):X1 [Xi kd l++rest]:=⟨Z1D (ZN kd l) hr,Yt⟩
theorem X1t {D:Nat->Prop} {kd:IntKind} {l:List Nat} {rest:List PV} (hr:X5 rest):Xt D [Xi kd l++rest]:=Zd (fun _ h=>h.elim) _ (Z4q hr)
theorem Zb0 (Eb:Nat) (hE:25<=Eb) (a:List Nat) (ha:a.length=25) (hw:W64 a) (rest:List PV) (hr:X5 rest):X2l Tryz.prog 214 ⟨Eb,[Xi .u64 a++rest]⟩ [] (fun r b'=>b'=⟨Eb,[Xi .u64 (perm a)++rest]⟩):=by
 refine Z1R ok214 (Y0 rfl) fun C hC=>?_;refine go ?_;refine Zz hC (fun m=>m<=24) (fun m=>24-m) 1 (fun m => [(0,.ptr 0 0 0),(12,.agg rdL),(13,.val (.int .i64 (m:Int)))]) (fun m => [(0,⟨Eb,[Xi .u64 (X3E a m)++rest]⟩)]) (by decide) 0 (Y0l _)
  ⟨⟨rfl,show 0<1 by decide⟩,⟨rfl,ZG (fun _ h=>h.elim) _ Z1O⟩,⟨rfl,Yt⟩,Yt⟩ ⟨⟨by decide,rfl,X1t hr⟩,Yt⟩ ?_
 intro m hm;have hAl:=ZaX ha m;have hAw:=ZcN hw m hm;generalize hAA:X3E a m=A at hAl hAw;have hinc:IntKind.i64.wrap ((m:Int)+1)=((m+1:Nat):Int):=wi (m+1) (by omega);refine gd 14 ⟨?_⟩;by_cases hml:m<24
 . refine Qo (Qy rfl (by omega)) ?_;have hrc:=Zmb m hml;refine gd 15 ⟨?_⟩;refine Qo (Zm9 rfl rfl m rfl hml rfl) ?_;rw [Zl9 hml];generalize hrr:(XU.getD m 0).toNat=rc at hrc;refine go ?_;refine Zz hC (fun x=>x<=5) (fun x=>5-x) 2 (fun x => [(0,.ptr 0 0 0),(3,.val (.int .u64 (rc:Int))),(4,.ptr 1 0 0),(12,.agg rdL),(13,.val (.int .i64 (m:Int))),(16,.val (.int .i64 (x:Int)))]) (fun x => [(0,⟨Eb,[Xi .u64 A++rest]⟩),(1,⟨5,[Xi .u64 (X2j A x) ++ []]⟩)]) (by decide) 0 (Y0l _)
    ⟨⟨rfl,show 0<2 by decide⟩,⟨rfl,Yt⟩,⟨rfl,show 1<2 by decide⟩,⟨rfl,ZG (fun _ h=>h.elim) _ Z1O⟩,⟨rfl,Yt⟩,⟨rfl,Yt⟩,Yt⟩ ⟨⟨by decide,rfl,X1t hr⟩,⟨by decide,rfl,X1t Yt⟩,Yt⟩ ?_
   intro x hx;have hinx:IntKind.i64.wrap ((x:Int)+1)=((x+1:Nat):Int):=wi (x+1) (by omega);refine gd 17 ⟨?_⟩;by_cases hxl:x<5
   . refine Qo (Qy rfl (by omega)) ?_;have cl:=ZaY A x;refine gd 23 ⟨?_⟩;refine Qr (Z3e rfl rfl x rfl (by omega)) ?_;refine Qr (Z3V (kd:=.u64) (L:=A) (pre := []) (post:=rest) (o:=0) rfl rfl rfl (by omega)) ?_;refine gd 27 ⟨?_⟩;refine Qr (ZS (v:=((x+5:Nat):Int)) rfl (wi (x+5) (by omega))) ?_;refine gd 29 ⟨?_⟩;refine Qr (Z3e rfl rfl (x+5) rfl (by omega)) ?_;refine Qr (Z3V (kd:=.u64) (L:=A) (pre := []) (post:=rest) (o:=0) rfl rfl rfl (by omega)) ?_;refine Qr (ZS rfl (Y1E _ _ (hAw.g _) (hAw.g _))) ?_;refine gd 34 ⟨?_⟩;refine Qr (ZS (v:=((x+10:Nat):Int)) rfl (wi (x+10) (by omega))) ?_;refine gd 36 ⟨?_⟩;refine Qr (Z3e rfl rfl (x+10) rfl (by omega)) ?_;refine Qr (Z3V (kd:=.u64) (L:=A) (pre := []) (post:=rest) (o:=0) rfl rfl rfl (by omega)) ?_;refine Qr (ZS rfl (Y1E _ _ (Z1e (hAw.g _) (hAw.g _)) (hAw.g _))) ?_;refine gd 41 ⟨?_⟩;refine Qr (ZS (v:=((x+15:Nat):Int)) rfl (wi (x+15) (by omega))) ?_;refine gd 43 ⟨?_⟩;refine Qr (Z3e rfl rfl (x+15) rfl (by omega)) ?_;refine Qr (Z3V (kd:=.u64) (L:=A) (pre := []) (post:=rest) (o:=0) rfl rfl rfl (by omega)) ?_;refine Qr (ZS rfl (Y1E _ _ (Z1e (Z1e (hAw.g _) (hAw.g _)) (hAw.g _)) (hAw.g _))) ?_;refine gd 48 ⟨?_⟩;refine Qr (ZS (v:=((x+20:Nat):Int)) rfl (wi (x+20) (by omega))) ?_;refine gd 50 ⟨?_⟩;refine Qr (Z3e rfl rfl (x+20) rfl (by omega)) ?_;refine Qr (Z3V (kd:=.u64) (L:=A) (pre := []) (post:=rest) (o:=0) rfl rfl rfl (by omega)) ?_;refine Qr (ZS (v:=((kkC A x:Nat):Int)) rfl (Y1E _ _ (Z1e (Z1e (Z1e (hAw.g _) (hAw.g _)) (hAw.g _)) (hAw.g _)) (hAw.g _))) ?_;refine Qr (Z3e rfl rfl x rfl hxl) ?_;refine Qr (Z9Q (kd:=.u64) (L:=X2j A x) (x:=kkC A x) (pre := []) (post := []) (o:=0) rfl rfl rfl rfl (by omega) (by omega)) ?_;rw [Zfn A hxl];refine go ?_;exact⟨x+1,by omega,by omega,⟨⟨rfl,show 0<2 by decide⟩,⟨rfl,Yt⟩,⟨rfl,show 1<2 by decide⟩,⟨rfl,ZG (fun _ h=>h.elim) _ Z1O⟩,⟨rfl,Yt⟩,⟨by show some _=some _; rw [hinx],Yt⟩,Yt⟩,⟨⟨by decide,rfl,X1t hr⟩,⟨by decide,rfl,X1t Yt⟩,Yt⟩⟩
   . obtain rfl : x = 5 := by omega
     refine Qo (Qz rfl (by omega)) ?_;rw [Zhz];have hcw:=Zl7 hAw;have hcl:(kCs A).length=5:=by simp [kCs]
     generalize hcc:kCs A=cs at hcw hcl;refine go ?_;refine Zz hC (fun x=>x<=5) (fun x=>5-x) 3 (fun x => [(0,.ptr 0 0 0),(3,.val (.int .u64 (rc:Int))),(4,.ptr 1 0 0),(6,.ptr 2 0 0),(12,.agg rdL),(13,.val (.int .i64 (m:Int))),(55,.val (.int .i64 (x:Int)))]) (fun x => [(0,⟨Eb,[Xi .u64 A++rest]⟩),(1,⟨5,[Xi .u64 cs ++ []]⟩),(2,⟨25,[Xi .u64 (X2w A cs (5*x)) ++ []]⟩)]) (by decide) 0 (Y0l _)
      ⟨⟨rfl,show 0<3 by decide⟩,⟨rfl,Yt⟩,⟨rfl,show 1<3 by decide⟩,⟨rfl,show 2<3 by decide⟩,⟨rfl,ZG (fun _ h=>h.elim) _ Z1O⟩,⟨rfl,Yt⟩,⟨rfl,Yt⟩,Yt⟩ ⟨⟨by decide,rfl,X1t hr⟩,⟨by decide,rfl,X1t Yt⟩,⟨by decide,rfl,X1t Yt⟩,Yt⟩ ?_
     intro x hx;have hinx:IntKind.i64.wrap ((x:Int)+1)=((x+1:Nat):Int):=wi (x+1) (by omega);refine gd 56 ⟨?_⟩;by_cases hxl:x<5
     . refine Qo (Qy rfl (by omega)) ?_;refine gd 59 ⟨?_⟩;refine Qr (ZS (v:=((x+4:Nat):Int)) rfl (wi (x+4) (by omega))) ?_;refine Qr (ZS (v:=(((x+4) % 5:Nat):Int)) rfl (Y2P (x+4) 5).symm) ?_;refine Qr (Z3e rfl rfl ((x+4) % 5) rfl (by omega)) ?_;refine Qr (Z3V (kd:=.u64) (L:=cs) (pre := []) (post := []) (o:=0) rfl rfl rfl (by omega)) ?_;refine gd 64 ⟨?_⟩;refine Qr (ZS (v:=((x+1:Nat):Int)) rfl (wi (x+1) (by omega))) ?_;refine Qr (ZS (v:=(((x+1) % 5:Nat):Int)) rfl (Y2P (x+1) 5).symm) ?_;refine Qr (Z3e rfl rfl ((x+1) % 5) rfl (by omega)) ?_;refine Qr (Z3V (kd:=.u64) (L:=cs) (pre := []) (post := []) (o:=0) rfl rfl rfl (by omega)) ?_;refine Qd (ZaW (g0 cs ((x+1) % 5)) 1 (hcw.g _) (by decide)) ⟨Yt,Yt,Yt⟩ ?_;refine Qr (ZS (v:=((kkD cs x:Nat):Int)) rfl (Y1E _ _ (hcw.g _) (ZcM (hcw.g _)))) ?_;have hkd:=Zma hcw x;refine go ?_;refine Zz hC (fun y=>y<=5) (fun y=>5-y) 3 (fun y => [(0,.ptr 0 0 0),(3,.val (.int .u64 (rc:Int))),(4,.ptr 1 0 0),(6,.ptr 2 0 0),(7,.val (.int .i64 (x:Int))),(8,.val (.int .u64 ((kkD cs x:Nat):Int))),(12,.agg rdL),(13,.val (.int .i64 (m:Int))),(55,.val (.int .i64 (x:Int))),(70,.val (.int .i64 (y:Int)))]) (fun y => [(0,⟨Eb,[Xi .u64 A++rest]⟩),(1,⟨5,[Xi .u64 cs ++ []]⟩),(2,⟨25,[Xi .u64 (X2w A cs (5*x+y)) ++ []]⟩)]) (by decide) 0 (Y0l _)
        ⟨⟨rfl,show 0<3 by decide⟩,⟨rfl,Yt⟩,⟨rfl,show 1<3 by decide⟩,⟨rfl,show 2<3 by decide⟩,⟨rfl,Yt⟩,⟨rfl,Yt⟩,⟨rfl,ZG (fun _ h=>h.elim) _ Z1O⟩,⟨rfl,Yt⟩,⟨rfl,Yt⟩,⟨rfl,Yt⟩,Yt⟩ ⟨⟨by decide,rfl,X1t hr⟩,⟨by decide,rfl,X1t Yt⟩,⟨by decide,rfl,X1t Yt⟩,Yt⟩ ?_
       intro y hy;have hiny:IntKind.i64.wrap ((y:Int)+1)=((y+1:Nat):Int):=wi (y+1) (by omega);refine gd 71 ⟨?_⟩;by_cases hyl:y<5
       . refine Qo (Qy rfl (by omega)) ?_;have bl1:=Z7Q A cs (5*x+y);have d1:(5*x+y) / 5=x:=by omega
         have d2:(5*x+y) % 5=y:=by omega
         have hbs:(X2w A cs (5*x+y)).set (y+5*((2*x+3*y) % 5)) (X5R (g0 A (x+5*y) ^^^ kkD cs x) (kkT (x+5*y)))=X2w A cs (5*x+(y+1)):=by
          show _=X5J A cs (X2w A cs (5*x+y)) (5*x+y);unfold X5J;rw [d1,d2]
         obtain⟨tr,htr⟩:=Zjy (show x+5*y<25 by omega);refine gd 75 ⟨?_⟩;refine Qr (ZS (v:=((2*x:Nat):Int)) rfl (wi (2*x) (by omega))) ?_;refine gd 77 ⟨?_⟩;refine Qr (ZS (v:=((3*y:Nat):Int)) rfl (wi (3*y) (by omega))) ?_;refine Qr (ZS (v:=((2*x+3*y:Nat):Int)) rfl (wi (2*x+3*y) (by omega))) ?_;refine Qr (ZS (v:=(((2*x+3*y) % 5:Nat):Int)) rfl (Y2P (2*x+3*y) 5).symm) ?_;refine Qr (ZS (v:=((5*((2*x+3*y) % 5):Nat):Int)) rfl (wi (5*((2*x+3*y) % 5)) (by omega))) ?_;refine Qr (ZS (v:=((y+5*((2*x+3*y) % 5):Nat):Int)) rfl (wi (y+5*((2*x+3*y) % 5)) (by omega))) ?_;refine gd 85 ⟨?_⟩;refine Qr (ZS (v:=((5*y:Nat):Int)) rfl (wi (5*y) (by omega))) ?_;refine Qr (ZS (v:=((x+5*y:Nat):Int)) rfl (wi (x+5*y) (by omega))) ?_;refine gd 88 ⟨?_⟩;refine Qr (Z3e rfl rfl (x+5*y) rfl (by omega)) ?_;refine Qr (Z3V (kd:=.u64) (L:=A) (pre := []) (post:=rest) (o:=0) rfl rfl rfl (by omega)) ?_;refine gd 91 ⟨?_⟩;refine Qr (ZS (v:=((g0 A (x+5*y) ^^^ kkD cs x:Nat):Int)) rfl (Y1E _ _ (hAw.g _) hkd)) ?_;refine gd 94 ⟨?_⟩;refine Qr (ZS (v:=((5*y:Nat):Int)) rfl (wi (5*y) (by omega))) ?_;refine Qr (ZS (v:=((x+5*y:Nat):Int)) rfl (wi (x+5*y) (by omega))) ?_;refine Qr (ZmH (l:=trL) rfl rfl (x+5*y) rfl (by omega)) ?_;refine Qr (Z4p rfl htr) ?_;refine Qd (ZaW (g0 A (x+5*y) ^^^ kkD cs x) (kkT (x+5*y)) (Z1e (hAw.g _) hkd) (ZmG _ (by omega))) ⟨Yt,Yt,Yt⟩ ?_;refine Qr (Z3e rfl rfl (y+5*((2*x+3*y) % 5)) rfl (by omega)) ?_;refine Qr (Z9Q (kd:=.u64) (L:=X2w A cs (5*x+y)) (x:=X5R (g0 A (x+5*y) ^^^ kkD cs x) (kkT (x+5*y))) (pre := []) (post := []) (o:=0) rfl rfl rfl rfl (by omega) (by omega)) ?_;rw [hbs];refine go ?_;exact⟨y+1,by omega,by omega,⟨⟨rfl,show 0<3 by decide⟩,⟨rfl,Yt⟩,⟨rfl,show 1<3 by decide⟩,⟨rfl,show 2<3 by decide⟩,⟨rfl,Yt⟩,⟨rfl,Yt⟩,⟨rfl,ZG (fun _ h=>h.elim) _ Z1O⟩,⟨rfl,Yt⟩,⟨rfl,Yt⟩,⟨by show some _=some _; rw [hiny],Yt⟩,Yt⟩,⟨⟨by decide,rfl,X1t hr⟩,⟨by decide,rfl,X1t Yt⟩,⟨by decide,rfl,X1t Yt⟩,Yt⟩⟩
       . obtain rfl : y = 5 := by omega
         refine Qo (Qz rfl (by omega)) ?_;refine go ?_;exact⟨x+1,by omega,by omega,⟨⟨rfl,show 0<3 by decide⟩,⟨rfl,Yt⟩,⟨rfl,show 1<3 by decide⟩,⟨rfl,show 2<3 by decide⟩,⟨rfl,ZG (fun _ h=>h.elim) _ Z1O⟩,⟨rfl,Yt⟩,⟨by show some _=some _; rw [hinx],Yt⟩,Yt⟩,⟨⟨by decide,rfl,X1t hr⟩,⟨by decide,rfl,X1t Yt⟩,⟨by decide,rfl,X1t Yt⟩,Yt⟩⟩
     . obtain rfl : x = 5 := by omega
       refine Qo (Qz rfl (by omega)) ?_;have hbl:=Z7Q A cs 25;have hbw:=Z9R hAw hcw 25;show Xr _ _ _ _ (Xv [(0,⟨Eb,[Xi .u64 A++rest]⟩),(1,⟨5,[Xi .u64 cs ++ []]⟩),(2,⟨25,[Xi .u64 (X2w A cs 25) ++ []]⟩)]) _;generalize hbb:X2w A cs 25=b at hbl hbw;refine go ?_;refine Zz hC (fun q=>q<=5) (fun q=>5-q) 3 (fun q => [(0,.ptr 0 0 0),(3,.val (.int .u64 (rc:Int))),(6,.ptr 2 0 0),(10,.val (.int .i64 ((5*q:Nat):Int))),(12,.agg rdL),(13,.val (.int .i64 (m:Int)))]) (fun q => [(0,⟨Eb,[Xi .u64 (X1G b A (5*q))++rest]⟩),(2,⟨25,[Xi .u64 b ++ []]⟩)]) (by decide) 0 (Y0l _)
        ⟨⟨rfl,show 0<3 by decide⟩,⟨rfl,Yt⟩,⟨rfl,show 2<3 by decide⟩,⟨rfl,Yt⟩,⟨rfl,ZG (fun _ h=>h.elim) _ Z1O⟩,⟨rfl,Yt⟩,Yt⟩ ⟨⟨by decide,by rw [show 5*0=0 by decide,Zfo b hAl]; rfl,X1t hr⟩,⟨by decide,rfl,X1t Yt⟩,Yt⟩ ?_
       intro q hq;have hinq:IntKind.i64.wrap (((5*q:Nat):Int)+5)=((5*(q+1):Nat):Int):=wi (5*q+5) (by omega);refine gd 103 ⟨?_⟩;by_cases hql:q<5
       . refine Qo (Qy rfl (by omega)) ?_;refine go ?_;refine Zz hC (fun x=>x<=5) (fun x=>5-x) 3 (fun x => [(0,.ptr 0 0 0),(3,.val (.int .u64 (rc:Int))),(6,.ptr 2 0 0),(10,.val (.int .i64 ((5*q:Nat):Int))),(12,.agg rdL),(13,.val (.int .i64 (m:Int))),(106,.val (.int .i64 (x:Int)))]) (fun x => [(0,⟨Eb,[Xi .u64 (X1G b A (5*q+x))++rest]⟩),(2,⟨25,[Xi .u64 b ++ []]⟩)]) (by decide) 0 (Y0l _)
          ⟨⟨rfl,show 0<3 by decide⟩,⟨rfl,Yt⟩,⟨rfl,show 2<3 by decide⟩,⟨rfl,Yt⟩,⟨rfl,ZG (fun _ h=>h.elim) _ Z1O⟩,⟨rfl,Yt⟩,⟨rfl,Yt⟩,Yt⟩ ⟨⟨by decide,rfl,X1t hr⟩,⟨by decide,rfl,X1t Yt⟩,Yt⟩ ?_
         intro x hx;have hinx:IntKind.i64.wrap ((x:Int)+1)=((x+1:Nat):Int):=wi (x+1) (by omega);refine gd 107 ⟨?_⟩;by_cases hxl:x<5
         . refine Qo (Qy rfl (by omega)) ?_;have apl:=ZaZ b A (5*q+x);have hsum:IntKind.i64.wrap ((x:Int)+((5*q:Nat):Int))=((5*q+x:Nat):Int):=by
            rw [show (x:Int)+((5*q:Nat):Int)=((5*q+x:Nat):Int) by omega];exact wi _ (by omega)
           have e1:(5*q+x) % 5=x:=by omega
           have hchi:X5t b (5*q+x)=g0 b (5*q+x) ^^^ ((18446744073709551615 ^^^ g0 b ((x+1) % 5+5*q)) &&& g0 b ((x+2) % 5+5*q)):=by
            unfold X5t;rw [e1,show 5*q+x-x=5*q by omega]
           refine gd 112 ⟨?_⟩;refine Qr (ZS rfl hsum) ?_;refine gd 115 ⟨?_⟩;refine Qr (ZS rfl hsum) ?_;refine Qr (Z3e rfl rfl (5*q+x) rfl (by omega)) ?_;refine Qr (Z3V (kd:=.u64) (L:=b) (pre := []) (post := []) (o:=0) rfl rfl rfl (by omega)) ?_;refine gd 119 ⟨?_⟩;refine Qr (ZS (v:=((x+1:Nat):Int)) rfl (wi (x+1) (by omega))) ?_;refine Qr (ZS (v:=(((x+1) % 5:Nat):Int)) rfl (Y2P (x+1) 5).symm) ?_;refine gd 122 ⟨?_⟩;refine Qr (ZS (v:=(((x+1) % 5+5*q:Nat):Int)) rfl (wi ((x+1) % 5+5*q) (by omega))) ?_;refine Qr (Z3e rfl rfl ((x+1) % 5+5*q) rfl (by omega)) ?_;refine Qr (Z3V (kd:=.u64) (L:=b) (pre := []) (post := []) (o:=0) rfl rfl rfl (by omega)) ?_;refine Qr (Zla rfl (hbw.g _)) ?_;refine gd 127 ⟨?_⟩;refine Qr (ZS (v:=((x+2:Nat):Int)) rfl (wi (x+2) (by omega))) ?_;refine Qr (ZS (v:=(((x+2) % 5:Nat):Int)) rfl (Y2P (x+2) 5).symm) ?_;refine gd 130 ⟨?_⟩;refine Qr (ZS (v:=(((x+2) % 5+5*q:Nat):Int)) rfl (wi ((x+2) % 5+5*q) (by omega))) ?_;refine Qr (Z3e rfl rfl ((x+2) % 5+5*q) rfl (by omega)) ?_;refine Qr (Z3V (kd:=.u64) (L:=b) (pre := []) (post := []) (o:=0) rfl rfl rfl (by omega)) ?_;refine Qr (ZS rfl (Y28 _ _ (Z1e (by decide) (hbw.g _)) (hbw.g _))) ?_;refine Qr (ZS (v:=((X5t b (5*q+x):Nat):Int)) rfl (by rw [hchi]; exact Y1E _ _ (hbw.g _) (Y02 Y2b (hbw.g _)))) ?_;refine gd 136 ⟨?_⟩;refine Qr (Z3e rfl rfl (5*q+x) rfl (by omega)) ?_;refine Qr (Z9Q (kd:=.u64) (L:=X1G b A (5*q+x)) (x:=X5t b (5*q+x)) (pre := []) (post:=rest) (o:=0) rfl rfl rfl rfl (by omega) (by omega)) ?_;rw [Zfp b A (show 5*q+x<25 by omega)];refine go ?_;exact⟨x+1,by omega,by omega,⟨⟨rfl,show 0<3 by decide⟩,⟨rfl,Yt⟩,⟨rfl,show 2<3 by decide⟩,⟨rfl,Yt⟩,⟨rfl,ZG (fun _ h=>h.elim) _ Z1O⟩,⟨rfl,Yt⟩,⟨by show some _=some _; rw [hinx],Yt⟩,Yt⟩,⟨⟨by decide,rfl,X1t hr⟩,⟨by decide,rfl,X1t Yt⟩,Yt⟩⟩
         . obtain rfl : x = 5 := by omega
           refine Qo (Qz rfl (by omega)) ?_;refine go ?_;exact⟨q+1,by omega,by omega,⟨⟨rfl,show 0<3 by decide⟩,⟨rfl,Yt⟩,⟨rfl,show 2<3 by decide⟩,⟨by show some _=some _; rw [hinq],Yt⟩,⟨rfl,ZG (fun _ h=>h.elim) _ Z1O⟩,⟨rfl,Yt⟩,Yt⟩,⟨⟨by decide,rfl,X1t hr⟩,⟨by decide,rfl,X1t Yt⟩,Yt⟩⟩
       . obtain rfl : q = 5 := by omega
         refine Qo (Qz rfl (by omega)) ?_;rw [show 5*5=25 by decide,ZhA];have hcl2:=Ze7 b;have hcw2:=Zhx hbw;have hkr:(X4W b).set 0 (g0 (X4W b) 0 ^^^ rc)=X3E a (m+1):=by
          show _=X46 (X3E a m) (XU.getD m 0).toNat;rw [hAA,hrr,<- hbb,<- hcc]
          rfl
         generalize X4W b=ch at hcl2 hcw2 hkr;refine gd 141 ⟨?_⟩;refine Qr (Z3V (kd:=.u64) (L:=ch) (pre := []) (post:=rest) (o:=0) (j:=0) rfl rfl rfl (by omega)) ?_;refine gd 143 ⟨?_⟩;refine Qr (ZS (v:=((g0 ch 0 ^^^ rc:Nat):Int)) rfl (Y1E _ _ (hcw2.g _) hrc)) ?_
         iterate 2 (first|refine st ?_|(apply B<;>intro hb<;>try cases hb))
         refine Qr (Z9Q (kd:=.u64) (L:=ch) (x:=g0 ch 0 ^^^ rc) (pre := []) (post:=rest) (o:=0) (j:=0) rfl rfl rfl rfl (by omega) (by omega)) ?_;rw [hkr];refine go ?_;exact⟨m+1,by omega,by omega,⟨⟨rfl,show 0<1 by decide⟩,⟨rfl,ZG (fun _ h=>h.elim) _ Z1O⟩,⟨by show some _=some _; rw [hinc],Yt⟩,Yt⟩,⟨⟨by decide,rfl,X1t hr⟩,Yt⟩⟩
 . obtain rfl : m = 24 := by omega
   refine Qo (Qz rfl (by omega)) ?_;refine go ?_;exact⟨_,_,rfl,.inl rfl,_,rfl,Yt,Z4q hr,by rw [<- hAA]; rfl⟩
theorem Zme {e:Env} {h:X2} {n:Nat} {x i:Operand} {k0 i0 o len cap:Nat} {kk:IntKind} {m:Int} (hx:ev e x=some (.sl k0 i0 o len cap)) (hi:ev e i=some (.val (.int kk m))) (j:Nat) (hm:m=(j:Int)) (hj:j<len):X3 (.iaddr 1 x i) e h n=some (.ptr k0 i0 (o+j),h):=by
 subst hm;simp only [X3,hx,hi];rw [Y6 ⟨by omega,by omega,Yt⟩];simp
def W8 (l:List Nat):Prop:=∀ w∈l,w<256
theorem W8.g {l:List Nat} (h:W8 l) (i:Nat):g0 l i<256:=by
 by_cases hi:i<l.length
 . exact h _ (Zkc hi)
 . unfold g0;rw [Y0b,Y2F (by omega)]
   decide
theorem Z9S {bl:List Nat} (h:W8 bl) (i:Nat):∀ j,X23 bl i j<18446744073709551616
 | 0=>by show 0<_; decide
 | j+1=>ZcL (Y1F _ (by decide)) (YY (h.g _) (by decide))
theorem Z6X (a bl:List Nat):∀ i,(X4a a bl i).length=a.length
 | 0=>rfl
 | i+1=>by show (List.set ..).length=_; rw [Y18,Z6X a bl i]
theorem Zb1 {a bl:List Nat} (ha:W64 a) (hb:W8 bl):∀ i,W64 (X4a a bl i)
 | 0=>ha
 | i+1=>(Zb1 ha hb i).set (Z1e ((Zb1 ha hb i).g _) (Z9S hb i 8))
theorem Z6f {a bl:List Nat} (ha:a.length=25):(X1V a bl).length=25:=ZaX (by rw [Z6X]; exact ha) 24
theorem Ze8 {a bl:List Nat} (ha:W64 a) (hb:W8 bl):W64 (X1V a bl):=ZcN (Zb1 ha hb 17) 24 (Y0m _)
theorem Zfq (a b c d c':Bx):(Xv [(0,a),(1,b),(2,c),(3,d)]).upd 2 c'=Xv [(0,a),(1,b),(2,c'),(3,d)]:=by
 funext i
 match i with
 | 0=>rfl
 | 1=>rfl
 | 2=>rfl
 | 3=>rfl
 | i+4=>rfl
set_option maxRecDepth 100000
set_option maxHeartbeats 8000000
theorem Zjz (a bl:List Nat) (ha:a.length=25) (hw:W64 a) (hbl:bl.length=136) (hbw:W8 bl) (rest:List PV) (hr:X5 rest):X2n Tryz.prog 195 (fun i => [.ptr i 0 0,.sl i 0 25 136 136]) ⟨163,[Xi .u64 a++(Xi .u8 bl++rest)]⟩ (fun r b'=>b'=⟨163,[Xi .u64 (X1V a bl)++(Xi .u8 bl++rest)]⟩):=by
 refine Z7J ok195 (Y0 rfl) fun C hC=>?_;refine go ?_;refine Zz hC (fun i=>i<=17) (fun i=>17-i) 1 (fun i => [(0,.ptr 0 0 0),(1,.sl 0 0 25 136 136),(7,Yv i)]) (fun i => [(0,⟨163,[Xi .u64 (X4a a bl i)++(Xi .u8 bl++rest)]⟩)]) (by decide) 0 (Y0l _)
  ⟨⟨rfl,show 0<1 by decide⟩,⟨rfl,show 0<1 by decide⟩,⟨rfl,Yt⟩,Yt⟩ ⟨⟨by decide,rfl,X1t (Z1D (ZN .u8 bl) hr)⟩,Yt⟩ ?_
 intro i hi;have hAl:=Z6X a bl i;rw [ha] at hAl;have hAw:=Zb1 hw hbw i;have hxs:X4a a bl (i+1)=(X4a a bl i).set i (g0 (X4a a bl i) i ^^^ X23 bl i 8):=rfl;generalize hAA:X4a a bl i=A at hAl hAw hxs;have hinc:IntKind.i64.wrap ((i:Int)+1)=((i+1:Nat):Int):=wi (i+1) (by omega);refine gd 8 ⟨?_⟩;by_cases hil:i<17
 . refine Qo (Qy rfl (by omega)) ?_;refine go ?_;refine Zz hC (fun j=>j<=8) (fun j=>8-j) 1 (fun j => [(0,.ptr 0 0 0),(1,.sl 0 0 25 136 136),(4,Yv i),(5,.val (.int .u64 ((X23 bl i j:Nat):Int))),(6,.val (.int .i64 ((7:Int)-(j:Int)))),(7,Yv i)]) (fun j => [(0,⟨163,[Xi .u64 (A)++(Xi .u8 bl++rest)]⟩)]) (by decide) 0 (Y0l _)
    ⟨⟨rfl,show 0<1 by decide⟩,⟨rfl,show 0<1 by decide⟩,⟨rfl,Yt⟩,⟨rfl,Yt⟩,⟨rfl,Yt⟩,⟨rfl,Yt⟩,Yt⟩ ⟨⟨by decide,rfl,X1t (Z1D (ZN .u8 bl) hr)⟩,Yt⟩ ?_
   intro j hj;have hinj:IntKind.i64.wrap ((7:Int)-(j:Int)-1)=(7:Int)-((j+1:Nat):Int):=by
    rw [show (7:Int)-(j:Int)-1=(7:Int)-((j+1:Nat):Int) by omega];exact Y0v _ ⟨by omega,by omega⟩
   have hwl:=Z9S hbw i j;refine gd 11 ⟨?_⟩;by_cases hjl:j<8
   . refine Qo (Qy rfl (by omega)) ?_;refine gd 15 ⟨?_⟩;refine Z3w rfl rfl (by decide) (X5Z (X23 bl i j) 8 (by decide)) rfl ?_;refine gd 18 ⟨?_⟩;refine Ze (v:=((8*i:Nat):Int)) rfl rfl rfl (wi (8*i) (by omega)) ?_;refine gd 20 ⟨?_⟩
     refine Ze (v:=((8*i+(7-j):Nat):Int)) rfl rfl rfl (by
      rw [show ((8*i:Nat):Int)+((7:Int)-(j:Int))=((8*i+(7-j):Nat):Int) by omega]
      exact wi _ (by omega)) ?_
     refine Qo (Zme rfl rfl (8*i+(7-j)) rfl (by omega)) ?_;refine Qo (Z3V (kd:=.u8) (L:=bl) (pre:=Xi .u64 A) (post:=rest) (o:=25) rfl rfl (by rw [ZI]; exact hAl) (by omega)) ?_;refine Ze (v:=((g0 bl (8*i+(7-j)):Nat):Int)) rfl rfl rfl (by have:=hbw.g (8*i+(7-j)); exact Y0x _ ⟨by omega,by omega⟩) ?_;refine Ze (v:=((X23 bl i (j+1):Nat):Int)) rfl rfl rfl (by have:=hbw.g (8*i+(7-j)); exact Y1H _ _ (Y1F _ (by decide)) (by omega)) ?_;refine go ?_;exact⟨j+1,by omega,by omega,⟨⟨rfl,show 0<1 by decide⟩,⟨rfl,show 0<1 by decide⟩,⟨rfl,Yt⟩,⟨rfl,Yt⟩,⟨by show some _=some _; rw [hinj],Yt⟩,⟨rfl,Yt⟩,Yt⟩,⟨⟨by decide,rfl,X1t (Z1D (ZN .u8 bl) hr)⟩,Yt⟩⟩
   . obtain rfl : j = 8 := by omega
     refine Qo (Qz rfl (by omega)) ?_;refine gd 28 ⟨?_⟩;refine Qr (Z3e rfl rfl i rfl (by omega)) ?_;refine Qr (Z3V (kd:=.u64) (L:=A) (pre := []) (post:=(Xi .u8 bl++rest)) (o:=0) rfl rfl rfl (by omega)) ?_;refine gd 31 ⟨?_⟩;refine Qr (ZS (v:=((g0 A i ^^^ X23 bl i 8:Nat):Int)) rfl (Y1E _ _ (hAw.g _) hwl)) ?_;refine gd 33 ⟨?_⟩;refine Qr (Z3e rfl rfl i rfl (by omega)) ?_;refine Qr (Z9Q (kd:=.u64) (L:=A) (x:=g0 A i ^^^ X23 bl i 8) (pre := []) (post:=(Xi .u8 bl++rest)) (o:=0) rfl rfl rfl rfl (by omega) (by omega)) ?_;rw [<- hxs];refine go ?_;exact⟨i+1,by omega,by omega,⟨⟨rfl,show 0<1 by decide⟩,⟨rfl,show 0<1 by decide⟩,⟨by show some _=some _; rw [hinc],Yt⟩,Yt⟩,⟨⟨by decide,rfl,X1t (Z1D (ZN .u8 bl) hr)⟩,Yt⟩⟩
 . obtain rfl : i = 17 := by omega
   refine Qo (Qz rfl (by omega)) ?_;refine gd 36 ⟨?_⟩;refine ZU (Zb0 163 (by omega) A hAl hAw ((Xi .u8 bl++rest)) (Z1D (ZN .u8 bl) hr)) rfl rfl rfl rfl (Z4q (Z1D (ZN .u8 bl) hr)) Yt ?_;rintro r b' hr1 hb1 rfl;rw [<- hAA];refine go ?_;exact⟨_,_,rfl,.inl rfl,_,rfl,Yt,Z4q (Z1D (ZN .u8 bl) hr),rfl⟩
theorem ZjA (a bl:List Nat) (ha:a.length=25) (hw:W64 a) (hbl:bl.length=136) (hbw:W8 bl) (hb rb:Bx) (hp0:X1 hb.elems) (hp1:X1 rb.elems):XF Tryz.prog 195 4 [.ptr 2 0 0,.sl 3 0 0 136 136] (Xv [(0,hb),(1,rb),(2,⟨25,[Xi .u64 a ++ []]⟩),(3,⟨136,[Xi .u8 bl ++ []]⟩)]) (fun n' r h'=>n'=4/\r.pure/\h'=Xv [(0,hb),(1,rb),(2,⟨25,[Xi .u64 (X1V a bl) ++ []]⟩),(3,⟨136,[Xi .u8 bl ++ []]⟩)]):=by
 refine Z18 ok195 (Y0 rfl) fun C hC=>?_;refine go ?_;refine Zz hC (fun i=>i<=17) (fun i=>17-i) 4 (fun i => [(0,.ptr 2 0 0),(1,.sl 3 0 0 136 136),(7,Yv i)]) (fun i => [(0,hb),(1,rb),(2,⟨25,[Xi .u64 (X4a a bl i) ++ []]⟩),(3,⟨136,[Xi .u8 bl ++ []]⟩)]) (by decide) 0 (Y0l _)
  ⟨⟨rfl,show 2<4 by decide⟩,⟨rfl,show 3<4 by decide⟩,⟨rfl,Yt⟩,Yt⟩ ⟨⟨by decide,rfl,Zd (fun _ h=>h.elim) _ hp0⟩,⟨by decide,rfl,Zd (fun _ h=>h.elim) _ hp1⟩,⟨by decide,rfl,X1t Yt⟩,⟨by decide,rfl,X1t Yt⟩,Yt⟩ ?_
 intro i hi;have hAl:=Z6X a bl i;rw [ha] at hAl;have hAw:=Zb1 hw hbw i;have hxs:X4a a bl (i+1)=(X4a a bl i).set i (g0 (X4a a bl i) i ^^^ X23 bl i 8):=rfl;generalize hAA:X4a a bl i=A at hAl hAw hxs;have hinc:IntKind.i64.wrap ((i:Int)+1)=((i+1:Nat):Int):=wi (i+1) (by omega);refine gd 8 ⟨?_⟩;by_cases hil:i<17
 . refine Qo (Qy rfl (by omega)) ?_;refine go ?_;refine Zz hC (fun j=>j<=8) (fun j=>8-j) 4 (fun j => [(0,.ptr 2 0 0),(1,.sl 3 0 0 136 136),(4,Yv i),(5,.val (.int .u64 ((X23 bl i j:Nat):Int))),(6,.val (.int .i64 ((7:Int)-(j:Int)))),(7,Yv i)]) (fun j => [(0,hb),(1,rb),(2,⟨25,[Xi .u64 (A) ++ []]⟩),(3,⟨136,[Xi .u8 bl ++ []]⟩)]) (by decide) 0 (Y0l _)
    ⟨⟨rfl,show 2<4 by decide⟩,⟨rfl,show 3<4 by decide⟩,⟨rfl,Yt⟩,⟨rfl,Yt⟩,⟨rfl,Yt⟩,⟨rfl,Yt⟩,Yt⟩ ⟨⟨by decide,rfl,Zd (fun _ h=>h.elim) _ hp0⟩,⟨by decide,rfl,Zd (fun _ h=>h.elim) _ hp1⟩,⟨by decide,rfl,X1t Yt⟩,⟨by decide,rfl,X1t Yt⟩,Yt⟩ ?_
   intro j hj;have hinj:IntKind.i64.wrap ((7:Int)-(j:Int)-1)=(7:Int)-((j+1:Nat):Int):=by
    rw [show (7:Int)-(j:Int)-1=(7:Int)-((j+1:Nat):Int) by omega];exact Y0v _ ⟨by omega,by omega⟩
   have hwl:=Z9S hbw i j;refine gd 11 ⟨?_⟩;by_cases hjl:j<8
   . refine Qo (Qy rfl (by omega)) ?_;refine gd 15 ⟨?_⟩;refine Z3w rfl rfl (by decide) (X5Z (X23 bl i j) 8 (by decide)) rfl ?_;refine gd 18 ⟨?_⟩;refine Ze (v:=((8*i:Nat):Int)) rfl rfl rfl (wi (8*i) (by omega)) ?_;refine gd 20 ⟨?_⟩
     refine Ze (v:=((8*i+(7-j):Nat):Int)) rfl rfl rfl (by
      rw [show ((8*i:Nat):Int)+((7:Int)-(j:Int))=((8*i+(7-j):Nat):Int) by omega]
      exact wi _ (by omega)) ?_
     refine Qo (Zme rfl rfl (8*i+(7-j)) rfl (by omega)) ?_;refine Qo (Z3V (kd:=.u8) (L:=bl) (pre := []) (post := []) (o:=0) rfl rfl rfl (by omega)) ?_;refine Ze (v:=((g0 bl (8*i+(7-j)):Nat):Int)) rfl rfl rfl (by have:=hbw.g (8*i+(7-j)); exact Y0x _ ⟨by omega,by omega⟩) ?_;refine Ze (v:=((X23 bl i (j+1):Nat):Int)) rfl rfl rfl (by have:=hbw.g (8*i+(7-j)); exact Y1H _ _ (Y1F _ (by decide)) (by omega)) ?_;refine go ?_;exact⟨j+1,by omega,by omega,⟨⟨rfl,show 2<4 by decide⟩,⟨rfl,show 3<4 by decide⟩,⟨rfl,Yt⟩,⟨rfl,Yt⟩,⟨by show some _=some _; rw [hinj],Yt⟩,⟨rfl,Yt⟩,Yt⟩,⟨⟨by decide,rfl,Zd (fun _ h=>h.elim) _ hp0⟩,⟨by decide,rfl,Zd (fun _ h=>h.elim) _ hp1⟩,⟨by decide,rfl,X1t Yt⟩,⟨by decide,rfl,X1t Yt⟩,Yt⟩⟩
   . obtain rfl : j = 8 := by omega
     refine Qo (Qz rfl (by omega)) ?_;refine gd 28 ⟨?_⟩;refine Qr (Z3e rfl rfl i rfl (by omega)) ?_;refine Qr (Z3V (kd:=.u64) (L:=A) (pre := []) (post := []) (o:=0) rfl rfl rfl (by omega)) ?_;refine gd 31 ⟨?_⟩;refine Qr (ZS (v:=((g0 A i ^^^ X23 bl i 8:Nat):Int)) rfl (Y1E _ _ (hAw.g _) hwl)) ?_;refine gd 33 ⟨?_⟩;refine Qr (Z3e rfl rfl i rfl (by omega)) ?_;refine Qr (Z9Q (kd:=.u64) (L:=A) (x:=g0 A i ^^^ X23 bl i 8) (pre := []) (post := []) (o:=0) rfl rfl rfl rfl (by omega) (by omega)) ?_;rw [<- hxs];refine go ?_;exact⟨i+1,by omega,by omega,⟨⟨rfl,show 2<4 by decide⟩,⟨rfl,show 3<4 by decide⟩,⟨by show some _=some _; rw [hinc],Yt⟩,Yt⟩,⟨⟨by decide,rfl,Zd (fun _ h=>h.elim) _ hp0⟩,⟨by decide,rfl,Zd (fun _ h=>h.elim) _ hp1⟩,⟨by decide,rfl,X1t Yt⟩,⟨by decide,rfl,X1t Yt⟩,Yt⟩⟩
 . obtain rfl : i = 17 := by omega
   refine Qo (Qz rfl (by omega)) ?_;refine gd 36 ⟨?_⟩;refine ZU (Zb0 25 (by omega) A hAl hAw ([]) Yt) rfl rfl rfl rfl (Z4q Yt) Yt ?_;rintro r b' hr1 hb1 rfl;rw [<- hAA];refine go ?_;exact⟨_,_,rfl,.inl rfl,rfl,Yt,Zfq _ _ _ _ _⟩
structure HOk (h:HS):Prop where
 sl:h.st.length=25
 sw:W64 h.st
 bl:h.bl.length=136
 bw:W8 h.bl
 us:h.used<136
def X3Y (h:HS) (p:List Nat):List Nat:=h.bl.take h.used++p.take (min p.length (136-h.used))++h.bl.drop (h.used+min p.length (136-h.used))
theorem Z9T {h:HS} (hh:HOk h) (p:List Nat):(X3Y h p).length=136:=by
 have h1:=hh.bl;have h2:=hh.us;unfold X3Y;simp only [Y0e,Y0o,YV];omega
theorem W8.sub {l m:List Nat} (h:W8 m) (hs:∀ x∈l,x∈m):W8 l:=fun x hx=>h x (hs x hx)
theorem Ze9 {h:HS} (hh:HOk h) {p:List Nat} (hp:W8 p):W8 (X3Y h p):=fun x hx=>by
 unfold X3Y at hx;rcases Y0h.1 hx with h1|h1
 . rcases Y0h.1 h1 with h2 | h2
   . exact hh.bw x (YM h2)
   . exact hp x (YM h2)
 . exact hh.bw x (Y1j h1)
theorem Zkd (h:HS) (p:List Nat):h.put p=if h.used+min p.length (136-h.used)=136 then ⟨X1V h.st (X3Y h p),X3Y h p,0,h.total⟩ else ⟨h.st,X3Y h p,h.used+min p.length (136-h.used),h.total⟩:=rfl
theorem Zea {h:HS} (hh:HOk h) {p:List Nat} (hp:W8 p):HOk (h.put p):=by
 have h2:=hh.us;rw [Zkd]
 split
 . exact⟨Z6f hh.sl,Ze8 hh.sw (Ze9 hh hp),Z9T hh p,Ze9 hh hp,by show 0<136; decide⟩
 . rename_i hne;exact⟨hh.sl,hh.sw,Z9T hh p,Ze9 hh hp,by show h.used+_<136; omega⟩
theorem Z7R {f:Nat} {h:HS} {p:List Nat} (hp:p.length=0):HS.puts f h p=h:=by
 cases f with
 | zero=>rfl
 | succ f=>show (if p.length=0 then h else _)=h; rw [Y6 hp]
theorem Zb2:∀ (f f':Nat) (h:HS) (p:List Nat),HOk h->W8 p->p.length<f->p.length<f'->HS.puts f h p=HS.puts f' h p
 | 0,_,_,_,_,_,hf,_=>by omega
 | _,0,_,_,_,_,_,hf=>by omega
 | f + 1, f' + 1, h, p, hh, hp, hf, hf' => by
   have h2:=hh.us;by_cases h0:p.length=0
   . rw [Z7R h0,Z7R h0]
   . show (if p.length = 0 then h else HS.puts f (h.put p) (p.drop (min p.length (136 - h.used)))) = (if p.length = 0 then h else HS.puts f' (h.put p) (p.drop (min p.length (136 - h.used))));rw [Y8 h0,Y8 h0];exact Zb2 f f' _ _ (Zea hh hp) (hp.sub fun x hx=>Y1j hx) (by rw [YV];omega) (by rw [YV];omega)
theorem ZhB {f:Nat} {h:HS} {p:List Nat} (hh:HOk h) (hp:W8 p) (h0:¬ p.length=0) (hf:p.length<f):HS.puts f h p=HS.puts f (h.put p) (p.drop (min p.length (136-h.used))):=by
 have h2:=hh.us;obtain⟨f,rfl⟩:∃ f',f=f'+1:=⟨f-1,by omega⟩
 show (if p.length=0 then h else HS.puts f (h.put p) (p.drop (min p.length (136-h.used))))=_;rw [Y8 h0];exact Zb2 f (f+1) _ _ (Zea hh hp) (hp.sub fun x hx=>Y1j hx) (by rw [YV];omega) (by rw [YV];omega)
theorem ZhC:∀ (f:Nat) (h:HS) (p:List Nat),HOk h->W8 p->HOk (HS.puts f h p)
 | 0,_,_,hh,_=>hh
 | f + 1, h, p, hh, hp => by
   show HOk (if p.length=0 then h else HS.puts f (h.put p) (p.drop (min p.length (136-h.used))))
   split
   . exact hh
   . exact ZhC f _ _ (Zea hh hp) (hp.sub fun x hx=>Y1j hx)
def Xx (st bl:List Nat) (u t:PV):List PV:=Xi .u64 st++(Xi .u8 bl ++ [u,t])
def hBx (h:HS):Bx:=⟨163,[Xx h.st h.bl (.val (.int .i64 (h.used:Int))) (.val (.int .u64 (h.total:Int)))]⟩
section
variable {st bl:List Nat} {u t:PV}
theorem Z8T (hs:st.length=25) (hb:bl.length=136):(Xx st bl u t).length=163:=by
 simp [Xx,ZI,hs,hb]
theorem Z4T:Xx st bl u t=(Xi .u64 st++Xi .u8 bl) ++ [u,t]:=(YT ..).symm
theorem Z2p (hs:st.length=25) (hb:bl.length=136):(Xi .u64 st++Xi .u8 bl).length=161:=by simp [ZI,hs,hb]
theorem Zmf (hs:st.length=25) (hb:bl.length=136):(Xx st bl u t).getD 161 pvu=u:=by
 rw [Z4T,Y0b,YL (by rw [Z2p hs hb]; exact Y0m _),Z2p hs hb]
 rfl
theorem ZmX (hs:st.length=25) (hb:bl.length=136):(Xx st bl u t).getD 162 pvu=t:=by
 rw [Z4T,Y0b,YL (by rw [Z2p hs hb]; decide),Z2p hs hb]
 rfl
theorem ZhD (hs:st.length=25) (hb:bl.length=136) (v:PV):Xl (Xx st bl u t) 161 [v]=Xx st bl v t:=by
 rw [Z7P _ _ _ (by rw [Z8T hs hb]; decide),Z4T,Y3X _ _ (by rw [Z2p hs hb]; exact Y0m _),Z2p hs hb,Z4T]
 rfl
theorem Zlb (hs:st.length=25) (hb:bl.length=136) (v:PV):Xl (Xx st bl u t) 162 [v]=Xx st bl u v:=by
 rw [Z7P _ _ _ (by rw [Z8T hs hb]; decide),Z4T,Y3X _ _ (by rw [Z2p hs hb]; decide),Z2p hs hb,Z4T]
 rfl
theorem ZhE (hu:u.pure) (ht:t.pure):X5 (Xx st bl u t):=Z1D (ZN _ _) (Z1D (ZN _ _) ⟨hu,ht,Yt⟩)
end
theorem Z3P (h:HS):X1 (hBx h).elems:=⟨ZhE Yt Yt,Yt⟩
theorem Z6g (D:Nat->Prop) (h:HS):Xt D (hBx h).elems:=Zd (fun _ h=>h.elim) _ (Z3P h)
theorem ZmI (l:List Nat):((bys l).map fun c=>c.getD 0 pvu)=Xi .u8 l:=by
 unfold bys Xi;rw [Y2o]
 rfl
theorem Zlc {st bl:List Nat} {u t:PV} (hs:st.length=25) (hb:bl.length=136) {used:Nat} (hu:used<136) (p:List Nat):Xl (Xx st bl u t) (25+used) (((bys p).take (136-used)).map fun c=>c.getD 0 pvu)=Xx st (bl.take used++p.take (min p.length (136-used))++bl.drop (used+min p.length (136-used))) u t:=by
 have e1:((bys p).take (136-used)).map (fun c=>c.getD 0 pvu)=Xi .u8 (p.take (min p.length (136-used))):=by
  rw [Y2r,ZmI];unfold Xi;rw [<- Y2r];congr 1;rw [Nat.min_comm,<- Y3w,Y0q]
 rw [e1];generalize hn:min p.length (136-used)=n;have hpl:(p.take n).length=n:=by rw [Y0o]; omega
 have hcl:(Xi .u8 (p.take n)).length=n:=by rw [ZI,hpl]
 have hst:(Xi .u64 st).length=25:=by rw [ZI,hs]
 unfold Xl Xx;rw [hcl];have d1:(Xi .u64 st++(Xi .u8 bl ++ [u,t])).take (25+used)=Xi .u64 st++Xi .u8 (bl.take used):=by
  rw [Y2S,hst,YA (by omega),Y2S,ZI,show 25+used-25=used by omega,show used-bl.length=0 by omega];simp [Xi,Y2r]
 have d2:(Xi .u64 st++(Xi .u8 bl ++ [u,t])).drop (25+used+n)=Xi .u8 (bl.drop (used+n)) ++ [u,t]:=by
  rw [Y2x,hst,Y1G (by omega),Y2x,ZI,show 25+used+n-25=used+n by omega,show used+n-bl.length=0 by omega];simp [Xi,Y3G]
 rw [d1,d2];unfold Xi;simp only [Y0r,YT]
section
variable {e:Env} {h:X2} {n k:Nat} {Eb:Nat}
theorem Z87 {a:Operand} {l:List PV} {off:Nat} {v:PV} (ha:ev e a=some (.ptr k 0 off)) (hb:h k=some ⟨Eb,[l]⟩) (hl:off<l.length) (hv:l.getD off pvu=v):X3 (.load false 1 a) e h n=some (v,h):=by
 subst hv;exact Z1v ha hb Y1M (X7e _ _ hl)
theorem Zld {a v:Operand} {l l':List PV} {off:Nat} {kd:IntKind} {x:Int} (ha:ev e a=some (.ptr k 0 off)) (hv:ev e v=some (.val (.int kd x))) (hb:h k=some ⟨Eb,[l]⟩) (hE:off+1<=Eb) (hl:Xl l off [.val (.int kd x)]=l'):X3 (.store 1 a v) e h n=some (pvu,h.upd k ⟨Eb,[l']⟩):=by
 subst hl;exact Z1Q (n:=n) (size:=1) ha hv hb rfl rfl Y1M hE
theorem ZjB {x:Operand} {lo hi:Option Operand} {k0 i0 o n0:Nat} (hx:ev e x=some (.ptr k0 i0 o)) (a b:Nat) (hlo:XM e 0 lo=some (a:Int)) (hhi:XM e n0 hi=some (b:Int)) (h1:a<=b) (h2:b<=n0) (h3:a<n0):X3 (.slcA n0 x lo hi) e h n=some (.sl k0 i0 (o+a) (b-a) (n0-a),h):=by
 simp only [X3,hx,hlo,hhi];rw [Y6 ⟨by omega,by omega,by omega,by omega⟩];simp
theorem ZmJ {d s:Operand} {o len cap:Nat} {p:List Nat} {fl:Bool} {l l':List PV} (hd:ev e d=some (.sl k 0 o len cap)) (hs:ev e s=some (.vec (bys p) fl)) (hb:h k=some ⟨Eb,[l]⟩) (hE:o+len<=Eb) (hl:Xl l o (((bys p).take len).map fun c=>c.getD 0 pvu)=l'):X3 (.copy 1 d s) e h n=some (.val (.int .i64 ((min p.length len:Nat):Int)),h.upd k ⟨Eb,[l']⟩):=by
 subst hl;simp only [X3,hd,hs,hb];rw [Y6 ⟨fun c hc=>by obtain⟨y,_,rfl⟩:=Y0i.1 hc; rfl,Yt,show 0<1 by decide,hE⟩];rw [show (bys p).length=p.length by simp [bys]]
 rfl
end
end
section
open Go.RowKit
def X6X (P:Program) (t:TypeId):Option IntKind:=match P.underlying t with|some (.int k)=>some k|_=>none
def X4b (P:Program) (t:TypeId):Option TypeId:=match P.underlying t with|some (.slice e)=>some e|_=>none
section
variable {P:Program} {t:TypeId} {n:Nat} {ps:List PV} {p:PV}
theorem Zbn {k:IntKind} (h:X6X P t=some k):P.underlying t=some (.int k):=by
 unfold X6X at h
 split at h
 . rename_i k' hu; cases h; exact hu
 . cases h
theorem Z81 {e:TypeId} (h:X4b P t=some e):P.underlying t=some (.slice e):=by
 unfold X4b at h
 split at h
 . rename_i k' hu; cases h; exact hu
 . cases h
theorem Zbo {k:IntKind} (h:XR P n t ps) (hk:X6X P t=some k):∃ m,(Lit.int k m).wf=true/\ps = [.val (.int k m)]:=by
 cases n with
 | zero=>exact h.elim
 | succ n=>simpa only [XR,Zbn hk] using h
theorem Zd7 {e:TypeId} (h:XR P n t ps) (hk:X4b P t=some e):∃ n' ll fl,ll.length<=Xj/\(∀ l∈ll,XR P n' e l)/\ps = [.vec ll fl]:=by
 cases n with
 | zero=>exact h.elim
 | succ n =>
   have:∃ ll fl,ll.length<=Xj/\(∀ l∈ll,XR P n e l)/\ps = [.vec ll fl]:=by simpa only [XR,Z81 hk] using h
   obtain⟨ll,fl,h⟩:=this;exact⟨n,ll,fl,h⟩
theorem ZfL {k:IntKind} (h:X2t P t p) (hk:X6X P t=some k):∃ m,(Lit.int k m).wf=true/\p=.val (.int k m):=by
 obtain⟨n,h⟩:=h;rw [Zbn hk] at h;obtain⟨m,h1,h2⟩:=Zbo (show XR P n t [p] from h) hk;exact⟨m,h1,by simpa using h2⟩
theorem Zbp {e:TypeId} (h:X2t P t p) (hk:X4b P t=some e):∃ n' ll fl,ll.length<=Xj/\(∀ l∈ll,XR P n' e l)/\p=.vec ll fl:=by
 obtain⟨n,h⟩:=h;rw [Z81 hk] at h;obtain⟨n',ll,fl,h1,h2,h3⟩:=Zd7 (show XR P n t [p] from h) hk;exact⟨n',ll,fl,h1,h2,by simpa using h3⟩
end
end
end Go.Proofs.YtoolafpiaobphaaGreatDoor
