/-
  Merged from the texts that this claim's theorem needs, part 7 of 10. No statement of the seat is proved here.
-/
import Derived.Calls
import Derived.Laws.Bits64
import Derived.Laws.Bits64b
import Derived.Lone
import Derived.StepT
import Derived.Test.YtbghddidoegjlaaGreatDoorMq5
set_option linter.unusedSimpArgs false
set_option linter.unusedVariables false
set_option linter.unusedSectionVars false
set_option maxRecDepth 100000
set_option maxHeartbeats 16000000
namespace Go.Proofs.YtbghddidoegjlaaGreatDoor
section
open Go.RowKit
def X1u (op:AOp) (e:Env):Option PV :=
 match op with
 | .mov x=>ev e x
 | .bin op .num x y => match ev e x, ev e y with
   | some (.val a),some (.val b)=>(X4B op a b).map .val
   | _,_=>none
 | .una op x => match ev e x with
   | some p=>X6e op p
   | none=>none
 | .faddr off x => match ev e x with
   | some (.cp l)=>some (.cp (l.drop off))
   | _=>none
 | .load false 1 x => match ev e x with
   | some (.cp (p :: _))=>some p
   | _=>none
 | .len x => match ev e x with
   | some (.vec l _)=>some (.val (.int .i64 l.length))
   | _=>none
 | .iaddr esz x i => match ev e x, ev e i with
   | some (.vec l _), some (.val (.int _ n)) => if 0 <= n /\ n < (l.length : Int) then
      (if (l.getD n.toNat []).length=esz then some (.cp (l.getD n.toNat [])) else none) else none
   | _,_=>none
 | _=>none
section
variable {P:Program} {F:XE} {a:Act} {w:World} {e:Env} {nt:Nat}
structure X2D (nt:Nat) (F:XE) (e:Env) (a:Act):Prop where
 sz:a.tmps.size=nt
 nd:a.defers = []
 env:∀ k p,e k=some p->k<nt/\Rep F XA (a.tmps.getD k undef) p
theorem X2D.eval (s:X2D nt F e a) (hF:Holds F w) {x:Operand} {p:PV} (hx:ev e x=some p):Rep F XA (a.eval x) p:=by
 cases x with
 | tmp t=>exact (s.env t p (by simpa [ev] using hx)).2
 | const v => obtain rfl : X3P v = p := by simpa [ev] using hx
              exact Z3g v
 | global g =>
   simp only [ev] at hx
   split at hx
   . cases hx; exact .val _
   . rename_i v l hg;cases hx;have hlen:(zpv (v :: l)).length=(v :: l).length:=by simp [zpv]
     refine .cp ⟨g,0,none⟩ (zpv (v :: l)) (fun j=>(v :: l).getD j undef) rfl (fun j hj=>?_) (fun j hj=>?_)
     . have hj' : j < (v :: l).length := by rw [<- hlen]; exact hj
       have e1:(X3l g)[j]?=some ((v :: l).getD j undef):=by rw [hg,Y0b,Y0c hj']; rfl
       have:=hF.2 g j _ e1;rw [Y19];exact this
     . have hj' : j < (v :: l).length := by rw [<- hlen]; exact hj
       have e2:(zpv (v :: l)).getD j pvu=X3P ((v :: l).getD j undef):=by
        simp only [zpv,Y0b,Y0y,Y0c hj',Y1d,Y2o]
       rw [e2];exact Z3g _
 | func f => obtain rfl : _ = p := by simpa [ev] using hx
             exact .fn f #[] [] rfl (fun i hi=>absurd hi (by simp))
theorem X2D.put (s:X2D nt F e a) {d:Nat} {v:Value} {p:PV} (hd:d<nt) (hr:Rep F XA v p):X2D nt F (e.upd d p) (a.put (some d) v):=by
 refine⟨by simp [Act.put,s.sz],s.nd,fun k q hq=>?_⟩;simp only [Act.put];rw [Z16 _ _ _ _ (by rw [s.sz]; exact hd)];by_cases hk:k=d
 . subst hk;rw [Env.upd_same] at hq;obtain rfl:p=q:=by simpa using hq
   simpa using ⟨hd,hr⟩
 . rw [Env.upd_ne _ _ hk] at hq;simpa [hk] using s.env k q hq
theorem X2D.putO (s:X2D nt F e a) {d:Option Nat} {v:Value} {p:PV} (hd:X2z nt d=true) (hr:Rep F XA v p):X2D nt F (Xu e d p) (a.put d v):=by
 cases d with
 | none=>exact s
 | some d=>exact s.put (by simpa [X2z] using hd) hr
theorem Zbj {o:Oper} {op:AOp} (hc:cOp P o=some op) (s:X2D nt F e a) (hF:Holds F w) {p:PV} (hq:X1u op e=some p):∃ val,(execOp a.eval o).run P w=.ok (.value val) w/\Rep F XA val p:=by
 unfold cOp at hc
 split at hc
 case h_1 x ho =>
  cases hc;exact⟨_,by simp [execOp,ho],s.eval hF hq⟩
 case h_2 x ho =>
  cases hc;exact⟨_,by simp [execOp,ho],s.eval hF hq⟩
 case h_4 bop t x y yt ho =>
  have key:op=.bin bop .num x y->∃ val,(execOp a.eval o).run P w=.ok (.value val) w/\Rep F XA val p:=by
   rintro rfl;simp only [X1u] at hq
   split at hq
   case h_2=>cases hq
   rename_i va vb hx hy;have ha:=(s.eval hF hx).val_inv;have hb:=(s.eval hF hy).val_inv;cases hs:X4B bop va vb with
   | none=>simp [hs] at hq
   | some r =>
     obtain rfl:PV.val r=p:=by simpa [hs] using hq
     have hrun:=Zct (P:=P) (w:=w) (t:=t) (x:=x) (y:=y) hs;have hex:execOp a.eval o=(do pure (.value (<- (do eqGuard bop t x y (a.eval x) (a.eval y); binOp bop t (a.eval x) (a.eval y):Sem Value)))):=by simp only [execOp,ho]
     exact⟨r,by rw [hex,ha,hb,Y1g,hrun]; rfl,.val _⟩
  (repeat' (split at hc))<;>first|(cases hc; exact key rfl)|(cases hc; simp [X1u] at hq; done)|(cases hc; done)
 case h_5 uop t x ho =>
  cases hc;simp only [X1u] at hq
  split at hq
  case h_2=>cases hq
  rename_i q hx;obtain⟨val,hrun,hrep⟩:=Zcu (P:=P) (w:=w) (s.eval hF hx) hq;exact⟨val,by simp [execOp,ho,hrun],hrep⟩
 case h_11 t x ho =>
  have hex:execOp a.eval o=(do pure (.value (<- Instr.loadAt t (a.eval x)))):=by simp [execOp,ho]
  cases hl:XX P t with
  | none=>simp [hl] at hc
  | some l =>
    obtain rfl:AOp.load l.1 l.2 x=op:=by simpa [hl] using hc
    obtain⟨agg,size⟩:=l;cases agg with
    | true=>simp [X1u] at hq
    | false =>
      obtain⟨rfl,_⟩:=Z2E hl;simp only [X1u] at hq
      split at hq
      case h_2=>cases hq
      rename_i p' l hx;cases hq;obtain⟨ad,cs,hv,hs,hFc,hR⟩:=(s.eval hF hx).cp_inv;have hcut:X19 false 1 0 (p :: l)=some p:=by simp [X19]
      obtain⟨val,hr,hrep⟩:=Z4J (w:=w) hl hs hcut (fun j hj=>by
       obtain rfl:j=0:=by omega
       exact⟨cs 0,(hF.1 _ _ (hFc 0 (by simp))).2.2,(hF.1 _ _ (hFc 0 (by simp))).2.1,hR 0 (by simp)⟩)
      exact⟨val,by rw [hex]; simp [Instr.loadAt,hv,Instr.sureAddr,hr],hrep⟩
 case h_14 t x i ho =>
  have hex:execOp a.eval o=(do pure (.value (<- Instr.fieldAt t (a.eval x) i))):=by simp [execOp,ho]
  split at hc
  case h_2=>simp at hc
  rename_i fs hu
  split at hc
  case h_2=>simp at hc
  rename_i f hf
  split at hc
  case h_2=>simp at hc
  rename_i inf hi
  split at hc
  case isFalse=>simp at hc
  rename_i hp;cases hc;simp only [X1u] at hq
  split at hq
  case h_2=>cases hq
  rename_i l hl;cases hq;have hne:inf.size≠0:=by omega
  have hfp:∀ ad:Addr,(fieldPlace ad f).run P w=.ok (ad.add f.offset) w:=fun ad=>by
   simp [fieldPlace,Zj hi,hne]
  obtain⟨ad,cs,hv,hs,hFc,hR⟩:=(s.eval hF hl).cp_inv;refine⟨.pointer (some (ad.add f.offset)),by rw [hex]; simp [Instr.fieldAt,Yy hu,hf,hv,Instr.sureAddr,hfp],?_⟩;rw [ZR _ _ hs];refine .cp _ _ (fun j=>cs (f.offset+j)) rfl (fun j hj=>?_) (fun j hj=>?_)
  . have : f.offset + j < l.length := by simp at hj; omega
    simpa [Y1H] using hFc _ this
  . have : f.offset + j < l.length := by simp at hj; omega
    simpa [Y0b] using hR _ this
 case h_16 t x i ho =>
  have hex:execOp a.eval o=(do pure (.value (<- Instr.indexAt t (a.eval x) (a.eval i)))):=by simp [execOp,ho]
  split at hc
  . rename_i el hu;have hel:P.elem t=el:=by simp [Program.elem,hu]
    have hu':P.underlying t=some (.slice (P.elem t)):=by rw [hel]; exact hu
    cases hi:P.info? el with
    | none=>simp [hi] at hc
    | some inf =>
      obtain rfl:AOp.iaddr inf.size x i=op:=by simpa [hi] using hc
      simp only [X1u] at hq
      split at hq
      case h_2=>cases hq
      rename_i l full k n hx hn
      split at hq
      case isFalse=>cases hq
      rename_i hb
      split at hq
      case isFalse=>cases hq
      rename_i hlen;cases hq;have hvn:=(s.eval hF hn).val_inv;have hlt:n.toNat<l.length:=by omega
      rcases (s.eval hF hx).vec_inv with⟨rfl,_⟩|⟨ad,cap,esz,cs,hv,hs,hcap,_,_,he,hFc,hR⟩
      . simp at hlt
      have hesz:esz=inf.size:=by rw [<- hlen]; exact (he _ hlt).symm
      subst hesz
      refine⟨.pointer (some (ad.add (n.toNat*inf.size))),by
       rw [hex,hv,hvn,Y1g,Y31 w t ad l.length cap k n hu',Y5 hb,hel,Zj hi]; rfl,?_⟩
      rw [ZR _ _ (hs (by rintro rfl; simp at hlt))];refine .cp _ _ (fun j=>cs n.toNat j) rfl (fun j hj=>?_) (fun j hj=>?_)
      . have := hFc n.toNat j hlt (by omega);simpa [Y1H] using this
      . exact hR n.toNat j hlt (by omega)
  . simp only [Y2s] at hc;obtain⟨_,_,rfl⟩:=hc;simp [X1u] at hq
  . cases hc
 case h_25 c ho =>
  split at hc
  . cases hc; simp [X1u] at hq
  . rename_i hcal
    split at hc
    case h_2=>simp at hc
    rename_i t x ht hx;have ha:c.args = #[x]:=X3Y hx;have hat:c.argTypes = #[t]:=X3Y ht;have hex:execOp a.eval o=(do pure (.value (<- Builtin.len_ #[t] o.type #[a.eval x]))):=by simp [execOp,ho,resolve,hcal,invoke,builtin,ha,hat]
    split at hc
    . rename_i el hu;cases hc;simp only [X1u] at hq
      split at hq
      case h_2=>cases hq
      rename_i l full hxl;cases hq;rcases (s.eval hF hxl).vec_inv with⟨rfl,hv⟩|⟨ad,cap,esz,cs,hv,_⟩
      . exact⟨.int .i64 0,by rw [hex]; simp [Builtin.len_,Yy hu,hv,goInt],.val _⟩
      . exact⟨.int .i64 l.length,by rw [hex]; simp [Builtin.len_,Yy hu,hv,goInt],.val _⟩
    all_goals ((repeat' (split at hc))<;>first
    | (cases hc; done)
    | (cases hc; simp [X1u] at hq; done)
    | (simp at hc; done)
    | (simp only [Y2s] at hc; obtain⟨_,_,rfl⟩:=hc; simp [X1u] at hq; done))
  all_goals ((repeat' (split at hc))<;>first
   | (cases hc; done)
   | (cases hc; simp [X1u] at hq; done)
   | (simp at hc; done)
   | (simp only [Y2s] at hc; obtain⟨_,_,rfl⟩:=hc; simp [X1u] at hq; done))
 all_goals ((repeat' (split at hc))<;>first
  | (cases hc; done)
  | (cases hc; simp [X1u] at hq; done)
  | (simp at hc; done)
  | (simp only [Y2s] at hc; obtain⟨_,_,rfl⟩:=hc; simp [X1u] at hq; done))
end
structure JC (α:Type) where
 FN:Fence
 m:Nat
 nt:Nat
 F:XE
 B:Nat
 K:Bool->List α->World->Prop
 l:Nat
 N:Nat
 encs:α->List Value
 Sp:List α->Prop
structure JC.Ok {α:Type} (Y:JC α) (P:Program):Prop where
 fence:XB Y.FN Y.m
 round:Y.FN.round=none
 grow:∀ b pre W W',Y.K b pre W->W.grownBy W' none->Y.K b pre W'
 yield:∀ pre x W,Y.K true pre W->pre.length<Y.N->YieldAt Y.FN (Y.m-1) P Y.l (Y.encs x).toArray W fun e W' =>
  (e=.returned (.bool true)/\Y.K true (pre ++ [x]) W'/\KpF Y.F W W') \/ (e=.returned (.bool false)/\Y.K false (pre ++ [x]) W')
section
variable {α:Type} {P:Program} {Y:JC α}
def JSt (Y:JC α) (b:Bool) (pre:List α) (e:Env) (a:Act) (w:World):Prop:=X2D Y.nt Y.F e a/\Holds Y.F w/\Y.K b pre w
def X4a (Y:JC α) (Q:Exit->List α->Env->Prop) (x:Exit) (a:Act) (w:World):Prop:=(∃ pre e,Q x pre e/\JSt Y true pre e a w) \/ (x=.ret/\∃ pre,Y.Sp pre/\Y.K false pre w/\a.defers = [])
def jw (P:Program) (Y:JC α) (ac:X2) (Q:Exit->List α->Env->Prop) (pre:List α) (e:Env):Prop :=
 Y.Ok P->∀ c,Xo P Y.nt c=some ac->∀ a w,JSt Y true pre e a w->c.wpIn Y.FN Y.m P (X4a Y Q) a w
def X5W (next:List α->Env->Prop) (Q:Exit->List α->Env->Prop):Exit->List α->Env->Prop
 | .normal=>next
 | x=>Q x
def X59 (id:Nat) (Q:Exit->List α->Env->Prop):Exit->List α->Env->Prop
 | .exit id'=>bif Nat.beq id' id then Q .normal else Q (.exit id')
 | x=>Q x
variable {Q:Exit->List α->Env->Prop} {pre:List α} {e:Env}
theorem Z4w (hk:Q .normal pre e):jw P Y .skip Q pre e:=by
 intro hY c hc a w hs;have:c=.skip:=by
  unfold Xo at hc
  split at hc<;>first|rfl|(simp at hc; done)|((repeat' (split at hc))<;>simp at hc)
 subst this;exact wpIn_skip (.inl ⟨pre,e,hk,hs⟩)
theorem Z5s {id:Nat} (hk:Q (.exit id) pre e):jw P Y (.exit id) Q pre e:=by
 intro hY c hc a w hs;have:c=.exit id:=by
  unfold Xo at hc
  split at hc<;>first|(simp at hc; subst hc; rfl)|(simp at hc; done)|((repeat' (split at hc))<;>simp at hc)
 subst this;exact wpIn_exit (.inl ⟨pre,e,hk,hs⟩)
theorem Z7O (hk:Q .ret pre e):jw P Y .ret Q pre e:=by
 intro hY c hc a w hs;have:c=.ret:=by
  unfold Xo at hc
  split at hc<;>first|rfl|(simp at hc; done)|((repeat' (split at hc))<;>simp at hc)
 subst this;exact wpIn_ret (.inl ⟨pre,e,hk,hs⟩)
theorem Z4V {x y:X2} (hk:jw P Y x (X5W (jw P Y y Q) Q) pre e):jw P Y (.seq x y) Q pre e:=by
 intro hY c hc a w hs;have:∃ c1 c2,c=.seq c1 c2/\Xo P Y.nt c1=some x/\Xo P Y.nt c2=some y:=by
  unfold Xo at hc
  split at hc<;>first
   | (split at hc<;>first|(simp at hc; obtain⟨rfl,rfl⟩:=hc; exact⟨_,_,rfl,by assumption,by assumption⟩)|(simp at hc; done)|((repeat' (split at hc))<;>simp at hc; done))
   | (simp at hc; done)
 obtain⟨c1,c2,rfl,h1,h2⟩:=this;refine wpIn_seq (Y2w (hk hY c1 h1 a w hs) fun x a w hp=>?_);rcases hp with⟨pre,e,hQ,hS⟩|⟨rfl,hS⟩
 . cases x with
   | normal=>exact hQ hY c2 h2 a w hS
   | _=>exact .inl ⟨pre,e,hQ,hS⟩
 . exact .inr ⟨rfl,hS⟩
theorem Z26 {c:Operand} {x y:X2} {b:Bool} (hc:ev e c=some (.val (.bool b))) (ht:b=true->jw P Y x Q pre e) (hf:b=false->jw P Y y Q pre e):jw P Y (.cond c x y) Q pre e:=by
 intro hY cc hcc a w hs;have:∃ c1 c2,cc=.cond c c1 c2/\Xo P Y.nt c1=some x/\Xo P Y.nt c2=some y:=by
  unfold Xo at hcc
  split at hcc<;>first
   | (split at hcc<;>first|(simp at hcc; obtain⟨rfl,rfl,rfl⟩:=hcc; exact⟨_,_,rfl,by assumption,by assumption⟩)|(simp at hcc; done)|((repeat' (split at hcc))<;>simp at hcc; done))
   | (simp at hcc; done)
 obtain⟨c1,c2,rfl,h1,h2⟩:=this;refine Y3M (hs.1.eval hs.2.1 hc).val_inv (fun hb=>ht hb hY c1 h1 a w hs) (fun hb=>hf hb hY c2 h2 a w hs)
theorem Z3m {id:Nat} {x:X2} (hk:jw P Y x (X59 id Q) pre e):jw P Y (.block id x) Q pre e:=by
 intro hY c hc a w hs;have:∃ c1,c=.block id c1/\Xo P Y.nt c1=some x:=by
  unfold Xo at hc
  split at hc<;>first
   | (split at hc<;>first|(simp at hc; obtain⟨rfl,rfl⟩:=hc; exact⟨_,rfl,by assumption⟩)|(simp at hc; done)|((repeat' (split at hc))<;>simp at hc; done))
   | (simp at hc; done)
 obtain⟨c1,rfl,h1⟩:=this;refine wpIn_block (Y2w (hk hY c1 h1 a w hs) fun x a w hp=>?_);rcases hp with⟨pre,e,hQ,hS⟩|⟨rfl,hS⟩
 . cases x with
   | exit id' =>
     simp only [X59] at hQ;simp only [Exit.inBlock];by_cases hid:id'=id
     . subst hid;have hb:Nat.beq id' id'=true:=by simp
       rw [hb] at hQ;rw [Y5 rfl];exact .inl ⟨pre,e,hQ,hS⟩
     . have hb : Nat.beq id' id = false := YB.2 fun hb => hid (YK hb);rw [hb] at hQ;rw [Y6 hid];exact .inl ⟨pre,e,hQ,hS⟩
   | _=>exact .inl ⟨pre,e,hQ,hS⟩
 . exact .inr ⟨rfl,hS⟩
theorem Zfp {L:List (Nat×PV)} {b:Bool} (he:X2X e L) {a:Act} {w:World} (hs:JSt Y b pre e a w):JSt Y b pre (X1x L) a w:=⟨⟨hs.1.sz,hs.1.nd,fun k p hk=>hs.1.env k p (he.some hk)⟩,hs.2⟩
theorem Zbk {X:Type} (I:X->Prop) (μ:X->Nat) (R:X->List α) (L:X->List (Nat×PV)) {body:X2} (x0:X) (h0:I x0) (hR:R x0=pre) (hL:X2X e (L x0))
 (round:∀ x,I x->jw P Y body (X5W (fun pre' e'=>∃ x',I x'/\μ x'<μ x/\R x'=pre'/\X2X e' (L x')) Q) (R x) (X1x (L x))):jw P Y (.loop body) Q pre e:=by
 intro hY c hc a w hs;have:∃ c1,c=.loop c1/\Xo P Y.nt c1=some body:=by
  unfold Xo at hc
  split at hc<;>first
   | (split at hc<;>first|(simp at hc; subst hc; exact⟨_,rfl,by assumption⟩)|(simp at hc; done)|((repeat' (split at hc))<;>simp at hc; done))
   | (simp at hc; done)
 obtain⟨c1,rfl,h1⟩:=this
 let p:Act->World->Nat->Prop:=fun a w k=>∃ x,I x/\μ x=k/\JSt Y true (R x) (X1x (L x)) a w
 refine wpIn_loop (fun a w=>∃ k,p a w k) (fun a w=>least (p a w)) ⟨_,x0,h0,rfl,by rw [hR]; exact Zfp hL hs⟩ ?_;rintro a w ⟨k,hk⟩;obtain⟨⟨x,hx,hxk,hst⟩,_⟩:=Z45 hk;refine Y2w (round x hx hY c1 h1 a w hst) fun ex a' w' hp=>?_;rcases hp with⟨pre',e',hQ,hS⟩|⟨rfl,hS⟩
 . cases ex with
   | normal =>
     obtain⟨x',hx',hlt,rfl,hE⟩:=hQ;have hp':p a' w' (μ x'):=⟨x',hx',rfl,Zfp hE hS⟩
     refine⟨⟨_,hp'⟩,?_⟩;have:=(Z45 hp').2;omega
   | _=>exact .inl ⟨pre',e',hQ,hS⟩
 . exact .inr ⟨rfl,hS⟩
def X4n (P:Program) (Y:JC α):List Xm->List α->Env->(List α->Env->Prop)->Prop
 | [],pre,e,K=>K pre e
 | o :: os, pre, e, K => o.guard = none /\ ((∃ p, X1u o.op e = some p /\ X4n P Y os pre (Xu e o.dst p) K) \/
     (∃ f args g caps as0 v,o.op=.call f args/\ev e f=some (.fn g caps)/\evs e args=some as0/\X6 (as0++caps)/\X7 P g (as0++caps) (· = .val v)/\X4n P Y os pre (Xu e o.dst (.val v)) K))
theorem Z24 {os:List Xm} {d:Option Nat} {op:AOp} {p:PV} {K:List α->Env->Prop} (hq:X1u op e=some p) (hk:X4n P Y os pre (Xu e d p) K):X4n P Y (⟨d,op,none⟩ :: os) pre e K:=⟨rfl,.inl ⟨p,hq,hk⟩⟩
theorem Zfq {os:List Xm} {d:Option Nat} {f:Operand} {args:List Operand} {g:FuncId} {caps as0 args':List PV} {v:Value} {K:List α->Env->Prop} (hs:X7 P g args' (· = .val v)) (hf:ev e f=some (.fn g caps)) (ha:evs e args=some as0) (hr:as0++caps=args') (hp:X6 args') (hk:X4n P Y os pre (Xu e d (.val v)) K):X4n P Y (⟨d,.call f args,none⟩ :: os) pre e K:=by
 subst hr;exact⟨rfl,.inr ⟨f,args,g,caps,as0,v,rfl,hf,ha,hp,hs,hk⟩⟩
theorem Z1X {K:List α->Env->Prop} (hk:K pre e):X4n P Y [] pre e K:=hk
theorem Below.grownN {A B:World} (h:Below A.heap.size A B):A.grownBy B none:=⟨h.os,h.tape,h.output,h.size,fun j hj _=>h.block j hj⟩
theorem ZdU {b:Bool} {a:Act} {w:World} (hs:JSt Y b pre e a w) {f:Operand} {args:Array Operand} {g:Nat} {caps as0:List PV} (hf:ev e f=some (.fn g caps)) (has:evs e args.toList=some as0):∃ vs,a.eval f=.func (.func g) #[] vs/\X1B Y.F XA (args.map a.eval++vs) (as0++caps):=by
 let C:Ctx:=⟨w,fun _=>False,Y.F,Y.nt,fun _=>none⟩
 have s0:St' C (fun _=>True) e (fun _=>none) Y.F XA a w:=by
  refine { nt := hs.1.sz, glob := hs.2.1.2, marks := X1q.nil hs.1.nd, loc0 := fun i x hx => (by cases hx), free := fun _ _ => rfl, env := hs.1.env, froz := hs.2.1.1, ext := fun _ _ h => h, old := fun _ _ _ => rfl, os := rfl, tape := rfl, output := rfl, size := Y0m _, kept := fun _ _ _ => rfl,
           live:=fun id b hb=>(by cases hb),sep:=fun i j bi bj li lj k hi=>(by cases hi) }
 exact Z44 s0 hf has
theorem Z7P (hY:Y.Ok P) {ops:Array Oper} {K:List α->Env->Prop}:∀ {l:List Oper} {al:List Xm},XI P Y.nt ops l=some al->∀ {pre:List α} {e:Env} {a:Act} {w:World},JSt Y true pre e a w->X4n P Y al pre e K ->
 ∀ {QQ:Exit->Act->World->Prop},(∀ pre e a w,K pre e->JSt Y true pre e a w->QQ .normal a w)->wpListIn Y.FN Y.m P ops QQ l a w:=by
 intro l
 induction l with
 | nil =>
   intro al hc pre e a w hs hk QQ hQ;obtain rfl : []=al:=by simpa [XI] using hc
   exact hQ pre e a w hk hs
 | cons o r ih =>
   intro al hc pre e a w hs hk QQ hQ;simp only [XI] at hc
   split at hc
   case h_2=>simp at hc
   rename_i ao al' ho hl;obtain rfl:ao :: al'=al:=by simpa using hc
   unfold X2l at ho
   split at ho
   case h_2=>simp at ho
   rename_i op g hop hg
   split at ho
   case isFalse=>simp at ho
   rename_i hdst;cases ho;simp only [X4n] at hk;obtain⟨hgn,hk⟩:=hk;subst hgn;have hgo:o.guard=none:=by
    unfold X38 at hg
    split at hg
    . assumption
    . split at hg
      . split at hg
        . cases hg
        . cases hg
      . cases hg
   simp only [wpListIn];rw [Y5 (by simp [Region.wanted,hgo])];refine⟨fun f _=>hY.fence.fn f,?_⟩;rw [Y2k Y.FN.round a.eval o (Z1U hop)];rcases hk with⟨p,hq,hk⟩|⟨f,args,g,caps,as0,v,hop',hf,has,hp,hsp,hk⟩
   . obtain ⟨val, hr, hrep⟩ := Zbj hop hs.1 hs.2.1 hq;rw [hr];exact ih hl ⟨hs.1.putO hdst hrep,hs.2⟩ hk hQ
   . subst hop';obtain⟨⟨fn,hfn,hname,hbody⟩,hspec⟩:=hsp;obtain⟨c,hoc,hcal,hargs⟩:=Z3h hop;subst hargs;obtain⟨vs,hvf,hrep⟩:=ZdU hs hf has;have hrun:(execOp a.eval o).run P w=.ok (.enter g (c.args.map a.eval++vs)) w:=by
      have h1 : ¬ fn.name = "runtime.NumGoroutine" := by simpa using hname
      have h2:¬ fn.body=none:=fun h=>by rw [h] at hbody; simp at hbody
      simp [execOp,hoc,resolve,hcal,hvf,Deferred.ofValue,invoke,callFunc,hfn,h1,h2]
     rw [hrun];refine⟨fun hd=>by rw [hY.fence.depth] at hd; simp at hd,hY.fence.calls _ _ _ _ _ ((hspec Y.F w _ hs.2.1 hrep).mono ?_)⟩;rintro en w' ⟨v',r',F',rfl,rfl,hvr,hbel,hF',hext,hold⟩;obtain rfl:v'=v:=hvr.val_inv;refine ih hl ⟨hs.1.putO hdst (.val _),⟨fun x u hx=>⟨(hs.2.1.1 x u hx).1,(hs.2.1.1 x u hx).2.1,(hF'.1 x u (hext x u hx)).2.2⟩,hs.2.1.2⟩,hY.grow _ _ _ _ hs.2.2 (Below.grownN hbel)⟩ hk hQ
theorem Z7Q {al:List Xm} {c:Code} (h:Xo P Y.nt c=some (.region al)):∃ id ops,c=.region id ops false/\XI P Y.nt ops ops.toList=some al:=by
 unfold Xo at h
 split at h<;>first
  | (simp at h; done)
  | (split at h
     . split at h
       . simp at h; subst h; exact⟨_,_,rfl,by assumption⟩
       . split at h<;>simp at h
     . simp at h)
  | (split at h<;>simp at h; done)
  | ((repeat' (split at h))<;>simp at h; done)
theorem Z2h {al:List Xm} (hk:X4n P Y al pre e (fun pre e=>Q .normal pre e)):jw P Y (.region al) Q pre e:=by
 intro hY c hc a w hs;obtain⟨id,ops,rfl,h1⟩:=Z7Q hc;exact Y3E (Z7P hY h1 hs hk fun pre e a w hK hS=>.inl ⟨pre,e,hK,hS⟩)
theorem Z8G (ops:Array Oper) {l:List Oper}:∀ {al bl:List Xm},XI P Y.nt ops l=some (al++bl)->∃ l1 l2,l=l1++l2/\XI P Y.nt ops l1=some al/\XI P Y.nt ops l2=some bl:=by
 induction l with
 | nil =>
   intro al bl h;simp [XI] at h;obtain⟨rfl,rfl⟩:=h;exact⟨[],[],rfl,rfl,rfl⟩
 | cons o r ih =>
   intro al bl h;cases al with
   | nil=>exact⟨[],o :: r,rfl,rfl,h⟩
   | cons x al =>
     simp only [XI] at h
     split at h
     case h_2=>cases h
     rename_i a' l' h1 h2;simp at h;obtain⟨rfl,rfl⟩:=h;obtain⟨l1,l2,rfl,g1,g2⟩:=ih h2;exact⟨o :: l1,l2,rfl,by simp [XI,h1,g1],g2⟩
theorem ZY {FN:Fence} {m:Nat} {ops:Array Oper} {QQ:Exit->Act->World->Prop}:∀ {l1 l2:List Oper} {a:Act} {w:World},wpListIn FN m P ops (fun x a w=>match x with | .normal=>wpListIn FN m P ops QQ l2 a w|x=>QQ x a w) l1 a w->wpListIn FN m P ops QQ (l1++l2) a w
 | [],l2,a,w,h=>h
 | o :: r, l2, a, w, h => by
   simp only [wpListIn,Y4m] at h ⊢
   split
   . rename_i hw;rw [Y5 hw] at h;obtain⟨h1,h2⟩:=h;refine⟨h1,?_⟩;unfold Oper.uponIn at h2 ⊢
     split at h2
     . exact ZY h2
     . exact ZY h2
     . exact ZY h2
     . refine ⟨h2.1, h2.2.mono fun en w' hh => ?_⟩;cases en with
       | returned v=>exact ZY hh
       | panicked chain=>exact hh
       | outgrown=>exact hh
     . exact⟨h2.1,h2.2.mono fun v w' hh=>ZY hh⟩
     . refine ⟨h2.1, h2.2.mono fun en w' hh => ?_⟩;cases en with
       | returned v=>exact ZY hh
       | panicked chain=>exact hh
       | outgrown=>exact hh
     . exact h2
     . exact h2
   . rename_i hw;rw [Y6 hw] at h;exact⟨h.1,ZY h.2⟩
theorem Zhm (x:α) {al:List Xm} {d1 d2:Nat} {f:Operand} {args:List Operand} (hk:X4n P Y al pre e (fun pre' e'=>pre'=pre/\ev e' f=some (.val (.func (.yield Y.l) #[] #[]))/\evs e' args=some ((Y.encs x).map .val)/\pre.length<Y.N/\Y.Sp (pre ++ [x])/\Q .normal (pre ++ [x]) ((e'.upd d1 (.val (.bool true))).upd d2 (.val (.bool false))))) :
 jw P Y (.seq (.region (al ++ [⟨some d1,.call f args,none⟩,⟨some d2,.una .not (.tmp d1),none⟩])) (.cond (.tmp d2) .ret .skip)) Q pre e:=by
 intro hY c hc a w hs;have:∃ c1 c2,c=.seq c1 c2/\Xo P Y.nt c1=some (.region (al ++ [⟨some d1,.call f args,none⟩,⟨some d2,.una .not (.tmp d1),none⟩]))/\Xo P Y.nt c2=some (.cond (.tmp d2) .ret .skip):=by
  unfold Xo at hc
  split at hc<;>first
   | (split at hc<;>first|(simp at hc; obtain⟨rfl,rfl⟩:=hc; exact⟨_,_,rfl,by assumption,by assumption⟩)|(simp at hc; done)|((repeat' (split at hc))<;>simp at hc; done))
   | (simp at hc; done)
 obtain⟨c1,c2,rfl,h1,h2⟩:=this;have:∃ k1 k2,c2=.cond (.tmp d2) k1 k2/\Xo P Y.nt k1=some .ret/\Xo P Y.nt k2=some .skip:=by
  unfold Xo at h2
  split at h2<;>first
   | (split at h2<;>first|(simp at h2; obtain⟨rfl,rfl,rfl⟩:=h2; exact⟨_,_,rfl,by assumption,by assumption⟩)|(simp at h2; done)|((repeat' (split at h2))<;>simp at h2; done))
   | (simp at h2; done)
 obtain⟨k1,k2,rfl,g1,g2⟩:=this;have hk1:k1=.ret:=by
  unfold Xo at g1
  split at g1<;>first|rfl|(simp at g1; done)|((repeat' (split at g1))<;>simp at g1)
 have hk2:k2=.skip:=by
  unfold Xo at g2
  split at g2<;>first|rfl|(simp at g2; done)|((repeat' (split at g2))<;>simp at g2)
 subst hk1;subst hk2;obtain⟨id,ops,rfl,hops⟩:=Z7Q h1;obtain⟨l1,l2,hl,ho1,ho2⟩:=Z8G ops hops;refine wpIn_seq (Y3E ?_);rw [hl];refine ZY (Z7P hY ho1 hs hk fun pre' e' a' w' hK hS=>?_);obtain⟨rfl,hf,has,hlen,hSp,hQ⟩:=hK;cases l2 with
 | nil=>simp [XI] at ho2
 | cons o r =>
   simp only [XI] at ho2
   split at ho2
   case h_2=>cases ho2
   rename_i ao al' ho hl2;simp at ho2;obtain⟨rfl,rfl⟩:=ho2;cases r with
   | nil=>simp [XI] at hl2
   | cons o2 r2 =>
     simp only [XI] at hl2
     split at hl2
     case h_2=>cases hl2
     rename_i ao2 al2 hoo2 hl3;simp at hl2;obtain⟨rfl,rfl⟩:=hl2;have hr2:r2 = []:=by
      cases r2 with
      | nil=>rfl
      | cons x y=>simp only [XI] at hl3; split at hl3<;>simp at hl3
     subst hr2;have dst:∀ {oo:Oper} {d:Nat} {op:AOp},X2l P Y.nt ops oo=some ⟨some d,op,none⟩->oo.dst=some d/\d<Y.nt/\oo.guard=none/\cOp P oo=some op:=by
      intro oo d op h;unfold X2l at h
      split at h
      case h_2=>simp at h
      rename_i op' g hop hg
      split at h
      case isFalse=>simp at h
      rename_i hd;simp at h;obtain⟨hd1,rfl,rfl⟩:=h;refine⟨hd1,by rw [hd1] at hd; simpa [X2z] using hd,?_,hop⟩;unfold X38 at hg
      split at hg
      . assumption
      . split at hg
        . split at hg
          . cases hg
          . cases hg
        . cases hg
     obtain⟨hd1,hlt1,hgd1,hop1⟩:=dst ho;obtain⟨hd2,hlt2,hgd2,hop2⟩:=dst hoo2;obtain⟨cc,hoc,hcal,hargs⟩:=Z3h hop1;have hun:∃ uop t,o2.op=.unOp uop t (.tmp d1)/\uop=.not:=by
      unfold cOp at hop2
      split at hop2<;>first
       | (rename_i uop t x' ho'; simp at hop2; obtain⟨rfl,rfl⟩:=hop2; exact⟨_,_,ho',rfl⟩)
       | (simp at hop2; done)
       | ((repeat' (split at hop2))<;>simp at hop2; done)
     obtain⟨_,ut,hu2,rfl⟩:=hun;have hvf:=(hS.1.eval hS.2.1 hf).val_inv;have hvs:cc.args.map a'.eval=(Y.encs x).toArray:=by
      have hev:∀ {xs:List Operand} {vs:List Value},evs e' xs=some (vs.map .val)->xs.map a'.eval=vs:=by
       intro xs
       induction xs with
       | nil => intro vs h; cases vs with
         | nil=>rfl
         | cons _ _=>simp [evs] at h
       | cons y ys ih =>
         intro vs h;simp only [evs] at h
         split at h
         case h_2=>cases h
         rename_i p l hp hl;cases vs with
         | nil=>simp at h
         | cons v vs =>
           simp at h;obtain⟨rfl,rfl⟩:=h;simp only [Y29];rw [(hS.1.eval hS.2.1 hp).val_inv,ih hl]
      have h0:=hev (xs:=cc.args.toList) (by rw [hargs]; exact has);apply Y4E;simpa using h0
     obtain⟨fn,tmps,assign,body,hyr,hR⟩:=hY.yield pre' x w' hS.2.2 hlen;have hrun:(execOp a'.eval o).run P w'=.ok (.round Y.l fn tmps assign body) w':=by
      have:execOp a'.eval o=Instr.yield Y.l (cc.args.map a'.eval):=by
       simp [execOp,hoc,resolve,hcal,hvf,Deferred.ofValue,invoke]
      rw [this,hvs];exact hyr
     simp only [wpListIn];rw [Y5 (by simp [Region.wanted,hgd1])];refine⟨fun f _=>hY.fence.fn f,?_⟩;rw [Y2k Y.FN.round a'.eval o (Z1U hop1),hrun];refine⟨fun hd=>by rw [hY.fence.depth] at hd; simp at hd,hR.mono ?_⟩;have step:∀ (bb:Bool) (w3:World),(wpListIn Y.FN Y.m P ops (Exit.then ((Code.cond (.tmp d2) .ret .skip).wpIn Y.FN Y.m P (X4a Y Q)) (X4a Y Q)) [] ((a'.put (some d1) (.bool bb)).put (some d2) (.bool (!bb))) w3) ->
      wpListIn Y.FN Y.m P ops (Exit.then ((Code.cond (.tmp d2) .ret .skip).wpIn Y.FN Y.m P (X4a Y Q)) (X4a Y Q)) [o2] (a'.put o.dst (.bool bb)) w3:=by
      intro bb w3 h3;simp only [wpListIn];rw [Y5 (by simp [Region.wanted,hgd2])];refine⟨fun f _=>hY.fence.fn f,?_⟩;have hv1:(a'.put o.dst (.bool bb)).eval (.tmp d1)=.bool bb:=by
       rw [hd1];show (a'.tmps.setIfInBounds d1 (.bool bb)).getD d1 undef=.bool bb;rw [Z16 _ _ _ _ (by rw [hS.1.sz]; exact hlt1)];simp
      have hex:(execOp (a'.put o.dst (.bool bb)).eval o2).run P w3=.ok (.value (.bool (!bb))) w3:=by
       simp only [execOp,hu2,hv1];cases bb<;>simp [Op.unary]
      rw [Y2k Y.FN.round _ o2 (Z1U hop2),hex];simp only [Oper.uponIn];rw [hd2];rw [hd1];exact h3
     have ev2:∀ bb:Bool,((a'.put (some d1) (.bool bb)).put (some d2) (.bool (!bb))).eval (.tmp d2)=.bool (!bb):=by
      intro bb;show ((a'.tmps.setIfInBounds d1 (.bool bb)).setIfInBounds d2 (.bool (!bb))).getD d2 undef=.bool (!bb);rw [Z16 _ _ _ _ (by simp [hS.1.sz]; exact hlt2)];simp
     rintro en w3 (⟨rfl,hK,hkp⟩|⟨rfl,hK⟩)
     . refine step true w3 (Y3M (t := false) (ev2 true) (fun h => by cases h) fun _ => wpIn_skip (.inl ⟨_, _, hQ, ?_, ?_, hK⟩))
       . exact (hS.1.put hlt1 (.val _)).put hlt2 (.val _)
       . exact⟨fun y u hy=>⟨(hS.2.1.1 y u hy).1,(hS.2.1.1 y u hy).2.1,hkp.1 y u hy (hS.2.1.1 y u hy).2.2⟩,hS.2.1.2⟩
     . exact step false w3 (Y3M (t:=true) (ev2 false) (fun _=>wpIn_ret (.inr ⟨rfl,_,hSp,hK,hS.1.nd⟩)) fun h=>by cases h)
theorem ZdV {f nt:Nat} {ac:X2} (hf:X43 P f nt ac []) {caps:List PV} {encs:α->List Value} {S Sp:List α->Prop} {M:Nat} (hn:caps.length+1<=nt)
 (hk:∀ Y:JC α,Y.N=M->Y.encs=encs->Y.Sp=Sp->Y.nt=nt->jw P Y ac (fun x pre _=>(x=.normal \/ x=.ret)/\S pre) [] (XS (.val (.func (.yield Y.l) #[] #[]) :: caps))):X45 P f caps encs S Sp M:=by
 obtain⟨hm,fn,c,hfn,hname,hb,rfl,hc,hr⟩:=hf;refine⟨⟨fn,hfn,hname,by rw [hb]; rfl⟩,fun F w lb FN m hok hF hrep=>?_⟩;intro l J Jx W hbel hJ hJx hyield h0;have hres:fn.results = #[]:=by
  cases hl:fn.results.toList with
  | nil=>simpa using hl
  | cons r rs =>
    rw [hl] at hr;simp only [X2S] at hr
    split at hr<;>simp at hr
 show CallsIn FN.plain m P f _ W _;refine callsIn_of_wp hfn hb (hok.fn f) ?_ rfl
 let Y:JC α:=⟨FN.plain,m,fn.ntmps,F,W.heap.size,fun b pre W'=>if b=true then J pre W' else Jx pre W',l,M,encs,Sp⟩
 have hY:Y.Ok P:=by
  refine⟨⟨hok.fn,hok.depth,fun P f args w R h=>hok.calls P f args w R h⟩,rfl,?_,?_⟩
  . intro b pre W1 W2 hK hg;cases b with
    | true=>exact hJ pre W1 W2 none hK hg (fun r hr=>by cases hr)
    | false=>exact hJx pre W1 W2 none hK hg (fun r hr=>by cases hr)
  . intro pre x W1 hK hlen;obtain⟨fn',tmps,assign,body,h1,h2⟩:=hyield pre x W1 hK hlen;refine⟨fn',tmps,assign,body,h1,?_⟩;have h2':=h2.mono (R':=fun e W'=>(e=.returned (.bool true)/\Y.K true (pre ++ [x]) W'/\KpF Y.F W1 W') \/ (e=.returned (.bool false)/\Y.K false (pre ++ [x]) W')) (fun en W' h=>h);exact h2'
 have hsz:lb.size=caps.length:=hrep.1
 have hFW:Holds F W:=⟨fun x v hx=>by
  obtain⟨g1,g2,g3⟩:=hF.1 x v hx
  exact⟨g1,g2,by rw [Y2E (w:=w) (hbel.block x.block (Y3F g3))]; exact g3⟩,hF.2⟩
 have hS:JSt Y true [] (XS (.val (.func (.yield l) #[] #[]) :: caps)) { tmps:=(#[.func (.yield l) #[] #[]]++lb)++Array.replicate (fn.ntmps-(#[Value.func (.yield l) #[] #[]]++lb).size) undef,defers := [] } W:=by
  refine⟨⟨by simp [Y]; omega,rfl,fun k p hp=>?_⟩,hFW,h0⟩;have hk:k<caps.length+1:=by have:=(Y7.1 hp).1; simpa using this
  refine⟨by simp only [Y]; omega,?_⟩;cases k with
  | zero =>
    simp [XS] at hp;subst hp;have e0:((#[Value.func (.yield l) #[] #[]]++lb)++Array.replicate (fn.ntmps-(#[Value.func (.yield l) #[] #[]]++lb).size) undef).getD 0 undef=.func (.yield l) #[] #[]:=by
     simp only [Y0d];rw [YS (by simp;omega),YS (by simp)]
     rfl
    show Rep F XA (((#[Value.func (.yield l) #[] #[]]++lb)++Array.replicate (fn.ntmps-(#[Value.func (.yield l) #[] #[]]++lb).size) undef).getD 0 undef) _;rw [e0];exact .val _
  | succ k =>
    have hk':k<caps.length:=by omega
    have e1:((#[Value.func (.yield l) #[] #[]]++lb)++Array.replicate (fn.ntmps-(#[Value.func (.yield l) #[] #[]]++lb).size) undef).getD (k+1) undef=lb.getD k undef:=by
     simp only [Y0d];rw [YS (by simp;omega),Y1o (by simp)];simp
    have e2:caps.getD k pvu=p:=by
     have hp':caps[k]?=some p:=by simpa [XS] using hp
     rw [Y0b,hp']; rfl
    rw [e1,<- e2];exact hrep.2 k hk'
 refine Y2w (hk Y rfl rfl rfl rfl hY c hc _ W hS) fun x a' w' hp=>?_;have hres':∀ tmps,(results fn tmps).run P w'=.ok (.tuple #[]) w':=fun tmps=>by simp [results,hres]
 rcases hp with⟨pre,e,⟨hx,hSp⟩,hS'⟩|⟨rfl,pre,hsp,hK,hd⟩
 . have fin : a'.defers = [] /\ ∃ v, (results fn a'.tmps).run P w' = .ok v w' /\ ((∃ v', Ending.returned v = Ending.returned v') /\ ((∃ xs, S xs /\ J xs w') \/ ∃ pre, Sp pre /\ Jx pre w')) :=
    ⟨hS'.1.nd,_,hres' _,⟨_,rfl⟩,.inl ⟨pre,hSp,hS'.2.2⟩⟩
   rcases hx with rfl|rfl
   . exact fin
   . exact fin
 . exact⟨hd,_,hres' _,⟨_,rfl⟩,.inr ⟨pre,hsp,hK⟩⟩
end
end
section
open Go.RowKit
attribute [local irreducible] aw Xj dK
theorem Z1Y:XC 0=.agg [.vec [] false]:=by rw [XC,ZL]; rfl
theorem Z4W {N:Nat} (h:N<18446744073709551616) (h0:N≠0):X9 N = [N]:=by
 rw [Z49 h0,Y1k h,Y1V h,ZL]
theorem Z3n {N:Nat} (h:N<18446744073709551616) (h0:N≠0):XC N=.agg [.vec [[.val (.int .u64 (N:Int))]] false]:=by rw [XC,Z4W h h0]; rfl
theorem XW {a b:Bool} (h:a=b):PV.val (.bool a)=PV.val (.bool b):=by rw [h]
theorem Z18 {N:Nat} (h:N<18446744073709551616):(N=0/\XC N=.agg [.vec [] false]) \/ (N≠0/\XC N=.agg [.vec [[.val (.int .u64 (N:Int))]] false]):=by
 by_cases h0:N=0
 . subst h0; exact .inl ⟨rfl,Z1Y⟩
 . exact .inr ⟨h0,Z3n h h0⟩
def Xd (a b:Nat):Nat:=a &&& (18446744073709551615-b)
theorem ZF {a b:Nat} (ha:a<18446744073709551616) (hb:b<18446744073709551616) (i:Nat):(Xd a b).testBit i=(a.testBit i && !b.testBit i):=by
 have h:=Y3f (n:=64) hb i;have e:(2:Nat) ^ 64-(b+1)=18446744073709551615-b:=by omega
 rw [e] at h;rw [Xd,Y0z,h];by_cases hi:i<64
 . simp [hi]
 . have : a.testBit i = false := Y25 (YH ha (YY (n := 2) (by omega) (show 64 <= i by omega)));simp [this]
theorem Z4X {a b:Nat} (ha:a<18446744073709551616):Xd a b<18446744073709551616:=Y02 Y1r ha
theorem Z1l (a b:Nat) (ha:a<18446744073709551616) (hb:b<18446744073709551616):bits .andNot .u64 (a:Int) (b:Int)=((Xd a b:Nat):Int):=by
 have hx:Xd a b<2 ^ 64:=Z4X ha;have h1:(BitVec.ofInt 64 (a:Int)).toNat=a:=by
  rw [Y1u,Y1U]; exact Y1k (by omega)
 have h2:(~~~(BitVec.ofInt 64 (b:Int))).toNat=18446744073709551615-b:=by
  rw [BitVec.toNat_not,Y1u,Y1U,Y1k (by omega)]
 show IntKind.u64.wrap ((BitVec.ofInt 64 (a:Int) &&& ~~~(BitVec.ofInt 64 (b:Int))).toNat:Int)=_;rw [Y3I,h1,h2,Y3b];show ((Xd a b:Nat):Int) % 18446744073709551616=_;omega
theorem Zbl {a b:Nat} (ha:a<18446744073709551616) (hb:b<18446744073709551616):Xd a b=0↔a ||| b=b:=by
 constructor
 . intro h;refine YC fun i=>?_;have:=congrArg (fun z=>Nat.testBit z i) h;simp only [ZF ha hb,Y1w] at this;rw [Y00];cases h1:a.testBit i<;>cases h2:b.testBit i<;>simp_all
 . intro h;refine YC fun i=>?_;have:=congrArg (fun z=>Nat.testBit z i) h;simp only [Y00] at this;rw [ZF ha hb,Y1w];cases h1:a.testBit i<;>cases h2:b.testBit i<;>simp_all
theorem Z4a (N M:Nat) (hN:N<18446744073709551616) (hM:M<18446744073709551616):X7 Tryz.prog 72 [XC N,XC M] (· = .val (.bool (decide (N &&& M≠0)))):=by
 have hand:=Y26 N M hN hM;rcases Z18 hN with⟨rfl,e1⟩|⟨h1,e1⟩<;>rcases Z18 hM with⟨rfl,e2⟩|⟨h2,e2⟩<;>rw [e1]<;>(try rw [e2])<;>clear e1 e2
 all_goals
  refine Yp ok72 fun C hC=>?_;refine Zn ?_;refine Za ?_;refine Z5 rfl rfl rfl ?_;refine Z5 rfl rfl rfl ?_;refine go ?_;refine Z17 1 ?_;(refine go ?_;repeat' (apply B<;>intro hb<;>try cases hb))
 . exact Z7 rfl Yt (XW (by simp))
 . exact Z7 rfl Yt (XW (by simp))
 . exact Z7 rfl Yt (XW (by simp))
 . refine Z7 rfl Yt (XW ?_);rw [hand] at hb;have h3:¬ ((N &&& M:Nat):Int)=0:=by simpa using hb
   have h4:N &&& M≠0:=by omega
   simp [h4]
 . refine Z7 rfl Yt (XW ?_);rw [hand] at hb;have h3:((N &&& M:Nat):Int)=0:=by simpa using hb
   have h4:N &&& M=0:=by omega
   simp [h4]
theorem Z1Q (N M:Nat) (hN:N<18446744073709551616) (hM:M<18446744073709551616):X7 Tryz.prog 132 [XC N,XC M] (· = .val (.bool (decide (N ||| M=M)))):=by
 have hand:=Z1l N M hN hM;have hz:=Zbl hN hM;rcases Z18 hN with⟨rfl,e1⟩|⟨h1,e1⟩<;>rcases Z18 hM with⟨rfl,e2⟩|⟨h2,e2⟩<;>rw [e1]<;>(try rw [e2])<;>clear e1 e2
 all_goals
  refine Yp ok132 fun C hC=>?_;refine Zn ?_;refine Za ?_;refine Z5 rfl rfl rfl ?_;refine Z5 rfl rfl rfl ?_;refine go ?_;refine Z17 1 ?_;refine go ?_
 . exact Z7 rfl Yt (XW (by simp))
 . exact Z7 rfl Yt (XW (by simp))
 . refine Qe (Z1d [] 0) ⟨⟨Yt, Yt⟩, Yt, Yt⟩ ?_;(refine go ?_;repeat' (apply B<;>intro hb<;>try cases hb))
   . exact Z7 rfl Yt (XW (by simp;omega))
   . have h3 : bits .andNot .u64 (N : Int) ((0 : Nat) : Int) = 0 := by simpa using hb
     rw [hand] at h3;exact absurd (hz.1 (by omega)) (by simp;omega)
 . refine Qe (Z1d [M] 0) ⟨⟨⟨⟨Yt, Yt⟩, Yt⟩, Yt⟩, Yt, Yt⟩ ?_;(refine go ?_;repeat' (apply B<;>intro hb<;>try cases hb))
   . have h3 : ¬ bits .andNot .u64 (N : Int) (M : Int) = 0 := by simpa using hb
     rw [hand] at h3;have h4:¬ (N ||| M=M):=fun h=>h3 (by rw [hz.2 h]; rfl);exact Z7 rfl Yt (XW (by simp [h4]))
   . have h3 : bits .andNot .u64 (N : Int) (M : Int) = 0 := by simpa using hb
     rw [hand] at h3;have h4:N ||| M=M:=hz.1 (by omega)
     exact Z7 rfl Yt (XW (by simp [h4]))
theorem Z3a (N:Nat) (hN:N<18446744073709551616):X7 Tryz.prog 51 [XC N] (· = .val (.bool (decide (N=0)))):=by
 rcases Z18 hN with⟨rfl,e1⟩|⟨h1,e1⟩<;>rw [e1]
 all_goals
  refine Yp ok51 fun C hC=>?_;refine Zn ?_;refine Za ?_;refine Z5 rfl rfl rfl ?_;refine go ?_
 . exact Z7 rfl Yt (XW (by simp))
 . exact Z7 rfl Yt (XW (by simp [h1]))
theorem Z4x (N M:Nat) (hN:N<18446744073709551616) (hM:M<18446744073709551616):X7 Tryz.prog 100 [XC N,XC M] (· = .val (.bool (decide (N=M)))):=by
 rcases Z18 hN with⟨rfl,e1⟩|⟨h1,e1⟩<;>rcases Z18 hM with⟨rfl,e2⟩|⟨h2,e2⟩<;>rw [e1]<;>(try rw [e2])<;>clear e1 e2
 all_goals
  refine Yp ok100 fun C hC=>?_;refine Zn ?_;refine Za ?_;refine Z5 rfl rfl rfl ?_;refine Z5 rfl rfl rfl ?_;refine go ?_
 . refine Z17 1 ?_;refine go ?_;exact Z7 rfl Yt (XW (by simp))
 . exact Z7 rfl Yt (XW (by simp;omega))
 . exact Z7 rfl Yt (XW (by simp;omega))
 . refine Z17 1 ?_;(refine go ?_;repeat' (apply B<;>intro hb<;>try cases hb))
   . have h3 : ¬ (N : Int) = (M : Int) := by simpa using hb
     exact Z7 rfl Yt (XW (by simp;omega))
   . have h3 : (N : Int) = (M : Int) := by simpa using hb
     exact Z7 rfl Yt (XW (by simp;omega))
theorem Z1T {N M:Nat} (hN:N<18446744073709551616) (hM:M<18446744073709551616):N ||| M<18446744073709551616:=Y2j (n:=64) hN hM
theorem Zjc {N M:Nat} (h:N≠0 \/ M≠0):N ||| M≠0:=fun h0=>by
 have h1:∀ i,(N ||| M).testBit i=false:=fun i=>by rw [h0]; simp
 rcases h with h|h
 . exact h (YC fun i=>by have:=h1 i; rw [Y00] at this; simp at this; simp [this.1])
 . exact h (YC fun i=>by have:=h1 i; rw [Y00] at this; simp at this; simp [this.2])
theorem Z1D (N M:Nat) (hN:N<18446744073709551616) (hM:M<18446744073709551616):X7 Tryz.prog 69 [XC N,XC M] (· = XC (N ||| M)):=by
 have hlt:=Z1T hN hM;rcases Z18 hN with⟨rfl,e1⟩|⟨h1,e1⟩<;>rcases Z18 hM with⟨rfl,e2⟩|⟨h2,e2⟩<;>rw [e1]<;>(try rw [e2])<;>clear e1 e2
 all_goals
  refine Yp ok69 fun C hC=>?_;refine Zn ?_;refine Za ?_;refine Z5 rfl rfl rfl ?_;refine Z5 rfl rfl rfl ?_;refine go ?_;refine Z17 1 ?_
  repeat' (first|refine Zb (Zm (k:=31) rfl rfl (ZT rfl)) ?_|(first|refine st ?_|(apply B<;>intro hb<;>try cases hb)))
 . exact Z7 rfl (Z2H rfl) Z1Y.symm
 . refine Qd (Z1d [] 0) (ZX rfl) ?_;refine go ?_;refine Qd (Z1d [M] 0) (ZX rfl) ?_;refine Qr (Z10 rfl (Y1R 0 M hN hM)) ?_
   repeat' (first|refine Zb (Zm (k:=31) rfl rfl (ZT rfl)) ?_|(first|refine st ?_|(apply B<;>intro hb<;>try cases hb)))
   exact Z7 rfl (Z2H rfl) (Z3n hlt (Zjc (.inr h2))).symm
 . refine Qd (Z1d [N] 0) (ZX rfl) ?_;refine go ?_;refine Qd (Z1d [] 0) (ZX rfl) ?_;refine Qr (Z10 rfl (Y1R N 0 hN hM)) ?_
   repeat' (first|refine Zb (Zm (k:=31) rfl rfl (ZT rfl)) ?_|(first|refine st ?_|(apply B<;>intro hb<;>try cases hb)))
   exact Z7 rfl (Z2H rfl) (Z3n hlt (Zjc (.inl h1))).symm
 . refine Qd (Z1d [N] 0) (ZX rfl) ?_;refine go ?_;refine Qd (Z1d [M] 0) (ZX rfl) ?_;refine Qr (Z10 rfl (Y1R N M hN hM)) ?_
   repeat' (first|refine Zb (Zm (k:=31) rfl rfl (ZT rfl)) ?_|(first|refine st ?_|(apply B<;>intro hb<;>try cases hb)))
   exact Z7 rfl (Z2H rfl) (Z3n hlt (Zjc (.inl h1))).symm
theorem Z5O {N i:Nat} (hN:N<18446744073709551616) (h:N.testBit i=true):i<64:=by
 rcases Y34 i 64 with h' | h'
 . exact h'
 . have : N.testBit i = false := Y25 (YH hN (YY (n := 2) (by omega) (show 64 <= i by omega)));rw [this] at h; cases h
theorem Zkm {N i:Nat} (h:N.testBit i=true):N≠0:=fun h0=>by rw [h0] at h; simp at h
theorem ZU {i:Nat} (h:i<64):2 ^ i<18446744073709551616:=by
 show 2 ^ i<2 ^ 64;exact Y1A (by omega) h
theorem Z1Z (N:Nat) (hN:N<18446744073709551616) (i:Int):X7 Tryz.prog 22 [XC N,.val (.int .i64 i)] (· = .val (.bool (decide (0<=i)&&N.testBit i.toNat))):=by
 refine (ZcL (X9 N) (Z38 N) i).mono fun r hr=>?_;rw [hr];refine XW ?_;have h:=Z2G (Z38 N) i.toNat;rw [Z68] at h;rw [<- h];by_cases h0:0<=i
 . by_cases h1 : i <= 4095
   . simp [h0,h1]
   . have : N.testBit i.toNat = false := by
      cases hb:N.testBit i.toNat with
      | false=>rfl
      | true=>have:=Z5O hN hb; omega
     simp [this]
 . simp [h0]
def X1a (N:Nat) (i:Int):Nat:=if 0<=i/\N.testBit i.toNat=true then Xd N (2 ^ i.toNat) else N
theorem Z3A {N:Nat} (hN:N<18446744073709551616) (i j:Nat):(X1a N i).testBit j=(N.testBit j&&decide (j≠i)):=by
 unfold X1a
 split
 . rename_i h;rw [YW] at h ⊢;rw [ZF hN (ZU (Z5O hN h.2)),YI];by_cases hji:j=i
   . subst hji; simp
   . simp [hji,Y23 hji]
 . rename_i h;have h':N.testBit i=false:=by
    rw [YW] at h;cases hb:N.testBit i with
    | false=>rfl
    | true=>exact absurd ⟨by omega,hb⟩ h
   by_cases hji:j=i
   . subst hji; simp [h']
   . simp [hji]
theorem Z20 (N:Nat) (hN:N<18446744073709551616) (i:Int):X7 Tryz.prog 83 [XC N,.val (.int .i64 i)] (· = XC (X1a N i)):=by
 refine Yp ok83 fun C hC=>?_;refine Zn ?_;refine Za ?_;refine Z5 rfl rfl rfl ?_;refine go ?_;refine Qe (Z1Z N hN i) ⟨Z2 N,Yt,Yt⟩ ?_;by_cases h:0<=i/\N.testBit i.toNat=true
 case neg =>
  have hb:(decide (0<=i)&&N.testBit i.toNat)=false:=by
   cases hb:N.testBit i.toNat with
   | false=>simp
   | true=>simp only [hb,and_true] at h; simp [h]
  rw [hb];refine go ?_;refine Z7 rfl (Z2 N) ?_;rw [X1a,Y6 h]; rfl
 obtain⟨h0,hbit⟩:=h;obtain⟨j,rfl⟩:∃ j:Nat,i=j:=⟨i.toNat,by omega⟩
 rw [YW] at hbit;have hj:=Z5O hN hbit;have hne:=Zkm hbit;have hp:=ZU hj;have e0:X1a N (j:Int)=Xd N (2 ^ j):=by rw [X1a,Y5 ⟨h0,by rw [YW]; exact hbit⟩,YW]
 have hb:(decide (0<=(j:Int))&&N.testBit (j:Int).toNat)=true:=by rw [YW,hbit]; simp
 rw [hb,e0,Z3n hN hne];have hq:IntKind.i64.wrap ((j:Int).tdiv 64)=((0:Nat):Int):=by
  rw [Y2X _ _ ⟨by omega,by omega,by omega⟩]; omega
 have hr:(j:Int).tmod 64=((j:Nat):Int):=by
  rw [Y1K (by omega)]; omega
 iterate 5 (first|refine st ?_|(apply B<;>intro hb<;>try cases hb))
 (first|refine st ?_|(apply B<;>intro hb<;>try cases hb));refine Z4v rfl rfl rfl ?_
 iterate 2 (first|refine st ?_|(apply B<;>intro hb<;>try cases hb))
 refine ZG (Zu (k:=1) rfl rfl rfl (fun c hc=>by
  rw [Y0g.1 hc]; rfl) rfl (by show (0+1)*8<=_;omega)) rfl rfl ?_
 refine go ?_;rw [hq]
 iterate 3 (first|refine st ?_|(apply B<;>intro hb<;>try cases hb))
 refine Qr (Z10 rfl hr) ?_
 refine Qr (Zfd rfl rfl (by omega) (v:=((2 ^ j:Nat):Int)) (by
  rw [show min ((j:Int)).toNat IntKind.u64.bits=j by simp [IntKind.bits]; omega];rw [Y43,show (2:Int) ^ j=((2 ^ j:Nat):Int) by simp]
  exact Y0x _ ⟨Y1T _,Y35.2 (show _<=18446744073709551615 by omega)⟩)) ?_
 refine Qr (Z10 rfl (Z1l N (2 ^ j) hN hp)) ?_
 repeat' (first|refine Zb (Zm (k:=25) rfl rfl (ZT rfl)) ?_|(first|refine st ?_|(apply B<;>intro hb<;>try cases hb)))
 refine Zx rfl rfl (Z2g [Xd N (2 ^ j)]) (ZX rfl) rfl fun r hr=>?_;have hw:X1v [Xd N (2 ^ j)]:=fun x hx=>by rw [Y0g.1 hx]; exact Z4X hN
 have e1:=hr.set hw;have e2:ofW [Xd N (2 ^ j)]=Xd N (2 ^ j):=by simp [ofW]
 rw [e2] at e1;subst e1;refine go ?_;exact Z7 rfl (Z2 _) rfl
def tz (x:Nat):Nat:=if h:x % 2=1 \/ x=0 then 0 else tz (x / 2)+1
termination_by x
decreasing_by omega
theorem Z69:∀ {x:Nat},x≠0->∃ m,x=2 ^ tz x*(2*m+1):=by
 intro x
 induction x using Nat.strongRecOn with
 | _ x ih =>
   intro h0;by_cases h:x % 2=1 \/ x=0
   . rw [tz, dif_pos h];exact⟨x / 2,by omega⟩
   . rw [tz, dif_neg h];obtain⟨m,hm⟩:=ih (x / 2) (by omega) (by omega);refine⟨m,?_⟩;rw [Y1Z,Nat.mul_assoc,Y1J 2,<- Nat.mul_assoc,<- hm];omega
theorem Z2t (k m i:Nat):(2 ^ k*(2*m+1)).testBit i=(decide (i=k)||(decide (k<i)&&m.testBit (i-k-1))):=by
 rw [Nat.testBit_two_pow_mul];by_cases h:k<=i
 . obtain ⟨j, rfl⟩ : ∃ j, i = k + j := ⟨i - k, by omega⟩;rw [show k+j-k=j by omega];cases j with
   | zero=>simp [Y2p]
   | succ j =>
     rw [Y3r];have e:(2*m+1).testBit (j+1)=m.testBit j:=by rw [Y2J]; congr 1; omega
     simp [e]
 . have h1 : ¬ i = k := by omega
   have h2:¬ k<i:=by omega
   simp [h,h1,h2]
theorem Z5P (k m i:Nat):(2 ^ k*(2*m+1)-1).testBit i=(decide (i<k)||(decide (k<i)&&m.testBit (i-k-1))):=by
 have hp:0<2 ^ k:=Nat.pos_of_ne_zero (by simp);have e:2 ^ k*(2*m+1)-1=2 ^ k*(2*m)+(2 ^ k-1):=by rw [Nat.mul_add]; omega
 rw [e,Y4s _ (by omega)];by_cases h:i<k
 . rw [Y5 h, Y3j];simp [h]
 . rw [Y6 h];have h':¬ i<k:=h;obtain⟨j,rfl⟩:∃ j,i=k+j:=⟨i-k,by omega⟩
   rw [show k+j-k=j by omega];cases j with
   | zero=>simp [Y2p]
   | succ j =>
     rw [Y3r];have e:(2*m).testBit (j+1)=m.testBit j:=by rw [Y2J]; congr 1; omega
     simp [e];omega
theorem Z9M {x:Nat} (h:x≠0):x.testBit (tz x)=true:=by
 obtain⟨m,hm⟩:=Z69 h;generalize tz x=k at hm ⊢;rw [hm,Z2t]; simp
theorem Zkn {x i:Nat} (h:x≠0) (hi:x.testBit i=true):tz x<=i:=by
 obtain⟨m,hm⟩:=Z69 h;generalize tz x=k at hm ⊢;rw [hm,Z2t] at hi;simp at hi;omega
theorem Z4Y {x:Nat} (h:x≠0) (i:Nat):(x &&& (x-1)).testBit i=(x.testBit i&&decide (i≠tz x)):=by
 obtain⟨m,hm⟩:=Z69 h;generalize tz x=k at hm ⊢;rw [Y0z,hm,Z2t,Z5P];by_cases h1:i=k
 . subst h1; simp
 . by_cases h2 : k < i
   . have h3 : ¬ i < k := by omega
     simp [h1,h2,h3]
   . simp [h1,h2]
theorem Zjd {x:Nat} (hx:x<18446744073709551616) (h:x≠0):x &&& (18446744073709551616-x)=2 ^ tz x:=by
 have hlt:=Z5O hx (Z9M h);obtain⟨m,hm⟩:=Z69 h;generalize tz x=k at hm hlt ⊢;refine YC fun i=>?_;have e:18446744073709551616-x=2 ^ 64-((x-1)+1):=by omega
 rw [Y0z,e,Y3f (by omega),hm,Z2t,Z5P,YI];by_cases h1:i=k
 . subst h1; simp [hlt]
 . have h1' : ¬ k = i := fun h => h1 h.symm;by_cases h2:k<i
   . simp [h1, h1', h2];intro a _ _;exact a
   . simp [h1,h1',h2]
theorem Zhn:∀ k:Fin 64,(285870213051353865*2 ^ k.val % 18446744073709551616 / 288230376151711744)<64/\X1S[285870213051353865*2 ^ k.val % 18446744073709551616 / 288230376151711744]?=some ((k.val:Nat):Int):=by decide
theorem Zlv {g j:Nat} {n:Nat} {e:Env} {h:X1} {i:Operand} {k:IntKind} (hg:X3l g=X1S.map fun x=>.int .u8 x) (hi:ev e i=some (.val (.int k (j:Nat)))) (hj:j<64) :
 X4 (.iaddrA 64 1 (.global g) i) e h n=some (.cp ((zpv (X1S.map fun x=>.int .u8 x)).drop (j*1)),h):=by
 have hev:ev e (.global g)=some (.cp (zpv (X1S.map fun x=>.int .u8 x))):=by
  simp only [ev,hg]; rfl
 simp only [X4,hev,hi];rw [Y5 ⟨by omega,by omega⟩,YW]
theorem Zl6 {j k n:Nat} {e:Env} {h:X1} {a:Operand} (ha:ev e a=some (.cp ((zpv (X1S.map fun x=>.int .u8 x)).drop (j*1)))) (hj:X1S[j]?=some ((k:Nat):Int)):X4 (.load false 1 a) e h n=some (.val (.int .u8 (k:Nat)),h):=by
 have hlt:j<X1S.length:=(Y7.1 hj).1;have hl:(zpv (X1S.map fun x=>.int .u8 x)).drop (j*1)=.val (.int .u8 (k:Nat)) :: (zpv (X1S.map fun x=>.int .u8 x)).drop (j+1):=by
  rw [Y24,Y1D (by simp [zpv]; exact hlt)];congr 1;have:=(Y7.1 hj).2;simp [zpv,X3P,this]
 simp only [X4,ha,hl];simp [X19]
theorem Zfr (x:Nat) (hx:x<18446744073709551616) (h:x≠0):X7 Tryz.prog 128 [.val (.int .u64 (x:Int))] (· = .val (.int .i64 (tz x:Nat))):=by
 have hk:=Z5O hx (Z9M h);have hp:=ZU hk;have hneg:IntKind.u64.wrap (0-(x:Int))=((18446744073709551616-x:Nat):Int):=by
  rw [Y3b]; omega
 have hand:bits .and .u64 (x:Int) (IntKind.u64.wrap (0-(x:Int)))=((2 ^ tz x:Nat):Int):=by
  rw [hneg,Y26 _ _ hx (by omega),Zjd hx h]
 have hmul:IntKind.u64.wrap (((2 ^ tz x:Nat):Int)*285870213051353865)=((285870213051353865*2 ^ tz x % 18446744073709551616:Nat):Int):=by
  rw [Y3b,Int.mul_comm]
  rfl
 obtain⟨t1,t2⟩:=Zhn ⟨tz x,hk⟩;simp only at t1 t2;refine Yp ok128 fun C hC=>?_
 iterate 8 (first|refine st ?_|(apply B<;>intro hb<;>try cases hb))
 refine Zb8 rfl rfl rfl (v:=false) (by simp; exact h) ?_;(first|refine st ?_|(apply B<;>intro hb<;>try cases hb));(first|refine st ?_|(apply B<;>intro hb<;>try cases hb))
 iterate 6 (first|refine st ?_|(apply B<;>intro hb<;>try cases hb))
 refine Zh rfl rfl rfl hand ?_;refine Zh rfl rfl rfl hmul ?_;refine Zh rfl rfl rfl (v:=((285870213051353865*2 ^ tz x % 18446744073709551616 / 288230376151711744:Nat):Int)) ?_ ?_
 . show Int.fdiv _ (2 ^ 58) = _;rw [Z8F]
 refine Qo (Zlv rfl rfl t1) ?_;refine Qo (Zl6 rfl t2) ?_;refine Zh rfl rfl rfl (Y0v _ ⟨by omega,by omega⟩) ?_;refine go ?_;exact Z7 rfl Yt rfl
end
section
open Go.RowKit
attribute [local irreducible] aw Xj dK jw
def mem (N:Nat):List Nat:=(List.range 64).filter fun i=>N.testBit i
theorem Z13 {N i:Nat} (hN:N<18446744073709551616):i∈mem N↔N.testBit i=true:=by
 simp only [mem,Y1b,Y1s];exact⟨fun h=>h.2,fun h=>⟨Z5O hN h,h⟩⟩
theorem Z7R (N:Nat):(mem N).Pairwise (· < ·):=List.Pairwise.filter _ List.pairwise_lt_range
theorem Z3B {N i:Nat} (h:i∈mem N):i<64:=by
 simp only [mem,Y1b,Y1s] at h; exact h.1
theorem Z2C (N:Nat):(mem N).length<=64:=by
 have:=Y1F (fun i=>N.testBit i) (List.range 64);simpa [mem] using this
theorem Zfs:∀ {l m:List Nat},l.Pairwise (· < ·)->m.Pairwise (· < ·)->(∀ x,x∈l↔x∈m)->l=m
 | [],[],_,_,_=>rfl
 | [],y :: m,_,_,h=>by have:=(h y).2 (by simp); cases this
 | x :: l,[],_,_,h=>by have:=(h x).1 (by simp); cases this
 | x :: l, y :: m, hl, hm, h => by
   rw [Y15] at hl hm;have hxy:x=y:=by
    have h1:=(h x).1 (by simp);have h2:=(h y).2 (by simp);rcases YA.1 h1 with h1|h1
    . exact h1
    . rcases YA.1 h2 with h2 | h2
      . exact h2.symm
      . have:=hm.1 x h1; have:=hl.1 y h2; omega
   subst hxy;congr 1;refine Zfs hl.2 hm.2 fun z=>?_;constructor
   . intro hz;rcases YA.1 ((h z).1 (by simp [hz])) with hz' | hz'
     . have:=hl.1 z hz; omega
     . exact hz'
   . intro hz;rcases YA.1 ((h z).2 (by simp [hz])) with hz' | hz'
     . have:=hm.1 z hz; omega
     . exact hz'
theorem ZcN:mem 0 = []:=by simp [mem]
theorem Zho {y:Nat} (hy:y<18446744073709551616) (h:y≠0):mem y=tz y :: mem (y &&& (y-1)):=by
 have hlt:y &&& (y-1)<18446744073709551616:=Y02 Y1r hy;refine Zfs (Z7R y) ?_ fun z=>?_
 . rw [Y15];refine⟨fun z hz=>?_,Z7R _⟩;rw [Z13 hlt,Z4Y h] at hz;have h1:y.testBit z=true/\z≠tz y:=by simpa using hz
   have:=Zkn h h1.1;omega
 . rw [YA, Z13 hy, Z13 hlt, Z4Y h];constructor
   . intro hz;by_cases he:z=tz y
     . exact .inl he
     . exact .inr (by simp [hz,he])
   . rintro (rfl | hz)
     . exact Z9M h
     . have h1 : y.testBit z = true /\ z ≠ tz y := by simpa using hz
       exact h1.1
abbrev X6H (N:Nat):={ i:Nat // i∈mem N }
def X7U (N:Nat) (x:X6H N):List Value := [.int .i64 (x.val:Int)]
theorem Z1E (N:Nat):X7 Tryz.prog 75 [XC N] (· = .fn 127 [.cp [.vec (X5 (X9 N)) false]]):=by
 refine Yp ok75 fun C hC=>?_;refine Zn ?_;refine Za ?_;refine Z5 rfl rfl rfl ?_;refine go ?_;exact Z7 rfl ⟨⟨Z6 _,Yt⟩,Yt⟩ rfl
theorem Zhp {y:Nat} (hy:y<18446744073709551616):y &&& (y-1)<18446744073709551616:=Y02 Y1r hy
theorem Zhq {y:Nat} (h:y≠0):y &&& (y-1)<y:=Y02 Y27 (by omega)
theorem Z2u (N:Nat) (hN:N<18446744073709551616):X45 Tryz.prog 127 [.cp [.vec (X5 (X9 N)) false]] (X7U N) (fun xs=>xs.map (·.val)=mem N) (fun pre=>∃ t,pre.map (·.val)++t=mem N) (mem N).length:=by
 refine ZdV ok127 (Y0 rfl) fun Y hYN hYe hYs hYn=>?_;by_cases h0:N=0
 . subst h0;rw [ZL]
   repeat' (first
    | refine Z4V ?_
    | refine Z2h ?_
    | refine Z1X ?_
    | refine Z24 rfl ?_
    | refine Z3m ?_
    | refine Z4w ?_
    | refine Z5s ?_
    | refine Z7O ?_
    | refine Z26 (b:=true) rfl (fun _=>?_) (fun h=>by cases h)
    | refine Z26 (b:=false) rfl (fun h=>by cases h) (fun _=>?_))
   refine Zbk (X:=Unit) (fun _=>True) (fun _=>0) (fun _=>[]) (fun _ => [(7,.val (.int .i64 ((0:Nat):Int))),(8,.val (.int .i64 0))]) () Yt rfl ⟨rfl,rfl,Yt⟩ ?_;rintro⟨⟩ -
   repeat' (first
    | refine Z4V ?_
    | refine Z2h ?_
    | refine Z1X ?_
    | refine Z24 rfl ?_
    | refine Z3m ?_
    | refine Z4w ?_
    | refine Z5s ?_
    | refine Z7O ?_
    | refine Z26 (b:=true) rfl (fun _=>?_) (fun h=>by cases h)
    | refine Z26 (b:=false) rfl (fun h=>by cases h) (fun _=>?_))
   exact⟨.inl rfl,ZcN.symm⟩
 rw [Z4W hN h0]
 repeat' (first
  | refine Z4V ?_
  | refine Z2h ?_
  | refine Z1X ?_
  | refine Z24 rfl ?_
  | refine Z3m ?_
  | refine Z4w ?_
  | refine Z5s ?_
  | refine Z7O ?_
  | refine Z26 (b:=true) rfl (fun _=>?_) (fun h=>by cases h)
  | refine Z26 (b:=false) rfl (fun h=>by cases h) (fun _=>?_))
 refine Zbk (X:=Bool×List (X6H N)) (fun x=>(x.1=true->x.2.map (·.val)=mem N)/\(x.1=false->x.2 = [])) (fun x=>if x.1 then 0 else 1) (fun x=>x.2)
  (fun x => [(0,.val (.func (.yield Y.l) #[] #[])),(6,.vec [[.val (.int .u64 (N:Int))]] false),(7,.val (.int .i64 ((1:Nat):Int))),(8,.val (.int .i64 (if x.1 then 1 else 0)))]) (false,[]) ⟨by simp,by simp⟩ rfl ⟨rfl,rfl,rfl,rfl,Yt⟩ ?_
 rintro⟨b,pre⟩ ⟨hb1,hb2⟩;simp only at hb1 hb2;cases b with
 | true =>
   repeat' (first
    | refine Z4V ?_
    | refine Z2h ?_
    | refine Z1X ?_
    | refine Z24 rfl ?_
    | refine Z3m ?_
    | refine Z4w ?_
    | refine Z5s ?_
    | refine Z7O ?_
    | refine Z26 (b:=true) rfl (fun _=>?_) (fun h=>by cases h)
    | refine Z26 (b:=false) rfl (fun h=>by cases h) (fun _=>?_))
   exact⟨.inl rfl,hb1 rfl⟩
 | false =>
   obtain rfl:=hb2 rfl
   repeat' (first
    | refine Z4V ?_
    | refine Z2h ?_
    | refine Z1X ?_
    | refine Z24 rfl ?_
    | refine Z3m ?_
    | refine Z4w ?_
    | refine Z5s ?_
    | refine Z7O ?_
    | refine Z26 (b:=true) rfl (fun _=>?_) (fun h=>by cases h)
    | refine Z26 (b:=false) rfl (fun h=>by cases h) (fun _=>?_))
   refine Zbk (X:=Nat×List (X6H N)) (fun x=>x.1<18446744073709551616/\x.2.map (·.val)++mem x.1=mem N) (fun x=>x.1) (fun x=>x.2)
    (fun x => [(0,.val (.func (.yield Y.l) #[] #[])),(3,.val (.int .i64 0)),(4,.val (.int .u64 (x.1:Int))),(6,.vec [[.val (.int .u64 (N:Int))]] false),(7,.val (.int .i64 ((1:Nat):Int))),(8,.val (.int .i64 0))]) (N,[]) ⟨hN,by simp⟩ rfl ⟨rfl,rfl,rfl,rfl,rfl,rfl,Yt⟩ ?_
   rintro⟨y,pre⟩ ⟨hy,hpre⟩;simp only at hy hpre;refine Z4V ?_;refine Z4V ?_;refine Z2h ?_;refine Z24 rfl ?_;refine Z24 rfl ?_;refine Z1X ?_;by_cases hy0:y=0
   . subst hy0;rw [ZcN,Y0p] at hpre
     repeat' (first
      | refine Z4V ?_
      | refine Z2h ?_
      | refine Z1X ?_
      | refine Z24 rfl ?_
      | refine Z3m ?_
      | refine Z4w ?_
      | refine Z5s ?_
      | refine Z7O ?_
      | refine Z26 (b:=true) rfl (fun _=>?_) (fun h=>by cases h)
      | refine Z26 (b:=false) rfl (fun h=>by cases h) (fun _=>?_))
     exact⟨(true,pre),⟨fun _=>hpre,fun h=>by cases h⟩,by simp,rfl,rfl,rfl,rfl,rfl,Yt⟩
   . have hne : ((y : Int) != 0) = true := by simp; exact hy0
     have hcond:∀ {e:Env},e 14=some (.val (.bool ((y:Int) != 0)))->ev e (.tmp 14)=some (.val (.bool true)):=fun h=>by rw [hne] at h; exact h
     refine Z26 (b:=true) (hcond rfl) (fun _=>?_) (fun h=>by cases h);rw [Zho hy hy0] at hpre;have hmem:tz y∈mem N:=by rw [<- hpre]; simp
     have hlt:=Z3B hmem;have hlen:pre.length<(mem N).length:=by rw [<- hpre]; simp
     have hsum:IntKind.i64.wrap (IntKind.i64.wrap (64*0)+((tz y:Nat):Int))=((tz y:Nat):Int):=by
      rw [show IntKind.i64.wrap (64*0)=0 from rfl,Int.zero_add];exact Y0v _ ⟨by omega,by omega⟩
     refine Z4w ?_;refine Z4V ?_;refine Z3m ?_;refine Zhm (al := [_,_,_,_,_,_]) (d1:=25) (d2:=26) ⟨tz y,hmem⟩ ?_;refine Z24 rfl ?_;refine Z24 rfl ?_;refine Z24 rfl ?_;refine Z24 rfl ?_;refine Zfq (Zfr y hy hy0) rfl rfl rfl ⟨Yt,Yt⟩ ?_;refine Z24 (p:=.val (.int .i64 ((tz y:Nat):Int))) ?_ ?_
     . show some (PV.val (Value.int .i64 (IntKind.i64.wrap (IntKind.i64.wrap (64 * 0) + ((tz y : Nat) : Int))))) = _;rw [hsum]
     refine Z1X ⟨rfl,rfl,by rw [hYe]; rfl,by rw [hYN]; exact hlen,?_,?_⟩
     . rw [hYs];exact⟨mem (y &&& (y-1)),by rw [Y0r,YR]; exact hpre⟩
     have hand:bits .and .u64 (y:Int) (IntKind.u64.wrap ((y:Int)-1))=((y &&& (y-1):Nat):Int):=by
      rw [Y3b,show ((y:Int)-1) % 18446744073709551616=((y-1:Nat):Int) by omega];exact Y26 _ _ hy (by omega)
     refine Z2h ?_;refine Z24 rfl ?_;refine Z24 rfl ?_;refine Z24 rfl ?_;refine Z24 (p:=.val (.int .u64 ((y &&& (y-1):Nat):Int))) ?_ ?_
     . show some (PV.val (Value.int .u64 (bits .and .u64 (y : Int) (IntKind.u64.wrap ((y : Int) - 1))))) = _;rw [hand]
     refine Z24 rfl ?_;refine Z1X ?_;exact⟨(y &&& (y-1),pre ++ [⟨tz y,hmem⟩]),⟨Zhp hy,by rw [Y0r,YR]; exact hpre⟩,Zhq hy0,rfl,rfl,rfl,rfl,rfl,rfl,rfl,Yt⟩
def Xb (l:List Nat):List Int:=l.map fun (x:Nat)=>(x:Int)
end
section
open Go.RowKit
abbrev Pr:=Nat×Nat
def prC (p:Pr):List PV := [.val (.int .i64 (p.1:Int)),.val (.int .i64 (p.2:Int))]
theorem Z4b (p:Pr):X6 (prC p):=⟨Yt,Yt,Yt⟩
inductive Up (l:List Pr):Nat->Nat->Prop
 | one {a b:Nat} (h:(a,b)∈l):Up l a b
 | more {a b c:Nat} (h:Up l a b) (k:(b,c)∈l):Up l a c
theorem Zko {l:List Pr} {a b:Nat}:Up l a b↔∃ c,(c,b)∈l/\(a=c \/ Up l a c):=by
 constructor
 . intro h;cases h with
   | one h=>exact⟨a,h,.inl rfl⟩
   | more h k=>exact⟨_,k,.inr h⟩
 . rintro ⟨c, h, rfl | k⟩
   . exact .one h
   . exact .more k h
def XK (l:List Pr):Prop:=∀ p∈l,p.1<64/\p.2<64
theorem Up.lt {l:List Pr} (hl:XK l) {a b:Nat} (h:Up l a b):a<64/\b<64:=by
 induction h with
 | one h=>exact hl _ h
 | more _ k ih=>exact⟨ih.1,(hl _ k).2⟩
def Acy (l:List Pr):Prop:=∃ rank:Nat->Nat,∀ p∈l,rank p.1<rank p.2
theorem Acy.sub {l m:List Pr} (h:Acy m) (hs:∀ p∈l,p∈m):Acy l:=by
 obtain⟨r,hr⟩:=h;exact⟨r,fun p hp=>hr p (hs p hp)⟩
def ofP (p:Nat->Bool):Nat->Nat
 | 0=>0
 | k+1=>if p k then ofP p k ||| 2 ^ k else ofP p k
theorem Z8H (p:Nat->Bool):∀ k i,(ofP p k).testBit i=(decide (i<k)&&p i)
 | 0,i=>by simp [ofP]
 | k + 1, i => by
   have ih:=Z8H p k i;unfold ofP;by_cases hk:i=k
   . subst hk;cases hp:p i with
     | true=>rw [Y5 rfl,Y00,Y2i]; simp
     | false=>rw [Y6 (by decide),ih]; simp
   . have h2 : decide (i < k + 1) = decide (i < k) := Y37.2 (by omega);rw [h2]
     split
     . rw [Y00,Nat.testBit_two_pow_of_ne (by omega),Y4I,ih]
     . exact ih
theorem ZiI (p:Nat->Bool):∀ k,ofP p k<2 ^ k
 | 0=>by simp [ofP]
 | k + 1 => by
   have:=ZiI p k;have h2:2 ^ (k+1)=2 ^ k+2 ^ k:=by rw [Y1Z]; omega
   unfold ofP
   split
   . exact Y2j (by omega) (by omega)
   . omega
theorem Zft (p:Nat->Bool):ofP p 64<18446744073709551616:=ZiI p 64
theorem X5P {a b:Nat} (ha:a<18446744073709551616) (hb:b<18446744073709551616) (h:∀ i,i<64->a.testBit i=b.testBit i):a=b:=by
 apply YC;intro i;by_cases hi:i<64
 . exact h i hi
 . have e : ∀ {x : Nat}, x < 18446744073709551616 -> x.testBit i = false := fun {x} hx => Y25 (YH hx (YY (n := 2) (by decide) (show 64 <= i by omega)));rw [e ha,e hb]
open Classical in
noncomputable def abv (l:List Pr) (b:Nat):Nat:=ofP (fun a=>decide (Up l a b)) 64
open Classical in
noncomputable def bel (l:List Pr) (a:Nat):Nat:=ofP (fun b=>decide (Up l a b)) 64
theorem Z6C {l:List Pr} (hl:XK l) (a b:Nat):(abv l b).testBit a=true↔Up l a b:=by
 unfold abv;rw [Z8H];simp only [Y0k,Y0n];exact⟨fun h=>h.2,fun h=>⟨(h.lt hl).1,h⟩⟩
theorem Zfu {l:List Pr} (hl:XK l) (a b:Nat):(bel l a).testBit b=true↔Up l a b:=by
 unfold bel;rw [Z8H];simp only [Y0k,Y0n];exact⟨fun h=>h.2,fun h=>⟨(h.lt hl).2,h⟩⟩
theorem Z6D (l:List Pr) (b:Nat):abv l b<18446744073709551616:=Zft _
theorem Zfv (l:List Pr) (a:Nat):bel l a<18446744073709551616:=Zft _
structure X2O (l:List Pr) (S:List Nat):Prop where
 nodup:S.Nodup
 lt:∀ x∈S,x<64
 pred:∀ (t:Nat) (ht:t<S.length) (a:Nat),(a,S[t])∈l->a∈S.take t
theorem X2O.nil (l:List Pr):X2O l []:=⟨Y3t,fun _ h=>(by cases h),fun t ht=>absurd ht (YJ t)⟩
theorem X2O.closed {l:List Pr} {S:List Nat} (h:X2O l S) {a b:Nat} (hp:(a,b)∈l) (hb:b∈S):a∈S:=by
 obtain⟨t,ht,rfl⟩:=Y16 hb;exact YM (h.pred t ht a hp)
theorem X2O.snoc {l:List Pr} {S:List Nat} (h:X2O l S) {k:Nat} (hk:k ∉ S) (h64:k<64) (hp:∀ a,(a,k)∈l->a∈S):X2O l (S ++ [k]):=by
 refine⟨?_,?_,?_⟩
 . rw [Y32];exact⟨h.nodup,by simp,fun a ha b hb e=>by rw [Y0g] at hb; subst hb; subst e; exact hk ha⟩
 . intro x hx;rcases Y0h.1 hx with hx|hx
   . exact h.lt x hx
   . rw [Y0g] at hx; omega
 . intro t ht a ha;rw [Y0e,Y0s] at ht;by_cases htl:t<S.length
   . rw [List.getElem_append_left htl] at ha;rw [Y39 (by omega)];exact h.pred t htl a ha
   . have e : t = S.length := by omega
     subst e;rw [List.getElem_append_right (Y0m _)] at ha;simp only [Y3p,List.getElem_singleton] at ha;rw [List.take_left']
     . exact hp a ha
     . rfl
theorem Z2P:∀ (n:Nat) (S:List Nat),S.Nodup->(∀ x∈S,x<n)->S.length<=n
 | 0, S, _, h => by
   cases S with
   | nil=>exact Y0m _
   | cons a S=>exact absurd (h a (Y0t ..)) (YJ a)
 | n + 1, S, hn, h => by
   have hlen:=List.length_erase (a:=n) (l:=S);have ih:=Z2P n (S.erase n) (hn.sublist List.erase_sublist) fun x hx=>by
    have h1:=h x (List.mem_of_mem_erase hx);have h2:x≠n:=fun e=>by rw [e] at hx; exact (List.Nodup.mem_erase_iff hn).1 hx |>.1 rfl
    omega
   split at hlen<;>omega
theorem X2O.len {l:List Pr} {S:List Nat} (h:X2O l S):S.length<=64:=Z2P 64 S h.nodup h.lt
theorem X2O.all {l:List Pr} {S:List Nat} (h:X2O l S) (h64:S.length=64) {j:Nat} (hj:j<64):j∈S:=by
 apply YU;intro hno;have:=Z2P 64 (j :: S) (Y2U.2 ⟨hno,h.nodup⟩) fun x hx=>by
  rcases YA.1 hx with rfl|hx
  . exact hj
  . exact h.lt x hx
 rw [Y04] at this;omega
theorem X7F {l:List Pr} (hl:XK l) (hacy:Acy l) {S:List Nat} (h:X2O l S) (hlt:S.length<64):∃ j,j<64/\j ∉ S/\∀ a,(a,j)∈l->a∈S:=by
 obtain⟨rank,hr⟩:=hacy;have key:∀ m j,rank j<=m->j<64->j ∉ S->∃ j,j<64/\j ∉ S/\∀ a,(a,j)∈l->a∈S:=by
  intro m
  induction m with
  | zero =>
    intro j hm hj hno;exact⟨j,hj,hno,fun a ha=>by have:=hr _ ha; simp only at this; omega⟩
  | succ m ih =>
    intro j hm hj hno;by_cases hall:∀ a,(a,j)∈l->a∈S
    . exact⟨j,hj,hno,hall⟩
    . obtain ⟨a, ha⟩ := Classical.not_forall.1 hall;obtain⟨ha,hna⟩:=Classical.not_imp.1 ha;have h1:=hr _ ha;simp only at h1;exact ih a (by omega) (hl _ ha).1 hna
 have hex:∃ j,j<64/\j ∉ S:=by
  apply YU;intro hno;have hall:∀ j,j<64->j∈S:=fun j hj=>YU fun h=>hno ⟨j,hj,h⟩;have hp:(List.range 64).Perm S:=(List.perm_ext_iff_of_nodup List.nodup_range h.nodup).2 fun x=>by
   rw [Y1s];exact⟨hall x,h.lt x⟩
  have:=hp.length_eq;rw [Y2C] at this;omega
 obtain⟨j,hj,hno⟩:=hex;exact key _ j (Y0m _) hj hno
def X1y (l:List Pr) (S:List Nat) (j:Nat):Int:=if j∈S then -1 else (l.countP fun p=>p.2 == j && !decide (p.1∈S):Nat)
def X1c (l:List Pr) (S:List Nat) (k i j:Nat):Int:=if j∈S ++ [k] then -1 else ((l.take i).countP (fun p=>p.2 == j && !decide (p.1∈S ++ [k]))+(l.drop i).countP (fun p=>p.2 == j && !decide (p.1∈S)):Nat)
theorem Z7S {l:List Pr} {S:List Nat} {j:Nat}:X1y l S j=0↔j ∉ S/\∀ a,(a,j)∈l->a∈S:=by
 unfold X1y
 split
 . rename_i h; exact⟨fun e=>absurd e (by decide),fun e=>absurd h e.1⟩
 . rename_i h;rw [show ((0:Int))=((0:Nat):Int) from rfl,Y2n,List.countP_eq_zero];constructor
   . intro h2;refine⟨h,fun a ha=>?_⟩;have:=h2 _ ha;simpa using this
   . rintro ⟨-, h2⟩ p hp;by_cases e:p.2=j
     . have := h2 p.1 (by rw [<- e]; exact hp);simp [this]
     . simp [e]
theorem ZdW (l:List Pr) (S:List Nat) (k j:Nat):X1c l S k 0 j=if j=k then -1 else X1y l S j:=by
 unfold X1c X1y;rw [Y1y,Y14,Y4v,Y19];by_cases hk:j=k
 . rw [Y5 hk,Y5 (by rw [hk]; simp)]
 . rw [Y6 hk];by_cases hj:j∈S
   . rw [Y5 hj,Y5 (Y3c _ hj)]
   . rw [Y6 hj,Y6 (by simp [hj,hk])]
theorem Zfw (l:List Pr) (S:List Nat) (k j:Nat):X1c l S k l.length j=X1y l (S ++ [k]) j:=by
 unfold X1c X1y;rw [Y0q,List.drop_length,Y4v,Y1q]
theorem ZdX {l:List Pr} {S:List Nat} {k i:Nat} (hi:i<l.length) (j:Nat) (hT:X2O l S) (hk:k ∉ S) (hp:∀ a,(a,k)∈l->a∈S) :
 X1c l S k (i+1) j=if l[i].1=k/\j=l[i].2 then X1c l S k i j-1 else X1c l S k i j:=by
 have htk:l.take (i+1)=l.take i ++ [l[i]]:=by rw [YX,Y0c hi]; rfl
 have hdr:l.drop i=l[i] :: l.drop (i+1):=Y1D hi;have hmem:l[i]∈l:=Y0j hi;unfold X1c;rw [htk,hdr,List.countP_append,List.countP_cons,Y4v,Y19,List.countP_cons];generalize l[i]=p at hmem;by_cases hpk:p.1=k
 . have hkk : (k, p.2) ∈ l := by rw [<- hpk]; exact hmem
   have hp2:p.2 ∉ S ++ [k]:=by
    rw [Y0h,Y0g];rintro (h|h)
    . exact hk (hT.closed hkk h)
    . rw [h] at hkk; exact hk (hp k hkk)
   by_cases hj:j=p.2
   . have e1 : (p.2 == j && !decide (p.1 ∈ S ++ [k])) = false := by rw [hpk]; simp
     have e2:(p.2 == j && !decide (p.1∈S))=true:=by rw [hpk,hj]; simp [hk]
     have hjn:¬ j∈S ++ [k]:=hj▸hp2;rw [e1,e2,Y5 (show p.1=k/\j=p.2 from ⟨hpk,hj⟩),Y6 hjn,Y6 hjn,Y6 Bool.false_ne_true,Y5 rfl];omega
   . rw [Y6 (show ¬ (p.1 = k /\ j = p.2) from fun h => hj h.2)];have e:(p.2 == j)=false:=by rw [Y3Y]; exact Y23 hj
     simp only [e,Y2I,Y2v,Y2d,Y1q]
 . rw [Y6 (show ¬ (p.1 = k /\ j = p.2) from fun h => hpk h.1)];have e:decide (p.1∈S ++ [k])=decide (p.1∈S):=Y37.2 (by rw [Y0h,Y0g]; exact⟨fun h=>h.elim id fun h=>absurd h hpk,.inl⟩);rw [e];by_cases hjn:j∈S ++ [k]
   . rw [Y5 hjn,Y5 hjn]
   . rw [Y6 hjn,Y6 hjn]; omega
theorem Zhr (l:List Pr) (S:List Nat) (k i j:Nat) : -1<=X1c l S k i j/\X1c l S k i j<=l.length:=by
 unfold X1c;have h1:=Y3U (p:=fun p:Pr=>p.2 == j && !decide (p.1∈S ++ [k])) (l:=l.take i);have h2:=Y3U (p:=fun p:Pr=>p.2 == j && !decide (p.1∈S)) (l:=l.drop i);rw [Y0o] at h1;rw [YT] at h2
 split<;>omega
def X3d (l:List Pr) (j:Nat):Nat:=l.countP fun p=>p.2 == j
theorem Zfx {l:List Pr} {i:Nat} (hi:i<l.length) (j:Nat):X3d (l.take (i+1)) j=if j=l[i].2 then X3d (l.take i) j+1 else X3d (l.take i) j:=by
 have htk:l.take (i+1)=l.take i ++ [l[i]]:=by rw [YX,Y0c hi]; rfl
 unfold X3d;rw [htk,List.countP_append,List.countP_singleton];by_cases h:j=l[i].2
 . rw [Y5 h]; simp [h]
 . rw [Y6 h]; simp [Y23 h]
theorem Zhs (l:List Pr) (j:Nat):X1y l [] j=(X3d l j:Nat):=by
 unfold X1y X3d;simp
theorem Zje (l:List Pr) (j:Nat):X3d l j<=l.length:=Y3U
def tab (f:Nat->List PV):List (List PV):=(List.range 64).map f
theorem ZZ (f:Nat->List PV):(tab f).length=64:=by simp [tab]
theorem Z31 {f:Nat->List PV} {i:Nat} (hi:i<64):(tab f).getD i []=f i:=by
 rw [Y0b,tab,Y0y,Y3l hi]; rfl
theorem Zfy {f:Nat->List PV} {i:Nat} (r:List PV) (hi:i<64):(tab f).set i r=tab fun j=>if j=i then r else f j:=by
 apply List.ext_getElem?;intro j;rw [YV,ZZ];unfold tab;rw [Y0y,Y0y];by_cases hj:j<64
 . rw [Y3l hj];by_cases e:i=j
   . subst e; simp [hi]
   . rw [Y6 e]; simp [Y23 e]
 . rw [Y2z (by simpa using hj)];by_cases e:i=j
   . subst e; exact absurd hi hj
   . rw [Y6 e]; rfl
theorem Z3O {f g:Nat->List PV} (h:∀ j,j<64->f j=g j):tab f=tab g:=Y2m fun j hj=>h j (Y1s.1 hj)
theorem Z1F {f:Nat->List PV} (h:∀ j,X6 (f j)):X3 (tab f):=by
 refine (Z2e _ _).2 fun r hr=>?_;obtain⟨j,_,rfl⟩:=Y0i.1 hr;exact h j
theorem Zjf (r:List PV):List.replicate 64 r=tab fun _=>r:=by rw [tab,List.map_const',Y2C]
def X2t (f:Nat->Int) (j:Nat):List PV := [.val (.int .i64 (f j))]
theorem Z4Z (f:Nat->Int) (j:Nat):X6 (X2t f j):=⟨Yt,Yt⟩
end
section
def rW {α:Type}:Result α->World
 | .ok _ w=>w
 | .halt _ w=>w
def sW:Stepped->Option World
 | .next m=>some m.world
 | .ended _ _=>none
def gW:GStep->Option World
 | .go _ w _=>some w
 | .comm _ _ _ _ w _=>some w
 | .spawn _ _ w _=>some w
 | .count _ w _=>some w
 | .timer _ _ w _=>some w
 | .alone _ _ w _=>some w
 | .newcoro _ _ _ w _=>some w
 | .coroswitch _ _ _ w _=>some w
 | .collect _ w _=>some w
 | .watch _ w _=>some w
 | .ended _ _ _=>none
def X1r (D:Nat):Option World->Prop
 | some w=>D<=w.drawn
 | none=>True
theorem X1r.mono {D E:Nat} (h:D<=E):∀ {o:Option World},X1r E o->X1r D o
 | some _,k=>Y03 h k
 | none,_=>trivial
@[simp] theorem Z4c (es:Array Event) (s:GStep):gW (GStep.after es s)=gW s:=by cases s<;>rfl
theorem Z6E {α:Type}:∀ (x:Ask α) (w:World),w.drawn<=(w.ask x).2.drawn
 | .done a,w=>Y0m _
 | .ask what range k, w => by
   rw [World.ask]
   split
   . exact Z6E _ w
   . exact Y03 (Y40 _) (Z6E _ { w with drawn:=w.drawn+1 })
theorem Zfz (w:World) (c:Sys):w.drawn<=(w.sys c).2.drawn:=by
 have h:=Z6E (Kernel.perform c w.os) w;unfold World.sys;generalize w.ask (Kernel.perform c w.os)=x at h;obtain⟨⟨r,os⟩,w'⟩:=x;cases r<;>first|exact Y0m _|exact h
theorem Z6F {p:Program} {w w':World} {a:Addr} {u:TypeId} {k:Addr} {v:Value} {at':Bool} {l:List Addr} (h:w.viewStore p a u k v at'=.ok (w',l)):w'.drawn=w.drawn:=by
 unfold World.viewStore at h;simp only [bind,Except.bind,pure,Except.pure] at h
 repeat' first
  | (cases h; done)
  | (cases h; rfl)
  | split at h
theorem Z7t {p:Program} {w w':World} {a:Addr} {v:Value} {at':Bool} {l:List Addr} (h:w.farStore p a v at'=.ok (w',l)):w'.drawn=w.drawn:=by
 unfold World.farStore at h
 repeat' first
  | (cases h; done)
  | (rename_i hv; cases h; exact Z6F hv)
  | split at h
theorem Z9N {α:Type} (P:Program):∀ (s:Sem α) (w:World),w.drawn<=(rW (s.run P w)).drawn:=by
 intro s
 induction s with
 | pure a=>exact fun w=>Y0m _
 | load m a k ih =>
   intro w;simp only [Sem.run]
   split
   . exact ih _ _
   . split
     . exact ih _ _
     . exact Y0m _
 | store m a v k ih =>
   intro w;cases v<;>simp only [Sem.run]<;>first
    | exact Y0m _
    | (split
       . split
         . exact Y0m _
         . exact ih (w.setCell a _)
       . split
         . rename_i hf;exact Y03 (Y4f (Z7t hf).symm) (ih _)
         . exact Y0m _)
 | new o k ih=>intro w; simp only [Sem.run]; exact ih _ { w with heap:=w.heap.push o }
 | shape r k ih=>intro w; simp only [Sem.run]; exact ih _ _
 | freeze a n k ih =>
   intro w;simp only [Sem.run];refine Y03 (Y4f ?_) (ih _);unfold World.freeze
   split<;>rfl
 | frozen a k ih=>intro w; simp only [Sem.run]; exact ih _ _
 | getObj r k ih =>
   intro w;simp only [Sem.run]
   split
   . exact Y0m _
   . exact ih _ _
   . exact Y0m _
 | setObj r o k ih =>
   intro w;simp only [Sem.run]
   split
   . exact Y0m _
   . exact ih { w with heap:=w.heap.setIfInBounds r o }
   . exact Y0m _
 | choose q k ih =>
   intro w;simp only [Sem.run]
   split
   . exact ih _ _
   . exact Y03 (Y40 _) (ih _ { w with drawn:=w.drawn+1 })
 | sys c k ih=>intro w; simp only [Sem.run]; exact Y03 (Zfz w c) (ih _ _)
 | program k ih=>intro w; simp only [Sem.run]; exact ih _ _
 | mark m k ih=>intro w; simp only [Sem.run]; exact ih _
 | halt h=>exact fun w=>Y0m _
theorem Z1e {α:Type} {P:Program} {s:Sem α} {w w':World} {a:α} (h:s.run P w=.ok a w'):w.drawn<=w'.drawn:=by
 have:=Z9N P s w
 rwa [h] at this
theorem Z21 {α:Type} {P:Program} {s:Sem α} {w w':World} {a:Halt} (h:s.run P w=.halt a w'):w.drawn<=w'.drawn:=by
 have:=Z9N P s w
 rwa [h] at this
theorem Z6G {α β:Type} {P:Program} {s:Sem α} {t:Sem β} {w w1 w2:World} {a:α} {b:β} (h:s.run P w=.ok a w1) (k:t.run P w1=.ok b w2):w.drawn<=w2.drawn:=Y03 (Z1e h) (Z1e k)
theorem Zjg {α β:Type} {P:Program} {s:Sem α} {t:Sem β} {w w1 w2:World} {a:α} {b:Halt} (h:s.run P w=.ok a w1) (k:t.run P w1=.halt b w2):w.drawn<=w2.drawn:=Y03 (Z1e h) (Z21 k)
theorem ZfA {D:Nat} {α:Type} {o:Option α} {a:GStep} {f:α->GStep} (ha:X1r D (gW a)) (hf:∀ k,X1r D (gW (f k))):X1r D (gW (o.elim a f)):=by
 cases o with
 | none=>exact ha
 | some k=>exact hf k
theorem Z32 (p:Program) (main:Bool) (fr:Frame) (callers:List Frame) (dying:Option Dying) (v:Value) (w:World):X1r w.drawn (gW (doReturn p main fr callers dying v w)):=by
 unfold doReturn
 repeat' first
  | exact Y0m _
  | trivial
  | split
theorem Z4y (fr:Frame) (a:List ByteArray) (m:String) (b:Bool) (w:World):X1r w.drawn (gW (dieOf fr a m b w)):=Y0m _
theorem Z3b (p:Program) (fr:Frame) (v:Value) (w:World):X1r w.drawn (gW (endPrinting p fr v w)):=by
 unfold endPrinting;simp only []
 split
 . exact Y0m _
 . trivial
theorem Z4r (p:Program) (fr:Frame) (callers:List Frame) (dying:Option Dying) (m:String) (w:World):X1r w.drawn (gW (endFatal p fr callers dying m w)):=by
 unfold endFatal;simp only []
 split
 . rename_i h;exact Z1e h
 . trivial
 . trivial
theorem Z8I (w:World) (fd:Nat) (t:ByteArray) (o:Outcome):X1r w.drawn (gW (endWith w fd t o)):=by
 unfold endWith;simp only []
 repeat' first
  | trivial
  | split
theorem Z8J (p:Program) (fr:Frame) (d:Dying) (f:Fatal) (w:World):X1r w.drawn (gW (writeOn p fr d f w)):=by
 unfold writeOn;simp only [Y3y]
 split
 . trivial
 . split
   . rename_i h;exact Z1e (Y3z h).1
   . rename_i h;exact Z21 (Y3z h).1
   . trivial
   . trivial
theorem ZfB (p:Program) (fr:Frame) (d:Dying) (w:World):X1r w.drawn (gW (die p fr d w)):=by
 unfold die;simp only [Y3y]
 repeat' first
  | exact Y0m _
  | trivial
  | exact Z8J _ _ _ _ _
  | exact Z8I _ _ _ _
  | exact Z1e (by assumption)
  | exact (Z3b _ _ _ _).mono (Z21 (by assumption))
  | rw [Z4c]
  | split
theorem Z50 (p:Program) (fr:Frame) (callers:List Frame) (dying:Option Dying) (d:Deferred) (w:World):X1r w.drawn (gW (callDeferred p fr callers dying d w)):=by
 unfold callDeferred;simp only [Y3y]
 repeat' first
  | exact Y0m _
  | trivial
  | exact Z1e (by assumption)
  | exact Z21 (by assumption)
  | exact (Z4r _ _ _ _ _ _).mono (Z21 (by assumption))
  | exact (Z4y _ _ _ _ _).mono (Z21 (by assumption))
  | rw [Z4c]
  | split
theorem Z9O (p:Program) (main:Bool) (fr:Frame) (callers:List Frame) (dying:Option Dying) (w:World):X1r w.drawn (gW (unwind p main fr callers dying w)):=by
 unfold unwind;simp only [Y3y]
 repeat' first
  | exact Y0m _
  | trivial
  | exact Z50 _ _ _ _ _ _
  | exact Z32 _ _ _ _ _ _ _
  | exact Z3b _ _ _ _
  | exact Z1e (by assumption)
  | exact (Z32 _ _ _ _ _ _ _).mono (Z1e (by assumption))
  | rw [Z4c]
  | split
theorem Zbm (p:Program) (fr:Frame) (callers:List Frame) (dying:Option Dying) (g:Nat) (w:World):X1r w.drawn (gW (early p fr callers dying g w)):=by
 unfold early;simp only []
 repeat' first
  | exact Y0m _
  | trivial
  | exact Z1e (by assumption)
  | (simp only [gW,X1r]; exact Z1e (by assumption))
  | rw [Z4c]
  | split
theorem Z4z (p:Program) (b:Bool) (fr:Frame) (callers:List Frame) (dying:Option Dying) (s:Sem Next) (w:World):X1r w.drawn (gW (stepG.apply p b fr callers dying s w)):=by
 unfold stepG.apply;simp only [Y3y];have hs:(if b=true then (s.run p w,s.events p w #[]) else (s.run p w,#[])).1=s.run p w:=by split<;>rfl
 generalize (if b=true then (s.run p w,s.events p w #[]) else (s.run p w,#[]))=x at hs ⊢;obtain⟨r,es⟩:=x;simp only at hs ⊢;subst hs
 repeat' first
  | exact Y0m _
  | trivial
  | exact Z1e (by assumption)
  | exact Z21 (by assumption)
  | exact (Z4r _ _ _ _ _ _).mono (Z21 (by assumption))
  | exact (Z4y _ _ _ _ _).mono (Z21 (by assumption))
  | exact (Z4y _ _ _ _ _).mono (Z1e (by assumption))
  | exact (Zbm _ _ _ _ _ _).mono (Z21 (by assumption))
  | rw [Z4c]
  | split
theorem ZdY (p:Program) (b:Bool) (fr:Frame) (callers:List Frame) (dying:Option Dying) (w:World):X1r w.drawn (gW (stepG.oper p b fr callers dying w)):=by
 unfold stepG.oper
 repeat' first
  | trivial
  | exact Z4z _ _ _ _ _ _ _
  | split
theorem ZdZ (p:Program) (main b:Bool) (fr:Frame) (callers:List Frame) (dying:Option Dying) (w:World):X1r w.drawn (gW (stepG.exec p main b fr callers dying w)):=by
 unfold stepG.exec;simp only [Y3y]
 repeat' first
  | exact Y0m _
  | trivial
  | exact Z4z _ _ _ _ _ _ _
  | exact ZdY _ _ _ _ _ _
  | exact Z1e (by assumption)
  | exact Z21 (by assumption)
  | exact (Z4z _ _ _ _ _ _ _).mono (Z1e (by assumption))
  | exact (Z32 _ _ _ _ _ _ _).mono (Z1e (by assumption))
  | rw [Z4c]
  | refine ZfA ?_ (fun _=>?_)
  | split
theorem Zbn (p:Program) (main b:Bool) (g:Goroutine) (w:World):X1r w.drawn (gW (stepG p main g w b)):=by
 unfold stepG
 repeat' first
  | exact ZfB _ _ _ _
  | exact ZdZ _ _ _ _ _ _ _
  | exact Z9O _ _ _ _ _ _
  | split
theorem Z5t {p:Program} {rest:Rest} {gs:Array Goroutine} {i:Nat} {g:Goroutine} {cases:Array CommCase} {b:Bool} {shape:CommShape} {w:World}:X1r w.drawn (sW (communicate p rest gs i g cases b shape w).1):=by
 have hwait:∀ w',waitingAt rest cases w=some w'->w'.drawn=w.drawn:=by
  intro w' h;unfold waitingAt at h
  repeat' first
   | (cases h; done)
   | (cases h; rfl)
   | split at h
 unfold communicate;simp only []
 repeat' first
  | exact Y0m _
  | trivial
  | exact Z1e (by assumption)
  | (simp only [sW,X1r]; exact Z1e (by assumption))
  | (simp only [sW,X1r]; exact Y4f (hwait _ (by assumption)).symm)
  | (simp only [sW,X1r]; exact Z6G (by assumption) (by assumption))
  | (simp only [sW,X1r]; exact Zjg (by assumption) (by assumption))
  | split
theorem Z7T (p:Program) (gs:Array Goroutine) (rest:Rest) (w:World):X1r w.drawn (sW (look p gs rest w)):=by
 unfold look;simp only []
 repeat' first
  | exact Y0m _
  | trivial
  | (simp only [sW,X1r]; exact Z1e (by assumption))
  | split
theorem Z8K {m:Machine} {op:TimerOp} {v:Value} {m':Machine} (h:timerOp m op=.ok (v,m')):m'.world.drawn=m.world.drawn:=by
 have hr:∀ (m:Machine) (k:Nat) (t:Timer) (a b:Nat),(retime m k t a b).2.world.drawn=m.world.drawn:=by
  intro m k t a b;unfold retime drain;simp only []
  repeat' first
   | rfl
   | split
 have ho:∀ (m':Machine) (a:Addr),timerOp.opened m a=some m'->m'.world.drawn=m.world.drawn:=by
  intro m' a h;unfold timerOp.opened at h
  repeat' first
   | (cases h; done)
   | (cases h; rfl)
   | split at h
 have hn:∀ (a:Addr) (f:Nat->Timer->Value×Machine) (D:Nat),(∀ k t,(f k t).2.world.drawn=D)->timerOp.named m a f=.ok (v,m')->m'.world.drawn=D:=by
  intro a f D hf h;unfold timerOp.named at h
  split at h
  . rename_i k _;have:=hf k (m.rest.timers.getD k default);injection h with h
    rw [h] at this;exact this
  . cases h
 unfold timerOp at h;simp only [] at h
 repeat' first
  | (cases h; done)
  | (cases h; rfl)
  | exact hn _ _ _ (fun k t=>hr _ _ _ _ _) h
  | (rename_i ho'; rw [<- ho _ _ ho']; exact hn _ _ _ (fun k t=>hr _ _ _ _ _) h)
  | split at h
theorem Ze0 (p:Program) (m:Machine) (i:Nat) (b:Bool):X1r m.world.drawn (sW (runT p m i b).1):=by
 simp only [runT];generalize m.gs.swapAt! _ _=gg;have hs:=Zbn p (i == 0) b gg.1 m.world;generalize stepG p _ gg.1 m.world b=s at hs;cases s<;>simp only [gW] at hs ⊢
 all_goals first
  | exact hs
  | trivial
  | exact Z5t.mono hs
  | exact (Z7T _ _ _ _).mono hs
  | skip
 all_goals repeat' first
  | exact hs
  | trivial
  | (simp only [sW,X1r]; rename_i ht; exact Y03 hs (Y4f (Z8K ht).symm))
  | split
theorem Zbo (p:Program) (m:Machine) (k:Nat):X1r m.world.drawn (sW (serve p m k)):=by
 unfold serve;simp only []
 repeat' first
  | exact Y0m _
  | trivial
  | split
def mW:Move->Option World
 | .goroutine m _=>some m.world
 | .machine s _=>sW s
theorem Z4A (p:Program) (m:Machine):X1r m.world.drawn (mW (askOn p m)):=by
 have pick:∀ (D:Nat) (rs:List Nat) (m:Machine),D<=m.world.drawn->X1r D (mW (match (choose (.sched rs.length)).run p m.world with
  | .halt _ w => .machine (.ended (.stuck "sched" "") w)
  | .ok k world =>
    if rs.length<=1 then .goroutine { m with world } (rs.getD k 0) else
    match (choose (.extern "sched.slice" 65536)).run p world with
    | .halt _ w => .machine (.ended (.stuck "sched.slice" "") w)
    | .ok n world=>.goroutine { m with world,rest:={ m.rest with slice:=if n=0 then none else some (rs.getD k 0,n) } } (rs.getD k 0))):=by
  intro D rs m hD;refine X1r.mono hD ?_
  repeat' first
   | trivial
   | (simp only [mW,X1r]; exact Z1e (by assumption))
   | (simp only [mW,X1r]; exact Z6G (by assumption) (by assumption))
   | split
 unfold askOn;simp only []
 generalize hs:(if (due m.rest.timers m.world.os.mono).isEmpty=true then (pure 0:Sem Nat)
  else choose (.extern "timer.serve" ((due m.rest.timers m.world.os.mono).length + (if ((runnable m.gs m.world.os.mono).isEmpty && (ahead m false).isNone) = true then 0 else 1)))) = s0
 cases hr:s0.run p m.world with
 | halt h w=>trivial
 | ok k world =>
   simp only []
   split
   . exact (Zbo p { m with world } _).mono (Z1e hr)
   . split
     . split
       . exact show m.world.drawn<=world.drawn from Z1e hr
       . split
         . exact show m.world.drawn<=world.drawn from Z1e hr
         . split<;>trivial
     . split
       . exact pick _ _ { m with world } (Z1e hr)
       . split
         . trivial
         . exact pick _ _ { m with world:=_ } (Z6G hr (by assumption))
         . simp only [mW, sW, X1r, Machine.advanceTo];exact Z6G hr (by assumption)
         . rename_i w2 h2;exact pick _ _ (Machine.advanceTo { m with world:=w2 } _) (show m.world.drawn<=w2.drawn from Z6G hr h2)
theorem ask_drawn' (p:Program) (m:Machine):X1r m.world.drawn (mW (ask p m)):=by
 unfold ask
 split
 . split
   . trivial
   . rename_i w h;have hl:=Z7T p m.gs m.rest w
     split
     . rename_i m2 h2;rw [h2] at hl;exact (Z4A p m2).mono (Y03 (Z1e h) hl)
     . exact hl.mono (Z1e h)
   . rename_i h;exact (Z4A p { m with world:=_ }).mono (Z1e h)
 . exact Z4A p m
theorem Ze1 (p:Program) (m:Machine):X1r m.world.drawn (mW (move p m)):=by
 unfold move
 repeat' first
  | exact Y0m _
  | trivial
  | exact ask_drawn' p m
  | exact ask_drawn' p { m with rest:=_ }
  | split
theorem Ze2 (p:Program) (m:Machine):X1r m.world.drawn (sW (step p m)):=by
 have h:=Ze1 p m;unfold step stepT;cases hm:move p m with
 | goroutine m2 i =>
   rw [hm] at h;exact (Ze0 p m2 i true).mono h
 | machine s ops =>
   rw [hm] at h;exact h
theorem Zbp {P:Program} {m m':Machine} (h:Steps P m m'):m.world.drawn<=m'.world.drawn:=by
 obtain⟨n,hn⟩:=h
 induction n generalizing m with
 | zero=>rw [runN] at hn; cases hn; exact Y0m _
 | succ n ih =>
   rw [runN] at hn;have hs:=Ze2 P m
   split at hn
   . rename_i m1 h1;rw [h1] at hs;exact Y03 hs (ih hn)
   . rename_i e he;cases hst:step P m with
     | next m1=>exact absurd hst (he m1)
     | ended o w=>rw [hst] at hn; cases hn
theorem Zbq {P:Program} {f:FuncId} {args:Array Value} {w:World} {R:Ending->World->Prop} (h:Calls P f args w R):Calls P f args w fun e w'=>R e w'/\∀ v,e=.returned v->w.drawn<=w'.drawn:=by
 intro cs;obtain⟨e,w',fr,hR,hc,hf,hl⟩:=h cs;refine⟨e,w',fr,⟨hR,?_⟩,hc,hf,hl⟩;rintro v rfl;exact Zbp (m:=lone (Frame.enter P f args .normal) cs w) (m':=lone fr cs w') hc
end
section
open Go.RowKit
attribute [local irreducible] aw Xj dK
theorem Z4d {size n:Nat} {e:Env} {h:X1} {a:Operand} {l:List PV} (ha:ev e a=some (.cp l)) (hl:l.length=size):X4 (.load true size a) e h n=some (.agg l,h):=by
 subst hl;simp [X4,ha,X19]
theorem Zc {α:Type} {enc:α->List PV} (hp:∀ x,X6 (enc x)) (xs:List α):X3 (xs.map enc):=Z37 _ _ fun x _=>hp x
theorem Z51 {α:Type} {p:α->Bool} {xs:List α} {i:Nat} (hi:i<xs.length) (h:(xs.take i).any p=false) (hx:p xs[i]=false):(xs.take (i+1)).any p=false:=by
 rw [YX,Y0c hi,Y2W,h];simp [hx]
def X2I {α:Type} (p:α->Bool):List α->Int
 | [] => -1
 | x :: xs=>if p x then 0 else (if X2I p xs<0 then -1 else X2I p xs+1)
theorem Z2I {α:Type} {p:α->Bool}:∀ {xs:List α},xs.any p=false->X2I p xs = -1
 | [],_=>rfl
 | x :: xs, h => by
   rw [Y3g,Y3e] at h;simp [X2I,h.1,Z2I h.2]
theorem Z5u {α:Type} {p:α->Bool}:∀ {xs:List α} {i:Nat} (hi:i<xs.length),(xs.take i).any p=false->p xs[i]=true->X2I p xs=(i:Int)
 | x :: xs,0,_,_,hx=>by simp only [List.getElem_cons_zero] at hx; simp [X2I,hx]
 | x :: xs, i + 1, hi, h, hx => by
   rw [List.take_succ_cons,Y3g,Y3e] at h;have:=Z5u (p:=p) (xs:=xs) (i:=i) (by simpa using hi) h.2 (by simpa using hx);simp only [X2I,h.1,this];have h3:¬ ((i:Int)<0):=by omega
   simp [h3]
theorem Z6H {α:Type} {p:α->Bool}:∀ {xs:List α},xs.any p=true->0<=X2I p xs
 | [],h=>by cases h
 | x :: xs, h => by
   rw [Y3g,YO] at h;unfold X2I;by_cases hx:p x=true
   . rw [Y5 hx]; exact Int.le_refl 0
   . have := Z6H (h.resolve_left hx);rw [Y6 hx,Y6 (by omega)];omega
theorem Z6a {α:Type} {p:α->Bool} {xs:List α}:decide (0<=X2I p xs)=xs.any p:=by
 cases h:xs.any p
 . rw [Z2I h]; rfl
 . exact Ye (Z6H h)
theorem Z6I {α:Type} (xs:List α) (enc:α->List PV) (fl:Bool) (g:Nat) (caps:List PV) (p:α->Bool) (hl:∀ x,(enc x).length=2) (hp:∀ x,X6 (enc x)) (hc:X6 caps) (hg:∀ x∈xs,X7 Tryz.prog g (.agg (enc x) :: caps) (· = .val (.bool (p x)))) :
 X7 Tryz.prog 101 [.vec (xs.map enc) fl,.fn g caps] (· = .val (.int .i64 (X2I p xs))):=by
 refine Yp ok101 fun C hC=>?_;refine Z4q (k:=0) rfl fun hmax=>?_;have hnl:(xs.map enc).length=xs.length:=by simp
 have hlm:xs.length<=Xe:=by simpa using hmax
 refine go ?_;refine Z47 (fun i=>i<=xs.length/\(xs.take i).any p=false) (fun i=>xs.length-i) (fun i => [(0,.vec (xs.map enc) fl),(1,.fn g caps),(7,.val (.int .i64 (xs.length:Int))),(8,Yv i)]) 0 ⟨Y0l _,rfl⟩ ⟨rfl,rfl,by rw [<- hnl]; rfl,rfl,Yt⟩ ?_;rintro i ⟨hi,hno⟩;have hinc:IntKind.i64.wrap ((i:Int)+1)=((i+1:Nat):Int):=Y0v _ ⟨by omega,by simp only [Xe] at hlm; omega⟩;(refine go ?_;repeat' (apply B<;>intro hb<;>try cases hb))
 . have hil : i < xs.length := by simpa using hb
   refine Qo (Zq (xs:=xs) rfl rfl i rfl hil (hl _)) ?_;refine Qo (Z4d rfl (hl _)) ?_;refine Qe (hg _ (Y0j hil)) ⟨hp _,hc⟩ ?_;refine Z1L ?_;refine Z5p rfl (fun hx=>?_) (fun hx=>?_)
   . refine go ?_;exact Z7 rfl Yt (by rw [Z5u hil hno hx])
   . (refine go ?_;repeat' (apply B<;>intro hb<;>try cases hb));exact⟨i+1,⟨by omega,Z51 hil hno hx⟩,by omega,rfl,rfl,⟨rfl,rfl,rfl,by show some _=some _; rw [hinc],Yt⟩⟩
 . have hil : i = xs.length := by simp at hb; omega
   subst hil;rw [Y0q] at hno;exact Z7 rfl Yt (by rw [Z2I hno]; rfl)
theorem Z1t {α:Type} (xs:List α) (enc:α->List PV) (fl:Bool) (g:Nat) (caps:List PV) (p:α->Bool) (hl:∀ x,(enc x).length=2) (hp:∀ x,X6 (enc x)) (hc:X6 caps) (hg:∀ x∈xs,X7 Tryz.prog g (.agg (enc x) :: caps) (· = .val (.bool (p x)))) :
 X7 Tryz.prog 52 [.vec (xs.map enc) fl,.fn g caps] (· = .val (.bool (xs.any p))):=by
 refine Yp ok52 fun C hC=>?_;refine go ?_;refine Qe (Z6I xs enc fl g caps p hl hp hc hg) ⟨Zc hp xs,hc,Yt⟩ ?_;refine Qo (Z8 rfl (Z6a (p:=p) (xs:=xs))) ?_;(refine go ?_;repeat' (apply B<;>intro hb<;>try cases hb))
 all_goals exact Z7 rfl Yt (by rw [hb])
end
section
open Go.RowKit
section
variable {P:Program} {C:Ctx} {e:Env} {h:X1} {F:XE} {φ:XF} {a:Act} {w:World}
theorem St'.renF {n:Nat} (s:St' C (fun i=>n<=i) e h F φ a w) (ρ:Nat->Nat) {n':Nat} {e':Env} {h':X1} (he:∀ k p,e' k=some p->∃ p0,e k=some p0/\X1A ρ (fun i=>i<n') p0 p) (hh:∀ k b,h' k=some b->k<n'/\∃ b0,h (ρ k)=some b0/\Xr ρ (fun i=>i<n') b0 b)
 (hinj:∀ k k' b b',h' k=some b->h' k'=some b'->ρ k=ρ k'->k=k') {m:Nat} (hdom:C.dom m) (hm:m<=n') (hρ:∀ i,i<m->ρ i=i):∃ φ',St' C (fun i=>n'<=i) e' h' F φ' a w:=by
 let φ':XF:=fun i=>if i<n' then φ (ρ i) else none
 have hφ:∀ i x,i<n'->φ (ρ i)=some x->φ' i=some x:=fun i x hi hx=>by simp only [φ',hi,Y1X]; exact hx
 refine⟨φ',{ nt:=s.nt,glob:=s.glob,marks:=s.marks,loc0:=fun i x hx=>?_,free:=fun i hi=>?_,env:=fun k p hp=>?_,froz:=s.froz,ext:=s.ext,old:=s.old,os:=s.os,tape:=s.tape,output:=s.output,size:=s.size,kept:=s.kept,live:=fun i b hb=>?_,sep:=?_ }⟩
 . have : ¬ i < n' := by omega
   simp only [φ',this,Y2d]
 . obtain ⟨p0, h0, hr⟩ := he _ _ hp;exact⟨(s.env k p0 h0).1,hr.rep hφ (s.env k p0 h0).2⟩
 . by_cases him : i < m
   . exact hφ i x (by omega) (by rw [hρ i him]; exact s.loc0 i x hx)
   . rw [hdom i (by omega)] at hx; cases hx
 . obtain ⟨hi, b0, h0, hr⟩ := hh _ _ hb;obtain⟨loc,h1,h2,h3⟩:=s.live _ b0 h0;refine⟨loc,hφ i loc hi h1,?_,h3⟩;cases hr with
   | same hp=>exact h2.names hp
   | gen _ hz he hl hcl hrp =>
     have h2:=h2.cellsB (by rw [he]; exact hz);refine .inl ⟨by rw [<- he]; exact h2.esz,h2.pos,by rw [<- hl]; exact h2.len,h2.cap,h2.max,fun c hc=>?_,fun hc=>?_⟩
     . obtain ⟨k, hk, rfl⟩ := Y16 hc;have e1:b.elems[k]=b.elems.getD k []:=by simp [Y0b,hk]
       rw [e1,<- hcl k hk]
       exact h2.el _ (by have hk' : k < b0.elems.length := by rw [hl]; exact hk
                         simp [Y0b,hk'])
     . obtain ⟨x, hx, hs, cells, t, hg, hsz, hrep⟩ := h2.room hc;refine⟨x,hx,hs,cells,t,hg,hsz,fun i j hi hj=>⟨(hrep i j hi hj).1,?_⟩⟩;exact (hrp i j (by rw [<- hl,h2.len]; exact hi) (by rw [<- he,h2.esz]; exact hj)).rep hφ (hrep i j hi hj).2
 . intro i j bi bj li lj k hi hj hli hlj hki hkj;obtain⟨hin,b0,h0,_⟩:=hh _ _ hi;obtain⟨hjn,c0,g0,_⟩:=hh _ _ hj;have hli':φ (ρ i)=some li:=by simpa only [φ',show i<n' from hin,Y1X] using hli
   have hlj':φ (ρ j)=some lj:=by simpa only [φ',show j<n' from hjn,Y1X] using hlj
   exact hinj _ _ _ _ hi hj (s.sep _ _ b0 c0 li lj k h0 g0 hli' hlj' hki hkj)
theorem Zhv (ρ:Nat->Nat) {n n':Nat} {e':Env} {h':X1} (he:∀ k p,e' k=some p->∃ p0,e k=some p0/\X1A ρ (fun i=>i<n') p0 p) (hh:∀ k b,h' k=some b->k<n'/\∃ b0,h (ρ k)=some b0/\Xr ρ (fun i=>i<n') b0 b)
 (hinj:∀ k k' b b',h' k=some b->h' k'=some b'->ρ k=ρ k'->k=k') {m:Nat} (hdom:C.dom m) (hm:m<=n') (hρ:∀ i,i<m->ρ i=i):Sub C n e h n' e' h':=by
 rintro a w ⟨F,φ,s⟩;obtain⟨φ',s'⟩:=s.renF ρ he hh hinj hdom hm hρ;exact⟨F,φ',s'⟩
def X1I (h:X1) (D n:Nat) (f:Nat->PV) (K:Nat) (g:Nat->Bx):X1:=fun k =>
 bif Nat.beq k D then some ⟨1,(List.range 64).map fun j => [f j]⟩ else bif Nat.ble n k&&Nat.blt k (n+K) then some (g (k-n)) else h k
def X1h (n i:Nat) (j:Nat):PV:=if j<i then .own (n+j) else .vec [] true
theorem Z2Q (h:X1) (D n:Nat) (f:Nat->PV) (K:Nat) (g:Nat->Bx):X1I h D n f K g D=some ⟨1,(List.range 64).map fun j => [f j]⟩:=by
 unfold X1I;rw [show Nat.beq D D=true from Y4g D]; rfl
theorem Z2w (h:X1) {D n:Nat} (hD:D<n) (f:Nat->PV) {K:Nat} (g:Nat->Bx) {j:Nat} (hj:j<K):X1I h D n f K g (n+j)=some (g j):=by
 unfold X1I;have e1:Nat.beq (n+j) D=false:=YB.2 fun hb=>by have:=YK hb; omega
 have e2:Nat.ble n (n+j)=true:=Eq.mpr Nat.ble_eq (by omega);have e3:Nat.blt (n+j) (n+K)=true:=Eq.mpr Y4D (by omega);rw [e1,e2,e3];simp
theorem Z2x (h:X1) {D n:Nat} (f:Nat->PV) {K:Nat} (g:Nat->Bx) {k:Nat} (hk:k≠D) (hn:k<n \/ n+K<=k):X1I h D n f K g k=h k:=by
 unfold X1I;have e1:Nat.beq k D=false:=YB.2 fun hb=>hk (YK hb);rw [e1];rcases hn with hn|hn
 . have e2 : Nat.ble n k = false := YB.2 fun hb => by have := Y0 hb; omega
   rw [e2]; rfl
 . have e2 : Nat.blt k (n + K) = false := YB.2 fun hb => by have := Eq.mp Y4D hb; omega
   rw [e2]; simp
theorem Z7V {h:X1} {D n:Nat} (hD:D<n) {f:Nat->PV} {K:Nat} {g:Nat->Bx} {k:Nat} {b:Bx} (hk:X1I h D n f K g k=some b):(k=D/\b=⟨1,(List.range 64).map fun j => [f j]⟩) \/ (∃ j,j<K/\k=n+j/\b=g j) \/ (k≠D/\(k<n \/ n+K<=k)/\h k=some b):=by
 by_cases h1:k=D
 . subst h1; rw [Z2Q] at hk; cases hk; exact .inl ⟨rfl,rfl⟩
 . by_cases h2 : n <= k /\ k < n + K
   . obtain ⟨j, rfl⟩ : ∃ j, k = n + j := ⟨k - n, by omega⟩;rw [Z2w h hD f g (by omega)] at hk;cases hk;exact .inr (.inl ⟨j,by omega,rfl,rfl⟩)
   . have h3 : k < n \/ n + K <= k := by omega
     rw [Z2x h f g h1 h3] at hk;exact .inr (.inr ⟨h1,h3,hk⟩)
theorem Z52 {f:Nat->List PV} {i:Nat} (r:List PV) (hi:i<64):((List.range 64).map f).set i r=(List.range 64).map fun j=>if j=i then r else f j:=by
 apply List.ext_getElem?;intro j;rw [YV,Y0f,Y2C,Y0y,Y0y];by_cases hj:j<64
 . rw [Y3l hj];by_cases e:i=j
   . subst e; simp [hi]
   . rw [Y6 e]; simp [Y23 e]
 . rw [Y2z (by simpa using hj)];by_cases e:i=j
   . subst e; exact absurd hi hj
   . rw [Y6 e]; rfl
theorem Z1n {f:Nat->List PV} {i:Nat} (hi:i<64):((List.range 64).map f).getD i []=f i:=by
 rw [Y0b,Y0y,Y3l hi]; rfl
theorem ZfC {h:X1} {D n i:Nat} (hD:D<n) (hi:i<64) (esz:Nat) :
 ((X1I h D n (X1h n i) i (fun _=>⟨esz,[]⟩)).upd D ⟨1,((List.range 64).map fun j => [X1h n i j]).set i ((((List.range 64).map fun j => [X1h n i j]).getD i []).set 0 (.own (n+i)))⟩).upd (n+i) ⟨esz,[]⟩=X1I h D n (X1h n (i+1)) (i+1) (fun _=>⟨esz,[]⟩):=by
 funext k;rw [Z1n hi,Z52 _ hi];by_cases h1:k=n+i
 . subst h1;rw [X1.upd_same,Z2w _ hD _ _ (Y2K i)]
 . rw [X1.upd_ne _ _ h1];by_cases h2:k=D
   . subst h2;rw [X1.upd_same,Z2Q];refine congrArg (fun l=>some (Bx.mk 1 l)) (Y2m fun j hj=>?_);unfold X1h;by_cases hji:j=i
     . subst hji; rw [Y5 rfl,Y5 (Y2K _)]; rfl
     . rw [Y6 hji];by_cases hlt:j<i
       . rw [Y5 hlt,Y5 (by omega)]
       . rw [Y6 hlt,Y6 (by omega)]
   . rw [X1.upd_ne _ _ h2];by_cases h3:n<=k/\k<n+i
     . obtain ⟨j, rfl⟩ : ∃ j, k = n + j := ⟨k - n, by omega⟩;rw [Z2w _ hD _ _ (by omega:j<i),Z2w _ hD _ _ (by omega:j<i+1)]
     . rw [Z2x _ _ _ h2 (by omega),Z2x _ _ _ h2 (by omega)]
theorem Ze5 {n D:Nat} (hD:D<n) (hb:h D=some ⟨1,List.replicate 64 [.vec [] true]⟩) (esz:Nat) (hp:0<esz):Sub C n e h (n+64) e (X1I h D n (fun j=>.own (n+j)) 64 (fun _=>⟨esz,[]⟩)):=by
 have key:∀ i,i<=64->Sub C n e h (n+i) e (X1I h D n (X1h n i) i (fun _=>⟨esz,[]⟩)):=by
  intro i
  induction i with
  | zero =>
    intro _;have e0:X1I h D n (X1h n 0) 0 (fun _=>⟨esz,[]⟩)=h:=by
     funext k;by_cases h2:k=D
     . subst h2;rw [Z2Q,hb];have:∀ l:List Nat,(l.map fun j => [X1h n 0 j])=List.replicate l.length [PV.vec [] true]:=by
        intro l
        induction l with
        | nil=>rfl
        | cons x l ih=>rw [Y29,ih]; rfl
       rw [this,Y2C]
     . exact Z2x _ _ _ h2 (by omega)
    rw [e0];exact Z8A
  | succ i ih =>
    intro hi;have hi':i<64:=by omega
    refine Z6t (ih (by omega)) ?_;have e1:=ZfC (h:=h) hD hi' esz;rw [<- e1];refine Z6A (id:=D) (b:=⟨1,(List.range 64).map fun j => [X1h n i j]⟩) (i0:=i) (j0:=0) (Z2Q _ _ _ _ _ _) (by simpa using hi') (by rw [Z1n hi']; exact Y1B) ?_ esz hp (by omega);rw [Z1n hi'];show (X1h n i i)=_;unfold X1h;rw [Y6 (Nat.lt_irrefl i)]
 have e2:X1I h D n (X1h n 64) 64 (fun _=>⟨esz,[]⟩)=X1I h D n (fun j=>.own (n+j)) 64 (fun _=>⟨esz,[]⟩):=by
  unfold X1I;have:((List.range 64).map fun j => [X1h n 64 j])=(List.range 64).map fun j => [PV.own (n+j)]:=Y2m fun j hj=>by
   unfold X1h;rw [Y5 (Y1s.1 hj)]
  rw [this]
 rw [<- e2];exact key 64 (Y0m _)
end
noncomputable def jun (l:List Pr) (r:Nat):Nat:=bel l r ||| 2 ^ r
theorem Z6L {l:List Pr} (hl:XK l) (r b:Nat):(jun l r).testBit b=true↔Up l r b \/ b=r:=by
 unfold jun;rw [Y00,YO,Zfu hl,YI];simp only [Y0n];exact⟨fun h=>h.imp id Eq.symm,fun h=>h.imp id Eq.symm⟩
theorem ZcS (l:List Pr) {r:Nat} (hr:r<64):jun l r<18446744073709551616:=Z1T (Zfv l r) (ZU hr)
def X2m (l:List Pr) (s:Nat):Nat:=l.foldl (fun n x=>if s.testBit x.1=true then n ||| 2 ^ x.2 else n) s
theorem Z7W (s b:Nat):∀ (l:List Pr) (n:Nat),(l.foldl (fun n x=>if s.testBit x.1=true then n ||| 2 ^ x.2 else n) n).testBit b=true↔n.testBit b=true \/ ∃ x∈l,s.testBit x.1=true/\x.2=b
 | [],n=>by simp
 | x :: l, n => by
   rw [Y17,Z7W s b l];by_cases hx:s.testBit x.1=true
   . rw [Y5 hx, Y00, YO, YI];simp only [Y0n];constructor
     . rintro ((h | h) | ⟨y, hy, h⟩)
       . exact .inl h
       . exact .inr ⟨x,Y0t ..,hx,h⟩
       . exact .inr ⟨y,YD _ hy,h⟩
     . rintro (h | ⟨y, hy, h1, h2⟩)
       . exact .inl (.inl h)
       . rcases YA.1 hy with rfl | hy
         . exact .inl (.inr h2)
         . exact .inr ⟨y,hy,h1,h2⟩
   . rw [Y6 hx];constructor
     . rintro (h | ⟨y, hy, h⟩)
       . exact .inl h
       . exact .inr ⟨y,YD _ hy,h⟩
     . rintro (h | ⟨y, hy, h1, h2⟩)
       . exact .inl h
       . rcases YA.1 hy with rfl | hy
         . exact absurd h1 hx
         . exact .inr ⟨y,hy,h1,h2⟩
theorem Z54 (l:List Pr) (s b:Nat):(X2m l s).testBit b=true↔s.testBit b=true \/ ∃ x∈l,s.testBit x.1=true/\x.2=b:=Z7W s b l s
theorem Ze8 {l:List Pr} {i:Nat} (hi:i<l.length) (s n:Nat):(l.take (i+1)).foldl (fun n x=>if s.testBit x.1=true then n ||| 2 ^ x.2 else n) n=if s.testBit l[i].1=true then (l.take i).foldl (fun n x=>if s.testBit x.1=true then n ||| 2 ^ x.2 else n) n ||| 2 ^ l[i].2 else (l.take i).foldl (fun n x=>if s.testBit x.1=true then n ||| 2 ^ x.2 else n) n:=by
 have e:l.take (i+1)=l.take i ++ [l[i]]:=by rw [YX,Y0c hi]; rfl
 rw [e,Y1t]; rfl
theorem Z9T {l:List Pr} (hl:XK l) (s:Nat):∀ (n:Nat),n<18446744073709551616->l.foldl (fun n x=>if s.testBit x.1=true then n ||| 2 ^ x.2 else n) n<18446744073709551616:=by
 induction l with
 | nil=>exact fun n hn=>hn
 | cons x l ih =>
   intro n hn;rw [Y17];refine ih (fun p hp=>hl p (YD _ hp)) _ ?_
   split
   . exact Z1T hn (ZU (hl x (Y0t ..)).2)
   . exact hn
theorem ZhD {l:List Pr} (hl:XK l) {s:Nat} (hs:s<18446744073709551616):X2m l s<18446744073709551616:=Z9T hl s s hs
structure X2L (l:List Pr) (r s:Nat):Prop where
 lt:s<18446744073709551616
 self:s.testBit r=true
 sound:∀ b,s.testBit b=true->Up l r b \/ b=r
theorem X2L.init {l:List Pr} {r:Nat} (hr:r<64):X2L l r (2 ^ r):=⟨ZU hr,Y2i,fun b hb=>by rw [YI] at hb; exact .inr (Y0u hb).symm⟩
theorem X2L.step {l:List Pr} (hl:XK l) {r s:Nat} (h:X2L l r s):X2L l r (X2m l s):=by
 refine⟨ZhD hl h.lt,(Z54 l s r).2 (.inl h.self),fun b hb=>?_⟩;rcases (Z54 l s b).1 hb with hb|⟨x,hx,h1,rfl⟩
 . exact h.sound b hb
 . rcases h.sound _ h1 with h2 | h2
   . exact .inl (.more h2 hx)
   . refine .inl (.one ?_);rw [<- h2]; exact hx
theorem X2L.done {l:List Pr} (hl:XK l) {r s:Nat} (hr:r<64) (h:X2L l r s) (he:X2m l s=s):s=jun l r:=by
 refine X5P h.lt (ZcS l hr) fun b hb=>?_;rw [YN,Z6L hl];refine⟨h.sound b,?_⟩;have hcl:∀ a b,s.testBit a=true->(a,b)∈l->s.testBit b=true:=fun a b ha hab=>by
  rw [<- he];exact (Z54 l s b).2 (.inr ⟨(a,b),hab,ha,rfl⟩)
 rintro (hu|rfl)
 . induction hu with
   | one k=>exact hcl _ _ h.self k
   | more _ k ih=>exact hcl _ _ (ih (hl _ k).1) k
 . exact h.self
theorem Zbx (l:List Pr) (s:Nat) (h:X2m l s≠s):s<X2m l s:=by
 have hle:s<=X2m l s:=by
  have e:s ||| X2m l s=X2m l s:=by
   apply YC;intro i;rw [Y00];cases hi:s.testBit i with
   | true=>rw [(Z54 l s i).2 (.inl hi)]; rfl
   | false=>rw [Y1I]
  rw [<- e];exact Y13
 omega
noncomputable def X32 (l:List Pr) (s k:Nat):Nat:=((List.range k).filter fun i=>s.testBit i).foldl (fun o r=>if 1<=r then o ||| jun l r else o) 0
noncomputable def clo (l:List Pr) (s:Nat):Nat:=X32 l s 64
theorem Zby (l:List Pr) (s:Nat):clo l s=(mem s).foldl (fun o r=>if 1<=r then o ||| jun l r else o) 0:=rfl
theorem Z7X (l:List Pr) (s k:Nat):X32 l s (k+1)=if s.testBit k=true/\1<=k then X32 l s k ||| jun l k else X32 l s k:=by
 unfold X32;rw [Y3S,Y2u,Y1t];by_cases h:s.testBit k=true
 . rw [Y4G (by simpa using h)];by_cases h1:1<=k
   . simp [h,h1]
   . simp [h,h1]
 . rw [Y4H (by simpa using h)];simp [h]
theorem ZfJ (l:List Pr) (s:Nat):X32 l s 1=0:=by
 rw [Z7X,Y6 (by omega)]; rfl
theorem Zbz (l:List Pr):∀ (rs:List Nat) (o:Nat),(∀ r∈rs,r<64)->o<18446744073709551616->rs.foldl (fun o r=>if 1<=r then o ||| jun l r else o) o<18446744073709551616
 | [],o,_,ho=>ho
 | r :: rs, o, h, ho => by
   rw [Y17];refine Zbz l rs _ (fun x hx=>h x (YD _ hx)) ?_
   split
   . exact Z1T ho (ZcS l (h r (Y0t ..)))
   . exact ho
theorem ZcT (l:List Pr) (s:Nat) {k:Nat} (hk:k<=64):X32 l s k<18446744073709551616:=Zbz l _ 0 (fun r hr=>by have:=Y1s.1 (Y1b.1 hr).1;omega) (by decide)
theorem Z7Y (l:List Pr) (s:Nat):clo l s<18446744073709551616:=ZcT l s (Y0m _)
theorem ZcU (l:List Pr) (b:Nat):∀ (rs:List Nat) (o:Nat),(rs.foldl (fun o r=>if 1<=r then o ||| jun l r else o) o).testBit b=true↔o.testBit b=true \/ ∃ r∈rs,1<=r/\(jun l r).testBit b=true
 | [],o=>by simp
 | r :: rs, o => by
   rw [Y17,ZcU l b rs];by_cases h1:1<=r
   . rw [Y5 h1, Y00, YO];constructor
     . rintro ((h | h) | ⟨x, hx, h⟩)
       . exact .inl h
       . exact .inr ⟨r,Y0t ..,h1,h⟩
       . exact .inr ⟨x,YD _ hx,h⟩
     . rintro (h | ⟨x, hx, h2, h3⟩)
       . exact .inl (.inl h)
       . rcases YA.1 hx with rfl | hx
         . exact .inl (.inr h3)
         . exact .inr ⟨x,hx,h2,h3⟩
   . rw [Y6 h1];constructor
     . rintro (h | ⟨x, hx, h⟩)
       . exact .inl h
       . exact .inr ⟨x,YD _ hx,h⟩
     . rintro (h | ⟨x, hx, h2, h3⟩)
       . exact .inl h
       . rcases YA.1 hx with rfl | hx
         . exact absurd h2 h1
         . exact .inr ⟨x,hx,h2,h3⟩
theorem ZfK {l:List Pr} (s b:Nat) (hs:s<18446744073709551616):(clo l s).testBit b=true↔∃ r,s.testBit r=true/\1<=r/\(jun l r).testBit b=true:=by
 rw [Zby,ZcU];constructor
 . rintro (h | ⟨r, hr, h⟩)
   . simp at h
   . exact⟨r,(Z13 hs).1 hr,h⟩
 . rintro ⟨r, hr, h⟩;exact .inr ⟨r,(Z13 hs).2 hr,h⟩
structure X3Q (l:List Pr):Prop where
 asc:l.Pairwise fun p q=>p.1<q.1 \/ p.1=q.1/\p.2<q.2
 role:∀ p∈l,1<=p.1/\p.1<=6/\1<=p.2/\p.2<=6/\p.1≠p.2
 acy:Acy l
theorem X3Q.small {l:List Pr} (h:X3Q l):XK l:=fun p hp=>by have:=h.role p hp; omega
end
section
open Go.RowKit
attribute [local irreducible] aw Xj dK
abbrev Cu:=Nat×Nat
def cuC (c:Cu):List PV := [.vec (X5 (X9 c.1)) false,.vec (X5 (X9 c.2)) false]
def cuP (c:Cu):PV:=.agg (cuC c)
def Xw (c:Cu):Prop:=c.1<18446744073709551616/\c.2<18446744073709551616
theorem Zi (c:Cu):X6 (cuC c):=⟨Z6 _,Z6 _,Yt⟩
theorem Zy (c:Cu):(cuP c).pure:=Zi c
theorem Zjm (c:Cu):(cuC c).length=2:=rfl
def emC (c:Cu):Bool:=decide (c.1 &&& c.2≠0)
def hoC (c:Cu) (s:Nat):Bool:=decide (c.1 ||| s=s) && !decide (c.2 &&& s≠0)
def soC (l:List Cu) (s:Nat):Bool:=l.any fun c=>hoC c s
def wiC (a b:Cu):Bool:=emC a||(decide (b.1 ||| a.1=a.1)&&decide (b.2 ||| a.2=a.2))
def X14 (a b:Cu):Cu:=(a.1 ||| b.1,a.2 ||| b.2)
def eqC (a b:Cu):Bool:=decide (a.1=b.1)&&decide (a.2=b.2)
theorem ZbD (a b:Cu):eqC a b=true↔a=b:=by
 obtain⟨a1,a2⟩:=a;obtain⟨b1,b2⟩:=b;simp [eqC,Y2Q]
theorem Z1m (c:Cu) (hc:Xw c):X7 Tryz.prog 97 [cuP c] (· = .val (.bool (emC c))):=by
 refine Yp ok97 fun C hC=>?_;refine Zn ?_;refine Za ?_;refine Z5 rfl rfl rfl ?_;refine go ?_;refine Qe (Z4a c.1 c.2 hc.1 hc.2) ⟨Z2 _,Z2 _,Yt⟩ ?_;(refine go ?_;repeat' (apply B<;>intro hb<;>try cases hb))
 all_goals exact Z7 rfl Yt (XW hb.symm)
theorem Z4C (c:Cu) (s:Nat) (hc:Xw c) (hs:s<18446744073709551616):X7 Tryz.prog 84 [cuP c,XC s] (· = .val (.bool (hoC c s))):=by
 refine Yp ok84 fun C hC=>?_;refine Zn ?_;refine Za ?_;refine Z5 rfl rfl rfl ?_;refine Z5 rfl rfl rfl ?_;refine go ?_;refine Qe (Z1Q c.1 s hc.1 hs) ⟨Z2 _,Z2 _,Yt⟩ ?_;unfold hoC;cases hd:decide (c.1 ||| s=s)
 . refine go ?_;exact Z7 rfl Yt rfl
 . refine go ?_;refine Qe (Z4a c.2 s hc.2 hs) ⟨Z2 _,Z2 _,Yt⟩ ?_;(refine go ?_;repeat' (apply B<;>intro hb<;>try cases hb))
   all_goals exact Z7 rfl Yt (XW (by simp_all))
theorem ZbE (c:Cu) (s:Nat) (hc:Xw c) (hs:s<18446744073709551616):X7 Tryz.prog 86 [cuP c,.cp [.vec (X5 (X9 s)) false]] (· = .val (.bool (hoC c s))):=by
 refine Yp ok86 fun C hC=>?_;refine Zn ?_;refine Za ?_;refine Z5 rfl rfl rfl ?_;refine go ?_;refine Qe (Z4C c s hc hs) ⟨Zi _,Z2 _,Yt⟩ ?_;(refine go ?_;repeat' (apply B<;>intro hb<;>try cases hb))
 all_goals exact Z7 rfl Yt (XW (by simp [hb]))
theorem Z5v (l:List Cu) (fl:Bool) (s:Nat) (hl:∀ c∈l,Xw c) (hs:s<18446744073709551616):X7 Tryz.prog 35 [.vec (l.map cuC) fl,XC s] (· = .val (.bool (soC l s))):=by
 refine Yp ok35 fun C hC=>?_;refine Zn ?_;refine Za ?_;refine Z5 rfl rfl rfl ?_;refine go ?_;refine Qe (Z1t l cuC fl _ [.cp [.vec (X5 (X9 s)) false]] (fun c=>hoC c s) Zjm Zi ⟨Z2 s,Yt⟩ fun c hc=>ZbE c s (hl c hc) hs) ⟨Zc Zi l,⟨Z2 s,Yt⟩,Yt⟩ ?_;(refine go ?_;repeat' (apply B<;>intro hb<;>try cases hb))
 all_goals exact Z7 rfl Yt (XW hb.symm)
theorem Z9W (a b:Cu) (ha:Xw a) (hb:Xw b):X7 Tryz.prog 187 [cuP a,cuP b] (· = .val (.bool (wiC a b))):=by
 refine Yp ok187 fun C hC=>?_;refine Zn ?_;refine Za ?_;refine Z5 rfl rfl rfl ?_;refine Z5 rfl rfl rfl ?_;refine go ?_;refine Qe (Z1m a ha) ⟨Zi _,Yt⟩ ?_;unfold wiC;cases he:emC a
 . refine go ?_;refine Qe (Z1Q b.1 a.1 hb.1 ha.1) ⟨Z2 _,Z2 _,Yt⟩ ?_;cases hd:decide (b.1 ||| a.1=a.1)
   . refine go ?_;exact Z7 rfl Yt rfl
   . refine go ?_;refine Qe (Z1Q b.2 a.2 hb.2 ha.2) ⟨Z2 _,Z2 _,Yt⟩ ?_;(refine go ?_;repeat' (apply B<;>intro hb<;>try cases hb))
     all_goals exact Z7 rfl Yt (XW (by simp_all))
 . refine go ?_;exact Z7 rfl Yt rfl
theorem Z81 (a b:Cu) (ha:Xw a) (hb:Xw b):X7 Tryz.prog 208 [cuP a,cuP b] (· = cuP (X14 a b)):=by
 refine Yp ok208 fun C hC=>?_;refine Zn ?_;refine Za ?_;refine Z5 rfl rfl rfl ?_;refine Z5 rfl rfl rfl ?_;refine go ?_;refine Qd (Z1D a.1 b.1 ha.1 hb.1) ⟨Z2 _,Z2 _,Yt⟩ ?_;refine go ?_;refine Qd (Z1D a.2 b.2 ha.2 hb.2) ⟨Z2 _,Z2 _,Yt⟩ ?_;refine go ?_;exact Z7 (r:=cuP (X14 a b)) rfl (Zy _) rfl
def meC (a b:Cu):Cu×Bool:=if emC (X14 a b) then ((0,0),false) else (X14 a b,true)
theorem ZcV {a b:Cu} (ha:Xw a) (hb:Xw b):Xw (X14 a b):=⟨Z1T ha.1 hb.1,Z1T ha.2 hb.2⟩
theorem ZhE:cuC (0,0) = [.vec [] false,.vec [] false]:=by simp only [cuC]; rw [ZL]; rfl
theorem Z82 (a b:Cu) (ha:Xw a) (hb:Xw b):X7 Tryz.prog 209 [cuP a,cuP b] (· = .tup [cuP (meC a b).1,.val (.bool (meC a b).2)]):=by
 refine Yp ok209 fun C hC=>?_;refine Zn ?_;refine Za ?_;refine Z5 rfl rfl rfl ?_;refine Z5 rfl rfl rfl ?_;refine go ?_;refine Qe (Z81 a b ha hb) ⟨Zi _,Zi _,Yt⟩ ?_;refine go ?_;refine Qe (Z1m _ (ZcV ha hb)) ⟨Zi _,Yt⟩ ?_;unfold meC;cases he:emC (X14 a b)
 . refine go ?_;exact Z7 rfl ⟨Zy _,Yt,Yt⟩ rfl
 . refine go ?_;refine Z1I rfl (Z2H rfl) ?_;simp only [Y1X,cuP,ZhE]
   rfl
theorem Z6M (a b:Cu) (ha:Xw a) (hb:Xw b):X7 Tryz.prog 186 [cuP a,cuP b] (· = .val (.bool (eqC a b))):=by
 refine Yp ok186 fun C hC=>?_;refine Zn ?_;refine Za ?_;refine Z5 rfl rfl rfl ?_;refine Z5 rfl rfl rfl ?_;refine go ?_;refine Qe (Z4x a.1 b.1 ha.1 hb.1) ⟨Z2 _,Z2 _,Yt⟩ ?_;unfold eqC;cases hd:decide (a.1=b.1)
 . refine go ?_;exact Z7 rfl Yt rfl
 . refine go ?_;refine Qe (Z4x a.2 b.2 ha.2 hb.2) ⟨Z2 _,Z2 _,Yt⟩ ?_;(refine go ?_;repeat' (apply B<;>intro hb<;>try cases hb))
   all_goals exact Z7 rfl Yt (XW (by simp_all))
end
section
open Go.RowKit
def X1Y (x y:Nat):Int:=if x<y then -1 else if x=y then 0 else 1
theorem ZhF {x y:Nat}:X1Y x y<0↔x<y:=by unfold X1Y; split<;>(try split)<;>omega
theorem ZfO {x y:Nat}:X1Y x y=0↔x=y:=by unfold X1Y; split<;>(try split)<;>omega
theorem Z6N (x:Nat):X1Y x x=0:=ZfO.2 rfl
def X1M (a:Nat):Nat:=if a=0 then 0 else if a % 2=1 then 1 else 2
def X2C:Nat->Nat->Nat
 | 0,_=>0
 | k+1,a=>X1M a*3 ^ k+X2C k (a / 2)
theorem Zjn (a:Nat):X1M a<=2:=by unfold X1M; split<;>(try split)<;>omega
theorem Z3o:∀ (k a:Nat),X2C k a<3 ^ k
 | 0,_=>by simp [X2C]
 | k + 1, a => by
   have h1:=Z3o k (a / 2);have h2:=Zjn a;have h3:X1M a*3 ^ k<=2*3 ^ k:=YQ _ h2;simp only [X2C,Y1Z];omega
theorem Z3d:∀ k,X2C k 0=0
 | 0=>rfl
 | k+1=>by simp [X2C,X1M,Z3d k]
def X7A:List Nat->List Nat->Int
 | [],[]=>0
 | [],_ :: _ => -1
 | _ :: _,[]=>1
 | x :: xs,y :: ys=>if x<y then -1 else if y<x then 1 else X7A xs ys
def X8r (k N:Nat):List Nat:=(List.range k).filter fun i=>N.testBit i
theorem ZcW:∀ {k a b:Nat},a<2 ^ k->b<2 ^ k->X2C k a=X2C k b->a=b:=by
 intro k
 induction k with
 | zero=>intro a b ha hb _; simp at ha hb; omega
 | succ k ih =>
   intro a b ha hb h;have ha':a / 2<2 ^ k:=by rw [Y1Z] at ha; omega
   have hb':b / 2<2 ^ k:=by rw [Y1Z] at hb; omega
   have la:=Z3o k (a / 2);have lb:=Z3o k (b / 2);simp only [X2C] at h;have hp:0<3 ^ k:=Y2M (by decide);have hd:X1M a=X1M b:=by
    have h1:(X1M a*3 ^ k+X2C k (a / 2)) / 3 ^ k=X1M a:=by rw [Y1J,Y3O hp,Y1V la]; rfl
    have h2:(X1M b*3 ^ k+X2C k (b / 2)) / 3 ^ k=X1M b:=by rw [Y1J,Y3O hp,Y1V lb]; rfl
    rw [<- h1,<- h2,h]
   rw [hd] at h;have h2:=ih ha' hb' (by omega);unfold X1M at hd;by_cases h3:a=0<;>by_cases h4:b=0<;>simp only [h3,h4,Y1X,Y2d] at hd
   . omega
   . split at hd<;>omega
   . split at hd<;>omega
   . split at hd<;>split at hd<;>omega
abbrev key (N:Nat):Nat:=X2C 64 N
theorem ZfP {a b:Nat} (ha:a<18446744073709551616) (hb:b<18446744073709551616) (h:key a=key b):a=b:=ZcW (k:=64) ha hb h
theorem ZfQ:∀ (k:Nat) {a b:Nat},a<2 ^ k->b<2 ^ k->a≠b->X1Y (X2C k a) (X2C k b)=(if a.testBit (tz (a ^^^ b)) then (if b / 2 ^ (tz (a ^^^ b)+1)=0 then 1 else -1) else (if a / 2 ^ (tz (a ^^^ b)+1)=0 then -1 else 1))
 | 0,a,b,ha,hb,hn=>by simp at ha hb; omega
 | k + 1, a, b, ha, hb, hn => by
   have ha':a / 2<2 ^ k:=by rw [Y1Z] at ha; omega
   have hb':b / 2<2 ^ k:=by rw [Y1Z] at hb; omega
   have la:=Z3o k (a / 2);have lb:=Z3o k (b / 2);have hx:(a ^^^ b) % 2=(a+b) % 2:=by have := @Nat.xor_mod_two_eq_one a b; omega
   have hx2:(a ^^^ b) / 2=a / 2 ^^^ b / 2:=Nat.xor_div_two
   have hx0:a ^^^ b≠0:=fun h=>hn (YC fun i=>by
    have:(a ^^^ b).testBit i=false:=by rw [h]; simp
    rw [Y4r] at this
    cases h1:a.testBit i<;>cases h2:b.testBit i<;>simp_all)
   by_cases h1:a % 2=1<;>by_cases h2:b % 2=1
   . have ht : tz (a ^^^ b) = tz (a / 2 ^^^ b / 2) + 1 := by
      rw [tz,dif_neg (by omega),hx2]
     have ih:=ZfQ k ha' hb' (by omega);rw [ht,Y2J,Y1Z,Y1J,<- Y2t,<- Y2t,<- ih];have d1:X1M a=1:=by unfold X1M; rw [Y6 (by omega),Y5 h1]
     have d2:X1M b=1:=by unfold X1M; rw [Y6 (by omega),Y5 h2]
     simp only [X2C,d1,d2];unfold X1Y
     split<;>split<;>(try split)<;>(try split)<;>omega
   . have ht : tz (a ^^^ b) = 0 := by rw [tz, dif_pos (.inl (by omega))]
     have d1:X1M a=1:=by unfold X1M; rw [Y6 (by omega),Y5 h1]
     have e1:a.testBit 0=true:=by rw [Y2p]; simp [h1]
     rw [ht,e1];simp only [Y1X,X2C,d1,Y19,Nat.pow_one];by_cases hz:b / 2=0
     . have d2 : X1M b = 0 := by unfold X1M; rw [Y5 (by omega)]
       have:0<3 ^ k:=Y2M (by decide);rw [Y5 hz,d2,hz,Z3d];unfold X1Y;rw [Y6 (by omega),Y6 (by omega)]
     . have d2 : X1M b = 2 := by unfold X1M; rw [Y6 (by omega), Y6 h2]
       rw [Y6 hz,d2];unfold X1Y;rw [Y5 (by omega)]
   . have ht : tz (a ^^^ b) = 0 := by rw [tz, dif_pos (.inl (by omega))]
     have d2:X1M b=1:=by unfold X1M; rw [Y6 (by omega),Y5 h2]
     have e1:a.testBit 0=false:=by rw [Y2p]; simp [h1]
     rw [ht,e1];simp only [Y2v,Y2d,X2C,d2,Y19,Nat.pow_one];by_cases hz:a / 2=0
     . have d1 : X1M a = 0 := by unfold X1M; rw [Y5 (by omega)]
       have:0<3 ^ k:=Y2M (by decide);rw [Y5 hz,d1,hz,Z3d];unfold X1Y;rw [Y5 (by omega)]
     . have d1 : X1M a = 2 := by unfold X1M; rw [Y6 (by omega), Y6 h1]
       rw [Y6 hz,d1];unfold X1Y;rw [Y6 (by omega),Y6 (by omega)]
   . have ht : tz (a ^^^ b) = tz (a / 2 ^^^ b / 2) + 1 := by
      rw [tz,dif_neg (by omega),hx2]
     have ih:=ZfQ k ha' hb' (by omega);rw [ht,Y2J,Y1Z,Y1J,<- Y2t,<- Y2t,<- ih];have da:X1M a=if a / 2=0 then 0 else 2:=by unfold X1M; by_cases h:a=0<;>simp [h,h1]; omega
     have db:X1M b=if b / 2=0 then 0 else 2:=by unfold X1M; by_cases h:b=0<;>simp [h,h2]; omega
     simp only [X2C,da,db];have nz:∀ c,c<2 ^ k->c≠0->0<X2C k c:=fun c hc h0=>by
      rcases Y47 (X2C k c) with h|h
      . exact absurd (ZcW hc (Y2M (by decide)) (by rw [h,Z3d])) h0
      . exact h
     by_cases hz1:a / 2=0<;>by_cases hz2:b / 2=0
     . omega
     . have := nz _ hb' hz2;simp only [hz1,hz2,Y1X,Y2d,Z3d];unfold X1Y;rw [Y5 (by omega),Y5 (by omega)]
     . have := nz _ ha' hz1;simp only [hz1,hz2,Y1X,Y2d,Z3d];unfold X1Y;rw [Y6 (by omega),Y6 (by omega),Y6 (by omega),Y6 (by omega)]
     . simp only [hz1, hz2, Y2d];unfold X1Y
       split<;>split<;>(try split)<;>(try split)<;>omega
def X1U (c:Nat×Nat):Nat:=key c.1*3 ^ 64+key c.2
theorem ZcX {a b:Nat×Nat} (ha:a.1<18446744073709551616/\a.2<18446744073709551616) (hb:b.1<18446744073709551616/\b.2<18446744073709551616) (h:X1U a=X1U b):a=b:=by
 have l1:key a.2<3 ^ 64:=Z3o 64 a.2;have l2:key b.2<3 ^ 64:=Z3o 64 b.2;unfold X1U at h;have h1:(key a.1*3 ^ 64+key a.2) / 3 ^ 64=key a.1:=by rw [Y1J,Y3O (Y2M (by decide)),Y1V l1,Y1q]
 have h2:(key b.1*3 ^ 64+key b.2) / 3 ^ 64=key b.1:=by rw [Y1J,Y3O (Y2M (by decide)),Y1V l2,Y1q]
 have h3:key a.1=key b.1:=by rw [<- h1,<- h2,h]
 have h4:key a.2=key b.2:=by rw [h3] at h; omega
 obtain⟨a1,a2⟩:=a;obtain⟨b1,b2⟩:=b;exact Y45 (ZfP ha.1 hb.1 h3) (ZfP ha.2 hb.2 h4)
def X5h (a b:Nat×Nat):Int:=if X1Y (key a.1) (key b.1)≠0 then X1Y (key a.1) (key b.1) else X1Y (key a.2) (key b.2)
theorem ZhG (a b:Nat×Nat):X5h a b=X1Y (X1U a) (X1U b):=by
 have l1:key a.2<3 ^ 64:=Z3o 64 a.2;have l2:key b.2<3 ^ 64:=Z3o 64 b.2;unfold X5h X1U;generalize key a.1=x at *;generalize key b.1=y at *;generalize key a.2=u at *;generalize key b.2=v at *;rcases Y4d x y with h|h|h
 . have e1 : X1Y x y = -1 := Y5 h;have e2:X1Y (x*3 ^ 64+u) (y*3 ^ 64+v) = -1:=Y5 (by omega);rw [e1,e2]; rfl
 . subst h;rw [Z6N];simp only [ne_eq,not_true_eq_false,Y2d];unfold X1Y
   split<;>split<;>(try split)<;>(try split)<;>omega
 . have e1 : X1Y x y = 1 := by unfold X1Y; rw [Y6 (by omega), Y6 (by omega)]
   have e2:X1Y (x*3 ^ 64+u) (y*3 ^ 64+v)=1:=by unfold X1Y; rw [Y6 (by omega),Y6 (by omega)]
   rw [e1,e2]; rfl
end
section
open Go.RowKit
attribute [local irreducible] aw Xj dK
def bl (x:Nat):Nat:=if x=0 then 0 else x.log2+1
theorem Z6O {x:Nat} (h:x≠0):bl x=bl (x / 2)+1:=by
 unfold bl;rw [Y6 h];by_cases h1:x / 2=0
 . have : x = 1 := by omega
   subst this
   rfl
 . rw [Y6 h1,Nat.log2_def,Y5 (by omega)]
theorem Z1u:∀ {k x:Nat},2 ^ k<=x->bl x=k+bl (x / 2 ^ k)
 | 0,x,_=>by simp
 | k + 1, x, h => by
   have hp:0<2 ^ k:=Y2M (by decide);rw [Y1Z] at h;rw [Z6O (by omega),Z1u (k:=k) (x:=x / 2) (by omega),Y2t,Y1Z,Y1J 2];omega
theorem ZfR:∀ {k x:Nat},x<2 ^ k->bl x<=k
 | 0,x,h=>by simp at h; subst h; exact Y0m _
 | k + 1, x, h => by
   by_cases h0:x=0
   . subst h0; exact Y0l _
   . have := ZfR (k := k) (x := x / 2) (by rw [Y1Z] at h; omega);rw [Z6O h0]; omega
theorem fd (a k:Nat) (c:Int) (hc:(2:Int) ^ (min c.toNat IntKind.u64.bits)=((k:Nat):Int)):Int.fdiv (a:Int) (2 ^ (min c.toNat IntKind.u64.bits))=((a / k:Nat):Int):=by
 rw [hc,Y3n _ (by omega)];exact (Int.natCast_ediv a k).symm
theorem X3Z (a:Nat):Int.fdiv (a:Int) (2 ^ (min (32:Int).toNat IntKind.u64.bits))=((a / 4294967296:Nat):Int):=fd a _ 32 rfl
theorem X5a (a:Nat):Int.fdiv (a:Int) (2 ^ (min (16:Int).toNat IntKind.u64.bits))=((a / 65536:Nat):Int):=fd a _ 16 rfl
theorem fd8 (a:Nat):Int.fdiv (a:Int) (2 ^ (min (8:Int).toNat IntKind.u64.bits))=((a / 256:Nat):Int):=fd a _ 8 rfl
theorem Z5Z {a b:Nat} (h:decide ((a:Int)≥(b:Int))=true):b<=a:=by simpa using h
theorem Z60 {a b:Nat} (h:decide ((a:Int)≥(b:Int))=false):a<b:=by simpa using h
theorem u8w {a:Nat} (h:a<256):IntKind.u8.wrap (a:Int)=(a:Int):=Y3D _ ⟨by omega,by omega⟩
theorem ZiJ {n:Nat} {e:Env} {h:X1} {x i:Operand} {s:ByteArray} {k:IntKind} {m:Int} (hx:ev e x=some (.val (.string s))) (hi:ev e i=some (.val (.int k m))) (j:Nat) (hm:m=(j:Int)) (hj:j<256)
 (hs:(decide (s.size=256)&&(List.range 256).all fun j=>(s.data.toList.getD j 0).toNat == bl j)=true):X4 (.indexS x i) e h n=some (.val (.int .u8 (bl j:Nat)),h):=by
 rw [Y0k,YL] at hs;have h1:s.size=256:=Y0u hs.1;have h2:=hs.2 j (Y1s.2 hj);have h3:(s.data.toList.getD j 0).toNat=bl j:=by simpa using h2
 subst hm;simp only [X4,hx,hi,h1,YW,h3];rw [Y5 (by omega)]
theorem Z3Q {x s j:Nat} (h:bl x=s+bl j) (hs:s<=64) (hj:j<256):PV.val (.int .i64 (IntKind.i64.wrap ((s:Int)+IntKind.i64.wrap (bl j:Nat))))=.val (.int .i64 (bl x:Nat)):=by
 have:=ZfR (k:=8) (x:=j) hj;rw [Y0v ((bl j:Nat):Int) ⟨by omega,by omega⟩,Y0v _ ⟨by omega,by omega⟩,h]
 rfl
theorem Zec (x:Nat) (hx:x<18446744073709551616):X7 Tryz.prog 201 [.val (.int .u64 (x:Int))] (· = .val (.int .i64 (bl x:Nat))):=by
 refine Yp ok201 fun C hC=>?_;(refine go ?_;repeat' (apply B<;>intro hb<;>try cases hb))
 . rename_i h1 h2;have g1:=Z5Z (b:=4294967296) h1;rw [X3Z] at h2;have g2:=Z5Z (b:=65536) h2;rw [X3Z,X5a] at hb;have g3:=Z5Z (b:=256) hb;refine Qo (ZiJ rfl rfl (((x / 4294967296) / 65536) / 256) (by rw [X3Z,X5a,fd8]; exact u8w (by omega)) (by omega) (by decide +kernel)) ?_;(refine go ?_;repeat' (apply B<;>intro hb<;>try cases hb));have q1:bl (x)=32+bl ((x) / 4294967296):=Z1u (k:=32) g1;have q2:bl (x / 4294967296)=16+bl ((x / 4294967296) / 65536):=Z1u (k:=16) g2;have q3:bl ((x / 4294967296) / 65536)=8+bl (((x / 4294967296) / 65536) / 256):=Z1u (k:=8) g3;exact Z7 rfl Yt (Z3Q (s:=56) (j:=((x / 4294967296) / 65536) / 256) (by omega) (by decide) (by omega))
 . rename_i h1 h2;have g1:=Z5Z (b:=4294967296) h1;rw [X3Z] at h2;have g2:=Z5Z (b:=65536) h2;rw [X3Z,X5a] at hb;have g3:=Z60 (b:=256) hb;refine Qo (ZiJ rfl rfl ((x / 4294967296) / 65536) (by rw [X3Z,X5a]; exact u8w (by omega)) (by omega) (by decide +kernel)) ?_;refine go ?_;have q1:bl (x)=32+bl ((x) / 4294967296):=Z1u (k:=32) g1;have q2:bl (x / 4294967296)=16+bl ((x / 4294967296) / 65536):=Z1u (k:=16) g2;exact Z7 rfl Yt (Z3Q (s:=48) (j:=(x / 4294967296) / 65536) (by omega) (by decide) (by omega))
 . rename_i h1 h2;have g1:=Z5Z (b:=4294967296) h1;rw [X3Z] at h2;have g2:=Z60 (b:=65536) h2;rw [X3Z] at hb;have g3:=Z5Z (b:=256) hb;refine Qo (ZiJ rfl rfl ((x / 4294967296) / 256) (by rw [X3Z,fd8]; exact u8w (by omega)) (by omega) (by decide +kernel)) ?_;refine go ?_;have q1:bl (x)=32+bl ((x) / 4294967296):=Z1u (k:=32) g1;have q3:bl (x / 4294967296)=8+bl ((x / 4294967296) / 256):=Z1u (k:=8) g3;exact Z7 rfl Yt (Z3Q (s:=40) (j:=(x / 4294967296) / 256) (by omega) (by decide) (by omega))
 . rename_i h1 h2;have g1:=Z5Z (b:=4294967296) h1;rw [X3Z] at h2;have g2:=Z60 (b:=65536) h2;rw [X3Z] at hb;have g3:=Z60 (b:=256) hb;refine Qo (ZiJ rfl rfl (x / 4294967296) (by rw [X3Z]; exact u8w (by omega)) (by omega) (by decide +kernel)) ?_;refine go ?_;have q1:bl (x)=32+bl ((x) / 4294967296):=Z1u (k:=32) g1;exact Z7 rfl Yt (Z3Q (s:=32) (j:=x / 4294967296) (by omega) (by decide) (by omega))
 . rename_i h1 h2;have g1:=Z60 (b:=4294967296) h1;have g2:=Z5Z (b:=65536) h2;rw [X5a] at hb;have g3:=Z5Z (b:=256) hb;refine Qo (ZiJ rfl rfl ((x / 65536) / 256) (by rw [X5a,fd8]; exact u8w (by omega)) (by omega) (by decide +kernel)) ?_;refine go ?_;have q2:bl (x)=16+bl ((x) / 65536):=Z1u (k:=16) g2;have q3:bl (x / 65536)=8+bl ((x / 65536) / 256):=Z1u (k:=8) g3;exact Z7 rfl Yt (Z3Q (s:=24) (j:=(x / 65536) / 256) (by omega) (by decide) (by omega))
 . rename_i h1 h2;have g1:=Z60 (b:=4294967296) h1;have g2:=Z5Z (b:=65536) h2;rw [X5a] at hb;have g3:=Z60 (b:=256) hb;refine Qo (ZiJ rfl rfl (x / 65536) (by rw [X5a]; exact u8w (by omega)) (by omega) (by decide +kernel)) ?_;refine go ?_;have q2:bl (x)=16+bl ((x) / 65536):=Z1u (k:=16) g2;exact Z7 rfl Yt (Z3Q (s:=16) (j:=x / 65536) (by omega) (by decide) (by omega))
 . rename_i h1 h2;have g1:=Z60 (b:=4294967296) h1;have g2:=Z60 (b:=65536) h2;have g3:=Z5Z (b:=256) hb;refine Qo (ZiJ rfl rfl (x / 256) (by rw [fd8]; exact u8w (by omega)) (by omega) (by decide +kernel)) ?_;refine go ?_;have q3:bl (x)=8+bl ((x) / 256):=Z1u (k:=8) g3;exact Z7 rfl Yt (Z3Q (s:=8) (j:=x / 256) (by omega) (by decide) (by omega))
 . rename_i h1 h2;have g1:=Z60 (b:=4294967296) h1;have g2:=Z60 (b:=65536) h2;have g3:=Z60 (b:=256) hb;refine Qo (ZiJ rfl rfl (x) (by exact u8w (by omega)) (by omega) (by decide +kernel)) ?_;refine go ?_;exact Z7 rfl Yt (Z3Q (s:=0) (j:=x) ((Y19 _).symm) (by decide) (by omega))
theorem Zl8 {k x:Nat}:k<bl x↔2 ^ k<=x:=by
 constructor
 . intro h;rcases Y34 x (2 ^ k) with h1|h1
   . have:=ZfR h1; omega
   . exact h1
 . intro h;rw [Z1u h];have h1:1<=x / 2 ^ k:=(Nat.one_le_div_iff (Y2M (by decide))).2 h;have h2:bl (x / 2 ^ k)=bl (x / 2 ^ k / 2)+1:=Z6O (by omega);omega
def X5y (N:Nat):Int:=if N=0 then 0 else (bl N:Int)-1
theorem Z3p (N:Nat) (hN:N<18446744073709551616):X7 Tryz.prog 239 [XC N] (· = .tup [.val (.int .i64 (X5y N)),.val (.bool (decide (N≠0)))]):=by
 rcases Z18 hN with⟨rfl,e1⟩|⟨h1,e1⟩
 all_goals
  refine Yp ok239 fun C hC=>?_;rw [e1];refine Zn ?_;refine Za ?_;refine Z5 rfl rfl rfl ?_;refine go ?_;refine Z4 (Z3a _ hN) rfl rfl (by rw [e1]; rfl) ⟨Z2 _,Yt⟩ rfl ?_
 . refine go ?_;exact Z7 rfl (Z2H rfl) rfl
 . have hd : decide (N = 0) = false := Y0w h1;rw [hd];refine go ?_;refine Qe (Zec N hN) ⟨Yt,Yt⟩ ?_;have hb:=ZfR (k:=64) hN;have hp:=Z6O h1;refine go ?_;refine Z7 rfl (Z2H rfl) ?_;unfold X5y;rw [Y6 h1,Ye h1];have w0:IntKind.i64.wrap (64*IntKind.i64.wrap (1-1))=0:=by decide
   have w1:IntKind.i64.wrap (0+(bl N:Int))=(bl N:Int):=by rw [Int.zero_add]; exact Y0v _ ⟨by omega,by omega⟩
   have w2:IntKind.i64.wrap ((bl N:Int)-1)=(bl N:Int)-1:=Y0v _ ⟨by omega,by omega⟩;show PV.tup [.val (.int .i64 (IntKind.i64.wrap (IntKind.i64.wrap (IntKind.i64.wrap (64*IntKind.i64.wrap (1-1))+(bl N:Int))-1))),.val (.bool true)]=_;rw [w0,w1,w2]
theorem Z6P (N:Nat) (hN:N<18446744073709551616) (i:Nat) (hi:i<64):X7 Tryz.prog 214 [XC N,Yv i] (· = .val (.bool (decide (N / 2 ^ (i+1)≠0)))):=by
 refine Yp ok214 fun C hC=>?_;refine Zn ?_;refine Za ?_;refine Z5 rfl rfl rfl ?_;refine go ?_;refine Qe (Z3p N hN) ⟨Z2 _,Yt⟩ ?_;have hdiv:N / 2 ^ (i+1)≠0↔2 ^ (i+1)<=N:=by
  rw [Ne,Nat.div_eq_zero_iff_lt (Y2M (by decide))];omega
 have hg:=Zl8 (k:=i+1) (x:=N);by_cases h0:N=0
 . subst h0;rw [show decide ((0:Nat)≠0)=false from rfl];refine go ?_;exact Z7 rfl Yt (XW (by simp))
 . rw [Ye (p := N ≠ 0) h0];have ht:X5y N=(bl N:Int)-1:=Y6 h0;rw [ht];(refine go ?_;repeat' (apply B<;>intro hb<;>try cases hb))
   all_goals
    refine Z7 rfl Yt (XW ?_);symm
   . rw [Y28, hdiv, <- hg];have:(bl N:Int)-1>(i:Int):=by simpa using hb
     omega
   . rw [Y3x, hdiv, <- hg];have:¬ (bl N:Int)-1>(i:Int):=by simpa using hb
     omega
theorem Zl9 {x:Nat} (hx:x<18446744073709551616) (h:x≠0):tz x<64:=Z5O hx (Z9M h)
theorem Zjo {a b:Nat} (ha:a<18446744073709551616) (hb:b<18446744073709551616) (hn:a≠b):X1Y (key a) (key b)=(if a.testBit (tz (a ^^^ b)) then (if b / 2 ^ (tz (a ^^^ b)+1)=0 then 1 else -1) else (if a / 2 ^ (tz (a ^^^ b)+1)=0 then -1 else 1)):=ZfQ 64 ha hb hn
theorem ZiK {a b:Nat} (hn:a≠b):a ^^^ b≠0:=fun h=>hn (YC fun i=>by
 have:(a ^^^ b).testBit i=false:=by rw [h]; simp
 rw [Y4r] at this
 cases h1:a.testBit i<;>cases h2:b.testBit i<;>simp_all)
theorem Z9X (N:Nat) (hN:N<18446744073709551616):(X9 N).getD 0 0=N:=by
 by_cases h:N=0
 . subst h; rw [ZL]; rfl
 . rw [Z4W hN h]; rfl
theorem Z57 (N M:Nat) (hN:N<18446744073709551616) (hM:M<18446744073709551616):X7 Tryz.prog 162 [XC N,XC M] (· = .val (.int .i64 (X1Y (key N) (key M)))):=by
 have hxor:=Y1v N M hN hM;have hxl:N ^^^ M<18446744073709551616:=Y46 (n:=64) hN hM;by_cases hz:N=0/\M=0
 . obtain ⟨rfl, rfl⟩ := hz;rw [Z1Y];refine Yp ok162 fun C hC=>?_;refine Zn ?_;refine Za ?_;refine Z5 rfl rfl rfl ?_;refine Z5 rfl rfl rfl ?_;refine go ?_;refine Z17 0 ?_;refine go ?_;exact Z7 rfl Yt (by rw [Z6N]; rfl)
 . have hlen : max (X9 N).length (X9 M).length = 1 := by
    have h1:∀ x,x<18446744073709551616->(X9 x).length=if x=0 then 0 else 1:=fun x hx=>by
     by_cases h:x=0
     . subst h; rw [ZL]; rfl
     . rw [Z4W hx h,Y6 h]; rfl
    rw [h1 N hN,h1 M hM];by_cases h2:N=0<;>by_cases h3:M=0<;>simp_all
   refine Yp ok162 fun C hC=>?_;refine Zn ?_;refine Za ?_;refine Z5 rfl rfl rfl ?_;refine Z5 rfl rfl rfl ?_;refine go ?_;refine Z5r hC [(2,.cp [.vec (X5 (X9 N)) false]),(3,.cp [.vec (X5 (X9 M)) false]),(14,.val (.int .i64 1)),(15,.val (.int .i64 0))] [] (Y0l 0) ⟨⟨rfl,Zo _ _,Yt⟩,⟨rfl,Zo _ _,Yt⟩,⟨?_,Yt⟩,⟨rfl,Yt⟩,Yt⟩ Yt ?_
   . have h1 : (X5 (X9 N)).length = (X9 N).length := by simp [X5]
     have h2:(X5 (X9 M)).length=(X9 M).length:=by simp [X5]
     show some (PV.val (.int .i64 (if ((X5 (X9 M)).length:Int)>((X5 (X9 N)).length:Int) then ((X5 (X9 M)).length:Int) else ((X5 (X9 N)).length:Int))))=_;rw [h1,h2,show (if ((X9 M).length:Int)>((X9 N).length:Int) then ((X9 M).length:Int) else ((X9 N).length:Int))=1 by split<;>omega]
   refine Z17 1 ?_;refine go ?_;refine Qd (Z1d (X9 N) 0) ⟨Z2 N,Yt,Yt⟩ ?_;rw [Z9X N hN];refine go ?_;refine Qd (Z1d (X9 M) 0) ⟨Z2 M,Yt,Yt⟩ ?_;rw [Z9X M hM];refine Qr (Z10 rfl hxor) ?_;(refine go ?_;repeat' (apply B<;>intro hb<;>try cases hb))
   . have h0 : ((N ^^^ M : Nat) : Int) = 0 := by simpa using hb
     have hz:N=M:=YU fun hn=>ZiK hn (by omega);exact Z7 rfl Yt (by rw [hz,Z6N]; rfl)
   . have h0 : ¬ ((N ^^^ M : Nat) : Int) = 0 := by simpa using hb
     have hn:N≠M:=fun h=>h0 (by subst h; simp);have hx0:=ZiK hn;have ht:=Zl9 hxl hx0;have hbit:=Z9M hx0;rw [Y4r] at hbit;have hsg:=Zjo hN hM hn;refine Qe (Zfr _ hxl hx0) ⟨Yt,Yt⟩ ?_;have hadd:IntKind.i64.wrap (IntKind.i64.wrap (64*0)+((tz (N ^^^ M):Nat):Int))=((tz (N ^^^ M):Nat):Int):=by
      rw [show IntKind.i64.wrap (64*0)=0 by decide,Int.zero_add];exact Y0v _ ⟨by omega,by omega⟩
     refine Qo (Z10 rfl hadd) ?_;generalize tz (N ^^^ M)=t at *;refine go ?_;refine Qd (Z1Z N hN t) ⟨Z2 N,Yt,Yt⟩ ?_;rw [show (decide ((0:Int)<=(t:Int))&&N.testBit (t:Int).toNat)=N.testBit t by simp];refine go ?_;refine Qd (Z1Z M hM t) ⟨Z2 M,Yt,Yt⟩ ?_;rw [show (decide ((0:Int)<=(t:Int))&&M.testBit (t:Int).toNat)=M.testBit t by simp];cases hN1:N.testBit t<;>cases hM1:M.testBit t<;>rw [hN1,hM1] at hbit<;>try cases hbit
     . rw [hN1] at hsg;refine go ?_;refine Qe (Z1Z N hN t) ⟨Z2 N,Yt,Yt⟩ ?_;rw [show (decide ((0:Int)<=(t:Int))&&N.testBit (t:Int).toNat)=false by simp [hN1]];refine go ?_;refine Qe (Z1Z M hM t) ⟨Z2 M,Yt,Yt⟩ ?_;rw [show (decide ((0:Int)<=(t:Int))&&M.testBit (t:Int).toNat)=true by simp [hM1]];refine go ?_;refine Qe (Z6P N hN t ht) ⟨Z2 N,Yt,Yt⟩ ?_;by_cases hd:N / 2 ^ (t+1)=0
       . rw [show decide (N / 2 ^ (t + 1) ≠ 0) = false by simp [hd]];refine go ?_;exact Z7 rfl Yt (by rw [hsg,Y6 (by decide),Y5 hd]; rfl)
       . rw [show decide (N / 2 ^ (t + 1) ≠ 0) = true by simp [hd]];refine go ?_;exact Z7 rfl Yt (by rw [hsg,Y6 (by decide),Y6 hd]; rfl)
     . rw [hN1] at hsg;refine go ?_;refine Qe (Z1Z N hN t) ⟨Z2 N,Yt,Yt⟩ ?_;rw [show (decide ((0:Int)<=(t:Int))&&N.testBit (t:Int).toNat)=true by simp [hN1]];refine go ?_;refine Qe (Z6P M hM t ht) ⟨Z2 M,Yt,Yt⟩ ?_;by_cases hd:M / 2 ^ (t+1)=0
       . rw [show decide (M / 2 ^ (t + 1) ≠ 0) = false by simp [hd]];refine go ?_;refine Qe (Z1Z M hM t) ⟨Z2 M,Yt,Yt⟩ ?_;rw [show (decide ((0:Int)<=(t:Int))&&M.testBit (t:Int).toNat)=false by simp [hM1]];refine go ?_;exact Z7 rfl Yt (by rw [hsg,Y5 rfl,Y5 hd]; rfl)
       . rw [show decide (M / 2 ^ (t + 1) ≠ 0) = true by simp [hd]];refine go ?_;exact Z7 rfl Yt (by rw [hsg,Y5 rfl,Y6 hd]; rfl)
attribute [local irreducible] X1Y X2C in
theorem Z8W (a b:Cu) (ha:Xw a) (hb0:Xw b):X7 Tryz.prog 184 [cuP a,cuP b] (· = .val (.int .i64 (X5h a b))):=by
 refine Yp ok184 fun C hC=>?_;refine Zn ?_;refine Za ?_;refine Z5 rfl rfl rfl ?_;refine Z5 rfl rfl rfl ?_;refine go ?_;refine Qe (Z57 a.1 b.1 ha.1 hb0.1) ⟨Z2 _,Z2 _,Yt⟩ ?_;(refine go ?_;repeat' (apply B<;>intro hb<;>try cases hb))
 . have h : X1Y (key a.1) (key b.1) ≠ 0 := by simpa using hb
   exact Z7 rfl Yt (by rw [X5h,Y5 h])
 . have h : ¬ X1Y (key a.1) (key b.1) ≠ 0 := by simpa using hb
   refine Qe (Z57 a.2 b.2 ha.2 hb0.2) ⟨Z2 _,Z2 _,Yt⟩ ?_;refine go ?_;exact Z7 rfl Yt (by rw [X5h,Y6 h])
end
section
open Go.RowKit
theorem Z1s (y i j:Nat):(y ||| 2 ^ i).testBit j=(y.testBit j||decide (i=j)):=by rw [Y00,YI]
def X5F (c:Nat×Nat):List (Nat×Nat)->List (Nat×Nat)
 | [] => [c]
 | d :: l=>if X1U c<=X1U d then c :: d :: l else d :: X5F c l
def X1H:List (Nat×Nat)->List (Nat×Nat)
 | [] => []
 | c :: l=>X5F c (X1H l)
theorem Z6Q (c:Nat×Nat):∀ l,(X5F c l).Perm (c :: l)
 | []=>.refl _
 | d :: l => by
   simp only [X5F]
   split
   . exact .refl _
   . exact ((Z6Q c l).cons d).trans (.swap c d l)
theorem Z2D:∀ l,(X1H l).Perm l
 | []=>.refl _
 | c :: l=>(Z6Q c _).trans ((Z2D l).cons c)
theorem Z6R (c:Nat×Nat):∀ {l},l.Pairwise (fun a b=>X1U a<=X1U b)->(X5F c l).Pairwise fun a b=>X1U a<=X1U b
 | [],_=>Y2T _ _
 | d :: l, h => by
   simp only [X5F];rw [Y15] at h
   split
   . rename_i hle;refine Y15.2 ⟨fun x hx=>?_,Y15.2 h⟩;rcases YA.1 hx with rfl|hx
     . exact hle
     . exact Y03 hle (h.1 x hx)
   . rename_i hle;refine Y15.2 ⟨fun x hx=>?_,Z6R c h.2⟩;rcases YA.1 ((Z6Q c l).mem_iff.1 hx) with rfl|hx
     . omega
     . exact h.1 x hx
theorem Z3R:∀ l,(X1H l).Pairwise fun a b=>X1U a<=X1U b
 | []=>.nil
 | c :: l=>Z6R c (Z3R l)
theorem Z58:∀ {l m:List (Nat×Nat)},l.Pairwise (fun a b=>X1U a<=X1U b)->m.Pairwise (fun a b=>X1U a<=X1U b)->l.Perm m->(∀ c∈l,c.1<18446744073709551616/\c.2<18446744073709551616)->l=m
 | [],m,_,_,h,_=>h.nil_eq
 | c :: l,[],_,_,h,_=>absurd h.length_eq (by simp)
 | c :: l, d :: m, h1, h2, h, h64 => by
   rw [Y15] at h1 h2;have hcd:X1U c<=X1U d:=by
    rcases YA.1 (h.mem_iff.2 (Y0t ..)) with e|e
    . rw [e]; exact Y0m _
    . exact h1.1 d e
   have hdc:X1U d<=X1U c:=by
    rcases YA.1 (h.mem_iff.1 (Y0t ..)) with e|e
    . rw [e]; exact Y0m _
    . exact h2.1 c e
   have hd64:d.1<18446744073709551616/\d.2<18446744073709551616:=h64 d (h.mem_iff.2 (Y0t ..));have e:c=d:=ZcX (h64 c (Y0t ..)) hd64 (Nat.le_antisymm hcd hdc);subst e;rw [Z58 h1.2 h2.2 (List.Perm.cons_inv h) fun x hx=>h64 x (YD _ hx)]
theorem Z9Y {l m:List (Nat×Nat)} (h:m.Perm l) (hs:m.Pairwise fun a b=>X1U a<=X1U b) (h64:∀ c∈l,c.1<18446744073709551616/\c.2<18446744073709551616):m=X1H l :=
 Z58 hs (Z3R l) (h.trans (Z2D l).symm) fun c hc=>h64 c (h.mem_iff.1 hc)
theorem ZcY {l:List (Nat×Nat)} (h64:∀ c∈l,c.1<18446744073709551616/\c.2<18446744073709551616):∀ c∈X1H l,c.1<18446744073709551616/\c.2<18446744073709551616:=fun c hc=>h64 c ((Z2D l).mem_iff.1 hc)
end
section
open Go.RowKit
attribute [local irreducible] aw Xj dK
def bys (l:List Nat):List (List PV):=l.map fun (x:Nat) => [.val (.int .u8 (x:Int))]
def X46 (l:List Nat):Prop:=∀ x∈l,x<=255
def X4y (l:List Nat) (fl:Bool) (t:Nat):Bx:=⟨2,[[.vec (bys l) fl,.val (.int .i64 (t:Int))]]⟩
theorem Zg (l:List Nat):X3 (bys l):=Z37 _ _ fun _ _=>⟨Yt,Yt⟩
theorem ZbG (l:List Nat) (D:Nat->Prop):Xq D (bys l):=Ze (fun _ h=>h.elim) _ (Zg l)
theorem ZK (l:List Nat) (fl:Bool) (t:Nat):X3 (X4y l fl t).elems:=⟨⟨Zg l,Yt,Yt⟩,Yt⟩
theorem ZhL (l:List Nat) (fl:Bool) (t:Nat) (D:Nat->Prop):Xq D (X4y l fl t).elems:=Ze (fun _ h=>h.elim) _ (ZK l fl t)
theorem or_pow_bit' (y i j:Nat):(y ||| 2 ^ i).testBit j=(y.testBit j||decide (i=j)):=by rw [Y00,YI]
theorem Za1:∀ (l:List Int) (t:Int),t<=l.foldl (fun t i=>if i<=4095 then (if i>t then i else t) else t) t/\∀ r∈l,r<=4095->r<=l.foldl (fun t i=>if i<=4095 then (if i>t then i else t) else t) t
 | [],t=>⟨Int.le_refl t,fun r hr=>by cases hr⟩
 | a :: l, t => by
   rw [Y17];obtain⟨h1,h2⟩:=Za1 l (if a<=4095 then (if a>t then a else t) else t);refine⟨Int.le_trans (by split<;>(try split)<;>omega) h1,fun r hr h=>?_⟩;rcases YA.1 hr with rfl|hr
   . refine Int.le_trans ?_ h1;rw [Y5 h]
     split<;>omega
   . exact h2 r hr h
theorem Z84 {top:Int}:∀ (l:List Int) (a:Nat),(∀ r∈l,0<=r/\r<=top)->l.foldl (fun acc i=>if 0<=i/\i<=top then acc ||| 2 ^ i.toNat else acc) a=l.foldl (fun acc r=>acc ||| 2 ^ r.toNat) a
 | [],a,_=>rfl
 | x :: l, a, h => by
   rw [Y17,Y17,Y5 (h x (Y0t ..))];exact Z84 l _ fun r hr=>h r (YD _ hr)
theorem Za2:∀ (l:List Int) (a i:Nat),(l.foldl (fun acc r=>acc ||| 2 ^ r.toNat) a).testBit i=true↔a.testBit i=true \/ ∃ r∈l,r.toNat=i
 | [],a,i=>by simp
 | x :: l, a, i => by
   rw [Y17,Za2 l,or_pow_bit',YO,Y28];constructor
   . rintro ((h | h) | ⟨r, hr, h⟩)
     . exact .inl h
     . exact .inr ⟨x,Y0t ..,h⟩
     . exact .inr ⟨r,YD _ hr,h⟩
   . rintro (h | ⟨r, hr, h⟩)
     . exact .inl (.inl h)
     . rcases YA.1 hr with rfl | hr
       . exact .inl (.inr h)
       . exact .inr ⟨r,hr,h⟩
end
section
def g0 (l:List Nat) (i:Nat):Nat:=l.getD i 0
def X5g (w n:Nat):Nat:=(w*2 ^ n) % 18446744073709551616 ||| w / 2 ^ (64-n)
def kkC (a:List Nat) (x:Nat):Nat:=g0 a x ^^^ g0 a (x+5) ^^^ g0 a (x+10) ^^^ g0 a (x+15) ^^^ g0 a (x+20)
def kCs (a:List Nat):List Nat:=(List.range 5).map (kkC a)
def kkD (c:List Nat) (x:Nat):Nat:=g0 c ((x+4) % 5) ^^^ X5g (g0 c ((x+1) % 5)) 1
def kkT (i:Nat):Nat:=(X1O.getD i 0).toNat
def X5k (a c b:List Nat) (m:Nat):List Nat:=b.set (m % 5+5*((2*(m / 5)+3*(m % 5)) % 5)) (X5g (g0 a (m / 5+5*(m % 5)) ^^^ kkD c (m / 5)) (kkT (m / 5+5*(m % 5))))
def X2n (a c:List Nat):Nat->List Nat
 | 0=>List.replicate 25 0
 | m+1=>X5k a c (X2n a c m) m
def X56 (b:List Nat) (i:Nat):Nat:=g0 b i ^^^ ((18446744073709551615 ^^^ g0 b ((i % 5+1) % 5+(i-i % 5))) &&& g0 b ((i % 5+2) % 5+(i-i % 5)))
def X4w (b:List Nat):List Nat:=(List.range 25).map (X56 b)
def X3D (a:List Nat) (rc:Nat):List Nat :=
 let a':=X4w (X2n a (kCs a) 25)
 a'.set 0 (g0 a' 0 ^^^ rc)
def X3f (a:List Nat):Nat->List Nat
 | 0=>a
 | m+1=>X3D (X3f a m) (XQ.getD m 0).toNat
def perm (a:List Nat):List Nat:=X3f a 24
def X1R (bl:List Nat) (i:Nat):Nat->Nat
 | 0=>0
 | j+1=>(X1R bl i j*256) % 18446744073709551616 ||| g0 bl (8*i+(7-j))
def X3O (a bl:List Nat):Nat->List Nat
 | 0=>a
 | i+1=>let b:=X3O a bl i; b.set i (g0 b i ^^^ X1R bl i 8)
def X1K (a bl:List Nat):List Nat:=perm (X3O a bl 17)
structure HS where
 st:List Nat
 bl:List Nat
 used:Nat
 total:Nat
def HS.put (h:HS) (p:List Nat):HS :=
 let n:=min p.length (136-h.used)
 let bl:=h.bl.take h.used++p.take n++h.bl.drop (h.used+n)
 if h.used+n=136 then ⟨X1K h.st bl,bl,0,h.total⟩ else ⟨h.st,bl,h.used+n,h.total⟩
def HS.puts:Nat->HS->List Nat->HS
 | 0,h,_=>h
 | f+1,h,p=>if p.length=0 then h else HS.puts f (h.put p) (p.drop (min p.length (136-h.used)))
def X2U (bl:List Nat) (used:Nat):List Nat :=
 let l:=(bl.take used++List.replicate (136-used) 0).set used 6
 l.set 135 (g0 l 135 ^^^ 128)
def X5D (st:List Nat) (i:Nat):Nat:=(g0 st (i / 8) / 2 ^ (8*(i % 8))) % 256
end
section
open Go.RowKit
attribute [local irreducible] aw Xj dK
section
variable {P:Program} {C:Ctx} {Fr:Nat->Prop} {e:Env} {h:X1} {n:Nat} {F:XE} {φ:XF} {a:Act} {w:World} {K:Nat->Env->X1->Prop} {os:List Xm} {d:Option Nat} {Q:Exit->Nat->Env->X1->Prop}
def X2x (P:Program) (f:FuncId) (args:Nat->List PV) (b:Bx) (R:PV->Bx->Prop):Prop :=
 X10 P f 1 (args 0) (X1.upd (fun _=>none) 0 b) fun _ r h'=>∃ b',h' 0=some b'/\r.pure/\X3 b'.elems/\R r b'
def MkL (args:Nat->List PV):Prop:=(∀ i n,(args i).length=(args n).length)/\∀ (F:XE) (φ φ':XF) (v:Value) (i n j:Nat),φ i=φ' n->Rep F φ v ((args i).getD j pvu)->Rep F φ' v ((args n).getD j pvu)
theorem Z7a (k off:Nat):Mk fun i=>.ptr i k off:=fun F φ φ' v i n hn hv=>by
 obtain⟨loc,x,g1,gz,g2,g3,rfl⟩:=hv.ptr_inv;exact .ptr n k off loc x (hn▸g1) gz g2 g3
theorem ZkH (k off len cap:Nat):Mk fun i=>.sl i k off len cap:=fun F φ φ' v i n hn hv=>by
 obtain⟨loc,x,g1,gz,g2,g3,g4,rfl⟩:=hv.sl_inv;exact .sl n k off len cap loc x (hn▸g1) gz g2 g3 g4
theorem Zgs:MkL fun _ => []:=⟨fun _ _=>rfl,fun F φ φ' v i n j hn hv=>by simpa [pvu] using hv.pure (φ':=φ') (show (([]:List PV).getD j pvu).pure by simp [pvu,PV.inn])⟩
theorem Z9f {a:Nat->PV} {l:Nat->List PV} (ha:Mk a) (hl:MkL l):MkL fun i=>a i :: l i:=⟨fun i n=>by simp [hl.1 i n],fun F φ φ' v i n j hn hv=>by
 cases j with
 | zero=>exact ha F φ φ' v i n hn hv
 | succ j=>exact hl.2 F φ φ' v i n j hn hv⟩
theorem X2x.run {f:FuncId} {b:Bx} {args:Nat->List PV} {R:PV->Bx->Prop} (hs:X2x P f args b R) (hm:MkL args) (hpb:X3 b.elems) {id:Nat} (hb:h id=some b) (s:St' C Fr e h F φ a w) {vs:Array Value} (hv:X1B F φ vs (args id)) :
 Calls P f vs w fun en w'=>∃ v r b' F',en=.returned v/\(r.pure/\X3 b'.elems/\R r b')/\Rep F' φ v r/\St' C Fr e (h.upd id b') F' φ a w':=by
 obtain⟨loc,hloc,hbx,hhas⟩:=s.live id b hb
 let φ1:XF:=fun i=>if i=0 then some loc else none
 let C1:Ctx:=⟨w,fun k=>loc.has k,F,C.nt,φ1⟩
 have hG:∀ k,C1.G k->C.w0.heap.size<=k \/ C.G k:=fun k hk=>(hhas k hk).1;have hcells:∀ k,C1.G k->∀ o:Obj,w.heap[k]?=some o->¬ o=.deferred (some []):=by
  rintro k hk o ho rfl;rcases hbx.there hk with⟨cells,t,hg⟩|⟨es,t,hg⟩
  . rw [hg] at ho; cases ho
  . rw [hg] at ho; cases ho
 have h0:∀ {i:Nat} {b0:Bx},(X1.upd (fun _=>none) 0 b) i=some b0->i=0/\b0=b:=by
  intro i b0 hi;by_cases hi0:i=0
  . subst hi0; rw [X1.upd_same] at hi; exact⟨rfl,(YP hi).symm⟩
  . rw [X1.upd_ne _ _ hi0] at hi; cases hi
 have s1:St' C1 (fun i=>1<=i) (fun _=>none) (X1.upd (fun _=>none) 0 b) F φ1 { a with defers := [] } w:=by
  refine { nt:=s.nt,glob:=s.glob,marks:=X1q.nil rfl,loc0:=fun i x hx=>hx,free:=fun i hi=>?_,env:=fun k p hp=>(by cases hp),froz:=s.froz,ext:=fun _ _ h=>h,old:=fun _ _ _=>rfl,os:=rfl,tape:=rfl,output:=rfl,size:=Y0m _,kept:=fun _ _ _=>rfl,live:=fun i b0 hi=>?_,sep:=fun i j bi bj li lj k hi hj _ _ _ _=>?_ }
  . simp only [φ1]; rw [Y6 (by omega)]
  . obtain ⟨rfl, rfl⟩ := h0 hi;exact⟨loc,by simp [φ1],hbx.names hpb,fun k hk=>⟨.inr hk,(hhas k hk).2⟩⟩
  . rw [(h0 hi).1,(h0 hj).1]
 have hv1:X1B F φ1 vs (args 0):=⟨by rw [hv.1]; exact hm.1 id 0,fun i hi=>hm.2 F φ φ1 _ id 0 i (by rw [hloc]; simp [φ1]) (hv.2 i (by rw [hm.1 id 0]; exact hi))⟩
 refine (hs.2 C1 _ F φ1 { a with defers := [] } w vs s1 hv1).mono ?_;rintro en w' ⟨v,r,n',h',F',φ',rfl,⟨b',hb',hr,hpb',hR⟩,hvr,s'⟩;have hφ0:φ' 0=some loc:=s'.loc0 0 loc (by simp [C1,φ1]);refine⟨v,r,b',F',rfl,⟨hr,hpb',hR⟩,hvr.pure hr,?_⟩
 refine { nt := s.nt, glob := s'.glob, marks := s.marks.mono (fun k hk => by rw [s'.kept k (Y8.1 hk).1 (fun hg => hcells k hg _ hk rfl)]; exact hk), loc0 := s.loc0, free := s.free, env := fun k p hp => ⟨(s.env k p hp).1, (s.env k p hp).2.mono s'.ext fun _ _ h => h⟩, froz := s'.froz, ext := fun x v hx => s'.ext _ _ (s.ext x v hx),
          old:=fun x hx hg=>?_,os:=s'.os.trans s.os,tape:=s'.tape.trans s.tape,output:=s'.output.trans s.output,size:=Y03 s.size s'.size,kept:=fun k hk hg=>?_,live:=fun i bi hi=>?_,sep:=fun i j bi bj li lj k hi hj hli hlj hki hkj=>?_ }
 . have hx2 : x.block < w.heap.size := YH hx s.size;rw [s'.old x hx2 fun hg'=>(hG _ hg').elim (fun h1=>absurd hx (Y1S.2 h1)) hg];exact s.old x hx hg
 . rw [s'.kept k (YH hk s.size) fun hg' => (hG _ hg').elim (fun h1 => absurd hk (Y1S.2 h1)) hg];exact s.kept k hk hg
 . by_cases hid : i = id
   . subst hid;rw [X1.upd_same] at hi;cases hi;obtain⟨loc',g1,g2,g3⟩:=s'.live 0 b' hb';obtain rfl:loc'=loc:=by rw [hφ0] at g1; simpa using g1.symm
     exact⟨loc',hloc,g2.names hpb',fun k hk=>⟨(hhas k hk).1,(g3 k hk).2⟩⟩
   . rw [X1.upd_ne _ _ hid] at hi;obtain⟨li,g1,g2,g3⟩:=s.live i bi hi;have hout:∀ k,li.has k->¬ C1.G k:=fun k hk hg=>hid (s.sep i id bi b li loc k hi hb g1 hloc hk hg);have hblk:∀ k,li.has k->w'.heap[k]?=w.heap[k]?:=fun k hk=>s'.kept k (s.has_lt hi g1 hk) (hout k hk);refine⟨li,g1,g2.mono s'.ext (fun _ _ h=>h) hblk,fun k hk=>⟨(g3 k hk).1,fun x hx=>?_⟩⟩;rw [s'.old x (by rw [hx]; exact s.has_lt hi g1 hk) (by rw [hx]; exact hout k hk)];exact (g3 k hk).2 x hx
 . have conv : ∀ {i : Nat} {bi : Bx}, (h.upd id b') i = some bi -> ∃ b0, h i = some b0 := by
    intro i bi hi;by_cases hid:i=id
    . subst hid; exact⟨b,hb⟩
    . rw [X1.upd_ne _ _ hid] at hi; exact⟨bi,hi⟩
   obtain⟨b1,h1⟩:=conv hi
   obtain⟨b2,h2⟩:=conv hj
   exact s.sep i j b1 b2 li lj k h1 h2 hli hlj hki hkj
theorem X2x.frame {f:FuncId} {b:Bx} {args:Nat->List PV} {R:PV->Bx->Prop} (hs:X2x P f args b R) (hm:MkL args) (hpb:X3 b.elems) {id:Nat} (hb:h id=some b) :
 X10 P f n (args id) h fun n' r h'=>∃ b',n'=n/\h'=h.upd id b'/\r.pure/\X3 b'.elems/\R r b':=by
 refine⟨hs.1,fun C e F φ a w vs s hv=>(hs.run hm hpb hb s hv).mono ?_⟩;rintro en w' ⟨v,r,b',F',rfl,⟨h1,h2,h3⟩,hvr,s'⟩;exact⟨v,r,n,_,F',φ,rfl,⟨b',rfl,rfl,h1,h2,h3⟩,hvr,s'⟩
theorem X2x.prun {g:FuncId} {b:Bx} {args:Nat->List PV} {R:PV->Bx->Prop} (hs:X2x P g args b R) (hm:MkL args) (hpb:X3 b.elems) (id:Nat):X6d P g id b (args id) R:=⟨hs.1,fun hb s hv=>hs.run hm hpb hb s hv⟩
theorem ZkI {f:Operand} {args':List Operand} {g:FuncId} {caps as0:List PV} {args:Nat->List PV} {b:Bx} (id:Nat) {R:PV->Bx->Prop} (hs:X2x P g args b R) (hm:MkL args) (hf:ev e f=some (.fn g caps)) (ha:evs e args'=some as0) (hr:as0++caps=args id) (hb:h id=some b) (hpb:X3 b.elems)
 (hk:∀ r b',r.pure->X3 b'.elems->R r b'->Xj P os n (Xu e d r) (h.upd id b') K):Xj P (⟨d,.call f args',none⟩ :: os) n e h K:=by
 refine Z1w hf ha (R:=fun n' r h'=>∃ b',n'=n/\h'=h.upd id b'/\r.pure/\X3 b'.elems/\R r b') (by rw [hr]; exact hs.frame hm hpb hb) ?_;rintro n' r h' ⟨b',rfl,rfl,h1,h2,h3⟩;exact hk r b' h1 h2 h3
theorem Z7b {f nt:Nat} {ac:X2} {rs:List X2k} (hf:X43 P f nt ac rs) {b:Bx} {args:Nat->List PV} {R:PV->Bx->Prop} (hn:(args 0).length<=nt) (hk:∀ C:Ctx,C.dom 1->aw P C ac (X5E rs fun _ r h'=>∃ b',h' 0=some b'/\r.pure/\X3 b'.elems/\R r b') 1 (XS (args 0)) (XD [(0,b)])):X2x P f args b R :=
 Z1O hf hn hk
end
def Xh (kd:IntKind) (l:List Nat):List PV:=l.map fun (x:Nat)=>.val (.int kd (x:Int))
theorem ZJ (kd:IntKind) (l:List Nat):(Xh kd l).length=l.length:=by simp [Xh]
theorem ZN (kd:IntKind) (l:List Nat):X6 (Xh kd l):=(Z1j _ _).2 fun p hp=>by
 obtain⟨x,_,rfl⟩:=Y0i.1 hp;exact Yt
theorem Z1A {a b:List PV} (ha:X6 a) (hb:X6 b):X6 (a++b):=(Z1j _ _).2 fun p hp=>(Y0h.1 hp).elim ((Z1j _ _).1 ha p) ((Z1j _ _).1 hb p)
theorem X6V (l:List PV) (off:Nat) (h:off<l.length):X19 false 1 off l=some (l.getD off pvu):=by
 unfold X19;rw [Y5 (by omega),Y1D h,Y0b,Y0c h]
 rfl
theorem Zgt {kd:IntKind} {L:List Nat} {j:Nat} (hj:j<L.length) (pre post:List PV):(pre++(Xh kd L++post)).getD (pre.length+j) pvu=.val (.int kd ((g0 L j:Nat):Int)):=by
 have h2:j<(Xh kd L).length:=by rw [ZJ]; exact hj
 rw [Y0b,YG (by omega),Y2S,YF h2];unfold Xh g0;simp [Y0b,hj]
theorem Z7c (l:List PV) (off:Nat) (v:PV) (h:off<l.length):Xi l off [v]=l.set off v:=by
 unfold Xi;rw [List.set_eq_take_append_cons_drop,Y5 h];simp
theorem Zie {kd:IntKind} {L:List Nat} {j x:Nat} (hj:j<L.length) (pre post:List PV):Xi (pre++(Xh kd L++post)) (pre.length+j) [.val (.int kd (x:Int))]=pre++(Xh kd (L.set j x)++post):=by
 have h2:j<(Xh kd L).length:=by rw [ZJ]; exact hj
 rw [Z7c _ _ _ (by rw [Y0e,Y0e];omega),Y3R _ _ (by omega),Y2S,List.set_append_left _ _ h2];unfold Xh;rw [Y4h]
section
variable {kd:IntKind} {e:Env} {h:X1} {n k o j:Nat} {Eb:Nat} {L:List Nat} {pre post:List PV}
theorem Z3C {a:Operand} (ha:ev e a=some (.ptr k 0 (o+j))) (hb:h k=some ⟨Eb,[pre++(Xh kd L++post)]⟩) (ho:pre.length=o) (hj:j<L.length):X4 (.load false 1 a) e h n=some (.val (.int kd ((g0 L j:Nat):Int)),h):=by
 subst ho;have hl:pre.length+j<(pre++(Xh kd L++post)).length:=by rw [Y0e,Y0e,ZJ]; omega
 exact Z2p ha hb Y1B (by
  show X19 false 1 _ (pre++(Xh kd L++post))=_
  rw [X6V _ _ hl,Zgt hj])
theorem Z9g {a v:Operand} {x:Nat} (ha:ev e a=some (.ptr k 0 (o+j))) (hv:ev e v=some (.val (.int kd (x:Int)))) (hb:h k=some ⟨Eb,[pre++(Xh kd L++post)]⟩) (ho:pre.length=o) (hj:j<L.length) (hE:o+L.length<=Eb) :
 X4 (.store 1 a v) e h n=some (pvu,h.upd k ⟨Eb,[pre++(Xh kd (L.set j x)++post)]⟩):=by
 subst ho;have:=Z1V (n:=n) (size:=1) ha hv hb rfl rfl (show 0<1 by decide) (by show pre.length+j+1<=Eb;omega);rw [this];simp only;have e1:([pre++(Xh kd L++post)]:List (List PV)).set 0 (Xi (([pre++(Xh kd L++post)]:List (List PV)).getD 0 []) (pre.length+j) (PV.val (.int kd (x:Int))).cells) = [pre++(Xh kd (L.set j x)++post)]:=by
  show [Xi (pre++(Xh kd L++post)) (pre.length+j) [.val (.int kd (x:Int))]]=_;rw [Zie hj]
 rw [e1]
theorem Z34 {x i:Operand} {i0 n0:Nat} {kk:IntKind} {m:Int} (hx:ev e x=some (.ptr k i0 o)) (hi:ev e i=some (.val (.int kk m))) (j:Nat) (hm:m=(j:Int)) (hj:j<n0):X4 (.iaddrA n0 1 x i) e h n=some (.ptr k i0 (o+j),h):=by
 subst hm;simp only [X4,hx,hi];rw [Y5 ⟨by omega,by omega⟩];simp
theorem ZkJ {x i:Operand} {n0:Nat} {kk:IntKind} {m:Int} {l:List PV} (hx:ev e x=some (.agg l)) (hi:ev e i=some (.val (.int kk m))) (j:Nat) (hm:m=(j:Int)) (hj:j<n0) (hl:l.length=n0):X4 (.indexA false n0 1 x i) e h n=some (l.getD j pvu,h):=by
 subst hm;simp only [X4,hx,hi];rw [Y5 ⟨by omega,by omega⟩];simp only [YW,Y24];rw [X6V _ _ (by omega)]
end
def W64 (l:List Nat):Prop:=∀ w∈l,w<18446744073709551616
theorem ZiU {l:List Nat} {i:Nat} (h:i<l.length):g0 l i∈l:=by
 unfold g0;rw [Y0b,Y0c h];exact Y0j h
theorem W64.g {l:List Nat} (h:W64 l) (i:Nat):g0 l i<18446744073709551616:=by
 by_cases hi:i<l.length
 . exact h _ (ZiU hi)
 . unfold g0;rw [Y0b,Y2z (by omega)]
   decide
theorem W64.set {l:List Nat} (h:W64 l) {i x:Nat} (hx:x<18446744073709551616):W64 (l.set i x):=fun w hw=>by
 rcases Y1P hw with hw|rfl
 . exact h w hw
 . exact hx
theorem Z1a {a b:Nat} (ha:a<18446744073709551616) (hb:b<18446744073709551616):a ^^^ b<18446744073709551616:=Y46 (n:=64) ha hb
theorem Zgu {a b:Nat} (ha:a<18446744073709551616) (hb:b<18446744073709551616):a ||| b<18446744073709551616:=Y2j (n:=64) ha hb
theorem Zc2 {x s:Nat} (hx:x<18446744073709551616):X5g x s<18446744073709551616 :=
 Zgu (Y1l _ (by decide)) (Y02 (Y4u ..) hx)
theorem X5t (N j:Nat) (h:j<=64):Int.fdiv (N:Int) (2 ^ (min ((j:Nat):Int).toNat IntKind.u64.bits))=((N / 2 ^ j:Nat):Int):=by
 have hb:IntKind.u64.bits=64:=rfl;rw [YW,hb,Y1C h,Y3n _ (Int.pow_nonneg (by decide))];rw [show (2:Int) ^ j=((2 ^ j:Nat):Int) by rw [Y4x]; rfl];exact (Int.natCast_ediv ..).symm
theorem X5o (N j:Nat) (h:j<=64):IntKind.u64.wrap ((N:Int)*2 ^ (min ((j:Nat):Int).toNat IntKind.u64.bits))=((N*2 ^ j % 18446744073709551616:Nat):Int):=by
 have hb:IntKind.u64.bits=64:=rfl;rw [YW,hb,Y1C h,Y3b];rw [show (2:Int) ^ j=((2 ^ j:Nat):Int) by rw [Y4x]; rfl,<- Int.natCast_mul]
 rfl
theorem Zaj (x s:Nat) (hx:x<18446744073709551616) (hs:s<64):X7 Tryz.prog 291 [.val (.int .u64 (x:Int)),.val (.int .i64 (s:Int))] (· = .val (.int .u64 ((X5g x s:Nat):Int))):=by
 refine Yp ok291 fun C hC=>?_;refine gd 7 ⟨?_⟩;refine Zh (v:=(s:Int)) rfl rfl rfl (by exact Y0x _ ⟨by omega,by omega⟩) ?_
 refine Zh (v:=(s:Int)) rfl rfl rfl (by
  have h1:=Y26 s 63 (by omega) (by decide);have h2:s &&& 63=s:=by
   have:=Nat.and_two_pow_sub_one_eq_mod s 6;rw [show (2:Nat) ^ 6-1=63 by decide] at this;rw [this]; exact Y1k hs
  rw [h2] at h1
  exact h1) ?_
 refine gd 11 ⟨?_⟩;refine Z4O rfl rfl (by omega) (X5o x s (by omega)) rfl ?_;refine gd 14 ⟨?_⟩
 refine Zh (v:=((64-s:Nat):Int)) rfl rfl rfl (by
  rw [show (64:Int)-(s:Int)=((64-s:Nat):Int) by omega]
  exact Y0x _ ⟨by omega,by omega⟩) ?_
 refine Z3k rfl rfl (by omega) (X5t x (64-s) (by omega)) rfl ?_;refine Zh (v:=((X5g x s:Nat):Int)) rfl rfl rfl (Y1R _ _ (Y1l _ (by decide)) (Y02 (Y4u ..) hx)) ?_;refine go ?_;exact Z7 rfl Yt rfl
theorem wi (n:Nat) (h:n<1000000):IntKind.i64.wrap ((n:Nat):Int)=(n:Int):=Y0v _ ⟨by omega,by omega⟩
theorem Zlf {a:List Nat} (h:W64 a) (x:Nat):kkC a x<18446744073709551616:=Z1a (Z1a (Z1a (Z1a (h.g _) (h.g _)) (h.g _)) (h.g _)) (h.g _)
theorem ZjH {a:List Nat} (h:W64 a):W64 (kCs a):=fun w hw=>by
 obtain⟨x,_,rfl⟩:=Y0i.1 hw;exact Zlf h x
theorem ZkK {c:List Nat} (h:W64 c) (x:Nat):kkD c x<18446744073709551616:=Z1a (h.g _) (Zc2 (h.g _))
theorem Z9h {a c:List Nat} (ha:W64 a) (hc:W64 c):∀ m,W64 (X2n a c m)
 | 0=>fun w hw=>by rw [Y1n hw]; decide
 | m+1=>(Z9h ha hc m).set (Zc2 (Z1a (ha.g _) (ZkK hc _)))
theorem Z7d (a c:List Nat):∀ m,(X2n a c m).length=25
 | 0=>rfl
 | m+1=>by show (List.set ..).length=25; rw [Y11,Z7d a c m]
theorem ZjI {b:List Nat} (h:W64 b) (i:Nat):X56 b i<18446744073709551616:=Z1a (h.g _) (Y02 Y27 (h.g _))
theorem Zdj (b:List Nat):(X4w b).length=25:=by simp [X4w]
theorem Zgv {b:List Nat} (h:W64 b):W64 (X4w b):=fun w hw=>by
 obtain⟨x,_,rfl⟩:=Y0i.1 hw;exact ZjI h x
theorem Zer (a:List Nat) (rc:Nat):(X3D a rc).length=25:=by show (List.set ..).length=25; rw [Y11,Zdj]
theorem Zif {a:List Nat} (h:W64 a) {rc:Nat} (hr:rc<18446744073709551616):W64 (X3D a rc) :=
 (Zgv (Z9h h (ZjH h) 25)).set (Z1a ((Zgv (Z9h h (ZjH h) 25)).g _) hr)
theorem ZkL:∀ m,m<24->(XQ.getD m 0).toNat<18446744073709551616:=by decide
theorem ZkM:∀ m,m<24->(((XQ.getD m 0).toNat:Nat):Int)=XQ.getD m 0:=by decide
theorem Zak {a:List Nat} (ha:a.length=25):∀ m,(X3f a m).length=25
 | 0=>ha
 | m+1=>Zer _ _
theorem Zc3 {a:List Nat} (ha:W64 a):∀ m,m<=24->W64 (X3f a m)
 | 0,_=>ha
 | m+1,h=>Zif (Zc3 ha m (by omega)) (ZkL m (by omega))
def rdL:List PV:=XQ.map fun x=>.val (.int .u64 x)
theorem Z1M:X6 rdL:=(Z1j _ _).2 fun p hp=>by
 obtain⟨x,_,rfl⟩:=Y0i.1 hp;exact Yt
theorem ZjJ {m:Nat} (h:m<24):rdL.getD m pvu=.val (.int .u64 (((XQ.getD m 0).toNat:Nat):Int)):=by
 rw [ZkM m h];have hl:m<XQ.length:=h;unfold rdL;simp [Y0b,hl]
def X29 (a:List Nat) (x:Nat):List Nat:=(List.range 5).map fun i=>if i<x then kkC a i else 0
theorem Zal (a:List Nat) (x:Nat):(X29 a x).length=5:=by simp [X29]
theorem Z3Y (f:Nat->Nat) {n i:Nat} (h:i<n):g0 ((List.range n).map f) i=f i:=by
 unfold g0;simp [Y0b,h]
theorem Z5E {l m:List Nat} (hl:l.length=m.length) (h:∀ x,x<l.length->g0 l x=g0 m x):l=m:=by
 refine Y4l hl fun i h1 h2=>?_;have:=h i h1;unfold g0 at this;simpa [Y0b,h1,h2] using this
theorem Zgw (L:List Nat) (j x y:Nat):g0 (L.set j x) y=if y=j/\j<L.length then x else g0 L y:=by
 unfold g0;simp only [Y0b,YV];by_cases h:j=y
 . subst h;by_cases hj:j<L.length
   . simp [hj]
   . simp [hj]
 . rw [Y6 h,Y6 (fun c=>h c.1.symm)]
theorem Zes (a:List Nat) {x:Nat} (h:x<5):(X29 a x).set x (kkC a x)=X29 a (x+1):=Z5E (by simp [X29]) fun i hi=>by
 have hi:i<5:=by simpa [X29] using hi
 rw [Zgw,Zal];unfold X29;rw [Z3Y _ hi,Z3Y _ hi];by_cases hx:i=x
 . subst hx; rw [Y5 ⟨rfl,h⟩,Y5 (by omega)]
 . rw [Y6 (fun c => hx c.1)];by_cases hlt:i<x
   . rw [Y5 hlt,Y5 (by omega)]
   . rw [Y6 hlt,Y6 (by omega)]
theorem Zgx (a:List Nat):X29 a 5=kCs a:=Z5E (by simp [X29,kCs]) fun i hi=>by
 have hi:i<5:=by simpa [X29] using hi
 unfold X29 kCs;rw [Z3Y _ hi,Z3Y _ hi,Y5 hi]
def X1z (b a:List Nat) (k:Nat):List Nat:=(List.range 25).map fun i=>if i<k then X56 b i else g0 a i
theorem Zam (b a:List Nat) (k:Nat):(X1z b a k).length=25:=by simp [X1z]
theorem Zet (b:List Nat) {a:List Nat} (ha:a.length=25):X1z b a 0=a:=Z5E (by simp [X1z,ha]) fun i hi=>by
 have hi:i<25:=by simpa [X1z] using hi
 unfold X1z;rw [Z3Y _ hi,Y6 (by omega)]
theorem Zgy (b a:List Nat):X1z b a 25=X4w b:=Z5E (by simp [X1z,X4w]) fun i hi=>by
 have hi:i<25:=by simpa [X1z] using hi
 unfold X1z X4w;rw [Z3Y _ hi,Z3Y _ hi,Y5 hi]
theorem Zeu (b a:List Nat) {k:Nat} (h:k<25):(X1z b a k).set k (X56 b k)=X1z b a (k+1):=Z5E (by simp [X1z]) fun i hi=>by
 have hi:i<25:=by simpa [X1z] using hi
 rw [Zgw,Zam];unfold X1z;rw [Z3Y _ hi,Z3Y _ hi];by_cases hx:i=k
 . subst hx; rw [Y5 ⟨rfl,h⟩,Y5 (by omega)]
 . rw [Y6 (fun c => hx c.1)];by_cases hlt:i<k
   . rw [Y5 hlt,Y5 (by omega)]
   . rw [Y6 hlt,Y6 (by omega)]
def trL:List PV:=X1O.map fun x=>.val (.int .i64 x)
theorem ZkN:∀ m,m<25->((kkT m:Nat):Int)=X1O.getD m 0:=by decide
theorem Zlg:∀ m,m<25->kkT m<64:=by decide
theorem Zig {m:Nat} (h:m<25):∃ r,trL.drop m=.val (.int .i64 ((kkT m:Nat):Int)) :: r:=by
 have hl:m<trL.length:=h;have hl2:m<X1O.length:=h;refine⟨trL.drop (m+1),?_⟩;rw [Y1D hl,ZkN m h];congr 1;unfold trL;simp [Y0b,hl2];exact Y3G ..
theorem Zlh {e:Env} {h:X1} {n:Nat} {x i:Operand} {n0:Nat} {kk:IntKind} {m:Int} {l:List PV} (hx:ev e x=some (.cp l)) (hi:ev e i=some (.val (.int kk m))) (j:Nat) (hm:m=(j:Int)) (hj:j<n0):X4 (.iaddrA n0 1 x i) e h n=some (.cp (l.drop j),h):=by
 subst hm;simp only [X4,hx,hi];rw [Y5 ⟨by omega,by omega⟩];simp
theorem Zli {e:Env} {h:X1} {n:Nat} {a:Operand} {l r:List PV} {v:PV} (ha:ev e a=some (.cp l)) (hl:l=v :: r):X4 (.load false 1 a) e h n=some (v,h):=by
 subst hl;simp [X4,ha,X19]
theorem ZjK {e:Env} {h:X1} {n:Nat} {x:Operand} {w:Nat} (hx:ev e x=some (.val (.int .u64 (w:Int)))) (hw:w<18446744073709551616):X4 (.una .xor x) e h n=some (.val (.int .u64 ((18446744073709551615 ^^^ w:Nat):Int)),h):=by
 have:=Y1v 18446744073709551615 w (by decide) hw;simp only [X4,hx];show (match (some (PV.val (.int .u64 (bits .xor .u64 ((18446744073709551615:Nat):Int) (w:Int)))):Option PV) with|some r=>some (r,h)|none=>none)=_;rw [this]
theorem Z3Z {kd:IntKind} {l:List Nat} {rest:List PV} (hr:X6 rest):X3 [Xh kd l++rest]:=⟨Z1A (ZN kd l) hr,Yt⟩
theorem X1k {D:Nat->Prop} {kd:IntKind} {l:List Nat} {rest:List PV} (hr:X6 rest):Xq D [Xh kd l++rest]:=Ze (fun _ h=>h.elim) _ (Z3Z hr)
theorem Zan (Eb:Nat) (hE:25<=Eb) (a:List Nat) (ha:a.length=25) (hw:W64 a) (rest:List PV) (hr:X6 rest):X2d Tryz.prog 285 ⟨Eb,[Xh .u64 a++rest]⟩ [] (fun r b'=>b'=⟨Eb,[Xh .u64 (perm a)++rest]⟩):=by
 refine Z1P ok285 (Y0 rfl) fun C hC=>?_;refine go ?_;refine ZA hC (fun m=>m<=24) (fun m=>24-m) 1 (fun m => [(0,.ptr 0 0 0),(12,.agg rdL),(13,.val (.int .i64 (m:Int)))]) (fun m => [(0,⟨Eb,[Xh .u64 (X3f a m)++rest]⟩)]) (by decide) 0 (Y0l _)
  ⟨⟨rfl,show 0<1 by decide⟩,⟨rfl,ZI (fun _ h=>h.elim) _ Z1M⟩,⟨rfl,Yt⟩,Yt⟩ ⟨⟨by decide,rfl,X1k hr⟩,Yt⟩ ?_
 intro m hm;have hAl:=Zak ha m;have hAw:=Zc3 hw m hm;generalize hAA:X3f a m=A at hAl hAw;have hinc:IntKind.i64.wrap ((m:Int)+1)=((m+1:Nat):Int):=wi (m+1) (by omega);refine gd 14 ⟨?_⟩;by_cases hml:m<24
 . refine Qo (Qy rfl (by omega)) ?_;have hrc:=ZkL m hml;refine gd 15 ⟨?_⟩;refine Qo (ZkJ rfl rfl m rfl hml rfl) ?_;rw [ZjJ hml];generalize hrr:(XQ.getD m 0).toNat=rc at hrc;refine go ?_;refine ZA hC (fun x=>x<=5) (fun x=>5-x) 2 (fun x => [(0,.ptr 0 0 0),(3,.val (.int .u64 (rc:Int))),(4,.ptr 1 0 0),(12,.agg rdL),(13,.val (.int .i64 (m:Int))),(16,.val (.int .i64 (x:Int)))]) (fun x => [(0,⟨Eb,[Xh .u64 A++rest]⟩),(1,⟨5,[Xh .u64 (X29 A x) ++ []]⟩)]) (by decide) 0 (Y0l _)
    ⟨⟨rfl,show 0<2 by decide⟩,⟨rfl,Yt⟩,⟨rfl,show 1<2 by decide⟩,⟨rfl,ZI (fun _ h=>h.elim) _ Z1M⟩,⟨rfl,Yt⟩,⟨rfl,Yt⟩,Yt⟩ ⟨⟨by decide,rfl,X1k hr⟩,⟨by decide,rfl,X1k Yt⟩,Yt⟩ ?_
   intro x hx;have hinx:IntKind.i64.wrap ((x:Int)+1)=((x+1:Nat):Int):=wi (x+1) (by omega);refine gd 17 ⟨?_⟩;by_cases hxl:x<5
   . refine Qo (Qy rfl (by omega)) ?_;have cl:=Zal A x;refine gd 23 ⟨?_⟩;refine Qr (Z34 rfl rfl x rfl (by omega)) ?_;refine Qr (Z3C (kd:=.u64) (L:=A) (pre := []) (post:=rest) (o:=0) rfl rfl rfl (by omega)) ?_;refine gd 27 ⟨?_⟩;refine Qr (Z10 (v:=((x+5:Nat):Int)) rfl (wi (x+5) (by omega))) ?_;refine gd 29 ⟨?_⟩;refine Qr (Z34 rfl rfl (x+5) rfl (by omega)) ?_;refine Qr (Z3C (kd:=.u64) (L:=A) (pre := []) (post:=rest) (o:=0) rfl rfl rfl (by omega)) ?_;refine Qr (Z10 rfl (Y1v _ _ (hAw.g _) (hAw.g _))) ?_;refine gd 34 ⟨?_⟩;refine Qr (Z10 (v:=((x+10:Nat):Int)) rfl (wi (x+10) (by omega))) ?_;refine gd 36 ⟨?_⟩;refine Qr (Z34 rfl rfl (x+10) rfl (by omega)) ?_;refine Qr (Z3C (kd:=.u64) (L:=A) (pre := []) (post:=rest) (o:=0) rfl rfl rfl (by omega)) ?_;refine Qr (Z10 rfl (Y1v _ _ (Z1a (hAw.g _) (hAw.g _)) (hAw.g _))) ?_;refine gd 41 ⟨?_⟩;refine Qr (Z10 (v:=((x+15:Nat):Int)) rfl (wi (x+15) (by omega))) ?_;refine gd 43 ⟨?_⟩;refine Qr (Z34 rfl rfl (x+15) rfl (by omega)) ?_;refine Qr (Z3C (kd:=.u64) (L:=A) (pre := []) (post:=rest) (o:=0) rfl rfl rfl (by omega)) ?_;refine Qr (Z10 rfl (Y1v _ _ (Z1a (Z1a (hAw.g _) (hAw.g _)) (hAw.g _)) (hAw.g _))) ?_;refine gd 48 ⟨?_⟩;refine Qr (Z10 (v:=((x+20:Nat):Int)) rfl (wi (x+20) (by omega))) ?_;refine gd 50 ⟨?_⟩;refine Qr (Z34 rfl rfl (x+20) rfl (by omega)) ?_;refine Qr (Z3C (kd:=.u64) (L:=A) (pre := []) (post:=rest) (o:=0) rfl rfl rfl (by omega)) ?_;refine Qr (Z10 (v:=((kkC A x:Nat):Int)) rfl (Y1v _ _ (Z1a (Z1a (Z1a (hAw.g _) (hAw.g _)) (hAw.g _)) (hAw.g _)) (hAw.g _))) ?_;refine Qr (Z34 rfl rfl x rfl hxl) ?_;refine Qr (Z9g (kd:=.u64) (L:=X29 A x) (x:=kkC A x) (pre := []) (post := []) (o:=0) rfl rfl rfl rfl (by omega) (by omega)) ?_;rw [Zes A hxl];refine go ?_;exact⟨x+1,by omega,by omega,⟨⟨rfl,show 0<2 by decide⟩,⟨rfl,Yt⟩,⟨rfl,show 1<2 by decide⟩,⟨rfl,ZI (fun _ h=>h.elim) _ Z1M⟩,⟨rfl,Yt⟩,⟨by show some _=some _; rw [hinx],Yt⟩,Yt⟩,⟨⟨by decide,rfl,X1k hr⟩,⟨by decide,rfl,X1k Yt⟩,Yt⟩⟩
   . obtain rfl : x = 5 := by omega
     refine Qo (Qz rfl (by omega)) ?_;rw [Zgx];have hcw:=ZjH hAw;have hcl:(kCs A).length=5:=by simp [kCs]
     generalize hcc:kCs A=cs at hcw hcl;refine go ?_;refine ZA hC (fun x=>x<=5) (fun x=>5-x) 3 (fun x => [(0,.ptr 0 0 0),(3,.val (.int .u64 (rc:Int))),(4,.ptr 1 0 0),(6,.ptr 2 0 0),(12,.agg rdL),(13,.val (.int .i64 (m:Int))),(55,.val (.int .i64 (x:Int)))]) (fun x => [(0,⟨Eb,[Xh .u64 A++rest]⟩),(1,⟨5,[Xh .u64 cs ++ []]⟩),(2,⟨25,[Xh .u64 (X2n A cs (5*x)) ++ []]⟩)]) (by decide) 0 (Y0l _)
      ⟨⟨rfl,show 0<3 by decide⟩,⟨rfl,Yt⟩,⟨rfl,show 1<3 by decide⟩,⟨rfl,show 2<3 by decide⟩,⟨rfl,ZI (fun _ h=>h.elim) _ Z1M⟩,⟨rfl,Yt⟩,⟨rfl,Yt⟩,Yt⟩ ⟨⟨by decide,rfl,X1k hr⟩,⟨by decide,rfl,X1k Yt⟩,⟨by decide,rfl,X1k Yt⟩,Yt⟩ ?_
     intro x hx;have hinx:IntKind.i64.wrap ((x:Int)+1)=((x+1:Nat):Int):=wi (x+1) (by omega);refine gd 56 ⟨?_⟩;by_cases hxl:x<5
     . refine Qo (Qy rfl (by omega)) ?_;refine gd 59 ⟨?_⟩;refine Qr (Z10 (v:=((x+4:Nat):Int)) rfl (wi (x+4) (by omega))) ?_;refine Qr (Z10 (v:=(((x+4) % 5:Nat):Int)) rfl (Y2H (x+4) 5).symm) ?_;refine Qr (Z34 rfl rfl ((x+4) % 5) rfl (by omega)) ?_;refine Qr (Z3C (kd:=.u64) (L:=cs) (pre := []) (post := []) (o:=0) rfl rfl rfl (by omega)) ?_;refine gd 64 ⟨?_⟩;refine Qr (Z10 (v:=((x+1:Nat):Int)) rfl (wi (x+1) (by omega))) ?_;refine Qr (Z10 (v:=(((x+1) % 5:Nat):Int)) rfl (Y2H (x+1) 5).symm) ?_;refine Qr (Z34 rfl rfl ((x+1) % 5) rfl (by omega)) ?_;refine Qr (Z3C (kd:=.u64) (L:=cs) (pre := []) (post := []) (o:=0) rfl rfl rfl (by omega)) ?_;refine Qd (Zaj (g0 cs ((x+1) % 5)) 1 (hcw.g _) (by decide)) ⟨Yt,Yt,Yt⟩ ?_;refine Qr (Z10 (v:=((kkD cs x:Nat):Int)) rfl (Y1v _ _ (hcw.g _) (Zc2 (hcw.g _)))) ?_;have hkd:=ZkK hcw x;refine go ?_;refine ZA hC (fun y=>y<=5) (fun y=>5-y) 3 (fun y => [(0,.ptr 0 0 0),(3,.val (.int .u64 (rc:Int))),(4,.ptr 1 0 0),(6,.ptr 2 0 0),(7,.val (.int .i64 (x:Int))),(8,.val (.int .u64 ((kkD cs x:Nat):Int))),(12,.agg rdL),(13,.val (.int .i64 (m:Int))),(55,.val (.int .i64 (x:Int))),(70,.val (.int .i64 (y:Int)))]) (fun y => [(0,⟨Eb,[Xh .u64 A++rest]⟩),(1,⟨5,[Xh .u64 cs ++ []]⟩),(2,⟨25,[Xh .u64 (X2n A cs (5*x+y)) ++ []]⟩)]) (by decide) 0 (Y0l _)
        ⟨⟨rfl,show 0<3 by decide⟩,⟨rfl,Yt⟩,⟨rfl,show 1<3 by decide⟩,⟨rfl,show 2<3 by decide⟩,⟨rfl,Yt⟩,⟨rfl,Yt⟩,⟨rfl,ZI (fun _ h=>h.elim) _ Z1M⟩,⟨rfl,Yt⟩,⟨rfl,Yt⟩,⟨rfl,Yt⟩,Yt⟩ ⟨⟨by decide,rfl,X1k hr⟩,⟨by decide,rfl,X1k Yt⟩,⟨by decide,rfl,X1k Yt⟩,Yt⟩ ?_
       intro y hy;have hiny:IntKind.i64.wrap ((y:Int)+1)=((y+1:Nat):Int):=wi (y+1) (by omega);refine gd 71 ⟨?_⟩;by_cases hyl:y<5
       . refine Qo (Qy rfl (by omega)) ?_;have bl1:=Z7d A cs (5*x+y);have d1:(5*x+y) / 5=x:=by omega
         have d2:(5*x+y) % 5=y:=by omega
         have hbs:(X2n A cs (5*x+y)).set (y+5*((2*x+3*y) % 5)) (X5g (g0 A (x+5*y) ^^^ kkD cs x) (kkT (x+5*y)))=X2n A cs (5*x+(y+1)):=by
          show _=X5k A cs (X2n A cs (5*x+y)) (5*x+y);unfold X5k;rw [d1,d2]
         obtain⟨tr,htr⟩:=Zig (show x+5*y<25 by omega);refine gd 75 ⟨?_⟩;refine Qr (Z10 (v:=((2*x:Nat):Int)) rfl (wi (2*x) (by omega))) ?_;refine gd 77 ⟨?_⟩;refine Qr (Z10 (v:=((3*y:Nat):Int)) rfl (wi (3*y) (by omega))) ?_;refine Qr (Z10 (v:=((2*x+3*y:Nat):Int)) rfl (wi (2*x+3*y) (by omega))) ?_;refine Qr (Z10 (v:=(((2*x+3*y) % 5:Nat):Int)) rfl (Y2H (2*x+3*y) 5).symm) ?_;refine Qr (Z10 (v:=((5*((2*x+3*y) % 5):Nat):Int)) rfl (wi (5*((2*x+3*y) % 5)) (by omega))) ?_;refine Qr (Z10 (v:=((y+5*((2*x+3*y) % 5):Nat):Int)) rfl (wi (y+5*((2*x+3*y) % 5)) (by omega))) ?_;refine gd 85 ⟨?_⟩;refine Qr (Z10 (v:=((5*y:Nat):Int)) rfl (wi (5*y) (by omega))) ?_;refine Qr (Z10 (v:=((x+5*y:Nat):Int)) rfl (wi (x+5*y) (by omega))) ?_;refine gd 88 ⟨?_⟩;refine Qr (Z34 rfl rfl (x+5*y) rfl (by omega)) ?_;refine Qr (Z3C (kd:=.u64) (L:=A) (pre := []) (post:=rest) (o:=0) rfl rfl rfl (by omega)) ?_;refine gd 91 ⟨?_⟩;refine Qr (Z10 (v:=((g0 A (x+5*y) ^^^ kkD cs x:Nat):Int)) rfl (Y1v _ _ (hAw.g _) hkd)) ?_;refine gd 94 ⟨?_⟩;refine Qr (Z10 (v:=((5*y:Nat):Int)) rfl (wi (5*y) (by omega))) ?_;refine Qr (Z10 (v:=((x+5*y:Nat):Int)) rfl (wi (x+5*y) (by omega))) ?_;refine Qr (Zlh (l:=trL) rfl rfl (x+5*y) rfl (by omega)) ?_;refine Qr (Zli rfl htr) ?_;refine Qd (Zaj (g0 A (x+5*y) ^^^ kkD cs x) (kkT (x+5*y)) (Z1a (hAw.g _) hkd) (Zlg _ (by omega))) ⟨Yt,Yt,Yt⟩ ?_;refine Qr (Z34 rfl rfl (y+5*((2*x+3*y) % 5)) rfl (by omega)) ?_;refine Qr (Z9g (kd:=.u64) (L:=X2n A cs (5*x+y)) (x:=X5g (g0 A (x+5*y) ^^^ kkD cs x) (kkT (x+5*y))) (pre := []) (post := []) (o:=0) rfl rfl rfl rfl (by omega) (by omega)) ?_;rw [hbs];refine go ?_;exact⟨y+1,by omega,by omega,⟨⟨rfl,show 0<3 by decide⟩,⟨rfl,Yt⟩,⟨rfl,show 1<3 by decide⟩,⟨rfl,show 2<3 by decide⟩,⟨rfl,Yt⟩,⟨rfl,Yt⟩,⟨rfl,ZI (fun _ h=>h.elim) _ Z1M⟩,⟨rfl,Yt⟩,⟨rfl,Yt⟩,⟨by show some _=some _; rw [hiny],Yt⟩,Yt⟩,⟨⟨by decide,rfl,X1k hr⟩,⟨by decide,rfl,X1k Yt⟩,⟨by decide,rfl,X1k Yt⟩,Yt⟩⟩
       . obtain rfl : y = 5 := by omega
         refine Qo (Qz rfl (by omega)) ?_;refine go ?_;exact⟨x+1,by omega,by omega,⟨⟨rfl,show 0<3 by decide⟩,⟨rfl,Yt⟩,⟨rfl,show 1<3 by decide⟩,⟨rfl,show 2<3 by decide⟩,⟨rfl,ZI (fun _ h=>h.elim) _ Z1M⟩,⟨rfl,Yt⟩,⟨by show some _=some _; rw [hinx],Yt⟩,Yt⟩,⟨⟨by decide,rfl,X1k hr⟩,⟨by decide,rfl,X1k Yt⟩,⟨by decide,rfl,X1k Yt⟩,Yt⟩⟩
     . obtain rfl : x = 5 := by omega
       refine Qo (Qz rfl (by omega)) ?_;have hbl:=Z7d A cs 25;have hbw:=Z9h hAw hcw 25;show Xj _ _ _ _ (XD [(0,⟨Eb,[Xh .u64 A++rest]⟩),(1,⟨5,[Xh .u64 cs ++ []]⟩),(2,⟨25,[Xh .u64 (X2n A cs 25) ++ []]⟩)]) _;generalize hbb:X2n A cs 25=b at hbl hbw;refine go ?_;refine ZA hC (fun q=>q<=5) (fun q=>5-q) 3 (fun q => [(0,.ptr 0 0 0),(3,.val (.int .u64 (rc:Int))),(6,.ptr 2 0 0),(10,.val (.int .i64 ((5*q:Nat):Int))),(12,.agg rdL),(13,.val (.int .i64 (m:Int)))]) (fun q => [(0,⟨Eb,[Xh .u64 (X1z b A (5*q))++rest]⟩),(2,⟨25,[Xh .u64 b ++ []]⟩)]) (by decide) 0 (Y0l _)
        ⟨⟨rfl,show 0<3 by decide⟩,⟨rfl,Yt⟩,⟨rfl,show 2<3 by decide⟩,⟨rfl,Yt⟩,⟨rfl,ZI (fun _ h=>h.elim) _ Z1M⟩,⟨rfl,Yt⟩,Yt⟩ ⟨⟨by decide,by rw [show 5*0=0 by decide,Zet b hAl]; rfl,X1k hr⟩,⟨by decide,rfl,X1k Yt⟩,Yt⟩ ?_
       intro q hq;have hinq:IntKind.i64.wrap (((5*q:Nat):Int)+5)=((5*(q+1):Nat):Int):=wi (5*q+5) (by omega);refine gd 103 ⟨?_⟩;by_cases hql:q<5
       . refine Qo (Qy rfl (by omega)) ?_;refine go ?_;refine ZA hC (fun x=>x<=5) (fun x=>5-x) 3 (fun x => [(0,.ptr 0 0 0),(3,.val (.int .u64 (rc:Int))),(6,.ptr 2 0 0),(10,.val (.int .i64 ((5*q:Nat):Int))),(12,.agg rdL),(13,.val (.int .i64 (m:Int))),(106,.val (.int .i64 (x:Int)))]) (fun x => [(0,⟨Eb,[Xh .u64 (X1z b A (5*q+x))++rest]⟩),(2,⟨25,[Xh .u64 b ++ []]⟩)]) (by decide) 0 (Y0l _)
          ⟨⟨rfl,show 0<3 by decide⟩,⟨rfl,Yt⟩,⟨rfl,show 2<3 by decide⟩,⟨rfl,Yt⟩,⟨rfl,ZI (fun _ h=>h.elim) _ Z1M⟩,⟨rfl,Yt⟩,⟨rfl,Yt⟩,Yt⟩ ⟨⟨by decide,rfl,X1k hr⟩,⟨by decide,rfl,X1k Yt⟩,Yt⟩ ?_
         intro x hx;have hinx:IntKind.i64.wrap ((x:Int)+1)=((x+1:Nat):Int):=wi (x+1) (by omega);refine gd 107 ⟨?_⟩;by_cases hxl:x<5
         . refine Qo (Qy rfl (by omega)) ?_;have apl:=Zam b A (5*q+x);have hsum:IntKind.i64.wrap ((x:Int)+((5*q:Nat):Int))=((5*q+x:Nat):Int):=by
            rw [show (x:Int)+((5*q:Nat):Int)=((5*q+x:Nat):Int) by omega];exact wi _ (by omega)
           have e1:(5*q+x) % 5=x:=by omega
           have hchi:X56 b (5*q+x)=g0 b (5*q+x) ^^^ ((18446744073709551615 ^^^ g0 b ((x+1) % 5+5*q)) &&& g0 b ((x+2) % 5+5*q)):=by
            unfold X56;rw [e1,show 5*q+x-x=5*q by omega]
           refine gd 112 ⟨?_⟩;refine Qr (Z10 rfl hsum) ?_;refine gd 115 ⟨?_⟩;refine Qr (Z10 rfl hsum) ?_;refine Qr (Z34 rfl rfl (5*q+x) rfl (by omega)) ?_;refine Qr (Z3C (kd:=.u64) (L:=b) (pre := []) (post := []) (o:=0) rfl rfl rfl (by omega)) ?_;refine gd 119 ⟨?_⟩;refine Qr (Z10 (v:=((x+1:Nat):Int)) rfl (wi (x+1) (by omega))) ?_;refine Qr (Z10 (v:=(((x+1) % 5:Nat):Int)) rfl (Y2H (x+1) 5).symm) ?_;refine gd 122 ⟨?_⟩;refine Qr (Z10 (v:=(((x+1) % 5+5*q:Nat):Int)) rfl (wi ((x+1) % 5+5*q) (by omega))) ?_;refine Qr (Z34 rfl rfl ((x+1) % 5+5*q) rfl (by omega)) ?_;refine Qr (Z3C (kd:=.u64) (L:=b) (pre := []) (post := []) (o:=0) rfl rfl rfl (by omega)) ?_;refine Qr (ZjK rfl (hbw.g _)) ?_;refine gd 127 ⟨?_⟩;refine Qr (Z10 (v:=((x+2:Nat):Int)) rfl (wi (x+2) (by omega))) ?_;refine Qr (Z10 (v:=(((x+2) % 5:Nat):Int)) rfl (Y2H (x+2) 5).symm) ?_;refine gd 130 ⟨?_⟩;refine Qr (Z10 (v:=(((x+2) % 5+5*q:Nat):Int)) rfl (wi ((x+2) % 5+5*q) (by omega))) ?_;refine Qr (Z34 rfl rfl ((x+2) % 5+5*q) rfl (by omega)) ?_;refine Qr (Z3C (kd:=.u64) (L:=b) (pre := []) (post := []) (o:=0) rfl rfl rfl (by omega)) ?_;refine Qr (Z10 rfl (Y26 _ _ (Z1a (by decide) (hbw.g _)) (hbw.g _))) ?_;refine Qr (Z10 (v:=((X56 b (5*q+x):Nat):Int)) rfl (by rw [hchi]; exact Y1v _ _ (hbw.g _) (Y02 Y27 (hbw.g _)))) ?_;refine gd 136 ⟨?_⟩;refine Qr (Z34 rfl rfl (5*q+x) rfl (by omega)) ?_;refine Qr (Z9g (kd:=.u64) (L:=X1z b A (5*q+x)) (x:=X56 b (5*q+x)) (pre := []) (post:=rest) (o:=0) rfl rfl rfl rfl (by omega) (by omega)) ?_;rw [Zeu b A (show 5*q+x<25 by omega)];refine go ?_;exact⟨x+1,by omega,by omega,⟨⟨rfl,show 0<3 by decide⟩,⟨rfl,Yt⟩,⟨rfl,show 2<3 by decide⟩,⟨rfl,Yt⟩,⟨rfl,ZI (fun _ h=>h.elim) _ Z1M⟩,⟨rfl,Yt⟩,⟨by show some _=some _; rw [hinx],Yt⟩,Yt⟩,⟨⟨by decide,rfl,X1k hr⟩,⟨by decide,rfl,X1k Yt⟩,Yt⟩⟩
         . obtain rfl : x = 5 := by omega
           refine Qo (Qz rfl (by omega)) ?_;refine go ?_;exact⟨q+1,by omega,by omega,⟨⟨rfl,show 0<3 by decide⟩,⟨rfl,Yt⟩,⟨rfl,show 2<3 by decide⟩,⟨by show some _=some _; rw [hinq],Yt⟩,⟨rfl,ZI (fun _ h=>h.elim) _ Z1M⟩,⟨rfl,Yt⟩,Yt⟩,⟨⟨by decide,rfl,X1k hr⟩,⟨by decide,rfl,X1k Yt⟩,Yt⟩⟩
       . obtain rfl : q = 5 := by omega
         refine Qo (Qz rfl (by omega)) ?_;rw [show 5*5=25 by decide,Zgy];have hcl2:=Zdj b;have hcw2:=Zgv hbw;have hkr:(X4w b).set 0 (g0 (X4w b) 0 ^^^ rc)=X3f a (m+1):=by
          show _=X3D (X3f a m) (XQ.getD m 0).toNat;rw [hAA,hrr,<- hbb,<- hcc]
          rfl
         generalize X4w b=ch at hcl2 hcw2 hkr;refine gd 141 ⟨?_⟩;refine Qr (Z3C (kd:=.u64) (L:=ch) (pre := []) (post:=rest) (o:=0) (j:=0) rfl rfl rfl (by omega)) ?_;refine gd 143 ⟨?_⟩;refine Qr (Z10 (v:=((g0 ch 0 ^^^ rc:Nat):Int)) rfl (Y1v _ _ (hcw2.g _) hrc)) ?_
         iterate 2 (first|refine st ?_|(apply B<;>intro hb<;>try cases hb))
         refine Qr (Z9g (kd:=.u64) (L:=ch) (x:=g0 ch 0 ^^^ rc) (pre := []) (post:=rest) (o:=0) (j:=0) rfl rfl rfl rfl (by omega) (by omega)) ?_;rw [hkr];refine go ?_;exact⟨m+1,by omega,by omega,⟨⟨rfl,show 0<1 by decide⟩,⟨rfl,ZI (fun _ h=>h.elim) _ Z1M⟩,⟨by show some _=some _; rw [hinc],Yt⟩,Yt⟩,⟨⟨by decide,rfl,X1k hr⟩,Yt⟩⟩
 . obtain rfl : m = 24 := by omega
   refine Qo (Qz rfl (by omega)) ?_;refine go ?_;exact⟨_,_,rfl,.inl rfl,_,rfl,Yt,Z3Z hr,by rw [<- hAA]; rfl⟩
theorem ZkO {e:Env} {h:X1} {n:Nat} {x i:Operand} {k0 i0 o len cap:Nat} {kk:IntKind} {m:Int} (hx:ev e x=some (.sl k0 i0 o len cap)) (hi:ev e i=some (.val (.int kk m))) (j:Nat) (hm:m=(j:Int)) (hj:j<len):X4 (.iaddr 1 x i) e h n=some (.ptr k0 i0 (o+j),h):=by
 subst hm;simp only [X4,hx,hi];rw [Y5 ⟨by omega,by omega,Yt⟩];simp
def W8 (l:List Nat):Prop:=∀ w∈l,w<256
theorem W8.g {l:List Nat} (h:W8 l) (i:Nat):g0 l i<256:=by
 by_cases hi:i<l.length
 . exact h _ (ZiU hi)
 . unfold g0;rw [Y0b,Y2z (by omega)]
   decide
theorem Z9i {bl:List Nat} (h:W8 bl) (i:Nat):∀ j,X1R bl i j<18446744073709551616
 | 0=>by show 0<_; decide
 | j+1=>Zgu (Y1l _ (by decide)) (YH (h.g _) (by decide))
theorem Z6l (a bl:List Nat):∀ i,(X3O a bl i).length=a.length
 | 0=>rfl
 | i+1=>by show (List.set ..).length=_; rw [Y11,Z6l a bl i]
theorem Zao {a bl:List Nat} (ha:W64 a) (hb:W8 bl):∀ i,W64 (X3O a bl i)
 | 0=>ha
 | i+1=>(Zao ha hb i).set (Z1a ((Zao ha hb i).g _) (Z9i hb i 8))
theorem Z5F {a bl:List Nat} (ha:a.length=25):(X1K a bl).length=25:=Zak (by rw [Z6l]; exact ha) 24
theorem Zdk {a bl:List Nat} (ha:W64 a) (hb:W8 bl):W64 (X1K a bl):=Zc3 (Zao ha hb 17) 24 (Y0m _)
theorem Zev (a b c d c':Bx):(XD [(0,a),(1,b),(2,c),(3,d)]).upd 2 c'=XD [(0,a),(1,b),(2,c'),(3,d)]:=by
 funext i
 match i with
 | 0=>rfl
 | 1=>rfl
 | 2=>rfl
 | 3=>rfl
 | i+4=>rfl
set_option maxRecDepth 100000
set_option maxHeartbeats 8000000
theorem Zih (a bl:List Nat) (ha:a.length=25) (hw:W64 a) (hbl:bl.length=136) (hbw:W8 bl) (rest:List PV) (hr:X6 rest):X2x Tryz.prog 276 (fun i => [.ptr i 0 0,.sl i 0 25 136 136]) ⟨163,[Xh .u64 a++(Xh .u8 bl++rest)]⟩ (fun r b'=>b'=⟨163,[Xh .u64 (X1K a bl)++(Xh .u8 bl++rest)]⟩):=by
 refine Z7b ok276 (Y0 rfl) fun C hC=>?_;refine go ?_;refine ZA hC (fun i=>i<=17) (fun i=>17-i) 1 (fun i => [(0,.ptr 0 0 0),(1,.sl 0 0 25 136 136),(7,Yv i)]) (fun i => [(0,⟨163,[Xh .u64 (X3O a bl i)++(Xh .u8 bl++rest)]⟩)]) (by decide) 0 (Y0l _)
  ⟨⟨rfl,show 0<1 by decide⟩,⟨rfl,show 0<1 by decide⟩,⟨rfl,Yt⟩,Yt⟩ ⟨⟨by decide,rfl,X1k (Z1A (ZN .u8 bl) hr)⟩,Yt⟩ ?_
 intro i hi;have hAl:=Z6l a bl i;rw [ha] at hAl;have hAw:=Zao hw hbw i;have hxs:X3O a bl (i+1)=(X3O a bl i).set i (g0 (X3O a bl i) i ^^^ X1R bl i 8):=rfl;generalize hAA:X3O a bl i=A at hAl hAw hxs;have hinc:IntKind.i64.wrap ((i:Int)+1)=((i+1:Nat):Int):=wi (i+1) (by omega);refine gd 8 ⟨?_⟩;by_cases hil:i<17
 . refine Qo (Qy rfl (by omega)) ?_;refine go ?_;refine ZA hC (fun j=>j<=8) (fun j=>8-j) 1 (fun j => [(0,.ptr 0 0 0),(1,.sl 0 0 25 136 136),(4,Yv i),(5,.val (.int .u64 ((X1R bl i j:Nat):Int))),(6,.val (.int .i64 ((7:Int)-(j:Int)))),(7,Yv i)]) (fun j => [(0,⟨163,[Xh .u64 (A)++(Xh .u8 bl++rest)]⟩)]) (by decide) 0 (Y0l _)
    ⟨⟨rfl,show 0<1 by decide⟩,⟨rfl,show 0<1 by decide⟩,⟨rfl,Yt⟩,⟨rfl,Yt⟩,⟨rfl,Yt⟩,⟨rfl,Yt⟩,Yt⟩ ⟨⟨by decide,rfl,X1k (Z1A (ZN .u8 bl) hr)⟩,Yt⟩ ?_
   intro j hj;have hinj:IntKind.i64.wrap ((7:Int)-(j:Int)-1)=(7:Int)-((j+1:Nat):Int):=by
    rw [show (7:Int)-(j:Int)-1=(7:Int)-((j+1:Nat):Int) by omega];exact Y0v _ ⟨by omega,by omega⟩
   have hwl:=Z9i hbw i j;refine gd 11 ⟨?_⟩;by_cases hjl:j<8
   . refine Qo (Qy rfl (by omega)) ?_;refine gd 15 ⟨?_⟩;refine Z4O rfl rfl (by decide) (X5o (X1R bl i j) 8 (by decide)) rfl ?_;refine gd 18 ⟨?_⟩;refine Zh (v:=((8*i:Nat):Int)) rfl rfl rfl (wi (8*i) (by omega)) ?_;refine gd 20 ⟨?_⟩
     refine Zh (v:=((8*i+(7-j):Nat):Int)) rfl rfl rfl (by
      rw [show ((8*i:Nat):Int)+((7:Int)-(j:Int))=((8*i+(7-j):Nat):Int) by omega]
      exact wi _ (by omega)) ?_
     refine Qo (ZkO rfl rfl (8*i+(7-j)) rfl (by omega)) ?_;refine Qo (Z3C (kd:=.u8) (L:=bl) (pre:=Xh .u64 A) (post:=rest) (o:=25) rfl rfl (by rw [ZJ]; exact hAl) (by omega)) ?_;refine Zh (v:=((g0 bl (8*i+(7-j)):Nat):Int)) rfl rfl rfl (by have:=hbw.g (8*i+(7-j)); exact Y0x _ ⟨by omega,by omega⟩) ?_;refine Zh (v:=((X1R bl i (j+1):Nat):Int)) rfl rfl rfl (by have:=hbw.g (8*i+(7-j)); exact Y1R _ _ (Y1l _ (by decide)) (by omega)) ?_;refine go ?_;exact⟨j+1,by omega,by omega,⟨⟨rfl,show 0<1 by decide⟩,⟨rfl,show 0<1 by decide⟩,⟨rfl,Yt⟩,⟨rfl,Yt⟩,⟨by show some _=some _; rw [hinj],Yt⟩,⟨rfl,Yt⟩,Yt⟩,⟨⟨by decide,rfl,X1k (Z1A (ZN .u8 bl) hr)⟩,Yt⟩⟩
   . obtain rfl : j = 8 := by omega
     refine Qo (Qz rfl (by omega)) ?_;refine gd 28 ⟨?_⟩;refine Qr (Z34 rfl rfl i rfl (by omega)) ?_;refine Qr (Z3C (kd:=.u64) (L:=A) (pre := []) (post:=(Xh .u8 bl++rest)) (o:=0) rfl rfl rfl (by omega)) ?_;refine gd 31 ⟨?_⟩;refine Qr (Z10 (v:=((g0 A i ^^^ X1R bl i 8:Nat):Int)) rfl (Y1v _ _ (hAw.g _) hwl)) ?_;refine gd 33 ⟨?_⟩;refine Qr (Z34 rfl rfl i rfl (by omega)) ?_;refine Qr (Z9g (kd:=.u64) (L:=A) (x:=g0 A i ^^^ X1R bl i 8) (pre := []) (post:=(Xh .u8 bl++rest)) (o:=0) rfl rfl rfl rfl (by omega) (by omega)) ?_;rw [<- hxs];refine go ?_;exact⟨i+1,by omega,by omega,⟨⟨rfl,show 0<1 by decide⟩,⟨rfl,show 0<1 by decide⟩,⟨by show some _=some _; rw [hinc],Yt⟩,Yt⟩,⟨⟨by decide,rfl,X1k (Z1A (ZN .u8 bl) hr)⟩,Yt⟩⟩
 . obtain rfl : i = 17 := by omega
   refine Qo (Qz rfl (by omega)) ?_;refine gd 36 ⟨?_⟩;refine ZS (Zan 163 (by omega) A hAl hAw ((Xh .u8 bl++rest)) (Z1A (ZN .u8 bl) hr)) rfl rfl rfl rfl (Z3Z (Z1A (ZN .u8 bl) hr)) Yt ?_;rintro r b' hr1 hb1 rfl;rw [<- hAA];refine go ?_;exact⟨_,_,rfl,.inl rfl,_,rfl,Yt,Z3Z (Z1A (ZN .u8 bl) hr),rfl⟩
theorem Zii (a bl:List Nat) (ha:a.length=25) (hw:W64 a) (hbl:bl.length=136) (hbw:W8 bl) (hb rb:Bx) (hp0:X3 hb.elems) (hp1:X3 rb.elems):X10 Tryz.prog 276 4 [.ptr 2 0 0,.sl 3 0 0 136 136] (XD [(0,hb),(1,rb),(2,⟨25,[Xh .u64 a ++ []]⟩),(3,⟨136,[Xh .u8 bl ++ []]⟩)]) (fun n' r h'=>n'=4/\r.pure/\h'=XD [(0,hb),(1,rb),(2,⟨25,[Xh .u64 (X1K a bl) ++ []]⟩),(3,⟨136,[Xh .u8 bl ++ []]⟩)]):=by
 refine Z1O ok276 (Y0 rfl) fun C hC=>?_;refine go ?_;refine ZA hC (fun i=>i<=17) (fun i=>17-i) 4 (fun i => [(0,.ptr 2 0 0),(1,.sl 3 0 0 136 136),(7,Yv i)]) (fun i => [(0,hb),(1,rb),(2,⟨25,[Xh .u64 (X3O a bl i) ++ []]⟩),(3,⟨136,[Xh .u8 bl ++ []]⟩)]) (by decide) 0 (Y0l _)
  ⟨⟨rfl,show 2<4 by decide⟩,⟨rfl,show 3<4 by decide⟩,⟨rfl,Yt⟩,Yt⟩ ⟨⟨by decide,rfl,Ze (fun _ h=>h.elim) _ hp0⟩,⟨by decide,rfl,Ze (fun _ h=>h.elim) _ hp1⟩,⟨by decide,rfl,X1k Yt⟩,⟨by decide,rfl,X1k Yt⟩,Yt⟩ ?_
 intro i hi;have hAl:=Z6l a bl i;rw [ha] at hAl;have hAw:=Zao hw hbw i;have hxs:X3O a bl (i+1)=(X3O a bl i).set i (g0 (X3O a bl i) i ^^^ X1R bl i 8):=rfl;generalize hAA:X3O a bl i=A at hAl hAw hxs;have hinc:IntKind.i64.wrap ((i:Int)+1)=((i+1:Nat):Int):=wi (i+1) (by omega);refine gd 8 ⟨?_⟩;by_cases hil:i<17
 . refine Qo (Qy rfl (by omega)) ?_;refine go ?_;refine ZA hC (fun j=>j<=8) (fun j=>8-j) 4 (fun j => [(0,.ptr 2 0 0),(1,.sl 3 0 0 136 136),(4,Yv i),(5,.val (.int .u64 ((X1R bl i j:Nat):Int))),(6,.val (.int .i64 ((7:Int)-(j:Int)))),(7,Yv i)]) (fun j => [(0,hb),(1,rb),(2,⟨25,[Xh .u64 (A) ++ []]⟩),(3,⟨136,[Xh .u8 bl ++ []]⟩)]) (by decide) 0 (Y0l _)
    ⟨⟨rfl,show 2<4 by decide⟩,⟨rfl,show 3<4 by decide⟩,⟨rfl,Yt⟩,⟨rfl,Yt⟩,⟨rfl,Yt⟩,⟨rfl,Yt⟩,Yt⟩ ⟨⟨by decide,rfl,Ze (fun _ h=>h.elim) _ hp0⟩,⟨by decide,rfl,Ze (fun _ h=>h.elim) _ hp1⟩,⟨by decide,rfl,X1k Yt⟩,⟨by decide,rfl,X1k Yt⟩,Yt⟩ ?_
   intro j hj;have hinj:IntKind.i64.wrap ((7:Int)-(j:Int)-1)=(7:Int)-((j+1:Nat):Int):=by
    rw [show (7:Int)-(j:Int)-1=(7:Int)-((j+1:Nat):Int) by omega];exact Y0v _ ⟨by omega,by omega⟩
   have hwl:=Z9i hbw i j;refine gd 11 ⟨?_⟩;by_cases hjl:j<8
   . refine Qo (Qy rfl (by omega)) ?_;refine gd 15 ⟨?_⟩;refine Z4O rfl rfl (by decide) (X5o (X1R bl i j) 8 (by decide)) rfl ?_;refine gd 18 ⟨?_⟩;refine Zh (v:=((8*i:Nat):Int)) rfl rfl rfl (wi (8*i) (by omega)) ?_;refine gd 20 ⟨?_⟩
     refine Zh (v:=((8*i+(7-j):Nat):Int)) rfl rfl rfl (by
      rw [show ((8*i:Nat):Int)+((7:Int)-(j:Int))=((8*i+(7-j):Nat):Int) by omega]
      exact wi _ (by omega)) ?_
     refine Qo (ZkO rfl rfl (8*i+(7-j)) rfl (by omega)) ?_;refine Qo (Z3C (kd:=.u8) (L:=bl) (pre := []) (post := []) (o:=0) rfl rfl rfl (by omega)) ?_;refine Zh (v:=((g0 bl (8*i+(7-j)):Nat):Int)) rfl rfl rfl (by have:=hbw.g (8*i+(7-j)); exact Y0x _ ⟨by omega,by omega⟩) ?_;refine Zh (v:=((X1R bl i (j+1):Nat):Int)) rfl rfl rfl (by have:=hbw.g (8*i+(7-j)); exact Y1R _ _ (Y1l _ (by decide)) (by omega)) ?_;refine go ?_;exact⟨j+1,by omega,by omega,⟨⟨rfl,show 2<4 by decide⟩,⟨rfl,show 3<4 by decide⟩,⟨rfl,Yt⟩,⟨rfl,Yt⟩,⟨by show some _=some _; rw [hinj],Yt⟩,⟨rfl,Yt⟩,Yt⟩,⟨⟨by decide,rfl,Ze (fun _ h=>h.elim) _ hp0⟩,⟨by decide,rfl,Ze (fun _ h=>h.elim) _ hp1⟩,⟨by decide,rfl,X1k Yt⟩,⟨by decide,rfl,X1k Yt⟩,Yt⟩⟩
   . obtain rfl : j = 8 := by omega
     refine Qo (Qz rfl (by omega)) ?_;refine gd 28 ⟨?_⟩;refine Qr (Z34 rfl rfl i rfl (by omega)) ?_;refine Qr (Z3C (kd:=.u64) (L:=A) (pre := []) (post := []) (o:=0) rfl rfl rfl (by omega)) ?_;refine gd 31 ⟨?_⟩;refine Qr (Z10 (v:=((g0 A i ^^^ X1R bl i 8:Nat):Int)) rfl (Y1v _ _ (hAw.g _) hwl)) ?_;refine gd 33 ⟨?_⟩;refine Qr (Z34 rfl rfl i rfl (by omega)) ?_;refine Qr (Z9g (kd:=.u64) (L:=A) (x:=g0 A i ^^^ X1R bl i 8) (pre := []) (post := []) (o:=0) rfl rfl rfl rfl (by omega) (by omega)) ?_;rw [<- hxs];refine go ?_;exact⟨i+1,by omega,by omega,⟨⟨rfl,show 2<4 by decide⟩,⟨rfl,show 3<4 by decide⟩,⟨by show some _=some _; rw [hinc],Yt⟩,Yt⟩,⟨⟨by decide,rfl,Ze (fun _ h=>h.elim) _ hp0⟩,⟨by decide,rfl,Ze (fun _ h=>h.elim) _ hp1⟩,⟨by decide,rfl,X1k Yt⟩,⟨by decide,rfl,X1k Yt⟩,Yt⟩⟩
 . obtain rfl : i = 17 := by omega
   refine Qo (Qz rfl (by omega)) ?_;refine gd 36 ⟨?_⟩;refine ZS (Zan 25 (by omega) A hAl hAw ([]) Yt) rfl rfl rfl rfl (Z3Z Yt) Yt ?_;rintro r b' hr1 hb1 rfl;rw [<- hAA];refine go ?_;exact⟨_,_,rfl,.inl rfl,rfl,Yt,Zev _ _ _ _ _⟩
structure HOk (h:HS):Prop where
 sl:h.st.length=25
 sw:W64 h.st
 bl:h.bl.length=136
 bw:W8 h.bl
 us:h.used<136
def X3E (h:HS) (p:List Nat):List Nat:=h.bl.take h.used++p.take (min p.length (136-h.used))++h.bl.drop (h.used+min p.length (136-h.used))
theorem Z9j {h:HS} (hh:HOk h) (p:List Nat):(X3E h p).length=136:=by
 have h1:=hh.bl;have h2:=hh.us;unfold X3E;simp only [Y0e,Y0o,YT];omega
theorem W8.sub {l m:List Nat} (h:W8 m) (hs:∀ x∈l,x∈m):W8 l:=fun x hx=>h x (hs x hx)
theorem Zdl {h:HS} (hh:HOk h) {p:List Nat} (hp:W8 p):W8 (X3E h p):=fun x hx=>by
 unfold X3E at hx;rcases Y0h.1 hx with h1|h1
 . rcases Y0h.1 h1 with h2 | h2
   . exact hh.bw x (YM h2)
   . exact hp x (YM h2)
 . exact hh.bw x (Y1a h1)
theorem ZiV (h:HS) (p:List Nat):h.put p=if h.used+min p.length (136-h.used)=136 then ⟨X1K h.st (X3E h p),X3E h p,0,h.total⟩ else ⟨h.st,X3E h p,h.used+min p.length (136-h.used),h.total⟩:=rfl
theorem Zdm {h:HS} (hh:HOk h) {p:List Nat} (hp:W8 p):HOk (h.put p):=by
 have h2:=hh.us;rw [ZiV]
 split
 . exact⟨Z5F hh.sl,Zdk hh.sw (Zdl hh hp),Z9j hh p,Zdl hh hp,by show 0<136; decide⟩
 . rename_i hne;exact⟨hh.sl,hh.sw,Z9j hh p,Zdl hh hp,by show h.used+_<136; omega⟩
theorem Z7e {f:Nat} {h:HS} {p:List Nat} (hp:p.length=0):HS.puts f h p=h:=by
 cases f with
 | zero=>rfl
 | succ f=>show (if p.length=0 then h else _)=h; rw [Y5 hp]
theorem Zap:∀ (f f':Nat) (h:HS) (p:List Nat),HOk h->W8 p->p.length<f->p.length<f'->HS.puts f h p=HS.puts f' h p
 | 0,_,_,_,_,_,hf,_=>by omega
 | _,0,_,_,_,_,_,hf=>by omega
 | f + 1, f' + 1, h, p, hh, hp, hf, hf' => by
   have h2:=hh.us;by_cases h0:p.length=0
   . rw [Z7e h0,Z7e h0]
   . show (if p.length = 0 then h else HS.puts f (h.put p) (p.drop (min p.length (136 - h.used)))) = (if p.length = 0 then h else HS.puts f' (h.put p) (p.drop (min p.length (136 - h.used))));rw [Y6 h0,Y6 h0];exact Zap f f' _ _ (Zdm hh hp) (hp.sub fun x hx=>Y1a hx) (by rw [YT];omega) (by rw [YT];omega)
theorem Zgz {f:Nat} {h:HS} {p:List Nat} (hh:HOk h) (hp:W8 p) (h0:¬ p.length=0) (hf:p.length<f):HS.puts f h p=HS.puts f (h.put p) (p.drop (min p.length (136-h.used))):=by
 have h2:=hh.us;obtain⟨f,rfl⟩:∃ f',f=f'+1:=⟨f-1,by omega⟩
 show (if p.length=0 then h else HS.puts f (h.put p) (p.drop (min p.length (136-h.used))))=_;rw [Y6 h0];exact Zap f (f+1) _ _ (Zdm hh hp) (hp.sub fun x hx=>Y1a hx) (by rw [YT];omega) (by rw [YT];omega)
theorem ZgA:∀ (f:Nat) (h:HS) (p:List Nat),HOk h->W8 p->HOk (HS.puts f h p)
 | 0,_,_,hh,_=>hh
 | f + 1, h, p, hh, hp => by
   show HOk (if p.length=0 then h else HS.puts f (h.put p) (p.drop (min p.length (136-h.used))))
   split
   . exact hh
   . exact ZgA f _ _ (Zdm hh hp) (hp.sub fun x hx=>Y1a hx)
def Xs (st bl:List Nat) (u t:PV):List PV:=Xh .u64 st++(Xh .u8 bl ++ [u,t])
def hBx (h:HS):Bx:=⟨163,[Xs h.st h.bl (.val (.int .i64 (h.used:Int))) (.val (.int .u64 (h.total:Int)))]⟩
section
variable {st bl:List Nat} {u t:PV}
theorem Z8j (hs:st.length=25) (hb:bl.length=136):(Xs st bl u t).length=163:=by
 simp [Xs,ZJ,hs,hb]
theorem Z4k:Xs st bl u t=(Xh .u64 st++Xh .u8 bl) ++ [u,t]:=(YR ..).symm
theorem Z2k (hs:st.length=25) (hb:bl.length=136):(Xh .u64 st++Xh .u8 bl).length=161:=by simp [ZJ,hs,hb]
theorem ZkP (hs:st.length=25) (hb:bl.length=136):(Xs st bl u t).getD 161 pvu=u:=by
 rw [Z4k,Y0b,YG (by rw [Z2k hs hb]; exact Y0m _),Z2k hs hb]
 rfl
theorem Zlx (hs:st.length=25) (hb:bl.length=136):(Xs st bl u t).getD 162 pvu=t:=by
 rw [Z4k,Y0b,YG (by rw [Z2k hs hb]; decide),Z2k hs hb]
 rfl
theorem ZgB (hs:st.length=25) (hb:bl.length=136) (v:PV):Xi (Xs st bl u t) 161 [v]=Xs st bl v t:=by
 rw [Z7c _ _ _ (by rw [Z8j hs hb]; decide),Z4k,Y3R _ _ (by rw [Z2k hs hb]; exact Y0m _),Z2k hs hb,Z4k]
 rfl
theorem ZjL (hs:st.length=25) (hb:bl.length=136) (v:PV):Xi (Xs st bl u t) 162 [v]=Xs st bl u v:=by
 rw [Z7c _ _ _ (by rw [Z8j hs hb]; decide),Z4k,Y3R _ _ (by rw [Z2k hs hb]; decide),Z2k hs hb,Z4k]
 rfl
theorem ZgC (hu:u.pure) (ht:t.pure):X6 (Xs st bl u t):=Z1A (ZN _ _) (Z1A (ZN _ _) ⟨hu,ht,Yt⟩)
end
theorem Z3v (h:HS):X3 (hBx h).elems:=⟨ZgC Yt Yt,Yt⟩
theorem Z5G (D:Nat->Prop) (h:HS):Xq D (hBx h).elems:=Ze (fun _ h=>h.elim) _ (Z3v h)
theorem Zlj (l:List Nat):((bys l).map fun c=>c.getD 0 pvu)=Xh .u8 l:=by
 unfold bys Xh;rw [Y20]
 rfl
theorem ZjM {st bl:List Nat} {u t:PV} (hs:st.length=25) (hb:bl.length=136) {used:Nat} (hu:used<136) (p:List Nat):Xi (Xs st bl u t) (25+used) (((bys p).take (136-used)).map fun c=>c.getD 0 pvu)=Xs st (bl.take used++p.take (min p.length (136-used))++bl.drop (used+min p.length (136-used))) u t:=by
 have e1:((bys p).take (136-used)).map (fun c=>c.getD 0 pvu)=Xh .u8 (p.take (min p.length (136-used))):=by
  rw [Y2l,Zlj];unfold Xh;rw [<- Y2l];congr 1;rw [Nat.min_comm,<- Y3s,Y0q]
 rw [e1];generalize hn:min p.length (136-used)=n;have hpl:(p.take n).length=n:=by rw [Y0o]; omega
 have hcl:(Xh .u8 (p.take n)).length=n:=by rw [ZJ,hpl]
 have hst:(Xh .u64 st).length=25:=by rw [ZJ,hs]
 unfold Xi Xs;rw [hcl];have d1:(Xh .u64 st++(Xh .u8 bl ++ [u,t])).take (25+used)=Xh .u64 st++Xh .u8 (bl.take used):=by
  rw [Y3a,hst,Yw (by omega),Y3a,ZJ,show 25+used-25=used by omega,show used-bl.length=0 by omega];simp [Xh,Y2l]
 have d2:(Xh .u64 st++(Xh .u8 bl ++ [u,t])).drop (25+used+n)=Xh .u8 (bl.drop (used+n)) ++ [u,t]:=by
  rw [Y2r,hst,Y1L (by omega),Y2r,ZJ,show 25+used+n-25=used+n by omega,show used+n-bl.length=0 by omega];simp [Xh,Y3B]
 rw [d1,d2];unfold Xh;simp only [Y0r,YR]
section
variable {e:Env} {h:X1} {n k:Nat} {Eb:Nat}
theorem Z7w {a:Operand} {l:List PV} {off:Nat} {v:PV} (ha:ev e a=some (.ptr k 0 off)) (hb:h k=some ⟨Eb,[l]⟩) (hl:off<l.length) (hv:l.getD off pvu=v):X4 (.load false 1 a) e h n=some (v,h):=by
 subst hv;exact Z2p ha hb Y1B (X6V _ _ hl)
theorem ZjN {a v:Operand} {l l':List PV} {off:Nat} {kd:IntKind} {x:Int} (ha:ev e a=some (.ptr k 0 off)) (hv:ev e v=some (.val (.int kd x))) (hb:h k=some ⟨Eb,[l]⟩) (hE:off+1<=Eb) (hl:Xi l off [.val (.int kd x)]=l'):X4 (.store 1 a v) e h n=some (pvu,h.upd k ⟨Eb,[l']⟩):=by
 subst hl;exact Z1V (n:=n) (size:=1) ha hv hb rfl rfl Y1B hE
theorem Zij {x:Operand} {lo hi:Option Operand} {k0 i0 o n0:Nat} (hx:ev e x=some (.ptr k0 i0 o)) (a b:Nat) (hlo:XJ e 0 lo=some (a:Int)) (hhi:XJ e n0 hi=some (b:Int)) (h1:a<=b) (h2:b<=n0) (h3:a<n0):X4 (.slcA n0 x lo hi) e h n=some (.sl k0 i0 (o+a) (b-a) (n0-a),h):=by
 simp only [X4,hx,hlo,hhi];rw [Y5 ⟨by omega,by omega,by omega,by omega⟩];simp
theorem Zlk {d s:Operand} {o len cap:Nat} {p:List Nat} {fl:Bool} {l l':List PV} (hd:ev e d=some (.sl k 0 o len cap)) (hs:ev e s=some (.vec (bys p) fl)) (hb:h k=some ⟨Eb,[l]⟩) (hE:o+len<=Eb) (hl:Xi l o (((bys p).take len).map fun c=>c.getD 0 pvu)=l'):X4 (.copy 1 d s) e h n=some (.val (.int .i64 ((min p.length len:Nat):Int)),h.upd k ⟨Eb,[l']⟩):=by
 subst hl;simp only [X4,hd,hs,hb];rw [Y5 ⟨fun c hc=>by obtain⟨y,_,rfl⟩:=Y0i.1 hc; rfl,Yt,show 0<1 by decide,hE⟩];rw [show (bys p).length=p.length by simp [bys]]
 rfl
end
end
section
open Go.RowKit
def X6b (P:Program) (t:TypeId):Option IntKind:=match P.underlying t with|some (.int k)=>some k|_=>none
def X3F (P:Program) (t:TypeId):Option TypeId:=match P.underlying t with|some (.slice e)=>some e|_=>none
section
variable {P:Program} {t:TypeId} {n:Nat} {ps:List PV} {p:PV}
theorem ZaK {k:IntKind} (h:X6b P t=some k):P.underlying t=some (.int k):=by
 unfold X6b at h
 split at h
 . rename_i k' hu; cases h; exact hu
 . cases h
theorem Z7q {e:TypeId} (h:X3F P t=some e):P.underlying t=some (.slice e):=by
 unfold X3F at h
 split at h
 . rename_i k' hu; cases h; exact hu
 . cases h
theorem ZaL {k:IntKind} (h:XN P n t ps) (hk:X6b P t=some k):∃ m,(Lit.int k m).wf=true/\ps = [.val (.int k m)]:=by
 cases n with
 | zero=>exact h.elim
 | succ n=>simpa only [XN,ZaK hk] using h
theorem Zcq {e:TypeId} (h:XN P n t ps) (hk:X3F P t=some e):∃ n' ll fl,ll.length<=Xe/\(∀ l∈ll,XN P n' e l)/\ps = [.vec ll fl]:=by
 cases n with
 | zero=>exact h.elim
 | succ n =>
   have:∃ ll fl,ll.length<=Xe/\(∀ l∈ll,XN P n e l)/\ps = [.vec ll fl]:=by simpa only [XN,Z7q hk] using h
   obtain⟨ll,fl,h⟩:=this;exact⟨n,ll,fl,h⟩
theorem Z8o {k:IntKind} (h:X1N P t p) (hk:X6b P t=some k):∃ m,(Lit.int k m).wf=true/\p=.val (.int k m):=by
 obtain⟨n,h⟩:=h;rw [ZaK hk] at h;obtain⟨m,h1,h2⟩:=ZaL (show XN P n t [p] from h) hk;exact⟨m,h1,by simpa using h2⟩
theorem ZaM {e:TypeId} (h:X1N P t p) (hk:X3F P t=some e):∃ n' ll fl,ll.length<=Xe/\(∀ l∈ll,XN P n' e l)/\p=.vec ll fl:=by
 obtain⟨n,h⟩:=h;rw [Z7q hk] at h;obtain⟨n',ll,fl,h1,h2,h3⟩:=Zcq (show XN P n t [p] from h) hk;exact⟨n',ll,fl,h1,h2,by simpa using h3⟩
end
end
section
theorem ZlO:joinedFacts Tryz.prog 3 Tryz.f3 Rows.safetyErrsSpec Rows.safetyErrsRow=true:=by
 unfold joinedFacts;rw [ZlF,ZlG,ZlH,ZlI,ZlB,ZlC,ZlD,ZlE,ZlJ,ZlK,ZlL,ZlM,ZlN]
 kernel_rfl
theorem ZlP:Tryz.f3.isInstance Tryz.prog Rows.safetyErrsRow.origin Rows.safetyErrsRow.targs:=Y0u (by kernel_rfl)
theorem ZlQ:Tryz.f3.isWrapper Tryz.prog Rows.safetyErrsRow.wrapper Rows.safetyErrsRow.mainSum:=by
 unfold Func.isWrapper; first|(rw [Y5 (by decide +kernel)]; kernel_rfl)|(rw [Y6 (by decide +kernel)]; exact⟨rfl,rfl⟩)
end
end Go.Proofs.YtbghddidoegjlaaGreatDoor
