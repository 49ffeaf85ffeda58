/-
  The calculus: what a call of a function answers ('Spec'), and rules for the elaborated code on abstract states. For every program; no statement of the seat is proved here.
-/
import Derived.Test.YtelcpkjclcimbaaIr9
namespace Go.Proofs.Ytelcpkjclcimbaa
open Go.RowKit
set_option linter.unusedVariables false
set_option linter.unusedSimpArgs false

def noLoc : Locs := fun _ => none

/-- Frozen cells that hold in a world. -/
def Holds (F : Froz) (w : World) : Prop := ∀ x v, F x = some v → x.spot = none ∧ v.oneCell' = true ∧ w.cell? x = some v

def RepL (F : Froz) (φ : Locs) (vs : Array Value) (l : List PV) : Prop := vs.size = l.length ∧ ∀ i, i < l.length → Rep F φ (vs.getD i undef) (l.getD i pvu)

def HasBody (P : Program) (f : FuncId) : Prop := ∃ fn, P.funcs[f]? = some fn ∧ (fn.name == "runtime.NumGoroutine") = false ∧ fn.body.isNone = false

/-- A call of a function on values that never change answers a value of R, and changes nothing that was there. -/
def Spec (P : Program) (f : FuncId) (args : List PV) (R : PV → Prop) : Prop :=
  HasBody P f ∧ ∀ (F : Froz) (w : World) (vs : Array Value), Holds F w → RepL F noLoc vs args →
    Calls P f vs w fun e w' => ∃ v r F', e = .returned v ∧ R r ∧ Rep F' noLoc v r ∧ Below w.heap.size w w' ∧ Holds F' w' ∧ (∀ x u, F x = some u → F' x = some u) ∧ ∀ x : Addr, x.block < w.heap.size → F' x = F x

theorem Spec.mono {P : Program} {f : FuncId} {args : List PV} {R R' : PV → Prop} (h : Spec P f args R) (hR : ∀ r, R r → R' r) : Spec P f args R' :=
  ⟨h.1, fun F w vs hF hv => (h.2 F w vs hF hv).mono fun _ _ ⟨v, r, F', h1, h2, h3⟩ => ⟨v, r, F', h1, hR r h2, h3⟩⟩

def LoP (p q : PV) : Prop := q = p ∨ q = p.low
def LoL (l m : List PV) : Prop := m = l ∨ m = lowL l

theorem LoP.rep {F : Froz} {φ : Locs} {v : Value} {p q : PV} (h : LoP p q) (hr : Rep F φ v p) : Rep F φ v q := by
  rcases h with rfl | rfl
  · exact hr
  · exact hr.low

theorem LoL.rep {F : Froz} {φ : Locs} {vs : Array Value} {l m : List PV} (h : LoL l m) (hr : RepL F φ vs l) : RepL F φ vs m := by
  rcases h with rfl | rfl
  · exact hr
  · refine ⟨by rw [lowL_length]; exact hr.1, fun i hi => ?_⟩
    rw [lowL_getD]
    exact (hr.2 i (by rwa [lowL_length] at hi)).low

/-- One operation. -/
def opK (P : Program) (op : AOp) (n : Nat) (e : Env) (h : Heap) (K : PV → Heap → Prop) : Prop :=
  match op with
  | .call f args => ∃ g caps as args' R, ev e f = some (.fn g caps) ∧ evs e args = some as ∧ LoL (as ++ caps) args' ∧ pureL args' ∧ Spec P g args' R ∧ ∀ r, R r → K r h
  | op => ∃ p h', (dEval op e h n = some (p, h') ∨ fEval op e h n = some (p, h')) ∧ K p h'

/-- A call of a function on values that may refer to objects of the caller: it answers, and leaves the objects, as R says; the rest of what the caller knows stays. -/
def ISpec (P : Program) (f n : Nat) (args : List PV) (h : Heap) (R : Nat → PV → Heap → Prop) : Prop :=
  HasBody P f ∧ ∀ (C : Ctx) (e : Env) (F : Froz) (φ : Locs) (a : Act) (w : World) (vs : Array Value), St' C (fun i => n ≤ i) e h F φ a w → RepL F φ vs args →
    Calls P f vs w fun en w' => ∃ v r n' h' F' φ', en = .returned v ∧ R n' r h' ∧ Rep F' φ' v r ∧ St' C (fun i => n' ≤ i) e h' F' φ' a w'

theorem ISpec.mono {P : Program} {f n : Nat} {args : List PV} {h : Heap} {R R' : Nat → PV → Heap → Prop} (hs : ISpec P f n args h R) (hR : ∀ n' r h', R n' r h' → R' n' r h') : ISpec P f n args h R' :=
  ⟨hs.1, fun C e F φ a w vs hF hv => (hs.2 C e F φ a w vs hF hv).mono fun _ _ ⟨v, r, n', h', F', φ', h1, h2, h3⟩ => ⟨v, r, n', h', F', φ', h1, hR _ _ _ h2, h3⟩⟩

/-- Every state that the first describes the second describes too. -/
def Sub (C : Ctx) (n : Nat) (e : Env) (h : Heap) (n' : Nat) (e' : Env) (h' : Heap) : Prop := ∀ a w, St C (fun i => n ≤ i) e h a w → St C (fun i => n' ≤ i) e' h' a w

def SubA (n : Nat) (e : Env) (h : Heap) (n' : Nat) (e' : Env) (h' : Heap) : Prop := ∀ C, Sub C n e h n' e' h'

/-- The next free name. -/
def bmp (h : Heap) (n : Nat) : Nat := match h n with | some _ => n + 1 | none => n

/-- One operation of a region in text order. -/
def opR (P : Program) (op : AOp) (n : Nat) (e : Env) (h : Heap) (K : Nat → PV → Heap → Prop) : Prop :=
  opK P op n e h (fun p h' => K (bmp h' n) p h') ∨ ∃ f args g caps as R, op = .call f args ∧ ev e f = some (.fn g caps) ∧ evs e args = some as ∧ ISpec P g n (as ++ caps) h R ∧ ∀ n' r h', R n' r h' → K n' r h'

/-- A guarded operation: A if it is carried out, B if it is passed over. -/
def wantK (g : Option (Nat × Bool)) (e : Env) (A B : Prop) : Prop :=
  match g with
  | none => A
  | some (s, b) => match e s with
    | some (.val (.bool c)) => if c = b then A else B
    | some (.val (.tuple _)) => B
    | _ => False

def opsK (P : Program) : List AOper → Nat → Env → Heap → (Nat → Env → Heap → Prop) → Prop
  | [], n, e, h, K => K n e h
  | o :: os, n, e, h, K => wantK o.guard e (∃ n1 e1 h1, SubA n e h n1 e1 h1 ∧ opR P o.op n1 e1 h1 fun n' p h' => opsK P os n' (updO e1 o.dst p) h' K) (opsK P os n (updO e o.dst pvu) h K)

structure FenceOk (F : Fence) (m : Nat) : Prop where
  fn : ∀ f, F.fn f
  depth : F.depth = none
  calls : ∀ (P : Program) f args w R, Calls P f args w R → CallsIn F (m - 1) P f args w R

theorem fenceOk_wide (m : Nat) : FenceOk Fence.wide m := ⟨fun _ => trivial, rfl, fun _ _ _ _ _ h => callsIn_wide.2 h⟩

section
variable {P : Program} {C : Ctx} {Fr : Nat → Prop} {e : Env} {h : Heap} {F : Froz} {φ : Locs} {a : Act} {w : World} {FN : Fence} {m : Nat}

theorem cOp_defer {o : Oper} {op : AOp} (hc : cOp P o = some op) : ∀ c, o.op ≠ .defer c := by
  intro c ho
  simp [cOp, ho] at hc

/-- After a call that changed nothing that was there. -/
theorem St'.called (s : St' C Fr e h F φ a w) {w' : World} {F' : Froz} (hb : Below w.heap.size w w') (hF' : Holds F' w') (hext : ∀ x u, F x = some u → F' x = some u) (hold : ∀ x : Addr, x.block < w.heap.size → F' x = F x) : St' C Fr e h F' φ a w' := by
  refine { nt := s.nt, nodef := s.nodef, loc0 := s.loc0, free := s.free, env := fun k p hp => ⟨(s.env k p hp).1, (s.env k p hp).2.mono hext fun _ _ h => h⟩, froz := hF', ext := fun x v hx => hext _ _ (s.ext x v hx),
           old := fun x hx hG => by rw [hold x (by have := s.size; omega)]; exact s.old x hx hG, os := hb.os.trans s.os, tape := hb.tape.trans s.tape, output := hb.output.trans s.output, size := Nat.le_trans s.size hb.size,
           kept := fun k hk hG => by rw [hb.block k (by have := s.size; omega)]; exact s.kept k hk hG, live := fun i b hi => ?_, sep := s.sep }
  obtain ⟨loc, h1, h2, h3⟩ := s.live i b hi
  refine ⟨loc, h1, h2.mono hext (fun _ _ h => h) (fun k hk => hb.block k (s.has_lt hi h1 hk)), fun k hk => ⟨(h3 k hk).1, fun x hx => ?_⟩⟩
  rw [hold x (by rw [hx]; exact s.has_lt hi h1 hk)]
  exact (h3 k hk).2 x hx

theorem cOp_call {o : Oper} {f : Operand} {args : List Operand} (hc : cOp P o = some (.call f args)) : ∃ c, o.op = .call c ∧ c.callee = .value f ∧ c.args.toList = args := by
  unfold cOp at hc
  split at hc
  all_goals first
    | (rename_i c ho
       split at hc
       · rename_i f' hcal
         cases hc
         exact ⟨c, ho, hcal, rfl⟩
       all_goals (repeat' (split at hc)) <;> simp at hc)
    | ((repeat' (split at hc)) <;> simp at hc; done)
    | (simp at hc; done)
    | (cases hl : layOf P _ with
       | none => simp [hl] at hc
       | some l => simp [hl] at hc)

theorem args_rep (s : St' C Fr e h F φ a w) {f : Operand} {args : Array Operand} {g : Nat} {caps as : List PV} (hf : ev e f = some (.fn g caps)) (has : evs e args.toList = some as) : ∃ vs, a.eval f = .func (.func g) #[] vs ∧ RepL F φ (args.map a.eval ++ vs) (as ++ caps) := by
  obtain ⟨vs, hvf, hsz, hcaps⟩ := (s.eval hf).fn_inv
  obtain ⟨hl1, hl2⟩ := s.evals has
  refine ⟨vs, hvf, by simp at hl1 ⊢; omega, fun i hi => ?_⟩
  by_cases hi' : i < as.length
  · have e1 : (args.map a.eval ++ vs).getD i undef = ((args.toList.map a.eval).getD i undef) := by
      rw [← Array.toList_map, toList_getD]
      simp only [Array.getD_eq_getD_getElem?]
      rw [Array.getElem?_append_left (by simp at hl1 ⊢; omega)]
    have e2 : (as ++ caps).getD i pvu = as.getD i pvu := by
      simp only [List.getD_eq_getElem?_getD]
      rw [List.getElem?_append_left hi']
    rw [e1, e2]
    exact hl2 i hi'
  · have e1 : (args.map a.eval ++ vs).getD i undef = vs.getD (i - as.length) undef := by
      simp only [Array.getD_eq_getD_getElem?]
      rw [Array.getElem?_append_right (by simp at hl1 ⊢; omega)]
      simp only [Array.size_map]
      congr 2
      simp at hl1
      omega
    have e2 : (as ++ caps).getD i pvu = caps.getD (i - as.length) pvu := by
      simp only [List.getD_eq_getElem?_getD]
      rw [List.getElem?_append_right (by omega)]
    rw [e1, e2]
    exact hcaps _ (by simp at hi; omega)

/-- One operation, on every state that is represented. -/
theorem opK_sound (hok : FenceOk FN m) {o : Oper} {op : AOp} (hc : cOp P o = some op) (hdst : dstOk C.nt o.dst = true) {n : Nat} (hid : Fr n) (s : St' C Fr e h F φ a w) {K : PV → Heap → Prop} (hk : opK P op n e h K) {next : Act → World → Prop} {Q : Exit → Act → World → Prop}
    (hnext : ∀ p h' a' w', K p h' → St C (fun i => Fr i ∧ (h' n ≠ none → i ≠ n)) (updO e o.dst p) h' a' w' → next a' w') : o.wpIn FN m P a w next Q := by
  refine ⟨fun f _ => hok.fn f, ?_⟩
  rw [Oper.semAt_eq FN.round a.eval o (cOp_defer hc)]
  have det : ∀ p h', (dEval op e h n = some (p, h') ∨ fEval op e h n = some (p, h')) → K p h' → o.uponIn FN m P a next Q ((execOp a.eval o).run P w) := by
    intro p h' hd hK
    obtain ⟨r, val, w', F', φ', hr, hval, s', hrep⟩ := op_sound hc s hid hd
    have hput := s'.putO hdst hrep
    rw [hr]
    rcases hval with rfl | ⟨rfl, rfl⟩
    · exact hnext p h' _ _ hK ⟨F', φ', hput⟩
    · exact hnext p h' _ _ hK ⟨F', φ', hput⟩
  by_cases hcall : ∃ f args, op = .call f args
  · obtain ⟨f, args, rfl⟩ := hcall
    obtain ⟨g, caps, as, args', R, hf, has, hlo, hpure, ⟨⟨fn, hfn, hname, hbody⟩, hspec⟩, hR⟩ := hk
    obtain ⟨c, ho, hcal, hargs⟩ := cOp_call hc
    subst hargs
    obtain ⟨vs, hvf, hrep⟩ := args_rep s hf has
    have hrep' := hlo.rep hrep
    have hrep'' : RepL F noLoc (c.args.map a.eval ++ vs) args' := ⟨hrep'.1, fun i hi => (hrep'.2 i hi).pure (innL_getD hpure i)⟩
    have hrun : (execOp a.eval o).run P w = .ok (.enter g (c.args.map a.eval ++ vs)) w := by
      have h1 : ¬ fn.name = "runtime.NumGoroutine" := by simpa using hname
      have h2 : ¬ fn.body = none := fun h => by rw [h] at hbody; simp at hbody
      simp [execOp, ho, resolve, hcal, hvf, Deferred.ofValue, invoke, callFunc, hfn, h1, h2]
    rw [hrun]
    refine ⟨fun hd => by rw [hok.depth] at hd; simp at hd, hok.calls _ _ _ _ _ ((hspec F w _ s.froz hrep'').mono ?_)⟩
    rintro en w' ⟨v, r, F', rfl, hr, hvr, hbel, hF', hext, hold⟩
    have s' := (s.called hbel hF' hext hold).weaken (Fr' := fun i => Fr i ∧ (h n ≠ none → i ≠ n)) fun _ h => h.1
    have hvr' : Rep F' φ v r := by
      have : ∀ {u : Value} {q : PV}, Rep F' noLoc u q → Rep F' φ u q := fun hq => hq.mono (fun _ _ h => h) (fun i x hx => by cases hx)
      exact this hvr
    exact hnext r h _ _ (hR r hr) ⟨F', φ, s'.putO hdst hvr'⟩
  · have : ∃ p h', (dEval op e h n = some (p, h') ∨ fEval op e h n = some (p, h')) ∧ K p h' := by
      cases op <;> first | exact hk | exact absurd ⟨_, _, rfl⟩ hcall
    obtain ⟨p, h', hd, hK⟩ := this
    exact det p h' hd hK

theorem callI_sound (hok : FenceOk FN m) {o : Oper} {f : Operand} {args : List Operand} (hc : cOp P o = some (.call f args)) (hdst : dstOk C.nt o.dst = true) {n : Nat} (s : St' C (fun i => n ≤ i) e h F φ a w) {g : Nat} {caps as : List PV} {R : Nat → PV → Heap → Prop}
    (hf : ev e f = some (.fn g caps)) (has : evs e args = some as) (hsp : ISpec P g n (as ++ caps) h R) {next : Act → World → Prop} {Q : Exit → Act → World → Prop}
    (hnext : ∀ n' p h' a' w', R n' p h' → St C (fun i => n' ≤ i) (updO e o.dst p) h' a' w' → next a' w') : o.wpIn FN m P a w next Q := by
  refine ⟨fun f _ => hok.fn f, ?_⟩
  rw [Oper.semAt_eq FN.round a.eval o (cOp_defer hc)]
  obtain ⟨⟨fn, hfn, hname, hbody⟩, hspec⟩ := hsp
  obtain ⟨c, ho, hcal, hargs⟩ := cOp_call hc
  subst hargs
  obtain ⟨vs, hvf, hrep⟩ := args_rep s hf has
  have hrun : (execOp a.eval o).run P w = .ok (.enter g (c.args.map a.eval ++ vs)) w := by
    have h1 : ¬ fn.name = "runtime.NumGoroutine" := by simpa using hname
    have h2 : ¬ fn.body = none := fun h => by rw [h] at hbody; simp at hbody
    simp [execOp, ho, resolve, hcal, hvf, Deferred.ofValue, invoke, callFunc, hfn, h1, h2]
  rw [hrun]
  refine ⟨fun hd => by rw [hok.depth] at hd; simp at hd, hok.calls _ _ _ _ _ ((hspec C e F φ a w _ s hrep).mono ?_)⟩
  rintro en w' ⟨v, r, n', h', F', φ', rfl, hr, hvr, s'⟩
  exact hnext n' r h' _ _ hr ⟨F', φ', s'.putO hdst hvr⟩

theorem wanted_sound {ops : Array Oper} {g : Option (Nat × Bool)} {g' : Option (Nat × Bool)} (hg : cGuard ops g = some g') (s : St' C Fr e h F φ a w) {o : Oper} (ho : o.guard = g) {A B : Prop} (hk : wantK g' e A B) :
    (Region.wanted o (yielded ops a.tmps) = true ∧ A) ∨ (Region.wanted o (yielded ops a.tmps) = false ∧ B) := by
  unfold cGuard at hg
  split at hg
  · cases hg
    exact .inl ⟨by simp [Region.wanted, ho], hk⟩
  · rename_i j b
    split at hg
    case h_2 => simp at hg
    rename_i oj hj
    split at hg
    case h_2 => simp at hg
    rename_i d hd
    cases hg
    have hy : ∀ v, e d = some (.val v) → yielded ops a.tmps j = match v with | .bool c => some c | _ => none := fun v hv => by
      obtain ⟨hlt, hr⟩ := s.env d _ hv
      have hv' := hr.val_inv
      have hlt' : d < a.tmps.size := by rw [s.nt]; exact hlt
      have hg : a.tmps[d]? = some v := by
        rw [Array.getElem?_eq_getElem hlt']
        simpa [Array.getD, hlt'] using hv'
      simp only [yielded, hj, Option.bind_some, hd, hg]
      cases v <;> rfl
    simp only [wantK] at hk
    split at hk
    · rename_i c hc
      have := hy _ hc
      simp only at this
      split at hk
      · rename_i hcb
        subst hcb
        exact .inl ⟨by simp [Region.wanted, ho, this], hk⟩
      · rename_i hcb
        exact .inr ⟨by simp [Region.wanted, ho, this, hcb], hk⟩
    · rename_i v hc
      have := hy _ hc
      simp only at this
      exact .inr ⟨by simp [Region.wanted, ho, this], hk⟩
    · exact hk.elim

theorem St'.next (s : St' C Fr e h F φ a w) {n : Nat} (hf : ∀ i, Fr i ↔ n ≤ i ) : St' C (fun i => n ≤ i) e h F φ a w := s.weaken fun i hi => (hf i).2 hi

/-- What a piece of code comes to, on all states that are represented. -/
def PostA (C : Ctx) (Q : Exit → Nat → Env → Heap → Prop) (x : Exit) (a : Act) (w : World) : Prop := ∃ n e h, Q x n e h ∧ St C (fun i => n ≤ i) e h a w

theorem opsK_sound (hok : FenceOk FN m) {ops : Array Oper} : ∀ {l : List Oper} {al : List AOper}, cOpers P C.nt ops l = some al → ∀ {n : Nat} {e : Env} {h : Heap} {a : Act} {w : World}, St C (fun i => n ≤ i) e h a w → ∀ {Q : Exit → Nat → Env → Heap → Prop}, opsK P al n e h (fun n e h => Q .normal n e h) →
    wpListIn FN m P ops (PostA C Q) l a w := by
  intro l
  induction l with
  | nil =>
    intro al hc n e h a w hs Q hk
    obtain rfl : [] = al := by simpa [cOpers] using hc
    exact ⟨n, e, h, hk, hs⟩
  | cons o r ih =>
    intro al hc n e h a w hs Q hk
    simp only [cOpers] at hc
    split at hc
    case h_2 => simp at hc
    rename_i ao al' ho hl
    obtain rfl : ao :: al' = al := by simpa using hc
    unfold cOper at ho
    split at ho
    case h_2 => simp at ho
    rename_i op g hop hg
    split at ho
    case isFalse => simp at ho
    rename_i hdst
    cases ho
    simp only [opsK] at hk
    obtain ⟨F, φ, s⟩ := hs
    simp only [wpListIn]
    rcases wanted_sound hg s rfl hk with ⟨hw, hA⟩ | ⟨hw, hB⟩
    · rw [if_pos hw]
      obtain ⟨n1, e1, h1, hsub, hA⟩ := hA
      obtain ⟨F, φ, s⟩ := hsub C a w ⟨F, φ, s⟩
      rcases hA with hA | ⟨f, args, g, caps, as, R, hop', hf, has, hsp, hR⟩
      · refine opK_sound hok hop hdst (Nat.le_refl n1) s hA fun p h' a' w' hK hs' => ?_
        obtain ⟨F', φ', s'⟩ := hs'
        refine ih hl ⟨F', φ', s'.weaken fun i hi => ?_⟩ hK
        unfold bmp at hi
        cases hb : h' n1 with
        | none => rw [hb] at hi; exact ⟨hi, fun hne => absurd rfl hne⟩
        | some b => rw [hb] at hi; exact ⟨by simp only at hi; omega, fun _ => by simp only at hi; omega⟩
      · subst hop'
        refine callI_sound hok hop hdst s hf has hsp fun n' r h' a' w' hr hs' => ?_
        exact ih hl hs' (hR n' r h' hr)
    · rw [if_neg (by simp [hw])]
      refine ⟨fun f _ => hok.fn f, ?_⟩
      have s' := s.putO (p := pvu) hdst (.val undef)
      exact ih hl ⟨F, φ, s'⟩ hB

theorem region_sound (hok : FenceOk FN m) {id : Nat} {ops : Array Oper} {al : List AOper} (hc : cOpers P C.nt ops ops.toList = some al) {n : Nat} (hs : St C (fun i => n ≤ i) e h a w) {Q : Exit → Nat → Env → Heap → Prop} (hk : opsK P al n e h (fun n e h => Q .normal n e h)) :
    (Code.region id ops false).wpIn FN m P (PostA C Q) a w := wpIn_region_list (opsK_sound hok hc hs hk)
end
end Go.Proofs.Ytelcpkjclcimbaa
