/-
  Merged from the texts that this claim's theorem needs, part 4 of 6. No statement of the seat is proved here.
-/
import Derived.Calls
import Derived.Carry
import Derived.LaidMore
import Derived.Laws.Bits64
import Derived.Lone
import Derived.OpenShut
import Derived.ProofKit
import Derived.SizedLaws
import Derived.StepT
import Derived.Test.YtbmhdpflloepkaaDoorRows
import Derived.Test.YtbmhdpflloepkaaDoorMq2
set_option linter.unusedSimpArgs false
set_option linter.unusedVariables false
set_option linter.unusedSectionVars false

namespace Go.Proofs.YtbmhdpflloepkaaDoor
open Go.RowKit
set_option linter.unusedVariables false
set_option linter.unusedSimpArgs false

def KpF (F : Froz) (A B : World) : Prop := (∀ x v, F x = some v → A.cell? x = some v → B.cell? x = some v) ∧ B.os = A.os ∧ B.tape = A.tape ∧ B.output = A.output ∧ A.heap.size ≤ B.heap.size
theorem KpF.trans {F : Froz} {A B C : World} (h : KpF F A B) (k : KpF F B C) : KpF F A C :=
 ⟨fun x v hx hv => k.1 x v hx (h.1 x v hx hv), k.2.1.trans h.2.1, k.2.2.1.trans h.2.2.1, k.2.2.2.1.trans h.2.2.2.1, Nat.le_trans h.2.2.2.2 k.2.2.2.2⟩
theorem KpF.refl (F : Froz) (A : World) : KpF F A A := ⟨fun _ _ _ h => h, rfl, rfl, rfl, Nat.le_refl _⟩
theorem KpF.grown {F : Froz} {A B : World} {row : Option Nat} (hg : A.grownBy B row) (hrow : ∀ r, row = some r → ∃ o : Obj, A.heap[r]? = some o ∧ o.isCells = false) : KpF F A B :=
 ⟨fun x v _ hv => cell_kept hv hg hrow, hg.os, hg.tape, hg.output, hg.size⟩

def IterOk (P : Program) (g : FuncId) (caps : List PV) {α : Type} (encs : α → List Value) (S Sp : List α → Prop) (M : Nat) : Prop :=
 HasBody P g ∧ ∀ (F : Froz) (w : World) (lb : Array Value) (FN : Fence) (m : Nat), FenceOk FN m → Holds F w → RepL F noLoc lb caps → SeqStopsK FN m P g lb (fun x => (encs x).toArray) (KpF F) S Sp M w

def Ctx.apart (h : Heap) (φ : Locs) (F : Froz) (w : World) (nt : Nat) : Ctx := ⟨w, fun k => ∃ i b loc, h i = some b ∧ φ i = some loc ∧ loc.has k, F, nt, φ⟩

section
variable {P : Program} {C : Ctx} {Fr Fr' : Nat → Prop} {e e' : Env} {h h' : Heap} {F F' : Froz} {φ φ' : Locs} {a a' : Act} {w w' : World}

theorem St'.owned (s : St' C Fr e h F φ a w) {nt k : Nat} (hk : (Ctx.apart h φ F w nt).G k) : (C.w0.heap.size ≤ k ∨ C.G k) ∧ ((∃ cells t, w.heap[k]? = some (.cells cells t (0, 0))) ∨ ∃ es t, w.heap[k]? = some (.map es t)) := by
 obtain ⟨i, b, loc, hi, hl, hc⟩ := hk
 obtain ⟨loc', h1, h2, h3⟩ := s.live i b hi
 obtain rfl : loc' = loc := by rw [h1] at hl; simpa using hl
 refine ⟨(h3 k hc).1, ?_⟩
 exact h2.there hc

theorem St'.enter (s : St' C Fr e h F φ a w) : St' (Ctx.apart h φ F w C.nt) Fr e h F φ { a with defers := [] } w := by
 refine { nt := s.nt, glob := s.glob, marks := Marks.nil rfl, loc0 := fun i x hx => hx, free := s.free, env := s.env, froz := s.froz, ext := fun _ _ h => h, old := fun _ _ _ => rfl, os := rfl, tape := rfl, output := rfl, size := Nat.le_refl _, kept := fun _ _ _ => rfl, live := fun id b hb => ?_, sep := s.sep }
 obtain ⟨loc, h1, h2, h3⟩ := s.live id b hb
 exact ⟨loc, h1, h2, fun k hk => ⟨.inr ⟨id, b, loc, hb, h1, hk⟩, (h3 k hk).2⟩⟩

theorem St'.back (s : St' C Fr e h F φ a w) {nt : Nat} (s' : St' (Ctx.apart h φ F w nt) Fr' e' h' F' φ' a' w') : St' C Fr' e h' F' φ' a w' := by
 have hne : ∀ k, w.heap[k]? = some (.deferred (some [])) → ¬ (Ctx.apart h φ F w nt).G k := fun k hk hg => by
  rcases (s.owned hg).2 with ⟨cells, t, hc⟩ | ⟨es, t, hc⟩
  · rw [hk] at hc; cases hc
  · rw [hk] at hc; cases hc
 refine { nt := s.nt, glob := s'.glob, marks := s.marks.mono fun k hk => ?_, loc0 := fun i x hx => s'.loc0 i x (s.loc0 i x hx), free := s'.free, env := fun k p hp => ⟨(s.env k p hp).1, (s.env k p hp).2.mono s'.ext s'.loc0⟩, froz := s'.froz, ext := fun x v hx => s'.ext _ _ (s.ext x v hx),
          old := fun x hx hg => ?_, os := s'.os.trans s.os, tape := s'.tape.trans s.tape, output := s'.output.trans s.output, size := Nat.le_trans s.size s'.size, kept := fun k hk hg => ?_, live := fun i b hi => ?_, sep := s'.sep }
 · exact (s'.kept k (Array.getElem?_eq_some_iff.1 hk).1 (hne k hk)).trans hk
 · have hx2 : x.block < w.heap.size := Nat.lt_of_lt_of_le hx s.size
   rw [s'.old x hx2 fun hg' => (s.owned hg').1.elim (fun h1 => absurd hx (Nat.not_lt.2 h1)) hg]
   exact s.old x hx hg
 · have := s'.kept k (Nat.lt_of_lt_of_le hk s.size) fun hg' => (s.owned hg').1.elim (fun h1 => absurd hk (Nat.not_lt.2 h1)) hg
   exact this.trans (s.kept k hk hg)
 · obtain ⟨loc, h1, h2, h3⟩ := s'.live i b hi
   refine ⟨loc, h1, h2, fun k hk => ⟨?_, (h3 k hk).2⟩⟩
   rcases (h3 k hk).1 with h4 | h4
   · exact .inl (Nat.le_trans s.size h4)
   · exact (s.owned h4).1

theorem St'.apart_keeps (s : St' C Fr e h F φ a w) {nt : Nat} (s' : St' (Ctx.apart h φ F w nt) Fr' e' h' F' φ' a' w') (hnm : ∀ i b, h i = some b → 0 < b.esz) (B : Nat) : KeepsFrom B w w' := by
 refine ⟨s'.size, fun k o _ hk ho => ?_⟩
 refine (s'.kept k (Array.getElem?_eq_some_iff.1 hk).1 fun hg => ?_).trans hk
 obtain ⟨i, b, loc, hi, hl, hc⟩ := hg
 obtain ⟨loc', h1, h2, h3⟩ := s.live i b hi
 obtain rfl : loc' = loc := by rw [h1] at hl; simpa using hl
 obtain ⟨hc0, x, hx, rfl⟩ := hc
 obtain ⟨y, hy, _, cells, t, hg, _⟩ := (h2.cellsB (hnm i b hi)).room hc0
 obtain rfl : y = x := by rw [hy] at hx; simpa using hx
 rw [hk] at hg
 cases hg
 cases ho
theorem St'.apart_kp (s : St' C Fr e h F φ a w) {nt : Nat} (s' : St' (Ctx.apart h φ F w nt) Fr' e' h' F' φ' a' w') {F0 : Froz} (h0 : ∀ x v, F0 x = some v → F x = some v) : KpF F0 w w' :=
 ⟨fun x v hx _ => (s'.froz x v (s'.ext x v (h0 x v hx))).2.2, s'.os, s'.tape, s'.output, s'.size⟩
theorem dom_apart {N nt : Nat} (hfr : ∀ i, N ≤ i → φ i = none) : (Ctx.apart h φ F w nt).dom N := hfr
end

def envP (e : Env) : List Nat → List Value → Env
 | p :: ps, v :: vs => envP (e.upd p (.val v)) ps vs
 | _, _ => e
def actP (a : Act) : List Nat → List Value → Act
 | p :: ps, v :: vs => actP (a.put (some p) v) ps vs
 | _, _ => a
def envM (e : Env) : List (Nat × Operand) → Option Env
 | [] => some e
 | (d, x) :: l => match ev e x with
   | some p => envM (e.upd d p) l
   | none => none
def actM (a : Act) : List (Nat × Operand) → Act
 | [] => a
 | (d, x) :: l => actM (a.put (some d) (a.eval x)) l

theorem actP_defers : ∀ (ps : List Nat) (vs : List Value) (a : Act), (actP a ps vs).defers = a.defers
 | [], _, _ => rfl
 | _ :: _, [], _ => rfl
 | p :: ps, v :: vs, a => by simp only [actP]; exact actP_defers ps vs _
theorem actP_tmps : ∀ (ps : List Nat) (vs : List Value) (a : Act), (actP a ps vs).tmps = (ps.zip vs).foldl (fun t (p, v) => t.setIfInBounds p v) a.tmps
 | [], _, _ => rfl
 | _ :: _, [], _ => rfl
 | p :: ps, v :: vs, a => by simp only [actP, List.zip_cons_cons, List.foldl_cons]; exact actP_tmps ps vs _

section
variable {P : Program} {C : Ctx} {Fr Fr' : Nat → Prop} {h h' : Heap} {F F' : Froz} {φ φ' : Locs} {w w' : World}
theorem St'.params : ∀ {ps : List Nat} {vs : List Value} {e : Env} {a : Act}, St' C Fr e h F φ a w → (∀ p ∈ ps, p < C.nt) → St' C Fr (envP e ps vs) h F φ (actP a ps vs) w
 | [], _, _, _, s, _ => s
 | _ :: _, [], _, _, s, _ => s
 | p :: ps, v :: vs, e, a, s, hps => (s.put (hps p (by simp)) (.val v)).params fun q hq => hps q (by simp [hq])
theorem St'.moves : ∀ {l : List (Nat × Operand)} {e e' : Env} {a : Act}, St' C Fr e h F φ a w → (∀ q ∈ l, q.1 < C.nt) → envM e l = some e' → St' C Fr e' h F φ (actM a l) w
 | [], e, e', a, s, _, he => by cases he; exact s
 | (d, x) :: l, e, e', a, s, hl, he => by
   simp only [envM] at he
   split at he
   · rename_i p hp
     exact (s.put (hl _ (List.mem_cons_self ..)) (s.eval hp)).moves (fun q hq => hl q (by simp [hq])) he
   · cases he

theorem moves_wp {FN : Fence} {m : Nat} (hok : FenceOk FN m) {ops : Array Oper} {K : Act → World → Prop} : ∀ {l : List Oper} {ms : List (Nat × Operand)} {a : Act}, cMoves l = some ms → K (actM a ms) w → wpListIn FN m P ops (Exit.then K (fun _ _ _ => False)) l a w
 | [], ms, a, hc, hk => by
   obtain rfl : [] = ms := by simpa [cMoves] using hc
   exact hk
 | o :: r, ms, a, hc, hk => by
   have key : ∀ (x : Operand) (d : Nat) (l' : List (Nat × Operand)) (op : AOp), cOp P o = some op → execOp a.eval o = pure (.value (a.eval x)) → o.guard = none → o.dst = some d → cMoves r = some l' → ms = (d, x) :: l' → wpListIn FN m P ops (Exit.then K (fun _ _ _ => False)) (o :: r) a w := by
    intro x d l' op hop hex hg hd hr hms
    subst hms
    simp only [wpListIn]
    rw [if_pos (by simp [Region.wanted, hg])]
    refine ⟨fun f _ => hok.fn f, ?_⟩
    rw [Oper.semAt_eq FN.round a.eval o (cOp_defer hop), hex]
    have := moves_wp hok (ops := ops) (a := a.put (some d) (a.eval x)) hr hk
    rw [← hd] at this
    exact this
   simp only [cMoves] at hc
   split at hc
   · rename_i x d l' ho hg hd hr
     exact key x d l' (.mov x) (by simp [cOp, ho]) (by simp [execOp, ho]) hg hd hr (by simpa using hc.symm)
   · rename_i x d l' ho hg hd hr
     exact key x d l' (.mov x) (by simp [cOp, ho]) (by simp [execOp, ho]) hg hd hr (by simpa using hc.symm)
   · cases hc
theorem asg_wp {FN : Fence} {m : Nat} (hok : FenceOk FN m) {K : Act → World → Prop} {c : Code} {ms : List (Nat × Operand)} {a : Act} (hc : cAsg c = some ms) (hk : K (actM a ms) w) : c.wpIn FN m P (Exit.then K (fun _ _ _ => False)) a w := by
 unfold cAsg at hc
 split at hc
 · cases hc
   exact wpIn_skip hk
 · exact wpIn_region_list (moves_wp hok hc hk)
 · cases hc
end

def roundQ {β : Type} (B : Exit → β → Prop) (m N : Nat) (L : List (Nat × PV)) (HL : β → List (Nat × Bx)) : Exit → Nat → Env → Heap → Prop :=
 fun ex _ _ h' => (ex = .normal ∨ ex = .ret ∨ ∃ id, ex = .exit id) ∧ ∃ z ρ, B ex z ∧ (∀ i, i < m → ρ i = i) ∧ InjOn ρ (HL z) ∧ EnvQ ρ (envL L) N L ∧ HeapQ ρ h' N (HL z)

theorem fenceOk_inRound {FN : Fence} {m : Nat} (h : FenceOk FN m) (l k : Nat) : FenceOk (FN.inRound l) k := by
 refine ⟨h.fn, h.depth, fun P f args w R hc => ?_⟩
 obtain ⟨h1, h2⟩ := h.calls P f args w R hc
 exact CallsIn.inRound l ⟨h1, fun cs _ => h2 cs fun d hd => by rw [h.depth] at hd; cases hd⟩
theorem fenceOk_any {FN : Fence} {m : Nat} (h : FenceOk FN m) (k : Nat) : FenceOk FN k := by
 refine ⟨h.fn, h.depth, fun P f args w R hc => ?_⟩
 obtain ⟨h1, h2⟩ := h.calls P f args w R hc
 exact ⟨h1, fun cs _ => h2 cs fun d hd => by rw [h.depth] at hd; cases hd⟩
theorem wpIn_any {FN : Fence} {m : Nat} (hd : FN.depth = none) (k : Nat) {P : Program} {c : Code} {Q : Exit → Act → World → Prop} {a : Act} {w : World} (h : c.wpIn FN k P Q a w) : c.wpIn FN m P Q a w :=
 fun b kk cs hro hb _ => h b kk cs hro hb fun d hd' => by rw [hd] at hd'; cases hd'

theorem World.grownBy_refl (W : World) : W.grownBy W none := ⟨rfl, rfl, rfl, Nat.le_refl _, fun _ _ _ => rfl⟩

section
variable {P : Program} {C : Ctx} {e : Env} {h : Heap} {n : Nat} {Q : Exit → Nat → Env → Heap → Prop}
theorem aw_range {α X : Type} {m0 : Nat} (hdom : C.dom m0) {f : Operand} {ps : List Nat} {asg : List (Nat × Operand)} {body : ACode} {g : FuncId} {caps : List PV} {encs : α → List Value} {S Sp : List α → Prop} {M : Nat} (L : List (Nat × PV)) (HL : X → List (Nat × Bx))
 (hf : ev (envL L) f = some (.fn g caps)) (hp : pureL caps) (hit : IterOk P g caps encs S Sp M) (henc : ∀ x, (encs x).length = ps.length)
 (B : Exit → List α → X → Prop) (N : Nat) (hm : m0 ≤ N) (z0 : X) (h0 : B .normal [] z0) (hs0 : Sub C n e h N (envL L) (heapL (HL z0))) (hnm : ∀ z, ∀ q ∈ HL z, 0 < q.2.esz)
 (e2 : α → Env) (he2 : ∀ x, envM (envP (envL L) ps (encs x)) asg = some (e2 x))
 (round : ∀ (C2 : Ctx), C2.dom N → ∀ pre x z, B .normal pre z → pre.length < M → aw P C2 body (roundQ (fun ex z' => B ex (pre ++ [x]) z') m0 N L HL) N (e2 x) (heapL (HL z)))
 (done : ∀ xs z, S xs → B .normal xs z → Q .normal N (envL L) (heapL (HL z)))
 (stop : ∀ ex pre z, Sp pre → B ex pre z → (ex = .ret ∨ ∃ id, ex = .exit id) → Q ex N (envL L) (heapL (HL z))) : aw P C (.range f ps asg body) Q n e h := by
 intro hmx FN m hokl c hc a w hs
 obtain ⟨hok, hlo⟩ := hokl
 have : ∃ ps' cg cb, c = .rangeFunc f ps' cg cb ∧ ps'.toList = ps ∧ cAsg cg = some asg ∧ cCode P C.nt cb = some body ∧ (∀ p ∈ ps, p < C.nt) ∧ ∀ q ∈ asg, q.1 < C.nt := by
  unfold cCode at hc
  split at hc <;> first
   | (simp at hc; done)
   | (split at hc
      · split at hc
        · rename_i hall
          simp only [Option.some.injEq, ACode.range.injEq] at hc
          obtain ⟨rfl, rfl, rfl, rfl⟩ := hc
          simp only [Bool.and_eq_true, List.all_eq_true, decide_eq_true_eq] at hall
          exact ⟨_, _, _, rfl, rfl, by assumption, by assumption, hall.1, hall.2⟩
        · simp at hc
      · simp at hc)
   | ((repeat' (split at hc)) <;> simp at hc; done)
 obtain ⟨ps', cg, cb, rfl, rfl, hcg, hcb, hpl, hal⟩ := this
 obtain ⟨F1, φ1, s1⟩ := hs0 a w hs
 obtain ⟨lb, hlb, hlz, hlr⟩ := (s1.eval hf).fn_inv
 have hrep : RepL F1 noLoc lb caps := ⟨hlz, fun i hi => (hlr i hi).pure (innL_getD hp i)⟩
 obtain ⟨⟨fn, hfn, hname, hbody⟩, hcon⟩ := hit
 have eg : ∀ args w, (callFunc g args).run P w = .ok (.enter g args) w := fun args w => by
  have h1 : ¬ fn.name = "runtime.NumGoroutine" := by simpa using hname
  have h2 : ¬ fn.body = none := fun h => by rw [h] at hbody; simp at hbody
  simp [callFunc, hfn, h1, h2]
 have hcon' : ∀ k, SeqStopsK FN k P g lb (fun x => (encs x).toArray) (KpF F1) S Sp M w := fun k => hcon F1 w lb FN k (fenceOk_any hok k) ⟨s1.froz, s1.glob⟩ hrep
 have hmk : ∀ d ∈ a.defers, ∀ D, d = { target := .collected D, args := #[] } → D < w.heap.size := fun d hd D hD => by
  obtain ⟨D1, e1, _, e3⟩ := s1.marks.all d hd
  rw [e1] at hD
  have : D1 = D := by simpa using hD
  rw [← this]
  exact (Array.getElem?_eq_some_iff.1 e3).1
 let I : List α → World → Prop := fun pre W => ∃ z, B .normal pre z ∧ ∃ F φ, (∀ x v, F1 x = some v → F x = some v) ∧ St' C (fun i => N ≤ i) (envL L) (heapL (HL z)) F φ a W
 let Ix : Code → List α → World → Prop := fun c pre W => ∃ ex z, ((c = .ret ∧ ex = .ret) ∨ ∃ id, c = .exit id ∧ ex = .exit id) ∧ B ex pre z ∧ ∃ F φ, St' C (fun i => N ≤ i) (envL L) (heapL (HL z)) F φ a W
 have hnm' : ∀ z i b, heapL (HL z) i = some b → 0 < b.esz := fun z i b hb => hnm z (i, b) (heapL_some hb)
 have turn : ∀ {W W' : World} {row : Option Nat} {F : Froz} {φ : Locs} {hh : Heap}, St' C (fun i => N ≤ i) (envL L) hh F φ a W → (∀ i b, hh i = some b → 0 < b.esz) → W.grownBy W' row → (∀ r, row = some r → w.heap.size ≤ r ∧ ∃ o : Obj, W.heap[r]? = some o ∧ o.isCells = false) → St' C (fun i => N ≤ i) (envL L) hh F φ a W' := by
  intro W W' row F φ hh s hnm hg hr
  refine s.turned hg (fun r he => ⟨Nat.le_trans s1.size (hr r he).1, (hr r he).2⟩) (.inl hnm) rfl ⟨s.marks.nd, fun d hd => ?_⟩
  obtain ⟨D, e1, e2, e3⟩ := s.marks.all d hd
  refine ⟨D, e1, e2, ?_⟩
  have := hmk d hd D e1
  rw [hg.block D (Array.getElem?_eq_some_iff.1 e3).1 (fun he => by have := (hr D he.symm).1; omega)]
  exact e3
 have hI : OwnFrom w.heap.size I := by
  rintro pre W W' row ⟨z, hB, F, φ, hF, s⟩ hg hr
  exact ⟨z, hB, F, φ, hF, turn s (hnm' z) hg hr⟩
 have hIx : ∀ c, OwnFrom w.heap.size (Ix c) := by
  rintro c pre W W' row ⟨ex, z, hc, hB, F, φ, s⟩ hg hr
  exact ⟨ex, z, hc, hB, F, φ, turn s (hnm' z) hg hr⟩
 have hI0 : I [] w := ⟨z0, h0, F1, φ1, fun _ _ h => h, s1⟩
 have hact : ∀ x, ({ tmps := (ps'.zip (encs x).toArray).foldl (fun t (p, v) => t.setIfInBounds p v) a.tmps, defers := [] } : Act) = actP { a with defers := [] } ps'.toList (encs x) := fun x => by
  have h1 := actP_tmps ps'.toList (encs x) { a with defers := [] }
  have h2 := actP_defers ps'.toList (encs x) { a with defers := [] }
  have h3 : (ps'.zip (encs x).toArray).foldl (fun t (p, v) => t.setIfInBounds p v) a.tmps = (ps'.toList.zip (encs x)).foldl (fun t (p, v) => t.setIfInBounds p v) a.tmps := by
   rw [← Array.foldl_toList, Array.toList_zip]
  rw [h3]
  generalize actP { a with defers := [] } ps'.toList (encs x) = b at h1 h2
  obtain ⟨bt, bd⟩ := b
  simp only at h1 h2
  rw [h1, h2]
 let Ax : α → Act → World → Prop := fun x a' _ => a' = actM (actP { a with defers := [] } ps'.toList (encs x)) asg
 have hassign : ∀ (k l : Nat) (pre : List α) (x : α) (W : World) (K : Act → World → Prop), I pre W → (∀ a' W', KeepsFrom w.heap.size W W' → KpF F1 W W' → I pre W' → Ax x a' W' → K a' W') →
  cg.wpIn (FN.inRound l) k P (Exit.then K (fun _ _ _ => False)) { tmps := (ps'.zip (encs x).toArray).foldl (fun t (p, v) => t.setIfInBounds p v) a.tmps, defers := [] } W := by
  intro k l pre x W K hi hK
  rw [hact]
  exact asg_wp (fenceOk_inRound hok l k) hcg (hK _ _ (KeepsFrom.refl _ _) (KpF.refl _ _) hi rfl)
 have hround : ∀ (k l : Nat) (pre : List α) (x : α) (a' : Act) (W : World), (∃ r, W.heap[l]? = some (.loop r)) → I pre W → Ax x a' W → pre.length < M → cb.wpIn (FN.inRound l) k P (ownPostG w.heap.size (KpF F1) I Ix (pre ++ [x]) W) a' W := by
  rintro k l pre x a' W ⟨r, hl⟩ ⟨z, hB, F, φ, hF, s⟩ rfl hlen
  have s3 := (s.enter.params (ps := ps'.toList) (vs := encs x) hpl).moves hal (he2 x)
  have hlo2 : LoopOk (FN.inRound l) (Ctx.apart (heapL (HL z)) φ F W C.nt) := by
   intro l' hl'
   obtain rfl : l = l' := by simpa [Fence.inRound] using hl'
   refine ⟨⟨r, hl⟩, fun hg => ?_⟩
   rcases (s.owned hg).2 with ⟨cells, t, hc⟩ | ⟨es, t, hc⟩
   · rw [hl] at hc; cases hc
   · rw [hl] at hc; cases hc
  refine wpIn_mono (round _ (dom_apart s.free) pre x z hB hlen hmx (FN.inRound l) k ⟨fenceOk_inRound hok l k, hlo2⟩ cb hcb _ W ⟨F, φ, s3⟩) ?_
  rintro ex a3 W3 ⟨n', e', h', ⟨hex, z', ρ, hB', hρ, hinj, hEq, hHq⟩, F', φ', s4⟩
  obtain ⟨φ'', s5⟩ := (s.back s4).ren ρ hEq.mem hHq.mem hinj hdom hm hρ
  have hF' : ∀ x v, F1 x = some v → F' x = some v := fun x v hx => s4.ext x v (hF x v hx)
  rcases hex with rfl | rfl | ⟨id, rfl⟩
  · exact ⟨s.apart_keeps s4 (hnm' z) _, s.apart_kp s4 hF, z', hB', F', φ'', hF', s5⟩
  · exact ⟨s.apart_keeps s4 (hnm' z) _, .ret, z', .inl ⟨rfl, rfl⟩, hB', F', φ'', s5⟩
  · exact ⟨s.apart_keeps s4 (hnm' z) _, .exit id, z', .inr ⟨id, rfl, rfl⟩, hB', F', φ'', s5⟩
 have hKb : ∀ (W : World) (l : Nat) (o o' : Obj), w.heap.size ≤ l → W.heap[l]? = some o → o.isCells = false → o.isWalk = false → KpF F1 W (W.putObj l o') := fun W l o o' _ hl ho _ => KpF.grown (grownBy_putObj' W l o') fun r hr => by cases hr; exact ⟨o, hl, ho⟩
 have hps : ∀ x, ((encs x).toArray).size = ps'.size := fun x => by have := henc x; simpa using this
 have hfin : ∀ (a' : Act) (c : Code) (ex : Exit) (W : World), ((c = .ret ∧ ex = .ret) ∨ ∃ id, c = .exit id ∧ ex = .exit id) → PostA C Q ex a' W → ∀ k, c.wpIn FN k P (PostA C Q) a' W := by
  rintro a' c ex W (⟨rfl, rfl⟩ | ⟨id, rfl, rfl⟩) hq k
  · exact wpIn_ret hq
  · exact wpIn_exit hq
 refine wpIn_any hok.depth (m + 1) ?_
 cases hro : FN.round with
 | none =>
   have hnew : ∀ (D : Nat) {W : World} {F : Froz} {φ : Locs} {hh : Heap}, w.heap.size ≤ D → W.heap[D]? = some (.deferred (some [])) → St' C (fun i => N ≤ i) (envL L) hh F φ a W → St' C (fun i => N ≤ i) (envL L) hh F φ { a with defers := { target := .collected D, args := #[] } :: a.defers } W := by
    intro D W F φ hh hD hd s
    refine s.turned (World.grownBy_refl W) (fun r hr => by cases hr) (.inr fun r es t hr => by cases hr) rfl ⟨List.nodup_cons.2 ⟨fun hin => ?_, s.marks.nd⟩, fun d hd' => ?_⟩
    · have := hmk _ hin D rfl; omega
    · rcases List.mem_cons.1 hd' with rfl | hd'
      · exact ⟨D, rfl, Nat.le_trans s1.size hD, hd⟩
      · exact s.marks.all d hd'
   refine wpIn_rangeFunc_ownH hro (by omega) hlb (hok.fn g) eg (hcon' _) (fun h k => h.trans k) hKb (Below.refl _ _) hps I Ix hI hIx hI0 Ax (fun x a' _ W W' row h _ _ => h) (fun l => hassign _ l) (fun l pre x a' W _ hl hi hx hlen => hround _ l pre x a' W hl hi hx hlen) ?_ ?_
   · rintro D xs W hD hS ⟨z, hB, F, φ, _, s⟩ hd
     exact ⟨N, _, _, done xs z hS hB, F, φ, hnew D hD hd s⟩
   · rintro D c pre W hD hS ⟨ex, z, hcx, hB, F, φ, s⟩ hd
     refine hfin _ c ex W hcx ⟨N, _, _, stop ex pre z hS hB ?_, F, φ, hnew D hD hd s⟩ _
     rcases hcx with ⟨_, h⟩ | ⟨id, _, h⟩
     · exact .inl h
     · exact .inr ⟨id, h⟩
 | some l₀ =>
   obtain ⟨⟨r₀, hr₀⟩, hg₀⟩ := hlo l₀ hro
   have hw₀ : w.heap[l₀]? = some (.loop r₀) := (s1.kept l₀ (Array.getElem?_eq_some_iff.1 hr₀).1 hg₀).trans hr₀
   refine wpIn_rangeFunc_ownN hro hw₀ (by omega) hlb (hok.fn g) eg (hcon' _) (fun h k => h.trans k) hKb (Below.refl _ _) hps I Ix hI hIx hI0 Ax (fun x a' _ W W' row h _ _ => h) (fun l => hassign _ l) (fun l pre x a' W _ hl hi hx hlen => hround _ l pre x a' W hl hi hx hlen) ?_ ?_
   · rintro xs W hS ⟨z, hB, F, φ, _, s⟩
     exact ⟨N, _, _, done xs z hS hB, F, φ, s⟩
   · rintro c pre W hS ⟨ex, z, hcx, hB, F, φ, s⟩
     refine hfin _ c ex W hcx ⟨N, _, _, stop ex pre z hS hB ?_, F, φ, s⟩ _
     rcases hcx with ⟨_, h⟩ | ⟨id, _, h⟩
     · exact .inl h
     · exact .inr ⟨id, h⟩
end
end Go.Proofs.YtbmhdpflloepkaaDoor

namespace Go.Proofs.YtbmhdpflloepkaaDoor
open Go.RowKit
set_option linter.unusedVariables false
set_option linter.unusedSimpArgs false

def AOp.quietB : AOp → Bool
 | .mov _ | .bin _ .num _ _ | .una _ _ | .faddr _ _ | .load false 1 _ | .len _ | .iaddr _ _ _ => true
 | _ => false

def qEval (op : AOp) (e : Env) : Option PV :=
 match op with
 | .mov x => ev e x
 | .bin op .num x y => match ev e x, ev e y with
   | some (.val a), some (.val b) => (sbin op a b).map .val
   | _, _ => none
 | .una op x => match ev e x with
   | some p => puna op p
   | none => none
 | .faddr off x => match ev e x with
   | some (.cp l) => some (.cp (l.drop off))
   | _ => none
 | .load false 1 x => match ev e x with
   | some (.cp (p :: _)) => some p
   | _ => none
 | .len x => match ev e x with
   | some (.vec l _) => some (.val (.int .i64 l.length))
   | _ => none
 | .iaddr esz x i => match ev e x, ev e i with
   | some (.vec l _), some (.val (.int _ n)) => if 0 ≤ n ∧ n < (l.length : Int) then
      (if (l.getD n.toNat []).length = esz then some (.cp (l.getD n.toNat [])) else none) else none
   | _, _ => none
 | _ => none

section
variable {P : Program} {F : Froz} {a : Act} {w : World} {e : Env} {nt : Nat}

structure Slots (nt : Nat) (F : Froz) (e : Env) (a : Act) : Prop where
 sz : a.tmps.size = nt
 nd : a.defers = []
 env : ∀ k p, e k = some p → k < nt ∧ Rep F noLoc (a.tmps.getD k undef) p

theorem Slots.eval (s : Slots nt F e a) (hF : Holds F w) {x : Operand} {p : PV} (hx : ev e x = some p) : Rep F noLoc (a.eval x) p := by
 cases x with
 | tmp t => exact (s.env t p (by simpa [ev] using hx)).2
 | const v => obtain rfl : pvOf v = p := by simpa [ev] using hx
              exact pvOf_rep v
 | global g =>
   simp only [ev] at hx
   split at hx
   · cases hx; exact .val _
   · rename_i v l hg
     cases hx
     have hlen : (zpv (v :: l)).length = (v :: l).length := by simp [zpv]
     refine .cp ⟨g, 0, none⟩ (zpv (v :: l)) (fun j => (v :: l).getD j undef) rfl (fun j hj => ?_) (fun j hj => ?_)
     · have hj' : j < (v :: l).length := by rw [← hlen]; exact hj
       have e1 : (globs g)[j]? = some ((v :: l).getD j undef) := by rw [hg, List.getD_eq_getElem?_getD, List.getElem?_eq_getElem hj']; rfl
       have := hF.2 g j _ e1
       rw [Nat.zero_add]
       exact this
     · have hj' : j < (v :: l).length := by rw [← hlen]; exact hj
       have e2 : (zpv (v :: l)).getD j pvu = pvOf ((v :: l).getD j undef) := by
        simp only [zpv, List.getD_eq_getElem?_getD, List.getElem?_map, List.getElem?_eq_getElem hj', Option.map_some, Option.getD_some]
       rw [e2]
       exact pvOf_rep _
 | func f => obtain rfl : _ = p := by simpa [ev] using hx
             exact .fn f #[] [] rfl (fun i hi => absurd hi (by simp))

theorem Slots.put (s : Slots nt F e a) {d : Nat} {v : Value} {p : PV} (hd : d < nt) (hr : Rep F noLoc v p) : Slots nt F (e.upd d p) (a.put (some d) v) := by
 refine ⟨by simp [Act.put, s.sz], s.nd, fun k q hq => ?_⟩
 simp only [Act.put]
 rw [getD_setIfInBounds _ _ _ _ (by rw [s.sz]; exact hd)]
 by_cases hk : k = d
 · subst hk
   rw [Env.upd_same] at hq
   obtain rfl : p = q := by simpa using hq
   simpa using ⟨hd, hr⟩
 · rw [Env.upd_ne _ _ hk] at hq
   simpa [hk] using s.env k q hq
theorem Slots.putO (s : Slots nt F e a) {d : Option Nat} {v : Value} {p : PV} (hd : dstOk nt d = true) (hr : Rep F noLoc v p) : Slots nt F (updO e d p) (a.put d v) := by
 cases d with
 | none => exact s
 | some d => exact s.put (by simpa [dstOk] using hd) hr

theorem quiet_sound {o : Oper} {op : AOp} (hc : cOp P o = some op) (s : Slots nt F e a) (hF : Holds F w) {p : PV} (hq : qEval op e = some p) : ∃ val, (execOp a.eval o).run P w = .ok (.value val) w ∧ Rep F noLoc val p := by
 unfold cOp at hc
 split at hc
 case h_1 x ho =>
  cases hc
  exact ⟨_, by simp [execOp, ho], s.eval hF hq⟩
 case h_2 x ho =>
  cases hc
  exact ⟨_, by simp [execOp, ho], s.eval hF hq⟩
 case h_4 bop t x y yt ho =>
  have key : op = .bin bop .num x y → ∃ val, (execOp a.eval o).run P w = .ok (.value val) w ∧ Rep F noLoc val p := by
   rintro rfl
   simp only [qEval] at hq
   split at hq
   case h_2 => cases hq
   rename_i va vb hx hy
   have ha := (s.eval hF hx).val_inv
   have hb := (s.eval hF hy).val_inv
   cases hs : sbin bop va vb with
   | none => simp [hs] at hq
   | some r =>
     obtain rfl : PV.val r = p := by simpa [hs] using hq
     have hrun := sbin_run (P := P) (w := w) (t := t) (x := x) (y := y) hs
     have hex : execOp a.eval o = (do pure (.value (← (do eqGuard bop t x y (a.eval x) (a.eval y); binOp bop t (a.eval x) (a.eval y) : Sem Value)))) := by simp only [execOp, ho]
     exact ⟨r, by rw [hex, ha, hb, Sem.run_bind, hrun]; rfl, .val _⟩
  (repeat' (split at hc)) <;> first | (cases hc; exact key rfl) | (cases hc; simp [qEval] at hq; done) | (cases hc; done)
 case h_5 uop t x ho =>
  cases hc
  simp only [qEval] at hq
  split at hq
  case h_2 => cases hq
  rename_i q hx
  obtain ⟨val, hrun, hrep⟩ := puna_run (P := P) (w := w) (s.eval hF hx) hq
  exact ⟨val, by simp [execOp, ho, hrun], hrep⟩
 case h_11 t x ho =>
  have hex : execOp a.eval o = (do pure (.value (← Instr.loadAt t (a.eval x)))) := by simp [execOp, ho]
  cases hl : layOf P t with
  | none => simp [hl] at hc
  | some l =>
    obtain rfl : AOp.load l.1 l.2 x = op := by simpa [hl] using hc
    obtain ⟨agg, size⟩ := l
    cases agg with
    | true => simp [qEval] at hq
    | false =>
      obtain ⟨rfl, _⟩ := layOf_one hl
      simp only [qEval] at hq
      split at hq
      case h_2 => cases hq
      rename_i p' l hx
      cases hq
      obtain ⟨ad, cs, hv, hs, hFc, hR⟩ := (s.eval hF hx).cp_inv
      have hcut : cutAt false 1 0 (p :: l) = some p := by simp [cutAt]
      obtain ⟨val, hr, hrep⟩ := load_cut (w := w) hl hs hcut (fun j hj => by
       obtain rfl : j = 0 := by omega
       exact ⟨cs 0, (hF.1 _ _ (hFc 0 (by simp))).2.2, (hF.1 _ _ (hFc 0 (by simp))).2.1, hR 0 (by simp)⟩)
      exact ⟨val, by rw [hex]; simp [Instr.loadAt, hv, Instr.sureAddr, hr], hrep⟩
 case h_14 t x i ho =>
  have hex : execOp a.eval o = (do pure (.value (← Instr.fieldAt t (a.eval x) i))) := by simp [execOp, ho]
  split at hc
  case h_2 => simp at hc
  rename_i fs hu
  split at hc
  case h_2 => simp at hc
  rename_i f hf
  split at hc
  case h_2 => simp at hc
  rename_i inf hi
  split at hc
  case isFalse => simp at hc
  rename_i hp
  cases hc
  simp only [qEval] at hq
  split at hq
  case h_2 => cases hq
  rename_i l hl
  cases hq
  have hne : inf.size ≠ 0 := by omega
  have hfp : ∀ ad : Addr, (fieldPlace ad f).run P w = .ok (ad.add f.offset) w := fun ad => by
   simp [fieldPlace, run_sizeOf_of hi, hne]
  obtain ⟨ad, cs, hv, hs, hFc, hR⟩ := (s.eval hF hl).cp_inv
  refine ⟨.pointer (some (ad.add f.offset)), by rw [hex]; simp [Instr.fieldAt, run_underlying hu, hf, hv, Instr.sureAddr, hfp], ?_⟩
  rw [add_none _ _ hs]
  refine .cp _ _ (fun j => cs (f.offset + j)) rfl (fun j hj => ?_) (fun j hj => ?_)
  · have : f.offset + j < l.length := by simp at hj; omega
    simpa [Nat.add_assoc] using hFc _ this
  · have : f.offset + j < l.length := by simp at hj; omega
    simpa [List.getD_eq_getElem?_getD] using hR _ this
 case h_16 t x i ho =>
  have hex : execOp a.eval o = (do pure (.value (← Instr.indexAt t (a.eval x) (a.eval i)))) := by simp [execOp, ho]
  split at hc
  · rename_i el hu
    have hel : P.elem t = el := by simp [Program.elem, hu]
    have hu' : P.underlying t = some (.slice (P.elem t)) := by rw [hel]; exact hu
    cases hi : P.info? el with
    | none => simp [hi] at hc
    | some inf =>
      obtain rfl : AOp.iaddr inf.size x i = op := by simpa [hi] using hc
      simp only [qEval] at hq
      split at hq
      case h_2 => cases hq
      rename_i l full k n hx hn
      split at hq
      case isFalse => cases hq
      rename_i hb
      split at hq
      case isFalse => cases hq
      rename_i hlen
      cases hq
      have hvn := (s.eval hF hn).val_inv
      have hlt : n.toNat < l.length := by omega
      rcases (s.eval hF hx).vec_inv with ⟨rfl, _⟩ | ⟨ad, cap, esz, cs, hv, hs, hcap, _, _, he, hFc, hR⟩
      · simp at hlt
      have hesz : esz = inf.size := by rw [← hlen]; exact (he _ hlt).symm
      subst hesz
      refine ⟨.pointer (some (ad.add (n.toNat * inf.size))), by
       rw [hex, hv, hvn, Sem.run_bind, run_indexAt_slice w t ad l.length cap k n hu', if_pos hb, hel, run_sizeOf_of hi]; rfl, ?_⟩
      rw [add_none _ _ (hs (by rintro rfl; simp at hlt))]
      refine .cp _ _ (fun j => cs n.toNat j) rfl (fun j hj => ?_) (fun j hj => ?_)
      · have := hFc n.toNat j hlt (by omega)
        simpa [Nat.add_assoc] using this
      · exact hR n.toNat j hlt (by omega)
  · simp only [Option.map_eq_some_iff] at hc
    obtain ⟨_, _, rfl⟩ := hc
    simp [qEval] at hq
  · cases hc
 case h_25 c ho =>
  split at hc
  · cases hc; simp [qEval] at hq
  · rename_i hcal
    split at hc
    case h_2 => simp at hc
    rename_i t x ht hx
    have ha : c.args = #[x] := list1 hx
    have hat : c.argTypes = #[t] := list1 ht
    have hex : execOp a.eval o = (do pure (.value (← Builtin.len_ #[t] o.type #[a.eval x]))) := by simp [execOp, ho, resolve, hcal, invoke, builtin, ha, hat]
    split at hc
    · rename_i el hu
      cases hc
      simp only [qEval] at hq
      split at hq
      case h_2 => cases hq
      rename_i l full hxl
      cases hq
      rcases (s.eval hF hxl).vec_inv with ⟨rfl, hv⟩ | ⟨ad, cap, esz, cs, hv, _⟩
      · exact ⟨.int .i64 0, by rw [hex]; simp [Builtin.len_, run_underlying hu, hv, goInt], .val _⟩
      · exact ⟨.int .i64 l.length, by rw [hex]; simp [Builtin.len_, run_underlying hu, hv, goInt], .val _⟩
    all_goals ((repeat' (split at hc)) <;> first
    | (cases hc; done)
    | (cases hc; simp [qEval] at hq; done)
    | (simp at hc; done)
    | (simp only [Option.map_eq_some_iff] at hc; obtain ⟨_, _, rfl⟩ := hc; simp [qEval] at hq; done))
  all_goals ((repeat' (split at hc)) <;> first
   | (cases hc; done)
   | (cases hc; simp [qEval] at hq; done)
   | (simp at hc; done)
   | (simp only [Option.map_eq_some_iff] at hc; obtain ⟨_, _, rfl⟩ := hc; simp [qEval] at hq; done))
 all_goals ((repeat' (split at hc)) <;> first
  | (cases hc; done)
  | (cases hc; simp [qEval] at hq; done)
  | (simp at hc; done)
  | (simp only [Option.map_eq_some_iff] at hc; obtain ⟨_, _, rfl⟩ := hc; simp [qEval] at hq; done))
end

structure JC (α : Type) where
 FN : Fence
 m : Nat
 nt : Nat
 F : Froz
 B : Nat
 K : Bool → List α → World → Prop
 l : Nat
 N : Nat
 encs : α → List Value
 Sp : List α → Prop

structure JC.Ok {α : Type} (Y : JC α) (P : Program) : Prop where
 fence : FenceOk Y.FN Y.m
 round : Y.FN.round = none
 grow : ∀ b pre W W', Y.K b pre W → W.grownBy W' none → Y.K b pre W'
 yield : ∀ pre x W, Y.K true pre W → pre.length < Y.N → YieldAt Y.FN (Y.m - 1) P Y.l (Y.encs x).toArray W fun e W' =>
  (e = .returned (.bool true) ∧ Y.K true (pre ++ [x]) W' ∧ KpF Y.F W W') ∨ (e = .returned (.bool false) ∧ Y.K false (pre ++ [x]) W')

section
variable {α : Type} {P : Program} {Y : JC α}

def JSt (Y : JC α) (b : Bool) (pre : List α) (e : Env) (a : Act) (w : World) : Prop := Slots Y.nt Y.F e a ∧ Holds Y.F w ∧ Y.K b pre w
def PostJ (Y : JC α) (Q : Exit → List α → Env → Prop) (x : Exit) (a : Act) (w : World) : Prop := (∃ pre e, Q x pre e ∧ JSt Y true pre e a w) ∨ (x = .ret ∧ ∃ pre, Y.Sp pre ∧ Y.K false pre w ∧ a.defers = [])

def jw (P : Program) (Y : JC α) (ac : ACode) (Q : Exit → List α → Env → Prop) (pre : List α) (e : Env) : Prop :=
 Y.Ok P → ∀ c, cCode P Y.nt c = some ac → ∀ a w, JSt Y true pre e a w → c.wpIn Y.FN Y.m P (PostJ Y Q) a w

def jthen (next : List α → Env → Prop) (Q : Exit → List α → Env → Prop) : Exit → List α → Env → Prop
 | .normal => next
 | x => Q x
def jblock (id : Nat) (Q : Exit → List α → Env → Prop) : Exit → List α → Env → Prop
 | .exit id' => bif Nat.beq id' id then Q .normal else Q (.exit id')
 | x => Q x

variable {Q : Exit → List α → Env → Prop} {pre : List α} {e : Env}

theorem jw_skip (hk : Q .normal pre e) : jw P Y .skip Q pre e := by
 intro hY c hc a w hs
 have : c = .skip := by
  unfold cCode at hc
  split at hc <;> first | rfl | (simp at hc; done) | ((repeat' (split at hc)) <;> simp at hc)
 subst this
 exact wpIn_skip (.inl ⟨pre, e, hk, hs⟩)
theorem jw_exit {id : Nat} (hk : Q (.exit id) pre e) : jw P Y (.exit id) Q pre e := by
 intro hY c hc a w hs
 have : c = .exit id := by
  unfold cCode at hc
  split at hc <;> first | (simp at hc; subst hc; rfl) | (simp at hc; done) | ((repeat' (split at hc)) <;> simp at hc)
 subst this
 exact wpIn_exit (.inl ⟨pre, e, hk, hs⟩)
theorem jw_ret (hk : Q .ret pre e) : jw P Y .ret Q pre e := by
 intro hY c hc a w hs
 have : c = .ret := by
  unfold cCode at hc
  split at hc <;> first | rfl | (simp at hc; done) | ((repeat' (split at hc)) <;> simp at hc)
 subst this
 exact wpIn_ret (.inl ⟨pre, e, hk, hs⟩)
theorem jw_seq {x y : ACode} (hk : jw P Y x (jthen (jw P Y y Q) Q) pre e) : jw P Y (.seq x y) Q pre e := by
 intro hY c hc a w hs
 have : ∃ c1 c2, c = .seq c1 c2 ∧ cCode P Y.nt c1 = some x ∧ cCode P Y.nt c2 = some y := by
  unfold cCode at hc
  split at hc <;> first
   | (split at hc <;> first | (simp at hc; obtain ⟨rfl, rfl⟩ := hc; exact ⟨_, _, rfl, by assumption, by assumption⟩) | (simp at hc; done) | ((repeat' (split at hc)) <;> simp at hc; done))
   | (simp at hc; done)
 obtain ⟨c1, c2, rfl, h1, h2⟩ := this
 refine wpIn_seq (wpIn_mono (hk hY c1 h1 a w hs) fun x a w hp => ?_)
 rcases hp with ⟨pre, e, hQ, hS⟩ | ⟨rfl, hS⟩
 · cases x with
   | normal => exact hQ hY c2 h2 a w hS
   | _ => exact .inl ⟨pre, e, hQ, hS⟩
 · exact .inr ⟨rfl, hS⟩
theorem jw_cond {c : Operand} {x y : ACode} {b : Bool} (hc : ev e c = some (.val (.bool b))) (ht : b = true → jw P Y x Q pre e) (hf : b = false → jw P Y y Q pre e) : jw P Y (.cond c x y) Q pre e := by
 intro hY cc hcc a w hs
 have : ∃ c1 c2, cc = .cond c c1 c2 ∧ cCode P Y.nt c1 = some x ∧ cCode P Y.nt c2 = some y := by
  unfold cCode at hcc
  split at hcc <;> first
   | (split at hcc <;> first | (simp at hcc; obtain ⟨rfl, rfl, rfl⟩ := hcc; exact ⟨_, _, rfl, by assumption, by assumption⟩) | (simp at hcc; done) | ((repeat' (split at hcc)) <;> simp at hcc; done))
   | (simp at hcc; done)
 obtain ⟨c1, c2, rfl, h1, h2⟩ := this
 refine wpIn_cond_split (hs.1.eval hs.2.1 hc).val_inv (fun hb => ht hb hY c1 h1 a w hs) (fun hb => hf hb hY c2 h2 a w hs)
theorem jw_block {id : Nat} {x : ACode} (hk : jw P Y x (jblock id Q) pre e) : jw P Y (.block id x) Q pre e := by
 intro hY c hc a w hs
 have : ∃ c1, c = .block id c1 ∧ cCode P Y.nt c1 = some x := by
  unfold cCode at hc
  split at hc <;> first
   | (split at hc <;> first | (simp at hc; obtain ⟨rfl, rfl⟩ := hc; exact ⟨_, rfl, by assumption⟩) | (simp at hc; done) | ((repeat' (split at hc)) <;> simp at hc; done))
   | (simp at hc; done)
 obtain ⟨c1, rfl, h1⟩ := this
 refine wpIn_block (wpIn_mono (hk hY c1 h1 a w hs) fun x a w hp => ?_)
 rcases hp with ⟨pre, e, hQ, hS⟩ | ⟨rfl, hS⟩
 · cases x with
   | exit id' =>
     simp only [jblock] at hQ
     simp only [Exit.inBlock]
     by_cases hid : id' = id
     · subst hid
       have hb : Nat.beq id' id' = true := by simp
       rw [hb] at hQ
       rw [if_pos rfl]
       exact .inl ⟨pre, e, hQ, hS⟩
     · have hb : Nat.beq id' id = false := Bool.eq_false_iff.2 fun hb => hid (Nat.eq_of_beq_eq_true hb)
       rw [hb] at hQ
       rw [if_neg hid]
       exact .inl ⟨pre, e, hQ, hS⟩
   | _ => exact .inl ⟨pre, e, hQ, hS⟩
 · exact .inr ⟨rfl, hS⟩
theorem jst_env {L : List (Nat × PV)} {b : Bool} (he : EnvIn e L) {a : Act} {w : World} (hs : JSt Y b pre e a w) : JSt Y b pre (envL L) a w := ⟨⟨hs.1.sz, hs.1.nd, fun k p hk => hs.1.env k p (he.some hk)⟩, hs.2⟩
theorem jw_loop {X : Type} (I : X → Prop) (μ : X → Nat) (R : X → List α) (L : X → List (Nat × PV)) {body : ACode} (x0 : X) (h0 : I x0) (hR : R x0 = pre) (hL : EnvIn e (L x0))
 (round : ∀ x, I x → jw P Y body (jthen (fun pre' e' => ∃ x', I x' ∧ μ x' < μ x ∧ R x' = pre' ∧ EnvIn e' (L x')) Q) (R x) (envL (L x))) : jw P Y (.loop body) Q pre e := by
 intro hY c hc a w hs
 have : ∃ c1, c = .loop c1 ∧ cCode P Y.nt c1 = some body := by
  unfold cCode at hc
  split at hc <;> first
   | (split at hc <;> first | (simp at hc; subst hc; exact ⟨_, rfl, by assumption⟩) | (simp at hc; done) | ((repeat' (split at hc)) <;> simp at hc; done))
   | (simp at hc; done)
 obtain ⟨c1, rfl, h1⟩ := this
 let p : Act → World → Nat → Prop := fun a w k => ∃ x, I x ∧ μ x = k ∧ JSt Y true (R x) (envL (L x)) a w
 refine wpIn_loop (fun a w => ∃ k, p a w k) (fun a w => least (p a w)) ⟨_, x0, h0, rfl, by rw [hR]; exact jst_env hL hs⟩ ?_
 rintro a w ⟨k, hk⟩
 obtain ⟨⟨x, hx, hxk, hst⟩, _⟩ := least_spec hk
 refine wpIn_mono (round x hx hY c1 h1 a w hst) fun ex a' w' hp => ?_
 rcases hp with ⟨pre', e', hQ, hS⟩ | ⟨rfl, hS⟩
 · cases ex with
   | normal =>
     obtain ⟨x', hx', hlt, rfl, hE⟩ := hQ
     have hp' : p a' w' (μ x') := ⟨x', hx', rfl, jst_env hE hS⟩
     refine ⟨⟨_, hp'⟩, ?_⟩
     have := (least_spec hp').2
     omega
   | _ => exact .inl ⟨pre', e', hQ, hS⟩
 · exact .inr ⟨rfl, hS⟩

def jops (P : Program) (Y : JC α) : List AOper → List α → Env → (List α → Env → Prop) → Prop
 | [], pre, e, K => K pre e
 | o :: os, pre, e, K => o.guard = none ∧ ((∃ p, qEval o.op e = some p ∧ jops P Y os pre (updO e o.dst p) K) ∨
     (∃ f args g caps as0 v, o.op = .call f args ∧ ev e f = some (.fn g caps) ∧ evs e args = some as0 ∧ pureL (as0 ++ caps) ∧ Spec P g (as0 ++ caps) (· = .val v) ∧ jops P Y os pre (updO e o.dst (.val v)) K))

theorem jops_q {os : List AOper} {d : Option Nat} {op : AOp} {p : PV} {K : List α → Env → Prop} (hq : qEval op e = some p) (hk : jops P Y os pre (updO e d p) K) : jops P Y (⟨d, op, none⟩ :: os) pre e K := ⟨rfl, .inl ⟨p, hq, hk⟩⟩
theorem jops_call {os : List AOper} {d : Option Nat} {f : Operand} {args : List Operand} {g : FuncId} {caps as0 args' : List PV} {v : Value} {K : List α → Env → Prop} (hs : Spec P g args' (· = .val v)) (hf : ev e f = some (.fn g caps)) (ha : evs e args = some as0) (hr : as0 ++ caps = args') (hp : pureL args') (hk : jops P Y os pre (updO e d (.val v)) K) : jops P Y (⟨d, .call f args, none⟩ :: os) pre e K := by
 subst hr
 exact ⟨rfl, .inr ⟨f, args, g, caps, as0, v, rfl, hf, ha, hp, hs, hk⟩⟩
theorem jops_done {K : List α → Env → Prop} (hk : K pre e) : jops P Y [] pre e K := hk

theorem Below.grownN {A B : World} (h : Below A.heap.size A B) : A.grownBy B none := ⟨h.os, h.tape, h.output, h.size, fun j hj _ => h.block j hj⟩

theorem jcall_args {b : Bool} {a : Act} {w : World} (hs : JSt Y b pre e a w) {f : Operand} {args : Array Operand} {g : Nat} {caps as0 : List PV} (hf : ev e f = some (.fn g caps)) (has : evs e args.toList = some as0) : ∃ vs, a.eval f = .func (.func g) #[] vs ∧ RepL Y.F noLoc (args.map a.eval ++ vs) (as0 ++ caps) := by
 let C : Ctx := ⟨w, fun _ => False, Y.F, Y.nt, fun _ => none⟩
 have s0 : St' C (fun _ => True) e (fun _ => none) Y.F noLoc a w := by
  refine { nt := hs.1.sz, glob := hs.2.1.2, marks := Marks.nil hs.1.nd, loc0 := fun i x hx => (by cases hx), free := fun _ _ => rfl, env := hs.1.env, froz := hs.2.1.1, ext := fun _ _ h => h, old := fun _ _ _ => rfl, os := rfl, tape := rfl, output := rfl, size := Nat.le_refl _, kept := fun _ _ _ => rfl,
           live := fun id b hb => (by cases hb), sep := fun i j bi bj li lj k hi => (by cases hi) }
 exact args_rep s0 hf has

theorem jops_sound (hY : Y.Ok P) {ops : Array Oper} {K : List α → Env → Prop} : ∀ {l : List Oper} {al : List AOper}, cOpers P Y.nt ops l = some al → ∀ {pre : List α} {e : Env} {a : Act} {w : World}, JSt Y true pre e a w → jops P Y al pre e K →
 ∀ {QQ : Exit → Act → World → Prop}, (∀ pre e a w, K pre e → JSt Y true pre e a w → QQ .normal a w) → wpListIn Y.FN Y.m P ops QQ l a w := by
 intro l
 induction l with
 | nil =>
   intro al hc pre e a w hs hk QQ hQ
   obtain rfl : [] = al := by simpa [cOpers] using hc
   exact hQ pre e a w hk hs
 | cons o r ih =>
   intro al hc pre e a w hs hk QQ hQ
   simp only [cOpers] at hc
   split at hc
   case h_2 => simp at hc
   rename_i ao al' ho hl
   obtain rfl : ao :: al' = al := by simpa using hc
   unfold cOper at ho
   split at ho
   case h_2 => simp at ho
   rename_i op g hop hg
   split at ho
   case isFalse => simp at ho
   rename_i hdst
   cases ho
   simp only [jops] at hk
   obtain ⟨hgn, hk⟩ := hk
   subst hgn
   have hgo : o.guard = none := by
    unfold cGuard at hg
    split at hg
    · assumption
    · split at hg
      · split at hg
        · cases hg
        · cases hg
      · cases hg
   simp only [wpListIn]
   rw [if_pos (by simp [Region.wanted, hgo])]
   refine ⟨fun f _ => hY.fence.fn f, ?_⟩
   rw [Oper.semAt_eq Y.FN.round a.eval o (cOp_defer hop)]
   rcases hk with ⟨p, hq, hk⟩ | ⟨f, args, g, caps, as0, v, hop', hf, has, hp, hsp, hk⟩
   · obtain ⟨val, hr, hrep⟩ := quiet_sound hop hs.1 hs.2.1 hq
     rw [hr]
     exact ih hl ⟨hs.1.putO hdst hrep, hs.2⟩ hk hQ
   · subst hop'
     obtain ⟨⟨fn, hfn, hname, hbody⟩, hspec⟩ := hsp
     obtain ⟨c, hoc, hcal, hargs⟩ := cOp_call hop
     subst hargs
     obtain ⟨vs, hvf, hrep⟩ := jcall_args hs hf has
     have hrun : (execOp a.eval o).run P w = .ok (.enter g (c.args.map a.eval ++ vs)) w := by
      have h1 : ¬ fn.name = "runtime.NumGoroutine" := by simpa using hname
      have h2 : ¬ fn.body = none := fun h => by rw [h] at hbody; simp at hbody
      simp [execOp, hoc, resolve, hcal, hvf, Deferred.ofValue, invoke, callFunc, hfn, h1, h2]
     rw [hrun]
     refine ⟨fun hd => by rw [hY.fence.depth] at hd; simp at hd, hY.fence.calls _ _ _ _ _ ((hspec Y.F w _ hs.2.1 hrep).mono ?_)⟩
     rintro en w' ⟨v', r', F', rfl, rfl, hvr, hbel, hF', hext, hold⟩
     obtain rfl : v' = v := hvr.val_inv
     refine ih hl ⟨hs.1.putO hdst (.val _), ⟨fun x u hx => ⟨(hs.2.1.1 x u hx).1, (hs.2.1.1 x u hx).2.1, (hF'.1 x u (hext x u hx)).2.2⟩, hs.2.1.2⟩, hY.grow _ _ _ _ hs.2.2 (Below.grownN hbel)⟩ hk hQ

theorem jw_regionC {al : List AOper} {c : Code} (h : cCode P Y.nt c = some (.region al)) : ∃ id ops, c = .region id ops false ∧ cOpers P Y.nt ops ops.toList = some al := by
 unfold cCode at h
 split at h <;> first
  | (simp at h; done)
  | (split at h
     · split at h
       · simp at h; subst h; exact ⟨_, _, rfl, by assumption⟩
       · split at h <;> simp at h
     · simp at h)
  | (split at h <;> simp at h; done)
  | ((repeat' (split at h)) <;> simp at h; done)

theorem jw_region {al : List AOper} (hk : jops P Y al pre e (fun pre e => Q .normal pre e)) : jw P Y (.region al) Q pre e := by
 intro hY c hc a w hs
 obtain ⟨id, ops, rfl, h1⟩ := jw_regionC hc
 exact wpIn_region_list (jops_sound hY h1 hs hk fun pre e a w hK hS => .inl ⟨pre, e, hK, hS⟩)

theorem cOpers_append (ops : Array Oper) {l : List Oper} : ∀ {al bl : List AOper}, cOpers P Y.nt ops l = some (al ++ bl) → ∃ l1 l2, l = l1 ++ l2 ∧ cOpers P Y.nt ops l1 = some al ∧ cOpers P Y.nt ops l2 = some bl := by
 induction l with
 | nil =>
   intro al bl h
   simp [cOpers] at h
   obtain ⟨rfl, rfl⟩ := h
   exact ⟨[], [], rfl, rfl, rfl⟩
 | cons o r ih =>
   intro al bl h
   cases al with
   | nil => exact ⟨[], o :: r, rfl, rfl, h⟩
   | cons x al =>
     simp only [cOpers] at h
     split at h
     case h_2 => cases h
     rename_i a' l' h1 h2
     simp at h
     obtain ⟨rfl, rfl⟩ := h
     obtain ⟨l1, l2, rfl, g1, g2⟩ := ih h2
     exact ⟨o :: l1, l2, rfl, by simp [cOpers, h1, g1], g2⟩

theorem wpListIn_append {FN : Fence} {m : Nat} {ops : Array Oper} {QQ : Exit → Act → World → Prop} : ∀ {l1 l2 : List Oper} {a : Act} {w : World}, wpListIn FN m P ops (fun x a w => match x with | .normal => wpListIn FN m P ops QQ l2 a w | x => QQ x a w) l1 a w → wpListIn FN m P ops QQ (l1 ++ l2) a w
 | [], l2, a, w, h => h
 | o :: r, l2, a, w, h => by
   simp only [wpListIn, List.cons_append] at h ⊢
   split
   · rename_i hw
     rw [if_pos hw] at h
     obtain ⟨h1, h2⟩ := h
     refine ⟨h1, ?_⟩
     unfold Oper.uponIn at h2 ⊢
     split at h2
     · exact wpListIn_append h2
     · exact wpListIn_append h2
     · exact wpListIn_append h2
     · refine ⟨h2.1, h2.2.mono fun en w' hh => ?_⟩
       cases en with
       | returned v => exact wpListIn_append hh
       | panicked chain => exact hh
       | outgrown => exact hh
     · exact ⟨h2.1, h2.2.mono fun v w' hh => wpListIn_append hh⟩
     · refine ⟨h2.1, h2.2.mono fun en w' hh => ?_⟩
       cases en with
       | returned v => exact wpListIn_append hh
       | panicked chain => exact hh
       | outgrown => exact hh
     · exact h2
     · exact h2
   · rename_i hw
     rw [if_neg hw] at h
     exact ⟨h.1, wpListIn_append h.2⟩

theorem jw_yield (x : α) {al : List AOper} {d1 d2 : Nat} {f : Operand} {args : List Operand} (hk : jops P Y al pre e (fun pre' e' => pre' = pre ∧ ev e' f = some (.val (.func (.yield Y.l) #[] #[])) ∧ evs e' args = some ((Y.encs x).map .val) ∧ pre.length < Y.N ∧ Y.Sp (pre ++ [x]) ∧ Q .normal (pre ++ [x]) ((e'.upd d1 (.val (.bool true))).upd d2 (.val (.bool false))))) :
 jw P Y (.seq (.region (al ++ [⟨some d1, .call f args, none⟩, ⟨some d2, .una .not (.tmp d1), none⟩])) (.cond (.tmp d2) .ret .skip)) Q pre e := by
 intro hY c hc a w hs
 have : ∃ c1 c2, c = .seq c1 c2 ∧ cCode P Y.nt c1 = some (.region (al ++ [⟨some d1, .call f args, none⟩, ⟨some d2, .una .not (.tmp d1), none⟩])) ∧ cCode P Y.nt c2 = some (.cond (.tmp d2) .ret .skip) := by
  unfold cCode at hc
  split at hc <;> first
   | (split at hc <;> first | (simp at hc; obtain ⟨rfl, rfl⟩ := hc; exact ⟨_, _, rfl, by assumption, by assumption⟩) | (simp at hc; done) | ((repeat' (split at hc)) <;> simp at hc; done))
   | (simp at hc; done)
 obtain ⟨c1, c2, rfl, h1, h2⟩ := this
 have : ∃ k1 k2, c2 = .cond (.tmp d2) k1 k2 ∧ cCode P Y.nt k1 = some .ret ∧ cCode P Y.nt k2 = some .skip := by
  unfold cCode at h2
  split at h2 <;> first
   | (split at h2 <;> first | (simp at h2; obtain ⟨rfl, rfl, rfl⟩ := h2; exact ⟨_, _, rfl, by assumption, by assumption⟩) | (simp at h2; done) | ((repeat' (split at h2)) <;> simp at h2; done))
   | (simp at h2; done)
 obtain ⟨k1, k2, rfl, g1, g2⟩ := this
 have hk1 : k1 = .ret := by
  unfold cCode at g1
  split at g1 <;> first | rfl | (simp at g1; done) | ((repeat' (split at g1)) <;> simp at g1)
 have hk2 : k2 = .skip := by
  unfold cCode at g2
  split at g2 <;> first | rfl | (simp at g2; done) | ((repeat' (split at g2)) <;> simp at g2)
 subst hk1
 subst hk2
 obtain ⟨id, ops, rfl, hops⟩ := jw_regionC h1
 obtain ⟨l1, l2, hl, ho1, ho2⟩ := cOpers_append ops hops
 refine wpIn_seq (wpIn_region_list ?_)
 rw [hl]
 refine wpListIn_append (jops_sound hY ho1 hs hk fun pre' e' a' w' hK hS => ?_)
 obtain ⟨rfl, hf, has, hlen, hSp, hQ⟩ := hK
 cases l2 with
 | nil => simp [cOpers] at ho2
 | cons o r =>
   simp only [cOpers] at ho2
   split at ho2
   case h_2 => cases ho2
   rename_i ao al' ho hl2
   simp at ho2
   obtain ⟨rfl, rfl⟩ := ho2
   cases r with
   | nil => simp [cOpers] at hl2
   | cons o2 r2 =>
     simp only [cOpers] at hl2
     split at hl2
     case h_2 => cases hl2
     rename_i ao2 al2 hoo2 hl3
     simp at hl2
     obtain ⟨rfl, rfl⟩ := hl2
     have hr2 : r2 = [] := by
      cases r2 with
      | nil => rfl
      | cons x y => simp only [cOpers] at hl3; split at hl3 <;> simp at hl3
     subst hr2
     have dst : ∀ {oo : Oper} {d : Nat} {op : AOp}, cOper P Y.nt ops oo = some ⟨some d, op, none⟩ → oo.dst = some d ∧ d < Y.nt ∧ oo.guard = none ∧ cOp P oo = some op := by
      intro oo d op h
      unfold cOper at h
      split at h
      case h_2 => simp at h
      rename_i op' g hop hg
      split at h
      case isFalse => simp at h
      rename_i hd
      simp at h
      obtain ⟨hd1, rfl, rfl⟩ := h
      refine ⟨hd1, by rw [hd1] at hd; simpa [dstOk] using hd, ?_, hop⟩
      unfold cGuard at hg
      split at hg
      · assumption
      · split at hg
        · split at hg
          · cases hg
          · cases hg
        · cases hg
     obtain ⟨hd1, hlt1, hgd1, hop1⟩ := dst ho
     obtain ⟨hd2, hlt2, hgd2, hop2⟩ := dst hoo2
     obtain ⟨cc, hoc, hcal, hargs⟩ := cOp_call hop1
     have hun : ∃ uop t, o2.op = .unOp uop t (.tmp d1) ∧ uop = .not := by
      unfold cOp at hop2
      split at hop2 <;> first
       | (rename_i uop t x' ho'; simp at hop2; obtain ⟨rfl, rfl⟩ := hop2; exact ⟨_, _, ho', rfl⟩)
       | (simp at hop2; done)
       | ((repeat' (split at hop2)) <;> simp at hop2; done)
     obtain ⟨_, ut, hu2, rfl⟩ := hun
     have hvf := (hS.1.eval hS.2.1 hf).val_inv
     have hvs : cc.args.map a'.eval = (Y.encs x).toArray := by
      have hev : ∀ {xs : List Operand} {vs : List Value}, evs e' xs = some (vs.map .val) → xs.map a'.eval = vs := by
       intro xs
       induction xs with
       | nil => intro vs h; cases vs with
         | nil => rfl
         | cons _ _ => simp [evs] at h
       | cons y ys ih =>
         intro vs h
         simp only [evs] at h
         split at h
         case h_2 => cases h
         rename_i p l hp hl
         cases vs with
         | nil => simp at h
         | cons v vs =>
           simp at h
           obtain ⟨rfl, rfl⟩ := h
           simp only [List.map_cons]
           rw [(hS.1.eval hS.2.1 hp).val_inv, ih hl]
      have h0 := hev (xs := cc.args.toList) (by rw [hargs]; exact has)
      apply Array.ext'
      simpa using h0
     obtain ⟨fn, tmps, assign, body, hyr, hR⟩ := hY.yield pre' x w' hS.2.2 hlen
     have hrun : (execOp a'.eval o).run P w' = .ok (.round Y.l fn tmps assign body) w' := by
      have : execOp a'.eval o = Instr.yield Y.l (cc.args.map a'.eval) := by
       simp [execOp, hoc, resolve, hcal, hvf, Deferred.ofValue, invoke]
      rw [this, hvs]
      exact hyr
     simp only [wpListIn]
     rw [if_pos (by simp [Region.wanted, hgd1])]
     refine ⟨fun f _ => hY.fence.fn f, ?_⟩
     rw [Oper.semAt_eq Y.FN.round a'.eval o (cOp_defer hop1), hrun]
     refine ⟨fun hd => by rw [hY.fence.depth] at hd; simp at hd, hR.mono ?_⟩
     have step : ∀ (bb : Bool) (w3 : World), (wpListIn Y.FN Y.m P ops (Exit.then ((Code.cond (.tmp d2) .ret .skip).wpIn Y.FN Y.m P (PostJ Y Q)) (PostJ Y Q)) [] ((a'.put (some d1) (.bool bb)).put (some d2) (.bool (!bb))) w3) →
      wpListIn Y.FN Y.m P ops (Exit.then ((Code.cond (.tmp d2) .ret .skip).wpIn Y.FN Y.m P (PostJ Y Q)) (PostJ Y Q)) [o2] (a'.put o.dst (.bool bb)) w3 := by
      intro bb w3 h3
      simp only [wpListIn]
      rw [if_pos (by simp [Region.wanted, hgd2])]
      refine ⟨fun f _ => hY.fence.fn f, ?_⟩
      have hv1 : (a'.put o.dst (.bool bb)).eval (.tmp d1) = .bool bb := by
       rw [hd1]
       show (a'.tmps.setIfInBounds d1 (.bool bb)).getD d1 undef = .bool bb
       rw [getD_setIfInBounds _ _ _ _ (by rw [hS.1.sz]; exact hlt1)]
       simp
      have hex : (execOp (a'.put o.dst (.bool bb)).eval o2).run P w3 = .ok (.value (.bool (!bb))) w3 := by
       simp only [execOp, hu2, hv1]
       cases bb <;> simp [Op.unary]
      rw [Oper.semAt_eq Y.FN.round _ o2 (cOp_defer hop2), hex]
      simp only [Oper.uponIn]
      rw [hd2]
      rw [hd1]
      exact h3
     have ev2 : ∀ bb : Bool, ((a'.put (some d1) (.bool bb)).put (some d2) (.bool (!bb))).eval (.tmp d2) = .bool (!bb) := by
      intro bb
      show ((a'.tmps.setIfInBounds d1 (.bool bb)).setIfInBounds d2 (.bool (!bb))).getD d2 undef = .bool (!bb)
      rw [getD_setIfInBounds _ _ _ _ (by simp [hS.1.sz]; exact hlt2)]
      simp
     rintro en w3 (⟨rfl, hK, hkp⟩ | ⟨rfl, hK⟩)
     · refine step true w3 (wpIn_cond_split (t := false) (ev2 true) (fun h => by cases h) fun _ => wpIn_skip (.inl ⟨_, _, hQ, ?_, ?_, hK⟩))
       · exact (hS.1.put hlt1 (.val _)).put hlt2 (.val _)
       · exact ⟨fun y u hy => ⟨(hS.2.1.1 y u hy).1, (hS.2.1.1 y u hy).2.1, hkp.1 y u hy (hS.2.1.1 y u hy).2.2⟩, hS.2.1.2⟩
     · exact step false w3 (wpIn_cond_split (t := true) (ev2 false) (fun _ => wpIn_ret (.inr ⟨rfl, _, hSp, hK, hS.1.nd⟩)) fun h => by cases h)

theorem iter_intro {f nt : Nat} {ac : ACode} (hf : FnOk P f nt ac []) {caps : List PV} {encs : α → List Value} {S Sp : List α → Prop} {M : Nat} (hn : caps.length + 1 ≤ nt)
 (hk : ∀ Y : JC α, Y.N = M → Y.encs = encs → Y.Sp = Sp → Y.nt = nt → jw P Y ac (fun x pre _ => (x = .normal ∨ x = .ret) ∧ S pre) [] (argEnv (.val (.func (.yield Y.l) #[] #[]) :: caps))) : IterOk P f caps encs S Sp M := by
 obtain ⟨hm, fn, c, hfn, hname, hb, rfl, hc, hr⟩ := hf
 refine ⟨⟨fn, hfn, hname, by rw [hb]; rfl⟩, fun F w lb FN m hok hF hrep => ?_⟩
 intro l J Jx W hbel hJ hJx hyield h0
 have hres : fn.results = #[] := by
  cases hl : fn.results.toList with
  | nil => simpa using hl
  | cons r rs =>
    rw [hl] at hr
    simp only [cRess] at hr
    split at hr <;> simp at hr
 show CallsIn FN.plain m P f _ W _
 refine callsIn_of_wp hfn hb (hok.fn f) ?_ rfl
 let Y : JC α := ⟨FN.plain, m, fn.ntmps, F, W.heap.size, fun b pre W' => if b = true then J pre W' else Jx pre W', l, M, encs, Sp⟩
 have hY : Y.Ok P := by
  refine ⟨⟨hok.fn, hok.depth, fun P f args w R h => hok.calls P f args w R h⟩, rfl, ?_, ?_⟩
  · intro b pre W1 W2 hK hg
    cases b with
    | true => exact hJ pre W1 W2 none hK hg (fun r hr => by cases hr)
    | false => exact hJx pre W1 W2 none hK hg (fun r hr => by cases hr)
  · intro pre x W1 hK hlen
    obtain ⟨fn', tmps, assign, body, h1, h2⟩ := hyield pre x W1 hK hlen
    refine ⟨fn', tmps, assign, body, h1, ?_⟩
    have h2' := h2.mono (R' := fun e W' => (e = .returned (.bool true) ∧ Y.K true (pre ++ [x]) W' ∧ KpF Y.F W1 W') ∨ (e = .returned (.bool false) ∧ Y.K false (pre ++ [x]) W')) (fun en W' h => h)
    exact h2'
 have hsz : lb.size = caps.length := hrep.1
 have hFW : Holds F W := ⟨fun x v hx => by
  obtain ⟨g1, g2, g3⟩ := hF.1 x v hx
  exact ⟨g1, g2, by rw [World.cell?_of_block (w := w) (hbel.block x.block (block_lt_of_cell g3))]; exact g3⟩, hF.2⟩
 have hS : JSt Y true [] (argEnv (.val (.func (.yield l) #[] #[]) :: caps)) { tmps := (#[.func (.yield l) #[] #[]] ++ lb) ++ Array.replicate (fn.ntmps - (#[Value.func (.yield l) #[] #[]] ++ lb).size) undef, defers := [] } W := by
  refine ⟨⟨by simp [Y]; omega, rfl, fun k p hp => ?_⟩, hFW, h0⟩
  have hk : k < caps.length + 1 := by have := (List.getElem?_eq_some_iff.1 hp).1; simpa using this
  refine ⟨by simp only [Y]; omega, ?_⟩
  cases k with
  | zero =>
    simp [argEnv] at hp
    subst hp
    have e0 : ((#[Value.func (.yield l) #[] #[]] ++ lb) ++ Array.replicate (fn.ntmps - (#[Value.func (.yield l) #[] #[]] ++ lb).size) undef).getD 0 undef = .func (.yield l) #[] #[] := by
     simp only [Array.getD_eq_getD_getElem?]
     rw [Array.getElem?_append_left (by simp; omega), Array.getElem?_append_left (by simp)]
     rfl
    show Rep F noLoc (((#[Value.func (.yield l) #[] #[]] ++ lb) ++ Array.replicate (fn.ntmps - (#[Value.func (.yield l) #[] #[]] ++ lb).size) undef).getD 0 undef) _
    rw [e0]
    exact .val _
  | succ k =>
    have hk' : k < caps.length := by omega
    have e1 : ((#[Value.func (.yield l) #[] #[]] ++ lb) ++ Array.replicate (fn.ntmps - (#[Value.func (.yield l) #[] #[]] ++ lb).size) undef).getD (k + 1) undef = lb.getD k undef := by
     simp only [Array.getD_eq_getD_getElem?]
     rw [Array.getElem?_append_left (by simp; omega), Array.getElem?_append_right (by simp)]
     simp
    have e2 : caps.getD k pvu = p := by
     have hp' : caps[k]? = some p := by simpa [argEnv] using hp
     rw [List.getD_eq_getElem?_getD, hp']; rfl
    rw [e1, ← e2]
    exact hrep.2 k hk'
 refine wpIn_mono (hk Y rfl rfl rfl rfl hY c hc _ W hS) fun x a' w' hp => ?_
 have hres' : ∀ tmps, (results fn tmps).run P w' = .ok (.tuple #[]) w' := fun tmps => by simp [results, hres]
 rcases hp with ⟨pre, e, ⟨hx, hSp⟩, hS'⟩ | ⟨rfl, pre, hsp, hK, hd⟩
 · have fin : a'.defers = [] ∧ ∃ v, (results fn a'.tmps).run P w' = .ok v w' ∧ ((∃ v', Ending.returned v = Ending.returned v') ∧ ((∃ xs, S xs ∧ J xs w') ∨ ∃ pre, Sp pre ∧ Jx pre w')) :=
    ⟨hS'.1.nd, _, hres' _, ⟨_, rfl⟩, .inl ⟨pre, hSp, hS'.2.2⟩⟩
   rcases hx with rfl | rfl
   · exact fin
   · exact fin
 · exact ⟨hd, _, hres' _, ⟨_, rfl⟩, .inr ⟨pre, hsp, hK⟩⟩
end
end Go.Proofs.YtbmhdpflloepkaaDoor

namespace Go.Proofs.YtbmhdpflloepkaaDoor
open Go.RowKit
set_option linter.unusedVariables false
attribute [local irreducible] aw opsK dK

theorem setN_zero : setN 0 = .agg [.vec [] false] := by rw [setN, digs_zero]; rfl
theorem digs_one {N : Nat} (h : N < 18446744073709551616) (h0 : N ≠ 0) : digs N = [N] := by
 rw [digs_pos h0, Nat.mod_eq_of_lt h, Nat.div_eq_of_lt h, digs_zero]
theorem setN_one {N : Nat} (h : N < 18446744073709551616) (h0 : N ≠ 0) : setN N = .agg [.vec [[.val (.int .u64 (N : Int))]] false] := by rw [setN, digs_one h h0]; rfl
theorem boolE {a b : Bool} (h : a = b) : PV.val (.bool a) = PV.val (.bool b) := by rw [h]

theorem set_cases {N : Nat} (h : N < 18446744073709551616) : (N = 0 ∧ setN N = .agg [.vec [] false]) ∨ (N ≠ 0 ∧ setN N = .agg [.vec [[.val (.int .u64 (N : Int))]] false]) := by
 by_cases h0 : N = 0
 · subst h0; exact .inl ⟨rfl, setN_zero⟩
 · exact .inr ⟨h0, setN_one h h0⟩

def minusN (a b : Nat) : Nat := a &&& (18446744073709551615 - b)
theorem minusN_testBit {a b : Nat} (ha : a < 18446744073709551616) (hb : b < 18446744073709551616) (i : Nat) : (minusN a b).testBit i = (a.testBit i && !b.testBit i) := by
 have h := Nat.testBit_two_pow_sub_succ (n := 64) hb i
 have e : (2 : Nat) ^ 64 - (b + 1) = 18446744073709551615 - b := by omega
 rw [e] at h
 rw [minusN, Nat.testBit_and, h]
 by_cases hi : i < 64
 · simp [hi]
 · have : a.testBit i = false := Nat.testBit_lt_two_pow (Nat.lt_of_lt_of_le ha (Nat.pow_le_pow_right (n := 2) (by omega) (show 64 ≤ i by omega)))
   simp [this]
theorem minusN_lt {a b : Nat} (ha : a < 18446744073709551616) : minusN a b < 18446744073709551616 := Nat.lt_of_le_of_lt Nat.and_le_left ha
theorem bits_andNot_u64_nat (a b : Nat) (ha : a < 18446744073709551616) (hb : b < 18446744073709551616) : bits .andNot .u64 (a : Int) (b : Int) = ((minusN a b : Nat) : Int) := by
 have hx : minusN a b < 2 ^ 64 := minusN_lt ha
 have h1 : (BitVec.ofInt 64 (a : Int)).toNat = a := by
  rw [BitVec.ofInt_natCast, BitVec.toNat_ofNat]; exact Nat.mod_eq_of_lt (by omega)
 have h2 : (~~~(BitVec.ofInt 64 (b : Int))).toNat = 18446744073709551615 - b := by
  rw [BitVec.toNat_not, BitVec.ofInt_natCast, BitVec.toNat_ofNat, Nat.mod_eq_of_lt (by omega)]
 show IntKind.u64.wrap ((BitVec.ofInt 64 (a : Int) &&& ~~~(BitVec.ofInt 64 (b : Int))).toNat : Int) = _
 rw [BitVec.toNat_and, h1, h2, IntKind.wrap_u64]
 show ((minusN a b : Nat) : Int) % 18446744073709551616 = _
 omega
theorem minusN_zero {a b : Nat} (ha : a < 18446744073709551616) (hb : b < 18446744073709551616) : minusN a b = 0 ↔ a ||| b = b := by
 constructor
 · intro h
   refine Nat.eq_of_testBit_eq fun i => ?_
   have := congrArg (fun z => Nat.testBit z i) h
   simp only [minusN_testBit ha hb, Nat.zero_testBit] at this
   rw [Nat.testBit_or]
   cases h1 : a.testBit i <;> cases h2 : b.testBit i <;> simp_all
 · intro h
   refine Nat.eq_of_testBit_eq fun i => ?_
   have := congrArg (fun z => Nat.testBit z i) h
   simp only [Nat.testBit_or] at this
   rw [minusN_testBit ha hb, Nat.zero_testBit]
   cases h1 : a.testBit i <;> cases h2 : b.testBit i <;> simp_all

set_option maxHeartbeats 1000000 in
theorem meets_spec (N M : Nat) (hN : N < 18446744073709551616) (hM : M < 18446744073709551616) : Spec Tryd.prog 51 [setN N, setN M] (· = .val (.bool (decide (N &&& M ≠ 0)))) := by
 have hand := bits_and_u64_nat N M hN hM
 rcases set_cases hN with ⟨rfl, e1⟩ | ⟨h1, e1⟩ <;> rcases set_cases hM with ⟨rfl, e2⟩ | ⟨h2, e2⟩ <;> rw [e1] <;> (try rw [e2]) <;> clear e1 e2
 all_goals
  refine spec_intro ok51 (Nat.le_of_ble_eq_true rfl) fun C hC => ?_
  refine aw_seq ?_
  refine aw_region ?_
  refine opsK_ofAlt rfl rfl rfl ?_
  refine opsK_ofAlt rfl rfl rfl ?_
  (refine go ?_;repeat' (apply B<;>intro hb<;>try cases hb))
  refine aw_rounds 1 ?_
  (refine go ?_;repeat' (apply B<;>intro hb<;>try cases hb))
 · exact ret_ok rfl trivial (boolE (by simp))
 · exact ret_ok rfl trivial (boolE (by simp))
 · exact ret_ok rfl trivial (boolE (by simp))
 · refine ret_ok rfl trivial (boolE ?_)
   rw [hand] at hb
   have h3 : ¬ ((N &&& M : Nat) : Int) = 0 := by simpa using hb
   have h4 : N &&& M ≠ 0 := by omega
   simp [h4]
 · refine ret_ok rfl trivial (boolE ?_)
   rw [hand] at hb
   have h3 : ((N &&& M : Nat) : Int) = 0 := by simpa using hb
   have h4 : N &&& M = 0 := by omega
   simp [h4]

set_option maxHeartbeats 1000000 in
theorem within_spec (N M : Nat) (hN : N < 18446744073709551616) (hM : M < 18446744073709551616) : Spec Tryd.prog 69 [setN N, setN M] (· = .val (.bool (decide (N ||| M = M)))) := by
 have hand := bits_andNot_u64_nat N M hN hM
 have hz := minusN_zero hN hM
 rcases set_cases hN with ⟨rfl, e1⟩ | ⟨h1, e1⟩ <;> rcases set_cases hM with ⟨rfl, e2⟩ | ⟨h2, e2⟩ <;> rw [e1] <;> (try rw [e2]) <;> clear e1 e2
 all_goals
  refine spec_intro ok69 (Nat.le_of_ble_eq_true rfl) fun C hC => ?_
  refine aw_seq ?_
  refine aw_region ?_
  refine opsK_ofAlt rfl rfl rfl ?_
  refine opsK_ofAlt rfl rfl rfl ?_
  (refine go ?_;repeat' (apply B<;>intro hb<;>try cases hb))
  refine aw_rounds 1 ?_
  (refine go ?_;repeat' (apply B<;>intro hb<;>try cases hb))
 · exact ret_ok rfl trivial (boolE (by simp))
 · exact ret_ok rfl trivial (boolE (by simp))
 · refine opsK_eq (word_spec [] 0) rfl rfl rfl ⟨⟨trivial, trivial⟩, trivial, trivial⟩ rfl ?_
   (refine go ?_;repeat' (apply B<;>intro hb<;>try cases hb))
   · exact ret_ok rfl trivial (boolE (by simp; omega))
   · have h3 : bits .andNot .u64 (N : Int) ((0 : Nat) : Int) = 0 := by simpa using hb
     rw [hand] at h3
     exact absurd (hz.1 (by omega)) (by simp; omega)
 · refine opsK_eq (word_spec [M] 0) rfl rfl rfl ⟨⟨⟨⟨trivial, trivial⟩, trivial⟩, trivial⟩, trivial, trivial⟩ rfl ?_
   (refine go ?_;repeat' (apply B<;>intro hb<;>try cases hb))
   · have h3 : ¬ bits .andNot .u64 (N : Int) (M : Int) = 0 := by simpa using hb
     rw [hand] at h3
     have h4 : ¬ (N ||| M = M) := fun h => h3 (by rw [hz.2 h]; rfl)
     exact ret_ok rfl trivial (boolE (by simp [h4]))
   · have h3 : bits .andNot .u64 (N : Int) (M : Int) = 0 := by simpa using hb
     rw [hand] at h3
     have h4 : N ||| M = M := hz.1 (by omega)
     exact ret_ok rfl trivial (boolE (by simp [h4]))

theorem empty_spec (N : Nat) (hN : N < 18446744073709551616) : Spec Tryd.prog 58 [setN N] (· = .val (.bool (decide (N = 0)))) := by
 rcases set_cases hN with ⟨rfl, e1⟩ | ⟨h1, e1⟩ <;> rw [e1]
 all_goals
  refine spec_intro ok58 (Nat.le_of_ble_eq_true rfl) fun C hC => ?_
  refine aw_seq ?_
  refine aw_region ?_
  refine opsK_ofAlt rfl rfl rfl ?_
  (refine go ?_;repeat' (apply B<;>intro hb<;>try cases hb))
 · exact ret_ok rfl trivial (boolE (by simp))
 · exact ret_ok rfl trivial (boolE (by simp [h1]))

set_option maxHeartbeats 1000000 in
theorem equalS_spec (N M : Nat) (hN : N < 18446744073709551616) (hM : M < 18446744073709551616) : Spec Tryd.prog 29 [setN N, setN M] (· = .val (.bool (decide (N = M)))) := by
 rcases set_cases hN with ⟨rfl, e1⟩ | ⟨h1, e1⟩ <;> rcases set_cases hM with ⟨rfl, e2⟩ | ⟨h2, e2⟩ <;> rw [e1] <;> (try rw [e2]) <;> clear e1 e2
 all_goals
  refine spec_intro ok29 (Nat.le_of_ble_eq_true rfl) fun C hC => ?_
  refine aw_seq ?_
  refine aw_region ?_
  refine opsK_ofAlt rfl rfl rfl ?_
  refine opsK_ofAlt rfl rfl rfl ?_
  (refine go ?_;repeat' (apply B<;>intro hb<;>try cases hb))
 · refine aw_rounds 1 ?_
   (refine go ?_;repeat' (apply B<;>intro hb<;>try cases hb))
   exact ret_ok rfl trivial (boolE (by simp))
 · exact ret_ok rfl trivial (boolE (by simp; omega))
 · exact ret_ok rfl trivial (boolE (by simp; omega))
 · refine aw_rounds 1 ?_
   (refine go ?_;repeat' (apply B<;>intro hb<;>try cases hb))
   · have h3 : ¬ (N : Int) = (M : Int) := by simpa using hb
     exact ret_ok rfl trivial (boolE (by simp; omega))
   · have h3 : (N : Int) = (M : Int) := by simpa using hb
     exact ret_ok rfl trivial (boolE (by simp; omega))
end Go.Proofs.YtbmhdpflloepkaaDoor

namespace Go.Proofs.YtbmhdpflloepkaaDoor
open Go.RowKit
set_option linter.unusedVariables false
attribute [local irreducible] aw opsK dK

theorem or_lt {N M : Nat} (hN : N < 18446744073709551616) (hM : M < 18446744073709551616) : N ||| M < 18446744073709551616 := Nat.or_lt_two_pow (n := 64) hN hM
theorem or_ne {N M : Nat} (h : N ≠ 0 ∨ M ≠ 0) : N ||| M ≠ 0 := fun h0 => by
 have h1 : ∀ i, (N ||| M).testBit i = false := fun i => by rw [h0]; simp
 rcases h with h | h
 · exact h (Nat.eq_of_testBit_eq fun i => by have := h1 i; rw [Nat.testBit_or] at this; simp at this; simp [this.1])
 · exact h (Nat.eq_of_testBit_eq fun i => by have := h1 i; rw [Nat.testBit_or] at this; simp at this; simp [this.2])

set_option maxHeartbeats 2000000 in
theorem orS_spec (N M : Nat) (hN : N < 18446744073709551616) (hM : M < 18446744073709551616) : Spec Tryd.prog 46 [setN N, setN M] (· = setN (N ||| M)) := by
 have hlt := or_lt hN hM
 rcases set_cases hN with ⟨rfl, e1⟩ | ⟨h1, e1⟩ <;> rcases set_cases hM with ⟨rfl, e2⟩ | ⟨h2, e2⟩ <;> rw [e1] <;> (try rw [e2]) <;> clear e1 e2
 all_goals
  refine spec_intro ok46 (Nat.le_of_ble_eq_true rfl) fun C hC => ?_
  refine aw_seq ?_
  refine aw_region ?_
  refine opsK_ofAlt rfl rfl rfl ?_
  refine opsK_ofAlt rfl rfl rfl ?_
  (refine go ?_;repeat' (apply B<;>intro hb<;>try cases hb))
  refine aw_rounds 1 ?_
  repeat' (first | refine opsK_sub (subA_freeze (k := 31) rfl rfl (pureLL_of rfl)) ?_ | (first|refine st ?_|(apply B<;>intro hb<;>try cases hb)))
 · exact ret_ok rfl (pure_of rfl) setN_zero.symm
 · refine dK_eq (word_spec [] 0) rfl rfl rfl (pureL_of rfl) ?_
   (refine go ?_;repeat' (apply B<;>intro hb<;>try cases hb))
   refine dK_eq (word_spec [M] 0) rfl rfl rfl (pureL_of rfl) ?_
   refine dK_of (E_int rfl (bits_or_u64_nat 0 M hN hM)) rfl rfl ?_
   repeat' (first | refine opsK_sub (subA_freeze (k := 31) rfl rfl (pureLL_of rfl)) ?_ | (first|refine st ?_|(apply B<;>intro hb<;>try cases hb)))
   exact ret_ok rfl (pure_of rfl) (setN_one hlt (or_ne (.inr h2))).symm
 · refine dK_eq (word_spec [N] 0) rfl rfl rfl (pureL_of rfl) ?_
   (refine go ?_;repeat' (apply B<;>intro hb<;>try cases hb))
   refine dK_eq (word_spec [] 0) rfl rfl rfl (pureL_of rfl) ?_
   refine dK_of (E_int rfl (bits_or_u64_nat N 0 hN hM)) rfl rfl ?_
   repeat' (first | refine opsK_sub (subA_freeze (k := 31) rfl rfl (pureLL_of rfl)) ?_ | (first|refine st ?_|(apply B<;>intro hb<;>try cases hb)))
   exact ret_ok rfl (pure_of rfl) (setN_one hlt (or_ne (.inl h1))).symm
 · refine dK_eq (word_spec [N] 0) rfl rfl rfl (pureL_of rfl) ?_
   (refine go ?_;repeat' (apply B<;>intro hb<;>try cases hb))
   refine dK_eq (word_spec [M] 0) rfl rfl rfl (pureL_of rfl) ?_
   refine dK_of (E_int rfl (bits_or_u64_nat N M hN hM)) rfl rfl ?_
   repeat' (first | refine opsK_sub (subA_freeze (k := 31) rfl rfl (pureLL_of rfl)) ?_ | (first|refine st ?_|(apply B<;>intro hb<;>try cases hb)))
   exact ret_ok rfl (pure_of rfl) (setN_one hlt (or_ne (.inl h1))).symm
end Go.Proofs.YtbmhdpflloepkaaDoor

namespace Go.Proofs.YtbmhdpflloepkaaDoor
open Go.RowKit
set_option linter.unusedVariables false
attribute [local irreducible] aw opsK dK

theorem bit_lt {N i : Nat} (hN : N < 18446744073709551616) (h : N.testBit i = true) : i < 64 := by
 rcases Nat.lt_or_ge i 64 with h' | h'
 · exact h'
 · have : N.testBit i = false := Nat.testBit_lt_two_pow (Nat.lt_of_lt_of_le hN (Nat.pow_le_pow_right (n := 2) (by omega) (show 64 ≤ i by omega)))
   rw [this] at h; cases h
theorem pow_lt64 {i : Nat} (h : i < 64) : 2 ^ i < 18446744073709551616 := by
 show 2 ^ i < 2 ^ 64
 exact Nat.pow_lt_pow_right (by omega) h

theorem hasS_spec (N : Nat) (hN : N < 18446744073709551616) (i : Int) : Spec Tryd.prog 39 [setN N, .val (.int .i64 i)] (· = .val (.bool (decide (0 ≤ i) && N.testBit i.toNat))) := by
 refine (has_spec (digs N) (digs_words N) i).mono fun r hr => ?_
 rw [hr]
 refine boolE ?_
 have h := ofW_testBit (digs_words N) i.toNat
 rw [ofW_digs] at h
 rw [← h]
 by_cases h0 : 0 ≤ i
 · by_cases h1 : i ≤ 4095
   · simp [h0, h1]
   · have : N.testBit i.toNat = false := by
      cases hb : N.testBit i.toNat with
      | false => rfl
      | true => have := bit_lt hN hb; omega
     simp [this]
 · simp [h0]

end Go.Proofs.YtbmhdpflloepkaaDoor

namespace Go.Proofs.YtbmhdpflloepkaaDoor
open Go.RowKit
set_option linter.unusedVariables false
attribute [local irreducible] aw opsK dK

def tz (x : Nat) : Nat := if h : x % 2 = 1 ∨ x = 0 then 0 else tz (x / 2) + 1
termination_by x
decreasing_by omega
theorem tz_split : ∀ {x : Nat}, x ≠ 0 → ∃ m, x = 2 ^ tz x * (2 * m + 1) := by
 intro x
 induction x using Nat.strongRecOn with
 | _ x ih =>
   intro h0
   by_cases h : x % 2 = 1 ∨ x = 0
   · rw [tz, dif_pos h]
     exact ⟨x / 2, by omega⟩
   · rw [tz, dif_neg h]
     obtain ⟨m, hm⟩ := ih (x / 2) (by omega) (by omega)
     refine ⟨m, ?_⟩
     rw [Nat.pow_succ, Nat.mul_assoc, Nat.mul_comm 2, ← Nat.mul_assoc, ← hm]
     omega
theorem split_testBit (k m i : Nat) : (2 ^ k * (2 * m + 1)).testBit i = (decide (i = k) || (decide (k < i) && m.testBit (i - k - 1))) := by
 rw [Nat.testBit_two_pow_mul]
 by_cases h : k ≤ i
 · obtain ⟨j, rfl⟩ : ∃ j, i = k + j := ⟨i - k, by omega⟩
   rw [show k + j - k = j by omega]
   cases j with
   | zero => simp [Nat.testBit_zero]
   | succ j =>
     rw [Nat.add_sub_cancel]
     have e : (2 * m + 1).testBit (j + 1) = m.testBit j := by rw [Nat.testBit_succ]; congr 1; omega
     simp [e]
 · have h1 : ¬ i = k := by omega
   have h2 : ¬ k < i := by omega
   simp [h, h1, h2]
theorem pred_testBit (k m i : Nat) : (2 ^ k * (2 * m + 1) - 1).testBit i = (decide (i < k) || (decide (k < i) && m.testBit (i - k - 1))) := by
 have hp : 0 < 2 ^ k := Nat.pos_of_ne_zero (by simp)
 have e : 2 ^ k * (2 * m + 1) - 1 = 2 ^ k * (2 * m) + (2 ^ k - 1) := by rw [Nat.mul_add]; omega
 rw [e, Nat.testBit_two_pow_mul_add _ (by omega)]
 by_cases h : i < k
 · rw [if_pos h, Nat.testBit_two_pow_sub_one]
   simp [h]
 · rw [if_neg h]
   have h' : ¬ i < k := h
   obtain ⟨j, rfl⟩ : ∃ j, i = k + j := ⟨i - k, by omega⟩
   rw [show k + j - k = j by omega]
   cases j with
   | zero => simp [Nat.testBit_zero]
   | succ j =>
     rw [Nat.add_sub_cancel]
     have e : (2 * m).testBit (j + 1) = m.testBit j := by rw [Nat.testBit_succ]; congr 1; omega
     simp [e]
     omega
theorem tz_bit {x : Nat} (h : x ≠ 0) : x.testBit (tz x) = true := by
 obtain ⟨m, hm⟩ := tz_split h
 generalize tz x = k at hm ⊢
 rw [hm, split_testBit]; simp
theorem tz_low {x i : Nat} (h : x ≠ 0) (hi : x.testBit i = true) : tz x ≤ i := by
 obtain ⟨m, hm⟩ := tz_split h
 generalize tz x = k at hm ⊢
 rw [hm, split_testBit] at hi
 simp at hi
 omega
theorem clear_testBit {x : Nat} (h : x ≠ 0) (i : Nat) : (x &&& (x - 1)).testBit i = (x.testBit i && decide (i ≠ tz x)) := by
 obtain ⟨m, hm⟩ := tz_split h
 generalize tz x = k at hm ⊢
 rw [Nat.testBit_and, hm, split_testBit, pred_testBit]
 by_cases h1 : i = k
 · subst h1; simp
 · by_cases h2 : k < i
   · have h3 : ¬ i < k := by omega
     simp [h1, h2, h3]
   · simp [h1, h2]
theorem low_and {x : Nat} (hx : x < 18446744073709551616) (h : x ≠ 0) : x &&& (18446744073709551616 - x) = 2 ^ tz x := by
 have hlt := bit_lt hx (tz_bit h)
 obtain ⟨m, hm⟩ := tz_split h
 generalize tz x = k at hm hlt ⊢
 refine Nat.eq_of_testBit_eq fun i => ?_
 have e : 18446744073709551616 - x = 2 ^ 64 - ((x - 1) + 1) := by omega
 rw [Nat.testBit_and, e, Nat.testBit_two_pow_sub_succ (by omega), hm, split_testBit, pred_testBit, Nat.testBit_two_pow]
 by_cases h1 : i = k
 · subst h1; simp [hlt]
 · have h1' : ¬ k = i := fun h => h1 h.symm
   by_cases h2 : k < i
   · simp [h1, h1', h2]
     intro a _ _
     exact a
   · simp [h1, h1', h2]
theorem tz_table : ∀ k : Fin 64, (285870213051353865 * 2 ^ k.val % 18446744073709551616 / 288230376151711744) < 64 ∧ tzTab[285870213051353865 * 2 ^ k.val % 18446744073709551616 / 288230376151711744]? = some ((k.val : Nat) : Int) := by decide
theorem E_tz {g j : Nat} {n : Nat} {e : Env} {h : Heap} {i : Operand} {k : IntKind} (hg : globs g = tzTab.map fun x => .int .u8 x) (hi : ev e i = some (.val (.int k (j : Nat)))) (hj : j < 64) :
 dEval (.iaddrA 64 1 (.global g) i) e h n = some (.cp ((zpv (tzTab.map fun x => .int .u8 x)).drop (j * 1)), h) := by
 have hev : ev e (.global g) = some (.cp (zpv (tzTab.map fun x => .int .u8 x))) := by
  simp only [ev, hg]; rfl
 simp only [dEval, hev, hi]
 rw [if_pos ⟨by omega, by omega⟩, Int.toNat_natCast]
theorem E_tz2 {j k n : Nat} {e : Env} {h : Heap} {a : Operand} (ha : ev e a = some (.cp ((zpv (tzTab.map fun x => .int .u8 x)).drop (j * 1)))) (hj : tzTab[j]? = some ((k : Nat) : Int)) : dEval (.load false 1 a) e h n = some (.val (.int .u8 (k : Nat)), h) := by
 have hlt : j < tzTab.length := (List.getElem?_eq_some_iff.1 hj).1
 have hl : (zpv (tzTab.map fun x => .int .u8 x)).drop (j * 1) = .val (.int .u8 (k : Nat)) :: (zpv (tzTab.map fun x => .int .u8 x)).drop (j + 1) := by
  rw [Nat.mul_one, List.drop_eq_getElem_cons (by simp [zpv]; exact hlt)]
  congr 1
  have := (List.getElem?_eq_some_iff.1 hj).2
  simp [zpv, pvOf, this]
 simp only [dEval, ha, hl]
 simp [cutAt]

set_option maxHeartbeats 2000000 in
theorem tz_spec (x : Nat) (hx : x < 18446744073709551616) (h : x ≠ 0) : Spec Tryd.prog 67 [.val (.int .u64 (x : Int))] (· = .val (.int .i64 (tz x : Nat))) := by
 have hk := bit_lt hx (tz_bit h)
 have hp := pow_lt64 hk
 have hneg : IntKind.u64.wrap (0 - (x : Int)) = ((18446744073709551616 - x : Nat) : Int) := by
  rw [IntKind.wrap_u64]; omega
 have hand : bits .and .u64 (x : Int) (IntKind.u64.wrap (0 - (x : Int))) = ((2 ^ tz x : Nat) : Int) := by
  rw [hneg, bits_and_u64_nat _ _ hx (by omega), low_and hx h]
 have hmul : IntKind.u64.wrap (((2 ^ tz x : Nat) : Int) * 285870213051353865) = ((285870213051353865 * 2 ^ tz x % 18446744073709551616 : Nat) : Int) := by
  rw [IntKind.wrap_u64, Int.mul_comm]
  rfl
 obtain ⟨t1, t2⟩ := tz_table ⟨tz x, hk⟩
 simp only at t1 t2
 refine spec_intro ok67 (Nat.le_of_ble_eq_true rfl) fun C hC => ?_
 iterate 8 (first|refine st ?_|(apply B<;>intro hb<;>try cases hb))
 refine opsK_boolEq rfl rfl rfl (v := false) (by simp; exact h) ?_
 (first|refine st ?_|(apply B<;>intro hb<;>try cases hb))
 (first|refine st ?_|(apply B<;>intro hb<;>try cases hb))
 iterate 6 (first|refine st ?_|(apply B<;>intro hb<;>try cases hb))
 refine opsK_int rfl rfl rfl hand ?_
 refine opsK_int rfl rfl rfl hmul ?_
 refine opsK_int rfl rfl rfl (v := ((285870213051353865 * 2 ^ tz x % 18446744073709551616 / 288230376151711744 : Nat) : Int)) ?_ ?_
 · show Int.fdiv _ (2 ^ 58) = _
   rw [fdiv_pow]
 refine opsK_of (E_tz rfl rfl t1) rfl rfl ?_
 refine opsK_of (E_tz2 rfl t2) rfl rfl ?_
 refine opsK_int rfl rfl rfl (IntWalk.i64_in _ ⟨by omega, by omega⟩) ?_
 (refine go ?_;repeat' (apply B<;>intro hb<;>try cases hb))
 exact ret_ok rfl trivial rfl
end Go.Proofs.YtbmhdpflloepkaaDoor

namespace Go.Proofs.YtbmhdpflloepkaaDoor
open Go.RowKit
set_option linter.unusedVariables false
attribute [local irreducible] aw opsK dK jw

def mem (N : Nat) : List Nat := (List.range 64).filter fun i => N.testBit i
theorem mem_iff {N i : Nat} (hN : N < 18446744073709551616) : i ∈ mem N ↔ N.testBit i = true := by
 simp only [mem, List.mem_filter, List.mem_range]
 exact ⟨fun h => h.2, fun h => ⟨bit_lt hN h, h⟩⟩
theorem mem_sorted (N : Nat) : (mem N).Pairwise (· < ·) := List.Pairwise.filter _ List.pairwise_lt_range
theorem mem_lt {N i : Nat} (h : i ∈ mem N) : i < 64 := by
 simp only [mem, List.mem_filter, List.mem_range] at h; exact h.1
theorem mem_length (N : Nat) : (mem N).length ≤ 64 := by
 have := List.length_filter_le (fun i => N.testBit i) (List.range 64)
 simpa [mem] using this
theorem asc_ext : ∀ {l m : List Nat}, l.Pairwise (· < ·) → m.Pairwise (· < ·) → (∀ x, x ∈ l ↔ x ∈ m) → l = m
 | [], [], _, _, _ => rfl
 | [], y :: m, _, _, h => by have := (h y).2 (by simp); cases this
 | x :: l, [], _, _, h => by have := (h x).1 (by simp); cases this
 | x :: l, y :: m, hl, hm, h => by
   rw [List.pairwise_cons] at hl hm
   have hxy : x = y := by
    have h1 := (h x).1 (by simp)
    have h2 := (h y).2 (by simp)
    rcases List.mem_cons.1 h1 with h1 | h1
    · exact h1
    · rcases List.mem_cons.1 h2 with h2 | h2
      · exact h2.symm
      · have := hm.1 x h1; have := hl.1 y h2; omega
   subst hxy
   congr 1
   refine asc_ext hl.2 hm.2 fun z => ?_
   constructor
   · intro hz
     rcases List.mem_cons.1 ((h z).1 (by simp [hz])) with hz' | hz'
     · have := hl.1 z hz; omega
     · exact hz'
   · intro hz
     rcases List.mem_cons.1 ((h z).2 (by simp [hz])) with hz' | hz'
     · have := hm.1 z hz; omega
     · exact hz'
theorem mem_zero : mem 0 = [] := by simp [mem]
theorem mem_step {y : Nat} (hy : y < 18446744073709551616) (h : y ≠ 0) : mem y = tz y :: mem (y &&& (y - 1)) := by
 have hlt : y &&& (y - 1) < 18446744073709551616 := Nat.lt_of_le_of_lt Nat.and_le_left hy
 refine asc_ext (mem_sorted y) ?_ fun z => ?_
 · rw [List.pairwise_cons]
   refine ⟨fun z hz => ?_, mem_sorted _⟩
   rw [mem_iff hlt, clear_testBit h] at hz
   have h1 : y.testBit z = true ∧ z ≠ tz y := by simpa using hz
   have := tz_low h h1.1
   omega
 · rw [List.mem_cons, mem_iff hy, mem_iff hlt, clear_testBit h]
   constructor
   · intro hz
     by_cases he : z = tz y
     · exact .inl he
     · exact .inr (by simp [hz, he])
   · rintro (rfl | hz)
     · exact tz_bit h
     · have h1 : y.testBit z = true ∧ z ≠ tz y := by simpa using hz
       exact h1.1

abbrev MemT (N : Nat) := { i : Nat // i ∈ mem N }
def encM (N : Nat) (x : MemT N) : List Value := [.int .i64 (x.val : Int)]

theorem allfn_spec (N : Nat) : Spec Tryd.prog 47 [setN N] (· = .fn 66 [.cp [.vec (words (digs N)) false]]) := by
 refine spec_intro ok47 (Nat.le_of_ble_eq_true rfl) fun C hC => ?_
 refine aw_seq ?_
 refine aw_region ?_
 refine opsK_ofAlt rfl rfl rfl ?_
 (refine go ?_;repeat' (apply B<;>intro hb<;>try cases hb))
 exact ret_ok rfl ⟨⟨words_pure _, trivial⟩, trivial⟩ rfl

theorem clear_lt {y : Nat} (hy : y < 18446744073709551616) : y &&& (y - 1) < 18446744073709551616 := Nat.lt_of_le_of_lt Nat.and_le_left hy
theorem clear_le {y : Nat} (h : y ≠ 0) : y &&& (y - 1) < y := Nat.lt_of_le_of_lt Nat.and_le_right (by omega)

set_option maxHeartbeats 4000000 in
theorem all_iter (N : Nat) (hN : N < 18446744073709551616) : IterOk Tryd.prog 66 [.cp [.vec (words (digs N)) false]] (encM N) (fun xs => xs.map (·.val) = mem N) (fun pre => ∃ t, pre.map (·.val) ++ t = mem N) (mem N).length := by
 refine iter_intro ok66 (Nat.le_of_ble_eq_true rfl) fun Y hYN hYe hYs hYn => ?_
 by_cases h0 : N = 0
 · subst h0
   rw [digs_zero]
   repeat' (first
    | refine jw_seq ?_
    | refine jw_region ?_
    | refine jops_done ?_
    | refine jops_q rfl ?_
    | refine jw_block ?_
    | refine jw_skip ?_
    | refine jw_exit ?_
    | refine jw_ret ?_
    | refine jw_cond (b := true) rfl (fun _ => ?_) (fun h => by cases h)
    | refine jw_cond (b := false) rfl (fun h => by cases h) (fun _ => ?_))
   refine jw_loop (X := Unit) (fun _ => True) (fun _ => 0) (fun _ => []) (fun _ => [(7, .val (.int .i64 ((0 : Nat) : Int))), (8, .val (.int .i64 0))]) () trivial rfl ⟨rfl, rfl, trivial⟩ ?_
   rintro ⟨⟩ -
   repeat' (first
    | refine jw_seq ?_
    | refine jw_region ?_
    | refine jops_done ?_
    | refine jops_q rfl ?_
    | refine jw_block ?_
    | refine jw_skip ?_
    | refine jw_exit ?_
    | refine jw_ret ?_
    | refine jw_cond (b := true) rfl (fun _ => ?_) (fun h => by cases h)
    | refine jw_cond (b := false) rfl (fun h => by cases h) (fun _ => ?_))
   exact ⟨.inl rfl, mem_zero.symm⟩
 rw [digs_one hN h0]
 repeat' (first
  | refine jw_seq ?_
  | refine jw_region ?_
  | refine jops_done ?_
  | refine jops_q rfl ?_
  | refine jw_block ?_
  | refine jw_skip ?_
  | refine jw_exit ?_
  | refine jw_ret ?_
  | refine jw_cond (b := true) rfl (fun _ => ?_) (fun h => by cases h)
  | refine jw_cond (b := false) rfl (fun h => by cases h) (fun _ => ?_))
 refine jw_loop (X := Bool × List (MemT N)) (fun x => (x.1 = true → x.2.map (·.val) = mem N) ∧ (x.1 = false → x.2 = [])) (fun x => if x.1 then 0 else 1) (fun x => x.2)
  (fun x => [(0, .val (.func (.yield Y.l) #[] #[])), (6, .vec [[.val (.int .u64 (N : Int))]] false), (7, .val (.int .i64 ((1 : Nat) : Int))), (8, .val (.int .i64 (if x.1 then 1 else 0)))]) (false, []) ⟨by simp, by simp⟩ rfl ⟨rfl, rfl, rfl, rfl, trivial⟩ ?_
 rintro ⟨b, pre⟩ ⟨hb1, hb2⟩
 simp only at hb1 hb2
 cases b with
 | true =>
   repeat' (first
    | refine jw_seq ?_
    | refine jw_region ?_
    | refine jops_done ?_
    | refine jops_q rfl ?_
    | refine jw_block ?_
    | refine jw_skip ?_
    | refine jw_exit ?_
    | refine jw_ret ?_
    | refine jw_cond (b := true) rfl (fun _ => ?_) (fun h => by cases h)
    | refine jw_cond (b := false) rfl (fun h => by cases h) (fun _ => ?_))
   exact ⟨.inl rfl, hb1 rfl⟩
 | false =>
   obtain rfl := hb2 rfl
   repeat' (first
    | refine jw_seq ?_
    | refine jw_region ?_
    | refine jops_done ?_
    | refine jops_q rfl ?_
    | refine jw_block ?_
    | refine jw_skip ?_
    | refine jw_exit ?_
    | refine jw_ret ?_
    | refine jw_cond (b := true) rfl (fun _ => ?_) (fun h => by cases h)
    | refine jw_cond (b := false) rfl (fun h => by cases h) (fun _ => ?_))
   refine jw_loop (X := Nat × List (MemT N)) (fun x => x.1 < 18446744073709551616 ∧ x.2.map (·.val) ++ mem x.1 = mem N) (fun x => x.1) (fun x => x.2)
    (fun x => [(0, .val (.func (.yield Y.l) #[] #[])), (3, .val (.int .i64 0)), (4, .val (.int .u64 (x.1 : Int))), (6, .vec [[.val (.int .u64 (N : Int))]] false), (7, .val (.int .i64 ((1 : Nat) : Int))), (8, .val (.int .i64 0))]) (N, []) ⟨hN, by simp⟩ rfl ⟨rfl, rfl, rfl, rfl, rfl, rfl, trivial⟩ ?_
   rintro ⟨y, pre⟩ ⟨hy, hpre⟩
   simp only at hy hpre
   refine jw_seq ?_
   refine jw_seq ?_
   refine jw_region ?_
   refine jops_q rfl ?_
   refine jops_q rfl ?_
   refine jops_done ?_
   by_cases hy0 : y = 0
   · subst hy0
     rw [mem_zero, List.append_nil] at hpre
     repeat' (first
      | refine jw_seq ?_
      | refine jw_region ?_
      | refine jops_done ?_
      | refine jops_q rfl ?_
      | refine jw_block ?_
      | refine jw_skip ?_
      | refine jw_exit ?_
      | refine jw_ret ?_
      | refine jw_cond (b := true) rfl (fun _ => ?_) (fun h => by cases h)
      | refine jw_cond (b := false) rfl (fun h => by cases h) (fun _ => ?_))
     exact ⟨(true, pre), ⟨fun _ => hpre, fun h => by cases h⟩, by simp, rfl, rfl, rfl, rfl, rfl, trivial⟩
   · have hne : ((y : Int) != 0) = true := by simp; exact hy0
     have hcond : ∀ {e : Env}, e 14 = some (.val (.bool ((y : Int) != 0))) → ev e (.tmp 14) = some (.val (.bool true)) := fun h => by rw [hne] at h; exact h
     refine jw_cond (b := true) (hcond rfl) (fun _ => ?_) (fun h => by cases h)
     rw [mem_step hy hy0] at hpre
     have hmem : tz y ∈ mem N := by rw [← hpre]; simp
     have hlt := mem_lt hmem
     have hlen : pre.length < (mem N).length := by rw [← hpre]; simp
     have hsum : IntKind.i64.wrap (IntKind.i64.wrap (64 * 0) + ((tz y : Nat) : Int)) = ((tz y : Nat) : Int) := by
      rw [show IntKind.i64.wrap (64 * 0) = 0 from rfl, Int.zero_add]
      exact IntWalk.i64_in _ ⟨by omega, by omega⟩
     refine jw_skip ?_
     refine jw_seq ?_
     refine jw_block ?_
     refine jw_yield (al := [_, _, _, _, _, _]) (d1 := 25) (d2 := 26) ⟨tz y, hmem⟩ ?_
     refine jops_q rfl ?_
     refine jops_q rfl ?_
     refine jops_q rfl ?_
     refine jops_q rfl ?_
     refine jops_call (tz_spec y hy hy0) rfl rfl rfl ⟨trivial, trivial⟩ ?_
     refine jops_q (p := .val (.int .i64 ((tz y : Nat) : Int))) ?_ ?_
     · show some (PV.val (Value.int .i64 (IntKind.i64.wrap (IntKind.i64.wrap (64 * 0) + ((tz y : Nat) : Int))))) = _
       rw [hsum]
     refine jops_done ⟨rfl, rfl, by rw [hYe]; rfl, by rw [hYN]; exact hlen, ?_, ?_⟩
     · rw [hYs]
       exact ⟨mem (y &&& (y - 1)), by rw [List.map_append, List.append_assoc]; exact hpre⟩
     have hand : bits .and .u64 (y : Int) (IntKind.u64.wrap ((y : Int) - 1)) = ((y &&& (y - 1) : Nat) : Int) := by
      rw [IntKind.wrap_u64, show ((y : Int) - 1) % 18446744073709551616 = ((y - 1 : Nat) : Int) by omega]
      exact bits_and_u64_nat _ _ hy (by omega)
     refine jw_region ?_
     refine jops_q rfl ?_
     refine jops_q rfl ?_
     refine jops_q rfl ?_
     refine jops_q (p := .val (.int .u64 ((y &&& (y - 1) : Nat) : Int))) ?_ ?_
     · show some (PV.val (Value.int .u64 (bits .and .u64 (y : Int) (IntKind.u64.wrap ((y : Int) - 1))))) = _
       rw [hand]
     refine jops_q rfl ?_
     refine jops_done ?_
     exact ⟨(y &&& (y - 1), pre ++ [⟨tz y, hmem⟩]), ⟨clear_lt hy, by rw [List.map_append, List.append_assoc]; exact hpre⟩, clear_le hy0, rfl, rfl, rfl, rfl, rfl, rfl, rfl, trivial⟩
end Go.Proofs.YtbmhdpflloepkaaDoor

namespace Go.Proofs.YtbmhdpflloepkaaDoor
open Go.RowKit
set_option linter.unusedVariables false

def sgnI (x y : Nat) : Int := if x < y then -1 else if x = y then 0 else 1
theorem sgnI_neg {x y : Nat} : sgnI x y < 0 ↔ x < y := by unfold sgnI; split <;> (try split) <;> omega
theorem sgnI_zero {x y : Nat} : sgnI x y = 0 ↔ x = y := by unfold sgnI; split <;> (try split) <;> omega
theorem sgnI_self (x : Nat) : sgnI x x = 0 := sgnI_zero.2 rfl

def digK (a : Nat) : Nat := if a = 0 then 0 else if a % 2 = 1 then 1 else 2
def keyK : Nat → Nat → Nat
 | 0, _ => 0
 | k + 1, a => digK a * 3 ^ k + keyK k (a / 2)
theorem digK_le (a : Nat) : digK a ≤ 2 := by unfold digK; split <;> (try split) <;> omega
theorem keyK_lt : ∀ (k a : Nat), keyK k a < 3 ^ k
 | 0, _ => by simp [keyK]
 | k + 1, a => by
   have h1 := keyK_lt k (a / 2)
   have h2 := digK_le a
   have h3 : digK a * 3 ^ k ≤ 2 * 3 ^ k := Nat.mul_le_mul_right _ h2
   simp only [keyK, Nat.pow_succ]
   omega
theorem keyK_zero : ∀ k, keyK k 0 = 0
 | 0 => rfl
 | k + 1 => by simp [keyK, digK, keyK_zero k]
def lexI : List Nat → List Nat → Int
 | [], [] => 0
 | [], _ :: _ => -1
 | _ :: _, [] => 1
 | x :: xs, y :: ys => if x < y then -1 else if y < x then 1 else lexI xs ys
def memK (k N : Nat) : List Nat := (List.range k).filter fun i => N.testBit i
theorem memK_step (k N : Nat) : memK (k + 1) N = (if N % 2 = 1 then [0] else []) ++ (memK k (N / 2)).map (· + 1) := by
 have hf : ∀ (l : List Nat), (l.map Nat.succ).filter (fun i => N.testBit i) = (l.filter fun i => (N / 2).testBit i).map (· + 1) := by
  intro l
  rw [List.filter_map]
  congr 1
  apply List.filter_congr
  intro x _
  simp [Nat.testBit_succ]
 unfold memK
 rw [List.range_succ_eq_map, List.filter_cons, hf, Nat.testBit_zero]
 by_cases h : N % 2 = 1 <;> simp [h]
theorem lexI_map : ∀ (l m : List Nat), lexI (l.map (· + 1)) (m.map (· + 1)) = lexI l m
 | [], [] => rfl
 | [], _ :: _ => rfl
 | _ :: _, [] => rfl
 | x :: xs, y :: ys => by simp only [List.map_cons, lexI, lexI_map xs ys, Nat.add_lt_add_iff_right]
theorem memK_nil : ∀ {k N : Nat}, N < 2 ^ k → (memK k N = [] ↔ N = 0)
 | 0, N, h => by simp at h; subst h; simp [memK]
 | k + 1, N, h => by
   rw [memK_step]
   have ih := memK_nil (k := k) (N := N / 2) (by rw [Nat.pow_succ] at h; omega)
   by_cases h1 : N % 2 = 1
   · simp [h1]; omega
   · simp only [h1, if_false, List.nil_append, List.map_eq_nil_iff, ih]; omega
theorem key_lex : ∀ (k a b : Nat), a < 2 ^ k → b < 2 ^ k → lexI (memK k a) (memK k b) = sgnI (keyK k a) (keyK k b)
 | 0, a, b, _, _ => by simp [memK, lexI, keyK, sgnI]
 | k + 1, a, b, ha, hb => by
   have ha' : a / 2 < 2 ^ k := by rw [Nat.pow_succ] at ha; omega
   have hb' : b / 2 < 2 ^ k := by rw [Nat.pow_succ] at hb; omega
   have ih := key_lex k (a / 2) (b / 2) ha' hb'
   have la := keyK_lt k (a / 2)
   have lb := keyK_lt k (b / 2)
   have na := memK_nil ha'
   have nb := memK_nil hb'
   rw [memK_step, memK_step]
   simp only [keyK]
   have za : a / 2 = 0 → keyK k (a / 2) = 0 := fun h => by rw [h, keyK_zero]
   have zb : b / 2 = 0 → keyK k (b / 2) = 0 := fun h => by rw [h, keyK_zero]
   by_cases h1 : a % 2 = 1 <;> by_cases h2 : b % 2 = 1
   · have d1 : digK a = 1 := by unfold digK; rw [if_neg (by omega), if_pos h1]
     have d2 : digK b = 1 := by unfold digK; rw [if_neg (by omega), if_pos h2]
     simp only [h1, h2, if_true, List.cons_append, List.nil_append, lexI, Nat.lt_irrefl, if_false, lexI_map, ih, d1, d2]
     unfold sgnI
     split <;> split <;> (try split) <;> (try split) <;> omega
   · have d1 : digK a = 1 := by unfold digK; rw [if_neg (by omega), if_pos h1]
     simp only [h1, h2, if_true, if_false, List.cons_append, List.nil_append]
     by_cases hz : b / 2 = 0
     · rw [nb.2 hz]
       have d2 : digK b = 0 := by unfold digK; rw [if_pos (by omega)]
       simp only [List.map_nil, lexI, d1, d2, zb hz]
       have : 0 < 3 ^ k := Nat.pow_pos (by decide)
       unfold sgnI
       rw [if_neg (by omega), if_neg (by omega)]
     · have d2 : digK b = 2 := by unfold digK; rw [if_neg (by omega), if_neg h2]
       have : memK k (b / 2) ≠ [] := fun h => hz (nb.1 h)
       cases hm : memK k (b / 2) with
       | nil => exact absurd hm this
       | cons x xs =>
         simp only [List.map_cons, lexI, d1, d2]
         rw [if_pos (Nat.succ_pos x)]
         unfold sgnI
         rw [if_pos (by omega)]
   · have d2 : digK b = 1 := by unfold digK; rw [if_neg (by omega), if_pos h2]
     simp only [h1, h2, if_true, if_false, List.cons_append, List.nil_append]
     by_cases hz : a / 2 = 0
     · rw [na.2 hz]
       have d1 : digK a = 0 := by unfold digK; rw [if_pos (by omega)]
       simp only [List.map_nil, lexI, d1, d2, za hz]
       have : 0 < 3 ^ k := Nat.pow_pos (by decide)
       unfold sgnI
       rw [if_pos (by omega)]
     · have d1 : digK a = 2 := by unfold digK; rw [if_neg (by omega), if_neg h1]
       have : memK k (a / 2) ≠ [] := fun h => hz (na.1 h)
       cases hm : memK k (a / 2) with
       | nil => exact absurd hm this
       | cons x xs =>
         simp only [List.map_cons, lexI, d1, d2]
         rw [if_neg (Nat.not_lt_zero _), if_pos (Nat.succ_pos x)]
         unfold sgnI
         rw [if_neg (by omega), if_neg (by omega)]
   · simp only [h1, h2, if_false, List.nil_append, lexI_map, ih]
     have da : digK a = if a / 2 = 0 then 0 else 2 := by unfold digK; by_cases h : a = 0 <;> simp [h, h1]; omega
     have db : digK b = if b / 2 = 0 then 0 else 2 := by unfold digK; by_cases h : b = 0 <;> simp [h, h2]; omega
     rw [da, db]
     have nza : a / 2 ≠ 0 → 0 < keyK k (a / 2) := fun h => by
      have := key_lex k 0 (a / 2) (Nat.pow_pos (by decide)) ha'
      rw [keyK_zero] at this
      cases hm : memK k (a / 2) with
      | nil => exact absurd (na.1 hm) h
      | cons x xs =>
        have e0 : memK k 0 = [] := (memK_nil (Nat.pow_pos (by decide))).2 rfl
        rw [hm, e0] at this
        simp only [lexI] at this
        exact sgnI_neg.1 (by rw [← this]; decide)
     have nzb : b / 2 ≠ 0 → 0 < keyK k (b / 2) := fun h => by
      have := key_lex k 0 (b / 2) (Nat.pow_pos (by decide)) hb'
      rw [keyK_zero] at this
      cases hm : memK k (b / 2) with
      | nil => exact absurd (nb.1 hm) h
      | cons x xs =>
        have e0 : memK k 0 = [] := (memK_nil (Nat.pow_pos (by decide))).2 rfl
        rw [hm, e0] at this
        simp only [lexI] at this
        exact sgnI_neg.1 (by rw [← this]; decide)
     by_cases hz1 : a / 2 = 0 <;> by_cases hz2 : b / 2 = 0
     · simp [hz1, hz2]
     · have := nzb hz2
       simp only [hz1, hz2, if_true, if_false, keyK_zero]
       unfold sgnI
       rw [if_pos (by omega), if_pos (by omega)]
     · have := nza hz1
       simp only [hz1, hz2, if_true, if_false, keyK_zero]
       unfold sgnI
       rw [if_neg (by omega), if_neg (by omega), if_neg (by omega), if_neg (by omega)]
     · simp only [hz1, hz2, if_false]
       unfold sgnI
       split <;> split <;> (try split) <;> (try split) <;> omega
theorem keyK_inj : ∀ {k a b : Nat}, a < 2 ^ k → b < 2 ^ k → keyK k a = keyK k b → a = b := by
 intro k
 induction k with
 | zero => intro a b ha hb _; simp at ha hb; omega
 | succ k ih =>
   intro a b ha hb h
   have ha' : a / 2 < 2 ^ k := by rw [Nat.pow_succ] at ha; omega
   have hb' : b / 2 < 2 ^ k := by rw [Nat.pow_succ] at hb; omega
   have la := keyK_lt k (a / 2)
   have lb := keyK_lt k (b / 2)
   simp only [keyK] at h
   have hp : 0 < 3 ^ k := Nat.pow_pos (by decide)
   have hd : digK a = digK b := by
    have h1 : (digK a * 3 ^ k + keyK k (a / 2)) / 3 ^ k = digK a := by rw [Nat.mul_comm, Nat.mul_add_div hp, Nat.div_eq_of_lt la]; rfl
    have h2 : (digK b * 3 ^ k + keyK k (b / 2)) / 3 ^ k = digK b := by rw [Nat.mul_comm, Nat.mul_add_div hp, Nat.div_eq_of_lt lb]; rfl
    rw [← h1, ← h2, h]
   rw [hd] at h
   have h2 := ih ha' hb' (by omega)
   unfold digK at hd
   by_cases h3 : a = 0 <;> by_cases h4 : b = 0 <;> simp only [h3, h4, if_true, if_false] at hd
   · omega
   · split at hd <;> omega
   · split at hd <;> omega
   · split at hd <;> split at hd <;> omega
abbrev key (N : Nat) : Nat := keyK 64 N
theorem key_inj {a b : Nat} (ha : a < 18446744073709551616) (hb : b < 18446744073709551616) (h : key a = key b) : a = b := keyK_inj (k := 64) ha hb h

theorem key_tz : ∀ (k : Nat) {a b : Nat}, a < 2 ^ k → b < 2 ^ k → a ≠ b → sgnI (keyK k a) (keyK k b) = (if a.testBit (tz (a ^^^ b)) then (if b / 2 ^ (tz (a ^^^ b) + 1) = 0 then 1 else -1) else (if a / 2 ^ (tz (a ^^^ b) + 1) = 0 then -1 else 1))
 | 0, a, b, ha, hb, hn => by simp at ha hb; omega
 | k + 1, a, b, ha, hb, hn => by
   have ha' : a / 2 < 2 ^ k := by rw [Nat.pow_succ] at ha; omega
   have hb' : b / 2 < 2 ^ k := by rw [Nat.pow_succ] at hb; omega
   have la := keyK_lt k (a / 2)
   have lb := keyK_lt k (b / 2)
   have hx : (a ^^^ b) % 2 = (a + b) % 2 := by have := @Nat.xor_mod_two_eq_one a b; omega
   have hx2 : (a ^^^ b) / 2 = a / 2 ^^^ b / 2 := Nat.xor_div_two
   have hx0 : a ^^^ b ≠ 0 := fun h => hn (Nat.eq_of_testBit_eq fun i => by
    have : (a ^^^ b).testBit i = false := by rw [h]; simp
    rw [Nat.testBit_xor] at this
    cases h1 : a.testBit i <;> cases h2 : b.testBit i <;> simp_all)
   by_cases h1 : a % 2 = 1 <;> by_cases h2 : b % 2 = 1
   · have ht : tz (a ^^^ b) = tz (a / 2 ^^^ b / 2) + 1 := by
      rw [tz, dif_neg (by omega), hx2]
     have ih := key_tz k ha' hb' (by omega)
     rw [ht, Nat.testBit_succ, Nat.pow_succ, Nat.mul_comm, ← Nat.div_div_eq_div_mul, ← Nat.div_div_eq_div_mul, ← ih]
     have d1 : digK a = 1 := by unfold digK; rw [if_neg (by omega), if_pos h1]
     have d2 : digK b = 1 := by unfold digK; rw [if_neg (by omega), if_pos h2]
     simp only [keyK, d1, d2]
     unfold sgnI
     split <;> split <;> (try split) <;> (try split) <;> omega
   · have ht : tz (a ^^^ b) = 0 := by rw [tz, dif_pos (.inl (by omega))]
     have d1 : digK a = 1 := by unfold digK; rw [if_neg (by omega), if_pos h1]
     have e1 : a.testBit 0 = true := by rw [Nat.testBit_zero]; simp [h1]
     rw [ht, e1]
     simp only [if_true, keyK, d1, Nat.zero_add, Nat.pow_one]
     by_cases hz : b / 2 = 0
     · have d2 : digK b = 0 := by unfold digK; rw [if_pos (by omega)]
       have : 0 < 3 ^ k := Nat.pow_pos (by decide)
       rw [if_pos hz, d2, hz, keyK_zero]
       unfold sgnI
       rw [if_neg (by omega), if_neg (by omega)]
     · have d2 : digK b = 2 := by unfold digK; rw [if_neg (by omega), if_neg h2]
       rw [if_neg hz, d2]
       unfold sgnI
       rw [if_pos (by omega)]
   · have ht : tz (a ^^^ b) = 0 := by rw [tz, dif_pos (.inl (by omega))]
     have d2 : digK b = 1 := by unfold digK; rw [if_neg (by omega), if_pos h2]
     have e1 : a.testBit 0 = false := by rw [Nat.testBit_zero]; simp [h1]
     rw [ht, e1]
     simp only [Bool.false_eq_true, if_false, keyK, d2, Nat.zero_add, Nat.pow_one]
     by_cases hz : a / 2 = 0
     · have d1 : digK a = 0 := by unfold digK; rw [if_pos (by omega)]
       have : 0 < 3 ^ k := Nat.pow_pos (by decide)
       rw [if_pos hz, d1, hz, keyK_zero]
       unfold sgnI
       rw [if_pos (by omega)]
     · have d1 : digK a = 2 := by unfold digK; rw [if_neg (by omega), if_neg h1]
       rw [if_neg hz, d1]
       unfold sgnI
       rw [if_neg (by omega), if_neg (by omega)]
   · have ht : tz (a ^^^ b) = tz (a / 2 ^^^ b / 2) + 1 := by
      rw [tz, dif_neg (by omega), hx2]
     have ih := key_tz k ha' hb' (by omega)
     rw [ht, Nat.testBit_succ, Nat.pow_succ, Nat.mul_comm, ← Nat.div_div_eq_div_mul, ← Nat.div_div_eq_div_mul, ← ih]
     have da : digK a = if a / 2 = 0 then 0 else 2 := by unfold digK; by_cases h : a = 0 <;> simp [h, h1]; omega
     have db : digK b = if b / 2 = 0 then 0 else 2 := by unfold digK; by_cases h : b = 0 <;> simp [h, h2]; omega
     simp only [keyK, da, db]
     have nz : ∀ c, c < 2 ^ k → c ≠ 0 → 0 < keyK k c := fun c hc h0 => by
      rcases Nat.eq_zero_or_pos (keyK k c) with h | h
      · exact absurd (keyK_inj hc (Nat.pow_pos (by decide)) (by rw [h, keyK_zero])) h0
      · exact h
     by_cases hz1 : a / 2 = 0 <;> by_cases hz2 : b / 2 = 0
     · omega
     · have := nz _ hb' hz2
       simp only [hz1, hz2, if_true, if_false, keyK_zero]
       unfold sgnI
       rw [if_pos (by omega), if_pos (by omega)]
     · have := nz _ ha' hz1
       simp only [hz1, hz2, if_true, if_false, keyK_zero]
       unfold sgnI
       rw [if_neg (by omega), if_neg (by omega), if_neg (by omega), if_neg (by omega)]
     · simp only [hz1, hz2, if_false]
       unfold sgnI
       split <;> split <;> (try split) <;> (try split) <;> omega

def keyC (c : Nat × Nat) : Nat := key c.1 * 3 ^ 64 + key c.2
theorem keyC_inj {a b : Nat × Nat} (ha : a.1 < 18446744073709551616 ∧ a.2 < 18446744073709551616) (hb : b.1 < 18446744073709551616 ∧ b.2 < 18446744073709551616) (h : keyC a = keyC b) : a = b := by
 have l1 : key a.2 < 3 ^ 64 := keyK_lt 64 a.2
 have l2 : key b.2 < 3 ^ 64 := keyK_lt 64 b.2
 unfold keyC at h
 have h1 : (key a.1 * 3 ^ 64 + key a.2) / 3 ^ 64 = key a.1 := by rw [Nat.mul_comm, Nat.mul_add_div (Nat.pow_pos (by decide)), Nat.div_eq_of_lt l1, Nat.add_zero]
 have h2 : (key b.1 * 3 ^ 64 + key b.2) / 3 ^ 64 = key b.1 := by rw [Nat.mul_comm, Nat.mul_add_div (Nat.pow_pos (by decide)), Nat.div_eq_of_lt l2, Nat.add_zero]
 have h3 : key a.1 = key b.1 := by rw [← h1, ← h2, h]
 have h4 : key a.2 = key b.2 := by rw [h3] at h; omega
 obtain ⟨a1, a2⟩ := a
 obtain ⟨b1, b2⟩ := b
 exact Prod.ext (key_inj ha.1 hb.1 h3) (key_inj ha.2 hb.2 h4)
def cmpC (a b : Nat × Nat) : Int := if sgnI (key a.1) (key b.1) ≠ 0 then sgnI (key a.1) (key b.1) else sgnI (key a.2) (key b.2)
theorem cmpC_key (a b : Nat × Nat) : cmpC a b = sgnI (keyC a) (keyC b) := by
 have l1 : key a.2 < 3 ^ 64 := keyK_lt 64 a.2
 have l2 : key b.2 < 3 ^ 64 := keyK_lt 64 b.2
 unfold cmpC keyC
 generalize key a.1 = x at *
 generalize key b.1 = y at *
 generalize key a.2 = u at *
 generalize key b.2 = v at *
 rcases Nat.lt_trichotomy x y with h | h | h
 · have e1 : sgnI x y = -1 := if_pos h
   have e2 : sgnI (x * 3 ^ 64 + u) (y * 3 ^ 64 + v) = -1 := if_pos (by omega)
   rw [e1, e2]; rfl
 · subst h
   rw [sgnI_self]
   simp only [ne_eq, not_true_eq_false, if_false]
   unfold sgnI
   split <;> split <;> (try split) <;> (try split) <;> omega
 · have e1 : sgnI x y = 1 := by unfold sgnI; rw [if_neg (by omega), if_neg (by omega)]
   have e2 : sgnI (x * 3 ^ 64 + u) (y * 3 ^ 64 + v) = 1 := by unfold sgnI; rw [if_neg (by omega), if_neg (by omega)]
   rw [e1, e2]; rfl
end Go.Proofs.YtbmhdpflloepkaaDoor

namespace Go.Proofs.YtbmhdpflloepkaaDoor
open Go.RowKit
set_option linter.unusedVariables false

def setTo (roles : List Nat) (m : Nat) : Nat → Nat
 | 0 => 0
 | i + 1 => if m.testBit i then setTo roles m i ||| 2 ^ (roles.getD i 0) else setTo roles m i
def setM (roles : List Nat) (m : Nat) : Nat := setTo roles m roles.length
theorem setTo_lt {roles : List Nat} (h : ∀ r ∈ roles, r < 64) (m : Nat) : ∀ i, i ≤ roles.length → setTo roles m i < 18446744073709551616
 | 0, _ => by simp [setTo]
 | i + 1, hi => by
   have ih := setTo_lt h m i (by omega)
   simp only [setTo]
   split
   · refine Nat.or_lt_two_pow (n := 64) ih ?_
     refine Nat.pow_lt_pow_right (by decide) ?_
     rw [List.getD_eq_getElem?_getD, List.getElem?_eq_getElem (by omega)]
     exact h _ (List.getElem_mem _)
   · exact ih
theorem setM_lt {roles : List Nat} (h : ∀ r ∈ roles, r < 64) (m : Nat) : setM roles m < 18446744073709551616 := setTo_lt h m _ (Nat.le_refl _)
theorem setTo_testBit (roles : List Nat) (m j : Nat) : ∀ i, (setTo roles m i).testBit j = true ↔ ∃ t, t < i ∧ m.testBit t = true ∧ roles.getD t 0 = j
 | 0 => by simp [setTo]
 | i + 1 => by
   have ih := setTo_testBit roles m j i
   simp only [setTo]
   split
   · rename_i hb
     rw [Nat.testBit_or, Bool.or_eq_true, ih, Nat.testBit_two_pow]
     constructor
     · rintro (⟨t, h1, h2, h3⟩ | h)
       · exact ⟨t, by omega, h2, h3⟩
       · exact ⟨i, by omega, hb, of_decide_eq_true h⟩
     · rintro ⟨t, h1, h2, h3⟩
       by_cases ht : t = i
       · subst ht; exact .inr (decide_eq_true h3)
       · exact .inl ⟨t, by omega, h2, h3⟩
   · rename_i hb
     rw [ih]
     constructor
     · rintro ⟨t, h1, h2, h3⟩; exact ⟨t, by omega, h2, h3⟩
     · rintro ⟨t, h1, h2, h3⟩
       have : t ≠ i := fun e => by subst e; exact hb h2
       exact ⟨t, by omega, h2, h3⟩

def betw (y n m : Nat) : Bool := decide (y ||| m = m) && decide (n &&& m = 0)
def impB (k : Nat) (ok : Nat → Bool) (y n : Nat) : Bool := (List.range (2 ^ k)).all fun m => !betw y n m || ok m
theorem betw_iff (y n m : Nat) : betw y n m = true ↔ (∀ i, y.testBit i = true → m.testBit i = true) ∧ ∀ i, n.testBit i = true → m.testBit i = false := by
 unfold betw
 rw [Bool.and_eq_true, decide_eq_true_iff, decide_eq_true_iff]
 constructor
 · rintro ⟨h1, h2⟩
   refine ⟨fun i hi => ?_, fun i hi => ?_⟩
   · have := congrArg (·.testBit i) h1
     simpa [Nat.testBit_or, hi] using this
   · have := congrArg (·.testBit i) h2
     simpa [Nat.testBit_and, hi] using this
 · rintro ⟨h1, h2⟩
   refine ⟨Nat.eq_of_testBit_eq fun i => ?_, Nat.eq_of_testBit_eq fun i => ?_⟩
   · rw [Nat.testBit_or]
     cases hy : y.testBit i with
     | false => simp
     | true => simp [h1 i hy]
   · rw [Nat.testBit_and, Nat.zero_testBit]
     cases hn : n.testBit i with
     | false => simp
     | true => simp [h2 i hn]
theorem impB_iff {k : Nat} {ok : Nat → Bool} {y n : Nat} : impB k ok y n = true ↔ ∀ m, m < 2 ^ k → betw y n m = true → ok m = true := by
 unfold impB
 rw [List.all_eq_true]
 constructor
 · intro h m hm hb
   have := h m (List.mem_range.2 hm)
   simpa [hb] using this
 · intro h m hm
   cases hb : betw y n m with
   | false => simp
   | true => simp [h m (List.mem_range.1 hm) hb]
theorem or_pow_testBit (y i j : Nat) : (y ||| 2 ^ i).testBit j = (y.testBit j || decide (i = j)) := by rw [Nat.testBit_or, Nat.testBit_two_pow]
theorem betw_yes {y n m i : Nat} : betw (y ||| 2 ^ i) n m = true ↔ betw y n m = true ∧ m.testBit i = true := by
 rw [betw_iff, betw_iff]
 constructor
 · rintro ⟨h1, h2⟩
   exact ⟨⟨fun j hj => h1 j (by rw [or_pow_testBit, hj]; rfl), h2⟩, h1 i (by rw [or_pow_testBit]; simp)⟩
 · rintro ⟨⟨h1, h2⟩, h3⟩
   refine ⟨fun j hj => ?_, h2⟩
   rw [or_pow_testBit, Bool.or_eq_true] at hj
   rcases hj with hj | hj
   · exact h1 j hj
   · rw [← of_decide_eq_true hj]; exact h3
theorem betw_no {y n m i : Nat} : betw y (n ||| 2 ^ i) m = true ↔ betw y n m = true ∧ m.testBit i = false := by
 rw [betw_iff, betw_iff]
 constructor
 · rintro ⟨h1, h2⟩
   exact ⟨⟨h1, fun j hj => h2 j (by rw [or_pow_testBit, hj]; rfl)⟩, h2 i (by rw [or_pow_testBit]; simp)⟩
 · rintro ⟨⟨h1, h2⟩, h3⟩
   refine ⟨h1, fun j hj => ?_⟩
   rw [or_pow_testBit, Bool.or_eq_true] at hj
   rcases hj with hj | hj
   · exact h2 j hj
   · rw [← of_decide_eq_true hj]; exact h3
theorem impB_split (k : Nat) (ok : Nat → Bool) (y n i : Nat) : impB k ok y n = (impB k ok (y ||| 2 ^ i) n && impB k ok y (n ||| 2 ^ i)) := by
 rw [Bool.eq_iff_iff, Bool.and_eq_true, impB_iff, impB_iff, impB_iff]
 constructor
 · intro h
   exact ⟨fun m hm hb => h m hm (betw_yes.1 hb).1, fun m hm hb => h m hm (betw_no.1 hb).1⟩
 · rintro ⟨h1, h2⟩ m hm hb
   cases hi : m.testBit i with
   | true => exact h1 m hm (betw_yes.2 ⟨hb, hi⟩)
   | false => exact h2 m hm (betw_no.2 ⟨hb, hi⟩)
theorem impB_full {k : Nat} (ok : Nat → Bool) {y n : Nat} (hy : y < 2 ^ k) (hd : y &&& n = 0) (hf : ∀ i, i < k → (y ||| n).testBit i = true) : impB k ok y n = ok y := by
 have hdis : ∀ i, y.testBit i = true → n.testBit i = false := fun i hi => by
  have := congrArg (·.testBit i) hd
  simpa [Nat.testBit_and, hi] using this
 rw [Bool.eq_iff_iff, impB_iff]
 constructor
 · intro h
   exact h y hy ((betw_iff _ _ _).2 ⟨fun i hi => hi, fun i hi => by
    cases hyi : y.testBit i with
    | false => rfl
    | true => rw [hdis i hyi] at hi; cases hi⟩)
 · intro h m hm hb
   rw [betw_iff] at hb
   have : m = y := Nat.eq_of_testBit_eq fun i => by
    cases hyi : y.testBit i with
    | true => exact hb.1 i hyi
    | false =>
      by_cases hik : i < k
      · have := hf i hik
        rw [Nat.testBit_or, hyi, Bool.false_or] at this
        exact hb.2 i this
      · exact Nat.testBit_lt_two_pow (Nat.lt_of_lt_of_le hm (Nat.pow_le_pow_right (by decide) (by omega)))
   rw [this]; exact h
def stepB (k : Nat) (ok : Nat → Bool) (y n i : Nat) : Bool := (y.testBit i && impB k ok (y - 2 ^ i) n) || (n.testBit i && impB k ok y (n - 2 ^ i))
def prB (k : Nat) (ok : Nat → Bool) (y n : Nat) : Bool := impB k ok y n && (List.range k).all fun i => !stepB k ok y n i
def prRow (k : Nat) (ok : Nat → Bool) (roles : List Nat) (y : Nat) (j : Nat) : List (Nat × Nat) := ((List.range j).filter fun n => decide (y &&& n = 0) && prB k ok y n).map fun n => (setM roles y, setM roles n)
def prTo (k : Nat) (ok : Nat → Bool) (roles : List Nat) (j : Nat) : List (Nat × Nat) := (List.range j).flatMap fun y => prRow k ok roles y (2 ^ k)
def prL (ok : Nat → Bool) (roles : List Nat) : List (Nat × Nat) := prTo roles.length ok roles (2 ^ roles.length)
theorem prRow_succ (k : Nat) (ok : Nat → Bool) (roles : List Nat) (y j : Nat) : prRow k ok roles y (j + 1) = prRow k ok roles y j ++ (if (decide (y &&& j = 0) && prB k ok y j) = true then [(setM roles y, setM roles j)] else []) := by
 unfold prRow
 rw [List.range_succ, List.filter_append, List.map_append]
 by_cases h : (decide (y &&& j = 0) && prB k ok y j) = true
 · rw [if_pos h]; simp only [List.filter_cons, h, if_true, List.filter_nil, List.map_cons, List.map_nil]
 · rw [if_neg h]; simp only [List.filter_cons, h, Bool.false_eq_true, if_false, List.filter_nil, List.map_nil]
theorem prTo_succ (k : Nat) (ok : Nat → Bool) (roles : List Nat) (j : Nat) : prTo k ok roles (j + 1) = prTo k ok roles j ++ prRow k ok roles j (2 ^ k) := by
 unfold prTo
 rw [List.range_succ, List.flatMap_append]
 simp
theorem prRow_len (k : Nat) (ok : Nat → Bool) (roles : List Nat) (y j : Nat) : (prRow k ok roles y j).length ≤ j := by
 unfold prRow
 rw [List.length_map]
 have := List.length_filter_le (fun n => decide (y &&& n = 0) && prB k ok y n) (List.range j)
 rw [List.length_range] at this
 exact this
theorem prTo_len (k : Nat) (ok : Nat → Bool) (roles : List Nat) : ∀ j, (prTo k ok roles j).length ≤ j * 2 ^ k
 | 0 => by simp [prTo]
 | j + 1 => by
   rw [prTo_succ, List.length_append, Nat.add_mul, Nat.one_mul]
   have := prTo_len k ok roles j
   have := prRow_len k ok roles j (2 ^ k)
   omega
theorem prL_64 {ok : Nat → Bool} {roles : List Nat} (h : ∀ r ∈ roles, r < 64) {c : Nat × Nat} (hc : c ∈ prL ok roles) : c.1 < 18446744073709551616 ∧ c.2 < 18446744073709551616 := by
 unfold prL prTo prRow at hc
 obtain ⟨y, _, hc⟩ := List.mem_flatMap.1 hc
 obtain ⟨n, _, rfl⟩ := List.mem_map.1 hc
 exact ⟨setM_lt h _, setM_lt h _⟩

def insC (c : Nat × Nat) : List (Nat × Nat) → List (Nat × Nat)
 | [] => [c]
 | d :: l => if keyC c ≤ keyC d then c :: d :: l else d :: insC c l
def sortC : List (Nat × Nat) → List (Nat × Nat)
 | [] => []
 | c :: l => insC c (sortC l)
theorem insC_perm (c : Nat × Nat) : ∀ l, (insC c l).Perm (c :: l)
 | [] => .refl _
 | d :: l => by
   simp only [insC]
   split
   · exact .refl _
   · exact ((insC_perm c l).cons d).trans (.swap c d l)
theorem sortC_perm : ∀ l, (sortC l).Perm l
 | [] => .refl _
 | c :: l => (insC_perm c _).trans ((sortC_perm l).cons c)
theorem insC_sorted (c : Nat × Nat) : ∀ {l}, l.Pairwise (fun a b => keyC a ≤ keyC b) → (insC c l).Pairwise fun a b => keyC a ≤ keyC b
 | [], _ => List.pairwise_singleton _ _
 | d :: l, h => by
   simp only [insC]
   rw [List.pairwise_cons] at h
   split
   · rename_i hle
     refine List.pairwise_cons.2 ⟨fun x hx => ?_, List.pairwise_cons.2 h⟩
     rcases List.mem_cons.1 hx with rfl | hx
     · exact hle
     · exact Nat.le_trans hle (h.1 x hx)
   · rename_i hle
     refine List.pairwise_cons.2 ⟨fun x hx => ?_, insC_sorted c h.2⟩
     rcases List.mem_cons.1 ((insC_perm c l).mem_iff.1 hx) with rfl | hx
     · omega
     · exact h.1 x hx
theorem sortC_sorted : ∀ l, (sortC l).Pairwise fun a b => keyC a ≤ keyC b
 | [] => .nil
 | c :: l => insC_sorted c (sortC_sorted l)
theorem sorted_unique : ∀ {l m : List (Nat × Nat)}, l.Pairwise (fun a b => keyC a ≤ keyC b) → m.Pairwise (fun a b => keyC a ≤ keyC b) → l.Perm m → (∀ c ∈ l, c.1 < 18446744073709551616 ∧ c.2 < 18446744073709551616) → l = m
 | [], m, _, _, h, _ => h.nil_eq
 | c :: l, [], _, _, h, _ => absurd h.length_eq (by simp)
 | c :: l, d :: m, h1, h2, h, h64 => by
   rw [List.pairwise_cons] at h1 h2
   have hcd : keyC c ≤ keyC d := by
    rcases List.mem_cons.1 (h.mem_iff.2 (List.mem_cons_self ..)) with e | e
    · rw [e]; exact Nat.le_refl _
    · exact h1.1 d e
   have hdc : keyC d ≤ keyC c := by
    rcases List.mem_cons.1 (h.mem_iff.1 (List.mem_cons_self ..)) with e | e
    · rw [e]; exact Nat.le_refl _
    · exact h2.1 c e
   have hd64 : d.1 < 18446744073709551616 ∧ d.2 < 18446744073709551616 := h64 d (h.mem_iff.2 (List.mem_cons_self ..))
   have e : c = d := keyC_inj (h64 c (List.mem_cons_self ..)) hd64 (Nat.le_antisymm hcd hdc)
   subst e
   rw [sorted_unique h1.2 h2.2 (List.Perm.cons_inv h) fun x hx => h64 x (List.mem_cons_of_mem _ hx)]
theorem sortC_unique {l m : List (Nat × Nat)} (h : m.Perm l) (hs : m.Pairwise fun a b => keyC a ≤ keyC b) (h64 : ∀ c ∈ l, c.1 < 18446744073709551616 ∧ c.2 < 18446744073709551616) : m = sortC l :=
 sorted_unique hs (sortC_sorted l) (h.trans (sortC_perm l).symm) fun c hc => h64 c (h.mem_iff.1 hc)
theorem sortC_64 {l : List (Nat × Nat)} (h64 : ∀ c ∈ l, c.1 < 18446744073709551616 ∧ c.2 < 18446744073709551616) : ∀ c ∈ sortC l, c.1 < 18446744073709551616 ∧ c.2 < 18446744073709551616 := fun c hc => h64 c ((sortC_perm l).mem_iff.1 hc)
end Go.Proofs.YtbmhdpflloepkaaDoor

namespace Go.Proofs.YtbmhdpflloepkaaDoor
open Go.RowKit
set_option linter.unusedVariables false

def cubesA (k : Nat) : List (Nat × Nat) := (List.range (2 ^ k)).flatMap fun y => ((List.range (2 ^ k)).filter fun n => decide (y &&& n = 0)).map fun n => (y, n)
theorem cubesA_mem {k : Nat} {c : Nat × Nat} : c ∈ cubesA k ↔ c.1 < 2 ^ k ∧ c.2 < 2 ^ k ∧ c.1 &&& c.2 = 0 := by
 unfold cubesA
 rw [List.mem_flatMap]
 constructor
 · rintro ⟨y, hy, hc⟩
   obtain ⟨n, hn, rfl⟩ := List.mem_map.1 hc
   rw [List.mem_filter] at hn
   exact ⟨List.mem_range.1 hy, List.mem_range.1 hn.1, of_decide_eq_true hn.2⟩
 · rintro ⟨h1, h2, h3⟩
   exact ⟨c.1, List.mem_range.2 h1, List.mem_map.2 ⟨c.2, List.mem_filter.2 ⟨List.mem_range.2 h2, decide_eq_true h3⟩, rfl⟩⟩
theorem nodup_map {α β : Type} {f : α → β} : ∀ {l : List α}, (∀ a ∈ l, ∀ b ∈ l, f a = f b → a = b) → l.Nodup → (l.map f).Nodup
 | [], _, _ => List.nodup_nil
 | a :: l, h, hn => by
   rw [List.nodup_cons] at hn
   rw [List.map_cons, List.nodup_cons]
   refine ⟨fun hm => ?_, nodup_map (fun x hx y hy => h x (List.mem_cons_of_mem _ hx) y (List.mem_cons_of_mem _ hy)) hn.2⟩
   obtain ⟨b, hb, he⟩ := List.mem_map.1 hm
   have := h b (List.mem_cons_of_mem _ hb) a (List.mem_cons_self ..) he
   subst this
   exact hn.1 hb
theorem cubesA_nodup (k : Nat) : (cubesA k).Nodup := by
 have gen : ∀ (l : List Nat), l.Nodup → (l.flatMap fun y => ((List.range (2 ^ k)).filter fun n => decide (y &&& n = 0)).map fun n => (y, n)).Nodup := by
  intro l
  induction l with
  | nil => intro _; exact List.nodup_nil
  | cons y l ih =>
    intro hn
    rw [List.nodup_cons] at hn
    rw [List.flatMap_cons, List.nodup_append]
    refine ⟨nodup_map (fun a _ b _ he => (Prod.mk.inj he).2) (List.nodup_range.filter _), ih hn.2, fun c hc d hd he => ?_⟩
    subst he
    obtain ⟨n, _, rfl⟩ := List.mem_map.1 hc
    obtain ⟨z, hz, hd⟩ := List.mem_flatMap.1 hd
    obtain ⟨m, _, he⟩ := List.mem_map.1 hd
    rw [Prod.mk.injEq] at he
    rw [← he.1] at hn
    exact hn.1 hz
 exact gen _ List.nodup_range
def setP2 (roles : List Nat) (c : Nat × Nat) : Nat × Nat := (setM roles c.1, setM roles c.2)
theorem prL_eq (ok : Nat → Bool) (roles : List Nat) : prL ok roles = ((cubesA roles.length).filter fun c => prB roles.length ok c.1 c.2).map (setP2 roles) := by
 unfold prL prTo cubesA
 rw [List.filter_flatMap, List.map_flatMap]
 congr 1
 funext y
 unfold prRow
 rw [List.filter_map, List.map_map, List.filter_filter]
 congr 1
 apply List.filter_congr
 intro n _
 simp only [Function.comp_apply]
 exact Bool.and_comm _ _
end Go.Proofs.YtbmhdpflloepkaaDoor

namespace Go.Proofs.YtbmhdpflloepkaaDoor
set_option linter.unusedVariables false

def rW {α : Type} : Result α → World
 | .ok _ w => w
 | .halt _ w => w
def sW : Stepped → Option World
 | .next m => some m.world
 | .ended _ _ => none
def gW : GStep → Option World
 | .go _ w _ => some w
 | .comm _ _ _ _ w _ => some w
 | .spawn _ _ w _ => some w
 | .count _ w _ => some w
 | .timer _ _ w _ => some w
 | .alone _ _ w _ => some w
 | .newcoro _ _ _ w _ => some w
 | .coroswitch _ _ _ w _ => some w
 | .collect _ w _ => some w
 | .watch _ w _ => some w
 | .ended _ _ _ => none
def UpTo (D : Nat) : Option World → Prop
 | some w => D ≤ w.drawn
 | none => True
theorem UpTo.mono {D E : Nat} (h : D ≤ E) : ∀ {o : Option World}, UpTo E o → UpTo D o
 | some _, k => Nat.le_trans h k
 | none, _ => trivial

@[simp] theorem gW_after (es : Array Event) (s : GStep) : gW (GStep.after es s) = gW s := by cases s <;> rfl
theorem ask_drawn {α : Type} : ∀ (x : Ask α) (w : World), w.drawn ≤ (w.ask x).2.drawn
 | .done a, w => Nat.le_refl _
 | .ask what range k, w => by
   rw [World.ask]
   split
   · exact ask_drawn _ w
   · exact Nat.le_trans (Nat.le_succ _) (ask_drawn _ { w with drawn := w.drawn + 1 })
theorem sys_drawn (w : World) (c : Sys) : w.drawn ≤ (w.sys c).2.drawn := by
 have h := ask_drawn (Kernel.perform c w.os) w
 unfold World.sys
 generalize w.ask (Kernel.perform c w.os) = x at h
 obtain ⟨⟨r, os⟩, w'⟩ := x
 cases r <;> first | exact Nat.le_refl _ | exact h
theorem viewStore_drawn {p : Program} {w w' : World} {a : Addr} {u : TypeId} {k : Addr} {v : Value} {at' : Bool} {l : List Addr} (h : w.viewStore p a u k v at' = .ok (w', l)) : w'.drawn = w.drawn := by
 unfold World.viewStore at h
 simp only [bind, Except.bind, pure, Except.pure] at h
 repeat' first
  | (cases h; done)
  | (cases h; rfl)
  | split at h
theorem farStore_drawn {p : Program} {w w' : World} {a : Addr} {v : Value} {at' : Bool} {l : List Addr} (h : w.farStore p a v at' = .ok (w', l)) : w'.drawn = w.drawn := by
 unfold World.farStore at h
 repeat' first
  | (cases h; done)
  | (rename_i hv; cases h; exact viewStore_drawn hv)
  | split at h
theorem run_drawn {α : Type} (P : Program) : ∀ (s : Sem α) (w : World), w.drawn ≤ (rW (s.run P w)).drawn := by
 intro s
 induction s with
 | pure a => exact fun w => Nat.le_refl _
 | load m a k ih =>
   intro w
   simp only [Sem.run]
   split
   · exact ih _ _
   · split
     · exact ih _ _
     · exact Nat.le_refl _
 | store m a v k ih =>
   intro w
   cases v <;> simp only [Sem.run] <;> first
    | exact Nat.le_refl _
    | (split
       · split
         · exact Nat.le_refl _
         · exact ih (w.setCell a _)
       · split
         · rename_i hf
           exact Nat.le_trans (Nat.le_of_eq (farStore_drawn hf).symm) (ih _)
         · exact Nat.le_refl _)
 | new o k ih => intro w; simp only [Sem.run]; exact ih _ { w with heap := w.heap.push o }
 | shape r k ih => intro w; simp only [Sem.run]; exact ih _ _
 | freeze a n k ih =>
   intro w
   simp only [Sem.run]
   refine Nat.le_trans (Nat.le_of_eq ?_) (ih _)
   unfold World.freeze
   split <;> rfl
 | frozen a k ih => intro w; simp only [Sem.run]; exact ih _ _
 | getObj r k ih =>
   intro w
   simp only [Sem.run]
   split
   · exact Nat.le_refl _
   · exact ih _ _
   · exact Nat.le_refl _
 | setObj r o k ih =>
   intro w
   simp only [Sem.run]
   split
   · exact Nat.le_refl _
   · exact ih { w with heap := w.heap.setIfInBounds r o }
   · exact Nat.le_refl _
 | choose q k ih =>
   intro w
   simp only [Sem.run]
   split
   · exact ih _ _
   · exact Nat.le_trans (Nat.le_succ _) (ih _ { w with drawn := w.drawn + 1 })
 | sys c k ih => intro w; simp only [Sem.run]; exact Nat.le_trans (sys_drawn w c) (ih _ _)
 | program k ih => intro w; simp only [Sem.run]; exact ih _ _
 | mark m k ih => intro w; simp only [Sem.run]; exact ih _
 | halt h => exact fun w => Nat.le_refl _
theorem run_ok {α : Type} {P : Program} {s : Sem α} {w w' : World} {a : α} (h : s.run P w = .ok a w') : w.drawn ≤ w'.drawn := by
 have := run_drawn P s w
 rwa [h] at this
theorem run_halt {α : Type} {P : Program} {s : Sem α} {w w' : World} {a : Halt} (h : s.run P w = .halt a w') : w.drawn ≤ w'.drawn := by
 have := run_drawn P s w
 rwa [h] at this

theorem run_ok2 {α β : Type} {P : Program} {s : Sem α} {t : Sem β} {w w1 w2 : World} {a : α} {b : β} (h : s.run P w = .ok a w1) (k : t.run P w1 = .ok b w2) : w.drawn ≤ w2.drawn := Nat.le_trans (run_ok h) (run_ok k)
theorem run_ok3 {α β : Type} {P : Program} {s : Sem α} {t : Sem β} {w w1 w2 : World} {a : α} {b : Halt} (h : s.run P w = .ok a w1) (k : t.run P w1 = .halt b w2) : w.drawn ≤ w2.drawn := Nat.le_trans (run_ok h) (run_halt k)

theorem elim_upTo {D : Nat} {α : Type} {o : Option α} {a : GStep} {f : α → GStep} (ha : UpTo D (gW a)) (hf : ∀ k, UpTo D (gW (f k))) : UpTo D (gW (o.elim a f)) := by
 cases o with
 | none => exact ha
 | some k => exact hf k
theorem doReturn_drawn (p : Program) (main : Bool) (fr : Frame) (callers : List Frame) (dying : Option Dying) (v : Value) (w : World) : UpTo w.drawn (gW (doReturn p main fr callers dying v w)) := by
 unfold doReturn
 repeat' first
  | exact Nat.le_refl _
  | trivial
  | split
theorem dieOf_drawn (fr : Frame) (a : List ByteArray) (m : String) (b : Bool) (w : World) : UpTo w.drawn (gW (dieOf fr a m b w)) := Nat.le_refl _
theorem endPrinting_drawn (p : Program) (fr : Frame) (v : Value) (w : World) : UpTo w.drawn (gW (endPrinting p fr v w)) := by
 unfold endPrinting
 simp only []
 split
 · exact Nat.le_refl _
 · trivial
theorem endFatal_drawn (p : Program) (fr : Frame) (callers : List Frame) (dying : Option Dying) (m : String) (w : World) : UpTo w.drawn (gW (endFatal p fr callers dying m w)) := by
 unfold endFatal
 simp only []
 split
 · rename_i h
   exact run_ok h
 · trivial
 · trivial
theorem endWith_drawn (w : World) (fd : Nat) (t : ByteArray) (o : Outcome) : UpTo w.drawn (gW (endWith w fd t o)) := by
 unfold endWith
 simp only []
 repeat' first
  | trivial
  | split
theorem writeOn_drawn (p : Program) (fr : Frame) (d : Dying) (f : Fatal) (w : World) : UpTo w.drawn (gW (writeOn p fr d f w)) := by
 unfold writeOn
 simp only [Sem.runT_eq]
 split
 · trivial
 · split
   · rename_i h
     exact run_ok (Prod.mk.inj h).1
   · rename_i h
     exact run_halt (Prod.mk.inj h).1
   · trivial
   · trivial
theorem die_drawn (p : Program) (fr : Frame) (d : Dying) (w : World) : UpTo w.drawn (gW (die p fr d w)) := by
 unfold die
 simp only [Sem.runT_eq]
 repeat' first
  | exact Nat.le_refl _
  | trivial
  | exact writeOn_drawn _ _ _ _ _
  | exact endWith_drawn _ _ _ _
  | exact run_ok (by assumption)
  | exact (endPrinting_drawn _ _ _ _).mono (run_halt (by assumption))
  | rw [gW_after]
  | split
theorem callDeferred_drawn (p : Program) (fr : Frame) (callers : List Frame) (dying : Option Dying) (d : Deferred) (w : World) : UpTo w.drawn (gW (callDeferred p fr callers dying d w)) := by
 unfold callDeferred
 simp only [Sem.runT_eq]
 repeat' first
  | exact Nat.le_refl _
  | trivial
  | exact run_ok (by assumption)
  | exact run_halt (by assumption)
  | exact (endFatal_drawn _ _ _ _ _ _).mono (run_halt (by assumption))
  | exact (dieOf_drawn _ _ _ _ _).mono (run_halt (by assumption))
  | rw [gW_after]
  | split
theorem unwind_drawn (p : Program) (main : Bool) (fr : Frame) (callers : List Frame) (dying : Option Dying) (w : World) : UpTo w.drawn (gW (unwind p main fr callers dying w)) := by
 unfold unwind
 simp only [Sem.runT_eq]
 repeat' first
  | exact Nat.le_refl _
  | trivial
  | exact callDeferred_drawn _ _ _ _ _ _
  | exact doReturn_drawn _ _ _ _ _ _ _
  | exact endPrinting_drawn _ _ _ _
  | exact run_ok (by assumption)
  | exact (doReturn_drawn _ _ _ _ _ _ _).mono (run_ok (by assumption))
  | rw [gW_after]
  | split
theorem early_drawn (p : Program) (fr : Frame) (callers : List Frame) (dying : Option Dying) (g : Nat) (w : World) : UpTo w.drawn (gW (early p fr callers dying g w)) := by
 unfold early
 simp only []
 repeat' first
  | exact Nat.le_refl _
  | trivial
  | exact run_ok (by assumption)
  | (simp only [gW, UpTo]; exact run_ok (by assumption))
  | rw [gW_after]
  | split
theorem apply_drawn (p : Program) (b : Bool) (fr : Frame) (callers : List Frame) (dying : Option Dying) (s : Sem Next) (w : World) : UpTo w.drawn (gW (stepG.apply p b fr callers dying s w)) := by
 unfold stepG.apply
 simp only [Sem.runT_eq]
 have hs : (if b = true then (s.run p w, s.events p w #[]) else (s.run p w, #[])).1 = s.run p w := by split <;> rfl
 generalize (if b = true then (s.run p w, s.events p w #[]) else (s.run p w, #[])) = x at hs ⊢
 obtain ⟨r, es⟩ := x
 simp only at hs ⊢
 subst hs
 repeat' first
  | exact Nat.le_refl _
  | trivial
  | exact run_ok (by assumption)
  | exact run_halt (by assumption)
  | exact (endFatal_drawn _ _ _ _ _ _).mono (run_halt (by assumption))
  | exact (dieOf_drawn _ _ _ _ _).mono (run_halt (by assumption))
  | exact (dieOf_drawn _ _ _ _ _).mono (run_ok (by assumption))
  | exact (early_drawn _ _ _ _ _ _).mono (run_halt (by assumption))
  | rw [gW_after]
  | split

theorem oper_drawn (p : Program) (b : Bool) (fr : Frame) (callers : List Frame) (dying : Option Dying) (w : World) : UpTo w.drawn (gW (stepG.oper p b fr callers dying w)) := by
 unfold stepG.oper
 repeat' first
  | trivial
  | exact apply_drawn _ _ _ _ _ _ _
  | split
theorem exec_drawn (p : Program) (main b : Bool) (fr : Frame) (callers : List Frame) (dying : Option Dying) (w : World) : UpTo w.drawn (gW (stepG.exec p main b fr callers dying w)) := by
 unfold stepG.exec
 simp only [Sem.runT_eq]
 repeat' first
  | exact Nat.le_refl _
  | trivial
  | exact apply_drawn _ _ _ _ _ _ _
  | exact oper_drawn _ _ _ _ _ _
  | exact run_ok (by assumption)
  | exact run_halt (by assumption)
  | exact (apply_drawn _ _ _ _ _ _ _).mono (run_ok (by assumption))
  | exact (doReturn_drawn _ _ _ _ _ _ _).mono (run_ok (by assumption))
  | rw [gW_after]
  | refine elim_upTo ?_ (fun _ => ?_)
  | split
theorem stepG_drawn (p : Program) (main b : Bool) (g : Goroutine) (w : World) : UpTo w.drawn (gW (stepG p main g w b)) := by
 unfold stepG
 repeat' first
  | exact die_drawn _ _ _ _
  | exact exec_drawn _ _ _ _ _ _ _
  | exact unwind_drawn _ _ _ _ _ _
  | split

theorem communicate_drawn {p : Program} {rest : Rest} {gs : Array Goroutine} {i : Nat} {g : Goroutine} {cases : Array CommCase} {b : Bool} {shape : CommShape} {w : World} : UpTo w.drawn (sW (communicate p rest gs i g cases b shape w).1) := by
 have hwait : ∀ w', waitingAt rest cases w = some w' → w'.drawn = w.drawn := by
  intro w' h
  unfold waitingAt at h
  repeat' first
   | (cases h; done)
   | (cases h; rfl)
   | split at h
 unfold communicate
 simp only []
 repeat' first
  | exact Nat.le_refl _
  | trivial
  | exact run_ok (by assumption)
  | (simp only [sW, UpTo]; exact run_ok (by assumption))
  | (simp only [sW, UpTo]; exact Nat.le_of_eq (hwait _ (by assumption)).symm)
  | (simp only [sW, UpTo]; exact run_ok2 (by assumption) (by assumption))
  | (simp only [sW, UpTo]; exact run_ok3 (by assumption) (by assumption))
  | split
theorem look_drawn (p : Program) (gs : Array Goroutine) (rest : Rest) (w : World) : UpTo w.drawn (sW (look p gs rest w)) := by
 unfold look
 simp only []
 repeat' first
  | exact Nat.le_refl _
  | trivial
  | (simp only [sW, UpTo]; exact run_ok (by assumption))
  | split
theorem timerOp_drawn {m : Machine} {op : TimerOp} {v : Value} {m' : Machine} (h : timerOp m op = .ok (v, m')) : m'.world.drawn = m.world.drawn := by
 have hr : ∀ (m : Machine) (k : Nat) (t : Timer) (a b : Nat), (retime m k t a b).2.world.drawn = m.world.drawn := by
  intro m k t a b
  unfold retime drain
  simp only []
  repeat' first
   | rfl
   | split
 have ho : ∀ (m' : Machine) (a : Addr), timerOp.opened m a = some m' → m'.world.drawn = m.world.drawn := by
  intro m' a h
  unfold timerOp.opened at h
  repeat' first
   | (cases h; done)
   | (cases h; rfl)
   | split at h
 have hn : ∀ (a : Addr) (f : Nat → Timer → Value × Machine) (D : Nat), (∀ k t, (f k t).2.world.drawn = D) → timerOp.named m a f = .ok (v, m') → m'.world.drawn = D := by
  intro a f D hf h
  unfold timerOp.named at h
  split at h
  · rename_i k _
    have := hf k (m.rest.timers.getD k default)
    injection h with h
    rw [h] at this
    exact this
  · cases h
 unfold timerOp at h
 simp only [] at h
 repeat' first
  | (cases h; done)
  | (cases h; rfl)
  | exact hn _ _ _ (fun k t => hr _ _ _ _ _) h
  | (rename_i ho'; rw [← ho _ _ ho']; exact hn _ _ _ (fun k t => hr _ _ _ _ _) h)
  | split at h
theorem runT_drawn (p : Program) (m : Machine) (i : Nat) (b : Bool) : UpTo m.world.drawn (sW (runT p m i b).1) := by
 simp only [runT]
 generalize m.gs.swapAt! _ _ = gg
 have hs := stepG_drawn p (i == 0) b gg.1 m.world
 generalize stepG p _ gg.1 m.world b = s at hs
 cases s <;> simp only [gW] at hs ⊢
 all_goals first
  | exact hs
  | trivial
  | exact communicate_drawn.mono hs
  | exact (look_drawn _ _ _ _).mono hs
  | skip
 all_goals repeat' first
  | exact hs
  | trivial
  | (simp only [sW, UpTo]; rename_i ht; exact Nat.le_trans hs (Nat.le_of_eq (timerOp_drawn ht).symm))
  | split
theorem serve_drawn (p : Program) (m : Machine) (k : Nat) : UpTo m.world.drawn (sW (serve p m k)) := by
 unfold serve
 simp only []
 repeat' first
  | exact Nat.le_refl _
  | trivial
  | split
def mW : Move → Option World
 | .goroutine m _ => some m.world
 | .machine s _ => sW s
theorem askOn_drawn (p : Program) (m : Machine) : UpTo m.world.drawn (mW (askOn p m)) := by
 have pick : ∀ (D : Nat) (rs : List Nat) (m : Machine), D ≤ m.world.drawn → UpTo D (mW (match (choose (.sched rs.length)).run p m.world with
  | .halt _ w => .machine (.ended (.stuck "sched" "") w)
  | .ok k world =>
    if rs.length ≤ 1 then .goroutine { m with world } (rs.getD k 0) else
    match (choose (.extern "sched.slice" 65536)).run p world with
    | .halt _ w => .machine (.ended (.stuck "sched.slice" "") w)
    | .ok n world => .goroutine { m with world, rest := { m.rest with slice := if n = 0 then none else some (rs.getD k 0, n) } } (rs.getD k 0))) := by
  intro D rs m hD
  refine UpTo.mono hD ?_
  repeat' first
   | trivial
   | (simp only [mW, UpTo]; exact run_ok (by assumption))
   | (simp only [mW, UpTo]; exact run_ok2 (by assumption) (by assumption))
   | split
 unfold askOn
 simp only []
 generalize hs : (if (due m.rest.timers m.world.os.mono).isEmpty = true then (pure 0 : Sem Nat)
  else choose (.extern "timer.serve" ((due m.rest.timers m.world.os.mono).length + (if ((runnable m.gs m.world.os.mono).isEmpty && (ahead m false).isNone) = true then 0 else 1)))) = s0
 cases hr : s0.run p m.world with
 | halt h w => trivial
 | ok k world =>
   simp only []
   split
   · exact (serve_drawn p { m with world } _).mono (run_ok hr)
   · split
     · split
       · exact show m.world.drawn ≤ world.drawn from run_ok hr
       · split
         · exact show m.world.drawn ≤ world.drawn from run_ok hr
         · split <;> trivial
     · split
       · exact pick _ _ { m with world } (run_ok hr)
       · split
         · trivial
         · exact pick _ _ { m with world := _ } (run_ok2 hr (by assumption))
         · simp only [mW, sW, UpTo, Machine.advanceTo]
           exact run_ok2 hr (by assumption)
         · rename_i w2 h2
           exact pick _ _ (Machine.advanceTo { m with world := w2 } _) (show m.world.drawn ≤ w2.drawn from run_ok2 hr h2)
theorem ask_drawn' (p : Program) (m : Machine) : UpTo m.world.drawn (mW (ask p m)) := by
 unfold ask
 split
 · split
   · trivial
   · rename_i w h
     have hl := look_drawn p m.gs m.rest w
     split
     · rename_i m2 h2
       rw [h2] at hl
       exact (askOn_drawn p m2).mono (Nat.le_trans (run_ok h) hl)
     · exact hl.mono (run_ok h)
   · rename_i h
     exact (askOn_drawn p { m with world := _ }).mono (run_ok h)
 · exact askOn_drawn p m
theorem move_drawn (p : Program) (m : Machine) : UpTo m.world.drawn (mW (move p m)) := by
 unfold move
 repeat' first
  | exact Nat.le_refl _
  | trivial
  | exact ask_drawn' p m
  | exact ask_drawn' p { m with rest := _ }
  | split
theorem step_drawn (p : Program) (m : Machine) : UpTo m.world.drawn (sW (step p m)) := by
 have h := move_drawn p m
 unfold step stepT
 cases hm : move p m with
 | goroutine m2 i =>
   rw [hm] at h
   exact (runT_drawn p m2 i true).mono h
 | machine s ops =>
   rw [hm] at h
   exact h
theorem steps_drawn {P : Program} {m m' : Machine} (h : Steps P m m') : m.world.drawn ≤ m'.world.drawn := by
 obtain ⟨n, hn⟩ := h
 induction n generalizing m with
 | zero => rw [runN] at hn; cases hn; exact Nat.le_refl _
 | succ n ih =>
   rw [runN] at hn
   have hs := step_drawn P m
   split at hn
   · rename_i m1 h1
     rw [h1] at hs
     exact Nat.le_trans hs (ih hn)
   · rename_i e he
     cases hst : step P m with
     | next m1 => exact absurd hst (he m1)
     | ended o w => rw [hst] at hn; cases hn
theorem calls_drawn {P : Program} {f : FuncId} {args : Array Value} {w : World} {R : Ending → World → Prop} (h : Calls P f args w R) : Calls P f args w fun e w' => R e w' ∧ ∀ v, e = .returned v → w.drawn ≤ w'.drawn := by
 intro cs
 obtain ⟨e, w', fr, hR, hc, hf, hl⟩ := h cs
 refine ⟨e, w', fr, ⟨hR, ?_⟩, hc, hf, hl⟩
 rintro v rfl
 exact steps_drawn (m := lone (Frame.enter P f args .normal) cs w) (m' := lone fr cs w') hc
end Go.Proofs.YtbmhdpflloepkaaDoor

namespace Go.Proofs.YtbmhdpflloepkaaDoor
open Go.RowKit
set_option linter.unusedVariables false
attribute [local irreducible] aw opsK dK jw

def intsN (l : List Nat) : List Int := l.map fun (x : Nat) => (x : Int)
theorem lenS_spec (N : Nat) (hN : N < 18446744073709551616) : Spec Tryd.prog 41 [setN N] (· = .val (.int .i64 (popK 64 N : Nat))) := by
 have h := len_spec (digs N) (digs_words N) (by have := digs_short hN; omega)
 rw [lenW_digs hN] at h
 exact h

set_option maxHeartbeats 2000000 in
theorem list_spec (N : Nat) (hN : N < 18446744073709551616) : Spec Tryd.prog 22 [setN N] (· = .vec (nums (intsN (mem N))) false) := by
 refine spec_intro ok22 (Nat.le_of_ble_eq_true rfl) fun C hC => ?_
 refine aw_seq ?_
 refine aw_region ?_
 refine opsK_ofAlt rfl rfl rfl ?_
 (refine go ?_;repeat' (apply B<;>intro hb<;>try cases hb))
 refine opsK_eq (lenS_spec N hN) rfl rfl rfl ⟨setN_pure N, trivial⟩ rfl ?_
 have hpop := popK_le 64 N
 refine opsK_new (E_mslice (a := 0) (b := popK 64 N) rfl rfl (Nat.zero_le _) (by omega)) rfl rfl ?_
 (refine go ?_;repeat' (apply B<;>intro hb<;>try cases hb))
 refine opsK_eq (allfn_spec N) rfl rfl rfl ⟨setN_pure N, trivial⟩ rfl ?_
 (refine go ?_;repeat' (apply B<;>intro hb<;>try cases hb))
 refine aw_range (X := List Int) hC (caps := [.cp [.vec (words (digs N)) false]]) [(3, .ptr 1 0 0), (9, .fn 66 [.cp [.vec (words (digs N)) false]])] (fun acc => [(0, ⟨1, nums acc⟩), (1, ⟨1, [[.own 0]]⟩)]) rfl ⟨⟨words_pure _, trivial⟩, trivial⟩ (all_iter N hN) (fun _ => rfl)
  (fun ex pre acc => ex = .normal ∧ acc = intsN (pre.map (·.val))) 2 (Nat.zero_le _) [] ⟨rfl, rfl⟩ (sub_keep hC (Nat.zero_le _) ⟨⟨rfl, show (1 : Nat) < 2 by decide⟩, ⟨rfl, ⟨words_inn _ _, trivial⟩, trivial⟩, trivial⟩ ⟨⟨by decide, rfl, trivial⟩, ⟨by decide, rfl, ⟨show (0 : Nat) < 2 by decide, trivial⟩, trivial⟩, trivial⟩)
  (fun z q hq => by simp at hq; rcases hq with rfl | rfl <;> exact Nat.one_pos) _ (fun x => rfl) ?_ ?_ ?_
 · rintro C2 hC2 pre x acc ⟨-, rfl⟩ hlen
   have hm := mem_length N
   (refine go ?_;repeat' (apply B<;>intro hb<;>try cases hb))
   refine opsK_new (E_append (k := 0) (m := nums [(x.val : Int)]) (fl := true) rfl rfl rfl (fun c hc => by obtain ⟨y, _, rfl⟩ := List.mem_map.1 hc; rfl) rfl (by
    show ((nums (intsN (pre.map (·.val)))).length + (nums [(x.val : Int)]).length) * 8 ≤ _
    simp [nums, intsN]
    omega)) rfl rfl ?_
   (refine go ?_;repeat' (apply B<;>intro hb<;>try cases hb))
   have happ : nums (intsN (pre.map (·.val))) ++ nums [(x.val : Int)] = nums (intsN ((pre ++ [x]).map (·.val))) := by simp [nums, intsN]
   refine ⟨.inl rfl, intsN ((pre ++ [x]).map (·.val)), mv 0 2, ⟨rfl, rfl⟩, fun i hi => absurd hi (by omega), injOn_of rfl, ⟨⟨_, rfl, .ptr 1 0 0 (by decide)⟩, ⟨_, rfl, .pure _ ⟨⟨words_pure _, trivial⟩, trivial⟩⟩, trivial⟩, ⟨⟨by decide, _, rfl, ?_⟩, ⟨by decide, _, rfl, RenB.single ⟨.own 0 (by decide), trivial⟩ rfl⟩, trivial⟩⟩
   rw [← happ]
   exact .same _ (by rw [happ]; exact nums_pure _)
 · rintro xs acc hS ⟨-, rfl⟩
   rw [hS]
   repeat' (first | refine opsK_sub (subA_freeze (k := 15) rfl rfl (nums_pure _)) ?_ | (first|refine st ?_|(apply B<;>intro hb<;>try cases hb)))
   exact ret_ok rfl (nums_pure _) rfl
 · rintro ex pre acc - ⟨rfl, -⟩ (h | ⟨id, h⟩) <;> cases h
end Go.Proofs.YtbmhdpflloepkaaDoor

namespace Go.Proofs.YtbmhdpflloepkaaDoor
open Go.RowKit
set_option linter.unusedVariables false
attribute [local irreducible] aw opsK dK

theorem E_loadCp {size n : Nat} {e : Env} {h : Heap} {a : Operand} {l : List PV} (ha : ev e a = some (.cp l)) (hl : l.length = size) : dEval (.load true size a) e h n = some (.agg l, h) := by
 subst hl
 simp [dEval, ha, cutAt]
theorem pureLL_enc {α : Type} {enc : α → List PV} (hp : ∀ x, pureL (enc x)) (xs : List α) : pureLL (xs.map enc) := pureLL_map _ _ fun x _ => hp x
theorem any_take {α : Type} {p : α → Bool} {xs : List α} {i : Nat} (hi : i < xs.length) (h : (xs.take i).any p = false) (hx : p xs[i] = false) : (xs.take (i + 1)).any p = false := by
 rw [List.take_add_one, List.getElem?_eq_getElem hi, List.any_append, h]
 simp [hx]
def idxI {α : Type} (p : α → Bool) : List α → Int
 | [] => -1
 | x :: xs => if p x then 0 else (if idxI p xs < 0 then -1 else idxI p xs + 1)
theorem idxI_none {α : Type} {p : α → Bool} : ∀ {xs : List α}, xs.any p = false → idxI p xs = -1
 | [], _ => rfl
 | x :: xs, h => by
   rw [List.any_cons, Bool.or_eq_false_iff] at h
   simp [idxI, h.1, idxI_none h.2]
theorem idxI_at {α : Type} {p : α → Bool} : ∀ {xs : List α} {i : Nat} (hi : i < xs.length), (xs.take i).any p = false → p xs[i] = true → idxI p xs = (i : Int)
 | x :: xs, 0, _, _, hx => by simp only [List.getElem_cons_zero] at hx; simp [idxI, hx]
 | x :: xs, i + 1, hi, h, hx => by
   rw [List.take_succ_cons, List.any_cons, Bool.or_eq_false_iff] at h
   have := idxI_at (p := p) (xs := xs) (i := i) (by simpa using hi) h.2 (by simpa using hx)
   simp only [idxI, h.1, this]
   have h3 : ¬ ((i : Int) < 0) := by omega
   simp [h3]
theorem idxI_nonneg {α : Type} {p : α → Bool} : ∀ {xs : List α}, xs.any p = true → 0 ≤ idxI p xs
 | [], h => by cases h
 | x :: xs, h => by
   rw [List.any_cons, Bool.or_eq_true] at h
   unfold idxI
   by_cases hx : p x = true
   · rw [if_pos hx]; exact Int.le_refl 0
   · have := idxI_nonneg (h.resolve_left hx)
     rw [if_neg hx, if_neg (by omega)]
     omega
theorem idxI_any {α : Type} {p : α → Bool} {xs : List α} : decide (0 ≤ idxI p xs) = xs.any p := by
 cases h : xs.any p
 · rw [idxI_none h]; rfl
 · exact decide_eq_true (idxI_nonneg h)

set_option maxHeartbeats 1000000 in
theorem indexFuncC_spec {α : Type} (xs : List α) (enc : α → List PV) (fl : Bool) (g : Nat) (caps : List PV) (p : α → Bool) (hl : ∀ x, (enc x).length = 2) (hp : ∀ x, pureL (enc x)) (hc : pureL caps) (hg : ∀ x ∈ xs, Spec Tryd.prog g (.agg (enc x) :: caps) (· = .val (.bool (p x)))) :
 Spec Tryd.prog 68 [.vec (xs.map enc) fl, .fn g caps] (· = .val (.int .i64 (idxI p xs))) := by
 refine spec_intro ok68 (Nat.le_of_ble_eq_true rfl) fun C hC => ?_
 refine aw_len (k := 0) rfl fun hmax => ?_
 have hnl : (xs.map enc).length = xs.length := by simp
 have hlm : xs.length ≤ maxVec := by simpa using hmax
 (refine go ?_;repeat' (apply B<;>intro hb<;>try cases hb))
 refine aw_loopE (fun i => i ≤ xs.length ∧ (xs.take i).any p = false) (fun i => xs.length - i) (fun i => [(0, .vec (xs.map enc) fl), (1, .fn g caps), (7, .val (.int .i64 (xs.length : Int))), (8, .val (.int .i64 (i : Int)))]) 0 ⟨Nat.zero_le _, rfl⟩ ⟨rfl, rfl, by rw [← hnl]; rfl, rfl, trivial⟩ ?_
 rintro i ⟨hi, hno⟩
 have hinc : IntKind.i64.wrap ((i : Int) + 1) = ((i + 1 : Nat) : Int) := IntWalk.i64_in _ ⟨by omega, by simp only [maxVec] at hlm; omega⟩
 (refine go ?_;repeat' (apply B<;>intro hb<;>try cases hb))
 · have hil : i < xs.length := by simpa using hb
   refine opsK_of (E_iaddr (xs := xs) rfl rfl i rfl hil (hl _)) rfl rfl ?_
   refine opsK_of (E_loadCp rfl (hl _)) rfl rfl ?_
   refine opsK_eq (hg _ (List.getElem_mem hil)) rfl rfl rfl ⟨hp _, hc⟩ rfl ?_
   refine opsK_done ?_
   refine aw_cond rfl (fun hx => ?_) (fun hx => ?_)
   · (refine go ?_;repeat' (apply B<;>intro hb<;>try cases hb))
     exact ret_ok rfl trivial (by rw [idxI_at hil hno hx])
   · (refine go ?_;repeat' (apply B<;>intro hb<;>try cases hb))
     exact ⟨i + 1, ⟨by omega, any_take hil hno hx⟩, by omega, rfl, rfl, ⟨rfl, rfl, rfl, by show some _ = some _; rw [hinc], trivial⟩⟩
 · have hil : i = xs.length := by simp at hb; omega
   subst hil
   rw [List.take_length] at hno
   exact ret_ok rfl trivial (by rw [idxI_none hno]; rfl)

theorem containsFuncC_spec {α : Type} (xs : List α) (enc : α → List PV) (fl : Bool) (g : Nat) (caps : List PV) (p : α → Bool) (hl : ∀ x, (enc x).length = 2) (hp : ∀ x, pureL (enc x)) (hc : pureL caps) (hg : ∀ x ∈ xs, Spec Tryd.prog g (.agg (enc x) :: caps) (· = .val (.bool (p x)))) :
 Spec Tryd.prog 48 [.vec (xs.map enc) fl, .fn g caps] (· = .val (.bool (xs.any p))) := by
 refine spec_intro ok48 (Nat.le_of_ble_eq_true rfl) fun C hC => ?_
 (refine go ?_;repeat' (apply B<;>intro hb<;>try cases hb))
 refine opsK_eq (indexFuncC_spec xs enc fl g caps p hl hp hc hg) rfl rfl rfl ⟨pureLL_enc hp xs, hc, trivial⟩ rfl ?_
 refine opsK_of (E_boolEq rfl (idxI_any (p := p) (xs := xs))) rfl rfl ?_
 (refine go ?_;repeat' (apply B<;>intro hb<;>try cases hb))
 all_goals exact ret_ok rfl trivial (by rw [hb])
end Go.Proofs.YtbmhdpflloepkaaDoor

namespace Go.Proofs.YtbmhdpflloepkaaDoor
open Go.RowKit
set_option linter.unusedVariables false
attribute [local irreducible] aw opsK dK

abbrev Cu := Nat × Nat
def cuC (c : Cu) : List PV := [.vec (words (digs c.1)) false, .vec (words (digs c.2)) false]
def cuP (c : Cu) : PV := .agg (cuC c)
def Ok64 (c : Cu) : Prop := c.1 < 18446744073709551616 ∧ c.2 < 18446744073709551616
theorem cuC_pure (c : Cu) : pureL (cuC c) := ⟨words_pure _, words_pure _, trivial⟩
theorem cuP_pure (c : Cu) : (cuP c).pure := cuC_pure c
theorem cuC_len (c : Cu) : (cuC c).length = 2 := rfl

def emC (c : Cu) : Bool := decide (c.1 &&& c.2 ≠ 0)
def hoC (c : Cu) (s : Nat) : Bool := decide (c.1 ||| s = s) && !decide (c.2 &&& s ≠ 0)
def soC (l : List Cu) (s : Nat) : Bool := l.any fun c => hoC c s
def bothC (a b : Cu) : Cu := (a.1 ||| b.1, a.2 ||| b.2)
def eqC (a b : Cu) : Bool := decide (a.1 = b.1) && decide (a.2 = b.2)
theorem eqC_iff (a b : Cu) : eqC a b = true ↔ a = b := by
 obtain ⟨a1, a2⟩ := a
 obtain ⟨b1, b2⟩ := b
 simp [eqC, Prod.mk.injEq]

theorem emptyC_spec (c : Cu) (hc : Ok64 c) : Spec Tryd.prog 27 [cuP c] (· = .val (.bool (emC c))) := by
 refine spec_intro ok27 (Nat.le_of_ble_eq_true rfl) fun C hC => ?_
 refine aw_seq ?_
 refine aw_region ?_
 refine opsK_ofAlt rfl rfl rfl ?_
 (refine go ?_;repeat' (apply B<;>intro hb<;>try cases hb))
 refine opsK_eq (meets_spec c.1 c.2 hc.1 hc.2) rfl rfl rfl ⟨setN_pure _, setN_pure _, trivial⟩ rfl ?_
 (refine go ?_;repeat' (apply B<;>intro hb<;>try cases hb))
 all_goals exact ret_ok rfl trivial (boolE hb.symm)

theorem holdsC_spec (c : Cu) (s : Nat) (hc : Ok64 c) (hs : s < 18446744073709551616) : Spec Tryd.prog 50 [cuP c, setN s] (· = .val (.bool (hoC c s))) := by
 refine spec_intro ok50 (Nat.le_of_ble_eq_true rfl) fun C hC => ?_
 refine aw_seq ?_
 refine aw_region ?_
 refine opsK_ofAlt rfl rfl rfl ?_
 refine opsK_ofAlt rfl rfl rfl ?_
 (refine go ?_;repeat' (apply B<;>intro hb<;>try cases hb))
 refine opsK_eq (within_spec c.1 s hc.1 hs) rfl rfl rfl ⟨setN_pure _, setN_pure _, trivial⟩ rfl ?_
 unfold hoC
 cases hd : decide (c.1 ||| s = s)
 · (refine go ?_;repeat' (apply B<;>intro hb<;>try cases hb))
   exact ret_ok rfl trivial rfl
 · (refine go ?_;repeat' (apply B<;>intro hb<;>try cases hb))
   refine opsK_eq (meets_spec c.2 s hc.2 hs) rfl rfl rfl ⟨setN_pure _, setN_pure _, trivial⟩ rfl ?_
   (refine go ?_;repeat' (apply B<;>intro hb<;>try cases hb))
   all_goals exact ret_ok rfl trivial (boolE (by simp_all))

theorem someC1_spec (c : Cu) (s : Nat) (hc : Ok64 c) (hs : s < 18446744073709551616) : Spec Tryd.prog 49 [cuP c, .cp [.vec (words (digs s)) false]] (· = .val (.bool (hoC c s))) := by
 refine spec_intro ok49 (Nat.le_of_ble_eq_true rfl) fun C hC => ?_
 refine aw_seq ?_
 refine aw_region ?_
 refine opsK_ofAlt rfl rfl rfl ?_
 (refine go ?_;repeat' (apply B<;>intro hb<;>try cases hb))
 refine opsK_eq (holdsC_spec c s hc hs) rfl rfl rfl ⟨cuC_pure _, setN_pure _, trivial⟩ rfl ?_
 (refine go ?_;repeat' (apply B<;>intro hb<;>try cases hb))
 all_goals exact ret_ok rfl trivial (boolE (by simp [hb]))

theorem someC_spec (l : List Cu) (fl : Bool) (s : Nat) (hl : ∀ c ∈ l, Ok64 c) (hs : s < 18446744073709551616) : Spec Tryd.prog 24 [.vec (l.map cuC) fl, setN s] (· = .val (.bool (soC l s))) := by
 refine spec_intro ok24 (Nat.le_of_ble_eq_true rfl) fun C hC => ?_
 refine aw_seq ?_
 refine aw_region ?_
 refine opsK_ofAlt rfl rfl rfl ?_
 (refine go ?_;repeat' (apply B<;>intro hb<;>try cases hb))
 refine opsK_eq (containsFuncC_spec l cuC fl _ [.cp [.vec (words (digs s)) false]] (fun c => hoC c s) cuC_len cuC_pure ⟨setN_pure s, trivial⟩ fun c hc => someC1_spec c s (hl c hc) hs) rfl rfl rfl ⟨pureLL_enc cuC_pure l, ⟨setN_pure s, trivial⟩, trivial⟩ rfl ?_
 (refine go ?_;repeat' (apply B<;>intro hb<;>try cases hb))
 all_goals exact ret_ok rfl trivial (boolE hb.symm)

theorem bothC_spec (a b : Cu) (ha : Ok64 a) (hb : Ok64 b) : Spec Tryd.prog 26 [cuP a, cuP b] (· = cuP (bothC a b)) := by
 refine spec_intro ok26 (Nat.le_of_ble_eq_true rfl) fun C hC => ?_
 refine aw_seq ?_
 refine aw_region ?_
 refine opsK_ofAlt rfl rfl rfl ?_
 refine opsK_ofAlt rfl rfl rfl ?_
 (refine go ?_;repeat' (apply B<;>intro hb<;>try cases hb))
 refine dK_eq (orS_spec a.1 b.1 ha.1 hb.1) rfl rfl rfl ⟨setN_pure _, setN_pure _, trivial⟩ ?_
 (refine go ?_;repeat' (apply B<;>intro hb<;>try cases hb))
 refine dK_eq (orS_spec a.2 b.2 ha.2 hb.2) rfl rfl rfl ⟨setN_pure _, setN_pure _, trivial⟩ ?_
 (refine go ?_;repeat' (apply B<;>intro hb<;>try cases hb))
 exact ret_ok (r := cuP (bothC a b)) rfl (cuP_pure _) rfl

def meC (a b : Cu) : Cu × Bool := if emC (bothC a b) then ((0, 0), false) else (bothC a b, true)
theorem bothC_ok {a b : Cu} (ha : Ok64 a) (hb : Ok64 b) : Ok64 (bothC a b) := ⟨or_lt ha.1 hb.1, or_lt ha.2 hb.2⟩
theorem cuC_zero : cuC (0, 0) = [.vec [] false, .vec [] false] := by simp only [cuC]; rw [digs_zero]; rfl
theorem meetC_spec (a b : Cu) (ha : Ok64 a) (hb : Ok64 b) : Spec Tryd.prog 10 [cuP a, cuP b] (· = .tup [cuP (meC a b).1, .val (.bool (meC a b).2)]) := by
 refine spec_intro ok10 (Nat.le_of_ble_eq_true rfl) fun C hC => ?_
 refine aw_seq ?_
 refine aw_region ?_
 refine opsK_ofAlt rfl rfl rfl ?_
 refine opsK_ofAlt rfl rfl rfl ?_
 (refine go ?_;repeat' (apply B<;>intro hb<;>try cases hb))
 refine opsK_eq (bothC_spec a b ha hb) rfl rfl rfl ⟨cuC_pure _, cuC_pure _, trivial⟩ rfl ?_
 (refine go ?_;repeat' (apply B<;>intro hb<;>try cases hb))
 refine opsK_eq (emptyC_spec _ (bothC_ok ha hb)) rfl rfl rfl ⟨cuC_pure _, trivial⟩ rfl ?_
 unfold meC
 cases he : emC (bothC a b)
 · (refine go ?_;repeat' (apply B<;>intro hb<;>try cases hb))
   exact ret_ok rfl ⟨cuP_pure _, trivial, trivial⟩ rfl
 · (refine go ?_;repeat' (apply B<;>intro hb<;>try cases hb))
   refine ret_low rfl (pure_of rfl) ?_
   simp only [if_true, cuP, cuC_zero]
   rfl

theorem equalC_spec (a b : Cu) (ha : Ok64 a) (hb : Ok64 b) : Spec Tryd.prog 14 [cuP a, cuP b] (· = .val (.bool (eqC a b))) := by
 refine spec_intro ok14 (Nat.le_of_ble_eq_true rfl) fun C hC => ?_
 refine aw_seq ?_
 refine aw_region ?_
 refine opsK_ofAlt rfl rfl rfl ?_
 refine opsK_ofAlt rfl rfl rfl ?_
 (refine go ?_;repeat' (apply B<;>intro hb<;>try cases hb))
 refine opsK_eq (equalS_spec a.1 b.1 ha.1 hb.1) rfl rfl rfl ⟨setN_pure _, setN_pure _, trivial⟩ rfl ?_
 unfold eqC
 cases hd : decide (a.1 = b.1)
 · (refine go ?_;repeat' (apply B<;>intro hb<;>try cases hb))
   exact ret_ok rfl trivial rfl
 · (refine go ?_;repeat' (apply B<;>intro hb<;>try cases hb))
   refine opsK_eq (equalS_spec a.2 b.2 ha.2 hb.2) rfl rfl rfl ⟨setN_pure _, setN_pure _, trivial⟩ rfl ?_
   (refine go ?_;repeat' (apply B<;>intro hb<;>try cases hb))
   all_goals exact ret_ok rfl trivial (boolE (by simp_all))
end Go.Proofs.YtbmhdpflloepkaaDoor

namespace Go.Proofs.YtbmhdpflloepkaaDoor
open Go.RowKit
set_option linter.unusedVariables false
attribute [local irreducible] aw opsK dK

def bl (x : Nat) : Nat := if x = 0 then 0 else x.log2 + 1
theorem bl_half {x : Nat} (h : x ≠ 0) : bl x = bl (x / 2) + 1 := by
 unfold bl
 rw [if_neg h]
 by_cases h1 : x / 2 = 0
 · have : x = 1 := by omega
   subst this
   rfl
 · rw [if_neg h1, Nat.log2_def, if_pos (by omega)]
theorem bl_shift : ∀ {k x : Nat}, 2 ^ k ≤ x → bl x = k + bl (x / 2 ^ k)
 | 0, x, _ => by simp
 | k + 1, x, h => by
   have hp : 0 < 2 ^ k := Nat.pow_pos (by decide)
   rw [Nat.pow_succ] at h
   rw [bl_half (by omega), bl_shift (k := k) (x := x / 2) (by omega), Nat.div_div_eq_div_mul, Nat.pow_succ, Nat.mul_comm 2]
   omega
theorem bl_le : ∀ {k x : Nat}, x < 2 ^ k → bl x ≤ k
 | 0, x, h => by simp at h; subst h; exact Nat.le_refl _
 | k + 1, x, h => by
   by_cases h0 : x = 0
   · subst h0; exact Nat.zero_le _
   · have := bl_le (k := k) (x := x / 2) (by rw [Nat.pow_succ] at h; omega)
     rw [bl_half h0]; omega
theorem fd (a k : Nat) (c : Int) (hc : (2 : Int) ^ (min c.toNat IntKind.u64.bits) = ((k : Nat) : Int)) : Int.fdiv (a : Int) (2 ^ (min c.toNat IntKind.u64.bits)) = ((a / k : Nat) : Int) := by
 rw [hc, Int.fdiv_eq_ediv_of_nonneg _ (by omega)]
 exact (Int.natCast_ediv a k).symm
theorem fd32 (a : Nat) : Int.fdiv (a : Int) (2 ^ (min (32 : Int).toNat IntKind.u64.bits)) = ((a / 4294967296 : Nat) : Int) := fd a _ 32 rfl
theorem fd16 (a : Nat) : Int.fdiv (a : Int) (2 ^ (min (16 : Int).toNat IntKind.u64.bits)) = ((a / 65536 : Nat) : Int) := fd a _ 16 rfl
theorem fd8 (a : Nat) : Int.fdiv (a : Int) (2 ^ (min (8 : Int).toNat IntKind.u64.bits)) = ((a / 256 : Nat) : Int) := fd a _ 8 rfl
theorem ge_of {a b : Nat} (h : decide ((a : Int) ≥ (b : Int)) = true) : b ≤ a := by simpa using h
theorem lt_of {a b : Nat} (h : decide ((a : Int) ≥ (b : Int)) = false) : a < b := by simpa using h
theorem u8w {a : Nat} (h : a < 256) : IntKind.u8.wrap (a : Int) = (a : Int) := IntWalk.u8_in _ ⟨by omega, by omega⟩
theorem E_bl {n : Nat} {e : Env} {h : Heap} {x i : Operand} {s : ByteArray} {k : IntKind} {m : Int} (hx : ev e x = some (.val (.string s))) (hi : ev e i = some (.val (.int k m))) (j : Nat) (hm : m = (j : Int)) (hj : j < 256)
 (hs : (decide (s.size = 256) && (List.range 256).all fun j => (s.data.toList.getD j 0).toNat == bl j) = true) : dEval (.indexS x i) e h n = some (.val (.int .u8 (bl j : Nat)), h) := by
 rw [Bool.and_eq_true, List.all_eq_true] at hs
 have h1 : s.size = 256 := of_decide_eq_true hs.1
 have h2 := hs.2 j (List.mem_range.2 hj)
 have h3 : (s.data.toList.getD j 0).toNat = bl j := by simpa using h2
 subst hm
 simp only [dEval, hx, hi, h1, Int.toNat_natCast, h3]
 rw [if_pos (by omega)]
theorem len_end {x s j : Nat} (h : bl x = s + bl j) (hs : s ≤ 64) (hj : j < 256) : PV.val (.int .i64 (IntKind.i64.wrap ((s : Int) + IntKind.i64.wrap (bl j : Nat)))) = .val (.int .i64 (bl x : Nat)) := by
 have := bl_le (k := 8) (x := j) hj
 rw [IntWalk.i64_in ((bl j : Nat) : Int) ⟨by omega, by omega⟩, IntWalk.i64_in _ ⟨by omega, by omega⟩, h]
 rfl

set_option maxRecDepth 20000 in
set_option maxHeartbeats 4000000 in
theorem len64_spec (x : Nat) (hx : x < 18446744073709551616) : Spec Tryd.prog 59 [.val (.int .u64 (x : Int))] (· = .val (.int .i64 (bl x : Nat))) := by
 refine spec_intro ok59 (Nat.le_of_ble_eq_true rfl) fun C hC => ?_
 (refine go ?_;repeat' (apply B<;>intro hb<;>try cases hb))
 · rename_i h1 h2
   have g1 := ge_of (b := 4294967296) h1
   rw [fd32] at h2
   have g2 := ge_of (b := 65536) h2
   rw [fd32, fd16] at hb
   have g3 := ge_of (b := 256) hb
   refine opsK_of (E_bl rfl rfl (((x / 4294967296) / 65536) / 256) (by rw [fd32, fd16, fd8]; exact u8w (by omega)) (by omega) (by decide +kernel)) rfl rfl ?_
   (refine go ?_;repeat' (apply B<;>intro hb<;>try cases hb))
   have q1 : bl (x) = 32 + bl ((x) / 4294967296) := bl_shift (k := 32) g1
   have q2 : bl (x / 4294967296) = 16 + bl ((x / 4294967296) / 65536) := bl_shift (k := 16) g2
   have q3 : bl ((x / 4294967296) / 65536) = 8 + bl (((x / 4294967296) / 65536) / 256) := bl_shift (k := 8) g3
   exact ret_ok rfl trivial (len_end (s := 56) (j := ((x / 4294967296) / 65536) / 256) (by omega) (by decide) (by omega))
 · rename_i h1 h2
   have g1 := ge_of (b := 4294967296) h1
   rw [fd32] at h2
   have g2 := ge_of (b := 65536) h2
   rw [fd32, fd16] at hb
   have g3 := lt_of (b := 256) hb
   refine opsK_of (E_bl rfl rfl ((x / 4294967296) / 65536) (by rw [fd32, fd16]; exact u8w (by omega)) (by omega) (by decide +kernel)) rfl rfl ?_
   (refine go ?_;repeat' (apply B<;>intro hb<;>try cases hb))
   have q1 : bl (x) = 32 + bl ((x) / 4294967296) := bl_shift (k := 32) g1
   have q2 : bl (x / 4294967296) = 16 + bl ((x / 4294967296) / 65536) := bl_shift (k := 16) g2
   exact ret_ok rfl trivial (len_end (s := 48) (j := (x / 4294967296) / 65536) (by omega) (by decide) (by omega))
 · rename_i h1 h2
   have g1 := ge_of (b := 4294967296) h1
   rw [fd32] at h2
   have g2 := lt_of (b := 65536) h2
   rw [fd32] at hb
   have g3 := ge_of (b := 256) hb
   refine opsK_of (E_bl rfl rfl ((x / 4294967296) / 256) (by rw [fd32, fd8]; exact u8w (by omega)) (by omega) (by decide +kernel)) rfl rfl ?_
   (refine go ?_;repeat' (apply B<;>intro hb<;>try cases hb))
   have q1 : bl (x) = 32 + bl ((x) / 4294967296) := bl_shift (k := 32) g1
   have q3 : bl (x / 4294967296) = 8 + bl ((x / 4294967296) / 256) := bl_shift (k := 8) g3
   exact ret_ok rfl trivial (len_end (s := 40) (j := (x / 4294967296) / 256) (by omega) (by decide) (by omega))
 · rename_i h1 h2
   have g1 := ge_of (b := 4294967296) h1
   rw [fd32] at h2
   have g2 := lt_of (b := 65536) h2
   rw [fd32] at hb
   have g3 := lt_of (b := 256) hb
   refine opsK_of (E_bl rfl rfl (x / 4294967296) (by rw [fd32]; exact u8w (by omega)) (by omega) (by decide +kernel)) rfl rfl ?_
   (refine go ?_;repeat' (apply B<;>intro hb<;>try cases hb))
   have q1 : bl (x) = 32 + bl ((x) / 4294967296) := bl_shift (k := 32) g1
   exact ret_ok rfl trivial (len_end (s := 32) (j := x / 4294967296) (by omega) (by decide) (by omega))
 · rename_i h1 h2
   have g1 := lt_of (b := 4294967296) h1
   have g2 := ge_of (b := 65536) h2
   rw [fd16] at hb
   have g3 := ge_of (b := 256) hb
   refine opsK_of (E_bl rfl rfl ((x / 65536) / 256) (by rw [fd16, fd8]; exact u8w (by omega)) (by omega) (by decide +kernel)) rfl rfl ?_
   (refine go ?_;repeat' (apply B<;>intro hb<;>try cases hb))
   have q2 : bl (x) = 16 + bl ((x) / 65536) := bl_shift (k := 16) g2
   have q3 : bl (x / 65536) = 8 + bl ((x / 65536) / 256) := bl_shift (k := 8) g3
   exact ret_ok rfl trivial (len_end (s := 24) (j := (x / 65536) / 256) (by omega) (by decide) (by omega))
 · rename_i h1 h2
   have g1 := lt_of (b := 4294967296) h1
   have g2 := ge_of (b := 65536) h2
   rw [fd16] at hb
   have g3 := lt_of (b := 256) hb
   refine opsK_of (E_bl rfl rfl (x / 65536) (by rw [fd16]; exact u8w (by omega)) (by omega) (by decide +kernel)) rfl rfl ?_
   (refine go ?_;repeat' (apply B<;>intro hb<;>try cases hb))
   have q2 : bl (x) = 16 + bl ((x) / 65536) := bl_shift (k := 16) g2
   exact ret_ok rfl trivial (len_end (s := 16) (j := x / 65536) (by omega) (by decide) (by omega))
 · rename_i h1 h2
   have g1 := lt_of (b := 4294967296) h1
   have g2 := lt_of (b := 65536) h2
   have g3 := ge_of (b := 256) hb
   refine opsK_of (E_bl rfl rfl (x / 256) (by rw [fd8]; exact u8w (by omega)) (by omega) (by decide +kernel)) rfl rfl ?_
   (refine go ?_;repeat' (apply B<;>intro hb<;>try cases hb))
   have q3 : bl (x) = 8 + bl ((x) / 256) := bl_shift (k := 8) g3
   exact ret_ok rfl trivial (len_end (s := 8) (j := x / 256) (by omega) (by decide) (by omega))
 · rename_i h1 h2
   have g1 := lt_of (b := 4294967296) h1
   have g2 := lt_of (b := 65536) h2
   have g3 := lt_of (b := 256) hb
   refine opsK_of (E_bl rfl rfl (x) (by exact u8w (by omega)) (by omega) (by decide +kernel)) rfl rfl ?_
   (refine go ?_;repeat' (apply B<;>intro hb<;>try cases hb))
   exact ret_ok rfl trivial (len_end (s := 0) (j := x) ((Nat.zero_add _).symm) (by decide) (by omega))
end Go.Proofs.YtbmhdpflloepkaaDoor

namespace Go.Proofs.YtbmhdpflloepkaaDoor
open Go.RowKit
set_option linter.unusedVariables false
attribute [local irreducible] aw opsK dK

theorem bl_gt {k x : Nat} : k < bl x ↔ 2 ^ k ≤ x := by
 constructor
 · intro h
   rcases Nat.lt_or_ge x (2 ^ k) with h1 | h1
   · have := bl_le h1; omega
   · exact h1
 · intro h
   rw [bl_shift h]
   have h1 : 1 ≤ x / 2 ^ k := (Nat.one_le_div_iff (Nat.pow_pos (by decide))).2 h
   have h2 : bl (x / 2 ^ k) = bl (x / 2 ^ k / 2) + 1 := bl_half (by omega)
   omega
def topN (N : Nat) : Int := if N = 0 then 0 else (bl N : Int) - 1
theorem greatest_spec (N : Nat) (hN : N < 18446744073709551616) : Spec Tryd.prog 40 [setN N] (· = .tup [.val (.int .i64 (topN N)), .val (.bool (decide (N ≠ 0)))]) := by
 rcases set_cases hN with ⟨rfl, e1⟩ | ⟨h1, e1⟩
 all_goals
  refine spec_intro ok40 (Nat.le_of_ble_eq_true rfl) fun C hC => ?_
  rw [e1]
  refine aw_seq ?_
  refine aw_region ?_
  refine opsK_ofAlt rfl rfl rfl ?_
  (refine go ?_;repeat' (apply B<;>intro hb<;>try cases hb))
  refine opsK_eq (empty_spec _ hN) rfl rfl (by rw [e1]; rfl) ⟨setN_pure _, trivial⟩ rfl ?_
 · (refine go ?_;repeat' (apply B<;>intro hb<;>try cases hb))
   exact ret_ok rfl (pure_of rfl) rfl
 · have hd : decide (N = 0) = false := decide_eq_false h1
   rw [hd]
   (refine go ?_;repeat' (apply B<;>intro hb<;>try cases hb))
   refine opsK_eq (len64_spec N hN) rfl rfl rfl ⟨trivial, trivial⟩ rfl ?_
   have hb := bl_le (k := 64) hN
   have hp := bl_half h1
   (refine go ?_;repeat' (apply B<;>intro hb<;>try cases hb))
   refine ret_ok rfl (pure_of rfl) ?_
   unfold topN
   rw [if_neg h1, decide_eq_true h1]
   have w0 : IntKind.i64.wrap (64 * IntKind.i64.wrap (1 - 1)) = 0 := by decide
   have w1 : IntKind.i64.wrap (0 + (bl N : Int)) = (bl N : Int) := by rw [Int.zero_add]; exact IntWalk.i64_in _ ⟨by omega, by omega⟩
   have w2 : IntKind.i64.wrap ((bl N : Int) - 1) = (bl N : Int) - 1 := IntWalk.i64_in _ ⟨by omega, by omega⟩
   show PV.tup [.val (.int .i64 (IntKind.i64.wrap (IntKind.i64.wrap (IntKind.i64.wrap (64 * IntKind.i64.wrap (1 - 1)) + (bl N : Int)) - 1))), .val (.bool true)] = _
   rw [w0, w1, w2]

theorem beyond_spec (N : Nat) (hN : N < 18446744073709551616) (i : Nat) (hi : i < 64) : Spec Tryd.prog 81 [setN N, .val (.int .i64 (i : Int))] (· = .val (.bool (decide (N / 2 ^ (i + 1) ≠ 0)))) := by
 refine spec_intro ok81 (Nat.le_of_ble_eq_true rfl) fun C hC => ?_
 refine aw_seq ?_
 refine aw_region ?_
 refine opsK_ofAlt rfl rfl rfl ?_
 (refine go ?_;repeat' (apply B<;>intro hb<;>try cases hb))
 refine opsK_eq (greatest_spec N hN) rfl rfl rfl ⟨setN_pure _, trivial⟩ rfl ?_
 have hdiv : N / 2 ^ (i + 1) ≠ 0 ↔ 2 ^ (i + 1) ≤ N := by
  rw [Ne, Nat.div_eq_zero_iff_lt (Nat.pow_pos (by decide))]
  omega
 have hg := bl_gt (k := i + 1) (x := N)
 by_cases h0 : N = 0
 · subst h0
   rw [show decide ((0 : Nat) ≠ 0) = false from rfl]
   (refine go ?_;repeat' (apply B<;>intro hb<;>try cases hb))
   exact ret_ok rfl trivial (boolE (by simp))
 · rw [decide_eq_true (p := N ≠ 0) h0]
   have ht : topN N = (bl N : Int) - 1 := if_neg h0
   rw [ht]
   (refine go ?_;repeat' (apply B<;>intro hb<;>try cases hb))
   all_goals
    refine ret_ok rfl trivial (boolE ?_)
    symm
   · rw [decide_eq_true_iff, hdiv, ← hg]
     have : (bl N : Int) - 1 > (i : Int) := by simpa using hb
     omega
   · rw [decide_eq_false_iff_not, hdiv, ← hg]
     have : ¬ (bl N : Int) - 1 > (i : Int) := by simpa using hb
     omega
end Go.Proofs.YtbmhdpflloepkaaDoor

namespace Go.Proofs.YtbmhdpflloepkaaDoor
open Go.RowKit
set_option linter.unusedVariables false
attribute [local irreducible] aw opsK dK

theorem tz_lt {x : Nat} (hx : x < 18446744073709551616) (h : x ≠ 0) : tz x < 64 := bit_lt hx (tz_bit h)
theorem key_sgn {a b : Nat} (ha : a < 18446744073709551616) (hb : b < 18446744073709551616) (hn : a ≠ b) : sgnI (key a) (key b) = (if a.testBit (tz (a ^^^ b)) then (if b / 2 ^ (tz (a ^^^ b) + 1) = 0 then 1 else -1) else (if a / 2 ^ (tz (a ^^^ b) + 1) = 0 then -1 else 1)) := key_tz 64 ha hb hn
theorem xor_ne {a b : Nat} (hn : a ≠ b) : a ^^^ b ≠ 0 := fun h => hn (Nat.eq_of_testBit_eq fun i => by
 have : (a ^^^ b).testBit i = false := by rw [h]; simp
 rw [Nat.testBit_xor] at this
 cases h1 : a.testBit i <;> cases h2 : b.testBit i <;> simp_all)

theorem getD_zero (N : Nat) (hN : N < 18446744073709551616) : (digs N).getD 0 0 = N := by
 by_cases h : N = 0
 · subst h; rw [digs_zero]; rfl
 · rw [digs_one hN h]; rfl
set_option maxHeartbeats 4000000 in
theorem compareS_spec (N M : Nat) (hN : N < 18446744073709551616) (hM : M < 18446744073709551616) : Spec Tryd.prog 65 [setN N, setN M] (· = .val (.int .i64 (sgnI (key N) (key M)))) := by
 have hxor := bits_xor_u64_nat N M hN hM
 have hxl : N ^^^ M < 18446744073709551616 := Nat.xor_lt_two_pow (n := 64) hN hM
 by_cases hz : N = 0 ∧ M = 0
 · obtain ⟨rfl, rfl⟩ := hz
   rw [setN_zero]
   refine spec_intro ok65 (Nat.le_of_ble_eq_true rfl) fun C hC => ?_
   refine aw_seq ?_
   refine aw_region ?_
   refine opsK_ofAlt rfl rfl rfl ?_
   refine opsK_ofAlt rfl rfl rfl ?_
   (refine go ?_;repeat' (apply B<;>intro hb<;>try cases hb))
   refine aw_rounds 0 ?_
   (refine go ?_;repeat' (apply B<;>intro hb<;>try cases hb))
   exact ret_ok rfl trivial (by rw [sgnI_self]; rfl)
 · have hlen : max (digs N).length (digs M).length = 1 := by
    have h1 : ∀ x, x < 18446744073709551616 → (digs x).length = if x = 0 then 0 else 1 := fun x hx => by
     by_cases h : x = 0
     · subst h; rw [digs_zero]; rfl
     · rw [digs_one hx h, if_neg h]; rfl
    rw [h1 N hN, h1 M hM]
    by_cases h2 : N = 0 <;> by_cases h3 : M = 0 <;> simp_all
   refine spec_intro ok65 (Nat.le_of_ble_eq_true rfl) fun C hC => ?_
   refine aw_seq ?_
   refine aw_region ?_
   refine opsK_ofAlt rfl rfl rfl ?_
   refine opsK_ofAlt rfl rfl rfl ?_
   (refine go ?_;repeat' (apply B<;>intro hb<;>try cases hb))
   refine aw_keep hC [(2, .cp [.vec (words (digs N)) false]), (3, .cp [.vec (words (digs M)) false]), (14, .val (.int .i64 1)), (15, .val (.int .i64 0))] [] (Nat.zero_le 0) ⟨⟨rfl, words_inn _ _, trivial⟩, ⟨rfl, words_inn _ _, trivial⟩, ⟨?_, trivial⟩, ⟨rfl, trivial⟩, trivial⟩ trivial ?_
   · have h1 : (words (digs N)).length = (digs N).length := by simp [words]
     have h2 : (words (digs M)).length = (digs M).length := by simp [words]
     show some (PV.val (.int .i64 (if ((words (digs M)).length : Int) > ((words (digs N)).length : Int) then ((words (digs M)).length : Int) else ((words (digs N)).length : Int)))) = _
     rw [h1, h2, show (if ((digs M).length : Int) > ((digs N).length : Int) then ((digs M).length : Int) else ((digs N).length : Int)) = 1 by split <;> omega]
   refine aw_rounds 1 ?_
   (refine go ?_;repeat' (apply B<;>intro hb<;>try cases hb))
   refine dK_eq (word_spec (digs N) 0) rfl rfl rfl ⟨setN_pure N, trivial, trivial⟩ ?_
   rw [getD_zero N hN]
   (refine go ?_;repeat' (apply B<;>intro hb<;>try cases hb))
   refine dK_eq (word_spec (digs M) 0) rfl rfl rfl ⟨setN_pure M, trivial, trivial⟩ ?_
   rw [getD_zero M hM]
   refine dK_of (E_int rfl hxor) rfl rfl ?_
   (refine go ?_;repeat' (apply B<;>intro hb<;>try cases hb))
   · have h0 : ((N ^^^ M : Nat) : Int) = 0 := by simpa using hb
     have hz : N = M := Classical.byContradiction fun hn => xor_ne hn (by omega)
     exact ret_ok rfl trivial (by rw [hz, sgnI_self]; rfl)
   · have h0 : ¬ ((N ^^^ M : Nat) : Int) = 0 := by simpa using hb
     have hn : N ≠ M := fun h => h0 (by subst h; simp)
     have hx0 := xor_ne hn
     have ht := tz_lt hxl hx0
     have hbit := tz_bit hx0
     rw [Nat.testBit_xor] at hbit
     have hsg := key_sgn hN hM hn
     refine opsK_eq (tz_spec _ hxl hx0) rfl rfl rfl ⟨trivial, trivial⟩ rfl ?_
     have hadd : IntKind.i64.wrap (IntKind.i64.wrap (64 * 0) + ((tz (N ^^^ M) : Nat) : Int)) = ((tz (N ^^^ M) : Nat) : Int) := by
      rw [show IntKind.i64.wrap (64 * 0) = 0 by decide, Int.zero_add]
      exact IntWalk.i64_in _ ⟨by omega, by omega⟩
     refine opsK_of (E_int rfl hadd) rfl rfl ?_
     generalize tz (N ^^^ M) = t at *
     (refine go ?_;repeat' (apply B<;>intro hb<;>try cases hb))
     refine dK_eq (hasS_spec N hN t) rfl rfl rfl ⟨setN_pure N, trivial, trivial⟩ ?_
     rw [show (decide ((0 : Int) ≤ (t : Int)) && N.testBit (t : Int).toNat) = N.testBit t by simp]
     (refine go ?_;repeat' (apply B<;>intro hb<;>try cases hb))
     refine dK_eq (hasS_spec M hM t) rfl rfl rfl ⟨setN_pure M, trivial, trivial⟩ ?_
     rw [show (decide ((0 : Int) ≤ (t : Int)) && M.testBit (t : Int).toNat) = M.testBit t by simp]
     cases hN1 : N.testBit t <;> cases hM1 : M.testBit t <;> rw [hN1, hM1] at hbit <;> try cases hbit
     · rw [hN1] at hsg
       (refine go ?_;repeat' (apply B<;>intro hb<;>try cases hb))
       refine opsK_eq (hasS_spec N hN t) rfl rfl rfl ⟨setN_pure N, trivial, trivial⟩ rfl ?_
       rw [show (decide ((0 : Int) ≤ (t : Int)) && N.testBit (t : Int).toNat) = false by simp [hN1]]
       (refine go ?_;repeat' (apply B<;>intro hb<;>try cases hb))
       refine opsK_eq (hasS_spec M hM t) rfl rfl rfl ⟨setN_pure M, trivial, trivial⟩ rfl ?_
       rw [show (decide ((0 : Int) ≤ (t : Int)) && M.testBit (t : Int).toNat) = true by simp [hM1]]
       (refine go ?_;repeat' (apply B<;>intro hb<;>try cases hb))
       refine opsK_eq (beyond_spec N hN t ht) rfl rfl rfl ⟨setN_pure N, trivial, trivial⟩ rfl ?_
       by_cases hd : N / 2 ^ (t + 1) = 0
       · rw [show decide (N / 2 ^ (t + 1) ≠ 0) = false by simp [hd]]
         (refine go ?_;repeat' (apply B<;>intro hb<;>try cases hb))
         exact ret_ok rfl trivial (by rw [hsg, if_neg (by decide), if_pos hd]; rfl)
       · rw [show decide (N / 2 ^ (t + 1) ≠ 0) = true by simp [hd]]
         (refine go ?_;repeat' (apply B<;>intro hb<;>try cases hb))
         exact ret_ok rfl trivial (by rw [hsg, if_neg (by decide), if_neg hd]; rfl)
     · rw [hN1] at hsg
       (refine go ?_;repeat' (apply B<;>intro hb<;>try cases hb))
       refine opsK_eq (hasS_spec N hN t) rfl rfl rfl ⟨setN_pure N, trivial, trivial⟩ rfl ?_
       rw [show (decide ((0 : Int) ≤ (t : Int)) && N.testBit (t : Int).toNat) = true by simp [hN1]]
       (refine go ?_;repeat' (apply B<;>intro hb<;>try cases hb))
       refine opsK_eq (beyond_spec M hM t ht) rfl rfl rfl ⟨setN_pure M, trivial, trivial⟩ rfl ?_
       by_cases hd : M / 2 ^ (t + 1) = 0
       · rw [show decide (M / 2 ^ (t + 1) ≠ 0) = false by simp [hd]]
         (refine go ?_;repeat' (apply B<;>intro hb<;>try cases hb))
         refine opsK_eq (hasS_spec M hM t) rfl rfl rfl ⟨setN_pure M, trivial, trivial⟩ rfl ?_
         rw [show (decide ((0 : Int) ≤ (t : Int)) && M.testBit (t : Int).toNat) = false by simp [hM1]]
         (refine go ?_;repeat' (apply B<;>intro hb<;>try cases hb))
         exact ret_ok rfl trivial (by rw [hsg, if_pos rfl, if_pos hd]; rfl)
       · rw [show decide (M / 2 ^ (t + 1) ≠ 0) = true by simp [hd]]
         (refine go ?_;repeat' (apply B<;>intro hb<;>try cases hb))
         exact ret_ok rfl trivial (by rw [hsg, if_pos rfl, if_neg hd]; rfl)

attribute [local irreducible] sgnI keyK in
set_option maxHeartbeats 1000000 in
theorem compareC_spec (a b : Cu) (ha : Ok64 a) (hb0 : Ok64 b) : Spec Tryd.prog 45 [cuP a, cuP b] (· = .val (.int .i64 (cmpC a b))) := by
 refine spec_intro ok45 (Nat.le_of_ble_eq_true rfl) fun C hC => ?_
 refine aw_seq ?_
 refine aw_region ?_
 refine opsK_ofAlt rfl rfl rfl ?_
 refine opsK_ofAlt rfl rfl rfl ?_
 (refine go ?_;repeat' (apply B<;>intro hb<;>try cases hb))
 refine opsK_eq (compareS_spec a.1 b.1 ha.1 hb0.1) rfl rfl rfl ⟨setN_pure _, setN_pure _, trivial⟩ rfl ?_
 (refine go ?_;repeat' (apply B<;>intro hb<;>try cases hb))
 · have h : sgnI (key a.1) (key b.1) ≠ 0 := by simpa using hb
   exact ret_ok rfl trivial (by rw [cmpC, if_pos h])
 · have h : ¬ sgnI (key a.1) (key b.1) ≠ 0 := by simpa using hb
   refine opsK_eq (compareS_spec a.2 b.2 ha.2 hb0.2) rfl rfl rfl ⟨setN_pure _, setN_pure _, trivial⟩ rfl ?_
   (refine go ?_;repeat' (apply B<;>intro hb<;>try cases hb))
   exact ret_ok rfl trivial (by rw [cmpC, if_neg h])
end Go.Proofs.YtbmhdpflloepkaaDoor

namespace Go.Proofs.YtbmhdpflloepkaaDoor
open Go.RowKit
set_option linter.unusedVariables false
attribute [local irreducible] aw opsK dK

theorem insideL_zero {k : Int} : ∀ {l : List Fm}, (∀ a ∈ l, insideM k a = 0) → insideL k l = 0
 | [], _ => rfl
 | a :: r, h => by simp only [insideL]; rw [if_pos (h a (by simp))]; exact insideL_zero fun b hb => h b (by simp [hb])
end Go.Proofs.YtbmhdpflloepkaaDoor

namespace Go.Proofs.YtbmhdpflloepkaaDoor
open Go.RowKit
set_option linter.unusedVariables false
attribute [local irreducible] aw opsK dK

structure Asc (acc : List Int) (k : Nat) : Prop where
 len : acc.length ≤ k
 rng : ∀ r ∈ acc, 1 ≤ r ∧ r ≤ (k : Int)
 nd : acc.Nodup
end Go.Proofs.YtbmhdpflloepkaaDoor

namespace Go.Proofs.YtbmhdpflloepkaaDoor
open Go.RowKit
set_option linter.unusedVariables false

structure At (p : Prop) : Prop where
 h : p
theorem at_dst {P : Program} (k : Nat) {op : AOp} {g : Option (Nat × Bool)} {os : List AOper} {n : Nat} {e : Env} {h : Heap} {K : Nat → Env → Heap → Prop} (hk : At (opsK P (⟨some k, op, g⟩ :: os) n e h K)) : opsK P (⟨some k, op, g⟩ :: os) n e h K := hk.h
theorem at_dstD {P : Program} (k : Nat) {z : Rsv} {i mask iso : Nat} {alt : Bool} {op : AOp} {g : Option (Nat × Bool)} {xs : List DItem} {n : Nat} {e : Env} {h : Heap} {K : Env → Heap → Prop} (hk : At (dK P z n (⟨i, ⟨some k, op, g⟩, mask, iso, alt⟩ :: xs) e h K)) : dK P z n (⟨i, ⟨some k, op, g⟩, mask, iso, alt⟩ :: xs) e h K := hk.h
end Go.Proofs.YtbmhdpflloepkaaDoor

namespace Go.Proofs.YtbmhdpflloepkaaDoor
open Go.RowKit Go.ChangeShapes
set_option linter.unusedVariables false
set_option linter.unusedSimpArgs false

def cellF (w : World) : Froz := fun x => match x.spot with
 | none => match w.cell? x with
   | some v => if v.oneCell' then some v else none
   | none => none
 | some _ => none
def GlobsIn (w : World) : Prop := ∀ (g j : Nat) (v : Value), (globs g)[j]? = some v → w.cell? ⟨g, j, none⟩ = some v
theorem holds_cellF {w : World} (hgl : GlobsIn w) : Holds (cellF w) w := by
 refine ⟨?_, fun g j v hv => by
  have h1 := hgl g j v hv
  have h2 := globs_one g j v hv
  simp [cellF, h1, h2]⟩
 intro x v hx
 unfold cellF at hx
 split at hx
 · rename_i hs
   split at hx
   · rename_i u hu
     split at hx
     · rename_i h1
       cases hx
       exact ⟨hs, h1, hu⟩
     · cases hx
   · cases hx
 · cases hx
theorem cellF_of {w : World} {b o : Nat} {v : Value} (hc : w.cell? ⟨b, o, none⟩ = some v) (h1 : v.oneCell' = true) : cellF w ⟨b, o, none⟩ = some v := by
 simp [cellF, hc, h1]

def Shape (P : Program) : Nat → TypeId → List PV → Prop
 | 0, _, _ => False
 | n + 1, t, ps => match P.underlying t with
   | some .bool => ∃ b, ps = [.val (.bool b)]
   | some (.int k) => ∃ m, (Lit.int k m).wf = true ∧ ps = [.val (.int k m)]
   | some .string => ∃ s, s.size ≤ maxVec ∧ ps = [.val (.string s)]
   | some (.pointer e) => ps = [.val (.pointer none)] ∨ ∃ l, Shape P n e l ∧ ps = [.cp l]
   | some (.slice e) => ∃ ll fl, ll.length ≤ maxVec ∧ (∀ l ∈ ll, Shape P n e l) ∧ ps = [.vec ll fl]
   | some (.struct fs) => ps.length = P.cellsOf t ∧ ∀ f ∈ fs.toList, Shape P n f.type ((ps.drop f.offset).take (P.cellsOf f.type))
   | some (.array m e) => ps.length = P.cellsOf t ∧ ∀ i, i < m → Shape P n e ((ps.drop (i * P.cellsOf e)).take (P.cellsOf e))
   | _ => ∃ v, ps = [.val v]

theorem mapM_some' {α β : Type} {f : α → Option β} : ∀ {l : List α} {ys : List β}, l.mapM f = some ys → ys.length = l.length ∧ ∀ i (h : i < l.length) (h' : i < ys.length), f l[i] = some ys[i]
 | [], ys, h => by
   obtain rfl : [] = ys := by simpa using h
   exact ⟨rfl, fun i hi => absurd hi (Nat.not_lt_zero _)⟩
 | a :: l, ys, h => by
   rw [List.mapM_cons] at h
   cases ha : f a with
   | none => simp [ha] at h
   | some b =>
     cases hl : l.mapM f with
     | none => simp [ha, hl] at h
     | some bs =>
       obtain rfl : b :: bs = ys := by simpa [ha, hl] using h
       obtain ⟨h1, h2⟩ := mapM_some' hl
       refine ⟨by simp [h1], fun i hi hi' => ?_⟩
       cases i with
       | zero => simpa using ha
       | succ i => simpa using h2 i (by simpa using hi) (by simpa using hi')

theorem cells?_some {w : World} {a : Addr} {n : Nat} {cs : List Value} (h : w.cells? 0 a n = some cs) : cs.length = n ∧ ∀ j, (hj : j < cs.length) → w.cell? (a.add j) = some cs[j] := by
 unfold World.cells? at h
 rw [if_pos (Nat.zero_le _)] at h
 obtain ⟨h1, h2⟩ := mapM_some' h
 have hn : cs.length = n := by simpa using h1
 refine ⟨hn, fun j hj => ?_⟩
 have := h2 j (by simp; omega) hj
 simpa using this

structure CellsR (w : World) (cs : List Value) (ps : List PV) : Prop where
 len : cs.length = ps.length
 one : ∀ j, j < ps.length → (cs.getD j undef).oneCell' = true
 rep : ∀ j, j < ps.length → Rep (cellF w) noLoc (cs.getD j undef) (ps.getD j pvu)
 pure : pureL ps

theorem CellsR.single {w : World} {v : Value} {p : PV} (h1 : v.oneCell' = true) (hr : Rep (cellF w) noLoc v p) (hp : p.pure) : CellsR w [v] [p] :=
 ⟨rfl, fun j hj => by obtain rfl : j = 0 := by simpa using hj
                      exact h1, fun j hj => by obtain rfl : j = 0 := by simpa using hj
                                               exact hr, hp, trivial⟩
theorem CellsR.nil {w : World} : CellsR w [] [] := ⟨rfl, fun j hj => absurd hj (Nat.not_lt_zero _), fun j hj => absurd hj (Nat.not_lt_zero _), trivial⟩
theorem CellsR.append {w : World} {cs cs' : List Value} {ps ps' : List PV} (h : CellsR w cs ps) (h' : CellsR w cs' ps') : CellsR w (cs ++ cs') (ps ++ ps') := by
 refine ⟨by simp [h.len, h'.len], fun j hj => ?_, fun j hj => ?_, (innL_iff _ _).2 fun p hp => ?_⟩
 · by_cases hl : j < ps.length
   · have := h.one j hl
     simpa [List.getD_eq_getElem?_getD, List.getElem?_append, h.len, hl] using this
   · have := h'.one (j - ps.length) (by simp at hj; omega)
     simpa [List.getD_eq_getElem?_getD, List.getElem?_append, h.len, hl] using this
 · by_cases hl : j < ps.length
   · have := h.rep j hl
     simpa [List.getD_eq_getElem?_getD, List.getElem?_append, h.len, hl] using this
   · have := h'.rep (j - ps.length) (by simp at hj; omega)
     simpa [List.getD_eq_getElem?_getD, List.getElem?_append, h.len, hl] using this
 · rcases List.mem_append.1 hp with hp | hp
   · exact (innL_iff _ _).1 h.pure p hp
   · exact (innL_iff _ _).1 h'.pure p hp

def tile (P : Program) (off : Nat) (total : Nat) : List Field → Bool
 | [] => off == total
 | f :: r => f.offset == off && tile P (off + P.cellsOf f.type) total r
def tilesT (P : Program) (G : List TypeId) (t : TypeId) : Bool := match P.underlying t with
 | some (.struct fs) => tile P 0 (P.cellsOf t) fs.toList && fs.toList.all fun f => G.contains f.type
 | some (.array m e) => P.cellsOf t == m * P.cellsOf e && G.contains e
 | some (.slice e) => decide (0 < P.bytesOf e) && decide (0 < P.cellsOf e) && G.contains e
 | some (.pointer e) => decide (0 < P.cellsOf e) && G.contains e
 | _ => true
def tilesB (P : Program) (G : List TypeId) : Bool := G.all (tilesT P G)
theorem tilesT_of {P : Program} {G : List TypeId} (h : tilesB P G = true) {t : TypeId} (ht : G.contains t = true) : tilesT P G t = true := List.all_eq_true.1 h t (by simpa using ht)
def partsG (P : Program) (ts : List TypeId) : List TypeId := ts.flatMap P.book

theorem struct_cells {P : Program} {w : World} {S : TypeId → List PV → Prop} {cs : List Value} : ∀ {fs : List Field} {off total : Nat}, tile P off total fs = true → cs.length = total →
 (∀ f ∈ fs, ∃ ps, S f.type ps ∧ CellsR w ((cs.drop f.offset).take (P.cellsOf f.type)) ps) → off ≤ total ∧ ∃ ps, CellsR w (cs.drop off) ps ∧ ∀ f ∈ fs, off ≤ f.offset ∧ S f.type ((ps.drop (f.offset - off)).take (P.cellsOf f.type))
 | [], off, total, ht, hl, _ => by
   obtain rfl : off = total := by simpa [tile] using ht
   refine ⟨Nat.le_refl _, [], ?_, fun f hf => by cases hf⟩
   rw [List.drop_eq_nil_of_le (by omega)]
   exact .nil
 | f :: r, off, total, ht, hl, hf => by
   simp only [tile, Bool.and_eq_true, beq_iff_eq] at ht
   obtain ⟨rfl, ht⟩ := ht
   obtain ⟨hle, ps2, hc2, hs2⟩ := struct_cells ht hl fun g hg => hf g (by simp [hg])
   obtain ⟨ps1, hs1, hc1⟩ := hf f (by simp)
   have hl1 : ps1.length = P.cellsOf f.type := by rw [← hc1.len]; simp; omega
   refine ⟨by omega, ps1 ++ ps2, ?_, fun g hg => ?_⟩
   · have := hc1.append hc2
     rw [← List.drop_drop, List.take_append_drop] at this
     exact this
   · rcases List.mem_cons.1 hg with rfl | hg
     · refine ⟨Nat.le_refl _, ?_⟩
       rw [Nat.sub_self, List.drop_zero, ← hl1, List.take_left]
       exact hs1
     · obtain ⟨h1, h2⟩ := hs2 g hg
       refine ⟨by omega, ?_⟩
       have e : g.offset - f.offset = ps1.length + (g.offset - (f.offset + P.cellsOf f.type)) := by omega
       rw [e, ← List.drop_drop, List.drop_left]
       exact h2

theorem array_cells {w : World} {S : List PV → Prop} {cs : List Value} {sz : Nat} : ∀ {m : Nat}, cs.length = m * sz → (∀ i, i < m → ∃ ps, S ps ∧ CellsR w ((cs.drop (i * sz)).take sz) ps) → ∃ ps, CellsR w cs ps ∧ ∀ i, i < m → S ((ps.drop (i * sz)).take sz)
 | 0, hl, _ => by
   obtain rfl : cs = [] := List.eq_nil_of_length_eq_zero (by simpa using hl)
   exact ⟨[], .nil, fun i hi => absurd hi (Nat.not_lt_zero _)⟩
 | m + 1, hl, hf => by
   have hlm : (cs.take (m * sz)).length = m * sz := by rw [List.length_take, hl]; exact Nat.min_eq_left (Nat.mul_le_mul_right _ (by omega))
   obtain ⟨ps1, hc1, hs1⟩ := array_cells (cs := cs.take (m * sz)) hlm fun i hi => by
    obtain ⟨ps, h1, h2⟩ := hf i (by omega)
    refine ⟨ps, h1, ?_⟩
    rw [List.drop_take, List.take_take, Nat.min_eq_left (by
     have : (i + 1) * sz ≤ m * sz := Nat.mul_le_mul_right _ hi
     rw [Nat.add_mul] at this; omega)]
    exact h2
   obtain ⟨ps2, hs2, hc2⟩ := hf m (by omega)
   have hl1 : ps1.length = m * sz := by rw [← hc1.len, hlm]
   have hd : (cs.drop (m * sz)).take sz = cs.drop (m * sz) := List.take_of_length_le (by rw [List.length_drop, hl, Nat.add_mul]; omega)
   rw [hd] at hc2
   have hl2 : ps2.length = sz := by rw [← hc2.len, List.length_drop, hl, Nat.add_mul]; omega
   refine ⟨ps1 ++ ps2, by have := hc1.append hc2; rwa [List.take_append_drop] at this, fun i hi => ?_⟩
   by_cases him : i < m
   · have hle : i * sz + sz ≤ ps1.length := by
      have : (i + 1) * sz ≤ m * sz := Nat.mul_le_mul_right _ him
      rw [Nat.add_mul] at this; omega
     rw [List.drop_append_of_le_length (by omega), List.take_append_of_le_length (by rw [List.length_drop]; omega)]
     exact hs1 i him
   · obtain rfl : i = m := by omega
     rw [← hl1, List.drop_left, List.take_of_length_le (by omega)]
     exact hs2

theorem weightsAll_mem {H : Type} {P : Program} {e : TypeId} : ∀ {ds : List (DataW H)} {d : DataW H}, d ∈ ds → ∀ x ∈ d.weights P e, x ∈ DataW.weightsAll P e ds
 | [], _, h, _, _ => by cases h
 | a :: r, d, h, x, hx => by
   rw [DataW.weightsAll, List.mem_append]
   rcases List.mem_cons.1 h with rfl | h
   · exact .inl hx
   · exact .inr (weightsAll_mem h x hx)
theorem weightsEach_mem {H : Type} {P : Program} : ∀ {ts : List TypeId} {ds : List (DataW H)} {i : Nat} {t : TypeId} {d : DataW H}, ts[i]? = some t → ds[i]? = some d → ∀ x ∈ d.weights P t, x ∈ DataW.weightsEach P ts ds
 | [], _, i, t, d, h, _, _, _ => by simp at h
 | a :: ts, [], i, t, d, _, h, _, _ => by simp at h
 | a :: ts, b :: ds, 0, t, d, h, h', x, hx => by
   obtain rfl : a = t := by simpa using h
   obtain rfl : b = d := by simpa using h'
   rw [DataW.weightsEach, List.mem_append]
   exact .inl hx
 | a :: ts, b :: ds, i + 1, t, d, h, h', x, hx => by
   rw [DataW.weightsEach, List.mem_append]
   exact .inr (weightsEach_mem (i := i) (by simpa using h) (by simpa using h') x hx)

section
variable {H : Type} {enc : TypeId × Value → H} {P : Program} {w : World} {sp : Nat → Bool}

theorem row_cells {a : Addr} {n : Nat} {cs : List Value} {ps : List PV} (hc : w.cells? 0 a n = some cs) (hs : a.spot = none) (h : CellsR w cs ps) : ps.length = n ∧ ∀ j, j < ps.length → cellF w ⟨a.block, a.off + j, none⟩ = some (cs.getD j undef) := by
 obtain ⟨h1, h2⟩ := cells?_some hc
 refine ⟨by rw [← h.len, h1], fun j hj => ?_⟩
 have hj' : j < cs.length := by rw [h.len]; exact hj
 have := h2 j hj'
 rw [add_none _ _ hs] at this
 have e : cs.getD j undef = cs[j] := by simp [List.getD_eq_getElem?_getD, hj']
 rw [e]
 exact cellF_of this (by rw [← e]; exact h.one j hj)

theorem row_spot {a : Addr} {n : Nat} {cs : List Value} (hc : w.cells? 0 a n = some cs) (hn : 0 < n) : a.spot = none := by
 obtain ⟨h1, h2⟩ := cells?_some hc
 have := h2 0 (by omega)
 have e : a.add 0 = a := rfl
 rw [e] at this
 cases hs : a.spot with
 | none => rfl
 | some k =>
   unfold World.cell? at this
   rw [hs] at this
   split at this <;> simp at this

theorem exists_list {α : Type} (z : α) {Q : Nat → α → Prop} : ∀ {n : Nat}, (∀ i, i < n → ∃ x, Q i x) → ∃ l : List α, l.length = n ∧ ∀ i, i < n → Q i (l.getD i z)
 | 0, _ => ⟨[], rfl, fun i hi => absurd hi (Nat.not_lt_zero _)⟩
 | n + 1, h => by
   obtain ⟨l, hl, hq⟩ := exists_list z (n := n) fun i hi => h i (by omega)
   obtain ⟨x, hx⟩ := h n (by omega)
   refine ⟨l ++ [x], by simp [hl], fun i hi => ?_⟩
   by_cases hin : i < n
   · have := hq i hin
     simpa [List.getD_eq_getElem?_getD, List.getElem?_append, hl, hin] using this
   · obtain rfl : i = n := by omega
     simpa [List.getD_eq_getElem?_getD, List.getElem?_append, hl] using hx

theorem shape_of_trod {G : List TypeId} (hT : tilesB P G = true) : ∀ {fuel : Nat} {t : TypeId} {cs : List Value} {d : DataW H} {pl : List MemPlace}, G.contains t = true → DataW.trod enc P w 0 sp true fuel t cs = some (d, pl) → (∀ x ∈ d.weights P t, x ≤ reachBytes) → ∃ ps, Shape P fuel t ps ∧ CellsR w cs ps
 | 0, _, _, _, _, _, h, _ => by simp [DataW.trod] at h
 | fuel + 1, t, cs, d, pl, ht, h, hw => by
   have hTt := tilesT_of hT ht
   unfold tilesT at hTt
   have other : ∀ v : Value, v.oneCell' = true → cs = [v] → (match P.underlying t with
    | some .bool | some (.int _) | some .string | some (.pointer _) | some (.slice _) | some (.struct _) | some (.array _ _) => False
    | _ => True) → ∃ ps, Shape P (fuel + 1) t ps ∧ CellsR w cs ps := by
    intro v h1 hcs hu
    refine ⟨[.val v], ?_, hcs ▸ .single h1 (.val v) trivial⟩
    unfold Shape
    split at hu <;> first | exact hu.elim | skip
    first | exact ⟨v, rfl⟩ | (split <;> first | exact ⟨v, rfl⟩ | simp_all)
   unfold DataW.trod at h
   split at h
   · rename_i b hu
     exact ⟨[.val (.bool b)], by simp [Shape, hu], .single rfl (.val _) trivial⟩
   · rename_i k k' m hu
     split at h
     · rename_i hk
       obtain ⟨rfl, hwf⟩ := hk
       exact ⟨[.val (.int k' m)], by simp [Shape, hu, hwf], .single rfl (.val _) trivial⟩
     · cases h
   · rename_i k k' m hu
     exact other _ rfl rfl (by rw [hu]; trivial)
   · rename_i str hu
     split at h
     · cases h
       refine ⟨[.val (.string str)], ?_, .single rfl (.val _) trivial⟩
       have := hw str.data.toList.length (by simp [DataW.weights])
       have hs : str.size ≤ maxVec := by
        have e : str.data.toList.length = str.size := Array.length_toList
        rw [e] at this
        simp only [reachBytes] at this
        simp only [maxVec]
        omega
       simp [Shape, hu, hs]
     · cases h
   · rename_i e hu
     exact ⟨[.val (.pointer none)], by simp [Shape, hu], .single rfl (.val _) trivial⟩
   · rename_i e a hu
     rw [hu] at hTt
     simp only [Bool.and_eq_true, decide_eq_true_eq] at hTt
     cases hc : w.cells? 0 a (P.cellsOf e) with
     | none => simp [hc] at h
     | some cs' =>
       cases hr : DataW.trod enc P w 0 sp true fuel e cs' with
       | none => simp [hc, hr] at h
       | some r =>
         obtain ⟨d', pl'⟩ := r
         have hd : d = .ptr d' := by simp [hc, hr] at h; exact h.1.symm
         subst hd
         obtain ⟨l, hs, hcl⟩ := shape_of_trod hT hTt.2 hr (fun x hx => hw x (by simp only [DataW.weights, hu]; exact hx))
         have hspot := row_spot hc hTt.1
         obtain ⟨hl, hF⟩ := row_cells hc hspot hcl
         refine ⟨[.cp l], by simp only [Shape, hu]; exact .inr ⟨l, hs, rfl⟩, .single rfl ?_ hcl.pure⟩
         exact .cp a l (fun j => cs'.getD j undef) hspot hF hcl.rep
   · rename_i e hu
     exact ⟨[.vec [] true], by simp only [Shape, hu]; exact ⟨[], true, by simp, by simp, rfl⟩, .single rfl (.vecnil true) trivial⟩
   · rename_i e a len cap hu
     rw [hu] at hTt
     simp only [Bool.and_eq_true, decide_eq_true_eq] at hTt
     obtain ⟨⟨hby, hsz⟩, het⟩ := hTt
     simp only at h
     split at h
     case isFalse => cases h
     rename_i hcond
     cases hm : (List.range len).mapM (fun i => (w.cells? 0 (a.add (i * P.cellsOf e)) (P.cellsOf e)).bind (DataW.trod enc P w 0 sp true fuel e)) with
     | none => simp [hm] at h
     | some elems =>
       obtain ⟨hel, hget⟩ := mapM_some' hm
       have hd : ∃ rest : List (DataW H × List MemPlace), d = .slice (elems.map (·.1)) (rest.map (·.1)) := by
        rw [hm] at h
        simp only [Option.bind_some, Option.map_eq_some_iff] at h
        obtain ⟨rest, _, h2⟩ := h
        exact ⟨rest, by cases h2; rfl⟩
       obtain ⟨rest, rfl⟩ := hd
       have hlen : elems.length = len := by simpa using hel
       have hbound : len ≤ maxVec := by
        have := hw ((elems.length + rest.length) * P.bytesOf e) (by simp [DataW.weights, hu])
        have h3 : elems.length + rest.length ≤ (elems.length + rest.length) * P.bytesOf e := Nat.le_mul_of_pos_right _ hby
        simp only [reachBytes] at this
        simp only [maxVec]
        omega
       have each : ∀ i, i < len → ∃ cs' d' pl', w.cells? 0 (a.add (i * P.cellsOf e)) (P.cellsOf e) = some cs' ∧ DataW.trod enc P w 0 sp true fuel e cs' = some (d', pl') ∧ d' ∈ elems.map (·.1) := fun i hi => by
        have := hget i (by simpa using hi) (by omega)
        simp only [List.getElem_range, Option.bind_eq_some_iff] at this
        obtain ⟨cs', h1, h2⟩ := this
        exact ⟨cs', _, _, h1, h2, List.mem_map.2 ⟨elems[i], List.getElem_mem _, rfl⟩⟩
       have hspot : 0 < len → a.spot = none := fun h0 => by
        obtain ⟨cs', d', pl', h1, _⟩ := each 0 h0
        rw [Nat.zero_mul] at h1
        exact row_spot h1 hsz
       obtain ⟨ll, hll, hq⟩ := exists_list (α := List PV) [] (n := len) (Q := fun i l => Shape P fuel e l ∧ l.length = P.cellsOf e ∧ pureL l ∧ ∀ j, j < P.cellsOf e → ∃ v, cellF w ⟨a.block, a.off + (i * P.cellsOf e + j), none⟩ = some v ∧ Rep (cellF w) noLoc v (l.getD j pvu)) fun i hi => by
        obtain ⟨cs', d', pl', h1, h2, h3⟩ := each i hi
        obtain ⟨l, hs, hcl⟩ := shape_of_trod hT het h2 (fun x hx => hw x (by simp only [DataW.weights, hu]; exact List.mem_cons_of_mem _ (List.mem_append.2 (.inl (weightsAll_mem h3 x hx)))))
        rw [add_none _ _ (hspot (by omega))] at h1
        obtain ⟨hl, hF⟩ := row_cells h1 rfl hcl
        refine ⟨l, hs, hl, hcl.pure, fun j hj => ⟨_, ?_, hcl.rep j (by omega)⟩⟩
        have := hF j (by omega)
        simp only at this
        rw [Nat.add_assoc] at this
        exact this
       have hmem : ∀ l ∈ ll, ∃ i, i < len ∧ ll.getD i [] = l := fun l hl => by
        obtain ⟨i, hi, rfl⟩ := List.getElem_of_mem hl
        exact ⟨i, by omega, by simp [List.getD_eq_getElem?_getD, hi]⟩
       refine ⟨[.vec ll false], ?_, .single rfl ?_ ((innLL_iff _ _).2 fun l hl => ?_)⟩
       · simp only [Shape, hu]
         exact ⟨ll, false, by omega, fun l hl => by obtain ⟨i, hi, rfl⟩ := hmem l hl; exact (hq i hi).1, rfl⟩
       · rw [← hll]
         refine .vec a cap (P.cellsOf e) ll false (fun i j => (cellF w ⟨a.block, a.off + (i * P.cellsOf e + j), none⟩).getD undef) (fun hne => hspot (by rw [← hll]; exact List.length_pos_iff.2 hne)) (by omega) (by simp) (by omega) (fun i hi => (hq i (by omega)).2.1) (fun i j hi hj => ?_) (fun i j hi hj => ?_)
         · obtain ⟨v, h1, _⟩ := (hq i (by omega)).2.2.2 j hj
           rw [h1]; rfl
         · obtain ⟨v, h1, h2⟩ := (hq i (by omega)).2.2.2 j hj
           rw [h1]; exact h2
       · obtain ⟨i, hi, rfl⟩ := hmem l hl
         exact (hq i hi).2.2.1
   · rename_i cs _ _ fs hu
     rw [hu] at hTt
     simp only [Bool.and_eq_true, List.all_eq_true, decide_eq_true_eq] at hTt
     obtain ⟨htile, hft⟩ := hTt
     split at h
     case isFalse => cases h
     rename_i hlen
     cases hm : fs.toList.mapM (fun f => DataW.trod enc P w 0 sp true fuel f.type ((cs.drop f.offset).take (P.cellsOf f.type))) with
     | none => simp [hm] at h
     | some xs =>
       obtain ⟨hxl, hget⟩ := mapM_some' hm
       obtain rfl : d = .agg (xs.map (·.1)) := by simp [hm] at h; exact h.1.symm
       obtain ⟨_, ps, hc, hs⟩ := struct_cells (P := P) (S := fun t ps => Shape P fuel t ps) htile hlen fun f hf => by
        obtain ⟨i, hi, rfl⟩ := List.getElem_of_mem hf
        have h2 := hget i hi (by omega)
        refine shape_of_trod hT (hft _ hf) (d := (xs[i]'(by omega)).1) (pl := (xs[i]'(by omega)).2) h2 fun x hx => hw x ?_
        simp only [DataW.weights, hu]
        exact weightsEach_mem (i := i) (t := fs.toList[i].type) (d := (xs[i]'(by omega)).1) (by rw [List.getElem?_map, List.getElem?_eq_getElem hi]; rfl) (by rw [List.getElem?_map, List.getElem?_eq_getElem (by omega)]; rfl) x hx
       rw [List.drop_zero] at hc
       refine ⟨ps, ?_, hc⟩
       simp only [Shape, hu]
       exact ⟨by rw [← hc.len]; exact hlen, fun f hf => by have := (hs f hf).2; rwa [Nat.sub_zero] at this⟩
   · rename_i cs _ _ m e hu
     rw [hu] at hTt
     simp only [Bool.and_eq_true, beq_iff_eq, decide_eq_true_eq] at hTt
     obtain ⟨htile, het⟩ := hTt
     split at h
     case isFalse => cases h
     rename_i hlen
     cases hm : (List.range m).mapM (fun i => DataW.trod enc P w 0 sp true fuel e ((cs.drop (i * P.cellsOf e)).take (P.cellsOf e))) with
     | none => simp [hm] at h
     | some xs =>
       obtain ⟨hxl, hget⟩ := mapM_some' hm
       obtain rfl : d = .agg (xs.map (·.1)) := by simp [hm] at h; exact h.1.symm
       have hxm : xs.length = m := by simpa using hxl
       obtain ⟨ps, hc, hs⟩ := array_cells (S := Shape P fuel e) (sz := P.cellsOf e) (m := m) (by rw [hlen, htile]) fun i hi => by
        have h2 := hget i (by simpa using hi) (by omega)
        simp only [List.getElem_range] at h2
        refine shape_of_trod hT het (d := (xs[i]'(by omega)).1) (pl := (xs[i]'(by omega)).2) h2 fun x hx => hw x ?_
        simp only [DataW.weights, hu]
        exact weightsAll_mem (List.mem_map.2 ⟨xs[i]'(by omega), List.getElem_mem _, rfl⟩) x hx
       refine ⟨ps, ?_, hc⟩
       simp only [Shape, hu]
       exact ⟨by rw [← hc.len]; exact hlen, hs⟩
   all_goals first
    | (cases h; done)
    | (rename_i hu; exact other _ rfl rfl (by rw [hu]; trivial))
end
end Go.Proofs.YtbmhdpflloepkaaDoor

namespace Go.Proofs.YtbmhdpflloepkaaDoor
open Go.RowKit Go.ChangeShapes Go.WideShapes
set_option linter.unusedVariables false

def ShapeV (P : Program) (t : TypeId) (p : PV) : Prop := ∃ n, match P.underlying t with
 | some (.struct _) | some (.array _ _) => ∃ ps, p = .agg ps ∧ Shape P n t ps
 | _ => Shape P n t [p]
def ShapeVs (P : Program) : List TypeId → List PV → Prop
 | [], [] => True
 | t :: ts, p :: ps => ShapeV P t p ∧ ShapeVs P ts ps
 | _, _ => False

section
variable {H : Type} {enc : TypeId × Value → H} {P : Program} {w : World}

theorem cellsR_single {v : Value} {ps : List PV} (h : CellsR w [v] ps) : ∃ p, ps = [p] ∧ Rep (cellF w) noLoc v p ∧ p.pure := by
 have hl := h.len
 obtain ⟨p, rfl⟩ : ∃ p, ps = [p] := by
  cases ps with
  | nil => simp at hl
  | cons p r => cases r with
    | nil => exact ⟨p, rfl⟩
    | cons _ _ => simp at hl
 exact ⟨p, rfl, by simpa using h.rep 0 (by simp), h.pure.1⟩

theorem okWide_one {t : TypeId} {v : Value} {base : Nat} (hu : match P.underlying t with | some (.struct _) | some (.array _ _) => False | _ => True) (h : Value.okWide P w .any base t v) : v.cells.toList = [v] := by
 cases v with
 | agg cs =>
   exfalso
   unfold Value.okWide at h
   split at h
   · rename_i hu'; rw [hu'] at hu; exact hu
   · rename_i hu'; rw [hu'] at hu; exact hu
   · unfold Cell.okWide at h
     split at h <;> first | (rename_i hv; cases hv; done) | skip
     all_goals first | (cases ‹Value.agg cs = _›; done) | (unfold Cell.ok at h; split at h <;> first | exact h | (cases ‹Value.agg cs = _›; done) | simp_all)
 | _ => rfl

theorem value_rep {G : List TypeId} (hT : tilesB P G = true) {t : TypeId} {v : Value} {d : DataW H} {pl : List MemPlace} {base : Nat} (ht : G.contains t = true) (hok : Value.okWide P w .any base t v) (h : DataW.Trod enc P w 0 (fun _ => true) true t v d pl) (hw : ∀ x ∈ d.weights P t, x ≤ reachBytes) :
 ∃ p, ShapeV P t p ∧ Rep (cellF w) noLoc v p ∧ p.pure := by
 obtain ⟨fuel, h⟩ := h
 obtain ⟨ps, hs, hc⟩ := shape_of_trod hT ht h hw
 cases hu : P.underlying t with
 | none =>
   rw [okWide_one (by rw [hu]; trivial) hok] at hc
   obtain ⟨p, rfl, h1, h2⟩ := cellsR_single hc
   exact ⟨p, ⟨fuel, by rw [hu]; exact hs⟩, h1, h2⟩
 | some dsc =>
   have agg : (∃ cs, v = .agg cs) → ∃ p, (∃ ps, p = .agg ps ∧ Shape P fuel t ps) ∧ Rep (cellF w) noLoc v p ∧ p.pure := by
    rintro ⟨cs, rfl⟩
    have e : ∀ j, cs.getD j undef = cs.toList.getD j undef := fun j => by simp [Array.getD_eq_getD_getElem?, List.getD_eq_getElem?_getD]
    refine ⟨.agg ps, ⟨ps, rfl, hs⟩, .agg cs ps (by rw [← hc.len]; simp [Value.cells]) (fun i hi => ?_) (fun i hi => ?_), hc.pure⟩
    · rw [e]; exact hc.one i hi
    · rw [e]; exact hc.rep i hi
   have one : (match P.underlying t with | some (.struct _) | some (.array _ _) => False | _ => True) → ∃ p, Shape P fuel t [p] ∧ Rep (cellF w) noLoc v p ∧ p.pure := by
    intro hu'
    rw [okWide_one hu' hok] at hc
    obtain ⟨p, rfl, h1, h2⟩ := cellsR_single hc
    exact ⟨p, hs, h1, h2⟩
   have isAgg : (∃ fs, dsc = .struct fs) ∨ (∃ m e, dsc = .array m e) → ∃ cs, v = .agg cs := by
    intro hd
    unfold Value.okWide at hok
    rw [hu] at hok
    rcases hd with ⟨fs, rfl⟩ | ⟨m, e, rfl⟩
    · obtain ⟨cs, h1, _⟩ := hok; exact ⟨cs, h1⟩
    · obtain ⟨cs, h1, _⟩ := hok; exact ⟨cs, h1⟩
   cases dsc with
   | struct fs =>
     obtain ⟨p, h1, h2⟩ := agg (isAgg (.inl ⟨fs, rfl⟩))
     exact ⟨p, ⟨fuel, by rw [hu]; exact h1⟩, h2⟩
   | array m e =>
     obtain ⟨p, h1, h2⟩ := agg (isAgg (.inr ⟨m, e, rfl⟩))
     exact ⟨p, ⟨fuel, by rw [hu]; exact h1⟩, h2⟩
   | _ =>
     obtain ⟨p, h1, h2⟩ := one (by rw [hu]; trivial)
     exact ⟨p, ⟨fuel, by rw [hu]; exact h1⟩, h2⟩

theorem values_rep {G : List TypeId} (hT : tilesB P G = true) : ∀ {ts : List TypeId} {vs : List Value} {ds : List (DataW H)} {pl : List MemPlace}, (∀ t ∈ ts, G.contains t = true) → (∀ (j : Nat) t v, ts[j]? = some t → vs[j]? = some v → ∃ base, Value.okWide P w .any base t v) →
 DataW.TrodAll enc P w 0 (fun _ => true) true ts vs ds pl → (∀ x ∈ DataW.weightsEach P ts ds, x ≤ reachBytes) → ∃ ps, ShapeVs P ts ps ∧ vs.length = ps.length ∧ (∀ i, i < ps.length → Rep (cellF w) noLoc (vs.getD i undef) (ps.getD i pvu)) ∧ pureL ps
 | [], vs, ds, pl, _, _, h, _ => by
   obtain ⟨rfl, rfl, rfl⟩ := trodAll_nil h
   exact ⟨[], trivial, rfl, fun i hi => absurd hi (Nat.not_lt_zero _), trivial⟩
 | t :: ts, vs, ds, pl, hlt, hok, h, hw => by
   obtain ⟨v, vs', d, ds', p, q, rfl, rfl, rfl, h1, h2⟩ := trodAll_cons h
   obtain ⟨base, hv⟩ := hok 0 t v rfl rfl
   obtain ⟨x, hs, hr, hp⟩ := value_rep hT (hlt t (by simp)) hv h1 fun x hx => hw x (by rw [DataW.weightsEach]; exact List.mem_append.2 (.inl hx))
   obtain ⟨ps, hs', hl, hr', hp'⟩ := values_rep hT (fun t ht => hlt t (by simp [ht])) (fun j t v hj hv => hok (j + 1) t v (by simpa using hj) (by simpa using hv)) h2 fun x hx => hw x (by rw [DataW.weightsEach]; exact List.mem_append.2 (.inr hx))
   refine ⟨x :: ps, ⟨hs, hs'⟩, by simp [hl], fun i hi => ?_, hp, hp'⟩
   cases i with
   | zero => simpa using hr
   | succ i => simpa using hr' i (by simpa using hi)

theorem trodAll_stays (hl : laidOutB P = true) {W W' : World} (hb : Below W.heap.size W W') {sp' : Nat → Bool} : ∀ {ts : List TypeId} {vs : List Value} {ds : List (DataW H)} {pl : List MemPlace}, (∀ t ∈ ts, P.readableRec t = true ∧ t < P.types.size) → DataW.TrodAll enc P W 0 (fun _ => true) true ts vs ds pl →
 (∀ x ∈ pl, x.block < W.heap.size) → (∀ x ∈ pl, sp' x.block = true) → DataW.TrodAll enc P W' 0 sp' true ts vs ds pl
 | [], vs, ds, pl, _, h, _, _ => by
   obtain ⟨rfl, rfl, rfl⟩ := trodAll_nil h
   exact rfl
 | t :: ts, vs, ds, pl, hr, h, hlt, hsp => by
   obtain ⟨v, vs', d, ds', p, q, rfl, rfl, rfl, h1, h2⟩ := trodAll_cons h
   obtain ⟨hr1, hr2⟩ := hr t (by simp)
   exact ⟨p, q, WideElems.Trod_stays hl hr1 hr2 h1 (fun x hx => hb.same (hlt x (List.mem_append.2 (.inl hx)))) (fun x hx => hsp x (List.mem_append.2 (.inl hx))),
    trodAll_stays hl hb (fun t ht => hr t (by simp [ht])) h2 (fun x hx => hlt x (List.mem_append.2 (.inr hx))) (fun x hx => hsp x (List.mem_append.2 (.inr hx))), rfl⟩
end

theorem law_contract {H : Type} {enc : TypeId × Value → H} {P : Program} {f : FuncId} {fn : Func} {s : ChangeSpec} {apart fresh handsOn again : Bool} {tb : TypeId} {G : List TypeId} (hT : tilesB P G = true) (hG : ∀ t ∈ fn.params.toList, G.contains t = true) (hl : laidOutB P = true) (hpar : ∀ t ∈ fn.params.toList, P.readableRec t = true ∧ t < P.types.size) (hres : fn.resultTypes = #[tb]) (htb : P.underlying tb = some .bool)
 (hvars : s.vars = []) (hs : ∀ ds : List (DataW H), ds.length = fn.params.size → (s.fn H ds).results = [.lit (.bool true)] ∧ (s.fn H ds).args = ds ∧ (s.fn H ds).vars = []) (hspec : ∀ ps, ShapeVs P fn.params.toList ps → pureL ps → Spec P f ps (· = .val (.bool true)))
 (W : World) (hgl : GlobsIn W) (base : Nat) (args : Array Value) (ds gs : List (DataW H)) (before : List MemPlace) (hval : ∀ (j : Nat) t v, fn.params[j]? = some t → args[j]? = some v → Value.okWide P W .any base t v) (hW : DataW.Whole enc P fn.params.toList s.vars apart W args.toList ds gs before)
 (hwt : (DataW.weightsEach P (fn.params.toList ++ s.plain.varTypes P) (ds ++ gs)).all (· ≤ reachBytes) = true) :
 Calls P f args W fun e W' => ∃ v, e = .returned v ∧ s.post enc P fn apart fresh handsOn again W args v W' := by
 have hW' := hW
 obtain ⟨p, q, hA, hV, rfl, hfz, hnd⟩ := hW
 rw [hvars] at hV
 obtain ⟨rfl, rfl⟩ := trodVars_none hV
 rw [List.append_nil] at hwt
 have hlen : ds.length = fn.params.toList.length := by
  have : ∀ {ts : List TypeId} {vs : List Value} {ds : List (DataW H)} {pl : List MemPlace}, DataW.TrodAll enc P W 0 (fun _ => true) true ts vs ds pl → ds.length = ts.length := by
   intro ts
   induction ts with
   | nil => intro vs ds pl h; obtain ⟨_, rfl, _⟩ := trodAll_nil h; rfl
   | cons t ts ih => intro vs ds pl h; obtain ⟨v, vs', d, ds', p, q, _, rfl, _, _, h2⟩ := trodAll_cons h; simp [ih h2]
  exact this hA
 have hvt : s.plain.varTypes P = [] := by
  simp [ChangeSpec.plain, DataSpec.varTypes, hvars]
 rw [hvt, List.append_nil] at hwt
 obtain ⟨ps, hsh, hpl, hrep, hpure⟩ := values_rep hT hG (fun j t v hj hv => ⟨base, hval j t v (by simpa using hj) (by simpa using hv)⟩) hA (fun x hx => by simpa using List.all_eq_true.1 hwt x hx)
 have e : ∀ j, args.getD j undef = args.toList.getD j undef := fun j => by simp [Array.getD_eq_getD_getElem?, List.getD_eq_getElem?_getD]
 refine ((hspec ps hsh hpure).2 (cellF W) W args (holds_cellF hgl) ⟨by simpa using hpl, fun i hi => by rw [e]; exact hrep i hi⟩).mono ?_
 rintro en W' ⟨v, r, F', rfl, rfl, hvr, hbel, _⟩
 obtain rfl := hvr.val_inv
 obtain ⟨hs1, hs2, hs3⟩ := hs ds (by simpa using hlen)
 have hlt := hW'.lt
 simp only [List.append_nil] at hlt hW' ⊢
 have hstay : ∀ sp' : Nat → Bool, (∀ x ∈ p, sp' x.block = true) → DataW.TrodAll enc P W' 0 sp' true fn.params.toList args.toList ds p := fun sp' hsp => trodAll_stays hl hbel hpar hA hlt hsp
 have hresults : ∀ (b : Nat) (sp : Nat → Bool) (hd : Bool), DataW.TrodAll enc P W' b sp hd fn.resultTypes.toList ((Value.bool true).resultList fn.resultTypes.size) [.lit (.bool true)] [] := fun b sp hd => by
  rw [hres]
  exact trodAll_mk1 (shut_bool htb true)
 refine ⟨_, rfl, ds, [], p, [], p, [], hW', ?_, ?_, ?_, hbel.frame _, fun _ => ⟨ok_one hres rfl (okWide_bool_mk htb true), ?_⟩⟩
 · rw [List.append_nil, hs1]; exact hresults _ _ _
 · rw [List.append_nil, hs2]; exact hstay _ fun x hx => by simpa using hlt x hx
 · rw [List.append_nil, hvars, hs3]; exact rfl
 · refine ⟨_, [], p, ⟨p, [], trodAll_append (p := []) (hstay _ fun _ _ => rfl) (hresults _ _ _), by rw [hvars]; exact rfl, by simp, ?_, by simpa using hnd⟩, fun x hx _ => hx⟩
   intro b off hp
   rw [hbel.frozen (hlt _ hp)]
   exact hfz b off (by simpa using hp)
end Go.Proofs.YtbmhdpflloepkaaDoor

namespace Go.Proofs.YtbmhdpflloepkaaDoor
open Go.ChangeShapes Go.WideShapes Go.ChangeAt Go.RowKit
set_option linter.unusedVariables false

theorem own : ownKnob Tryd.prog.godebug = none := by kernel_rfl
theorem laidOut : laidOutB Tryd.prog = true := by kernel_rfl
def parsOk (P : Program) (ts : List TypeId) : Bool := ts.all fun t => P.readableRec t && decide (t < P.types.size)
def inG (G ts : List TypeId) : Bool := ts.all fun t => G.contains t
theorem inG_of {G ts : List TypeId} (h : inG G ts = true) : ∀ t ∈ ts, G.contains t = true := fun t ht => List.all_eq_true.1 h t ht
theorem parsOk_of {P : Program} {ts : List TypeId} (h : parsOk P ts = true) : ∀ t ∈ ts, P.readableRec t = true ∧ t < P.types.size := fun t ht => by
 have := List.all_eq_true.1 h t ht
 simpa using this

abbrev laidV : List (String × DataW Unit) := [("math/bits.deBruijn64tab", Rows.laid_math_bits_deBruijn64tab)]
set_option maxRecDepth 100000 in
theorem door_met (os : Os) (args : Array Value) : laidMetH Tryd.prog laidV ((World.doorLaid Tryd.prog 400 os).forCall (fun _ _ => 0) ⟨#[], args, []⟩).memory :=
 laidMetH_of_parts3 (fuel := 8) (laidMet_of_run' 8 (by kernel_rfl) (by kernel_rfl)) (by kernel_rfl) (by kernel_rfl)
theorem laid_tab : (Rows.laid_math_bits_deBruijn64tab : DataW Unit) = .agg (tzTab.map fun x => .lit (.int .u8 x)) := rfl
set_option maxRecDepth 100000 in
theorem globs_in {W : World} (h : laidMetH Tryd.prog laidV W) : GlobsIn W := by
 rw [MakeChecks.laidMetH_plain _ _ _ (by kernel_rfl)] at h
 obtain ⟨ps, ⟨g0, t0, cs, f0, p0, q0, hg0, ht0, hv0, hd0, _, _⟩, _, _⟩ := h
 obtain rfl := Option.some.inj ((show Tryd.prog.globalNamed "math/bits.deBruijn64tab" = some 0 by kernel_rfl).symm.trans hg0)
 obtain rfl := Option.some.inj ((show (Tryd.prog.globals[0]?).map (·.type) = some 121 by kernel_rfl).symm.trans ht0)
 obtain ⟨xs, m, rfl, hx, hlen, hn, hel⟩ := DataW.trod_array (show Tryd.prog.underlying 121 = some (.array 64 5) by kernel_rfl) hd0
 have c1 : Tryd.prog.cellsOf 5 = 1 := by kernel_rfl
 have c64 : Tryd.prog.cellsOf 121 = 64 := by kernel_rfl
 simp only [Prod.mk.injEq] at hx
 have hx1 : tzTab.map (fun x => (DataW.lit (.int .u8 x) : DataW Unit)) = xs.map (·.1) := by
  have := hx.1
  rw [laid_tab] at this
  simpa using this
 intro g j v hv
 unfold globs at hv
 cases hb : Nat.beq g 0 with
 | false => rw [hb] at hv; simp at hv
 | true =>
   obtain rfl : g = 0 := Nat.eq_of_beq_eq_true hb
   rw [hb] at hv
   simp only [cond_true, List.getElem?_map] at hv
   have hj : j < 64 := by
    cases hx : tzTab[j]? with
    | none => rw [hx] at hv; cases hv
    | some x => have := (List.getElem?_eq_some_iff.1 hx).1; exact this
   have hj2 : j < tzTab.length := hj
   rw [List.getElem?_eq_getElem hj2] at hv
   simp only [Option.map_some, Option.some.injEq] at hv
   subst hv
   have e1 := congrArg (fun l => l[j]?) hx1
   simp only [List.getElem?_map] at e1
   rw [List.getElem?_eq_getElem hj2, List.getElem?_eq_getElem (show j < xs.length by omega)] at e1
   simp only [Option.map_some, Option.some.injEq] at e1
   have e2 := hel j hj
   rw [List.getElem?_eq_getElem (show j < xs.length by omega), c1] at e2
   obtain ⟨k, h1, h2, _⟩ := DataW.trod_int (show Tryd.prog.underlying 5 = some (.int .u8) by kernel_rfl) e2
   rw [h2] at e1
   simp only [DataW.lit.injEq, Lit.int.injEq, true_and] at e1
   subst e1
   rw [Nat.mul_one] at h1
   rw [World.var?_cell hg0 hv0 j]
   have h3 : cs.toList[j]? = (cs.toList.drop j)[0]? := by simp
   have h4 : (cs.toList.drop j)[0]? = ((cs.toList.drop j).take 1)[0]? := by simp
   rw [← Array.getElem?_toList, h3, h4, h1]
   rfl
end Go.Proofs.YtbmhdpflloepkaaDoor

namespace Go.Proofs.YtbmhdpflloepkaaDoor
open Go.RowKit
set_option linter.unusedVariables false

def intT (P : Program) (t : TypeId) : Option IntKind := match P.underlying t with | some (.int k) => some k | _ => none
def boolT (P : Program) (t : TypeId) : Bool := match P.underlying t with | some .bool => true | _ => false
def sliceT (P : Program) (t : TypeId) : Option TypeId := match P.underlying t with | some (.slice e) => some e | _ => none
def structT (P : Program) (t : TypeId) : Option Nat := match P.underlying t with | some (.struct _) => some (P.cellsOf t) | _ => none
def fieldT (P : Program) (t : TypeId) (i : Nat) : Option (Nat × TypeId × Nat) := match P.underlying t with | some (.struct fs) => (fs[i]?).map fun f => (f.offset, f.type, P.cellsOf f.type) | _ => none

section
variable {P : Program} {t : TypeId} {n : Nat} {ps : List PV} {p : PV}

theorem intT_some {k : IntKind} (h : intT P t = some k) : P.underlying t = some (.int k) := by
 unfold intT at h
 split at h
 · rename_i k' hu; cases h; exact hu
 · cases h
theorem boolT_some (h : boolT P t = true) : P.underlying t = some .bool := by
 unfold boolT at h
 split at h
 · rename_i hu; exact hu
 · cases h
theorem sliceT_some {e : TypeId} (h : sliceT P t = some e) : P.underlying t = some (.slice e) := by
 unfold sliceT at h
 split at h
 · rename_i k' hu; cases h; exact hu
 · cases h
theorem structT_some {k : Nat} (h : structT P t = some k) : ∃ fs, P.underlying t = some (.struct fs) ∧ P.cellsOf t = k := by
 unfold structT at h
 split at h
 · rename_i fs hu; cases h; exact ⟨fs, hu, rfl⟩
 · cases h
theorem fieldT_some {i off sz : Nat} {ty : TypeId} (h : fieldT P t i = some (off, ty, sz)) : ∃ fs f, P.underlying t = some (.struct fs) ∧ f ∈ fs.toList ∧ f.offset = off ∧ f.type = ty ∧ P.cellsOf f.type = sz := by
 unfold fieldT at h
 split at h
 · rename_i fs hu
   cases hf : fs[i]? with
   | none => rw [hf] at h; cases h
   | some f =>
     rw [hf] at h
     simp only [Option.map_some, Option.some.injEq, Prod.mk.injEq] at h
     exact ⟨fs, f, hu, by
      have := (Array.getElem?_eq_some_iff.1 hf)
      obtain ⟨hi, rfl⟩ := this
      simp, h.1, h.2.1, h.2.2⟩
 · cases h

theorem shape_int {k : IntKind} (h : Shape P n t ps) (hk : intT P t = some k) : ∃ m, (Lit.int k m).wf = true ∧ ps = [.val (.int k m)] := by
 cases n with
 | zero => exact h.elim
 | succ n => simpa only [Shape, intT_some hk] using h
theorem shape_bool (h : Shape P n t ps) (hk : boolT P t = true) : ∃ b, ps = [.val (.bool b)] := by
 cases n with
 | zero => exact h.elim
 | succ n => simpa only [Shape, boolT_some hk] using h
theorem shape_slice {e : TypeId} (h : Shape P n t ps) (hk : sliceT P t = some e) : ∃ n' ll fl, ll.length ≤ maxVec ∧ (∀ l ∈ ll, Shape P n' e l) ∧ ps = [.vec ll fl] := by
 cases n with
 | zero => exact h.elim
 | succ n =>
   have : ∃ ll fl, ll.length ≤ maxVec ∧ (∀ l ∈ ll, Shape P n e l) ∧ ps = [.vec ll fl] := by simpa only [Shape, sliceT_some hk] using h
   obtain ⟨ll, fl, h⟩ := this
   exact ⟨n, ll, fl, h⟩
theorem shape_len {k : Nat} (h : Shape P n t ps) (hk : structT P t = some k) : ps.length = k := by
 obtain ⟨fs, hu, rfl⟩ := structT_some hk
 cases n with
 | zero => exact h.elim
 | succ n =>
   have : ps.length = P.cellsOf t ∧ ∀ f ∈ fs.toList, Shape P n f.type ((ps.drop f.offset).take (P.cellsOf f.type)) := by simpa only [Shape, hu] using h
   exact this.1
theorem shape_field {i off sz : Nat} {ty : TypeId} (h : Shape P n t ps) (hk : fieldT P t i = some (off, ty, sz)) : ∃ n', Shape P n' ty ((ps.drop off).take sz) := by
 obtain ⟨fs, f, hu, hf, rfl, rfl, rfl⟩ := fieldT_some hk
 cases n with
 | zero => exact h.elim
 | succ n =>
   have : ps.length = P.cellsOf t ∧ ∀ f ∈ fs.toList, Shape P n f.type ((ps.drop f.offset).take (P.cellsOf f.type)) := by simpa only [Shape, hu] using h
   exact ⟨n, this.2 f hf⟩

theorem shapeV_slice {e : TypeId} (h : ShapeV P t p) (hk : sliceT P t = some e) : ∃ n' ll fl, ll.length ≤ maxVec ∧ (∀ l ∈ ll, Shape P n' e l) ∧ p = .vec ll fl := by
 obtain ⟨n, h⟩ := h
 rw [sliceT_some hk] at h
 obtain ⟨n', ll, fl, h1, h2, h3⟩ := shape_slice (show Shape P n t [p] from h) hk
 exact ⟨n', ll, fl, h1, h2, by simpa using h3⟩
theorem shapeV_struct {k : Nat} (h : ShapeV P t p) (hk : structT P t = some k) : ∃ n ps, p = .agg ps ∧ Shape P n t ps := by
 obtain ⟨n, h⟩ := h
 obtain ⟨fs, hu, _⟩ := structT_some hk
 rw [hu] at h
 obtain ⟨ps, h1, h2⟩ := h
 exact ⟨n, ps, h1, h2⟩

end
end Go.Proofs.YtbmhdpflloepkaaDoor
