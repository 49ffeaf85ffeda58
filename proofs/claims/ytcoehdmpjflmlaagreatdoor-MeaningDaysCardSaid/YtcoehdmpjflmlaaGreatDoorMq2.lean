/-
  Merged from the texts that this claim's theorem needs, part 3 of 7. No statement of the seat is proved here.
-/
import Derived.KernelRfl
import Derived.LoopNIn
import Derived.Test.YtcoehdmpjflmlaaGreatDoorChecked
import Derived.Test.YtcoehdmpjflmlaaGreatDoorMq1
set_option linter.unusedSimpArgs false
set_option linter.unusedVariables false
set_option linter.unusedSectionVars false

namespace Go.Proofs.YtcoehdmpjflmlaaGreatDoor
open Go.RowKit
set_option linter.unusedVariables false
set_option linter.unusedSimpArgs false

inductive ARes where
 | tmp (t : Nat)
 | cell (t : Nat) (agg : Bool) (size : Nat)

def cRes (P : Program) : ResultVar→Option ARes
 | .tmp t => some (.tmp t)
 | .cell a t => match layOf P t with
   | some l => some (.cell a l.1 l.2)
   | none => none
def cRess (P : Program) : List ResultVar→Option (List ARes)
 | [] => some []
 | r :: l => match cRes P r, cRess P l with
   | some x,some xs => some (x :: xs)
   | _,_ => none

def retV (e : Env) (h : Heap) : ARes→Option PV
 | .tmp t => e t
 | .cell a agg size => match dEval (.load agg size (.tmp a)) e h 0 with
   | some (p,_) => some p
   | none => none
def retVs (e : Env) (h : Heap) : List ARes→Option (List PV)
 | [] => some []
 | r :: l => match retV e h r, retVs e h l with
   | some x,some xs => some (x :: xs)
   | _,_ => none
def retAll (rs : List ARes) (e : Env) (h : Heap) : Option PV :=
 match retVs e h rs with
 | some [p] => some p
 | some l => some (.tup l)
 | none => none

def retQ (rs : List ARes) (R : PV→Prop) : Exit→Nat→Env→Heap→Prop
 | .normal,_,e,h => ∃ r0 r,retAll rs e h = some r0∧LoP r0 r∧r.pure∧R r
 | .ret,_,e,h => ∃ r0 r,retAll rs e h = some r0∧LoP r0 r∧r.pure∧R r
 | _,_,_,_ => False

def FnOk (P : Program) (f nt : Nat) (ac : ACode) (rs : List ARes) : Prop :=
 P.follows .mixedOrders = true∧∃ fn c,P.funcs[f]? = some fn∧(fn.name == "runtime.NumGoroutine") = false∧fn.body = some c∧fn.ntmps = nt∧cCode P nt c = some ac∧cRess P fn.results.toList = some rs

def codeOf (P : Program) (nt : Nat) : Option Code→Option ACode
 | some c => cCode P nt c
 | none => none
theorem fnOk_of {P : Program} {f nt : Nat} {fn : Func} {ac : ACode} {rs : List ARes} (hm : P.follows .mixedOrders = true) (hf : P.funcs[f]? = some fn) (hn : (fn.name == "runtime.NumGoroutine") = false) (hnt : fn.ntmps = nt) (hc : codeOf P nt fn.body = some ac) (hr : cRess P fn.results.toList = some rs) : FnOk P f nt ac rs := by
 refine ⟨hm,fn,?_⟩
 cases hb : fn.body with
 | none => rw [hb] at hc; cases hc
 | some c => exact ⟨c,hf,hn,rfl,hnt,by rw [hb] at hc; exact hc,hr⟩

def Ctx.dom (C : Ctx) (n : Nat) : Prop := ∀ i,n≤i→C.φ0 i = none

def argEnv (args : List PV) : Env := fun k => args[k]?

section
variable {P : Program} {C : Ctx} {Fr : Nat→Prop} {e : Env} {h : Heap} {F : Froz} {φ : Locs} {a : Act} {w : World}

theorem load_val (s : St' C Fr e h F φ a w) {id : Nat} {t : TypeId} {agg : Bool} {size : Nat} (hlay : layOf P t = some (agg,size)) {x : Operand} {p : PV} {h' : Heap} (hd : dEval (.load agg size x) e h id = some (p,h')) :
 ∃ ad val,a.eval x = .pointer (some ad)∧(loadVar t ad).run P w = .ok val w∧Rep F φ val p := by
 simp only [dEval] at hd
 split at hd
 · rename_i l hl
   split at hd
   · rename_i q hq
     cases hd
     obtain ⟨ad,hv,hs,hc⟩ := frozCells s (s.eval hl)
     have hle := cutAt_le hq
     obtain ⟨val,hr,hrep⟩ := load_cut (w := w) hlay hs hq (fun j hj=>by simpa using hc j (by omega))
     exact ⟨ad,val,hv,hr,hrep⟩
   · simp at hd
 · rename_i k i off hl
   split at hd
   · rename_i b hb
     split at hd
     case isFalse => simp at hd
     rename_i hi
     split at hd
     · rename_i q hq
       cases hd
       obtain ⟨loc,ad,hloc,hz,hbase,hs,hv⟩ := (s.eval hl).ptr_inv
       have hle := cutAt_le hq
       obtain ⟨loc',h1,h2,_⟩ := s.live k b hb
       obtain rfl : loc' = loc := by rw [h1] at hloc; simpa using hloc
       have h2 := h2.cells hz
       have hel : (b.elems.getD i []).length = b.esz := by
        rw [h2.esz]
        refine h2.el _ ?_
        simp [List.getD_eq_getElem?_getD,hi]
       obtain ⟨val,hr,hrep⟩ := load_cut (w := w) (ad := ⟨ad.block,ad.off + (i * loc'.esz + off),none⟩) hlay rfl hq (fun j hj => by
        have := s.objCell hb hloc hi (j := off + j) (by omega) hbase
        rw [show ad.off + (i * loc'.esz + (off + j)) = ad.off + (i * loc'.esz + off) + j by omega] at this
        exact this)
       exact ⟨_,val,hv,hr,hrep⟩
     · simp at hd
   · simp at hd
 · simp at hd

def resOne (P : Program) (tmps : Array Value) : ResultVar→Sem Value
 | .tmp t => Pure.pure (tmps.getD t undef)
 | .cell a t => do loadVar t (← asAddr (tmps.getD a undef))

theorem retV_run (s : St' C Fr e h F φ a w) {r : ResultVar} {x : ARes} (hr : cRes P r = some x) {p : PV} (hp : retV e h x = some p) : ∃ v,(resOne P a.tmps r).run P w = .ok v w∧Rep F φ v p := by
 cases r with
 | tmp t =>
   obtain rfl : ARes.tmp t = x := by simpa [cRes] using hr
   exact ⟨_,rfl,(s.env t p hp).2⟩
 | cell c t =>
   simp only [cRes] at hr
   split at hr
   · rename_i l hl
     obtain rfl : ARes.cell c l.1 l.2 = x := by simpa using hr
     simp only [retV] at hp
     split at hp
     · rename_i q h' hq
       cases hp
       obtain ⟨ad,val,hv,hrun,hrep⟩ := load_val (P := P) s hl hq
       have hv' : a.tmps.getD c undef = .pointer (some ad) := hv
       exact ⟨val,by simp [resOne,hv',asAddr,hrun],hrep⟩
     · simp at hp
   · simp at hr

theorem retVs_run (s : St' C Fr e h F φ a w) : ∀ {rs : List ResultVar} {xs : List ARes} {ps : List PV},cRess P rs = some xs→retVs e h xs = some ps→∃ vs : List Value,(rs.mapM (resOne P a.tmps)).run P w = .ok vs w∧vs.length = ps.length∧∀ i,i < ps.length→Rep F φ (vs.getD i undef) (ps.getD i pvu) := by
 intro rs
 induction rs with
 | nil =>
   intro xs ps hx hp
   obtain rfl : [] = xs := by simpa [cRess] using hx
   obtain rfl : [] = ps := by simpa [retVs] using hp
   exact ⟨[],rfl,rfl,fun i hi=>by simp at hi⟩
 | cons r rs ih =>
   intro xs ps hx hp
   simp only [cRess] at hx
   split at hx
   case h_2 => simp at hx
   rename_i x xs' h1 h2
   obtain rfl : x :: xs' = xs := by simpa using hx
   simp only [retVs] at hp
   split at hp
   case h_2 => simp at hp
   rename_i p ps' h3 h4
   obtain rfl : p :: ps' = ps := by simpa using hp
   obtain ⟨v,hv,hrep⟩ := retV_run s h1 h3
   obtain ⟨vs,hvs,hl,hreps⟩ := ih h2 h4
   refine ⟨v :: vs,by simp [hv,hvs],by simp [hl],fun i hi => ?_⟩
   cases i with
   | zero => simpa using hrep
   | succ i => simpa using hreps i (by simpa using hi)

theorem results_eq (fn : Func) (tmps : Array Value) : results fn tmps = (do let vs ← fn.results.mapM (resOne P tmps); Pure.pure (if h : vs.size = 1 then vs[0] else .tuple vs)) := by
 unfold results
 congr 1

theorem retAll_run (s : St' C Fr e h F φ a w) {fn : Func} {rs : List ARes} (hr : cRess P fn.results.toList = some rs) {p : PV} (hp : retAll rs e h = some p) : ∃ v,(results fn a.tmps).run P w = .ok v w∧Rep F φ v p := by
 unfold retAll at hp
 have main : ∀ ps,retVs e h rs = some ps→∃ vs : List Value,(fn.results.mapM (resOne P a.tmps)).run P w = .ok vs.toArray w∧vs.length = ps.length∧∀ i,i < ps.length→Rep F φ (vs.getD i undef) (ps.getD i pvu) := by
  intro ps hps
  obtain ⟨vs,h1,h2,h3⟩ := retVs_run s hr hps
  exact ⟨vs,by rw [Array.mapM_eq_mapM_toList]; simp [h1],h2,h3⟩
 split at hp
 · rename_i q hq
   cases hp
   obtain ⟨vs,h1,h2,h3⟩ := main _ hq
   obtain ⟨v,rfl⟩ : ∃ v,vs = [v] := by
    cases vs with
    | nil => simp at h2
    | cons v r => cases r with
      | nil => exact ⟨v,rfl⟩
      | cons _ _ => simp at h2
   exact ⟨v,by rw [results_eq (P := P),Sem.run_bind,h1]; simp,by simpa using h3 0 (by simp)⟩
 · rename_i ps hne hq
   cases hp
   obtain ⟨vs,h1,h2,h3⟩ := main _ hq
   refine ⟨.tuple vs.toArray,?_,.tup _ _ (by simp [h2]) fun i hi => ?_⟩
   · have hne1 : vs.length ≠ 1 := by
      intro hl
      rw [hl] at h2
      cases ps with
      | nil => simp at h2
      | cons p r => cases r with
        | nil => exact hne p rfl
        | cons _ _ => simp at h2
     rw [results_eq (P := P),Sem.run_bind,h1]
     simp [hne1]
   · have := h3 i hi
     simpa [Array.getD_eq_getD_getElem?,List.getD_eq_getElem?_getD] using this
 · simp at hp

theorem St'.turned (s : St' C Fr e h F φ a w) {w' : World} {row : Option Nat} (hg : w.grownBy w' row) (hrow : ∀ r,row = some r→C.w0.heap.size≤r∧∃ o : Obj,w.heap[r]? = some o∧o.isCells = false) (hrm : (∀ i b,h i = some b→0 < b.esz) ∨ ∀ r es t,row = some r→¬ w.heap[r]? = some (.map es t)) {a' : Act} (ht : a'.tmps = a.tmps) (hm : Marks C.w0.heap.size a' w') : St' C Fr e h F φ a' w' := by
 have hrow' : ∀ r,row = some r→∃ o : Obj,w.heap[r]? = some o∧o.isCells = false := fun r hr => (hrow r hr).2
 refine { nt := by rw [ht]; exact s.nt, glob := s.glob, marks := hm, loc0 := s.loc0, free := s.free, env := fun k p hp => by rw [ht]; exact s.env k p hp, froz := fun x v hx => ?_, ext := s.ext, old := s.old, os := hg.os.trans s.os, tape := hg.tape.trans s.tape, output := hg.output.trans s.output,
          size := Nat.le_trans s.size hg.size,kept := fun k hk hG => ?_,live := fun i b hb => ?_,sep := s.sep }
 · obtain ⟨h1, h2, h3⟩ := s.froz x v hx
   exact ⟨h1,h2,cell_kept h3 hg hrow'⟩
 · rw [hg.block k (Nat.lt_of_lt_of_le hk s.size) (fun e => by have := (hrow k e.symm).1; omega)]
   exact s.kept k hk hG
 · obtain ⟨loc, h1, h2, h3⟩ := s.live i b hb
   rcases h2 with h2 | h2
   · refine ⟨loc, h1, .inl (h2.mono (fun _ _ h => h) (fun _ _ h => h) fun k hk => ?_), h3⟩
     obtain ⟨hc,x,hx,rfl⟩ := hk
     obtain ⟨y,hy,_,cells,t,hgy,_⟩ := h2.room hc
     obtain rfl : y = x := by rw [hy] at hx; simpa using hx
     exact grownBy_keeps_cells hg hrow' hgy rfl
   · refine ⟨loc, h1, .inr (h2.mono (fun _ _ h => h) (fun _ _ h => h) fun k hk => ?_), h3⟩
     obtain ⟨hc,x,hx,rfl⟩ := hk
     obtain ⟨y,hy,es,t,hgy,_⟩ := h2.room
     obtain rfl : y = x := by rw [hy] at hx; simpa using hx
     refine hg.block y.block (Array.getElem?_eq_some_iff.1 hgy).1 fun he => ?_
     rcases hrm with hrm | hrm
     · have := hrm i b hb; have := h2.esz; omega
     · exact hrm y.block es t he.symm hgy

theorem leaves_marks {FN : Fence} {m : Nat} {fn : Func} {tmps : Array Value} {R : Ending→World→Prop} : ∀ (ds : List Deferred) {a : Act} {w : World},a.defers = ds→a.tmps = tmps→St' C Fr e h F φ a w→(∀ a' w',St' C Fr e h F φ a' w'→a'.tmps = tmps→∃ v,(results fn tmps).run P w' = .ok v w'∧R (.returned v) w') →
 LeavesInM FN m P fn tmps R ds .returning w
 | [],a,w,hd,ht,s,hk => hk a w s ht
 | d :: ds, a, w, hd, ht, s, hk => by
   obtain ⟨D,rfl,hD,hw⟩ := s.marks.all d (by rw [hd]; simp)
   have hnd := s.marks.nd
   rw [hd,List.nodup_cons] at hnd
   refine ⟨by simp,.inl ⟨D,_,rfl,run_takeDeferred hw,?_⟩⟩
   have hm : Marks C.w0.heap.size { a with defers := ds } (w.putObj D (.deferred none)) := by
    refine ⟨hnd.2,fun d' hd' => ?_⟩
    obtain ⟨D',e1,e2,e3⟩ := s.marks.all d' (by rw [hd]; simp at hd' ⊢; exact .inr hd')
    refine ⟨D',e1,e2,?_⟩
    have hne : D'≠D := by
     rintro rfl
     exact hnd.1 (by rw [← e1]; exact hd')
    exact (World.putObj_heap_other hne).trans e3
   exact leaves_marks ds (a := { a with defers := ds }) rfl ht (s.turned (grownBy_putObj' w D _) (fun r hr=>by cases hr; exact ⟨hD,_,hw,rfl⟩) (.inr fun r es t hr h=>by cases hr; rw [hw] at h; cases h) rfl hm) hk

theorem spec_intro {f nt : Nat} {ac : ACode} {rs : List ARes} (hf : FnOk P f nt ac rs) {args : List PV} {R : PV→Prop} (hn : args.length≤nt) (hk : ∀ C : Ctx,C.dom 0→aw P C ac (retQ rs R) 0 (argEnv args) (fun _ => none)) : Spec P f args R := by
 obtain ⟨hm,fn,c,hfn,hname,hb,rfl,hc,hr⟩ := hf
 refine ⟨⟨fn,hfn,hname,by rw [hb]; rfl⟩,fun F w vs hF hv => ?_⟩
 refine (callsIn_wide (n := 0)).1 (callsIn_of_wp_marks hfn hb trivial ?_ rfl)
 let C : Ctx := ⟨w,fun _ => False,F,fn.ntmps,fun _ => none⟩
 have hsz : vs.size = args.length := hv.1
 have s0 : St' C (fun i => 0≤i) (argEnv args) (fun _ => none) F noLoc { tmps := vs ++ Array.replicate (fn.ntmps - vs.size) undef,defers := [] } w := by
  refine { nt := (by simp [C]; omega), glob := hF.2, marks := Marks.nil rfl, loc0 := fun i x hx => (by cases hx), free := fun _ _ => rfl, env := fun k p hp => ?_, froz := hF.1, ext := fun _ _ h => h, old := fun _ _ _ => rfl, os := rfl, tape := rfl, output := rfl, size := Nat.le_refl _, kept := fun _ _ _ => rfl,
           live := fun id b hb => (by cases hb),sep := fun i j bi bj li lj k hi => (by cases hi) }
  have hk : k < args.length := (List.getElem?_eq_some_iff.1 hp).1
  refine ⟨by simp [C]; omega,?_⟩
  have := hv.2 k hk
  have e1 : (vs ++ Array.replicate (fn.ntmps - vs.size) undef).getD k undef = vs.getD k undef := by
   simp only [Array.getD_eq_getD_getElem?]
   rw [Array.getElem?_append_left (by omega)]
  have e2 : args.getD k pvu = p := by
   rw [List.getD_eq_getElem?_getD]
   have hp' : args[k]? = some p := hp
   rw [hp']; rfl
  rw [e1,← e2]
  exact this
 refine wpIn_mono (hk C (fun _ _=>rfl) hm Fence.wide 0 ⟨fenceOk_wide 0,fun l hl=>by cases hl⟩ c hc _ w ⟨F,noLoc,s0⟩) fun x a' w' ⟨n,e,h,hQ,F',φ',s⟩ => ?_
 have fin : (∃ r0 r,retAll rs e h = some r0∧LoP r0 r∧r.pure∧R r)→LeavesInM Fence.wide 0 P fn a'.tmps (fun e w' => ∃ v' r F',e = .returned v'∧R r∧Rep F' noLoc v' r∧Below w.heap.size w w'∧Holds F' w'∧(∀ x u,F x = some u→F' x = some u)∧∀ x : Addr,x.block < w.heap.size→F' x = F x) a'.defers .returning w' := by
  rintro ⟨r0,r,h0,hlo,hpure,hR⟩
  refine leaves_marks a'.defers rfl rfl s fun a2 w2 s2 ht => ?_
  obtain ⟨v,hrun,hrep⟩ := retAll_run s2 hr h0
  rw [ht] at hrun
  exact ⟨v,hrun,v,r,F',rfl,hR,(hlo.rep hrep).pure hpure,⟨s2.os,s2.tape,s2.output,s2.size,fun k hk => s2.kept k hk fun h => h⟩,⟨s2.froz,s2.glob⟩,s2.ext,fun x hx => s2.old x hx fun h => h⟩
 cases x with
 | normal => exact fin hQ
 | ret => exact fin hQ
 | _ => exact hQ.elim

def retI (rs : List ARes) (R : Nat→PV→Heap→Prop) : Exit→Nat→Env→Heap→Prop
 | .normal,n,e,h => ∃ r0 r,retAll rs e h = some r0∧LoP r0 r∧R n r h
 | .ret,n,e,h => ∃ r0 r,retAll rs e h = some r0∧LoP r0 r∧R n r h
 | _,_,_,_ => False

theorem ispec_intro {f nt : Nat} {ac : ACode} {rs : List ARes} (hf : FnOk P f nt ac rs) {n : Nat} {args : List PV} {h : Heap} {R : Nat→PV→Heap→Prop} (hn : args.length≤nt) (hk : ∀ C : Ctx,C.dom n→aw P C ac (retI rs R) n (argEnv args) h) : ISpec P f n args h R := by
 obtain ⟨hm,fn,c,hfn,hname,hb,rfl,hc,hr⟩ := hf
 refine ⟨⟨fn,hfn,hname,by rw [hb]; rfl⟩,fun C e F φ a w vs s hv => ?_⟩
 refine (callsIn_wide (n := 0)).1 (callsIn_of_wp_marks hfn hb trivial ?_ rfl)
 let C' : Ctx := ⟨w,fun k => ∃ i b loc,h i = some b∧φ i = some loc∧loc.has k,F,fn.ntmps,φ⟩
 have hG : ∀ k,C'.G k→C.w0.heap.size≤k ∨ C.G k := by
  rintro k ⟨i,b,loc,hi,hl,hk⟩
  obtain ⟨loc',h1,h2,h3⟩ := s.live i b hi
  obtain rfl : loc' = loc := by rw [h1] at hl; simpa using hl
  exact (h3 k hk).1
 have hcells : ∀ k,C'.G k→¬ w.heap[k]? = some (.deferred (some [])) := by
  rintro k ⟨i,b,loc,hi,hl,hk⟩ ho
  obtain ⟨loc',h1,h2,_⟩ := s.live i b hi
  obtain rfl : loc' = loc := by rw [h1] at hl; simpa using hl
  rcases h2.there hk with ⟨cells,t,hg⟩ | ⟨es,t,hg⟩
  · rw [hg] at ho; cases ho
  · rw [hg] at ho; cases ho
 have hsz : vs.size = args.length := hv.1
 have s0 : St' C' (fun i => n≤i) (argEnv args) h F φ { tmps := vs ++ Array.replicate (fn.ntmps - vs.size) undef,defers := [] } w := by
  refine { nt := (by simp [C']; omega), glob := s.glob, marks := Marks.nil rfl, loc0 := fun i x hx => hx, free := s.free, env := fun k p hp => ?_, froz := s.froz, ext := fun _ _ h => h, old := fun _ _ _ => rfl, os := rfl, tape := rfl, output := rfl, size := Nat.le_refl _, kept := fun _ _ _ => rfl,
           live := fun id b hb => ?_,sep := s.sep }
  · have hk : k < args.length := (List.getElem?_eq_some_iff.1 hp).1
    refine ⟨by simp [C']; omega,?_⟩
    have := hv.2 k hk
    have e1 : (vs ++ Array.replicate (fn.ntmps - vs.size) undef).getD k undef = vs.getD k undef := by
     simp only [Array.getD_eq_getD_getElem?]
     rw [Array.getElem?_append_left (by omega)]
    have e2 : args.getD k pvu = p := by
     rw [List.getD_eq_getElem?_getD]
     have hp' : args[k]? = some p := hp
     rw [hp']; rfl
    rw [e1,← e2]
    exact this
  · obtain ⟨loc, h1, h2, h3⟩ := s.live id b hb
    exact ⟨loc,h1,h2,fun k hk => ⟨.inr ⟨id,b,loc,hb,h1,hk⟩,(h3 k hk).2⟩⟩
 refine wpIn_mono (hk C' s.free hm Fence.wide 0 ⟨fenceOk_wide 0,fun l hl=>by cases hl⟩ c hc _ w ⟨F,φ,s0⟩) fun x a' w' ⟨n',e',h',hQ,F',φ',s'⟩ => ?_
 have back : ∀ {a2 : Act} {w' : World},St' C' (fun i => n'≤i) e' h' F' φ' a2 w'→St' C (fun i => n'≤i) e h' F' φ' a w' := fun {a2 w'} s' => by
  refine { nt := s.nt, glob := s'.glob, marks := s.marks.mono (fun k hk => by rw [s'.kept k (Array.getElem?_eq_some_iff.1 hk).1 (fun hg => hcells k hg hk)]; exact hk), loc0 := fun i x hx => s'.loc0 i x (s.loc0 i x hx), free := s'.free, env := fun k p hp => ⟨(s.env k p hp).1, (s.env k p hp).2.mono s'.ext s'.loc0⟩, froz := s'.froz, ext := fun x v hx => s'.ext _ _ (s.ext x v hx),
           old := fun x hx hg => ?_,os := s'.os.trans s.os,tape := s'.tape.trans s.tape,output := s'.output.trans s.output,size := Nat.le_trans s.size s'.size,kept := fun k hk hg => ?_,live := fun i b hi => ?_,sep := s'.sep }
  · have hx2 : x.block < w.heap.size := Nat.lt_of_lt_of_le hx s.size
    rw [s'.old x hx2 fun hg' => (hG _ hg').elim (fun h1 => absurd hx (Nat.not_lt.2 h1)) hg]
    exact s.old x hx hg
  · rw [s'.kept k (Nat.lt_of_lt_of_le hk s.size) fun hg' => (hG _ hg').elim (fun h1 => absurd hk (Nat.not_lt.2 h1)) hg]
    exact s.kept k hk hg
  · obtain ⟨loc, h1, h2, h3⟩ := s'.live i b hi
    refine ⟨loc,h1,h2,fun k hk => ⟨?_,(h3 k hk).2⟩⟩
    rcases (h3 k hk).1 with h4 | h4
    · exact .inl (Nat.le_trans s.size h4)
    · exact hG k h4
 have fin : (∃ r0 r,retAll rs e' h' = some r0∧LoP r0 r∧R n' r h')→LeavesInM Fence.wide 0 P fn a'.tmps (fun en w' => ∃ v' r n1 h1 F1 φ1,en = .returned v'∧R n1 r h1∧Rep F1 φ1 v' r∧St' C (fun i => n1≤i) e h1 F1 φ1 a w') a'.defers .returning w' := by
  rintro ⟨r0,r,h0,hlo,hR⟩
  refine leaves_marks a'.defers rfl rfl s' fun a2 w2 s2 ht => ?_
  obtain ⟨v,hrun,hrep⟩ := retAll_run s2 hr h0
  rw [ht] at hrun
  exact ⟨v,hrun,v,r,n',h',F',φ',rfl,hR,hlo.rep hrep,back s2⟩
 cases x with
 | normal => exact fin hQ
 | ret => exact fin hQ
 | _ => exact hQ.elim

def envL : List (Nat × PV)→Env
 | [] => fun _ => none
 | (k,p) :: r => (envL r).upd k p
def heapL : List (Nat × Bx)→Heap
 | [] => fun _ => none
 | (k,b) :: r => (heapL r).upd k b

theorem envL_some {L : List (Nat × PV)} {k : Nat} {p : PV} (h : envL L k = some p) : (k,p)∈L := by
 induction L with
 | nil => cases h
 | cons q r ih =>
   obtain ⟨k',p'⟩ := q
   simp only [envL] at h
   by_cases hk : k = k'
   · subst hk; rw [Env.upd_same] at h; cases h; simp
   · rw [Env.upd_ne _ _ hk] at h; simp [ih h]
theorem heapL_some {L : List (Nat × Bx)} {k : Nat} {p : Bx} (h : heapL L k = some p) : (k,p)∈L := by
 induction L with
 | nil => cases h
 | cons q r ih =>
   obtain ⟨k',p'⟩ := q
   simp only [heapL] at h
   by_cases hk : k = k'
   · subst hk; rw [Heap.upd_same] at h; cases h; simp
   · rw [Heap.upd_ne _ _ hk] at h; simp [ih h]

inductive RenP (ρ : Nat→Nat) (D : Nat→Prop) : PV→PV→Prop
 | pure (p : PV) (hp : p.pure) : RenP ρ D p p
 | own (id : Nat) (hd : D id) : RenP ρ D (.own (ρ id)) (.own id)
 | ptr (id i off : Nat) (hd : D id) : RenP ρ D (.ptr (ρ id) i off) (.ptr id i off)
 | view (id lo len : Nat) (hd : D id) : RenP ρ D (.view (ρ id) lo len) (.view id lo len)
 | mp (id : Nat) (hd : D id) : RenP ρ D (.mp (ρ id)) (.mp id)
 | agg (l m : List PV) (hl : l.length = m.length) (h : ∀ i,i < l.length→RenP ρ D (l.getD i pvu) (m.getD i pvu)) : RenP ρ D (.agg l) (.agg m)
 | low (p : PV) (hp : p.low.pure) : RenP ρ D p p.low
 | same (p : PV) (hp : p.inn fun i => D i∧ρ i = i) : RenP ρ D p p

theorem RenP.rep {ρ : Nat→Nat} {D : Nat→Prop} {φ' : Locs} (hφ : ∀ i x,D i→φ (ρ i) = some x→φ' i = some x) {p0 p : PV} (hr : RenP ρ D p0 p) : ∀ {v : Value},Rep F φ v p0→Rep F φ' v p := by
 induction hr with
 | pure p hp => exact fun h => h.pure hp
 | own id hd => intro v h; obtain ⟨loc,h1,hz,rfl⟩ := h.own_inv; exact .own id loc (hφ _ _ hd h1) hz
 | view id lo len hd => intro v h; obtain ⟨loc,b,h1,hz,hl,hb,rfl⟩ := h.view_inv; exact .view id lo len loc b (hφ _ _ hd h1) hz hl hb
 | mp id hd => intro v h; obtain ⟨loc,x,h1,hz,hb,rfl⟩ := h.mp_inv; exact .mp id loc x (hφ _ _ hd h1) hz hb
 | ptr id i off hd => intro v h; obtain ⟨loc,x,h1,hz,h2,h3,rfl⟩ := h.ptr_inv; exact .ptr id i off loc x (hφ _ _ hd h1) hz h2 h3
 | agg l m hl _ ih =>
   intro v h
   obtain ⟨vs,rfl,h1,h2,h3⟩ := h.agg_inv
   exact .agg vs m (by rw [h1,hl]) (fun i hi => h2 i (by rw [hl]; exact hi)) fun i hi => ih i (by rw [hl]; exact hi) (h3 i (by rw [hl]; exact hi))
 | low p hp => exact fun h => h.low.pure hp
 | same p hp => exact fun h => h.inn (fun i x hi hx => hφ i x hi.1 (by rw [hi.2]; exact hx)) hp

inductive RenB (ρ : Nat→Nat) (D : Nat→Prop) : Bx→Bx→Prop
 | same (b : Bx) (hp : pureLL b.elems) : RenB ρ D b b
 | gen (b0 b : Bx) (hz : 0 < b.esz) (he : b0.esz = b.esz) (hl : b0.elems.length = b.elems.length) (hc : ∀ i,i < b.elems.length→(b0.elems.getD i []).length = (b.elems.getD i []).length) (h : ∀ i j,i < b.elems.length→j < b.esz→RenP ρ D ((b0.elems.getD i []).getD j pvu) ((b.elems.getD i []).getD j pvu)) : RenB ρ D b0 b

theorem St'.ren {F : Froz} {φ : Locs} {a : Act} {w : World} {n : Nat} (s : St' C (fun i => n≤i) e h F φ a w) (ρ : Nat→Nat) {n' : Nat} {L : List (Nat × PV)} {HL : List (Nat × Bx)} (he : ∀ q∈L,∃ p0,e q.1 = some p0∧RenP ρ (fun i => i < n') p0 q.2) (hh : ∀ q∈HL,q.1 < n'∧∃ b0,h (ρ q.1) = some b0∧RenB ρ (fun i => i < n') b0 q.2)
 (hinj : ∀ q∈HL,∀ q'∈HL,ρ q.1 = ρ q'.1→q.1 = q'.1) {m : Nat} (hdom : C.dom m) (hm : m≤n') (hρ : ∀ i,i < m→ρ i = i) : ∃ φ',St' C (fun i => n'≤i) (envL L) (heapL HL) F φ' a w := by
 let φ' : Locs := fun i => if i < n' then φ (ρ i) else none
 have hφ : ∀ i x,i < n'→φ (ρ i) = some x→φ' i = some x := fun i x hi hx=>by simp only [φ',hi,if_true]; exact hx
 refine ⟨φ',{ nt := s.nt,glob := s.glob,marks := s.marks,loc0 := fun i x hx => ?_,free := fun i hi => ?_,env := fun k p hp => ?_,froz := s.froz,ext := s.ext,old := s.old,os := s.os,tape := s.tape,output := s.output,size := s.size,kept := s.kept,live := fun i b hb => ?_,sep := ?_ }⟩
 · have : ¬ i < n' := by omega
   simp only [φ',this,if_false]
 · obtain ⟨p0, h0, hr⟩ := he _ (envL_some hp)
   exact ⟨(s.env k p0 h0).1,hr.rep hφ (s.env k p0 h0).2⟩
 · by_cases him : i < m
   · exact hφ i x (by omega) (by rw [hρ i him]; exact s.loc0 i x hx)
   · rw [hdom i (by omega)] at hx; cases hx
 · obtain ⟨hi, b0, h0, hr⟩ := hh _ (heapL_some hb)
   obtain ⟨loc,h1,h2,h3⟩ := s.live _ b0 h0
   refine ⟨loc,hφ i loc hi h1,?_,h3⟩
   cases hr with
   | same hp => exact h2.names hp
   | gen _ hz he hl hcl hrp =>
     have h2 := h2.cellsB (by rw [he]; exact hz)
     refine .inl ⟨by rw [← he]; exact h2.esz,h2.pos,by rw [← hl]; exact h2.len,h2.cap,h2.max,fun c hc => ?_,fun hc => ?_⟩
     · obtain ⟨k, hk, rfl⟩ := List.getElem_of_mem hc
       have e1 : b.elems[k] = b.elems.getD k [] := by simp [List.getD_eq_getElem?_getD,hk]
       rw [e1,← hcl k hk]
       exact h2.el _ (by have hk' : k < b0.elems.length := by rw [hl]; exact hk
                         simp [List.getD_eq_getElem?_getD,hk'])
     · obtain ⟨x, hx, hs, cells, t, hg, hsz, hrep⟩ := h2.room hc
       refine ⟨x,hx,hs,cells,t,hg,hsz,fun i j hi hj => ⟨(hrep i j hi hj).1,?_⟩⟩
       exact (hrp i j (by rw [← hl,h2.len]; exact hi) (by rw [← he,h2.esz]; exact hj)).rep hφ (hrep i j hi hj).2
 · intro i j bi bj li lj k hi hj hli hlj hki hkj
   obtain ⟨hin,b0,h0,_⟩ := hh _ (heapL_some hi)
   obtain ⟨hjn,c0,g0,_⟩ := hh _ (heapL_some hj)
   have hli' : φ (ρ i) = some li := by simpa only [φ',show i < n' from hin,if_true] using hli
   have hlj' : φ (ρ j) = some lj := by simpa only [φ',show j < n' from hjn,if_true] using hlj
   exact hinj _ (heapL_some hi) _ (heapL_some hj) (s.sep _ _ b0 c0 li lj k h0 g0 hli' hlj' hki hkj)

theorem sub_ren (ρ : Nat→Nat) {n n' : Nat} {L : List (Nat × PV)} {HL : List (Nat × Bx)} (he : ∀ q∈L,∃ p0,e q.1 = some p0∧RenP ρ (fun i => i < n') p0 q.2) (hh : ∀ q∈HL,q.1 < n'∧∃ b0,h (ρ q.1) = some b0∧RenB ρ (fun i => i < n') b0 q.2)
 (hinj : ∀ q∈HL,∀ q'∈HL,ρ q.1 = ρ q'.1→q.1 = q'.1) {m : Nat} (hdom : C.dom m) (hm : m≤n') (hρ : ∀ i,i < m→ρ i = i) : Sub C n e h n' (envL L) (heapL HL) := by
 rintro a w ⟨F,φ,s⟩
 obtain ⟨φ',s'⟩ := s.ren ρ he hh hinj hdom hm hρ
 exact ⟨F,φ',s'⟩

theorem sub_list {n n' : Nat} {L : List (Nat × PV)} {HL : List (Nat × Bx)} (he : ∀ q∈L,∃ p0,e q.1 = some p0∧RenP (fun i=>i) (fun i => i < n') p0 q.2) (hh : ∀ q∈HL,q.1 < n'∧∃ b0,h q.1 = some b0∧RenB (fun i=>i) (fun i => i < n') b0 q.2) {m : Nat} (hdom : C.dom m) (hm : m≤n') : Sub C n e h n' (envL L) (heapL HL) :=
 sub_ren (fun i=>i) he hh (fun _ _ _ _ h => h) hdom hm fun _ _ => rfl

theorem sub_trans {n n' n'' : Nat} {e' e'' : Env} {h' h'' : Heap} (h1 : Sub C n e h n' e' h') (h2 : Sub C n' e' h' n'' e'' h'') : Sub C n e h n'' e'' h'' := fun a w hs => h2 a w (h1 a w hs)
theorem sub_refl {n : Nat} : Sub C n e h n e h := fun _ _ hs => hs

theorem sub_ownNil {n k : Nat} (hk : e k = some (.vec [] true)) (esz : Nat) (hp : 0 < esz) : Sub C n e h (n + 1) (e.upd k (.own n)) (h.upd n ⟨esz,[]⟩) := by
 rintro a w ⟨F,φ,s⟩
 obtain ⟨hlt,hr⟩ := s.env k _ hk
 have hbase : ∃ base,a.tmps.getD k undef = .slice base 0 0 := by
  rcases hr.vec_inv with ⟨_,h⟩ | ⟨x,cap,esz',cs,h,_,_,hf,_⟩
  · exact ⟨none,h⟩
  · exact ⟨some x,by rw [h,hf rfl]; rfl⟩
 obtain ⟨base,hb⟩ := hbase
 have s' := s.allocNil (Nat.le_refl n) base esz hp
 have hfr : ∀ i,n + 1≤i→n≤i∧i≠n := fun i hi => ⟨by omega,by omega⟩
 refine ⟨F,_,{ s'.weaken hfr with env := fun j p hj => ?_ }⟩
 by_cases hjk : j = k
 · subst hjk
   rw [Env.upd_same] at hj
   cases hj
   refine ⟨hlt,?_⟩
   rw [hb]
   exact .own n ⟨base,esz,0,0⟩ (by simp [locUpd]) hp
 · rw [Env.upd_ne _ _ hjk] at hj
   exact s'.env j p hj

theorem sub_freeze {n k id : Nat} {b : Bx} (hk : e k = some (.own id)) (hb : h id = some b) (hp : pureLL b.elems) : Sub C n e h n (e.upd k (.vec b.elems false)) (h.del id) := by
 rintro a w ⟨F,φ,s⟩
 obtain ⟨hlt,hr⟩ := s.env k _ hk
 obtain ⟨loc,hl,hz,hv⟩ := hr.own_inv
 obtain ⟨loc',h1,h2,h3⟩ := s.live id b hb
 obtain rfl : loc' = loc := by rw [h1] at hl; simpa using hl
 have h2 := h2.cells hz
 have s1 : St' C (fun i => n≤i) e (h.del id) F φ a w := s.sub (fun _ _ h => h) (fun _ _ hh => (Heap.del_some hh).2)
 have hput : ∀ {F' : Froz},St' C (fun i => n≤i) e (h.del id) F' φ a w→Rep F' φ (a.tmps.getD k undef) (.vec b.elems false)→St C (fun i => n≤i) (e.upd k (.vec b.elems false)) (h.del id) a w := fun {F'} s2 hrep => by
  refine ⟨F',φ,{ s2 with env := fun j p hj => ?_ }⟩
  by_cases hjk : j = k
  · subst hjk; rw [Env.upd_same] at hj; cases hj; exact ⟨hlt,hrep⟩
  · rw [Env.upd_ne _ _ hjk] at hj; exact s2.env j p hj
 by_cases hc0 : loc'.cap = 0
 · have hl0 : loc'.len = 0 := by have := h2.cap; omega
   have he0 : b.elems = [] := List.eq_nil_of_length_eq_zero (by rw [h2.len,hl0])
   refine hput s1 ?_
   rw [hv,he0,hl0,hc0]
   cases hbs : loc'.base with
   | none => exact .vecnil false
   | some x => exact .vec (F := F) (φ := φ) x 0 0 [] false (fun _ _ => undef) (fun h => absurd rfl h) (Nat.le_refl _) (by simp) (by simp) (by simp) (by simp) (by simp)
 · obtain ⟨ad, hbase, hs, cells, ct, hg, hroom, hrep⟩ := h2.room hc0
   have hhas : loc'.has ad.block := ⟨hc0,ad,hbase,rfl⟩
   have s2 := s1.frz hg (h3 _ hhas).2 (s.del_no hb h1 hhas) (h3 _ hhas).1
   have hx := frozNew_ext (h3 _ hhas).2 cells
   refine hput s2 ?_
   rw [hv,hbase,← h2.len]
   have hlt2 : ∀ i j,i < b.elems.length→j < loc'.esz→ad.off + (i * loc'.esz + j) < cells.size := fun i j hi hj => by
    have := idx_lt (n := loc'.cap) (i := i) (j := j) (esz := loc'.esz) (by have := h2.cap; have := h2.len;omega) hj
    omega
   refine .vec ad loc'.cap loc'.esz b.elems false (fun i j => cells.getD (ad.off + (i * loc'.esz + j)) undef) (fun _ => hs) (by rw [h2.len]; exact h2.cap) (by simp) (by rw [h2.len]; exact h2.max) (fun i hi => h2.el _ (by simp [List.getD_eq_getElem?_getD,hi])) (fun i j hi hj => ?_) (fun i j hi hj => ?_)
   · exact frozNew_at F _ _ (hlt2 i j hi hj) (hrep i j (by rw [← h2.len]; exact hi) hj).1
   · exact (hrep i j (by rw [← h2.len]; exact hi) hj).2.mono hx fun _ _ h => h

theorem sub_freezeBox {n k id : Nat} {esz : Nat} {l : List PV} (hk : e k = some (.ptr id 0 0)) (hb : h id = some ⟨esz,[l]⟩) : Sub C n e h n (e.upd k (.cp l)) (h.del id) := by
 rintro a w ⟨F,φ,s⟩
 obtain ⟨hlt,hr⟩ := s.env k _ hk
 obtain ⟨loc,x,hl,hz,hbase,hsx,hv⟩ := hr.ptr_inv
 obtain ⟨loc',h1,h2,h3⟩ := s.live id _ hb
 obtain rfl : loc' = loc := by rw [h1] at hl; simpa using hl
 have h2 := h2.cells hz
 have hlen : loc'.len = 1 := by rw [← h2.len]; rfl
 have hc0 : loc'.cap≠0 := by have := h2.cap; omega
 have s1 : St' C (fun i => n≤i) e (h.del id) F φ a w := s.sub (fun _ _ h => h) (fun _ _ hh => (Heap.del_some hh).2)
 obtain ⟨ad,hbase',hs,cells,ct,hg,hroom,hrep⟩ := h2.room hc0
 obtain rfl : ad = x := by rw [hbase'] at hbase; simpa using hbase
 have hhas : loc'.has ad.block := ⟨hc0,ad,hbase',rfl⟩
 have s2 := s1.frz hg (h3 _ hhas).2 (s.del_no hb h1 hhas) (h3 _ hhas).1
 have hx := frozNew_ext (h3 _ hhas).2 cells
 have hll : l.length = loc'.esz := h2.el l (by simp)
 refine ⟨_,φ,{ s2 with env := fun j p hj => ?_ }⟩
 by_cases hjk : j = k
 · subst hjk
   rw [Env.upd_same] at hj
   cases hj
   refine ⟨hlt,?_⟩
   rw [hv]
   simp only [Nat.zero_mul,Nat.zero_add,Nat.add_zero]
   rw [← eta_none ad hs]
   have hlt2 : ∀ j,j < l.length→ad.off + j < cells.size := fun j hj => by
    have := idx_lt (n := loc'.cap) (i := 0) (j := j) (esz := loc'.esz) (by omega) (by omega)
    omega
   refine .cp ad l (fun j => cells.getD (ad.off + j) undef) hs (fun j hj => ?_) (fun j hj => ?_)
   · have := hrep 0 j (by omega) (by omega)
     simp only [Nat.zero_mul,Nat.zero_add] at this
     exact frozNew_at F _ _ (hlt2 j hj) this.1
   · have := hrep 0 j (by omega) (by omega)
     simp only [Nat.zero_mul,Nat.zero_add] at this
     exact this.2.mono hx fun _ _ h => h
 · rw [Env.upd_ne _ _ hjk] at hj
   exact s2.env j p hj

theorem aw_len {ac : ACode} {Q : Exit→Nat→Env→Heap→Prop} {n k : Nat} {l : List (List PV)} {full : Bool} (hk : e k = some (.vec l full)) (hw : l.length≤maxVec→aw P C ac Q n e h) : aw P C ac Q n e h := by
 intro hm FN m hok c hc a w hs
 refine hw ?_ hm FN m hok c hc a w hs
 obtain ⟨F,φ,s⟩ := hs
 rcases (s.env k _ hk).2.vec_inv with ⟨rfl,_⟩ | ⟨x,cap,esz,cs,_,_,_,_,hmax,_⟩
 · exact Nat.zero_le _
 · exact hmax
theorem opK_det {op : AOp} {n : Nat} {p : PV} {h' : Heap} {K : PV→Heap→Prop} (hn : isCall op = false) (hd : dEval op e h n = some (p,h') ∨ fEval op e h n = some (p,h')) (hk : K p h') : opK P op n e h K := by
 have : ∃ p h',(dEval op e h n = some (p,h') ∨ fEval op e h n = some (p,h'))∧K p h' := ⟨p,h',hd,hk⟩
 cases op <;> first | exact this | (simp [isCall] at hn; done) | skip
 rcases hd with hd | hd
 · exact .inl ⟨p,h',hd,hk⟩
 · simp [fEval] at hd
theorem opK_isnil {neg : Bool} {x : Operand} {n : Nat} {K : PV→Heap→Prop} (hx : (∃ l fl,ev e x = some (.vec l fl)) ∨ ∃ k,ev e x = some (.own k)) (hk : ∀ b,K (.val (.bool b)) h) : opK P (.isnil neg x) n e h K := .inr ⟨hx,hk⟩

theorem dK_nil {z : Rsv} {n : Nat} {K : Env→Heap→Prop} (hk : K e h) : dK P z n [] e h K := hk
theorem dK_det {z : Rsv} {n i mask : Nat} {d : Option Nat} {op : AOp} {iso : Nat} {alt : Bool} {xs : List DItem} {K : Env→Heap→Prop} {p : PV} {h' : Heap} (hd : evalB alt op e h (n + i) = some (p,h')) (ha : accOk z op e n i mask iso = true) (hn : isCall op = false) (hk : dK P z n xs (updO e d p) h' K) : dK P z n (⟨i,⟨d,op,none⟩,mask,iso,alt⟩ :: xs) e h K := by
 obtain ⟨f,rfl,h1,h2,h3⟩ := evalB_eff hd ha
 refine ⟨_,.det rfl hn p f ⟨h1,h2,h3⟩,?_⟩
 rintro p' f' ⟨rfl,rfl⟩
 exact hk
theorem dK_call {z : Rsv} {n i mask : Nat} {d : Option Nat} {f : Operand} {args : List Operand} {iso : Nat} {alt : Bool} {xs : List DItem} {K : Env→Heap→Prop} {g : FuncId} {caps as0 args' : List PV} {R : PV→Prop} (hf : ev e f = some (.fn g caps)) (ha : evs e args = some as0) (hlo : LoL (as0 ++ caps) args')
 (hs : Spec P g args' R) (hp : pureL args') (hk : ∀ r,R r→dK P z n xs (updO e d r) h K) : dK P z n (⟨i,⟨d,.call f args,none⟩,mask,iso,alt⟩ :: xs) e h K := by
 refine ⟨_,.call rfl f args rfl R ⟨g,caps,as0,hf,ha,.of hlo hp hs⟩,?_⟩
 rintro p' f' ⟨hr,rfl⟩
 exact hk p' hr
theorem dK_callN {z : Rsv} {n i mask : Nat} {d : Option Nat} {f : Operand} {args : List Operand} {iso : Nat} {alt : Bool} {xs : List DItem} {K : Env→Heap→Prop} {g : FuncId} {caps as0 args' : List PV} {mk : Nat→PV} {b : Bx} (hs : NSpec P g args' mk b) (hmk : Mk mk) (hpb : pureLL b.elems) (hf : ev e f = some (.fn g caps)) (ha : evs e args = some as0) (ha' : as0 ++ caps = args') (hp : pureL args')
 (hk : dK P z n xs (updO e d (mk (n + i))) (h.upd (n + i) b) K) : dK P z n (⟨i,⟨d,.call f args,none⟩,mask,iso,alt⟩ :: xs) e h K := by
 subst ha'
 refine ⟨_,.callN rfl f args rfl mk b ⟨g,caps,as0,hf,ha,hmk,hpb,hp,hs⟩,?_⟩
 rintro p' f' ⟨rfl,rfl⟩
 exact hk
theorem dK_callD {z : Rsv} {n i mask : Nat} {d : Nat} {f : Operand} {args : List Operand} {iso : Nat} {alt : Bool} {xs : List DItem} {K : Env→Heap→Prop} {g : FuncId} {caps as0 rest : List PV} {b b' : Bx} {k : Nat} (hs : MSpec P g b rest .own (· = b')) (hz : z.call = some k) (hb : h k = some b) (hpb : pureLL b.elems) (hpb' : pureLL b'.elems) (hf : ev e f = some (.fn g caps)) (ha : evs e args = some as0) (ha' : as0 ++ caps = .own k :: rest) (hp : pureL rest)
 (hk : dK P z n xs (e.upd d (.vec b'.elems false)) (h.del k) K) : dK P z n (⟨i,⟨some d,.call f args,none⟩,mask,iso,alt⟩ :: xs) e h K := by
 refine ⟨_,.callD rfl f args rfl d rfl k hz b b' hb ⟨g,caps,as0,rest,hf,ha,ha',hpb,hpb',hp,hs⟩,?_⟩
 rintro p' f' ⟨rfl,rfl⟩
 exact hk
theorem dK_appF {z : Rsv} {n i mask : Nat} {d : Nat} {zz : List Value} {bytes : Nat} {sx y : Operand} {iso : Nat} {xs : List DItem} {K : Env→Heap→Prop} {k : Nat} {b : Bx} {m : List (List PV)} {fl : Bool} (hs : ev e sx = some (.own k)) (hy : ev e y = some (.vec m fl)) (hb : h k = some b) (hm : ∀ c∈m,c.length = zz.length) (he : b.esz = zz.length) (hby : (b.elems.length + m.length) * bytes≤140737488355328) (hp : pureLL (b.elems ++ m)) (h1 : okId z n i mask k = true) (h2 : okW z n i iso k = true)
 (hk : dK P z n xs (e.upd d (.vec (b.elems ++ m) false)) (h.del k) K) : dK P z n (⟨i,⟨some d,.append zz bytes sx y,none⟩,mask,iso,true⟩ :: xs) e h K := by
 refine ⟨_,.detF rfl rfl d rfl zz bytes sx y rfl k b m fl hs hy hb ⟨hm,he,hby⟩ hp ⟨h1,h2⟩,?_⟩
 rintro p' f' ⟨rfl,rfl⟩
 exact hk
theorem dK_guard {z : Rsv} {n : Nat} {x : DItem} {xs : List DItem} {K : Env→Heap→Prop} {s : Nat} {b c : Bool} (hg : x.o.guard = some (s,b)) (hs : e s = some (.val (.bool c))) (ht : c = b→dK P z n (⟨x.i,⟨x.o.dst,x.o.op,none⟩,x.mask,x.iso,x.alt⟩ :: xs) e h K) (hf : c≠b→dK P z n xs (updO e x.o.dst pvu) h K) : dK P z n (x :: xs) e h K := by
 have hw : wantB x.o.guard e = some (c == b) := by simp only [wantB,hg,hs]
 by_cases hcb : c = b
 · obtain ⟨T, hT, hK⟩ := ht hcb
   have hw' : wantB x.o.guard e = some true := by rw [hw,hcb]; simp
   refine ⟨T,?_,hK⟩
   cases hT with
   | skip h => cases h
   | call _ f args ho R hc => exact .call hw' f args ho R hc
   | callP _ f args ho id hz b hb R hc => exact .callP hw' f args ho id hz b hb R hc
   | callN _ f args ho mk b hc => exact .callN hw' f args ho mk b hc
   | callD _ f args ho d hdst k hz b b' hb hc => exact .callD hw' f args ho d hdst k hz b b' hb hc
   | detF _ ha d hd0 zz bytes sx y ho k b mm fl hsx hyx hbk hcond hpp hacc => exact .detF hw' ha d hd0 zz bytes sx y ho k b mm fl hsx hyx hbk hcond hpp hacc
   | det _ hn p f hd => exact .det hw' hn p f ⟨hd.eff,hd.touch,hd.run⟩
 · refine ⟨_, .skip (by rw [hw]; simp [hcb]), ?_⟩
   rintro p' f' ⟨rfl,rfl⟩
   exact hf hcb
end
end Go.Proofs.YtcoehdmpjflmlaaGreatDoor

namespace Go.Proofs.YtcoehdmpjflmlaaGreatDoor
set_option maxRecDepth 100000
theorem mixed : Tryz.prog.follows .mixedOrders = true := by kernel_rfl

abbrev tT (n : Nat) : Operand := .tmp n
abbrev oO (d : Nat) (p : AOp) : AOper := ⟨some d, p, none⟩
abbrev oT (g d : Nat) (p : AOp) : AOper := ⟨some d, p, some (g, true)⟩
abbrev oF (g d : Nat) (p : AOp) : AOper := ⟨some d, p, some (g, false)⟩
abbrev oM (d a : Nat) : AOper := ⟨some d, .mov (.tmp a), none⟩
abbrev nS : Value := .slice none 0 0
abbrev kI (n : Int) : Operand := .const (.int .i64 n)
abbrev kT : Operand := .const (.bool true)
abbrev kF : Operand := .const (.bool false)
abbrev kC (f : FuncId) (l : List Operand) : AOp := .call (.func f) l
abbrev sQ (x y : ACode) : ACode := .seq x y
def ir4 : ACode := (sQ (.region [oO 2 (.box (tT 0)),oO 4 (.mov kF)]) (sQ (sQ (.region [oO 13 (kC 5 []),oO 14 (.una .not (tT 13))]) (.cond (tT 14) (sQ (.region [oO 4 (.mov kF)]) .ret) .skip)) (sQ (.region [oO 16 (.load true 4 (tT 2)),
 oO 17 (kC 6 [(tT 16)]),oM 15 17,oO 18 (.extract (tT 15) 0),oO 19 (.extract (tT 15) 1),oO 20 (.extract (tT 15) 2),oO 5 (.alloc [(.pointer none),(.pointer none),(.int .i64 0),(.int .i64 0)]),oO 6 (.alloc [nS,
 nS,(.int .i64 0),(.int .i64 0)]),⟨none,.store 4 (tT 5) (tT 18),none⟩,⟨none,.store 4 (tT 6) (tT 19),none⟩,oM 7 20]) (sQ (sQ (.region [oM 21 7,oO 22 (.una .not (tT 21))]) (.cond (tT 22) (sQ (.region [oO 4 (.mov kF)]) .ret) .skip)) (sQ (.region [oM 23 1,
 oO 24 (kC 17 [(tT 23)]),oO 25 (kC 16 [(tT 24)]),oM 8 25]) (sQ (.region [oO 26 (.load true 4 (tT 5)),oO 9 (.alloc [(.pointer none),(.pointer none),(.int .i64 0),(.int .i64 0)]),⟨none,.store 4 (tT 9) (tT 26),
 none⟩]) (sQ (.region [oO 27 (.faddr 1 (tT 5)),oO 28 (.load false 1 (tT 27)),oO 29 (.faddr 3 (tT 5)),oO 30 (.load false 1 (tT 29)),oO 31 (kC 18 [(tT 28),(tT 30)]),oO 32 (.faddr 1 (tT 9)),⟨none,.store 1 (tT 32) (tT 31),
 none⟩]) (sQ (.block 0 (.loop (.block 1 (sQ (.region [oO 33 (.faddr 0 (tT 9)),oO 34 (.load false 1 (tT 33)),oO 35 (kC 19 [(tT 34)]),oM 10 35]) (sQ (sQ (.region [oM 36 10,oO 37 (.len (tT 36)),oO 38 (.bin .eql .num (tT 37) (kI 0))]) (.cond (tT 38) (.exit 0) .skip)) (sQ (.draw [⟨0,
 oO 40 (.faddr 0 (tT 9)),0,0,false⟩,⟨1,oO 41 (.load false 1 (tT 40)),1,0,false⟩,⟨2,oM 42 10,0,0,false⟩,⟨3,oO 43 (.iaddr 2 (tT 42) (kI 0)),4,0,false⟩,⟨4,oO 44 (.iaddrA 2 1 (tT 43) (kI 0)),12,0,false⟩,⟨5,
 oO 45 (.load false 1 (tT 44)),28,0,false⟩,⟨6,oM 46 10,0,0,false⟩,⟨7,oO 47 (.iaddr 2 (tT 46) (kI 0)),64,0,false⟩,⟨8,oO 48 (.iaddrA 2 1 (tT 47) (kI 1)),192,0,false⟩,⟨9,oO 49 (.load false 1 (tT 48)),448,0,
 false⟩,⟨10,oO 50 (kC 20 [(tT 41),(tT 45),(tT 49)]),1023,1,false⟩,⟨11,oM 39 50,2047,1,false⟩,⟨12,oO 51 (.extract (tT 39) 0),4095,1,false⟩,⟨13,oO 52 (.extract (tT 39) 1),4095,1,false⟩,⟨14,oM 11 51,8191,1,
 false⟩,⟨15,oM 12 52,32767,1,false⟩]) (sQ (sQ (.draw [⟨0,oM 53 12,0,1,false⟩,⟨1,oO 54 (.bin .neq .num (tT 53) (kI 0)),1,1,false⟩,⟨2,oM 55 54,3,1,false⟩,⟨3,oF 55 56 (.mov (tT 11)),7,0,false⟩,⟨4,oF 55 57 (kC 14 [(tT 56)]),
 15,0,false⟩,⟨5,oF 55 58 (.len (tT 57)),31,0,false⟩,⟨6,oF 55 59 (.faddr 0 (tT 9)),7,0,false⟩,⟨7,oF 55 60 (.load false 1 (tT 59)),71,0,false⟩,⟨8,oF 55 61 (kC 14 [(tT 60)]),223,0,false⟩,⟨9,oF 55 62 (.len (tT 61)),
 479,0,false⟩,⟨10,oF 55 63 (.bin .geq .num (tT 58) (tT 62)),1023,1,false⟩,⟨11,oO 64 (.pick (tT 55) kT (tT 63)),2047,1,false⟩]) (.cond (tT 64) (sQ (.region [oO 4 (.mov kF)]) .ret) .skip)) (.region [oM 65 11,
 oO 66 (.faddr 0 (tT 9)),⟨none,.store 1 (tT 66) (tT 65),none⟩])))))))) (sQ (.draw [⟨0,oO 67 (.load true 4 (tT 5)),0,0,false⟩,⟨1,oO 68 (kC 22 [(tT 67)]),1,0,false⟩,⟨2,oO 69 (.load true 4 (tT 9)),0,0,false⟩,
 ⟨3,oO 70 (kC 22 [(tT 69)]),7,1,false⟩,⟨4,oO 71 (kC 21 [(tT 68),(tT 70)]),15,1,false⟩,⟨5,oM 72 71,31,1,false⟩,⟨6,oT 72 73 (.mov (tT 8)),63,0,false⟩,⟨7,oT 72 74 (.load true 4 (tT 5)),63,0,false⟩,⟨8,oT 72 75 (kC 24 [(tT 73),
 (tT 74)]),255,0,false⟩,⟨9,oT 72 76 (.mov (tT 8)),63,0,false⟩,⟨10,oT 72 77 (.load true 4 (tT 9)),63,0,false⟩,⟨11,oT 72 78 (kC 24 [(tT 76),(tT 77)]),2047,1,false⟩,⟨12,oT 72 79 (kC 23 [(tT 75),(tT 78)]),4095,
 1,false⟩,⟨13,oO 80 (.pick (tT 72) (tT 79) kF),8191,1,false⟩,⟨14,oM 81 80,16383,1,false⟩,⟨15,oT 81 82 (.mov (tT 8)),32767,0,false⟩,⟨16,oT 81 83 (.load true 4 (tT 5)),32767,0,false⟩,⟨17,oT 81 84 (.load true 4 (tT 9)),
 32767,0,false⟩,⟨18,oT 81 85 (kC 25 [(tT 82),(tT 83),(tT 84)]),262143,1,false⟩,⟨19,oT 81 86 (.len (tT 85)),524287,1,false⟩,⟨20,oT 81 87 (.bin .eql .num (tT 86) (kI 0)),1048575,1,false⟩,⟨21,oO 88 (.pick (tT 81) (tT 87) kF),
 2097151,1,false⟩,⟨22,oM 4 88,4194303,1,false⟩]) .ret)))))))))
theorem ok4 : FnOk Tryz.prog 4 89 ir4 [.tmp 4] := fnOk_of mixed Tryz.func4 (by kernel_rfl) Tryz.ntmps4 (by kernel_rfl) (by kernel_rfl)

def ir5 : ACode := (sQ (.region [oO 0 (.mov kF)]) (sQ (.region [oO 2 (kC 26 []),oM 1 2]) (sQ (.draw [⟨0,oM 3 1,0,1,false⟩,⟨1,oO 4 (.iaddr 4 (tT 3) (kI 0)),1,1,false⟩,⟨2,oO 5 (.load true 4 (tT 4)),3,1,false⟩,
 ⟨3,oO 6 (.bslice [(.int .i64 0)] 2 [(0,(kI 1)),(1,(kI 2))]),0,0,false⟩,⟨4,oO 7 (kC 28 [(tT 6)]),8,0,false⟩,⟨5,oO 8 (kC 27 [(tT 5),(tT 7),(.const nS)]),31,1,false⟩,⟨6,oO 9 (.una .not (tT 8)),63,1,false⟩,
 ⟨7,oM 10 9,127,1,false⟩,⟨8,oT 10 11 (.mov (tT 1)),255,1,false⟩,⟨9,oT 10 12 (.iaddr 4 (tT 11) (kI 0)),511,1,false⟩,⟨10,oT 10 13 (.load true 4 (tT 12)),1023,1,false⟩,⟨11,oT 10 14 (.bslice [(.int .i64 0)] 2 [(0,
 (kI 1)),(1,(kI 3))]),255,0,false⟩,⟨12,oT 10 15 (kC 28 [(tT 14)]),2303,0,false⟩,⟨13,oT 10 16 (kC 27 [(tT 13),(tT 15),(.const nS)]),8191,1,false⟩,⟨14,oO 17 (.pick (tT 10) (tT 16) kF),16383,1,false⟩,⟨15,oM 18 17,
 32767,1,false⟩,⟨16,oT 18 19 (.mov (tT 1)),65535,1,false⟩,⟨17,oT 18 20 (.iaddr 4 (tT 19) (kI 1)),131071,1,false⟩,⟨18,oT 18 21 (.load true 4 (tT 20)),262143,1,false⟩,⟨19,oT 18 22 (.bslice [(.int .i64 0)] 1 [(0,
 (kI 1))]),65535,0,false⟩,⟨20,oT 18 23 (kC 28 [(tT 22)]),589823,0,false⟩,⟨21,oT 18 24 (kC 27 [(tT 21),(tT 23),(.const nS)]),2097151,1,false⟩,⟨22,oT 18 25 (.una .not (tT 24)),4194303,1,false⟩,⟨23,oO 26 (.pick (tT 18) (tT 25) kF),
 8388607,1,false⟩,⟨24,oM 27 26,16777215,1,false⟩,⟨25,oT 27 28 (.mov (tT 1)),33554431,1,false⟩,⟨26,oT 27 29 (.iaddr 4 (tT 28) (kI 1)),67108863,1,false⟩,⟨27,oT 27 30 (.load true 4 (tT 29)),134217727,1,false⟩,
 ⟨28,oT 27 31 (kC 28 [(.const nS)]),33554431,0,false⟩,⟨29,oT 27 32 (kC 27 [(tT 30),(tT 31),(.const nS)]),536870911,1,false⟩,⟨30,oO 33 (.pick (tT 27) (tT 32) kF),1073741823,1,false⟩,⟨31,oM 34 33,2147483647,
 1,false⟩,⟨32,oT 34 35 (.mov (tT 1)),4294967295,1,false⟩,⟨33,oT 34 36 (.iaddr 4 (tT 35) (kI 2)),8589934591,1,false⟩,⟨34,oT 34 37 (.load true 4 (tT 36)),17179869183,1,false⟩,⟨35,oT 34 38 (kC 28 [(.const nS)]),
 4294967295,0,false⟩,⟨36,oT 34 39 (.bslice [(.int .i64 0)] 3 [(0,(kI 0)),(1,(kI 1)),(2,(kI 1))]),4294967295,0,false⟩,⟨37,oT 34 40 (kC 27 [(tT 37),(tT 38),(tT 39)]),137438953471,1,false⟩,⟨38,oO 41 (.pick (tT 34) (tT 40) kF),
 274877906943,1,false⟩,⟨39,oM 0 41,549755813887,1,false⟩]) .ret)))
theorem ok5 : FnOk Tryz.prog 5 42 ir5 [.tmp 0] := fnOk_of mixed Tryz.func5 (by kernel_rfl) Tryz.ntmps5 (by kernel_rfl) (by kernel_rfl)

def ir6 : ACode := (sQ (.region [oO 1 (.box (tT 0)),oO 2 (.alloc [(.pointer none),(.pointer none),(.int .i64 0),(.int .i64 0)]),oO 3 (.alloc [nS,nS,(.int .i64 0),(.int .i64 0)]),oO 4 (.mov kF)]) (sQ (.region [oO 16 (.load true 4 (tT 1)),
 oO 17 (kC 29 [(tT 16)]),oO 5 (.alloc [nS,nS,(.int .i64 0),(.int .i64 0)]),⟨none,.store 4 (tT 5) (tT 17),none⟩]) (sQ (.region [oO 18 (kC 30 []),oM 6 18]) (sQ (sQ (.region [oO 19 (.faddr 0 (tT 5)),oO 20 (.load false 1 (tT 19)),
 oO 21 (.len (tT 20)),oO 22 (.mov (kI 0))]) (.block 0 (.loop (sQ (.region [oO 23 (.bin .lss .num (tT 22) (tT 21))]) (sQ (.cond (tT 23) .skip (.exit 0)) (sQ (.block 1 (sQ (.region [oO 24 (.iaddr 2 (tT 20) (tT 22)),
 oO 25 (.load true 2 (tT 24)),oO 8 (.alloc [(.int .i64 0),(.int .i64 0)]),⟨none,.store 2 (tT 8) (tT 25),none⟩]) (sQ (.region [oM 27 6,oO 28 (.iaddrA 2 1 (tT 8) (kI 0)),oO 29 (.load false 1 (tT 28)),oO 30 (.iaddrA 2 1 (tT 8) (kI 1)),
 oO 31 (.load false 1 (tT 30)),oO 32 (kC 31 [(tT 27),(tT 29),(tT 31)]),oM 26 32,oO 33 (.extract (tT 26) 0),oO 34 (.extract (tT 26) 1),oM 9 33,oM 10 34]) (sQ (sQ (.region [oM 35 10,oO 36 (.bin .neq .num (tT 35) (kI 0))]) (.cond (tT 36) (sQ (.draw [⟨0,
 oO 37 (.build [(.pointer none),(.pointer none),(.int .i64 0),(.int .i64 0)] []),0,0,false⟩,⟨1,oO 38 (.load true 4 (tT 5)),0,0,false⟩,⟨2,⟨none,.store 4 (tT 2) (tT 37),none⟩,1,2,false⟩,⟨3,⟨none,.store 4 (tT 3) (tT 38),
 none⟩,7,1,false⟩,⟨4,oO 4 (.mov kF),15,1,false⟩]) .ret) .skip)) (.region [oM 39 9,oM 6 39]))))) (.region [oO 40 (.bin .add .num (tT 22) (kI 1)),oM 22 40]))))))) (sQ (.region [oO 41 (kC 32 []),oM 11 41]) (sQ (sQ (.region [oO 42 (.faddr 1 (tT 5)),
 oO 43 (.load false 1 (tT 42)),oO 44 (.len (tT 43)),oO 45 (.mov (kI 0))]) (.block 2 (.loop (sQ (.region [oO 46 (.bin .lss .num (tT 45) (tT 44))]) (sQ (.cond (tT 46) .skip (.exit 2)) (sQ (.block 3 (sQ (.region [oO 47 (.iaddr 3 (tT 43) (tT 45)),
 oO 48 (.load true 3 (tT 47)),oO 13 (.alloc [(.int .i64 0),(.int .i64 0),(.int .i64 0)]),⟨none,.store 3 (tT 13) (tT 48),none⟩]) (sQ (.region [oM 50 11,oO 51 (.faddr 0 (tT 13)),oO 52 (.load false 1 (tT 51)),
 oO 53 (.faddr 1 (tT 13)),oO 54 (.load false 1 (tT 53)),oO 55 (.faddr 2 (tT 13)),oO 56 (.load false 1 (tT 55)),oO 57 (kC 8 [(tT 50),(tT 52),(tT 54),(tT 56)]),oM 49 57,oO 58 (.extract (tT 49) 0),oO 59 (.extract (tT 49) 1),
 oM 14 58,oM 15 59]) (sQ (sQ (.region [oM 60 15,oO 61 (.bin .neq .num (tT 60) (kI 0))]) (.cond (tT 61) (sQ (.draw [⟨0,oO 62 (.build [(.pointer none),(.pointer none),(.int .i64 0),(.int .i64 0)] []),0,0,
 false⟩,⟨1,oO 63 (.load true 4 (tT 5)),0,0,false⟩,⟨2,⟨none,.store 4 (tT 2) (tT 62),none⟩,1,2,false⟩,⟨3,⟨none,.store 4 (tT 3) (tT 63),none⟩,7,1,false⟩,⟨4,oO 4 (.mov kF),15,1,false⟩]) .ret) .skip)) (.region [oM 64 14,
 oM 11 64]))))) (.region [oO 65 (.bin .add .num (tT 45) (kI 1)),oM 45 65]))))))) (sQ (.draw [⟨0,oM 66 6,0,0,false⟩,⟨1,oM 67 11,0,0,false⟩,⟨2,oO 68 (.faddr 2 (tT 5)),0,0,false⟩,⟨3,oO 69 (.load false 1 (tT 68)),
 4,0,false⟩,⟨4,oO 70 (.faddr 3 (tT 5)),0,0,false⟩,⟨5,oO 71 (.load false 1 (tT 70)),16,0,false⟩,⟨6,oO 72 (.build [(.pointer none),(.pointer none),(.int .i64 0),(.int .i64 0)] [(0,1,(tT 66)),(1,1,(tT 67)),
 (2,1,(tT 69)),(3,1,(tT 71))]),63,0,false⟩,⟨7,oO 73 (.load true 4 (tT 5)),0,0,false⟩,⟨8,oM 74 6,0,0,false⟩,⟨9,oO 75 (.bin .neq .ptr (tT 74) (.const (.pointer none))),256,0,false⟩,⟨10,oM 76 75,768,0,false⟩,
 ⟨11,oT 76 77 (.mov (tT 11)),1792,0,false⟩,⟨12,oT 76 78 (.bin .neq .ptr (tT 77) (.const (.pointer none))),3840,0,false⟩,⟨13,oO 79 (.pick (tT 76) (tT 78) kF),7936,0,false⟩,⟨14,⟨none,.store 4 (tT 2) (tT 72),
 none⟩,1919,3838,false⟩,⟨15,⟨none,.store 4 (tT 3) (tT 73),none⟩,18431,1,false⟩,⟨16,oM 4 79,65535,1,false⟩]) .ret)))))))
theorem ok6 : FnOk Tryz.prog 6 80 ir6 [.cell 2 true 4, .cell 3 true 4, .tmp 4] := fnOk_of mixed Tryz.func6 (by kernel_rfl) Tryz.ntmps6 (by kernel_rfl) (by kernel_rfl)

def ir7 : ACode := (sQ (.region [oO 1 (.box (tT 0)),oO 2 (.alloc [(.int .i64 0),(.int .i64 0),(.int .i64 0)])]) (sQ (.region [oO 3 (.faddr 0 (tT 1)),oO 4 (.load false 1 (tT 3)),oO 5 (.bin .rem .num (tT 4) (.const (.int .u8 5))),
 oO 6 (.conv .i64 (tT 5)),oO 7 (.bin .add .num (kI 1) (tT 6)),oO 8 (.faddr 1 (tT 1)),oO 9 (.load false 1 (tT 8)),oO 10 (.bin .rem .num (tT 9) (.const (.int .u8 8))),oO 11 (.conv .i64 (tT 10)),oO 12 (.bin .add .num (kI 1) (tT 11)),
 oO 13 (.faddr 2 (tT 1)),oO 14 (.load false 1 (tT 13)),oO 15 (.bin .rem .num (tT 14) (.const (.int .u8 20))),oO 16 (.conv .i64 (tT 15)),oO 17 (.build [(.int .i64 0),(.int .i64 0),(.int .i64 0)] [(0,1,(tT 7)),
 (1,1,(tT 12)),(2,1,(tT 16))]),⟨none,.store 3 (tT 2) (tT 17),none⟩]) .ret))
theorem ok7 : FnOk Tryz.prog 7 18 ir7 [.cell 2 true 3] := fnOk_of mixed Tryz.func7 (by kernel_rfl) Tryz.ntmps7 (by kernel_rfl) (by kernel_rfl)

def ir8 : ACode := (sQ (.region [oO 8 (.mov (.const (.pointer none))),oO 9 (.mov (kI 0))]) (sQ (.block 0 (sQ (.region [oM 14 0,oO 15 (.bin .eql .ptr (tT 14) (.const (.pointer none))),oM 16 15,oF 16 17 (.mov (tT 1)),
 oF 16 18 (.bin .lss .num (tT 17) (kI 1)),oO 19 (.pick (tT 16) kT (tT 18)),oM 20 19,oF 20 21 (.mov (tT 1)),oF 20 22 (.bin .gtr .num (tT 21) (kI 256)),oO 23 (.pick (tT 20) kT (tT 22)),oM 24 23,oF 24 25 (.mov (tT 2)),
 oF 24 26 (.bin .lss .num (tT 25) (kI 1)),oO 27 (.pick (tT 24) kT (tT 26)),oM 28 27,oF 28 29 (.mov (tT 2)),oF 28 30 (.bin .gtr .num (tT 29) (kI 63)),oO 31 (.pick (tT 28) kT (tT 30)),oM 13 31]) (.cond (tT 13) (sQ (.region [oO 8 (.mov (.const (.pointer none))),
 oO 9 (.mov (kI 1))]) .ret) (sQ (.region [oM 33 3,oO 34 (.bin .lss .num (tT 33) (kI 0)),oM 35 34,oF 35 36 (.mov (tT 3)),oF 35 37 (.bin .gtr .num (tT 36) (kI 30000)),oO 38 (.pick (tT 35) kT (tT 37)),oM 32 38]) (.cond (tT 32) (sQ (.region [oO 8 (.mov (.const (.pointer none))),
 oO 9 (.mov (kI 2))]) .ret) .skip))))) (sQ (.region [oM 39 0,oO 40 (.nilck (tT 39)),oO 41 (.faddr 0 (tT 40)),oO 42 (.load false 1 (tT 41)),oO 43 (kC 33 [(tT 42)]),oM 10 43]) (sQ (.region [oM 45 0,oM 46 1,
 oM 47 2,oO 48 (kC 34 [(tT 45),(tT 46),(tT 47)]),oM 44 48,oO 49 (.extract (tT 44) 0),oO 50 (.extract (tT 44) 1),oM 11 49,oM 12 50]) (sQ (sQ (.region [oM 51 12]) (.cond (tT 51) (.region [oM 52 10,oM 53 11,
 oM 54 3,oO 55 (.iaddr 3 (tT 52) (tT 53)),oO 56 (.faddr 2 (tT 55)),⟨none,.store 1 (tT 56) (tT 54),none⟩]) (.region [oM 57 10,oM 58 11,oM 59 1,oM 60 2,oM 61 3,oO 62 (.build [(.int .i64 0),(.int .i64 0),(.int .i64 0)] [(0,
 1,(tT 59)),(1,1,(tT 60)),(2,1,(tT 61))]),oO 63 (.bslice [(.int .i64 0),(.int .i64 0),(.int .i64 0)] 1 [(0,(tT 62))]),oO 64 (kC 35 [(tT 57),(tT 58),(tT 63)]),oM 10 64]))) (sQ (.region [oM 65 10,oO 66 (.build [nS] [(0,
 1,(tT 65))]),oO 67 (.box (tT 66)),oM 8 67,oO 9 (.mov (kI 0))]) .ret))))))
theorem ok8 : FnOk Tryz.prog 8 68 ir8 [.tmp 8, .tmp 9] := fnOk_of mixed Tryz.func8 (by kernel_rfl) Tryz.ntmps8 (by kernel_rfl) (by kernel_rfl)

def ir9 : ACode := (sQ (.region [oO 2 (.box (tT 0)),oO 4 (.alloc [nS])]) (sQ (sQ (.region [oO 5 (.faddr 0 (tT 2)),oO 6 (.load false 1 (tT 5)),oO 7 (.bin .eql .ptr (tT 6) (.const (.pointer none))),oM 8 7,
 oF 8 9 (.faddr 1 (tT 2)),oF 8 10 (.load false 1 (tT 9)),oF 8 11 (.bin .eql .ptr (tT 10) (.const (.pointer none))),oO 12 (.pick (tT 8) kT (tT 11)),oM 13 12,oF 13 14 (.mov (tT 1)),oF 13 15 (.bin .lss .num (tT 14) (kI 1)),
 oO 16 (.pick (tT 13) kT (tT 15)),oM 17 16,oF 17 18 (.mov (tT 1)),oF 17 19 (.load true 4 (tT 2)),oF 17 20 (kC 36 [(tT 19)]),oF 17 21 (.bin .gtr .num (tT 18) (tT 20)),oO 22 (.pick (tT 17) kT (tT 21))]) (.cond (tT 22) (sQ (.region [oO 23 (.build [nS] []),
 ⟨none,.store 1 (tT 4) (tT 23),none⟩]) .ret) .skip)) (sQ (.draw [⟨0,oO 24 (.faddr 0 (tT 2)),0,0,false⟩,⟨1,oO 25 (.load false 1 (tT 24)),1,0,false⟩,⟨2,oO 26 (.faddr 1 (tT 2)),0,0,false⟩,⟨3,oO 27 (.load false 1 (tT 26)),
 4,0,false⟩,⟨4,oM 28 1,0,0,false⟩,⟨5,oO 29 (.faddr 3 (tT 2)),0,0,false⟩,⟨6,oO 30 (.load false 1 (tT 29)),32,0,false⟩,⟨7,oO 31 (kC 38 [(tT 27),(tT 28),(tT 30)]),124,0,false⟩,⟨8,oO 32 (kC 37 [(tT 25),(tT 31)]),
 255,1,false⟩,⟨9,⟨none,.store 1 (tT 4) (tT 32),none⟩,511,1,false⟩]) .ret)))
theorem ok9 : FnOk Tryz.prog 9 33 ir9 [.cell 4 true 1] := fnOk_of mixed Tryz.func9 (by kernel_rfl) Tryz.ntmps9 (by kernel_rfl) (by kernel_rfl)

def ir10 : ACode := (sQ (.region [oO 2 (.box (tT 0)),oO 3 (.box (tT 1)),oO 4 (.alloc [nS])]) (sQ (.region [oO 7 (.faddr 0 (tT 2)),oO 8 (.load false 1 (tT 7)),oO 9 (.len (tT 8)),oO 10 (.faddr 0 (tT 3)),
 oO 11 (.load false 1 (tT 10)),oO 12 (.len (tT 11)),oO 13 (.mx (tT 9) (tT 12)),oO 14 (.mslice [(.int .u64 0)] 8 (tT 13) (tT 13)),oM 5 14]) (sQ (sQ (.region [oM 15 5,oO 16 (.len (tT 15)),oO 17 (.mov (kI 0))]) (.block 0 (.loop (sQ (.region [oO 18 (.bin .lss .num (tT 17) (tT 16))]) (sQ (.cond (tT 18) .skip (.exit 0)) (sQ (.block 1 (sQ (.region [oM 19 17,
 oM 6 19]) (.draw [⟨0,oM 20 5,0,0,false⟩,⟨1,oM 21 6,0,0,false⟩,⟨2,oO 22 (.load true 1 (tT 2)),0,0,false⟩,⟨3,oM 23 6,0,0,false⟩,⟨4,oO 24 (kC 39 [(tT 22),(tT 23)]),12,0,false⟩,⟨5,oO 25 (.load true 1 (tT 3)),
 0,0,false⟩,⟨6,oM 26 6,0,0,false⟩,⟨7,oO 27 (kC 39 [(tT 25),(tT 26)]),124,1,false⟩,⟨8,oO 28 (.bin .or .num (tT 24) (tT 27)),252,1,false⟩,⟨9,oO 29 (.iaddr 1 (tT 20) (tT 21)),511,1,false⟩,⟨10,⟨none,.store 1 (tT 29) (tT 28),
 none⟩,1023,1,false⟩]))) (.region [oO 30 (.bin .add .num (tT 17) (kI 1)),oM 17 30]))))))) (sQ (.region [oM 31 5,oO 32 (.build [nS] [(0,1,(tT 31))]),⟨none,.store 1 (tT 4) (tT 32),none⟩]) .ret))))
theorem ok10 : FnOk Tryz.prog 10 33 ir10 [.cell 4 true 1] := fnOk_of mixed Tryz.func10 (by kernel_rfl) Tryz.ntmps10 (by kernel_rfl) (by kernel_rfl)

def ir11 : ACode := (sQ (.region [oO 4 (.alloc [nS])]) (sQ (sQ (.region [oM 5 0,oO 6 (.bin .eql .ptr (tT 5) (.const (.pointer none))),oM 7 6,oF 7 8 (.mov (tT 1)),oF 7 9 (kC 40 [(tT 8)]),oF 7 10 (.una .not (tT 9)),
 oO 11 (.pick (tT 7) kT (tT 10))]) (.cond (tT 11) (sQ (.region [oO 12 (.build [nS] []),⟨none,.store 1 (tT 4) (tT 12),none⟩]) .ret) .skip)) (sQ (.region [oM 13 0,oO 14 (.nilck (tT 13)),oO 15 (.faddr 0 (tT 14)),
 oO 16 (.load false 1 (tT 15)),oM 17 1,oO 18 (kC 41 [(tT 16),(tT 17)]),oM 19 1,oO 20 (kC 42 [(tT 18),(tT 19)]),⟨none,.store 1 (tT 4) (tT 20),none⟩]) .ret)))
theorem ok11 : FnOk Tryz.prog 11 21 ir11 [.cell 4 true 1] := fnOk_of mixed Tryz.func11 (by kernel_rfl) Tryz.ntmps11 (by kernel_rfl) (by kernel_rfl)

def ir14 : ACode := (sQ (.region [oO 2 (.mov (.const nS))]) (sQ (sQ (.region [oM 3 0,oO 4 (.bin .eql .ptr (tT 3) (.const (.pointer none)))]) (.cond (tT 4) (sQ (.region [oO 2 (.mov (.const nS))]) .ret) .skip)) (sQ (.region [oM 5 0,
 oO 6 (.nilck (tT 5)),oO 7 (.faddr 0 (tT 6)),oO 8 (.load false 1 (tT 7)),oO 9 (kC 44 [(tT 8)]),oM 2 9]) .ret)))
theorem ok14 : FnOk Tryz.prog 14 10 ir14 [.tmp 2] := fnOk_of mixed Tryz.func14 (by kernel_rfl) Tryz.ntmps14 (by kernel_rfl) (by kernel_rfl)

def ir15 : ACode := (sQ (.region [oO 6 (.mov kF)]) (sQ (.region [oM 7 2,oO 8 (kC 45 [(tT 7)]),oM 9 8,oT 9 10 (.mov (tT 0)),oT 9 11 (.mov (tT 1)),oT 9 12 (kC 46 [(tT 10),(tT 11)]),oT 9 13 (.mov (tT 2)),
 oT 9 14 (.bin .shr .num (tT 12) (tT 13)),oT 9 15 (.bin .rem .num (tT 14) (.const (.int .u64 2))),oT 9 16 (.bin .eql .num (tT 15) (.const (.int .u64 1))),oO 17 (.pick (tT 9) (tT 16) kF),oM 6 17]) .ret))
theorem ok15 : FnOk Tryz.prog 15 18 ir15 [.tmp 6] := fnOk_of mixed Tryz.func15 (by kernel_rfl) Tryz.ntmps15 (by kernel_rfl) (by kernel_rfl)

def ir16 : ACode := (sQ (.region [oO 2 (.mov (.const nS))]) (sQ (.region [oO 3 (.mov (.const nS))]) (sQ (sQ (.region [oM 6 0,oO 7 (.len (tT 6)),oO 8 (.mov (kI 0))]) (.block 0 (.loop (sQ (.region [oO 9 (.bin .lss .num (tT 8) (tT 7))]) (sQ (.cond (tT 9) .skip (.exit 0)) (sQ (.block 1 (sQ (.region [oO 10 (.iaddr 7 (tT 6) (tT 8)),
 oO 11 (.load true 7 (tT 10)),⟨(some 5),.alloc [(.bool false),(.int .i64 0),(.string ⟨#[]⟩),(.int .i64 0),(.int .i64 0),nS,nS],none⟩,⟨none,.store 7 (tT 5) (tT 11),none⟩]) (.draw [⟨0,oM 12 3,0,0,false⟩,⟨1,
 oO 13 (.faddr 0 (tT 5)),0,0,false⟩,⟨2,oO 14 (.load false 1 (tT 13)),2,0,false⟩,⟨3,oO 15 (.faddr 1 (tT 5)),0,0,false⟩,⟨4,oO 16 (.load false 1 (tT 15)),8,0,false⟩,⟨5,oO 17 (.conv .u8 (tT 16)),24,0,false⟩,
 ⟨6,oO 18 (.faddr 2 (tT 5)),0,0,false⟩,⟨7,oO 19 (.load false 1 (tT 18)),64,0,false⟩,⟨8,oO 20 (.faddr 3 (tT 5)),0,0,false⟩,⟨9,oO 21 (.load true 4 (tT 20)),256,0,false⟩,⟨10,oO 22 (kC 47 [(tT 21)]),768,0,false⟩,
 ⟨11,⟨(some 23),.build [(.bool false),(.int .u8 0),(.string ⟨#[]⟩),(.int .u8 0),(.int .i64 0),nS,nS] [(0,1,(tT 14)),(1,1,(tT 17)),(2,1,(tT 19)),(3,4,(tT 22))],none⟩,2046,1,false⟩,⟨12,⟨(some 24),.bslice [(.bool false),
 (.int .u8 0),(.string ⟨#[]⟩),(.int .u8 0),(.int .i64 0),nS,nS] 1 [(0,(tT 23))],none⟩,4094,1,false⟩,⟨13,⟨(some 25),.append [(.bool false),(.int .u8 0),(.string ⟨#[]⟩),(.int .u8 0),(.int .i64 0),nS,nS] 88 (tT 12) (tT 24),
 none⟩,8191,1,false⟩,⟨14,oM 3 25,16383,1,false⟩]))) (.region [oO 26 (.bin .add .num (tT 8) (kI 1)),oM 8 26]))))))) (sQ (.region [oM 27 3,oM 2 27]) .ret))))
theorem ok16 : FnOk Tryz.prog 16 28 ir16 [.tmp 2] := fnOk_of mixed Tryz.func16 (by kernel_rfl) Tryz.ntmps16 (by kernel_rfl) (by kernel_rfl)

def ir17 : ACode := (sQ (.region [oO 2 (.mov (.const nS))]) (sQ (.region [oO 3 (.mov (.const nS))]) (sQ (sQ (.region [oO 4 (.mov (kI 0))]) (.block 0 (.loop (sQ (sQ (.region [oM 6 4,oM 7 0,oO 8 (.len (tT 7)),
 oO 9 (.bin .lss .num (tT 6) (tT 8)),oM 10 9,oT 10 11 (.mov (tT 4)),oT 10 12 (.bin .lss .num (tT 11) (kI 5)),oO 13 (.pick (tT 10) (tT 12) kF)]) (.cond (tT 13) .skip (.exit 0))) (sQ (.block 1 (sQ (.region [oM 16 0,
 oM 17 4,oO 18 (.iaddr 3 (tT 16) (tT 17)),oO 19 (.faddr 1 (tT 18)),oO 20 (.load false 1 (tT 19)),oO 21 (.bin .rem .num (tT 20) (.const (.int .u8 3))),oO 22 (.conv .i64 (tT 21)),oO 23 (.bin .add .num (kI 1) (tT 22)),
 oM 5 23]) (.draw [⟨0,oM 24 3,0,0,false⟩,⟨1,oM 25 0,0,0,false⟩,⟨2,oM 26 4,0,0,false⟩,⟨3,oO 27 (.iaddr 3 (tT 25) (tT 26)),6,0,false⟩,⟨4,oO 28 (.faddr 0 (tT 27)),14,0,false⟩,⟨5,oO 29 (.load false 1 (tT 28)),
 30,0,false⟩,⟨6,oM 30 5,0,0,false⟩,⟨7,oM 31 4,0,0,false⟩,⟨8,oO 32 (.bin .add .num (tT 31) (kI 1)),128,0,false⟩,⟨9,oO 33 (kC 48 [(tT 32)]),384,0,false⟩,⟨10,oM 34 4,0,0,false⟩,⟨11,oO 35 (.iaddr 1 (tT 33) (tT 34)),
 1920,0,false⟩,⟨12,oO 36 (.load false 1 (tT 35)),3968,0,false⟩,⟨13,oM 37 0,0,0,false⟩,⟨14,oM 38 4,0,0,false⟩,⟨15,oO 39 (.iaddr 3 (tT 37) (tT 38)),24576,0,false⟩,⟨16,oO 40 (.faddr 2 (tT 39)),57344,0,false⟩,
 ⟨17,oO 41 (.load false 1 (tT 40)),122880,0,false⟩,⟨18,oM 42 5,0,0,false⟩,⟨19,oO 43 (kC 49 [(tT 41),(tT 42),(kI 6)]),516992,0,false⟩,⟨20,⟨(some 44),.build [(.bool false),(.int .i64 0),(.string ⟨#[]⟩),(.int .i64 0),
 (.int .i64 0),nS,nS] [(0,1,(tT 29)),(1,1,(tT 30)),(2,1,(tT 36)),(3,4,(tT 43))],none⟩,1048574,1,false⟩,⟨21,⟨(some 45),.bslice [(.bool false),(.int .i64 0),(.string ⟨#[]⟩),(.int .i64 0),(.int .i64 0),nS,
 nS] 1 [(0,(tT 44))],none⟩,2097150,1,false⟩,⟨22,⟨(some 46),.append [(.bool false),(.int .i64 0),(.string ⟨#[]⟩),(.int .i64 0),(.int .i64 0),nS,nS] 96 (tT 24) (tT 45),none⟩,4194303,1,false⟩,⟨23,oM 3 46,8388607,
 1,false⟩]))) (.region [oM 14 4,oO 15 (.bin .add .num (tT 14) (kI 1)),oM 4 15])))))) (sQ (.region [oM 47 3,oM 2 47]) .ret))))
theorem ok17 : FnOk Tryz.prog 17 48 ir17 [.tmp 2] := fnOk_of mixed Tryz.func17 (by kernel_rfl) Tryz.ntmps17 (by kernel_rfl) (by kernel_rfl)

def ir18 : ACode := (sQ (.region [oO 4 (.mov (.const (.pointer none)))]) (sQ (sQ (.region [oM 8 0,oO 9 (.bin .eql .ptr (tT 8) (.const (.pointer none)))]) (.cond (tT 9) (sQ (.region [oO 4 (.mov (.const (.pointer none)))]) .ret) .skip)) (sQ (.region [oO 10 (kC 32 []),
 oM 5 10]) (sQ (sQ (.region [oM 11 0,oO 12 (.nilck (tT 11)),oO 13 (.faddr 0 (tT 12)),oO 14 (.load false 1 (tT 13)),oO 15 (.len (tT 14)),oO 16 (.mov (kI 0))]) (.block 0 (.loop (sQ (.region [oO 17 (.bin .lss .num (tT 16) (tT 15))]) (sQ (.cond (tT 17) .skip (.exit 0)) (sQ (.block 1 (sQ (.region [oO 18 (.iaddr 3 (tT 14) (tT 16)),
 oO 19 (.load true 3 (tT 18)),oO 7 (.alloc [(.int .i64 0),(.int .i64 0),(.int .i64 0)]),⟨none,.store 3 (tT 7) (tT 19),none⟩]) (sQ (.region [oO 20 (.faddr 2 (tT 7)),oO 21 (.load false 1 (tT 20)),oM 22 1,
 oO 23 (.bin .geq .num (tT 21) (tT 22))]) (.cond (tT 23) (.draw [⟨0,oM 24 5,0,0,false⟩,⟨1,oM 25 5,0,0,false⟩,⟨2,oO 26 (.nilck (tT 25)),2,0,false⟩,⟨3,oO 27 (.faddr 0 (tT 26)),6,0,false⟩,⟨4,oO 28 (.load false 1 (tT 27)),
 14,0,false⟩,⟨5,oO 29 (.load true 3 (tT 7)),0,0,false⟩,⟨6,oO 30 (.bslice [(.int .i64 0),(.int .i64 0),(.int .i64 0)] 1 [(0,(tT 29))]),32,0,false⟩,⟨7,oO 31 (.append [(.int .i64 0),(.int .i64 0),(.int .i64 0)] 24 (tT 28) (tT 30)),
 126,1,false⟩,⟨8,oO 32 (.nilck (tT 24)),255,1,false⟩,⟨9,oO 33 (.faddr 0 (tT 32)),511,1,false⟩,⟨10,⟨none,.store 1 (tT 33) (tT 31),none⟩,1023,1,false⟩]) .skip)))) (.region [oO 34 (.bin .add .num (tT 16) (kI 1)),
 oM 16 34]))))))) (sQ (.region [oM 35 5,oM 4 35]) .ret)))))
theorem ok18 : FnOk Tryz.prog 18 36 ir18 [.tmp 4] := fnOk_of mixed Tryz.func18 (by kernel_rfl) Tryz.ntmps18 (by kernel_rfl) (by kernel_rfl)

def ir19 : ACode := (sQ (.region [oO 2 (.mov (.const nS))]) (sQ (.region [oO 3 (.mov (.const nS))]) (sQ (sQ (.region [oM 8 0,oO 9 (kC 14 [(tT 8)]),oO 10 (.len (tT 9)),oO 11 (.mov (kI 0))]) (.block 0 (.loop (sQ (.region [oO 12 (.bin .lss .num (tT 11) (tT 10))]) (sQ (.cond (tT 12) .skip (.exit 0)) (sQ (.block 1 (sQ (.region [oO 13 (.iaddr 2 (tT 9) (tT 11)),
 oO 14 (.load true 2 (tT 13)),oO 5 (.alloc [(.int .i64 0),(.int .i64 0)]),⟨none,.store 2 (tT 5) (tT 14),none⟩]) (sQ (.draw [⟨0,oM 16 0,0,0,false⟩,⟨1,oO 17 (.nilck (tT 16)),1,0,false⟩,⟨2,oO 18 (.faddr 0 (tT 17)),
 3,0,false⟩,⟨3,oO 19 (.load false 1 (tT 18)),7,0,false⟩,⟨4,oO 20 (.iaddrA 2 1 (tT 5) (kI 0)),0,0,false⟩,⟨5,oO 21 (.load false 1 (tT 20)),16,0,false⟩,⟨6,oO 22 (.iaddrA 2 1 (tT 5) (kI 1)),0,0,false⟩,⟨7,oO 23 (.load false 1 (tT 22)),
 64,0,false⟩,⟨8,oO 24 (kC 50 [(tT 19),(tT 21),(tT 23)]),255,1,false⟩,⟨9,oM 15 24,511,1,false⟩,⟨10,oO 25 (.extract (tT 15) 0),1023,1,false⟩,⟨11,oO 26 (.extract (tT 15) 1),1023,1,false⟩,⟨12,oM 6 25,2047,1,
 false⟩,⟨13,oM 7 26,8191,1,false⟩]) (sQ (.region [oM 27 7,oO 28 (.bin .eql .num (tT 27) (kI 0)),oM 29 28,oT 29 30 (.mov (tT 6)),oT 29 31 (.iaddrA 2 1 (tT 5) (kI 1)),oT 29 32 (.load false 1 (tT 31)),oT 29 33 (.iaddrA 2 1 (tT 5) (kI 0)),
 oT 29 34 (.load false 1 (tT 33)),oT 29 35 (kC 51 [(tT 30),(tT 32),(tT 34)]),oO 36 (.pick (tT 29) (tT 35) kF)]) (.cond (tT 36) (.region [oM 37 3,oO 38 (.load true 2 (tT 5)),oO 39 (.bslice [(.int .i64 0),
 (.int .i64 0)] 1 [(0,(tT 38))]),oO 40 (.append [(.int .i64 0),(.int .i64 0)] 16 (tT 37) (tT 39)),oM 3 40]) .skip))))) (.region [oO 41 (.bin .add .num (tT 11) (kI 1)),oM 11 41]))))))) (sQ (.region [oM 42 3,
 oM 2 42]) .ret))))
theorem ok19 : FnOk Tryz.prog 19 43 ir19 [.tmp 2] := fnOk_of mixed Tryz.func19 (by kernel_rfl) Tryz.ntmps19 (by kernel_rfl) (by kernel_rfl)

def ir20 : ACode := (sQ (.region [oO 6 (.mov (.const (.pointer none))),oO 7 (.mov (kI 0))]) (sQ (sQ (.region [oM 10 0,oO 11 (.bin .eql .ptr (tT 10) (.const (.pointer none))),oM 12 11,oF 12 13 (.mov (tT 1)),
 oF 12 14 (kC 40 [(tT 13)]),oF 12 15 (.una .not (tT 14)),oO 16 (.pick (tT 12) kT (tT 15)),oM 17 16,oF 17 18 (.mov (tT 2)),oF 17 19 (kC 40 [(tT 18)]),oF 17 20 (.una .not (tT 19)),oO 21 (.pick (tT 17) kT (tT 20)),
 oM 22 21,oF 22 23 (.mov (tT 1)),oF 22 24 (.mov (tT 2)),oF 22 25 (.bin .eql .num (tT 23) (tT 24)),oO 26 (.pick (tT 22) kT (tT 25))]) (.cond (tT 26) (sQ (.region [oO 6 (.mov (.const (.pointer none))),oO 7 (.mov (kI 1))]) .ret) .skip)) (sQ (.region [oM 28 0,
 oO 29 (.nilck (tT 28)),oO 30 (.faddr 0 (tT 29)),oO 31 (.load false 1 (tT 30)),oM 32 1,oM 33 2,oO 34 (kC 50 [(tT 31),(tT 32),(tT 33)]),oM 27 34,oO 35 (.extract (tT 27) 0),oO 36 (.extract (tT 27) 1),oM 8 35,
 oM 9 36]) (sQ (sQ (.region [oM 37 9,oO 38 (.bin .neq .num (tT 37) (kI 0))]) (.cond (tT 38) (sQ (.region [oM 39 9,oO 6 (.mov (.const (.pointer none))),oM 7 39]) .ret) .skip)) (sQ (.region [oM 40 8,oO 41 (.build [(.pointer none)] [(0,
 1,(tT 40))]),oO 42 (.box (tT 41)),oM 6 42,oO 7 (.mov (kI 0))]) .ret)))))
theorem ok20 : FnOk Tryz.prog 20 43 ir20 [.tmp 6, .tmp 7] := fnOk_of mixed Tryz.func20 (by kernel_rfl) Tryz.ntmps20 (by kernel_rfl) (by kernel_rfl)

def ir21 : ACode := (sQ (.region [oO 4 (.mov kF)]) (sQ (sQ (.region [oM 6 0,oO 7 (.len (tT 6)),oM 8 1,oO 9 (.len (tT 8)),oO 10 (.bin .neq .num (tT 7) (tT 9))]) (.cond (tT 10) (sQ (.region [oO 4 (.mov kF)]) .ret) .skip)) (sQ (sQ (.region [oM 11 0,
 oO 12 (.len (tT 11)),oO 13 (.mov (kI 0))]) (.block 0 (.loop (sQ (.region [oO 14 (.bin .lss .num (tT 13) (tT 12))]) (sQ (.cond (tT 14) .skip (.exit 0)) (sQ (.block 1 (sQ (.region [oM 15 13,oM 5 15]) (sQ (.draw [⟨0,
 oM 16 0,0,0,false⟩,⟨1,oM 17 5,0,0,false⟩,⟨2,oO 18 (.iaddr 1 (tT 16) (tT 17)),3,0,false⟩,⟨3,oO 19 (.load false 1 (tT 18)),7,0,false⟩,⟨4,oM 20 1,0,0,false⟩,⟨5,oM 21 5,0,0,false⟩,⟨6,oO 22 (.iaddr 1 (tT 20) (tT 21)),
 48,0,false⟩,⟨7,oO 23 (.load false 1 (tT 22)),112,0,false⟩,⟨8,oO 24 (.bin .neq .num (tT 19) (tT 23)),255,1,false⟩]) (.cond (tT 24) (sQ (.region [oO 4 (.mov kF)]) .ret) .skip)))) (.region [oO 25 (.bin .add .num (tT 13) (kI 1)),
 oM 13 25]))))))) (sQ (.region [oO 4 (.mov kT)]) .ret))))
theorem ok21 : FnOk Tryz.prog 21 26 ir21 [.tmp 4] := fnOk_of mixed Tryz.func21 (by kernel_rfl) Tryz.ntmps21 (by kernel_rfl) (by kernel_rfl)

def ir22 : ACode := (sQ (.region [oO 1 (.box (tT 0)),oO 2 (.mov (.const nS))]) (sQ (.region [oO 6 (.mslice [(.int .i64 0)] 8 (kI 64) (kI 64)),oO 3 (.alloc [nS]),⟨none,.store 1 (tT 3) (tT 6),none⟩]) (sQ (sQ (.region [oO 4 (.mov (kI 1))]) (.block 0 (.loop (sQ (sQ (.region [oM 7 4,
 oO 8 (.load true 4 (tT 1)),oO 9 (kC 36 [(tT 8)]),oO 10 (.bin .leq .num (tT 7) (tT 9))]) (.cond (tT 10) .skip (.exit 0))) (sQ (.block 1 (sQ (.region [oO 13 (.load true 4 (tT 1)),oM 14 4,oO 15 (kC 9 [(tT 13),
 (tT 14)]),oO 16 (kC 52 [(tT 15)])]) (.block 2 (.range (tT 16) [17] [(5,(tT 17))] (.block 3 (sQ (.region [oM 18 5,oO 19 (.load false 1 (tT 3)),oO 20 (.len (tT 19)),oO 21 (.bin .lss .num (tT 18) (tT 20))]) (.cond (tT 21) (.region [oO 22 (.load false 1 (tT 3)),
 oM 23 5,oO 24 (.iaddr 1 (tT 22) (tT 23)),oO 25 (.load false 1 (tT 24)),oO 26 (.bin .add .num (tT 25) (kI 1)),oO 27 (.iaddr 1 (tT 22) (tT 23)),⟨none,.store 1 (tT 27) (tT 26),none⟩]) .skip))))))) (.region [oM 11 4,
 oO 12 (.bin .add .num (tT 11) (kI 1)),oM 4 12])))))) (sQ (.region [oO 28 (.load false 1 (tT 3)),oM 2 28]) .ret))))
theorem ok22 : FnOk Tryz.prog 22 29 ir22 [.tmp 2] := fnOk_of mixed Tryz.func22 (by kernel_rfl) Tryz.ntmps22 (by kernel_rfl) (by kernel_rfl)

def ir23 : ACode := (sQ (.region [oO 4 (.mov kF)]) (sQ (sQ (.region [oM 6 0,oO 7 (.len (tT 6)),oM 8 1,oO 9 (.len (tT 8)),oO 10 (.bin .neq .num (tT 7) (tT 9))]) (.cond (tT 10) (sQ (.region [oO 4 (.mov kF)]) .ret) .skip)) (sQ (sQ (.region [oM 11 0,
 oO 12 (.len (tT 11)),oO 13 (.mov (kI 0))]) (.block 0 (.loop (sQ (.region [oO 14 (.bin .lss .num (tT 13) (tT 12))]) (sQ (.cond (tT 14) .skip (.exit 0)) (sQ (.block 1 (sQ (.region [oM 15 13,oM 5 15]) (sQ (.draw [⟨0,
 oM 16 0,0,0,false⟩,⟨1,oM 17 5,0,0,false⟩,⟨2,oO 18 (.iaddr 2 (tT 16) (tT 17)),3,0,false⟩,⟨3,oO 19 (.load true 2 (tT 18)),7,0,false⟩,⟨4,oM 20 1,0,0,false⟩,⟨5,oM 21 5,0,0,false⟩,⟨6,oO 22 (.iaddr 2 (tT 20) (tT 21)),
 48,0,false⟩,⟨7,oO 23 (.load true 2 (tT 22)),112,0,false⟩,⟨8,oO 24 (.bin .neq (.cells [0,0]) (tT 19) (tT 23)),255,1,false⟩]) (.cond (tT 24) (sQ (.region [oO 4 (.mov kF)]) .ret) .skip)))) (.region [oO 25 (.bin .add .num (tT 13) (kI 1)),
 oM 13 25]))))))) (sQ (.region [oO 4 (.mov kT)]) .ret))))
theorem ok23 : FnOk Tryz.prog 23 26 ir23 [.tmp 4] := fnOk_of mixed Tryz.func23 (by kernel_rfl) Tryz.ntmps23 (by kernel_rfl) (by kernel_rfl)

def ir24 : ACode := (sQ (.region [oO 3 (.box (tT 1)),oO 4 (.mov (.const nS))]) (sQ (.region [oO 5 (.mov (.const nS))]) (sQ (sQ (.region [oM 10 0,oO 11 (.len (tT 10)),oO 12 (.mov (kI 0))]) (.block 0 (.loop (sQ (.region [oO 13 (.bin .lss .num (tT 12) (tT 11))]) (sQ (.cond (tT 13) .skip (.exit 0)) (sQ (.block 1 (sQ (.region [oM 14 12,
 oO 15 (.iaddr 7 (tT 10) (tT 12)),oO 16 (.load true 7 (tT 15)),⟨(some 7),.alloc [(.bool false),(.int .u8 0),(.string ⟨#[]⟩),(.int .u8 0),(.int .i64 0),nS,nS],none⟩,oM 6 14,⟨none,.store 7 (tT 7) (tT 16),
 none⟩]) (sQ (sQ (.region [oO 17 (.load true 7 (tT 7)),oO 18 (.load true 4 (tT 3)),oO 19 (kC 53 [(tT 17),(tT 18)]),oO 20 (.len (tT 19)),oO 21 (.mov (kI 0))]) (.block 2 (.loop (sQ (.region [oO 22 (.bin .lss .num (tT 21) (tT 20))]) (sQ (.cond (tT 22) .skip (.exit 2)) (sQ (.block 3 (sQ (.region [oO 23 (.iaddr 1 (tT 19) (tT 21)),
 oO 24 (.load false 1 (tT 23)),oM 9 24]) (.region [oM 25 5,oM 26 6,oM 27 9,oO 28 (.build [(.int .i64 0),(.int .i64 0)] [(0,1,(tT 26)),(1,1,(tT 27))]),oO 29 (.bslice [(.int .i64 0),(.int .i64 0)] 1 [(0,(tT 28))]),
 oO 30 (.append [(.int .i64 0),(.int .i64 0)] 16 (tT 25) (tT 29)),oM 5 30]))) (.region [oO 31 (.bin .add .num (tT 21) (kI 1)),oM 21 31]))))))) (sQ (.draw [⟨0,oO 32 (.faddr 1 (tT 7)),0,1,false⟩,⟨1,oO 33 (.load false 1 (tT 32)),
 1,1,false⟩,⟨2,oO 34 (.bin .eql .num (tT 33) (.const (.int .u8 3))),3,1,false⟩,⟨3,oM 35 34,7,1,false⟩,⟨4,oT 35 36 (.load true 7 (tT 7)),15,1,false⟩,⟨5,oT 35 37 (kC 54 [(tT 36)]),31,1,false⟩,⟨6,oT 35 38 (.bin .eql .num (tT 37) (kI 0)),
 63,1,false⟩,⟨7,oO 39 (.pick (tT 35) (tT 38) kF),127,1,false⟩,⟨8,oM 40 39,255,1,false⟩,⟨9,oT 40 41 (.faddr 3 (tT 7)),511,0,false⟩,⟨10,oT 40 42 (.load true 4 (tT 41)),1023,0,false⟩,⟨11,oT 40 43 (.build [nS] []),
 511,0,false⟩,⟨12,oT 40 44 (.load true 4 (tT 3)),511,0,false⟩,⟨13,oT 40 45 (kC 22 [(tT 44)]),4607,0,false⟩,⟨14,oT 40 46 (kC 27 [(tT 42),(tT 43),(tT 45)]),16383,1,false⟩,⟨15,oT 40 47 (.una .not (tT 46)),
 32767,1,false⟩,⟨16,oO 48 (.pick (tT 40) (tT 47) kF),65535,1,false⟩]) (.cond (tT 48) (.region [oM 49 5,oM 50 6,oO 51 (.build [(.int .i64 0),(.int .i64 0)] [(0,1,(tT 50)),(1,1,(kI 0))]),oO 52 (.bslice [(.int .i64 0),
 (.int .i64 0)] 1 [(0,(tT 51))]),oO 53 (.append [(.int .i64 0),(.int .i64 0)] 16 (tT 49) (tT 52)),oM 5 53]) .skip))))) (.region [oO 54 (.bin .add .num (tT 12) (kI 1)),oM 12 54]))))))) (sQ (.region [oM 55 5,
 oM 4 55]) .ret))))
theorem ok24 : FnOk Tryz.prog 24 56 ir24 [.tmp 4] := fnOk_of mixed Tryz.func24 (by kernel_rfl) Tryz.ntmps24 (by kernel_rfl) (by kernel_rfl)

def ir25 : ACode := (sQ (.region [oO 3 (.box (tT 0)),oO 4 (.box (tT 1)),oO 5 (.box (tT 2)),oO 6 (.mov (.const nS))]) (sQ (.region [oO 8 (.load false 1 (tT 3)),oO 9 (.load true 4 (tT 4)),oO 10 (kC 24 [(tT 8),
 (tT 9)]),oO 7 (.alloc [nS]),⟨none,.store 1 (tT 7) (tT 10),none⟩]) (sQ (.region [oO 11 (.load false 1 (tT 3)),oO 12 (.load true 4 (tT 5)),oO 13 (kC 24 [(tT 11),(tT 12)]),oO 14 (.mkfn 56 [(tT 3),(tT 7)]),
 oO 15 (kC 55 [(tT 13),(tT 14)]),oM 6 15]) .ret)))
theorem ok25 : FnOk Tryz.prog 25 16 ir25 [.tmp 6] := fnOk_of mixed Tryz.func25 (by kernel_rfl) Tryz.ntmps25 (by kernel_rfl) (by kernel_rfl)

def ir26 : ACode := (sQ (.region [oO 0 (.mov (.const nS))]) (sQ (.region [oO 1 (.mov (.func 58))]) (sQ (.region [oO 2 (.mov (.func 59))]) (sQ (.region [oO 3 (.mov (.func 60))]) (sQ (.region [oM 5 2,oO 6 (.call (tT 5) [(kI 1)]),
 oM 7 2,oO 8 (.call (tT 7) [(kI 2)]),oO 9 (.bslice [(.int .u8 0),(.int .i64 0),nS,nS] 2 [(0,(tT 6)),(1,(tT 8))]),oO 10 (.build [(.int .u8 0),(.int .i64 0),nS,nS] [(0,1,(.const (.int .u8 16))),(3,1,(tT 9))]),
 oO 4 (.alloc [(.int .u8 0),(.int .i64 0),nS,nS]),⟨none,.store 4 (tT 4) (tT 10),none⟩]) (sQ (.draw [⟨0,oO 11 (.bslice [(.int .i64 0)] 2 [(0,(kI 1)),(1,(kI 2))]),0,0,false⟩,⟨1,oO 12 (.build [(.int .u8 0),
 (.int .i64 0),nS,nS] [(0,1,(.const (.int .u8 5))),(2,1,(tT 11))]),1,0,false⟩,⟨2,oM 13 1,0,0,false⟩,⟨3,oO 14 (.call (tT 13) [(kI 1)]),4,0,false⟩,⟨4,oO 15 (.bslice [(.int .u8 0),(.int .i64 0),nS,nS] 2 [(0,
 (tT 12)),(1,(tT 14))]),15,0,false⟩,⟨5,oO 16 (.build [(.int .u8 0),(.int .i64 0),nS,nS] [(0,1,(.const (.int .u8 11))),(3,1,(tT 15))]),31,0,false⟩,⟨6,oM 17 3,0,0,false⟩,⟨7,oO 18 (.call (tT 17) [(kI 1)]),
 76,0,false⟩,⟨8,oM 19 3,0,0,false⟩,⟨9,oO 20 (.call (tT 19) [(kI 2)]),460,0,false⟩,⟨10,oO 21 (.bslice [(.int .u8 0),(.int .i64 0),nS,nS] 2 [(0,(tT 18)),(1,(tT 20))]),972,0,false⟩,⟨11,oO 22 (.build [(.int .u8 0),
 (.int .i64 0),nS,nS] [(0,1,(.const (.int .u8 10))),(3,1,(tT 21))]),1996,0,false⟩,⟨12,oO 23 (.load true 4 (tT 4)),0,1,false⟩,⟨13,oM 24 1,0,0,false⟩,⟨14,oO 25 (.call (tT 24) [(kI 3)]),9164,0,false⟩,⟨15,oO 26 (.bslice [(.int .u8 0),
 (.int .i64 0),nS,nS] 2 [(0,(tT 23)),(1,(tT 25))]),29644,1,false⟩,⟨16,oO 27 (.build [(.int .u8 0),(.int .i64 0),nS,nS] [(0,1,(.const (.int .u8 12))),(3,1,(tT 26))]),62412,1,false⟩,⟨17,oO 28 (.bslice [(.int .u8 0),
 (.int .i64 0),nS,nS] 3 [(0,(tT 16)),(1,(tT 22)),(2,(tT 27))]),131071,1,false⟩,⟨18,oM 0 28,262143,1,false⟩]) .ret))))))
theorem ok26 : FnOk Tryz.prog 26 29 ir26 [.tmp 0] := fnOk_of mixed Tryz.func26 (by kernel_rfl) Tryz.ntmps26 (by kernel_rfl) (by kernel_rfl)

def ir27 : ACode := (sQ (.region [oO 3 (.box (tT 0)),oO 4 (.box (tT 1)),oO 6 (.mov kF)]) (sQ (.region [oO 10 (.load true 4 (tT 3)),oO 11 (kC 61 [(tT 10)]),oM 9 11,oO 12 (.extract (tT 9) 0),oO 13 (.extract (tT 9) 1),
 oM 7 12,oM 8 13]) (sQ (.region [oM 14 8,oO 15 (.bin .eql .num (tT 14) (kI 0)),oM 16 15,oT 16 17 (.mov (tT 7)),oT 16 18 (.bin .eql .num (tT 17) (.const (.int .u8 1))),oO 19 (.pick (tT 16) (tT 18) kF),oM 20 19,
 oT 20 21 (.load true 1 (tT 4)),oT 20 22 (.mov (tT 2)),oT 20 23 (.build [nS,nS] [(0,1,(tT 21)),(1,1,(tT 22))]),oT 20 24 (.load true 4 (tT 3)),oT 20 25 (kC 62 [(tT 23),(tT 24)]),oT 20 26 (.bin .eql .num (tT 25) (kI 1)),
 oO 27 (.pick (tT 20) (tT 26) kF),oM 6 27]) .ret)))
theorem ok27 : FnOk Tryz.prog 27 28 ir27 [.tmp 6] := fnOk_of mixed Tryz.func27 (by kernel_rfl) Tryz.ntmps27 (by kernel_rfl) (by kernel_rfl)

def ir28 : ACode := (sQ (.region [oO 2 (.alloc [nS])]) (sQ (.region [oO 3 (.mov (.const (.int .i64 (-1))))]) (sQ (sQ (.region [oM 9 0,oO 10 (.len (tT 9)),oO 11 (.mov (kI 0))]) (.block 0 (.loop (sQ (.region [oO 12 (.bin .lss .num (tT 11) (tT 10))]) (sQ (.cond (tT 12) .skip (.exit 0)) (sQ (.block 1 (sQ (.region [oO 13 (.iaddr 1 (tT 9) (tT 11)),
 oO 14 (.load false 1 (tT 13)),oM 5 14]) (sQ (.region [oM 15 5,oO 16 (.bin .leq .num (tT 15) (kI 4095))]) (.cond (tT 16) (.region [oM 17 3,oM 18 5,oO 19 (.mx (tT 17) (tT 18)),oM 3 19]) .skip)))) (.region [oO 20 (.bin .add .num (tT 11) (kI 1)),
 oM 11 20]))))))) (sQ (sQ (.region [oM 21 3,oO 22 (.bin .lss .num (tT 21) (kI 0))]) (.cond (tT 22) (sQ (.region [oO 23 (.build [nS] []),⟨none,.store 1 (tT 2) (tT 23),none⟩]) .ret) .skip)) (sQ (.region [oM 24 3,
 oO 25 (.bin .quo .num (tT 24) (kI 64)),oO 26 (.bin .add .num (tT 25) (kI 1)),oO 27 (.mslice [(.int .u64 0)] 8 (tT 26) (tT 26)),oM 6 27]) (sQ (sQ (.region [oM 28 0,oO 29 (.len (tT 28)),oO 30 (.mov (kI 0))]) (.block 2 (.loop (sQ (.region [oO 31 (.bin .lss .num (tT 30) (tT 29))]) (sQ (.cond (tT 31) .skip (.exit 2)) (sQ (.block 3 (sQ (.region [oO 32 (.iaddr 1 (tT 28) (tT 30)),
 oO 33 (.load false 1 (tT 32)),oM 8 33]) (sQ (.region [oM 34 8,oO 35 (.bin .geq .num (tT 34) (kI 0)),oM 36 35,oT 36 37 (.mov (tT 8)),oT 36 38 (.mov (tT 3)),oT 36 39 (.bin .leq .num (tT 37) (tT 38)),oO 40 (.pick (tT 36) (tT 39) kF)]) (.cond (tT 40) (.draw [⟨0,
 oM 41 6,0,1,false⟩,⟨1,oM 42 8,0,1,false⟩,⟨2,oO 43 (.bin .quo .num (tT 42) (kI 64)),2,1,false⟩,⟨3,oO 44 (.iaddr 1 (tT 41) (tT 43)),7,1,false⟩,⟨4,oO 45 (.load false 1 (tT 44)),15,1,false⟩,⟨5,oM 46 8,0,0,
 false⟩,⟨6,oO 47 (.bin .rem .num (tT 46) (kI 64)),32,0,false⟩,⟨7,oO 48 (.bin .shl .num (.const (.int .u64 1)) (tT 47)),96,0,false⟩,⟨8,oO 49 (.bin .or .num (tT 45) (tT 48)),255,1,false⟩,⟨9,oO 50 (.iaddr 1 (tT 41) (tT 43)),
 511,1,false⟩,⟨10,⟨none,.store 1 (tT 50) (tT 49),none⟩,1023,1,false⟩]) .skip)))) (.region [oO 51 (.bin .add .num (tT 30) (kI 1)),oM 30 51]))))))) (sQ (.region [oM 52 6,oO 53 (kC 63 [(tT 52)]),⟨none,.store 1 (tT 2) (tT 53),
 none⟩]) .ret)))))))
theorem ok28 : FnOk Tryz.prog 28 54 ir28 [.cell 2 true 1] := fnOk_of mixed Tryz.func28 (by kernel_rfl) Tryz.ntmps28 (by kernel_rfl) (by kernel_rfl)

def ir29 : ACode := (sQ (.region [oO 1 (.box (tT 0)),oO 2 (.alloc [nS,nS,(.int .i64 0),(.int .i64 0)])]) (sQ (.draw [⟨0,oO 3 (.faddr 0 (tT 1)),0,0,false⟩,⟨1,oO 4 (.load false 1 (tT 3)),1,0,false⟩,⟨2,oO 5 (kC 64 [(tT 4)]),
 3,0,false⟩,⟨3,oO 6 (.faddr 1 (tT 1)),0,0,false⟩,⟨4,oO 7 (.load false 1 (tT 6)),8,0,false⟩,⟨5,oO 8 (kC 65 [(tT 7)]),31,0,false⟩,⟨6,oO 9 (.faddr 2 (tT 1)),0,0,false⟩,⟨7,oO 10 (.load false 1 (tT 9)),64,0,
 false⟩,⟨8,oO 11 (.bin .rem .num (tT 10) (.const (.int .u8 6))),192,0,false⟩,⟨9,oO 12 (.conv .i64 (tT 11)),448,0,false⟩,⟨10,oO 13 (.faddr 3 (tT 1)),0,0,false⟩,⟨11,oO 14 (.load false 1 (tT 13)),1024,0,false⟩,
 ⟨12,oO 15 (.bin .rem .num (tT 14) (.const (.int .u8 24))),3072,0,false⟩,⟨13,oO 16 (.conv .i64 (tT 15)),7168,0,false⟩,⟨14,oO 17 (.build [nS,nS,(.int .i64 0),(.int .i64 0)] [(0,1,(tT 5)),(1,1,(tT 8)),(2,
 1,(tT 12)),(3,1,(tT 16))]),16383,1,false⟩,⟨15,⟨none,.store 4 (tT 2) (tT 17),none⟩,32767,1,false⟩]) .ret))
theorem ok29 : FnOk Tryz.prog 29 18 ir29 [.cell 2 true 4] := fnOk_of mixed Tryz.func29 (by kernel_rfl) Tryz.ntmps29 (by kernel_rfl) (by kernel_rfl)

def ir30 : ACode := (sQ (.region [oO 0 (.mov (.const (.pointer none)))]) (sQ (.region [oO 4 (kC 66 [(kI 64),(.const nS)]),oM 3 4,oO 5 (.extract (tT 3) 0),oO 6 (.extract (tT 3) 1),oM 1 5,oM 2 6]) (sQ (.region [oM 7 1,
 oO 8 (.build [(.pointer none)] [(0,1,(tT 7))]),oO 9 (.box (tT 8)),oM 0 9]) .ret)))
theorem ok30 : FnOk Tryz.prog 30 10 ir30 [.tmp 0] := fnOk_of mixed Tryz.func30 (by kernel_rfl) Tryz.ntmps30 (by kernel_rfl) (by kernel_rfl)

def ir31 : ACode := (sQ (.region [oO 6 (.mov (.const (.pointer none))),oO 7 (.mov (kI 0))]) (sQ (sQ (.region [oM 10 0,oO 11 (.bin .eql .ptr (tT 10) (.const (.pointer none))),oM 12 11,oF 12 13 (.mov (tT 1)),
 oF 12 14 (kC 40 [(tT 13)]),oF 12 15 (.una .not (tT 14)),oO 16 (.pick (tT 12) kT (tT 15)),oM 17 16,oF 17 18 (.mov (tT 2)),oF 17 19 (kC 40 [(tT 18)]),oF 17 20 (.una .not (tT 19)),oO 21 (.pick (tT 17) kT (tT 20)),
 oM 22 21,oF 22 23 (.mov (tT 1)),oF 22 24 (.mov (tT 2)),oF 22 25 (.bin .eql .num (tT 23) (tT 24)),oO 26 (.pick (tT 22) kT (tT 25))]) (.cond (tT 26) (sQ (.region [oO 6 (.mov (.const (.pointer none))),oO 7 (.mov (kI 1))]) .ret) .skip)) (sQ (.region [oM 28 0,
 oO 29 (.nilck (tT 28)),oO 30 (.faddr 0 (tT 29)),oO 31 (.load false 1 (tT 30)),oM 32 1,oM 33 2,oO 34 (kC 67 [(tT 31),(tT 32),(tT 33)]),oM 27 34,oO 35 (.extract (tT 27) 0),oO 36 (.extract (tT 27) 1),oM 8 35,
 oM 9 36]) (sQ (sQ (.region [oM 37 9,oO 38 (.bin .neq .num (tT 37) (kI 0))]) (.cond (tT 38) (sQ (.region [oM 39 9,oO 6 (.mov (.const (.pointer none))),oM 7 39]) .ret) .skip)) (sQ (.region [oM 40 8,oO 41 (.build [(.pointer none)] [(0,
 1,(tT 40))]),oO 42 (.box (tT 41)),oM 6 42,oO 7 (.mov (kI 0))]) .ret)))))
theorem ok31 : FnOk Tryz.prog 31 43 ir31 [.tmp 6, .tmp 7] := fnOk_of mixed Tryz.func31 (by kernel_rfl) Tryz.ntmps31 (by kernel_rfl) (by kernel_rfl)

def ir32 : ACode := (sQ (.region [oO 0 (.mov (.const (.pointer none)))]) (sQ (.region [oO 1 (.build [nS] []),oO 2 (.box (tT 1)),oM 0 2]) .ret))
theorem ok32 : FnOk Tryz.prog 32 3 ir32 [.tmp 0] := fnOk_of mixed Tryz.func32 (by kernel_rfl) Tryz.ntmps32 (by kernel_rfl) (by kernel_rfl)

def ir33 : ACode := (sQ (.region [oO 2 (.mov (.const nS))]) (sQ (sQ (.region [oM 3 0,oO 4 (.isnil false (tT 3))]) (.cond (tT 4) (sQ (.region [oO 2 (.mov (.const nS))]) .ret) .skip)) (sQ (.region [oO 5 (.bslice [(.int .i64 0),
 (.int .i64 0),(.int .i64 0)] 0 []),oM 6 0,oO 7 (.append [(.int .i64 0),(.int .i64 0),(.int .i64 0)] 24 (tT 5) (tT 6)),oM 2 7]) .ret)))
theorem ok33 : FnOk Tryz.prog 33 8 ir33 [.tmp 2] := fnOk_of mixed Tryz.func33 (by kernel_rfl) Tryz.ntmps33 (by kernel_rfl) (by kernel_rfl)

def ir34 : ACode := (sQ (.region [oO 6 (.mov (kI 0)),oO 7 (.mov kF)]) (sQ (.region [oM 8 0,oO 9 (.nilck (tT 8)),oO 10 (.faddr 0 (tT 9)),oO 11 (.load false 1 (tT 10)),oM 12 1,oM 13 2,oO 14 (.build [(.int .i64 0),
 (.int .i64 0),(.int .i64 0)] [(0,1,(tT 12)),(1,1,(tT 13))]),oO 15 (kC 68 [(tT 11),(tT 14),(.func 69)]),oO 16 (.extract (tT 15) 0),oO 17 (.extract (tT 15) 1),oM 6 16,oM 7 17]) .ret))
theorem ok34 : FnOk Tryz.prog 34 18 ir34 [.tmp 6, .tmp 7] := fnOk_of mixed Tryz.func34 (by kernel_rfl) Tryz.ntmps34 (by kernel_rfl) (by kernel_rfl)

def ir35 : ACode := (sQ (.region [oO 6 (.mov (.const nS))]) (sQ (.region [oM 10 0,oM 11 1,oO 12 (.slc 3 (tT 10) (some (tT 11)) none none)]) (sQ (.region [oM 13 2,oO 14 (.len (tT 13)),oM 7 14]) (sQ (sQ (.region [oM 15 7,
 oO 16 (.bin .eql .num (tT 15) (kI 0))]) (.cond (tT 16) (sQ (.region [oM 17 0,oM 6 17]) .ret) .skip)) (sQ (.region [oM 18 0,oO 19 (.len (tT 18)),oM 8 19]) (sQ (sQ (.region [oM 20 1,oM 21 8,oO 22 (.bin .eql .num (tT 20) (tT 21))]) (.cond (tT 22) (sQ (.region [oM 23 0,
 oM 24 2,oO 25 (.append [(.int .i64 0),(.int .i64 0),(.int .i64 0)] 24 (tT 23) (tT 24)),oM 6 25]) .ret) .skip)) (sQ (sQ (.region [oM 26 8,oM 27 7,oO 28 (.bin .add .num (tT 26) (tT 27)),oM 29 0,oO 30 (.cap (tT 29)),
 oO 31 (.bin .gtr .num (tT 28) (tT 30))]) (.cond (tT 31) (sQ (.region [oM 32 0,oM 33 1,oO 34 (.slc 3 (tT 32) none (some (tT 33)) none),oM 35 8,oM 36 7,oO 37 (.bin .add .num (tT 35) (tT 36)),oM 38 1,oO 39 (.bin .sub .num (tT 37) (tT 38)),
 oO 40 (.appz [(.int .i64 0),(.int .i64 0),(.int .i64 0)] 24 (tT 34) (tT 39)),oM 9 40]) (sQ (.region [oM 41 9,oM 42 1,oO 43 (.slc 3 (tT 41) (some (tT 42)) none none),oM 44 2,oO 45 (.copy 3 (tT 43) (tT 44))]) (sQ (.draw [⟨0,
 oM 46 9,0,0,false⟩,⟨1,oM 47 1,0,0,false⟩,⟨2,oM 48 7,0,0,false⟩,⟨3,oO 49 (.bin .add .num (tT 47) (tT 48)),6,0,false⟩,⟨4,oO 50 (.slc 3 (tT 46) (some (tT 49)) none none),15,0,false⟩,⟨5,oM 51 0,0,0,false⟩,
 ⟨6,oM 52 1,0,0,false⟩,⟨7,oO 53 (.slc 3 (tT 51) (some (tT 52)) none none),96,0,false⟩,⟨8,oO 54 (.copy 3 (tT 50) (tT 53)),255,1,false⟩]) (sQ (.region [oM 55 9,oM 6 55]) .ret)))) .skip)) (sQ (.region [oM 56 0,
 oM 57 8,oM 58 7,oO 59 (.bin .add .num (tT 57) (tT 58)),oO 60 (.slc 3 (tT 56) none (some (tT 59)) none),oM 0 60]) (sQ (sQ (.region [oM 61 2,oM 62 0,oM 63 1,oM 64 7,oO 65 (.bin .add .num (tT 63) (tT 64)),
 oO 66 (.slc 3 (tT 62) (some (tT 65)) none none),oO 67 (kC 70 [(tT 61),(tT 66)]),oO 68 (.una .not (tT 67))]) (.cond (tT 68) (sQ (.draw [⟨0,oM 69 0,0,0,false⟩,⟨1,oM 70 1,0,0,false⟩,⟨2,oM 71 7,0,0,false⟩,
 ⟨3,oO 72 (.bin .add .num (tT 70) (tT 71)),6,0,false⟩,⟨4,oO 73 (.slc 3 (tT 69) (some (tT 72)) none none),15,0,false⟩,⟨5,oM 74 0,0,0,false⟩,⟨6,oM 75 1,0,0,false⟩,⟨7,oO 76 (.slc 3 (tT 74) (some (tT 75)) none none),
 96,0,false⟩,⟨8,oO 77 (.copy 3 (tT 73) (tT 76)),255,1,false⟩]) (sQ (.region [oM 78 0,oM 79 1,oO 80 (.slc 3 (tT 78) (some (tT 79)) none none),oM 81 2,oO 82 (.copy 3 (tT 80) (tT 81))]) (sQ (.region [oM 83 0,
 oM 6 83]) .ret))) .skip)) (sQ (.region [oM 84 0,oM 85 8,oO 86 (.slc 3 (tT 84) (some (tT 85)) none none),oM 87 2,oO 88 (.copy 3 (tT 86) (tT 87))]) (sQ (.region [oM 89 0,oM 90 1,oO 91 (.slc 3 (tT 89) (some (tT 90)) none none),
 oM 92 7,oO 93 (kC 71 [(tT 91),(tT 92)])]) (sQ (.region [oM 94 0,oM 6 94]) .ret))))))))))))
theorem ok35 : FnOk Tryz.prog 35 95 ir35 [.tmp 6] := fnOk_of mixed Tryz.func35 (by kernel_rfl) Tryz.ntmps35 (by kernel_rfl) (by kernel_rfl)

def ir36 : ACode := (sQ (.region [oO 1 (.box (tT 0)),oO 2 (.mov (kI 0))]) (sQ (.region [oO 3 (.faddr 2 (tT 1)),oO 4 (.load false 1 (tT 3)),oO 5 (.mx (tT 4) (kI 0)),oO 6 (.mn (tT 5) (kI 256)),oM 2 6]) .ret))
theorem ok36 : FnOk Tryz.prog 36 7 ir36 [.tmp 2] := fnOk_of mixed Tryz.func36 (by kernel_rfl) Tryz.ntmps36 (by kernel_rfl) (by kernel_rfl)

def ir37 : ACode := (sQ (.region [oO 2 (.box (tT 0)),oO 3 (.box (tT 1)),oO 4 (.alloc [nS])]) (sQ (.region [oO 5 (.alloc [nS])]) (sQ (sQ (.region [oO 7 (.load true 1 (tT 3)),oO 8 (kC 52 [(tT 7)])]) (.block 0 (.range (tT 8) [9] [(6,
 (tT 9))] (.block 1 (.draw [⟨0,oO 10 (.load true 1 (tT 5)),0,0,false⟩,⟨1,oO 11 (.load false 1 (tT 2)),0,0,false⟩,⟨2,oM 12 6,0,0,false⟩,⟨3,oO 13 (kC 11 [(tT 11),(tT 12)]),6,0,false⟩,⟨4,oO 14 (kC 10 [(tT 10),
 (tT 13)]),15,1,false⟩,⟨5,⟨none,.store 1 (tT 5) (tT 14),none⟩,31,1,false⟩]))))) (sQ (.region [oO 15 (.load true 1 (tT 5)),⟨none,.store 1 (tT 4) (tT 15),none⟩]) .ret))))
theorem ok37 : FnOk Tryz.prog 37 16 ir37 [.cell 4 true 1] := fnOk_of mixed Tryz.func37 (by kernel_rfl) Tryz.ntmps37 (by kernel_rfl) (by kernel_rfl)

def ir38 : ACode := (sQ (.region [oO 6 (.alloc [nS])]) (sQ (.region [oO 7 (.alloc [nS])]) (sQ (sQ (.region [oM 10 0,oO 11 (.bin .eql .ptr (tT 10) (.const (.pointer none)))]) (.cond (tT 11) (sQ (.region [oO 12 (.load true 1 (tT 7)),
 ⟨none,.store 1 (tT 6) (tT 12),none⟩]) .ret) .skip)) (sQ (sQ (.region [oM 13 0,oO 14 (.nilck (tT 13)),oO 15 (.faddr 0 (tT 14)),oO 16 (.load false 1 (tT 15)),oO 17 (.len (tT 16)),oO 18 (.mov (kI 0))]) (.block 0 (.loop (sQ (.region [oO 19 (.bin .lss .num (tT 18) (tT 17))]) (sQ (.cond (tT 19) .skip (.exit 0)) (sQ (.block 1 (sQ (.region [oO 20 (.iaddr 3 (tT 16) (tT 18)),
 oO 21 (.load true 3 (tT 20)),oO 9 (.alloc [(.int .i64 0),(.int .i64 0),(.int .i64 0)]),⟨none,.store 3 (tT 9) (tT 21),none⟩]) (sQ (.region [oO 22 (.faddr 0 (tT 9)),oO 23 (.load false 1 (tT 22)),oM 24 1,
 oO 25 (.bin .eql .num (tT 23) (tT 24)),oM 26 25,oT 26 27 (.load true 3 (tT 9)),oT 26 28 (.mov (tT 2)),oT 26 29 (kC 72 [(tT 27),(tT 28)]),oO 30 (.pick (tT 26) (tT 29) kF)]) (.cond (tT 30) (.region [oO 31 (.load true 1 (tT 7)),
 oO 32 (.faddr 1 (tT 9)),oO 33 (.load false 1 (tT 32)),oO 34 (kC 42 [(tT 31),(tT 33)]),⟨none,.store 1 (tT 7) (tT 34),none⟩]) .skip)))) (.region [oO 35 (.bin .add .num (tT 18) (kI 1)),oM 18 35]))))))) (sQ (.region [oO 36 (.load true 1 (tT 7)),
 ⟨none,.store 1 (tT 6) (tT 36),none⟩]) .ret)))))
theorem ok38 : FnOk Tryz.prog 38 37 ir38 [.cell 6 true 1] := fnOk_of mixed Tryz.func38 (by kernel_rfl) Tryz.ntmps38 (by kernel_rfl) (by kernel_rfl)

def ir39 : ACode := (sQ (.region [oO 2 (.box (tT 0)),oO 4 (.mov (.const (.int .u64 0)))]) (sQ (sQ (.region [oM 5 1,oO 6 (.faddr 0 (tT 2)),oO 7 (.load false 1 (tT 6)),oO 8 (.len (tT 7)),oO 9 (.bin .lss .num (tT 5) (tT 8))]) (.cond (tT 9) (sQ (.region [oO 10 (.faddr 0 (tT 2)),
 oO 11 (.load false 1 (tT 10)),oM 12 1,oO 13 (.iaddr 1 (tT 11) (tT 12)),oO 14 (.load false 1 (tT 13)),oM 4 14]) .ret) .skip)) (sQ (.region [oO 4 (.mov (.const (.int .u64 0)))]) .ret)))
theorem ok39 : FnOk Tryz.prog 39 15 ir39 [.tmp 4] := fnOk_of mixed Tryz.func39 (by kernel_rfl) Tryz.ntmps39 (by kernel_rfl) (by kernel_rfl)

def ir40 : ACode := (sQ (.region [oO 2 (.mov kF)]) (sQ (.region [oM 3 0,oO 4 (.bin .geq .num (tT 3) (kI 1)),oM 5 4,oT 5 6 (.mov (tT 0)),oT 5 7 (.bin .leq .num (tT 6) (kI 63)),oO 8 (.pick (tT 5) (tT 7) kF),
 oM 2 8]) .ret))
theorem ok40 : FnOk Tryz.prog 40 9 ir40 [.tmp 2] := fnOk_of mixed Tryz.func40 (by kernel_rfl) Tryz.ntmps40 (by kernel_rfl) (by kernel_rfl)

def ir41 : ACode := (sQ (.region [oO 4 (.alloc [nS])]) (sQ (sQ (.region [oM 5 0,oM 6 1,oO 7 (kC 73 [(tT 5),(tT 6)]),oO 8 (.una .not (tT 7))]) (.cond (tT 8) (sQ (.region [oO 9 (.build [nS] []),⟨none,.store 1 (tT 4) (tT 9),
 none⟩]) .ret) .skip)) (sQ (.region [oM 10 0,oO 11 (.nilck (tT 10)),oO 12 (.faddr 3 (tT 11)),oO 13 (.load false 1 (tT 12)),oM 14 1,oO 15 (.iaddr 1 (tT 13) (tT 14)),oO 16 (.load true 1 (tT 15)),⟨none,.store 1 (tT 4) (tT 16),
 none⟩]) .ret)))
theorem ok41 : FnOk Tryz.prog 41 17 ir41 [.cell 4 true 1] := fnOk_of mixed Tryz.func41 (by kernel_rfl) Tryz.ntmps41 (by kernel_rfl) (by kernel_rfl)

def ir42 : ACode := (sQ (.region [oO 2 (.box (tT 0)),oO 4 (.alloc [nS])]) (sQ (sQ (.region [oM 6 1,oO 7 (.bin .lss .num (tT 6) (kI 0)),oM 8 7,oF 8 9 (.mov (tT 1)),oF 8 10 (.bin .gtr .num (tT 9) (kI 4095)),
 oO 11 (.pick (tT 8) kT (tT 10)),oM 12 11,oF 12 13 (.load true 1 (tT 2)),oF 12 14 (.mov (tT 1)),oF 12 15 (kC 74 [(tT 13),(tT 14)]),oO 16 (.pick (tT 12) kT (tT 15))]) (.cond (tT 16) (sQ (.region [oO 17 (.load true 1 (tT 2)),
 ⟨none,.store 1 (tT 4) (tT 17),none⟩]) .ret) .skip)) (sQ (.region [oO 18 (.faddr 0 (tT 2)),oO 19 (.load false 1 (tT 18)),oO 20 (.len (tT 19)),oM 21 1,oO 22 (.bin .quo .num (tT 21) (kI 64)),oO 23 (.bin .add .num (tT 22) (kI 1)),
 oO 24 (.mx (tT 20) (tT 23)),oO 25 (.mslice [(.int .u64 0)] 8 (tT 24) (tT 24)),oM 5 25]) (sQ (.region [oM 26 5,oO 27 (.faddr 0 (tT 2)),oO 28 (.load false 1 (tT 27)),oO 29 (.copy 1 (tT 26) (tT 28))]) (sQ (.draw [⟨0,
 oM 30 5,0,1,false⟩,⟨1,oM 31 1,0,1,false⟩,⟨2,oO 32 (.bin .quo .num (tT 31) (kI 64)),2,1,false⟩,⟨3,oO 33 (.iaddr 1 (tT 30) (tT 32)),7,1,false⟩,⟨4,oO 34 (.load false 1 (tT 33)),15,1,false⟩,⟨5,oM 35 1,0,0,
 false⟩,⟨6,oO 36 (.bin .rem .num (tT 35) (kI 64)),32,0,false⟩,⟨7,oO 37 (.bin .shl .num (.const (.int .u64 1)) (tT 36)),96,0,false⟩,⟨8,oO 38 (.bin .or .num (tT 34) (tT 37)),255,1,false⟩,⟨9,oO 39 (.iaddr 1 (tT 30) (tT 32)),
 511,1,false⟩,⟨10,⟨none,.store 1 (tT 39) (tT 38),none⟩,1023,1,false⟩]) (sQ (.region [oM 40 5,oO 41 (.build [nS] [(0,1,(tT 40))]),⟨none,.store 1 (tT 4) (tT 41),none⟩]) .ret))))))
theorem ok42 : FnOk Tryz.prog 42 42 ir42 [.cell 4 true 1] := fnOk_of mixed Tryz.func42 (by kernel_rfl) Tryz.ntmps42 (by kernel_rfl) (by kernel_rfl)

def ir44 : ACode := (sQ (.region [oO 2 (.mov (.const nS))]) (sQ (sQ (.region [oM 3 0,oO 4 (.bin .eql .ptr (tT 3) (.const (.pointer none)))]) (.cond (tT 4) (sQ (.region [oO 2 (.mov (.const nS))]) .ret) .skip)) (sQ (.region [oM 5 0,
 oO 6 (.nilck (tT 5)),oO 7 (.faddr 1 (tT 6)),oO 8 (.load false 1 (tT 7)),oO 9 (kC 75 [(tT 8)]),oM 2 9]) .ret)))
theorem ok44 : FnOk Tryz.prog 44 10 ir44 [.tmp 2] := fnOk_of mixed Tryz.func44 (by kernel_rfl) Tryz.ntmps44 (by kernel_rfl) (by kernel_rfl)

def ir45 : ACode := (sQ (.region [oO 2 (.mov kF)]) (sQ (.region [oM 3 0,oO 4 (.bin .geq .num (tT 3) (kI 1)),oM 5 4,oT 5 6 (.mov (tT 0)),oT 5 7 (.bin .leq .num (tT 6) (kI 63)),oO 8 (.pick (tT 5) (tT 7) kF),
 oM 2 8]) .ret))
theorem ok45 : FnOk Tryz.prog 45 9 ir45 [.tmp 2] := fnOk_of mixed Tryz.func45 (by kernel_rfl) Tryz.ntmps45 (by kernel_rfl) (by kernel_rfl)

def ir46 : ACode := (sQ (.region [oO 4 (.mov (.const (.int .u64 0)))]) (sQ (sQ (.region [oM 9 1,oO 10 (kC 45 [(tT 9)]),oO 11 (.una .not (tT 10))]) (.cond (tT 11) (sQ (.region [oO 4 (.mov (.const (.int .u64 0)))]) .ret) .skip)) (sQ (.region [oM 12 1,
 oO 13 (.bin .shl .num (.const (.int .u64 1)) (tT 12)),oM 5 13]) (.block 0 (.loop (.block 1 (sQ (.region [oM 14 5,oM 6 14]) (sQ (sQ (.region [oM 15 0,oO 16 (.len (tT 15)),oO 17 (.mov (kI 0))]) (.block 2 (.loop (sQ (.region [oO 18 (.bin .lss .num (tT 17) (tT 16))]) (sQ (.cond (tT 18) .skip (.exit 2)) (sQ (.block 3 (sQ (.region [oO 19 (.iaddr 2 (tT 15) (tT 17)),
 oO 20 (.load true 2 (tT 19)),oO 8 (.alloc [(.int .i64 0),(.int .i64 0)]),⟨none,.store 2 (tT 8) (tT 20),none⟩]) (sQ (.region [oM 21 5,oO 22 (.iaddrA 2 1 (tT 8) (kI 0)),oO 23 (.load false 1 (tT 22)),oO 24 (.bin .shr .num (tT 21) (tT 23)),
 oO 25 (.bin .rem .num (tT 24) (.const (.int .u64 2))),oO 26 (.bin .eql .num (tT 25) (.const (.int .u64 1)))]) (.cond (tT 26) (.region [oM 27 6,oO 28 (.iaddrA 2 1 (tT 8) (kI 1)),oO 29 (.load false 1 (tT 28)),
 oO 30 (.bin .shl .num (.const (.int .u64 1)) (tT 29)),oO 31 (.bin .or .num (tT 27) (tT 30)),oM 6 31]) .skip)))) (.region [oO 32 (.bin .add .num (tT 17) (kI 1)),oM 17 32]))))))) (sQ (sQ (.region [oM 33 6,
 oM 34 5,oO 35 (.bin .eql .num (tT 33) (tT 34))]) (.cond (tT 35) (sQ (.region [oM 36 5,oM 4 36]) .ret) .skip)) (.region [oM 37 6,oM 5 37]))))))))))
theorem ok46 : FnOk Tryz.prog 46 38 ir46 [.tmp 4] := fnOk_of mixed Tryz.func46 (by kernel_rfl) Tryz.ntmps46 (by kernel_rfl) (by kernel_rfl)

def ir47 : ACode := (sQ (.region [oO 1 (.box (tT 0)),oO 2 (.alloc [(.int .u8 0),(.int .i64 0),nS,nS])]) (sQ (.draw [⟨0,oO 6 (.faddr 0 (tT 1)),0,0,false⟩,⟨1,oO 7 (.load false 1 (tT 6)),1,0,false⟩,⟨2,oO 8 (.conv .u8 (tT 7)),
 3,0,false⟩,⟨3,oO 9 (.faddr 1 (tT 1)),0,0,false⟩,⟨4,oO 10 (.load false 1 (tT 9)),8,0,false⟩,⟨5,oO 11 (.bslice [(.int .i64 0)] 0 []),0,0,false⟩,⟨6,oO 12 (.faddr 2 (tT 1)),0,0,false⟩,⟨7,oO 13 (.load false 1 (tT 12)),
 64,0,false⟩,⟨8,oO 14 (.append [(.int .i64 0)] 8 (tT 11) (tT 13)),224,448,false⟩,⟨9,oO 15 (.build [(.int .u8 0),(.int .i64 0),nS,nS] [(0,1,(tT 8)),(1,1,(tT 10)),(2,1,(tT 14))]),511,1,false⟩,⟨10,oO 3 (.alloc [(.int .u8 0),
 (.int .i64 0),nS,nS]),0,0,false⟩,⟨11,⟨none,.store 4 (tT 3) (tT 15),none⟩,2047,1,false⟩]) (sQ (sQ (.region [oO 16 (.faddr 3 (tT 1)),oO 17 (.load false 1 (tT 16)),oO 18 (.len (tT 17)),oO 19 (.mov (kI 0))]) (.block 0 (.loop (sQ (.region [oO 20 (.bin .lss .num (tT 19) (tT 18))]) (sQ (.cond (tT 20) .skip (.exit 0)) (sQ (.block 1 (sQ (.region [oO 21 (.iaddr 4 (tT 17) (tT 19)),
 oO 22 (.load true 4 (tT 21)),oO 5 (.alloc [(.int .i64 0),(.int .i64 0),nS,nS]),⟨none,.store 4 (tT 5) (tT 22),none⟩]) (.draw [⟨0,oO 23 (.faddr 3 (tT 3)),0,0,false⟩,⟨1,oO 24 (.load false 1 (tT 23)),1,0,false⟩,
 ⟨2,oO 25 (.load true 4 (tT 5)),0,0,false⟩,⟨3,oO 26 (kC 47 [(tT 25)]),4,0,false⟩,⟨4,oO 27 (.bslice [(.int .u8 0),(.int .i64 0),nS,nS] 1 [(0,(tT 26))]),12,0,false⟩,⟨5,oO 28 (.append [(.int .u8 0),(.int .i64 0),
 nS,nS] 64 (tT 24) (tT 27)),31,1,false⟩,⟨6,oO 29 (.faddr 3 (tT 3)),63,1,false⟩,⟨7,⟨none,.store 1 (tT 29) (tT 28),none⟩,127,1,false⟩]))) (.region [oO 30 (.bin .add .num (tT 19) (kI 1)),oM 19 30]))))))) (sQ (.region [oO 31 (.load true 4 (tT 3)),
 ⟨none,.store 4 (tT 2) (tT 31),none⟩]) .ret))))
theorem ok47 : FnOk Tryz.prog 47 32 ir47 [.cell 2 true 4] := fnOk_of mixed Tryz.func47 (by kernel_rfl) Tryz.ntmps47 (by kernel_rfl) (by kernel_rfl)

def ir48 : ACode := (sQ (.region [oO 2 (.mov (.const nS))]) (sQ (.region [oO 3 (.mov (.const nS))]) (sQ (sQ (.region [oO 4 (.mov (kI 1))]) (.block 0 (.loop (sQ (sQ (.region [oM 5 4,oM 6 0,oO 7 (.bin .leq .num (tT 5) (tT 6))]) (.cond (tT 7) .skip (.exit 0))) (sQ (.block 1 (sQ (.region [oM 10 4,
 oO 11 (.bin .lss .num (tT 10) (kI 10))]) (.cond (tT 11) (.region [oM 12 3,oM 13 4,oM 14 4,oO 15 (.bin .add .num (tT 14) (kI 1)),⟨(some 16),.slcS (.const (.string ⟨#[48,49,50,51,52,53,54,55,56,57]⟩)) (some (tT 13)) (some (tT 15)),
 none⟩,⟨(some 17),.bin .add .num (.const (.string ⟨#[114]⟩)) (tT 16),none⟩,⟨(some 18),.bslice [(.string ⟨#[]⟩)] 1 [(0,(tT 17))],none⟩,⟨(some 19),.append [(.string ⟨#[]⟩)] 16 (tT 12) (tT 18),none⟩,oM 3 19]) (.draw [⟨0,
 oM 20 3,0,1,false⟩,⟨1,oM 21 4,0,1,false⟩,⟨2,oO 22 (.bin .quo .num (tT 21) (kI 10)),2,1,false⟩,⟨3,oM 23 4,0,1,false⟩,⟨4,oO 24 (.bin .quo .num (tT 23) (kI 10)),8,1,false⟩,⟨5,oO 25 (.bin .add .num (tT 24) (kI 1)),
 24,1,false⟩,⟨6,⟨(some 26),.slcS (.const (.string ⟨#[48,49,50,51,52,53,54,55,56,57]⟩)) (some (tT 22)) (some (tT 25)),none⟩,62,1,false⟩,⟨7,⟨(some 27),.bin .add .num (.const (.string ⟨#[114]⟩)) (tT 26),none⟩,
 126,1,false⟩,⟨8,oM 28 4,0,1,false⟩,⟨9,oO 29 (.bin .rem .num (tT 28) (kI 10)),256,1,false⟩,⟨10,oM 30 4,0,1,false⟩,⟨11,oO 31 (.bin .rem .num (tT 30) (kI 10)),1024,1,false⟩,⟨12,oO 32 (.bin .add .num (tT 31) (kI 1)),
 3072,1,false⟩,⟨13,⟨(some 33),.slcS (.const (.string ⟨#[48,49,50,51,52,53,54,55,56,57]⟩)) (some (tT 29)) (some (tT 32)),none⟩,7936,1,false⟩,⟨14,oO 34 (.bin .add .num (tT 27) (tT 33)),16382,1,false⟩,⟨15,
 ⟨(some 35),.bslice [(.string ⟨#[]⟩)] 1 [(0,(tT 34))],none⟩,32766,1,false⟩,⟨16,⟨(some 36),.append [(.string ⟨#[]⟩)] 16 (tT 20) (tT 35),none⟩,65535,1,false⟩,⟨17,oM 3 36,131071,1,false⟩])))) (.region [oM 8 4,
 oO 9 (.bin .add .num (tT 8) (kI 1)),oM 4 9])))))) (sQ (.region [oM 37 3,oM 2 37]) .ret))))
theorem ok48 : FnOk Tryz.prog 48 38 ir48 [.tmp 2] := fnOk_of mixed Tryz.func48 (by kernel_rfl) Tryz.ntmps48 (by kernel_rfl) (by kernel_rfl)

def ir49 : ACode := (sQ (.region [oO 6 (.alloc [(.int .i64 0),(.int .i64 0),nS,nS])]) (sQ (.region [oM 8 0,oO 9 (.build [nS,(.int .i64 0)] [(0,1,(tT 8))]),oO 10 (.box (tT 9)),oM 7 10]) (sQ (.region [oM 11 7,
 oM 12 1,oM 13 2,oO 14 (kC 76 [(tT 11),(kI 4),(tT 12),(tT 13)]),⟨none,.store 4 (tT 6) (tT 14),none⟩]) .ret)))
theorem ok49 : FnOk Tryz.prog 49 15 ir49 [.cell 6 true 4] := fnOk_of mixed Tryz.func49 (by kernel_rfl) Tryz.ntmps49 (by kernel_rfl) (by kernel_rfl)

def ir50 : ACode := (sQ (.region [oO 6 (.mov (.const (.pointer none))),oO 7 (.mov (kI 0))]) (sQ (sQ (.region [oM 9 0,oO 10 (.bin .eql .ptr (tT 9) (.const (.pointer none)))]) (.cond (tT 10) (sQ (.region [oO 6 (.mov (.const (.pointer none))),
 oO 7 (.mov (kI 1))]) .ret) .skip)) (sQ (.region [oM 11 0,oO 12 (.nilck (tT 11)),oO 13 (.faddr 1 (tT 12)),oO 14 (.load false 1 (tT 13)),oM 15 1,oM 16 2,oO 17 (.build [(.int .i64 0),(.int .i64 0)] [(0,1,
 (tT 15)),(1,1,(tT 16))]),oO 18 (kC 77 [(tT 14),(tT 17)]),oM 8 18]) (sQ (sQ (.region [oM 19 8,oO 20 (.bin .lss .num (tT 19) (kI 0))]) (.cond (tT 20) (sQ (.region [oO 6 (.mov (.const (.pointer none))),oO 7 (.mov (kI 4))]) .ret) .skip)) (sQ (.draw [⟨0,
 oM 21 0,0,1,false⟩,⟨1,oO 22 (.nilck (tT 21)),1,1,false⟩,⟨2,oO 23 (.faddr 0 (tT 22)),3,1,false⟩,⟨3,oO 24 (.load false 1 (tT 23)),7,1,false⟩,⟨4,oM 25 0,0,0,false⟩,⟨5,oO 26 (kC 44 [(tT 25)]),16,0,false⟩,⟨6,
 oM 27 8,0,0,false⟩,⟨7,oM 28 8,0,0,false⟩,⟨8,oO 29 (.bin .add .num (tT 28) (kI 1)),128,0,false⟩,⟨9,oO 30 (kC 78 [(tT 26),(tT 27),(tT 29)]),496,0,false⟩,⟨10,oO 31 (kC 66 [(tT 24),(tT 30)]),1023,1,false⟩,
 ⟨11,oO 32 (.extract (tT 31) 0),2047,1,false⟩,⟨12,oO 33 (.extract (tT 31) 1),2047,1,false⟩,⟨13,oM 6 32,8191,1,false⟩,⟨14,oM 7 33,16383,1,false⟩]) .ret)))))
theorem ok50 : FnOk Tryz.prog 50 34 ir50 [.tmp 6, .tmp 7] := fnOk_of mixed Tryz.func50 (by kernel_rfl) Tryz.ntmps50 (by kernel_rfl) (by kernel_rfl)

def ir51 : ACode := (sQ (.region [oO 6 (.mov kF)]) (sQ (.region [oM 7 0,oM 8 1,oO 9 (kC 79 [(tT 7),(tT 8)]),oM 10 2,oO 11 (kC 74 [(tT 9),(tT 10)]),oM 6 11]) .ret))
theorem ok51 : FnOk Tryz.prog 51 12 ir51 [.tmp 6] := fnOk_of mixed Tryz.func51 (by kernel_rfl) Tryz.ntmps51 (by kernel_rfl) (by kernel_rfl)

def ir52 : ACode := (sQ (.region [oO 1 (.box (tT 0)),oO 2 (.mov (.const .nilFunc))]) (sQ (.region [oO 3 (.mkfn 80 [(tT 1)]),oM 2 3]) .ret))
theorem ok52 : FnOk Tryz.prog 52 4 ir52 [.tmp 2] := fnOk_of mixed Tryz.func52 (by kernel_rfl) Tryz.ntmps52 (by kernel_rfl) (by kernel_rfl)

def ir53 : ACode := (sQ (.region [oO 2 (.box (tT 0)),oO 3 (.box (tT 1)),oO 4 (.mov (.const nS))]) (sQ (sQ (.region [oO 7 (.faddr 1 (tT 2)),oO 8 (.load false 1 (tT 7)),oO 9 (.bin .neq .num (tT 8) (.const (.int .u8 1))),
 oM 10 9,oF 10 11 (.load true 7 (tT 2)),oF 10 12 (kC 54 [(tT 11)]),oF 10 13 (.bin .neq .num (tT 12) (kI 0)),oO 14 (.pick (tT 10) kT (tT 13))]) (.cond (tT 14) (sQ (.region [oO 4 (.mov (.const nS))]) .ret) .skip)) (sQ (.region [oO 5 (.mov (.const nS))]) (sQ (sQ (.region [oO 6 (.mov (kI 1))]) (.block 0 (.loop (sQ (sQ (.region [oM 15 6,
 oO 16 (.load true 4 (tT 3)),oO 17 (kC 36 [(tT 16)]),oO 18 (.bin .leq .num (tT 15) (tT 17))]) (.cond (tT 18) .skip (.exit 0))) (sQ (.block 1 (sQ (.draw [⟨0,oO 21 (.faddr 3 (tT 2)),0,0,false⟩,⟨1,oO 22 (.load true 4 (tT 21)),
 1,0,false⟩,⟨2,oO 23 (.load true 4 (tT 3)),0,0,false⟩,⟨3,oM 24 6,0,0,false⟩,⟨4,oO 25 (kC 9 [(tT 23),(tT 24)]),12,0,false⟩,⟨5,oO 26 (kC 27 [(tT 22),(tT 25),(.const nS)]),31,1,false⟩,⟨6,oO 27 (.una .not (tT 26)),
 63,1,false⟩]) (.cond (tT 27) (.region [oM 28 5,oM 29 6,oO 30 (.bslice [(.int .i64 0)] 1 [(0,(tT 29))]),oO 31 (.append [(.int .i64 0)] 8 (tT 28) (tT 30)),oM 5 31]) .skip))) (.region [oM 19 6,oO 20 (.bin .add .num (tT 19) (kI 1)),
 oM 6 20])))))) (sQ (.region [oM 32 5,oM 4 32]) .ret)))))
theorem ok53 : FnOk Tryz.prog 53 33 ir53 [.tmp 4] := fnOk_of mixed Tryz.func53 (by kernel_rfl) Tryz.ntmps53 (by kernel_rfl) (by kernel_rfl)

def ir54 : ACode := (sQ (.region [oO 1 (.box (tT 0)),oO 2 (.mov (kI 0))]) (sQ (.block 0 (sQ (.region [oO 4 (.faddr 1 (tT 1)),oO 5 (.load false 1 (tT 4)),oO 6 (.bin .lss .num (tT 5) (.const (.int .u8 1))),
 oM 7 6,oF 7 8 (.faddr 1 (tT 1)),oF 7 9 (.load false 1 (tT 8)),oF 7 10 (.bin .gtr .num (tT 9) (.const (.int .u8 3))),oO 11 (.pick (tT 7) kT (tT 10)),oM 3 11]) (.cond (tT 3) (sQ (.region [oO 2 (.mov (kI 1))]) .ret) (sQ (.region [oO 13 (.faddr 2 (tT 1)),
 oO 14 (.load false 1 (tT 13)),oO 15 (kC 82 [(tT 14)]),oO 16 (.una .not (tT 15)),oM 12 16]) (.cond (tT 12) (sQ (.region [oO 2 (.mov (kI 9))]) .ret) .skip))))) (sQ (.region [oO 17 (.faddr 3 (tT 1)),oO 18 (.load true 4 (tT 17)),
 oO 19 (.faddr 1 (tT 1)),oO 20 (.load false 1 (tT 19)),oO 21 (kC 83 [(tT 18),(tT 20)]),oM 2 21]) .ret)))
theorem ok54 : FnOk Tryz.prog 54 22 ir54 [.tmp 2] := fnOk_of mixed Tryz.func54 (by kernel_rfl) Tryz.ntmps54 (by kernel_rfl) (by kernel_rfl)

def ir55 : ACode := (sQ (.region [oO 4 (.mov (.const nS))]) (sQ (.region [oM 8 0,oM 9 1,oO 10 (kC 84 [(tT 8),(tT 9)]),oM 5 10]) (sQ (sQ (.region [oM 11 5,oO 12 (.bin .eql .num (tT 11) (.const (.int .i64 (-1))))]) (.cond (tT 12) (sQ (.region [oM 13 0,
 oM 4 13]) .ret) .skip)) (sQ (sQ (.region [oM 14 5,oO 15 (.bin .add .num (tT 14) (kI 1)),oM 6 15]) (.block 0 (.loop (sQ (sQ (.region [oM 16 6,oM 17 0,oO 18 (.len (tT 17)),oO 19 (.bin .lss .num (tT 16) (tT 18))]) (.cond (tT 19) .skip (.exit 0))) (sQ (.block 1 (sQ (.region [oM 22 0,
 oM 23 6,oO 24 (.iaddr 2 (tT 22) (tT 23)),oO 25 (.load true 2 (tT 24)),oO 7 (.alloc [(.int .i64 0),(.int .i64 0)]),⟨none,.store 2 (tT 7) (tT 25),none⟩]) (sQ (.region [oM 26 1,oO 27 (.load true 2 (tT 7)),
 oO 28 (.call (tT 26) [(tT 27)]),oO 29 (.una .not (tT 28))]) (.cond (tT 29) (sQ (.region [oM 30 0,oM 31 5,oO 32 (.load true 2 (tT 7)),oO 33 (.iaddr 2 (tT 30) (tT 31)),⟨none,.store 2 (tT 33) (tT 32),none⟩]) (.region [oM 34 5,
 oO 35 (.bin .add .num (tT 34) (kI 1)),oM 5 35])) .skip)))) (.region [oM 20 6,oO 21 (.bin .add .num (tT 20) (kI 1)),oM 6 21])))))) (sQ (.region [oM 36 0,oM 37 5,oO 38 (.slc 2 (tT 36) (some (tT 37)) none none),
 ⟨none,.clear [(.int .i64 0),(.int .i64 0)] (tT 38),none⟩]) (sQ (.region [oM 39 0,oM 40 5,oO 41 (.slc 2 (tT 39) none (some (tT 40)) none),oM 4 41]) .ret))))))
theorem ok55 : FnOk Tryz.prog 55 42 ir55 [.tmp 4] := fnOk_of mixed Tryz.func55 (by kernel_rfl) Tryz.ntmps55 (by kernel_rfl) (by kernel_rfl)

def ir56 : ACode := (sQ (.region [oO 3 (.box (tT 0)),oO 4 (.mov kF)]) (sQ (.region [oO 5 (.load false 1 (tT 1)),oO 6 (.faddr 0 (tT 3)),oO 7 (.load false 1 (tT 6)),oO 8 (.iaddr 7 (tT 5) (tT 7)),oO 9 (.faddr 0 (tT 8)),
 oO 10 (.load false 1 (tT 9)),oO 11 (.una .not (tT 10)),oM 12 11,oF 12 13 (.load false 1 (tT 2)),oF 12 14 (.load true 2 (tT 3)),oF 12 15 (kC 57 [(tT 13),(tT 14)]),oO 16 (.pick (tT 12) kT (tT 15)),oM 4 16]) .ret))
theorem ok56 : FnOk Tryz.prog 56 17 ir56 [.tmp 4] := fnOk_of mixed Tryz.func56 (by kernel_rfl) Tryz.ntmps56 (by kernel_rfl) (by kernel_rfl)

def ir57 : ACode := (sQ (.region [oO 3 (.box (tT 1)),oO 4 (.mov kF)]) (sQ (.region [oM 5 0,oO 6 (.load true 2 (tT 3)),oO 7 (kC 85 [(tT 5),(tT 6)]),oO 8 (.bin .geq .num (tT 7) (kI 0)),oM 4 8]) .ret))
theorem ok57 : FnOk Tryz.prog 57 9 ir57 [.tmp 4] := fnOk_of mixed Tryz.func57 (by kernel_rfl) Tryz.ntmps57 (by kernel_rfl) (by kernel_rfl)

def ir58 : ACode := (sQ (.region [oO 2 (.alloc [(.int .u8 0),(.int .i64 0),nS,nS])]) (sQ (.region [oM 3 0,oO 4 (.build [(.int .u8 0),(.int .i64 0),nS,nS] [(0,1,(.const (.int .u8 1))),(1,1,(tT 3))]),⟨none,
 .store 4 (tT 2) (tT 4),none⟩]) .ret))
theorem ok58 : FnOk Tryz.prog 58 5 ir58 [.cell 2 true 4] := fnOk_of mixed Tryz.func58 (by kernel_rfl) Tryz.ntmps58 (by kernel_rfl) (by kernel_rfl)

def ir59 : ACode := (sQ (.region [oO 2 (.alloc [(.int .u8 0),(.int .i64 0),nS,nS])]) (sQ (.region [oM 3 0,oO 4 (.bslice [(.int .i64 0)] 1 [(0,(tT 3))]),oO 5 (.build [(.int .u8 0),(.int .i64 0),nS,nS] [(0,
 1,(.const (.int .u8 6))),(2,1,(tT 4))]),⟨none,.store 4 (tT 2) (tT 5),none⟩]) .ret))
theorem ok59 : FnOk Tryz.prog 59 6 ir59 [.cell 2 true 4] := fnOk_of mixed Tryz.func59 (by kernel_rfl) Tryz.ntmps59 (by kernel_rfl) (by kernel_rfl)

def ir60 : ACode := (sQ (.region [oO 2 (.alloc [(.int .u8 0),(.int .i64 0),nS,nS])]) (sQ (.region [oM 3 0,oO 4 (.bslice [(.int .i64 0)] 1 [(0,(tT 3))]),oO 5 (.build [(.int .u8 0),(.int .i64 0),nS,nS] [(0,
 1,(.const (.int .u8 4))),(2,1,(tT 4))]),⟨none,.store 4 (tT 2) (tT 5),none⟩]) .ret))
theorem ok60 : FnOk Tryz.prog 60 6 ir60 [.cell 2 true 4] := fnOk_of mixed Tryz.func60 (by kernel_rfl) Tryz.ntmps60 (by kernel_rfl) (by kernel_rfl)

def ir61 : ACode := (sQ (.region [oO 1 (.box (tT 0)),oO 2 (.mov (.const (.int .u8 0))),oO 3 (.mov (kI 0))]) (sQ (sQ (.region [oO 5 (.load true 4 (tT 1)),oO 6 (kC 86 [(tT 5),(.const (.int .u8 0))]),oM 4 6]) (sQ (.region [oM 7 4,
 oO 8 (.bin .neq .num (tT 7) (kI 0))]) (.cond (tT 8) (sQ (.region [oM 9 4,oO 2 (.mov (.const (.int .u8 0))),oM 3 9]) .ret) .skip))) (sQ (sQ (.region [oO 10 (.load true 4 (tT 1)),oO 11 (kC 87 [(tT 10)]),
 oO 12 (.una .not (tT 11))]) (.cond (tT 12) (sQ (.region [oO 2 (.mov (.const (.int .u8 0))),oO 3 (.mov (kI 10))]) .ret) .skip)) (sQ (.region [oO 13 (.faddr 0 (tT 1)),oO 14 (.load false 1 (tT 13)),oO 15 (kC 88 [(tT 14)]),
 oM 2 15,oO 3 (.mov (kI 0))]) .ret))))
theorem ok61 : FnOk Tryz.prog 61 16 ir61 [.tmp 2, .tmp 3] := fnOk_of mixed Tryz.func61 (by kernel_rfl) Tryz.ntmps61 (by kernel_rfl) (by kernel_rfl)

def ir62 : ACode := (sQ (.region [oO 2 (.box (tT 0)),oO 3 (.box (tT 1)),oO 4 (.mov (kI 0))]) (sQ (sQ (.region [oO 10 (.faddr 0 (tT 3)),oO 11 (.load false 1 (tT 10))]) (.block 0 (sQ (.region [oO 13 (.bin .eql .num (tT 11) (.const (.int .u8 1))),
 oM 12 13]) (.cond (tT 12) (sQ (.region [oO 14 (.faddr 1 (tT 3)),oO 15 (.load false 1 (tT 14)),oM 4 15]) .ret) (sQ (.region [oO 17 (.bin .eql .num (tT 11) (.const (.int .u8 2))),oM 16 17]) (.cond (tT 16) (sQ (.region [oO 4 (.mov (kI 1))]) .ret) (sQ (.region [oO 19 (.bin .eql .num (tT 11) (.const (.int .u8 3))),
 oM 18 19]) (.cond (tT 18) (sQ (.region [oO 4 (.mov (kI 0))]) .ret) (sQ (sQ (.region [oO 21 (.bin .eql .num (tT 11) (.const (.int .u8 4))),oM 20 21]) (.cond (tT 20) .skip (.region [oO 22 (.bin .eql .num (tT 11) (.const (.int .u8 5))),
 oM 20 22]))) (.cond (tT 20) (sQ (.region [oO 5 (.mov (kI 0))]) (sQ (sQ (.region [oO 23 (.faddr 2 (tT 3)),oO 24 (.load false 1 (tT 23)),oO 25 (.len (tT 24)),oO 26 (.mov (kI 0))]) (.block 1 (.loop (sQ (.region [oO 27 (.bin .lss .num (tT 26) (tT 25))]) (sQ (.cond (tT 27) .skip (.exit 1)) (sQ (.block 2 (sQ (.region [oO 28 (.iaddr 1 (tT 24) (tT 26)),
 oO 29 (.load false 1 (tT 28)),oM 7 29]) (.region [oM 30 5,oO 31 (.faddr 0 (tT 2)),oO 32 (.load true 1 (tT 31)),oM 33 7,oO 34 (kC 74 [(tT 32),(tT 33)]),oO 35 (kC 89 [(tT 34)]),oO 36 (.bin .add .num (tT 30) (tT 35)),
 oM 5 36]))) (.region [oO 37 (.bin .add .num (tT 26) (kI 1)),oM 26 37]))))))) (sQ (.region [oM 38 5,oM 4 38]) .ret))) (sQ (.region [oO 40 (.bin .eql .num (tT 11) (.const (.int .u8 6))),oM 39 40]) (.cond (tT 39) (sQ (.draw [⟨0,
 oO 41 (.load true 2 (tT 2)),0,0,false⟩,⟨1,oO 42 (.faddr 2 (tT 3)),0,0,false⟩,⟨2,oO 43 (.load false 1 (tT 42)),2,0,false⟩,⟨3,oO 44 (.iaddr 1 (tT 43) (kI 0)),6,0,false⟩,⟨4,oO 45 (.load false 1 (tT 44)),14,
 0,false⟩,⟨5,oO 46 (kC 90 [(tT 41),(tT 45)]),31,1,false⟩,⟨6,oM 4 46,63,1,false⟩]) .ret) (sQ (.region [oO 48 (.bin .eql .num (tT 11) (.const (.int .u8 7))),oM 47 48]) (.cond (tT 47) (sQ (.draw [⟨0,oO 49 (.load true 2 (tT 2)),
 0,0,false⟩,⟨1,oO 50 (.faddr 3 (tT 3)),0,0,false⟩,⟨2,oO 51 (.load false 1 (tT 50)),2,0,false⟩,⟨3,oO 52 (.iaddr 4 (tT 51) (kI 0)),6,0,false⟩,⟨4,oO 53 (.load true 4 (tT 52)),14,0,false⟩,⟨5,oO 54 (kC 62 [(tT 49),
 (tT 53)]),31,1,false⟩,⟨6,oO 55 (.bin .sub .num (kI 1) (tT 54)),63,1,false⟩,⟨7,oM 4 55,127,1,false⟩]) .ret) .skip)))))))))))))) (sQ (.draw [⟨0,oO 56 (.load true 2 (tT 2)),0,0,false⟩,⟨1,oO 57 (.faddr 3 (tT 3)),
 0,0,false⟩,⟨2,oO 58 (.load false 1 (tT 57)),2,0,false⟩,⟨3,oO 59 (.iaddr 4 (tT 58) (kI 0)),6,0,false⟩,⟨4,oO 60 (.load true 4 (tT 59)),14,0,false⟩,⟨5,oO 61 (kC 62 [(tT 56),(tT 60)]),31,0,false⟩,⟨6,oO 62 (.load true 2 (tT 2)),
 0,0,false⟩,⟨7,oO 63 (.faddr 3 (tT 3)),0,0,false⟩,⟨8,oO 64 (.load false 1 (tT 63)),128,0,false⟩,⟨9,oO 65 (.iaddr 4 (tT 64) (kI 1)),384,0,false⟩,⟨10,oO 66 (.load true 4 (tT 65)),896,0,false⟩,⟨11,oO 67 (kC 62 [(tT 62),
 (tT 66)]),2047,1,false⟩,⟨12,oM 8 61,4095,1,false⟩,⟨13,oM 9 67,8191,1,false⟩]) (sQ (sQ (.region [oO 68 (.faddr 0 (tT 3)),oO 69 (.load false 1 (tT 68))]) (.block 3 (sQ (.region [oO 71 (.bin .eql .num (tT 69) (.const (.int .u8 8))),
 oM 70 71]) (.cond (tT 70) (sQ (.region [oM 72 8,oM 73 9,oO 74 (.bin .mul .num (tT 72) (tT 73)),oM 4 74]) .ret) (sQ (.region [oO 76 (.bin .eql .num (tT 69) (.const (.int .u8 9))),oM 75 76]) (.cond (tT 75) (sQ (.region [oM 77 8,
 oM 78 9,oO 79 (.mx (tT 77) (tT 78)),oM 4 79]) .ret) (sQ (.region [oO 81 (.bin .eql .num (tT 69) (.const (.int .u8 10))),oM 80 81]) (.cond (tT 80) (sQ (.region [oM 82 8,oO 83 (.bin .sub .num (kI 1) (tT 82)),
 oM 84 9,oO 85 (.mx (tT 83) (tT 84)),oM 4 85]) .ret) (sQ (.region [oO 87 (.bin .eql .num (tT 69) (.const (.int .u8 11))),oM 86 87]) (.cond (tT 86) (sQ (.region [oM 88 8,oM 89 9,oO 90 (.bin .leq .num (tT 88) (tT 89)),
 oO 91 (kC 89 [(tT 90)]),oM 4 91]) .ret) (sQ (.region [oO 93 (.bin .eql .num (tT 69) (.const (.int .u8 12))),oM 92 93]) (.cond (tT 92) (sQ (.region [oM 94 8,oM 95 9,oO 96 (.bin .lss .num (tT 94) (tT 95)),
 oO 97 (kC 89 [(tT 96)]),oM 4 97]) .ret) (sQ (.region [oO 99 (.bin .eql .num (tT 69) (.const (.int .u8 13))),oM 98 99]) (.cond (tT 98) (sQ (.region [oM 100 8,oM 101 9,oO 102 (.bin .geq .num (tT 100) (tT 101)),
 oO 103 (kC 89 [(tT 102)]),oM 4 103]) .ret) (sQ (.region [oO 105 (.bin .eql .num (tT 69) (.const (.int .u8 14))),oM 104 105]) (.cond (tT 104) (sQ (.region [oM 106 8,oM 107 9,oO 108 (.bin .gtr .num (tT 106) (tT 107)),
 oO 109 (kC 89 [(tT 108)]),oM 4 109]) .ret) (sQ (.region [oO 111 (.bin .eql .num (tT 69) (.const (.int .u8 15))),oM 110 111]) (.cond (tT 110) (sQ (.region [oM 112 8,oM 113 9,oO 114 (.bin .eql .num (tT 112) (tT 113)),
 oO 115 (kC 89 [(tT 114)]),oM 4 115]) .ret) .skip)))))))))))))))))) (sQ (.region [oM 116 8,oM 117 9,oO 118 (.bin .add .num (tT 116) (tT 117)),oM 4 118]) .ret)))))
theorem ok62 : FnOk Tryz.prog 62 119 ir62 [.tmp 4] := fnOk_of mixed Tryz.func62 (by kernel_rfl) Tryz.ntmps62 (by kernel_rfl) (by kernel_rfl)

def ir63 : ACode := (sQ (.region [oO 2 (.alloc [nS])]) (sQ (.block 0 (.loop (sQ (sQ (.region [oM 3 0,oO 4 (.len (tT 3)),oO 5 (.bin .gtr .num (tT 4) (kI 0)),oM 6 5,oT 6 7 (.mov (tT 0)),oT 6 8 (.mov (tT 0)),
 oT 6 9 (.len (tT 8)),oT 6 10 (.bin .sub .num (tT 9) (kI 1)),oT 6 11 (.iaddr 1 (tT 7) (tT 10)),oT 6 12 (.load false 1 (tT 11)),oT 6 13 (.bin .eql .num (tT 12) (.const (.int .u64 0))),oO 14 (.pick (tT 6) (tT 13) kF)]) (.cond (tT 14) .skip (.exit 0))) (.block 1 (.region [oM 15 0,
 oM 16 0,oO 17 (.len (tT 16)),oO 18 (.bin .sub .num (tT 17) (kI 1)),oO 19 (.slc 1 (tT 15) none (some (tT 18)) none),oM 0 19]))))) (sQ (.region [oM 20 0,oO 21 (.build [nS] [(0,1,(tT 20))]),⟨none,.store 1 (tT 2) (tT 21),
 none⟩]) .ret)))
theorem ok63 : FnOk Tryz.prog 63 22 ir63 [.cell 2 true 1] := fnOk_of mixed Tryz.func63 (by kernel_rfl) Tryz.ntmps63 (by kernel_rfl) (by kernel_rfl)

def ir64 : ACode := (sQ (.region [oO 2 (.mov (.const nS))]) (sQ (.region [oO 3 (.mov (.const nS))]) (sQ (sQ (.region [oO 4 (.mov (kI 0))]) (.block 0 (.loop (sQ (sQ (.region [oM 9 4,oO 10 (.bin .lss .num (tT 9) (kI 6))]) (.cond (tT 10) .skip (.exit 0))) (sQ (.block 1 (.region [oM 13 3,
 oM 14 4,oM 15 0,oO 16 (.bin .shr .num (tT 15) (.const (.int .u64 16))),oO 17 (.bin .rem .num (tT 16) (.const (.int .u64 2))),oO 18 (.conv .i64 (tT 17)),oO 19 (.bin .mul .num (kI 4) (tT 18)),oO 20 (.bin .add .num (kI 1) (tT 19)),
 oO 21 (.bin .mul .num (tT 14) (tT 20)),oM 22 0,oO 23 (.bin .shr .num (tT 22) (.const (.int .u64 17))),oO 24 (.bin .rem .num (tT 23) (.const (.int .u64 6))),oO 25 (.conv .i64 (tT 24)),oO 26 (.bin .add .num (tT 21) (tT 25)),
 oO 27 (.bin .rem .num (tT 26) (kI 6)),oO 28 (.bin .add .num (kI 1) (tT 27)),oO 29 (.bslice [(.int .i64 0)] 1 [(0,(tT 28))]),oO 30 (.append [(.int .i64 0)] 8 (tT 13) (tT 29)),oM 3 30])) (.region [oM 11 4,
 oO 12 (.bin .add .num (tT 11) (kI 1)),oM 4 12])))))) (sQ (.region [oO 5 (.mov (.const nS))]) (sQ (.region [oO 6 (.mov (kI 0))]) (sQ (sQ (.region [oO 7 (.mov (kI 0))]) (.block 2 (.loop (sQ (sQ (.region [oM 31 7,
 oO 32 (.bin .lss .num (tT 31) (kI 6))]) (.cond (tT 32) .skip (.exit 2))) (sQ (.block 3 (sQ (.region [oM 35 7,oO 36 (.bin .add .num (tT 35) (kI 1)),oM 8 36]) (.block 4 (.loop (sQ (sQ (.region [oM 37 8,oO 38 (.bin .lss .num (tT 37) (kI 6))]) (.cond (tT 38) .skip (.exit 4))) (sQ (.block 5 (sQ (sQ (.region [oM 41 0,
 oM 42 6,oO 43 (.bin .shr .num (tT 41) (tT 42)),oO 44 (.bin .rem .num (tT 43) (.const (.int .u64 2))),oO 45 (.bin .eql .num (tT 44) (.const (.int .u64 1)))]) (.cond (tT 45) (.draw [⟨0,oM 47 5,0,0,false⟩,
 ⟨1,oM 48 3,0,0,false⟩,⟨2,oM 49 7,0,0,false⟩,⟨3,oO 50 (.iaddr 1 (tT 48) (tT 49)),6,0,false⟩,⟨4,oO 51 (.load false 1 (tT 50)),14,0,false⟩,⟨5,oM 52 3,0,0,false⟩,⟨6,oM 53 8,0,0,false⟩,⟨7,oO 54 (.iaddr 1 (tT 52) (tT 53)),
 96,0,false⟩,⟨8,oO 55 (.load false 1 (tT 54)),224,0,false⟩,⟨9,oO 56 (kC 91 [(tT 47),(tT 51),(tT 55)]),511,1,false⟩,⟨10,oM 46 56,1023,1,false⟩,⟨11,oO 57 (.extract (tT 46) 0),2047,1,false⟩,⟨12,oO 58 (.extract (tT 46) 1),
 2047,1,false⟩,⟨13,oM 5 57,4095,1,false⟩]) .skip)) (.region [oM 59 6,oO 60 (.bin .add .num (tT 59) (kI 1)),oM 6 60]))) (.region [oM 39 8,oO 40 (.bin .add .num (tT 39) (kI 1)),oM 8 40]))))))) (.region [oM 33 7,
 oO 34 (.bin .add .num (tT 33) (kI 1)),oM 7 34])))))) (sQ (.region [oM 61 5,oM 2 61]) .ret)))))))
theorem ok64 : FnOk Tryz.prog 64 62 ir64 [.tmp 2] := fnOk_of mixed Tryz.func64 (by kernel_rfl) Tryz.ntmps64 (by kernel_rfl) (by kernel_rfl)

def ir65 : ACode := (sQ (.region [oO 2 (.mov (.const nS))]) (sQ (.region [oO 3 (.mov (.const nS))]) (sQ (sQ (.region [oM 6 0,oO 7 (.len (tT 6)),oO 8 (.mov (kI 0))]) (.block 0 (.loop (sQ (.region [oO 9 (.bin .lss .num (tT 8) (tT 7))]) (sQ (.cond (tT 9) .skip (.exit 0)) (sQ (.block 1 (sQ (.region [oM 10 8,
 oO 11 (.iaddr 3 (tT 6) (tT 8)),oO 12 (.load true 3 (tT 11)),oO 5 (.alloc [(.int .u8 0),(.int .u8 0),(.int .u8 0)]),oM 4 10,⟨none,.store 3 (tT 5) (tT 12),none⟩]) (sQ (sQ (.region [oM 13 4,oO 14 (.bin .eql .num (tT 13) (kI 16))]) (.cond (tT 14) (.exit 0) .skip)) (.region [oM 16 3,
 oO 17 (.load true 3 (tT 5)),oO 18 (kC 7 [(tT 17)]),oO 19 (kC 92 [(tT 16),(tT 18)]),oM 15 19,oO 20 (.extract (tT 15) 0),oO 21 (.extract (tT 15) 1),oM 3 20])))) (.region [oO 22 (.bin .add .num (tT 8) (kI 1)),
 oM 8 22]))))))) (sQ (.region [oM 23 3,oM 2 23]) .ret))))
theorem ok65 : FnOk Tryz.prog 65 24 ir65 [.tmp 2] := fnOk_of mixed Tryz.func65 (by kernel_rfl) Tryz.ntmps65 (by kernel_rfl) (by kernel_rfl)

def ir66 : ACode := (sQ (.region [oO 4 (.mov (.const (.pointer none))),oO 5 (.mov (kI 0))]) (sQ (sQ (.region [oM 10 0,oO 11 (.bin .lss .num (tT 10) (kI 0)),oM 12 11,oF 12 13 (.mov (tT 0)),oF 12 14 (.bin .gtr .num (tT 13) (kI 256)),
 oO 15 (.pick (tT 12) kT (tT 14))]) (.cond (tT 15) (sQ (.region [oO 4 (.mov (.const (.pointer none))),oO 5 (.mov (kI 1))]) .ret) .skip)) (sQ (sQ (.region [oM 16 1,oO 17 (.len (tT 16)),oO 18 (.mov (kI 0))]) (.block 0 (.loop (sQ (.region [oO 19 (.bin .lss .num (tT 18) (tT 17))]) (sQ (.cond (tT 19) .skip (.exit 0)) (sQ (.block 1 (sQ (.region [oO 20 (.iaddr 2 (tT 16) (tT 18)),
 oO 21 (.load true 2 (tT 20)),oO 7 (.alloc [(.int .i64 0),(.int .i64 0)]),⟨none,.store 2 (tT 7) (tT 21),none⟩]) (sQ (.region [oO 22 (.iaddrA 2 1 (tT 7) (kI 0)),oO 23 (.load false 1 (tT 22)),oO 24 (.iaddrA 2 1 (tT 7) (kI 1)),
 oO 25 (.load false 1 (tT 24)),oO 26 (.mn (tT 23) (tT 25)),oO 27 (.bin .lss .num (tT 26) (kI 0)),oM 28 27,oF 28 29 (.iaddrA 2 1 (tT 7) (kI 0)),oF 28 30 (.load false 1 (tT 29)),oF 28 31 (.iaddrA 2 1 (tT 7) (kI 1)),
 oF 28 32 (.load false 1 (tT 31)),oF 28 33 (.mx (tT 30) (tT 32)),oF 28 34 (.mov (tT 0)),oF 28 35 (.bin .geq .num (tT 33) (tT 34)),oO 36 (.pick (tT 28) kT (tT 35))]) (.cond (tT 36) (sQ (.region [oO 4 (.mov (.const (.pointer none))),
 oO 5 (.mov (kI 2))]) .ret) .skip)))) (.region [oO 37 (.bin .add .num (tT 18) (kI 1)),oM 18 37]))))))) (sQ (.region [oO 38 (.bslice [(.int .i64 0),(.int .i64 0)] 0 []),oM 39 1,oO 40 (.append [(.int .i64 0),
 (.int .i64 0)] 16 (tT 38) (tT 39)),oM 8 40]) (sQ (.region [oM 41 8,oO 42 (kC 93 [(tT 41),(.func 94)])]) (sQ (.region [oM 43 0,oM 44 8,oO 45 (kC 96 [(tT 44)]),oO 46 (kC 95 [(tT 45)]),oO 47 (.build [(.int .i64 0),
 nS,nS,nS,nS] [(0,1,(tT 43)),(1,1,(tT 46))]),oO 48 (.box (tT 47)),oM 9 48]) (sQ (sQ (.region [oM 49 9,oO 50 (kC 97 [(tT 49)]),oO 51 (.una .not (tT 50))]) (.cond (tT 51) (sQ (.region [oO 4 (.mov (.const (.pointer none))),
 oO 5 (.mov (kI 16))]) .ret) .skip)) (sQ (.region [oM 52 9,oO 53 (kC 98 [(tT 52)])]) (sQ (.region [oM 54 9,oM 4 54,oO 5 (.mov (kI 0))]) .ret)))))))))
theorem ok66 : FnOk Tryz.prog 66 55 ir66 [.tmp 4, .tmp 5] := fnOk_of mixed Tryz.func66 (by kernel_rfl) Tryz.ntmps66 (by kernel_rfl) (by kernel_rfl)

def ir67 : ACode := (sQ (.region [oO 6 (.mov (.const (.pointer none))),oO 7 (.mov (kI 0))]) (sQ (sQ (.region [oM 8 0,oO 9 (.bin .eql .ptr (tT 8) (.const (.pointer none)))]) (.cond (tT 9) (sQ (.region [oO 6 (.mov (.const (.pointer none))),
 oO 7 (.mov (kI 1))]) .ret) .skip)) (sQ (sQ (.region [oM 10 0,oM 11 1,oO 12 (kC 73 [(tT 10),(tT 11)]),oO 13 (.una .not (tT 12)),oM 14 13,oF 14 15 (.mov (tT 0)),oF 14 16 (.mov (tT 2)),oF 14 17 (kC 73 [(tT 15),
 (tT 16)]),oF 14 18 (.una .not (tT 17)),oO 19 (.pick (tT 14) kT (tT 18))]) (.cond (tT 19) (sQ (.region [oO 6 (.mov (.const (.pointer none))),oO 7 (.mov (kI 2))]) .ret) .skip)) (sQ (sQ (.region [oM 20 0,
 oO 21 (.nilck (tT 20)),oO 22 (.faddr 1 (tT 21)),oO 23 (.load false 1 (tT 22)),oM 24 1,oM 25 2,oO 26 (.build [(.int .i64 0),(.int .i64 0)] [(0,1,(tT 24)),(1,1,(tT 25))]),oO 27 (kC 99 [(tT 23),(tT 26)])]) (.cond (tT 27) (sQ (.region [oO 6 (.mov (.const (.pointer none))),
 oO 7 (.mov (kI 5))]) .ret) .skip)) (sQ (.draw [⟨0,oM 28 0,0,0,false⟩,⟨1,oO 29 (.nilck (tT 28)),1,0,false⟩,⟨2,oO 30 (.faddr 0 (tT 29)),3,0,false⟩,⟨3,oO 31 (.load false 1 (tT 30)),7,0,false⟩,⟨4,oM 32 0,0,
 0,false⟩,⟨5,oO 33 (kC 44 [(tT 32)]),16,0,false⟩,⟨6,oM 34 1,0,0,false⟩,⟨7,oM 35 2,0,0,false⟩,⟨8,oO 36 (.build [(.int .i64 0),(.int .i64 0)] [(0,1,(tT 34)),(1,1,(tT 35))]),192,0,false⟩,⟨9,oO 37 (.bslice [(.int .i64 0),
 (.int .i64 0)] 1 [(0,(tT 36))]),448,0,false⟩,⟨10,oO 38 (.append [(.int .i64 0),(.int .i64 0)] 16 (tT 33) (tT 37)),1008,2016,false⟩,⟨11,oO 39 (kC 66 [(tT 31),(tT 38)]),2047,1,false⟩,⟨12,oO 40 (.extract (tT 39) 0),
 4095,1,false⟩,⟨13,oO 41 (.extract (tT 39) 1),4095,1,false⟩,⟨14,oM 6 40,16383,1,false⟩,⟨15,oM 7 41,32767,1,false⟩]) .ret)))))
theorem ok67 : FnOk Tryz.prog 67 42 ir67 [.tmp 6, .tmp 7] := fnOk_of mixed Tryz.func67 (by kernel_rfl) Tryz.ntmps67 (by kernel_rfl) (by kernel_rfl)

def ir68 : ACode := (sQ (.region [oO 4 (.box (tT 1)),oO 6 (.mov (kI 0)),oO 7 (.mov kF)]) (sQ (.region [oM 12 0,oO 13 (.len (tT 12)),oM 8 13]) (sQ (.region [oM 14 8,oO 9 (.mov (kI 0)),oM 10 14]) (sQ (.block 0 (.loop (sQ (sQ (.region [oM 15 9,
 oM 16 10,oO 17 (.bin .lss .num (tT 15) (tT 16))]) (.cond (tT 17) .skip (.exit 0))) (.block 1 (sQ (.region [oM 18 9,oM 19 10,oO 20 (.bin .add .num (tT 18) (tT 19)),oO 21 (.conv .u64 (tT 20)),oO 22 (.bin .shr .num (tT 21) (.const (.int .u64 1))),
 oO 23 (.conv .i64 (tT 22)),oM 11 23]) (sQ (.draw [⟨0,oM 24 2,0,0,false⟩,⟨1,oM 25 0,0,0,false⟩,⟨2,oM 26 11,0,0,false⟩,⟨3,oO 27 (.iaddr 3 (tT 25) (tT 26)),6,0,false⟩,⟨4,oO 28 (.load true 3 (tT 27)),14,0,
 false⟩,⟨5,oO 29 (.load true 3 (tT 4)),0,0,false⟩,⟨6,oO 30 (.call (tT 24) [(tT 28),(tT 29)]),63,1,false⟩,⟨7,oO 31 (.bin .lss .num (tT 30) (kI 0)),127,1,false⟩]) (.cond (tT 31) (.region [oM 32 11,oO 33 (.bin .add .num (tT 32) (kI 1)),
 oM 9 33]) (.region [oM 34 11,oM 10 34])))))))) (sQ (.draw [⟨0,oM 35 9,0,0,false⟩,⟨1,oM 36 9,0,1,false⟩,⟨2,oM 37 8,0,1,false⟩,⟨3,oO 38 (.bin .lss .num (tT 36) (tT 37)),6,1,false⟩,⟨4,oM 39 38,14,1,false⟩,
 ⟨5,oT 39 40 (.mov (tT 2)),30,0,false⟩,⟨6,oT 39 41 (.mov (tT 0)),30,0,false⟩,⟨7,oT 39 42 (.mov (tT 9)),30,0,false⟩,⟨8,oT 39 43 (.iaddr 3 (tT 41) (tT 42)),222,0,false⟩,⟨9,oT 39 44 (.load true 3 (tT 43)),
 478,0,false⟩,⟨10,oT 39 45 (.load true 3 (tT 4)),30,0,false⟩,⟨11,oT 39 46 (.call (tT 40) [(tT 44),(tT 45)]),2046,1,false⟩,⟨12,oT 39 47 (.bin .eql .num (tT 46) (kI 0)),4094,1,false⟩,⟨13,oO 48 (.pick (tT 39) (tT 47) kF),
 8190,1,false⟩,⟨14,oM 6 35,4095,1,false⟩,⟨15,oM 7 48,32767,1,false⟩]) .ret)))))
theorem ok68 : FnOk Tryz.prog 68 49 ir68 [.tmp 6, .tmp 7] := fnOk_of mixed Tryz.func68 (by kernel_rfl) Tryz.ntmps68 (by kernel_rfl) (by kernel_rfl)

def ir69 : ACode := (sQ (.region [oO 2 (.box (tT 0)),oO 3 (.box (tT 1)),oO 4 (.mov (kI 0))]) (sQ (sQ (.region [oO 5 (.faddr 0 (tT 2)),oO 6 (.load false 1 (tT 5)),oO 7 (.faddr 0 (tT 3)),oO 8 (.load false 1 (tT 7)),
 oO 9 (.bin .neq .num (tT 6) (tT 8))]) (.cond (tT 9) (sQ (.region [oO 10 (.faddr 0 (tT 2)),oO 11 (.load false 1 (tT 10)),oO 12 (.faddr 0 (tT 3)),oO 13 (.load false 1 (tT 12)),oO 14 (.bin .sub .num (tT 11) (tT 13)),
 oM 4 14]) .ret) .skip)) (sQ (.region [oO 15 (.faddr 1 (tT 2)),oO 16 (.load false 1 (tT 15)),oO 17 (.faddr 1 (tT 3)),oO 18 (.load false 1 (tT 17)),oO 19 (.bin .sub .num (tT 16) (tT 18)),oM 4 19]) .ret)))
theorem ok69 : FnOk Tryz.prog 69 20 ir69 [.tmp 4] := fnOk_of mixed Tryz.func69 (by kernel_rfl) Tryz.ntmps69 (by kernel_rfl) (by kernel_rfl)

def ir72 : ACode := (sQ (.region [oO 2 (.box (tT 0)),oO 4 (.mov kF)]) (sQ (.region [oM 5 1,oO 6 (.bin .geq .num (tT 5) (kI 0)),oM 7 6,oT 7 8 (.mov (tT 1)),oT 7 9 (.bin .leq .num (tT 8) (kI 30000)),oO 10 (.pick (tT 7) (tT 9) kF),
 oM 11 10,oT 11 12 (.mov (tT 1)),oT 11 13 (.faddr 2 (tT 2)),oT 11 14 (.load false 1 (tT 13)),oT 11 15 (.bin .leq .num (tT 12) (tT 14)),oO 16 (.pick (tT 11) (tT 15) kF),oM 4 16]) .ret))
theorem ok72 : FnOk Tryz.prog 72 17 ir72 [.tmp 4] := fnOk_of mixed Tryz.func72 (by kernel_rfl) Tryz.ntmps72 (by kernel_rfl) (by kernel_rfl)

def ir73 : ACode := (sQ (.region [oO 4 (.mov kF)]) (sQ (.region [oM 5 0,oO 6 (.bin .neq .ptr (tT 5) (.const (.pointer none))),oM 7 6,oT 7 8 (.mov (tT 1)),oT 7 9 (.bin .geq .num (tT 8) (kI 0)),oO 10 (.pick (tT 7) (tT 9) kF),
 oM 11 10,oT 11 12 (.mov (tT 1)),oT 11 13 (.mov (tT 0)),oT 11 14 (.nilck (tT 13)),oT 11 15 (.faddr 0 (tT 14)),oT 11 16 (.load false 1 (tT 15)),oT 11 17 (.bin .lss .num (tT 12) (tT 16)),oO 18 (.pick (tT 11) (tT 17) kF),
 oM 4 18]) .ret))
theorem ok73 : FnOk Tryz.prog 73 19 ir73 [.tmp 4] := fnOk_of mixed Tryz.func73 (by kernel_rfl) Tryz.ntmps73 (by kernel_rfl) (by kernel_rfl)

def ir74 : ACode := (sQ (.region [oO 2 (.box (tT 0)),oO 4 (.mov kF)]) (sQ (.region [oM 5 1,oO 6 (.bin .geq .num (tT 5) (kI 0)),oM 7 6,oT 7 8 (.mov (tT 1)),oT 7 9 (.bin .leq .num (tT 8) (kI 4095)),oO 10 (.pick (tT 7) (tT 9) kF),
 oM 11 10,oT 11 12 (.load true 1 (tT 2)),oT 11 13 (.mov (tT 1)),oT 11 14 (.bin .quo .num (tT 13) (kI 64)),oT 11 15 (kC 39 [(tT 12),(tT 14)]),oT 11 16 (.mov (tT 1)),oT 11 17 (.bin .rem .num (tT 16) (kI 64)),
 oT 11 18 (.bin .shr .num (tT 15) (tT 17)),oT 11 19 (.bin .and .num (tT 18) (.const (.int .u64 1))),oT 11 20 (.bin .eql .num (tT 19) (.const (.int .u64 1))),oO 21 (.pick (tT 11) (tT 20) kF),oM 4 21]) .ret))
theorem ok74 : FnOk Tryz.prog 74 22 ir74 [.tmp 4] := fnOk_of mixed Tryz.func74 (by kernel_rfl) Tryz.ntmps74 (by kernel_rfl) (by kernel_rfl)

def ir75 : ACode := (sQ (.region [oO 2 (.mov (.const nS))]) (sQ (sQ (.region [oM 3 0,oO 4 (.isnil false (tT 3))]) (.cond (tT 4) (sQ (.region [oO 2 (.mov (.const nS))]) .ret) .skip)) (sQ (.region [oO 5 (.bslice [(.int .i64 0),
 (.int .i64 0)] 0 []),oM 6 0,oO 7 (.append [(.int .i64 0),(.int .i64 0)] 16 (tT 5) (tT 6)),oM 2 7]) .ret)))
theorem ok75 : FnOk Tryz.prog 75 8 ir75 [.tmp 2] := fnOk_of mixed Tryz.func75 (by kernel_rfl) Tryz.ntmps75 (by kernel_rfl) (by kernel_rfl)

def ir76 : ACode := (sQ (.region [oO 8 (.alloc [(.int .i64 0),(.int .i64 0),nS,nS])]) (sQ (.region [oM 12 0,oO 13 (kC 101 [(tT 12)]),oM 9 13]) (sQ (sQ (.region [oM 14 1,oO 15 (.bin .leq .num (tT 14) (kI 1)),
 oM 16 15,oF 16 17 (.mov (tT 9)),oF 16 18 (.bin .rem .num (tT 17) (kI 8)),oF 16 19 (.bin .leq .num (tT 18) (kI 1)),oO 20 (.pick (tT 16) kT (tT 19))]) (.cond (tT 20) (sQ (.block 0 (sQ (.region [oM 22 2,oO 23 (.bin .eql .num (tT 22) (kI 3)),
 oM 24 23,oT 24 25 (.mov (tT 1)),oT 24 26 (.bin .gtr .num (tT 25) (kI 1)),oO 27 (.pick (tT 24) (tT 26) kF),oM 21 27]) (.cond (tT 21) (sQ (.region [oM 28 0,oM 29 9,oO 30 (.bin .quo .num (tT 29) (kI 8)),oM 31 1,
 oM 32 2,oM 33 3,oO 34 (kC 102 [(tT 28),(tT 30),(tT 31),(tT 32),(tT 33)]),⟨none,.store 4 (tT 8) (tT 34),none⟩]) .ret) (sQ (.region [oM 36 2,oO 37 (.bin .eql .num (tT 36) (kI 3)),oM 38 37,oF 38 39 (.mov (tT 9)),
 oF 38 40 (.bin .rem .num (tT 39) (kI 16)),oF 38 41 (.bin .eql .num (tT 40) (kI 9)),oO 42 (.pick (tT 38) kT (tT 41)),oM 35 42]) (.cond (tT 35) (sQ (.region [oM 43 9,oO 44 (.bin .quo .num (tT 43) (kI 16)),
 oO 45 (.bin .rem .num (tT 44) (kI 2)),oO 46 (.bin .add .num (kI 2) (tT 45)),oO 47 (.build [(.int .i64 0),(.int .i64 0),nS,nS] [(0,1,(tT 46))]),⟨none,.store 4 (tT 8) (tT 47),none⟩]) .ret) .skip))))) (sQ (.region [oM 48 9,
 oO 49 (.bin .quo .num (tT 48) (kI 8)),oM 50 3,oO 51 (.bin .rem .num (tT 49) (tT 50)),oO 52 (.bin .add .num (kI 1) (tT 51)),oO 53 (.bslice [(.int .i64 0)] 1 [(0,(tT 52))]),oO 54 (.build [(.int .i64 0),(.int .i64 0),
 nS,nS] [(0,1,(kI 4)),(2,1,(tT 53))]),⟨none,.store 4 (tT 8) (tT 54),none⟩]) .ret)) .skip)) (sQ (sQ (.region [oM 55 9,oO 56 (.bin .rem .num (tT 55) (kI 8)),oO 57 (.bin .geq .num (tT 56) (kI 6))]) (.cond (tT 57) (sQ (.region [oM 58 0,
 oM 59 9,oO 60 (.bin .quo .num (tT 59) (kI 8)),oM 61 1,oM 62 2,oM 63 3,oO 64 (kC 102 [(tT 58),(tT 60),(tT 61),(tT 62),(tT 63)]),⟨none,.store 4 (tT 8) (tT 64),none⟩]) .ret) .skip)) (sQ (.region [oM 65 0,
 oM 66 1,oO 67 (.bin .sub .num (tT 66) (kI 1)),oM 68 2,oM 69 3,oO 70 (kC 76 [(tT 65),(tT 67),(tT 68),(tT 69)]),oO 10 (.alloc [(.int .i64 0),(.int .i64 0),nS,nS]),⟨none,.store 4 (tT 10) (tT 70),none⟩]) (sQ (sQ (.region [oM 71 9,
 oO 72 (.bin .rem .num (tT 71) (kI 8)),oO 73 (.bin .eql .num (tT 72) (kI 2))]) (.cond (tT 73) (sQ (.region [oO 74 (.load true 4 (tT 10)),oO 75 (.bslice [(.int .i64 0),(.int .i64 0),nS,nS] 1 [(0,(tT 74))]),
 oO 76 (.build [(.int .i64 0),(.int .i64 0),nS,nS] [(0,1,(kI 7)),(3,1,(tT 75))]),⟨none,.store 4 (tT 8) (tT 76),none⟩]) .ret) .skip)) (sQ (.region [oM 77 0,oM 78 1,oO 79 (.bin .sub .num (tT 78) (kI 1)),oM 80 2,
 oM 81 3,oO 82 (kC 76 [(tT 77),(tT 79),(tT 80),(tT 81)]),oO 11 (.alloc [(.int .i64 0),(.int .i64 0),nS,nS]),⟨none,.store 4 (tT 11) (tT 82),none⟩]) (sQ (.region [oM 83 9,oO 84 (.bin .rem .num (tT 83) (kI 8)),
 oO 85 (.bin .add .num (kI 8) (tT 84)),oO 86 (.bin .sub .num (tT 85) (kI 3)),oO 87 (.load true 4 (tT 10)),oO 88 (.load true 4 (tT 11)),oO 89 (.bslice [(.int .i64 0),(.int .i64 0),nS,nS] 2 [(0,(tT 87)),(1,
 (tT 88))]),oO 90 (.build [(.int .i64 0),(.int .i64 0),nS,nS] [(0,1,(tT 86)),(3,1,(tT 89))]),⟨none,.store 4 (tT 8) (tT 90),none⟩]) .ret))))))))
theorem ok76 : FnOk Tryz.prog 76 91 ir76 [.cell 8 true 4] := fnOk_of mixed Tryz.func76 (by kernel_rfl) Tryz.ntmps76 (by kernel_rfl) (by kernel_rfl)

def ir77 : ACode := (sQ (.region [oO 3 (.box (tT 1)),oO 4 (.mov (kI 0))]) (sQ (sQ (.region [oM 6 0,oO 7 (.len (tT 6)),oO 8 (.mov (kI 0))]) (.block 0 (.loop (sQ (.region [oO 9 (.bin .lss .num (tT 8) (tT 7))]) (sQ (.cond (tT 9) .skip (.exit 0)) (sQ (.block 1 (sQ (.region [oM 10 8,
 oM 5 10]) (sQ (.draw [⟨0,oO 11 (.load true 2 (tT 3)),0,0,false⟩,⟨1,oM 12 0,0,0,false⟩,⟨2,oM 13 5,0,0,false⟩,⟨3,oO 14 (.iaddr 2 (tT 12) (tT 13)),6,0,false⟩,⟨4,oO 15 (.load true 2 (tT 14)),14,0,false⟩,⟨5,
 oO 16 (.bin .eql (.cells [0,0]) (tT 11) (tT 15)),31,1,false⟩]) (.cond (tT 16) (sQ (.region [oM 17 5,oM 4 17]) .ret) .skip)))) (.region [oO 18 (.bin .add .num (tT 8) (kI 1)),oM 8 18]))))))) (sQ (.region [oO 4 (.mov (.const (.int .i64 (-1))))]) .ret)))
theorem ok77 : FnOk Tryz.prog 77 19 ir77 [.tmp 4] := fnOk_of mixed Tryz.func77 (by kernel_rfl) Tryz.ntmps77 (by kernel_rfl) (by kernel_rfl)

def ir78 : ACode := (sQ (.region [oO 6 (.mov (.const nS))]) (sQ (.region [oM 8 0,oM 9 1,oM 10 2,oM 11 0,oO 12 (.len (tT 11)),oO 13 (.slc 2 (tT 8) (some (tT 9)) (some (tT 10)) (some (tT 12)))]) (sQ (sQ (.region [oM 14 1,
 oM 15 2,oO 16 (.bin .eql .num (tT 14) (tT 15))]) (.cond (tT 16) (sQ (.region [oM 17 0,oM 6 17]) .ret) .skip)) (sQ (.region [oM 18 0,oO 19 (.len (tT 18)),oM 7 19]) (sQ (.draw [⟨0,oM 20 0,0,0,false⟩,⟨1,oM 21 1,
 0,0,false⟩,⟨2,oO 22 (.slc 2 (tT 20) none (some (tT 21)) none),3,0,false⟩,⟨3,oM 23 0,0,0,false⟩,⟨4,oM 24 2,0,0,false⟩,⟨5,oO 25 (.slc 2 (tT 23) (some (tT 24)) none none),24,0,false⟩,⟨6,oO 26 (.append [(.int .i64 0),
 (.int .i64 0)] 16 (tT 22) (tT 25)),63,1,false⟩,⟨7,oM 0 26,127,1,false⟩]) (sQ (.region [oM 27 0,oM 28 0,oO 29 (.len (tT 28)),oM 30 7,oO 31 (.slc 2 (tT 27) (some (tT 29)) (some (tT 30)) none),⟨none,.clear [(.int .i64 0),
 (.int .i64 0)] (tT 31),none⟩]) (sQ (.region [oM 32 0,oM 6 32]) .ret)))))))
theorem ok78 : FnOk Tryz.prog 78 33 ir78 [.tmp 6] := fnOk_of mixed Tryz.func78 (by kernel_rfl) Tryz.ntmps78 (by kernel_rfl) (by kernel_rfl)

def ir79 : ACode := (sQ (.region [oO 4 (.alloc [nS])]) (sQ (sQ (.region [oM 5 0,oM 6 1,oO 7 (kC 73 [(tT 5),(tT 6)]),oO 8 (.una .not (tT 7))]) (.cond (tT 8) (sQ (.region [oO 9 (.build [nS] []),⟨none,.store 1 (tT 4) (tT 9),
 none⟩]) .ret) .skip)) (sQ (.region [oM 10 0,oO 11 (.nilck (tT 10)),oO 12 (.faddr 2 (tT 11)),oO 13 (.load false 1 (tT 12)),oM 14 1,oO 15 (.iaddr 1 (tT 13) (tT 14)),oO 16 (.load true 1 (tT 15)),⟨none,.store 1 (tT 4) (tT 16),
 none⟩]) .ret)))
theorem ok79 : FnOk Tryz.prog 79 17 ir79 [.cell 4 true 1] := fnOk_of mixed Tryz.func79 (by kernel_rfl) Tryz.ntmps79 (by kernel_rfl) (by kernel_rfl)

def ir80 : ACode := (sQ (.region [oO 5 (.faddr 0 (tT 1)),oO 6 (.load false 1 (tT 5)),oO 7 (.len (tT 6)),oO 8 (.mov (kI 0))]) (.block 0 (.loop (sQ (.region [oO 9 (.bin .lss .num (tT 8) (tT 7))]) (sQ (.cond (tT 9) .skip (.exit 0)) (sQ (.block 1 (sQ (.region [oM 10 8,
 oO 11 (.iaddr 1 (tT 6) (tT 8)),oO 12 (.load false 1 (tT 11)),oM 3 10,oM 4 12]) (.block 2 (.loop (sQ (sQ (.region [oM 13 4,oO 14 (.bin .neq .num (tT 13) (.const (.int .u64 0)))]) (.cond (tT 14) .skip (.exit 2))) (sQ (.block 3 (sQ (.region [oM 19 0,
 oM 20 3,oO 21 (.bin .mul .num (kI 64) (tT 20)),oM 22 4,oO 23 (kC 81 [(tT 22)]),oO 24 (.bin .add .num (tT 21) (tT 23)),oO 25 (.call (tT 19) [(tT 24)]),oO 26 (.una .not (tT 25))]) (.cond (tT 26) .ret .skip))) (.region [oM 15 4,
 oM 16 4,oO 17 (.bin .sub .num (tT 16) (.const (.int .u64 1))),oO 18 (.bin .and .num (tT 15) (tT 17)),oM 4 18]))))))) (.region [oO 27 (.bin .add .num (tT 8) (kI 1)),oM 8 27])))))))
theorem ok80 : FnOk Tryz.prog 80 28 ir80 [] := fnOk_of mixed Tryz.func80 (by kernel_rfl) Tryz.ntmps80 (by kernel_rfl) (by kernel_rfl)

def ir81 : ACode := (sQ (.region [oO 2 (.mov (kI 0))]) (sQ (sQ (.region [oM 3 0,oO 4 (.bin .eql .num (tT 3) (.const (.int .u64 0)))]) (.cond (tT 4) (sQ (.region [oO 2 (.mov (kI 64))]) .ret) .skip)) (sQ (.region [oM 5 0,
 oM 6 0,oO 7 (.una .neg (tT 6)),oO 8 (.bin .and .num (tT 5) (tT 7)),oO 9 (.bin .mul .num (tT 8) (.const (.int .u64 285870213051353865))),oO 10 (.bin .shr .num (tT 9) (.const (.int .u64 58))),oO 11 (.iaddrA 64 1 (.global 0) (tT 10)),
 oO 12 (.load false 1 (tT 11)),oO 13 (.conv .i64 (tT 12)),oM 2 13]) .ret)))
theorem ok81 : FnOk Tryz.prog 81 14 ir81 [.tmp 2] := fnOk_of mixed Tryz.func81 (by kernel_rfl) Tryz.ntmps81 (by kernel_rfl) (by kernel_rfl)

def ir82 : ACode := (sQ (.region [oO 2 (.mov kF)]) (sQ (sQ (.region [oM 6 0,oO 7 (.lenS (tT 6)),oO 8 (.bin .eql .num (tT 7) (kI 0)),oM 9 8,oF 9 10 (.mov (tT 0)),oF 9 11 (.lenS (tT 10)),oF 9 12 (.bin .gtr .num (tT 11) (kI 12)),
 oO 13 (.pick (tT 9) kT (tT 12)),oM 14 13,oF 14 15 (kC 104 []),oF 14 16 (.mov (tT 0)),oF 14 17 (kC 103 [(tT 15),(tT 16)]),oO 18 (.pick (tT 14) kT (tT 17))]) (.cond (tT 18) (sQ (.region [oO 2 (.mov kF)]) .ret) .skip)) (sQ (.region [oO 3 (.alloc [.nilFunc]),
 ⟨none,.store 1 (tT 3) (.func 105),none⟩]) (sQ (.region [oO 19 (.mkfn 106 [(tT 3)]),oM 4 19]) (sQ (sQ (.region [oM 20 0,oO 21 (.lenS (tT 20)),oO 22 (.mov (kI 0))]) (.block 0 (.loop (sQ (.region [oO 23 (.bin .lss .num (tT 22) (tT 21))]) (sQ (.cond (tT 23) .skip (.exit 0)) (sQ (.block 1 (sQ (.region [oM 24 22,
 oM 5 24]) (sQ (.draw [⟨0,oM 25 4,0,1,false⟩,⟨1,oM 26 0,0,1,false⟩,⟨2,oM 27 5,0,1,false⟩,⟨3,oO 28 (.indexS (tT 26) (tT 27)),6,1,false⟩,⟨4,oO 29 (.call (tT 25) [(tT 28)]),15,1,false⟩,⟨5,oO 30 (.una .not (tT 29)),
 31,1,false⟩,⟨6,oM 31 30,63,1,false⟩,⟨7,oF 31 32 (.mov (tT 5)),127,1,false⟩,⟨8,oF 31 33 (.bin .eql .num (tT 32) (kI 0)),255,1,false⟩,⟨9,oF 31 34 (.mov (tT 33)),511,1,false⟩,⟨10,oT 34 35 (.load false 1 (tT 3)),
 1023,1,false⟩,⟨11,oT 34 36 (.mov (tT 0)),1023,0,false⟩,⟨12,oT 34 37 (.mov (tT 5)),1023,0,false⟩,⟨13,oT 34 38 (.indexS (tT 36) (tT 37)),7167,0,false⟩,⟨14,oT 34 39 (.call (tT 35) [(tT 38)]),16383,1,false⟩,
 ⟨15,oT 34 40 (.una .not (tT 39)),32767,1,false⟩,⟨16,oF 31 41 (.pick (tT 34) (tT 40) kF),65535,1,false⟩,⟨17,oO 42 (.pick (tT 31) kT (tT 41)),131071,1,false⟩]) (.cond (tT 42) (sQ (.region [oO 2 (.mov kF)]) .ret) .skip)))) (.region [oO 43 (.bin .add .num (tT 22) (kI 1)),
 oM 22 43]))))))) (sQ (.region [oO 2 (.mov kT)]) .ret))))))
theorem ok82 : FnOk Tryz.prog 82 44 ir82 [.tmp 2] := fnOk_of mixed Tryz.func82 (by kernel_rfl) Tryz.ntmps82 (by kernel_rfl) (by kernel_rfl)

def ir83 : ACode := (sQ (.region [oO 2 (.box (tT 0)),oO 4 (.mov (kI 0))]) (sQ (sQ (.region [oM 6 1,oO 7 (.bin .lss .num (tT 6) (.const (.int .u8 1))),oM 8 7,oF 8 9 (.mov (tT 1)),oF 8 10 (.bin .gtr .num (tT 9) (.const (.int .u8 3))),
 oO 11 (.pick (tT 8) kT (tT 10))]) (.cond (tT 11) (sQ (.region [oO 4 (.mov (kI 1))]) .ret) .skip)) (sQ (sQ (.region [oO 12 (.load true 4 (tT 2)),oM 13 1,oO 14 (kC 86 [(tT 12),(tT 13)]),oM 5 14]) (sQ (.region [oM 15 5,
 oO 16 (.bin .neq .num (tT 15) (kI 0))]) (.cond (tT 16) (sQ (.region [oM 17 5,oM 4 17]) .ret) .skip))) (sQ (sQ (.region [oO 18 (.load true 4 (tT 2)),oO 19 (kC 87 [(tT 18)]),oO 20 (.una .not (tT 19)),oM 21 20,
 oF 21 22 (.faddr 0 (tT 2)),oF 21 23 (.load false 1 (tT 22)),oF 21 24 (kC 88 [(tT 23)]),oF 21 25 (.bin .neq .num (tT 24) (.const (.int .u8 1))),oO 26 (.pick (tT 21) kT (tT 25))]) (.cond (tT 26) (sQ (.region [oO 4 (.mov (kI 10))]) .ret) .skip)) (sQ (sQ (.region [oM 27 1,
 oO 28 (.bin .neq .num (tT 27) (.const (.int .u8 3))),oM 29 28,oT 29 30 (.load true 4 (tT 2)),oT 29 31 (kC 107 [(tT 30)]),oT 29 32 (kC 108 [(tT 31)]),oT 29 33 (.bin .gtr .num (tT 32) (kI 8)),oO 34 (.pick (tT 29) (tT 33) kF)]) (.cond (tT 34) (sQ (.region [oO 4 (.mov (kI 3))]) .ret) .skip)) (sQ (.region [oO 4 (.mov (kI 0))]) .ret))))))
theorem ok83 : FnOk Tryz.prog 83 35 ir83 [.tmp 4] := fnOk_of mixed Tryz.func83 (by kernel_rfl) Tryz.ntmps83 (by kernel_rfl) (by kernel_rfl)

def ir84 : ACode := (sQ (.region [oO 4 (.mov (kI 0))]) (sQ (sQ (.region [oM 6 0,oO 7 (.len (tT 6)),oO 8 (.mov (kI 0))]) (.block 0 (.loop (sQ (.region [oO 9 (.bin .lss .num (tT 8) (tT 7))]) (sQ (.cond (tT 9) .skip (.exit 0)) (sQ (.block 1 (sQ (.region [oM 10 8,
 oM 5 10]) (sQ (.region [oM 11 1,oM 12 0,oM 13 5,oO 14 (.iaddr 2 (tT 12) (tT 13)),oO 15 (.load true 2 (tT 14)),oO 16 (.call (tT 11) [(tT 15)])]) (.cond (tT 16) (sQ (.region [oM 17 5,oM 4 17]) .ret) .skip)))) (.region [oO 18 (.bin .add .num (tT 8) (kI 1)),
 oM 8 18]))))))) (sQ (.region [oO 4 (.mov (.const (.int .i64 (-1))))]) .ret)))
theorem ok84 : FnOk Tryz.prog 84 19 ir84 [.tmp 4] := fnOk_of mixed Tryz.func84 (by kernel_rfl) Tryz.ntmps84 (by kernel_rfl) (by kernel_rfl)

def ir85 : ACode := (sQ (.region [oO 3 (.box (tT 1)),oO 4 (.mov (kI 0))]) (sQ (sQ (.region [oM 6 0,oO 7 (.len (tT 6)),oO 8 (.mov (kI 0))]) (.block 0 (.loop (sQ (.region [oO 9 (.bin .lss .num (tT 8) (tT 7))]) (sQ (.cond (tT 9) .skip (.exit 0)) (sQ (.block 1 (sQ (.region [oM 10 8,
 oM 5 10]) (sQ (.draw [⟨0,oO 11 (.load true 2 (tT 3)),0,0,false⟩,⟨1,oM 12 0,0,0,false⟩,⟨2,oM 13 5,0,0,false⟩,⟨3,oO 14 (.iaddr 2 (tT 12) (tT 13)),6,0,false⟩,⟨4,oO 15 (.load true 2 (tT 14)),14,0,false⟩,⟨5,
 oO 16 (.bin .eql (.cells [0,0]) (tT 11) (tT 15)),31,1,false⟩]) (.cond (tT 16) (sQ (.region [oM 17 5,oM 4 17]) .ret) .skip)))) (.region [oO 18 (.bin .add .num (tT 8) (kI 1)),oM 8 18]))))))) (sQ (.region [oO 4 (.mov (.const (.int .i64 (-1))))]) .ret)))
theorem ok85 : FnOk Tryz.prog 85 19 ir85 [.tmp 4] := fnOk_of mixed Tryz.func85 (by kernel_rfl) Tryz.ntmps85 (by kernel_rfl) (by kernel_rfl)

def ir86 : ACode := (sQ (.region [oO 2 (.box (tT 0)),oO 4 (.mov (kI 0))]) (sQ (.region [oO 8 (.load true 4 (tT 2)),oO 9 (kC 109 [(tT 8)]),oM 7 9,oO 10 (.extract (tT 7) 0),oO 11 (.extract (tT 7) 1),oM 5 10,
 oM 6 11]) (sQ (sQ (.region [oM 12 5,oO 13 (.bin .gtr .num (tT 12) (kI 10)),oM 14 13,oF 14 15 (.mov (tT 6)),oF 14 16 (.bin .gtr .num (tT 15) (kI 200)),oO 17 (.pick (tT 14) kT (tT 16))]) (.cond (tT 17) (sQ (.region [oO 4 (.mov (kI 3))]) .ret) .skip)) (sQ (.region [oO 18 (.load true 4 (tT 2)),
 oM 19 1,oO 20 (kC 110 [(tT 18),(tT 19)]),oM 4 20]) .ret))))
theorem ok86 : FnOk Tryz.prog 86 21 ir86 [.tmp 4] := fnOk_of mixed Tryz.func86 (by kernel_rfl) Tryz.ntmps86 (by kernel_rfl) (by kernel_rfl)

def ir87 : ACode := (sQ (.region [oO 1 (.box (tT 0)),oO 2 (.mov kF)]) (sQ (.region [oO 3 (.mov (.const (.int .u8 1)))]) (sQ (sQ (.region [oO 6 (.faddr 0 (tT 1)),oO 7 (.load false 1 (tT 6)),oO 8 (.bin .geq .num (tT 7) (.const (.int .u8 11)))]) (.cond (tT 8) (.region [oO 3 (.mov (.const (.int .u8 2)))]) .skip)) (sQ (sQ (.region [oO 9 (.faddr 3 (tT 1)),
 oO 10 (.load false 1 (tT 9)),oO 11 (.len (tT 10)),oO 12 (.mov (kI 0))]) (.block 0 (.loop (sQ (.region [oO 13 (.bin .lss .num (tT 12) (tT 11))]) (sQ (.cond (tT 13) .skip (.exit 0)) (sQ (.block 1 (sQ (.region [oO 14 (.iaddr 4 (tT 10) (tT 12)),
 oO 15 (.load true 4 (tT 14)),oO 5 (.alloc [(.int .u8 0),(.int .i64 0),nS,nS]),⟨none,.store 4 (tT 5) (tT 15),none⟩]) (sQ (.region [oO 16 (.faddr 0 (tT 5)),oO 17 (.load false 1 (tT 16)),oO 18 (kC 88 [(tT 17)]),
 oM 19 3,oO 20 (.bin .neq .num (tT 18) (tT 19)),oM 21 20,oF 21 22 (.load true 4 (tT 5)),oF 21 23 (kC 87 [(tT 22)]),oF 21 24 (.una .not (tT 23)),oO 25 (.pick (tT 21) kT (tT 24))]) (.cond (tT 25) (sQ (.region [oO 2 (.mov kF)]) .ret) .skip)))) (.region [oO 26 (.bin .add .num (tT 12) (kI 1)),
 oM 12 26]))))))) (sQ (.region [oO 2 (.mov kT)]) .ret)))))
theorem ok87 : FnOk Tryz.prog 87 27 ir87 [.tmp 2] := fnOk_of mixed Tryz.func87 (by kernel_rfl) Tryz.ntmps87 (by kernel_rfl) (by kernel_rfl)

def ir88 : ACode := (sQ (.region [oO 2 (.mov (.const (.int .u8 0)))]) (sQ (sQ (.region [oM 3 0]) (.block 0 (sQ (sQ (.region [oO 5 (.bin .eql .num (tT 3) (.const (.int .u8 1))),oM 4 5]) (.cond (tT 4) .skip (sQ (.region [oO 6 (.bin .eql .num (tT 3) (.const (.int .u8 5))),
 oM 4 6]) (.cond (tT 4) .skip (sQ (.region [oO 7 (.bin .eql .num (tT 3) (.const (.int .u8 6))),oM 4 7]) (.cond (tT 4) .skip (.region [oO 8 (.bin .eql .num (tT 3) (.const (.int .u8 16))),oM 4 8]))))))) (.cond (tT 4) (sQ (.region [oO 2 (.mov (.const (.int .u8 2)))]) .ret) .skip)))) (sQ (.region [oO 2 (.mov (.const (.int .u8 1)))]) .ret)))
theorem ok88 : FnOk Tryz.prog 88 9 ir88 [.tmp 2] := fnOk_of mixed Tryz.func88 (by kernel_rfl) Tryz.ntmps88 (by kernel_rfl) (by kernel_rfl)

def ir89 : ACode := (sQ (.region [oO 2 (.mov (kI 0))]) (sQ (sQ (.region [oM 3 0]) (.cond (tT 3) (sQ (.region [oO 2 (.mov (kI 1))]) .ret) .skip)) (sQ (.region [oO 2 (.mov (kI 0))]) .ret)))
theorem ok89 : FnOk Tryz.prog 89 4 ir89 [.tmp 2] := fnOk_of mixed Tryz.func89 (by kernel_rfl) Tryz.ntmps89 (by kernel_rfl) (by kernel_rfl)

def ir90 : ACode := (sQ (.region [oO 2 (.box (tT 0)),oO 4 (.mov (kI 0))]) (sQ (sQ (.region [oM 5 1,oO 6 (.bin .lss .num (tT 5) (kI 0)),oM 7 6,oF 7 8 (.mov (tT 1)),oF 7 9 (.faddr 1 (tT 2)),oF 7 10 (.load false 1 (tT 9)),
 oF 7 11 (.len (tT 10)),oF 7 12 (.bin .geq .num (tT 8) (tT 11)),oO 13 (.pick (tT 7) kT (tT 12)),oM 14 13,oF 14 15 (.faddr 1 (tT 2)),oF 14 16 (.load false 1 (tT 15)),oF 14 17 (.mov (tT 1)),oF 14 18 (.iaddr 1 (tT 16) (tT 17)),
 oF 14 19 (.load false 1 (tT 18)),oF 14 20 (.bin .lss .num (tT 19) (kI 0)),oO 21 (.pick (tT 14) kT (tT 20)),oM 22 21,oF 22 23 (.faddr 1 (tT 2)),oF 22 24 (.load false 1 (tT 23)),oF 22 25 (.mov (tT 1)),oF 22 26 (.iaddr 1 (tT 24) (tT 25)),
 oF 22 27 (.load false 1 (tT 26)),oF 22 28 (.bin .gtr .num (tT 27) (kI 256)),oO 29 (.pick (tT 22) kT (tT 28))]) (.cond (tT 29) (sQ (.region [oO 4 (.mov (kI 0))]) .ret) .skip)) (sQ (.region [oO 30 (.faddr 1 (tT 2)),
 oO 31 (.load false 1 (tT 30)),oM 32 1,oO 33 (.iaddr 1 (tT 31) (tT 32)),oO 34 (.load false 1 (tT 33)),oM 4 34]) .ret)))
theorem ok90 : FnOk Tryz.prog 90 35 ir90 [.tmp 4] := fnOk_of mixed Tryz.func90 (by kernel_rfl) Tryz.ntmps90 (by kernel_rfl) (by kernel_rfl)

def ir91 : ACode := (sQ (.region [oO 6 (.mov (.const nS)),oO 7 (.mov (kI 0))]) (sQ (sQ (.region [oM 9 1,oO 10 (kC 45 [(tT 9)]),oO 11 (.una .not (tT 10)),oM 12 11,oF 12 13 (.mov (tT 2)),oF 12 14 (kC 45 [(tT 13)]),
 oF 12 15 (.una .not (tT 14)),oO 16 (.pick (tT 12) kT (tT 15)),oM 17 16,oF 17 18 (.mov (tT 1)),oF 17 19 (.mov (tT 2)),oF 17 20 (.bin .eql .num (tT 18) (tT 19)),oO 21 (.pick (tT 17) kT (tT 20))]) (.cond (tT 21) (sQ (.region [oM 22 0,
 oM 6 22,oO 7 (.mov (kI 1))]) .ret) .skip)) (sQ (sQ (.region [oM 23 0,oM 24 1,oM 25 2,oO 26 (kC 111 [(tT 23),(tT 24),(tT 25)])]) (.cond (tT 26) (sQ (.region [oM 27 0,oM 6 27,oO 7 (.mov (kI 5))]) .ret) .skip)) (sQ (sQ (.region [oM 28 0,
 oM 29 2,oM 30 1,oO 31 (kC 15 [(tT 28),(tT 29),(tT 30)])]) (.cond (tT 31) (sQ (.region [oM 32 0,oM 6 32,oO 7 (.mov (kI 16))]) .ret) .skip)) (sQ (.region [oO 8 (.mov (kI 0))]) (sQ (.block 0 (.loop (sQ (sQ (.region [oM 33 8,
 oM 34 0,oO 35 (.len (tT 34)),oO 36 (.bin .lss .num (tT 33) (tT 35)),oM 37 36,oT 37 38 (.mov (tT 0)),oT 37 39 (.mov (tT 8)),oT 37 40 (.iaddr 2 (tT 38) (tT 39)),oT 37 41 (.iaddrA 2 1 (tT 40) (kI 0)),oT 37 42 (.load false 1 (tT 41)),
 oT 37 43 (.mov (tT 1)),oT 37 44 (.bin .lss .num (tT 42) (tT 43)),oT 37 45 (.mov (tT 44)),oF 45 46 (.mov (tT 0)),oF 45 47 (.mov (tT 8)),oF 45 48 (.iaddr 2 (tT 46) (tT 47)),oF 45 49 (.iaddrA 2 1 (tT 48) (kI 0)),
 oF 45 50 (.load false 1 (tT 49)),oF 45 51 (.mov (tT 1)),oF 45 52 (.bin .eql .num (tT 50) (tT 51)),oF 45 53 (.mov (tT 52)),oT 53 54 (.mov (tT 0)),oT 53 55 (.mov (tT 8)),oT 53 56 (.iaddr 2 (tT 54) (tT 55)),
 oT 53 57 (.iaddrA 2 1 (tT 56) (kI 1)),oT 53 58 (.load false 1 (tT 57)),oT 53 59 (.mov (tT 2)),oT 53 60 (.bin .lss .num (tT 58) (tT 59)),oF 45 61 (.pick (tT 53) (tT 60) kF),oT 37 62 (.pick (tT 45) kT (tT 61)),
 oO 63 (.pick (tT 37) (tT 62) kF)]) (.cond (tT 63) .skip (.exit 0))) (.block 1 (.region [oM 64 8,oO 65 (.bin .add .num (tT 64) (kI 1)),oM 8 65]))))) (sQ (.draw [⟨0,oO 66 (.bslice [(.int .i64 0),(.int .i64 0)] 0 []),
 0,0,false⟩,⟨1,oM 67 0,0,0,false⟩,⟨2,oM 68 8,0,0,false⟩,⟨3,oO 69 (.slc 2 (tT 67) none (some (tT 68)) none),6,0,false⟩,⟨4,oO 70 (.append [(.int .i64 0),(.int .i64 0)] 16 (tT 66) (tT 69)),15,30,false⟩,⟨5,
 oM 71 1,0,0,false⟩,⟨6,oM 72 2,0,0,false⟩,⟨7,oO 73 (.build [(.int .i64 0),(.int .i64 0)] [(0,1,(tT 71)),(1,1,(tT 72))]),96,0,false⟩,⟨8,oO 74 (.bslice [(.int .i64 0),(.int .i64 0)] 1 [(0,(tT 73))]),224,0,
 false⟩,⟨9,oO 75 (.append [(.int .i64 0),(.int .i64 0)] 16 (tT 70) (tT 74)),511,1022,false⟩,⟨10,oM 76 0,0,0,false⟩,⟨11,oM 77 8,0,0,false⟩,⟨12,oO 78 (.slc 2 (tT 76) (some (tT 77)) none none),3072,0,false⟩,
 ⟨13,oO 79 (.append [(.int .i64 0),(.int .i64 0)] 16 (tT 75) (tT 78)),8191,1,false⟩,⟨14,oM 6 79,16383,1,false⟩,⟨15,oO 7 (.mov (kI 0)),32767,1,false⟩]) .ret)))))))
theorem ok91 : FnOk Tryz.prog 91 80 ir91 [.tmp 6, .tmp 7] := fnOk_of mixed Tryz.func91 (by kernel_rfl) Tryz.ntmps91 (by kernel_rfl) (by kernel_rfl)

def ir92 : ACode := (sQ (.region [oO 3 (.box (tT 1)),oO 4 (.mov (.const nS)),oO 5 (.mov (kI 0))]) (sQ (sQ (.region [oO 12 (.faddr 0 (tT 3)),oO 13 (.load false 1 (tT 12)),oO 14 (.bin .lss .num (tT 13) (kI 1)),
 oM 15 14,oF 15 16 (.faddr 0 (tT 3)),oF 15 17 (.load false 1 (tT 16)),oF 15 18 (.bin .gtr .num (tT 17) (kI 256)),oO 19 (.pick (tT 15) kT (tT 18)),oM 20 19,oF 20 21 (.faddr 1 (tT 3)),oF 20 22 (.load false 1 (tT 21)),
 oF 20 23 (.bin .lss .num (tT 22) (kI 1)),oO 24 (.pick (tT 20) kT (tT 23)),oM 25 24,oF 25 26 (.faddr 1 (tT 3)),oF 25 27 (.load false 1 (tT 26)),oF 25 28 (.bin .gtr .num (tT 27) (kI 63)),oO 29 (.pick (tT 25) kT (tT 28))]) (.cond (tT 29) (sQ (.region [oO 4 (.mov (.const nS)),
 oO 5 (.mov (kI 1))]) .ret) .skip)) (sQ (sQ (.region [oO 30 (.faddr 2 (tT 3)),oO 31 (.load false 1 (tT 30)),oO 32 (.bin .lss .num (tT 31) (kI 0)),oM 33 32,oF 33 34 (.faddr 2 (tT 3)),oF 33 35 (.load false 1 (tT 34)),
 oF 33 36 (.bin .gtr .num (tT 35) (kI 30000)),oO 37 (.pick (tT 33) kT (tT 36))]) (.cond (tT 37) (sQ (.region [oO 4 (.mov (.const nS)),oO 5 (.mov (kI 2))]) .ret) .skip)) (sQ (.region [oM 39 0,oO 40 (.faddr 0 (tT 3)),
 oO 41 (.load false 1 (tT 40)),oO 42 (.faddr 1 (tT 3)),oO 43 (.load false 1 (tT 42)),oO 44 (kC 112 [(tT 39),(tT 41),(tT 43)]),oM 38 44,oO 45 (.extract (tT 38) 0),oO 46 (.extract (tT 38) 1),oM 6 45,oM 7 46]) (sQ (sQ (.region [oM 47 7,
 oO 48 (.bin .neq .num (tT 47) (kI 0))]) (.cond (tT 48) (.region [oM 49 0,oM 6 49]) .skip)) (sQ (.region [oO 8 (.mov (.const nS))]) (sQ (.region [oO 9 (.mov kF)]) (sQ (sQ (.region [oM 50 6,oO 51 (.len (tT 50)),
 oO 52 (.mov (kI 0))]) (.block 0 (.loop (sQ (.region [oO 53 (.bin .lss .num (tT 52) (tT 51))]) (sQ (.cond (tT 53) .skip (.exit 0)) (sQ (.block 1 (sQ (.region [oO 54 (.iaddr 3 (tT 50) (tT 52)),oO 55 (.load true 3 (tT 54)),
 oO 11 (.alloc [(.int .i64 0),(.int .i64 0),(.int .i64 0)]),⟨none,.store 3 (tT 11) (tT 55),none⟩]) (sQ (sQ (.region [oM 56 9,oO 57 (.una .not (tT 56)),oM 58 57,oT 58 59 (.load true 3 (tT 3)),oT 58 60 (.load true 3 (tT 11)),
 oT 58 61 (kC 113 [(tT 59),(tT 60)]),oO 62 (.pick (tT 58) (tT 61) kF)]) (.cond (tT 62) (sQ (.region [oM 63 8,oO 64 (.load true 3 (tT 3)),oO 65 (.bslice [(.int .i64 0),(.int .i64 0),(.int .i64 0)] 1 [(0,
 (tT 64))]),oO 66 (.append [(.int .i64 0),(.int .i64 0),(.int .i64 0)] 24 (tT 63) (tT 65)),oM 8 66]) (.region [oO 9 (.mov kT)])) .skip)) (.region [oM 67 8,oO 68 (.load true 3 (tT 11)),oO 69 (.bslice [(.int .i64 0),
 (.int .i64 0),(.int .i64 0)] 1 [(0,(tT 68))]),oO 70 (.append [(.int .i64 0),(.int .i64 0),(.int .i64 0)] 24 (tT 67) (tT 69)),oM 8 70])))) (.region [oO 71 (.bin .add .num (tT 52) (kI 1)),oM 52 71]))))))) (sQ (sQ (.region [oM 72 9,
 oO 73 (.una .not (tT 72))]) (.cond (tT 73) (.region [oM 74 8,oO 75 (.load true 3 (tT 3)),oO 76 (.bslice [(.int .i64 0),(.int .i64 0),(.int .i64 0)] 1 [(0,(tT 75))]),oO 77 (.append [(.int .i64 0),(.int .i64 0),
 (.int .i64 0)] 24 (tT 74) (tT 76)),oM 8 77]) .skip)) (sQ (.region [oM 78 8,oM 4 78,oO 5 (.mov (kI 0))]) .ret))))))))))
theorem ok92 : FnOk Tryz.prog 92 79 ir92 [.tmp 4, .tmp 5] := fnOk_of mixed Tryz.func92 (by kernel_rfl) Tryz.ntmps92 (by kernel_rfl) (by kernel_rfl)

def ir94 : ACode := (sQ (.region [oO 2 (.box (tT 0)),oO 3 (.box (tT 1)),oO 4 (.mov (kI 0))]) (sQ (sQ (.region [oO 5 (.iaddrA 2 1 (tT 2) (kI 0)),oO 6 (.load false 1 (tT 5)),oO 7 (.iaddrA 2 1 (tT 3) (kI 0)),
 oO 8 (.load false 1 (tT 7)),oO 9 (.bin .neq .num (tT 6) (tT 8))]) (.cond (tT 9) (sQ (.region [oO 10 (.iaddrA 2 1 (tT 2) (kI 0)),oO 11 (.load false 1 (tT 10)),oO 12 (.iaddrA 2 1 (tT 3) (kI 0)),oO 13 (.load false 1 (tT 12)),
 oO 14 (.bin .sub .num (tT 11) (tT 13)),oM 4 14]) .ret) .skip)) (sQ (.region [oO 15 (.iaddrA 2 1 (tT 2) (kI 1)),oO 16 (.load false 1 (tT 15)),oO 17 (.iaddrA 2 1 (tT 3) (kI 1)),oO 18 (.load false 1 (tT 17)),
 oO 19 (.bin .sub .num (tT 16) (tT 18)),oM 4 19]) .ret)))
theorem ok94 : FnOk Tryz.prog 94 20 ir94 [.tmp 4] := fnOk_of mixed Tryz.func94 (by kernel_rfl) Tryz.ntmps94 (by kernel_rfl) (by kernel_rfl)

def ir95 : ACode := (sQ (.region [oO 2 (.mov (.const nS))]) (sQ (.region [oM 3 0,oM 4 0,oO 5 (.len (tT 4)),oM 6 0,oO 7 (.len (tT 6)),oO 8 (.slc 2 (tT 3) none (some (tT 5)) (some (tT 7))),oM 2 8]) .ret))
theorem ok95 : FnOk Tryz.prog 95 9 ir95 [.tmp 2] := fnOk_of mixed Tryz.func95 (by kernel_rfl) Tryz.ntmps95 (by kernel_rfl) (by kernel_rfl)

def ir96 : ACode := (sQ (.region [oO 2 (.mov (.const nS))]) (sQ (sQ (.region [oM 6 0,oO 7 (.len (tT 6)),oO 8 (.bin .lss .num (tT 7) (kI 2))]) (.cond (tT 8) (sQ (.region [oM 9 0,oM 2 9]) .ret) .skip)) (sQ (sQ (.region [oO 3 (.mov (kI 1))]) (.block 0 (.loop (sQ (sQ (.region [oM 10 3,
 oM 11 0,oO 12 (.len (tT 11)),oO 13 (.bin .lss .num (tT 10) (tT 12))]) (.cond (tT 13) .skip (.exit 0))) (sQ (.block 1 (sQ (.draw [⟨0,oM 16 0,0,0,false⟩,⟨1,oM 17 3,0,0,false⟩,⟨2,oO 18 (.iaddr 2 (tT 16) (tT 17)),
 3,0,false⟩,⟨3,oO 19 (.load true 2 (tT 18)),7,0,false⟩,⟨4,oM 20 0,0,0,false⟩,⟨5,oM 21 3,0,0,false⟩,⟨6,oO 22 (.bin .sub .num (tT 21) (kI 1)),32,0,false⟩,⟨7,oO 23 (.iaddr 2 (tT 20) (tT 22)),112,0,false⟩,⟨8,
 oO 24 (.load true 2 (tT 23)),240,0,false⟩,⟨9,oO 25 (.bin .eql (.cells [0,0]) (tT 19) (tT 24)),511,1,false⟩]) (.cond (tT 25) (sQ (.region [oM 26 0,oM 27 3,oO 28 (.slc 2 (tT 26) (some (tT 27)) none none),
 oM 4 28]) (sQ (sQ (.region [oO 5 (.mov (kI 1))]) (.block 2 (.loop (sQ (sQ (.region [oM 29 5,oM 30 4,oO 31 (.len (tT 30)),oO 32 (.bin .lss .num (tT 29) (tT 31))]) (.cond (tT 32) .skip (.exit 2))) (sQ (.block 3 (sQ (.draw [⟨0,
 oM 35 4,0,0,false⟩,⟨1,oM 36 5,0,0,false⟩,⟨2,oO 37 (.iaddr 2 (tT 35) (tT 36)),3,0,false⟩,⟨3,oO 38 (.load true 2 (tT 37)),7,0,false⟩,⟨4,oM 39 4,0,0,false⟩,⟨5,oM 40 5,0,0,false⟩,⟨6,oO 41 (.bin .sub .num (tT 40) (kI 1)),
 32,0,false⟩,⟨7,oO 42 (.iaddr 2 (tT 39) (tT 41)),112,0,false⟩,⟨8,oO 43 (.load true 2 (tT 42)),240,0,false⟩,⟨9,oO 44 (.bin .neq (.cells [0,0]) (tT 38) (tT 43)),511,1,false⟩]) (.cond (tT 44) (sQ (.region [oM 45 0,
 oM 46 3,oM 47 4,oM 48 5,oO 49 (.iaddr 2 (tT 47) (tT 48)),oO 50 (.load true 2 (tT 49)),oO 51 (.iaddr 2 (tT 45) (tT 46)),⟨none,.store 2 (tT 51) (tT 50),none⟩]) (.region [oM 52 3,oO 53 (.bin .add .num (tT 52) (kI 1)),
 oM 3 53])) .skip))) (.region [oM 33 5,oO 34 (.bin .add .num (tT 33) (kI 1)),oM 5 34])))))) (sQ (.region [oM 54 0,oM 55 3,oO 56 (.slc 2 (tT 54) (some (tT 55)) none none),⟨none,.clear [(.int .i64 0),(.int .i64 0)] (tT 56),
 none⟩]) (sQ (.region [oM 57 0,oM 58 3,oO 59 (.slc 2 (tT 57) none (some (tT 58)) none),oM 2 59]) .ret)))) .skip))) (.region [oM 14 3,oO 15 (.bin .add .num (tT 14) (kI 1)),oM 3 15])))))) (sQ (.region [oM 60 0,
 oM 2 60]) .ret))))
theorem ok96 : FnOk Tryz.prog 96 61 ir96 [.tmp 2] := fnOk_of mixed Tryz.func96 (by kernel_rfl) Tryz.ntmps96 (by kernel_rfl) (by kernel_rfl)

end Go.Proofs.YtcoehdmpjflmlaaGreatDoor

namespace Go.Proofs.YtcoehdmpjflmlaaGreatDoor
set_option maxRecDepth 100000

def ir97 : ACode := (sQ (.region [oO 2 (.mov kF)]) (sQ (.region [oM 9 0,oO 10 (.nilck (tT 9)),oO 11 (.faddr 0 (tT 10)),oO 12 (.load false 1 (tT 11)),oO 13 (.mslice [(.int .i64 0)] 8 (tT 12) (tT 12)),oM 3 13]) (sQ (sQ (.region [oM 14 0,
 oO 15 (.nilck (tT 14)),oO 16 (.faddr 1 (tT 15)),oO 17 (.load false 1 (tT 16)),oO 18 (.len (tT 17)),oO 19 (.mov (kI 0))]) (.block 0 (.loop (sQ (.region [oO 20 (.bin .lss .num (tT 19) (tT 18))]) (sQ (.cond (tT 20) .skip (.exit 0)) (sQ (.block 1 (sQ (.region [oO 21 (.iaddr 2 (tT 17) (tT 19)),
 oO 22 (.load true 2 (tT 21)),oO 5 (.alloc [(.int .i64 0),(.int .i64 0)]),⟨none,.store 2 (tT 5) (tT 22),none⟩]) (.region [oM 23 3,oO 24 (.iaddrA 2 1 (tT 5) (kI 1)),oO 25 (.load false 1 (tT 24)),oO 26 (.iaddr 1 (tT 23) (tT 25)),
 oO 27 (.load false 1 (tT 26)),oO 28 (.bin .add .num (tT 27) (kI 1)),oO 29 (.iaddr 1 (tT 23) (tT 25)),⟨none,.store 1 (tT 29) (tT 28),none⟩]))) (.region [oO 30 (.bin .add .num (tT 19) (kI 1)),oM 19 30]))))))) (sQ (.block 2 (.loop (sQ (sQ (.draw [⟨0,
 oM 31 0,0,0,false⟩,⟨1,oO 32 (.nilck (tT 31)),1,0,false⟩,⟨2,oO 33 (.faddr 4 (tT 32)),3,0,false⟩,⟨3,oO 34 (.load false 1 (tT 33)),7,0,false⟩,⟨4,oO 35 (.len (tT 34)),15,0,false⟩,⟨5,oM 36 0,0,0,false⟩,⟨6,oO 37 (.nilck (tT 36)),
 32,0,false⟩,⟨7,oO 38 (.faddr 0 (tT 37)),96,0,false⟩,⟨8,oO 39 (.load false 1 (tT 38)),224,0,false⟩,⟨9,oO 40 (.bin .lss .num (tT 35) (tT 39)),511,1,false⟩]) (.cond (tT 40) .skip (.exit 2))) (.block 3 (sQ (.region [oM 41 3,
 oO 42 (kC 116 [(tT 41),(kI 0)]),oM 6 42]) (sQ (sQ (.region [oM 43 6,oO 44 (.bin .lss .num (tT 43) (kI 0))]) (.cond (tT 44) (sQ (.region [oO 2 (.mov kF)]) .ret) .skip)) (sQ (.region [oM 45 3,oM 46 6,oO 47 (.iaddr 1 (tT 45) (tT 46)),
 ⟨none,.store 1 (tT 47) (.const (.int .i64 (-1))),none⟩]) (sQ (.region [oM 48 0,oM 49 0,oO 50 (.nilck (tT 49)),oO 51 (.faddr 4 (tT 50)),oO 52 (.load false 1 (tT 51)),oM 53 6,oO 54 (.bslice [(.int .i64 0)] 1 [(0,
 (tT 53))]),oO 55 (.append [(.int .i64 0)] 8 (tT 52) (tT 54)),oO 56 (.nilck (tT 48)),oO 57 (.faddr 4 (tT 56)),⟨none,.store 1 (tT 57) (tT 55),none⟩]) (sQ (.region [oM 58 0,oO 59 (.nilck (tT 58)),oO 60 (.faddr 1 (tT 59)),
 oO 61 (.load false 1 (tT 60)),oO 62 (.len (tT 61)),oO 63 (.mov (kI 0))]) (.block 4 (.loop (sQ (.region [oO 64 (.bin .lss .num (tT 63) (tT 62))]) (sQ (.cond (tT 64) .skip (.exit 4)) (sQ (.block 5 (sQ (.region [oO 65 (.iaddr 2 (tT 61) (tT 63)),
 oO 66 (.load true 2 (tT 65)),oO 8 (.alloc [(.int .i64 0),(.int .i64 0)]),⟨none,.store 2 (tT 8) (tT 66),none⟩]) (sQ (.region [oO 67 (.iaddrA 2 1 (tT 8) (kI 0)),oO 68 (.load false 1 (tT 67)),oM 69 6,oO 70 (.bin .eql .num (tT 68) (tT 69))]) (.cond (tT 70) (.region [oM 71 3,
 oO 72 (.iaddrA 2 1 (tT 8) (kI 1)),oO 73 (.load false 1 (tT 72)),oO 74 (.iaddr 1 (tT 71) (tT 73)),oO 75 (.load false 1 (tT 74)),oO 76 (.bin .sub .num (tT 75) (kI 1)),oO 77 (.iaddr 1 (tT 71) (tT 73)),⟨none,
 .store 1 (tT 77) (tT 76),none⟩]) .skip)))) (.region [oO 78 (.bin .add .num (tT 63) (kI 1)),oM 63 78]))))))))))))))) (sQ (.region [oO 2 (.mov kT)]) .ret)))))
theorem ok97 : FnOk Tryz.prog 97 79 ir97 [.tmp 2] := fnOk_of mixed Tryz.func97 (by kernel_rfl) Tryz.ntmps97 (by kernel_rfl) (by kernel_rfl)

def ir98 : ACode := (sQ (.region [oO 1 (.box (tT 0))]) (sQ (.draw [⟨0,oO 10 (.load false 1 (tT 1)),0,0,false⟩,⟨1,oO 11 (.load false 1 (tT 1)),0,0,false⟩,⟨2,oO 12 (.load false 1 (tT 1)),0,0,false⟩,⟨3,oO 13 (.nilck (tT 12)),
 4,0,false⟩,⟨4,oO 14 (.faddr 0 (tT 13)),12,0,false⟩,⟨5,oO 15 (.load false 1 (tT 14)),28,0,false⟩,⟨6,oO 16 (.mslice [nS] 24 (tT 15) (tT 15)),60,0,false⟩,⟨7,oO 17 (.load false 1 (tT 1)),0,0,false⟩,⟨8,oO 18 (.nilck (tT 17)),
 128,0,false⟩,⟨9,oO 19 (.faddr 0 (tT 18)),384,0,false⟩,⟨10,oO 20 (.load false 1 (tT 19)),896,0,false⟩,⟨11,oO 21 (.mslice [nS] 24 (tT 20) (tT 20)),1920,0,false⟩,⟨12,oO 22 (.nilck (tT 10)),2045,0,false⟩,⟨13,
 oO 23 (.faddr 2 (tT 22)),6141,0,false⟩,⟨14,⟨none,.store 1 (tT 23) (tT 16),none⟩,14333,28666,false⟩,⟨15,oO 24 (.nilck (tT 11)),32767,1,false⟩,⟨16,oO 25 (.faddr 3 (tT 24)),65535,1,false⟩,⟨17,⟨none,.store 1 (tT 25) (tT 21),
 none⟩,131071,1,false⟩]) (sQ (.region [oO 26 (.load false 1 (tT 1)),oO 27 (.nilck (tT 26)),oO 28 (.faddr 0 (tT 27)),oO 29 (.load false 1 (tT 28)),oO 30 (.mslice [nS] 24 (tT 29) (tT 29)),oM 2 30]) (sQ (sQ (.region [oO 31 (.load false 1 (tT 1)),
 oO 32 (.nilck (tT 31)),oO 33 (.faddr 1 (tT 32)),oO 34 (.load false 1 (tT 33)),oO 35 (.len (tT 34)),oO 36 (.mov (kI 0))]) (.block 0 (.loop (sQ (.region [oO 37 (.bin .lss .num (tT 36) (tT 35))]) (sQ (.cond (tT 37) .skip (.exit 0)) (sQ (.block 1 (sQ (.region [oO 38 (.iaddr 2 (tT 34) (tT 36)),
 oO 39 (.load true 2 (tT 38)),oO 4 (.alloc [(.int .i64 0),(.int .i64 0)]),⟨none,.store 2 (tT 4) (tT 39),none⟩]) (.draw [⟨0,oM 40 2,0,0,false⟩,⟨1,oO 41 (.iaddrA 2 1 (tT 4) (kI 1)),0,0,false⟩,⟨2,oO 42 (.load false 1 (tT 41)),
 2,0,false⟩,⟨3,oM 43 2,0,0,false⟩,⟨4,oO 44 (.iaddrA 2 1 (tT 4) (kI 1)),0,0,false⟩,⟨5,oO 45 (.load false 1 (tT 44)),16,0,false⟩,⟨6,oO 46 (.iaddr 1 (tT 43) (tT 45)),56,0,false⟩,⟨7,oO 47 (.load false 1 (tT 46)),
 120,0,false⟩,⟨8,oO 48 (.iaddrA 2 1 (tT 4) (kI 0)),0,0,false⟩,⟨9,oO 49 (.load false 1 (tT 48)),256,0,false⟩,⟨10,oO 50 (.bslice [(.int .i64 0)] 1 [(0,(tT 49))]),768,0,false⟩,⟨11,oO 51 (.append [(.int .i64 0)] 8 (tT 47) (tT 50)),
 2040,4080,false⟩,⟨12,oO 52 (.iaddr 1 (tT 40) (tT 42)),4095,1,false⟩,⟨13,⟨none,.store 1 (tT 52) (tT 51),none⟩,8191,1,false⟩]))) (.region [oO 53 (.bin .add .num (tT 36) (kI 1)),oM 36 53]))))))) (sQ (.region [oO 54 (.load false 1 (tT 1)),
 oO 55 (.nilck (tT 54)),oO 56 (.faddr 4 (tT 55)),oO 57 (.load false 1 (tT 56)),oO 58 (.len (tT 57)),oO 59 (.mov (kI 0))]) (.block 2 (.loop (sQ (.region [oO 60 (.bin .lss .num (tT 59) (tT 58))]) (sQ (.cond (tT 60) .skip (.exit 2)) (sQ (.block 3 (sQ (.region [oO 61 (.iaddr 1 (tT 57) (tT 59)),
 oO 62 (.load false 1 (tT 61)),oO 6 (.alloc [(.int .i64 0)]),⟨none,.store 1 (tT 6) (tT 62),none⟩]) (sQ (sQ (.region [oM 63 2,oO 64 (.load false 1 (tT 6)),oO 65 (.iaddr 1 (tT 63) (tT 64)),oO 66 (.load false 1 (tT 65)),
 oO 67 (.len (tT 66)),oO 68 (.mov (kI 0))]) (.block 4 (.loop (sQ (.region [oO 69 (.bin .lss .num (tT 68) (tT 67))]) (sQ (.cond (tT 69) .skip (.exit 4)) (sQ (.block 5 (sQ (.region [oO 70 (.iaddr 1 (tT 66) (tT 68)),
 oO 71 (.load false 1 (tT 70)),oM 8 71]) (.draw [⟨0,oO 72 (.load false 1 (tT 1)),0,0,false⟩,⟨1,oO 73 (.nilck (tT 72)),1,0,false⟩,⟨2,oO 74 (.faddr 2 (tT 73)),3,0,false⟩,⟨3,oO 75 (.load false 1 (tT 74)),7,
 0,false⟩,⟨4,oO 76 (.load false 1 (tT 6)),0,0,false⟩,⟨5,oO 77 (.load false 1 (tT 1)),0,0,false⟩,⟨6,oO 78 (.nilck (tT 77)),32,0,false⟩,⟨7,oO 79 (.faddr 2 (tT 78)),96,0,false⟩,⟨8,oO 80 (.load false 1 (tT 79)),
 224,0,false⟩,⟨9,oO 81 (.load false 1 (tT 6)),0,0,false⟩,⟨10,oO 82 (.iaddr 1 (tT 80) (tT 81)),992,0,false⟩,⟨11,oO 83 (.load true 1 (tT 82)),2016,0,false⟩,⟨12,oO 84 (.load false 1 (tT 1)),0,0,false⟩,⟨13,
 oO 85 (.nilck (tT 84)),4096,0,false⟩,⟨14,oO 86 (.faddr 2 (tT 85)),12288,0,false⟩,⟨15,oO 87 (.load false 1 (tT 86)),28672,0,false⟩,⟨16,oM 88 8,0,0,false⟩,⟨17,oO 89 (.iaddr 1 (tT 87) (tT 88)),126976,0,false⟩,
 ⟨18,oO 90 (.load true 1 (tT 89)),258048,0,false⟩,⟨19,oO 91 (kC 10 [(tT 83),(tT 90)]),524256,0,false⟩,⟨20,oM 92 8,0,0,false⟩,⟨21,oO 93 (kC 42 [(tT 91),(tT 92)]),2097120,0,false⟩,⟨22,oO 94 (.iaddr 1 (tT 75) (tT 76)),
 4194303,1,false⟩,⟨23,⟨none,.store 1 (tT 94) (tT 93),none⟩,8388607,1,false⟩]))) (.region [oO 95 (.bin .add .num (tT 68) (kI 1)),oM 68 95]))))))) (sQ (.draw [⟨0,oO 96 (.load false 1 (tT 1)),0,0,false⟩,⟨1,
 oO 97 (.nilck (tT 96)),1,0,false⟩,⟨2,oO 98 (.faddr 2 (tT 97)),3,0,false⟩,⟨3,oO 99 (.load false 1 (tT 98)),7,0,false⟩,⟨4,oO 100 (.load false 1 (tT 6)),0,0,false⟩,⟨5,oO 101 (.iaddr 1 (tT 99) (tT 100)),31,
 1,false⟩,⟨6,oO 102 (.load true 1 (tT 101)),63,1,false⟩,⟨7,oO 103 (kC 52 [(tT 102)]),127,1,false⟩]) (.block 6 (.range (tT 103) [104] [(9,(tT 104))] (.block 7 (.draw [⟨0,oO 105 (.load false 1 (tT 1)),0,0,
 false⟩,⟨1,oO 106 (.nilck (tT 105)),1,0,false⟩,⟨2,oO 107 (.faddr 3 (tT 106)),3,0,false⟩,⟨3,oO 108 (.load false 1 (tT 107)),7,0,false⟩,⟨4,oM 109 9,0,0,false⟩,⟨5,oO 110 (.load false 1 (tT 1)),0,0,false⟩,⟨6,
 oO 111 (.nilck (tT 110)),32,0,false⟩,⟨7,oO 112 (.faddr 3 (tT 111)),96,0,false⟩,⟨8,oO 113 (.load false 1 (tT 112)),224,0,false⟩,⟨9,oM 114 9,0,0,false⟩,⟨10,oO 115 (.iaddr 1 (tT 113) (tT 114)),992,0,false⟩,
 ⟨11,oO 116 (.load true 1 (tT 115)),2016,0,false⟩,⟨12,oO 117 (.load false 1 (tT 6)),0,0,false⟩,⟨13,oO 118 (kC 42 [(tT 116),(tT 117)]),8160,0,false⟩,⟨14,oO 119 (.iaddr 1 (tT 108) (tT 109)),16383,1,false⟩,
 ⟨15,⟨none,.store 1 (tT 119) (tT 118),none⟩,32767,1,false⟩])))))))) (.region [oO 120 (.bin .add .num (tT 59) (kI 1)),oM 59 120])))))))))))
theorem ok98 : FnOk Tryz.prog 98 121 ir98 [] := fnOk_of mixed Tryz.func98 (by kernel_rfl) Tryz.ntmps98 (by kernel_rfl) (by kernel_rfl)

def ir99 : ACode := (sQ (.region [oO 3 (.box (tT 1)),oO 4 (.mov kF)]) (sQ (.region [oM 5 0,oO 6 (.load true 2 (tT 3)),oO 7 (kC 77 [(tT 5),(tT 6)]),oO 8 (.bin .geq .num (tT 7) (kI 0)),oM 4 8]) .ret))
theorem ok99 : FnOk Tryz.prog 99 9 ir99 [.tmp 4] := fnOk_of mixed Tryz.func99 (by kernel_rfl) Tryz.ntmps99 (by kernel_rfl) (by kernel_rfl)

def ir101 : ACode := (sQ (.region [oO 2 (.mov (kI 0))]) (sQ (.region [oM 3 0,oO 4 (.nilck (tT 3)),oO 5 (.faddr 1 (tT 4)),oO 6 (.load false 1 (tT 5)),oO 7 (.bin .add .num (tT 6) (kI 1)),oO 8 (.nilck (tT 3)),
 oO 9 (.faddr 1 (tT 8)),⟨none,.store 1 (tT 9) (tT 7),none⟩]) (sQ (sQ (.draw [⟨0,oM 10 0,0,0,false⟩,⟨1,oO 11 (.nilck (tT 10)),1,0,false⟩,⟨2,oO 12 (.faddr 1 (tT 11)),3,0,false⟩,⟨3,oO 13 (.load false 1 (tT 12)),
 7,0,false⟩,⟨4,oM 14 0,0,0,false⟩,⟨5,oO 15 (.nilck (tT 14)),16,0,false⟩,⟨6,oO 16 (.faddr 0 (tT 15)),48,0,false⟩,⟨7,oO 17 (.load false 1 (tT 16)),112,0,false⟩,⟨8,oO 18 (.len (tT 17)),240,0,false⟩,⟨9,oO 19 (.bin .gtr .num (tT 13) (tT 18)),
 511,1,false⟩]) (.cond (tT 19) (sQ (.region [oO 2 (.mov (kI 0))]) .ret) .skip)) (sQ (.draw [⟨0,oM 20 0,0,0,false⟩,⟨1,oO 21 (.nilck (tT 20)),1,0,false⟩,⟨2,oO 22 (.faddr 0 (tT 21)),3,0,false⟩,⟨3,oO 23 (.load false 1 (tT 22)),
 7,0,false⟩,⟨4,oM 24 0,0,0,false⟩,⟨5,oO 25 (.nilck (tT 24)),16,0,false⟩,⟨6,oO 26 (.faddr 1 (tT 25)),48,0,false⟩,⟨7,oO 27 (.load false 1 (tT 26)),112,0,false⟩,⟨8,oO 28 (.bin .sub .num (tT 27) (kI 1)),240,
 0,false⟩,⟨9,oO 29 (.iaddr 1 (tT 23) (tT 28)),511,1,false⟩,⟨10,oO 30 (.load false 1 (tT 29)),1023,1,false⟩,⟨11,oO 31 (.conv .i64 (tT 30)),2047,1,false⟩,⟨12,oM 2 31,4095,1,false⟩]) .ret))))
theorem ok101 : FnOk Tryz.prog 101 32 ir101 [.tmp 2] := fnOk_of mixed Tryz.func101 (by kernel_rfl) Tryz.ntmps101 (by kernel_rfl) (by kernel_rfl)

def ir102 : ACode := (sQ (.region [oO 10 (.alloc [(.int .i64 0),(.int .i64 0),nS,nS])]) (sQ (.region [oM 13 0,oM 14 2,oO 15 (.bin .sub .num (tT 14) (kI 1)),oM 16 3,oM 17 4,oO 18 (kC 118 [(tT 13),(tT 15),
 (tT 16),(tT 17)]),oO 11 (.alloc [(.int .i64 0),(.int .i64 0),nS,nS]),⟨none,.store 4 (tT 11) (tT 18),none⟩]) (sQ (.region [oM 19 0,oM 20 2,oO 21 (.bin .sub .num (tT 20) (kI 1)),oM 22 3,oM 23 4,oO 24 (kC 118 [(tT 19),
 (tT 21),(tT 22),(tT 23)]),oO 12 (.alloc [(.int .i64 0),(.int .i64 0),nS,nS]),⟨none,.store 4 (tT 12) (tT 24),none⟩]) (sQ (.region [oM 25 1,oO 26 (.bin .rem .num (tT 25) (kI 5)),oO 27 (.bin .add .num (kI 11) (tT 26)),
 oO 28 (.load true 4 (tT 11)),oO 29 (.load true 4 (tT 12)),oO 30 (.bslice [(.int .i64 0),(.int .i64 0),nS,nS] 2 [(0,(tT 28)),(1,(tT 29))]),oO 31 (.build [(.int .i64 0),(.int .i64 0),nS,nS] [(0,1,(tT 27)),
 (3,1,(tT 30))]),⟨none,.store 4 (tT 10) (tT 31),none⟩]) .ret))))
theorem ok102 : FnOk Tryz.prog 102 32 ir102 [.cell 10 true 4] := fnOk_of mixed Tryz.func102 (by kernel_rfl) Tryz.ntmps102 (by kernel_rfl) (by kernel_rfl)

def ir103 : ACode := (sQ (.region [oO 4 (.mov kF)]) (sQ (.region [oM 5 0,oM 6 1,oO 7 (kC 119 [(tT 5),(tT 6)]),oO 8 (.bin .geq .num (tT 7) (kI 0)),oM 4 8]) .ret))
theorem ok103 : FnOk Tryz.prog 103 9 ir103 [.tmp 4] := fnOk_of mixed Tryz.func103 (by kernel_rfl) Tryz.ntmps103 (by kernel_rfl) (by kernel_rfl)

def ir104 : ACode := (sQ (.region [oO 0 (.mov (.const nS))]) (sQ (.region [⟨(some 1),.bslice [(.string ⟨#[]⟩)] 20 [(0,(.const (.string ⟨#[97,108,108]⟩))),(1,(.const (.string ⟨#[97,110,100]⟩))),(2,(.const (.string ⟨#[97,
 115,115,105,103,110]⟩))),(3,(.const (.string ⟨#[98,121]⟩))),(4,(.const (.string ⟨#[99,111,117,110,116]⟩))),(5,(.const (.string ⟨#[100,101,99,108,97,114,101]⟩))),(6,(.const (.string ⟨#[100,121,110,97,109,
 105,99]⟩))),(7,(.const (.string ⟨#[101,110,102,111,114,99,101]⟩))),(8,(.const (.string ⟨#[102,97,108,115,101]⟩))),(9,(.const (.string ⟨#[102,111,114]⟩))),(10,(.const (.string ⟨#[105,102]⟩))),(11,(.const (.string ⟨#[109,
 101,109,98,101,114,115]⟩))),(12,(.const (.string ⟨#[110,111,110,101]⟩))),(13,(.const (.string ⟨#[110,111,116]⟩))),(14,(.const (.string ⟨#[111,110]⟩))),(15,(.const (.string ⟨#[111,114]⟩))),(16,(.const (.string ⟨#[114,
 101,118,111,107,101]⟩))),(17,(.const (.string ⟨#[115,116,97,116,105,99]⟩))),(18,(.const (.string ⟨#[116,114,117,101]⟩))),(19,(.const (.string ⟨#[117,115,101,114,115]⟩)))],none⟩,oM 0 1]) .ret))
theorem ok104 : FnOk Tryz.prog 104 2 ir104 [.tmp 0] := fnOk_of mixed Tryz.func104 (by kernel_rfl) Tryz.ntmps104 (by kernel_rfl) (by kernel_rfl)

def ir105 : ACode := (sQ (.region [oO 2 (.mov kF)]) (sQ (.region [oM 3 0,oO 4 (.bin .geq .num (tT 3) (.const (.int .u8 97))),oM 5 4,oT 5 6 (.mov (tT 0)),oT 5 7 (.bin .leq .num (tT 6) (.const (.int .u8 122))),
 oO 8 (.pick (tT 5) (tT 7) kF),oM 2 8]) .ret))
theorem ok105 : FnOk Tryz.prog 105 9 ir105 [.tmp 2] := fnOk_of mixed Tryz.func105 (by kernel_rfl) Tryz.ntmps105 (by kernel_rfl) (by kernel_rfl)

def ir106 : ACode := (sQ (.region [oO 3 (.mov kF)]) (sQ (.region [oO 4 (.load false 1 (tT 1)),oM 5 0,oO 6 (.call (tT 4) [(tT 5)]),oM 7 6,oF 7 8 (.mov (tT 0)),oF 7 9 (.bin .geq .num (tT 8) (.const (.int .u8 48))),
 oF 7 10 (.mov (tT 9)),oT 10 11 (.mov (tT 0)),oT 10 12 (.bin .leq .num (tT 11) (.const (.int .u8 57))),oF 7 13 (.pick (tT 10) (tT 12) kF),oO 14 (.pick (tT 7) kT (tT 13)),oM 15 14,oF 15 16 (.mov (tT 0)),
 oF 15 17 (.bin .eql .num (tT 16) (.const (.int .u8 95))),oO 18 (.pick (tT 15) kT (tT 17)),oM 3 18]) .ret))
theorem ok106 : FnOk Tryz.prog 106 19 ir106 [.tmp 3] := fnOk_of mixed Tryz.func106 (by kernel_rfl) Tryz.ntmps106 (by kernel_rfl) (by kernel_rfl)

def ir107 : ACode := (sQ (.region [oO 1 (.box (tT 0)),oO 2 (.alloc [nS])]) (sQ (.region [oO 6 (.faddr 2 (tT 1)),oO 7 (.load false 1 (tT 6)),oO 8 (kC 28 [(tT 7)]),oO 3 (.alloc [nS]),⟨none,.store 1 (tT 3) (tT 8),
 none⟩]) (sQ (sQ (.region [oO 9 (.faddr 3 (tT 1)),oO 10 (.load false 1 (tT 9)),oO 11 (.len (tT 10)),oO 12 (.mov (kI 0))]) (.block 0 (.loop (sQ (.region [oO 13 (.bin .lss .num (tT 12) (tT 11))]) (sQ (.cond (tT 13) .skip (.exit 0)) (sQ (.block 1 (sQ (.region [oO 14 (.iaddr 4 (tT 10) (tT 12)),
 oO 15 (.load true 4 (tT 14)),oO 5 (.alloc [(.int .u8 0),(.int .i64 0),nS,nS]),⟨none,.store 4 (tT 5) (tT 15),none⟩]) (.draw [⟨0,oO 16 (.load true 1 (tT 3)),0,0,false⟩,⟨1,oO 17 (.load true 4 (tT 5)),0,0,
 false⟩,⟨2,oO 18 (kC 107 [(tT 17)]),2,0,false⟩,⟨3,oO 19 (kC 10 [(tT 16),(tT 18)]),7,1,false⟩,⟨4,⟨none,.store 1 (tT 3) (tT 19),none⟩,15,1,false⟩]))) (.region [oO 20 (.bin .add .num (tT 12) (kI 1)),oM 12 20]))))))) (sQ (.region [oO 21 (.load true 1 (tT 3)),
 ⟨none,.store 1 (tT 2) (tT 21),none⟩]) .ret))))
theorem ok107 : FnOk Tryz.prog 107 22 ir107 [.cell 2 true 1] := fnOk_of mixed Tryz.func107 (by kernel_rfl) Tryz.ntmps107 (by kernel_rfl) (by kernel_rfl)

def ir108 : ACode := (sQ (.region [oO 1 (.box (tT 0)),oO 2 (.mov (kI 0))]) (sQ (.region [oO 3 (.mov (kI 0))]) (sQ (sQ (.region [oO 6 (.faddr 0 (tT 1)),oO 7 (.load false 1 (tT 6)),oO 8 (.len (tT 7)),oO 9 (.mov (kI 0))]) (.block 0 (.loop (sQ (.region [oO 10 (.bin .lss .num (tT 9) (tT 8))]) (sQ (.cond (tT 10) .skip (.exit 0)) (sQ (.block 1 (sQ (.region [oO 11 (.iaddr 1 (tT 7) (tT 9)),
 oO 12 (.load false 1 (tT 11)),oM 5 12]) (.region [oM 13 3,oM 14 5,oO 15 (kC 120 [(tT 14)]),oO 16 (.bin .add .num (tT 13) (tT 15)),oM 3 16]))) (.region [oO 17 (.bin .add .num (tT 9) (kI 1)),oM 9 17]))))))) (sQ (.region [oM 18 3,
 oM 2 18]) .ret))))
theorem ok108 : FnOk Tryz.prog 108 19 ir108 [.tmp 2] := fnOk_of mixed Tryz.func108 (by kernel_rfl) Tryz.ntmps108 (by kernel_rfl) (by kernel_rfl)

def ir109 : ACode := (sQ (.region [oO 1 (.box (tT 0)),oO 2 (.mov (kI 0)),oO 3 (.mov (kI 0))]) (sQ (sQ (.region [oO 8 (.faddr 3 (tT 1)),oO 9 (.load false 1 (tT 8)),oO 10 (.len (tT 9)),oO 11 (.mov (kI 0))]) (.block 0 (.loop (sQ (.region [oO 12 (.bin .lss .num (tT 11) (tT 10))]) (sQ (.cond (tT 12) .skip (.exit 0)) (sQ (.block 1 (sQ (.region [oO 13 (.iaddr 4 (tT 9) (tT 11)),
 oO 14 (.load true 4 (tT 13)),oO 5 (.alloc [(.int .u8 0),(.int .i64 0),nS,nS]),⟨none,.store 4 (tT 5) (tT 14),none⟩]) (sQ (.region [oO 16 (.load true 4 (tT 5)),oO 17 (kC 109 [(tT 16)]),oM 15 17,oO 18 (.extract (tT 15) 0),
 oO 19 (.extract (tT 15) 1),oM 6 18,oM 7 19]) (.region [oM 20 2,oM 21 6,oO 22 (.mx (tT 20) (tT 21)),oM 23 3,oM 24 7,oO 25 (.bin .add .num (tT 23) (tT 24)),oM 2 22,oM 3 25])))) (.region [oO 26 (.bin .add .num (tT 11) (kI 1)),
 oM 11 26]))))))) (sQ (.region [oM 27 2,oO 28 (.bin .add .num (tT 27) (kI 1)),oM 29 3,oO 30 (.bin .add .num (tT 29) (kI 1)),oM 2 28,oM 3 30]) .ret)))
theorem ok109 : FnOk Tryz.prog 109 31 ir109 [.tmp 2, .tmp 3] := fnOk_of mixed Tryz.func109 (by kernel_rfl) Tryz.ntmps109 (by kernel_rfl) (by kernel_rfl)

def ir110 : ACode := (sQ (.region [oO 2 (.box (tT 0)),oO 4 (.mov (kI 0))]) (sQ (sQ (.region [oO 10 (.load true 4 (tT 2)),oO 11 (kC 121 [(tT 10)]),oM 5 11]) (sQ (.region [oM 12 5,oO 13 (.bin .neq .num (tT 12) (kI 0))]) (.cond (tT 13) (sQ (.region [oM 14 5,
 oM 4 14]) .ret) .skip))) (sQ (.region [oO 15 (.faddr 0 (tT 2)),oO 16 (.load false 1 (tT 15)),oO 17 (.bin .eql .num (tT 16) (.const (.int .u8 4))),oM 18 17,oF 18 19 (.faddr 0 (tT 2)),oF 18 20 (.load false 1 (tT 19)),
 oF 18 21 (.bin .eql .num (tT 20) (.const (.int .u8 5))),oO 22 (.pick (tT 18) kT (tT 21)),oM 6 22]) (sQ (sQ (.region [oM 23 1,oO 24 (.bin .eql .num (tT 23) (.const (.int .u8 3))),oM 25 24,oT 25 26 (.mov (tT 6)),
 oO 27 (.pick (tT 25) (tT 26) kF),oM 28 27,oF 28 29 (.mov (tT 1)),oF 28 30 (.bin .neq .num (tT 29) (.const (.int .u8 0))),oF 28 31 (.mov (tT 30)),oT 31 32 (.mov (tT 1)),oT 31 33 (.bin .neq .num (tT 32) (.const (.int .u8 3))),
 oF 28 34 (.pick (tT 31) (tT 33) kF),oF 28 35 (.mov (tT 34)),oT 35 36 (.faddr 0 (tT 2)),oT 35 37 (.load false 1 (tT 36)),oT 35 38 (.bin .eql .num (tT 37) (.const (.int .u8 6))),oF 28 39 (.pick (tT 35) (tT 38) kF),
 oO 40 (.pick (tT 28) kT (tT 39))]) (.cond (tT 40) (sQ (.region [oO 4 (.mov (kI 10))]) .ret) .skip)) (sQ (sQ (.region [oO 41 (.faddr 3 (tT 2)),oO 42 (.load false 1 (tT 41)),oO 43 (.len (tT 42)),oO 44 (.mov (kI 0))]) (.block 0 (.loop (sQ (.region [oO 45 (.bin .lss .num (tT 44) (tT 43))]) (sQ (.cond (tT 45) .skip (.exit 0)) (sQ (.block 1 (sQ (.region [oO 46 (.iaddr 4 (tT 42) (tT 44)),
 oO 47 (.load true 4 (tT 46)),oO 8 (.alloc [(.int .u8 0),(.int .i64 0),nS,nS]),⟨none,.store 4 (tT 8) (tT 47),none⟩]) (sQ (.region [oO 48 (.load true 4 (tT 8)),oM 49 1,oO 50 (kC 110 [(tT 48),(tT 49)]),oM 9 50]) (sQ (.region [oM 51 9,
 oO 52 (.bin .neq .num (tT 51) (kI 0))]) (.cond (tT 52) (sQ (.region [oM 53 9,oM 4 53]) .ret) .skip))))) (.region [oO 54 (.bin .add .num (tT 44) (kI 1)),oM 44 54]))))))) (sQ (.region [oO 4 (.mov (kI 0))]) .ret))))))
theorem ok110 : FnOk Tryz.prog 110 55 ir110 [.tmp 4] := fnOk_of mixed Tryz.func110 (by kernel_rfl) Tryz.ntmps110 (by kernel_rfl) (by kernel_rfl)

def ir111 : ACode := (sQ (.region [oO 6 (.mov kF)]) (sQ (sQ (.region [oM 9 0,oO 10 (.len (tT 9)),oO 11 (.mov (kI 0))]) (.block 0 (.loop (sQ (.region [oO 12 (.bin .lss .num (tT 11) (tT 10))]) (sQ (.cond (tT 12) .skip (.exit 0)) (sQ (.block 1 (sQ (.region [oO 13 (.iaddr 2 (tT 9) (tT 11)),
 oO 14 (.load true 2 (tT 13)),oO 8 (.alloc [(.int .i64 0),(.int .i64 0)]),⟨none,.store 2 (tT 8) (tT 14),none⟩]) (sQ (.region [oO 15 (.iaddrA 2 1 (tT 8) (kI 0)),oO 16 (.load false 1 (tT 15)),oM 17 1,oO 18 (.bin .eql .num (tT 16) (tT 17)),
 oM 19 18,oT 19 20 (.iaddrA 2 1 (tT 8) (kI 1)),oT 19 21 (.load false 1 (tT 20)),oT 19 22 (.mov (tT 2)),oT 19 23 (.bin .eql .num (tT 21) (tT 22)),oO 24 (.pick (tT 19) (tT 23) kF)]) (.cond (tT 24) (sQ (.region [oO 6 (.mov kT)]) .ret) .skip)))) (.region [oO 25 (.bin .add .num (tT 11) (kI 1)),
 oM 11 25]))))))) (sQ (.region [oO 6 (.mov kF)]) .ret)))
theorem ok111 : FnOk Tryz.prog 111 26 ir111 [.tmp 6] := fnOk_of mixed Tryz.func111 (by kernel_rfl) Tryz.ntmps111 (by kernel_rfl) (by kernel_rfl)

def ir112 : ACode := (sQ (.region [oO 6 (.mov (.const nS)),oO 7 (.mov (kI 0))]) (sQ (.region [oO 8 (.mov (.const nS))]) (sQ (sQ (.region [oM 11 0,oO 12 (.len (tT 11)),oO 13 (.mov (kI 0))]) (.block 0 (.loop (sQ (.region [oO 14 (.bin .lss .num (tT 13) (tT 12))]) (sQ (.cond (tT 14) .skip (.exit 0)) (sQ (.block 1 (sQ (.region [oO 15 (.iaddr 3 (tT 11) (tT 13)),
 oO 16 (.load true 3 (tT 15)),oO 10 (.alloc [(.int .i64 0),(.int .i64 0),(.int .i64 0)]),⟨none,.store 3 (tT 10) (tT 16),none⟩]) (sQ (.region [oO 17 (.faddr 0 (tT 10)),oO 18 (.load false 1 (tT 17)),oM 19 1,
 oO 20 (.bin .neq .num (tT 18) (tT 19)),oM 21 20,oF 21 22 (.faddr 1 (tT 10)),oF 21 23 (.load false 1 (tT 22)),oF 21 24 (.mov (tT 2)),oF 21 25 (.bin .neq .num (tT 23) (tT 24)),oO 26 (.pick (tT 21) kT (tT 25))]) (.cond (tT 26) (.region [oM 27 8,
 oO 28 (.load true 3 (tT 10)),oO 29 (.bslice [(.int .i64 0),(.int .i64 0),(.int .i64 0)] 1 [(0,(tT 28))]),oO 30 (.append [(.int .i64 0),(.int .i64 0),(.int .i64 0)] 24 (tT 27) (tT 29)),oM 8 30]) .skip)))) (.region [oO 31 (.bin .add .num (tT 13) (kI 1)),
 oM 13 31]))))))) (sQ (sQ (.region [oM 32 8,oO 33 (.len (tT 32)),oM 34 0,oO 35 (.len (tT 34)),oO 36 (.bin .eql .num (tT 33) (tT 35))]) (.cond (tT 36) (sQ (.region [oO 6 (.mov (.const nS)),oO 7 (.mov (kI 4))]) .ret) .skip)) (sQ (.region [oM 37 8,
 oM 6 37,oO 7 (.mov (kI 0))]) .ret)))))
theorem ok112 : FnOk Tryz.prog 112 38 ir112 [.tmp 6, .tmp 7] := fnOk_of mixed Tryz.func112 (by kernel_rfl) Tryz.ntmps112 (by kernel_rfl) (by kernel_rfl)

def ir113 : ACode := (sQ (.region [oO 2 (.box (tT 0)),oO 3 (.box (tT 1)),oO 4 (.mov kF)]) (sQ (.region [oO 5 (.faddr 0 (tT 2)),oO 6 (.load false 1 (tT 5)),oO 7 (.faddr 0 (tT 3)),oO 8 (.load false 1 (tT 7)),
 oO 9 (.bin .lss .num (tT 6) (tT 8)),oM 10 9,oF 10 11 (.faddr 0 (tT 2)),oF 10 12 (.load false 1 (tT 11)),oF 10 13 (.faddr 0 (tT 3)),oF 10 14 (.load false 1 (tT 13)),oF 10 15 (.bin .eql .num (tT 12) (tT 14)),
 oF 10 16 (.mov (tT 15)),oT 16 17 (.faddr 1 (tT 2)),oT 16 18 (.load false 1 (tT 17)),oT 16 19 (.faddr 1 (tT 3)),oT 16 20 (.load false 1 (tT 19)),oT 16 21 (.bin .lss .num (tT 18) (tT 20)),oF 10 22 (.pick (tT 16) (tT 21) kF),
 oO 23 (.pick (tT 10) kT (tT 22)),oM 4 23]) .ret))
theorem ok113 : FnOk Tryz.prog 113 24 ir113 [.tmp 4] := fnOk_of mixed Tryz.func113 (by kernel_rfl) Tryz.ntmps113 (by kernel_rfl) (by kernel_rfl)

def ir116 : ACode := (sQ (.region [oO 4 (.mov (kI 0))]) (sQ (sQ (.region [oM 6 0,oO 7 (.len (tT 6)),oO 8 (.mov (kI 0))]) (.block 0 (.loop (sQ (.region [oO 9 (.bin .lss .num (tT 8) (tT 7))]) (sQ (.cond (tT 9) .skip (.exit 0)) (sQ (.block 1 (sQ (.region [oM 10 8,
 oM 5 10]) (sQ (.region [oM 11 1,oM 12 0,oM 13 5,oO 14 (.iaddr 1 (tT 12) (tT 13)),oO 15 (.load false 1 (tT 14)),oO 16 (.bin .eql .num (tT 11) (tT 15))]) (.cond (tT 16) (sQ (.region [oM 17 5,oM 4 17]) .ret) .skip)))) (.region [oO 18 (.bin .add .num (tT 8) (kI 1)),
 oM 8 18]))))))) (sQ (.region [oO 4 (.mov (.const (.int .i64 (-1))))]) .ret)))
theorem ok116 : FnOk Tryz.prog 116 19 ir116 [.tmp 4] := fnOk_of mixed Tryz.func116 (by kernel_rfl) Tryz.ntmps116 (by kernel_rfl) (by kernel_rfl)

def ir118 : ACode := (sQ (.region [oO 8 (.alloc [(.int .i64 0),(.int .i64 0),nS,nS])]) (sQ (.region [oM 15 0,oO 16 (kC 101 [(tT 15)]),oM 9 16]) (sQ (sQ (.region [oM 17 1,oO 18 (.bin .gtr .num (tT 17) (kI 1)),
 oM 19 18,oT 19 20 (.mov (tT 9)),oT 19 21 (.bin .rem .num (tT 20) (kI 3)),oT 19 22 (.bin .eql .num (tT 21) (kI 2)),oO 23 (.pick (tT 19) (tT 22) kF)]) (.cond (tT 23) (sQ (.region [oM 24 0,oM 25 1,oO 26 (.bin .sub .num (tT 25) (kI 1)),
 oM 27 2,oM 28 3,oO 29 (kC 118 [(tT 24),(tT 26),(tT 27),(tT 28)]),oO 10 (.alloc [(.int .i64 0),(.int .i64 0),nS,nS]),⟨none,.store 4 (tT 10) (tT 29),none⟩]) (sQ (.region [oM 30 0,oM 31 1,oO 32 (.bin .sub .num (tT 31) (kI 1)),
 oM 33 2,oM 34 3,oO 35 (kC 118 [(tT 30),(tT 32),(tT 33),(tT 34)]),oO 11 (.alloc [(.int .i64 0),(.int .i64 0),nS,nS]),⟨none,.store 4 (tT 11) (tT 35),none⟩]) (sQ (.region [oO 36 (.load true 4 (tT 10)),oO 37 (.load true 4 (tT 11)),
 oO 38 (.bslice [(.int .i64 0),(.int .i64 0),nS,nS] 2 [(0,(tT 36)),(1,(tT 37))]),oO 39 (.build [(.int .i64 0),(.int .i64 0),nS,nS] [(0,1,(kI 16)),(3,1,(tT 38))]),⟨none,.store 4 (tT 8) (tT 39),none⟩]) .ret))) .skip)) (sQ (sQ (.region [oM 40 9,
 oO 41 (.bin .rem .num (tT 40) (kI 3)),oO 42 (.bin .eql .num (tT 41) (kI 0))]) (.cond (tT 42) (sQ (.region [oM 43 9,oO 44 (.bin .quo .num (tT 43) (kI 3)),oO 45 (.bin .rem .num (tT 44) (kI 4)),oO 46 (.build [(.int .i64 0),
 (.int .i64 0),nS,nS] [(0,1,(kI 1)),(1,1,(tT 45))]),⟨none,.store 4 (tT 8) (tT 46),none⟩]) .ret) .skip)) (sQ (sQ (.region [oM 47 2,oO 48 (.bin .eql .num (tT 47) (kI 3))]) (.cond (tT 48) (sQ (.region [oM 49 9,
 oO 50 (.bin .quo .num (tT 49) (kI 3)),oM 51 3,oO 52 (.bin .rem .num (tT 50) (tT 51)),oO 53 (.bin .add .num (kI 1) (tT 52)),oO 54 (.bslice [(.int .i64 0)] 1 [(0,(tT 53))]),oO 55 (.build [(.int .i64 0),(.int .i64 0),
 nS,nS] [(0,1,(kI 6)),(2,1,(tT 54))]),⟨none,.store 4 (tT 8) (tT 55),none⟩]) .ret) .skip)) (sQ (.region [oO 56 (.build [(.int .i64 0),(.int .i64 0),nS,nS] [(0,1,(kI 5))]),oO 12 (.alloc [(.int .i64 0),(.int .i64 0),
 nS,nS]),⟨none,.store 4 (tT 12) (tT 56),none⟩]) (sQ (.region [oM 57 0,oO 58 (kC 101 [(tT 57)]),oM 13 58]) (sQ (sQ (.region [oO 14 (.mov (kI 1))]) (.block 0 (.loop (sQ (sQ (.region [oM 59 14,oM 60 3,oO 61 (.bin .leq .num (tT 59) (tT 60))]) (.cond (tT 61) .skip (.exit 0))) (sQ (.block 1 (sQ (.region [oM 64 13,
 oM 65 14,oO 66 (.bin .sub .num (tT 65) (kI 1)),oO 67 (.bin .shr .num (tT 64) (tT 66)),oO 68 (.bin .rem .num (tT 67) (kI 2)),oO 69 (.bin .eql .num (tT 68) (kI 1))]) (.cond (tT 69) (.region [oO 70 (.faddr 2 (tT 12)),
 oO 71 (.load false 1 (tT 70)),oM 72 14,oO 73 (.bslice [(.int .i64 0)] 1 [(0,(tT 72))]),oO 74 (.append [(.int .i64 0)] 8 (tT 71) (tT 73)),oO 75 (.faddr 2 (tT 12)),⟨none,.store 1 (tT 75) (tT 74),none⟩]) .skip))) (.region [oM 62 14,
 oO 63 (.bin .add .num (tT 62) (kI 1)),oM 14 63])))))) (sQ (sQ (.region [oO 76 (.faddr 2 (tT 12)),oO 77 (.load false 1 (tT 76)),oO 78 (.len (tT 77)),oO 79 (.bin .eql .num (tT 78) (kI 0))]) (.cond (tT 79) (.region [oM 80 9,
 oO 81 (.bin .quo .num (tT 80) (kI 3)),oM 82 3,oO 83 (.bin .rem .num (tT 81) (tT 82)),oO 84 (.bin .add .num (kI 1) (tT 83)),oO 85 (.bslice [(.int .i64 0)] 1 [(0,(tT 84))]),oO 86 (.faddr 2 (tT 12)),⟨none,
 .store 1 (tT 86) (tT 85),none⟩]) .skip)) (sQ (.region [oO 87 (.load true 4 (tT 12)),⟨none,.store 4 (tT 8) (tT 87),none⟩]) .ret))))))))))
theorem ok118 : FnOk Tryz.prog 118 88 ir118 [.cell 8 true 4] := fnOk_of mixed Tryz.func118 (by kernel_rfl) Tryz.ntmps118 (by kernel_rfl) (by kernel_rfl)

def ir119 : ACode := (sQ (.region [oO 4 (.mov (kI 0))]) (sQ (sQ (.region [oM 6 0,oO 7 (.len (tT 6)),oO 8 (.mov (kI 0))]) (.block 0 (.loop (sQ (.region [oO 9 (.bin .lss .num (tT 8) (tT 7))]) (sQ (.cond (tT 9) .skip (.exit 0)) (sQ (.block 1 (sQ (.region [oM 10 8,
 oM 5 10]) (sQ (.region [oM 11 1,oM 12 0,oM 13 5,oO 14 (.iaddr 1 (tT 12) (tT 13)),oO 15 (.load false 1 (tT 14)),oO 16 (.bin .eql .num (tT 11) (tT 15))]) (.cond (tT 16) (sQ (.region [oM 17 5,oM 4 17]) .ret) .skip)))) (.region [oO 18 (.bin .add .num (tT 8) (kI 1)),
 oM 8 18]))))))) (sQ (.region [oO 4 (.mov (.const (.int .i64 (-1))))]) .ret)))
theorem ok119 : FnOk Tryz.prog 119 19 ir119 [.tmp 4] := fnOk_of mixed Tryz.func119 (by kernel_rfl) Tryz.ntmps119 (by kernel_rfl) (by kernel_rfl)

def ir120 : ACode := (sQ (.region [oO 2 (.mov (kI 0))]) (sQ (.region [oM 3 0,oO 4 (.bin .shr .num (tT 3) (.const (.int .u64 1))),oO 5 (.bin .and .num (tT 4) (.const (.int .u64 6148914691236517205))),oM 6 0,
 oO 7 (.bin .and .num (tT 6) (.const (.int .u64 6148914691236517205))),oO 8 (.bin .add .num (tT 5) (tT 7)),oM 0 8]) (sQ (.region [oM 9 0,oO 10 (.bin .shr .num (tT 9) (.const (.int .u64 2))),oO 11 (.bin .and .num (tT 10) (.const (.int .u64 3689348814741910323))),
 oM 12 0,oO 13 (.bin .and .num (tT 12) (.const (.int .u64 3689348814741910323))),oO 14 (.bin .add .num (tT 11) (tT 13)),oM 0 14]) (sQ (.region [oM 15 0,oO 16 (.bin .shr .num (tT 15) (.const (.int .u64 4))),
 oM 17 0,oO 18 (.bin .add .num (tT 16) (tT 17)),oO 19 (.bin .and .num (tT 18) (.const (.int .u64 1085102592571150095))),oM 0 19]) (sQ (.region [oM 20 0,oM 21 0,oO 22 (.bin .shr .num (tT 21) (.const (.int .u64 8))),
 oO 23 (.bin .add .num (tT 20) (tT 22)),oM 0 23]) (sQ (.region [oM 24 0,oM 25 0,oO 26 (.bin .shr .num (tT 25) (.const (.int .u64 16))),oO 27 (.bin .add .num (tT 24) (tT 26)),oM 0 27]) (sQ (.region [oM 28 0,
 oM 29 0,oO 30 (.bin .shr .num (tT 29) (.const (.int .u64 32))),oO 31 (.bin .add .num (tT 28) (tT 30)),oM 0 31]) (sQ (.region [oM 32 0,oO 33 (.conv .i64 (tT 32)),oO 34 (.bin .and .num (tT 33) (kI 127)),
 oM 2 34]) .ret))))))))
theorem ok120 : FnOk Tryz.prog 120 35 ir120 [.tmp 2] := fnOk_of mixed Tryz.func120 (by kernel_rfl) Tryz.ntmps120 (by kernel_rfl) (by kernel_rfl)

def ir121 : ACode := (sQ (.region [oO 1 (.box (tT 0)),oO 2 (.mov (kI 0))]) (sQ (.region [oO 9 (.faddr 0 (tT 1)),oO 10 (.load false 1 (tT 9)),oO 11 (kC 132 [(tT 10)]),oM 8 11,oO 12 (.extract (tT 8) 0),oO 13 (.extract (tT 8) 1),
 oO 14 (.extract (tT 8) 2),oM 3 12,oM 4 13,oM 5 14]) (sQ (sQ (.region [oO 15 (.faddr 0 (tT 1)),oO 16 (.load false 1 (tT 15)),oO 17 (.bin .lss .num (tT 16) (.const (.int .u8 1))),oM 18 17,oF 18 19 (.faddr 0 (tT 1)),
 oF 18 20 (.load false 1 (tT 19)),oF 18 21 (.bin .gtr .num (tT 20) (.const (.int .u8 16))),oO 22 (.pick (tT 18) kT (tT 21)),oM 23 22,oF 23 24 (.faddr 3 (tT 1)),oF 23 25 (.load false 1 (tT 24)),oF 23 26 (.len (tT 25)),
 oF 23 27 (.mov (tT 3)),oF 23 28 (.bin .neq .num (tT 26) (tT 27)),oO 29 (.pick (tT 23) kT (tT 28))]) (.cond (tT 29) (sQ (.region [oO 2 (.mov (kI 1))]) .ret) .skip)) (sQ (sQ (.region [oO 30 (.faddr 0 (tT 1)),
 oO 31 (.load false 1 (tT 30)),oO 32 (.bin .neq .num (tT 31) (.const (.int .u8 1))),oM 33 32,oT 33 34 (.faddr 1 (tT 1)),oT 33 35 (.load false 1 (tT 34)),oT 33 36 (.bin .neq .num (tT 35) (kI 0)),oO 37 (.pick (tT 33) (tT 36) kF),
 oM 38 37,oF 38 39 (.faddr 2 (tT 1)),oF 38 40 (.load false 1 (tT 39)),oF 38 41 (.len (tT 40)),oF 38 42 (.mov (tT 4)),oF 38 43 (.bin .lss .num (tT 41) (tT 42)),oO 44 (.pick (tT 38) kT (tT 43)),oM 45 44,oF 45 46 (.faddr 2 (tT 1)),
 oF 45 47 (.load false 1 (tT 46)),oF 45 48 (.len (tT 47)),oF 45 49 (.mov (tT 5)),oF 45 50 (.bin .gtr .num (tT 48) (tT 49)),oO 51 (.pick (tT 45) kT (tT 50))]) (.cond (tT 51) (sQ (.region [oO 2 (.mov (kI 6))]) .ret) .skip)) (sQ (sQ (.region [oO 52 (.faddr 1 (tT 1)),
 oO 53 (.load false 1 (tT 52)),oO 54 (.bin .lss .num (tT 53) (kI 0)),oM 55 54,oF 55 56 (.faddr 1 (tT 1)),oF 55 57 (.load false 1 (tT 56)),oF 55 58 (.bin .gtr .num (tT 57) (kI 999999)),oO 59 (.pick (tT 55) kT (tT 58))]) (.cond (tT 59) (sQ (.region [oO 2 (.mov (kI 2))]) .ret) .skip)) (sQ (sQ (.region [oO 60 (.faddr 2 (tT 1)),
 oO 61 (.load false 1 (tT 60)),oO 62 (.len (tT 61)),oO 63 (.mov (kI 0))]) (.block 0 (.loop (sQ (.region [oO 64 (.bin .lss .num (tT 63) (tT 62))]) (sQ (.cond (tT 64) .skip (.exit 0)) (sQ (.block 1 (sQ (.region [oO 65 (.iaddr 1 (tT 61) (tT 63)),
 oO 66 (.load false 1 (tT 65)),oM 7 66]) (sQ (.region [oM 67 7,oO 68 (.bin .lss .num (tT 67) (kI 1)),oM 69 68,oF 69 70 (.mov (tT 7)),oF 69 71 (.bin .gtr .num (tT 70) (kI 63)),oO 72 (.pick (tT 69) kT (tT 71))]) (.cond (tT 72) (sQ (.region [oO 2 (.mov (kI 2))]) .ret) .skip)))) (.region [oO 73 (.bin .add .num (tT 63) (kI 1)),
 oM 63 73]))))))) (sQ (sQ (.draw [⟨0,oO 74 (.faddr 2 (tT 1)),0,0,false⟩,⟨1,oO 75 (.load false 1 (tT 74)),1,0,false⟩,⟨2,oO 76 (kC 28 [(tT 75)]),3,0,false⟩,⟨3,oO 77 (kC 108 [(tT 76)]),7,0,false⟩,⟨4,oO 78 (.faddr 2 (tT 1)),
 0,0,false⟩,⟨5,oO 79 (.load false 1 (tT 78)),16,0,false⟩,⟨6,oO 80 (.len (tT 79)),48,0,false⟩,⟨7,oO 81 (.bin .neq .num (tT 77) (tT 80)),127,1,false⟩]) (.cond (tT 81) (sQ (.region [oO 2 (.mov (kI 5))]) .ret) .skip)) (sQ (.region [oO 2 (.mov (kI 0))]) .ret))))))))
theorem ok121 : FnOk Tryz.prog 121 82 ir121 [.tmp 2] := fnOk_of mixed Tryz.func121 (by kernel_rfl) Tryz.ntmps121 (by kernel_rfl) (by kernel_rfl)

def ir132 : ACode := (sQ (.region [oO 2 (.mov (kI 0)),oO 3 (.mov (kI 0)),oO 4 (.mov (kI 0))]) (sQ (.block 0 (sQ (.region [oM 6 0,oO 7 (.bin .geq .num (tT 6) (.const (.int .u8 8))),oM 5 7]) (.cond (tT 5) (sQ (.region [oO 2 (.mov (kI 2)),
 oO 3 (.mov (kI 0)),oO 4 (.mov (kI 0))]) .ret) (sQ (.region [oM 9 0,oO 10 (.bin .eql .num (tT 9) (.const (.int .u8 7))),oM 8 10]) (.cond (tT 8) (sQ (.region [oO 2 (.mov (kI 1)),oO 3 (.mov (kI 0)),oO 4 (.mov (kI 0))]) .ret) (sQ (.region [oM 12 0,
 oO 13 (.bin .eql .num (tT 12) (.const (.int .u8 4))),oM 14 13,oF 14 15 (.mov (tT 0)),oF 14 16 (.bin .eql .num (tT 15) (.const (.int .u8 6))),oO 17 (.pick (tT 14) kT (tT 16)),oM 11 17]) (.cond (tT 11) (sQ (.region [oO 2 (.mov (kI 0)),
 oO 3 (.mov (kI 1)),oO 4 (.mov (kI 1))]) .ret) (sQ (.region [oM 19 0,oO 20 (.bin .eql .num (tT 19) (.const (.int .u8 5))),oM 18 20]) (.cond (tT 18) (sQ (.region [oO 2 (.mov (kI 0)),oO 3 (.mov (kI 1)),oO 4 (.mov (kI 8))]) .ret) .skip))))))))) (sQ (.region [oO 2 (.mov (kI 0)),
 oO 3 (.mov (kI 0)),oO 4 (.mov (kI 0))]) .ret)))
theorem ok132 : FnOk Tryz.prog 132 21 ir132 [.tmp 2, .tmp 3, .tmp 4] := fnOk_of mixed Tryz.func132 (by kernel_rfl) Tryz.ntmps132 (by kernel_rfl) (by kernel_rfl)

end Go.Proofs.YtcoehdmpjflmlaaGreatDoor

namespace Go.Proofs.YtcoehdmpjflmlaaGreatDoor
open Go.RowKit
set_option linter.unusedVariables false
set_option linter.unusedSimpArgs false

attribute [local irreducible] aw opsK dK

section
variable {P : Program} {C : Ctx} {e : Env} {h : Heap} {n : Nat} {K : Nat→Env→Heap→Prop} {os : List AOper} {d : Option Nat} {Q : Exit→Nat→Env→Heap→Prop}

def wantV (g : Option (Nat × Bool)) (e : Env) : Option Bool :=
 match g with
 | none => some true
 | some (s, b) => match e s with
   | some (.val (.bool c)) => some (c == b)
   | some (.val (.tuple _)) => some false
   | _ => none

theorem wantK_of {g : Option (Nat × Bool)} {A B : Prop} {b : Bool} (h : wantV g e = some b) (hk : if b = true then A else B) : wantK g e A B := by
 unfold wantV at h
 unfold wantK
 split at h
 · cases h; exact hk
 · split at h
   · rename_i c hc
     cases h
     try simp only [hc]
     split
     · rename_i hcb; subst hcb; simpa using hk
     · rename_i hcb; simpa [hcb] using hk
   · rename_i c hc
     cases h
     try simp only [hc]
     simpa using hk
   · cases h

theorem subA_refl : SubA n e h n e h := fun _ _ _ h => h
theorem opsK_on {op : AOp} {g : Nat × Bool} (hw : wantV (some g) e = some true) (hk : opsK P (⟨d,op,none⟩ :: os) n e h K) : opsK P (⟨d,op,some g⟩ :: os) n e h K := by
 unfold opsK at hk ⊢
 exact wantK_of hw (by simpa [wantK] using hk)
theorem opsK_sub {n' : Nat} {e' : Env} {h' : Heap} (hs : SubA n e h n' e' h') {op : AOp} (hk : opsK P (⟨d,op,none⟩ :: os) n' e' h' K) : opsK P (⟨d,op,none⟩ :: os) n e h K := by
 unfold opsK at hk ⊢
 simp only [wantK] at hk ⊢
 obtain ⟨n1,e1,h1,hs1,hk⟩ := hk
 exact ⟨n1,e1,h1,fun C a w hst => hs1 C a w (hs C a w hst),hk⟩
theorem opsK_off {op : AOp} {g : Nat × Bool} (hw : wantV (some g) e = some false) (hk : opsK P os n (updO e d pvu) h K) : opsK P (⟨d,op,some g⟩ :: os) n e h K := by
 unfold opsK
 exact wantK_of hw (by simpa using hk)

theorem opsK_of' {op : AOp} {p : PV} {h' : Heap} (hd : dEval op e h n = some (p,h') ∨ fEval op e h n = some (p,h')) (hn : isCall op = false) (hk : opsK P os (bmp h' n) (updO e d p) h' K) : opsK P (⟨d,op,none⟩ :: os) n e h K := by
 unfold opsK
 exact ⟨n,e,h,subA_refl,.inl (opK_det hn hd hk)⟩
theorem bmp_none (hz : h n = none) : bmp h n = n := by simp [bmp,hz]
theorem bmp_some {b : Bx} (hz : h n = some b) : bmp h n = n + 1 := by simp [bmp,hz]
theorem opsK_of {op : AOp} {p : PV} {h' : Heap} (hd : dEval op e h n = some (p,h')) (hn : isCall op = false) (hz : h' n = none) (hk : opsK P os n (updO e d p) h' K) : opsK P (⟨d,op,none⟩ :: os) n e h K :=
 opsK_of' (.inl hd) hn (by rw [bmp_none hz]; exact hk)
theorem opsK_new {op : AOp} {p : PV} {h' : Heap} {b : Bx} (hd : dEval op e h n = some (p,h')) (hn : isCall op = false) (hz : h' n = some b) (hk : opsK P os (n + 1) (updO e d p) h' K) : opsK P (⟨d,op,none⟩ :: os) n e h K :=
 opsK_of' (.inl hd) hn (by rw [bmp_some hz]; exact hk)
theorem opsK_ofAlt {op : AOp} {p : PV} {h' : Heap} (hd : fEval op e h n = some (p,h')) (hn : isCall op = false) (hz : h' n = none) (hk : opsK P os n (updO e d p) h' K) : opsK P (⟨d,op,none⟩ :: os) n e h K :=
 opsK_of' (.inr hd) hn (by rw [bmp_none hz]; exact hk)
theorem opsK_bool {op : AOp} {b : Bool} {h' : Heap} (hd : dEval op e h n = some (.val (.bool b),h')) (hn : isCall op = false) (hz : h' n = none) (ht : b = true→opsK P os n (updO e d (.val (.bool true))) h' K) (hf : b = false→opsK P os n (updO e d (.val (.bool false))) h' K) : opsK P (⟨d,op,none⟩ :: os) n e h K := by
 cases b with
 | true => exact opsK_of hd hn hz (ht rfl)
 | false => exact opsK_of hd hn hz (hf rfl)
theorem opsK_spec {f : Operand} {args : List Operand} {g : FuncId} {caps as0 : List PV} {R : PV→Prop} (hf : ev e f = some (.fn g caps)) (ha : evs e args = some as0) (hs : Spec P g (as0 ++ caps) R) (hp : pureL (as0 ++ caps)) (hz : h n = none) (hk : ∀ r,R r→opsK P os n (updO e d r) h K) :
 opsK P (⟨d,.call f args,none⟩ :: os) n e h K := by
 unfold opsK
 exact ⟨n,e,h,subA_refl,.inl ⟨g,caps,as0,R,hf,ha,.of (.inl rfl) hp hs,fun r hr=>by show opsK P os (bmp h n) (updO e d r) h K; rw [bmp_none hz]; exact hk r hr⟩⟩
theorem opsK_eq {f : Operand} {args : List Operand} {g : FuncId} {caps as0 args' : List PV} {v : PV} (hs : Spec P g args' (· = v)) (hf : ev e f = some (.fn g caps)) (ha : evs e args = some as0) (ha' : as0 ++ caps = args') (hp : pureL args') (hz : h n = none) (hk : opsK P os n (updO e d v) h K) :
 opsK P (⟨d,.call f args,none⟩ :: os) n e h K := by
 subst ha'
 exact opsK_spec hf ha hs hp hz fun _ hr => hr ▸ hk
theorem opsK_heap {f : Operand} {args : List Operand} {g : FuncId} {caps as0 : List PV} {R : Nat→PV→Heap→Prop} (hf : ev e f = some (.fn g caps)) (ha : evs e args = some as0)
 (hs : ISpec P g n (as0 ++ caps) h R) (hk : ∀ n' r h',R n' r h'→opsK P os n' (updO e d r) h' K) : opsK P (⟨d,.call f args,none⟩ :: os) n e h K := by
 unfold opsK
 exact ⟨n,e,h,subA_refl,.inr ⟨f,args,g,caps,as0,R,rfl,hf,ha,hs,hk⟩⟩
theorem opsK_done (hk : K n e h) : opsK P [] n e h K := by unfold opsK; exact hk

theorem opsK_iaddr {α : Type} {esz : Nat} {x i : Operand} {xs : List α} {g : α→List PV} {fl : Bool} {k : IntKind} {m : Int} (hx : ev e x = some (.vec (xs.map g) fl)) (hi : ev e i = some (.val (.int k m))) (j : Nat) (hm : m = (j : Int)) (hj : j < xs.length) (hl : (g xs[j]).length = esz)
 (hz : h n = none) (hk : opsK P os n (updO e d (.cp (g xs[j]))) h K) : opsK P (⟨d,.iaddr esz x i,none⟩ :: os) n e h K := by
 subst hm
 have e1 : (xs.map g).getD (j : Int).toNat [] = g xs[j] := by simp [List.getD_eq_getElem?_getD,hj]
 refine opsK_of (p := .cp (g xs[j])) (h' := h) ?_ rfl hz hk
 simp only [dEval,hx,hi,e1,hl]
 rw [if_pos ⟨by omega,by simp; omega⟩]; simp
theorem opsK_iaddrO {esz : Nat} {x i : Operand} {id : Nat} {b : Bx} {k : IntKind} {m : Int} (hx : ev e x = some (.own id)) (hi : ev e i = some (.val (.int k m))) (hb : h id = some b) (j : Nat) (hm : m = (j : Int)) (hj : j < b.elems.length) (hl : b.esz = esz)
 (hz : h n = none) (hk : opsK P os n (updO e d (.ptr id j 0)) h K) : opsK P (⟨d,.iaddr esz x i,none⟩ :: os) n e h K := by
 subst hm
 refine opsK_of (p := .ptr id j 0) (h' := h) ?_ rfl hz hk
 simp only [dEval,hx,hi,hb,hl]
 rw [if_pos ⟨by omega,by omega⟩]; simp
theorem opsK_shr {x y : Operand} {k k' : IntKind} {a b : Int} (hx : ev e x = some (.val (.int k a))) (hy : ev e y = some (.val (.int k' b))) (hb : 0≤b) {v : Int} (hv : a.fdiv (2 ^ (min b.toNat k.bits)) = v) (hz : h n = none) (hk : opsK P os n (updO e d (.val (.int k v))) h K) : opsK P (⟨d,.bin .shr .num x y,none⟩ :: os) n e h K :=
 opsK_of (p := .val (.int k v)) (h' := h) (by simp [dEval,hx,hy,pbin,sbin,hb,hv]) rfl hz hk
theorem opsK_int {op : AOp} {k : IntKind} {a v : Int} {h' : Heap} (hd : dEval op e h n = some (.val (.int k a),h')) (hn : isCall op = false) (hz : h' n = none) (hv : a = v) (hk : opsK P os n (updO e d (.val (.int k v))) h' K) : opsK P (⟨d,op,none⟩ :: os) n e h K := by
 subst hv; exact opsK_of hd hn hz hk
theorem opsK_boolEq {op : AOp} {a v : Bool} {h' : Heap} (hd : dEval op e h n = some (.val (.bool a),h')) (hn : isCall op = false) (hz : h' n = none) (hv : a = v) (hk : opsK P os n (updO e d (.val (.bool v))) h' K) : opsK P (⟨d,op,none⟩ :: os) n e h K := by
 subst hv; exact opsK_of hd hn hz hk

theorem opsK_slc {α : Type} {esz : Nat} {x : Operand} {lo hi : Option Operand} {xs : List α} {g : α→List PV} {fl : Bool} (hx : ev e x = some (.vec (xs.map g) fl)) (a b : Nat) (hlo : bndAt e 0 lo = some (a : Int)) (hhi : bndAt e ((xs.map g).length : Nat) hi = some (b : Int)) (hab : a≤b) (hb : b≤xs.length) (hg : ∀ x,(g x).length = esz)
 (hz : h n = none) (hk : opsK P os n (updO e d (.vec (((xs.take b).drop a).map g) false)) h K) : opsK P (⟨d,.slc esz x lo hi none,none⟩ :: os) n e h K := by
 refine opsK_of (p := .vec (((xs.take b).drop a).map g) false) (h' := h) ?_ rfl hz hk
 simp only [dEval,hx,hlo,hhi]
 have hall : ∀ c∈xs.map g,c.length = esz := fun c hc=>by obtain ⟨y,_,rfl⟩ := List.mem_map.1 hc; exact hg y
 rw [if_pos ⟨⟨by omega,by omega,by simp; omega⟩,hall⟩]
 simp [List.map_drop,List.map_take]

theorem E_iaddr {α : Type} {esz : Nat} {x i : Operand} {xs : List α} {g : α→List PV} {fl : Bool} {k : IntKind} {m : Int} (hx : ev e x = some (.vec (xs.map g) fl)) (hi : ev e i = some (.val (.int k m))) (j : Nat) (hm : m = (j : Int)) (hj : j < xs.length) (hl : (g xs[j]).length = esz) :
 dEval (.iaddr esz x i) e h n = some (.cp (g xs[j]),h) := by
 subst hm
 have e1 : (xs.map g).getD (j : Int).toNat [] = g xs[j] := by simp [List.getD_eq_getElem?_getD,hj]
 simp only [dEval,hx,hi,e1,hl]
 rw [if_pos ⟨by omega,by simp; omega⟩]; simp
theorem E_iaddrO {esz : Nat} {x i : Operand} {id : Nat} {b : Bx} {k : IntKind} {m : Int} (hx : ev e x = some (.own id)) (hi : ev e i = some (.val (.int k m))) (hb : h id = some b) (j : Nat) (hm : m = (j : Int)) (hj : j < b.elems.length) (hl : b.esz = esz) :
 dEval (.iaddr esz x i) e h n = some (.ptr id j 0,h) := by
 subst hm
 simp only [dEval,hx,hi,hb,hl]
 rw [if_pos ⟨by omega,by omega⟩]; simp
theorem E_shl {x y : Operand} {k k' : IntKind} {a b : Int} (hx : ev e x = some (.val (.int k a))) (hy : ev e y = some (.val (.int k' b))) (hb : 0≤b) {v : Int} (hv : k.wrap (a * 2 ^ (min b.toNat k.bits)) = v) : dEval (.bin .shl .num x y) e h n = some (.val (.int k v),h) := by simp [dEval,hx,hy,pbin,sbin,hb,hv]
theorem E_int {op : AOp} {k : IntKind} {a v : Int} (hd : dEval op e h n = some (.val (.int k a),h)) (hv : a = v) : dEval op e h n = some (.val (.int k v),h) := by subst hv; exact hd
theorem E_boolEq {op : AOp} {a v : Bool} (hd : dEval op e h n = some (.val (.bool a),h)) (hv : a = v) : dEval op e h n = some (.val (.bool v),h) := by subst hv; exact hd
theorem E_mslice {z : List Value} {bytes : Nat} {l c : Operand} {a b : Nat} (hl : intAt (ev e l) = some (a : Int)) (hc : intAt (ev e c) = some (b : Int)) (hab : a≤b) (hb : bytes * b≤281474976710656) :
 dEval (.mslice z bytes l c) e h n = some (.own n,h.upd n ⟨z.length,List.replicate a (zpv z)⟩) := by
 simp only [dEval,hl,hc]
 rw [if_pos ⟨by omega,by omega,by rw [← Int.natCast_mul]; omega⟩]; simp
theorem E_slc {α : Type} {esz : Nat} {x : Operand} {lo hi : Option Operand} {xs : List α} {g : α→List PV} {fl : Bool} (hx : ev e x = some (.vec (xs.map g) fl)) (a b : Nat) (hlo : bndAt e 0 lo = some (a : Int)) (hhi : bndAt e ((xs.map g).length : Nat) hi = some (b : Int)) (hab : a≤b) (hb : b≤xs.length) (hg : ∀ x,(g x).length = esz) :
 dEval (.slc esz x lo hi none) e h n = some (.vec (((xs.take b).drop a).map g) false,h) := by
 simp only [dEval,hx,hlo,hhi]
 have hall : ∀ c∈xs.map g,c.length = esz := fun c hc=>by obtain ⟨y,_,rfl⟩ := List.mem_map.1 hc; exact hg y
 rw [if_pos ⟨⟨by omega,by omega,by simp; omega⟩,hall⟩]
 simp [List.map_drop,List.map_take]
theorem E_load {agg : Bool} {size : Nat} {a : Operand} {k i off : Nat} {b : Bx} {p : PV} (ha : ev e a = some (.ptr k i off)) (hb : h k = some b) (hi : i < b.elems.length) (hc : cutAt agg size off (b.elems.getD i []) = some p) : dEval (.load agg size a) e h n = some (p,h) := by
 simp only [dEval,ha,hb,if_pos hi,hc]
theorem E_store {size : Nat} {a v : Operand} {k i off : Nat} {b : Bx} {p : PV} (ha : ev e a = some (.ptr k i off)) (hv : ev e v = some p) (hb : h k = some b) (hf : p.flat = true) (hl : p.cells.length = size) (hi : i < b.elems.length) (ho : off + size≤b.esz) :
 dEval (.store size a v) e h n = some (pvu,h.upd k ⟨b.esz,b.elems.set i (setAt (b.elems.getD i []) off p.cells)⟩) := by
 subst hl
 simp only [dEval,ha,hv,hb]
 rw [if_pos (by simp [hf,hi,ho])]
theorem E_append {z : List Value} {bytes : Nat} {s x : Operand} {k : Nat} {m : List (List PV)} {fl : Bool} {b : Bx} (hs : ev e s = some (.own k)) (hx : ev e x = some (.vec m fl)) (hb : h k = some b) (hm : ∀ c∈m,c.length = z.length) (he : b.esz = z.length) (hby : (b.elems.length + m.length) * bytes≤140737488355328) :
 dEval (.append z bytes s x) e h n = some (.own n,(h.del k).upd n ⟨b.esz,b.elems ++ m⟩) := by
 simp only [dEval,hs,hx,hb]
 rw [if_pos ⟨hm,he,hby⟩]; rfl
theorem E_copy {esz : Nat} {d s : Operand} {k : Nat} {m : List (List PV)} {fl : Bool} {b : Bx} (hd : ev e d = some (.own k)) (hs : ev e s = some (.vec m fl)) (hb : h k = some b) (hm : ∀ c∈m,c.length = esz) (he : b.esz = esz) :
 dEval (.copy esz d s) e h n = some (.val (.int .i64 (min m.length b.elems.length : Nat)),h.upd k ⟨b.esz,m.take b.elems.length ++ b.elems.drop m.length⟩) := by
 simp only [dEval,hd,hs,hb]
 rw [if_pos ⟨hm,he⟩]
theorem E_appendF {z : List Value} {bytes : Nat} {s x : Operand} {l m : List (List PV)} {fl : Bool} (hs : ev e s = some (.vec l true)) (hx : ev e x = some (.vec m fl)) (hl : ∀ c∈l,c.length = z.length) (hm : ∀ c∈m,c.length = z.length) (hby : (l.length + m.length) * bytes≤140737488355328) :
 fEval (.append z bytes s x) e h n = some (.vec (l ++ m) false,h) := by
 simp only [fEval,hs,hx]
 rw [if_pos ⟨hl,hm,hby⟩]
theorem subA_ownNil {k : Nat} (hk : e k = some (.vec [] true)) (esz : Nat) (hp : 0 < esz) : SubA n e h (n + 1) (e.upd k (.own n)) (h.upd n ⟨esz,[]⟩) := fun _ => sub_ownNil hk esz hp
theorem subA_freeze {k id : Nat} {b : Bx} (hk : e k = some (.own id)) (hb : h id = some b) (hp : pureLL b.elems) : SubA n e h n (e.upd k (.vec b.elems false)) (h.del id) := fun _ => sub_freeze hk hb hp
theorem subA_freezeBox {k id : Nat} {esz : Nat} {l : List PV} (hk : e k = some (.ptr id 0 0)) (hb : h id = some ⟨esz,[l]⟩) (hp : pureL l) : SubA n e h n (e.upd k (.cp l)) (h.del id) := fun _ => sub_freezeBox hk hb

theorem dK_of {z : Rsv} {i mask : Nat} {op : AOp} {iso : Nat} {xs : List DItem} {K : Env→Heap→Prop} {p : PV} {h' : Heap} (hd : dEval op e h (n + i) = some (p,h')) (ha : accOk z op e n i mask iso = true) (hn : isCall op = false) (hk : dK P z n xs (updO e d p) h' K) : dK P z n (⟨i,⟨d,op,none⟩,mask,iso,false⟩ :: xs) e h K := dK_det hd ha hn hk
theorem dK_ofAlt {z : Rsv} {i mask : Nat} {op : AOp} {iso : Nat} {xs : List DItem} {K : Env→Heap→Prop} {p : PV} {h' : Heap} (hd : fEval op e h (n + i) = some (p,h')) (ha : accOk z op e n i mask iso = true) (hn : isCall op = false) (hk : dK P z n xs (updO e d p) h' K) : dK P z n (⟨i,⟨d,op,none⟩,mask,iso,true⟩ :: xs) e h K := dK_det hd ha hn hk
theorem dK_bool {z : Rsv} {i mask : Nat} {op : AOp} {iso : Nat} {xs : List DItem} {K : Env→Heap→Prop} {b : Bool} {h' : Heap} (hd : dEval op e h (n + i) = some (.val (.bool b),h')) (ha : accOk z op e n i mask iso = true) (hn : isCall op = false) (ht : b = true→dK P z n xs (updO e d (.val (.bool true))) h' K) (hf : b = false→dK P z n xs (updO e d (.val (.bool false))) h' K) : dK P z n (⟨i,⟨d,op,none⟩,mask,iso,false⟩ :: xs) e h K := by
 cases b with
 | true => exact dK_of hd ha hn (ht rfl)
 | false => exact dK_of hd ha hn (hf rfl)
theorem dK_on {z : Rsv} {i mask : Nat} {op : AOp} {iso : Nat} {alt : Bool} {g : Nat × Bool} {xs : List DItem} {K : Env→Heap→Prop} (hw : wantV (some g) e = some true) (hk : dK P z n (⟨i,⟨d,op,none⟩,mask,iso,alt⟩ :: xs) e h K) : dK P z n (⟨i,⟨d,op,some g⟩,mask,iso,alt⟩ :: xs) e h K := by
 obtain ⟨s,b⟩ := g
 unfold wantV at hw
 simp only at hw
 split at hw
 · rename_i c hc
   exact dK_guard (x := ⟨i,⟨d,op,some (s,b)⟩,mask,iso,alt⟩) rfl hc (fun _ => hk) fun hne => absurd (by simpa using hw) hne
 · cases hw
 · cases hw
theorem dK_off {z : Rsv} {i mask : Nat} {op : AOp} {iso : Nat} {alt : Bool} {g : Nat × Bool} {xs : List DItem} {K : Env→Heap→Prop} (hw : ∃ c,e g.1 = some (.val (.bool c))∧c≠g.2) (hk : dK P z n xs (updO e d pvu) h K) : dK P z n (⟨i,⟨d,op,some g⟩,mask,iso,alt⟩ :: xs) e h K := by
 obtain ⟨s,b⟩ := g
 obtain ⟨c,hc,hne⟩ := hw
 exact dK_guard (x := ⟨i,⟨d,op,some (s,b)⟩,mask,iso,alt⟩) rfl hc (fun h => absurd h hne) fun _ => hk
theorem dK_eq {z : Rsv} {i mask : Nat} {f : Operand} {args : List Operand} {iso : Nat} {alt : Bool} {xs : List DItem} {K : Env→Heap→Prop} {g : FuncId} {caps as0 args' : List PV} {v : PV} (hs : Spec P g args' (· = v)) (hf : ev e f = some (.fn g caps)) (ha : evs e args = some as0) (ha' : as0 ++ caps = args') (hp : pureL args') (hk : dK P z n xs (updO e d v) h K) :
 dK P z n (⟨i,⟨d,.call f args,none⟩,mask,iso,alt⟩ :: xs) e h K := by
 subst ha'
 exact dK_call hf ha (.inl rfl) hs hp fun _ hr => hr ▸ hk
theorem dK_done {z : Rsv} {K : Env→Heap→Prop} (hk : K e h) : dK P z n [] e h K := dK_nil hk

theorem aw_condT {c : Operand} {x y : ACode} (hc : ev e c = some (.val (.bool true))) (hk : aw P C x Q n e h) : aw P C (.cond c x y) Q n e h := aw_cond hc (fun _ => hk) fun h=>by cases h
theorem aw_condF {c : Operand} {x y : ACode} (hc : ev e c = some (.val (.bool false))) (hk : aw P C y Q n e h) : aw P C (.cond c x y) Q n e h := aw_cond hc (fun h=>by cases h) fun _ => hk

theorem ret_ok {rs : List ARes} {R : PV→Prop} {r : PV} (hr : retAll rs e h = some r) (hp : r.pure) (hR : R r) : ∃ r0 r,retAll rs e h = some r0∧LoP r0 r∧r.pure∧R r := ⟨r,r,hr,.inl rfl,hp,hR⟩
theorem ret_low {rs : List ARes} {R : PV→Prop} {r : PV} (hr : retAll rs e h = some r) (hp : r.low.pure) (hR : R r.low) : ∃ r0 r,retAll rs e h = some r0∧LoP r0 r∧r.pure∧R r := ⟨r,r.low,hr,.inr rfl,hp,hR⟩
def EnvIn (e : Env) : List (Nat × PV)→Prop
 | [] => True
 | (k,p) :: r => e k = some p∧EnvIn e r
theorem EnvIn.some {L : List (Nat × PV)} (he : EnvIn e L) {k : Nat} {p : PV} (hk : envL L k = some p) : e k = some p := by
 induction L with
 | nil => cases hk
 | cons q r ih =>
   obtain ⟨k',p'⟩ := q
   obtain ⟨h1,h2⟩ := he
   simp only [envL] at hk
   by_cases hkk : k = k'
   · subst hkk; rw [Env.upd_same] at hk; cases hk; exact h1
   · rw [Env.upd_ne _ _ hkk] at hk; exact ih h2 hk
theorem sub_env {L : List (Nat × PV)} (he : EnvIn e L) : Sub C n e h n (envL L) h := by
 rintro a w ⟨F,φ,s⟩
 exact ⟨F,φ,{ s with env := fun k p hk => s.env k p (he.some hk) }⟩
theorem sub_heap {h' : Heap} (hh : ∀ i b,h' i = some b→h i = some b) : Sub C n e h n e h' := by
 rintro a w ⟨F,φ,s⟩
 exact ⟨F,φ,{ s with live := fun i b hb => s.live i b (hh i b hb),sep := fun i j bi bj li lj k hi hj => s.sep i j bi bj li lj k (hh _ _ hi) (hh _ _ hj) }⟩
theorem aw_loopE {X : Type} (I : X→Prop) (μ : X→Nat) (L : X→List (Nat × PV)) {body : ACode} (x0 : X) (h0 : I x0) (hL : EnvIn e (L x0))
 (round : ∀ x,I x→aw P C body (thenQ (fun n' e' h' => ∃ x',I x'∧μ x' < μ x∧n' = n∧h' = h∧EnvIn e' (L x')) Q) n (envL (L x)) h) : aw P C (.loop body) Q n e h :=
 aw_loop I μ (fun _ => n) (fun x => envL (L x)) (fun _ => h) x0 h0 (sub_env hL) fun x hx => aw_mono (round x hx) fun ex n e h hq => by
  cases ex with
  | normal => obtain ⟨x',h1,h2,rfl,rfl,h4⟩ := hq; exact ⟨x',h1,h2,sub_env h4⟩
  | _ => exact hq

def EnvR (e : Env) (m : Nat) : List (Nat × PV)→Prop
 | [] => True
 | (k,p) :: r => (e k = some p∧p.inn (· < m))∧EnvR e m r
def HeapR (h : Heap) (m : Nat) : List (Nat × Bx)→Prop
 | [] => True
 | (k,b) :: r => (k < m∧h k = some b∧innLL (· < m) b.elems)∧HeapR h m r
theorem EnvR.some {m : Nat} {L : List (Nat × PV)} (he : EnvR e m L) {k : Nat} {p : PV} (hk : envL L k = some p) : e k = some p∧p.inn (· < m) := by
 induction L with
 | nil => cases hk
 | cons q r ih =>
   obtain ⟨k',p'⟩ := q
   obtain ⟨h1,h2⟩ := he
   simp only [envL] at hk
   by_cases hkk : k = k'
   · subst hkk; rw [Env.upd_same] at hk; cases hk; exact h1
   · rw [Env.upd_ne _ _ hkk] at hk; exact ih h2 hk
theorem HeapR.some {m : Nat} {L : List (Nat × Bx)} (he : HeapR h m L) {k : Nat} {p : Bx} (hk : heapL L k = some p) : k < m∧h k = some p∧innLL (· < m) p.elems := by
 induction L with
 | nil => cases hk
 | cons q r ih =>
   obtain ⟨k',p'⟩ := q
   obtain ⟨h1,h2⟩ := he
   simp only [heapL] at hk
   by_cases hkk : k = k'
   · subst hkk; rw [Heap.upd_same] at hk; cases hk; exact h1
   · rw [Heap.upd_ne _ _ hkk] at hk; exact ih h2 hk
theorem sub_keep {m n' : Nat} (hdom : C.dom m) (hm : m≤n') {L : List (Nat × PV)} {HL : List (Nat × Bx)} (he : EnvR e n' L) (hh : HeapR h n' HL) : Sub C n e h n' (envL L) (heapL HL) := by
 rintro a w ⟨F,φ,s⟩
 let φ' : Locs := fun i => if i < n' then φ i else none
 have hφ : ∀ i x,i < n'→φ i = some x→φ' i = some x := fun i x hi hx=>by simp only [φ',hi,if_true]; exact hx
 refine ⟨F,φ',{ nt := s.nt,glob := s.glob,marks := s.marks,loc0 := fun i x hx => ?_,free := fun i hi => ?_,env := fun k p hp => ?_,froz := s.froz,ext := s.ext,old := s.old,os := s.os,tape := s.tape,output := s.output,size := s.size,kept := s.kept,live := fun i b hb => ?_,sep := ?_ }⟩
 · have : ¬ i < n' := by omega
   simp only [φ',this,if_false]
 · obtain ⟨h0, hr⟩ := he.some hp
   exact ⟨(s.env k p h0).1,(s.env k p h0).2.inn hφ hr⟩
 · by_cases him : i < m
   · exact hφ i x (by omega) (s.loc0 i x hx)
   · rw [hdom i (by omega)] at hx; cases hx
 · obtain ⟨hi, h0, hr⟩ := hh.some hb
   obtain ⟨loc,h1,h2,h3⟩ := s.live _ b h0
   exact ⟨loc,hφ i loc hi h1,h2.inn hφ hr,h3⟩
 · intro i j bi bj li lj k hi hj hli hlj hki hkj
   obtain ⟨hin,h0,_⟩ := hh.some hi
   obtain ⟨hjn,g0,_⟩ := hh.some hj
   have hli' : φ i = some li := by simpa only [φ',show i < n' from hin,if_true] using hli
   have hlj' : φ j = some lj := by simpa only [φ',show j < n' from hjn,if_true] using hlj
   exact s.sep _ _ bi bj li lj k h0 g0 hli' hlj' hki hkj
theorem aw_loopH {X : Type} {m : Nat} (hdom : C.dom m) (I : X→Prop) (μ : X→Nat) (N : Nat) (L : X→List (Nat × PV)) (HL : X→List (Nat × Bx)) {body : ACode} (hm : m≤N) (x0 : X) (h0 : I x0) (hL : EnvR e N (L x0)) (hH : HeapR h N (HL x0))
 (round : ∀ x,I x→aw P C body (thenQ (fun n' e' h' => ∃ x',I x'∧μ x' < μ x∧EnvR e' N (L x')∧HeapR h' N (HL x')) Q) N (envL (L x)) (heapL (HL x))) : aw P C (.loop body) Q n e h :=
 aw_loop I μ (fun _ => N) (fun x => envL (L x)) (fun x => heapL (HL x)) x0 h0 (sub_keep hdom hm hL hH) fun x hx => aw_mono (round x hx) fun ex n e h hq => by
  cases ex with
  | normal => obtain ⟨x',h1,h2,h3,h4⟩ := hq; exact ⟨x',h1,h2,sub_keep hdom hm h3 h4⟩
  | _ => exact hq

def EnvQ (ρ : Nat→Nat) (e : Env) (m : Nat) : List (Nat × PV)→Prop
 | [] => True
 | (k,p) :: r => (∃ p0,e k = some p0∧RenP ρ (· < m) p0 p)∧EnvQ ρ e m r
def HeapQ (ρ : Nat→Nat) (h : Heap) (m : Nat) : List (Nat × Bx)→Prop
 | [] => True
 | (k,b) :: r => (k < m∧∃ b0,h (ρ k) = some b0∧RenB ρ (· < m) b0 b)∧HeapQ ρ h m r
theorem EnvQ.mem {ρ : Nat→Nat} {m : Nat} : ∀ {L : List (Nat × PV)},EnvQ ρ e m L→∀ q∈L,∃ p0,e q.1 = some p0∧RenP ρ (· < m) p0 q.2
 | [],_,q,hq=>by cases hq
 | (k, p) :: r, h, q, hq => by
   rcases List.mem_cons.1 hq with rfl | hq
   · exact h.1
   · exact EnvQ.mem h.2 q hq
theorem HeapQ.mem {ρ : Nat→Nat} {m : Nat} : ∀ {L : List (Nat × Bx)},HeapQ ρ h m L→∀ q∈L,q.1 < m∧∃ b0,h (ρ q.1) = some b0∧RenB ρ (· < m) b0 q.2
 | [],_,q,hq=>by cases hq
 | (k, p) :: r, h, q, hq => by
   rcases List.mem_cons.1 hq with rfl | hq
   · exact h.1
   · exact HeapQ.mem h.2 q hq
def InjOn (ρ : Nat→Nat) (HL : List (Nat × Bx)) : Prop := ∀ q∈HL,∀ q'∈HL,ρ q.1 = ρ q'.1→q.1 = q'.1
theorem aw_loopR {X : Type} {m : Nat} (hdom : C.dom m) (I : X→Prop) (μ : X→Nat) (N : Nat) (L : X→List (Nat × PV)) (HL : X→List (Nat × Bx)) {body : ACode} (hm : m≤N) (x0 : X) (h0 : I x0) (ρ0 : Nat→Nat) (hρ0 : ∀ i,i < m→ρ0 i = i) (hi0 : InjOn ρ0 (HL x0)) (hL : EnvQ ρ0 e N (L x0)) (hH : HeapQ ρ0 h N (HL x0))
 (round : ∀ x,I x→aw P C body (thenQ (fun n' e' h' => ∃ x' ρ,I x'∧μ x' < μ x∧(∀ i,i < m→ρ i = i)∧InjOn ρ (HL x')∧EnvQ ρ e' N (L x')∧HeapQ ρ h' N (HL x')) Q) N (envL (L x)) (heapL (HL x))) : aw P C (.loop body) Q n e h :=
 aw_loop I μ (fun _ => N) (fun x => envL (L x)) (fun x => heapL (HL x)) x0 h0 (sub_ren ρ0 hL.mem hH.mem hi0 hdom hm hρ0) fun x hx => aw_mono (round x hx) fun ex n e h hq => by
  cases ex with
  | normal => obtain ⟨x',ρ,h1,h2,h3,h4,h5,h6⟩ := hq; exact ⟨x',h1,h2,sub_ren ρ h5.mem h6.mem h4 hdom hm h3⟩
  | _ => exact hq
theorem aw_keep {m n' : Nat} (hdom : C.dom m) (L : List (Nat × PV)) (HL : List (Nat × Bx)) (hm : m≤n') (he : EnvR e n' L) (hh : HeapR h n' HL) {ac : ACode} (hk : aw P C ac Q n' (envL L) (heapL HL)) : aw P C ac Q n e h := aw_sub (sub_keep hdom hm he hh) hk
theorem aw_cut {m : Nat} (hdom : C.dom m) (A : Prop) (N : Nat) (L : List (Nat × PV)) (HL : List (Nat × Bx)) {x y : ACode} (hm : m≤N) (h1 : aw P C x (thenQ (fun n e h => A∧EnvR e N L∧HeapR h N HL) Q) n e h) (h2 : A→aw P C y Q N (envL L) (heapL HL)) : aw P C (.seq x y) Q n e h :=
 aw_seq (aw_mono h1 fun ex n e h hq => by
  cases ex with
  | normal => obtain ⟨ha,he,hh⟩ := hq; exact aw_keep hdom L HL hm he hh (h2 ha)
  | _ => exact hq)

def roundsQ (P : Program) (C : Ctx) (body : ACode) (Q : Exit→Nat→Env→Heap→Prop) : Nat→Nat→Env→Heap→Prop
 | 0 => fun n e h => aw P C body (thenQ (fun _ _ _ => False) Q) n e h
 | m + 1 => fun n e h => aw P C body (thenQ (roundsQ P C body Q m) Q) n e h
theorem roundsQ_sound {body : ACode} : ∀ (m : Nat) {n : Nat} {e : Env} {h : Heap},roundsQ P C body Q m n e h→P.follows .mixedOrders = true→∀ (FN : Fence) (k : Nat),FenceOk FN k∧LoopOk FN C→∀ c,cCode P C.nt c = some body→∀ a w,St C (fun i => n≤i) e h a w→Code.roundsIn FN k P c (PostA C Q) (m + 1) a w
 | 0, n, e, h, hk, hm, FN, k, hok, c, hc, a, w, hs => by
   unfold roundsQ at hk
   unfold aw at hk
   refine wpIn_mono (hk hm FN k hok c hc a w hs) fun x a w hp => ?_
   obtain ⟨n,e,h,hQ,hS⟩ := hp
   cases x with
   | normal => exact hQ.elim
   | _ => exact ⟨n,e,h,hQ,hS⟩
 | m + 1, n, e, h, hk, hm, FN, k, hok, c, hc, a, w, hs => by
   unfold roundsQ at hk
   unfold aw at hk
   refine wpIn_mono (hk hm FN k hok c hc a w hs) fun x a w hp => ?_
   obtain ⟨n,e,h,hQ,hS⟩ := hp
   cases x with
   | normal => exact roundsQ_sound m hQ hm FN k hok c hc a w hS
   | _ => exact ⟨n,e,h,hQ,hS⟩
theorem aw_rounds {body : ACode} (m : Nat) (hk : roundsQ P C body Q m n e h) : aw P C (.loop body) Q n e h := by
 unfold aw
 intro hm FN k hok c hc a w hs
 have : ∃ c1,c = .loop c1∧cCode P C.nt c1 = some body := by
  unfold cCode at hc
  split at hc <;> first
   | (split at hc <;> first | (simp at hc; subst hc; exact ⟨_,rfl,by assumption⟩) | (simp at hc; done) | ((repeat' (split at hc)) <;> simp at hc; done))
   | (simp at hc; done)
 obtain ⟨c1,rfl,h1⟩ := this
 exact wpIn_loop_rounds (m + 1) (roundsQ_sound m hk hm FN k hok c1 h1 a w hs)
end
end Go.Proofs.YtcoehdmpjflmlaaGreatDoor

namespace Go.Proofs.YtcoehdmpjflmlaaGreatDoor
open Go.RowKit
set_option linter.unusedVariables false

structure Br (b : Bool) (p q : Prop) : Prop where
 yes : b = true→p
 no : b = false→q
theorem B {b : Bool} {p q : Prop} (h1 : b = true→p) (h2 : b = false→q) : Br b p q := ⟨h1,h2⟩
def PV.isB : PV→Bool
 | .val (.bool _) => true
 | _ => false
section
variable {P : Program} {C : Ctx} {n : Nat} {e : Env} {h : Heap} {Q : Exit→Nat→Env→Heap→Prop} {os : List AOper} {d : Option Nat} {K : Nat→Env→Heap→Prop} {z : Rsv} {KD : Env→Heap→Prop} {q1 q2 : Prop}

theorem opsK_nb {op : AOp} {p : PV} {h' : Heap} (hd : dEval op e h n = some (p,h')) (hb : p.isB = false) (hn : isCall op = false) (hz : h' n = none) (hk : opsK P os n (updO e d p) h' K) : opsK P (⟨d,op,none⟩ :: os) n e h K := opsK_of hd hn hz hk
theorem opsK_br {op : AOp} {b : Bool} {h' : Heap} (hd : dEval op e h n = some (.val (.bool b),h')) (hn : isCall op = false) (hz : h' n = none) (h1 : q1→opsK P os n (updO e d (.val (.bool true))) h' K) (h2 : q2→opsK P os n (updO e d (.val (.bool false))) h' K)   : Br b q1 q2→opsK P (⟨d,op,none⟩ :: os) n e h K :=
 fun hq => opsK_bool hd hn hz (fun hb => h1 (hq.yes hb)) fun hb => h2 (hq.no hb)
theorem opsK_lit {op : AOp} {h' : Heap} (v : Bool) (hd : dEval op e h n = some (.val (.bool v),h')) (hn : isCall op = false) (hz : h' n = none) (hk : opsK P os n (updO e d (.val (.bool v))) h' K) : opsK P (⟨d,op,none⟩ :: os) n e h K := opsK_of hd hn hz hk
theorem dK_nb {i mask : Nat} {op : AOp} {iso : Nat} {xs : List DItem} {p : PV} {h' : Heap} (hd : dEval op e h (n + i) = some (p,h')) (hb : p.isB = false) (ha : accOk z op e n i mask iso = true) (hn : isCall op = false) (hk : dK P z n xs (updO e d p) h' KD) : dK P z n (⟨i,⟨d,op,none⟩,mask,iso,false⟩ :: xs) e h KD := dK_of hd ha hn hk
theorem dK_lit {i mask : Nat} {op : AOp} {iso : Nat} {xs : List DItem} {h' : Heap} (v : Bool) (hd : dEval op e h (n + i) = some (.val (.bool v),h')) (ha : accOk z op e n i mask iso = true) (hn : isCall op = false) (hk : dK P z n xs (updO e d (.val (.bool v))) h' KD) : dK P z n (⟨i,⟨d,op,none⟩,mask,iso,false⟩ :: xs) e h KD := dK_of hd ha hn hk
theorem dK_br {i mask : Nat} {op : AOp} {iso : Nat} {xs : List DItem} {b : Bool} {h' : Heap} (hd : dEval op e h (n + i) = some (.val (.bool b),h')) (ha : accOk z op e n i mask iso = true) (hn : isCall op = false) (h1 : q1→dK P z n xs (updO e d (.val (.bool true))) h' KD) (h2 : q2→dK P z n xs (updO e d (.val (.bool false))) h' KD)   : Br b q1 q2→dK P z n (⟨i,⟨d,op,none⟩,mask,iso,false⟩ :: xs) e h KD :=
 fun hq => dK_bool hd ha hn (fun hb => h1 (hq.yes hb)) fun hb => h2 (hq.no hb)
theorem aw_br {c : Operand} {x y : ACode} {b : Bool} (hc : ev e c = some (.val (.bool b))) (h1 : q1→aw P C x Q n e h) (h2 : q2→aw P C y Q n e h)   : Br b q1 q2→aw P C (.cond c x y) Q n e h := fun hq => aw_cond hc (fun hb => h1 (hq.yes hb)) fun hb => h2 (hq.no hb)
end

theorem go {p q : Prop} (hk : q) (hr : q→p := by
 intro hq
 repeat' (first
  | (show opsK _ _ _ _ _ _; first | refine opsK_nb rfl rfl rfl rfl ?_ | refine opsK_done ?_ | refine opsK_on rfl ?_ | refine opsK_off rfl ?_ | refine opsK_lit true rfl rfl rfl ?_ | refine opsK_lit false rfl rfl rfl ?_ | (revert hq; refine' opsK_br rfl rfl rfl _ _ <;> first | intro hq | skip) | refine opsK_new rfl rfl rfl ?_)
  | (show aw _ _ _ _ _ _ _; first | refine aw_seq ?_ | refine aw_region ?_ | refine aw_draw [] ?_ | refine aw_condT rfl ?_ | refine aw_condF rfl ?_ | (revert hq; refine' aw_br rfl _ _ <;> first | intro hq | skip) | refine aw_block ?_ | refine aw_skip ?_ | refine aw_exit ?_ | refine aw_ret ?_)
  | (show dK _ _ _ _ _ _ _; first | refine dK_nb rfl rfl rfl rfl ?_ | refine dK_done ?_ | refine dK_on rfl ?_ | refine dK_off ⟨_,rfl,nofun⟩ ?_ | refine dK_lit true rfl rfl rfl ?_ | refine dK_lit false rfl rfl rfl ?_ | (revert hq; refine' dK_br rfl rfl rfl _ _ <;> first | intro hq | skip)))
 all_goals first | exact hq | skip) : p := hr hk
theorem st {p q : Prop} (hk : q) (hr : q→p := by
 intro hq
 (first
   | (show opsK _ _ _ _ _ _; first | refine opsK_nb rfl rfl rfl rfl ?_ | refine opsK_done ?_ | refine opsK_on rfl ?_ | refine opsK_off rfl ?_ | refine opsK_lit true rfl rfl rfl ?_ | refine opsK_lit false rfl rfl rfl ?_ | (revert hq; refine' opsK_br rfl rfl rfl _ _ <;> first | intro hq | skip) | refine opsK_new rfl rfl rfl ?_)
   | (show aw _ _ _ _ _ _ _; first | refine aw_seq ?_ | refine aw_region ?_ | refine aw_draw [] ?_ | refine aw_condT rfl ?_ | refine aw_condF rfl ?_ | (revert hq; refine' aw_br rfl _ _ <;> first | intro hq | skip) | refine aw_block ?_ | refine aw_skip ?_ | refine aw_exit ?_ | refine aw_ret ?_)
   | (show dK _ _ _ _ _ _ _; first | refine dK_nb rfl rfl rfl rfl ?_ | refine dK_done ?_ | refine dK_on rfl ?_ | refine dK_off ⟨_,rfl,nofun⟩ ?_ | refine dK_lit true rfl rfl rfl ?_ | refine dK_lit false rfl rfl rfl ?_ | (revert hq; refine' dK_br rfl rfl rfl _ _ <;> first | intro hq | skip)))
 all_goals first | exact hq | skip) : p := hr hk
end Go.Proofs.YtcoehdmpjflmlaaGreatDoor
