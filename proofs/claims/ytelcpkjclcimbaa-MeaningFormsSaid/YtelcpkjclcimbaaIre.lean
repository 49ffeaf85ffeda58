/-
  The calculus: from code to a call's answer; states that describe less; steps through a region. For every program; no statement of the seat is proved here.
-/
import Derived.Test.YtelcpkjclcimbaaIrd
namespace Go.Proofs.Ytelcpkjclcimbaa
open Go.RowKit
set_option linter.unusedVariables false
set_option linter.unusedSimpArgs false

/-! ### Results -/
inductive ARes where
  | tmp (t : Nat)
  | cell (t : Nat) (agg : Bool) (size : Nat)

def cRes (P : Program) : ResultVar → Option ARes
  | .tmp t => some (.tmp t)
  | .cell a t => match layOf P t with
    | some l => some (.cell a l.1 l.2)
    | none => none
def cRess (P : Program) : List ResultVar → Option (List ARes)
  | [] => some []
  | r :: l => match cRes P r, cRess P l with
    | some x, some xs => some (x :: xs)
    | _, _ => none

def retV (e : Env) (h : Heap) : ARes → Option PV
  | .tmp t => e t
  | .cell a agg size => match dEval (.load agg size (.tmp a)) e h 0 with
    | some (p, _) => some p
    | none => none
def retVs (e : Env) (h : Heap) : List ARes → Option (List PV)
  | [] => some []
  | r :: l => match retV e h r, retVs e h l with
    | some x, some xs => some (x :: xs)
    | _, _ => none
def retAll (rs : List ARes) (e : Env) (h : Heap) : Option PV :=
  match retVs e h rs with
  | some [p] => some p
  | some l => some (.tup l)
  | none => none

/-- How a function's body ends. -/
def retQ (rs : List ARes) (R : PV → Prop) : Exit → Nat → Env → Heap → Prop
  | .normal, _, e, h => ∃ r0 r, retAll rs e h = some r0 ∧ LoP r0 r ∧ r.pure ∧ R r
  | .ret, _, e, h => ∃ r0 r, retAll rs e h = some r0 ∧ LoP r0 r ∧ r.pure ∧ R r
  | _, _, _, _ => False

/-- A function's body with its layouts resolved. -/
def FnOk (P : Program) (f nt : Nat) (ac : ACode) (rs : List ARes) : Prop :=
  P.follows .mixedOrders = true ∧ ∃ fn c, P.funcs[f]? = some fn ∧ (fn.name == "runtime.NumGoroutine") = false ∧ fn.body = some c ∧ fn.ntmps = nt ∧ cCode P nt c = some ac ∧ cRess P fn.results.toList = some rs

def codeOf (P : Program) (nt : Nat) : Option Code → Option ACode
  | some c => cCode P nt c
  | none => none
theorem fnOk_of {P : Program} {f nt : Nat} {fn : Func} {ac : ACode} {rs : List ARes} (hm : P.follows .mixedOrders = true) (hf : P.funcs[f]? = some fn) (hn : (fn.name == "runtime.NumGoroutine") = false) (hnt : fn.ntmps = nt) (hc : codeOf P nt fn.body = some ac) (hr : cRess P fn.results.toList = some rs) : FnOk P f nt ac rs := by
  refine ⟨hm, fn, ?_⟩
  cases hb : fn.body with
  | none => rw [hb] at hc; cases hc
  | some c => exact ⟨c, hf, hn, rfl, hnt, by rw [hb] at hc; exact hc, hr⟩

/-- The objects that were there when the call began have names below n. -/
def Ctx.dom (C : Ctx) (n : Nat) : Prop := ∀ i, n ≤ i → C.φ0 i = none

def argEnv (args : List PV) : Env := fun k => args[k]?

section
variable {P : Program} {C : Ctx} {Fr : Nat → Prop} {e : Env} {h : Heap} {F : Froz} {φ : Locs} {a : Act} {w : World}

theorem load_val (s : St' C Fr e h F φ a w) {id : Nat} {t : TypeId} {agg : Bool} {size : Nat} (hlay : layOf P t = some (agg, size)) {x : Operand} {p : PV} {h' : Heap} (hd : dEval (.load agg size x) e h id = some (p, h')) :
    ∃ ad val, a.eval x = .pointer (some ad) ∧ (loadVar t ad).run P w = .ok val w ∧ Rep F φ val p := by
  simp only [dEval] at hd
  split at hd
  · rename_i l hl
    split at hd
    · rename_i q hq
      cases hd
      obtain ⟨ad, hv, hs, hc⟩ := frozCells s (s.eval hl)
      have hle := cutAt_le hq
      obtain ⟨val, hr, hrep⟩ := load_cut (w := w) hlay hs hq (fun j hj => by simpa using hc j (by omega))
      exact ⟨ad, val, hv, hr, hrep⟩
    · simp at hd
  · rename_i k i off hl
    split at hd
    · rename_i b hb
      split at hd
      case isFalse => simp at hd
      rename_i hi
      split at hd
      · rename_i q hq
        cases hd
        obtain ⟨loc, ad, hloc, hbase, hs, hv⟩ := (s.eval hl).ptr_inv
        have hle := cutAt_le hq
        obtain ⟨loc', h1, h2, _⟩ := s.live k b hb
        obtain rfl : loc' = loc := by rw [h1] at hloc; simpa using hloc
        have hel : (b.elems.getD i []).length = b.esz := by
          rw [h2.esz]
          refine h2.el _ ?_
          simp [List.getD_eq_getElem?_getD, hi]
        obtain ⟨val, hr, hrep⟩ := load_cut (w := w) (ad := ⟨ad.block, ad.off + (i * loc'.esz + off), none⟩) hlay rfl hq (fun j hj => by
          have := s.objCell hb hloc hi (j := off + j) (by omega) hbase
          rw [show ad.off + (i * loc'.esz + (off + j)) = ad.off + (i * loc'.esz + off) + j by omega] at this
          exact this)
        exact ⟨_, val, hv, hr, hrep⟩
      · simp at hd
    · simp at hd
  · simp at hd

def resOne (P : Program) (tmps : Array Value) : ResultVar → Sem Value
  | .tmp t => Pure.pure (tmps.getD t undef)
  | .cell a t => do loadVar t (← asAddr (tmps.getD a undef))

theorem retV_run (s : St' C Fr e h F φ a w) {r : ResultVar} {x : ARes} (hr : cRes P r = some x) {p : PV} (hp : retV e h x = some p) : ∃ v, (resOne P a.tmps r).run P w = .ok v w ∧ Rep F φ v p := by
  cases r with
  | tmp t =>
    obtain rfl : ARes.tmp t = x := by simpa [cRes] using hr
    exact ⟨_, rfl, (s.env t p hp).2⟩
  | cell c t =>
    simp only [cRes] at hr
    split at hr
    · rename_i l hl
      obtain rfl : ARes.cell c l.1 l.2 = x := by simpa using hr
      simp only [retV] at hp
      split at hp
      · rename_i q h' hq
        cases hp
        obtain ⟨ad, val, hv, hrun, hrep⟩ := load_val (P := P) s hl hq
        have hv' : a.tmps.getD c undef = .pointer (some ad) := hv
        exact ⟨val, by simp [resOne, hv', asAddr, hrun], hrep⟩
      · simp at hp
    · simp at hr

theorem retVs_run (s : St' C Fr e h F φ a w) : ∀ {rs : List ResultVar} {xs : List ARes} {ps : List PV}, cRess P rs = some xs → retVs e h xs = some ps → ∃ vs : List Value, (rs.mapM (resOne P a.tmps)).run P w = .ok vs w ∧ vs.length = ps.length ∧ ∀ i, i < ps.length → Rep F φ (vs.getD i undef) (ps.getD i pvu) := by
  intro rs
  induction rs with
  | nil =>
    intro xs ps hx hp
    obtain rfl : [] = xs := by simpa [cRess] using hx
    obtain rfl : [] = ps := by simpa [retVs] using hp
    exact ⟨[], rfl, rfl, fun i hi => by simp at hi⟩
  | cons r rs ih =>
    intro xs ps hx hp
    simp only [cRess] at hx
    split at hx
    case h_2 => simp at hx
    rename_i x xs' h1 h2
    obtain rfl : x :: xs' = xs := by simpa using hx
    simp only [retVs] at hp
    split at hp
    case h_2 => simp at hp
    rename_i p ps' h3 h4
    obtain rfl : p :: ps' = ps := by simpa using hp
    obtain ⟨v, hv, hrep⟩ := retV_run s h1 h3
    obtain ⟨vs, hvs, hl, hreps⟩ := ih h2 h4
    refine ⟨v :: vs, by simp [hv, hvs], by simp [hl], fun i hi => ?_⟩
    cases i with
    | zero => simpa using hrep
    | succ i => simpa using hreps i (by simpa using hi)

theorem results_eq (fn : Func) (tmps : Array Value) : results fn tmps = (do let vs ← fn.results.mapM (resOne P tmps); Pure.pure (if h : vs.size = 1 then vs[0] else .tuple vs)) := by
  unfold results
  congr 1

theorem retAll_run (s : St' C Fr e h F φ a w) {fn : Func} {rs : List ARes} (hr : cRess P fn.results.toList = some rs) {p : PV} (hp : retAll rs e h = some p) : ∃ v, (results fn a.tmps).run P w = .ok v w ∧ Rep F φ v p := by
  unfold retAll at hp
  have main : ∀ ps, retVs e h rs = some ps → ∃ vs : List Value, (fn.results.mapM (resOne P a.tmps)).run P w = .ok vs.toArray w ∧ vs.length = ps.length ∧ ∀ i, i < ps.length → Rep F φ (vs.getD i undef) (ps.getD i pvu) := by
    intro ps hps
    obtain ⟨vs, h1, h2, h3⟩ := retVs_run s hr hps
    exact ⟨vs, by rw [Array.mapM_eq_mapM_toList]; simp [h1], h2, h3⟩
  split at hp
  · rename_i q hq
    cases hp
    obtain ⟨vs, h1, h2, h3⟩ := main _ hq
    obtain ⟨v, rfl⟩ : ∃ v, vs = [v] := by
      cases vs with
      | nil => simp at h2
      | cons v r => cases r with
        | nil => exact ⟨v, rfl⟩
        | cons _ _ => simp at h2
    exact ⟨v, by rw [results_eq (P := P), Sem.run_bind, h1]; simp, by simpa using h3 0 (by simp)⟩
  · rename_i ps hne hq
    cases hp
    obtain ⟨vs, h1, h2, h3⟩ := main _ hq
    refine ⟨.tuple vs.toArray, ?_, .tup _ _ (by simp [h2]) fun i hi => ?_⟩
    · have hne1 : vs.length ≠ 1 := by
        intro hl
        rw [hl] at h2
        cases ps with
        | nil => simp at h2
        | cons p r => cases r with
          | nil => exact hne p rfl
          | cons _ _ => simp at h2
      rw [results_eq (P := P), Sem.run_bind, h1]
      simp [hne1]
    · have := h3 i hi
      simpa [Array.getD_eq_getD_getElem?, List.getD_eq_getElem?_getD] using this
  · simp at hp

theorem spec_intro {f nt : Nat} {ac : ACode} {rs : List ARes} (hf : FnOk P f nt ac rs) {args : List PV} {R : PV → Prop} (hn : args.length ≤ nt) (hk : ∀ C : Ctx, C.dom 0 → aw P C ac (retQ rs R) 0 (argEnv args) (fun _ => none)) : Spec P f args R := by
  obtain ⟨hm, fn, c, hfn, hname, hb, rfl, hc, hr⟩ := hf
  refine ⟨⟨fn, hfn, hname, by rw [hb]; rfl⟩, fun F w vs hF hv => ?_⟩
  refine (callsIn_wide (n := 0)).1 (callsIn_of_wp hfn hb trivial ?_ rfl)
  let C : Ctx := ⟨w, fun _ => False, F, fn.ntmps, fun _ => none⟩
  have hsz : vs.size = args.length := hv.1
  have s0 : St' C (fun i => 0 ≤ i) (argEnv args) (fun _ => none) F noLoc { tmps := vs ++ Array.replicate (fn.ntmps - vs.size) undef, defers := [] } w := by
    refine { nt := (by simp [C]; omega), nodef := rfl, loc0 := fun i x hx => (by cases hx), free := fun _ _ => rfl, env := fun k p hp => ?_, froz := hF, ext := fun _ _ h => h, old := fun _ _ _ => rfl, os := rfl, tape := rfl, output := rfl, size := Nat.le_refl _, kept := fun _ _ _ => rfl,
             live := fun id b hb => (by cases hb), sep := fun i j bi bj li lj k hi => (by cases hi) }
    have hk : k < args.length := (List.getElem?_eq_some_iff.1 hp).1
    refine ⟨by simp [C]; omega, ?_⟩
    have := hv.2 k hk
    have e1 : (vs ++ Array.replicate (fn.ntmps - vs.size) undef).getD k undef = vs.getD k undef := by
      simp only [Array.getD_eq_getD_getElem?]
      rw [Array.getElem?_append_left (by omega)]
    have e2 : args.getD k pvu = p := by
      rw [List.getD_eq_getElem?_getD]
      have hp' : args[k]? = some p := hp
      rw [hp']; rfl
    rw [e1, ← e2]
    exact this
  refine wpIn_mono (hk C (fun _ _ => rfl) hm Fence.wide 0 (fenceOk_wide 0) c hc _ w ⟨F, noLoc, s0⟩) fun x a' w' ⟨n, e, h, hQ, F', φ', s⟩ => ?_
  have fin : (∃ r0 r, retAll rs e h = some r0 ∧ LoP r0 r ∧ r.pure ∧ R r) → a'.defers = [] ∧ ∃ v, (results fn a'.tmps).run P w' = .ok v w' ∧ ∃ v' r F', Ending.returned v = .returned v' ∧ R r ∧ Rep F' noLoc v' r ∧ Below w.heap.size w w' ∧ Holds F' w' ∧ (∀ x u, F x = some u → F' x = some u) ∧ ∀ x : Addr, x.block < w.heap.size → F' x = F x := by
    rintro ⟨r0, r, h0, hlo, hpure, hR⟩
    obtain ⟨v, hrun, hrep⟩ := retAll_run s hr h0
    exact ⟨s.nodef, v, hrun, v, r, F', rfl, hR, (hlo.rep hrep).pure hpure, ⟨s.os, s.tape, s.output, s.size, fun k hk => s.kept k hk fun h => h⟩, s.froz, s.ext, fun x hx => s.old x hx fun h => h⟩
  cases x with
  | normal => exact fin hQ
  | ret => exact fin hQ
  | _ => exact hQ.elim

/-- How the body of a function ends that works on objects of its caller. -/
def retI (rs : List ARes) (R : Nat → PV → Heap → Prop) : Exit → Nat → Env → Heap → Prop
  | .normal, n, e, h => ∃ r0 r, retAll rs e h = some r0 ∧ LoP r0 r ∧ R n r h
  | .ret, n, e, h => ∃ r0 r, retAll rs e h = some r0 ∧ LoP r0 r ∧ R n r h
  | _, _, _, _ => False

theorem ispec_intro {f nt : Nat} {ac : ACode} {rs : List ARes} (hf : FnOk P f nt ac rs) {n : Nat} {args : List PV} {h : Heap} {R : Nat → PV → Heap → Prop} (hn : args.length ≤ nt) (hk : ∀ C : Ctx, C.dom n → aw P C ac (retI rs R) n (argEnv args) h) : ISpec P f n args h R := by
  obtain ⟨hm, fn, c, hfn, hname, hb, rfl, hc, hr⟩ := hf
  refine ⟨⟨fn, hfn, hname, by rw [hb]; rfl⟩, fun C e F φ a w vs s hv => ?_⟩
  refine (callsIn_wide (n := 0)).1 (callsIn_of_wp hfn hb trivial ?_ rfl)
  let C' : Ctx := ⟨w, fun k => ∃ i b loc, h i = some b ∧ φ i = some loc ∧ loc.has k, F, fn.ntmps, φ⟩
  have hG : ∀ k, C'.G k → C.w0.heap.size ≤ k ∨ C.G k := by
    rintro k ⟨i, b, loc, hi, hl, hk⟩
    obtain ⟨loc', h1, h2, h3⟩ := s.live i b hi
    obtain rfl : loc' = loc := by rw [h1] at hl; simpa using hl
    exact (h3 k hk).1
  have hsz : vs.size = args.length := hv.1
  have s0 : St' C' (fun i => n ≤ i) (argEnv args) h F φ { tmps := vs ++ Array.replicate (fn.ntmps - vs.size) undef, defers := [] } w := by
    refine { nt := (by simp [C']; omega), nodef := rfl, loc0 := fun i x hx => hx, free := s.free, env := fun k p hp => ?_, froz := s.froz, ext := fun _ _ h => h, old := fun _ _ _ => rfl, os := rfl, tape := rfl, output := rfl, size := Nat.le_refl _, kept := fun _ _ _ => rfl,
             live := fun id b hb => ?_, sep := s.sep }
    · have hk : k < args.length := (List.getElem?_eq_some_iff.1 hp).1
      refine ⟨by simp [C']; omega, ?_⟩
      have := hv.2 k hk
      have e1 : (vs ++ Array.replicate (fn.ntmps - vs.size) undef).getD k undef = vs.getD k undef := by
        simp only [Array.getD_eq_getD_getElem?]
        rw [Array.getElem?_append_left (by omega)]
      have e2 : args.getD k pvu = p := by
        rw [List.getD_eq_getElem?_getD]
        have hp' : args[k]? = some p := hp
        rw [hp']; rfl
      rw [e1, ← e2]
      exact this
    · obtain ⟨loc, h1, h2, h3⟩ := s.live id b hb
      exact ⟨loc, h1, h2, fun k hk => ⟨.inr ⟨id, b, loc, hb, h1, hk⟩, (h3 k hk).2⟩⟩
  refine wpIn_mono (hk C' s.free hm Fence.wide 0 (fenceOk_wide 0) c hc _ w ⟨F, φ, s0⟩) fun x a' w' ⟨n', e', h', hQ, F', φ', s'⟩ => ?_
  have back : St' C (fun i => n' ≤ i) e h' F' φ' a w' := by
    refine { nt := s.nt, nodef := s.nodef, loc0 := fun i x hx => s'.loc0 i x (s.loc0 i x hx), free := s'.free, env := fun k p hp => ⟨(s.env k p hp).1, (s.env k p hp).2.mono s'.ext s'.loc0⟩, froz := s'.froz, ext := fun x v hx => s'.ext _ _ (s.ext x v hx),
             old := fun x hx hg => ?_, os := s'.os.trans s.os, tape := s'.tape.trans s.tape, output := s'.output.trans s.output, size := Nat.le_trans s.size s'.size, kept := fun k hk hg => ?_, live := fun i b hi => ?_, sep := s'.sep }
    · have hx2 : x.block < w.heap.size := Nat.lt_of_lt_of_le hx s.size
      rw [s'.old x hx2 fun hg' => (hG _ hg').elim (fun h1 => absurd hx (Nat.not_lt.2 h1)) hg]
      exact s.old x hx hg
    · rw [s'.kept k (Nat.lt_of_lt_of_le hk s.size) fun hg' => (hG _ hg').elim (fun h1 => absurd hk (Nat.not_lt.2 h1)) hg]
      exact s.kept k hk hg
    · obtain ⟨loc, h1, h2, h3⟩ := s'.live i b hi
      refine ⟨loc, h1, h2, fun k hk => ⟨?_, (h3 k hk).2⟩⟩
      rcases (h3 k hk).1 with h4 | h4
      · exact .inl (Nat.le_trans s.size h4)
      · exact hG k h4
  have fin : (∃ r0 r, retAll rs e' h' = some r0 ∧ LoP r0 r ∧ R n' r h') → a'.defers = [] ∧ ∃ v, (results fn a'.tmps).run P w' = .ok v w' ∧ ∃ v' r n1 h1 F1 φ1, Ending.returned v = .returned v' ∧ R n1 r h1 ∧ Rep F1 φ1 v' r ∧ St' C (fun i => n1 ≤ i) e h1 F1 φ1 a w' := by
    rintro ⟨r0, r, h0, hlo, hR⟩
    obtain ⟨v, hrun, hrep⟩ := retAll_run s' hr h0
    exact ⟨s'.nodef, v, hrun, v, r, n', h', F', φ', rfl, hR, hlo.rep hrep, back⟩
  cases x with
  | normal => exact fin hQ
  | ret => exact fin hQ
  | _ => exact hQ.elim

/-! ### States that describe less -/
def envL : List (Nat × PV) → Env
  | [] => fun _ => none
  | (k, p) :: r => (envL r).upd k p
def heapL : List (Nat × Bx) → Heap
  | [] => fun _ => none
  | (k, b) :: r => (heapL r).upd k b

theorem envL_some {L : List (Nat × PV)} {k : Nat} {p : PV} (h : envL L k = some p) : (k, p) ∈ L := by
  induction L with
  | nil => cases h
  | cons q r ih =>
    obtain ⟨k', p'⟩ := q
    simp only [envL] at h
    by_cases hk : k = k'
    · subst hk; rw [Env.upd_same] at h; cases h; simp
    · rw [Env.upd_ne _ _ hk] at h; simp [ih h]
theorem heapL_some {L : List (Nat × Bx)} {k : Nat} {p : Bx} (h : heapL L k = some p) : (k, p) ∈ L := by
  induction L with
  | nil => cases h
  | cons q r ih =>
    obtain ⟨k', p'⟩ := q
    simp only [heapL] at h
    by_cases hk : k = k'
    · subst hk; rw [Heap.upd_same] at h; cases h; simp
    · rw [Heap.upd_ne _ _ hk] at h; simp [ih h]

/-- A value, and the same value with the objects under other names. -/
inductive RenP (ρ : Nat → Nat) (D : Nat → Prop) : PV → PV → Prop
  | pure (p : PV) (hp : p.pure) : RenP ρ D p p
  | own (id : Nat) (hd : D id) : RenP ρ D (.own (ρ id)) (.own id)
  | ptr (id i off : Nat) (hd : D id) : RenP ρ D (.ptr (ρ id) i off) (.ptr id i off)
  | agg (l m : List PV) (hl : l.length = m.length) (h : ∀ i, i < l.length → RenP ρ D (l.getD i pvu) (m.getD i pvu)) : RenP ρ D (.agg l) (.agg m)
  | low (p : PV) (hp : p.low.pure) : RenP ρ D p p.low

theorem RenP.rep {ρ : Nat → Nat} {D : Nat → Prop} {φ' : Locs} (hφ : ∀ i x, D i → φ (ρ i) = some x → φ' i = some x) {p0 p : PV} (hr : RenP ρ D p0 p) : ∀ {v : Value}, Rep F φ v p0 → Rep F φ' v p := by
  induction hr with
  | pure p hp => exact fun h => h.pure hp
  | own id hd => intro v h; obtain ⟨loc, h1, rfl⟩ := h.own_inv; exact .own id loc (hφ _ _ hd h1)
  | ptr id i off hd => intro v h; obtain ⟨loc, x, h1, h2, h3, rfl⟩ := h.ptr_inv; exact .ptr id i off loc x (hφ _ _ hd h1) h2 h3
  | agg l m hl _ ih =>
    intro v h
    obtain ⟨vs, rfl, h1, h2, h3⟩ := h.agg_inv
    exact .agg vs m (by rw [h1, hl]) (fun i hi => h2 i (by rw [hl]; exact hi)) fun i hi => ih i (by rw [hl]; exact hi) (h3 i (by rw [hl]; exact hi))
  | low p hp => exact fun h => h.low.pure hp

inductive RenB (ρ : Nat → Nat) (D : Nat → Prop) : Bx → Bx → Prop
  | same (b : Bx) (hp : pureLL b.elems) : RenB ρ D b b
  | gen (b0 b : Bx) (he : b0.esz = b.esz) (hl : b0.elems.length = b.elems.length) (hc : ∀ i, i < b.elems.length → (b0.elems.getD i []).length = (b.elems.getD i []).length) (h : ∀ i j, i < b.elems.length → j < b.esz → RenP ρ D ((b0.elems.getD i []).getD j pvu) ((b.elems.getD i []).getD j pvu)) : RenB ρ D b0 b

theorem sub_ren (ρ : Nat → Nat) {n n' : Nat} {L : List (Nat × PV)} {HL : List (Nat × Bx)} (he : ∀ q ∈ L, ∃ p0, e q.1 = some p0 ∧ RenP ρ (fun i => i < n') p0 q.2) (hh : ∀ q ∈ HL, q.1 < n' ∧ ∃ b0, h (ρ q.1) = some b0 ∧ RenB ρ (fun i => i < n') b0 q.2)
    (hinj : ∀ q ∈ HL, ∀ q' ∈ HL, ρ q.1 = ρ q'.1 → q.1 = q'.1) {m : Nat} (hdom : C.dom m) (hm : m ≤ n') (hρ : ∀ i, i < m → ρ i = i) : Sub C n e h n' (envL L) (heapL HL) := by
  rintro a w ⟨F, φ, s⟩
  let φ' : Locs := fun i => if i < n' then φ (ρ i) else none
  have hφ : ∀ i x, i < n' → φ (ρ i) = some x → φ' i = some x := fun i x hi hx => by simp only [φ', hi, if_true]; exact hx
  refine ⟨F, φ', { nt := s.nt, nodef := s.nodef, loc0 := fun i x hx => ?_, free := fun i hi => ?_, env := fun k p hp => ?_, froz := s.froz, ext := s.ext, old := s.old, os := s.os, tape := s.tape, output := s.output, size := s.size, kept := s.kept, live := fun i b hb => ?_, sep := ?_ }⟩
  · have : ¬ i < n' := by omega
    simp only [φ', this, if_false]
  · obtain ⟨p0, h0, hr⟩ := he _ (envL_some hp)
    exact ⟨(s.env k p0 h0).1, hr.rep hφ (s.env k p0 h0).2⟩
  · by_cases him : i < m
    · exact hφ i x (by omega) (by rw [hρ i him]; exact s.loc0 i x hx)
    · rw [hdom i (by omega)] at hx; cases hx
  · obtain ⟨hi, b0, h0, hr⟩ := hh _ (heapL_some hb)
    obtain ⟨loc, h1, h2, h3⟩ := s.live _ b0 h0
    refine ⟨loc, hφ i loc hi h1, ?_, h3⟩
    cases hr with
    | same hp =>
      refine ⟨h2.esz, h2.pos, h2.len, h2.cap, h2.max, h2.el, fun hc => ?_⟩
      obtain ⟨x, hx, hs, cells, t, hg, hsz, hrep⟩ := h2.room hc
      exact ⟨x, hx, hs, cells, t, hg, hsz, fun i j hi hj => ⟨(hrep i j hi hj).1, (hrep i j hi hj).2.pure (innL_getD (innLL_getD hp i) j)⟩⟩
    | gen _ he hl hcl hrp =>
      refine ⟨by rw [← he]; exact h2.esz, h2.pos, by rw [← hl]; exact h2.len, h2.cap, h2.max, fun c hc => ?_, fun hc => ?_⟩
      · obtain ⟨k, hk, rfl⟩ := List.getElem_of_mem hc
        have e1 : b.elems[k] = b.elems.getD k [] := by simp [List.getD_eq_getElem?_getD, hk]
        rw [e1, ← hcl k hk]
        exact h2.el _ (by have hk' : k < b0.elems.length := by rw [hl]; exact hk
                          simp [List.getD_eq_getElem?_getD, hk'])
      · obtain ⟨x, hx, hs, cells, t, hg, hsz, hrep⟩ := h2.room hc
        refine ⟨x, hx, hs, cells, t, hg, hsz, fun i j hi hj => ⟨(hrep i j hi hj).1, ?_⟩⟩
        exact (hrp i j (by rw [← hl, h2.len]; exact hi) (by rw [← he, h2.esz]; exact hj)).rep hφ (hrep i j hi hj).2
  · intro i j bi bj li lj k hi hj hli hlj hki hkj
    obtain ⟨hin, b0, h0, _⟩ := hh _ (heapL_some hi)
    obtain ⟨hjn, c0, g0, _⟩ := hh _ (heapL_some hj)
    have hli' : φ (ρ i) = some li := by simpa only [φ', show i < n' from hin, if_true] using hli
    have hlj' : φ (ρ j) = some lj := by simpa only [φ', show j < n' from hjn, if_true] using hlj
    exact hinj _ (heapL_some hi) _ (heapL_some hj) (s.sep _ _ b0 c0 li lj k h0 g0 hli' hlj' hki hkj)

/-- Under the same names. -/
theorem sub_list {n n' : Nat} {L : List (Nat × PV)} {HL : List (Nat × Bx)} (he : ∀ q ∈ L, ∃ p0, e q.1 = some p0 ∧ RenP (fun i => i) (fun i => i < n') p0 q.2) (hh : ∀ q ∈ HL, q.1 < n' ∧ ∃ b0, h q.1 = some b0 ∧ RenB (fun i => i) (fun i => i < n') b0 q.2) {m : Nat} (hdom : C.dom m) (hm : m ≤ n') : Sub C n e h n' (envL L) (heapL HL) :=
  sub_ren (fun i => i) he hh (fun _ _ _ _ h => h) hdom hm fun _ _ => rfl

theorem sub_trans {n n' n'' : Nat} {e' e'' : Env} {h' h'' : Heap} (h1 : Sub C n e h n' e' h') (h2 : Sub C n' e' h' n'' e'' h'') : Sub C n e h n'' e'' h'' := fun a w hs => h2 a w (h1 a w hs)
theorem sub_refl {n : Nat} : Sub C n e h n e h := fun _ _ hs => hs

/-- An empty slice without capacity may be taken for one of the call's own. -/
theorem sub_ownNil {n k : Nat} (hk : e k = some (.vec [] true)) (esz : Nat) (hp : 0 < esz) : Sub C n e h (n + 1) (e.upd k (.own n)) (h.upd n ⟨esz, []⟩) := by
  rintro a w ⟨F, φ, s⟩
  obtain ⟨hlt, hr⟩ := s.env k _ hk
  have hbase : ∃ base, a.tmps.getD k undef = .slice base 0 0 := by
    rcases hr.vec_inv with ⟨_, h⟩ | ⟨x, cap, esz', cs, h, _, _, hf, _⟩
    · exact ⟨none, h⟩
    · exact ⟨some x, by rw [h, hf rfl]; rfl⟩
  obtain ⟨base, hb⟩ := hbase
  have s' := s.allocNil (Nat.le_refl n) base esz hp
  have hfr : ∀ i, n + 1 ≤ i → n ≤ i ∧ i ≠ n := fun i hi => ⟨by omega, by omega⟩
  refine ⟨F, _, { s'.weaken hfr with env := fun j p hj => ?_ }⟩
  by_cases hjk : j = k
  · subst hjk
    rw [Env.upd_same] at hj
    cases hj
    refine ⟨hlt, ?_⟩
    rw [hb]
    exact .own n ⟨base, esz, 0, 0⟩ (by simp [locUpd])
  · rw [Env.upd_ne _ _ hjk] at hj
    exact s'.env j p hj

/-- A slice of the call's own that is never written again. -/
theorem sub_freeze {n k id : Nat} {b : Bx} (hk : e k = some (.own id)) (hb : h id = some b) (hp : pureLL b.elems) : Sub C n e h n (e.upd k (.vec b.elems false)) (h.del id) := by
  rintro a w ⟨F, φ, s⟩
  obtain ⟨hlt, hr⟩ := s.env k _ hk
  obtain ⟨loc, hl, hv⟩ := hr.own_inv
  obtain ⟨loc', h1, h2, h3⟩ := s.live id b hb
  obtain rfl : loc' = loc := by rw [h1] at hl; simpa using hl
  have s1 : St' C (fun i => n ≤ i) e (h.del id) F φ a w := s.sub (fun _ _ h => h) (fun _ _ hh => (Heap.del_some hh).2)
  have hput : ∀ {F' : Froz}, St' C (fun i => n ≤ i) e (h.del id) F' φ a w → Rep F' φ (a.tmps.getD k undef) (.vec b.elems false) → St C (fun i => n ≤ i) (e.upd k (.vec b.elems false)) (h.del id) a w := fun {F'} s2 hrep => by
    refine ⟨F', φ, { s2 with env := fun j p hj => ?_ }⟩
    by_cases hjk : j = k
    · subst hjk; rw [Env.upd_same] at hj; cases hj; exact ⟨hlt, hrep⟩
    · rw [Env.upd_ne _ _ hjk] at hj; exact s2.env j p hj
  by_cases hc0 : loc'.cap = 0
  · have hl0 : loc'.len = 0 := by have := h2.cap; omega
    have he0 : b.elems = [] := List.eq_nil_of_length_eq_zero (by rw [h2.len, hl0])
    refine hput s1 ?_
    rw [hv, he0, hl0, hc0]
    cases hbs : loc'.base with
    | none => exact .vecnil false
    | some x => exact .vec (F := F) (φ := φ) x 0 0 [] false (fun _ _ => undef) (fun h => absurd rfl h) (Nat.le_refl _) (by simp) (by simp) (by simp) (by simp) (by simp)
  · obtain ⟨ad, hbase, hs, cells, ct, hg, hroom, hrep⟩ := h2.room hc0
    have hhas : loc'.has ad.block := ⟨hc0, ad, hbase, rfl⟩
    have s2 := s1.frz hg (h3 _ hhas).2 (s.del_no hb h1 hhas) (h3 _ hhas).1
    have hx := frozNew_ext (h3 _ hhas).2 cells
    refine hput s2 ?_
    rw [hv, hbase, ← h2.len]
    have hlt2 : ∀ i j, i < b.elems.length → j < loc'.esz → ad.off + (i * loc'.esz + j) < cells.size := fun i j hi hj => by
      have := idx_lt (n := loc'.cap) (i := i) (j := j) (esz := loc'.esz) (by have := h2.cap; have := h2.len; omega) hj
      omega
    refine .vec ad loc'.cap loc'.esz b.elems false (fun i j => cells.getD (ad.off + (i * loc'.esz + j)) undef) (fun _ => hs) (by rw [h2.len]; exact h2.cap) (by simp) (by rw [h2.len]; exact h2.max) (fun i hi => h2.el _ (by simp [List.getD_eq_getElem?_getD, hi])) (fun i j hi hj => ?_) (fun i j hi hj => ?_)
    · exact frozNew_at F _ _ (hlt2 i j hi hj) (hrep i j (by rw [← h2.len]; exact hi) hj).1
    · exact (hrep i j (by rw [← h2.len]; exact hi) hj).2.mono hx fun _ _ h => h

/-- A variable that is never written again. -/
theorem sub_freezeBox {n k id : Nat} {esz : Nat} {l : List PV} (hk : e k = some (.ptr id 0 0)) (hb : h id = some ⟨esz, [l]⟩) (hp : pureL l) : Sub C n e h n (e.upd k (.cp l)) (h.del id) := by
  rintro a w ⟨F, φ, s⟩
  obtain ⟨hlt, hr⟩ := s.env k _ hk
  obtain ⟨loc, x, hl, hbase, hsx, hv⟩ := hr.ptr_inv
  obtain ⟨loc', h1, h2, h3⟩ := s.live id _ hb
  obtain rfl : loc' = loc := by rw [h1] at hl; simpa using hl
  have hlen : loc'.len = 1 := by rw [← h2.len]; rfl
  have hc0 : loc'.cap ≠ 0 := by have := h2.cap; omega
  have s1 : St' C (fun i => n ≤ i) e (h.del id) F φ a w := s.sub (fun _ _ h => h) (fun _ _ hh => (Heap.del_some hh).2)
  obtain ⟨ad, hbase', hs, cells, ct, hg, hroom, hrep⟩ := h2.room hc0
  obtain rfl : ad = x := by rw [hbase'] at hbase; simpa using hbase
  have hhas : loc'.has ad.block := ⟨hc0, ad, hbase', rfl⟩
  have s2 := s1.frz hg (h3 _ hhas).2 (s.del_no hb h1 hhas) (h3 _ hhas).1
  have hx := frozNew_ext (h3 _ hhas).2 cells
  have hll : l.length = loc'.esz := h2.el l (by simp)
  refine ⟨_, φ, { s2 with env := fun j p hj => ?_ }⟩
  by_cases hjk : j = k
  · subst hjk
    rw [Env.upd_same] at hj
    cases hj
    refine ⟨hlt, ?_⟩
    rw [hv]
    simp only [Nat.zero_mul, Nat.zero_add, Nat.add_zero]
    rw [← eta_none ad hs]
    have hlt2 : ∀ j, j < l.length → ad.off + j < cells.size := fun j hj => by
      have := idx_lt (n := loc'.cap) (i := 0) (j := j) (esz := loc'.esz) (by omega) (by omega)
      omega
    refine .cp ad l (fun j => cells.getD (ad.off + j) undef) hs (fun j hj => ?_) (fun j hj => ?_)
    · have := hrep 0 j (by omega) (by omega)
      simp only [Nat.zero_mul, Nat.zero_add] at this
      exact frozNew_at F _ _ (hlt2 j hj) this.1
    · have := hrep 0 j (by omega) (by omega)
      simp only [Nat.zero_mul, Nat.zero_add] at this
      exact this.2.mono hx fun _ _ h => h
  · rw [Env.upd_ne _ _ hjk] at hj
    exact s2.env j p hj

/-- A slice is not too long. -/
theorem aw_len {ac : ACode} {Q : Exit → Nat → Env → Heap → Prop} {n k : Nat} {l : List (List PV)} {full : Bool} (hk : e k = some (.vec l full)) (hw : l.length ≤ maxVec → aw P C ac Q n e h) : aw P C ac Q n e h := by
  intro hm FN m hok c hc a w hs
  refine hw ?_ hm FN m hok c hc a w hs
  obtain ⟨F, φ, s⟩ := hs
  rcases (s.env k _ hk).2.vec_inv with ⟨rfl, _⟩ | ⟨x, cap, esz, cs, _, _, _, _, hmax, _⟩
  · exact Nat.zero_le _
  · exact hmax
theorem aw_lenOwn {ac : ACode} {Q : Exit → Nat → Env → Heap → Prop} {n id : Nat} {b : Bx} (hk : h id = some b) (hw : b.elems.length ≤ maxVec → aw P C ac Q n e h) : aw P C ac Q n e h := by
  intro hm FN m hok c hc a w hs
  refine hw ?_ hm FN m hok c hc a w hs
  obtain ⟨F, φ, s⟩ := hs
  obtain ⟨loc, _, h2, _⟩ := s.live id b hk
  rw [h2.len]
  exact h2.max

/-! ### Steps through a region -/
theorem opK_det {op : AOp} {n : Nat} {p : PV} {h' : Heap} {K : PV → Heap → Prop} (hn : isCall op = false) (hd : dEval op e h n = some (p, h') ∨ fEval op e h n = some (p, h')) (hk : K p h') : opK P op n e h K := by
  have : ∃ p h', (dEval op e h n = some (p, h') ∨ fEval op e h n = some (p, h')) ∧ K p h' := ⟨p, h', hd, hk⟩
  cases op <;> first | exact this | simp [isCall] at hn

theorem dK_nil {z : Option Nat} {n : Nat} {K : Env → Heap → Prop} (hk : K e h) : dK P z n [] e h K := hk
theorem dK_det {z : Option Nat} {n i mask : Nat} {d : Option Nat} {op : AOp} {iso alt : Bool} {xs : List DItem} {K : Env → Heap → Prop} {p : PV} {h' : Heap} (hd : evalB alt op e h (n + i) = some (p, h')) (ha : accOk z op e n mask iso = true) (hn : isCall op = false) (hk : dK P z n xs (updO e d p) h' K) : dK P z n (⟨i, ⟨d, op, none⟩, mask, iso, alt⟩ :: xs) e h K := by
  obtain ⟨f, rfl, h1, h2, h3⟩ := evalB_eff hd ha
  refine ⟨_, .det rfl hn p f ⟨h1, h2, h3⟩, ?_⟩
  rintro p' f' ⟨rfl, rfl⟩
  exact hk
theorem dK_call {z : Option Nat} {n i mask : Nat} {d : Option Nat} {f : Operand} {args : List Operand} {iso alt : Bool} {xs : List DItem} {K : Env → Heap → Prop} {g : FuncId} {caps as args' : List PV} {R : PV → Prop} (hf : ev e f = some (.fn g caps)) (ha : evs e args = some as) (hlo : LoL (as ++ caps) args')
    (hs : Spec P g args' R) (hp : pureL args') (hk : ∀ r, R r → dK P z n xs (updO e d r) h K) : dK P z n (⟨i, ⟨d, .call f args, none⟩, mask, iso, alt⟩ :: xs) e h K := by
  refine ⟨_, .call rfl f args rfl R ⟨g, caps, as, args', hf, ha, hlo, hp, hs⟩, ?_⟩
  rintro p' f' ⟨hr, rfl⟩
  exact hk p' hr
theorem dK_callP {n i mask id : Nat} {d : Option Nat} {f : Operand} {args : List Operand} {iso alt : Bool} {xs : List DItem} {K : Env → Heap → Prop} {g : FuncId} {caps as rest : List PV} {b : Bx} {R : PV → Bx → Prop} (hs : PSpec P g b rest R) (hf : ev e f = some (.fn g caps)) (ha : evs e args = some as) (hr : as ++ caps = .ptr id 0 0 :: rest) (hb : h id = some b) (hpb : pureLL b.elems) (hpr : pureL rest)
    (hk : ∀ r b', r.pure → pureLL b'.elems → R r b' → dK P (some id) n xs (updO e d r) (h.upd id b') K) : dK P (some id) n (⟨i, ⟨d, .call f args, none⟩, mask, iso, alt⟩ :: xs) e h K := by
  refine ⟨_, .callP rfl f args rfl id rfl b hb R ⟨g, caps, as, rest, hf, ha, hr, hpb, hpr, hs⟩, ?_⟩
  rintro p' f' ⟨b', rfl, h1, h2, h3⟩
  exact hk p' b' h1 h2 h3
theorem dK_guard {z : Option Nat} {n : Nat} {x : DItem} {xs : List DItem} {K : Env → Heap → Prop} {s : Nat} {b c : Bool} (hg : x.o.guard = some (s, b)) (hs : e s = some (.val (.bool c))) (ht : c = b → dK P z n (⟨x.i, ⟨x.o.dst, x.o.op, none⟩, x.mask, x.iso, x.alt⟩ :: xs) e h K) (hf : c ≠ b → dK P z n xs (updO e x.o.dst pvu) h K) : dK P z n (x :: xs) e h K := by
  have hw : wantB x.o.guard e = some (c == b) := by simp only [wantB, hg, hs]
  by_cases hcb : c = b
  · obtain ⟨T, hT, hK⟩ := ht hcb
    have hw' : wantB x.o.guard e = some true := by rw [hw, hcb]; simp
    refine ⟨T, ?_, hK⟩
    cases hT with
    | skip h => cases h
    | call _ f args ho R hc => exact .call hw' f args ho R hc
    | callP _ f args ho id hz b hb R hc => exact .callP hw' f args ho id hz b hb R hc
    | det _ hn p f hd => exact .det hw' hn p f ⟨hd.eff, hd.touch, hd.run⟩
  · refine ⟨_, .skip (by rw [hw]; simp [hcb]), ?_⟩
    rintro p' f' ⟨rfl, rfl⟩
    exact hf hcb
end
end Go.Proofs.Ytelcpkjclcimbaa
