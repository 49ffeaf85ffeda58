/-
  The calculus: calls that work on one variable of the caller. For every program; no statement of the seat is proved here.
-/
import Derived.Test.YtelcpkjclcimbaaIra
namespace Go.Proofs.Ytelcpkjclcimbaa
open Go.RowKit
set_option linter.unusedVariables false
set_option linter.unusedSimpArgs false

section
variable {P : Program} {C : Ctx} {Fr : Nat → Prop} {e : Env} {h : Heap} {n : Nat} {F : Froz} {φ : Locs} {a : Act} {w : World} {FN : Fence} {m : Nat}

/-- The cells of an object whose values refer to no object are the same under other names. -/
theorem BxAt.names {φ' : Locs} {loc : Loc} {b : Bx} (h2 : BxAt F φ w loc b) (hp : pureLL b.elems) : BxAt F φ' w loc b := by
  refine ⟨h2.esz, h2.pos, h2.len, h2.cap, h2.max, h2.el, fun hc => ?_⟩
  obtain ⟨x, hx, hs, cells, t, hg, hsz, hrep⟩ := h2.room hc
  exact ⟨x, hx, hs, cells, t, hg, hsz, fun i j hi hj => ⟨(hrep i j hi hj).1, (hrep i j hi hj).2.pure (innL_getD (innLL_getD hp i) j)⟩⟩

/-- A call of a function whose first argument points to a variable of the caller, the others being values that never change: it answers r and leaves the variable as b', as R says. -/
def PSpec (P : Program) (f : FuncId) (b : Bx) (rest : List PV) (R : PV → Bx → Prop) : Prop :=
  ISpec P f 1 (.ptr 0 0 0 :: rest) (Heap.upd (fun _ => none) 0 b) fun _ r h' => ∃ b', h' 0 = some b' ∧ r.pure ∧ pureLL b'.elems ∧ R r b'

theorem PSpec.mono {f : FuncId} {b : Bx} {rest : List PV} {R R' : PV → Bx → Prop} (hs : PSpec P f b rest R) (hR : ∀ r b', R r b' → R' r b') : PSpec P f b rest R' :=
  ISpec.mono hs fun _ _ _ ⟨b', h1, h2, h3, h4⟩ => ⟨b', h1, h2, h3, hR _ _ h4⟩

/-- The rest of what the caller knows stays. -/
theorem PSpec.run {f : FuncId} {b : Bx} {rest : List PV} {R : PV → Bx → Prop} (hs : PSpec P f b rest R) (hpb : pureLL b.elems) (hpr : pureL rest) {id : Nat} (hb : h id = some b) (s : St' C Fr e h F φ a w) {vs : Array Value} (hv : RepL F φ vs (.ptr id 0 0 :: rest)) :
    Calls P f vs w fun en w' => ∃ v r b' F', en = .returned v ∧ (r.pure ∧ pureLL b'.elems ∧ R r b') ∧ Rep F' φ v r ∧ St' C Fr e (h.upd id b') F' φ a w' := by
  obtain ⟨loc, hloc, hbx, hhas⟩ := s.live id b hb
  let φ1 : Locs := fun i => if i = 0 then some loc else none
  let C1 : Ctx := ⟨w, fun k => loc.has k, F, C.nt, φ1⟩
  have hG : ∀ k, C1.G k → C.w0.heap.size ≤ k ∨ C.G k := fun k hk => (hhas k hk).1
  have h0 : ∀ {i : Nat} {b0 : Bx}, (Heap.upd (fun _ => none) 0 b) i = some b0 → i = 0 ∧ b0 = b := by
    intro i b0 hi
    by_cases hi0 : i = 0
    · subst hi0; rw [Heap.upd_same] at hi; exact ⟨rfl, (Option.some.inj hi).symm⟩
    · rw [Heap.upd_ne _ _ hi0] at hi; cases hi
  have s1 : St' C1 (fun i => 1 ≤ i) (fun _ => none) (Heap.upd (fun _ => none) 0 b) F φ1 a w := by
    refine { nt := s.nt, nodef := s.nodef, loc0 := fun i x hx => hx, free := fun i hi => ?_, env := fun k p hp => (by cases hp), froz := s.froz, ext := fun _ _ h => h, old := fun _ _ _ => rfl, os := rfl, tape := rfl, output := rfl, size := Nat.le_refl _, kept := fun _ _ _ => rfl, live := fun i b0 hi => ?_, sep := fun i j bi bj li lj k hi hj _ _ _ _ => ?_ }
    · simp only [φ1]; rw [if_neg (by omega)]
    · obtain ⟨rfl, rfl⟩ := h0 hi
      exact ⟨loc, by simp [φ1], hbx.names hpb, fun k hk => ⟨.inr hk, (hhas k hk).2⟩⟩
    · rw [(h0 hi).1, (h0 hj).1]
  have hv1 : RepL F φ1 vs (.ptr 0 0 0 :: rest) := by
    refine ⟨hv.1, fun i hi => ?_⟩
    have hr := hv.2 i hi
    cases i with
    | zero =>
      obtain ⟨loc', x, g1, g2, g3, g4⟩ := (show Rep F φ (vs.getD 0 undef) (.ptr id 0 0) from hr).ptr_inv
      obtain rfl : loc' = loc := by rw [hloc] at g1; simpa using g1.symm
      rw [g4]
      exact .ptr 0 0 0 loc' x (by simp [φ1]) g2 g3
    | succ i =>
      have e1 : (PV.ptr id 0 0 :: rest).getD (i + 1) pvu = rest.getD i pvu := rfl
      have e2 : (PV.ptr 0 0 0 :: rest).getD (i + 1) pvu = rest.getD i pvu := rfl
      rw [e1] at hr
      rw [e2]
      exact hr.pure (innL_getD hpr i)
  refine (hs.2 C1 _ F φ1 a w vs s1 hv1).mono ?_
  rintro en w' ⟨v, r, n', h', F', φ', rfl, ⟨b', hb', hr, hpb', hR⟩, hvr, s'⟩
  have hφ0 : φ' 0 = some loc := s'.loc0 0 loc (by simp [C1, φ1])
  refine ⟨v, r, b', F', rfl, ⟨hr, hpb', hR⟩, hvr.pure hr, ?_⟩
  refine { nt := s.nt, nodef := s.nodef, loc0 := s.loc0, free := s.free, env := fun k p hp => ⟨(s.env k p hp).1, (s.env k p hp).2.mono s'.ext fun _ _ h => h⟩, froz := s'.froz, ext := fun x v hx => s'.ext _ _ (s.ext x v hx),
           old := fun x hx hg => ?_, os := s'.os.trans s.os, tape := s'.tape.trans s.tape, output := s'.output.trans s.output, size := Nat.le_trans s.size s'.size, kept := fun k hk hg => ?_, live := fun i bi hi => ?_, sep := fun i j bi bj li lj k hi hj hli hlj hki hkj => ?_ }
  · have hx2 : x.block < w.heap.size := Nat.lt_of_lt_of_le hx s.size
    rw [s'.old x hx2 fun hg' => (hG _ hg').elim (fun h1 => absurd hx (Nat.not_lt.2 h1)) hg]
    exact s.old x hx hg
  · rw [s'.kept k (Nat.lt_of_lt_of_le hk s.size) fun hg' => (hG _ hg').elim (fun h1 => absurd hk (Nat.not_lt.2 h1)) hg]
    exact s.kept k hk hg
  · by_cases hid : i = id
    · subst hid
      rw [Heap.upd_same] at hi
      cases hi
      obtain ⟨loc', g1, g2, g3⟩ := s'.live 0 b' hb'
      obtain rfl : loc' = loc := by rw [hφ0] at g1; simpa using g1.symm
      exact ⟨loc', hloc, g2.names hpb', fun k hk => ⟨(hhas k hk).1, (g3 k hk).2⟩⟩
    · rw [Heap.upd_ne _ _ hid] at hi
      obtain ⟨li, g1, g2, g3⟩ := s.live i bi hi
      have hout : ∀ k, li.has k → ¬ C1.G k := fun k hk hg => hid (s.sep i id bi b li loc k hi hb g1 hloc hk hg)
      have hblk : ∀ k, li.has k → w'.heap[k]? = w.heap[k]? := fun k hk => s'.kept k (s.has_lt hi g1 hk) (hout k hk)
      refine ⟨li, g1, g2.mono s'.ext (fun _ _ h => h) hblk, fun k hk => ⟨(g3 k hk).1, fun x hx => ?_⟩⟩
      rw [s'.old x (by rw [hx]; exact s.has_lt hi g1 hk) (by rw [hx]; exact hout k hk)]
      exact (g3 k hk).2 x hx
  · have conv : ∀ {i : Nat} {bi : Bx}, (h.upd id b') i = some bi → ∃ b0, h i = some b0 := by
      intro i bi hi
      by_cases hid : i = id
      · subst hid; exact ⟨b, hb⟩
      · rw [Heap.upd_ne _ _ hid] at hi; exact ⟨bi, hi⟩
    obtain ⟨b1, h1⟩ := conv hi
    obtain ⟨b2, h2⟩ := conv hj
    exact s.sep i j b1 b2 li lj k h1 h2 hli hlj hki hkj


/-- The operation of the elaborated code. -/
theorem callP_sound (hok : FenceOk FN m) {o : Oper} {f : Operand} {args : List Operand} (hc : cOp P o = some (.call f args)) (hdst : dstOk C.nt o.dst = true) (s : St' C Fr e h F φ a w) {g id : Nat} {caps as rest : List PV} {b : Bx} {R : PV → Bx → Prop}
    (hf : ev e f = some (.fn g caps)) (has : evs e args = some as) (hr : as ++ caps = .ptr id 0 0 :: rest) (hb : h id = some b) (hpb : pureLL b.elems) (hpr : pureL rest) (hsp : PSpec P g b rest R) {next : Act → World → Prop} {Q : Exit → Act → World → Prop}
    (hnext : ∀ p b' a' w', p.pure → pureLL b'.elems → R p b' → St C Fr (updO e o.dst p) (h.upd id b') a' w' → next a' w') : o.wpIn FN m P a w next Q := by
  refine ⟨fun f _ => hok.fn f, ?_⟩
  rw [Oper.semAt_eq FN.round a.eval o (cOp_defer hc)]
  obtain ⟨fn, hfn, hname, hbody⟩ := hsp.1
  obtain ⟨c, ho, hcal, hargs⟩ := cOp_call hc
  subst hargs
  obtain ⟨vs, hvf, hrep⟩ := args_rep s hf has
  have hrun : (execOp a.eval o).run P w = .ok (.enter g (c.args.map a.eval ++ vs)) w := by
    have h1 : ¬ fn.name = "runtime.NumGoroutine" := by simpa using hname
    have h2 : ¬ fn.body = none := fun h => by rw [h] at hbody; simp at hbody
    simp [execOp, ho, resolve, hcal, hvf, Deferred.ofValue, invoke, callFunc, hfn, h1, h2]
  rw [hrun]
  rw [hr] at hrep
  refine ⟨fun hd => by rw [hok.depth] at hd; simp at hd, hok.calls _ _ _ _ _ ((hsp.run hpb hpr hb s hrep).mono ?_)⟩
  rintro en w' ⟨v, r, b', F', rfl, ⟨h1, h2, h3⟩, hvr, s'⟩
  exact hnext r b' _ _ h1 h2 h3 ⟨F', φ, s'.putO hdst hvr⟩
end
end Go.Proofs.Ytelcpkjclcimbaa
