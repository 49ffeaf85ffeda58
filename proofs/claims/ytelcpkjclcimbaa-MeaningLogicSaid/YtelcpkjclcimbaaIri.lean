/-
  The calculus: calls that work on one variable of the caller; slices and cells of the call's own that are never written again. For every program; no statement of the seat is proved here.
-/
import Derived.Test.YtelcpkjclcimbaaIrf
namespace Go.Proofs.Ytelcpkjclcimbaa
open Go.RowKit
set_option linter.unusedVariables false
set_option linter.unusedSimpArgs false

section
variable {P : Program} {C : Ctx} {Fr : Nat → Prop} {e : Env} {h : Heap} {n : Nat} {F : Froz} {φ : Locs} {a : Act} {w : World} {K : Nat → Env → Heap → Prop} {os : List AOper} {d : Option Nat} {Q : Exit → Nat → Env → Heap → Prop}

/-- The cells of an object whose values refer to no object are the same under other names. -/
theorem BxAt.names {φ' : Locs} {loc : Loc} {b : Bx} (h2 : BxAt F φ w loc b) (hp : pureLL b.elems) : BxAt F φ' w loc b := by
  refine ⟨h2.esz, h2.pos, h2.len, h2.cap, h2.max, h2.el, fun hc => ?_⟩
  obtain ⟨x, hx, hs, cells, t, hg, hsz, hrep⟩ := h2.room hc
  exact ⟨x, hx, hs, cells, t, hg, hsz, fun i j hi hj => ⟨(hrep i j hi hj).1, (hrep i j hi hj).2.pure (innL_getD (innLL_getD hp i) j)⟩⟩

/-- A call of a function whose first argument points to a variable of the caller, the others being values that never change: it answers r and leaves the variable as b', as R says. -/
def PSpec (P : Program) (f : FuncId) (b : Bx) (rest : List PV) (R : PV → Bx → Prop) : Prop :=
  ISpec P f 1 (.ptr 0 0 0 :: rest) (heapL [(0, b)]) fun _ r h' => ∃ b', h' 0 = some b' ∧ r.pure ∧ pureLL b'.elems ∧ R r b'

theorem PSpec.mono {f : FuncId} {b : Bx} {rest : List PV} {R R' : PV → Bx → Prop} (hs : PSpec P f b rest R) (hR : ∀ r b', R r b' → R' r b') : PSpec P f b rest R' :=
  ISpec.mono hs fun _ _ _ ⟨b', h1, h2, h3, h4⟩ => ⟨b', h1, h2, h3, hR _ _ h4⟩

/-- The rest of what the caller knows stays. -/
theorem PSpec.run {f : FuncId} {b : Bx} {rest : List PV} {R : PV → Bx → Prop} (hs : PSpec P f b rest R) (hpb : pureLL b.elems) (hpr : pureL rest) {id : Nat} (hb : h id = some b) (s : St' C Fr e h F φ a w) {vs : Array Value} (hv : RepL F φ vs (.ptr id 0 0 :: rest)) :
    Calls P f vs w fun en w' => ∃ v r b' F', en = .returned v ∧ (r.pure ∧ pureLL b'.elems ∧ R r b') ∧ Rep F' φ v r ∧ St' C Fr e (h.upd id b') F' φ a w' := by
  obtain ⟨loc, hloc, hbx, hhas⟩ := s.live id b hb
  let φ1 : Locs := fun i => if i = 0 then some loc else none
  let C1 : Ctx := ⟨w, fun k => loc.has k, F, C.nt, φ1⟩
  have hG : ∀ k, C1.G k → C.w0.heap.size ≤ k ∨ C.G k := fun k hk => (hhas k hk).1
  have h0 : ∀ {i : Nat} {b0 : Bx}, heapL [(0, b)] i = some b0 → i = 0 ∧ b0 = b := by
    intro i b0 hi
    have := heapL_some hi
    simp at this
    exact this
  have s1 : St' C1 (fun i => 1 ≤ i) (fun _ => none) (heapL [(0, b)]) F φ1 a w := by
    refine { nt := s.nt, nodef := s.nodef, loc0 := fun i x hx => hx, free := fun i hi => ?_, env := fun k p hp => (by cases hp), froz := s.froz, ext := fun _ _ h => h, old := fun _ _ _ => rfl, os := rfl, tape := rfl, output := rfl, size := Nat.le_refl _, kept := fun _ _ _ => rfl, live := fun i b0 hi => ?_, sep := fun i j bi bj li lj k hi hj _ _ _ _ => ?_ }
    · simp only [φ1]; rw [if_neg (by omega)]
    · obtain ⟨rfl, rfl⟩ := h0 hi
      exact ⟨loc, by simp [φ1], hbx.names hpb, fun k hk => ⟨.inr hk, (hhas k hk).2⟩⟩
    · rw [(h0 hi).1, (h0 hj).1]
  have hv1 : RepL F φ1 vs (.ptr 0 0 0 :: rest) := by
    refine ⟨hv.1, fun i hi => ?_⟩
    have hr := hv.2 i hi
    cases i with
    | zero =>
      obtain ⟨loc', x, g1, g2, g3, g4⟩ := (show Rep F φ (vs.getD 0 undef) (.ptr id 0 0) from hr).ptr_inv
      obtain rfl : loc' = loc := by rw [hloc] at g1; simpa using g1.symm
      rw [g4]
      exact .ptr 0 0 0 loc' x (by simp [φ1]) g2 g3
    | succ i =>
      have e1 : (PV.ptr id 0 0 :: rest).getD (i + 1) pvu = rest.getD i pvu := rfl
      have e2 : (PV.ptr 0 0 0 :: rest).getD (i + 1) pvu = rest.getD i pvu := rfl
      rw [e1] at hr
      rw [e2]
      exact hr.pure (innL_getD hpr i)
  refine (hs.2 C1 _ F φ1 a w vs s1 hv1).mono ?_
  rintro en w' ⟨v, r, n', h', F', φ', rfl, ⟨b', hb', hr, hpb', hR⟩, hvr, s'⟩
  have hφ0 : φ' 0 = some loc := s'.loc0 0 loc (by simp [C1, φ1])
  refine ⟨v, r, b', F', rfl, ⟨hr, hpb', hR⟩, hvr.pure hr, ?_⟩
  refine { nt := s.nt, nodef := s.nodef, loc0 := s.loc0, free := s.free, env := fun k p hp => ⟨(s.env k p hp).1, (s.env k p hp).2.mono s'.ext fun _ _ h => h⟩, froz := s'.froz, ext := fun x v hx => s'.ext _ _ (s.ext x v hx),
           old := fun x hx hg => ?_, os := s'.os.trans s.os, tape := s'.tape.trans s.tape, output := s'.output.trans s.output, size := Nat.le_trans s.size s'.size, kept := fun k hk hg => ?_, live := fun i bi hi => ?_, sep := fun i j bi bj li lj k hi hj hli hlj hki hkj => ?_ }
  · have hx2 : x.block < w.heap.size := Nat.lt_of_lt_of_le hx s.size
    rw [s'.old x hx2 fun hg' => (hG _ hg').elim (fun h1 => absurd hx (Nat.not_lt.2 h1)) hg]
    exact s.old x hx hg
  · rw [s'.kept k (Nat.lt_of_lt_of_le hk s.size) fun hg' => (hG _ hg').elim (fun h1 => absurd hk (Nat.not_lt.2 h1)) hg]
    exact s.kept k hk hg
  · by_cases hid : i = id
    · subst hid
      rw [Heap.upd_same] at hi
      cases hi
      obtain ⟨loc', g1, g2, g3⟩ := s'.live 0 b' hb'
      obtain rfl : loc' = loc := by rw [hφ0] at g1; simpa using g1.symm
      exact ⟨loc', hloc, g2.names hpb', fun k hk => ⟨(hhas k hk).1, (g3 k hk).2⟩⟩
    · rw [Heap.upd_ne _ _ hid] at hi
      obtain ⟨li, g1, g2, g3⟩ := s.live i bi hi
      have hout : ∀ k, li.has k → ¬ C1.G k := fun k hk hg => hid (s.sep i id bi b li loc k hi hb g1 hloc hk hg)
      have hblk : ∀ k, li.has k → w'.heap[k]? = w.heap[k]? := fun k hk => s'.kept k (s.has_lt hi g1 hk) (hout k hk)
      refine ⟨li, g1, g2.mono s'.ext (fun _ _ h => h) hblk, fun k hk => ⟨(g3 k hk).1, fun x hx => ?_⟩⟩
      rw [s'.old x (by rw [hx]; exact s.has_lt hi g1 hk) (by rw [hx]; exact hout k hk)]
      exact (g3 k hk).2 x hx
  · have conv : ∀ {i : Nat} {bi : Bx}, (h.upd id b') i = some bi → ∃ b0, h i = some b0 := by
      intro i bi hi
      by_cases hid : i = id
      · subst hid; exact ⟨b, hb⟩
      · rw [Heap.upd_ne _ _ hid] at hi; exact ⟨bi, hi⟩
    obtain ⟨b1, h1⟩ := conv hi
    obtain ⟨b2, h2⟩ := conv hj
    exact s.sep i j b1 b2 li lj k h1 h2 hli hlj hki hkj

theorem PSpec.frame {f : FuncId} {b : Bx} {rest : List PV} {R : PV → Bx → Prop} (hs : PSpec P f b rest R) (hpb : pureLL b.elems) (hpr : pureL rest) {id : Nat} (hb : h id = some b) :
    ISpec P f n (.ptr id 0 0 :: rest) h fun n' r h' => ∃ b', n' = n ∧ h' = h.upd id b' ∧ r.pure ∧ pureLL b'.elems ∧ R r b' := by
  refine ⟨hs.1, fun C e F φ a w vs s hv => (hs.run hpb hpr hb s hv).mono ?_⟩
  rintro en w' ⟨v, r, b', F', rfl, ⟨h1, h2, h3⟩, hvr, s'⟩
  exact ⟨v, r, n, _, F', φ, rfl, ⟨b', rfl, rfl, h1, h2, h3⟩, hvr, s'⟩

/-- A call that works on a variable. -/
theorem opsK_ptr {f : Operand} {args : List Operand} {g : FuncId} {caps as rest : List PV} {b : Bx} {id : Nat} {R : PV → Bx → Prop} (hs : PSpec P g b rest R) (hf : ev e f = some (.fn g caps)) (ha : evs e args = some as) (hr : as ++ caps = .ptr id 0 0 :: rest) (hb : h id = some b) (hpb : pureLL b.elems) (hpr : pureL rest)
    (hk : ∀ r b', r.pure → pureLL b'.elems → R r b' → opsK P os n (updO e d r) (h.upd id b') K) : opsK P (⟨d, .call f args, none⟩ :: os) n e h K := by
  refine opsK_heap hf ha (R := fun n' r h' => ∃ b', n' = n ∧ h' = h.upd id b' ∧ r.pure ∧ pureLL b'.elems ∧ R r b') (by rw [hr]; exact hs.frame hpb hpr hb) ?_
  rintro n' r h' ⟨b', rfl, rfl, h1, h2, h3⟩
  exact hk r b' h1 h2 h3

theorem pspec_intro {f nt : Nat} {ac : ACode} {rs : List ARes} (hf : FnOk P f nt ac rs) {b : Bx} {rest : List PV} {R : PV → Bx → Prop} (hn : rest.length + 1 ≤ nt) (hk : ∀ C : Ctx, C.dom 1 → aw P C ac (retI rs fun _ r h' => ∃ b', h' 0 = some b' ∧ r.pure ∧ pureLL b'.elems ∧ R r b') 1 (argEnv (.ptr 0 0 0 :: rest)) (heapL [(0, b)])) : PSpec P f b rest R :=
  ispec_intro hf hn hk
theorem ret_p {rs : List ARes} {R : PV → Bx → Prop} {r : PV} {b' : Bx} (hr : retAll rs e h = some r) (hp : r.pure) (hb : h 0 = some b') (hpb : pureLL b'.elems) (hR : R r b') : ∃ r0 r, retAll rs e h = some r0 ∧ LoP r0 r ∧ ∃ b', h 0 = some b' ∧ r.pure ∧ pureLL b'.elems ∧ R r b' :=
  ⟨r, r, hr, .inl rfl, b', hb, hp, hpb, hR⟩
theorem ret_pLow {rs : List ARes} {R : PV → Bx → Prop} {r : PV} {b' : Bx} (hr : retAll rs e h = some r) (hp : r.low.pure) (hb : h 0 = some b') (hpb : pureLL b'.elems) (hR : R r.low b') : ∃ r0 r, retAll rs e h = some r0 ∧ LoP r0 r ∧ ∃ b', h 0 = some b' ∧ r.pure ∧ pureLL b'.elems ∧ R r b' :=
  ⟨r, r.low, hr, .inr rfl, b', hb, hp, hpb, hR⟩

/-! ### Values whose slice is never written again -/
/-- A value, and the same with an object's slice as one that never changes again. -/
inductive FrzP (id : Nat) (l : List (List PV)) : PV → PV → Prop
  | pure (p : PV) (hp : p.pure) : FrzP id l p p
  | own : FrzP id l (.own id) (.vec l false)
  | agg (xs ys : List PV) (hl : xs.length = ys.length) (h : ∀ i, i < xs.length → FrzP id l (xs.getD i pvu) (ys.getD i pvu)) : FrzP id l (.agg xs) (.agg ys)

theorem FrzP.rep {F' : Froz} {id : Nat} {l : List (List PV)} (hF : ∀ x v, F x = some v → F' x = some v) (hown : ∀ v, Rep F φ v (.own id) → Rep F' φ v (.vec l false)) {p q : PV} (hr : FrzP id l p q) : ∀ {v : Value}, Rep F φ v p → Rep F' φ v q := by
  induction hr with
  | pure p hp => exact fun h => h.mono hF fun _ _ h => h
  | own => exact fun h => hown _ h
  | agg xs ys hl _ ih =>
    intro v h
    obtain ⟨vs, rfl, h1, h2, h3⟩ := h.agg_inv
    exact .agg vs ys (by rw [h1, hl]) (fun i hi => h2 i (by rw [hl]; exact hi)) fun i hi => ih i (by rw [hl]; exact hi) (h3 i (by rw [hl]; exact hi))

theorem sub_freezeP {k id : Nat} {b : Bx} {p q : PV} (hk : e k = some p) (hb : h id = some b) (hp : pureLL b.elems) (hq : FrzP id b.elems p q) : Sub C n e h n (e.upd k q) (h.del id) := by
  rintro a w ⟨F, φ, s⟩
  obtain ⟨hlt, hr⟩ := s.env k _ hk
  obtain ⟨loc', h1, h2, h3⟩ := s.live id b hb
  have s1 : St' C (fun i => n ≤ i) e (h.del id) F φ a w := s.sub (fun _ _ h => h) (fun _ _ hh => (Heap.del_some hh).2)
  have hput : ∀ {F' : Froz}, St' C (fun i => n ≤ i) e (h.del id) F' φ a w → Rep F' φ (a.tmps.getD k undef) q → St C (fun i => n ≤ i) (e.upd k q) (h.del id) a w := fun {F'} s2 hrep => by
    refine ⟨F', φ, { s2 with env := fun j p hj => ?_ }⟩
    by_cases hjk : j = k
    · subst hjk; rw [Env.upd_same] at hj; cases hj; exact ⟨hlt, hrep⟩
    · rw [Env.upd_ne _ _ hjk] at hj; exact s2.env j p hj
  by_cases hc0 : loc'.cap = 0
  · have hl0 : loc'.len = 0 := by have := h2.cap; omega
    have he0 : b.elems = [] := List.eq_nil_of_length_eq_zero (by rw [h2.len, hl0])
    refine hput s1 (hq.rep (fun _ _ h => h) (fun v hv => ?_) hr)
    obtain ⟨loc, hl, rfl⟩ := hv.own_inv
    obtain rfl : loc' = loc := by rw [h1] at hl; simpa using hl
    rw [he0, hl0, hc0]
    cases hbs : loc'.base with
    | none => exact .vecnil false
    | some x => exact .vec (F := F) (φ := φ) x 0 0 [] false (fun _ _ => undef) (fun h => absurd rfl h) (Nat.le_refl _) (by simp) (by simp) (by simp) (by simp) (by simp)
  · obtain ⟨ad, hbase, hs, cells, ct, hg, hroom, hrep⟩ := h2.room hc0
    have hhas : loc'.has ad.block := ⟨hc0, ad, hbase, rfl⟩
    have s2 := s1.frz hg (h3 _ hhas).2 (s.del_no hb h1 hhas) (h3 _ hhas).1
    have hx := frozNew_ext (h3 _ hhas).2 cells
    refine hput s2 (hq.rep hx (fun v hv => ?_) hr)
    obtain ⟨loc, hl, rfl⟩ := hv.own_inv
    obtain rfl : loc' = loc := by rw [h1] at hl; simpa using hl
    rw [hbase, ← h2.len]
    have hlt2 : ∀ i j, i < b.elems.length → j < loc'.esz → ad.off + (i * loc'.esz + j) < cells.size := fun i j hi hj => by
      have := idx_lt (n := loc'.cap) (i := i) (j := j) (esz := loc'.esz) (by have := h2.cap; have := h2.len; omega) hj
      omega
    refine .vec ad loc'.cap loc'.esz b.elems false (fun i j => cells.getD (ad.off + (i * loc'.esz + j)) undef) (fun _ => hs) (by rw [h2.len]; exact h2.cap) (by simp) (by rw [h2.len]; exact h2.max) (fun i hi => h2.el _ (by simp [List.getD_eq_getElem?_getD, hi])) (fun i j hi hj => ?_) (fun i j hi hj => ?_)
    · exact frozNew_at F _ _ (hlt2 i j hi hj) (hrep i j (by rw [← h2.len]; exact hi) hj).1
    · exact (hrep i j (by rw [← h2.len]; exact hi) hj).2.mono hx fun _ _ h => h
theorem subA_freezeP {k id : Nat} {b : Bx} {p q : PV} (hk : e k = some p) (hb : h id = some b) (hp : pureLL b.elems) (hq : FrzP id b.elems p q) : SubA n e h n (e.upd k q) (h.del id) := fun _ => sub_freezeP hk hb hp hq

/-- An empty slice without capacity in a variable's cell may be taken for one of the call's own. -/
theorem sub_cellNil {id : Nat} {b : Bx} {i0 j0 : Nat} (hb : h id = some b) (hi0 : i0 < b.elems.length) (hj0 : j0 < (b.elems.getD i0 []).length) (hcell : (b.elems.getD i0 []).getD j0 pvu = .vec [] true) (esz : Nat) (hp : 0 < esz) (hn : id < n) :
    Sub C n e h (n + 1) e ((h.upd id ⟨b.esz, b.elems.set i0 ((b.elems.getD i0 []).set j0 (.own n))⟩).upd n ⟨esz, []⟩) := by
  rintro a w ⟨F, φ, s⟩
  obtain ⟨loc, h1, h2, h3⟩ := s.live id b hb
  have hcl : (b.elems.getD i0 []).length = loc.esz := h2.el _ (by simp [List.getD_eq_getElem?_getD, hi0])
  have hc0 : loc.cap ≠ 0 := by have := h2.cap; have := h2.len; omega
  obtain ⟨ad, hbase, hs, cells, ct, hg, hroom, hrep⟩ := h2.room hc0
  have hr0 := (hrep i0 j0 (by rw [← h2.len]; exact hi0) (by rw [← hcl]; exact hj0)).2
  rw [hcell] at hr0
  have hbase' : ∃ base, cells.getD (ad.off + (i0 * loc.esz + j0)) undef = .slice base 0 0 := by
    rcases hr0.vec_inv with ⟨_, h⟩ | ⟨x, cap, esz', cs, h, _, _, hf, _⟩
    · exact ⟨none, h⟩
    · exact ⟨some x, by rw [h, hf rfl]; rfl⟩
  obtain ⟨base, hbs⟩ := hbase'
  have s' := s.allocNil (Nat.le_refl n) base esz hp
  have hfr : ∀ i, n + 1 ≤ i → n ≤ i ∧ i ≠ n := fun i hi => ⟨by omega, by omega⟩
  have s2 := s'.weaken hfr
  have hne : id ≠ n := by omega
  have hx := locUpd_ext (s.free n (Nat.le_refl n)) ⟨base, esz, 0, 0⟩
  refine ⟨F, _, { s2 with live := fun i bi hi => ?_, sep := fun i j bi bj li lj k hi hj hli hlj hki hkj => ?_ }⟩
  · by_cases hin : i = n
    · subst hin
      rw [Heap.upd_same] at hi
      cases hi
      exact s2.live i _ (by rw [Heap.upd_same])
    · rw [Heap.upd_ne _ _ hin] at hi
      by_cases hid : i = id
      · subst hid
        rw [Heap.upd_same] at hi
        cases hi
        refine ⟨loc, hx _ _ h1, ?_, h3⟩
        refine ⟨h2.esz, h2.pos, by simpa using h2.len, h2.cap, h2.max, fun c hc => ?_, fun _ => ⟨ad, hbase, hs, cells, ct, hg, hroom, fun i' j' hi' hj' => ?_⟩⟩
        · rcases List.mem_or_eq_of_mem_set hc with h | h
          · exact h2.el c h
          · rw [h, List.length_set]; exact hcl
        · refine ⟨(hrep i' j' hi' hj').1, ?_⟩
          by_cases hii : i' = i0
          · subst hii
            have e1 : (b.elems.set i' ((b.elems.getD i' []).set j0 (.own n))).getD i' [] = (b.elems.getD i' []).set j0 (.own n) := by
              rw [List.getD_eq_getElem?_getD, List.getElem?_set]; simp [hi0]
            rw [e1]
            by_cases hjj : j' = j0
            · subst hjj
              have e2 : ((b.elems.getD i' []).set j' (.own n)).getD j' pvu = .own n := by
                rw [List.getD_eq_getElem?_getD, List.getElem?_set, if_pos rfl, if_pos hj0]; rfl
              rw [e2, hbs]
              exact .own n ⟨base, esz, 0, 0⟩ (by simp [locUpd])
            · have e2 : ((b.elems.getD i' []).set j0 (.own n)).getD j' pvu = (b.elems.getD i' []).getD j' pvu := by
                rw [List.getD_eq_getElem?_getD, List.getElem?_set, if_neg (Ne.symm hjj), ← List.getD_eq_getElem?_getD]
              rw [e2]
              exact (hrep i' j' hi' hj').2.mono (fun _ _ h => h) hx
          · have e1 : (b.elems.set i0 ((b.elems.getD i0 []).set j0 (.own n))).getD i' [] = b.elems.getD i' [] := by
              rw [List.getD_eq_getElem?_getD, List.getElem?_set, if_neg (Ne.symm hii), ← List.getD_eq_getElem?_getD]
            rw [e1]
            exact (hrep i' j' hi' hj').2.mono (fun _ _ h => h) hx
      · rw [Heap.upd_ne _ _ hid] at hi
        exact s2.live i bi (by rw [Heap.upd_ne _ _ hin]; exact hi)
  · have conv : ∀ {i : Nat} {bi : Bx}, ((h.upd id ⟨b.esz, b.elems.set i0 ((b.elems.getD i0 []).set j0 (.own n))⟩).upd n ⟨esz, []⟩) i = some bi → ∃ b0, (h.upd n ⟨esz, []⟩) i = some b0 := by
      intro i bi hi
      by_cases hin : i = n
      · subst hin; exact ⟨_, Heap.upd_same _ _ _⟩
      · rw [Heap.upd_ne _ _ hin] at hi ⊢
        by_cases hid : i = id
        · subst hid; exact ⟨b, hb⟩
        · rw [Heap.upd_ne _ _ hid] at hi; exact ⟨bi, hi⟩
    obtain ⟨b1, g1⟩ := conv hi
    obtain ⟨b2, g2⟩ := conv hj
    exact s2.sep i j b1 b2 li lj k g1 g2 hli hlj hki hkj
theorem subA_cellNil {id : Nat} {b : Bx} {i0 j0 : Nat} (hb : h id = some b) (hi0 : i0 < b.elems.length) (hj0 : j0 < (b.elems.getD i0 []).length) (hcell : (b.elems.getD i0 []).getD j0 pvu = .vec [] true) (esz : Nat) (hp : 0 < esz) (hn : id < n) :
    SubA n e h (n + 1) e ((h.upd id ⟨b.esz, b.elems.set i0 ((b.elems.getD i0 []).set j0 (.own n))⟩).upd n ⟨esz, []⟩) := fun _ => sub_cellNil hb hi0 hj0 hcell esz hp hn

/-! ### Names that move -/
def mv (k k' : Nat) : Nat → Nat := fun i => bif Nat.beq i k then k' else i
theorem injOn_mv {k k' : Nat} {HL : List (Nat × Bx)} (hk : ∀ q ∈ HL, q.1 ≠ k') : InjOn (mv k k') HL := by
  intro q hq q' hq' h
  unfold mv at h
  by_cases h1 : q.1 = k <;> by_cases h2 : q'.1 = k
  · rw [h1, h2]
  · have e1 : Nat.beq q.1 k = true := by rw [h1]; exact Nat.beq_refl k
    have e2 : Nat.beq q'.1 k = false := Bool.eq_false_iff.2 fun hb => h2 (Nat.eq_of_beq_eq_true hb)
    rw [e1, e2] at h
    exact absurd h.symm (hk q' hq')
  · have e1 : Nat.beq q'.1 k = true := by rw [h2]; exact Nat.beq_refl k
    have e2 : Nat.beq q.1 k = false := Bool.eq_false_iff.2 fun hb => h1 (Nat.eq_of_beq_eq_true hb)
    rw [e1, e2] at h
    exact absurd h (hk q hq)
  · have e1 : Nat.beq q.1 k = false := Bool.eq_false_iff.2 fun hb => h1 (Nat.eq_of_beq_eq_true hb)
    have e2 : Nat.beq q'.1 k = false := Bool.eq_false_iff.2 fun hb => h2 (Nat.eq_of_beq_eq_true hb)
    rw [e1, e2] at h
    exact h
theorem mv_low {k k' m : Nat} (h : m ≤ k) : ∀ i, i < m → mv k k' i = i := by
  intro i hi
  have e1 : Nat.beq i k = false := Bool.eq_false_iff.2 fun hb => by have := Nat.eq_of_beq_eq_true hb; omega
  unfold mv
  rw [e1]; rfl
theorem injOn_of {ρ : Nat → Nat} {HL : List (Nat × Bx)} (h : ((HL.map Prod.fst).all fun x => (HL.map Prod.fst).all fun y => !(Nat.beq (ρ x) (ρ y)) || Nat.beq x y) = true) : InjOn ρ HL := by
  intro q hq q' hq' he
  have h1 := List.all_eq_true.1 h q.1 (List.mem_map_of_mem hq)
  have h2 := List.all_eq_true.1 h1 q'.1 (List.mem_map_of_mem hq')
  rw [he] at h2
  have e1 : Nat.beq (ρ q'.1) (ρ q'.1) = true := Nat.beq_refl _
  rw [e1] at h2
  exact Nat.eq_of_beq_eq_true (by simpa using h2)
theorem injOn_id {HL : List (Nat × Bx)} : InjOn (fun i => i) HL := fun _ _ _ _ h => h

def RenLs (ρ : Nat → Nat) (D : Nat → Prop) : List PV → List PV → Prop
  | [], [] => True
  | a :: r, b :: s => RenP ρ D a b ∧ RenLs ρ D r s
  | _, _ => False
theorem RenLs.get {ρ : Nat → Nat} {D : Nat → Prop} : ∀ {l m : List PV}, RenLs ρ D l m → l.length = m.length ∧ ∀ j, j < m.length → RenP ρ D (l.getD j pvu) (m.getD j pvu)
  | [], [], _ => ⟨rfl, fun j hj => by simp at hj⟩
  | a :: r, b :: s, h => by
    obtain ⟨h1, h2⟩ := RenLs.get h.2
    refine ⟨by simp [h1], fun j hj => ?_⟩
    cases j with
    | zero => exact h.1
    | succ j => exact h2 j (by simpa using hj)
  | [], _ :: _, h => h.elim
  | _ :: _, [], h => h.elim
theorem RenB.single {ρ : Nat → Nat} {D : Nat → Prop} {esz : Nat} {l0 l : List PV} (h : RenLs ρ D l0 l) (hl : l.length = esz) : RenB ρ D ⟨esz, [l0]⟩ ⟨esz, [l]⟩ := by
  obtain ⟨h1, h2⟩ := h.get
  refine .gen _ _ rfl rfl (fun i hi => ?_) fun i j hi hj => ?_
  · have : i = 0 := by simpa using hi
    subst this; exact h1
  · have : i = 0 := by simpa using hi
    subst this; exact h2 j (by rw [hl]; exact hj)

def FrzLs (id : Nat) (l : List (List PV)) : List PV → List PV → Prop
  | [], [] => True
  | a :: r, b :: s => FrzP id l a b ∧ FrzLs id l r s
  | _, _ => False
theorem FrzLs.agg {id : Nat} {l : List (List PV)} {xs ys : List PV} (h : FrzLs id l xs ys) : FrzP id l (.agg xs) (.agg ys) := by
  have key : ∀ {xs ys : List PV}, FrzLs id l xs ys → xs.length = ys.length ∧ ∀ j, j < xs.length → FrzP id l (xs.getD j pvu) (ys.getD j pvu) := by
    intro xs
    induction xs with
    | nil =>
      intro ys h
      cases ys with
      | nil => exact ⟨rfl, fun j hj => by simp at hj⟩
      | cons => exact h.elim
    | cons a r ih =>
      intro ys h
      cases ys with
      | nil => exact h.elim
      | cons b s =>
        obtain ⟨h1, h2⟩ := ih h.2
        refine ⟨by simp [h1], fun j hj => ?_⟩
        cases j with
        | zero => exact h.1
        | succ j => exact h2 j (by simpa using hj)
  exact .agg xs ys (key h).1 (key h).2
end
end Go.Proofs.Ytelcpkjclcimbaa
