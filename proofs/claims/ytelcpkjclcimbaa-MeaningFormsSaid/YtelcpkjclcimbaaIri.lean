/-
  The calculus: calls that work on one variable of the caller; slices and cells of the call's own that are never written again. For every program; no statement of the seat is proved here.
-/
import Derived.Test.YtelcpkjclcimbaaIrf
namespace Go.Proofs.Ytelcpkjclcimbaa
open Go.RowKit
set_option linter.unusedVariables false
set_option linter.unusedSimpArgs false

section
variable {P : Program} {C : Ctx} {Fr : Nat → Prop} {e : Env} {h : Heap} {n : Nat} {F : Froz} {φ : Locs} {a : Act} {w : World} {K : Nat → Env → Heap → Prop} {os : List AOper} {d : Option Nat} {Q : Exit → Nat → Env → Heap → Prop}

theorem PSpec.frame {f : FuncId} {b : Bx} {rest : List PV} {R : PV → Bx → Prop} (hs : PSpec P f b rest R) (hpb : pureLL b.elems) (hpr : pureL rest) {id : Nat} (hb : h id = some b) :
    ISpec P f n (.ptr id 0 0 :: rest) h fun n' r h' => ∃ b', n' = n ∧ h' = h.upd id b' ∧ r.pure ∧ pureLL b'.elems ∧ R r b' := by
  refine ⟨hs.1, fun C e F φ a w vs s hv => (hs.run hpb hpr hb s hv).mono ?_⟩
  rintro en w' ⟨v, r, b', F', rfl, ⟨h1, h2, h3⟩, hvr, s'⟩
  exact ⟨v, r, n, _, F', φ, rfl, ⟨b', rfl, rfl, h1, h2, h3⟩, hvr, s'⟩

/-- A call that works on a variable. -/
theorem opsK_ptr {f : Operand} {args : List Operand} {g : FuncId} {caps as rest : List PV} {b : Bx} {id : Nat} {R : PV → Bx → Prop} (hs : PSpec P g b rest R) (hf : ev e f = some (.fn g caps)) (ha : evs e args = some as) (hr : as ++ caps = .ptr id 0 0 :: rest) (hb : h id = some b) (hpb : pureLL b.elems) (hpr : pureL rest)
    (hk : ∀ r b', r.pure → pureLL b'.elems → R r b' → opsK P os n (updO e d r) (h.upd id b') K) : opsK P (⟨d, .call f args, none⟩ :: os) n e h K := by
  refine opsK_heap hf ha (R := fun n' r h' => ∃ b', n' = n ∧ h' = h.upd id b' ∧ r.pure ∧ pureLL b'.elems ∧ R r b') (by rw [hr]; exact hs.frame hpb hpr hb) ?_
  rintro n' r h' ⟨b', rfl, rfl, h1, h2, h3⟩
  exact hk r b' h1 h2 h3

theorem pspec_intro {f nt : Nat} {ac : ACode} {rs : List ARes} (hf : FnOk P f nt ac rs) {b : Bx} {rest : List PV} {R : PV → Bx → Prop} (hn : rest.length + 1 ≤ nt) (hk : ∀ C : Ctx, C.dom 1 → aw P C ac (retI rs fun _ r h' => ∃ b', h' 0 = some b' ∧ r.pure ∧ pureLL b'.elems ∧ R r b') 1 (argEnv (.ptr 0 0 0 :: rest)) (heapL [(0, b)])) : PSpec P f b rest R :=
  ispec_intro hf hn hk
theorem ret_p {rs : List ARes} {R : PV → Bx → Prop} {r : PV} {b' : Bx} (hr : retAll rs e h = some r) (hp : r.pure) (hb : h 0 = some b') (hpb : pureLL b'.elems) (hR : R r b') : ∃ r0 r, retAll rs e h = some r0 ∧ LoP r0 r ∧ ∃ b', h 0 = some b' ∧ r.pure ∧ pureLL b'.elems ∧ R r b' :=
  ⟨r, r, hr, .inl rfl, b', hb, hp, hpb, hR⟩
theorem ret_pLow {rs : List ARes} {R : PV → Bx → Prop} {r : PV} {b' : Bx} (hr : retAll rs e h = some r) (hp : r.low.pure) (hb : h 0 = some b') (hpb : pureLL b'.elems) (hR : R r.low b') : ∃ r0 r, retAll rs e h = some r0 ∧ LoP r0 r ∧ ∃ b', h 0 = some b' ∧ r.pure ∧ pureLL b'.elems ∧ R r b' :=
  ⟨r, r.low, hr, .inr rfl, b', hb, hp, hpb, hR⟩

/-! ### Values whose slice is never written again -/
/-- A value, and the same with an object's slice as one that never changes again. -/
inductive FrzP (id : Nat) (l : List (List PV)) : PV → PV → Prop
  | pure (p : PV) (hp : p.pure) : FrzP id l p p
  | own : FrzP id l (.own id) (.vec l false)
  | agg (xs ys : List PV) (hl : xs.length = ys.length) (h : ∀ i, i < xs.length → FrzP id l (xs.getD i pvu) (ys.getD i pvu)) : FrzP id l (.agg xs) (.agg ys)

theorem FrzP.rep {F' : Froz} {id : Nat} {l : List (List PV)} (hF : ∀ x v, F x = some v → F' x = some v) (hown : ∀ v, Rep F φ v (.own id) → Rep F' φ v (.vec l false)) {p q : PV} (hr : FrzP id l p q) : ∀ {v : Value}, Rep F φ v p → Rep F' φ v q := by
  induction hr with
  | pure p hp => exact fun h => h.mono hF fun _ _ h => h
  | own => exact fun h => hown _ h
  | agg xs ys hl _ ih =>
    intro v h
    obtain ⟨vs, rfl, h1, h2, h3⟩ := h.agg_inv
    exact .agg vs ys (by rw [h1, hl]) (fun i hi => h2 i (by rw [hl]; exact hi)) fun i hi => ih i (by rw [hl]; exact hi) (h3 i (by rw [hl]; exact hi))

theorem sub_freezeP {k id : Nat} {b : Bx} {p q : PV} (hk : e k = some p) (hb : h id = some b) (hp : pureLL b.elems) (hq : FrzP id b.elems p q) : Sub C n e h n (e.upd k q) (h.del id) := by
  rintro a w ⟨F, φ, s⟩
  obtain ⟨hlt, hr⟩ := s.env k _ hk
  obtain ⟨loc', h1, h2, h3⟩ := s.live id b hb
  have s1 : St' C (fun i => n ≤ i) e (h.del id) F φ a w := s.sub (fun _ _ h => h) (fun _ _ hh => (Heap.del_some hh).2)
  have hput : ∀ {F' : Froz}, St' C (fun i => n ≤ i) e (h.del id) F' φ a w → Rep F' φ (a.tmps.getD k undef) q → St C (fun i => n ≤ i) (e.upd k q) (h.del id) a w := fun {F'} s2 hrep => by
    refine ⟨F', φ, { s2 with env := fun j p hj => ?_ }⟩
    by_cases hjk : j = k
    · subst hjk; rw [Env.upd_same] at hj; cases hj; exact ⟨hlt, hrep⟩
    · rw [Env.upd_ne _ _ hjk] at hj; exact s2.env j p hj
  by_cases hc0 : loc'.cap = 0
  · have hl0 : loc'.len = 0 := by have := h2.cap; omega
    have he0 : b.elems = [] := List.eq_nil_of_length_eq_zero (by rw [h2.len, hl0])
    refine hput s1 (hq.rep (fun _ _ h => h) (fun v hv => ?_) hr)
    obtain ⟨loc, hl, rfl⟩ := hv.own_inv
    obtain rfl : loc' = loc := by rw [h1] at hl; simpa using hl
    rw [he0, hl0, hc0]
    cases hbs : loc'.base with
    | none => exact .vecnil false
    | some x => exact .vec (F := F) (φ := φ) x 0 0 [] false (fun _ _ => undef) (fun h => absurd rfl h) (Nat.le_refl _) (by simp) (by simp) (by simp) (by simp) (by simp)
  · obtain ⟨ad, hbase, hs, cells, ct, hg, hroom, hrep⟩ := h2.room hc0
    have hhas : loc'.has ad.block := ⟨hc0, ad, hbase, rfl⟩
    have s2 := s1.frz hg (h3 _ hhas).2 (s.del_no hb h1 hhas) (h3 _ hhas).1
    have hx := frozNew_ext (h3 _ hhas).2 cells
    refine hput s2 (hq.rep hx (fun v hv => ?_) hr)
    obtain ⟨loc, hl, rfl⟩ := hv.own_inv
    obtain rfl : loc' = loc := by rw [h1] at hl; simpa using hl
    rw [hbase, ← h2.len]
    have hlt2 : ∀ i j, i < b.elems.length → j < loc'.esz → ad.off + (i * loc'.esz + j) < cells.size := fun i j hi hj => by
      have := idx_lt (n := loc'.cap) (i := i) (j := j) (esz := loc'.esz) (by have := h2.cap; have := h2.len; omega) hj
      omega
    refine .vec ad loc'.cap loc'.esz b.elems false (fun i j => cells.getD (ad.off + (i * loc'.esz + j)) undef) (fun _ => hs) (by rw [h2.len]; exact h2.cap) (by simp) (by rw [h2.len]; exact h2.max) (fun i hi => h2.el _ (by simp [List.getD_eq_getElem?_getD, hi])) (fun i j hi hj => ?_) (fun i j hi hj => ?_)
    · exact frozNew_at F _ _ (hlt2 i j hi hj) (hrep i j (by rw [← h2.len]; exact hi) hj).1
    · exact (hrep i j (by rw [← h2.len]; exact hi) hj).2.mono hx fun _ _ h => h
theorem subA_freezeP {k id : Nat} {b : Bx} {p q : PV} (hk : e k = some p) (hb : h id = some b) (hp : pureLL b.elems) (hq : FrzP id b.elems p q) : SubA n e h n (e.upd k q) (h.del id) := fun _ => sub_freezeP hk hb hp hq

/-- An empty slice without capacity in a variable's cell may be taken for one of the call's own. -/
theorem sub_cellNil {id : Nat} {b : Bx} {i0 j0 : Nat} (hb : h id = some b) (hi0 : i0 < b.elems.length) (hj0 : j0 < (b.elems.getD i0 []).length) (hcell : (b.elems.getD i0 []).getD j0 pvu = .vec [] true) (esz : Nat) (hp : 0 < esz) (hn : id < n) :
    Sub C n e h (n + 1) e ((h.upd id ⟨b.esz, b.elems.set i0 ((b.elems.getD i0 []).set j0 (.own n))⟩).upd n ⟨esz, []⟩) := by
  rintro a w ⟨F, φ, s⟩
  obtain ⟨loc, h1, h2, h3⟩ := s.live id b hb
  have hcl : (b.elems.getD i0 []).length = loc.esz := h2.el _ (by simp [List.getD_eq_getElem?_getD, hi0])
  have hc0 : loc.cap ≠ 0 := by have := h2.cap; have := h2.len; omega
  obtain ⟨ad, hbase, hs, cells, ct, hg, hroom, hrep⟩ := h2.room hc0
  have hr0 := (hrep i0 j0 (by rw [← h2.len]; exact hi0) (by rw [← hcl]; exact hj0)).2
  rw [hcell] at hr0
  have hbase' : ∃ base, cells.getD (ad.off + (i0 * loc.esz + j0)) undef = .slice base 0 0 := by
    rcases hr0.vec_inv with ⟨_, h⟩ | ⟨x, cap, esz', cs, h, _, _, hf, _⟩
    · exact ⟨none, h⟩
    · exact ⟨some x, by rw [h, hf rfl]; rfl⟩
  obtain ⟨base, hbs⟩ := hbase'
  have s' := s.allocNil (Nat.le_refl n) base esz hp
  have hfr : ∀ i, n + 1 ≤ i → n ≤ i ∧ i ≠ n := fun i hi => ⟨by omega, by omega⟩
  have s2 := s'.weaken hfr
  have hne : id ≠ n := by omega
  have hx := locUpd_ext (s.free n (Nat.le_refl n)) ⟨base, esz, 0, 0⟩
  refine ⟨F, _, { s2 with live := fun i bi hi => ?_, sep := fun i j bi bj li lj k hi hj hli hlj hki hkj => ?_ }⟩
  · by_cases hin : i = n
    · subst hin
      rw [Heap.upd_same] at hi
      cases hi
      exact s2.live i _ (by rw [Heap.upd_same])
    · rw [Heap.upd_ne _ _ hin] at hi
      by_cases hid : i = id
      · subst hid
        rw [Heap.upd_same] at hi
        cases hi
        refine ⟨loc, hx _ _ h1, ?_, h3⟩
        refine ⟨h2.esz, h2.pos, by simpa using h2.len, h2.cap, h2.max, fun c hc => ?_, fun _ => ⟨ad, hbase, hs, cells, ct, hg, hroom, fun i' j' hi' hj' => ?_⟩⟩
        · rcases List.mem_or_eq_of_mem_set hc with h | h
          · exact h2.el c h
          · rw [h, List.length_set]; exact hcl
        · refine ⟨(hrep i' j' hi' hj').1, ?_⟩
          by_cases hii : i' = i0
          · subst hii
            have e1 : (b.elems.set i' ((b.elems.getD i' []).set j0 (.own n))).getD i' [] = (b.elems.getD i' []).set j0 (.own n) := by
              rw [List.getD_eq_getElem?_getD, List.getElem?_set]; simp [hi0]
            rw [e1]
            by_cases hjj : j' = j0
            · subst hjj
              have e2 : ((b.elems.getD i' []).set j' (.own n)).getD j' pvu = .own n := by
                rw [List.getD_eq_getElem?_getD, List.getElem?_set, if_pos rfl, if_pos hj0]; rfl
              rw [e2, hbs]
              exact .own n ⟨base, esz, 0, 0⟩ (by simp [locUpd])
            · have e2 : ((b.elems.getD i' []).set j0 (.own n)).getD j' pvu = (b.elems.getD i' []).getD j' pvu := by
                rw [List.getD_eq_getElem?_getD, List.getElem?_set, if_neg (Ne.symm hjj), ← List.getD_eq_getElem?_getD]
              rw [e2]
              exact (hrep i' j' hi' hj').2.mono (fun _ _ h => h) hx
          · have e1 : (b.elems.set i0 ((b.elems.getD i0 []).set j0 (.own n))).getD i' [] = b.elems.getD i' [] := by
              rw [List.getD_eq_getElem?_getD, List.getElem?_set, if_neg (Ne.symm hii), ← List.getD_eq_getElem?_getD]
            rw [e1]
            exact (hrep i' j' hi' hj').2.mono (fun _ _ h => h) hx
      · rw [Heap.upd_ne _ _ hid] at hi
        exact s2.live i bi (by rw [Heap.upd_ne _ _ hin]; exact hi)
  · have conv : ∀ {i : Nat} {bi : Bx}, ((h.upd id ⟨b.esz, b.elems.set i0 ((b.elems.getD i0 []).set j0 (.own n))⟩).upd n ⟨esz, []⟩) i = some bi → ∃ b0, (h.upd n ⟨esz, []⟩) i = some b0 := by
      intro i bi hi
      by_cases hin : i = n
      · subst hin; exact ⟨_, Heap.upd_same _ _ _⟩
      · rw [Heap.upd_ne _ _ hin] at hi ⊢
        by_cases hid : i = id
        · subst hid; exact ⟨b, hb⟩
        · rw [Heap.upd_ne _ _ hid] at hi; exact ⟨bi, hi⟩
    obtain ⟨b1, g1⟩ := conv hi
    obtain ⟨b2, g2⟩ := conv hj
    exact s2.sep i j b1 b2 li lj k g1 g2 hli hlj hki hkj
theorem subA_cellNil {id : Nat} {b : Bx} {i0 j0 : Nat} (hb : h id = some b) (hi0 : i0 < b.elems.length) (hj0 : j0 < (b.elems.getD i0 []).length) (hcell : (b.elems.getD i0 []).getD j0 pvu = .vec [] true) (esz : Nat) (hp : 0 < esz) (hn : id < n) :
    SubA n e h (n + 1) e ((h.upd id ⟨b.esz, b.elems.set i0 ((b.elems.getD i0 []).set j0 (.own n))⟩).upd n ⟨esz, []⟩) := fun _ => sub_cellNil hb hi0 hj0 hcell esz hp hn

/-- One after the other; the state between them is one of a family. -/
theorem aw_cutX {X : Type} {m : Nat} (hdom : C.dom m) (A : X → Prop) (N : Nat) (L : X → List (Nat × PV)) (HL : X → List (Nat × Bx)) {x y : ACode} (hm : m ≤ N) (h1 : aw P C x (thenQ (fun n e h => ∃ z, A z ∧ EnvR e N (L z) ∧ HeapR h N (HL z)) Q) n e h) (h2 : ∀ z, A z → aw P C y Q N (envL (L z)) (heapL (HL z))) : aw P C (.seq x y) Q n e h :=
  aw_seq (aw_mono h1 fun ex n e h hq => by
    cases ex with
    | normal => obtain ⟨z, ha, he, hh⟩ := hq; exact aw_keep hdom (L z) (HL z) hm he hh (h2 z ha)
    | _ => exact hq)
/-- A call that works on a variable, in a region whose order is open. -/
theorem dK_ptr {n i mask id : Nat} {d : Option Nat} {f : Operand} {args : List Operand} {iso alt : Bool} {xs : List DItem} {K : Env → Heap → Prop} {g : FuncId} {caps as rest : List PV} {b : Bx} {R : PV → Bx → Prop} (hs : PSpec P g b rest R) (hf : ev e f = some (.fn g caps)) (ha : evs e args = some as) (hr : as ++ caps = .ptr id 0 0 :: rest) (hb : h id = some b) (hpb : pureLL b.elems) (hpr : pureL rest)
    (hk : ∀ r b', r.pure → pureLL b'.elems → R r b' → dK P (some id) n xs (updO e d r) (h.upd id b') K) : dK P (some id) n (⟨i, ⟨d, .call f args, none⟩, mask, iso, alt⟩ :: xs) e h K := dK_callP hs hf ha hr hb hpb hpr hk

/-! ### Names that move -/
def mv (k k' : Nat) : Nat → Nat := fun i => bif Nat.beq i k then k' else i
theorem injOn_mv {k k' : Nat} {HL : List (Nat × Bx)} (hk : ∀ q ∈ HL, q.1 ≠ k') : InjOn (mv k k') HL := by
  intro q hq q' hq' h
  unfold mv at h
  by_cases h1 : q.1 = k <;> by_cases h2 : q'.1 = k
  · rw [h1, h2]
  · have e1 : Nat.beq q.1 k = true := by rw [h1]; exact Nat.beq_refl k
    have e2 : Nat.beq q'.1 k = false := Bool.eq_false_iff.2 fun hb => h2 (Nat.eq_of_beq_eq_true hb)
    rw [e1, e2] at h
    exact absurd h.symm (hk q' hq')
  · have e1 : Nat.beq q'.1 k = true := by rw [h2]; exact Nat.beq_refl k
    have e2 : Nat.beq q.1 k = false := Bool.eq_false_iff.2 fun hb => h1 (Nat.eq_of_beq_eq_true hb)
    rw [e1, e2] at h
    exact absurd h (hk q hq)
  · have e1 : Nat.beq q.1 k = false := Bool.eq_false_iff.2 fun hb => h1 (Nat.eq_of_beq_eq_true hb)
    have e2 : Nat.beq q'.1 k = false := Bool.eq_false_iff.2 fun hb => h2 (Nat.eq_of_beq_eq_true hb)
    rw [e1, e2] at h
    exact h
theorem mv_low {k k' m : Nat} (h : m ≤ k) : ∀ i, i < m → mv k k' i = i := by
  intro i hi
  have e1 : Nat.beq i k = false := Bool.eq_false_iff.2 fun hb => by have := Nat.eq_of_beq_eq_true hb; omega
  unfold mv
  rw [e1]; rfl
theorem injOn_of {ρ : Nat → Nat} {HL : List (Nat × Bx)} (h : ((HL.map Prod.fst).all fun x => (HL.map Prod.fst).all fun y => !(Nat.beq (ρ x) (ρ y)) || Nat.beq x y) = true) : InjOn ρ HL := by
  intro q hq q' hq' he
  have h1 := List.all_eq_true.1 h q.1 (List.mem_map_of_mem hq)
  have h2 := List.all_eq_true.1 h1 q'.1 (List.mem_map_of_mem hq')
  rw [he] at h2
  have e1 : Nat.beq (ρ q'.1) (ρ q'.1) = true := Nat.beq_refl _
  rw [e1] at h2
  exact Nat.eq_of_beq_eq_true (by simpa using h2)
theorem injOn_id {HL : List (Nat × Bx)} : InjOn (fun i => i) HL := fun _ _ _ _ h => h

def RenLs (ρ : Nat → Nat) (D : Nat → Prop) : List PV → List PV → Prop
  | [], [] => True
  | a :: r, b :: s => RenP ρ D a b ∧ RenLs ρ D r s
  | _, _ => False
theorem RenLs.get {ρ : Nat → Nat} {D : Nat → Prop} : ∀ {l m : List PV}, RenLs ρ D l m → l.length = m.length ∧ ∀ j, j < m.length → RenP ρ D (l.getD j pvu) (m.getD j pvu)
  | [], [], _ => ⟨rfl, fun j hj => by simp at hj⟩
  | a :: r, b :: s, h => by
    obtain ⟨h1, h2⟩ := RenLs.get h.2
    refine ⟨by simp [h1], fun j hj => ?_⟩
    cases j with
    | zero => exact h.1
    | succ j => exact h2 j (by simpa using hj)
  | [], _ :: _, h => h.elim
  | _ :: _, [], h => h.elim
theorem RenB.single {ρ : Nat → Nat} {D : Nat → Prop} {esz : Nat} {l0 l : List PV} (h : RenLs ρ D l0 l) (hl : l.length = esz) : RenB ρ D ⟨esz, [l0]⟩ ⟨esz, [l]⟩ := by
  obtain ⟨h1, h2⟩ := h.get
  refine .gen _ _ rfl rfl (fun i hi => ?_) fun i j hi hj => ?_
  · have : i = 0 := by simpa using hi
    subst this; exact h1
  · have : i = 0 := by simpa using hi
    subst this; exact h2 j (by rw [hl]; exact hj)

def FrzLs (id : Nat) (l : List (List PV)) : List PV → List PV → Prop
  | [], [] => True
  | a :: r, b :: s => FrzP id l a b ∧ FrzLs id l r s
  | _, _ => False
theorem FrzLs.agg {id : Nat} {l : List (List PV)} {xs ys : List PV} (h : FrzLs id l xs ys) : FrzP id l (.agg xs) (.agg ys) := by
  have key : ∀ {xs ys : List PV}, FrzLs id l xs ys → xs.length = ys.length ∧ ∀ j, j < xs.length → FrzP id l (xs.getD j pvu) (ys.getD j pvu) := by
    intro xs
    induction xs with
    | nil =>
      intro ys h
      cases ys with
      | nil => exact ⟨rfl, fun j hj => by simp at hj⟩
      | cons => exact h.elim
    | cons a r ih =>
      intro ys h
      cases ys with
      | nil => exact h.elim
      | cons b s =>
        obtain ⟨h1, h2⟩ := ih h.2
        refine ⟨by simp [h1], fun j hj => ?_⟩
        cases j with
        | zero => exact h.1
        | succ j => exact h2 j (by simpa using hj)
  exact .agg xs ys (key h).1 (key h).2
end
end Go.Proofs.Ytelcpkjclcimbaa
