/-
  How the state of a call changes: a slot is written, an object is made, an object's block is written. For every program; no statement of the seat is proved here.
-/
import Derived.Test.YtelcpkjclcimbaaIr2
namespace Go.Proofs.Ytelcpkjclcimbaa
open Go.RowKit
set_option linter.unusedVariables false

section
variable {C : Ctx} {Fr : Nat → Prop} {e : Env} {h : Heap} {F : Froz} {φ : Locs} {a : Act} {w : World}

theorem pvOf_rep (v : Value) : Rep F φ v (pvOf v) := by
  unfold pvOf
  split
  · exact .vecnil true
  · exact .val _

theorem pvOf_pure (v : Value) : (pvOf v).pure := by
  unfold pvOf
  split <;> simp [PV.inn, innLL]

theorem St'.eval (s : St' C Fr e h F φ a w) {x : Operand} {p : PV} (hx : ev e x = some p) : Rep F φ (a.eval x) p := by
  cases x with
  | tmp t => exact (s.env t p (by simpa [ev] using hx)).2
  | const v => obtain rfl : pvOf v = p := by simpa [ev] using hx
               exact pvOf_rep v
  | global g => obtain rfl : _ = p := by simpa [ev] using hx
                exact .val _
  | func f => obtain rfl : _ = p := by simpa [ev] using hx
              exact .fn f #[] [] rfl (fun i hi => absurd hi (by simp))

theorem St'.evals (s : St' C Fr e h F φ a w) {xs : List Operand} {ps : List PV} (hx : evs e xs = some ps) : xs.length = ps.length ∧ ∀ i, i < ps.length → Rep F φ ((xs.map a.eval).getD i undef) (ps.getD i pvu) := by
  induction xs generalizing ps with
  | nil => obtain rfl : [] = ps := by simpa [evs] using hx
           simp
  | cons x r ih =>
    simp only [evs] at hx
    split at hx
    · rename_i p l hp hl
      obtain rfl : p :: l = ps := by simpa using hx
      obtain ⟨h1, h2⟩ := ih hl
      refine ⟨by simp [h1], fun i hi => ?_⟩
      cases i with
      | zero => simpa using s.eval hp
      | succ i => simpa using h2 i (by simpa using hi)
    · simp at hx

theorem St'.weaken (s : St' C Fr e h F φ a w) {Fr' : Nat → Prop} (hf : ∀ i, Fr' i → Fr i) : St' C Fr' e h F φ a w :=
  { s with free := fun i hi => s.free i (hf i hi) }

theorem St'.sub (s : St' C Fr e h F φ a w) {e' : Env} {h' : Heap} (he : ∀ k p, e' k = some p → e k = some p) (hh : ∀ i b, h' i = some b → h i = some b) : St' C Fr e' h' F φ a w :=
  { s with
    env := fun k p hp => s.env k p (he k p hp)
    live := fun i b hb => s.live i b (hh i b hb)
    sep := fun i j bi bj li lj k hi hj => s.sep i j bi bj li lj k (hh i bi hi) (hh j bj hj) }

theorem getD_setIfInBounds (t : Array Value) (d k : Nat) (v : Value) (hd : d < t.size) : (t.setIfInBounds d v).getD k undef = if k = d then v else t.getD k undef := by
  simp only [Array.getD_eq_getD_getElem?, Array.getElem?_setIfInBounds]
  by_cases hk : d = k
  · subst hk; simp [hd]
  · simp [hk, Ne.symm hk]

theorem St'.put (s : St' C Fr e h F φ a w) {d : Nat} {v : Value} {p : PV} (hd : d < C.nt) (hr : Rep F φ v p) : St' C Fr (e.upd d p) h F φ (a.put (some d) v) w := by
  refine { s with nt := by simp [Act.put, s.nt], nodef := s.nodef, env := fun k q hq => ?_ }
  simp only [Act.put]
  rw [getD_setIfInBounds _ _ _ _ (by rw [s.nt]; exact hd)]
  by_cases hk : k = d
  · subst hk
    rw [Env.upd_same] at hq
    obtain rfl : p = q := by simpa using hq
    simpa using ⟨hd, hr⟩
  · rw [Env.upd_ne _ _ hk] at hq
    simpa [hk] using s.env k q hq

/-- The slot that is written, if there is one. -/
def updO (e : Env) (d : Option Nat) (p : PV) : Env := match d with | some k => e.upd k p | none => e

theorem St'.putO (s : St' C Fr e h F φ a w) {d : Option Nat} {v : Value} {p : PV} (hd : dstOk C.nt d = true) (hr : Rep F φ v p) : St' C Fr (updO e d p) h F φ (a.put d v) w := by
  cases d with
  | none => exact s
  | some d => exact s.put (by simpa [dstOk] using hd) hr

theorem St'.drew (s : St' C Fr e h F φ a w) : St' C Fr e h F φ a { w with drawn := w.drawn + 1 } :=
  { nt := s.nt, nodef := s.nodef, loc0 := s.loc0, free := s.free, env := s.env, froz := s.froz, ext := s.ext, old := s.old, os := s.os, tape := s.tape, output := s.output, size := s.size, kept := s.kept,
    live := fun id b hb => by
      obtain ⟨loc, h1, h2, h3⟩ := s.live id b hb
      exact ⟨loc, h1, ⟨h2.esz, h2.pos, h2.len, h2.cap, h2.max, h2.el, h2.room⟩, h3⟩
    sep := s.sep }

theorem BxAt.mono {F' : Froz} {φ' : Locs} {w' : World} {loc : Loc} {b : Bx} (hb : BxAt F φ w loc b) (hF : ∀ x v, F x = some v → F' x = some v) (hφ : ∀ i x, φ i = some x → φ' i = some x)
    (hw : ∀ k, loc.has k → w'.heap[k]? = w.heap[k]?) : BxAt F' φ' w' loc b := by
  refine ⟨hb.esz, hb.pos, hb.len, hb.cap, hb.max, hb.el, fun hc => ?_⟩
  obtain ⟨x, hx, hs, cells, t, hg, hsz, hr⟩ := hb.room hc
  refine ⟨x, hx, hs, cells, t, by rw [hw _ ⟨hc, x, hx, rfl⟩]; exact hg, hsz, fun i j hi hj => ⟨(hr i j hi hj).1, (hr i j hi hj).2.mono hF hφ⟩⟩

theorem St'.lt (s : St' C Fr e h F φ a w) {x : Addr} {v : Value} (hx : F x = some v) : x.block < w.heap.size := block_lt_of_cell (s.froz x v hx).2.2

theorem St'.has_lt (s : St' C Fr e h F φ a w) {i : Nat} {b : Bx} {loc : Loc} {k : Nat} (hb : h i = some b) (hl : φ i = some loc) (hk : loc.has k) : k < w.heap.size := by
  obtain ⟨loc', h1, h2, _⟩ := s.live i b hb
  obtain rfl : loc' = loc := by rw [h1] at hl; simpa using hl
  obtain ⟨hc, x, hx, rfl⟩ := hk
  obtain ⟨y, hy, _, cells, t, hg, _⟩ := h2.room hc
  obtain rfl : y = x := by rw [hy] at hx; simpa using hx
  exact (Array.getElem?_eq_some_iff.1 hg).1

def locUpd (φ : Locs) (id : Nat) (loc : Loc) : Locs := fun i => if i = id then some loc else φ i

theorem locUpd_ext {id : Nat} (hid : φ id = none) (loc : Loc) : ∀ i x, φ i = some x → locUpd φ id loc i = some x := by
  intro i x hx
  have : i ≠ id := fun e => by subst e; rw [hid] at hx; cases hx
  simp [locUpd, this, hx]

/-- A new object in a new block. -/
theorem St'.alloc (s : St' C Fr e h F φ a w) {id : Nat} (hid : Fr id) (cells : Array Value) (t : TypeId) (esz len cap : Nat) (elems : List (List PV)) (hpos : 0 < esz) (hlen : elems.length = len) (hcap : len ≤ cap)
    (hmax : len ≤ maxVec) (hel : ∀ c ∈ elems, c.length = esz) (hsz : cap * esz ≤ cells.size)
    (hrep : ∀ i j, i < len → j < esz → (cells.getD (i * esz + j) undef).oneCell' = true ∧ Rep F φ (cells.getD (i * esz + j) undef) ((elems.getD i []).getD j pvu)) :
    St' C (fun i => Fr i ∧ i ≠ id) e (h.upd id ⟨esz, elems⟩) F (locUpd φ id ⟨some ⟨w.heap.size, 0, none⟩, esz, len, cap⟩) a (w.alloc (.cells cells t)) := by
  have hφ := s.free id hid
  have hext := locUpd_ext hφ ⟨some ⟨w.heap.size, 0, none⟩, esz, len, cap⟩
  have hold : ∀ k, k < w.heap.size → (w.alloc (.cells cells t)).heap[k]? = w.heap[k]? := fun k hk => Below.heap_alloc w _ k hk
  refine { nt := s.nt, nodef := s.nodef, loc0 := fun i x hx => hext _ _ (s.loc0 i x hx), free := ?_, env := fun k p hp => ⟨(s.env k p hp).1, (s.env k p hp).2.mono (fun _ _ h => h) hext⟩, froz := fun x v hx => ?_, ext := s.ext, old := s.old, os := s.os, tape := s.tape, output := s.output,
           size := by have := s.size; simp; omega, kept := fun k hk hG => by rw [hold k (by have := s.size; omega)]; exact s.kept k hk hG, live := ?_, sep := ?_ }
  · rintro i ⟨hi, hne⟩
    simp [locUpd, hne, s.free i hi]
  · obtain ⟨h1, h2, h3⟩ := s.froz x v hx
    exact ⟨h1, h2, by rw [World.cell?_of_block (w := w) (hold _ (block_lt_of_cell h3))]; exact h3⟩
  · intro i b hb
    by_cases hi : i = id
    · subst hi
      rw [Heap.upd_same] at hb
      obtain rfl : _ = b := by simpa using hb
      refine ⟨⟨some ⟨w.heap.size, 0, none⟩, esz, len, cap⟩, by simp [locUpd], ⟨rfl, hpos, hlen, hcap, hmax, hel, fun _ => ?_⟩, ?_⟩
      · refine ⟨_, rfl, rfl, cells, t, heap_alloc_new w _, by simpa using hsz, fun i j hi hj => ?_⟩
        have := hrep i j hi hj
        simp only [Nat.zero_add]
        exact ⟨this.1, this.2.mono (fun _ _ h => h) hext⟩
      · rintro k ⟨_, x, hx, rfl⟩
        obtain rfl : (⟨w.heap.size, 0, none⟩ : Addr) = x := by simpa using hx
        refine ⟨.inl s.size, fun y hy => ?_⟩
        cases hFy : F y with
        | none => rfl
        | some v => have := s.lt hFy; simp at hy; omega
    · rw [Heap.upd_ne _ _ hi] at hb
      obtain ⟨loc, h1, h2, h3⟩ := s.live i b hb
      exact ⟨loc, hext _ _ h1, h2.mono (fun _ _ h => h) hext (fun k hk => hold k (s.has_lt hb h1 hk)), h3⟩
  · intro i j bi bj li lj k hi hj hli hlj hki hkj
    by_cases h1 : i = id
    · by_cases h2 : j = id
      · rw [h1, h2]
      · subst h1
        rw [Heap.upd_ne _ _ h2] at hj
        have hlj' : φ j = some lj := by simpa [locUpd, h2] using hlj
        have hlt := s.has_lt hj hlj' hkj
        obtain rfl : _ = li := by simpa [locUpd] using hli
        obtain ⟨_, x, hx, rfl⟩ := hki
        obtain rfl : (⟨w.heap.size, 0, none⟩ : Addr) = x := by simpa using hx
        simp at hlt
    · rw [Heap.upd_ne _ _ h1] at hi
      have hli' : φ i = some li := by simpa [locUpd, h1] using hli
      by_cases h2 : j = id
      · subst h2
        have hlt := s.has_lt hi hli' hki
        obtain rfl : _ = lj := by simpa [locUpd] using hlj
        obtain ⟨_, x, hx, rfl⟩ := hkj
        obtain rfl : (⟨w.heap.size, 0, none⟩ : Addr) = x := by simpa using hx
        simp at hlt
      · rw [Heap.upd_ne _ _ h2] at hj
        exact s.sep i j bi bj li lj k hi hj hli' (by simpa [locUpd, h2] using hlj) hki hkj

/-- A new object without a block: an empty slice without capacity. -/
theorem St'.allocNil (s : St' C Fr e h F φ a w) {id : Nat} (hid : Fr id) (base : Option Addr) (esz : Nat) (hpos : 0 < esz) :
    St' C (fun i => Fr i ∧ i ≠ id) e (h.upd id ⟨esz, []⟩) F (locUpd φ id ⟨base, esz, 0, 0⟩) a w := by
  have hφ := s.free id hid
  have hext := locUpd_ext hφ ⟨base, esz, 0, 0⟩
  refine { nt := s.nt, nodef := s.nodef, loc0 := fun i x hx => hext _ _ (s.loc0 i x hx), free := ?_, env := fun k p hp => ⟨(s.env k p hp).1, (s.env k p hp).2.mono (fun _ _ h => h) hext⟩, froz := s.froz, ext := s.ext, old := s.old, os := s.os, tape := s.tape, output := s.output,
           size := s.size, kept := s.kept, live := ?_, sep := ?_ }
  · rintro i ⟨hi, hne⟩
    simp [locUpd, hne, s.free i hi]
  · intro i b hb
    by_cases hi : i = id
    · subst hi
      rw [Heap.upd_same] at hb
      obtain rfl : _ = b := by simpa using hb
      exact ⟨⟨base, esz, 0, 0⟩, by simp [locUpd], ⟨rfl, hpos, rfl, Nat.le_refl _, Nat.zero_le _, by simp, fun hc => absurd rfl hc⟩, fun k hk => absurd rfl hk.1⟩
    · rw [Heap.upd_ne _ _ hi] at hb
      obtain ⟨loc, h1, h2, h3⟩ := s.live i b hb
      exact ⟨loc, hext _ _ h1, h2.mono (fun _ _ h => h) hext (fun _ _ => rfl), h3⟩
  · intro i j bi bj li lj k hi hj hli hlj hki hkj
    by_cases h1 : i = id
    · subst h1
      obtain rfl : _ = li := by simpa [locUpd] using hli
      exact absurd rfl hki.1
    · by_cases h2 : j = id
      · subst h2
        obtain rfl : _ = lj := by simpa [locUpd] using hlj
        exact absurd rfl hkj.1
      · rw [Heap.upd_ne _ _ h1] at hi
        rw [Heap.upd_ne _ _ h2] at hj
        exact s.sep i j bi bj li lj k hi hj (by simpa [locUpd, h1] using hli) (by simpa [locUpd, h2] using hlj) hki hkj

/-- A block that no other object has is written, and becomes (or stays) an object's. -/
theorem St'.adopt (s : St' C Fr e h F φ a w) {g : Nat} {cur cur' : Array Value} {t : TypeId} (hg : w.heap[g]? = some (.cells cur t (0, 0))) (hown : C.w0.heap.size ≤ g ∨ C.G g) (hF : ∀ x : Addr, x.block = g → F x = none)
    (hno : ∀ i b loc, h i = some b → φ i = some loc → ¬ loc.has g) {id : Nat} {loc' : Loc} {b' : Bx} {φ' : Locs} {Fr' : Nat → Prop} (hid : φ' id = some loc') (hext : ∀ i x, φ i = some x → φ' i = some x) (hne : ∀ i, i ≠ id → φ' i = φ i)
    (hFr : ∀ i, Fr' i → φ' i = none) (hloc : ∀ k, loc'.has k → k = g) (hb : BxAt F φ' (w.setRow g cur') loc' b') : St' C Fr' e (h.upd id b') F φ' a (w.setRow g cur') := by
  have hold : ∀ k, k ≠ g → (w.setRow g cur').heap[k]? = w.heap[k]? := fun k hk => setRow_other w g k cur' hk
  refine { nt := s.nt, nodef := s.nodef, loc0 := fun i x hx => hext _ _ (s.loc0 i x hx), free := hFr, env := fun k p hp => ⟨(s.env k p hp).1, (s.env k p hp).2.mono (fun _ _ h => h) hext⟩, froz := fun x v hx => ?_, ext := s.ext, old := s.old, os := s.os, tape := s.tape, output := s.output,
           size := by have := s.size; simpa using this, kept := fun k hk hG => ?_, live := ?_, sep := ?_ }
  · obtain ⟨h1, h2, h3⟩ := s.froz x v hx
    refine ⟨h1, h2, ?_⟩
    have : x.block ≠ g := fun e => by rw [hF x e] at hx; cases hx
    rw [World.cell?_of_block (w := w) (hold _ this)]
    exact h3
  · have : k ≠ g := by
      rintro rfl
      rcases hown with h' | h'
      · omega
      · exact hG h'
    rw [hold k this]
    exact s.kept k hk hG
  · intro i b hbi
    by_cases hi : i = id
    · subst hi
      rw [Heap.upd_same] at hbi
      obtain rfl : b' = b := by simpa using hbi
      exact ⟨loc', hid, hb, fun k hk => by obtain rfl := hloc k hk; exact ⟨hown, hF⟩⟩
    · rw [Heap.upd_ne _ _ hi] at hbi
      obtain ⟨loc, h1, h2, h3⟩ := s.live i b hbi
      exact ⟨loc, hext _ _ h1, h2.mono (fun _ _ h => h) hext (fun k hk => hold k fun e => by subst e; exact hno i b loc hbi h1 hk), h3⟩
  · intro i j bi bj li lj k hi hj hli hlj hki hkj
    by_cases h1 : i = id
    · by_cases h2 : j = id
      · rw [h1, h2]
      · subst h1
        rw [Heap.upd_ne _ _ h2] at hj
        obtain rfl : loc' = li := by rw [hid] at hli; simpa using hli
        obtain rfl := hloc k hki
        exact absurd hkj (hno j bj lj hj (by rw [← hne j h2]; exact hlj))
    · rw [Heap.upd_ne _ _ h1] at hi
      by_cases h2 : j = id
      · subst h2
        obtain rfl : loc' = lj := by rw [hid] at hlj; simpa using hlj
        obtain rfl := hloc k hkj
        exact absurd hki (hno i bi li hi (by rw [← hne i h1]; exact hli))
      · rw [Heap.upd_ne _ _ h2] at hj
        exact s.sep i j bi bj li lj k hi hj (by rw [← hne i h1]; exact hli) (by rw [← hne j h2]; exact hlj) hki hkj

def Heap.del (h : Heap) (k : Nat) : Heap := fun j => bif Nat.beq j k then none else h j
theorem Heap.del_ne (h : Heap) {k j : Nat} (hj : j ≠ k) : h.del k j = h j := by
  have : Nat.beq j k = false := Bool.eq_false_iff.2 fun hb => hj (Nat.eq_of_beq_eq_true hb)
  simp [Heap.del, this]
theorem Heap.del_same (h : Heap) (k : Nat) : h.del k k = none := by simp [Heap.del]
theorem Heap.del_some {h : Heap} {k j : Nat} {b : Bx} (hb : h.del k j = some b) : j ≠ k ∧ h j = some b := by
  by_cases hj : j = k
  · subst hj; rw [Heap.del_same] at hb; cases hb
  · rw [Heap.del_ne _ hj] at hb; exact ⟨hj, hb⟩
theorem Heap.del_upd (h : Heap) (k : Nat) (b : Bx) : (h.del k).upd k b = h.upd k b := by
  funext j
  by_cases hj : j = k
  · subst hj; rw [Heap.upd_same, Heap.upd_same]
  · rw [Heap.upd_ne _ _ hj, Heap.upd_ne _ _ hj, Heap.del_ne _ hj]

/-- Behind the removal of an object nobody has its block. -/
theorem St'.del_no (s : St' C Fr e h F φ a w) {k : Nat} {b : Bx} {loc : Loc} (hk : h k = some b) (hl : φ k = some loc) {g : Nat} (hg : loc.has g) : ∀ i b' loc', h.del k i = some b' → φ i = some loc' → ¬ loc'.has g := by
  intro i b' loc' hi hl' hg'
  obtain ⟨hne, hi⟩ := Heap.del_some hi
  exact hne (s.sep i k b' b loc' loc g hi hk hl' hl hg' hg)
end
end Go.Proofs.Ytelcpkjclcimbaa
