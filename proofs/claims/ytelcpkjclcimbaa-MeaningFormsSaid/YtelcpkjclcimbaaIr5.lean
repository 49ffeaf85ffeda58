/-
  Every operation of the elaborated code does what its reading on abstract values says: numbers, places, parts. For every program; no statement of the seat is proved here.
-/
import Derived.Test.YtelcpkjclcimbaaIr4
namespace Go.Proofs.Ytelcpkjclcimbaa
open Go.RowKit
set_option linter.unusedVariables false

section
variable {P : Program} {C : Ctx} {Fr : Nat → Prop} {e : Env} {h : Heap} {F : Froz} {φ : Locs} {a : Act} {w : World}

theorem sbin_run {op : BinOp} {t : TypeId} {x y : Operand} {va vb r : Value} (hs : sbin op va vb = some r) : (do eqGuard op t x y va vb; binOp op t va vb : Sem Value).run P w = .ok r w := by
  unfold sbin at hs
  split at hs
  · rename_i k n k' m
    cases op <;> simp only at hs <;>
      first
        | (split at hs
           · first
               | (obtain rfl := by simpa using hs
                  subst_vars
                  first
                    | (simp [eqGuard, binOp, Op.intArith, Op.intBits, Op.intCmp, bits]; done)
                    | (rename_i hb
                       have hb' : ¬ m < 0 := by omega
                       simp [eqGuard, binOp, Op.shift, hb']; done))
               | (split at hs
                  · simp at hs
                  · obtain rfl := by simpa using hs
                    subst_vars
                    rename_i hb
                    simp [eqGuard, binOp, Op.intDiv, hb])
           · simp at hs)
        | (simp at hs)
  · rename_i s t'
    cases op <;> simp only at hs <;>
      first
        | (obtain rfl := by simpa using hs
           simp [eqGuard, binOp, Op.stringOp]; done)
        | (simp at hs)
  · simp at hs

def bcOf : TypeDesc → Option BC
  | .int _ => some .num
  | .string => some .num
  | .bool => some .bool
  | .pointer _ => some .ptr
  | _ => none

theorem Rep.isNil {v : Value} {p : PV} {b : Bool} (hr : Rep F φ v p) (hn : p.isNil = some b) : ∃ o : Option Addr, v = .pointer o ∧ o.isNone = b := by
  unfold PV.isNil at hn
  split at hn
  · obtain rfl := by simpa using hn
    exact ⟨none, hr.val_inv, rfl⟩
  · obtain rfl := by simpa using hn
    obtain ⟨x, cs, rfl, _⟩ := hr.cp_inv
    exact ⟨some x, rfl, rfl⟩
  · obtain rfl := by simpa using hn
    obtain ⟨loc, x, _, _, _, rfl⟩ := hr.ptr_inv
    exact ⟨_, rfl, rfl⟩
  · simp at hn

theorem pbin_run {op : BinOp} {t : TypeId} {d : TypeDesc} {c : BC} (hu : P.underlying t = some d) (hc : bcOf d = some c) {x y : Operand} {va vb : Value} {p q r : PV} (hx : Rep F φ va p) (hy : Rep F φ vb q) (hs : pbin op c p q = some r) :
    ∃ val, (do eqGuard op t x y va vb; binOp op t va vb : Sem Value).run P w = .ok val w ∧ Rep F φ val r := by
  unfold pbin at hs
  split at hs
  · split at hs
    · rename_i u v
      obtain rfl := hx.val_inv
      obtain rfl := hy.val_inv
      cases hb : sbin op va vb with
      | none => simp [hb] at hs
      | some val =>
        obtain rfl := by simpa [hb] using hs
        exact ⟨val, sbin_run hb, .val _⟩
    · simp at hs
  · have hd : d = .bool := by cases d <;> simp_all [bcOf]
    subst hd
    split at hs
    · obtain rfl := hx.val_inv
      obtain rfl := hy.val_inv
      split at hs
      · obtain rfl := by simpa using hs
        exact ⟨_, by simp [eqGuard, run_eql_bool w t _ _ hu], .val _⟩
      · obtain rfl := by simpa using hs
        exact ⟨_, by simp [eqGuard, run_neq_bool w t _ _ hu], .val _⟩
      · simp at hs
    · simp at hs
  · have hd : ∃ e, d = .pointer e := by cases d <;> simp_all [bcOf]
    obtain ⟨el, rfl⟩ := hd
    have hp : P.underlying t = some (.pointer (P.pointee t)) := by simp [Program.pointee, hu]
    split at hs
    · split at hs
      · rename_i b hb
        obtain ⟨o, rfl, rfl⟩ := hx.isNil hb
        obtain rfl := hy.val_inv
        obtain rfl := by simpa using hs
        exact ⟨_, by simp [eqGuard, run_eql_pointer_nil w t o hp], .val _⟩
      · simp at hs
    · split at hs
      · rename_i b hb
        obtain ⟨o, rfl, rfl⟩ := hx.isNil hb
        obtain rfl := hy.val_inv
        obtain rfl := by simpa using hs
        exact ⟨_, by simp [eqGuard, run_neq_pointer_nil w t o hp], .val _⟩
      · simp at hs
    · simp at hs

theorem puna_run {op : UnOp} {v : Value} {p r : PV} (hx : Rep F φ v p) (hs : puna op p = some r) : ∃ val, (Op.unary op v).run P w = .ok val w ∧ Rep F φ val r := by
  unfold puna at hs
  split at hs
  · obtain rfl := hx.val_inv
    split at hs
    · cases hs
      exact ⟨_, rfl, .val _⟩
    · cases hs
      exact ⟨_, rfl, .val _⟩
    · simp at hs
  · obtain rfl := hx.val_inv
    split at hs
    · cases hs
      exact ⟨_, rfl, .val _⟩
    · simp at hs
  · simp at hs

/-! ### New variables -/
theorem zeroOf_spec {t : TypeId} {z : List Value} (hz : zeroOf P t = some z) : ∃ i v, P.info? t = some i ∧ i.zero = some v ∧ z = v.cells.toList ∧ (∀ u ∈ z, u.oneCell' = true) ∧ z.length = i.size ∧ 0 < z.length := by
  unfold zeroOf at hz
  split at hz
  · rename_i i hi
    split at hz
    · rename_i v hv
      split at hz
      · rename_i hc
        obtain rfl : v.cells.toList = z := by simpa using hz
        simp only [Bool.and_eq_true, List.all_eq_true, beq_iff_eq, decide_eq_true_eq] at hc
        exact ⟨i, v, hi, hv, rfl, hc.1.1, by simp [hc.1.2], by simp [hc.1.2, hc.2]⟩
      · simp at hz
    · simp at hz
  · simp at hz

theorem zpv_getD (z : List Value) (j : Nat) (hj : j < z.length) : (zpv z).getD j pvu = pvOf (z.getD j undef) := by
  simp [zpv, List.getD_eq_getElem?_getD, hj]

theorem run_zeroValue_of {t : TypeId} {i : TypeInfo} {v : Value} (hi : P.info? t = some i) (hv : i.zero = some v) : (zeroValue t).run P w = .ok v w := by
  simp [zeroValue, typeInfo, hi, hv]

theorem toList_getD (vs : Array Value) (j : Nat) : vs.toList.getD j undef = vs.getD j undef := by
  simp [List.getD_eq_getElem?_getD, Array.getD_eq_getD_getElem?]

/-- A new variable that holds a value. -/
theorem St'.newVar (s : St' C Fr e h F φ a w) {id : Nat} (hid : Fr id) (t : TypeId) (v : Value) (cs : List PV) (hpos : 0 < cs.length) (hsz : v.cells.size = cs.length)
    (hr : ∀ j, j < cs.length → (v.cells.getD j undef).oneCell' = true ∧ Rep F φ (v.cells.getD j undef) (cs.getD j pvu)) :
    St' C (fun i => Fr i ∧ i ≠ id) e (h.upd id ⟨cs.length, [cs]⟩) F (locUpd φ id ⟨some ⟨w.heap.size, 0, none⟩, cs.length, 1, 1⟩) a (w.alloc (.cells v.cells t)) ∧
      Rep F (locUpd φ id ⟨some ⟨w.heap.size, 0, none⟩, cs.length, 1, 1⟩) (.pointer (some ⟨w.heap.size, 0, none⟩)) (.ptr id 0 0) := by
  refine ⟨s.alloc hid v.cells t cs.length 1 1 [cs] hpos rfl (Nat.le_refl _) (by simp [maxVec]) (by simp) (by omega) (fun i j hi hj => ?_), ?_⟩
  · obtain rfl : i = 0 := by omega
    simpa using hr j hj
  · have := Rep.ptr (F := F) (φ := locUpd φ id ⟨some ⟨w.heap.size, 0, none⟩, cs.length, 1, 1⟩) id 0 0 _ ⟨w.heap.size, 0, none⟩ (by simp [locUpd]; rfl) rfl rfl
    simpa using this

theorem alloc_run (s : St' C Fr e h F φ a w) {id : Nat} (hid : Fr id) {t : TypeId} {z : List Value} (hz : zeroOf P t = some z) (old : Value) :
    OpRun P C Fr e F φ a w (Instr.alloc t true old) id (.ptr id 0 0) (h.upd id ⟨z.length, [zpv z]⟩) := by
  obtain ⟨i, v, hi, hv, rfl, h1, hl, hp⟩ := zeroOf_spec hz
  have hl2 : (zpv v.cells.toList).length = v.cells.toList.length := by simp [zpv]
  obtain ⟨s', r'⟩ := s.newVar hid t v (zpv v.cells.toList) (by rw [hl2]; exact hp) (by rw [hl2]; simp) (fun j hj => by
    rw [hl2] at hj
    rw [zpv_getD _ _ hj, toList_getD]
    refine ⟨h1 _ ?_, pvOf_rep _⟩
    have : j < v.cells.size := by simpa using hj
    simp [Array.getD, this])
  rw [hl2] at s' r'
  exact ⟨_, _, F, _, by simp [Instr.alloc, run_zeroValue_of hi hv, Go.newVar, newRow], s'.made, r'⟩

theorem box_run (s : St' C Fr e h F φ a w) {id : Nat} (hid : Fr id) {t : TypeId} {v : Value} {p : PV} (hv : Rep F φ v p) (hf : p.flat = true) (hp : 0 < p.cells.length) :
    OpRun P C Fr e F φ a w (Instr.box t v) id (.ptr id 0 0) (h.upd id ⟨p.cells.length, [p.cells]⟩) := by
  obtain ⟨hc1, hc2⟩ := hv.cellsOf hf
  obtain ⟨s', r'⟩ := s.newVar hid t v p.cells hp hc1 hc2
  exact ⟨_, _, F, _, by simp [Instr.box, Go.newVar, newRow], s'.made, r'⟩

/-! ### Literals -/
/-- Array values and abstract cells, one by one. -/
def Cells (F : Froz) (φ : Locs) (vs : Array Value) (l : List PV) : Prop := vs.size = l.length ∧ ∀ i, i < l.length → (vs.getD i undef).oneCell' = true ∧ Rep F φ (vs.getD i undef) (l.getD i pvu)

theorem Cells.zero {z : Array Value} (h1 : ∀ u ∈ z.toList, u.oneCell' = true) : Cells F φ z (zpv z.toList) := by
  refine ⟨by simp [zpv], fun i hi => ?_⟩
  have hi' : i < z.toList.length := by simpa [zpv] using hi
  rw [zpv_getD _ _ hi', toList_getD]
  refine ⟨h1 _ ?_, pvOf_rep _⟩
  have : i < z.size := by simpa using hi'
  simp [Array.getD, this]

theorem foldl_set (off : Nat) (cs : List Value) : ∀ (k : Nat) (acc : Array Value), off + k + cs.length ≤ acc.size →
    ((cs.zipIdx k).foldl (fun (r : Array Value) (x : Value × Nat) => r.setIfInBounds (off + x.2) x.1) acc).size = acc.size ∧
    ∀ i, ((cs.zipIdx k).foldl (fun (r : Array Value) (x : Value × Nat) => r.setIfInBounds (off + x.2) x.1) acc).getD i undef = if off + k ≤ i ∧ i < off + k + cs.length then cs.getD (i - (off + k)) undef else acc.getD i undef := by
  induction cs with
  | nil => intro k acc _; simp; intro i h1 h2; omega
  | cons c r ih =>
    intro k acc hle
    simp only [List.length_cons] at hle
    obtain ⟨h1, h2⟩ := ih (k + 1) (acc.setIfInBounds (off + k) c) (by simp; omega)
    simp only [List.zipIdx_cons, List.foldl_cons]
    refine ⟨by rw [h1]; simp, fun i => ?_⟩
    rw [h2, getD_setIfInBounds _ _ _ _ (by omega)]
    by_cases hi : i = off + k
    · subst hi
      rw [if_neg (by omega), if_pos rfl, if_pos (by simp)]
      simp
    · rw [if_neg hi]
      by_cases hr : off + (k + 1) ≤ i ∧ i < off + (k + 1) + r.length
      · rw [if_pos hr, if_pos (by simp; omega)]
        have : i - (off + k) = (i - (off + (k + 1))) + 1 := by omega
        rw [this]
        simp
      · rw [if_neg hr, if_neg (by simp; omega)]

theorem setAt_length (l : List PV) (off : Nat) (cs : List PV) (h : off + cs.length ≤ l.length) : (setAt l off cs).length = l.length := by
  simp [setAt]; omega

theorem setAt_getD (l : List PV) (off : Nat) (cs : List PV) (h : off + cs.length ≤ l.length) (i : Nat) : (setAt l off cs).getD i pvu = if off ≤ i ∧ i < off + cs.length then cs.getD (i - off) pvu else l.getD i pvu := by
  have hm : min off l.length = off := by omega
  simp only [setAt, List.getD_eq_getElem?_getD, List.append_assoc]
  by_cases h1 : i < off
  · rw [if_neg (by omega), List.getElem?_append_left (by simp; omega), List.getElem?_take, if_pos h1]
  · rw [List.getElem?_append_right (by simp; omega)]
    simp only [List.length_take, hm]
    by_cases h2 : i < off + cs.length
    · rw [if_pos (by omega), List.getElem?_append_left (by omega)]
    · rw [if_neg (by omega), List.getElem?_append_right (by omega), List.getElem?_drop]
      congr 2
      omega

/-- One part is laid. -/
theorem Cells.set {vs : Array Value} {l : List PV} (hc : Cells F φ vs l) {v : Value} {p : PV} (hv : Rep F φ v p) (hf : p.flat = true) {off : Nat} (hle : off + p.cells.length ≤ l.length) :
    Cells F φ (v.cells.zipIdx.foldl (fun cs (c, j) => cs.setIfInBounds (off + j) c) vs) (setAt l off p.cells) := by
  obtain ⟨h1, h2⟩ := hv.cellsOf hf
  have hz : v.cells.zipIdx.foldl (fun cs (c, j) => cs.setIfInBounds (off + j) c) vs = (v.cells.toList.zipIdx 0).foldl (fun (r : Array Value) (x : Value × Nat) => r.setIfInBounds (off + x.2) x.1) vs := by
    rw [← Array.foldl_toList]; simp
  have hl : v.cells.toList.length = p.cells.length := by simpa using h1
  obtain ⟨f1, f2⟩ := foldl_set off v.cells.toList 0 vs (by rw [hl, hc.1]; simpa using hle)
  rw [hz]
  refine ⟨by rw [f1, hc.1, setAt_length _ _ _ hle], fun i hi => ?_⟩
  rw [setAt_length _ _ _ hle] at hi
  rw [f2, setAt_getD _ _ _ hle, hl]
  simp only [Nat.add_zero]
  by_cases hr : off ≤ i ∧ i < off + p.cells.length
  · rw [if_pos hr, if_pos hr, toList_getD]
    exact h2 _ (by omega)
  · rw [if_neg hr, if_neg hr]
    exact hc.2 i hi

theorem fill_build (s : St' C Fr e h F φ a w) {fs : Array Field} {places : Array (Nat × Nat)} (hpl : ∀ (i : Nat) (f : Field) (inf : TypeInfo), fs[i]? = some f → P.info? f.type = some inf → places[i]? = some (f.offset, inf.size)) :
    ∀ (ps : List (Nat × Operand)) (qs : List (Nat × Nat × Operand)) (vs : Array Value) (l r : List PV), partsOf P fs ps = some qs → Cells F φ vs l → buildL e l qs = some r →
      ∃ vs', Instr.fill (places[·]?) vs (ps.map fun (i, x) => (i, a.eval x)) = some vs' ∧ Cells F φ vs' r := by
  intro ps
  induction ps with
  | nil =>
    intro qs vs l r hq hc hb
    obtain rfl : [] = qs := by simpa [partsOf] using hq
    obtain rfl : l = r := by simpa [buildL] using hb
    exact ⟨vs, rfl, hc⟩
  | cons q ps ih =>
    intro qs vs l r hq hc hb
    obtain ⟨i, x⟩ := q
    simp only [partsOf] at hq
    split at hq
    case h_2 => simp at hq
    rename_i f hf
    split at hq
    case h_2 => simp at hq
    rename_i inf qs' hinf hqs
    obtain rfl := by simpa using hq
    simp only [buildL] at hb
    split at hb
    case h_2 => simp at hb
    rename_i p hp
    split at hb
    case isFalse => simp at hb
    rename_i hcond
    simp only [Bool.and_eq_true, beq_iff_eq, decide_eq_true_eq] at hcond
    obtain ⟨⟨hflat, hsz⟩, hle⟩ := hcond
    have hv := s.eval hp
    obtain ⟨h1, _⟩ := hv.cellsOf hflat
    obtain ⟨vs', hfill, hc'⟩ := ih qs' _ _ r hqs (hc.set hv hflat (off := f.offset) (by omega)) hb
    refine ⟨vs', ?_, hc'⟩
    simp only [List.map_cons, Instr.fill, hpl i f inf hf hinf]
    rw [if_neg (by simp [h1, hsz, hc.1]; omega)]
    exact hfill

theorem fill_same (s : St' C Fr e h F φ a w) (size : Nat) : ∀ (ps : List (Nat × Operand)) (vs : Array Value) (l r : List PV), Cells F φ vs l → buildL e l (ps.map fun (k, x) => (k * size, size, x)) = some r →
      ∃ vs', Instr.fill (fun i => some (i * size, size)) vs (ps.map fun (i, x) => (i, a.eval x)) = some vs' ∧ Cells F φ vs' r := by
  intro ps
  induction ps with
  | nil =>
    intro vs l r hc hb
    obtain rfl : l = r := by simpa [buildL] using hb
    exact ⟨vs, rfl, hc⟩
  | cons q ps ih =>
    intro vs l r hc hb
    obtain ⟨i, x⟩ := q
    simp only [List.map_cons, buildL] at hb
    split at hb
    case h_2 => simp at hb
    rename_i p hp
    split at hb
    case isFalse => simp at hb
    rename_i hcond
    simp only [Bool.and_eq_true, beq_iff_eq, decide_eq_true_eq] at hcond
    obtain ⟨⟨hflat, hsz⟩, hle⟩ := hcond
    have hv := s.eval hp
    obtain ⟨h1, _⟩ := hv.cellsOf hflat
    obtain ⟨vs', hfill, hc'⟩ := ih _ _ r (hc.set hv hflat (off := i * size) (by omega)) hb
    refine ⟨vs', ?_, hc'⟩
    simp only [List.map_cons, Instr.fill]
    rw [if_neg (by simp [h1, hsz, hc.1]; omega)]
    exact hfill

/-- The cells of a row, element by element. -/
structure NCells (F : Froz) (φ : Locs) (esz : Nat) (vs : Array Value) (l : List (List PV)) : Prop where
  size : vs.size = l.length * esz
  el : ∀ i, i < l.length → (l.getD i []).length = esz
  rep : ∀ i j, i < l.length → j < esz → (vs.getD (i * esz + j) undef).oneCell' = true ∧ Rep F φ (vs.getD (i * esz + j) undef) ((l.getD i []).getD j pvu)

theorem idx_lt {i n j esz : Nat} (hi : i < n) (hj : j < esz) : i * esz + j < n * esz := by
  have h4 : (i + 1) * esz ≤ n * esz := Nat.mul_le_mul_right _ hi
  have h5 := Nat.succ_mul i esz
  simp only [Nat.succ_eq_add_one] at h5
  omega

theorem idx_out {i k j esz : Nat} (hj : j < esz) (hne : i ≠ k) : ¬ (k * esz ≤ i * esz + j ∧ i * esz + j < k * esz + esz) := by
  rintro ⟨h1, h2⟩
  have h5 := Nat.succ_mul i esz
  have h6 := Nat.succ_mul k esz
  simp only [Nat.succ_eq_add_one] at h5 h6
  rcases Nat.lt_or_ge i k with h | h
  · have h4 : (i + 1) * esz ≤ k * esz := Nat.mul_le_mul_right _ h
    omega
  · have h4 : (k + 1) * esz ≤ i * esz := Nat.mul_le_mul_right _ (by omega)
    omega

theorem NCells.set {esz : Nat} {vs : Array Value} {l : List (List PV)} (hc : NCells F φ esz vs l) {v : Value} {p : PV} (hv : Rep F φ v p) (hf : p.flat = true) (hsz : p.cells.length = esz) {k : Nat} (hk : k < l.length) :
    NCells F φ esz (v.cells.zipIdx.foldl (fun cs (c, j) => cs.setIfInBounds (k * esz + j) c) vs) (l.set k p.cells) := by
  obtain ⟨h1, h2⟩ := hv.cellsOf hf
  have hz : v.cells.zipIdx.foldl (fun cs (c, j) => cs.setIfInBounds (k * esz + j) c) vs = (v.cells.toList.zipIdx 0).foldl (fun (r : Array Value) (x : Value × Nat) => r.setIfInBounds (k * esz + x.2) x.1) vs := by
    rw [← Array.foldl_toList]; simp
  have hl : v.cells.toList.length = esz := by rw [← hsz]; simpa using h1
  have hle : k * esz + 0 + esz ≤ vs.size := by
    rw [hc.size]
    have h4 : (k + 1) * esz ≤ l.length * esz := Nat.mul_le_mul_right _ hk
    have h5 := Nat.succ_mul k esz
    simp only [Nat.succ_eq_add_one] at h5
    omega
  obtain ⟨f1, f2⟩ := foldl_set (k * esz) v.cells.toList 0 vs (by rw [hl]; exact hle)
  rw [hz]
  refine ⟨by rw [f1, hc.size]; simp, fun i hi => ?_, fun i j hi hj => ?_⟩
  · have hi' : i < l.length := by simpa using hi
    simp only [List.getD_eq_getElem?_getD, List.getElem?_set]
    by_cases he : k = i
    · subst he; simp [hk, hsz]
    · simp only [he, if_false]
      have := hc.el i hi'
      simpa [List.getD_eq_getElem?_getD] using this
  · have hi' : i < l.length := by simpa using hi
    rw [f2, hl]
    simp only [Nat.add_zero]
    by_cases he : i = k
    · subst he
      rw [if_pos ⟨Nat.le_add_right _ _, by omega⟩, toList_getD]
      have : (l.set i p.cells).getD i [] = p.cells := by simp [List.getD_eq_getElem?_getD, hk]
      rw [this, show i * esz + j - i * esz = j by omega]
      exact h2 j (by omega)
    · rw [if_neg (idx_out hj he)]
      have : (l.set k p.cells).getD i [] = l.getD i [] := by simp [List.getD_eq_getElem?_getD, List.getElem?_set, Ne.symm he]
      rw [this]
      exact hc.rep i j hi' hj

theorem fill_rows (s : St' C Fr e h F φ a w) (size : Nat) : ∀ (ps : List (Nat × Operand)) (vs : Array Value) (l r : List (List PV)), NCells F φ size vs l → buildS e size l ps = some r →
      ∃ vs', Instr.fill (fun i => some (i * size, size)) vs (ps.map fun (i, x) => (i, a.eval x)) = some vs' ∧ NCells F φ size vs' r ∧ r.length = l.length := by
  intro ps
  induction ps with
  | nil =>
    intro vs l r hc hb
    obtain rfl : l = r := by simpa [buildS] using hb
    exact ⟨vs, rfl, hc, rfl⟩
  | cons q ps ih =>
    intro vs l r hc hb
    obtain ⟨i, x⟩ := q
    simp only [buildS] at hb
    split at hb
    case h_2 => simp at hb
    rename_i p hp
    split at hb
    case isFalse => simp at hb
    rename_i hcond
    simp only [Bool.and_eq_true, beq_iff_eq, decide_eq_true_eq] at hcond
    obtain ⟨⟨hflat, hsz⟩, hle⟩ := hcond
    have hv := s.eval hp
    obtain ⟨h1, _⟩ := hv.cellsOf hflat
    obtain ⟨vs', hfill, hc', hl'⟩ := ih _ _ r (hc.set hv hflat hsz hle) hb
    refine ⟨vs', ?_, hc', by simpa using hl'⟩
    have hb : i * size + size ≤ vs.size := by
      rw [hc.size]
      have h4 : (i + 1) * size ≤ l.length * size := Nat.mul_le_mul_right _ hle
      have h5 := Nat.succ_mul i size
      simp only [Nat.succ_eq_add_one] at h5
      omega
    simp only [List.map_cons, Instr.fill]
    rw [if_neg (by simp [h1, hsz]; omega)]
    exact hfill

/-- The cells of n new elements. -/
theorem NCells.zero {z : List Value} (h1 : ∀ u ∈ z, u.oneCell' = true) (n : Nat) : NCells F φ z.length ((Array.range (n * z.length)).map (z.toArray[· % z.length]!)) (List.replicate n (zpv z)) := by
  refine ⟨by simp, fun i hi => ?_, fun i j hi hj => ?_⟩
  · have hi' : i < n := by simpa using hi
    simp [List.getD_eq_getElem?_getD, hi', zpv]
  · have hi' : i < n := by simpa using hi
    have hlt := idx_lt hi' hj
    have hmod : (i * z.length + j) % z.length = j := by rw [Nat.add_comm, Nat.add_mul_mod_self_right, Nat.mod_eq_of_lt hj]
    have hget : ((Array.range (n * z.length)).map (z.toArray[· % z.length]!)).getD (i * z.length + j) undef = z.getD j undef := by
      simp only [Array.getD_eq_getD_getElem?, Array.getElem?_map, Array.getElem?_range, if_pos hlt, Option.map_some, Option.getD_some, hmod]
      simp [List.getD_eq_getElem?_getD, hj]
    rw [hget]
    have : (List.replicate n (zpv z)).getD i [] = zpv z := by simp [List.getD_eq_getElem?_getD, hi']
    rw [this, zpv_getD _ _ hj]
    refine ⟨h1 _ ?_, pvOf_rep _⟩
    simp [List.getD_eq_getElem?_getD, hj]

theorem Cells.rep {vs : Array Value} {l : List PV} (hc : Cells F φ vs l) : Rep F φ (.agg vs) (.agg l) := .agg vs l hc.1 (fun i hi => (hc.2 i hi).1) fun i hi => (hc.2 i hi).2
end
end Go.Proofs.Ytelcpkjclcimbaa
