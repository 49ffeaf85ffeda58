/-
  The abstract values of the proofs: what a Go value stands for, without addresses, and when a value in memory represents one. For every program; no statement of the seat is proved here.
-/
import Derived.OrdersIn
import Derived.TacticsIn
import Derived.WalkKit
import Derived.ProofKit
namespace Go.Proofs.Ytelcpkjclcimbaa
open Go.RowKit

/-- What a Go value stands for: 'val': a value without parts in memory, as it is; 'agg': a struct or an array, cell by cell; 'vec': a slice whose elements never change again ('full': no spare capacity); 'cp': a pointer to cells that never change again; 'ptr', 'own': a pointer into, and the whole slice of, an object of the call's own. -/
inductive PV where
  | val (v : Value)
  | agg (l : List PV)
  | tup (l : List PV)
  | vec (l : List (List PV)) (full : Bool)
  | cp (l : List PV)
  | ptr (id i off : Nat)
  | own (id : Nat)
  | fn (f : FuncId) (caps : List PV)

instance : Inhabited PV := ⟨.val undef⟩
def pvu : PV := .val undef

/-- An object of the call's own: elements of esz cells each. -/
structure Bx where
  esz : Nat
  elems : List (List PV)

/-- Where an object lies. -/
structure Loc where
  base : Option Addr
  esz : Nat
  len : Nat
  cap : Nat

abbrev Froz := Addr → Option Value
abbrev Locs := Nat → Option Loc

def maxVec : Nat := 281474976710656

inductive Rep (F : Froz) (φ : Locs) : Value → PV → Prop
  | val (v : Value) : Rep F φ v (.val v)
  | agg (vs : Array Value) (l : List PV) (hl : vs.size = l.length) (h1 : ∀ i, i < l.length → (vs.getD i undef).oneCell' = true) (h : ∀ i, i < l.length → Rep F φ (vs.getD i undef) (l.getD i pvu)) : Rep F φ (.agg vs) (.agg l)
  | tup (vs : Array Value) (l : List PV) (hl : vs.size = l.length) (h : ∀ i, i < l.length → Rep F φ (vs.getD i undef) (l.getD i pvu)) : Rep F φ (.tuple vs) (.tup l)
  | vecnil (full : Bool) : Rep F φ (.slice none 0 0) (.vec [] full)
  | vec (a : Addr) (cap esz : Nat) (l : List (List PV)) (full : Bool) (cs : Nat → Nat → Value) (hs : l ≠ [] → a.spot = none) (hcap : l.length ≤ cap) (hfull : full = true → cap = l.length)
      (hmax : l.length ≤ maxVec) (he : ∀ i, i < l.length → (l.getD i []).length = esz)
      (hF : ∀ i j, i < l.length → j < esz → F ⟨a.block, a.off + (i * esz + j), none⟩ = some (cs i j))
      (hR : ∀ i j, i < l.length → j < esz → Rep F φ (cs i j) ((l.getD i []).getD j pvu)) : Rep F φ (.slice (some a) l.length cap) (.vec l full)
  | cp (a : Addr) (l : List PV) (cs : Nat → Value) (hs : a.spot = none) (hF : ∀ j, j < l.length → F ⟨a.block, a.off + j, none⟩ = some (cs j))
      (hR : ∀ j, j < l.length → Rep F φ (cs j) (l.getD j pvu)) : Rep F φ (.pointer (some a)) (.cp l)
  | ptr (id i off : Nat) (loc : Loc) (a : Addr) (h : φ id = some loc) (hb : loc.base = some a) (hs : a.spot = none) :
      Rep F φ (.pointer (some ⟨a.block, a.off + (i * loc.esz + off), none⟩)) (.ptr id i off)
  | own (id : Nat) (loc : Loc) (h : φ id = some loc) : Rep F φ (.slice loc.base loc.len loc.cap) (.own id)
  | fn (f : FuncId) (vs : Array Value) (l : List PV) (hl : vs.size = l.length) (h : ∀ i, i < l.length → Rep F φ (vs.getD i undef) (l.getD i pvu)) : Rep F φ (.func (.func f) #[] vs) (.fn f l)

theorem Rep.mono {F F' : Froz} {φ φ' : Locs} (hF : ∀ a v, F a = some v → F' a = some v) (hφ : ∀ i x, φ i = some x → φ' i = some x) {v : Value} {p : PV} (h : Rep F φ v p) : Rep F' φ' v p := by
  induction h with
  | val v => exact .val v
  | agg vs l hl h1 _ ih => exact .agg vs l hl h1 ih
  | tup vs l hl _ ih => exact .tup vs l hl ih
  | vecnil full => exact .vecnil full
  | vec a cap esz l full cs hs hcap hfull hmax he hC _ ih => exact .vec a cap esz l full cs hs hcap hfull hmax he (fun i j hi hj => hF _ _ (hC i j hi hj)) ih
  | cp a l cs hs hC _ ih => exact .cp a l cs hs (fun j hj => hF _ _ (hC j hj)) ih
  | ptr id i off loc a h hb hs => exact .ptr id i off loc a (hφ _ _ h) hb hs
  | own id loc h => exact .own id loc (hφ _ _ h)
  | fn f vs l hl _ ih => exact .fn f vs l hl ih

/-! ### The objects that a value refers to -/
mutual
def PV.inn (D : Nat → Prop) : PV → Prop
  | .val _ => True
  | .agg l => innL D l
  | .tup l => innL D l
  | .vec l _ => innLL D l
  | .cp l => innL D l
  | .ptr id _ _ => D id
  | .own id => D id
  | .fn _ l => innL D l
def innL (D : Nat → Prop) : List PV → Prop
  | [] => True
  | p :: l => p.inn D ∧ innL D l
def innLL (D : Nat → Prop) : List (List PV) → Prop
  | [] => True
  | p :: l => innL D p ∧ innLL D l
end

abbrev PV.pure (p : PV) : Prop := p.inn (fun _ => False)
abbrev pureL (l : List PV) : Prop := innL (fun _ => False) l
abbrev pureLL (l : List (List PV)) : Prop := innLL (fun _ => False) l

theorem innL_iff (D : Nat → Prop) (l : List PV) : innL D l ↔ ∀ p ∈ l, p.inn D := by
  induction l with
  | nil => simp [innL]
  | cons a l ih => simp [innL, ih]
theorem innLL_iff (D : Nat → Prop) (l : List (List PV)) : innLL D l ↔ ∀ p ∈ l, innL D p := by
  induction l with
  | nil => simp [innLL]
  | cons a l ih => simp [innLL, ih]
theorem innL_getD {D : Nat → Prop} {l : List PV} (h : innL D l) (i : Nat) : (l.getD i pvu).inn D := by
  rw [List.getD_eq_getElem?_getD]
  cases hi : l[i]? with
  | none => simp [pvu, PV.inn]
  | some p => exact (innL_iff D l).1 h p (List.mem_of_getElem? hi)
theorem innLL_getD {D : Nat → Prop} {l : List (List PV)} (h : innLL D l) (i : Nat) : innL D (l.getD i []) := by
  rw [List.getD_eq_getElem?_getD]
  cases hi : l[i]? with
  | none => simp [innL]
  | some p => exact (innLL_iff D l).1 h p (List.mem_of_getElem? hi)

/-- A value that refers to objects of D alone is represented as before, whatever becomes of the others. -/
theorem Rep.inn {F : Froz} {φ φ' : Locs} {D : Nat → Prop} (hφ : ∀ i x, D i → φ i = some x → φ' i = some x) {v : Value} {p : PV} (h : Rep F φ v p) : p.inn D → Rep F φ' v p := by
  induction h with
  | val v => exact fun _ => .val v
  | agg vs l hl h1 _ ih => exact fun hp => .agg vs l hl h1 fun i hi => ih i hi (innL_getD (by simpa [PV.inn] using hp) i)
  | tup vs l hl _ ih => exact fun hp => .tup vs l hl fun i hi => ih i hi (innL_getD (by simpa [PV.inn] using hp) i)
  | vecnil full => exact fun _ => .vecnil full
  | vec a cap esz l full cs hs hcap hfull hmax he hC _ ih =>
    exact fun hp => .vec a cap esz l full cs hs hcap hfull hmax he hC fun i j hi hj => ih i j hi hj (innL_getD (innLL_getD (by simpa [PV.inn] using hp) i) j)
  | cp a l cs hs hC _ ih => exact fun hp => .cp a l cs hs hC fun j hj => ih j hj (innL_getD (by simpa [PV.inn] using hp) j)
  | ptr id i off loc a h hb hs => exact fun hp => .ptr id i off loc a (hφ _ _ (by simpa [PV.inn] using hp) h) hb hs
  | own id loc h => exact fun hp => .own id loc (hφ _ _ (by simpa [PV.inn] using hp) h)
  | fn f vs l hl _ ih => exact fun hp => .fn f vs l hl fun i hi => ih i hi (innL_getD (by simpa [PV.inn] using hp) i)

theorem Rep.pure {F : Froz} {φ φ' : Locs} {v : Value} {p : PV} (h : Rep F φ v p) (hp : p.pure) : Rep F φ' v p := h.inn (fun _ _ hf => hf.elim) hp

mutual
theorem PV.inn_mono {D D' : Nat → Prop} (hD : ∀ i, D i → D' i) : ∀ (p : PV), p.inn D → p.inn D'
  | .val _, _ => by simp [PV.inn]
  | .agg l, h => by simp only [PV.inn] at h ⊢; exact innL_mono hD l h
  | .tup l, h => by simp only [PV.inn] at h ⊢; exact innL_mono hD l h
  | .vec l _, h => by simp only [PV.inn] at h ⊢; exact innLL_mono hD l h
  | .cp l, h => by simp only [PV.inn] at h ⊢; exact innL_mono hD l h
  | .ptr id _ _, h => by simp only [PV.inn] at h ⊢; exact hD _ h
  | .own id, h => by simp only [PV.inn] at h ⊢; exact hD _ h
  | .fn _ l, h => by simp only [PV.inn] at h ⊢; exact innL_mono hD l h
theorem innL_mono {D D' : Nat → Prop} (hD : ∀ i, D i → D' i) : ∀ (l : List PV), innL D l → innL D' l
  | [], _ => by simp [innL]
  | p :: l, h => by simp only [innL] at h ⊢; exact ⟨PV.inn_mono hD p h.1, innL_mono hD l h.2⟩
theorem innLL_mono {D D' : Nat → Prop} (hD : ∀ i, D i → D' i) : ∀ (l : List (List PV)), innLL D l → innLL D' l
  | [], _ => by simp [innLL]
  | p :: l, h => by simp only [innLL] at h ⊢; exact ⟨innL_mono hD p h.1, innLL_mono hD l h.2⟩
end
theorem PV.pure.inn {p : PV} (h : p.pure) (D : Nat → Prop) : p.inn D := PV.inn_mono (fun _ h => h.elim) p h

/-! ### Forgetting that a slice has no spare capacity -/
mutual
def PV.low : PV → PV
  | .val v => .val v
  | .agg l => .agg (lowL l)
  | .tup l => .tup (lowL l)
  | .vec l _ => .vec (lowLL l) false
  | .cp l => .cp (lowL l)
  | .ptr id i off => .ptr id i off
  | .own id => .own id
  | .fn f l => .fn f (lowL l)
def lowL : List PV → List PV
  | [] => []
  | p :: l => p.low :: lowL l
def lowLL : List (List PV) → List (List PV)
  | [] => []
  | p :: l => lowL p :: lowLL l
end
theorem lowL_eq (l : List PV) : lowL l = l.map PV.low := by
  induction l with
  | nil => rfl
  | cons a l ih => simp [lowL, ih]
theorem lowLL_eq (l : List (List PV)) : lowLL l = l.map lowL := by
  induction l with
  | nil => rfl
  | cons a l ih => simp [lowLL, ih]
theorem lowL_getD (l : List PV) (i : Nat) : (lowL l).getD i pvu = (l.getD i pvu).low := by
  rw [lowL_eq]
  simp only [List.getD_eq_getElem?_getD, List.getElem?_map]
  cases l[i]? <;> simp [pvu, PV.low]
theorem lowLL_getD (l : List (List PV)) (i : Nat) : (lowLL l).getD i [] = lowL (l.getD i []) := by
  rw [lowLL_eq]
  simp only [List.getD_eq_getElem?_getD, List.getElem?_map]
  cases l[i]? <;> simp [lowL]
theorem lowL_length (l : List PV) : (lowL l).length = l.length := by simp [lowL_eq]
theorem lowLL_length (l : List (List PV)) : (lowLL l).length = l.length := by simp [lowLL_eq]

theorem Rep.low {F : Froz} {φ : Locs} {v : Value} {p : PV} (h : Rep F φ v p) : Rep F φ v p.low := by
  induction h with
  | val v => simp only [PV.low]; exact .val v
  | agg vs l hl h1 _ ih => simp only [PV.low]; exact .agg vs _ (by rw [lowL_length]; exact hl) (by rw [lowL_length]; exact h1) fun i hi => by rw [lowL_getD]; exact ih i (by rwa [lowL_length] at hi)
  | tup vs l hl _ ih => simp only [PV.low]; exact .tup vs _ (by rw [lowL_length]; exact hl) fun i hi => by rw [lowL_getD]; exact ih i (by rwa [lowL_length] at hi)
  | vecnil full => simp only [PV.low, lowLL]; exact .vecnil false
  | vec a cap esz l full cs hs hcap hfull hmax he hC _ ih =>
    simp only [PV.low]
    have := Rep.vec (F := F) (φ := φ) a cap esz (lowLL l) false cs (fun h => hs (by rintro rfl; exact h (by simp [lowLL]))) (by rw [lowLL_length]; exact hcap) (by simp) (by rw [lowLL_length]; exact hmax)
      (fun i hi => by rw [lowLL_getD, lowL_length]; exact he i (by rwa [lowLL_length] at hi)) (fun i j hi hj => hC i j (by rwa [lowLL_length] at hi) hj)
      (fun i j hi hj => by rw [lowLL_getD, lowL_getD]; exact ih i j (by rwa [lowLL_length] at hi) hj)
    rwa [lowLL_length] at this
  | cp a l cs hs hC _ ih =>
    simp only [PV.low]
    exact .cp a _ cs hs (fun j hj => hC j (by rwa [lowL_length] at hj)) (fun j hj => by rw [lowL_getD]; exact ih j (by rwa [lowL_length] at hj))
  | ptr id i off loc a h hb hs => simp only [PV.low]; exact .ptr id i off loc a h hb hs
  | own id loc h => simp only [PV.low]; exact .own id loc h
  | fn f vs l hl _ ih => simp only [PV.low]; exact .fn f vs _ (by rw [lowL_length]; exact hl) fun i hi => by rw [lowL_getD]; exact ih i (by rwa [lowL_length] at hi)

/-! ### Objects in memory, and the state of a call -/
abbrev Env := Nat → Option PV
abbrev Heap := Nat → Option Bx

def Env.upd (e : Env) (k : Nat) (p : PV) : Env := fun j => bif Nat.beq j k then some p else e j
def Heap.upd (h : Heap) (k : Nat) (b : Bx) : Heap := fun j => bif Nat.beq j k then some b else h j

theorem Env.upd_same (e : Env) (k : Nat) (p : PV) : e.upd k p k = some p := by simp [Env.upd]
theorem Env.upd_ne (e : Env) {k j : Nat} (p : PV) (h : j ≠ k) : e.upd k p j = e j := by
  have : Nat.beq j k = false := Bool.eq_false_iff.2 fun hb => h (Nat.eq_of_beq_eq_true hb)
  simp [Env.upd, this]
theorem Heap.upd_same (e : Heap) (k : Nat) (p : Bx) : e.upd k p k = some p := by simp [Heap.upd]
theorem Heap.upd_ne (e : Heap) {k j : Nat} (p : Bx) (h : j ≠ k) : e.upd k p j = e j := by
  have : Nat.beq j k = false := Bool.eq_false_iff.2 fun hb => h (Nat.eq_of_beq_eq_true hb)
  simp [Heap.upd, this]

/-- The cells of an object. A place beyond its elements (spare capacity) holds something. -/
structure BxAt (F : Froz) (φ : Locs) (w : World) (loc : Loc) (b : Bx) : Prop where
  esz : b.esz = loc.esz
  pos : 0 < loc.esz
  len : b.elems.length = loc.len
  cap : loc.len ≤ loc.cap
  max : loc.len ≤ maxVec
  el : ∀ c ∈ b.elems, c.length = loc.esz
  room : loc.cap ≠ 0 → ∃ a, loc.base = some a ∧ a.spot = none ∧ ∃ cells t, w.heap[a.block]? = some (.cells cells t (0, 0)) ∧ a.off + loc.cap * loc.esz ≤ cells.size ∧
    ∀ i j, i < loc.len → j < loc.esz → (cells.getD (a.off + (i * loc.esz + j)) undef).oneCell' = true ∧ Rep F φ (cells.getD (a.off + (i * loc.esz + j)) undef) ((b.elems.getD i []).getD j pvu)

/-- The block that an object has for itself. -/
def Loc.has (loc : Loc) (k : Nat) : Prop := loc.cap ≠ 0 ∧ ∃ a, loc.base = some a ∧ a.block = k

/-- What does not change while a call runs: the world in which it began, the blocks from before that it may write, what was frozen then, how many slots its frame has, and where the objects lay then. -/
structure Ctx where
  w0 : World
  G : Nat → Prop
  F0 : Froz
  nt : Nat
  φ0 : Locs := fun _ => none

structure St' (C : Ctx) (Fr : Nat → Prop) (e : Env) (h : Heap) (F : Froz) (φ : Locs) (a : Act) (w : World) : Prop where
  nt : a.tmps.size = C.nt
  nodef : a.defers = []
  free : ∀ id, Fr id → φ id = none
  env : ∀ k p, e k = some p → k < C.nt ∧ Rep F φ (a.tmps.getD k undef) p
  froz : ∀ x v, F x = some v → x.spot = none ∧ v.oneCell' = true ∧ w.cell? x = some v
  ext : ∀ x v, C.F0 x = some v → F x = some v
  loc0 : ∀ i x, C.φ0 i = some x → φ i = some x
  old : ∀ x, x.block < C.w0.heap.size → ¬ C.G x.block → F x = C.F0 x
  os : w.os = C.w0.os
  tape : w.tape = C.w0.tape
  output : w.output = C.w0.output
  size : C.w0.heap.size ≤ w.heap.size
  kept : ∀ k, k < C.w0.heap.size → ¬ C.G k → w.heap[k]? = C.w0.heap[k]?
  live : ∀ id b, h id = some b → ∃ loc, φ id = some loc ∧ BxAt F φ w loc b ∧ (∀ k, loc.has k → (C.w0.heap.size ≤ k ∨ C.G k) ∧ ∀ x : Addr, x.block = k → F x = none)
  sep : ∀ i j bi bj li lj k, h i = some bi → h j = some bj → φ i = some li → φ j = some lj → li.has k → lj.has k → i = j

def St (C : Ctx) (Fr : Nat → Prop) (e : Env) (h : Heap) (a : Act) (w : World) : Prop := ∃ F φ, St' C Fr e h F φ a w
end Go.Proofs.Ytelcpkjclcimbaa
