/-
  The calculus: rules in the forms that proofs use. For every program; no statement of the seat is proved here.
-/
import Derived.Test.YtelcpkjclcimbaaIre
namespace Go.Proofs.Ytelcpkjclcimbaa
open Go.RowKit
set_option linter.unusedVariables false
set_option linter.unusedSimpArgs false

attribute [local irreducible] aw opsK dK

section
variable {P : Program} {C : Ctx} {e : Env} {h : Heap} {n : Nat} {K : Nat → Env → Heap → Prop} {os : List AOper} {d : Option Nat} {Q : Exit → Nat → Env → Heap → Prop}

def wantV (g : Option (Nat × Bool)) (e : Env) : Option Bool :=
  match g with
  | none => some true
  | some (s, b) => match e s with
    | some (.val (.bool c)) => some (c == b)
    | some (.val (.tuple _)) => some false
    | _ => none

theorem wantK_of {g : Option (Nat × Bool)} {A B : Prop} {b : Bool} (h : wantV g e = some b) (hk : if b = true then A else B) : wantK g e A B := by
  unfold wantV at h
  unfold wantK
  split at h
  · cases h; exact hk
  · split at h
    · rename_i c hc
      cases h
      simp only [hc]
      split
      · rename_i hcb; subst hcb; simpa using hk
      · rename_i hcb; simpa [hcb] using hk
    · rename_i c hc
      cases h
      simp only [hc]
      simpa using hk
    · cases h

theorem subA_refl : SubA n e h n e h := fun _ _ _ h => h
/-- A ghost step: from here on less is said of the state. -/
theorem opsK_on {op : AOp} {g : Nat × Bool} (hw : wantV (some g) e = some true) (hk : opsK P (⟨d, op, none⟩ :: os) n e h K) : opsK P (⟨d, op, some g⟩ :: os) n e h K := by
  unfold opsK at hk ⊢
  exact wantK_of hw (by simpa [wantK] using hk)
theorem opsK_sub {n' : Nat} {e' : Env} {h' : Heap} (hs : SubA n e h n' e' h') {op : AOp} (hk : opsK P (⟨d, op, none⟩ :: os) n' e' h' K) : opsK P (⟨d, op, none⟩ :: os) n e h K := by
  unfold opsK at hk ⊢
  simp only [wantK] at hk ⊢
  obtain ⟨n1, e1, h1, hs1, hk⟩ := hk
  exact ⟨n1, e1, h1, fun C a w hst => hs1 C a w (hs C a w hst), hk⟩
theorem opsK_off {op : AOp} {g : Nat × Bool} (hw : wantV (some g) e = some false) (hk : opsK P os n (updO e d pvu) h K) : opsK P (⟨d, op, some g⟩ :: os) n e h K := by
  unfold opsK
  exact wantK_of hw (by simpa using hk)

theorem opsK_of' {op : AOp} {p : PV} {h' : Heap} (hd : dEval op e h n = some (p, h') ∨ fEval op e h n = some (p, h')) (hn : isCall op = false) (hk : opsK P os (bmp h' n) (updO e d p) h' K) : opsK P (⟨d, op, none⟩ :: os) n e h K := by
  unfold opsK
  exact ⟨n, e, h, subA_refl, .inl (opK_det hn hd hk)⟩
theorem bmp_none (hz : h n = none) : bmp h n = n := by simp [bmp, hz]
theorem bmp_some {b : Bx} (hz : h n = some b) : bmp h n = n + 1 := by simp [bmp, hz]
theorem opsK_of {op : AOp} {p : PV} {h' : Heap} (hd : dEval op e h n = some (p, h')) (hn : isCall op = false) (hz : h' n = none) (hk : opsK P os n (updO e d p) h' K) : opsK P (⟨d, op, none⟩ :: os) n e h K :=
  opsK_of' (.inl hd) hn (by rw [bmp_none hz]; exact hk)
theorem opsK_new {op : AOp} {p : PV} {h' : Heap} {b : Bx} (hd : dEval op e h n = some (p, h')) (hn : isCall op = false) (hz : h' n = some b) (hk : opsK P os (n + 1) (updO e d p) h' K) : opsK P (⟨d, op, none⟩ :: os) n e h K :=
  opsK_of' (.inl hd) hn (by rw [bmp_some hz]; exact hk)
theorem opsK_ofAlt {op : AOp} {p : PV} {h' : Heap} (hd : fEval op e h n = some (p, h')) (hn : isCall op = false) (hz : h' n = none) (hk : opsK P os n (updO e d p) h' K) : opsK P (⟨d, op, none⟩ :: os) n e h K :=
  opsK_of' (.inr hd) hn (by rw [bmp_none hz]; exact hk)
theorem opsK_newAlt {op : AOp} {p : PV} {h' : Heap} {b : Bx} (hd : fEval op e h n = some (p, h')) (hn : isCall op = false) (hz : h' n = some b) (hk : opsK P os (n + 1) (updO e d p) h' K) : opsK P (⟨d, op, none⟩ :: os) n e h K :=
  opsK_of' (.inr hd) hn (by rw [bmp_some hz]; exact hk)
theorem opsK_bool {op : AOp} {b : Bool} {h' : Heap} (hd : dEval op e h n = some (.val (.bool b), h')) (hn : isCall op = false) (hz : h' n = none) (ht : b = true → opsK P os n (updO e d (.val (.bool true))) h' K) (hf : b = false → opsK P os n (updO e d (.val (.bool false))) h' K) : opsK P (⟨d, op, none⟩ :: os) n e h K := by
  cases b with
  | true => exact opsK_of hd hn hz (ht rfl)
  | false => exact opsK_of hd hn hz (hf rfl)
theorem opsK_spec {f : Operand} {args : List Operand} {g : FuncId} {caps as : List PV} {R : PV → Prop} (hf : ev e f = some (.fn g caps)) (ha : evs e args = some as) (hs : Spec P g (as ++ caps) R) (hp : pureL (as ++ caps)) (hz : h n = none) (hk : ∀ r, R r → opsK P os n (updO e d r) h K) :
    opsK P (⟨d, .call f args, none⟩ :: os) n e h K := by
  unfold opsK
  exact ⟨n, e, h, subA_refl, .inl ⟨g, caps, as, _, R, hf, ha, .inl rfl, hp, hs, fun r hr => by show opsK P os (bmp h n) (updO e d r) h K; rw [bmp_none hz]; exact hk r hr⟩⟩
theorem opsK_specLow {f : Operand} {args : List Operand} {g : FuncId} {caps as : List PV} {R : PV → Prop} (hf : ev e f = some (.fn g caps)) (ha : evs e args = some as) (hs : Spec P g (lowL (as ++ caps)) R) (hp : pureL (lowL (as ++ caps))) (hz : h n = none) (hk : ∀ r, R r → opsK P os n (updO e d r) h K) :
    opsK P (⟨d, .call f args, none⟩ :: os) n e h K := by
  unfold opsK
  exact ⟨n, e, h, subA_refl, .inl ⟨g, caps, as, _, R, hf, ha, .inr rfl, hp, hs, fun r hr => by show opsK P os (bmp h n) (updO e d r) h K; rw [bmp_none hz]; exact hk r hr⟩⟩
/-- A call that answers one value. -/
theorem opsK_eq {f : Operand} {args : List Operand} {g : FuncId} {caps as args' : List PV} {v : PV} (hs : Spec P g args' (· = v)) (hf : ev e f = some (.fn g caps)) (ha : evs e args = some as) (ha' : as ++ caps = args') (hp : pureL args') (hz : h n = none) (hk : opsK P os n (updO e d v) h K) :
    opsK P (⟨d, .call f args, none⟩ :: os) n e h K := by
  subst ha'
  exact opsK_spec hf ha hs hp hz fun _ hr => hr ▸ hk
theorem opsK_eqLow {f : Operand} {args : List Operand} {g : FuncId} {caps as args' : List PV} {v : PV} (hs : Spec P g args' (· = v)) (hf : ev e f = some (.fn g caps)) (ha : evs e args = some as) (ha' : lowL (as ++ caps) = args') (hp : pureL args') (hz : h n = none) (hk : opsK P os n (updO e d v) h K) :
    opsK P (⟨d, .call f args, none⟩ :: os) n e h K := by
  subst ha'
  exact opsK_specLow hf ha hs hp hz fun _ hr => hr ▸ hk
theorem opsK_heap {f : Operand} {args : List Operand} {g : FuncId} {caps as : List PV} {R : Nat → PV → Heap → Prop} (hf : ev e f = some (.fn g caps)) (ha : evs e args = some as)
    (hs : ISpec P g n (as ++ caps) h R) (hk : ∀ n' r h', R n' r h' → opsK P os n' (updO e d r) h' K) : opsK P (⟨d, .call f args, none⟩ :: os) n e h K := by
  unfold opsK
  exact ⟨n, e, h, subA_refl, .inr ⟨f, args, g, caps, as, R, rfl, hf, ha, hs, hk⟩⟩
theorem opsK_done (hk : K n e h) : opsK P [] n e h K := by unfold opsK; exact hk

/-! ### Operations with a condition -/
theorem opsK_iaddr {α : Type} {esz : Nat} {x i : Operand} {xs : List α} {g : α → List PV} {fl : Bool} {k : IntKind} {m : Int} (hx : ev e x = some (.vec (xs.map g) fl)) (hi : ev e i = some (.val (.int k m))) (j : Nat) (hm : m = (j : Int)) (hj : j < xs.length) (hl : (g xs[j]).length = esz)
    (hz : h n = none) (hk : opsK P os n (updO e d (.cp (g xs[j]))) h K) : opsK P (⟨d, .iaddr esz x i, none⟩ :: os) n e h K := by
  subst hm
  have e1 : (xs.map g).getD (j : Int).toNat [] = g xs[j] := by simp [List.getD_eq_getElem?_getD, hj]
  refine opsK_of (p := .cp (g xs[j])) (h' := h) ?_ rfl hz hk
  simp only [dEval, hx, hi, e1, hl]
  rw [if_pos ⟨by omega, by simp; omega⟩]; simp
theorem opsK_iaddrO {esz : Nat} {x i : Operand} {id : Nat} {b : Bx} {k : IntKind} {m : Int} (hx : ev e x = some (.own id)) (hi : ev e i = some (.val (.int k m))) (hb : h id = some b) (j : Nat) (hm : m = (j : Int)) (hj : j < b.elems.length) (hl : b.esz = esz)
    (hz : h n = none) (hk : opsK P os n (updO e d (.ptr id j 0)) h K) : opsK P (⟨d, .iaddr esz x i, none⟩ :: os) n e h K := by
  subst hm
  refine opsK_of (p := .ptr id j 0) (h' := h) ?_ rfl hz hk
  simp only [dEval, hx, hi, hb, hl]
  rw [if_pos ⟨by omega, by omega⟩]; simp
theorem opsK_shl {x y : Operand} {k k' : IntKind} {a b : Int} (hx : ev e x = some (.val (.int k a))) (hy : ev e y = some (.val (.int k' b))) (hb : 0 ≤ b) {v : Int} (hv : k.wrap (a * 2 ^ (min b.toNat k.bits)) = v) (hz : h n = none) (hk : opsK P os n (updO e d (.val (.int k v))) h K) : opsK P (⟨d, .bin .shl .num x y, none⟩ :: os) n e h K :=
  opsK_of (p := .val (.int k v)) (h' := h) (by simp [dEval, hx, hy, pbin, sbin, hb, hv]) rfl hz hk
theorem opsK_shr {x y : Operand} {k k' : IntKind} {a b : Int} (hx : ev e x = some (.val (.int k a))) (hy : ev e y = some (.val (.int k' b))) (hb : 0 ≤ b) {v : Int} (hv : a.fdiv (2 ^ (min b.toNat k.bits)) = v) (hz : h n = none) (hk : opsK P os n (updO e d (.val (.int k v))) h K) : opsK P (⟨d, .bin .shr .num x y, none⟩ :: os) n e h K :=
  opsK_of (p := .val (.int k v)) (h' := h) (by simp [dEval, hx, hy, pbin, sbin, hb, hv]) rfl hz hk
/-- A number is another one by a law of arithmetic. -/
theorem opsK_int {op : AOp} {k : IntKind} {a v : Int} {h' : Heap} (hd : dEval op e h n = some (.val (.int k a), h')) (hn : isCall op = false) (hz : h' n = none) (hv : a = v) (hk : opsK P os n (updO e d (.val (.int k v))) h' K) : opsK P (⟨d, op, none⟩ :: os) n e h K := by
  subst hv; exact opsK_of hd hn hz hk
theorem opsK_boolEq {op : AOp} {a v : Bool} {h' : Heap} (hd : dEval op e h n = some (.val (.bool a), h')) (hn : isCall op = false) (hz : h' n = none) (hv : a = v) (hk : opsK P os n (updO e d (.val (.bool v))) h' K) : opsK P (⟨d, op, none⟩ :: os) n e h K := by
  subst hv; exact opsK_of hd hn hz hk

theorem opsK_slc {α : Type} {esz : Nat} {x : Operand} {lo hi : Option Operand} {xs : List α} {g : α → List PV} {fl : Bool} (hx : ev e x = some (.vec (xs.map g) fl)) (a b : Nat) (hlo : bndAt e 0 lo = some (a : Int)) (hhi : bndAt e ((xs.map g).length : Nat) hi = some (b : Int)) (hab : a ≤ b) (hb : b ≤ xs.length) (hg : ∀ x, (g x).length = esz)
    (hz : h n = none) (hk : opsK P os n (updO e d (.vec (((xs.take b).drop a).map g) false)) h K) : opsK P (⟨d, .slc esz x lo hi none, none⟩ :: os) n e h K := by
  refine opsK_of (p := .vec (((xs.take b).drop a).map g) false) (h' := h) ?_ rfl hz hk
  simp only [dEval, hx, hlo, hhi]
  have hall : ∀ c ∈ xs.map g, c.length = esz := fun c hc => by obtain ⟨y, _, rfl⟩ := List.mem_map.1 hc; exact hg y
  rw [if_pos ⟨⟨by omega, by omega, by simp; omega⟩, hall⟩]
  simp [List.map_drop, List.map_take]

/-! ### What an operation with a condition computes -/
theorem E_iaddr {α : Type} {esz : Nat} {x i : Operand} {xs : List α} {g : α → List PV} {fl : Bool} {k : IntKind} {m : Int} (hx : ev e x = some (.vec (xs.map g) fl)) (hi : ev e i = some (.val (.int k m))) (j : Nat) (hm : m = (j : Int)) (hj : j < xs.length) (hl : (g xs[j]).length = esz) :
    dEval (.iaddr esz x i) e h n = some (.cp (g xs[j]), h) := by
  subst hm
  have e1 : (xs.map g).getD (j : Int).toNat [] = g xs[j] := by simp [List.getD_eq_getElem?_getD, hj]
  simp only [dEval, hx, hi, e1, hl]
  rw [if_pos ⟨by omega, by simp; omega⟩]; simp
theorem E_iaddrO {esz : Nat} {x i : Operand} {id : Nat} {b : Bx} {k : IntKind} {m : Int} (hx : ev e x = some (.own id)) (hi : ev e i = some (.val (.int k m))) (hb : h id = some b) (j : Nat) (hm : m = (j : Int)) (hj : j < b.elems.length) (hl : b.esz = esz) :
    dEval (.iaddr esz x i) e h n = some (.ptr id j 0, h) := by
  subst hm
  simp only [dEval, hx, hi, hb, hl]
  rw [if_pos ⟨by omega, by omega⟩]; simp
theorem E_shl {x y : Operand} {k k' : IntKind} {a b : Int} (hx : ev e x = some (.val (.int k a))) (hy : ev e y = some (.val (.int k' b))) (hb : 0 ≤ b) {v : Int} (hv : k.wrap (a * 2 ^ (min b.toNat k.bits)) = v) : dEval (.bin .shl .num x y) e h n = some (.val (.int k v), h) := by simp [dEval, hx, hy, pbin, sbin, hb, hv]
theorem E_shr {x y : Operand} {k k' : IntKind} {a b : Int} (hx : ev e x = some (.val (.int k a))) (hy : ev e y = some (.val (.int k' b))) (hb : 0 ≤ b) {v : Int} (hv : a.fdiv (2 ^ (min b.toNat k.bits)) = v) : dEval (.bin .shr .num x y) e h n = some (.val (.int k v), h) := by simp [dEval, hx, hy, pbin, sbin, hb, hv]
theorem E_int {op : AOp} {k : IntKind} {a v : Int} (hd : dEval op e h n = some (.val (.int k a), h)) (hv : a = v) : dEval op e h n = some (.val (.int k v), h) := by subst hv; exact hd
theorem E_boolEq {op : AOp} {a v : Bool} (hd : dEval op e h n = some (.val (.bool a), h)) (hv : a = v) : dEval op e h n = some (.val (.bool v), h) := by subst hv; exact hd
theorem E_mslice {z : List Value} {bytes : Nat} {l c : Operand} {a b : Nat} (hl : intAt (ev e l) = some (a : Int)) (hc : intAt (ev e c) = some (b : Int)) (hab : a ≤ b) (hb : bytes * b ≤ 281474976710656) :
    dEval (.mslice z bytes l c) e h n = some (.own n, h.upd n ⟨z.length, List.replicate a (zpv z)⟩) := by
  simp only [dEval, hl, hc]
  rw [if_pos ⟨by omega, by omega, by rw [← Int.natCast_mul]; omega⟩]; simp
theorem E_slc {α : Type} {esz : Nat} {x : Operand} {lo hi : Option Operand} {xs : List α} {g : α → List PV} {fl : Bool} (hx : ev e x = some (.vec (xs.map g) fl)) (a b : Nat) (hlo : bndAt e 0 lo = some (a : Int)) (hhi : bndAt e ((xs.map g).length : Nat) hi = some (b : Int)) (hab : a ≤ b) (hb : b ≤ xs.length) (hg : ∀ x, (g x).length = esz) :
    dEval (.slc esz x lo hi none) e h n = some (.vec (((xs.take b).drop a).map g) false, h) := by
  simp only [dEval, hx, hlo, hhi]
  have hall : ∀ c ∈ xs.map g, c.length = esz := fun c hc => by obtain ⟨y, _, rfl⟩ := List.mem_map.1 hc; exact hg y
  rw [if_pos ⟨⟨by omega, by omega, by simp; omega⟩, hall⟩]
  simp [List.map_drop, List.map_take]
theorem E_load {agg : Bool} {size : Nat} {a : Operand} {k i off : Nat} {b : Bx} {p : PV} (ha : ev e a = some (.ptr k i off)) (hb : h k = some b) (hi : i < b.elems.length) (hc : cutAt agg size off (b.elems.getD i []) = some p) : dEval (.load agg size a) e h n = some (p, h) := by
  simp only [dEval, ha, hb, if_pos hi, hc]
theorem E_store {size : Nat} {a v : Operand} {k i off : Nat} {b : Bx} {p : PV} (ha : ev e a = some (.ptr k i off)) (hv : ev e v = some p) (hb : h k = some b) (hf : p.flat = true) (hl : p.cells.length = size) (hi : i < b.elems.length) (ho : off + size ≤ b.esz) :
    dEval (.store size a v) e h n = some (pvu, h.upd k ⟨b.esz, b.elems.set i (setAt (b.elems.getD i []) off p.cells)⟩) := by
  subst hl
  simp only [dEval, ha, hv, hb]
  rw [if_pos (by simp [hf, hi, ho])]
theorem E_append {z : List Value} {bytes : Nat} {s x : Operand} {k : Nat} {m : List (List PV)} {fl : Bool} {b : Bx} (hs : ev e s = some (.own k)) (hx : ev e x = some (.vec m fl)) (hb : h k = some b) (hm : ∀ c ∈ m, c.length = z.length) (he : b.esz = z.length) (hby : (b.elems.length + m.length) * bytes ≤ 140737488355328) :
    dEval (.append z bytes s x) e h n = some (.own n, (h.del k).upd n ⟨b.esz, b.elems ++ m⟩) := by
  simp only [dEval, hs, hx, hb]
  rw [if_pos ⟨hm, he, hby⟩]; rfl
theorem E_copy {esz : Nat} {d s : Operand} {k : Nat} {m : List (List PV)} {fl : Bool} {b : Bx} (hd : ev e d = some (.own k)) (hs : ev e s = some (.vec m fl)) (hb : h k = some b) (hm : ∀ c ∈ m, c.length = esz) (he : b.esz = esz) :
    dEval (.copy esz d s) e h n = some (.val (.int .i64 (min m.length b.elems.length : Nat)), h.upd k ⟨b.esz, m.take b.elems.length ++ b.elems.drop m.length⟩) := by
  simp only [dEval, hd, hs, hb]
  rw [if_pos ⟨hm, he⟩]
theorem E_appendF {z : List Value} {bytes : Nat} {s x : Operand} {l m : List (List PV)} {fl : Bool} (hs : ev e s = some (.vec l true)) (hx : ev e x = some (.vec m fl)) (hl : ∀ c ∈ l, c.length = z.length) (hm : ∀ c ∈ m, c.length = z.length) (hby : (l.length + m.length) * bytes ≤ 140737488355328) :
    fEval (.append z bytes s x) e h n = some (.vec (l ++ m) false, h) := by
  simp only [fEval, hs, hx]
  rw [if_pos ⟨hl, hm, hby⟩]
/-- A slice made with make, and the slice whose elements are put to its end: the slice is a variable's. -/
theorem subA_ownNil {k : Nat} (hk : e k = some (.vec [] true)) (esz : Nat) (hp : 0 < esz) : SubA n e h (n + 1) (e.upd k (.own n)) (h.upd n ⟨esz, []⟩) := fun _ => sub_ownNil hk esz hp
theorem subA_freeze {k id : Nat} {b : Bx} (hk : e k = some (.own id)) (hb : h id = some b) (hp : pureLL b.elems) : SubA n e h n (e.upd k (.vec b.elems false)) (h.del id) := fun _ => sub_freeze hk hb hp
theorem subA_freezeBox {k id : Nat} {esz : Nat} {l : List PV} (hk : e k = some (.ptr id 0 0)) (hb : h id = some ⟨esz, [l]⟩) (hp : pureL l) : SubA n e h n (e.upd k (.cp l)) (h.del id) := fun _ => sub_freezeBox hk hb hp

/-! ### Drawn regions -/
theorem dK_of {z : Option Nat} {i mask : Nat} {op : AOp} {iso : Bool} {xs : List DItem} {K : Env → Heap → Prop} {p : PV} {h' : Heap} (hd : dEval op e h (n + i) = some (p, h')) (ha : accOk z op e n mask iso = true) (hn : isCall op = false) (hk : dK P z n xs (updO e d p) h' K) : dK P z n (⟨i, ⟨d, op, none⟩, mask, iso, false⟩ :: xs) e h K := dK_det hd ha hn hk
theorem dK_ofAlt {z : Option Nat} {i mask : Nat} {op : AOp} {iso : Bool} {xs : List DItem} {K : Env → Heap → Prop} {p : PV} {h' : Heap} (hd : fEval op e h (n + i) = some (p, h')) (ha : accOk z op e n mask iso = true) (hn : isCall op = false) (hk : dK P z n xs (updO e d p) h' K) : dK P z n (⟨i, ⟨d, op, none⟩, mask, iso, true⟩ :: xs) e h K := dK_det hd ha hn hk
theorem dK_bool {z : Option Nat} {i mask : Nat} {op : AOp} {iso : Bool} {xs : List DItem} {K : Env → Heap → Prop} {b : Bool} {h' : Heap} (hd : dEval op e h (n + i) = some (.val (.bool b), h')) (ha : accOk z op e n mask iso = true) (hn : isCall op = false) (ht : b = true → dK P z n xs (updO e d (.val (.bool true))) h' K) (hf : b = false → dK P z n xs (updO e d (.val (.bool false))) h' K) : dK P z n (⟨i, ⟨d, op, none⟩, mask, iso, false⟩ :: xs) e h K := by
  cases b with
  | true => exact dK_of hd ha hn (ht rfl)
  | false => exact dK_of hd ha hn (hf rfl)
theorem dK_on {z : Option Nat} {i mask : Nat} {op : AOp} {iso alt : Bool} {g : Nat × Bool} {xs : List DItem} {K : Env → Heap → Prop} (hw : wantV (some g) e = some true) (hk : dK P z n (⟨i, ⟨d, op, none⟩, mask, iso, alt⟩ :: xs) e h K) : dK P z n (⟨i, ⟨d, op, some g⟩, mask, iso, alt⟩ :: xs) e h K := by
  obtain ⟨s, b⟩ := g
  unfold wantV at hw
  simp only at hw
  split at hw
  · rename_i c hc
    exact dK_guard (x := ⟨i, ⟨d, op, some (s, b)⟩, mask, iso, alt⟩) rfl hc (fun _ => hk) fun hne => absurd (by simpa using hw) hne
  · cases hw
  · cases hw
theorem dK_off {z : Option Nat} {i mask : Nat} {op : AOp} {iso alt : Bool} {g : Nat × Bool} {xs : List DItem} {K : Env → Heap → Prop} (hw : ∃ c, e g.1 = some (.val (.bool c)) ∧ c ≠ g.2) (hk : dK P z n xs (updO e d pvu) h K) : dK P z n (⟨i, ⟨d, op, some g⟩, mask, iso, alt⟩ :: xs) e h K := by
  obtain ⟨s, b⟩ := g
  obtain ⟨c, hc, hne⟩ := hw
  exact dK_guard (x := ⟨i, ⟨d, op, some (s, b)⟩, mask, iso, alt⟩) rfl hc (fun h => absurd h hne) fun _ => hk
theorem dK_eq {z : Option Nat} {i mask : Nat} {f : Operand} {args : List Operand} {iso alt : Bool} {xs : List DItem} {K : Env → Heap → Prop} {g : FuncId} {caps as args' : List PV} {v : PV} (hs : Spec P g args' (· = v)) (hf : ev e f = some (.fn g caps)) (ha : evs e args = some as) (ha' : as ++ caps = args') (hp : pureL args') (hk : dK P z n xs (updO e d v) h K) :
    dK P z n (⟨i, ⟨d, .call f args, none⟩, mask, iso, alt⟩ :: xs) e h K := by
  subst ha'
  exact dK_call hf ha (.inl rfl) hs hp fun _ hr => hr ▸ hk
theorem dK_done {z : Option Nat} {K : Env → Heap → Prop} (hk : K e h) : dK P z n [] e h K := dK_nil hk

/-! ### Control -/
theorem aw_condT {c : Operand} {x y : ACode} (hc : ev e c = some (.val (.bool true))) (hk : aw P C x Q n e h) : aw P C (.cond c x y) Q n e h := aw_cond hc (fun _ => hk) fun h => by cases h
theorem aw_condF {c : Operand} {x y : ACode} (hc : ev e c = some (.val (.bool false))) (hk : aw P C y Q n e h) : aw P C (.cond c x y) Q n e h := aw_cond hc (fun h => by cases h) fun _ => hk

theorem ret_ok {rs : List ARes} {R : PV → Prop} {r : PV} (hr : retAll rs e h = some r) (hp : r.pure) (hR : R r) : ∃ r0 r, retAll rs e h = some r0 ∧ LoP r0 r ∧ r.pure ∧ R r := ⟨r, r, hr, .inl rfl, hp, hR⟩
theorem ret_low {rs : List ARes} {R : PV → Prop} {r : PV} (hr : retAll rs e h = some r) (hp : r.low.pure) (hR : R r.low) : ∃ r0 r, retAll rs e h = some r0 ∧ LoP r0 r ∧ r.pure ∧ R r := ⟨r, r.low, hr, .inr rfl, hp, hR⟩
theorem ret_i {rs : List ARes} {R : Nat → PV → Heap → Prop} {r : PV} (hr : retAll rs e h = some r) (hR : R n r h) : ∃ r0 r, retAll rs e h = some r0 ∧ LoP r0 r ∧ R n r h := ⟨r, r, hr, .inl rfl, hR⟩
theorem ret_iLow {rs : List ARes} {R : Nat → PV → Heap → Prop} {r : PV} (hr : retAll rs e h = some r) (hR : R n r.low h) : ∃ r0 r, retAll rs e h = some r0 ∧ LoP r0 r ∧ R n r h := ⟨r, r.low, hr, .inr rfl, hR⟩

/-! ### Fewer slots -/
def EnvIn (e : Env) : List (Nat × PV) → Prop
  | [] => True
  | (k, p) :: r => e k = some p ∧ EnvIn e r
theorem EnvIn.some {L : List (Nat × PV)} (he : EnvIn e L) {k : Nat} {p : PV} (hk : envL L k = some p) : e k = some p := by
  induction L with
  | nil => cases hk
  | cons q r ih =>
    obtain ⟨k', p'⟩ := q
    obtain ⟨h1, h2⟩ := he
    simp only [envL] at hk
    by_cases hkk : k = k'
    · subst hkk; rw [Env.upd_same] at hk; cases hk; exact h1
    · rw [Env.upd_ne _ _ hkk] at hk; exact ih h2 hk
theorem sub_env {L : List (Nat × PV)} (he : EnvIn e L) : Sub C n e h n (envL L) h := by
  rintro a w ⟨F, φ, s⟩
  exact ⟨F, φ, { s with env := fun k p hk => s.env k p (he.some hk) }⟩
theorem sub_n {n' : Nat} (hn : n ≤ n') : Sub C n e h n' e h := by
  rintro a w ⟨F, φ, s⟩
  exact ⟨F, φ, { s with free := fun i hi => s.free i (Nat.le_trans hn hi) }⟩
theorem sub_heap {h' : Heap} (hh : ∀ i b, h' i = some b → h i = some b) : Sub C n e h n e h' := by
  rintro a w ⟨F, φ, s⟩
  exact ⟨F, φ, { s with live := fun i b hb => s.live i b (hh i b hb), sep := fun i j bi bj li lj k hi hj => s.sep i j bi bj li lj k (hh _ _ hi) (hh _ _ hj) }⟩
/-- A loop that makes no objects and changes none. -/
theorem aw_loopE {X : Type} (I : X → Prop) (μ : X → Nat) (L : X → List (Nat × PV)) {body : ACode} (x0 : X) (h0 : I x0) (hL : EnvIn e (L x0))
    (round : ∀ x, I x → aw P C body (thenQ (fun n' e' h' => ∃ x', I x' ∧ μ x' < μ x ∧ n' = n ∧ h' = h ∧ EnvIn e' (L x')) Q) n (envL (L x)) h) : aw P C (.loop body) Q n e h :=
  aw_loop I μ (fun _ => n) (fun x => envL (L x)) (fun _ => h) x0 h0 (sub_env hL) fun x hx => aw_mono (round x hx) fun ex n e h hq => by
    cases ex with
    | normal => obtain ⟨x', h1, h2, rfl, rfl, h4⟩ := hq; exact ⟨x', h1, h2, sub_env h4⟩
    | _ => exact hq

/-! ### What is kept of the slots and of the objects -/
def EnvR (e : Env) (m : Nat) : List (Nat × PV) → Prop
  | [] => True
  | (k, p) :: r => (e k = some p ∧ p.inn (· < m)) ∧ EnvR e m r
def HeapR (h : Heap) (m : Nat) : List (Nat × Bx) → Prop
  | [] => True
  | (k, b) :: r => (k < m ∧ h k = some b ∧ innLL (· < m) b.elems) ∧ HeapR h m r
theorem EnvR.some {m : Nat} {L : List (Nat × PV)} (he : EnvR e m L) {k : Nat} {p : PV} (hk : envL L k = some p) : e k = some p ∧ p.inn (· < m) := by
  induction L with
  | nil => cases hk
  | cons q r ih =>
    obtain ⟨k', p'⟩ := q
    obtain ⟨h1, h2⟩ := he
    simp only [envL] at hk
    by_cases hkk : k = k'
    · subst hkk; rw [Env.upd_same] at hk; cases hk; exact h1
    · rw [Env.upd_ne _ _ hkk] at hk; exact ih h2 hk
theorem HeapR.some {m : Nat} {L : List (Nat × Bx)} (he : HeapR h m L) {k : Nat} {p : Bx} (hk : heapL L k = some p) : k < m ∧ h k = some p ∧ innLL (· < m) p.elems := by
  induction L with
  | nil => cases hk
  | cons q r ih =>
    obtain ⟨k', p'⟩ := q
    obtain ⟨h1, h2⟩ := he
    simp only [heapL] at hk
    by_cases hkk : k = k'
    · subst hkk; rw [Heap.upd_same] at hk; cases hk; exact h1
    · rw [Heap.upd_ne _ _ hkk] at hk; exact ih h2 hk
theorem sub_keep {m n' : Nat} (hdom : C.dom m) (hm : m ≤ n') {L : List (Nat × PV)} {HL : List (Nat × Bx)} (he : EnvR e n' L) (hh : HeapR h n' HL) : Sub C n e h n' (envL L) (heapL HL) := by
  rintro a w ⟨F, φ, s⟩
  let φ' : Locs := fun i => if i < n' then φ i else none
  have hφ : ∀ i x, i < n' → φ i = some x → φ' i = some x := fun i x hi hx => by simp only [φ', hi, if_true]; exact hx
  refine ⟨F, φ', { nt := s.nt, nodef := s.nodef, loc0 := fun i x hx => ?_, free := fun i hi => ?_, env := fun k p hp => ?_, froz := s.froz, ext := s.ext, old := s.old, os := s.os, tape := s.tape, output := s.output, size := s.size, kept := s.kept, live := fun i b hb => ?_, sep := ?_ }⟩
  · have : ¬ i < n' := by omega
    simp only [φ', this, if_false]
  · obtain ⟨h0, hr⟩ := he.some hp
    exact ⟨(s.env k p h0).1, (s.env k p h0).2.inn hφ hr⟩
  · by_cases him : i < m
    · exact hφ i x (by omega) (s.loc0 i x hx)
    · rw [hdom i (by omega)] at hx; cases hx
  · obtain ⟨hi, h0, hr⟩ := hh.some hb
    obtain ⟨loc, h1, h2, h3⟩ := s.live _ b h0
    refine ⟨loc, hφ i loc hi h1, ?_, h3⟩
    refine ⟨h2.esz, h2.pos, h2.len, h2.cap, h2.max, h2.el, fun hc => ?_⟩
    obtain ⟨x, hx, hs, cells, t, hg, hsz, hrep⟩ := h2.room hc
    exact ⟨x, hx, hs, cells, t, hg, hsz, fun i j hi hj => ⟨(hrep i j hi hj).1, (hrep i j hi hj).2.inn hφ (innL_getD (innLL_getD hr i) j)⟩⟩
  · intro i j bi bj li lj k hi hj hli hlj hki hkj
    obtain ⟨hin, h0, _⟩ := hh.some hi
    obtain ⟨hjn, g0, _⟩ := hh.some hj
    have hli' : φ i = some li := by simpa only [φ', show i < n' from hin, if_true] using hli
    have hlj' : φ j = some lj := by simpa only [φ', show j < n' from hjn, if_true] using hlj
    exact s.sep _ _ bi bj li lj k h0 g0 hli' hlj' hki hkj
/-- A loop over objects that keep their names. -/
theorem aw_loopH {X : Type} {m : Nat} (hdom : C.dom m) (I : X → Prop) (μ : X → Nat) (N : Nat) (L : X → List (Nat × PV)) (HL : X → List (Nat × Bx)) {body : ACode} (hm : m ≤ N) (x0 : X) (h0 : I x0) (hL : EnvR e N (L x0)) (hH : HeapR h N (HL x0))
    (round : ∀ x, I x → aw P C body (thenQ (fun n' e' h' => ∃ x', I x' ∧ μ x' < μ x ∧ EnvR e' N (L x') ∧ HeapR h' N (HL x')) Q) N (envL (L x)) (heapL (HL x))) : aw P C (.loop body) Q n e h :=
  aw_loop I μ (fun _ => N) (fun x => envL (L x)) (fun x => heapL (HL x)) x0 h0 (sub_keep hdom hm hL hH) fun x hx => aw_mono (round x hx) fun ex n e h hq => by
    cases ex with
    | normal => obtain ⟨x', h1, h2, h3, h4⟩ := hq; exact ⟨x', h1, h2, sub_keep hdom hm h3 h4⟩
    | _ => exact hq

/-- The same with other names. -/
def EnvQ (ρ : Nat → Nat) (e : Env) (m : Nat) : List (Nat × PV) → Prop
  | [] => True
  | (k, p) :: r => (∃ p0, e k = some p0 ∧ RenP ρ (· < m) p0 p) ∧ EnvQ ρ e m r
def HeapQ (ρ : Nat → Nat) (h : Heap) (m : Nat) : List (Nat × Bx) → Prop
  | [] => True
  | (k, b) :: r => (k < m ∧ ∃ b0, h (ρ k) = some b0 ∧ RenB ρ (· < m) b0 b) ∧ HeapQ ρ h m r
theorem EnvQ.mem {ρ : Nat → Nat} {m : Nat} : ∀ {L : List (Nat × PV)}, EnvQ ρ e m L → ∀ q ∈ L, ∃ p0, e q.1 = some p0 ∧ RenP ρ (· < m) p0 q.2
  | [], _, q, hq => by cases hq
  | (k, p) :: r, h, q, hq => by
    rcases List.mem_cons.1 hq with rfl | hq
    · exact h.1
    · exact EnvQ.mem h.2 q hq
theorem HeapQ.mem {ρ : Nat → Nat} {m : Nat} : ∀ {L : List (Nat × Bx)}, HeapQ ρ h m L → ∀ q ∈ L, q.1 < m ∧ ∃ b0, h (ρ q.1) = some b0 ∧ RenB ρ (· < m) b0 q.2
  | [], _, q, hq => by cases hq
  | (k, p) :: r, h, q, hq => by
    rcases List.mem_cons.1 hq with rfl | hq
    · exact h.1
    · exact HeapQ.mem h.2 q hq
def InjOn (ρ : Nat → Nat) (HL : List (Nat × Bx)) : Prop := ∀ q ∈ HL, ∀ q' ∈ HL, ρ q.1 = ρ q'.1 → q.1 = q'.1
/-- A loop over objects whose names change. -/
theorem aw_loopR {X : Type} {m : Nat} (hdom : C.dom m) (I : X → Prop) (μ : X → Nat) (N : Nat) (L : X → List (Nat × PV)) (HL : X → List (Nat × Bx)) {body : ACode} (hm : m ≤ N) (x0 : X) (h0 : I x0) (ρ0 : Nat → Nat) (hρ0 : ∀ i, i < m → ρ0 i = i) (hi0 : InjOn ρ0 (HL x0)) (hL : EnvQ ρ0 e N (L x0)) (hH : HeapQ ρ0 h N (HL x0))
    (round : ∀ x, I x → aw P C body (thenQ (fun n' e' h' => ∃ x' ρ, I x' ∧ μ x' < μ x ∧ (∀ i, i < m → ρ i = i) ∧ InjOn ρ (HL x') ∧ EnvQ ρ e' N (L x') ∧ HeapQ ρ h' N (HL x')) Q) N (envL (L x)) (heapL (HL x))) : aw P C (.loop body) Q n e h :=
  aw_loop I μ (fun _ => N) (fun x => envL (L x)) (fun x => heapL (HL x)) x0 h0 (sub_ren ρ0 hL.mem hH.mem hi0 hdom hm hρ0) fun x hx => aw_mono (round x hx) fun ex n e h hq => by
    cases ex with
    | normal => obtain ⟨x', ρ, h1, h2, h3, h4, h5, h6⟩ := hq; exact ⟨x', h1, h2, sub_ren ρ h5.mem h6.mem h4 hdom hm h3⟩
    | _ => exact hq
theorem aw_keep {m n' : Nat} (hdom : C.dom m) (L : List (Nat × PV)) (HL : List (Nat × Bx)) (hm : m ≤ n') (he : EnvR e n' L) (hh : HeapR h n' HL) {ac : ACode} (hk : aw P C ac Q n' (envL L) (heapL HL)) : aw P C ac Q n e h := aw_sub (sub_keep hdom hm he hh) hk
/-- One after the other; of the state between them only this is said. -/
theorem aw_cut {m : Nat} (hdom : C.dom m) (A : Prop) (N : Nat) (L : List (Nat × PV)) (HL : List (Nat × Bx)) {x y : ACode} (hm : m ≤ N) (h1 : aw P C x (thenQ (fun n e h => A ∧ EnvR e N L ∧ HeapR h N HL) Q) n e h) (h2 : A → aw P C y Q N (envL L) (heapL HL)) : aw P C (.seq x y) Q n e h :=
  aw_seq (aw_mono h1 fun ex n e h hq => by
    cases ex with
    | normal => obtain ⟨ha, he, hh⟩ := hq; exact aw_keep hdom L HL hm he hh (h2 ha)
    | _ => exact hq)
end
end Go.Proofs.Ytelcpkjclcimbaa
