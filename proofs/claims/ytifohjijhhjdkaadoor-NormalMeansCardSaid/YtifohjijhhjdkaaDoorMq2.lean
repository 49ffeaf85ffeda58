/-
  Merged from the texts that this claim's theorem needs, part 3 of 8. No statement of the seat is proved here.
-/
import Derived.KernelRfl
import Derived.LoopNIn
import Derived.Test.YtifohjijhhjdkaaDoorChecked
import Derived.Test.YtifohjijhhjdkaaDoorMq1
set_option linter.unusedSimpArgs false
set_option linter.unusedVariables false

namespace Go.Proofs.YtifohjijhhjdkaaDoor
open Go.RowKit
set_option linter.unusedVariables false
set_option linter.unusedSimpArgs false

attribute [local irreducible] aw opsK dK

section
variable {P : Program} {C : Ctx} {e : Env} {h : Heap} {n : Nat} {K : Nat → Env → Heap → Prop} {os : List AOper} {d : Option Nat} {Q : Exit → Nat → Env → Heap → Prop}

def wantV (g : Option (Nat × Bool)) (e : Env) : Option Bool :=
  match g with
  | none => some true
  | some (s, b) => match e s with
    | some (.val (.bool c)) => some (c == b)
    | some (.val (.tuple _)) => some false
    | _ => none

theorem wantK_of {g : Option (Nat × Bool)} {A B : Prop} {b : Bool} (h : wantV g e = some b) (hk : if b = true then A else B) : wantK g e A B := by
  unfold wantV at h
  unfold wantK
  split at h
  · cases h; exact hk
  · split at h
    · rename_i c hc
      cases h
      try simp only [hc]
      split
      · rename_i hcb; subst hcb; simpa using hk
      · rename_i hcb; simpa [hcb] using hk
    · rename_i c hc
      cases h
      try simp only [hc]
      simpa using hk
    · cases h

theorem subA_refl : SubA n e h n e h := fun _ _ _ h => h
theorem opsK_on {op : AOp} {g : Nat × Bool} (hw : wantV (some g) e = some true) (hk : opsK P (⟨d, op, none⟩ :: os) n e h K) : opsK P (⟨d, op, some g⟩ :: os) n e h K := by
  unfold opsK at hk ⊢
  exact wantK_of hw (by simpa [wantK] using hk)
theorem opsK_sub {n' : Nat} {e' : Env} {h' : Heap} (hs : SubA n e h n' e' h') {op : AOp} (hk : opsK P (⟨d, op, none⟩ :: os) n' e' h' K) : opsK P (⟨d, op, none⟩ :: os) n e h K := by
  unfold opsK at hk ⊢
  simp only [wantK] at hk ⊢
  obtain ⟨n1, e1, h1, hs1, hk⟩ := hk
  exact ⟨n1, e1, h1, fun C a w hst => hs1 C a w (hs C a w hst), hk⟩
theorem opsK_off {op : AOp} {g : Nat × Bool} (hw : wantV (some g) e = some false) (hk : opsK P os n (updO e d pvu) h K) : opsK P (⟨d, op, some g⟩ :: os) n e h K := by
  unfold opsK
  exact wantK_of hw (by simpa using hk)

theorem opsK_of' {op : AOp} {p : PV} {h' : Heap} (hd : dEval op e h n = some (p, h') ∨ fEval op e h n = some (p, h')) (hn : isCall op = false) (hk : opsK P os (bmp h' n) (updO e d p) h' K) : opsK P (⟨d, op, none⟩ :: os) n e h K := by
  unfold opsK
  exact ⟨n, e, h, subA_refl, .inl (opK_det hn hd hk)⟩
theorem bmp_none (hz : h n = none) : bmp h n = n := by simp [bmp, hz]
theorem bmp_some {b : Bx} (hz : h n = some b) : bmp h n = n + 1 := by simp [bmp, hz]
theorem opsK_of {op : AOp} {p : PV} {h' : Heap} (hd : dEval op e h n = some (p, h')) (hn : isCall op = false) (hz : h' n = none) (hk : opsK P os n (updO e d p) h' K) : opsK P (⟨d, op, none⟩ :: os) n e h K :=
  opsK_of' (.inl hd) hn (by rw [bmp_none hz]; exact hk)
theorem opsK_new {op : AOp} {p : PV} {h' : Heap} {b : Bx} (hd : dEval op e h n = some (p, h')) (hn : isCall op = false) (hz : h' n = some b) (hk : opsK P os (n + 1) (updO e d p) h' K) : opsK P (⟨d, op, none⟩ :: os) n e h K :=
  opsK_of' (.inl hd) hn (by rw [bmp_some hz]; exact hk)
theorem opsK_ofAlt {op : AOp} {p : PV} {h' : Heap} (hd : fEval op e h n = some (p, h')) (hn : isCall op = false) (hz : h' n = none) (hk : opsK P os n (updO e d p) h' K) : opsK P (⟨d, op, none⟩ :: os) n e h K :=
  opsK_of' (.inr hd) hn (by rw [bmp_none hz]; exact hk)
theorem opsK_bool {op : AOp} {b : Bool} {h' : Heap} (hd : dEval op e h n = some (.val (.bool b), h')) (hn : isCall op = false) (hz : h' n = none) (ht : b = true → opsK P os n (updO e d (.val (.bool true))) h' K) (hf : b = false → opsK P os n (updO e d (.val (.bool false))) h' K) : opsK P (⟨d, op, none⟩ :: os) n e h K := by
  cases b with
  | true => exact opsK_of hd hn hz (ht rfl)
  | false => exact opsK_of hd hn hz (hf rfl)
theorem opsK_spec {f : Operand} {args : List Operand} {g : FuncId} {caps as0 : List PV} {R : PV → Prop} (hf : ev e f = some (.fn g caps)) (ha : evs e args = some as0) (hs : Spec P g (as0 ++ caps) R) (hp : pureL (as0 ++ caps)) (hz : h n = none) (hk : ∀ r, R r → opsK P os n (updO e d r) h K) :
    opsK P (⟨d, .call f args, none⟩ :: os) n e h K := by
  unfold opsK
  exact ⟨n, e, h, subA_refl, .inl ⟨g, caps, as0, R, hf, ha, .of (.inl rfl) hp hs, fun r hr => by show opsK P os (bmp h n) (updO e d r) h K; rw [bmp_none hz]; exact hk r hr⟩⟩
theorem opsK_specLow {f : Operand} {args : List Operand} {g : FuncId} {caps as0 : List PV} {R : PV → Prop} (hf : ev e f = some (.fn g caps)) (ha : evs e args = some as0) (hs : Spec P g (lowL (as0 ++ caps)) R) (hp : pureL (lowL (as0 ++ caps))) (hz : h n = none) (hk : ∀ r, R r → opsK P os n (updO e d r) h K) :
    opsK P (⟨d, .call f args, none⟩ :: os) n e h K := by
  unfold opsK
  exact ⟨n, e, h, subA_refl, .inl ⟨g, caps, as0, R, hf, ha, .of (.inr rfl) hp hs, fun r hr => by show opsK P os (bmp h n) (updO e d r) h K; rw [bmp_none hz]; exact hk r hr⟩⟩
theorem opsK_tk {f : Operand} {args : List Operand} {g : FuncId} {caps as0 : List PV} {R : PV → Prop} (hf : ev e f = some (.fn g caps)) (ha : evs e args = some as0) (hs : Takes P g (as0 ++ caps) R) (hz : h n = none) (hk : ∀ r, R r → opsK P os n (updO e d r) h K) :
    opsK P (⟨d, .call f args, none⟩ :: os) n e h K := by
  unfold opsK
  exact ⟨n, e, h, subA_refl, .inl ⟨g, caps, as0, R, hf, ha, hs, fun r hr => by show opsK P os (bmp h n) (updO e d r) h K; rw [bmp_none hz]; exact hk r hr⟩⟩
theorem opsK_eq {f : Operand} {args : List Operand} {g : FuncId} {caps as0 args' : List PV} {v : PV} (hs : Spec P g args' (· = v)) (hf : ev e f = some (.fn g caps)) (ha : evs e args = some as0) (ha' : as0 ++ caps = args') (hp : pureL args') (hz : h n = none) (hk : opsK P os n (updO e d v) h K) :
    opsK P (⟨d, .call f args, none⟩ :: os) n e h K := by
  subst ha'
  exact opsK_spec hf ha hs hp hz fun _ hr => hr ▸ hk
theorem opsK_eqLow {f : Operand} {args : List Operand} {g : FuncId} {caps as0 args' : List PV} {v : PV} (hs : Spec P g args' (· = v)) (hf : ev e f = some (.fn g caps)) (ha : evs e args = some as0) (ha' : lowL (as0 ++ caps) = args') (hp : pureL args') (hz : h n = none) (hk : opsK P os n (updO e d v) h K) :
    opsK P (⟨d, .call f args, none⟩ :: os) n e h K := by
  subst ha'
  exact opsK_specLow hf ha hs hp hz fun _ hr => hr ▸ hk
theorem opsK_heap {f : Operand} {args : List Operand} {g : FuncId} {caps as0 : List PV} {R : Nat → PV → Heap → Prop} (hf : ev e f = some (.fn g caps)) (ha : evs e args = some as0)
    (hs : ISpec P g n (as0 ++ caps) h R) (hk : ∀ n' r h', R n' r h' → opsK P os n' (updO e d r) h' K) : opsK P (⟨d, .call f args, none⟩ :: os) n e h K := by
  unfold opsK
  exact ⟨n, e, h, subA_refl, .inr ⟨f, args, g, caps, as0, R, rfl, hf, ha, hs, hk⟩⟩
theorem opsK_done (hk : K n e h) : opsK P [] n e h K := by unfold opsK; exact hk

theorem opsK_iaddr {α : Type} {esz : Nat} {x i : Operand} {xs : List α} {g : α → List PV} {fl : Bool} {k : IntKind} {m : Int} (hx : ev e x = some (.vec (xs.map g) fl)) (hi : ev e i = some (.val (.int k m))) (j : Nat) (hm : m = (j : Int)) (hj : j < xs.length) (hl : (g xs[j]).length = esz)
    (hz : h n = none) (hk : opsK P os n (updO e d (.cp (g xs[j]))) h K) : opsK P (⟨d, .iaddr esz x i, none⟩ :: os) n e h K := by
  subst hm
  have e1 : (xs.map g).getD (j : Int).toNat [] = g xs[j] := by simp [List.getD_eq_getElem?_getD, hj]
  refine opsK_of (p := .cp (g xs[j])) (h' := h) ?_ rfl hz hk
  simp only [dEval, hx, hi, e1, hl]
  rw [if_pos ⟨by omega, by simp; omega⟩]; simp
theorem opsK_iaddrO {esz : Nat} {x i : Operand} {id : Nat} {b : Bx} {k : IntKind} {m : Int} (hx : ev e x = some (.own id)) (hi : ev e i = some (.val (.int k m))) (hb : h id = some b) (j : Nat) (hm : m = (j : Int)) (hj : j < b.elems.length) (hl : b.esz = esz)
    (hz : h n = none) (hk : opsK P os n (updO e d (.ptr id j 0)) h K) : opsK P (⟨d, .iaddr esz x i, none⟩ :: os) n e h K := by
  subst hm
  refine opsK_of (p := .ptr id j 0) (h' := h) ?_ rfl hz hk
  simp only [dEval, hx, hi, hb, hl]
  rw [if_pos ⟨by omega, by omega⟩]; simp
theorem opsK_shr {x y : Operand} {k k' : IntKind} {a b : Int} (hx : ev e x = some (.val (.int k a))) (hy : ev e y = some (.val (.int k' b))) (hb : 0 ≤ b) {v : Int} (hv : a.fdiv (2 ^ (min b.toNat k.bits)) = v) (hz : h n = none) (hk : opsK P os n (updO e d (.val (.int k v))) h K) : opsK P (⟨d, .bin .shr .num x y, none⟩ :: os) n e h K :=
  opsK_of (p := .val (.int k v)) (h' := h) (by simp [dEval, hx, hy, pbin, sbin, hb, hv]) rfl hz hk
theorem opsK_int {op : AOp} {k : IntKind} {a v : Int} {h' : Heap} (hd : dEval op e h n = some (.val (.int k a), h')) (hn : isCall op = false) (hz : h' n = none) (hv : a = v) (hk : opsK P os n (updO e d (.val (.int k v))) h' K) : opsK P (⟨d, op, none⟩ :: os) n e h K := by
  subst hv; exact opsK_of hd hn hz hk
theorem opsK_boolEq {op : AOp} {a v : Bool} {h' : Heap} (hd : dEval op e h n = some (.val (.bool a), h')) (hn : isCall op = false) (hz : h' n = none) (hv : a = v) (hk : opsK P os n (updO e d (.val (.bool v))) h' K) : opsK P (⟨d, op, none⟩ :: os) n e h K := by
  subst hv; exact opsK_of hd hn hz hk

theorem opsK_slc {α : Type} {esz : Nat} {x : Operand} {lo hi : Option Operand} {xs : List α} {g : α → List PV} {fl : Bool} (hx : ev e x = some (.vec (xs.map g) fl)) (a b : Nat) (hlo : bndAt e 0 lo = some (a : Int)) (hhi : bndAt e ((xs.map g).length : Nat) hi = some (b : Int)) (hab : a ≤ b) (hb : b ≤ xs.length) (hg : ∀ x, (g x).length = esz)
    (hz : h n = none) (hk : opsK P os n (updO e d (.vec (((xs.take b).drop a).map g) false)) h K) : opsK P (⟨d, .slc esz x lo hi none, none⟩ :: os) n e h K := by
  refine opsK_of (p := .vec (((xs.take b).drop a).map g) false) (h' := h) ?_ rfl hz hk
  simp only [dEval, hx, hlo, hhi]
  have hall : ∀ c ∈ xs.map g, c.length = esz := fun c hc => by obtain ⟨y, _, rfl⟩ := List.mem_map.1 hc; exact hg y
  rw [if_pos ⟨⟨by omega, by omega, by simp; omega⟩, hall⟩]
  simp [List.map_drop, List.map_take]

theorem E_iaddr {α : Type} {esz : Nat} {x i : Operand} {xs : List α} {g : α → List PV} {fl : Bool} {k : IntKind} {m : Int} (hx : ev e x = some (.vec (xs.map g) fl)) (hi : ev e i = some (.val (.int k m))) (j : Nat) (hm : m = (j : Int)) (hj : j < xs.length) (hl : (g xs[j]).length = esz) :
    dEval (.iaddr esz x i) e h n = some (.cp (g xs[j]), h) := by
  subst hm
  have e1 : (xs.map g).getD (j : Int).toNat [] = g xs[j] := by simp [List.getD_eq_getElem?_getD, hj]
  simp only [dEval, hx, hi, e1, hl]
  rw [if_pos ⟨by omega, by simp; omega⟩]; simp
theorem E_iaddrO {esz : Nat} {x i : Operand} {id : Nat} {b : Bx} {k : IntKind} {m : Int} (hx : ev e x = some (.own id)) (hi : ev e i = some (.val (.int k m))) (hb : h id = some b) (j : Nat) (hm : m = (j : Int)) (hj : j < b.elems.length) (hl : b.esz = esz) :
    dEval (.iaddr esz x i) e h n = some (.ptr id j 0, h) := by
  subst hm
  simp only [dEval, hx, hi, hb, hl]
  rw [if_pos ⟨by omega, by omega⟩]; simp
theorem E_shl {x y : Operand} {k k' : IntKind} {a b : Int} (hx : ev e x = some (.val (.int k a))) (hy : ev e y = some (.val (.int k' b))) (hb : 0 ≤ b) {v : Int} (hv : k.wrap (a * 2 ^ (min b.toNat k.bits)) = v) : dEval (.bin .shl .num x y) e h n = some (.val (.int k v), h) := by simp [dEval, hx, hy, pbin, sbin, hb, hv]
theorem E_int {op : AOp} {k : IntKind} {a v : Int} (hd : dEval op e h n = some (.val (.int k a), h)) (hv : a = v) : dEval op e h n = some (.val (.int k v), h) := by subst hv; exact hd
theorem E_boolEq {op : AOp} {a v : Bool} (hd : dEval op e h n = some (.val (.bool a), h)) (hv : a = v) : dEval op e h n = some (.val (.bool v), h) := by subst hv; exact hd
theorem E_mslice {z : List Value} {bytes : Nat} {l c : Operand} {a b : Nat} (hl : intAt (ev e l) = some (a : Int)) (hc : intAt (ev e c) = some (b : Int)) (hab : a ≤ b) (hb : bytes * b ≤ 281474976710656) :
    dEval (.mslice z bytes l c) e h n = some (.own n, h.upd n ⟨z.length, List.replicate a (zpv z)⟩) := by
  simp only [dEval, hl, hc]
  rw [if_pos ⟨by omega, by omega, by rw [← Int.natCast_mul]; omega⟩]; simp
theorem E_slc {α : Type} {esz : Nat} {x : Operand} {lo hi : Option Operand} {xs : List α} {g : α → List PV} {fl : Bool} (hx : ev e x = some (.vec (xs.map g) fl)) (a b : Nat) (hlo : bndAt e 0 lo = some (a : Int)) (hhi : bndAt e ((xs.map g).length : Nat) hi = some (b : Int)) (hab : a ≤ b) (hb : b ≤ xs.length) (hg : ∀ x, (g x).length = esz) :
    dEval (.slc esz x lo hi none) e h n = some (.vec (((xs.take b).drop a).map g) false, h) := by
  simp only [dEval, hx, hlo, hhi]
  have hall : ∀ c ∈ xs.map g, c.length = esz := fun c hc => by obtain ⟨y, _, rfl⟩ := List.mem_map.1 hc; exact hg y
  rw [if_pos ⟨⟨by omega, by omega, by simp; omega⟩, hall⟩]
  simp [List.map_drop, List.map_take]
theorem E_load {agg : Bool} {size : Nat} {a : Operand} {k i off : Nat} {b : Bx} {p : PV} (ha : ev e a = some (.ptr k i off)) (hb : h k = some b) (hi : i < b.elems.length) (hc : cutAt agg size off (b.elems.getD i []) = some p) : dEval (.load agg size a) e h n = some (p, h) := by
  simp only [dEval, ha, hb, if_pos hi, hc]
theorem E_store {size : Nat} {a v : Operand} {k i off : Nat} {b : Bx} {p : PV} (ha : ev e a = some (.ptr k i off)) (hv : ev e v = some p) (hb : h k = some b) (hf : p.flat = true) (hl : p.cells.length = size) (hi : i < b.elems.length) (ho : off + size ≤ b.esz) :
    dEval (.store size a v) e h n = some (pvu, h.upd k ⟨b.esz, b.elems.set i (setAt (b.elems.getD i []) off p.cells)⟩) := by
  subst hl
  simp only [dEval, ha, hv, hb]
  rw [if_pos (by simp [hf, hi, ho])]
theorem E_append {z : List Value} {bytes : Nat} {s x : Operand} {k : Nat} {m : List (List PV)} {fl : Bool} {b : Bx} (hs : ev e s = some (.own k)) (hx : ev e x = some (.vec m fl)) (hb : h k = some b) (hm : ∀ c ∈ m, c.length = z.length) (he : b.esz = z.length) (hby : (b.elems.length + m.length) * bytes ≤ 140737488355328) :
    dEval (.append z bytes s x) e h n = some (.own n, (h.del k).upd n ⟨b.esz, b.elems ++ m⟩) := by
  simp only [dEval, hs, hx, hb]
  rw [if_pos ⟨hm, he, hby⟩]; rfl
theorem E_copy {esz : Nat} {d s : Operand} {k : Nat} {m : List (List PV)} {fl : Bool} {b : Bx} (hd : ev e d = some (.own k)) (hs : ev e s = some (.vec m fl)) (hb : h k = some b) (hm : ∀ c ∈ m, c.length = esz) (he : b.esz = esz) :
    dEval (.copy esz d s) e h n = some (.val (.int .i64 (min m.length b.elems.length : Nat)), h.upd k ⟨b.esz, m.take b.elems.length ++ b.elems.drop m.length⟩) := by
  simp only [dEval, hd, hs, hb]
  rw [if_pos ⟨hm, he⟩]
theorem E_appendF {z : List Value} {bytes : Nat} {s x : Operand} {l m : List (List PV)} {fl : Bool} (hs : ev e s = some (.vec l true)) (hx : ev e x = some (.vec m fl)) (hl : ∀ c ∈ l, c.length = z.length) (hm : ∀ c ∈ m, c.length = z.length) (hby : (l.length + m.length) * bytes ≤ 140737488355328) :
    fEval (.append z bytes s x) e h n = some (.vec (l ++ m) false, h) := by
  simp only [fEval, hs, hx]
  rw [if_pos ⟨hl, hm, hby⟩]
theorem subA_ownNil {k : Nat} (hk : e k = some (.vec [] true)) (esz : Nat) (hp : 0 < esz) : SubA n e h (n + 1) (e.upd k (.own n)) (h.upd n ⟨esz, []⟩) := fun _ => sub_ownNil hk esz hp
theorem subA_freeze {k id : Nat} {b : Bx} (hk : e k = some (.own id)) (hb : h id = some b) (hp : pureLL b.elems) : SubA n e h n (e.upd k (.vec b.elems false)) (h.del id) := fun _ => sub_freeze hk hb hp
theorem subA_freezeBoxI {k id : Nat} {esz : Nat} {l : List PV} (hk : e k = some (.ptr id 0 0)) (hb : h id = some ⟨esz, [l]⟩) : SubA n e h n (e.upd k (.cp l)) (h.del id) := fun _ => sub_freezeBox hk hb
theorem subA_freezeBox {k id : Nat} {esz : Nat} {l : List PV} (hk : e k = some (.ptr id 0 0)) (hb : h id = some ⟨esz, [l]⟩) (hp : pureL l) : SubA n e h n (e.upd k (.cp l)) (h.del id) := fun _ => sub_freezeBox hk hb

theorem dK_of {z : Rsv} {i mask : Nat} {op : AOp} {iso : Nat} {xs : List DItem} {K : Env → Heap → Prop} {p : PV} {h' : Heap} (hd : dEval op e h (n + i) = some (p, h')) (ha : accOk z op e n i mask iso = true) (hn : isCall op = false) (hk : dK P z n xs (updO e d p) h' K) : dK P z n (⟨i, ⟨d, op, none⟩, mask, iso, false⟩ :: xs) e h K := dK_det hd ha hn hk
theorem dK_ofAlt {z : Rsv} {i mask : Nat} {op : AOp} {iso : Nat} {xs : List DItem} {K : Env → Heap → Prop} {p : PV} {h' : Heap} (hd : fEval op e h (n + i) = some (p, h')) (ha : accOk z op e n i mask iso = true) (hn : isCall op = false) (hk : dK P z n xs (updO e d p) h' K) : dK P z n (⟨i, ⟨d, op, none⟩, mask, iso, true⟩ :: xs) e h K := dK_det hd ha hn hk
theorem dK_bool {z : Rsv} {i mask : Nat} {op : AOp} {iso : Nat} {xs : List DItem} {K : Env → Heap → Prop} {b : Bool} {h' : Heap} (hd : dEval op e h (n + i) = some (.val (.bool b), h')) (ha : accOk z op e n i mask iso = true) (hn : isCall op = false) (ht : b = true → dK P z n xs (updO e d (.val (.bool true))) h' K) (hf : b = false → dK P z n xs (updO e d (.val (.bool false))) h' K) : dK P z n (⟨i, ⟨d, op, none⟩, mask, iso, false⟩ :: xs) e h K := by
  cases b with
  | true => exact dK_of hd ha hn (ht rfl)
  | false => exact dK_of hd ha hn (hf rfl)
theorem dK_on {z : Rsv} {i mask : Nat} {op : AOp} {iso : Nat} {alt : Bool} {g : Nat × Bool} {xs : List DItem} {K : Env → Heap → Prop} (hw : wantV (some g) e = some true) (hk : dK P z n (⟨i, ⟨d, op, none⟩, mask, iso, alt⟩ :: xs) e h K) : dK P z n (⟨i, ⟨d, op, some g⟩, mask, iso, alt⟩ :: xs) e h K := by
  obtain ⟨s, b⟩ := g
  unfold wantV at hw
  simp only at hw
  split at hw
  · rename_i c hc
    exact dK_guard (x := ⟨i, ⟨d, op, some (s, b)⟩, mask, iso, alt⟩) rfl hc (fun _ => hk) fun hne => absurd (by simpa using hw) hne
  · cases hw
  · cases hw
theorem dK_off {z : Rsv} {i mask : Nat} {op : AOp} {iso : Nat} {alt : Bool} {g : Nat × Bool} {xs : List DItem} {K : Env → Heap → Prop} (hw : ∃ c, e g.1 = some (.val (.bool c)) ∧ c ≠ g.2) (hk : dK P z n xs (updO e d pvu) h K) : dK P z n (⟨i, ⟨d, op, some g⟩, mask, iso, alt⟩ :: xs) e h K := by
  obtain ⟨s, b⟩ := g
  obtain ⟨c, hc, hne⟩ := hw
  exact dK_guard (x := ⟨i, ⟨d, op, some (s, b)⟩, mask, iso, alt⟩) rfl hc (fun h => absurd h hne) fun _ => hk
theorem dK_eq {z : Rsv} {i mask : Nat} {f : Operand} {args : List Operand} {iso : Nat} {alt : Bool} {xs : List DItem} {K : Env → Heap → Prop} {g : FuncId} {caps as0 args' : List PV} {v : PV} (hs : Spec P g args' (· = v)) (hf : ev e f = some (.fn g caps)) (ha : evs e args = some as0) (ha' : as0 ++ caps = args') (hp : pureL args') (hk : dK P z n xs (updO e d v) h K) :
    dK P z n (⟨i, ⟨d, .call f args, none⟩, mask, iso, alt⟩ :: xs) e h K := by
  subst ha'
  exact dK_call hf ha (.inl rfl) hs hp fun _ hr => hr ▸ hk
theorem dK_done {z : Rsv} {K : Env → Heap → Prop} (hk : K e h) : dK P z n [] e h K := dK_nil hk

theorem aw_condT {c : Operand} {x y : ACode} (hc : ev e c = some (.val (.bool true))) (hk : aw P C x Q n e h) : aw P C (.cond c x y) Q n e h := aw_cond hc (fun _ => hk) fun h => by cases h
theorem aw_condF {c : Operand} {x y : ACode} (hc : ev e c = some (.val (.bool false))) (hk : aw P C y Q n e h) : aw P C (.cond c x y) Q n e h := aw_cond hc (fun h => by cases h) fun _ => hk

theorem ret_ok {rs : List ARes} {R : PV → Prop} {r : PV} (hr : retAll rs e h = some r) (hp : r.pure) (hR : R r) : ∃ r0 r, retAll rs e h = some r0 ∧ LoP r0 r ∧ r.pure ∧ R r := ⟨r, r, hr, .inl rfl, hp, hR⟩
theorem ret_low {rs : List ARes} {R : PV → Prop} {r : PV} (hr : retAll rs e h = some r) (hp : r.low.pure) (hR : R r.low) : ∃ r0 r, retAll rs e h = some r0 ∧ LoP r0 r ∧ r.pure ∧ R r := ⟨r, r.low, hr, .inr rfl, hp, hR⟩
def EnvIn (e : Env) : List (Nat × PV) → Prop
  | [] => True
  | (k, p) :: r => e k = some p ∧ EnvIn e r
theorem EnvIn.some {L : List (Nat × PV)} (he : EnvIn e L) {k : Nat} {p : PV} (hk : envL L k = some p) : e k = some p := by
  induction L with
  | nil => cases hk
  | cons q r ih =>
    obtain ⟨k', p'⟩ := q
    obtain ⟨h1, h2⟩ := he
    simp only [envL] at hk
    by_cases hkk : k = k'
    · subst hkk; rw [Env.upd_same] at hk; cases hk; exact h1
    · rw [Env.upd_ne _ _ hkk] at hk; exact ih h2 hk
theorem sub_env {L : List (Nat × PV)} (he : EnvIn e L) : Sub C n e h n (envL L) h := by
  rintro a w ⟨F, φ, s⟩
  exact ⟨F, φ, { s with env := fun k p hk => s.env k p (he.some hk) }⟩
theorem aw_loopE {X : Type} (I : X → Prop) (μ : X → Nat) (L : X → List (Nat × PV)) {body : ACode} (x0 : X) (h0 : I x0) (hL : EnvIn e (L x0))
    (round : ∀ x, I x → aw P C body (thenQ (fun n' e' h' => ∃ x', I x' ∧ μ x' < μ x ∧ n' = n ∧ h' = h ∧ EnvIn e' (L x')) Q) n (envL (L x)) h) : aw P C (.loop body) Q n e h :=
  aw_loop I μ (fun _ => n) (fun x => envL (L x)) (fun _ => h) x0 h0 (sub_env hL) fun x hx => aw_mono (round x hx) fun ex n e h hq => by
    cases ex with
    | normal => obtain ⟨x', h1, h2, rfl, rfl, h4⟩ := hq; exact ⟨x', h1, h2, sub_env h4⟩
    | _ => exact hq

def EnvR (e : Env) (m : Nat) : List (Nat × PV) → Prop
  | [] => True
  | (k, p) :: r => (e k = some p ∧ p.inn (· < m)) ∧ EnvR e m r
def HeapR (h : Heap) (m : Nat) : List (Nat × Bx) → Prop
  | [] => True
  | (k, b) :: r => (k < m ∧ h k = some b ∧ innLL (· < m) b.elems) ∧ HeapR h m r
theorem EnvR.some {m : Nat} {L : List (Nat × PV)} (he : EnvR e m L) {k : Nat} {p : PV} (hk : envL L k = some p) : e k = some p ∧ p.inn (· < m) := by
  induction L with
  | nil => cases hk
  | cons q r ih =>
    obtain ⟨k', p'⟩ := q
    obtain ⟨h1, h2⟩ := he
    simp only [envL] at hk
    by_cases hkk : k = k'
    · subst hkk; rw [Env.upd_same] at hk; cases hk; exact h1
    · rw [Env.upd_ne _ _ hkk] at hk; exact ih h2 hk
theorem HeapR.some {m : Nat} {L : List (Nat × Bx)} (he : HeapR h m L) {k : Nat} {p : Bx} (hk : heapL L k = some p) : k < m ∧ h k = some p ∧ innLL (· < m) p.elems := by
  induction L with
  | nil => cases hk
  | cons q r ih =>
    obtain ⟨k', p'⟩ := q
    obtain ⟨h1, h2⟩ := he
    simp only [heapL] at hk
    by_cases hkk : k = k'
    · subst hkk; rw [Heap.upd_same] at hk; cases hk; exact h1
    · rw [Heap.upd_ne _ _ hkk] at hk; exact ih h2 hk
theorem sub_keep {m n' : Nat} (hdom : C.dom m) (hm : m ≤ n') {L : List (Nat × PV)} {HL : List (Nat × Bx)} (he : EnvR e n' L) (hh : HeapR h n' HL) : Sub C n e h n' (envL L) (heapL HL) := by
  rintro a w ⟨F, φ, s⟩
  let φ' : Locs := fun i => if i < n' then φ i else none
  have hφ : ∀ i x, i < n' → φ i = some x → φ' i = some x := fun i x hi hx => by simp only [φ', hi, if_true]; exact hx
  refine ⟨F, φ', { nt := s.nt, glob := s.glob, marks := s.marks, loc0 := fun i x hx => ?_, free := fun i hi => ?_, env := fun k p hp => ?_, froz := s.froz, ext := s.ext, old := s.old, os := s.os, tape := s.tape, output := s.output, size := s.size, kept := s.kept, live := fun i b hb => ?_, sep := ?_ }⟩
  · have : ¬ i < n' := by omega
    simp only [φ', this, if_false]
  · obtain ⟨h0, hr⟩ := he.some hp
    exact ⟨(s.env k p h0).1, (s.env k p h0).2.inn hφ hr⟩
  · by_cases him : i < m
    · exact hφ i x (by omega) (s.loc0 i x hx)
    · rw [hdom i (by omega)] at hx; cases hx
  · obtain ⟨hi, h0, hr⟩ := hh.some hb
    obtain ⟨loc, h1, h2, h3⟩ := s.live _ b h0
    exact ⟨loc, hφ i loc hi h1, h2.inn hφ hr, h3⟩
  · intro i j bi bj li lj k hi hj hli hlj hki hkj
    obtain ⟨hin, h0, _⟩ := hh.some hi
    obtain ⟨hjn, g0, _⟩ := hh.some hj
    have hli' : φ i = some li := by simpa only [φ', show i < n' from hin, if_true] using hli
    have hlj' : φ j = some lj := by simpa only [φ', show j < n' from hjn, if_true] using hlj
    exact s.sep _ _ bi bj li lj k h0 g0 hli' hlj' hki hkj
theorem aw_loopH {X : Type} {m : Nat} (hdom : C.dom m) (I : X → Prop) (μ : X → Nat) (N : Nat) (L : X → List (Nat × PV)) (HL : X → List (Nat × Bx)) {body : ACode} (hm : m ≤ N) (x0 : X) (h0 : I x0) (hL : EnvR e N (L x0)) (hH : HeapR h N (HL x0))
    (round : ∀ x, I x → aw P C body (thenQ (fun n' e' h' => ∃ x', I x' ∧ μ x' < μ x ∧ EnvR e' N (L x') ∧ HeapR h' N (HL x')) Q) N (envL (L x)) (heapL (HL x))) : aw P C (.loop body) Q n e h :=
  aw_loop I μ (fun _ => N) (fun x => envL (L x)) (fun x => heapL (HL x)) x0 h0 (sub_keep hdom hm hL hH) fun x hx => aw_mono (round x hx) fun ex n e h hq => by
    cases ex with
    | normal => obtain ⟨x', h1, h2, h3, h4⟩ := hq; exact ⟨x', h1, h2, sub_keep hdom hm h3 h4⟩
    | _ => exact hq

def EnvQ (ρ : Nat → Nat) (e : Env) (m : Nat) : List (Nat × PV) → Prop
  | [] => True
  | (k, p) :: r => (∃ p0, e k = some p0 ∧ RenP ρ (· < m) p0 p) ∧ EnvQ ρ e m r
def HeapQ (ρ : Nat → Nat) (h : Heap) (m : Nat) : List (Nat × Bx) → Prop
  | [] => True
  | (k, b) :: r => (k < m ∧ ∃ b0, h (ρ k) = some b0 ∧ RenB ρ (· < m) b0 b) ∧ HeapQ ρ h m r
theorem EnvQ.mem {ρ : Nat → Nat} {m : Nat} : ∀ {L : List (Nat × PV)}, EnvQ ρ e m L → ∀ q ∈ L, ∃ p0, e q.1 = some p0 ∧ RenP ρ (· < m) p0 q.2
  | [], _, q, hq => by cases hq
  | (k, p) :: r, h, q, hq => by
    rcases List.mem_cons.1 hq with rfl | hq
    · exact h.1
    · exact EnvQ.mem h.2 q hq
theorem HeapQ.mem {ρ : Nat → Nat} {m : Nat} : ∀ {L : List (Nat × Bx)}, HeapQ ρ h m L → ∀ q ∈ L, q.1 < m ∧ ∃ b0, h (ρ q.1) = some b0 ∧ RenB ρ (· < m) b0 q.2
  | [], _, q, hq => by cases hq
  | (k, p) :: r, h, q, hq => by
    rcases List.mem_cons.1 hq with rfl | hq
    · exact h.1
    · exact HeapQ.mem h.2 q hq
def InjOn (ρ : Nat → Nat) (HL : List (Nat × Bx)) : Prop := ∀ q ∈ HL, ∀ q' ∈ HL, ρ q.1 = ρ q'.1 → q.1 = q'.1
theorem aw_loopR {X : Type} {m : Nat} (hdom : C.dom m) (I : X → Prop) (μ : X → Nat) (N : Nat) (L : X → List (Nat × PV)) (HL : X → List (Nat × Bx)) {body : ACode} (hm : m ≤ N) (x0 : X) (h0 : I x0) (ρ0 : Nat → Nat) (hρ0 : ∀ i, i < m → ρ0 i = i) (hi0 : InjOn ρ0 (HL x0)) (hL : EnvQ ρ0 e N (L x0)) (hH : HeapQ ρ0 h N (HL x0))
    (round : ∀ x, I x → aw P C body (thenQ (fun n' e' h' => ∃ x' ρ, I x' ∧ μ x' < μ x ∧ (∀ i, i < m → ρ i = i) ∧ InjOn ρ (HL x') ∧ EnvQ ρ e' N (L x') ∧ HeapQ ρ h' N (HL x')) Q) N (envL (L x)) (heapL (HL x))) : aw P C (.loop body) Q n e h :=
  aw_loop I μ (fun _ => N) (fun x => envL (L x)) (fun x => heapL (HL x)) x0 h0 (sub_ren ρ0 hL.mem hH.mem hi0 hdom hm hρ0) fun x hx => aw_mono (round x hx) fun ex n e h hq => by
    cases ex with
    | normal => obtain ⟨x', ρ, h1, h2, h3, h4, h5, h6⟩ := hq; exact ⟨x', h1, h2, sub_ren ρ h5.mem h6.mem h4 hdom hm h3⟩
    | _ => exact hq
theorem aw_keep {m n' : Nat} (hdom : C.dom m) (L : List (Nat × PV)) (HL : List (Nat × Bx)) (hm : m ≤ n') (he : EnvR e n' L) (hh : HeapR h n' HL) {ac : ACode} (hk : aw P C ac Q n' (envL L) (heapL HL)) : aw P C ac Q n e h := aw_sub (sub_keep hdom hm he hh) hk
theorem aw_cut {m : Nat} (hdom : C.dom m) (A : Prop) (N : Nat) (L : List (Nat × PV)) (HL : List (Nat × Bx)) {x y : ACode} (hm : m ≤ N) (h1 : aw P C x (thenQ (fun n e h => A ∧ EnvR e N L ∧ HeapR h N HL) Q) n e h) (h2 : A → aw P C y Q N (envL L) (heapL HL)) : aw P C (.seq x y) Q n e h :=
  aw_seq (aw_mono h1 fun ex n e h hq => by
    cases ex with
    | normal => obtain ⟨ha, he, hh⟩ := hq; exact aw_keep hdom L HL hm he hh (h2 ha)
    | _ => exact hq)

def roundsQ (P : Program) (C : Ctx) (body : ACode) (Q : Exit → Nat → Env → Heap → Prop) : Nat → Nat → Env → Heap → Prop
  | 0 => fun n e h => aw P C body (thenQ (fun _ _ _ => False) Q) n e h
  | m + 1 => fun n e h => aw P C body (thenQ (roundsQ P C body Q m) Q) n e h
theorem roundsQ_sound {body : ACode} : ∀ (m : Nat) {n : Nat} {e : Env} {h : Heap}, roundsQ P C body Q m n e h → P.follows .mixedOrders = true → ∀ (FN : Fence) (k : Nat), FenceOk FN k ∧ LoopOk FN C → ∀ c, cCode P C.nt c = some body → ∀ a w, St C (fun i => n ≤ i) e h a w → Code.roundsIn FN k P c (PostA C Q) (m + 1) a w
  | 0, n, e, h, hk, hm, FN, k, hok, c, hc, a, w, hs => by
    unfold roundsQ at hk
    unfold aw at hk
    refine wpIn_mono (hk hm FN k hok c hc a w hs) fun x a w hp => ?_
    obtain ⟨n, e, h, hQ, hS⟩ := hp
    cases x with
    | normal => exact hQ.elim
    | _ => exact ⟨n, e, h, hQ, hS⟩
  | m + 1, n, e, h, hk, hm, FN, k, hok, c, hc, a, w, hs => by
    unfold roundsQ at hk
    unfold aw at hk
    refine wpIn_mono (hk hm FN k hok c hc a w hs) fun x a w hp => ?_
    obtain ⟨n, e, h, hQ, hS⟩ := hp
    cases x with
    | normal => exact roundsQ_sound m hQ hm FN k hok c hc a w hS
    | _ => exact ⟨n, e, h, hQ, hS⟩
theorem aw_rounds {body : ACode} (m : Nat) (hk : roundsQ P C body Q m n e h) : aw P C (.loop body) Q n e h := by
  unfold aw
  intro hm FN k hok c hc a w hs
  have : ∃ c1, c = .loop c1 ∧ cCode P C.nt c1 = some body := by
    unfold cCode at hc
    split at hc <;> first
      | (split at hc <;> first | (simp at hc; subst hc; exact ⟨_, rfl, by assumption⟩) | (simp at hc; done) | ((repeat' (split at hc)) <;> simp at hc; done))
      | (simp at hc; done)
  obtain ⟨c1, rfl, h1⟩ := this
  exact wpIn_loop_rounds (m + 1) (roundsQ_sound m hk hm FN k hok c1 h1 a w hs)
end
end Go.Proofs.YtifohjijhhjdkaaDoor

namespace Go.Proofs.YtifohjijhhjdkaaDoor
set_option maxRecDepth 100000
theorem mixed : Tryd.prog.follows .mixedOrders = true := by kernel_rfl

def ir9 : ACode :=
  (.seq (.region [
    ⟨(some 4), .mov (.const (.bool false)), none⟩])
  (.seq (.seq (.region [
    ⟨(some 11), .call (.func 10) [], none⟩, 
    ⟨(some 12), .una .not (.tmp 11), none⟩])
  (.cond (.tmp 12)
    (.seq (.region [
      ⟨(some 4), .mov (.const (.bool false)), none⟩])
    .ret)
    .skip))
  (.seq (.region [
    ⟨(some 14), .mov (.tmp 0), none⟩, 
    ⟨(some 15), .call (.func 17) [(.tmp 14)], none⟩, 
    ⟨(some 13), .mov (.tmp 15), none⟩, 
    ⟨(some 16), .extract (.tmp 13) 0, none⟩, 
    ⟨(some 17), .extract (.tmp 13) 1, none⟩, 
    ⟨(some 5), .alloc [(.int .u8 0), (.int .i64 0), (.slice none 0 0), (.slice none 0 0)], none⟩, 
    ⟨(some 6), .alloc [(.int .i64 0), (.int .i64 0), (.slice none 0 0), (.slice none 0 0)], none⟩, 
    ⟨none, .store 4 (.tmp 5) (.tmp 16), none⟩, 
    ⟨none, .store 4 (.tmp 6) (.tmp 17), none⟩])
  (.seq (.region [
    ⟨(some 19), .load true 4 (.tmp 5), none⟩, 
    ⟨(some 20), .call (.func 18) [(.tmp 19)], none⟩, 
    ⟨(some 18), .mov (.tmp 20), none⟩, 
    ⟨(some 21), .extract (.tmp 18) 0, none⟩, 
    ⟨(some 22), .extract (.tmp 18) 1, none⟩, 
    ⟨(some 7), .mov (.tmp 21), none⟩, 
    ⟨(some 8), .mov (.tmp 22), none⟩])
  (.seq (.seq (.region [
    ⟨(some 23), .mov (.tmp 8), none⟩, 
    ⟨(some 24), .bin .neq .num (.tmp 23) (.const (.int .i64 0)), none⟩])
  (.cond (.tmp 24)
    (.seq (.region [
      ⟨(some 4), .mov (.const (.bool false)), none⟩])
    .ret)
    .skip))
  (.seq (.seq (.region [
    ⟨(some 25), .mov (.tmp 1), none⟩, 
    ⟨(some 26), .call (.func 40) [(.tmp 25)], none⟩, 
    ⟨(some 27), .mov (.tmp 1), none⟩, 
    ⟨(some 28), .bin .and .num (.tmp 27) (.const (.int .u64 126)), none⟩, 
    ⟨(some 29), .call (.func 40) [(.tmp 28)], none⟩, 
    ⟨(some 30), .mov (.tmp 1), none⟩, 
    ⟨(some 31), .bin .shr .num (.tmp 30) (.const (.int .u64 8)), none⟩, 
    ⟨(some 32), .bin .and .num (.tmp 31) (.const (.int .u64 126)), none⟩, 
    ⟨(some 33), .call (.func 40) [(.tmp 32)], none⟩, 
    ⟨(some 34), .mov (.tmp 1), none⟩, 
    ⟨(some 35), .bin .shr .num (.tmp 34) (.const (.int .u64 16)), none⟩, 
    ⟨(some 36), .bin .and .num (.tmp 35) (.const (.int .u64 126)), none⟩, 
    ⟨(some 37), .call (.func 40) [(.tmp 36)], none⟩, 
    ⟨(some 38), .bslice [(.slice none 0 0)] 4 [(0, (.tmp 26)), (1, (.tmp 29)), (2, (.tmp 33)), (3, (.tmp 37))], none⟩, 
    ⟨(some 39), .len (.tmp 38), none⟩, 
    ⟨(some 40), .mov (.const (.int .i64 0)), none⟩])
  (.block 0
    (.loop
      (.seq (.region [
        ⟨(some 41), .bin .lss .num (.tmp 40) (.tmp 39), none⟩])
      (.seq (.cond (.tmp 41)
        .skip
        (.exit 0))
      (.seq (.block 1
        (.seq (.region [
          ⟨(some 42), .iaddr 1 (.tmp 38) (.tmp 40), none⟩, 
          ⟨(some 43), .load true 1 (.tmp 42), none⟩, 
          ⟨(some 10), .alloc [(.slice none 0 0)], none⟩, 
          ⟨none, .store 1 (.tmp 10) (.tmp 43), none⟩])
        (.seq (.draw [
          ⟨0, ⟨(some 44), .load true 4 (.tmp 5), none⟩, 0, 0, false⟩, 
          ⟨1, ⟨(some 45), .load true 1 (.tmp 10), none⟩, 0, 0, false⟩, 
          ⟨2, ⟨(some 46), .call (.func 41) [(.tmp 44), (.tmp 45), (.const (.slice none 0 0))], none⟩, 3, 0, false⟩, 
          ⟨3, ⟨(some 47), .mov (.tmp 7), none⟩, 0, 0, false⟩, 
          ⟨4, ⟨(some 48), .load true 1 (.tmp 10), none⟩, 0, 0, false⟩, 
          ⟨5, ⟨(some 49), .call (.func 42) [(.tmp 47), (.tmp 48)], none⟩, 31, 1, false⟩, 
          ⟨6, ⟨(some 50), .bin .eql .bool (.tmp 46) (.tmp 49), none⟩, 63, 1, false⟩])
        (.cond (.tmp 50)
          (.seq (.region [
            ⟨(some 4), .mov (.const (.bool false)), none⟩])
          .ret)
          .skip))))
      (.region [
        ⟨(some 51), .bin .add .num (.tmp 40) (.const (.int .i64 1)), none⟩, 
        ⟨(some 40), .mov (.tmp 51), none⟩])))))))
  (.seq (.region [
    ⟨(some 4), .mov (.const (.bool true)), none⟩])
  .ret)))))))
theorem ok9 : FnOk Tryd.prog 9 52 ir9 [.tmp 4] := fnOk_of mixed Tryd.func9 (by kernel_rfl) Tryd.ntmps9 (by kernel_rfl) (by kernel_rfl)

def ir10 : ACode :=
  (.seq (.region [
    ⟨(some 0), .mov (.const (.bool false)), none⟩])
  (.seq (.region [
    ⟨(some 11), .bslice [(.int .i64 0)] 3 [(0, (.const (.int .i64 1))), (1, (.const (.int .i64 2))), (2, (.const (.int .i64 3)))], none⟩, 
    ⟨(some 12), .build [(.int .u8 0), (.int .i64 0), (.slice none 0 0), (.slice none 0 0)] [(0, 1, (.const (.int .u8 5))), (2, 1, (.tmp 11))], none⟩, 
    ⟨(some 13), .build [(.int .u8 0), (.int .i64 0), (.slice none 0 0), (.slice none 0 0)] [(0, 1, (.const (.int .u8 1))), (1, 1, (.const (.int .i64 1)))], none⟩, 
    ⟨(some 14), .bslice [(.int .u8 0), (.int .i64 0), (.slice none 0 0), (.slice none 0 0)] 2 [(0, (.tmp 12)), (1, (.tmp 13))], none⟩, 
    ⟨(some 15), .build [(.int .u8 0), (.int .i64 0), (.slice none 0 0), (.slice none 0 0)] [(0, 1, (.const (.int .u8 11))), (3, 1, (.tmp 14))], none⟩, 
    ⟨(some 1), .alloc [(.int .u8 0), (.int .i64 0), (.slice none 0 0), (.slice none 0 0)], none⟩, 
    ⟨none, .store 4 (.tmp 1) (.tmp 15), none⟩])
  (.seq (.region [
    ⟨(some 17), .load true 4 (.tmp 1), none⟩, 
    ⟨(some 18), .call (.func 18) [(.tmp 17)], none⟩, 
    ⟨(some 16), .mov (.tmp 18), none⟩, 
    ⟨(some 19), .extract (.tmp 16) 0, none⟩, 
    ⟨(some 20), .extract (.tmp 16) 1, none⟩, 
    ⟨(some 2), .mov (.tmp 19), none⟩, 
    ⟨(some 3), .mov (.tmp 20), none⟩])
  (.seq (.region [
    ⟨(some 21), .bslice [(.int .i64 0)] 1 [(0, (.const (.int .i64 1)))], none⟩, 
    ⟨(some 22), .call (.func 20) [(.tmp 21)], none⟩, 
    ⟨(some 23), .build [(.slice none 0 0), (.slice none 0 0)] [(0, 1, (.tmp 22))], none⟩, 
    ⟨(some 4), .alloc [(.slice none 0 0), (.slice none 0 0)], none⟩, 
    ⟨none, .store 2 (.tmp 4) (.tmp 23), none⟩])
  (.seq (.region [
    ⟨(some 25), .bslice [(.int .i64 0)] 2 [(0, (.const (.int .i64 1))), (1, (.const (.int .i64 2)))], none⟩, 
    ⟨(some 26), .call (.func 20) [(.tmp 25)], none⟩, 
    ⟨(some 27), .build [(.slice none 0 0), (.slice none 0 0)] [(0, 1, (.tmp 26))], none⟩, 
    ⟨(some 28), .bslice [(.int .i64 0)] 1 [(0, (.const (.int .i64 1)))], none⟩, 
    ⟨(some 29), .call (.func 20) [(.tmp 28)], none⟩, 
    ⟨(some 30), .bslice [(.int .i64 0)] 1 [(0, (.const (.int .i64 2)))], none⟩, 
    ⟨(some 31), .call (.func 20) [(.tmp 30)], none⟩, 
    ⟨(some 32), .build [(.slice none 0 0), (.slice none 0 0)] [(0, 1, (.tmp 29)), (1, 1, (.tmp 31))], none⟩, 
    ⟨(some 33), .bslice [(.slice none 0 0), (.slice none 0 0)] 2 [(0, (.tmp 27)), (1, (.tmp 32))], none⟩, 
    ⟨(some 34), .call (.func 13) [(.tmp 33)], none⟩, 
    ⟨(some 24), .mov (.tmp 34), none⟩, 
    ⟨(some 35), .extract (.tmp 24) 0, none⟩, 
    ⟨(some 36), .extract (.tmp 24) 1, none⟩, 
    ⟨(some 5), .mov (.tmp 35), none⟩, 
    ⟨(some 6), .mov (.tmp 36), none⟩])
  (.seq (.draw [
    ⟨0, ⟨(some 38), .load true 2 (.tmp 4), none⟩, 0, 1, false⟩, 
    ⟨1, ⟨(some 39), .bslice [(.int .i64 0)] 1 [(0, (.const (.int .i64 1)))], none⟩, 0, 0, false⟩, 
    ⟨2, ⟨(some 40), .call (.func 20) [(.tmp 39)], none⟩, 2, 0, false⟩, 
    ⟨3, ⟨(some 41), .build [(.slice none 0 0), (.slice none 0 0)] [(1, 1, (.tmp 40))], none⟩, 6, 0, false⟩, 
    ⟨4, ⟨(some 42), .bslice [(.slice none 0 0), (.slice none 0 0)] 2 [(0, (.tmp 38)), (1, (.tmp 41))], none⟩, 15, 1, false⟩, 
    ⟨5, ⟨(some 43), .call (.func 13) [(.tmp 42)], none⟩, 31, 1, false⟩, 
    ⟨6, ⟨(some 37), .mov (.tmp 43), none⟩, 63, 1, false⟩, 
    ⟨7, ⟨(some 44), .extract (.tmp 37) 0, none⟩, 127, 1, false⟩, 
    ⟨8, ⟨(some 45), .extract (.tmp 37) 1, none⟩, 127, 1, false⟩, 
    ⟨9, ⟨(some 7), .mov (.tmp 44), none⟩, 255, 1, false⟩, 
    ⟨10, ⟨(some 8), .mov (.tmp 45), none⟩, 1023, 1, false⟩])
  (.seq (.region [
    ⟨(some 47), .bslice [(.int .i64 0)] 2 [(0, (.const (.int .i64 1))), (1, (.const (.int .i64 2)))], none⟩, 
    ⟨(some 48), .call (.func 20) [(.tmp 47)], none⟩, 
    ⟨(some 49), .build [(.slice none 0 0), (.slice none 0 0)] [(0, 1, (.tmp 48))], none⟩, 
    ⟨(some 50), .bslice [(.int .i64 0)] 1 [(0, (.const (.int .i64 3)))], none⟩, 
    ⟨(some 51), .call (.func 20) [(.tmp 50)], none⟩, 
    ⟨(some 52), .bslice [(.int .i64 0)] 1 [(0, (.const (.int .i64 1)))], none⟩, 
    ⟨(some 53), .call (.func 20) [(.tmp 52)], none⟩, 
    ⟨(some 54), .build [(.slice none 0 0), (.slice none 0 0)] [(0, 1, (.tmp 51)), (1, 1, (.tmp 53))], none⟩, 
    ⟨(some 55), .bslice [(.slice none 0 0), (.slice none 0 0)] 2 [(0, (.tmp 49)), (1, (.tmp 54))], none⟩, 
    ⟨(some 56), .call (.func 13) [(.tmp 55)], none⟩, 
    ⟨(some 46), .mov (.tmp 56), none⟩, 
    ⟨(some 57), .extract (.tmp 46) 0, none⟩, 
    ⟨(some 58), .extract (.tmp 46) 1, none⟩, 
    ⟨(some 9), .mov (.tmp 57), none⟩, 
    ⟨(some 10), .mov (.tmp 58), none⟩])
  (.seq (.region [
    ⟨(some 59), .mov (.tmp 3), none⟩, 
    ⟨(some 60), .mov (.tmp 6), none⟩, 
    ⟨(some 61), .bin .add .num (.tmp 59) (.tmp 60), none⟩, 
    ⟨(some 62), .mov (.tmp 8), none⟩, 
    ⟨(some 63), .bin .add .num (.tmp 61) (.tmp 62), none⟩, 
    ⟨(some 64), .mov (.tmp 10), none⟩, 
    ⟨(some 65), .bin .add .num (.tmp 63) (.tmp 64), none⟩, 
    ⟨(some 66), .bin .eql .num (.tmp 65) (.const (.int .i64 0)), none⟩, 
    ⟨(some 67), .mov (.tmp 66), none⟩, 
    ⟨(some 68), .mov (.tmp 2), (some (67, true))⟩, 
    ⟨(some 69), .build [(.int .u64 0), (.int .u64 0)] [(0, 1, (.const (.int .u64 6)))], (some (67, true))⟩, 
    ⟨(some 70), .build [(.int .u64 0), (.int .u64 0)] [(0, 1, (.const (.int .u64 10)))], (some (67, true))⟩, 
    ⟨(some 71), .build [(.int .u64 0), (.int .u64 0)] [(0, 1, (.const (.int .u64 12)))], (some (67, true))⟩, 
    ⟨(some 72), .bslice [(.int .u64 0), (.int .u64 0)] 3 [(0, (.tmp 69)), (1, (.tmp 70)), (2, (.tmp 71))], (some (67, true))⟩, 
    ⟨(some 73), .call (.func 16) [(.tmp 68), (.tmp 72)], (some (67, true))⟩, 
    ⟨(some 74), .pick (.tmp 67) (.tmp 73) (.const (.bool false)), none⟩, 
    ⟨(some 75), .mov (.tmp 74), none⟩, 
    ⟨(some 76), .mov (.tmp 5), (some (75, true))⟩, 
    ⟨(some 77), .build [(.int .u64 0), (.int .u64 0)] [(0, 1, (.const (.int .u64 2)))], (some (75, true))⟩, 
    ⟨(some 78), .bslice [(.int .u64 0), (.int .u64 0)] 1 [(0, (.tmp 77))], (some (75, true))⟩, 
    ⟨(some 79), .call (.func 16) [(.tmp 76), (.tmp 78)], (some (75, true))⟩, 
    ⟨(some 80), .pick (.tmp 75) (.tmp 79) (.const (.bool false)), none⟩, 
    ⟨(some 81), .mov (.tmp 80), none⟩, 
    ⟨(some 82), .mov (.tmp 7), (some (81, true))⟩, 
    ⟨(some 83), .build [(.int .u64 0), (.int .u64 0)] [], (some (81, true))⟩, 
    ⟨(some 84), .bslice [(.int .u64 0), (.int .u64 0)] 1 [(0, (.tmp 83))], (some (81, true))⟩, 
    ⟨(some 85), .call (.func 16) [(.tmp 82), (.tmp 84)], (some (81, true))⟩, 
    ⟨(some 86), .pick (.tmp 81) (.tmp 85) (.const (.bool false)), none⟩, 
    ⟨(some 87), .mov (.tmp 86), none⟩, 
    ⟨(some 88), .mov (.tmp 9), (some (87, true))⟩, 
    ⟨(some 89), .build [(.int .u64 0), (.int .u64 0)] [(0, 1, (.const (.int .u64 6)))], (some (87, true))⟩, 
    ⟨(some 90), .build [(.int .u64 0), (.int .u64 0)] [(0, 1, (.const (.int .u64 12)))], (some (87, true))⟩, 
    ⟨(some 91), .build [(.int .u64 0), (.int .u64 0)] [(0, 1, (.const (.int .u64 8))), (1, 1, (.const (.int .u64 2)))], (some (87, true))⟩, 
    ⟨(some 92), .bslice [(.int .u64 0), (.int .u64 0)] 3 [(0, (.tmp 89)), (1, (.tmp 90)), (2, (.tmp 91))], (some (87, true))⟩, 
    ⟨(some 93), .call (.func 16) [(.tmp 88), (.tmp 92)], (some (87, true))⟩, 
    ⟨(some 94), .pick (.tmp 87) (.tmp 93) (.const (.bool false)), none⟩, 
    ⟨(some 0), .mov (.tmp 94), none⟩])
  .ret))))))))
theorem ok10 : FnOk Tryd.prog 10 95 ir10 [.tmp 0] := fnOk_of mixed Tryd.func10 (by kernel_rfl) Tryd.ntmps10 (by kernel_rfl) (by kernel_rfl)

def ir13 : ACode :=
  (.seq (.region [
    ⟨(some 1), .box (.tmp 0), none⟩, 
    ⟨(some 2), .mov (.const (.slice none 0 0)), none⟩, 
    ⟨(some 3), .mov (.const (.int .i64 0)), none⟩])
  (.seq (.region [
    ⟨(some 6), .load false 1 (.tmp 1), none⟩, 
    ⟨(some 7), .call (.func 44) [(.tmp 6)], none⟩, 
    ⟨(some 5), .mov (.tmp 7), none⟩, 
    ⟨(some 8), .extract (.tmp 5) 0, none⟩, 
    ⟨(some 9), .extract (.tmp 5) 1, none⟩, 
    ⟨none, .store 1 (.tmp 1) (.tmp 8), none⟩, 
    ⟨(some 4), .mov (.tmp 9), none⟩])
  (.seq (.seq (.region [
    ⟨(some 10), .mov (.tmp 4), none⟩, 
    ⟨(some 11), .bin .neq .num (.tmp 10) (.const (.int .i64 0)), none⟩])
  (.cond (.tmp 11)
    (.seq (.region [
      ⟨(some 12), .mov (.tmp 4), none⟩, 
      ⟨(some 2), .mov (.const (.slice none 0 0)), none⟩, 
      ⟨(some 3), .mov (.tmp 12), none⟩])
    .ret)
    .skip))
  (.seq (.region [
    ⟨(some 13), .load false 1 (.tmp 1), none⟩, 
    ⟨(some 14), .call (.func 46) [(.tmp 13)], none⟩, 
    ⟨(some 15), .call (.func 47) [(.tmp 14)], none⟩, 
    ⟨(some 16), .mkfn 48 [(.tmp 1)], none⟩, 
    ⟨(some 17), .call (.func 45) [(.tmp 15), (.tmp 16)], none⟩, 
    ⟨(some 2), .mov (.tmp 17), none⟩, 
    ⟨(some 3), .mov (.const (.int .i64 0)), none⟩])
  .ret))))
theorem ok13 : FnOk Tryd.prog 13 18 ir13 [.tmp 2, .tmp 3] := fnOk_of mixed Tryd.func13 (by kernel_rfl) Tryd.ntmps13 (by kernel_rfl) (by kernel_rfl)

def ir16 : ACode :=
  (.seq (.region [
    ⟨(some 4), .mov (.const (.bool false)), none⟩])
  (.seq (.region [
    ⟨(some 5), .mov (.tmp 0), none⟩, 
    ⟨(some 6), .mov (.tmp 1), none⟩, 
    ⟨(some 7), .call (.func 54) [(.tmp 5), (.tmp 6), (.func 55)], none⟩, 
    ⟨(some 4), .mov (.tmp 7), none⟩])
  .ret))
theorem ok16 : FnOk Tryd.prog 16 8 ir16 [.tmp 4] := fnOk_of mixed Tryd.func16 (by kernel_rfl) Tryd.ntmps16 (by kernel_rfl) (by kernel_rfl)

def ir17 : ACode :=
  (.seq (.region [
    ⟨(some 2), .alloc [(.int .u8 0), (.int .i64 0), (.slice none 0 0), (.slice none 0 0)], none⟩, 
    ⟨(some 3), .alloc [(.int .i64 0), (.int .i64 0), (.slice none 0 0), (.slice none 0 0)], none⟩])
  (.seq (.region [
    ⟨(some 5), .mov (.tmp 0), none⟩, 
    ⟨(some 6), .mov (.tmp 0), none⟩, 
    ⟨(some 7), .len (.tmp 6), none⟩, 
    ⟨(some 8), .mn (.tmp 7) (.const (.int .i64 40)), none⟩, 
    ⟨(some 9), .slc 1 (.tmp 5) none (some (.tmp 8)) none, none⟩, 
    ⟨(some 10), .call (.func 58) [(.tmp 9), (.const (.int .i64 1)), (.const (.int .i64 6))], none⟩, 
    ⟨(some 4), .alloc [(.int .i64 0), (.int .i64 0), (.slice none 0 0), (.slice none 0 0)], none⟩, 
    ⟨none, .store 4 (.tmp 4) (.tmp 10), none⟩])
  (.seq (.draw [
    ⟨0, ⟨(some 11), .load true 4 (.tmp 4), none⟩, 0, 0, false⟩, 
    ⟨1, ⟨(some 12), .call (.func 59) [(.tmp 11)], none⟩, 1, 0, false⟩, 
    ⟨2, ⟨(some 13), .load true 4 (.tmp 4), none⟩, 0, 0, false⟩, 
    ⟨3, ⟨none, .store 4 (.tmp 2) (.tmp 12), none⟩, 3, 6, false⟩, 
    ⟨4, ⟨none, .store 4 (.tmp 3) (.tmp 13), none⟩, 15, 1, false⟩])
  .ret)))
theorem ok17 : FnOk Tryd.prog 17 14 ir17 [.cell 2 true 4, .cell 3 true 4] := fnOk_of mixed Tryd.func17 (by kernel_rfl) Tryd.ntmps17 (by kernel_rfl) (by kernel_rfl)

def ir18 : ACode :=
  (.seq (.region [
    ⟨(some 1), .box (.tmp 0), none⟩, 
    ⟨(some 2), .mov (.const (.slice none 0 0)), none⟩, 
    ⟨(some 3), .mov (.const (.int .i64 0)), none⟩])
  (.seq (.seq (.region [
    ⟨(some 5), .load true 4 (.tmp 1), none⟩, 
    ⟨(some 6), .call (.func 60) [(.tmp 5), (.const (.int .u8 1))], none⟩, 
    ⟨(some 4), .mov (.tmp 6), none⟩])
  (.seq (.region [
    ⟨(some 7), .mov (.tmp 4), none⟩, 
    ⟨(some 8), .bin .neq .num (.tmp 7) (.const (.int .i64 0)), none⟩])
  (.cond (.tmp 8)
    (.seq (.region [
      ⟨(some 9), .mov (.tmp 4), none⟩, 
      ⟨(some 2), .mov (.const (.slice none 0 0)), none⟩, 
      ⟨(some 3), .mov (.tmp 9), none⟩])
    .ret)
    .skip)))
  (.seq (.region [
    ⟨(some 10), .load true 4 (.tmp 1), none⟩, 
    ⟨(some 11), .call (.func 61) [(.tmp 10)], none⟩, 
    ⟨(some 12), .call (.func 47) [(.tmp 11)], none⟩, 
    ⟨(some 13), .mkfn 62 [(.tmp 1)], none⟩, 
    ⟨(some 14), .call (.func 45) [(.tmp 12), (.tmp 13)], none⟩, 
    ⟨(some 2), .mov (.tmp 14), none⟩, 
    ⟨(some 3), .mov (.const (.int .i64 0)), none⟩])
  .ret)))
theorem ok18 : FnOk Tryd.prog 18 15 ir18 [.tmp 2, .tmp 3] := fnOk_of mixed Tryd.func18 (by kernel_rfl) Tryd.ntmps18 (by kernel_rfl) (by kernel_rfl)

def ir20 : ACode :=
  (.seq (.region [
    ⟨(some 2), .alloc [(.slice none 0 0)], none⟩])
  (.seq (.region [
    ⟨(some 3), .mov (.const (.int .i64 (-1))), none⟩])
  (.seq (.seq (.region [
    ⟨(some 9), .mov (.tmp 0), none⟩, 
    ⟨(some 10), .len (.tmp 9), none⟩, 
    ⟨(some 11), .mov (.const (.int .i64 0)), none⟩])
  (.block 0
    (.loop
      (.seq (.region [
        ⟨(some 12), .bin .lss .num (.tmp 11) (.tmp 10), none⟩])
      (.seq (.cond (.tmp 12)
        .skip
        (.exit 0))
      (.seq (.block 1
        (.seq (.region [
          ⟨(some 13), .iaddr 1 (.tmp 9) (.tmp 11), none⟩, 
          ⟨(some 14), .load false 1 (.tmp 13), none⟩, 
          ⟨(some 5), .mov (.tmp 14), none⟩])
        (.seq (.region [
          ⟨(some 15), .mov (.tmp 5), none⟩, 
          ⟨(some 16), .bin .leq .num (.tmp 15) (.const (.int .i64 4095)), none⟩])
        (.cond (.tmp 16)
          (.region [
            ⟨(some 17), .mov (.tmp 3), none⟩, 
            ⟨(some 18), .mov (.tmp 5), none⟩, 
            ⟨(some 19), .mx (.tmp 17) (.tmp 18), none⟩, 
            ⟨(some 3), .mov (.tmp 19), none⟩])
          .skip))))
      (.region [
        ⟨(some 20), .bin .add .num (.tmp 11) (.const (.int .i64 1)), none⟩, 
        ⟨(some 11), .mov (.tmp 20), none⟩])))))))
  (.seq (.seq (.region [
    ⟨(some 21), .mov (.tmp 3), none⟩, 
    ⟨(some 22), .bin .lss .num (.tmp 21) (.const (.int .i64 0)), none⟩])
  (.cond (.tmp 22)
    (.seq (.region [
      ⟨(some 23), .build [(.slice none 0 0)] [], none⟩, 
      ⟨none, .store 1 (.tmp 2) (.tmp 23), none⟩])
    .ret)
    .skip))
  (.seq (.region [
    ⟨(some 24), .mov (.tmp 3), none⟩, 
    ⟨(some 25), .bin .quo .num (.tmp 24) (.const (.int .i64 64)), none⟩, 
    ⟨(some 26), .bin .add .num (.tmp 25) (.const (.int .i64 1)), none⟩, 
    ⟨(some 27), .mslice [(.int .u64 0)] 8 (.tmp 26) (.tmp 26), none⟩, 
    ⟨(some 6), .mov (.tmp 27), none⟩])
  (.seq (.seq (.region [
    ⟨(some 28), .mov (.tmp 0), none⟩, 
    ⟨(some 29), .len (.tmp 28), none⟩, 
    ⟨(some 30), .mov (.const (.int .i64 0)), none⟩])
  (.block 2
    (.loop
      (.seq (.region [
        ⟨(some 31), .bin .lss .num (.tmp 30) (.tmp 29), none⟩])
      (.seq (.cond (.tmp 31)
        .skip
        (.exit 2))
      (.seq (.block 3
        (.seq (.region [
          ⟨(some 32), .iaddr 1 (.tmp 28) (.tmp 30), none⟩, 
          ⟨(some 33), .load false 1 (.tmp 32), none⟩, 
          ⟨(some 8), .mov (.tmp 33), none⟩])
        (.seq (.region [
          ⟨(some 34), .mov (.tmp 8), none⟩, 
          ⟨(some 35), .bin .geq .num (.tmp 34) (.const (.int .i64 0)), none⟩, 
          ⟨(some 36), .mov (.tmp 35), none⟩, 
          ⟨(some 37), .mov (.tmp 8), (some (36, true))⟩, 
          ⟨(some 38), .mov (.tmp 3), (some (36, true))⟩, 
          ⟨(some 39), .bin .leq .num (.tmp 37) (.tmp 38), (some (36, true))⟩, 
          ⟨(some 40), .pick (.tmp 36) (.tmp 39) (.const (.bool false)), none⟩])
        (.cond (.tmp 40)
          (.draw [
            ⟨0, ⟨(some 41), .mov (.tmp 6), none⟩, 0, 1, false⟩, 
            ⟨1, ⟨(some 42), .mov (.tmp 8), none⟩, 0, 1, false⟩, 
            ⟨2, ⟨(some 43), .bin .quo .num (.tmp 42) (.const (.int .i64 64)), none⟩, 2, 1, false⟩, 
            ⟨3, ⟨(some 44), .iaddr 1 (.tmp 41) (.tmp 43), none⟩, 7, 1, false⟩, 
            ⟨4, ⟨(some 45), .load false 1 (.tmp 44), none⟩, 15, 1, false⟩, 
            ⟨5, ⟨(some 46), .mov (.tmp 8), none⟩, 0, 0, false⟩, 
            ⟨6, ⟨(some 47), .bin .rem .num (.tmp 46) (.const (.int .i64 64)), none⟩, 32, 0, false⟩, 
            ⟨7, ⟨(some 48), .bin .shl .num (.const (.int .u64 1)) (.tmp 47), none⟩, 96, 0, false⟩, 
            ⟨8, ⟨(some 49), .bin .or .num (.tmp 45) (.tmp 48), none⟩, 255, 1, false⟩, 
            ⟨9, ⟨(some 50), .iaddr 1 (.tmp 41) (.tmp 43), none⟩, 511, 1, false⟩, 
            ⟨10, ⟨none, .store 1 (.tmp 50) (.tmp 49), none⟩, 1023, 1, false⟩])
          .skip))))
      (.region [
        ⟨(some 51), .bin .add .num (.tmp 30) (.const (.int .i64 1)), none⟩, 
        ⟨(some 30), .mov (.tmp 51), none⟩])))))))
  (.seq (.region [
    ⟨(some 52), .mov (.tmp 6), none⟩, 
    ⟨(some 53), .call (.func 65) [(.tmp 52)], none⟩, 
    ⟨none, .store 1 (.tmp 2) (.tmp 53), none⟩])
  .ret)))))))
theorem ok20 : FnOk Tryd.prog 20 54 ir20 [.cell 2 true 1] := fnOk_of mixed Tryd.func20 (by kernel_rfl) Tryd.ntmps20 (by kernel_rfl) (by kernel_rfl)

def ir26 : ACode :=
  (.seq (.region [
    ⟨(some 4), .mov (.const (.bool false)), none⟩])
  (.seq (.region [
    ⟨(some 5), .mov (.tmp 0), none⟩, 
    ⟨(some 6), .mov (.tmp 1), none⟩, 
    ⟨(some 7), .call (.func 69) [(.tmp 5), (.tmp 6)], none⟩, 
    ⟨(some 8), .bin .geq .num (.tmp 7) (.const (.int .i64 0)), none⟩, 
    ⟨(some 4), .mov (.tmp 8), none⟩])
  .ret))
theorem ok26 : FnOk Tryd.prog 26 9 ir26 [.tmp 4] := fnOk_of mixed Tryd.func26 (by kernel_rfl) Tryd.ntmps26 (by kernel_rfl) (by kernel_rfl)

def ir35 : ACode :=
  (.seq (.region [
    ⟨(some 1), .box (.tmp 0), none⟩, 
    ⟨(some 2), .mov (.const (.bool false)), none⟩])
  (.seq (.region [
    ⟨(some 3), .faddr 0 (.tmp 1), none⟩, 
    ⟨(some 4), .load true 1 (.tmp 3), none⟩, 
    ⟨(some 5), .faddr 1 (.tmp 1), none⟩, 
    ⟨(some 6), .load true 1 (.tmp 5), none⟩, 
    ⟨(some 7), .call (.func 74) [(.tmp 4), (.tmp 6)], none⟩, 
    ⟨(some 2), .mov (.tmp 7), none⟩])
  .ret))
theorem ok35 : FnOk Tryd.prog 35 8 ir35 [.tmp 2] := fnOk_of mixed Tryd.func35 (by kernel_rfl) Tryd.ntmps35 (by kernel_rfl) (by kernel_rfl)

def ir36 : ACode :=
  (.seq (.region [
    ⟨(some 1), .box (.tmp 0), none⟩, 
    ⟨(some 2), .mov (.const .nilFunc), none⟩])
  (.seq (.region [
    ⟨(some 3), .mkfn 75 [(.tmp 1)], none⟩, 
    ⟨(some 2), .mov (.tmp 3), none⟩])
  .ret))
theorem ok36 : FnOk Tryd.prog 36 4 ir36 [.tmp 2] := fnOk_of mixed Tryd.func36 (by kernel_rfl) Tryd.ntmps36 (by kernel_rfl) (by kernel_rfl)

def ir40 : ACode :=
  (.seq (.region [
    ⟨(some 2), .alloc [(.slice none 0 0)], none⟩])
  (.seq (.region [
    ⟨(some 3), .mov (.tmp 0), none⟩, 
    ⟨(some 4), .call (.func 57) [(.tmp 3)], none⟩, 
    ⟨(some 5), .call (.func 20) [(.tmp 4)], none⟩, 
    ⟨none, .store 1 (.tmp 2) (.tmp 5), none⟩])
  .ret))
theorem ok40 : FnOk Tryd.prog 40 6 ir40 [.cell 2 true 1] := fnOk_of mixed Tryd.func40 (by kernel_rfl) Tryd.ntmps40 (by kernel_rfl) (by kernel_rfl)

def ir41 : ACode :=
  (.seq (.region [
    ⟨(some 3), .box (.tmp 0), none⟩, 
    ⟨(some 4), .box (.tmp 1), none⟩, 
    ⟨(some 6), .mov (.const (.bool false)), none⟩])
  (.seq (.region [
    ⟨(some 10), .load true 4 (.tmp 3), none⟩, 
    ⟨(some 11), .call (.func 79) [(.tmp 10)], none⟩, 
    ⟨(some 9), .mov (.tmp 11), none⟩, 
    ⟨(some 12), .extract (.tmp 9) 0, none⟩, 
    ⟨(some 13), .extract (.tmp 9) 1, none⟩, 
    ⟨(some 7), .mov (.tmp 12), none⟩, 
    ⟨(some 8), .mov (.tmp 13), none⟩])
  (.seq (.region [
    ⟨(some 14), .mov (.tmp 8), none⟩, 
    ⟨(some 15), .bin .eql .num (.tmp 14) (.const (.int .i64 0)), none⟩, 
    ⟨(some 16), .mov (.tmp 15), none⟩, 
    ⟨(some 17), .mov (.tmp 7), (some (16, true))⟩, 
    ⟨(some 18), .bin .eql .num (.tmp 17) (.const (.int .u8 1)), (some (16, true))⟩, 
    ⟨(some 19), .pick (.tmp 16) (.tmp 18) (.const (.bool false)), none⟩, 
    ⟨(some 20), .mov (.tmp 19), none⟩, 
    ⟨(some 21), .load true 1 (.tmp 4), (some (20, true))⟩, 
    ⟨(some 22), .mov (.tmp 2), (some (20, true))⟩, 
    ⟨(some 23), .build [(.slice none 0 0), (.slice none 0 0)] [(0, 1, (.tmp 21)), (1, 1, (.tmp 22))], (some (20, true))⟩, 
    ⟨(some 24), .load true 4 (.tmp 3), (some (20, true))⟩, 
    ⟨(some 25), .call (.func 80) [(.tmp 23), (.tmp 24)], (some (20, true))⟩, 
    ⟨(some 26), .bin .eql .num (.tmp 25) (.const (.int .i64 1)), (some (20, true))⟩, 
    ⟨(some 27), .pick (.tmp 20) (.tmp 26) (.const (.bool false)), none⟩, 
    ⟨(some 6), .mov (.tmp 27), none⟩])
  .ret)))
theorem ok41 : FnOk Tryd.prog 41 28 ir41 [.tmp 6] := fnOk_of mixed Tryd.func41 (by kernel_rfl) Tryd.ntmps41 (by kernel_rfl) (by kernel_rfl)

def ir42 : ACode :=
  (.seq (.region [
    ⟨(some 3), .box (.tmp 1), none⟩, 
    ⟨(some 4), .mov (.const (.bool false)), none⟩])
  (.seq (.region [
    ⟨(some 5), .mov (.tmp 0), none⟩, 
    ⟨(some 6), .mkfn 81 [(.tmp 3)], none⟩, 
    ⟨(some 7), .call (.func 26) [(.tmp 5), (.tmp 6)], none⟩, 
    ⟨(some 4), .mov (.tmp 7), none⟩])
  .ret))
theorem ok42 : FnOk Tryd.prog 42 8 ir42 [.tmp 4] := fnOk_of mixed Tryd.func42 (by kernel_rfl) Tryd.ntmps42 (by kernel_rfl) (by kernel_rfl)

def ir44 : ACode :=
  (.seq (.region [
    ⟨(some 2), .mov (.const (.slice none 0 0)), none⟩, 
    ⟨(some 3), .mov (.const (.int .i64 0)), none⟩])
  (.seq (.region [
    ⟨(some 4), .mov (.const (.slice none 0 0)), none⟩])
  (.seq (.seq (.region [
    ⟨(some 10), .mov (.tmp 0), none⟩, 
    ⟨(some 11), .len (.tmp 10), none⟩, 
    ⟨(some 12), .mov (.const (.int .i64 0)), none⟩])
  (.block 0
    (.loop
      (.seq (.region [
        ⟨(some 13), .bin .lss .num (.tmp 12) (.tmp 11), none⟩])
      (.seq (.cond (.tmp 13)
        .skip
        (.exit 0))
      (.seq (.block 1
        (.seq (.region [
          ⟨(some 14), .iaddr 2 (.tmp 10) (.tmp 12), none⟩, 
          ⟨(some 15), .load true 2 (.tmp 14), none⟩, 
          ⟨(some 6), .alloc [(.slice none 0 0), (.slice none 0 0)], none⟩, 
          ⟨none, .store 2 (.tmp 6) (.tmp 15), none⟩])
        (.seq (.region [
          ⟨(some 16), .load true 2 (.tmp 6), none⟩, 
          ⟨(some 17), .call (.func 35) [(.tmp 16)], none⟩, 
          ⟨(some 18), .una .not (.tmp 17), none⟩])
        (.cond (.tmp 18)
          (.region [
            ⟨(some 19), .mov (.tmp 4), none⟩, 
            ⟨(some 20), .load true 2 (.tmp 6), none⟩, 
            ⟨(some 21), .bslice [(.slice none 0 0), (.slice none 0 0)] 1 [(0, (.tmp 20))], none⟩, 
            ⟨(some 22), .append [(.slice none 0 0), (.slice none 0 0)] 48 (.tmp 19) (.tmp 21), none⟩, 
            ⟨(some 4), .mov (.tmp 22), none⟩])
          .skip))))
      (.region [
        ⟨(some 23), .bin .add .num (.tmp 12) (.const (.int .i64 1)), none⟩, 
        ⟨(some 12), .mov (.tmp 23), none⟩])))))))
  (.seq (.region [
    ⟨(some 24), .mov (.tmp 4), none⟩, 
    ⟨(some 25), .call (.func 46) [(.tmp 24)], none⟩, 
    ⟨(some 7), .alloc [(.slice none 0 0)], none⟩, 
    ⟨none, .store 1 (.tmp 7) (.tmp 25), none⟩])
  (.seq (.seq (.region [
    ⟨(some 26), .load true 1 (.tmp 7), none⟩, 
    ⟨(some 27), .call (.func 77) [(.tmp 26), (.const (.int .i64 0))], none⟩])
  (.cond (.tmp 27)
    (.seq (.region [
      ⟨(some 2), .mov (.const (.slice none 0 0)), none⟩, 
      ⟨(some 3), .mov (.const (.int .i64 1)), none⟩])
    .ret)
    .skip))
  (.seq (.seq (.region [
    ⟨(some 29), .load true 1 (.tmp 7), none⟩, 
    ⟨(some 30), .call (.func 83) [(.tmp 29)], none⟩, 
    ⟨(some 28), .mov (.tmp 30), none⟩, 
    ⟨(some 31), .extract (.tmp 28) 0, none⟩, 
    ⟨(some 32), .extract (.tmp 28) 1, none⟩, 
    ⟨(some 8), .mov (.tmp 31), none⟩, 
    ⟨(some 9), .mov (.tmp 32), none⟩])
  (.seq (.region [
    ⟨(some 33), .mov (.tmp 9), none⟩, 
    ⟨(some 34), .mov (.tmp 33), none⟩, 
    ⟨(some 35), .mov (.tmp 8), (some (34, true))⟩, 
    ⟨(some 36), .bin .gtr .num (.tmp 35) (.const (.int .i64 63)), (some (34, true))⟩, 
    ⟨(some 37), .pick (.tmp 34) (.tmp 36) (.const (.bool false)), none⟩])
  (.cond (.tmp 37)
    (.seq (.region [
      ⟨(some 2), .mov (.const (.slice none 0 0)), none⟩, 
      ⟨(some 3), .mov (.const (.int .i64 1)), none⟩])
    .ret)
    .skip)))
  (.seq (.seq (.region [
    ⟨(some 38), .load true 1 (.tmp 7), none⟩, 
    ⟨(some 39), .call (.func 84) [(.tmp 38)], none⟩, 
    ⟨(some 40), .bin .gtr .num (.tmp 39) (.const (.int .i64 8)), none⟩])
  (.cond (.tmp 40)
    (.seq (.region [
      ⟨(some 2), .mov (.const (.slice none 0 0)), none⟩, 
      ⟨(some 3), .mov (.const (.int .i64 3)), none⟩])
    .ret)
    .skip))
  (.seq (.region [
    ⟨(some 41), .mov (.tmp 4), none⟩, 
    ⟨(some 2), .mov (.tmp 41), none⟩, 
    ⟨(some 3), .mov (.const (.int .i64 0)), none⟩])
  .ret))))))))
theorem ok44 : FnOk Tryd.prog 44 42 ir44 [.tmp 2, .tmp 3] := fnOk_of mixed Tryd.func44 (by kernel_rfl) Tryd.ntmps44 (by kernel_rfl) (by kernel_rfl)

def ir45 : ACode :=
  (.seq (.region [
    ⟨(some 4), .mov (.const (.slice none 0 0)), none⟩])
  (.seq (.region [
    ⟨(some 9), .mov (.tmp 0), none⟩, 
    ⟨(some 10), .mov (.tmp 1), none⟩, 
    ⟨(some 11), .mkmap, none⟩, 
    ⟨(some 12), .build [(.slice none 0 0), .nilFunc, (.map none)] [(0, 1, (.tmp 9)), (1, 1, (.tmp 10)), (2, 1, (.tmp 11))], none⟩, 
    ⟨(some 13), .box (.tmp 12), none⟩, 
    ⟨(some 5), .mov (.tmp 13), none⟩])
  (.seq (.region [
    ⟨(some 6), .mov (.const (.slice none 0 0)), none⟩])
  (.seq (.seq (.region [
    ⟨(some 14), .mov (.tmp 0), none⟩, 
    ⟨(some 15), .len (.tmp 14), none⟩, 
    ⟨(some 16), .bin .shl .num (.const (.int .i64 1)) (.tmp 15), none⟩, 
    ⟨(some 17), .mov (.const (.int .i64 0)), none⟩])
  (.block 0
    (.loop
      (.seq (.region [
        ⟨(some 18), .bin .lss .num (.tmp 17) (.tmp 16), none⟩])
      (.seq (.cond (.tmp 18)
        .skip
        (.exit 0))
      (.seq (.block 1
        (.seq (.region [
          ⟨(some 19), .mov (.tmp 17), none⟩, 
          ⟨(some 7), .mov (.tmp 19), none⟩])
        (.seq (.region [
          ⟨(some 20), .mov (.tmp 0), none⟩, 
          ⟨(some 21), .len (.tmp 20), none⟩, 
          ⟨(some 22), .bin .shl .num (.const (.int .i64 1)) (.tmp 21), none⟩, 
          ⟨(some 23), .mov (.const (.int .i64 0)), none⟩])
        (.block 2
          (.loop
            (.seq (.region [
              ⟨(some 24), .bin .lss .num (.tmp 23) (.tmp 22), none⟩])
            (.seq (.cond (.tmp 24)
              .skip
              (.exit 2))
            (.seq (.block 3
              (.seq (.region [
                ⟨(some 25), .mov (.tmp 23), none⟩, 
                ⟨(some 8), .mov (.tmp 25), none⟩])
              (.seq (.region [
                ⟨(some 26), .mov (.tmp 7), none⟩, 
                ⟨(some 27), .mov (.tmp 8), none⟩, 
                ⟨(some 28), .bin .and .num (.tmp 26) (.tmp 27), none⟩, 
                ⟨(some 29), .bin .eql .num (.tmp 28) (.const (.int .i64 0)), none⟩, 
                ⟨(some 30), .mov (.tmp 29), none⟩, 
                ⟨(some 31), .mov (.tmp 5), (some (30, true))⟩, 
                ⟨(some 32), .mov (.tmp 7), (some (30, true))⟩, 
                ⟨(some 33), .mov (.tmp 8), (some (30, true))⟩, 
                ⟨(some 34), .call (.func 85) [(.tmp 31), (.tmp 32), (.tmp 33)], (some (30, true))⟩, 
                ⟨(some 35), .pick (.tmp 30) (.tmp 34) (.const (.bool false)), none⟩])
              (.cond (.tmp 35)
                (.region [
                  ⟨(some 36), .mov (.tmp 6), none⟩, 
                  ⟨(some 37), .mov (.tmp 5), none⟩, 
                  ⟨(some 38), .mov (.tmp 7), none⟩, 
                  ⟨(some 39), .call (.func 86) [(.tmp 37), (.tmp 38)], none⟩, 
                  ⟨(some 40), .mov (.tmp 5), none⟩, 
                  ⟨(some 41), .mov (.tmp 8), none⟩, 
                  ⟨(some 42), .call (.func 86) [(.tmp 40), (.tmp 41)], none⟩, 
                  ⟨(some 43), .build [(.slice none 0 0), (.slice none 0 0)] [(0, 1, (.tmp 39)), (1, 1, (.tmp 42))], none⟩, 
                  ⟨(some 44), .bslice [(.slice none 0 0), (.slice none 0 0)] 1 [(0, (.tmp 43))], none⟩, 
                  ⟨(some 45), .append [(.slice none 0 0), (.slice none 0 0)] 48 (.tmp 36) (.tmp 44), none⟩, 
                  ⟨(some 6), .mov (.tmp 45), none⟩])
                .skip))))
            (.region [
              ⟨(some 46), .bin .add .num (.tmp 23) (.const (.int .i64 1)), none⟩, 
              ⟨(some 23), .mov (.tmp 46), none⟩])))))))))
      (.region [
        ⟨(some 47), .bin .add .num (.tmp 17) (.const (.int .i64 1)), none⟩, 
        ⟨(some 17), .mov (.tmp 47), none⟩])))))))
  (.seq (.region [
    ⟨(some 48), .mov (.tmp 6), none⟩, 
    ⟨(some 49), .call (.func 87) [(.tmp 48), (.func 88)], none⟩])
  (.seq (.region [
    ⟨(some 50), .mov (.tmp 6), none⟩, 
    ⟨(some 4), .mov (.tmp 50), none⟩])
  .ret))))))
theorem ok45 : FnOk Tryd.prog 45 51 ir45 [.tmp 4] := fnOk_of mixed Tryd.func45 (by kernel_rfl) Tryd.ntmps45 (by kernel_rfl) (by kernel_rfl)

def ir46 : ACode :=
  (.seq (.region [
    ⟨(some 2), .alloc [(.slice none 0 0)], none⟩])
  (.seq (.region [
    ⟨(some 3), .alloc [(.slice none 0 0)], none⟩])
  (.seq (.seq (.region [
    ⟨(some 6), .mov (.tmp 0), none⟩, 
    ⟨(some 7), .len (.tmp 6), none⟩, 
    ⟨(some 8), .mov (.const (.int .i64 0)), none⟩])
  (.block 0
    (.loop
      (.seq (.region [
        ⟨(some 9), .bin .lss .num (.tmp 8) (.tmp 7), none⟩])
      (.seq (.cond (.tmp 9)
        .skip
        (.exit 0))
      (.seq (.block 1
        (.seq (.region [
          ⟨(some 10), .iaddr 2 (.tmp 6) (.tmp 8), none⟩, 
          ⟨(some 11), .load true 2 (.tmp 10), none⟩, 
          ⟨(some 5), .alloc [(.slice none 0 0), (.slice none 0 0)], none⟩, 
          ⟨none, .store 2 (.tmp 5) (.tmp 11), none⟩])
        (.draw [
          ⟨0, ⟨(some 12), .load true 1 (.tmp 3), none⟩, 0, 0, false⟩, 
          ⟨1, ⟨(some 13), .faddr 0 (.tmp 5), none⟩, 0, 0, false⟩, 
          ⟨2, ⟨(some 14), .load true 1 (.tmp 13), none⟩, 2, 0, false⟩, 
          ⟨3, ⟨(some 15), .call (.func 89) [(.tmp 12), (.tmp 14)], none⟩, 7, 0, false⟩, 
          ⟨4, ⟨(some 16), .faddr 1 (.tmp 5), none⟩, 0, 0, false⟩, 
          ⟨5, ⟨(some 17), .load true 1 (.tmp 16), none⟩, 16, 0, false⟩, 
          ⟨6, ⟨(some 18), .call (.func 89) [(.tmp 15), (.tmp 17)], none⟩, 63, 1, false⟩, 
          ⟨7, ⟨none, .store 1 (.tmp 3) (.tmp 18), none⟩, 127, 1, false⟩])))
      (.region [
        ⟨(some 19), .bin .add .num (.tmp 8) (.const (.int .i64 1)), none⟩, 
        ⟨(some 8), .mov (.tmp 19), none⟩])))))))
  (.seq (.region [
    ⟨(some 20), .load true 1 (.tmp 3), none⟩, 
    ⟨none, .store 1 (.tmp 2) (.tmp 20), none⟩])
  .ret))))
theorem ok46 : FnOk Tryd.prog 46 21 ir46 [.cell 2 true 1] := fnOk_of mixed Tryd.func46 (by kernel_rfl) Tryd.ntmps46 (by kernel_rfl) (by kernel_rfl)

def ir47 : ACode :=
  (.seq (.region [
    ⟨(some 1), .box (.tmp 0), none⟩, 
    ⟨(some 2), .mov (.const (.slice none 0 0)), none⟩])
  (.seq (.region [
    ⟨(some 5), .load true 1 (.tmp 1), none⟩, 
    ⟨(some 6), .call (.func 84) [(.tmp 5)], none⟩, 
    ⟨(some 7), .mslice [(.int .i64 0)] 8 (.const (.int .i64 0)) (.tmp 6), none⟩, 
    ⟨(some 3), .alloc [(.slice none 0 0)], none⟩, 
    ⟨none, .store 1 (.tmp 3) (.tmp 7), none⟩])
  (.seq (.seq (.region [
    ⟨(some 8), .load true 1 (.tmp 1), none⟩, 
    ⟨(some 9), .call (.func 36) [(.tmp 8)], none⟩])
  (.block 0
    (.range (.tmp 9) [10] [(4, (.tmp 10))]
      (.block 1
        (.region [
          ⟨(some 11), .load false 1 (.tmp 3), none⟩, 
          ⟨(some 12), .mov (.tmp 4), none⟩, 
          ⟨(some 13), .bslice [(.int .i64 0)] 1 [(0, (.tmp 12))], none⟩, 
          ⟨(some 14), .append [(.int .i64 0)] 8 (.tmp 11) (.tmp 13), none⟩, 
          ⟨none, .store 1 (.tmp 3) (.tmp 14), none⟩])))))
  (.seq (.region [
    ⟨(some 15), .load false 1 (.tmp 3), none⟩, 
    ⟨(some 2), .mov (.tmp 15), none⟩])
  .ret))))
theorem ok47 : FnOk Tryd.prog 47 16 ir47 [.tmp 2] := fnOk_of mixed Tryd.func47 (by kernel_rfl) Tryd.ntmps47 (by kernel_rfl) (by kernel_rfl)

def ir48 : ACode :=
  (.seq (.region [
    ⟨(some 2), .box (.tmp 0), none⟩, 
    ⟨(some 3), .mov (.const (.bool false)), none⟩])
  (.seq (.region [
    ⟨(some 4), .load false 1 (.tmp 1), none⟩, 
    ⟨(some 5), .load true 1 (.tmp 2), none⟩, 
    ⟨(some 6), .call (.func 42) [(.tmp 4), (.tmp 5)], none⟩, 
    ⟨(some 3), .mov (.tmp 6), none⟩])
  .ret))
theorem ok48 : FnOk Tryd.prog 48 7 ir48 [.tmp 3] := fnOk_of mixed Tryd.func48 (by kernel_rfl) Tryd.ntmps48 (by kernel_rfl) (by kernel_rfl)

def ir54 : ACode :=
  (.seq (.region [
    ⟨(some 6), .mov (.const (.bool false)), none⟩])
  (.seq (.seq (.region [
    ⟨(some 10), .mov (.tmp 0), none⟩, 
    ⟨(some 11), .len (.tmp 10), none⟩, 
    ⟨(some 12), .mov (.tmp 1), none⟩, 
    ⟨(some 13), .len (.tmp 12), none⟩, 
    ⟨(some 14), .bin .neq .num (.tmp 11) (.tmp 13), none⟩])
  (.cond (.tmp 14)
    (.seq (.region [
      ⟨(some 6), .mov (.const (.bool false)), none⟩])
    .ret)
    .skip))
  (.seq (.seq (.region [
    ⟨(some 15), .mov (.tmp 0), none⟩, 
    ⟨(some 16), .len (.tmp 15), none⟩, 
    ⟨(some 17), .mov (.const (.int .i64 0)), none⟩])
  (.block 0
    (.loop
      (.seq (.region [
        ⟨(some 18), .bin .lss .num (.tmp 17) (.tmp 16), none⟩])
      (.seq (.cond (.tmp 18)
        .skip
        (.exit 0))
      (.seq (.block 1
        (.seq (.region [
          ⟨(some 19), .mov (.tmp 17), none⟩, 
          ⟨(some 20), .iaddr 2 (.tmp 15) (.tmp 17), none⟩, 
          ⟨(some 21), .load true 2 (.tmp 20), none⟩, 
          ⟨(some 8), .alloc [(.slice none 0 0), (.slice none 0 0)], none⟩, 
          ⟨(some 7), .mov (.tmp 19), none⟩, 
          ⟨none, .store 2 (.tmp 8) (.tmp 21), none⟩])
        (.seq (.region [
          ⟨(some 22), .mov (.tmp 1), none⟩, 
          ⟨(some 23), .mov (.tmp 7), none⟩, 
          ⟨(some 24), .iaddr 2 (.tmp 22) (.tmp 23), none⟩, 
          ⟨(some 25), .load true 2 (.tmp 24), none⟩, 
          ⟨(some 9), .alloc [(.int .u64 0), (.int .u64 0)], none⟩, 
          ⟨none, .store 2 (.tmp 9) (.tmp 25), none⟩])
        (.seq (.region [
          ⟨(some 26), .mov (.tmp 2), none⟩, 
          ⟨(some 27), .load true 2 (.tmp 8), none⟩, 
          ⟨(some 28), .load true 2 (.tmp 9), none⟩, 
          ⟨(some 29), .call (.tmp 26) [(.tmp 27), (.tmp 28)], none⟩, 
          ⟨(some 30), .una .not (.tmp 29), none⟩])
        (.cond (.tmp 30)
          (.seq (.region [
            ⟨(some 6), .mov (.const (.bool false)), none⟩])
          .ret)
          .skip)))))
      (.region [
        ⟨(some 31), .bin .add .num (.tmp 17) (.const (.int .i64 1)), none⟩, 
        ⟨(some 17), .mov (.tmp 31), none⟩])))))))
  (.seq (.region [
    ⟨(some 6), .mov (.const (.bool true)), none⟩])
  .ret))))
theorem ok54 : FnOk Tryd.prog 54 32 ir54 [.tmp 6] := fnOk_of mixed Tryd.func54 (by kernel_rfl) Tryd.ntmps54 (by kernel_rfl) (by kernel_rfl)

def ir55 : ACode :=
  (.seq (.region [
    ⟨(some 2), .box (.tmp 0), none⟩, 
    ⟨(some 3), .box (.tmp 1), none⟩, 
    ⟨(some 4), .mov (.const (.bool false)), none⟩])
  (.seq (.draw [
    ⟨0, ⟨(some 5), .faddr 0 (.tmp 2), none⟩, 0, 0, false⟩, 
    ⟨1, ⟨(some 6), .load true 1 (.tmp 5), none⟩, 1, 0, false⟩, 
    ⟨2, ⟨(some 7), .call (.func 47) [(.tmp 6)], none⟩, 3, 0, false⟩, 
    ⟨3, ⟨(some 8), .faddr 0 (.tmp 3), none⟩, 0, 0, false⟩, 
    ⟨4, ⟨(some 9), .load false 1 (.tmp 8), none⟩, 8, 0, false⟩, 
    ⟨5, ⟨(some 10), .call (.func 57) [(.tmp 9)], none⟩, 31, 1, false⟩, 
    ⟨6, ⟨(some 11), .call (.func 56) [(.tmp 7), (.tmp 10)], none⟩, 63, 1, false⟩, 
    ⟨7, ⟨(some 12), .mov (.tmp 11), none⟩, 127, 1, false⟩, 
    ⟨8, ⟨(some 13), .faddr 1 (.tmp 2), (some (12, true))⟩, 255, 0, false⟩, 
    ⟨9, ⟨(some 14), .load true 1 (.tmp 13), (some (12, true))⟩, 511, 0, false⟩, 
    ⟨10, ⟨(some 15), .call (.func 47) [(.tmp 14)], (some (12, true))⟩, 1023, 0, false⟩, 
    ⟨11, ⟨(some 16), .faddr 1 (.tmp 3), (some (12, true))⟩, 255, 0, false⟩, 
    ⟨12, ⟨(some 17), .load false 1 (.tmp 16), (some (12, true))⟩, 2303, 0, false⟩, 
    ⟨13, ⟨(some 18), .call (.func 57) [(.tmp 17)], (some (12, true))⟩, 8191, 1, false⟩, 
    ⟨14, ⟨(some 19), .call (.func 56) [(.tmp 15), (.tmp 18)], (some (12, true))⟩, 16383, 1, false⟩, 
    ⟨15, ⟨(some 20), .pick (.tmp 12) (.tmp 19) (.const (.bool false)), none⟩, 32767, 1, false⟩, 
    ⟨16, ⟨(some 4), .mov (.tmp 20), none⟩, 65535, 1, false⟩])
  .ret))
theorem ok55 : FnOk Tryd.prog 55 21 ir55 [.tmp 4] := fnOk_of mixed Tryd.func55 (by kernel_rfl) Tryd.ntmps55 (by kernel_rfl) (by kernel_rfl)

def ir56 : ACode :=
  (.seq (.region [
    ⟨(some 4), .mov (.const (.bool false)), none⟩])
  (.seq (.seq (.region [
    ⟨(some 6), .mov (.tmp 0), none⟩, 
    ⟨(some 7), .len (.tmp 6), none⟩, 
    ⟨(some 8), .mov (.tmp 1), none⟩, 
    ⟨(some 9), .len (.tmp 8), none⟩, 
    ⟨(some 10), .bin .neq .num (.tmp 7) (.tmp 9), none⟩])
  (.cond (.tmp 10)
    (.seq (.region [
      ⟨(some 4), .mov (.const (.bool false)), none⟩])
    .ret)
    .skip))
  (.seq (.seq (.region [
    ⟨(some 11), .mov (.tmp 0), none⟩, 
    ⟨(some 12), .len (.tmp 11), none⟩, 
    ⟨(some 13), .mov (.const (.int .i64 0)), none⟩])
  (.block 0
    (.loop
      (.seq (.region [
        ⟨(some 14), .bin .lss .num (.tmp 13) (.tmp 12), none⟩])
      (.seq (.cond (.tmp 14)
        .skip
        (.exit 0))
      (.seq (.block 1
        (.seq (.region [
          ⟨(some 15), .mov (.tmp 13), none⟩, 
          ⟨(some 5), .mov (.tmp 15), none⟩])
        (.seq (.draw [
          ⟨0, ⟨(some 16), .mov (.tmp 0), none⟩, 0, 0, false⟩, 
          ⟨1, ⟨(some 17), .mov (.tmp 5), none⟩, 0, 0, false⟩, 
          ⟨2, ⟨(some 18), .iaddr 1 (.tmp 16) (.tmp 17), none⟩, 3, 0, false⟩, 
          ⟨3, ⟨(some 19), .load false 1 (.tmp 18), none⟩, 7, 0, false⟩, 
          ⟨4, ⟨(some 20), .mov (.tmp 1), none⟩, 0, 0, false⟩, 
          ⟨5, ⟨(some 21), .mov (.tmp 5), none⟩, 0, 0, false⟩, 
          ⟨6, ⟨(some 22), .iaddr 1 (.tmp 20) (.tmp 21), none⟩, 48, 0, false⟩, 
          ⟨7, ⟨(some 23), .load false 1 (.tmp 22), none⟩, 112, 0, false⟩, 
          ⟨8, ⟨(some 24), .bin .neq .num (.tmp 19) (.tmp 23), none⟩, 255, 1, false⟩])
        (.cond (.tmp 24)
          (.seq (.region [
            ⟨(some 4), .mov (.const (.bool false)), none⟩])
          .ret)
          .skip))))
      (.region [
        ⟨(some 25), .bin .add .num (.tmp 13) (.const (.int .i64 1)), none⟩, 
        ⟨(some 13), .mov (.tmp 25), none⟩])))))))
  (.seq (.region [
    ⟨(some 4), .mov (.const (.bool true)), none⟩])
  .ret))))
theorem ok56 : FnOk Tryd.prog 56 26 ir56 [.tmp 4] := fnOk_of mixed Tryd.func56 (by kernel_rfl) Tryd.ntmps56 (by kernel_rfl) (by kernel_rfl)

def ir57 : ACode :=
  (.seq (.region [
    ⟨(some 2), .mov (.const (.slice none 0 0)), none⟩])
  (.seq (.region [
    ⟨(some 3), .mov (.const (.slice none 0 0)), none⟩])
  (.seq (.seq (.region [
    ⟨(some 4), .mov (.const (.int .i64 0)), none⟩])
  (.block 0
    (.loop
      (.seq (.seq (.region [
        ⟨(some 5), .mov (.tmp 4), none⟩, 
        ⟨(some 6), .bin .lss .num (.tmp 5) (.const (.int .i64 64)), none⟩])
      (.cond (.tmp 6)
        .skip
        (.exit 0)))
      (.seq (.block 1
        (.seq (.region [
          ⟨(some 9), .mov (.tmp 0), none⟩, 
          ⟨(some 10), .mov (.tmp 4), none⟩, 
          ⟨(some 11), .bin .shr .num (.tmp 9) (.tmp 10), none⟩, 
          ⟨(some 12), .bin .rem .num (.tmp 11) (.const (.int .u64 2)), none⟩, 
          ⟨(some 13), .bin .eql .num (.tmp 12) (.const (.int .u64 1)), none⟩])
        (.cond (.tmp 13)
          (.region [
            ⟨(some 14), .mov (.tmp 3), none⟩, 
            ⟨(some 15), .mov (.tmp 4), none⟩, 
            ⟨(some 16), .bslice [(.int .i64 0)] 1 [(0, (.tmp 15))], none⟩, 
            ⟨(some 17), .append [(.int .i64 0)] 8 (.tmp 14) (.tmp 16), none⟩, 
            ⟨(some 3), .mov (.tmp 17), none⟩])
          .skip)))
      (.region [
        ⟨(some 7), .mov (.tmp 4), none⟩, 
        ⟨(some 8), .bin .add .num (.tmp 7) (.const (.int .i64 1)), none⟩, 
        ⟨(some 4), .mov (.tmp 8), none⟩]))))))
  (.seq (.region [
    ⟨(some 18), .mov (.tmp 3), none⟩, 
    ⟨(some 2), .mov (.tmp 18), none⟩])
  .ret))))
theorem ok57 : FnOk Tryd.prog 57 19 ir57 [.tmp 2] := fnOk_of mixed Tryd.func57 (by kernel_rfl) Tryd.ntmps57 (by kernel_rfl) (by kernel_rfl)

def ir58 : ACode :=
  (.seq (.region [
    ⟨(some 6), .alloc [(.int .i64 0), (.int .i64 0), (.slice none 0 0), (.slice none 0 0)], none⟩])
  (.seq (.region [
    ⟨(some 8), .mov (.tmp 0), none⟩, 
    ⟨(some 9), .build [(.slice none 0 0), (.int .i64 0)] [(0, 1, (.tmp 8))], none⟩, 
    ⟨(some 10), .box (.tmp 9), none⟩, 
    ⟨(some 7), .mov (.tmp 10), none⟩])
  (.seq (.region [
    ⟨(some 11), .mov (.tmp 7), none⟩, 
    ⟨(some 12), .mov (.tmp 1), none⟩, 
    ⟨(some 13), .mov (.tmp 2), none⟩, 
    ⟨(some 14), .call (.func 96) [(.tmp 11), (.const (.int .i64 4)), (.tmp 12), (.tmp 13)], none⟩, 
    ⟨none, .store 4 (.tmp 6) (.tmp 14), none⟩])
  .ret)))
theorem ok58 : FnOk Tryd.prog 58 15 ir58 [.cell 6 true 4] := fnOk_of mixed Tryd.func58 (by kernel_rfl) Tryd.ntmps58 (by kernel_rfl) (by kernel_rfl)

def ir59 : ACode :=
  (.seq (.region [
    ⟨(some 1), .box (.tmp 0), none⟩, 
    ⟨(some 2), .alloc [(.int .u8 0), (.int .i64 0), (.slice none 0 0), (.slice none 0 0)], none⟩])
  (.seq (.draw [
    ⟨0, ⟨(some 6), .faddr 0 (.tmp 1), none⟩, 0, 0, false⟩, 
    ⟨1, ⟨(some 7), .load false 1 (.tmp 6), none⟩, 1, 0, false⟩, 
    ⟨2, ⟨(some 8), .conv .u8 (.tmp 7), none⟩, 3, 0, false⟩, 
    ⟨3, ⟨(some 9), .faddr 1 (.tmp 1), none⟩, 0, 0, false⟩, 
    ⟨4, ⟨(some 10), .load false 1 (.tmp 9), none⟩, 8, 0, false⟩, 
    ⟨5, ⟨(some 11), .bslice [(.int .i64 0)] 0 [], none⟩, 0, 0, false⟩, 
    ⟨6, ⟨(some 12), .faddr 2 (.tmp 1), none⟩, 0, 0, false⟩, 
    ⟨7, ⟨(some 13), .load false 1 (.tmp 12), none⟩, 64, 0, false⟩, 
    ⟨8, ⟨(some 14), .append [(.int .i64 0)] 8 (.tmp 11) (.tmp 13), none⟩, 224, 448, false⟩, 
    ⟨9, ⟨(some 15), .build [(.int .u8 0), (.int .i64 0), (.slice none 0 0), (.slice none 0 0)] [(0, 1, (.tmp 8)), (1, 1, (.tmp 10)), (2, 1, (.tmp 14))], none⟩, 511, 1, false⟩, 
    ⟨10, ⟨(some 3), .alloc [(.int .u8 0), (.int .i64 0), (.slice none 0 0), (.slice none 0 0)], none⟩, 0, 0, false⟩, 
    ⟨11, ⟨none, .store 4 (.tmp 3) (.tmp 15), none⟩, 2047, 1, false⟩])
  (.seq (.seq (.region [
    ⟨(some 16), .faddr 3 (.tmp 1), none⟩, 
    ⟨(some 17), .load false 1 (.tmp 16), none⟩, 
    ⟨(some 18), .len (.tmp 17), none⟩, 
    ⟨(some 19), .mov (.const (.int .i64 0)), none⟩])
  (.block 0
    (.loop
      (.seq (.region [
        ⟨(some 20), .bin .lss .num (.tmp 19) (.tmp 18), none⟩])
      (.seq (.cond (.tmp 20)
        .skip
        (.exit 0))
      (.seq (.block 1
        (.seq (.region [
          ⟨(some 21), .iaddr 4 (.tmp 17) (.tmp 19), none⟩, 
          ⟨(some 22), .load true 4 (.tmp 21), none⟩, 
          ⟨(some 5), .alloc [(.int .i64 0), (.int .i64 0), (.slice none 0 0), (.slice none 0 0)], none⟩, 
          ⟨none, .store 4 (.tmp 5) (.tmp 22), none⟩])
        (.draw [
          ⟨0, ⟨(some 23), .faddr 3 (.tmp 3), none⟩, 0, 0, false⟩, 
          ⟨1, ⟨(some 24), .load false 1 (.tmp 23), none⟩, 1, 0, false⟩, 
          ⟨2, ⟨(some 25), .load true 4 (.tmp 5), none⟩, 0, 0, false⟩, 
          ⟨3, ⟨(some 26), .call (.func 59) [(.tmp 25)], none⟩, 4, 0, false⟩, 
          ⟨4, ⟨(some 27), .bslice [(.int .u8 0), (.int .i64 0), (.slice none 0 0), (.slice none 0 0)] 1 [(0, (.tmp 26))], none⟩, 12, 0, false⟩, 
          ⟨5, ⟨(some 28), .append [(.int .u8 0), (.int .i64 0), (.slice none 0 0), (.slice none 0 0)] 64 (.tmp 24) (.tmp 27), none⟩, 31, 1, false⟩, 
          ⟨6, ⟨(some 29), .faddr 3 (.tmp 3), none⟩, 63, 1, false⟩, 
          ⟨7, ⟨none, .store 1 (.tmp 29) (.tmp 28), none⟩, 127, 1, false⟩])))
      (.region [
        ⟨(some 30), .bin .add .num (.tmp 19) (.const (.int .i64 1)), none⟩, 
        ⟨(some 19), .mov (.tmp 30), none⟩])))))))
  (.seq (.region [
    ⟨(some 31), .load true 4 (.tmp 3), none⟩, 
    ⟨none, .store 4 (.tmp 2) (.tmp 31), none⟩])
  .ret))))
theorem ok59 : FnOk Tryd.prog 59 32 ir59 [.cell 2 true 4] := fnOk_of mixed Tryd.func59 (by kernel_rfl) Tryd.ntmps59 (by kernel_rfl) (by kernel_rfl)

def ir60 : ACode :=
  (.seq (.region [
    ⟨(some 2), .box (.tmp 0), none⟩, 
    ⟨(some 4), .mov (.const (.int .i64 0)), none⟩])
  (.seq (.seq (.region [
    ⟨(some 6), .mov (.tmp 1), none⟩, 
    ⟨(some 7), .bin .lss .num (.tmp 6) (.const (.int .u8 1)), none⟩, 
    ⟨(some 8), .mov (.tmp 7), none⟩, 
    ⟨(some 9), .mov (.tmp 1), (some (8, false))⟩, 
    ⟨(some 10), .bin .gtr .num (.tmp 9) (.const (.int .u8 3)), (some (8, false))⟩, 
    ⟨(some 11), .pick (.tmp 8) (.const (.bool true)) (.tmp 10), none⟩])
  (.cond (.tmp 11)
    (.seq (.region [
      ⟨(some 4), .mov (.const (.int .i64 1)), none⟩])
    .ret)
    .skip))
  (.seq (.seq (.region [
    ⟨(some 12), .load true 4 (.tmp 2), none⟩, 
    ⟨(some 13), .mov (.tmp 1), none⟩, 
    ⟨(some 14), .call (.func 97) [(.tmp 12), (.tmp 13)], none⟩, 
    ⟨(some 5), .mov (.tmp 14), none⟩])
  (.seq (.region [
    ⟨(some 15), .mov (.tmp 5), none⟩, 
    ⟨(some 16), .bin .neq .num (.tmp 15) (.const (.int .i64 0)), none⟩])
  (.cond (.tmp 16)
    (.seq (.region [
      ⟨(some 17), .mov (.tmp 5), none⟩, 
      ⟨(some 4), .mov (.tmp 17), none⟩])
    .ret)
    .skip)))
  (.seq (.seq (.region [
    ⟨(some 18), .load true 4 (.tmp 2), none⟩, 
    ⟨(some 19), .call (.func 98) [(.tmp 18)], none⟩, 
    ⟨(some 20), .una .not (.tmp 19), none⟩, 
    ⟨(some 21), .mov (.tmp 20), none⟩, 
    ⟨(some 22), .faddr 0 (.tmp 2), (some (21, false))⟩, 
    ⟨(some 23), .load false 1 (.tmp 22), (some (21, false))⟩, 
    ⟨(some 24), .call (.func 99) [(.tmp 23)], (some (21, false))⟩, 
    ⟨(some 25), .bin .neq .num (.tmp 24) (.const (.int .u8 1)), (some (21, false))⟩, 
    ⟨(some 26), .pick (.tmp 21) (.const (.bool true)) (.tmp 25), none⟩])
  (.cond (.tmp 26)
    (.seq (.region [
      ⟨(some 4), .mov (.const (.int .i64 10)), none⟩])
    .ret)
    .skip))
  (.seq (.seq (.region [
    ⟨(some 27), .mov (.tmp 1), none⟩, 
    ⟨(some 28), .bin .neq .num (.tmp 27) (.const (.int .u8 3)), none⟩, 
    ⟨(some 29), .mov (.tmp 28), none⟩, 
    ⟨(some 30), .load true 4 (.tmp 2), (some (29, true))⟩, 
    ⟨(some 31), .call (.func 61) [(.tmp 30)], (some (29, true))⟩, 
    ⟨(some 32), .call (.func 84) [(.tmp 31)], (some (29, true))⟩, 
    ⟨(some 33), .bin .gtr .num (.tmp 32) (.const (.int .i64 8)), (some (29, true))⟩, 
    ⟨(some 34), .pick (.tmp 29) (.tmp 33) (.const (.bool false)), none⟩])
  (.cond (.tmp 34)
    (.seq (.region [
      ⟨(some 4), .mov (.const (.int .i64 3)), none⟩])
    .ret)
    .skip))
  (.seq (.region [
    ⟨(some 4), .mov (.const (.int .i64 0)), none⟩])
  .ret))))))
theorem ok60 : FnOk Tryd.prog 60 35 ir60 [.tmp 4] := fnOk_of mixed Tryd.func60 (by kernel_rfl) Tryd.ntmps60 (by kernel_rfl) (by kernel_rfl)

def ir61 : ACode :=
  (.seq (.region [
    ⟨(some 1), .box (.tmp 0), none⟩, 
    ⟨(some 2), .alloc [(.slice none 0 0)], none⟩])
  (.seq (.region [
    ⟨(some 6), .faddr 2 (.tmp 1), none⟩, 
    ⟨(some 7), .load false 1 (.tmp 6), none⟩, 
    ⟨(some 8), .call (.func 20) [(.tmp 7)], none⟩, 
    ⟨(some 3), .alloc [(.slice none 0 0)], none⟩, 
    ⟨none, .store 1 (.tmp 3) (.tmp 8), none⟩])
  (.seq (.seq (.region [
    ⟨(some 9), .faddr 3 (.tmp 1), none⟩, 
    ⟨(some 10), .load false 1 (.tmp 9), none⟩, 
    ⟨(some 11), .len (.tmp 10), none⟩, 
    ⟨(some 12), .mov (.const (.int .i64 0)), none⟩])
  (.block 0
    (.loop
      (.seq (.region [
        ⟨(some 13), .bin .lss .num (.tmp 12) (.tmp 11), none⟩])
      (.seq (.cond (.tmp 13)
        .skip
        (.exit 0))
      (.seq (.block 1
        (.seq (.region [
          ⟨(some 14), .iaddr 4 (.tmp 10) (.tmp 12), none⟩, 
          ⟨(some 15), .load true 4 (.tmp 14), none⟩, 
          ⟨(some 5), .alloc [(.int .u8 0), (.int .i64 0), (.slice none 0 0), (.slice none 0 0)], none⟩, 
          ⟨none, .store 4 (.tmp 5) (.tmp 15), none⟩])
        (.draw [
          ⟨0, ⟨(some 16), .load true 1 (.tmp 3), none⟩, 0, 0, false⟩, 
          ⟨1, ⟨(some 17), .load true 4 (.tmp 5), none⟩, 0, 0, false⟩, 
          ⟨2, ⟨(some 18), .call (.func 61) [(.tmp 17)], none⟩, 2, 0, false⟩, 
          ⟨3, ⟨(some 19), .call (.func 89) [(.tmp 16), (.tmp 18)], none⟩, 7, 1, false⟩, 
          ⟨4, ⟨none, .store 1 (.tmp 3) (.tmp 19), none⟩, 15, 1, false⟩])))
      (.region [
        ⟨(some 20), .bin .add .num (.tmp 12) (.const (.int .i64 1)), none⟩, 
        ⟨(some 12), .mov (.tmp 20), none⟩])))))))
  (.seq (.region [
    ⟨(some 21), .load true 1 (.tmp 3), none⟩, 
    ⟨none, .store 1 (.tmp 2) (.tmp 21), none⟩])
  .ret))))
theorem ok61 : FnOk Tryd.prog 61 22 ir61 [.cell 2 true 1] := fnOk_of mixed Tryd.func61 (by kernel_rfl) Tryd.ntmps61 (by kernel_rfl) (by kernel_rfl)

def ir62 : ACode :=
  (.seq (.region [
    ⟨(some 2), .box (.tmp 0), none⟩, 
    ⟨(some 3), .mov (.const (.bool false)), none⟩])
  (.seq (.region [
    ⟨(some 4), .load true 4 (.tmp 1), none⟩, 
    ⟨(some 5), .load true 1 (.tmp 2), none⟩, 
    ⟨(some 6), .call (.func 63) [(.tmp 4), (.tmp 5)], none⟩, 
    ⟨(some 7), .bin .eql .num (.tmp 6) (.const (.int .i64 0)), none⟩, 
    ⟨(some 3), .mov (.tmp 7), none⟩])
  .ret))
theorem ok62 : FnOk Tryd.prog 62 8 ir62 [.tmp 3] := fnOk_of mixed Tryd.func62 (by kernel_rfl) Tryd.ntmps62 (by kernel_rfl) (by kernel_rfl)

def ir63 : ACode :=
  (.seq (.region [
    ⟨(some 2), .box (.tmp 0), none⟩, 
    ⟨(some 3), .box (.tmp 1), none⟩, 
    ⟨(some 4), .mov (.const (.int .i64 0)), none⟩])
  (.seq (.region [
    ⟨(some 5), .alloc [(.int .i64 0), (.int .i64 0)], none⟩])
  (.seq (.seq (.region [
    ⟨(some 8), .faddr 3 (.tmp 2), none⟩, 
    ⟨(some 9), .load false 1 (.tmp 8), none⟩, 
    ⟨(some 10), .len (.tmp 9), none⟩, 
    ⟨(some 11), .mov (.const (.int .i64 0)), none⟩])
  (.block 0
    (.loop
      (.seq (.region [
        ⟨(some 12), .bin .lss .num (.tmp 11) (.tmp 10), none⟩])
      (.seq (.cond (.tmp 12)
        .skip
        (.exit 0))
      (.seq (.block 1
        (.seq (.region [
          ⟨(some 13), .mov (.tmp 11), none⟩, 
          ⟨(some 14), .iaddr 4 (.tmp 9) (.tmp 11), none⟩, 
          ⟨(some 15), .load true 4 (.tmp 14), none⟩, 
          ⟨(some 7), .alloc [(.int .u8 0), (.int .i64 0), (.slice none 0 0), (.slice none 0 0)], none⟩, 
          ⟨(some 6), .mov (.tmp 13), none⟩, 
          ⟨none, .store 4 (.tmp 7) (.tmp 15), none⟩])
        (.region [
          ⟨(some 16), .mov (.tmp 6), none⟩, 
          ⟨(some 17), .load true 4 (.tmp 7), none⟩, 
          ⟨(some 18), .load true 1 (.tmp 3), none⟩, 
          ⟨(some 19), .call (.func 63) [(.tmp 17), (.tmp 18)], none⟩, 
          ⟨(some 20), .iaddrA 2 1 (.tmp 5) (.tmp 16), none⟩, 
          ⟨none, .store 1 (.tmp 20) (.tmp 19), none⟩])))
      (.region [
        ⟨(some 21), .bin .add .num (.tmp 11) (.const (.int .i64 1)), none⟩, 
        ⟨(some 11), .mov (.tmp 21), none⟩])))))))
  (.seq (.seq (.region [
    ⟨(some 22), .faddr 0 (.tmp 2), none⟩, 
    ⟨(some 23), .load false 1 (.tmp 22), none⟩])
  (.block 2
    (.seq (.region [
      ⟨(some 25), .bin .eql .num (.tmp 23) (.const (.int .u8 1)), none⟩, 
      ⟨(some 24), .mov (.tmp 25), none⟩])
    (.cond (.tmp 24)
      (.seq (.region [
        ⟨(some 26), .faddr 1 (.tmp 2), none⟩, 
        ⟨(some 27), .load false 1 (.tmp 26), none⟩, 
        ⟨(some 4), .mov (.tmp 27), none⟩])
      .ret)
      (.seq (.region [
        ⟨(some 29), .bin .eql .num (.tmp 23) (.const (.int .u8 2)), none⟩, 
        ⟨(some 28), .mov (.tmp 29), none⟩])
      (.cond (.tmp 28)
        (.seq (.region [
          ⟨(some 4), .mov (.const (.int .i64 1)), none⟩])
        .ret)
        (.seq (.seq (.region [
          ⟨(some 31), .bin .eql .num (.tmp 23) (.const (.int .u8 4)), none⟩, 
          ⟨(some 30), .mov (.tmp 31), none⟩])
        (.cond (.tmp 30)
          .skip
          (.region [
            ⟨(some 32), .bin .eql .num (.tmp 23) (.const (.int .u8 5)), none⟩, 
            ⟨(some 30), .mov (.tmp 32), none⟩])))
        (.cond (.tmp 30)
          (.seq (.region [
            ⟨(some 33), .faddr 2 (.tmp 2), none⟩, 
            ⟨(some 34), .load false 1 (.tmp 33), none⟩, 
            ⟨(some 35), .load true 1 (.tmp 3), none⟩, 
            ⟨(some 36), .call (.func 100) [(.tmp 34), (.tmp 35)], none⟩, 
            ⟨(some 4), .mov (.tmp 36), none⟩])
          .ret)
          (.seq (.region [
            ⟨(some 38), .bin .eql .num (.tmp 23) (.const (.int .u8 7)), none⟩, 
            ⟨(some 37), .mov (.tmp 38), none⟩])
          (.cond (.tmp 37)
            (.seq (.region [
              ⟨(some 39), .iaddrA 2 1 (.tmp 5) (.const (.int .i64 0)), none⟩, 
              ⟨(some 40), .load false 1 (.tmp 39), none⟩, 
              ⟨(some 41), .bin .sub .num (.const (.int .i64 1)) (.tmp 40), none⟩, 
              ⟨(some 4), .mov (.tmp 41), none⟩])
            .ret)
            (.seq (.region [
              ⟨(some 43), .bin .eql .num (.tmp 23) (.const (.int .u8 8)), none⟩, 
              ⟨(some 42), .mov (.tmp 43), none⟩])
            (.cond (.tmp 42)
              (.seq (.region [
                ⟨(some 44), .iaddrA 2 1 (.tmp 5) (.const (.int .i64 0)), none⟩, 
                ⟨(some 45), .load false 1 (.tmp 44), none⟩, 
                ⟨(some 46), .iaddrA 2 1 (.tmp 5) (.const (.int .i64 1)), none⟩, 
                ⟨(some 47), .load false 1 (.tmp 46), none⟩, 
                ⟨(some 48), .bin .and .num (.tmp 45) (.tmp 47), none⟩, 
                ⟨(some 4), .mov (.tmp 48), none⟩])
              .ret)
              (.seq (.region [
                ⟨(some 50), .bin .eql .num (.tmp 23) (.const (.int .u8 9)), none⟩, 
                ⟨(some 49), .mov (.tmp 50), none⟩])
              (.cond (.tmp 49)
                (.seq (.region [
                  ⟨(some 51), .iaddrA 2 1 (.tmp 5) (.const (.int .i64 0)), none⟩, 
                  ⟨(some 52), .load false 1 (.tmp 51), none⟩, 
                  ⟨(some 53), .iaddrA 2 1 (.tmp 5) (.const (.int .i64 1)), none⟩, 
                  ⟨(some 54), .load false 1 (.tmp 53), none⟩, 
                  ⟨(some 55), .bin .or .num (.tmp 52) (.tmp 54), none⟩, 
                  ⟨(some 4), .mov (.tmp 55), none⟩])
                .ret)
                (.seq (.region [
                  ⟨(some 57), .bin .eql .num (.tmp 23) (.const (.int .u8 10)), none⟩, 
                  ⟨(some 56), .mov (.tmp 57), none⟩])
                (.cond (.tmp 56)
                  (.seq (.region [
                    ⟨(some 58), .iaddrA 2 1 (.tmp 5) (.const (.int .i64 0)), none⟩, 
                    ⟨(some 59), .load false 1 (.tmp 58), none⟩, 
                    ⟨(some 60), .bin .sub .num (.const (.int .i64 1)) (.tmp 59), none⟩, 
                    ⟨(some 61), .iaddrA 2 1 (.tmp 5) (.const (.int .i64 1)), none⟩, 
                    ⟨(some 62), .load false 1 (.tmp 61), none⟩, 
                    ⟨(some 63), .bin .or .num (.tmp 60) (.tmp 62), none⟩, 
                    ⟨(some 4), .mov (.tmp 63), none⟩])
                  .ret)
                  (.seq (.region [
                    ⟨(some 65), .bin .eql .num (.tmp 23) (.const (.int .u8 11)), none⟩, 
                    ⟨(some 64), .mov (.tmp 65), none⟩])
                  (.cond (.tmp 64)
                    (.seq (.region [
                      ⟨(some 66), .iaddrA 2 1 (.tmp 5) (.const (.int .i64 0)), none⟩, 
                      ⟨(some 67), .load false 1 (.tmp 66), none⟩, 
                      ⟨(some 68), .iaddrA 2 1 (.tmp 5) (.const (.int .i64 1)), none⟩, 
                      ⟨(some 69), .load false 1 (.tmp 68), none⟩, 
                      ⟨(some 70), .bin .leq .num (.tmp 67) (.tmp 69), none⟩, 
                      ⟨(some 71), .call (.func 101) [(.tmp 70)], none⟩, 
                      ⟨(some 4), .mov (.tmp 71), none⟩])
                    .ret)
                    (.seq (.region [
                      ⟨(some 73), .bin .eql .num (.tmp 23) (.const (.int .u8 12)), none⟩, 
                      ⟨(some 72), .mov (.tmp 73), none⟩])
                    (.cond (.tmp 72)
                      (.seq (.region [
                        ⟨(some 74), .iaddrA 2 1 (.tmp 5) (.const (.int .i64 0)), none⟩, 
                        ⟨(some 75), .load false 1 (.tmp 74), none⟩, 
                        ⟨(some 76), .iaddrA 2 1 (.tmp 5) (.const (.int .i64 1)), none⟩, 
                        ⟨(some 77), .load false 1 (.tmp 76), none⟩, 
                        ⟨(some 78), .bin .lss .num (.tmp 75) (.tmp 77), none⟩, 
                        ⟨(some 79), .call (.func 101) [(.tmp 78)], none⟩, 
                        ⟨(some 4), .mov (.tmp 79), none⟩])
                      .ret)
                      (.seq (.region [
                        ⟨(some 81), .bin .eql .num (.tmp 23) (.const (.int .u8 13)), none⟩, 
                        ⟨(some 80), .mov (.tmp 81), none⟩])
                      (.cond (.tmp 80)
                        (.seq (.region [
                          ⟨(some 82), .iaddrA 2 1 (.tmp 5) (.const (.int .i64 0)), none⟩, 
                          ⟨(some 83), .load false 1 (.tmp 82), none⟩, 
                          ⟨(some 84), .iaddrA 2 1 (.tmp 5) (.const (.int .i64 1)), none⟩, 
                          ⟨(some 85), .load false 1 (.tmp 84), none⟩, 
                          ⟨(some 86), .bin .geq .num (.tmp 83) (.tmp 85), none⟩, 
                          ⟨(some 87), .call (.func 101) [(.tmp 86)], none⟩, 
                          ⟨(some 4), .mov (.tmp 87), none⟩])
                        .ret)
                        (.seq (.region [
                          ⟨(some 89), .bin .eql .num (.tmp 23) (.const (.int .u8 14)), none⟩, 
                          ⟨(some 88), .mov (.tmp 89), none⟩])
                        (.cond (.tmp 88)
                          (.seq (.region [
                            ⟨(some 90), .iaddrA 2 1 (.tmp 5) (.const (.int .i64 0)), none⟩, 
                            ⟨(some 91), .load false 1 (.tmp 90), none⟩, 
                            ⟨(some 92), .iaddrA 2 1 (.tmp 5) (.const (.int .i64 1)), none⟩, 
                            ⟨(some 93), .load false 1 (.tmp 92), none⟩, 
                            ⟨(some 94), .bin .gtr .num (.tmp 91) (.tmp 93), none⟩, 
                            ⟨(some 95), .call (.func 101) [(.tmp 94)], none⟩, 
                            ⟨(some 4), .mov (.tmp 95), none⟩])
                          .ret)
                          (.seq (.region [
                            ⟨(some 97), .bin .eql .num (.tmp 23) (.const (.int .u8 15)), none⟩, 
                            ⟨(some 96), .mov (.tmp 97), none⟩])
                          (.cond (.tmp 96)
                            (.seq (.region [
                              ⟨(some 98), .iaddrA 2 1 (.tmp 5) (.const (.int .i64 0)), none⟩, 
                              ⟨(some 99), .load false 1 (.tmp 98), none⟩, 
                              ⟨(some 100), .iaddrA 2 1 (.tmp 5) (.const (.int .i64 1)), none⟩, 
                              ⟨(some 101), .load false 1 (.tmp 100), none⟩, 
                              ⟨(some 102), .bin .eql .num (.tmp 99) (.tmp 101), none⟩, 
                              ⟨(some 103), .call (.func 101) [(.tmp 102)], none⟩, 
                              ⟨(some 4), .mov (.tmp 103), none⟩])
                            .ret)
                            (.seq (.region [
                              ⟨(some 105), .bin .eql .num (.tmp 23) (.const (.int .u8 16)), none⟩, 
                              ⟨(some 104), .mov (.tmp 105), none⟩])
                            (.cond (.tmp 104)
                              (.seq (.region [
                                ⟨(some 106), .iaddrA 2 1 (.tmp 5) (.const (.int .i64 0)), none⟩, 
                                ⟨(some 107), .load false 1 (.tmp 106), none⟩, 
                                ⟨(some 108), .iaddrA 2 1 (.tmp 5) (.const (.int .i64 1)), none⟩, 
                                ⟨(some 109), .load false 1 (.tmp 108), none⟩, 
                                ⟨(some 110), .bin .add .num (.tmp 107) (.tmp 109), none⟩, 
                                ⟨(some 4), .mov (.tmp 110), none⟩])
                              .ret)
                              .skip))))))))))))))))))))))))))))
  (.seq (.region [
    ⟨(some 4), .mov (.const (.int .i64 0)), none⟩])
  .ret)))))
theorem ok63 : FnOk Tryd.prog 63 111 ir63 [.tmp 4] := fnOk_of mixed Tryd.func63 (by kernel_rfl) Tryd.ntmps63 (by kernel_rfl) (by kernel_rfl)

def ir65 : ACode :=
  (.seq (.region [
    ⟨(some 2), .alloc [(.slice none 0 0)], none⟩])
  (.seq (.block 0
    (.loop
      (.seq (.seq (.region [
        ⟨(some 3), .mov (.tmp 0), none⟩, 
        ⟨(some 4), .len (.tmp 3), none⟩, 
        ⟨(some 5), .bin .gtr .num (.tmp 4) (.const (.int .i64 0)), none⟩, 
        ⟨(some 6), .mov (.tmp 5), none⟩, 
        ⟨(some 7), .mov (.tmp 0), (some (6, true))⟩, 
        ⟨(some 8), .mov (.tmp 0), (some (6, true))⟩, 
        ⟨(some 9), .len (.tmp 8), (some (6, true))⟩, 
        ⟨(some 10), .bin .sub .num (.tmp 9) (.const (.int .i64 1)), (some (6, true))⟩, 
        ⟨(some 11), .iaddr 1 (.tmp 7) (.tmp 10), (some (6, true))⟩, 
        ⟨(some 12), .load false 1 (.tmp 11), (some (6, true))⟩, 
        ⟨(some 13), .bin .eql .num (.tmp 12) (.const (.int .u64 0)), (some (6, true))⟩, 
        ⟨(some 14), .pick (.tmp 6) (.tmp 13) (.const (.bool false)), none⟩])
      (.cond (.tmp 14)
        .skip
        (.exit 0)))
      (.block 1
        (.region [
          ⟨(some 15), .mov (.tmp 0), none⟩, 
          ⟨(some 16), .mov (.tmp 0), none⟩, 
          ⟨(some 17), .len (.tmp 16), none⟩, 
          ⟨(some 18), .bin .sub .num (.tmp 17) (.const (.int .i64 1)), none⟩, 
          ⟨(some 19), .slc 1 (.tmp 15) none (some (.tmp 18)) none, none⟩, 
          ⟨(some 0), .mov (.tmp 19), none⟩])))))
  (.seq (.region [
    ⟨(some 20), .mov (.tmp 0), none⟩, 
    ⟨(some 21), .build [(.slice none 0 0)] [(0, 1, (.tmp 20))], none⟩, 
    ⟨none, .store 1 (.tmp 2) (.tmp 21), none⟩])
  .ret)))
theorem ok65 : FnOk Tryd.prog 65 22 ir65 [.cell 2 true 1] := fnOk_of mixed Tryd.func65 (by kernel_rfl) Tryd.ntmps65 (by kernel_rfl) (by kernel_rfl)

def ir67 : ACode :=
  (.seq (.region [
    ⟨(some 1), .box (.tmp 0), none⟩, 
    ⟨(some 2), .mov (.const (.bool false)), none⟩])
  (.seq (.region [
    ⟨(some 3), .faddr 0 (.tmp 1), none⟩, 
    ⟨(some 4), .load false 1 (.tmp 3), none⟩, 
    ⟨(some 5), .len (.tmp 4), none⟩, 
    ⟨(some 6), .bin .eql .num (.tmp 5) (.const (.int .i64 0)), none⟩, 
    ⟨(some 2), .mov (.tmp 6), none⟩])
  .ret))
theorem ok67 : FnOk Tryd.prog 67 7 ir67 [.tmp 2] := fnOk_of mixed Tryd.func67 (by kernel_rfl) Tryd.ntmps67 (by kernel_rfl) (by kernel_rfl)

def ir69 : ACode :=
  (.seq (.region [
    ⟨(some 4), .mov (.const (.int .i64 0)), none⟩])
  (.seq (.seq (.region [
    ⟨(some 6), .mov (.tmp 0), none⟩, 
    ⟨(some 7), .len (.tmp 6), none⟩, 
    ⟨(some 8), .mov (.const (.int .i64 0)), none⟩])
  (.block 0
    (.loop
      (.seq (.region [
        ⟨(some 9), .bin .lss .num (.tmp 8) (.tmp 7), none⟩])
      (.seq (.cond (.tmp 9)
        .skip
        (.exit 0))
      (.seq (.block 1
        (.seq (.region [
          ⟨(some 10), .mov (.tmp 8), none⟩, 
          ⟨(some 5), .mov (.tmp 10), none⟩])
        (.seq (.region [
          ⟨(some 11), .mov (.tmp 1), none⟩, 
          ⟨(some 12), .mov (.tmp 0), none⟩, 
          ⟨(some 13), .mov (.tmp 5), none⟩, 
          ⟨(some 14), .iaddr 2 (.tmp 12) (.tmp 13), none⟩, 
          ⟨(some 15), .load true 2 (.tmp 14), none⟩, 
          ⟨(some 16), .call (.tmp 11) [(.tmp 15)], none⟩])
        (.cond (.tmp 16)
          (.seq (.region [
            ⟨(some 17), .mov (.tmp 5), none⟩, 
            ⟨(some 4), .mov (.tmp 17), none⟩])
          .ret)
          .skip))))
      (.region [
        ⟨(some 18), .bin .add .num (.tmp 8) (.const (.int .i64 1)), none⟩, 
        ⟨(some 8), .mov (.tmp 18), none⟩])))))))
  (.seq (.region [
    ⟨(some 4), .mov (.const (.int .i64 (-1))), none⟩])
  .ret)))
theorem ok69 : FnOk Tryd.prog 69 19 ir69 [.tmp 4] := fnOk_of mixed Tryd.func69 (by kernel_rfl) Tryd.ntmps69 (by kernel_rfl) (by kernel_rfl)

def ir74 : ACode :=
  (.seq (.region [
    ⟨(some 2), .box (.tmp 0), none⟩, 
    ⟨(some 3), .box (.tmp 1), none⟩, 
    ⟨(some 4), .mov (.const (.bool false)), none⟩])
  (.seq (.seq (.region [
    ⟨(some 6), .faddr 0 (.tmp 2), none⟩, 
    ⟨(some 7), .load false 1 (.tmp 6), none⟩, 
    ⟨(some 8), .len (.tmp 7), none⟩, 
    ⟨(some 9), .faddr 0 (.tmp 3), none⟩, 
    ⟨(some 10), .load false 1 (.tmp 9), none⟩, 
    ⟨(some 11), .len (.tmp 10), none⟩, 
    ⟨(some 12), .mn (.tmp 8) (.tmp 11), none⟩, 
    ⟨(some 13), .mov (.const (.int .i64 0)), none⟩])
  (.block 0
    (.loop
      (.seq (.region [
        ⟨(some 14), .bin .lss .num (.tmp 13) (.tmp 12), none⟩])
      (.seq (.cond (.tmp 14)
        .skip
        (.exit 0))
      (.seq (.block 1
        (.seq (.region [
          ⟨(some 15), .mov (.tmp 13), none⟩, 
          ⟨(some 5), .mov (.tmp 15), none⟩])
        (.seq (.draw [
          ⟨0, ⟨(some 16), .faddr 0 (.tmp 2), none⟩, 0, 0, false⟩, 
          ⟨1, ⟨(some 17), .load false 1 (.tmp 16), none⟩, 1, 0, false⟩, 
          ⟨2, ⟨(some 18), .mov (.tmp 5), none⟩, 0, 0, false⟩, 
          ⟨3, ⟨(some 19), .iaddr 1 (.tmp 17) (.tmp 18), none⟩, 7, 0, false⟩, 
          ⟨4, ⟨(some 20), .load false 1 (.tmp 19), none⟩, 15, 0, false⟩, 
          ⟨5, ⟨(some 21), .faddr 0 (.tmp 3), none⟩, 0, 0, false⟩, 
          ⟨6, ⟨(some 22), .load false 1 (.tmp 21), none⟩, 32, 0, false⟩, 
          ⟨7, ⟨(some 23), .mov (.tmp 5), none⟩, 0, 0, false⟩, 
          ⟨8, ⟨(some 24), .iaddr 1 (.tmp 22) (.tmp 23), none⟩, 224, 0, false⟩, 
          ⟨9, ⟨(some 25), .load false 1 (.tmp 24), none⟩, 480, 0, false⟩, 
          ⟨10, ⟨(some 26), .bin .and .num (.tmp 20) (.tmp 25), none⟩, 1023, 1, false⟩, 
          ⟨11, ⟨(some 27), .bin .neq .num (.tmp 26) (.const (.int .u64 0)), none⟩, 2047, 1, false⟩])
        (.cond (.tmp 27)
          (.seq (.region [
            ⟨(some 4), .mov (.const (.bool true)), none⟩])
          .ret)
          .skip))))
      (.region [
        ⟨(some 28), .bin .add .num (.tmp 13) (.const (.int .i64 1)), none⟩, 
        ⟨(some 13), .mov (.tmp 28), none⟩])))))))
  (.seq (.region [
    ⟨(some 4), .mov (.const (.bool false)), none⟩])
  .ret)))
theorem ok74 : FnOk Tryd.prog 74 29 ir74 [.tmp 4] := fnOk_of mixed Tryd.func74 (by kernel_rfl) Tryd.ntmps74 (by kernel_rfl) (by kernel_rfl)

def ir75 : ACode :=
  (.seq (.region [
    ⟨(some 5), .faddr 0 (.tmp 1), none⟩, 
    ⟨(some 6), .load false 1 (.tmp 5), none⟩, 
    ⟨(some 7), .len (.tmp 6), none⟩, 
    ⟨(some 8), .mov (.const (.int .i64 0)), none⟩])
  (.block 0
    (.loop
      (.seq (.region [
        ⟨(some 9), .bin .lss .num (.tmp 8) (.tmp 7), none⟩])
      (.seq (.cond (.tmp 9)
        .skip
        (.exit 0))
      (.seq (.block 1
        (.seq (.region [
          ⟨(some 10), .mov (.tmp 8), none⟩, 
          ⟨(some 11), .iaddr 1 (.tmp 6) (.tmp 8), none⟩, 
          ⟨(some 12), .load false 1 (.tmp 11), none⟩, 
          ⟨(some 3), .mov (.tmp 10), none⟩, 
          ⟨(some 4), .mov (.tmp 12), none⟩])
        (.block 2
          (.loop
            (.seq (.seq (.region [
              ⟨(some 13), .mov (.tmp 4), none⟩, 
              ⟨(some 14), .bin .neq .num (.tmp 13) (.const (.int .u64 0)), none⟩])
            (.cond (.tmp 14)
              .skip
              (.exit 2)))
            (.seq (.block 3
              (.seq (.region [
                ⟨(some 19), .mov (.tmp 0), none⟩, 
                ⟨(some 20), .mov (.tmp 3), none⟩, 
                ⟨(some 21), .bin .mul .num (.const (.int .i64 64)) (.tmp 20), none⟩, 
                ⟨(some 22), .mov (.tmp 4), none⟩, 
                ⟨(some 23), .call (.func 76) [(.tmp 22)], none⟩, 
                ⟨(some 24), .bin .add .num (.tmp 21) (.tmp 23), none⟩, 
                ⟨(some 25), .call (.tmp 19) [(.tmp 24)], none⟩, 
                ⟨(some 26), .una .not (.tmp 25), none⟩])
              (.cond (.tmp 26)
                .ret
                .skip)))
            (.region [
              ⟨(some 15), .mov (.tmp 4), none⟩, 
              ⟨(some 16), .mov (.tmp 4), none⟩, 
              ⟨(some 17), .bin .sub .num (.tmp 16) (.const (.int .u64 1)), none⟩, 
              ⟨(some 18), .bin .and .num (.tmp 15) (.tmp 17), none⟩, 
              ⟨(some 4), .mov (.tmp 18), none⟩])))))))
      (.region [
        ⟨(some 27), .bin .add .num (.tmp 8) (.const (.int .i64 1)), none⟩, 
        ⟨(some 8), .mov (.tmp 27), none⟩])))))))
theorem ok75 : FnOk Tryd.prog 75 28 ir75 [] := fnOk_of mixed Tryd.func75 (by kernel_rfl) Tryd.ntmps75 (by kernel_rfl) (by kernel_rfl)

def ir76 : ACode :=
  (.seq (.region [
    ⟨(some 2), .mov (.const (.int .i64 0)), none⟩])
  (.seq (.seq (.region [
    ⟨(some 3), .mov (.tmp 0), none⟩, 
    ⟨(some 4), .bin .eql .num (.tmp 3) (.const (.int .u64 0)), none⟩])
  (.cond (.tmp 4)
    (.seq (.region [
      ⟨(some 2), .mov (.const (.int .i64 64)), none⟩])
    .ret)
    .skip))
  (.seq (.region [
    ⟨(some 5), .mov (.tmp 0), none⟩, 
    ⟨(some 6), .mov (.tmp 0), none⟩, 
    ⟨(some 7), .una .neg (.tmp 6), none⟩, 
    ⟨(some 8), .bin .and .num (.tmp 5) (.tmp 7), none⟩, 
    ⟨(some 9), .bin .mul .num (.tmp 8) (.const (.int .u64 285870213051353865)), none⟩, 
    ⟨(some 10), .bin .shr .num (.tmp 9) (.const (.int .u64 58)), none⟩, 
    ⟨(some 11), .iaddrA 64 1 (.global 0) (.tmp 10), none⟩, 
    ⟨(some 12), .load false 1 (.tmp 11), none⟩, 
    ⟨(some 13), .conv .i64 (.tmp 12), none⟩, 
    ⟨(some 2), .mov (.tmp 13), none⟩])
  .ret)))
theorem ok76 : FnOk Tryd.prog 76 14 ir76 [.tmp 2] := fnOk_of mixed Tryd.func76 (by kernel_rfl) Tryd.ntmps76 (by kernel_rfl) (by kernel_rfl)

def ir77 : ACode :=
  (.seq (.region [
    ⟨(some 2), .box (.tmp 0), none⟩, 
    ⟨(some 4), .mov (.const (.bool false)), none⟩])
  (.seq (.region [
    ⟨(some 5), .mov (.tmp 1), none⟩, 
    ⟨(some 6), .bin .geq .num (.tmp 5) (.const (.int .i64 0)), none⟩, 
    ⟨(some 7), .mov (.tmp 6), none⟩, 
    ⟨(some 8), .mov (.tmp 1), (some (7, true))⟩, 
    ⟨(some 9), .bin .leq .num (.tmp 8) (.const (.int .i64 4095)), (some (7, true))⟩, 
    ⟨(some 10), .pick (.tmp 7) (.tmp 9) (.const (.bool false)), none⟩, 
    ⟨(some 11), .mov (.tmp 10), none⟩, 
    ⟨(some 12), .load true 1 (.tmp 2), (some (11, true))⟩, 
    ⟨(some 13), .mov (.tmp 1), (some (11, true))⟩, 
    ⟨(some 14), .bin .quo .num (.tmp 13) (.const (.int .i64 64)), (some (11, true))⟩, 
    ⟨(some 15), .call (.func 103) [(.tmp 12), (.tmp 14)], (some (11, true))⟩, 
    ⟨(some 16), .mov (.tmp 1), (some (11, true))⟩, 
    ⟨(some 17), .bin .rem .num (.tmp 16) (.const (.int .i64 64)), (some (11, true))⟩, 
    ⟨(some 18), .bin .shr .num (.tmp 15) (.tmp 17), (some (11, true))⟩, 
    ⟨(some 19), .bin .and .num (.tmp 18) (.const (.int .u64 1)), (some (11, true))⟩, 
    ⟨(some 20), .bin .eql .num (.tmp 19) (.const (.int .u64 1)), (some (11, true))⟩, 
    ⟨(some 21), .pick (.tmp 11) (.tmp 20) (.const (.bool false)), none⟩, 
    ⟨(some 4), .mov (.tmp 21), none⟩])
  .ret))
theorem ok77 : FnOk Tryd.prog 77 22 ir77 [.tmp 4] := fnOk_of mixed Tryd.func77 (by kernel_rfl) Tryd.ntmps77 (by kernel_rfl) (by kernel_rfl)

def ir78 : ACode :=
  (.seq (.region [
    ⟨(some 2), .box (.tmp 0), none⟩, 
    ⟨(some 3), .box (.tmp 1), none⟩, 
    ⟨(some 4), .mov (.const (.bool false)), none⟩])
  (.seq (.seq (.region [
    ⟨(some 7), .faddr 0 (.tmp 2), none⟩, 
    ⟨(some 8), .load false 1 (.tmp 7), none⟩, 
    ⟨(some 9), .len (.tmp 8), none⟩, 
    ⟨(some 10), .mov (.const (.int .i64 0)), none⟩])
  (.block 0
    (.loop
      (.seq (.region [
        ⟨(some 11), .bin .lss .num (.tmp 10) (.tmp 9), none⟩])
      (.seq (.cond (.tmp 11)
        .skip
        (.exit 0))
      (.seq (.block 1
        (.seq (.region [
          ⟨(some 12), .mov (.tmp 10), none⟩, 
          ⟨(some 13), .iaddr 1 (.tmp 8) (.tmp 10), none⟩, 
          ⟨(some 14), .load false 1 (.tmp 13), none⟩, 
          ⟨(some 5), .mov (.tmp 12), none⟩, 
          ⟨(some 6), .mov (.tmp 14), none⟩])
        (.seq (.region [
          ⟨(some 15), .mov (.tmp 6), none⟩, 
          ⟨(some 16), .load true 1 (.tmp 3), none⟩, 
          ⟨(some 17), .mov (.tmp 5), none⟩, 
          ⟨(some 18), .call (.func 103) [(.tmp 16), (.tmp 17)], none⟩, 
          ⟨(some 19), .bin .andNot .num (.tmp 15) (.tmp 18), none⟩, 
          ⟨(some 20), .bin .neq .num (.tmp 19) (.const (.int .u64 0)), none⟩])
        (.cond (.tmp 20)
          (.seq (.region [
            ⟨(some 4), .mov (.const (.bool false)), none⟩])
          .ret)
          .skip))))
      (.region [
        ⟨(some 21), .bin .add .num (.tmp 10) (.const (.int .i64 1)), none⟩, 
        ⟨(some 10), .mov (.tmp 21), none⟩])))))))
  (.seq (.region [
    ⟨(some 4), .mov (.const (.bool true)), none⟩])
  .ret)))
theorem ok78 : FnOk Tryd.prog 78 22 ir78 [.tmp 4] := fnOk_of mixed Tryd.func78 (by kernel_rfl) Tryd.ntmps78 (by kernel_rfl) (by kernel_rfl)

def ir79 : ACode :=
  (.seq (.region [
    ⟨(some 1), .box (.tmp 0), none⟩, 
    ⟨(some 2), .mov (.const (.int .u8 0)), none⟩, 
    ⟨(some 3), .mov (.const (.int .i64 0)), none⟩])
  (.seq (.seq (.region [
    ⟨(some 5), .load true 4 (.tmp 1), none⟩, 
    ⟨(some 6), .call (.func 97) [(.tmp 5), (.const (.int .u8 0))], none⟩, 
    ⟨(some 4), .mov (.tmp 6), none⟩])
  (.seq (.region [
    ⟨(some 7), .mov (.tmp 4), none⟩, 
    ⟨(some 8), .bin .neq .num (.tmp 7) (.const (.int .i64 0)), none⟩])
  (.cond (.tmp 8)
    (.seq (.region [
      ⟨(some 9), .mov (.tmp 4), none⟩, 
      ⟨(some 2), .mov (.const (.int .u8 0)), none⟩, 
      ⟨(some 3), .mov (.tmp 9), none⟩])
    .ret)
    .skip)))
  (.seq (.seq (.region [
    ⟨(some 10), .load true 4 (.tmp 1), none⟩, 
    ⟨(some 11), .call (.func 98) [(.tmp 10)], none⟩, 
    ⟨(some 12), .una .not (.tmp 11), none⟩])
  (.cond (.tmp 12)
    (.seq (.region [
      ⟨(some 2), .mov (.const (.int .u8 0)), none⟩, 
      ⟨(some 3), .mov (.const (.int .i64 10)), none⟩])
    .ret)
    .skip))
  (.seq (.region [
    ⟨(some 13), .faddr 0 (.tmp 1), none⟩, 
    ⟨(some 14), .load false 1 (.tmp 13), none⟩, 
    ⟨(some 15), .call (.func 99) [(.tmp 14)], none⟩, 
    ⟨(some 2), .mov (.tmp 15), none⟩, 
    ⟨(some 3), .mov (.const (.int .i64 0)), none⟩])
  .ret))))
theorem ok79 : FnOk Tryd.prog 79 16 ir79 [.tmp 2, .tmp 3] := fnOk_of mixed Tryd.func79 (by kernel_rfl) Tryd.ntmps79 (by kernel_rfl) (by kernel_rfl)

def ir80 : ACode :=
  (.seq (.region [
    ⟨(some 2), .box (.tmp 0), none⟩, 
    ⟨(some 3), .box (.tmp 1), none⟩, 
    ⟨(some 4), .mov (.const (.int .i64 0)), none⟩])
  (.seq (.seq (.region [
    ⟨(some 10), .faddr 0 (.tmp 3), none⟩, 
    ⟨(some 11), .load false 1 (.tmp 10), none⟩])
  (.block 0
    (.seq (.region [
      ⟨(some 13), .bin .eql .num (.tmp 11) (.const (.int .u8 1)), none⟩, 
      ⟨(some 12), .mov (.tmp 13), none⟩])
    (.cond (.tmp 12)
      (.seq (.region [
        ⟨(some 14), .faddr 1 (.tmp 3), none⟩, 
        ⟨(some 15), .load false 1 (.tmp 14), none⟩, 
        ⟨(some 4), .mov (.tmp 15), none⟩])
      .ret)
      (.seq (.region [
        ⟨(some 17), .bin .eql .num (.tmp 11) (.const (.int .u8 2)), none⟩, 
        ⟨(some 16), .mov (.tmp 17), none⟩])
      (.cond (.tmp 16)
        (.seq (.region [
          ⟨(some 4), .mov (.const (.int .i64 1)), none⟩])
        .ret)
        (.seq (.region [
          ⟨(some 19), .bin .eql .num (.tmp 11) (.const (.int .u8 3)), none⟩, 
          ⟨(some 18), .mov (.tmp 19), none⟩])
        (.cond (.tmp 18)
          (.seq (.region [
            ⟨(some 4), .mov (.const (.int .i64 0)), none⟩])
          .ret)
          (.seq (.seq (.region [
            ⟨(some 21), .bin .eql .num (.tmp 11) (.const (.int .u8 4)), none⟩, 
            ⟨(some 20), .mov (.tmp 21), none⟩])
          (.cond (.tmp 20)
            .skip
            (.region [
              ⟨(some 22), .bin .eql .num (.tmp 11) (.const (.int .u8 5)), none⟩, 
              ⟨(some 20), .mov (.tmp 22), none⟩])))
          (.cond (.tmp 20)
            (.seq (.region [
              ⟨(some 5), .mov (.const (.int .i64 0)), none⟩])
            (.seq (.seq (.region [
              ⟨(some 23), .faddr 2 (.tmp 3), none⟩, 
              ⟨(some 24), .load false 1 (.tmp 23), none⟩, 
              ⟨(some 25), .len (.tmp 24), none⟩, 
              ⟨(some 26), .mov (.const (.int .i64 0)), none⟩])
            (.block 1
              (.loop
                (.seq (.region [
                  ⟨(some 27), .bin .lss .num (.tmp 26) (.tmp 25), none⟩])
                (.seq (.cond (.tmp 27)
                  .skip
                  (.exit 1))
                (.seq (.block 2
                  (.seq (.region [
                    ⟨(some 28), .iaddr 1 (.tmp 24) (.tmp 26), none⟩, 
                    ⟨(some 29), .load false 1 (.tmp 28), none⟩, 
                    ⟨(some 7), .mov (.tmp 29), none⟩])
                  (.region [
                    ⟨(some 30), .mov (.tmp 5), none⟩, 
                    ⟨(some 31), .faddr 0 (.tmp 2), none⟩, 
                    ⟨(some 32), .load true 1 (.tmp 31), none⟩, 
                    ⟨(some 33), .mov (.tmp 7), none⟩, 
                    ⟨(some 34), .call (.func 77) [(.tmp 32), (.tmp 33)], none⟩, 
                    ⟨(some 35), .call (.func 104) [(.tmp 34)], none⟩, 
                    ⟨(some 36), .bin .add .num (.tmp 30) (.tmp 35), none⟩, 
                    ⟨(some 5), .mov (.tmp 36), none⟩])))
                (.region [
                  ⟨(some 37), .bin .add .num (.tmp 26) (.const (.int .i64 1)), none⟩, 
                  ⟨(some 26), .mov (.tmp 37), none⟩])))))))
            (.seq (.region [
              ⟨(some 38), .mov (.tmp 5), none⟩, 
              ⟨(some 4), .mov (.tmp 38), none⟩])
            .ret)))
            (.seq (.region [
              ⟨(some 40), .bin .eql .num (.tmp 11) (.const (.int .u8 6)), none⟩, 
              ⟨(some 39), .mov (.tmp 40), none⟩])
            (.cond (.tmp 39)
              (.seq (.draw [
                ⟨0, ⟨(some 41), .load true 2 (.tmp 2), none⟩, 0, 0, false⟩, 
                ⟨1, ⟨(some 42), .faddr 2 (.tmp 3), none⟩, 0, 0, false⟩, 
                ⟨2, ⟨(some 43), .load false 1 (.tmp 42), none⟩, 2, 0, false⟩, 
                ⟨3, ⟨(some 44), .iaddr 1 (.tmp 43) (.const (.int .i64 0)), none⟩, 6, 0, false⟩, 
                ⟨4, ⟨(some 45), .load false 1 (.tmp 44), none⟩, 14, 0, false⟩, 
                ⟨5, ⟨(some 46), .call (.func 105) [(.tmp 41), (.tmp 45)], none⟩, 31, 1, false⟩, 
                ⟨6, ⟨(some 4), .mov (.tmp 46), none⟩, 63, 1, false⟩])
              .ret)
              (.seq (.region [
                ⟨(some 48), .bin .eql .num (.tmp 11) (.const (.int .u8 7)), none⟩, 
                ⟨(some 47), .mov (.tmp 48), none⟩])
              (.cond (.tmp 47)
                (.seq (.draw [
                  ⟨0, ⟨(some 49), .load true 2 (.tmp 2), none⟩, 0, 0, false⟩, 
                  ⟨1, ⟨(some 50), .faddr 3 (.tmp 3), none⟩, 0, 0, false⟩, 
                  ⟨2, ⟨(some 51), .load false 1 (.tmp 50), none⟩, 2, 0, false⟩, 
                  ⟨3, ⟨(some 52), .iaddr 4 (.tmp 51) (.const (.int .i64 0)), none⟩, 6, 0, false⟩, 
                  ⟨4, ⟨(some 53), .load true 4 (.tmp 52), none⟩, 14, 0, false⟩, 
                  ⟨5, ⟨(some 54), .call (.func 80) [(.tmp 49), (.tmp 53)], none⟩, 31, 1, false⟩, 
                  ⟨6, ⟨(some 55), .bin .sub .num (.const (.int .i64 1)) (.tmp 54), none⟩, 63, 1, false⟩, 
                  ⟨7, ⟨(some 4), .mov (.tmp 55), none⟩, 127, 1, false⟩])
                .ret)
                .skip))))))))))))))
  (.seq (.draw [
    ⟨0, ⟨(some 56), .load true 2 (.tmp 2), none⟩, 0, 0, false⟩, 
    ⟨1, ⟨(some 57), .faddr 3 (.tmp 3), none⟩, 0, 0, false⟩, 
    ⟨2, ⟨(some 58), .load false 1 (.tmp 57), none⟩, 2, 0, false⟩, 
    ⟨3, ⟨(some 59), .iaddr 4 (.tmp 58) (.const (.int .i64 0)), none⟩, 6, 0, false⟩, 
    ⟨4, ⟨(some 60), .load true 4 (.tmp 59), none⟩, 14, 0, false⟩, 
    ⟨5, ⟨(some 61), .call (.func 80) [(.tmp 56), (.tmp 60)], none⟩, 31, 0, false⟩, 
    ⟨6, ⟨(some 62), .load true 2 (.tmp 2), none⟩, 0, 0, false⟩, 
    ⟨7, ⟨(some 63), .faddr 3 (.tmp 3), none⟩, 0, 0, false⟩, 
    ⟨8, ⟨(some 64), .load false 1 (.tmp 63), none⟩, 128, 0, false⟩, 
    ⟨9, ⟨(some 65), .iaddr 4 (.tmp 64) (.const (.int .i64 1)), none⟩, 384, 0, false⟩, 
    ⟨10, ⟨(some 66), .load true 4 (.tmp 65), none⟩, 896, 0, false⟩, 
    ⟨11, ⟨(some 67), .call (.func 80) [(.tmp 62), (.tmp 66)], none⟩, 2047, 1, false⟩, 
    ⟨12, ⟨(some 8), .mov (.tmp 61), none⟩, 4095, 1, false⟩, 
    ⟨13, ⟨(some 9), .mov (.tmp 67), none⟩, 8191, 1, false⟩])
  (.seq (.seq (.region [
    ⟨(some 68), .faddr 0 (.tmp 3), none⟩, 
    ⟨(some 69), .load false 1 (.tmp 68), none⟩])
  (.block 3
    (.seq (.region [
      ⟨(some 71), .bin .eql .num (.tmp 69) (.const (.int .u8 8)), none⟩, 
      ⟨(some 70), .mov (.tmp 71), none⟩])
    (.cond (.tmp 70)
      (.seq (.region [
        ⟨(some 72), .mov (.tmp 8), none⟩, 
        ⟨(some 73), .mov (.tmp 9), none⟩, 
        ⟨(some 74), .bin .mul .num (.tmp 72) (.tmp 73), none⟩, 
        ⟨(some 4), .mov (.tmp 74), none⟩])
      .ret)
      (.seq (.region [
        ⟨(some 76), .bin .eql .num (.tmp 69) (.const (.int .u8 9)), none⟩, 
        ⟨(some 75), .mov (.tmp 76), none⟩])
      (.cond (.tmp 75)
        (.seq (.region [
          ⟨(some 77), .mov (.tmp 8), none⟩, 
          ⟨(some 78), .mov (.tmp 9), none⟩, 
          ⟨(some 79), .mx (.tmp 77) (.tmp 78), none⟩, 
          ⟨(some 4), .mov (.tmp 79), none⟩])
        .ret)
        (.seq (.region [
          ⟨(some 81), .bin .eql .num (.tmp 69) (.const (.int .u8 10)), none⟩, 
          ⟨(some 80), .mov (.tmp 81), none⟩])
        (.cond (.tmp 80)
          (.seq (.region [
            ⟨(some 82), .mov (.tmp 8), none⟩, 
            ⟨(some 83), .bin .sub .num (.const (.int .i64 1)) (.tmp 82), none⟩, 
            ⟨(some 84), .mov (.tmp 9), none⟩, 
            ⟨(some 85), .mx (.tmp 83) (.tmp 84), none⟩, 
            ⟨(some 4), .mov (.tmp 85), none⟩])
          .ret)
          (.seq (.region [
            ⟨(some 87), .bin .eql .num (.tmp 69) (.const (.int .u8 11)), none⟩, 
            ⟨(some 86), .mov (.tmp 87), none⟩])
          (.cond (.tmp 86)
            (.seq (.region [
              ⟨(some 88), .mov (.tmp 8), none⟩, 
              ⟨(some 89), .mov (.tmp 9), none⟩, 
              ⟨(some 90), .bin .leq .num (.tmp 88) (.tmp 89), none⟩, 
              ⟨(some 91), .call (.func 104) [(.tmp 90)], none⟩, 
              ⟨(some 4), .mov (.tmp 91), none⟩])
            .ret)
            (.seq (.region [
              ⟨(some 93), .bin .eql .num (.tmp 69) (.const (.int .u8 12)), none⟩, 
              ⟨(some 92), .mov (.tmp 93), none⟩])
            (.cond (.tmp 92)
              (.seq (.region [
                ⟨(some 94), .mov (.tmp 8), none⟩, 
                ⟨(some 95), .mov (.tmp 9), none⟩, 
                ⟨(some 96), .bin .lss .num (.tmp 94) (.tmp 95), none⟩, 
                ⟨(some 97), .call (.func 104) [(.tmp 96)], none⟩, 
                ⟨(some 4), .mov (.tmp 97), none⟩])
              .ret)
              (.seq (.region [
                ⟨(some 99), .bin .eql .num (.tmp 69) (.const (.int .u8 13)), none⟩, 
                ⟨(some 98), .mov (.tmp 99), none⟩])
              (.cond (.tmp 98)
                (.seq (.region [
                  ⟨(some 100), .mov (.tmp 8), none⟩, 
                  ⟨(some 101), .mov (.tmp 9), none⟩, 
                  ⟨(some 102), .bin .geq .num (.tmp 100) (.tmp 101), none⟩, 
                  ⟨(some 103), .call (.func 104) [(.tmp 102)], none⟩, 
                  ⟨(some 4), .mov (.tmp 103), none⟩])
                .ret)
                (.seq (.region [
                  ⟨(some 105), .bin .eql .num (.tmp 69) (.const (.int .u8 14)), none⟩, 
                  ⟨(some 104), .mov (.tmp 105), none⟩])
                (.cond (.tmp 104)
                  (.seq (.region [
                    ⟨(some 106), .mov (.tmp 8), none⟩, 
                    ⟨(some 107), .mov (.tmp 9), none⟩, 
                    ⟨(some 108), .bin .gtr .num (.tmp 106) (.tmp 107), none⟩, 
                    ⟨(some 109), .call (.func 104) [(.tmp 108)], none⟩, 
                    ⟨(some 4), .mov (.tmp 109), none⟩])
                  .ret)
                  (.seq (.region [
                    ⟨(some 111), .bin .eql .num (.tmp 69) (.const (.int .u8 15)), none⟩, 
                    ⟨(some 110), .mov (.tmp 111), none⟩])
                  (.cond (.tmp 110)
                    (.seq (.region [
                      ⟨(some 112), .mov (.tmp 8), none⟩, 
                      ⟨(some 113), .mov (.tmp 9), none⟩, 
                      ⟨(some 114), .bin .eql .num (.tmp 112) (.tmp 113), none⟩, 
                      ⟨(some 115), .call (.func 104) [(.tmp 114)], none⟩, 
                      ⟨(some 4), .mov (.tmp 115), none⟩])
                    .ret)
                    .skip))))))))))))))))))
  (.seq (.region [
    ⟨(some 116), .mov (.tmp 8), none⟩, 
    ⟨(some 117), .mov (.tmp 9), none⟩, 
    ⟨(some 118), .bin .add .num (.tmp 116) (.tmp 117), none⟩, 
    ⟨(some 4), .mov (.tmp 118), none⟩])
  .ret)))))
theorem ok80 : FnOk Tryd.prog 80 119 ir80 [.tmp 4] := fnOk_of mixed Tryd.func80 (by kernel_rfl) Tryd.ntmps80 (by kernel_rfl) (by kernel_rfl)

def ir81 : ACode :=
  (.seq (.region [
    ⟨(some 2), .box (.tmp 0), none⟩, 
    ⟨(some 3), .mov (.const (.bool false)), none⟩])
  (.seq (.region [
    ⟨(some 4), .load true 2 (.tmp 2), none⟩, 
    ⟨(some 5), .load true 1 (.tmp 1), none⟩, 
    ⟨(some 6), .call (.func 82) [(.tmp 4), (.tmp 5)], none⟩, 
    ⟨(some 3), .mov (.tmp 6), none⟩])
  .ret))
theorem ok81 : FnOk Tryd.prog 81 7 ir81 [.tmp 3] := fnOk_of mixed Tryd.func81 (by kernel_rfl) Tryd.ntmps81 (by kernel_rfl) (by kernel_rfl)

def ir82 : ACode :=
  (.seq (.region [
    ⟨(some 2), .box (.tmp 0), none⟩, 
    ⟨(some 3), .box (.tmp 1), none⟩, 
    ⟨(some 4), .mov (.const (.bool false)), none⟩])
  (.seq (.region [
    ⟨(some 5), .faddr 0 (.tmp 2), none⟩, 
    ⟨(some 6), .load true 1 (.tmp 5), none⟩, 
    ⟨(some 7), .load true 1 (.tmp 3), none⟩, 
    ⟨(some 8), .call (.func 78) [(.tmp 6), (.tmp 7)], none⟩, 
    ⟨(some 9), .mov (.tmp 8), none⟩, 
    ⟨(some 10), .faddr 1 (.tmp 2), (some (9, true))⟩, 
    ⟨(some 11), .load true 1 (.tmp 10), (some (9, true))⟩, 
    ⟨(some 12), .load true 1 (.tmp 3), (some (9, true))⟩, 
    ⟨(some 13), .call (.func 74) [(.tmp 11), (.tmp 12)], (some (9, true))⟩, 
    ⟨(some 14), .una .not (.tmp 13), (some (9, true))⟩, 
    ⟨(some 15), .pick (.tmp 9) (.tmp 14) (.const (.bool false)), none⟩, 
    ⟨(some 4), .mov (.tmp 15), none⟩])
  .ret))
theorem ok82 : FnOk Tryd.prog 82 16 ir82 [.tmp 4] := fnOk_of mixed Tryd.func82 (by kernel_rfl) Tryd.ntmps82 (by kernel_rfl) (by kernel_rfl)

def ir83 : ACode :=
  (.seq (.region [
    ⟨(some 1), .box (.tmp 0), none⟩, 
    ⟨(some 2), .mov (.const (.int .i64 0)), none⟩, 
    ⟨(some 3), .mov (.const (.bool false)), none⟩])
  (.seq (.seq (.region [
    ⟨(some 5), .load true 1 (.tmp 1), none⟩, 
    ⟨(some 6), .call (.func 67) [(.tmp 5)], none⟩])
  (.cond (.tmp 6)
    (.seq (.region [
      ⟨(some 2), .mov (.const (.int .i64 0)), none⟩, 
      ⟨(some 3), .mov (.const (.bool false)), none⟩])
    .ret)
    .skip))
  (.seq (.region [
    ⟨(some 7), .faddr 0 (.tmp 1), none⟩, 
    ⟨(some 8), .load false 1 (.tmp 7), none⟩, 
    ⟨(some 9), .len (.tmp 8), none⟩, 
    ⟨(some 10), .bin .sub .num (.tmp 9) (.const (.int .i64 1)), none⟩, 
    ⟨(some 4), .mov (.tmp 10), none⟩])
  (.seq (.region [
    ⟨(some 11), .mov (.tmp 4), none⟩, 
    ⟨(some 12), .bin .mul .num (.const (.int .i64 64)) (.tmp 11), none⟩, 
    ⟨(some 13), .faddr 0 (.tmp 1), none⟩, 
    ⟨(some 14), .load false 1 (.tmp 13), none⟩, 
    ⟨(some 15), .mov (.tmp 4), none⟩, 
    ⟨(some 16), .iaddr 1 (.tmp 14) (.tmp 15), none⟩, 
    ⟨(some 17), .load false 1 (.tmp 16), none⟩, 
    ⟨(some 18), .call (.func 106) [(.tmp 17)], none⟩, 
    ⟨(some 19), .bin .add .num (.tmp 12) (.tmp 18), none⟩, 
    ⟨(some 20), .bin .sub .num (.tmp 19) (.const (.int .i64 1)), none⟩, 
    ⟨(some 2), .mov (.tmp 20), none⟩, 
    ⟨(some 3), .mov (.const (.bool true)), none⟩])
  .ret))))
theorem ok83 : FnOk Tryd.prog 83 21 ir83 [.tmp 2, .tmp 3] := fnOk_of mixed Tryd.func83 (by kernel_rfl) Tryd.ntmps83 (by kernel_rfl) (by kernel_rfl)

def ir84 : ACode :=
  (.seq (.region [
    ⟨(some 1), .box (.tmp 0), none⟩, 
    ⟨(some 2), .mov (.const (.int .i64 0)), none⟩])
  (.seq (.region [
    ⟨(some 3), .mov (.const (.int .i64 0)), none⟩])
  (.seq (.seq (.region [
    ⟨(some 6), .faddr 0 (.tmp 1), none⟩, 
    ⟨(some 7), .load false 1 (.tmp 6), none⟩, 
    ⟨(some 8), .len (.tmp 7), none⟩, 
    ⟨(some 9), .mov (.const (.int .i64 0)), none⟩])
  (.block 0
    (.loop
      (.seq (.region [
        ⟨(some 10), .bin .lss .num (.tmp 9) (.tmp 8), none⟩])
      (.seq (.cond (.tmp 10)
        .skip
        (.exit 0))
      (.seq (.block 1
        (.seq (.region [
          ⟨(some 11), .iaddr 1 (.tmp 7) (.tmp 9), none⟩, 
          ⟨(some 12), .load false 1 (.tmp 11), none⟩, 
          ⟨(some 5), .mov (.tmp 12), none⟩])
        (.region [
          ⟨(some 13), .mov (.tmp 3), none⟩, 
          ⟨(some 14), .mov (.tmp 5), none⟩, 
          ⟨(some 15), .call (.func 107) [(.tmp 14)], none⟩, 
          ⟨(some 16), .bin .add .num (.tmp 13) (.tmp 15), none⟩, 
          ⟨(some 3), .mov (.tmp 16), none⟩])))
      (.region [
        ⟨(some 17), .bin .add .num (.tmp 9) (.const (.int .i64 1)), none⟩, 
        ⟨(some 9), .mov (.tmp 17), none⟩])))))))
  (.seq (.region [
    ⟨(some 18), .mov (.tmp 3), none⟩, 
    ⟨(some 2), .mov (.tmp 18), none⟩])
  .ret))))
theorem ok84 : FnOk Tryd.prog 84 19 ir84 [.tmp 2] := fnOk_of mixed Tryd.func84 (by kernel_rfl) Tryd.ntmps84 (by kernel_rfl) (by kernel_rfl)

def ir85 : ACode :=
  (.seq (.region [
    ⟨(some 6), .mov (.const (.bool false)), none⟩])
  (.seq (.seq (.region [
    ⟨(some 9), .mov (.tmp 0), none⟩, 
    ⟨(some 10), .mov (.tmp 1), none⟩, 
    ⟨(some 11), .mov (.tmp 2), none⟩, 
    ⟨(some 12), .call (.func 108) [(.tmp 9), (.tmp 10), (.tmp 11)], none⟩, 
    ⟨(some 13), .una .not (.tmp 12), none⟩])
  (.cond (.tmp 13)
    (.seq (.region [
      ⟨(some 6), .mov (.const (.bool false)), none⟩])
    .ret)
    .skip))
  (.seq (.seq (.region [
    ⟨(some 14), .mov (.tmp 0), none⟩, 
    ⟨(some 15), .nilck (.tmp 14), none⟩, 
    ⟨(some 16), .faddr 0 (.tmp 15), none⟩, 
    ⟨(some 17), .load false 1 (.tmp 16), none⟩, 
    ⟨(some 18), .len (.tmp 17), none⟩, 
    ⟨(some 19), .mov (.const (.int .i64 0)), none⟩])
  (.block 0
    (.loop
      (.seq (.region [
        ⟨(some 20), .bin .lss .num (.tmp 19) (.tmp 18), none⟩])
      (.seq (.cond (.tmp 20)
        .skip
        (.exit 0))
      (.seq (.block 1
        (.seq (.region [
          ⟨(some 21), .mov (.tmp 19), none⟩, 
          ⟨(some 7), .mov (.tmp 21), none⟩])
        (.seq (.region [
          ⟨(some 22), .mov (.tmp 7), none⟩, 
          ⟨(some 23), .bin .shl .num (.const (.int .i64 1)) (.tmp 22), none⟩, 
          ⟨(some 8), .mov (.tmp 23), none⟩])
        (.seq (.region [
          ⟨(some 24), .mov (.tmp 1), none⟩, 
          ⟨(some 25), .mov (.tmp 8), none⟩, 
          ⟨(some 26), .bin .and .num (.tmp 24) (.tmp 25), none⟩, 
          ⟨(some 27), .bin .neq .num (.tmp 26) (.const (.int .i64 0)), none⟩, 
          ⟨(some 28), .mov (.tmp 27), none⟩, 
          ⟨(some 29), .mov (.tmp 0), (some (28, true))⟩, 
          ⟨(some 30), .mov (.tmp 1), (some (28, true))⟩, 
          ⟨(some 31), .mov (.tmp 8), (some (28, true))⟩, 
          ⟨(some 32), .bin .sub .num (.tmp 30) (.tmp 31), (some (28, true))⟩, 
          ⟨(some 33), .mov (.tmp 2), (some (28, true))⟩, 
          ⟨(some 34), .call (.func 108) [(.tmp 29), (.tmp 32), (.tmp 33)], (some (28, true))⟩, 
          ⟨(some 35), .pick (.tmp 28) (.tmp 34) (.const (.bool false)), none⟩, 
          ⟨(some 36), .mov (.tmp 35), none⟩, 
          ⟨(some 37), .mov (.tmp 2), (some (36, false))⟩, 
          ⟨(some 38), .mov (.tmp 8), (some (36, false))⟩, 
          ⟨(some 39), .bin .and .num (.tmp 37) (.tmp 38), (some (36, false))⟩, 
          ⟨(some 40), .bin .neq .num (.tmp 39) (.const (.int .i64 0)), (some (36, false))⟩, 
          ⟨(some 41), .mov (.tmp 40), (some (36, false))⟩, 
          ⟨(some 42), .mov (.tmp 0), (some (41, true))⟩, 
          ⟨(some 43), .mov (.tmp 1), (some (41, true))⟩, 
          ⟨(some 44), .mov (.tmp 2), (some (41, true))⟩, 
          ⟨(some 45), .mov (.tmp 8), (some (41, true))⟩, 
          ⟨(some 46), .bin .sub .num (.tmp 44) (.tmp 45), (some (41, true))⟩, 
          ⟨(some 47), .call (.func 108) [(.tmp 42), (.tmp 43), (.tmp 46)], (some (41, true))⟩, 
          ⟨(some 48), .pick (.tmp 41) (.tmp 47) (.const (.bool false)), (some (36, false))⟩, 
          ⟨(some 49), .pick (.tmp 36) (.const (.bool true)) (.tmp 48), none⟩])
        (.cond (.tmp 49)
          (.seq (.region [
            ⟨(some 6), .mov (.const (.bool false)), none⟩])
          .ret)
          .skip)))))
      (.region [
        ⟨(some 50), .bin .add .num (.tmp 19) (.const (.int .i64 1)), none⟩, 
        ⟨(some 19), .mov (.tmp 50), none⟩])))))))
  (.seq (.region [
    ⟨(some 6), .mov (.const (.bool true)), none⟩])
  .ret))))
theorem ok85 : FnOk Tryd.prog 85 51 ir85 [.tmp 6] := fnOk_of mixed Tryd.func85 (by kernel_rfl) Tryd.ntmps85 (by kernel_rfl) (by kernel_rfl)

def ir86 : ACode :=
  (.seq (.region [
    ⟨(some 4), .alloc [(.slice none 0 0)], none⟩])
  (.seq (.region [
    ⟨(some 5), .alloc [(.slice none 0 0)], none⟩])
  (.seq (.seq (.region [
    ⟨(some 8), .mov (.tmp 0), none⟩, 
    ⟨(some 9), .nilck (.tmp 8), none⟩, 
    ⟨(some 10), .faddr 0 (.tmp 9), none⟩, 
    ⟨(some 11), .load false 1 (.tmp 10), none⟩, 
    ⟨(some 12), .len (.tmp 11), none⟩, 
    ⟨(some 13), .mov (.const (.int .i64 0)), none⟩])
  (.block 0
    (.loop
      (.seq (.region [
        ⟨(some 14), .bin .lss .num (.tmp 13) (.tmp 12), none⟩])
      (.seq (.cond (.tmp 14)
        .skip
        (.exit 0))
      (.seq (.block 1
        (.seq (.region [
          ⟨(some 15), .mov (.tmp 13), none⟩, 
          ⟨(some 16), .iaddr 1 (.tmp 11) (.tmp 13), none⟩, 
          ⟨(some 17), .load false 1 (.tmp 16), none⟩, 
          ⟨(some 6), .mov (.tmp 15), none⟩, 
          ⟨(some 7), .mov (.tmp 17), none⟩])
        (.seq (.region [
          ⟨(some 18), .mov (.tmp 1), none⟩, 
          ⟨(some 19), .mov (.tmp 6), none⟩, 
          ⟨(some 20), .bin .shr .num (.tmp 18) (.tmp 19), none⟩, 
          ⟨(some 21), .bin .and .num (.tmp 20) (.const (.int .i64 1)), none⟩, 
          ⟨(some 22), .bin .eql .num (.tmp 21) (.const (.int .i64 1)), none⟩])
        (.cond (.tmp 22)
          (.region [
            ⟨(some 23), .load true 1 (.tmp 5), none⟩, 
            ⟨(some 24), .mov (.tmp 7), none⟩, 
            ⟨(some 25), .call (.func 102) [(.tmp 23), (.tmp 24)], none⟩, 
            ⟨none, .store 1 (.tmp 5) (.tmp 25), none⟩])
          .skip))))
      (.region [
        ⟨(some 26), .bin .add .num (.tmp 13) (.const (.int .i64 1)), none⟩, 
        ⟨(some 13), .mov (.tmp 26), none⟩])))))))
  (.seq (.region [
    ⟨(some 27), .load true 1 (.tmp 5), none⟩, 
    ⟨none, .store 1 (.tmp 4) (.tmp 27), none⟩])
  .ret))))
theorem ok86 : FnOk Tryd.prog 86 28 ir86 [.cell 4 true 1] := fnOk_of mixed Tryd.func86 (by kernel_rfl) Tryd.ntmps86 (by kernel_rfl) (by kernel_rfl)

def ir88 : ACode :=
  (.seq (.region [
    ⟨(some 2), .box (.tmp 0), none⟩, 
    ⟨(some 3), .box (.tmp 1), none⟩, 
    ⟨(some 4), .mov (.const (.int .i64 0)), none⟩])
  (.seq (.seq (.region [
    ⟨(some 6), .faddr 0 (.tmp 2), none⟩, 
    ⟨(some 7), .load true 1 (.tmp 6), none⟩, 
    ⟨(some 8), .faddr 0 (.tmp 3), none⟩, 
    ⟨(some 9), .load true 1 (.tmp 8), none⟩, 
    ⟨(some 10), .call (.func 111) [(.tmp 7), (.tmp 9)], none⟩, 
    ⟨(some 5), .mov (.tmp 10), none⟩])
  (.seq (.region [
    ⟨(some 11), .mov (.tmp 5), none⟩, 
    ⟨(some 12), .bin .neq .num (.tmp 11) (.const (.int .i64 0)), none⟩])
  (.cond (.tmp 12)
    (.seq (.region [
      ⟨(some 13), .mov (.tmp 5), none⟩, 
      ⟨(some 4), .mov (.tmp 13), none⟩])
    .ret)
    .skip)))
  (.seq (.region [
    ⟨(some 14), .faddr 1 (.tmp 2), none⟩, 
    ⟨(some 15), .load true 1 (.tmp 14), none⟩, 
    ⟨(some 16), .faddr 1 (.tmp 3), none⟩, 
    ⟨(some 17), .load true 1 (.tmp 16), none⟩, 
    ⟨(some 18), .call (.func 111) [(.tmp 15), (.tmp 17)], none⟩, 
    ⟨(some 4), .mov (.tmp 18), none⟩])
  .ret)))
theorem ok88 : FnOk Tryd.prog 88 19 ir88 [.tmp 4] := fnOk_of mixed Tryd.func88 (by kernel_rfl) Tryd.ntmps88 (by kernel_rfl) (by kernel_rfl)

def ir89 : ACode :=
  (.seq (.region [
    ⟨(some 2), .box (.tmp 0), none⟩, 
    ⟨(some 3), .box (.tmp 1), none⟩, 
    ⟨(some 4), .alloc [(.slice none 0 0)], none⟩])
  (.seq (.region [
    ⟨(some 7), .faddr 0 (.tmp 2), none⟩, 
    ⟨(some 8), .load false 1 (.tmp 7), none⟩, 
    ⟨(some 9), .len (.tmp 8), none⟩, 
    ⟨(some 10), .faddr 0 (.tmp 3), none⟩, 
    ⟨(some 11), .load false 1 (.tmp 10), none⟩, 
    ⟨(some 12), .len (.tmp 11), none⟩, 
    ⟨(some 13), .mx (.tmp 9) (.tmp 12), none⟩, 
    ⟨(some 14), .mslice [(.int .u64 0)] 8 (.tmp 13) (.tmp 13), none⟩, 
    ⟨(some 5), .mov (.tmp 14), none⟩])
  (.seq (.seq (.region [
    ⟨(some 15), .mov (.tmp 5), none⟩, 
    ⟨(some 16), .len (.tmp 15), none⟩, 
    ⟨(some 17), .mov (.const (.int .i64 0)), none⟩])
  (.block 0
    (.loop
      (.seq (.region [
        ⟨(some 18), .bin .lss .num (.tmp 17) (.tmp 16), none⟩])
      (.seq (.cond (.tmp 18)
        .skip
        (.exit 0))
      (.seq (.block 1
        (.seq (.region [
          ⟨(some 19), .mov (.tmp 17), none⟩, 
          ⟨(some 6), .mov (.tmp 19), none⟩])
        (.draw [
          ⟨0, ⟨(some 20), .mov (.tmp 5), none⟩, 0, 0, false⟩, 
          ⟨1, ⟨(some 21), .mov (.tmp 6), none⟩, 0, 0, false⟩, 
          ⟨2, ⟨(some 22), .load true 1 (.tmp 2), none⟩, 0, 0, false⟩, 
          ⟨3, ⟨(some 23), .mov (.tmp 6), none⟩, 0, 0, false⟩, 
          ⟨4, ⟨(some 24), .call (.func 103) [(.tmp 22), (.tmp 23)], none⟩, 12, 0, false⟩, 
          ⟨5, ⟨(some 25), .load true 1 (.tmp 3), none⟩, 0, 0, false⟩, 
          ⟨6, ⟨(some 26), .mov (.tmp 6), none⟩, 0, 0, false⟩, 
          ⟨7, ⟨(some 27), .call (.func 103) [(.tmp 25), (.tmp 26)], none⟩, 124, 1, false⟩, 
          ⟨8, ⟨(some 28), .bin .or .num (.tmp 24) (.tmp 27), none⟩, 252, 1, false⟩, 
          ⟨9, ⟨(some 29), .iaddr 1 (.tmp 20) (.tmp 21), none⟩, 511, 1, false⟩, 
          ⟨10, ⟨none, .store 1 (.tmp 29) (.tmp 28), none⟩, 1023, 1, false⟩])))
      (.region [
        ⟨(some 30), .bin .add .num (.tmp 17) (.const (.int .i64 1)), none⟩, 
        ⟨(some 17), .mov (.tmp 30), none⟩])))))))
  (.seq (.region [
    ⟨(some 31), .mov (.tmp 5), none⟩, 
    ⟨(some 32), .build [(.slice none 0 0)] [(0, 1, (.tmp 31))], none⟩, 
    ⟨none, .store 1 (.tmp 4) (.tmp 32), none⟩])
  .ret))))
theorem ok89 : FnOk Tryd.prog 89 33 ir89 [.cell 4 true 1] := fnOk_of mixed Tryd.func89 (by kernel_rfl) Tryd.ntmps89 (by kernel_rfl) (by kernel_rfl)

def ir96 : ACode :=
  (.seq (.region [
    ⟨(some 8), .alloc [(.int .i64 0), (.int .i64 0), (.slice none 0 0), (.slice none 0 0)], none⟩])
  (.seq (.region [
    ⟨(some 12), .mov (.tmp 0), none⟩, 
    ⟨(some 13), .call (.func 113) [(.tmp 12)], none⟩, 
    ⟨(some 9), .mov (.tmp 13), none⟩])
  (.seq (.seq (.region [
    ⟨(some 14), .mov (.tmp 1), none⟩, 
    ⟨(some 15), .bin .leq .num (.tmp 14) (.const (.int .i64 1)), none⟩, 
    ⟨(some 16), .mov (.tmp 15), none⟩, 
    ⟨(some 17), .mov (.tmp 9), (some (16, false))⟩, 
    ⟨(some 18), .bin .rem .num (.tmp 17) (.const (.int .i64 8)), (some (16, false))⟩, 
    ⟨(some 19), .bin .leq .num (.tmp 18) (.const (.int .i64 1)), (some (16, false))⟩, 
    ⟨(some 20), .pick (.tmp 16) (.const (.bool true)) (.tmp 19), none⟩])
  (.cond (.tmp 20)
    (.seq (.block 0
      (.seq (.region [
        ⟨(some 22), .mov (.tmp 2), none⟩, 
        ⟨(some 23), .bin .eql .num (.tmp 22) (.const (.int .i64 3)), none⟩, 
        ⟨(some 24), .mov (.tmp 23), none⟩, 
        ⟨(some 25), .mov (.tmp 1), (some (24, true))⟩, 
        ⟨(some 26), .bin .gtr .num (.tmp 25) (.const (.int .i64 1)), (some (24, true))⟩, 
        ⟨(some 27), .pick (.tmp 24) (.tmp 26) (.const (.bool false)), none⟩, 
        ⟨(some 21), .mov (.tmp 27), none⟩])
      (.cond (.tmp 21)
        (.seq (.region [
          ⟨(some 28), .mov (.tmp 0), none⟩, 
          ⟨(some 29), .mov (.tmp 9), none⟩, 
          ⟨(some 30), .bin .quo .num (.tmp 29) (.const (.int .i64 8)), none⟩, 
          ⟨(some 31), .mov (.tmp 1), none⟩, 
          ⟨(some 32), .mov (.tmp 2), none⟩, 
          ⟨(some 33), .mov (.tmp 3), none⟩, 
          ⟨(some 34), .call (.func 114) [(.tmp 28), (.tmp 30), (.tmp 31), (.tmp 32), (.tmp 33)], none⟩, 
          ⟨none, .store 4 (.tmp 8) (.tmp 34), none⟩])
        .ret)
        (.seq (.region [
          ⟨(some 36), .mov (.tmp 2), none⟩, 
          ⟨(some 37), .bin .eql .num (.tmp 36) (.const (.int .i64 3)), none⟩, 
          ⟨(some 38), .mov (.tmp 37), none⟩, 
          ⟨(some 39), .mov (.tmp 9), (some (38, false))⟩, 
          ⟨(some 40), .bin .rem .num (.tmp 39) (.const (.int .i64 16)), (some (38, false))⟩, 
          ⟨(some 41), .bin .eql .num (.tmp 40) (.const (.int .i64 9)), (some (38, false))⟩, 
          ⟨(some 42), .pick (.tmp 38) (.const (.bool true)) (.tmp 41), none⟩, 
          ⟨(some 35), .mov (.tmp 42), none⟩])
        (.cond (.tmp 35)
          (.seq (.region [
            ⟨(some 43), .mov (.tmp 9), none⟩, 
            ⟨(some 44), .bin .quo .num (.tmp 43) (.const (.int .i64 16)), none⟩, 
            ⟨(some 45), .bin .rem .num (.tmp 44) (.const (.int .i64 2)), none⟩, 
            ⟨(some 46), .bin .add .num (.const (.int .i64 2)) (.tmp 45), none⟩, 
            ⟨(some 47), .build [(.int .i64 0), (.int .i64 0), (.slice none 0 0), (.slice none 0 0)] [(0, 1, (.tmp 46))], none⟩, 
            ⟨none, .store 4 (.tmp 8) (.tmp 47), none⟩])
          .ret)
          .skip)))))
    (.seq (.region [
      ⟨(some 48), .mov (.tmp 9), none⟩, 
      ⟨(some 49), .bin .quo .num (.tmp 48) (.const (.int .i64 8)), none⟩, 
      ⟨(some 50), .mov (.tmp 3), none⟩, 
      ⟨(some 51), .bin .rem .num (.tmp 49) (.tmp 50), none⟩, 
      ⟨(some 52), .bin .add .num (.const (.int .i64 1)) (.tmp 51), none⟩, 
      ⟨(some 53), .bslice [(.int .i64 0)] 1 [(0, (.tmp 52))], none⟩, 
      ⟨(some 54), .build [(.int .i64 0), (.int .i64 0), (.slice none 0 0), (.slice none 0 0)] [(0, 1, (.const (.int .i64 4))), (2, 1, (.tmp 53))], none⟩, 
      ⟨none, .store 4 (.tmp 8) (.tmp 54), none⟩])
    .ret))
    .skip))
  (.seq (.seq (.region [
    ⟨(some 55), .mov (.tmp 9), none⟩, 
    ⟨(some 56), .bin .rem .num (.tmp 55) (.const (.int .i64 8)), none⟩, 
    ⟨(some 57), .bin .geq .num (.tmp 56) (.const (.int .i64 6)), none⟩])
  (.cond (.tmp 57)
    (.seq (.region [
      ⟨(some 58), .mov (.tmp 0), none⟩, 
      ⟨(some 59), .mov (.tmp 9), none⟩, 
      ⟨(some 60), .bin .quo .num (.tmp 59) (.const (.int .i64 8)), none⟩, 
      ⟨(some 61), .mov (.tmp 1), none⟩, 
      ⟨(some 62), .mov (.tmp 2), none⟩, 
      ⟨(some 63), .mov (.tmp 3), none⟩, 
      ⟨(some 64), .call (.func 114) [(.tmp 58), (.tmp 60), (.tmp 61), (.tmp 62), (.tmp 63)], none⟩, 
      ⟨none, .store 4 (.tmp 8) (.tmp 64), none⟩])
    .ret)
    .skip))
  (.seq (.region [
    ⟨(some 65), .mov (.tmp 0), none⟩, 
    ⟨(some 66), .mov (.tmp 1), none⟩, 
    ⟨(some 67), .bin .sub .num (.tmp 66) (.const (.int .i64 1)), none⟩, 
    ⟨(some 68), .mov (.tmp 2), none⟩, 
    ⟨(some 69), .mov (.tmp 3), none⟩, 
    ⟨(some 70), .call (.func 96) [(.tmp 65), (.tmp 67), (.tmp 68), (.tmp 69)], none⟩, 
    ⟨(some 10), .alloc [(.int .i64 0), (.int .i64 0), (.slice none 0 0), (.slice none 0 0)], none⟩, 
    ⟨none, .store 4 (.tmp 10) (.tmp 70), none⟩])
  (.seq (.seq (.region [
    ⟨(some 71), .mov (.tmp 9), none⟩, 
    ⟨(some 72), .bin .rem .num (.tmp 71) (.const (.int .i64 8)), none⟩, 
    ⟨(some 73), .bin .eql .num (.tmp 72) (.const (.int .i64 2)), none⟩])
  (.cond (.tmp 73)
    (.seq (.region [
      ⟨(some 74), .load true 4 (.tmp 10), none⟩, 
      ⟨(some 75), .bslice [(.int .i64 0), (.int .i64 0), (.slice none 0 0), (.slice none 0 0)] 1 [(0, (.tmp 74))], none⟩, 
      ⟨(some 76), .build [(.int .i64 0), (.int .i64 0), (.slice none 0 0), (.slice none 0 0)] [(0, 1, (.const (.int .i64 7))), (3, 1, (.tmp 75))], none⟩, 
      ⟨none, .store 4 (.tmp 8) (.tmp 76), none⟩])
    .ret)
    .skip))
  (.seq (.region [
    ⟨(some 77), .mov (.tmp 0), none⟩, 
    ⟨(some 78), .mov (.tmp 1), none⟩, 
    ⟨(some 79), .bin .sub .num (.tmp 78) (.const (.int .i64 1)), none⟩, 
    ⟨(some 80), .mov (.tmp 2), none⟩, 
    ⟨(some 81), .mov (.tmp 3), none⟩, 
    ⟨(some 82), .call (.func 96) [(.tmp 77), (.tmp 79), (.tmp 80), (.tmp 81)], none⟩, 
    ⟨(some 11), .alloc [(.int .i64 0), (.int .i64 0), (.slice none 0 0), (.slice none 0 0)], none⟩, 
    ⟨none, .store 4 (.tmp 11) (.tmp 82), none⟩])
  (.seq (.region [
    ⟨(some 83), .mov (.tmp 9), none⟩, 
    ⟨(some 84), .bin .rem .num (.tmp 83) (.const (.int .i64 8)), none⟩, 
    ⟨(some 85), .bin .add .num (.const (.int .i64 8)) (.tmp 84), none⟩, 
    ⟨(some 86), .bin .sub .num (.tmp 85) (.const (.int .i64 3)), none⟩, 
    ⟨(some 87), .load true 4 (.tmp 10), none⟩, 
    ⟨(some 88), .load true 4 (.tmp 11), none⟩, 
    ⟨(some 89), .bslice [(.int .i64 0), (.int .i64 0), (.slice none 0 0), (.slice none 0 0)] 2 [(0, (.tmp 87)), (1, (.tmp 88))], none⟩, 
    ⟨(some 90), .build [(.int .i64 0), (.int .i64 0), (.slice none 0 0), (.slice none 0 0)] [(0, 1, (.tmp 86)), (3, 1, (.tmp 89))], none⟩, 
    ⟨none, .store 4 (.tmp 8) (.tmp 90), none⟩])
  .ret))))))))
theorem ok96 : FnOk Tryd.prog 96 91 ir96 [.cell 8 true 4] := fnOk_of mixed Tryd.func96 (by kernel_rfl) Tryd.ntmps96 (by kernel_rfl) (by kernel_rfl)

def ir97 : ACode :=
  (.seq (.region [
    ⟨(some 2), .box (.tmp 0), none⟩, 
    ⟨(some 4), .mov (.const (.int .i64 0)), none⟩])
  (.seq (.region [
    ⟨(some 8), .load true 4 (.tmp 2), none⟩, 
    ⟨(some 9), .call (.func 115) [(.tmp 8)], none⟩, 
    ⟨(some 7), .mov (.tmp 9), none⟩, 
    ⟨(some 10), .extract (.tmp 7) 0, none⟩, 
    ⟨(some 11), .extract (.tmp 7) 1, none⟩, 
    ⟨(some 5), .mov (.tmp 10), none⟩, 
    ⟨(some 6), .mov (.tmp 11), none⟩])
  (.seq (.seq (.region [
    ⟨(some 12), .mov (.tmp 5), none⟩, 
    ⟨(some 13), .bin .gtr .num (.tmp 12) (.const (.int .i64 10)), none⟩, 
    ⟨(some 14), .mov (.tmp 13), none⟩, 
    ⟨(some 15), .mov (.tmp 6), (some (14, false))⟩, 
    ⟨(some 16), .bin .gtr .num (.tmp 15) (.const (.int .i64 200)), (some (14, false))⟩, 
    ⟨(some 17), .pick (.tmp 14) (.const (.bool true)) (.tmp 16), none⟩])
  (.cond (.tmp 17)
    (.seq (.region [
      ⟨(some 4), .mov (.const (.int .i64 3)), none⟩])
    .ret)
    .skip))
  (.seq (.region [
    ⟨(some 18), .load true 4 (.tmp 2), none⟩, 
    ⟨(some 19), .mov (.tmp 1), none⟩, 
    ⟨(some 20), .call (.func 116) [(.tmp 18), (.tmp 19)], none⟩, 
    ⟨(some 4), .mov (.tmp 20), none⟩])
  .ret))))
theorem ok97 : FnOk Tryd.prog 97 21 ir97 [.tmp 4] := fnOk_of mixed Tryd.func97 (by kernel_rfl) Tryd.ntmps97 (by kernel_rfl) (by kernel_rfl)

def ir98 : ACode :=
  (.seq (.region [
    ⟨(some 1), .box (.tmp 0), none⟩, 
    ⟨(some 2), .mov (.const (.bool false)), none⟩])
  (.seq (.region [
    ⟨(some 3), .mov (.const (.int .u8 1)), none⟩])
  (.seq (.seq (.region [
    ⟨(some 6), .faddr 0 (.tmp 1), none⟩, 
    ⟨(some 7), .load false 1 (.tmp 6), none⟩, 
    ⟨(some 8), .bin .geq .num (.tmp 7) (.const (.int .u8 11)), none⟩])
  (.cond (.tmp 8)
    (.region [
      ⟨(some 3), .mov (.const (.int .u8 2)), none⟩])
    .skip))
  (.seq (.seq (.region [
    ⟨(some 9), .faddr 3 (.tmp 1), none⟩, 
    ⟨(some 10), .load false 1 (.tmp 9), none⟩, 
    ⟨(some 11), .len (.tmp 10), none⟩, 
    ⟨(some 12), .mov (.const (.int .i64 0)), none⟩])
  (.block 0
    (.loop
      (.seq (.region [
        ⟨(some 13), .bin .lss .num (.tmp 12) (.tmp 11), none⟩])
      (.seq (.cond (.tmp 13)
        .skip
        (.exit 0))
      (.seq (.block 1
        (.seq (.region [
          ⟨(some 14), .iaddr 4 (.tmp 10) (.tmp 12), none⟩, 
          ⟨(some 15), .load true 4 (.tmp 14), none⟩, 
          ⟨(some 5), .alloc [(.int .u8 0), (.int .i64 0), (.slice none 0 0), (.slice none 0 0)], none⟩, 
          ⟨none, .store 4 (.tmp 5) (.tmp 15), none⟩])
        (.seq (.region [
          ⟨(some 16), .faddr 0 (.tmp 5), none⟩, 
          ⟨(some 17), .load false 1 (.tmp 16), none⟩, 
          ⟨(some 18), .call (.func 99) [(.tmp 17)], none⟩, 
          ⟨(some 19), .mov (.tmp 3), none⟩, 
          ⟨(some 20), .bin .neq .num (.tmp 18) (.tmp 19), none⟩, 
          ⟨(some 21), .mov (.tmp 20), none⟩, 
          ⟨(some 22), .load true 4 (.tmp 5), (some (21, false))⟩, 
          ⟨(some 23), .call (.func 98) [(.tmp 22)], (some (21, false))⟩, 
          ⟨(some 24), .una .not (.tmp 23), (some (21, false))⟩, 
          ⟨(some 25), .pick (.tmp 21) (.const (.bool true)) (.tmp 24), none⟩])
        (.cond (.tmp 25)
          (.seq (.region [
            ⟨(some 2), .mov (.const (.bool false)), none⟩])
          .ret)
          .skip))))
      (.region [
        ⟨(some 26), .bin .add .num (.tmp 12) (.const (.int .i64 1)), none⟩, 
        ⟨(some 12), .mov (.tmp 26), none⟩])))))))
  (.seq (.region [
    ⟨(some 2), .mov (.const (.bool true)), none⟩])
  .ret)))))
theorem ok98 : FnOk Tryd.prog 98 27 ir98 [.tmp 2] := fnOk_of mixed Tryd.func98 (by kernel_rfl) Tryd.ntmps98 (by kernel_rfl) (by kernel_rfl)

end Go.Proofs.YtifohjijhhjdkaaDoor

namespace Go.Proofs.YtifohjijhhjdkaaDoor
set_option maxRecDepth 100000

def ir99 : ACode :=
  (.seq (.region [
    ⟨(some 2), .mov (.const (.int .u8 0)), none⟩])
  (.seq (.seq (.region [
    ⟨(some 3), .mov (.tmp 0), none⟩])
  (.block 0
    (.seq (.seq (.region [
      ⟨(some 5), .bin .eql .num (.tmp 3) (.const (.int .u8 1)), none⟩, 
      ⟨(some 4), .mov (.tmp 5), none⟩])
    (.cond (.tmp 4)
      .skip
      (.seq (.region [
        ⟨(some 6), .bin .eql .num (.tmp 3) (.const (.int .u8 5)), none⟩, 
        ⟨(some 4), .mov (.tmp 6), none⟩])
      (.cond (.tmp 4)
        .skip
        (.seq (.region [
          ⟨(some 7), .bin .eql .num (.tmp 3) (.const (.int .u8 6)), none⟩, 
          ⟨(some 4), .mov (.tmp 7), none⟩])
        (.cond (.tmp 4)
          .skip
          (.region [
            ⟨(some 8), .bin .eql .num (.tmp 3) (.const (.int .u8 16)), none⟩, 
            ⟨(some 4), .mov (.tmp 8), none⟩])))))))
    (.cond (.tmp 4)
      (.seq (.region [
        ⟨(some 2), .mov (.const (.int .u8 2)), none⟩])
      .ret)
      .skip))))
  (.seq (.region [
    ⟨(some 2), .mov (.const (.int .u8 1)), none⟩])
  .ret)))
theorem ok99 : FnOk Tryd.prog 99 9 ir99 [.tmp 2] := fnOk_of mixed Tryd.func99 (by kernel_rfl) Tryd.ntmps99 (by kernel_rfl) (by kernel_rfl)

def ir100 : ACode :=
  (.seq (.region [
    ⟨(some 3), .box (.tmp 1), none⟩, 
    ⟨(some 4), .mov (.const (.int .i64 0)), none⟩])
  (.seq (.region [
    ⟨(some 5), .mov (.const (.int .i64 0)), none⟩])
  (.seq (.seq (.region [
    ⟨(some 8), .mov (.tmp 0), none⟩, 
    ⟨(some 9), .len (.tmp 8), none⟩, 
    ⟨(some 10), .mov (.const (.int .i64 0)), none⟩])
  (.block 0
    (.loop
      (.seq (.region [
        ⟨(some 11), .bin .lss .num (.tmp 10) (.tmp 9), none⟩])
      (.seq (.cond (.tmp 11)
        .skip
        (.exit 0))
      (.seq (.block 1
        (.seq (.region [
          ⟨(some 12), .iaddr 1 (.tmp 8) (.tmp 10), none⟩, 
          ⟨(some 13), .load false 1 (.tmp 12), none⟩, 
          ⟨(some 7), .mov (.tmp 13), none⟩])
        (.region [
          ⟨(some 14), .mov (.tmp 5), none⟩, 
          ⟨(some 15), .load true 1 (.tmp 3), none⟩, 
          ⟨(some 16), .mov (.tmp 7), none⟩, 
          ⟨(some 17), .call (.func 77) [(.tmp 15), (.tmp 16)], none⟩, 
          ⟨(some 18), .call (.func 101) [(.tmp 17)], none⟩, 
          ⟨(some 19), .bin .add .num (.tmp 14) (.tmp 18), none⟩, 
          ⟨(some 5), .mov (.tmp 19), none⟩])))
      (.region [
        ⟨(some 20), .bin .add .num (.tmp 10) (.const (.int .i64 1)), none⟩, 
        ⟨(some 10), .mov (.tmp 20), none⟩])))))))
  (.seq (.region [
    ⟨(some 21), .mov (.tmp 5), none⟩, 
    ⟨(some 4), .mov (.tmp 21), none⟩])
  .ret))))
theorem ok100 : FnOk Tryd.prog 100 22 ir100 [.tmp 4] := fnOk_of mixed Tryd.func100 (by kernel_rfl) Tryd.ntmps100 (by kernel_rfl) (by kernel_rfl)

def ir101 : ACode :=
  (.seq (.region [
    ⟨(some 2), .mov (.const (.int .i64 0)), none⟩])
  (.seq (.seq (.region [
    ⟨(some 3), .mov (.tmp 0), none⟩])
  (.cond (.tmp 3)
    (.seq (.region [
      ⟨(some 2), .mov (.const (.int .i64 1)), none⟩])
    .ret)
    .skip))
  (.seq (.region [
    ⟨(some 2), .mov (.const (.int .i64 0)), none⟩])
  .ret)))
theorem ok101 : FnOk Tryd.prog 101 4 ir101 [.tmp 2] := fnOk_of mixed Tryd.func101 (by kernel_rfl) Tryd.ntmps101 (by kernel_rfl) (by kernel_rfl)

def ir102 : ACode :=
  (.seq (.region [
    ⟨(some 2), .box (.tmp 0), none⟩, 
    ⟨(some 4), .alloc [(.slice none 0 0)], none⟩])
  (.seq (.seq (.region [
    ⟨(some 6), .mov (.tmp 1), none⟩, 
    ⟨(some 7), .bin .lss .num (.tmp 6) (.const (.int .i64 0)), none⟩, 
    ⟨(some 8), .mov (.tmp 7), none⟩, 
    ⟨(some 9), .mov (.tmp 1), (some (8, false))⟩, 
    ⟨(some 10), .bin .gtr .num (.tmp 9) (.const (.int .i64 4095)), (some (8, false))⟩, 
    ⟨(some 11), .pick (.tmp 8) (.const (.bool true)) (.tmp 10), none⟩, 
    ⟨(some 12), .mov (.tmp 11), none⟩, 
    ⟨(some 13), .load true 1 (.tmp 2), (some (12, false))⟩, 
    ⟨(some 14), .mov (.tmp 1), (some (12, false))⟩, 
    ⟨(some 15), .call (.func 77) [(.tmp 13), (.tmp 14)], (some (12, false))⟩, 
    ⟨(some 16), .pick (.tmp 12) (.const (.bool true)) (.tmp 15), none⟩])
  (.cond (.tmp 16)
    (.seq (.region [
      ⟨(some 17), .load true 1 (.tmp 2), none⟩, 
      ⟨none, .store 1 (.tmp 4) (.tmp 17), none⟩])
    .ret)
    .skip))
  (.seq (.region [
    ⟨(some 18), .faddr 0 (.tmp 2), none⟩, 
    ⟨(some 19), .load false 1 (.tmp 18), none⟩, 
    ⟨(some 20), .len (.tmp 19), none⟩, 
    ⟨(some 21), .mov (.tmp 1), none⟩, 
    ⟨(some 22), .bin .quo .num (.tmp 21) (.const (.int .i64 64)), none⟩, 
    ⟨(some 23), .bin .add .num (.tmp 22) (.const (.int .i64 1)), none⟩, 
    ⟨(some 24), .mx (.tmp 20) (.tmp 23), none⟩, 
    ⟨(some 25), .mslice [(.int .u64 0)] 8 (.tmp 24) (.tmp 24), none⟩, 
    ⟨(some 5), .mov (.tmp 25), none⟩])
  (.seq (.region [
    ⟨(some 26), .mov (.tmp 5), none⟩, 
    ⟨(some 27), .faddr 0 (.tmp 2), none⟩, 
    ⟨(some 28), .load false 1 (.tmp 27), none⟩, 
    ⟨(some 29), .copy 1 (.tmp 26) (.tmp 28), none⟩])
  (.seq (.draw [
    ⟨0, ⟨(some 30), .mov (.tmp 5), none⟩, 0, 1, false⟩, 
    ⟨1, ⟨(some 31), .mov (.tmp 1), none⟩, 0, 1, false⟩, 
    ⟨2, ⟨(some 32), .bin .quo .num (.tmp 31) (.const (.int .i64 64)), none⟩, 2, 1, false⟩, 
    ⟨3, ⟨(some 33), .iaddr 1 (.tmp 30) (.tmp 32), none⟩, 7, 1, false⟩, 
    ⟨4, ⟨(some 34), .load false 1 (.tmp 33), none⟩, 15, 1, false⟩, 
    ⟨5, ⟨(some 35), .mov (.tmp 1), none⟩, 0, 0, false⟩, 
    ⟨6, ⟨(some 36), .bin .rem .num (.tmp 35) (.const (.int .i64 64)), none⟩, 32, 0, false⟩, 
    ⟨7, ⟨(some 37), .bin .shl .num (.const (.int .u64 1)) (.tmp 36), none⟩, 96, 0, false⟩, 
    ⟨8, ⟨(some 38), .bin .or .num (.tmp 34) (.tmp 37), none⟩, 255, 1, false⟩, 
    ⟨9, ⟨(some 39), .iaddr 1 (.tmp 30) (.tmp 32), none⟩, 511, 1, false⟩, 
    ⟨10, ⟨none, .store 1 (.tmp 39) (.tmp 38), none⟩, 1023, 1, false⟩])
  (.seq (.region [
    ⟨(some 40), .mov (.tmp 5), none⟩, 
    ⟨(some 41), .build [(.slice none 0 0)] [(0, 1, (.tmp 40))], none⟩, 
    ⟨none, .store 1 (.tmp 4) (.tmp 41), none⟩])
  .ret))))))
theorem ok102 : FnOk Tryd.prog 102 42 ir102 [.cell 4 true 1] := fnOk_of mixed Tryd.func102 (by kernel_rfl) Tryd.ntmps102 (by kernel_rfl) (by kernel_rfl)

def ir103 : ACode :=
  (.seq (.region [
    ⟨(some 2), .box (.tmp 0), none⟩, 
    ⟨(some 4), .mov (.const (.int .u64 0)), none⟩])
  (.seq (.seq (.region [
    ⟨(some 5), .mov (.tmp 1), none⟩, 
    ⟨(some 6), .faddr 0 (.tmp 2), none⟩, 
    ⟨(some 7), .load false 1 (.tmp 6), none⟩, 
    ⟨(some 8), .len (.tmp 7), none⟩, 
    ⟨(some 9), .bin .lss .num (.tmp 5) (.tmp 8), none⟩])
  (.cond (.tmp 9)
    (.seq (.region [
      ⟨(some 10), .faddr 0 (.tmp 2), none⟩, 
      ⟨(some 11), .load false 1 (.tmp 10), none⟩, 
      ⟨(some 12), .mov (.tmp 1), none⟩, 
      ⟨(some 13), .iaddr 1 (.tmp 11) (.tmp 12), none⟩, 
      ⟨(some 14), .load false 1 (.tmp 13), none⟩, 
      ⟨(some 4), .mov (.tmp 14), none⟩])
    .ret)
    .skip))
  (.seq (.region [
    ⟨(some 4), .mov (.const (.int .u64 0)), none⟩])
  .ret)))
theorem ok103 : FnOk Tryd.prog 103 15 ir103 [.tmp 4] := fnOk_of mixed Tryd.func103 (by kernel_rfl) Tryd.ntmps103 (by kernel_rfl) (by kernel_rfl)

def ir104 : ACode :=
  (.seq (.region [
    ⟨(some 2), .mov (.const (.int .i64 0)), none⟩])
  (.seq (.seq (.region [
    ⟨(some 3), .mov (.tmp 0), none⟩])
  (.cond (.tmp 3)
    (.seq (.region [
      ⟨(some 2), .mov (.const (.int .i64 1)), none⟩])
    .ret)
    .skip))
  (.seq (.region [
    ⟨(some 2), .mov (.const (.int .i64 0)), none⟩])
  .ret)))
theorem ok104 : FnOk Tryd.prog 104 4 ir104 [.tmp 2] := fnOk_of mixed Tryd.func104 (by kernel_rfl) Tryd.ntmps104 (by kernel_rfl) (by kernel_rfl)

def ir105 : ACode :=
  (.seq (.region [
    ⟨(some 2), .box (.tmp 0), none⟩, 
    ⟨(some 4), .mov (.const (.int .i64 0)), none⟩])
  (.seq (.seq (.region [
    ⟨(some 5), .mov (.tmp 1), none⟩, 
    ⟨(some 6), .bin .lss .num (.tmp 5) (.const (.int .i64 0)), none⟩, 
    ⟨(some 7), .mov (.tmp 6), none⟩, 
    ⟨(some 8), .mov (.tmp 1), (some (7, false))⟩, 
    ⟨(some 9), .faddr 1 (.tmp 2), (some (7, false))⟩, 
    ⟨(some 10), .load false 1 (.tmp 9), (some (7, false))⟩, 
    ⟨(some 11), .len (.tmp 10), (some (7, false))⟩, 
    ⟨(some 12), .bin .geq .num (.tmp 8) (.tmp 11), (some (7, false))⟩, 
    ⟨(some 13), .pick (.tmp 7) (.const (.bool true)) (.tmp 12), none⟩, 
    ⟨(some 14), .mov (.tmp 13), none⟩, 
    ⟨(some 15), .faddr 1 (.tmp 2), (some (14, false))⟩, 
    ⟨(some 16), .load false 1 (.tmp 15), (some (14, false))⟩, 
    ⟨(some 17), .mov (.tmp 1), (some (14, false))⟩, 
    ⟨(some 18), .iaddr 1 (.tmp 16) (.tmp 17), (some (14, false))⟩, 
    ⟨(some 19), .load false 1 (.tmp 18), (some (14, false))⟩, 
    ⟨(some 20), .bin .lss .num (.tmp 19) (.const (.int .i64 0)), (some (14, false))⟩, 
    ⟨(some 21), .pick (.tmp 14) (.const (.bool true)) (.tmp 20), none⟩, 
    ⟨(some 22), .mov (.tmp 21), none⟩, 
    ⟨(some 23), .faddr 1 (.tmp 2), (some (22, false))⟩, 
    ⟨(some 24), .load false 1 (.tmp 23), (some (22, false))⟩, 
    ⟨(some 25), .mov (.tmp 1), (some (22, false))⟩, 
    ⟨(some 26), .iaddr 1 (.tmp 24) (.tmp 25), (some (22, false))⟩, 
    ⟨(some 27), .load false 1 (.tmp 26), (some (22, false))⟩, 
    ⟨(some 28), .bin .gtr .num (.tmp 27) (.const (.int .i64 256)), (some (22, false))⟩, 
    ⟨(some 29), .pick (.tmp 22) (.const (.bool true)) (.tmp 28), none⟩])
  (.cond (.tmp 29)
    (.seq (.region [
      ⟨(some 4), .mov (.const (.int .i64 0)), none⟩])
    .ret)
    .skip))
  (.seq (.region [
    ⟨(some 30), .faddr 1 (.tmp 2), none⟩, 
    ⟨(some 31), .load false 1 (.tmp 30), none⟩, 
    ⟨(some 32), .mov (.tmp 1), none⟩, 
    ⟨(some 33), .iaddr 1 (.tmp 31) (.tmp 32), none⟩, 
    ⟨(some 34), .load false 1 (.tmp 33), none⟩, 
    ⟨(some 4), .mov (.tmp 34), none⟩])
  .ret)))
theorem ok105 : FnOk Tryd.prog 105 35 ir105 [.tmp 4] := fnOk_of mixed Tryd.func105 (by kernel_rfl) Tryd.ntmps105 (by kernel_rfl) (by kernel_rfl)

def ir106 : ACode :=
  (.seq (.region [
    ⟨(some 2), .mov (.const (.int .i64 0)), none⟩])
  (.seq (.seq (.region [
    ⟨(some 3), .mov (.tmp 0), none⟩, 
    ⟨(some 4), .bin .geq .num (.tmp 3) (.const (.int .u64 4294967296)), none⟩])
  (.cond (.tmp 4)
    (.seq (.region [
      ⟨(some 5), .mov (.tmp 0), none⟩, 
      ⟨(some 6), .bin .shr .num (.tmp 5) (.const (.int .u64 32)), none⟩, 
      ⟨(some 0), .mov (.tmp 6), none⟩])
    (.region [
      ⟨(some 2), .mov (.const (.int .i64 32)), none⟩]))
    .skip))
  (.seq (.seq (.region [
    ⟨(some 7), .mov (.tmp 0), none⟩, 
    ⟨(some 8), .bin .geq .num (.tmp 7) (.const (.int .u64 65536)), none⟩])
  (.cond (.tmp 8)
    (.seq (.region [
      ⟨(some 9), .mov (.tmp 0), none⟩, 
      ⟨(some 10), .bin .shr .num (.tmp 9) (.const (.int .u64 16)), none⟩, 
      ⟨(some 0), .mov (.tmp 10), none⟩])
    (.region [
      ⟨(some 11), .mov (.tmp 2), none⟩, 
      ⟨(some 12), .bin .add .num (.tmp 11) (.const (.int .i64 16)), none⟩, 
      ⟨(some 2), .mov (.tmp 12), none⟩]))
    .skip))
  (.seq (.seq (.region [
    ⟨(some 13), .mov (.tmp 0), none⟩, 
    ⟨(some 14), .bin .geq .num (.tmp 13) (.const (.int .u64 256)), none⟩])
  (.cond (.tmp 14)
    (.seq (.region [
      ⟨(some 15), .mov (.tmp 0), none⟩, 
      ⟨(some 16), .bin .shr .num (.tmp 15) (.const (.int .u64 8)), none⟩, 
      ⟨(some 0), .mov (.tmp 16), none⟩])
    (.region [
      ⟨(some 17), .mov (.tmp 2), none⟩, 
      ⟨(some 18), .bin .add .num (.tmp 17) (.const (.int .i64 8)), none⟩, 
      ⟨(some 2), .mov (.tmp 18), none⟩]))
    .skip))
  (.seq (.region [
    ⟨(some 19), .mov (.tmp 2), none⟩, 
    ⟨(some 20), .mov (.tmp 0), none⟩, 
    ⟨(some 21), .conv .u8 (.tmp 20), none⟩, 
    ⟨(some 22), .indexS (.const (.string ⟨#[0, 1, 2, 2, 3, 3, 3, 3, 4, 4, 4, 4, 4, 4, 4, 4, 5, 5, 5, 5, 5, 5, 5, 5, 5, 5, 5, 5, 5, 5, 5, 5, 6, 6, 6, 6, 6, 6, 6, 6, 6, 6, 6, 6, 6, 6, 6, 6, 6, 6, 6, 6, 6, 6, 6, 6, 6, 6, 6, 6, 6, 6, 6, 6, 7, 7, 7, 7, 7, 7, 7, 7, 7, 7, 7, 7, 7, 7, 7, 7, 7, 7, 7, 7, 7, 7, 7, 7, 7, 7, 7, 7, 7, 7, 7, 7, 7, 7, 7, 7, 7, 7, 7, 7, 7, 7, 7, 7, 7, 7, 7, 7, 7, 7, 7, 7, 7, 7, 7, 7, 7, 7, 7, 7, 7, 7, 7, 7, 8, 8, 8, 8, 8, 8, 8, 8, 8, 8, 8, 8, 8, 8, 8, 8, 8, 8, 8, 8, 8, 8, 8, 8, 8, 8, 8, 8, 8, 8, 8, 8, 8, 8, 8, 8, 8, 8, 8, 8, 8, 8, 8, 8, 8, 8, 8, 8, 8, 8, 8, 8, 8, 8, 8, 8, 8, 8, 8, 8, 8, 8, 8, 8, 8, 8, 8, 8, 8, 8, 8, 8, 8, 8, 8, 8, 8, 8, 8, 8, 8, 8, 8, 8, 8, 8, 8, 8, 8, 8, 8, 8, 8, 8, 8, 8, 8, 8, 8, 8, 8, 8, 8, 8, 8, 8, 8, 8, 8, 8, 8, 8, 8, 8, 8, 8, 8, 8, 8, 8, 8, 8, 8, 8, 8, 8, 8, 8]⟩)) (.tmp 21), none⟩, 
    ⟨(some 23), .conv .i64 (.tmp 22), none⟩, 
    ⟨(some 24), .bin .add .num (.tmp 19) (.tmp 23), none⟩, 
    ⟨(some 2), .mov (.tmp 24), none⟩])
  .ret)))))
theorem ok106 : FnOk Tryd.prog 106 25 ir106 [.tmp 2] := fnOk_of mixed Tryd.func106 (by kernel_rfl) Tryd.ntmps106 (by kernel_rfl) (by kernel_rfl)

def ir107 : ACode :=
  (.seq (.region [
    ⟨(some 2), .mov (.const (.int .i64 0)), none⟩])
  (.seq (.region [
    ⟨(some 3), .mov (.tmp 0), none⟩, 
    ⟨(some 4), .bin .shr .num (.tmp 3) (.const (.int .u64 1)), none⟩, 
    ⟨(some 5), .bin .and .num (.tmp 4) (.const (.int .u64 6148914691236517205)), none⟩, 
    ⟨(some 6), .mov (.tmp 0), none⟩, 
    ⟨(some 7), .bin .and .num (.tmp 6) (.const (.int .u64 6148914691236517205)), none⟩, 
    ⟨(some 8), .bin .add .num (.tmp 5) (.tmp 7), none⟩, 
    ⟨(some 0), .mov (.tmp 8), none⟩])
  (.seq (.region [
    ⟨(some 9), .mov (.tmp 0), none⟩, 
    ⟨(some 10), .bin .shr .num (.tmp 9) (.const (.int .u64 2)), none⟩, 
    ⟨(some 11), .bin .and .num (.tmp 10) (.const (.int .u64 3689348814741910323)), none⟩, 
    ⟨(some 12), .mov (.tmp 0), none⟩, 
    ⟨(some 13), .bin .and .num (.tmp 12) (.const (.int .u64 3689348814741910323)), none⟩, 
    ⟨(some 14), .bin .add .num (.tmp 11) (.tmp 13), none⟩, 
    ⟨(some 0), .mov (.tmp 14), none⟩])
  (.seq (.region [
    ⟨(some 15), .mov (.tmp 0), none⟩, 
    ⟨(some 16), .bin .shr .num (.tmp 15) (.const (.int .u64 4)), none⟩, 
    ⟨(some 17), .mov (.tmp 0), none⟩, 
    ⟨(some 18), .bin .add .num (.tmp 16) (.tmp 17), none⟩, 
    ⟨(some 19), .bin .and .num (.tmp 18) (.const (.int .u64 1085102592571150095)), none⟩, 
    ⟨(some 0), .mov (.tmp 19), none⟩])
  (.seq (.region [
    ⟨(some 20), .mov (.tmp 0), none⟩, 
    ⟨(some 21), .mov (.tmp 0), none⟩, 
    ⟨(some 22), .bin .shr .num (.tmp 21) (.const (.int .u64 8)), none⟩, 
    ⟨(some 23), .bin .add .num (.tmp 20) (.tmp 22), none⟩, 
    ⟨(some 0), .mov (.tmp 23), none⟩])
  (.seq (.region [
    ⟨(some 24), .mov (.tmp 0), none⟩, 
    ⟨(some 25), .mov (.tmp 0), none⟩, 
    ⟨(some 26), .bin .shr .num (.tmp 25) (.const (.int .u64 16)), none⟩, 
    ⟨(some 27), .bin .add .num (.tmp 24) (.tmp 26), none⟩, 
    ⟨(some 0), .mov (.tmp 27), none⟩])
  (.seq (.region [
    ⟨(some 28), .mov (.tmp 0), none⟩, 
    ⟨(some 29), .mov (.tmp 0), none⟩, 
    ⟨(some 30), .bin .shr .num (.tmp 29) (.const (.int .u64 32)), none⟩, 
    ⟨(some 31), .bin .add .num (.tmp 28) (.tmp 30), none⟩, 
    ⟨(some 0), .mov (.tmp 31), none⟩])
  (.seq (.region [
    ⟨(some 32), .mov (.tmp 0), none⟩, 
    ⟨(some 33), .conv .i64 (.tmp 32), none⟩, 
    ⟨(some 34), .bin .and .num (.tmp 33) (.const (.int .i64 127)), none⟩, 
    ⟨(some 2), .mov (.tmp 34), none⟩])
  .ret))))))))
theorem ok107 : FnOk Tryd.prog 107 35 ir107 [.tmp 2] := fnOk_of mixed Tryd.func107 (by kernel_rfl) Tryd.ntmps107 (by kernel_rfl) (by kernel_rfl)

def ir108 : ACode :=
  (.seq (.region [
    ⟨(some 6), .mov (.const (.bool false)), none⟩])
  (.seq (.region [
    ⟨(some 13), .mov (.tmp 1), none⟩, 
    ⟨(some 14), .mov (.tmp 2), none⟩, 
    ⟨(some 15), .build [(.int .i64 0), (.int .i64 0)] [(0, 1, (.tmp 13)), (1, 1, (.tmp 14))], none⟩, 
    ⟨(some 7), .alloc [(.int .i64 0), (.int .i64 0)], none⟩, 
    ⟨none, .store 2 (.tmp 7) (.tmp 15), none⟩])
  (.seq (.seq (.draw [
    ⟨0, ⟨(some 17), .mov (.tmp 0), none⟩, 0, 0, false⟩, 
    ⟨1, ⟨(some 18), .nilck (.tmp 17), none⟩, 1, 0, false⟩, 
    ⟨2, ⟨(some 19), .faddr 2 (.tmp 18), none⟩, 3, 0, false⟩, 
    ⟨3, ⟨(some 20), .load false 1 (.tmp 19), none⟩, 7, 0, false⟩, 
    ⟨4, ⟨(some 21), .load true 2 (.tmp 7), none⟩, 0, 0, false⟩, 
    ⟨5, ⟨(some 22), .lookup (.agg [0, 0]) false [(.bool false)] true (.tmp 20) (.tmp 21), none⟩, 31, 1, false⟩, 
    ⟨6, ⟨(some 16), .mov (.tmp 22), none⟩, 63, 1, false⟩, 
    ⟨7, ⟨(some 23), .extract (.tmp 16) 0, none⟩, 127, 1, false⟩, 
    ⟨8, ⟨(some 24), .extract (.tmp 16) 1, none⟩, 127, 1, false⟩, 
    ⟨9, ⟨(some 8), .mov (.tmp 23), none⟩, 255, 1, false⟩, 
    ⟨10, ⟨(some 9), .mov (.tmp 24), none⟩, 1023, 1, false⟩])
  (.seq (.region [
    ⟨(some 25), .mov (.tmp 9), none⟩])
  (.cond (.tmp 25)
    (.seq (.region [
      ⟨(some 26), .mov (.tmp 8), none⟩, 
      ⟨(some 6), .mov (.tmp 26), none⟩])
    .ret)
    .skip)))
  (.seq (.region [
    ⟨(some 10), .mov (.const (.int .i64 (-1))), none⟩])
  (.seq (.seq (.region [
    ⟨(some 27), .mov (.tmp 0), none⟩, 
    ⟨(some 28), .nilck (.tmp 27), none⟩, 
    ⟨(some 29), .faddr 0 (.tmp 28), none⟩, 
    ⟨(some 30), .load false 1 (.tmp 29), none⟩, 
    ⟨(some 31), .len (.tmp 30), none⟩, 
    ⟨(some 32), .mov (.const (.int .i64 0)), none⟩])
  (.block 0
    (.loop
      (.seq (.region [
        ⟨(some 33), .bin .lss .num (.tmp 32) (.tmp 31), none⟩])
      (.seq (.cond (.tmp 33)
        .skip
        (.exit 0))
      (.seq (.block 1
        (.seq (.region [
          ⟨(some 34), .mov (.tmp 32), none⟩, 
          ⟨(some 11), .mov (.tmp 34), none⟩])
        (.seq (.region [
          ⟨(some 35), .mov (.tmp 1), none⟩, 
          ⟨(some 36), .mov (.tmp 2), none⟩, 
          ⟨(some 37), .bin .or .num (.tmp 35) (.tmp 36), none⟩, 
          ⟨(some 38), .mov (.tmp 11), none⟩, 
          ⟨(some 39), .bin .shr .num (.tmp 37) (.tmp 38), none⟩, 
          ⟨(some 40), .bin .and .num (.tmp 39) (.const (.int .i64 1)), none⟩, 
          ⟨(some 41), .bin .eql .num (.tmp 40) (.const (.int .i64 0)), none⟩])
        (.cond (.tmp 41)
          (.region [
            ⟨(some 42), .mov (.tmp 11), none⟩, 
            ⟨(some 10), .mov (.tmp 42), none⟩])
          .skip))))
      (.region [
        ⟨(some 43), .bin .add .num (.tmp 32) (.const (.int .i64 1)), none⟩, 
        ⟨(some 32), .mov (.tmp 43), none⟩])))))))
  (.seq (.region [
    ⟨(some 12), .mov (.const (.bool false)), none⟩])
  (.seq (.seq (.region [
    ⟨(some 44), .mov (.tmp 10), none⟩, 
    ⟨(some 45), .bin .lss .num (.tmp 44) (.const (.int .i64 0)), none⟩])
  (.cond (.tmp 45)
    (.draw [
      ⟨0, ⟨(some 46), .mov (.tmp 0), none⟩, 0, 1, false⟩, 
      ⟨1, ⟨(some 47), .nilck (.tmp 46), none⟩, 1, 1, false⟩, 
      ⟨2, ⟨(some 48), .faddr 1 (.tmp 47), none⟩, 3, 1, false⟩, 
      ⟨3, ⟨(some 49), .load false 1 (.tmp 48), none⟩, 7, 1, false⟩, 
      ⟨4, ⟨(some 50), .mov (.tmp 0), none⟩, 0, 0, false⟩, 
      ⟨5, ⟨(some 51), .mov (.tmp 1), none⟩, 0, 0, false⟩, 
      ⟨6, ⟨(some 52), .call (.func 86) [(.tmp 50), (.tmp 51)], none⟩, 48, 0, false⟩, 
      ⟨7, ⟨(some 53), .call (.tmp 49) [(.tmp 52)], none⟩, 127, 1, false⟩, 
      ⟨8, ⟨(some 12), .mov (.tmp 53), none⟩, 255, 1, false⟩])
    (.region [
      ⟨(some 54), .mov (.tmp 0), none⟩, 
      ⟨(some 55), .mov (.tmp 1), none⟩, 
      ⟨(some 56), .mov (.tmp 10), none⟩, 
      ⟨(some 57), .bin .shl .num (.const (.int .i64 1)) (.tmp 56), none⟩, 
      ⟨(some 58), .bin .or .num (.tmp 55) (.tmp 57), none⟩, 
      ⟨(some 59), .mov (.tmp 2), none⟩, 
      ⟨(some 60), .call (.func 108) [(.tmp 54), (.tmp 58), (.tmp 59)], none⟩, 
      ⟨(some 61), .mov (.tmp 60), none⟩, 
      ⟨(some 62), .mov (.tmp 0), (some (61, true))⟩, 
      ⟨(some 63), .mov (.tmp 1), (some (61, true))⟩, 
      ⟨(some 64), .mov (.tmp 2), (some (61, true))⟩, 
      ⟨(some 65), .mov (.tmp 10), (some (61, true))⟩, 
      ⟨(some 66), .bin .shl .num (.const (.int .i64 1)) (.tmp 65), (some (61, true))⟩, 
      ⟨(some 67), .bin .or .num (.tmp 64) (.tmp 66), (some (61, true))⟩, 
      ⟨(some 68), .call (.func 108) [(.tmp 62), (.tmp 63), (.tmp 67)], (some (61, true))⟩, 
      ⟨(some 69), .pick (.tmp 61) (.tmp 68) (.const (.bool false)), none⟩, 
      ⟨(some 12), .mov (.tmp 69), none⟩])))
  (.seq (.draw [
    ⟨0, ⟨(some 70), .mov (.tmp 0), none⟩, 0, 0, false⟩, 
    ⟨1, ⟨(some 71), .nilck (.tmp 70), none⟩, 1, 0, false⟩, 
    ⟨2, ⟨(some 72), .faddr 2 (.tmp 71), none⟩, 3, 0, false⟩, 
    ⟨3, ⟨(some 73), .load false 1 (.tmp 72), none⟩, 7, 0, false⟩, 
    ⟨4, ⟨(some 74), .load true 2 (.tmp 7), none⟩, 0, 0, false⟩, 
    ⟨5, ⟨(some 75), .mov (.tmp 12), none⟩, 0, 0, false⟩, 
    ⟨6, ⟨none, .mapset (.agg [0, 0]) (.tmp 73) (.tmp 74) (.tmp 75), none⟩, 63, 1, false⟩])
  (.seq (.region [
    ⟨(some 76), .mov (.tmp 12), none⟩, 
    ⟨(some 6), .mov (.tmp 76), none⟩])
  .ret)))))))))
theorem ok108 : FnOk Tryd.prog 108 77 ir108 [.tmp 6] := fnOk_of mixed Tryd.func108 (by kernel_rfl) Tryd.ntmps108 (by kernel_rfl) (by kernel_rfl)

def ir111 : ACode :=
  (.seq (.region [
    ⟨(some 2), .box (.tmp 0), none⟩, 
    ⟨(some 3), .box (.tmp 1), none⟩, 
    ⟨(some 4), .mov (.const (.int .i64 0)), none⟩])
  (.seq (.seq (.region [
    ⟨(some 8), .faddr 0 (.tmp 2), none⟩, 
    ⟨(some 9), .load false 1 (.tmp 8), none⟩, 
    ⟨(some 10), .len (.tmp 9), none⟩, 
    ⟨(some 11), .faddr 0 (.tmp 3), none⟩, 
    ⟨(some 12), .load false 1 (.tmp 11), none⟩, 
    ⟨(some 13), .len (.tmp 12), none⟩, 
    ⟨(some 14), .mx (.tmp 10) (.tmp 13), none⟩, 
    ⟨(some 15), .mov (.const (.int .i64 0)), none⟩])
  (.block 0
    (.loop
      (.seq (.region [
        ⟨(some 16), .bin .lss .num (.tmp 15) (.tmp 14), none⟩])
      (.seq (.cond (.tmp 16)
        .skip
        (.exit 0))
      (.seq (.block 1
        (.seq (.region [
          ⟨(some 17), .mov (.tmp 15), none⟩, 
          ⟨(some 5), .mov (.tmp 17), none⟩])
        (.seq (.draw [
          ⟨0, ⟨(some 18), .load true 1 (.tmp 2), none⟩, 0, 0, false⟩, 
          ⟨1, ⟨(some 19), .mov (.tmp 5), none⟩, 0, 0, false⟩, 
          ⟨2, ⟨(some 20), .call (.func 103) [(.tmp 18), (.tmp 19)], none⟩, 3, 0, false⟩, 
          ⟨3, ⟨(some 21), .load true 1 (.tmp 3), none⟩, 0, 0, false⟩, 
          ⟨4, ⟨(some 22), .mov (.tmp 5), none⟩, 0, 0, false⟩, 
          ⟨5, ⟨(some 23), .call (.func 103) [(.tmp 21), (.tmp 22)], none⟩, 31, 1, false⟩, 
          ⟨6, ⟨(some 24), .bin .xor .num (.tmp 20) (.tmp 23), none⟩, 63, 1, false⟩, 
          ⟨7, ⟨(some 6), .mov (.tmp 24), none⟩, 127, 1, false⟩])
        (.seq (.seq (.region [
          ⟨(some 25), .mov (.tmp 6), none⟩, 
          ⟨(some 26), .bin .eql .num (.tmp 25) (.const (.int .u64 0)), none⟩])
        (.cond (.tmp 26)
          (.exit 1)
          .skip))
        (.seq (.region [
          ⟨(some 27), .mov (.tmp 5), none⟩, 
          ⟨(some 28), .bin .mul .num (.const (.int .i64 64)) (.tmp 27), none⟩, 
          ⟨(some 29), .mov (.tmp 6), none⟩, 
          ⟨(some 30), .call (.func 76) [(.tmp 29)], none⟩, 
          ⟨(some 31), .bin .add .num (.tmp 28) (.tmp 30), none⟩, 
          ⟨(some 7), .mov (.tmp 31), none⟩])
        (.seq (.seq (.draw [
          ⟨0, ⟨(some 32), .load true 1 (.tmp 2), none⟩, 0, 0, false⟩, 
          ⟨1, ⟨(some 33), .mov (.tmp 7), none⟩, 0, 0, false⟩, 
          ⟨2, ⟨(some 34), .call (.func 77) [(.tmp 32), (.tmp 33)], none⟩, 3, 0, false⟩, 
          ⟨3, ⟨(some 35), .load true 1 (.tmp 3), none⟩, 0, 0, false⟩, 
          ⟨4, ⟨(some 36), .mov (.tmp 7), none⟩, 0, 0, false⟩, 
          ⟨5, ⟨(some 37), .call (.func 77) [(.tmp 35), (.tmp 36)], none⟩, 31, 1, false⟩, 
          ⟨6, ⟨(some 38), .bin .eql .bool (.tmp 34) (.tmp 37), none⟩, 63, 1, false⟩])
        (.cond (.tmp 38)
          (.seq (.region [
            ⟨(some 4), .mov (.const (.int .i64 0)), none⟩])
          .ret)
          .skip))
        (.seq (.seq (.region [
          ⟨(some 39), .load true 1 (.tmp 2), none⟩, 
          ⟨(some 40), .mov (.tmp 7), none⟩, 
          ⟨(some 41), .call (.func 77) [(.tmp 39), (.tmp 40)], none⟩, 
          ⟨(some 42), .mov (.tmp 41), none⟩, 
          ⟨(some 43), .load true 1 (.tmp 3), (some (42, true))⟩, 
          ⟨(some 44), .mov (.tmp 7), (some (42, true))⟩, 
          ⟨(some 45), .call (.func 126) [(.tmp 43), (.tmp 44)], (some (42, true))⟩, 
          ⟨(some 46), .pick (.tmp 42) (.tmp 45) (.const (.bool false)), none⟩, 
          ⟨(some 47), .mov (.tmp 46), none⟩, 
          ⟨(some 48), .load true 1 (.tmp 3), (some (47, false))⟩, 
          ⟨(some 49), .mov (.tmp 7), (some (47, false))⟩, 
          ⟨(some 50), .call (.func 77) [(.tmp 48), (.tmp 49)], (some (47, false))⟩, 
          ⟨(some 51), .mov (.tmp 50), (some (47, false))⟩, 
          ⟨(some 52), .load true 1 (.tmp 2), (some (51, true))⟩, 
          ⟨(some 53), .mov (.tmp 7), (some (51, true))⟩, 
          ⟨(some 54), .call (.func 126) [(.tmp 52), (.tmp 53)], (some (51, true))⟩, 
          ⟨(some 55), .una .not (.tmp 54), (some (51, true))⟩, 
          ⟨(some 56), .pick (.tmp 51) (.tmp 55) (.const (.bool false)), (some (47, false))⟩, 
          ⟨(some 57), .pick (.tmp 47) (.const (.bool true)) (.tmp 56), none⟩])
        (.cond (.tmp 57)
          (.seq (.region [
            ⟨(some 4), .mov (.const (.int .i64 (-1))), none⟩])
          .ret)
          .skip))
        (.seq (.region [
          ⟨(some 4), .mov (.const (.int .i64 1)), none⟩])
        .ret))))))))
      (.region [
        ⟨(some 58), .bin .add .num (.tmp 15) (.const (.int .i64 1)), none⟩, 
        ⟨(some 15), .mov (.tmp 58), none⟩])))))))
  (.seq (.region [
    ⟨(some 4), .mov (.const (.int .i64 0)), none⟩])
  .ret)))
theorem ok111 : FnOk Tryd.prog 111 59 ir111 [.tmp 4] := fnOk_of mixed Tryd.func111 (by kernel_rfl) Tryd.ntmps111 (by kernel_rfl) (by kernel_rfl)

def ir113 : ACode :=
  (.seq (.region [
    ⟨(some 2), .mov (.const (.int .i64 0)), none⟩])
  (.seq (.region [
    ⟨(some 3), .mov (.tmp 0), none⟩, 
    ⟨(some 4), .nilck (.tmp 3), none⟩, 
    ⟨(some 5), .faddr 1 (.tmp 4), none⟩, 
    ⟨(some 6), .load false 1 (.tmp 5), none⟩, 
    ⟨(some 7), .bin .add .num (.tmp 6) (.const (.int .i64 1)), none⟩, 
    ⟨(some 8), .nilck (.tmp 3), none⟩, 
    ⟨(some 9), .faddr 1 (.tmp 8), none⟩, 
    ⟨none, .store 1 (.tmp 9) (.tmp 7), none⟩])
  (.seq (.seq (.draw [
    ⟨0, ⟨(some 10), .mov (.tmp 0), none⟩, 0, 0, false⟩, 
    ⟨1, ⟨(some 11), .nilck (.tmp 10), none⟩, 1, 0, false⟩, 
    ⟨2, ⟨(some 12), .faddr 1 (.tmp 11), none⟩, 3, 0, false⟩, 
    ⟨3, ⟨(some 13), .load false 1 (.tmp 12), none⟩, 7, 0, false⟩, 
    ⟨4, ⟨(some 14), .mov (.tmp 0), none⟩, 0, 0, false⟩, 
    ⟨5, ⟨(some 15), .nilck (.tmp 14), none⟩, 16, 0, false⟩, 
    ⟨6, ⟨(some 16), .faddr 0 (.tmp 15), none⟩, 48, 0, false⟩, 
    ⟨7, ⟨(some 17), .load false 1 (.tmp 16), none⟩, 112, 0, false⟩, 
    ⟨8, ⟨(some 18), .len (.tmp 17), none⟩, 240, 0, false⟩, 
    ⟨9, ⟨(some 19), .bin .gtr .num (.tmp 13) (.tmp 18), none⟩, 511, 1, false⟩])
  (.cond (.tmp 19)
    (.seq (.region [
      ⟨(some 2), .mov (.const (.int .i64 0)), none⟩])
    .ret)
    .skip))
  (.seq (.draw [
    ⟨0, ⟨(some 20), .mov (.tmp 0), none⟩, 0, 0, false⟩, 
    ⟨1, ⟨(some 21), .nilck (.tmp 20), none⟩, 1, 0, false⟩, 
    ⟨2, ⟨(some 22), .faddr 0 (.tmp 21), none⟩, 3, 0, false⟩, 
    ⟨3, ⟨(some 23), .load false 1 (.tmp 22), none⟩, 7, 0, false⟩, 
    ⟨4, ⟨(some 24), .mov (.tmp 0), none⟩, 0, 0, false⟩, 
    ⟨5, ⟨(some 25), .nilck (.tmp 24), none⟩, 16, 0, false⟩, 
    ⟨6, ⟨(some 26), .faddr 1 (.tmp 25), none⟩, 48, 0, false⟩, 
    ⟨7, ⟨(some 27), .load false 1 (.tmp 26), none⟩, 112, 0, false⟩, 
    ⟨8, ⟨(some 28), .bin .sub .num (.tmp 27) (.const (.int .i64 1)), none⟩, 240, 0, false⟩, 
    ⟨9, ⟨(some 29), .iaddr 1 (.tmp 23) (.tmp 28), none⟩, 511, 1, false⟩, 
    ⟨10, ⟨(some 30), .load false 1 (.tmp 29), none⟩, 1023, 1, false⟩, 
    ⟨11, ⟨(some 31), .conv .i64 (.tmp 30), none⟩, 2047, 1, false⟩, 
    ⟨12, ⟨(some 2), .mov (.tmp 31), none⟩, 4095, 1, false⟩])
  .ret))))
theorem ok113 : FnOk Tryd.prog 113 32 ir113 [.tmp 2] := fnOk_of mixed Tryd.func113 (by kernel_rfl) Tryd.ntmps113 (by kernel_rfl) (by kernel_rfl)

def ir114 : ACode :=
  (.seq (.region [
    ⟨(some 10), .alloc [(.int .i64 0), (.int .i64 0), (.slice none 0 0), (.slice none 0 0)], none⟩])
  (.seq (.region [
    ⟨(some 13), .mov (.tmp 0), none⟩, 
    ⟨(some 14), .mov (.tmp 2), none⟩, 
    ⟨(some 15), .bin .sub .num (.tmp 14) (.const (.int .i64 1)), none⟩, 
    ⟨(some 16), .mov (.tmp 3), none⟩, 
    ⟨(some 17), .mov (.tmp 4), none⟩, 
    ⟨(some 18), .call (.func 128) [(.tmp 13), (.tmp 15), (.tmp 16), (.tmp 17)], none⟩, 
    ⟨(some 11), .alloc [(.int .i64 0), (.int .i64 0), (.slice none 0 0), (.slice none 0 0)], none⟩, 
    ⟨none, .store 4 (.tmp 11) (.tmp 18), none⟩])
  (.seq (.region [
    ⟨(some 19), .mov (.tmp 0), none⟩, 
    ⟨(some 20), .mov (.tmp 2), none⟩, 
    ⟨(some 21), .bin .sub .num (.tmp 20) (.const (.int .i64 1)), none⟩, 
    ⟨(some 22), .mov (.tmp 3), none⟩, 
    ⟨(some 23), .mov (.tmp 4), none⟩, 
    ⟨(some 24), .call (.func 128) [(.tmp 19), (.tmp 21), (.tmp 22), (.tmp 23)], none⟩, 
    ⟨(some 12), .alloc [(.int .i64 0), (.int .i64 0), (.slice none 0 0), (.slice none 0 0)], none⟩, 
    ⟨none, .store 4 (.tmp 12) (.tmp 24), none⟩])
  (.seq (.region [
    ⟨(some 25), .mov (.tmp 1), none⟩, 
    ⟨(some 26), .bin .rem .num (.tmp 25) (.const (.int .i64 5)), none⟩, 
    ⟨(some 27), .bin .add .num (.const (.int .i64 11)) (.tmp 26), none⟩, 
    ⟨(some 28), .load true 4 (.tmp 11), none⟩, 
    ⟨(some 29), .load true 4 (.tmp 12), none⟩, 
    ⟨(some 30), .bslice [(.int .i64 0), (.int .i64 0), (.slice none 0 0), (.slice none 0 0)] 2 [(0, (.tmp 28)), (1, (.tmp 29))], none⟩, 
    ⟨(some 31), .build [(.int .i64 0), (.int .i64 0), (.slice none 0 0), (.slice none 0 0)] [(0, 1, (.tmp 27)), (3, 1, (.tmp 30))], none⟩, 
    ⟨none, .store 4 (.tmp 10) (.tmp 31), none⟩])
  .ret))))
theorem ok114 : FnOk Tryd.prog 114 32 ir114 [.cell 10 true 4] := fnOk_of mixed Tryd.func114 (by kernel_rfl) Tryd.ntmps114 (by kernel_rfl) (by kernel_rfl)

def ir115 : ACode :=
  (.seq (.region [
    ⟨(some 1), .box (.tmp 0), none⟩, 
    ⟨(some 2), .mov (.const (.int .i64 0)), none⟩, 
    ⟨(some 3), .mov (.const (.int .i64 0)), none⟩])
  (.seq (.seq (.region [
    ⟨(some 8), .faddr 3 (.tmp 1), none⟩, 
    ⟨(some 9), .load false 1 (.tmp 8), none⟩, 
    ⟨(some 10), .len (.tmp 9), none⟩, 
    ⟨(some 11), .mov (.const (.int .i64 0)), none⟩])
  (.block 0
    (.loop
      (.seq (.region [
        ⟨(some 12), .bin .lss .num (.tmp 11) (.tmp 10), none⟩])
      (.seq (.cond (.tmp 12)
        .skip
        (.exit 0))
      (.seq (.block 1
        (.seq (.region [
          ⟨(some 13), .iaddr 4 (.tmp 9) (.tmp 11), none⟩, 
          ⟨(some 14), .load true 4 (.tmp 13), none⟩, 
          ⟨(some 5), .alloc [(.int .u8 0), (.int .i64 0), (.slice none 0 0), (.slice none 0 0)], none⟩, 
          ⟨none, .store 4 (.tmp 5) (.tmp 14), none⟩])
        (.seq (.region [
          ⟨(some 16), .load true 4 (.tmp 5), none⟩, 
          ⟨(some 17), .call (.func 115) [(.tmp 16)], none⟩, 
          ⟨(some 15), .mov (.tmp 17), none⟩, 
          ⟨(some 18), .extract (.tmp 15) 0, none⟩, 
          ⟨(some 19), .extract (.tmp 15) 1, none⟩, 
          ⟨(some 6), .mov (.tmp 18), none⟩, 
          ⟨(some 7), .mov (.tmp 19), none⟩])
        (.region [
          ⟨(some 20), .mov (.tmp 2), none⟩, 
          ⟨(some 21), .mov (.tmp 6), none⟩, 
          ⟨(some 22), .mx (.tmp 20) (.tmp 21), none⟩, 
          ⟨(some 23), .mov (.tmp 3), none⟩, 
          ⟨(some 24), .mov (.tmp 7), none⟩, 
          ⟨(some 25), .bin .add .num (.tmp 23) (.tmp 24), none⟩, 
          ⟨(some 2), .mov (.tmp 22), none⟩, 
          ⟨(some 3), .mov (.tmp 25), none⟩]))))
      (.region [
        ⟨(some 26), .bin .add .num (.tmp 11) (.const (.int .i64 1)), none⟩, 
        ⟨(some 11), .mov (.tmp 26), none⟩])))))))
  (.seq (.region [
    ⟨(some 27), .mov (.tmp 2), none⟩, 
    ⟨(some 28), .bin .add .num (.tmp 27) (.const (.int .i64 1)), none⟩, 
    ⟨(some 29), .mov (.tmp 3), none⟩, 
    ⟨(some 30), .bin .add .num (.tmp 29) (.const (.int .i64 1)), none⟩, 
    ⟨(some 2), .mov (.tmp 28), none⟩, 
    ⟨(some 3), .mov (.tmp 30), none⟩])
  .ret)))
theorem ok115 : FnOk Tryd.prog 115 31 ir115 [.tmp 2, .tmp 3] := fnOk_of mixed Tryd.func115 (by kernel_rfl) Tryd.ntmps115 (by kernel_rfl) (by kernel_rfl)

def ir116 : ACode :=
  (.seq (.region [
    ⟨(some 2), .box (.tmp 0), none⟩, 
    ⟨(some 4), .mov (.const (.int .i64 0)), none⟩])
  (.seq (.seq (.region [
    ⟨(some 10), .load true 4 (.tmp 2), none⟩, 
    ⟨(some 11), .call (.func 129) [(.tmp 10)], none⟩, 
    ⟨(some 5), .mov (.tmp 11), none⟩])
  (.seq (.region [
    ⟨(some 12), .mov (.tmp 5), none⟩, 
    ⟨(some 13), .bin .neq .num (.tmp 12) (.const (.int .i64 0)), none⟩])
  (.cond (.tmp 13)
    (.seq (.region [
      ⟨(some 14), .mov (.tmp 5), none⟩, 
      ⟨(some 4), .mov (.tmp 14), none⟩])
    .ret)
    .skip)))
  (.seq (.region [
    ⟨(some 15), .faddr 0 (.tmp 2), none⟩, 
    ⟨(some 16), .load false 1 (.tmp 15), none⟩, 
    ⟨(some 17), .bin .eql .num (.tmp 16) (.const (.int .u8 4)), none⟩, 
    ⟨(some 18), .mov (.tmp 17), none⟩, 
    ⟨(some 19), .faddr 0 (.tmp 2), (some (18, false))⟩, 
    ⟨(some 20), .load false 1 (.tmp 19), (some (18, false))⟩, 
    ⟨(some 21), .bin .eql .num (.tmp 20) (.const (.int .u8 5)), (some (18, false))⟩, 
    ⟨(some 22), .pick (.tmp 18) (.const (.bool true)) (.tmp 21), none⟩, 
    ⟨(some 6), .mov (.tmp 22), none⟩])
  (.seq (.seq (.region [
    ⟨(some 23), .mov (.tmp 1), none⟩, 
    ⟨(some 24), .bin .eql .num (.tmp 23) (.const (.int .u8 3)), none⟩, 
    ⟨(some 25), .mov (.tmp 24), none⟩, 
    ⟨(some 26), .mov (.tmp 6), (some (25, true))⟩, 
    ⟨(some 27), .pick (.tmp 25) (.tmp 26) (.const (.bool false)), none⟩, 
    ⟨(some 28), .mov (.tmp 27), none⟩, 
    ⟨(some 29), .mov (.tmp 1), (some (28, false))⟩, 
    ⟨(some 30), .bin .neq .num (.tmp 29) (.const (.int .u8 0)), (some (28, false))⟩, 
    ⟨(some 31), .mov (.tmp 30), (some (28, false))⟩, 
    ⟨(some 32), .mov (.tmp 1), (some (31, true))⟩, 
    ⟨(some 33), .bin .neq .num (.tmp 32) (.const (.int .u8 3)), (some (31, true))⟩, 
    ⟨(some 34), .pick (.tmp 31) (.tmp 33) (.const (.bool false)), (some (28, false))⟩, 
    ⟨(some 35), .mov (.tmp 34), (some (28, false))⟩, 
    ⟨(some 36), .faddr 0 (.tmp 2), (some (35, true))⟩, 
    ⟨(some 37), .load false 1 (.tmp 36), (some (35, true))⟩, 
    ⟨(some 38), .bin .eql .num (.tmp 37) (.const (.int .u8 6)), (some (35, true))⟩, 
    ⟨(some 39), .pick (.tmp 35) (.tmp 38) (.const (.bool false)), (some (28, false))⟩, 
    ⟨(some 40), .pick (.tmp 28) (.const (.bool true)) (.tmp 39), none⟩])
  (.cond (.tmp 40)
    (.seq (.region [
      ⟨(some 4), .mov (.const (.int .i64 10)), none⟩])
    .ret)
    .skip))
  (.seq (.seq (.region [
    ⟨(some 41), .faddr 3 (.tmp 2), none⟩, 
    ⟨(some 42), .load false 1 (.tmp 41), none⟩, 
    ⟨(some 43), .len (.tmp 42), none⟩, 
    ⟨(some 44), .mov (.const (.int .i64 0)), none⟩])
  (.block 0
    (.loop
      (.seq (.region [
        ⟨(some 45), .bin .lss .num (.tmp 44) (.tmp 43), none⟩])
      (.seq (.cond (.tmp 45)
        .skip
        (.exit 0))
      (.seq (.block 1
        (.seq (.region [
          ⟨(some 46), .iaddr 4 (.tmp 42) (.tmp 44), none⟩, 
          ⟨(some 47), .load true 4 (.tmp 46), none⟩, 
          ⟨(some 8), .alloc [(.int .u8 0), (.int .i64 0), (.slice none 0 0), (.slice none 0 0)], none⟩, 
          ⟨none, .store 4 (.tmp 8) (.tmp 47), none⟩])
        (.seq (.region [
          ⟨(some 48), .load true 4 (.tmp 8), none⟩, 
          ⟨(some 49), .mov (.tmp 1), none⟩, 
          ⟨(some 50), .call (.func 116) [(.tmp 48), (.tmp 49)], none⟩, 
          ⟨(some 9), .mov (.tmp 50), none⟩])
        (.seq (.region [
          ⟨(some 51), .mov (.tmp 9), none⟩, 
          ⟨(some 52), .bin .neq .num (.tmp 51) (.const (.int .i64 0)), none⟩])
        (.cond (.tmp 52)
          (.seq (.region [
            ⟨(some 53), .mov (.tmp 9), none⟩, 
            ⟨(some 4), .mov (.tmp 53), none⟩])
          .ret)
          .skip)))))
      (.region [
        ⟨(some 54), .bin .add .num (.tmp 44) (.const (.int .i64 1)), none⟩, 
        ⟨(some 44), .mov (.tmp 54), none⟩])))))))
  (.seq (.region [
    ⟨(some 4), .mov (.const (.int .i64 0)), none⟩])
  .ret))))))
theorem ok116 : FnOk Tryd.prog 116 55 ir116 [.tmp 4] := fnOk_of mixed Tryd.func116 (by kernel_rfl) Tryd.ntmps116 (by kernel_rfl) (by kernel_rfl)

def ir126 : ACode :=
  (.seq (.region [
    ⟨(some 2), .box (.tmp 0), none⟩, 
    ⟨(some 4), .mov (.const (.bool false)), none⟩])
  (.seq (.region [
    ⟨(some 8), .load true 1 (.tmp 2), none⟩, 
    ⟨(some 9), .call (.func 83) [(.tmp 8)], none⟩, 
    ⟨(some 7), .mov (.tmp 9), none⟩, 
    ⟨(some 10), .extract (.tmp 7) 0, none⟩, 
    ⟨(some 11), .extract (.tmp 7) 1, none⟩, 
    ⟨(some 5), .mov (.tmp 10), none⟩, 
    ⟨(some 6), .mov (.tmp 11), none⟩])
  (.seq (.region [
    ⟨(some 12), .mov (.tmp 6), none⟩, 
    ⟨(some 13), .mov (.tmp 12), none⟩, 
    ⟨(some 14), .mov (.tmp 5), (some (13, true))⟩, 
    ⟨(some 15), .mov (.tmp 1), (some (13, true))⟩, 
    ⟨(some 16), .bin .gtr .num (.tmp 14) (.tmp 15), (some (13, true))⟩, 
    ⟨(some 17), .pick (.tmp 13) (.tmp 16) (.const (.bool false)), none⟩, 
    ⟨(some 4), .mov (.tmp 17), none⟩])
  .ret)))
theorem ok126 : FnOk Tryd.prog 126 18 ir126 [.tmp 4] := fnOk_of mixed Tryd.func126 (by kernel_rfl) Tryd.ntmps126 (by kernel_rfl) (by kernel_rfl)

def ir128 : ACode :=
  (.seq (.region [
    ⟨(some 8), .alloc [(.int .i64 0), (.int .i64 0), (.slice none 0 0), (.slice none 0 0)], none⟩])
  (.seq (.region [
    ⟨(some 15), .mov (.tmp 0), none⟩, 
    ⟨(some 16), .call (.func 113) [(.tmp 15)], none⟩, 
    ⟨(some 9), .mov (.tmp 16), none⟩])
  (.seq (.seq (.region [
    ⟨(some 17), .mov (.tmp 1), none⟩, 
    ⟨(some 18), .bin .gtr .num (.tmp 17) (.const (.int .i64 1)), none⟩, 
    ⟨(some 19), .mov (.tmp 18), none⟩, 
    ⟨(some 20), .mov (.tmp 9), (some (19, true))⟩, 
    ⟨(some 21), .bin .rem .num (.tmp 20) (.const (.int .i64 3)), (some (19, true))⟩, 
    ⟨(some 22), .bin .eql .num (.tmp 21) (.const (.int .i64 2)), (some (19, true))⟩, 
    ⟨(some 23), .pick (.tmp 19) (.tmp 22) (.const (.bool false)), none⟩])
  (.cond (.tmp 23)
    (.seq (.region [
      ⟨(some 24), .mov (.tmp 0), none⟩, 
      ⟨(some 25), .mov (.tmp 1), none⟩, 
      ⟨(some 26), .bin .sub .num (.tmp 25) (.const (.int .i64 1)), none⟩, 
      ⟨(some 27), .mov (.tmp 2), none⟩, 
      ⟨(some 28), .mov (.tmp 3), none⟩, 
      ⟨(some 29), .call (.func 128) [(.tmp 24), (.tmp 26), (.tmp 27), (.tmp 28)], none⟩, 
      ⟨(some 10), .alloc [(.int .i64 0), (.int .i64 0), (.slice none 0 0), (.slice none 0 0)], none⟩, 
      ⟨none, .store 4 (.tmp 10) (.tmp 29), none⟩])
    (.seq (.region [
      ⟨(some 30), .mov (.tmp 0), none⟩, 
      ⟨(some 31), .mov (.tmp 1), none⟩, 
      ⟨(some 32), .bin .sub .num (.tmp 31) (.const (.int .i64 1)), none⟩, 
      ⟨(some 33), .mov (.tmp 2), none⟩, 
      ⟨(some 34), .mov (.tmp 3), none⟩, 
      ⟨(some 35), .call (.func 128) [(.tmp 30), (.tmp 32), (.tmp 33), (.tmp 34)], none⟩, 
      ⟨(some 11), .alloc [(.int .i64 0), (.int .i64 0), (.slice none 0 0), (.slice none 0 0)], none⟩, 
      ⟨none, .store 4 (.tmp 11) (.tmp 35), none⟩])
    (.seq (.region [
      ⟨(some 36), .load true 4 (.tmp 10), none⟩, 
      ⟨(some 37), .load true 4 (.tmp 11), none⟩, 
      ⟨(some 38), .bslice [(.int .i64 0), (.int .i64 0), (.slice none 0 0), (.slice none 0 0)] 2 [(0, (.tmp 36)), (1, (.tmp 37))], none⟩, 
      ⟨(some 39), .build [(.int .i64 0), (.int .i64 0), (.slice none 0 0), (.slice none 0 0)] [(0, 1, (.const (.int .i64 16))), (3, 1, (.tmp 38))], none⟩, 
      ⟨none, .store 4 (.tmp 8) (.tmp 39), none⟩])
    .ret)))
    .skip))
  (.seq (.seq (.region [
    ⟨(some 40), .mov (.tmp 9), none⟩, 
    ⟨(some 41), .bin .rem .num (.tmp 40) (.const (.int .i64 3)), none⟩, 
    ⟨(some 42), .bin .eql .num (.tmp 41) (.const (.int .i64 0)), none⟩])
  (.cond (.tmp 42)
    (.seq (.region [
      ⟨(some 43), .mov (.tmp 9), none⟩, 
      ⟨(some 44), .bin .quo .num (.tmp 43) (.const (.int .i64 3)), none⟩, 
      ⟨(some 45), .bin .rem .num (.tmp 44) (.const (.int .i64 4)), none⟩, 
      ⟨(some 46), .build [(.int .i64 0), (.int .i64 0), (.slice none 0 0), (.slice none 0 0)] [(0, 1, (.const (.int .i64 1))), (1, 1, (.tmp 45))], none⟩, 
      ⟨none, .store 4 (.tmp 8) (.tmp 46), none⟩])
    .ret)
    .skip))
  (.seq (.seq (.region [
    ⟨(some 47), .mov (.tmp 2), none⟩, 
    ⟨(some 48), .bin .eql .num (.tmp 47) (.const (.int .i64 3)), none⟩])
  (.cond (.tmp 48)
    (.seq (.region [
      ⟨(some 49), .mov (.tmp 9), none⟩, 
      ⟨(some 50), .bin .quo .num (.tmp 49) (.const (.int .i64 3)), none⟩, 
      ⟨(some 51), .mov (.tmp 3), none⟩, 
      ⟨(some 52), .bin .rem .num (.tmp 50) (.tmp 51), none⟩, 
      ⟨(some 53), .bin .add .num (.const (.int .i64 1)) (.tmp 52), none⟩, 
      ⟨(some 54), .bslice [(.int .i64 0)] 1 [(0, (.tmp 53))], none⟩, 
      ⟨(some 55), .build [(.int .i64 0), (.int .i64 0), (.slice none 0 0), (.slice none 0 0)] [(0, 1, (.const (.int .i64 6))), (2, 1, (.tmp 54))], none⟩, 
      ⟨none, .store 4 (.tmp 8) (.tmp 55), none⟩])
    .ret)
    .skip))
  (.seq (.region [
    ⟨(some 56), .build [(.int .i64 0), (.int .i64 0), (.slice none 0 0), (.slice none 0 0)] [(0, 1, (.const (.int .i64 5)))], none⟩, 
    ⟨(some 12), .alloc [(.int .i64 0), (.int .i64 0), (.slice none 0 0), (.slice none 0 0)], none⟩, 
    ⟨none, .store 4 (.tmp 12) (.tmp 56), none⟩])
  (.seq (.region [
    ⟨(some 57), .mov (.tmp 0), none⟩, 
    ⟨(some 58), .call (.func 113) [(.tmp 57)], none⟩, 
    ⟨(some 13), .mov (.tmp 58), none⟩])
  (.seq (.seq (.region [
    ⟨(some 14), .mov (.const (.int .i64 1)), none⟩])
  (.block 0
    (.loop
      (.seq (.seq (.region [
        ⟨(some 59), .mov (.tmp 14), none⟩, 
        ⟨(some 60), .mov (.tmp 3), none⟩, 
        ⟨(some 61), .bin .leq .num (.tmp 59) (.tmp 60), none⟩])
      (.cond (.tmp 61)
        .skip
        (.exit 0)))
      (.seq (.block 1
        (.seq (.region [
          ⟨(some 64), .mov (.tmp 13), none⟩, 
          ⟨(some 65), .mov (.tmp 14), none⟩, 
          ⟨(some 66), .bin .sub .num (.tmp 65) (.const (.int .i64 1)), none⟩, 
          ⟨(some 67), .bin .shr .num (.tmp 64) (.tmp 66), none⟩, 
          ⟨(some 68), .bin .rem .num (.tmp 67) (.const (.int .i64 2)), none⟩, 
          ⟨(some 69), .bin .eql .num (.tmp 68) (.const (.int .i64 1)), none⟩])
        (.cond (.tmp 69)
          (.region [
            ⟨(some 70), .faddr 2 (.tmp 12), none⟩, 
            ⟨(some 71), .load false 1 (.tmp 70), none⟩, 
            ⟨(some 72), .mov (.tmp 14), none⟩, 
            ⟨(some 73), .bslice [(.int .i64 0)] 1 [(0, (.tmp 72))], none⟩, 
            ⟨(some 74), .append [(.int .i64 0)] 8 (.tmp 71) (.tmp 73), none⟩, 
            ⟨(some 75), .faddr 2 (.tmp 12), none⟩, 
            ⟨none, .store 1 (.tmp 75) (.tmp 74), none⟩])
          .skip)))
      (.region [
        ⟨(some 62), .mov (.tmp 14), none⟩, 
        ⟨(some 63), .bin .add .num (.tmp 62) (.const (.int .i64 1)), none⟩, 
        ⟨(some 14), .mov (.tmp 63), none⟩]))))))
  (.seq (.seq (.region [
    ⟨(some 76), .faddr 2 (.tmp 12), none⟩, 
    ⟨(some 77), .load false 1 (.tmp 76), none⟩, 
    ⟨(some 78), .len (.tmp 77), none⟩, 
    ⟨(some 79), .bin .eql .num (.tmp 78) (.const (.int .i64 0)), none⟩])
  (.cond (.tmp 79)
    (.region [
      ⟨(some 80), .mov (.tmp 9), none⟩, 
      ⟨(some 81), .bin .quo .num (.tmp 80) (.const (.int .i64 3)), none⟩, 
      ⟨(some 82), .mov (.tmp 3), none⟩, 
      ⟨(some 83), .bin .rem .num (.tmp 81) (.tmp 82), none⟩, 
      ⟨(some 84), .bin .add .num (.const (.int .i64 1)) (.tmp 83), none⟩, 
      ⟨(some 85), .bslice [(.int .i64 0)] 1 [(0, (.tmp 84))], none⟩, 
      ⟨(some 86), .faddr 2 (.tmp 12), none⟩, 
      ⟨none, .store 1 (.tmp 86) (.tmp 85), none⟩])
    .skip))
  (.seq (.region [
    ⟨(some 87), .load true 4 (.tmp 12), none⟩, 
    ⟨none, .store 4 (.tmp 8) (.tmp 87), none⟩])
  .ret))))))))))
theorem ok128 : FnOk Tryd.prog 128 88 ir128 [.cell 8 true 4] := fnOk_of mixed Tryd.func128 (by kernel_rfl) Tryd.ntmps128 (by kernel_rfl) (by kernel_rfl)

def ir129 : ACode :=
  (.seq (.region [
    ⟨(some 1), .box (.tmp 0), none⟩, 
    ⟨(some 2), .mov (.const (.int .i64 0)), none⟩])
  (.seq (.region [
    ⟨(some 9), .faddr 0 (.tmp 1), none⟩, 
    ⟨(some 10), .load false 1 (.tmp 9), none⟩, 
    ⟨(some 11), .call (.func 135) [(.tmp 10)], none⟩, 
    ⟨(some 8), .mov (.tmp 11), none⟩, 
    ⟨(some 12), .extract (.tmp 8) 0, none⟩, 
    ⟨(some 13), .extract (.tmp 8) 1, none⟩, 
    ⟨(some 14), .extract (.tmp 8) 2, none⟩, 
    ⟨(some 3), .mov (.tmp 12), none⟩, 
    ⟨(some 4), .mov (.tmp 13), none⟩, 
    ⟨(some 5), .mov (.tmp 14), none⟩])
  (.seq (.seq (.region [
    ⟨(some 15), .faddr 0 (.tmp 1), none⟩, 
    ⟨(some 16), .load false 1 (.tmp 15), none⟩, 
    ⟨(some 17), .bin .lss .num (.tmp 16) (.const (.int .u8 1)), none⟩, 
    ⟨(some 18), .mov (.tmp 17), none⟩, 
    ⟨(some 19), .faddr 0 (.tmp 1), (some (18, false))⟩, 
    ⟨(some 20), .load false 1 (.tmp 19), (some (18, false))⟩, 
    ⟨(some 21), .bin .gtr .num (.tmp 20) (.const (.int .u8 16)), (some (18, false))⟩, 
    ⟨(some 22), .pick (.tmp 18) (.const (.bool true)) (.tmp 21), none⟩, 
    ⟨(some 23), .mov (.tmp 22), none⟩, 
    ⟨(some 24), .faddr 3 (.tmp 1), (some (23, false))⟩, 
    ⟨(some 25), .load false 1 (.tmp 24), (some (23, false))⟩, 
    ⟨(some 26), .len (.tmp 25), (some (23, false))⟩, 
    ⟨(some 27), .mov (.tmp 3), (some (23, false))⟩, 
    ⟨(some 28), .bin .neq .num (.tmp 26) (.tmp 27), (some (23, false))⟩, 
    ⟨(some 29), .pick (.tmp 23) (.const (.bool true)) (.tmp 28), none⟩])
  (.cond (.tmp 29)
    (.seq (.region [
      ⟨(some 2), .mov (.const (.int .i64 1)), none⟩])
    .ret)
    .skip))
  (.seq (.seq (.region [
    ⟨(some 30), .faddr 0 (.tmp 1), none⟩, 
    ⟨(some 31), .load false 1 (.tmp 30), none⟩, 
    ⟨(some 32), .bin .neq .num (.tmp 31) (.const (.int .u8 1)), none⟩, 
    ⟨(some 33), .mov (.tmp 32), none⟩, 
    ⟨(some 34), .faddr 1 (.tmp 1), (some (33, true))⟩, 
    ⟨(some 35), .load false 1 (.tmp 34), (some (33, true))⟩, 
    ⟨(some 36), .bin .neq .num (.tmp 35) (.const (.int .i64 0)), (some (33, true))⟩, 
    ⟨(some 37), .pick (.tmp 33) (.tmp 36) (.const (.bool false)), none⟩, 
    ⟨(some 38), .mov (.tmp 37), none⟩, 
    ⟨(some 39), .faddr 2 (.tmp 1), (some (38, false))⟩, 
    ⟨(some 40), .load false 1 (.tmp 39), (some (38, false))⟩, 
    ⟨(some 41), .len (.tmp 40), (some (38, false))⟩, 
    ⟨(some 42), .mov (.tmp 4), (some (38, false))⟩, 
    ⟨(some 43), .bin .lss .num (.tmp 41) (.tmp 42), (some (38, false))⟩, 
    ⟨(some 44), .pick (.tmp 38) (.const (.bool true)) (.tmp 43), none⟩, 
    ⟨(some 45), .mov (.tmp 44), none⟩, 
    ⟨(some 46), .faddr 2 (.tmp 1), (some (45, false))⟩, 
    ⟨(some 47), .load false 1 (.tmp 46), (some (45, false))⟩, 
    ⟨(some 48), .len (.tmp 47), (some (45, false))⟩, 
    ⟨(some 49), .mov (.tmp 5), (some (45, false))⟩, 
    ⟨(some 50), .bin .gtr .num (.tmp 48) (.tmp 49), (some (45, false))⟩, 
    ⟨(some 51), .pick (.tmp 45) (.const (.bool true)) (.tmp 50), none⟩])
  (.cond (.tmp 51)
    (.seq (.region [
      ⟨(some 2), .mov (.const (.int .i64 6)), none⟩])
    .ret)
    .skip))
  (.seq (.seq (.region [
    ⟨(some 52), .faddr 1 (.tmp 1), none⟩, 
    ⟨(some 53), .load false 1 (.tmp 52), none⟩, 
    ⟨(some 54), .bin .lss .num (.tmp 53) (.const (.int .i64 0)), none⟩, 
    ⟨(some 55), .mov (.tmp 54), none⟩, 
    ⟨(some 56), .faddr 1 (.tmp 1), (some (55, false))⟩, 
    ⟨(some 57), .load false 1 (.tmp 56), (some (55, false))⟩, 
    ⟨(some 58), .bin .gtr .num (.tmp 57) (.const (.int .i64 999999)), (some (55, false))⟩, 
    ⟨(some 59), .pick (.tmp 55) (.const (.bool true)) (.tmp 58), none⟩])
  (.cond (.tmp 59)
    (.seq (.region [
      ⟨(some 2), .mov (.const (.int .i64 2)), none⟩])
    .ret)
    .skip))
  (.seq (.seq (.region [
    ⟨(some 60), .faddr 2 (.tmp 1), none⟩, 
    ⟨(some 61), .load false 1 (.tmp 60), none⟩, 
    ⟨(some 62), .len (.tmp 61), none⟩, 
    ⟨(some 63), .mov (.const (.int .i64 0)), none⟩])
  (.block 0
    (.loop
      (.seq (.region [
        ⟨(some 64), .bin .lss .num (.tmp 63) (.tmp 62), none⟩])
      (.seq (.cond (.tmp 64)
        .skip
        (.exit 0))
      (.seq (.block 1
        (.seq (.region [
          ⟨(some 65), .iaddr 1 (.tmp 61) (.tmp 63), none⟩, 
          ⟨(some 66), .load false 1 (.tmp 65), none⟩, 
          ⟨(some 7), .mov (.tmp 66), none⟩])
        (.seq (.region [
          ⟨(some 67), .mov (.tmp 7), none⟩, 
          ⟨(some 68), .bin .lss .num (.tmp 67) (.const (.int .i64 1)), none⟩, 
          ⟨(some 69), .mov (.tmp 68), none⟩, 
          ⟨(some 70), .mov (.tmp 7), (some (69, false))⟩, 
          ⟨(some 71), .bin .gtr .num (.tmp 70) (.const (.int .i64 63)), (some (69, false))⟩, 
          ⟨(some 72), .pick (.tmp 69) (.const (.bool true)) (.tmp 71), none⟩])
        (.cond (.tmp 72)
          (.seq (.region [
            ⟨(some 2), .mov (.const (.int .i64 2)), none⟩])
          .ret)
          .skip))))
      (.region [
        ⟨(some 73), .bin .add .num (.tmp 63) (.const (.int .i64 1)), none⟩, 
        ⟨(some 63), .mov (.tmp 73), none⟩])))))))
  (.seq (.seq (.draw [
    ⟨0, ⟨(some 74), .faddr 2 (.tmp 1), none⟩, 0, 0, false⟩, 
    ⟨1, ⟨(some 75), .load false 1 (.tmp 74), none⟩, 1, 0, false⟩, 
    ⟨2, ⟨(some 76), .call (.func 20) [(.tmp 75)], none⟩, 3, 0, false⟩, 
    ⟨3, ⟨(some 77), .call (.func 84) [(.tmp 76)], none⟩, 7, 0, false⟩, 
    ⟨4, ⟨(some 78), .faddr 2 (.tmp 1), none⟩, 0, 0, false⟩, 
    ⟨5, ⟨(some 79), .load false 1 (.tmp 78), none⟩, 16, 0, false⟩, 
    ⟨6, ⟨(some 80), .len (.tmp 79), none⟩, 48, 0, false⟩, 
    ⟨7, ⟨(some 81), .bin .neq .num (.tmp 77) (.tmp 80), none⟩, 127, 1, false⟩])
  (.cond (.tmp 81)
    (.seq (.region [
      ⟨(some 2), .mov (.const (.int .i64 5)), none⟩])
    .ret)
    .skip))
  (.seq (.region [
    ⟨(some 2), .mov (.const (.int .i64 0)), none⟩])
  .ret))))))))
theorem ok129 : FnOk Tryd.prog 129 82 ir129 [.tmp 2] := fnOk_of mixed Tryd.func129 (by kernel_rfl) Tryd.ntmps129 (by kernel_rfl) (by kernel_rfl)

def ir135 : ACode :=
  (.seq (.region [
    ⟨(some 2), .mov (.const (.int .i64 0)), none⟩, 
    ⟨(some 3), .mov (.const (.int .i64 0)), none⟩, 
    ⟨(some 4), .mov (.const (.int .i64 0)), none⟩])
  (.seq (.block 0
    (.seq (.region [
      ⟨(some 6), .mov (.tmp 0), none⟩, 
      ⟨(some 7), .bin .geq .num (.tmp 6) (.const (.int .u8 8)), none⟩, 
      ⟨(some 5), .mov (.tmp 7), none⟩])
    (.cond (.tmp 5)
      (.seq (.region [
        ⟨(some 2), .mov (.const (.int .i64 2)), none⟩, 
        ⟨(some 3), .mov (.const (.int .i64 0)), none⟩, 
        ⟨(some 4), .mov (.const (.int .i64 0)), none⟩])
      .ret)
      (.seq (.region [
        ⟨(some 9), .mov (.tmp 0), none⟩, 
        ⟨(some 10), .bin .eql .num (.tmp 9) (.const (.int .u8 7)), none⟩, 
        ⟨(some 8), .mov (.tmp 10), none⟩])
      (.cond (.tmp 8)
        (.seq (.region [
          ⟨(some 2), .mov (.const (.int .i64 1)), none⟩, 
          ⟨(some 3), .mov (.const (.int .i64 0)), none⟩, 
          ⟨(some 4), .mov (.const (.int .i64 0)), none⟩])
        .ret)
        (.seq (.region [
          ⟨(some 12), .mov (.tmp 0), none⟩, 
          ⟨(some 13), .bin .eql .num (.tmp 12) (.const (.int .u8 4)), none⟩, 
          ⟨(some 14), .mov (.tmp 13), none⟩, 
          ⟨(some 15), .mov (.tmp 0), (some (14, false))⟩, 
          ⟨(some 16), .bin .eql .num (.tmp 15) (.const (.int .u8 6)), (some (14, false))⟩, 
          ⟨(some 17), .pick (.tmp 14) (.const (.bool true)) (.tmp 16), none⟩, 
          ⟨(some 11), .mov (.tmp 17), none⟩])
        (.cond (.tmp 11)
          (.seq (.region [
            ⟨(some 2), .mov (.const (.int .i64 0)), none⟩, 
            ⟨(some 3), .mov (.const (.int .i64 1)), none⟩, 
            ⟨(some 4), .mov (.const (.int .i64 1)), none⟩])
          .ret)
          (.seq (.region [
            ⟨(some 19), .mov (.tmp 0), none⟩, 
            ⟨(some 20), .bin .eql .num (.tmp 19) (.const (.int .u8 5)), none⟩, 
            ⟨(some 18), .mov (.tmp 20), none⟩])
          (.cond (.tmp 18)
            (.seq (.region [
              ⟨(some 2), .mov (.const (.int .i64 0)), none⟩, 
              ⟨(some 3), .mov (.const (.int .i64 1)), none⟩, 
              ⟨(some 4), .mov (.const (.int .i64 8)), none⟩])
            .ret)
            .skip)))))))))
  (.seq (.region [
    ⟨(some 2), .mov (.const (.int .i64 0)), none⟩, 
    ⟨(some 3), .mov (.const (.int .i64 0)), none⟩, 
    ⟨(some 4), .mov (.const (.int .i64 0)), none⟩])
  .ret)))
theorem ok135 : FnOk Tryd.prog 135 21 ir135 [.tmp 2, .tmp 3, .tmp 4] := fnOk_of mixed Tryd.func135 (by kernel_rfl) Tryd.ntmps135 (by kernel_rfl) (by kernel_rfl)

end Go.Proofs.YtifohjijhhjdkaaDoor
