/-
  The value of a formula, as plain law. No statement of the seat is proved here.
-/
import Derived.Test.Ytelcpkjclcimbaati
namespace Go.Proofs.Ytelcpkjclcimbaa
open Go.RowKit
set_option linter.unusedVariables false
attribute [local irreducible] aw opsK dK

def b2i (b : Bool) : Int := if b then 1 else 0
theorem b2i_01 (b : Bool) : b2i b = 0 ∨ b2i b = 1 := by cases b <;> simp [b2i]
def cntM (N : Nat) (l : List Int) : Int := (l.map fun r => b2i (N.testBit r.toNat)).sum
def memM (ms : List Int) (r : Int) : Int := if r ≥ ms.length then 0 else if ms.getD r.toNat 0 < 0 then 0 else if ms.getD r.toNat 0 > 256 then 0 else ms.getD r.toNat 0
def binM (op a b : Int) : Int :=
  if op = 8 then a * b else if op = 9 then (if b > a then b else a) else if op = 10 then (if b > 1 - a then b else 1 - a) else if op = 11 then b2i (decide (a ≤ b)) else if op = 12 then b2i (decide (a < b)) else
  if op = 13 then b2i (decide (a ≥ b)) else if op = 14 then b2i (decide (a > b)) else if op = 15 then b2i (a == b) else a + b
def opM (N : Nat) (ms : List Int) (op n : Int) (roles : List Int) (vs : List Int) : Int :=
  if op = 1 then n else if op = 2 then 1 else if op = 3 then 0 else if op = 4 ∨ op = 5 then cntM N roles else if op = 6 then memM ms (roles.getD 0 0) else if op = 7 then 1 - vs.getD 0 0 else binM op (vs.getD 0 0) (vs.getD 1 0)
mutual
def evM (N : Nat) (ms : List Int) : Fm → Int
  | .mk op n roles args => opM N ms op n roles (evL N ms args)
def evL (N : Nat) (ms : List Int) : List Fm → List Int
  | [] => []
  | a :: r => evM N ms a :: evL N ms r
end

def Wf (f : Fm) : Prop := insideM 0 f = 0 ∧ fitsM f = true
theorem insideL_all {k : Int} : ∀ {l : List Fm}, insideL k l = 0 → ∀ a ∈ l, insideM k a = 0
  | [], _, a, ha => by cases ha
  | x :: r, h, a, ha => by
    simp only [insideL] at h
    split at h
    · rename_i hx
      rcases List.mem_cons.1 ha with rfl | ha
      · exact hx
      · exact insideL_all h a ha
    · rename_i hx; exact absurd h hx
theorem fitsL_all {w : Int} : ∀ {l : List Fm}, fitsL w l = true → ∀ a ∈ l, typeM a.op = w ∧ fitsM a = true
  | [], _, a, ha => by cases ha
  | x :: r, h, a, ha => by
    simp only [fitsL, Bool.and_eq_true, decide_eq_true_eq] at h
    rcases List.mem_cons.1 ha with rfl | ha
    · exact ⟨h.1.1, h.1.2⟩
    · exact fitsL_all h.2 a ha
theorem nodeK_zero (f : Fm) : nodeK 0 f = nodeM f := by
  have : badKind 0 f.op = false := by simp [badKind]
  unfold nodeK
  split
  · rename_i h; rw [this, h]; rfl
  · rfl
theorem nodeM_inv {f : Fm} (h : nodeM f = 0) : badArity f = false ∧ badForm f = false ∧ badN f = false ∧ inRange f.roles = true ∧ f.roles.Nodup := by
  unfold nodeM at h
  split at h
  · cases h
  split at h
  · cases h
  split at h
  · cases h
  split at h
  · split at h
    · rename_i h1 h2 h3 h4 h5
      exact ⟨by simpa using h1, by simpa using h2, by simpa using h3, h4, by simpa using h5⟩
    · cases h
  · cases h
theorem Wf.node {f : Fm} (h : Wf f) : nodeM f = 0 := by
  have := h.1
  rw [insideM_eq] at this
  split at this
  · rename_i h0; rwa [nodeK_zero] at h0
  · rename_i h0; exact absurd this h0
theorem Wf.arg {f : Fm} (h : Wf f) : ∀ a ∈ f.args, Wf a ∧ typeM a.op = wantM f.op := fun a ha => by
  obtain ⟨h1, h2⟩ := h
  rw [insideM_eq] at h1
  rw [fitsM_eq] at h2
  split at h1
  · exact ⟨⟨insideL_all h1 a ha, (fitsL_all h2 a ha).2⟩, (fitsL_all h2 a ha).1⟩
  · rename_i h0; exact absurd h1 h0
structure WfI (op n : Int) (roles : List Int) (args : List Fm) : Prop where
  lo : 1 ≤ op
  hi : op ≤ 16
  ar : (args.length : Int) = operandsM op
  n0 : op ≠ 1 → n = 0
  least : leastM op ≤ (roles.length : Int)
  most : (roles.length : Int) ≤ mostM op
  nlo : 0 ≤ n
  nhi : n ≤ 999999
  rng : ∀ r ∈ roles, 1 ≤ r ∧ r ≤ 63
  nd : roles.Nodup
  arg : ∀ a ∈ args, Wf a ∧ typeM a.op = wantM op
theorem Wf.inv' {f : Fm} (h : Wf f) : WfI f.op f.n f.roles f.args := by
  obtain ⟨h1, h2, h3, h4, h5⟩ := nodeM_inv h.node
  have a1 : 1 ≤ f.op ∧ f.op ≤ 16 ∧ (f.args.length : Int) = operandsM f.op := by simp [badArity] at h1; omega
  have a2 : (f.op ≠ 1 → f.n = 0) ∧ leastM f.op ≤ (f.roles.length : Int) ∧ (f.roles.length : Int) ≤ mostM f.op := by simp [badForm] at h2; omega
  have a3 : 0 ≤ f.n ∧ f.n ≤ 999999 := by simp [badN] at h3; omega
  refine ⟨a1.1, a1.2.1, a1.2.2, a2.1, a2.2.1, a2.2.2, a3.1, a3.2, fun r hr => ?_, h5, h.arg⟩
  have := List.all_eq_true.1 h4 r hr
  simpa using this
theorem Wf.inv {op n : Int} {roles : List Int} {args : List Fm} (h : Wf (.mk op n roles args)) : WfI op n roles args := h.inv'
theorem WfI.two {op n : Int} {roles : List Int} {args : List Fm} (h : WfI op n roles args) (hop : 8 ≤ op) : ∃ x y, args = [x, y] := by
  have := h.ar
  rw [operandsM, if_pos hop] at this
  match args, this with
  | [x, y], _ => exact ⟨x, y, rfl⟩
  | [], h => simp at h
  | [_], h => simp at h
  | _ :: _ :: _ :: _, h => simp at h; omega
theorem WfI.one {n : Int} {roles : List Int} {args : List Fm} (h : WfI 7 n roles args) : ∃ x, args = [x] := by
  have := h.ar
  simp only [operandsM] at this
  match args, this with
  | [x], _ => exact ⟨x, rfl⟩
  | [], h => simp at h
  | _ :: _ :: _, h => simp at h; omega
theorem WfI.role {op n : Int} {roles : List Int} {args : List Fm} (h : WfI op n roles args) (hop : op = 4 ∨ op = 6) : ∃ r, roles = [r] := by
  have h1 := h.least
  have h2 := h.most
  rw [leastM, if_pos hop] at h1
  rw [mostM, if_pos hop] at h2
  match roles, h1, h2 with
  | [x], _, _ => exact ⟨x, rfl⟩
  | [], h, _ => simp at h
  | _ :: _ :: _, _, h => simp at h; omega

theorem cntM_append (N : Nat) (l m : List Int) : cntM N (l ++ m) = cntM N l + cntM N m := by simp [cntM, List.map_append, List.sum_append]
theorem cntM_take {N : Nat} {l : List Int} {i : Nat} (hi : i < l.length) : cntM N (l.take (i + 1)) = cntM N (l.take i) + b2i (N.testBit l[i].toNat) := by
  have e : l.take (i + 1) = l.take i ++ [l[i]] := by rw [List.take_add_one, List.getElem?_eq_getElem hi]; rfl
  rw [e, cntM_append]
  simp [cntM]
theorem cntM_range (N : Nat) (l : List Int) : 0 ≤ cntM N l ∧ cntM N l ≤ l.length := by
  induction l with
  | nil => simp [cntM]
  | cons a r ih =>
    have h := b2i_01 (N.testBit a.toNat)
    simp only [cntM, List.map_cons, List.sum_cons, List.length_cons] at *
    omega
theorem memM_range (ms : List Int) (r : Int) : 0 ≤ memM ms r ∧ memM ms r ≤ 256 := by
  unfold memM
  repeat' split
  all_goals omega

theorem Fm.size_pos (f : Fm) : 1 ≤ f.size := by rw [Fm.size_eq]; omega
theorem size_one (op n : Int) (roles : List Int) (x : Fm) : (Fm.mk op n roles [x]).size = x.size + 1 := by simp [Fm.size, sizeL]
theorem size_two (op n : Int) (roles : List Int) (x y : Fm) : (Fm.mk op n roles [x, y]).size = x.size + y.size + 1 := by simp [Fm.size, sizeL]
theorem depth_one (op n : Int) (roles : List Int) (x : Fm) : (Fm.mk op n roles [x]).depth = x.depth + 1 := by simp [Fm.depth, depthL]
theorem depth_two (op n : Int) (roles : List Int) (x y : Fm) : (Fm.mk op n roles [x, y]).depth = max x.depth y.depth + 1 := by simp [Fm.depth, depthL]
theorem ops16 {op : Int} (h1 : 1 ≤ op) (h2 : op ≤ 16) : op = 1 ∨ op = 2 ∨ op = 3 ∨ op = 4 ∨ op = 5 ∨ op = 6 ∨ op = 7 ∨ op = 8 ∨ op = 9 ∨ op = 10 ∨ op = 11 ∨ op = 12 ∨ op = 13 ∨ op = 14 ∨ op = 15 ∨ op = 16 := by omega

theorem evM_one (N : Nat) (ms : List Int) (n : Int) (roles : List Int) (x : Fm) : evM N ms (.mk 7 n roles [x]) = 1 - evM N ms x := by simp [evM, evL, opM]
theorem evM_two (N : Nat) (ms : List Int) {op : Int} (n : Int) (roles : List Int) (x y : Fm) (hop : 8 ≤ op) : evM N ms (.mk op n roles [x, y]) = binM op (evM N ms x) (evM N ms y) := by
  simp only [evM, evL, opM]
  rw [if_neg (by omega), if_neg (by omega), if_neg (by omega), if_neg (by omega), if_neg (by omega), if_neg (by omega)]
  rfl
theorem max01 {a b : Int} (ha : a = 0 ∨ a = 1) (hb : b = 0 ∨ b = 1) : (if b > a then b else a) = 0 ∨ (if b > a then b else a) = 1 := by split <;> assumption
/-- The value of a well-typed formula is not great; that of one of the type Bool is 0 or 1. -/
theorem evM_range (N : Nat) (ms : List Int) : ∀ (d : Nat) (f : Fm), f.depth ≤ d → Wf f → (0 ≤ evM N ms f ∧ evM N ms f ≤ 999999 * f.size) ∧ (typeM f.op = 1 → evM N ms f = 0 ∨ evM N ms f = 1) := by
  intro d
  induction d with
  | zero => intro f hf; rw [Fm.depth_eq] at hf; omega
  | succ d ih =>
    rintro ⟨op, n, roles, args⟩ hf hw
    have w := hw.inv
    have hsz := (Fm.mk op n roles args).size_pos
    have hc := cntM_range N roles
    have hm := memM_range ms (roles.getD 0 0)
    have hmost := w.most
    have hr8 : (roles.length : Int) ≤ 8 := by
      have : mostM op ≤ 8 := by
        unfold mostM
        split
        · omega
        · split <;> omega
      omega
    by_cases h8 : 8 ≤ op
    · obtain ⟨x, y, rfl⟩ := w.two h8
      rw [depth_two] at hf
      rw [size_two] at *
      rw [evM_two _ _ _ _ _ _ h8]
      obtain ⟨wx, tx⟩ := w.arg x (by simp)
      obtain ⟨wy, ty⟩ := w.arg y (by simp)
      obtain ⟨⟨x1, x2⟩, x3⟩ := ih x (by omega) wx
      obtain ⟨⟨y1, y2⟩, y3⟩ := ih y (by omega) wy
      have hx := x.size_pos
      have hy := y.size_pos
      have close : ∀ z : Int, (z = 0 ∨ z = 1) → (0 ≤ z ∧ z ≤ 999999 * ((x.size + y.size + 1 : Nat) : Int)) ∧ (typeM op = 1 → z = 0 ∨ z = 1) := fun z hz => ⟨⟨by omega, by omega⟩, fun _ => hz⟩
      show (0 ≤ binM op _ _ ∧ binM op _ _ ≤ 999999 * ((x.size + y.size + 1 : Nat) : Int)) ∧ (typeM op = 1 → binM op _ _ = 0 ∨ binM op _ _ = 1)
      unfold binM
      have hwt : op < 11 → typeM x.op = 1 ∧ typeM y.op = 1 := fun h => by
        rw [wantM, if_neg (by omega)] at tx ty; exact ⟨tx, ty⟩
      split
      · obtain ⟨t1, t2⟩ := hwt (by omega)
        refine close _ ?_
        rcases x3 t1 with h | h <;> rcases y3 t2 with h' | h' <;> rw [h, h'] <;> simp
      split
      · obtain ⟨t1, t2⟩ := hwt (by omega)
        exact close _ (max01 (x3 t1) (y3 t2))
      split
      · obtain ⟨t1, t2⟩ := hwt (by omega)
        refine close _ (max01 ?_ (y3 t2))
        rcases x3 t1 with h | h <;> rw [h] <;> simp
      split
      · exact close _ (b2i_01 _)
      split
      · exact close _ (b2i_01 _)
      split
      · exact close _ (b2i_01 _)
      split
      · exact close _ (b2i_01 _)
      split
      · exact close _ (b2i_01 _)
      · refine ⟨⟨by omega, by omega⟩, fun h => ?_⟩
        have hi := w.hi
        have : op = 16 := by omega
        subst this
        simp [typeM] at h
    · rcases ops16 w.lo w.hi with rfl | rfl | rfl | rfl | rfl | rfl | rfl | h
      · refine ⟨?_, fun h => by simp [typeM, Fm.op] at h⟩
        have e : evM N ms (.mk 1 n roles args) = n := by simp [evM, opM]
        rw [e]; exact ⟨w.nlo, by have := w.nhi; omega⟩
      · have e : evM N ms (.mk 2 n roles args) = 1 := by simp [evM, opM]
        rw [e]; exact ⟨⟨by omega, by omega⟩, fun _ => .inr rfl⟩
      · have e : evM N ms (.mk 3 n roles args) = 0 := by simp [evM, opM]
        rw [e]; exact ⟨⟨by omega, by omega⟩, fun _ => .inl rfl⟩
      · have e : evM N ms (.mk 4 n roles args) = cntM N roles := by simp [evM, opM]
        rw [e]
        have : (roles.length : Int) ≤ 1 := by simpa [mostM] using hmost
        exact ⟨⟨by omega, by omega⟩, fun _ => by omega⟩
      · have e : evM N ms (.mk 5 n roles args) = cntM N roles := by simp [evM, opM]
        rw [e]
        exact ⟨⟨by omega, by omega⟩, fun h => by simp [typeM, Fm.op] at h⟩
      · have e : evM N ms (.mk 6 n roles args) = memM ms (roles.getD 0 0) := by simp [evM, opM]
        rw [e]
        exact ⟨⟨by omega, by omega⟩, fun h => by simp [typeM, Fm.op] at h⟩
      · obtain ⟨x, rfl⟩ := w.one
        rw [depth_one] at hf
        rw [size_one] at *
        rw [evM_one]
        obtain ⟨wx, tx⟩ := w.arg x (by simp)
        obtain ⟨⟨x1, x2⟩, x3⟩ := ih x (by omega) wx
        have := x3 (by simpa [wantM] using tx)
        exact ⟨⟨by omega, by omega⟩, fun _ => by omega⟩
      · omega
end Go.Proofs.Ytelcpkjclcimbaa
