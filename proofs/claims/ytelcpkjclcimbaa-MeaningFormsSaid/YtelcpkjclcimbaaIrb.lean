/-
  Regions whose order of evaluation is open: what they compute in the order of the text they compute in every order. For every program; no statement of the seat is proved here.
-/
import Derived.Test.YtelcpkjclcimbaaIrl
namespace Go.Proofs.Ytelcpkjclcimbaa
open Go.RowKit
set_option linter.unusedVariables false
set_option linter.unusedSimpArgs false

/-! ### What an operation looks at -/
def opdT : Operand → List Nat
  | .tmp t => [t]
  | _ => []
def opdO : Option Operand → List Nat
  | some x => opdT x
  | none => []

def AOp.tmps : AOp → List Nat
  | .mov x | .una _ x | .conv _ x | .box x | .load _ _ x | .nilck x | .faddr _ x | .field _ _ _ x | .len x | .lenS x | .extract x _ => opdT x
  | .pick c a b => opdT c ++ (opdT a ++ opdT b)
  | .bin _ _ x y | .store _ x y | .iaddr _ x y | .iaddrA _ _ x y | .indexA _ _ _ x y | .indexS x y | .mslice _ _ x y | .append _ _ x y | .copy _ x y | .mx x y | .mn x y => opdT x ++ opdT y
  | .alloc _ | .lenA _ => []
  | .build _ ps => ps.flatMap fun q => opdT q.2.2
  | .bslice _ _ ps => ps.flatMap fun q => opdT q.2
  | .slc _ x lo hi top => opdT x ++ (opdO lo ++ (opdO hi ++ opdO top))
  | .mkfn _ l => l.flatMap opdT
  | .call f l => opdT f ++ l.flatMap opdT

def Agree (l : List Nat) (e e' : Env) : Prop := ∀ t ∈ l, e' t = e t

theorem Agree.left {l m : List Nat} {e e' : Env} (h : Agree (l ++ m) e e') : Agree l e e' := fun t ht => h t (by simp [ht])
theorem Agree.right {l m : List Nat} {e e' : Env} (h : Agree (l ++ m) e e') : Agree m e e' := fun t ht => h t (by simp [ht])

theorem ev_agree {e e' : Env} {x : Operand} (h : Agree (opdT x) e e') : ev e' x = ev e x := by
  cases x with
  | tmp t => exact h t (by simp [opdT])
  | _ => rfl

theorem evs_agree {e e' : Env} {l : List Operand} (h : Agree (l.flatMap opdT) e e') : evs e' l = evs e l := by
  induction l with
  | nil => rfl
  | cons x r ih =>
    rw [List.flatMap_cons] at h
    simp only [evs, ev_agree h.left, ih h.right]

theorem bndAt_agree {e e' : Env} {d : Int} {x : Option Operand} (h : Agree (opdO x) e e') : bndAt e' d x = bndAt e d x := by
  cases x with
  | none => rfl
  | some y => simp only [bndAt, ev_agree (x := y) h]

theorem buildL_agree {e e' : Env} : ∀ {ps : List (Nat × Nat × Operand)} {l : List PV}, Agree (ps.flatMap fun q => opdT q.2.2) e e' → buildL e' l ps = buildL e l ps
  | [], _, _ => rfl
  | (off, size, x) :: r, l, h => by
    rw [List.flatMap_cons] at h
    simp only [buildL, ev_agree (x := x) h.left]
    split
    · split
      · exact buildL_agree h.right
      · rfl
    · rfl

theorem buildS_agree {e e' : Env} {size : Nat} : ∀ {ps : List (Nat × Operand)} {l : List (List PV)}, Agree (ps.flatMap fun q => opdT q.2) e e' → buildS e' size l ps = buildS e size l ps
  | [], _, _ => rfl
  | (i, x) :: r, l, h => by
    rw [List.flatMap_cons] at h
    simp only [buildS, ev_agree (x := x) h.left]
    split
    · split
      · exact buildS_agree h.right
      · rfl
    · rfl

theorem dEval_agree {op : AOp} {e e' : Env} (h : Agree op.tmps e e') (hp : Heap) (id : Nat) : dEval op e' hp id = dEval op e hp id := by
  cases op <;> simp only [AOp.tmps] at h <;> simp only [dEval]
  case mov x => rw [ev_agree h]
  case una x => rw [ev_agree h]
  case conv x => rw [ev_agree h]
  case box x => rw [ev_agree h]
  case load x => rw [ev_agree h]
  case nilck x => rw [ev_agree h]
  case faddr x => rw [ev_agree h]
  case field x => rw [ev_agree h]
  case len x => rw [ev_agree h]
  case lenS x => rw [ev_agree h]
  case extract x i => rw [ev_agree h]
  case pick c a b => rw [ev_agree h.left, ev_agree h.right.left, ev_agree h.right.right]
  case bin x y => rw [ev_agree h.left, ev_agree h.right]
  case store x y => rw [ev_agree h.left, ev_agree h.right]
  case iaddr x y => rw [ev_agree h.left, ev_agree h.right]
  case iaddrA x y => rw [ev_agree h.left, ev_agree h.right]
  case indexA x y => rw [ev_agree h.left, ev_agree h.right]
  case indexS x y => rw [ev_agree h.left, ev_agree h.right]
  case mslice x y => rw [ev_agree h.left, ev_agree h.right]
  case append x y => rw [ev_agree h.left, ev_agree h.right]
  case copy x y => rw [ev_agree h.left, ev_agree h.right]
  case mx x y => rw [ev_agree h.left, ev_agree h.right]
  case mn x y => rw [ev_agree h.left, ev_agree h.right]
  case build ps => rw [buildL_agree h]
  case bslice ps => rw [buildS_agree h]
  case mkfn l => rw [evs_agree h]
  case slc x lo hi mx =>
    rw [ev_agree h.left]
    simp only [bndAt_agree h.right.left, bndAt_agree h.right.right.left]
    cases mx with
    | none => rfl
    | some m => simp only [ev_agree (x := m) h.right.right.right]

theorem fEval_agree {op : AOp} {e e' : Env} (h : Agree op.tmps e e') (hp : Heap) (id : Nat) : fEval op e' hp id = fEval op e hp id := by
  cases op <;> simp only [AOp.tmps] at h <;> simp only [fEval]
  case box x => rw [ev_agree h]
  case append x y => rw [ev_agree h.left, ev_agree h.right]
  case bslice ps => rw [buildS_agree h]

/-! ### What an operation does to the objects -/
inductive Eff where
  | none
  | new (id : Nat) (b : Bx)
  | set (k : Nat) (b : Bx)
  | move (k id : Nat) (b : Bx)

def Eff.app : Eff → Heap → Heap
  | .none, h => h
  | .new id b, h => h.upd id b
  | .set k b, h => h.upd k b
  | .move k id b, h => fun j => bif Nat.beq j id then some b else bif Nat.beq j k then Option.none else h j

/-- May it look at objects? -/
def AOp.touch : AOp → Bool
  | .load _ _ _ | .store _ _ _ | .iaddr _ _ _ | .len _ | .slc _ _ _ _ _ | .append _ _ _ _ | .copy _ _ _ => true
  | _ => false

def resv : Option Nat → Nat → Bool
  | some j, k => Nat.beq j k
  | none, _ => false
/-- May it be looked at: it was there, or an operation ahead has made it; and it is not the object that is reserved for calls. -/
def okId (z : Option Nat) (n mask k : Nat) : Bool := !resv z k && (Nat.blt k n || (mask.testBit (k - n)))
def okPtr (z : Option Nat) (n mask : Nat) : Option PV → Bool
  | some (.ptr k _ _) => okId z n mask k
  | some (.own k) => okId z n mask k
  | _ => true

/-- It looks at objects that were there, or that operations ahead of it have made; it writes one only where it is ordered against all that look. -/
def accOk (z : Option Nat) (op : AOp) (e : Env) (n mask : Nat) (iso : Bool) : Bool :=
  match op with
  | .load _ _ a => okPtr z n mask (ev e a)
  | .store _ a _ => okPtr z n mask (ev e a) && iso
  | .copy _ d _ => okPtr z n mask (ev e d) && iso
  | .iaddr _ x _ => okPtr z n mask (ev e x)
  | .len x => okPtr z n mask (ev e x)
  | .slc _ x _ _ _ => match ev e x with | some (.own _) => false | _ => true
  | .append _ _ s _ => match ev e s with | some (.own k) => okId z n mask k && iso | _ => true
  | _ => true

def evalB (alt : Bool) (op : AOp) (e : Env) (h : Heap) (id : Nat) : Option (PV × Heap) := match alt with | true => fEval op e h id | false => dEval op e h id

def EffOk (z : Option Nat) (call : Bool) (n mask : Nat) (iso : Bool) (id : Nat) : Eff → Prop
  | .none => True
  | .new i _ => i = id
  | .set k _ => (iso = true ∧ okId z n mask k = true) ∨ (call = true ∧ z = some k)
  | .move k i _ => iso = true ∧ okId z n mask k = true ∧ i = id

theorem beq_comm' (j k : Nat) : Nat.beq j k = true ↔ j = k := by simp

theorem evalB_eff {alt : Bool} {op : AOp} {e : Env} {h h' : Heap} {id n mask : Nat} {iso : Bool} {p : PV} {z : Option Nat} (hd : evalB alt op e h id = some (p, h')) (ha : accOk z op e n mask iso = true) :
    ∃ f : Eff, h' = f.app h ∧ EffOk z false n mask iso id f ∧ (f = .none ∨ op.touch = true ∨ ∃ b, f = .new id b) ∧ ∀ h2 : Heap, (op.touch = true → ∀ k, okId z n mask k = true → h2 k = h k) → evalB alt op e h2 id = some (p, f.app h2) := by
  cases alt with
  | true =>
    simp only [evalB] at hd ⊢
    cases op <;> simp only [fEval] at hd <;> try (simp at hd; done)
    case alloc z => cases hd; exact ⟨.none, rfl, trivial, .inl rfl, fun h2 _ => rfl⟩
    case box x =>
      split at hd
      case h_2 => simp at hd
      rename_i q hq
      split at hd
      case isFalse => simp at hd
      rename_i hc
      cases hd
      exact ⟨.none, rfl, trivial, .inl rfl, fun h2 _ => by simp only [fEval, hq, hc, if_true, Eff.app]⟩
    case append z b x y =>
      split at hd
      case h_2 => simp at hd
      rename_i l m full hx hy
      split at hd
      case isFalse => simp at hd
      rename_i hc
      cases hd
      exact ⟨.none, rfl, trivial, .inl rfl, fun h2 _ => by simp only [fEval, hx, hy, if_pos hc, Eff.app]⟩
    case bslice z n' ps =>
      split at hd
      case h_2 => simp at hd
      rename_i l hl
      cases hd
      exact ⟨.new id ⟨z.length, l⟩, rfl, rfl, .inr (.inr ⟨_, rfl⟩), fun h2 _ => by simp only [fEval, hl, Eff.app]⟩
  | false =>
    simp only [evalB] at hd ⊢
    -- those that make an object, or look at one
    by_cases ht : op.touch = true
    · cases op <;> simp only [AOp.touch, Bool.false_eq_true] at ht
      case load agg size x =>
        simp only [dEval] at hd
        split at hd
        · rename_i l hl
          split at hd
          · rename_i q hq
            cases hd
            exact ⟨.none, rfl, trivial, .inl rfl, fun h2 _ => by simp only [dEval, hl, hq, Eff.app]⟩
          · simp at hd
        · rename_i k i off hl
          split at hd
          · rename_i b hb
            split at hd
            case isFalse => simp at hd
            rename_i hi
            split at hd
            · rename_i q hq
              cases hd
              refine ⟨.none, rfl, trivial, .inl rfl, fun h2 h2a => ?_⟩
              have hk : h2 k = some b := by rw [h2a rfl k (by simpa [accOk, hl, okPtr] using ha)]; exact hb
              simp only [dEval, hl, hk, if_pos hi, hq, Eff.app]
            · simp at hd
          · simp at hd
        · simp at hd
      case store size x y =>
        simp only [dEval] at hd
        split at hd
        case h_2 => simp at hd
        rename_i k i off q hx hy
        split at hd
        case h_2 => simp at hd
        rename_i b hb
        split at hd
        case isFalse => simp at hd
        rename_i hc
        cases hd
        have ha' : okId z n mask k = true ∧ iso = true := by simpa [accOk, hx, okPtr] using ha
        refine ⟨.set k ⟨b.esz, b.elems.set i (setAt (b.elems.getD i []) off q.cells)⟩, rfl, .inl ⟨ha'.2, ha'.1⟩, .inr (.inl rfl), fun h2 h2a => ?_⟩
        have hk : h2 k = some b := by rw [h2a rfl k ha'.1]; exact hb
        simp only [dEval, hx, hy, hk, if_pos hc, Eff.app]
      case copy esz x y =>
        simp only [dEval] at hd
        split at hd
        case h_2 => simp at hd
        rename_i k m full hx hy
        split at hd
        case h_2 => simp at hd
        rename_i b hb
        split at hd
        case isFalse => simp at hd
        rename_i hc
        cases hd
        have ha' : okId z n mask k = true ∧ iso = true := by simpa [accOk, hx, okPtr] using ha
        refine ⟨.set k ⟨b.esz, m.take b.elems.length ++ b.elems.drop m.length⟩, rfl, .inl ⟨ha'.2, ha'.1⟩, .inr (.inl rfl), fun h2 h2a => ?_⟩
        have hk : h2 k = some b := by rw [h2a rfl k ha'.1]; exact hb
        simp only [dEval, hx, hy, hk, if_pos hc, Eff.app]
      case iaddr esz x i =>
        simp only [dEval] at hd
        split at hd
        · rename_i l full kk j hx hi
          split at hd
          case isFalse => simp at hd
          rename_i h1
          split at hd
          case isFalse => simp at hd
          rename_i h2'
          cases hd
          exact ⟨.none, rfl, trivial, .inl rfl, fun h2 _ => by simp only [dEval, hx, hi, if_pos h1, if_pos h2', Eff.app]⟩
        · rename_i k kk j hx hi
          split at hd
          case h_2 => simp at hd
          rename_i b hb
          split at hd
          case isFalse => simp at hd
          rename_i h1
          split at hd
          case isFalse => simp at hd
          rename_i h2'
          cases hd
          refine ⟨.none, rfl, trivial, .inl rfl, fun h2 h2a => ?_⟩
          have hk : h2 k = some b := by rw [h2a rfl k (by simpa [accOk, hx, okPtr] using ha)]; exact hb
          simp only [dEval, hx, hi, hk, if_pos h1, if_pos h2', Eff.app]
        · simp at hd
      case len x =>
        simp only [dEval] at hd
        split at hd
        · rename_i l full hx
          cases hd
          exact ⟨.none, rfl, trivial, .inl rfl, fun h2 _ => by simp only [dEval, hx, Eff.app]⟩
        · rename_i k hx
          split at hd
          case h_2 => simp at hd
          rename_i b hb
          cases hd
          refine ⟨.none, rfl, trivial, .inl rfl, fun h2 h2a => ?_⟩
          have hk : h2 k = some b := by rw [h2a rfl k (by simpa [accOk, hx, okPtr] using ha)]; exact hb
          simp only [dEval, hx, hk, Eff.app]
        · simp at hd
      case slc esz x lo hi mx =>
        have key : ∀ h2, dEval (.slc esz x lo hi mx) e h2 id = (dEval (.slc esz x lo hi mx) e h id).map fun r => (r.1, h2) := by
          intro h2
          simp only [dEval]
          simp only [accOk] at ha
          split
          · split
            · split
              · split <;> rfl
              · split
                · split <;> rfl
                · rfl
            · rfl
          · rename_i k hk
            rw [hk] at ha
            simp at ha
          · rfl
        have hh : h' = h := by
          have h3 := key h
          rw [hd] at h3
          have := Option.some.inj h3
          exact (Prod.mk.inj this).2
        subst hh
        exact ⟨.none, rfl, trivial, .inl rfl, fun h2 _ => by rw [key h2, hd]; rfl⟩
      case append zv b x y =>
        simp only [dEval] at hd
        split at hd
        case h_2 => simp at hd
        rename_i k m full hx hy
        split at hd
        case h_2 => simp at hd
        rename_i bx hb
        split at hd
        case isFalse => simp at hd
        rename_i hc
        cases hd
        have ha' : okId z n mask k = true ∧ iso = true := by simpa [accOk, hx] using ha
        refine ⟨.move k id ⟨bx.esz, bx.elems ++ m⟩, rfl, ⟨ha'.2, ha'.1, rfl⟩, .inr (.inl rfl), fun h2 h2a => ?_⟩
        have hk : h2 k = some bx := by rw [h2a rfl k ha'.1]; exact hb
        simp only [dEval, hx, hy, hk, if_pos hc, Eff.app]
    · have hmk : (∃ b, ∀ h2, dEval op e h2 id = some (p, h2.upd id b)) ∨ ∀ h2, dEval op e h2 id = some (p, h2) := by
        cases op <;> simp only [AOp.touch, not_true_eq_false, Bool.false_eq_true, not_false_eq_true] at ht <;> simp only [dEval] at hd ⊢
        case alloc z => cases hd; exact .inl ⟨_, fun _ => rfl⟩
        case box x =>
          split at hd
          case h_2 => simp at hd
          rename_i q hq
          split at hd
          case isFalse => simp at hd
          rename_i hc
          cases hd
          exact .inl ⟨⟨q.cells.length, [q.cells]⟩, fun h2 => by simp only [hc, if_true]⟩
        case mslice z b x y =>
          split at hd
          case h_2 => simp at hd
          rename_i n' m' hn hm
          split at hd
          case isFalse => simp at hd
          rename_i hc
          cases hd
          exact .inl ⟨⟨z.length, List.replicate n'.toNat (zpv z)⟩, fun h2 => by simp only [if_pos hc]⟩
        case lenA n' => cases hd; exact .inr fun _ => rfl
        case call => simp at hd
        case mx x y =>
          split at hd
          case h_2 => simp at hd
          cases hd
          exact .inr fun h2 => rfl
        case mn x y =>
          split at hd
          case h_2 => simp at hd
          cases hd
          exact .inr fun h2 => rfl
        all_goals
          refine .inr fun h2 => ?_
          (repeat' (split at hd)) <;> first
            | (simp at hd; done)
            | (cases hd; simp_all; done)
      rcases hmk with ⟨b, hmk⟩ | hmk
      · have := hmk h
        rw [hd] at this
        cases this
        exact ⟨.new id b, rfl, rfl, .inr (.inr ⟨b, rfl⟩), fun h2 _ => hmk h2⟩
      · have := hmk h
        rw [hd] at this
        cases this
        exact ⟨.none, rfl, trivial, .inl rfl, fun h2 _ => hmk h2⟩

/-! ### The operations of a region, each with what is ahead of it -/
structure DItem where
  i : Nat
  o : AOper
  mask : Nat
  iso : Bool
  alt : Bool

def guardT : Option (Nat × Bool) → List Nat
  | some (s, _) => [s]
  | none => []
def DItem.look (x : DItem) : List Nat := x.o.op.tmps ++ guardT x.o.guard

/-- Is a guarded operation carried out? -/
def wantB (g : Option (Nat × Bool)) (e : Env) : Option Bool :=
  match g with
  | none => some true
  | some (s, b) => match e s with
    | some (.val (.bool c)) => some (c == b)
    | some (.val (.tuple _)) => some false
    | _ => none

def CallOk (P : Program) (f : Operand) (args : List Operand) (e : Env) (R : PV → Prop) : Prop := ∃ g caps as args', ev e f = some (.fn g caps) ∧ evs e args = some as ∧ LoL (as ++ caps) args' ∧ pureL args' ∧ Spec P g args' R

/-- A call that works on the variable id. -/
def CallP (P : Program) (f : Operand) (args : List Operand) (e : Env) (id : Nat) (b : Bx) (R : PV → Bx → Prop) : Prop := ∃ g caps as rest, ev e f = some (.fn g caps) ∧ evs e args = some as ∧ as ++ caps = .ptr id 0 0 :: rest ∧ pureLL b.elems ∧ pureL rest ∧ PSpec P g b rest R

structure DetOk (z : Option Nat) (n : Nat) (x : DItem) (e : Env) (h : Heap) (p : PV) (f : Eff) : Prop where
  eff : EffOk z false n x.mask x.iso (n + x.i) f
  touch : f = .none ∨ x.o.op.touch = true ∨ ∃ b, f = .new (n + x.i) b
  run : ∀ h2 : Heap, (x.o.op.touch = true → ∀ k, okId z n x.mask k = true → h2 k = h k) → evalB x.alt x.o.op e h2 (n + x.i) = some (p, f.app h2)

def isCall : AOp → Bool
  | .call _ _ => true
  | _ => false

/-- What may come of an operation. -/
inductive Sem1 (P : Program) (z : Option Nat) (n : Nat) (x : DItem) (e : Env) (h : Heap) : (PV → Eff → Prop) → Prop
  | skip (hw : wantB x.o.guard e = some false) : Sem1 P z n x e h (fun q g => q = pvu ∧ g = .none)
  | call (hw : wantB x.o.guard e = some true) (f : Operand) (args : List Operand) (ho : x.o.op = .call f args) (R : PV → Prop) (hc : CallOk P f args e R) : Sem1 P z n x e h (fun q g => R q ∧ g = .none)
  | callP (hw : wantB x.o.guard e = some true) (f : Operand) (args : List Operand) (ho : x.o.op = .call f args) (id : Nat) (hz : z = some id) (b : Bx) (hb : h id = some b) (R : PV → Bx → Prop) (hc : CallP P f args e id b R) : Sem1 P z n x e h (fun q g => ∃ b', g = .set id b' ∧ q.pure ∧ pureLL b'.elems ∧ R q b')
  | det (hw : wantB x.o.guard e = some true) (hn : isCall x.o.op = false) (p : PV) (f : Eff) (hd : DetOk z n x e h p f) : Sem1 P z n x e h (fun q g => q = p ∧ g = f)

/-- What a region computes; z: the object that is reserved for calls. -/
def dK (P : Program) (z : Option Nat) (n : Nat) : List DItem → Env → Heap → (Env → Heap → Prop) → Prop
  | [], e, h, K => K e h
  | x :: xs, e, h, K => ∃ T, Sem1 P z n x e h T ∧ ∀ p f, T p f → dK P z n xs (updO e x.o.dst p) (f.app h) K

section
variable {P : Program} {z : Option Nat} {n : Nat}

theorem wantB_agree {g : Option (Nat × Bool)} {e e' : Env} (h : Agree (guardT g) e e') : wantB g e' = wantB g e := by
  cases g with
  | none => rfl
  | some s => simp only [wantB, h s.1 (by simp [guardT])]

theorem Sem1.agree {x : DItem} {e e' : Env} {h h' : Heap} {T : PV → Eff → Prop} (hs : Sem1 P z n x e h T) (he : Agree x.look e e') (hh : x.o.op.touch = true → ∀ k, okId z n x.mask k = true → h' k = h k) (hz : isCall x.o.op = true → ∀ k, z = some k → h' k = h k) : Sem1 P z n x e' h' T := by
  have hg : wantB x.o.guard e' = wantB x.o.guard e := wantB_agree he.right
  cases hs with
  | skip hw => exact .skip (by rw [hg]; exact hw)
  | call hw f args ho R hc =>
    obtain ⟨g, caps, as, args', h1, h2, h3⟩ := hc
    have he' : Agree (opdT f ++ args.flatMap opdT) e e' := by have := he.left; rw [ho] at this; exact this
    exact .call (by rw [hg]; exact hw) f args ho R ⟨g, caps, as, args', by rw [ev_agree he'.left]; exact h1, by rw [evs_agree he'.right]; exact h2, h3⟩
  | callP hw f args ho id hzi b hb R hc =>
    obtain ⟨g, caps, as, rest, h1, h2, h3⟩ := hc
    have he' : Agree (opdT f ++ args.flatMap opdT) e e' := by have := he.left; rw [ho] at this; exact this
    exact .callP (by rw [hg]; exact hw) f args ho id hzi b (by rw [hz (by rw [ho]; rfl) id hzi]; exact hb) R ⟨g, caps, as, rest, by rw [ev_agree he'.left]; exact h1, by rw [evs_agree he'.right]; exact h2, h3⟩
  | det hw hn p f hd =>
    refine .det (by rw [hg]; exact hw) hn p f ⟨hd.eff, hd.touch, fun h2 h2a => ?_⟩
    have hev : evalB x.alt x.o.op e' h2 (n + x.i) = evalB x.alt x.o.op e h2 (n + x.i) := by
      unfold evalB
      cases x.alt
      · exact dEval_agree he.left h2 _
      · exact fEval_agree he.left h2 _
    rw [hev]
    exact hd.run h2 fun ht k hk => by rw [h2a ht k hk, hh ht k hk]

/-- The two operations do not disturb each other. -/
structure Indep (x y : DItem) : Prop where
  xy : ∀ d, x.o.dst = some d → d ∉ y.look ∧ y.o.dst ≠ some d
  yx : ∀ d, y.o.dst = some d → d ∉ x.look
  calls : isCall x.o.op = true → isCall y.o.op = false
  xiso : x.iso = true → y.o.op.touch = false
  yiso : y.iso = true → x.o.op.touch = false
  ne : x.i ≠ y.i
  mx : x.mask.testBit y.i = false
  my : y.mask.testBit x.i = false

theorem updO_agree {e : Env} {d : Option Nat} {p : PV} {l : List Nat} (h : ∀ k, d = some k → k ∉ l) : Agree l e (updO e d p) := by
  intro t ht
  cases d with
  | none => rfl
  | some k => exact Env.upd_ne _ _ fun hk => h k rfl (hk ▸ ht)
theorem updO_agree' {e : Env} {d : Option Nat} {p : PV} {l : List Nat} (h : ∀ k, d = some k → k ∉ l) : Agree l (updO e d p) e := fun t ht => (updO_agree (e := e) (p := p) h t ht).symm

theorem updO_comm {e : Env} {d d' : Option Nat} {p q : PV} (h : ∀ k, d = some k → d' ≠ some k) : updO (updO e d p) d' q = updO (updO e d' q) d p := by
  cases d with
  | none => rfl
  | some k =>
    cases d' with
    | none => rfl
    | some k' =>
      have hne : k' ≠ k := fun hk => h k rfl (by rw [hk])
      funext j
      simp only [updO]
      by_cases h1 : j = k
      · subst h1; rw [Env.upd_ne _ _ (Ne.symm hne), Env.upd_same, Env.upd_same]
      · by_cases h2 : j = k'
        · subst h2; rw [Env.upd_same, Env.upd_ne _ _ h1, Env.upd_same]
        · rw [Env.upd_ne _ _ h2, Env.upd_ne _ _ h1, Env.upd_ne _ _ h1, Env.upd_ne _ _ h2]

theorem okId_new {m i : Nat} (h : m.testBit i = false) : okId z n m (n + i) = false := by
  have h1 : Nat.blt (n + i) n = false := Bool.eq_false_iff.2 fun hb => by have := Nat.le_of_ble_eq_true hb; omega
  simp [okId, h, h1]

/-- An effect leaves alone what the other one may look at. -/
theorem eff_away {x y : DItem} (hi : Indep x y) {e : Env} {h : Heap} {p : PV} {f : Eff} (hd : EffOk z (isCall x.o.op) n x.mask x.iso (n + x.i) f) (ht : y.o.op.touch = true) (h' : Heap) : ∀ k, okId z n y.mask k = true → f.app h' k = h' k := by
  intro k hk
  cases f with
  | none => rfl
  | new id b =>
    obtain rfl : id = n + x.i := hd
    have : k ≠ n + x.i := fun e => by subst e; rw [okId_new hi.my] at hk; cases hk
    exact Heap.upd_ne _ _ this
  | set k' b =>
    rcases hd with hd | ⟨_, hd⟩
    · have := hi.xiso hd.1; rw [this] at ht; cases ht
    · refine Heap.upd_ne _ _ fun e => ?_
      subst e
      rw [hd] at hk
      simp [okId, resv] at hk
  | move k' id b => have := hi.xiso hd.1; rw [this] at ht; cases ht
/-- An operation that is no call leaves alone what is reserved for calls. -/
theorem eff_resv {x : DItem} (hzn : ∀ i, z = some i → i < n) (hnc : isCall x.o.op = false) {f : Eff} (hd : EffOk z (isCall x.o.op) n x.mask x.iso (n + x.i) f) (h' : Heap) : ∀ k, z = some k → f.app h' k = h' k := by
  intro k hk
  have hkn := hzn k hk
  have hne : ∀ j, okId z n x.mask j = true → k ≠ j := fun j hj e => by
    subst e
    rw [hk] at hj
    simp [okId, resv] at hj
  cases f with
  | none => rfl
  | new id b =>
    obtain rfl : id = n + x.i := hd
    exact Heap.upd_ne _ _ (by omega)
  | set k' b =>
    rcases hd with hd | ⟨hc, _⟩
    · exact Heap.upd_ne _ _ (hne k' hd.2)
    · rw [hnc] at hc; cases hc
  | move k' id b =>
    obtain ⟨_, h2, rfl⟩ := hd
    have e1 : Nat.beq k (n + x.i) = false := Bool.eq_false_iff.2 fun hb => by have := Nat.eq_of_beq_eq_true hb; omega
    have e2 : Nat.beq k k' = false := Bool.eq_false_iff.2 fun hb => hne k' h2 (Nat.eq_of_beq_eq_true hb)
    simp only [Eff.app, e1, e2, cond_false]

theorem Indep.symm {x y : DItem} (h : Indep x y) : Indep y x := by
  refine ⟨fun d hd => ⟨h.yx d hd, fun hx => (h.xy d hx).2 hd⟩, fun d hd => (h.xy d hd).1, fun hy => ?_, h.yiso, h.xiso, h.ne.symm, h.my, h.mx⟩
  cases hx : isCall x.o.op with
  | false => rfl
  | true => have := h.calls hx; rw [this] at hy; cases hy

/-- What an effect puts where. -/
def Eff.put : Eff → Nat → Option (Option Bx)
  | .none, _ => Option.none
  | .new id b, j => bif Nat.beq j id then some (some b) else Option.none
  | .set k b, j => bif Nat.beq j k then some (some b) else Option.none
  | .move k id b, j => bif Nat.beq j id then some (some b) else bif Nat.beq j k then some Option.none else Option.none
theorem Eff.app_put (f : Eff) (h : Heap) (j : Nat) : f.app h j = match f.put j with | some v => v | Option.none => h j := by
  cases f with
  | none => rfl
  | new id b => simp only [Eff.app, Eff.put, Heap.upd]; cases Nat.beq j id <;> rfl
  | set k b => simp only [Eff.app, Eff.put, Heap.upd]; cases Nat.beq j k <;> rfl
  | move k id b =>
    simp only [Eff.app, Eff.put]
    cases Nat.beq j id
    · cases Nat.beq j k <;> rfl
    · rfl
theorem app_comm {f g : Eff} (hd : ∀ j, f.put j = none ∨ g.put j = none) (h : Heap) : g.app (f.app h) = f.app (g.app h) := by
  funext j
  rw [Eff.app_put g, Eff.app_put f, Eff.app_put f, Eff.app_put g]
  rcases hd j with e | e <;> rw [e]

/-- What an item's effect may be. -/
def EffT (z : Option Nat) (n : Nat) (x : DItem) (f : Eff) : Prop := f = .none ∨ x.o.op.touch = true ∨ (∃ b, f = .new (n + x.i) b) ∨ (isCall x.o.op = true ∧ ∃ i b, z = some i ∧ f = .set i b)
theorem eff_key {x : DItem} {f : Eff} (hf : EffOk z (isCall x.o.op) n x.mask x.iso (n + x.i) f) (hf2 : EffT z n x f) (j : Nat) (hj : f.put j ≠ none) : j = n + x.i ∨ (x.iso = true ∧ okId z n x.mask j = true ∧ x.o.op.touch = true) ∨ (isCall x.o.op = true ∧ z = some j) := by
  cases f with
  | none => exact absurd rfl hj
  | new id b =>
    obtain rfl : id = n + x.i := hf
    simp only [Eff.put] at hj
    cases hb : Nat.beq j (n + x.i) with
    | true => exact .inl (Nat.eq_of_beq_eq_true hb)
    | false => rw [hb] at hj; exact absurd rfl hj
  | set k b =>
    have hjk : j = k := by
      simp only [Eff.put] at hj
      cases hb : Nat.beq j k with
      | true => exact Nat.eq_of_beq_eq_true hb
      | false => rw [hb] at hj; exact absurd rfl hj
    subst hjk
    rcases hf with hf | hf
    · rcases hf2 with h | h | ⟨_, h⟩ | ⟨hc, i, _, hz, h⟩
      · cases h
      · exact .inr (.inl ⟨hf.1, hf.2, h⟩)
      · cases h
      · cases h; exact .inr (.inr ⟨hc, hz⟩)
    · exact .inr (.inr hf)
  | move k id b =>
    obtain ⟨h1, h2, rfl⟩ := hf
    have ht : x.o.op.touch = true := by
      rcases hf2 with h | h | ⟨_, h⟩ | ⟨_, _, _, _, h⟩
      · cases h
      · exact h
      · cases h
      · cases h
    simp only [Eff.put] at hj
    cases hb : Nat.beq j (n + x.i) with
    | true => exact .inl (Nat.eq_of_beq_eq_true hb)
    | false =>
      rw [hb] at hj
      cases hb2 : Nat.beq j k with
      | true => obtain rfl := Nat.eq_of_beq_eq_true hb2; exact .inr (.inl ⟨h1, h2, ht⟩)
      | false => rw [hb2] at hj; exact absurd rfl hj
theorem okId_resv {m i : Nat} (hz : z = some i) : okId z n m i = false := by subst hz; simp [okId, resv]
theorem eff_comm {x y : DItem} (hzn : ∀ i, z = some i → i < n) (hi : Indep x y) {f g : Eff} (hf : EffOk z (isCall x.o.op) n x.mask x.iso (n + x.i) f) (hf2 : EffT z n x f) (hg : EffOk z (isCall y.o.op) n y.mask y.iso (n + y.i) g) (hg2 : EffT z n y g) (h : Heap) : g.app (f.app h) = f.app (g.app h) := by
  refine app_comm (fun j => ?_) h
  by_cases h1 : f.put j = none
  · exact .inl h1
  · by_cases h2 : g.put j = none
    · exact .inr h2
    · exfalso
      have hne := hi.ne
      rcases eff_key hf hf2 j h1 with k1 | ⟨k1, k2, k3⟩ | ⟨k1, k2⟩ <;> rcases eff_key hg hg2 j h2 with l1 | ⟨l1, l2, l3⟩ | ⟨l1, l2⟩
      · omega
      · rw [k1, okId_new hi.my] at l2; cases l2
      · have := hzn j l2; omega
      · rw [l1, okId_new hi.mx] at k2; cases k2
      · have := hi.xiso k1; rw [this] at l3; cases l3
      · rw [okId_resv l2] at k2; cases k2
      · have := hzn j k2; omega
      · rw [okId_resv k2] at l2; cases l2
      · have := hi.calls k1; rw [this] at l1; cases l1

theorem Sem1.props {x : DItem} {e : Env} {h : Heap} {T : PV → Eff → Prop} (hs : Sem1 P z n x e h T) {p : PV} {f : Eff} (ht : T p f) : EffOk z (isCall x.o.op) n x.mask x.iso (n + x.i) f ∧ EffT z n x f := by
  cases hs with
  | skip hw => obtain ⟨rfl, rfl⟩ := ht; exact ⟨trivial, .inl rfl⟩
  | call hw f' args ho R hc => obtain ⟨_, rfl⟩ := ht; exact ⟨trivial, .inl rfl⟩
  | callP hw f' args ho id hz b hb R hc =>
    obtain ⟨b', rfl, _⟩ := ht
    exact ⟨.inr ⟨by rw [ho]; rfl, hz⟩, .inr (.inr (.inr ⟨by rw [ho]; rfl, id, b', hz, rfl⟩))⟩
  | det hw hn p' f' hd =>
    obtain ⟨rfl, rfl⟩ := ht
    refine ⟨by rw [hn]; exact hd.eff, ?_⟩
    rcases hd.touch with h | h | h
    · exact .inl h
    · exact .inr (.inl h)
    · exact .inr (.inr (.inl h))

/-- The other one's state is as good. -/
theorem Sem1.over {x y : DItem} (hzn : ∀ i, z = some i → i < n) (hi : Indep x y) {e : Env} {h : Heap} {T Ty : PV → Eff → Prop} (hx : Sem1 P z n x e h T) {p : PV} {f : Eff} (ht : T p f) : Sem1 P z n y (updO e x.o.dst p) (f.app h) Ty ↔ Sem1 P z n y e h Ty := by
  have hp := (hx.props ht).1
  constructor
  · intro hy
    exact hy.agree (updO_agree' fun k hk => (hi.xy k hk).1) (fun htc k hk => (eff_away hi (e := e) (h := h) (p := p) hp htc h k hk).symm) fun hc k hk => (eff_resv hzn (hi.symm.calls hc) hp h k hk).symm
  · intro hy
    exact hy.agree (updO_agree fun k hk => (hi.xy k hk).1) (fun htc k hk => eff_away hi (e := e) (h := h) (p := p) hp htc h k hk) fun hc k hk => eff_resv hzn (hi.symm.calls hc) hp h k hk

/-- An operation without a call is taken first, when its outcome is known. -/
theorem dK_pull_det (hzn : ∀ i, z = some i → i < n) {y : DItem} {post : List DItem} {K : Env → Heap → Prop} : ∀ {pre : List DItem}, (∀ x ∈ pre, Indep x y) → ∀ {e : Env} {h : Heap} {q : PV} {g : Eff}, Sem1 P z n y e h (fun q' g' => q' = q ∧ g' = g) → isCall y.o.op = false → dK P z n (pre ++ y :: post) e h K → dK P z n (pre ++ post) (updO e y.o.dst q) (g.app h) K := by
  intro pre
  induction pre with
  | nil =>
    intro _ e h q g hy hnc hk
    obtain ⟨T, hT, hK⟩ := hk
    have hyp := hy.props (p := q) (f := g) ⟨rfl, rfl⟩
    -- the outcome is one
    have huniq : ∃ g', T q g' ∧ g'.app h = g.app h := by
      have hgen : ∀ T' : PV → Eff → Prop, Sem1 P z n y e h T' → T' q g → ∃ g', T q g' ∧ g'.app h = g.app h := by
        intro T' hT' htq
        cases hT' with
        | skip hw =>
          obtain ⟨rfl, rfl⟩ := htq
          cases hT with
          | skip hw' => exact ⟨_, ⟨rfl, rfl⟩, rfl⟩
          | call hw' => rw [hw] at hw'; cases hw'
          | callP hw' => rw [hw] at hw'; cases hw'
          | det hw' => rw [hw] at hw'; cases hw'
        | call hw f args ho R hc => rw [ho] at hnc; simp [isCall] at hnc
        | callP hw f args ho => rw [ho] at hnc; simp [isCall] at hnc
        | det hw hn p' f' hd =>
          obtain ⟨rfl, rfl⟩ := htq
          cases hT with
          | skip hw' => rw [hw] at hw'; cases hw'
          | call hw' f args ho R hc => rw [ho] at hnc; simp [isCall] at hnc
          | callP hw' f args ho => rw [ho] at hnc; simp [isCall] at hnc
          | det hw' hn' p2 f2 hd2 =>
            have h1 := hd.run h fun _ _ _ => rfl
            have h2 := hd2.run h fun _ _ _ => rfl
            rw [h1] at h2
            have h3 := Prod.mk.inj (Option.some.inj h2)
            exact ⟨f2, ⟨h3.1, rfl⟩, h3.2.symm⟩
      exact hgen _ hy ⟨rfl, rfl⟩
    obtain ⟨g', hq, hg⟩ := huniq
    have := hK q g' hq
    rwa [hg] at this
  | cons x pre ih =>
    intro hall e h q g hy hnc hk
    have hi := hall x (by simp)
    obtain ⟨T, hT, hK⟩ := hk
    have hyp := hy.props (p := q) (f := g) ⟨rfl, rfl⟩
    refine ⟨T, ?_, fun p f hpf => ?_⟩
    · exact (Sem1.over hzn hi.symm hy ⟨rfl, rfl⟩).2 hT
    · have hxp := hT.props hpf
      have := ih (fun z hz => hall z (by simp [hz])) ((Sem1.over hzn hi hT hpf).2 hy) hnc (hK p f hpf)
      rw [updO_comm (fun k hk => (hi.xy k hk).2), eff_comm hzn hi hxp.1 hxp.2 hyp.1 hyp.2] at this
      exact this

/-- A call is taken first: what stands ahead of it and is not ordered against it holds no call. -/
theorem dK_pull_call (hzn : ∀ i, z = some i → i < n) {y : DItem} {post : List DItem} {K : Env → Heap → Prop} : ∀ {pre : List DItem}, (∀ x ∈ pre, Indep x y) → ∀ {e : Env} {h : Heap}, isCall y.o.op = true → dK P z n (pre ++ y :: post) e h K → ∃ Ty, Sem1 P z n y e h Ty ∧ ∀ q g, Ty q g → dK P z n (pre ++ post) (updO e y.o.dst q) (g.app h) K := by
  intro pre
  induction pre with
  | nil => intro _ e h _ hk; exact hk
  | cons x pre ih =>
    intro hall e h hyc hk
    have hi := hall x (by simp)
    obtain ⟨T, hT, hK⟩ := hk
    have hone : ∃ p f, T = fun q g => q = p ∧ g = f := by
      cases hT with
      | skip hw => exact ⟨_, _, rfl⟩
      | call hw f args ho R hc => have := hi.calls (by rw [ho]; rfl); rw [this] at hyc; cases hyc
      | callP hw f args ho => have := hi.calls (by rw [ho]; rfl); rw [this] at hyc; cases hyc
      | det hw hn p f hd => exact ⟨_, _, rfl⟩
    obtain ⟨p, f, rfl⟩ := hone
    have hxp := hT.props (p := p) (f := f) ⟨rfl, rfl⟩
    obtain ⟨Ty, hy, hyK⟩ := ih (fun z hz => hall z (by simp [hz])) hyc (hK p f ⟨rfl, rfl⟩)
    have hy' := (Sem1.over hzn hi hT ⟨rfl, rfl⟩).1 hy
    refine ⟨Ty, hy', fun q g hqg => ⟨_, (Sem1.over hzn hi.symm hy' hqg).2 hT, ?_⟩⟩
    rintro p' f' ⟨rfl, rfl⟩
    have hyp := hy'.props hqg
    have := hyK q g hqg
    rw [updO_comm (fun k hk => (hi.xy k hk).2), eff_comm hzn hi hxp.1 hxp.2 hyp.1 hyp.2] at this
    exact this
end
end Go.Proofs.Ytelcpkjclcimbaa
