/-
  The operations of the elaborated code with their layouts resolved, and what they compute on abstract values. For every program; no statement of the seat is proved here.
-/
import Derived.Test.YtelcpkjclcimbaaIr1
namespace Go.Proofs.Ytelcpkjclcimbaa
open Go.RowKit
set_option linter.unusedVariables false

/-- Which comparison '==' is. -/
inductive BC where
  | num | bool | ptr
  deriving DecidableEq, Repr

inductive AOp where
  | mov (x : Operand)
  | pick (c a b : Operand)
  | bin (op : BinOp) (c : BC) (x y : Operand)
  | una (op : UnOp) (x : Operand)
  | conv (k : IntKind) (x : Operand)
  | alloc (zero : List Value)
  | box (x : Operand)
  | build (zero : List Value) (parts : List (Nat × Nat × Operand))
  | bslice (zero : List Value) (len : Nat) (parts : List (Nat × Operand))
  | load (agg : Bool) (size : Nat) (a : Operand)
  | store (size : Nat) (a v : Operand)
  | nilck (x : Operand)
  | faddr (off : Nat) (x : Operand)
  | field (agg : Bool) (size off : Nat) (x : Operand)
  | iaddr (esz : Nat) (x i : Operand)
  | iaddrA (n esz : Nat) (x i : Operand)
  | indexA (agg : Bool) (n esz : Nat) (x i : Operand)
  | indexS (x i : Operand)
  | mslice (zero : List Value) (bytes : Nat) (len cap : Operand)
  | slc (esz : Nat) (x : Operand) (lo hi mx : Option Operand)
  | len (x : Operand)
  | lenS (x : Operand)
  | lenA (n : Nat)
  | append (zero : List Value) (bytes : Nat) (s x : Operand)
  | copy (esz : Nat) (d s : Operand)
  | mx (x y : Operand)
  | mn (x y : Operand)
  | mkfn (f : FuncId) (caps : List Operand)
  | extract (x : Operand) (i : Nat)
  | call (f : Operand) (args : List Operand)

structure AOper where
  dst : Option Nat
  op : AOp
  guard : Option (Nat × Bool)

/-! ### From the elaborated code -/
def aggB : TypeDesc → Bool
  | .struct _ => true
  | .array _ _ => true
  | _ => false

def layOf (P : Program) (t : TypeId) : Option (Bool × Nat) :=
  match P.underlying t, P.info? t with
  | some d, some i => match aggB d with
    | true => some (true, i.size)
    | false => if i.size = 1 then some (false, 1) else none
  | _, _ => none

def zeroOf (P : Program) (t : TypeId) : Option (List Value) :=
  match P.info? t with
  | some i => match i.zero with
    | some z => if z.cells.toList.all (·.oneCell') && z.cells.size == i.size && 0 < i.size then some z.cells.toList else none
    | none => none
  | none => none

def partsOf (P : Program) (fs : Array Field) : List (Nat × Operand) → Option (List (Nat × Nat × Operand))
  | [] => some []
  | (i, x) :: r => match fs[i]? with
    | some f => match P.info? f.type, partsOf P fs r with
      | some inf, some l => some ((f.offset, inf.size, x) :: l)
      | _, _ => none
    | none => none

def isIntT (P : Program) (t : TypeId) : Bool := match P.underlying t with | some (.int _) => true | _ => false

def cOp (P : Program) (o : Oper) : Option AOp :=
  match o.op with
  | .move x => some (.mov x)
  | .assign x => some (.mov x)
  | .pick c a b => some (.pick c a b)
  | .binOp op t x y _ => match P.underlying t with
    | some (.int _) => some (.bin op .num x y)
    | some .string => some (.bin op .num x y)
    | some .bool => some (.bin op .bool x y)
    | some (.pointer _) => some (.bin op .ptr x y)
    | _ => none
  | .unOp op _ x => some (.una op x)
  | .convert src dst x => match P.underlying src, P.underlying dst with
    | some (.int _), some (.int k) => some (.conv k x)
    | _, _ => none
  | .alloc t => (zeroOf P t).map .alloc
  | .box t x => some (.box x)
  | .build t parts => match zeroOf P t, P.underlying t with
    | some z, some (.struct fs) => if fs.toList.all (fun f => (P.info? f.type).isSome) then (partsOf P fs parts.toList).map (.build z) else none
    | some z, some (.array _ e) => match P.info? e with
      | some i => some (.build z (parts.toList.map fun (k, x) => (k * i.size, i.size, x)))
      | none => none
    | _, _ => none
  | .buildSlice t len parts => match P.underlying t with
    | some (.slice e) => match zeroOf P e with
      | some z => if len * z.length ≤ 16777216 then some (.bslice z len parts.toList) else none
      | none => none
    | _ => none
  | .load t a => (layOf P t).map fun l => .load l.1 l.2 a
  | .store t a v => (layOf P t).map fun l => .store l.2 a v
  | .nilCheck x => some (.nilck x)
  | .fieldAddr t x i => match P.underlying t with
    | some (.struct fs) => match fs[i]? with
      | some f => match P.info? f.type with
        | some inf => if 0 < inf.size then some (.faddr f.offset x) else none
        | none => none
      | none => none
    | _ => none
  | .field t x i => match P.underlying t with
    | some (.struct fs) => match fs[i]? with
      | some f => (layOf P f.type).map fun l => .field l.1 l.2 f.offset x
      | none => none
    | _ => none
  | .indexAddr t x i => match P.underlying t with
    | some (.slice e) => (P.info? e).map fun inf => .iaddr inf.size x i
    | some (.array n e) => (P.info? e).map fun inf => .iaddrA n inf.size x i
    | _ => none
  | .index t x i => match P.underlying t with
    | some (.array n e) => (layOf P e).map fun l => .indexA l.1 n l.2 x i
    | some .string => some (.indexS x i)
    | _ => none
  | .makeSlice t l c => match P.underlying t with
    | some (.slice e) => match zeroOf P e, P.info? e with
      | some z, some i => if 0 < i.bytes then some (.mslice z i.bytes l c) else none
      | _, _ => none
    | _ => none
  | .slice t x lo hi mx => match P.underlying t with
    | some (.slice e) => (P.info? e).map fun inf => .slc inf.size x lo hi mx
    | _ => none
  | .makeFunc (.func f) first caps => if first.isEmpty then some (.mkfn f caps.toList) else none
  | .extract x i => some (.extract x i)
  | .call c => match c.callee with
    | .value f => some (.call f c.args.toList)
    | .builtin .len => match c.argTypes.toList, c.args.toList with
      | [t], [x] => match P.underlying t with
        | some (.slice _) => some (.len x)
        | some .string => some (.lenS x)
        | some (.array n _) => some (.lenA n)
        | some (.pointer t') => match P.underlying t' with
          | some (.array n _) => some (.lenA n)
          | _ => none
        | _ => none
      | _, _ => none
    | .builtin .append => match c.argTypes.toList, c.args.toList with
      | [t, u], [s, x] => match P.underlying t, P.underlying u with
        | some (.slice e), some (.slice _) => match zeroOf P e, P.info? e with
          | some z, some i => if 0 < i.bytes then some (.append z i.bytes s x) else none
          | _, _ => none
        | _, _ => none
      | _, _ => none
    | .builtin .max => match c.args.toList with
      | [x, y] => some (.mx x y)
      | _ => none
    | .builtin .copy => match c.argTypes.toList, c.args.toList with
      | [t, u], [d, s] => match P.underlying t, P.underlying u with
        | some (.slice e), some (.slice _) => match P.info? e with
          | some i => some (.copy i.size d s)
          | none => none
        | _, _ => none
      | _, _ => none
    | .builtin .min => match c.args.toList with
      | [x, y] => some (.mn x y)
      | _ => none
    | _ => none
  | _ => none

def cGuard (ops : Array Oper) : Option (Nat × Bool) → Option (Option (Nat × Bool))
  | none => some none
  | some (j, b) => match ops[j]? with
    | some o => match o.dst with
      | some d => some (some (d, b))
      | none => none
    | none => none

def dstOk (nt : Nat) : Option Nat → Bool
  | none => true
  | some d => d < nt

def cOper (P : Program) (nt : Nat) (ops : Array Oper) (o : Oper) : Option AOper :=
  match cOp P o, cGuard ops o.guard with
  | some a, some g => if dstOk nt o.dst then some ⟨o.dst, a, g⟩ else none
  | _, _ => none

def cOpers (P : Program) (nt : Nat) (ops : Array Oper) : List Oper → Option (List AOper)
  | [] => some []
  | o :: r => match cOper P nt ops o, cOpers P nt ops r with
    | some a, some l => some (a :: l)
    | _, _ => none

/-! ### What an operation computes -/
def pvOf : Value → PV
  | .slice none 0 0 => .vec [] true
  | v => .val v
def zpv (l : List Value) : List PV := l.map pvOf

def ev (e : Env) : Operand → Option PV
  | .tmp t => e t
  | .const v => some (pvOf v)
  | .func f => some (.fn f [])
  | .global g => some (.val (.pointer (some ⟨g, 0, none⟩)))

def evs (e : Env) : List Operand → Option (List PV)
  | [] => some []
  | x :: r => match ev e x, evs e r with
    | some p, some l => some (p :: l)
    | _, _ => none

def PV.cells : PV → List PV
  | .agg l => l
  | p => [p]

/-- Is it the value of one cell? -/
def PV.one : PV → Bool
  | .val v => v.oneCell'
  | .agg _ | .tup _ => false
  | _ => true
/-- Its cells are values of one cell each. -/
def PV.flat : PV → Bool
  | .agg _ => true
  | p => p.one

def sbin (op : BinOp) : Value → Value → Option Value
  | .int k a, .int k' b => match op with
    | .shl => if 0 ≤ b then some (.int k (k.wrap (a * 2 ^ (min b.toNat k.bits)))) else none
    | .shr => if 0 ≤ b then some (.int k (a.fdiv (2 ^ (min b.toNat k.bits)))) else none
    | .add => if k = k' then some (.int k (k.wrap (a + b))) else none
    | .sub => if k = k' then some (.int k (k.wrap (a - b))) else none
    | .mul => if k = k' then some (.int k (k.wrap (a * b))) else none
    | .quo => if k = k' then (if b = 0 then none else some (.int k (k.wrap (a.tdiv b)))) else none
    | .rem => if k = k' then (if b = 0 then none else some (.int k (a.tmod b))) else none
    | .and => if k = k' then some (.int k (bits .and k a b)) else none
    | .or => if k = k' then some (.int k (bits .or k a b)) else none
    | .xor => if k = k' then some (.int k (bits .xor k a b)) else none
    | .andNot => if k = k' then some (.int k (bits .andNot k a b)) else none
    | .eql => if k = k' then some (.bool (a == b)) else none
    | .neq => if k = k' then some (.bool (a != b)) else none
    | .lss => if k = k' then some (.bool (decide (a < b))) else none
    | .leq => if k = k' then some (.bool (decide (a ≤ b))) else none
    | .gtr => if k = k' then some (.bool (decide (a > b))) else none
    | .geq => if k = k' then some (.bool (decide (a ≥ b))) else none
  | .string a, .string b => match op with
    | .eql => some (.bool (a.toList == b.toList))
    | .neq => some (.bool (!(a.toList == b.toList)))
    | .lss => some (.bool (Op.bytesLess a.toList b.toList))
    | .leq => some (.bool (Op.bytesLess a.toList b.toList || a.toList == b.toList))
    | .gtr => some (.bool (!(Op.bytesLess a.toList b.toList || a.toList == b.toList)))
    | .geq => some (.bool (!(Op.bytesLess a.toList b.toList)))
    | _ => none
  | _, _ => none

/-- A pointer is nil? -/
def PV.isNil : PV → Option Bool
  | .val (.pointer none) => some true
  | .cp _ => some false
  | .ptr _ _ _ => some false
  | _ => none

def pbin (op : BinOp) (c : BC) (p q : PV) : Option PV :=
  match c with
  | .num => match p, q with
    | .val a, .val b => (sbin op a b).map .val
    | _, _ => none
  | .bool => match p, q with
    | .val (.bool a), .val (.bool b) => match op with
      | .eql => some (.val (.bool (a == b)))
      | .neq => some (.val (.bool (!(a == b))))
      | _ => none
    | _, _ => none
  | .ptr => match op with
    | .eql => match p.isNil, q with
      | some b, .val (.pointer none) => some (.val (.bool b))
      | _, _ => none
    | .neq => match p.isNil, q with
      | some b, .val (.pointer none) => some (.val (.bool (!b)))
      | _, _ => none
    | _ => none

def puna (op : UnOp) : PV → Option PV
  | .val (.int k n) => match op with
    | .neg => some (.val (.int k (k.wrap (0 - n))))
    | .xor => some (.val (.int k (bits .xor k (if k.signed then -1 else k.max) n)))
    | _ => none
  | .val (.bool b) => match op with
    | .not => some (.val (.bool (!b)))
    | _ => none
  | _ => none

/-- The part of size cells at off. -/
def cutAt (agg : Bool) (size off : Nat) (l : List PV) : Option PV :=
  if off + size ≤ l.length then
    (match agg with
     | true => some (.agg ((l.drop off).take size))
     | false => match l.drop off with
       | p :: _ => some p
       | [] => none)
  else none

def setAt (l : List PV) (off : Nat) (cs : List PV) : List PV := l.take off ++ cs ++ l.drop (off + cs.length)

def buildL (e : Env) : List PV → List (Nat × Nat × Operand) → Option (List PV)
  | l, [] => some l
  | l, (off, size, x) :: r => match ev e x with
    | some p => if p.flat && p.cells.length == size && decide (off + size ≤ l.length) then buildL e (setAt l off p.cells) r else none
    | none => none

def buildS (e : Env) (size : Nat) : List (List PV) → List (Nat × Operand) → Option (List (List PV))
  | l, [] => some l
  | l, (i, x) :: r => match ev e x with
    | some p => if p.flat && p.cells.length == size && decide (i < l.length) then buildS e size (l.set i p.cells) r else none
    | none => none

def intAt : Option PV → Option Int
  | some (.val (.int _ n)) => some n
  | _ => none

/-- An optional bound of a slice expression: the default, or the number. -/
def bndAt (e : Env) (d : Int) : Option Operand → Option Int
  | none => some d
  | some x => intAt (ev e x)

def dEval (op : AOp) (e : Env) (h : Heap) (id : Nat) : Option (PV × Heap) :=
  match op with
  | .mov x => match ev e x with
    | some p => some (p, h)
    | none => none
  | .pick c a b => match ev e c with
    | some (.val (.bool true)) => match ev e a with
      | some p => some (p, h)
      | none => none
    | some (.val (.bool false)) => match ev e b with
      | some p => some (p, h)
      | none => none
    | _ => none
  | .bin op c x y => match ev e x, ev e y with
    | some p, some q => match pbin op c p q with
      | some r => some (r, h)
      | none => none
    | _, _ => none
  | .una op x => match ev e x with
    | some p => match puna op p with
      | some r => some (r, h)
      | none => none
    | none => none
  | .conv k x => match ev e x with
    | some (.val (.int _ n)) => some (.val (.int k (k.wrap n)), h)
    | _ => none
  | .alloc z => some (.ptr id 0 0, h.upd id ⟨z.length, [zpv z]⟩)
  | .box x => match ev e x with
    | some p => if p.flat && decide (0 < p.cells.length) then some (.ptr id 0 0, h.upd id ⟨p.cells.length, [p.cells]⟩) else none
    | none => none
  | .build z ps => match buildL e (zpv z) ps with
    | some l => some (.agg l, h)
    | none => none
  | .bslice z n ps => match buildS e z.length (List.replicate n (zpv z)) ps with
    | some l => some (.vec l true, h)
    | none => none
  | .load agg size a => match ev e a with
    | some (.cp l) => match cutAt agg size 0 l with
      | some p => some (p, h)
      | none => none
    | some (.ptr k i off) => match h k with
      | some b => if i < b.elems.length then (match cutAt agg size off (b.elems.getD i []) with
        | some p => some (p, h)
        | none => none) else none
      | none => none
    | _ => none
  | .store size a v => match ev e a, ev e v with
    | some (.ptr k i off), some p => match h k with
      | some b => if p.flat && p.cells.length == size && decide (i < b.elems.length) && decide (off + size ≤ b.esz) then
          some (pvu, h.upd k ⟨b.esz, b.elems.set i (setAt (b.elems.getD i []) off p.cells)⟩) else none
      | none => none
    | _, _ => none
  | .nilck x => match ev e x with
    | some (.cp l) => some (.cp l, h)
    | some (.ptr k i off) => some (.ptr k i off, h)
    | some (.fn f l) => some (.fn f l, h)
    | _ => none
  | .faddr off x => match ev e x with
    | some (.cp l) => some (.cp (l.drop off), h)
    | some (.ptr k i o) => some (.ptr k i (o + off), h)
    | _ => none
  | .field agg size off x => match ev e x with
    | some (.agg l) => match cutAt agg size off l with
      | some p => some (p, h)
      | none => none
    | _ => none
  | .iaddr esz x i => match ev e x, ev e i with
    | some (.vec l _), some (.val (.int _ n)) => if 0 ≤ n ∧ n < (l.length : Int) then
        (if (l.getD n.toNat []).length = esz then some (.cp (l.getD n.toNat []), h) else none) else none
    | some (.own k), some (.val (.int _ n)) => match h k with
      | some b => if 0 ≤ n ∧ n < (b.elems.length : Int) then (if b.esz = esz then some (.ptr k n.toNat 0, h) else none) else none
      | none => none
    | _, _ => none
  | .iaddrA n esz x i => match ev e x, ev e i with
    | some (.cp l), some (.val (.int _ j)) => if 0 ≤ j ∧ j < (n : Int) then some (.cp (l.drop (j.toNat * esz)), h) else none
    | some (.ptr k i0 o), some (.val (.int _ j)) => if 0 ≤ j ∧ j < (n : Int) then some (.ptr k i0 (o + j.toNat * esz), h) else none
    | _, _ => none
  | .indexA agg n esz x i => match ev e x, ev e i with
    | some (.agg l), some (.val (.int _ j)) => if 0 ≤ j ∧ j < (n : Int) then (match cutAt agg esz (j.toNat * esz) l with
      | some p => some (p, h)
      | none => none) else none
    | _, _ => none
  | .indexS x i => match ev e x, ev e i with
    | some (.val (.string s)), some (.val (.int _ j)) => if 0 ≤ j ∧ j < (s.size : Int) then some (.val (.int .u8 (s.data.toList.getD j.toNat 0).toNat), h) else none
    | _, _ => none
  | .mslice z bytes l c => match intAt (ev e l), intAt (ev e c) with
    | some n, some m => if 0 ≤ n ∧ n ≤ m ∧ (bytes : Int) * m ≤ 281474976710656 then
        some (.own id, h.upd id ⟨z.length, List.replicate n.toNat (zpv z)⟩) else none
    | _, _ => none
  | .slc esz x lo hi mx => match ev e x with
    | some (.vec l _) => match bndAt e 0 lo, bndAt e l.length hi with
      | some a, some b => match mx with
        | none => if (0 ≤ a ∧ a ≤ b ∧ b ≤ (l.length : Int)) ∧ ∀ c ∈ l, c.length = esz then some (.vec ((l.take b.toNat).drop a.toNat) false, h) else none
        | some m => match intAt (ev e m), hi with
          | some c, some _ => if (0 ≤ a ∧ a ≤ b ∧ b ≤ c ∧ c ≤ (l.length : Int)) ∧ ∀ c ∈ l, c.length = esz then some (.vec ((l.take b.toNat).drop a.toNat) (b == c), h) else none
          | _, _ => none
      | _, _ => none
    | some (.own k) => match h k with
      | some bx => match bndAt e 0 lo, bndAt e bx.elems.length hi with
        | some a, some b => match mx with
          | none => if (0 ≤ a ∧ a ≤ b ∧ b ≤ (bx.elems.length : Int)) ∧ bx.esz = esz then
              some (.own id, fun j => bif Nat.beq j id then some ⟨bx.esz, (bx.elems.take b.toNat).drop a.toNat⟩ else bif Nat.beq j k then none else h j) else none
          | some _ => none
        | _, _ => none
      | none => none
    | _ => none
  | .len x => match ev e x with
    | some (.vec l _) => some (.val (.int .i64 l.length), h)
    | some (.own k) => match h k with
      | some b => some (.val (.int .i64 b.elems.length), h)
      | none => none
    | _ => none
  | .lenS x => match ev e x with
    | some (.val (.string s)) => some (.val (.int .i64 s.size), h)
    | _ => none
  | .lenA n => some (.val (.int .i64 n), h)
  | .append z bytes s x => match ev e s, ev e x with
    | some (.own k), some (.vec m _) => match h k with
      | some b => if (∀ c ∈ m, c.length = z.length) ∧ b.esz = z.length ∧ (b.elems.length + m.length) * bytes ≤ 140737488355328 then
          some (.own id, fun j => bif Nat.beq j id then some ⟨b.esz, b.elems ++ m⟩ else bif Nat.beq j k then none else h j) else none
      | none => none
    | _, _ => none
  | .copy esz d s => match ev e d, ev e s with
    | some (.own k), some (.vec m _) => match h k with
      | some b => if (∀ c ∈ m, c.length = esz) ∧ b.esz = esz then
          some (.val (.int .i64 (min m.length b.elems.length : Nat)), h.upd k ⟨b.esz, m.take b.elems.length ++ b.elems.drop m.length⟩) else none
      | none => none
    | _, _ => none
  | .mx x y => match ev e x, ev e y with
    | some (.val (.int k a)), some (.val (.int _ b)) => some (.val (.int k (if b > a then b else a)), h)
    | _, _ => none
  | .mn x y => match ev e x, ev e y with
    | some (.val (.int k a)), some (.val (.int _ b)) => some (.val (.int k (if b < a then b else a)), h)
    | _, _ => none
  | .mkfn f caps => match evs e caps with
    | some l => some (.fn f l, h)
    | none => none
  | .extract x i => match ev e x with
    | some (.tup l) => if i < l.length then some (l.getD i pvu, h) else none
    | _ => none
  | .call _ _ => none

/-- The other readings: a box that is never written; an append whose result is never written; a literal slice that is. -/
def fEval (op : AOp) (e : Env) (h : Heap) (id : Nat) : Option (PV × Heap) :=
  match op with
  | .alloc z => some (.cp (zpv z), h)
  | .box x => match ev e x with
    | some p => if p.flat && decide (0 < p.cells.length) then some (.cp p.cells, h) else none
    | none => none
  | .append z bytes s x => match ev e s, ev e x with
    | some (.vec l true), some (.vec m _) => if (∀ c ∈ l, c.length = z.length) ∧ (∀ c ∈ m, c.length = z.length) ∧ (l.length + m.length) * bytes ≤ 140737488355328 then
          some (.vec (l ++ m) false, h) else none
    | _, _ => none
  | .bslice z n ps => match buildS e z.length (List.replicate n (zpv z)) ps with
    | some l => some (.own id, h.upd id ⟨z.length, l⟩)
    | none => none
  | _ => none
end Go.Proofs.Ytelcpkjclcimbaa
