/-
  Merged from the texts that this claim's theorem needs, part 3 of 7. No statement of the seat is proved here.
-/
import Derived.KernelRfl
import Derived.LoopNIn
import Derived.Test.YtbmhdpflloepkaaGreatDoorChecked
import Derived.Test.YtbmhdpflloepkaaGreatDoorMq1
set_option linter.unusedSimpArgs false
set_option linter.unusedVariables false
set_option linter.unusedSectionVars false

namespace Go.Proofs.YtbmhdpflloepkaaGreatDoor
open Go.RowKit
set_option linter.unusedVariables false
set_option linter.unusedSimpArgs false

attribute [local irreducible] aw opsK dK

section
variable {P : Program} {C : Ctx} {e : Env} {h : Heap} {n : Nat} {K : Nat→Env→Heap→Prop} {os : List AOper} {d : Option Nat} {Q : Exit→Nat→Env→Heap→Prop}

def wantV (g : Option (Nat × Bool)) (e : Env) : Option Bool :=
 match g with
 | none => some true
 | some (s, b) => match e s with
   | some (.val (.bool c)) => some (c == b)
   | some (.val (.tuple _)) => some false
   | _ => none

theorem wantK_of {g : Option (Nat × Bool)} {A B : Prop} {b : Bool} (h : wantV g e = some b) (hk : if b = true then A else B) : wantK g e A B := by
 unfold wantV at h
 unfold wantK
 split at h
 · cases h; exact hk
 · split at h
   · rename_i c hc
     cases h
     try simp only [hc]
     split
     · rename_i hcb; subst hcb; simpa using hk
     · rename_i hcb; simpa [hcb] using hk
   · rename_i c hc
     cases h
     try simp only [hc]
     simpa using hk
   · cases h

theorem subA_refl : SubA n e h n e h := fun _ _ _ h => h
theorem opsK_on {op : AOp} {g : Nat × Bool} (hw : wantV (some g) e = some true) (hk : opsK P (⟨d,op,none⟩ :: os) n e h K) : opsK P (⟨d,op,some g⟩ :: os) n e h K := by
 unfold opsK at hk ⊢
 exact wantK_of hw (by simpa [wantK] using hk)
theorem opsK_sub {n' : Nat} {e' : Env} {h' : Heap} (hs : SubA n e h n' e' h') {op : AOp} (hk : opsK P (⟨d,op,none⟩ :: os) n' e' h' K) : opsK P (⟨d,op,none⟩ :: os) n e h K := by
 unfold opsK at hk ⊢
 simp only [wantK] at hk ⊢
 obtain ⟨n1,e1,h1,hs1,hk⟩ := hk
 exact ⟨n1,e1,h1,fun C a w hst => hs1 C a w (hs C a w hst),hk⟩
theorem opsK_off {op : AOp} {g : Nat × Bool} (hw : wantV (some g) e = some false) (hk : opsK P os n (updO e d pvu) h K) : opsK P (⟨d,op,some g⟩ :: os) n e h K := by
 unfold opsK
 exact wantK_of hw (by simpa using hk)

theorem opsK_of' {op : AOp} {p : PV} {h' : Heap} (hd : dEval op e h n = some (p,h') ∨ fEval op e h n = some (p,h')) (hn : isCall op = false) (hk : opsK P os (bmp h' n) (updO e d p) h' K) : opsK P (⟨d,op,none⟩ :: os) n e h K := by
 unfold opsK
 exact ⟨n,e,h,subA_refl,.inl (opK_det hn hd hk)⟩
theorem bmp_none (hz : h n = none) : bmp h n = n := by simp [bmp,hz]
theorem bmp_some {b : Bx} (hz : h n = some b) : bmp h n = n + 1 := by simp [bmp,hz]
theorem opsK_of {op : AOp} {p : PV} {h' : Heap} (hd : dEval op e h n = some (p,h')) (hn : isCall op = false) (hz : h' n = none) (hk : opsK P os n (updO e d p) h' K) : opsK P (⟨d,op,none⟩ :: os) n e h K :=
 opsK_of' (.inl hd) hn (by rw [bmp_none hz]; exact hk)
theorem opsK_new {op : AOp} {p : PV} {h' : Heap} {b : Bx} (hd : dEval op e h n = some (p,h')) (hn : isCall op = false) (hz : h' n = some b) (hk : opsK P os (n + 1) (updO e d p) h' K) : opsK P (⟨d,op,none⟩ :: os) n e h K :=
 opsK_of' (.inl hd) hn (by rw [bmp_some hz]; exact hk)
theorem opsK_ofAlt {op : AOp} {p : PV} {h' : Heap} (hd : fEval op e h n = some (p,h')) (hn : isCall op = false) (hz : h' n = none) (hk : opsK P os n (updO e d p) h' K) : opsK P (⟨d,op,none⟩ :: os) n e h K :=
 opsK_of' (.inr hd) hn (by rw [bmp_none hz]; exact hk)
theorem opsK_bool {op : AOp} {b : Bool} {h' : Heap} (hd : dEval op e h n = some (.val (.bool b),h')) (hn : isCall op = false) (hz : h' n = none) (ht : b = true→opsK P os n (updO e d (.val (.bool true))) h' K) (hf : b = false→opsK P os n (updO e d (.val (.bool false))) h' K) : opsK P (⟨d,op,none⟩ :: os) n e h K := by
 cases b with
 | true => exact opsK_of hd hn hz (ht rfl)
 | false => exact opsK_of hd hn hz (hf rfl)
theorem opsK_spec {f : Operand} {args : List Operand} {g : FuncId} {caps as0 : List PV} {R : PV→Prop} (hf : ev e f = some (.fn g caps)) (ha : evs e args = some as0) (hs : Spec P g (as0 ++ caps) R) (hp : pureL (as0 ++ caps)) (hz : h n = none) (hk : ∀ r,R r→opsK P os n (updO e d r) h K) :
 opsK P (⟨d,.call f args,none⟩ :: os) n e h K := by
 unfold opsK
 exact ⟨n,e,h,subA_refl,.inl ⟨g,caps,as0,R,hf,ha,.of (.inl rfl) hp hs,fun r hr=>by show opsK P os (bmp h n) (updO e d r) h K; rw [bmp_none hz]; exact hk r hr⟩⟩
theorem opsK_eq {f : Operand} {args : List Operand} {g : FuncId} {caps as0 args' : List PV} {v : PV} (hs : Spec P g args' (· = v)) (hf : ev e f = some (.fn g caps)) (ha : evs e args = some as0) (ha' : as0 ++ caps = args') (hp : pureL args') (hz : h n = none) (hk : opsK P os n (updO e d v) h K) :
 opsK P (⟨d,.call f args,none⟩ :: os) n e h K := by
 subst ha'
 exact opsK_spec hf ha hs hp hz fun _ hr => hr ▸ hk
theorem opsK_heap {f : Operand} {args : List Operand} {g : FuncId} {caps as0 : List PV} {R : Nat→PV→Heap→Prop} (hf : ev e f = some (.fn g caps)) (ha : evs e args = some as0)
 (hs : ISpec P g n (as0 ++ caps) h R) (hk : ∀ n' r h',R n' r h'→opsK P os n' (updO e d r) h' K) : opsK P (⟨d,.call f args,none⟩ :: os) n e h K := by
 unfold opsK
 exact ⟨n,e,h,subA_refl,.inr ⟨f,args,g,caps,as0,R,rfl,hf,ha,hs,hk⟩⟩
theorem opsK_done (hk : K n e h) : opsK P [] n e h K := by unfold opsK; exact hk

theorem opsK_iaddr {α : Type} {esz : Nat} {x i : Operand} {xs : List α} {g : α→List PV} {fl : Bool} {k : IntKind} {m : Int} (hx : ev e x = some (.vec (xs.map g) fl)) (hi : ev e i = some (.val (.int k m))) (j : Nat) (hm : m = (j : Int)) (hj : j < xs.length) (hl : (g xs[j]).length = esz)
 (hz : h n = none) (hk : opsK P os n (updO e d (.cp (g xs[j]))) h K) : opsK P (⟨d,.iaddr esz x i,none⟩ :: os) n e h K := by
 subst hm
 have e1 : (xs.map g).getD (j : Int).toNat [] = g xs[j] := by simp [List.getD_eq_getElem?_getD,hj]
 refine opsK_of (p := .cp (g xs[j])) (h' := h) ?_ rfl hz hk
 simp only [dEval,hx,hi,e1,hl]
 rw [if_pos ⟨by omega,by simp; omega⟩]; simp
theorem opsK_iaddrO {esz : Nat} {x i : Operand} {id : Nat} {b : Bx} {k : IntKind} {m : Int} (hx : ev e x = some (.own id)) (hi : ev e i = some (.val (.int k m))) (hb : h id = some b) (j : Nat) (hm : m = (j : Int)) (hj : j < b.elems.length) (hl : b.esz = esz)
 (hz : h n = none) (hk : opsK P os n (updO e d (.ptr id j 0)) h K) : opsK P (⟨d,.iaddr esz x i,none⟩ :: os) n e h K := by
 subst hm
 refine opsK_of (p := .ptr id j 0) (h' := h) ?_ rfl hz hk
 simp only [dEval,hx,hi,hb,hl]
 rw [if_pos ⟨by omega,by omega⟩]; simp
theorem opsK_shr {x y : Operand} {k k' : IntKind} {a b : Int} (hx : ev e x = some (.val (.int k a))) (hy : ev e y = some (.val (.int k' b))) (hb : 0≤b) {v : Int} (hv : a.fdiv (2 ^ (min b.toNat k.bits)) = v) (hz : h n = none) (hk : opsK P os n (updO e d (.val (.int k v))) h K) : opsK P (⟨d,.bin .shr .num x y,none⟩ :: os) n e h K :=
 opsK_of (p := .val (.int k v)) (h' := h) (by simp [dEval,hx,hy,pbin,sbin,hb,hv]) rfl hz hk
theorem opsK_int {op : AOp} {k : IntKind} {a v : Int} {h' : Heap} (hd : dEval op e h n = some (.val (.int k a),h')) (hn : isCall op = false) (hz : h' n = none) (hv : a = v) (hk : opsK P os n (updO e d (.val (.int k v))) h' K) : opsK P (⟨d,op,none⟩ :: os) n e h K := by
 subst hv; exact opsK_of hd hn hz hk
theorem opsK_boolEq {op : AOp} {a v : Bool} {h' : Heap} (hd : dEval op e h n = some (.val (.bool a),h')) (hn : isCall op = false) (hz : h' n = none) (hv : a = v) (hk : opsK P os n (updO e d (.val (.bool v))) h' K) : opsK P (⟨d,op,none⟩ :: os) n e h K := by
 subst hv; exact opsK_of hd hn hz hk

theorem opsK_slc {α : Type} {esz : Nat} {x : Operand} {lo hi : Option Operand} {xs : List α} {g : α→List PV} {fl : Bool} (hx : ev e x = some (.vec (xs.map g) fl)) (a b : Nat) (hlo : bndAt e 0 lo = some (a : Int)) (hhi : bndAt e ((xs.map g).length : Nat) hi = some (b : Int)) (hab : a≤b) (hb : b≤xs.length) (hg : ∀ x,(g x).length = esz)
 (hz : h n = none) (hk : opsK P os n (updO e d (.vec (((xs.take b).drop a).map g) false)) h K) : opsK P (⟨d,.slc esz x lo hi none,none⟩ :: os) n e h K := by
 refine opsK_of (p := .vec (((xs.take b).drop a).map g) false) (h' := h) ?_ rfl hz hk
 simp only [dEval,hx,hlo,hhi]
 have hall : ∀ c∈xs.map g,c.length = esz := fun c hc=>by obtain ⟨y,_,rfl⟩ := List.mem_map.1 hc; exact hg y
 rw [if_pos ⟨⟨by omega,by omega,by simp; omega⟩,hall⟩]
 simp [List.map_drop,List.map_take]

theorem E_iaddr {α : Type} {esz : Nat} {x i : Operand} {xs : List α} {g : α→List PV} {fl : Bool} {k : IntKind} {m : Int} (hx : ev e x = some (.vec (xs.map g) fl)) (hi : ev e i = some (.val (.int k m))) (j : Nat) (hm : m = (j : Int)) (hj : j < xs.length) (hl : (g xs[j]).length = esz) :
 dEval (.iaddr esz x i) e h n = some (.cp (g xs[j]),h) := by
 subst hm
 have e1 : (xs.map g).getD (j : Int).toNat [] = g xs[j] := by simp [List.getD_eq_getElem?_getD,hj]
 simp only [dEval,hx,hi,e1,hl]
 rw [if_pos ⟨by omega,by simp; omega⟩]; simp
theorem E_iaddrO {esz : Nat} {x i : Operand} {id : Nat} {b : Bx} {k : IntKind} {m : Int} (hx : ev e x = some (.own id)) (hi : ev e i = some (.val (.int k m))) (hb : h id = some b) (j : Nat) (hm : m = (j : Int)) (hj : j < b.elems.length) (hl : b.esz = esz) :
 dEval (.iaddr esz x i) e h n = some (.ptr id j 0,h) := by
 subst hm
 simp only [dEval,hx,hi,hb,hl]
 rw [if_pos ⟨by omega,by omega⟩]; simp
theorem E_shl {x y : Operand} {k k' : IntKind} {a b : Int} (hx : ev e x = some (.val (.int k a))) (hy : ev e y = some (.val (.int k' b))) (hb : 0≤b) {v : Int} (hv : k.wrap (a * 2 ^ (min b.toNat k.bits)) = v) : dEval (.bin .shl .num x y) e h n = some (.val (.int k v),h) := by simp [dEval,hx,hy,pbin,sbin,hb,hv]
theorem E_int {op : AOp} {k : IntKind} {a v : Int} (hd : dEval op e h n = some (.val (.int k a),h)) (hv : a = v) : dEval op e h n = some (.val (.int k v),h) := by subst hv; exact hd
theorem E_boolEq {op : AOp} {a v : Bool} (hd : dEval op e h n = some (.val (.bool a),h)) (hv : a = v) : dEval op e h n = some (.val (.bool v),h) := by subst hv; exact hd
theorem E_mslice {z : List Value} {bytes : Nat} {l c : Operand} {a b : Nat} (hl : intAt (ev e l) = some (a : Int)) (hc : intAt (ev e c) = some (b : Int)) (hab : a≤b) (hb : bytes * b≤281474976710656) :
 dEval (.mslice z bytes l c) e h n = some (.own n,h.upd n ⟨z.length,List.replicate a (zpv z)⟩) := by
 simp only [dEval,hl,hc]
 rw [if_pos ⟨by omega,by omega,by rw [← Int.natCast_mul]; omega⟩]; simp
theorem E_slc {α : Type} {esz : Nat} {x : Operand} {lo hi : Option Operand} {xs : List α} {g : α→List PV} {fl : Bool} (hx : ev e x = some (.vec (xs.map g) fl)) (a b : Nat) (hlo : bndAt e 0 lo = some (a : Int)) (hhi : bndAt e ((xs.map g).length : Nat) hi = some (b : Int)) (hab : a≤b) (hb : b≤xs.length) (hg : ∀ x,(g x).length = esz) :
 dEval (.slc esz x lo hi none) e h n = some (.vec (((xs.take b).drop a).map g) false,h) := by
 simp only [dEval,hx,hlo,hhi]
 have hall : ∀ c∈xs.map g,c.length = esz := fun c hc=>by obtain ⟨y,_,rfl⟩ := List.mem_map.1 hc; exact hg y
 rw [if_pos ⟨⟨by omega,by omega,by simp; omega⟩,hall⟩]
 simp [List.map_drop,List.map_take]
theorem E_load {agg : Bool} {size : Nat} {a : Operand} {k i off : Nat} {b : Bx} {p : PV} (ha : ev e a = some (.ptr k i off)) (hb : h k = some b) (hi : i < b.elems.length) (hc : cutAt agg size off (b.elems.getD i []) = some p) : dEval (.load agg size a) e h n = some (p,h) := by
 simp only [dEval,ha,hb,if_pos hi,hc]
theorem E_store {size : Nat} {a v : Operand} {k i off : Nat} {b : Bx} {p : PV} (ha : ev e a = some (.ptr k i off)) (hv : ev e v = some p) (hb : h k = some b) (hf : p.flat = true) (hl : p.cells.length = size) (hi : i < b.elems.length) (ho : off + size≤b.esz) :
 dEval (.store size a v) e h n = some (pvu,h.upd k ⟨b.esz,b.elems.set i (setAt (b.elems.getD i []) off p.cells)⟩) := by
 subst hl
 simp only [dEval,ha,hv,hb]
 rw [if_pos (by simp [hf,hi,ho])]
theorem E_append {z : List Value} {bytes : Nat} {s x : Operand} {k : Nat} {m : List (List PV)} {fl : Bool} {b : Bx} (hs : ev e s = some (.own k)) (hx : ev e x = some (.vec m fl)) (hb : h k = some b) (hm : ∀ c∈m,c.length = z.length) (he : b.esz = z.length) (hby : (b.elems.length + m.length) * bytes≤140737488355328) :
 dEval (.append z bytes s x) e h n = some (.own n,(h.del k).upd n ⟨b.esz,b.elems ++ m⟩) := by
 simp only [dEval,hs,hx,hb]
 rw [if_pos ⟨hm,he,hby⟩]; rfl
theorem E_copy {esz : Nat} {d s : Operand} {k : Nat} {m : List (List PV)} {fl : Bool} {b : Bx} (hd : ev e d = some (.own k)) (hs : ev e s = some (.vec m fl)) (hb : h k = some b) (hm : ∀ c∈m,c.length = esz) (he : b.esz = esz) :
 dEval (.copy esz d s) e h n = some (.val (.int .i64 (min m.length b.elems.length : Nat)),h.upd k ⟨b.esz,m.take b.elems.length ++ b.elems.drop m.length⟩) := by
 simp only [dEval,hd,hs,hb]
 rw [if_pos ⟨hm,he⟩]
theorem E_appendF {z : List Value} {bytes : Nat} {s x : Operand} {l m : List (List PV)} {fl : Bool} (hs : ev e s = some (.vec l true)) (hx : ev e x = some (.vec m fl)) (hl : ∀ c∈l,c.length = z.length) (hm : ∀ c∈m,c.length = z.length) (hby : (l.length + m.length) * bytes≤140737488355328) :
 fEval (.append z bytes s x) e h n = some (.vec (l ++ m) false,h) := by
 simp only [fEval,hs,hx]
 rw [if_pos ⟨hl,hm,hby⟩]
theorem subA_ownNil {k : Nat} (hk : e k = some (.vec [] true)) (esz : Nat) (hp : 0 < esz) : SubA n e h (n + 1) (e.upd k (.own n)) (h.upd n ⟨esz,[]⟩) := fun _ => sub_ownNil hk esz hp
theorem subA_freeze {k id : Nat} {b : Bx} (hk : e k = some (.own id)) (hb : h id = some b) (hp : pureLL b.elems) : SubA n e h n (e.upd k (.vec b.elems false)) (h.del id) := fun _ => sub_freeze hk hb hp
theorem subA_freezeBox {k id : Nat} {esz : Nat} {l : List PV} (hk : e k = some (.ptr id 0 0)) (hb : h id = some ⟨esz,[l]⟩) (hp : pureL l) : SubA n e h n (e.upd k (.cp l)) (h.del id) := fun _ => sub_freezeBox hk hb

theorem dK_of {z : Rsv} {i mask : Nat} {op : AOp} {iso : Nat} {xs : List DItem} {K : Env→Heap→Prop} {p : PV} {h' : Heap} (hd : dEval op e h (n + i) = some (p,h')) (ha : accOk z op e n i mask iso = true) (hn : isCall op = false) (hk : dK P z n xs (updO e d p) h' K) : dK P z n (⟨i,⟨d,op,none⟩,mask,iso,false⟩ :: xs) e h K := dK_det hd ha hn hk
theorem dK_ofAlt {z : Rsv} {i mask : Nat} {op : AOp} {iso : Nat} {xs : List DItem} {K : Env→Heap→Prop} {p : PV} {h' : Heap} (hd : fEval op e h (n + i) = some (p,h')) (ha : accOk z op e n i mask iso = true) (hn : isCall op = false) (hk : dK P z n xs (updO e d p) h' K) : dK P z n (⟨i,⟨d,op,none⟩,mask,iso,true⟩ :: xs) e h K := dK_det hd ha hn hk
theorem dK_bool {z : Rsv} {i mask : Nat} {op : AOp} {iso : Nat} {xs : List DItem} {K : Env→Heap→Prop} {b : Bool} {h' : Heap} (hd : dEval op e h (n + i) = some (.val (.bool b),h')) (ha : accOk z op e n i mask iso = true) (hn : isCall op = false) (ht : b = true→dK P z n xs (updO e d (.val (.bool true))) h' K) (hf : b = false→dK P z n xs (updO e d (.val (.bool false))) h' K) : dK P z n (⟨i,⟨d,op,none⟩,mask,iso,false⟩ :: xs) e h K := by
 cases b with
 | true => exact dK_of hd ha hn (ht rfl)
 | false => exact dK_of hd ha hn (hf rfl)
theorem dK_on {z : Rsv} {i mask : Nat} {op : AOp} {iso : Nat} {alt : Bool} {g : Nat × Bool} {xs : List DItem} {K : Env→Heap→Prop} (hw : wantV (some g) e = some true) (hk : dK P z n (⟨i,⟨d,op,none⟩,mask,iso,alt⟩ :: xs) e h K) : dK P z n (⟨i,⟨d,op,some g⟩,mask,iso,alt⟩ :: xs) e h K := by
 obtain ⟨s,b⟩ := g
 unfold wantV at hw
 simp only at hw
 split at hw
 · rename_i c hc
   exact dK_guard (x := ⟨i,⟨d,op,some (s,b)⟩,mask,iso,alt⟩) rfl hc (fun _ => hk) fun hne => absurd (by simpa using hw) hne
 · cases hw
 · cases hw
theorem dK_off {z : Rsv} {i mask : Nat} {op : AOp} {iso : Nat} {alt : Bool} {g : Nat × Bool} {xs : List DItem} {K : Env→Heap→Prop} (hw : ∃ c,e g.1 = some (.val (.bool c))∧c≠g.2) (hk : dK P z n xs (updO e d pvu) h K) : dK P z n (⟨i,⟨d,op,some g⟩,mask,iso,alt⟩ :: xs) e h K := by
 obtain ⟨s,b⟩ := g
 obtain ⟨c,hc,hne⟩ := hw
 exact dK_guard (x := ⟨i,⟨d,op,some (s,b)⟩,mask,iso,alt⟩) rfl hc (fun h => absurd h hne) fun _ => hk
theorem dK_eq {z : Rsv} {i mask : Nat} {f : Operand} {args : List Operand} {iso : Nat} {alt : Bool} {xs : List DItem} {K : Env→Heap→Prop} {g : FuncId} {caps as0 args' : List PV} {v : PV} (hs : Spec P g args' (· = v)) (hf : ev e f = some (.fn g caps)) (ha : evs e args = some as0) (ha' : as0 ++ caps = args') (hp : pureL args') (hk : dK P z n xs (updO e d v) h K) :
 dK P z n (⟨i,⟨d,.call f args,none⟩,mask,iso,alt⟩ :: xs) e h K := by
 subst ha'
 exact dK_call hf ha (.inl rfl) hs hp fun _ hr => hr ▸ hk
theorem dK_done {z : Rsv} {K : Env→Heap→Prop} (hk : K e h) : dK P z n [] e h K := dK_nil hk

theorem aw_condT {c : Operand} {x y : ACode} (hc : ev e c = some (.val (.bool true))) (hk : aw P C x Q n e h) : aw P C (.cond c x y) Q n e h := aw_cond hc (fun _ => hk) fun h=>by cases h
theorem aw_condF {c : Operand} {x y : ACode} (hc : ev e c = some (.val (.bool false))) (hk : aw P C y Q n e h) : aw P C (.cond c x y) Q n e h := aw_cond hc (fun h=>by cases h) fun _ => hk

theorem ret_ok {rs : List ARes} {R : PV→Prop} {r : PV} (hr : retAll rs e h = some r) (hp : r.pure) (hR : R r) : ∃ r0 r,retAll rs e h = some r0∧LoP r0 r∧r.pure∧R r := ⟨r,r,hr,.inl rfl,hp,hR⟩
theorem ret_low {rs : List ARes} {R : PV→Prop} {r : PV} (hr : retAll rs e h = some r) (hp : r.low.pure) (hR : R r.low) : ∃ r0 r,retAll rs e h = some r0∧LoP r0 r∧r.pure∧R r := ⟨r,r.low,hr,.inr rfl,hp,hR⟩
def EnvIn (e : Env) : List (Nat × PV)→Prop
 | [] => True
 | (k,p) :: r => e k = some p∧EnvIn e r
theorem EnvIn.some {L : List (Nat × PV)} (he : EnvIn e L) {k : Nat} {p : PV} (hk : envL L k = some p) : e k = some p := by
 induction L with
 | nil => cases hk
 | cons q r ih =>
   obtain ⟨k',p'⟩ := q
   obtain ⟨h1,h2⟩ := he
   simp only [envL] at hk
   by_cases hkk : k = k'
   · subst hkk; rw [Env.upd_same] at hk; cases hk; exact h1
   · rw [Env.upd_ne _ _ hkk] at hk; exact ih h2 hk
theorem sub_env {L : List (Nat × PV)} (he : EnvIn e L) : Sub C n e h n (envL L) h := by
 rintro a w ⟨F,φ,s⟩
 exact ⟨F,φ,{ s with env := fun k p hk => s.env k p (he.some hk) }⟩
theorem sub_heap {h' : Heap} (hh : ∀ i b,h' i = some b→h i = some b) : Sub C n e h n e h' := by
 rintro a w ⟨F,φ,s⟩
 exact ⟨F,φ,{ s with live := fun i b hb => s.live i b (hh i b hb),sep := fun i j bi bj li lj k hi hj => s.sep i j bi bj li lj k (hh _ _ hi) (hh _ _ hj) }⟩
theorem aw_loopE {X : Type} (I : X→Prop) (μ : X→Nat) (L : X→List (Nat × PV)) {body : ACode} (x0 : X) (h0 : I x0) (hL : EnvIn e (L x0))
 (round : ∀ x,I x→aw P C body (thenQ (fun n' e' h' => ∃ x',I x'∧μ x' < μ x∧n' = n∧h' = h∧EnvIn e' (L x')) Q) n (envL (L x)) h) : aw P C (.loop body) Q n e h :=
 aw_loop I μ (fun _ => n) (fun x => envL (L x)) (fun _ => h) x0 h0 (sub_env hL) fun x hx => aw_mono (round x hx) fun ex n e h hq => by
  cases ex with
  | normal => obtain ⟨x',h1,h2,rfl,rfl,h4⟩ := hq; exact ⟨x',h1,h2,sub_env h4⟩
  | _ => exact hq

def EnvR (e : Env) (m : Nat) : List (Nat × PV)→Prop
 | [] => True
 | (k,p) :: r => (e k = some p∧p.inn (· < m))∧EnvR e m r
def HeapR (h : Heap) (m : Nat) : List (Nat × Bx)→Prop
 | [] => True
 | (k,b) :: r => (k < m∧h k = some b∧innLL (· < m) b.elems)∧HeapR h m r
theorem EnvR.some {m : Nat} {L : List (Nat × PV)} (he : EnvR e m L) {k : Nat} {p : PV} (hk : envL L k = some p) : e k = some p∧p.inn (· < m) := by
 induction L with
 | nil => cases hk
 | cons q r ih =>
   obtain ⟨k',p'⟩ := q
   obtain ⟨h1,h2⟩ := he
   simp only [envL] at hk
   by_cases hkk : k = k'
   · subst hkk; rw [Env.upd_same] at hk; cases hk; exact h1
   · rw [Env.upd_ne _ _ hkk] at hk; exact ih h2 hk
theorem HeapR.some {m : Nat} {L : List (Nat × Bx)} (he : HeapR h m L) {k : Nat} {p : Bx} (hk : heapL L k = some p) : k < m∧h k = some p∧innLL (· < m) p.elems := by
 induction L with
 | nil => cases hk
 | cons q r ih =>
   obtain ⟨k',p'⟩ := q
   obtain ⟨h1,h2⟩ := he
   simp only [heapL] at hk
   by_cases hkk : k = k'
   · subst hkk; rw [Heap.upd_same] at hk; cases hk; exact h1
   · rw [Heap.upd_ne _ _ hkk] at hk; exact ih h2 hk
theorem sub_keep {m n' : Nat} (hdom : C.dom m) (hm : m≤n') {L : List (Nat × PV)} {HL : List (Nat × Bx)} (he : EnvR e n' L) (hh : HeapR h n' HL) : Sub C n e h n' (envL L) (heapL HL) := by
 rintro a w ⟨F,φ,s⟩
 let φ' : Locs := fun i => if i < n' then φ i else none
 have hφ : ∀ i x,i < n'→φ i = some x→φ' i = some x := fun i x hi hx=>by simp only [φ',hi,if_true]; exact hx
 refine ⟨F,φ',{ nt := s.nt,glob := s.glob,marks := s.marks,loc0 := fun i x hx => ?_,free := fun i hi => ?_,env := fun k p hp => ?_,froz := s.froz,ext := s.ext,old := s.old,os := s.os,tape := s.tape,output := s.output,size := s.size,kept := s.kept,live := fun i b hb => ?_,sep := ?_ }⟩
 · have : ¬ i < n' := by omega
   simp only [φ',this,if_false]
 · obtain ⟨h0, hr⟩ := he.some hp
   exact ⟨(s.env k p h0).1,(s.env k p h0).2.inn hφ hr⟩
 · by_cases him : i < m
   · exact hφ i x (by omega) (s.loc0 i x hx)
   · rw [hdom i (by omega)] at hx; cases hx
 · obtain ⟨hi, h0, hr⟩ := hh.some hb
   obtain ⟨loc,h1,h2,h3⟩ := s.live _ b h0
   exact ⟨loc,hφ i loc hi h1,h2.inn hφ hr,h3⟩
 · intro i j bi bj li lj k hi hj hli hlj hki hkj
   obtain ⟨hin,h0,_⟩ := hh.some hi
   obtain ⟨hjn,g0,_⟩ := hh.some hj
   have hli' : φ i = some li := by simpa only [φ',show i < n' from hin,if_true] using hli
   have hlj' : φ j = some lj := by simpa only [φ',show j < n' from hjn,if_true] using hlj
   exact s.sep _ _ bi bj li lj k h0 g0 hli' hlj' hki hkj
theorem aw_loopH {X : Type} {m : Nat} (hdom : C.dom m) (I : X→Prop) (μ : X→Nat) (N : Nat) (L : X→List (Nat × PV)) (HL : X→List (Nat × Bx)) {body : ACode} (hm : m≤N) (x0 : X) (h0 : I x0) (hL : EnvR e N (L x0)) (hH : HeapR h N (HL x0))
 (round : ∀ x,I x→aw P C body (thenQ (fun n' e' h' => ∃ x',I x'∧μ x' < μ x∧EnvR e' N (L x')∧HeapR h' N (HL x')) Q) N (envL (L x)) (heapL (HL x))) : aw P C (.loop body) Q n e h :=
 aw_loop I μ (fun _ => N) (fun x => envL (L x)) (fun x => heapL (HL x)) x0 h0 (sub_keep hdom hm hL hH) fun x hx => aw_mono (round x hx) fun ex n e h hq => by
  cases ex with
  | normal => obtain ⟨x',h1,h2,h3,h4⟩ := hq; exact ⟨x',h1,h2,sub_keep hdom hm h3 h4⟩
  | _ => exact hq

def EnvQ (ρ : Nat→Nat) (e : Env) (m : Nat) : List (Nat × PV)→Prop
 | [] => True
 | (k,p) :: r => (∃ p0,e k = some p0∧RenP ρ (· < m) p0 p)∧EnvQ ρ e m r
def HeapQ (ρ : Nat→Nat) (h : Heap) (m : Nat) : List (Nat × Bx)→Prop
 | [] => True
 | (k,b) :: r => (k < m∧∃ b0,h (ρ k) = some b0∧RenB ρ (· < m) b0 b)∧HeapQ ρ h m r
theorem EnvQ.mem {ρ : Nat→Nat} {m : Nat} : ∀ {L : List (Nat × PV)},EnvQ ρ e m L→∀ q∈L,∃ p0,e q.1 = some p0∧RenP ρ (· < m) p0 q.2
 | [],_,q,hq=>by cases hq
 | (k, p) :: r, h, q, hq => by
   rcases List.mem_cons.1 hq with rfl | hq
   · exact h.1
   · exact EnvQ.mem h.2 q hq
theorem HeapQ.mem {ρ : Nat→Nat} {m : Nat} : ∀ {L : List (Nat × Bx)},HeapQ ρ h m L→∀ q∈L,q.1 < m∧∃ b0,h (ρ q.1) = some b0∧RenB ρ (· < m) b0 q.2
 | [],_,q,hq=>by cases hq
 | (k, p) :: r, h, q, hq => by
   rcases List.mem_cons.1 hq with rfl | hq
   · exact h.1
   · exact HeapQ.mem h.2 q hq
def InjOn (ρ : Nat→Nat) (HL : List (Nat × Bx)) : Prop := ∀ q∈HL,∀ q'∈HL,ρ q.1 = ρ q'.1→q.1 = q'.1
theorem aw_loopR {X : Type} {m : Nat} (hdom : C.dom m) (I : X→Prop) (μ : X→Nat) (N : Nat) (L : X→List (Nat × PV)) (HL : X→List (Nat × Bx)) {body : ACode} (hm : m≤N) (x0 : X) (h0 : I x0) (ρ0 : Nat→Nat) (hρ0 : ∀ i,i < m→ρ0 i = i) (hi0 : InjOn ρ0 (HL x0)) (hL : EnvQ ρ0 e N (L x0)) (hH : HeapQ ρ0 h N (HL x0))
 (round : ∀ x,I x→aw P C body (thenQ (fun n' e' h' => ∃ x' ρ,I x'∧μ x' < μ x∧(∀ i,i < m→ρ i = i)∧InjOn ρ (HL x')∧EnvQ ρ e' N (L x')∧HeapQ ρ h' N (HL x')) Q) N (envL (L x)) (heapL (HL x))) : aw P C (.loop body) Q n e h :=
 aw_loop I μ (fun _ => N) (fun x => envL (L x)) (fun x => heapL (HL x)) x0 h0 (sub_ren ρ0 hL.mem hH.mem hi0 hdom hm hρ0) fun x hx => aw_mono (round x hx) fun ex n e h hq => by
  cases ex with
  | normal => obtain ⟨x',ρ,h1,h2,h3,h4,h5,h6⟩ := hq; exact ⟨x',h1,h2,sub_ren ρ h5.mem h6.mem h4 hdom hm h3⟩
  | _ => exact hq
theorem aw_keep {m n' : Nat} (hdom : C.dom m) (L : List (Nat × PV)) (HL : List (Nat × Bx)) (hm : m≤n') (he : EnvR e n' L) (hh : HeapR h n' HL) {ac : ACode} (hk : aw P C ac Q n' (envL L) (heapL HL)) : aw P C ac Q n e h := aw_sub (sub_keep hdom hm he hh) hk
theorem aw_cut {m : Nat} (hdom : C.dom m) (A : Prop) (N : Nat) (L : List (Nat × PV)) (HL : List (Nat × Bx)) {x y : ACode} (hm : m≤N) (h1 : aw P C x (thenQ (fun n e h => A∧EnvR e N L∧HeapR h N HL) Q) n e h) (h2 : A→aw P C y Q N (envL L) (heapL HL)) : aw P C (.seq x y) Q n e h :=
 aw_seq (aw_mono h1 fun ex n e h hq => by
  cases ex with
  | normal => obtain ⟨ha,he,hh⟩ := hq; exact aw_keep hdom L HL hm he hh (h2 ha)
  | _ => exact hq)

def roundsQ (P : Program) (C : Ctx) (body : ACode) (Q : Exit→Nat→Env→Heap→Prop) : Nat→Nat→Env→Heap→Prop
 | 0 => fun n e h => aw P C body (thenQ (fun _ _ _ => False) Q) n e h
 | m + 1 => fun n e h => aw P C body (thenQ (roundsQ P C body Q m) Q) n e h
theorem roundsQ_sound {body : ACode} : ∀ (m : Nat) {n : Nat} {e : Env} {h : Heap},roundsQ P C body Q m n e h→P.follows .mixedOrders = true→∀ (FN : Fence) (k : Nat),FenceOk FN k∧LoopOk FN C→∀ c,cCode P C.nt c = some body→∀ a w,St C (fun i => n≤i) e h a w→Code.roundsIn FN k P c (PostA C Q) (m + 1) a w
 | 0, n, e, h, hk, hm, FN, k, hok, c, hc, a, w, hs => by
   unfold roundsQ at hk
   unfold aw at hk
   refine wpIn_mono (hk hm FN k hok c hc a w hs) fun x a w hp => ?_
   obtain ⟨n,e,h,hQ,hS⟩ := hp
   cases x with
   | normal => exact hQ.elim
   | _ => exact ⟨n,e,h,hQ,hS⟩
 | m + 1, n, e, h, hk, hm, FN, k, hok, c, hc, a, w, hs => by
   unfold roundsQ at hk
   unfold aw at hk
   refine wpIn_mono (hk hm FN k hok c hc a w hs) fun x a w hp => ?_
   obtain ⟨n,e,h,hQ,hS⟩ := hp
   cases x with
   | normal => exact roundsQ_sound m hQ hm FN k hok c hc a w hS
   | _ => exact ⟨n,e,h,hQ,hS⟩
theorem aw_rounds {body : ACode} (m : Nat) (hk : roundsQ P C body Q m n e h) : aw P C (.loop body) Q n e h := by
 unfold aw
 intro hm FN k hok c hc a w hs
 have : ∃ c1,c = .loop c1∧cCode P C.nt c1 = some body := by
  unfold cCode at hc
  split at hc <;> first
   | (split at hc <;> first | (simp at hc; subst hc; exact ⟨_,rfl,by assumption⟩) | (simp at hc; done) | ((repeat' (split at hc)) <;> simp at hc; done))
   | (simp at hc; done)
 obtain ⟨c1,rfl,h1⟩ := this
 exact wpIn_loop_rounds (m + 1) (roundsQ_sound m hk hm FN k hok c1 h1 a w hs)
end
end Go.Proofs.YtbmhdpflloepkaaGreatDoor

namespace Go.Proofs.YtbmhdpflloepkaaGreatDoor
open Go.RowKit
set_option linter.unusedVariables false

structure Br (b : Bool) (p q : Prop) : Prop where
 yes : b = true→p
 no : b = false→q
theorem B {b : Bool} {p q : Prop} (h1 : b = true→p) (h2 : b = false→q) : Br b p q := ⟨h1,h2⟩
def PV.isB : PV→Bool
 | .val (.bool _) => true
 | _ => false
section
variable {P : Program} {C : Ctx} {n : Nat} {e : Env} {h : Heap} {Q : Exit→Nat→Env→Heap→Prop} {os : List AOper} {d : Option Nat} {K : Nat→Env→Heap→Prop} {z : Rsv} {KD : Env→Heap→Prop} {q1 q2 : Prop}

theorem opsK_nb {op : AOp} {p : PV} {h' : Heap} (hd : dEval op e h n = some (p,h')) (hb : p.isB = false) (hn : isCall op = false) (hz : h' n = none) (hk : opsK P os n (updO e d p) h' K) : opsK P (⟨d,op,none⟩ :: os) n e h K := opsK_of hd hn hz hk
theorem opsK_br {op : AOp} {b : Bool} {h' : Heap} (hd : dEval op e h n = some (.val (.bool b),h')) (hn : isCall op = false) (hz : h' n = none) (h1 : q1→opsK P os n (updO e d (.val (.bool true))) h' K) (h2 : q2→opsK P os n (updO e d (.val (.bool false))) h' K)   : Br b q1 q2→opsK P (⟨d,op,none⟩ :: os) n e h K :=
 fun hq => opsK_bool hd hn hz (fun hb => h1 (hq.yes hb)) fun hb => h2 (hq.no hb)
theorem opsK_lit {op : AOp} {h' : Heap} (v : Bool) (hd : dEval op e h n = some (.val (.bool v),h')) (hn : isCall op = false) (hz : h' n = none) (hk : opsK P os n (updO e d (.val (.bool v))) h' K) : opsK P (⟨d,op,none⟩ :: os) n e h K := opsK_of hd hn hz hk
theorem dK_nb {i mask : Nat} {op : AOp} {iso : Nat} {xs : List DItem} {p : PV} {h' : Heap} (hd : dEval op e h (n + i) = some (p,h')) (hb : p.isB = false) (ha : accOk z op e n i mask iso = true) (hn : isCall op = false) (hk : dK P z n xs (updO e d p) h' KD) : dK P z n (⟨i,⟨d,op,none⟩,mask,iso,false⟩ :: xs) e h KD := dK_of hd ha hn hk
theorem dK_lit {i mask : Nat} {op : AOp} {iso : Nat} {xs : List DItem} {h' : Heap} (v : Bool) (hd : dEval op e h (n + i) = some (.val (.bool v),h')) (ha : accOk z op e n i mask iso = true) (hn : isCall op = false) (hk : dK P z n xs (updO e d (.val (.bool v))) h' KD) : dK P z n (⟨i,⟨d,op,none⟩,mask,iso,false⟩ :: xs) e h KD := dK_of hd ha hn hk
theorem dK_br {i mask : Nat} {op : AOp} {iso : Nat} {xs : List DItem} {b : Bool} {h' : Heap} (hd : dEval op e h (n + i) = some (.val (.bool b),h')) (ha : accOk z op e n i mask iso = true) (hn : isCall op = false) (h1 : q1→dK P z n xs (updO e d (.val (.bool true))) h' KD) (h2 : q2→dK P z n xs (updO e d (.val (.bool false))) h' KD)   : Br b q1 q2→dK P z n (⟨i,⟨d,op,none⟩,mask,iso,false⟩ :: xs) e h KD :=
 fun hq => dK_bool hd ha hn (fun hb => h1 (hq.yes hb)) fun hb => h2 (hq.no hb)
theorem aw_br {c : Operand} {x y : ACode} {b : Bool} (hc : ev e c = some (.val (.bool b))) (h1 : q1→aw P C x Q n e h) (h2 : q2→aw P C y Q n e h)   : Br b q1 q2→aw P C (.cond c x y) Q n e h := fun hq => aw_cond hc (fun hb => h1 (hq.yes hb)) fun hb => h2 (hq.no hb)
end

theorem go {p q : Prop} (hk : q) (hr : q→p := by
 intro hq
 repeat' (first
  | (show opsK _ _ _ _ _ _; first | refine opsK_nb rfl rfl rfl rfl ?_ | refine opsK_done ?_ | refine opsK_on rfl ?_ | refine opsK_off rfl ?_ | refine opsK_lit true rfl rfl rfl ?_ | refine opsK_lit false rfl rfl rfl ?_ | (revert hq; refine' opsK_br rfl rfl rfl _ _ <;> first | intro hq | skip) | refine opsK_new rfl rfl rfl ?_)
  | (show aw _ _ _ _ _ _ _; first | refine aw_seq ?_ | refine aw_region ?_ | refine aw_draw [] ?_ | refine aw_condT rfl ?_ | refine aw_condF rfl ?_ | (revert hq; refine' aw_br rfl _ _ <;> first | intro hq | skip) | refine aw_block ?_ | refine aw_skip ?_ | refine aw_exit ?_ | refine aw_ret ?_)
  | (show dK _ _ _ _ _ _ _; first | refine dK_nb rfl rfl rfl rfl ?_ | refine dK_done ?_ | refine dK_on rfl ?_ | refine dK_off ⟨_,rfl,nofun⟩ ?_ | refine dK_lit true rfl rfl rfl ?_ | refine dK_lit false rfl rfl rfl ?_ | (revert hq; refine' dK_br rfl rfl rfl _ _ <;> first | intro hq | skip)))
 all_goals first | exact hq | skip) : p := hr hk
theorem st {p q : Prop} (hk : q) (hr : q→p := by
 intro hq
 (first
   | (show opsK _ _ _ _ _ _; first | refine opsK_nb rfl rfl rfl rfl ?_ | refine opsK_done ?_ | refine opsK_on rfl ?_ | refine opsK_off rfl ?_ | refine opsK_lit true rfl rfl rfl ?_ | refine opsK_lit false rfl rfl rfl ?_ | (revert hq; refine' opsK_br rfl rfl rfl _ _ <;> first | intro hq | skip) | refine opsK_new rfl rfl rfl ?_)
   | (show aw _ _ _ _ _ _ _; first | refine aw_seq ?_ | refine aw_region ?_ | refine aw_draw [] ?_ | refine aw_condT rfl ?_ | refine aw_condF rfl ?_ | (revert hq; refine' aw_br rfl _ _ <;> first | intro hq | skip) | refine aw_block ?_ | refine aw_skip ?_ | refine aw_exit ?_ | refine aw_ret ?_)
   | (show dK _ _ _ _ _ _ _; first | refine dK_nb rfl rfl rfl rfl ?_ | refine dK_done ?_ | refine dK_on rfl ?_ | refine dK_off ⟨_,rfl,nofun⟩ ?_ | refine dK_lit true rfl rfl rfl ?_ | refine dK_lit false rfl rfl rfl ?_ | (revert hq; refine' dK_br rfl rfl rfl _ _ <;> first | intro hq | skip)))
 all_goals first | exact hq | skip) : p := hr hk
end Go.Proofs.YtbmhdpflloepkaaGreatDoor

namespace Go.Proofs.YtbmhdpflloepkaaGreatDoor
set_option maxRecDepth 100000
theorem mixed : Tryz.prog.follows .mixedOrders = true := by kernel_rfl

abbrev tT (n : Nat) : Operand := .tmp n
abbrev oO (d : Nat) (p : AOp) : AOper := ⟨some d, p, none⟩
abbrev oT (g d : Nat) (p : AOp) : AOper := ⟨some d, p, some (g, true)⟩
abbrev oF (g d : Nat) (p : AOp) : AOper := ⟨some d, p, some (g, false)⟩
abbrev oM (d a : Nat) : AOper := ⟨some d, .mov (.tmp a), none⟩
abbrev nS : Value := .slice none 0 0
abbrev kI (n : Int) : Operand := .const (.int .i64 n)
abbrev kT : Operand := .const (.bool true)
abbrev kF : Operand := .const (.bool false)
abbrev kC (f : FuncId) (l : List Operand) : AOp := .call (.func f) l
abbrev sQ (x y : ACode) : ACode := .seq x y
def ir8 : ACode := (sQ (.region [oO 3 (.box (tT 0)),oO 4 (.box (tT 1)),oO 6 (.mov kF)]) (sQ (sQ (.region [oO 15 (kC 10 []),oO 16 (.una .not (tT 15))]) (.cond (tT 16) (sQ (.region [oO 6 (.mov kF)]) .ret) .skip)) (sQ (.region [oO 18 (.load true 4 (tT 3)),
 oO 19 (kC 11 [(tT 18)]),oM 17 19,oO 20 (.extract (tT 17) 0),oO 21 (.extract (tT 17) 1),oO 22 (.extract (tT 17) 2),oO 7 (.alloc [(.pointer none),(.pointer none),(.int .i64 0),(.int .i64 0)]),oO 8 (.alloc [nS,
 nS,(.int .i64 0),(.int .i64 0)]),⟨none,.store 4 (tT 7) (tT 20),none⟩,⟨none,.store 4 (tT 8) (tT 21),none⟩,oM 9 22]) (sQ (.region [oO 24 (.load true 4 (tT 4)),oO 25 (kC 11 [(tT 24)]),oM 23 25,oO 26 (.extract (tT 23) 0),
 oO 27 (.extract (tT 23) 1),oO 28 (.extract (tT 23) 2),oO 10 (.alloc [(.pointer none),(.pointer none),(.int .i64 0),(.int .i64 0)]),oO 11 (.alloc [nS,nS,(.int .i64 0),(.int .i64 0)]),⟨none,.store 4 (tT 10) (tT 26),
 none⟩,⟨none,.store 4 (tT 11) (tT 27),none⟩,oM 12 28]) (sQ (sQ (.region [oM 29 9,oO 30 (.una .not (tT 29)),oM 31 30,oF 31 32 (.mov (tT 12)),oF 31 33 (.una .not (tT 32)),oO 34 (.pick (tT 31) kT (tT 33))]) (.cond (tT 34) (sQ (.region [oO 6 (.mov kF)]) .ret) .skip)) (sQ (.region [oM 35 2,
 oO 36 (kC 27 [(tT 35)]),oM 13 36]) (sQ (.draw [⟨0,oM 37 13,0,0,false⟩,⟨1,oO 38 (kC 29 [(tT 37)]),1,0,false⟩,⟨2,oO 39 (.load true 4 (tT 7)),0,0,false⟩,⟨3,oO 40 (.load true 4 (tT 10)),0,0,false⟩,⟨4,oO 41 (kC 38 [(tT 38),
 (tT 39),(tT 40)]),15,1,false⟩,⟨5,oM 14 41,31,1,false⟩]) (sQ (.draw [⟨0,oM 42 14,0,0,false⟩,⟨1,oM 43 13,0,0,false⟩,⟨2,oO 44 (.load true 4 (tT 8)),0,0,false⟩,⟨3,oO 45 (.load true 4 (tT 11)),0,0,false⟩,⟨4,
 oO 46 (kC 39 [(tT 43),(tT 44),(tT 45)]),14,1,false⟩,⟨5,oO 47 (kC 35 [(tT 42),(tT 46)]),31,1,false⟩,⟨6,oM 48 47,63,1,false⟩,⟨7,oT 48 49 (.mov (tT 13)),127,0,false⟩,⟨8,oT 48 50 (kC 29 [(tT 49)]),255,0,false⟩,
 ⟨9,oT 48 51 (.load true 4 (tT 7)),127,0,false⟩,⟨10,oT 48 52 (.load true 4 (tT 7)),127,0,false⟩,⟨11,oT 48 53 (kC 38 [(tT 50),(tT 51),(tT 52)]),2047,1,false⟩,⟨12,oT 48 54 (.len (tT 53)),4095,1,false⟩,⟨13,
 oT 48 55 (.bin .eql .num (tT 54) (kI 0)),8191,1,false⟩,⟨14,oO 56 (.pick (tT 48) (tT 55) kF),16383,1,false⟩,⟨15,oM 6 56,32767,1,false⟩]) .ret))))))))
theorem ok8 : FnOk Tryz.prog 8 57 ir8 [.tmp 6] := fnOk_of mixed Tryz.func8 (by kernel_rfl) Tryz.ntmps8 (by kernel_rfl) (by kernel_rfl)

def ir10 : ACode := (sQ (.region [oO 0 (.mov kF)]) (sQ (.region [oO 2 (kC 44 []),oM 1 2]) (sQ (.draw [⟨0,oM 3 1,0,1,false⟩,⟨1,oO 4 (.iaddr 4 (tT 3) (kI 0)),1,1,false⟩,⟨2,oO 5 (.load true 4 (tT 4)),3,1,
 false⟩,⟨3,oO 6 (.bslice [(.int .i64 0)] 2 [(0,(kI 1)),(1,(kI 2))]),0,0,false⟩,⟨4,oO 7 (kC 45 [(tT 6)]),8,0,false⟩,⟨5,oO 8 (kC 33 [(tT 5),(tT 7),(.const nS)]),31,1,false⟩,⟨6,oO 9 (.una .not (tT 8)),63,1,
 false⟩,⟨7,oM 10 9,127,1,false⟩,⟨8,oT 10 11 (.mov (tT 1)),255,1,false⟩,⟨9,oT 10 12 (.iaddr 4 (tT 11) (kI 0)),511,1,false⟩,⟨10,oT 10 13 (.load true 4 (tT 12)),1023,1,false⟩,⟨11,oT 10 14 (.bslice [(.int .i64 0)] 2 [(0,
 (kI 1)),(1,(kI 3))]),255,0,false⟩,⟨12,oT 10 15 (kC 45 [(tT 14)]),2303,0,false⟩,⟨13,oT 10 16 (kC 33 [(tT 13),(tT 15),(.const nS)]),8191,1,false⟩,⟨14,oO 17 (.pick (tT 10) (tT 16) kF),16383,1,false⟩,⟨15,oM 18 17,
 32767,1,false⟩,⟨16,oT 18 19 (.mov (tT 1)),65535,1,false⟩,⟨17,oT 18 20 (.iaddr 4 (tT 19) (kI 1)),131071,1,false⟩,⟨18,oT 18 21 (.load true 4 (tT 20)),262143,1,false⟩,⟨19,oT 18 22 (.bslice [(.int .i64 0)] 1 [(0,
 (kI 1))]),65535,0,false⟩,⟨20,oT 18 23 (kC 45 [(tT 22)]),589823,0,false⟩,⟨21,oT 18 24 (kC 33 [(tT 21),(tT 23),(.const nS)]),2097151,1,false⟩,⟨22,oT 18 25 (.una .not (tT 24)),4194303,1,false⟩,⟨23,oO 26 (.pick (tT 18) (tT 25) kF),
 8388607,1,false⟩,⟨24,oM 27 26,16777215,1,false⟩,⟨25,oT 27 28 (.mov (tT 1)),33554431,1,false⟩,⟨26,oT 27 29 (.iaddr 4 (tT 28) (kI 1)),67108863,1,false⟩,⟨27,oT 27 30 (.load true 4 (tT 29)),134217727,1,false⟩,
 ⟨28,oT 27 31 (kC 45 [(.const nS)]),33554431,0,false⟩,⟨29,oT 27 32 (kC 33 [(tT 30),(tT 31),(.const nS)]),536870911,1,false⟩,⟨30,oO 33 (.pick (tT 27) (tT 32) kF),1073741823,1,false⟩,⟨31,oM 34 33,2147483647,
 1,false⟩,⟨32,oT 34 35 (.mov (tT 1)),4294967295,1,false⟩,⟨33,oT 34 36 (.iaddr 4 (tT 35) (kI 2)),8589934591,1,false⟩,⟨34,oT 34 37 (.load true 4 (tT 36)),17179869183,1,false⟩,⟨35,oT 34 38 (kC 45 [(.const nS)]),
 4294967295,0,false⟩,⟨36,oT 34 39 (.bslice [(.int .i64 0)] 3 [(0,(kI 0)),(1,(kI 1)),(2,(kI 1))]),4294967295,0,false⟩,⟨37,oT 34 40 (kC 33 [(tT 37),(tT 38),(tT 39)]),137438953471,1,false⟩,⟨38,oO 41 (.pick (tT 34) (tT 40) kF),
 274877906943,1,false⟩,⟨39,oM 0 41,549755813887,1,false⟩]) .ret)))
theorem ok10 : FnOk Tryz.prog 10 42 ir10 [.tmp 0] := fnOk_of mixed Tryz.func10 (by kernel_rfl) Tryz.ntmps10 (by kernel_rfl) (by kernel_rfl)

def ir11 : ACode := (sQ (.region [oO 1 (.box (tT 0)),oO 2 (.alloc [(.pointer none),(.pointer none),(.int .i64 0),(.int .i64 0)]),oO 3 (.alloc [nS,nS,(.int .i64 0),(.int .i64 0)]),oO 4 (.mov kF)]) (sQ (.region [oO 16 (.load true 4 (tT 1)),
 oO 17 (kC 46 [(tT 16)]),oO 5 (.alloc [nS,nS,(.int .i64 0),(.int .i64 0)]),⟨none,.store 4 (tT 5) (tT 17),none⟩]) (sQ (.region [oO 18 (kC 47 []),oM 6 18]) (sQ (sQ (.region [oO 19 (.faddr 0 (tT 5)),oO 20 (.load false 1 (tT 19)),
 oO 21 (.len (tT 20)),oO 22 (.mov (kI 0))]) (.block 0 (.loop (sQ (.region [oO 23 (.bin .lss .num (tT 22) (tT 21))]) (sQ (.cond (tT 23) .skip (.exit 0)) (sQ (.block 1 (sQ (.region [oO 24 (.iaddr 2 (tT 20) (tT 22)),
 oO 25 (.load true 2 (tT 24)),oO 8 (.alloc [(.int .i64 0),(.int .i64 0)]),⟨none,.store 2 (tT 8) (tT 25),none⟩]) (sQ (.region [oM 27 6,oO 28 (.iaddrA 2 1 (tT 8) (kI 0)),oO 29 (.load false 1 (tT 28)),oO 30 (.iaddrA 2 1 (tT 8) (kI 1)),
 oO 31 (.load false 1 (tT 30)),oO 32 (kC 48 [(tT 27),(tT 29),(tT 31)]),oM 26 32,oO 33 (.extract (tT 26) 0),oO 34 (.extract (tT 26) 1),oM 9 33,oM 10 34]) (sQ (sQ (.region [oM 35 10,oO 36 (.bin .neq .num (tT 35) (kI 0))]) (.cond (tT 36) (sQ (.draw [⟨0,
 oO 37 (.build [(.pointer none),(.pointer none),(.int .i64 0),(.int .i64 0)] []),0,0,false⟩,⟨1,oO 38 (.load true 4 (tT 5)),0,0,false⟩,⟨2,⟨none,.store 4 (tT 2) (tT 37),none⟩,1,2,false⟩,⟨3,⟨none,.store 4 (tT 3) (tT 38),
 none⟩,7,1,false⟩,⟨4,oO 4 (.mov kF),15,1,false⟩]) .ret) .skip)) (.region [oM 39 9,oM 6 39]))))) (.region [oO 40 (.bin .add .num (tT 22) (kI 1)),oM 22 40]))))))) (sQ (.region [oO 41 (kC 31 []),oM 11 41]) (sQ (sQ (.region [oO 42 (.faddr 1 (tT 5)),
 oO 43 (.load false 1 (tT 42)),oO 44 (.len (tT 43)),oO 45 (.mov (kI 0))]) (.block 2 (.loop (sQ (.region [oO 46 (.bin .lss .num (tT 45) (tT 44))]) (sQ (.cond (tT 46) .skip (.exit 2)) (sQ (.block 3 (sQ (.region [oO 47 (.iaddr 3 (tT 43) (tT 45)),
 oO 48 (.load true 3 (tT 47)),oO 13 (.alloc [(.int .i64 0),(.int .i64 0),(.int .i64 0)]),⟨none,.store 3 (tT 13) (tT 48),none⟩]) (sQ (.region [oM 50 11,oO 51 (.faddr 0 (tT 13)),oO 52 (.load false 1 (tT 51)),
 oO 53 (.faddr 1 (tT 13)),oO 54 (.load false 1 (tT 53)),oO 55 (.faddr 2 (tT 13)),oO 56 (.load false 1 (tT 55)),oO 57 (kC 13 [(tT 50),(tT 52),(tT 54),(tT 56)]),oM 49 57,oO 58 (.extract (tT 49) 0),oO 59 (.extract (tT 49) 1),
 oM 14 58,oM 15 59]) (sQ (sQ (.region [oM 60 15,oO 61 (.bin .neq .num (tT 60) (kI 0))]) (.cond (tT 61) (sQ (.draw [⟨0,oO 62 (.build [(.pointer none),(.pointer none),(.int .i64 0),(.int .i64 0)] []),0,0,
 false⟩,⟨1,oO 63 (.load true 4 (tT 5)),0,0,false⟩,⟨2,⟨none,.store 4 (tT 2) (tT 62),none⟩,1,2,false⟩,⟨3,⟨none,.store 4 (tT 3) (tT 63),none⟩,7,1,false⟩,⟨4,oO 4 (.mov kF),15,1,false⟩]) .ret) .skip)) (.region [oM 64 14,
 oM 11 64]))))) (.region [oO 65 (.bin .add .num (tT 45) (kI 1)),oM 45 65]))))))) (sQ (.draw [⟨0,oM 66 6,0,0,false⟩,⟨1,oM 67 11,0,0,false⟩,⟨2,oO 68 (.faddr 2 (tT 5)),0,0,false⟩,⟨3,oO 69 (.load false 1 (tT 68)),
 4,0,false⟩,⟨4,oO 70 (.faddr 3 (tT 5)),0,0,false⟩,⟨5,oO 71 (.load false 1 (tT 70)),16,0,false⟩,⟨6,oO 72 (.build [(.pointer none),(.pointer none),(.int .i64 0),(.int .i64 0)] [(0,1,(tT 66)),(1,1,(tT 67)),
 (2,1,(tT 69)),(3,1,(tT 71))]),63,0,false⟩,⟨7,oO 73 (.load true 4 (tT 5)),0,0,false⟩,⟨8,oM 74 6,0,0,false⟩,⟨9,oO 75 (.bin .neq .ptr (tT 74) (.const (.pointer none))),256,0,false⟩,⟨10,oM 76 75,768,0,false⟩,
 ⟨11,oT 76 77 (.mov (tT 11)),1792,0,false⟩,⟨12,oT 76 78 (.bin .neq .ptr (tT 77) (.const (.pointer none))),3840,0,false⟩,⟨13,oO 79 (.pick (tT 76) (tT 78) kF),7936,0,false⟩,⟨14,⟨none,.store 4 (tT 2) (tT 72),
 none⟩,1919,3838,false⟩,⟨15,⟨none,.store 4 (tT 3) (tT 73),none⟩,18431,1,false⟩,⟨16,oM 4 79,65535,1,false⟩]) .ret)))))))
theorem ok11 : FnOk Tryz.prog 11 80 ir11 [.cell 2 true 4, .cell 3 true 4, .tmp 4] := fnOk_of mixed Tryz.func11 (by kernel_rfl) Tryz.ntmps11 (by kernel_rfl) (by kernel_rfl)

def ir12 : ACode := (sQ (.region [oO 1 (.box (tT 0)),oO 2 (.alloc [(.int .i64 0),(.int .i64 0),(.int .i64 0)])]) (sQ (.region [oO 3 (.faddr 0 (tT 1)),oO 4 (.load false 1 (tT 3)),oO 5 (.bin .rem .num (tT 4) (.const (.int .u8 5))),
 oO 6 (.conv .i64 (tT 5)),oO 7 (.bin .add .num (kI 1) (tT 6)),oO 8 (.faddr 1 (tT 1)),oO 9 (.load false 1 (tT 8)),oO 10 (.bin .rem .num (tT 9) (.const (.int .u8 8))),oO 11 (.conv .i64 (tT 10)),oO 12 (.bin .add .num (kI 1) (tT 11)),
 oO 13 (.faddr 2 (tT 1)),oO 14 (.load false 1 (tT 13)),oO 15 (.bin .rem .num (tT 14) (.const (.int .u8 20))),oO 16 (.conv .i64 (tT 15)),oO 17 (.build [(.int .i64 0),(.int .i64 0),(.int .i64 0)] [(0,1,(tT 7)),
 (1,1,(tT 12)),(2,1,(tT 16))]),⟨none,.store 3 (tT 2) (tT 17),none⟩]) .ret))
theorem ok12 : FnOk Tryz.prog 12 18 ir12 [.cell 2 true 3] := fnOk_of mixed Tryz.func12 (by kernel_rfl) Tryz.ntmps12 (by kernel_rfl) (by kernel_rfl)

def ir13 : ACode := (sQ (.region [oO 8 (.mov (.const (.pointer none))),oO 9 (.mov (kI 0))]) (sQ (.block 0 (sQ (.region [oM 14 0,oO 15 (.bin .eql .ptr (tT 14) (.const (.pointer none))),oM 16 15,oF 16 17 (.mov (tT 1)),
 oF 16 18 (.bin .lss .num (tT 17) (kI 1)),oO 19 (.pick (tT 16) kT (tT 18)),oM 20 19,oF 20 21 (.mov (tT 1)),oF 20 22 (.bin .gtr .num (tT 21) (kI 256)),oO 23 (.pick (tT 20) kT (tT 22)),oM 24 23,oF 24 25 (.mov (tT 2)),
 oF 24 26 (.bin .lss .num (tT 25) (kI 1)),oO 27 (.pick (tT 24) kT (tT 26)),oM 28 27,oF 28 29 (.mov (tT 2)),oF 28 30 (.bin .gtr .num (tT 29) (kI 63)),oO 31 (.pick (tT 28) kT (tT 30)),oM 13 31]) (.cond (tT 13) (sQ (.region [oO 8 (.mov (.const (.pointer none))),
 oO 9 (.mov (kI 1))]) .ret) (sQ (.region [oM 33 3,oO 34 (.bin .lss .num (tT 33) (kI 0)),oM 35 34,oF 35 36 (.mov (tT 3)),oF 35 37 (.bin .gtr .num (tT 36) (kI 30000)),oO 38 (.pick (tT 35) kT (tT 37)),oM 32 38]) (.cond (tT 32) (sQ (.region [oO 8 (.mov (.const (.pointer none))),
 oO 9 (.mov (kI 2))]) .ret) .skip))))) (sQ (.region [oM 39 0,oO 40 (.nilck (tT 39)),oO 41 (.faddr 0 (tT 40)),oO 42 (.load false 1 (tT 41)),oO 43 (kC 49 [(tT 42)]),oM 10 43]) (sQ (.region [oM 45 0,oM 46 1,
 oM 47 2,oO 48 (kC 50 [(tT 45),(tT 46),(tT 47)]),oM 44 48,oO 49 (.extract (tT 44) 0),oO 50 (.extract (tT 44) 1),oM 11 49,oM 12 50]) (sQ (sQ (.region [oM 51 12]) (.cond (tT 51) (.region [oM 52 10,oM 53 11,
 oM 54 3,oO 55 (.iaddr 3 (tT 52) (tT 53)),oO 56 (.faddr 2 (tT 55)),⟨none,.store 1 (tT 56) (tT 54),none⟩]) (.region [oM 57 10,oM 58 11,oM 59 1,oM 60 2,oM 61 3,oO 62 (.build [(.int .i64 0),(.int .i64 0),(.int .i64 0)] [(0,
 1,(tT 59)),(1,1,(tT 60)),(2,1,(tT 61))]),oO 63 (.bslice [(.int .i64 0),(.int .i64 0),(.int .i64 0)] 1 [(0,(tT 62))]),oO 64 (kC 51 [(tT 57),(tT 58),(tT 63)]),oM 10 64]))) (sQ (.region [oM 65 10,oO 66 (.build [nS] [(0,
 1,(tT 65))]),oO 67 (.box (tT 66)),oM 8 67,oO 9 (.mov (kI 0))]) .ret))))))
theorem ok13 : FnOk Tryz.prog 13 68 ir13 [.tmp 8, .tmp 9] := fnOk_of mixed Tryz.func13 (by kernel_rfl) Tryz.ntmps13 (by kernel_rfl) (by kernel_rfl)

def ir14 : ACode := (sQ (.region [oO 2 (.box (tT 0)),oO 4 (.alloc [nS])]) (sQ (sQ (.region [oO 5 (.faddr 0 (tT 2)),oO 6 (.load false 1 (tT 5)),oO 7 (.bin .eql .ptr (tT 6) (.const (.pointer none))),oM 8 7,
 oF 8 9 (.faddr 1 (tT 2)),oF 8 10 (.load false 1 (tT 9)),oF 8 11 (.bin .eql .ptr (tT 10) (.const (.pointer none))),oO 12 (.pick (tT 8) kT (tT 11)),oM 13 12,oF 13 14 (.mov (tT 1)),oF 13 15 (.bin .lss .num (tT 14) (kI 1)),
 oO 16 (.pick (tT 13) kT (tT 15)),oM 17 16,oF 17 18 (.mov (tT 1)),oF 17 19 (.load true 4 (tT 2)),oF 17 20 (kC 52 [(tT 19)]),oF 17 21 (.bin .gtr .num (tT 18) (tT 20)),oO 22 (.pick (tT 17) kT (tT 21))]) (.cond (tT 22) (sQ (.region [oO 23 (.build [nS] []),
 ⟨none,.store 1 (tT 4) (tT 23),none⟩]) .ret) .skip)) (sQ (.draw [⟨0,oO 24 (.faddr 0 (tT 2)),0,0,false⟩,⟨1,oO 25 (.load false 1 (tT 24)),1,0,false⟩,⟨2,oO 26 (.faddr 1 (tT 2)),0,0,false⟩,⟨3,oO 27 (.load false 1 (tT 26)),
 4,0,false⟩,⟨4,oM 28 1,0,0,false⟩,⟨5,oO 29 (.faddr 3 (tT 2)),0,0,false⟩,⟨6,oO 30 (.load false 1 (tT 29)),32,0,false⟩,⟨7,oO 31 (kC 54 [(tT 27),(tT 28),(tT 30)]),124,0,false⟩,⟨8,oO 32 (kC 53 [(tT 25),(tT 31)]),
 255,1,false⟩,⟨9,⟨none,.store 1 (tT 4) (tT 32),none⟩,511,1,false⟩]) .ret)))
theorem ok14 : FnOk Tryz.prog 14 33 ir14 [.cell 4 true 1] := fnOk_of mixed Tryz.func14 (by kernel_rfl) Tryz.ntmps14 (by kernel_rfl) (by kernel_rfl)

def ir15 : ACode := (sQ (.region [oO 2 (.box (tT 0)),oO 3 (.box (tT 1)),oO 4 (.alloc [nS])]) (sQ (.region [oO 7 (.faddr 0 (tT 2)),oO 8 (.load false 1 (tT 7)),oO 9 (.len (tT 8)),oO 10 (.faddr 0 (tT 3)),
 oO 11 (.load false 1 (tT 10)),oO 12 (.len (tT 11)),oO 13 (.mx (tT 9) (tT 12)),oO 14 (.mslice [(.int .u64 0)] 8 (tT 13) (tT 13)),oM 5 14]) (sQ (sQ (.region [oM 15 5,oO 16 (.len (tT 15)),oO 17 (.mov (kI 0))]) (.block 0 (.loop (sQ (.region [oO 18 (.bin .lss .num (tT 17) (tT 16))]) (sQ (.cond (tT 18) .skip (.exit 0)) (sQ (.block 1 (sQ (.region [oM 19 17,
 oM 6 19]) (.draw [⟨0,oM 20 5,0,0,false⟩,⟨1,oM 21 6,0,0,false⟩,⟨2,oO 22 (.load true 1 (tT 2)),0,0,false⟩,⟨3,oM 23 6,0,0,false⟩,⟨4,oO 24 (kC 55 [(tT 22),(tT 23)]),12,0,false⟩,⟨5,oO 25 (.load true 1 (tT 3)),
 0,0,false⟩,⟨6,oM 26 6,0,0,false⟩,⟨7,oO 27 (kC 55 [(tT 25),(tT 26)]),124,1,false⟩,⟨8,oO 28 (.bin .or .num (tT 24) (tT 27)),252,1,false⟩,⟨9,oO 29 (.iaddr 1 (tT 20) (tT 21)),511,1,false⟩,⟨10,⟨none,.store 1 (tT 29) (tT 28),
 none⟩,1023,1,false⟩]))) (.region [oO 30 (.bin .add .num (tT 17) (kI 1)),oM 17 30]))))))) (sQ (.region [oM 31 5,oO 32 (.build [nS] [(0,1,(tT 31))]),⟨none,.store 1 (tT 4) (tT 32),none⟩]) .ret))))
theorem ok15 : FnOk Tryz.prog 15 33 ir15 [.cell 4 true 1] := fnOk_of mixed Tryz.func15 (by kernel_rfl) Tryz.ntmps15 (by kernel_rfl) (by kernel_rfl)

def ir16 : ACode := (sQ (.region [oO 4 (.alloc [nS])]) (sQ (sQ (.region [oM 5 0,oO 6 (.bin .eql .ptr (tT 5) (.const (.pointer none))),oM 7 6,oF 7 8 (.mov (tT 1)),oF 7 9 (kC 56 [(tT 8)]),oF 7 10 (.una .not (tT 9)),
 oO 11 (.pick (tT 7) kT (tT 10))]) (.cond (tT 11) (sQ (.region [oO 12 (.build [nS] []),⟨none,.store 1 (tT 4) (tT 12),none⟩]) .ret) .skip)) (sQ (.region [oM 13 0,oO 14 (.nilck (tT 13)),oO 15 (.faddr 0 (tT 14)),
 oO 16 (.load false 1 (tT 15)),oM 17 1,oO 18 (kC 57 [(tT 16),(tT 17)]),oM 19 1,oO 20 (kC 58 [(tT 18),(tT 19)]),⟨none,.store 1 (tT 4) (tT 20),none⟩]) .ret)))
theorem ok16 : FnOk Tryz.prog 16 21 ir16 [.cell 4 true 1] := fnOk_of mixed Tryz.func16 (by kernel_rfl) Tryz.ntmps16 (by kernel_rfl) (by kernel_rfl)

def ir20 : ACode := (sQ (.region [oO 6 (.mov kF)]) (sQ (.region [oM 7 2,oO 8 (kC 61 [(tT 7)]),oM 9 8,oT 9 10 (.mov (tT 0)),oT 9 11 (.mov (tT 1)),oT 9 12 (kC 62 [(tT 10),(tT 11)]),oT 9 13 (.mov (tT 2)),
 oT 9 14 (.bin .shr .num (tT 12) (tT 13)),oT 9 15 (.bin .rem .num (tT 14) (.const (.int .u64 2))),oT 9 16 (.bin .eql .num (tT 15) (.const (.int .u64 1))),oO 17 (.pick (tT 9) (tT 16) kF),oM 6 17]) .ret))
theorem ok20 : FnOk Tryz.prog 20 18 ir20 [.tmp 6] := fnOk_of mixed Tryz.func20 (by kernel_rfl) Tryz.ntmps20 (by kernel_rfl) (by kernel_rfl)

def ir22 : ACode := (sQ (.region [oO 2 (.box (tT 0)),oO 4 (.mov (.const (.int .u64 0)))]) (sQ (sQ (.region [oM 8 1,oO 9 (.bin .lss .num (tT 8) (kI 1)),oM 10 9,oF 10 11 (.mov (tT 1)),oF 10 12 (.faddr 2 (tT 2)),
 oF 10 13 (.load false 1 (tT 12)),oF 10 14 (.bin .gtr .num (tT 11) (tT 13)),oO 15 (.pick (tT 10) kT (tT 14)),oM 16 15,oF 16 17 (.mov (tT 1)),oF 16 18 (.bin .gtr .num (tT 17) (kI 256)),oO 19 (.pick (tT 16) kT (tT 18))]) (.cond (tT 19) (sQ (.region [oO 4 (.mov (.const (.int .u64 0)))]) .ret) .skip)) (sQ (.region [oO 5 (.mov (.const (.int .u64 0)))]) (sQ (sQ (.region [oO 20 (.faddr 1 (tT 2)),
 oO 21 (.load false 1 (tT 20)),oM 22 1,oO 23 (.faddr 3 (tT 2)),oO 24 (.load false 1 (tT 23)),oO 25 (kC 63 [(tT 21),(tT 22),(tT 24)]),oO 26 (.len (tT 25)),oO 27 (.mov (kI 0))]) (.block 0 (.loop (sQ (.region [oO 28 (.bin .lss .num (tT 27) (tT 26))]) (sQ (.cond (tT 28) .skip (.exit 0)) (sQ (.block 1 (sQ (.region [oO 29 (.iaddr 1 (tT 25) (tT 27)),
 oO 30 (.load false 1 (tT 29)),oM 7 30]) (.region [oM 31 5,oM 32 7,oO 33 (.conv .u64 (tT 32)),oO 34 (.bin .shl .num (.const (.int .u64 1)) (tT 33)),oO 35 (.bin .or .num (tT 31) (tT 34)),oM 5 35]))) (.region [oO 36 (.bin .add .num (tT 27) (kI 1)),
 oM 27 36]))))))) (sQ (.region [oO 37 (.faddr 0 (tT 2)),oO 38 (.load false 1 (tT 37)),oM 39 5,oO 40 (kC 64 [(tT 38),(tT 39)]),oM 4 40]) .ret)))))
theorem ok22 : FnOk Tryz.prog 22 41 ir22 [.tmp 4] := fnOk_of mixed Tryz.func22 (by kernel_rfl) Tryz.ntmps22 (by kernel_rfl) (by kernel_rfl)

def ir24 : ACode := (sQ (.region [oO 1 (.box (tT 0)),oO 2 (.mov (.const nS))]) (sQ (.region [oO 6 (.mslice [(.int .i64 0)] 8 (kI 64) (kI 64)),oO 3 (.alloc [nS]),⟨none,.store 1 (tT 3) (tT 6),none⟩]) (sQ (sQ (.region [oO 4 (.mov (kI 1))]) (.block 0 (.loop (sQ (sQ (.region [oM 7 4,
 oO 8 (.load true 4 (tT 1)),oO 9 (kC 52 [(tT 8)]),oO 10 (.bin .leq .num (tT 7) (tT 9))]) (.cond (tT 10) .skip (.exit 0))) (sQ (.block 1 (sQ (.region [oO 13 (.load true 4 (tT 1)),oM 14 4,oO 15 (kC 14 [(tT 13),
 (tT 14)]),oO 16 (kC 65 [(tT 15)])]) (.block 2 (.range (tT 16) [17] [(5,(tT 17))] (.block 3 (sQ (.region [oM 18 5,oO 19 (.load false 1 (tT 3)),oO 20 (.len (tT 19)),oO 21 (.bin .lss .num (tT 18) (tT 20))]) (.cond (tT 21) (.region [oO 22 (.load false 1 (tT 3)),
 oM 23 5,oO 24 (.iaddr 1 (tT 22) (tT 23)),oO 25 (.load false 1 (tT 24)),oO 26 (.bin .add .num (tT 25) (kI 1)),oO 27 (.iaddr 1 (tT 22) (tT 23)),⟨none,.store 1 (tT 27) (tT 26),none⟩]) .skip))))))) (.region [oM 11 4,
 oO 12 (.bin .add .num (tT 11) (kI 1)),oM 4 12])))))) (sQ (.region [oO 28 (.load false 1 (tT 3)),oM 2 28]) .ret))))
theorem ok24 : FnOk Tryz.prog 24 29 ir24 [.tmp 2] := fnOk_of mixed Tryz.func24 (by kernel_rfl) Tryz.ntmps24 (by kernel_rfl) (by kernel_rfl)

def ir25 : ACode := (sQ (.region [oO 1 (.box (tT 0)),oO 2 (.mov (.const nS))]) (sQ (.region [oO 6 (.mslice [(.int .i64 0)] 8 (kI 64) (kI 64)),oM 3 6]) (sQ (sQ (.region [oO 4 (.mov (kI 1))]) (.block 0 (.loop (sQ (sQ (.region [oM 7 4,
 oO 8 (.faddr 2 (tT 1)),oO 9 (.load false 1 (tT 8)),oO 10 (.bin .leq .num (tT 7) (tT 9)),oM 11 10,oT 11 12 (.mov (tT 4)),oT 11 13 (.bin .leq .num (tT 12) (kI 256)),oO 14 (.pick (tT 11) (tT 13) kF)]) (.cond (tT 14) .skip (.exit 0))) (sQ (.block 1 (sQ (.region [oO 5 (.mov (kI 1))]) (.block 2 (.loop (sQ (sQ (.region [oM 17 5,
 oO 18 (.bin .lss .num (tT 17) (kI 64))]) (.cond (tT 18) .skip (.exit 2))) (sQ (.block 3 (sQ (.region [oO 21 (.load true 4 (tT 1)),oM 22 4,oO 23 (kC 22 [(tT 21),(tT 22)]),oM 24 5,oO 25 (.conv .u64 (tT 24)),
 oO 26 (.bin .shr .num (tT 23) (tT 25)),oO 27 (.bin .rem .num (tT 26) (.const (.int .u64 2))),oO 28 (.bin .eql .num (tT 27) (.const (.int .u64 1)))]) (.cond (tT 28) (.region [oM 29 3,oM 30 5,oM 31 3,oM 32 5,
 oO 33 (.iaddr 1 (tT 31) (tT 32)),oO 34 (.load false 1 (tT 33)),oO 35 (.bin .add .num (tT 34) (kI 1)),oO 36 (.iaddr 1 (tT 29) (tT 30)),⟨none,.store 1 (tT 36) (tT 35),none⟩]) .skip))) (.region [oM 19 5,oO 20 (.bin .add .num (tT 19) (kI 1)),
 oM 5 20]))))))) (.region [oM 15 4,oO 16 (.bin .add .num (tT 15) (kI 1)),oM 4 16])))))) (sQ (.region [oM 37 3,oM 2 37]) .ret))))
theorem ok25 : FnOk Tryz.prog 25 38 ir25 [.tmp 2] := fnOk_of mixed Tryz.func25 (by kernel_rfl) Tryz.ntmps25 (by kernel_rfl) (by kernel_rfl)

def ir27 : ACode := (sQ (.region [oO 2 (.mov (.const nS))]) (sQ (.region [oO 3 (.mov (.const nS))]) (sQ (sQ (.region [oO 4 (.mov (kI 0))]) (.block 0 (.loop (sQ (sQ (.region [oM 6 4,oM 7 0,oO 8 (.len (tT 7)),
 oO 9 (.bin .lss .num (tT 6) (tT 8)),oM 10 9,oT 10 11 (.mov (tT 4)),oT 10 12 (.bin .lss .num (tT 11) (kI 5)),oO 13 (.pick (tT 10) (tT 12) kF)]) (.cond (tT 13) .skip (.exit 0))) (sQ (.block 1 (sQ (.region [oM 16 0,
 oM 17 4,oO 18 (.iaddr 3 (tT 16) (tT 17)),oO 19 (.faddr 1 (tT 18)),oO 20 (.load false 1 (tT 19)),oO 21 (.bin .rem .num (tT 20) (.const (.int .u8 3))),oO 22 (.conv .i64 (tT 21)),oO 23 (.bin .add .num (kI 1) (tT 22)),
 oM 5 23]) (.draw [⟨0,oM 24 3,0,0,false⟩,⟨1,oM 25 0,0,0,false⟩,⟨2,oM 26 4,0,0,false⟩,⟨3,oO 27 (.iaddr 3 (tT 25) (tT 26)),6,0,false⟩,⟨4,oO 28 (.faddr 0 (tT 27)),14,0,false⟩,⟨5,oO 29 (.load false 1 (tT 28)),
 30,0,false⟩,⟨6,oM 30 5,0,0,false⟩,⟨7,oM 31 4,0,0,false⟩,⟨8,oO 32 (.bin .add .num (tT 31) (kI 1)),128,0,false⟩,⟨9,oO 33 (kC 66 [(tT 32)]),384,0,false⟩,⟨10,oM 34 4,0,0,false⟩,⟨11,oO 35 (.iaddr 1 (tT 33) (tT 34)),
 1920,0,false⟩,⟨12,oO 36 (.load false 1 (tT 35)),3968,0,false⟩,⟨13,oM 37 0,0,0,false⟩,⟨14,oM 38 4,0,0,false⟩,⟨15,oO 39 (.iaddr 3 (tT 37) (tT 38)),24576,0,false⟩,⟨16,oO 40 (.faddr 2 (tT 39)),57344,0,false⟩,
 ⟨17,oO 41 (.load false 1 (tT 40)),122880,0,false⟩,⟨18,oM 42 5,0,0,false⟩,⟨19,oO 43 (kC 67 [(tT 41),(tT 42),(kI 6)]),516992,0,false⟩,⟨20,⟨(some 44),.build [(.bool false),(.int .i64 0),(.string ⟨#[]⟩),(.int .i64 0),
 (.int .i64 0),nS,nS] [(0,1,(tT 29)),(1,1,(tT 30)),(2,1,(tT 36)),(3,4,(tT 43))],none⟩,1048574,1,false⟩,⟨21,⟨(some 45),.bslice [(.bool false),(.int .i64 0),(.string ⟨#[]⟩),(.int .i64 0),(.int .i64 0),nS,
 nS] 1 [(0,(tT 44))],none⟩,2097150,1,false⟩,⟨22,⟨(some 46),.append [(.bool false),(.int .i64 0),(.string ⟨#[]⟩),(.int .i64 0),(.int .i64 0),nS,nS] 96 (tT 24) (tT 45),none⟩,4194303,1,false⟩,⟨23,oM 3 46,8388607,
 1,false⟩]))) (.region [oM 14 4,oO 15 (.bin .add .num (tT 14) (kI 1)),oM 4 15])))))) (sQ (.region [oM 47 3,oM 2 47]) .ret))))
theorem ok27 : FnOk Tryz.prog 27 48 ir27 [.tmp 2] := fnOk_of mixed Tryz.func27 (by kernel_rfl) Tryz.ntmps27 (by kernel_rfl) (by kernel_rfl)

def ir28 : ACode := (sQ (.region [oO 2 (.box (tT 0)),oO 3 (.box (tT 1)),oO 4 (.mov (.const nS))]) (sQ (sQ (.region [oO 7 (.faddr 1 (tT 2)),oO 8 (.load false 1 (tT 7)),oO 9 (.bin .neq .num (tT 8) (.const (.int .u8 1))),
 oM 10 9,oF 10 11 (.load true 7 (tT 2)),oF 10 12 (kC 68 [(tT 11)]),oF 10 13 (.bin .neq .num (tT 12) (kI 0)),oO 14 (.pick (tT 10) kT (tT 13))]) (.cond (tT 14) (sQ (.region [oO 4 (.mov (.const nS))]) .ret) .skip)) (sQ (.region [oO 5 (.mov (.const nS))]) (sQ (sQ (.region [oO 6 (.mov (kI 1))]) (.block 0 (.loop (sQ (sQ (.region [oM 15 6,
 oO 16 (.load true 4 (tT 3)),oO 17 (kC 52 [(tT 16)]),oO 18 (.bin .leq .num (tT 15) (tT 17))]) (.cond (tT 18) .skip (.exit 0))) (sQ (.block 1 (sQ (.draw [⟨0,oO 21 (.faddr 3 (tT 2)),0,0,false⟩,⟨1,oO 22 (.load true 4 (tT 21)),
 1,0,false⟩,⟨2,oO 23 (.load true 4 (tT 3)),0,0,false⟩,⟨3,oM 24 6,0,0,false⟩,⟨4,oO 25 (kC 14 [(tT 23),(tT 24)]),12,0,false⟩,⟨5,oO 26 (kC 33 [(tT 22),(tT 25),(.const nS)]),31,1,false⟩,⟨6,oO 27 (.una .not (tT 26)),
 63,1,false⟩]) (.cond (tT 27) (.region [oM 28 5,oM 29 6,oO 30 (.bslice [(.int .i64 0)] 1 [(0,(tT 29))]),oO 31 (.append [(.int .i64 0)] 8 (tT 28) (tT 30)),oM 5 31]) .skip))) (.region [oM 19 6,oO 20 (.bin .add .num (tT 19) (kI 1)),
 oM 6 20])))))) (sQ (.region [oM 32 5,oM 4 32]) .ret)))))
theorem ok28 : FnOk Tryz.prog 28 33 ir28 [.tmp 4] := fnOk_of mixed Tryz.func28 (by kernel_rfl) Tryz.ntmps28 (by kernel_rfl) (by kernel_rfl)

def ir29 : ACode := (sQ (.region [oO 2 (.mov (.const nS))]) (sQ (.region [oO 3 (.mov (.const nS))]) (sQ (sQ (.region [oM 6 0,oO 7 (.len (tT 6)),oO 8 (.mov (kI 0))]) (.block 0 (.loop (sQ (.region [oO 9 (.bin .lss .num (tT 8) (tT 7))]) (sQ (.cond (tT 9) .skip (.exit 0)) (sQ (.block 1 (sQ (.region [oO 10 (.iaddr 7 (tT 6) (tT 8)),
 oO 11 (.load true 7 (tT 10)),⟨(some 5),.alloc [(.bool false),(.int .i64 0),(.string ⟨#[]⟩),(.int .i64 0),(.int .i64 0),nS,nS],none⟩,⟨none,.store 7 (tT 5) (tT 11),none⟩]) (.draw [⟨0,oM 12 3,0,0,false⟩,⟨1,
 oO 13 (.faddr 0 (tT 5)),0,0,false⟩,⟨2,oO 14 (.load false 1 (tT 13)),2,0,false⟩,⟨3,oO 15 (.faddr 1 (tT 5)),0,0,false⟩,⟨4,oO 16 (.load false 1 (tT 15)),8,0,false⟩,⟨5,oO 17 (.conv .u8 (tT 16)),24,0,false⟩,
 ⟨6,oO 18 (.faddr 2 (tT 5)),0,0,false⟩,⟨7,oO 19 (.load false 1 (tT 18)),64,0,false⟩,⟨8,oO 20 (.faddr 3 (tT 5)),0,0,false⟩,⟨9,oO 21 (.load true 4 (tT 20)),256,0,false⟩,⟨10,oO 22 (kC 69 [(tT 21)]),768,0,false⟩,
 ⟨11,⟨(some 23),.build [(.bool false),(.int .u8 0),(.string ⟨#[]⟩),(.int .u8 0),(.int .i64 0),nS,nS] [(0,1,(tT 14)),(1,1,(tT 17)),(2,1,(tT 19)),(3,4,(tT 22))],none⟩,2046,1,false⟩,⟨12,⟨(some 24),.bslice [(.bool false),
 (.int .u8 0),(.string ⟨#[]⟩),(.int .u8 0),(.int .i64 0),nS,nS] 1 [(0,(tT 23))],none⟩,4094,1,false⟩,⟨13,⟨(some 25),.append [(.bool false),(.int .u8 0),(.string ⟨#[]⟩),(.int .u8 0),(.int .i64 0),nS,nS] 88 (tT 12) (tT 24),
 none⟩,8191,1,false⟩,⟨14,oM 3 25,16383,1,false⟩]))) (.region [oO 26 (.bin .add .num (tT 8) (kI 1)),oM 8 26]))))))) (sQ (.region [oM 27 3,oM 2 27]) .ret))))
theorem ok29 : FnOk Tryz.prog 29 28 ir29 [.tmp 2] := fnOk_of mixed Tryz.func29 (by kernel_rfl) Tryz.ntmps29 (by kernel_rfl) (by kernel_rfl)

def ir30 : ACode := (sQ (.region [oO 2 (.box (tT 0)),oO 3 (.box (tT 1)),oO 4 (.mov (.const nS))]) (sQ (.region [oO 5 (.mov (.const nS))]) (sQ (sQ (.region [oO 7 (.faddr 1 (tT 2)),oO 8 (.load false 1 (tT 7)),
 oO 9 (.bin .neq .num (tT 8) (kI 1)),oM 10 9,oF 10 11 (.load true 7 (tT 2)),oF 10 12 (kC 70 [(tT 11)]),oF 10 13 (.bin .neq .num (tT 12) (kI 0)),oO 14 (.pick (tT 10) kT (tT 13))]) (.cond (tT 14) (sQ (.region [oO 4 (.mov (.const nS))]) .ret) .skip)) (sQ (sQ (.region [oO 6 (.mov (kI 1))]) (.block 0 (.loop (sQ (sQ (.region [oM 15 6,
 oO 16 (.faddr 2 (tT 3)),oO 17 (.load false 1 (tT 16)),oO 18 (.bin .leq .num (tT 15) (tT 17)),oM 19 18,oT 19 20 (.mov (tT 6)),oT 19 21 (.bin .leq .num (tT 20) (kI 256)),oO 22 (.pick (tT 19) (tT 21) kF)]) (.cond (tT 22) .skip (.exit 0))) (sQ (.block 1 (sQ (.draw [⟨0,
 oO 25 (.faddr 3 (tT 2)),0,0,false⟩,⟨1,oO 26 (.load true 4 (tT 25)),1,0,false⟩,⟨2,oO 27 (.load true 4 (tT 3)),0,0,false⟩,⟨3,oM 28 6,0,0,false⟩,⟨4,oO 29 (kC 22 [(tT 27),(tT 28)]),12,0,false⟩,⟨5,oO 30 (kC 71 [(tT 26),
 (tT 29),(.const nS)]),31,1,false⟩,⟨6,oO 31 (.una .not (tT 30)),63,1,false⟩]) (.cond (tT 31) (.region [oM 32 5,oM 33 6,oO 34 (.bslice [(.int .i64 0)] 1 [(0,(tT 33))]),oO 35 (.append [(.int .i64 0)] 8 (tT 32) (tT 34)),
 oM 5 35]) .skip))) (.region [oM 23 6,oO 24 (.bin .add .num (tT 23) (kI 1)),oM 6 24])))))) (sQ (.region [oM 36 5,oM 4 36]) .ret)))))
theorem ok30 : FnOk Tryz.prog 30 37 ir30 [.tmp 4] := fnOk_of mixed Tryz.func30 (by kernel_rfl) Tryz.ntmps30 (by kernel_rfl) (by kernel_rfl)

def ir31 : ACode := (sQ (.region [oO 0 (.mov (.const (.pointer none)))]) (sQ (.region [oO 1 (.build [nS] []),oO 2 (.box (tT 1)),oM 0 2]) .ret))
theorem ok31 : FnOk Tryz.prog 31 3 ir31 [.tmp 0] := fnOk_of mixed Tryz.func31 (by kernel_rfl) Tryz.ntmps31 (by kernel_rfl) (by kernel_rfl)

def ir33 : ACode := (sQ (.region [oO 3 (.box (tT 0)),oO 4 (.box (tT 1)),oO 6 (.mov kF)]) (sQ (.region [oO 10 (.load true 4 (tT 3)),oO 11 (kC 73 [(tT 10)]),oM 9 11,oO 12 (.extract (tT 9) 0),oO 13 (.extract (tT 9) 1),
 oM 7 12,oM 8 13]) (sQ (.region [oM 14 8,oO 15 (.bin .eql .num (tT 14) (kI 0)),oM 16 15,oT 16 17 (.mov (tT 7)),oT 16 18 (.bin .eql .num (tT 17) (.const (.int .u8 1))),oO 19 (.pick (tT 16) (tT 18) kF),oM 20 19,
 oT 20 21 (.load true 1 (tT 4)),oT 20 22 (.mov (tT 2)),oT 20 23 (.build [nS,nS] [(0,1,(tT 21)),(1,1,(tT 22))]),oT 20 24 (.load true 4 (tT 3)),oT 20 25 (kC 74 [(tT 23),(tT 24)]),oT 20 26 (.bin .eql .num (tT 25) (kI 1)),
 oO 27 (.pick (tT 20) (tT 26) kF),oM 6 27]) .ret)))
theorem ok33 : FnOk Tryz.prog 33 28 ir33 [.tmp 6] := fnOk_of mixed Tryz.func33 (by kernel_rfl) Tryz.ntmps33 (by kernel_rfl) (by kernel_rfl)

def ir35 : ACode := (sQ (.region [oO 4 (.mov kF)]) (sQ (sQ (.region [oM 6 0,oO 7 (.len (tT 6)),oM 8 1,oO 9 (.len (tT 8)),oO 10 (.bin .neq .num (tT 7) (tT 9))]) (.cond (tT 10) (sQ (.region [oO 4 (.mov kF)]) .ret) .skip)) (sQ (sQ (.region [oM 11 0,
 oO 12 (.len (tT 11)),oO 13 (.mov (kI 0))]) (.block 0 (.loop (sQ (.region [oO 14 (.bin .lss .num (tT 13) (tT 12))]) (sQ (.cond (tT 14) .skip (.exit 0)) (sQ (.block 1 (sQ (.region [oM 15 13,oM 5 15]) (sQ (.draw [⟨0,
 oM 16 0,0,0,false⟩,⟨1,oM 17 5,0,0,false⟩,⟨2,oO 18 (.iaddr 2 (tT 16) (tT 17)),3,0,false⟩,⟨3,oO 19 (.load true 2 (tT 18)),7,0,false⟩,⟨4,oM 20 1,0,0,false⟩,⟨5,oM 21 5,0,0,false⟩,⟨6,oO 22 (.iaddr 2 (tT 20) (tT 21)),
 48,0,false⟩,⟨7,oO 23 (.load true 2 (tT 22)),112,0,false⟩,⟨8,oO 24 (.bin .neq (.cells [0,0]) (tT 19) (tT 23)),255,1,false⟩]) (.cond (tT 24) (sQ (.region [oO 4 (.mov kF)]) .ret) .skip)))) (.region [oO 25 (.bin .add .num (tT 13) (kI 1)),
 oM 13 25]))))))) (sQ (.region [oO 4 (.mov kT)]) .ret))))
theorem ok35 : FnOk Tryz.prog 35 26 ir35 [.tmp 4] := fnOk_of mixed Tryz.func35 (by kernel_rfl) Tryz.ntmps35 (by kernel_rfl) (by kernel_rfl)

def ir36 : ACode := (sQ (.region [oO 3 (.box (tT 1)),oO 4 (.mov (.const nS))]) (sQ (.region [oO 5 (.mov (.const nS))]) (sQ (sQ (.region [oM 10 0,oO 11 (.len (tT 10)),oO 12 (.mov (kI 0))]) (.block 0 (.loop (sQ (.region [oO 13 (.bin .lss .num (tT 12) (tT 11))]) (sQ (.cond (tT 13) .skip (.exit 0)) (sQ (.block 1 (sQ (.region [oM 14 12,
 oO 15 (.iaddr 7 (tT 10) (tT 12)),oO 16 (.load true 7 (tT 15)),⟨(some 7),.alloc [(.bool false),(.int .u8 0),(.string ⟨#[]⟩),(.int .u8 0),(.int .i64 0),nS,nS],none⟩,oM 6 14,⟨none,.store 7 (tT 7) (tT 16),
 none⟩]) (sQ (sQ (.region [oO 17 (.load true 7 (tT 7)),oO 18 (.load true 4 (tT 3)),oO 19 (kC 28 [(tT 17),(tT 18)]),oO 20 (.len (tT 19)),oO 21 (.mov (kI 0))]) (.block 2 (.loop (sQ (.region [oO 22 (.bin .lss .num (tT 21) (tT 20))]) (sQ (.cond (tT 22) .skip (.exit 2)) (sQ (.block 3 (sQ (.region [oO 23 (.iaddr 1 (tT 19) (tT 21)),
 oO 24 (.load false 1 (tT 23)),oM 9 24]) (.region [oM 25 5,oM 26 6,oM 27 9,oO 28 (.build [(.int .i64 0),(.int .i64 0)] [(0,1,(tT 26)),(1,1,(tT 27))]),oO 29 (.bslice [(.int .i64 0),(.int .i64 0)] 1 [(0,(tT 28))]),
 oO 30 (.append [(.int .i64 0),(.int .i64 0)] 16 (tT 25) (tT 29)),oM 5 30]))) (.region [oO 31 (.bin .add .num (tT 21) (kI 1)),oM 21 31]))))))) (sQ (.draw [⟨0,oO 32 (.faddr 1 (tT 7)),0,1,false⟩,⟨1,oO 33 (.load false 1 (tT 32)),
 1,1,false⟩,⟨2,oO 34 (.bin .eql .num (tT 33) (.const (.int .u8 3))),3,1,false⟩,⟨3,oM 35 34,7,1,false⟩,⟨4,oT 35 36 (.load true 7 (tT 7)),15,1,false⟩,⟨5,oT 35 37 (kC 68 [(tT 36)]),31,1,false⟩,⟨6,oT 35 38 (.bin .eql .num (tT 37) (kI 0)),
 63,1,false⟩,⟨7,oO 39 (.pick (tT 35) (tT 38) kF),127,1,false⟩,⟨8,oM 40 39,255,1,false⟩,⟨9,oT 40 41 (.faddr 3 (tT 7)),511,0,false⟩,⟨10,oT 40 42 (.load true 4 (tT 41)),1023,0,false⟩,⟨11,oT 40 43 (.build [nS] []),
 511,0,false⟩,⟨12,oT 40 44 (.load true 4 (tT 3)),511,0,false⟩,⟨13,oT 40 45 (kC 24 [(tT 44)]),4607,0,false⟩,⟨14,oT 40 46 (kC 33 [(tT 42),(tT 43),(tT 45)]),16383,1,false⟩,⟨15,oT 40 47 (.una .not (tT 46)),
 32767,1,false⟩,⟨16,oO 48 (.pick (tT 40) (tT 47) kF),65535,1,false⟩]) (.cond (tT 48) (.region [oM 49 5,oM 50 6,oO 51 (.build [(.int .i64 0),(.int .i64 0)] [(0,1,(tT 50)),(1,1,(kI 0))]),oO 52 (.bslice [(.int .i64 0),
 (.int .i64 0)] 1 [(0,(tT 51))]),oO 53 (.append [(.int .i64 0),(.int .i64 0)] 16 (tT 49) (tT 52)),oM 5 53]) .skip))))) (.region [oO 54 (.bin .add .num (tT 12) (kI 1)),oM 12 54]))))))) (sQ (.region [oM 55 5,
 oM 4 55]) .ret))))
theorem ok36 : FnOk Tryz.prog 36 56 ir36 [.tmp 4] := fnOk_of mixed Tryz.func36 (by kernel_rfl) Tryz.ntmps36 (by kernel_rfl) (by kernel_rfl)

def ir37 : ACode := (sQ (.region [oO 3 (.box (tT 1)),oO 4 (.mov (.const nS))]) (sQ (.region [oO 5 (.mov (.const nS))]) (sQ (sQ (.region [oM 10 0,oO 11 (.len (tT 10)),oO 12 (.mov (kI 0))]) (.block 0 (.loop (sQ (.region [oO 13 (.bin .lss .num (tT 12) (tT 11))]) (sQ (.cond (tT 13) .skip (.exit 0)) (sQ (.block 1 (sQ (.region [oM 14 12,
 oO 15 (.iaddr 7 (tT 10) (tT 12)),oO 16 (.load true 7 (tT 15)),⟨(some 7),.alloc [(.bool false),(.int .i64 0),(.string ⟨#[]⟩),(.int .i64 0),(.int .i64 0),nS,nS],none⟩,oM 6 14,⟨none,.store 7 (tT 7) (tT 16),
 none⟩]) (sQ (sQ (.region [oO 17 (.load true 7 (tT 7)),oO 18 (.load true 4 (tT 3)),oO 19 (kC 30 [(tT 17),(tT 18)]),oO 20 (.len (tT 19)),oO 21 (.mov (kI 0))]) (.block 2 (.loop (sQ (.region [oO 22 (.bin .lss .num (tT 21) (tT 20))]) (sQ (.cond (tT 22) .skip (.exit 2)) (sQ (.block 3 (sQ (.region [oO 23 (.iaddr 1 (tT 19) (tT 21)),
 oO 24 (.load false 1 (tT 23)),oM 9 24]) (.region [oM 25 5,oM 26 6,oM 27 9,oO 28 (.build [(.int .i64 0),(.int .i64 0)] [(0,1,(tT 26)),(1,1,(tT 27))]),oO 29 (.bslice [(.int .i64 0),(.int .i64 0)] 1 [(0,(tT 28))]),
 oO 30 (.append [(.int .i64 0),(.int .i64 0)] 16 (tT 25) (tT 29)),oM 5 30]))) (.region [oO 31 (.bin .add .num (tT 21) (kI 1)),oM 21 31]))))))) (sQ (.draw [⟨0,oO 32 (.faddr 1 (tT 7)),0,1,false⟩,⟨1,oO 33 (.load false 1 (tT 32)),
 1,1,false⟩,⟨2,oO 34 (.bin .eql .num (tT 33) (kI 3)),3,1,false⟩,⟨3,oM 35 34,7,1,false⟩,⟨4,oT 35 36 (.load true 7 (tT 7)),15,1,false⟩,⟨5,oT 35 37 (kC 70 [(tT 36)]),31,1,false⟩,⟨6,oT 35 38 (.bin .eql .num (tT 37) (kI 0)),
 63,1,false⟩,⟨7,oO 39 (.pick (tT 35) (tT 38) kF),127,1,false⟩,⟨8,oM 40 39,255,1,false⟩,⟨9,oT 40 41 (.faddr 3 (tT 7)),511,0,false⟩,⟨10,oT 40 42 (.load true 4 (tT 41)),1023,0,false⟩,⟨11,oT 40 43 (.load true 4 (tT 3)),
 511,0,false⟩,⟨12,oT 40 44 (kC 25 [(tT 43)]),2559,0,false⟩,⟨13,oT 40 45 (kC 71 [(tT 42),(.const (.int .u64 0)),(tT 44)]),8191,1,false⟩,⟨14,oT 40 46 (.una .not (tT 45)),16383,1,false⟩,⟨15,oO 47 (.pick (tT 40) (tT 46) kF),
 32767,1,false⟩]) (.cond (tT 47) (.region [oM 48 5,oM 49 6,oO 50 (.build [(.int .i64 0),(.int .i64 0)] [(0,1,(tT 49)),(1,1,(kI 0))]),oO 51 (.bslice [(.int .i64 0),(.int .i64 0)] 1 [(0,(tT 50))]),oO 52 (.append [(.int .i64 0),
 (.int .i64 0)] 16 (tT 48) (tT 51)),oM 5 52]) .skip))))) (.region [oO 53 (.bin .add .num (tT 12) (kI 1)),oM 12 53]))))))) (sQ (.region [oM 54 5,oM 4 54]) .ret))))
theorem ok37 : FnOk Tryz.prog 37 55 ir37 [.tmp 4] := fnOk_of mixed Tryz.func37 (by kernel_rfl) Tryz.ntmps37 (by kernel_rfl) (by kernel_rfl)

def ir38 : ACode := (sQ (.region [oO 3 (.box (tT 0)),oO 4 (.box (tT 1)),oO 5 (.box (tT 2)),oO 6 (.mov (.const nS))]) (sQ (.region [oO 8 (.load false 1 (tT 3)),oO 9 (.load true 4 (tT 4)),oO 10 (kC 36 [(tT 8),
 (tT 9)]),oO 7 (.alloc [nS]),⟨none,.store 1 (tT 7) (tT 10),none⟩]) (sQ (.region [oO 11 (.load false 1 (tT 3)),oO 12 (.load true 4 (tT 5)),oO 13 (kC 36 [(tT 11),(tT 12)]),oO 14 (.mkfn 77 [(tT 3),(tT 7)]),
 oO 15 (kC 76 [(tT 13),(tT 14)]),oM 6 15]) .ret)))
theorem ok38 : FnOk Tryz.prog 38 16 ir38 [.tmp 6] := fnOk_of mixed Tryz.func38 (by kernel_rfl) Tryz.ntmps38 (by kernel_rfl) (by kernel_rfl)

def ir39 : ACode := (sQ (.region [oO 4 (.box (tT 1)),oO 5 (.box (tT 2)),oO 6 (.mov (.const nS))]) (sQ (.region [oO 7 (.mov (.const nS))]) (sQ (.region [oM 11 0,oO 12 (.load true 4 (tT 4)),oO 13 (kC 37 [(tT 11),
 (tT 12)]),oM 8 13]) (sQ (sQ (.region [oM 14 0,oO 15 (.load true 4 (tT 5)),oO 16 (kC 37 [(tT 14),(tT 15)]),oO 17 (.len (tT 16)),oO 18 (.mov (kI 0))]) (.block 0 (.loop (sQ (.region [oO 19 (.bin .lss .num (tT 18) (tT 17))]) (sQ (.cond (tT 19) .skip (.exit 0)) (sQ (.block 1 (sQ (.region [oO 20 (.iaddr 2 (tT 16) (tT 18)),
 oO 21 (.load true 2 (tT 20)),oO 10 (.alloc [(.int .i64 0),(.int .i64 0)]),⟨none,.store 2 (tT 10) (tT 21),none⟩]) (sQ (.region [oM 22 0,oO 23 (.faddr 0 (tT 10)),oO 24 (.load false 1 (tT 23)),oO 25 (.iaddr 7 (tT 22) (tT 24)),
 oO 26 (.faddr 0 (tT 25)),oO 27 (.load false 1 (tT 26)),oM 28 27,oT 28 29 (.mov (tT 8)),oT 28 30 (.load true 2 (tT 10)),oT 28 31 (kC 79 [(tT 29),(tT 30)]),oT 28 32 (.una .not (tT 31)),oO 33 (.pick (tT 28) (tT 32) kF)]) (.cond (tT 33) (.region [oM 34 7,
 oO 35 (.load true 2 (tT 10)),oO 36 (.bslice [(.int .i64 0),(.int .i64 0)] 1 [(0,(tT 35))]),oO 37 (.append [(.int .i64 0),(.int .i64 0)] 16 (tT 34) (tT 36)),oM 7 37]) .skip)))) (.region [oO 38 (.bin .add .num (tT 18) (kI 1)),
 oM 18 38]))))))) (sQ (.region [oM 39 7,oM 6 39]) .ret)))))
theorem ok39 : FnOk Tryz.prog 39 40 ir39 [.tmp 6] := fnOk_of mixed Tryz.func39 (by kernel_rfl) Tryz.ntmps39 (by kernel_rfl) (by kernel_rfl)

def ir44 : ACode := (sQ (.region [oO 0 (.mov (.const nS))]) (sQ (.region [oO 1 (.mov (.func 82))]) (sQ (.region [oO 2 (.mov (.func 83))]) (sQ (.region [oO 3 (.mov (.func 84))]) (sQ (.region [oM 5 2,oO 6 (.call (tT 5) [(kI 1)]),
 oM 7 2,oO 8 (.call (tT 7) [(kI 2)]),oO 9 (.bslice [(.int .u8 0),(.int .i64 0),nS,nS] 2 [(0,(tT 6)),(1,(tT 8))]),oO 10 (.build [(.int .u8 0),(.int .i64 0),nS,nS] [(0,1,(.const (.int .u8 16))),(3,1,(tT 9))]),
 oO 4 (.alloc [(.int .u8 0),(.int .i64 0),nS,nS]),⟨none,.store 4 (tT 4) (tT 10),none⟩]) (sQ (.draw [⟨0,oO 11 (.bslice [(.int .i64 0)] 2 [(0,(kI 1)),(1,(kI 2))]),0,0,false⟩,⟨1,oO 12 (.build [(.int .u8 0),
 (.int .i64 0),nS,nS] [(0,1,(.const (.int .u8 5))),(2,1,(tT 11))]),1,0,false⟩,⟨2,oM 13 1,0,0,false⟩,⟨3,oO 14 (.call (tT 13) [(kI 1)]),4,0,false⟩,⟨4,oO 15 (.bslice [(.int .u8 0),(.int .i64 0),nS,nS] 2 [(0,
 (tT 12)),(1,(tT 14))]),15,0,false⟩,⟨5,oO 16 (.build [(.int .u8 0),(.int .i64 0),nS,nS] [(0,1,(.const (.int .u8 11))),(3,1,(tT 15))]),31,0,false⟩,⟨6,oM 17 3,0,0,false⟩,⟨7,oO 18 (.call (tT 17) [(kI 1)]),
 76,0,false⟩,⟨8,oM 19 3,0,0,false⟩,⟨9,oO 20 (.call (tT 19) [(kI 2)]),460,0,false⟩,⟨10,oO 21 (.bslice [(.int .u8 0),(.int .i64 0),nS,nS] 2 [(0,(tT 18)),(1,(tT 20))]),972,0,false⟩,⟨11,oO 22 (.build [(.int .u8 0),
 (.int .i64 0),nS,nS] [(0,1,(.const (.int .u8 10))),(3,1,(tT 21))]),1996,0,false⟩,⟨12,oO 23 (.load true 4 (tT 4)),0,1,false⟩,⟨13,oM 24 1,0,0,false⟩,⟨14,oO 25 (.call (tT 24) [(kI 3)]),9164,0,false⟩,⟨15,oO 26 (.bslice [(.int .u8 0),
 (.int .i64 0),nS,nS] 2 [(0,(tT 23)),(1,(tT 25))]),29644,1,false⟩,⟨16,oO 27 (.build [(.int .u8 0),(.int .i64 0),nS,nS] [(0,1,(.const (.int .u8 12))),(3,1,(tT 26))]),62412,1,false⟩,⟨17,oO 28 (.bslice [(.int .u8 0),
 (.int .i64 0),nS,nS] 3 [(0,(tT 16)),(1,(tT 22)),(2,(tT 27))]),131071,1,false⟩,⟨18,oM 0 28,262143,1,false⟩]) .ret))))))
theorem ok44 : FnOk Tryz.prog 44 29 ir44 [.tmp 0] := fnOk_of mixed Tryz.func44 (by kernel_rfl) Tryz.ntmps44 (by kernel_rfl) (by kernel_rfl)

def ir45 : ACode := (sQ (.region [oO 2 (.alloc [nS])]) (sQ (.region [oO 3 (.mov (.const (.int .i64 (-1))))]) (sQ (sQ (.region [oM 9 0,oO 10 (.len (tT 9)),oO 11 (.mov (kI 0))]) (.block 0 (.loop (sQ (.region [oO 12 (.bin .lss .num (tT 11) (tT 10))]) (sQ (.cond (tT 12) .skip (.exit 0)) (sQ (.block 1 (sQ (.region [oO 13 (.iaddr 1 (tT 9) (tT 11)),
 oO 14 (.load false 1 (tT 13)),oM 5 14]) (sQ (.region [oM 15 5,oO 16 (.bin .leq .num (tT 15) (kI 4095))]) (.cond (tT 16) (.region [oM 17 3,oM 18 5,oO 19 (.mx (tT 17) (tT 18)),oM 3 19]) .skip)))) (.region [oO 20 (.bin .add .num (tT 11) (kI 1)),
 oM 11 20]))))))) (sQ (sQ (.region [oM 21 3,oO 22 (.bin .lss .num (tT 21) (kI 0))]) (.cond (tT 22) (sQ (.region [oO 23 (.build [nS] []),⟨none,.store 1 (tT 2) (tT 23),none⟩]) .ret) .skip)) (sQ (.region [oM 24 3,
 oO 25 (.bin .quo .num (tT 24) (kI 64)),oO 26 (.bin .add .num (tT 25) (kI 1)),oO 27 (.mslice [(.int .u64 0)] 8 (tT 26) (tT 26)),oM 6 27]) (sQ (sQ (.region [oM 28 0,oO 29 (.len (tT 28)),oO 30 (.mov (kI 0))]) (.block 2 (.loop (sQ (.region [oO 31 (.bin .lss .num (tT 30) (tT 29))]) (sQ (.cond (tT 31) .skip (.exit 2)) (sQ (.block 3 (sQ (.region [oO 32 (.iaddr 1 (tT 28) (tT 30)),
 oO 33 (.load false 1 (tT 32)),oM 8 33]) (sQ (.region [oM 34 8,oO 35 (.bin .geq .num (tT 34) (kI 0)),oM 36 35,oT 36 37 (.mov (tT 8)),oT 36 38 (.mov (tT 3)),oT 36 39 (.bin .leq .num (tT 37) (tT 38)),oO 40 (.pick (tT 36) (tT 39) kF)]) (.cond (tT 40) (.draw [⟨0,
 oM 41 6,0,1,false⟩,⟨1,oM 42 8,0,1,false⟩,⟨2,oO 43 (.bin .quo .num (tT 42) (kI 64)),2,1,false⟩,⟨3,oO 44 (.iaddr 1 (tT 41) (tT 43)),7,1,false⟩,⟨4,oO 45 (.load false 1 (tT 44)),15,1,false⟩,⟨5,oM 46 8,0,0,
 false⟩,⟨6,oO 47 (.bin .rem .num (tT 46) (kI 64)),32,0,false⟩,⟨7,oO 48 (.bin .shl .num (.const (.int .u64 1)) (tT 47)),96,0,false⟩,⟨8,oO 49 (.bin .or .num (tT 45) (tT 48)),255,1,false⟩,⟨9,oO 50 (.iaddr 1 (tT 41) (tT 43)),
 511,1,false⟩,⟨10,⟨none,.store 1 (tT 50) (tT 49),none⟩,1023,1,false⟩]) .skip)))) (.region [oO 51 (.bin .add .num (tT 30) (kI 1)),oM 30 51]))))))) (sQ (.region [oM 52 6,oO 53 (kC 85 [(tT 52)]),⟨none,.store 1 (tT 2) (tT 53),
 none⟩]) .ret)))))))
theorem ok45 : FnOk Tryz.prog 45 54 ir45 [.cell 2 true 1] := fnOk_of mixed Tryz.func45 (by kernel_rfl) Tryz.ntmps45 (by kernel_rfl) (by kernel_rfl)

def ir46 : ACode := (sQ (.region [oO 1 (.box (tT 0)),oO 2 (.alloc [nS,nS,(.int .i64 0),(.int .i64 0)])]) (sQ (.draw [⟨0,oO 3 (.faddr 0 (tT 1)),0,0,false⟩,⟨1,oO 4 (.load false 1 (tT 3)),1,0,false⟩,⟨2,oO 5 (kC 86 [(tT 4)]),
 3,0,false⟩,⟨3,oO 6 (.faddr 1 (tT 1)),0,0,false⟩,⟨4,oO 7 (.load false 1 (tT 6)),8,0,false⟩,⟨5,oO 8 (kC 72 [(tT 7)]),31,0,false⟩,⟨6,oO 9 (.faddr 2 (tT 1)),0,0,false⟩,⟨7,oO 10 (.load false 1 (tT 9)),64,0,
 false⟩,⟨8,oO 11 (.bin .rem .num (tT 10) (.const (.int .u8 6))),192,0,false⟩,⟨9,oO 12 (.conv .i64 (tT 11)),448,0,false⟩,⟨10,oO 13 (.faddr 3 (tT 1)),0,0,false⟩,⟨11,oO 14 (.load false 1 (tT 13)),1024,0,false⟩,
 ⟨12,oO 15 (.bin .rem .num (tT 14) (.const (.int .u8 24))),3072,0,false⟩,⟨13,oO 16 (.conv .i64 (tT 15)),7168,0,false⟩,⟨14,oO 17 (.build [nS,nS,(.int .i64 0),(.int .i64 0)] [(0,1,(tT 5)),(1,1,(tT 8)),(2,
 1,(tT 12)),(3,1,(tT 16))]),16383,1,false⟩,⟨15,⟨none,.store 4 (tT 2) (tT 17),none⟩,32767,1,false⟩]) .ret))
theorem ok46 : FnOk Tryz.prog 46 18 ir46 [.cell 2 true 4] := fnOk_of mixed Tryz.func46 (by kernel_rfl) Tryz.ntmps46 (by kernel_rfl) (by kernel_rfl)

def ir47 : ACode := (sQ (.region [oO 0 (.mov (.const (.pointer none)))]) (sQ (.region [oO 4 (kC 87 [(kI 64),(.const nS)]),oM 3 4,oO 5 (.extract (tT 3) 0),oO 6 (.extract (tT 3) 1),oM 1 5,oM 2 6]) (sQ (.region [oM 7 1,
 oO 8 (.build [(.pointer none)] [(0,1,(tT 7))]),oO 9 (.box (tT 8)),oM 0 9]) .ret)))
theorem ok47 : FnOk Tryz.prog 47 10 ir47 [.tmp 0] := fnOk_of mixed Tryz.func47 (by kernel_rfl) Tryz.ntmps47 (by kernel_rfl) (by kernel_rfl)

def ir48 : ACode := (sQ (.region [oO 6 (.mov (.const (.pointer none))),oO 7 (.mov (kI 0))]) (sQ (sQ (.region [oM 10 0,oO 11 (.bin .eql .ptr (tT 10) (.const (.pointer none))),oM 12 11,oF 12 13 (.mov (tT 1)),
 oF 12 14 (kC 56 [(tT 13)]),oF 12 15 (.una .not (tT 14)),oO 16 (.pick (tT 12) kT (tT 15)),oM 17 16,oF 17 18 (.mov (tT 2)),oF 17 19 (kC 56 [(tT 18)]),oF 17 20 (.una .not (tT 19)),oO 21 (.pick (tT 17) kT (tT 20)),
 oM 22 21,oF 22 23 (.mov (tT 1)),oF 22 24 (.mov (tT 2)),oF 22 25 (.bin .eql .num (tT 23) (tT 24)),oO 26 (.pick (tT 22) kT (tT 25))]) (.cond (tT 26) (sQ (.region [oO 6 (.mov (.const (.pointer none))),oO 7 (.mov (kI 1))]) .ret) .skip)) (sQ (.region [oM 28 0,
 oO 29 (.nilck (tT 28)),oO 30 (.faddr 0 (tT 29)),oO 31 (.load false 1 (tT 30)),oM 32 1,oM 33 2,oO 34 (kC 88 [(tT 31),(tT 32),(tT 33)]),oM 27 34,oO 35 (.extract (tT 27) 0),oO 36 (.extract (tT 27) 1),oM 8 35,
 oM 9 36]) (sQ (sQ (.region [oM 37 9,oO 38 (.bin .neq .num (tT 37) (kI 0))]) (.cond (tT 38) (sQ (.region [oM 39 9,oO 6 (.mov (.const (.pointer none))),oM 7 39]) .ret) .skip)) (sQ (.region [oM 40 8,oO 41 (.build [(.pointer none)] [(0,
 1,(tT 40))]),oO 42 (.box (tT 41)),oM 6 42,oO 7 (.mov (kI 0))]) .ret)))))
theorem ok48 : FnOk Tryz.prog 48 43 ir48 [.tmp 6, .tmp 7] := fnOk_of mixed Tryz.func48 (by kernel_rfl) Tryz.ntmps48 (by kernel_rfl) (by kernel_rfl)

def ir49 : ACode := (sQ (.region [oO 2 (.mov (.const nS))]) (sQ (sQ (.region [oM 3 0,oO 4 (.isnil false (tT 3))]) (.cond (tT 4) (sQ (.region [oO 2 (.mov (.const nS))]) .ret) .skip)) (sQ (.region [oO 5 (.bslice [(.int .i64 0),
 (.int .i64 0),(.int .i64 0)] 0 []),oM 6 0,oO 7 (.append [(.int .i64 0),(.int .i64 0),(.int .i64 0)] 24 (tT 5) (tT 6)),oM 2 7]) .ret)))
theorem ok49 : FnOk Tryz.prog 49 8 ir49 [.tmp 2] := fnOk_of mixed Tryz.func49 (by kernel_rfl) Tryz.ntmps49 (by kernel_rfl) (by kernel_rfl)

def ir50 : ACode := (sQ (.region [oO 6 (.mov (kI 0)),oO 7 (.mov kF)]) (sQ (.region [oM 8 0,oO 9 (.nilck (tT 8)),oO 10 (.faddr 0 (tT 9)),oO 11 (.load false 1 (tT 10)),oM 12 1,oM 13 2,oO 14 (.build [(.int .i64 0),
 (.int .i64 0),(.int .i64 0)] [(0,1,(tT 12)),(1,1,(tT 13))]),oO 15 (kC 89 [(tT 11),(tT 14),(.func 90)]),oO 16 (.extract (tT 15) 0),oO 17 (.extract (tT 15) 1),oM 6 16,oM 7 17]) .ret))
theorem ok50 : FnOk Tryz.prog 50 18 ir50 [.tmp 6, .tmp 7] := fnOk_of mixed Tryz.func50 (by kernel_rfl) Tryz.ntmps50 (by kernel_rfl) (by kernel_rfl)

def ir51 : ACode := (sQ (.region [oO 6 (.mov (.const nS))]) (sQ (.region [oM 10 0,oM 11 1,oO 12 (.slc 3 (tT 10) (some (tT 11)) none none)]) (sQ (.region [oM 13 2,oO 14 (.len (tT 13)),oM 7 14]) (sQ (sQ (.region [oM 15 7,
 oO 16 (.bin .eql .num (tT 15) (kI 0))]) (.cond (tT 16) (sQ (.region [oM 17 0,oM 6 17]) .ret) .skip)) (sQ (.region [oM 18 0,oO 19 (.len (tT 18)),oM 8 19]) (sQ (sQ (.region [oM 20 1,oM 21 8,oO 22 (.bin .eql .num (tT 20) (tT 21))]) (.cond (tT 22) (sQ (.region [oM 23 0,
 oM 24 2,oO 25 (.append [(.int .i64 0),(.int .i64 0),(.int .i64 0)] 24 (tT 23) (tT 24)),oM 6 25]) .ret) .skip)) (sQ (sQ (.region [oM 26 8,oM 27 7,oO 28 (.bin .add .num (tT 26) (tT 27)),oM 29 0,oO 30 (.cap (tT 29)),
 oO 31 (.bin .gtr .num (tT 28) (tT 30))]) (.cond (tT 31) (sQ (.region [oM 32 0,oM 33 1,oO 34 (.slc 3 (tT 32) none (some (tT 33)) none),oM 35 8,oM 36 7,oO 37 (.bin .add .num (tT 35) (tT 36)),oM 38 1,oO 39 (.bin .sub .num (tT 37) (tT 38)),
 oO 40 (.appz [(.int .i64 0),(.int .i64 0),(.int .i64 0)] 24 (tT 34) (tT 39)),oM 9 40]) (sQ (.region [oM 41 9,oM 42 1,oO 43 (.slc 3 (tT 41) (some (tT 42)) none none),oM 44 2,oO 45 (.copy 3 (tT 43) (tT 44))]) (sQ (.draw [⟨0,
 oM 46 9,0,0,false⟩,⟨1,oM 47 1,0,0,false⟩,⟨2,oM 48 7,0,0,false⟩,⟨3,oO 49 (.bin .add .num (tT 47) (tT 48)),6,0,false⟩,⟨4,oO 50 (.slc 3 (tT 46) (some (tT 49)) none none),15,0,false⟩,⟨5,oM 51 0,0,0,false⟩,
 ⟨6,oM 52 1,0,0,false⟩,⟨7,oO 53 (.slc 3 (tT 51) (some (tT 52)) none none),96,0,false⟩,⟨8,oO 54 (.copy 3 (tT 50) (tT 53)),255,1,false⟩]) (sQ (.region [oM 55 9,oM 6 55]) .ret)))) .skip)) (sQ (.region [oM 56 0,
 oM 57 8,oM 58 7,oO 59 (.bin .add .num (tT 57) (tT 58)),oO 60 (.slc 3 (tT 56) none (some (tT 59)) none),oM 0 60]) (sQ (sQ (.region [oM 61 2,oM 62 0,oM 63 1,oM 64 7,oO 65 (.bin .add .num (tT 63) (tT 64)),
 oO 66 (.slc 3 (tT 62) (some (tT 65)) none none),oO 67 (kC 91 [(tT 61),(tT 66)]),oO 68 (.una .not (tT 67))]) (.cond (tT 68) (sQ (.draw [⟨0,oM 69 0,0,0,false⟩,⟨1,oM 70 1,0,0,false⟩,⟨2,oM 71 7,0,0,false⟩,
 ⟨3,oO 72 (.bin .add .num (tT 70) (tT 71)),6,0,false⟩,⟨4,oO 73 (.slc 3 (tT 69) (some (tT 72)) none none),15,0,false⟩,⟨5,oM 74 0,0,0,false⟩,⟨6,oM 75 1,0,0,false⟩,⟨7,oO 76 (.slc 3 (tT 74) (some (tT 75)) none none),
 96,0,false⟩,⟨8,oO 77 (.copy 3 (tT 73) (tT 76)),255,1,false⟩]) (sQ (.region [oM 78 0,oM 79 1,oO 80 (.slc 3 (tT 78) (some (tT 79)) none none),oM 81 2,oO 82 (.copy 3 (tT 80) (tT 81))]) (sQ (.region [oM 83 0,
 oM 6 83]) .ret))) .skip)) (sQ (.region [oM 84 0,oM 85 8,oO 86 (.slc 3 (tT 84) (some (tT 85)) none none),oM 87 2,oO 88 (.copy 3 (tT 86) (tT 87))]) (sQ (.region [oM 89 0,oM 90 1,oO 91 (.slc 3 (tT 89) (some (tT 90)) none none),
 oM 92 7,oO 93 (kC 92 [(tT 91),(tT 92)])]) (sQ (.region [oM 94 0,oM 6 94]) .ret))))))))))))
theorem ok51 : FnOk Tryz.prog 51 95 ir51 [.tmp 6] := fnOk_of mixed Tryz.func51 (by kernel_rfl) Tryz.ntmps51 (by kernel_rfl) (by kernel_rfl)

def ir52 : ACode := (sQ (.region [oO 1 (.box (tT 0)),oO 2 (.mov (kI 0))]) (sQ (.region [oO 3 (.faddr 2 (tT 1)),oO 4 (.load false 1 (tT 3)),oO 5 (.mx (tT 4) (kI 0)),oO 6 (.mn (tT 5) (kI 256)),oM 2 6]) .ret))
theorem ok52 : FnOk Tryz.prog 52 7 ir52 [.tmp 2] := fnOk_of mixed Tryz.func52 (by kernel_rfl) Tryz.ntmps52 (by kernel_rfl) (by kernel_rfl)

def ir53 : ACode := (sQ (.region [oO 2 (.box (tT 0)),oO 3 (.box (tT 1)),oO 4 (.alloc [nS])]) (sQ (.region [oO 5 (.alloc [nS])]) (sQ (sQ (.region [oO 7 (.load true 1 (tT 3)),oO 8 (kC 65 [(tT 7)])]) (.block 0 (.range (tT 8) [9] [(6,
 (tT 9))] (.block 1 (.draw [⟨0,oO 10 (.load true 1 (tT 5)),0,0,false⟩,⟨1,oO 11 (.load false 1 (tT 2)),0,0,false⟩,⟨2,oM 12 6,0,0,false⟩,⟨3,oO 13 (kC 16 [(tT 11),(tT 12)]),6,0,false⟩,⟨4,oO 14 (kC 15 [(tT 10),
 (tT 13)]),15,1,false⟩,⟨5,⟨none,.store 1 (tT 5) (tT 14),none⟩,31,1,false⟩]))))) (sQ (.region [oO 15 (.load true 1 (tT 5)),⟨none,.store 1 (tT 4) (tT 15),none⟩]) .ret))))
theorem ok53 : FnOk Tryz.prog 53 16 ir53 [.cell 4 true 1] := fnOk_of mixed Tryz.func53 (by kernel_rfl) Tryz.ntmps53 (by kernel_rfl) (by kernel_rfl)

def ir54 : ACode := (sQ (.region [oO 6 (.alloc [nS])]) (sQ (.region [oO 7 (.alloc [nS])]) (sQ (sQ (.region [oM 10 0,oO 11 (.bin .eql .ptr (tT 10) (.const (.pointer none)))]) (.cond (tT 11) (sQ (.region [oO 12 (.load true 1 (tT 7)),
 ⟨none,.store 1 (tT 6) (tT 12),none⟩]) .ret) .skip)) (sQ (sQ (.region [oM 13 0,oO 14 (.nilck (tT 13)),oO 15 (.faddr 0 (tT 14)),oO 16 (.load false 1 (tT 15)),oO 17 (.len (tT 16)),oO 18 (.mov (kI 0))]) (.block 0 (.loop (sQ (.region [oO 19 (.bin .lss .num (tT 18) (tT 17))]) (sQ (.cond (tT 19) .skip (.exit 0)) (sQ (.block 1 (sQ (.region [oO 20 (.iaddr 3 (tT 16) (tT 18)),
 oO 21 (.load true 3 (tT 20)),oO 9 (.alloc [(.int .i64 0),(.int .i64 0),(.int .i64 0)]),⟨none,.store 3 (tT 9) (tT 21),none⟩]) (sQ (.region [oO 22 (.faddr 0 (tT 9)),oO 23 (.load false 1 (tT 22)),oM 24 1,
 oO 25 (.bin .eql .num (tT 23) (tT 24)),oM 26 25,oT 26 27 (.load true 3 (tT 9)),oT 26 28 (.mov (tT 2)),oT 26 29 (kC 93 [(tT 27),(tT 28)]),oO 30 (.pick (tT 26) (tT 29) kF)]) (.cond (tT 30) (.region [oO 31 (.load true 1 (tT 7)),
 oO 32 (.faddr 1 (tT 9)),oO 33 (.load false 1 (tT 32)),oO 34 (kC 58 [(tT 31),(tT 33)]),⟨none,.store 1 (tT 7) (tT 34),none⟩]) .skip)))) (.region [oO 35 (.bin .add .num (tT 18) (kI 1)),oM 18 35]))))))) (sQ (.region [oO 36 (.load true 1 (tT 7)),
 ⟨none,.store 1 (tT 6) (tT 36),none⟩]) .ret)))))
theorem ok54 : FnOk Tryz.prog 54 37 ir54 [.cell 6 true 1] := fnOk_of mixed Tryz.func54 (by kernel_rfl) Tryz.ntmps54 (by kernel_rfl) (by kernel_rfl)

def ir55 : ACode := (sQ (.region [oO 2 (.box (tT 0)),oO 4 (.mov (.const (.int .u64 0)))]) (sQ (sQ (.region [oM 5 1,oO 6 (.faddr 0 (tT 2)),oO 7 (.load false 1 (tT 6)),oO 8 (.len (tT 7)),oO 9 (.bin .lss .num (tT 5) (tT 8))]) (.cond (tT 9) (sQ (.region [oO 10 (.faddr 0 (tT 2)),
 oO 11 (.load false 1 (tT 10)),oM 12 1,oO 13 (.iaddr 1 (tT 11) (tT 12)),oO 14 (.load false 1 (tT 13)),oM 4 14]) .ret) .skip)) (sQ (.region [oO 4 (.mov (.const (.int .u64 0)))]) .ret)))
theorem ok55 : FnOk Tryz.prog 55 15 ir55 [.tmp 4] := fnOk_of mixed Tryz.func55 (by kernel_rfl) Tryz.ntmps55 (by kernel_rfl) (by kernel_rfl)

def ir56 : ACode := (sQ (.region [oO 2 (.mov kF)]) (sQ (.region [oM 3 0,oO 4 (.bin .geq .num (tT 3) (kI 1)),oM 5 4,oT 5 6 (.mov (tT 0)),oT 5 7 (.bin .leq .num (tT 6) (kI 63)),oO 8 (.pick (tT 5) (tT 7) kF),
 oM 2 8]) .ret))
theorem ok56 : FnOk Tryz.prog 56 9 ir56 [.tmp 2] := fnOk_of mixed Tryz.func56 (by kernel_rfl) Tryz.ntmps56 (by kernel_rfl) (by kernel_rfl)

def ir57 : ACode := (sQ (.region [oO 4 (.alloc [nS])]) (sQ (sQ (.region [oM 5 0,oM 6 1,oO 7 (kC 94 [(tT 5),(tT 6)]),oO 8 (.una .not (tT 7))]) (.cond (tT 8) (sQ (.region [oO 9 (.build [nS] []),⟨none,.store 1 (tT 4) (tT 9),
 none⟩]) .ret) .skip)) (sQ (.region [oM 10 0,oO 11 (.nilck (tT 10)),oO 12 (.faddr 3 (tT 11)),oO 13 (.load false 1 (tT 12)),oM 14 1,oO 15 (.iaddr 1 (tT 13) (tT 14)),oO 16 (.load true 1 (tT 15)),⟨none,.store 1 (tT 4) (tT 16),
 none⟩]) .ret)))
theorem ok57 : FnOk Tryz.prog 57 17 ir57 [.cell 4 true 1] := fnOk_of mixed Tryz.func57 (by kernel_rfl) Tryz.ntmps57 (by kernel_rfl) (by kernel_rfl)

def ir58 : ACode := (sQ (.region [oO 2 (.box (tT 0)),oO 4 (.alloc [nS])]) (sQ (sQ (.region [oM 6 1,oO 7 (.bin .lss .num (tT 6) (kI 0)),oM 8 7,oF 8 9 (.mov (tT 1)),oF 8 10 (.bin .gtr .num (tT 9) (kI 4095)),
 oO 11 (.pick (tT 8) kT (tT 10)),oM 12 11,oF 12 13 (.load true 1 (tT 2)),oF 12 14 (.mov (tT 1)),oF 12 15 (kC 95 [(tT 13),(tT 14)]),oO 16 (.pick (tT 12) kT (tT 15))]) (.cond (tT 16) (sQ (.region [oO 17 (.load true 1 (tT 2)),
 ⟨none,.store 1 (tT 4) (tT 17),none⟩]) .ret) .skip)) (sQ (.region [oO 18 (.faddr 0 (tT 2)),oO 19 (.load false 1 (tT 18)),oO 20 (.len (tT 19)),oM 21 1,oO 22 (.bin .quo .num (tT 21) (kI 64)),oO 23 (.bin .add .num (tT 22) (kI 1)),
 oO 24 (.mx (tT 20) (tT 23)),oO 25 (.mslice [(.int .u64 0)] 8 (tT 24) (tT 24)),oM 5 25]) (sQ (.region [oM 26 5,oO 27 (.faddr 0 (tT 2)),oO 28 (.load false 1 (tT 27)),oO 29 (.copy 1 (tT 26) (tT 28))]) (sQ (.draw [⟨0,
 oM 30 5,0,1,false⟩,⟨1,oM 31 1,0,1,false⟩,⟨2,oO 32 (.bin .quo .num (tT 31) (kI 64)),2,1,false⟩,⟨3,oO 33 (.iaddr 1 (tT 30) (tT 32)),7,1,false⟩,⟨4,oO 34 (.load false 1 (tT 33)),15,1,false⟩,⟨5,oM 35 1,0,0,
 false⟩,⟨6,oO 36 (.bin .rem .num (tT 35) (kI 64)),32,0,false⟩,⟨7,oO 37 (.bin .shl .num (.const (.int .u64 1)) (tT 36)),96,0,false⟩,⟨8,oO 38 (.bin .or .num (tT 34) (tT 37)),255,1,false⟩,⟨9,oO 39 (.iaddr 1 (tT 30) (tT 32)),
 511,1,false⟩,⟨10,⟨none,.store 1 (tT 39) (tT 38),none⟩,1023,1,false⟩]) (sQ (.region [oM 40 5,oO 41 (.build [nS] [(0,1,(tT 40))]),⟨none,.store 1 (tT 4) (tT 41),none⟩]) .ret))))))
theorem ok58 : FnOk Tryz.prog 58 42 ir58 [.cell 4 true 1] := fnOk_of mixed Tryz.func58 (by kernel_rfl) Tryz.ntmps58 (by kernel_rfl) (by kernel_rfl)

def ir60 : ACode := (sQ (.region [oO 2 (.mov (.const nS))]) (sQ (sQ (.region [oM 3 0,oO 4 (.bin .eql .ptr (tT 3) (.const (.pointer none)))]) (.cond (tT 4) (sQ (.region [oO 2 (.mov (.const nS))]) .ret) .skip)) (sQ (.region [oM 5 0,
 oO 6 (.nilck (tT 5)),oO 7 (.faddr 1 (tT 6)),oO 8 (.load false 1 (tT 7)),oO 9 (kC 96 [(tT 8)]),oM 2 9]) .ret)))
theorem ok60 : FnOk Tryz.prog 60 10 ir60 [.tmp 2] := fnOk_of mixed Tryz.func60 (by kernel_rfl) Tryz.ntmps60 (by kernel_rfl) (by kernel_rfl)

def ir61 : ACode := (sQ (.region [oO 2 (.mov kF)]) (sQ (.region [oM 3 0,oO 4 (.bin .geq .num (tT 3) (kI 1)),oM 5 4,oT 5 6 (.mov (tT 0)),oT 5 7 (.bin .leq .num (tT 6) (kI 63)),oO 8 (.pick (tT 5) (tT 7) kF),
 oM 2 8]) .ret))
theorem ok61 : FnOk Tryz.prog 61 9 ir61 [.tmp 2] := fnOk_of mixed Tryz.func61 (by kernel_rfl) Tryz.ntmps61 (by kernel_rfl) (by kernel_rfl)

def ir62 : ACode := (sQ (.region [oO 4 (.mov (.const (.int .u64 0)))]) (sQ (sQ (.region [oM 9 1,oO 10 (kC 61 [(tT 9)]),oO 11 (.una .not (tT 10))]) (.cond (tT 11) (sQ (.region [oO 4 (.mov (.const (.int .u64 0)))]) .ret) .skip)) (sQ (.region [oM 12 1,
 oO 13 (.bin .shl .num (.const (.int .u64 1)) (tT 12)),oM 5 13]) (.block 0 (.loop (.block 1 (sQ (.region [oM 14 5,oM 6 14]) (sQ (sQ (.region [oM 15 0,oO 16 (.len (tT 15)),oO 17 (.mov (kI 0))]) (.block 2 (.loop (sQ (.region [oO 18 (.bin .lss .num (tT 17) (tT 16))]) (sQ (.cond (tT 18) .skip (.exit 2)) (sQ (.block 3 (sQ (.region [oO 19 (.iaddr 2 (tT 15) (tT 17)),
 oO 20 (.load true 2 (tT 19)),oO 8 (.alloc [(.int .i64 0),(.int .i64 0)]),⟨none,.store 2 (tT 8) (tT 20),none⟩]) (sQ (.region [oM 21 5,oO 22 (.iaddrA 2 1 (tT 8) (kI 0)),oO 23 (.load false 1 (tT 22)),oO 24 (.bin .shr .num (tT 21) (tT 23)),
 oO 25 (.bin .rem .num (tT 24) (.const (.int .u64 2))),oO 26 (.bin .eql .num (tT 25) (.const (.int .u64 1)))]) (.cond (tT 26) (.region [oM 27 6,oO 28 (.iaddrA 2 1 (tT 8) (kI 1)),oO 29 (.load false 1 (tT 28)),
 oO 30 (.bin .shl .num (.const (.int .u64 1)) (tT 29)),oO 31 (.bin .or .num (tT 27) (tT 30)),oM 6 31]) .skip)))) (.region [oO 32 (.bin .add .num (tT 17) (kI 1)),oM 17 32]))))))) (sQ (sQ (.region [oM 33 6,
 oM 34 5,oO 35 (.bin .eql .num (tT 33) (tT 34))]) (.cond (tT 35) (sQ (.region [oM 36 5,oM 4 36]) .ret) .skip)) (.region [oM 37 6,oM 5 37]))))))))))
theorem ok62 : FnOk Tryz.prog 62 38 ir62 [.tmp 4] := fnOk_of mixed Tryz.func62 (by kernel_rfl) Tryz.ntmps62 (by kernel_rfl) (by kernel_rfl)

def ir63 : ACode := (sQ (.region [oO 6 (.mov (.const nS))]) (sQ (.region [oO 7 (.mov (.const nS))]) (sQ (sQ (.region [oM 10 0,oO 11 (.len (tT 10)),oO 12 (.mov (kI 0))]) (.block 0 (.loop (sQ (.region [oO 13 (.bin .lss .num (tT 12) (tT 11))]) (sQ (.cond (tT 13) .skip (.exit 0)) (sQ (.block 1 (sQ (.region [oO 14 (.iaddr 3 (tT 10) (tT 12)),
 oO 15 (.load true 3 (tT 14)),oO 9 (.alloc [(.int .i64 0),(.int .i64 0),(.int .i64 0)]),⟨none,.store 3 (tT 9) (tT 15),none⟩]) (sQ (.region [oO 16 (.faddr 0 (tT 9)),oO 17 (.load false 1 (tT 16)),oM 18 1,
 oO 19 (.bin .eql .num (tT 17) (tT 18)),oM 20 19,oT 20 21 (.load true 3 (tT 9)),oT 20 22 (.mov (tT 2)),oT 20 23 (kC 97 [(tT 21),(tT 22)]),oO 24 (.pick (tT 20) (tT 23) kF)]) (.cond (tT 24) (.region [oM 25 7,
 oO 26 (.faddr 1 (tT 9)),oO 27 (.load false 1 (tT 26)),oO 28 (.bslice [(.int .i64 0)] 1 [(0,(tT 27))]),oO 29 (.append [(.int .i64 0)] 8 (tT 25) (tT 28)),oM 7 29]) .skip)))) (.region [oO 30 (.bin .add .num (tT 12) (kI 1)),
 oM 12 30]))))))) (sQ (.region [oM 31 7,oM 6 31]) .ret))))
theorem ok63 : FnOk Tryz.prog 63 32 ir63 [.tmp 6] := fnOk_of mixed Tryz.func63 (by kernel_rfl) Tryz.ntmps63 (by kernel_rfl) (by kernel_rfl)

def ir64 : ACode := (sQ (.region [oO 4 (.mov (.const (.int .u64 0)))]) (sQ (.region [oO 5 (.mov (.const (.int .u64 0)))]) (sQ (sQ (.region [oO 6 (.mov (kI 1))]) (.block 0 (.loop (sQ (sQ (.region [oM 7 6,
 oO 8 (.bin .lss .num (tT 7) (kI 64))]) (.cond (tT 8) .skip (.exit 0))) (sQ (.block 1 (sQ (.region [oM 11 1,oM 12 6,oO 13 (.bin .shr .num (tT 11) (tT 12)),oO 14 (.bin .rem .num (tT 13) (.const (.int .u64 2))),
 oO 15 (.bin .eql .num (tT 14) (.const (.int .u64 1)))]) (.cond (tT 15) (.region [oM 16 5,oM 17 0,oM 18 6,oO 19 (kC 62 [(tT 17),(tT 18)]),oO 20 (.bin .or .num (tT 16) (tT 19)),oM 5 20]) .skip))) (.region [oM 9 6,
 oO 10 (.bin .add .num (tT 9) (kI 1)),oM 6 10])))))) (sQ (.region [oM 21 5,oM 4 21]) .ret))))
theorem ok64 : FnOk Tryz.prog 64 22 ir64 [.tmp 4] := fnOk_of mixed Tryz.func64 (by kernel_rfl) Tryz.ntmps64 (by kernel_rfl) (by kernel_rfl)

def ir65 : ACode := (sQ (.region [oO 1 (.box (tT 0)),oO 2 (.mov (.const .nilFunc))]) (sQ (.region [oO 3 (.mkfn 98 [(tT 1)]),oM 2 3]) .ret))
theorem ok65 : FnOk Tryz.prog 65 4 ir65 [.tmp 2] := fnOk_of mixed Tryz.func65 (by kernel_rfl) Tryz.ntmps65 (by kernel_rfl) (by kernel_rfl)

def ir66 : ACode := (sQ (.region [oO 2 (.mov (.const nS))]) (sQ (.region [oO 3 (.mov (.const nS))]) (sQ (sQ (.region [oO 4 (.mov (kI 1))]) (.block 0 (.loop (sQ (sQ (.region [oM 5 4,oM 6 0,oO 7 (.bin .leq .num (tT 5) (tT 6))]) (.cond (tT 7) .skip (.exit 0))) (sQ (.block 1 (sQ (.region [oM 10 4,
 oO 11 (.bin .lss .num (tT 10) (kI 10))]) (.cond (tT 11) (.region [oM 12 3,oM 13 4,oM 14 4,oO 15 (.bin .add .num (tT 14) (kI 1)),⟨(some 16),.slcS (.const (.string ⟨#[48,49,50,51,52,53,54,55,56,57]⟩)) (some (tT 13)) (some (tT 15)),
 none⟩,⟨(some 17),.bin .add .num (.const (.string ⟨#[114]⟩)) (tT 16),none⟩,⟨(some 18),.bslice [(.string ⟨#[]⟩)] 1 [(0,(tT 17))],none⟩,⟨(some 19),.append [(.string ⟨#[]⟩)] 16 (tT 12) (tT 18),none⟩,oM 3 19]) (.draw [⟨0,
 oM 20 3,0,1,false⟩,⟨1,oM 21 4,0,1,false⟩,⟨2,oO 22 (.bin .quo .num (tT 21) (kI 10)),2,1,false⟩,⟨3,oM 23 4,0,1,false⟩,⟨4,oO 24 (.bin .quo .num (tT 23) (kI 10)),8,1,false⟩,⟨5,oO 25 (.bin .add .num (tT 24) (kI 1)),
 24,1,false⟩,⟨6,⟨(some 26),.slcS (.const (.string ⟨#[48,49,50,51,52,53,54,55,56,57]⟩)) (some (tT 22)) (some (tT 25)),none⟩,62,1,false⟩,⟨7,⟨(some 27),.bin .add .num (.const (.string ⟨#[114]⟩)) (tT 26),none⟩,
 126,1,false⟩,⟨8,oM 28 4,0,1,false⟩,⟨9,oO 29 (.bin .rem .num (tT 28) (kI 10)),256,1,false⟩,⟨10,oM 30 4,0,1,false⟩,⟨11,oO 31 (.bin .rem .num (tT 30) (kI 10)),1024,1,false⟩,⟨12,oO 32 (.bin .add .num (tT 31) (kI 1)),
 3072,1,false⟩,⟨13,⟨(some 33),.slcS (.const (.string ⟨#[48,49,50,51,52,53,54,55,56,57]⟩)) (some (tT 29)) (some (tT 32)),none⟩,7936,1,false⟩,⟨14,oO 34 (.bin .add .num (tT 27) (tT 33)),16382,1,false⟩,⟨15,
 ⟨(some 35),.bslice [(.string ⟨#[]⟩)] 1 [(0,(tT 34))],none⟩,32766,1,false⟩,⟨16,⟨(some 36),.append [(.string ⟨#[]⟩)] 16 (tT 20) (tT 35),none⟩,65535,1,false⟩,⟨17,oM 3 36,131071,1,false⟩])))) (.region [oM 8 4,
 oO 9 (.bin .add .num (tT 8) (kI 1)),oM 4 9])))))) (sQ (.region [oM 37 3,oM 2 37]) .ret))))
theorem ok66 : FnOk Tryz.prog 66 38 ir66 [.tmp 2] := fnOk_of mixed Tryz.func66 (by kernel_rfl) Tryz.ntmps66 (by kernel_rfl) (by kernel_rfl)

def ir67 : ACode := (sQ (.region [oO 6 (.alloc [(.int .i64 0),(.int .i64 0),nS,nS])]) (sQ (.region [oM 8 0,oO 9 (.build [nS,(.int .i64 0)] [(0,1,(tT 8))]),oO 10 (.box (tT 9)),oM 7 10]) (sQ (.region [oM 11 7,
 oM 12 1,oM 13 2,oO 14 (kC 100 [(tT 11),(kI 4),(tT 12),(tT 13)]),⟨none,.store 4 (tT 6) (tT 14),none⟩]) .ret)))
theorem ok67 : FnOk Tryz.prog 67 15 ir67 [.cell 6 true 4] := fnOk_of mixed Tryz.func67 (by kernel_rfl) Tryz.ntmps67 (by kernel_rfl) (by kernel_rfl)

def ir68 : ACode := (sQ (.region [oO 1 (.box (tT 0)),oO 2 (.mov (kI 0))]) (sQ (.block 0 (sQ (.region [oO 4 (.faddr 1 (tT 1)),oO 5 (.load false 1 (tT 4)),oO 6 (.bin .lss .num (tT 5) (.const (.int .u8 1))),
 oM 7 6,oF 7 8 (.faddr 1 (tT 1)),oF 7 9 (.load false 1 (tT 8)),oF 7 10 (.bin .gtr .num (tT 9) (.const (.int .u8 3))),oO 11 (.pick (tT 7) kT (tT 10)),oM 3 11]) (.cond (tT 3) (sQ (.region [oO 2 (.mov (kI 1))]) .ret) (sQ (.region [oO 13 (.faddr 2 (tT 1)),
 oO 14 (.load false 1 (tT 13)),oO 15 (kC 101 [(tT 14)]),oO 16 (.una .not (tT 15)),oM 12 16]) (.cond (tT 12) (sQ (.region [oO 2 (.mov (kI 9))]) .ret) .skip))))) (sQ (.region [oO 17 (.faddr 3 (tT 1)),oO 18 (.load true 4 (tT 17)),
 oO 19 (.faddr 1 (tT 1)),oO 20 (.load false 1 (tT 19)),oO 21 (kC 102 [(tT 18),(tT 20)]),oM 2 21]) .ret)))
theorem ok68 : FnOk Tryz.prog 68 22 ir68 [.tmp 2] := fnOk_of mixed Tryz.func68 (by kernel_rfl) Tryz.ntmps68 (by kernel_rfl) (by kernel_rfl)

def ir69 : ACode := (sQ (.region [oO 1 (.box (tT 0)),oO 2 (.alloc [(.int .u8 0),(.int .i64 0),nS,nS])]) (sQ (.draw [⟨0,oO 6 (.faddr 0 (tT 1)),0,0,false⟩,⟨1,oO 7 (.load false 1 (tT 6)),1,0,false⟩,⟨2,oO 8 (.conv .u8 (tT 7)),
 3,0,false⟩,⟨3,oO 9 (.faddr 1 (tT 1)),0,0,false⟩,⟨4,oO 10 (.load false 1 (tT 9)),8,0,false⟩,⟨5,oO 11 (.bslice [(.int .i64 0)] 0 []),0,0,false⟩,⟨6,oO 12 (.faddr 2 (tT 1)),0,0,false⟩,⟨7,oO 13 (.load false 1 (tT 12)),
 64,0,false⟩,⟨8,oO 14 (.append [(.int .i64 0)] 8 (tT 11) (tT 13)),224,448,false⟩,⟨9,oO 15 (.build [(.int .u8 0),(.int .i64 0),nS,nS] [(0,1,(tT 8)),(1,1,(tT 10)),(2,1,(tT 14))]),511,1,false⟩,⟨10,oO 3 (.alloc [(.int .u8 0),
 (.int .i64 0),nS,nS]),0,0,false⟩,⟨11,⟨none,.store 4 (tT 3) (tT 15),none⟩,2047,1,false⟩]) (sQ (sQ (.region [oO 16 (.faddr 3 (tT 1)),oO 17 (.load false 1 (tT 16)),oO 18 (.len (tT 17)),oO 19 (.mov (kI 0))]) (.block 0 (.loop (sQ (.region [oO 20 (.bin .lss .num (tT 19) (tT 18))]) (sQ (.cond (tT 20) .skip (.exit 0)) (sQ (.block 1 (sQ (.region [oO 21 (.iaddr 4 (tT 17) (tT 19)),
 oO 22 (.load true 4 (tT 21)),oO 5 (.alloc [(.int .i64 0),(.int .i64 0),nS,nS]),⟨none,.store 4 (tT 5) (tT 22),none⟩]) (.draw [⟨0,oO 23 (.faddr 3 (tT 3)),0,0,false⟩,⟨1,oO 24 (.load false 1 (tT 23)),1,0,false⟩,
 ⟨2,oO 25 (.load true 4 (tT 5)),0,0,false⟩,⟨3,oO 26 (kC 69 [(tT 25)]),4,0,false⟩,⟨4,oO 27 (.bslice [(.int .u8 0),(.int .i64 0),nS,nS] 1 [(0,(tT 26))]),12,0,false⟩,⟨5,oO 28 (.append [(.int .u8 0),(.int .i64 0),
 nS,nS] 64 (tT 24) (tT 27)),31,1,false⟩,⟨6,oO 29 (.faddr 3 (tT 3)),63,1,false⟩,⟨7,⟨none,.store 1 (tT 29) (tT 28),none⟩,127,1,false⟩]))) (.region [oO 30 (.bin .add .num (tT 19) (kI 1)),oM 19 30]))))))) (sQ (.region [oO 31 (.load true 4 (tT 3)),
 ⟨none,.store 4 (tT 2) (tT 31),none⟩]) .ret))))
theorem ok69 : FnOk Tryz.prog 69 32 ir69 [.cell 2 true 4] := fnOk_of mixed Tryz.func69 (by kernel_rfl) Tryz.ntmps69 (by kernel_rfl) (by kernel_rfl)

def ir70 : ACode := (sQ (.region [oO 1 (.box (tT 0)),oO 2 (.mov (kI 0))]) (sQ (sQ (.region [oO 3 (.faddr 1 (tT 1)),oO 4 (.load false 1 (tT 3)),oO 5 (.bin .lss .num (tT 4) (kI 1)),oM 6 5,oF 6 7 (.faddr 1 (tT 1)),
 oF 6 8 (.load false 1 (tT 7)),oF 6 9 (.bin .gtr .num (tT 8) (kI 3)),oO 10 (.pick (tT 6) kT (tT 9))]) (.cond (tT 10) (sQ (.region [oO 2 (.mov (kI 1))]) .ret) .skip)) (sQ (sQ (.region [oO 11 (.faddr 2 (tT 1)),
 oO 12 (.load false 1 (tT 11)),oO 13 (kC 103 [(tT 12)]),oO 14 (.una .not (tT 13))]) (.cond (tT 14) (sQ (.region [oO 2 (.mov (kI 9))]) .ret) .skip)) (sQ (.region [oO 15 (.faddr 3 (tT 1)),oO 16 (.load true 4 (tT 15)),
 oO 17 (.faddr 1 (tT 1)),oO 18 (.load false 1 (tT 17)),oO 19 (kC 104 [(tT 16),(tT 18)]),oM 2 19]) .ret))))
theorem ok70 : FnOk Tryz.prog 70 20 ir70 [.tmp 2] := fnOk_of mixed Tryz.func70 (by kernel_rfl) Tryz.ntmps70 (by kernel_rfl) (by kernel_rfl)

def ir71 : ACode := (sQ (.region [oO 3 (.box (tT 0)),oO 6 (.mov kF)]) (sQ (.region [oO 10 (.load true 4 (tT 3)),oO 11 (kC 105 [(tT 10)]),oM 9 11,oO 12 (.extract (tT 9) 0),oO 13 (.extract (tT 9) 1),oM 7 12,
 oM 8 13]) (sQ (.region [oM 14 8,oO 15 (.bin .eql .num (tT 14) (kI 0)),oM 16 15,oT 16 17 (.mov (tT 7)),oT 16 18 (.bin .eql .num (tT 17) (kI 1)),oO 19 (.pick (tT 16) (tT 18) kF),oM 20 19,oT 20 21 (.load true 4 (tT 3)),
 oT 20 22 (.mov (tT 1)),oT 20 23 (.mov (tT 2)),oT 20 24 (kC 106 [(tT 21),(tT 22),(tT 23)]),oO 25 (.pick (tT 20) (tT 24) kF),oM 6 25]) .ret)))
theorem ok71 : FnOk Tryz.prog 71 26 ir71 [.tmp 6] := fnOk_of mixed Tryz.func71 (by kernel_rfl) Tryz.ntmps71 (by kernel_rfl) (by kernel_rfl)

def ir72 : ACode := (sQ (.region [oO 2 (.mov (.const nS))]) (sQ (.region [oO 3 (.mov (.const nS))]) (sQ (sQ (.region [oM 6 0,oO 7 (.len (tT 6)),oO 8 (.mov (kI 0))]) (.block 0 (.loop (sQ (.region [oO 9 (.bin .lss .num (tT 8) (tT 7))]) (sQ (.cond (tT 9) .skip (.exit 0)) (sQ (.block 1 (sQ (.region [oM 10 8,
 oO 11 (.iaddr 3 (tT 6) (tT 8)),oO 12 (.load true 3 (tT 11)),oO 5 (.alloc [(.int .u8 0),(.int .u8 0),(.int .u8 0)]),oM 4 10,⟨none,.store 3 (tT 5) (tT 12),none⟩]) (sQ (sQ (.region [oM 13 4,oO 14 (.bin .eql .num (tT 13) (kI 16))]) (.cond (tT 14) (.exit 0) .skip)) (.region [oM 16 3,
 oO 17 (.load true 3 (tT 5)),oO 18 (kC 12 [(tT 17)]),oO 19 (kC 107 [(tT 16),(tT 18)]),oM 15 19,oO 20 (.extract (tT 15) 0),oO 21 (.extract (tT 15) 1),oM 3 20])))) (.region [oO 22 (.bin .add .num (tT 8) (kI 1)),
 oM 8 22]))))))) (sQ (.region [oM 23 3,oM 2 23]) .ret))))
theorem ok72 : FnOk Tryz.prog 72 24 ir72 [.tmp 2] := fnOk_of mixed Tryz.func72 (by kernel_rfl) Tryz.ntmps72 (by kernel_rfl) (by kernel_rfl)

def ir73 : ACode := (sQ (.region [oO 1 (.box (tT 0)),oO 2 (.mov (.const (.int .u8 0))),oO 3 (.mov (kI 0))]) (sQ (sQ (.region [oO 5 (.load true 4 (tT 1)),oO 6 (kC 108 [(tT 5),(.const (.int .u8 0))]),oM 4 6]) (sQ (.region [oM 7 4,
 oO 8 (.bin .neq .num (tT 7) (kI 0))]) (.cond (tT 8) (sQ (.region [oM 9 4,oO 2 (.mov (.const (.int .u8 0))),oM 3 9]) .ret) .skip))) (sQ (sQ (.region [oO 10 (.load true 4 (tT 1)),oO 11 (kC 109 [(tT 10)]),
 oO 12 (.una .not (tT 11))]) (.cond (tT 12) (sQ (.region [oO 2 (.mov (.const (.int .u8 0))),oO 3 (.mov (kI 10))]) .ret) .skip)) (sQ (.region [oO 13 (.faddr 0 (tT 1)),oO 14 (.load false 1 (tT 13)),oO 15 (kC 110 [(tT 14)]),
 oM 2 15,oO 3 (.mov (kI 0))]) .ret))))
theorem ok73 : FnOk Tryz.prog 73 16 ir73 [.tmp 2, .tmp 3] := fnOk_of mixed Tryz.func73 (by kernel_rfl) Tryz.ntmps73 (by kernel_rfl) (by kernel_rfl)

def ir74 : ACode := (sQ (.region [oO 2 (.box (tT 0)),oO 3 (.box (tT 1)),oO 4 (.mov (kI 0))]) (sQ (sQ (.region [oO 10 (.faddr 0 (tT 3)),oO 11 (.load false 1 (tT 10))]) (.block 0 (sQ (.region [oO 13 (.bin .eql .num (tT 11) (.const (.int .u8 1))),
 oM 12 13]) (.cond (tT 12) (sQ (.region [oO 14 (.faddr 1 (tT 3)),oO 15 (.load false 1 (tT 14)),oM 4 15]) .ret) (sQ (.region [oO 17 (.bin .eql .num (tT 11) (.const (.int .u8 2))),oM 16 17]) (.cond (tT 16) (sQ (.region [oO 4 (.mov (kI 1))]) .ret) (sQ (.region [oO 19 (.bin .eql .num (tT 11) (.const (.int .u8 3))),
 oM 18 19]) (.cond (tT 18) (sQ (.region [oO 4 (.mov (kI 0))]) .ret) (sQ (sQ (.region [oO 21 (.bin .eql .num (tT 11) (.const (.int .u8 4))),oM 20 21]) (.cond (tT 20) .skip (.region [oO 22 (.bin .eql .num (tT 11) (.const (.int .u8 5))),
 oM 20 22]))) (.cond (tT 20) (sQ (.region [oO 5 (.mov (kI 0))]) (sQ (sQ (.region [oO 23 (.faddr 2 (tT 3)),oO 24 (.load false 1 (tT 23)),oO 25 (.len (tT 24)),oO 26 (.mov (kI 0))]) (.block 1 (.loop (sQ (.region [oO 27 (.bin .lss .num (tT 26) (tT 25))]) (sQ (.cond (tT 27) .skip (.exit 1)) (sQ (.block 2 (sQ (.region [oO 28 (.iaddr 1 (tT 24) (tT 26)),
 oO 29 (.load false 1 (tT 28)),oM 7 29]) (.region [oM 30 5,oO 31 (.faddr 0 (tT 2)),oO 32 (.load true 1 (tT 31)),oM 33 7,oO 34 (kC 95 [(tT 32),(tT 33)]),oO 35 (kC 111 [(tT 34)]),oO 36 (.bin .add .num (tT 30) (tT 35)),
 oM 5 36]))) (.region [oO 37 (.bin .add .num (tT 26) (kI 1)),oM 26 37]))))))) (sQ (.region [oM 38 5,oM 4 38]) .ret))) (sQ (.region [oO 40 (.bin .eql .num (tT 11) (.const (.int .u8 6))),oM 39 40]) (.cond (tT 39) (sQ (.draw [⟨0,
 oO 41 (.load true 2 (tT 2)),0,0,false⟩,⟨1,oO 42 (.faddr 2 (tT 3)),0,0,false⟩,⟨2,oO 43 (.load false 1 (tT 42)),2,0,false⟩,⟨3,oO 44 (.iaddr 1 (tT 43) (kI 0)),6,0,false⟩,⟨4,oO 45 (.load false 1 (tT 44)),14,
 0,false⟩,⟨5,oO 46 (kC 112 [(tT 41),(tT 45)]),31,1,false⟩,⟨6,oM 4 46,63,1,false⟩]) .ret) (sQ (.region [oO 48 (.bin .eql .num (tT 11) (.const (.int .u8 7))),oM 47 48]) (.cond (tT 47) (sQ (.draw [⟨0,oO 49 (.load true 2 (tT 2)),
 0,0,false⟩,⟨1,oO 50 (.faddr 3 (tT 3)),0,0,false⟩,⟨2,oO 51 (.load false 1 (tT 50)),2,0,false⟩,⟨3,oO 52 (.iaddr 4 (tT 51) (kI 0)),6,0,false⟩,⟨4,oO 53 (.load true 4 (tT 52)),14,0,false⟩,⟨5,oO 54 (kC 74 [(tT 49),
 (tT 53)]),31,1,false⟩,⟨6,oO 55 (.bin .sub .num (kI 1) (tT 54)),63,1,false⟩,⟨7,oM 4 55,127,1,false⟩]) .ret) .skip)))))))))))))) (sQ (.draw [⟨0,oO 56 (.load true 2 (tT 2)),0,0,false⟩,⟨1,oO 57 (.faddr 3 (tT 3)),
 0,0,false⟩,⟨2,oO 58 (.load false 1 (tT 57)),2,0,false⟩,⟨3,oO 59 (.iaddr 4 (tT 58) (kI 0)),6,0,false⟩,⟨4,oO 60 (.load true 4 (tT 59)),14,0,false⟩,⟨5,oO 61 (kC 74 [(tT 56),(tT 60)]),31,0,false⟩,⟨6,oO 62 (.load true 2 (tT 2)),
 0,0,false⟩,⟨7,oO 63 (.faddr 3 (tT 3)),0,0,false⟩,⟨8,oO 64 (.load false 1 (tT 63)),128,0,false⟩,⟨9,oO 65 (.iaddr 4 (tT 64) (kI 1)),384,0,false⟩,⟨10,oO 66 (.load true 4 (tT 65)),896,0,false⟩,⟨11,oO 67 (kC 74 [(tT 62),
 (tT 66)]),2047,1,false⟩,⟨12,oM 8 61,4095,1,false⟩,⟨13,oM 9 67,8191,1,false⟩]) (sQ (sQ (.region [oO 68 (.faddr 0 (tT 3)),oO 69 (.load false 1 (tT 68))]) (.block 3 (sQ (.region [oO 71 (.bin .eql .num (tT 69) (.const (.int .u8 8))),
 oM 70 71]) (.cond (tT 70) (sQ (.region [oM 72 8,oM 73 9,oO 74 (.bin .mul .num (tT 72) (tT 73)),oM 4 74]) .ret) (sQ (.region [oO 76 (.bin .eql .num (tT 69) (.const (.int .u8 9))),oM 75 76]) (.cond (tT 75) (sQ (.region [oM 77 8,
 oM 78 9,oO 79 (.mx (tT 77) (tT 78)),oM 4 79]) .ret) (sQ (.region [oO 81 (.bin .eql .num (tT 69) (.const (.int .u8 10))),oM 80 81]) (.cond (tT 80) (sQ (.region [oM 82 8,oO 83 (.bin .sub .num (kI 1) (tT 82)),
 oM 84 9,oO 85 (.mx (tT 83) (tT 84)),oM 4 85]) .ret) (sQ (.region [oO 87 (.bin .eql .num (tT 69) (.const (.int .u8 11))),oM 86 87]) (.cond (tT 86) (sQ (.region [oM 88 8,oM 89 9,oO 90 (.bin .leq .num (tT 88) (tT 89)),
 oO 91 (kC 111 [(tT 90)]),oM 4 91]) .ret) (sQ (.region [oO 93 (.bin .eql .num (tT 69) (.const (.int .u8 12))),oM 92 93]) (.cond (tT 92) (sQ (.region [oM 94 8,oM 95 9,oO 96 (.bin .lss .num (tT 94) (tT 95)),
 oO 97 (kC 111 [(tT 96)]),oM 4 97]) .ret) (sQ (.region [oO 99 (.bin .eql .num (tT 69) (.const (.int .u8 13))),oM 98 99]) (.cond (tT 98) (sQ (.region [oM 100 8,oM 101 9,oO 102 (.bin .geq .num (tT 100) (tT 101)),
 oO 103 (kC 111 [(tT 102)]),oM 4 103]) .ret) (sQ (.region [oO 105 (.bin .eql .num (tT 69) (.const (.int .u8 14))),oM 104 105]) (.cond (tT 104) (sQ (.region [oM 106 8,oM 107 9,oO 108 (.bin .gtr .num (tT 106) (tT 107)),
 oO 109 (kC 111 [(tT 108)]),oM 4 109]) .ret) (sQ (.region [oO 111 (.bin .eql .num (tT 69) (.const (.int .u8 15))),oM 110 111]) (.cond (tT 110) (sQ (.region [oM 112 8,oM 113 9,oO 114 (.bin .eql .num (tT 112) (tT 113)),
 oO 115 (kC 111 [(tT 114)]),oM 4 115]) .ret) .skip)))))))))))))))))) (sQ (.region [oM 116 8,oM 117 9,oO 118 (.bin .add .num (tT 116) (tT 117)),oM 4 118]) .ret)))))
theorem ok74 : FnOk Tryz.prog 74 119 ir74 [.tmp 4] := fnOk_of mixed Tryz.func74 (by kernel_rfl) Tryz.ntmps74 (by kernel_rfl) (by kernel_rfl)

def ir76 : ACode := (sQ (.region [oO 4 (.mov (.const nS))]) (sQ (.region [oM 8 0,oM 9 1,oO 10 (kC 113 [(tT 8),(tT 9)]),oM 5 10]) (sQ (sQ (.region [oM 11 5,oO 12 (.bin .eql .num (tT 11) (.const (.int .i64 (-1))))]) (.cond (tT 12) (sQ (.region [oM 13 0,
 oM 4 13]) .ret) .skip)) (sQ (sQ (.region [oM 14 5,oO 15 (.bin .add .num (tT 14) (kI 1)),oM 6 15]) (.block 0 (.loop (sQ (sQ (.region [oM 16 6,oM 17 0,oO 18 (.len (tT 17)),oO 19 (.bin .lss .num (tT 16) (tT 18))]) (.cond (tT 19) .skip (.exit 0))) (sQ (.block 1 (sQ (.region [oM 22 0,
 oM 23 6,oO 24 (.iaddr 2 (tT 22) (tT 23)),oO 25 (.load true 2 (tT 24)),oO 7 (.alloc [(.int .i64 0),(.int .i64 0)]),⟨none,.store 2 (tT 7) (tT 25),none⟩]) (sQ (.region [oM 26 1,oO 27 (.load true 2 (tT 7)),
 oO 28 (.call (tT 26) [(tT 27)]),oO 29 (.una .not (tT 28))]) (.cond (tT 29) (sQ (.region [oM 30 0,oM 31 5,oO 32 (.load true 2 (tT 7)),oO 33 (.iaddr 2 (tT 30) (tT 31)),⟨none,.store 2 (tT 33) (tT 32),none⟩]) (.region [oM 34 5,
 oO 35 (.bin .add .num (tT 34) (kI 1)),oM 5 35])) .skip)))) (.region [oM 20 6,oO 21 (.bin .add .num (tT 20) (kI 1)),oM 6 21])))))) (sQ (.region [oM 36 0,oM 37 5,oO 38 (.slc 2 (tT 36) (some (tT 37)) none none),
 ⟨none,.clear [(.int .i64 0),(.int .i64 0)] (tT 38),none⟩]) (sQ (.region [oM 39 0,oM 40 5,oO 41 (.slc 2 (tT 39) none (some (tT 40)) none),oM 4 41]) .ret))))))
theorem ok76 : FnOk Tryz.prog 76 42 ir76 [.tmp 4] := fnOk_of mixed Tryz.func76 (by kernel_rfl) Tryz.ntmps76 (by kernel_rfl) (by kernel_rfl)

def ir77 : ACode := (sQ (.region [oO 3 (.box (tT 0)),oO 4 (.mov kF)]) (sQ (.region [oO 5 (.load false 1 (tT 1)),oO 6 (.faddr 0 (tT 3)),oO 7 (.load false 1 (tT 6)),oO 8 (.iaddr 7 (tT 5) (tT 7)),oO 9 (.faddr 0 (tT 8)),
 oO 10 (.load false 1 (tT 9)),oO 11 (.una .not (tT 10)),oM 12 11,oF 12 13 (.load false 1 (tT 2)),oF 12 14 (.load true 2 (tT 3)),oF 12 15 (kC 78 [(tT 13),(tT 14)]),oO 16 (.pick (tT 12) kT (tT 15)),oM 4 16]) .ret))
theorem ok77 : FnOk Tryz.prog 77 17 ir77 [.tmp 4] := fnOk_of mixed Tryz.func77 (by kernel_rfl) Tryz.ntmps77 (by kernel_rfl) (by kernel_rfl)

def ir78 : ACode := (sQ (.region [oO 3 (.box (tT 1)),oO 4 (.mov kF)]) (sQ (.region [oM 5 0,oO 6 (.load true 2 (tT 3)),oO 7 (kC 114 [(tT 5),(tT 6)]),oO 8 (.bin .geq .num (tT 7) (kI 0)),oM 4 8]) .ret))
theorem ok78 : FnOk Tryz.prog 78 9 ir78 [.tmp 4] := fnOk_of mixed Tryz.func78 (by kernel_rfl) Tryz.ntmps78 (by kernel_rfl) (by kernel_rfl)

def ir79 : ACode := (sQ (.region [oO 3 (.box (tT 1)),oO 4 (.mov kF)]) (sQ (sQ (.region [oM 7 0,oO 8 (.len (tT 7)),oO 9 (.mov (kI 0))]) (.block 0 (.loop (sQ (.region [oO 10 (.bin .lss .num (tT 9) (tT 8))]) (sQ (.cond (tT 10) .skip (.exit 0)) (sQ (.block 1 (sQ (.region [oO 11 (.iaddr 2 (tT 7) (tT 9)),
 oO 12 (.load true 2 (tT 11)),oO 6 (.alloc [(.int .i64 0),(.int .i64 0)]),⟨none,.store 2 (tT 6) (tT 12),none⟩]) (sQ (.region [oO 13 (.load true 2 (tT 6)),oO 14 (.load true 2 (tT 3)),oO 15 (.bin .eql (.cells [0,
 0]) (tT 13) (tT 14))]) (.cond (tT 15) (sQ (.region [oO 4 (.mov kT)]) .ret) .skip)))) (.region [oO 16 (.bin .add .num (tT 9) (kI 1)),oM 9 16]))))))) (sQ (.region [oO 4 (.mov kF)]) .ret)))
theorem ok79 : FnOk Tryz.prog 79 17 ir79 [.tmp 4] := fnOk_of mixed Tryz.func79 (by kernel_rfl) Tryz.ntmps79 (by kernel_rfl) (by kernel_rfl)

def ir82 : ACode := (sQ (.region [oO 2 (.alloc [(.int .u8 0),(.int .i64 0),nS,nS])]) (sQ (.region [oM 3 0,oO 4 (.build [(.int .u8 0),(.int .i64 0),nS,nS] [(0,1,(.const (.int .u8 1))),(1,1,(tT 3))]),⟨none,
 .store 4 (tT 2) (tT 4),none⟩]) .ret))
theorem ok82 : FnOk Tryz.prog 82 5 ir82 [.cell 2 true 4] := fnOk_of mixed Tryz.func82 (by kernel_rfl) Tryz.ntmps82 (by kernel_rfl) (by kernel_rfl)

def ir83 : ACode := (sQ (.region [oO 2 (.alloc [(.int .u8 0),(.int .i64 0),nS,nS])]) (sQ (.region [oM 3 0,oO 4 (.bslice [(.int .i64 0)] 1 [(0,(tT 3))]),oO 5 (.build [(.int .u8 0),(.int .i64 0),nS,nS] [(0,
 1,(.const (.int .u8 6))),(2,1,(tT 4))]),⟨none,.store 4 (tT 2) (tT 5),none⟩]) .ret))
theorem ok83 : FnOk Tryz.prog 83 6 ir83 [.cell 2 true 4] := fnOk_of mixed Tryz.func83 (by kernel_rfl) Tryz.ntmps83 (by kernel_rfl) (by kernel_rfl)

def ir84 : ACode := (sQ (.region [oO 2 (.alloc [(.int .u8 0),(.int .i64 0),nS,nS])]) (sQ (.region [oM 3 0,oO 4 (.bslice [(.int .i64 0)] 1 [(0,(tT 3))]),oO 5 (.build [(.int .u8 0),(.int .i64 0),nS,nS] [(0,
 1,(.const (.int .u8 4))),(2,1,(tT 4))]),⟨none,.store 4 (tT 2) (tT 5),none⟩]) .ret))
theorem ok84 : FnOk Tryz.prog 84 6 ir84 [.cell 2 true 4] := fnOk_of mixed Tryz.func84 (by kernel_rfl) Tryz.ntmps84 (by kernel_rfl) (by kernel_rfl)

def ir85 : ACode := (sQ (.region [oO 2 (.alloc [nS])]) (sQ (.block 0 (.loop (sQ (sQ (.region [oM 3 0,oO 4 (.len (tT 3)),oO 5 (.bin .gtr .num (tT 4) (kI 0)),oM 6 5,oT 6 7 (.mov (tT 0)),oT 6 8 (.mov (tT 0)),
 oT 6 9 (.len (tT 8)),oT 6 10 (.bin .sub .num (tT 9) (kI 1)),oT 6 11 (.iaddr 1 (tT 7) (tT 10)),oT 6 12 (.load false 1 (tT 11)),oT 6 13 (.bin .eql .num (tT 12) (.const (.int .u64 0))),oO 14 (.pick (tT 6) (tT 13) kF)]) (.cond (tT 14) .skip (.exit 0))) (.block 1 (.region [oM 15 0,
 oM 16 0,oO 17 (.len (tT 16)),oO 18 (.bin .sub .num (tT 17) (kI 1)),oO 19 (.slc 1 (tT 15) none (some (tT 18)) none),oM 0 19]))))) (sQ (.region [oM 20 0,oO 21 (.build [nS] [(0,1,(tT 20))]),⟨none,.store 1 (tT 2) (tT 21),
 none⟩]) .ret)))
theorem ok85 : FnOk Tryz.prog 85 22 ir85 [.cell 2 true 1] := fnOk_of mixed Tryz.func85 (by kernel_rfl) Tryz.ntmps85 (by kernel_rfl) (by kernel_rfl)

def ir86 : ACode := (sQ (.region [oO 2 (.mov (.const nS))]) (sQ (.region [oO 3 (.mov (.const nS))]) (sQ (sQ (.region [oO 4 (.mov (kI 0))]) (.block 0 (.loop (sQ (sQ (.region [oM 9 4,oO 10 (.bin .lss .num (tT 9) (kI 6))]) (.cond (tT 10) .skip (.exit 0))) (sQ (.block 1 (.region [oM 13 3,
 oM 14 4,oM 15 0,oO 16 (.bin .shr .num (tT 15) (.const (.int .u64 16))),oO 17 (.bin .rem .num (tT 16) (.const (.int .u64 2))),oO 18 (.conv .i64 (tT 17)),oO 19 (.bin .mul .num (kI 4) (tT 18)),oO 20 (.bin .add .num (kI 1) (tT 19)),
 oO 21 (.bin .mul .num (tT 14) (tT 20)),oM 22 0,oO 23 (.bin .shr .num (tT 22) (.const (.int .u64 17))),oO 24 (.bin .rem .num (tT 23) (.const (.int .u64 6))),oO 25 (.conv .i64 (tT 24)),oO 26 (.bin .add .num (tT 21) (tT 25)),
 oO 27 (.bin .rem .num (tT 26) (kI 6)),oO 28 (.bin .add .num (kI 1) (tT 27)),oO 29 (.bslice [(.int .i64 0)] 1 [(0,(tT 28))]),oO 30 (.append [(.int .i64 0)] 8 (tT 13) (tT 29)),oM 3 30])) (.region [oM 11 4,
 oO 12 (.bin .add .num (tT 11) (kI 1)),oM 4 12])))))) (sQ (.region [oO 5 (.mov (.const nS))]) (sQ (.region [oO 6 (.mov (kI 0))]) (sQ (sQ (.region [oO 7 (.mov (kI 0))]) (.block 2 (.loop (sQ (sQ (.region [oM 31 7,
 oO 32 (.bin .lss .num (tT 31) (kI 6))]) (.cond (tT 32) .skip (.exit 2))) (sQ (.block 3 (sQ (.region [oM 35 7,oO 36 (.bin .add .num (tT 35) (kI 1)),oM 8 36]) (.block 4 (.loop (sQ (sQ (.region [oM 37 8,oO 38 (.bin .lss .num (tT 37) (kI 6))]) (.cond (tT 38) .skip (.exit 4))) (sQ (.block 5 (sQ (sQ (.region [oM 41 0,
 oM 42 6,oO 43 (.bin .shr .num (tT 41) (tT 42)),oO 44 (.bin .rem .num (tT 43) (.const (.int .u64 2))),oO 45 (.bin .eql .num (tT 44) (.const (.int .u64 1)))]) (.cond (tT 45) (.draw [⟨0,oM 47 5,0,0,false⟩,
 ⟨1,oM 48 3,0,0,false⟩,⟨2,oM 49 7,0,0,false⟩,⟨3,oO 50 (.iaddr 1 (tT 48) (tT 49)),6,0,false⟩,⟨4,oO 51 (.load false 1 (tT 50)),14,0,false⟩,⟨5,oM 52 3,0,0,false⟩,⟨6,oM 53 8,0,0,false⟩,⟨7,oO 54 (.iaddr 1 (tT 52) (tT 53)),
 96,0,false⟩,⟨8,oO 55 (.load false 1 (tT 54)),224,0,false⟩,⟨9,oO 56 (kC 118 [(tT 47),(tT 51),(tT 55)]),511,1,false⟩,⟨10,oM 46 56,1023,1,false⟩,⟨11,oO 57 (.extract (tT 46) 0),2047,1,false⟩,⟨12,oO 58 (.extract (tT 46) 1),
 2047,1,false⟩,⟨13,oM 5 57,4095,1,false⟩]) .skip)) (.region [oM 59 6,oO 60 (.bin .add .num (tT 59) (kI 1)),oM 6 60]))) (.region [oM 39 8,oO 40 (.bin .add .num (tT 39) (kI 1)),oM 8 40]))))))) (.region [oM 33 7,
 oO 34 (.bin .add .num (tT 33) (kI 1)),oM 7 34])))))) (sQ (.region [oM 61 5,oM 2 61]) .ret)))))))
theorem ok86 : FnOk Tryz.prog 86 62 ir86 [.tmp 2] := fnOk_of mixed Tryz.func86 (by kernel_rfl) Tryz.ntmps86 (by kernel_rfl) (by kernel_rfl)

def ir87 : ACode := (sQ (.region [oO 4 (.mov (.const (.pointer none))),oO 5 (.mov (kI 0))]) (sQ (sQ (.region [oM 10 0,oO 11 (.bin .lss .num (tT 10) (kI 0)),oM 12 11,oF 12 13 (.mov (tT 0)),oF 12 14 (.bin .gtr .num (tT 13) (kI 256)),
 oO 15 (.pick (tT 12) kT (tT 14))]) (.cond (tT 15) (sQ (.region [oO 4 (.mov (.const (.pointer none))),oO 5 (.mov (kI 1))]) .ret) .skip)) (sQ (sQ (.region [oM 16 1,oO 17 (.len (tT 16)),oO 18 (.mov (kI 0))]) (.block 0 (.loop (sQ (.region [oO 19 (.bin .lss .num (tT 18) (tT 17))]) (sQ (.cond (tT 19) .skip (.exit 0)) (sQ (.block 1 (sQ (.region [oO 20 (.iaddr 2 (tT 16) (tT 18)),
 oO 21 (.load true 2 (tT 20)),oO 7 (.alloc [(.int .i64 0),(.int .i64 0)]),⟨none,.store 2 (tT 7) (tT 21),none⟩]) (sQ (.region [oO 22 (.iaddrA 2 1 (tT 7) (kI 0)),oO 23 (.load false 1 (tT 22)),oO 24 (.iaddrA 2 1 (tT 7) (kI 1)),
 oO 25 (.load false 1 (tT 24)),oO 26 (.mn (tT 23) (tT 25)),oO 27 (.bin .lss .num (tT 26) (kI 0)),oM 28 27,oF 28 29 (.iaddrA 2 1 (tT 7) (kI 0)),oF 28 30 (.load false 1 (tT 29)),oF 28 31 (.iaddrA 2 1 (tT 7) (kI 1)),
 oF 28 32 (.load false 1 (tT 31)),oF 28 33 (.mx (tT 30) (tT 32)),oF 28 34 (.mov (tT 0)),oF 28 35 (.bin .geq .num (tT 33) (tT 34)),oO 36 (.pick (tT 28) kT (tT 35))]) (.cond (tT 36) (sQ (.region [oO 4 (.mov (.const (.pointer none))),
 oO 5 (.mov (kI 2))]) .ret) .skip)))) (.region [oO 37 (.bin .add .num (tT 18) (kI 1)),oM 18 37]))))))) (sQ (.region [oO 38 (.bslice [(.int .i64 0),(.int .i64 0)] 0 []),oM 39 1,oO 40 (.append [(.int .i64 0),
 (.int .i64 0)] 16 (tT 38) (tT 39)),oM 8 40]) (sQ (.region [oM 41 8,oO 42 (kC 119 [(tT 41),(.func 120)])]) (sQ (.region [oM 43 0,oM 44 8,oO 45 (kC 122 [(tT 44)]),oO 46 (kC 121 [(tT 45)]),oO 47 (.build [(.int .i64 0),
 nS,nS,nS,nS] [(0,1,(tT 43)),(1,1,(tT 46))]),oO 48 (.box (tT 47)),oM 9 48]) (sQ (sQ (.region [oM 49 9,oO 50 (kC 123 [(tT 49)]),oO 51 (.una .not (tT 50))]) (.cond (tT 51) (sQ (.region [oO 4 (.mov (.const (.pointer none))),
 oO 5 (.mov (kI 16))]) .ret) .skip)) (sQ (.region [oM 52 9,oO 53 (kC 124 [(tT 52)])]) (sQ (.region [oM 54 9,oM 4 54,oO 5 (.mov (kI 0))]) .ret)))))))))
theorem ok87 : FnOk Tryz.prog 87 55 ir87 [.tmp 4, .tmp 5] := fnOk_of mixed Tryz.func87 (by kernel_rfl) Tryz.ntmps87 (by kernel_rfl) (by kernel_rfl)

def ir88 : ACode := (sQ (.region [oO 6 (.mov (.const (.pointer none))),oO 7 (.mov (kI 0))]) (sQ (sQ (.region [oM 8 0,oO 9 (.bin .eql .ptr (tT 8) (.const (.pointer none)))]) (.cond (tT 9) (sQ (.region [oO 6 (.mov (.const (.pointer none))),
 oO 7 (.mov (kI 1))]) .ret) .skip)) (sQ (sQ (.region [oM 10 0,oM 11 1,oO 12 (kC 94 [(tT 10),(tT 11)]),oO 13 (.una .not (tT 12)),oM 14 13,oF 14 15 (.mov (tT 0)),oF 14 16 (.mov (tT 2)),oF 14 17 (kC 94 [(tT 15),
 (tT 16)]),oF 14 18 (.una .not (tT 17)),oO 19 (.pick (tT 14) kT (tT 18))]) (.cond (tT 19) (sQ (.region [oO 6 (.mov (.const (.pointer none))),oO 7 (.mov (kI 2))]) .ret) .skip)) (sQ (sQ (.region [oM 20 0,
 oO 21 (.nilck (tT 20)),oO 22 (.faddr 1 (tT 21)),oO 23 (.load false 1 (tT 22)),oM 24 1,oM 25 2,oO 26 (.build [(.int .i64 0),(.int .i64 0)] [(0,1,(tT 24)),(1,1,(tT 25))]),oO 27 (kC 125 [(tT 23),(tT 26)])]) (.cond (tT 27) (sQ (.region [oO 6 (.mov (.const (.pointer none))),
 oO 7 (.mov (kI 5))]) .ret) .skip)) (sQ (.draw [⟨0,oM 28 0,0,0,false⟩,⟨1,oO 29 (.nilck (tT 28)),1,0,false⟩,⟨2,oO 30 (.faddr 0 (tT 29)),3,0,false⟩,⟨3,oO 31 (.load false 1 (tT 30)),7,0,false⟩,⟨4,oM 32 0,0,
 0,false⟩,⟨5,oO 33 (kC 60 [(tT 32)]),16,0,false⟩,⟨6,oM 34 1,0,0,false⟩,⟨7,oM 35 2,0,0,false⟩,⟨8,oO 36 (.build [(.int .i64 0),(.int .i64 0)] [(0,1,(tT 34)),(1,1,(tT 35))]),192,0,false⟩,⟨9,oO 37 (.bslice [(.int .i64 0),
 (.int .i64 0)] 1 [(0,(tT 36))]),448,0,false⟩,⟨10,oO 38 (.append [(.int .i64 0),(.int .i64 0)] 16 (tT 33) (tT 37)),1008,2016,false⟩,⟨11,oO 39 (kC 87 [(tT 31),(tT 38)]),2047,1,false⟩,⟨12,oO 40 (.extract (tT 39) 0),
 4095,1,false⟩,⟨13,oO 41 (.extract (tT 39) 1),4095,1,false⟩,⟨14,oM 6 40,16383,1,false⟩,⟨15,oM 7 41,32767,1,false⟩]) .ret)))))
theorem ok88 : FnOk Tryz.prog 88 42 ir88 [.tmp 6, .tmp 7] := fnOk_of mixed Tryz.func88 (by kernel_rfl) Tryz.ntmps88 (by kernel_rfl) (by kernel_rfl)

def ir89 : ACode := (sQ (.region [oO 4 (.box (tT 1)),oO 6 (.mov (kI 0)),oO 7 (.mov kF)]) (sQ (.region [oM 12 0,oO 13 (.len (tT 12)),oM 8 13]) (sQ (.region [oM 14 8,oO 9 (.mov (kI 0)),oM 10 14]) (sQ (.block 0 (.loop (sQ (sQ (.region [oM 15 9,
 oM 16 10,oO 17 (.bin .lss .num (tT 15) (tT 16))]) (.cond (tT 17) .skip (.exit 0))) (.block 1 (sQ (.region [oM 18 9,oM 19 10,oO 20 (.bin .add .num (tT 18) (tT 19)),oO 21 (.conv .u64 (tT 20)),oO 22 (.bin .shr .num (tT 21) (.const (.int .u64 1))),
 oO 23 (.conv .i64 (tT 22)),oM 11 23]) (sQ (.draw [⟨0,oM 24 2,0,0,false⟩,⟨1,oM 25 0,0,0,false⟩,⟨2,oM 26 11,0,0,false⟩,⟨3,oO 27 (.iaddr 3 (tT 25) (tT 26)),6,0,false⟩,⟨4,oO 28 (.load true 3 (tT 27)),14,0,
 false⟩,⟨5,oO 29 (.load true 3 (tT 4)),0,0,false⟩,⟨6,oO 30 (.call (tT 24) [(tT 28),(tT 29)]),63,1,false⟩,⟨7,oO 31 (.bin .lss .num (tT 30) (kI 0)),127,1,false⟩]) (.cond (tT 31) (.region [oM 32 11,oO 33 (.bin .add .num (tT 32) (kI 1)),
 oM 9 33]) (.region [oM 34 11,oM 10 34])))))))) (sQ (.draw [⟨0,oM 35 9,0,0,false⟩,⟨1,oM 36 9,0,1,false⟩,⟨2,oM 37 8,0,1,false⟩,⟨3,oO 38 (.bin .lss .num (tT 36) (tT 37)),6,1,false⟩,⟨4,oM 39 38,14,1,false⟩,
 ⟨5,oT 39 40 (.mov (tT 2)),30,0,false⟩,⟨6,oT 39 41 (.mov (tT 0)),30,0,false⟩,⟨7,oT 39 42 (.mov (tT 9)),30,0,false⟩,⟨8,oT 39 43 (.iaddr 3 (tT 41) (tT 42)),222,0,false⟩,⟨9,oT 39 44 (.load true 3 (tT 43)),
 478,0,false⟩,⟨10,oT 39 45 (.load true 3 (tT 4)),30,0,false⟩,⟨11,oT 39 46 (.call (tT 40) [(tT 44),(tT 45)]),2046,1,false⟩,⟨12,oT 39 47 (.bin .eql .num (tT 46) (kI 0)),4094,1,false⟩,⟨13,oO 48 (.pick (tT 39) (tT 47) kF),
 8190,1,false⟩,⟨14,oM 6 35,4095,1,false⟩,⟨15,oM 7 48,32767,1,false⟩]) .ret)))))
theorem ok89 : FnOk Tryz.prog 89 49 ir89 [.tmp 6, .tmp 7] := fnOk_of mixed Tryz.func89 (by kernel_rfl) Tryz.ntmps89 (by kernel_rfl) (by kernel_rfl)

def ir90 : ACode := (sQ (.region [oO 2 (.box (tT 0)),oO 3 (.box (tT 1)),oO 4 (.mov (kI 0))]) (sQ (sQ (.region [oO 5 (.faddr 0 (tT 2)),oO 6 (.load false 1 (tT 5)),oO 7 (.faddr 0 (tT 3)),oO 8 (.load false 1 (tT 7)),
 oO 9 (.bin .neq .num (tT 6) (tT 8))]) (.cond (tT 9) (sQ (.region [oO 10 (.faddr 0 (tT 2)),oO 11 (.load false 1 (tT 10)),oO 12 (.faddr 0 (tT 3)),oO 13 (.load false 1 (tT 12)),oO 14 (.bin .sub .num (tT 11) (tT 13)),
 oM 4 14]) .ret) .skip)) (sQ (.region [oO 15 (.faddr 1 (tT 2)),oO 16 (.load false 1 (tT 15)),oO 17 (.faddr 1 (tT 3)),oO 18 (.load false 1 (tT 17)),oO 19 (.bin .sub .num (tT 16) (tT 18)),oM 4 19]) .ret)))
theorem ok90 : FnOk Tryz.prog 90 20 ir90 [.tmp 4] := fnOk_of mixed Tryz.func90 (by kernel_rfl) Tryz.ntmps90 (by kernel_rfl) (by kernel_rfl)

def ir93 : ACode := (sQ (.region [oO 2 (.box (tT 0)),oO 4 (.mov kF)]) (sQ (.region [oM 5 1,oO 6 (.bin .geq .num (tT 5) (kI 0)),oM 7 6,oT 7 8 (.mov (tT 1)),oT 7 9 (.bin .leq .num (tT 8) (kI 30000)),oO 10 (.pick (tT 7) (tT 9) kF),
 oM 11 10,oT 11 12 (.mov (tT 1)),oT 11 13 (.faddr 2 (tT 2)),oT 11 14 (.load false 1 (tT 13)),oT 11 15 (.bin .leq .num (tT 12) (tT 14)),oO 16 (.pick (tT 11) (tT 15) kF),oM 4 16]) .ret))
theorem ok93 : FnOk Tryz.prog 93 17 ir93 [.tmp 4] := fnOk_of mixed Tryz.func93 (by kernel_rfl) Tryz.ntmps93 (by kernel_rfl) (by kernel_rfl)

end Go.Proofs.YtbmhdpflloepkaaGreatDoor

namespace Go.Proofs.YtbmhdpflloepkaaGreatDoor
set_option maxRecDepth 100000

def ir94 : ACode := (sQ (.region [oO 4 (.mov kF)]) (sQ (.region [oM 5 0,oO 6 (.bin .neq .ptr (tT 5) (.const (.pointer none))),oM 7 6,oT 7 8 (.mov (tT 1)),oT 7 9 (.bin .geq .num (tT 8) (kI 0)),oO 10 (.pick (tT 7) (tT 9) kF),
 oM 11 10,oT 11 12 (.mov (tT 1)),oT 11 13 (.mov (tT 0)),oT 11 14 (.nilck (tT 13)),oT 11 15 (.faddr 0 (tT 14)),oT 11 16 (.load false 1 (tT 15)),oT 11 17 (.bin .lss .num (tT 12) (tT 16)),oO 18 (.pick (tT 11) (tT 17) kF),
 oM 4 18]) .ret))
theorem ok94 : FnOk Tryz.prog 94 19 ir94 [.tmp 4] := fnOk_of mixed Tryz.func94 (by kernel_rfl) Tryz.ntmps94 (by kernel_rfl) (by kernel_rfl)

def ir95 : ACode := (sQ (.region [oO 2 (.box (tT 0)),oO 4 (.mov kF)]) (sQ (.region [oM 5 1,oO 6 (.bin .geq .num (tT 5) (kI 0)),oM 7 6,oT 7 8 (.mov (tT 1)),oT 7 9 (.bin .leq .num (tT 8) (kI 4095)),oO 10 (.pick (tT 7) (tT 9) kF),
 oM 11 10,oT 11 12 (.load true 1 (tT 2)),oT 11 13 (.mov (tT 1)),oT 11 14 (.bin .quo .num (tT 13) (kI 64)),oT 11 15 (kC 55 [(tT 12),(tT 14)]),oT 11 16 (.mov (tT 1)),oT 11 17 (.bin .rem .num (tT 16) (kI 64)),
 oT 11 18 (.bin .shr .num (tT 15) (tT 17)),oT 11 19 (.bin .and .num (tT 18) (.const (.int .u64 1))),oT 11 20 (.bin .eql .num (tT 19) (.const (.int .u64 1))),oO 21 (.pick (tT 11) (tT 20) kF),oM 4 21]) .ret))
theorem ok95 : FnOk Tryz.prog 95 22 ir95 [.tmp 4] := fnOk_of mixed Tryz.func95 (by kernel_rfl) Tryz.ntmps95 (by kernel_rfl) (by kernel_rfl)

def ir96 : ACode := (sQ (.region [oO 2 (.mov (.const nS))]) (sQ (sQ (.region [oM 3 0,oO 4 (.isnil false (tT 3))]) (.cond (tT 4) (sQ (.region [oO 2 (.mov (.const nS))]) .ret) .skip)) (sQ (.region [oO 5 (.bslice [(.int .i64 0),
 (.int .i64 0)] 0 []),oM 6 0,oO 7 (.append [(.int .i64 0),(.int .i64 0)] 16 (tT 5) (tT 6)),oM 2 7]) .ret)))
theorem ok96 : FnOk Tryz.prog 96 8 ir96 [.tmp 2] := fnOk_of mixed Tryz.func96 (by kernel_rfl) Tryz.ntmps96 (by kernel_rfl) (by kernel_rfl)

def ir97 : ACode := (sQ (.region [oO 2 (.box (tT 0)),oO 4 (.mov kF)]) (sQ (.region [oM 5 1,oO 6 (.bin .geq .num (tT 5) (kI 0)),oM 7 6,oT 7 8 (.mov (tT 1)),oT 7 9 (.bin .leq .num (tT 8) (kI 30000)),oO 10 (.pick (tT 7) (tT 9) kF),
 oM 11 10,oT 11 12 (.mov (tT 1)),oT 11 13 (.faddr 2 (tT 2)),oT 11 14 (.load false 1 (tT 13)),oT 11 15 (.bin .leq .num (tT 12) (tT 14)),oO 16 (.pick (tT 11) (tT 15) kF),oM 4 16]) .ret))
theorem ok97 : FnOk Tryz.prog 97 17 ir97 [.tmp 4] := fnOk_of mixed Tryz.func97 (by kernel_rfl) Tryz.ntmps97 (by kernel_rfl) (by kernel_rfl)

def ir98 : ACode := (sQ (.region [oO 5 (.faddr 0 (tT 1)),oO 6 (.load false 1 (tT 5)),oO 7 (.len (tT 6)),oO 8 (.mov (kI 0))]) (.block 0 (.loop (sQ (.region [oO 9 (.bin .lss .num (tT 8) (tT 7))]) (sQ (.cond (tT 9) .skip (.exit 0)) (sQ (.block 1 (sQ (.region [oM 10 8,
 oO 11 (.iaddr 1 (tT 6) (tT 8)),oO 12 (.load false 1 (tT 11)),oM 3 10,oM 4 12]) (.block 2 (.loop (sQ (sQ (.region [oM 13 4,oO 14 (.bin .neq .num (tT 13) (.const (.int .u64 0)))]) (.cond (tT 14) .skip (.exit 2))) (sQ (.block 3 (sQ (.region [oM 19 0,
 oM 20 3,oO 21 (.bin .mul .num (kI 64) (tT 20)),oM 22 4,oO 23 (kC 99 [(tT 22)]),oO 24 (.bin .add .num (tT 21) (tT 23)),oO 25 (.call (tT 19) [(tT 24)]),oO 26 (.una .not (tT 25))]) (.cond (tT 26) .ret .skip))) (.region [oM 15 4,
 oM 16 4,oO 17 (.bin .sub .num (tT 16) (.const (.int .u64 1))),oO 18 (.bin .and .num (tT 15) (tT 17)),oM 4 18]))))))) (.region [oO 27 (.bin .add .num (tT 8) (kI 1)),oM 8 27])))))))
theorem ok98 : FnOk Tryz.prog 98 28 ir98 [] := fnOk_of mixed Tryz.func98 (by kernel_rfl) Tryz.ntmps98 (by kernel_rfl) (by kernel_rfl)

def ir99 : ACode := (sQ (.region [oO 2 (.mov (kI 0))]) (sQ (sQ (.region [oM 3 0,oO 4 (.bin .eql .num (tT 3) (.const (.int .u64 0)))]) (.cond (tT 4) (sQ (.region [oO 2 (.mov (kI 64))]) .ret) .skip)) (sQ (.region [oM 5 0,
 oM 6 0,oO 7 (.una .neg (tT 6)),oO 8 (.bin .and .num (tT 5) (tT 7)),oO 9 (.bin .mul .num (tT 8) (.const (.int .u64 285870213051353865))),oO 10 (.bin .shr .num (tT 9) (.const (.int .u64 58))),oO 11 (.iaddrA 64 1 (.global 0) (tT 10)),
 oO 12 (.load false 1 (tT 11)),oO 13 (.conv .i64 (tT 12)),oM 2 13]) .ret)))
theorem ok99 : FnOk Tryz.prog 99 14 ir99 [.tmp 2] := fnOk_of mixed Tryz.func99 (by kernel_rfl) Tryz.ntmps99 (by kernel_rfl) (by kernel_rfl)

def ir100 : ACode := (sQ (.region [oO 8 (.alloc [(.int .i64 0),(.int .i64 0),nS,nS])]) (sQ (.region [oM 12 0,oO 13 (kC 127 [(tT 12)]),oM 9 13]) (sQ (sQ (.region [oM 14 1,oO 15 (.bin .leq .num (tT 14) (kI 1)),
 oM 16 15,oF 16 17 (.mov (tT 9)),oF 16 18 (.bin .rem .num (tT 17) (kI 8)),oF 16 19 (.bin .leq .num (tT 18) (kI 1)),oO 20 (.pick (tT 16) kT (tT 19))]) (.cond (tT 20) (sQ (.block 0 (sQ (.region [oM 22 2,oO 23 (.bin .eql .num (tT 22) (kI 3)),
 oM 24 23,oT 24 25 (.mov (tT 1)),oT 24 26 (.bin .gtr .num (tT 25) (kI 1)),oO 27 (.pick (tT 24) (tT 26) kF),oM 21 27]) (.cond (tT 21) (sQ (.region [oM 28 0,oM 29 9,oO 30 (.bin .quo .num (tT 29) (kI 8)),oM 31 1,
 oM 32 2,oM 33 3,oO 34 (kC 128 [(tT 28),(tT 30),(tT 31),(tT 32),(tT 33)]),⟨none,.store 4 (tT 8) (tT 34),none⟩]) .ret) (sQ (.region [oM 36 2,oO 37 (.bin .eql .num (tT 36) (kI 3)),oM 38 37,oF 38 39 (.mov (tT 9)),
 oF 38 40 (.bin .rem .num (tT 39) (kI 16)),oF 38 41 (.bin .eql .num (tT 40) (kI 9)),oO 42 (.pick (tT 38) kT (tT 41)),oM 35 42]) (.cond (tT 35) (sQ (.region [oM 43 9,oO 44 (.bin .quo .num (tT 43) (kI 16)),
 oO 45 (.bin .rem .num (tT 44) (kI 2)),oO 46 (.bin .add .num (kI 2) (tT 45)),oO 47 (.build [(.int .i64 0),(.int .i64 0),nS,nS] [(0,1,(tT 46))]),⟨none,.store 4 (tT 8) (tT 47),none⟩]) .ret) .skip))))) (sQ (.region [oM 48 9,
 oO 49 (.bin .quo .num (tT 48) (kI 8)),oM 50 3,oO 51 (.bin .rem .num (tT 49) (tT 50)),oO 52 (.bin .add .num (kI 1) (tT 51)),oO 53 (.bslice [(.int .i64 0)] 1 [(0,(tT 52))]),oO 54 (.build [(.int .i64 0),(.int .i64 0),
 nS,nS] [(0,1,(kI 4)),(2,1,(tT 53))]),⟨none,.store 4 (tT 8) (tT 54),none⟩]) .ret)) .skip)) (sQ (sQ (.region [oM 55 9,oO 56 (.bin .rem .num (tT 55) (kI 8)),oO 57 (.bin .geq .num (tT 56) (kI 6))]) (.cond (tT 57) (sQ (.region [oM 58 0,
 oM 59 9,oO 60 (.bin .quo .num (tT 59) (kI 8)),oM 61 1,oM 62 2,oM 63 3,oO 64 (kC 128 [(tT 58),(tT 60),(tT 61),(tT 62),(tT 63)]),⟨none,.store 4 (tT 8) (tT 64),none⟩]) .ret) .skip)) (sQ (.region [oM 65 0,
 oM 66 1,oO 67 (.bin .sub .num (tT 66) (kI 1)),oM 68 2,oM 69 3,oO 70 (kC 100 [(tT 65),(tT 67),(tT 68),(tT 69)]),oO 10 (.alloc [(.int .i64 0),(.int .i64 0),nS,nS]),⟨none,.store 4 (tT 10) (tT 70),none⟩]) (sQ (sQ (.region [oM 71 9,
 oO 72 (.bin .rem .num (tT 71) (kI 8)),oO 73 (.bin .eql .num (tT 72) (kI 2))]) (.cond (tT 73) (sQ (.region [oO 74 (.load true 4 (tT 10)),oO 75 (.bslice [(.int .i64 0),(.int .i64 0),nS,nS] 1 [(0,(tT 74))]),
 oO 76 (.build [(.int .i64 0),(.int .i64 0),nS,nS] [(0,1,(kI 7)),(3,1,(tT 75))]),⟨none,.store 4 (tT 8) (tT 76),none⟩]) .ret) .skip)) (sQ (.region [oM 77 0,oM 78 1,oO 79 (.bin .sub .num (tT 78) (kI 1)),oM 80 2,
 oM 81 3,oO 82 (kC 100 [(tT 77),(tT 79),(tT 80),(tT 81)]),oO 11 (.alloc [(.int .i64 0),(.int .i64 0),nS,nS]),⟨none,.store 4 (tT 11) (tT 82),none⟩]) (sQ (.region [oM 83 9,oO 84 (.bin .rem .num (tT 83) (kI 8)),
 oO 85 (.bin .add .num (kI 8) (tT 84)),oO 86 (.bin .sub .num (tT 85) (kI 3)),oO 87 (.load true 4 (tT 10)),oO 88 (.load true 4 (tT 11)),oO 89 (.bslice [(.int .i64 0),(.int .i64 0),nS,nS] 2 [(0,(tT 87)),(1,
 (tT 88))]),oO 90 (.build [(.int .i64 0),(.int .i64 0),nS,nS] [(0,1,(tT 86)),(3,1,(tT 89))]),⟨none,.store 4 (tT 8) (tT 90),none⟩]) .ret))))))))
theorem ok100 : FnOk Tryz.prog 100 91 ir100 [.cell 8 true 4] := fnOk_of mixed Tryz.func100 (by kernel_rfl) Tryz.ntmps100 (by kernel_rfl) (by kernel_rfl)

def ir101 : ACode := (sQ (.region [oO 2 (.mov kF)]) (sQ (sQ (.region [oM 6 0,oO 7 (.lenS (tT 6)),oO 8 (.bin .eql .num (tT 7) (kI 0)),oM 9 8,oF 9 10 (.mov (tT 0)),oF 9 11 (.lenS (tT 10)),oF 9 12 (.bin .gtr .num (tT 11) (kI 12)),
 oO 13 (.pick (tT 9) kT (tT 12)),oM 14 13,oF 14 15 (kC 130 []),oF 14 16 (.mov (tT 0)),oF 14 17 (kC 129 [(tT 15),(tT 16)]),oO 18 (.pick (tT 14) kT (tT 17))]) (.cond (tT 18) (sQ (.region [oO 2 (.mov kF)]) .ret) .skip)) (sQ (.region [oO 3 (.alloc [.nilFunc]),
 ⟨none,.store 1 (tT 3) (.func 131),none⟩]) (sQ (.region [oO 19 (.mkfn 132 [(tT 3)]),oM 4 19]) (sQ (sQ (.region [oM 20 0,oO 21 (.lenS (tT 20)),oO 22 (.mov (kI 0))]) (.block 0 (.loop (sQ (.region [oO 23 (.bin .lss .num (tT 22) (tT 21))]) (sQ (.cond (tT 23) .skip (.exit 0)) (sQ (.block 1 (sQ (.region [oM 24 22,
 oM 5 24]) (sQ (.draw [⟨0,oM 25 4,0,1,false⟩,⟨1,oM 26 0,0,1,false⟩,⟨2,oM 27 5,0,1,false⟩,⟨3,oO 28 (.indexS (tT 26) (tT 27)),6,1,false⟩,⟨4,oO 29 (.call (tT 25) [(tT 28)]),15,1,false⟩,⟨5,oO 30 (.una .not (tT 29)),
 31,1,false⟩,⟨6,oM 31 30,63,1,false⟩,⟨7,oF 31 32 (.mov (tT 5)),127,1,false⟩,⟨8,oF 31 33 (.bin .eql .num (tT 32) (kI 0)),255,1,false⟩,⟨9,oF 31 34 (.mov (tT 33)),511,1,false⟩,⟨10,oT 34 35 (.load false 1 (tT 3)),
 1023,1,false⟩,⟨11,oT 34 36 (.mov (tT 0)),1023,0,false⟩,⟨12,oT 34 37 (.mov (tT 5)),1023,0,false⟩,⟨13,oT 34 38 (.indexS (tT 36) (tT 37)),7167,0,false⟩,⟨14,oT 34 39 (.call (tT 35) [(tT 38)]),16383,1,false⟩,
 ⟨15,oT 34 40 (.una .not (tT 39)),32767,1,false⟩,⟨16,oF 31 41 (.pick (tT 34) (tT 40) kF),65535,1,false⟩,⟨17,oO 42 (.pick (tT 31) kT (tT 41)),131071,1,false⟩]) (.cond (tT 42) (sQ (.region [oO 2 (.mov kF)]) .ret) .skip)))) (.region [oO 43 (.bin .add .num (tT 22) (kI 1)),
 oM 22 43]))))))) (sQ (.region [oO 2 (.mov kT)]) .ret))))))
theorem ok101 : FnOk Tryz.prog 101 44 ir101 [.tmp 2] := fnOk_of mixed Tryz.func101 (by kernel_rfl) Tryz.ntmps101 (by kernel_rfl) (by kernel_rfl)

def ir102 : ACode := (sQ (.region [oO 2 (.box (tT 0)),oO 4 (.mov (kI 0))]) (sQ (sQ (.region [oM 6 1,oO 7 (.bin .lss .num (tT 6) (.const (.int .u8 1))),oM 8 7,oF 8 9 (.mov (tT 1)),oF 8 10 (.bin .gtr .num (tT 9) (.const (.int .u8 3))),
 oO 11 (.pick (tT 8) kT (tT 10))]) (.cond (tT 11) (sQ (.region [oO 4 (.mov (kI 1))]) .ret) .skip)) (sQ (sQ (.region [oO 12 (.load true 4 (tT 2)),oM 13 1,oO 14 (kC 108 [(tT 12),(tT 13)]),oM 5 14]) (sQ (.region [oM 15 5,
 oO 16 (.bin .neq .num (tT 15) (kI 0))]) (.cond (tT 16) (sQ (.region [oM 17 5,oM 4 17]) .ret) .skip))) (sQ (sQ (.region [oO 18 (.load true 4 (tT 2)),oO 19 (kC 109 [(tT 18)]),oO 20 (.una .not (tT 19)),oM 21 20,
 oF 21 22 (.faddr 0 (tT 2)),oF 21 23 (.load false 1 (tT 22)),oF 21 24 (kC 110 [(tT 23)]),oF 21 25 (.bin .neq .num (tT 24) (.const (.int .u8 1))),oO 26 (.pick (tT 21) kT (tT 25))]) (.cond (tT 26) (sQ (.region [oO 4 (.mov (kI 10))]) .ret) .skip)) (sQ (sQ (.region [oM 27 1,
 oO 28 (.bin .neq .num (tT 27) (.const (.int .u8 3))),oM 29 28,oT 29 30 (.load true 4 (tT 2)),oT 29 31 (kC 133 [(tT 30)]),oT 29 32 (kC 134 [(tT 31)]),oT 29 33 (.bin .gtr .num (tT 32) (kI 8)),oO 34 (.pick (tT 29) (tT 33) kF)]) (.cond (tT 34) (sQ (.region [oO 4 (.mov (kI 3))]) .ret) .skip)) (sQ (.region [oO 4 (.mov (kI 0))]) .ret))))))
theorem ok102 : FnOk Tryz.prog 102 35 ir102 [.tmp 4] := fnOk_of mixed Tryz.func102 (by kernel_rfl) Tryz.ntmps102 (by kernel_rfl) (by kernel_rfl)

def ir103 : ACode := (sQ (.region [oO 2 (.mov kF)]) (sQ (sQ (.region [oM 8 0,oO 9 (.lenS (tT 8)),oO 10 (.bin .eql .num (tT 9) (kI 0)),oM 11 10,oF 11 12 (.mov (tT 0)),oF 11 13 (.lenS (tT 12)),oF 11 14 (.bin .gtr .num (tT 13) (kI 12)),
 oO 15 (.pick (tT 11) kT (tT 14))]) (.cond (tT 15) (sQ (.region [oO 2 (.mov kF)]) .ret) .skip)) (sQ (sQ (.region [oO 3 (.mov (kI 0))]) (.block 0 (.loop (sQ (sQ (.region [oM 16 3,oM 17 0,oO 18 (.lenS (tT 17)),
 oO 19 (.bin .lss .num (tT 16) (tT 18))]) (.cond (tT 19) .skip (.exit 0))) (sQ (.block 1 (sQ (.region [oM 22 0,oM 23 3,oO 24 (.indexS (tT 22) (tT 23)),oO 25 (.bin .geq .num (tT 24) (.const (.int .u8 97))),
 oM 26 25,oT 26 27 (.mov (tT 0)),oT 26 28 (.mov (tT 3)),oT 26 29 (.indexS (tT 27) (tT 28)),oT 26 30 (.bin .leq .num (tT 29) (.const (.int .u8 122))),oO 31 (.pick (tT 26) (tT 30) kF),oM 4 31]) (sQ (.region [oM 32 0,
 oM 33 3,oO 34 (.indexS (tT 32) (tT 33)),oO 35 (.bin .geq .num (tT 34) (.const (.int .u8 48))),oM 36 35,oT 36 37 (.mov (tT 0)),oT 36 38 (.mov (tT 3)),oT 36 39 (.indexS (tT 37) (tT 38)),oT 36 40 (.bin .leq .num (tT 39) (.const (.int .u8 57))),
 oO 41 (.pick (tT 36) (tT 40) kF),oM 42 41,oF 42 43 (.mov (tT 0)),oF 42 44 (.mov (tT 3)),oF 42 45 (.indexS (tT 43) (tT 44)),oF 42 46 (.bin .eql .num (tT 45) (.const (.int .u8 95))),oO 47 (.pick (tT 42) kT (tT 46)),
 oM 5 47]) (sQ (.region [oM 48 4,oO 49 (.una .not (tT 48)),oM 50 49,oT 50 51 (.mov (tT 3)),oT 50 52 (.bin .eql .num (tT 51) (kI 0)),oT 50 53 (.mov (tT 52)),oF 53 54 (.mov (tT 5)),oF 53 55 (.una .not (tT 54)),
 oT 50 56 (.pick (tT 53) kT (tT 55)),oO 57 (.pick (tT 50) (tT 56) kF)]) (.cond (tT 57) (sQ (.region [oO 2 (.mov kF)]) .ret) .skip))))) (.region [oM 20 3,oO 21 (.bin .add .num (tT 20) (kI 1)),oM 3 21])))))) (sQ (sQ (.region [oO 58 (kC 135 []),
 oO 59 (.len (tT 58)),oO 60 (.mov (kI 0))]) (.block 2 (.loop (sQ (.region [oO 61 (.bin .lss .num (tT 60) (tT 59))]) (sQ (.cond (tT 61) .skip (.exit 2)) (sQ (.block 3 (sQ (.region [oO 62 (.iaddr 1 (tT 58) (tT 60)),
 oO 63 (.load false 1 (tT 62)),oM 7 63]) (sQ (.region [oM 64 7,oM 65 0,oO 66 (.bin .eql .num (tT 64) (tT 65))]) (.cond (tT 66) (sQ (.region [oO 2 (.mov kF)]) .ret) .skip)))) (.region [oO 67 (.bin .add .num (tT 60) (kI 1)),
 oM 60 67]))))))) (sQ (.region [oO 2 (.mov kT)]) .ret)))))
theorem ok103 : FnOk Tryz.prog 103 68 ir103 [.tmp 2] := fnOk_of mixed Tryz.func103 (by kernel_rfl) Tryz.ntmps103 (by kernel_rfl) (by kernel_rfl)

def ir104 : ACode := (sQ (.region [oO 2 (.box (tT 0)),oO 4 (.mov (kI 0))]) (sQ (sQ (.region [oM 6 1,oO 7 (.bin .lss .num (tT 6) (kI 1)),oM 8 7,oF 8 9 (.mov (tT 1)),oF 8 10 (.bin .gtr .num (tT 9) (kI 3)),
 oO 11 (.pick (tT 8) kT (tT 10))]) (.cond (tT 11) (sQ (.region [oO 4 (.mov (kI 1))]) .ret) .skip)) (sQ (sQ (.region [oO 12 (.load true 4 (tT 2)),oO 13 (kC 136 [(tT 12)]),oO 14 (.bin .gtr .num (tT 13) (kI 10)),
 oM 15 14,oF 15 16 (.load true 4 (tT 2)),oF 15 17 (kC 137 [(tT 16)]),oF 15 18 (.bin .gtr .num (tT 17) (kI 200)),oO 19 (.pick (tT 15) kT (tT 18))]) (.cond (tT 19) (sQ (.region [oO 4 (.mov (kI 3))]) .ret) .skip)) (sQ (.region [oO 20 (.load true 4 (tT 2)),
 oM 21 1,oO 22 (kC 138 [(tT 20),(tT 21)]),oM 5 22]) (sQ (sQ (.region [oM 23 5,oO 24 (.bin .neq .num (tT 23) (kI 0))]) (.cond (tT 24) (sQ (.region [oM 25 5,oM 4 25]) .ret) .skip)) (sQ (sQ (.region [oO 26 (.load true 4 (tT 2)),
 oO 27 (kC 139 [(tT 26)]),oO 28 (.una .not (tT 27)),oM 29 28,oF 29 30 (.faddr 0 (tT 2)),oF 29 31 (.load false 1 (tT 30)),oF 29 32 (kC 140 [(tT 31)]),oF 29 33 (.bin .neq .num (tT 32) (kI 1)),oO 34 (.pick (tT 29) kT (tT 33))]) (.cond (tT 34) (sQ (.region [oO 4 (.mov (kI 10))]) .ret) .skip)) (sQ (sQ (.region [oM 35 1,
 oO 36 (.bin .neq .num (tT 35) (kI 3)),oM 37 36,oT 37 38 (.load true 4 (tT 2)),oT 37 39 (kC 142 [(tT 38)]),oT 37 40 (kC 141 [(tT 39)]),oT 37 41 (.bin .gtr .num (tT 40) (kI 8)),oO 42 (.pick (tT 37) (tT 41) kF)]) (.cond (tT 42) (sQ (.region [oO 4 (.mov (kI 3))]) .ret) .skip)) (sQ (.region [oO 4 (.mov (kI 0))]) .ret))))))))
theorem ok104 : FnOk Tryz.prog 104 43 ir104 [.tmp 4] := fnOk_of mixed Tryz.func104 (by kernel_rfl) Tryz.ntmps104 (by kernel_rfl) (by kernel_rfl)

def ir105 : ACode := (sQ (.region [oO 1 (.box (tT 0)),oO 2 (.mov (kI 0)),oO 3 (.mov (kI 0))]) (sQ (sQ (.region [oO 5 (.load true 4 (tT 1)),oO 6 (kC 136 [(tT 5)]),oO 7 (.bin .gtr .num (tT 6) (kI 10)),oM 8 7,
 oF 8 9 (.load true 4 (tT 1)),oF 8 10 (kC 137 [(tT 9)]),oF 8 11 (.bin .gtr .num (tT 10) (kI 200)),oO 12 (.pick (tT 8) kT (tT 11))]) (.cond (tT 12) (sQ (.region [oO 2 (.mov (kI 0)),oO 3 (.mov (kI 3))]) .ret) .skip)) (sQ (.region [oO 13 (.load true 4 (tT 1)),
 oO 14 (kC 138 [(tT 13),(kI 0)]),oM 4 14]) (sQ (sQ (.region [oM 15 4,oO 16 (.bin .neq .num (tT 15) (kI 0))]) (.cond (tT 16) (sQ (.region [oM 17 4,oO 2 (.mov (kI 0)),oM 3 17]) .ret) .skip)) (sQ (sQ (.region [oO 18 (.load true 4 (tT 1)),
 oO 19 (kC 139 [(tT 18)]),oO 20 (.una .not (tT 19))]) (.cond (tT 20) (sQ (.region [oO 2 (.mov (kI 0)),oO 3 (.mov (kI 10))]) .ret) .skip)) (sQ (.region [oO 21 (.faddr 0 (tT 1)),oO 22 (.load false 1 (tT 21)),
 oO 23 (kC 140 [(tT 22)]),oM 2 23,oO 3 (.mov (kI 0))]) .ret))))))
theorem ok105 : FnOk Tryz.prog 105 24 ir105 [.tmp 2, .tmp 3] := fnOk_of mixed Tryz.func105 (by kernel_rfl) Tryz.ntmps105 (by kernel_rfl) (by kernel_rfl)

def ir106 : ACode := (sQ (.region [oO 3 (.box (tT 0)),oO 6 (.mov kF)]) (sQ (sQ (.region [oO 9 (.faddr 0 (tT 3)),oO 10 (.load false 1 (tT 9))]) (.block 0 (sQ (.region [oO 12 (.bin .eql .num (tT 10) (kI 2)),
 oM 11 12]) (.cond (tT 11) (sQ (.region [oO 6 (.mov kT)]) .ret) (sQ (.region [oO 14 (.bin .eql .num (tT 10) (kI 3)),oM 13 14]) (.cond (tT 13) (sQ (.region [oO 6 (.mov kF)]) .ret) (sQ (.region [oO 16 (.bin .eql .num (tT 10) (kI 4)),
 oM 15 16]) (.cond (tT 15) (sQ (.region [oM 17 1,oO 18 (.faddr 2 (tT 3)),oO 19 (.load false 1 (tT 18)),oO 20 (.iaddr 1 (tT 19) (kI 0)),oO 21 (.load false 1 (tT 20)),oO 22 (.conv .u64 (tT 21)),oO 23 (.bin .shr .num (tT 17) (tT 22)),
 oO 24 (.bin .rem .num (tT 23) (.const (.int .u64 2))),oO 25 (.bin .eql .num (tT 24) (.const (.int .u64 1))),oM 6 25]) .ret) (sQ (.region [oO 27 (.bin .eql .num (tT 10) (kI 7)),oM 26 27]) (.cond (tT 26) (sQ (.region [oO 28 (.faddr 3 (tT 3)),
 oO 29 (.load false 1 (tT 28)),oO 30 (.iaddr 4 (tT 29) (kI 0)),oO 31 (.load true 4 (tT 30)),oM 32 1,oM 33 2,oO 34 (kC 106 [(tT 31),(tT 32),(tT 33)]),oO 35 (.una .not (tT 34)),oM 6 35]) .ret) (sQ (.region [oO 37 (.bin .eql .num (tT 10) (kI 8)),
 oM 36 37]) (.cond (tT 36) (sQ (.region [oO 38 (.faddr 3 (tT 3)),oO 39 (.load false 1 (tT 38)),oO 40 (.iaddr 4 (tT 39) (kI 0)),oO 41 (.load true 4 (tT 40)),oM 42 1,oM 43 2,oO 44 (kC 106 [(tT 41),(tT 42),
 (tT 43)]),oM 45 44,oT 45 46 (.faddr 3 (tT 3)),oT 45 47 (.load false 1 (tT 46)),oT 45 48 (.iaddr 4 (tT 47) (kI 1)),oT 45 49 (.load true 4 (tT 48)),oT 45 50 (.mov (tT 1)),oT 45 51 (.mov (tT 2)),oT 45 52 (kC 106 [(tT 49),
 (tT 50),(tT 51)]),oO 53 (.pick (tT 45) (tT 52) kF),oM 6 53]) .ret) (sQ (.region [oO 55 (.bin .eql .num (tT 10) (kI 9)),oM 54 55]) (.cond (tT 54) (sQ (.region [oO 56 (.faddr 3 (tT 3)),oO 57 (.load false 1 (tT 56)),
 oO 58 (.iaddr 4 (tT 57) (kI 0)),oO 59 (.load true 4 (tT 58)),oM 60 1,oM 61 2,oO 62 (kC 106 [(tT 59),(tT 60),(tT 61)]),oM 63 62,oF 63 64 (.faddr 3 (tT 3)),oF 63 65 (.load false 1 (tT 64)),oF 63 66 (.iaddr 4 (tT 65) (kI 1)),
 oF 63 67 (.load true 4 (tT 66)),oF 63 68 (.mov (tT 1)),oF 63 69 (.mov (tT 2)),oF 63 70 (kC 106 [(tT 67),(tT 68),(tT 69)]),oO 71 (.pick (tT 63) kT (tT 70)),oM 6 71]) .ret) (sQ (.region [oO 73 (.bin .eql .num (tT 10) (kI 10)),
 oM 72 73]) (.cond (tT 72) (sQ (.region [oO 74 (.faddr 3 (tT 3)),oO 75 (.load false 1 (tT 74)),oO 76 (.iaddr 4 (tT 75) (kI 0)),oO 77 (.load true 4 (tT 76)),oM 78 1,oM 79 2,oO 80 (kC 106 [(tT 77),(tT 78),
 (tT 79)]),oO 81 (.una .not (tT 80)),oM 82 81,oF 82 83 (.faddr 3 (tT 3)),oF 82 84 (.load false 1 (tT 83)),oF 82 85 (.iaddr 4 (tT 84) (kI 1)),oF 82 86 (.load true 4 (tT 85)),oF 82 87 (.mov (tT 1)),oF 82 88 (.mov (tT 2)),
 oF 82 89 (kC 106 [(tT 86),(tT 87),(tT 88)]),oO 90 (.pick (tT 82) kT (tT 89)),oM 6 90]) .ret) .skip)))))))))))))))) (sQ (.draw [⟨0,oO 91 (.faddr 3 (tT 3)),0,0,false⟩,⟨1,oO 92 (.load false 1 (tT 91)),1,0,
 false⟩,⟨2,oO 93 (.iaddr 4 (tT 92) (kI 0)),3,0,false⟩,⟨3,oO 94 (.load true 4 (tT 93)),7,0,false⟩,⟨4,oM 95 1,0,0,false⟩,⟨5,oM 96 2,0,0,false⟩,⟨6,oO 97 (kC 143 [(tT 94),(tT 95),(tT 96)]),63,0,false⟩,⟨7,oO 98 (.faddr 3 (tT 3)),
 0,0,false⟩,⟨8,oO 99 (.load false 1 (tT 98)),128,0,false⟩,⟨9,oO 100 (.iaddr 4 (tT 99) (kI 1)),384,0,false⟩,⟨10,oO 101 (.load true 4 (tT 100)),896,0,false⟩,⟨11,oM 102 1,0,0,false⟩,⟨12,oM 103 2,0,0,false⟩,
 ⟨13,oO 104 (kC 143 [(tT 101),(tT 102),(tT 103)]),8191,1,false⟩,⟨14,oM 7 97,16383,1,false⟩,⟨15,oM 8 104,32767,1,false⟩]) (sQ (sQ (.region [oO 105 (.faddr 0 (tT 3)),oO 106 (.load false 1 (tT 105))]) (.block 1 (sQ (.region [oO 108 (.bin .eql .num (tT 106) (kI 11)),
 oM 107 108]) (.cond (tT 107) (sQ (.region [oM 109 7,oM 110 8,oO 111 (.bin .leq .num (tT 109) (tT 110)),oM 6 111]) .ret) (sQ (.region [oO 113 (.bin .eql .num (tT 106) (kI 12)),oM 112 113]) (.cond (tT 112) (sQ (.region [oM 114 7,
 oM 115 8,oO 116 (.bin .lss .num (tT 114) (tT 115)),oM 6 116]) .ret) (sQ (.region [oO 118 (.bin .eql .num (tT 106) (kI 13)),oM 117 118]) (.cond (tT 117) (sQ (.region [oM 119 7,oM 120 8,oO 121 (.bin .geq .num (tT 119) (tT 120)),
 oM 6 121]) .ret) (sQ (.region [oO 123 (.bin .eql .num (tT 106) (kI 14)),oM 122 123]) (.cond (tT 122) (sQ (.region [oM 124 7,oM 125 8,oO 126 (.bin .gtr .num (tT 124) (tT 125)),oM 6 126]) .ret) .skip)))))))))) (sQ (.region [oM 127 7,
 oM 128 8,oO 129 (.bin .eql .num (tT 127) (tT 128)),oM 6 129]) .ret)))))
theorem ok106 : FnOk Tryz.prog 106 130 ir106 [.tmp 6] := fnOk_of mixed Tryz.func106 (by kernel_rfl) Tryz.ntmps106 (by kernel_rfl) (by kernel_rfl)

def ir107 : ACode := (sQ (.region [oO 3 (.box (tT 1)),oO 4 (.mov (.const nS)),oO 5 (.mov (kI 0))]) (sQ (sQ (.region [oO 12 (.faddr 0 (tT 3)),oO 13 (.load false 1 (tT 12)),oO 14 (.bin .lss .num (tT 13) (kI 1)),
 oM 15 14,oF 15 16 (.faddr 0 (tT 3)),oF 15 17 (.load false 1 (tT 16)),oF 15 18 (.bin .gtr .num (tT 17) (kI 256)),oO 19 (.pick (tT 15) kT (tT 18)),oM 20 19,oF 20 21 (.faddr 1 (tT 3)),oF 20 22 (.load false 1 (tT 21)),
 oF 20 23 (.bin .lss .num (tT 22) (kI 1)),oO 24 (.pick (tT 20) kT (tT 23)),oM 25 24,oF 25 26 (.faddr 1 (tT 3)),oF 25 27 (.load false 1 (tT 26)),oF 25 28 (.bin .gtr .num (tT 27) (kI 63)),oO 29 (.pick (tT 25) kT (tT 28))]) (.cond (tT 29) (sQ (.region [oO 4 (.mov (.const nS)),
 oO 5 (.mov (kI 1))]) .ret) .skip)) (sQ (sQ (.region [oO 30 (.faddr 2 (tT 3)),oO 31 (.load false 1 (tT 30)),oO 32 (.bin .lss .num (tT 31) (kI 0)),oM 33 32,oF 33 34 (.faddr 2 (tT 3)),oF 33 35 (.load false 1 (tT 34)),
 oF 33 36 (.bin .gtr .num (tT 35) (kI 30000)),oO 37 (.pick (tT 33) kT (tT 36))]) (.cond (tT 37) (sQ (.region [oO 4 (.mov (.const nS)),oO 5 (.mov (kI 2))]) .ret) .skip)) (sQ (.region [oM 39 0,oO 40 (.faddr 0 (tT 3)),
 oO 41 (.load false 1 (tT 40)),oO 42 (.faddr 1 (tT 3)),oO 43 (.load false 1 (tT 42)),oO 44 (kC 144 [(tT 39),(tT 41),(tT 43)]),oM 38 44,oO 45 (.extract (tT 38) 0),oO 46 (.extract (tT 38) 1),oM 6 45,oM 7 46]) (sQ (sQ (.region [oM 47 7,
 oO 48 (.bin .neq .num (tT 47) (kI 0))]) (.cond (tT 48) (.region [oM 49 0,oM 6 49]) .skip)) (sQ (.region [oO 8 (.mov (.const nS))]) (sQ (.region [oO 9 (.mov kF)]) (sQ (sQ (.region [oM 50 6,oO 51 (.len (tT 50)),
 oO 52 (.mov (kI 0))]) (.block 0 (.loop (sQ (.region [oO 53 (.bin .lss .num (tT 52) (tT 51))]) (sQ (.cond (tT 53) .skip (.exit 0)) (sQ (.block 1 (sQ (.region [oO 54 (.iaddr 3 (tT 50) (tT 52)),oO 55 (.load true 3 (tT 54)),
 oO 11 (.alloc [(.int .i64 0),(.int .i64 0),(.int .i64 0)]),⟨none,.store 3 (tT 11) (tT 55),none⟩]) (sQ (sQ (.region [oM 56 9,oO 57 (.una .not (tT 56)),oM 58 57,oT 58 59 (.load true 3 (tT 3)),oT 58 60 (.load true 3 (tT 11)),
 oT 58 61 (kC 145 [(tT 59),(tT 60)]),oO 62 (.pick (tT 58) (tT 61) kF)]) (.cond (tT 62) (sQ (.region [oM 63 8,oO 64 (.load true 3 (tT 3)),oO 65 (.bslice [(.int .i64 0),(.int .i64 0),(.int .i64 0)] 1 [(0,
 (tT 64))]),oO 66 (.append [(.int .i64 0),(.int .i64 0),(.int .i64 0)] 24 (tT 63) (tT 65)),oM 8 66]) (.region [oO 9 (.mov kT)])) .skip)) (.region [oM 67 8,oO 68 (.load true 3 (tT 11)),oO 69 (.bslice [(.int .i64 0),
 (.int .i64 0),(.int .i64 0)] 1 [(0,(tT 68))]),oO 70 (.append [(.int .i64 0),(.int .i64 0),(.int .i64 0)] 24 (tT 67) (tT 69)),oM 8 70])))) (.region [oO 71 (.bin .add .num (tT 52) (kI 1)),oM 52 71]))))))) (sQ (sQ (.region [oM 72 9,
 oO 73 (.una .not (tT 72))]) (.cond (tT 73) (.region [oM 74 8,oO 75 (.load true 3 (tT 3)),oO 76 (.bslice [(.int .i64 0),(.int .i64 0),(.int .i64 0)] 1 [(0,(tT 75))]),oO 77 (.append [(.int .i64 0),(.int .i64 0),
 (.int .i64 0)] 24 (tT 74) (tT 76)),oM 8 77]) .skip)) (sQ (.region [oM 78 8,oM 4 78,oO 5 (.mov (kI 0))]) .ret))))))))))
theorem ok107 : FnOk Tryz.prog 107 79 ir107 [.tmp 4, .tmp 5] := fnOk_of mixed Tryz.func107 (by kernel_rfl) Tryz.ntmps107 (by kernel_rfl) (by kernel_rfl)

def ir108 : ACode := (sQ (.region [oO 2 (.box (tT 0)),oO 4 (.mov (kI 0))]) (sQ (.region [oO 8 (.load true 4 (tT 2)),oO 9 (kC 146 [(tT 8)]),oM 7 9,oO 10 (.extract (tT 7) 0),oO 11 (.extract (tT 7) 1),oM 5 10,
 oM 6 11]) (sQ (sQ (.region [oM 12 5,oO 13 (.bin .gtr .num (tT 12) (kI 10)),oM 14 13,oF 14 15 (.mov (tT 6)),oF 14 16 (.bin .gtr .num (tT 15) (kI 200)),oO 17 (.pick (tT 14) kT (tT 16))]) (.cond (tT 17) (sQ (.region [oO 4 (.mov (kI 3))]) .ret) .skip)) (sQ (.region [oO 18 (.load true 4 (tT 2)),
 oM 19 1,oO 20 (kC 147 [(tT 18),(tT 19)]),oM 4 20]) .ret))))
theorem ok108 : FnOk Tryz.prog 108 21 ir108 [.tmp 4] := fnOk_of mixed Tryz.func108 (by kernel_rfl) Tryz.ntmps108 (by kernel_rfl) (by kernel_rfl)

def ir109 : ACode := (sQ (.region [oO 1 (.box (tT 0)),oO 2 (.mov kF)]) (sQ (.region [oO 3 (.mov (.const (.int .u8 1)))]) (sQ (sQ (.region [oO 6 (.faddr 0 (tT 1)),oO 7 (.load false 1 (tT 6)),oO 8 (.bin .geq .num (tT 7) (.const (.int .u8 11)))]) (.cond (tT 8) (.region [oO 3 (.mov (.const (.int .u8 2)))]) .skip)) (sQ (sQ (.region [oO 9 (.faddr 3 (tT 1)),
 oO 10 (.load false 1 (tT 9)),oO 11 (.len (tT 10)),oO 12 (.mov (kI 0))]) (.block 0 (.loop (sQ (.region [oO 13 (.bin .lss .num (tT 12) (tT 11))]) (sQ (.cond (tT 13) .skip (.exit 0)) (sQ (.block 1 (sQ (.region [oO 14 (.iaddr 4 (tT 10) (tT 12)),
 oO 15 (.load true 4 (tT 14)),oO 5 (.alloc [(.int .u8 0),(.int .i64 0),nS,nS]),⟨none,.store 4 (tT 5) (tT 15),none⟩]) (sQ (.region [oO 16 (.faddr 0 (tT 5)),oO 17 (.load false 1 (tT 16)),oO 18 (kC 110 [(tT 17)]),
 oM 19 3,oO 20 (.bin .neq .num (tT 18) (tT 19)),oM 21 20,oF 21 22 (.load true 4 (tT 5)),oF 21 23 (kC 109 [(tT 22)]),oF 21 24 (.una .not (tT 23)),oO 25 (.pick (tT 21) kT (tT 24))]) (.cond (tT 25) (sQ (.region [oO 2 (.mov kF)]) .ret) .skip)))) (.region [oO 26 (.bin .add .num (tT 12) (kI 1)),
 oM 12 26]))))))) (sQ (.region [oO 2 (.mov kT)]) .ret)))))
theorem ok109 : FnOk Tryz.prog 109 27 ir109 [.tmp 2] := fnOk_of mixed Tryz.func109 (by kernel_rfl) Tryz.ntmps109 (by kernel_rfl) (by kernel_rfl)

def ir110 : ACode := (sQ (.region [oO 2 (.mov (.const (.int .u8 0)))]) (sQ (sQ (.region [oM 3 0]) (.block 0 (sQ (sQ (.region [oO 5 (.bin .eql .num (tT 3) (.const (.int .u8 1))),oM 4 5]) (.cond (tT 4) .skip (sQ (.region [oO 6 (.bin .eql .num (tT 3) (.const (.int .u8 5))),
 oM 4 6]) (.cond (tT 4) .skip (sQ (.region [oO 7 (.bin .eql .num (tT 3) (.const (.int .u8 6))),oM 4 7]) (.cond (tT 4) .skip (.region [oO 8 (.bin .eql .num (tT 3) (.const (.int .u8 16))),oM 4 8]))))))) (.cond (tT 4) (sQ (.region [oO 2 (.mov (.const (.int .u8 2)))]) .ret) .skip)))) (sQ (.region [oO 2 (.mov (.const (.int .u8 1)))]) .ret)))
theorem ok110 : FnOk Tryz.prog 110 9 ir110 [.tmp 2] := fnOk_of mixed Tryz.func110 (by kernel_rfl) Tryz.ntmps110 (by kernel_rfl) (by kernel_rfl)

def ir111 : ACode := (sQ (.region [oO 2 (.mov (kI 0))]) (sQ (sQ (.region [oM 3 0]) (.cond (tT 3) (sQ (.region [oO 2 (.mov (kI 1))]) .ret) .skip)) (sQ (.region [oO 2 (.mov (kI 0))]) .ret)))
theorem ok111 : FnOk Tryz.prog 111 4 ir111 [.tmp 2] := fnOk_of mixed Tryz.func111 (by kernel_rfl) Tryz.ntmps111 (by kernel_rfl) (by kernel_rfl)

def ir112 : ACode := (sQ (.region [oO 2 (.box (tT 0)),oO 4 (.mov (kI 0))]) (sQ (sQ (.region [oM 5 1,oO 6 (.bin .lss .num (tT 5) (kI 0)),oM 7 6,oF 7 8 (.mov (tT 1)),oF 7 9 (.faddr 1 (tT 2)),oF 7 10 (.load false 1 (tT 9)),
 oF 7 11 (.len (tT 10)),oF 7 12 (.bin .geq .num (tT 8) (tT 11)),oO 13 (.pick (tT 7) kT (tT 12)),oM 14 13,oF 14 15 (.faddr 1 (tT 2)),oF 14 16 (.load false 1 (tT 15)),oF 14 17 (.mov (tT 1)),oF 14 18 (.iaddr 1 (tT 16) (tT 17)),
 oF 14 19 (.load false 1 (tT 18)),oF 14 20 (.bin .lss .num (tT 19) (kI 0)),oO 21 (.pick (tT 14) kT (tT 20)),oM 22 21,oF 22 23 (.faddr 1 (tT 2)),oF 22 24 (.load false 1 (tT 23)),oF 22 25 (.mov (tT 1)),oF 22 26 (.iaddr 1 (tT 24) (tT 25)),
 oF 22 27 (.load false 1 (tT 26)),oF 22 28 (.bin .gtr .num (tT 27) (kI 256)),oO 29 (.pick (tT 22) kT (tT 28))]) (.cond (tT 29) (sQ (.region [oO 4 (.mov (kI 0))]) .ret) .skip)) (sQ (.region [oO 30 (.faddr 1 (tT 2)),
 oO 31 (.load false 1 (tT 30)),oM 32 1,oO 33 (.iaddr 1 (tT 31) (tT 32)),oO 34 (.load false 1 (tT 33)),oM 4 34]) .ret)))
theorem ok112 : FnOk Tryz.prog 112 35 ir112 [.tmp 4] := fnOk_of mixed Tryz.func112 (by kernel_rfl) Tryz.ntmps112 (by kernel_rfl) (by kernel_rfl)

def ir113 : ACode := (sQ (.region [oO 4 (.mov (kI 0))]) (sQ (sQ (.region [oM 6 0,oO 7 (.len (tT 6)),oO 8 (.mov (kI 0))]) (.block 0 (.loop (sQ (.region [oO 9 (.bin .lss .num (tT 8) (tT 7))]) (sQ (.cond (tT 9) .skip (.exit 0)) (sQ (.block 1 (sQ (.region [oM 10 8,
 oM 5 10]) (sQ (.region [oM 11 1,oM 12 0,oM 13 5,oO 14 (.iaddr 2 (tT 12) (tT 13)),oO 15 (.load true 2 (tT 14)),oO 16 (.call (tT 11) [(tT 15)])]) (.cond (tT 16) (sQ (.region [oM 17 5,oM 4 17]) .ret) .skip)))) (.region [oO 18 (.bin .add .num (tT 8) (kI 1)),
 oM 8 18]))))))) (sQ (.region [oO 4 (.mov (.const (.int .i64 (-1))))]) .ret)))
theorem ok113 : FnOk Tryz.prog 113 19 ir113 [.tmp 4] := fnOk_of mixed Tryz.func113 (by kernel_rfl) Tryz.ntmps113 (by kernel_rfl) (by kernel_rfl)

def ir114 : ACode := (sQ (.region [oO 3 (.box (tT 1)),oO 4 (.mov (kI 0))]) (sQ (sQ (.region [oM 6 0,oO 7 (.len (tT 6)),oO 8 (.mov (kI 0))]) (.block 0 (.loop (sQ (.region [oO 9 (.bin .lss .num (tT 8) (tT 7))]) (sQ (.cond (tT 9) .skip (.exit 0)) (sQ (.block 1 (sQ (.region [oM 10 8,
 oM 5 10]) (sQ (.draw [⟨0,oO 11 (.load true 2 (tT 3)),0,0,false⟩,⟨1,oM 12 0,0,0,false⟩,⟨2,oM 13 5,0,0,false⟩,⟨3,oO 14 (.iaddr 2 (tT 12) (tT 13)),6,0,false⟩,⟨4,oO 15 (.load true 2 (tT 14)),14,0,false⟩,⟨5,
 oO 16 (.bin .eql (.cells [0,0]) (tT 11) (tT 15)),31,1,false⟩]) (.cond (tT 16) (sQ (.region [oM 17 5,oM 4 17]) .ret) .skip)))) (.region [oO 18 (.bin .add .num (tT 8) (kI 1)),oM 8 18]))))))) (sQ (.region [oO 4 (.mov (.const (.int .i64 (-1))))]) .ret)))
theorem ok114 : FnOk Tryz.prog 114 19 ir114 [.tmp 4] := fnOk_of mixed Tryz.func114 (by kernel_rfl) Tryz.ntmps114 (by kernel_rfl) (by kernel_rfl)

def ir115 : ACode := (sQ (.region [oO 3 (.box (tT 1)),oO 4 (.mov (kI 0))]) (sQ (sQ (.region [oM 6 0,oO 7 (.len (tT 6)),oO 8 (.mov (kI 0))]) (.block 0 (.loop (sQ (.region [oO 9 (.bin .lss .num (tT 8) (tT 7))]) (sQ (.cond (tT 9) .skip (.exit 0)) (sQ (.block 1 (sQ (.region [oM 10 8,
 oM 5 10]) (sQ (.draw [⟨0,oO 11 (.load true 2 (tT 3)),0,0,false⟩,⟨1,oM 12 0,0,0,false⟩,⟨2,oM 13 5,0,0,false⟩,⟨3,oO 14 (.iaddr 2 (tT 12) (tT 13)),6,0,false⟩,⟨4,oO 15 (.load true 2 (tT 14)),14,0,false⟩,⟨5,
 oO 16 (.bin .eql (.cells [0,0]) (tT 11) (tT 15)),31,1,false⟩]) (.cond (tT 16) (sQ (.region [oM 17 5,oM 4 17]) .ret) .skip)))) (.region [oO 18 (.bin .add .num (tT 8) (kI 1)),oM 8 18]))))))) (sQ (.region [oO 4 (.mov (.const (.int .i64 (-1))))]) .ret)))
theorem ok115 : FnOk Tryz.prog 115 19 ir115 [.tmp 4] := fnOk_of mixed Tryz.func115 (by kernel_rfl) Tryz.ntmps115 (by kernel_rfl) (by kernel_rfl)

def ir118 : ACode := (sQ (.region [oO 6 (.mov (.const nS)),oO 7 (.mov (kI 0))]) (sQ (sQ (.region [oM 9 1,oO 10 (kC 61 [(tT 9)]),oO 11 (.una .not (tT 10)),oM 12 11,oF 12 13 (.mov (tT 2)),oF 12 14 (kC 61 [(tT 13)]),
 oF 12 15 (.una .not (tT 14)),oO 16 (.pick (tT 12) kT (tT 15)),oM 17 16,oF 17 18 (.mov (tT 1)),oF 17 19 (.mov (tT 2)),oF 17 20 (.bin .eql .num (tT 18) (tT 19)),oO 21 (.pick (tT 17) kT (tT 20))]) (.cond (tT 21) (sQ (.region [oM 22 0,
 oM 6 22,oO 7 (.mov (kI 1))]) .ret) .skip)) (sQ (sQ (.region [oM 23 0,oM 24 1,oM 25 2,oO 26 (kC 148 [(tT 23),(tT 24),(tT 25)])]) (.cond (tT 26) (sQ (.region [oM 27 0,oM 6 27,oO 7 (.mov (kI 5))]) .ret) .skip)) (sQ (sQ (.region [oM 28 0,
 oM 29 2,oM 30 1,oO 31 (kC 20 [(tT 28),(tT 29),(tT 30)])]) (.cond (tT 31) (sQ (.region [oM 32 0,oM 6 32,oO 7 (.mov (kI 16))]) .ret) .skip)) (sQ (.region [oO 8 (.mov (kI 0))]) (sQ (.block 0 (.loop (sQ (sQ (.region [oM 33 8,
 oM 34 0,oO 35 (.len (tT 34)),oO 36 (.bin .lss .num (tT 33) (tT 35)),oM 37 36,oT 37 38 (.mov (tT 0)),oT 37 39 (.mov (tT 8)),oT 37 40 (.iaddr 2 (tT 38) (tT 39)),oT 37 41 (.iaddrA 2 1 (tT 40) (kI 0)),oT 37 42 (.load false 1 (tT 41)),
 oT 37 43 (.mov (tT 1)),oT 37 44 (.bin .lss .num (tT 42) (tT 43)),oT 37 45 (.mov (tT 44)),oF 45 46 (.mov (tT 0)),oF 45 47 (.mov (tT 8)),oF 45 48 (.iaddr 2 (tT 46) (tT 47)),oF 45 49 (.iaddrA 2 1 (tT 48) (kI 0)),
 oF 45 50 (.load false 1 (tT 49)),oF 45 51 (.mov (tT 1)),oF 45 52 (.bin .eql .num (tT 50) (tT 51)),oF 45 53 (.mov (tT 52)),oT 53 54 (.mov (tT 0)),oT 53 55 (.mov (tT 8)),oT 53 56 (.iaddr 2 (tT 54) (tT 55)),
 oT 53 57 (.iaddrA 2 1 (tT 56) (kI 1)),oT 53 58 (.load false 1 (tT 57)),oT 53 59 (.mov (tT 2)),oT 53 60 (.bin .lss .num (tT 58) (tT 59)),oF 45 61 (.pick (tT 53) (tT 60) kF),oT 37 62 (.pick (tT 45) kT (tT 61)),
 oO 63 (.pick (tT 37) (tT 62) kF)]) (.cond (tT 63) .skip (.exit 0))) (.block 1 (.region [oM 64 8,oO 65 (.bin .add .num (tT 64) (kI 1)),oM 8 65]))))) (sQ (.draw [⟨0,oO 66 (.bslice [(.int .i64 0),(.int .i64 0)] 0 []),
 0,0,false⟩,⟨1,oM 67 0,0,0,false⟩,⟨2,oM 68 8,0,0,false⟩,⟨3,oO 69 (.slc 2 (tT 67) none (some (tT 68)) none),6,0,false⟩,⟨4,oO 70 (.append [(.int .i64 0),(.int .i64 0)] 16 (tT 66) (tT 69)),15,30,false⟩,⟨5,
 oM 71 1,0,0,false⟩,⟨6,oM 72 2,0,0,false⟩,⟨7,oO 73 (.build [(.int .i64 0),(.int .i64 0)] [(0,1,(tT 71)),(1,1,(tT 72))]),96,0,false⟩,⟨8,oO 74 (.bslice [(.int .i64 0),(.int .i64 0)] 1 [(0,(tT 73))]),224,0,
 false⟩,⟨9,oO 75 (.append [(.int .i64 0),(.int .i64 0)] 16 (tT 70) (tT 74)),511,1022,false⟩,⟨10,oM 76 0,0,0,false⟩,⟨11,oM 77 8,0,0,false⟩,⟨12,oO 78 (.slc 2 (tT 76) (some (tT 77)) none none),3072,0,false⟩,
 ⟨13,oO 79 (.append [(.int .i64 0),(.int .i64 0)] 16 (tT 75) (tT 78)),8191,1,false⟩,⟨14,oM 6 79,16383,1,false⟩,⟨15,oO 7 (.mov (kI 0)),32767,1,false⟩]) .ret)))))))
theorem ok118 : FnOk Tryz.prog 118 80 ir118 [.tmp 6, .tmp 7] := fnOk_of mixed Tryz.func118 (by kernel_rfl) Tryz.ntmps118 (by kernel_rfl) (by kernel_rfl)

def ir120 : ACode := (sQ (.region [oO 2 (.box (tT 0)),oO 3 (.box (tT 1)),oO 4 (.mov (kI 0))]) (sQ (sQ (.region [oO 5 (.iaddrA 2 1 (tT 2) (kI 0)),oO 6 (.load false 1 (tT 5)),oO 7 (.iaddrA 2 1 (tT 3) (kI 0)),
 oO 8 (.load false 1 (tT 7)),oO 9 (.bin .neq .num (tT 6) (tT 8))]) (.cond (tT 9) (sQ (.region [oO 10 (.iaddrA 2 1 (tT 2) (kI 0)),oO 11 (.load false 1 (tT 10)),oO 12 (.iaddrA 2 1 (tT 3) (kI 0)),oO 13 (.load false 1 (tT 12)),
 oO 14 (.bin .sub .num (tT 11) (tT 13)),oM 4 14]) .ret) .skip)) (sQ (.region [oO 15 (.iaddrA 2 1 (tT 2) (kI 1)),oO 16 (.load false 1 (tT 15)),oO 17 (.iaddrA 2 1 (tT 3) (kI 1)),oO 18 (.load false 1 (tT 17)),
 oO 19 (.bin .sub .num (tT 16) (tT 18)),oM 4 19]) .ret)))
theorem ok120 : FnOk Tryz.prog 120 20 ir120 [.tmp 4] := fnOk_of mixed Tryz.func120 (by kernel_rfl) Tryz.ntmps120 (by kernel_rfl) (by kernel_rfl)

def ir121 : ACode := (sQ (.region [oO 2 (.mov (.const nS))]) (sQ (.region [oM 3 0,oM 4 0,oO 5 (.len (tT 4)),oM 6 0,oO 7 (.len (tT 6)),oO 8 (.slc 2 (tT 3) none (some (tT 5)) (some (tT 7))),oM 2 8]) .ret))
theorem ok121 : FnOk Tryz.prog 121 9 ir121 [.tmp 2] := fnOk_of mixed Tryz.func121 (by kernel_rfl) Tryz.ntmps121 (by kernel_rfl) (by kernel_rfl)

def ir122 : ACode := (sQ (.region [oO 2 (.mov (.const nS))]) (sQ (sQ (.region [oM 6 0,oO 7 (.len (tT 6)),oO 8 (.bin .lss .num (tT 7) (kI 2))]) (.cond (tT 8) (sQ (.region [oM 9 0,oM 2 9]) .ret) .skip)) (sQ (sQ (.region [oO 3 (.mov (kI 1))]) (.block 0 (.loop (sQ (sQ (.region [oM 10 3,
 oM 11 0,oO 12 (.len (tT 11)),oO 13 (.bin .lss .num (tT 10) (tT 12))]) (.cond (tT 13) .skip (.exit 0))) (sQ (.block 1 (sQ (.draw [⟨0,oM 16 0,0,0,false⟩,⟨1,oM 17 3,0,0,false⟩,⟨2,oO 18 (.iaddr 2 (tT 16) (tT 17)),
 3,0,false⟩,⟨3,oO 19 (.load true 2 (tT 18)),7,0,false⟩,⟨4,oM 20 0,0,0,false⟩,⟨5,oM 21 3,0,0,false⟩,⟨6,oO 22 (.bin .sub .num (tT 21) (kI 1)),32,0,false⟩,⟨7,oO 23 (.iaddr 2 (tT 20) (tT 22)),112,0,false⟩,⟨8,
 oO 24 (.load true 2 (tT 23)),240,0,false⟩,⟨9,oO 25 (.bin .eql (.cells [0,0]) (tT 19) (tT 24)),511,1,false⟩]) (.cond (tT 25) (sQ (.region [oM 26 0,oM 27 3,oO 28 (.slc 2 (tT 26) (some (tT 27)) none none),
 oM 4 28]) (sQ (sQ (.region [oO 5 (.mov (kI 1))]) (.block 2 (.loop (sQ (sQ (.region [oM 29 5,oM 30 4,oO 31 (.len (tT 30)),oO 32 (.bin .lss .num (tT 29) (tT 31))]) (.cond (tT 32) .skip (.exit 2))) (sQ (.block 3 (sQ (.draw [⟨0,
 oM 35 4,0,0,false⟩,⟨1,oM 36 5,0,0,false⟩,⟨2,oO 37 (.iaddr 2 (tT 35) (tT 36)),3,0,false⟩,⟨3,oO 38 (.load true 2 (tT 37)),7,0,false⟩,⟨4,oM 39 4,0,0,false⟩,⟨5,oM 40 5,0,0,false⟩,⟨6,oO 41 (.bin .sub .num (tT 40) (kI 1)),
 32,0,false⟩,⟨7,oO 42 (.iaddr 2 (tT 39) (tT 41)),112,0,false⟩,⟨8,oO 43 (.load true 2 (tT 42)),240,0,false⟩,⟨9,oO 44 (.bin .neq (.cells [0,0]) (tT 38) (tT 43)),511,1,false⟩]) (.cond (tT 44) (sQ (.region [oM 45 0,
 oM 46 3,oM 47 4,oM 48 5,oO 49 (.iaddr 2 (tT 47) (tT 48)),oO 50 (.load true 2 (tT 49)),oO 51 (.iaddr 2 (tT 45) (tT 46)),⟨none,.store 2 (tT 51) (tT 50),none⟩]) (.region [oM 52 3,oO 53 (.bin .add .num (tT 52) (kI 1)),
 oM 3 53])) .skip))) (.region [oM 33 5,oO 34 (.bin .add .num (tT 33) (kI 1)),oM 5 34])))))) (sQ (.region [oM 54 0,oM 55 3,oO 56 (.slc 2 (tT 54) (some (tT 55)) none none),⟨none,.clear [(.int .i64 0),(.int .i64 0)] (tT 56),
 none⟩]) (sQ (.region [oM 57 0,oM 58 3,oO 59 (.slc 2 (tT 57) none (some (tT 58)) none),oM 2 59]) .ret)))) .skip))) (.region [oM 14 3,oO 15 (.bin .add .num (tT 14) (kI 1)),oM 3 15])))))) (sQ (.region [oM 60 0,
 oM 2 60]) .ret))))
theorem ok122 : FnOk Tryz.prog 122 61 ir122 [.tmp 2] := fnOk_of mixed Tryz.func122 (by kernel_rfl) Tryz.ntmps122 (by kernel_rfl) (by kernel_rfl)

def ir123 : ACode := (sQ (.region [oO 2 (.mov kF)]) (sQ (.region [oM 9 0,oO 10 (.nilck (tT 9)),oO 11 (.faddr 0 (tT 10)),oO 12 (.load false 1 (tT 11)),oO 13 (.mslice [(.int .i64 0)] 8 (tT 12) (tT 12)),oM 3 13]) (sQ (sQ (.region [oM 14 0,
 oO 15 (.nilck (tT 14)),oO 16 (.faddr 1 (tT 15)),oO 17 (.load false 1 (tT 16)),oO 18 (.len (tT 17)),oO 19 (.mov (kI 0))]) (.block 0 (.loop (sQ (.region [oO 20 (.bin .lss .num (tT 19) (tT 18))]) (sQ (.cond (tT 20) .skip (.exit 0)) (sQ (.block 1 (sQ (.region [oO 21 (.iaddr 2 (tT 17) (tT 19)),
 oO 22 (.load true 2 (tT 21)),oO 5 (.alloc [(.int .i64 0),(.int .i64 0)]),⟨none,.store 2 (tT 5) (tT 22),none⟩]) (.region [oM 23 3,oO 24 (.iaddrA 2 1 (tT 5) (kI 1)),oO 25 (.load false 1 (tT 24)),oO 26 (.iaddr 1 (tT 23) (tT 25)),
 oO 27 (.load false 1 (tT 26)),oO 28 (.bin .add .num (tT 27) (kI 1)),oO 29 (.iaddr 1 (tT 23) (tT 25)),⟨none,.store 1 (tT 29) (tT 28),none⟩]))) (.region [oO 30 (.bin .add .num (tT 19) (kI 1)),oM 19 30]))))))) (sQ (.block 2 (.loop (sQ (sQ (.draw [⟨0,
 oM 31 0,0,0,false⟩,⟨1,oO 32 (.nilck (tT 31)),1,0,false⟩,⟨2,oO 33 (.faddr 4 (tT 32)),3,0,false⟩,⟨3,oO 34 (.load false 1 (tT 33)),7,0,false⟩,⟨4,oO 35 (.len (tT 34)),15,0,false⟩,⟨5,oM 36 0,0,0,false⟩,⟨6,oO 37 (.nilck (tT 36)),
 32,0,false⟩,⟨7,oO 38 (.faddr 0 (tT 37)),96,0,false⟩,⟨8,oO 39 (.load false 1 (tT 38)),224,0,false⟩,⟨9,oO 40 (.bin .lss .num (tT 35) (tT 39)),511,1,false⟩]) (.cond (tT 40) .skip (.exit 2))) (.block 3 (sQ (.region [oM 41 3,
 oO 42 (kC 151 [(tT 41),(kI 0)]),oM 6 42]) (sQ (sQ (.region [oM 43 6,oO 44 (.bin .lss .num (tT 43) (kI 0))]) (.cond (tT 44) (sQ (.region [oO 2 (.mov kF)]) .ret) .skip)) (sQ (.region [oM 45 3,oM 46 6,oO 47 (.iaddr 1 (tT 45) (tT 46)),
 ⟨none,.store 1 (tT 47) (.const (.int .i64 (-1))),none⟩]) (sQ (.region [oM 48 0,oM 49 0,oO 50 (.nilck (tT 49)),oO 51 (.faddr 4 (tT 50)),oO 52 (.load false 1 (tT 51)),oM 53 6,oO 54 (.bslice [(.int .i64 0)] 1 [(0,
 (tT 53))]),oO 55 (.append [(.int .i64 0)] 8 (tT 52) (tT 54)),oO 56 (.nilck (tT 48)),oO 57 (.faddr 4 (tT 56)),⟨none,.store 1 (tT 57) (tT 55),none⟩]) (sQ (.region [oM 58 0,oO 59 (.nilck (tT 58)),oO 60 (.faddr 1 (tT 59)),
 oO 61 (.load false 1 (tT 60)),oO 62 (.len (tT 61)),oO 63 (.mov (kI 0))]) (.block 4 (.loop (sQ (.region [oO 64 (.bin .lss .num (tT 63) (tT 62))]) (sQ (.cond (tT 64) .skip (.exit 4)) (sQ (.block 5 (sQ (.region [oO 65 (.iaddr 2 (tT 61) (tT 63)),
 oO 66 (.load true 2 (tT 65)),oO 8 (.alloc [(.int .i64 0),(.int .i64 0)]),⟨none,.store 2 (tT 8) (tT 66),none⟩]) (sQ (.region [oO 67 (.iaddrA 2 1 (tT 8) (kI 0)),oO 68 (.load false 1 (tT 67)),oM 69 6,oO 70 (.bin .eql .num (tT 68) (tT 69))]) (.cond (tT 70) (.region [oM 71 3,
 oO 72 (.iaddrA 2 1 (tT 8) (kI 1)),oO 73 (.load false 1 (tT 72)),oO 74 (.iaddr 1 (tT 71) (tT 73)),oO 75 (.load false 1 (tT 74)),oO 76 (.bin .sub .num (tT 75) (kI 1)),oO 77 (.iaddr 1 (tT 71) (tT 73)),⟨none,
 .store 1 (tT 77) (tT 76),none⟩]) .skip)))) (.region [oO 78 (.bin .add .num (tT 63) (kI 1)),oM 63 78]))))))))))))))) (sQ (.region [oO 2 (.mov kT)]) .ret)))))
theorem ok123 : FnOk Tryz.prog 123 79 ir123 [.tmp 2] := fnOk_of mixed Tryz.func123 (by kernel_rfl) Tryz.ntmps123 (by kernel_rfl) (by kernel_rfl)

def ir124 : ACode := (sQ (.region [oO 1 (.box (tT 0))]) (sQ (.draw [⟨0,oO 10 (.load false 1 (tT 1)),0,0,false⟩,⟨1,oO 11 (.load false 1 (tT 1)),0,0,false⟩,⟨2,oO 12 (.load false 1 (tT 1)),0,0,false⟩,⟨3,oO 13 (.nilck (tT 12)),
 4,0,false⟩,⟨4,oO 14 (.faddr 0 (tT 13)),12,0,false⟩,⟨5,oO 15 (.load false 1 (tT 14)),28,0,false⟩,⟨6,oO 16 (.mslice [nS] 24 (tT 15) (tT 15)),60,0,false⟩,⟨7,oO 17 (.load false 1 (tT 1)),0,0,false⟩,⟨8,oO 18 (.nilck (tT 17)),
 128,0,false⟩,⟨9,oO 19 (.faddr 0 (tT 18)),384,0,false⟩,⟨10,oO 20 (.load false 1 (tT 19)),896,0,false⟩,⟨11,oO 21 (.mslice [nS] 24 (tT 20) (tT 20)),1920,0,false⟩,⟨12,oO 22 (.nilck (tT 10)),2045,0,false⟩,⟨13,
 oO 23 (.faddr 2 (tT 22)),6141,0,false⟩,⟨14,⟨none,.store 1 (tT 23) (tT 16),none⟩,14333,28666,false⟩,⟨15,oO 24 (.nilck (tT 11)),32767,1,false⟩,⟨16,oO 25 (.faddr 3 (tT 24)),65535,1,false⟩,⟨17,⟨none,.store 1 (tT 25) (tT 21),
 none⟩,131071,1,false⟩]) (sQ (.region [oO 26 (.load false 1 (tT 1)),oO 27 (.nilck (tT 26)),oO 28 (.faddr 0 (tT 27)),oO 29 (.load false 1 (tT 28)),oO 30 (.mslice [nS] 24 (tT 29) (tT 29)),oM 2 30]) (sQ (sQ (.region [oO 31 (.load false 1 (tT 1)),
 oO 32 (.nilck (tT 31)),oO 33 (.faddr 1 (tT 32)),oO 34 (.load false 1 (tT 33)),oO 35 (.len (tT 34)),oO 36 (.mov (kI 0))]) (.block 0 (.loop (sQ (.region [oO 37 (.bin .lss .num (tT 36) (tT 35))]) (sQ (.cond (tT 37) .skip (.exit 0)) (sQ (.block 1 (sQ (.region [oO 38 (.iaddr 2 (tT 34) (tT 36)),
 oO 39 (.load true 2 (tT 38)),oO 4 (.alloc [(.int .i64 0),(.int .i64 0)]),⟨none,.store 2 (tT 4) (tT 39),none⟩]) (.draw [⟨0,oM 40 2,0,0,false⟩,⟨1,oO 41 (.iaddrA 2 1 (tT 4) (kI 1)),0,0,false⟩,⟨2,oO 42 (.load false 1 (tT 41)),
 2,0,false⟩,⟨3,oM 43 2,0,0,false⟩,⟨4,oO 44 (.iaddrA 2 1 (tT 4) (kI 1)),0,0,false⟩,⟨5,oO 45 (.load false 1 (tT 44)),16,0,false⟩,⟨6,oO 46 (.iaddr 1 (tT 43) (tT 45)),56,0,false⟩,⟨7,oO 47 (.load false 1 (tT 46)),
 120,0,false⟩,⟨8,oO 48 (.iaddrA 2 1 (tT 4) (kI 0)),0,0,false⟩,⟨9,oO 49 (.load false 1 (tT 48)),256,0,false⟩,⟨10,oO 50 (.bslice [(.int .i64 0)] 1 [(0,(tT 49))]),768,0,false⟩,⟨11,oO 51 (.append [(.int .i64 0)] 8 (tT 47) (tT 50)),
 2040,4080,false⟩,⟨12,oO 52 (.iaddr 1 (tT 40) (tT 42)),4095,1,false⟩,⟨13,⟨none,.store 1 (tT 52) (tT 51),none⟩,8191,1,false⟩]))) (.region [oO 53 (.bin .add .num (tT 36) (kI 1)),oM 36 53]))))))) (sQ (.region [oO 54 (.load false 1 (tT 1)),
 oO 55 (.nilck (tT 54)),oO 56 (.faddr 4 (tT 55)),oO 57 (.load false 1 (tT 56)),oO 58 (.len (tT 57)),oO 59 (.mov (kI 0))]) (.block 2 (.loop (sQ (.region [oO 60 (.bin .lss .num (tT 59) (tT 58))]) (sQ (.cond (tT 60) .skip (.exit 2)) (sQ (.block 3 (sQ (.region [oO 61 (.iaddr 1 (tT 57) (tT 59)),
 oO 62 (.load false 1 (tT 61)),oO 6 (.alloc [(.int .i64 0)]),⟨none,.store 1 (tT 6) (tT 62),none⟩]) (sQ (sQ (.region [oM 63 2,oO 64 (.load false 1 (tT 6)),oO 65 (.iaddr 1 (tT 63) (tT 64)),oO 66 (.load false 1 (tT 65)),
 oO 67 (.len (tT 66)),oO 68 (.mov (kI 0))]) (.block 4 (.loop (sQ (.region [oO 69 (.bin .lss .num (tT 68) (tT 67))]) (sQ (.cond (tT 69) .skip (.exit 4)) (sQ (.block 5 (sQ (.region [oO 70 (.iaddr 1 (tT 66) (tT 68)),
 oO 71 (.load false 1 (tT 70)),oM 8 71]) (.draw [⟨0,oO 72 (.load false 1 (tT 1)),0,0,false⟩,⟨1,oO 73 (.nilck (tT 72)),1,0,false⟩,⟨2,oO 74 (.faddr 2 (tT 73)),3,0,false⟩,⟨3,oO 75 (.load false 1 (tT 74)),7,
 0,false⟩,⟨4,oO 76 (.load false 1 (tT 6)),0,0,false⟩,⟨5,oO 77 (.load false 1 (tT 1)),0,0,false⟩,⟨6,oO 78 (.nilck (tT 77)),32,0,false⟩,⟨7,oO 79 (.faddr 2 (tT 78)),96,0,false⟩,⟨8,oO 80 (.load false 1 (tT 79)),
 224,0,false⟩,⟨9,oO 81 (.load false 1 (tT 6)),0,0,false⟩,⟨10,oO 82 (.iaddr 1 (tT 80) (tT 81)),992,0,false⟩,⟨11,oO 83 (.load true 1 (tT 82)),2016,0,false⟩,⟨12,oO 84 (.load false 1 (tT 1)),0,0,false⟩,⟨13,
 oO 85 (.nilck (tT 84)),4096,0,false⟩,⟨14,oO 86 (.faddr 2 (tT 85)),12288,0,false⟩,⟨15,oO 87 (.load false 1 (tT 86)),28672,0,false⟩,⟨16,oM 88 8,0,0,false⟩,⟨17,oO 89 (.iaddr 1 (tT 87) (tT 88)),126976,0,false⟩,
 ⟨18,oO 90 (.load true 1 (tT 89)),258048,0,false⟩,⟨19,oO 91 (kC 15 [(tT 83),(tT 90)]),524256,0,false⟩,⟨20,oM 92 8,0,0,false⟩,⟨21,oO 93 (kC 58 [(tT 91),(tT 92)]),2097120,0,false⟩,⟨22,oO 94 (.iaddr 1 (tT 75) (tT 76)),
 4194303,1,false⟩,⟨23,⟨none,.store 1 (tT 94) (tT 93),none⟩,8388607,1,false⟩]))) (.region [oO 95 (.bin .add .num (tT 68) (kI 1)),oM 68 95]))))))) (sQ (.draw [⟨0,oO 96 (.load false 1 (tT 1)),0,0,false⟩,⟨1,
 oO 97 (.nilck (tT 96)),1,0,false⟩,⟨2,oO 98 (.faddr 2 (tT 97)),3,0,false⟩,⟨3,oO 99 (.load false 1 (tT 98)),7,0,false⟩,⟨4,oO 100 (.load false 1 (tT 6)),0,0,false⟩,⟨5,oO 101 (.iaddr 1 (tT 99) (tT 100)),31,
 1,false⟩,⟨6,oO 102 (.load true 1 (tT 101)),63,1,false⟩,⟨7,oO 103 (kC 65 [(tT 102)]),127,1,false⟩]) (.block 6 (.range (tT 103) [104] [(9,(tT 104))] (.block 7 (.draw [⟨0,oO 105 (.load false 1 (tT 1)),0,0,
 false⟩,⟨1,oO 106 (.nilck (tT 105)),1,0,false⟩,⟨2,oO 107 (.faddr 3 (tT 106)),3,0,false⟩,⟨3,oO 108 (.load false 1 (tT 107)),7,0,false⟩,⟨4,oM 109 9,0,0,false⟩,⟨5,oO 110 (.load false 1 (tT 1)),0,0,false⟩,⟨6,
 oO 111 (.nilck (tT 110)),32,0,false⟩,⟨7,oO 112 (.faddr 3 (tT 111)),96,0,false⟩,⟨8,oO 113 (.load false 1 (tT 112)),224,0,false⟩,⟨9,oM 114 9,0,0,false⟩,⟨10,oO 115 (.iaddr 1 (tT 113) (tT 114)),992,0,false⟩,
 ⟨11,oO 116 (.load true 1 (tT 115)),2016,0,false⟩,⟨12,oO 117 (.load false 1 (tT 6)),0,0,false⟩,⟨13,oO 118 (kC 58 [(tT 116),(tT 117)]),8160,0,false⟩,⟨14,oO 119 (.iaddr 1 (tT 108) (tT 109)),16383,1,false⟩,
 ⟨15,⟨none,.store 1 (tT 119) (tT 118),none⟩,32767,1,false⟩])))))))) (.region [oO 120 (.bin .add .num (tT 59) (kI 1)),oM 59 120])))))))))))
theorem ok124 : FnOk Tryz.prog 124 121 ir124 [] := fnOk_of mixed Tryz.func124 (by kernel_rfl) Tryz.ntmps124 (by kernel_rfl) (by kernel_rfl)

def ir125 : ACode := (sQ (.region [oO 3 (.box (tT 1)),oO 4 (.mov kF)]) (sQ (.region [oM 5 0,oO 6 (.load true 2 (tT 3)),oO 7 (kC 115 [(tT 5),(tT 6)]),oO 8 (.bin .geq .num (tT 7) (kI 0)),oM 4 8]) .ret))
theorem ok125 : FnOk Tryz.prog 125 9 ir125 [.tmp 4] := fnOk_of mixed Tryz.func125 (by kernel_rfl) Tryz.ntmps125 (by kernel_rfl) (by kernel_rfl)

def ir127 : ACode := (sQ (.region [oO 2 (.mov (kI 0))]) (sQ (.region [oM 3 0,oO 4 (.nilck (tT 3)),oO 5 (.faddr 1 (tT 4)),oO 6 (.load false 1 (tT 5)),oO 7 (.bin .add .num (tT 6) (kI 1)),oO 8 (.nilck (tT 3)),
 oO 9 (.faddr 1 (tT 8)),⟨none,.store 1 (tT 9) (tT 7),none⟩]) (sQ (sQ (.draw [⟨0,oM 10 0,0,0,false⟩,⟨1,oO 11 (.nilck (tT 10)),1,0,false⟩,⟨2,oO 12 (.faddr 1 (tT 11)),3,0,false⟩,⟨3,oO 13 (.load false 1 (tT 12)),
 7,0,false⟩,⟨4,oM 14 0,0,0,false⟩,⟨5,oO 15 (.nilck (tT 14)),16,0,false⟩,⟨6,oO 16 (.faddr 0 (tT 15)),48,0,false⟩,⟨7,oO 17 (.load false 1 (tT 16)),112,0,false⟩,⟨8,oO 18 (.len (tT 17)),240,0,false⟩,⟨9,oO 19 (.bin .gtr .num (tT 13) (tT 18)),
 511,1,false⟩]) (.cond (tT 19) (sQ (.region [oO 2 (.mov (kI 0))]) .ret) .skip)) (sQ (.draw [⟨0,oM 20 0,0,0,false⟩,⟨1,oO 21 (.nilck (tT 20)),1,0,false⟩,⟨2,oO 22 (.faddr 0 (tT 21)),3,0,false⟩,⟨3,oO 23 (.load false 1 (tT 22)),
 7,0,false⟩,⟨4,oM 24 0,0,0,false⟩,⟨5,oO 25 (.nilck (tT 24)),16,0,false⟩,⟨6,oO 26 (.faddr 1 (tT 25)),48,0,false⟩,⟨7,oO 27 (.load false 1 (tT 26)),112,0,false⟩,⟨8,oO 28 (.bin .sub .num (tT 27) (kI 1)),240,
 0,false⟩,⟨9,oO 29 (.iaddr 1 (tT 23) (tT 28)),511,1,false⟩,⟨10,oO 30 (.load false 1 (tT 29)),1023,1,false⟩,⟨11,oO 31 (.conv .i64 (tT 30)),2047,1,false⟩,⟨12,oM 2 31,4095,1,false⟩]) .ret))))
theorem ok127 : FnOk Tryz.prog 127 32 ir127 [.tmp 2] := fnOk_of mixed Tryz.func127 (by kernel_rfl) Tryz.ntmps127 (by kernel_rfl) (by kernel_rfl)

def ir128 : ACode := (sQ (.region [oO 10 (.alloc [(.int .i64 0),(.int .i64 0),nS,nS])]) (sQ (.region [oM 13 0,oM 14 2,oO 15 (.bin .sub .num (tT 14) (kI 1)),oM 16 3,oM 17 4,oO 18 (kC 153 [(tT 13),(tT 15),
 (tT 16),(tT 17)]),oO 11 (.alloc [(.int .i64 0),(.int .i64 0),nS,nS]),⟨none,.store 4 (tT 11) (tT 18),none⟩]) (sQ (.region [oM 19 0,oM 20 2,oO 21 (.bin .sub .num (tT 20) (kI 1)),oM 22 3,oM 23 4,oO 24 (kC 153 [(tT 19),
 (tT 21),(tT 22),(tT 23)]),oO 12 (.alloc [(.int .i64 0),(.int .i64 0),nS,nS]),⟨none,.store 4 (tT 12) (tT 24),none⟩]) (sQ (.region [oM 25 1,oO 26 (.bin .rem .num (tT 25) (kI 5)),oO 27 (.bin .add .num (kI 11) (tT 26)),
 oO 28 (.load true 4 (tT 11)),oO 29 (.load true 4 (tT 12)),oO 30 (.bslice [(.int .i64 0),(.int .i64 0),nS,nS] 2 [(0,(tT 28)),(1,(tT 29))]),oO 31 (.build [(.int .i64 0),(.int .i64 0),nS,nS] [(0,1,(tT 27)),
 (3,1,(tT 30))]),⟨none,.store 4 (tT 10) (tT 31),none⟩]) .ret))))
theorem ok128 : FnOk Tryz.prog 128 32 ir128 [.cell 10 true 4] := fnOk_of mixed Tryz.func128 (by kernel_rfl) Tryz.ntmps128 (by kernel_rfl) (by kernel_rfl)

def ir129 : ACode := (sQ (.region [oO 4 (.mov kF)]) (sQ (.region [oM 5 0,oM 6 1,oO 7 (kC 154 [(tT 5),(tT 6)]),oO 8 (.bin .geq .num (tT 7) (kI 0)),oM 4 8]) .ret))
theorem ok129 : FnOk Tryz.prog 129 9 ir129 [.tmp 4] := fnOk_of mixed Tryz.func129 (by kernel_rfl) Tryz.ntmps129 (by kernel_rfl) (by kernel_rfl)

def ir130 : ACode := (sQ (.region [oO 0 (.mov (.const nS))]) (sQ (.region [⟨(some 1),.bslice [(.string ⟨#[]⟩)] 20 [(0,(.const (.string ⟨#[97,108,108]⟩))),(1,(.const (.string ⟨#[97,110,100]⟩))),(2,(.const (.string ⟨#[97,
 115,115,105,103,110]⟩))),(3,(.const (.string ⟨#[98,121]⟩))),(4,(.const (.string ⟨#[99,111,117,110,116]⟩))),(5,(.const (.string ⟨#[100,101,99,108,97,114,101]⟩))),(6,(.const (.string ⟨#[100,121,110,97,109,
 105,99]⟩))),(7,(.const (.string ⟨#[101,110,102,111,114,99,101]⟩))),(8,(.const (.string ⟨#[102,97,108,115,101]⟩))),(9,(.const (.string ⟨#[102,111,114]⟩))),(10,(.const (.string ⟨#[105,102]⟩))),(11,(.const (.string ⟨#[109,
 101,109,98,101,114,115]⟩))),(12,(.const (.string ⟨#[110,111,110,101]⟩))),(13,(.const (.string ⟨#[110,111,116]⟩))),(14,(.const (.string ⟨#[111,110]⟩))),(15,(.const (.string ⟨#[111,114]⟩))),(16,(.const (.string ⟨#[114,
 101,118,111,107,101]⟩))),(17,(.const (.string ⟨#[115,116,97,116,105,99]⟩))),(18,(.const (.string ⟨#[116,114,117,101]⟩))),(19,(.const (.string ⟨#[117,115,101,114,115]⟩)))],none⟩,oM 0 1]) .ret))
theorem ok130 : FnOk Tryz.prog 130 2 ir130 [.tmp 0] := fnOk_of mixed Tryz.func130 (by kernel_rfl) Tryz.ntmps130 (by kernel_rfl) (by kernel_rfl)

def ir131 : ACode := (sQ (.region [oO 2 (.mov kF)]) (sQ (.region [oM 3 0,oO 4 (.bin .geq .num (tT 3) (.const (.int .u8 97))),oM 5 4,oT 5 6 (.mov (tT 0)),oT 5 7 (.bin .leq .num (tT 6) (.const (.int .u8 122))),
 oO 8 (.pick (tT 5) (tT 7) kF),oM 2 8]) .ret))
theorem ok131 : FnOk Tryz.prog 131 9 ir131 [.tmp 2] := fnOk_of mixed Tryz.func131 (by kernel_rfl) Tryz.ntmps131 (by kernel_rfl) (by kernel_rfl)

def ir132 : ACode := (sQ (.region [oO 3 (.mov kF)]) (sQ (.region [oO 4 (.load false 1 (tT 1)),oM 5 0,oO 6 (.call (tT 4) [(tT 5)]),oM 7 6,oF 7 8 (.mov (tT 0)),oF 7 9 (.bin .geq .num (tT 8) (.const (.int .u8 48))),
 oF 7 10 (.mov (tT 9)),oT 10 11 (.mov (tT 0)),oT 10 12 (.bin .leq .num (tT 11) (.const (.int .u8 57))),oF 7 13 (.pick (tT 10) (tT 12) kF),oO 14 (.pick (tT 7) kT (tT 13)),oM 15 14,oF 15 16 (.mov (tT 0)),
 oF 15 17 (.bin .eql .num (tT 16) (.const (.int .u8 95))),oO 18 (.pick (tT 15) kT (tT 17)),oM 3 18]) .ret))
theorem ok132 : FnOk Tryz.prog 132 19 ir132 [.tmp 3] := fnOk_of mixed Tryz.func132 (by kernel_rfl) Tryz.ntmps132 (by kernel_rfl) (by kernel_rfl)

def ir133 : ACode := (sQ (.region [oO 1 (.box (tT 0)),oO 2 (.alloc [nS])]) (sQ (.region [oO 6 (.faddr 2 (tT 1)),oO 7 (.load false 1 (tT 6)),oO 8 (kC 45 [(tT 7)]),oO 3 (.alloc [nS]),⟨none,.store 1 (tT 3) (tT 8),
 none⟩]) (sQ (sQ (.region [oO 9 (.faddr 3 (tT 1)),oO 10 (.load false 1 (tT 9)),oO 11 (.len (tT 10)),oO 12 (.mov (kI 0))]) (.block 0 (.loop (sQ (.region [oO 13 (.bin .lss .num (tT 12) (tT 11))]) (sQ (.cond (tT 13) .skip (.exit 0)) (sQ (.block 1 (sQ (.region [oO 14 (.iaddr 4 (tT 10) (tT 12)),
 oO 15 (.load true 4 (tT 14)),oO 5 (.alloc [(.int .u8 0),(.int .i64 0),nS,nS]),⟨none,.store 4 (tT 5) (tT 15),none⟩]) (.draw [⟨0,oO 16 (.load true 1 (tT 3)),0,0,false⟩,⟨1,oO 17 (.load true 4 (tT 5)),0,0,
 false⟩,⟨2,oO 18 (kC 133 [(tT 17)]),2,0,false⟩,⟨3,oO 19 (kC 15 [(tT 16),(tT 18)]),7,1,false⟩,⟨4,⟨none,.store 1 (tT 3) (tT 19),none⟩,15,1,false⟩]))) (.region [oO 20 (.bin .add .num (tT 12) (kI 1)),oM 12 20]))))))) (sQ (.region [oO 21 (.load true 1 (tT 3)),
 ⟨none,.store 1 (tT 2) (tT 21),none⟩]) .ret))))
theorem ok133 : FnOk Tryz.prog 133 22 ir133 [.cell 2 true 1] := fnOk_of mixed Tryz.func133 (by kernel_rfl) Tryz.ntmps133 (by kernel_rfl) (by kernel_rfl)

def ir134 : ACode := (sQ (.region [oO 1 (.box (tT 0)),oO 2 (.mov (kI 0))]) (sQ (.region [oO 3 (.mov (kI 0))]) (sQ (sQ (.region [oO 6 (.faddr 0 (tT 1)),oO 7 (.load false 1 (tT 6)),oO 8 (.len (tT 7)),oO 9 (.mov (kI 0))]) (.block 0 (.loop (sQ (.region [oO 10 (.bin .lss .num (tT 9) (tT 8))]) (sQ (.cond (tT 10) .skip (.exit 0)) (sQ (.block 1 (sQ (.region [oO 11 (.iaddr 1 (tT 7) (tT 9)),
 oO 12 (.load false 1 (tT 11)),oM 5 12]) (.region [oM 13 3,oM 14 5,oO 15 (kC 155 [(tT 14)]),oO 16 (.bin .add .num (tT 13) (tT 15)),oM 3 16]))) (.region [oO 17 (.bin .add .num (tT 9) (kI 1)),oM 9 17]))))))) (sQ (.region [oM 18 3,
 oM 2 18]) .ret))))
theorem ok134 : FnOk Tryz.prog 134 19 ir134 [.tmp 2] := fnOk_of mixed Tryz.func134 (by kernel_rfl) Tryz.ntmps134 (by kernel_rfl) (by kernel_rfl)

def ir135 : ACode := (sQ (.region [oO 0 (.mov (.const nS))]) (sQ (.region [⟨(some 1),.bslice [(.string ⟨#[]⟩)] 20 [(0,(.const (.string ⟨#[97,108,108]⟩))),(1,(.const (.string ⟨#[97,110,100]⟩))),(2,(.const (.string ⟨#[97,
 115,115,105,103,110]⟩))),(3,(.const (.string ⟨#[98,121]⟩))),(4,(.const (.string ⟨#[99,111,117,110,116]⟩))),(5,(.const (.string ⟨#[100,101,99,108,97,114,101]⟩))),(6,(.const (.string ⟨#[100,121,110,97,109,
 105,99]⟩))),(7,(.const (.string ⟨#[101,110,102,111,114,99,101]⟩))),(8,(.const (.string ⟨#[102,97,108,115,101]⟩))),(9,(.const (.string ⟨#[102,111,114]⟩))),(10,(.const (.string ⟨#[105,102]⟩))),(11,(.const (.string ⟨#[109,
 101,109,98,101,114,115]⟩))),(12,(.const (.string ⟨#[110,111,110,101]⟩))),(13,(.const (.string ⟨#[110,111,116]⟩))),(14,(.const (.string ⟨#[111,110]⟩))),(15,(.const (.string ⟨#[111,114]⟩))),(16,(.const (.string ⟨#[114,
 101,118,111,107,101]⟩))),(17,(.const (.string ⟨#[115,116,97,116,105,99]⟩))),(18,(.const (.string ⟨#[116,114,117,101]⟩))),(19,(.const (.string ⟨#[117,115,101,114,115]⟩)))],none⟩,oM 0 1]) .ret))
theorem ok135 : FnOk Tryz.prog 135 2 ir135 [.tmp 0] := fnOk_of mixed Tryz.func135 (by kernel_rfl) Tryz.ntmps135 (by kernel_rfl) (by kernel_rfl)

def ir136 : ACode := (sQ (.region [oO 1 (.box (tT 0)),oO 2 (.mov (kI 0))]) (sQ (.region [oO 3 (.mov (kI 0))]) (sQ (sQ (.region [oO 6 (.faddr 3 (tT 1)),oO 7 (.load false 1 (tT 6)),oO 8 (.len (tT 7)),oO 9 (.mov (kI 0))]) (.block 0 (.loop (sQ (.region [oO 10 (.bin .lss .num (tT 9) (tT 8))]) (sQ (.cond (tT 10) .skip (.exit 0)) (sQ (.block 1 (sQ (.region [oO 11 (.iaddr 4 (tT 7) (tT 9)),
 oO 12 (.load true 4 (tT 11)),oO 5 (.alloc [(.int .i64 0),(.int .i64 0),nS,nS]),⟨none,.store 4 (tT 5) (tT 12),none⟩]) (.region [oM 13 3,oO 14 (.load true 4 (tT 5)),oO 15 (kC 136 [(tT 14)]),oO 16 (.mx (tT 13) (tT 15)),
 oM 3 16]))) (.region [oO 17 (.bin .add .num (tT 9) (kI 1)),oM 9 17]))))))) (sQ (.region [oM 18 3,oO 19 (.bin .add .num (tT 18) (kI 1)),oM 2 19]) .ret))))
theorem ok136 : FnOk Tryz.prog 136 20 ir136 [.tmp 2] := fnOk_of mixed Tryz.func136 (by kernel_rfl) Tryz.ntmps136 (by kernel_rfl) (by kernel_rfl)

def ir137 : ACode := (sQ (.region [oO 1 (.box (tT 0)),oO 2 (.mov (kI 0))]) (sQ (.region [oO 3 (.mov (kI 1))]) (sQ (sQ (.region [oO 6 (.faddr 3 (tT 1)),oO 7 (.load false 1 (tT 6)),oO 8 (.len (tT 7)),oO 9 (.mov (kI 0))]) (.block 0 (.loop (sQ (.region [oO 10 (.bin .lss .num (tT 9) (tT 8))]) (sQ (.cond (tT 10) .skip (.exit 0)) (sQ (.block 1 (sQ (.region [oO 11 (.iaddr 4 (tT 7) (tT 9)),
 oO 12 (.load true 4 (tT 11)),oO 5 (.alloc [(.int .i64 0),(.int .i64 0),nS,nS]),⟨none,.store 4 (tT 5) (tT 12),none⟩]) (.region [oM 13 3,oO 14 (.load true 4 (tT 5)),oO 15 (kC 137 [(tT 14)]),oO 16 (.bin .add .num (tT 13) (tT 15)),
 oM 3 16]))) (.region [oO 17 (.bin .add .num (tT 9) (kI 1)),oM 9 17]))))))) (sQ (.region [oM 18 3,oM 2 18]) .ret))))
theorem ok137 : FnOk Tryz.prog 137 19 ir137 [.tmp 2] := fnOk_of mixed Tryz.func137 (by kernel_rfl) Tryz.ntmps137 (by kernel_rfl) (by kernel_rfl)

def ir138 : ACode := (sQ (.region [oO 2 (.box (tT 0)),oO 4 (.mov (kI 0))]) (sQ (.region [oO 8 (.load true 4 (tT 2)),oM 9 1,oO 10 (kC 156 [(tT 8),(tT 9)]),oM 5 10]) (sQ (sQ (.region [oM 11 5,oO 12 (.bin .neq .num (tT 11) (kI 0))]) (.cond (tT 12) (sQ (.region [oM 13 5,
 oM 4 13]) .ret) .skip)) (sQ (sQ (.region [oO 14 (.faddr 3 (tT 2)),oO 15 (.load false 1 (tT 14)),oO 16 (.len (tT 15)),oO 17 (.mov (kI 0))]) (.block 0 (.loop (sQ (.region [oO 18 (.bin .lss .num (tT 17) (tT 16))]) (sQ (.cond (tT 18) .skip (.exit 0)) (sQ (.block 1 (sQ (.region [oO 19 (.iaddr 4 (tT 15) (tT 17)),
 oO 20 (.load true 4 (tT 19)),oO 7 (.alloc [(.int .i64 0),(.int .i64 0),nS,nS]),⟨none,.store 4 (tT 7) (tT 20),none⟩]) (sQ (.region [oO 21 (.load true 4 (tT 7)),oM 22 1,oO 23 (kC 138 [(tT 21),(tT 22)]),oM 5 23]) (sQ (.region [oM 24 5,
 oO 25 (.bin .neq .num (tT 24) (kI 0))]) (.cond (tT 25) (sQ (.region [oM 26 5,oM 4 26]) .ret) .skip))))) (.region [oO 27 (.bin .add .num (tT 17) (kI 1)),oM 17 27]))))))) (sQ (.region [oO 4 (.mov (kI 0))]) .ret)))))
theorem ok138 : FnOk Tryz.prog 138 28 ir138 [.tmp 4] := fnOk_of mixed Tryz.func138 (by kernel_rfl) Tryz.ntmps138 (by kernel_rfl) (by kernel_rfl)

def ir139 : ACode := (sQ (.region [oO 1 (.box (tT 0)),oO 2 (.mov kF)]) (sQ (.region [oO 3 (.mov (kI 1))]) (sQ (sQ (.region [oO 6 (.faddr 0 (tT 1)),oO 7 (.load false 1 (tT 6)),oO 8 (.bin .geq .num (tT 7) (kI 11))]) (.cond (tT 8) (.region [oO 3 (.mov (kI 2))]) .skip)) (sQ (sQ (.region [oO 9 (.faddr 3 (tT 1)),
 oO 10 (.load false 1 (tT 9)),oO 11 (.len (tT 10)),oO 12 (.mov (kI 0))]) (.block 0 (.loop (sQ (.region [oO 13 (.bin .lss .num (tT 12) (tT 11))]) (sQ (.cond (tT 13) .skip (.exit 0)) (sQ (.block 1 (sQ (.region [oO 14 (.iaddr 4 (tT 10) (tT 12)),
 oO 15 (.load true 4 (tT 14)),oO 5 (.alloc [(.int .i64 0),(.int .i64 0),nS,nS]),⟨none,.store 4 (tT 5) (tT 15),none⟩]) (sQ (.region [oO 16 (.faddr 0 (tT 5)),oO 17 (.load false 1 (tT 16)),oO 18 (kC 140 [(tT 17)]),
 oM 19 3,oO 20 (.bin .neq .num (tT 18) (tT 19)),oM 21 20,oF 21 22 (.load true 4 (tT 5)),oF 21 23 (kC 139 [(tT 22)]),oF 21 24 (.una .not (tT 23)),oO 25 (.pick (tT 21) kT (tT 24))]) (.cond (tT 25) (sQ (.region [oO 2 (.mov kF)]) .ret) .skip)))) (.region [oO 26 (.bin .add .num (tT 12) (kI 1)),
 oM 12 26]))))))) (sQ (.region [oO 2 (.mov kT)]) .ret)))))
theorem ok139 : FnOk Tryz.prog 139 27 ir139 [.tmp 2] := fnOk_of mixed Tryz.func139 (by kernel_rfl) Tryz.ntmps139 (by kernel_rfl) (by kernel_rfl)

def ir140 : ACode := (sQ (.region [oO 2 (.mov (kI 0))]) (sQ (sQ (.region [oM 3 0,oO 4 (.bin .eql .num (tT 3) (kI 1)),oM 5 4,oF 5 6 (.mov (tT 0)),oF 5 7 (.bin .eql .num (tT 6) (kI 5)),oO 8 (.pick (tT 5) kT (tT 7)),
 oM 9 8,oF 9 10 (.mov (tT 0)),oF 9 11 (.bin .eql .num (tT 10) (kI 6)),oO 12 (.pick (tT 9) kT (tT 11)),oM 13 12,oF 13 14 (.mov (tT 0)),oF 13 15 (.bin .eql .num (tT 14) (kI 16)),oO 16 (.pick (tT 13) kT (tT 15))]) (.cond (tT 16) (sQ (.region [oO 2 (.mov (kI 2))]) .ret) .skip)) (sQ (.region [oO 2 (.mov (kI 1))]) .ret)))
theorem ok140 : FnOk Tryz.prog 140 17 ir140 [.tmp 2] := fnOk_of mixed Tryz.func140 (by kernel_rfl) Tryz.ntmps140 (by kernel_rfl) (by kernel_rfl)

def ir141 : ACode := (sQ (.region [oO 2 (.mov (kI 0))]) (sQ (.region [oO 3 (.mov (kI 0))]) (sQ (sQ (.region [oO 4 (.mov (kI 0))]) (.block 0 (.loop (sQ (sQ (.region [oM 5 4,oO 6 (.bin .lss .num (tT 5) (kI 64))]) (.cond (tT 6) .skip (.exit 0))) (sQ (.block 1 (sQ (.region [oM 9 0,
 oM 10 4,oO 11 (.bin .shr .num (tT 9) (tT 10)),oO 12 (.bin .rem .num (tT 11) (.const (.int .u64 2))),oO 13 (.bin .eql .num (tT 12) (.const (.int .u64 1)))]) (.cond (tT 13) (.region [oM 14 3,oO 15 (.bin .add .num (tT 14) (kI 1)),
 oM 3 15]) .skip))) (.region [oM 7 4,oO 8 (.bin .add .num (tT 7) (kI 1)),oM 4 8])))))) (sQ (.region [oM 16 3,oM 2 16]) .ret))))
theorem ok141 : FnOk Tryz.prog 141 17 ir141 [.tmp 2] := fnOk_of mixed Tryz.func141 (by kernel_rfl) Tryz.ntmps141 (by kernel_rfl) (by kernel_rfl)

def ir142 : ACode := (sQ (.region [oO 1 (.box (tT 0)),oO 2 (.mov (.const (.int .u64 0)))]) (sQ (.region [oO 3 (.mov (.const (.int .u64 0)))]) (sQ (sQ (.region [oO 8 (.faddr 2 (tT 1)),oO 9 (.load false 1 (tT 8)),
 oO 10 (.len (tT 9)),oO 11 (.mov (kI 0))]) (.block 0 (.loop (sQ (.region [oO 12 (.bin .lss .num (tT 11) (tT 10))]) (sQ (.cond (tT 12) .skip (.exit 0)) (sQ (.block 1 (sQ (.region [oO 13 (.iaddr 1 (tT 9) (tT 11)),
 oO 14 (.load false 1 (tT 13)),oM 5 14]) (sQ (.region [oM 15 5,oO 16 (.bin .geq .num (tT 15) (kI 0)),oM 17 16,oT 17 18 (.mov (tT 5)),oT 17 19 (.bin .lss .num (tT 18) (kI 64)),oO 20 (.pick (tT 17) (tT 19) kF)]) (.cond (tT 20) (.region [oM 21 3,
 oM 22 5,oO 23 (.bin .shl .num (.const (.int .u64 1)) (tT 22)),oO 24 (.bin .or .num (tT 21) (tT 23)),oM 3 24]) .skip)))) (.region [oO 25 (.bin .add .num (tT 11) (kI 1)),oM 11 25]))))))) (sQ (sQ (.region [oO 26 (.faddr 3 (tT 1)),
 oO 27 (.load false 1 (tT 26)),oO 28 (.len (tT 27)),oO 29 (.mov (kI 0))]) (.block 2 (.loop (sQ (.region [oO 30 (.bin .lss .num (tT 29) (tT 28))]) (sQ (.cond (tT 30) .skip (.exit 2)) (sQ (.block 3 (sQ (.region [oO 31 (.iaddr 4 (tT 27) (tT 29)),
 oO 32 (.load true 4 (tT 31)),oO 7 (.alloc [(.int .i64 0),(.int .i64 0),nS,nS]),⟨none,.store 4 (tT 7) (tT 32),none⟩]) (.region [oM 33 3,oO 34 (.load true 4 (tT 7)),oO 35 (kC 142 [(tT 34)]),oO 36 (.bin .or .num (tT 33) (tT 35)),
 oM 3 36]))) (.region [oO 37 (.bin .add .num (tT 29) (kI 1)),oM 29 37]))))))) (sQ (.region [oM 38 3,oM 2 38]) .ret)))))
theorem ok142 : FnOk Tryz.prog 142 39 ir142 [.tmp 2] := fnOk_of mixed Tryz.func142 (by kernel_rfl) Tryz.ntmps142 (by kernel_rfl) (by kernel_rfl)

def ir143 : ACode := (sQ (.region [oO 3 (.box (tT 0)),oO 6 (.mov (kI 0))]) (sQ (sQ (.region [oO 11 (.faddr 0 (tT 3)),oO 12 (.load false 1 (tT 11))]) (.block 0 (sQ (.region [oO 14 (.bin .eql .num (tT 12) (kI 1)),
 oM 13 14]) (.cond (tT 13) (sQ (.region [oO 15 (.faddr 1 (tT 3)),oO 16 (.load false 1 (tT 15)),oM 6 16]) .ret) (sQ (.region [oO 18 (.bin .eql .num (tT 12) (kI 5)),oM 17 18]) (.cond (tT 17) (sQ (.region [oO 7 (.mov (kI 0))]) (sQ (sQ (.region [oO 19 (.faddr 2 (tT 3)),
 oO 20 (.load false 1 (tT 19)),oO 21 (.len (tT 20)),oO 22 (.mov (kI 0))]) (.block 1 (.loop (sQ (.region [oO 23 (.bin .lss .num (tT 22) (tT 21))]) (sQ (.cond (tT 23) .skip (.exit 1)) (sQ (.block 2 (sQ (.region [oO 24 (.iaddr 1 (tT 20) (tT 22)),
 oO 25 (.load false 1 (tT 24)),oM 9 25]) (sQ (.region [oM 26 1,oM 27 9,oO 28 (.conv .u64 (tT 27)),oO 29 (.bin .shr .num (tT 26) (tT 28)),oO 30 (.bin .rem .num (tT 29) (.const (.int .u64 2))),oO 31 (.bin .eql .num (tT 30) (.const (.int .u64 1)))]) (.cond (tT 31) (.region [oM 32 7,
 oO 33 (.bin .add .num (tT 32) (kI 1)),oM 7 33]) .skip)))) (.region [oO 34 (.bin .add .num (tT 22) (kI 1)),oM 22 34]))))))) (sQ (.region [oM 35 7,oM 6 35]) .ret))) (sQ (.region [oO 37 (.bin .eql .num (tT 12) (kI 6)),
 oM 36 37]) (.cond (tT 36) (sQ (.region [oO 38 (.faddr 2 (tT 3)),oO 39 (.load false 1 (tT 38)),oO 40 (.iaddr 1 (tT 39) (kI 0)),oO 41 (.load false 1 (tT 40)),oM 10 41]) (sQ (sQ (.region [oM 42 10,oM 43 2,
 oO 44 (.len (tT 43)),oO 45 (.bin .geq .num (tT 42) (tT 44)),oM 46 45,oF 46 47 (.mov (tT 2)),oF 46 48 (.mov (tT 10)),oF 46 49 (.iaddr 1 (tT 47) (tT 48)),oF 46 50 (.load false 1 (tT 49)),oF 46 51 (.bin .lss .num (tT 50) (kI 0)),
 oO 52 (.pick (tT 46) kT (tT 51)),oM 53 52,oF 53 54 (.mov (tT 2)),oF 53 55 (.mov (tT 10)),oF 53 56 (.iaddr 1 (tT 54) (tT 55)),oF 53 57 (.load false 1 (tT 56)),oF 53 58 (.bin .gtr .num (tT 57) (kI 256)),
 oO 59 (.pick (tT 53) kT (tT 58))]) (.cond (tT 59) (sQ (.region [oO 6 (.mov (kI 0))]) .ret) .skip)) (sQ (.region [oM 60 2,oM 61 10,oO 62 (.iaddr 1 (tT 60) (tT 61)),oO 63 (.load false 1 (tT 62)),oM 6 63]) .ret))) .skip)))))))) (sQ (.draw [⟨0,
 oO 64 (.faddr 3 (tT 3)),0,0,false⟩,⟨1,oO 65 (.load false 1 (tT 64)),1,0,false⟩,⟨2,oO 66 (.iaddr 4 (tT 65) (kI 0)),3,0,false⟩,⟨3,oO 67 (.load true 4 (tT 66)),7,0,false⟩,⟨4,oM 68 1,0,0,false⟩,⟨5,oM 69 2,
 0,0,false⟩,⟨6,oO 70 (kC 143 [(tT 67),(tT 68),(tT 69)]),63,0,false⟩,⟨7,oO 71 (.faddr 3 (tT 3)),0,0,false⟩,⟨8,oO 72 (.load false 1 (tT 71)),128,0,false⟩,⟨9,oO 73 (.iaddr 4 (tT 72) (kI 1)),384,0,false⟩,⟨10,
 oO 74 (.load true 4 (tT 73)),896,0,false⟩,⟨11,oM 75 1,0,0,false⟩,⟨12,oM 76 2,0,0,false⟩,⟨13,oO 77 (kC 143 [(tT 74),(tT 75),(tT 76)]),8191,1,false⟩,⟨14,oO 78 (.bin .add .num (tT 70) (tT 77)),16383,1,false⟩,
 ⟨15,oM 6 78,32767,1,false⟩]) .ret)))
theorem ok143 : FnOk Tryz.prog 143 79 ir143 [.tmp 6] := fnOk_of mixed Tryz.func143 (by kernel_rfl) Tryz.ntmps143 (by kernel_rfl) (by kernel_rfl)

def ir144 : ACode := (sQ (.region [oO 6 (.mov (.const nS)),oO 7 (.mov (kI 0))]) (sQ (.region [oO 8 (.mov (.const nS))]) (sQ (sQ (.region [oM 11 0,oO 12 (.len (tT 11)),oO 13 (.mov (kI 0))]) (.block 0 (.loop (sQ (.region [oO 14 (.bin .lss .num (tT 13) (tT 12))]) (sQ (.cond (tT 14) .skip (.exit 0)) (sQ (.block 1 (sQ (.region [oO 15 (.iaddr 3 (tT 11) (tT 13)),
 oO 16 (.load true 3 (tT 15)),oO 10 (.alloc [(.int .i64 0),(.int .i64 0),(.int .i64 0)]),⟨none,.store 3 (tT 10) (tT 16),none⟩]) (sQ (.region [oO 17 (.faddr 0 (tT 10)),oO 18 (.load false 1 (tT 17)),oM 19 1,
 oO 20 (.bin .neq .num (tT 18) (tT 19)),oM 21 20,oF 21 22 (.faddr 1 (tT 10)),oF 21 23 (.load false 1 (tT 22)),oF 21 24 (.mov (tT 2)),oF 21 25 (.bin .neq .num (tT 23) (tT 24)),oO 26 (.pick (tT 21) kT (tT 25))]) (.cond (tT 26) (.region [oM 27 8,
 oO 28 (.load true 3 (tT 10)),oO 29 (.bslice [(.int .i64 0),(.int .i64 0),(.int .i64 0)] 1 [(0,(tT 28))]),oO 30 (.append [(.int .i64 0),(.int .i64 0),(.int .i64 0)] 24 (tT 27) (tT 29)),oM 8 30]) .skip)))) (.region [oO 31 (.bin .add .num (tT 13) (kI 1)),
 oM 13 31]))))))) (sQ (sQ (.region [oM 32 8,oO 33 (.len (tT 32)),oM 34 0,oO 35 (.len (tT 34)),oO 36 (.bin .eql .num (tT 33) (tT 35))]) (.cond (tT 36) (sQ (.region [oO 6 (.mov (.const nS)),oO 7 (.mov (kI 4))]) .ret) .skip)) (sQ (.region [oM 37 8,
 oM 6 37,oO 7 (.mov (kI 0))]) .ret)))))
theorem ok144 : FnOk Tryz.prog 144 38 ir144 [.tmp 6, .tmp 7] := fnOk_of mixed Tryz.func144 (by kernel_rfl) Tryz.ntmps144 (by kernel_rfl) (by kernel_rfl)

def ir145 : ACode := (sQ (.region [oO 2 (.box (tT 0)),oO 3 (.box (tT 1)),oO 4 (.mov kF)]) (sQ (.region [oO 5 (.faddr 0 (tT 2)),oO 6 (.load false 1 (tT 5)),oO 7 (.faddr 0 (tT 3)),oO 8 (.load false 1 (tT 7)),
 oO 9 (.bin .lss .num (tT 6) (tT 8)),oM 10 9,oF 10 11 (.faddr 0 (tT 2)),oF 10 12 (.load false 1 (tT 11)),oF 10 13 (.faddr 0 (tT 3)),oF 10 14 (.load false 1 (tT 13)),oF 10 15 (.bin .eql .num (tT 12) (tT 14)),
 oF 10 16 (.mov (tT 15)),oT 16 17 (.faddr 1 (tT 2)),oT 16 18 (.load false 1 (tT 17)),oT 16 19 (.faddr 1 (tT 3)),oT 16 20 (.load false 1 (tT 19)),oT 16 21 (.bin .lss .num (tT 18) (tT 20)),oF 10 22 (.pick (tT 16) (tT 21) kF),
 oO 23 (.pick (tT 10) kT (tT 22)),oM 4 23]) .ret))
theorem ok145 : FnOk Tryz.prog 145 24 ir145 [.tmp 4] := fnOk_of mixed Tryz.func145 (by kernel_rfl) Tryz.ntmps145 (by kernel_rfl) (by kernel_rfl)

def ir146 : ACode := (sQ (.region [oO 1 (.box (tT 0)),oO 2 (.mov (kI 0)),oO 3 (.mov (kI 0))]) (sQ (sQ (.region [oO 8 (.faddr 3 (tT 1)),oO 9 (.load false 1 (tT 8)),oO 10 (.len (tT 9)),oO 11 (.mov (kI 0))]) (.block 0 (.loop (sQ (.region [oO 12 (.bin .lss .num (tT 11) (tT 10))]) (sQ (.cond (tT 12) .skip (.exit 0)) (sQ (.block 1 (sQ (.region [oO 13 (.iaddr 4 (tT 9) (tT 11)),
 oO 14 (.load true 4 (tT 13)),oO 5 (.alloc [(.int .u8 0),(.int .i64 0),nS,nS]),⟨none,.store 4 (tT 5) (tT 14),none⟩]) (sQ (.region [oO 16 (.load true 4 (tT 5)),oO 17 (kC 146 [(tT 16)]),oM 15 17,oO 18 (.extract (tT 15) 0),
 oO 19 (.extract (tT 15) 1),oM 6 18,oM 7 19]) (.region [oM 20 2,oM 21 6,oO 22 (.mx (tT 20) (tT 21)),oM 23 3,oM 24 7,oO 25 (.bin .add .num (tT 23) (tT 24)),oM 2 22,oM 3 25])))) (.region [oO 26 (.bin .add .num (tT 11) (kI 1)),
 oM 11 26]))))))) (sQ (.region [oM 27 2,oO 28 (.bin .add .num (tT 27) (kI 1)),oM 29 3,oO 30 (.bin .add .num (tT 29) (kI 1)),oM 2 28,oM 3 30]) .ret)))
theorem ok146 : FnOk Tryz.prog 146 31 ir146 [.tmp 2, .tmp 3] := fnOk_of mixed Tryz.func146 (by kernel_rfl) Tryz.ntmps146 (by kernel_rfl) (by kernel_rfl)

def ir147 : ACode := (sQ (.region [oO 2 (.box (tT 0)),oO 4 (.mov (kI 0))]) (sQ (sQ (.region [oO 10 (.load true 4 (tT 2)),oO 11 (kC 157 [(tT 10)]),oM 5 11]) (sQ (.region [oM 12 5,oO 13 (.bin .neq .num (tT 12) (kI 0))]) (.cond (tT 13) (sQ (.region [oM 14 5,
 oM 4 14]) .ret) .skip))) (sQ (.region [oO 15 (.faddr 0 (tT 2)),oO 16 (.load false 1 (tT 15)),oO 17 (.bin .eql .num (tT 16) (.const (.int .u8 4))),oM 18 17,oF 18 19 (.faddr 0 (tT 2)),oF 18 20 (.load false 1 (tT 19)),
 oF 18 21 (.bin .eql .num (tT 20) (.const (.int .u8 5))),oO 22 (.pick (tT 18) kT (tT 21)),oM 6 22]) (sQ (sQ (.region [oM 23 1,oO 24 (.bin .eql .num (tT 23) (.const (.int .u8 3))),oM 25 24,oT 25 26 (.mov (tT 6)),
 oO 27 (.pick (tT 25) (tT 26) kF),oM 28 27,oF 28 29 (.mov (tT 1)),oF 28 30 (.bin .neq .num (tT 29) (.const (.int .u8 0))),oF 28 31 (.mov (tT 30)),oT 31 32 (.mov (tT 1)),oT 31 33 (.bin .neq .num (tT 32) (.const (.int .u8 3))),
 oF 28 34 (.pick (tT 31) (tT 33) kF),oF 28 35 (.mov (tT 34)),oT 35 36 (.faddr 0 (tT 2)),oT 35 37 (.load false 1 (tT 36)),oT 35 38 (.bin .eql .num (tT 37) (.const (.int .u8 6))),oF 28 39 (.pick (tT 35) (tT 38) kF),
 oO 40 (.pick (tT 28) kT (tT 39))]) (.cond (tT 40) (sQ (.region [oO 4 (.mov (kI 10))]) .ret) .skip)) (sQ (sQ (.region [oO 41 (.faddr 3 (tT 2)),oO 42 (.load false 1 (tT 41)),oO 43 (.len (tT 42)),oO 44 (.mov (kI 0))]) (.block 0 (.loop (sQ (.region [oO 45 (.bin .lss .num (tT 44) (tT 43))]) (sQ (.cond (tT 45) .skip (.exit 0)) (sQ (.block 1 (sQ (.region [oO 46 (.iaddr 4 (tT 42) (tT 44)),
 oO 47 (.load true 4 (tT 46)),oO 8 (.alloc [(.int .u8 0),(.int .i64 0),nS,nS]),⟨none,.store 4 (tT 8) (tT 47),none⟩]) (sQ (.region [oO 48 (.load true 4 (tT 8)),oM 49 1,oO 50 (kC 147 [(tT 48),(tT 49)]),oM 9 50]) (sQ (.region [oM 51 9,
 oO 52 (.bin .neq .num (tT 51) (kI 0))]) (.cond (tT 52) (sQ (.region [oM 53 9,oM 4 53]) .ret) .skip))))) (.region [oO 54 (.bin .add .num (tT 44) (kI 1)),oM 44 54]))))))) (sQ (.region [oO 4 (.mov (kI 0))]) .ret))))))
theorem ok147 : FnOk Tryz.prog 147 55 ir147 [.tmp 4] := fnOk_of mixed Tryz.func147 (by kernel_rfl) Tryz.ntmps147 (by kernel_rfl) (by kernel_rfl)

def ir148 : ACode := (sQ (.region [oO 6 (.mov kF)]) (sQ (sQ (.region [oM 9 0,oO 10 (.len (tT 9)),oO 11 (.mov (kI 0))]) (.block 0 (.loop (sQ (.region [oO 12 (.bin .lss .num (tT 11) (tT 10))]) (sQ (.cond (tT 12) .skip (.exit 0)) (sQ (.block 1 (sQ (.region [oO 13 (.iaddr 2 (tT 9) (tT 11)),
 oO 14 (.load true 2 (tT 13)),oO 8 (.alloc [(.int .i64 0),(.int .i64 0)]),⟨none,.store 2 (tT 8) (tT 14),none⟩]) (sQ (.region [oO 15 (.iaddrA 2 1 (tT 8) (kI 0)),oO 16 (.load false 1 (tT 15)),oM 17 1,oO 18 (.bin .eql .num (tT 16) (tT 17)),
 oM 19 18,oT 19 20 (.iaddrA 2 1 (tT 8) (kI 1)),oT 19 21 (.load false 1 (tT 20)),oT 19 22 (.mov (tT 2)),oT 19 23 (.bin .eql .num (tT 21) (tT 22)),oO 24 (.pick (tT 19) (tT 23) kF)]) (.cond (tT 24) (sQ (.region [oO 6 (.mov kT)]) .ret) .skip)))) (.region [oO 25 (.bin .add .num (tT 11) (kI 1)),
 oM 11 25]))))))) (sQ (.region [oO 6 (.mov kF)]) .ret)))
theorem ok148 : FnOk Tryz.prog 148 26 ir148 [.tmp 6] := fnOk_of mixed Tryz.func148 (by kernel_rfl) Tryz.ntmps148 (by kernel_rfl) (by kernel_rfl)

def ir151 : ACode := (sQ (.region [oO 4 (.mov (kI 0))]) (sQ (sQ (.region [oM 6 0,oO 7 (.len (tT 6)),oO 8 (.mov (kI 0))]) (.block 0 (.loop (sQ (.region [oO 9 (.bin .lss .num (tT 8) (tT 7))]) (sQ (.cond (tT 9) .skip (.exit 0)) (sQ (.block 1 (sQ (.region [oM 10 8,
 oM 5 10]) (sQ (.region [oM 11 1,oM 12 0,oM 13 5,oO 14 (.iaddr 1 (tT 12) (tT 13)),oO 15 (.load false 1 (tT 14)),oO 16 (.bin .eql .num (tT 11) (tT 15))]) (.cond (tT 16) (sQ (.region [oM 17 5,oM 4 17]) .ret) .skip)))) (.region [oO 18 (.bin .add .num (tT 8) (kI 1)),
 oM 8 18]))))))) (sQ (.region [oO 4 (.mov (.const (.int .i64 (-1))))]) .ret)))
theorem ok151 : FnOk Tryz.prog 151 19 ir151 [.tmp 4] := fnOk_of mixed Tryz.func151 (by kernel_rfl) Tryz.ntmps151 (by kernel_rfl) (by kernel_rfl)

def ir153 : ACode := (sQ (.region [oO 8 (.alloc [(.int .i64 0),(.int .i64 0),nS,nS])]) (sQ (.region [oM 15 0,oO 16 (kC 127 [(tT 15)]),oM 9 16]) (sQ (sQ (.region [oM 17 1,oO 18 (.bin .gtr .num (tT 17) (kI 1)),
 oM 19 18,oT 19 20 (.mov (tT 9)),oT 19 21 (.bin .rem .num (tT 20) (kI 3)),oT 19 22 (.bin .eql .num (tT 21) (kI 2)),oO 23 (.pick (tT 19) (tT 22) kF)]) (.cond (tT 23) (sQ (.region [oM 24 0,oM 25 1,oO 26 (.bin .sub .num (tT 25) (kI 1)),
 oM 27 2,oM 28 3,oO 29 (kC 153 [(tT 24),(tT 26),(tT 27),(tT 28)]),oO 10 (.alloc [(.int .i64 0),(.int .i64 0),nS,nS]),⟨none,.store 4 (tT 10) (tT 29),none⟩]) (sQ (.region [oM 30 0,oM 31 1,oO 32 (.bin .sub .num (tT 31) (kI 1)),
 oM 33 2,oM 34 3,oO 35 (kC 153 [(tT 30),(tT 32),(tT 33),(tT 34)]),oO 11 (.alloc [(.int .i64 0),(.int .i64 0),nS,nS]),⟨none,.store 4 (tT 11) (tT 35),none⟩]) (sQ (.region [oO 36 (.load true 4 (tT 10)),oO 37 (.load true 4 (tT 11)),
 oO 38 (.bslice [(.int .i64 0),(.int .i64 0),nS,nS] 2 [(0,(tT 36)),(1,(tT 37))]),oO 39 (.build [(.int .i64 0),(.int .i64 0),nS,nS] [(0,1,(kI 16)),(3,1,(tT 38))]),⟨none,.store 4 (tT 8) (tT 39),none⟩]) .ret))) .skip)) (sQ (sQ (.region [oM 40 9,
 oO 41 (.bin .rem .num (tT 40) (kI 3)),oO 42 (.bin .eql .num (tT 41) (kI 0))]) (.cond (tT 42) (sQ (.region [oM 43 9,oO 44 (.bin .quo .num (tT 43) (kI 3)),oO 45 (.bin .rem .num (tT 44) (kI 4)),oO 46 (.build [(.int .i64 0),
 (.int .i64 0),nS,nS] [(0,1,(kI 1)),(1,1,(tT 45))]),⟨none,.store 4 (tT 8) (tT 46),none⟩]) .ret) .skip)) (sQ (sQ (.region [oM 47 2,oO 48 (.bin .eql .num (tT 47) (kI 3))]) (.cond (tT 48) (sQ (.region [oM 49 9,
 oO 50 (.bin .quo .num (tT 49) (kI 3)),oM 51 3,oO 52 (.bin .rem .num (tT 50) (tT 51)),oO 53 (.bin .add .num (kI 1) (tT 52)),oO 54 (.bslice [(.int .i64 0)] 1 [(0,(tT 53))]),oO 55 (.build [(.int .i64 0),(.int .i64 0),
 nS,nS] [(0,1,(kI 6)),(2,1,(tT 54))]),⟨none,.store 4 (tT 8) (tT 55),none⟩]) .ret) .skip)) (sQ (.region [oO 56 (.build [(.int .i64 0),(.int .i64 0),nS,nS] [(0,1,(kI 5))]),oO 12 (.alloc [(.int .i64 0),(.int .i64 0),
 nS,nS]),⟨none,.store 4 (tT 12) (tT 56),none⟩]) (sQ (.region [oM 57 0,oO 58 (kC 127 [(tT 57)]),oM 13 58]) (sQ (sQ (.region [oO 14 (.mov (kI 1))]) (.block 0 (.loop (sQ (sQ (.region [oM 59 14,oM 60 3,oO 61 (.bin .leq .num (tT 59) (tT 60))]) (.cond (tT 61) .skip (.exit 0))) (sQ (.block 1 (sQ (.region [oM 64 13,
 oM 65 14,oO 66 (.bin .sub .num (tT 65) (kI 1)),oO 67 (.bin .shr .num (tT 64) (tT 66)),oO 68 (.bin .rem .num (tT 67) (kI 2)),oO 69 (.bin .eql .num (tT 68) (kI 1))]) (.cond (tT 69) (.region [oO 70 (.faddr 2 (tT 12)),
 oO 71 (.load false 1 (tT 70)),oM 72 14,oO 73 (.bslice [(.int .i64 0)] 1 [(0,(tT 72))]),oO 74 (.append [(.int .i64 0)] 8 (tT 71) (tT 73)),oO 75 (.faddr 2 (tT 12)),⟨none,.store 1 (tT 75) (tT 74),none⟩]) .skip))) (.region [oM 62 14,
 oO 63 (.bin .add .num (tT 62) (kI 1)),oM 14 63])))))) (sQ (sQ (.region [oO 76 (.faddr 2 (tT 12)),oO 77 (.load false 1 (tT 76)),oO 78 (.len (tT 77)),oO 79 (.bin .eql .num (tT 78) (kI 0))]) (.cond (tT 79) (.region [oM 80 9,
 oO 81 (.bin .quo .num (tT 80) (kI 3)),oM 82 3,oO 83 (.bin .rem .num (tT 81) (tT 82)),oO 84 (.bin .add .num (kI 1) (tT 83)),oO 85 (.bslice [(.int .i64 0)] 1 [(0,(tT 84))]),oO 86 (.faddr 2 (tT 12)),⟨none,
 .store 1 (tT 86) (tT 85),none⟩]) .skip)) (sQ (.region [oO 87 (.load true 4 (tT 12)),⟨none,.store 4 (tT 8) (tT 87),none⟩]) .ret))))))))))
theorem ok153 : FnOk Tryz.prog 153 88 ir153 [.cell 8 true 4] := fnOk_of mixed Tryz.func153 (by kernel_rfl) Tryz.ntmps153 (by kernel_rfl) (by kernel_rfl)

def ir154 : ACode := (sQ (.region [oO 4 (.mov (kI 0))]) (sQ (sQ (.region [oM 6 0,oO 7 (.len (tT 6)),oO 8 (.mov (kI 0))]) (.block 0 (.loop (sQ (.region [oO 9 (.bin .lss .num (tT 8) (tT 7))]) (sQ (.cond (tT 9) .skip (.exit 0)) (sQ (.block 1 (sQ (.region [oM 10 8,
 oM 5 10]) (sQ (.region [oM 11 1,oM 12 0,oM 13 5,oO 14 (.iaddr 1 (tT 12) (tT 13)),oO 15 (.load false 1 (tT 14)),oO 16 (.bin .eql .num (tT 11) (tT 15))]) (.cond (tT 16) (sQ (.region [oM 17 5,oM 4 17]) .ret) .skip)))) (.region [oO 18 (.bin .add .num (tT 8) (kI 1)),
 oM 8 18]))))))) (sQ (.region [oO 4 (.mov (.const (.int .i64 (-1))))]) .ret)))
theorem ok154 : FnOk Tryz.prog 154 19 ir154 [.tmp 4] := fnOk_of mixed Tryz.func154 (by kernel_rfl) Tryz.ntmps154 (by kernel_rfl) (by kernel_rfl)

def ir155 : ACode := (sQ (.region [oO 2 (.mov (kI 0))]) (sQ (.region [oM 3 0,oO 4 (.bin .shr .num (tT 3) (.const (.int .u64 1))),oO 5 (.bin .and .num (tT 4) (.const (.int .u64 6148914691236517205))),oM 6 0,
 oO 7 (.bin .and .num (tT 6) (.const (.int .u64 6148914691236517205))),oO 8 (.bin .add .num (tT 5) (tT 7)),oM 0 8]) (sQ (.region [oM 9 0,oO 10 (.bin .shr .num (tT 9) (.const (.int .u64 2))),oO 11 (.bin .and .num (tT 10) (.const (.int .u64 3689348814741910323))),
 oM 12 0,oO 13 (.bin .and .num (tT 12) (.const (.int .u64 3689348814741910323))),oO 14 (.bin .add .num (tT 11) (tT 13)),oM 0 14]) (sQ (.region [oM 15 0,oO 16 (.bin .shr .num (tT 15) (.const (.int .u64 4))),
 oM 17 0,oO 18 (.bin .add .num (tT 16) (tT 17)),oO 19 (.bin .and .num (tT 18) (.const (.int .u64 1085102592571150095))),oM 0 19]) (sQ (.region [oM 20 0,oM 21 0,oO 22 (.bin .shr .num (tT 21) (.const (.int .u64 8))),
 oO 23 (.bin .add .num (tT 20) (tT 22)),oM 0 23]) (sQ (.region [oM 24 0,oM 25 0,oO 26 (.bin .shr .num (tT 25) (.const (.int .u64 16))),oO 27 (.bin .add .num (tT 24) (tT 26)),oM 0 27]) (sQ (.region [oM 28 0,
 oM 29 0,oO 30 (.bin .shr .num (tT 29) (.const (.int .u64 32))),oO 31 (.bin .add .num (tT 28) (tT 30)),oM 0 31]) (sQ (.region [oM 32 0,oO 33 (.conv .i64 (tT 32)),oO 34 (.bin .and .num (tT 33) (kI 127)),
 oM 2 34]) .ret))))))))
theorem ok155 : FnOk Tryz.prog 155 35 ir155 [.tmp 2] := fnOk_of mixed Tryz.func155 (by kernel_rfl) Tryz.ntmps155 (by kernel_rfl) (by kernel_rfl)

def ir156 : ACode := (sQ (.region [oO 2 (.box (tT 0)),oO 4 (.mov (kI 0))]) (sQ (sQ (.draw [⟨0,oO 13 (.faddr 0 (tT 2)),0,1,false⟩,⟨1,oO 14 (.load false 1 (tT 13)),1,1,false⟩,⟨2,oO 15 (.bin .lss .num (tT 14) (kI 1)),
 3,1,false⟩,⟨3,oM 16 15,7,1,false⟩,⟨4,oF 16 17 (.faddr 0 (tT 2)),15,1,false⟩,⟨5,oF 16 18 (.load false 1 (tT 17)),31,1,false⟩,⟨6,oF 16 19 (.bin .gtr .num (tT 18) (kI 16)),63,1,false⟩,⟨7,oO 20 (.pick (tT 16) kT (tT 19)),
 127,1,false⟩,⟨8,oM 21 20,255,1,false⟩,⟨9,oF 21 22 (.faddr 3 (tT 2)),511,0,false⟩,⟨10,oF 21 23 (.load false 1 (tT 22)),1023,0,false⟩,⟨11,oF 21 24 (.len (tT 23)),2047,0,false⟩,⟨12,oF 21 25 (.faddr 0 (tT 2)),
 511,0,false⟩,⟨13,oF 21 26 (.load false 1 (tT 25)),4607,0,false⟩,⟨14,oF 21 27 (kC 168 [(tT 26)]),12799,0,false⟩,⟨15,oF 21 28 (.bin .neq .num (tT 24) (tT 27)),32767,1,false⟩,⟨16,oO 29 (.pick (tT 21) kT (tT 28)),
 65535,1,false⟩]) (.cond (tT 29) (sQ (.region [oO 4 (.mov (kI 1))]) .ret) .skip)) (sQ (.region [oO 5 (.mov (kI 0)),oO 6 (.mov (kI 0))]) (sQ (sQ (.region [oO 30 (.faddr 0 (tT 2)),oO 31 (.load false 1 (tT 30)),
 oO 32 (.bin .eql .num (tT 31) (kI 4)),oM 33 32,oF 33 34 (.faddr 0 (tT 2)),oF 33 35 (.load false 1 (tT 34)),oF 33 36 (.bin .eql .num (tT 35) (kI 6)),oO 37 (.pick (tT 33) kT (tT 36))]) (.cond (tT 37) (.region [oO 5 (.mov (kI 1)),
 oO 6 (.mov (kI 1))]) .skip)) (sQ (sQ (.region [oO 38 (.faddr 0 (tT 2)),oO 39 (.load false 1 (tT 38)),oO 40 (.bin .eql .num (tT 39) (kI 5))]) (.cond (tT 40) (.region [oO 5 (.mov (kI 1)),oO 6 (.mov (kI 8))]) .skip)) (sQ (sQ (.region [oO 41 (.faddr 0 (tT 2)),
 oO 42 (.load false 1 (tT 41)),oO 43 (.bin .neq .num (tT 42) (kI 1)),oM 44 43,oT 44 45 (.faddr 1 (tT 2)),oT 44 46 (.load false 1 (tT 45)),oT 44 47 (.bin .neq .num (tT 46) (kI 0)),oO 48 (.pick (tT 44) (tT 47) kF),
 oM 49 48,oF 49 50 (.faddr 2 (tT 2)),oF 49 51 (.load false 1 (tT 50)),oF 49 52 (.len (tT 51)),oF 49 53 (.mov (tT 5)),oF 49 54 (.bin .lss .num (tT 52) (tT 53)),oO 55 (.pick (tT 49) kT (tT 54)),oM 56 55,oF 56 57 (.faddr 2 (tT 2)),
 oF 56 58 (.load false 1 (tT 57)),oF 56 59 (.len (tT 58)),oF 56 60 (.mov (tT 6)),oF 56 61 (.bin .gtr .num (tT 59) (tT 60)),oO 62 (.pick (tT 56) kT (tT 61))]) (.cond (tT 62) (sQ (.region [oO 4 (.mov (kI 6))]) .ret) .skip)) (sQ (sQ (.region [oO 63 (.faddr 1 (tT 2)),
 oO 64 (.load false 1 (tT 63)),oO 65 (.bin .lss .num (tT 64) (kI 0)),oM 66 65,oF 66 67 (.faddr 1 (tT 2)),oF 66 68 (.load false 1 (tT 67)),oF 66 69 (.bin .gtr .num (tT 68) (kI 999999)),oO 70 (.pick (tT 66) kT (tT 69))]) (.cond (tT 70) (sQ (.region [oO 4 (.mov (kI 2))]) .ret) .skip)) (sQ (sQ (.region [oO 71 (.faddr 2 (tT 2)),
 oO 72 (.load false 1 (tT 71)),oO 73 (.len (tT 72)),oO 74 (.mov (kI 0))]) (.block 0 (.loop (sQ (.region [oO 75 (.bin .lss .num (tT 74) (tT 73))]) (sQ (.cond (tT 75) .skip (.exit 0)) (sQ (.block 1 (sQ (.region [oO 76 (.iaddr 1 (tT 72) (tT 74)),
 oO 77 (.load false 1 (tT 76)),oM 8 77]) (sQ (.region [oM 78 8,oO 79 (.bin .lss .num (tT 78) (kI 1)),oM 80 79,oF 80 81 (.mov (tT 8)),oF 80 82 (.bin .gtr .num (tT 81) (kI 63)),oO 83 (.pick (tT 80) kT (tT 82))]) (.cond (tT 83) (sQ (.region [oO 4 (.mov (kI 2))]) .ret) .skip)))) (.region [oO 84 (.bin .add .num (tT 74) (kI 1)),
 oM 74 84]))))))) (sQ (sQ (.region [oO 85 (.faddr 2 (tT 2)),oO 86 (.load false 1 (tT 85)),oO 87 (.len (tT 86)),oO 88 (.mov (kI 0))]) (.block 2 (.loop (sQ (.region [oO 89 (.bin .lss .num (tT 88) (tT 87))]) (sQ (.cond (tT 89) .skip (.exit 2)) (sQ (.block 3 (sQ (.region [oM 90 88,
 oO 91 (.iaddr 1 (tT 86) (tT 88)),oO 92 (.load false 1 (tT 91)),oM 9 90,oM 10 92]) (sQ (.region [oO 93 (.faddr 2 (tT 2)),oO 94 (.load false 1 (tT 93)),oM 95 9,oO 96 (.slc 1 (tT 94) none (some (tT 95)) none),
 oO 97 (.len (tT 96)),oO 98 (.mov (kI 0))]) (.block 4 (.loop (sQ (.region [oO 99 (.bin .lss .num (tT 98) (tT 97))]) (sQ (.cond (tT 99) .skip (.exit 4)) (sQ (.block 5 (sQ (.region [oO 100 (.iaddr 1 (tT 96) (tT 98)),
 oO 101 (.load false 1 (tT 100)),oM 12 101]) (sQ (.region [oM 102 12,oM 103 10,oO 104 (.bin .eql .num (tT 102) (tT 103))]) (.cond (tT 104) (sQ (.region [oO 4 (.mov (kI 5))]) .ret) .skip)))) (.region [oO 105 (.bin .add .num (tT 98) (kI 1)),
 oM 98 105]))))))))) (.region [oO 106 (.bin .add .num (tT 88) (kI 1)),oM 88 106]))))))) (sQ (sQ (.region [oM 107 1,oO 108 (.bin .eql .num (tT 107) (kI 3)),oM 109 108,oT 109 110 (.faddr 0 (tT 2)),oT 109 111 (.load false 1 (tT 110)),
 oT 109 112 (.bin .eql .num (tT 111) (kI 4)),oT 109 113 (.mov (tT 112)),oF 113 114 (.faddr 0 (tT 2)),oF 113 115 (.load false 1 (tT 114)),oF 113 116 (.bin .eql .num (tT 115) (kI 5)),oT 109 117 (.pick (tT 113) kT (tT 116)),
 oO 118 (.pick (tT 109) (tT 117) kF),oM 119 118,oF 119 120 (.mov (tT 1)),oF 119 121 (.bin .neq .num (tT 120) (kI 0)),oF 119 122 (.mov (tT 121)),oT 122 123 (.mov (tT 1)),oT 122 124 (.bin .neq .num (tT 123) (kI 3)),
 oF 119 125 (.pick (tT 122) (tT 124) kF),oF 119 126 (.mov (tT 125)),oT 126 127 (.faddr 0 (tT 2)),oT 126 128 (.load false 1 (tT 127)),oT 126 129 (.bin .eql .num (tT 128) (kI 6)),oF 119 130 (.pick (tT 126) (tT 129) kF),
 oO 131 (.pick (tT 119) kT (tT 130))]) (.cond (tT 131) (sQ (.region [oO 4 (.mov (kI 10))]) .ret) .skip)) (sQ (.region [oO 4 (.mov (kI 0))]) .ret)))))))))))
theorem ok156 : FnOk Tryz.prog 156 132 ir156 [.tmp 4] := fnOk_of mixed Tryz.func156 (by kernel_rfl) Tryz.ntmps156 (by kernel_rfl) (by kernel_rfl)

def ir157 : ACode := (sQ (.region [oO 1 (.box (tT 0)),oO 2 (.mov (kI 0))]) (sQ (.region [oO 9 (.faddr 0 (tT 1)),oO 10 (.load false 1 (tT 9)),oO 11 (kC 169 [(tT 10)]),oM 8 11,oO 12 (.extract (tT 8) 0),oO 13 (.extract (tT 8) 1),
 oO 14 (.extract (tT 8) 2),oM 3 12,oM 4 13,oM 5 14]) (sQ (sQ (.region [oO 15 (.faddr 0 (tT 1)),oO 16 (.load false 1 (tT 15)),oO 17 (.bin .lss .num (tT 16) (.const (.int .u8 1))),oM 18 17,oF 18 19 (.faddr 0 (tT 1)),
 oF 18 20 (.load false 1 (tT 19)),oF 18 21 (.bin .gtr .num (tT 20) (.const (.int .u8 16))),oO 22 (.pick (tT 18) kT (tT 21)),oM 23 22,oF 23 24 (.faddr 3 (tT 1)),oF 23 25 (.load false 1 (tT 24)),oF 23 26 (.len (tT 25)),
 oF 23 27 (.mov (tT 3)),oF 23 28 (.bin .neq .num (tT 26) (tT 27)),oO 29 (.pick (tT 23) kT (tT 28))]) (.cond (tT 29) (sQ (.region [oO 2 (.mov (kI 1))]) .ret) .skip)) (sQ (sQ (.region [oO 30 (.faddr 0 (tT 1)),
 oO 31 (.load false 1 (tT 30)),oO 32 (.bin .neq .num (tT 31) (.const (.int .u8 1))),oM 33 32,oT 33 34 (.faddr 1 (tT 1)),oT 33 35 (.load false 1 (tT 34)),oT 33 36 (.bin .neq .num (tT 35) (kI 0)),oO 37 (.pick (tT 33) (tT 36) kF),
 oM 38 37,oF 38 39 (.faddr 2 (tT 1)),oF 38 40 (.load false 1 (tT 39)),oF 38 41 (.len (tT 40)),oF 38 42 (.mov (tT 4)),oF 38 43 (.bin .lss .num (tT 41) (tT 42)),oO 44 (.pick (tT 38) kT (tT 43)),oM 45 44,oF 45 46 (.faddr 2 (tT 1)),
 oF 45 47 (.load false 1 (tT 46)),oF 45 48 (.len (tT 47)),oF 45 49 (.mov (tT 5)),oF 45 50 (.bin .gtr .num (tT 48) (tT 49)),oO 51 (.pick (tT 45) kT (tT 50))]) (.cond (tT 51) (sQ (.region [oO 2 (.mov (kI 6))]) .ret) .skip)) (sQ (sQ (.region [oO 52 (.faddr 1 (tT 1)),
 oO 53 (.load false 1 (tT 52)),oO 54 (.bin .lss .num (tT 53) (kI 0)),oM 55 54,oF 55 56 (.faddr 1 (tT 1)),oF 55 57 (.load false 1 (tT 56)),oF 55 58 (.bin .gtr .num (tT 57) (kI 999999)),oO 59 (.pick (tT 55) kT (tT 58))]) (.cond (tT 59) (sQ (.region [oO 2 (.mov (kI 2))]) .ret) .skip)) (sQ (sQ (.region [oO 60 (.faddr 2 (tT 1)),
 oO 61 (.load false 1 (tT 60)),oO 62 (.len (tT 61)),oO 63 (.mov (kI 0))]) (.block 0 (.loop (sQ (.region [oO 64 (.bin .lss .num (tT 63) (tT 62))]) (sQ (.cond (tT 64) .skip (.exit 0)) (sQ (.block 1 (sQ (.region [oO 65 (.iaddr 1 (tT 61) (tT 63)),
 oO 66 (.load false 1 (tT 65)),oM 7 66]) (sQ (.region [oM 67 7,oO 68 (.bin .lss .num (tT 67) (kI 1)),oM 69 68,oF 69 70 (.mov (tT 7)),oF 69 71 (.bin .gtr .num (tT 70) (kI 63)),oO 72 (.pick (tT 69) kT (tT 71))]) (.cond (tT 72) (sQ (.region [oO 2 (.mov (kI 2))]) .ret) .skip)))) (.region [oO 73 (.bin .add .num (tT 63) (kI 1)),
 oM 63 73]))))))) (sQ (sQ (.draw [⟨0,oO 74 (.faddr 2 (tT 1)),0,0,false⟩,⟨1,oO 75 (.load false 1 (tT 74)),1,0,false⟩,⟨2,oO 76 (kC 45 [(tT 75)]),3,0,false⟩,⟨3,oO 77 (kC 134 [(tT 76)]),7,0,false⟩,⟨4,oO 78 (.faddr 2 (tT 1)),
 0,0,false⟩,⟨5,oO 79 (.load false 1 (tT 78)),16,0,false⟩,⟨6,oO 80 (.len (tT 79)),48,0,false⟩,⟨7,oO 81 (.bin .neq .num (tT 77) (tT 80)),127,1,false⟩]) (.cond (tT 81) (sQ (.region [oO 2 (.mov (kI 5))]) .ret) .skip)) (sQ (.region [oO 2 (.mov (kI 0))]) .ret))))))))
theorem ok157 : FnOk Tryz.prog 157 82 ir157 [.tmp 2] := fnOk_of mixed Tryz.func157 (by kernel_rfl) Tryz.ntmps157 (by kernel_rfl) (by kernel_rfl)

end Go.Proofs.YtbmhdpflloepkaaGreatDoor

namespace Go.Proofs.YtbmhdpflloepkaaGreatDoor
set_option maxRecDepth 100000

def ir168 : ACode := (sQ (.region [oO 2 (.mov (kI 0))]) (sQ (.block 0 (sQ (.region [oM 4 0,oO 5 (.bin .geq .num (tT 4) (kI 8)),oM 3 5]) (.cond (tT 3) (sQ (.region [oO 2 (.mov (kI 2))]) .ret) (sQ (.region [oM 7 0,
 oO 8 (.bin .eql .num (tT 7) (kI 7)),oM 6 8]) (.cond (tT 6) (sQ (.region [oO 2 (.mov (kI 1))]) .ret) .skip))))) (sQ (.region [oO 2 (.mov (kI 0))]) .ret)))
theorem ok168 : FnOk Tryz.prog 168 9 ir168 [.tmp 2] := fnOk_of mixed Tryz.func168 (by kernel_rfl) Tryz.ntmps168 (by kernel_rfl) (by kernel_rfl)

def ir169 : ACode := (sQ (.region [oO 2 (.mov (kI 0)),oO 3 (.mov (kI 0)),oO 4 (.mov (kI 0))]) (sQ (.block 0 (sQ (.region [oM 6 0,oO 7 (.bin .geq .num (tT 6) (.const (.int .u8 8))),oM 5 7]) (.cond (tT 5) (sQ (.region [oO 2 (.mov (kI 2)),
 oO 3 (.mov (kI 0)),oO 4 (.mov (kI 0))]) .ret) (sQ (.region [oM 9 0,oO 10 (.bin .eql .num (tT 9) (.const (.int .u8 7))),oM 8 10]) (.cond (tT 8) (sQ (.region [oO 2 (.mov (kI 1)),oO 3 (.mov (kI 0)),oO 4 (.mov (kI 0))]) .ret) (sQ (.region [oM 12 0,
 oO 13 (.bin .eql .num (tT 12) (.const (.int .u8 4))),oM 14 13,oF 14 15 (.mov (tT 0)),oF 14 16 (.bin .eql .num (tT 15) (.const (.int .u8 6))),oO 17 (.pick (tT 14) kT (tT 16)),oM 11 17]) (.cond (tT 11) (sQ (.region [oO 2 (.mov (kI 0)),
 oO 3 (.mov (kI 1)),oO 4 (.mov (kI 1))]) .ret) (sQ (.region [oM 19 0,oO 20 (.bin .eql .num (tT 19) (.const (.int .u8 5))),oM 18 20]) (.cond (tT 18) (sQ (.region [oO 2 (.mov (kI 0)),oO 3 (.mov (kI 1)),oO 4 (.mov (kI 8))]) .ret) .skip))))))))) (sQ (.region [oO 2 (.mov (kI 0)),
 oO 3 (.mov (kI 0)),oO 4 (.mov (kI 0))]) .ret)))
theorem ok169 : FnOk Tryz.prog 169 21 ir169 [.tmp 2, .tmp 3, .tmp 4] := fnOk_of mixed Tryz.func169 (by kernel_rfl) Tryz.ntmps169 (by kernel_rfl) (by kernel_rfl)

end Go.Proofs.YtbmhdpflloepkaaGreatDoor
