/-
  Merged from the texts that this claim's theorem needs, part 5 of 7. No statement of the seat is proved here.
-/
import Derived.Calls
import Derived.Lone
import Derived.StepT
import Derived.Test.YtcoehdmpjflmlaaGreatDoorMq3
set_option linter.unusedSimpArgs false
set_option linter.unusedVariables false
set_option linter.unusedSectionVars false

namespace Go.Proofs.YtcoehdmpjflmlaaGreatDoor
open Go.RowKit
set_option linter.unusedVariables false
attribute [local irreducible] aw opsK dK jw

def mem (N : Nat) : List Nat := (List.range 64).filter fun i => N.testBit i
theorem mem_iff {N i : Nat} (hN : N < 18446744073709551616) : i∈mem N ↔ N.testBit i = true := by
 simp only [mem,List.mem_filter,List.mem_range]
 exact ⟨fun h => h.2,fun h => ⟨bit_lt hN h,h⟩⟩
theorem mem_sorted (N : Nat) : (mem N).Pairwise (· < ·) := List.Pairwise.filter _ List.pairwise_lt_range
theorem mem_lt {N i : Nat} (h : i∈mem N) : i < 64 := by
 simp only [mem,List.mem_filter,List.mem_range] at h; exact h.1
theorem mem_length (N : Nat) : (mem N).length≤64 := by
 have := List.length_filter_le (fun i => N.testBit i) (List.range 64)
 simpa [mem] using this
theorem asc_ext : ∀ {l m : List Nat},l.Pairwise (· < ·)→m.Pairwise (· < ·)→(∀ x,x∈l ↔ x∈m)→l = m
 | [],[],_,_,_ => rfl
 | [],y :: m,_,_,h=>by have := (h y).2 (by simp); cases this
 | x :: l,[],_,_,h=>by have := (h x).1 (by simp); cases this
 | x :: l, y :: m, hl, hm, h => by
   rw [List.pairwise_cons] at hl hm
   have hxy : x = y := by
    have h1 := (h x).1 (by simp)
    have h2 := (h y).2 (by simp)
    rcases List.mem_cons.1 h1 with h1 | h1
    · exact h1
    · rcases List.mem_cons.1 h2 with h2 | h2
      · exact h2.symm
      · have := hm.1 x h1; have := hl.1 y h2; omega
   subst hxy
   congr 1
   refine asc_ext hl.2 hm.2 fun z => ?_
   constructor
   · intro hz
     rcases List.mem_cons.1 ((h z).1 (by simp [hz])) with hz' | hz'
     · have := hl.1 z hz; omega
     · exact hz'
   · intro hz
     rcases List.mem_cons.1 ((h z).2 (by simp [hz])) with hz' | hz'
     · have := hm.1 z hz; omega
     · exact hz'
theorem mem_zero : mem 0 = [] := by simp [mem]
theorem mem_step {y : Nat} (hy : y < 18446744073709551616) (h : y≠0) : mem y = tz y :: mem (y &&& (y - 1)) := by
 have hlt : y &&& (y - 1) < 18446744073709551616 := Nat.lt_of_le_of_lt Nat.and_le_left hy
 refine asc_ext (mem_sorted y) ?_ fun z => ?_
 · rw [List.pairwise_cons]
   refine ⟨fun z hz => ?_,mem_sorted _⟩
   rw [mem_iff hlt,clear_testBit h] at hz
   have h1 : y.testBit z = true∧z≠tz y := by simpa using hz
   have := tz_low h h1.1
   omega
 · rw [List.mem_cons, mem_iff hy, mem_iff hlt, clear_testBit h]
   constructor
   · intro hz
     by_cases he : z = tz y
     · exact .inl he
     · exact .inr (by simp [hz,he])
   · rintro (rfl | hz)
     · exact tz_bit h
     · have h1 : y.testBit z = true ∧ z ≠ tz y := by simpa using hz
       exact h1.1

abbrev MemT (N : Nat) := { i : Nat // i∈mem N }
def encM (N : Nat) (x : MemT N) : List Value := [.int .i64 (x.val : Int)]

theorem allfn_spec (N : Nat) : Spec Tryz.prog 52 [setN N] (· = .fn 80 [.cp [.vec (words (digs N)) false]]) := by
 refine spec_intro ok52 (Nat.le_of_ble_eq_true rfl) fun C hC => ?_
 refine aw_seq ?_
 refine aw_region ?_
 refine opsK_ofAlt rfl rfl rfl ?_
 (refine go ?_;repeat' (apply B<;>intro hb<;>try cases hb))
 exact ret_ok rfl ⟨⟨words_pure _,trivial⟩,trivial⟩ rfl

theorem clear_lt {y : Nat} (hy : y < 18446744073709551616) : y &&& (y - 1) < 18446744073709551616 := Nat.lt_of_le_of_lt Nat.and_le_left hy
theorem clear_le {y : Nat} (h : y≠0) : y &&& (y - 1) < y := Nat.lt_of_le_of_lt Nat.and_le_right (by omega)

set_option maxHeartbeats 4000000 in
theorem all_iter (N : Nat) (hN : N < 18446744073709551616) : IterOk Tryz.prog 80 [.cp [.vec (words (digs N)) false]] (encM N) (fun xs => xs.map (·.val) = mem N) (fun pre => ∃ t,pre.map (·.val) ++ t = mem N) (mem N).length := by
 refine iter_intro ok80 (Nat.le_of_ble_eq_true rfl) fun Y hYN hYe hYs hYn => ?_
 by_cases h0 : N = 0
 · subst h0
   rw [digs_zero]
   repeat' (first
    | refine jw_seq ?_
    | refine jw_region ?_
    | refine jops_done ?_
    | refine jops_q rfl ?_
    | refine jw_block ?_
    | refine jw_skip ?_
    | refine jw_exit ?_
    | refine jw_ret ?_
    | refine jw_cond (b := true) rfl (fun _ => ?_) (fun h=>by cases h)
    | refine jw_cond (b := false) rfl (fun h=>by cases h) (fun _ => ?_))
   refine jw_loop (X := Unit) (fun _ => True) (fun _ => 0) (fun _=>[]) (fun _ => [(7,.val (.int .i64 ((0 : Nat) : Int))),(8,.val (.int .i64 0))]) () trivial rfl ⟨rfl,rfl,trivial⟩ ?_
   rintro ⟨⟩ -
   repeat' (first
    | refine jw_seq ?_
    | refine jw_region ?_
    | refine jops_done ?_
    | refine jops_q rfl ?_
    | refine jw_block ?_
    | refine jw_skip ?_
    | refine jw_exit ?_
    | refine jw_ret ?_
    | refine jw_cond (b := true) rfl (fun _ => ?_) (fun h=>by cases h)
    | refine jw_cond (b := false) rfl (fun h=>by cases h) (fun _ => ?_))
   exact ⟨.inl rfl,mem_zero.symm⟩
 rw [digs_one hN h0]
 repeat' (first
  | refine jw_seq ?_
  | refine jw_region ?_
  | refine jops_done ?_
  | refine jops_q rfl ?_
  | refine jw_block ?_
  | refine jw_skip ?_
  | refine jw_exit ?_
  | refine jw_ret ?_
  | refine jw_cond (b := true) rfl (fun _ => ?_) (fun h=>by cases h)
  | refine jw_cond (b := false) rfl (fun h=>by cases h) (fun _ => ?_))
 refine jw_loop (X := Bool × List (MemT N)) (fun x => (x.1 = true→x.2.map (·.val) = mem N)∧(x.1 = false→x.2 = [])) (fun x => if x.1 then 0 else 1) (fun x => x.2)
  (fun x => [(0,.val (.func (.yield Y.l) #[] #[])),(6,.vec [[.val (.int .u64 (N : Int))]] false),(7,.val (.int .i64 ((1 : Nat) : Int))),(8,.val (.int .i64 (if x.1 then 1 else 0)))]) (false,[]) ⟨by simp,by simp⟩ rfl ⟨rfl,rfl,rfl,rfl,trivial⟩ ?_
 rintro ⟨b,pre⟩ ⟨hb1,hb2⟩
 simp only at hb1 hb2
 cases b with
 | true =>
   repeat' (first
    | refine jw_seq ?_
    | refine jw_region ?_
    | refine jops_done ?_
    | refine jops_q rfl ?_
    | refine jw_block ?_
    | refine jw_skip ?_
    | refine jw_exit ?_
    | refine jw_ret ?_
    | refine jw_cond (b := true) rfl (fun _ => ?_) (fun h=>by cases h)
    | refine jw_cond (b := false) rfl (fun h=>by cases h) (fun _ => ?_))
   exact ⟨.inl rfl,hb1 rfl⟩
 | false =>
   obtain rfl := hb2 rfl
   repeat' (first
    | refine jw_seq ?_
    | refine jw_region ?_
    | refine jops_done ?_
    | refine jops_q rfl ?_
    | refine jw_block ?_
    | refine jw_skip ?_
    | refine jw_exit ?_
    | refine jw_ret ?_
    | refine jw_cond (b := true) rfl (fun _ => ?_) (fun h=>by cases h)
    | refine jw_cond (b := false) rfl (fun h=>by cases h) (fun _ => ?_))
   refine jw_loop (X := Nat × List (MemT N)) (fun x => x.1 < 18446744073709551616∧x.2.map (·.val) ++ mem x.1 = mem N) (fun x => x.1) (fun x => x.2)
    (fun x => [(0,.val (.func (.yield Y.l) #[] #[])),(3,.val (.int .i64 0)),(4,.val (.int .u64 (x.1 : Int))),(6,.vec [[.val (.int .u64 (N : Int))]] false),(7,.val (.int .i64 ((1 : Nat) : Int))),(8,.val (.int .i64 0))]) (N,[]) ⟨hN,by simp⟩ rfl ⟨rfl,rfl,rfl,rfl,rfl,rfl,trivial⟩ ?_
   rintro ⟨y,pre⟩ ⟨hy,hpre⟩
   simp only at hy hpre
   refine jw_seq ?_
   refine jw_seq ?_
   refine jw_region ?_
   refine jops_q rfl ?_
   refine jops_q rfl ?_
   refine jops_done ?_
   by_cases hy0 : y = 0
   · subst hy0
     rw [mem_zero,List.append_nil] at hpre
     repeat' (first
      | refine jw_seq ?_
      | refine jw_region ?_
      | refine jops_done ?_
      | refine jops_q rfl ?_
      | refine jw_block ?_
      | refine jw_skip ?_
      | refine jw_exit ?_
      | refine jw_ret ?_
      | refine jw_cond (b := true) rfl (fun _ => ?_) (fun h=>by cases h)
      | refine jw_cond (b := false) rfl (fun h=>by cases h) (fun _ => ?_))
     exact ⟨(true,pre),⟨fun _ => hpre,fun h=>by cases h⟩,by simp,rfl,rfl,rfl,rfl,rfl,trivial⟩
   · have hne : ((y : Int) != 0) = true := by simp; exact hy0
     have hcond : ∀ {e : Env},e 14 = some (.val (.bool ((y : Int) != 0)))→ev e (.tmp 14) = some (.val (.bool true)) := fun h=>by rw [hne] at h; exact h
     refine jw_cond (b := true) (hcond rfl) (fun _ => ?_) (fun h=>by cases h)
     rw [mem_step hy hy0] at hpre
     have hmem : tz y∈mem N := by rw [← hpre]; simp
     have hlt := mem_lt hmem
     have hlen : pre.length < (mem N).length := by rw [← hpre]; simp
     have hsum : IntKind.i64.wrap (IntKind.i64.wrap (64 * 0) + ((tz y : Nat) : Int)) = ((tz y : Nat) : Int) := by
      rw [show IntKind.i64.wrap (64 * 0) = 0 from rfl,Int.zero_add]
      exact IntWalk.i64_in _ ⟨by omega,by omega⟩
     refine jw_skip ?_
     refine jw_seq ?_
     refine jw_block ?_
     refine jw_yield (al := [_,_,_,_,_,_]) (d1 := 25) (d2 := 26) ⟨tz y,hmem⟩ ?_
     refine jops_q rfl ?_
     refine jops_q rfl ?_
     refine jops_q rfl ?_
     refine jops_q rfl ?_
     refine jops_call (tz_spec y hy hy0) rfl rfl rfl ⟨trivial,trivial⟩ ?_
     refine jops_q (p := .val (.int .i64 ((tz y : Nat) : Int))) ?_ ?_
     · show some (PV.val (Value.int .i64 (IntKind.i64.wrap (IntKind.i64.wrap (64 * 0) + ((tz y : Nat) : Int))))) = _
       rw [hsum]
     refine jops_done ⟨rfl,rfl,by rw [hYe]; rfl,by rw [hYN]; exact hlen,?_,?_⟩
     · rw [hYs]
       exact ⟨mem (y &&& (y - 1)),by rw [List.map_append,List.append_assoc]; exact hpre⟩
     have hand : bits .and .u64 (y : Int) (IntKind.u64.wrap ((y : Int) - 1)) = ((y &&& (y - 1) : Nat) : Int) := by
      rw [IntKind.wrap_u64,show ((y : Int) - 1) % 18446744073709551616 = ((y - 1 : Nat) : Int) by omega]
      exact bits_and_u64_nat _ _ hy (by omega)
     refine jw_region ?_
     refine jops_q rfl ?_
     refine jops_q rfl ?_
     refine jops_q rfl ?_
     refine jops_q (p := .val (.int .u64 ((y &&& (y - 1) : Nat) : Int))) ?_ ?_
     · show some (PV.val (Value.int .u64 (bits .and .u64 (y : Int) (IntKind.u64.wrap ((y : Int) - 1))))) = _
       rw [hand]
     refine jops_q rfl ?_
     refine jops_done ?_
     exact ⟨(y &&& (y - 1),pre ++ [⟨tz y,hmem⟩]),⟨clear_lt hy,by rw [List.map_append,List.append_assoc]; exact hpre⟩,clear_le hy0,rfl,rfl,rfl,rfl,rfl,rfl,rfl,trivial⟩
end Go.Proofs.YtcoehdmpjflmlaaGreatDoor

namespace Go.Proofs.YtcoehdmpjflmlaaGreatDoor
open Go.RowKit
set_option linter.unusedVariables false
attribute [local irreducible] aw opsK dK jw

def intsN (l : List Nat) : List Int := l.map fun (x : Nat) => (x : Int)
theorem lenS_spec (N : Nat) (hN : N < 18446744073709551616) : Spec Tryz.prog 108 [setN N] (· = .val (.int .i64 (popK 64 N : Nat))) := by
 have h := len_spec (digs N) (digs_words N) (by have := digs_short hN;omega)
 rw [lenW_digs hN] at h
 exact h

end Go.Proofs.YtcoehdmpjflmlaaGreatDoor

namespace Go.Proofs.YtcoehdmpjflmlaaGreatDoor
open Go.RowKit
set_option linter.unusedVariables false

abbrev Pr := Nat × Nat
def prC (p : Pr) : List PV := [.val (.int .i64 (p.1 : Int)),.val (.int .i64 (p.2 : Int))]
theorem prC_pure (p : Pr) : pureL (prC p) := ⟨trivial,trivial,trivial⟩
inductive Up (l : List Pr) : Nat→Nat→Prop
 | one {a b : Nat} (h : (a,b)∈l) : Up l a b
 | more {a b c : Nat} (h : Up l a b) (k : (b,c)∈l) : Up l a c
theorem up_iff {l : List Pr} {a b : Nat} : Up l a b ↔ ∃ c,(c,b)∈l∧(a = c ∨ Up l a c) := by
 constructor
 · intro h
   cases h with
   | one h => exact ⟨a,h,.inl rfl⟩
   | more h k => exact ⟨_,k,.inr h⟩
 · rintro ⟨c, h, rfl | k⟩
   · exact .one h
   · exact .more k h
theorem Up.trans {l : List Pr} {a b c : Nat} (h : Up l a b) (k : Up l b c) : Up l a c := by
 induction k with
 | one k => exact .more h k
 | more _ k ih => exact .more ih k
theorem Up.mono {l m : List Pr} (hs : ∀ p∈l,p∈m) {a b : Nat} (h : Up l a b) : Up m a b := by
 induction h with
 | one h => exact .one (hs _ h)
 | more _ k ih => exact .more ih (hs _ k)
def Small (l : List Pr) : Prop := ∀ p∈l,p.1 < 64∧p.2 < 64
theorem Up.lt {l : List Pr} (hl : Small l) {a b : Nat} (h : Up l a b) : a < 64∧b < 64 := by
 induction h with
 | one h => exact hl _ h
 | more _ k ih => exact ⟨ih.1,(hl _ k).2⟩
def Acy (l : List Pr) : Prop := ∃ rank : Nat→Nat,∀ p∈l,rank p.1 < rank p.2
theorem Acy.sub {l m : List Pr} (h : Acy m) (hs : ∀ p∈l,p∈m) : Acy l := by
 obtain ⟨r,hr⟩ := h
 exact ⟨r,fun p hp => hr p (hs p hp)⟩

def ofP (p : Nat→Bool) : Nat→Nat
 | 0 => 0
 | k + 1 => if p k then ofP p k ||| 2 ^ k else ofP p k
theorem ofP_bit (p : Nat→Bool) : ∀ k i,(ofP p k).testBit i = (decide (i < k) && p i)
 | 0,i=>by simp [ofP]
 | k + 1, i => by
   have ih := ofP_bit p k i
   unfold ofP
   by_cases hk : i = k
   · subst hk
     cases hp : p i with
     | true => rw [if_pos rfl,Nat.testBit_or,Nat.testBit_two_pow_self]; simp
     | false => rw [if_neg (by decide),ih]; simp
   · have h2 : decide (i < k + 1) = decide (i < k) := decide_eq_decide.2 (by omega)
     rw [h2]
     split
     · rw [Nat.testBit_or,Nat.testBit_two_pow_of_ne (by omega),Bool.or_false,ih]
     · exact ih
theorem ofP_lt (p : Nat→Bool) : ∀ k,ofP p k < 2 ^ k
 | 0=>by simp [ofP]
 | k + 1 => by
   have := ofP_lt p k
   have h2 : 2 ^ (k + 1) = 2 ^ k + 2 ^ k := by rw [Nat.pow_succ]; omega
   unfold ofP
   split
   · exact Nat.or_lt_two_pow (by omega) (by omega)
   · omega
theorem ofP_64 (p : Nat→Bool) : ofP p 64 < 18446744073709551616 := ofP_lt p 64
theorem eq64 {a b : Nat} (ha : a < 18446744073709551616) (hb : b < 18446744073709551616) (h : ∀ i,i < 64→a.testBit i = b.testBit i) : a = b := by
 apply Nat.eq_of_testBit_eq
 intro i
 by_cases hi : i < 64
 · exact h i hi
 · have e : ∀ {x : Nat}, x < 18446744073709551616 → x.testBit i = false := fun {x} hx => Nat.testBit_lt_two_pow (Nat.lt_of_lt_of_le hx (Nat.pow_le_pow_right (n := 2) (by decide) (show 64 ≤ i by omega)))
   rw [e ha,e hb]
open Classical in
noncomputable def abv (l : List Pr) (b : Nat) : Nat := ofP (fun a => decide (Up l a b)) 64
open Classical in
noncomputable def bel (l : List Pr) (a : Nat) : Nat := ofP (fun b => decide (Up l a b)) 64
theorem abv_bit {l : List Pr} (hl : Small l) (a b : Nat) : (abv l b).testBit a = true ↔ Up l a b := by
 unfold abv
 rw [ofP_bit]
 simp only [Bool.and_eq_true,decide_eq_true_eq]
 exact ⟨fun h => h.2,fun h => ⟨(h.lt hl).1,h⟩⟩
theorem bel_bit {l : List Pr} (hl : Small l) (a b : Nat) : (bel l a).testBit b = true ↔ Up l a b := by
 unfold bel
 rw [ofP_bit]
 simp only [Bool.and_eq_true,decide_eq_true_eq]
 exact ⟨fun h => h.2,fun h => ⟨(h.lt hl).2,h⟩⟩
theorem abv_64 (l : List Pr) (b : Nat) : abv l b < 18446744073709551616 := ofP_64 _
theorem bel_64 (l : List Pr) (a : Nat) : bel l a < 18446744073709551616 := ofP_64 _

structure Topo (l : List Pr) (S : List Nat) : Prop where
 nodup : S.Nodup
 lt : ∀ x∈S,x < 64
 pred : ∀ (t : Nat) (ht : t < S.length) (a : Nat),(a,S[t])∈l→a∈S.take t
theorem Topo.nil (l : List Pr) : Topo l [] := ⟨List.nodup_nil,fun _ h => (by cases h),fun t ht => absurd ht (Nat.not_lt_zero t)⟩
theorem Topo.closed {l : List Pr} {S : List Nat} (h : Topo l S) {a b : Nat} (hp : (a,b)∈l) (hb : b∈S) : a∈S := by
 obtain ⟨t,ht,rfl⟩ := List.getElem_of_mem hb
 exact List.mem_of_mem_take (h.pred t ht a hp)
theorem Topo.snoc {l : List Pr} {S : List Nat} (h : Topo l S) {k : Nat} (hk : k ∉ S) (h64 : k < 64) (hp : ∀ a,(a,k)∈l→a∈S) : Topo l (S ++ [k]) := by
 refine ⟨?_,?_,?_⟩
 · rw [List.nodup_append]
   exact ⟨h.nodup,by simp,fun a ha b hb e=>by rw [List.mem_singleton] at hb; subst hb; subst e; exact hk ha⟩
 · intro x hx
   rcases List.mem_append.1 hx with hx | hx
   · exact h.lt x hx
   · rw [List.mem_singleton] at hx; omega
 · intro t ht a ha
   rw [List.length_append,List.length_singleton] at ht
   by_cases htl : t < S.length
   · rw [List.getElem_append_left htl] at ha
     rw [List.take_append_of_le_length (by omega)]
     exact h.pred t htl a ha
   · have e : t = S.length := by omega
     subst e
     rw [List.getElem_append_right (Nat.le_refl _)] at ha
     simp only [Nat.sub_self,List.getElem_singleton] at ha
     rw [List.take_left']
     · exact hp a ha
     · rfl
theorem nodup_le : ∀ (n : Nat) (S : List Nat),S.Nodup→(∀ x∈S,x < n)→S.length≤n
 | 0, S, _, h => by
   cases S with
   | nil => exact Nat.le_refl _
   | cons a S => exact absurd (h a (List.mem_cons_self ..)) (Nat.not_lt_zero a)
 | n + 1, S, hn, h => by
   have hlen := List.length_erase (a := n) (l := S)
   have ih := nodup_le n (S.erase n) (hn.sublist List.erase_sublist) fun x hx => by
    have h1 := h x (List.mem_of_mem_erase hx)
    have h2 : x≠n := fun e=>by rw [e] at hx; exact (List.Nodup.mem_erase_iff hn).1 hx |>.1 rfl
    omega
   split at hlen <;> omega
theorem Topo.len {l : List Pr} {S : List Nat} (h : Topo l S) : S.length≤64 := nodup_le 64 S h.nodup h.lt
theorem Topo.all {l : List Pr} {S : List Nat} (h : Topo l S) (h64 : S.length = 64) {j : Nat} (hj : j < 64) : j∈S := by
 apply Classical.byContradiction
 intro hno
 have := nodup_le 64 (j :: S) (List.nodup_cons.2 ⟨hno,h.nodup⟩) fun x hx => by
  rcases List.mem_cons.1 hx with rfl | hx
  · exact hj
  · exact h.lt x hx
 rw [List.length_cons] at this
 omega
theorem kahn {l : List Pr} (hl : Small l) (hacy : Acy l) {S : List Nat} (h : Topo l S) (hlt : S.length < 64) : ∃ j,j < 64∧j ∉ S∧∀ a,(a,j)∈l→a∈S := by
 obtain ⟨rank,hr⟩ := hacy
 have key : ∀ m j,rank j≤m→j < 64→j ∉ S→∃ j,j < 64∧j ∉ S∧∀ a,(a,j)∈l→a∈S := by
  intro m
  induction m with
  | zero =>
    intro j hm hj hno
    exact ⟨j,hj,hno,fun a ha=>by have := hr _ ha; simp only at this; omega⟩
  | succ m ih =>
    intro j hm hj hno
    by_cases hall : ∀ a,(a,j)∈l→a∈S
    · exact ⟨j,hj,hno,hall⟩
    · obtain ⟨a, ha⟩ := Classical.not_forall.1 hall
      obtain ⟨ha,hna⟩ := Classical.not_imp.1 ha
      have h1 := hr _ ha
      simp only at h1
      exact ih a (by omega) (hl _ ha).1 hna
 have hex : ∃ j,j < 64∧j ∉ S := by
  apply Classical.byContradiction
  intro hno
  have hall : ∀ j,j < 64→j∈S := fun j hj => Classical.byContradiction fun h => hno ⟨j,hj,h⟩
  have hp : (List.range 64).Perm S := (List.perm_ext_iff_of_nodup List.nodup_range h.nodup).2 fun x => by
   rw [List.mem_range]
   exact ⟨hall x,h.lt x⟩
  have := hp.length_eq
  rw [List.length_range] at this
  omega
 obtain ⟨j,hj,hno⟩ := hex
 exact key _ j (Nat.le_refl _) hj hno

def leftA (l : List Pr) (S : List Nat) (j : Nat) : Int := if j∈S then -1 else (l.countP fun p => p.2 == j && !decide (p.1∈S) : Nat)
def leftB (l : List Pr) (S : List Nat) (k i j : Nat) : Int := if j∈S ++ [k] then -1 else ((l.take i).countP (fun p => p.2 == j && !decide (p.1∈S ++ [k])) + (l.drop i).countP (fun p => p.2 == j && !decide (p.1∈S)) : Nat)
theorem leftA_zero {l : List Pr} {S : List Nat} {j : Nat} : leftA l S j = 0 ↔ j ∉ S∧∀ a,(a,j)∈l→a∈S := by
 unfold leftA
 split
 · rename_i h; exact ⟨fun e => absurd e (by decide),fun e => absurd h e.1⟩
 · rename_i h
   rw [show ((0 : Int)) = ((0 : Nat) : Int) from rfl,Int.ofNat_inj,List.countP_eq_zero]
   constructor
   · intro h2
     refine ⟨h,fun a ha => ?_⟩
     have := h2 _ ha
     simpa using this
   · rintro ⟨-, h2⟩ p hp
     by_cases e : p.2 = j
     · have := h2 p.1 (by rw [← e]; exact hp)
       simp [this]
     · simp [e]
theorem leftB_zero (l : List Pr) (S : List Nat) (k j : Nat) : leftB l S k 0 j = if j = k then -1 else leftA l S j := by
 unfold leftB leftA
 rw [List.take_zero,List.drop_zero,List.countP_nil,Nat.zero_add]
 by_cases hk : j = k
 · rw [if_pos hk,if_pos (by rw [hk]; simp)]
 · rw [if_neg hk]
   by_cases hj : j∈S
   · rw [if_pos hj,if_pos (List.mem_append_left _ hj)]
   · rw [if_neg hj,if_neg (by simp [hj,hk])]
theorem leftB_end (l : List Pr) (S : List Nat) (k j : Nat) : leftB l S k l.length j = leftA l (S ++ [k]) j := by
 unfold leftB leftA
 rw [List.take_length,List.drop_length,List.countP_nil,Nat.add_zero]
theorem leftB_step {l : List Pr} {S : List Nat} {k i : Nat} (hi : i < l.length) (j : Nat) (hT : Topo l S) (hk : k ∉ S) (hp : ∀ a,(a,k)∈l→a∈S) :
 leftB l S k (i + 1) j = if l[i].1 = k∧j = l[i].2 then leftB l S k i j - 1 else leftB l S k i j := by
 have htk : l.take (i + 1) = l.take i ++ [l[i]] := by rw [List.take_add_one,List.getElem?_eq_getElem hi]; rfl
 have hdr : l.drop i = l[i] :: l.drop (i + 1) := List.drop_eq_getElem_cons hi
 have hmem : l[i]∈l := List.getElem_mem hi
 unfold leftB
 rw [htk,hdr,List.countP_append,List.countP_cons,List.countP_nil,Nat.zero_add,List.countP_cons]
 generalize l[i] = p at hmem
 by_cases hpk : p.1 = k
 · have hkk : (k, p.2) ∈ l := by rw [← hpk]; exact hmem
   have hp2 : p.2 ∉ S ++ [k] := by
    rw [List.mem_append,List.mem_singleton]
    rintro (h | h)
    · exact hk (hT.closed hkk h)
    · rw [h] at hkk; exact hk (hp k hkk)
   by_cases hj : j = p.2
   · have e1 : (p.2 == j && !decide (p.1 ∈ S ++ [k])) = false := by rw [hpk]; simp
     have e2 : (p.2 == j && !decide (p.1∈S)) = true := by rw [hpk,hj]; simp [hk]
     have hjn : ¬ j∈S ++ [k] := hj ▸ hp2
     rw [e1,e2,if_pos (show p.1 = k∧j = p.2 from ⟨hpk,hj⟩),if_neg hjn,if_neg hjn,if_neg Bool.false_ne_true,if_pos rfl]
     omega
   · rw [if_neg (show ¬ (p.1 = k ∧ j = p.2) from fun h => hj h.2)]
     have e : (p.2 == j) = false := by rw [beq_eq_false_iff_ne]; exact Ne.symm hj
     simp only [e,Bool.false_and,Bool.false_eq_true,if_false,Nat.add_zero]
 · rw [if_neg (show ¬ (p.1 = k ∧ j = p.2) from fun h => hpk h.1)]
   have e : decide (p.1∈S ++ [k]) = decide (p.1∈S) := decide_eq_decide.2 (by rw [List.mem_append,List.mem_singleton]; exact ⟨fun h => h.elim id fun h => absurd h hpk,.inl⟩)
   rw [e]
   by_cases hjn : j∈S ++ [k]
   · rw [if_pos hjn,if_pos hjn]
   · rw [if_neg hjn,if_neg hjn]; omega
theorem leftB_le (l : List Pr) (S : List Nat) (k i j : Nat) : -1≤leftB l S k i j∧leftB l S k i j≤l.length := by
 unfold leftB
 have h1 := List.countP_le_length (p := fun p : Pr => p.2 == j && !decide (p.1∈S ++ [k])) (l := l.take i)
 have h2 := List.countP_le_length (p := fun p : Pr => p.2 == j && !decide (p.1∈S)) (l := l.drop i)
 rw [List.length_take] at h1
 rw [List.length_drop] at h2
 split <;> omega
def cntP (l : List Pr) (j : Nat) : Nat := l.countP fun p => p.2 == j
theorem cntP_step {l : List Pr} {i : Nat} (hi : i < l.length) (j : Nat) : cntP (l.take (i + 1)) j = if j = l[i].2 then cntP (l.take i) j + 1 else cntP (l.take i) j := by
 have htk : l.take (i + 1) = l.take i ++ [l[i]] := by rw [List.take_add_one,List.getElem?_eq_getElem hi]; rfl
 unfold cntP
 rw [htk,List.countP_append,List.countP_singleton]
 by_cases h : j = l[i].2
 · rw [if_pos h]; simp [h]
 · rw [if_neg h]; simp [Ne.symm h]
theorem cntP_end (l : List Pr) (j : Nat) : leftA l [] j = (cntP l j : Nat) := by
 unfold leftA cntP
 simp
theorem cntP_le (l : List Pr) (j : Nat) : cntP l j≤l.length := List.countP_le_length

def tab (f : Nat→List PV) : List (List PV) := (List.range 64).map f
theorem tab_len (f : Nat→List PV) : (tab f).length = 64 := by simp [tab]
theorem tab_get {f : Nat→List PV} {i : Nat} (hi : i < 64) : (tab f).getD i [] = f i := by
 rw [List.getD_eq_getElem?_getD,tab,List.getElem?_map,List.getElem?_range hi]; rfl
theorem tab_set {f : Nat→List PV} {i : Nat} (r : List PV) (hi : i < 64) : (tab f).set i r = tab fun j => if j = i then r else f j := by
 apply List.ext_getElem?
 intro j
 rw [List.getElem?_set,tab_len]
 unfold tab
 rw [List.getElem?_map,List.getElem?_map]
 by_cases hj : j < 64
 · rw [List.getElem?_range hj]
   by_cases e : i = j
   · subst e; simp [hi]
   · rw [if_neg e]; simp [Ne.symm e]
 · rw [List.getElem?_eq_none (by simpa using hj)]
   by_cases e : i = j
   · subst e; exact absurd hi hj
   · rw [if_neg e]; rfl
theorem tab_congr {f g : Nat→List PV} (h : ∀ j,j < 64→f j = g j) : tab f = tab g := List.map_congr_left fun j hj => h j (List.mem_range.1 hj)
theorem tab_pure {f : Nat→List PV} (h : ∀ j,pureL (f j)) : pureLL (tab f) := by
 refine (innLL_iff _ _).2 fun r hr => ?_
 obtain ⟨j,_,rfl⟩ := List.mem_map.1 hr
 exact h j
theorem tab_rep (r : List PV) : List.replicate 64 r = tab fun _ => r := by rw [tab,List.map_const',List.length_range]
def intR (f : Nat→Int) (j : Nat) : List PV := [.val (.int .i64 (f j))]
theorem intR_pure (f : Nat→Int) (j : Nat) : pureL (intR f j) := ⟨trivial,trivial⟩
end Go.Proofs.YtcoehdmpjflmlaaGreatDoor

namespace Go.Proofs.YtcoehdmpjflmlaaGreatDoor
set_option linter.unusedVariables false

def rW {α : Type} : Result α→World
 | .ok _ w => w
 | .halt _ w => w
def sW : Stepped→Option World
 | .next m => some m.world
 | .ended _ _ => none
def gW : GStep→Option World
 | .go _ w _ => some w
 | .comm _ _ _ _ w _ => some w
 | .spawn _ _ w _ => some w
 | .count _ w _ => some w
 | .timer _ _ w _ => some w
 | .alone _ _ w _ => some w
 | .newcoro _ _ _ w _ => some w
 | .coroswitch _ _ _ w _ => some w
 | .collect _ w _ => some w
 | .watch _ w _ => some w
 | .ended _ _ _ => none
def UpTo (D : Nat) : Option World→Prop
 | some w => D≤w.drawn
 | none => True
theorem UpTo.mono {D E : Nat} (h : D≤E) : ∀ {o : Option World},UpTo E o→UpTo D o
 | some _,k => Nat.le_trans h k
 | none,_ => trivial

@[simp] theorem gW_after (es : Array Event) (s : GStep) : gW (GStep.after es s) = gW s := by cases s <;> rfl
theorem ask_drawn {α : Type} : ∀ (x : Ask α) (w : World),w.drawn≤(w.ask x).2.drawn
 | .done a,w => Nat.le_refl _
 | .ask what range k, w => by
   rw [World.ask]
   split
   · exact ask_drawn _ w
   · exact Nat.le_trans (Nat.le_succ _) (ask_drawn _ { w with drawn := w.drawn + 1 })
theorem sys_drawn (w : World) (c : Sys) : w.drawn≤(w.sys c).2.drawn := by
 have h := ask_drawn (Kernel.perform c w.os) w
 unfold World.sys
 generalize w.ask (Kernel.perform c w.os) = x at h
 obtain ⟨⟨r,os⟩,w'⟩ := x
 cases r <;> first | exact Nat.le_refl _ | exact h
theorem viewStore_drawn {p : Program} {w w' : World} {a : Addr} {u : TypeId} {k : Addr} {v : Value} {at' : Bool} {l : List Addr} (h : w.viewStore p a u k v at' = .ok (w',l)) : w'.drawn = w.drawn := by
 unfold World.viewStore at h
 simp only [bind,Except.bind,pure,Except.pure] at h
 repeat' first
  | (cases h; done)
  | (cases h; rfl)
  | split at h
theorem farStore_drawn {p : Program} {w w' : World} {a : Addr} {v : Value} {at' : Bool} {l : List Addr} (h : w.farStore p a v at' = .ok (w',l)) : w'.drawn = w.drawn := by
 unfold World.farStore at h
 repeat' first
  | (cases h; done)
  | (rename_i hv; cases h; exact viewStore_drawn hv)
  | split at h
theorem run_drawn {α : Type} (P : Program) : ∀ (s : Sem α) (w : World),w.drawn≤(rW (s.run P w)).drawn := by
 intro s
 induction s with
 | pure a => exact fun w => Nat.le_refl _
 | load m a k ih =>
   intro w
   simp only [Sem.run]
   split
   · exact ih _ _
   · split
     · exact ih _ _
     · exact Nat.le_refl _
 | store m a v k ih =>
   intro w
   cases v <;> simp only [Sem.run] <;> first
    | exact Nat.le_refl _
    | (split
       · split
         · exact Nat.le_refl _
         · exact ih (w.setCell a _)
       · split
         · rename_i hf
           exact Nat.le_trans (Nat.le_of_eq (farStore_drawn hf).symm) (ih _)
         · exact Nat.le_refl _)
 | new o k ih => intro w; simp only [Sem.run]; exact ih _ { w with heap := w.heap.push o }
 | shape r k ih => intro w; simp only [Sem.run]; exact ih _ _
 | freeze a n k ih =>
   intro w
   simp only [Sem.run]
   refine Nat.le_trans (Nat.le_of_eq ?_) (ih _)
   unfold World.freeze
   split <;> rfl
 | frozen a k ih => intro w; simp only [Sem.run]; exact ih _ _
 | getObj r k ih =>
   intro w
   simp only [Sem.run]
   split
   · exact Nat.le_refl _
   · exact ih _ _
   · exact Nat.le_refl _
 | setObj r o k ih =>
   intro w
   simp only [Sem.run]
   split
   · exact Nat.le_refl _
   · exact ih { w with heap := w.heap.setIfInBounds r o }
   · exact Nat.le_refl _
 | choose q k ih =>
   intro w
   simp only [Sem.run]
   split
   · exact ih _ _
   · exact Nat.le_trans (Nat.le_succ _) (ih _ { w with drawn := w.drawn + 1 })
 | sys c k ih => intro w; simp only [Sem.run]; exact Nat.le_trans (sys_drawn w c) (ih _ _)
 | program k ih => intro w; simp only [Sem.run]; exact ih _ _
 | mark m k ih => intro w; simp only [Sem.run]; exact ih _
 | halt h => exact fun w => Nat.le_refl _
theorem run_ok {α : Type} {P : Program} {s : Sem α} {w w' : World} {a : α} (h : s.run P w = .ok a w') : w.drawn≤w'.drawn := by
 have := run_drawn P s w
 rwa [h] at this
theorem run_halt {α : Type} {P : Program} {s : Sem α} {w w' : World} {a : Halt} (h : s.run P w = .halt a w') : w.drawn≤w'.drawn := by
 have := run_drawn P s w
 rwa [h] at this

theorem run_ok2 {α β : Type} {P : Program} {s : Sem α} {t : Sem β} {w w1 w2 : World} {a : α} {b : β} (h : s.run P w = .ok a w1) (k : t.run P w1 = .ok b w2) : w.drawn≤w2.drawn := Nat.le_trans (run_ok h) (run_ok k)
theorem run_ok3 {α β : Type} {P : Program} {s : Sem α} {t : Sem β} {w w1 w2 : World} {a : α} {b : Halt} (h : s.run P w = .ok a w1) (k : t.run P w1 = .halt b w2) : w.drawn≤w2.drawn := Nat.le_trans (run_ok h) (run_halt k)

theorem elim_upTo {D : Nat} {α : Type} {o : Option α} {a : GStep} {f : α→GStep} (ha : UpTo D (gW a)) (hf : ∀ k,UpTo D (gW (f k))) : UpTo D (gW (o.elim a f)) := by
 cases o with
 | none => exact ha
 | some k => exact hf k
theorem doReturn_drawn (p : Program) (main : Bool) (fr : Frame) (callers : List Frame) (dying : Option Dying) (v : Value) (w : World) : UpTo w.drawn (gW (doReturn p main fr callers dying v w)) := by
 unfold doReturn
 repeat' first
  | exact Nat.le_refl _
  | trivial
  | split
theorem dieOf_drawn (fr : Frame) (a : List ByteArray) (m : String) (b : Bool) (w : World) : UpTo w.drawn (gW (dieOf fr a m b w)) := Nat.le_refl _
theorem endPrinting_drawn (p : Program) (fr : Frame) (v : Value) (w : World) : UpTo w.drawn (gW (endPrinting p fr v w)) := by
 unfold endPrinting
 simp only []
 split
 · exact Nat.le_refl _
 · trivial
theorem endFatal_drawn (p : Program) (fr : Frame) (callers : List Frame) (dying : Option Dying) (m : String) (w : World) : UpTo w.drawn (gW (endFatal p fr callers dying m w)) := by
 unfold endFatal
 simp only []
 split
 · rename_i h
   exact run_ok h
 · trivial
 · trivial
theorem endWith_drawn (w : World) (fd : Nat) (t : ByteArray) (o : Outcome) : UpTo w.drawn (gW (endWith w fd t o)) := by
 unfold endWith
 simp only []
 repeat' first
  | trivial
  | split
theorem writeOn_drawn (p : Program) (fr : Frame) (d : Dying) (f : Fatal) (w : World) : UpTo w.drawn (gW (writeOn p fr d f w)) := by
 unfold writeOn
 simp only [Sem.runT_eq]
 split
 · trivial
 · split
   · rename_i h
     exact run_ok (Prod.mk.inj h).1
   · rename_i h
     exact run_halt (Prod.mk.inj h).1
   · trivial
   · trivial
theorem die_drawn (p : Program) (fr : Frame) (d : Dying) (w : World) : UpTo w.drawn (gW (die p fr d w)) := by
 unfold die
 simp only [Sem.runT_eq]
 repeat' first
  | exact Nat.le_refl _
  | trivial
  | exact writeOn_drawn _ _ _ _ _
  | exact endWith_drawn _ _ _ _
  | exact run_ok (by assumption)
  | exact (endPrinting_drawn _ _ _ _).mono (run_halt (by assumption))
  | rw [gW_after]
  | split
theorem callDeferred_drawn (p : Program) (fr : Frame) (callers : List Frame) (dying : Option Dying) (d : Deferred) (w : World) : UpTo w.drawn (gW (callDeferred p fr callers dying d w)) := by
 unfold callDeferred
 simp only [Sem.runT_eq]
 repeat' first
  | exact Nat.le_refl _
  | trivial
  | exact run_ok (by assumption)
  | exact run_halt (by assumption)
  | exact (endFatal_drawn _ _ _ _ _ _).mono (run_halt (by assumption))
  | exact (dieOf_drawn _ _ _ _ _).mono (run_halt (by assumption))
  | rw [gW_after]
  | split
theorem unwind_drawn (p : Program) (main : Bool) (fr : Frame) (callers : List Frame) (dying : Option Dying) (w : World) : UpTo w.drawn (gW (unwind p main fr callers dying w)) := by
 unfold unwind
 simp only [Sem.runT_eq]
 repeat' first
  | exact Nat.le_refl _
  | trivial
  | exact callDeferred_drawn _ _ _ _ _ _
  | exact doReturn_drawn _ _ _ _ _ _ _
  | exact endPrinting_drawn _ _ _ _
  | exact run_ok (by assumption)
  | exact (doReturn_drawn _ _ _ _ _ _ _).mono (run_ok (by assumption))
  | rw [gW_after]
  | split
theorem early_drawn (p : Program) (fr : Frame) (callers : List Frame) (dying : Option Dying) (g : Nat) (w : World) : UpTo w.drawn (gW (early p fr callers dying g w)) := by
 unfold early
 simp only []
 repeat' first
  | exact Nat.le_refl _
  | trivial
  | exact run_ok (by assumption)
  | (simp only [gW,UpTo]; exact run_ok (by assumption))
  | rw [gW_after]
  | split
theorem apply_drawn (p : Program) (b : Bool) (fr : Frame) (callers : List Frame) (dying : Option Dying) (s : Sem Next) (w : World) : UpTo w.drawn (gW (stepG.apply p b fr callers dying s w)) := by
 unfold stepG.apply
 simp only [Sem.runT_eq]
 have hs : (if b = true then (s.run p w,s.events p w #[]) else (s.run p w,#[])).1 = s.run p w := by split <;> rfl
 generalize (if b = true then (s.run p w,s.events p w #[]) else (s.run p w,#[])) = x at hs ⊢
 obtain ⟨r,es⟩ := x
 simp only at hs ⊢
 subst hs
 repeat' first
  | exact Nat.le_refl _
  | trivial
  | exact run_ok (by assumption)
  | exact run_halt (by assumption)
  | exact (endFatal_drawn _ _ _ _ _ _).mono (run_halt (by assumption))
  | exact (dieOf_drawn _ _ _ _ _).mono (run_halt (by assumption))
  | exact (dieOf_drawn _ _ _ _ _).mono (run_ok (by assumption))
  | exact (early_drawn _ _ _ _ _ _).mono (run_halt (by assumption))
  | rw [gW_after]
  | split

theorem oper_drawn (p : Program) (b : Bool) (fr : Frame) (callers : List Frame) (dying : Option Dying) (w : World) : UpTo w.drawn (gW (stepG.oper p b fr callers dying w)) := by
 unfold stepG.oper
 repeat' first
  | trivial
  | exact apply_drawn _ _ _ _ _ _ _
  | split
theorem exec_drawn (p : Program) (main b : Bool) (fr : Frame) (callers : List Frame) (dying : Option Dying) (w : World) : UpTo w.drawn (gW (stepG.exec p main b fr callers dying w)) := by
 unfold stepG.exec
 simp only [Sem.runT_eq]
 repeat' first
  | exact Nat.le_refl _
  | trivial
  | exact apply_drawn _ _ _ _ _ _ _
  | exact oper_drawn _ _ _ _ _ _
  | exact run_ok (by assumption)
  | exact run_halt (by assumption)
  | exact (apply_drawn _ _ _ _ _ _ _).mono (run_ok (by assumption))
  | exact (doReturn_drawn _ _ _ _ _ _ _).mono (run_ok (by assumption))
  | rw [gW_after]
  | refine elim_upTo ?_ (fun _ => ?_)
  | split
theorem stepG_drawn (p : Program) (main b : Bool) (g : Goroutine) (w : World) : UpTo w.drawn (gW (stepG p main g w b)) := by
 unfold stepG
 repeat' first
  | exact die_drawn _ _ _ _
  | exact exec_drawn _ _ _ _ _ _ _
  | exact unwind_drawn _ _ _ _ _ _
  | split

theorem communicate_drawn {p : Program} {rest : Rest} {gs : Array Goroutine} {i : Nat} {g : Goroutine} {cases : Array CommCase} {b : Bool} {shape : CommShape} {w : World} : UpTo w.drawn (sW (communicate p rest gs i g cases b shape w).1) := by
 have hwait : ∀ w',waitingAt rest cases w = some w'→w'.drawn = w.drawn := by
  intro w' h
  unfold waitingAt at h
  repeat' first
   | (cases h; done)
   | (cases h; rfl)
   | split at h
 unfold communicate
 simp only []
 repeat' first
  | exact Nat.le_refl _
  | trivial
  | exact run_ok (by assumption)
  | (simp only [sW,UpTo]; exact run_ok (by assumption))
  | (simp only [sW,UpTo]; exact Nat.le_of_eq (hwait _ (by assumption)).symm)
  | (simp only [sW,UpTo]; exact run_ok2 (by assumption) (by assumption))
  | (simp only [sW,UpTo]; exact run_ok3 (by assumption) (by assumption))
  | split
theorem look_drawn (p : Program) (gs : Array Goroutine) (rest : Rest) (w : World) : UpTo w.drawn (sW (look p gs rest w)) := by
 unfold look
 simp only []
 repeat' first
  | exact Nat.le_refl _
  | trivial
  | (simp only [sW,UpTo]; exact run_ok (by assumption))
  | split
theorem timerOp_drawn {m : Machine} {op : TimerOp} {v : Value} {m' : Machine} (h : timerOp m op = .ok (v,m')) : m'.world.drawn = m.world.drawn := by
 have hr : ∀ (m : Machine) (k : Nat) (t : Timer) (a b : Nat),(retime m k t a b).2.world.drawn = m.world.drawn := by
  intro m k t a b
  unfold retime drain
  simp only []
  repeat' first
   | rfl
   | split
 have ho : ∀ (m' : Machine) (a : Addr),timerOp.opened m a = some m'→m'.world.drawn = m.world.drawn := by
  intro m' a h
  unfold timerOp.opened at h
  repeat' first
   | (cases h; done)
   | (cases h; rfl)
   | split at h
 have hn : ∀ (a : Addr) (f : Nat→Timer→Value × Machine) (D : Nat),(∀ k t,(f k t).2.world.drawn = D)→timerOp.named m a f = .ok (v,m')→m'.world.drawn = D := by
  intro a f D hf h
  unfold timerOp.named at h
  split at h
  · rename_i k _
    have := hf k (m.rest.timers.getD k default)
    injection h with h
    rw [h] at this
    exact this
  · cases h
 unfold timerOp at h
 simp only [] at h
 repeat' first
  | (cases h; done)
  | (cases h; rfl)
  | exact hn _ _ _ (fun k t => hr _ _ _ _ _) h
  | (rename_i ho'; rw [← ho _ _ ho']; exact hn _ _ _ (fun k t => hr _ _ _ _ _) h)
  | split at h
theorem runT_drawn (p : Program) (m : Machine) (i : Nat) (b : Bool) : UpTo m.world.drawn (sW (runT p m i b).1) := by
 simp only [runT]
 generalize m.gs.swapAt! _ _ = gg
 have hs := stepG_drawn p (i == 0) b gg.1 m.world
 generalize stepG p _ gg.1 m.world b = s at hs
 cases s <;> simp only [gW] at hs ⊢
 all_goals first
  | exact hs
  | trivial
  | exact communicate_drawn.mono hs
  | exact (look_drawn _ _ _ _).mono hs
  | skip
 all_goals repeat' first
  | exact hs
  | trivial
  | (simp only [sW,UpTo]; rename_i ht; exact Nat.le_trans hs (Nat.le_of_eq (timerOp_drawn ht).symm))
  | split
theorem serve_drawn (p : Program) (m : Machine) (k : Nat) : UpTo m.world.drawn (sW (serve p m k)) := by
 unfold serve
 simp only []
 repeat' first
  | exact Nat.le_refl _
  | trivial
  | split
def mW : Move→Option World
 | .goroutine m _ => some m.world
 | .machine s _ => sW s
theorem askOn_drawn (p : Program) (m : Machine) : UpTo m.world.drawn (mW (askOn p m)) := by
 have pick : ∀ (D : Nat) (rs : List Nat) (m : Machine),D≤m.world.drawn→UpTo D (mW (match (choose (.sched rs.length)).run p m.world with
  | .halt _ w => .machine (.ended (.stuck "sched" "") w)
  | .ok k world =>
    if rs.length≤1 then .goroutine { m with world } (rs.getD k 0) else
    match (choose (.extern "sched.slice" 65536)).run p world with
    | .halt _ w => .machine (.ended (.stuck "sched.slice" "") w)
    | .ok n world => .goroutine { m with world,rest := { m.rest with slice := if n = 0 then none else some (rs.getD k 0,n) } } (rs.getD k 0))) := by
  intro D rs m hD
  refine UpTo.mono hD ?_
  repeat' first
   | trivial
   | (simp only [mW,UpTo]; exact run_ok (by assumption))
   | (simp only [mW,UpTo]; exact run_ok2 (by assumption) (by assumption))
   | split
 unfold askOn
 simp only []
 generalize hs : (if (due m.rest.timers m.world.os.mono).isEmpty = true then (pure 0 : Sem Nat)
  else choose (.extern "timer.serve" ((due m.rest.timers m.world.os.mono).length + (if ((runnable m.gs m.world.os.mono).isEmpty && (ahead m false).isNone) = true then 0 else 1)))) = s0
 cases hr : s0.run p m.world with
 | halt h w => trivial
 | ok k world =>
   simp only []
   split
   · exact (serve_drawn p { m with world } _).mono (run_ok hr)
   · split
     · split
       · exact show m.world.drawn≤world.drawn from run_ok hr
       · split
         · exact show m.world.drawn≤world.drawn from run_ok hr
         · split <;> trivial
     · split
       · exact pick _ _ { m with world } (run_ok hr)
       · split
         · trivial
         · exact pick _ _ { m with world := _ } (run_ok2 hr (by assumption))
         · simp only [mW, sW, UpTo, Machine.advanceTo]
           exact run_ok2 hr (by assumption)
         · rename_i w2 h2
           exact pick _ _ (Machine.advanceTo { m with world := w2 } _) (show m.world.drawn≤w2.drawn from run_ok2 hr h2)
theorem ask_drawn' (p : Program) (m : Machine) : UpTo m.world.drawn (mW (ask p m)) := by
 unfold ask
 split
 · split
   · trivial
   · rename_i w h
     have hl := look_drawn p m.gs m.rest w
     split
     · rename_i m2 h2
       rw [h2] at hl
       exact (askOn_drawn p m2).mono (Nat.le_trans (run_ok h) hl)
     · exact hl.mono (run_ok h)
   · rename_i h
     exact (askOn_drawn p { m with world := _ }).mono (run_ok h)
 · exact askOn_drawn p m
theorem move_drawn (p : Program) (m : Machine) : UpTo m.world.drawn (mW (move p m)) := by
 unfold move
 repeat' first
  | exact Nat.le_refl _
  | trivial
  | exact ask_drawn' p m
  | exact ask_drawn' p { m with rest := _ }
  | split
theorem step_drawn (p : Program) (m : Machine) : UpTo m.world.drawn (sW (step p m)) := by
 have h := move_drawn p m
 unfold step stepT
 cases hm : move p m with
 | goroutine m2 i =>
   rw [hm] at h
   exact (runT_drawn p m2 i true).mono h
 | machine s ops =>
   rw [hm] at h
   exact h
theorem steps_drawn {P : Program} {m m' : Machine} (h : Steps P m m') : m.world.drawn≤m'.world.drawn := by
 obtain ⟨n,hn⟩ := h
 induction n generalizing m with
 | zero => rw [runN] at hn; cases hn; exact Nat.le_refl _
 | succ n ih =>
   rw [runN] at hn
   have hs := step_drawn P m
   split at hn
   · rename_i m1 h1
     rw [h1] at hs
     exact Nat.le_trans hs (ih hn)
   · rename_i e he
     cases hst : step P m with
     | next m1 => exact absurd hst (he m1)
     | ended o w => rw [hst] at hn; cases hn
theorem calls_drawn {P : Program} {f : FuncId} {args : Array Value} {w : World} {R : Ending→World→Prop} (h : Calls P f args w R) : Calls P f args w fun e w' => R e w'∧∀ v,e = .returned v→w.drawn≤w'.drawn := by
 intro cs
 obtain ⟨e,w',fr,hR,hc,hf,hl⟩ := h cs
 refine ⟨e,w',fr,⟨hR,?_⟩,hc,hf,hl⟩
 rintro v rfl
 exact steps_drawn (m := lone (Frame.enter P f args .normal) cs w) (m' := lone fr cs w') hc
end Go.Proofs.YtcoehdmpjflmlaaGreatDoor

namespace Go.Proofs.YtcoehdmpjflmlaaGreatDoor
open Go.RowKit
set_option linter.unusedVariables false
attribute [local irreducible] aw opsK dK

theorem pureLL_enc {α : Type} {enc : α→List PV} (hp : ∀ x,pureL (enc x)) (xs : List α) : pureLL (xs.map enc) := pureLL_map _ _ fun x _ => hp x
theorem any_take {α : Type} {p : α→Bool} {xs : List α} {i : Nat} (hi : i < xs.length) (h : (xs.take i).any p = false) (hx : p xs[i] = false) : (xs.take (i + 1)).any p = false := by
 rw [List.take_add_one,List.getElem?_eq_getElem hi,List.any_append,h]
 simp [hx]
def idxI {α : Type} (p : α→Bool) : List α→Int
 | [] => -1
 | x :: xs => if p x then 0 else (if idxI p xs < 0 then -1 else idxI p xs + 1)
theorem idxI_none {α : Type} {p : α→Bool} : ∀ {xs : List α},xs.any p = false→idxI p xs = -1
 | [],_ => rfl
 | x :: xs, h => by
   rw [List.any_cons,Bool.or_eq_false_iff] at h
   simp [idxI,h.1,idxI_none h.2]
theorem idxI_at {α : Type} {p : α→Bool} : ∀ {xs : List α} {i : Nat} (hi : i < xs.length),(xs.take i).any p = false→p xs[i] = true→idxI p xs = (i : Int)
 | x :: xs,0,_,_,hx=>by simp only [List.getElem_cons_zero] at hx; simp [idxI,hx]
 | x :: xs, i + 1, hi, h, hx => by
   rw [List.take_succ_cons,List.any_cons,Bool.or_eq_false_iff] at h
   have := idxI_at (p := p) (xs := xs) (i := i) (by simpa using hi) h.2 (by simpa using hx)
   simp only [idxI,h.1,this]
   have h3 : ¬ ((i : Int) < 0) := by omega
   simp [h3]
theorem idxI_nonneg {α : Type} {p : α→Bool} : ∀ {xs : List α},xs.any p = true→0≤idxI p xs
 | [],h=>by cases h
 | x :: xs, h => by
   rw [List.any_cons,Bool.or_eq_true] at h
   unfold idxI
   by_cases hx : p x = true
   · rw [if_pos hx]; exact Int.le_refl 0
   · have := idxI_nonneg (h.resolve_left hx)
     rw [if_neg hx,if_neg (by omega)]
     omega
theorem idxI_any {α : Type} {p : α→Bool} {xs : List α} : decide (0≤idxI p xs) = xs.any p := by
 cases h : xs.any p
 · rw [idxI_none h]; rfl
 · exact decide_eq_true (idxI_nonneg h)

end Go.Proofs.YtcoehdmpjflmlaaGreatDoor

namespace Go.Proofs.YtcoehdmpjflmlaaGreatDoor
open Go.RowKit
set_option linter.unusedVariables false

structure At (p : Prop) : Prop where
 h : p
theorem at_dst {P : Program} (k : Nat) {op : AOp} {g : Option (Nat × Bool)} {os : List AOper} {n : Nat} {e : Env} {h : Heap} {K : Nat→Env→Heap→Prop} (hk : At (opsK P (⟨some k,op,g⟩ :: os) n e h K)) : opsK P (⟨some k,op,g⟩ :: os) n e h K := hk.h
theorem at_dstD {P : Program} (k : Nat) {z : Rsv} {i mask iso : Nat} {alt : Bool} {op : AOp} {g : Option (Nat × Bool)} {xs : List DItem} {n : Nat} {e : Env} {h : Heap} {K : Env→Heap→Prop} (hk : At (dK P z n (⟨i,⟨some k,op,g⟩,mask,iso,alt⟩ :: xs) e h K)) : dK P z n (⟨i,⟨some k,op,g⟩,mask,iso,alt⟩ :: xs) e h K := hk.h
end Go.Proofs.YtcoehdmpjflmlaaGreatDoor

namespace Go.Proofs.YtcoehdmpjflmlaaGreatDoor
open Go.RowKit
set_option linter.unusedVariables false
set_option linter.unusedSimpArgs false

section
variable {P : Program} {C : Ctx} {e : Env} {h : Heap} {F : Froz} {φ : Locs} {a : Act} {w : World}

theorem St'.renF {n : Nat} (s : St' C (fun i => n≤i) e h F φ a w) (ρ : Nat→Nat) {n' : Nat} {e' : Env} {h' : Heap} (he : ∀ k p,e' k = some p→∃ p0,e k = some p0∧RenP ρ (fun i => i < n') p0 p) (hh : ∀ k b,h' k = some b→k < n'∧∃ b0,h (ρ k) = some b0∧RenB ρ (fun i => i < n') b0 b)
 (hinj : ∀ k k' b b',h' k = some b→h' k' = some b'→ρ k = ρ k'→k = k') {m : Nat} (hdom : C.dom m) (hm : m≤n') (hρ : ∀ i,i < m→ρ i = i) : ∃ φ',St' C (fun i => n'≤i) e' h' F φ' a w := by
 let φ' : Locs := fun i => if i < n' then φ (ρ i) else none
 have hφ : ∀ i x,i < n'→φ (ρ i) = some x→φ' i = some x := fun i x hi hx=>by simp only [φ',hi,if_true]; exact hx
 refine ⟨φ',{ nt := s.nt,glob := s.glob,marks := s.marks,loc0 := fun i x hx => ?_,free := fun i hi => ?_,env := fun k p hp => ?_,froz := s.froz,ext := s.ext,old := s.old,os := s.os,tape := s.tape,output := s.output,size := s.size,kept := s.kept,live := fun i b hb => ?_,sep := ?_ }⟩
 · have : ¬ i < n' := by omega
   simp only [φ',this,if_false]
 · obtain ⟨p0, h0, hr⟩ := he _ _ hp
   exact ⟨(s.env k p0 h0).1,hr.rep hφ (s.env k p0 h0).2⟩
 · by_cases him : i < m
   · exact hφ i x (by omega) (by rw [hρ i him]; exact s.loc0 i x hx)
   · rw [hdom i (by omega)] at hx; cases hx
 · obtain ⟨hi, b0, h0, hr⟩ := hh _ _ hb
   obtain ⟨loc,h1,h2,h3⟩ := s.live _ b0 h0
   refine ⟨loc,hφ i loc hi h1,?_,h3⟩
   cases hr with
   | same hp => exact h2.names hp
   | gen _ hz he hl hcl hrp =>
     have h2 := h2.cellsB (by rw [he]; exact hz)
     refine .inl ⟨by rw [← he]; exact h2.esz,h2.pos,by rw [← hl]; exact h2.len,h2.cap,h2.max,fun c hc => ?_,fun hc => ?_⟩
     · obtain ⟨k, hk, rfl⟩ := List.getElem_of_mem hc
       have e1 : b.elems[k] = b.elems.getD k [] := by simp [List.getD_eq_getElem?_getD,hk]
       rw [e1,← hcl k hk]
       exact h2.el _ (by have hk' : k < b0.elems.length := by rw [hl]; exact hk
                         simp [List.getD_eq_getElem?_getD,hk'])
     · obtain ⟨x, hx, hs, cells, t, hg, hsz, hrep⟩ := h2.room hc
       refine ⟨x,hx,hs,cells,t,hg,hsz,fun i j hi hj => ⟨(hrep i j hi hj).1,?_⟩⟩
       exact (hrp i j (by rw [← hl,h2.len]; exact hi) (by rw [← he,h2.esz]; exact hj)).rep hφ (hrep i j hi hj).2
 · intro i j bi bj li lj k hi hj hli hlj hki hkj
   obtain ⟨hin,b0,h0,_⟩ := hh _ _ hi
   obtain ⟨hjn,c0,g0,_⟩ := hh _ _ hj
   have hli' : φ (ρ i) = some li := by simpa only [φ',show i < n' from hin,if_true] using hli
   have hlj' : φ (ρ j) = some lj := by simpa only [φ',show j < n' from hjn,if_true] using hlj
   exact hinj _ _ _ _ hi hj (s.sep _ _ b0 c0 li lj k h0 g0 hli' hlj' hki hkj)
theorem sub_renF (ρ : Nat→Nat) {n n' : Nat} {e' : Env} {h' : Heap} (he : ∀ k p,e' k = some p→∃ p0,e k = some p0∧RenP ρ (fun i => i < n') p0 p) (hh : ∀ k b,h' k = some b→k < n'∧∃ b0,h (ρ k) = some b0∧RenB ρ (fun i => i < n') b0 b)
 (hinj : ∀ k k' b b',h' k = some b→h' k' = some b'→ρ k = ρ k'→k = k') {m : Nat} (hdom : C.dom m) (hm : m≤n') (hρ : ∀ i,i < m→ρ i = i) : Sub C n e h n' e' h' := by
 rintro a w ⟨F,φ,s⟩
 obtain ⟨φ',s'⟩ := s.renF ρ he hh hinj hdom hm hρ
 exact ⟨F,φ',s'⟩

def tabH (h : Heap) (D n : Nat) (f : Nat→PV) (K : Nat) (g : Nat→Bx) : Heap := fun k =>
 bif Nat.beq k D then some ⟨1,(List.range 64).map fun j => [f j]⟩ else bif Nat.ble n k && Nat.blt k (n + K) then some (g (k - n)) else h k
def ownsTo (n i : Nat) (j : Nat) : PV := if j < i then .own (n + j) else .vec [] true
theorem tabH_tab (h : Heap) (D n : Nat) (f : Nat→PV) (K : Nat) (g : Nat→Bx) : tabH h D n f K g D = some ⟨1,(List.range 64).map fun j => [f j]⟩ := by
 unfold tabH
 rw [show Nat.beq D D = true from Nat.beq_refl D]; rfl
theorem tabH_row (h : Heap) {D n : Nat} (hD : D < n) (f : Nat→PV) {K : Nat} (g : Nat→Bx) {j : Nat} (hj : j < K) : tabH h D n f K g (n + j) = some (g j) := by
 unfold tabH
 have e1 : Nat.beq (n + j) D = false := Bool.eq_false_iff.2 fun hb=>by have := Nat.eq_of_beq_eq_true hb; omega
 have e2 : Nat.ble n (n + j) = true := Eq.mpr Nat.ble_eq (by omega)
 have e3 : Nat.blt (n + j) (n + K) = true := Eq.mpr Nat.blt_eq (by omega)
 rw [e1,e2,e3]
 simp
theorem tabH_low (h : Heap) {D n : Nat} (f : Nat→PV) {K : Nat} (g : Nat→Bx) {k : Nat} (hk : k≠D) (hn : k < n ∨ n + K≤k) : tabH h D n f K g k = h k := by
 unfold tabH
 have e1 : Nat.beq k D = false := Bool.eq_false_iff.2 fun hb => hk (Nat.eq_of_beq_eq_true hb)
 rw [e1]
 rcases hn with hn | hn
 · have e2 : Nat.ble n k = false := Bool.eq_false_iff.2 fun hb => by have := Nat.le_of_ble_eq_true hb; omega
   rw [e2]; rfl
 · have e2 : Nat.blt k (n + K) = false := Bool.eq_false_iff.2 fun hb => by have := Eq.mp Nat.blt_eq hb; omega
   rw [e2]; simp
theorem tabH_cases {h : Heap} {D n : Nat} (hD : D < n) {f : Nat→PV} {K : Nat} {g : Nat→Bx} {k : Nat} {b : Bx} (hk : tabH h D n f K g k = some b) : (k = D∧b = ⟨1,(List.range 64).map fun j => [f j]⟩) ∨ (∃ j,j < K∧k = n + j∧b = g j) ∨ (k≠D∧(k < n ∨ n + K≤k)∧h k = some b) := by
 by_cases h1 : k = D
 · subst h1; rw [tabH_tab] at hk; cases hk; exact .inl ⟨rfl,rfl⟩
 · by_cases h2 : n ≤ k ∧ k < n + K
   · obtain ⟨j, rfl⟩ : ∃ j, k = n + j := ⟨k - n, by omega⟩
     rw [tabH_row h hD f g (by omega)] at hk
     cases hk
     exact .inr (.inl ⟨j,by omega,rfl,rfl⟩)
   · have h3 : k < n ∨ n + K ≤ k := by omega
     rw [tabH_low h f g h1 h3] at hk
     exact .inr (.inr ⟨h1,h3,hk⟩)

theorem range_set {f : Nat→List PV} {i : Nat} (r : List PV) (hi : i < 64) : ((List.range 64).map f).set i r = (List.range 64).map fun j => if j = i then r else f j := by
 apply List.ext_getElem?
 intro j
 rw [List.getElem?_set,List.length_map,List.length_range,List.getElem?_map,List.getElem?_map]
 by_cases hj : j < 64
 · rw [List.getElem?_range hj]
   by_cases e : i = j
   · subst e; simp [hi]
   · rw [if_neg e]; simp [Ne.symm e]
 · rw [List.getElem?_eq_none (by simpa using hj)]
   by_cases e : i = j
   · subst e; exact absurd hi hj
   · rw [if_neg e]; rfl
theorem range_get {f : Nat→List PV} {i : Nat} (hi : i < 64) : ((List.range 64).map f).getD i [] = f i := by
 rw [List.getD_eq_getElem?_getD,List.getElem?_map,List.getElem?_range hi]; rfl

theorem tabH_step {h : Heap} {D n i : Nat} (hD : D < n) (hi : i < 64) (esz : Nat) :
 ((tabH h D n (ownsTo n i) i (fun _ => ⟨esz,[]⟩)).upd D ⟨1,((List.range 64).map fun j => [ownsTo n i j]).set i ((((List.range 64).map fun j => [ownsTo n i j]).getD i []).set 0 (.own (n + i)))⟩).upd (n + i) ⟨esz,[]⟩ = tabH h D n (ownsTo n (i + 1)) (i + 1) (fun _ => ⟨esz,[]⟩) := by
 funext k
 rw [range_get hi,range_set _ hi]
 by_cases h1 : k = n + i
 · subst h1
   rw [Heap.upd_same,tabH_row _ hD _ _ (Nat.lt_succ_self i)]
 · rw [Heap.upd_ne _ _ h1]
   by_cases h2 : k = D
   · subst h2
     rw [Heap.upd_same,tabH_tab]
     refine congrArg (fun l => some (Bx.mk 1 l)) (List.map_congr_left fun j hj => ?_)
     unfold ownsTo
     by_cases hji : j = i
     · subst hji; rw [if_pos rfl,if_pos (Nat.lt_succ_self _)]; rfl
     · rw [if_neg hji]
       by_cases hlt : j < i
       · rw [if_pos hlt,if_pos (by omega)]
       · rw [if_neg hlt,if_neg (by omega)]
   · rw [Heap.upd_ne _ _ h2]
     by_cases h3 : n≤k∧k < n + i
     · obtain ⟨j, rfl⟩ : ∃ j, k = n + j := ⟨k - n, by omega⟩
       rw [tabH_row _ hD _ _ (by omega : j < i),tabH_row _ hD _ _ (by omega : j < i + 1)]
     · rw [tabH_low _ _ _ h2 (by omega),tabH_low _ _ _ h2 (by omega)]
theorem sub_tabNil {n D : Nat} (hD : D < n) (hb : h D = some ⟨1,List.replicate 64 [.vec [] true]⟩) (esz : Nat) (hp : 0 < esz) : Sub C n e h (n + 64) e (tabH h D n (fun j => .own (n + j)) 64 (fun _ => ⟨esz,[]⟩)) := by
 have key : ∀ i,i≤64→Sub C n e h (n + i) e (tabH h D n (ownsTo n i) i (fun _ => ⟨esz,[]⟩)) := by
  intro i
  induction i with
  | zero =>
    intro _
    have e0 : tabH h D n (ownsTo n 0) 0 (fun _ => ⟨esz,[]⟩) = h := by
     funext k
     by_cases h2 : k = D
     · subst h2
       rw [tabH_tab,hb]
       have : ∀ l : List Nat,(l.map fun j => [ownsTo n 0 j]) = List.replicate l.length [PV.vec [] true] := by
        intro l
        induction l with
        | nil => rfl
        | cons x l ih => rw [List.map_cons,ih]; rfl
       rw [this,List.length_range]
     · exact tabH_low _ _ _ h2 (by omega)
    rw [e0]
    exact sub_refl
  | succ i ih =>
    intro hi
    have hi' : i < 64 := by omega
    refine sub_trans (ih (by omega)) ?_
    have e1 := tabH_step (h := h) hD hi' esz
    rw [← e1]
    refine sub_cellNil (id := D) (b := ⟨1,(List.range 64).map fun j => [ownsTo n i j]⟩) (i0 := i) (j0 := 0) (tabH_tab _ _ _ _ _ _) (by simpa using hi') (by rw [range_get hi']; exact Nat.zero_lt_one) ?_ esz hp (by omega)
    rw [range_get hi']
    show (ownsTo n i i) = _
    unfold ownsTo
    rw [if_neg (Nat.lt_irrefl i)]
 have e2 : tabH h D n (ownsTo n 64) 64 (fun _ => ⟨esz,[]⟩) = tabH h D n (fun j => .own (n + j)) 64 (fun _ => ⟨esz,[]⟩) := by
  unfold tabH
  have : ((List.range 64).map fun j => [ownsTo n 64 j]) = (List.range 64).map fun j => [PV.own (n + j)] := List.map_congr_left fun j hj => by
   unfold ownsTo
   rw [if_pos (List.mem_range.1 hj)]
  rw [this]
 rw [← e2]
 exact key 64 (Nat.le_refl _)
end
end Go.Proofs.YtcoehdmpjflmlaaGreatDoor

namespace Go.Proofs.YtcoehdmpjflmlaaGreatDoor
open Go.RowKit
set_option linter.unusedVariables false

noncomputable def jun (l : List Pr) (r : Nat) : Nat := bel l r ||| 2 ^ r
theorem jun_bit {l : List Pr} (hl : Small l) (r b : Nat) : (jun l r).testBit b = true ↔ Up l r b ∨ b = r := by
 unfold jun
 rw [Nat.testBit_or,Bool.or_eq_true,bel_bit hl,Nat.testBit_two_pow]
 simp only [decide_eq_true_eq]
 exact ⟨fun h => h.imp id Eq.symm,fun h => h.imp id Eq.symm⟩
theorem jun_64 (l : List Pr) {r : Nat} (hr : r < 64) : jun l r < 18446744073709551616 := or_lt (bel_64 l r) (pow_lt64 hr)
def stepJ (l : List Pr) (s : Nat) : Nat := l.foldl (fun n x => if s.testBit x.1 = true then n ||| 2 ^ x.2 else n) s
theorem stepTo_bit (s b : Nat) : ∀ (l : List Pr) (n : Nat),(l.foldl (fun n x => if s.testBit x.1 = true then n ||| 2 ^ x.2 else n) n).testBit b = true ↔ n.testBit b = true ∨ ∃ x∈l,s.testBit x.1 = true∧x.2 = b
 | [],n=>by simp
 | x :: l, n => by
   rw [List.foldl_cons,stepTo_bit s b l]
   by_cases hx : s.testBit x.1 = true
   · rw [if_pos hx, Nat.testBit_or, Bool.or_eq_true, Nat.testBit_two_pow]
     simp only [decide_eq_true_eq]
     constructor
     · rintro ((h | h) | ⟨y, hy, h⟩)
       · exact .inl h
       · exact .inr ⟨x,List.mem_cons_self ..,hx,h⟩
       · exact .inr ⟨y,List.mem_cons_of_mem _ hy,h⟩
     · rintro (h | ⟨y, hy, h1, h2⟩)
       · exact .inl (.inl h)
       · rcases List.mem_cons.1 hy with rfl | hy
         · exact .inl (.inr h2)
         · exact .inr ⟨y,hy,h1,h2⟩
   · rw [if_neg hx]
     constructor
     · rintro (h | ⟨y, hy, h⟩)
       · exact .inl h
       · exact .inr ⟨y,List.mem_cons_of_mem _ hy,h⟩
     · rintro (h | ⟨y, hy, h1, h2⟩)
       · exact .inl h
       · rcases List.mem_cons.1 hy with rfl | hy
         · exact absurd h1 hx
         · exact .inr ⟨y,hy,h1,h2⟩
theorem stepJ_bit (l : List Pr) (s b : Nat) : (stepJ l s).testBit b = true ↔ s.testBit b = true ∨ ∃ x∈l,s.testBit x.1 = true∧x.2 = b := stepTo_bit s b l s
theorem stepJ_take {l : List Pr} {i : Nat} (hi : i < l.length) (s n : Nat) : (l.take (i + 1)).foldl (fun n x => if s.testBit x.1 = true then n ||| 2 ^ x.2 else n) n = if s.testBit l[i].1 = true then (l.take i).foldl (fun n x => if s.testBit x.1 = true then n ||| 2 ^ x.2 else n) n ||| 2 ^ l[i].2 else (l.take i).foldl (fun n x => if s.testBit x.1 = true then n ||| 2 ^ x.2 else n) n := by
 have e : l.take (i + 1) = l.take i ++ [l[i]] := by rw [List.take_add_one,List.getElem?_eq_getElem hi]; rfl
 rw [e,List.foldl_append]; rfl
theorem stepTo_64 {l : List Pr} (hl : Small l) (s : Nat) : ∀ (n : Nat),n < 18446744073709551616→l.foldl (fun n x => if s.testBit x.1 = true then n ||| 2 ^ x.2 else n) n < 18446744073709551616 := by
 induction l with
 | nil => exact fun n hn => hn
 | cons x l ih =>
   intro n hn
   rw [List.foldl_cons]
   refine ih (fun p hp => hl p (List.mem_cons_of_mem _ hp)) _ ?_
   split
   · exact or_lt hn (pow_lt64 (hl x (List.mem_cons_self ..)).2)
   · exact hn
theorem stepJ_64 {l : List Pr} (hl : Small l) {s : Nat} (hs : s < 18446744073709551616) : stepJ l s < 18446744073709551616 := stepTo_64 hl s s hs
structure Reach (l : List Pr) (r s : Nat) : Prop where
 lt : s < 18446744073709551616
 self : s.testBit r = true
 sound : ∀ b,s.testBit b = true→Up l r b ∨ b = r
theorem Reach.init {l : List Pr} {r : Nat} (hr : r < 64) : Reach l r (2 ^ r) := ⟨pow_lt64 hr,Nat.testBit_two_pow_self,fun b hb=>by rw [Nat.testBit_two_pow] at hb; exact .inr (of_decide_eq_true hb).symm⟩
theorem Reach.step {l : List Pr} (hl : Small l) {r s : Nat} (h : Reach l r s) : Reach l r (stepJ l s) := by
 refine ⟨stepJ_64 hl h.lt,(stepJ_bit l s r).2 (.inl h.self),fun b hb => ?_⟩
 rcases (stepJ_bit l s b).1 hb with hb | ⟨x,hx,h1,rfl⟩
 · exact h.sound b hb
 · rcases h.sound _ h1 with h2 | h2
   · exact .inl (.more h2 hx)
   · refine .inl (.one ?_)
     rw [← h2]; exact hx
theorem Reach.done {l : List Pr} (hl : Small l) {r s : Nat} (hr : r < 64) (h : Reach l r s) (he : stepJ l s = s) : s = jun l r := by
 refine eq64 h.lt (jun_64 l hr) fun b hb => ?_
 rw [Bool.eq_iff_iff,jun_bit hl]
 refine ⟨h.sound b,?_⟩
 have hcl : ∀ a b,s.testBit a = true→(a,b)∈l→s.testBit b = true := fun a b ha hab => by
  rw [← he]
  exact (stepJ_bit l s b).2 (.inr ⟨(a,b),hab,ha,rfl⟩)
 rintro (hu | rfl)
 · induction hu with
   | one k => exact hcl _ _ h.self k
   | more _ k ih => exact hcl _ _ (ih (hl _ k).1) k
 · exact h.self
theorem stepJ_grows (l : List Pr) (s : Nat) (h : stepJ l s≠s) : s < stepJ l s := by
 have hle : s≤stepJ l s := by
  have e : s ||| stepJ l s = stepJ l s := by
   apply Nat.eq_of_testBit_eq
   intro i
   rw [Nat.testBit_or]
   cases hi : s.testBit i with
   | true => rw [(stepJ_bit l s i).2 (.inl hi)]; rfl
   | false => rw [Bool.false_or]
  rw [← e]
  exact Nat.left_le_or
 omega

noncomputable def cloTo (l : List Pr) (s k : Nat) : Nat := ((List.range k).filter fun i => s.testBit i).foldl (fun o r => if 1≤r then o ||| jun l r else o) 0
noncomputable def clo (l : List Pr) (s : Nat) : Nat := cloTo l s 64
theorem clo_mem (l : List Pr) (s : Nat) : clo l s = (mem s).foldl (fun o r => if 1≤r then o ||| jun l r else o) 0 := rfl
theorem cloF_lt (l : List Pr) : ∀ (rs : List Nat) (o : Nat),(∀ r∈rs,r < 64)→o < 18446744073709551616→rs.foldl (fun o r => if 1≤r then o ||| jun l r else o) o < 18446744073709551616
 | [],o,_,ho => ho
 | r :: rs, o, h, ho => by
   rw [List.foldl_cons]
   refine cloF_lt l rs _ (fun x hx => h x (List.mem_cons_of_mem _ hx)) ?_
   split
   · exact or_lt ho (jun_64 l (h r (List.mem_cons_self ..)))
   · exact ho
theorem cloTo_lt (l : List Pr) (s : Nat) {k : Nat} (hk : k≤64) : cloTo l s k < 18446744073709551616 := cloF_lt l _ 0 (fun r hr=>by have := List.mem_range.1 (List.mem_filter.1 hr).1;omega) (by decide)
theorem clo_lt (l : List Pr) (s : Nat) : clo l s < 18446744073709551616 := cloTo_lt l s (Nat.le_refl _)
structure GoodL (l : List Pr) : Prop where
 asc : l.Pairwise fun p q => p.1 < q.1 ∨ p.1 = q.1∧p.2 < q.2
 role : ∀ p∈l,1≤p.1∧p.1≤6∧1≤p.2∧p.2≤6∧p.1≠p.2
 acy : Acy l
theorem GoodL.small {l : List Pr} (h : GoodL l) : Small l := fun p hp=>by have := h.role p hp; omega
end Go.Proofs.YtcoehdmpjflmlaaGreatDoor

namespace Go.Proofs.YtcoehdmpjflmlaaGreatDoor
open Go.RowKit
set_option linter.unusedVariables false
attribute [local irreducible] aw opsK dK

theorem insideL_zero {k : Int} : ∀ {l : List Fm},(∀ a∈l,insideM k a = 0)→insideL k l = 0
 | [],_ => rfl
 | a :: r,h=>by simp only [insideL]; rw [if_pos (h a (by simp))]; exact insideL_zero fun b hb => h b (by simp [hb])
theorem fitsL_true {w : Int} : ∀ {l : List Fm},(∀ a∈l,typeM a.op = w∧fitsM a = true)→fitsL w l = true
 | [],_ => rfl
 | a :: r, h => by
   simp only [fitsL]
   rw [decide_eq_true (h a (by simp)).1,(h a (by simp)).2,fitsL_true fun b hb => h b (by simp [hb])]
   rfl
theorem WfI.wf {op n : Int} {roles : List Int} {args : List Fm} (w : WfI op n roles args) : Wf (.mk op n roles args) := by
 have key : ∀ f : Fm,WfI f.op f.n f.roles f.args→Wf f := by
  intro f w
  have b1 : badArity f = false := by have := w.lo; have := w.hi; have := w.ar; simp [badArity]; omega
  have b2 : badForm f = false := by have := w.n0; have := w.least; have := w.most; simp [badForm]; omega
  have b3 : badN f = false := by have := w.nlo; have := w.nhi; simp [badN]; omega
  have b4 : inRange f.roles = true := List.all_eq_true.2 fun r hr=>by have := w.rng r hr; simp; omega
  have hn : nodeM f = 0 := by simp [nodeM,b1,b2,b3,b4,w.nd]
  refine ⟨?_,?_⟩
  · rw [insideM_eq, nodeK_zero, if_pos hn]
    exact insideL_zero fun a ha => (w.arg a ha).1.1
  · rw [fitsM_eq]
    exact fitsL_true fun a ha => ⟨(w.arg a ha).2,(w.arg a ha).1.2⟩
 exact key (.mk op n roles args) w

mutual
theorem lowL_cells (k : IntKind) : ∀ f : Fm,lowL (cellsK k f) = cellsK k f
 | .mk op n roles args => by
   simp only [cellsK,lowL,PV.low]
   rw [lowLL_cells k args]
   have : lowLL (nums roles) = nums roles := by simp [nums,lowLL_eq,lowL,PV.low]
   rw [this]
theorem lowLL_cells (k : IntKind) : ∀ l : List Fm,lowLL (cellsKL k l) = cellsKL k l
 | [] => rfl
 | a :: r=>by simp only [cellsKL,lowLL]; rw [lowL_cells k a,lowLL_cells k r]
end
theorem lowL_fC (k : IntKind) (f : Fm) : lowL (fC k f) = cellsK k f := by rw [← cellsK_eq,lowL_cells]
theorem lowLL_nums (l : List Int) : lowLL (nums l) = nums l := by simp [nums,lowLL_eq,lowL,PV.low]

def bys (l : List Nat) : List (List PV) := l.map fun (x : Nat) => [.val (.int .u8 (x : Int))]
def Bytes (l : List Nat) : Prop := ∀ x∈l,x≤255
def srcB (l : List Nat) (fl : Bool) (t : Nat) : Bx := ⟨2,[[.vec (bys l) fl,.val (.int .i64 (t : Int))]]⟩
theorem bys_pure (l : List Nat) : pureLL (bys l) := pureLL_map _ _ fun _ _ => ⟨trivial,trivial⟩
theorem srcB_pure (l : List Nat) (fl : Bool) (t : Nat) : pureLL (srcB l fl t).elems := ⟨⟨bys_pure l,trivial,trivial⟩,trivial⟩
theorem srcB_inn (l : List Nat) (fl : Bool) (t : Nat) (D : Nat→Prop) : innLL D (srcB l fl t).elems := innLL_mono (fun _ h => h.elim) _ (srcB_pure l fl t)

theorem next_spec (l : List Nat) (hl : Bytes l) (fl : Bool) (t : Nat) (ht : t≤1099511627776) : PSpec Tryz.prog 101 (srcB l fl t) [] fun r b' => ∃ v : Nat,v≤255∧r = .val (.int .i64 (v : Int))∧b' = srcB l fl (t + 1) := by
 refine pspec_intro ok101 (Nat.le_of_ble_eq_true rfl) fun C hC => ?_
 have hll : (bys l).length = l.length := by simp [bys]
 have hinc : IntKind.i64.wrap ((t : Int) + 1) = ((t + 1 : Nat) : Int) := IntWalk.i64_in _ ⟨by omega,by omega⟩
 have hdec : IntKind.i64.wrap (((t + 1 : Nat) : Int) - 1) = (t : Int) := by rw [show ((t + 1 : Nat) : Int) - 1 = (t : Int) by omega]; exact wrap_nat _ (by omega)
 iterate 10 (first|refine st ?_|(apply B<;>intro hb<;>try cases hb))
 refine opsK_int rfl rfl rfl hinc ?_
 (refine go ?_;repeat' (apply B<;>intro hb<;>try cases hb))
 · refine ret_p rfl trivial rfl (srcB_pure l fl (t + 1)) ⟨0,by omega,rfl,rfl⟩
 · have htl : t < l.length := by simp [hll] at hb; omega
   rw [hdec]
   refine dK_of (E_iaddr (xs := l) rfl rfl t rfl htl rfl) rfl rfl ?_
   (refine go ?_;repeat' (apply B<;>intro hb<;>try cases hb))
   have hx := hl l[t] (List.getElem_mem _)
   refine ret_p rfl trivial rfl (srcB_pure l fl (t + 1)) ⟨l[t],hx,?_,rfl⟩
   rw [wrap_nat _ (by omega)]
end Go.Proofs.YtcoehdmpjflmlaaGreatDoor

namespace Go.Proofs.YtcoehdmpjflmlaaGreatDoor
open Go.RowKit
set_option linter.unusedVariables false
attribute [local irreducible] aw opsK dK

def ne6 (op : Int) : Bool := decide (op≠6)
theorem ne6_iff {op : Int} : ne6 op = true ↔ op≠6 := by unfold ne6; exact decide_eq_true_iff
mutual
def in6 (k : Int) : Fm→Bool
 | .mk op _ roles args => (decide (k = 3) || ne6 op) && (roles.all fun r => decide (r≤6)) && in6L k args
def in6L (k : Int) : List Fm→Bool
 | [] => true
 | a :: r => in6 k a && in6L k r
end
theorem in6_eq (k : Int) (f : Fm) : in6 k f = ((decide (k = 3) || ne6 f.op) && (f.roles.all fun r => decide (r≤6)) && in6L k f.args) := by cases f; simp [in6,Fm.op,Fm.roles,Fm.args]
theorem in6_leaf {k op n : Int} {roles : List Int} (h1 : k = 3 ∨ op≠6) (h2 : ∀ r∈roles,r≤6) : in6 k (.mk op n roles []) = true := by
 rw [in6_eq]
 simp only [Fm.op,Fm.roles,Fm.args,in6L,Bool.and_true,Bool.and_eq_true,Bool.or_eq_true,decide_eq_true_eq,ne6_iff,List.all_eq_true]
 exact ⟨h1,h2⟩
theorem in6_node {k op : Int} {args : List Fm} (h1 : op≠6) (h2 : in6L k args = true) : in6 k (.mk op 0 [] args) = true := by
 rw [in6_eq]
 simp only [Fm.op,Fm.roles,Fm.args,List.all_nil,Bool.and_true,Bool.and_eq_true,Bool.or_eq_true,decide_eq_true_eq,ne6_iff]
 exact ⟨.inr h1,h2⟩
def MadeR (k ty : Int) (l : List Nat) (fl : Bool) (d t : Nat) (r : PV) (b' : Bx) : Prop :=
 ∃ (f : Fm) (t' : Nat),Wf f∧typeM f.op = ty∧f.depth≤d∧f.size + 1≤2 ^ d∧r = .agg (fC .i64 f)∧b' = srcB l fl t'∧t' + 1≤t + 2 ^ (d + 1)∧in6 k f = true

theorem leaf_size {op n : Int} {roles : List Int} : (Fm.mk op n roles []).size = 1 := by simp [Fm.size,sizeL]
theorem leaf_depth {op n : Int} {roles : List Int} : (Fm.mk op n roles []).depth = 1 := by simp [Fm.depth,depthL]
theorem leaf_made {k ty : Int} {l : List Nat} {fl : Bool} {d t t' : Nat} {op n : Int} {roles : List Int} (hd : 1≤d) (w : WfI op n roles []) (hty : typeM op = ty) (ht : t'≤t + 2) (hi : in6 k (.mk op n roles []) = true) : MadeR k ty l fl d t (.agg (fC .i64 (.mk op n roles []))) (srcB l fl t') := by
 have h2 : 2≤2 ^ d := by
  have := Nat.pow_le_pow_right (n := 2) (by omega) hd
  simpa using this
 refine ⟨.mk op n roles [],t',w.wf,hty,by rw [leaf_depth]; exact hd,by rw [leaf_size]; exact h2,rfl,rfl,?_,hi⟩
 rw [Nat.pow_succ]; omega
theorem two_made {k ty : Int} {l : List Nat} {fl : Bool} {d t t1 t2 : Nat} {op : Int} {x y : Fm} (hd : 1≤d) (hop : 8≤op) (hop' : op≤16) (wx : Wf x) (tx : typeM x.op = wantM op) (wy : Wf y) (tyy : typeM y.op = wantM op) (hty : typeM op = ty)
 (dx : x.depth≤d) (dy : y.depth≤d) (sx : x.size + 1≤2 ^ d) (sy : y.size + 1≤2 ^ d) (h1 : t1 + 1≤t + 1 + 2 ^ (d + 1)) (h2 : t2 + 1≤t1 + 2 ^ (d + 1)) (ix : in6 k x = true) (iy : in6 k y = true) : MadeR k ty l fl (d + 1) t (.agg (fC .i64 (.mk op 0 [] [x,y]))) (srcB l fl t2) := by
 have w : WfI op 0 [] [x,y] := by
  refine ⟨by omega,hop',?_,fun _ => rfl,?_,?_,by decide,by decide,fun r hr => (by cases hr),by simp,fun a ha => ?_⟩
  · rw [operandsM,if_pos hop]; rfl
  · simp only [leastM,List.length_nil]; rw [if_neg (by omega),if_neg (by omega)]; decide
  · simp only [mostM,List.length_nil]; rw [if_neg (by omega),if_neg (by omega)]; decide
  · simp at ha
    rcases ha with rfl | rfl
    · exact ⟨wx,tx⟩
    · exact ⟨wy,tyy⟩
 refine ⟨_,t2,w.wf,hty,by rw [depth_two]; omega,by rw [size_two,Nat.pow_succ]; omega,rfl,rfl,?_,in6_node (by omega) (by simp [in6L,ix,iy])⟩
 rw [Nat.pow_succ (n := 2) (m := d + 1)]
 omega
theorem ret_made {rs : List ARes} {e : Env} {h : Heap} {k ty : Int} {l : List Nat} {fl : Bool} {d t t' : Nat} {r : PV} {f : Fm} (hr : retAll rs e h = some r) (hlow : r.low = .agg (fC .i64 f)) (hb : h 0 = some (srcB l fl t')) (hR : MadeR k ty l fl d t (.agg (fC .i64 f)) (srcB l fl t')) :
 ∃ r0 r,retAll rs e h = some r0∧LoP r0 r∧∃ b',h 0 = some b'∧r.pure∧pureLL b'.elems∧MadeR k ty l fl d t r b' :=
 ret_pLow hr (by rw [hlow]; exact fC_pure _ _) hb (srcB_pure l fl t') (by rw [hlow]; exact hR)
theorem role_in (v : Nat) (k m : Int) (hk : 0 < k) (hm : 1≤m) : 0≤((v : Int).tdiv k).tmod m∧((v : Int).tdiv k).tmod m < m := by
 have h1 : (v : Int).tdiv k = (v : Int) / k := Int.tdiv_eq_ediv_of_nonneg (by omega)
 have h0 : 0≤(v : Int) / k := Int.ediv_nonneg (by omega) (by omega)
 have h2 : ((v : Int).tdiv k).tmod m = ((v : Int) / k) % m := by rw [h1,Int.tmod_eq_emod_of_nonneg h0]
 rw [h2]
 exact ⟨Int.emod_nonneg ((v : Int) / k) (by omega),Int.emod_lt_of_pos ((v : Int) / k) (by omega)⟩
theorem quo_wrap (v : Nat) (hv : v≤255) (k : Int) (hk : 0 < k) : IntKind.i64.wrap ((v : Int).tdiv k) = (v : Int).tdiv k := by
 have h1 : (v : Int).tdiv k = (v : Int) / k := Int.tdiv_eq_ediv_of_nonneg (by omega)
 rw [h1]
 have h2 := Int.ediv_le_self k (show 0≤(v : Int) by omega)
 have h3 : 0≤(v : Int) / k := Int.ediv_nonneg (by omega) (by omega)
 exact IntWalk.i64_in _ ⟨by omega,by omega⟩

structure Asc (acc : List Int) (k : Nat) : Prop where
 len : acc.length≤k
 rng : ∀ r∈acc,1≤r∧r≤(k : Int)
 nd : acc.Nodup
theorem Asc.snoc {acc : List Int} {k : Nat} (h : Asc acc k) : Asc (acc ++ [((k + 1 : Nat) : Int)]) (k + 1) := by
 refine ⟨by simp; exact h.len,fun r hr => ?_,?_⟩
 · rcases List.mem_append.1 hr with hr | hr
   · have := h.rng r hr; omega
   · rw [List.mem_singleton.1 hr]; omega
 · rw [List.nodup_append]
   refine ⟨h.nd,by simp,fun a ha b hb he => ?_⟩
   have := h.rng a ha
   rw [List.mem_singleton.1 hb] at he
   omega
theorem Asc.skip {acc : List Int} {k : Nat} (h : Asc acc k) : Asc acc (k + 1) := ⟨by have := h.len; omega,fun r hr=>by have := h.rng r hr; omega,h.nd⟩
theorem count_wf {roles : List Int} {m : Nat} (hm : m≤8) (h : Asc roles m) (h0 : roles≠[]) : WfI 5 0 roles [] := by
 have := List.length_pos_iff.2 h0
 have hl := h.len
 exact ⟨by decide,by decide,rfl,fun _ => rfl,by simp [leastM]; omega,by simp [mostM]; omega,by decide,by decide,fun r hr=>by have := h.rng r hr; omega,h.nd,fun a ha=>by cases ha⟩
theorem one_wf {op r : Int} {m : Nat} (hop : op = 4 ∨ op = 5 ∨ op = 6) (hm : m≤8) (h1 : 1≤r) (h2 : r≤m) : WfI op 0 [r] [] := by
 refine ⟨by omega,by omega,?_,fun _ => rfl,?_,?_,by decide,by decide,fun x hx => ?_,by simp,fun a ha=>by cases ha⟩
 · rcases hop with rfl | rfl | rfl <;> rfl
 · rcases hop with rfl | rfl | rfl <;> simp [leastM]
 · rcases hop with rfl | rfl | rfl <;> simp [mostM]
 · rw [List.mem_singleton.1 hx]; omega

set_option maxHeartbeats 4000000 in
theorem mnumber_spec (l : List Nat) (hl : Bytes l) (fl : Bool) (k : Int) : ∀ (d : Nat),1≤d→∀ (t : Nat),t + 2 ^ (d + 1)≤1099511627776 →
 PSpec Tryz.prog 118 (srcB l fl t) [.val (.int .i64 (d : Int)),.val (.int .i64 k),.val (.int .i64 6)] (MadeR k 2 l fl d t) := by
 intro d
 induction d with
 | zero => intro h; omega
 | succ d ih =>
   intro _ t ht
   have hp2 : 2 ^ (d + 1 + 1) = 2 * 2 ^ (d + 1) := by rw [Nat.pow_succ]; omega
   refine pspec_intro ok118 (Nat.le_of_ble_eq_true rfl) fun C hC => ?_
   (refine go ?_;repeat' (apply B<;>intro hb<;>try cases hb))
   refine opsK_ptr (next_spec l hl fl t (by omega)) rfl rfl rfl rfl (srcB_pure l fl t) trivial ?_
   rintro r b' - - ⟨v,hv,rfl,rfl⟩
   have hdec : IntKind.i64.wrap (((d + 1 : Nat) : Int) - 1) = (d : Int) := by rw [show ((d + 1 : Nat) : Int) - 1 = (d : Int) by omega]; exact wrap_nat _ (by have := Nat.lt_two_pow_self (n := d + 1 + 1);omega)
   have hpt := Nat.pos_of_ne_zero (show 2 ^ (d + 1)≠0 from fun h=>by simp at h)
   (first|refine st ?_|(apply B<;>intro hb<;>try cases hb))
   (first|refine st ?_|(apply B<;>intro hb<;>try cases hb))
   refine aw_cut hC True 2 [(0,.ptr 0 0 0),(2,.val (.int .i64 k)),(3,.val (.int .i64 6)),(8,.ptr 1 0 0),(9,.val (.int .i64 (v : Int)))] [(0,srcB l fl (t + 1)),(1,⟨4,[[.val (.int .i64 0),.val (.int .i64 0),.vec [] true,.vec [] true]]⟩)] (by omega) ?_ fun _ => ?_
   · have cut : ∀ {P : Prop}, P → P := fun h => h
     have done : (True∧True) := ⟨trivial,trivial⟩
     (refine go ?_;repeat' (apply B<;>intro hb<;>try cases hb))
     · have hd1 : 1 ≤ d := by
        rename_i h1
        simp at h1; omega
       refine opsK_ptr (ih hd1 (t + 1) (by omega)) rfl rfl (by show [_,_,_,_] = _; rw [hdec]) rfl (srcB_pure l fl _) ⟨trivial,trivial,trivial,trivial⟩ ?_
       rintro r b' - - ⟨x,t1,wx,tx,dx,sx,rfl,rfl,ht1,ix⟩
       (refine go ?_;repeat' (apply B<;>intro hb<;>try cases hb))
       refine opsK_ptr (ih hd1 t1 (by omega)) rfl rfl (by show [_,_,_,_] = _; rw [hdec]) rfl (srcB_pure l fl _) ⟨trivial,trivial,trivial,trivial⟩ ?_
       rintro r b' - - ⟨y,t2,wy,ty,dy,sy,rfl,rfl,ht2,iy⟩
       (refine go ?_;repeat' (apply B<;>intro hb<;>try cases hb))
       refine ret_made (f := .mk 16 0 [] [x,y]) rfl ?_ rfl (two_made hd1 (by decide) (by decide) wx tx wy ty rfl dx dy sx sy ht1 ht2 ix iy)
       show PV.agg [_,_,_,.vec [lowL (fC .i64 x),lowL (fC .i64 y)] false] = _
       rw [lowL_fC,lowL_fC]
       rfl
     all_goals exact ⟨trivial,⟨⟨rfl,show (0 : Nat) < 2 by decide⟩,⟨rfl,trivial⟩,⟨rfl,trivial⟩,⟨rfl,show (1 : Nat) < 2 by decide⟩,⟨rfl,trivial⟩,trivial⟩,⟨⟨by omega,rfl,srcB_inn _ _ _ _⟩,⟨by omega,rfl,⟨trivial,trivial,trivial,trivial,trivial⟩,trivial⟩,trivial⟩⟩
   have hq := quo_wrap v hv 3 (by decide)
   obtain ⟨hn1,hn2⟩ := role_in v 3 4 (by decide) (by decide)
   obtain ⟨hr1,hr2⟩ := role_in v 3 6 (by decide) (by decide)
   have hrw : IntKind.i64.wrap (1 + ((v : Int).tdiv 3).tmod 6) = 1 + ((v : Int).tdiv 3).tmod 6 := IntWalk.i64_in _ ⟨by omega,by omega⟩
   (refine go ?_;repeat' (apply B<;>intro hb<;>try cases hb))
   · rw [hq]
     refine ret_made (f := .mk 1 (((v : Int).tdiv 3).tmod 4) [] []) rfl rfl rfl (leaf_made (by omega) ?_ rfl (by omega) (in6_leaf (.inr (by decide)) fun r hr=>by cases hr))
     exact ⟨by decide,by decide,rfl,fun h => absurd rfl h,by decide,by decide,by omega,by omega,fun r hr => (by cases hr),by simp,fun a ha=>by cases ha⟩
   · rw [hq, hrw]
     exact ret_made (f := .mk 6 0 [1 + ((v : Int).tdiv 3).tmod 6] []) rfl rfl rfl (leaf_made (by omega) (one_wf (m := 6) (.inr (.inr rfl)) (by decide) (by omega) (by omega)) rfl (by omega) (in6_leaf (.inl (by simpa using hb)) fun r hr=>by rw [List.mem_singleton.1 hr];omega))
   refine opsK_ptr (next_spec l hl fl (t + 1) (by omega)) rfl rfl rfl rfl (srcB_pure l fl (t + 1)) trivial ?_
   rintro r b' - - ⟨u,hu,rfl,rfl⟩
   iterate 5 (first|refine st ?_|(apply B<;>intro hb<;>try cases hb))
   refine opsK_sub (subA_cellNil (id := 2) (i0 := 0) (j0 := 2) rfl (by decide) (by decide) rfl 1 (by decide) (by decide)) ?_
   (refine go ?_;repeat' (apply B<;>intro hb<;>try cases hb))
   refine aw_loopR hC (fun (x : Nat × List Int) => x.1≤6∧Asc x.2 x.1) (fun x => 6 - x.1) 4 (fun x => [(0,.ptr 0 0 0),(3,.val (.int .i64 6)),(8,.ptr 1 0 0),(9,.val (.int .i64 (v : Int))),(12,.ptr 2 0 0),(13,.val (.int .i64 (u : Int))),(14,.val (.int .i64 ((x.1 + 1 : Nat) : Int)))])
    (fun x => [(0,srcB l fl (t + 1 + 1)),(1,⟨4,[[.val (.int .i64 0),.val (.int .i64 0),.vec [] true,.vec [] true]]⟩),(2,⟨4,[[.val (.int .i64 5),.val (.int .i64 0),.own 3,.vec [] true]]⟩),(3,⟨1,nums x.2⟩)]) (by omega) (0,[]) ⟨by omega,by simp,fun r hr => (by cases hr),by simp⟩ (fun i=>i) (fun _ _=>rfl) injOn_id
    ⟨⟨_,rfl,.ptr 0 0 0 (by decide)⟩,⟨_,rfl,.pure _ trivial⟩,⟨_,rfl,.ptr 1 0 0 (by decide)⟩,⟨_,rfl,.pure _ trivial⟩,⟨_,rfl,.ptr 2 0 0 (by decide)⟩,⟨_,rfl,.pure _ trivial⟩,⟨_,rfl,.pure _ trivial⟩,trivial⟩
    ⟨⟨by omega,_,rfl,.same _ (srcB_pure _ _ _)⟩,⟨by omega,_,rfl,.same _ ⟨⟨trivial,trivial,trivial,trivial,trivial⟩,trivial⟩⟩,⟨by omega,_,rfl,RenB.single ⟨.pure _ trivial,.pure _ trivial,.own 3 (by decide),.pure _ trivial,trivial⟩ rfl⟩,⟨by omega,_,rfl,.same _ trivial⟩,trivial⟩ ?_
   rintro ⟨j,acc⟩ ⟨hj,hasc⟩
   simp only at hj hasc
   have hj1 : IntKind.i64.wrap (((j + 1 : Nat) : Int) - 1) = (j : Int) := by rw [show ((j + 1 : Nat) : Int) - 1 = (j : Int) by omega]; exact wrap_nat _ (by omega)
   have hinc : IntKind.i64.wrap (((j + 1 : Nat) : Int) + 1) = ((j + 1 + 1 : Nat) : Int) := IntWalk.i64_in _ ⟨by omega,by omega⟩
   iterate 4 (first|refine st ?_|(apply B<;>intro hb<;>try cases hb))
   (first|refine st ?_|(apply B<;>intro hb<;>try cases hb))
   refine opsK_bool rfl rfl rfl (fun hb=>?_) (fun hb=>?_)
   · have hj6 : j + 1 ≤ 6 := by simp at hb; omega
     clear hb
     iterate 9 (first|refine st ?_|(apply B<;>intro hb<;>try cases hb))
     refine opsK_int rfl rfl rfl hj1 ?_
     (refine go ?_;repeat' (apply B<;>intro hb<;>try cases hb))
     · refine opsK_new (E_append (k := 3) (m := nums [((j + 1 : Nat) : Int)]) (fl := true) rfl rfl rfl (fun c hc => by obtain ⟨x, _, rfl⟩ := List.mem_map.1 hc; rfl) rfl (by
        have := hasc.len
        show ((nums acc).length + (nums [((j + 1 : Nat) : Int)]).length) * 8≤_
        rw [nums_length,nums_length,List.length_singleton]
        omega)) rfl rfl ?_
       have happ : nums acc ++ nums [((j + 1 : Nat) : Int)] = nums (acc ++ [((j + 1 : Nat) : Int)]) := by simp [nums]
       simp only
       rw [happ]
       (refine go ?_;repeat' (apply B<;>intro hb<;>try cases hb))
       refine ⟨(j + 1,acc ++ [((j + 1 : Nat) : Int)]),mv 3 4,⟨hj6,hasc.snoc⟩,by simp only; omega,mv_low (by decide),injOn_mv (by simp),
        ⟨⟨_,rfl,.ptr 0 0 0 (by decide)⟩,⟨_,rfl,.pure _ trivial⟩,⟨_,rfl,.ptr 1 0 0 (by decide)⟩,⟨_,rfl,.pure _ trivial⟩,⟨_,rfl,.ptr 2 0 0 (by decide)⟩,⟨_,rfl,.pure _ trivial⟩,⟨_,by show some _ = some _; rw [hinc],.pure _ trivial⟩,trivial⟩,
        ⟨⟨by omega,_,rfl,.same _ (srcB_pure _ _ _)⟩,⟨by omega,_,rfl,.same _ ⟨⟨trivial,trivial,trivial,trivial,trivial⟩,trivial⟩⟩,⟨by omega,_,rfl,RenB.single ⟨.pure _ trivial,.pure _ trivial,.own 3 (by decide),.pure _ trivial,trivial⟩ rfl⟩,⟨by omega,_,rfl,.same _ (nums_pure _)⟩,trivial⟩⟩
     · refine ⟨(j + 1, acc), fun i => i, ⟨hj6, hasc.skip⟩, by simp only; omega, fun _ _ => rfl, injOn_id,
        ⟨⟨_,rfl,.ptr 0 0 0 (by decide)⟩,⟨_,rfl,.pure _ trivial⟩,⟨_,rfl,.ptr 1 0 0 (by decide)⟩,⟨_,rfl,.pure _ trivial⟩,⟨_,rfl,.ptr 2 0 0 (by decide)⟩,⟨_,rfl,.pure _ trivial⟩,⟨_,by show some _ = some _; rw [hinc],.pure _ trivial⟩,trivial⟩,
        ⟨⟨by omega,_,rfl,.same _ (srcB_pure _ _ _)⟩,⟨by omega,_,rfl,.same _ ⟨⟨trivial,trivial,trivial,trivial,trivial⟩,trivial⟩⟩,⟨by omega,_,rfl,RenB.single ⟨.pure _ trivial,.pure _ trivial,.own 3 (by decide),.pure _ trivial,trivial⟩ rfl⟩,⟨by omega,_,rfl,.same _ (nums_pure _)⟩,trivial⟩⟩
   · have hj6 : j = 6 := by simp at hb; omega
     subst hj6
     clear hb
     have hlow : lowLL (nums acc) = nums acc := lowLL_nums acc
     iterate 9 (first|refine st ?_|(apply B<;>intro hb<;>try cases hb))
     refine opsK_bool rfl rfl rfl (fun hb=>?_) (fun hb=>?_)
     · (refine go ?_;repeat' (apply B<;>intro hb<;>try cases hb))
       rw [hq,hrw]
       refine ret_made (f := .mk 5 0 [1 + ((v : Int).tdiv 3).tmod 6] []) rfl rfl rfl (leaf_made (by omega) (one_wf (m := 6) (.inr (.inl rfl)) (by decide) (by omega) (by omega)) rfl (by omega) (in6_leaf (.inr (by decide)) fun r hr=>by rw [List.mem_singleton.1 hr];omega))
     · have hne : acc ≠ [] := by
        rintro rfl
        simp [nums] at hb
       iterate 6 (first|refine st ?_|(apply B<;>intro hb<;>try cases hb))
       refine opsK_sub (subA_freezeP (k := 87) (id := 3) (b := ⟨1,nums acc⟩) rfl rfl (nums_pure acc) (FrzLs.agg (id := 3) (l := nums acc) (xs := [.val (.int .i64 5),.val (.int .i64 0),.own 3,.vec [] true]) (ys := [.val (.int .i64 5),.val (.int .i64 0),.vec (nums acc) false,.vec [] true]) ⟨.pure _ trivial,.pure _ trivial,.own,.pure _ trivial,trivial⟩)) ?_
       (refine go ?_;repeat' (apply B<;>intro hb<;>try cases hb))
       refine ret_made (f := .mk 5 0 acc []) rfl ?_ rfl (leaf_made (by omega) (count_wf (m := 6) (by decide) hasc hne) rfl (by omega) (in6_leaf (.inr (by decide)) fun r hr => (hasc.rng r hr).2))
       show PV.agg [_,_,.vec (lowLL (nums acc)) false,_] = _
       rw [hlow]
       rfl
end Go.Proofs.YtcoehdmpjflmlaaGreatDoor

namespace Go.Proofs.YtcoehdmpjflmlaaGreatDoor
open Go.RowKit
set_option linter.unusedVariables false
attribute [local irreducible] aw opsK dK

theorem one_made {k : Int} {l : List Nat} {fl : Bool} {d t t1 : Nat} {x : Fm} (wx : Wf x) (tx : typeM x.op = 1) (dx : x.depth≤d) (sx : x.size + 1≤2 ^ d) (h1 : t1 + 1≤t + 1 + 2 ^ (d + 1)) (ix : in6 k x = true) : MadeR k 1 l fl (d + 1) t (.agg (fC .i64 (.mk 7 0 [] [x]))) (srcB l fl t1) := by
 have w : WfI 7 0 [] [x] := ⟨by decide,by decide,rfl,fun _ => rfl,by decide,by decide,by decide,by decide,fun r hr => (by cases hr),by simp,fun a ha => by
  rw [List.mem_singleton.1 ha]; exact ⟨wx,tx⟩⟩
 have hp := Nat.pos_of_ne_zero (show 2 ^ d≠0 from fun h=>by simp at h)
 refine ⟨_,t1,w.wf,rfl,by rw [depth_one]; omega,by rw [size_one,Nat.pow_succ]; omega,rfl,rfl,?_,in6_node (by decide) (by simp [in6L,ix])⟩
 rw [Nat.pow_succ (n := 2) (m := d + 1),Nat.pow_succ] at *
 omega

set_option maxHeartbeats 4000000 in
theorem compare_spec (l : List Nat) (hl : Bytes l) (fl : Bool) (k : Int) (w d t : Nat) (hd : 1≤d) (ht : t + 2 ^ (d + 2)≤1099511627776) :
 PSpec Tryz.prog 102 (srcB l fl (t + 1)) [.val (.int .i64 (w : Int)),.val (.int .i64 ((d + 1 : Nat) : Int)),.val (.int .i64 k),.val (.int .i64 6)] (MadeR k 1 l fl (d + 1) t) := by
 have hp2 : 2 ^ (d + 2) = 2 * 2 ^ (d + 1) := by rw [Nat.pow_succ]; omega
 have hpt := Nat.lt_two_pow_self (n := d + 1)
 have hdec : IntKind.i64.wrap (((d + 1 : Nat) : Int) - 1) = (d : Int) := by rw [show ((d + 1 : Nat) : Int) - 1 = (d : Int) by omega]; exact wrap_nat _ (by omega)
 have hm : (w : Int).tmod 5 = ((w % 5 : Nat) : Int) := by rw [Int.tmod_eq_emod_of_nonneg (by omega)]; omega
 have hop : IntKind.i64.wrap (11 + ((w % 5 : Nat) : Int)) = 11 + ((w % 5 : Nat) : Int) := IntWalk.i64_in _ ⟨by omega,by omega⟩
 refine pspec_intro ok102 (Nat.le_of_ble_eq_true rfl) fun C hC => ?_
 (refine go ?_;repeat' (apply B<;>intro hb<;>try cases hb))
 refine opsK_ptr (mnumber_spec l hl fl k d hd (t + 1) (by omega)) rfl rfl (by show [_,_,_,_] = _; rw [hdec]) rfl (srcB_pure l fl _) ⟨trivial,trivial,trivial,trivial⟩ ?_
 rintro r b' - - ⟨x,t1,wx,tx,dx,sx,rfl,rfl,ht1,ix⟩
 (refine go ?_;repeat' (apply B<;>intro hb<;>try cases hb))
 refine opsK_ptr (mnumber_spec l hl fl k d hd t1 (by omega)) rfl rfl (by show [_,_,_,_] = _; rw [hdec]) rfl (srcB_pure l fl _) ⟨trivial,trivial,trivial,trivial⟩ ?_
 rintro r b' - - ⟨y,t2,wy,ty,dy,sy,rfl,rfl,ht2,iy⟩
 (refine go ?_;repeat' (apply B<;>intro hb<;>try cases hb))
 rw [hm,hop]
 have hw : wantM (11 + ((w % 5 : Nat) : Int)) = 2 := by rw [wantM,if_pos (by omega)]
 refine ret_made (f := .mk (11 + ((w % 5 : Nat) : Int)) 0 [] [x,y]) rfl ?_ rfl (two_made hd (by omega) (by omega) wx (by rw [hw]; exact tx) wy (by rw [hw]; exact ty) (by rw [typeM,if_neg (by omega)]) dx dy sx sy ht1 ht2 ix iy)
 show PV.agg [_,_,_,.vec [lowL (fC .i64 x),lowL (fC .i64 y)] false] = _
 rw [lowL_fC,lowL_fC]
 rfl

set_option maxHeartbeats 4000000 in
theorem mtruth_spec (l : List Nat) (hl : Bytes l) (fl : Bool) (k : Int) : ∀ (d : Nat),1≤d→∀ (t : Nat),t + 2 ^ (d + 1)≤1099511627776 →
 PSpec Tryz.prog 76 (srcB l fl t) [.val (.int .i64 (d : Int)),.val (.int .i64 k),.val (.int .i64 6)] (MadeR k 1 l fl d t) := by
 intro d
 induction d with
 | zero => intro h; omega
 | succ d ih =>
   intro _ t ht
   have hp2 : 2 ^ (d + 1 + 1) = 2 * 2 ^ (d + 1) := by rw [Nat.pow_succ]; omega
   have hpt := Nat.lt_two_pow_self (n := d + 1)
   refine pspec_intro ok76 (Nat.le_of_ble_eq_true rfl) fun C hC => ?_
   (refine go ?_;repeat' (apply B<;>intro hb<;>try cases hb))
   refine opsK_ptr (next_spec l hl fl t (by omega)) rfl rfl rfl rfl (srcB_pure l fl t) trivial ?_
   rintro r b' - - ⟨v,hv,rfl,rfl⟩
   have hdec : IntKind.i64.wrap (((d + 1 : Nat) : Int) - 1) = (d : Int) := by rw [show ((d + 1 : Nat) : Int) - 1 = (d : Int) by omega]; exact wrap_nat _ (by omega)
   have h8 : (v : Int).tmod 8 = ((v % 8 : Nat) : Int) := by rw [Int.tmod_eq_emod_of_nonneg (by omega)]; omega
   have hq8 : IntKind.i64.wrap ((v : Int).tdiv 8) = ((v / 8 : Nat) : Int) := by rw [quo_wrap v hv 8 (by decide),Int.tdiv_eq_ediv_of_nonneg (by omega)]; omega
   have hq16 : IntKind.i64.wrap ((v : Int).tdiv 16) = ((v / 16 : Nat) : Int) := by rw [quo_wrap v hv 16 (by decide),Int.tdiv_eq_ediv_of_nonneg (by omega)]; omega
   have hm2 : ((v / 16 : Nat) : Int).tmod 2 = ((v / 16 % 2 : Nat) : Int) := by rw [Int.tmod_eq_emod_of_nonneg (by omega)]; omega
   have hm6 : ((v / 8 : Nat) : Int).tmod 6 = ((v / 8 % 6 : Nat) : Int) := by rw [Int.tmod_eq_emod_of_nonneg (by omega)]; omega
   have hw2 : IntKind.i64.wrap (2 + ((v / 16 % 2 : Nat) : Int)) = 2 + ((v / 16 % 2 : Nat) : Int) := IntWalk.i64_in _ ⟨by omega,by omega⟩
   have hw6 : IntKind.i64.wrap (1 + ((v / 8 % 6 : Nat) : Int)) = 1 + ((v / 8 % 6 : Nat) : Int) := IntWalk.i64_in _ ⟨by omega,by omega⟩
   have hwo : v % 8 = 3 ∨ v % 8 = 4 ∨ v % 8 = 5→IntKind.i64.wrap (IntKind.i64.wrap (8 + ((v % 8 : Nat) : Int)) - 3) = 5 + ((v % 8 : Nat) : Int) := fun h => by
    rw [IntWalk.i64_in (8 + ((v % 8 : Nat) : Int)) ⟨by omega,by omega⟩]
    rw [show 8 + ((v % 8 : Nat) : Int) - 3 = 5 + ((v % 8 : Nat) : Int) by omega]
    exact IntWalk.i64_in _ ⟨by omega,by omega⟩
   have hb1 : ∀ i : Nat,(⟨4,[[.val (.int .i64 0),.val (.int .i64 0),.vec [] true,.vec [] true]]⟩ : Bx).elems.length = 1 := fun _ => rfl
   (first|refine st ?_|(apply B<;>intro hb<;>try cases hb))
   (first|refine st ?_|(apply B<;>intro hb<;>try cases hb))
   refine aw_cut hC (1≤d∧2≤v % 8) 2 [(0,.ptr 0 0 0),(1,.val (.int .i64 ((d + 1 : Nat) : Int))),(2,.val (.int .i64 k)),(3,.val (.int .i64 6)),(8,.ptr 1 0 0),(9,.val (.int .i64 (v : Int)))] [(0,srcB l fl (t + 1)),(1,⟨4,[[.val (.int .i64 0),.val (.int .i64 0),.vec [] true,.vec [] true]]⟩)] (by omega) ?_ fun hA => ?_
   · refine aw_cut hC True 2 [(0, .ptr 0 0 0), (1, .val (.int .i64 ((d + 1 : Nat) : Int))), (2, .val (.int .i64 k)), (3, .val (.int .i64 6)), (8, .ptr 1 0 0), (9, .val (.int .i64 (v : Int))), (20, .val (.bool (decide (((d + 1 : Nat) : Int) ≤ 1) || decide ((v : Int).tmod 8 ≤ 1))))] [(0, srcB l fl (t + 1)), (1, ⟨4, [[.val (.int .i64 0), .val (.int .i64 0), .vec [] true, .vec [] true]]⟩)] (by omega) ?_ fun _ => ?_
     · (refine go ?_;repeat' (apply B<;>intro hb<;>try cases hb))
       all_goals
        refine ⟨trivial,⟨⟨rfl,show (0 : Nat) < 2 by decide⟩,⟨rfl,trivial⟩,⟨rfl,trivial⟩,⟨rfl,trivial⟩,⟨rfl,show (1 : Nat) < 2 by decide⟩,⟨rfl,trivial⟩,⟨?_,trivial⟩,trivial⟩,⟨⟨by omega,rfl,srcB_inn _ _ _ _⟩,⟨by omega,rfl,⟨trivial,trivial,trivial,trivial,trivial⟩,trivial⟩,trivial⟩⟩
        show some (PV.val (Value.bool _)) = _
        simp_all
     rw [h8]
     cases hc : (decide (((d + 1 : Nat) : Int)≤1) || decide (((v % 8 : Nat) : Int)≤1)) with
     | true =>
       (refine go ?_;repeat' (apply B<;>intro hb<;>try cases hb))
       · have hd1 : 1 ≤ d := by simp at hb; omega
         refine opsK_ptr (compare_spec l hl fl k (v / 8) d t hd1 ht) rfl rfl (by show [_,_,_,_,_] = _; rw [hq8]) rfl (srcB_pure l fl _) ⟨trivial,trivial,trivial,trivial,trivial⟩ ?_
         rintro r b' - - ⟨x,t1,wx,tx,dx,sx,rfl,rfl,ht1,ix⟩
         (refine go ?_;repeat' (apply B<;>intro hb<;>try cases hb))
         refine ret_made (f := x) rfl ?_ rfl ⟨x,t1,wx,tx,dx,sx,rfl,rfl,ht1,ix⟩
         show PV.agg (lowL (fC .i64 x)) = _
         rw [lowL_fC,cellsK_eq]
       all_goals first
        | (rw [hq16, hm2, hw2]
           refine ret_made (f := .mk (2 + ((v / 16 % 2 : Nat) : Int)) 0 [] []) rfl rfl rfl (leaf_made (by omega) ?_ (by rw [typeM,if_neg (by omega)]) (by omega) (in6_leaf (.inr (by omega)) fun r hr=>by cases hr))
           refine ⟨by omega,by omega,?_,fun _ => rfl,?_,?_,by decide,by decide,fun r hr => (by cases hr),by simp,fun a ha=>by cases ha⟩
           · rw [operandsM,if_neg (by omega),if_neg (by omega)]; rfl
           · simp only [leastM,List.length_nil]; rw [if_neg (by omega),if_neg (by omega)]; decide
           · simp only [mostM,List.length_nil]; rw [if_neg (by omega),if_neg (by omega)]; decide
           done)
        | (rw [hq8, hm6, hw6]
           exact ret_made (f := .mk 4 0 [1 + ((v / 8 % 6 : Nat) : Int)] []) rfl rfl rfl (leaf_made (by omega) (one_wf (m := 6) (.inl rfl) (by decide) (by omega) (by omega)) rfl (by omega) (in6_leaf (.inr (by decide)) fun r hr=>by rw [List.mem_singleton.1 hr];omega)))
     | false =>
       (refine go ?_;repeat' (apply B<;>intro hb<;>try cases hb))
       refine ⟨?_,⟨⟨rfl,show (0 : Nat) < 2 by decide⟩,⟨rfl,trivial⟩,⟨rfl,trivial⟩,⟨rfl,trivial⟩,⟨rfl,show (1 : Nat) < 2 by decide⟩,⟨rfl,trivial⟩,trivial⟩,⟨⟨by omega,rfl,srcB_inn _ _ _ _⟩,⟨by omega,rfl,⟨trivial,trivial,trivial,trivial,trivial⟩,trivial⟩,trivial⟩⟩
       simp at hc
       omega
   obtain ⟨hd1,hv2⟩ := hA
   refine aw_cut hC (v % 8 < 6) 2 [(0,.ptr 0 0 0),(1,.val (.int .i64 ((d + 1 : Nat) : Int))),(2,.val (.int .i64 k)),(3,.val (.int .i64 6)),(8,.ptr 1 0 0),(9,.val (.int .i64 (v : Int)))] [(0,srcB l fl (t + 1)),(1,⟨4,[[.val (.int .i64 0),.val (.int .i64 0),.vec [] true,.vec [] true]]⟩)] (by omega) ?_ fun hA => ?_
   · (refine go ?_;repeat' (apply B<;>intro hb<;>try cases hb))
     · refine opsK_ptr (compare_spec l hl fl k (v / 8) d t hd1 ht) rfl rfl (by show [_, _, _, _, _] = _; rw [hq8]) rfl (srcB_pure l fl _) ⟨trivial, trivial, trivial, trivial, trivial⟩ ?_
       rintro r b' - - ⟨x,t1,wx,tx,dx,sx,rfl,rfl,ht1,ix⟩
       (refine go ?_;repeat' (apply B<;>intro hb<;>try cases hb))
       refine ret_made (f := x) rfl ?_ rfl ⟨x,t1,wx,tx,dx,sx,rfl,rfl,ht1,ix⟩
       show PV.agg (lowL (fC .i64 x)) = _
       rw [lowL_fC,cellsK_eq]
     · refine ⟨?_, ⟨⟨rfl, show (0 : Nat) < 2 by decide⟩, ⟨rfl, trivial⟩, ⟨rfl, trivial⟩, ⟨rfl, trivial⟩, ⟨rfl, show (1 : Nat) < 2 by decide⟩, ⟨rfl, trivial⟩, trivial⟩, ⟨⟨by omega, rfl, srcB_inn _ _ _ _⟩, ⟨by omega, rfl, ⟨trivial, trivial, trivial, trivial, trivial⟩, trivial⟩, trivial⟩⟩
       rw [h8] at hb
       simp at hb
       omega
   (refine go ?_;repeat' (apply B<;>intro hb<;>try cases hb))
   refine opsK_ptr (ih hd1 (t + 1) (by omega)) rfl rfl (by show [_,_,_,_] = _; rw [hdec]) rfl (srcB_pure l fl _) ⟨trivial,trivial,trivial,trivial⟩ ?_
   rintro r b' - - ⟨x,t1,wx,tx,dx,sx,rfl,rfl,ht1,ix⟩
   (refine go ?_;repeat' (apply B<;>intro hb<;>try cases hb))
   · refine ret_made (f := .mk 7 0 [] [x]) rfl ?_ rfl (one_made wx tx dx sx ht1 ix)
     show PV.agg [_,_,_,.vec [lowL (fC .i64 x)] false] = _
     rw [lowL_fC]
     rfl
   have h3 : v % 8 = 3 ∨ v % 8 = 4 ∨ v % 8 = 5 := by
    rw [h8] at hb
    simp at hb
    omega
   refine opsK_ptr (ih hd1 t1 (by omega)) rfl rfl (by show [_,_,_,_] = _; rw [hdec]) rfl (srcB_pure l fl _) ⟨trivial,trivial,trivial,trivial⟩ ?_
   rintro r b' - - ⟨y,t2,wy,ty,dy,sy,rfl,rfl,ht2,iy⟩
   (refine go ?_;repeat' (apply B<;>intro hb<;>try cases hb))
   rw [h8,hwo h3]
   have hw : wantM (5 + ((v % 8 : Nat) : Int)) = 1 := by rw [wantM,if_neg (by omega)]
   refine ret_made (f := .mk (5 + ((v % 8 : Nat) : Int)) 0 [] [x,y]) rfl ?_ rfl (two_made hd1 (by omega) (by omega) wx (by rw [hw]; exact tx) wy (by rw [hw]; exact ty) (by rw [typeM,if_neg (by omega)]) dx dy sx sy ht1 ht2 ix iy)
   show PV.agg [_,_,_,.vec [lowL (fC .i64 x),lowL (fC .i64 y)] false] = _
   rw [lowL_fC,lowL_fC]
   rfl

def MadeF (k : Int) (r : PV) : Prop := ∃ f : Fm,Wf f∧typeM f.op = 1∧f.depth≤4∧f.size≤15∧r = .agg (fC .i64 f)∧in6 k f = true
theorem make18_spec (l : List Nat) (hl : Bytes l) (fl : Bool) (k : Int) : Spec Tryz.prog 49 [.vec (bys l) fl,.val (.int .i64 k),.val (.int .i64 6)] (MadeF k) := by
 refine spec_intro ok49 (Nat.le_of_ble_eq_true rfl) fun C hC => ?_
 (refine go ?_;repeat' (apply B<;>intro hb<;>try cases hb))
 refine opsK_ptr (mtruth_spec l hl fl k 4 (by decide) 0 (by decide)) rfl rfl rfl rfl (srcB_pure l fl _) ⟨trivial,trivial,trivial,trivial⟩ ?_
 rintro r b' - - ⟨x,t1,wx,tx,dx,sx,rfl,rfl,ht1,ix⟩
 (refine go ?_;repeat' (apply B<;>intro hb<;>try cases hb))
 refine ret_ok rfl (fC_pure .i64 x) ⟨x,wx,tx,dx,by omega,rfl,ix⟩
end Go.Proofs.YtcoehdmpjflmlaaGreatDoor

namespace Go.Proofs.YtcoehdmpjflmlaaGreatDoor
open Go.RowKit
set_option linter.unusedVariables false
attribute [local irreducible] aw opsK dK

def rset (l : List Int) : Nat := l.foldl (fun acc r => acc ||| 2 ^ r.toNat) 0
theorem topOf_ge4 : ∀ (l : List Int) (t : Int),t≤l.foldl (fun t i => if i≤4095 then (if i > t then i else t) else t) t∧∀ r∈l,r≤4095→r≤l.foldl (fun t i => if i≤4095 then (if i > t then i else t) else t) t
 | [],t => ⟨Int.le_refl t,fun r hr=>by cases hr⟩
 | a :: l, t => by
   rw [List.foldl_cons]
   obtain ⟨h1,h2⟩ := topOf_ge4 l (if a≤4095 then (if a > t then a else t) else t)
   refine ⟨Int.le_trans (by split <;> (try split) <;> omega) h1,fun r hr h => ?_⟩
   rcases List.mem_cons.1 hr with rfl | hr
   · refine Int.le_trans ?_ h1
     rw [if_pos h]
     split <;> omega
   · exact h2 r hr h
theorem foldl_cond {top : Int} : ∀ (l : List Int) (a : Nat),(∀ r∈l,0≤r∧r≤top)→l.foldl (fun acc i => if 0≤i∧i≤top then acc ||| 2 ^ i.toNat else acc) a = l.foldl (fun acc r => acc ||| 2 ^ r.toNat) a
 | [],a,_ => rfl
 | x :: l, a, h => by
   rw [List.foldl_cons,List.foldl_cons,if_pos (h x (List.mem_cons_self ..))]
   exact foldl_cond l _ fun r hr => h r (List.mem_cons_of_mem _ hr)
theorem maskTo_rset {l : List Int} (h : ∀ r∈l,1≤r∧r≤63) : maskTo (topOf l) l = rset l :=
 foldl_cond l 0 fun r hr => ⟨by have := h r hr; omega,(topOf_ge4 l (-1)).2 r hr (by have := h r hr;omega)⟩
theorem rset_lt {l : List Int} (h : ∀ r∈l,1≤r∧r≤63) : rset l < 18446744073709551616 := by
 have hb : ∀ (l : List Int) (a : Nat),(∀ r∈l,1≤r∧r≤63)→a < 18446744073709551616→l.foldl (fun acc r => acc ||| 2 ^ r.toNat) a < 18446744073709551616 := by
  intro l
  induction l with
  | nil => exact fun a _ ha => ha
  | cons x l ih =>
    intro a h ha
    rw [List.foldl_cons]
    have := h x (List.mem_cons_self ..)
    exact ih _ (fun r hr => h r (List.mem_cons_of_mem _ hr)) (or_lt ha (pow_lt64 (by omega)))
 exact hb l 0 h (by decide)
mutual
def mentF : Fm→Nat
 | .mk _ _ roles args => rset roles ||| mentL args
def mentL : List Fm→Nat
 | [] => 0
 | a :: r => mentF a ||| mentL r
end
theorem mentF_eq (f : Fm) : mentF f = rset f.roles ||| mentL f.args := by cases f; simp [mentF,Fm.roles,Fm.args]
theorem mentL_append (l m : List Fm) : mentL (l ++ m) = mentL l ||| mentL m := by
 induction l with
 | nil => simp [mentL]
 | cons a r ih => simp only [List.cons_append,mentL,ih,Nat.or_assoc]
theorem mentL_take {l : List Fm} {i : Nat} (hi : i < l.length) : mentL (l.take (i + 1)) = mentL (l.take i) ||| mentF l[i] := by
 have e : l.take (i + 1) = l.take i ++ [l[i]] := by rw [List.take_add_one,List.getElem?_eq_getElem hi]; rfl
 rw [e,mentL_append]
 simp [mentL]
theorem inside_node {k : Int} {f : Fm} (h : insideM k f = 0) : nodeM f = 0∧∀ a∈f.args,insideM k a = 0 := by
 rw [insideM_eq] at h
 split at h
 · rename_i h0
   refine ⟨?_,insideL_all h⟩
   unfold nodeK at h0
   split at h0
   · assumption
   · exact h0
 · rename_i h0; exact absurd h h0
theorem node_roles {f : Fm} (h : nodeM f = 0) : ∀ r∈f.roles,1≤r∧r≤63 := fun r hr => by
 have := List.all_eq_true.1 (nodeM_inv h).2.2.2.1 r hr
 simpa using this
theorem mentF_lt {k : Int} : ∀ (d : Nat) (f : Fm),f.depth≤d→insideM k f = 0→mentF f < 18446744073709551616 := by
 intro d
 induction d with
 | zero => intro f hf; rw [Fm.depth_eq] at hf; omega
 | succ d ih =>
   intro f hf h
   obtain ⟨h1,h2⟩ := inside_node h
   rw [mentF_eq]
   refine or_lt (rset_lt (node_roles h1)) ?_
   have hl : ∀ l : List Fm,(∀ a∈l,mentF a < 18446744073709551616)→mentL l < 18446744073709551616 := by
    intro l
    induction l with
    | nil => intro _; simp [mentL]
    | cons a r ihl => intro hh; rw [mentL]; exact or_lt (hh a (List.mem_cons_self ..)) (ihl fun b hb => hh b (List.mem_cons_of_mem _ hb))
   refine hl _ fun a ha => ?_
   obtain ⟨i,hi,rfl⟩ := List.getElem_of_mem ha
   have := depthL_mem hi
   rw [f.depth_eq] at hf
   exact ih _ (by omega) (h2 _ ha)

set_option maxHeartbeats 4000000 in
theorem mentionedF_spec (k : Int) : ∀ (d : Nat) (f : Fm),f.depth≤d→f.size≤1000→insideM k f = 0→Spec Tryz.prog 107 [.agg (fC .u8 f)] (· = setN (mentF f)) := by
 intro d
 induction d with
 | zero => intro f hf; rw [Fm.depth_eq] at hf; omega
 | succ d ih =>
   intro f hf hsz hk
   obtain ⟨h1,h2⟩ := inside_node hk
   have hrr := node_roles h1
   have hll : (f.args.map (cellsK .u8)).length = f.args.length := by simp
   have hfd := f.depth_eq
   have hfs := f.size_eq
   have hlm := length_le_size f.args
   have hlt : ∀ i,mentL (f.args.take i) < 18446744073709551616 := by
    intro i
    have hl : ∀ l : List Fm,(∀ a∈l,mentF a < 18446744073709551616)→mentL l < 18446744073709551616 := by
     intro l
     induction l with
     | nil => intro _; simp [mentL]
     | cons a r ihl => intro hh; rw [mentL]; exact or_lt (hh a (List.mem_cons_self ..)) (ihl fun b hb => hh b (List.mem_cons_of_mem _ hb))
    refine hl _ fun a ha => ?_
    have ha' := List.mem_of_mem_take ha
    exact mentF_lt a.depth a (Nat.le_refl _) (h2 a ha')
   refine spec_intro ok107 (Nat.le_of_ble_eq_true rfl) fun C hC => ?_
   refine aw_seq ?_
   refine aw_region ?_
   refine opsK_ofAlt rfl rfl rfl ?_
   (refine go ?_;repeat' (apply B<;>intro hb<;>try cases hb))
   refine opsK_eq (of_spec f.roles false) rfl rfl rfl ⟨nums_pure _,trivial⟩ rfl ?_
   rw [maskTo_rset hrr]
   (refine go ?_;repeat' (apply B<;>intro hb<;>try cases hb))
   refine aw_loopH hC (fun i => i≤f.args.length) (fun i => f.args.length - i) 2 (fun i => [(2,.ptr 0 0 0),(3,.ptr 1 0 0),(10,.vec (f.args.map (cellsK .u8)) false),(11,.val (.int .i64 (f.args.length : Int))),(12,.val (.int .i64 (i : Int)))])
    (fun i => [(0,⟨1,[[.vec [] true]]⟩),(1,⟨1,[[.vec (words (digs (rset f.roles ||| mentL (f.args.take i)))) false]]⟩)]) (Nat.zero_le _) 0 (Nat.zero_le _)
    ⟨⟨rfl,show (0 : Nat) < 2 by decide⟩,⟨rfl,show (1 : Nat) < 2 by decide⟩,⟨rfl,fArgs_inn _ _ _⟩,⟨by rw [← hll]; rfl,trivial⟩,⟨rfl,trivial⟩,trivial⟩
    ⟨⟨by decide,rfl,⟨trivial,trivial⟩,trivial⟩,⟨by decide,by rw [List.take_zero,mentL,Nat.or_zero]; rfl,⟨words_inn _ _,trivial⟩,trivial⟩,trivial⟩ ?_
   intro i hi
   have hinc : IntKind.i64.wrap ((i : Int) + 1) = ((i + 1 : Nat) : Int) := IntWalk.i64_in _ ⟨by omega,by omega⟩
   have hcur := or_lt (rset_lt hrr) (hlt i)
   (refine go ?_;repeat' (apply B<;>intro hb<;>try cases hb))
   · have hil : i < f.args.length := by have := of_decide_eq_true hb; omega
     have hdl := depthL_mem hil
     have hsl := sizeL_mem hil
     have hin := h2 _ (List.getElem_mem hil)
     refine opsK_of (E_iaddr (xs := f.args) rfl rfl i rfl hil (cellsK_length _ _)) rfl rfl ?_
     rw [cellsK_eq]
     (refine go ?_;repeat' (apply B<;>intro hb<;>try cases hb))
     refine dK_eq (ih f.args[i] (by omega) (by omega) hin) rfl rfl rfl ⟨fC_pure _ _,trivial⟩ ?_
     refine dK_eq (orS_spec _ (mentF f.args[i]) hcur (mentF_lt _ _ (Nat.le_refl _) hin)) rfl rfl rfl ⟨setN_pure _,setN_pure _,trivial⟩ ?_
     (refine go ?_;repeat' (apply B<;>intro hb<;>try cases hb))
     exact ⟨i + 1,by omega,by omega,
      ⟨⟨rfl,show (0 : Nat) < 2 by decide⟩,⟨rfl,show (1 : Nat) < 2 by decide⟩,⟨rfl,fArgs_inn _ _ _⟩,⟨rfl,trivial⟩,⟨by show some _ = some _; rw [hinc],trivial⟩,trivial⟩,
      ⟨⟨by decide,rfl,⟨trivial,trivial⟩,trivial⟩,⟨by decide,by rw [mentL_take hil,← Nat.or_assoc]; rfl,⟨words_inn _ _,trivial⟩,trivial⟩,trivial⟩⟩
   · have hil : i = f.args.length := by have := of_decide_eq_false hb; omega
     subst hil
     rw [List.take_length]
     exact ret_ok rfl (setN_pure _) (by rw [mentF_eq]; rfl)

def checkK (k : Int) (f : Fm) : Int := if lookM k f≠0 then lookM k f else if fitsM f = true∧typeM f.op = 1 then (if k≠3∧8 < popK 64 (mentF f) then 3 else 0) else 10
set_option maxHeartbeats 4000000 in
theorem checkF_spec (k : Int) (hk : 1≤k∧k≤3) (f : Fm) (hd : f.depth≤1000) (hsz : f.size≤1099511627776) : Spec Tryz.prog 83 [.agg (fC .u8 f),.val (.int .u8 k)] (· = .val (.int .i64 (checkK k f))) := by
 refine spec_intro ok83 (Nat.le_of_ble_eq_true rfl) fun C hC => ?_
 have d1 : decide (k < 1) = false := decide_eq_false (by omega)
 have d2 : decide (k > 3) = false := decide_eq_false (by omega)
 refine aw_seq ?_
 refine aw_region ?_
 refine opsK_ofAlt rfl rfl rfl ?_
 (repeat'(first|refine at_dst 7 ?_|refine at_dstD 7 ?_|refine st ?_|(apply B<;>intro hb<;>try cases hb)))<;>try refine At.mk ?_
 refine opsK_of (E_boolEq rfl d1) rfl rfl ?_
 (repeat'(first|refine at_dst 10 ?_|refine at_dstD 10 ?_|refine st ?_|(apply B<;>intro hb<;>try cases hb)))<;>try refine At.mk ?_
 refine opsK_on rfl ?_
 refine opsK_of (E_boolEq rfl d2) rfl rfl ?_
 (repeat'(first|refine at_dst 14 ?_|refine at_dstD 14 ?_|refine st ?_|(apply B<;>intro hb<;>try cases hb)))<;>try refine At.mk ?_
 refine opsK_eq (look_spec k f hd hsz) rfl rfl rfl ⟨fC_pure _ _,trivial,trivial⟩ rfl ?_
 (repeat'(first|refine at_dst 16 ?_|refine at_dstD 16 ?_|refine st ?_|(apply B<;>intro hb<;>try cases hb)))<;>try refine At.mk ?_
 refine opsK_bool rfl rfl rfl (fun hb=>?_) (fun hb=>?_)
 · have h0 : lookM k f ≠ 0 := by simpa using hb
   (refine go ?_;repeat' (apply B<;>intro hb<;>try cases hb))
   exact ret_ok rfl trivial (by rw [checkK,if_pos h0])
 · have h0 : lookM k f = 0 := by simpa using hb
   clear hb
   have h10 : f.depth≤10∧f.size≤200∧insideM k f = 0 := by
    unfold lookM at h0
    split at h0
    · cases h0
    · rename_i h1; exact ⟨by omega,by omega,h0⟩
   have hc : checkK k f = if fitsM f = true∧typeM f.op = 1 then (if k≠3∧8 < popK 64 (mentF f) then 3 else 0) else 10 := by rw [checkK,if_neg (by rw [h0]; decide)]
   (repeat'(first|refine at_dst 19 ?_|refine at_dstD 19 ?_|refine st ?_|(apply B<;>intro hb<;>try cases hb)))<;>try refine At.mk ?_
   refine opsK_eq (fits_spec f.depth f (Nat.le_refl _)) rfl rfl rfl ⟨fC_pure _ _,trivial⟩ rfl ?_
   cases hfit : fitsM f
   · (refine go ?_;repeat' (apply B<;>intro hb<;>try cases hb))
     exact ret_ok rfl trivial (by rw [hc,hfit,if_neg (by simp)]; rfl)
   · (repeat'(first|refine at_dst 24 ?_|refine at_dstD 24 ?_|refine st ?_|(apply B<;>intro hb<;>try cases hb)))<;>try refine At.mk ?_
     refine opsK_on rfl ?_
     refine opsK_eq (result_spec f.op) rfl rfl rfl ⟨trivial,trivial⟩ rfl ?_
     (repeat'(first|refine at_dst 25 ?_|refine at_dstD 25 ?_|refine st ?_|(apply B<;>intro hb<;>try cases hb)))<;>try refine At.mk ?_
     refine opsK_on rfl ?_
     refine opsK_bool rfl rfl rfl (fun hb=>?_) (fun hb=>?_)
     · have ht : typeM f.op ≠ 1 := by simpa using hb
       (refine go ?_;repeat' (apply B<;>intro hb<;>try cases hb))
       exact ret_ok rfl trivial (by rw [hc,if_neg (fun h => ht h.2)]; rfl)
     · have ht : typeM f.op = 1 := by simpa using hb
       clear hb
       (repeat'(first|refine at_dst 28 ?_|refine at_dstD 28 ?_|refine st ?_|(apply B<;>intro hb<;>try cases hb)))<;>try refine At.mk ?_
       refine opsK_bool rfl rfl rfl (fun hb=>?_) (fun hb=>?_)
       · have h3 : k ≠ 3 := by simpa using hb
         clear hb
         (repeat'(first|refine at_dst 31 ?_|refine at_dstD 31 ?_|refine st ?_|(apply B<;>intro hb<;>try cases hb)))<;>try refine At.mk ?_
         refine opsK_on rfl ?_
         refine opsK_eq (mentionedF_spec k f.depth f (Nat.le_refl _) (by omega) h10.2.2) rfl rfl rfl ⟨fC_pure _ _,trivial⟩ rfl ?_
         (repeat'(first|refine at_dst 32 ?_|refine at_dstD 32 ?_|refine st ?_|(apply B<;>intro hb<;>try cases hb)))<;>try refine At.mk ?_
         refine opsK_on rfl ?_
         refine opsK_eq (lenS_spec _ (mentF_lt _ f (Nat.le_refl _) h10.2.2)) rfl rfl rfl ⟨setN_pure _,trivial⟩ rfl ?_
         generalize popK 64 (mentF f) = pk at hc ⊢
         (refine go ?_;repeat' (apply B<;>intro hb<;>try cases hb))
         · have h8 : 8 < pk := by have := of_decide_eq_true hb; omega
           exact ret_ok rfl trivial (by rw [hc,if_pos ⟨hfit,ht⟩,if_pos ⟨h3,h8⟩]; rfl)
         · have h8 : ¬ 8 < pk := by have := of_decide_eq_false hb; omega
           exact ret_ok rfl trivial (by rw [hc,if_pos ⟨hfit,ht⟩,if_neg fun h => h8 h.2]; rfl)
       · have h3 : k = 3 := by simpa using hb
         clear hb
         (refine go ?_;repeat' (apply B<;>intro hb<;>try cases hb))
         exact ret_ok rfl trivial (by rw [hc,if_pos ⟨hfit,ht⟩,if_neg fun h => h.1 h3]; rfl)

theorem take_snocC {α : Type} {S : List α} {t : Nat} (ht : t < S.length) : S.take (t + 1) = S.take t ++ [S[t]] := by rw [List.take_add_one,List.getElem?_eq_getElem ht]; rfl
end Go.Proofs.YtcoehdmpjflmlaaGreatDoor

namespace Go.Proofs.YtcoehdmpjflmlaaGreatDoor
open Go.RowKit
set_option linter.unusedVariables false
attribute [local irreducible] aw opsK dK

def strC (s : ByteArray) : List PV := [.val (.string s)]
theorem strs_pure (l : List ByteArray) : pureLL (l.map strC) := pureLL_enc (fun s => (show pureL (strC s) from ⟨trivial,trivial⟩)) l
theorem strs_len (l : List ByteArray) : (l.map strC).length = l.length := by simp
set_option maxHeartbeats 1000000 in
theorem indexS_spec (xs : List ByteArray) (v : ByteArray) (fl : Bool) : Spec Tryz.prog 119 [.vec (xs.map strC) fl,.val (.string v)] (· = .val (.int .i64 (idxI (fun x => v.toList == x.toList) xs))) := by
 have hnl := strs_len xs
 have hpi : ∀ D,innLL D (xs.map strC) := fun D => innLL_mono (fun _ h => h.elim) _ (strs_pure xs)
 refine spec_intro ok119 (Nat.le_of_ble_eq_true rfl) fun C hC => ?_
 refine aw_len (k := 0) rfl fun hmax => ?_
 have hlm : xs.length≤maxVec := by rw [← hnl]; exact hmax
 (refine go ?_;repeat' (apply B<;>intro hb<;>try cases hb))
 refine aw_loopH hC (fun i => i≤xs.length∧(xs.take i).any (fun x => v.toList == x.toList) = false) (fun i => xs.length - i) 0 (fun i => [(0,.vec (xs.map strC) fl),(1,.val (.string v)),(7,.val (.int .i64 (xs.length : Int))),(8,.val (.int .i64 (i : Int)))]) (fun _=>[]) (Nat.zero_le _) 0 ⟨Nat.zero_le _,rfl⟩ ⟨⟨rfl,hpi _⟩,⟨rfl,trivial⟩,⟨by rw [← hnl]; rfl,trivial⟩,⟨rfl,trivial⟩,trivial⟩ trivial ?_
 rintro i ⟨hi,hno⟩
 have hinc : IntKind.i64.wrap ((i : Int) + 1) = ((i + 1 : Nat) : Int) := IntWalk.i64_in _ ⟨by omega,by simp only [maxVec] at hlm; omega⟩
 (repeat'(first|refine at_dst 9 ?_|refine at_dstD 9 ?_|refine st ?_|(apply B<;>intro hb<;>try cases hb)))<;>try refine At.mk ?_
 refine opsK_bool rfl rfl rfl (fun hb=>?_) (fun hb=>?_)
 · have hil : i < xs.length := by have := of_decide_eq_true hb; omega
   clear hb
   (refine go ?_;repeat' (apply B<;>intro hb<;>try cases hb))
   refine opsK_of (E_iaddr (xs := xs) (g := strC) rfl rfl i rfl hil rfl) rfl rfl ?_
   iterate 1 (first|refine st ?_|(apply B<;>intro hb<;>try cases hb))
   refine opsK_bool rfl rfl rfl (fun hx => ?_) (fun hx => ?_)
   · (refine go ?_;repeat' (apply B<;>intro hb<;>try cases hb))
     exact ret_ok rfl trivial (by rw [idxI_at hil hno hx])
   · (refine go ?_;repeat' (apply B<;>intro hb<;>try cases hb))
     exact ⟨i + 1,⟨by omega,any_take hil hno hx⟩,by omega,⟨⟨rfl,hpi _⟩,⟨rfl,trivial⟩,⟨rfl,trivial⟩,⟨by show some _ = some _; rw [hinc],trivial⟩,trivial⟩,trivial⟩
 · have hil : i = xs.length := by have := of_decide_eq_false hb; omega
   subst hil
   rw [List.take_length] at hno
   (refine go ?_;repeat' (apply B<;>intro hb<;>try cases hb))
   exact ret_ok rfl trivial (by rw [idxI_none hno]; rfl)
theorem containsS_spec (xs : List ByteArray) (v : ByteArray) (fl : Bool) : Spec Tryz.prog 103 [.vec (xs.map strC) fl,.val (.string v)] (· = .val (.bool (decide (idxI (fun x => v.toList == x.toList) xs ≥ 0)))) := by
 refine spec_intro ok103 (Nat.le_of_ble_eq_true rfl) fun C hC => ?_
 (repeat'(first|refine at_dst 7 ?_|refine at_dstD 7 ?_|refine st ?_|(apply B<;>intro hb<;>try cases hb)))<;>try refine At.mk ?_
 refine opsK_eq (indexS_spec xs v fl) rfl rfl rfl ⟨strs_pure xs,trivial,trivial⟩ rfl ?_
 (repeat'(first|refine at_dst 8 ?_|refine at_dstD 8 ?_|refine st ?_|(apply B<;>intro hb<;>try cases hb)))<;>try refine At.mk ?_
 refine opsK_boolEq (v := decide (idxI (fun x => v.toList == x.toList) xs ≥ 0)) rfl rfl rfl rfl ?_
 generalize decide (idxI (fun x => v.toList == x.toList) xs ≥ 0) = b
 (refine go ?_;repeat' (apply B<;>intro hb<;>try cases hb))
 all_goals exact ret_ok rfl trivial rfl
def kwL : List ByteArray := [⟨#[97,108,108]⟩,⟨#[97,110,100]⟩,⟨#[97,115,115,105,103,110]⟩,⟨#[98,121]⟩,⟨#[99,111,117,110,116]⟩,⟨#[100,101,99,108,97,114,101]⟩,⟨#[100,121,110,97,109,105,99]⟩,⟨#[101,110,102,111,114,99,101]⟩,⟨#[102,97,108,115,101]⟩,⟨#[102,111,114]⟩,⟨#[105,102]⟩,⟨#[109,101,109,98,101,114,115]⟩,⟨#[110,111,110,101]⟩,⟨#[110,111,116]⟩,⟨#[111,110]⟩,⟨#[111,114]⟩,⟨#[114,101,118,111,107,101]⟩,⟨#[115,116,97,116,105,99]⟩,⟨#[116,114,117,101]⟩,⟨#[117,115,101,114,115]⟩]
theorem kwP_spec : Spec Tryz.prog 104 [] (· = .vec (kwL.map strC) true) := by
 refine spec_intro ok104 (Nat.le_of_ble_eq_true rfl) fun C hC => ?_
 (refine go ?_;repeat' (apply B<;>intro hb<;>try cases hb))
 exact ret_ok rfl (strs_pure kwL) rfl
def nmS (i : Nat) : ByteArray := (⟨#[114]⟩ : ByteArray) ++ (⟨#[48,49,50,51,52,53,54,55,56,57]⟩ : ByteArray).extract i (i + 1)
theorem nmS_eq : nmS 1 = ⟨#[114,49]⟩∧nmS 2 = ⟨#[114,50]⟩∧nmS 3 = ⟨#[114,51]⟩∧nmS 4 = ⟨#[114,52]⟩∧nmS 5 = ⟨#[114,53]⟩ := by
 refine ⟨?_,?_,?_,?_,?_⟩ <;> kernel_rfl
theorem kw_none : ∀ d∈[49,50,51,52,53],idxI (fun x => (⟨#[114,d]⟩ : ByteArray).toList == x.toList) kwL = -1 := by
 intro d hd
 simp only [List.mem_cons,List.not_mem_nil,or_false] at hd
 rcases hd with rfl | rfl | rfl | rfl | rfl <;> kernel_rfl
end Go.Proofs.YtcoehdmpjflmlaaGreatDoor

namespace Go.Proofs.YtcoehdmpjflmlaaGreatDoor
open Go.RowKit
set_option linter.unusedVariables false
attribute [local irreducible] aw opsK dK

theorem E_slcS {e : Env} {h : Heap} {n : Nat} {x lo hi : Operand} {s : ByteArray} {a b : Nat} (hx : ev e x = some (.val (.string s))) (hlo : intAt (ev e lo) = some (a : Int)) (hhi : intAt (ev e hi) = some (b : Int)) (hab : a≤b) (hb : b≤s.size) : dEval (.slcS x (some lo) (some hi)) e h n = some (.val (.string (s.extract a b)),h) := by
 simp only [dEval,hx,bndAt,hlo,hhi]
 rw [if_pos ⟨by omega,by omega,by omega⟩]
 simp
theorem E_addS {e : Env} {h : Heap} {n : Nat} {x y : Operand} {s t : ByteArray} (hx : ev e x = some (.val (.string s))) (hy : ev e y = some (.val (.string t))) (hz : s.size + t.size≤9223372036854775807) : dEval (.bin .add .num x y) e h n = some (.val (.string (s ++ t)),h) := by
 simp [dEval,hx,hy,pbin,sbin,hz]
def nmL (n : Nat) : List ByteArray := (List.range n).map fun j => nmS (j + 1)
set_option maxHeartbeats 2000000 in
theorem names_spec (n : Nat) (hn : n≤5) : Spec Tryz.prog 48 [.val (.int .i64 (n : Int))] (· = .vec ((nmL n).map strC) false) := by
 refine spec_intro ok48 (Nat.le_of_ble_eq_true rfl) fun C hC => ?_
 repeat' (first | refine opsK_sub (subA_ownNil (k := 3) rfl 1 (by decide)) ?_ | (first|refine st ?_|(apply B<;>intro hb<;>try cases hb)))
 refine aw_loopR hC (fun i => i≤n) (fun i => n - i) 1 (fun i => [(0,.val (.int .i64 (n : Int))),(3,.own 0),(4,.val (.int .i64 ((i + 1 : Nat) : Int)))])
  (fun i => [(0,⟨1,(nmL i).map strC⟩)]) (by omega) 0 (Nat.zero_le _) (fun i=>i) (fun _ _=>rfl) injOn_id
  ⟨⟨_,rfl,.pure _ trivial⟩,⟨_,rfl,.own 0 (by decide)⟩,⟨_,rfl,.pure _ trivial⟩,trivial⟩ ⟨⟨by decide,_,rfl,.same _ trivial⟩,trivial⟩ ?_
 intro i hi
 have hinc : IntKind.i64.wrap (((i + 1 : Nat) : Int) + 1) = ((i + 1 + 1 : Nat) : Int) := IntWalk.i64_in _ ⟨by omega,by omega⟩
 have hnl : (nmL i).length = i := by simp [nmL]
 (repeat'(first|refine at_dst 7 ?_|refine at_dstD 7 ?_|refine st ?_|(apply B<;>intro hb<;>try cases hb)))<;>try refine At.mk ?_
 refine opsK_bool rfl rfl rfl (fun hb=>?_) (fun hb=>?_)
 · have hin : i < n := by have := of_decide_eq_true hb; omega
   clear hb
   have d1 : decide (((i + 1 : Nat) : Int) < 10) = true := decide_eq_true (by omega)
   (repeat'(first|refine at_dst 11 ?_|refine at_dstD 11 ?_|refine st ?_|(apply B<;>intro hb<;>try cases hb)))<;>try refine At.mk ?_
   refine opsK_of (E_boolEq rfl d1) rfl rfl ?_
   (repeat'(first|refine at_dst 15 ?_|refine at_dstD 15 ?_|refine st ?_|(apply B<;>intro hb<;>try cases hb)))<;>try refine At.mk ?_
   refine opsK_int rfl rfl rfl hinc ?_
   refine opsK_of (E_slcS (a := i + 1) (b := i + 1 + 1) rfl rfl rfl (by omega) (show i + 1 + 1≤10 by omega)) rfl rfl ?_
   refine opsK_of (E_addS rfl rfl (by
    rw [ByteArray.size_extract]
    show 1 + (min (i + 1 + 1) 10 - (i + 1))≤_
    omega)) rfl rfl ?_
   (repeat'(first|refine at_dst 19 ?_|refine at_dstD 19 ?_|refine st ?_|(apply B<;>intro hb<;>try cases hb)))<;>try refine At.mk ?_
   have happ : (nmL i).map strC ++ [strC (nmS (i + 1))] = (nmL (i + 1)).map strC := by simp [nmL,List.range_succ]
   refine opsK_new (E_append (k := 0) (m := [strC (nmS (i + 1))]) (fl := true) (b := ⟨1,(nmL i).map strC⟩) rfl rfl rfl (fun q hq=>by rw [List.mem_singleton] at hq; subst hq; rfl) rfl (by
    show (((nmL i).map strC).length + 1) * 16≤_
    rw [strs_len];omega)) rfl rfl ?_
   simp only
   rw [happ]
   (refine go ?_;repeat' (apply B<;>intro hb<;>try cases hb))
   exact ⟨i + 1,mv 0 1,hin,by omega,fun j hj => absurd hj (Nat.not_lt_zero _),injOn_of rfl,
    ⟨⟨_,rfl,.pure _ trivial⟩,⟨_,rfl,.own 0 (by decide)⟩,⟨_,by show some _ = some _; rw [hinc],.pure _ trivial⟩,trivial⟩,⟨⟨by decide,_,rfl,.same _ (strs_pure _)⟩,trivial⟩⟩
 · have hin : i = n := by have := of_decide_eq_false hb; omega
   subst hin
   clear hb
   (repeat'(first|refine at_dst 37 ?_|refine at_dstD 37 ?_|refine st ?_|(apply B<;>intro hb<;>try cases hb)))<;>try refine At.mk ?_
   refine opsK_sub (subA_freeze (k := 3) rfl rfl (strs_pure _)) ?_
   (refine go ?_;repeat' (apply B<;>intro hb<;>try cases hb))
   exact ret_ok rfl (strs_pure _) rfl
set_option maxHeartbeats 1000000 in
theorem letter_spec (c : Nat) : Spec Tryz.prog 105 [.val (.int .u8 (c : Int))] (· = .val (.bool (decide (97≤c∧c≤122)))) := by
 refine spec_intro ok105 (Nat.le_of_ble_eq_true rfl) fun C hC => ?_
 (refine go ?_;repeat' (apply B<;>intro hb<;>try cases hb))
 all_goals
  simp only [decide_eq_true_eq,decide_eq_false_iff_not] at *
  first
   | exact ret_ok rfl trivial (by rw [decide_eq_true (show 97≤c∧c≤122 by omega)])
   | exact ret_ok rfl trivial (by rw [decide_eq_false (show ¬ (97≤c∧c≤122) by omega)])
def letP : PV := .cp [.fn 105 []]
theorem letP_pure : letP.pure := ⟨trivial,trivial⟩
set_option maxHeartbeats 1000000 in
theorem inner_spec (c : Nat) (hc : (97≤c∧c≤122) ∨ (48≤c∧c≤57)) : Spec Tryz.prog 106 [.val (.int .u8 (c : Int)),letP] (· = .val (.bool true)) := by
 refine spec_intro ok106 (Nat.le_of_ble_eq_true rfl) fun C hC => ?_
 (repeat'(first|refine at_dst 6 ?_|refine at_dstD 6 ?_|refine st ?_|(apply B<;>intro hb<;>try cases hb)))<;>try refine At.mk ?_
 refine opsK_eq (letter_spec c) rfl rfl rfl ⟨trivial,trivial⟩ rfl ?_
 by_cases h1 : 97≤c∧c≤122
 · rw [decide_eq_true h1]
   (refine go ?_;repeat' (apply B<;>intro hb<;>try cases hb))
   exact ret_ok rfl trivial rfl
 · rw [decide_eq_false h1]
   have d1 : decide ((c : Int) ≥ 48) = true := decide_eq_true (by omega)
   have d2 : decide ((c : Int)≤57) = true := decide_eq_true (by omega)
   (repeat'(first|refine at_dst 9 ?_|refine at_dstD 9 ?_|refine st ?_|(apply B<;>intro hb<;>try cases hb)))<;>try refine At.mk ?_
   refine opsK_on rfl ?_
   refine opsK_of (E_boolEq rfl d1) rfl rfl ?_
   (repeat'(first|refine at_dst 12 ?_|refine at_dstD 12 ?_|refine st ?_|(apply B<;>intro hb<;>try cases hb)))<;>try refine At.mk ?_
   refine opsK_on rfl ?_
   refine opsK_of (E_boolEq rfl d2) rfl rfl ?_
   (refine go ?_;repeat' (apply B<;>intro hb<;>try cases hb))
   exact ret_ok rfl trivial rfl
end Go.Proofs.YtcoehdmpjflmlaaGreatDoor

namespace Go.Proofs.YtcoehdmpjflmlaaGreatDoor
open Go.RowKit
set_option linter.unusedVariables false
attribute [local irreducible] aw opsK dK

theorem kwAll : ∀ d∈[49,50,51,52,53],(kwL.all fun x => !(x.toList == (⟨#[114,d]⟩ : ByteArray).toList)) = true := by
 intro d hd
 simp only [List.mem_cons,List.not_mem_nil,or_false] at hd
 rcases hd with rfl | rfl | rfl | rfl | rfl <;> kernel_rfl
set_option maxHeartbeats 4000000 in
theorem validP_spec (d : UInt8) (hd : d∈[49,50,51,52,53]) : Spec Tryz.prog 82 [.val (.string ⟨#[114,d]⟩)] (· = .val (.bool true)) := by
 have hkw := containsS_spec kwL ⟨#[114,d]⟩ true
 rw [kw_none d hd] at hkw
 have hdn : 48≤d.toNat∧d.toNat≤57 := by
  simp only [List.mem_cons,List.not_mem_nil,or_false] at hd
  rcases hd with rfl | rfl | rfl | rfl | rfl <;> decide
 refine spec_intro ok82 (Nat.le_of_ble_eq_true rfl) fun C hC => ?_
 (repeat'(first|refine at_dst 15 ?_|refine at_dstD 15 ?_|refine st ?_|(apply B<;>intro hb<;>try cases hb)))<;>try refine At.mk ?_
 refine opsK_on rfl ?_
 refine opsK_eq kwP_spec rfl rfl rfl trivial rfl ?_
 (repeat'(first|refine at_dst 17 ?_|refine at_dstD 17 ?_|refine st ?_|(apply B<;>intro hb<;>try cases hb)))<;>try refine At.mk ?_
 refine opsK_on rfl ?_
 refine opsK_eq hkw rfl rfl rfl ⟨strs_pure kwL,trivial,trivial⟩ rfl ?_
 (repeat'(first|refine at_dst 19 ?_|refine at_dstD 19 ?_|refine st ?_|(apply B<;>intro hb<;>try cases hb)))<;>try refine At.mk ?_
 refine opsK_sub (subA_freezeBox (k := 3) (l := [.fn 105 []]) rfl rfl ⟨trivial,trivial⟩) ?_
 (refine go ?_;repeat' (apply B<;>intro hb<;>try cases hb))
 refine aw_rounds 2 ?_
 unfold roundsQ
 (repeat'(first|refine at_dst 29 ?_|refine at_dstD 29 ?_|refine st ?_|(apply B<;>intro hb<;>try cases hb)))<;>try refine At.mk ?_
 refine dK_eq (inner_spec 114 (.inl (by decide))) rfl rfl rfl ⟨trivial,letP_pure,trivial⟩ ?_
 (repeat'(first|refine at_dst 39 ?_|refine at_dstD 39 ?_|refine st ?_|(apply B<;>intro hb<;>try cases hb)))<;>try refine At.mk ?_
 refine dK_on rfl ?_
 refine dK_eq (letter_spec 114) rfl rfl rfl ⟨trivial,trivial⟩ ?_
 (refine go ?_;repeat' (apply B<;>intro hb<;>try cases hb))
 unfold roundsQ
 (repeat'(first|refine at_dst 29 ?_|refine at_dstD 29 ?_|refine st ?_|(apply B<;>intro hb<;>try cases hb)))<;>try refine At.mk ?_
 refine dK_eq (inner_spec d.toNat (.inr hdn)) rfl rfl rfl ⟨trivial,letP_pure,trivial⟩ ?_
 (refine go ?_;repeat' (apply B<;>intro hb<;>try cases hb))
 exact ret_ok rfl trivial rfl
structure Con where
 en : Bool
 kind : Nat
 name : ByteArray
 f : Fm
def conR (c : Con) : List PV := .val (.bool c.en) :: .val (.int .i64 (c.kind : Int)) :: .val (.string c.name) :: fC .i64 c.f
def conP (c : Con) : List PV := .val (.bool c.en) :: .val (.int .u8 (c.kind : Int)) :: .val (.string c.name) :: fC .u8 c.f
theorem conR_pure (c : Con) : pureL (conR c) := ⟨trivial,trivial,trivial,fC_pure .i64 c.f⟩
theorem conP_pure (c : Con) : pureL (conP c) := ⟨trivial,trivial,trivial,fC_pure .u8 c.f⟩
theorem cons_pureR (l : List Con) : pureLL (l.map conR) := pureLL_enc conR_pure l
theorem cons_pureP (l : List Con) : pureLL (l.map conP) := pureLL_enc conP_pure l
def NameR (nm : ByteArray) (v : Bool) : Prop := True
theorem nameR_ok (d : UInt8) (hd : d∈[49,50,51,52,53]) : NameR ⟨#[114,d]⟩ true := trivial
structure ConOk (c : Con) (v : Bool) : Prop where
 kind : 1≤c.kind∧c.kind≤3
 p : Spec Tryz.prog 82 [.val (.string c.name)] (· = .val (.bool v))
 r : NameR c.name v
 depth : c.f.depth≤4
 size : c.f.size≤15
 wf : Wf c.f
def okC (c : Con) (v : Bool) : Int := if v = true then checkK c.kind c.f else 9
set_option maxHeartbeats 2000000 in
theorem checkCP_spec {c : Con} {v : Bool} (h : ConOk c v) : Spec Tryz.prog 54 [.agg (conP c)] (· = .val (.int .i64 (okC c v))) := by
 have hk := h.kind
 have hd := h.depth
 have hsz := h.size
 have d1 : decide ((c.kind : Int) < 1) = false := decide_eq_false (by omega)
 have d2 : decide ((c.kind : Int) > 3) = false := decide_eq_false (by omega)
 refine spec_intro ok54 (Nat.le_of_ble_eq_true rfl) fun C hC => ?_
 refine aw_seq ?_
 refine aw_region ?_
 refine opsK_ofAlt rfl rfl rfl ?_
 (repeat'(first|refine at_dst 6 ?_|refine at_dstD 6 ?_|refine st ?_|(apply B<;>intro hb<;>try cases hb)))<;>try refine At.mk ?_
 refine opsK_of (E_boolEq rfl d1) rfl rfl ?_
 (repeat'(first|refine at_dst 10 ?_|refine at_dstD 10 ?_|refine st ?_|(apply B<;>intro hb<;>try cases hb)))<;>try refine At.mk ?_
 refine opsK_on rfl ?_
 refine opsK_of (E_boolEq rfl d2) rfl rfl ?_
 (repeat'(first|refine at_dst 15 ?_|refine at_dstD 15 ?_|refine st ?_|(apply B<;>intro hb<;>try cases hb)))<;>try refine At.mk ?_
 refine opsK_eq h.p rfl rfl rfl ⟨trivial,trivial⟩ rfl ?_
 cases v with
 | false =>
   (refine go ?_;repeat' (apply B<;>intro hb<;>try cases hb))
   exact ret_ok rfl trivial rfl
 | true =>
   (repeat'(first|refine at_dst 21 ?_|refine at_dstD 21 ?_|refine st ?_|(apply B<;>intro hb<;>try cases hb)))<;>try refine At.mk ?_
   refine opsK_eq (checkF_spec c.kind (by omega) c.f (by omega) (by omega)) rfl rfl rfl ⟨fC_pure _ _,trivial,trivial⟩ rfl ?_
   (refine go ?_;repeat' (apply B<;>intro hb<;>try cases hb))
   exact ret_ok rfl trivial rfl
end Go.Proofs.YtcoehdmpjflmlaaGreatDoor

namespace Go.Proofs.YtcoehdmpjflmlaaGreatDoor
open Go.RowKit
set_option linter.unusedVariables false
attribute [local irreducible] aw opsK dK

def Nice : Nat→Fm→Prop
 | 0,_ => False
 | d + 1,f => 0≤f.op∧f.op≤255∧f.roles.length≤1000∧f.args.length≤1000∧∀ a∈f.args,Nice d a
theorem Wf.nice : ∀ (d : Nat) (f : Fm),Wf f→f.depth≤d→Nice d f
 | 0,f,_,h=>by rw [Fm.depth_eq] at h; omega
 | d + 1, f, w, h => by
   have hi := w.inv'
   have hm : mostM f.op≤8 := by
    unfold mostM
    split
    · omega
    · split <;> omega
   have ho : operandsM f.op≤2 := by
    unfold operandsM
    split
    · omega
    · split <;> omega
   refine ⟨by have := hi.lo; omega,by have := hi.hi; omega,by have := hi.most; omega,by have := hi.ar; omega,fun a ha => ?_⟩
   obtain ⟨i,hil,rfl⟩ := List.getElem_of_mem ha
   have := depthL_mem hil
   have := f.depth_eq
   exact Wf.nice d _ (w.arg _ (List.getElem_mem _)).1 (by omega)

set_option maxHeartbeats 2000000 in
theorem formula_spec : ∀ (d : Nat) (f : Fm),Nice d f→Spec Tryz.prog 47 [.agg (fC .i64 f)] (· = .agg (fC .u8 f)) := by
 intro d
 induction d with
 | zero => intro f hf; exact hf.elim
 | succ d ih =>
   rintro f ⟨hop0,hop1,hrl,hal,harg⟩
   have hll : (f.args.map (cellsK .i64)).length = f.args.length := by simp
   have hnl := nums_length f.roles
   have hconv : IntKind.u8.wrap f.op = f.op := by rw [IntKind.wrap_u8]; omega
   refine spec_intro ok47 (Nat.le_of_ble_eq_true rfl) fun C hC => ?_
   refine aw_seq ?_
   refine aw_region ?_
   refine opsK_ofAlt rfl rfl rfl ?_
   (first|refine st ?_|(apply B<;>intro hb<;>try cases hb))
   (first|refine st ?_|(apply B<;>intro hb<;>try cases hb))
   (first|refine st ?_|(apply B<;>intro hb<;>try cases hb))
   refine aw_draw [8] ?_
   iterate 2 (first|refine st ?_|(apply B<;>intro hb<;>try cases hb))
   refine dK_of (E_int rfl hconv) rfl rfl ?_
   (refine go ?_;repeat' (apply B<;>intro hb<;>try cases hb))
   refine dK_ofAlt (E_appendF (l := []) (m := nums f.roles) rfl rfl (fun c hc=>by cases hc) (fun c hc=>by obtain ⟨x,_,rfl⟩ := List.mem_map.1 hc; rfl) (by show ((0 : Nat) + (nums f.roles).length) * 8≤_; rw [hnl];omega)) rfl rfl ?_
   rw [List.nil_append]
   iterate 9 (first|refine st ?_|(apply B<;>intro hb<;>try cases hb))
   refine opsK_sub (subA_cellNil (id := 11) (b := ⟨4,[[.val (.int .u8 f.op),.val (.int .i64 f.n),.vec (nums f.roles) false,.vec [] true]]⟩) (i0 := 0) (j0 := 3) rfl (show 0 < 1 by decide) (show 3 < 4 by decide) rfl 4 (by decide) (by decide)) ?_
   (refine go ?_;repeat' (apply B<;>intro hb<;>try cases hb))
   refine aw_loopR hC (fun i => i≤f.args.length) (fun i => f.args.length - i) 3 (fun i => [(2,.ptr 0 0 0),(3,.ptr 1 0 0),(17,.vec (f.args.map (cellsK .i64)) false),(18,.val (.int .i64 f.args.length)),(19,.val (.int .i64 (i : Int)))])
    (fun i => [(0,⟨4,[[.val (.int .u8 0),.val (.int .i64 0),.vec [] true,.vec [] true]]⟩),(1,⟨4,[[.val (.int .u8 f.op),.val (.int .i64 f.n),.vec (nums f.roles) false,.own 2]]⟩),(2,⟨4,(f.args.take i).map (cellsK .u8)⟩)]) (by omega) 0 (by omega) (fun i => mv 1 11 (mv 2 13 i)) (fun i hi=>by omega) (injOn_of rfl)
    ⟨⟨_,rfl,.ptr (ρ := fun i => mv 1 11 (mv 2 13 i)) 0 0 0 (by decide)⟩,⟨_,rfl,.ptr (ρ := fun i => mv 1 11 (mv 2 13 i)) 1 0 0 (by decide)⟩,⟨_,rfl,.pure _ (fArgs_pure _ _)⟩,⟨_,by rw [← hll]; rfl,.pure _ trivial⟩,⟨_,rfl,.pure _ trivial⟩,trivial⟩
    ⟨⟨by omega,_,rfl,.same _ ⟨⟨trivial,trivial,trivial,trivial,trivial⟩,trivial⟩⟩,⟨by omega,_,rfl,RenB.single ⟨.pure _ trivial,.pure _ trivial,.pure _ (nums_pure _),.own (ρ := fun i => mv 1 11 (mv 2 13 i)) 2 (by decide),trivial⟩ rfl⟩,⟨by omega,_,rfl,.same _ trivial⟩,trivial⟩ ?_
   intro i hi
   have hinc : IntKind.i64.wrap ((i : Int) + 1) = ((i + 1 : Nat) : Int) := IntWalk.i64_in _ ⟨by omega,by omega⟩
   have hcl : ((f.args.take i).map (cellsK .u8)).length = i := by rw [List.length_map,List.length_take]; omega
   iterate 2 (first|refine st ?_|(apply B<;>intro hb<;>try cases hb))
   refine opsK_bool rfl rfl rfl (fun hb=>?_) (fun hb=>?_)
   · have hil : i < f.args.length := by simpa using hb
     (refine go ?_;repeat' (apply B<;>intro hb<;>try cases hb))
     refine opsK_of (E_iaddr (xs := f.args) rfl rfl i rfl hil (cellsK_length _ _)) rfl rfl ?_
     rw [cellsK_eq .i64 f.args[i]]
     (refine go ?_;repeat' (apply B<;>intro hb<;>try cases hb))
     refine dK_eq (ih f.args[i] (harg _ (List.getElem_mem _))) rfl rfl rfl ⟨fC_pure _ _,trivial⟩ ?_
     (refine go ?_;repeat' (apply B<;>intro hb<;>try cases hb))
     refine dK_of (E_append (k := 2) (m := [fC .u8 f.args[i]]) (fl := true) rfl rfl rfl (fun c hc=>by rw [List.mem_singleton.1 hc]; rfl) rfl (by
      show (((f.args.take i).map (cellsK .u8)).length + 1) * 64≤_
      rw [hcl];omega)) rfl rfl ?_
     have happ : (f.args.take i).map (cellsK .u8) ++ [fC .u8 f.args[i]] = (f.args.take (i + 1)).map (cellsK .u8) := by
      rw [List.take_add_one,List.getElem?_eq_getElem hil,List.map_append,← cellsK_eq]; rfl
     simp only
     rw [happ]
     (refine go ?_;repeat' (apply B<;>intro hb<;>try cases hb))
     exact ⟨i + 1,mv 2 9,by omega,by omega,mv_low (by decide),injOn_of rfl,
      ⟨⟨_,rfl,.ptr (ρ := mv 2 9) 0 0 0 (by decide)⟩,⟨_,rfl,.ptr (ρ := mv 2 9) 1 0 0 (by decide)⟩,⟨_,rfl,.pure _ (fArgs_pure _ _)⟩,⟨_,rfl,.pure _ trivial⟩,⟨_,by show some _ = some _; rw [hinc],.pure _ trivial⟩,trivial⟩,
      ⟨⟨by omega,_,rfl,.same _ ⟨⟨trivial,trivial,trivial,trivial,trivial⟩,trivial⟩⟩,⟨by omega,_,rfl,RenB.single ⟨.pure _ trivial,.pure _ trivial,.pure _ (nums_pure _),.own (ρ := mv 2 9) 2 (by decide),trivial⟩ rfl⟩,⟨by omega,_,rfl,.same _ (fArgs_pure _ _)⟩,trivial⟩⟩
   · have hil : i = f.args.length := by simp at hb; omega
     subst hil
     rw [List.take_length]
     iterate 7 (first|refine st ?_|(apply B<;>intro hb<;>try cases hb))
     refine opsK_sub (subA_freezeP (k := 31) (id := 2) (b := ⟨4,f.args.map (cellsK .u8)⟩) rfl rfl (fArgs_pure _ _) (FrzLs.agg (id := 2) (l := f.args.map (cellsK .u8)) (xs := [.val (.int .u8 f.op),.val (.int .i64 f.n),.vec (nums f.roles) false,.own 2]) (ys := fC .u8 f) ⟨.pure _ trivial,.pure _ trivial,.pure _ (nums_pure _),.own,trivial⟩)) ?_
     (refine go ?_;repeat' (apply B<;>intro hb<;>try cases hb))
     exact ret_ok rfl (fC_pure .u8 f) rfl
end Go.Proofs.YtcoehdmpjflmlaaGreatDoor

namespace Go.Proofs.YtcoehdmpjflmlaaGreatDoor
open Go.RowKit
set_option linter.unusedVariables false
attribute [local irreducible] aw opsK dK

structure ItemX where
 en : Bool
 k : Nat
 bs : List Nat
 fb : Bool
def ItemOk (x : ItemX) : Prop := x.k < 256∧Bytes x.bs
def itC (x : ItemX) : List PV := [.val (.bool x.en),.val (.int .u8 (x.k : Int)),.vec (bys x.bs) x.fb]
theorem itC_pure (x : ItemX) : pureL (itC x) := ⟨trivial,trivial,bys_pure x.bs,trivial⟩
theorem items_pure (l : List ItemX) : pureLL (l.map itC) := pureLL_enc itC_pure l
theorem items_len (l : List ItemX) : (l.map itC).length = l.length := by simp
theorem nmS_valid {i : Nat} (hi : i < 5) : Spec Tryz.prog 82 [.val (.string (nmS (i + 1)))] (· = .val (.bool true))∧NameR (nmS (i + 1)) true := by
 obtain ⟨h1,h2,h3,h4,h5⟩ := nmS_eq
 rcases i with _ | _ | _ | _ | _ | i
 · rw [h1]; exact ⟨validP_spec 49 (by decide),nameR_ok 49 (by decide)⟩
 · rw [h2]; exact ⟨validP_spec 50 (by decide),nameR_ok 50 (by decide)⟩
 · rw [h3]; exact ⟨validP_spec 51 (by decide),nameR_ok 51 (by decide)⟩
 · rw [h4]; exact ⟨validP_spec 52 (by decide),nameR_ok 52 (by decide)⟩
 · rw [h5]; exact ⟨validP_spec 53 (by decide),nameR_ok 53 (by decide)⟩
 · omega
theorem nmL_get (n i : Nat) (h : i < (nmL n).length) : (nmL n)[i] = nmS (i + 1) := by simp [nmL]
theorem consR_len (l : List Con) : (l.map conR).length = l.length := by simp
theorem consP_len (l : List Con) : (l.map conP).length = l.length := by simp
structure ConsI (items : List ItemX) (i : Nat) (l : List Con) : Prop where
 len : l.length = i
 ok : ∀ c∈l,ConOk c true
 made : ∀ c∈l,in6 (c.kind : Int) c.f = true∧typeM c.f.op = 1
 kind : ∀ (j : Nat) (h1 : j < l.length) (h2 : j < items.length),l[j].kind = 1 + items[j].k % 3
theorem ConsI.nil (items : List ItemX) : ConsI items 0 [] := ⟨rfl,fun _ h => (by cases h),fun _ h => (by cases h),fun j h => absurd h (Nat.not_lt_zero j)⟩
theorem ConsI.snoc {items : List ItemX} {i : Nat} {l : List Con} (h : ConsI items i l) (hi : i < items.length) {c : Con} (hc : ConOk c true) (hm : in6 (c.kind : Int) c.f = true∧typeM c.f.op = 1) (hk : c.kind = 1 + items[i].k % 3) : ConsI items (i + 1) (l ++ [c]) := by
 refine ⟨by rw [List.length_append,List.length_singleton,h.len],fun x hx => (List.mem_append.1 hx).elim (h.ok x) fun e=>by rw [List.mem_singleton] at e; subst e; exact hc,fun x hx => (List.mem_append.1 hx).elim (h.made x) fun e=>by rw [List.mem_singleton] at e; subst e; exact hm,fun j h1 h2 => ?_⟩
 by_cases hj : j < l.length
 · rw [List.getElem_append_left hj]; exact h.kind j hj h2
 · have h3 : j = i := by rw [List.length_append, List.length_singleton, h.len] at h1; have := h.len; omega
   subst h3
   rw [List.getElem_append_right (by omega)]
   simp only [h.len,Nat.sub_self,List.getElem_cons_zero]
   exact hk
set_option maxRecDepth 100000 in
set_option maxHeartbeats 4000000 in
theorem consR_spec (items : List ItemX) (fl : Bool) (hi : ∀ x∈items,ItemOk x) : Spec Tryz.prog 17 [.vec (items.map itC) fl] fun r => ∃ l,ConsI items (min items.length 5) l∧r = .vec (l.map conR) false := by
 have hnl := items_len items
 refine spec_intro ok17 (Nat.le_of_ble_eq_true rfl) fun C hC => ?_
 repeat' (first | refine opsK_sub (subA_ownNil (k := 3) rfl 7 (by decide)) ?_ | (first|refine st ?_|(apply B<;>intro hb<;>try cases hb)))
 refine aw_loopR hC (fun (z : Nat × List Con) => z.1≤items.length∧z.1≤5∧ConsI items z.1 z.2) (fun z => 5 - z.1) 1 (fun z => [(0,.vec (items.map itC) fl),(3,.own 0),(4,.val (.int .i64 (z.1 : Int)))])
  (fun z => [(0,⟨7,z.2.map conR⟩)]) (by omega) (0,[]) ⟨Nat.zero_le _,Nat.zero_le _,ConsI.nil items⟩ (fun i=>i) (fun _ _=>rfl) injOn_id
  ⟨⟨_,rfl,.pure _ (items_pure items)⟩,⟨_,rfl,.own 0 (by decide)⟩,⟨_,rfl,.pure _ trivial⟩,trivial⟩ ⟨⟨by decide,_,rfl,.same _ trivial⟩,trivial⟩ ?_
 rintro ⟨i,l⟩ ⟨hil0,hi5,hI⟩
 simp only at hil0 hi5 hI
 have hinc : IntKind.i64.wrap ((i : Int) + 1) = ((i + 1 : Nat) : Int) := IntWalk.i64_in _ ⟨by omega,by omega⟩
 have finish : ∀ (h : i = min items.length 5),∃ l',ConsI items (min items.length 5) l'∧PV.vec (l.map conR) false = .vec (l'.map conR) false := fun h => ⟨l,h ▸ hI,rfl⟩
 (repeat'(first|refine at_dst 9 ?_|refine at_dstD 9 ?_|refine st ?_|(apply B<;>intro hb<;>try cases hb)))<;>try refine At.mk ?_
 refine opsK_bool rfl rfl rfl (fun hb=>?_) (fun hb=>?_)
 · have hil : i < items.length := by
    rw [hnl] at hb
    have := of_decide_eq_true hb; omega
   clear hb
   (repeat'(first|refine at_dst 12 ?_|refine at_dstD 12 ?_|refine st ?_|(apply B<;>intro hb<;>try cases hb)))<;>try refine At.mk ?_
   refine opsK_on rfl ?_
   refine opsK_bool rfl rfl rfl (fun hb=>?_) (fun hb=>?_)
   · have hi5' : i < 5 := by have := of_decide_eq_true hb; omega
     clear hb
     have hit := hi _ (List.getElem_mem hil)
     (repeat'(first|refine at_dst 18 ?_|refine at_dstD 18 ?_|refine st ?_|(apply B<;>intro hb<;>try cases hb)))<;>try refine At.mk ?_
     refine opsK_of (E_iaddr (xs := items) (g := itC) rfl rfl i rfl hil rfl) rfl rfl ?_
     have ei : ∀ {e : Env} {h : Heap} {x j : Operand} {n : Nat},ev e x = some (.vec (items.map itC) fl)→ev e j = some (.val (.int .i64 (i : Int)))→dEval (.iaddr 3 x j) e h n = some (.cp (itC items[i]),h) := fun h1 h2 => E_iaddr (xs := items) (g := itC) h1 h2 i rfl hil rfl
     have hsn : ∀ c,ConOk c true→(in6 (c.kind : Int) c.f = true∧typeM c.f.op = 1)→c.kind = 1 + items[i].k % 3→ConsI items (i + 1) (l ++ [c]) := fun c h1 h3 h2 => hI.snoc hil h1 h3 h2
     generalize items[i] = p at hit hsn ei ⊢
     obtain ⟨hp1,hp2⟩ := hit
     have hm3 := Nat.mod_lt p.k (show 0 < 3 by decide)
     have e1 : IntKind.i64.wrap ((p.k : Int).tmod 3) = ((p.k % 3 : Nat) : Int) := by rw [show ((p.k : Int).tmod 3) = ((p.k % 3 : Nat) : Int) from (Int.ofNat_tmod p.k 3).symm]; exact IntWalk.i64_in _ ⟨by omega,by omega⟩
     have e2 : IntKind.i64.wrap (1 + IntKind.i64.wrap ((p.k : Int).tmod 3)) = ((1 + p.k % 3 : Nat) : Int) := by rw [e1]; exact IntWalk.i64_in _ ⟨by omega,by omega⟩
     (repeat'(first|refine at_dst 23 ?_|refine at_dstD 23 ?_|refine st ?_|(apply B<;>intro hb<;>try cases hb)))<;>try refine At.mk ?_
     refine opsK_int rfl rfl rfl e2 ?_
     (repeat'(first|refine at_dst 27 ?_|refine at_dstD 27 ?_|refine st ?_|(apply B<;>intro hb<;>try cases hb)))<;>try refine At.mk ?_
     refine dK_of (ei rfl rfl) rfl rfl ?_
     (repeat'(first|refine at_dst 29 ?_|refine at_dstD 29 ?_|refine st ?_|(apply B<;>intro hb<;>try cases hb)))<;>try refine At.mk ?_
     refine dK_of rfl rfl rfl ?_
     (repeat'(first|refine at_dst 32 ?_|refine at_dstD 32 ?_|refine st ?_|(apply B<;>intro hb<;>try cases hb)))<;>try refine At.mk ?_
     refine dK_of (E_int rfl hinc) rfl rfl ?_
     refine dK_eq (names_spec (i + 1) (by omega)) rfl rfl rfl ⟨trivial,trivial⟩ ?_
     have hnm : i < (nmL (i + 1)).length := by simp [nmL]
     (repeat'(first|refine at_dst 35 ?_|refine at_dstD 35 ?_|refine st ?_|(apply B<;>intro hb<;>try cases hb)))<;>try refine At.mk ?_
     refine dK_of (E_iaddr (xs := nmL (i + 1)) (g := strC) rfl rfl i rfl hnm rfl) rfl rfl ?_
     rw [nmL_get]
     obtain ⟨hv1,hv2⟩ := nmS_valid hi5'
     generalize nmS (i + 1) = nm at hv1 hv2 ⊢
     (repeat'(first|refine at_dst 39 ?_|refine at_dstD 39 ?_|refine st ?_|(apply B<;>intro hb<;>try cases hb)))<;>try refine At.mk ?_
     refine dK_of (ei rfl rfl) rfl rfl ?_
     (repeat'(first|refine at_dst 43 ?_|refine at_dstD 43 ?_|refine st ?_|(apply B<;>intro hb<;>try cases hb)))<;>try refine At.mk ?_
     refine dK_call rfl rfl (.inl rfl) (make18_spec p.bs hp2 p.fb ((1 + p.k % 3 : Nat) : Int)) ⟨bys_pure p.bs,trivial,trivial,trivial⟩ ?_
     rintro r ⟨f,wf,tf,df,sf,rfl,i6⟩
     have hok : ConOk (Con.mk p.en (1 + p.k % 3) nm f) true := ⟨⟨by show 1≤1 + p.k % 3; omega,by show 1 + p.k % 3≤3; omega⟩,hv1,hv2,df,sf,wf⟩
     have hnew := hsn _ hok ⟨i6,tf⟩ rfl
     (repeat'(first|refine at_dst 46 ?_|refine at_dstD 46 ?_|refine st ?_|(apply B<;>intro hb<;>try cases hb)))<;>try refine At.mk ?_
     have happ : l.map conR ++ [conR (Con.mk p.en (1 + p.k % 3) nm f)] = (l ++ [(Con.mk p.en (1 + p.k % 3) nm f)]).map conR := by rw [List.map_append]; rfl
     refine dK_of (E_append (k := 0) (m := [conR (Con.mk p.en (1 + p.k % 3) nm f)]) (fl := true) (b := ⟨7,l.map conR⟩) rfl rfl rfl (fun q hq=>by rw [List.mem_singleton] at hq; subst hq; rfl) rfl (by
      show ((l.map conR).length + 1) * 96≤_
      rw [consR_len,hI.len];omega)) rfl rfl ?_
     simp only
     rw [happ]
     (refine go ?_;repeat' (apply B<;>intro hb<;>try cases hb))
     exact ⟨(i + 1,l ++ [(Con.mk p.en (1 + p.k % 3) nm f)]),mv 0 23,⟨hil,hi5',hnew⟩,by simp only; omega,fun j hj => absurd hj (Nat.not_lt_zero _),injOn_of rfl,
      ⟨⟨_,rfl,.pure _ (items_pure items)⟩,⟨_,rfl,.own 0 (by decide)⟩,⟨_,by show some _ = some _; rw [hinc],.pure _ trivial⟩,trivial⟩,⟨⟨by decide,_,rfl,.same _ (cons_pureR _)⟩,trivial⟩⟩
   · have hi5' : i = 5 := by have := of_decide_eq_false hb; omega
     clear hb
     have hf := finish (by omega)
     (repeat'(first|refine at_dst 47 ?_|refine at_dstD 47 ?_|refine st ?_|(apply B<;>intro hb<;>try cases hb)))<;>try refine At.mk ?_
     refine opsK_sub (subA_freeze (k := 3) rfl rfl (cons_pureR _)) ?_
     (refine go ?_;repeat' (apply B<;>intro hb<;>try cases hb))
     exact ret_ok rfl (cons_pureR _) hf
 · have hil : i = items.length := by
    rw [hnl] at hb
    have := of_decide_eq_false hb; omega
   clear hb
   have hf := finish (by omega)
   (repeat'(first|refine at_dst 47 ?_|refine at_dstD 47 ?_|refine st ?_|(apply B<;>intro hb<;>try cases hb)))<;>try refine At.mk ?_
   refine opsK_sub (subA_freeze (k := 3) rfl rfl (cons_pureR _)) ?_
   (refine go ?_;repeat' (apply B<;>intro hb<;>try cases hb))
   exact ret_ok rfl (cons_pureR _) hf
set_option maxRecDepth 100000 in
set_option maxHeartbeats 4000000 in
theorem consL_spec (l : List Con) (fl : Bool) (hl : ∀ c∈l,(1≤c.kind∧c.kind≤3)∧Wf c.f∧c.f.depth≤4) (hlen : l.length≤1000) : Spec Tryz.prog 16 [.vec (l.map conR) fl] (· = .vec (l.map conP) false) := by
 have hnl := consR_len l
 refine spec_intro ok16 (Nat.le_of_ble_eq_true rfl) fun C hC => ?_
 repeat' (first | refine opsK_sub (subA_ownNil (k := 3) rfl 7 (by decide)) ?_ | (first|refine st ?_|(apply B<;>intro hb<;>try cases hb)))
 refine aw_loopR hC (fun i => i≤l.length) (fun i => l.length - i) 1 (fun i => [(3,.own 0),(6,.vec (l.map conR) fl),(7,.val (.int .i64 l.length)),(8,.val (.int .i64 (i : Int)))])
  (fun i => [(0,⟨7,(l.take i).map conP⟩)]) (by omega) 0 (Nat.zero_le _) (fun i=>i) (fun _ _=>rfl) injOn_id
  ⟨⟨_,rfl,.own 0 (by decide)⟩,⟨_,rfl,.pure _ (cons_pureR l)⟩,⟨_,by rw [← hnl]; rfl,.pure _ trivial⟩,⟨_,rfl,.pure _ trivial⟩,trivial⟩ ⟨⟨by decide,_,rfl,.same _ trivial⟩,trivial⟩ ?_
 intro i hi
 have hinc : IntKind.i64.wrap ((i : Int) + 1) = ((i + 1 : Nat) : Int) := IntWalk.i64_in _ ⟨by omega,by omega⟩
 have hcl : ((l.take i).map conP).length = i := by rw [List.length_map,List.length_take]; omega
 (repeat'(first|refine at_dst 9 ?_|refine at_dstD 9 ?_|refine st ?_|(apply B<;>intro hb<;>try cases hb)))<;>try refine At.mk ?_
 refine opsK_bool rfl rfl rfl (fun hb=>?_) (fun hb=>?_)
 · have hil : i < l.length := by have := of_decide_eq_true hb; omega
   have htk : l.take (i + 1) = l.take i ++ [l[i]] := take_snocC hil
   have hc := hl _ (List.getElem_mem hil)
   clear hb
   (refine go ?_;repeat' (apply B<;>intro hb<;>try cases hb))
   refine opsK_of (E_iaddr (xs := l) (g := conR) rfl rfl i rfl hil rfl) rfl rfl ?_
   generalize l[i] = c at htk hc ⊢
   obtain ⟨hk,hwf,hdp⟩ := hc
   have happ : (l.take i).map conP ++ [conP c] = (l.take (i + 1)).map conP := by rw [htk,List.map_append]; rfl
   have hw8 : IntKind.u8.wrap (c.kind : Int) = (c.kind : Int) := IntWalk.u8_in _ ⟨by omega,by omega⟩
   (repeat'(first|refine at_dst 14 ?_|refine at_dstD 14 ?_|refine st ?_|(apply B<;>intro hb<;>try cases hb)))<;>try refine At.mk ?_
   refine dK_of rfl rfl rfl ?_
   (repeat'(first|refine at_dst 17 ?_|refine at_dstD 17 ?_|refine st ?_|(apply B<;>intro hb<;>try cases hb)))<;>try refine At.mk ?_
   refine dK_of (E_int rfl hw8) rfl rfl ?_
   (repeat'(first|refine at_dst 22 ?_|refine at_dstD 22 ?_|refine st ?_|(apply B<;>intro hb<;>try cases hb)))<;>try refine At.mk ?_
   refine dK_eq (formula_spec 4 c.f (hwf.nice 4 c.f hdp)) rfl rfl rfl ⟨fC_pure _ _,trivial⟩ ?_
   (repeat'(first|refine at_dst 25 ?_|refine at_dstD 25 ?_|refine st ?_|(apply B<;>intro hb<;>try cases hb)))<;>try refine At.mk ?_
   refine dK_of (E_append (k := 0) (m := [conP c]) (fl := true) (b := ⟨7,(l.take i).map conP⟩) rfl rfl rfl (fun q hq=>by rw [List.mem_singleton] at hq; subst hq; rfl) rfl (by
    show (((l.take i).map conP).length + 1) * 88≤_
    rw [hcl];omega)) rfl rfl ?_
   simp only
   rw [happ]
   (refine go ?_;repeat' (apply B<;>intro hb<;>try cases hb))
   exact ⟨i + 1,mv 0 15,hil,by omega,fun j hj => absurd hj (Nat.not_lt_zero _),injOn_of rfl,
    ⟨⟨_,rfl,.own 0 (by decide)⟩,⟨_,rfl,.pure _ (cons_pureR l)⟩,⟨_,rfl,.pure _ trivial⟩,⟨_,by show some _ = some _; rw [hinc],.pure _ trivial⟩,trivial⟩,⟨⟨by decide,_,rfl,.same _ (cons_pureP _)⟩,trivial⟩⟩
 · have hil : i = l.length := by have := of_decide_eq_false hb; omega
   subst hil
   rw [List.take_length]
   clear hb
   (repeat'(first|refine at_dst 27 ?_|refine at_dstD 27 ?_|refine st ?_|(apply B<;>intro hb<;>try cases hb)))<;>try refine At.mk ?_
   refine opsK_sub (subA_freeze (k := 3) rfl rfl (cons_pureP _)) ?_
   (refine go ?_;repeat' (apply B<;>intro hb<;>try cases hb))
   exact ret_ok rfl (cons_pureP _) rfl
end Go.Proofs.YtcoehdmpjflmlaaGreatDoor

namespace Go.Proofs.YtcoehdmpjflmlaaGreatDoor
open Go.RowKit
set_option linter.unusedVariables false
attribute [local irreducible] aw opsK dK

theorem few1_spec (v : Int) : Spec Tryz.prog 58 [.val (.int .i64 v)] (· = .agg (fC .u8 (.mk 1 v [] []))) := by
 refine spec_intro ok58 (Nat.le_of_ble_eq_true rfl) fun C hC => ?_
 (refine go ?_;repeat' (apply B<;>intro hb<;>try cases hb))
 exact ret_low rfl (fC_pure .u8 (.mk 1 v [] [])) rfl
theorem few2_spec (v : Int) : Spec Tryz.prog 59 [.val (.int .i64 v)] (· = .agg (fC .u8 (.mk 6 0 [v] []))) := by
 refine spec_intro ok59 (Nat.le_of_ble_eq_true rfl) fun C hC => ?_
 (refine go ?_;repeat' (apply B<;>intro hb<;>try cases hb))
 exact ret_low rfl (fC_pure .u8 (.mk 6 0 [v] [])) rfl
theorem few3_spec (v : Int) : Spec Tryz.prog 60 [.val (.int .i64 v)] (· = .agg (fC .u8 (.mk 4 0 [v] []))) := by
 refine spec_intro ok60 (Nat.le_of_ble_eq_true rfl) fun C hC => ?_
 (refine go ?_;repeat' (apply B<;>intro hb<;>try cases hb))
 exact ret_low rfl (fC_pure .u8 (.mk 4 0 [v] [])) rfl

def few0 : Fm := .mk 11 0 [] [.mk 5 0 [1,2] [],.mk 1 1 [] []]
def few1 : Fm := .mk 10 0 [] [.mk 4 0 [1] [],.mk 4 0 [2] []]
def few2 : Fm := .mk 12 0 [] [.mk 16 0 [] [.mk 6 0 [1] [],.mk 6 0 [2] []],.mk 1 3 [] []]
theorem fewL_pure : pureLL [fC .u8 few0,fC .u8 few1,fC .u8 few2] := ⟨fC_pure _ _,fC_pure _ _,fC_pure _ _,trivial⟩
theorem few_spec : Spec Tryz.prog 26 [] (· = .vec [fC .u8 few0,fC .u8 few1,fC .u8 few2] false) := by
 refine spec_intro ok26 (Nat.le_of_ble_eq_true rfl) fun C hC => ?_
 (refine go ?_;repeat' (apply B<;>intro hb<;>try cases hb))
 refine opsK_eq (few2_spec 1) rfl rfl rfl ⟨trivial,trivial⟩ rfl ?_
 (refine go ?_;repeat' (apply B<;>intro hb<;>try cases hb))
 refine opsK_eq (few2_spec 2) rfl rfl rfl ⟨trivial,trivial⟩ rfl ?_
 (refine go ?_;repeat' (apply B<;>intro hb<;>try cases hb))
 refine dK_eq (few1_spec 1) rfl rfl rfl ⟨trivial,trivial⟩ ?_
 (refine go ?_;repeat' (apply B<;>intro hb<;>try cases hb))
 refine dK_eq (few3_spec 1) rfl rfl rfl ⟨trivial,trivial⟩ ?_
 (refine go ?_;repeat' (apply B<;>intro hb<;>try cases hb))
 refine dK_eq (few3_spec 2) rfl rfl rfl ⟨trivial,trivial⟩ ?_
 (refine go ?_;repeat' (apply B<;>intro hb<;>try cases hb))
 refine dK_eq (few1_spec 3) rfl rfl rfl ⟨trivial,trivial⟩ ?_
 (refine go ?_;repeat' (apply B<;>intro hb<;>try cases hb))
 exact ret_low rfl fewL_pure rfl

theorem holds_at (N : Nat) (ms : List Int) (fl : Bool) (f : Fm) (hd : f.depth≤1000) (hsz : f.size≤1099511627776) (b : Bool) (hb : (decide (typeOfE f = 0) && decide (typeOfT f = 1) && decide (evM N ms f = 1)) = b) : Spec Tryz.prog 27 [.agg (fC .u8 f),setN N,.vec (nums ms) fl] (· = .val (.bool b)) := by
 subst hb
 exact holds_spec N ms fl f hd hsz

theorem awake_spec : Spec Tryz.prog 5 [] (· = .val (.bool true)) := by
 refine spec_intro ok5 (Nat.le_of_ble_eq_true rfl) fun C hC => ?_
 (refine go ?_;repeat' (apply B<;>intro hb<;>try cases hb))
 refine opsK_eq few_spec rfl rfl rfl trivial rfl ?_
 (refine go ?_;repeat' (apply B<;>intro hb<;>try cases hb))
 refine dK_eq (of_spec [1,2] true) rfl rfl rfl ⟨nums_pure _,trivial⟩ ?_
 refine dK_eq (holds_at _ [] true few0 (by decide) (by decide) false (by decide)) rfl rfl rfl ⟨fC_pure _ _,setN_pure _,nums_pure _,trivial⟩ ?_
 (refine go ?_;repeat' (apply B<;>intro hb<;>try cases hb))
 refine dK_eq (of_spec [1,3] true) rfl rfl rfl ⟨nums_pure _,trivial⟩ ?_
 (refine go ?_;repeat' (apply B<;>intro hb<;>try cases hb))
 refine dK_eq (holds_at _ [] true few0 (by decide) (by decide) true (by decide)) rfl rfl rfl ⟨fC_pure _ _,setN_pure _,nums_pure _,trivial⟩ ?_
 (refine go ?_;repeat' (apply B<;>intro hb<;>try cases hb))
 refine dK_eq (of_spec [1] true) rfl rfl rfl ⟨nums_pure _,trivial⟩ ?_
 (refine go ?_;repeat' (apply B<;>intro hb<;>try cases hb))
 refine dK_eq (holds_at _ [] true few1 (by decide) (by decide) false (by decide)) rfl rfl rfl ⟨fC_pure _ _,setN_pure _,nums_pure _,trivial⟩ ?_
 (refine go ?_;repeat' (apply B<;>intro hb<;>try cases hb))
 refine dK_eq (of_spec [] true) rfl rfl rfl ⟨nums_pure _,trivial⟩ ?_
 (refine go ?_;repeat' (apply B<;>intro hb<;>try cases hb))
 refine dK_eq (holds_at _ [] true few1 (by decide) (by decide) true (by decide)) rfl rfl rfl ⟨fC_pure _ _,setN_pure _,nums_pure _,trivial⟩ ?_
 (refine go ?_;repeat' (apply B<;>intro hb<;>try cases hb))
 refine dK_eq (of_spec [] true) rfl rfl rfl ⟨nums_pure _,trivial⟩ ?_
 (refine go ?_;repeat' (apply B<;>intro hb<;>try cases hb))
 refine dK_eq (holds_at _ [0,1,1] true few2 (by decide) (by decide) true (by decide)) rfl rfl rfl ⟨fC_pure _ _,setN_pure _,nums_pure _,trivial⟩ ?_
 (refine go ?_;repeat' (apply B<;>intro hb<;>try cases hb))
 exact ret_ok rfl trivial rfl
end Go.Proofs.YtcoehdmpjflmlaaGreatDoor

namespace Go.Proofs.YtcoehdmpjflmlaaGreatDoor
open Go.RowKit
set_option linter.unusedVariables false

def intT (P : Program) (t : TypeId) : Option IntKind := match P.underlying t with | some (.int k) => some k | _ => none
def boolT (P : Program) (t : TypeId) : Bool := match P.underlying t with | some .bool => true | _ => false
def sliceT (P : Program) (t : TypeId) : Option TypeId := match P.underlying t with | some (.slice e) => some e | _ => none
def structT (P : Program) (t : TypeId) : Option Nat := match P.underlying t with | some (.struct _) => some (P.cellsOf t) | _ => none
def fieldT (P : Program) (t : TypeId) (i : Nat) : Option (Nat × TypeId × Nat) := match P.underlying t with | some (.struct fs) => (fs[i]?).map fun f => (f.offset,f.type,P.cellsOf f.type) | _ => none

section
variable {P : Program} {t : TypeId} {n : Nat} {ps : List PV} {p : PV}

theorem intT_some {k : IntKind} (h : intT P t = some k) : P.underlying t = some (.int k) := by
 unfold intT at h
 split at h
 · rename_i k' hu; cases h; exact hu
 · cases h
theorem boolT_some (h : boolT P t = true) : P.underlying t = some .bool := by
 unfold boolT at h
 split at h
 · rename_i hu; exact hu
 · cases h
theorem sliceT_some {e : TypeId} (h : sliceT P t = some e) : P.underlying t = some (.slice e) := by
 unfold sliceT at h
 split at h
 · rename_i k' hu; cases h; exact hu
 · cases h
theorem structT_some {k : Nat} (h : structT P t = some k) : ∃ fs,P.underlying t = some (.struct fs)∧P.cellsOf t = k := by
 unfold structT at h
 split at h
 · rename_i fs hu; cases h; exact ⟨fs,hu,rfl⟩
 · cases h
theorem fieldT_some {i off sz : Nat} {ty : TypeId} (h : fieldT P t i = some (off,ty,sz)) : ∃ fs f,P.underlying t = some (.struct fs)∧f∈fs.toList∧f.offset = off∧f.type = ty∧P.cellsOf f.type = sz := by
 unfold fieldT at h
 split at h
 · rename_i fs hu
   cases hf : fs[i]? with
   | none => rw [hf] at h; cases h
   | some f =>
     rw [hf] at h
     simp only [Option.map_some,Option.some.injEq,Prod.mk.injEq] at h
     exact ⟨fs,f,hu,by
      have := (Array.getElem?_eq_some_iff.1 hf)
      obtain ⟨hi,rfl⟩ := this
      simp,h.1,h.2.1,h.2.2⟩
 · cases h

theorem shape_int {k : IntKind} (h : Shape P n t ps) (hk : intT P t = some k) : ∃ m,(Lit.int k m).wf = true∧ps = [.val (.int k m)] := by
 cases n with
 | zero => exact h.elim
 | succ n => simpa only [Shape,intT_some hk] using h
theorem shape_bool (h : Shape P n t ps) (hk : boolT P t = true) : ∃ b,ps = [.val (.bool b)] := by
 cases n with
 | zero => exact h.elim
 | succ n => simpa only [Shape,boolT_some hk] using h
theorem shape_slice {e : TypeId} (h : Shape P n t ps) (hk : sliceT P t = some e) : ∃ n' ll fl,ll.length≤maxVec∧(∀ l∈ll,Shape P n' e l)∧ps = [.vec ll fl] := by
 cases n with
 | zero => exact h.elim
 | succ n =>
   have : ∃ ll fl,ll.length≤maxVec∧(∀ l∈ll,Shape P n e l)∧ps = [.vec ll fl] := by simpa only [Shape,sliceT_some hk] using h
   obtain ⟨ll,fl,h⟩ := this
   exact ⟨n,ll,fl,h⟩
theorem shape_len {k : Nat} (h : Shape P n t ps) (hk : structT P t = some k) : ps.length = k := by
 obtain ⟨fs,hu,rfl⟩ := structT_some hk
 cases n with
 | zero => exact h.elim
 | succ n =>
   have : ps.length = P.cellsOf t∧∀ f∈fs.toList,Shape P n f.type ((ps.drop f.offset).take (P.cellsOf f.type)) := by simpa only [Shape,hu] using h
   exact this.1
theorem shape_field {i off sz : Nat} {ty : TypeId} (h : Shape P n t ps) (hk : fieldT P t i = some (off,ty,sz)) : ∃ n',Shape P n' ty ((ps.drop off).take sz) := by
 obtain ⟨fs,f,hu,hf,rfl,rfl,rfl⟩ := fieldT_some hk
 cases n with
 | zero => exact h.elim
 | succ n =>
   have : ps.length = P.cellsOf t∧∀ f∈fs.toList,Shape P n f.type ((ps.drop f.offset).take (P.cellsOf f.type)) := by simpa only [Shape,hu] using h
   exact ⟨n,this.2 f hf⟩

theorem shapeV_slice {e : TypeId} (h : ShapeV P t p) (hk : sliceT P t = some e) : ∃ n' ll fl,ll.length≤maxVec∧(∀ l∈ll,Shape P n' e l)∧p = .vec ll fl := by
 obtain ⟨n,h⟩ := h
 rw [sliceT_some hk] at h
 obtain ⟨n',ll,fl,h1,h2,h3⟩ := shape_slice (show Shape P n t [p] from h) hk
 exact ⟨n',ll,fl,h1,h2,by simpa using h3⟩
theorem shapeV_struct {k : Nat} (h : ShapeV P t p) (hk : structT P t = some k) : ∃ n ps,p = .agg ps∧Shape P n t ps := by
 obtain ⟨n,h⟩ := h
 obtain ⟨fs,hu,_⟩ := structT_some hk
 rw [hu] at h
 obtain ⟨ps,h1,h2⟩ := h
 exact ⟨n,ps,h1,h2⟩

end
end Go.Proofs.YtcoehdmpjflmlaaGreatDoor
