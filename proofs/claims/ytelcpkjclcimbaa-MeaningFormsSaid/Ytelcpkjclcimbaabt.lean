/-
  The package bits: what its functions answer on abstract values. Sets are numbers, bit i for the member i. No statement of the seat is proved here.
-/
import Derived.Test.YtelcpkjclcimbaaIrf
import Derived.Test.YtelcpkjclcimbaaIrt
import Derived.IntWalk
import Derived.WalkSmall
namespace Go.Proofs.Ytelcpkjclcimbaa
open Go.RowKit
set_option linter.unusedVariables false
attribute [local irreducible] aw opsK dK

def nums (l : List Int) : List (List PV) := l.map fun x => [.val (.int .i64 x)]
def words (l : List Nat) : List (List PV) := l.map fun (x : Nat) => [.val (.int .u64 (x : Int))]
def setP (l : List Nat) : PV := .agg [.vec (words l) false]
theorem pureLL_map {α : Type} (l : List α) (g : α → List PV) (hg : ∀ x ∈ l, pureL (g x)) : pureLL (l.map g) := by
  refine (innLL_iff _ _).2 fun p hp => ?_; obtain ⟨x, hx, rfl⟩ := List.mem_map.1 hp; exact hg x hx
theorem setP_pure (l : List Nat) : (setP l).pure := ⟨pureLL_map _ _ fun _ _ => ⟨trivial, trivial⟩, trivial⟩
theorem words_pure (l : List Nat) : pureLL (words l) := pureLL_map _ _ fun _ _ => ⟨trivial, trivial⟩

/-- The numbers without the zeros behind. -/
def IsTrim (l : List Nat) (r : PV) : Prop := ∃ k, k ≤ l.length ∧ (∀ j, k ≤ j → l.getD j 0 = 0) ∧ (k = 0 ∨ l.getD (k - 1) 0 ≠ 0) ∧ r = setP (l.take k)

theorem wrap_nat (k : Nat) (h : k ≤ 9223372036854775807) : IntKind.i64.wrap (k : Int) = k := IntWalk.i64_in _ ⟨by omega, by omega⟩

theorem trim_spec (l : List Nat) : Spec Try.prog 27 [.vec (words l) false] (IsTrim l) := by
  refine spec_intro ok27 (Nat.le_of_ble_eq_true rfl) fun C hC => ?_
  refine aw_len (k := 0) rfl fun hmax => ?_
  have hlm : l.length ≤ maxVec := by simpa [words] using hmax
  refine aw_seq ?_
  refine aw_region ?_
  repeat' (first
    | refine aw_seq ?_
    | refine aw_region ?_
    | refine aw_draw [] ?_
    | refine opsK_done ?_
    | refine opsK_on rfl ?_
    | refine opsK_off rfl ?_
    | (refine opsK_bool rfl rfl rfl (fun hb => ?_) (fun hb => ?_) <;> try cases hb)
    | refine opsK_of rfl rfl rfl ?_
    | refine opsK_new rfl rfl rfl ?_
    | refine dK_done ?_
    | refine dK_on rfl ?_
    | refine dK_off ⟨_, rfl, nofun⟩ ?_
    | (refine dK_bool rfl rfl rfl (fun hb => ?_) (fun hb => ?_) <;> try cases hb)
    | refine dK_of rfl rfl rfl ?_
    | refine aw_condT rfl ?_
    | refine aw_condF rfl ?_
    | (refine aw_cond rfl (fun hb => ?_) (fun hb => ?_) <;> try cases hb)
    | refine aw_block ?_
    | refine aw_skip ?_
    | refine aw_exit ?_
    | refine aw_ret ?_)
  refine aw_loopE (fun k => k ≤ l.length ∧ ∀ j, k ≤ j → l.getD j 0 = 0) id (fun k => [(0, .vec (words (l.take k)) false), (2, .ptr 0 0 0)]) l.length ⟨Nat.le_refl _, fun j hj => by simp [List.getD_eq_getElem?_getD, hj]⟩ ⟨by rw [List.take_length]; rfl, rfl, trivial⟩ ?_
  rintro k ⟨hk, hzero⟩
  have hlen : (words (l.take k)).length = k := by simp [words, hk]
  have hkm : k ≤ maxVec := by omega
  repeat' (first
    | refine aw_seq ?_
    | refine aw_region ?_
    | refine aw_draw [] ?_
    | refine opsK_done ?_
    | refine opsK_on rfl ?_
    | refine opsK_off rfl ?_
    | (refine opsK_bool rfl rfl rfl (fun hb => ?_) (fun hb => ?_) <;> try cases hb)
    | refine opsK_of rfl rfl rfl ?_
    | refine opsK_new rfl rfl rfl ?_
    | refine dK_done ?_
    | refine dK_on rfl ?_
    | refine dK_off ⟨_, rfl, nofun⟩ ?_
    | (refine dK_bool rfl rfl rfl (fun hb => ?_) (fun hb => ?_) <;> try cases hb)
    | refine dK_of rfl rfl rfl ?_
    | refine aw_condT rfl ?_
    | refine aw_condF rfl ?_
    | (refine aw_cond rfl (fun hb => ?_) (fun hb => ?_) <;> try cases hb)
    | refine aw_block ?_
    | refine aw_skip ?_
    | refine aw_exit ?_
    | refine aw_ret ?_)
  · -- the last word
    have hpos : 0 < k := by simpa [hlen] using hb
    have hsub : IntKind.i64.wrap (((words (l.take k)).length : Int) - 1) = ((k - 1 : Nat) : Int) := by
      rw [hlen, show (k : Int) - 1 = ((k - 1 : Nat) : Int) by omega]; exact wrap_nat _ (by simp only [maxVec] at hkm; omega)
    refine opsK_iaddr (xs := l.take k) rfl rfl (k - 1) hsub (by simp; omega) rfl rfl ?_
    have hget : (l.take k)[k - 1]'(by simp; omega) = l.getD (k - 1) 0 := by
      simp [List.getD_eq_getElem?_getD, show k - 1 < l.length by omega]
    rw [hget]
    repeat' (first
      | refine aw_seq ?_
      | refine aw_region ?_
      | refine aw_draw [] ?_
      | refine opsK_done ?_
      | refine opsK_on rfl ?_
      | refine opsK_off rfl ?_
      | (refine opsK_bool rfl rfl rfl (fun hb => ?_) (fun hb => ?_) <;> try cases hb)
      | refine opsK_of rfl rfl rfl ?_
      | refine opsK_new rfl rfl rfl ?_
      | refine dK_done ?_
      | refine dK_on rfl ?_
      | refine dK_off ⟨_, rfl, nofun⟩ ?_
      | (refine dK_bool rfl rfl rfl (fun hb => ?_) (fun hb => ?_) <;> try cases hb)
      | refine dK_of rfl rfl rfl ?_
      | refine aw_condT rfl ?_
      | refine aw_condF rfl ?_
      | (refine aw_cond rfl (fun hb => ?_) (fun hb => ?_) <;> try cases hb)
      | refine aw_block ?_
      | refine aw_skip ?_
      | refine aw_exit ?_
      | refine aw_ret ?_)
    · refine opsK_slc (xs := l.take k) rfl 0 (k - 1) rfl (by show some _ = some _; rw [hsub]) (by omega) (by simp; omega) (fun _ => rfl) rfl ?_
      repeat' (first
        | refine aw_seq ?_
        | refine aw_region ?_
        | refine aw_draw [] ?_
        | refine opsK_done ?_
        | refine opsK_on rfl ?_
        | refine opsK_off rfl ?_
        | (refine opsK_bool rfl rfl rfl (fun hb => ?_) (fun hb => ?_) <;> try cases hb)
        | refine opsK_of rfl rfl rfl ?_
        | refine opsK_new rfl rfl rfl ?_
        | refine dK_done ?_
        | refine dK_on rfl ?_
        | refine dK_off ⟨_, rfl, nofun⟩ ?_
        | (refine dK_bool rfl rfl rfl (fun hb => ?_) (fun hb => ?_) <;> try cases hb)
        | refine dK_of rfl rfl rfl ?_
        | refine aw_condT rfl ?_
        | refine aw_condF rfl ?_
        | (refine aw_cond rfl (fun hb => ?_) (fun hb => ?_) <;> try cases hb)
        | refine aw_block ?_
        | refine aw_skip ?_
        | refine aw_exit ?_
        | refine aw_ret ?_)
      refine ⟨k - 1, ⟨by omega, fun j hj => ?_⟩, by simp; omega, rfl, rfl, ⟨?_, rfl, trivial⟩⟩
      · by_cases hjk : j = k - 1
        · subst hjk; simpa using hb
        · exact hzero j (by omega)
      · show some (PV.vec (words (((l.take k).take (k - 1)).drop 0)) false) = _
        rw [List.drop_zero, List.take_take, Nat.min_eq_left (by omega)]
    · refine ret_ok rfl (setP_pure (l.take k)) ⟨k, hk, hzero, .inr ?_, rfl⟩
      intro h0
      rw [h0] at hb
      simp at hb
  · refine ret_ok rfl (setP_pure (l.take k)) ⟨k, hk, hzero, .inl ?_, rfl⟩
    simpa [hlen] using hb

theorem word_spec (l : List Nat) (k : Nat) : Spec Try.prog 46 [setP l, .val (.int .i64 k)] (· = .val (.int .u64 (l.getD k 0 : Nat))) := by
  refine spec_intro ok46 (Nat.le_of_ble_eq_true rfl) fun C hC => ?_
  refine aw_seq ?_
  refine aw_region ?_
  refine opsK_ofAlt rfl rfl rfl ?_
  repeat' (first
    | refine aw_seq ?_
    | refine aw_region ?_
    | refine aw_draw [] ?_
    | refine opsK_done ?_
    | refine opsK_on rfl ?_
    | refine opsK_off rfl ?_
    | (refine opsK_bool rfl rfl rfl (fun hb => ?_) (fun hb => ?_) <;> try cases hb)
    | refine opsK_of rfl rfl rfl ?_
    | refine opsK_new rfl rfl rfl ?_
    | refine dK_done ?_
    | refine dK_on rfl ?_
    | refine dK_off ⟨_, rfl, nofun⟩ ?_
    | (refine dK_bool rfl rfl rfl (fun hb => ?_) (fun hb => ?_) <;> try cases hb)
    | refine dK_of rfl rfl rfl ?_
    | refine aw_condT rfl ?_
    | refine aw_condF rfl ?_
    | (refine aw_cond rfl (fun hb => ?_) (fun hb => ?_) <;> try cases hb)
    | refine aw_block ?_
    | refine aw_skip ?_
    | refine aw_exit ?_
    | refine aw_ret ?_)
  · have hk : k < l.length := by simpa [words] using hb
    refine opsK_iaddr (xs := l) rfl rfl k rfl hk rfl rfl ?_
    repeat' (first
      | refine aw_seq ?_
      | refine aw_region ?_
      | refine aw_draw [] ?_
      | refine opsK_done ?_
      | refine opsK_on rfl ?_
      | refine opsK_off rfl ?_
      | (refine opsK_bool rfl rfl rfl (fun hb => ?_) (fun hb => ?_) <;> try cases hb)
      | refine opsK_of rfl rfl rfl ?_
      | refine opsK_new rfl rfl rfl ?_
      | refine dK_done ?_
      | refine dK_on rfl ?_
      | refine dK_off ⟨_, rfl, nofun⟩ ?_
      | (refine dK_bool rfl rfl rfl (fun hb => ?_) (fun hb => ?_) <;> try cases hb)
      | refine dK_of rfl rfl rfl ?_
      | refine aw_condT rfl ?_
      | refine aw_condF rfl ?_
      | (refine aw_cond rfl (fun hb => ?_) (fun hb => ?_) <;> try cases hb)
      | refine aw_block ?_
      | refine aw_skip ?_
      | refine aw_exit ?_
      | refine aw_ret ?_)
    exact ret_ok rfl trivial (by simp [List.getD_eq_getElem?_getD, hk])
  · have hk : l.length ≤ k := by simpa [words] using hb
    exact ret_ok rfl trivial (by simp [List.getD_eq_getElem?_getD, hk, pvOf])

/-! ### Numbers of 64 bits, one after the other -/
def ofW : List Nat → Nat
  | [] => 0
  | x :: r => x + 18446744073709551616 * ofW r
def Words (l : List Nat) : Prop := ∀ x ∈ l, x < 18446744073709551616
theorem Words.getD {l : List Nat} (h : Words l) (k : Nat) : l.getD k 0 < 18446744073709551616 := by
  rw [List.getD_eq_getElem?_getD]
  cases hk : l[k]? with
  | none => simp
  | some x => exact h x (List.mem_of_getElem? hk)
theorem ofW_testBit : ∀ {l : List Nat}, Words l → ∀ i, (ofW l).testBit i = (l.getD (i / 64) 0).testBit (i % 64)
  | [], _, i => by simp [ofW]
  | x :: r, h, i => by
    have hx : x < 2 ^ 64 := h x (by simp)
    have hr : Words r := fun y hy => h y (by simp [hy])
    have he : ofW (x :: r) = 2 ^ 64 * ofW r + x := by simp only [ofW]; omega
    rw [he, Nat.testBit_two_pow_mul_add _ hx]
    by_cases hi : i < 64
    · rw [if_pos hi, Nat.div_eq_of_lt hi, Nat.mod_eq_of_lt hi]; rfl
    · rw [if_neg hi, ofW_testBit hr]
      have h1 : i / 64 = (i - 64) / 64 + 1 := by omega
      have h2 : (i - 64) % 64 = i % 64 := by omega
      rw [h1, h2]
      rfl
theorem ofW_zero : ∀ {l : List Nat}, (∀ j, l.getD j 0 = 0) → ofW l = 0
  | [], _ => rfl
  | x :: r, h => by
    have h0 : x = 0 := h 0
    have hr : ofW r = 0 := ofW_zero fun j => h (j + 1)
    simp [ofW, h0, hr]
theorem ofW_take : ∀ {l : List Nat} {k : Nat}, (∀ j, k ≤ j → l.getD j 0 = 0) → ofW (l.take k) = ofW l
  | [], k, _ => by simp
  | x :: r, 0, h => by simp only [List.take_zero]; exact (ofW_zero fun j => h j (Nat.zero_le _)).symm
  | x :: r, k + 1, h => by
    simp only [List.take_succ_cons, ofW]
    rw [ofW_take (l := r) (k := k) fun j hj => h (j + 1) (by omega)]

/-- The words of a number; the last one is not zero. -/
def digs (N : Nat) : List Nat := if h : N = 0 then [] else N % 18446744073709551616 :: digs (N / 18446744073709551616)
termination_by N
decreasing_by omega
theorem digs_zero : digs 0 = [] := by rw [digs]; simp
theorem digs_pos {N : Nat} (h : N ≠ 0) : digs N = N % 18446744073709551616 :: digs (N / 18446744073709551616) := by rw [digs]; simp [h]
theorem digs_words (N : Nat) : Words (digs N) := by
  induction N using Nat.strongRecOn with
  | _ N ih =>
    by_cases h : N = 0
    · rw [h, digs_zero]; intro x hx; cases hx
    · rw [digs_pos h]
      intro x hx
      rcases List.mem_cons.1 hx with rfl | hx
      · omega
      · exact ih _ (by omega) x hx
theorem ofW_digs (N : Nat) : ofW (digs N) = N := by
  induction N using Nat.strongRecOn with
  | _ N ih =>
    by_cases h : N = 0
    · rw [h, digs_zero]; rfl
    · rw [digs_pos h, ofW, ih _ (by omega)]; omega
/-- Words whose last one is not zero. -/
def Canon (l : List Nat) : Prop := l.length = 0 ∨ l.getD (l.length - 1) 0 ≠ 0
theorem digs_ofW : ∀ {l : List Nat}, Words l → Canon l → digs (ofW l) = l
  | [], _, _ => by simp [ofW, digs_zero]
  | x :: r, h, hc => by
    have hx : x < 18446744073709551616 := h x (by simp)
    have hr : Words r := fun y hy => h y (by simp [hy])
    have hcr : Canon r := by
      cases r with
      | nil => exact .inl rfl
      | cons y s => refine .inr ?_; rcases hc with hc | hc
                    · simp at hc
                    · simpa using hc
    have ih := digs_ofW hr hcr
    have hne : ofW (x :: r) ≠ 0 := by
      simp only [ofW]
      cases r with
      | nil => rcases hc with hc | hc
               · simp at hc
               · simp at hc; simp [ofW]; exact hc
      | cons y s =>
        have : ofW (y :: s) ≠ 0 := fun h0 => by rw [h0, digs_zero] at ih; cases ih
        omega
    have h1 : ofW (x :: r) % 18446744073709551616 = x := by simp only [ofW]; omega
    have h2 : ofW (x :: r) / 18446744073709551616 = ofW r := by simp only [ofW]; omega
    rw [digs_pos hne, h1, h2, ih]
def setN (N : Nat) : PV := setP (digs N)
theorem setN_pure (N : Nat) : (setN N).pure := setP_pure _
theorem setP_ofW {l : List Nat} (h : Words l) (hc : Canon l) : setP l = setN (ofW l) := by rw [setN, digs_ofW h hc]
theorem IsTrim.set {l : List Nat} (hl : Words l) {r : PV} (h : IsTrim l r) : r = setN (ofW l) := by
  obtain ⟨k, hk, hz, hn, rfl⟩ := h
  rw [← ofW_take hz]
  refine setP_ofW (fun x hx => hl x (List.mem_of_mem_take hx)) ?_
  rcases hn with rfl | hn
  · exact .inl (by simp)
  · by_cases h0 : k = 0
    · subst h0; exact .inl (by simp)
    · refine .inr ?_
      have e : (l.take k).length = k := by simp [hk]
      rw [e]
      simpa [List.getD_eq_getElem?_getD, List.getElem?_take, show k - 1 < k by omega] using hn
theorem words_set (l : List Nat) (k v : Nat) : (words l).set k [.val (.int .u64 (v : Int))] = words (l.set k v) := by simp [words, List.map_set]
theorem Words.set {l : List Nat} (h : Words l) (k : Nat) {v : Nat} (hv : v < 18446744073709551616) : Words (l.set k v) := fun x hx => by
  rcases List.mem_or_eq_of_mem_set hx with hx | rfl
  · exact h x hx
  · exact hv
theorem ofW_or {l : List Nat} (h : Words l) {k j : Nat} (hk : k < l.length) (hj : j < 64) : ofW (l.set k (l.getD k 0 ||| 2 ^ j)) = ofW l ||| 2 ^ (64 * k + j) := by
  have hv : l.getD k 0 ||| 2 ^ j < 18446744073709551616 := Nat.or_lt_two_pow (n := 64) (h.getD k) (Nat.pow_lt_pow_right (by omega) hj)
  refine Nat.eq_of_testBit_eq fun i => ?_
  rw [ofW_testBit (h.set k hv), Nat.testBit_or, ofW_testBit h, Nat.testBit_two_pow]
  by_cases hik : i / 64 = k
  · subst hik
    have : (l.set (i / 64) (l.getD (i / 64) 0 ||| 2 ^ j)).getD (i / 64) 0 = l.getD (i / 64) 0 ||| 2 ^ j := by simp [List.getD_eq_getElem?_getD, hk]
    rw [this, Nat.testBit_or, Nat.testBit_two_pow]
    congr 1
    rw [decide_eq_decide]
    omega
  · have : (l.set k (l.getD k 0 ||| 2 ^ j)).getD (i / 64) 0 = l.getD (i / 64) 0 := by
      simp only [List.getD_eq_getElem?_getD, List.getElem?_set, if_neg (Ne.symm hik)]
    rw [this]
    have : ¬ (64 * k + j = i) := by omega
    simp [this]

/-- The members between 0 and top, as bits. -/
def maskTo (top : Int) (l : List Int) : Nat := l.foldl (fun acc i => if 0 ≤ i ∧ i ≤ top then acc ||| 2 ^ i.toNat else acc) 0
def topOf (l : List Int) : Int := l.foldl (fun t i => if i ≤ 4095 then (if i > t then i else t) else t) (-1)
theorem topOf_take {l : List Int} {i : Nat} (hi : i < l.length) : topOf (l.take (i + 1)) = if l[i] ≤ 4095 then (if l[i] > topOf (l.take i) then l[i] else topOf (l.take i)) else topOf (l.take i) := by
  simp only [topOf, List.take_add_one, List.getElem?_eq_getElem hi, Option.toList_some, List.foldl_append, List.foldl_cons, List.foldl_nil]
  rfl
theorem topOf_take' {l : List Int} {i : Nat} (hi : i < l.length) (h : l[i] ≤ 4095) : topOf (l.take (i + 1)) = if l[i] > topOf (l.take i) then l[i] else topOf (l.take i) := by rw [topOf_take hi, if_pos h]
theorem topOf_take0 {l : List Int} {i : Nat} (hi : i < l.length) (h : ¬ l[i] ≤ 4095) : topOf (l.take (i + 1)) = topOf (l.take i) := by rw [topOf_take hi, if_neg h]
theorem maskTo_take {t : Int} {l : List Int} {i : Nat} (hi : i < l.length) : maskTo t (l.take (i + 1)) = if 0 ≤ l[i] ∧ l[i] ≤ t then maskTo t (l.take i) ||| 2 ^ l[i].toNat else maskTo t (l.take i) := by
  simp only [maskTo, List.take_add_one, List.getElem?_eq_getElem hi, Option.toList_some, List.foldl_append, List.foldl_cons, List.foldl_nil]
theorem topOf_range : ∀ (l : List Int), -1 ≤ topOf l ∧ topOf l ≤ 4095 := by
  intro l
  have : ∀ (l : List Int) (t : Int), -1 ≤ t → t ≤ 4095 → -1 ≤ l.foldl (fun t i => if i ≤ 4095 then (if i > t then i else t) else t) t ∧ l.foldl (fun t i => if i ≤ 4095 then (if i > t then i else t) else t) t ≤ 4095 := by
    intro l
    induction l with
    | nil => intro t h1 h2; exact ⟨h1, h2⟩
    | cons x r ih =>
      intro t h1 h2
      simp only [List.foldl_cons]
      refine ih _ ?_ ?_
      · split
        · split <;> omega
        · exact h1
      · split
        · split <;> omega
        · exact h2
  exact this l (-1) (by omega) (by omega)
theorem maskTo_neg {t : Int} {l : List Int} (h : t < 0) : maskTo t l = 0 := by
  have : ∀ (l : List Int) (a : Nat), l.foldl (fun acc i => if 0 ≤ i ∧ i ≤ t then acc ||| 2 ^ i.toNat else acc) a = a := by
    intro l
    induction l with
    | nil => intro a; rfl
    | cons x r ih => intro a; simp only [List.foldl_cons]; rw [if_neg (by omega)]; exact ih a
  exact this l 0
theorem nums_pure (l : List Int) : pureLL (nums l) := pureLL_map _ _ fun _ _ => ⟨trivial, trivial⟩
theorem nums_inn (l : List Int) (D : Nat → Prop) : innLL D (nums l) := innLL_mono (fun _ h => h.elim) _ (nums_pure l)
theorem words_inn (l : List Nat) (D : Nat → Prop) : innLL D (words l) := innLL_mono (fun _ h => h.elim) _ (words_pure l)

set_option maxHeartbeats 1000000 in
theorem of_spec (l : List Int) (fl : Bool) : Spec Try.prog 16 [.vec (nums l) fl] (· = setN (maskTo (topOf l) l)) := by
  refine spec_intro ok16 (Nat.le_of_ble_eq_true rfl) fun C hC => ?_
  refine aw_len (k := 0) rfl fun hmax => ?_
  have hlm : l.length ≤ maxVec := by simpa [nums] using hmax
  have hnl : (nums l).length = l.length := by simp [nums]
  repeat' (first
    | refine aw_seq ?_
    | refine aw_region ?_
    | refine aw_draw [] ?_
    | refine opsK_done ?_
    | refine opsK_on rfl ?_
    | refine opsK_off rfl ?_
    | (refine opsK_bool rfl rfl rfl (fun hb => ?_) (fun hb => ?_) <;> try cases hb)
    | refine opsK_of rfl rfl rfl ?_
    | refine opsK_new rfl rfl rfl ?_
    | refine dK_done ?_
    | refine dK_on rfl ?_
    | refine dK_off ⟨_, rfl, nofun⟩ ?_
    | (refine dK_bool rfl rfl rfl (fun hb => ?_) (fun hb => ?_) <;> try cases hb)
    | refine dK_of rfl rfl rfl ?_
    | refine aw_condT rfl ?_
    | refine aw_condF rfl ?_
    | (refine aw_cond rfl (fun hb => ?_) (fun hb => ?_) <;> try cases hb)
    | refine aw_block ?_
    | refine aw_skip ?_
    | refine aw_exit ?_
    | refine aw_ret ?_)
  refine aw_loopE (fun i => i ≤ l.length) (fun i => l.length - i) (fun i => [(0, .vec (nums l) fl), (2, .ptr 0 0 0), (3, .val (.int .i64 (topOf (l.take i)))), (9, .vec (nums l) fl), (10, .val (.int .i64 (l.length : Int))), (11, .val (.int .i64 (i : Int)))]) 0 (Nat.zero_le _) ⟨rfl, rfl, rfl, rfl, by rw [← hnl]; rfl, rfl, trivial⟩ ?_
  intro i hi
  have hinc : IntKind.i64.wrap ((i : Int) + 1) = ((i + 1 : Nat) : Int) := IntWalk.i64_in _ ⟨by omega, by simp only [maxVec] at hlm; omega⟩
  repeat' (first
    | refine aw_seq ?_
    | refine aw_region ?_
    | refine aw_draw [] ?_
    | refine opsK_done ?_
    | refine opsK_on rfl ?_
    | refine opsK_off rfl ?_
    | (refine opsK_bool rfl rfl rfl (fun hb => ?_) (fun hb => ?_) <;> try cases hb)
    | refine opsK_of rfl rfl rfl ?_
    | refine opsK_new rfl rfl rfl ?_
    | refine dK_done ?_
    | refine dK_on rfl ?_
    | refine dK_off ⟨_, rfl, nofun⟩ ?_
    | (refine dK_bool rfl rfl rfl (fun hb => ?_) (fun hb => ?_) <;> try cases hb)
    | refine dK_of rfl rfl rfl ?_
    | refine aw_condT rfl ?_
    | refine aw_condF rfl ?_
    | (refine aw_cond rfl (fun hb => ?_) (fun hb => ?_) <;> try cases hb)
    | refine aw_block ?_
    | refine aw_skip ?_
    | refine aw_exit ?_
    | refine aw_ret ?_)
  · have hil : i < l.length := by simpa using hb
    refine opsK_of (E_iaddr (xs := l) rfl rfl i rfl hil rfl) rfl rfl ?_
    repeat' (first
      | refine aw_seq ?_
      | refine aw_region ?_
      | refine aw_draw [] ?_
      | refine opsK_done ?_
      | refine opsK_on rfl ?_
      | refine opsK_off rfl ?_
      | (refine opsK_bool rfl rfl rfl (fun hb => ?_) (fun hb => ?_) <;> try cases hb)
      | refine opsK_of rfl rfl rfl ?_
      | refine opsK_new rfl rfl rfl ?_
      | refine dK_done ?_
      | refine dK_on rfl ?_
      | refine dK_off ⟨_, rfl, nofun⟩ ?_
      | (refine dK_bool rfl rfl rfl (fun hb => ?_) (fun hb => ?_) <;> try cases hb)
      | refine dK_of rfl rfl rfl ?_
      | refine aw_condT rfl ?_
      | refine aw_condF rfl ?_
      | (refine aw_cond rfl (fun hb => ?_) (fun hb => ?_) <;> try cases hb)
      | refine aw_block ?_
      | refine aw_skip ?_
      | refine aw_exit ?_
      | refine aw_ret ?_)
    · refine ⟨i + 1, by omega, by omega, rfl, rfl, ⟨rfl, rfl, ?_, rfl, rfl, by show some _ = some _; rw [hinc], trivial⟩⟩
      rw [topOf_take' hil (by simpa using hb)]; rfl
    · refine ⟨i + 1, by omega, by omega, rfl, rfl, ⟨rfl, rfl, ?_, rfl, rfl, by show some _ = some _; rw [hinc], trivial⟩⟩
      rw [topOf_take0 hil (by simpa using hb)]; rfl
  · -- no member
    rename_i hb2
    have hil : i = l.length := by simp at hb2; omega
    subst hil
    refine ret_low rfl ⟨trivial, trivial⟩ ?_
    rw [List.take_length] at hb
    have hlt : topOf l < 0 := by simpa using hb
    rw [maskTo_neg hlt, setN, digs_zero]
    rfl
  · rename_i hb2
    have hil : i = l.length := by simp at hb2; omega
    subst hil
    rw [List.take_length] at hb ⊢
    have hge : 0 ≤ topOf l := by simpa using hb
    obtain ⟨t, ht⟩ : ∃ t : Nat, topOf l = t := ⟨(topOf l).toNat, by omega⟩
    have htr := (topOf_range l).2
    rw [ht] at htr ⊢
    have hq : IntKind.i64.wrap ((t : Int).tdiv 64) = ((t / 64 : Nat) : Int) := by
      rw [IntWalk.i64_quo _ _ ⟨by omega, by omega, by omega⟩]; omega
    have hq1 : IntKind.i64.wrap (((t / 64 : Nat) : Int) + 1) = ((t / 64 + 1 : Nat) : Int) := IntWalk.i64_in _ ⟨by omega, by omega⟩
    rw [hq, hq1]
    refine opsK_new (E_mslice (a := t / 64 + 1) (b := t / 64 + 1) rfl rfl (Nat.le_refl _) (by omega)) rfl rfl ?_
    have hrep : List.replicate (t / 64 + 1) (zpv [Value.int .u64 0]) = words (List.replicate (t / 64 + 1) 0) := by simp [words, zpv, pvOf]
    rw [hrep]
    repeat' (first
      | refine aw_seq ?_
      | refine aw_region ?_
      | refine aw_draw [] ?_
      | refine opsK_done ?_
      | refine opsK_on rfl ?_
      | refine opsK_off rfl ?_
      | (refine opsK_bool rfl rfl rfl (fun hb => ?_) (fun hb => ?_) <;> try cases hb)
      | refine opsK_of rfl rfl rfl ?_
      | refine opsK_new rfl rfl rfl ?_
      | refine dK_done ?_
      | refine dK_on rfl ?_
      | refine dK_off ⟨_, rfl, nofun⟩ ?_
      | (refine dK_bool rfl rfl rfl (fun hb => ?_) (fun hb => ?_) <;> try cases hb)
      | refine dK_of rfl rfl rfl ?_
      | refine aw_condT rfl ?_
      | refine aw_condF rfl ?_
      | (refine aw_cond rfl (fun hb => ?_) (fun hb => ?_) <;> try cases hb)
      | refine aw_block ?_
      | refine aw_skip ?_
      | refine aw_exit ?_
      | refine aw_ret ?_)
    refine aw_loopH hC (fun (x : Nat × List Nat) => x.1 ≤ l.length ∧ x.2.length = t / 64 + 1 ∧ Words x.2 ∧ ofW x.2 = maskTo t (l.take x.1)) (fun x => l.length - x.1) 2 (fun x => [(2, .ptr 0 0 0), (3, .val (.int .i64 (t : Int))), (6, .own 1), (28, .vec (nums l) fl), (29, .val (.int .i64 (l.length : Int))), (30, .val (.int .i64 (x.1 : Int)))])
      (fun x => [(0, ⟨1, [[.vec [] true]]⟩), (1, ⟨1, words x.2⟩)]) (by omega) (0, List.replicate (t / 64 + 1) 0) ⟨Nat.zero_le _, by simp, fun x hx => by obtain rfl := List.eq_of_mem_replicate hx; omega, ?_⟩ ⟨⟨rfl, show (0 : Nat) < 2 by decide⟩, ⟨rfl, trivial⟩, ⟨rfl, show (1 : Nat) < 2 by decide⟩, ⟨rfl, nums_inn _ _⟩, ⟨by rw [← hnl]; rfl, trivial⟩, ⟨rfl, trivial⟩, trivial⟩
      ⟨⟨by omega, rfl, ⟨trivial, trivial⟩, trivial⟩, ⟨by omega, rfl, words_inn _ _⟩, trivial⟩ ?_
    · rw [ofW_zero fun j => by simp [List.getD_eq_getElem?_getD, List.getElem?_replicate]; split <;> rfl]; rfl
    rintro ⟨i, ws⟩ ⟨hi, hwl, hww, hmask⟩
    simp only at hi hwl hww hmask
    have hinc : IntKind.i64.wrap ((i : Int) + 1) = ((i + 1 : Nat) : Int) := IntWalk.i64_in _ ⟨by omega, by simp only [maxVec] at hlm; omega⟩
    repeat' (first
      | refine aw_seq ?_
      | refine aw_region ?_
      | refine aw_draw [] ?_
      | refine opsK_done ?_
      | refine opsK_on rfl ?_
      | refine opsK_off rfl ?_
      | (refine opsK_bool rfl rfl rfl (fun hb => ?_) (fun hb => ?_) <;> try cases hb)
      | refine opsK_of rfl rfl rfl ?_
      | refine opsK_new rfl rfl rfl ?_
      | refine dK_done ?_
      | refine dK_on rfl ?_
      | refine dK_off ⟨_, rfl, nofun⟩ ?_
      | (refine dK_bool rfl rfl rfl (fun hb => ?_) (fun hb => ?_) <;> try cases hb)
      | refine dK_of rfl rfl rfl ?_
      | refine aw_condT rfl ?_
      | refine aw_condF rfl ?_
      | (refine aw_cond rfl (fun hb => ?_) (fun hb => ?_) <;> try cases hb)
      | refine aw_block ?_
      | refine aw_skip ?_
      | refine aw_exit ?_
      | refine aw_ret ?_)
    · have hil : i < l.length := by simpa using hb
      refine opsK_of (E_iaddr (xs := l) rfl rfl i rfl hil rfl) rfl rfl ?_
      repeat' (first
        | refine aw_seq ?_
        | refine aw_region ?_
        | refine aw_draw [] ?_
        | refine opsK_done ?_
        | refine opsK_on rfl ?_
        | refine opsK_off rfl ?_
        | (refine opsK_bool rfl rfl rfl (fun hb => ?_) (fun hb => ?_) <;> try cases hb)
        | refine opsK_of rfl rfl rfl ?_
        | refine opsK_new rfl rfl rfl ?_
        | refine dK_done ?_
        | refine dK_on rfl ?_
        | refine dK_off ⟨_, rfl, nofun⟩ ?_
        | (refine dK_bool rfl rfl rfl (fun hb => ?_) (fun hb => ?_) <;> try cases hb)
        | refine dK_of rfl rfl rfl ?_
        | refine aw_condT rfl ?_
        | refine aw_condF rfl ?_
        | (refine aw_cond rfl (fun hb => ?_) (fun hb => ?_) <;> try cases hb)
        | refine aw_block ?_
        | refine aw_skip ?_
        | refine aw_exit ?_
        | refine aw_ret ?_)
      · have h0 : 0 ≤ l[i] := by rename_i h0; simpa using h0
        have h1 : l[i] ≤ (t : Int) := by simpa using hb
        have hm : maskTo t (l.take (i + 1)) = maskTo t (l.take i) ||| 2 ^ l[i].toNat := by rw [maskTo_take hil, if_pos ⟨h0, h1⟩]
        obtain ⟨j, hj⟩ : ∃ j : Nat, l[i] = j := ⟨l[i].toNat, by omega⟩
        rw [hj] at h1 hm ⊢
        rw [Int.toNat_natCast] at hm
        have hjq : IntKind.i64.wrap ((j : Int).tdiv 64) = ((j / 64 : Nat) : Int) := by
          rw [IntWalk.i64_quo _ _ ⟨by omega, by omega, by omega⟩]; omega
        have hjr : (j : Int).tmod 64 = ((j % 64 : Nat) : Int) := by
          rw [Int.tmod_eq_emod_of_nonneg (by omega)]; omega
        rw [hjq]
        have hjl : j / 64 < ws.length := by omega
        have hel : (words ws).getD (j / 64) [] = [.val (.int .u64 (ws.getD (j / 64) 0 : Nat))] := by simp [words, List.getD_eq_getElem?_getD, hjl]
        have hj64 : j % 64 < 64 := Nat.mod_lt _ (by omega)
        have hwn : (words ws).length = ws.length := by simp [words]
        refine dK_of (E_iaddrO rfl rfl rfl (j / 64) rfl (by rw [hwn]; exact hjl) rfl) rfl rfl ?_
        refine dK_of (E_load rfl rfl (by rw [hwn]; exact hjl) (by rw [hel]; rfl)) rfl rfl ?_
        (first
          | refine aw_seq ?_
          | refine aw_region ?_
          | refine aw_draw [] ?_
          | refine opsK_done ?_
          | refine opsK_on rfl ?_
          | refine opsK_off rfl ?_
          | (refine opsK_bool rfl rfl rfl (fun hb => ?_) (fun hb => ?_) <;> try cases hb)
          | refine opsK_of rfl rfl rfl ?_
          | refine opsK_new rfl rfl rfl ?_
          | refine dK_done ?_
          | refine dK_on rfl ?_
          | refine dK_off ⟨_, rfl, nofun⟩ ?_
          | (refine dK_bool rfl rfl rfl (fun hb => ?_) (fun hb => ?_) <;> try cases hb)
          | refine dK_of rfl rfl rfl ?_
          | refine aw_condT rfl ?_
          | refine aw_condF rfl ?_
          | (refine aw_cond rfl (fun hb => ?_) (fun hb => ?_) <;> try cases hb)
          | refine aw_block ?_
          | refine aw_skip ?_
          | refine aw_exit ?_
          | refine aw_ret ?_)
        refine dK_of (E_int rfl hjr) rfl rfl ?_
        refine dK_of (E_shl rfl rfl (by omega) (v := ((2 ^ (j % 64) : Nat) : Int)) (by
          rw [show min (((j % 64 : Nat) : Int)).toNat IntKind.u64.bits = j % 64 by simp [IntKind.bits]; omega]
          have : 2 ^ (j % 64) < 2 ^ 64 := Nat.pow_lt_pow_right (by omega) hj64
          rw [Int.one_mul, show (2 : Int) ^ (j % 64) = ((2 ^ (j % 64) : Nat) : Int) by simp]
          exact IntWalk.u64_in _ ⟨Int.natCast_nonneg _, Int.ofNat_le.2 (show _ ≤ 18446744073709551615 by omega)⟩)) rfl rfl ?_
        refine dK_of (E_int rfl (bits_or_u64_nat _ _ (hww.getD _) (show 2 ^ (j % 64) < 2 ^ 64 from Nat.pow_lt_pow_right (by omega) hj64))) rfl rfl ?_
        refine dK_of (E_iaddrO rfl rfl rfl (j / 64) rfl (by rw [hwn]; exact hjl) rfl) rfl rfl ?_
        refine dK_of (E_store rfl rfl rfl rfl rfl (by rw [hwn]; exact hjl) (Nat.le_refl _)) rfl rfl ?_
        rw [hel, show setAt [PV.val (Value.int .u64 (ws.getD (j / 64) 0 : Nat))] 0 (PV.val (Value.int .u64 ((ws.getD (j / 64) 0 ||| 2 ^ (j % 64) : Nat) : Int))).cells = [.val (.int .u64 ((ws.getD (j / 64) 0 ||| 2 ^ (j % 64) : Nat) : Int))] from rfl]
        simp only
        rw [words_set]
        repeat' (first
          | refine aw_seq ?_
          | refine aw_region ?_
          | refine aw_draw [] ?_
          | refine opsK_done ?_
          | refine opsK_on rfl ?_
          | refine opsK_off rfl ?_
          | (refine opsK_bool rfl rfl rfl (fun hb => ?_) (fun hb => ?_) <;> try cases hb)
          | refine opsK_of rfl rfl rfl ?_
          | refine opsK_new rfl rfl rfl ?_
          | refine dK_done ?_
          | refine dK_on rfl ?_
          | refine dK_off ⟨_, rfl, nofun⟩ ?_
          | (refine dK_bool rfl rfl rfl (fun hb => ?_) (fun hb => ?_) <;> try cases hb)
          | refine dK_of rfl rfl rfl ?_
          | refine aw_condT rfl ?_
          | refine aw_condF rfl ?_
          | (refine aw_cond rfl (fun hb => ?_) (fun hb => ?_) <;> try cases hb)
          | refine aw_block ?_
          | refine aw_skip ?_
          | refine aw_exit ?_
          | refine aw_ret ?_)
        refine ⟨(i + 1, ws.set (j / 64) (ws.getD (j / 64) 0 ||| 2 ^ (j % 64))), ⟨by simp only; omega, by simpa using hwl, hww.set _ (Nat.or_lt_two_pow (n := 64) (hww.getD _) (Nat.pow_lt_pow_right (a := 2) (by omega) hj64)), ?_⟩, by simp only; omega, ⟨⟨rfl, show (0 : Nat) < 2 by decide⟩, ⟨rfl, trivial⟩, ⟨rfl, show (1 : Nat) < 2 by decide⟩, ⟨rfl, nums_inn _ _⟩, ⟨rfl, trivial⟩, ⟨by show some _ = some _; rw [hinc], trivial⟩, trivial⟩, ⟨⟨by omega, rfl, ⟨trivial, trivial⟩, trivial⟩, ⟨by omega, rfl, words_inn _ _⟩, trivial⟩⟩
        simp only
        rw [ofW_or hww hjl hj64, hm, hmask, show 64 * (j / 64) + j % 64 = j by omega]
      all_goals
        refine ⟨(i + 1, ws), ⟨by simp only; omega, hwl, hww, ?_⟩, by simp only; omega, ⟨⟨rfl, show (0 : Nat) < 2 by decide⟩, ⟨rfl, trivial⟩, ⟨rfl, show (1 : Nat) < 2 by decide⟩, ⟨rfl, nums_inn _ _⟩, ⟨rfl, trivial⟩, ⟨by show some _ = some _; rw [hinc], trivial⟩, trivial⟩, ⟨⟨by omega, rfl, ⟨trivial, trivial⟩, trivial⟩, ⟨by omega, rfl, words_inn _ _⟩, trivial⟩⟩
        simp only
        rw [maskTo_take hil, if_neg (by simp at hb; omega)]
        exact hmask
    · have hil : i = l.length := by simp at hb; omega
      subst hil
      refine opsK_sub (subA_freeze (k := 52) rfl rfl (words_pure ws)) ?_
      refine opsK_spec rfl rfl (trim_spec ws) ⟨words_pure ws, trivial⟩ rfl fun r hr => ?_
      obtain rfl := hr.set hww
      repeat' (first
        | refine aw_seq ?_
        | refine aw_region ?_
        | refine aw_draw [] ?_
        | refine opsK_done ?_
        | refine opsK_on rfl ?_
        | refine opsK_off rfl ?_
        | (refine opsK_bool rfl rfl rfl (fun hb => ?_) (fun hb => ?_) <;> try cases hb)
        | refine opsK_of rfl rfl rfl ?_
        | refine opsK_new rfl rfl rfl ?_
        | refine dK_done ?_
        | refine dK_on rfl ?_
        | refine dK_off ⟨_, rfl, nofun⟩ ?_
        | (refine dK_bool rfl rfl rfl (fun hb => ?_) (fun hb => ?_) <;> try cases hb)
        | refine dK_of rfl rfl rfl ?_
        | refine aw_condT rfl ?_
        | refine aw_condF rfl ?_
        | (refine aw_cond rfl (fun hb => ?_) (fun hb => ?_) <;> try cases hb)
        | refine aw_block ?_
        | refine aw_skip ?_
        | refine aw_exit ?_
        | refine aw_ret ?_)
      exact ret_ok (r := setN (ofW ws)) rfl (setN_pure _) (by rw [hmask, List.take_length])

theorem fdiv_pow (a k : Nat) : Int.fdiv (a : Int) (2 ^ k) = ((a / 2 ^ k : Nat) : Int) := by
  rw [Int.fdiv_eq_ediv_of_nonneg _ (by exact Int.le_of_lt (Int.pow_pos (by omega)))]
  simp

theorem has_spec (l : List Nat) (hl : Words l) (i : Int) : Spec Try.prog 34 [setP l, .val (.int .i64 i)] (· = .val (.bool (decide (0 ≤ i ∧ i ≤ 4095) && (l.getD (i.toNat / 64) 0).testBit (i.toNat % 64)))) := by
  refine spec_intro ok34 (Nat.le_of_ble_eq_true rfl) fun C hC => ?_
  refine aw_seq ?_
  refine aw_region ?_
  refine opsK_ofAlt rfl rfl rfl ?_
  repeat' (first
    | refine aw_seq ?_
    | refine aw_region ?_
    | refine aw_draw [] ?_
    | refine opsK_done ?_
    | refine opsK_on rfl ?_
    | refine opsK_off rfl ?_
    | (refine opsK_bool rfl rfl rfl (fun hb => ?_) (fun hb => ?_) <;> try cases hb)
    | refine opsK_of rfl rfl rfl ?_
    | refine opsK_new rfl rfl rfl ?_
    | refine dK_done ?_
    | refine dK_on rfl ?_
    | refine dK_off ⟨_, rfl, nofun⟩ ?_
    | (refine dK_bool rfl rfl rfl (fun hb => ?_) (fun hb => ?_) <;> try cases hb)
    | refine dK_of rfl rfl rfl ?_
    | refine aw_condT rfl ?_
    | refine aw_condF rfl ?_
    | (refine aw_cond rfl (fun hb => ?_) (fun hb => ?_) <;> try cases hb)
    | refine aw_block ?_
    | refine aw_skip ?_
    | refine aw_exit ?_
    | refine aw_ret ?_)
  · rename_i h0
    have h1 : 0 ≤ i := by simpa using h0
    have h2 : i ≤ 4095 := by simpa using hb
    obtain ⟨j, rfl⟩ : ∃ j : Nat, i = j := ⟨i.toNat, by omega⟩
    have hq : IntKind.i64.wrap ((j : Int).tdiv 64) = ((j / 64 : Nat) : Int) := by
      rw [IntWalk.i64_quo _ _ ⟨by omega, by omega, by omega⟩]; omega
    have hr : (j : Int).tmod 64 = ((j % 64 : Nat) : Int) := by
      rw [Int.tmod_eq_emod_of_nonneg (by omega)]; omega
    refine opsK_eq (word_spec l (j / 64)) rfl rfl (by show [_, _] = _; rw [hq]; rfl) ⟨setP_pure l, trivial, trivial⟩ rfl ?_
    refine opsK_on rfl ?_
    (first
      | refine aw_seq ?_
      | refine aw_region ?_
      | refine aw_draw [] ?_
      | refine opsK_done ?_
      | refine opsK_on rfl ?_
      | refine opsK_off rfl ?_
      | (refine opsK_bool rfl rfl rfl (fun hb => ?_) (fun hb => ?_) <;> try cases hb)
      | refine opsK_of rfl rfl rfl ?_
      | refine opsK_new rfl rfl rfl ?_
      | refine dK_done ?_
      | refine dK_on rfl ?_
      | refine dK_off ⟨_, rfl, nofun⟩ ?_
      | (refine dK_bool rfl rfl rfl (fun hb => ?_) (fun hb => ?_) <;> try cases hb)
      | refine dK_of rfl rfl rfl ?_
      | refine aw_condT rfl ?_
      | refine aw_condF rfl ?_
      | (refine aw_cond rfl (fun hb => ?_) (fun hb => ?_) <;> try cases hb)
      | refine aw_block ?_
      | refine aw_skip ?_
      | refine aw_exit ?_
      | refine aw_ret ?_)
    refine opsK_on rfl ?_
    refine opsK_int rfl rfl rfl hr ?_
    refine opsK_on rfl ?_
    have hw := hl.getD (j / 64)
    have hm : j % 64 < 64 := Nat.mod_lt _ (by omega)
    refine opsK_shr rfl rfl (by omega) (v := ((l.getD (j / 64) 0 / 2 ^ (j % 64) : Nat) : Int)) (by
      rw [show min (((j % 64 : Nat) : Int)).toNat IntKind.u64.bits = j % 64 by simp [IntKind.bits]; omega]
      exact fdiv_pow _ _) rfl ?_
    refine opsK_on rfl ?_
    refine opsK_int rfl rfl rfl (and_one_u64 _ (Int.natCast_nonneg _) (by
      have := Nat.div_le_self (l.getD (j / 64) 0) (2 ^ (j % 64))
      exact Int.ofNat_le.2 (show _ ≤ 18446744073709551615 by omega))) ?_
    have ht : (((l.getD (j / 64) 0 / 2 ^ (j % 64) : Nat) : Int) % 2 == 1) = (l.getD (j / 64) 0).testBit (j % 64) := by
      rw [Nat.testBit_eq_decide_div_mod_eq, Bool.eq_iff_iff]
      generalize l.getD (j / 64) 0 / 2 ^ (j % 64) = z
      simp only [beq_iff_eq, decide_eq_true_eq]
      omega
    have ht' : (decide (0 ≤ (j : Int) ∧ (j : Int) ≤ 4095) && (l.getD ((j : Int).toNat / 64) 0).testBit ((j : Int).toNat % 64)) = (l.getD (j / 64) 0).testBit (j % 64) := by
      simp only [Int.toNat_natCast, decide_eq_true (show 0 ≤ (j : Int) ∧ (j : Int) ≤ 4095 from ⟨h1, h2⟩), Bool.true_and]
    rw [ht', ← ht]
    refine opsK_on rfl ?_
    generalize (((l.getD (j / 64) 0 / 2 ^ (j % 64) : Nat) : Int) % 2) = z
    repeat' (first
      | refine aw_seq ?_
      | refine aw_region ?_
      | refine aw_draw [] ?_
      | refine opsK_done ?_
      | refine opsK_on rfl ?_
      | refine opsK_off rfl ?_
      | (refine opsK_bool rfl rfl rfl (fun hb => ?_) (fun hb => ?_) <;> try cases hb)
      | refine opsK_of rfl rfl rfl ?_
      | refine opsK_new rfl rfl rfl ?_
      | refine dK_done ?_
      | refine dK_on rfl ?_
      | refine dK_off ⟨_, rfl, nofun⟩ ?_
      | (refine dK_bool rfl rfl rfl (fun hb => ?_) (fun hb => ?_) <;> try cases hb)
      | refine dK_of rfl rfl rfl ?_
      | refine aw_condT rfl ?_
      | refine aw_condF rfl ?_
      | (refine aw_cond rfl (fun hb => ?_) (fun hb => ?_) <;> try cases hb)
      | refine aw_block ?_
      | refine aw_skip ?_
      | refine aw_exit ?_
      | refine aw_ret ?_)
    all_goals exact ret_ok rfl trivial (by rw [hb])
  · exact ret_ok rfl trivial (by simp at hb ⊢; omega)
  · exact ret_ok rfl trivial (by simp at hb ⊢; omega)
end Go.Proofs.Ytelcpkjclcimbaa
