/-
  The program's formulas: Len of a set, and how members are counted. No statement of the seat is proved here.
-/
import Derived.Test.Ytelcpkjclcimbaapc
import Derived.Test.Ytelcpkjclcimbaafm3
namespace Go.Proofs.Ytelcpkjclcimbaa
open Go.RowKit
set_option linter.unusedVariables false
attribute [local irreducible] aw opsK dK

/-! ### Len -/
theorem popK_le : ∀ (k x : Nat), popK k x ≤ k
  | 0, _ => Nat.le_refl _
  | k + 1, x => by have := popK_le k (x / 2); simp only [popK]; omega
theorem popK_zero : ∀ k, popK k 0 = 0
  | 0 => rfl
  | k + 1 => by simp only [popK, Nat.zero_div, popK_zero k]
def lenW (l : List Nat) : Nat := (l.map (popK 64)).sum
theorem lenW_take {l : List Nat} {i : Nat} (hi : i < l.length) : lenW (l.take (i + 1)) = lenW (l.take i) + popK 64 l[i] := by
  have e : l.take (i + 1) = l.take i ++ [l[i]] := by rw [List.take_add_one, List.getElem?_eq_getElem hi]; rfl
  rw [e, lenW, List.map_append, List.sum_append]
  simp [lenW]
theorem lenW_le (l : List Nat) : lenW l ≤ 64 * l.length := by
  induction l with
  | nil => simp [lenW]
  | cons a r ih => have := popK_le 64 a; simp only [lenW, List.map_cons, List.sum_cons, List.length_cons] at *; omega
theorem lenW_digs {N : Nat} (h : N < 18446744073709551616) : lenW (digs N) = popK 64 N := by
  by_cases h0 : N = 0
  · subst h0; rw [digs_zero, popK_zero]; rfl
  · rw [digs_pos h0, Nat.mod_eq_of_lt h, Nat.div_eq_of_lt h, digs_zero]; simp [lenW]

theorem len_spec (l : List Nat) (hw : Words l) (hlm : l.length ≤ 1099511627776) : Spec Try.prog 50 [setP l] (· = .val (.int .i64 (lenW l : Nat))) := by
  refine spec_intro ok50 (Nat.le_of_ble_eq_true rfl) fun C hC => ?_
  have hll : (words l).length = l.length := by simp [words]
  refine aw_seq ?_
  refine aw_region ?_
  refine opsK_ofAlt rfl rfl rfl ?_
  repeat' (first
    | refine aw_seq ?_
    | refine aw_region ?_
    | refine aw_draw [] ?_
    | refine opsK_done ?_
    | refine opsK_on rfl ?_
    | refine opsK_off rfl ?_
    | (refine opsK_bool rfl rfl rfl (fun hb => ?_) (fun hb => ?_) <;> try cases hb)
    | refine opsK_of rfl rfl rfl ?_
    | refine opsK_new rfl rfl rfl ?_
    | refine dK_done ?_
    | refine dK_on rfl ?_
    | refine dK_off ⟨_, rfl, nofun⟩ ?_
    | (refine dK_bool rfl rfl rfl (fun hb => ?_) (fun hb => ?_) <;> try cases hb)
    | refine dK_of rfl rfl rfl ?_
    | refine aw_condT rfl ?_
    | refine aw_condF rfl ?_
    | (refine aw_cond rfl (fun hb => ?_) (fun hb => ?_) <;> try cases hb)
    | refine aw_block ?_
    | refine aw_skip ?_
    | refine aw_exit ?_
    | refine aw_ret ?_)
  refine aw_loopH hC (fun i => i ≤ l.length) (fun i => l.length - i) 0 (fun i => [(3, .val (.int .i64 (lenW (l.take i) : Nat))), (7, .vec (words l) false), (8, .val (.int .i64 l.length)), (9, .val (.int .i64 (i : Int)))]) (fun _ => []) (Nat.le_refl _) 0 (Nat.zero_le _)
    ⟨⟨rfl, trivial⟩, ⟨rfl, words_inn _ _⟩, ⟨by rw [← hll]; rfl, trivial⟩, ⟨rfl, trivial⟩, trivial⟩ trivial ?_
  intro i hi
  have hinc : IntKind.i64.wrap ((i : Int) + 1) = ((i + 1 : Nat) : Int) := IntWalk.i64_in _ ⟨by omega, by omega⟩
  repeat' (first
    | refine aw_seq ?_
    | refine aw_region ?_
    | refine aw_draw [] ?_
    | refine opsK_done ?_
    | refine opsK_on rfl ?_
    | refine opsK_off rfl ?_
    | (refine opsK_bool rfl rfl rfl (fun hb => ?_) (fun hb => ?_) <;> try cases hb)
    | refine opsK_of rfl rfl rfl ?_
    | refine opsK_new rfl rfl rfl ?_
    | refine dK_done ?_
    | refine dK_on rfl ?_
    | refine dK_off ⟨_, rfl, nofun⟩ ?_
    | (refine dK_bool rfl rfl rfl (fun hb => ?_) (fun hb => ?_) <;> try cases hb)
    | refine dK_of rfl rfl rfl ?_
    | refine aw_condT rfl ?_
    | refine aw_condF rfl ?_
    | (refine aw_cond rfl (fun hb => ?_) (fun hb => ?_) <;> try cases hb)
    | refine aw_block ?_
    | refine aw_skip ?_
    | refine aw_exit ?_
    | refine aw_ret ?_)
  · have hil : i < l.length := by simpa using hb
    refine opsK_of (E_iaddr (xs := l) rfl rfl i rfl hil rfl) rfl rfl ?_
    repeat' (first
      | refine aw_seq ?_
      | refine aw_region ?_
      | refine aw_draw [] ?_
      | refine opsK_done ?_
      | refine opsK_on rfl ?_
      | refine opsK_off rfl ?_
      | (refine opsK_bool rfl rfl rfl (fun hb => ?_) (fun hb => ?_) <;> try cases hb)
      | refine opsK_of rfl rfl rfl ?_
      | refine opsK_new rfl rfl rfl ?_
      | refine dK_done ?_
      | refine dK_on rfl ?_
      | refine dK_off ⟨_, rfl, nofun⟩ ?_
      | (refine dK_bool rfl rfl rfl (fun hb => ?_) (fun hb => ?_) <;> try cases hb)
      | refine dK_of rfl rfl rfl ?_
      | refine aw_condT rfl ?_
      | refine aw_condF rfl ?_
      | (refine aw_cond rfl (fun hb => ?_) (fun hb => ?_) <;> try cases hb)
      | refine aw_block ?_
      | refine aw_skip ?_
      | refine aw_exit ?_
      | refine aw_ret ?_)
    refine opsK_eq (ones_spec l[i] (hw _ (List.getElem_mem _))) rfl rfl rfl ⟨trivial, trivial⟩ rfl ?_
    have hadd : IntKind.i64.wrap ((lenW (l.take i) : Int) + (popK 64 l[i] : Int)) = ((lenW (l.take (i + 1)) : Nat) : Int) := by
      have := lenW_take hil
      have h2 := lenW_le (l.take (i + 1))
      have h3 : (l.take (i + 1)).length ≤ l.length := by rw [List.length_take]; omega
      rw [this] at h2 ⊢
      rw [← Int.natCast_add]
      exact IntWalk.i64_in _ ⟨by omega, by omega⟩
    refine opsK_int rfl rfl rfl hadd ?_
    repeat' (first
      | refine aw_seq ?_
      | refine aw_region ?_
      | refine aw_draw [] ?_
      | refine opsK_done ?_
      | refine opsK_on rfl ?_
      | refine opsK_off rfl ?_
      | (refine opsK_bool rfl rfl rfl (fun hb => ?_) (fun hb => ?_) <;> try cases hb)
      | refine opsK_of rfl rfl rfl ?_
      | refine opsK_new rfl rfl rfl ?_
      | refine dK_done ?_
      | refine dK_on rfl ?_
      | refine dK_off ⟨_, rfl, nofun⟩ ?_
      | (refine dK_bool rfl rfl rfl (fun hb => ?_) (fun hb => ?_) <;> try cases hb)
      | refine dK_of rfl rfl rfl ?_
      | refine aw_condT rfl ?_
      | refine aw_condF rfl ?_
      | (refine aw_cond rfl (fun hb => ?_) (fun hb => ?_) <;> try cases hb)
      | refine aw_block ?_
      | refine aw_skip ?_
      | refine aw_exit ?_
      | refine aw_ret ?_)
    exact ⟨i + 1, by omega, by omega, ⟨⟨rfl, trivial⟩, ⟨rfl, words_inn _ _⟩, ⟨rfl, trivial⟩, ⟨by show some _ = some _; rw [hinc], trivial⟩, trivial⟩, trivial⟩
  · have hil : i = l.length := by simp at hb; omega
    subst hil
    rw [List.take_length]
    exact ret_ok rfl trivial rfl

/-! ### Members are counted once -/
theorem popK_or : ∀ (k N j : Nat), j < k → popK k (N ||| 2 ^ j) = popK k N + (if N.testBit j then 0 else 1)
  | 0, _, _, h => by omega
  | k + 1, N, 0, _ => by
    simp only [popK, Nat.or_div_two, Nat.pow_zero]
    have h1 : (N ||| 1) % 2 = 1 := by
      have : (N ||| 1).testBit 0 = true := by rw [Nat.testBit_or]; simp
      rw [Nat.testBit_zero] at this
      exact of_decide_eq_true this
    rw [h1, show 1 / 2 = 0 from rfl, Nat.or_zero, Nat.testBit_zero]
    by_cases h : N % 2 = 1
    · simp [h]
    · have : N % 2 = 0 := by omega
      simp [this]; omega
  | k + 1, N, j + 1, h => by
    have h2 : 2 ^ (j + 1) / 2 = 2 ^ j := by rw [Nat.pow_succ]; omega
    have h1 : (N ||| 2 ^ (j + 1)) % 2 = N % 2 := by
      have e : (N ||| 2 ^ (j + 1)).testBit 0 = N.testBit 0 := by rw [Nat.testBit_or, Nat.testBit_two_pow]; simp
      rw [Nat.testBit_zero, Nat.testBit_zero, decide_eq_decide] at e
      omega
    simp only [popK, Nat.or_div_two, h1, h2]
    rw [popK_or k (N / 2) j (by omega), Nat.testBit_succ]
    omega

theorem mask_fold (t : Int) : ∀ (l : List Int) (acc : Nat), (∀ r ∈ l, 1 ≤ r ∧ r ≤ 63 ∧ r ≤ t) → acc < 18446744073709551616 →
    ∃ m, l.foldl (fun acc i => if 0 ≤ i ∧ i ≤ t then acc ||| 2 ^ i.toNat else acc) acc = m ∧ m < 18446744073709551616 ∧ (∀ j : Nat, m.testBit j = (acc.testBit j || decide ((j : Int) ∈ l))) ∧ popK 64 m ≤ popK 64 acc + l.length ∧
      (popK 64 m = popK 64 acc + l.length ↔ l.Nodup ∧ ∀ r ∈ l, acc.testBit r.toNat = false)
  | [], acc, _, ha => ⟨acc, rfl, ha, by simp, by simp, by simp⟩
  | x :: r, acc, h, ha => by
    obtain ⟨h1, h2, h3⟩ := h x (by simp)
    have hx : x.toNat < 64 := by omega
    have hacc : acc ||| 2 ^ x.toNat < 18446744073709551616 := Nat.or_lt_two_pow (n := 64) ha (Nat.pow_lt_pow_right (by omega) hx)
    obtain ⟨m, e, hm, hbit, hle, hiff⟩ := mask_fold t r (acc ||| 2 ^ x.toNat) (fun y hy => h y (by simp [hy])) hacc
    have hor := popK_or 64 acc x.toNat hx
    refine ⟨m, by rw [List.foldl_cons, if_pos ⟨by omega, h3⟩]; exact e, hm, fun j => ?_, ?_, ?_⟩
    · rw [hbit, Nat.testBit_or, Nat.testBit_two_pow, Bool.or_assoc]
      have : decide ((j : Int) ∈ x :: r) = (decide (x.toNat = j) || decide ((j : Int) ∈ r)) := by
        rw [Bool.eq_iff_iff, Bool.or_eq_true, decide_eq_true_eq, decide_eq_true_eq, decide_eq_true_eq, List.mem_cons]
        refine or_congr_left ?_
        omega
      rw [this]
    · rw [List.length_cons]; split at hor <;> omega
    · rw [List.length_cons, List.nodup_cons]
      by_cases hb : acc.testBit x.toNat = true
      · rw [if_pos hb] at hor
        constructor
        · intro he; omega
        · rintro ⟨_, hall⟩; rw [hall x (by simp)] at hb; cases hb
      · rw [if_neg hb] at hor
        have : popK 64 m = popK 64 acc + (r.length + 1) ↔ popK 64 m = popK 64 (acc ||| 2 ^ x.toNat) + r.length := by omega
        rw [this, hiff]
        have hbt : ∀ y ∈ r, (acc ||| 2 ^ x.toNat).testBit y.toNat = false ↔ acc.testBit y.toNat = false ∧ y ≠ x := fun y hy => by
          rw [Nat.testBit_or, Nat.testBit_two_pow, Bool.or_eq_false_iff, decide_eq_false_iff_not]
          have := (h y (by simp [hy])).1
          refine and_congr_right fun _ => ⟨fun h he => h (by rw [he]), fun h he => h ?_⟩
          omega
        constructor
        · rintro ⟨hn, hall⟩
          refine ⟨⟨fun hx => ((hbt x hx).1 (hall x hx)).2 rfl, hn⟩, fun y hy => ?_⟩
          rcases List.mem_cons.1 hy with rfl | hy
          · simpa using hb
          · exact ((hbt y hy).1 (hall y hy)).1
        · rintro ⟨⟨hx, hn⟩, hall⟩
          exact ⟨hn, fun y hy => (hbt y hy).2 ⟨hall y (by simp [hy]), fun he => hx (he ▸ hy)⟩⟩
theorem topOf_ge : ∀ (l : List Int), (∀ r ∈ l, r ≤ 4095) → ∀ r ∈ l, r ≤ topOf l := by
  have : ∀ (l : List Int) (t : Int), (∀ r ∈ l, r ≤ 4095) → t ≤ l.foldl (fun t i => if i ≤ 4095 then (if i > t then i else t) else t) t ∧ ∀ r ∈ l, r ≤ l.foldl (fun t i => if i ≤ 4095 then (if i > t then i else t) else t) t := by
    intro l
    induction l with
    | nil => intro t _; simp
    | cons x r ih =>
      intro t h
      have hx := h x (by simp)
      simp only [List.foldl_cons, if_pos hx]
      obtain ⟨u, hu, h3, h4⟩ : ∃ u, (if x > t then x else t) = u ∧ t ≤ u ∧ x ≤ u := ⟨_, rfl, by split <;> omega, by split <;> omega⟩
      rw [hu]
      obtain ⟨h1, h2⟩ := ih u (fun y hy => h y (by simp [hy]))
      refine ⟨by omega, fun y hy => ?_⟩
      rcases List.mem_cons.1 hy with rfl | hy
      · omega
      · exact h2 y hy
  exact fun l h => (this l (-1) h).2
/-- The roles of a formula as a set. -/
theorem roles_mask (l : List Int) (h : inRange l = true) : maskTo (topOf l) l < 18446744073709551616 ∧ (∀ j : Nat, (maskTo (topOf l) l).testBit j = decide ((j : Int) ∈ l)) ∧ (popK 64 (maskTo (topOf l) l) = l.length ↔ l.Nodup) ∧ popK 64 (maskTo (topOf l) l) ≤ l.length := by
  have hall : ∀ r ∈ l, 1 ≤ r ∧ r ≤ 63 := fun r hr => by
    have := List.all_eq_true.1 h r hr
    simpa using this
  have hge := topOf_ge l fun r hr => by have := hall r hr; omega
  obtain ⟨m, e, h1, h2, h3, h4⟩ := mask_fold (topOf l) l 0 (fun r hr => ⟨(hall r hr).1, (hall r hr).2, hge r hr⟩) (by omega)
  have e' : maskTo (topOf l) l = m := e
  rw [e']
  refine ⟨h1, fun j => by rw [h2]; simp, ?_, by rw [popK_zero] at h3; omega⟩
  rw [popK_zero, Nat.zero_add] at h4
  rw [h4]
  simp

end Go.Proofs.Ytelcpkjclcimbaa
