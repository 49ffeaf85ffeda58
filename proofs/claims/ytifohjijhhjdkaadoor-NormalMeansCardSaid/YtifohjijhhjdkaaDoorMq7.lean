/-
  Proved: for every input the law NormalMeans returns true, never panics, and leaves its arguments as0 they were, on the given card's conditions (the table of the bits package reads as0 the program's text lays it, and is tied to it).
-/
import Derived.SevenTiedAt
import Derived.Test.YtifohjijhhjdkaaDoorCards
import Derived.Test.YtifohjijhhjdkaaDoorTie
import Derived.Test.YtifohjijhhjdkaaDoorMq6
set_option linter.unusedSimpArgs false
set_option linter.unusedVariables false

namespace Go.Proofs.YtifohjijhhjdkaaDoor
open Go.RowKit
set_option linter.unusedVariables false
attribute [local irreducible] aw opsK dK

def mostF : Fm := .mk 11 0 [] [.mk 5 0 [1, 2, 3] [], .mk 1 1 [] []]
theorem most_check : checkM mostF = 0 := by decide +kernel
theorem most_viol : vioL mostF = [(6, 0), (10, 0), (12, 0)] := by decide +kernel
theorem ex2 : primesL [(6, 0), (2, 4)] = [(2, 0)] ∧ wholeE [(6, 0), (2, 4)] = 0 := by decide +kernel
theorem ex3 : primesL [(2, 0), (0, 2)] = [(0, 0)] ∧ wholeE [(2, 0), (0, 2)] = 0 := by decide +kernel
theorem ex4 : primesL [(6, 0), (8, 2)] = [(6, 0), (12, 0), (8, 2)] ∧ wholeE [(6, 0), (8, 2)] = 0 := by decide +kernel
theorem of_val (l : List Int) (N : Nat) (h : maskTo (topOf l) l = N) (fl : Bool) : Spec Tryd.prog 20 [.vec (nums l) fl] (· = setN N) := h ▸ of_spec l fl
set_option maxHeartbeats 8000000 in
theorem awake19_spec : Spec Tryd.prog 10 [] (· = .val (.bool true)) := by
  have ok : ∀ (l : List Cu), (∀ c ∈ l, c.1 < 256 ∧ c.2 < 256) → ∀ c ∈ l, Ok64 c := fun l h c hc => ⟨by have := h c hc; omega, by have := h c hc; omega⟩
  refine spec_intro ok10 (Nat.le_of_ble_eq_true rfl) fun C hC => ?_
  repeat' (first|refine aw_seq ?_|refine aw_region ?_|refine aw_draw [] ?_|refine opsK_done ?_|refine opsK_on rfl ?_|refine opsK_off rfl ?_|(refine opsK_bool rfl rfl rfl (fun hb=>?_) (fun hb=>?_)<;>try cases hb)|refine opsK_of rfl rfl rfl ?_|refine opsK_new rfl rfl rfl ?_|refine dK_done ?_|refine dK_on rfl ?_|refine dK_off ⟨_,rfl,nofun⟩ ?_|(refine dK_bool rfl rfl rfl (fun hb=>?_) (fun hb=>?_)<;>try cases hb)|refine dK_of rfl rfl rfl ?_|refine aw_condT rfl ?_|refine aw_condF rfl ?_|(refine aw_cond rfl (fun hb=>?_) (fun hb=>?_)<;>try cases hb)|refine aw_block ?_|refine aw_skip ?_|refine aw_exit ?_|refine aw_ret ?_)
  refine opsK_eqLow (violations_spec mostF (by decide +kernel) (by decide +kernel)) rfl rfl (by rfl) ⟨fC_pure _ _, trivial⟩ rfl ?_
  rw [most_viol, most_check]
  repeat' (first|refine aw_seq ?_|refine aw_region ?_|refine aw_draw [] ?_|refine opsK_done ?_|refine opsK_on rfl ?_|refine opsK_off rfl ?_|(refine opsK_bool rfl rfl rfl (fun hb=>?_) (fun hb=>?_)<;>try cases hb)|refine opsK_of rfl rfl rfl ?_|refine opsK_new rfl rfl rfl ?_|refine dK_done ?_|refine dK_on rfl ?_|refine dK_off ⟨_,rfl,nofun⟩ ?_|(refine dK_bool rfl rfl rfl (fun hb=>?_) (fun hb=>?_)<;>try cases hb)|refine dK_of rfl rfl rfl ?_|refine aw_condT rfl ?_|refine aw_condF rfl ?_|(refine aw_cond rfl (fun hb=>?_) (fun hb=>?_)<;>try cases hb)|refine aw_block ?_|refine aw_skip ?_|refine aw_exit ?_|refine aw_ret ?_)
  refine opsK_eq (of_val [1] 2 (by decide +kernel) true) rfl rfl rfl ⟨nums_pure _, trivial⟩ rfl ?_
  repeat' (first|refine aw_seq ?_|refine aw_region ?_|refine aw_draw [] ?_|refine opsK_done ?_|refine opsK_on rfl ?_|refine opsK_off rfl ?_|(refine opsK_bool rfl rfl rfl (fun hb=>?_) (fun hb=>?_)<;>try cases hb)|refine opsK_of rfl rfl rfl ?_|refine opsK_new rfl rfl rfl ?_|refine dK_done ?_|refine dK_on rfl ?_|refine dK_off ⟨_,rfl,nofun⟩ ?_|(refine dK_bool rfl rfl rfl (fun hb=>?_) (fun hb=>?_)<;>try cases hb)|refine dK_of rfl rfl rfl ?_|refine aw_condT rfl ?_|refine aw_condF rfl ?_|(refine aw_cond rfl (fun hb=>?_) (fun hb=>?_)<;>try cases hb)|refine aw_block ?_|refine aw_skip ?_|refine aw_exit ?_|refine aw_ret ?_)
  refine opsK_eq (of_val [1, 2] 6 (by decide +kernel) true) rfl rfl rfl ⟨nums_pure _, trivial⟩ rfl ?_
  repeat' (first|refine aw_seq ?_|refine aw_region ?_|refine aw_draw [] ?_|refine opsK_done ?_|refine opsK_on rfl ?_|refine opsK_off rfl ?_|(refine opsK_bool rfl rfl rfl (fun hb=>?_) (fun hb=>?_)<;>try cases hb)|refine opsK_of rfl rfl rfl ?_|refine opsK_new rfl rfl rfl ?_|refine dK_done ?_|refine dK_on rfl ?_|refine dK_off ⟨_,rfl,nofun⟩ ?_|(refine dK_bool rfl rfl rfl (fun hb=>?_) (fun hb=>?_)<;>try cases hb)|refine dK_of rfl rfl rfl ?_|refine aw_condT rfl ?_|refine aw_condF rfl ?_|(refine aw_cond rfl (fun hb=>?_) (fun hb=>?_)<;>try cases hb)|refine aw_block ?_|refine aw_skip ?_|refine aw_exit ?_|refine aw_ret ?_)
  refine opsK_eq (of_val [1] 2 (by decide +kernel) true) rfl rfl rfl ⟨nums_pure _, trivial⟩ rfl ?_
  repeat' (first|refine aw_seq ?_|refine aw_region ?_|refine aw_draw [] ?_|refine opsK_done ?_|refine opsK_on rfl ?_|refine opsK_off rfl ?_|(refine opsK_bool rfl rfl rfl (fun hb=>?_) (fun hb=>?_)<;>try cases hb)|refine opsK_of rfl rfl rfl ?_|refine opsK_new rfl rfl rfl ?_|refine dK_done ?_|refine dK_on rfl ?_|refine dK_off ⟨_,rfl,nofun⟩ ?_|(refine dK_bool rfl rfl rfl (fun hb=>?_) (fun hb=>?_)<;>try cases hb)|refine dK_of rfl rfl rfl ?_|refine aw_condT rfl ?_|refine aw_condF rfl ?_|(refine aw_cond rfl (fun hb=>?_) (fun hb=>?_)<;>try cases hb)|refine aw_block ?_|refine aw_skip ?_|refine aw_exit ?_|refine aw_ret ?_)
  refine opsK_eq (of_val [2] 4 (by decide +kernel) true) rfl rfl rfl ⟨nums_pure _, trivial⟩ rfl ?_
  repeat' (first|refine aw_seq ?_|refine aw_region ?_|refine aw_draw [] ?_|refine opsK_done ?_|refine opsK_on rfl ?_|refine opsK_off rfl ?_|(refine opsK_bool rfl rfl rfl (fun hb=>?_) (fun hb=>?_)<;>try cases hb)|refine opsK_of rfl rfl rfl ?_|refine opsK_new rfl rfl rfl ?_|refine dK_done ?_|refine dK_on rfl ?_|refine dK_off ⟨_,rfl,nofun⟩ ?_|(refine dK_bool rfl rfl rfl (fun hb=>?_) (fun hb=>?_)<;>try cases hb)|refine dK_of rfl rfl rfl ?_|refine aw_condT rfl ?_|refine aw_condF rfl ?_|(refine aw_cond rfl (fun hb=>?_) (fun hb=>?_)<;>try cases hb)|refine aw_block ?_|refine aw_skip ?_|refine aw_exit ?_|refine aw_ret ?_)
  refine opsK_eqLow (primesN_spec [(6, 0), (2, 4)] false (ok _ (by decide)) (by decide)) rfl rfl (by
    show [PV.vec [[.vec (lowLL (words (digs 6))) false, .vec [] false], [.vec (lowLL (words (digs 2))) false, .vec (lowLL (words (digs 4))) false]] false] = _
    rw [lowLL_words, lowLL_words, lowLL_words]
    simp only [List.map, cuC]
    rw [digs_zero]
    rfl) ⟨cubes_pure _, trivial⟩ rfl ?_
  rw [ex2.1, ex2.2]
  repeat' (first|refine aw_seq ?_|refine aw_region ?_|refine aw_draw [] ?_|refine opsK_done ?_|refine opsK_on rfl ?_|refine opsK_off rfl ?_|(refine opsK_bool rfl rfl rfl (fun hb=>?_) (fun hb=>?_)<;>try cases hb)|refine opsK_of rfl rfl rfl ?_|refine opsK_new rfl rfl rfl ?_|refine dK_done ?_|refine dK_on rfl ?_|refine dK_off ⟨_,rfl,nofun⟩ ?_|(refine dK_bool rfl rfl rfl (fun hb=>?_) (fun hb=>?_)<;>try cases hb)|refine dK_of rfl rfl rfl ?_|refine aw_condT rfl ?_|refine aw_condF rfl ?_|(refine aw_cond rfl (fun hb=>?_) (fun hb=>?_)<;>try cases hb)|refine aw_block ?_|refine aw_skip ?_|refine aw_exit ?_|refine aw_ret ?_)
  refine dK_eq (of_val [1] 2 (by decide +kernel) true) rfl rfl rfl ⟨nums_pure _, trivial⟩ ?_
  repeat' (first|refine aw_seq ?_|refine aw_region ?_|refine aw_draw [] ?_|refine opsK_done ?_|refine opsK_on rfl ?_|refine opsK_off rfl ?_|(refine opsK_bool rfl rfl rfl (fun hb=>?_) (fun hb=>?_)<;>try cases hb)|refine opsK_of rfl rfl rfl ?_|refine opsK_new rfl rfl rfl ?_|refine dK_done ?_|refine dK_on rfl ?_|refine dK_off ⟨_,rfl,nofun⟩ ?_|(refine dK_bool rfl rfl rfl (fun hb=>?_) (fun hb=>?_)<;>try cases hb)|refine dK_of rfl rfl rfl ?_|refine aw_condT rfl ?_|refine aw_condF rfl ?_|(refine aw_cond rfl (fun hb=>?_) (fun hb=>?_)<;>try cases hb)|refine aw_block ?_|refine aw_skip ?_|refine aw_exit ?_|refine aw_ret ?_)
  refine dK_low (primesN_spec [(2, 0), (0, 2)] false (ok _ (by decide)) (by decide)) rfl rfl (by
    show [PV.vec [[.vec (lowLL (words (digs 2))) false, .vec [] false], [.vec [] false, .vec (lowLL (words (digs 2))) false]] false] = _
    rw [lowLL_words]
    simp only [List.map, cuC]
    rw [digs_zero]
    rfl) ⟨cubes_pure _, trivial⟩ ?_
  rw [ex3.1, ex3.2]
  repeat' (first|refine aw_seq ?_|refine aw_region ?_|refine aw_draw [] ?_|refine opsK_done ?_|refine opsK_on rfl ?_|refine opsK_off rfl ?_|(refine opsK_bool rfl rfl rfl (fun hb=>?_) (fun hb=>?_)<;>try cases hb)|refine opsK_of rfl rfl rfl ?_|refine opsK_new rfl rfl rfl ?_|refine dK_done ?_|refine dK_on rfl ?_|refine dK_off ⟨_,rfl,nofun⟩ ?_|(refine dK_bool rfl rfl rfl (fun hb=>?_) (fun hb=>?_)<;>try cases hb)|refine dK_of rfl rfl rfl ?_|refine aw_condT rfl ?_|refine aw_condF rfl ?_|(refine aw_cond rfl (fun hb=>?_) (fun hb=>?_)<;>try cases hb)|refine aw_block ?_|refine aw_skip ?_|refine aw_exit ?_|refine aw_ret ?_)
  refine opsK_eq (of_val [1, 2] 6 (by decide +kernel) true) rfl rfl rfl ⟨nums_pure _, trivial⟩ rfl ?_
  repeat' (first|refine aw_seq ?_|refine aw_region ?_|refine aw_draw [] ?_|refine opsK_done ?_|refine opsK_on rfl ?_|refine opsK_off rfl ?_|(refine opsK_bool rfl rfl rfl (fun hb=>?_) (fun hb=>?_)<;>try cases hb)|refine opsK_of rfl rfl rfl ?_|refine opsK_new rfl rfl rfl ?_|refine dK_done ?_|refine dK_on rfl ?_|refine dK_off ⟨_,rfl,nofun⟩ ?_|(refine dK_bool rfl rfl rfl (fun hb=>?_) (fun hb=>?_)<;>try cases hb)|refine dK_of rfl rfl rfl ?_|refine aw_condT rfl ?_|refine aw_condF rfl ?_|(refine aw_cond rfl (fun hb=>?_) (fun hb=>?_)<;>try cases hb)|refine aw_block ?_|refine aw_skip ?_|refine aw_exit ?_|refine aw_ret ?_)
  refine opsK_eq (of_val [3] 8 (by decide +kernel) true) rfl rfl rfl ⟨nums_pure _, trivial⟩ rfl ?_
  repeat' (first|refine aw_seq ?_|refine aw_region ?_|refine aw_draw [] ?_|refine opsK_done ?_|refine opsK_on rfl ?_|refine opsK_off rfl ?_|(refine opsK_bool rfl rfl rfl (fun hb=>?_) (fun hb=>?_)<;>try cases hb)|refine opsK_of rfl rfl rfl ?_|refine opsK_new rfl rfl rfl ?_|refine dK_done ?_|refine dK_on rfl ?_|refine dK_off ⟨_,rfl,nofun⟩ ?_|(refine dK_bool rfl rfl rfl (fun hb=>?_) (fun hb=>?_)<;>try cases hb)|refine dK_of rfl rfl rfl ?_|refine aw_condT rfl ?_|refine aw_condF rfl ?_|(refine aw_cond rfl (fun hb=>?_) (fun hb=>?_)<;>try cases hb)|refine aw_block ?_|refine aw_skip ?_|refine aw_exit ?_|refine aw_ret ?_)
  refine opsK_eq (of_val [1] 2 (by decide +kernel) true) rfl rfl rfl ⟨nums_pure _, trivial⟩ rfl ?_
  repeat' (first|refine aw_seq ?_|refine aw_region ?_|refine aw_draw [] ?_|refine opsK_done ?_|refine opsK_on rfl ?_|refine opsK_off rfl ?_|(refine opsK_bool rfl rfl rfl (fun hb=>?_) (fun hb=>?_)<;>try cases hb)|refine opsK_of rfl rfl rfl ?_|refine opsK_new rfl rfl rfl ?_|refine dK_done ?_|refine dK_on rfl ?_|refine dK_off ⟨_,rfl,nofun⟩ ?_|(refine dK_bool rfl rfl rfl (fun hb=>?_) (fun hb=>?_)<;>try cases hb)|refine dK_of rfl rfl rfl ?_|refine aw_condT rfl ?_|refine aw_condF rfl ?_|(refine aw_cond rfl (fun hb=>?_) (fun hb=>?_)<;>try cases hb)|refine aw_block ?_|refine aw_skip ?_|refine aw_exit ?_|refine aw_ret ?_)
  refine opsK_eqLow (primesN_spec [(6, 0), (8, 2)] false (ok _ (by decide)) (by decide)) rfl rfl (by
    show [PV.vec [[.vec (lowLL (words (digs 6))) false, .vec [] false], [.vec (lowLL (words (digs 8))) false, .vec (lowLL (words (digs 2))) false]] false] = _
    rw [lowLL_words, lowLL_words, lowLL_words]
    simp only [List.map, cuC]
    rw [digs_zero]
    rfl) ⟨cubes_pure _, trivial⟩ rfl ?_
  rw [ex4.1, ex4.2]
  repeat' (first|refine aw_seq ?_|refine aw_region ?_|refine aw_draw [] ?_|refine opsK_done ?_|refine opsK_on rfl ?_|refine opsK_off rfl ?_|(refine opsK_bool rfl rfl rfl (fun hb=>?_) (fun hb=>?_)<;>try cases hb)|refine opsK_of rfl rfl rfl ?_|refine opsK_new rfl rfl rfl ?_|refine dK_done ?_|refine dK_on rfl ?_|refine dK_off ⟨_,rfl,nofun⟩ ?_|(refine dK_bool rfl rfl rfl (fun hb=>?_) (fun hb=>?_)<;>try cases hb)|refine dK_of rfl rfl rfl ?_|refine aw_condT rfl ?_|refine aw_condF rfl ?_|(refine aw_cond rfl (fun hb=>?_) (fun hb=>?_)<;>try cases hb)|refine aw_block ?_|refine aw_skip ?_|refine aw_exit ?_|refine aw_ret ?_)
  refine opsK_eq (same_spec [(6, 0), (10, 0), (12, 0)] [(6, 0), (10, 0), (12, 0)] false true (ok _ (by decide)) (ok _ (by decide))) rfl rfl rfl ⟨cubes_pure _, ras_pure _, trivial⟩ rfl ?_
  rw [sameL.2 rfl]
  repeat' (first|refine aw_seq ?_|refine aw_region ?_|refine aw_draw [] ?_|refine opsK_done ?_|refine opsK_on rfl ?_|refine opsK_off rfl ?_|(refine opsK_bool rfl rfl rfl (fun hb=>?_) (fun hb=>?_)<;>try cases hb)|refine opsK_of rfl rfl rfl ?_|refine opsK_new rfl rfl rfl ?_|refine dK_done ?_|refine dK_on rfl ?_|refine dK_off ⟨_,rfl,nofun⟩ ?_|(refine dK_bool rfl rfl rfl (fun hb=>?_) (fun hb=>?_)<;>try cases hb)|refine dK_of rfl rfl rfl ?_|refine aw_condT rfl ?_|refine aw_condF rfl ?_|(refine aw_cond rfl (fun hb=>?_) (fun hb=>?_)<;>try cases hb)|refine aw_block ?_|refine aw_skip ?_|refine aw_exit ?_|refine aw_ret ?_)
  refine opsK_eq (same_spec [(2, 0)] [(2, 0)] false true (ok _ (by decide)) (ok _ (by decide))) rfl rfl rfl ⟨cubes_pure _, ras_pure _, trivial⟩ rfl ?_
  rw [sameL.2 rfl]
  repeat' (first|refine aw_seq ?_|refine aw_region ?_|refine aw_draw [] ?_|refine opsK_done ?_|refine opsK_on rfl ?_|refine opsK_off rfl ?_|(refine opsK_bool rfl rfl rfl (fun hb=>?_) (fun hb=>?_)<;>try cases hb)|refine opsK_of rfl rfl rfl ?_|refine opsK_new rfl rfl rfl ?_|refine dK_done ?_|refine dK_on rfl ?_|refine dK_off ⟨_,rfl,nofun⟩ ?_|(refine dK_bool rfl rfl rfl (fun hb=>?_) (fun hb=>?_)<;>try cases hb)|refine dK_of rfl rfl rfl ?_|refine aw_condT rfl ?_|refine aw_condF rfl ?_|(refine aw_cond rfl (fun hb=>?_) (fun hb=>?_)<;>try cases hb)|refine aw_block ?_|refine aw_skip ?_|refine aw_exit ?_|refine aw_ret ?_)
  refine opsK_eq (same_spec [(0, 0)] [(0, 0)] false true (ok _ (by decide)) (ok _ (by decide))) rfl rfl rfl ⟨cubes_pure _, ras_pure _, trivial⟩ rfl ?_
  rw [sameL.2 rfl]
  repeat' (first|refine aw_seq ?_|refine aw_region ?_|refine aw_draw [] ?_|refine opsK_done ?_|refine opsK_on rfl ?_|refine opsK_off rfl ?_|(refine opsK_bool rfl rfl rfl (fun hb=>?_) (fun hb=>?_)<;>try cases hb)|refine opsK_of rfl rfl rfl ?_|refine opsK_new rfl rfl rfl ?_|refine dK_done ?_|refine dK_on rfl ?_|refine dK_off ⟨_,rfl,nofun⟩ ?_|(refine dK_bool rfl rfl rfl (fun hb=>?_) (fun hb=>?_)<;>try cases hb)|refine dK_of rfl rfl rfl ?_|refine aw_condT rfl ?_|refine aw_condF rfl ?_|(refine aw_cond rfl (fun hb=>?_) (fun hb=>?_)<;>try cases hb)|refine aw_block ?_|refine aw_skip ?_|refine aw_exit ?_|refine aw_ret ?_)
  refine opsK_eq (same_spec [(6, 0), (12, 0), (8, 2)] [(6, 0), (12, 0), (8, 2)] false true (ok _ (by decide)) (ok _ (by decide))) rfl rfl rfl ⟨cubes_pure _, ras_pure _, trivial⟩ rfl ?_
  rw [sameL.2 rfl]
  repeat' (first|refine aw_seq ?_|refine aw_region ?_|refine aw_draw [] ?_|refine opsK_done ?_|refine opsK_on rfl ?_|refine opsK_off rfl ?_|(refine opsK_bool rfl rfl rfl (fun hb=>?_) (fun hb=>?_)<;>try cases hb)|refine opsK_of rfl rfl rfl ?_|refine opsK_new rfl rfl rfl ?_|refine dK_done ?_|refine dK_on rfl ?_|refine dK_off ⟨_,rfl,nofun⟩ ?_|(refine dK_bool rfl rfl rfl (fun hb=>?_) (fun hb=>?_)<;>try cases hb)|refine dK_of rfl rfl rfl ?_|refine aw_condT rfl ?_|refine aw_condF rfl ?_|(refine aw_cond rfl (fun hb=>?_) (fun hb=>?_)<;>try cases hb)|refine aw_block ?_|refine aw_skip ?_|refine aw_exit ?_|refine aw_ret ?_)
  exact ret_ok rfl trivial rfl
end Go.Proofs.YtifohjijhhjdkaaDoor

namespace Go.Proofs.YtifohjijhhjdkaaDoor
open Go.RowKit
set_option linter.unusedVariables false

theorem tb {y i : Nat} (h : ¬ y.testBit i = true) : y.testBit i = false := by simpa using h
theorem tb2 {b : Bool} (h : ¬ b = true) : b = false := by simpa using h
theorem or_sub_iff (a s : Nat) : a ||| s = s ↔ ∀ i, a.testBit i = true → s.testBit i = true := by
  constructor
  · intro h i hi
    rw [← h, Nat.testBit_or, hi, Bool.true_or]
  · intro h
    refine Nat.eq_of_testBit_eq fun i => ?_
    rw [Nat.testBit_or]
    cases ha : a.testBit i with
    | false => rfl
    | true => rw [h i ha]; rfl
theorem and_zero_iff (a s : Nat) : a &&& s = 0 ↔ ∀ i, a.testBit i = true → s.testBit i = false := by
  constructor
  · intro h i hi
    have := congrArg (·.testBit i) h
    simp only [Nat.testBit_and, hi, Bool.true_and, Nat.zero_testBit] at this
    exact this
  · intro h
    refine Nat.eq_of_testBit_eq fun i => ?_
    rw [Nat.testBit_and, Nat.zero_testBit]
    cases ha : a.testBit i with
    | false => rfl
    | true => rw [h i ha]; rfl
theorem ho_iff (c : Cu) (s : Nat) : hoC c s = true ↔ (∀ i, c.1.testBit i = true → s.testBit i = true) ∧ ∀ i, c.2.testBit i = true → s.testBit i = false := by
  unfold hoC
  rw [Bool.and_eq_true, Bool.not_eq_true', decide_eq_true_iff, decide_eq_false_iff_not, Decidable.not_not, or_sub_iff, and_zero_iff]
theorem sub_pow_bit {y i : Nat} (h : y.testBit i = true) (j : Nat) : (y - 2 ^ i).testBit j = (y.testBit j && decide (j ≠ i)) := by
  have hle := bit_le h
  have h3 : (y ^^^ 2 ^ i) &&& 2 ^ i = 0 := by
    refine Nat.eq_of_testBit_eq fun t => ?_
    rw [Nat.testBit_and, Nat.testBit_xor, Nat.testBit_two_pow, Nat.zero_testBit]
    by_cases ht : i = t
    · subst ht; rw [h]; simp
    · simp [ht]
  have h4 : (y ^^^ 2 ^ i) ||| 2 ^ i = y := by
    refine Nat.eq_of_testBit_eq fun t => ?_
    rw [Nat.testBit_or, Nat.testBit_xor, Nat.testBit_two_pow]
    by_cases ht : i = t
    · subst ht; rw [h]; simp
    · simp [ht]
  have h5 : (y ^^^ 2 ^ i) + 2 ^ i = (y ^^^ 2 ^ i) ||| 2 ^ i := add_or h3
  have hx : y - 2 ^ i = y ^^^ 2 ^ i := by omega
  rw [hx, Nat.testBit_xor, Nat.testBit_two_pow]
  by_cases hj : i = j
  · subst hj; rw [h]; simp
  · have : j ≠ i := fun e => hj e.symm
    simp [hj, this]
def subB (a b : Nat) : Prop := ∀ i, a.testBit i = true → b.testBit i = true
theorem subB_refl (a : Nat) : subB a a := fun _ h => h
theorem subB_sub {y i : Nat} (h : y.testBit i = true) : subB (y - 2 ^ i) y := fun j hj => by rw [sub_pow_bit h, Bool.and_eq_true] at hj; exact hj.1
theorem exists_prime (k : Nat) (ok : Nat → Bool) : ∀ (m y n : Nat), y + n ≤ m → y < 2 ^ k → n < 2 ^ k → y &&& n = 0 → impB k ok y n = true → ∃ y' n', subB y' y ∧ subB n' n ∧ y' < 2 ^ k ∧ n' < 2 ^ k ∧ y' &&& n' = 0 ∧ prB k ok y' n' = true
  | m, y, n, hm, hy, hn, hd, hi => by
    by_cases hp : prB k ok y n = true
    · exact ⟨y, n, subB_refl y, subB_refl n, hy, hn, hd, hp⟩
    · have hex : ∃ i, i < k ∧ stepB k ok y n i = true := by
        apply Decidable.byContradiction
        intro hno
        exact hp (prB_true hi fun i hik => tb2 fun h => hno ⟨i, hik, h⟩)
      obtain ⟨i, hik, hs⟩ := hex
      unfold stepB at hs
      rw [Bool.or_eq_true, Bool.and_eq_true, Bool.and_eq_true] at hs
      have hpos : 0 < 2 ^ i := Nat.pow_pos (by decide)
      rcases hs with ⟨hb, h2⟩ | ⟨hb, h2⟩
      · have hle := bit_le hb
        obtain ⟨y', n', s1, s2, r⟩ := exists_prime k ok (m - 1) (y - 2 ^ i) n (by omega) (by omega) hn (sub_pow_and hb hd) h2
        exact ⟨y', n', fun j hj => subB_sub hb j (s1 j hj), s2, r⟩
      · have hle := bit_le hb
        have hd2 : y &&& (n - 2 ^ i) = 0 := by rw [Nat.and_comm]; exact sub_pow_and hb (by rw [Nat.and_comm]; exact hd)
        obtain ⟨y', n', s1, s2, r⟩ := exists_prime k ok (m - 1) y (n - 2 ^ i) (by omega) hy (by omega) hd2 h2
        exact ⟨y', n', s1, fun j hj => subB_sub hb j (s2 j hj), r⟩
termination_by m => m
decreasing_by all_goals omega

def mskTo (roles : List Nat) (S : Nat) : Nat → Nat
  | 0 => 0
  | t + 1 => mskTo roles S t + (if S.testBit (roles.getD t 0) = true then 2 ^ t else 0)
def msk (roles : List Nat) (S : Nat) : Nat := mskTo roles S roles.length
theorem mskTo_lt (roles : List Nat) (S : Nat) : ∀ t, mskTo roles S t < 2 ^ t
  | 0 => by simp [mskTo]
  | t + 1 => by
    have := mskTo_lt roles S t
    simp only [mskTo, Nat.pow_succ]
    split <;> omega
theorem mskTo_bit (roles : List Nat) (S j : Nat) : ∀ t, (mskTo roles S t).testBit j = (decide (j < t) && S.testBit (roles.getD j 0))
  | 0 => by simp [mskTo]
  | t + 1 => by
    have ih := mskTo_bit roles S j t
    have hlt := mskTo_lt roles S t
    simp only [mskTo]
    by_cases hb : S.testBit (roles.getD t 0) = true
    · rw [if_pos hb, Nat.add_comm]
      by_cases hj : j = t
      · subst hj
        rw [Nat.testBit_two_pow_add_eq, Nat.testBit_lt_two_pow hlt, hb]
        simp
      · by_cases hj2 : j < t
        · rw [Nat.testBit_two_pow_add_gt hj2, ih]
          simp [hj2, show j < t + 1 by omega]
        · have : 2 ^ t + mskTo roles S t < 2 ^ j := by
            have := Nat.pow_le_pow_right (n := 2) (by decide) (show t + 1 ≤ j by omega)
            rw [Nat.pow_succ] at this
            omega
          rw [Nat.testBit_lt_two_pow this]
          simp [show ¬ j < t + 1 by omega]
    · rw [if_neg hb, Nat.add_zero, ih]
      by_cases hj : j = t
      · subst hj; rw [tb hb, Bool.and_false, Bool.and_false]
      · by_cases hj2 : j < t
        · simp [hj2, show j < t + 1 by omega]
        · simp [hj2, show ¬ j < t + 1 by omega]
theorem msk_lt (roles : List Nat) (S : Nat) : msk roles S < 2 ^ roles.length := mskTo_lt _ _ _
theorem msk_bit (roles : List Nat) (S j : Nat) : (msk roles S).testBit j = (decide (j < roles.length) && S.testBit (roles.getD j 0)) := mskTo_bit _ _ _ _
theorem setM_bit (roles : List Nat) (m j : Nat) : (setM roles m).testBit j = true ↔ ∃ t, t < roles.length ∧ m.testBit t = true ∧ roles.getD t 0 = j := setTo_testBit roles m j _
theorem bitK_lt {k y i : Nat} (hy : y < 2 ^ k) (h : y.testBit i = true) : i < k := by
  apply Decidable.byContradiction
  intro hn
  have : y < 2 ^ i := Nat.lt_of_lt_of_le hy (Nat.pow_le_pow_right (by decide) (by omega))
  rw [Nat.testBit_lt_two_pow this] at h
  cases h
theorem ho_betw (roles : List Nat) {y n : Nat} (hy : y < 2 ^ roles.length) (hn : n < 2 ^ roles.length) (S : Nat) : hoC (setM roles y, setM roles n) S = betw y n (msk roles S) := by
  rw [Bool.eq_iff_iff, ho_iff, betw_iff]
  constructor
  · rintro ⟨h1, h2⟩
    refine ⟨fun t ht => ?_, fun t ht => ?_⟩
    · have hl := bitK_lt hy ht
      rw [msk_bit, h1 _ ((setM_bit _ _ _).2 ⟨t, hl, ht, rfl⟩)]
      simp [hl]
    · have hl := bitK_lt hn ht
      rw [msk_bit, h2 _ ((setM_bit _ _ _).2 ⟨t, hl, ht, rfl⟩)]
      simp
  · rintro ⟨h1, h2⟩
    refine ⟨fun i hi => ?_, fun i hi => ?_⟩
    · obtain ⟨t, hl, ht, rfl⟩ := (setM_bit _ _ _).1 hi
      have := h1 t ht
      rw [msk_bit, Bool.and_eq_true] at this
      exact this.2
    · obtain ⟨t, hl, ht, rfl⟩ := (setM_bit _ _ _).1 hi
      have := h2 t ht
      rw [msk_bit, decide_eq_true hl, Bool.true_and] at this
      exact this
theorem prL_mem {ok : Nat → Bool} {roles : List Nat} {c : Cu} : c ∈ prL ok roles ↔ ∃ y n, y < 2 ^ roles.length ∧ n < 2 ^ roles.length ∧ y &&& n = 0 ∧ prB roles.length ok y n = true ∧ c = (setM roles y, setM roles n) := by
  rw [prL_eq, List.mem_map]
  constructor
  · rintro ⟨p, hp, rfl⟩
    rw [List.mem_filter, cubesA_mem] at hp
    exact ⟨p.1, p.2, hp.1.1, hp.1.2.1, hp.1.2.2, hp.2, rfl⟩
  · rintro ⟨y, n, h1, h2, h3, h4, rfl⟩
    exact ⟨(y, n), List.mem_filter.2 ⟨cubesA_mem.2 ⟨h1, h2, h3⟩, h4⟩, rfl⟩
theorem prB_imp {k : Nat} {ok : Nat → Bool} {y n : Nat} (h : prB k ok y n = true) : impB k ok y n = true := by
  unfold prB at h; rw [Bool.and_eq_true] at h; exact h.1
theorem soC_prL (ok : Nat → Bool) (roles : List Nat) (S : Nat) : soC (prL ok roles) S = ok (msk roles S) := by
  rw [Bool.eq_iff_iff]
  unfold soC
  rw [List.any_eq_true]
  constructor
  · rintro ⟨c, hc, hs⟩
    obtain ⟨y, n, h1, h2, h3, h4, rfl⟩ := prL_mem.1 hc
    rw [ho_betw roles h1 h2] at hs
    exact impB_iff.1 (prB_imp h4) _ (msk_lt _ _) hs
  · intro hok
    have hm := msk_lt roles S
    generalize hmm : msk roles S = m at *
    obtain ⟨n, hn⟩ : ∃ n, n = 2 ^ roles.length - 1 - m := ⟨_, rfl⟩
    have hnb : ∀ i, n.testBit i = (decide (i < roles.length) && !m.testBit i) := fun i => by rw [hn, show 2 ^ roles.length - 1 - m = 2 ^ roles.length - (m + 1) by omega]; exact Nat.testBit_two_pow_sub_succ hm i
    have hd : m &&& n = 0 := (and_zero_iff _ _).2 fun i hi => by rw [hnb, hi]; simp
    have hf : impB roles.length ok m n = true := by
      rw [impB_full ok hm hd fun i hi => by rw [Nat.testBit_or, hnb]; simp [hi]]
      exact hok
    obtain ⟨y', n', s1, s2, h1, h2, h3, h4⟩ := exists_prime roles.length ok (m + n) m n (Nat.le_refl _) hm (by omega) hd hf
    refine ⟨_, prL_mem.2 ⟨y', n', h1, h2, h3, h4, rfl⟩, ?_⟩
    rw [ho_betw roles h1 h2, hmm, betw_iff]
    refine ⟨s1, fun i hi => ?_⟩
    have := s2 i hi
    rw [hnb, Bool.and_eq_true, Bool.not_eq_true'] at this
    exact this.2
end Go.Proofs.YtifohjijhhjdkaaDoor

namespace Go.Proofs.YtifohjijhhjdkaaDoor
open Go.RowKit
set_option linter.unusedVariables false

def Impl (φ : Nat → Bool) (c : Cu) : Prop := ∀ S, hoC c S = true → φ S = true
structure Prime (φ : Nat → Bool) (c : Cu) : Prop where
  dis : c.1 &&& c.2 = 0
  imp : Impl φ c
  yes : ∀ i, c.1.testBit i = true → ¬ Impl φ (c.1 - 2 ^ i, c.2)
  no : ∀ i, c.2.testBit i = true → ¬ Impl φ (c.1, c.2 - 2 ^ i)
def Dep (N : Nat) (φ : Nat → Bool) : Prop := ∀ S T, (∀ i, N.testBit i = true → S.testBit i = T.testBit i) → φ S = φ T

theorem mem_getD {N t : Nat} (hN : N < 18446744073709551616) (ht : t < (mem N).length) : N.testBit ((mem N).getD t 0) = true := by
  rw [List.getD_eq_getElem?_getD, List.getElem?_eq_getElem ht]
  exact (mem_iff hN).1 (List.getElem_mem ht)
section
variable {N : Nat} (hN : N < 18446744073709551616)
include hN
theorem mem_at {i : Nat} (h : N.testBit i = true) : ∃ t, t < (mem N).length ∧ (mem N).getD t 0 = i := by
  obtain ⟨t, ht, he⟩ := List.getElem_of_mem ((mem_iff hN).2 h)
  exact ⟨t, ht, by rw [List.getD_eq_getElem?_getD, List.getElem?_eq_getElem ht]; exact he⟩
theorem setM_msk (S i : Nat) : (setM (mem N) (msk (mem N) S)).testBit i = (N.testBit i && S.testBit i) := by
  rw [Bool.eq_iff_iff, Bool.and_eq_true, setM_bit]
  constructor
  · rintro ⟨t, h1, h2, rfl⟩
    rw [msk_bit, Bool.and_eq_true] at h2
    exact ⟨mem_getD hN h1, h2.2⟩
  · rintro ⟨h1, h2⟩
    obtain ⟨t, ht, rfl⟩ := mem_at hN h1
    exact ⟨t, ht, by rw [msk_bit, h2]; simp [ht], rfl⟩
theorem dep_msk {φ : Nat → Bool} (hd : Dep N φ) (S : Nat) : φ (setM (mem N) (msk (mem N) S)) = φ S := hd _ _ fun i hi => by rw [setM_msk hN, hi, Bool.true_and]
end
theorem soC_perm {l m : List Cu} (h : l.Perm m) (S : Nat) : soC l S = soC m S := by
  unfold soC
  rw [Bool.eq_iff_iff, List.any_eq_true, List.any_eq_true]
  exact ⟨fun ⟨c, h1, h2⟩ => ⟨c, h.mem_iff.1 h1, h2⟩, fun ⟨c, h1, h2⟩ => ⟨c, h.mem_iff.2 h1, h2⟩⟩
theorem soC_sort {N : Nat} (hN : N < 18446744073709551616) {φ : Nat → Bool} (hd : Dep N φ) (S : Nat) : soC (sortC (prL (okM (mem N) φ) (mem N))) S = φ S := by
  rw [soC_perm (sortC_perm _), soC_prL]
  exact dep_msk hN hd S
end Go.Proofs.YtifohjijhhjdkaaDoor

namespace Go.Proofs.YtifohjijhhjdkaaDoor
open Go.RowKit
set_option linter.unusedVariables false
attribute [local irreducible] aw opsK dK

theorem mentL_mem : ∀ {l : List Fm} {a : Fm}, a ∈ l → ∀ i, (mentF a).testBit i = true → (mentL l).testBit i = true
  | [], _, h, _, _ => by cases h
  | b :: l, a, h, i, hi => by
    simp only [mentL, Nat.testBit_or, Bool.or_eq_true]
    rcases List.mem_cons.1 h with rfl | h
    · exact .inl hi
    · exact .inr (mentL_mem h i hi)
theorem mentF_arg {f a : Fm} (h : a ∈ f.args) {i : Nat} (hi : (mentF a).testBit i = true) : (mentF f).testBit i = true := by
  rw [mentF_eq, Nat.testBit_or, Bool.or_eq_true]; exact .inr (mentL_mem h i hi)
theorem mentF_role {f : Fm} {r : Int} (h : r ∈ f.roles) : (mentF f).testBit r.toNat = true := by
  rw [mentF_eq, Nat.testBit_or, Bool.or_eq_true]; exact .inl ((rset_bit _ _).2 ⟨r, h, rfl⟩)
theorem cntM_dep {N s : Nat} : ∀ {l : List Int}, (∀ r ∈ l, N.testBit r.toNat = s.testBit r.toNat) → cntM N l = cntM s l := by
  intro l
  induction l with
  | nil => intro _; rfl
  | cons a r ih =>
    intro h
    have := ih fun x hx => h x (by simp [hx])
    simp only [cntM, List.map_cons, List.sum_cons] at *
    rw [h a (by simp), this]
theorem evM_dep {N s : Nat} (ms : List Int) : ∀ (d : Nat) (f : Fm), f.depth ≤ d → (∀ i, (mentF f).testBit i = true → N.testBit i = s.testBit i) → evM N ms f = evM s ms f := by
  intro d
  induction d with
  | zero => intro f hf; rw [Fm.depth_eq] at hf; omega
  | succ d ih =>
    rintro ⟨op, n, roles, args⟩ hf h
    have hargs : evL N ms args = evL s ms args := by
      have hd : depthL args ≤ d := by have := (Fm.mk op n roles args).depth_eq; simp only [Fm.args] at this; omega
      have : ∀ l : List Fm, (∀ a ∈ l, a ∈ args) → evL N ms l = evL s ms l := by
        intro l
        induction l with
        | nil => intro _; rfl
        | cons a r ihl =>
          intro hl
          have ha := hl a (by simp)
          obtain ⟨i, hi, he⟩ := List.getElem_of_mem ha
          have := depthL_mem hi
          simp only [evL]
          rw [ih a (by rw [← he]; omega) (fun i hi => h i (mentF_arg (f := .mk op n roles args) ha hi)), ihl fun x hx => hl x (by simp [hx])]
      exact this args fun _ h => h
    have hc : cntM N roles = cntM s roles := cntM_dep fun r hr => h _ (mentF_role (f := .mk op n roles args) hr)
    simp only [evM, opM, hargs, hc]
theorem vioB_dep (f : Fm) : Dep (mentF f) (vioB f) := fun S T h => by unfold vioB; rw [evM_dep [] f.depth f (Nat.le_refl _) h]
theorem check_lt {f : Fm} (h : checkM f = 0) : mentF f < 18446744073709551616 := mentF_lt f.depth f (Nat.le_refl _) (check_inv h).2.1
theorem vio_sat {f : Fm} (h : checkM f = 0) (S : Nat) : soC (vioL f) S = vioB f S := by
  unfold vioL
  rw [if_pos h]
  exact soC_sort (check_lt h) (vioB_dep f) S
theorem in6_inv {k : Int} {f : Fm} (h : in6 k f = true) : (k = 3 ∨ f.op ≠ 6) ∧ (∀ r ∈ f.roles, r ≤ 6) ∧ ∀ a ∈ f.args, in6 k a = true := by
  rw [in6_eq] at h
  simp only [Bool.and_eq_true, Bool.or_eq_true, decide_eq_true_eq, ne6_iff, List.all_eq_true] at h
  refine ⟨h.1.1, h.1.2, ?_⟩
  have : ∀ l : List Fm, in6L k l = true → ∀ a ∈ l, in6 k a = true := by
    intro l
    induction l with
    | nil => intro _ a ha; cases ha
    | cons b l ih =>
      intro hl a ha
      simp only [in6L, Bool.and_eq_true] at hl
      rcases List.mem_cons.1 ha with rfl | ha
      · exact hl.1
      · exact ih hl.2 a ha
  exact this _ h.2
theorem in6_inside : ∀ (d : Nat) (f : Fm), f.depth ≤ d → Wf f → in6 1 f = true → insideM 1 f = 0
  | 0, f, h, _, _ => by rw [Fm.depth_eq] at h; omega
  | d + 1, f, h, w, hi => by
    obtain ⟨h1, _, h3⟩ := in6_inv hi
    have hk : nodeK 1 f = 0 := by
      have h6 : f.op ≠ 6 := by rcases h1 with h1 | h1
                               · exact absurd h1 (by decide)
                               · exact h1
      unfold nodeK
      rw [if_pos w.node, if_neg]
      simp [badKind, h6]
    rw [insideM_eq, if_pos hk]
    refine insideL_zero fun a ha => ?_
    obtain ⟨i, hil, he⟩ := List.getElem_of_mem ha
    have := depthL_mem hil
    have := f.depth_eq
    exact in6_inside d a (by rw [← he]; omega) (w.arg a ha).1 (h3 a ha)
theorem in6_ment {k : Int} : ∀ (d : Nat) (f : Fm), f.depth ≤ d → Wf f → in6 k f = true → ∀ i, (mentF f).testBit i = true → 1 ≤ i ∧ i ≤ 6
  | 0, f, h, _, _, _, _ => by rw [Fm.depth_eq] at h; omega
  | d + 1, f, h, w, hi, i, hb => by
    obtain ⟨_, h2, h3⟩ := in6_inv hi
    rw [mentF_eq, Nat.testBit_or, Bool.or_eq_true] at hb
    rcases hb with hb | hb
    · obtain ⟨r, hr, rfl⟩ := (rset_bit _ _).1 hb
      have := w.inv'.rng r hr
      have := h2 r hr
      omega
    · have : ∀ l : List Fm, (mentL l).testBit i = true → ∃ a ∈ l, (mentF a).testBit i = true := by
        intro l
        induction l with
        | nil => intro h; simp [mentL] at h
        | cons b l ih =>
          intro h
          simp only [mentL, Nat.testBit_or, Bool.or_eq_true] at h
          rcases h with h | h
          · exact ⟨b, List.mem_cons_self .., h⟩
          · obtain ⟨a, ha, hb⟩ := ih h
            exact ⟨a, List.mem_cons_of_mem _ ha, hb⟩
      obtain ⟨a, ha, hab⟩ := this _ hb
      obtain ⟨j, hjl, he⟩ := List.getElem_of_mem ha
      have := depthL_mem hjl
      have := f.depth_eq
      exact in6_ment d a (by rw [← he]; omega) (w.arg a ha).1 (h3 a ha) i hab
theorem made_check {f : Fm} (w : Wf f) (ht : typeM f.op = 1) (hd : f.depth ≤ 10) (hs : f.size ≤ 200) (hi : in6 1 f = true) : checkM f = 0 := by
  have hin := in6_inside f.depth f (Nat.le_refl _) w hi
  have hl : lookM 1 f = 0 := by unfold lookM; rw [if_neg (by omega)]; exact hin
  have h8 : (mem (mentF f)).length ≤ 8 := by
    have hm : (mem (mentF f)).length ≤ (List.range 7).length := by
      have hsub : (mem (mentF f)) = (List.range 7).filter fun i => (mentF f).testBit i := by
        unfold mem
        rw [show (64 : Nat) = 7 + 57 from rfl, List.range_add, List.filter_append]
        have : ((List.range 57).map (7 + ·)).filter (fun i => (mentF f).testBit i) = [] := by
          rw [List.filter_eq_nil_iff]
          intro a ha hb
          obtain ⟨x, _, rfl⟩ := List.mem_map.1 ha
          have := in6_ment f.depth f (Nat.le_refl _) w hi _ hb
          omega
        rw [this, List.append_nil]
      rw [hsub]
      exact List.length_filter_le _ _
    rw [List.length_range] at hm
    omega
  unfold checkM
  rw [hl, if_neg (by decide), if_pos ⟨w.2, ht⟩, if_neg (by omega)]
theorem vio_ev {f : Fm} (w : Wf f) (ht : typeM f.op = 1) (S : Nat) : decide (evM S [] f = 1) = !vioB f S := by
  unfold vioB
  rcases (evM_range S [] f.depth f (Nat.le_refl _) w).2 ht with h | h <;> rw [h] <;> rfl
end Go.Proofs.YtifohjijhhjdkaaDoor

namespace Go.Proofs.YtifohjijhhjdkaaDoor
open Go.RowKit
set_option linter.unusedVariables false
attribute [local irreducible] aw opsK dK

structure Made6 (f : Fm) : Prop where
  wf : Wf f
  ty : typeM f.op = 1
  depth : f.depth ≤ 10
  size : f.size ≤ 200
  in6 : in6 1 f = true
theorem Made6.check {f : Fm} (m : Made6 f) : checkM f = 0 := made_check m.wf m.ty m.depth m.size m.in6
theorem vioL_ok (f : Fm) : ∀ c ∈ vioL f, Ok64 c := fun c hc => by
  unfold vioL at hc
  split at hc
  · exact sortC_64 (fun c hc => prL_64 (fun r hr => mem_lt hr) hc) c hc
  · cases hc
def holdB (f : Fm) (S : Nat) : Bool := decide (evM S [] f = 1)
theorem Made6.hold {f : Fm} (m : Made6 f) (S : Nat) : holdB f S = !vioB f S := vio_ev m.wf m.ty S
end Go.Proofs.YtifohjijhhjdkaaDoor

namespace Go.Proofs.YtifohjijhhjdkaaDoor
open Go.RowKit
set_option linter.unusedVariables false
attribute [local irreducible] aw opsK dK

theorem made_holds (N : Nat) (f : Fm) (m : Made6 f) : Spec Tryd.prog 41 [.agg (fC .u8 f), setN N, .vec [] true] (· = .val (.bool (holdB f N))) := by
  have hd := m.depth
  have hs := m.size
  have := holds_spec N [] true f (by omega) (by omega)
  have e : typeOfE f = 0 ∧ typeOfT f = 1 := by
    unfold typeOfE typeOfT
    rw [if_neg (by omega), if_pos m.wf.1, if_pos m.wf.2, if_neg (by omega), if_pos m.wf.1, if_pos m.wf.2]
    exact ⟨rfl, m.ty⟩
  rw [e.1, e.2] at this
  exact this
theorem madeG_made {r : PV} (h : MadeG r) : ∃ f, Made6 f ∧ r = .tup [.agg (fC .u8 f), .agg (fC .i64 f)] := by
  obtain ⟨f, h1, h2, h3, h4, h5, rfl⟩ := h
  exact ⟨f, ⟨h1, h2, by omega, by omega, h5⟩, rfl⟩
theorem and_u64 (a b : Nat) (ha : a < 18446744073709551616) (hb : b < 18446744073709551616) : bits .and .u64 (a : Int) (b : Int) = ((a &&& b : Nat) : Int) := by
  have h1 : (BitVec.ofInt 64 (a : Int)).toNat = a := by rw [BitVec.ofInt_natCast, BitVec.toNat_ofNat]; exact Nat.mod_eq_of_lt (by omega)
  have h2 : (BitVec.ofInt 64 (b : Int)).toNat = b := by rw [BitVec.ofInt_natCast, BitVec.toNat_ofNat]; exact Nat.mod_eq_of_lt (by omega)
  show IntKind.u64.wrap ((BitVec.ofInt 64 (a : Int) &&& BitVec.ofInt 64 (b : Int)).toNat : Int) = _
  rw [BitVec.toNat_and, h1, h2]
  have : a &&& b ≤ a := Nat.and_le_left
  exact IntWalk.u64_in _ ⟨by omega, by omega⟩
def setsOf (s : Nat) : List Nat := [s, s &&& 126, s / 2 ^ 8 &&& 126, s / 2 ^ 16 &&& 126]
def setC (s : Nat) : List PV := [.vec (words (digs s)) false]
set_option maxHeartbeats 4000000 in
theorem normalMeans_law (l : List Nat) (s : Nat) (f1 : Bool) (hl : Bytes l) (hs : s < 18446744073709551616) : Spec Tryd.prog 9 [.vec (bys l) f1, .val (.int .u64 (s : Int))] (· = .val (.bool true)) := by
  refine spec_intro ok9 (Nat.le_of_ble_eq_true rfl) fun C hC => ?_
  repeat' (first|refine aw_seq ?_|refine aw_region ?_|refine aw_draw [] ?_|refine opsK_done ?_|refine opsK_on rfl ?_|refine opsK_off rfl ?_|(refine opsK_bool rfl rfl rfl (fun hb=>?_) (fun hb=>?_)<;>try cases hb)|refine opsK_of rfl rfl rfl ?_|refine opsK_new rfl rfl rfl ?_|refine dK_done ?_|refine dK_on rfl ?_|refine dK_off ⟨_,rfl,nofun⟩ ?_|(refine dK_bool rfl rfl rfl (fun hb=>?_) (fun hb=>?_)<;>try cases hb)|refine dK_of rfl rfl rfl ?_|refine aw_condT rfl ?_|refine aw_condF rfl ?_|(refine aw_cond rfl (fun hb=>?_) (fun hb=>?_)<;>try cases hb)|refine aw_block ?_|refine aw_skip ?_|refine aw_exit ?_|refine aw_ret ?_)
  refine opsK_eq awake19_spec rfl rfl rfl trivial rfl ?_
  repeat' (first|refine aw_seq ?_|refine aw_region ?_|refine aw_draw [] ?_|refine opsK_done ?_|refine opsK_on rfl ?_|refine opsK_off rfl ?_|(refine opsK_bool rfl rfl rfl (fun hb=>?_) (fun hb=>?_)<;>try cases hb)|refine opsK_of rfl rfl rfl ?_|refine opsK_new rfl rfl rfl ?_|refine dK_done ?_|refine dK_on rfl ?_|refine dK_off ⟨_,rfl,nofun⟩ ?_|(refine dK_bool rfl rfl rfl (fun hb=>?_) (fun hb=>?_)<;>try cases hb)|refine dK_of rfl rfl rfl ?_|refine aw_condT rfl ?_|refine aw_condF rfl ?_|(refine aw_cond rfl (fun hb=>?_) (fun hb=>?_)<;>try cases hb)|refine aw_block ?_|refine aw_skip ?_|refine aw_exit ?_|refine aw_ret ?_)
  refine opsK_spec rfl rfl (make19_spec l hl f1) ⟨bys_pure l, trivial⟩ rfl ?_
  intro r hr
  obtain ⟨f, m, rfl⟩ := madeG_made hr
  have hok := vioL_ok f
  repeat' (first|refine aw_seq ?_|refine aw_region ?_|refine aw_draw [] ?_|refine opsK_done ?_|refine opsK_on rfl ?_|refine opsK_off rfl ?_|(refine opsK_bool rfl rfl rfl (fun hb=>?_) (fun hb=>?_)<;>try cases hb)|refine opsK_of rfl rfl rfl ?_|refine opsK_new rfl rfl rfl ?_|refine dK_done ?_|refine dK_on rfl ?_|refine dK_off ⟨_,rfl,nofun⟩ ?_|(refine dK_bool rfl rfl rfl (fun hb=>?_) (fun hb=>?_)<;>try cases hb)|refine dK_of rfl rfl rfl ?_|refine aw_condT rfl ?_|refine aw_condF rfl ?_|(refine aw_cond rfl (fun hb=>?_) (fun hb=>?_)<;>try cases hb)|refine aw_block ?_|refine aw_skip ?_|refine aw_exit ?_|refine aw_ret ?_)
  refine opsK_eq (violations_spec f (by have := m.depth; omega) (by have := m.size; omega)) rfl rfl rfl ⟨fC_pure _ _, trivial⟩ rfl ?_
  rw [m.check]
  repeat' (first|refine aw_seq ?_|refine aw_region ?_|refine aw_draw [] ?_|refine opsK_done ?_|refine opsK_on rfl ?_|refine opsK_off rfl ?_|(refine opsK_bool rfl rfl rfl (fun hb=>?_) (fun hb=>?_)<;>try cases hb)|refine opsK_of rfl rfl rfl ?_|refine opsK_new rfl rfl rfl ?_|refine dK_done ?_|refine dK_on rfl ?_|refine dK_off ⟨_,rfl,nofun⟩ ?_|(refine dK_bool rfl rfl rfl (fun hb=>?_) (fun hb=>?_)<;>try cases hb)|refine dK_of rfl rfl rfl ?_|refine aw_condT rfl ?_|refine aw_condF rfl ?_|(refine aw_cond rfl (fun hb=>?_) (fun hb=>?_)<;>try cases hb)|refine aw_block ?_|refine aw_skip ?_|refine aw_exit ?_|refine aw_ret ?_)
  have hlow : ∀ x, x &&& 126 < 18446744073709551616 := fun x => Nat.lt_of_le_of_lt Nat.and_le_right (by decide)
  have h0 : bits .and .u64 (s : Int) 126 = ((s &&& 126 : Nat) : Int) := and_u64 s 126 hs (by decide)
  have h8 : bits .and .u64 (Int.fdiv (s : Int) (2 ^ (min (8 : Int).toNat IntKind.u64.bits))) 126 = ((s / 2 ^ 8 &&& 126 : Nat) : Int) := by
    rw [show Int.fdiv (s : Int) (2 ^ (min (8 : Int).toNat IntKind.u64.bits)) = ((s / 2 ^ 8 : Nat) : Int) from shr_u64 s 8 (by decide)]
    exact and_u64 _ 126 (Nat.lt_of_le_of_lt (Nat.div_le_self _ _) hs) (by decide)
  have h16 : bits .and .u64 (Int.fdiv (s : Int) (2 ^ (min (16 : Int).toNat IntKind.u64.bits))) 126 = ((s / 2 ^ 16 &&& 126 : Nat) : Int) := by
    rw [show Int.fdiv (s : Int) (2 ^ (min (16 : Int).toNat IntKind.u64.bits)) = ((s / 2 ^ 16 : Nat) : Int) from shr_u64 s 16 (by decide)]
    exact and_u64 _ 126 (Nat.lt_of_le_of_lt (Nat.div_le_self _ _) hs) (by decide)
  refine opsK_sub (subA_freezeBox (k := 5) (l := fC .u8 f) rfl rfl (fC_pure _ _)) ?_
  refine opsK_eq (set14_spec s hs) rfl rfl rfl ⟨trivial, trivial⟩ rfl ?_
  repeat' (first|refine aw_seq ?_|refine aw_region ?_|refine aw_draw [] ?_|refine opsK_done ?_|refine opsK_on rfl ?_|refine opsK_off rfl ?_|(refine opsK_bool rfl rfl rfl (fun hb=>?_) (fun hb=>?_)<;>try cases hb)|refine opsK_of rfl rfl rfl ?_|refine opsK_new rfl rfl rfl ?_|refine dK_done ?_|refine dK_on rfl ?_|refine dK_off ⟨_,rfl,nofun⟩ ?_|(refine dK_bool rfl rfl rfl (fun hb=>?_) (fun hb=>?_)<;>try cases hb)|refine dK_of rfl rfl rfl ?_|refine aw_condT rfl ?_|refine aw_condF rfl ?_|(refine aw_cond rfl (fun hb=>?_) (fun hb=>?_)<;>try cases hb)|refine aw_block ?_|refine aw_skip ?_|refine aw_exit ?_|refine aw_ret ?_)
  refine opsK_eq (set14_spec (s &&& 126) (hlow _)) rfl rfl (by rw [← h0]; rfl) ⟨trivial, trivial⟩ rfl ?_
  repeat' (first|refine aw_seq ?_|refine aw_region ?_|refine aw_draw [] ?_|refine opsK_done ?_|refine opsK_on rfl ?_|refine opsK_off rfl ?_|(refine opsK_bool rfl rfl rfl (fun hb=>?_) (fun hb=>?_)<;>try cases hb)|refine opsK_of rfl rfl rfl ?_|refine opsK_new rfl rfl rfl ?_|refine dK_done ?_|refine dK_on rfl ?_|refine dK_off ⟨_,rfl,nofun⟩ ?_|(refine dK_bool rfl rfl rfl (fun hb=>?_) (fun hb=>?_)<;>try cases hb)|refine dK_of rfl rfl rfl ?_|refine aw_condT rfl ?_|refine aw_condF rfl ?_|(refine aw_cond rfl (fun hb=>?_) (fun hb=>?_)<;>try cases hb)|refine aw_block ?_|refine aw_skip ?_|refine aw_exit ?_|refine aw_ret ?_)
  refine opsK_eq (set14_spec (s / 2 ^ 8 &&& 126) (hlow _)) rfl rfl (by rw [← h8]; rfl) ⟨trivial, trivial⟩ rfl ?_
  repeat' (first|refine aw_seq ?_|refine aw_region ?_|refine aw_draw [] ?_|refine opsK_done ?_|refine opsK_on rfl ?_|refine opsK_off rfl ?_|(refine opsK_bool rfl rfl rfl (fun hb=>?_) (fun hb=>?_)<;>try cases hb)|refine opsK_of rfl rfl rfl ?_|refine opsK_new rfl rfl rfl ?_|refine dK_done ?_|refine dK_on rfl ?_|refine dK_off ⟨_,rfl,nofun⟩ ?_|(refine dK_bool rfl rfl rfl (fun hb=>?_) (fun hb=>?_)<;>try cases hb)|refine dK_of rfl rfl rfl ?_|refine aw_condT rfl ?_|refine aw_condF rfl ?_|(refine aw_cond rfl (fun hb=>?_) (fun hb=>?_)<;>try cases hb)|refine aw_block ?_|refine aw_skip ?_|refine aw_exit ?_|refine aw_ret ?_)
  refine opsK_eq (set14_spec (s / 2 ^ 16 &&& 126) (hlow _)) rfl rfl (by rw [← h16]; rfl) ⟨trivial, trivial⟩ rfl ?_
  have hxs : ∀ x ∈ setsOf s, x < 18446744073709551616 := by
    intro x hx
    simp only [setsOf, List.mem_cons, List.not_mem_nil, or_false] at hx
    rcases hx with rfl | rfl | rfl | rfl
    · exact hs
    all_goals exact hlow _
  obtain ⟨xs, hx⟩ : ∃ xs, xs = setsOf s := ⟨_, rfl⟩
  rw [← hx] at hxs
  have hxl : xs.length = 4 := by rw [hx]; rfl
  have hxp : ∀ D, innLL D (xs.map setC) := fun D => innLL_mono (fun _ h => h.elim) _ (pureLL_enc (enc := setC) (fun x => ⟨words_pure _, trivial⟩) xs)
  have hfp := fun D => fC_inn .u8 f D
  have hvp : ∀ D, innLL D ((vioL f).map cuC) := fun D => innLL_mono (fun _ h => h.elim) _ (cubes_pure _)
  repeat' (first|refine aw_seq ?_|refine aw_region ?_|refine aw_draw [] ?_|refine opsK_done ?_|refine opsK_on rfl ?_|refine opsK_off rfl ?_|(refine opsK_bool rfl rfl rfl (fun hb=>?_) (fun hb=>?_)<;>try cases hb)|refine opsK_of rfl rfl rfl ?_|refine opsK_new rfl rfl rfl ?_|refine dK_done ?_|refine dK_on rfl ?_|refine dK_off ⟨_,rfl,nofun⟩ ?_|(refine dK_bool rfl rfl rfl (fun hb=>?_) (fun hb=>?_)<;>try cases hb)|refine dK_of rfl rfl rfl ?_|refine aw_condT rfl ?_|refine aw_condF rfl ?_|(refine aw_cond rfl (fun hb=>?_) (fun hb=>?_)<;>try cases hb)|refine aw_block ?_|refine aw_skip ?_|refine aw_exit ?_|refine aw_ret ?_)
  refine aw_loopH hC (fun i => i ≤ 4) (fun i => 4 - i) 0 (fun i => [(5, .cp (fC .u8 f)), (7, .vec ((vioL f).map cuC) false), (38, .vec (xs.map setC) true), (39, .val (.int .i64 4)), (40, .val (.int .i64 (i : Int)))]) (fun _ => []) (Nat.le_refl _) 0 (Nat.zero_le _)
    ⟨⟨rfl, hfp _⟩, ⟨rfl, hvp _⟩, ⟨by rw [hx]; rfl, hxp _⟩, ⟨rfl, trivial⟩, ⟨rfl, trivial⟩, trivial⟩ trivial ?_
  intro i hi
  have hinc : IntKind.i64.wrap ((i : Int) + 1) = ((i + 1 : Nat) : Int) := IntWalk.i64_in _ ⟨by omega, by omega⟩
  iterate 2 (first|refine aw_seq ?_|refine aw_region ?_|refine aw_draw [] ?_|refine opsK_done ?_|refine opsK_on rfl ?_|refine opsK_off rfl ?_|(refine opsK_bool rfl rfl rfl (fun hb=>?_) (fun hb=>?_)<;>try cases hb)|refine opsK_of rfl rfl rfl ?_|refine opsK_new rfl rfl rfl ?_|refine dK_done ?_|refine dK_on rfl ?_|refine dK_off ⟨_,rfl,nofun⟩ ?_|(refine dK_bool rfl rfl rfl (fun hb=>?_) (fun hb=>?_)<;>try cases hb)|refine dK_of rfl rfl rfl ?_|refine aw_condT rfl ?_|refine aw_condF rfl ?_|(refine aw_cond rfl (fun hb=>?_) (fun hb=>?_)<;>try cases hb)|refine aw_block ?_|refine aw_skip ?_|refine aw_exit ?_|refine aw_ret ?_)
  refine opsK_bool rfl rfl rfl (fun hb => ?_) (fun hb => ?_)
  · have hil : i < xs.length := by have := of_decide_eq_true hb; omega
    have hxi := hxs _ (List.getElem_mem hil)
    clear hb
    repeat' (first|refine aw_seq ?_|refine aw_region ?_|refine aw_draw [] ?_|refine opsK_done ?_|refine opsK_on rfl ?_|refine opsK_off rfl ?_|(refine opsK_bool rfl rfl rfl (fun hb=>?_) (fun hb=>?_)<;>try cases hb)|refine opsK_of rfl rfl rfl ?_|refine opsK_new rfl rfl rfl ?_|refine dK_done ?_|refine dK_on rfl ?_|refine dK_off ⟨_,rfl,nofun⟩ ?_|(refine dK_bool rfl rfl rfl (fun hb=>?_) (fun hb=>?_)<;>try cases hb)|refine dK_of rfl rfl rfl ?_|refine aw_condT rfl ?_|refine aw_condF rfl ?_|(refine aw_cond rfl (fun hb=>?_) (fun hb=>?_)<;>try cases hb)|refine aw_block ?_|refine aw_skip ?_|refine aw_exit ?_|refine aw_ret ?_)
    refine opsK_of (E_iaddr (xs := xs) (g := setC) rfl rfl i rfl hil rfl) rfl rfl ?_
    repeat' (first|refine aw_seq ?_|refine aw_region ?_|refine aw_draw [] ?_|refine opsK_done ?_|refine opsK_on rfl ?_|refine opsK_off rfl ?_|(refine opsK_bool rfl rfl rfl (fun hb=>?_) (fun hb=>?_)<;>try cases hb)|refine opsK_of rfl rfl rfl ?_|refine opsK_new rfl rfl rfl ?_|refine dK_done ?_|refine dK_on rfl ?_|refine dK_off ⟨_,rfl,nofun⟩ ?_|(refine dK_bool rfl rfl rfl (fun hb=>?_) (fun hb=>?_)<;>try cases hb)|refine dK_of rfl rfl rfl ?_|refine aw_condT rfl ?_|refine aw_condF rfl ?_|(refine aw_cond rfl (fun hb=>?_) (fun hb=>?_)<;>try cases hb)|refine aw_block ?_|refine aw_skip ?_|refine aw_exit ?_|refine aw_ret ?_)
    refine dK_eq (made_holds xs[i] f m) rfl rfl rfl ⟨fC_pure _ _, setN_pure _, trivial, trivial⟩ ?_
    repeat' (first|refine aw_seq ?_|refine aw_region ?_|refine aw_draw [] ?_|refine opsK_done ?_|refine opsK_on rfl ?_|refine opsK_off rfl ?_|(refine opsK_bool rfl rfl rfl (fun hb=>?_) (fun hb=>?_)<;>try cases hb)|refine opsK_of rfl rfl rfl ?_|refine opsK_new rfl rfl rfl ?_|refine dK_done ?_|refine dK_on rfl ?_|refine dK_off ⟨_,rfl,nofun⟩ ?_|(refine dK_bool rfl rfl rfl (fun hb=>?_) (fun hb=>?_)<;>try cases hb)|refine dK_of rfl rfl rfl ?_|refine aw_condT rfl ?_|refine aw_condF rfl ?_|(refine aw_cond rfl (fun hb=>?_) (fun hb=>?_)<;>try cases hb)|refine aw_block ?_|refine aw_skip ?_|refine aw_exit ?_|refine aw_ret ?_)
    refine dK_eq (someC_spec (vioL f) false xs[i] hok hxi) rfl rfl rfl ⟨cubes_pure _, setN_pure _, trivial⟩ ?_
    refine dK_of (E_boolEq (v := false) rfl (by rw [vio_sat m.check, m.hold]; cases vioB f xs[i] <;> rfl)) rfl rfl ?_
    repeat' (first|refine aw_seq ?_|refine aw_region ?_|refine aw_draw [] ?_|refine opsK_done ?_|refine opsK_on rfl ?_|refine opsK_off rfl ?_|(refine opsK_bool rfl rfl rfl (fun hb=>?_) (fun hb=>?_)<;>try cases hb)|refine opsK_of rfl rfl rfl ?_|refine opsK_new rfl rfl rfl ?_|refine dK_done ?_|refine dK_on rfl ?_|refine dK_off ⟨_,rfl,nofun⟩ ?_|(refine dK_bool rfl rfl rfl (fun hb=>?_) (fun hb=>?_)<;>try cases hb)|refine dK_of rfl rfl rfl ?_|refine aw_condT rfl ?_|refine aw_condF rfl ?_|(refine aw_cond rfl (fun hb=>?_) (fun hb=>?_)<;>try cases hb)|refine aw_block ?_|refine aw_skip ?_|refine aw_exit ?_|refine aw_ret ?_)
    exact ⟨i + 1, by omega, by omega, ⟨⟨rfl, hfp _⟩, ⟨rfl, hvp _⟩, ⟨rfl, hxp _⟩, ⟨rfl, trivial⟩, ⟨by show some _ = some _; rw [hinc], trivial⟩, trivial⟩, trivial⟩
  · clear hb
    repeat' (first|refine aw_seq ?_|refine aw_region ?_|refine aw_draw [] ?_|refine opsK_done ?_|refine opsK_on rfl ?_|refine opsK_off rfl ?_|(refine opsK_bool rfl rfl rfl (fun hb=>?_) (fun hb=>?_)<;>try cases hb)|refine opsK_of rfl rfl rfl ?_|refine opsK_new rfl rfl rfl ?_|refine dK_done ?_|refine dK_on rfl ?_|refine dK_off ⟨_,rfl,nofun⟩ ?_|(refine dK_bool rfl rfl rfl (fun hb=>?_) (fun hb=>?_)<;>try cases hb)|refine dK_of rfl rfl rfl ?_|refine aw_condT rfl ?_|refine aw_condF rfl ?_|(refine aw_cond rfl (fun hb=>?_) (fun hb=>?_)<;>try cases hb)|refine aw_block ?_|refine aw_skip ?_|refine aw_exit ?_|refine aw_ret ?_)
    exact ret_ok rfl trivial rfl
end Go.Proofs.YtifohjijhhjdkaaDoor

namespace Go.Proofs.YtifohjijhhjdkaaDoor
open Go.ChangeShapes Go.WideShapes Go.ChangeAt Go.RowKit
set_option linter.unusedVariables false

theorem rows_enc {α : Type} {enc : α → List PV} {Q : α → Prop} : ∀ {ll : List (List PV)}, (∀ l ∈ ll, ∃ x, Q x ∧ l = enc x) → ∃ xs : List α, (∀ x ∈ xs, Q x) ∧ ll = xs.map enc
  | [], _ => ⟨[], fun _ h => (by cases h), rfl⟩
  | l :: ll, h => by
    obtain ⟨x, h1, rfl⟩ := h l (List.mem_cons_self ..)
    obtain ⟨xs, h2, rfl⟩ := rows_enc fun l hl => h l (List.mem_cons_of_mem _ hl)
    refine ⟨x :: xs, fun y hy => ?_, rfl⟩
    rcases List.mem_cons.1 hy with rfl | hy
    · exact h1
    · exact h2 y hy
theorem shapeVs_two {P : Program} {s t : TypeId} : ∀ {ps : List PV}, ShapeVs P [s, t] ps → ∃ a b, ps = [a, b] ∧ ShapeV P s a ∧ ShapeV P t b
  | [a, b], ⟨h1, h2, _⟩ => ⟨a, b, rfl, h1, h2⟩
theorem int_u8 {m : Int} (h : (Lit.int .u8 m).wf = true) : ∃ a : Nat, a < 256 ∧ m = (a : Int) := by
  simp only [Lit.wf, Bool.and_eq_true, decide_eq_true_eq] at h
  obtain ⟨h1, h2⟩ := h
  have h3 : m ≤ 255 := h2
  have h4 : 0 ≤ m := h1
  exact ⟨m.toNat, by omega, by omega⟩
theorem int_u64 {m : Int} (h : (Lit.int .u64 m).wf = true) : ∃ a : Nat, a < 18446744073709551616 ∧ m = (a : Int) := by
  simp only [Lit.wf, Bool.and_eq_true, decide_eq_true_eq] at h
  obtain ⟨h1, h2⟩ := h
  have h3 : m ≤ 18446744073709551615 := h2
  have h4 : 0 ≤ m := h1
  exact ⟨m.toNat, by omega, by omega⟩
theorem u8_shape {n : Nat} {l : List PV} (h : Shape Tryd.prog n 5 l) : ∃ x : Nat, x ≤ 255 ∧ l = [PV.val (.int .u8 (x : Int))] := by
  obtain ⟨m1, w1, e1⟩ := shape_int h (k := .u8) (by kernel_rfl)
  obtain ⟨x, hx, rfl⟩ := int_u8 w1
  exact ⟨x, by omega, e1⟩
theorem bytes_shape {p : PV} (h : ShapeV Tryd.prog 38 p) : ∃ (l : List Nat) (fl : Bool), Bytes l ∧ p = .vec (bys l) fl := by
  obtain ⟨n, ll, fl, _, h2, rfl⟩ := shapeV_slice h (e := 5) (by kernel_rfl)
  obtain ⟨xs, h3, rfl⟩ := rows_enc (enc := fun (x : Nat) => [PV.val (.int .u8 (x : Int))]) (Q := fun (x : Nat) => x ≤ 255) fun l hl => u8_shape (h2 l hl)
  exact ⟨xs, fl, h3, rfl⟩
theorem u64_shape {p : PV} (h : ShapeV Tryd.prog 50 p) : ∃ s : Nat, s < 18446744073709551616 ∧ p = .val (.int .u64 (s : Int)) := by
  obtain ⟨m, w, rfl⟩ := shapeV_int h (k := .u64) (by kernel_rfl)
  obtain ⟨x, hx, rfl⟩ := int_u64 w
  exact ⟨x, hx, rfl⟩
end Go.Proofs.YtifohjijhhjdkaaDoor

namespace Go.Proofs.YtifohjijhhjdkaaDoor
open Go.ChangeShapes Go.WideShapes Go.ChangeAt Go.RowKit
set_option linter.unusedVariables false

theorem normalMeans_spec : ∀ ps, ShapeVs Tryd.prog Tryd.f9.params.toList ps → pureL ps → Spec Tryd.prog 9 ps (· = .val (.bool true)) := by
  intro ps hs hp
  rw [show Tryd.f9.params.toList = [38, 50] by kernel_rfl] at hs
  obtain ⟨a, b, rfl, k0, k1⟩ := shapeVs_two hs
  obtain ⟨x0, f0, h0, rfl⟩ := bytes_shape k0
  obtain ⟨x1, h1, rfl⟩ := u64_shape k1
  exact normalMeans_law x0 x1 f0 h0 h1

set_option maxRecDepth 100000 in
theorem normalMeans_lifted (os : Os) (started : os.Started) (H : Type) (enc : TypeId × Value → H) :
    ReturnsInHanded {} Tryd.checked os 9 .any (fun w args => (Rows.normalMeansSpec.pre enc Tryd.prog Tryd.f9 [] false w args ∧ laidMetH Tryd.prog laidV w) ∧ sizedMet enc Tryd.prog Tryd.f9 (OpenSpec.ofChange Rows.normalMeansSpec) false w args)
      (Rows.normalMeansSpec.post enc Tryd.prog Tryd.f9 false true false false) := by
  refine returnsInHanded_of_change_and (C := Tryd.checked) (X := fun w _ => laidMetH Tryd.prog laidV w) (fun _ _ _ hh h => h.of_heap hh) own started (by kernel_rfl) Tryd.func9
    (ChangeSpec.witness_shaped (enc := enc) (C := Tryd.checked) (os := os) (X := fun w _ => laidMetH Tryd.prog laidV w) false (World.doorLaid Tryd.prog 400 os) #[.slice none 0 0, .int .u64 0] 8 rfl (World.shaped_of_RefB (by kernel_rfl) (by kernel_rfl)) (by kernel_rfl) (by kernel_rfl) (by kernel_rfl) (door_met os _)) ?_
  intro W base args ds gs before hval hW _ hwt hL _
  exact law_contract (P := Tryd.prog) (G := partsG Tryd.prog Tryd.f9.params.toList) (by kernel_rfl) (inG_of (by kernel_rfl)) laidOut (parsOk_of (by kernel_rfl)) (tb := 4) (by kernel_rfl) (by kernel_rfl) rfl (fun ds hd => by
    match ds, hd with
    | [a, b], _ => exact ⟨rfl, rfl, rfl⟩) normalMeans_spec W (globs_in hL) base args ds gs before hval hW hwt

theorem normalMeans_holds : Rows.NormalMeansSaid :=
  OpenClaim.holds_of_wide 9 Tryd.f9 rfl rfl rfl rfl rfl rfl rfl ⟨rfl, rfl, rfl, rfl, rfl⟩ rfl rfl rfl rfl rfl (by kernel_rfl) Tryd.func9 (by kernel_rfl)
    (of_decide_eq_true (by kernel_rfl)) (by unfold Func.isWrapper; first | (rw [if_pos (by decide +kernel)]; kernel_rfl) | (rw [if_neg (by decide +kernel)]; exact ⟨rfl, rfl⟩))
    (fun os started H enc _ => normalMeans_lifted os started H enc)

theorem normalMeans_card : Rows.NormalMeansCardSaid :=
  Claim7.holds_tied_plain_at .later [] [.data] true (true, "c7fd4cb4d20504a09c7802d2052d5f0090777415a3ba22e0854d01f4f941d3aa") false
    normalMeans_holds (fun _ h => by cases h) (by kernel_rfl) (fun _ h => by cases h) normalMeans_row_tie rfl ⟨rfl, rfl⟩ (by kernel_rfl) rfl
    (fun f fn hf hfn => by
      obtain rfl : f = 9 := Option.some.inj ((show Tryd.prog.funcNamed "arbac/arbaclaw19.NormalMeans" = some 9 by kernel_rfl).symm.trans hf) |>.symm
      obtain rfl : fn = Tryd.f9 := (Option.some.inj (Tryd.func9.symm.trans hfn)).symm
      exact ⟨by kernel_rfl, fun j t ht => by
        rw [show Tryd.f9.params = #[38, 50] by kernel_rfl] at ht
        have hm : t ∈ [38, 50] := by simpa using Array.mem_of_getElem? ht
        have hall : ([38, 50].all fun u => !Tryd.prog.wantsStandIn u) = true := by kernel_rfl
        exact (show Tryd.prog.wantsStandIn t = false by simpa using List.all_eq_true.1 hall t hm)⟩)
    (by kernel_rfl)
#print axioms normalMeans_card
end Go.Proofs.YtifohjijhhjdkaaDoor
