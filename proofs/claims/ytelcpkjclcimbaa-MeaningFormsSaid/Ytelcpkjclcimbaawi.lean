/-
  The package bits: With; and the sets of the laws. No statement of the seat is proved here.
-/
import Derived.Test.Ytelcpkjclcimbaava
import Derived.Test.Ytelcpkjclcimbaavb
namespace Go.Proofs.Ytelcpkjclcimbaa
open Go.RowKit
set_option linter.unusedVariables false
attribute [local irreducible] aw opsK dK

theorem digs_canon (N : Nat) : Canon (digs N) := by
  induction N using Nat.strongRecOn with
  | _ N ih =>
    by_cases h : N = 0
    · rw [h, digs_zero]; exact .inl rfl
    · rw [digs_pos h]
      refine .inr ?_
      have := ih (N / 18446744073709551616) (by omega)
      cases hd : digs (N / 18446744073709551616) with
      | nil =>
        have h0 := ofW_digs (N / 18446744073709551616)
        rw [hd] at h0
        simp only [ofW] at h0
        simp
        omega
      | cons y s =>
        rw [hd] at this
        rcases this with h | h
        · simp at h
        · simpa using h
theorem ofW_pad : ∀ (l : List Nat) (k : Nat), ofW (l ++ List.replicate k 0) = ofW l
  | [], k => by
    rw [List.nil_append]
    exact ofW_zero fun j => by rw [List.getD_eq_getElem?_getD, List.getElem?_replicate]; split <;> rfl
  | x :: r, k => by simp only [List.cons_append, ofW, ofW_pad r k]
theorem or_pow_ne (x j : Nat) : x ||| 2 ^ j ≠ 0 := fun h => by
  have := congrArg (fun z => Nat.testBit z j) h
  simp [Nat.testBit_or, Nat.testBit_two_pow] at this
/-- The words after one more member. -/
theorem with_words (N i : Nat) (h : i ≤ 4095) (L : Nat) (hL : L = max (digs N).length (i / 64 + 1)) :
    let l := digs N ++ List.replicate (L - (digs N).length) 0
    Words l ∧ l.length = L ∧ i / 64 < l.length ∧ ∃ v, v = l.getD (i / 64) 0 ||| 2 ^ (i % 64) ∧ setP (l.set (i / 64) v) = setN (N ||| 2 ^ i) := by
  intro l
  have hw : Words l := fun x hx => by
    rcases List.mem_append.1 hx with hx | hx
    · exact digs_words N x hx
    · rw [List.eq_of_mem_replicate hx]; omega
  have hl : l.length = L := by simp [l]; omega
  have hi : i / 64 < l.length := by omega
  refine ⟨hw, hl, hi, _, rfl, ?_⟩
  have hm : i % 64 < 64 := Nat.mod_lt _ (by omega)
  have hv : l.getD (i / 64) 0 ||| 2 ^ (i % 64) < 18446744073709551616 := Nat.or_lt_two_pow (n := 64) (hw.getD _) (Nat.pow_lt_pow_right (by omega) hm)
  have hc : Canon (l.set (i / 64) (l.getD (i / 64) 0 ||| 2 ^ (i % 64))) := by
    refine .inr ?_
    rw [List.length_set, hl]
    by_cases he : L - 1 = i / 64
    · rw [he, List.getD_eq_getElem?_getD, List.getElem?_set]
      simp only [if_pos hi, if_true, Option.getD_some]
      exact or_pow_ne _ _
    · have hLd : L = (digs N).length := by omega
      rw [List.getD_eq_getElem?_getD, List.getElem?_set, if_neg (Ne.symm he), ← List.getD_eq_getElem?_getD]
      have hl2 : l = digs N := by simp [l, hLd]
      rw [hl2, hLd]
      rcases digs_canon N with h0 | h0
      · omega
      · exact h0
  rw [setP_ofW (hw.set _ hv) hc, ofW_or hw hi hm, ofW_pad, ofW_digs, show 64 * (i / 64) + i % 64 = i by omega]
def withN (N : Nat) (i : Int) : Nat := if 0 ≤ i ∧ i ≤ 4095 then N ||| 2 ^ i.toNat else N
theorem or_member {N i : Nat} (h : N.testBit i = true) : N ||| 2 ^ i = N := by
  refine Nat.eq_of_testBit_eq fun j => ?_
  rw [Nat.testBit_or, Nat.testBit_two_pow]
  by_cases hj : i = j
  · subst hj; simp [h]
  · simp [hj]

set_option maxHeartbeats 1000000 in
theorem with_spec (N : Nat) (hN : (digs N).length ≤ 64) (i : Int) : Spec Try.prog 20 [setN N, .val (.int .i64 i)] (· = setN (withN N i)) := by
  refine spec_intro ok20 (Nat.le_of_ble_eq_true rfl) fun C hC => ?_
  refine aw_seq ?_
  refine aw_region ?_
  refine opsK_ofAlt rfl rfl rfl ?_
  repeat' (first
    | refine aw_seq ?_
    | refine aw_region ?_
    | refine aw_draw [] ?_
    | refine opsK_done ?_
    | refine opsK_on rfl ?_
    | refine opsK_off rfl ?_
    | (refine opsK_bool rfl rfl rfl (fun hb => ?_) (fun hb => ?_) <;> try cases hb)
    | refine opsK_of rfl rfl rfl ?_
    | refine opsK_new rfl rfl rfl ?_
    | refine dK_done ?_
    | refine dK_on rfl ?_
    | refine dK_off ⟨_, rfl, nofun⟩ ?_
    | (refine dK_bool rfl rfl rfl (fun hb => ?_) (fun hb => ?_) <;> try cases hb)
    | refine dK_of rfl rfl rfl ?_
    | refine aw_condT rfl ?_
    | refine aw_condF rfl ?_
    | (refine aw_cond rfl (fun hb => ?_) (fun hb => ?_) <;> try cases hb)
    | refine aw_block ?_
    | refine aw_skip ?_
    | refine aw_exit ?_
    | refine aw_ret ?_)
  · refine ret_ok rfl (setN_pure N) ?_
    rw [withN, if_neg (by simp at hb; omega)]; rfl
  · refine ret_ok rfl (setN_pure N) ?_
    rw [withN, if_neg (by simp at hb; omega)]; rfl
  rename_i h0
  have h1 : 0 ≤ i := by simp at h0; omega
  have h2 : i ≤ 4095 := by simp at hb; omega
  obtain ⟨j, rfl⟩ : ∃ j : Nat, i = j := ⟨i.toNat, by omega⟩
  rw [withN, if_pos ⟨h1, h2⟩, Int.toNat_natCast]
  have hs := hasN_spec N j h1 h2
  rw [Int.toNat_natCast] at hs
  refine opsK_eq hs rfl rfl rfl ⟨⟨words_pure _, trivial⟩, trivial, trivial⟩ rfl ?_
  cases ht : N.testBit j with
  | true =>
    repeat' (first
      | refine aw_seq ?_
      | refine aw_region ?_
      | refine aw_draw [] ?_
      | refine opsK_done ?_
      | refine opsK_on rfl ?_
      | refine opsK_off rfl ?_
      | (refine opsK_bool rfl rfl rfl (fun hb => ?_) (fun hb => ?_) <;> try cases hb)
      | refine opsK_of rfl rfl rfl ?_
      | refine opsK_new rfl rfl rfl ?_
      | refine dK_done ?_
      | refine dK_on rfl ?_
      | refine dK_off ⟨_, rfl, nofun⟩ ?_
      | (refine dK_bool rfl rfl rfl (fun hb => ?_) (fun hb => ?_) <;> try cases hb)
      | refine dK_of rfl rfl rfl ?_
      | refine aw_condT rfl ?_
      | refine aw_condF rfl ?_
      | (refine aw_cond rfl (fun hb => ?_) (fun hb => ?_) <;> try cases hb)
      | refine aw_block ?_
      | refine aw_skip ?_
      | refine aw_exit ?_
      | refine aw_ret ?_)
    refine ret_ok rfl (setN_pure N) ?_
    rw [or_member ht]; rfl
  | false =>
    have hdl : (words (digs N)).length = (digs N).length := by simp [words]
    obtain ⟨hw, hl, hi, v, hv, hset⟩ := with_words N j (by omega) _ rfl
    have hq : IntKind.i64.wrap ((j : Int).tdiv 64) = ((j / 64 : Nat) : Int) := by
      rw [IntWalk.i64_quo _ _ ⟨by omega, by omega, by omega⟩]; omega
    have hr : (j : Int).tmod 64 = ((j % 64 : Nat) : Int) := by
      rw [Int.tmod_eq_emod_of_nonneg (by omega)]; omega
    have hq1 : IntKind.i64.wrap (((j / 64 : Nat) : Int) + 1) = ((j / 64 + 1 : Nat) : Int) := IntWalk.i64_in _ ⟨by omega, by omega⟩
    have hmax : (if ((j / 64 + 1 : Nat) : Int) > (((words (digs N)).length : Nat) : Int) then ((j / 64 + 1 : Nat) : Int) else (((words (digs N)).length : Nat) : Int)) = ((max (digs N).length (j / 64 + 1) : Nat) : Int) := by
      rw [hdl]; split <;> omega
    generalize max (digs N).length (j / 64 + 1) = L at *
    repeat' (first
      | refine aw_seq ?_
      | refine aw_region ?_
      | refine aw_draw [] ?_
      | refine opsK_done ?_
      | refine opsK_on rfl ?_
      | refine opsK_off rfl ?_
      | (refine opsK_bool rfl rfl rfl (fun hb => ?_) (fun hb => ?_) <;> try cases hb)
      | refine opsK_of rfl rfl rfl ?_
      | refine opsK_new rfl rfl rfl ?_
      | refine dK_done ?_
      | refine dK_on rfl ?_
      | refine dK_off ⟨_, rfl, nofun⟩ ?_
      | (refine dK_bool rfl rfl rfl (fun hb => ?_) (fun hb => ?_) <;> try cases hb)
      | refine dK_of rfl rfl rfl ?_
      | refine aw_condT rfl ?_
      | refine aw_condF rfl ?_
      | (refine aw_cond rfl (fun hb => ?_) (fun hb => ?_) <;> try cases hb)
      | refine aw_block ?_
      | refine aw_skip ?_
      | refine aw_exit ?_
      | refine aw_ret ?_)
    rw [hq, hq1, hmax]
    refine opsK_new (E_mslice (a := L) (b := L) rfl rfl (Nat.le_refl _) (by omega)) rfl rfl ?_
    have hrep : List.replicate L (zpv [Value.int .u64 0]) = words (List.replicate L 0) := by simp [words, zpv, pvOf]
    rw [hrep]
    have hcopy : (words (digs N)).take (words (List.replicate L 0)).length ++ (words (List.replicate L 0)).drop (words (digs N)).length = words (digs N ++ List.replicate (L - (digs N).length) 0) := by
      have hle : (digs N).length ≤ L := by omega
      have e1 : (words (List.replicate L 0)).length = L := by simp [words]
      rw [e1, List.take_of_length_le (by rw [hdl]; exact hle), hdl]
      simp [words, List.map_append, List.drop_replicate]
    have hwl : ∀ c ∈ words (digs N), c.length = 1 := fun c hc => by obtain ⟨x, _, rfl⟩ := List.mem_map.1 hc; rfl
    iterate 7 (first
      | refine aw_seq ?_
      | refine aw_region ?_
      | refine aw_draw [] ?_
      | refine opsK_done ?_
      | refine opsK_on rfl ?_
      | refine opsK_off rfl ?_
      | (refine opsK_bool rfl rfl rfl (fun hb => ?_) (fun hb => ?_) <;> try cases hb)
      | refine opsK_of rfl rfl rfl ?_
      | refine opsK_new rfl rfl rfl ?_
      | refine dK_done ?_
      | refine dK_on rfl ?_
      | refine dK_off ⟨_, rfl, nofun⟩ ?_
      | (refine dK_bool rfl rfl rfl (fun hb => ?_) (fun hb => ?_) <;> try cases hb)
      | refine dK_of rfl rfl rfl ?_
      | refine aw_condT rfl ?_
      | refine aw_condF rfl ?_
      | (refine aw_cond rfl (fun hb => ?_) (fun hb => ?_) <;> try cases hb)
      | refine aw_block ?_
      | refine aw_skip ?_
      | refine aw_exit ?_
      | refine aw_ret ?_)
    refine opsK_of (E_copy (k := 1) rfl rfl rfl hwl rfl) rfl rfl ?_
    simp only
    rw [hcopy]
    generalize digs N ++ List.replicate (L - (digs N).length) 0 = ws at *
    have hm64 : j % 64 < 64 := Nat.mod_lt _ (by omega)
    have hwn : (words ws).length = ws.length := by simp [words]
    have hel : (words ws).getD (j / 64) [] = [.val (.int .u64 (ws.getD (j / 64) 0 : Nat))] := by simp [words, List.getD_eq_getElem?_getD, hi]
    repeat' (first
      | refine aw_seq ?_
      | refine aw_region ?_
      | refine aw_draw [] ?_
      | refine opsK_done ?_
      | refine opsK_on rfl ?_
      | refine opsK_off rfl ?_
      | (refine opsK_bool rfl rfl rfl (fun hb => ?_) (fun hb => ?_) <;> try cases hb)
      | refine opsK_of rfl rfl rfl ?_
      | refine opsK_new rfl rfl rfl ?_
      | refine dK_done ?_
      | refine dK_on rfl ?_
      | refine dK_off ⟨_, rfl, nofun⟩ ?_
      | (refine dK_bool rfl rfl rfl (fun hb => ?_) (fun hb => ?_) <;> try cases hb)
      | refine dK_of rfl rfl rfl ?_
      | refine aw_condT rfl ?_
      | refine aw_condF rfl ?_
      | (refine aw_cond rfl (fun hb => ?_) (fun hb => ?_) <;> try cases hb)
      | refine aw_block ?_
      | refine aw_skip ?_
      | refine aw_exit ?_
      | refine aw_ret ?_)
    rw [hq]
    refine dK_of (E_iaddrO rfl rfl rfl (j / 64) rfl (by rw [hwn]; exact hi) rfl) rfl rfl ?_
    refine dK_of (E_load rfl rfl (by rw [hwn]; exact hi) (by rw [hel]; rfl)) rfl rfl ?_
    (first
      | refine aw_seq ?_
      | refine aw_region ?_
      | refine aw_draw [] ?_
      | refine opsK_done ?_
      | refine opsK_on rfl ?_
      | refine opsK_off rfl ?_
      | (refine opsK_bool rfl rfl rfl (fun hb => ?_) (fun hb => ?_) <;> try cases hb)
      | refine opsK_of rfl rfl rfl ?_
      | refine opsK_new rfl rfl rfl ?_
      | refine dK_done ?_
      | refine dK_on rfl ?_
      | refine dK_off ⟨_, rfl, nofun⟩ ?_
      | (refine dK_bool rfl rfl rfl (fun hb => ?_) (fun hb => ?_) <;> try cases hb)
      | refine dK_of rfl rfl rfl ?_
      | refine aw_condT rfl ?_
      | refine aw_condF rfl ?_
      | (refine aw_cond rfl (fun hb => ?_) (fun hb => ?_) <;> try cases hb)
      | refine aw_block ?_
      | refine aw_skip ?_
      | refine aw_exit ?_
      | refine aw_ret ?_)
    refine dK_of (E_int rfl hr) rfl rfl ?_
    refine dK_of (E_shl rfl rfl (by omega) (v := ((2 ^ (j % 64) : Nat) : Int)) (by
      rw [show min (((j % 64 : Nat) : Int)).toNat IntKind.u64.bits = j % 64 by simp [IntKind.bits]; omega]
      have : 2 ^ (j % 64) < 2 ^ 64 := Nat.pow_lt_pow_right (by omega) hm64
      rw [Int.one_mul, show (2 : Int) ^ (j % 64) = ((2 ^ (j % 64) : Nat) : Int) by simp]
      exact IntWalk.u64_in _ ⟨Int.natCast_nonneg _, Int.ofNat_le.2 (show _ ≤ 18446744073709551615 by omega)⟩)) rfl rfl ?_
    refine dK_of (E_int rfl (bits_or_u64_nat _ _ (hw.getD _) (show 2 ^ (j % 64) < 2 ^ 64 from Nat.pow_lt_pow_right (by omega) hm64))) rfl rfl ?_
    refine dK_of (E_iaddrO rfl rfl rfl (j / 64) rfl (by rw [hwn]; exact hi) rfl) rfl rfl ?_
    refine dK_of (E_store rfl rfl rfl rfl rfl (by rw [hwn]; exact hi) (Nat.le_refl _)) rfl rfl ?_
    rw [hel, show setAt [PV.val (Value.int .u64 (ws.getD (j / 64) 0 : Nat))] 0 (PV.val (Value.int .u64 ((ws.getD (j / 64) 0 ||| 2 ^ (j % 64) : Nat) : Int))).cells = [.val (.int .u64 ((ws.getD (j / 64) 0 ||| 2 ^ (j % 64) : Nat) : Int))] from rfl]
    simp only
    rw [words_set, ← hv]
    generalize ws.set (j / 64) v = w2 at *
    iterate 4 (first
      | refine aw_seq ?_
      | refine aw_region ?_
      | refine aw_draw [] ?_
      | refine opsK_done ?_
      | refine opsK_on rfl ?_
      | refine opsK_off rfl ?_
      | (refine opsK_bool rfl rfl rfl (fun hb => ?_) (fun hb => ?_) <;> try cases hb)
      | refine opsK_of rfl rfl rfl ?_
      | refine opsK_new rfl rfl rfl ?_
      | refine dK_done ?_
      | refine dK_on rfl ?_
      | refine dK_off ⟨_, rfl, nofun⟩ ?_
      | (refine dK_bool rfl rfl rfl (fun hb => ?_) (fun hb => ?_) <;> try cases hb)
      | refine dK_of rfl rfl rfl ?_
      | refine aw_condT rfl ?_
      | refine aw_condF rfl ?_
      | (refine aw_cond rfl (fun hb => ?_) (fun hb => ?_) <;> try cases hb)
      | refine aw_block ?_
      | refine aw_skip ?_
      | refine aw_exit ?_
      | refine aw_ret ?_)
    refine opsK_sub (subA_freeze (k := 40) rfl rfl (words_pure w2)) ?_
    repeat' (first
      | refine aw_seq ?_
      | refine aw_region ?_
      | refine aw_draw [] ?_
      | refine opsK_done ?_
      | refine opsK_on rfl ?_
      | refine opsK_off rfl ?_
      | (refine opsK_bool rfl rfl rfl (fun hb => ?_) (fun hb => ?_) <;> try cases hb)
      | refine opsK_of rfl rfl rfl ?_
      | refine opsK_new rfl rfl rfl ?_
      | refine dK_done ?_
      | refine dK_on rfl ?_
      | refine dK_off ⟨_, rfl, nofun⟩ ?_
      | (refine dK_bool rfl rfl rfl (fun hb => ?_) (fun hb => ?_) <;> try cases hb)
      | refine dK_of rfl rfl rfl ?_
      | refine aw_condT rfl ?_
      | refine aw_condF rfl ?_
      | (refine aw_cond rfl (fun hb => ?_) (fun hb => ?_) <;> try cases hb)
      | refine aw_block ?_
      | refine aw_skip ?_
      | refine aw_exit ?_
      | refine aw_ret ?_)
    refine ret_ok rfl (setP_pure w2) ?_
    exact hset

/-! ### The sets of the laws -/
/-- The members 1 to k - 1 of a number. -/
def lowN (s : Nat) : Nat → Nat
  | 0 => 0
  | k + 1 => if s.testBit k ∧ 1 ≤ k then lowN s k ||| 2 ^ k else lowN s k
theorem lowN_bit (s : Nat) : ∀ (k i : Nat), (lowN s k).testBit i = (decide (1 ≤ i ∧ i < k) && s.testBit i)
  | 0, i => by simp [lowN]
  | k + 1, i => by
    simp only [lowN]
    have ih := lowN_bit s k i
    split
    · rename_i h
      rw [Nat.testBit_or, Nat.testBit_two_pow, ih]
      by_cases hi : k = i
      · subst hi; simp [h]
      · have : (decide (1 ≤ i ∧ i < k + 1)) = decide (1 ≤ i ∧ i < k) := by rw [decide_eq_decide]; omega
        simp [this, hi]
    · rename_i h
      rw [ih]
      by_cases hi : k = i
      · subst hi
        have h' : ¬ s.testBit k = true ∨ ¬ 1 ≤ k := by
          by_cases hs : s.testBit k = true
          · exact .inr fun hk => h ⟨hs, hk⟩
          · exact .inl hs
        rcases h' with h' | h'
        · simp [h']
        · simp [h']
      · have : (decide (1 ≤ i ∧ i < k + 1)) = decide (1 ≤ i ∧ i < k) := by rw [decide_eq_decide]; omega
        simp [this]
theorem lowN_lt (s : Nat) : ∀ k, k ≤ 64 → lowN s k < 18446744073709551616
  | 0, _ => by simp [lowN]
  | k + 1, h => by
    have ih := lowN_lt s k (by omega)
    simp only [lowN]
    split
    · exact Nat.or_lt_two_pow (n := 64) ih (Nat.pow_lt_pow_right (by omega) (by omega))
    · exact ih
theorem digs_short {N : Nat} (h : N < 18446744073709551616) : (digs N).length ≤ 1 := by
  by_cases h0 : N = 0
  · rw [h0, digs_zero]; simp
  · rw [digs_pos h0, Nat.div_eq_of_lt h, digs_zero]; simp
theorem maskTo_nil : maskTo (topOf []) [] = 0 := rfl

theorem set10_spec (s : Nat) (hs : s < 18446744073709551616) : Spec Try.prog 10 [.val (.int .u64 (s : Int))] (· = setN (lowN s 64)) := by
  refine spec_intro ok10 (Nat.le_of_ble_eq_true rfl) fun C hC => ?_
  repeat' (first
    | refine aw_seq ?_
    | refine aw_region ?_
    | refine aw_draw [] ?_
    | refine opsK_done ?_
    | refine opsK_on rfl ?_
    | refine opsK_off rfl ?_
    | (refine opsK_bool rfl rfl rfl (fun hb => ?_) (fun hb => ?_) <;> try cases hb)
    | refine opsK_of rfl rfl rfl ?_
    | refine opsK_new rfl rfl rfl ?_
    | refine dK_done ?_
    | refine dK_on rfl ?_
    | refine dK_off ⟨_, rfl, nofun⟩ ?_
    | (refine dK_bool rfl rfl rfl (fun hb => ?_) (fun hb => ?_) <;> try cases hb)
    | refine dK_of rfl rfl rfl ?_
    | refine aw_condT rfl ?_
    | refine aw_condF rfl ?_
    | (refine aw_cond rfl (fun hb => ?_) (fun hb => ?_) <;> try cases hb)
    | refine aw_block ?_
    | refine aw_skip ?_
    | refine aw_exit ?_
    | refine aw_ret ?_)
  refine opsK_eq (of_spec [] true) rfl rfl rfl ⟨nums_pure _, trivial⟩ rfl ?_
  rw [maskTo_nil]
  have hl1 : lowN s 1 = 0 := by simp [lowN]
  repeat' (first
    | refine aw_seq ?_
    | refine aw_region ?_
    | refine aw_draw [] ?_
    | refine opsK_done ?_
    | refine opsK_on rfl ?_
    | refine opsK_off rfl ?_
    | (refine opsK_bool rfl rfl rfl (fun hb => ?_) (fun hb => ?_) <;> try cases hb)
    | refine opsK_of rfl rfl rfl ?_
    | refine opsK_new rfl rfl rfl ?_
    | refine dK_done ?_
    | refine dK_on rfl ?_
    | refine dK_off ⟨_, rfl, nofun⟩ ?_
    | (refine dK_bool rfl rfl rfl (fun hb => ?_) (fun hb => ?_) <;> try cases hb)
    | refine dK_of rfl rfl rfl ?_
    | refine aw_condT rfl ?_
    | refine aw_condF rfl ?_
    | (refine aw_cond rfl (fun hb => ?_) (fun hb => ?_) <;> try cases hb)
    | refine aw_block ?_
    | refine aw_skip ?_
    | refine aw_exit ?_
    | refine aw_ret ?_)
  refine aw_loopH hC (fun i => 1 ≤ i ∧ i ≤ 64) (fun i => 64 - i) 2 (fun i => [(0, .val (.int .u64 (s : Int))), (2, .ptr 0 0 0), (3, .ptr 1 0 0), (4, .val (.int .i64 (i : Int)))]) (fun i => [(0, ⟨1, [[.vec [] true]]⟩), (1, ⟨1, [[.vec (words (digs (lowN s i))) false]]⟩)]) (by omega) 1 ⟨by omega, by omega⟩
    ⟨⟨rfl, trivial⟩, ⟨rfl, show (0 : Nat) < 2 by decide⟩, ⟨rfl, show (1 : Nat) < 2 by decide⟩, ⟨rfl, trivial⟩, trivial⟩ ⟨⟨by omega, rfl, ⟨trivial, trivial⟩, trivial⟩, ⟨by omega, by rw [hl1]; rfl, ⟨words_inn _ _, trivial⟩, trivial⟩, trivial⟩ ?_
  rintro i ⟨hi1, hi⟩
  have hinc : IntKind.i64.wrap ((i : Int) + 1) = ((i + 1 : Nat) : Int) := IntWalk.i64_in _ ⟨by omega, by omega⟩
  iterate 4 (first
    | refine aw_seq ?_
    | refine aw_region ?_
    | refine aw_draw [] ?_
    | refine opsK_done ?_
    | refine opsK_on rfl ?_
    | refine opsK_off rfl ?_
    | (refine opsK_bool rfl rfl rfl (fun hb => ?_) (fun hb => ?_) <;> try cases hb)
    | refine opsK_of rfl rfl rfl ?_
    | refine opsK_new rfl rfl rfl ?_
    | refine dK_done ?_
    | refine dK_on rfl ?_
    | refine dK_off ⟨_, rfl, nofun⟩ ?_
    | (refine dK_bool rfl rfl rfl (fun hb => ?_) (fun hb => ?_) <;> try cases hb)
    | refine dK_of rfl rfl rfl ?_
    | refine aw_condT rfl ?_
    | refine aw_condF rfl ?_
    | (refine aw_cond rfl (fun hb => ?_) (fun hb => ?_) <;> try cases hb)
    | refine aw_block ?_
    | refine aw_skip ?_
    | refine aw_exit ?_
    | refine aw_ret ?_)
  refine opsK_bool rfl rfl rfl (fun hb => ?_) (fun hb => ?_)
  · have hil : i < 64 := by simp at hb; omega
    iterate 9 (first
      | refine aw_seq ?_
      | refine aw_region ?_
      | refine aw_draw [] ?_
      | refine opsK_done ?_
      | refine opsK_on rfl ?_
      | refine opsK_off rfl ?_
      | (refine opsK_bool rfl rfl rfl (fun hb => ?_) (fun hb => ?_) <;> try cases hb)
      | refine opsK_of rfl rfl rfl ?_
      | refine opsK_new rfl rfl rfl ?_
      | refine dK_done ?_
      | refine dK_on rfl ?_
      | refine dK_off ⟨_, rfl, nofun⟩ ?_
      | (refine dK_bool rfl rfl rfl (fun hb => ?_) (fun hb => ?_) <;> try cases hb)
      | refine dK_of rfl rfl rfl ?_
      | refine aw_condT rfl ?_
      | refine aw_condF rfl ?_
      | (refine aw_cond rfl (fun hb => ?_) (fun hb => ?_) <;> try cases hb)
      | refine aw_block ?_
      | refine aw_skip ?_
      | refine aw_exit ?_
      | refine aw_ret ?_)
    refine opsK_int rfl rfl rfl (shr_u64 s i hil) ?_
    refine opsK_int rfl rfl rfl (rem2_u64 s i) ?_
    refine opsK_boolEq rfl rfl rfl (bit_eq s i) ?_
    cases ht : s.testBit i with
    | false =>
      have hl : lowN s (i + 1) = lowN s i := by simp [lowN, ht]
      repeat' (first
        | refine aw_seq ?_
        | refine aw_region ?_
        | refine aw_draw [] ?_
        | refine opsK_done ?_
        | refine opsK_on rfl ?_
        | refine opsK_off rfl ?_
        | (refine opsK_bool rfl rfl rfl (fun hb => ?_) (fun hb => ?_) <;> try cases hb)
        | refine opsK_of rfl rfl rfl ?_
        | refine opsK_new rfl rfl rfl ?_
        | refine dK_done ?_
        | refine dK_on rfl ?_
        | refine dK_off ⟨_, rfl, nofun⟩ ?_
        | (refine dK_bool rfl rfl rfl (fun hb => ?_) (fun hb => ?_) <;> try cases hb)
        | refine dK_of rfl rfl rfl ?_
        | refine aw_condT rfl ?_
        | refine aw_condF rfl ?_
        | (refine aw_cond rfl (fun hb => ?_) (fun hb => ?_) <;> try cases hb)
        | refine aw_block ?_
        | refine aw_skip ?_
        | refine aw_exit ?_
        | refine aw_ret ?_)
      exact ⟨i + 1, ⟨by omega, by omega⟩, by omega, ⟨⟨rfl, trivial⟩, ⟨rfl, show (0 : Nat) < 2 by decide⟩, ⟨rfl, show (1 : Nat) < 2 by decide⟩, ⟨by show some _ = some _; rw [hinc], trivial⟩, trivial⟩, ⟨⟨by omega, rfl, ⟨trivial, trivial⟩, trivial⟩, ⟨by omega, by rw [hl]; rfl, ⟨words_inn _ _, trivial⟩, trivial⟩, trivial⟩⟩
    | true =>
      have hl : withN (lowN s i) (i : Int) = lowN s (i + 1) := by
        rw [withN, if_pos ⟨by omega, by omega⟩, Int.toNat_natCast, lowN, if_pos ⟨ht, hi1⟩]
      repeat' (first
        | refine aw_seq ?_
        | refine aw_region ?_
        | refine aw_draw [] ?_
        | refine opsK_done ?_
        | refine opsK_on rfl ?_
        | refine opsK_off rfl ?_
        | (refine opsK_bool rfl rfl rfl (fun hb => ?_) (fun hb => ?_) <;> try cases hb)
        | refine opsK_of rfl rfl rfl ?_
        | refine opsK_new rfl rfl rfl ?_
        | refine dK_done ?_
        | refine dK_on rfl ?_
        | refine dK_off ⟨_, rfl, nofun⟩ ?_
        | (refine dK_bool rfl rfl rfl (fun hb => ?_) (fun hb => ?_) <;> try cases hb)
        | refine dK_of rfl rfl rfl ?_
        | refine aw_condT rfl ?_
        | refine aw_condF rfl ?_
        | (refine aw_cond rfl (fun hb => ?_) (fun hb => ?_) <;> try cases hb)
        | refine aw_block ?_
        | refine aw_skip ?_
        | refine aw_exit ?_
        | refine aw_ret ?_)
      refine opsK_eq (with_spec (lowN s i) (by have := digs_short (lowN_lt s i hi); omega) (i : Int)) rfl rfl rfl ⟨setN_pure _, trivial, trivial⟩ rfl ?_
      rw [hl]
      repeat' (first
        | refine aw_seq ?_
        | refine aw_region ?_
        | refine aw_draw [] ?_
        | refine opsK_done ?_
        | refine opsK_on rfl ?_
        | refine opsK_off rfl ?_
        | (refine opsK_bool rfl rfl rfl (fun hb => ?_) (fun hb => ?_) <;> try cases hb)
        | refine opsK_of rfl rfl rfl ?_
        | refine opsK_new rfl rfl rfl ?_
        | refine dK_done ?_
        | refine dK_on rfl ?_
        | refine dK_off ⟨_, rfl, nofun⟩ ?_
        | (refine dK_bool rfl rfl rfl (fun hb => ?_) (fun hb => ?_) <;> try cases hb)
        | refine dK_of rfl rfl rfl ?_
        | refine aw_condT rfl ?_
        | refine aw_condF rfl ?_
        | (refine aw_cond rfl (fun hb => ?_) (fun hb => ?_) <;> try cases hb)
        | refine aw_block ?_
        | refine aw_skip ?_
        | refine aw_exit ?_
        | refine aw_ret ?_)
      exact ⟨i + 1, ⟨by omega, by omega⟩, by omega, ⟨⟨rfl, trivial⟩, ⟨rfl, show (0 : Nat) < 2 by decide⟩, ⟨rfl, show (1 : Nat) < 2 by decide⟩, ⟨by show some _ = some _; rw [hinc], trivial⟩, trivial⟩, ⟨⟨by omega, rfl, ⟨trivial, trivial⟩, trivial⟩, ⟨by omega, rfl, ⟨words_inn _ _, trivial⟩, trivial⟩, trivial⟩⟩
  · have hil : i = 64 := by simp at hb; omega
    subst hil
    repeat' (first
      | refine aw_seq ?_
      | refine aw_region ?_
      | refine aw_draw [] ?_
      | refine opsK_done ?_
      | refine opsK_on rfl ?_
      | refine opsK_off rfl ?_
      | (refine opsK_bool rfl rfl rfl (fun hb => ?_) (fun hb => ?_) <;> try cases hb)
      | refine opsK_of rfl rfl rfl ?_
      | refine opsK_new rfl rfl rfl ?_
      | refine dK_done ?_
      | refine dK_on rfl ?_
      | refine dK_off ⟨_, rfl, nofun⟩ ?_
      | (refine dK_bool rfl rfl rfl (fun hb => ?_) (fun hb => ?_) <;> try cases hb)
      | refine dK_of rfl rfl rfl ?_
      | refine aw_condT rfl ?_
      | refine aw_condF rfl ?_
      | (refine aw_cond rfl (fun hb => ?_) (fun hb => ?_) <;> try cases hb)
      | refine aw_block ?_
      | refine aw_skip ?_
      | refine aw_exit ?_
      | refine aw_ret ?_)
    exact ret_ok rfl (setN_pure _) rfl
end Go.Proofs.Ytelcpkjclcimbaa
