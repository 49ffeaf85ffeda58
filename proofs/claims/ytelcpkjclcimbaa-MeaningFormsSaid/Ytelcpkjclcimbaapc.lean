/-
  math/bits.OnesCount64 counts bits. No statement of the seat is proved here.
-/
import Derived.Test.Ytelcpkjclcimbaabt
namespace Go.Proofs.Ytelcpkjclcimbaa
open Go.RowKit
set_option linter.unusedVariables false
attribute [local irreducible] aw opsK dK

/-- The number of the bits below k. -/
def popK : Nat → Nat → Nat
  | 0, _ => 0
  | k + 1, x => x % 2 + popK k (x / 2)
theorem popK_add : ∀ (j k x : Nat), popK (j + k) x = popK j x + popK k (x / 2 ^ j)
  | 0, k, x => by simp [popK]
  | j + 1, k, x => by
    rw [show j + 1 + k = (j + k) + 1 by omega]
    simp only [popK]
    rw [popK_add j k, Nat.div_div_eq_div_mul, Nat.pow_succ, Nat.mul_comm 2]
    omega
theorem popK_mod : ∀ (j x : Nat), popK j (x % 2 ^ j) = popK j x
  | 0, x => rfl
  | j + 1, x => by
    simp only [popK]
    have h1 : x % 2 ^ (j + 1) % 2 = x % 2 := Nat.mod_mod_of_dvd _ ⟨2 ^ j, by rw [Nat.pow_succ, Nat.mul_comm]⟩
    have h2 : x % 2 ^ (j + 1) / 2 = x / 2 % 2 ^ j := by rw [Nat.pow_succ, Nat.mul_comm, Nat.mod_mul_right_div_self]
    rw [h1, h2, popK_mod]

theorem and_split (a y c m : Nat) (ha : a < 256) (hc : c < 256) : (a + 256 * y) &&& (c + 256 * m) = (a &&& c) + 256 * (y &&& m) := by
  have e1 : a + 256 * y = 2 ^ 8 * y + a := by omega
  have e2 : c + 256 * m = 2 ^ 8 * m + c := by omega
  have hac : a &&& c < 2 ^ 8 := Nat.and_lt_two_pow _ (by omega)
  rw [e1, e2, show (a &&& c) + 256 * (y &&& m) = 2 ^ 8 * (y &&& m) + (a &&& c) by omega]
  refine Nat.eq_of_testBit_eq fun i => ?_
  rw [Nat.testBit_and, Nat.testBit_two_pow_mul_add _ (by omega : a < 2 ^ 8), Nat.testBit_two_pow_mul_add _ (by omega : c < 2 ^ 8), Nat.testBit_two_pow_mul_add _ hac]
  by_cases hi : i < 8
  · rw [if_pos hi, if_pos hi, if_pos hi, Nat.testBit_and]
  · rw [if_neg hi, if_neg hi, if_neg hi, Nat.testBit_and]

/-- n bytes c. -/
def rep (c : Nat) : Nat → Nat
  | 0 => 0
  | n + 1 => c + 256 * rep c n
def s1 (m x : Nat) : Nat := (x / 2 &&& m) + (x &&& m)
def s2 (m x : Nat) : Nat := (x / 4 &&& m) + (x &&& m)
def s3 (m x : Nat) : Nat := (x / 16 + x) &&& m

theorem s1_byte (a b : Nat) (ha : a < 256) (hb : b < 2) : (a / 2 + 128 * b) &&& 85 = a / 2 &&& 85 := by
  have : ∀ b : Fin 2, ∀ a : Fin 256, (a.1 / 2 + 128 * b.1) &&& 85 = a.1 / 2 &&& 85 := by decide +kernel
  exact this ⟨b, hb⟩ ⟨a, ha⟩
theorem s2_byte (a b : Nat) (ha : a < 256) (hb : b < 4) : (a / 4 + 64 * b) &&& 51 = a / 4 &&& 51 := by
  have : ∀ b : Fin 4, ∀ a : Fin 256, (a.1 / 4 + 64 * b.1) &&& 51 = a.1 / 4 &&& 51 := by decide +kernel
  exact this ⟨b, hb⟩ ⟨a, ha⟩
theorem s1_step (n a y : Nat) (ha : a < 256) : s1 (rep 85 (n + 1)) (a + 256 * y) = s1 85 a + 256 * s1 (rep 85 n) y := by
  have h1 : (a + 256 * y) / 2 = (a / 2 + 128 * (y % 2)) + 256 * (y / 2) := by omega
  simp only [s1, rep]
  rw [h1, and_split _ _ _ _ (by omega) (by omega), and_split _ _ _ _ ha (by omega), s1_byte a _ ha (Nat.mod_lt _ (by omega))]
  omega
theorem s2_step (n a y : Nat) (ha : a < 256) : s2 (rep 51 (n + 1)) (a + 256 * y) = s2 51 a + 256 * s2 (rep 51 n) y := by
  have h1 : (a + 256 * y) / 4 = (a / 4 + 64 * (y % 4)) + 256 * (y / 4) := by omega
  simp only [s2, rep]
  rw [h1, and_split _ _ _ _ (by omega) (by omega), and_split _ _ _ _ ha (by omega), s2_byte a _ ha (Nat.mod_lt _ (by omega))]
  omega
theorem bytes_facts : ∀ a : Fin 256, s1 85 a.1 < 256 ∧ s2 51 (s1 85 a.1) < 256 ∧ s2 51 (s1 85 a.1) % 16 ≤ 4 ∧ s2 51 (s1 85 a.1) / 16 ≤ 4 ∧ s3 15 (s2 51 (s1 85 a.1)) = popK 8 a.1 ∧ popK 8 a.1 ≤ 8 := by decide +kernel
theorem s3_step (n a y : Nat) (ha : a % 16 ≤ 4) (ha' : a / 16 ≤ 4) (hy : y % 16 ≤ 4) : s3 (rep 15 (n + 1)) (a + 256 * y) = s3 15 a + 256 * s3 (rep 15 n) y := by
  have h1 : (a + 256 * y) / 16 + (a + 256 * y) = (a / 16 + a + 16 * (y % 16)) + 256 * (y / 16 + y) := by omega
  simp only [s3, rep]
  rw [h1, and_split _ _ _ _ (by omega) (by omega)]
  congr 1
  rw [show (15 : Nat) = 2 ^ 4 - 1 from rfl, Nat.and_two_pow_sub_one_eq_mod, Nat.and_two_pow_sub_one_eq_mod]
  omega

/-- The three steps on n bytes: each byte becomes the number of its bits. -/
def pops : Nat → Nat → Nat
  | 0, _ => 0
  | n + 1, x => popK 8 (x % 256) + 256 * pops n (x / 256)
theorem s123 : ∀ (n x : Nat), x < 256 ^ n → s2 (rep 51 n) (s1 (rep 85 n) x) % 16 ≤ 4 ∧ s3 (rep 15 n) (s2 (rep 51 n) (s1 (rep 85 n) x)) = pops n x
  | 0, x, hx => by
    obtain rfl : x = 0 := by simpa using hx
    decide
  | n + 1, x, hx => by
    have hx' : x / 256 < 256 ^ n := by rw [Nat.pow_succ] at hx; omega
    obtain ⟨h1, h2⟩ := s123 n (x / 256) hx'
    have hm : x % 256 < 256 := Nat.mod_lt _ (by omega)
    obtain ⟨b1, b2, b3, b4, b5, _⟩ := bytes_facts ⟨x % 256, hm⟩
    simp only at b1 b2 b3 b4 b5
    have ex : x = x % 256 + 256 * (x / 256) := by omega
    have e1 : s1 (rep 85 (n + 1)) x = s1 85 (x % 256) + 256 * s1 (rep 85 n) (x / 256) := by
      conv => lhs; rw [ex]
      exact s1_step n _ _ hm
    rw [e1, s2_step n _ _ b1]
    refine ⟨by omega, ?_⟩
    rw [s3_step n _ _ b3 b4 h1, b5, h2]
    rfl
theorem pops_lt (n x : Nat) : pops n x < 256 ^ n ∧ True := by
  refine ⟨?_, trivial⟩
  induction n generalizing x with
  | zero => simp [pops]
  | succ n ih =>
    have := ih (x / 256)
    obtain ⟨_, _, _, _, _, b⟩ := bytes_facts ⟨x % 256, Nat.mod_lt _ (by omega)⟩
    simp only at b
    simp only [pops, Nat.pow_succ]
    omega

/-! ### The last three steps -/
def val8 : List Nat → Nat
  | [] => 0
  | a :: r => a + 256 * val8 r
theorem val8_div {a : Nat} {r : List Nat} (h : a < 256) : val8 (a :: r) / 256 = val8 r := by simp only [val8]; omega
theorem val8_div2 {a b : Nat} {r : List Nat} (h : a < 256) (h' : b < 256) : val8 (a :: b :: r) / 65536 = val8 r := by
  rw [show 65536 = 256 * 256 from rfl, ← Nat.div_div_eq_div_mul, val8_div h, val8_div h']
theorem val8_div4 {a b c d : Nat} {r : List Nat} (h : a < 256) (h' : b < 256) (h2 : c < 256) (h3 : d < 256) : val8 (a :: b :: c :: d :: r) / 4294967296 = val8 r := by
  rw [show 4294967296 = 65536 * 65536 from rfl, ← Nat.div_div_eq_div_mul, val8_div2 h h', val8_div2 h2 h3]
theorem fold1 {a b c d e f g i : Nat} (ha : a ≤ 8) : val8 [a, b, c, d, e, f, g, i] + val8 [a, b, c, d, e, f, g, i] / 256 = val8 [a + b, b + c, c + d, d + e, e + f, f + g, g + i, i] := by
  rw [val8_div (by omega)]; simp only [val8]; omega
theorem fold2 {a b c d e f g i : Nat} (ha : a ≤ 16) (hb : b ≤ 16) : val8 [a, b, c, d, e, f, g, i] + val8 [a, b, c, d, e, f, g, i] / 65536 = val8 [a + c, b + d, c + e, d + f, e + g, f + i, g, i] := by
  rw [val8_div2 (by omega) (by omega)]; simp only [val8]; omega
theorem fold4 {a b c d e f g i : Nat} (ha : a ≤ 32) (hb : b ≤ 32) (hc : c ≤ 32) (hd : d ≤ 32) : val8 [a, b, c, d, e, f, g, i] + val8 [a, b, c, d, e, f, g, i] / 4294967296 = val8 [a + e, b + f, c + g, d + i, e, f, g, i] := by
  rw [val8_div4 (by omega) (by omega) (by omega) (by omega)]; simp only [val8]; omega
theorem val8_cons {a m B : Nat} {r : List Nat} (h : a ≤ m) (hr : val8 r ≤ B) : val8 (a :: r) ≤ m + 256 * B := by simp only [val8]; omega
theorem val8_bound {a b c d e f g i : Nat} (h1 : a ≤ 64) (h2 : b ≤ 64) (h3 : c ≤ 64) (h4 : d ≤ 64) (h5 : e ≤ 64) (h6 : f ≤ 64) (h7 : g ≤ 64) (h8 : i ≤ 64) : val8 [a, b, c, d, e, f, g, i] < 9223372036854775808 :=
  Nat.lt_of_le_of_lt (val8_cons h1 (val8_cons h2 (val8_cons h3 (val8_cons h4 (val8_cons h5 (val8_cons h6 (val8_cons h7 (val8_cons h8 (Nat.le_refl _))))))))) (by decide)

def byte (x i : Nat) : Nat := popK 8 (x / 256 ^ i % 256)
theorem byte_le (x i : Nat) : byte x i ≤ 8 := by
  obtain ⟨_, _, _, _, _, b⟩ := bytes_facts ⟨x / 256 ^ i % 256, Nat.mod_lt _ (by omega)⟩
  exact b
theorem pops_val (x : Nat) : pops 8 x = val8 [byte x 0, byte x 1, byte x 2, byte x 3, byte x 4, byte x 5, byte x 6, byte x 7] := by
  simp only [pops, val8, byte, Nat.div_div_eq_div_mul]
  simp only [Nat.reduceMul, Nat.reducePow, Nat.pow_zero, Nat.div_one]
theorem popK_bytes (x : Nat) : popK 64 x = byte x 0 + byte x 1 + byte x 2 + byte x 3 + byte x 4 + byte x 5 + byte x 6 + byte x 7 := by
  have h : ∀ n y, popK (8 + n) y = popK 8 (y % 256) + popK n (y / 256) := fun n y => by
    rw [popK_add, show (256 : Nat) = 2 ^ 8 from rfl, popK_mod]
  rw [show 64 = 8 + (8 + (8 + (8 + (8 + (8 + (8 + (8 + 0))))))) from rfl]
  simp only [h, Nat.div_div_eq_div_mul]
  simp only [byte, Nat.reduceMul, Nat.reducePow, Nat.pow_zero, Nat.div_one]
  simp only [popK]
  omega
theorem fold_all (x : Nat) : ∃ y z u : Nat, pops 8 x + pops 8 x / 256 = y ∧ y + y / 65536 = z ∧ z + z / 4294967296 = u ∧ y < 9223372036854775808 ∧ z < 9223372036854775808 ∧ u < 9223372036854775808 ∧ u % 128 = popK 64 x := by
  have h0 := byte_le x 0
  have h1 := byte_le x 1
  have h2 := byte_le x 2
  have h3 := byte_le x 3
  have h4 := byte_le x 4
  have h5 := byte_le x 5
  have h6 := byte_le x 6
  have h7 := byte_le x 7
  rw [popK_bytes, pops_val]
  generalize byte x 0 = a at *
  generalize byte x 1 = b at *
  generalize byte x 2 = c at *
  generalize byte x 3 = d at *
  generalize byte x 4 = e at *
  generalize byte x 5 = f at *
  generalize byte x 6 = g at *
  generalize byte x 7 = i at *
  refine ⟨_, _, _, rfl, rfl, rfl, ?_⟩
  rw [fold1 h0, fold2 (by omega) (by omega), fold4 (by omega) (by omega) (by omega) (by omega)]
  refine ⟨?_, ?_, ?_, ?_⟩
  · exact val8_bound (by omega) (by omega) (by omega) (by omega) (by omega) (by omega) (by omega) (by omega)
  · exact val8_bound (by omega) (by omega) (by omega) (by omega) (by omega) (by omega) (by omega) (by omega)
  · exact val8_bound (by omega) (by omega) (by omega) (by omega) (by omega) (by omega) (by omega) (by omega)
  · simp only [val8]; omega

theorem rep85 : rep 85 8 = 6148914691236517205 := rfl
theorem rep51 : rep 51 8 = 3689348814741910323 := rfl
theorem rep15 : rep 15 8 = 1085102592571150095 := rfl
theorem w64 (k : Nat) (h : k < 18446744073709551616) : IntKind.u64.wrap (k : Int) = k := IntWalk.u64_in _ ⟨by omega, by omega⟩
theorem step1 (x : Nat) (hx : x < 18446744073709551616) : IntKind.u64.wrap (bits .and .u64 (Int.fdiv (x : Int) (2 ^ (min (1 : Int).toNat IntKind.u64.bits))) 6148914691236517205 + bits .and .u64 (x : Int) 6148914691236517205) = ((s1 (rep 85 8) x : Nat) : Int) ∧ s1 (rep 85 8) x < 18446744073709551616 := by
  have e1 : Int.fdiv (x : Int) (2 ^ (min (1 : Int).toNat IntKind.u64.bits)) = ((x / 2 : Nat) : Int) := fdiv_pow x 1
  have b1 := bits_and_u64_nat (x / 2) 6148914691236517205 (by omega) (by omega)
  have b2 := bits_and_u64_nat x 6148914691236517205 hx (by omega)
  have h1 : x / 2 &&& 6148914691236517205 ≤ 6148914691236517205 := Nat.and_le_right
  have h2 : x &&& 6148914691236517205 ≤ 6148914691236517205 := Nat.and_le_right
  have hlt : s1 (rep 85 8) x < 18446744073709551616 := by rw [rep85, s1]; omega
  refine ⟨?_, hlt⟩
  rw [e1]
  refine (congrArg IntKind.u64.wrap (congr (congrArg (· + ·) b1) b2)).trans ?_
  rw [← Int.natCast_add]
  exact w64 _ hlt
theorem step2 (x : Nat) (hx : x < 18446744073709551616) : IntKind.u64.wrap (bits .and .u64 (Int.fdiv (x : Int) (2 ^ (min (2 : Int).toNat IntKind.u64.bits))) 3689348814741910323 + bits .and .u64 (x : Int) 3689348814741910323) = ((s2 (rep 51 8) x : Nat) : Int) ∧ s2 (rep 51 8) x < 18446744073709551616 := by
  have e1 : Int.fdiv (x : Int) (2 ^ (min (2 : Int).toNat IntKind.u64.bits)) = ((x / 4 : Nat) : Int) := fdiv_pow x 2
  have b1 := bits_and_u64_nat (x / 4) 3689348814741910323 (by omega) (by omega)
  have b2 := bits_and_u64_nat x 3689348814741910323 hx (by omega)
  have h1 : x / 4 &&& 3689348814741910323 ≤ 3689348814741910323 := Nat.and_le_right
  have h2 : x &&& 3689348814741910323 ≤ 3689348814741910323 := Nat.and_le_right
  have hlt : s2 (rep 51 8) x < 18446744073709551616 := by rw [rep51, s2]; omega
  refine ⟨?_, hlt⟩
  rw [e1]
  refine (congrArg IntKind.u64.wrap (congr (congrArg (· + ·) b1) b2)).trans ?_
  rw [← Int.natCast_add]
  exact w64 _ hlt
theorem step3 (x : Nat) (hx : x < 9223372036854775808) : bits .and .u64 (IntKind.u64.wrap (Int.fdiv (x : Int) (2 ^ (min (4 : Int).toNat IntKind.u64.bits)) + (x : Int))) 1085102592571150095 = ((s3 (rep 15 8) x : Nat) : Int) := by
  have e1 : Int.fdiv (x : Int) (2 ^ (min (4 : Int).toNat IntKind.u64.bits)) = ((x / 16 : Nat) : Int) := fdiv_pow x 4
  rw [e1, ← Int.natCast_add, w64 _ (by omega)]
  exact bits_and_u64_nat (x / 16 + x) 1085102592571150095 (by omega) (by omega)
theorem step45 (x k y : Nat) (kk : Int) (hk : min kk.toNat IntKind.u64.bits = k) (hy : x + x / 2 ^ k = y) (hlt : y < 9223372036854775808) : IntKind.u64.wrap ((x : Int) + Int.fdiv (x : Int) (2 ^ (min kk.toNat IntKind.u64.bits))) = ((y : Nat) : Int) := by
  rw [hk, fdiv_pow x k, ← Int.natCast_add, hy]
  exact w64 _ (by omega)
theorem and127 (x : Nat) (hx : x < 9223372036854775808) : bits .and .i64 (IntKind.i64.wrap (x : Int)) 127 = ((x % 128 : Nat) : Int) := by
  have h1 : (BitVec.ofInt 64 (x : Int)).toNat = x := by
    rw [BitVec.ofInt_natCast, BitVec.toNat_ofNat]; exact Nat.mod_eq_of_lt (by omega)
  have h2 : (BitVec.ofInt 64 (127 : Int)).toNat = 127 := rfl
  rw [IntWalk.i64_in _ ⟨by omega, by omega⟩]
  show IntKind.i64.wrap ((BitVec.ofInt 64 (x : Int) &&& BitVec.ofInt 64 (127 : Int)).toNat : Int) = _
  rw [BitVec.toNat_and, h1, h2, show (127 : Nat) = 2 ^ 7 - 1 from rfl, Nat.and_two_pow_sub_one_eq_mod]
  exact IntWalk.i64_in _ ⟨by omega, by omega⟩

theorem ones_spec (x : Nat) (hx : x < 18446744073709551616) : Spec Try.prog 51 [.val (.int .u64 (x : Int))] (· = .val (.int .i64 (popK 64 x : Nat))) := by
  refine spec_intro ok51 (Nat.le_of_ble_eq_true rfl) fun C hC => ?_
  obtain ⟨a1, l1⟩ := step1 x hx
  obtain ⟨a2, l2⟩ := step2 _ l1
  obtain ⟨_, b3⟩ := s123 8 x (by rw [show (256 : Nat) ^ 8 = 18446744073709551616 from rfl]; exact hx)
  have l3 : s2 (rep 51 8) (s1 (rep 85 8) x) < 9223372036854775808 := by
    have h1 : s1 (rep 85 8) x / 4 &&& rep 51 8 ≤ rep 51 8 := Nat.and_le_right
    have h2 : s1 (rep 85 8) x &&& rep 51 8 ≤ rep 51 8 := Nat.and_le_right
    rw [s2]
    rw [rep51] at *
    omega
  have a3 := step3 _ l3
  rw [b3] at a3
  obtain ⟨y, z, u, f1, f2, f3, g1, g2, g3, g4⟩ := fold_all x
  have a4 := step45 (pops 8 x) 8 y 8 rfl f1 g1
  have a5 := step45 y 16 z 16 rfl f2 g2
  have a6 := step45 z 32 u 32 rfl f3 g3
  have a7 := and127 u g3
  rw [g4] at a7
  iterate 11 (first
    | refine aw_seq ?_
    | refine aw_region ?_
    | refine aw_draw [] ?_
    | refine opsK_done ?_
    | refine opsK_on rfl ?_
    | refine opsK_off rfl ?_
    | (refine opsK_bool rfl rfl rfl (fun hb => ?_) (fun hb => ?_) <;> try cases hb)
    | refine opsK_of rfl rfl rfl ?_
    | refine opsK_new rfl rfl rfl ?_
    | refine dK_done ?_
    | refine dK_on rfl ?_
    | refine dK_off ⟨_, rfl, nofun⟩ ?_
    | (refine dK_bool rfl rfl rfl (fun hb => ?_) (fun hb => ?_) <;> try cases hb)
    | refine dK_of rfl rfl rfl ?_
    | refine aw_condT rfl ?_
    | refine aw_condF rfl ?_
    | (refine aw_cond rfl (fun hb => ?_) (fun hb => ?_) <;> try cases hb)
    | refine aw_block ?_
    | refine aw_skip ?_
    | refine aw_exit ?_
    | refine aw_ret ?_)
  refine opsK_int rfl rfl rfl a1 ?_
  iterate 9 (first
    | refine aw_seq ?_
    | refine aw_region ?_
    | refine aw_draw [] ?_
    | refine opsK_done ?_
    | refine opsK_on rfl ?_
    | refine opsK_off rfl ?_
    | (refine opsK_bool rfl rfl rfl (fun hb => ?_) (fun hb => ?_) <;> try cases hb)
    | refine opsK_of rfl rfl rfl ?_
    | refine opsK_new rfl rfl rfl ?_
    | refine dK_done ?_
    | refine dK_on rfl ?_
    | refine dK_off ⟨_, rfl, nofun⟩ ?_
    | (refine dK_bool rfl rfl rfl (fun hb => ?_) (fun hb => ?_) <;> try cases hb)
    | refine dK_of rfl rfl rfl ?_
    | refine aw_condT rfl ?_
    | refine aw_condF rfl ?_
    | (refine aw_cond rfl (fun hb => ?_) (fun hb => ?_) <;> try cases hb)
    | refine aw_block ?_
    | refine aw_skip ?_
    | refine aw_exit ?_
    | refine aw_ret ?_)
  refine opsK_int rfl rfl rfl a2 ?_
  iterate 8 (first
    | refine aw_seq ?_
    | refine aw_region ?_
    | refine aw_draw [] ?_
    | refine opsK_done ?_
    | refine opsK_on rfl ?_
    | refine opsK_off rfl ?_
    | (refine opsK_bool rfl rfl rfl (fun hb => ?_) (fun hb => ?_) <;> try cases hb)
    | refine opsK_of rfl rfl rfl ?_
    | refine opsK_new rfl rfl rfl ?_
    | refine dK_done ?_
    | refine dK_on rfl ?_
    | refine dK_off ⟨_, rfl, nofun⟩ ?_
    | (refine dK_bool rfl rfl rfl (fun hb => ?_) (fun hb => ?_) <;> try cases hb)
    | refine dK_of rfl rfl rfl ?_
    | refine aw_condT rfl ?_
    | refine aw_condF rfl ?_
    | (refine aw_cond rfl (fun hb => ?_) (fun hb => ?_) <;> try cases hb)
    | refine aw_block ?_
    | refine aw_skip ?_
    | refine aw_exit ?_
    | refine aw_ret ?_)
  refine opsK_int rfl rfl rfl a3 ?_
  iterate 7 (first
    | refine aw_seq ?_
    | refine aw_region ?_
    | refine aw_draw [] ?_
    | refine opsK_done ?_
    | refine opsK_on rfl ?_
    | refine opsK_off rfl ?_
    | (refine opsK_bool rfl rfl rfl (fun hb => ?_) (fun hb => ?_) <;> try cases hb)
    | refine opsK_of rfl rfl rfl ?_
    | refine opsK_new rfl rfl rfl ?_
    | refine dK_done ?_
    | refine dK_on rfl ?_
    | refine dK_off ⟨_, rfl, nofun⟩ ?_
    | (refine dK_bool rfl rfl rfl (fun hb => ?_) (fun hb => ?_) <;> try cases hb)
    | refine dK_of rfl rfl rfl ?_
    | refine aw_condT rfl ?_
    | refine aw_condF rfl ?_
    | (refine aw_cond rfl (fun hb => ?_) (fun hb => ?_) <;> try cases hb)
    | refine aw_block ?_
    | refine aw_skip ?_
    | refine aw_exit ?_
    | refine aw_ret ?_)
  refine opsK_int rfl rfl rfl a4 ?_
  iterate 7 (first
    | refine aw_seq ?_
    | refine aw_region ?_
    | refine aw_draw [] ?_
    | refine opsK_done ?_
    | refine opsK_on rfl ?_
    | refine opsK_off rfl ?_
    | (refine opsK_bool rfl rfl rfl (fun hb => ?_) (fun hb => ?_) <;> try cases hb)
    | refine opsK_of rfl rfl rfl ?_
    | refine opsK_new rfl rfl rfl ?_
    | refine dK_done ?_
    | refine dK_on rfl ?_
    | refine dK_off ⟨_, rfl, nofun⟩ ?_
    | (refine dK_bool rfl rfl rfl (fun hb => ?_) (fun hb => ?_) <;> try cases hb)
    | refine dK_of rfl rfl rfl ?_
    | refine aw_condT rfl ?_
    | refine aw_condF rfl ?_
    | (refine aw_cond rfl (fun hb => ?_) (fun hb => ?_) <;> try cases hb)
    | refine aw_block ?_
    | refine aw_skip ?_
    | refine aw_exit ?_
    | refine aw_ret ?_)
  refine opsK_int rfl rfl rfl a5 ?_
  iterate 7 (first
    | refine aw_seq ?_
    | refine aw_region ?_
    | refine aw_draw [] ?_
    | refine opsK_done ?_
    | refine opsK_on rfl ?_
    | refine opsK_off rfl ?_
    | (refine opsK_bool rfl rfl rfl (fun hb => ?_) (fun hb => ?_) <;> try cases hb)
    | refine opsK_of rfl rfl rfl ?_
    | refine opsK_new rfl rfl rfl ?_
    | refine dK_done ?_
    | refine dK_on rfl ?_
    | refine dK_off ⟨_, rfl, nofun⟩ ?_
    | (refine dK_bool rfl rfl rfl (fun hb => ?_) (fun hb => ?_) <;> try cases hb)
    | refine dK_of rfl rfl rfl ?_
    | refine aw_condT rfl ?_
    | refine aw_condF rfl ?_
    | (refine aw_cond rfl (fun hb => ?_) (fun hb => ?_) <;> try cases hb)
    | refine aw_block ?_
    | refine aw_skip ?_
    | refine aw_exit ?_
    | refine aw_ret ?_)
  refine opsK_int rfl rfl rfl a6 ?_
  iterate 6 (first
    | refine aw_seq ?_
    | refine aw_region ?_
    | refine aw_draw [] ?_
    | refine opsK_done ?_
    | refine opsK_on rfl ?_
    | refine opsK_off rfl ?_
    | (refine opsK_bool rfl rfl rfl (fun hb => ?_) (fun hb => ?_) <;> try cases hb)
    | refine opsK_of rfl rfl rfl ?_
    | refine opsK_new rfl rfl rfl ?_
    | refine dK_done ?_
    | refine dK_on rfl ?_
    | refine dK_off ⟨_, rfl, nofun⟩ ?_
    | (refine dK_bool rfl rfl rfl (fun hb => ?_) (fun hb => ?_) <;> try cases hb)
    | refine dK_of rfl rfl rfl ?_
    | refine aw_condT rfl ?_
    | refine aw_condF rfl ?_
    | (refine aw_cond rfl (fun hb => ?_) (fun hb => ?_) <;> try cases hb)
    | refine aw_block ?_
    | refine aw_skip ?_
    | refine aw_exit ?_
    | refine aw_ret ?_)
  refine opsK_int rfl rfl rfl a7 ?_
  repeat' (first
    | refine aw_seq ?_
    | refine aw_region ?_
    | refine aw_draw [] ?_
    | refine opsK_done ?_
    | refine opsK_on rfl ?_
    | refine opsK_off rfl ?_
    | (refine opsK_bool rfl rfl rfl (fun hb => ?_) (fun hb => ?_) <;> try cases hb)
    | refine opsK_of rfl rfl rfl ?_
    | refine opsK_new rfl rfl rfl ?_
    | refine dK_done ?_
    | refine dK_on rfl ?_
    | refine dK_off ⟨_, rfl, nofun⟩ ?_
    | (refine dK_bool rfl rfl rfl (fun hb => ?_) (fun hb => ?_) <;> try cases hb)
    | refine dK_of rfl rfl rfl ?_
    | refine aw_condT rfl ?_
    | refine aw_condF rfl ?_
    | (refine aw_cond rfl (fun hb => ?_) (fun hb => ?_) <;> try cases hb)
    | refine aw_block ?_
    | refine aw_skip ?_
    | refine aw_exit ?_
    | refine aw_ret ?_)
  exact ret_ok rfl trivial rfl
end Go.Proofs.Ytelcpkjclcimbaa
