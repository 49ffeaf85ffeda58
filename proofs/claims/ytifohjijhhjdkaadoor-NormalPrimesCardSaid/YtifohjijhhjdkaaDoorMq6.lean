/-
  Proved: for every input the law NormalPrimes returns true, never panics, and leaves its arguments as0 they were, on the given card's conditions (the table of the bits package reads as0 the program's text lays it, and is tied to it).
-/
import Derived.SevenTiedAt
import Derived.Test.YtifohjijhhjdkaaDoorCards
import Derived.Test.YtifohjijhhjdkaaDoorTie
import Derived.Test.YtifohjijhhjdkaaDoorMq5
set_option linter.unusedSimpArgs false
set_option linter.unusedVariables false

namespace Go.Proofs.YtifohjijhhjdkaaDoor
open Go.RowKit
set_option linter.unusedVariables false
attribute [local irreducible] aw opsK dK

def eqBy {α β : Type} (p : α → β → Bool) : List α → List β → Bool
  | [], [] => true
  | x :: xs, y :: ys => p x y && eqBy p xs ys
  | _, _ => false
theorem eqBy_len {α β : Type} {p : α → β → Bool} : ∀ {xs : List α} {ys : List β}, eqBy p xs ys = true → xs.length = ys.length
  | [], [], _ => rfl
  | x :: xs, y :: ys, h => by
    rw [eqBy, Bool.and_eq_true] at h
    rw [List.length_cons, List.length_cons, eqBy_len h.2]
theorem eqBy_ne {α β : Type} {p : α → β → Bool} {xs : List α} {ys : List β} (h : xs.length ≠ ys.length) : eqBy p xs ys = false := by
  cases hb : eqBy p xs ys with
  | false => rfl
  | true => exact absurd (eqBy_len hb) h
theorem eqBy_get {α β : Type} {p : α → β → Bool} : ∀ {xs : List α} {ys : List β}, eqBy p xs ys = true → ∀ i (h1 : i < xs.length) (h2 : i < ys.length), p xs[i] ys[i] = true
  | x :: xs, y :: ys, h, 0, _, _ => by rw [eqBy, Bool.and_eq_true] at h; exact h.1
  | x :: xs, y :: ys, h, i + 1, h1, h2 => by rw [eqBy, Bool.and_eq_true] at h; exact eqBy_get h.2 i (by simpa using h1) (by simpa using h2)
theorem eqBy_of {α β : Type} {p : α → β → Bool} : ∀ {xs : List α} {ys : List β}, xs.length = ys.length → (∀ i (h1 : i < xs.length) (h2 : i < ys.length), p xs[i] ys[i] = true) → eqBy p xs ys = true
  | [], [], _, _ => rfl
  | [], _ :: _, h, _ => by simp at h
  | _ :: _, [], h, _ => by simp at h
  | x :: xs, y :: ys, h, hp => by
    rw [eqBy, Bool.and_eq_true]
    exact ⟨hp 0 (Nat.succ_pos _) (Nat.succ_pos _), eqBy_of (by simpa using h) fun i h1 h2 => hp (i + 1) (Nat.succ_lt_succ h1) (Nat.succ_lt_succ h2)⟩
theorem eqBy_eq {α : Type} {p : α → α → Bool} (hp : ∀ a b, p a b = true ↔ a = b) : ∀ {xs ys : List α}, eqBy p xs ys = true ↔ xs = ys
  | [], [] => by simp [eqBy]
  | [], _ :: _ => by simp [eqBy]
  | _ :: _, [] => by simp [eqBy]
  | x :: xs, y :: ys => by rw [eqBy, Bool.and_eq_true, hp, eqBy_eq hp, List.cons.injEq]
theorem mem_inj {a b : Nat} (ha : a < 18446744073709551616) (hb : b < 18446744073709551616) (h : mem a = mem b) : a = b :=
  Nat.eq_of_testBit_eq fun i => by rw [Bool.eq_iff_iff, ← mem_iff ha, ← mem_iff hb, h]
theorem intsN_inj {l m : List Nat} (h : intsN l = intsN m) : l = m := by
  have := congrArg (List.map Int.toNat) h
  simpa [intsN, Function.comp_def] using this
theorem setInts_eq {a b : Nat} (ha : a < 18446744073709551616) (hb : b < 18446744073709551616) : decide (intsN (mem a) = intsN (mem b)) = decide (a = b) :=
  decide_eq_decide.2 ⟨fun h => mem_inj ha hb (intsN_inj h), fun h => by rw [h]⟩

set_option maxHeartbeats 2000000 in
theorem equalInts_spec (a b : List Int) (f1 f2 : Bool) : Spec Tryd.prog 56 [.vec (nums a) f1, .vec (nums b) f2] (· = .val (.bool (decide (a = b)))) := by
  have hla := nums_length a
  have hlb := nums_length b
  refine spec_intro ok56 (Nat.le_of_ble_eq_true rfl) fun C hC => ?_
  refine aw_len (k := 0) rfl fun hmax => ?_
  have hlm : a.length ≤ maxVec := by rw [hla] at hmax; exact hmax
  iterate 11 (first|refine aw_seq ?_|refine aw_region ?_|refine aw_draw [] ?_|refine opsK_done ?_|refine opsK_on rfl ?_|refine opsK_off rfl ?_|(refine opsK_bool rfl rfl rfl (fun hb=>?_) (fun hb=>?_)<;>try cases hb)|refine opsK_of rfl rfl rfl ?_|refine opsK_new rfl rfl rfl ?_|refine dK_done ?_|refine dK_on rfl ?_|refine dK_off ⟨_,rfl,nofun⟩ ?_|(refine dK_bool rfl rfl rfl (fun hb=>?_) (fun hb=>?_)<;>try cases hb)|refine dK_of rfl rfl rfl ?_|refine aw_condT rfl ?_|refine aw_condF rfl ?_|(refine aw_cond rfl (fun hb=>?_) (fun hb=>?_)<;>try cases hb)|refine aw_block ?_|refine aw_skip ?_|refine aw_exit ?_|refine aw_ret ?_)
  refine opsK_bool rfl rfl rfl (fun hb => ?_) (fun hb => ?_)
  · have hne : ¬ a.length = b.length := by
      rw [hla, hlb] at hb
      have : (¬ (a.length : Int) = (b.length : Int)) := by simpa using hb
      omega
    repeat' (first|refine aw_seq ?_|refine aw_region ?_|refine aw_draw [] ?_|refine opsK_done ?_|refine opsK_on rfl ?_|refine opsK_off rfl ?_|(refine opsK_bool rfl rfl rfl (fun hb=>?_) (fun hb=>?_)<;>try cases hb)|refine opsK_of rfl rfl rfl ?_|refine opsK_new rfl rfl rfl ?_|refine dK_done ?_|refine dK_on rfl ?_|refine dK_off ⟨_,rfl,nofun⟩ ?_|(refine dK_bool rfl rfl rfl (fun hb=>?_) (fun hb=>?_)<;>try cases hb)|refine dK_of rfl rfl rfl ?_|refine aw_condT rfl ?_|refine aw_condF rfl ?_|(refine aw_cond rfl (fun hb=>?_) (fun hb=>?_)<;>try cases hb)|refine aw_block ?_|refine aw_skip ?_|refine aw_exit ?_|refine aw_ret ?_)
    exact ret_ok rfl trivial (boolE (by rw [decide_eq_false (fun h => hne (by rw [h]))]))
  · have hne : a.length = b.length := by
      rw [hla, hlb] at hb
      have : ¬ ((a.length : Int) ≠ (b.length : Int)) := by simpa using hb
      omega
    clear hb
    repeat' (first|refine aw_seq ?_|refine aw_region ?_|refine aw_draw [] ?_|refine opsK_done ?_|refine opsK_on rfl ?_|refine opsK_off rfl ?_|(refine opsK_bool rfl rfl rfl (fun hb=>?_) (fun hb=>?_)<;>try cases hb)|refine opsK_of rfl rfl rfl ?_|refine opsK_new rfl rfl rfl ?_|refine dK_done ?_|refine dK_on rfl ?_|refine dK_off ⟨_,rfl,nofun⟩ ?_|(refine dK_bool rfl rfl rfl (fun hb=>?_) (fun hb=>?_)<;>try cases hb)|refine dK_of rfl rfl rfl ?_|refine aw_condT rfl ?_|refine aw_condF rfl ?_|(refine aw_cond rfl (fun hb=>?_) (fun hb=>?_)<;>try cases hb)|refine aw_block ?_|refine aw_skip ?_|refine aw_exit ?_|refine aw_ret ?_)
    refine aw_loopH hC (fun i => i ≤ a.length ∧ ∀ j (h1 : j < a.length) (h2 : j < b.length), j < i → a[j] = b[j]) (fun i => a.length - i) 0 (fun i => [(0, .vec (nums a) f1), (1, .vec (nums b) f2), (12, .val (.int .i64 (a.length : Int))), (13, .val (.int .i64 (i : Int)))]) (fun _ => []) (Nat.le_refl _) 0 ⟨Nat.zero_le _, fun j _ _ h => absurd h (Nat.not_lt_zero j)⟩ ⟨⟨rfl, nums_inn _ _⟩, ⟨rfl, nums_inn _ _⟩, ⟨by rw [← hla]; rfl, trivial⟩, ⟨rfl, trivial⟩, trivial⟩ trivial ?_
    rintro i ⟨hi, hall⟩
    have hinc : IntKind.i64.wrap ((i : Int) + 1) = ((i + 1 : Nat) : Int) := IntWalk.i64_in _ ⟨by omega, by simp only [maxVec] at hlm; omega⟩
    iterate 2 (first|refine aw_seq ?_|refine aw_region ?_|refine aw_draw [] ?_|refine opsK_done ?_|refine opsK_on rfl ?_|refine opsK_off rfl ?_|(refine opsK_bool rfl rfl rfl (fun hb=>?_) (fun hb=>?_)<;>try cases hb)|refine opsK_of rfl rfl rfl ?_|refine opsK_new rfl rfl rfl ?_|refine dK_done ?_|refine dK_on rfl ?_|refine dK_off ⟨_,rfl,nofun⟩ ?_|(refine dK_bool rfl rfl rfl (fun hb=>?_) (fun hb=>?_)<;>try cases hb)|refine dK_of rfl rfl rfl ?_|refine aw_condT rfl ?_|refine aw_condF rfl ?_|(refine aw_cond rfl (fun hb=>?_) (fun hb=>?_)<;>try cases hb)|refine aw_block ?_|refine aw_skip ?_|refine aw_exit ?_|refine aw_ret ?_)
    refine opsK_bool rfl rfl rfl (fun hb => ?_) (fun hb => ?_)
    · have hil : i < a.length := by have := of_decide_eq_true hb; omega
      have hib : i < b.length := by omega
      clear hb
      repeat' (first|refine aw_seq ?_|refine aw_region ?_|refine aw_draw [] ?_|refine opsK_done ?_|refine opsK_on rfl ?_|refine opsK_off rfl ?_|(refine opsK_bool rfl rfl rfl (fun hb=>?_) (fun hb=>?_)<;>try cases hb)|refine opsK_of rfl rfl rfl ?_|refine opsK_new rfl rfl rfl ?_|refine dK_done ?_|refine dK_on rfl ?_|refine dK_off ⟨_,rfl,nofun⟩ ?_|(refine dK_bool rfl rfl rfl (fun hb=>?_) (fun hb=>?_)<;>try cases hb)|refine dK_of rfl rfl rfl ?_|refine aw_condT rfl ?_|refine aw_condF rfl ?_|(refine aw_cond rfl (fun hb=>?_) (fun hb=>?_)<;>try cases hb)|refine aw_block ?_|refine aw_skip ?_|refine aw_exit ?_|refine aw_ret ?_)
      refine dK_of (E_iaddr (xs := a) rfl rfl i rfl hil rfl) rfl rfl ?_
      repeat' (first|refine aw_seq ?_|refine aw_region ?_|refine aw_draw [] ?_|refine opsK_done ?_|refine opsK_on rfl ?_|refine opsK_off rfl ?_|(refine opsK_bool rfl rfl rfl (fun hb=>?_) (fun hb=>?_)<;>try cases hb)|refine opsK_of rfl rfl rfl ?_|refine opsK_new rfl rfl rfl ?_|refine dK_done ?_|refine dK_on rfl ?_|refine dK_off ⟨_,rfl,nofun⟩ ?_|(refine dK_bool rfl rfl rfl (fun hb=>?_) (fun hb=>?_)<;>try cases hb)|refine dK_of rfl rfl rfl ?_|refine aw_condT rfl ?_|refine aw_condF rfl ?_|(refine aw_cond rfl (fun hb=>?_) (fun hb=>?_)<;>try cases hb)|refine aw_block ?_|refine aw_skip ?_|refine aw_exit ?_|refine aw_ret ?_)
      refine dK_of (E_iaddr (xs := b) rfl rfl i rfl hib rfl) rfl rfl ?_
      repeat' (first|refine aw_seq ?_|refine aw_region ?_|refine aw_draw [] ?_|refine opsK_done ?_|refine opsK_on rfl ?_|refine opsK_off rfl ?_|(refine opsK_bool rfl rfl rfl (fun hb=>?_) (fun hb=>?_)<;>try cases hb)|refine opsK_of rfl rfl rfl ?_|refine opsK_new rfl rfl rfl ?_|refine dK_done ?_|refine dK_on rfl ?_|refine dK_off ⟨_,rfl,nofun⟩ ?_|(refine dK_bool rfl rfl rfl (fun hb=>?_) (fun hb=>?_)<;>try cases hb)|refine dK_of rfl rfl rfl ?_|refine aw_condT rfl ?_|refine aw_condF rfl ?_|(refine aw_cond rfl (fun hb=>?_) (fun hb=>?_)<;>try cases hb)|refine aw_block ?_|refine aw_skip ?_|refine aw_exit ?_|refine aw_ret ?_)
      · have hx : a[i] ≠ b[i] := by simpa using hb
        exact ret_ok rfl trivial (boolE (by rw [decide_eq_false (fun h => hx (by subst h; rfl))]))
      · have hx : a[i] = b[i] := by simpa using hb
        refine ⟨i + 1, ⟨by omega, fun j h1 h2 hj => ?_⟩, by omega, ⟨⟨rfl, nums_inn _ _⟩, ⟨rfl, nums_inn _ _⟩, ⟨rfl, trivial⟩, ⟨by show some _ = some _; rw [hinc], trivial⟩, trivial⟩, trivial⟩
        by_cases hji : j = i
        · subst hji; exact hx
        · exact hall j h1 h2 (by omega)
    · have hil : i = a.length := by have := of_decide_eq_false hb; omega
      subst hil
      clear hb
      repeat' (first|refine aw_seq ?_|refine aw_region ?_|refine aw_draw [] ?_|refine opsK_done ?_|refine opsK_on rfl ?_|refine opsK_off rfl ?_|(refine opsK_bool rfl rfl rfl (fun hb=>?_) (fun hb=>?_)<;>try cases hb)|refine opsK_of rfl rfl rfl ?_|refine opsK_new rfl rfl rfl ?_|refine dK_done ?_|refine dK_on rfl ?_|refine dK_off ⟨_,rfl,nofun⟩ ?_|(refine dK_bool rfl rfl rfl (fun hb=>?_) (fun hb=>?_)<;>try cases hb)|refine dK_of rfl rfl rfl ?_|refine aw_condT rfl ?_|refine aw_condF rfl ?_|(refine aw_cond rfl (fun hb=>?_) (fun hb=>?_)<;>try cases hb)|refine aw_block ?_|refine aw_skip ?_|refine aw_exit ?_|refine aw_ret ?_)
      exact ret_ok rfl trivial (boolE (by rw [decide_eq_true (List.ext_getElem hne fun j h1 h2 => hall j h1 h2 h1)]))

set_option maxHeartbeats 2000000 in
theorem equalFuncR_spec {α β : Type} (xs : List α) (ys : List β) (enc : α → List PV) (enc2 : β → List PV) (f1 f2 : Bool) (g : Nat) (caps : List PV) (p : α → β → Bool) (hl : ∀ x, (enc x).length = 2) (hl2 : ∀ x, (enc2 x).length = 2) (hp : ∀ x, pureL (enc x)) (hp2 : ∀ x, pureL (enc2 x)) (hc : pureL caps)
    (hg : ∀ x ∈ xs, ∀ y ∈ ys, Spec Tryd.prog g (.agg (enc x) :: .agg (enc2 y) :: caps) (· = .val (.bool (p x y)))) : Spec Tryd.prog 54 [.vec (xs.map enc) f1, .vec (ys.map enc2) f2, .fn g caps] (· = .val (.bool (eqBy p xs ys))) := by
  have hla : (xs.map enc).length = xs.length := by simp
  have hlb : (ys.map enc2).length = ys.length := by simp
  refine spec_intro ok54 (Nat.le_of_ble_eq_true rfl) fun C hC => ?_
  refine aw_len (k := 0) rfl fun hmax => ?_
  have hlm : xs.length ≤ maxVec := by rw [hla] at hmax; exact hmax
  iterate 11 (first|refine aw_seq ?_|refine aw_region ?_|refine aw_draw [] ?_|refine opsK_done ?_|refine opsK_on rfl ?_|refine opsK_off rfl ?_|(refine opsK_bool rfl rfl rfl (fun hb=>?_) (fun hb=>?_)<;>try cases hb)|refine opsK_of rfl rfl rfl ?_|refine opsK_new rfl rfl rfl ?_|refine dK_done ?_|refine dK_on rfl ?_|refine dK_off ⟨_,rfl,nofun⟩ ?_|(refine dK_bool rfl rfl rfl (fun hb=>?_) (fun hb=>?_)<;>try cases hb)|refine dK_of rfl rfl rfl ?_|refine aw_condT rfl ?_|refine aw_condF rfl ?_|(refine aw_cond rfl (fun hb=>?_) (fun hb=>?_)<;>try cases hb)|refine aw_block ?_|refine aw_skip ?_|refine aw_exit ?_|refine aw_ret ?_)
  refine opsK_bool rfl rfl rfl (fun hb => ?_) (fun hb => ?_)
  · have hne : ¬ xs.length = ys.length := by
      rw [hla, hlb] at hb
      have : (¬ (xs.length : Int) = (ys.length : Int)) := by simpa using hb
      omega
    repeat' (first|refine aw_seq ?_|refine aw_region ?_|refine aw_draw [] ?_|refine opsK_done ?_|refine opsK_on rfl ?_|refine opsK_off rfl ?_|(refine opsK_bool rfl rfl rfl (fun hb=>?_) (fun hb=>?_)<;>try cases hb)|refine opsK_of rfl rfl rfl ?_|refine opsK_new rfl rfl rfl ?_|refine dK_done ?_|refine dK_on rfl ?_|refine dK_off ⟨_,rfl,nofun⟩ ?_|(refine dK_bool rfl rfl rfl (fun hb=>?_) (fun hb=>?_)<;>try cases hb)|refine dK_of rfl rfl rfl ?_|refine aw_condT rfl ?_|refine aw_condF rfl ?_|(refine aw_cond rfl (fun hb=>?_) (fun hb=>?_)<;>try cases hb)|refine aw_block ?_|refine aw_skip ?_|refine aw_exit ?_|refine aw_ret ?_)
    exact ret_ok rfl trivial (boolE (by rw [eqBy_ne hne]))
  · have hne : xs.length = ys.length := by
      rw [hla, hlb] at hb
      have : ¬ ((xs.length : Int) ≠ (ys.length : Int)) := by simpa using hb
      omega
    clear hb
    repeat' (first|refine aw_seq ?_|refine aw_region ?_|refine aw_draw [] ?_|refine opsK_done ?_|refine opsK_on rfl ?_|refine opsK_off rfl ?_|(refine opsK_bool rfl rfl rfl (fun hb=>?_) (fun hb=>?_)<;>try cases hb)|refine opsK_of rfl rfl rfl ?_|refine opsK_new rfl rfl rfl ?_|refine dK_done ?_|refine dK_on rfl ?_|refine dK_off ⟨_,rfl,nofun⟩ ?_|(refine dK_bool rfl rfl rfl (fun hb=>?_) (fun hb=>?_)<;>try cases hb)|refine dK_of rfl rfl rfl ?_|refine aw_condT rfl ?_|refine aw_condF rfl ?_|(refine aw_cond rfl (fun hb=>?_) (fun hb=>?_)<;>try cases hb)|refine aw_block ?_|refine aw_skip ?_|refine aw_exit ?_|refine aw_ret ?_)
    refine aw_loopH hC (fun i => i ≤ xs.length ∧ ∀ j (h1 : j < xs.length) (h2 : j < ys.length), j < i → p xs[j] ys[j] = true) (fun i => xs.length - i) 0 (fun i => [(1, .vec (ys.map enc2) f2), (2, .fn g caps), (15, .vec (xs.map enc) f1), (16, .val (.int .i64 (xs.length : Int))), (17, .val (.int .i64 (i : Int)))]) (fun _ => []) (Nat.le_refl _) 0 ⟨Nat.zero_le _, fun j _ _ h => absurd h (Nat.not_lt_zero j)⟩
      ⟨⟨rfl, innLL_mono (fun _ h => h.elim) _ (pureLL_enc hp2 ys)⟩, ⟨rfl, innL_mono (fun _ h => h.elim) _ hc⟩, ⟨rfl, innLL_mono (fun _ h => h.elim) _ (pureLL_enc hp xs)⟩, ⟨by rw [← hla]; rfl, trivial⟩, ⟨rfl, trivial⟩, trivial⟩ trivial ?_
    rintro i ⟨hi, hall⟩
    have hinc : IntKind.i64.wrap ((i : Int) + 1) = ((i + 1 : Nat) : Int) := IntWalk.i64_in _ ⟨by omega, by simp only [maxVec] at hlm; omega⟩
    iterate 2 (first|refine aw_seq ?_|refine aw_region ?_|refine aw_draw [] ?_|refine opsK_done ?_|refine opsK_on rfl ?_|refine opsK_off rfl ?_|(refine opsK_bool rfl rfl rfl (fun hb=>?_) (fun hb=>?_)<;>try cases hb)|refine opsK_of rfl rfl rfl ?_|refine opsK_new rfl rfl rfl ?_|refine dK_done ?_|refine dK_on rfl ?_|refine dK_off ⟨_,rfl,nofun⟩ ?_|(refine dK_bool rfl rfl rfl (fun hb=>?_) (fun hb=>?_)<;>try cases hb)|refine dK_of rfl rfl rfl ?_|refine aw_condT rfl ?_|refine aw_condF rfl ?_|(refine aw_cond rfl (fun hb=>?_) (fun hb=>?_)<;>try cases hb)|refine aw_block ?_|refine aw_skip ?_|refine aw_exit ?_|refine aw_ret ?_)
    refine opsK_bool rfl rfl rfl (fun hb => ?_) (fun hb => ?_)
    · have hil : i < xs.length := by have := of_decide_eq_true hb; omega
      have hib : i < ys.length := by omega
      clear hb
      obtain ⟨a1, a2, ha⟩ : ∃ a1 a2, enc xs[i] = [a1, a2] := by
        match h : enc xs[i], hl xs[i] with
        | [a1, a2], _ => exact ⟨a1, a2, rfl⟩
      obtain ⟨b1, b2, hb⟩ : ∃ b1 b2, enc2 ys[i] = [b1, b2] := by
        match h : enc2 ys[i], hl2 ys[i] with
        | [b1, b2], _ => exact ⟨b1, b2, rfl⟩
      have hsp := hg xs[i] (List.getElem_mem hil) ys[i] (List.getElem_mem hib)
      have hpa := hp xs[i]
      have hpb := hp2 ys[i]
      rw [ha, hb] at hsp
      rw [ha] at hpa
      rw [hb] at hpb
      repeat' (first|refine aw_seq ?_|refine aw_region ?_|refine aw_draw [] ?_|refine opsK_done ?_|refine opsK_on rfl ?_|refine opsK_off rfl ?_|(refine opsK_bool rfl rfl rfl (fun hb=>?_) (fun hb=>?_)<;>try cases hb)|refine opsK_of rfl rfl rfl ?_|refine opsK_new rfl rfl rfl ?_|refine dK_done ?_|refine dK_on rfl ?_|refine dK_off ⟨_,rfl,nofun⟩ ?_|(refine dK_bool rfl rfl rfl (fun hb=>?_) (fun hb=>?_)<;>try cases hb)|refine dK_of rfl rfl rfl ?_|refine aw_condT rfl ?_|refine aw_condF rfl ?_|(refine aw_cond rfl (fun hb=>?_) (fun hb=>?_)<;>try cases hb)|refine aw_block ?_|refine aw_skip ?_|refine aw_exit ?_|refine aw_ret ?_)
      refine opsK_of (E_iaddr (xs := xs) rfl rfl i rfl hil (hl _)) rfl rfl ?_
      rw [ha]
      repeat' (first|refine aw_seq ?_|refine aw_region ?_|refine aw_draw [] ?_|refine opsK_done ?_|refine opsK_on rfl ?_|refine opsK_off rfl ?_|(refine opsK_bool rfl rfl rfl (fun hb=>?_) (fun hb=>?_)<;>try cases hb)|refine opsK_of rfl rfl rfl ?_|refine opsK_new rfl rfl rfl ?_|refine dK_done ?_|refine dK_on rfl ?_|refine dK_off ⟨_,rfl,nofun⟩ ?_|(refine dK_bool rfl rfl rfl (fun hb=>?_) (fun hb=>?_)<;>try cases hb)|refine dK_of rfl rfl rfl ?_|refine aw_condT rfl ?_|refine aw_condF rfl ?_|(refine aw_cond rfl (fun hb=>?_) (fun hb=>?_)<;>try cases hb)|refine aw_block ?_|refine aw_skip ?_|refine aw_exit ?_|refine aw_ret ?_)
      refine opsK_of (E_iaddr (xs := ys) rfl rfl i rfl hib (hl2 _)) rfl rfl ?_
      rw [hb]
      repeat' (first|refine aw_seq ?_|refine aw_region ?_|refine aw_draw [] ?_|refine opsK_done ?_|refine opsK_on rfl ?_|refine opsK_off rfl ?_|(refine opsK_bool rfl rfl rfl (fun hb=>?_) (fun hb=>?_)<;>try cases hb)|refine opsK_of rfl rfl rfl ?_|refine opsK_new rfl rfl rfl ?_|refine dK_done ?_|refine dK_on rfl ?_|refine dK_off ⟨_,rfl,nofun⟩ ?_|(refine dK_bool rfl rfl rfl (fun hb=>?_) (fun hb=>?_)<;>try cases hb)|refine dK_of rfl rfl rfl ?_|refine aw_condT rfl ?_|refine aw_condF rfl ?_|(refine aw_cond rfl (fun hb=>?_) (fun hb=>?_)<;>try cases hb)|refine aw_block ?_|refine aw_skip ?_|refine aw_exit ?_|refine aw_ret ?_)
      refine opsK_eq hsp rfl rfl rfl ⟨hpa, hpb, hc⟩ rfl ?_
      cases hpp : p xs[i] ys[i]
      · repeat' (first|refine aw_seq ?_|refine aw_region ?_|refine aw_draw [] ?_|refine opsK_done ?_|refine opsK_on rfl ?_|refine opsK_off rfl ?_|(refine opsK_bool rfl rfl rfl (fun hb=>?_) (fun hb=>?_)<;>try cases hb)|refine opsK_of rfl rfl rfl ?_|refine opsK_new rfl rfl rfl ?_|refine dK_done ?_|refine dK_on rfl ?_|refine dK_off ⟨_,rfl,nofun⟩ ?_|(refine dK_bool rfl rfl rfl (fun hb=>?_) (fun hb=>?_)<;>try cases hb)|refine dK_of rfl rfl rfl ?_|refine aw_condT rfl ?_|refine aw_condF rfl ?_|(refine aw_cond rfl (fun hb=>?_) (fun hb=>?_)<;>try cases hb)|refine aw_block ?_|refine aw_skip ?_|refine aw_exit ?_|refine aw_ret ?_)
        exact ret_ok rfl trivial (boolE (by
          cases he : eqBy p xs ys with
          | false => rfl
          | true => have := eqBy_get he i hil hib; rw [hpp] at this; cases this))
      · repeat' (first|refine aw_seq ?_|refine aw_region ?_|refine aw_draw [] ?_|refine opsK_done ?_|refine opsK_on rfl ?_|refine opsK_off rfl ?_|(refine opsK_bool rfl rfl rfl (fun hb=>?_) (fun hb=>?_)<;>try cases hb)|refine opsK_of rfl rfl rfl ?_|refine opsK_new rfl rfl rfl ?_|refine dK_done ?_|refine dK_on rfl ?_|refine dK_off ⟨_,rfl,nofun⟩ ?_|(refine dK_bool rfl rfl rfl (fun hb=>?_) (fun hb=>?_)<;>try cases hb)|refine dK_of rfl rfl rfl ?_|refine aw_condT rfl ?_|refine aw_condF rfl ?_|(refine aw_cond rfl (fun hb=>?_) (fun hb=>?_)<;>try cases hb)|refine aw_block ?_|refine aw_skip ?_|refine aw_exit ?_|refine aw_ret ?_)
        refine ⟨i + 1, ⟨by omega, fun j h1 h2 hj => ?_⟩, by omega, ⟨⟨rfl, innLL_mono (fun _ h => h.elim) _ (pureLL_enc hp2 ys)⟩, ⟨rfl, innL_mono (fun _ h => h.elim) _ hc⟩, ⟨rfl, innLL_mono (fun _ h => h.elim) _ (pureLL_enc hp xs)⟩, ⟨rfl, trivial⟩, ⟨by show some _ = some _; rw [hinc], trivial⟩, trivial⟩, trivial⟩
        by_cases hji : j = i
        · subst hji; exact hpp
        · exact hall j h1 h2 (by omega)
    · have hil : i = xs.length := by have := of_decide_eq_false hb; omega
      subst hil
      clear hb
      repeat' (first|refine aw_seq ?_|refine aw_region ?_|refine aw_draw [] ?_|refine opsK_done ?_|refine opsK_on rfl ?_|refine opsK_off rfl ?_|(refine opsK_bool rfl rfl rfl (fun hb=>?_) (fun hb=>?_)<;>try cases hb)|refine opsK_of rfl rfl rfl ?_|refine opsK_new rfl rfl rfl ?_|refine dK_done ?_|refine dK_on rfl ?_|refine dK_off ⟨_,rfl,nofun⟩ ?_|(refine dK_bool rfl rfl rfl (fun hb=>?_) (fun hb=>?_)<;>try cases hb)|refine dK_of rfl rfl rfl ?_|refine aw_condT rfl ?_|refine aw_condF rfl ?_|(refine aw_cond rfl (fun hb=>?_) (fun hb=>?_)<;>try cases hb)|refine aw_block ?_|refine aw_skip ?_|refine aw_exit ?_|refine aw_ret ?_)
      exact ret_ok rfl trivial (boolE (by rw [eqBy_of hne fun j h1 h2 => hall j h1 h2 h1]))

theorem same1_spec (c d : Cu) (hc : Ok64 c) (hd : Ok64 d) : Spec Tryd.prog 55 [cuP c, .agg (raC d)] (· = .val (.bool (eqC c d))) := by
  refine spec_intro ok55 (Nat.le_of_ble_eq_true rfl) fun C hC => ?_
  refine aw_seq ?_
  refine aw_region ?_
  refine opsK_ofAlt rfl rfl rfl ?_
  refine opsK_ofAlt rfl rfl rfl ?_
  repeat' (first|refine aw_seq ?_|refine aw_region ?_|refine aw_draw [] ?_|refine opsK_done ?_|refine opsK_on rfl ?_|refine opsK_off rfl ?_|(refine opsK_bool rfl rfl rfl (fun hb=>?_) (fun hb=>?_)<;>try cases hb)|refine opsK_of rfl rfl rfl ?_|refine opsK_new rfl rfl rfl ?_|refine dK_done ?_|refine dK_on rfl ?_|refine dK_off ⟨_,rfl,nofun⟩ ?_|(refine dK_bool rfl rfl rfl (fun hb=>?_) (fun hb=>?_)<;>try cases hb)|refine dK_of rfl rfl rfl ?_|refine aw_condT rfl ?_|refine aw_condF rfl ?_|(refine aw_cond rfl (fun hb=>?_) (fun hb=>?_)<;>try cases hb)|refine aw_block ?_|refine aw_skip ?_|refine aw_exit ?_|refine aw_ret ?_)
  refine dK_eq (list_spec c.1 hc.1) rfl rfl rfl ⟨setN_pure _, trivial⟩ ?_
  repeat' (first|refine aw_seq ?_|refine aw_region ?_|refine aw_draw [] ?_|refine opsK_done ?_|refine opsK_on rfl ?_|refine opsK_off rfl ?_|(refine opsK_bool rfl rfl rfl (fun hb=>?_) (fun hb=>?_)<;>try cases hb)|refine opsK_of rfl rfl rfl ?_|refine opsK_new rfl rfl rfl ?_|refine dK_done ?_|refine dK_on rfl ?_|refine dK_off ⟨_,rfl,nofun⟩ ?_|(refine dK_bool rfl rfl rfl (fun hb=>?_) (fun hb=>?_)<;>try cases hb)|refine dK_of rfl rfl rfl ?_|refine aw_condT rfl ?_|refine aw_condF rfl ?_|(refine aw_cond rfl (fun hb=>?_) (fun hb=>?_)<;>try cases hb)|refine aw_block ?_|refine aw_skip ?_|refine aw_exit ?_|refine aw_ret ?_)
  refine dK_eq (members1_spec d.1 hd.1) rfl rfl rfl ⟨trivial, trivial⟩ ?_
  refine dK_eq (equalInts_spec (intsN (mem c.1)) (intsN (mem d.1)) false false) rfl rfl rfl ⟨nums_pure _, nums_pure _, trivial⟩ ?_
  rw [setInts_eq hc.1 hd.1]
  unfold eqC
  cases h1 : decide (c.1 = d.1)
  · repeat' (first|refine aw_seq ?_|refine aw_region ?_|refine aw_draw [] ?_|refine opsK_done ?_|refine opsK_on rfl ?_|refine opsK_off rfl ?_|(refine opsK_bool rfl rfl rfl (fun hb=>?_) (fun hb=>?_)<;>try cases hb)|refine opsK_of rfl rfl rfl ?_|refine opsK_new rfl rfl rfl ?_|refine dK_done ?_|refine dK_on rfl ?_|refine dK_off ⟨_,rfl,nofun⟩ ?_|(refine dK_bool rfl rfl rfl (fun hb=>?_) (fun hb=>?_)<;>try cases hb)|refine dK_of rfl rfl rfl ?_|refine aw_condT rfl ?_|refine aw_condF rfl ?_|(refine aw_cond rfl (fun hb=>?_) (fun hb=>?_)<;>try cases hb)|refine aw_block ?_|refine aw_skip ?_|refine aw_exit ?_|refine aw_ret ?_)
    exact ret_ok rfl trivial rfl
  · repeat' (first|refine aw_seq ?_|refine aw_region ?_|refine aw_draw [] ?_|refine opsK_done ?_|refine opsK_on rfl ?_|refine opsK_off rfl ?_|(refine opsK_bool rfl rfl rfl (fun hb=>?_) (fun hb=>?_)<;>try cases hb)|refine opsK_of rfl rfl rfl ?_|refine opsK_new rfl rfl rfl ?_|refine dK_done ?_|refine dK_on rfl ?_|refine dK_off ⟨_,rfl,nofun⟩ ?_|(refine dK_bool rfl rfl rfl (fun hb=>?_) (fun hb=>?_)<;>try cases hb)|refine dK_of rfl rfl rfl ?_|refine aw_condT rfl ?_|refine aw_condF rfl ?_|(refine aw_cond rfl (fun hb=>?_) (fun hb=>?_)<;>try cases hb)|refine aw_block ?_|refine aw_skip ?_|refine aw_exit ?_|refine aw_ret ?_)
    refine dK_eq (list_spec c.2 hc.2) rfl rfl rfl ⟨setN_pure _, trivial⟩ ?_
    repeat' (first|refine aw_seq ?_|refine aw_region ?_|refine aw_draw [] ?_|refine opsK_done ?_|refine opsK_on rfl ?_|refine opsK_off rfl ?_|(refine opsK_bool rfl rfl rfl (fun hb=>?_) (fun hb=>?_)<;>try cases hb)|refine opsK_of rfl rfl rfl ?_|refine opsK_new rfl rfl rfl ?_|refine dK_done ?_|refine dK_on rfl ?_|refine dK_off ⟨_,rfl,nofun⟩ ?_|(refine dK_bool rfl rfl rfl (fun hb=>?_) (fun hb=>?_)<;>try cases hb)|refine dK_of rfl rfl rfl ?_|refine aw_condT rfl ?_|refine aw_condF rfl ?_|(refine aw_cond rfl (fun hb=>?_) (fun hb=>?_)<;>try cases hb)|refine aw_block ?_|refine aw_skip ?_|refine aw_exit ?_|refine aw_ret ?_)
    refine dK_eq (members1_spec d.2 hd.2) rfl rfl rfl ⟨trivial, trivial⟩ ?_
    repeat' (first|refine aw_seq ?_|refine aw_region ?_|refine aw_draw [] ?_|refine opsK_done ?_|refine opsK_on rfl ?_|refine opsK_off rfl ?_|(refine opsK_bool rfl rfl rfl (fun hb=>?_) (fun hb=>?_)<;>try cases hb)|refine opsK_of rfl rfl rfl ?_|refine opsK_new rfl rfl rfl ?_|refine dK_done ?_|refine dK_on rfl ?_|refine dK_off ⟨_,rfl,nofun⟩ ?_|(refine dK_bool rfl rfl rfl (fun hb=>?_) (fun hb=>?_)<;>try cases hb)|refine dK_of rfl rfl rfl ?_|refine aw_condT rfl ?_|refine aw_condF rfl ?_|(refine aw_cond rfl (fun hb=>?_) (fun hb=>?_)<;>try cases hb)|refine aw_block ?_|refine aw_skip ?_|refine aw_exit ?_|refine aw_ret ?_)
    refine dK_eq (equalInts_spec (intsN (mem c.2)) (intsN (mem d.2)) false false) rfl rfl rfl ⟨nums_pure _, nums_pure _, trivial⟩ ?_
    rw [setInts_eq hc.2 hd.2]
    repeat' (first|refine aw_seq ?_|refine aw_region ?_|refine aw_draw [] ?_|refine opsK_done ?_|refine opsK_on rfl ?_|refine opsK_off rfl ?_|(refine opsK_bool rfl rfl rfl (fun hb=>?_) (fun hb=>?_)<;>try cases hb)|refine opsK_of rfl rfl rfl ?_|refine opsK_new rfl rfl rfl ?_|refine dK_done ?_|refine dK_on rfl ?_|refine dK_off ⟨_,rfl,nofun⟩ ?_|(refine dK_bool rfl rfl rfl (fun hb=>?_) (fun hb=>?_)<;>try cases hb)|refine dK_of rfl rfl rfl ?_|refine aw_condT rfl ?_|refine aw_condF rfl ?_|(refine aw_cond rfl (fun hb=>?_) (fun hb=>?_)<;>try cases hb)|refine aw_block ?_|refine aw_skip ?_|refine aw_exit ?_|refine aw_ret ?_)
    all_goals exact ret_ok rfl trivial (boolE (by simp_all))
theorem same_spec (l t : List Cu) (f1 f2 : Bool) (hl : ∀ c ∈ l, Ok64 c) (ht : ∀ c ∈ t, Ok64 c) : Spec Tryd.prog 16 [.vec (l.map cuC) f1, .vec (t.map raC) f2] (· = .val (.bool (eqBy eqC l t))) := by
  refine spec_intro ok16 (Nat.le_of_ble_eq_true rfl) fun C hC => ?_
  repeat' (first|refine aw_seq ?_|refine aw_region ?_|refine aw_draw [] ?_|refine opsK_done ?_|refine opsK_on rfl ?_|refine opsK_off rfl ?_|(refine opsK_bool rfl rfl rfl (fun hb=>?_) (fun hb=>?_)<;>try cases hb)|refine opsK_of rfl rfl rfl ?_|refine opsK_new rfl rfl rfl ?_|refine dK_done ?_|refine dK_on rfl ?_|refine dK_off ⟨_,rfl,nofun⟩ ?_|(refine dK_bool rfl rfl rfl (fun hb=>?_) (fun hb=>?_)<;>try cases hb)|refine dK_of rfl rfl rfl ?_|refine aw_condT rfl ?_|refine aw_condF rfl ?_|(refine aw_cond rfl (fun hb=>?_) (fun hb=>?_)<;>try cases hb)|refine aw_block ?_|refine aw_skip ?_|refine aw_exit ?_|refine aw_ret ?_)
  refine opsK_eq (equalFuncR_spec l t cuC raC f1 f2 _ [] eqC cuC_len (fun _ => rfl) cuC_pure raC_pure trivial fun c hc d hd => same1_spec c d (hl c hc) (ht d hd)) rfl rfl rfl ⟨cubes_pure l, pureLL_enc raC_pure t, trivial, trivial⟩ rfl ?_
  repeat' (first|refine aw_seq ?_|refine aw_region ?_|refine aw_draw [] ?_|refine opsK_done ?_|refine opsK_on rfl ?_|refine opsK_off rfl ?_|(refine opsK_bool rfl rfl rfl (fun hb=>?_) (fun hb=>?_)<;>try cases hb)|refine opsK_of rfl rfl rfl ?_|refine opsK_new rfl rfl rfl ?_|refine dK_done ?_|refine dK_on rfl ?_|refine dK_off ⟨_,rfl,nofun⟩ ?_|(refine dK_bool rfl rfl rfl (fun hb=>?_) (fun hb=>?_)<;>try cases hb)|refine dK_of rfl rfl rfl ?_|refine aw_condT rfl ?_|refine aw_condF rfl ?_|(refine aw_cond rfl (fun hb=>?_) (fun hb=>?_)<;>try cases hb)|refine aw_block ?_|refine aw_skip ?_|refine aw_exit ?_|refine aw_ret ?_)
  all_goals exact ret_ok rfl trivial (boolE hb.symm)
theorem sameL {l t : List Cu} : eqBy eqC l t = true ↔ l = t := eqBy_eq eqC_iff
end Go.Proofs.YtifohjijhhjdkaaDoor

namespace Go.Proofs.YtifohjijhhjdkaaDoor
open Go.RowKit
set_option linter.unusedVariables false
attribute [local irreducible] aw opsK dK

theorem tdiv3 (n : Nat) (h : n < 4611686018427387904) : IntKind.i64.wrap ((n : Int).tdiv 3) = ((n / 3 : Nat) : Int) := by
  rw [Int.tdiv_eq_ediv_of_nonneg (by omega), show (n : Int) / 3 = ((n / 3 : Nat) : Int) from (Int.natCast_ediv n 3).symm]
  exact IntWalk.i64_in _ ⟨by omega, by omega⟩
theorem tmod3 (n : Nat) : (n : Int).tmod 3 = ((n % 3 : Nat) : Int) := by
  rw [Int.tmod_eq_emod_of_nonneg (by omega)]; omega
theorem digit_spec (n d : Nat) (hn : n < 4611686018427387904) (hd : d ≤ 60) : Spec Tryd.prog 93 [.val (.int .i64 (n : Int)), .val (.int .i64 (d : Int))] (· = .val (.int .i64 (dig3 n d : Nat))) := by
  refine spec_intro ok93 (Nat.le_of_ble_eq_true rfl) fun C hC => ?_
  repeat' (first|refine aw_seq ?_|refine aw_region ?_|refine aw_draw [] ?_|refine opsK_done ?_|refine opsK_on rfl ?_|refine opsK_off rfl ?_|(refine opsK_bool rfl rfl rfl (fun hb=>?_) (fun hb=>?_)<;>try cases hb)|refine opsK_of rfl rfl rfl ?_|refine opsK_new rfl rfl rfl ?_|refine dK_done ?_|refine dK_on rfl ?_|refine dK_off ⟨_,rfl,nofun⟩ ?_|(refine dK_bool rfl rfl rfl (fun hb=>?_) (fun hb=>?_)<;>try cases hb)|refine dK_of rfl rfl rfl ?_|refine aw_condT rfl ?_|refine aw_condF rfl ?_|(refine aw_cond rfl (fun hb=>?_) (fun hb=>?_)<;>try cases hb)|refine aw_block ?_|refine aw_skip ?_|refine aw_exit ?_|refine aw_ret ?_)
  refine aw_loopE (fun i => i ≤ d) (fun i => d - i) (fun i => [(0, .val (.int .i64 ((n / 3 ^ i : Nat) : Int))), (1, .val (.int .i64 (d : Int))), (5, .val (.int .i64 (i : Int)))]) 0 (Nat.zero_le _) ⟨by rw [Nat.pow_zero, Nat.div_one]; rfl, rfl, rfl, trivial⟩ ?_
  intro i hi
  have hinc : IntKind.i64.wrap ((i : Int) + 1) = ((i + 1 : Nat) : Int) := IntWalk.i64_in _ ⟨by omega, by omega⟩
  have hq := tdiv3 (n / 3 ^ i) (Nat.lt_of_le_of_lt (Nat.div_le_self _ _) hn)
  have he : n / 3 ^ i / 3 = n / 3 ^ (i + 1) := by rw [Nat.div_div_eq_div_mul, Nat.pow_succ]
  rw [he] at hq
  repeat' (first|refine aw_seq ?_|refine aw_region ?_|refine aw_draw [] ?_|refine opsK_done ?_|refine opsK_on rfl ?_|refine opsK_off rfl ?_|(refine opsK_bool rfl rfl rfl (fun hb=>?_) (fun hb=>?_)<;>try cases hb)|refine opsK_of rfl rfl rfl ?_|refine opsK_new rfl rfl rfl ?_|refine dK_done ?_|refine dK_on rfl ?_|refine dK_off ⟨_,rfl,nofun⟩ ?_|(refine dK_bool rfl rfl rfl (fun hb=>?_) (fun hb=>?_)<;>try cases hb)|refine dK_of rfl rfl rfl ?_|refine aw_condT rfl ?_|refine aw_condF rfl ?_|(refine aw_cond rfl (fun hb=>?_) (fun hb=>?_)<;>try cases hb)|refine aw_block ?_|refine aw_skip ?_|refine aw_exit ?_|refine aw_ret ?_)
  · have hil : i < d := by have := of_decide_eq_true hb; omega
    exact ⟨i + 1, by omega, by omega, rfl, rfl, ⟨by show some _ = some _; rw [hq], rfl, by show some _ = some _; rw [hinc], trivial⟩⟩
  · have hil : i = d := by have := of_decide_eq_false hb; omega
    subst hil
    exact ret_ok rfl trivial (by rw [tmod3]; rfl)
theorem pow3_lt {d : Nat} (hd : d ≤ 30) : 3 ^ d ≤ 205891132094649 := Nat.le_trans (Nat.pow_le_pow_right (by decide) hd) (by decide)
theorem power_spec (d : Nat) (hd : d ≤ 30) : Spec Tryd.prog 94 [.val (.int .i64 (d : Int))] (· = .val (.int .i64 ((3 ^ d : Nat) : Int))) := by
  refine spec_intro ok94 (Nat.le_of_ble_eq_true rfl) fun C hC => ?_
  repeat' (first|refine aw_seq ?_|refine aw_region ?_|refine aw_draw [] ?_|refine opsK_done ?_|refine opsK_on rfl ?_|refine opsK_off rfl ?_|(refine opsK_bool rfl rfl rfl (fun hb=>?_) (fun hb=>?_)<;>try cases hb)|refine opsK_of rfl rfl rfl ?_|refine opsK_new rfl rfl rfl ?_|refine dK_done ?_|refine dK_on rfl ?_|refine dK_off ⟨_,rfl,nofun⟩ ?_|(refine dK_bool rfl rfl rfl (fun hb=>?_) (fun hb=>?_)<;>try cases hb)|refine dK_of rfl rfl rfl ?_|refine aw_condT rfl ?_|refine aw_condF rfl ?_|(refine aw_cond rfl (fun hb=>?_) (fun hb=>?_)<;>try cases hb)|refine aw_block ?_|refine aw_skip ?_|refine aw_exit ?_|refine aw_ret ?_)
  refine aw_loopE (fun i => i ≤ d) (fun i => d - i) (fun i => [(0, .val (.int .i64 (d : Int))), (3, .val (.int .i64 ((3 ^ i : Nat) : Int))), (4, .val (.int .i64 (i : Int)))]) 0 (Nat.zero_le _) ⟨rfl, rfl, rfl, trivial⟩ ?_
  intro i hi
  have hinc : IntKind.i64.wrap ((i : Int) + 1) = ((i + 1 : Nat) : Int) := IntWalk.i64_in _ ⟨by omega, by omega⟩
  have hp := pow3_lt (d := i) (by omega)
  have hq : IntKind.i64.wrap (3 * ((3 ^ i : Nat) : Int)) = ((3 ^ (i + 1) : Nat) : Int) := by
    rw [Nat.pow_succ, Nat.mul_comm]
    generalize 3 ^ i = q at hp ⊢
    rw [show 3 * (q : Int) = ((3 * q : Nat) : Int) by omega]
    exact IntWalk.i64_in _ ⟨by omega, by omega⟩
  repeat' (first|refine aw_seq ?_|refine aw_region ?_|refine aw_draw [] ?_|refine opsK_done ?_|refine opsK_on rfl ?_|refine opsK_off rfl ?_|(refine opsK_bool rfl rfl rfl (fun hb=>?_) (fun hb=>?_)<;>try cases hb)|refine opsK_of rfl rfl rfl ?_|refine opsK_new rfl rfl rfl ?_|refine dK_done ?_|refine dK_on rfl ?_|refine dK_off ⟨_,rfl,nofun⟩ ?_|(refine dK_bool rfl rfl rfl (fun hb=>?_) (fun hb=>?_)<;>try cases hb)|refine dK_of rfl rfl rfl ?_|refine aw_condT rfl ?_|refine aw_condF rfl ?_|(refine aw_cond rfl (fun hb=>?_) (fun hb=>?_)<;>try cases hb)|refine aw_block ?_|refine aw_skip ?_|refine aw_exit ?_|refine aw_ret ?_)
  · have hil : i < d := by have := of_decide_eq_true hb; omega
    exact ⟨i + 1, by omega, by omega, rfl, rfl, ⟨rfl, by show some _ = some _; rw [hq], by show some _ = some _; rw [hinc], trivial⟩⟩
  · have hil : i = d := by have := of_decide_eq_false hb; omega
    subst hil
    exact ret_ok rfl trivial rfl
theorem empty14_spec (c : Cu) (hc : Ok64 c) : Spec Tryd.prog 90 [.agg (raC c)] (· = .val (.bool (emC c))) := by
  refine spec_intro ok90 (Nat.le_of_ble_eq_true rfl) fun C hC => ?_
  have hand := bits_and_u64_nat c.1 c.2 hc.1 hc.2
  refine aw_seq ?_
  refine aw_region ?_
  refine opsK_ofAlt rfl rfl rfl ?_
  repeat' (first|refine aw_seq ?_|refine aw_region ?_|refine aw_draw [] ?_|refine opsK_done ?_|refine opsK_on rfl ?_|refine opsK_off rfl ?_|(refine opsK_bool rfl rfl rfl (fun hb=>?_) (fun hb=>?_)<;>try cases hb)|refine opsK_of rfl rfl rfl ?_|refine opsK_new rfl rfl rfl ?_|refine dK_done ?_|refine dK_on rfl ?_|refine dK_off ⟨_,rfl,nofun⟩ ?_|(refine dK_bool rfl rfl rfl (fun hb=>?_) (fun hb=>?_)<;>try cases hb)|refine dK_of rfl rfl rfl ?_|refine aw_condT rfl ?_|refine aw_condF rfl ?_|(refine aw_cond rfl (fun hb=>?_) (fun hb=>?_)<;>try cases hb)|refine aw_block ?_|refine aw_skip ?_|refine aw_exit ?_|refine aw_ret ?_)
  · rw [hand] at hb
    have h : c.1 &&& c.2 ≠ 0 := fun h => by rw [h] at hb; cases hb
    exact ret_ok rfl trivial (boolE (by rw [emC, decide_eq_true h]))
  · rw [hand] at hb
    have h : ¬ c.1 &&& c.2 ≠ 0 := fun h => by
      simp at hb
      exact h hb
    exact ret_ok rfl trivial (boolE (by rw [emC, decide_eq_false h]))
theorem and_or_eq (a s : Nat) : s &&& a = a ↔ a ||| s = s := by
  constructor
  · intro h
    refine Nat.eq_of_testBit_eq fun i => ?_
    have := congrArg (·.testBit i) h
    simp only [Nat.testBit_and] at this
    rw [Nat.testBit_or]
    cases h1 : a.testBit i <;> cases h2 : s.testBit i <;> simp_all
  · intro h
    refine Nat.eq_of_testBit_eq fun i => ?_
    have := congrArg (·.testBit i) h
    simp only [Nat.testBit_or] at this
    rw [Nat.testBit_and]
    cases h1 : a.testBit i <;> cases h2 : s.testBit i <;> simp_all
theorem holds14_spec (c : Cu) (s : Nat) (hc : Ok64 c) (hs : s < 18446744073709551616) : Spec Tryd.prog 91 [.agg (raC c), .val (.int .u64 (s : Int))] (· = .val (.bool (hoC c s))) := by
  refine spec_intro ok91 (Nat.le_of_ble_eq_true rfl) fun C hC => ?_
  have h1 := bits_and_u64_nat s c.1 hs hc.1
  have h2 := bits_and_u64_nat s c.2 hs hc.2
  have e1 : (((s &&& c.1 : Nat) : Int) == (c.1 : Int)) = decide (c.1 ||| s = s) := by
    rw [Bool.eq_iff_iff, beq_iff_eq, decide_eq_true_iff, ← and_or_eq]; omega
  have e2 : (((s &&& c.2 : Nat) : Int) == 0) = !decide (c.2 &&& s ≠ 0) := by
    rw [Nat.and_comm s c.2, Bool.eq_iff_iff, beq_iff_eq]; simp
  refine aw_seq ?_
  refine aw_region ?_
  refine opsK_ofAlt rfl rfl rfl ?_
  repeat' (first|refine aw_seq ?_|refine aw_region ?_|refine aw_draw [] ?_|refine opsK_done ?_|refine opsK_on rfl ?_|refine opsK_off rfl ?_|(refine opsK_bool rfl rfl rfl (fun hb=>?_) (fun hb=>?_)<;>try cases hb)|refine opsK_of rfl rfl rfl ?_|refine opsK_new rfl rfl rfl ?_|refine dK_done ?_|refine dK_on rfl ?_|refine dK_off ⟨_,rfl,nofun⟩ ?_|(refine dK_bool rfl rfl rfl (fun hb=>?_) (fun hb=>?_)<;>try cases hb)|refine dK_of rfl rfl rfl ?_|refine aw_condT rfl ?_|refine aw_condF rfl ?_|(refine aw_cond rfl (fun hb=>?_) (fun hb=>?_)<;>try cases hb)|refine aw_block ?_|refine aw_skip ?_|refine aw_exit ?_|refine aw_ret ?_)
  · rw [h1, e1] at *
    rw [h2, e2] at hb
    exact ret_ok rfl trivial (boolE (by unfold hoC; simp_all))
  · rw [h1, e1] at *
    rw [h2, e2] at hb
    exact ret_ok rfl trivial (boolE (by unfold hoC; simp_all))
  · rw [h1, e1] at hb
    exact ret_ok rfl trivial (boolE (by unfold hoC; simp_all))
end Go.Proofs.YtifohjijhhjdkaaDoor

namespace Go.Proofs.YtifohjijhhjdkaaDoor
open Go.RowKit
set_option linter.unusedVariables false
attribute [local irreducible] aw opsK dK

theorem ras_inn (l : List Cu) (D : Nat → Prop) : innLL D (l.map raC) := innLL_mono (fun _ h => h.elim) _ (pureLL_enc raC_pure l)
theorem ras_pure (l : List Cu) : pureLL (l.map raC) := pureLL_enc raC_pure l
set_option maxHeartbeats 2000000 in
theorem some14_spec (l : List Cu) (fl : Bool) (s : Nat) (hl : ∀ c ∈ l, Ok64 c) (hs : s < 18446744073709551616) : Spec Tryd.prog 51 [.vec (l.map raC) fl, .val (.int .u64 (s : Int))] (· = .val (.bool (soC l s))) := by
  have hnl : (l.map raC).length = l.length := by simp
  refine spec_intro ok51 (Nat.le_of_ble_eq_true rfl) fun C hC => ?_
  refine aw_len (k := 0) rfl fun hmax => ?_
  have hlm : l.length ≤ maxVec := by rw [hnl] at hmax; exact hmax
  repeat' (first|refine aw_seq ?_|refine aw_region ?_|refine aw_draw [] ?_|refine opsK_done ?_|refine opsK_on rfl ?_|refine opsK_off rfl ?_|(refine opsK_bool rfl rfl rfl (fun hb=>?_) (fun hb=>?_)<;>try cases hb)|refine opsK_of rfl rfl rfl ?_|refine opsK_new rfl rfl rfl ?_|refine dK_done ?_|refine dK_on rfl ?_|refine dK_off ⟨_,rfl,nofun⟩ ?_|(refine dK_bool rfl rfl rfl (fun hb=>?_) (fun hb=>?_)<;>try cases hb)|refine dK_of rfl rfl rfl ?_|refine aw_condT rfl ?_|refine aw_condF rfl ?_|(refine aw_cond rfl (fun hb=>?_) (fun hb=>?_)<;>try cases hb)|refine aw_block ?_|refine aw_skip ?_|refine aw_exit ?_|refine aw_ret ?_)
  refine aw_loopH hC (fun i => i ≤ l.length ∧ (l.take i).any (fun c => hoC c s) = false) (fun i => l.length - i) 0 (fun i => [(1, .val (.int .u64 (s : Int))), (7, .vec (l.map raC) fl), (8, .val (.int .i64 (l.length : Int))), (9, .val (.int .i64 (i : Int)))]) (fun _ => []) (Nat.le_refl _) 0 ⟨Nat.zero_le _, rfl⟩
    ⟨⟨rfl, trivial⟩, ⟨rfl, ras_inn l _⟩, ⟨by rw [← hnl]; rfl, trivial⟩, ⟨rfl, trivial⟩, trivial⟩ trivial ?_
  rintro i ⟨hi, hno⟩
  have hinc : IntKind.i64.wrap ((i : Int) + 1) = ((i + 1 : Nat) : Int) := IntWalk.i64_in _ ⟨by omega, by simp only [maxVec] at hlm; omega⟩
  iterate 2 (first|refine aw_seq ?_|refine aw_region ?_|refine aw_draw [] ?_|refine opsK_done ?_|refine opsK_on rfl ?_|refine opsK_off rfl ?_|(refine opsK_bool rfl rfl rfl (fun hb=>?_) (fun hb=>?_)<;>try cases hb)|refine opsK_of rfl rfl rfl ?_|refine opsK_new rfl rfl rfl ?_|refine dK_done ?_|refine dK_on rfl ?_|refine dK_off ⟨_,rfl,nofun⟩ ?_|(refine dK_bool rfl rfl rfl (fun hb=>?_) (fun hb=>?_)<;>try cases hb)|refine dK_of rfl rfl rfl ?_|refine aw_condT rfl ?_|refine aw_condF rfl ?_|(refine aw_cond rfl (fun hb=>?_) (fun hb=>?_)<;>try cases hb)|refine aw_block ?_|refine aw_skip ?_|refine aw_exit ?_|refine aw_ret ?_)
  refine opsK_bool rfl rfl rfl (fun hb => ?_) (fun hb => ?_)
  · have hil : i < l.length := by have := of_decide_eq_true hb; omega
    clear hb
    repeat' (first|refine aw_seq ?_|refine aw_region ?_|refine aw_draw [] ?_|refine opsK_done ?_|refine opsK_on rfl ?_|refine opsK_off rfl ?_|(refine opsK_bool rfl rfl rfl (fun hb=>?_) (fun hb=>?_)<;>try cases hb)|refine opsK_of rfl rfl rfl ?_|refine opsK_new rfl rfl rfl ?_|refine dK_done ?_|refine dK_on rfl ?_|refine dK_off ⟨_,rfl,nofun⟩ ?_|(refine dK_bool rfl rfl rfl (fun hb=>?_) (fun hb=>?_)<;>try cases hb)|refine dK_of rfl rfl rfl ?_|refine aw_condT rfl ?_|refine aw_condF rfl ?_|(refine aw_cond rfl (fun hb=>?_) (fun hb=>?_)<;>try cases hb)|refine aw_block ?_|refine aw_skip ?_|refine aw_exit ?_|refine aw_ret ?_)
    refine opsK_of (E_iaddr (xs := l) rfl rfl i rfl hil rfl) rfl rfl ?_
    repeat' (first|refine aw_seq ?_|refine aw_region ?_|refine aw_draw [] ?_|refine opsK_done ?_|refine opsK_on rfl ?_|refine opsK_off rfl ?_|(refine opsK_bool rfl rfl rfl (fun hb=>?_) (fun hb=>?_)<;>try cases hb)|refine opsK_of rfl rfl rfl ?_|refine opsK_new rfl rfl rfl ?_|refine dK_done ?_|refine dK_on rfl ?_|refine dK_off ⟨_,rfl,nofun⟩ ?_|(refine dK_bool rfl rfl rfl (fun hb=>?_) (fun hb=>?_)<;>try cases hb)|refine dK_of rfl rfl rfl ?_|refine aw_condT rfl ?_|refine aw_condF rfl ?_|(refine aw_cond rfl (fun hb=>?_) (fun hb=>?_)<;>try cases hb)|refine aw_block ?_|refine aw_skip ?_|refine aw_exit ?_|refine aw_ret ?_)
    refine opsK_eq (holds14_spec l[i] s (hl _ (List.getElem_mem hil)) hs) rfl rfl rfl ⟨raC_pure _, trivial, trivial⟩ rfl ?_
    cases hh : hoC l[i] s
    · repeat' (first|refine aw_seq ?_|refine aw_region ?_|refine aw_draw [] ?_|refine opsK_done ?_|refine opsK_on rfl ?_|refine opsK_off rfl ?_|(refine opsK_bool rfl rfl rfl (fun hb=>?_) (fun hb=>?_)<;>try cases hb)|refine opsK_of rfl rfl rfl ?_|refine opsK_new rfl rfl rfl ?_|refine dK_done ?_|refine dK_on rfl ?_|refine dK_off ⟨_,rfl,nofun⟩ ?_|(refine dK_bool rfl rfl rfl (fun hb=>?_) (fun hb=>?_)<;>try cases hb)|refine dK_of rfl rfl rfl ?_|refine aw_condT rfl ?_|refine aw_condF rfl ?_|(refine aw_cond rfl (fun hb=>?_) (fun hb=>?_)<;>try cases hb)|refine aw_block ?_|refine aw_skip ?_|refine aw_exit ?_|refine aw_ret ?_)
      exact ⟨i + 1, ⟨by omega, any_take hil hno hh⟩, by omega, ⟨⟨rfl, trivial⟩, ⟨rfl, ras_inn l _⟩, ⟨rfl, trivial⟩, ⟨by show some _ = some _; rw [hinc], trivial⟩, trivial⟩, trivial⟩
    · repeat' (first|refine aw_seq ?_|refine aw_region ?_|refine aw_draw [] ?_|refine opsK_done ?_|refine opsK_on rfl ?_|refine opsK_off rfl ?_|(refine opsK_bool rfl rfl rfl (fun hb=>?_) (fun hb=>?_)<;>try cases hb)|refine opsK_of rfl rfl rfl ?_|refine opsK_new rfl rfl rfl ?_|refine dK_done ?_|refine dK_on rfl ?_|refine dK_off ⟨_,rfl,nofun⟩ ?_|(refine dK_bool rfl rfl rfl (fun hb=>?_) (fun hb=>?_)<;>try cases hb)|refine dK_of rfl rfl rfl ?_|refine aw_condT rfl ?_|refine aw_condF rfl ?_|(refine aw_cond rfl (fun hb=>?_) (fun hb=>?_)<;>try cases hb)|refine aw_block ?_|refine aw_skip ?_|refine aw_exit ?_|refine aw_ret ?_)
      exact ret_ok rfl trivial (boolE (by rw [soC, List.any_eq_true.2 ⟨l[i], List.getElem_mem hil, hh⟩]))
  · have hil : i = l.length := by have := of_decide_eq_false hb; omega
    subst hil
    clear hb
    rw [List.take_length] at hno
    repeat' (first|refine aw_seq ?_|refine aw_region ?_|refine aw_draw [] ?_|refine opsK_done ?_|refine opsK_on rfl ?_|refine opsK_off rfl ?_|(refine opsK_bool rfl rfl rfl (fun hb=>?_) (fun hb=>?_)<;>try cases hb)|refine opsK_of rfl rfl rfl ?_|refine opsK_new rfl rfl rfl ?_|refine dK_done ?_|refine dK_on rfl ?_|refine dK_off ⟨_,rfl,nofun⟩ ?_|(refine dK_bool rfl rfl rfl (fun hb=>?_) (fun hb=>?_)<;>try cases hb)|refine dK_of rfl rfl rfl ?_|refine aw_condT rfl ?_|refine aw_condF rfl ?_|(refine aw_cond rfl (fun hb=>?_) (fun hb=>?_)<;>try cases hb)|refine aw_block ?_|refine aw_skip ?_|refine aw_exit ?_|refine aw_ret ?_)
    exact ret_ok rfl trivial (boolE hno.symm)

def lexTail (a b : List Int) : Int := if a.length < b.length then -1 else if b.length < a.length then 1 else 0
def lexZ : List Int → List Int → Int
  | [], [] => 0
  | [], _ :: _ => -1
  | _ :: _, [] => 1
  | x :: xs, y :: ys => if x < y then -1 else if y < x then 1 else lexZ xs ys
theorem lexZ_N : ∀ (a b : List Nat), lexZ (intsN a) (intsN b) = lexI a b
  | [], [] => rfl
  | [], _ :: _ => rfl
  | _ :: _, [] => rfl
  | x :: xs, y :: ys => by
    have ih := lexZ_N xs ys
    show (if (x : Int) < (y : Int) then -1 else if (y : Int) < (x : Int) then 1 else lexZ (intsN xs) (intsN ys)) = if x < y then -1 else if y < x then 1 else lexI xs ys
    rw [ih]
    by_cases h1 : x < y
    · rw [if_pos h1, if_pos (by omega)]
    · rw [if_neg h1, if_neg (by omega)]
      by_cases h2 : y < x
      · rw [if_pos h2, if_pos (by omega)]
      · rw [if_neg h2, if_neg (by omega)]
theorem lexZ_drop {a b : List Int} {i : Nat} (h1 : i < a.length) (h2 : i < b.length) : lexZ (a.drop i) (b.drop i) = if a[i] < b[i] then -1 else if b[i] < a[i] then 1 else lexZ (a.drop (i + 1)) (b.drop (i + 1)) := by
  rw [List.drop_eq_getElem_cons h1, List.drop_eq_getElem_cons h2, lexZ]
theorem lexZ_end : ∀ {a b : List Int}, a = [] ∨ b = [] → lexZ a b = lexTail a b
  | [], [], _ => rfl
  | [], _ :: _, _ => by simp [lexZ, lexTail]
  | _ :: _, [], _ => by simp [lexZ, lexTail]
  | _ :: _, _ :: _, h => by rcases h with h | h <;> cases h

set_option maxHeartbeats 4000000 in
theorem compare1_spec (a b : List Int) (f1 f2 : Bool) : Spec Tryd.prog 127 [.vec (nums a) f1, .vec (nums b) f2] (· = .val (.int .i64 (lexZ a b))) := by
  have hla := nums_length a
  have hlb := nums_length b
  refine spec_intro ok127 (Nat.le_of_ble_eq_true rfl) fun C hC => ?_
  refine aw_len (k := 0) rfl fun hmax => ?_
  have hlm : a.length ≤ maxVec := by rw [hla] at hmax; exact hmax
  repeat' (first|refine aw_seq ?_|refine aw_region ?_|refine aw_draw [] ?_|refine opsK_done ?_|refine opsK_on rfl ?_|refine opsK_off rfl ?_|(refine opsK_bool rfl rfl rfl (fun hb=>?_) (fun hb=>?_)<;>try cases hb)|refine opsK_of rfl rfl rfl ?_|refine opsK_new rfl rfl rfl ?_|refine dK_done ?_|refine dK_on rfl ?_|refine dK_off ⟨_,rfl,nofun⟩ ?_|(refine dK_bool rfl rfl rfl (fun hb=>?_) (fun hb=>?_)<;>try cases hb)|refine dK_of rfl rfl rfl ?_|refine aw_condT rfl ?_|refine aw_condF rfl ?_|(refine aw_cond rfl (fun hb=>?_) (fun hb=>?_)<;>try cases hb)|refine aw_block ?_|refine aw_skip ?_|refine aw_exit ?_|refine aw_ret ?_)
  refine aw_loopH hC (fun i => i ≤ a.length ∧ i ≤ b.length ∧ lexZ a b = lexZ (a.drop i) (b.drop i)) (fun i => a.length - i) 0 (fun i => [(0, .vec (nums a) f1), (1, .vec (nums b) f2), (5, .val (.int .i64 (i : Int)))]) (fun _ => []) (Nat.le_refl _) 0 ⟨Nat.zero_le _, Nat.zero_le _, rfl⟩
    ⟨⟨rfl, nums_inn _ _⟩, ⟨rfl, nums_inn _ _⟩, ⟨rfl, trivial⟩, trivial⟩ trivial ?_
  rintro i ⟨hi, hib, hlex⟩
  have hinc : IntKind.i64.wrap ((i : Int) + 1) = ((i + 1 : Nat) : Int) := IntWalk.i64_in _ ⟨by omega, by simp only [maxVec] at hlm; omega⟩
  have stop : i = a.length ∨ i = b.length → lexZ a b = if a.length < b.length then -1 else if b.length < a.length then 1 else 0 := by
    intro h
    rw [hlex, lexZ_end (by rcases h with h | h <;> subst h <;> simp), lexTail]
    simp only [List.length_drop]
    by_cases h1 : a.length < b.length
    · rw [if_pos h1, if_pos (by omega)]
    · rw [if_neg h1, if_neg (by omega)]
      by_cases h2 : b.length < a.length
      · rw [if_pos h2, if_pos (by omega)]
      · rw [if_neg h2, if_neg (by omega)]
  repeat' (first|refine aw_seq ?_|refine aw_region ?_|refine aw_draw [] ?_|refine opsK_done ?_|refine opsK_on rfl ?_|refine opsK_off rfl ?_|(refine opsK_bool rfl rfl rfl (fun hb=>?_) (fun hb=>?_)<;>try cases hb)|refine opsK_of rfl rfl rfl ?_|refine opsK_new rfl rfl rfl ?_|refine dK_done ?_|refine dK_on rfl ?_|refine dK_off ⟨_,rfl,nofun⟩ ?_|(refine dK_bool rfl rfl rfl (fun hb=>?_) (fun hb=>?_)<;>try cases hb)|refine dK_of rfl rfl rfl ?_|refine aw_condT rfl ?_|refine aw_condF rfl ?_|(refine aw_cond rfl (fun hb=>?_) (fun hb=>?_)<;>try cases hb)|refine aw_block ?_|refine aw_skip ?_|refine aw_exit ?_|refine aw_ret ?_)
  · rename_i hA
    have hia : i < a.length := by have := of_decide_eq_true hA; rw [hla] at this; omega
    have hibl : i < b.length := by have := of_decide_eq_true hb; rw [hlb] at this; omega
    have hstep := lexZ_drop hia hibl
    clear hb
    refine dK_of (E_iaddr (xs := a) rfl rfl i rfl hia rfl) rfl rfl ?_
    repeat' (first|refine aw_seq ?_|refine aw_region ?_|refine aw_draw [] ?_|refine opsK_done ?_|refine opsK_on rfl ?_|refine opsK_off rfl ?_|(refine opsK_bool rfl rfl rfl (fun hb=>?_) (fun hb=>?_)<;>try cases hb)|refine opsK_of rfl rfl rfl ?_|refine opsK_new rfl rfl rfl ?_|refine dK_done ?_|refine dK_on rfl ?_|refine dK_off ⟨_,rfl,nofun⟩ ?_|(refine dK_bool rfl rfl rfl (fun hb=>?_) (fun hb=>?_)<;>try cases hb)|refine dK_of rfl rfl rfl ?_|refine aw_condT rfl ?_|refine aw_condF rfl ?_|(refine aw_cond rfl (fun hb=>?_) (fun hb=>?_)<;>try cases hb)|refine aw_block ?_|refine aw_skip ?_|refine aw_exit ?_|refine aw_ret ?_)
    refine dK_of (E_iaddr (xs := b) rfl rfl i rfl hibl rfl) rfl rfl ?_
    repeat' (first|refine aw_seq ?_|refine aw_region ?_|refine aw_draw [] ?_|refine opsK_done ?_|refine opsK_on rfl ?_|refine opsK_off rfl ?_|(refine opsK_bool rfl rfl rfl (fun hb=>?_) (fun hb=>?_)<;>try cases hb)|refine opsK_of rfl rfl rfl ?_|refine opsK_new rfl rfl rfl ?_|refine dK_done ?_|refine dK_on rfl ?_|refine dK_off ⟨_,rfl,nofun⟩ ?_|(refine dK_bool rfl rfl rfl (fun hb=>?_) (fun hb=>?_)<;>try cases hb)|refine dK_of rfl rfl rfl ?_|refine aw_condT rfl ?_|refine aw_condF rfl ?_|(refine aw_cond rfl (fun hb=>?_) (fun hb=>?_)<;>try cases hb)|refine aw_block ?_|refine aw_skip ?_|refine aw_exit ?_|refine aw_ret ?_)
    · have t := of_decide_eq_true hb
      exact ret_ok rfl trivial (by rw [hlex, hstep, if_pos t]; rfl)
    · have t := of_decide_eq_false hb
      rw [if_neg t] at hstep
      clear hb
      refine dK_of (E_iaddr (xs := a) rfl rfl i rfl hia rfl) rfl rfl ?_
      repeat' (first|refine aw_seq ?_|refine aw_region ?_|refine aw_draw [] ?_|refine opsK_done ?_|refine opsK_on rfl ?_|refine opsK_off rfl ?_|(refine opsK_bool rfl rfl rfl (fun hb=>?_) (fun hb=>?_)<;>try cases hb)|refine opsK_of rfl rfl rfl ?_|refine opsK_new rfl rfl rfl ?_|refine dK_done ?_|refine dK_on rfl ?_|refine dK_off ⟨_,rfl,nofun⟩ ?_|(refine dK_bool rfl rfl rfl (fun hb=>?_) (fun hb=>?_)<;>try cases hb)|refine dK_of rfl rfl rfl ?_|refine aw_condT rfl ?_|refine aw_condF rfl ?_|(refine aw_cond rfl (fun hb=>?_) (fun hb=>?_)<;>try cases hb)|refine aw_block ?_|refine aw_skip ?_|refine aw_exit ?_|refine aw_ret ?_)
      refine dK_of (E_iaddr (xs := b) rfl rfl i rfl hibl rfl) rfl rfl ?_
      repeat' (first|refine aw_seq ?_|refine aw_region ?_|refine aw_draw [] ?_|refine opsK_done ?_|refine opsK_on rfl ?_|refine opsK_off rfl ?_|(refine opsK_bool rfl rfl rfl (fun hb=>?_) (fun hb=>?_)<;>try cases hb)|refine opsK_of rfl rfl rfl ?_|refine opsK_new rfl rfl rfl ?_|refine dK_done ?_|refine dK_on rfl ?_|refine dK_off ⟨_,rfl,nofun⟩ ?_|(refine dK_bool rfl rfl rfl (fun hb=>?_) (fun hb=>?_)<;>try cases hb)|refine dK_of rfl rfl rfl ?_|refine aw_condT rfl ?_|refine aw_condF rfl ?_|(refine aw_cond rfl (fun hb=>?_) (fun hb=>?_)<;>try cases hb)|refine aw_block ?_|refine aw_skip ?_|refine aw_exit ?_|refine aw_ret ?_)
      · have u := of_decide_eq_true hb
        exact ret_ok rfl trivial (by rw [hlex, hstep, if_pos u]; rfl)
      · have u := of_decide_eq_false hb
        rw [if_neg u] at hstep
        exact ⟨i + 1, ⟨by omega, by omega, by rw [hlex, hstep]⟩, by omega, ⟨⟨rfl, nums_inn _ _⟩, ⟨rfl, nums_inn _ _⟩, ⟨by show some _ = some _; rw [hinc], trivial⟩, trivial⟩, trivial⟩
  · rename_i hA hB
    have e := stop (.inr (by have := of_decide_eq_false hB; rw [hlb] at this; omega))
    have t := of_decide_eq_true hb
    rw [hla, hlb] at t
    exact ret_ok rfl trivial (by rw [e, if_pos (by omega)]; rfl)
  · rename_i hA hB hL
    have e := stop (.inr (by have := of_decide_eq_false hB; rw [hlb] at this; omega))
    have t := of_decide_eq_true hb
    rw [hla, hlb] at t
    exact ret_ok rfl trivial (by rw [e, if_neg (by omega), if_pos (by omega)]; rfl)
  · rename_i hA hB hL
    have e := stop (.inr (by have := of_decide_eq_false hB; rw [hlb] at this; omega))
    have t := of_decide_eq_false hb
    have u := of_decide_eq_false hL
    rw [hla, hlb] at t u
    exact ret_ok rfl trivial (by rw [e, if_neg (by omega), if_neg (by omega)]; rfl)
  · rename_i hA
    have e := stop (.inl (by have := of_decide_eq_false hA; rw [hla] at this; omega))
    have t := of_decide_eq_true hb
    rw [hla, hlb] at t
    exact ret_ok rfl trivial (by rw [e, if_pos (by omega)]; rfl)
  · rename_i hA hL
    have e := stop (.inl (by have := of_decide_eq_false hA; rw [hla] at this; omega))
    have t := of_decide_eq_true hb
    rw [hla, hlb] at t
    exact ret_ok rfl trivial (by rw [e, if_neg (by omega), if_pos (by omega)]; rfl)
  · rename_i hA hL
    have e := stop (.inl (by have := of_decide_eq_false hA; rw [hla] at this; omega))
    have t := of_decide_eq_false hb
    have u := of_decide_eq_false hL
    rw [hla, hlb] at t u
    exact ret_ok rfl trivial (by rw [e, if_neg (by omega), if_neg (by omega)]; rfl)

attribute [local irreducible] sgnI keyK in
set_option maxHeartbeats 2000000 in
theorem compare14_spec (a b : Cu) (ha : Ok64 a) (hb0 : Ok64 b) : Spec Tryd.prog 112 [.agg (raC a), .agg (raC b)] (· = .val (.int .i64 (cmpC a b))) := by
  have e1 : lexZ (intsN (mem a.1)) (intsN (mem b.1)) = sgnI (key a.1) (key b.1) := by rw [lexZ_N, lex_mem ha.1 hb0.1]
  have e2 : lexZ (intsN (mem a.2)) (intsN (mem b.2)) = sgnI (key a.2) (key b.2) := by rw [lexZ_N, lex_mem ha.2 hb0.2]
  refine spec_intro ok112 (Nat.le_of_ble_eq_true rfl) fun C hC => ?_
  refine aw_seq ?_
  refine aw_region ?_
  refine opsK_ofAlt rfl rfl rfl ?_
  refine opsK_ofAlt rfl rfl rfl ?_
  repeat' (first|refine aw_seq ?_|refine aw_region ?_|refine aw_draw [] ?_|refine opsK_done ?_|refine opsK_on rfl ?_|refine opsK_off rfl ?_|(refine opsK_bool rfl rfl rfl (fun hb=>?_) (fun hb=>?_)<;>try cases hb)|refine opsK_of rfl rfl rfl ?_|refine opsK_new rfl rfl rfl ?_|refine dK_done ?_|refine dK_on rfl ?_|refine dK_off ⟨_,rfl,nofun⟩ ?_|(refine dK_bool rfl rfl rfl (fun hb=>?_) (fun hb=>?_)<;>try cases hb)|refine dK_of rfl rfl rfl ?_|refine aw_condT rfl ?_|refine aw_condF rfl ?_|(refine aw_cond rfl (fun hb=>?_) (fun hb=>?_)<;>try cases hb)|refine aw_block ?_|refine aw_skip ?_|refine aw_exit ?_|refine aw_ret ?_)
  refine dK_eq (members1_spec a.1 ha.1) rfl rfl rfl ⟨trivial, trivial⟩ ?_
  repeat' (first|refine aw_seq ?_|refine aw_region ?_|refine aw_draw [] ?_|refine opsK_done ?_|refine opsK_on rfl ?_|refine opsK_off rfl ?_|(refine opsK_bool rfl rfl rfl (fun hb=>?_) (fun hb=>?_)<;>try cases hb)|refine opsK_of rfl rfl rfl ?_|refine opsK_new rfl rfl rfl ?_|refine dK_done ?_|refine dK_on rfl ?_|refine dK_off ⟨_,rfl,nofun⟩ ?_|(refine dK_bool rfl rfl rfl (fun hb=>?_) (fun hb=>?_)<;>try cases hb)|refine dK_of rfl rfl rfl ?_|refine aw_condT rfl ?_|refine aw_condF rfl ?_|(refine aw_cond rfl (fun hb=>?_) (fun hb=>?_)<;>try cases hb)|refine aw_block ?_|refine aw_skip ?_|refine aw_exit ?_|refine aw_ret ?_)
  refine dK_eq (members1_spec b.1 hb0.1) rfl rfl rfl ⟨trivial, trivial⟩ ?_
  refine dK_eq (compare1_spec (intsN (mem a.1)) (intsN (mem b.1)) false false) rfl rfl rfl ⟨nums_pure _, nums_pure _, trivial⟩ ?_
  rw [e1]
  repeat' (first|refine aw_seq ?_|refine aw_region ?_|refine aw_draw [] ?_|refine opsK_done ?_|refine opsK_on rfl ?_|refine opsK_off rfl ?_|(refine opsK_bool rfl rfl rfl (fun hb=>?_) (fun hb=>?_)<;>try cases hb)|refine opsK_of rfl rfl rfl ?_|refine opsK_new rfl rfl rfl ?_|refine dK_done ?_|refine dK_on rfl ?_|refine dK_off ⟨_,rfl,nofun⟩ ?_|(refine dK_bool rfl rfl rfl (fun hb=>?_) (fun hb=>?_)<;>try cases hb)|refine dK_of rfl rfl rfl ?_|refine aw_condT rfl ?_|refine aw_condF rfl ?_|(refine aw_cond rfl (fun hb=>?_) (fun hb=>?_)<;>try cases hb)|refine aw_block ?_|refine aw_skip ?_|refine aw_exit ?_|refine aw_ret ?_)
  · have h : sgnI (key a.1) (key b.1) ≠ 0 := by simpa using hb
    exact ret_ok rfl trivial (by rw [cmpC, if_pos h])
  · have h : ¬ sgnI (key a.1) (key b.1) ≠ 0 := by simpa using hb
    clear hb
    refine dK_eq (members1_spec a.2 ha.2) rfl rfl rfl ⟨trivial, trivial⟩ ?_
    repeat' (first|refine aw_seq ?_|refine aw_region ?_|refine aw_draw [] ?_|refine opsK_done ?_|refine opsK_on rfl ?_|refine opsK_off rfl ?_|(refine opsK_bool rfl rfl rfl (fun hb=>?_) (fun hb=>?_)<;>try cases hb)|refine opsK_of rfl rfl rfl ?_|refine opsK_new rfl rfl rfl ?_|refine dK_done ?_|refine dK_on rfl ?_|refine dK_off ⟨_,rfl,nofun⟩ ?_|(refine dK_bool rfl rfl rfl (fun hb=>?_) (fun hb=>?_)<;>try cases hb)|refine dK_of rfl rfl rfl ?_|refine aw_condT rfl ?_|refine aw_condF rfl ?_|(refine aw_cond rfl (fun hb=>?_) (fun hb=>?_)<;>try cases hb)|refine aw_block ?_|refine aw_skip ?_|refine aw_exit ?_|refine aw_ret ?_)
    refine dK_eq (members1_spec b.2 hb0.2) rfl rfl rfl ⟨trivial, trivial⟩ ?_
    refine dK_eq (compare1_spec (intsN (mem a.2)) (intsN (mem b.2)) false false) rfl rfl rfl ⟨nums_pure _, nums_pure _, trivial⟩ ?_
    rw [e2]
    repeat' (first|refine aw_seq ?_|refine aw_region ?_|refine aw_draw [] ?_|refine opsK_done ?_|refine opsK_on rfl ?_|refine opsK_off rfl ?_|(refine opsK_bool rfl rfl rfl (fun hb=>?_) (fun hb=>?_)<;>try cases hb)|refine opsK_of rfl rfl rfl ?_|refine opsK_new rfl rfl rfl ?_|refine dK_done ?_|refine dK_on rfl ?_|refine dK_off ⟨_,rfl,nofun⟩ ?_|(refine dK_bool rfl rfl rfl (fun hb=>?_) (fun hb=>?_)<;>try cases hb)|refine dK_of rfl rfl rfl ?_|refine aw_condT rfl ?_|refine aw_condF rfl ?_|(refine aw_cond rfl (fun hb=>?_) (fun hb=>?_)<;>try cases hb)|refine aw_block ?_|refine aw_skip ?_|refine aw_exit ?_|refine aw_ret ?_)
    exact ret_ok rfl trivial (by rw [cmpC, if_neg h])
end Go.Proofs.YtifohjijhhjdkaaDoor

namespace Go.Proofs.YtifohjijhhjdkaaDoor
open Go.RowKit
set_option linter.unusedVariables false
attribute [local irreducible] aw opsK dK cmpC keyC

theorem insC_at : ∀ {l : List Cu} {c : Cu} {i : Nat}, i ≤ l.length → (∀ j (h : j < l.length), j < i → keyC l[j] < keyC c) → (∀ h : i < l.length, keyC c ≤ keyC l[i]) → insC c l = l.take i ++ c :: l.drop i
  | [], c, i, _, _, _ => by simp [insC]
  | d :: l, c, 0, _, _, h => by
    have := h (Nat.succ_pos _)
    simp only [List.getElem_cons_zero] at this
    simp [insC, this]
  | d :: l, c, i + 1, hi, h1, h2 => by
    have hd := h1 0 (Nat.succ_pos _) (Nat.succ_pos _)
    simp only [List.getElem_cons_zero] at hd
    have ih := insC_at (l := l) (c := c) (i := i) (by simpa using hi) (fun j h hj => by have := h1 (j + 1) (Nat.succ_lt_succ h) (Nat.succ_lt_succ hj); simpa using this) (fun h => by have := h2 (Nat.succ_lt_succ h); simpa using this)
    rw [insC, if_neg (by omega), ih]
    rfl
theorem ras_length (l : List Cu) : (l.map raC).length = l.length := by simp

set_option maxHeartbeats 4000000 in
theorem insert_spec (l : List Cu) (fl : Bool) (c : Cu) (hl : ∀ d ∈ l, Ok64 d) (hc : Ok64 c) (hlen : l.length ≤ 1000000) : Spec Tryd.prog 95 [.vec (l.map raC) fl, .agg (raC c)] (· = .vec ((insC c l).map raC) false) := by
  have hnl := ras_length l
  refine spec_intro ok95 (Nat.le_of_ble_eq_true rfl) fun C hC => ?_
  refine aw_seq ?_
  refine aw_region ?_
  refine opsK_ofAlt rfl rfl rfl ?_
  repeat' (first|refine aw_seq ?_|refine aw_region ?_|refine aw_draw [] ?_|refine opsK_done ?_|refine opsK_on rfl ?_|refine opsK_off rfl ?_|(refine opsK_bool rfl rfl rfl (fun hb=>?_) (fun hb=>?_)<;>try cases hb)|refine opsK_of rfl rfl rfl ?_|refine opsK_new rfl rfl rfl ?_|refine dK_done ?_|refine dK_on rfl ?_|refine dK_off ⟨_,rfl,nofun⟩ ?_|(refine dK_bool rfl rfl rfl (fun hb=>?_) (fun hb=>?_)<;>try cases hb)|refine dK_of rfl rfl rfl ?_|refine aw_condT rfl ?_|refine aw_condF rfl ?_|(refine aw_cond rfl (fun hb=>?_) (fun hb=>?_)<;>try cases hb)|refine aw_block ?_|refine aw_skip ?_|refine aw_exit ?_|refine aw_ret ?_)
  refine aw_loopH hC (fun i => i ≤ l.length ∧ ∀ j (h : j < l.length), j < i → keyC l[j] < keyC c) (fun i => l.length - i) 0 (fun i => [(0, .vec (l.map raC) fl), (3, .cp (raC c)), (5, .val (.int .i64 (i : Int)))]) (fun _ => []) (Nat.le_refl _) 0 ⟨Nat.zero_le _, fun j _ h => absurd h (Nat.not_lt_zero j)⟩
    ⟨⟨rfl, ras_inn l _⟩, ⟨rfl, trivial, trivial, trivial⟩, ⟨rfl, trivial⟩, trivial⟩ trivial ?_
  rintro i ⟨hi, hall⟩
  have hinc : IntKind.i64.wrap ((i : Int) + 1) = ((i + 1 : Nat) : Int) := IntWalk.i64_in _ ⟨by omega, by omega⟩
  iterate 5 (first|refine aw_seq ?_|refine aw_region ?_|refine aw_draw [] ?_|refine opsK_done ?_|refine opsK_on rfl ?_|refine opsK_off rfl ?_|(refine opsK_bool rfl rfl rfl (fun hb=>?_) (fun hb=>?_)<;>try cases hb)|refine opsK_of rfl rfl rfl ?_|refine opsK_new rfl rfl rfl ?_|refine dK_done ?_|refine dK_on rfl ?_|refine dK_off ⟨_,rfl,nofun⟩ ?_|(refine dK_bool rfl rfl rfl (fun hb=>?_) (fun hb=>?_)<;>try cases hb)|refine dK_of rfl rfl rfl ?_|refine aw_condT rfl ?_|refine aw_condF rfl ?_|(refine aw_cond rfl (fun hb=>?_) (fun hb=>?_)<;>try cases hb)|refine aw_block ?_|refine aw_skip ?_|refine aw_exit ?_|refine aw_ret ?_)
  repeat' (first | refine aw_draw [0] ?_ | (first|refine aw_seq ?_|refine aw_region ?_|refine aw_draw [] ?_|refine opsK_done ?_|refine opsK_on rfl ?_|refine opsK_off rfl ?_|(refine opsK_bool rfl rfl rfl (fun hb=>?_) (fun hb=>?_)<;>try cases hb)|refine opsK_of rfl rfl rfl ?_|refine opsK_new rfl rfl rfl ?_|refine dK_done ?_|refine dK_on rfl ?_|refine dK_off ⟨_,rfl,nofun⟩ ?_|(refine dK_bool rfl rfl rfl (fun hb=>?_) (fun hb=>?_)<;>try cases hb)|refine dK_of rfl rfl rfl ?_|refine aw_condT rfl ?_|refine aw_condF rfl ?_|(refine aw_cond rfl (fun hb=>?_) (fun hb=>?_)<;>try cases hb)|refine aw_block ?_|refine aw_skip ?_|refine aw_exit ?_|refine aw_ret ?_))
  · have hil : i < l.length := by have := of_decide_eq_true hb; rw [hnl] at this; omega
    clear hb
    refine dK_of (E_iaddr (xs := l) rfl rfl i rfl hil rfl) rfl rfl ?_
    repeat' (first|refine aw_seq ?_|refine aw_region ?_|refine aw_draw [] ?_|refine opsK_done ?_|refine opsK_on rfl ?_|refine opsK_off rfl ?_|(refine opsK_bool rfl rfl rfl (fun hb=>?_) (fun hb=>?_)<;>try cases hb)|refine opsK_of rfl rfl rfl ?_|refine opsK_new rfl rfl rfl ?_|refine dK_done ?_|refine dK_on rfl ?_|refine dK_off ⟨_,rfl,nofun⟩ ?_|(refine dK_bool rfl rfl rfl (fun hb=>?_) (fun hb=>?_)<;>try cases hb)|refine dK_of rfl rfl rfl ?_|refine aw_condT rfl ?_|refine aw_condF rfl ?_|(refine aw_cond rfl (fun hb=>?_) (fun hb=>?_)<;>try cases hb)|refine aw_block ?_|refine aw_skip ?_|refine aw_exit ?_|refine aw_ret ?_)
    refine dK_eq (compare14_spec l[i] c (hl _ (List.getElem_mem hil)) hc) rfl rfl rfl ⟨raC_pure _, raC_pure _, trivial⟩ ?_
    repeat' (first | refine aw_draw [0] ?_ | (first|refine aw_seq ?_|refine aw_region ?_|refine aw_draw [] ?_|refine opsK_done ?_|refine opsK_on rfl ?_|refine opsK_off rfl ?_|(refine opsK_bool rfl rfl rfl (fun hb=>?_) (fun hb=>?_)<;>try cases hb)|refine opsK_of rfl rfl rfl ?_|refine opsK_new rfl rfl rfl ?_|refine dK_done ?_|refine dK_on rfl ?_|refine dK_off ⟨_,rfl,nofun⟩ ?_|(refine dK_bool rfl rfl rfl (fun hb=>?_) (fun hb=>?_)<;>try cases hb)|refine dK_of rfl rfl rfl ?_|refine aw_condT rfl ?_|refine aw_condF rfl ?_|(refine aw_cond rfl (fun hb=>?_) (fun hb=>?_)<;>try cases hb)|refine aw_block ?_|refine aw_skip ?_|refine aw_exit ?_|refine aw_ret ?_))
    · have hlt : keyC l[i] < keyC c := (cmpC_neg _ _).1 (of_decide_eq_true hb)
      exact ⟨i + 1, ⟨by omega, fun j h hj => if e : j = i then by subst e; exact hlt else hall j h (by omega)⟩, by omega, ⟨⟨rfl, ras_inn l _⟩, ⟨rfl, trivial, trivial, trivial⟩, ⟨by show some _ = some _; rw [hinc], trivial⟩, trivial⟩, trivial⟩
    have hge : ∀ h : i < l.length, keyC c ≤ keyC l[i] := fun h => Nat.le_of_not_lt fun hlt => by
      have := of_decide_eq_false hb
      exact this ((cmpC_neg _ _).2 hlt)
    clear hb
    refine dK_ofAlt rfl rfl rfl ?_
    repeat' (first|refine aw_seq ?_|refine aw_region ?_|refine aw_draw [] ?_|refine opsK_done ?_|refine opsK_on rfl ?_|refine opsK_off rfl ?_|(refine opsK_bool rfl rfl rfl (fun hb=>?_) (fun hb=>?_)<;>try cases hb)|refine opsK_of rfl rfl rfl ?_|refine opsK_new rfl rfl rfl ?_|refine dK_done ?_|refine dK_on rfl ?_|refine dK_off ⟨_,rfl,nofun⟩ ?_|(refine dK_bool rfl rfl rfl (fun hb=>?_) (fun hb=>?_)<;>try cases hb)|refine dK_of rfl rfl rfl ?_|refine aw_condT rfl ?_|refine aw_condF rfl ?_|(refine aw_cond rfl (fun hb=>?_) (fun hb=>?_)<;>try cases hb)|refine aw_block ?_|refine aw_skip ?_|refine aw_exit ?_|refine aw_ret ?_)
    refine dK_of (E_slc (xs := l) (g := raC) rfl 0 i rfl rfl (Nat.zero_le _) hi (fun _ => rfl)) rfl rfl ?_
    refine dK_of (E_append (k := 13) (m := (l.take i).map raC) (fl := false) rfl rfl rfl (fun c hc => by obtain ⟨y, _, rfl⟩ := List.mem_map.1 hc; rfl) rfl (by
      show ((0 : Nat) + ((l.take i).map raC).length) * 16 ≤ _
      rw [List.length_map, List.length_take]; omega)) rfl rfl ?_
    repeat' (first|refine aw_seq ?_|refine aw_region ?_|refine aw_draw [] ?_|refine opsK_done ?_|refine opsK_on rfl ?_|refine opsK_off rfl ?_|(refine opsK_bool rfl rfl rfl (fun hb=>?_) (fun hb=>?_)<;>try cases hb)|refine opsK_of rfl rfl rfl ?_|refine opsK_new rfl rfl rfl ?_|refine dK_done ?_|refine dK_on rfl ?_|refine dK_off ⟨_,rfl,nofun⟩ ?_|(refine dK_bool rfl rfl rfl (fun hb=>?_) (fun hb=>?_)<;>try cases hb)|refine dK_of rfl rfl rfl ?_|refine aw_condT rfl ?_|refine aw_condF rfl ?_|(refine aw_cond rfl (fun hb=>?_) (fun hb=>?_)<;>try cases hb)|refine aw_block ?_|refine aw_skip ?_|refine aw_exit ?_|refine aw_ret ?_)
    refine dK_of (E_append (k := 17) (m := [raC c]) (fl := true) rfl rfl rfl (fun c hc => by rw [List.mem_singleton] at hc; subst hc; rfl) rfl (by
      show (((l.take i).map raC).length + 1) * 16 ≤ _
      rw [List.length_map, List.length_take]; omega)) rfl rfl ?_
    repeat' (first|refine aw_seq ?_|refine aw_region ?_|refine aw_draw [] ?_|refine opsK_done ?_|refine opsK_on rfl ?_|refine opsK_off rfl ?_|(refine opsK_bool rfl rfl rfl (fun hb=>?_) (fun hb=>?_)<;>try cases hb)|refine opsK_of rfl rfl rfl ?_|refine opsK_new rfl rfl rfl ?_|refine dK_done ?_|refine dK_on rfl ?_|refine dK_off ⟨_,rfl,nofun⟩ ?_|(refine dK_bool rfl rfl rfl (fun hb=>?_) (fun hb=>?_)<;>try cases hb)|refine dK_of rfl rfl rfl ?_|refine aw_condT rfl ?_|refine aw_condF rfl ?_|(refine aw_cond rfl (fun hb=>?_) (fun hb=>?_)<;>try cases hb)|refine aw_block ?_|refine aw_skip ?_|refine aw_exit ?_|refine aw_ret ?_)
    refine dK_of (E_slc (xs := l) (g := raC) rfl i l.length rfl (by show some _ = some _; rw [hnl]) hi (Nat.le_refl _) (fun _ => rfl)) rfl rfl ?_
    refine dK_of (E_append (k := 20) (m := ((l.take l.length).drop i).map raC) (fl := false) rfl rfl rfl (fun c hc => by obtain ⟨y, _, rfl⟩ := List.mem_map.1 hc; rfl) rfl (by
      show (((l.take i).map raC ++ [raC c]).length + (((l.take l.length).drop i).map raC).length) * 16 ≤ _
      simp only [List.length_append, List.length_map, List.length_take, List.length_drop, List.length_singleton]; omega)) rfl rfl ?_
    iterate 2 (first|refine aw_seq ?_|refine aw_region ?_|refine aw_draw [] ?_|refine opsK_done ?_|refine opsK_on rfl ?_|refine opsK_off rfl ?_|(refine opsK_bool rfl rfl rfl (fun hb=>?_) (fun hb=>?_)<;>try cases hb)|refine opsK_of rfl rfl rfl ?_|refine opsK_new rfl rfl rfl ?_|refine dK_done ?_|refine dK_on rfl ?_|refine dK_off ⟨_,rfl,nofun⟩ ?_|(refine dK_bool rfl rfl rfl (fun hb=>?_) (fun hb=>?_)<;>try cases hb)|refine dK_of rfl rfl rfl ?_|refine aw_condT rfl ?_|refine aw_condF rfl ?_|(refine aw_cond rfl (fun hb=>?_) (fun hb=>?_)<;>try cases hb)|refine aw_block ?_|refine aw_skip ?_|refine aw_exit ?_|refine aw_ret ?_)
    have hfin : ([] ++ (l.take i).map raC ++ [raC c]) ++ ((l.take l.length).drop i).map raC = (insC c l).map raC := by
      rw [insC_at hi hall hge, List.take_length]; simp
    refine aw_sub (sub_freeze (id := 24) (k := 4) (b := ⟨2, (insC c l).map raC⟩) rfl (by rw [← hfin]; rfl) (ras_pure _)) ?_
    repeat' (first|refine aw_seq ?_|refine aw_region ?_|refine aw_draw [] ?_|refine opsK_done ?_|refine opsK_on rfl ?_|refine opsK_off rfl ?_|(refine opsK_bool rfl rfl rfl (fun hb=>?_) (fun hb=>?_)<;>try cases hb)|refine opsK_of rfl rfl rfl ?_|refine opsK_new rfl rfl rfl ?_|refine dK_done ?_|refine dK_on rfl ?_|refine dK_off ⟨_,rfl,nofun⟩ ?_|(refine dK_bool rfl rfl rfl (fun hb=>?_) (fun hb=>?_)<;>try cases hb)|refine dK_of rfl rfl rfl ?_|refine aw_condT rfl ?_|refine aw_condF rfl ?_|(refine aw_cond rfl (fun hb=>?_) (fun hb=>?_)<;>try cases hb)|refine aw_block ?_|refine aw_skip ?_|refine aw_exit ?_|refine aw_ret ?_)
    exact ret_ok rfl (ras_pure _) rfl
  · have hge : ∀ h : i < l.length, keyC c ≤ keyC l[i] := fun h => by
      have := of_decide_eq_false hb; rw [hnl] at this; omega
    clear hb
    refine dK_ofAlt rfl rfl rfl ?_
    repeat' (first|refine aw_seq ?_|refine aw_region ?_|refine aw_draw [] ?_|refine opsK_done ?_|refine opsK_on rfl ?_|refine opsK_off rfl ?_|(refine opsK_bool rfl rfl rfl (fun hb=>?_) (fun hb=>?_)<;>try cases hb)|refine opsK_of rfl rfl rfl ?_|refine opsK_new rfl rfl rfl ?_|refine dK_done ?_|refine dK_on rfl ?_|refine dK_off ⟨_,rfl,nofun⟩ ?_|(refine dK_bool rfl rfl rfl (fun hb=>?_) (fun hb=>?_)<;>try cases hb)|refine dK_of rfl rfl rfl ?_|refine aw_condT rfl ?_|refine aw_condF rfl ?_|(refine aw_cond rfl (fun hb=>?_) (fun hb=>?_)<;>try cases hb)|refine aw_block ?_|refine aw_skip ?_|refine aw_exit ?_|refine aw_ret ?_)
    refine dK_of (E_slc (xs := l) (g := raC) rfl 0 i rfl rfl (Nat.zero_le _) hi (fun _ => rfl)) rfl rfl ?_
    refine dK_of (E_append (k := 13) (m := (l.take i).map raC) (fl := false) rfl rfl rfl (fun c hc => by obtain ⟨y, _, rfl⟩ := List.mem_map.1 hc; rfl) rfl (by
      show ((0 : Nat) + ((l.take i).map raC).length) * 16 ≤ _
      rw [List.length_map, List.length_take]; omega)) rfl rfl ?_
    repeat' (first|refine aw_seq ?_|refine aw_region ?_|refine aw_draw [] ?_|refine opsK_done ?_|refine opsK_on rfl ?_|refine opsK_off rfl ?_|(refine opsK_bool rfl rfl rfl (fun hb=>?_) (fun hb=>?_)<;>try cases hb)|refine opsK_of rfl rfl rfl ?_|refine opsK_new rfl rfl rfl ?_|refine dK_done ?_|refine dK_on rfl ?_|refine dK_off ⟨_,rfl,nofun⟩ ?_|(refine dK_bool rfl rfl rfl (fun hb=>?_) (fun hb=>?_)<;>try cases hb)|refine dK_of rfl rfl rfl ?_|refine aw_condT rfl ?_|refine aw_condF rfl ?_|(refine aw_cond rfl (fun hb=>?_) (fun hb=>?_)<;>try cases hb)|refine aw_block ?_|refine aw_skip ?_|refine aw_exit ?_|refine aw_ret ?_)
    refine dK_of (E_append (k := 17) (m := [raC c]) (fl := true) rfl rfl rfl (fun c hc => by rw [List.mem_singleton] at hc; subst hc; rfl) rfl (by
      show (((l.take i).map raC).length + 1) * 16 ≤ _
      rw [List.length_map, List.length_take]; omega)) rfl rfl ?_
    repeat' (first|refine aw_seq ?_|refine aw_region ?_|refine aw_draw [] ?_|refine opsK_done ?_|refine opsK_on rfl ?_|refine opsK_off rfl ?_|(refine opsK_bool rfl rfl rfl (fun hb=>?_) (fun hb=>?_)<;>try cases hb)|refine opsK_of rfl rfl rfl ?_|refine opsK_new rfl rfl rfl ?_|refine dK_done ?_|refine dK_on rfl ?_|refine dK_off ⟨_,rfl,nofun⟩ ?_|(refine dK_bool rfl rfl rfl (fun hb=>?_) (fun hb=>?_)<;>try cases hb)|refine dK_of rfl rfl rfl ?_|refine aw_condT rfl ?_|refine aw_condF rfl ?_|(refine aw_cond rfl (fun hb=>?_) (fun hb=>?_)<;>try cases hb)|refine aw_block ?_|refine aw_skip ?_|refine aw_exit ?_|refine aw_ret ?_)
    refine dK_of (E_slc (xs := l) (g := raC) rfl i l.length rfl (by show some _ = some _; rw [hnl]) hi (Nat.le_refl _) (fun _ => rfl)) rfl rfl ?_
    refine dK_of (E_append (k := 20) (m := ((l.take l.length).drop i).map raC) (fl := false) rfl rfl rfl (fun c hc => by obtain ⟨y, _, rfl⟩ := List.mem_map.1 hc; rfl) rfl (by
      show (((l.take i).map raC ++ [raC c]).length + (((l.take l.length).drop i).map raC).length) * 16 ≤ _
      simp only [List.length_append, List.length_map, List.length_take, List.length_drop, List.length_singleton]; omega)) rfl rfl ?_
    iterate 2 (first|refine aw_seq ?_|refine aw_region ?_|refine aw_draw [] ?_|refine opsK_done ?_|refine opsK_on rfl ?_|refine opsK_off rfl ?_|(refine opsK_bool rfl rfl rfl (fun hb=>?_) (fun hb=>?_)<;>try cases hb)|refine opsK_of rfl rfl rfl ?_|refine opsK_new rfl rfl rfl ?_|refine dK_done ?_|refine dK_on rfl ?_|refine dK_off ⟨_,rfl,nofun⟩ ?_|(refine dK_bool rfl rfl rfl (fun hb=>?_) (fun hb=>?_)<;>try cases hb)|refine dK_of rfl rfl rfl ?_|refine aw_condT rfl ?_|refine aw_condF rfl ?_|(refine aw_cond rfl (fun hb=>?_) (fun hb=>?_)<;>try cases hb)|refine aw_block ?_|refine aw_skip ?_|refine aw_exit ?_|refine aw_ret ?_)
    have hfin : ([] ++ (l.take i).map raC ++ [raC c]) ++ ((l.take l.length).drop i).map raC = (insC c l).map raC := by
      rw [insC_at hi hall hge, List.take_length]; simp
    refine aw_sub (sub_freeze (id := 24) (k := 4) (b := ⟨2, (insC c l).map raC⟩) rfl (by rw [← hfin]; rfl) (ras_pure _)) ?_
    repeat' (first|refine aw_seq ?_|refine aw_region ?_|refine aw_draw [] ?_|refine opsK_done ?_|refine opsK_on rfl ?_|refine opsK_off rfl ?_|(refine opsK_bool rfl rfl rfl (fun hb=>?_) (fun hb=>?_)<;>try cases hb)|refine opsK_of rfl rfl rfl ?_|refine opsK_new rfl rfl rfl ?_|refine dK_done ?_|refine dK_on rfl ?_|refine dK_off ⟨_,rfl,nofun⟩ ?_|(refine dK_bool rfl rfl rfl (fun hb=>?_) (fun hb=>?_)<;>try cases hb)|refine dK_of rfl rfl rfl ?_|refine aw_condT rfl ?_|refine aw_condF rfl ?_|(refine aw_cond rfl (fun hb=>?_) (fun hb=>?_)<;>try cases hb)|refine aw_block ?_|refine aw_skip ?_|refine aw_exit ?_|refine aw_ret ?_)
    exact ret_ok rfl (ras_pure _) rfl
end Go.Proofs.YtifohjijhhjdkaaDoor

namespace Go.Proofs.YtifohjijhhjdkaaDoor
open Go.RowKit
set_option linter.unusedVariables false
attribute [local irreducible] aw opsK dK

theorem numsN_row (l : List Nat) : nums (intsN l) = l.map fun (x : Nat) => [PV.val (.int .i64 (x : Int))] := by simp [nums, intsN]
set_option maxHeartbeats 2000000 in
theorem subset19_spec (roles : List Nat) (fl : Bool) (m : Nat) (hr : ∀ r ∈ roles, r < 64) (hl : roles.length ≤ 60) (hm : m < 9223372036854775808) : Spec Tryd.prog 52 [.vec (nums (intsN roles)) fl, .val (.int .i64 (m : Int))] (· = .val (.int .u64 (setM roles m : Nat))) := by
  have hnl : (nums (intsN roles)).length = roles.length := by simp [nums, intsN]
  refine spec_intro ok52 (Nat.le_of_ble_eq_true rfl) fun C hC => ?_
  repeat' (first|refine aw_seq ?_|refine aw_region ?_|refine aw_draw [] ?_|refine opsK_done ?_|refine opsK_on rfl ?_|refine opsK_off rfl ?_|(refine opsK_bool rfl rfl rfl (fun hb=>?_) (fun hb=>?_)<;>try cases hb)|refine opsK_of rfl rfl rfl ?_|refine opsK_new rfl rfl rfl ?_|refine dK_done ?_|refine dK_on rfl ?_|refine dK_off ⟨_,rfl,nofun⟩ ?_|(refine dK_bool rfl rfl rfl (fun hb=>?_) (fun hb=>?_)<;>try cases hb)|refine dK_of rfl rfl rfl ?_|refine aw_condT rfl ?_|refine aw_condF rfl ?_|(refine aw_cond rfl (fun hb=>?_) (fun hb=>?_)<;>try cases hb)|refine aw_block ?_|refine aw_skip ?_|refine aw_exit ?_|refine aw_ret ?_)
  refine aw_loopH hC (fun i => i ≤ roles.length) (fun i => roles.length - i) 0 (fun i => [(1, .val (.int .i64 (m : Int))), (5, .val (.int .u64 (setTo roles m i : Nat))), (8, .vec (nums (intsN roles)) fl), (9, .val (.int .i64 (roles.length : Int))), (10, .val (.int .i64 (i : Int)))]) (fun _ => []) (Nat.le_refl _) 0 (Nat.zero_le _)
    ⟨⟨rfl, trivial⟩, ⟨rfl, trivial⟩, ⟨rfl, nums_inn _ _⟩, ⟨by rw [← hnl]; rfl, trivial⟩, ⟨rfl, trivial⟩, trivial⟩ trivial ?_
  intro i hi
  have hinc : IntKind.i64.wrap ((i : Int) + 1) = ((i + 1 : Nat) : Int) := IntWalk.i64_in _ ⟨by omega, by omega⟩
  have hlt := setTo_lt hr m i hi
  repeat' (first|refine aw_seq ?_|refine aw_region ?_|refine aw_draw [] ?_|refine opsK_done ?_|refine opsK_on rfl ?_|refine opsK_off rfl ?_|(refine opsK_bool rfl rfl rfl (fun hb=>?_) (fun hb=>?_)<;>try cases hb)|refine opsK_of rfl rfl rfl ?_|refine opsK_new rfl rfl rfl ?_|refine dK_done ?_|refine dK_on rfl ?_|refine dK_off ⟨_,rfl,nofun⟩ ?_|(refine dK_bool rfl rfl rfl (fun hb=>?_) (fun hb=>?_)<;>try cases hb)|refine dK_of rfl rfl rfl ?_|refine aw_condT rfl ?_|refine aw_condF rfl ?_|(refine aw_cond rfl (fun hb=>?_) (fun hb=>?_)<;>try cases hb)|refine aw_block ?_|refine aw_skip ?_|refine aw_exit ?_|refine aw_ret ?_)
  · have hil : i < roles.length := by simpa using hb
    have hri : roles[i] < 64 := hr _ (List.getElem_mem hil)
    have hre : roles.getD i 0 = roles[i] := by rw [List.getD_eq_getElem?_getD, List.getElem?_eq_getElem hil]; rfl
    have hst : setTo roles m (i + 1) = if m.testBit i = true then setTo roles m i ||| 2 ^ roles[i] else setTo roles m i := by rw [← hre]; rfl
    refine opsK_of (E_iaddr (xs := roles) (g := fun (x : Nat) => [PV.val (.int .i64 (x : Int))]) (by rw [← numsN_row]; rfl) rfl i rfl hil rfl) rfl rfl ?_
    repeat' (first|refine aw_seq ?_|refine aw_region ?_|refine aw_draw [] ?_|refine opsK_done ?_|refine opsK_on rfl ?_|refine opsK_off rfl ?_|(refine opsK_bool rfl rfl rfl (fun hb=>?_) (fun hb=>?_)<;>try cases hb)|refine opsK_of rfl rfl rfl ?_|refine opsK_new rfl rfl rfl ?_|refine dK_done ?_|refine dK_on rfl ?_|refine dK_off ⟨_,rfl,nofun⟩ ?_|(refine dK_bool rfl rfl rfl (fun hb=>?_) (fun hb=>?_)<;>try cases hb)|refine dK_of rfl rfl rfl ?_|refine aw_condT rfl ?_|refine aw_condF rfl ?_|(refine aw_cond rfl (fun hb=>?_) (fun hb=>?_)<;>try cases hb)|refine aw_block ?_|refine aw_skip ?_|refine aw_exit ?_|refine aw_ret ?_)
    · rw [fd64 m i (by omega), rem2_u64 m i, bit_eq m i] at hb
      rw [if_pos hb] at hst
      have hval : bits .or .u64 ((setTo roles m i : Nat) : Int) (IntKind.u64.wrap (1 * 2 ^ (min ((roles[i] : Nat) : Int).toNat IntKind.u64.bits))) = ((setTo roles m i ||| 2 ^ roles[i] : Nat) : Int) := by
        have h1 : 2 ^ roles[i] < 2 ^ 64 := Nat.pow_lt_pow_right (by omega) hri
        have h2 : IntKind.u64.wrap (1 * 2 ^ (min ((roles[i] : Nat) : Int).toNat IntKind.u64.bits)) = ((2 ^ roles[i] : Nat) : Int) := by
          rw [show min ((roles[i] : Nat) : Int).toNat IntKind.u64.bits = roles[i] by simp [IntKind.bits]; omega]
          rw [Int.one_mul, show (2 : Int) ^ roles[i] = ((2 ^ roles[i] : Nat) : Int) by simp]
          exact IntWalk.u64_in _ ⟨Int.natCast_nonneg _, Int.ofNat_le.2 (show _ ≤ 18446744073709551615 by omega)⟩
        rw [h2]
        exact bits_or_u64_nat _ _ hlt (show 2 ^ roles[i] < 2 ^ 64 from h1)
      exact ⟨i + 1, by omega, by omega, ⟨⟨rfl, trivial⟩, ⟨by rw [hst, ← hval]; rfl, trivial⟩, ⟨rfl, nums_inn _ _⟩, ⟨rfl, trivial⟩, ⟨by show some _ = some _; rw [hinc], trivial⟩, trivial⟩, trivial⟩
    · rw [fd64 m i (by omega), rem2_u64 m i, bit_eq m i] at hb
      rw [if_neg (by rw [hb]; decide)] at hst
      exact ⟨i + 1, by omega, by omega, ⟨⟨rfl, trivial⟩, ⟨by rw [hst]; rfl, trivial⟩, ⟨rfl, nums_inn _ _⟩, ⟨rfl, trivial⟩, ⟨by show some _ = some _; rw [hinc], trivial⟩, trivial⟩, trivial⟩
  · have hil : i = roles.length := by simp at hb; omega
    subst hil
    exact ret_ok rfl trivial rfl

set_option maxHeartbeats 4000000 in
theorem full19_spec (l : List Cu) (fl : Bool) (hl : ∀ c ∈ l, Ok64 c) (hlen : l.length ≤ 1000000) : Spec Tryd.prog 49 [.vec (l.map raC) fl] (· = .tup [.vec ((fullL l).map raC) false, .val (.int .u64 (mentC (fullL l) : Nat))]) := by
  have hnl := ras_length l
  refine spec_intro ok49 (Nat.le_of_ble_eq_true rfl) fun C hC => ?_
  repeat' (first | refine opsK_sub (subA_ownNil (k := 4) rfl 2 (by decide)) ?_ | (first|refine aw_seq ?_|refine aw_region ?_|refine aw_draw [] ?_|refine opsK_done ?_|refine opsK_on rfl ?_|refine opsK_off rfl ?_|(refine opsK_bool rfl rfl rfl (fun hb=>?_) (fun hb=>?_)<;>try cases hb)|refine opsK_of rfl rfl rfl ?_|refine opsK_new rfl rfl rfl ?_|refine dK_done ?_|refine dK_on rfl ?_|refine dK_off ⟨_,rfl,nofun⟩ ?_|(refine dK_bool rfl rfl rfl (fun hb=>?_) (fun hb=>?_)<;>try cases hb)|refine dK_of rfl rfl rfl ?_|refine aw_condT rfl ?_|refine aw_condF rfl ?_|(refine aw_cond rfl (fun hb=>?_) (fun hb=>?_)<;>try cases hb)|refine aw_block ?_|refine aw_skip ?_|refine aw_exit ?_|refine aw_ret ?_))
  refine aw_loopR hC (fun (i : Nat) => i ≤ l.length) (fun i => l.length - i) 1 (fun i => [(4, .own 0), (5, .val (.int .u64 (mentC (fullL (l.take i)) : Nat))), (8, .vec (l.map raC) fl), (9, .val (.int .i64 (l.length : Int))), (10, .val (.int .i64 (i : Int)))])
    (fun i => [(0, ⟨2, (fullL (l.take i)).map raC⟩)]) (Nat.zero_le _) 0 (Nat.zero_le _) (fun i => i) (fun _ _ => rfl) injOn_id
    ⟨⟨_, rfl, .own 0 (by decide)⟩, ⟨_, rfl, .pure _ trivial⟩, ⟨_, rfl, .pure _ (ras_pure l)⟩, ⟨_, by rw [← hnl]; rfl, .pure _ trivial⟩, ⟨_, rfl, .pure _ trivial⟩, trivial⟩
    ⟨⟨by decide, _, rfl, .same _ trivial⟩, trivial⟩ ?_
  intro i hi
  have hinc : IntKind.i64.wrap ((i : Int) + 1) = ((i + 1 : Nat) : Int) := IntWalk.i64_in _ ⟨by omega, by omega⟩
  have hmi : mentC (fullL (l.take i)) < 18446744073709551616 := mentC_lt fun c hc => hl c (List.mem_of_mem_take (List.mem_filter.1 hc).1)
  iterate 2 (first|refine aw_seq ?_|refine aw_region ?_|refine aw_draw [] ?_|refine opsK_done ?_|refine opsK_on rfl ?_|refine opsK_off rfl ?_|(refine opsK_bool rfl rfl rfl (fun hb=>?_) (fun hb=>?_)<;>try cases hb)|refine opsK_of rfl rfl rfl ?_|refine opsK_new rfl rfl rfl ?_|refine dK_done ?_|refine dK_on rfl ?_|refine dK_off ⟨_,rfl,nofun⟩ ?_|(refine dK_bool rfl rfl rfl (fun hb=>?_) (fun hb=>?_)<;>try cases hb)|refine dK_of rfl rfl rfl ?_|refine aw_condT rfl ?_|refine aw_condF rfl ?_|(refine aw_cond rfl (fun hb=>?_) (fun hb=>?_)<;>try cases hb)|refine aw_block ?_|refine aw_skip ?_|refine aw_exit ?_|refine aw_ret ?_)
  refine opsK_bool rfl rfl rfl (fun hb => ?_) (fun hb => ?_)
  · have hil : i < l.length := by have := of_decide_eq_true hb; omega
    have hci := hl _ (List.getElem_mem hil)
    have hstep := fullL_take hil
    clear hb
    repeat' (first|refine aw_seq ?_|refine aw_region ?_|refine aw_draw [] ?_|refine opsK_done ?_|refine opsK_on rfl ?_|refine opsK_off rfl ?_|(refine opsK_bool rfl rfl rfl (fun hb=>?_) (fun hb=>?_)<;>try cases hb)|refine opsK_of rfl rfl rfl ?_|refine opsK_new rfl rfl rfl ?_|refine dK_done ?_|refine dK_on rfl ?_|refine dK_off ⟨_,rfl,nofun⟩ ?_|(refine dK_bool rfl rfl rfl (fun hb=>?_) (fun hb=>?_)<;>try cases hb)|refine dK_of rfl rfl rfl ?_|refine aw_condT rfl ?_|refine aw_condF rfl ?_|(refine aw_cond rfl (fun hb=>?_) (fun hb=>?_)<;>try cases hb)|refine aw_block ?_|refine aw_skip ?_|refine aw_exit ?_|refine aw_ret ?_)
    refine opsK_of (E_iaddr (xs := l) rfl rfl i rfl hil rfl) rfl rfl ?_
    repeat' (first|refine aw_seq ?_|refine aw_region ?_|refine aw_draw [] ?_|refine opsK_done ?_|refine opsK_on rfl ?_|refine opsK_off rfl ?_|(refine opsK_bool rfl rfl rfl (fun hb=>?_) (fun hb=>?_)<;>try cases hb)|refine opsK_of rfl rfl rfl ?_|refine opsK_new rfl rfl rfl ?_|refine dK_done ?_|refine dK_on rfl ?_|refine dK_off ⟨_,rfl,nofun⟩ ?_|(refine dK_bool rfl rfl rfl (fun hb=>?_) (fun hb=>?_)<;>try cases hb)|refine dK_of rfl rfl rfl ?_|refine aw_condT rfl ?_|refine aw_condF rfl ?_|(refine aw_cond rfl (fun hb=>?_) (fun hb=>?_)<;>try cases hb)|refine aw_block ?_|refine aw_skip ?_|refine aw_exit ?_|refine aw_ret ?_)
    refine opsK_eq (empty14_spec l[i] hci) rfl rfl rfl ⟨raC_pure _, trivial⟩ rfl ?_
    cases he : emC l[i]
    · rw [he, if_pos (by decide)] at hstep
      have hmn : mentC (fullL (l.take (i + 1))) = (mentC (fullL (l.take i)) ||| l[i].1) ||| l[i].2 := by rw [hstep, mentC_snoc]
      repeat' (first|refine aw_seq ?_|refine aw_region ?_|refine aw_draw [] ?_|refine opsK_done ?_|refine opsK_on rfl ?_|refine opsK_off rfl ?_|(refine opsK_bool rfl rfl rfl (fun hb=>?_) (fun hb=>?_)<;>try cases hb)|refine opsK_of rfl rfl rfl ?_|refine opsK_new rfl rfl rfl ?_|refine dK_done ?_|refine dK_on rfl ?_|refine dK_off ⟨_,rfl,nofun⟩ ?_|(refine dK_bool rfl rfl rfl (fun hb=>?_) (fun hb=>?_)<;>try cases hb)|refine dK_of rfl rfl rfl ?_|refine aw_condT rfl ?_|refine aw_condF rfl ?_|(refine aw_cond rfl (fun hb=>?_) (fun hb=>?_)<;>try cases hb)|refine aw_block ?_|refine aw_skip ?_|refine aw_exit ?_|refine aw_ret ?_)
      refine opsK_new (E_append (k := 0) (m := [raC l[i]]) (fl := true) rfl rfl rfl (fun c hc => by rw [List.mem_singleton] at hc; subst hc; rfl) rfl (by
        have h1 : (fullL (l.take i)).length ≤ (l.take i).length := List.length_filter_le _ _
        rw [List.length_take] at h1
        show (((fullL (l.take i)).map raC).length + 1) * 16 ≤ _
        rw [List.length_map]
        omega)) rfl rfl ?_
      iterate 6 (first|refine aw_seq ?_|refine aw_region ?_|refine aw_draw [] ?_|refine opsK_done ?_|refine opsK_on rfl ?_|refine opsK_off rfl ?_|(refine opsK_bool rfl rfl rfl (fun hb=>?_) (fun hb=>?_)<;>try cases hb)|refine opsK_of rfl rfl rfl ?_|refine opsK_new rfl rfl rfl ?_|refine dK_done ?_|refine dK_on rfl ?_|refine dK_off ⟨_,rfl,nofun⟩ ?_|(refine dK_bool rfl rfl rfl (fun hb=>?_) (fun hb=>?_)<;>try cases hb)|refine dK_of rfl rfl rfl ?_|refine aw_condT rfl ?_|refine aw_condF rfl ?_|(refine aw_cond rfl (fun hb=>?_) (fun hb=>?_)<;>try cases hb)|refine aw_block ?_|refine aw_skip ?_|refine aw_exit ?_|refine aw_ret ?_)
      refine opsK_of (E_int rfl (bits_or_u64_nat _ _ hmi hci.1)) rfl rfl ?_
      iterate 2 (first|refine aw_seq ?_|refine aw_region ?_|refine aw_draw [] ?_|refine opsK_done ?_|refine opsK_on rfl ?_|refine opsK_off rfl ?_|(refine opsK_bool rfl rfl rfl (fun hb=>?_) (fun hb=>?_)<;>try cases hb)|refine opsK_of rfl rfl rfl ?_|refine opsK_new rfl rfl rfl ?_|refine dK_done ?_|refine dK_on rfl ?_|refine dK_off ⟨_,rfl,nofun⟩ ?_|(refine dK_bool rfl rfl rfl (fun hb=>?_) (fun hb=>?_)<;>try cases hb)|refine dK_of rfl rfl rfl ?_|refine aw_condT rfl ?_|refine aw_condF rfl ?_|(refine aw_cond rfl (fun hb=>?_) (fun hb=>?_)<;>try cases hb)|refine aw_block ?_|refine aw_skip ?_|refine aw_exit ?_|refine aw_ret ?_)
      refine opsK_of (E_int rfl (bits_or_u64_nat _ _ (or_lt hmi hci.1) hci.2)) rfl rfl ?_
      repeat' (first|refine aw_seq ?_|refine aw_region ?_|refine aw_draw [] ?_|refine opsK_done ?_|refine opsK_on rfl ?_|refine opsK_off rfl ?_|(refine opsK_bool rfl rfl rfl (fun hb=>?_) (fun hb=>?_)<;>try cases hb)|refine opsK_of rfl rfl rfl ?_|refine opsK_new rfl rfl rfl ?_|refine dK_done ?_|refine dK_on rfl ?_|refine dK_off ⟨_,rfl,nofun⟩ ?_|(refine dK_bool rfl rfl rfl (fun hb=>?_) (fun hb=>?_)<;>try cases hb)|refine dK_of rfl rfl rfl ?_|refine aw_condT rfl ?_|refine aw_condF rfl ?_|(refine aw_cond rfl (fun hb=>?_) (fun hb=>?_)<;>try cases hb)|refine aw_block ?_|refine aw_skip ?_|refine aw_exit ?_|refine aw_ret ?_)
      refine ⟨i + 1, mv 0 2, by omega, by omega, fun i hi => absurd hi (Nat.not_lt_zero i), injOn_of rfl,
        ⟨⟨_, rfl, .own 0 (by decide)⟩, ⟨_, by rw [hmn]; rfl, .pure _ trivial⟩, ⟨_, rfl, .pure _ (ras_pure l)⟩, ⟨_, rfl, .pure _ trivial⟩, ⟨_, by show some _ = some _; rw [hinc], .pure _ trivial⟩, trivial⟩,
        ⟨⟨by decide, _, rfl, ?_⟩, trivial⟩⟩
      show RenB _ _ ⟨2, (fullL (l.take i)).map raC ++ [raC l[i]]⟩ ⟨2, (fullL (l.take (i + 1))).map raC⟩
      rw [hstep, List.map_append]
      exact .same _ (by rw [← List.map_singleton, ← List.map_append]; exact ras_pure _)
    · rw [he, if_neg (by decide), List.append_nil] at hstep
      repeat' (first|refine aw_seq ?_|refine aw_region ?_|refine aw_draw [] ?_|refine opsK_done ?_|refine opsK_on rfl ?_|refine opsK_off rfl ?_|(refine opsK_bool rfl rfl rfl (fun hb=>?_) (fun hb=>?_)<;>try cases hb)|refine opsK_of rfl rfl rfl ?_|refine opsK_new rfl rfl rfl ?_|refine dK_done ?_|refine dK_on rfl ?_|refine dK_off ⟨_,rfl,nofun⟩ ?_|(refine dK_bool rfl rfl rfl (fun hb=>?_) (fun hb=>?_)<;>try cases hb)|refine dK_of rfl rfl rfl ?_|refine aw_condT rfl ?_|refine aw_condF rfl ?_|(refine aw_cond rfl (fun hb=>?_) (fun hb=>?_)<;>try cases hb)|refine aw_block ?_|refine aw_skip ?_|refine aw_exit ?_|refine aw_ret ?_)
      exact ⟨i + 1, fun i => i, by omega, by omega, fun _ _ => rfl, injOn_id,
        ⟨⟨_, rfl, .own 0 (by decide)⟩, ⟨_, by rw [hstep]; rfl, .pure _ trivial⟩, ⟨_, rfl, .pure _ (ras_pure l)⟩, ⟨_, rfl, .pure _ trivial⟩, ⟨_, by show some _ = some _; rw [hinc], .pure _ trivial⟩, trivial⟩,
        ⟨⟨by decide, _, rfl, by rw [hstep]; exact .same _ (ras_pure _)⟩, trivial⟩⟩
  · have hil : i = l.length := by have := of_decide_eq_false hb; omega
    subst hil
    rw [List.take_length]
    clear hb
    repeat' (first | refine opsK_sub (subA_freeze (k := 4) rfl rfl (ras_pure _)) ?_ | (first|refine aw_seq ?_|refine aw_region ?_|refine aw_draw [] ?_|refine opsK_done ?_|refine opsK_on rfl ?_|refine opsK_off rfl ?_|(refine opsK_bool rfl rfl rfl (fun hb=>?_) (fun hb=>?_)<;>try cases hb)|refine opsK_of rfl rfl rfl ?_|refine opsK_new rfl rfl rfl ?_|refine dK_done ?_|refine dK_on rfl ?_|refine dK_off ⟨_,rfl,nofun⟩ ?_|(refine dK_bool rfl rfl rfl (fun hb=>?_) (fun hb=>?_)<;>try cases hb)|refine dK_of rfl rfl rfl ?_|refine aw_condT rfl ?_|refine aw_condF rfl ?_|(refine aw_cond rfl (fun hb=>?_) (fun hb=>?_)<;>try cases hb)|refine aw_block ?_|refine aw_skip ?_|refine aw_exit ?_|refine aw_ret ?_))
    exact ret_ok rfl ⟨ras_pure _, trivial, trivial⟩ rfl

abbrev RawX := Nat × Nat × Bool
def rawC (x : RawX) : List PV := [.val (.int .u8 (x.1 : Int)), .val (.int .u8 (x.2.1 : Int)), .val (.bool x.2.2)]
theorem rawC_pure (x : RawX) : pureL (rawC x) := ⟨trivial, trivial, trivial, trivial⟩
def RawXok (x : RawX) : Prop := x.1 < 256 ∧ x.2.1 < 256
def makC (a b : Nat) : Cu := (2 * (a &&& b &&& 63), 2 * (a &&& 63 &&& (255 - b)))
def fitC (x : RawX) : Cu := if x.2.2 = true then (x.1 &&& 254, x.2.1 &&& 254) else makC x.1 x.2.1
def rawL (l : List RawX) : List Cu := (l.take 8).map fitC
theorem and_u8 (a b : Nat) (ha : a < 256) (hb : b < 256) : bits .and .u8 (a : Int) (b : Int) = ((a &&& b : Nat) : Int) := by
  have h1 : (BitVec.ofInt 8 (a : Int)).toNat = a := by rw [BitVec.ofInt_natCast, BitVec.toNat_ofNat]; exact Nat.mod_eq_of_lt (by omega)
  have h2 : (BitVec.ofInt 8 (b : Int)).toNat = b := by rw [BitVec.ofInt_natCast, BitVec.toNat_ofNat]; exact Nat.mod_eq_of_lt (by omega)
  show IntKind.u8.wrap ((BitVec.ofInt 8 (a : Int) &&& BitVec.ofInt 8 (b : Int)).toNat : Int) = _
  rw [BitVec.toNat_and, h1, h2]
  have : a &&& b ≤ a := Nat.and_le_left
  exact IntWalk.u8_in _ ⟨by omega, by omega⟩
theorem shl1_u64 (a : Nat) (ha : a < 256) : IntKind.u64.wrap (IntKind.u64.wrap (a : Int) * 2 ^ (min (1 : Int).toNat IntKind.u64.bits)) = ((2 * a : Nat) : Int) := by
  rw [IntWalk.u64_in (a : Int) ⟨by omega, by omega⟩]
  show IntKind.u64.wrap ((a : Int) * 2) = _
  rw [IntWalk.u64_in _ ⟨by omega, by omega⟩]
  omega
theorem make14r_spec (a b : Nat) (ha : a < 256) (hb : b < 256) : Spec Tryd.prog 34 [.val (.int .u8 (a : Int)), .val (.int .u8 (b : Int))] (· = .agg (raC (makC a b))) := by
  have e1 : a &&& b ≤ a := Nat.and_le_left
  have e2 : a &&& 63 ≤ a := Nat.and_le_left
  have e3 : a &&& b &&& 63 ≤ a &&& b := Nat.and_le_left
  have e4 : a &&& 63 &&& (255 - b) ≤ a &&& 63 := Nat.and_le_left
  have hs : IntKind.u8.wrap (255 - (b : Int)) = ((255 - b : Nat) : Int) := by rw [IntWalk.u8_in _ ⟨by omega, by omega⟩]; omega
  have hx : IntKind.u64.wrap (IntKind.u64.wrap (bits .and .u8 (bits .and .u8 (a : Int) (b : Int)) 63) * 2 ^ (min (1 : Int).toNat IntKind.u64.bits)) = ((2 * (a &&& b &&& 63) : Nat) : Int) := by
    rw [and_u8 a b ha hb, show (63 : Int) = ((63 : Nat) : Int) from rfl, and_u8 _ 63 (by omega) (by decide)]
    exact shl1_u64 _ (by omega)
  have hy : IntKind.u64.wrap (IntKind.u64.wrap (bits .and .u8 (bits .and .u8 (a : Int) 63) (IntKind.u8.wrap (255 - (b : Int)))) * 2 ^ (min (1 : Int).toNat IntKind.u64.bits)) = ((2 * (a &&& 63 &&& (255 - b)) : Nat) : Int) := by
    rw [hs, show (63 : Int) = ((63 : Nat) : Int) from rfl, and_u8 a 63 ha (by decide), and_u8 _ _ (by omega) (by omega)]
    exact shl1_u64 _ (by omega)
  refine spec_intro ok34 (Nat.le_of_ble_eq_true rfl) fun C hC => ?_
  repeat' (first|refine aw_seq ?_|refine aw_region ?_|refine aw_draw [] ?_|refine opsK_done ?_|refine opsK_on rfl ?_|refine opsK_off rfl ?_|(refine opsK_bool rfl rfl rfl (fun hb=>?_) (fun hb=>?_)<;>try cases hb)|refine opsK_of rfl rfl rfl ?_|refine opsK_new rfl rfl rfl ?_|refine dK_done ?_|refine dK_on rfl ?_|refine dK_off ⟨_,rfl,nofun⟩ ?_|(refine dK_bool rfl rfl rfl (fun hb=>?_) (fun hb=>?_)<;>try cases hb)|refine dK_of rfl rfl rfl ?_|refine aw_condT rfl ?_|refine aw_condF rfl ?_|(refine aw_cond rfl (fun hb=>?_) (fun hb=>?_)<;>try cases hb)|refine aw_block ?_|refine aw_skip ?_|refine aw_exit ?_|refine aw_ret ?_)
  refine ret_ok rfl ⟨trivial, trivial, trivial⟩ ?_
  show PV.agg [.val (.int .u64 _), .val (.int .u64 _)] = PV.agg [.val (.int .u64 _), .val (.int .u64 _)]
  rw [hx, hy]
  rfl
theorem fit14_spec (x : RawX) (hx : RawXok x) : Spec Tryd.prog 43 [.agg (rawC x)] (· = .agg (raC (fitC x))) := by
  obtain ⟨a, b, o⟩ := x
  obtain ⟨ha, hb⟩ := hx
  have e1 : a &&& 254 ≤ a := Nat.and_le_left
  have e2 : b &&& 254 ≤ b := Nat.and_le_left
  dsimp only at ha hb
  have w1 : IntKind.u64.wrap (bits .and .u8 (a : Int) 254) = ((a &&& 254 : Nat) : Int) := by
    rw [show (254 : Int) = ((254 : Nat) : Int) from rfl, and_u8 a 254 ha (by decide)]; exact IntWalk.u64_in _ ⟨by omega, by omega⟩
  have w2 : IntKind.u64.wrap (bits .and .u8 (b : Int) 254) = ((b &&& 254 : Nat) : Int) := by
    rw [show (254 : Int) = ((254 : Nat) : Int) from rfl, and_u8 b 254 hb (by decide)]; exact IntWalk.u64_in _ ⟨by omega, by omega⟩
  refine spec_intro ok43 (Nat.le_of_ble_eq_true rfl) fun C hC => ?_
  refine aw_seq ?_
  refine aw_region ?_
  refine opsK_ofAlt rfl rfl rfl ?_
  cases o
  · repeat' (first|refine aw_seq ?_|refine aw_region ?_|refine aw_draw [] ?_|refine opsK_done ?_|refine opsK_on rfl ?_|refine opsK_off rfl ?_|(refine opsK_bool rfl rfl rfl (fun hb=>?_) (fun hb=>?_)<;>try cases hb)|refine opsK_of rfl rfl rfl ?_|refine opsK_new rfl rfl rfl ?_|refine dK_done ?_|refine dK_on rfl ?_|refine dK_off ⟨_,rfl,nofun⟩ ?_|(refine dK_bool rfl rfl rfl (fun hb=>?_) (fun hb=>?_)<;>try cases hb)|refine dK_of rfl rfl rfl ?_|refine aw_condT rfl ?_|refine aw_condF rfl ?_|(refine aw_cond rfl (fun hb=>?_) (fun hb=>?_)<;>try cases hb)|refine aw_block ?_|refine aw_skip ?_|refine aw_exit ?_|refine aw_ret ?_)
    refine opsK_eq (make14r_spec a b ha hb) rfl rfl rfl ⟨trivial, trivial, trivial⟩ rfl ?_
    repeat' (first|refine aw_seq ?_|refine aw_region ?_|refine aw_draw [] ?_|refine opsK_done ?_|refine opsK_on rfl ?_|refine opsK_off rfl ?_|(refine opsK_bool rfl rfl rfl (fun hb=>?_) (fun hb=>?_)<;>try cases hb)|refine opsK_of rfl rfl rfl ?_|refine opsK_new rfl rfl rfl ?_|refine dK_done ?_|refine dK_on rfl ?_|refine dK_off ⟨_,rfl,nofun⟩ ?_|(refine dK_bool rfl rfl rfl (fun hb=>?_) (fun hb=>?_)<;>try cases hb)|refine dK_of rfl rfl rfl ?_|refine aw_condT rfl ?_|refine aw_condF rfl ?_|(refine aw_cond rfl (fun hb=>?_) (fun hb=>?_)<;>try cases hb)|refine aw_block ?_|refine aw_skip ?_|refine aw_exit ?_|refine aw_ret ?_)
    exact ret_ok rfl (raC_pure _) rfl
  · repeat' (first|refine aw_seq ?_|refine aw_region ?_|refine aw_draw [] ?_|refine opsK_done ?_|refine opsK_on rfl ?_|refine opsK_off rfl ?_|(refine opsK_bool rfl rfl rfl (fun hb=>?_) (fun hb=>?_)<;>try cases hb)|refine opsK_of rfl rfl rfl ?_|refine opsK_new rfl rfl rfl ?_|refine dK_done ?_|refine dK_on rfl ?_|refine dK_off ⟨_,rfl,nofun⟩ ?_|(refine dK_bool rfl rfl rfl (fun hb=>?_) (fun hb=>?_)<;>try cases hb)|refine dK_of rfl rfl rfl ?_|refine aw_condT rfl ?_|refine aw_condF rfl ?_|(refine aw_cond rfl (fun hb=>?_) (fun hb=>?_)<;>try cases hb)|refine aw_block ?_|refine aw_skip ?_|refine aw_exit ?_|refine aw_ret ?_)
    refine ret_ok rfl ⟨trivial, trivial, trivial⟩ ?_
    show PV.agg [.val (.int .u64 _), .val (.int .u64 _)] = PV.agg [.val (.int .u64 _), .val (.int .u64 _)]
    rw [w1, w2]
    rfl
set_option maxHeartbeats 2000000 in
theorem list14_spec (l : List RawX) (fl : Bool) (hl : ∀ c ∈ l, RawXok c) : Spec Tryd.prog 11 [.vec (l.map rawC) fl] (· = .vec ((rawL l).map raC) false) := by
  have hnl : (l.map rawC).length = l.length := by simp
  have hrp : ∀ m, innLL m (l.map rawC) := fun m => innLL_mono (fun _ h => h.elim) _ (pureLL_enc rawC_pure l)
  refine spec_intro ok11 (Nat.le_of_ble_eq_true rfl) fun C hC => ?_
  repeat' (first | refine opsK_sub (subA_ownNil (k := 3) rfl 2 (by decide)) ?_ | (first|refine aw_seq ?_|refine aw_region ?_|refine aw_draw [] ?_|refine opsK_done ?_|refine opsK_on rfl ?_|refine opsK_off rfl ?_|(refine opsK_bool rfl rfl rfl (fun hb=>?_) (fun hb=>?_)<;>try cases hb)|refine opsK_of rfl rfl rfl ?_|refine opsK_new rfl rfl rfl ?_|refine dK_done ?_|refine dK_on rfl ?_|refine dK_off ⟨_,rfl,nofun⟩ ?_|(refine dK_bool rfl rfl rfl (fun hb=>?_) (fun hb=>?_)<;>try cases hb)|refine dK_of rfl rfl rfl ?_|refine aw_condT rfl ?_|refine aw_condF rfl ?_|(refine aw_cond rfl (fun hb=>?_) (fun hb=>?_)<;>try cases hb)|refine aw_block ?_|refine aw_skip ?_|refine aw_exit ?_|refine aw_ret ?_))
  refine aw_loopR hC (fun (i : Nat) => i ≤ l.length ∧ i ≤ 8) (fun i => l.length - i) 1 (fun i => [(3, .own 0), (6, .vec (l.map rawC) fl), (7, .val (.int .i64 (l.length : Int))), (8, .val (.int .i64 (i : Int)))])
    (fun i => [(0, ⟨2, ((l.take i).map fitC).map raC⟩)]) (Nat.zero_le _) 0 ⟨Nat.zero_le _, Nat.zero_le _⟩ (fun i => i) (fun _ _ => rfl) injOn_id
    ⟨⟨_, rfl, .own 0 (by decide)⟩, ⟨_, rfl, .pure _ (hrp _)⟩, ⟨_, by rw [← hnl]; rfl, .pure _ trivial⟩, ⟨_, rfl, .pure _ trivial⟩, trivial⟩ ⟨⟨by decide, _, rfl, .same _ trivial⟩, trivial⟩ ?_
  rintro i ⟨hi, h8⟩
  have hinc : IntKind.i64.wrap ((i : Int) + 1) = ((i + 1 : Nat) : Int) := IntWalk.i64_in _ ⟨by omega, by omega⟩
  iterate 2 (first|refine aw_seq ?_|refine aw_region ?_|refine aw_draw [] ?_|refine opsK_done ?_|refine opsK_on rfl ?_|refine opsK_off rfl ?_|(refine opsK_bool rfl rfl rfl (fun hb=>?_) (fun hb=>?_)<;>try cases hb)|refine opsK_of rfl rfl rfl ?_|refine opsK_new rfl rfl rfl ?_|refine dK_done ?_|refine dK_on rfl ?_|refine dK_off ⟨_,rfl,nofun⟩ ?_|(refine dK_bool rfl rfl rfl (fun hb=>?_) (fun hb=>?_)<;>try cases hb)|refine dK_of rfl rfl rfl ?_|refine aw_condT rfl ?_|refine aw_condF rfl ?_|(refine aw_cond rfl (fun hb=>?_) (fun hb=>?_)<;>try cases hb)|refine aw_block ?_|refine aw_skip ?_|refine aw_exit ?_|refine aw_ret ?_)
  refine opsK_bool rfl rfl rfl (fun hb => ?_) (fun hb => ?_)
  · have hil : i < l.length := by have := of_decide_eq_true hb; omega
    have htake : l.take (i + 1) = l.take i ++ [l[i]] := by rw [List.take_add_one, List.getElem?_eq_getElem hil]; rfl
    clear hb
    repeat' (first|refine aw_seq ?_|refine aw_region ?_|refine aw_draw [] ?_|refine opsK_done ?_|refine opsK_on rfl ?_|refine opsK_off rfl ?_|(refine opsK_bool rfl rfl rfl (fun hb=>?_) (fun hb=>?_)<;>try cases hb)|refine opsK_of rfl rfl rfl ?_|refine opsK_new rfl rfl rfl ?_|refine dK_done ?_|refine dK_on rfl ?_|refine dK_off ⟨_,rfl,nofun⟩ ?_|(refine dK_bool rfl rfl rfl (fun hb=>?_) (fun hb=>?_)<;>try cases hb)|refine dK_of rfl rfl rfl ?_|refine aw_condT rfl ?_|refine aw_condF rfl ?_|(refine aw_cond rfl (fun hb=>?_) (fun hb=>?_)<;>try cases hb)|refine aw_block ?_|refine aw_skip ?_|refine aw_exit ?_|refine aw_ret ?_)
    refine opsK_of (E_iaddr (xs := l) rfl rfl i rfl hil rfl) rfl rfl ?_
    iterate 9 (first|refine aw_seq ?_|refine aw_region ?_|refine aw_draw [] ?_|refine opsK_done ?_|refine opsK_on rfl ?_|refine opsK_off rfl ?_|(refine opsK_bool rfl rfl rfl (fun hb=>?_) (fun hb=>?_)<;>try cases hb)|refine opsK_of rfl rfl rfl ?_|refine opsK_new rfl rfl rfl ?_|refine dK_done ?_|refine dK_on rfl ?_|refine dK_off ⟨_,rfl,nofun⟩ ?_|(refine dK_bool rfl rfl rfl (fun hb=>?_) (fun hb=>?_)<;>try cases hb)|refine dK_of rfl rfl rfl ?_|refine aw_condT rfl ?_|refine aw_condF rfl ?_|(refine aw_cond rfl (fun hb=>?_) (fun hb=>?_)<;>try cases hb)|refine aw_block ?_|refine aw_skip ?_|refine aw_exit ?_|refine aw_ret ?_)
    refine opsK_bool rfl rfl rfl (fun hb => ?_) (fun hb => ?_)
    · have h : i = 8 := by have := of_decide_eq_true hb; omega
      subst h
      clear hb
      repeat' (first | refine opsK_sub (subA_freeze (k := 3) rfl rfl (ras_pure _)) ?_ | (first|refine aw_seq ?_|refine aw_region ?_|refine aw_draw [] ?_|refine opsK_done ?_|refine opsK_on rfl ?_|refine opsK_off rfl ?_|(refine opsK_bool rfl rfl rfl (fun hb=>?_) (fun hb=>?_)<;>try cases hb)|refine opsK_of rfl rfl rfl ?_|refine opsK_new rfl rfl rfl ?_|refine dK_done ?_|refine dK_on rfl ?_|refine dK_off ⟨_,rfl,nofun⟩ ?_|(refine dK_bool rfl rfl rfl (fun hb=>?_) (fun hb=>?_)<;>try cases hb)|refine dK_of rfl rfl rfl ?_|refine aw_condT rfl ?_|refine aw_condF rfl ?_|(refine aw_cond rfl (fun hb=>?_) (fun hb=>?_)<;>try cases hb)|refine aw_block ?_|refine aw_skip ?_|refine aw_exit ?_|refine aw_ret ?_))
      exact ret_ok rfl (ras_pure _) rfl
    · have h : i ≠ 8 := by have := of_decide_eq_false hb; omega
      clear hb
      repeat' (first|refine aw_seq ?_|refine aw_region ?_|refine aw_draw [] ?_|refine opsK_done ?_|refine opsK_on rfl ?_|refine opsK_off rfl ?_|(refine opsK_bool rfl rfl rfl (fun hb=>?_) (fun hb=>?_)<;>try cases hb)|refine opsK_of rfl rfl rfl ?_|refine opsK_new rfl rfl rfl ?_|refine dK_done ?_|refine dK_on rfl ?_|refine dK_off ⟨_,rfl,nofun⟩ ?_|(refine dK_bool rfl rfl rfl (fun hb=>?_) (fun hb=>?_)<;>try cases hb)|refine dK_of rfl rfl rfl ?_|refine aw_condT rfl ?_|refine aw_condF rfl ?_|(refine aw_cond rfl (fun hb=>?_) (fun hb=>?_)<;>try cases hb)|refine aw_block ?_|refine aw_skip ?_|refine aw_exit ?_|refine aw_ret ?_)
      refine opsK_eq (fit14_spec l[i] (hl _ (List.getElem_mem hil))) rfl rfl rfl ⟨rawC_pure _, trivial⟩ rfl ?_
      repeat' (first|refine aw_seq ?_|refine aw_region ?_|refine aw_draw [] ?_|refine opsK_done ?_|refine opsK_on rfl ?_|refine opsK_off rfl ?_|(refine opsK_bool rfl rfl rfl (fun hb=>?_) (fun hb=>?_)<;>try cases hb)|refine opsK_of rfl rfl rfl ?_|refine opsK_new rfl rfl rfl ?_|refine dK_done ?_|refine dK_on rfl ?_|refine dK_off ⟨_,rfl,nofun⟩ ?_|(refine dK_bool rfl rfl rfl (fun hb=>?_) (fun hb=>?_)<;>try cases hb)|refine dK_of rfl rfl rfl ?_|refine aw_condT rfl ?_|refine aw_condF rfl ?_|(refine aw_cond rfl (fun hb=>?_) (fun hb=>?_)<;>try cases hb)|refine aw_block ?_|refine aw_skip ?_|refine aw_exit ?_|refine aw_ret ?_)
      refine opsK_new (E_append (k := 0) (m := [raC (fitC l[i])]) (fl := true) rfl rfl rfl (fun c hc => by rw [List.mem_singleton] at hc; subst hc; rfl) rfl (by
        show ((((l.take i).map fitC).map raC).length + 1) * 16 ≤ _
        rw [List.length_map, List.length_map, List.length_take]
        omega)) rfl rfl ?_
      repeat' (first|refine aw_seq ?_|refine aw_region ?_|refine aw_draw [] ?_|refine opsK_done ?_|refine opsK_on rfl ?_|refine opsK_off rfl ?_|(refine opsK_bool rfl rfl rfl (fun hb=>?_) (fun hb=>?_)<;>try cases hb)|refine opsK_of rfl rfl rfl ?_|refine opsK_new rfl rfl rfl ?_|refine dK_done ?_|refine dK_on rfl ?_|refine dK_off ⟨_,rfl,nofun⟩ ?_|(refine dK_bool rfl rfl rfl (fun hb=>?_) (fun hb=>?_)<;>try cases hb)|refine dK_of rfl rfl rfl ?_|refine aw_condT rfl ?_|refine aw_condF rfl ?_|(refine aw_cond rfl (fun hb=>?_) (fun hb=>?_)<;>try cases hb)|refine aw_block ?_|refine aw_skip ?_|refine aw_exit ?_|refine aw_ret ?_)
      refine ⟨i + 1, mv 0 2, ⟨by omega, by omega⟩, by omega, fun i hi => absurd hi (Nat.not_lt_zero i), injOn_of rfl,
        ⟨⟨_, rfl, .own 0 (by decide)⟩, ⟨_, rfl, .pure _ (hrp _)⟩, ⟨_, rfl, .pure _ trivial⟩, ⟨_, by show some _ = some _; rw [hinc], .pure _ trivial⟩, trivial⟩,
        ⟨⟨by decide, _, rfl, ?_⟩, trivial⟩⟩
      show RenB _ _ ⟨2, ((l.take i).map fitC).map raC ++ [raC (fitC l[i])]⟩ ⟨2, ((l.take (i + 1)).map fitC).map raC⟩
      rw [htake, List.map_append, List.map_append]
      exact .same _ (by rw [← List.map_singleton (f := raC), ← List.map_append]; exact ras_pure _)
  · have hil : i = l.length := by have := of_decide_eq_false hb; omega
    subst hil
    clear hb
    have ht : l.take l.length = l.take 8 := by rw [List.take_length, List.take_of_length_le h8]
    rw [ht]
    repeat' (first | refine opsK_sub (subA_freeze (k := 3) rfl rfl (ras_pure _)) ?_ | (first|refine aw_seq ?_|refine aw_region ?_|refine aw_draw [] ?_|refine opsK_done ?_|refine opsK_on rfl ?_|refine opsK_off rfl ?_|(refine opsK_bool rfl rfl rfl (fun hb=>?_) (fun hb=>?_)<;>try cases hb)|refine opsK_of rfl rfl rfl ?_|refine opsK_new rfl rfl rfl ?_|refine dK_done ?_|refine dK_on rfl ?_|refine dK_off ⟨_,rfl,nofun⟩ ?_|(refine dK_bool rfl rfl rfl (fun hb=>?_) (fun hb=>?_)<;>try cases hb)|refine dK_of rfl rfl rfl ?_|refine aw_condT rfl ?_|refine aw_condF rfl ?_|(refine aw_cond rfl (fun hb=>?_) (fun hb=>?_)<;>try cases hb)|refine aw_block ?_|refine aw_skip ?_|refine aw_exit ?_|refine aw_ret ?_))
    exact ret_ok rfl (ras_pure _) rfl
set_option maxHeartbeats 2000000 in
theorem few19_own (l : List Cu) (fl : Bool) : NSpec Tryd.prog 12 [.vec (l.map raC) fl] .own ⟨2, (l.take 6).map raC⟩ := by
  have hnl := ras_length l
  refine nspec_intro ok12 (Nat.le_of_ble_eq_true rfl) fun C hC => ?_
  have hmn : (if (6 : Int) < ((l.map raC).length : Int) then (6 : Int) else ((l.map raC).length : Int)) = ((min l.length 6 : Nat) : Int) := by rw [hnl]; split <;> omega
  have ht6 : l.take (min l.length 6) = l.take 6 := by
    by_cases h : l.length ≤ 6
    · rw [show min l.length 6 = l.length by omega, List.take_length, List.take_of_length_le h]
    · rw [show min l.length 6 = 6 by omega]
  generalize hy : l.take 6 = ys
  have hyl : ys.length ≤ 6 := by rw [← hy, List.length_take]; omega
  have hnl2 := ras_length ys
  repeat' (first | refine opsK_sub (subA_ownNil (k := 3) rfl 2 (by decide)) ?_ | (first|refine aw_seq ?_|refine aw_region ?_|refine aw_draw [] ?_|refine opsK_done ?_|refine opsK_on rfl ?_|refine opsK_off rfl ?_|(refine opsK_bool rfl rfl rfl (fun hb=>?_) (fun hb=>?_)<;>try cases hb)|refine opsK_of rfl rfl rfl ?_|refine opsK_new rfl rfl rfl ?_|refine dK_done ?_|refine dK_on rfl ?_|refine dK_off ⟨_,rfl,nofun⟩ ?_|(refine dK_bool rfl rfl rfl (fun hb=>?_) (fun hb=>?_)<;>try cases hb)|refine dK_of rfl rfl rfl ?_|refine aw_condT rfl ?_|refine aw_condF rfl ?_|(refine aw_cond rfl (fun hb=>?_) (fun hb=>?_)<;>try cases hb)|refine aw_block ?_|refine aw_skip ?_|refine aw_exit ?_|refine aw_ret ?_))
  refine opsK_of (E_slc (xs := l) (g := raC) rfl 0 (min l.length 6) rfl (by show some _ = some _; rw [← hmn]) (Nat.zero_le _) (Nat.min_le_left _ _) (fun _ => rfl)) rfl rfl ?_
  rw [ht6, hy, List.drop_zero]
  repeat' (first|refine aw_seq ?_|refine aw_region ?_|refine aw_draw [] ?_|refine opsK_done ?_|refine opsK_on rfl ?_|refine opsK_off rfl ?_|(refine opsK_bool rfl rfl rfl (fun hb=>?_) (fun hb=>?_)<;>try cases hb)|refine opsK_of rfl rfl rfl ?_|refine opsK_new rfl rfl rfl ?_|refine dK_done ?_|refine dK_on rfl ?_|refine dK_off ⟨_,rfl,nofun⟩ ?_|(refine dK_bool rfl rfl rfl (fun hb=>?_) (fun hb=>?_)<;>try cases hb)|refine dK_of rfl rfl rfl ?_|refine aw_condT rfl ?_|refine aw_condF rfl ?_|(refine aw_cond rfl (fun hb=>?_) (fun hb=>?_)<;>try cases hb)|refine aw_block ?_|refine aw_skip ?_|refine aw_exit ?_|refine aw_ret ?_)
  refine aw_loopR hC (fun (i : Nat) => i ≤ ys.length) (fun i => ys.length - i) 1 (fun i => [(3, .own 0), (10, .vec (ys.map raC) false), (11, .val (.int .i64 (ys.length : Int))), (12, .val (.int .i64 (i : Int)))])
    (fun i => [(0, ⟨2, (ys.take i).map raC⟩)]) (Nat.zero_le _) 0 (Nat.zero_le _) (fun i => i) (fun _ _ => rfl) injOn_id
    ⟨⟨_, rfl, .own 0 (by decide)⟩, ⟨_, rfl, .pure _ (ras_pure ys)⟩, ⟨_, by rw [← hnl2]; rfl, .pure _ trivial⟩, ⟨_, rfl, .pure _ trivial⟩, trivial⟩ ⟨⟨by decide, _, rfl, .same _ trivial⟩, trivial⟩ ?_
  intro i hi
  have hinc : IntKind.i64.wrap ((i : Int) + 1) = ((i + 1 : Nat) : Int) := IntWalk.i64_in _ ⟨by omega, by omega⟩
  iterate 2 (first|refine aw_seq ?_|refine aw_region ?_|refine aw_draw [] ?_|refine opsK_done ?_|refine opsK_on rfl ?_|refine opsK_off rfl ?_|(refine opsK_bool rfl rfl rfl (fun hb=>?_) (fun hb=>?_)<;>try cases hb)|refine opsK_of rfl rfl rfl ?_|refine opsK_new rfl rfl rfl ?_|refine dK_done ?_|refine dK_on rfl ?_|refine dK_off ⟨_,rfl,nofun⟩ ?_|(refine dK_bool rfl rfl rfl (fun hb=>?_) (fun hb=>?_)<;>try cases hb)|refine dK_of rfl rfl rfl ?_|refine aw_condT rfl ?_|refine aw_condF rfl ?_|(refine aw_cond rfl (fun hb=>?_) (fun hb=>?_)<;>try cases hb)|refine aw_block ?_|refine aw_skip ?_|refine aw_exit ?_|refine aw_ret ?_)
  refine opsK_bool rfl rfl rfl (fun hb => ?_) (fun hb => ?_)
  · have hil : i < ys.length := by have := of_decide_eq_true hb; omega
    have htake : ys.take (i + 1) = ys.take i ++ [ys[i]] := by rw [List.take_add_one, List.getElem?_eq_getElem hil]; rfl
    clear hb
    repeat' (first|refine aw_seq ?_|refine aw_region ?_|refine aw_draw [] ?_|refine opsK_done ?_|refine opsK_on rfl ?_|refine opsK_off rfl ?_|(refine opsK_bool rfl rfl rfl (fun hb=>?_) (fun hb=>?_)<;>try cases hb)|refine opsK_of rfl rfl rfl ?_|refine opsK_new rfl rfl rfl ?_|refine dK_done ?_|refine dK_on rfl ?_|refine dK_off ⟨_,rfl,nofun⟩ ?_|(refine dK_bool rfl rfl rfl (fun hb=>?_) (fun hb=>?_)<;>try cases hb)|refine dK_of rfl rfl rfl ?_|refine aw_condT rfl ?_|refine aw_condF rfl ?_|(refine aw_cond rfl (fun hb=>?_) (fun hb=>?_)<;>try cases hb)|refine aw_block ?_|refine aw_skip ?_|refine aw_exit ?_|refine aw_ret ?_)
    refine opsK_of (E_iaddr (xs := ys) rfl rfl i rfl hil rfl) rfl rfl ?_
    repeat' (first|refine aw_seq ?_|refine aw_region ?_|refine aw_draw [] ?_|refine opsK_done ?_|refine opsK_on rfl ?_|refine opsK_off rfl ?_|(refine opsK_bool rfl rfl rfl (fun hb=>?_) (fun hb=>?_)<;>try cases hb)|refine opsK_of rfl rfl rfl ?_|refine opsK_new rfl rfl rfl ?_|refine dK_done ?_|refine dK_on rfl ?_|refine dK_off ⟨_,rfl,nofun⟩ ?_|(refine dK_bool rfl rfl rfl (fun hb=>?_) (fun hb=>?_)<;>try cases hb)|refine dK_of rfl rfl rfl ?_|refine aw_condT rfl ?_|refine aw_condF rfl ?_|(refine aw_cond rfl (fun hb=>?_) (fun hb=>?_)<;>try cases hb)|refine aw_block ?_|refine aw_skip ?_|refine aw_exit ?_|refine aw_ret ?_)
    refine opsK_new (E_append (k := 0) (m := [raC ys[i]]) (fl := true) rfl rfl rfl (fun c hc => by rw [List.mem_singleton] at hc; subst hc; rfl) rfl (by
      show (((ys.take i).map raC).length + 1) * 16 ≤ _
      rw [List.length_map, List.length_take]
      omega)) rfl rfl ?_
    repeat' (first|refine aw_seq ?_|refine aw_region ?_|refine aw_draw [] ?_|refine opsK_done ?_|refine opsK_on rfl ?_|refine opsK_off rfl ?_|(refine opsK_bool rfl rfl rfl (fun hb=>?_) (fun hb=>?_)<;>try cases hb)|refine opsK_of rfl rfl rfl ?_|refine opsK_new rfl rfl rfl ?_|refine dK_done ?_|refine dK_on rfl ?_|refine dK_off ⟨_,rfl,nofun⟩ ?_|(refine dK_bool rfl rfl rfl (fun hb=>?_) (fun hb=>?_)<;>try cases hb)|refine dK_of rfl rfl rfl ?_|refine aw_condT rfl ?_|refine aw_condF rfl ?_|(refine aw_cond rfl (fun hb=>?_) (fun hb=>?_)<;>try cases hb)|refine aw_block ?_|refine aw_skip ?_|refine aw_exit ?_|refine aw_ret ?_)
    refine ⟨i + 1, mv 0 2, by omega, by omega, fun i hi => absurd hi (Nat.not_lt_zero i), injOn_of rfl,
      ⟨⟨_, rfl, .own 0 (by decide)⟩, ⟨_, rfl, .pure _ (ras_pure ys)⟩, ⟨_, rfl, .pure _ trivial⟩, ⟨_, by show some _ = some _; rw [hinc], .pure _ trivial⟩, trivial⟩,
      ⟨⟨by decide, _, rfl, ?_⟩, trivial⟩⟩
    show RenB _ _ ⟨2, (ys.take i).map raC ++ [raC ys[i]]⟩ ⟨2, (ys.take (i + 1)).map raC⟩
    rw [htake, List.map_append]
    exact .same _ (by rw [← List.map_singleton, ← List.map_append]; exact ras_pure _)
  · have hil : i = ys.length := by have := of_decide_eq_false hb; omega
    subst hil
    clear hb
    rw [List.take_length]
    repeat' (first|refine aw_seq ?_|refine aw_region ?_|refine aw_draw [] ?_|refine opsK_done ?_|refine opsK_on rfl ?_|refine opsK_off rfl ?_|(refine opsK_bool rfl rfl rfl (fun hb=>?_) (fun hb=>?_)<;>try cases hb)|refine opsK_of rfl rfl rfl ?_|refine opsK_new rfl rfl rfl ?_|refine dK_done ?_|refine dK_on rfl ?_|refine dK_off ⟨_,rfl,nofun⟩ ?_|(refine dK_bool rfl rfl rfl (fun hb=>?_) (fun hb=>?_)<;>try cases hb)|refine dK_of rfl rfl rfl ?_|refine aw_condT rfl ?_|refine aw_condF rfl ?_|(refine aw_cond rfl (fun hb=>?_) (fun hb=>?_)<;>try cases hb)|refine aw_block ?_|refine aw_skip ?_|refine aw_exit ?_|refine aw_ret ?_)
    exact ⟨_, _, rfl, .inl rfl, 0, rfl, rfl⟩
end Go.Proofs.YtifohjijhhjdkaaDoor

namespace Go.Proofs.YtifohjijhhjdkaaDoor
open Go.RowKit
set_option linter.unusedVariables false
attribute [local irreducible] aw opsK dK

def bolC (b : Bool) : List PV := [.val (.bool b)]
def bolR (m : Nat) (p : Nat → Bool) : List (List PV) := (List.range m).map fun i => bolC (p i)
theorem bolR_length (m : Nat) (p : Nat → Bool) : (bolR m p).length = m := by simp [bolR]
theorem bolR_pure (m : Nat) (p : Nat → Bool) : pureLL (bolR m p) := pureLL_map _ _ fun _ _ => ⟨trivial, trivial⟩
theorem bolR_inn (m : Nat) (p : Nat → Bool) (D : Nat → Prop) : innLL D (bolR m p) := innLL_mono (fun _ h => h.elim) _ (bolR_pure m p)
theorem bolR_get {m : Nat} (p : Nat → Bool) {i : Nat} (h : i < m) : (bolR m p).getD i [] = bolC (p i) := by simp [bolR, List.getD_eq_getElem?_getD, h]
theorem bolR_congr {m : Nat} {p q : Nat → Bool} (h : ∀ i, i < m → p i = q i) : bolR m p = bolR m q := List.map_congr_left fun i hi => by rw [h i (List.mem_range.1 hi)]
theorem bolR_rep (m : Nat) : List.replicate m (zpv [Value.bool false]) = bolR m fun _ => false := by
  simp [bolR, zpv, pvOf, bolC, List.map_const']
theorem bolR_set (m : Nat) (p : Nat → Bool) (i : Nat) (v : Bool) : (bolR m p).set i (bolC v) = bolR m fun j => if j = i then v else p j := by
  refine List.ext_getElem (by simp [bolR]) fun j h1 h2 => ?_
  rw [List.getElem_set]
  simp only [bolR, List.getElem_map, List.getElem_range]
  by_cases h : i = j
  · subst h; simp
  · have h' : ¬ j = i := fun e => h e.symm
    simp [h, h']
theorem E_bol {n : Nat} {e : Env} {h : Heap} {x i : Operand} {m : Nat} {p : Nat → Bool} {fl : Bool} {k : IntKind} {z : Int} (hx : ev e x = some (.vec (bolR m p) fl)) (hi : ev e i = some (.val (.int k z))) (j : Nat) (hm : z = (j : Int)) (hj : j < m) :
    dEval (.iaddr 1 x i) e h n = some (.cp (bolC (p j)), h) := by
  have := E_iaddr (xs := List.range m) (g := fun i => bolC (p i)) (esz := 1) (h := h) (n := n) hx hi j hm (by simpa using hj) rfl
  rw [List.getElem_range] at this
  exact this

def freTo (n : Nat) : Nat → Int
  | 0 => -1
  | d + 1 => if dig3 n d = 0 then (d : Int) else freTo n d
theorem freTo_lt (n : Nat) : ∀ d, -1 ≤ freTo n d ∧ freTo n d < d
  | 0 => by simp [freTo]
  | d + 1 => by
    have := freTo_lt n d
    simp only [freTo]
    split <;> omega
theorem freTo_neg (n : Nat) : ∀ d, freTo n d < 0 → ∀ i, i < d → dig3 n i ≠ 0
  | 0, _, i, h => by omega
  | d + 1, h, i, hi => by
    simp only [freTo] at h
    split at h
    · omega
    · rename_i hd
      by_cases e : i = d
      · subst e; exact hd
      · exact freTo_neg n d h i (by omega)
theorem freTo_pos (n : Nat) : ∀ d, 0 ≤ freTo n d → dig3 n (freTo n d).toNat = 0
  | 0, h => by simp [freTo] at h
  | d + 1, h => by
    simp only [freTo] at h ⊢
    split
    · rename_i hd; simpa using hd
    · rename_i hd; rw [if_neg hd] at h; exact freTo_pos n d h
theorem shl1i (d : Nat) (hd : d < 62) : IntKind.i64.wrap (1 * 2 ^ (min (d : Int).toNat IntKind.i64.bits)) = ((2 ^ d : Nat) : Int) := shl1 d hd
def impT (k : Nat) (ok : Nat → Bool) (j i : Nat) : Bool := decide (j ≤ i) && impV k ok i
set_option maxHeartbeats 8000000 in
theorem implicants_spec (k : Nat) (ok : Nat → Bool) (fl : Bool) (hk : k ≤ 8) : Spec Tryd.prog 92 [.vec (bolR (2 ^ k) ok) fl, .val (.int .i64 (k : Int))] (· = .vec (bolR (3 ^ k) (impV k ok)) false) := by
  have h3 : 3 ^ k ≤ 6561 := Nat.le_trans (Nat.pow_le_pow_right (by decide) hk) (by decide)
  have h2 : 2 ^ k ≤ 256 := Nat.le_trans (Nat.pow_le_pow_right (by decide) hk) (by decide)
  have hpos := pow3_pos k
  refine spec_intro ok92 (Nat.le_of_ble_eq_true rfl) fun C hC => ?_
  repeat' (first|refine aw_seq ?_|refine aw_region ?_|refine aw_draw [] ?_|refine opsK_done ?_|refine opsK_on rfl ?_|refine opsK_off rfl ?_|(refine opsK_bool rfl rfl rfl (fun hb=>?_) (fun hb=>?_)<;>try cases hb)|refine opsK_of rfl rfl rfl ?_|refine opsK_new rfl rfl rfl ?_|refine dK_done ?_|refine dK_on rfl ?_|refine dK_off ⟨_,rfl,nofun⟩ ?_|(refine dK_bool rfl rfl rfl (fun hb=>?_) (fun hb=>?_)<;>try cases hb)|refine dK_of rfl rfl rfl ?_|refine aw_condT rfl ?_|refine aw_condF rfl ?_|(refine aw_cond rfl (fun hb=>?_) (fun hb=>?_)<;>try cases hb)|refine aw_block ?_|refine aw_skip ?_|refine aw_exit ?_|refine aw_ret ?_)
  refine opsK_eq (power_spec k (by omega)) rfl rfl rfl ⟨trivial, trivial⟩ rfl ?_
  refine opsK_new (E_mslice (a := 3 ^ k) (b := 3 ^ k) rfl rfl (Nat.le_refl _) (by omega)) rfl rfl ?_
  rw [bolR_rep]
  repeat' (first|refine aw_seq ?_|refine aw_region ?_|refine aw_draw [] ?_|refine opsK_done ?_|refine opsK_on rfl ?_|refine opsK_off rfl ?_|(refine opsK_bool rfl rfl rfl (fun hb=>?_) (fun hb=>?_)<;>try cases hb)|refine opsK_of rfl rfl rfl ?_|refine opsK_new rfl rfl rfl ?_|refine dK_done ?_|refine dK_on rfl ?_|refine dK_off ⟨_,rfl,nofun⟩ ?_|(refine dK_bool rfl rfl rfl (fun hb=>?_) (fun hb=>?_)<;>try cases hb)|refine dK_of rfl rfl rfl ?_|refine aw_condT rfl ?_|refine aw_condF rfl ?_|(refine aw_cond rfl (fun hb=>?_) (fun hb=>?_)<;>try cases hb)|refine aw_block ?_|refine aw_skip ?_|refine aw_exit ?_|refine aw_ret ?_)
  refine opsK_eq (power_spec k (by omega)) rfl rfl rfl ⟨trivial, trivial⟩ rfl ?_
  repeat' (first|refine aw_seq ?_|refine aw_region ?_|refine aw_draw [] ?_|refine opsK_done ?_|refine opsK_on rfl ?_|refine opsK_off rfl ?_|(refine opsK_bool rfl rfl rfl (fun hb=>?_) (fun hb=>?_)<;>try cases hb)|refine opsK_of rfl rfl rfl ?_|refine opsK_new rfl rfl rfl ?_|refine dK_done ?_|refine dK_on rfl ?_|refine dK_off ⟨_,rfl,nofun⟩ ?_|(refine dK_bool rfl rfl rfl (fun hb=>?_) (fun hb=>?_)<;>try cases hb)|refine dK_of rfl rfl rfl ?_|refine aw_condT rfl ?_|refine aw_condF rfl ?_|(refine aw_cond rfl (fun hb=>?_) (fun hb=>?_)<;>try cases hb)|refine aw_block ?_|refine aw_skip ?_|refine aw_exit ?_|refine aw_ret ?_)
  have hsub : IntKind.i64.wrap (((3 ^ k : Nat) : Int) - 1) = ((3 ^ k : Nat) : Int) - 1 := IntWalk.i64_in _ ⟨by omega, by omega⟩
  refine aw_loopH hC (fun j => j ≤ 3 ^ k) (fun j => j) 1 (fun j => [(0, .vec (bolR (2 ^ k) ok) fl), (1, .val (.int .i64 (k : Int))), (5, .own 0), (6, .val (.int .i64 ((j : Int) - 1)))]) (fun j => [(0, ⟨1, bolR (3 ^ k) (impT k ok j)⟩)]) (Nat.zero_le _) (3 ^ k) (Nat.le_refl _)
    ⟨⟨rfl, bolR_inn _ _ _⟩, ⟨rfl, trivial⟩, ⟨rfl, show (0 : Nat) < 1 by decide⟩, ⟨by show some _ = some _; rw [hsub], trivial⟩, trivial⟩ ⟨⟨by decide, by rw [show impT k ok (3 ^ k) = impT k ok (3 ^ k) from rfl]; show some _ = some _; rw [bolR_congr (p := fun _ => false) (q := impT k ok (3 ^ k)) fun i hi => by unfold impT; rw [decide_eq_false (by omega)]; rfl]; rfl, bolR_inn _ _ _⟩, trivial⟩ ?_
  intro j hj
  iterate 4 (first|refine aw_seq ?_|refine aw_region ?_|refine aw_draw [] ?_|refine opsK_done ?_|refine opsK_on rfl ?_|refine opsK_off rfl ?_|(refine opsK_bool rfl rfl rfl (fun hb=>?_) (fun hb=>?_)<;>try cases hb)|refine opsK_of rfl rfl rfl ?_|refine opsK_new rfl rfl rfl ?_|refine dK_done ?_|refine dK_on rfl ?_|refine dK_off ⟨_,rfl,nofun⟩ ?_|(refine dK_bool rfl rfl rfl (fun hb=>?_) (fun hb=>?_)<;>try cases hb)|refine dK_of rfl rfl rfl ?_|refine aw_condT rfl ?_|refine aw_condF rfl ?_|(refine aw_cond rfl (fun hb=>?_) (fun hb=>?_)<;>try cases hb)|refine aw_block ?_|refine aw_skip ?_|refine aw_exit ?_|refine aw_ret ?_)
  refine opsK_bool rfl rfl rfl (fun hb => ?_) (fun hb => ?_)
  · have hj1 : 1 ≤ j := by have := of_decide_eq_true hb; omega
    clear hb
    obtain ⟨n, rfl⟩ : ∃ n, j = n + 1 := ⟨j - 1, by omega⟩
    have hn : n < 3 ^ k := by omega
    rw [show ((n + 1 : Nat) : Int) - 1 = (n : Int) by omega]
    repeat' (first|refine aw_seq ?_|refine aw_region ?_|refine aw_draw [] ?_|refine opsK_done ?_|refine opsK_on rfl ?_|refine opsK_off rfl ?_|(refine opsK_bool rfl rfl rfl (fun hb=>?_) (fun hb=>?_)<;>try cases hb)|refine opsK_of rfl rfl rfl ?_|refine opsK_new rfl rfl rfl ?_|refine dK_done ?_|refine dK_on rfl ?_|refine dK_off ⟨_,rfl,nofun⟩ ?_|(refine dK_bool rfl rfl rfl (fun hb=>?_) (fun hb=>?_)<;>try cases hb)|refine dK_of rfl rfl rfl ?_|refine aw_condT rfl ?_|refine aw_condF rfl ?_|(refine aw_cond rfl (fun hb=>?_) (fun hb=>?_)<;>try cases hb)|refine aw_block ?_|refine aw_skip ?_|refine aw_exit ?_|refine aw_ret ?_)
    refine aw_loopH hC (fun d => d ≤ k) (fun d => k - d) 1 (fun d => [(0, .vec (bolR (2 ^ k) ok) fl), (1, .val (.int .i64 (k : Int))), (5, .own 0), (6, .val (.int .i64 (n : Int))), (7, .val (.int .i64 (ysK d n : Nat))), (8, .val (.int .i64 (freTo n d))), (9, .val (.int .i64 (d : Int)))]) (fun _ => [(0, ⟨1, bolR (3 ^ k) (impT k ok (n + 1))⟩)]) (Nat.zero_le _) 0 (Nat.zero_le _)
      ⟨⟨rfl, bolR_inn _ _ _⟩, ⟨rfl, trivial⟩, ⟨rfl, show (0 : Nat) < 1 by decide⟩, ⟨rfl, trivial⟩, ⟨rfl, trivial⟩, ⟨rfl, trivial⟩, ⟨rfl, trivial⟩, trivial⟩ ⟨⟨by decide, rfl, bolR_inn _ _ _⟩, trivial⟩ ?_
    intro d hd
    have hinc : IntKind.i64.wrap ((d : Int) + 1) = ((d + 1 : Nat) : Int) := IntWalk.i64_in _ ⟨by omega, by omega⟩
    have hyd := ysK_lt d n
    have h2d : 2 ^ d ≤ 256 := Nat.le_trans (Nat.pow_le_pow_right (by decide) (show d ≤ 8 by omega)) (by decide)
    iterate 5 (first|refine aw_seq ?_|refine aw_region ?_|refine aw_draw [] ?_|refine opsK_done ?_|refine opsK_on rfl ?_|refine opsK_off rfl ?_|(refine opsK_bool rfl rfl rfl (fun hb=>?_) (fun hb=>?_)<;>try cases hb)|refine opsK_of rfl rfl rfl ?_|refine opsK_new rfl rfl rfl ?_|refine dK_done ?_|refine dK_on rfl ?_|refine dK_off ⟨_,rfl,nofun⟩ ?_|(refine dK_bool rfl rfl rfl (fun hb=>?_) (fun hb=>?_)<;>try cases hb)|refine dK_of rfl rfl rfl ?_|refine aw_condT rfl ?_|refine aw_condF rfl ?_|(refine aw_cond rfl (fun hb=>?_) (fun hb=>?_)<;>try cases hb)|refine aw_block ?_|refine aw_skip ?_|refine aw_exit ?_|refine aw_ret ?_)
    refine opsK_bool rfl rfl rfl (fun hb => ?_) (fun hb => ?_)
    · have hdk : d < k := by have := of_decide_eq_true hb; omega
      clear hb
      have htop := ysK_top d n
      have h3d := dig3_lt n d
      repeat' (first|refine aw_seq ?_|refine aw_region ?_|refine aw_draw [] ?_|refine opsK_done ?_|refine opsK_on rfl ?_|refine opsK_off rfl ?_|(refine opsK_bool rfl rfl rfl (fun hb=>?_) (fun hb=>?_)<;>try cases hb)|refine opsK_of rfl rfl rfl ?_|refine opsK_new rfl rfl rfl ?_|refine dK_done ?_|refine dK_on rfl ?_|refine dK_off ⟨_,rfl,nofun⟩ ?_|(refine dK_bool rfl rfl rfl (fun hb=>?_) (fun hb=>?_)<;>try cases hb)|refine dK_of rfl rfl rfl ?_|refine aw_condT rfl ?_|refine aw_condF rfl ?_|(refine aw_cond rfl (fun hb=>?_) (fun hb=>?_)<;>try cases hb)|refine aw_block ?_|refine aw_skip ?_|refine aw_exit ?_|refine aw_ret ?_)
      refine opsK_eq (digit_spec n d (by omega) (by omega)) rfl rfl rfl ⟨trivial, trivial, trivial⟩ rfl ?_
      have hcase : dig3 n d = 0 ∨ dig3 n d = 1 ∨ dig3 n d = 2 := by omega
      rcases hcase with e | e | e
      · rw [e] at htop ⊢
        rw [if_neg (by decide), Nat.add_zero] at htop
        repeat' (first|refine aw_seq ?_|refine aw_region ?_|refine aw_draw [] ?_|refine opsK_done ?_|refine opsK_on rfl ?_|refine opsK_off rfl ?_|(refine opsK_bool rfl rfl rfl (fun hb=>?_) (fun hb=>?_)<;>try cases hb)|refine opsK_of rfl rfl rfl ?_|refine opsK_new rfl rfl rfl ?_|refine dK_done ?_|refine dK_on rfl ?_|refine dK_off ⟨_,rfl,nofun⟩ ?_|(refine dK_bool rfl rfl rfl (fun hb=>?_) (fun hb=>?_)<;>try cases hb)|refine dK_of rfl rfl rfl ?_|refine aw_condT rfl ?_|refine aw_condF rfl ?_|(refine aw_cond rfl (fun hb=>?_) (fun hb=>?_)<;>try cases hb)|refine aw_block ?_|refine aw_skip ?_|refine aw_exit ?_|refine aw_ret ?_)
        exact ⟨d + 1, by omega, by omega, ⟨⟨rfl, bolR_inn _ _ _⟩, ⟨rfl, trivial⟩, ⟨rfl, show (0 : Nat) < 1 by decide⟩, ⟨rfl, trivial⟩, ⟨by rw [htop]; rfl, trivial⟩, ⟨by rw [freTo, if_pos e]; rfl, trivial⟩, ⟨by show some _ = some _; rw [hinc], trivial⟩, trivial⟩, ⟨⟨by decide, rfl, bolR_inn _ _ _⟩, trivial⟩⟩
      · rw [e] at htop ⊢
        rw [if_pos rfl] at htop
        have hadd : IntKind.i64.wrap (((ysK d n : Nat) : Int) + IntKind.i64.wrap (1 * 2 ^ (min (d : Int).toNat IntKind.i64.bits))) = ((ysK (d + 1) n : Nat) : Int) := by
          rw [shl1i d (by omega), htop]
          generalize 2 ^ d = q at *
          rw [IntWalk.i64_in _ ⟨by omega, by omega⟩]; omega
        repeat' (first|refine aw_seq ?_|refine aw_region ?_|refine aw_draw [] ?_|refine opsK_done ?_|refine opsK_on rfl ?_|refine opsK_off rfl ?_|(refine opsK_bool rfl rfl rfl (fun hb=>?_) (fun hb=>?_)<;>try cases hb)|refine opsK_of rfl rfl rfl ?_|refine opsK_new rfl rfl rfl ?_|refine dK_done ?_|refine dK_on rfl ?_|refine dK_off ⟨_,rfl,nofun⟩ ?_|(refine dK_bool rfl rfl rfl (fun hb=>?_) (fun hb=>?_)<;>try cases hb)|refine dK_of rfl rfl rfl ?_|refine aw_condT rfl ?_|refine aw_condF rfl ?_|(refine aw_cond rfl (fun hb=>?_) (fun hb=>?_)<;>try cases hb)|refine aw_block ?_|refine aw_skip ?_|refine aw_exit ?_|refine aw_ret ?_)
        exact ⟨d + 1, by omega, by omega, ⟨⟨rfl, bolR_inn _ _ _⟩, ⟨rfl, trivial⟩, ⟨rfl, show (0 : Nat) < 1 by decide⟩, ⟨rfl, trivial⟩, ⟨by rw [← hadd]; rfl, trivial⟩, ⟨by rw [freTo, if_neg (by omega)]; rfl, trivial⟩, ⟨by show some _ = some _; rw [hinc], trivial⟩, trivial⟩, ⟨⟨by decide, rfl, bolR_inn _ _ _⟩, trivial⟩⟩
      · rw [e] at htop ⊢
        rw [if_neg (by decide), Nat.add_zero] at htop
        repeat' (first|refine aw_seq ?_|refine aw_region ?_|refine aw_draw [] ?_|refine opsK_done ?_|refine opsK_on rfl ?_|refine opsK_off rfl ?_|(refine opsK_bool rfl rfl rfl (fun hb=>?_) (fun hb=>?_)<;>try cases hb)|refine opsK_of rfl rfl rfl ?_|refine opsK_new rfl rfl rfl ?_|refine dK_done ?_|refine dK_on rfl ?_|refine dK_off ⟨_,rfl,nofun⟩ ?_|(refine dK_bool rfl rfl rfl (fun hb=>?_) (fun hb=>?_)<;>try cases hb)|refine dK_of rfl rfl rfl ?_|refine aw_condT rfl ?_|refine aw_condF rfl ?_|(refine aw_cond rfl (fun hb=>?_) (fun hb=>?_)<;>try cases hb)|refine aw_block ?_|refine aw_skip ?_|refine aw_exit ?_|refine aw_ret ?_)
        exact ⟨d + 1, by omega, by omega, ⟨⟨rfl, bolR_inn _ _ _⟩, ⟨rfl, trivial⟩, ⟨rfl, show (0 : Nat) < 1 by decide⟩, ⟨rfl, trivial⟩, ⟨by rw [htop]; rfl, trivial⟩, ⟨by rw [freTo, if_neg (by omega)]; rfl, trivial⟩, ⟨by show some _ = some _; rw [hinc], trivial⟩, trivial⟩, ⟨⟨by decide, rfl, bolR_inn _ _ _⟩, trivial⟩⟩
    · have hdk : d = k := by have := of_decide_eq_false hb; omega
      subst hdk
      clear hb
      have hdec : IntKind.i64.wrap ((n : Int) - 1) = (n : Int) - 1 := IntWalk.i64_in _ ⟨by omega, by omega⟩
      have hfr := freTo_lt n d
      have hset : (bolR (3 ^ d) (impT d ok (n + 1))).set n (bolC (impV d ok n)) = bolR (3 ^ d) (impT d ok n) := by
        rw [bolR_set]
        refine bolR_congr fun i hi => ?_
        unfold impT
        by_cases e : i = n
        · subst e; simp
        · rw [if_neg e]
          congr 1
          exact decide_eq_decide.2 (by omega)
      generalize hfd : freTo n d = fr at *
      repeat' (first|refine aw_seq ?_|refine aw_region ?_|refine aw_draw [] ?_|refine opsK_done ?_|refine opsK_on rfl ?_|refine opsK_off rfl ?_|(refine opsK_bool rfl rfl rfl (fun hb=>?_) (fun hb=>?_)<;>try cases hb)|refine opsK_of rfl rfl rfl ?_|refine opsK_new rfl rfl rfl ?_|refine dK_done ?_|refine dK_on rfl ?_|refine dK_off ⟨_,rfl,nofun⟩ ?_|(refine dK_bool rfl rfl rfl (fun hb=>?_) (fun hb=>?_)<;>try cases hb)|refine dK_of rfl rfl rfl ?_|refine aw_condT rfl ?_|refine aw_condF rfl ?_|(refine aw_cond rfl (fun hb=>?_) (fun hb=>?_)<;>try cases hb)|refine aw_block ?_|refine aw_skip ?_|refine aw_exit ?_|refine aw_ret ?_)
      · have hneg : fr < 0 := of_decide_eq_true hb
        clear hb
        have hval := impV_full (k := d) (n := n) ok (freTo_neg n d (by rw [hfd]; exact hneg))
        refine opsK_of (E_bol rfl rfl (ysK d n) rfl (ysK_lt d n)) rfl rfl ?_
        generalize ok (ysK d n) = v at *
        cases v
        all_goals
          repeat' (first|refine aw_seq ?_|refine aw_region ?_|refine aw_draw [] ?_|refine opsK_done ?_|refine opsK_on rfl ?_|refine opsK_off rfl ?_|(refine opsK_bool rfl rfl rfl (fun hb=>?_) (fun hb=>?_)<;>try cases hb)|refine opsK_of rfl rfl rfl ?_|refine opsK_new rfl rfl rfl ?_|refine dK_done ?_|refine dK_on rfl ?_|refine dK_off ⟨_,rfl,nofun⟩ ?_|(refine dK_bool rfl rfl rfl (fun hb=>?_) (fun hb=>?_)<;>try cases hb)|refine dK_of rfl rfl rfl ?_|refine aw_condT rfl ?_|refine aw_condF rfl ?_|(refine aw_cond rfl (fun hb=>?_) (fun hb=>?_)<;>try cases hb)|refine aw_block ?_|refine aw_skip ?_|refine aw_exit ?_|refine aw_ret ?_)
          refine opsK_of (E_iaddrO rfl rfl rfl n rfl (by rw [bolR_length]; exact hn) rfl) rfl rfl ?_
          refine opsK_of (E_store (i := n) rfl rfl rfl rfl rfl (by rw [bolR_length]; exact hn) (Nat.le_refl _)) rfl rfl ?_
          repeat' (first|refine aw_seq ?_|refine aw_region ?_|refine aw_draw [] ?_|refine opsK_done ?_|refine opsK_on rfl ?_|refine opsK_off rfl ?_|(refine opsK_bool rfl rfl rfl (fun hb=>?_) (fun hb=>?_)<;>try cases hb)|refine opsK_of rfl rfl rfl ?_|refine opsK_new rfl rfl rfl ?_|refine dK_done ?_|refine dK_on rfl ?_|refine dK_off ⟨_,rfl,nofun⟩ ?_|(refine dK_bool rfl rfl rfl (fun hb=>?_) (fun hb=>?_)<;>try cases hb)|refine dK_of rfl rfl rfl ?_|refine aw_condT rfl ?_|refine aw_condF rfl ?_|(refine aw_cond rfl (fun hb=>?_) (fun hb=>?_)<;>try cases hb)|refine aw_block ?_|refine aw_skip ?_|refine aw_exit ?_|refine aw_ret ?_)
          refine ⟨n, by omega, by omega, ⟨⟨rfl, bolR_inn _ _ _⟩, ⟨rfl, trivial⟩, ⟨rfl, show (0 : Nat) < 1 by decide⟩, ⟨by show some _ = some _; rw [hdec], trivial⟩, trivial⟩, ⟨⟨by decide, ?_, bolR_inn _ _ _⟩, trivial⟩⟩
          show some _ = some _
          rw [← hset, hval, bolR_get _ hn]
          rfl
      · have hnn : 0 ≤ fr := by have := of_decide_eq_false hb; omega
        clear hb
        obtain ⟨f, rfl⟩ : ∃ f : Nat, fr = (f : Int) := ⟨fr.toNat, by omega⟩
        have hf0 : dig3 n f = 0 := by have := freTo_pos n d (by rw [hfd]; omega); rw [hfd] at this; simpa using this
        have hfk : f < d := by omega
        have hval := impV_split (k := d) (n := n) ok hfk hf0
        have hb1 := dig_bound hn hfk hf0 (c := 1) (by decide)
        have hb2 := dig_bound hn hfk hf0 (c := 2) (by decide)
        have hpf := pow3_pos f
        have ha1 : IntKind.i64.wrap ((n : Int) + ((3 ^ f : Nat) : Int)) = ((n + 1 * 3 ^ f : Nat) : Int) := by
          generalize 3 ^ f = q at *
          rw [IntWalk.i64_in _ ⟨by omega, by omega⟩]; omega
        have ha2 : IntKind.i64.wrap ((n : Int) + IntKind.i64.wrap (2 * ((3 ^ f : Nat) : Int))) = ((n + 2 * 3 ^ f : Nat) : Int) := by
          generalize 3 ^ f = q at *
          rw [IntWalk.i64_in (2 * (q : Int)) ⟨by omega, by omega⟩, IntWalk.i64_in _ ⟨by omega, by omega⟩]; omega
        have ht1 : impT d ok (n + 1) (n + 1 * 3 ^ f) = impV d ok (n + 1 * 3 ^ f) := by unfold impT; rw [decide_eq_true (by omega)]; rfl
        have ht2 : impT d ok (n + 1) (n + 2 * 3 ^ f) = impV d ok (n + 2 * 3 ^ f) := by unfold impT; rw [decide_eq_true (by omega)]; rfl
        refine opsK_eq (power_spec f (by omega)) rfl rfl rfl ⟨trivial, trivial⟩ rfl ?_
        refine opsK_of (E_int rfl ha1) rfl rfl ?_
        refine opsK_of (E_iaddrO rfl rfl rfl (n + 1 * 3 ^ f) rfl (by rw [bolR_length]; exact hb1) rfl) rfl rfl ?_
        refine opsK_of (E_load rfl rfl (by rw [bolR_length]; exact hb1) (by rw [bolR_get _ hb1, ht1]; rfl)) rfl rfl ?_
        generalize impV d ok (n + 1 * 3 ^ f) = v1 at *
        cases v1
        · repeat' (first|refine aw_seq ?_|refine aw_region ?_|refine aw_draw [] ?_|refine opsK_done ?_|refine opsK_on rfl ?_|refine opsK_off rfl ?_|(refine opsK_bool rfl rfl rfl (fun hb=>?_) (fun hb=>?_)<;>try cases hb)|refine opsK_of rfl rfl rfl ?_|refine opsK_new rfl rfl rfl ?_|refine dK_done ?_|refine dK_on rfl ?_|refine dK_off ⟨_,rfl,nofun⟩ ?_|(refine dK_bool rfl rfl rfl (fun hb=>?_) (fun hb=>?_)<;>try cases hb)|refine dK_of rfl rfl rfl ?_|refine aw_condT rfl ?_|refine aw_condF rfl ?_|(refine aw_cond rfl (fun hb=>?_) (fun hb=>?_)<;>try cases hb)|refine aw_block ?_|refine aw_skip ?_|refine aw_exit ?_|refine aw_ret ?_)
          refine opsK_of (E_iaddrO rfl rfl rfl n rfl (by rw [bolR_length]; exact hn) rfl) rfl rfl ?_
          refine opsK_of (E_store (i := n) rfl rfl rfl rfl rfl (by rw [bolR_length]; exact hn) (Nat.le_refl _)) rfl rfl ?_
          repeat' (first|refine aw_seq ?_|refine aw_region ?_|refine aw_draw [] ?_|refine opsK_done ?_|refine opsK_on rfl ?_|refine opsK_off rfl ?_|(refine opsK_bool rfl rfl rfl (fun hb=>?_) (fun hb=>?_)<;>try cases hb)|refine opsK_of rfl rfl rfl ?_|refine opsK_new rfl rfl rfl ?_|refine dK_done ?_|refine dK_on rfl ?_|refine dK_off ⟨_,rfl,nofun⟩ ?_|(refine dK_bool rfl rfl rfl (fun hb=>?_) (fun hb=>?_)<;>try cases hb)|refine dK_of rfl rfl rfl ?_|refine aw_condT rfl ?_|refine aw_condF rfl ?_|(refine aw_cond rfl (fun hb=>?_) (fun hb=>?_)<;>try cases hb)|refine aw_block ?_|refine aw_skip ?_|refine aw_exit ?_|refine aw_ret ?_)
          refine ⟨n, by omega, by omega, ⟨⟨rfl, bolR_inn _ _ _⟩, ⟨rfl, trivial⟩, ⟨rfl, show (0 : Nat) < 1 by decide⟩, ⟨by show some _ = some _; rw [hdec], trivial⟩, trivial⟩, ⟨⟨by decide, ?_, bolR_inn _ _ _⟩, trivial⟩⟩
          show some _ = some _
          rw [← hset, hval, bolR_get _ hn]
          rfl
        · repeat' (first|refine aw_seq ?_|refine aw_region ?_|refine aw_draw [] ?_|refine opsK_done ?_|refine opsK_on rfl ?_|refine opsK_off rfl ?_|(refine opsK_bool rfl rfl rfl (fun hb=>?_) (fun hb=>?_)<;>try cases hb)|refine opsK_of rfl rfl rfl ?_|refine opsK_new rfl rfl rfl ?_|refine dK_done ?_|refine dK_on rfl ?_|refine dK_off ⟨_,rfl,nofun⟩ ?_|(refine dK_bool rfl rfl rfl (fun hb=>?_) (fun hb=>?_)<;>try cases hb)|refine dK_of rfl rfl rfl ?_|refine aw_condT rfl ?_|refine aw_condF rfl ?_|(refine aw_cond rfl (fun hb=>?_) (fun hb=>?_)<;>try cases hb)|refine aw_block ?_|refine aw_skip ?_|refine aw_exit ?_|refine aw_ret ?_)
          refine opsK_eq (power_spec f (by omega)) rfl rfl rfl ⟨trivial, trivial⟩ rfl ?_
          (first|refine aw_seq ?_|refine aw_region ?_|refine aw_draw [] ?_|refine opsK_done ?_|refine opsK_on rfl ?_|refine opsK_off rfl ?_|(refine opsK_bool rfl rfl rfl (fun hb=>?_) (fun hb=>?_)<;>try cases hb)|refine opsK_of rfl rfl rfl ?_|refine opsK_new rfl rfl rfl ?_|refine dK_done ?_|refine dK_on rfl ?_|refine dK_off ⟨_,rfl,nofun⟩ ?_|(refine dK_bool rfl rfl rfl (fun hb=>?_) (fun hb=>?_)<;>try cases hb)|refine dK_of rfl rfl rfl ?_|refine aw_condT rfl ?_|refine aw_condF rfl ?_|(refine aw_cond rfl (fun hb=>?_) (fun hb=>?_)<;>try cases hb)|refine aw_block ?_|refine aw_skip ?_|refine aw_exit ?_|refine aw_ret ?_)
          (first|refine aw_seq ?_|refine aw_region ?_|refine aw_draw [] ?_|refine opsK_done ?_|refine opsK_on rfl ?_|refine opsK_off rfl ?_|(refine opsK_bool rfl rfl rfl (fun hb=>?_) (fun hb=>?_)<;>try cases hb)|refine opsK_of rfl rfl rfl ?_|refine opsK_new rfl rfl rfl ?_|refine dK_done ?_|refine dK_on rfl ?_|refine dK_off ⟨_,rfl,nofun⟩ ?_|(refine dK_bool rfl rfl rfl (fun hb=>?_) (fun hb=>?_)<;>try cases hb)|refine dK_of rfl rfl rfl ?_|refine aw_condT rfl ?_|refine aw_condF rfl ?_|(refine aw_cond rfl (fun hb=>?_) (fun hb=>?_)<;>try cases hb)|refine aw_block ?_|refine aw_skip ?_|refine aw_exit ?_|refine aw_ret ?_)
          (first|refine aw_seq ?_|refine aw_region ?_|refine aw_draw [] ?_|refine opsK_done ?_|refine opsK_on rfl ?_|refine opsK_off rfl ?_|(refine opsK_bool rfl rfl rfl (fun hb=>?_) (fun hb=>?_)<;>try cases hb)|refine opsK_of rfl rfl rfl ?_|refine opsK_new rfl rfl rfl ?_|refine dK_done ?_|refine dK_on rfl ?_|refine dK_off ⟨_,rfl,nofun⟩ ?_|(refine dK_bool rfl rfl rfl (fun hb=>?_) (fun hb=>?_)<;>try cases hb)|refine dK_of rfl rfl rfl ?_|refine aw_condT rfl ?_|refine aw_condF rfl ?_|(refine aw_cond rfl (fun hb=>?_) (fun hb=>?_)<;>try cases hb)|refine aw_block ?_|refine aw_skip ?_|refine aw_exit ?_|refine aw_ret ?_)
          refine opsK_of (E_int rfl ha2) rfl rfl ?_
          (first|refine aw_seq ?_|refine aw_region ?_|refine aw_draw [] ?_|refine opsK_done ?_|refine opsK_on rfl ?_|refine opsK_off rfl ?_|(refine opsK_bool rfl rfl rfl (fun hb=>?_) (fun hb=>?_)<;>try cases hb)|refine opsK_of rfl rfl rfl ?_|refine opsK_new rfl rfl rfl ?_|refine dK_done ?_|refine dK_on rfl ?_|refine dK_off ⟨_,rfl,nofun⟩ ?_|(refine dK_bool rfl rfl rfl (fun hb=>?_) (fun hb=>?_)<;>try cases hb)|refine dK_of rfl rfl rfl ?_|refine aw_condT rfl ?_|refine aw_condF rfl ?_|(refine aw_cond rfl (fun hb=>?_) (fun hb=>?_)<;>try cases hb)|refine aw_block ?_|refine aw_skip ?_|refine aw_exit ?_|refine aw_ret ?_)
          refine opsK_of (E_iaddrO rfl rfl rfl (n + 2 * 3 ^ f) rfl (by rw [bolR_length]; exact hb2) rfl) rfl rfl ?_
          (first|refine aw_seq ?_|refine aw_region ?_|refine aw_draw [] ?_|refine opsK_done ?_|refine opsK_on rfl ?_|refine opsK_off rfl ?_|(refine opsK_bool rfl rfl rfl (fun hb=>?_) (fun hb=>?_)<;>try cases hb)|refine opsK_of rfl rfl rfl ?_|refine opsK_new rfl rfl rfl ?_|refine dK_done ?_|refine dK_on rfl ?_|refine dK_off ⟨_,rfl,nofun⟩ ?_|(refine dK_bool rfl rfl rfl (fun hb=>?_) (fun hb=>?_)<;>try cases hb)|refine dK_of rfl rfl rfl ?_|refine aw_condT rfl ?_|refine aw_condF rfl ?_|(refine aw_cond rfl (fun hb=>?_) (fun hb=>?_)<;>try cases hb)|refine aw_block ?_|refine aw_skip ?_|refine aw_exit ?_|refine aw_ret ?_)
          refine opsK_of (E_load rfl rfl (by rw [bolR_length]; exact hb2) (by rw [bolR_get _ hb2, ht2]; rfl)) rfl rfl ?_
          generalize impV d ok (n + 2 * 3 ^ f) = v2 at *
          cases v2
          all_goals
            repeat' (first|refine aw_seq ?_|refine aw_region ?_|refine aw_draw [] ?_|refine opsK_done ?_|refine opsK_on rfl ?_|refine opsK_off rfl ?_|(refine opsK_bool rfl rfl rfl (fun hb=>?_) (fun hb=>?_)<;>try cases hb)|refine opsK_of rfl rfl rfl ?_|refine opsK_new rfl rfl rfl ?_|refine dK_done ?_|refine dK_on rfl ?_|refine dK_off ⟨_,rfl,nofun⟩ ?_|(refine dK_bool rfl rfl rfl (fun hb=>?_) (fun hb=>?_)<;>try cases hb)|refine dK_of rfl rfl rfl ?_|refine aw_condT rfl ?_|refine aw_condF rfl ?_|(refine aw_cond rfl (fun hb=>?_) (fun hb=>?_)<;>try cases hb)|refine aw_block ?_|refine aw_skip ?_|refine aw_exit ?_|refine aw_ret ?_)
            refine opsK_of (E_iaddrO rfl rfl rfl n rfl (by rw [bolR_length]; exact hn) rfl) rfl rfl ?_
            refine opsK_of (E_store (i := n) rfl rfl rfl rfl rfl (by rw [bolR_length]; exact hn) (Nat.le_refl _)) rfl rfl ?_
            repeat' (first|refine aw_seq ?_|refine aw_region ?_|refine aw_draw [] ?_|refine opsK_done ?_|refine opsK_on rfl ?_|refine opsK_off rfl ?_|(refine opsK_bool rfl rfl rfl (fun hb=>?_) (fun hb=>?_)<;>try cases hb)|refine opsK_of rfl rfl rfl ?_|refine opsK_new rfl rfl rfl ?_|refine dK_done ?_|refine dK_on rfl ?_|refine dK_off ⟨_,rfl,nofun⟩ ?_|(refine dK_bool rfl rfl rfl (fun hb=>?_) (fun hb=>?_)<;>try cases hb)|refine dK_of rfl rfl rfl ?_|refine aw_condT rfl ?_|refine aw_condF rfl ?_|(refine aw_cond rfl (fun hb=>?_) (fun hb=>?_)<;>try cases hb)|refine aw_block ?_|refine aw_skip ?_|refine aw_exit ?_|refine aw_ret ?_)
            refine ⟨n, by omega, by omega, ⟨⟨rfl, bolR_inn _ _ _⟩, ⟨rfl, trivial⟩, ⟨rfl, show (0 : Nat) < 1 by decide⟩, ⟨by show some _ = some _; rw [hdec], trivial⟩, trivial⟩, ⟨⟨by decide, ?_, bolR_inn _ _ _⟩, trivial⟩⟩
            show some _ = some _
            rw [← hset, hval, bolR_get _ hn]
            rfl
  · have hj0 : j = 0 := by have := of_decide_eq_false hb; omega
    subst hj0
    clear hb
    have hfin : bolR (3 ^ k) (impT k ok 0) = bolR (3 ^ k) (impV k ok) := bolR_congr fun i _ => by unfold impT; rw [decide_eq_true (Nat.zero_le _)]; rfl
    rw [hfin]
    repeat' (first | refine opsK_sub (subA_freeze (k := 5) rfl rfl (bolR_pure _ _)) ?_ | (first|refine aw_seq ?_|refine aw_region ?_|refine aw_draw [] ?_|refine opsK_done ?_|refine opsK_on rfl ?_|refine opsK_off rfl ?_|(refine opsK_bool rfl rfl rfl (fun hb=>?_) (fun hb=>?_)<;>try cases hb)|refine opsK_of rfl rfl rfl ?_|refine opsK_new rfl rfl rfl ?_|refine dK_done ?_|refine dK_on rfl ?_|refine dK_off ⟨_,rfl,nofun⟩ ?_|(refine dK_bool rfl rfl rfl (fun hb=>?_) (fun hb=>?_)<;>try cases hb)|refine dK_of rfl rfl rfl ?_|refine aw_condT rfl ?_|refine aw_condF rfl ?_|(refine aw_cond rfl (fun hb=>?_) (fun hb=>?_)<;>try cases hb)|refine aw_block ?_|refine aw_skip ?_|refine aw_exit ?_|refine aw_ret ?_))
    exact ret_ok rfl (bolR_pure _ _) rfl
end Go.Proofs.YtifohjijhhjdkaaDoor

namespace Go.Proofs.YtifohjijhhjdkaaDoor
open Go.RowKit
set_option linter.unusedVariables false
attribute [local irreducible] aw opsK dK

theorem insAll_perm (l : List Cu) : (insAll l).Perm l := by have := (insFold l [] List.Pairwise.nil).1; simpa [insAll] using this
theorem prR_ok {ok : Nat → Bool} {roles : List Nat} (h : ∀ r ∈ roles, r < 64) (j : Nat) {c : Cu} (hc : c ∈ insAll (prR ok roles j)) : Ok64 c := by
  have := (insAll_perm _).mem_iff.1 hc
  obtain ⟨n, hn, rfl⟩ := List.mem_map.1 this
  exact ⟨setM_lt h _, setM_lt h _⟩
theorem prR_len (ok : Nat → Bool) (roles : List Nat) (j : Nat) : (insAll (prR ok roles j)).length ≤ j := by
  rw [(insAll_perm _).length_eq, prR, List.length_map]
  exact Nat.le_trans (List.length_filter_le _ _) (by simp)
def boxI (y n : Int) : Bx := ⟨2, [[.val (.int .u64 y), .val (.int .u64 n)]]⟩
def boxC (y n : Nat) : Bx := ⟨2, [[.val (.int .u64 (y : Int)), .val (.int .u64 (n : Int))]]⟩
theorem bit_dig1 {k n d : Nat} (hd : d < k) : (ysK k n).testBit d = decide (dig3 n d = 1) := by rw [ysK_bit]; simp [hd]
theorem bit_dig2 {k n d : Nat} (hd : d < k) : (nsK k n).testBit d = decide (dig3 n d = 2) := by rw [nsK_bit]; simp [hd]
theorem lowLL_ras (l : List Cu) : lowLL (l.map raC) = l.map raC := by simp [lowLL_eq, lowL, PV.low, raC]
theorem sub_dig {n x q : Nat} (hle : x * q ≤ n) (hn : n ≤ 1000000) : IntKind.i64.wrap ((n : Int) - IntKind.i64.wrap ((x : Int) * (q : Int))) = ((n - x * q : Nat) : Int) := by
  rw [← Int.natCast_mul]
  generalize x * q = z at *
  rw [IntWalk.i64_in (z : Int) ⟨by omega, by omega⟩, IntWalk.i64_in _ ⟨by omega, by omega⟩]
  omega
set_option maxHeartbeats 16000000 in
theorem primes19_spec (roles : List Nat) (f1 f2 : Bool) (ok : Nat → Bool) (hr : ∀ r ∈ roles, r < 64) (h8 : roles.length ≤ 8) :
    Spec Tryd.prog 53 [.vec (nums (intsN roles)) f1, .vec (bolR (2 ^ roles.length) ok) f2] (· = .vec ((sortC (prL ok roles)).map raC) false) := by
  have hnl : (nums (intsN roles)).length = roles.length := by simp [nums, intsN]
  obtain ⟨k, hk⟩ : ∃ k, k = roles.length := ⟨_, rfl⟩
  have h3 : 3 ^ k ≤ 6561 := Nat.le_trans (Nat.pow_le_pow_right (by decide) (show k ≤ 8 by omega)) (by decide)
  have hpos := pow3_pos k
  refine spec_intro ok53 (Nat.le_of_ble_eq_true rfl) fun C hC => ?_
  repeat' (first|refine aw_seq ?_|refine aw_region ?_|refine aw_draw [] ?_|refine opsK_done ?_|refine opsK_on rfl ?_|refine opsK_off rfl ?_|(refine opsK_bool rfl rfl rfl (fun hb=>?_) (fun hb=>?_)<;>try cases hb)|refine opsK_of rfl rfl rfl ?_|refine opsK_new rfl rfl rfl ?_|refine dK_done ?_|refine dK_on rfl ?_|refine dK_off ⟨_,rfl,nofun⟩ ?_|(refine dK_bool rfl rfl rfl (fun hb=>?_) (fun hb=>?_)<;>try cases hb)|refine dK_of rfl rfl rfl ?_|refine aw_condT rfl ?_|refine aw_condF rfl ?_|(refine aw_cond rfl (fun hb=>?_) (fun hb=>?_)<;>try cases hb)|refine aw_block ?_|refine aw_skip ?_|refine aw_exit ?_|refine aw_ret ?_)
  refine opsK_eq (implicants_spec roles.length ok f2 h8) rfl rfl (by show [PV.vec _ _, PV.val (.int .i64 ((nums (intsN roles)).length : Int))] = _; rw [hnl]) ⟨bolR_pure _ _, trivial, trivial⟩ rfl ?_
  rw [← hk]
  repeat' (first|refine aw_seq ?_|refine aw_region ?_|refine aw_draw [] ?_|refine opsK_done ?_|refine opsK_on rfl ?_|refine opsK_off rfl ?_|(refine opsK_bool rfl rfl rfl (fun hb=>?_) (fun hb=>?_)<;>try cases hb)|refine opsK_of rfl rfl rfl ?_|refine opsK_new rfl rfl rfl ?_|refine dK_done ?_|refine dK_on rfl ?_|refine dK_off ⟨_,rfl,nofun⟩ ?_|(refine dK_bool rfl rfl rfl (fun hb=>?_) (fun hb=>?_)<;>try cases hb)|refine dK_of rfl rfl rfl ?_|refine aw_condT rfl ?_|refine aw_condF rfl ?_|(refine aw_cond rfl (fun hb=>?_) (fun hb=>?_)<;>try cases hb)|refine aw_block ?_|refine aw_skip ?_|refine aw_exit ?_|refine aw_ret ?_)
  refine aw_loopH hC (fun (x : Nat × Bool) => x.1 ≤ 3 ^ k) (fun x => 3 ^ k - x.1) 0 (fun x => [(0, .vec (nums (intsN roles)) f1), (5, .vec (bolR (3 ^ k) (impV k ok)) false), (6, .vec ((insAll (prR ok roles x.1)).map raC) x.2), (7, .val (.int .i64 (x.1 : Int)))]) (fun _ => []) (Nat.le_refl _) (0, true) (Nat.zero_le _)
    ⟨⟨rfl, nums_inn _ _⟩, ⟨rfl, bolR_inn _ _ _⟩, ⟨rfl, trivial⟩, ⟨rfl, trivial⟩, trivial⟩ trivial ?_
  rintro ⟨n, fo⟩ hn
  dsimp only at hn ⊢
  have hinc : IntKind.i64.wrap ((n : Int) + 1) = ((n + 1 : Nat) : Int) := IntWalk.i64_in _ ⟨by omega, by omega⟩
  have hpl := prR_len ok roles n
  have hpo := fun c hc => prR_ok (ok := ok) hr n (c := c) hc
  have hps := prR_succ ok roles n
  iterate 6 (first|refine aw_seq ?_|refine aw_region ?_|refine aw_draw [] ?_|refine opsK_done ?_|refine opsK_on rfl ?_|refine opsK_off rfl ?_|(refine opsK_bool rfl rfl rfl (fun hb=>?_) (fun hb=>?_)<;>try cases hb)|refine opsK_of rfl rfl rfl ?_|refine opsK_new rfl rfl rfl ?_|refine dK_done ?_|refine dK_on rfl ?_|refine dK_off ⟨_,rfl,nofun⟩ ?_|(refine dK_bool rfl rfl rfl (fun hb=>?_) (fun hb=>?_)<;>try cases hb)|refine dK_of rfl rfl rfl ?_|refine aw_condT rfl ?_|refine aw_condF rfl ?_|(refine aw_cond rfl (fun hb=>?_) (fun hb=>?_)<;>try cases hb)|refine aw_block ?_|refine aw_skip ?_|refine aw_exit ?_|refine aw_ret ?_)
  refine opsK_bool rfl rfl rfl (fun hb => ?_) (fun hb => ?_)
  · have hnk : n < 3 ^ k := by have := of_decide_eq_true hb; rw [bolR_length] at this; omega
    clear hb
    repeat' (first|refine aw_seq ?_|refine aw_region ?_|refine aw_draw [] ?_|refine opsK_done ?_|refine opsK_on rfl ?_|refine opsK_off rfl ?_|(refine opsK_bool rfl rfl rfl (fun hb=>?_) (fun hb=>?_)<;>try cases hb)|refine opsK_of rfl rfl rfl ?_|refine opsK_new rfl rfl rfl ?_|refine dK_done ?_|refine dK_on rfl ?_|refine dK_off ⟨_,rfl,nofun⟩ ?_|(refine dK_bool rfl rfl rfl (fun hb=>?_) (fun hb=>?_)<;>try cases hb)|refine dK_of rfl rfl rfl ?_|refine aw_condT rfl ?_|refine aw_condF rfl ?_|(refine aw_cond rfl (fun hb=>?_) (fun hb=>?_)<;>try cases hb)|refine aw_block ?_|refine aw_skip ?_|refine aw_exit ?_|refine aw_ret ?_)
    refine opsK_of (E_bol rfl rfl n rfl hnk) rfl rfl ?_
    repeat' (first | refine opsK_of rfl rfl rfl ?_ | refine dK_of rfl rfl rfl ?_ | (first|refine aw_seq ?_|refine aw_region ?_|refine aw_draw [] ?_|refine opsK_done ?_|refine opsK_on rfl ?_|refine opsK_off rfl ?_|(refine opsK_bool rfl rfl rfl (fun hb=>?_) (fun hb=>?_)<;>try cases hb)|refine opsK_of rfl rfl rfl ?_|refine opsK_new rfl rfl rfl ?_|refine dK_done ?_|refine dK_on rfl ?_|refine dK_off ⟨_,rfl,nofun⟩ ?_|(refine dK_bool rfl rfl rfl (fun hb=>?_) (fun hb=>?_)<;>try cases hb)|refine dK_of rfl rfl rfl ?_|refine aw_condT rfl ?_|refine aw_condF rfl ?_|(refine aw_cond rfl (fun hb=>?_) (fun hb=>?_)<;>try cases hb)|refine aw_block ?_|refine aw_skip ?_|refine aw_exit ?_|refine aw_ret ?_))
    refine aw_loopH hC (fun d => d ≤ k) (fun d => k - d) 1 (fun d => [(0, .vec (nums (intsN roles)) f1), (5, .vec (bolR (3 ^ k) (impV k ok)) false), (6, .vec ((insAll (prR ok roles n)).map raC) fo), (7, .val (.int .i64 (n : Int))), (8, .val (.bool (prTo3 k ok n d))), (9, .ptr 0 0 0), (10, .val (.int .i64 (d : Int)))])
      (fun d => [(0, boxC (setTo roles (ysK k n) d) (setTo roles (nsK k n) d))]) (Nat.zero_le _) 0 (Nat.zero_le _)
      ⟨⟨rfl, nums_inn _ _⟩, ⟨rfl, bolR_inn _ _ _⟩, ⟨rfl, ras_inn _ _⟩, ⟨rfl, trivial⟩, ⟨by unfold prTo3; rw [List.range_zero, List.all_nil, Bool.and_true]; rfl, trivial⟩, ⟨rfl, show (0 : Nat) < 1 by decide⟩, ⟨rfl, trivial⟩, trivial⟩ ⟨⟨by decide, rfl, ⟨trivial, trivial, trivial⟩, trivial⟩, trivial⟩ ?_
    intro d hd
    have hdin : IntKind.i64.wrap ((d : Int) + 1) = ((d + 1 : Nat) : Int) := IntWalk.i64_in _ ⟨by omega, by omega⟩
    have hy := setTo_lt hr (ysK k n) d (by omega)
    have hw := setTo_lt hr (nsK k n) d (by omega)
    have hpr := prTo3_succ k ok n d
    iterate 6 (first|refine aw_seq ?_|refine aw_region ?_|refine aw_draw [] ?_|refine opsK_done ?_|refine opsK_on rfl ?_|refine opsK_off rfl ?_|(refine opsK_bool rfl rfl rfl (fun hb=>?_) (fun hb=>?_)<;>try cases hb)|refine opsK_of rfl rfl rfl ?_|refine opsK_new rfl rfl rfl ?_|refine dK_done ?_|refine dK_on rfl ?_|refine dK_off ⟨_,rfl,nofun⟩ ?_|(refine dK_bool rfl rfl rfl (fun hb=>?_) (fun hb=>?_)<;>try cases hb)|refine dK_of rfl rfl rfl ?_|refine aw_condT rfl ?_|refine aw_condF rfl ?_|(refine aw_cond rfl (fun hb=>?_) (fun hb=>?_)<;>try cases hb)|refine aw_block ?_|refine aw_skip ?_|refine aw_exit ?_|refine aw_ret ?_)
    refine opsK_bool rfl rfl rfl (fun hb => ?_) (fun hb => ?_)
    · have hdk : d < k := by have := of_decide_eq_true hb; rw [hnl] at this; omega
      clear hb
      have hdr : d < roles.length := by omega
      have hrd : roles[d] < 64 := hr _ (List.getElem_mem hdr)
      have hre : roles.getD d 0 = roles[d] := by rw [List.getD_eq_getElem?_getD, List.getElem?_eq_getElem hdr]; rfl
      have hsy : setTo roles (ysK k n) (d + 1) = if dig3 n d = 1 then setTo roles (ysK k n) d ||| 2 ^ roles[d] else setTo roles (ysK k n) d := by
        rw [← hre]; simp only [setTo]; rw [bit_dig1 hdk]; simp
      have hsn : setTo roles (nsK k n) (d + 1) = if dig3 n d = 2 then setTo roles (nsK k n) d ||| 2 ^ roles[d] else setTo roles (nsK k n) d := by
        rw [← hre]; simp only [setTo]; rw [bit_dig2 hdk]; simp
      have h2p : 2 ^ roles[d] < 2 ^ 64 := Nat.pow_lt_pow_right (by omega) hrd
      have hshl : IntKind.u64.wrap (1 * 2 ^ (min ((roles[d] : Nat) : Int).toNat IntKind.u64.bits)) = ((2 ^ roles[d] : Nat) : Int) := by
        rw [show min ((roles[d] : Nat) : Int).toNat IntKind.u64.bits = roles[d] by simp [IntKind.bits]; omega]
        rw [Int.one_mul, show (2 : Int) ^ roles[d] = ((2 ^ roles[d] : Nat) : Int) by simp]
        exact IntWalk.u64_in _ ⟨Int.natCast_nonneg _, Int.ofNat_le.2 (show _ ≤ 18446744073709551615 by omega)⟩
      have hory : bits .or .u64 ((setTo roles (ysK k n) d : Nat) : Int) (IntKind.u64.wrap (1 * 2 ^ (min ((roles[d] : Nat) : Int).toNat IntKind.u64.bits))) = ((setTo roles (ysK k n) d ||| 2 ^ roles[d] : Nat) : Int) := by
        rw [hshl]; exact bits_or_u64_nat _ _ hy h2p
      have horn : bits .or .u64 ((setTo roles (nsK k n) d : Nat) : Int) (IntKind.u64.wrap (1 * 2 ^ (min ((roles[d] : Nat) : Int).toNat IntKind.u64.bits))) = ((setTo roles (nsK k n) d ||| 2 ^ roles[d] : Nat) : Int) := by
        rw [hshl]; exact bits_or_u64_nat _ _ hw h2p
      have hds := dig3_sub (n := n) (d := d)
      have h3d := dig3_lt n d
      repeat' (first|refine aw_seq ?_|refine aw_region ?_|refine aw_draw [] ?_|refine opsK_done ?_|refine opsK_on rfl ?_|refine opsK_off rfl ?_|(refine opsK_bool rfl rfl rfl (fun hb=>?_) (fun hb=>?_)<;>try cases hb)|refine opsK_of rfl rfl rfl ?_|refine opsK_new rfl rfl rfl ?_|refine dK_done ?_|refine dK_on rfl ?_|refine dK_off ⟨_,rfl,nofun⟩ ?_|(refine dK_bool rfl rfl rfl (fun hb=>?_) (fun hb=>?_)<;>try cases hb)|refine dK_of rfl rfl rfl ?_|refine aw_condT rfl ?_|refine aw_condF rfl ?_|(refine aw_cond rfl (fun hb=>?_) (fun hb=>?_)<;>try cases hb)|refine aw_block ?_|refine aw_skip ?_|refine aw_exit ?_|refine aw_ret ?_)
      refine opsK_eq (digit_spec n d (by omega) (by omega)) rfl rfl rfl ⟨trivial, trivial, trivial⟩ rfl ?_
      generalize hx : dig3 n d = x at *
      have hcase : x = 0 ∨ x = 1 ∨ x = 2 := by omega
      have hpd : 3 ^ d ≤ 6561 := Nat.le_trans (Nat.pow_le_pow_right (by decide) (show d ≤ 8 by omega)) (by decide)
      have hsub : IntKind.i64.wrap ((n : Int) - IntKind.i64.wrap ((x : Int) * ((3 ^ d : Nat) : Int))) = ((n - x * 3 ^ d : Nat) : Int) := sub_dig hds.1 (by omega)
      rcases hcase with e | e | e
      · subst e
        rw [decide_eq_false (by decide), Bool.false_and, Bool.not_false, Bool.and_true] at hpr
        rw [if_neg (by decide)] at hsy hsn
        repeat' (first|refine aw_seq ?_|refine aw_region ?_|refine aw_draw [] ?_|refine opsK_done ?_|refine opsK_on rfl ?_|refine opsK_off rfl ?_|(refine opsK_bool rfl rfl rfl (fun hb=>?_) (fun hb=>?_)<;>try cases hb)|refine opsK_of rfl rfl rfl ?_|refine opsK_new rfl rfl rfl ?_|refine dK_done ?_|refine dK_on rfl ?_|refine dK_off ⟨_,rfl,nofun⟩ ?_|(refine dK_bool rfl rfl rfl (fun hb=>?_) (fun hb=>?_)<;>try cases hb)|refine dK_of rfl rfl rfl ?_|refine aw_condT rfl ?_|refine aw_condF rfl ?_|(refine aw_cond rfl (fun hb=>?_) (fun hb=>?_)<;>try cases hb)|refine aw_block ?_|refine aw_skip ?_|refine aw_exit ?_|refine aw_ret ?_)
        exact ⟨d + 1, by omega, by omega, ⟨⟨rfl, nums_inn _ _⟩, ⟨rfl, bolR_inn _ _ _⟩, ⟨rfl, ras_inn _ _⟩, ⟨rfl, trivial⟩, ⟨by rw [hpr]; rfl, trivial⟩, ⟨rfl, show (0 : Nat) < 1 by decide⟩, ⟨by show some _ = some _; rw [hdin], trivial⟩, trivial⟩, ⟨⟨by decide, by rw [hsy, hsn]; rfl, ⟨trivial, trivial, trivial⟩, trivial⟩, trivial⟩⟩
      · subst e
        rw [decide_eq_true (by decide), Bool.true_and] at hpr
        rw [if_pos rfl] at hsy
        rw [if_neg (by decide)] at hsn
        repeat' (first|refine aw_seq ?_|refine aw_region ?_|refine aw_draw [] ?_|refine opsK_done ?_|refine opsK_on rfl ?_|refine opsK_off rfl ?_|(refine opsK_bool rfl rfl rfl (fun hb=>?_) (fun hb=>?_)<;>try cases hb)|refine opsK_of rfl rfl rfl ?_|refine opsK_new rfl rfl rfl ?_|refine dK_done ?_|refine dK_on rfl ?_|refine dK_off ⟨_,rfl,nofun⟩ ?_|(refine dK_bool rfl rfl rfl (fun hb=>?_) (fun hb=>?_)<;>try cases hb)|refine dK_of rfl rfl rfl ?_|refine aw_condT rfl ?_|refine aw_condF rfl ?_|(refine aw_cond rfl (fun hb=>?_) (fun hb=>?_)<;>try cases hb)|refine aw_block ?_|refine aw_skip ?_|refine aw_exit ?_|refine aw_ret ?_)
        refine opsK_eq (power_spec d (by omega)) rfl rfl rfl ⟨trivial, trivial⟩ rfl ?_
        repeat' (first|refine aw_seq ?_|refine aw_region ?_|refine aw_draw [] ?_|refine opsK_done ?_|refine opsK_on rfl ?_|refine opsK_off rfl ?_|(refine opsK_bool rfl rfl rfl (fun hb=>?_) (fun hb=>?_)<;>try cases hb)|refine opsK_of rfl rfl rfl ?_|refine opsK_new rfl rfl rfl ?_|refine dK_done ?_|refine dK_on rfl ?_|refine dK_off ⟨_,rfl,nofun⟩ ?_|(refine dK_bool rfl rfl rfl (fun hb=>?_) (fun hb=>?_)<;>try cases hb)|refine dK_of rfl rfl rfl ?_|refine aw_condT rfl ?_|refine aw_condF rfl ?_|(refine aw_cond rfl (fun hb=>?_) (fun hb=>?_)<;>try cases hb)|refine aw_block ?_|refine aw_skip ?_|refine aw_exit ?_|refine aw_ret ?_)
        refine opsK_of (E_bol rfl rfl (n - 1 * 3 ^ d) hsub (by omega)) rfl rfl ?_
        generalize impV k ok (n - 1 * 3 ^ d) = v at *
        cases v
        all_goals
          repeat' (first|refine aw_seq ?_|refine aw_region ?_|refine aw_draw [] ?_|refine opsK_done ?_|refine opsK_on rfl ?_|refine opsK_off rfl ?_|(refine opsK_bool rfl rfl rfl (fun hb=>?_) (fun hb=>?_)<;>try cases hb)|refine opsK_of rfl rfl rfl ?_|refine opsK_new rfl rfl rfl ?_|refine dK_done ?_|refine dK_on rfl ?_|refine dK_off ⟨_,rfl,nofun⟩ ?_|(refine dK_bool rfl rfl rfl (fun hb=>?_) (fun hb=>?_)<;>try cases hb)|refine dK_of rfl rfl rfl ?_|refine aw_condT rfl ?_|refine aw_condF rfl ?_|(refine aw_cond rfl (fun hb=>?_) (fun hb=>?_)<;>try cases hb)|refine aw_block ?_|refine aw_skip ?_|refine aw_exit ?_|refine aw_ret ?_)
          refine dK_of (E_iaddr (xs := roles) (g := fun (x : Nat) => [PV.val (.int .i64 (x : Int))]) (by rw [← numsN_row]; rfl) rfl d rfl hdr rfl) rfl rfl ?_
          repeat' (first|refine aw_seq ?_|refine aw_region ?_|refine aw_draw [] ?_|refine opsK_done ?_|refine opsK_on rfl ?_|refine opsK_off rfl ?_|(refine opsK_bool rfl rfl rfl (fun hb=>?_) (fun hb=>?_)<;>try cases hb)|refine opsK_of rfl rfl rfl ?_|refine opsK_new rfl rfl rfl ?_|refine dK_done ?_|refine dK_on rfl ?_|refine dK_off ⟨_,rfl,nofun⟩ ?_|(refine dK_bool rfl rfl rfl (fun hb=>?_) (fun hb=>?_)<;>try cases hb)|refine dK_of rfl rfl rfl ?_|refine aw_condT rfl ?_|refine aw_condF rfl ?_|(refine aw_cond rfl (fun hb=>?_) (fun hb=>?_)<;>try cases hb)|refine aw_block ?_|refine aw_skip ?_|refine aw_exit ?_|refine aw_ret ?_)
          exact ⟨d + 1, by omega, by omega, ⟨⟨rfl, nums_inn _ _⟩, ⟨rfl, bolR_inn _ _ _⟩, ⟨rfl, ras_inn _ _⟩, ⟨rfl, trivial⟩, ⟨by rw [hpr]; simp; rfl, trivial⟩, ⟨rfl, show (0 : Nat) < 1 by decide⟩, ⟨by show some _ = some _; rw [hdin], trivial⟩, trivial⟩, ⟨⟨by decide, by rw [hsy, hsn]; show _ = some (boxI ((_ : Nat) : Int) ((_ : Nat) : Int)); rw [← hory]; rfl, ⟨trivial, trivial, trivial⟩, trivial⟩, trivial⟩⟩
      · subst e
        rw [decide_eq_true (by decide), Bool.true_and] at hpr
        rw [if_pos rfl] at hsn
        rw [if_neg (by decide)] at hsy
        repeat' (first|refine aw_seq ?_|refine aw_region ?_|refine aw_draw [] ?_|refine opsK_done ?_|refine opsK_on rfl ?_|refine opsK_off rfl ?_|(refine opsK_bool rfl rfl rfl (fun hb=>?_) (fun hb=>?_)<;>try cases hb)|refine opsK_of rfl rfl rfl ?_|refine opsK_new rfl rfl rfl ?_|refine dK_done ?_|refine dK_on rfl ?_|refine dK_off ⟨_,rfl,nofun⟩ ?_|(refine dK_bool rfl rfl rfl (fun hb=>?_) (fun hb=>?_)<;>try cases hb)|refine dK_of rfl rfl rfl ?_|refine aw_condT rfl ?_|refine aw_condF rfl ?_|(refine aw_cond rfl (fun hb=>?_) (fun hb=>?_)<;>try cases hb)|refine aw_block ?_|refine aw_skip ?_|refine aw_exit ?_|refine aw_ret ?_)
        refine opsK_eq (power_spec d (by omega)) rfl rfl rfl ⟨trivial, trivial⟩ rfl ?_
        repeat' (first|refine aw_seq ?_|refine aw_region ?_|refine aw_draw [] ?_|refine opsK_done ?_|refine opsK_on rfl ?_|refine opsK_off rfl ?_|(refine opsK_bool rfl rfl rfl (fun hb=>?_) (fun hb=>?_)<;>try cases hb)|refine opsK_of rfl rfl rfl ?_|refine opsK_new rfl rfl rfl ?_|refine dK_done ?_|refine dK_on rfl ?_|refine dK_off ⟨_,rfl,nofun⟩ ?_|(refine dK_bool rfl rfl rfl (fun hb=>?_) (fun hb=>?_)<;>try cases hb)|refine dK_of rfl rfl rfl ?_|refine aw_condT rfl ?_|refine aw_condF rfl ?_|(refine aw_cond rfl (fun hb=>?_) (fun hb=>?_)<;>try cases hb)|refine aw_block ?_|refine aw_skip ?_|refine aw_exit ?_|refine aw_ret ?_)
        refine opsK_of (E_bol rfl rfl (n - 2 * 3 ^ d) hsub (by omega)) rfl rfl ?_
        generalize impV k ok (n - 2 * 3 ^ d) = v at *
        cases v
        all_goals
          repeat' (first|refine aw_seq ?_|refine aw_region ?_|refine aw_draw [] ?_|refine opsK_done ?_|refine opsK_on rfl ?_|refine opsK_off rfl ?_|(refine opsK_bool rfl rfl rfl (fun hb=>?_) (fun hb=>?_)<;>try cases hb)|refine opsK_of rfl rfl rfl ?_|refine opsK_new rfl rfl rfl ?_|refine dK_done ?_|refine dK_on rfl ?_|refine dK_off ⟨_,rfl,nofun⟩ ?_|(refine dK_bool rfl rfl rfl (fun hb=>?_) (fun hb=>?_)<;>try cases hb)|refine dK_of rfl rfl rfl ?_|refine aw_condT rfl ?_|refine aw_condF rfl ?_|(refine aw_cond rfl (fun hb=>?_) (fun hb=>?_)<;>try cases hb)|refine aw_block ?_|refine aw_skip ?_|refine aw_exit ?_|refine aw_ret ?_)
          refine dK_of (E_iaddr (xs := roles) (g := fun (x : Nat) => [PV.val (.int .i64 (x : Int))]) (by rw [← numsN_row]; rfl) rfl d rfl hdr rfl) rfl rfl ?_
          repeat' (first|refine aw_seq ?_|refine aw_region ?_|refine aw_draw [] ?_|refine opsK_done ?_|refine opsK_on rfl ?_|refine opsK_off rfl ?_|(refine opsK_bool rfl rfl rfl (fun hb=>?_) (fun hb=>?_)<;>try cases hb)|refine opsK_of rfl rfl rfl ?_|refine opsK_new rfl rfl rfl ?_|refine dK_done ?_|refine dK_on rfl ?_|refine dK_off ⟨_,rfl,nofun⟩ ?_|(refine dK_bool rfl rfl rfl (fun hb=>?_) (fun hb=>?_)<;>try cases hb)|refine dK_of rfl rfl rfl ?_|refine aw_condT rfl ?_|refine aw_condF rfl ?_|(refine aw_cond rfl (fun hb=>?_) (fun hb=>?_)<;>try cases hb)|refine aw_block ?_|refine aw_skip ?_|refine aw_exit ?_|refine aw_ret ?_)
          exact ⟨d + 1, by omega, by omega, ⟨⟨rfl, nums_inn _ _⟩, ⟨rfl, bolR_inn _ _ _⟩, ⟨rfl, ras_inn _ _⟩, ⟨rfl, trivial⟩, ⟨by rw [hpr]; simp; rfl, trivial⟩, ⟨rfl, show (0 : Nat) < 1 by decide⟩, ⟨by show some _ = some _; rw [hdin], trivial⟩, trivial⟩, ⟨⟨by decide, by rw [hsy, hsn]; show _ = some (boxI ((_ : Nat) : Int) ((_ : Nat) : Int)); rw [← horn]; rfl, ⟨trivial, trivial, trivial⟩, trivial⟩, trivial⟩⟩
    · have hdk : d = k := by have := of_decide_eq_false hb; rw [hnl] at this; omega
      subst hdk
      clear hb
      rw [prTo3_prB]
      have hys : setTo roles (ysK d n) d = setM roles (ysK d n) := by rw [setM, ← hk]
      have hns : setTo roles (nsK d n) d = setM roles (nsK d n) := by rw [setM, ← hk]
      rw [hys, hns]
      rw [← hk] at hps
      cases hg : prB d ok (ysK d n) (nsK d n)
      · rw [hg, if_neg (by decide), List.append_nil] at hps
        repeat' (first|refine aw_seq ?_|refine aw_region ?_|refine aw_draw [] ?_|refine opsK_done ?_|refine opsK_on rfl ?_|refine opsK_off rfl ?_|(refine opsK_bool rfl rfl rfl (fun hb=>?_) (fun hb=>?_)<;>try cases hb)|refine opsK_of rfl rfl rfl ?_|refine opsK_new rfl rfl rfl ?_|refine dK_done ?_|refine dK_on rfl ?_|refine dK_off ⟨_,rfl,nofun⟩ ?_|(refine dK_bool rfl rfl rfl (fun hb=>?_) (fun hb=>?_)<;>try cases hb)|refine dK_of rfl rfl rfl ?_|refine aw_condT rfl ?_|refine aw_condF rfl ?_|(refine aw_cond rfl (fun hb=>?_) (fun hb=>?_)<;>try cases hb)|refine aw_block ?_|refine aw_skip ?_|refine aw_exit ?_|refine aw_ret ?_)
        exact ⟨(n + 1, fo), by show n + 1 ≤ _; omega, by show _ - (n + 1) < _ - n; omega, ⟨⟨rfl, nums_inn _ _⟩, ⟨rfl, bolR_inn _ _ _⟩, ⟨by rw [hps]; rfl, ras_inn _ _⟩, ⟨by show some _ = some _; rw [hinc], trivial⟩, trivial⟩, trivial⟩
      · rw [hg, if_pos rfl] at hps
        repeat' (first|refine aw_seq ?_|refine aw_region ?_|refine aw_draw [] ?_|refine opsK_done ?_|refine opsK_on rfl ?_|refine opsK_off rfl ?_|(refine opsK_bool rfl rfl rfl (fun hb=>?_) (fun hb=>?_)<;>try cases hb)|refine opsK_of rfl rfl rfl ?_|refine opsK_new rfl rfl rfl ?_|refine dK_done ?_|refine dK_on rfl ?_|refine dK_off ⟨_,rfl,nofun⟩ ?_|(refine dK_bool rfl rfl rfl (fun hb=>?_) (fun hb=>?_)<;>try cases hb)|refine dK_of rfl rfl rfl ?_|refine aw_condT rfl ?_|refine aw_condF rfl ?_|(refine aw_cond rfl (fun hb=>?_) (fun hb=>?_)<;>try cases hb)|refine aw_block ?_|refine aw_skip ?_|refine aw_exit ?_|refine aw_ret ?_)
        refine opsK_eq (insert_spec (insAll (prR ok roles n)) fo (setM roles (ysK d n), setM roles (nsK d n)) hpo ⟨setM_lt hr _, setM_lt hr _⟩ (by omega)) rfl rfl rfl ⟨ras_pure _, raC_pure _, trivial⟩ rfl ?_
        repeat' (first|refine aw_seq ?_|refine aw_region ?_|refine aw_draw [] ?_|refine opsK_done ?_|refine opsK_on rfl ?_|refine opsK_off rfl ?_|(refine opsK_bool rfl rfl rfl (fun hb=>?_) (fun hb=>?_)<;>try cases hb)|refine opsK_of rfl rfl rfl ?_|refine opsK_new rfl rfl rfl ?_|refine dK_done ?_|refine dK_on rfl ?_|refine dK_off ⟨_,rfl,nofun⟩ ?_|(refine dK_bool rfl rfl rfl (fun hb=>?_) (fun hb=>?_)<;>try cases hb)|refine dK_of rfl rfl rfl ?_|refine aw_condT rfl ?_|refine aw_condF rfl ?_|(refine aw_cond rfl (fun hb=>?_) (fun hb=>?_)<;>try cases hb)|refine aw_block ?_|refine aw_skip ?_|refine aw_exit ?_|refine aw_ret ?_)
        exact ⟨(n + 1, false), by show n + 1 ≤ _; omega, by show _ - (n + 1) < _ - n; omega, ⟨⟨rfl, nums_inn _ _⟩, ⟨rfl, bolR_inn _ _ _⟩, ⟨by rw [hps, insAll_snoc]; rfl, ras_inn _ _⟩, ⟨by show some _ = some _; rw [hinc], trivial⟩, trivial⟩, trivial⟩
  · have hnk : n = 3 ^ k := by have := of_decide_eq_false hb; rw [bolR_length] at this; omega
    subst hnk
    clear hb
    repeat' (first|refine aw_seq ?_|refine aw_region ?_|refine aw_draw [] ?_|refine opsK_done ?_|refine opsK_on rfl ?_|refine opsK_off rfl ?_|(refine opsK_bool rfl rfl rfl (fun hb=>?_) (fun hb=>?_)<;>try cases hb)|refine opsK_of rfl rfl rfl ?_|refine opsK_new rfl rfl rfl ?_|refine dK_done ?_|refine dK_on rfl ?_|refine dK_off ⟨_,rfl,nofun⟩ ?_|(refine dK_bool rfl rfl rfl (fun hb=>?_) (fun hb=>?_)<;>try cases hb)|refine dK_of rfl rfl rfl ?_|refine aw_condT rfl ?_|refine aw_condF rfl ?_|(refine aw_cond rfl (fun hb=>?_) (fun hb=>?_)<;>try cases hb)|refine aw_block ?_|refine aw_skip ?_|refine aw_exit ?_|refine aw_ret ?_)
    have hfin : insAll (prR ok roles (3 ^ k)) = sortC (prL ok roles) := by rw [hk]; exact insAll_eq (prR_perm ok roles) fun c hc => prL_64 hr hc
    rw [← hfin]
    refine ret_low rfl (by show pureLL (lowLL _); rw [lowLL_ras]; exact ras_pure _) ?_
    show PV.vec (lowLL _) false = _
    rw [lowLL_ras]
end Go.Proofs.YtifohjijhhjdkaaDoor

namespace Go.Proofs.YtifohjijhhjdkaaDoor
open Go.RowKit
set_option linter.unusedVariables false
attribute [local irreducible] aw opsK dK

theorem rem2_bit (N : Nat) : (((N : Nat) : Int).tmod 2 == 1) = N.testBit 0 := by
  have h := rem2_u64 N 0
  rw [Nat.pow_zero, Nat.div_one] at h
  have h2 := bit_eq N 0
  rw [Nat.pow_zero, Nat.div_one] at h2
  rw [h, h2]
theorem bolR_succ (m : Nat) (p : Nat → Bool) : bolR (m + 1) p = bolR m p ++ [bolC (p m)] := by simp [bolR, List.range_succ]
set_option maxHeartbeats 4000000 in
theorem primesR_spec (l : List Cu) (fl : Bool) (hl : ∀ c ∈ l, Ok64 c) (hlen : l.length ≤ 1000000) : Spec Tryd.prog 15 [.vec (l.map raC) fl] (· = .tup [.vec ((primesL l).map raC) false, .val (.int .i64 (wholeE l))]) := by
  have hf : ∀ c ∈ fullL l, Ok64 c := fun c hc => hl c (List.mem_filter.1 hc).1
  have hm := mentC_lt hf
  refine spec_intro ok15 (Nat.le_of_ble_eq_true rfl) fun C hC => ?_
  repeat' (first|refine aw_seq ?_|refine aw_region ?_|refine aw_draw [] ?_|refine opsK_done ?_|refine opsK_on rfl ?_|refine opsK_off rfl ?_|(refine opsK_bool rfl rfl rfl (fun hb=>?_) (fun hb=>?_)<;>try cases hb)|refine opsK_of rfl rfl rfl ?_|refine opsK_new rfl rfl rfl ?_|refine dK_done ?_|refine dK_on rfl ?_|refine dK_off ⟨_,rfl,nofun⟩ ?_|(refine dK_bool rfl rfl rfl (fun hb=>?_) (fun hb=>?_)<;>try cases hb)|refine dK_of rfl rfl rfl ?_|refine aw_condT rfl ?_|refine aw_condF rfl ?_|(refine aw_cond rfl (fun hb=>?_) (fun hb=>?_)<;>try cases hb)|refine aw_block ?_|refine aw_skip ?_|refine aw_exit ?_|refine aw_ret ?_)
  refine opsK_eq (full19_spec l fl hl hlen) rfl rfl rfl ⟨ras_pure l, trivial⟩ rfl ?_
  generalize hall : mentC (fullL l) = N at *
  generalize hfl : fullL l = fs at *
  repeat' (first|refine aw_seq ?_|refine aw_region ?_|refine aw_draw [] ?_|refine opsK_done ?_|refine opsK_on rfl ?_|refine opsK_off rfl ?_|(refine opsK_bool rfl rfl rfl (fun hb=>?_) (fun hb=>?_)<;>try cases hb)|refine opsK_of rfl rfl rfl ?_|refine opsK_new rfl rfl rfl ?_|refine dK_done ?_|refine dK_on rfl ?_|refine dK_off ⟨_,rfl,nofun⟩ ?_|(refine dK_bool rfl rfl rfl (fun hb=>?_) (fun hb=>?_)<;>try cases hb)|refine dK_of rfl rfl rfl ?_|refine aw_condT rfl ?_|refine aw_condF rfl ?_|(refine aw_cond rfl (fun hb=>?_) (fun hb=>?_)<;>try cases hb)|refine aw_block ?_|refine aw_skip ?_|refine aw_exit ?_|refine aw_ret ?_)
  · have h0 : N.testBit 0 = true := by rw [← rem2_bit]; exact hb
    have he : wholeE l = 1 := by rw [wholeE, hfl, hall, if_pos h0]
    refine ret_low rfl (pure_of rfl) ?_
    rw [primesL, he, if_neg (by decide)]
    rfl
  · have h0 : ¬ N.testBit 0 = true := by rw [← rem2_bit, hb]; decide
    clear hb
    refine opsK_eq (members19_spec N hm) rfl rfl rfl ⟨trivial, trivial⟩ rfl ?_
    have hnl : (nums (intsN (mem N))).length = (mem N).length := by simp [nums, intsN]
    have hr : ∀ r ∈ mem N, r < 64 := fun r hr => mem_lt hr
    generalize hro : mem N = roles at *
    repeat' (first | refine opsK_sub (subA_ownNil (k := 7) rfl 1 (by decide)) ?_ | (first|refine aw_seq ?_|refine aw_region ?_|refine aw_draw [] ?_|refine opsK_done ?_|refine opsK_on rfl ?_|refine opsK_off rfl ?_|(refine opsK_bool rfl rfl rfl (fun hb=>?_) (fun hb=>?_)<;>try cases hb)|refine opsK_of rfl rfl rfl ?_|refine opsK_new rfl rfl rfl ?_|refine dK_done ?_|refine dK_on rfl ?_|refine dK_off ⟨_,rfl,nofun⟩ ?_|(refine dK_bool rfl rfl rfl (fun hb=>?_) (fun hb=>?_)<;>try cases hb)|refine dK_of rfl rfl rfl ?_|refine aw_condT rfl ?_|refine aw_condF rfl ?_|(refine aw_cond rfl (fun hb=>?_) (fun hb=>?_)<;>try cases hb)|refine aw_block ?_|refine aw_skip ?_|refine aw_exit ?_|refine aw_ret ?_))
    · have h8 : 8 < roles.length := by have := of_decide_eq_true hb; rw [hnl] at this; omega
      have he : wholeE l = 3 := by rw [wholeE, hfl, hall, if_neg h0, hro, if_pos h8]
      refine ret_low rfl (pure_of rfl) ?_
      rw [primesL, he, if_neg (by decide)]
      rfl
    · have h8 : roles.length ≤ 8 := by have := of_decide_eq_false hb; rw [hnl] at this; omega
      have he : wholeE l = 0 := by rw [wholeE, hfl, hall, if_neg h0, hro, if_neg (by omega)]
      clear hb
      obtain ⟨k, hk⟩ : ∃ k, k = roles.length := ⟨_, rfl⟩
      have h2 : 2 ^ k ≤ 256 := Nat.le_trans (Nat.pow_le_pow_right (by decide) (show k ≤ 8 by omega)) (by decide)
      have hsh : IntKind.i64.wrap (1 * 2 ^ (min ((nums (intsN roles)).length : Int).toNat IntKind.i64.bits)) = ((2 ^ k : Nat) : Int) := by
        rw [hnl, ← hk]; exact shl1 k (by omega)
      refine aw_loopR hC (fun (i : Nat) => i ≤ 2 ^ k) (fun i => 2 ^ k - i) 1 (fun i => [(4, .vec (fs.map raC) false), (6, .vec (nums (intsN roles)) false), (7, .own 0), (8, .val (.int .i64 (i : Int)))])
        (fun i => [(0, ⟨1, bolR i (okM roles (soC fs))⟩)]) (Nat.zero_le _) 0 (Nat.zero_le _) (fun i => i) (fun _ _ => rfl) injOn_id
        ⟨⟨_, rfl, .pure _ (ras_pure _)⟩, ⟨_, rfl, .pure _ (nums_pure _)⟩, ⟨_, rfl, .own 0 (by decide)⟩, ⟨_, rfl, .pure _ trivial⟩, trivial⟩
        ⟨⟨by decide, _, rfl, .same _ trivial⟩, trivial⟩ ?_
      intro i hi
      have hinc : IntKind.i64.wrap ((i : Int) + 1) = ((i + 1 : Nat) : Int) := IntWalk.i64_in _ ⟨by omega, by omega⟩
      iterate 6 (first|refine aw_seq ?_|refine aw_region ?_|refine aw_draw [] ?_|refine opsK_done ?_|refine opsK_on rfl ?_|refine opsK_off rfl ?_|(refine opsK_bool rfl rfl rfl (fun hb=>?_) (fun hb=>?_)<;>try cases hb)|refine opsK_of rfl rfl rfl ?_|refine opsK_new rfl rfl rfl ?_|refine dK_done ?_|refine dK_on rfl ?_|refine dK_off ⟨_,rfl,nofun⟩ ?_|(refine dK_bool rfl rfl rfl (fun hb=>?_) (fun hb=>?_)<;>try cases hb)|refine dK_of rfl rfl rfl ?_|refine aw_condT rfl ?_|refine aw_condF rfl ?_|(refine aw_cond rfl (fun hb=>?_) (fun hb=>?_)<;>try cases hb)|refine aw_block ?_|refine aw_skip ?_|refine aw_exit ?_|refine aw_ret ?_)
      refine opsK_of (E_int rfl hsh) rfl rfl ?_
      refine opsK_bool rfl rfl rfl (fun hb => ?_) (fun hb => ?_)
      · have hil : i < 2 ^ k := by have := of_decide_eq_true hb; omega
        clear hb
        repeat' (first|refine aw_seq ?_|refine aw_region ?_|refine aw_draw [] ?_|refine opsK_done ?_|refine opsK_on rfl ?_|refine opsK_off rfl ?_|(refine opsK_bool rfl rfl rfl (fun hb=>?_) (fun hb=>?_)<;>try cases hb)|refine opsK_of rfl rfl rfl ?_|refine opsK_new rfl rfl rfl ?_|refine dK_done ?_|refine dK_on rfl ?_|refine dK_off ⟨_,rfl,nofun⟩ ?_|(refine dK_bool rfl rfl rfl (fun hb=>?_) (fun hb=>?_)<;>try cases hb)|refine dK_of rfl rfl rfl ?_|refine aw_condT rfl ?_|refine aw_condF rfl ?_|(refine aw_cond rfl (fun hb=>?_) (fun hb=>?_)<;>try cases hb)|refine aw_block ?_|refine aw_skip ?_|refine aw_exit ?_|refine aw_ret ?_)
        refine opsK_eq (subset19_spec roles false i hr (by omega) (by omega)) rfl rfl rfl ⟨nums_pure _, trivial, trivial⟩ rfl ?_
        refine opsK_eq (some14_spec fs false (setM roles i) hf (setM_lt hr _)) rfl rfl rfl ⟨ras_pure _, trivial, trivial⟩ rfl ?_
        repeat' (first|refine aw_seq ?_|refine aw_region ?_|refine aw_draw [] ?_|refine opsK_done ?_|refine opsK_on rfl ?_|refine opsK_off rfl ?_|(refine opsK_bool rfl rfl rfl (fun hb=>?_) (fun hb=>?_)<;>try cases hb)|refine opsK_of rfl rfl rfl ?_|refine opsK_new rfl rfl rfl ?_|refine dK_done ?_|refine dK_on rfl ?_|refine dK_off ⟨_,rfl,nofun⟩ ?_|(refine dK_bool rfl rfl rfl (fun hb=>?_) (fun hb=>?_)<;>try cases hb)|refine dK_of rfl rfl rfl ?_|refine aw_condT rfl ?_|refine aw_condF rfl ?_|(refine aw_cond rfl (fun hb=>?_) (fun hb=>?_)<;>try cases hb)|refine aw_block ?_|refine aw_skip ?_|refine aw_exit ?_|refine aw_ret ?_)
        refine opsK_new (E_append (k := 0) (m := [bolC (soC fs (setM roles i))]) (fl := true) rfl rfl rfl (fun c hc => by rw [List.mem_singleton] at hc; subst hc; rfl) rfl (by
          show ((bolR i (okM roles (soC fs))).length + 1) * 1 ≤ _
          rw [bolR_length]
          omega)) rfl rfl ?_
        repeat' (first|refine aw_seq ?_|refine aw_region ?_|refine aw_draw [] ?_|refine opsK_done ?_|refine opsK_on rfl ?_|refine opsK_off rfl ?_|(refine opsK_bool rfl rfl rfl (fun hb=>?_) (fun hb=>?_)<;>try cases hb)|refine opsK_of rfl rfl rfl ?_|refine opsK_new rfl rfl rfl ?_|refine dK_done ?_|refine dK_on rfl ?_|refine dK_off ⟨_,rfl,nofun⟩ ?_|(refine dK_bool rfl rfl rfl (fun hb=>?_) (fun hb=>?_)<;>try cases hb)|refine dK_of rfl rfl rfl ?_|refine aw_condT rfl ?_|refine aw_condF rfl ?_|(refine aw_cond rfl (fun hb=>?_) (fun hb=>?_)<;>try cases hb)|refine aw_block ?_|refine aw_skip ?_|refine aw_exit ?_|refine aw_ret ?_)
        refine ⟨i + 1, mv 0 1, by omega, by omega, fun i hi => absurd hi (Nat.not_lt_zero i), injOn_of rfl,
          ⟨⟨_, rfl, .pure _ (ras_pure _)⟩, ⟨_, rfl, .pure _ (nums_pure _)⟩, ⟨_, rfl, .own 0 (by decide)⟩, ⟨_, by show some _ = some _; rw [hinc], .pure _ trivial⟩, trivial⟩,
          ⟨⟨by decide, _, rfl, ?_⟩, trivial⟩⟩
        show RenB _ _ ⟨1, bolR i (okM roles (soC fs)) ++ [bolC (okM roles (soC fs) i)]⟩ ⟨1, bolR (i + 1) (okM roles (soC fs))⟩
        rw [← bolR_succ]
        exact .same _ (bolR_pure _ _)
      · have hil : i = 2 ^ k := by have := of_decide_eq_false hb; omega
        subst hil
        clear hb
        repeat' (first | refine opsK_sub (subA_freeze (k := 7) rfl rfl (bolR_pure _ _)) ?_ | (first|refine aw_seq ?_|refine aw_region ?_|refine aw_draw [] ?_|refine opsK_done ?_|refine opsK_on rfl ?_|refine opsK_off rfl ?_|(refine opsK_bool rfl rfl rfl (fun hb=>?_) (fun hb=>?_)<;>try cases hb)|refine opsK_of rfl rfl rfl ?_|refine opsK_new rfl rfl rfl ?_|refine dK_done ?_|refine dK_on rfl ?_|refine dK_off ⟨_,rfl,nofun⟩ ?_|(refine dK_bool rfl rfl rfl (fun hb=>?_) (fun hb=>?_)<;>try cases hb)|refine dK_of rfl rfl rfl ?_|refine aw_condT rfl ?_|refine aw_condF rfl ?_|(refine aw_cond rfl (fun hb=>?_) (fun hb=>?_)<;>try cases hb)|refine aw_block ?_|refine aw_skip ?_|refine aw_exit ?_|refine aw_ret ?_))
        refine opsK_eq (primes19_spec roles false false (okM roles (soC fs)) hr h8) rfl rfl (by show [PV.vec _ _, PV.vec _ _] = _; rw [hk]) ⟨nums_pure _, bolR_pure _ _, trivial⟩ rfl ?_
        repeat' (first|refine aw_seq ?_|refine aw_region ?_|refine aw_draw [] ?_|refine opsK_done ?_|refine opsK_on rfl ?_|refine opsK_off rfl ?_|(refine opsK_bool rfl rfl rfl (fun hb=>?_) (fun hb=>?_)<;>try cases hb)|refine opsK_of rfl rfl rfl ?_|refine opsK_new rfl rfl rfl ?_|refine dK_done ?_|refine dK_on rfl ?_|refine dK_off ⟨_,rfl,nofun⟩ ?_|(refine dK_bool rfl rfl rfl (fun hb=>?_) (fun hb=>?_)<;>try cases hb)|refine dK_of rfl rfl rfl ?_|refine aw_condT rfl ?_|refine aw_condF rfl ?_|(refine aw_cond rfl (fun hb=>?_) (fun hb=>?_)<;>try cases hb)|refine aw_block ?_|refine aw_skip ?_|refine aw_exit ?_|refine aw_ret ?_)
        refine ret_ok rfl ⟨ras_pure _, trivial, trivial⟩ ?_
        rw [primesL, he, if_pos rfl, hfl, hall, hro]
        rfl
end Go.Proofs.YtifohjijhhjdkaaDoor

namespace Go.Proofs.YtifohjijhhjdkaaDoor
open Go.RowKit
set_option linter.unusedVariables false
attribute [local irreducible] aw opsK dK

def mostF : Fm := .mk 11 0 [] [.mk 5 0 [1, 2, 3] [], .mk 1 1 [] []]
theorem most_check : checkM mostF = 0 := by decide +kernel
theorem most_viol : vioL mostF = [(6, 0), (10, 0), (12, 0)] := by decide +kernel
theorem ex2 : primesL [(6, 0), (2, 4)] = [(2, 0)] ∧ wholeE [(6, 0), (2, 4)] = 0 := by decide +kernel
theorem ex3 : primesL [(2, 0), (0, 2)] = [(0, 0)] ∧ wholeE [(2, 0), (0, 2)] = 0 := by decide +kernel
theorem ex4 : primesL [(6, 0), (8, 2)] = [(6, 0), (12, 0), (8, 2)] ∧ wholeE [(6, 0), (8, 2)] = 0 := by decide +kernel
theorem of_val (l : List Int) (N : Nat) (h : maskTo (topOf l) l = N) (fl : Bool) : Spec Tryd.prog 20 [.vec (nums l) fl] (· = setN N) := h ▸ of_spec l fl
set_option maxHeartbeats 8000000 in
theorem awake19_spec : Spec Tryd.prog 10 [] (· = .val (.bool true)) := by
  have ok : ∀ (l : List Cu), (∀ c ∈ l, c.1 < 256 ∧ c.2 < 256) → ∀ c ∈ l, Ok64 c := fun l h c hc => ⟨by have := h c hc; omega, by have := h c hc; omega⟩
  refine spec_intro ok10 (Nat.le_of_ble_eq_true rfl) fun C hC => ?_
  repeat' (first|refine aw_seq ?_|refine aw_region ?_|refine aw_draw [] ?_|refine opsK_done ?_|refine opsK_on rfl ?_|refine opsK_off rfl ?_|(refine opsK_bool rfl rfl rfl (fun hb=>?_) (fun hb=>?_)<;>try cases hb)|refine opsK_of rfl rfl rfl ?_|refine opsK_new rfl rfl rfl ?_|refine dK_done ?_|refine dK_on rfl ?_|refine dK_off ⟨_,rfl,nofun⟩ ?_|(refine dK_bool rfl rfl rfl (fun hb=>?_) (fun hb=>?_)<;>try cases hb)|refine dK_of rfl rfl rfl ?_|refine aw_condT rfl ?_|refine aw_condF rfl ?_|(refine aw_cond rfl (fun hb=>?_) (fun hb=>?_)<;>try cases hb)|refine aw_block ?_|refine aw_skip ?_|refine aw_exit ?_|refine aw_ret ?_)
  refine opsK_eqLow (violations_spec mostF (by decide +kernel) (by decide +kernel)) rfl rfl (by rfl) ⟨fC_pure _ _, trivial⟩ rfl ?_
  rw [most_viol, most_check]
  repeat' (first|refine aw_seq ?_|refine aw_region ?_|refine aw_draw [] ?_|refine opsK_done ?_|refine opsK_on rfl ?_|refine opsK_off rfl ?_|(refine opsK_bool rfl rfl rfl (fun hb=>?_) (fun hb=>?_)<;>try cases hb)|refine opsK_of rfl rfl rfl ?_|refine opsK_new rfl rfl rfl ?_|refine dK_done ?_|refine dK_on rfl ?_|refine dK_off ⟨_,rfl,nofun⟩ ?_|(refine dK_bool rfl rfl rfl (fun hb=>?_) (fun hb=>?_)<;>try cases hb)|refine dK_of rfl rfl rfl ?_|refine aw_condT rfl ?_|refine aw_condF rfl ?_|(refine aw_cond rfl (fun hb=>?_) (fun hb=>?_)<;>try cases hb)|refine aw_block ?_|refine aw_skip ?_|refine aw_exit ?_|refine aw_ret ?_)
  refine opsK_eq (of_val [1] 2 (by decide +kernel) true) rfl rfl rfl ⟨nums_pure _, trivial⟩ rfl ?_
  repeat' (first|refine aw_seq ?_|refine aw_region ?_|refine aw_draw [] ?_|refine opsK_done ?_|refine opsK_on rfl ?_|refine opsK_off rfl ?_|(refine opsK_bool rfl rfl rfl (fun hb=>?_) (fun hb=>?_)<;>try cases hb)|refine opsK_of rfl rfl rfl ?_|refine opsK_new rfl rfl rfl ?_|refine dK_done ?_|refine dK_on rfl ?_|refine dK_off ⟨_,rfl,nofun⟩ ?_|(refine dK_bool rfl rfl rfl (fun hb=>?_) (fun hb=>?_)<;>try cases hb)|refine dK_of rfl rfl rfl ?_|refine aw_condT rfl ?_|refine aw_condF rfl ?_|(refine aw_cond rfl (fun hb=>?_) (fun hb=>?_)<;>try cases hb)|refine aw_block ?_|refine aw_skip ?_|refine aw_exit ?_|refine aw_ret ?_)
  refine opsK_eq (of_val [1, 2] 6 (by decide +kernel) true) rfl rfl rfl ⟨nums_pure _, trivial⟩ rfl ?_
  repeat' (first|refine aw_seq ?_|refine aw_region ?_|refine aw_draw [] ?_|refine opsK_done ?_|refine opsK_on rfl ?_|refine opsK_off rfl ?_|(refine opsK_bool rfl rfl rfl (fun hb=>?_) (fun hb=>?_)<;>try cases hb)|refine opsK_of rfl rfl rfl ?_|refine opsK_new rfl rfl rfl ?_|refine dK_done ?_|refine dK_on rfl ?_|refine dK_off ⟨_,rfl,nofun⟩ ?_|(refine dK_bool rfl rfl rfl (fun hb=>?_) (fun hb=>?_)<;>try cases hb)|refine dK_of rfl rfl rfl ?_|refine aw_condT rfl ?_|refine aw_condF rfl ?_|(refine aw_cond rfl (fun hb=>?_) (fun hb=>?_)<;>try cases hb)|refine aw_block ?_|refine aw_skip ?_|refine aw_exit ?_|refine aw_ret ?_)
  refine opsK_eq (of_val [1] 2 (by decide +kernel) true) rfl rfl rfl ⟨nums_pure _, trivial⟩ rfl ?_
  repeat' (first|refine aw_seq ?_|refine aw_region ?_|refine aw_draw [] ?_|refine opsK_done ?_|refine opsK_on rfl ?_|refine opsK_off rfl ?_|(refine opsK_bool rfl rfl rfl (fun hb=>?_) (fun hb=>?_)<;>try cases hb)|refine opsK_of rfl rfl rfl ?_|refine opsK_new rfl rfl rfl ?_|refine dK_done ?_|refine dK_on rfl ?_|refine dK_off ⟨_,rfl,nofun⟩ ?_|(refine dK_bool rfl rfl rfl (fun hb=>?_) (fun hb=>?_)<;>try cases hb)|refine dK_of rfl rfl rfl ?_|refine aw_condT rfl ?_|refine aw_condF rfl ?_|(refine aw_cond rfl (fun hb=>?_) (fun hb=>?_)<;>try cases hb)|refine aw_block ?_|refine aw_skip ?_|refine aw_exit ?_|refine aw_ret ?_)
  refine opsK_eq (of_val [2] 4 (by decide +kernel) true) rfl rfl rfl ⟨nums_pure _, trivial⟩ rfl ?_
  repeat' (first|refine aw_seq ?_|refine aw_region ?_|refine aw_draw [] ?_|refine opsK_done ?_|refine opsK_on rfl ?_|refine opsK_off rfl ?_|(refine opsK_bool rfl rfl rfl (fun hb=>?_) (fun hb=>?_)<;>try cases hb)|refine opsK_of rfl rfl rfl ?_|refine opsK_new rfl rfl rfl ?_|refine dK_done ?_|refine dK_on rfl ?_|refine dK_off ⟨_,rfl,nofun⟩ ?_|(refine dK_bool rfl rfl rfl (fun hb=>?_) (fun hb=>?_)<;>try cases hb)|refine dK_of rfl rfl rfl ?_|refine aw_condT rfl ?_|refine aw_condF rfl ?_|(refine aw_cond rfl (fun hb=>?_) (fun hb=>?_)<;>try cases hb)|refine aw_block ?_|refine aw_skip ?_|refine aw_exit ?_|refine aw_ret ?_)
  refine opsK_eqLow (primesN_spec [(6, 0), (2, 4)] false (ok _ (by decide)) (by decide)) rfl rfl (by
    show [PV.vec [[.vec (lowLL (words (digs 6))) false, .vec [] false], [.vec (lowLL (words (digs 2))) false, .vec (lowLL (words (digs 4))) false]] false] = _
    rw [lowLL_words, lowLL_words, lowLL_words]
    simp only [List.map, cuC]
    rw [digs_zero]
    rfl) ⟨cubes_pure _, trivial⟩ rfl ?_
  rw [ex2.1, ex2.2]
  repeat' (first|refine aw_seq ?_|refine aw_region ?_|refine aw_draw [] ?_|refine opsK_done ?_|refine opsK_on rfl ?_|refine opsK_off rfl ?_|(refine opsK_bool rfl rfl rfl (fun hb=>?_) (fun hb=>?_)<;>try cases hb)|refine opsK_of rfl rfl rfl ?_|refine opsK_new rfl rfl rfl ?_|refine dK_done ?_|refine dK_on rfl ?_|refine dK_off ⟨_,rfl,nofun⟩ ?_|(refine dK_bool rfl rfl rfl (fun hb=>?_) (fun hb=>?_)<;>try cases hb)|refine dK_of rfl rfl rfl ?_|refine aw_condT rfl ?_|refine aw_condF rfl ?_|(refine aw_cond rfl (fun hb=>?_) (fun hb=>?_)<;>try cases hb)|refine aw_block ?_|refine aw_skip ?_|refine aw_exit ?_|refine aw_ret ?_)
  refine dK_eq (of_val [1] 2 (by decide +kernel) true) rfl rfl rfl ⟨nums_pure _, trivial⟩ ?_
  repeat' (first|refine aw_seq ?_|refine aw_region ?_|refine aw_draw [] ?_|refine opsK_done ?_|refine opsK_on rfl ?_|refine opsK_off rfl ?_|(refine opsK_bool rfl rfl rfl (fun hb=>?_) (fun hb=>?_)<;>try cases hb)|refine opsK_of rfl rfl rfl ?_|refine opsK_new rfl rfl rfl ?_|refine dK_done ?_|refine dK_on rfl ?_|refine dK_off ⟨_,rfl,nofun⟩ ?_|(refine dK_bool rfl rfl rfl (fun hb=>?_) (fun hb=>?_)<;>try cases hb)|refine dK_of rfl rfl rfl ?_|refine aw_condT rfl ?_|refine aw_condF rfl ?_|(refine aw_cond rfl (fun hb=>?_) (fun hb=>?_)<;>try cases hb)|refine aw_block ?_|refine aw_skip ?_|refine aw_exit ?_|refine aw_ret ?_)
  refine dK_low (primesN_spec [(2, 0), (0, 2)] false (ok _ (by decide)) (by decide)) rfl rfl (by
    show [PV.vec [[.vec (lowLL (words (digs 2))) false, .vec [] false], [.vec [] false, .vec (lowLL (words (digs 2))) false]] false] = _
    rw [lowLL_words]
    simp only [List.map, cuC]
    rw [digs_zero]
    rfl) ⟨cubes_pure _, trivial⟩ ?_
  rw [ex3.1, ex3.2]
  repeat' (first|refine aw_seq ?_|refine aw_region ?_|refine aw_draw [] ?_|refine opsK_done ?_|refine opsK_on rfl ?_|refine opsK_off rfl ?_|(refine opsK_bool rfl rfl rfl (fun hb=>?_) (fun hb=>?_)<;>try cases hb)|refine opsK_of rfl rfl rfl ?_|refine opsK_new rfl rfl rfl ?_|refine dK_done ?_|refine dK_on rfl ?_|refine dK_off ⟨_,rfl,nofun⟩ ?_|(refine dK_bool rfl rfl rfl (fun hb=>?_) (fun hb=>?_)<;>try cases hb)|refine dK_of rfl rfl rfl ?_|refine aw_condT rfl ?_|refine aw_condF rfl ?_|(refine aw_cond rfl (fun hb=>?_) (fun hb=>?_)<;>try cases hb)|refine aw_block ?_|refine aw_skip ?_|refine aw_exit ?_|refine aw_ret ?_)
  refine opsK_eq (of_val [1, 2] 6 (by decide +kernel) true) rfl rfl rfl ⟨nums_pure _, trivial⟩ rfl ?_
  repeat' (first|refine aw_seq ?_|refine aw_region ?_|refine aw_draw [] ?_|refine opsK_done ?_|refine opsK_on rfl ?_|refine opsK_off rfl ?_|(refine opsK_bool rfl rfl rfl (fun hb=>?_) (fun hb=>?_)<;>try cases hb)|refine opsK_of rfl rfl rfl ?_|refine opsK_new rfl rfl rfl ?_|refine dK_done ?_|refine dK_on rfl ?_|refine dK_off ⟨_,rfl,nofun⟩ ?_|(refine dK_bool rfl rfl rfl (fun hb=>?_) (fun hb=>?_)<;>try cases hb)|refine dK_of rfl rfl rfl ?_|refine aw_condT rfl ?_|refine aw_condF rfl ?_|(refine aw_cond rfl (fun hb=>?_) (fun hb=>?_)<;>try cases hb)|refine aw_block ?_|refine aw_skip ?_|refine aw_exit ?_|refine aw_ret ?_)
  refine opsK_eq (of_val [3] 8 (by decide +kernel) true) rfl rfl rfl ⟨nums_pure _, trivial⟩ rfl ?_
  repeat' (first|refine aw_seq ?_|refine aw_region ?_|refine aw_draw [] ?_|refine opsK_done ?_|refine opsK_on rfl ?_|refine opsK_off rfl ?_|(refine opsK_bool rfl rfl rfl (fun hb=>?_) (fun hb=>?_)<;>try cases hb)|refine opsK_of rfl rfl rfl ?_|refine opsK_new rfl rfl rfl ?_|refine dK_done ?_|refine dK_on rfl ?_|refine dK_off ⟨_,rfl,nofun⟩ ?_|(refine dK_bool rfl rfl rfl (fun hb=>?_) (fun hb=>?_)<;>try cases hb)|refine dK_of rfl rfl rfl ?_|refine aw_condT rfl ?_|refine aw_condF rfl ?_|(refine aw_cond rfl (fun hb=>?_) (fun hb=>?_)<;>try cases hb)|refine aw_block ?_|refine aw_skip ?_|refine aw_exit ?_|refine aw_ret ?_)
  refine opsK_eq (of_val [1] 2 (by decide +kernel) true) rfl rfl rfl ⟨nums_pure _, trivial⟩ rfl ?_
  repeat' (first|refine aw_seq ?_|refine aw_region ?_|refine aw_draw [] ?_|refine opsK_done ?_|refine opsK_on rfl ?_|refine opsK_off rfl ?_|(refine opsK_bool rfl rfl rfl (fun hb=>?_) (fun hb=>?_)<;>try cases hb)|refine opsK_of rfl rfl rfl ?_|refine opsK_new rfl rfl rfl ?_|refine dK_done ?_|refine dK_on rfl ?_|refine dK_off ⟨_,rfl,nofun⟩ ?_|(refine dK_bool rfl rfl rfl (fun hb=>?_) (fun hb=>?_)<;>try cases hb)|refine dK_of rfl rfl rfl ?_|refine aw_condT rfl ?_|refine aw_condF rfl ?_|(refine aw_cond rfl (fun hb=>?_) (fun hb=>?_)<;>try cases hb)|refine aw_block ?_|refine aw_skip ?_|refine aw_exit ?_|refine aw_ret ?_)
  refine opsK_eqLow (primesN_spec [(6, 0), (8, 2)] false (ok _ (by decide)) (by decide)) rfl rfl (by
    show [PV.vec [[.vec (lowLL (words (digs 6))) false, .vec [] false], [.vec (lowLL (words (digs 8))) false, .vec (lowLL (words (digs 2))) false]] false] = _
    rw [lowLL_words, lowLL_words, lowLL_words]
    simp only [List.map, cuC]
    rw [digs_zero]
    rfl) ⟨cubes_pure _, trivial⟩ rfl ?_
  rw [ex4.1, ex4.2]
  repeat' (first|refine aw_seq ?_|refine aw_region ?_|refine aw_draw [] ?_|refine opsK_done ?_|refine opsK_on rfl ?_|refine opsK_off rfl ?_|(refine opsK_bool rfl rfl rfl (fun hb=>?_) (fun hb=>?_)<;>try cases hb)|refine opsK_of rfl rfl rfl ?_|refine opsK_new rfl rfl rfl ?_|refine dK_done ?_|refine dK_on rfl ?_|refine dK_off ⟨_,rfl,nofun⟩ ?_|(refine dK_bool rfl rfl rfl (fun hb=>?_) (fun hb=>?_)<;>try cases hb)|refine dK_of rfl rfl rfl ?_|refine aw_condT rfl ?_|refine aw_condF rfl ?_|(refine aw_cond rfl (fun hb=>?_) (fun hb=>?_)<;>try cases hb)|refine aw_block ?_|refine aw_skip ?_|refine aw_exit ?_|refine aw_ret ?_)
  refine opsK_eq (same_spec [(6, 0), (10, 0), (12, 0)] [(6, 0), (10, 0), (12, 0)] false true (ok _ (by decide)) (ok _ (by decide))) rfl rfl rfl ⟨cubes_pure _, ras_pure _, trivial⟩ rfl ?_
  rw [sameL.2 rfl]
  repeat' (first|refine aw_seq ?_|refine aw_region ?_|refine aw_draw [] ?_|refine opsK_done ?_|refine opsK_on rfl ?_|refine opsK_off rfl ?_|(refine opsK_bool rfl rfl rfl (fun hb=>?_) (fun hb=>?_)<;>try cases hb)|refine opsK_of rfl rfl rfl ?_|refine opsK_new rfl rfl rfl ?_|refine dK_done ?_|refine dK_on rfl ?_|refine dK_off ⟨_,rfl,nofun⟩ ?_|(refine dK_bool rfl rfl rfl (fun hb=>?_) (fun hb=>?_)<;>try cases hb)|refine dK_of rfl rfl rfl ?_|refine aw_condT rfl ?_|refine aw_condF rfl ?_|(refine aw_cond rfl (fun hb=>?_) (fun hb=>?_)<;>try cases hb)|refine aw_block ?_|refine aw_skip ?_|refine aw_exit ?_|refine aw_ret ?_)
  refine opsK_eq (same_spec [(2, 0)] [(2, 0)] false true (ok _ (by decide)) (ok _ (by decide))) rfl rfl rfl ⟨cubes_pure _, ras_pure _, trivial⟩ rfl ?_
  rw [sameL.2 rfl]
  repeat' (first|refine aw_seq ?_|refine aw_region ?_|refine aw_draw [] ?_|refine opsK_done ?_|refine opsK_on rfl ?_|refine opsK_off rfl ?_|(refine opsK_bool rfl rfl rfl (fun hb=>?_) (fun hb=>?_)<;>try cases hb)|refine opsK_of rfl rfl rfl ?_|refine opsK_new rfl rfl rfl ?_|refine dK_done ?_|refine dK_on rfl ?_|refine dK_off ⟨_,rfl,nofun⟩ ?_|(refine dK_bool rfl rfl rfl (fun hb=>?_) (fun hb=>?_)<;>try cases hb)|refine dK_of rfl rfl rfl ?_|refine aw_condT rfl ?_|refine aw_condF rfl ?_|(refine aw_cond rfl (fun hb=>?_) (fun hb=>?_)<;>try cases hb)|refine aw_block ?_|refine aw_skip ?_|refine aw_exit ?_|refine aw_ret ?_)
  refine opsK_eq (same_spec [(0, 0)] [(0, 0)] false true (ok _ (by decide)) (ok _ (by decide))) rfl rfl rfl ⟨cubes_pure _, ras_pure _, trivial⟩ rfl ?_
  rw [sameL.2 rfl]
  repeat' (first|refine aw_seq ?_|refine aw_region ?_|refine aw_draw [] ?_|refine opsK_done ?_|refine opsK_on rfl ?_|refine opsK_off rfl ?_|(refine opsK_bool rfl rfl rfl (fun hb=>?_) (fun hb=>?_)<;>try cases hb)|refine opsK_of rfl rfl rfl ?_|refine opsK_new rfl rfl rfl ?_|refine dK_done ?_|refine dK_on rfl ?_|refine dK_off ⟨_,rfl,nofun⟩ ?_|(refine dK_bool rfl rfl rfl (fun hb=>?_) (fun hb=>?_)<;>try cases hb)|refine dK_of rfl rfl rfl ?_|refine aw_condT rfl ?_|refine aw_condF rfl ?_|(refine aw_cond rfl (fun hb=>?_) (fun hb=>?_)<;>try cases hb)|refine aw_block ?_|refine aw_skip ?_|refine aw_exit ?_|refine aw_ret ?_)
  refine opsK_eq (same_spec [(6, 0), (12, 0), (8, 2)] [(6, 0), (12, 0), (8, 2)] false true (ok _ (by decide)) (ok _ (by decide))) rfl rfl rfl ⟨cubes_pure _, ras_pure _, trivial⟩ rfl ?_
  rw [sameL.2 rfl]
  repeat' (first|refine aw_seq ?_|refine aw_region ?_|refine aw_draw [] ?_|refine opsK_done ?_|refine opsK_on rfl ?_|refine opsK_off rfl ?_|(refine opsK_bool rfl rfl rfl (fun hb=>?_) (fun hb=>?_)<;>try cases hb)|refine opsK_of rfl rfl rfl ?_|refine opsK_new rfl rfl rfl ?_|refine dK_done ?_|refine dK_on rfl ?_|refine dK_off ⟨_,rfl,nofun⟩ ?_|(refine dK_bool rfl rfl rfl (fun hb=>?_) (fun hb=>?_)<;>try cases hb)|refine dK_of rfl rfl rfl ?_|refine aw_condT rfl ?_|refine aw_condF rfl ?_|(refine aw_cond rfl (fun hb=>?_) (fun hb=>?_)<;>try cases hb)|refine aw_block ?_|refine aw_skip ?_|refine aw_exit ?_|refine aw_ret ?_)
  exact ret_ok rfl trivial rfl
end Go.Proofs.YtifohjijhhjdkaaDoor

namespace Go.Proofs.YtifohjijhhjdkaaDoor
open Go.RowKit
set_option linter.unusedVariables false
attribute [local irreducible] aw opsK dK

theorem mak_ok {a b : Nat} (ha : a < 256) (hb : b < 256) : Ok64 (makC a b) := by
  have e1 : a &&& b ≤ a := Nat.and_le_left
  have e2 : a &&& 63 ≤ a := Nat.and_le_left
  have e3 : a &&& b &&& 63 ≤ a &&& b := Nat.and_le_left
  have e4 : a &&& 63 &&& (255 - b) ≤ a &&& 63 := Nat.and_le_left
  exact ⟨by show 2 * (a &&& b &&& 63) < _; omega, by show 2 * (a &&& 63 &&& (255 - b)) < _; omega⟩
theorem fit_ok {x : RawX} (hx : RawXok x) : Ok64 (fitC x) := by
  obtain ⟨ha, hb⟩ := hx
  unfold fitC
  split
  · have e1 : x.1 &&& 254 ≤ x.1 := Nat.and_le_left
    have e2 : x.2.1 &&& 254 ≤ x.2.1 := Nat.and_le_left
    exact ⟨by show x.1 &&& 254 < _; omega, by show x.2.1 &&& 254 < _; omega⟩
  · exact mak_ok ha hb
theorem rawL_ok {l : List RawX} (hl : ∀ x ∈ l, RawXok x) : ∀ c ∈ rawL l, Ok64 c := fun c hc => by
  obtain ⟨x, hx, rfl⟩ := List.mem_map.1 hc
  exact fit_ok (hl x (List.mem_of_mem_take hx))
theorem rawL_len (l : List RawX) : (rawL l).length ≤ 8 := by rw [rawL, List.length_map, List.length_take]; omega
theorem primesL_ok (l : List Cu) : ∀ c ∈ primesL l, Ok64 c := fun c hc => by
  unfold primesL at hc
  split at hc
  · exact sortC_64 (fun c hc => prL_64 (fun r hr => mem_lt hr) hc) c hc
  · cases hc
def lisC (x : List Cu) : List PV := [.vec (x.map raC) false]
set_option maxHeartbeats 8000000 in
theorem normalPrimes_law (l : List RawX) (m : List Cu) (f1 f2 : Bool) (hl : ∀ x ∈ l, RawXok x) (hm : ∀ c ∈ m, Ok64 c) : Spec Tryd.prog 3 [.vec (l.map rawC) f1, .vec (m.map raC) f2] (· = .val (.bool true)) := by
  have hrl := rawL_len l
  have hro := rawL_ok hl
  have hrp : pureLL (l.map rawC) := pureLL_enc rawC_pure l
  refine spec_intro ok3 (Nat.le_of_ble_eq_true rfl) fun C hC => ?_
  repeat' (first|refine aw_seq ?_|refine aw_region ?_|refine aw_draw [] ?_|refine opsK_done ?_|refine opsK_on rfl ?_|refine opsK_off rfl ?_|(refine opsK_bool rfl rfl rfl (fun hb=>?_) (fun hb=>?_)<;>try cases hb)|refine opsK_of rfl rfl rfl ?_|refine opsK_new rfl rfl rfl ?_|refine dK_done ?_|refine dK_on rfl ?_|refine dK_off ⟨_,rfl,nofun⟩ ?_|(refine dK_bool rfl rfl rfl (fun hb=>?_) (fun hb=>?_)<;>try cases hb)|refine dK_of rfl rfl rfl ?_|refine aw_condT rfl ?_|refine aw_condF rfl ?_|(refine aw_cond rfl (fun hb=>?_) (fun hb=>?_)<;>try cases hb)|refine aw_block ?_|refine aw_skip ?_|refine aw_exit ?_|refine aw_ret ?_)
  refine opsK_eq awake19_spec rfl rfl rfl trivial rfl ?_
  repeat' (first|refine aw_seq ?_|refine aw_region ?_|refine aw_draw [] ?_|refine opsK_done ?_|refine opsK_on rfl ?_|refine opsK_off rfl ?_|(refine opsK_bool rfl rfl rfl (fun hb=>?_) (fun hb=>?_)<;>try cases hb)|refine opsK_of rfl rfl rfl ?_|refine opsK_new rfl rfl rfl ?_|refine dK_done ?_|refine dK_on rfl ?_|refine dK_off ⟨_,rfl,nofun⟩ ?_|(refine dK_bool rfl rfl rfl (fun hb=>?_) (fun hb=>?_)<;>try cases hb)|refine dK_of rfl rfl rfl ?_|refine aw_condT rfl ?_|refine aw_condF rfl ?_|(refine aw_cond rfl (fun hb=>?_) (fun hb=>?_)<;>try cases hb)|refine aw_block ?_|refine aw_skip ?_|refine aw_exit ?_|refine aw_ret ?_)
  refine opsK_eq (list14_spec l f1 hl) rfl rfl rfl ⟨hrp, trivial⟩ rfl ?_
  repeat' (first|refine aw_seq ?_|refine aw_region ?_|refine aw_draw [] ?_|refine opsK_done ?_|refine opsK_on rfl ?_|refine opsK_off rfl ?_|(refine opsK_bool rfl rfl rfl (fun hb=>?_) (fun hb=>?_)<;>try cases hb)|refine opsK_of rfl rfl rfl ?_|refine opsK_new rfl rfl rfl ?_|refine dK_done ?_|refine dK_on rfl ?_|refine dK_off ⟨_,rfl,nofun⟩ ?_|(refine dK_bool rfl rfl rfl (fun hb=>?_) (fun hb=>?_)<;>try cases hb)|refine dK_of rfl rfl rfl ?_|refine aw_condT rfl ?_|refine aw_condF rfl ?_|(refine aw_cond rfl (fun hb=>?_) (fun hb=>?_)<;>try cases hb)|refine aw_block ?_|refine aw_skip ?_|refine aw_exit ?_|refine aw_ret ?_)
  refine opsK_own (few19_own m f2) mk_own (ras_pure _) rfl rfl ⟨ras_pure _, trivial⟩ ?_
  repeat' (first|refine aw_seq ?_|refine aw_region ?_|refine aw_draw [] ?_|refine opsK_done ?_|refine opsK_on rfl ?_|refine opsK_off rfl ?_|(refine opsK_bool rfl rfl rfl (fun hb=>?_) (fun hb=>?_)<;>try cases hb)|refine opsK_of rfl rfl rfl ?_|refine opsK_new rfl rfl rfl ?_|refine dK_done ?_|refine dK_on rfl ?_|refine dK_off ⟨_,rfl,nofun⟩ ?_|(refine dK_bool rfl rfl rfl (fun hb=>?_) (fun hb=>?_)<;>try cases hb)|refine dK_of rfl rfl rfl ?_|refine aw_condT rfl ?_|refine aw_condF rfl ?_|(refine aw_cond rfl (fun hb=>?_) (fun hb=>?_)<;>try cases hb)|refine aw_block ?_|refine aw_skip ?_|refine aw_exit ?_|refine aw_ret ?_)
  refine opsK_eq (list14_spec l f1 hl) rfl rfl rfl ⟨hrp, trivial⟩ rfl ?_
  refine opsK_new (E_append (k := 0) (m := (rawL l).map raC) (fl := false) rfl rfl rfl (fun c hc => by obtain ⟨y, _, rfl⟩ := List.mem_map.1 hc; rfl) rfl (by
    show (((m.take 6).map raC).length + ((rawL l).map raC).length) * 16 ≤ _
    rw [List.length_map, List.length_map, List.length_take]; omega)) rfl rfl ?_
  refine opsK_sub (subA_freeze (k := 19) (id := 1) (b := ⟨2, (m.take 6 ++ rawL l).map raC⟩) rfl (by rw [List.map_append]; rfl) (ras_pure _)) ?_
  have hxs : ∀ x ∈ [rawL l, m.take 6 ++ rawL l], (∀ c ∈ x, Ok64 c) ∧ x.length ≤ 1000000 := by
    intro x hx
    rcases List.mem_cons.1 hx with rfl | hx
    · exact ⟨hro, by omega⟩
    · rw [List.mem_singleton] at hx
      subst hx
      refine ⟨fun c hc => ?_, by rw [List.length_append, List.length_take]; omega⟩
      rcases List.mem_append.1 hc with h | h
      · exact hm c (List.mem_of_mem_take h)
      · exact hro c h
  obtain ⟨xs, hx⟩ : ∃ xs, xs = [rawL l, m.take 6 ++ rawL l] := ⟨_, rfl⟩
  rw [← hx] at hxs
  have hxl : xs.length = 2 := by rw [hx]; rfl
  have hxp : ∀ D, innLL D (xs.map lisC) := fun D => innLL_mono (fun _ h => h.elim) _ (pureLL_enc (enc := lisC) (fun x => ⟨ras_pure x, trivial⟩) xs)
  repeat' (first|refine aw_seq ?_|refine aw_region ?_|refine aw_draw [] ?_|refine opsK_done ?_|refine opsK_on rfl ?_|refine opsK_off rfl ?_|(refine opsK_bool rfl rfl rfl (fun hb=>?_) (fun hb=>?_)<;>try cases hb)|refine opsK_of rfl rfl rfl ?_|refine opsK_new rfl rfl rfl ?_|refine dK_done ?_|refine dK_on rfl ?_|refine dK_off ⟨_,rfl,nofun⟩ ?_|(refine dK_bool rfl rfl rfl (fun hb=>?_) (fun hb=>?_)<;>try cases hb)|refine dK_of rfl rfl rfl ?_|refine aw_condT rfl ?_|refine aw_condF rfl ?_|(refine aw_cond rfl (fun hb=>?_) (fun hb=>?_)<;>try cases hb)|refine aw_block ?_|refine aw_skip ?_|refine aw_exit ?_|refine aw_ret ?_)
  refine aw_loopH hC (fun i => i ≤ 2) (fun i => 2 - i) 0 (fun i => [(20, .vec (xs.map lisC) true), (21, .val (.int .i64 2)), (22, .val (.int .i64 (i : Int)))]) (fun _ => []) (Nat.le_refl _) 0 (Nat.zero_le _)
    ⟨⟨by rw [hx]; rfl, hxp _⟩, ⟨rfl, trivial⟩, ⟨rfl, trivial⟩, trivial⟩ trivial ?_
  intro i hi
  have hinc : IntKind.i64.wrap ((i : Int) + 1) = ((i + 1 : Nat) : Int) := IntWalk.i64_in _ ⟨by omega, by omega⟩
  iterate 2 (first|refine aw_seq ?_|refine aw_region ?_|refine aw_draw [] ?_|refine opsK_done ?_|refine opsK_on rfl ?_|refine opsK_off rfl ?_|(refine opsK_bool rfl rfl rfl (fun hb=>?_) (fun hb=>?_)<;>try cases hb)|refine opsK_of rfl rfl rfl ?_|refine opsK_new rfl rfl rfl ?_|refine dK_done ?_|refine dK_on rfl ?_|refine dK_off ⟨_,rfl,nofun⟩ ?_|(refine dK_bool rfl rfl rfl (fun hb=>?_) (fun hb=>?_)<;>try cases hb)|refine dK_of rfl rfl rfl ?_|refine aw_condT rfl ?_|refine aw_condF rfl ?_|(refine aw_cond rfl (fun hb=>?_) (fun hb=>?_)<;>try cases hb)|refine aw_block ?_|refine aw_skip ?_|refine aw_exit ?_|refine aw_ret ?_)
  refine opsK_bool rfl rfl rfl (fun hb => ?_) (fun hb => ?_)
  · have hil : i < xs.length := by have := of_decide_eq_true hb; omega
    have hxi := hxs _ (List.getElem_mem hil)
    clear hb
    have hpo := primesL_ok xs[i]
    repeat' (first|refine aw_seq ?_|refine aw_region ?_|refine aw_draw [] ?_|refine opsK_done ?_|refine opsK_on rfl ?_|refine opsK_off rfl ?_|(refine opsK_bool rfl rfl rfl (fun hb=>?_) (fun hb=>?_)<;>try cases hb)|refine opsK_of rfl rfl rfl ?_|refine opsK_new rfl rfl rfl ?_|refine dK_done ?_|refine dK_on rfl ?_|refine dK_off ⟨_,rfl,nofun⟩ ?_|(refine dK_bool rfl rfl rfl (fun hb=>?_) (fun hb=>?_)<;>try cases hb)|refine dK_of rfl rfl rfl ?_|refine aw_condT rfl ?_|refine aw_condF rfl ?_|(refine aw_cond rfl (fun hb=>?_) (fun hb=>?_)<;>try cases hb)|refine aw_block ?_|refine aw_skip ?_|refine aw_exit ?_|refine aw_ret ?_)
    refine opsK_of (E_iaddr (xs := xs) (g := lisC) rfl rfl i rfl hil rfl) rfl rfl ?_
    repeat' (first|refine aw_seq ?_|refine aw_region ?_|refine aw_draw [] ?_|refine opsK_done ?_|refine opsK_on rfl ?_|refine opsK_off rfl ?_|(refine opsK_bool rfl rfl rfl (fun hb=>?_) (fun hb=>?_)<;>try cases hb)|refine opsK_of rfl rfl rfl ?_|refine opsK_new rfl rfl rfl ?_|refine dK_done ?_|refine dK_on rfl ?_|refine dK_off ⟨_,rfl,nofun⟩ ?_|(refine dK_bool rfl rfl rfl (fun hb=>?_) (fun hb=>?_)<;>try cases hb)|refine dK_of rfl rfl rfl ?_|refine aw_condT rfl ?_|refine aw_condF rfl ?_|(refine aw_cond rfl (fun hb=>?_) (fun hb=>?_)<;>try cases hb)|refine aw_block ?_|refine aw_skip ?_|refine aw_exit ?_|refine aw_ret ?_)
    refine opsK_eq (makeAll_spec xs[i] false hxi.1 hxi.2) rfl rfl rfl ⟨ras_pure _, trivial⟩ rfl ?_
    refine opsK_eq (primesN_spec xs[i] false hxi.1 hxi.2) rfl rfl rfl ⟨cubes_pure _, trivial⟩ rfl ?_
    repeat' (first|refine aw_seq ?_|refine aw_region ?_|refine aw_draw [] ?_|refine opsK_done ?_|refine opsK_on rfl ?_|refine opsK_off rfl ?_|(refine opsK_bool rfl rfl rfl (fun hb=>?_) (fun hb=>?_)<;>try cases hb)|refine opsK_of rfl rfl rfl ?_|refine opsK_new rfl rfl rfl ?_|refine dK_done ?_|refine dK_on rfl ?_|refine dK_off ⟨_,rfl,nofun⟩ ?_|(refine dK_bool rfl rfl rfl (fun hb=>?_) (fun hb=>?_)<;>try cases hb)|refine dK_of rfl rfl rfl ?_|refine aw_condT rfl ?_|refine aw_condF rfl ?_|(refine aw_cond rfl (fun hb=>?_) (fun hb=>?_)<;>try cases hb)|refine aw_block ?_|refine aw_skip ?_|refine aw_exit ?_|refine aw_ret ?_)
    refine opsK_eq (primesR_spec xs[i] false hxi.1 hxi.2) rfl rfl rfl ⟨ras_pure _, trivial⟩ rfl ?_
    generalize wholeE xs[i] = er
    repeat' (first|refine aw_seq ?_|refine aw_region ?_|refine aw_draw [] ?_|refine opsK_done ?_|refine opsK_on rfl ?_|refine opsK_off rfl ?_|(refine opsK_bool rfl rfl rfl (fun hb=>?_) (fun hb=>?_)<;>try cases hb)|refine opsK_of rfl rfl rfl ?_|refine opsK_new rfl rfl rfl ?_|refine dK_done ?_|refine dK_on rfl ?_|refine dK_off ⟨_,rfl,nofun⟩ ?_|(refine dK_bool rfl rfl rfl (fun hb=>?_) (fun hb=>?_)<;>try cases hb)|refine dK_of rfl rfl rfl ?_|refine aw_condT rfl ?_|refine aw_condF rfl ?_|(refine aw_cond rfl (fun hb=>?_) (fun hb=>?_)<;>try cases hb)|refine aw_block ?_|refine aw_skip ?_|refine aw_exit ?_|refine aw_ret ?_)
    · exact absurd hb (by simp)
    · clear hb
      refine opsK_eq (same_spec (primesL xs[i]) (primesL xs[i]) false false hpo hpo) rfl rfl rfl ⟨cubes_pure _, ras_pure _, trivial⟩ rfl ?_
      rw [sameL.2 rfl]
      repeat' (first|refine aw_seq ?_|refine aw_region ?_|refine aw_draw [] ?_|refine opsK_done ?_|refine opsK_on rfl ?_|refine opsK_off rfl ?_|(refine opsK_bool rfl rfl rfl (fun hb=>?_) (fun hb=>?_)<;>try cases hb)|refine opsK_of rfl rfl rfl ?_|refine opsK_new rfl rfl rfl ?_|refine dK_done ?_|refine dK_on rfl ?_|refine dK_off ⟨_,rfl,nofun⟩ ?_|(refine dK_bool rfl rfl rfl (fun hb=>?_) (fun hb=>?_)<;>try cases hb)|refine dK_of rfl rfl rfl ?_|refine aw_condT rfl ?_|refine aw_condF rfl ?_|(refine aw_cond rfl (fun hb=>?_) (fun hb=>?_)<;>try cases hb)|refine aw_block ?_|refine aw_skip ?_|refine aw_exit ?_|refine aw_ret ?_)
      exact ⟨i + 1, by omega, by omega, ⟨⟨rfl, hxp _⟩, ⟨rfl, trivial⟩, ⟨by show some _ = some _; rw [hinc], trivial⟩, trivial⟩, trivial⟩
  · clear hb
    repeat' (first|refine aw_seq ?_|refine aw_region ?_|refine aw_draw [] ?_|refine opsK_done ?_|refine opsK_on rfl ?_|refine opsK_off rfl ?_|(refine opsK_bool rfl rfl rfl (fun hb=>?_) (fun hb=>?_)<;>try cases hb)|refine opsK_of rfl rfl rfl ?_|refine opsK_new rfl rfl rfl ?_|refine dK_done ?_|refine dK_on rfl ?_|refine dK_off ⟨_,rfl,nofun⟩ ?_|(refine dK_bool rfl rfl rfl (fun hb=>?_) (fun hb=>?_)<;>try cases hb)|refine dK_of rfl rfl rfl ?_|refine aw_condT rfl ?_|refine aw_condF rfl ?_|(refine aw_cond rfl (fun hb=>?_) (fun hb=>?_)<;>try cases hb)|refine aw_block ?_|refine aw_skip ?_|refine aw_exit ?_|refine aw_ret ?_)
    exact ret_ok rfl trivial rfl
end Go.Proofs.YtifohjijhhjdkaaDoor

namespace Go.Proofs.YtifohjijhhjdkaaDoor
open Go.ChangeShapes Go.WideShapes Go.ChangeAt Go.RowKit
set_option linter.unusedVariables false

theorem rows_enc {α : Type} {enc : α → List PV} {Q : α → Prop} : ∀ {ll : List (List PV)}, (∀ l ∈ ll, ∃ x, Q x ∧ l = enc x) → ∃ xs : List α, (∀ x ∈ xs, Q x) ∧ ll = xs.map enc
  | [], _ => ⟨[], fun _ h => (by cases h), rfl⟩
  | l :: ll, h => by
    obtain ⟨x, h1, rfl⟩ := h l (List.mem_cons_self ..)
    obtain ⟨xs, h2, rfl⟩ := rows_enc fun l hl => h l (List.mem_cons_of_mem _ hl)
    refine ⟨x :: xs, fun y hy => ?_, rfl⟩
    rcases List.mem_cons.1 hy with rfl | hy
    · exact h1
    · exact h2 y hy
theorem shapeVs_two {P : Program} {s t : TypeId} : ∀ {ps : List PV}, ShapeVs P [s, t] ps → ∃ a b, ps = [a, b] ∧ ShapeV P s a ∧ ShapeV P t b
  | [a, b], ⟨h1, h2, _⟩ => ⟨a, b, rfl, h1, h2⟩
theorem int_u8 {m : Int} (h : (Lit.int .u8 m).wf = true) : ∃ a : Nat, a < 256 ∧ m = (a : Int) := by
  simp only [Lit.wf, Bool.and_eq_true, decide_eq_true_eq] at h
  obtain ⟨h1, h2⟩ := h
  have h3 : m ≤ 255 := h2
  have h4 : 0 ≤ m := h1
  exact ⟨m.toNat, by omega, by omega⟩
theorem int_u64 {m : Int} (h : (Lit.int .u64 m).wf = true) : ∃ a : Nat, a < 18446744073709551616 ∧ m = (a : Int) := by
  simp only [Lit.wf, Bool.and_eq_true, decide_eq_true_eq] at h
  obtain ⟨h1, h2⟩ := h
  have h3 : m ≤ 18446744073709551615 := h2
  have h4 : 0 ≤ m := h1
  exact ⟨m.toNat, by omega, by omega⟩
theorem raw_shape {n : Nat} {l : List PV} (h : Shape Tryd.prog n 70 l) : ∃ x : RawX, RawXok x ∧ l = rawC x := by
  have hl := shape_len h (k := 3) (by kernel_rfl)
  obtain ⟨n1, h1⟩ := shape_field h (i := 0) (off := 0) (ty := 5) (sz := 1) (by kernel_rfl)
  obtain ⟨n2, h2⟩ := shape_field h (i := 1) (off := 1) (ty := 5) (sz := 1) (by kernel_rfl)
  obtain ⟨n3, h3⟩ := shape_field h (i := 2) (off := 2) (ty := 4) (sz := 1) (by kernel_rfl)
  match l, hl with
  | [a, b, c], _ =>
    obtain ⟨m1, w1, e1⟩ := shape_int (show Shape _ n1 _ [a] from h1) (k := .u8) (by kernel_rfl)
    obtain ⟨m2, w2, e2⟩ := shape_int (show Shape _ n2 _ [b] from h2) (k := .u8) (by kernel_rfl)
    obtain ⟨o, e3⟩ := shape_bool (show Shape _ n3 _ [c] from h3) (by kernel_rfl)
    obtain ⟨x, hx, rfl⟩ := int_u8 w1
    obtain ⟨y, hy, rfl⟩ := int_u8 w2
    simp only [List.cons.injEq, and_true] at e1 e2 e3
    subst e1; subst e2; subst e3
    exact ⟨(x, y, o), ⟨hx, hy⟩, rfl⟩
theorem raws_shape {p : PV} (h : ShapeV Tryd.prog 22 p) : ∃ (l : List RawX) (fl : Bool), (∀ x ∈ l, RawXok x) ∧ p = .vec (l.map rawC) fl := by
  obtain ⟨n, ll, fl, _, h2, rfl⟩ := shapeV_slice h (e := 70) (by kernel_rfl)
  obtain ⟨xs, h3, rfl⟩ := rows_enc (enc := rawC) (Q := RawXok) fun l hl => raw_shape (h2 l hl)
  exact ⟨xs, fl, h3, rfl⟩
theorem mask_shape {n : Nat} {l : List PV} (h : Shape Tryd.prog n 92 l) : ∃ x : Cu, Ok64 x ∧ l = raC x := by
  have hl := shape_len h (k := 2) (by kernel_rfl)
  obtain ⟨n1, h1⟩ := shape_field h (i := 0) (off := 0) (ty := 50) (sz := 1) (by kernel_rfl)
  obtain ⟨n2, h2⟩ := shape_field h (i := 1) (off := 1) (ty := 50) (sz := 1) (by kernel_rfl)
  match l, hl with
  | [a, b], _ =>
    obtain ⟨m1, w1, e1⟩ := shape_int (show Shape _ n1 _ [a] from h1) (k := .u64) (by kernel_rfl)
    obtain ⟨m2, w2, e2⟩ := shape_int (show Shape _ n2 _ [b] from h2) (k := .u64) (by kernel_rfl)
    obtain ⟨x, hx, rfl⟩ := int_u64 w1
    obtain ⟨y, hy, rfl⟩ := int_u64 w2
    simp only [List.cons.injEq, and_true] at e1 e2
    subst e1; subst e2
    exact ⟨(x, y), ⟨hx, hy⟩, rfl⟩
theorem masks_shape {p : PV} (h : ShapeV Tryd.prog 23 p) : ∃ (l : List Cu) (fl : Bool), (∀ x ∈ l, Ok64 x) ∧ p = .vec (l.map raC) fl := by
  obtain ⟨n, ll, fl, _, h2, rfl⟩ := shapeV_slice h (e := 92) (by kernel_rfl)
  obtain ⟨xs, h3, rfl⟩ := rows_enc (enc := raC) (Q := Ok64) fun l hl => mask_shape (h2 l hl)
  exact ⟨xs, fl, h3, rfl⟩
end Go.Proofs.YtifohjijhhjdkaaDoor

namespace Go.Proofs.YtifohjijhhjdkaaDoor
open Go.ChangeShapes Go.WideShapes Go.ChangeAt Go.RowKit
set_option linter.unusedVariables false

theorem normalPrimes_spec : ∀ ps, ShapeVs Tryd.prog Tryd.f3.params.toList ps → pureL ps → Spec Tryd.prog 3 ps (· = .val (.bool true)) := by
  intro ps hs hp
  rw [show Tryd.f3.params.toList = [22, 23] by kernel_rfl] at hs
  obtain ⟨a, b, rfl, ha, hb⟩ := shapeVs_two hs
  obtain ⟨l, f1, hl, rfl⟩ := raws_shape ha
  obtain ⟨m, f2, hm, rfl⟩ := masks_shape hb
  exact normalPrimes_law l m f1 f2 hl hm

set_option maxRecDepth 100000 in
theorem normalPrimes_lifted (os : Os) (started : os.Started) (H : Type) (enc : TypeId × Value → H) :
    ReturnsInHanded {} Tryd.checked os 3 .any (fun w args => (Rows.normalPrimesSpec.pre enc Tryd.prog Tryd.f3 [] false w args ∧ laidMetH Tryd.prog laidV w) ∧ sizedMet enc Tryd.prog Tryd.f3 (OpenSpec.ofChange Rows.normalPrimesSpec) false w args)
      (Rows.normalPrimesSpec.post enc Tryd.prog Tryd.f3 false true false false) := by
  refine returnsInHanded_of_change_and (C := Tryd.checked) (X := fun w _ => laidMetH Tryd.prog laidV w) (fun _ _ _ hh h => h.of_heap hh) own started (by kernel_rfl) Tryd.func3
    (ChangeSpec.witness_shaped (enc := enc) (C := Tryd.checked) (os := os) (X := fun w _ => laidMetH Tryd.prog laidV w) false (World.doorLaid Tryd.prog 400 os) #[.slice none 0 0, .slice none 0 0] 8 rfl (World.shaped_of_RefB (by kernel_rfl) (by kernel_rfl)) (by kernel_rfl) (by kernel_rfl) (by kernel_rfl) (door_met os _)) ?_
  intro W base args ds gs before hval hW _ hwt hL _
  exact law_contract (P := Tryd.prog) (G := partsG Tryd.prog Tryd.f3.params.toList) (by kernel_rfl) (inG_of (by kernel_rfl)) laidOut (parsOk_of (by kernel_rfl)) (tb := 4) (by kernel_rfl) (by kernel_rfl) rfl (fun ds hd => by
    match ds, hd with
    | [a, b], _ => exact ⟨rfl, rfl, rfl⟩) normalPrimes_spec W (globs_in hL) base args ds gs before hval hW hwt

theorem normalPrimes_holds : Rows.NormalPrimesSaid :=
  OpenClaim.holds_of_wide 3 Tryd.f3 rfl rfl rfl rfl rfl rfl rfl ⟨rfl, rfl, rfl, rfl, rfl⟩ rfl rfl rfl rfl rfl (by kernel_rfl) Tryd.func3 (by kernel_rfl)
    (of_decide_eq_true (by kernel_rfl)) (by unfold Func.isWrapper; first | (rw [if_pos (by decide +kernel)]; kernel_rfl) | (rw [if_neg (by decide +kernel)]; exact ⟨rfl, rfl⟩))
    (fun os started H enc _ => normalPrimes_lifted os started H enc)

theorem normalPrimes_card : Rows.NormalPrimesCardSaid :=
  Claim7.holds_tied_plain_at .later [] [.data] true (true, "c7fd4cb4d20504a09c7802d2052d5f0090777415a3ba22e0854d01f4f941d3aa") false
    normalPrimes_holds (fun _ h => by cases h) (by kernel_rfl) (fun _ h => by cases h) normalPrimes_row_tie rfl ⟨rfl, rfl⟩ (by kernel_rfl) rfl
    (fun f fn hf hfn => by
      obtain rfl : f = 3 := Option.some.inj ((show Tryd.prog.funcNamed "arbac/arbaclaw19.NormalPrimes" = some 3 by kernel_rfl).symm.trans hf) |>.symm
      obtain rfl : fn = Tryd.f3 := (Option.some.inj (Tryd.func3.symm.trans hfn)).symm
      exact ⟨by kernel_rfl, fun j t ht => by
        rw [show Tryd.f3.params = #[22, 23] by kernel_rfl] at ht
        have hm : t ∈ [22, 23] := by simpa using Array.mem_of_getElem? ht
        have hall : ([22, 23].all fun u => !Tryd.prog.wantsStandIn u) = true := by kernel_rfl
        exact (show Tryd.prog.wantsStandIn t = false by simpa using List.all_eq_true.1 hall t hm)⟩)
    (by kernel_rfl)
#print axioms normalPrimes_card
end Go.Proofs.YtifohjijhhjdkaaDoor
