/-
 Proved: for every input the law MeaningEmpty returns true, never panics, and leaves its arguments as0 they were, on the given card's conditions (the table of the bits package reads as0 the program's text lays it, and is tied to it).
-/
import Derived.SevenTiedAt
import Derived.Test.YtbmhdpflloepkaaGreatDoorCards
import Derived.Test.YtbmhdpflloepkaaGreatDoorTie
import Derived.Test.YtbmhdpflloepkaaGreatDoorMq5
set_option linter.unusedSimpArgs false
set_option linter.unusedVariables false
set_option linter.unusedSectionVars false

namespace Go.Proofs.YtbmhdpflloepkaaGreatDoor
open Go.RowKit
set_option linter.unusedVariables false
attribute [local irreducible] aw opsK dK

def cmpE (x y : En) : Int := if x.u = y.u then (x.r : Int) - y.r else (x.u : Int) - y.u
theorem cmpE_lt (x y : En) : cmpE x y < 0 ↔ ltE x y := by
 unfold cmpE ltE
 split <;> omega
theorem cmpE_eq (x y : En) : cmpE x y = 0 ↔ x.u = y.u ∧ x.r = y.r := by
 unfold cmpE
 split <;> omega
def KeyOk (x : En) : Prop := x.u ≤ 256 ∧ x.r ≤ 63
set_option maxHeartbeats 1000000 in
theorem cmpE_spec (x y : En) (hx : KeyOk x) (hy : KeyOk y) : Spec Tryz.prog 90 [.agg (enC x), .agg (enC y)] (· = .val (.int .i64 (cmpE x y))) := by
 obtain ⟨h1, h2⟩ := hx
 obtain ⟨h3, h4⟩ := hy
 refine spec_intro ok90 (Nat.le_of_ble_eq_true rfl) fun C hC => ?_
 have w1 : IntKind.i64.wrap ((x.u : Int) - y.u) = (x.u : Int) - y.u := IntWalk.i64_in _ ⟨by omega, by omega⟩
 have w2 : IntKind.i64.wrap ((x.r : Int) - y.r) = (x.r : Int) - y.r := IntWalk.i64_in _ ⟨by omega, by omega⟩
 refine aw_seq ?_
 refine aw_region ?_
 refine opsK_ofAlt rfl rfl rfl ?_
 refine opsK_ofAlt rfl rfl rfl ?_
 by_cases hu : x.u = y.u
 · have hc : cmpE x y = (x.r : Int) - y.r := by unfold cmpE; rw [if_pos hu]
   have d1 : (!((x.u : Int) == (y.u : Int))) = false := by rw [hu]; simp
   rw [hc, ← w2]
   (repeat' (first | refine at_dst 9 ?_ | refine at_dstD 9 ?_ | refine st ?_ | (apply B<;>intro hb<;>try cases hb))) <;> (try refine At.mk ?_)
   refine opsK_of (E_boolEq rfl d1) rfl rfl ?_
   (refine go ?_;repeat' (apply B<;>intro hb<;>try cases hb))
   exact ret_ok rfl trivial rfl
 · have hc : cmpE x y = (x.u : Int) - y.u := by unfold cmpE; rw [if_neg hu]
   have d1 : (!((x.u : Int) == (y.u : Int))) = true := by simp; omega
   rw [hc, ← w1]
   (repeat' (first | refine at_dst 9 ?_ | refine at_dstD 9 ?_ | refine st ?_ | (apply B<;>intro hb<;>try cases hb))) <;> (try refine At.mk ?_)
   refine opsK_of (E_boolEq rfl d1) rfl rfl ?_
   (refine go ?_;repeat' (apply B<;>intro hb<;>try cases hb))
   exact ret_ok rfl trivial rfl
structure Place (m : List En) (y : En) (k : Nat) (found : Bool) : Prop where
 le : k ≤ m.length
 before : ∀ (i : Nat) (h : i < m.length), i < k → ltE m[i] y
 after : ∀ (i : Nat) (h : i < m.length), k ≤ i → ¬ ltE m[i] y
 found : found = true ↔ ∃ q, m[k]? = some q ∧ q.u = y.u ∧ q.r = y.r
theorem half_wrap (i j : Nat) (h : i + j < 9223372036854775808) : IntKind.i64.wrap ((((i + j : Nat) : Int)).fdiv (2 ^ min (Int.toNat 1) IntKind.u64.bits)) = (((i + j) / 2 : Nat) : Int) := by
 have e1 := fdiv_nat (i + j) 1 (by decide)
 rw [show ((1 : Nat) : Int) = (1 : Int) from rfl] at e1
 rw [e1]
 exact IntWalk.i64_in _ ⟨by omega, by omega⟩
set_option maxHeartbeats 4000000 in
theorem binS_spec (m : List En) (f : Bool) (y : En) (hs : SortedE m) (hm : ∀ x ∈ m, KeyOk x) (hy : KeyOk y) (hlen : m.length ≤ 100000) : Spec Tryz.prog 89 [.vec (m.map enC) f, .agg (enC y), .fn 90 []] fun r => ∃ k found, Place m y k found ∧ r = .tup [.val (.int .i64 ((k : Nat) : Int)), .val (.bool found)] := by
 have hnl := ens_len m
 have hce : ∀ D, innL D (enC y) := fun D => innL_mono (fun _ h => h.elim) _ (enC_pure y)
 have hsi : ∀ (i j : Nat) (hi : i < m.length) (hj : j < m.length), i < j → ltE m[i] m[j] := fun i j hi hj h => List.pairwise_iff_getElem.1 hs i j hi hj h
 refine spec_intro ok89 (Nat.le_of_ble_eq_true rfl) fun C hC => ?_
 refine aw_seq ?_
 refine aw_region ?_
 refine opsK_ofAlt rfl rfl rfl ?_
 (refine go ?_;repeat' (apply B<;>intro hb<;>try cases hb))
 refine aw_loopH hC (fun (z : Nat × Nat) => z.1 ≤ z.2 ∧ z.2 ≤ m.length ∧ (∀ (i : Nat) (h : i < m.length), i < z.1 → ltE m[i] y) ∧ (∀ (i : Nat) (h : i < m.length), z.2 ≤ i → ¬ ltE m[i] y)) (fun z => z.2 - z.1) 0 (fun z => [(0, .vec (m.map enC) f), (2, .fn 90 []), (4, .cp (enC y)), (8, .val (.int .i64 m.length)), (9, .val (.int .i64 (z.1 : Int))), (10, .val (.int .i64 (z.2 : Int)))]) (fun _ => []) (Nat.zero_le _) (0, m.length) ⟨Nat.zero_le _, Nat.le_refl _, fun i h h2 => absurd h2 (Nat.not_lt_zero _), fun i h h2 => absurd h (by simp only at h2; omega)⟩
  ⟨⟨rfl, ens_inn _ _⟩, ⟨rfl, trivial⟩, ⟨rfl, hce _⟩, ⟨by rw [← hnl]; rfl, trivial⟩, ⟨rfl, trivial⟩, ⟨by rw [← hnl]; rfl, trivial⟩, trivial⟩ trivial ?_
 rintro ⟨i, j⟩ ⟨hij, hj, hbef, haft⟩
 simp only at hij hj hbef haft
 (repeat' (first | refine at_dst 17 ?_ | refine at_dstD 17 ?_ | refine st ?_ | (apply B<;>intro hb<;>try cases hb))) <;> (try refine At.mk ?_)
 refine opsK_bool rfl rfl rfl (fun hb => ?_) (fun hb => ?_)
 · have hlt : i < j := by have := of_decide_eq_true hb; omega
   have hk : (i + j) / 2 < m.length := by omega
   have hka := hm _ (List.getElem_mem hk)
   have hsa := fun q hq => hsi q ((i + j) / 2) hq hk
   have hsb := fun q hq => hsi ((i + j) / 2) q hk hq
   clear hb
   (repeat' (first | refine at_dst 20 ?_ | refine at_dstD 20 ?_ | refine st ?_ | (apply B<;>intro hb<;>try cases hb))) <;> (try refine At.mk ?_)
   refine opsK_int rfl rfl rfl (show IntKind.i64.wrap ((i : Int) + (j : Int)) = ((i + j : Nat) : Int) from IntWalk.i64_in _ ⟨by omega, by omega⟩) ?_
   (repeat' (first | refine at_dst 21 ?_ | refine at_dstD 21 ?_ | refine st ?_ | (apply B<;>intro hb<;>try cases hb))) <;> (try refine At.mk ?_)
   refine opsK_int rfl rfl rfl (w64 (i + j) (by omega)) ?_
   (repeat' (first | refine at_dst 23 ?_ | refine at_dstD 23 ?_ | refine st ?_ | (apply B<;>intro hb<;>try cases hb))) <;> (try refine At.mk ?_)
   refine opsK_int rfl rfl rfl (half_wrap i j (by omega)) ?_
   generalize hkd : (i + j) / 2 = k at hk hka hsa hsb ⊢
   (repeat' (first | refine at_dst 27 ?_ | refine at_dstD 27 ?_ | refine st ?_ | (apply B<;>intro hb<;>try cases hb))) <;> (try refine At.mk ?_)
   refine dK_of (E_iaddr (xs := m) (g := enC) rfl rfl k rfl hk rfl) rfl rfl ?_
   generalize hpd : m[k] = p at hka hsa hsb ⊢
   have hknc : IntKind.i64.wrap ((k : Int) + 1) = ((k + 1 : Nat) : Int) := IntWalk.i64_in _ ⟨by omega, by omega⟩
   (repeat' (first | refine at_dst 30 ?_ | refine at_dstD 30 ?_ | refine st ?_ | (apply B<;>intro hb<;>try cases hb))) <;> (try refine At.mk ?_)
   refine dK_eq (cmpE_spec p y hka hy) rfl rfl rfl ⟨enC_pure p, enC_pure y, trivial⟩ ?_
   (repeat' (first | refine at_dst 31 ?_ | refine at_dstD 31 ?_ | refine st ?_ | (apply B<;>intro hb<;>try cases hb))) <;> (try refine At.mk ?_)
   refine dK_bool rfl rfl rfl (fun hb => ?_) (fun hb => ?_)
   · have hl : ltE p y := (cmpE_lt p y).1 (of_decide_eq_true hb)
     clear hb
     (refine go ?_;repeat' (apply B<;>intro hb<;>try cases hb))
     refine ⟨(k + 1, j), ⟨by simp only; omega, hj, fun q hq h => ?_, haft⟩, by simp only; omega, ⟨⟨rfl, ens_inn _ _⟩, ⟨rfl, trivial⟩, ⟨rfl, hce _⟩, ⟨rfl, trivial⟩, ⟨by show some _ = some _; rw [hknc], trivial⟩, ⟨rfl, trivial⟩, trivial⟩, trivial⟩
     simp only at h
     rcases Nat.lt_or_eq_of_le (Nat.le_of_lt_succ h) with h | rfl
     · have := hsa q hq h
       unfold ltE at this hl ⊢
       omega
     · rw [hpd]; exact hl
   · have hl : ¬ ltE p y := fun h => by have := of_decide_eq_false hb; exact this ((cmpE_lt p y).2 h)
     clear hb
     (refine go ?_;repeat' (apply B<;>intro hb<;>try cases hb))
     refine ⟨(i, k), ⟨by simp only; omega, by simp only; omega, hbef, fun q hq h => ?_⟩, by simp only; omega, ⟨⟨rfl, ens_inn _ _⟩, ⟨rfl, trivial⟩, ⟨rfl, hce _⟩, ⟨rfl, trivial⟩, ⟨rfl, trivial⟩, ⟨rfl, trivial⟩, trivial⟩, trivial⟩
     simp only at h
     rcases Nat.lt_or_eq_of_le h with h | rfl
     · have := hsb q hq h
       unfold ltE at this hl ⊢
       omega
     · rw [hpd]; exact hl
 · have hlt : i = j := by have := of_decide_eq_false hb; omega
   subst hlt
   clear hb
   by_cases hi : i < m.length
   · have d1 : decide ((i : Int) < (m.length : Nat)) = true := decide_eq_true (by omega)
     have hget : m[i]? = some m[i] := List.getElem?_eq_getElem hi
     have hka := hm _ (List.getElem_mem hi)
     (repeat' (first | refine at_dst 38 ?_ | refine at_dstD 38 ?_ | refine st ?_ | (apply B<;>intro hb<;>try cases hb))) <;> (try refine At.mk ?_)
     refine dK_of (E_boolEq rfl d1) rfl rfl ?_
     (repeat' (first | refine at_dst 43 ?_ | refine at_dstD 43 ?_ | refine st ?_ | (apply B<;>intro hb<;>try cases hb))) <;> (try refine At.mk ?_)
     refine dK_on rfl ?_
     refine dK_of (E_iaddr (xs := m) (g := enC) rfl rfl i rfl hi rfl) rfl rfl ?_
     generalize m[i] = p at hget hka ⊢
     (repeat' (first | refine at_dst 46 ?_ | refine at_dstD 46 ?_ | refine st ?_ | (apply B<;>intro hb<;>try cases hb))) <;> (try refine At.mk ?_)
     refine dK_on rfl ?_
     refine dK_eq (cmpE_spec p y hka hy) rfl rfl rfl ⟨enC_pure p, enC_pure y, trivial⟩ ?_
     (repeat' (first | refine at_dst 47 ?_ | refine at_dstD 47 ?_ | refine st ?_ | (apply B<;>intro hb<;>try cases hb))) <;> (try refine At.mk ?_)
     refine dK_on rfl ?_
     refine dK_bool rfl rfl rfl (fun hb => ?_) (fun hb => ?_)
     · have he := (cmpE_eq p y).1 (eq_of_beq hb)
       (refine go ?_;repeat' (apply B<;>intro hb<;>try cases hb))
       exact ret_ok rfl ⟨trivial, trivial, trivial⟩ ⟨i, true, ⟨hj, hbef, haft, ⟨fun _ => ⟨p, hget, he⟩, fun _ => rfl⟩⟩, rfl⟩
     · have he : ¬ (p.u = y.u ∧ p.r = y.r) := fun h => by
        have h2 := (cmpE_eq p y).2 h
        rw [h2] at hb
        exact absurd hb (by decide)
       (refine go ?_;repeat' (apply B<;>intro hb<;>try cases hb))
       exact ret_ok rfl ⟨trivial, trivial, trivial⟩ ⟨i, false, ⟨hj, hbef, haft, ⟨fun h => (by cases h), fun ⟨q, hq, h⟩ => by rw [hget] at hq; cases hq; exact absurd h he⟩⟩, rfl⟩
   · have d1 : decide ((i : Int) < (m.length : Nat)) = false := decide_eq_false (by omega)
     have hget : m[i]? = none := List.getElem?_eq_none (by omega)
     (repeat' (first | refine at_dst 38 ?_ | refine at_dstD 38 ?_ | refine st ?_ | (apply B<;>intro hb<;>try cases hb))) <;> (try refine At.mk ?_)
     refine dK_of (E_boolEq rfl d1) rfl rfl ?_
     (refine go ?_;repeat' (apply B<;>intro hb<;>try cases hb))
     exact ret_ok rfl ⟨trivial, trivial, trivial⟩ ⟨i, false, ⟨hj, hbef, haft, ⟨fun h => (by cases h), fun ⟨q, hq, h⟩ => by rw [hget] at hq; cases hq⟩⟩, rfl⟩
end Go.Proofs.YtbmhdpflloepkaaGreatDoor

namespace Go.Proofs.YtbmhdpflloepkaaGreatDoor
open Go.RowKit
set_option linter.unusedVariables false
attribute [local irreducible] aw opsK dK

theorem ens_cell (l : List En) : ∀ c ∈ l.map enC, c.length = 3 := fun c hc => by obtain ⟨y, _, rfl⟩ := List.mem_map.1 hc; rfl
set_option maxHeartbeats 1000000 in
theorem cloneE_own (xs : List En) (fl : Bool) (hlen : xs.length ≤ 100000) : NSpec Tryz.prog 49 [.vec (xs.map enC) fl] .own ⟨3, xs.map enC⟩ := by
 refine nspec_intro ok49 (Nat.le_of_ble_eq_true rfl) fun C hC => ?_
 cases xs with
 | nil =>
   (refine go ?_;repeat' (apply B<;>intro hb<;>try cases hb))
   refine opsK_isnil (.inl ⟨_, _, rfl⟩) rfl fun b => ?_
   cases b
   · repeat' (first | refine opsK_sub (subA_ownNil (k := 5) rfl 3 (by decide)) ?_ | (first|refine st ?_|(apply B<;>intro hb<;>try cases hb)))
     exact ⟨_, _, rfl, .inl rfl, _, rfl, rfl⟩
   · iterate 6 (first|refine st ?_|(apply B<;>intro hb<;>try cases hb))
     refine aw_sub (subA_ownNil (k := 2) rfl 3 (by decide) _) ?_
     (refine go ?_;repeat' (apply B<;>intro hb<;>try cases hb))
     exact ⟨_, _, rfl, .inl rfl, _, rfl, rfl⟩
 | cons x xs =>
   repeat' (first | refine opsK_sub (subA_ownNil (k := 5) rfl 3 (by decide)) ?_ | (first|refine st ?_|(apply B<;>intro hb<;>try cases hb)))
   refine opsK_new (E_append (k := 0) (m := (x :: xs).map enC) (fl := fl) rfl rfl rfl (ens_cell (x :: xs)) rfl (by
    show (([] : List (List PV)).length + ((x :: xs).map enC).length) * 24 ≤ _
    rw [List.length_map, List.length_nil]; omega)) rfl rfl ?_
   (refine go ?_;repeat' (apply B<;>intro hb<;>try cases hb))
   exact ⟨_, _, rfl, .inl rfl, _, rfl, by rw [List.nil_append]; rfl⟩
set_option maxHeartbeats 1000000 in
theorem findP_spec (m : List En) (f : Bool) (u r : Nat) (hs : SortedE m) (hm : ∀ x ∈ m, KeyOk x) (hy : u ≤ 256 ∧ r ≤ 63) (hlen : m.length ≤ 100000) : Spec Tryz.prog 50 [bookP m f, .val (.int .i64 (u : Int)), .val (.int .i64 (r : Int))] fun v => ∃ k found, Place m ⟨u, r, 0⟩ k found ∧ v = .tup [.val (.int .i64 ((k : Nat) : Int)), .val (.bool found)] := by
 refine spec_intro ok50 (Nat.le_of_ble_eq_true rfl) fun C hC => ?_
 (repeat' (first | refine at_dst 15 ?_ | refine at_dstD 15 ?_ | refine st ?_ | (apply B<;>intro hb<;>try cases hb))) <;> (try refine At.mk ?_)
 refine opsK_spec rfl rfl (binS_spec m f ⟨u, r, 0⟩ hs hm hy hlen) ⟨ens_pure m, enC_pure (⟨u, r, 0⟩ : En), trivial, trivial⟩ rfl ?_
 rintro v ⟨k, found, hp, rfl⟩
 (refine go ?_;repeat' (apply B<;>intro hb<;>try cases hb))
 all_goals exact ret_ok rfl ⟨trivial, trivial, trivial⟩ ⟨k, _, hp, rfl⟩
theorem E_slcV {esz n k a : Nat} {e : Env} {h : Heap} {x lo : Operand} {b : Bx} (hx : ev e x = some (.own k)) (hb : h k = some b) (hlo : intAt (ev e lo) = some (a : Int)) (ha : a ≤ b.elems.length) (hz : b.esz = esz) : fEval (.slc esz x (some lo) none none) e h n = some (.view k a (b.elems.length - a), h) := by
 simp only [fEval, hx, hb, bndAt, hlo]
 rw [if_pos ⟨⟨by omega, by omega, by omega⟩, hz⟩]
 simp
set_option maxHeartbeats 1000000 in
theorem insertEnd_spec (m : List En) (x : En) (hlen : m.length ≤ 100000) : MSpec Tryz.prog 51 ⟨3, m.map enC⟩ [.val (.int .i64 (m.length : Int)), .vec [enC x] true] .own fun b' => b' = ⟨3, (m ++ [x]).map enC⟩ := by
 have hnl := ens_len m
 have d1 : (((m.length : Nat) : Int) == (((m.map enC).length : Nat) : Int)) = true := by rw [hnl]; simp
 refine mspec_intro ok51 (Nat.le_of_ble_eq_true rfl) fun C hC => ?_
 (repeat' (first | refine at_dst 12 ?_ | refine at_dstD 12 ?_ | refine st ?_ | (apply B<;>intro hb<;>try cases hb))) <;> (try refine At.mk ?_)
 refine opsK_ofAlt (E_slcV (a := m.length) (b := ⟨3, m.map enC⟩) rfl rfl rfl (by show m.length ≤ (m.map enC).length; omega) rfl) rfl rfl ?_
 (repeat' (first | refine at_dst 22 ?_ | refine at_dstD 22 ?_ | refine st ?_ | (apply B<;>intro hb<;>try cases hb))) <;> (try refine At.mk ?_)
 refine opsK_of (E_boolEq rfl d1) rfl rfl ?_
 (repeat' (first | refine at_dst 25 ?_ | refine at_dstD 25 ?_ | refine st ?_ | (apply B<;>intro hb<;>try cases hb))) <;> (try refine At.mk ?_)
 refine opsK_new (E_append (k := 0) (m := [enC x]) (fl := true) (b := ⟨3, m.map enC⟩) rfl rfl rfl (fun q hq => by rw [List.mem_singleton] at hq; subst hq; rfl) rfl (by show ((m.map enC).length + 1) * 24 ≤ _; rw [ens_len]; omega)) rfl rfl ?_
 have put1 : m.map enC ++ [enC x] = (m ++ [x]).map enC := by rw [List.map_append]; rfl
 simp only
 rw [put1]
 (refine go ?_;repeat' (apply B<;>intro hb<;>try cases hb))
 exact ⟨_, _, rfl, .inl rfl, 1, _, rfl, rfl, ens_pure _, rfl⟩
theorem place_end {m : List En} {y : En} {k : Nat} {found : Bool} (h : Place m y k found) (hall : ∀ q ∈ m, ltE q y) : k = m.length ∧ found = false := by
 have hk : k = m.length := by
  rcases Nat.lt_or_eq_of_le h.le with hl | rfl
  · exact absurd (hall _ (List.getElem_mem hl)) (h.after k hl (Nat.le_refl _))
  · rfl
 refine ⟨hk, ?_⟩
 cases found with
 | false => rfl
 | true =>
   obtain ⟨q, hq, _⟩ := h.found.1 rfl
   rw [hk, List.getElem?_eq_none (Nat.le_refl _)] at hq
   cases hq
set_option maxHeartbeats 2000000 in
theorem assignEnd_spec (m : List En) (f : Bool) (x : En) (hs : SortedE m) (hm : ∀ x ∈ m, EnOk x) (hx : EnOk x) (hall : ∀ q ∈ m, ltE q x) (hlen : m.length ≤ 10000) : Spec Tryz.prog 13 [bookP m f, .val (.int .i64 (x.u : Int)), .val (.int .i64 (x.r : Int)), .val (.int .i64 (x.t : Int))] (· = .tup [bookP (m ++ [x]) false, .val (.int .i64 0)]) := by
 have hu := hx.u
 have hr := hx.r
 have ht := hx.t
 have hk : ∀ x ∈ m, KeyOk x := fun x hx => ⟨(hm x hx).u.2, (hm x hx).r.2⟩
 have d1 : decide ((x.u : Int) < 1) = false := decide_eq_false (by omega)
 have d2 : decide ((x.u : Int) > 256) = false := decide_eq_false (by omega)
 have d3 : decide ((x.r : Int) < 1) = false := decide_eq_false (by omega)
 have d4 : decide ((x.r : Int) > 63) = false := decide_eq_false (by omega)
 have d5 : decide ((x.t : Int) > 30000) = false := decide_eq_false (by omega)
 refine spec_intro ok13 (Nat.le_of_ble_eq_true rfl) fun C hC => ?_
 (repeat' (first | refine at_dst 18 ?_ | refine at_dstD 18 ?_ | refine st ?_ | (apply B<;>intro hb<;>try cases hb))) <;> (try refine At.mk ?_)
 refine opsK_on rfl ?_
 refine opsK_of (E_boolEq rfl d1) rfl rfl ?_
 (repeat' (first | refine at_dst 22 ?_ | refine at_dstD 22 ?_ | refine st ?_ | (apply B<;>intro hb<;>try cases hb))) <;> (try refine At.mk ?_)
 refine opsK_on rfl ?_
 refine opsK_of (E_boolEq rfl d2) rfl rfl ?_
 (repeat' (first | refine at_dst 26 ?_ | refine at_dstD 26 ?_ | refine st ?_ | (apply B<;>intro hb<;>try cases hb))) <;> (try refine At.mk ?_)
 refine opsK_on rfl ?_
 refine opsK_of (E_boolEq rfl d3) rfl rfl ?_
 (repeat' (first | refine at_dst 30 ?_ | refine at_dstD 30 ?_ | refine st ?_ | (apply B<;>intro hb<;>try cases hb))) <;> (try refine At.mk ?_)
 refine opsK_on rfl ?_
 refine opsK_of (E_boolEq rfl d4) rfl rfl ?_
 (repeat' (first | refine at_dst 37 ?_ | refine at_dstD 37 ?_ | refine st ?_ | (apply B<;>intro hb<;>try cases hb))) <;> (try refine At.mk ?_)
 refine opsK_on rfl ?_
 refine opsK_of (E_boolEq rfl d5) rfl rfl ?_
 (repeat' (first | refine at_dst 43 ?_ | refine at_dstD 43 ?_ | refine st ?_ | (apply B<;>intro hb<;>try cases hb))) <;> (try refine At.mk ?_)
 refine opsK_own (cloneE_own m f (by omega)) mk_own (by exact ens_pure m) rfl rfl ⟨ens_pure m, trivial⟩ ?_
 (repeat' (first | refine at_dst 48 ?_ | refine at_dstD 48 ?_ | refine st ?_ | (apply B<;>intro hb<;>try cases hb))) <;> (try refine At.mk ?_)
 refine opsK_spec rfl rfl (findP_spec m f x.u x.r hs hk ⟨hu.2, hr.2⟩ (by omega)) ⟨bookP_pure m f, trivial, trivial, trivial⟩ rfl ?_
 rintro v ⟨k, found, hp, rfl⟩
 obtain ⟨rfl, rfl⟩ := place_end hp (fun q hq => by have := hall q hq; unfold ltE at this ⊢; exact this)
 (repeat' (first | refine at_dst 64 ?_ | refine at_dstD 64 ?_ | refine st ?_ | (apply B<;>intro hb<;>try cases hb))) <;> (try refine At.mk ?_)
 refine opsK_mv (k := 0) (insertEnd_spec m x (by omega)) mk_own rfl rfl rfl rfl (ens_pure m) ⟨trivial, ⟨enC_pure x, trivial⟩, trivial⟩ ?_
 rintro b' hb' rfl
 (repeat' (first | refine at_dst 65 ?_ | refine at_dstD 65 ?_ | refine st ?_ | (apply B<;>intro hb<;>try cases hb))) <;> (try refine At.mk ?_)
 refine opsK_sub (subA_freeze (k := 10) rfl rfl (ens_pure _)) ?_
 (repeat' (first | refine at_dst 67 ?_ | refine at_dstD 67 ?_ | refine st ?_ | (apply B<;>intro hb<;>try cases hb))) <;> (try refine At.mk ?_)
 refine opsK_ofAlt rfl rfl rfl ?_
 (refine go ?_;repeat' (apply B<;>intro hb<;>try cases hb))
 exact ret_ok rfl ⟨bookP_pure _ _, trivial, trivial⟩ rfl
end Go.Proofs.YtbmhdpflloepkaaGreatDoor

namespace Go.Proofs.YtbmhdpflloepkaaGreatDoor
open Go.RowKit
set_option linter.unusedVariables false
attribute [local irreducible] aw opsK dK

theorem sortedP_unique : ∀ {l m : List Pr}, SortedP l → SortedP m → l.Perm m → l = m
 | [], m, _, _, h => (List.Perm.nil_eq h)
 | a :: l, [], _, _, h => by have := h.length_eq; simp at this
 | a :: l, b :: m, h1, h2, h => by
   have h1' := List.pairwise_cons.1 h1
   have h2' := List.pairwise_cons.1 h2
   have hab : a = b := by
    rcases List.mem_cons.1 (h.mem_iff.1 (List.mem_cons_self (a := a) (l := l))) with e | ha
    · exact e
    rcases List.mem_cons.1 (h.mem_iff.2 (List.mem_cons_self (a := b) (l := m))) with e | hb
    · exact e.symm
    have x1 := h1'.1 b hb
    have x2 := h2'.1 a ha
    omega
   subst hab
   rw [sortedP_unique h1'.2 h2'.2 (List.Perm.cons_inv h)]
theorem SortedP.take {l : List Pr} (h : SortedP l) (i : Nat) : SortedP (l.take i) := List.Pairwise.sublist (List.take_sublist i l) h
theorem SortedE.take {l : List En} (h : SortedE l) (i : Nat) : SortedE (l.take i) := List.Pairwise.sublist (List.take_sublist i l) h
theorem SortedP.nodup {l : List Pr} (h : SortedP l) : l.Nodup := List.Pairwise.imp (fun {a b} h e => by subst e; omega) h
theorem goodL_len {l : List Pr} (h : GoodL l) : l.length ≤ 4096 := by
 have hn : (l.map fun p => p.1 * 64 + p.2).Nodup := by
  rw [List.nodup_iff_pairwise_ne, List.pairwise_map]
  refine List.Pairwise.imp_of_mem (fun {a b} ha hb hab => ?_) h.asc
  have h1 := h.small a ha
  have h2 := h.small b hb
  show a.1 * 64 + a.2 ≠ b.1 * 64 + b.2
  omega
 have := nodup_le 4096 _ hn fun x hx => by
  obtain ⟨p, hp, rfl⟩ := List.mem_map.1 hx
  have := h.small p hp
  show p.1 * 64 + p.2 < 4096
  omega
 rwa [List.length_map] at this
set_option maxHeartbeats 4000000 in
theorem makeL_spec (x : Nat) (hx : x < 18446744073709551616) (raws : List En) (f : Bool) (us dy : Nat) : Spec Tryz.prog 11 [.agg [.val (.int .u64 (x : Int)), .vec (raws.map rawC) f, .val (.int .u8 (us : Int)), .val (.int .u8 (dy : Int))]] fun r => ∃ l fl m fm n d S fb, Told l m n d ∧ r = .tup [.agg (factP (hierP l S) (bookP m fb) n d), .agg (factR l fl m fm n d), .val (.bool true)] := by
 refine spec_intro ok11 (Nat.le_of_ble_eq_true rfl) fun C hC => ?_
 refine aw_seq ?_
 refine aw_region ?_
 refine opsK_ofAlt rfl rfl rfl ?_
 (repeat' (first | refine at_dst 17 ?_ | refine at_dstD 17 ?_ | refine st ?_ | (apply B<;>intro hb<;>try cases hb))) <;> (try refine At.mk ?_)
 refine opsK_spec rfl rfl (make20_spec x hx raws f us dy) ⟨⟨trivial, raws_pure raws, trivial, trivial, trivial⟩, trivial⟩ rfl ?_
 rintro r ⟨l, fl, m, fm, n, d, hT, rfl⟩
 have hgl := hT.l
 have hll := goodL_len hgl
 have hnl := prs_len l
 have hfr := factR_pure l fl m fm n d
 have hfc : ∀ D, innL D (factR l fl m fm n d) := fun D => innL_mono (fun _ h => h.elim) _ hfr
 have hpl : ∀ D, innLL D (l.map prC) := fun D => innLL_mono (fun _ h => h.elim) _ (prs_pure l)
 have hhp : ∀ D l S, (hierP l S).inn D := fun D l S => PV.inn_mono (fun _ h => h.elim) _ (hierP_pure l S)
 have hbp : ∀ D m f, (bookP m f).inn D := fun D m f => PV.inn_mono (fun _ h => h.elim) _ (bookP_pure m f)
 (repeat' (first | refine at_dst 18 ?_ | refine at_dstD 18 ?_ | refine st ?_ | (apply B<;>intro hb<;>try cases hb))) <;> (try refine At.mk ?_)
 refine opsK_sub (subA_freezeBox (k := 5) rfl rfl hfr) ?_
 refine opsK_spec rfl rfl hierNew_spec trivial rfl ?_
 rintro r ⟨S0, rfl⟩
 (refine go ?_;repeat' (apply B<;>intro hb<;>try cases hb))
 refine aw_loopH hC (fun (z : Nat × List Nat) => z.1 ≤ l.length) (fun z => l.length - z.1) 3 (fun z => [(2, .ptr 0 0 0), (3, .ptr 1 0 0), (5, .cp (factR l fl m fm n d)), (6, hierP (l.take z.1) z.2), (20, .vec (l.map prC) fl), (21, .val (.int .i64 l.length)), (22, .val (.int .i64 (z.1 : Int)))])
  (fun _ => [(0, ⟨4, [[.val (.pointer none), .val (.pointer none), .val (.int .i64 0), .val (.int .i64 0)]]⟩), (1, ⟨4, [[.vec [] true, .vec [] true, .val (.int .i64 0), .val (.int .i64 0)]]⟩)]) (Nat.zero_le _) (0, S0) (Nat.zero_le _)
  ⟨⟨rfl, show (0 : Nat) < 3 by decide⟩, ⟨rfl, show (1 : Nat) < 3 by decide⟩, ⟨rfl, hfc _⟩, ⟨rfl, hhp _ _ _⟩, ⟨rfl, hpl _⟩, ⟨by rw [← hnl]; rfl, trivial⟩, ⟨rfl, trivial⟩, trivial⟩
  ⟨⟨by decide, rfl, ⟨⟨trivial, trivial, trivial, trivial, trivial⟩, trivial⟩⟩, ⟨by decide, rfl, ⟨⟨trivial, trivial, trivial, trivial, trivial⟩, trivial⟩⟩, trivial⟩ ?_
 rintro ⟨i, S⟩ hi
 simp only at hi
 have hinc : IntKind.i64.wrap ((i : Int) + 1) = ((i + 1 : Nat) : Int) := IntWalk.i64_in _ ⟨by omega, by omega⟩
 (repeat' (first | refine at_dst 23 ?_ | refine at_dstD 23 ?_ | refine st ?_ | (apply B<;>intro hb<;>try cases hb))) <;> (try refine At.mk ?_)
 refine opsK_bool rfl rfl rfl (fun hb => ?_) (fun hb => ?_)
 · have hil : i < l.length := by have := of_decide_eq_true hb; omega
   have htk := take_snocG hil
   have hro := hgl.role _ (List.getElem_mem hil)
   have hsub : ∀ p ∈ l.take i ++ [l[i]], p ∈ l := fun p hp => by rw [← htk] at hp; exact List.mem_of_mem_take hp
   have hno : l[i] ∉ l.take i := fun h => by
    have hnd := SortedP.nodup (SortedP.take hgl.asc (i + 1))
    rw [htk, List.nodup_append] at hnd
    exact hnd.2.2 _ h _ (List.mem_singleton.2 rfl) rfl
   clear hb
   (refine go ?_;repeat' (apply B<;>intro hb<;>try cases hb))
   refine opsK_of (E_iaddr (xs := l) (g := prC) rfl rfl i rfl hil rfl) rfl rfl ?_
   generalize l[i] = p at htk hro hsub hno ⊢
   have hls := link_spec (l.take i) S p.1 p.2 (by omega) (by omega) hro.2.2.2.2 (fun q hq => hgl.small q (List.mem_of_mem_take hq)) (SortedP.nodup (SortedP.take hgl.asc i)) hno (hgl.acy.sub hsub) (by rw [List.length_take]; omega)
   (repeat' (first | refine at_dst 32 ?_ | refine at_dstD 32 ?_ | refine st ?_ | (apply B<;>intro hb<;>try cases hb))) <;> (try refine At.mk ?_)
   refine opsK_spec rfl rfl hls ⟨hierP_pure _ _, trivial, trivial, trivial⟩ rfl ?_
   rintro r ⟨l', S', hpm, hst, rfl⟩
   have hle : l' = l.take (i + 1) := by
    have hx1 : l'.Perm (l.take (i + 1)) := by rw [htk]; exact hpm
    exact sortedP_unique hst (SortedP.take hgl.asc (i + 1)) hx1
   subst hle
   (refine go ?_;repeat' (apply B<;>intro hb<;>try cases hb))
   exact ⟨(i + 1, S'), hil, by simp only; omega, ⟨⟨rfl, show (0 : Nat) < 3 by decide⟩, ⟨rfl, show (1 : Nat) < 3 by decide⟩, ⟨rfl, hfc _⟩, ⟨rfl, hhp _ _ _⟩, ⟨rfl, hpl _⟩, ⟨rfl, trivial⟩, ⟨by show some _ = some _; rw [hinc], trivial⟩, trivial⟩,
    ⟨⟨by decide, rfl, ⟨⟨trivial, trivial, trivial, trivial, trivial⟩, trivial⟩⟩, ⟨by decide, rfl, ⟨⟨trivial, trivial, trivial, trivial, trivial⟩, trivial⟩⟩, trivial⟩⟩
 · have hil : i = l.length := by have := of_decide_eq_false hb; omega
   subst hil
   clear hb hinc hi
   rw [List.take_length]
   have hml := hT.m.len
   have hmo := hT.m.ok
   have hms := hT.m.asc
   have hnm := ens_len m
   (repeat' (first | refine at_dst 41 ?_ | refine at_dstD 41 ?_ | refine st ?_ | (apply B<;>intro hb<;>try cases hb))) <;> (try refine At.mk ?_)
   refine opsK_eq bookNew_spec rfl rfl rfl trivial rfl ?_
   (refine go ?_;repeat' (apply B<;>intro hb<;>try cases hb))
   refine aw_loopH hC (fun (z : Nat × Bool) => z.1 ≤ m.length) (fun z => m.length - z.1) 3 (fun z => [(2, .ptr 0 0 0), (3, .ptr 1 0 0), (5, .cp (factR l fl m fm n d)), (6, hierP l S), (11, bookP (m.take z.1) z.2), (43, .vec (m.map enC) fm), (44, .val (.int .i64 m.length)), (45, .val (.int .i64 (z.1 : Int)))])
    (fun _ => [(0, ⟨4, [[.val (.pointer none), .val (.pointer none), .val (.int .i64 0), .val (.int .i64 0)]]⟩), (1, ⟨4, [[.vec [] true, .vec [] true, .val (.int .i64 0), .val (.int .i64 0)]]⟩)]) (Nat.zero_le _) (0, true) (Nat.zero_le _)
    ⟨⟨rfl, show (0 : Nat) < 3 by decide⟩, ⟨rfl, show (1 : Nat) < 3 by decide⟩, ⟨rfl, hfc _⟩, ⟨rfl, hhp _ _ _⟩, ⟨rfl, hbp _ _ _⟩, ⟨rfl, ens_inn _ _⟩, ⟨by rw [← hnm]; rfl, trivial⟩, ⟨rfl, trivial⟩, trivial⟩
    ⟨⟨by decide, rfl, ⟨⟨trivial, trivial, trivial, trivial, trivial⟩, trivial⟩⟩, ⟨by decide, rfl, ⟨⟨trivial, trivial, trivial, trivial, trivial⟩, trivial⟩⟩, trivial⟩ ?_
   rintro ⟨i, fb⟩ hi
   simp only at hi
   have hinc : IntKind.i64.wrap ((i : Int) + 1) = ((i + 1 : Nat) : Int) := IntWalk.i64_in _ ⟨by omega, by omega⟩
   (repeat' (first | refine at_dst 46 ?_ | refine at_dstD 46 ?_ | refine st ?_ | (apply B<;>intro hb<;>try cases hb))) <;> (try refine At.mk ?_)
   refine opsK_bool rfl rfl rfl (fun hb => ?_) (fun hb => ?_)
   · have hil : i < m.length := by have := of_decide_eq_true hb; omega
     have htk := take_snocG hil
     have hok := hmo _ (List.getElem_mem hil)
     have hall : ∀ q ∈ m.take i, ltE q m[i] := fun q hq => by
      have hx1 := SortedE.take hms (i + 1)
      unfold SortedE at hx1
      rw [htk, List.pairwise_append] at hx1
      exact hx1.2.2 q hq _ (List.mem_singleton.2 rfl)
     clear hb
     (refine go ?_;repeat' (apply B<;>intro hb<;>try cases hb))
     refine opsK_of (E_iaddr (xs := m) (g := enC) rfl rfl i rfl hil rfl) rfl rfl ?_
     generalize m[i] = p at htk hok hall ⊢
     have has := assignEnd_spec (m.take i) fb p (SortedE.take hms i) (fun q hq => hmo q (List.mem_of_mem_take hq)) hok hall (by rw [List.length_take]; omega)
     rw [← htk] at has
     (repeat' (first | refine at_dst 57 ?_ | refine at_dstD 57 ?_ | refine st ?_ | (apply B<;>intro hb<;>try cases hb))) <;> (try refine At.mk ?_)
     refine opsK_eq has rfl rfl rfl ⟨bookP_pure _ _, trivial, trivial, trivial, trivial⟩ rfl ?_
     (refine go ?_;repeat' (apply B<;>intro hb<;>try cases hb))
     exact ⟨(i + 1, false), hil, by simp only; omega, ⟨⟨rfl, show (0 : Nat) < 3 by decide⟩, ⟨rfl, show (1 : Nat) < 3 by decide⟩, ⟨rfl, hfc _⟩, ⟨rfl, hhp _ _ _⟩, ⟨rfl, hbp _ _ _⟩, ⟨rfl, ens_inn _ _⟩, ⟨rfl, trivial⟩, ⟨by show some _ = some _; rw [hinc], trivial⟩, trivial⟩,
      ⟨⟨by decide, rfl, ⟨⟨trivial, trivial, trivial, trivial, trivial⟩, trivial⟩⟩, ⟨by decide, rfl, ⟨⟨trivial, trivial, trivial, trivial, trivial⟩, trivial⟩⟩, trivial⟩⟩
   · have hil : i = m.length := by have := of_decide_eq_false hb; omega
     subst hil
     clear hb
     rw [List.take_length]
     repeat' (first | refine aw_drawU [] [(0, 16384)] [131071, 131071, 131071, 131071, 131071, 131071, 131071, 131071, 131071, 131071, 131071, 131071, 131071, 131071, 114687, 131071, 131071] (by kernel_rfl) ?_ | (first|refine st ?_|(apply B<;>intro hb<;>try cases hb)))
     exact ret_ok rfl ⟨factP_pure (hierP_pure l S) (bookP_pure m fb) n d, hfr, trivial, trivial⟩ ⟨l, fl, m, fm, n, d, S, fb, hT, rfl⟩
end Go.Proofs.YtbmhdpflloepkaaGreatDoor

namespace Go.Proofs.YtbmhdpflloepkaaGreatDoor
open Go.RowKit
set_option linter.unusedVariables false
attribute [local irreducible] aw opsK dK

structure RawF where
 x : Nat
 ms : List En
 f : Bool
 us : Nat
 dy : Nat
def RawFok (z : RawF) : Prop := z.x < 18446744073709551616
def rawF (z : RawF) : List PV := [.val (.int .u64 (z.x : Int)), .vec (z.ms.map rawC) z.f, .val (.int .u8 (z.us : Int)), .val (.int .u8 (z.dy : Int))]
theorem rawF_pure (z : RawF) : pureL (rawF z) := ⟨trivial, raws_pure z.ms, trivial, trivial, trivial⟩
theorem makeF_spec (z : RawF) (hz : RawFok z) : Spec Tryz.prog 11 [.agg (rawF z)] fun r => ∃ l fl m fm n d S fb, Told l m n d ∧ r = .tup [.agg (factP (hierP l S) (bookP m fb) n d), .agg (factR l fl m fm n d), .val (.bool true)] := makeL_spec z.x hz z.ms z.f z.us z.dy
end Go.Proofs.YtbmhdpflloepkaaGreatDoor

namespace Go.Proofs.YtbmhdpflloepkaaGreatDoor
open Go.RowKit
set_option linter.unusedVariables false
attribute [local irreducible] aw opsK dK

def holdsB (f : Fm) (N : Nat) (ms : List Int) : Bool := decide (typeOfE f = 0) && decide (typeOfT f = 1) && decide (evM N ms f = 1)
def violTo (M : Nat → Nat) (f : Fm) (u : Nat) : List Nat := ((List.range u).map (· + 1)).filter fun k => !holdsB f (M k) []
theorem violTo_succ (M : Nat → Nat) (f : Fm) (u : Nat) : violTo M f (u + 1) = if holdsB f (M (u + 1)) [] = true then violTo M f u else violTo M f u ++ [u + 1] := by
 unfold violTo
 rw [List.range_succ, List.map_append, List.filter_append, List.map_singleton, List.filter_cons, List.filter_nil]
 cases holdsB f (M (u + 1)) []
 · rfl
 · exact List.append_nil _
theorem violTo_len (M : Nat → Nat) (f : Fm) (u : Nat) : (violTo M f u).length ≤ u := by
 have : (violTo M f u).length ≤ ((List.range u).map (· + 1)).length := List.length_filter_le _ _
 rwa [List.length_map, List.length_range] at this
def violG (c : Con) (v : Bool) (M : Nat → Nat) (n : Nat) : List Nat := if c.kind = 1 ∧ okC c v = 0 then violTo M c.f n else []
def violV (l : List Nat) (r : PV) : Prop := ∃ fl, r = .vec (nums (intsN l)) fl
set_option maxHeartbeats 4000000 in
theorem violP_spec (a b : PV) (ha : a.pure) (hb : b.pure) (n d : Nat) (hn : n ≤ 256) (M : Nat → Nat) (hS : ∀ u : Nat, Spec Tryz.prog 14 [.agg (factP a b n d), .val (.int .i64 (u : Int))] (· = setN (M u))) {c : Con} {v : Bool} (h : ConOk c v) :
 Spec Tryz.prog 28 [.agg (conP c), .agg (factP a b n d)] (violV (violG c v M n)) := by
 have hd := h.depth
 have hsz := h.size
 have hfp : pureL (factP a b n d) := factP_pure ha hb n d
 have hus := usersP_spec a b ha hb n d hn
 have hck := checkCP_spec h
 refine spec_intro ok28 (Nat.le_of_ble_eq_true rfl) fun C hC => ?_
 refine aw_seq ?_
 refine aw_region ?_
 refine opsK_ofAlt rfl rfl rfl ?_
 refine opsK_ofAlt rfl rfl rfl ?_
 by_cases hk : c.kind = 1
 case neg =>
  have d1 : (!((c.kind : Int) == 1)) = true := by simp; omega
  have hg : violG c v M n = [] := by unfold violG; rw [if_neg fun h => hk h.1]
  rw [hg]
  (repeat' (first | refine at_dst 9 ?_ | refine at_dstD 9 ?_ | refine st ?_ | (apply B<;>intro hb<;>try cases hb))) <;> (try refine At.mk ?_)
  refine opsK_of (E_boolEq rfl d1) rfl rfl ?_
  (refine go ?_;repeat' (apply B<;>intro hb<;>try cases hb))
  exact ret_ok rfl trivial ⟨true, rfl⟩
 have d1 : (!((c.kind : Int) == 1)) = false := by simp; omega
 (repeat' (first | refine at_dst 9 ?_ | refine at_dstD 9 ?_ | refine st ?_ | (apply B<;>intro hb<;>try cases hb))) <;> (try refine At.mk ?_)
 refine opsK_of (E_boolEq rfl d1) rfl rfl ?_
 (repeat' (first | refine at_dst 12 ?_ | refine at_dstD 12 ?_ | refine st ?_ | (apply B<;>intro hb<;>try cases hb))) <;> (try refine At.mk ?_)
 refine opsK_on rfl ?_
 refine opsK_eq hck rfl rfl rfl ⟨conP_pure c, trivial⟩ rfl ?_
 by_cases h0 : okC c v = 0
 case neg =>
  have d2 : (!(okC c v == 0)) = true := by simp; exact h0
  have hg : violG c v M n = [] := by unfold violG; rw [if_neg fun h => h0 h.2]
  rw [hg]
  (repeat' (first | refine at_dst 13 ?_ | refine at_dstD 13 ?_ | refine st ?_ | (apply B<;>intro hb<;>try cases hb))) <;> (try refine At.mk ?_)
  refine opsK_on rfl ?_
  refine opsK_of (E_boolEq rfl d2) rfl rfl ?_
  (refine go ?_;repeat' (apply B<;>intro hb<;>try cases hb))
  exact ret_ok rfl trivial ⟨true, rfl⟩
 have d2 : (!(okC c v == 0)) = false := by simp; exact h0
 have hg : violG c v M n = violTo M c.f n := by unfold violG; rw [if_pos ⟨hk, h0⟩]
 rw [hg]
 (repeat' (first | refine at_dst 13 ?_ | refine at_dstD 13 ?_ | refine st ?_ | (apply B<;>intro hb<;>try cases hb))) <;> (try refine At.mk ?_)
 refine opsK_on rfl ?_
 refine opsK_of (E_boolEq rfl d2) rfl rfl ?_
 repeat' (first | refine opsK_sub (subA_ownNil (k := 5) rfl 1 (by decide)) ?_ | (first|refine st ?_|(apply B<;>intro hb<;>try cases hb)))
 refine aw_loopR hC (fun u => u ≤ n) (fun u => n - u) 1 (fun u => [(2, .cp (conP c)), (3, .cp (factP a b n d)), (5, .own 0), (6, .val (.int .i64 ((u + 1 : Nat) : Int)))])
  (fun u => [(0, ⟨1, nums (intsN (violTo M c.f u))⟩)]) (by omega) 0 (Nat.zero_le _) (fun i => i) (fun _ _ => rfl) injOn_id
  ⟨⟨_, rfl, .pure _ (conP_pure c)⟩, ⟨_, rfl, .pure _ hfp⟩, ⟨_, rfl, .own 0 (by decide)⟩, ⟨_, rfl, .pure _ trivial⟩, trivial⟩ ⟨⟨by decide, _, rfl, .same _ trivial⟩, trivial⟩ ?_
 intro u hu
 have hunc : IntKind.i64.wrap (((u + 1 : Nat) : Int) + 1) = ((u + 1 + 1 : Nat) : Int) := IntWalk.i64_in _ ⟨by omega, by omega⟩
 have hvl := violTo_len M c.f u
 have hst := violTo_succ M c.f u
 (repeat' (first | refine at_dst 17 ?_ | refine at_dstD 17 ?_ | refine st ?_ | (apply B<;>intro hb<;>try cases hb))) <;> (try refine At.mk ?_)
 refine opsK_eq hus rfl rfl rfl ⟨hfp, trivial⟩ rfl ?_
 (repeat' (first | refine at_dst 18 ?_ | refine at_dstD 18 ?_ | refine st ?_ | (apply B<;>intro hb<;>try cases hb))) <;> (try refine At.mk ?_)
 refine opsK_bool rfl rfl rfl (fun hb => ?_) (fun hb => ?_)
 · have hun : u < n := by have := of_decide_eq_true hb; omega
   clear hb
   (repeat' (first | refine at_dst 25 ?_ | refine at_dstD 25 ?_ | refine st ?_ | (apply B<;>intro hb<;>try cases hb))) <;> (try refine At.mk ?_)
   refine dK_eq (hS (u + 1)) rfl rfl rfl ⟨hfp, trivial, trivial⟩ ?_
   have hh := holds_spec (M (u + 1)) [] true c.f (by omega) (by omega)
   rw [show (decide (typeOfE c.f = 0) && decide (typeOfT c.f = 1) && decide (evM (M (u + 1)) [] c.f = 1)) = holdsB c.f (M (u + 1)) [] from rfl] at hh
   cases hv : holdsB c.f (M (u + 1)) []
   · rw [hv] at hh
     rw [hv, if_neg (by decide)] at hst
     (repeat' (first | refine at_dst 26 ?_ | refine at_dstD 26 ?_ | refine st ?_ | (apply B<;>intro hb<;>try cases hb))) <;> (try refine At.mk ?_)
     refine dK_eq hh rfl rfl rfl ⟨fC_pure _ _, setN_pure _, trivial, trivial⟩ ?_
     (repeat' (first | refine at_dst 31 ?_ | refine at_dstD 31 ?_ | refine st ?_ | (apply B<;>intro hb<;>try cases hb))) <;> (try refine At.mk ?_)
     refine opsK_new (E_append (k := 0) (m := nums (intsN [u + 1])) (fl := true) (b := ⟨1, nums (intsN (violTo M c.f u))⟩) rfl rfl rfl (fun c hc => by obtain ⟨y, _, rfl⟩ := List.mem_map.1 hc; rfl) rfl (by
      show ((nums (intsN (violTo M c.f u))).length + 1) * 8 ≤ _
      rw [nums_length, intsN, List.length_map]
      omega)) rfl rfl ?_
     have happ : nums (intsN (violTo M c.f u)) ++ nums (intsN [u + 1]) = nums (intsN (violTo M c.f (u + 1))) := by rw [hst]; simp [nums, intsN]
     simp only
     rw [happ]
     (refine go ?_;repeat' (apply B<;>intro hb<;>try cases hb))
     exact ⟨u + 1, mv 0 8, hun, by omega, fun j hj => absurd hj (Nat.not_lt_zero _), injOn_of rfl,
      ⟨⟨_, rfl, .pure _ (conP_pure c)⟩, ⟨_, rfl, .pure _ hfp⟩, ⟨_, rfl, .own 0 (by decide)⟩, ⟨_, by show some _ = some _; rw [hunc], .pure _ trivial⟩, trivial⟩, ⟨⟨by decide, _, rfl, .same _ (nums_pure _)⟩, trivial⟩⟩
   · rw [hv] at hh
     rw [hv, if_pos rfl] at hst
     (repeat' (first | refine at_dst 26 ?_ | refine at_dstD 26 ?_ | refine st ?_ | (apply B<;>intro hb<;>try cases hb))) <;> (try refine At.mk ?_)
     refine dK_eq hh rfl rfl rfl ⟨fC_pure _ _, setN_pure _, trivial, trivial⟩ ?_
     (refine go ?_;repeat' (apply B<;>intro hb<;>try cases hb))
     refine ⟨u + 1, fun i => i, hun, by omega, fun _ _ => rfl, injOn_id,
      ⟨⟨_, rfl, .pure _ (conP_pure c)⟩, ⟨_, rfl, .pure _ hfp⟩, ⟨_, rfl, .own 0 (by decide)⟩, ⟨_, by show some _ = some _; rw [hunc], .pure _ trivial⟩, trivial⟩, ⟨⟨by decide, _, rfl, ?_⟩, trivial⟩⟩
     rw [hst]
     exact .same _ (nums_pure _)
 · have hun : u = n := by have := of_decide_eq_false hb; omega
   subst hun
   clear hb
   (repeat' (first | refine at_dst 32 ?_ | refine at_dstD 32 ?_ | refine st ?_ | (apply B<;>intro hb<;>try cases hb))) <;> (try refine At.mk ?_)
   refine opsK_sub (subA_freeze (k := 5) rfl rfl (nums_pure _)) ?_
   (refine go ?_;repeat' (apply B<;>intro hb<;>try cases hb))
   exact ret_ok rfl (nums_pure _) ⟨false, rfl⟩
end Go.Proofs.YtbmhdpflloepkaaGreatDoor

namespace Go.Proofs.YtbmhdpflloepkaaGreatDoor
open Go.RowKit
set_option linter.unusedVariables false
attribute [local irreducible] aw opsK dK

theorem violF_spec {l : List Pr} {m : List En} {n d : Nat} (hT : Told l m n d) (S : List Nat) (f : Bool) {c : Con} {v : Bool} (h : ConOk c v) :
 Spec Tryz.prog 28 [.agg (conP c), .agg (factP (hierP l S) (bookP m f) n d)] (violV (violG c v (fun u => memb l m n d ((u : Nat) : Int)) n)) := by
 have hn := hT.n
 exact violP_spec (hierP l S) (bookP m f) (hierP_pure l S) (bookP_pure m f) n d (by omega) (fun u => memb l m n d ((u : Nat) : Int)) (fun u => memberP_spec hT S f _) h
theorem ConsI.law {items : List ItemX} {i : Nat} {l : List Con} (h : ConsI items i l) : ∀ c ∈ l, (1 ≤ c.kind ∧ c.kind ≤ 3) ∧ Wf c.f ∧ c.f.depth ≤ 4 := fun c hc => ⟨(h.ok c hc).kind, (h.ok c hc).wf, (h.ok c hc).depth⟩
end Go.Proofs.YtbmhdpflloepkaaGreatDoor

namespace Go.Proofs.YtbmhdpflloepkaaGreatDoor
open Go.RowKit
set_option linter.unusedVariables false
attribute [local irreducible] aw opsK dK

theorem in6_invC {k : Int} {f : Fm} (h : in6 k f = true) : (k = 3 ∨ f.op ≠ 6) ∧ (∀ r ∈ f.roles, r ≤ 6) ∧ ∀ a ∈ f.args, in6 k a = true := by
 rw [in6_eq] at h
 simp only [Bool.and_eq_true, Bool.or_eq_true, decide_eq_true_eq, ne6_iff, List.all_eq_true] at h
 refine ⟨h.1.1, h.1.2, ?_⟩
 have : ∀ l : List Fm, in6L k l = true → ∀ a ∈ l, in6 k a = true := by
  intro l
  induction l with
  | nil => intro _ a ha; cases ha
  | cons b l ih =>
    intro hl a ha
    simp only [in6L, Bool.and_eq_true] at hl
    rcases List.mem_cons.1 ha with rfl | ha
    · exact hl.1
    · exact ih hl.2 a ha
 exact this _ h.2
theorem in6_insideC : ∀ (d : Nat) (f : Fm), f.depth ≤ d → Wf f → in6 1 f = true → insideM 1 f = 0
 | 0, f, h, _, _ => by rw [Fm.depth_eq] at h; omega
 | d + 1, f, h, w, hi => by
   obtain ⟨h1, _, h3⟩ := in6_invC hi
   have hk : nodeK 1 f = 0 := by
    have h6 : f.op ≠ 6 := by rcases h1 with h1 | h1
                             · exact absurd h1 (by decide)
                             · exact h1
    unfold nodeK
    rw [if_pos w.node, if_neg]
    simp [badKind, h6]
   rw [insideM_eq, if_pos hk]
   refine insideL_zero fun a ha => ?_
   obtain ⟨i, hil, he⟩ := List.getElem_of_mem ha
   have := depthL_mem hil
   have := f.depth_eq
   exact in6_insideC d a (by rw [← he]; omega) (w.arg a ha).1 (h3 a ha)
theorem in6_mentC {k : Int} : ∀ (d : Nat) (f : Fm), f.depth ≤ d → Wf f → in6 k f = true → ∀ i, (mentF f).testBit i = true → 1 ≤ i ∧ i ≤ 6
 | 0, f, h, _, _, _, _ => by rw [Fm.depth_eq] at h; omega
 | d + 1, f, h, w, hi, i, hb => by
   obtain ⟨_, h2, h3⟩ := in6_invC hi
   rw [mentF_eq, Nat.testBit_or, Bool.or_eq_true] at hb
   rcases hb with hb | hb
   · obtain ⟨r, hr, rfl⟩ := (rset_bit _ _).1 hb
     have := w.inv'.rng r hr
     have := h2 r hr
     omega
   · have : ∀ l : List Fm, (mentL l).testBit i = true → ∃ a ∈ l, (mentF a).testBit i = true := by
      intro l
      induction l with
      | nil => intro h; simp [mentL] at h
      | cons b l ih =>
        intro h
        simp only [mentL, Nat.testBit_or, Bool.or_eq_true] at h
        rcases h with h | h
        · exact ⟨b, List.mem_cons_self .., h⟩
        · obtain ⟨a, ha, hb⟩ := ih h
          exact ⟨a, List.mem_cons_of_mem _ ha, hb⟩
     obtain ⟨a, ha, hab⟩ := this _ hb
     obtain ⟨j, hjl, he⟩ := List.getElem_of_mem ha
     have := depthL_mem hjl
     have := f.depth_eq
     exact in6_mentC d a (by rw [← he]; omega) (w.arg a ha).1 (h3 a ha) i hab
theorem popK_zeroC : ∀ k, popK k 0 = 0
 | 0 => rfl
 | k + 1 => by rw [popK_snoc, popK_zeroC k]; simp
theorem made_checkK {f : Fm} (w : Wf f) (ht : typeM f.op = 1) (hd : f.depth ≤ 10) (hs : f.size ≤ 200) (hi : in6 1 f = true) : checkK 1 f = 0 := by
 have hin := in6_insideC f.depth f (Nat.le_refl _) w hi
 have hl : lookM 1 f = 0 := by unfold lookM; rw [if_neg (by omega)]; exact hin
 have hlt : mentF f < 2 ^ 7 := Nat.lt_pow_two_of_testBit _ fun i h => by
  cases hb : (mentF f).testBit i with
  | false => rfl
  | true => have := in6_mentC f.depth f (Nat.le_refl _) w hi i hb; omega
 have h8 : popK 64 (mentF f) ≤ 8 := by
  rw [show (64 : Nat) = 7 + 57 from rfl, popK_add 7 57, Nat.div_eq_of_lt hlt, popK_zeroC]
  have := popK_leK 7 (mentF f)
  omega
 unfold checkK
 rw [hl, if_neg (by decide), if_pos ⟨w.2, ht⟩, if_neg (by omega)]
theorem fC_lowC (f : Fm) : lowL (fC .u8 f) = fC .u8 f := (lowL_fC .u8 f).trans (cellsK_eq .u8 f)
set_option maxHeartbeats 1000000 in
theorem emptyMake_spec : Spec Tryz.prog 32 [.vec [] true] fun r => ∃ (m : List En) (fm : Bool), r = .tup [bookP [] true, .vec (m.map enC) fm] := by
 refine spec_intro ok32 (Nat.le_of_ble_eq_true rfl) fun C hC => ?_
 (repeat' (first | refine at_dst 10 ?_ | refine at_dstD 10 ?_ | refine st ?_ | (apply B<;>intro hb<;>try cases hb))) <;> (try refine At.mk ?_)
 refine opsK_eq bookNew_spec rfl rfl rfl trivial rfl ?_
 (refine go ?_;repeat' (apply B<;>intro hb<;>try cases hb))
 refine aw_rounds 0 ?_
 unfold roundsQ
 (repeat' (first | refine at_dst 39 ?_ | refine at_dstD 39 ?_ | refine st ?_ | (apply B<;>intro hb<;>try cases hb))) <;> (try refine At.mk ?_)
 refine opsK_spec rfl rfl (make12_spec [] true) ⟨trivial, trivial⟩ rfl ?_
 rintro r ⟨m, fm, hm, rfl⟩
 (refine go ?_;repeat' (apply B<;>intro hb<;>try cases hb))
 exact ret_ok rfl ⟨bookP_pure [] true, (show (PV.vec (m.map enC) fm).pure from ens_pure m), trivial⟩ ⟨m, fm, rfl⟩
set_option maxHeartbeats 1000000 in
theorem equalE0_spec (f1 f2 : Bool) : Spec Tryz.prog 75 [.vec [] f1, .vec [] f2] (· = .val (.bool true)) := by
 refine spec_intro ok75 (Nat.le_of_ble_eq_true rfl) fun C hC => ?_
 (refine go ?_;repeat' (apply B<;>intro hb<;>try cases hb))
 refine aw_rounds 0 ?_
 unfold roundsQ
 (refine go ?_;repeat' (apply B<;>intro hb<;>try cases hb))
 exact ret_ok rfl trivial rfl
set_option maxHeartbeats 1000000 in
theorem equalB0_spec (f1 f2 : Bool) : Spec Tryz.prog 34 [bookP [] f1, bookP [] f2] (· = .val (.bool true)) := by
 refine spec_intro ok34 (Nat.le_of_ble_eq_true rfl) fun C hC => ?_
 (repeat' (first | refine at_dst 22 ?_ | refine at_dstD 22 ?_ | refine st ?_ | (apply B<;>intro hb<;>try cases hb))) <;> (try refine At.mk ?_)
 refine dK_eq (equalE0_spec f1 f2) rfl rfl rfl ⟨trivial, trivial, trivial⟩ ?_
 (refine go ?_;repeat' (apply B<;>intro hb<;>try cases hb))
 exact ret_ok rfl trivial rfl
theorem memb_empty (l : List Pr) (n d u : Nat) : memb l [] n d ((u : Nat) : Int) = 0 := by
 unfold memb
 split
 · rw [show onN [] ((u : Nat) : Int).toNat d = 0 from rfl, clo_mem, show mem 0 = [] by decide]; rfl
 · rfl
theorem violTo_none {M : Nat → Nat} {f : Fm} (hM : ∀ u, M u = 0) : ∀ u, violTo M f u = if holdsB f 0 [] = true then [] else (List.range u).map (· + 1)
 | 0 => by simp [violTo]
 | u + 1 => by
   rw [violTo_succ, violTo_none hM u, hM]
   split
   · rfl
   · rw [List.range_succ, List.map_append]; rfl
set_option maxRecDepth 100000 in
set_option maxHeartbeats 4000000 in
theorem meaningEmpty_law (z : RawF) (i : ItemX) (hz : RawFok z) (hi : ItemOk i) : Spec Tryz.prog 6 [.agg (rawF z), .agg (itC i)] (· = .val (.bool true)) := by
 refine spec_intro ok6 (Nat.le_of_ble_eq_true rfl) fun C hC => ?_
 refine aw_seq ?_
 refine aw_region ?_
 refine opsK_ofAlt rfl rfl rfl ?_
 (repeat' (first | refine at_dst 13 ?_ | refine at_dstD 13 ?_ | refine st ?_ | (apply B<;>intro hb<;>try cases hb))) <;> (try refine At.mk ?_)
 refine opsK_eq awake_spec rfl rfl rfl trivial rfl ?_
 (repeat' (first | refine at_dst 17 ?_ | refine at_dstD 17 ?_ | refine st ?_ | (apply B<;>intro hb<;>try cases hb))) <;> (try refine At.mk ?_)
 refine opsK_spec rfl rfl (makeF_spec z hz) ⟨rawF_pure z, trivial⟩ rfl ?_
 rintro r ⟨l, fl, m, fm, n, d, S, fb, hT, rfl⟩
 have hn := hT.n
 have hT0 : Told l [] n d := ⟨hT.l, ⟨List.Pairwise.nil, Nat.zero_le _, fun _ h => by cases h⟩, hT.n, hT.d⟩
 have hfp : pureL (factP (hierP l S) (bookP [] true) n d) := factP_pure (hierP_pure l S) (bookP_pure [] true) n d
 (repeat' (first | refine at_dst 23 ?_ | refine at_dstD 23 ?_ | refine st ?_ | (apply B<;>intro hb<;>try cases hb))) <;> (try refine At.mk ?_)
 refine opsK_eq bookNew_spec rfl rfl rfl trivial rfl ?_
 (repeat' (first | refine at_dst 26 ?_ | refine at_dstD 26 ?_ | refine st ?_ | (apply B<;>intro hb<;>try cases hb))) <;> (try refine At.mk ?_)
 refine opsK_sub (subA_freezeBox (k := 5) (l := factP (hierP l S) (bookP [] true) n d) rfl rfl hfp) ?_
 refine opsK_spec rfl rfl emptyMake_spec ⟨trivial, trivial⟩ rfl ?_
 rintro r ⟨m0, f0, rfl⟩
 have hi0 : ItemOk ⟨i.en, 0, i.bs, i.fb⟩ := ⟨by show (0 : Nat) < 256; decide, hi.2⟩
 (repeat' (first | refine at_dst 30 ?_ | refine at_dstD 30 ?_ | refine st ?_ | (apply B<;>intro hb<;>try cases hb))) <;> (try refine At.mk ?_)
 refine opsK_sub (subA_freezeBox (k := 3) (l := itC ⟨i.en, 0, i.bs, i.fb⟩) rfl rfl (itC_pure _)) ?_
 (repeat' (first | refine at_dst 32 ?_ | refine at_dstD 32 ?_ | refine st ?_ | (apply B<;>intro hb<;>try cases hb))) <;> (try refine At.mk ?_)
 refine opsK_spec rfl rfl (consR_spec [⟨i.en, 0, i.bs, i.fb⟩] true fun x hx => by rw [List.mem_singleton] at hx; subst hx; exact hi0) ⟨⟨itC_pure _, trivial⟩, trivial⟩ rfl ?_
 rintro r ⟨cs, hcs, rfl⟩
 have hl1 : cs.length = 1 := hcs.len
 have hlen : 0 < cs.length := by omega
 have hok := hcs.ok _ (List.getElem_mem hlen)
 have hmd := hcs.made _ (List.getElem_mem hlen)
 have hk1 : cs[0].kind = 1 := hcs.kind 0 hlen Nat.zero_lt_one
 have hlaw := hcs.law
 refine opsK_eq (consL_spec cs false hlaw (by omega)) rfl rfl rfl ⟨cons_pureR cs, trivial⟩ rfl ?_
 rw [hk1] at hmd
 have hd := hok.depth
 have hsz := hok.size
 have h0 : okC cs[0] true = 0 := by unfold okC; rw [if_pos rfl, hk1]; exact made_checkK hok.wf hmd.2 (by omega) (by omega) hmd.1
 have hg : violG cs[0] true (fun u => memb l [] n d ((u : Nat) : Int)) n = if holdsB cs[0].f 0 [] = true then [] else (List.range n).map (· + 1) := by
  unfold violG
  rw [if_pos ⟨hk1, h0⟩]
  exact violTo_none (fun u => memb_empty l n d u) n
 have hvs := violF_spec hT0 S true hok
 rw [hg] at hvs
 have hh := holds_spec 0 [] false cs[0].f (by omega) (by omega)
 rw [show (decide (typeOfE cs[0].f = 0) && decide (typeOfT cs[0].f = 1) && decide (evM 0 [] cs[0].f = 1)) = holdsB cs[0].f 0 [] from rfl, setN_zero] at hh
 have e35 : ∀ {e : Env} {h : Heap} {x : Operand} {n : Nat}, ev e x = some (.vec (cs.map conP) false) → dEval (.iaddr 7 x (.const (.int .i64 0))) e h n = some (.cp (conP cs[0]), h) := fun h1 => E_iaddr (xs := cs) (g := conP) h1 rfl 0 rfl hlen rfl
 generalize cs[0] = c at e35 hok hvs hh
 (repeat' (first | refine at_dst 35 ?_ | refine at_dstD 35 ?_ | refine st ?_ | (apply B<;>intro hb<;>try cases hb))) <;> (try refine At.mk ?_)
 refine dK_of (e35 rfl) rfl rfl ?_
 (repeat' (first | refine at_dst 38 ?_ | refine at_dstD 38 ?_ | refine st ?_ | (apply B<;>intro hb<;>try cases hb))) <;> (try refine At.mk ?_)
 refine dK_call rfl rfl (.inl rfl) hvs ⟨conP_pure _, hfp, trivial⟩ ?_
 rintro r ⟨f1, rfl⟩
 cases hB : holdsB c.f 0 []
 · rw [hB] at hh
   rw [if_neg (by decide)]
   have hln : (nums (intsN ((List.range n).map (· + 1)))).length = n := by rw [nums_length, intsN, List.length_map, List.length_map, List.length_range]
   have hd57 : ((((nums (intsN ((List.range n).map (· + 1)))).length : Nat) : Int) == ((n : Nat) : Int)) = true := by rw [hln]; simp
   (repeat' (first | refine at_dst 40 ?_ | refine at_dstD 40 ?_ | refine st ?_ | (apply B<;>intro hb<;>try cases hb))) <;> (try refine At.mk ?_)
   refine opsK_of (e35 rfl) rfl rfl ?_
   (repeat' (first | refine at_dst 44 ?_ | refine at_dstD 44 ?_ | refine st ?_ | (apply B<;>intro hb<;>try cases hb))) <;> (try refine At.mk ?_)
   refine opsK_eqLow hh rfl rfl (by show [PV.agg (lowL (fC .u8 c.f)), .agg [.vec [] false], .vec [] false] = _; rw [fC_lowC]; rfl) ⟨fC_pure _ _, ⟨trivial, trivial⟩, trivial, trivial⟩ rfl ?_
   (repeat' (first | refine at_dst 49 ?_ | refine at_dstD 49 ?_ | refine st ?_ | (apply B<;>intro hb<;>try cases hb))) <;> (try refine At.mk ?_)
   refine opsK_eq (equalB0_spec true true) rfl rfl rfl ⟨bookP_pure [] true, bookP_pure [] true, trivial⟩ rfl ?_
   (repeat' (first | refine at_dst 57 ?_ | refine at_dstD 57 ?_ | refine st ?_ | (apply B<;>intro hb<;>try cases hb))) <;> (try refine At.mk ?_)
   refine opsK_on rfl ?_
   refine opsK_of (E_boolEq rfl hd57) rfl rfl ?_
   (refine go ?_;repeat' (apply B<;>intro hb<;>try cases hb))
   exact ret_ok rfl trivial rfl
 · rw [hB] at hh
   rw [if_pos rfl]
   (repeat' (first | refine at_dst 40 ?_ | refine at_dstD 40 ?_ | refine st ?_ | (apply B<;>intro hb<;>try cases hb))) <;> (try refine At.mk ?_)
   refine opsK_of (e35 rfl) rfl rfl ?_
   (repeat' (first | refine at_dst 44 ?_ | refine at_dstD 44 ?_ | refine st ?_ | (apply B<;>intro hb<;>try cases hb))) <;> (try refine At.mk ?_)
   refine opsK_eqLow hh rfl rfl (by show [PV.agg (lowL (fC .u8 c.f)), .agg [.vec [] false], .vec [] false] = _; rw [fC_lowC]; rfl) ⟨fC_pure _ _, ⟨trivial, trivial⟩, trivial, trivial⟩ rfl ?_
   (repeat' (first | refine at_dst 49 ?_ | refine at_dstD 49 ?_ | refine st ?_ | (apply B<;>intro hb<;>try cases hb))) <;> (try refine At.mk ?_)
   refine opsK_eq (equalB0_spec true true) rfl rfl rfl ⟨bookP_pure [] true, bookP_pure [] true, trivial⟩ rfl ?_
   (refine go ?_;repeat' (apply B<;>intro hb<;>try cases hb))
   exact ret_ok rfl trivial rfl
end Go.Proofs.YtbmhdpflloepkaaGreatDoor

namespace Go.Proofs.YtbmhdpflloepkaaGreatDoor
open Go.ChangeShapes Go.WideShapes Go.ChangeAt Go.RowKit
set_option linter.unusedVariables false

theorem rows_enc {α : Type} {enc : α → List PV} {Q : α → Prop} : ∀ {ll : List (List PV)}, (∀ l ∈ ll, ∃ x, Q x ∧ l = enc x) → ∃ xs : List α, (∀ x ∈ xs, Q x) ∧ ll = xs.map enc
 | [], _ => ⟨[], fun _ h => (by cases h), rfl⟩
 | l :: ll, h => by
   obtain ⟨x, h1, rfl⟩ := h l (List.mem_cons_self ..)
   obtain ⟨xs, h2, rfl⟩ := rows_enc fun l hl => h l (List.mem_cons_of_mem _ hl)
   refine ⟨x :: xs, fun y hy => ?_, rfl⟩
   rcases List.mem_cons.1 hy with rfl | hy
   · exact h1
   · exact h2 y hy
theorem shapeVs_two {P : Program} {s t : TypeId} : ∀ {ps : List PV}, ShapeVs P [s, t] ps → ∃ a b, ps = [a, b] ∧ ShapeV P s a ∧ ShapeV P t b
 | [a, b], ⟨h1, h2, _⟩ => ⟨a, b, rfl, h1, h2⟩
theorem int_u8 {m : Int} (h : (Lit.int .u8 m).wf = true) : ∃ a : Nat, a < 256 ∧ m = (a : Int) := by
 simp only [Lit.wf, Bool.and_eq_true, decide_eq_true_eq] at h
 obtain ⟨h1, h2⟩ := h
 have h3 : m ≤ 255 := h2
 have h4 : 0 ≤ m := h1
 exact ⟨m.toNat, by omega, by omega⟩
theorem int_u64 {m : Int} (h : (Lit.int .u64 m).wf = true) : ∃ a : Nat, a < 18446744073709551616 ∧ m = (a : Int) := by
 simp only [Lit.wf, Bool.and_eq_true, decide_eq_true_eq] at h
 obtain ⟨h1, h2⟩ := h
 have h3 : m ≤ 18446744073709551615 := h2
 have h4 : 0 ≤ m := h1
 exact ⟨m.toNat, by omega, by omega⟩
theorem u8_shape {n : Nat} {l : List PV} (h : Shape Tryz.prog n 5 l) : ∃ x : Nat, x ≤ 255 ∧ l = [PV.val (.int .u8 (x : Int))] := by
 obtain ⟨m1, w1, e1⟩ := shape_int h (k := .u8) (by kernel_rfl)
 obtain ⟨x, hx, rfl⟩ := int_u8 w1
 exact ⟨x, by omega, e1⟩
theorem raw12_shape {n : Nat} {l : List PV} (h : Shape Tryz.prog n 27 l) : ∃ x : En, True ∧ l = rawC x := by
 have hl := shape_len h (k := 3) (by kernel_rfl)
 obtain ⟨n1, h1⟩ := shape_field h (i := 0) (off := 0) (ty := 5) (sz := 1) (by kernel_rfl)
 obtain ⟨n2, h2⟩ := shape_field h (i := 1) (off := 1) (ty := 5) (sz := 1) (by kernel_rfl)
 obtain ⟨n3, h3⟩ := shape_field h (i := 2) (off := 2) (ty := 5) (sz := 1) (by kernel_rfl)
 match l, hl with
 | [a, b, c], _ =>
   obtain ⟨m1, w1, e1⟩ := shape_int (show Shape _ n1 _ [a] from h1) (k := .u8) (by kernel_rfl)
   obtain ⟨m2, w2, e2⟩ := shape_int (show Shape _ n2 _ [b] from h2) (k := .u8) (by kernel_rfl)
   obtain ⟨m3, w3, e3⟩ := shape_int (show Shape _ n3 _ [c] from h3) (k := .u8) (by kernel_rfl)
   obtain ⟨x, hx, rfl⟩ := int_u8 w1
   obtain ⟨y, hy, rfl⟩ := int_u8 w2
   obtain ⟨t, ht, rfl⟩ := int_u8 w3
   simp only [List.cons.injEq, and_true] at e1 e2 e3
   subst e1; subst e2; subst e3
   exact ⟨⟨x, y, t⟩, trivial, rfl⟩
theorem rawFV_shape {p : PV} (h : ShapeV Tryz.prog 25 p) : ∃ z : RawF, RawFok z ∧ p = .agg (rawF z) := by
 obtain ⟨n, l, rfl, h0⟩ := shapeV_struct h (k := 4) (by kernel_rfl)
 clear h
 have h := h0
 have hl := shape_len h (k := 4) (by kernel_rfl)
 obtain ⟨n1, h1⟩ := shape_field h (i := 0) (off := 0) (ty := 22) (sz := 1) (by kernel_rfl)
 obtain ⟨n2, h2⟩ := shape_field h (i := 1) (off := 1) (ty := 23) (sz := 1) (by kernel_rfl)
 obtain ⟨n3, h3⟩ := shape_field h (i := 2) (off := 2) (ty := 5) (sz := 1) (by kernel_rfl)
 obtain ⟨n4, h4⟩ := shape_field h (i := 3) (off := 3) (ty := 5) (sz := 1) (by kernel_rfl)
 match l, hl with
 | [a, b, c, d], _ =>
   obtain ⟨m1, w1, e1⟩ := shape_int (show Shape _ n1 _ [a] from h1) (k := .u64) (by kernel_rfl)
   obtain ⟨n', ll, fl, _, g2, e2⟩ := shape_slice (show Shape _ n2 _ [b] from h2) (e := 27) (by kernel_rfl)
   obtain ⟨xs, _, rfl⟩ := rows_enc (enc := rawC) (Q := fun _ => True) fun l hl => raw12_shape (g2 l hl)
   obtain ⟨m3, w3, e3⟩ := shape_int (show Shape _ n3 _ [c] from h3) (k := .u8) (by kernel_rfl)
   obtain ⟨m4, w4, e4⟩ := shape_int (show Shape _ n4 _ [d] from h4) (k := .u8) (by kernel_rfl)
   obtain ⟨x, hx, rfl⟩ := int_u64 w1
   obtain ⟨y, hy, rfl⟩ := int_u8 w3
   obtain ⟨t, ht, rfl⟩ := int_u8 w4
   simp only [List.cons.injEq, and_true] at e1 e2 e3 e4
   subst e1; subst e2; subst e3; subst e4
   exact ⟨⟨x, xs, fl, y, t⟩, hx, rfl⟩
end Go.Proofs.YtbmhdpflloepkaaGreatDoor

namespace Go.Proofs.YtbmhdpflloepkaaGreatDoor
open Go.ChangeShapes Go.WideShapes Go.ChangeAt Go.RowKit
set_option linter.unusedVariables false

theorem item_shape {n : Nat} {l : List PV} (h : Shape Tryz.prog n 66 l) : ∃ x : ItemX, ItemOk x ∧ l = itC x := by
 have hl := shape_len h (k := 3) (by kernel_rfl)
 obtain ⟨n1, h1⟩ := shape_field h (i := 0) (off := 0) (ty := 4) (sz := 1) (by kernel_rfl)
 obtain ⟨n2, h2⟩ := shape_field h (i := 1) (off := 1) (ty := 5) (sz := 1) (by kernel_rfl)
 obtain ⟨n3, h3⟩ := shape_field h (i := 2) (off := 2) (ty := 64) (sz := 1) (by kernel_rfl)
 match l, hl with
 | [a, b, c], _ =>
   obtain ⟨o, e1⟩ := shape_bool (show Shape _ n1 _ [a] from h1) (by kernel_rfl)
   obtain ⟨m2, w2, e2⟩ := shape_int (show Shape _ n2 _ [b] from h2) (k := .u8) (by kernel_rfl)
   obtain ⟨n', ll, fl, _, g2, e3⟩ := shape_slice (show Shape _ n3 _ [c] from h3) (e := 5) (by kernel_rfl)
   obtain ⟨xs, hx, rfl⟩ := rows_enc (enc := fun (x : Nat) => [PV.val (.int .u8 (x : Int))]) (Q := fun (x : Nat) => x ≤ 255) fun l hl => u8_shape (g2 l hl)
   obtain ⟨y, hy, rfl⟩ := int_u8 w2
   simp only [List.cons.injEq, and_true] at e1 e2 e3
   subst e1; subst e2; subst e3
   exact ⟨⟨o, y, xs, fl⟩, ⟨hy, hx⟩, rfl⟩
theorem itemV_shape {p : PV} (h : ShapeV Tryz.prog 66 p) : ∃ x : ItemX, ItemOk x ∧ p = .agg (itC x) := by
 obtain ⟨n, ps, rfl, h2⟩ := shapeV_struct h (k := 3) (by kernel_rfl)
 obtain ⟨x, hx, rfl⟩ := item_shape h2
 exact ⟨x, hx, rfl⟩
end Go.Proofs.YtbmhdpflloepkaaGreatDoor

namespace Go.Proofs.YtbmhdpflloepkaaGreatDoor
open Go.ChangeShapes Go.WideShapes Go.ChangeAt Go.RowKit
set_option linter.unusedVariables false

theorem meaningEmpty_spec : ∀ ps, ShapeVs Tryz.prog Tryz.f6.params.toList ps → pureL ps → Spec Tryz.prog 6 ps (· = .val (.bool true)) := by
 intro ps hs hp
 rw [show Tryz.f6.params.toList = [25, 66] by kernel_rfl] at hs
 obtain ⟨a, b, rfl, k0, k1⟩ := shapeVs_two hs
 obtain ⟨x0, h0, rfl⟩ := rawFV_shape k0
 obtain ⟨x1, h1, rfl⟩ := itemV_shape k1
 exact meaningEmpty_law x0 x1 h0 h1

set_option maxRecDepth 100000 in
theorem meaningEmpty_lifted (os : Os) (started : os.Started) (H : Type) (enc : TypeId × Value → H) :
 ReturnsInHanded {} Tryz.checked os 6 .any (fun w args => (Rows.meaningEmptySpec.pre enc Tryz.prog Tryz.f6 [] false w args ∧ laidMetH Tryz.prog laidV w) ∧ sizedMet enc Tryz.prog Tryz.f6 (OpenSpec.ofChange Rows.meaningEmptySpec) false w args)
  (Rows.meaningEmptySpec.post enc Tryz.prog Tryz.f6 false true false false) := by
 refine returnsInHanded_of_change_and (C := Tryz.checked) (X := fun w _ => laidMetH Tryz.prog laidV w) (fun _ _ _ hh h => h.of_heap hh) own started (by kernel_rfl) Tryz.func6
  (ChangeSpec.witness_shaped (enc := enc) (C := Tryz.checked) (os := os) (X := fun w _ => laidMetH Tryz.prog laidV w) false (World.doorLaid Tryz.prog 400 os) #[.agg #[.int .u64 0, .slice none 0 0, .int .u8 0, .int .u8 0], .agg #[.bool false, .int .u8 0, .slice none 0 0]] 8 rfl (World.shaped_of_RefB (by kernel_rfl) (by kernel_rfl)) (by kernel_rfl) (by kernel_rfl) (by kernel_rfl) (door_met os _)) ?_
 intro W base args ds gs before hval hW _ hwt hL _
 exact law_contract (P := Tryz.prog) (G := partsG Tryz.prog Tryz.f6.params.toList) (by kernel_rfl) (inG_of (by kernel_rfl)) laidOut (parsOk_of (by kernel_rfl)) (tb := 4) (by kernel_rfl) (by kernel_rfl) rfl (fun ds hd => by
  match ds, hd with
  | [a, b], _ => exact ⟨rfl, rfl, rfl⟩) meaningEmpty_spec W (globs_in hL) base args ds gs before hval hW hwt

theorem meaningEmpty_holds : Rows.MeaningEmptySaid :=
 OpenClaim.holds_of_wide 6 Tryz.f6 rfl rfl rfl rfl rfl rfl rfl ⟨rfl, rfl, rfl, rfl, rfl⟩ rfl rfl rfl rfl rfl (by kernel_rfl) Tryz.func6 (by kernel_rfl)
  (of_decide_eq_true (by kernel_rfl)) (by unfold Func.isWrapper; first | (rw [if_pos (by decide +kernel)]; kernel_rfl) | (rw [if_neg (by decide +kernel)]; exact ⟨rfl, rfl⟩))
  (fun os started H enc _ => meaningEmpty_lifted os started H enc)

theorem meaningEmpty_card : Rows.MeaningEmptyCardSaid :=
 Claim7.holds_tied_plain_at .later [] [.data] true (true, "403d93dc76e6b9f88461d046f66cd5a652062aa27ed30ee5a83df618499f986d") false
  meaningEmpty_holds (fun _ h => by cases h) (by kernel_rfl) (fun _ h => by cases h) meaningEmpty_row_tie rfl ⟨rfl, rfl⟩ (by kernel_rfl) rfl
  (fun f fn hf hfn => by
    obtain rfl : f = 6 := Option.some.inj ((show Tryz.prog.funcNamed "arbac/arbaclaw20.MeaningEmpty" = some 6 by kernel_rfl).symm.trans hf) |>.symm
    obtain rfl : fn = Tryz.f6 := (Option.some.inj (Tryz.func6.symm.trans hfn)).symm
    exact ⟨by kernel_rfl, fun j t ht => by
     rw [show Tryz.f6.params = #[25, 66] by kernel_rfl] at ht
     have hm : t ∈ [25, 66] := by simpa using Array.mem_of_getElem? ht
     have hall : ([25, 66].all fun u => !Tryz.prog.wantsStandIn u) = true := by kernel_rfl
     exact (show Tryz.prog.wantsStandIn t = false by simpa using List.all_eq_true.1 hall t hm)⟩)
  (by kernel_rfl)
#print axioms meaningEmpty_card
end Go.Proofs.YtbmhdpflloepkaaGreatDoor
