/-
  Formulas from nodes. No statement of the seat is proved here.
-/
import Derived.Test.Ytelcpkjclcimbaalw
namespace Go.Proofs.Ytelcpkjclcimbaa
open Go.RowKit
set_option linter.unusedVariables false
attribute [local irreducible] aw opsK dK

/-- A formula with few roles and operands. -/
def Small : Nat → Fm → Prop
  | 0, _ => False
  | d + 1, f => 0 ≤ f.op ∧ f.op ≤ 255 ∧ f.roles.length ≤ 1000 ∧ f.args.length ≤ 5 ∧ ∀ a ∈ f.args, Small d a
theorem Small.nice : ∀ {d : Nat} {f : Fm}, Small d f → Nice d f
  | 0, _, h => h
  | d + 1, f, ⟨h1, h2, h3, h4, h5⟩ => ⟨h1, h2, h3, by omega, fun a ha => (h5 a ha).nice⟩
theorem Small.bounds : ∀ {d : Nat} {f : Fm}, Small d f → f.depth ≤ d ∧ f.size ≤ 6 ^ d
  | 0, _, h => h.elim
  | d + 1, f, ⟨h1, h2, h3, h4, h5⟩ => by
    have hp := Nat.pos_of_ne_zero (show 6 ^ d ≠ 0 from fun h => by simp at h)
    have key : ∀ l : List Fm, (∀ a ∈ l, Small d a) → depthL l ≤ d ∧ sizeL l ≤ l.length * 6 ^ d := by
      intro l
      induction l with
      | nil => intro _; simp [depthL, sizeL]
      | cons a r ih =>
        intro hl
        obtain ⟨i1, i2⟩ := ih fun x hx => hl x (by simp [hx])
        obtain ⟨b1, b2⟩ := (hl a (by simp)).bounds
        simp only [depthL, sizeL, List.length_cons, Nat.add_mul, Nat.one_mul]
        exact ⟨by omega, by omega⟩
    obtain ⟨k1, k2⟩ := key f.args h5
    have hm : f.args.length * 6 ^ d ≤ 5 * 6 ^ d := Nat.mul_le_mul_right _ h4
    rw [f.depth_eq, f.size_eq, Nat.pow_succ]
    exact ⟨by omega, by omega⟩
theorem small_leaf (d : Nat) : Small (d + 1) (.mk 2 0 [] []) := ⟨by decide, by decide, Nat.zero_le _, Nat.zero_le _, fun a ha => by cases ha⟩

/-- A node. -/
structure Nd where
  op : Int
  args : Int
  role : Int
  many : Bool
  n : Int
def Nd.ok (x : Nd) : Prop := 0 ≤ x.op ∧ x.op ≤ 255 ∧ 0 ≤ x.args ∧ x.args ≤ 255
def ndC (x : Nd) : List PV := [.val (.int .u8 x.op), .val (.int .u8 x.args), .val (.int .u8 x.role), .val (.bool x.many), .val (.int .i64 x.n)]
def nds (l : List Nd) : List (List PV) := l.map ndC
theorem nds_pure (l : List Nd) : pureLL (nds l) := pureLL_map _ _ fun _ _ => ⟨trivial, trivial, trivial, trivial, trivial, trivial⟩
def bB (l : List Nd) (fl : Bool) : Bx := ⟨1, [[.vec (nds l) fl]]⟩
theorem bB_pure (l : List Nd) (fl : Bool) : pureLL (bB l fl).elems := ⟨⟨nds_pure l, trivial⟩, trivial⟩
theorem bB_inn (l : List Nd) (fl : Bool) (D : Nat → Prop) : innLL D (bB l fl).elems := innLL_mono (fun _ h => h.elim) _ (bB_pure l fl)

/-- What build gives. -/
def BuiltR (d : Nat) (r : PV) (b' : Bx) : Prop := ∃ (f : Fm) (l' : List Nd) (fl' : Bool), Small (d + 1) f ∧ r = .agg (fC .i64 f) ∧ b' = bB l' fl' ∧ ∀ x ∈ l', x.ok
theorem ret_built {rs : List ARes} {e : Env} {h : Heap} {d : Nat} {l' : List Nd} {fl' : Bool} {r : PV} {f : Fm} (hr : retAll rs e h = some r) (hlow : r.low = .agg (fC .i64 f)) (hb : h 0 = some (bB l' fl')) (hs : Small (d + 1) f) (hl : ∀ x ∈ l', x.ok) :
    ∃ r0 r, retAll rs e h = some r0 ∧ LoP r0 r ∧ ∃ b', h 0 = some b' ∧ r.pure ∧ pureLL b'.elems ∧ BuiltR d r b' :=
  ret_pLow hr (by rw [hlow]; exact fC_pure _ _) hb (bB_pure l' fl') (by rw [hlow]; exact ⟨f, l', fl', hs, rfl, rfl, hl⟩)

set_option maxHeartbeats 4000000 in
theorem build_spec : ∀ (d : Nat), d ≤ 1000 → ∀ (l : List Nd), (∀ x ∈ l, x.ok) → ∀ fl : Bool, PSpec Try.prog 23 (bB l fl) [.val (.int .i64 (d : Int))] (BuiltR d) := by
  intro d
  induction d with
  | zero =>
    intro _ l hl fl
    refine pspec_intro ok23 (Nat.le_of_ble_eq_true rfl) fun C hC => ?_
    repeat' (first
      | refine aw_seq ?_
      | refine aw_region ?_
      | refine aw_draw [] ?_
      | refine opsK_done ?_
      | refine opsK_on rfl ?_
      | refine opsK_off rfl ?_
      | (refine opsK_bool rfl rfl rfl (fun hb => ?_) (fun hb => ?_) <;> try cases hb)
      | refine opsK_of rfl rfl rfl ?_
      | refine opsK_new rfl rfl rfl ?_
      | refine dK_done ?_
      | refine dK_on rfl ?_
      | refine dK_off ⟨_, rfl, nofun⟩ ?_
      | (refine dK_bool rfl rfl rfl (fun hb => ?_) (fun hb => ?_) <;> try cases hb)
      | refine dK_of rfl rfl rfl ?_
      | refine aw_condT rfl ?_
      | refine aw_condF rfl ?_
      | (refine aw_cond rfl (fun hb => ?_) (fun hb => ?_) <;> try cases hb)
      | refine aw_block ?_
      | refine aw_skip ?_
      | refine aw_exit ?_
      | refine aw_ret ?_)
    all_goals exact ret_built (f := .mk 2 0 [] []) rfl rfl rfl (small_leaf 0) hl
  | succ d ih =>
    intro hd l hl fl
    refine pspec_intro ok23 (Nat.le_of_ble_eq_true rfl) fun C hC => ?_
    have hdec : IntKind.i64.wrap (((d + 1 : Nat) : Int) - 1) = (d : Int) := by rw [show ((d + 1 : Nat) : Int) - 1 = (d : Int) by omega]; exact wrap_nat _ (by omega)
    have hnl : (nds l).length = l.length := by simp [nds]
    iterate 4 (first
      | refine aw_seq ?_
      | refine aw_region ?_
      | refine aw_draw [] ?_
      | refine opsK_done ?_
      | refine opsK_on rfl ?_
      | refine opsK_off rfl ?_
      | (refine opsK_bool rfl rfl rfl (fun hb => ?_) (fun hb => ?_) <;> try cases hb)
      | refine opsK_of rfl rfl rfl ?_
      | refine opsK_new rfl rfl rfl ?_
      | refine dK_done ?_
      | refine dK_on rfl ?_
      | refine dK_off ⟨_, rfl, nofun⟩ ?_
      | (refine dK_bool rfl rfl rfl (fun hb => ?_) (fun hb => ?_) <;> try cases hb)
      | refine dK_of rfl rfl rfl ?_
      | refine aw_condT rfl ?_
      | refine aw_condF rfl ?_
      | (refine aw_cond rfl (fun hb => ?_) (fun hb => ?_) <;> try cases hb)
      | refine aw_block ?_
      | refine aw_skip ?_
      | refine aw_exit ?_
      | refine aw_ret ?_)
    refine aw_cut hC (l ≠ []) 2 [(0, .ptr 0 0 0), (1, .val (.int .i64 ((d + 1 : Nat) : Int))), (4, .ptr 1 0 0)] [(0, bB l fl), (1, ⟨4, [[.val (.int .i64 0), .val (.int .i64 0), .vec [] true, .vec [] true]]⟩)] (by omega) ?_ fun hne => ?_
    · repeat' (first
      | refine aw_seq ?_
      | refine aw_region ?_
      | refine aw_draw [] ?_
      | refine opsK_done ?_
      | refine opsK_on rfl ?_
      | refine opsK_off rfl ?_
      | (refine opsK_bool rfl rfl rfl (fun hb => ?_) (fun hb => ?_) <;> try cases hb)
      | refine opsK_of rfl rfl rfl ?_
      | refine opsK_new rfl rfl rfl ?_
      | refine dK_done ?_
      | refine dK_on rfl ?_
      | refine dK_off ⟨_, rfl, nofun⟩ ?_
      | (refine dK_bool rfl rfl rfl (fun hb => ?_) (fun hb => ?_) <;> try cases hb)
      | refine dK_of rfl rfl rfl ?_
      | refine aw_condT rfl ?_
      | refine aw_condF rfl ?_
      | (refine aw_cond rfl (fun hb => ?_) (fun hb => ?_) <;> try cases hb)
      | refine aw_block ?_
      | refine aw_skip ?_
      | refine aw_exit ?_
      | refine aw_ret ?_)
      all_goals first
        | exact ret_built (f := .mk 2 0 [] []) rfl rfl rfl (small_leaf (d + 1)) hl
        | (refine ⟨?_, ⟨⟨rfl, show (0 : Nat) < 2 by decide⟩, ⟨rfl, trivial⟩, ⟨rfl, show (1 : Nat) < 2 by decide⟩, trivial⟩, ⟨⟨by omega, rfl, bB_inn _ _ _⟩, ⟨by omega, rfl, ⟨trivial, trivial, trivial, trivial, trivial⟩, trivial⟩, trivial⟩⟩
           rintro rfl
           simp [nds] at *
           done)
    obtain ⟨x, t, rfl⟩ : ∃ x t, l = x :: t := by
      cases l with
      | nil => exact absurd rfl hne
      | cons x t => exact ⟨x, t, rfl⟩
    have hx := hl x (by simp)
    have ht : ∀ y ∈ t, y.ok := fun y hy => hl y (by simp [hy])
    clear hl hne hnl
    obtain ⟨op, hop, hop0, hop1⟩ : ∃ op, IntKind.i64.wrap (x.op.tmod 18) = op ∧ 0 ≤ op ∧ op ≤ 17 := by
      have h0 := hx.1
      have e : x.op.tmod 18 = x.op % 18 := Int.tmod_eq_emod_of_nonneg h0
      have h1 := Int.emod_nonneg x.op (show (18 : Int) ≠ 0 by decide)
      have h2 := Int.emod_lt_of_pos x.op (show (0 : Int) < 18 by decide)
      exact ⟨_, rfl, by rw [e, IntWalk.i64_in _ ⟨by omega, by omega⟩]; exact h1, by rw [e, IntWalk.i64_in _ ⟨by omega, by omega⟩]; omega⟩
    iterate 6 (first
      | refine aw_seq ?_
      | refine aw_region ?_
      | refine aw_draw [] ?_
      | refine opsK_done ?_
      | refine opsK_on rfl ?_
      | refine opsK_off rfl ?_
      | (refine opsK_bool rfl rfl rfl (fun hb => ?_) (fun hb => ?_) <;> try cases hb)
      | refine opsK_of rfl rfl rfl ?_
      | refine opsK_new rfl rfl rfl ?_
      | refine dK_done ?_
      | refine dK_on rfl ?_
      | refine dK_off ⟨_, rfl, nofun⟩ ?_
      | (refine dK_bool rfl rfl rfl (fun hb => ?_) (fun hb => ?_) <;> try cases hb)
      | refine dK_of rfl rfl rfl ?_
      | refine aw_condT rfl ?_
      | refine aw_condF rfl ?_
      | (refine aw_cond rfl (fun hb => ?_) (fun hb => ?_) <;> try cases hb)
      | refine aw_block ?_
      | refine aw_skip ?_
      | refine aw_exit ?_
      | refine aw_ret ?_)
    refine opsK_of (E_iaddr (xs := x :: t) rfl rfl 0 rfl (Nat.zero_lt_succ _) rfl) rfl rfl ?_
    rw [show (x :: t)[0] = x from rfl]
    iterate 11 (first
      | refine aw_seq ?_
      | refine aw_region ?_
      | refine aw_draw [] ?_
      | refine opsK_done ?_
      | refine opsK_on rfl ?_
      | refine opsK_off rfl ?_
      | (refine opsK_bool rfl rfl rfl (fun hb => ?_) (fun hb => ?_) <;> try cases hb)
      | refine opsK_of rfl rfl rfl ?_
      | refine opsK_new rfl rfl rfl ?_
      | refine dK_done ?_
      | refine dK_on rfl ?_
      | refine dK_off ⟨_, rfl, nofun⟩ ?_
      | (refine dK_bool rfl rfl rfl (fun hb => ?_) (fun hb => ?_) <;> try cases hb)
      | refine dK_of rfl rfl rfl ?_
      | refine aw_condT rfl ?_
      | refine aw_condF rfl ?_
      | (refine aw_cond rfl (fun hb => ?_) (fun hb => ?_) <;> try cases hb)
      | refine aw_block ?_
      | refine aw_skip ?_
      | refine aw_exit ?_
      | refine aw_ret ?_)
    refine opsK_of (E_slc (xs := x :: t) rfl 1 ((x :: t).map ndC).length rfl rfl (by simp) (by simp) (fun _ => rfl)) rfl rfl ?_
    have htl : (((x :: t).take ((x :: t).map ndC).length).drop 1).map ndC = nds t := by simp [nds]
    rw [htl]
    iterate 9 (first
      | refine aw_seq ?_
      | refine aw_region ?_
      | refine aw_draw [] ?_
      | refine opsK_done ?_
      | refine opsK_on rfl ?_
      | refine opsK_off rfl ?_
      | (refine opsK_bool rfl rfl rfl (fun hb => ?_) (fun hb => ?_) <;> try cases hb)
      | refine opsK_of rfl rfl rfl ?_
      | refine opsK_new rfl rfl rfl ?_
      | refine dK_done ?_
      | refine dK_on rfl ?_
      | refine dK_off ⟨_, rfl, nofun⟩ ?_
      | (refine dK_bool rfl rfl rfl (fun hb => ?_) (fun hb => ?_) <;> try cases hb)
      | refine dK_of rfl rfl rfl ?_
      | refine aw_condT rfl ?_
      | refine aw_condF rfl ?_
      | (refine aw_cond rfl (fun hb => ?_) (fun hb => ?_) <;> try cases hb)
      | refine aw_block ?_
      | refine aw_skip ?_
      | refine aw_exit ?_
      | refine aw_ret ?_)
    refine opsK_of (E_int rfl hop) rfl rfl ?_
    iterate 6 (first
      | refine aw_seq ?_
      | refine aw_region ?_
      | refine aw_draw [] ?_
      | refine opsK_done ?_
      | refine opsK_on rfl ?_
      | refine opsK_off rfl ?_
      | (refine opsK_bool rfl rfl rfl (fun hb => ?_) (fun hb => ?_) <;> try cases hb)
      | refine opsK_of rfl rfl rfl ?_
      | refine opsK_new rfl rfl rfl ?_
      | refine dK_done ?_
      | refine dK_on rfl ?_
      | refine dK_off ⟨_, rfl, nofun⟩ ?_
      | (refine dK_bool rfl rfl rfl (fun hb => ?_) (fun hb => ?_) <;> try cases hb)
      | refine dK_of rfl rfl rfl ?_
      | refine aw_condT rfl ?_
      | refine aw_condF rfl ?_
      | (refine aw_cond rfl (fun hb => ?_) (fun hb => ?_) <;> try cases hb)
      | refine aw_block ?_
      | refine aw_skip ?_
      | refine aw_exit ?_
      | refine aw_ret ?_)
    have hdn := hd
    -- the number
    refine aw_cutX hC (fun _ : Int => True) 4 (fun n' => [(0, .ptr 0 0 0), (1, .val (.int .i64 ((d + 1 : Nat) : Int))), (4, .ptr 1 0 0), (5, .ptr 2 0 0), (6, .ptr 3 0 0)]) (fun n' => [(0, bB t false), (1, ⟨4, [[.val (.int .i64 0), .val (.int .i64 0), .vec [] true, .vec [] true]]⟩), (2, ⟨5, [ndC x]⟩), (3, ⟨4, [[.val (.int .i64 op), .val (.int .i64 n'), .vec [] true, .vec [] true]]⟩)]) (by omega) ?_ fun n' _ => ?_
    · repeat' (first
      | refine aw_seq ?_
      | refine aw_region ?_
      | refine aw_draw [] ?_
      | refine opsK_done ?_
      | refine opsK_on rfl ?_
      | refine opsK_off rfl ?_
      | (refine opsK_bool rfl rfl rfl (fun hb => ?_) (fun hb => ?_) <;> try cases hb)
      | refine opsK_of rfl rfl rfl ?_
      | refine opsK_new rfl rfl rfl ?_
      | refine dK_done ?_
      | refine dK_on rfl ?_
      | refine dK_off ⟨_, rfl, nofun⟩ ?_
      | (refine dK_bool rfl rfl rfl (fun hb => ?_) (fun hb => ?_) <;> try cases hb)
      | refine dK_of rfl rfl rfl ?_
      | refine aw_condT rfl ?_
      | refine aw_condF rfl ?_
      | (refine aw_cond rfl (fun hb => ?_) (fun hb => ?_) <;> try cases hb)
      | refine aw_block ?_
      | refine aw_skip ?_
      | refine aw_exit ?_
      | refine aw_ret ?_)
      all_goals exact ⟨_, trivial, ⟨⟨rfl, show (0 : Nat) < 4 by decide⟩, ⟨rfl, trivial⟩, ⟨rfl, show (1 : Nat) < 4 by decide⟩, ⟨rfl, show (2 : Nat) < 4 by decide⟩, ⟨rfl, show (3 : Nat) < 4 by decide⟩, trivial⟩, ⟨⟨by omega, rfl, bB_inn _ _ _⟩, ⟨by omega, rfl, ⟨trivial, trivial, trivial, trivial, trivial⟩, trivial⟩, ⟨by omega, rfl, ⟨trivial, trivial, trivial, trivial, trivial, trivial⟩, trivial⟩, ⟨by omega, rfl, ⟨trivial, trivial, trivial, trivial, trivial⟩, trivial⟩, trivial⟩⟩
    -- how many operands
    iterate 4 (first
      | refine aw_seq ?_
      | refine aw_region ?_
      | refine aw_draw [] ?_
      | refine opsK_done ?_
      | refine opsK_on rfl ?_
      | refine opsK_off rfl ?_
      | (refine opsK_bool rfl rfl rfl (fun hb => ?_) (fun hb => ?_) <;> try cases hb)
      | refine opsK_of rfl rfl rfl ?_
      | refine opsK_new rfl rfl rfl ?_
      | refine dK_done ?_
      | refine dK_on rfl ?_
      | refine dK_off ⟨_, rfl, nofun⟩ ?_
      | (refine dK_bool rfl rfl rfl (fun hb => ?_) (fun hb => ?_) <;> try cases hb)
      | refine dK_of rfl rfl rfl ?_
      | refine aw_condT rfl ?_
      | refine aw_condF rfl ?_
      | (refine aw_cond rfl (fun hb => ?_) (fun hb => ?_) <;> try cases hb)
      | refine aw_block ?_
      | refine aw_skip ?_
      | refine aw_exit ?_
      | refine aw_ret ?_)
    refine opsK_eq (operands_spec op) rfl rfl rfl ⟨trivial, trivial⟩ rfl ?_
    obtain ⟨c0, hc0, hc2⟩ : ∃ c0 : Nat, operandsM op = (c0 : Int) ∧ c0 ≤ 2 := by
      unfold operandsM
      split
      · exact ⟨2, rfl, by omega⟩
      · split
        · exact ⟨1, rfl, by omega⟩
        · exact ⟨0, rfl, by omega⟩
    rw [hc0]
    iterate 2 (first
      | refine aw_seq ?_
      | refine aw_region ?_
      | refine aw_draw [] ?_
      | refine opsK_done ?_
      | refine opsK_on rfl ?_
      | refine opsK_off rfl ?_
      | (refine opsK_bool rfl rfl rfl (fun hb => ?_) (fun hb => ?_) <;> try cases hb)
      | refine opsK_of rfl rfl rfl ?_
      | refine opsK_new rfl rfl rfl ?_
      | refine dK_done ?_
      | refine dK_on rfl ?_
      | refine dK_off ⟨_, rfl, nofun⟩ ?_
      | (refine dK_bool rfl rfl rfl (fun hb => ?_) (fun hb => ?_) <;> try cases hb)
      | refine dK_of rfl rfl rfl ?_
      | refine aw_condT rfl ?_
      | refine aw_condF rfl ?_
      | (refine aw_cond rfl (fun hb => ?_) (fun hb => ?_) <;> try cases hb)
      | refine aw_block ?_
      | refine aw_skip ?_
      | refine aw_exit ?_
      | refine aw_ret ?_)
    refine aw_cutX hC (fun c : Nat => c ≤ 5) 4 (fun c => [(0, .ptr 0 0 0), (1, .val (.int .i64 ((d + 1 : Nat) : Int))), (4, .ptr 1 0 0), (5, .ptr 2 0 0), (6, .ptr 3 0 0), (7, .val (.int .i64 (c : Int)))]) (fun c => [(0, bB t false), (1, ⟨4, [[.val (.int .i64 0), .val (.int .i64 0), .vec [] true, .vec [] true]]⟩), (2, ⟨5, [ndC x]⟩), (3, ⟨4, [[.val (.int .i64 op), .val (.int .i64 n'), .vec [] true, .vec [] true]]⟩)]) (by omega) ?_ fun c hc => ?_
    · repeat' (first
      | refine aw_seq ?_
      | refine aw_region ?_
      | refine aw_draw [] ?_
      | refine opsK_done ?_
      | refine opsK_on rfl ?_
      | refine opsK_off rfl ?_
      | (refine opsK_bool rfl rfl rfl (fun hb => ?_) (fun hb => ?_) <;> try cases hb)
      | refine opsK_of rfl rfl rfl ?_
      | refine opsK_new rfl rfl rfl ?_
      | refine dK_done ?_
      | refine dK_on rfl ?_
      | refine dK_off ⟨_, rfl, nofun⟩ ?_
      | (refine dK_bool rfl rfl rfl (fun hb => ?_) (fun hb => ?_) <;> try cases hb)
      | refine dK_of rfl rfl rfl ?_
      | refine aw_condT rfl ?_
      | refine aw_condF rfl ?_
      | (refine aw_cond rfl (fun hb => ?_) (fun hb => ?_) <;> try cases hb)
      | refine aw_block ?_
      | refine aw_skip ?_
      | refine aw_exit ?_
      | refine aw_ret ?_)
      · have h1 : x.args ≥ 250 := by simpa using hb
        have h2 := hx.2.2.2
        have e : IntKind.i64.wrap (IntKind.u8.wrap (x.args - 250)) = ((x.args - 250).toNat : Int) := by
          rw [IntKind.wrap_u8, Int.toNat_of_nonneg (by omega), IntWalk.i64_in _ ⟨by omega, by omega⟩]
          omega
        exact ⟨(x.args - 250).toNat, by omega, ⟨⟨rfl, show (0 : Nat) < 4 by decide⟩, ⟨rfl, trivial⟩, ⟨rfl, show (1 : Nat) < 4 by decide⟩, ⟨rfl, show (2 : Nat) < 4 by decide⟩, ⟨rfl, show (3 : Nat) < 4 by decide⟩, ⟨by rw [← e]; rfl, trivial⟩, trivial⟩, ⟨⟨by omega, rfl, bB_inn _ _ _⟩, ⟨by omega, rfl, ⟨trivial, trivial, trivial, trivial, trivial⟩, trivial⟩, ⟨by omega, rfl, ⟨trivial, trivial, trivial, trivial, trivial, trivial⟩, trivial⟩, ⟨by omega, rfl, ⟨trivial, trivial, trivial, trivial, trivial⟩, trivial⟩, trivial⟩⟩
      · exact ⟨c0, by omega, ⟨⟨rfl, show (0 : Nat) < 4 by decide⟩, ⟨rfl, trivial⟩, ⟨rfl, show (1 : Nat) < 4 by decide⟩, ⟨rfl, show (2 : Nat) < 4 by decide⟩, ⟨rfl, show (3 : Nat) < 4 by decide⟩, ⟨rfl, trivial⟩, trivial⟩, ⟨⟨by omega, rfl, bB_inn _ _ _⟩, ⟨by omega, rfl, ⟨trivial, trivial, trivial, trivial, trivial⟩, trivial⟩, ⟨by omega, rfl, ⟨trivial, trivial, trivial, trivial, trivial, trivial⟩, trivial⟩, ⟨by omega, rfl, ⟨trivial, trivial, trivial, trivial, trivial⟩, trivial⟩, trivial⟩⟩
    -- the roles
    refine aw_cutX hC (fun r : List Int => r.length ≤ 1) 4 (fun r => [(0, .ptr 0 0 0), (1, .val (.int .i64 ((d + 1 : Nat) : Int))), (4, .ptr 1 0 0), (5, .ptr 2 0 0), (6, .ptr 3 0 0), (7, .val (.int .i64 (c : Int)))]) (fun r => [(0, bB t false), (1, ⟨4, [[.val (.int .i64 0), .val (.int .i64 0), .vec [] true, .vec [] true]]⟩), (2, ⟨5, [ndC x]⟩), (3, ⟨4, [[.val (.int .i64 op), .val (.int .i64 n'), .vec (nums r) true, .vec [] true]]⟩)]) (by omega) ?_ fun r hr => ?_
    · repeat' (first
      | refine aw_seq ?_
      | refine aw_region ?_
      | refine aw_draw [] ?_
      | refine opsK_done ?_
      | refine opsK_on rfl ?_
      | refine opsK_off rfl ?_
      | (refine opsK_bool rfl rfl rfl (fun hb => ?_) (fun hb => ?_) <;> try cases hb)
      | refine opsK_of rfl rfl rfl ?_
      | refine opsK_new rfl rfl rfl ?_
      | refine dK_done ?_
      | refine dK_on rfl ?_
      | refine dK_off ⟨_, rfl, nofun⟩ ?_
      | (refine dK_bool rfl rfl rfl (fun hb => ?_) (fun hb => ?_) <;> try cases hb)
      | refine dK_of rfl rfl rfl ?_
      | refine aw_condT rfl ?_
      | refine aw_condF rfl ?_
      | (refine aw_cond rfl (fun hb => ?_) (fun hb => ?_) <;> try cases hb)
      | refine aw_block ?_
      | refine aw_skip ?_
      | refine aw_exit ?_
      | refine aw_ret ?_)
      all_goals first
        | exact ⟨[], Nat.zero_le _, ⟨⟨rfl, show (0 : Nat) < 4 by decide⟩, ⟨rfl, trivial⟩, ⟨rfl, show (1 : Nat) < 4 by decide⟩, ⟨rfl, show (2 : Nat) < 4 by decide⟩, ⟨rfl, show (3 : Nat) < 4 by decide⟩, ⟨rfl, trivial⟩, trivial⟩, ⟨⟨by omega, rfl, bB_inn _ _ _⟩, ⟨by omega, rfl, ⟨trivial, trivial, trivial, trivial, trivial⟩, trivial⟩, ⟨by omega, rfl, ⟨trivial, trivial, trivial, trivial, trivial, trivial⟩, trivial⟩, ⟨by omega, rfl, ⟨trivial, trivial, trivial, trivial, trivial⟩, trivial⟩, trivial⟩⟩
        | exact ⟨[_], Nat.le_refl _, ⟨⟨rfl, show (0 : Nat) < 4 by decide⟩, ⟨rfl, trivial⟩, ⟨rfl, show (1 : Nat) < 4 by decide⟩, ⟨rfl, show (2 : Nat) < 4 by decide⟩, ⟨rfl, show (3 : Nat) < 4 by decide⟩, ⟨rfl, trivial⟩, trivial⟩, ⟨⟨by omega, rfl, bB_inn _ _ _⟩, ⟨by omega, rfl, ⟨trivial, trivial, trivial, trivial, trivial⟩, trivial⟩, ⟨by omega, rfl, ⟨trivial, trivial, trivial, trivial, trivial, trivial⟩, trivial⟩, ⟨by omega, rfl, ⟨trivial, trivial, nums_inn _ _, trivial, trivial⟩, trivial⟩, trivial⟩⟩
    refine aw_cutX hC (fun q : List Int × Bool => q.1.length ≤ 3) 4 (fun q => [(0, .ptr 0 0 0), (1, .val (.int .i64 ((d + 1 : Nat) : Int))), (4, .ptr 1 0 0), (6, .ptr 3 0 0), (7, .val (.int .i64 (c : Int)))]) (fun q => [(0, bB t false), (1, ⟨4, [[.val (.int .i64 0), .val (.int .i64 0), .vec [] true, .vec [] true]]⟩), (3, ⟨4, [[.val (.int .i64 op), .val (.int .i64 n'), .vec (nums q.1) q.2, .vec [] true]]⟩)]) (by omega) ?_ fun q hq => ?_
    · have SS : ∀ {P : Prop}, P → P := fun h => h
      repeat' (first
        | refine aw_seq ?_
        | refine aw_region ?_
        | refine aw_draw [] ?_
        | refine opsK_done ?_
        | refine opsK_on rfl ?_
        | refine opsK_off rfl ?_
        | (refine opsK_bool rfl rfl rfl (fun hb => ?_) (fun hb => ?_) <;> try cases hb)
        | refine opsK_of rfl rfl rfl ?_
        | refine opsK_new rfl rfl rfl ?_
        | refine dK_done ?_
        | refine dK_on rfl ?_
        | refine dK_off ⟨_, rfl, nofun⟩ ?_
        | (refine dK_bool rfl rfl rfl (fun hb => ?_) (fun hb => ?_) <;> try cases hb)
        | refine dK_of rfl rfl rfl ?_
        | refine aw_condT rfl ?_
        | refine aw_condF rfl ?_
        | (refine aw_cond rfl (fun hb => ?_) (fun hb => ?_) <;> try cases hb)
        | refine aw_block ?_
        | refine aw_skip ?_
        | refine aw_exit ?_
        | refine aw_ret ?_)
      · refine opsK_ofAlt (E_appendF (l := nums r) (m := nums [_, _]) rfl rfl (fun c hc => by obtain ⟨x, _, rfl⟩ := List.mem_map.1 hc; rfl) (fun c hc => by obtain ⟨x, _, rfl⟩ := List.mem_map.1 hc; rfl) (by
          rw [nums_length, nums_length]
          show (r.length + 2) * 8 ≤ _
          omega)) rfl rfl ?_
        rw [show ∀ a b : List Int, nums a ++ nums b = nums (a ++ b) from fun a b => by simp [nums]]
        repeat' (first
          | refine aw_seq ?_
          | refine aw_region ?_
          | refine aw_draw [] ?_
          | refine opsK_done ?_
          | refine opsK_on rfl ?_
          | refine opsK_off rfl ?_
          | (refine opsK_bool rfl rfl rfl (fun hb => ?_) (fun hb => ?_) <;> try cases hb)
          | refine opsK_of rfl rfl rfl ?_
          | refine opsK_new rfl rfl rfl ?_
          | refine dK_done ?_
          | refine dK_on rfl ?_
          | refine dK_off ⟨_, rfl, nofun⟩ ?_
          | (refine dK_bool rfl rfl rfl (fun hb => ?_) (fun hb => ?_) <;> try cases hb)
          | refine dK_of rfl rfl rfl ?_
          | refine aw_condT rfl ?_
          | refine aw_condF rfl ?_
          | (refine aw_cond rfl (fun hb => ?_) (fun hb => ?_) <;> try cases hb)
          | refine aw_block ?_
          | refine aw_skip ?_
          | refine aw_exit ?_
          | refine aw_ret ?_)
        refine ⟨(r ++ [_, _], false), ?_, ⟨⟨rfl, show (0 : Nat) < 4 by decide⟩, ⟨rfl, trivial⟩, ⟨rfl, show (1 : Nat) < 4 by decide⟩, ⟨rfl, show (3 : Nat) < 4 by decide⟩, ⟨rfl, trivial⟩, trivial⟩, ⟨⟨by omega, rfl, bB_inn _ _ _⟩, ⟨by omega, rfl, ⟨trivial, trivial, trivial, trivial, trivial⟩, trivial⟩, ⟨by omega, rfl, ⟨trivial, trivial, nums_inn _ _, trivial, trivial⟩, trivial⟩, trivial⟩⟩
        simp only [List.length_append, List.length_cons, List.length_nil]; omega
      · exact ⟨(r, true), by simp only; omega, ⟨⟨rfl, show (0 : Nat) < 4 by decide⟩, ⟨rfl, trivial⟩, ⟨rfl, show (1 : Nat) < 4 by decide⟩, ⟨rfl, show (3 : Nat) < 4 by decide⟩, ⟨rfl, trivial⟩, trivial⟩, ⟨⟨by omega, rfl, bB_inn _ _ _⟩, ⟨by omega, rfl, ⟨trivial, trivial, trivial, trivial, trivial⟩, trivial⟩, ⟨by omega, rfl, ⟨trivial, trivial, nums_inn _ _, trivial, trivial⟩, trivial⟩, trivial⟩⟩
    obtain ⟨r2, f2⟩ := q
    simp only at hq
    clear hr
    -- the operands
    iterate 3 (first
      | refine aw_seq ?_
      | refine aw_region ?_
      | refine aw_draw [] ?_
      | refine opsK_done ?_
      | refine opsK_on rfl ?_
      | refine opsK_off rfl ?_
      | (refine opsK_bool rfl rfl rfl (fun hb => ?_) (fun hb => ?_) <;> try cases hb)
      | refine opsK_of rfl rfl rfl ?_
      | refine opsK_new rfl rfl rfl ?_
      | refine dK_done ?_
      | refine dK_on rfl ?_
      | refine dK_off ⟨_, rfl, nofun⟩ ?_
      | (refine dK_bool rfl rfl rfl (fun hb => ?_) (fun hb => ?_) <;> try cases hb)
      | refine dK_of rfl rfl rfl ?_
      | refine aw_condT rfl ?_
      | refine aw_condF rfl ?_
      | (refine aw_cond rfl (fun hb => ?_) (fun hb => ?_) <;> try cases hb)
      | refine aw_block ?_
      | refine aw_skip ?_
      | refine aw_exit ?_
      | refine aw_ret ?_)
    refine opsK_sub (subA_cellNil (id := 3) (b := ⟨4, [[.val (.int .i64 op), .val (.int .i64 n'), .vec (nums r2) f2, .vec [] true]]⟩) (i0 := 0) (j0 := 3) rfl (show 0 < 1 by decide) (show 3 < 4 by decide) rfl 4 (by decide) (by decide)) ?_
    repeat' (first
      | refine aw_seq ?_
      | refine aw_region ?_
      | refine aw_draw [] ?_
      | refine opsK_done ?_
      | refine opsK_on rfl ?_
      | refine opsK_off rfl ?_
      | (refine opsK_bool rfl rfl rfl (fun hb => ?_) (fun hb => ?_) <;> try cases hb)
      | refine opsK_of rfl rfl rfl ?_
      | refine opsK_new rfl rfl rfl ?_
      | refine dK_done ?_
      | refine dK_on rfl ?_
      | refine dK_off ⟨_, rfl, nofun⟩ ?_
      | (refine dK_bool rfl rfl rfl (fun hb => ?_) (fun hb => ?_) <;> try cases hb)
      | refine dK_of rfl rfl rfl ?_
      | refine aw_condT rfl ?_
      | refine aw_condF rfl ?_
      | (refine aw_cond rfl (fun hb => ?_) (fun hb => ?_) <;> try cases hb)
      | refine aw_block ?_
      | refine aw_skip ?_
      | refine aw_exit ?_
      | refine aw_ret ?_)
    refine aw_loopR hC (fun (y : List Fm × List Nd × Bool) => y.1.length ≤ c ∧ (∀ a ∈ y.1, Small (d + 1) a) ∧ ∀ z ∈ y.2.1, z.ok) (fun y => c - y.1.length) 5 (fun y => [(0, .ptr 0 0 0), (1, .val (.int .i64 ((d + 1 : Nat) : Int))), (4, .ptr 1 0 0), (6, .ptr 3 0 0), (7, .val (.int .i64 (c : Int))), (8, .val (.int .i64 (y.1.length : Int)))])
      (fun y => [(0, bB y.2.1 y.2.2), (1, ⟨4, [[.val (.int .i64 0), .val (.int .i64 0), .vec [] true, .vec [] true]]⟩), (3, ⟨4, [[.val (.int .i64 op), .val (.int .i64 n'), .vec (nums r2) f2, .own 4]]⟩), (4, ⟨4, y.1.map (cellsK .i64)⟩)]) (by omega) ([], t, false) ⟨Nat.zero_le _, fun a ha => (by cases ha), ht⟩ (fun i => i) (fun _ _ => rfl) injOn_id
      ⟨⟨_, rfl, .ptr 0 0 0 (by decide)⟩, ⟨_, rfl, .pure _ trivial⟩, ⟨_, rfl, .ptr 1 0 0 (by decide)⟩, ⟨_, rfl, .ptr 3 0 0 (by decide)⟩, ⟨_, rfl, .pure _ trivial⟩, ⟨_, rfl, .pure _ trivial⟩, trivial⟩
      ⟨⟨by omega, _, rfl, .same _ (bB_pure _ _)⟩, ⟨by omega, _, rfl, .same _ ⟨⟨trivial, trivial, trivial, trivial, trivial⟩, trivial⟩⟩, ⟨by omega, _, rfl, RenB.single ⟨.pure _ trivial, .pure _ trivial, .pure _ (nums_pure _), .own 4 (by decide), trivial⟩ rfl⟩, ⟨by omega, _, rfl, .same _ trivial⟩, trivial⟩ ?_
    rintro ⟨acc, l', fl'⟩ ⟨ha1, ha2, ha3⟩
    simp only at ha1 ha2 ha3
    have hinc : IntKind.i64.wrap ((acc.length : Int) + 1) = ((acc.length + 1 : Nat) : Int) := IntWalk.i64_in _ ⟨by omega, by omega⟩
    have hacl : (acc.map (cellsK .i64)).length = acc.length := by simp
    iterate 5 (first
      | refine aw_seq ?_
      | refine aw_region ?_
      | refine aw_draw [] ?_
      | refine opsK_done ?_
      | refine opsK_on rfl ?_
      | refine opsK_off rfl ?_
      | (refine opsK_bool rfl rfl rfl (fun hb => ?_) (fun hb => ?_) <;> try cases hb)
      | refine opsK_of rfl rfl rfl ?_
      | refine opsK_new rfl rfl rfl ?_
      | refine dK_done ?_
      | refine dK_on rfl ?_
      | refine dK_off ⟨_, rfl, nofun⟩ ?_
      | (refine dK_bool rfl rfl rfl (fun hb => ?_) (fun hb => ?_) <;> try cases hb)
      | refine dK_of rfl rfl rfl ?_
      | refine aw_condT rfl ?_
      | refine aw_condF rfl ?_
      | (refine aw_cond rfl (fun hb => ?_) (fun hb => ?_) <;> try cases hb)
      | refine aw_block ?_
      | refine aw_skip ?_
      | refine aw_exit ?_
      | refine aw_ret ?_)
    refine opsK_bool rfl rfl rfl (fun hb => ?_) (fun hb => ?_)
    · have hlt : acc.length < c := by simp at hb; omega
      clear hb
      iterate 5 (first
        | refine aw_seq ?_
        | refine aw_region ?_
        | refine aw_draw [] ?_
        | refine opsK_done ?_
        | refine opsK_on rfl ?_
        | refine opsK_off rfl ?_
        | (refine opsK_bool rfl rfl rfl (fun hb => ?_) (fun hb => ?_) <;> try cases hb)
        | refine opsK_of rfl rfl rfl ?_
        | refine opsK_new rfl rfl rfl ?_
        | refine dK_done ?_
        | refine dK_on rfl ?_
        | refine dK_off ⟨_, rfl, nofun⟩ ?_
        | (refine dK_bool rfl rfl rfl (fun hb => ?_) (fun hb => ?_) <;> try cases hb)
        | refine dK_of rfl rfl rfl ?_
        | refine aw_condT rfl ?_
        | refine aw_condF rfl ?_
        | (refine aw_cond rfl (fun hb => ?_) (fun hb => ?_) <;> try cases hb)
        | refine aw_block ?_
        | refine aw_skip ?_
        | refine aw_exit ?_
        | refine aw_ret ?_)
      refine aw_drawZ [] 0 (by decide) ?_
      iterate 4 (first
        | refine aw_seq ?_
        | refine aw_region ?_
        | refine aw_draw [] ?_
        | refine opsK_done ?_
        | refine opsK_on rfl ?_
        | refine opsK_off rfl ?_
        | (refine opsK_bool rfl rfl rfl (fun hb => ?_) (fun hb => ?_) <;> try cases hb)
        | refine opsK_of rfl rfl rfl ?_
        | refine opsK_new rfl rfl rfl ?_
        | refine dK_done ?_
        | refine dK_on rfl ?_
        | refine dK_off ⟨_, rfl, nofun⟩ ?_
        | (refine dK_bool rfl rfl rfl (fun hb => ?_) (fun hb => ?_) <;> try cases hb)
        | refine dK_of rfl rfl rfl ?_
        | refine aw_condT rfl ?_
        | refine aw_condF rfl ?_
        | (refine aw_cond rfl (fun hb => ?_) (fun hb => ?_) <;> try cases hb)
        | refine aw_block ?_
        | refine aw_skip ?_
        | refine aw_exit ?_
        | refine aw_ret ?_)
      refine dK_of (E_int rfl hdec) rfl rfl ?_
      refine dK_ptr (ih (by omega) l' ha3 fl') rfl rfl rfl rfl (bB_pure _ _) ⟨trivial, trivial⟩ ?_
      rintro r b' - - ⟨f, l2, fl2, hf, rfl, rfl, hl2⟩
      repeat' (first
        | refine aw_seq ?_
        | refine aw_region ?_
        | refine aw_draw [] ?_
        | refine opsK_done ?_
        | refine opsK_on rfl ?_
        | refine opsK_off rfl ?_
        | (refine opsK_bool rfl rfl rfl (fun hb => ?_) (fun hb => ?_) <;> try cases hb)
        | refine opsK_of rfl rfl rfl ?_
        | refine opsK_new rfl rfl rfl ?_
        | refine dK_done ?_
        | refine dK_on rfl ?_
        | refine dK_off ⟨_, rfl, nofun⟩ ?_
        | (refine dK_bool rfl rfl rfl (fun hb => ?_) (fun hb => ?_) <;> try cases hb)
        | refine dK_of rfl rfl rfl ?_
        | refine aw_condT rfl ?_
        | refine aw_condF rfl ?_
        | (refine aw_cond rfl (fun hb => ?_) (fun hb => ?_) <;> try cases hb)
        | refine aw_block ?_
        | refine aw_skip ?_
        | refine aw_exit ?_
        | refine aw_ret ?_)
      refine dK_of (E_append (k := 4) (m := [fC .i64 f]) (fl := true) rfl rfl rfl (fun c hc => by rw [List.mem_singleton.1 hc]; rfl) rfl (by
        show ((acc.map (cellsK .i64)).length + 1) * 64 ≤ _
        rw [hacl]; omega)) rfl rfl ?_
      have happ : acc.map (cellsK .i64) ++ [fC .i64 f] = (acc ++ [f]).map (cellsK .i64) := by rw [List.map_append, ← cellsK_eq]; rfl
      simp only
      rw [happ]
      repeat' (first
        | refine aw_seq ?_
        | refine aw_region ?_
        | refine aw_draw [] ?_
        | refine opsK_done ?_
        | refine opsK_on rfl ?_
        | refine opsK_off rfl ?_
        | (refine opsK_bool rfl rfl rfl (fun hb => ?_) (fun hb => ?_) <;> try cases hb)
        | refine opsK_of rfl rfl rfl ?_
        | refine opsK_new rfl rfl rfl ?_
        | refine dK_done ?_
        | refine dK_on rfl ?_
        | refine dK_off ⟨_, rfl, nofun⟩ ?_
        | (refine dK_bool rfl rfl rfl (fun hb => ?_) (fun hb => ?_) <;> try cases hb)
        | refine dK_of rfl rfl rfl ?_
        | refine aw_condT rfl ?_
        | refine aw_condF rfl ?_
        | (refine aw_cond rfl (fun hb => ?_) (fun hb => ?_) <;> try cases hb)
        | refine aw_block ?_
        | refine aw_skip ?_
        | refine aw_exit ?_
        | refine aw_ret ?_)
      refine ⟨(acc ++ [f], l2, fl2), mv 4 12, ⟨by simp only [List.length_append, List.length_singleton]; omega, fun a ha => ?_, hl2⟩, by simp only [List.length_append, List.length_singleton]; omega, mv_low (by decide), injOn_of rfl,
        ⟨⟨_, rfl, .ptr (ρ := mv 4 12) 0 0 0 (by decide)⟩, ⟨_, rfl, .pure _ trivial⟩, ⟨_, rfl, .ptr (ρ := mv 4 12) 1 0 0 (by decide)⟩, ⟨_, rfl, .ptr (ρ := mv 4 12) 3 0 0 (by decide)⟩, ⟨_, rfl, .pure _ trivial⟩, ⟨_, by show some _ = some _; rw [hinc, List.length_append, List.length_singleton], .pure _ trivial⟩, trivial⟩,
        ⟨⟨by omega, _, rfl, .same _ (bB_pure _ _)⟩, ⟨by omega, _, rfl, .same _ ⟨⟨trivial, trivial, trivial, trivial, trivial⟩, trivial⟩⟩, ⟨by omega, _, rfl, RenB.single ⟨.pure _ trivial, .pure _ trivial, .pure _ (nums_pure _), .own (ρ := mv 4 12) 4 (by decide), trivial⟩ rfl⟩, ⟨by omega, _, rfl, .same _ (fArgs_pure _ _)⟩, trivial⟩⟩
      rcases List.mem_append.1 ha with ha | ha
      · exact ha2 a ha
      · rw [List.mem_singleton.1 ha]; exact hf
    · have hlt : acc.length = c := by simp at hb; omega
      clear hb
      iterate 6 (first
        | refine aw_seq ?_
        | refine aw_region ?_
        | refine aw_draw [] ?_
        | refine opsK_done ?_
        | refine opsK_on rfl ?_
        | refine opsK_off rfl ?_
        | (refine opsK_bool rfl rfl rfl (fun hb => ?_) (fun hb => ?_) <;> try cases hb)
        | refine opsK_of rfl rfl rfl ?_
        | refine opsK_new rfl rfl rfl ?_
        | refine dK_done ?_
        | refine dK_on rfl ?_
        | refine dK_off ⟨_, rfl, nofun⟩ ?_
        | (refine dK_bool rfl rfl rfl (fun hb => ?_) (fun hb => ?_) <;> try cases hb)
        | refine dK_of rfl rfl rfl ?_
        | refine aw_condT rfl ?_
        | refine aw_condF rfl ?_
        | (refine aw_cond rfl (fun hb => ?_) (fun hb => ?_) <;> try cases hb)
        | refine aw_block ?_
        | refine aw_skip ?_
        | refine aw_exit ?_
        | refine aw_ret ?_)
      refine opsK_sub (subA_freezeP (k := 120) (id := 4) (b := ⟨4, acc.map (cellsK .i64)⟩) rfl rfl (fArgs_pure _ _) (FrzLs.agg (id := 4) (l := acc.map (cellsK .i64)) (xs := [.val (.int .i64 op), .val (.int .i64 n'), .vec (nums r2) f2, .own 4]) (ys := [.val (.int .i64 op), .val (.int .i64 n'), .vec (nums r2) f2, .vec (acc.map (cellsK .i64)) false]) ⟨.pure _ trivial, .pure _ trivial, .pure _ (nums_pure _), .own, trivial⟩)) ?_
      repeat' (first
        | refine aw_seq ?_
        | refine aw_region ?_
        | refine aw_draw [] ?_
        | refine opsK_done ?_
        | refine opsK_on rfl ?_
        | refine opsK_off rfl ?_
        | (refine opsK_bool rfl rfl rfl (fun hb => ?_) (fun hb => ?_) <;> try cases hb)
        | refine opsK_of rfl rfl rfl ?_
        | refine opsK_new rfl rfl rfl ?_
        | refine dK_done ?_
        | refine dK_on rfl ?_
        | refine dK_off ⟨_, rfl, nofun⟩ ?_
        | (refine dK_bool rfl rfl rfl (fun hb => ?_) (fun hb => ?_) <;> try cases hb)
        | refine dK_of rfl rfl rfl ?_
        | refine aw_condT rfl ?_
        | refine aw_condF rfl ?_
        | (refine aw_cond rfl (fun hb => ?_) (fun hb => ?_) <;> try cases hb)
        | refine aw_block ?_
        | refine aw_skip ?_
        | refine aw_exit ?_
        | refine aw_ret ?_)
      refine ret_built (f := .mk op n' r2 acc) rfl ?_ rfl ⟨hop0, Int.le_trans hop1 (by decide), Nat.le_trans hq (by decide), Nat.le_trans ha1 hc, ha2⟩ ha3
      show PV.agg [_, _, .vec (lowLL (nums r2)) false, .vec (lowLL (acc.map (cellsK .i64))) false] = _
      have e : lowLL (acc.map (cellsK .i64)) = acc.map (cellsK .i64) := by rw [← cellsKL_eq, lowLL_cells]
      rw [lowLL_nums, e]
      rfl

theorem build18_spec (l : List Nd) (hl : ∀ x ∈ l, x.ok) (fl : Bool) : Spec Try.prog 12 [.vec (nds l) fl] (fun r => ∃ f : Fm, Small 13 f ∧ r = .agg (fC .i64 f)) := by
  refine spec_intro ok12 (Nat.le_of_ble_eq_true rfl) fun C hC => ?_
  have hnl : (nds l).length = l.length := by simp [nds]
  iterate 4 (first
    | refine aw_seq ?_
    | refine aw_region ?_
    | refine aw_draw [] ?_
    | refine opsK_done ?_
    | refine opsK_on rfl ?_
    | refine opsK_off rfl ?_
    | (refine opsK_bool rfl rfl rfl (fun hb => ?_) (fun hb => ?_) <;> try cases hb)
    | refine opsK_of rfl rfl rfl ?_
    | refine opsK_new rfl rfl rfl ?_
    | refine dK_done ?_
    | refine dK_on rfl ?_
    | refine dK_off ⟨_, rfl, nofun⟩ ?_
    | (refine dK_bool rfl rfl rfl (fun hb => ?_) (fun hb => ?_) <;> try cases hb)
    | refine dK_of rfl rfl rfl ?_
    | refine aw_condT rfl ?_
    | refine aw_condF rfl ?_
    | (refine aw_cond rfl (fun hb => ?_) (fun hb => ?_) <;> try cases hb)
    | refine aw_block ?_
    | refine aw_skip ?_
    | refine aw_exit ?_
    | refine aw_ret ?_)
  refine aw_cutX hC (fun q : List Nd × Bool => ∀ x ∈ q.1, x.ok) 1 (fun q => [(0, .vec (nds q.1) q.2), (2, .ptr 0 0 0)]) (fun q => [(0, ⟨4, [[.val (.int .i64 0), .val (.int .i64 0), .vec [] true, .vec [] true]]⟩)]) (by omega) ?_ fun q hq => ?_
  · repeat' (first
    | refine aw_seq ?_
    | refine aw_region ?_
    | refine aw_draw [] ?_
    | refine opsK_done ?_
    | refine opsK_on rfl ?_
    | refine opsK_off rfl ?_
    | (refine opsK_bool rfl rfl rfl (fun hb => ?_) (fun hb => ?_) <;> try cases hb)
    | refine opsK_of rfl rfl rfl ?_
    | refine opsK_new rfl rfl rfl ?_
    | refine dK_done ?_
    | refine dK_on rfl ?_
    | refine dK_off ⟨_, rfl, nofun⟩ ?_
    | (refine dK_bool rfl rfl rfl (fun hb => ?_) (fun hb => ?_) <;> try cases hb)
    | refine dK_of rfl rfl rfl ?_
    | refine aw_condT rfl ?_
    | refine aw_condF rfl ?_
    | (refine aw_cond rfl (fun hb => ?_) (fun hb => ?_) <;> try cases hb)
    | refine aw_block ?_
    | refine aw_skip ?_
    | refine aw_exit ?_
    | refine aw_ret ?_)
    · have h40 : 40 ≤ l.length := by simp [hnl] at hb; omega
      refine opsK_of (E_slc (xs := l) rfl 0 40 rfl rfl (by omega) h40 (fun _ => rfl)) rfl rfl ?_
      repeat' (first
        | refine aw_seq ?_
        | refine aw_region ?_
        | refine aw_draw [] ?_
        | refine opsK_done ?_
        | refine opsK_on rfl ?_
        | refine opsK_off rfl ?_
        | (refine opsK_bool rfl rfl rfl (fun hb => ?_) (fun hb => ?_) <;> try cases hb)
        | refine opsK_of rfl rfl rfl ?_
        | refine opsK_new rfl rfl rfl ?_
        | refine dK_done ?_
        | refine dK_on rfl ?_
        | refine dK_off ⟨_, rfl, nofun⟩ ?_
        | (refine dK_bool rfl rfl rfl (fun hb => ?_) (fun hb => ?_) <;> try cases hb)
        | refine dK_of rfl rfl rfl ?_
        | refine aw_condT rfl ?_
        | refine aw_condF rfl ?_
        | (refine aw_cond rfl (fun hb => ?_) (fun hb => ?_) <;> try cases hb)
        | refine aw_block ?_
        | refine aw_skip ?_
        | refine aw_exit ?_
        | refine aw_ret ?_)
      exact ⟨(l.take 40, false), fun x hx => hl x (List.mem_of_mem_take hx), ⟨⟨by rw [List.drop_zero]; rfl, innLL_mono (fun _ h => h.elim) _ (nds_pure _)⟩, ⟨rfl, show (0 : Nat) < 1 by decide⟩, trivial⟩, ⟨⟨by omega, rfl, ⟨trivial, trivial, trivial, trivial, trivial⟩, trivial⟩, trivial⟩⟩
    · exact ⟨(l, fl), hl, ⟨⟨rfl, innLL_mono (fun _ h => h.elim) _ (nds_pure _)⟩, ⟨rfl, show (0 : Nat) < 1 by decide⟩, trivial⟩, ⟨⟨by omega, rfl, ⟨trivial, trivial, trivial, trivial, trivial⟩, trivial⟩, trivial⟩⟩
  obtain ⟨l2, f2⟩ := q
  repeat' (first
    | refine aw_seq ?_
    | refine aw_region ?_
    | refine aw_draw [] ?_
    | refine opsK_done ?_
    | refine opsK_on rfl ?_
    | refine opsK_off rfl ?_
    | (refine opsK_bool rfl rfl rfl (fun hb => ?_) (fun hb => ?_) <;> try cases hb)
    | refine opsK_of rfl rfl rfl ?_
    | refine opsK_new rfl rfl rfl ?_
    | refine dK_done ?_
    | refine dK_on rfl ?_
    | refine dK_off ⟨_, rfl, nofun⟩ ?_
    | (refine dK_bool rfl rfl rfl (fun hb => ?_) (fun hb => ?_) <;> try cases hb)
    | refine dK_of rfl rfl rfl ?_
    | refine aw_condT rfl ?_
    | refine aw_condF rfl ?_
    | (refine aw_cond rfl (fun hb => ?_) (fun hb => ?_) <;> try cases hb)
    | refine aw_block ?_
    | refine aw_skip ?_
    | refine aw_exit ?_
    | refine aw_ret ?_)
  refine opsK_ptr (build_spec 12 (by decide) l2 hq f2) rfl rfl rfl rfl (bB_pure _ _) ⟨trivial, trivial⟩ ?_
  rintro r b' - - ⟨f, l3, f3, hf, rfl, rfl, _⟩
  repeat' (first
    | refine aw_seq ?_
    | refine aw_region ?_
    | refine aw_draw [] ?_
    | refine opsK_done ?_
    | refine opsK_on rfl ?_
    | refine opsK_off rfl ?_
    | (refine opsK_bool rfl rfl rfl (fun hb => ?_) (fun hb => ?_) <;> try cases hb)
    | refine opsK_of rfl rfl rfl ?_
    | refine opsK_new rfl rfl rfl ?_
    | refine dK_done ?_
    | refine dK_on rfl ?_
    | refine dK_off ⟨_, rfl, nofun⟩ ?_
    | (refine dK_bool rfl rfl rfl (fun hb => ?_) (fun hb => ?_) <;> try cases hb)
    | refine dK_of rfl rfl rfl ?_
    | refine aw_condT rfl ?_
    | refine aw_condF rfl ?_
    | (refine aw_cond rfl (fun hb => ?_) (fun hb => ?_) <;> try cases hb)
    | refine aw_block ?_
    | refine aw_skip ?_
    | refine aw_exit ?_
    | refine aw_ret ?_)
  exact ret_ok rfl (fC_pure .i64 f) ⟨f, hf, rfl⟩

theorem nodes_shape {p : PV} (h : ShapeV Try.prog 44 p) : ∃ l fl, (∀ x ∈ l, Nd.ok x) ∧ p = .vec (nds l) fl := by
  obtain ⟨n', ll, fl, h1, h2, rfl⟩ := shapeV_slice h (e := 86) (by kernel_rfl)
  clear h1
  suffices h : ∃ l : List Nd, (∀ x ∈ l, Nd.ok x) ∧ ll = nds l by
    obtain ⟨l, h1, rfl⟩ := h
    exact ⟨l, fl, h1, rfl⟩
  clear h
  induction ll with
  | nil => exact ⟨[], fun x hx => (by cases hx), rfl⟩
  | cons a r ih =>
    obtain ⟨l, h3, rfl⟩ := ih fun x hx => h2 x (by simp [hx])
    have ha := h2 a (by simp)
    have hl := shape_len ha (k := 5) (by kernel_rfl)
    obtain ⟨n0, k0⟩ := shape_field ha (i := 0) (off := 0) (ty := 5) (sz := 1) (by kernel_rfl)
    obtain ⟨n1, k1⟩ := shape_field ha (i := 1) (off := 1) (ty := 5) (sz := 1) (by kernel_rfl)
    obtain ⟨n2, k2⟩ := shape_field ha (i := 2) (off := 2) (ty := 5) (sz := 1) (by kernel_rfl)
    obtain ⟨n3, k3⟩ := shape_field ha (i := 3) (off := 3) (ty := 4) (sz := 1) (by kernel_rfl)
    obtain ⟨n4, k4⟩ := shape_field ha (i := 4) (off := 4) (ty := 3) (sz := 1) (by kernel_rfl)
    match a, hl with
    | [c0, c1, c2, c3, c4], _ =>
      obtain ⟨m0, w0, e0⟩ := shape_int (show Shape _ n0 5 [c0] from k0) (k := .u8) (by kernel_rfl)
      obtain ⟨m1, w1, e1⟩ := shape_int (show Shape _ n1 5 [c1] from k1) (k := .u8) (by kernel_rfl)
      obtain ⟨m2, _, e2⟩ := shape_int (show Shape _ n2 5 [c2] from k2) (k := .u8) (by kernel_rfl)
      obtain ⟨b3, e3⟩ := shape_bool (show Shape _ n3 4 [c3] from k3) (by kernel_rfl)
      obtain ⟨m4, _, e4⟩ := shape_int (show Shape _ n4 3 [c4] from k4) (k := .i64) (by kernel_rfl)
      simp only [Lit.wf, Bool.and_eq_true, decide_eq_true_eq] at w0 w1
      simp only [List.cons.injEq, and_true] at e0 e1 e2 e3 e4
      subst e0 e1 e2 e3 e4
      refine ⟨⟨m0, m1, m2, b3, m4⟩ :: l, fun x hx => ?_, rfl⟩
      rcases List.mem_cons.1 hx with rfl | hx
      · exact ⟨w0.1, w0.2, w1.1, w1.2⟩
      · exact h3 x hx

theorem meaningForms_spec : ∀ ps, ShapeVs Try.prog Try.f4.params.toList ps → pureL ps → Spec Try.prog 4 ps (· = .val (.bool true)) := by
  intro ps hs hp
  rw [show Try.f4.params.toList = [44, 26] by kernel_rfl] at hs
  match ps, hs with
  | [a, c], ⟨ha, hc, _⟩ =>
    obtain ⟨l, fl, hl, rfl⟩ := nodes_shape ha
    obtain ⟨s, ms, fl2, hs, rfl⟩ := asked_shape hc
    refine spec_intro ok4 (Nat.le_of_ble_eq_true rfl) fun C hC => ?_
    refine aw_seq ?_
    refine aw_region ?_
    refine opsK_ofAlt rfl rfl rfl ?_
    repeat' (first
      | refine aw_seq ?_
      | refine aw_region ?_
      | refine aw_draw [] ?_
      | refine opsK_done ?_
      | refine opsK_on rfl ?_
      | refine opsK_off rfl ?_
      | (refine opsK_bool rfl rfl rfl (fun hb => ?_) (fun hb => ?_) <;> try cases hb)
      | refine opsK_of rfl rfl rfl ?_
      | refine opsK_new rfl rfl rfl ?_
      | refine dK_done ?_
      | refine dK_on rfl ?_
      | refine dK_off ⟨_, rfl, nofun⟩ ?_
      | (refine dK_bool rfl rfl rfl (fun hb => ?_) (fun hb => ?_) <;> try cases hb)
      | refine dK_of rfl rfl rfl ?_
      | refine aw_condT rfl ?_
      | refine aw_condF rfl ?_
      | (refine aw_cond rfl (fun hb => ?_) (fun hb => ?_) <;> try cases hb)
      | refine aw_block ?_
      | refine aw_skip ?_
      | refine aw_exit ?_
      | refine aw_ret ?_)
    refine opsK_eq awake_spec rfl rfl rfl trivial rfl ?_
    repeat' (first
      | refine aw_seq ?_
      | refine aw_region ?_
      | refine aw_draw [] ?_
      | refine opsK_done ?_
      | refine opsK_on rfl ?_
      | refine opsK_off rfl ?_
      | (refine opsK_bool rfl rfl rfl (fun hb => ?_) (fun hb => ?_) <;> try cases hb)
      | refine opsK_of rfl rfl rfl ?_
      | refine opsK_new rfl rfl rfl ?_
      | refine dK_done ?_
      | refine dK_on rfl ?_
      | refine dK_off ⟨_, rfl, nofun⟩ ?_
      | (refine dK_bool rfl rfl rfl (fun hb => ?_) (fun hb => ?_) <;> try cases hb)
      | refine dK_of rfl rfl rfl ?_
      | refine aw_condT rfl ?_
      | refine aw_condF rfl ?_
      | (refine aw_cond rfl (fun hb => ?_) (fun hb => ?_) <;> try cases hb)
      | refine aw_block ?_
      | refine aw_skip ?_
      | refine aw_exit ?_
      | refine aw_ret ?_)
    refine opsK_spec rfl rfl (build18_spec l hl fl) ⟨nds_pure l, trivial⟩ rfl ?_
    rintro r ⟨f, hf, rfl⟩
    obtain ⟨df, sf⟩ := hf.bounds
    repeat' (first
      | refine aw_seq ?_
      | refine aw_region ?_
      | refine aw_draw [] ?_
      | refine opsK_done ?_
      | refine opsK_on rfl ?_
      | refine opsK_off rfl ?_
      | (refine opsK_bool rfl rfl rfl (fun hb => ?_) (fun hb => ?_) <;> try cases hb)
      | refine opsK_of rfl rfl rfl ?_
      | refine opsK_new rfl rfl rfl ?_
      | refine dK_done ?_
      | refine dK_on rfl ?_
      | refine dK_off ⟨_, rfl, nofun⟩ ?_
      | (refine dK_bool rfl rfl rfl (fun hb => ?_) (fun hb => ?_) <;> try cases hb)
      | refine dK_of rfl rfl rfl ?_
      | refine aw_condT rfl ?_
      | refine aw_condF rfl ?_
      | (refine aw_cond rfl (fun hb => ?_) (fun hb => ?_) <;> try cases hb)
      | refine aw_block ?_
      | refine aw_skip ?_
      | refine aw_exit ?_
      | refine aw_ret ?_)
    refine dK_eq (formula_spec 13 f hf.nice) rfl rfl rfl ⟨fC_pure _ _, trivial⟩ ?_
    repeat' (first
      | refine aw_seq ?_
      | refine aw_region ?_
      | refine aw_draw [] ?_
      | refine opsK_done ?_
      | refine opsK_on rfl ?_
      | refine opsK_off rfl ?_
      | (refine opsK_bool rfl rfl rfl (fun hb => ?_) (fun hb => ?_) <;> try cases hb)
      | refine opsK_of rfl rfl rfl ?_
      | refine opsK_new rfl rfl rfl ?_
      | refine dK_done ?_
      | refine dK_on rfl ?_
      | refine dK_off ⟨_, rfl, nofun⟩ ?_
      | (refine dK_bool rfl rfl rfl (fun hb => ?_) (fun hb => ?_) <;> try cases hb)
      | refine dK_of rfl rfl rfl ?_
      | refine aw_condT rfl ?_
      | refine aw_condF rfl ?_
      | (refine aw_cond rfl (fun hb => ?_) (fun hb => ?_) <;> try cases hb)
      | refine aw_block ?_
      | refine aw_skip ?_
      | refine aw_exit ?_
      | refine aw_ret ?_)
    refine dK_eq (set10_spec s hs) rfl rfl rfl ⟨trivial, trivial⟩ ?_
    repeat' (first
      | refine aw_seq ?_
      | refine aw_region ?_
      | refine aw_draw [] ?_
      | refine opsK_done ?_
      | refine opsK_on rfl ?_
      | refine opsK_off rfl ?_
      | (refine opsK_bool rfl rfl rfl (fun hb => ?_) (fun hb => ?_) <;> try cases hb)
      | refine opsK_of rfl rfl rfl ?_
      | refine opsK_new rfl rfl rfl ?_
      | refine dK_done ?_
      | refine dK_on rfl ?_
      | refine dK_off ⟨_, rfl, nofun⟩ ?_
      | (refine dK_bool rfl rfl rfl (fun hb => ?_) (fun hb => ?_) <;> try cases hb)
      | refine dK_of rfl rfl rfl ?_
      | refine aw_condT rfl ?_
      | refine aw_condF rfl ?_
      | (refine aw_cond rfl (fun hb => ?_) (fun hb => ?_) <;> try cases hb)
      | refine aw_block ?_
      | refine aw_skip ?_
      | refine aw_exit ?_
      | refine aw_ret ?_)
    refine dK_eq (holds_spec (lowN s 64) ms fl2 f (by omega) (by omega)) rfl rfl rfl ⟨fC_pure _ _, setN_pure _, nums_pure _, trivial⟩ ?_
    repeat' (first
      | refine aw_seq ?_
      | refine aw_region ?_
      | refine aw_draw [] ?_
      | refine opsK_done ?_
      | refine opsK_on rfl ?_
      | refine opsK_off rfl ?_
      | (refine opsK_bool rfl rfl rfl (fun hb => ?_) (fun hb => ?_) <;> try cases hb)
      | refine opsK_of rfl rfl rfl ?_
      | refine opsK_new rfl rfl rfl ?_
      | refine dK_done ?_
      | refine dK_on rfl ?_
      | refine dK_off ⟨_, rfl, nofun⟩ ?_
      | (refine dK_bool rfl rfl rfl (fun hb => ?_) (fun hb => ?_) <;> try cases hb)
      | refine dK_of rfl rfl rfl ?_
      | refine aw_condT rfl ?_
      | refine aw_condF rfl ?_
      | (refine aw_cond rfl (fun hb => ?_) (fun hb => ?_) <;> try cases hb)
      | refine aw_block ?_
      | refine aw_skip ?_
      | refine aw_exit ?_
      | refine aw_ret ?_)
    refine dK_eq (holdsR_spec s ms fl2 f (by omega) (by omega)) rfl rfl rfl ⟨fC_pure _ _, trivial, nums_pure _, trivial⟩ ?_
    rw [holds_same]
    generalize (decide (typeOfE f = 0) && decide (typeOfT f = 1) && decide (evM s ms f = 1)) = z
    refine dK_of (E_boolEq (v := true) rfl (by simp)) rfl rfl ?_
    repeat' (first
      | refine aw_seq ?_
      | refine aw_region ?_
      | refine aw_draw [] ?_
      | refine opsK_done ?_
      | refine opsK_on rfl ?_
      | refine opsK_off rfl ?_
      | (refine opsK_bool rfl rfl rfl (fun hb => ?_) (fun hb => ?_) <;> try cases hb)
      | refine opsK_of rfl rfl rfl ?_
      | refine opsK_new rfl rfl rfl ?_
      | refine dK_done ?_
      | refine dK_on rfl ?_
      | refine dK_off ⟨_, rfl, nofun⟩ ?_
      | (refine dK_bool rfl rfl rfl (fun hb => ?_) (fun hb => ?_) <;> try cases hb)
      | refine dK_of rfl rfl rfl ?_
      | refine aw_condT rfl ?_
      | refine aw_condF rfl ?_
      | (refine aw_cond rfl (fun hb => ?_) (fun hb => ?_) <;> try cases hb)
      | refine aw_block ?_
      | refine aw_skip ?_
      | refine aw_exit ?_
      | refine aw_ret ?_)
    exact ret_ok rfl trivial rfl
end Go.Proofs.Ytelcpkjclcimbaa
