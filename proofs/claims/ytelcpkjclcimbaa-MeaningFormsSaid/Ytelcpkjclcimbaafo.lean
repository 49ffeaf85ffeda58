/-
  Formulas as the program has them. No statement of the seat is proved here.
-/
import Derived.Test.Ytelcpkjclcimbaamt
namespace Go.Proofs.Ytelcpkjclcimbaa
open Go.RowKit
set_option linter.unusedVariables false
attribute [local irreducible] aw opsK dK

/-- A formula with operators below 256 and few roles and operands. -/
def Nice : Nat → Fm → Prop
  | 0, _ => False
  | d + 1, f => 0 ≤ f.op ∧ f.op ≤ 255 ∧ f.roles.length ≤ 1000 ∧ f.args.length ≤ 1000 ∧ ∀ a ∈ f.args, Nice d a
theorem Wf.nice : ∀ (d : Nat) (f : Fm), Wf f → f.depth ≤ d → Nice d f
  | 0, f, _, h => by rw [Fm.depth_eq] at h; omega
  | d + 1, f, w, h => by
    have hi := w.inv'
    have hm : mostM f.op ≤ 8 := by
      unfold mostM
      split
      · omega
      · split <;> omega
    have ho : operandsM f.op ≤ 2 := by
      unfold operandsM
      split
      · omega
      · split <;> omega
    refine ⟨by have := hi.lo; omega, by have := hi.hi; omega, by have := hi.most; omega, by have := hi.ar; omega, fun a ha => ?_⟩
    obtain ⟨i, hil, rfl⟩ := List.getElem_of_mem ha
    have := depthL_mem hil
    have := f.depth_eq
    exact Wf.nice d _ (w.arg _ (List.getElem_mem _)).1 (by omega)

set_option maxHeartbeats 2000000 in
theorem formula_spec : ∀ (d : Nat) (f : Fm), Nice d f → Spec Try.prog 9 [.agg (fC .i64 f)] (· = .agg (fC .u8 f)) := by
  intro d
  induction d with
  | zero => intro f hf; exact hf.elim
  | succ d ih =>
    rintro f ⟨hop0, hop1, hrl, hal, harg⟩
    have hll : (f.args.map (cellsK .i64)).length = f.args.length := by simp
    have hnl := nums_length f.roles
    have hconv : IntKind.u8.wrap f.op = f.op := by rw [IntKind.wrap_u8]; omega
    refine spec_intro ok9 (Nat.le_of_ble_eq_true rfl) fun C hC => ?_
    refine aw_seq ?_
    refine aw_region ?_
    refine opsK_ofAlt rfl rfl rfl ?_
    (first
      | refine aw_seq ?_
      | refine aw_region ?_
      | refine aw_draw [] ?_
      | refine opsK_done ?_
      | refine opsK_on rfl ?_
      | refine opsK_off rfl ?_
      | (refine opsK_bool rfl rfl rfl (fun hb => ?_) (fun hb => ?_) <;> try cases hb)
      | refine opsK_of rfl rfl rfl ?_
      | refine opsK_new rfl rfl rfl ?_
      | refine dK_done ?_
      | refine dK_on rfl ?_
      | refine dK_off ⟨_, rfl, nofun⟩ ?_
      | (refine dK_bool rfl rfl rfl (fun hb => ?_) (fun hb => ?_) <;> try cases hb)
      | refine dK_of rfl rfl rfl ?_
      | refine aw_condT rfl ?_
      | refine aw_condF rfl ?_
      | (refine aw_cond rfl (fun hb => ?_) (fun hb => ?_) <;> try cases hb)
      | refine aw_block ?_
      | refine aw_skip ?_
      | refine aw_exit ?_
      | refine aw_ret ?_)
    (first
      | refine aw_seq ?_
      | refine aw_region ?_
      | refine aw_draw [] ?_
      | refine opsK_done ?_
      | refine opsK_on rfl ?_
      | refine opsK_off rfl ?_
      | (refine opsK_bool rfl rfl rfl (fun hb => ?_) (fun hb => ?_) <;> try cases hb)
      | refine opsK_of rfl rfl rfl ?_
      | refine opsK_new rfl rfl rfl ?_
      | refine dK_done ?_
      | refine dK_on rfl ?_
      | refine dK_off ⟨_, rfl, nofun⟩ ?_
      | (refine dK_bool rfl rfl rfl (fun hb => ?_) (fun hb => ?_) <;> try cases hb)
      | refine dK_of rfl rfl rfl ?_
      | refine aw_condT rfl ?_
      | refine aw_condF rfl ?_
      | (refine aw_cond rfl (fun hb => ?_) (fun hb => ?_) <;> try cases hb)
      | refine aw_block ?_
      | refine aw_skip ?_
      | refine aw_exit ?_
      | refine aw_ret ?_)
    (first
      | refine aw_seq ?_
      | refine aw_region ?_
      | refine aw_draw [] ?_
      | refine opsK_done ?_
      | refine opsK_on rfl ?_
      | refine opsK_off rfl ?_
      | (refine opsK_bool rfl rfl rfl (fun hb => ?_) (fun hb => ?_) <;> try cases hb)
      | refine opsK_of rfl rfl rfl ?_
      | refine opsK_new rfl rfl rfl ?_
      | refine dK_done ?_
      | refine dK_on rfl ?_
      | refine dK_off ⟨_, rfl, nofun⟩ ?_
      | (refine dK_bool rfl rfl rfl (fun hb => ?_) (fun hb => ?_) <;> try cases hb)
      | refine dK_of rfl rfl rfl ?_
      | refine aw_condT rfl ?_
      | refine aw_condF rfl ?_
      | (refine aw_cond rfl (fun hb => ?_) (fun hb => ?_) <;> try cases hb)
      | refine aw_block ?_
      | refine aw_skip ?_
      | refine aw_exit ?_
      | refine aw_ret ?_)
    refine aw_draw [8] ?_
    iterate 2 (first
      | refine aw_seq ?_
      | refine aw_region ?_
      | refine aw_draw [] ?_
      | refine opsK_done ?_
      | refine opsK_on rfl ?_
      | refine opsK_off rfl ?_
      | (refine opsK_bool rfl rfl rfl (fun hb => ?_) (fun hb => ?_) <;> try cases hb)
      | refine opsK_of rfl rfl rfl ?_
      | refine opsK_new rfl rfl rfl ?_
      | refine dK_done ?_
      | refine dK_on rfl ?_
      | refine dK_off ⟨_, rfl, nofun⟩ ?_
      | (refine dK_bool rfl rfl rfl (fun hb => ?_) (fun hb => ?_) <;> try cases hb)
      | refine dK_of rfl rfl rfl ?_
      | refine aw_condT rfl ?_
      | refine aw_condF rfl ?_
      | (refine aw_cond rfl (fun hb => ?_) (fun hb => ?_) <;> try cases hb)
      | refine aw_block ?_
      | refine aw_skip ?_
      | refine aw_exit ?_
      | refine aw_ret ?_)
    refine dK_of (E_int rfl hconv) rfl rfl ?_
    repeat' (first
      | refine aw_seq ?_
      | refine aw_region ?_
      | refine aw_draw [] ?_
      | refine opsK_done ?_
      | refine opsK_on rfl ?_
      | refine opsK_off rfl ?_
      | (refine opsK_bool rfl rfl rfl (fun hb => ?_) (fun hb => ?_) <;> try cases hb)
      | refine opsK_of rfl rfl rfl ?_
      | refine opsK_new rfl rfl rfl ?_
      | refine dK_done ?_
      | refine dK_on rfl ?_
      | refine dK_off ⟨_, rfl, nofun⟩ ?_
      | (refine dK_bool rfl rfl rfl (fun hb => ?_) (fun hb => ?_) <;> try cases hb)
      | refine dK_of rfl rfl rfl ?_
      | refine aw_condT rfl ?_
      | refine aw_condF rfl ?_
      | (refine aw_cond rfl (fun hb => ?_) (fun hb => ?_) <;> try cases hb)
      | refine aw_block ?_
      | refine aw_skip ?_
      | refine aw_exit ?_
      | refine aw_ret ?_)
    refine dK_ofAlt (E_appendF (l := []) (m := nums f.roles) rfl rfl (fun c hc => by cases hc) (fun c hc => by obtain ⟨x, _, rfl⟩ := List.mem_map.1 hc; rfl) (by show ((0 : Nat) + (nums f.roles).length) * 8 ≤ _; rw [hnl]; omega)) rfl rfl ?_
    rw [List.nil_append]
    iterate 9 (first
      | refine aw_seq ?_
      | refine aw_region ?_
      | refine aw_draw [] ?_
      | refine opsK_done ?_
      | refine opsK_on rfl ?_
      | refine opsK_off rfl ?_
      | (refine opsK_bool rfl rfl rfl (fun hb => ?_) (fun hb => ?_) <;> try cases hb)
      | refine opsK_of rfl rfl rfl ?_
      | refine opsK_new rfl rfl rfl ?_
      | refine dK_done ?_
      | refine dK_on rfl ?_
      | refine dK_off ⟨_, rfl, nofun⟩ ?_
      | (refine dK_bool rfl rfl rfl (fun hb => ?_) (fun hb => ?_) <;> try cases hb)
      | refine dK_of rfl rfl rfl ?_
      | refine aw_condT rfl ?_
      | refine aw_condF rfl ?_
      | (refine aw_cond rfl (fun hb => ?_) (fun hb => ?_) <;> try cases hb)
      | refine aw_block ?_
      | refine aw_skip ?_
      | refine aw_exit ?_
      | refine aw_ret ?_)
    refine opsK_sub (subA_cellNil (id := 11) (b := ⟨4, [[.val (.int .u8 f.op), .val (.int .i64 f.n), .vec (nums f.roles) false, .vec [] true]]⟩) (i0 := 0) (j0 := 3) rfl (show 0 < 1 by decide) (show 3 < 4 by decide) rfl 4 (by decide) (by decide)) ?_
    repeat' (first
      | refine aw_seq ?_
      | refine aw_region ?_
      | refine aw_draw [] ?_
      | refine opsK_done ?_
      | refine opsK_on rfl ?_
      | refine opsK_off rfl ?_
      | (refine opsK_bool rfl rfl rfl (fun hb => ?_) (fun hb => ?_) <;> try cases hb)
      | refine opsK_of rfl rfl rfl ?_
      | refine opsK_new rfl rfl rfl ?_
      | refine dK_done ?_
      | refine dK_on rfl ?_
      | refine dK_off ⟨_, rfl, nofun⟩ ?_
      | (refine dK_bool rfl rfl rfl (fun hb => ?_) (fun hb => ?_) <;> try cases hb)
      | refine dK_of rfl rfl rfl ?_
      | refine aw_condT rfl ?_
      | refine aw_condF rfl ?_
      | (refine aw_cond rfl (fun hb => ?_) (fun hb => ?_) <;> try cases hb)
      | refine aw_block ?_
      | refine aw_skip ?_
      | refine aw_exit ?_
      | refine aw_ret ?_)
    refine aw_loopR hC (fun i => i ≤ f.args.length) (fun i => f.args.length - i) 3 (fun i => [(2, .ptr 0 0 0), (3, .ptr 1 0 0), (17, .vec (f.args.map (cellsK .i64)) false), (18, .val (.int .i64 f.args.length)), (19, .val (.int .i64 (i : Int)))])
      (fun i => [(0, ⟨4, [[.val (.int .u8 0), .val (.int .i64 0), .vec [] true, .vec [] true]]⟩), (1, ⟨4, [[.val (.int .u8 f.op), .val (.int .i64 f.n), .vec (nums f.roles) false, .own 2]]⟩), (2, ⟨4, (f.args.take i).map (cellsK .u8)⟩)]) (by omega) 0 (by omega) (fun i => mv 1 11 (mv 2 13 i)) (fun i hi => by omega) (injOn_of rfl)
      ⟨⟨_, rfl, .ptr (ρ := fun i => mv 1 11 (mv 2 13 i)) 0 0 0 (by decide)⟩, ⟨_, rfl, .ptr (ρ := fun i => mv 1 11 (mv 2 13 i)) 1 0 0 (by decide)⟩, ⟨_, rfl, .pure _ (fArgs_pure _ _)⟩, ⟨_, by rw [← hll]; rfl, .pure _ trivial⟩, ⟨_, rfl, .pure _ trivial⟩, trivial⟩
      ⟨⟨by omega, _, rfl, .same _ ⟨⟨trivial, trivial, trivial, trivial, trivial⟩, trivial⟩⟩, ⟨by omega, _, rfl, RenB.single ⟨.pure _ trivial, .pure _ trivial, .pure _ (nums_pure _), .own (ρ := fun i => mv 1 11 (mv 2 13 i)) 2 (by decide), trivial⟩ rfl⟩, ⟨by omega, _, rfl, .same _ trivial⟩, trivial⟩ ?_
    intro i hi
    have hinc : IntKind.i64.wrap ((i : Int) + 1) = ((i + 1 : Nat) : Int) := IntWalk.i64_in _ ⟨by omega, by omega⟩
    have hcl : ((f.args.take i).map (cellsK .u8)).length = i := by rw [List.length_map, List.length_take]; omega
    iterate 2 (first
      | refine aw_seq ?_
      | refine aw_region ?_
      | refine aw_draw [] ?_
      | refine opsK_done ?_
      | refine opsK_on rfl ?_
      | refine opsK_off rfl ?_
      | (refine opsK_bool rfl rfl rfl (fun hb => ?_) (fun hb => ?_) <;> try cases hb)
      | refine opsK_of rfl rfl rfl ?_
      | refine opsK_new rfl rfl rfl ?_
      | refine dK_done ?_
      | refine dK_on rfl ?_
      | refine dK_off ⟨_, rfl, nofun⟩ ?_
      | (refine dK_bool rfl rfl rfl (fun hb => ?_) (fun hb => ?_) <;> try cases hb)
      | refine dK_of rfl rfl rfl ?_
      | refine aw_condT rfl ?_
      | refine aw_condF rfl ?_
      | (refine aw_cond rfl (fun hb => ?_) (fun hb => ?_) <;> try cases hb)
      | refine aw_block ?_
      | refine aw_skip ?_
      | refine aw_exit ?_
      | refine aw_ret ?_)
    refine opsK_bool rfl rfl rfl (fun hb => ?_) (fun hb => ?_)
    · have hil : i < f.args.length := by simpa using hb
      repeat' (first
        | refine aw_seq ?_
        | refine aw_region ?_
        | refine aw_draw [] ?_
        | refine opsK_done ?_
        | refine opsK_on rfl ?_
        | refine opsK_off rfl ?_
        | (refine opsK_bool rfl rfl rfl (fun hb => ?_) (fun hb => ?_) <;> try cases hb)
        | refine opsK_of rfl rfl rfl ?_
        | refine opsK_new rfl rfl rfl ?_
        | refine dK_done ?_
        | refine dK_on rfl ?_
        | refine dK_off ⟨_, rfl, nofun⟩ ?_
        | (refine dK_bool rfl rfl rfl (fun hb => ?_) (fun hb => ?_) <;> try cases hb)
        | refine dK_of rfl rfl rfl ?_
        | refine aw_condT rfl ?_
        | refine aw_condF rfl ?_
        | (refine aw_cond rfl (fun hb => ?_) (fun hb => ?_) <;> try cases hb)
        | refine aw_block ?_
        | refine aw_skip ?_
        | refine aw_exit ?_
        | refine aw_ret ?_)
      refine opsK_of (E_iaddr (xs := f.args) rfl rfl i rfl hil (cellsK_length _ _)) rfl rfl ?_
      rw [cellsK_eq .i64 f.args[i]]
      repeat' (first
        | refine aw_seq ?_
        | refine aw_region ?_
        | refine aw_draw [] ?_
        | refine opsK_done ?_
        | refine opsK_on rfl ?_
        | refine opsK_off rfl ?_
        | (refine opsK_bool rfl rfl rfl (fun hb => ?_) (fun hb => ?_) <;> try cases hb)
        | refine opsK_of rfl rfl rfl ?_
        | refine opsK_new rfl rfl rfl ?_
        | refine dK_done ?_
        | refine dK_on rfl ?_
        | refine dK_off ⟨_, rfl, nofun⟩ ?_
        | (refine dK_bool rfl rfl rfl (fun hb => ?_) (fun hb => ?_) <;> try cases hb)
        | refine dK_of rfl rfl rfl ?_
        | refine aw_condT rfl ?_
        | refine aw_condF rfl ?_
        | (refine aw_cond rfl (fun hb => ?_) (fun hb => ?_) <;> try cases hb)
        | refine aw_block ?_
        | refine aw_skip ?_
        | refine aw_exit ?_
        | refine aw_ret ?_)
      refine dK_eq (ih f.args[i] (harg _ (List.getElem_mem _))) rfl rfl rfl ⟨fC_pure _ _, trivial⟩ ?_
      repeat' (first
        | refine aw_seq ?_
        | refine aw_region ?_
        | refine aw_draw [] ?_
        | refine opsK_done ?_
        | refine opsK_on rfl ?_
        | refine opsK_off rfl ?_
        | (refine opsK_bool rfl rfl rfl (fun hb => ?_) (fun hb => ?_) <;> try cases hb)
        | refine opsK_of rfl rfl rfl ?_
        | refine opsK_new rfl rfl rfl ?_
        | refine dK_done ?_
        | refine dK_on rfl ?_
        | refine dK_off ⟨_, rfl, nofun⟩ ?_
        | (refine dK_bool rfl rfl rfl (fun hb => ?_) (fun hb => ?_) <;> try cases hb)
        | refine dK_of rfl rfl rfl ?_
        | refine aw_condT rfl ?_
        | refine aw_condF rfl ?_
        | (refine aw_cond rfl (fun hb => ?_) (fun hb => ?_) <;> try cases hb)
        | refine aw_block ?_
        | refine aw_skip ?_
        | refine aw_exit ?_
        | refine aw_ret ?_)
      refine dK_of (E_append (k := 2) (m := [fC .u8 f.args[i]]) (fl := true) rfl rfl rfl (fun c hc => by rw [List.mem_singleton.1 hc]; rfl) rfl (by
        show (((f.args.take i).map (cellsK .u8)).length + 1) * 64 ≤ _
        rw [hcl]; omega)) rfl rfl ?_
      have happ : (f.args.take i).map (cellsK .u8) ++ [fC .u8 f.args[i]] = (f.args.take (i + 1)).map (cellsK .u8) := by
        rw [List.take_add_one, List.getElem?_eq_getElem hil, List.map_append, ← cellsK_eq]; rfl
      simp only
      rw [happ]
      repeat' (first
        | refine aw_seq ?_
        | refine aw_region ?_
        | refine aw_draw [] ?_
        | refine opsK_done ?_
        | refine opsK_on rfl ?_
        | refine opsK_off rfl ?_
        | (refine opsK_bool rfl rfl rfl (fun hb => ?_) (fun hb => ?_) <;> try cases hb)
        | refine opsK_of rfl rfl rfl ?_
        | refine opsK_new rfl rfl rfl ?_
        | refine dK_done ?_
        | refine dK_on rfl ?_
        | refine dK_off ⟨_, rfl, nofun⟩ ?_
        | (refine dK_bool rfl rfl rfl (fun hb => ?_) (fun hb => ?_) <;> try cases hb)
        | refine dK_of rfl rfl rfl ?_
        | refine aw_condT rfl ?_
        | refine aw_condF rfl ?_
        | (refine aw_cond rfl (fun hb => ?_) (fun hb => ?_) <;> try cases hb)
        | refine aw_block ?_
        | refine aw_skip ?_
        | refine aw_exit ?_
        | refine aw_ret ?_)
      exact ⟨i + 1, mv 2 9, by omega, by omega, mv_low (by decide), injOn_of rfl,
        ⟨⟨_, rfl, .ptr (ρ := mv 2 9) 0 0 0 (by decide)⟩, ⟨_, rfl, .ptr (ρ := mv 2 9) 1 0 0 (by decide)⟩, ⟨_, rfl, .pure _ (fArgs_pure _ _)⟩, ⟨_, rfl, .pure _ trivial⟩, ⟨_, by show some _ = some _; rw [hinc], .pure _ trivial⟩, trivial⟩,
        ⟨⟨by omega, _, rfl, .same _ ⟨⟨trivial, trivial, trivial, trivial, trivial⟩, trivial⟩⟩, ⟨by omega, _, rfl, RenB.single ⟨.pure _ trivial, .pure _ trivial, .pure _ (nums_pure _), .own (ρ := mv 2 9) 2 (by decide), trivial⟩ rfl⟩, ⟨by omega, _, rfl, .same _ (fArgs_pure _ _)⟩, trivial⟩⟩
    · have hil : i = f.args.length := by simp at hb; omega
      subst hil
      rw [List.take_length]
      iterate 7 (first
        | refine aw_seq ?_
        | refine aw_region ?_
        | refine aw_draw [] ?_
        | refine opsK_done ?_
        | refine opsK_on rfl ?_
        | refine opsK_off rfl ?_
        | (refine opsK_bool rfl rfl rfl (fun hb => ?_) (fun hb => ?_) <;> try cases hb)
        | refine opsK_of rfl rfl rfl ?_
        | refine opsK_new rfl rfl rfl ?_
        | refine dK_done ?_
        | refine dK_on rfl ?_
        | refine dK_off ⟨_, rfl, nofun⟩ ?_
        | (refine dK_bool rfl rfl rfl (fun hb => ?_) (fun hb => ?_) <;> try cases hb)
        | refine dK_of rfl rfl rfl ?_
        | refine aw_condT rfl ?_
        | refine aw_condF rfl ?_
        | (refine aw_cond rfl (fun hb => ?_) (fun hb => ?_) <;> try cases hb)
        | refine aw_block ?_
        | refine aw_skip ?_
        | refine aw_exit ?_
        | refine aw_ret ?_)
      refine opsK_sub (subA_freezeP (k := 31) (id := 2) (b := ⟨4, f.args.map (cellsK .u8)⟩) rfl rfl (fArgs_pure _ _) (FrzLs.agg (id := 2) (l := f.args.map (cellsK .u8)) (xs := [.val (.int .u8 f.op), .val (.int .i64 f.n), .vec (nums f.roles) false, .own 2]) (ys := fC .u8 f) ⟨.pure _ trivial, .pure _ trivial, .pure _ (nums_pure _), .own, trivial⟩)) ?_
      repeat' (first
        | refine aw_seq ?_
        | refine aw_region ?_
        | refine aw_draw [] ?_
        | refine opsK_done ?_
        | refine opsK_on rfl ?_
        | refine opsK_off rfl ?_
        | (refine opsK_bool rfl rfl rfl (fun hb => ?_) (fun hb => ?_) <;> try cases hb)
        | refine opsK_of rfl rfl rfl ?_
        | refine opsK_new rfl rfl rfl ?_
        | refine dK_done ?_
        | refine dK_on rfl ?_
        | refine dK_off ⟨_, rfl, nofun⟩ ?_
        | (refine dK_bool rfl rfl rfl (fun hb => ?_) (fun hb => ?_) <;> try cases hb)
        | refine dK_of rfl rfl rfl ?_
        | refine aw_condT rfl ?_
        | refine aw_condF rfl ?_
        | (refine aw_cond rfl (fun hb => ?_) (fun hb => ?_) <;> try cases hb)
        | refine aw_block ?_
        | refine aw_skip ?_
        | refine aw_exit ?_
        | refine aw_ret ?_)
      exact ret_ok rfl (fC_pure .u8 f) rfl
end Go.Proofs.Ytelcpkjclcimbaa
