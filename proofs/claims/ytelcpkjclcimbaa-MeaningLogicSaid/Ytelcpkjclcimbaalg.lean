/-
  What the laws answer: MeaningLogic. No statement of the seat is proved here.
-/
import Derived.Test.Ytelcpkjclcimbaalw
namespace Go.Proofs.Ytelcpkjclcimbaa
open Go.RowKit
set_option linter.unusedVariables false
attribute [local irreducible] aw opsK dK

/-- A well-typed formula of the type Bool. -/
structure GoodB (f : Fm) (d s : Nat) : Prop where
  wf : Wf f
  ty : typeM f.op = 1
  depth : f.depth ≤ d
  size : f.size ≤ s
theorem GoodB.not {x : Fm} {d s : Nat} (h : GoodB x d s) : GoodB (.mk 7 0 [] [x]) (d + 1) (s + 1) := by
  refine ⟨WfI.wf ⟨by decide, by decide, rfl, fun _ => rfl, by decide, by decide, by decide, by decide, fun r hr => (by cases hr), by simp, fun a ha => by
    rw [List.mem_singleton.1 ha]; exact ⟨h.wf, h.ty⟩⟩, rfl, ?_, ?_⟩
  · rw [depth_one]; have := h.depth; omega
  · rw [size_one]; have := h.size; omega
theorem GoodB.two {x y : Fm} {d s s' : Nat} (h : GoodB x d s) (h' : GoodB y d s') {op : Int} (hop : op = 8 ∨ op = 9 ∨ op = 10) : GoodB (.mk op 0 [] [x, y]) (d + 1) (s + s' + 1) := by
  have hw : wantM op = 1 := by rw [wantM, if_neg (by omega)]
  refine ⟨WfI.wf ⟨by omega, by omega, ?_, fun _ => rfl, ?_, ?_, by decide, by decide, fun r hr => (by cases hr), by simp, fun a ha => ?_⟩, ?_, ?_, ?_⟩
  · rcases hop with rfl | rfl | rfl <;> rfl
  · rcases hop with rfl | rfl | rfl <;> decide
  · rcases hop with rfl | rfl | rfl <;> decide
  · rw [hw]
    simp at ha
    rcases ha with rfl | rfl
    · exact ⟨h.wf, h.ty⟩
    · exact ⟨h'.wf, h'.ty⟩
  · rcases hop with rfl | rfl | rfl <;> rfl
  · rw [depth_two]; have := h.depth; have := h'.depth; omega
  · rw [size_two]; have := h.size; have := h'.size; omega
theorem GoodB.mono {x : Fm} {d s d' s' : Nat} (h : GoodB x d s) (hd : d ≤ d') (hs : s ≤ s') : GoodB x d' s' := ⟨h.wf, h.ty, Nat.le_trans h.depth hd, Nat.le_trans h.size hs⟩

def holdsB (N : Nat) (f : Fm) : Bool := decide (evM N [] f = 1)
theorem holdsB_not {N : Nat} {x : Fm} {d s : Nat} (h : GoodB x d s) : holdsB N (.mk 7 0 [] [x]) = !holdsB N x := by
  have := (evM_range N [] d x h.depth h.wf).2 h.ty
  unfold holdsB
  rw [evM_one]
  rcases this with e | e <;> rw [e] <;> decide
theorem holdsB_two {N : Nat} {x y : Fm} {d s d' s' : Nat} (h : GoodB x d s) (h' : GoodB y d' s') {op : Int} {g : Bool → Bool → Bool} (hg : (op = 8 ∧ g = and) ∨ (op = 9 ∧ g = or) ∨ (op = 10 ∧ g = fun a b => !a || b)) : holdsB N (.mk op 0 [] [x, y]) = g (holdsB N x) (holdsB N y) := by
  have h1 := (evM_range N [] d x h.depth h.wf).2 h.ty
  have h2 := (evM_range N [] d' y h'.depth h'.wf).2 h'.ty
  unfold holdsB
  rcases hg with ⟨rfl, rfl⟩ | ⟨rfl, rfl⟩ | ⟨rfl, rfl⟩
  all_goals
    rw [evM_two _ _ _ _ _ _ (by decide)]
    rcases h1 with e | e <;> rcases h2 with e' | e' <;> rw [e, e'] <;> decide

theorem typeOf_good {f : Fm} (h : GoodB f 10 200) : typeOfE f = 0 ∧ typeOfT f = 1 := by
  have hd := h.depth
  have hs := h.size
  unfold typeOfE typeOfT
  rw [if_neg (by omega), if_pos h.wf.1, if_pos h.wf.2, if_neg (by omega), if_pos h.wf.1, if_pos h.wf.2]
  exact ⟨rfl, h.ty⟩
theorem holds_good (N : Nat) {f : Fm} (h : GoodB f 10 200) {b : Bool} (hb : holdsB N f = b) : Spec Try.prog 8 [.agg (fC .u8 f), setN N, .vec [] true] (· = .val (.bool b)) := by
  have hd := h.depth
  have hs := h.size
  have := holds_spec N [] true f (by omega) (by omega)
  rw [(typeOf_good h).1, (typeOf_good h).2] at this
  subst hb
  exact this

theorem ret_lowEq {rs : List ARes} {e : Env} {h : Heap} {R : PV → Prop} {r q : PV} (hr : retAll rs e h = some r) (he : r.low = q) (hp : q.pure) (hR : R q) : ∃ r0 r, retAll rs e h = some r0 ∧ LoP r0 r ∧ r.pure ∧ R r := ⟨r, q, hr, .inr he.symm, hp, hR⟩

theorem lnot_spec (x : Fm) : Spec Try.prog 14 [.agg (fC .u8 x)] (· = .agg (fC .u8 (.mk 7 0 [] [x]))) := by
  refine spec_intro ok14 (Nat.le_of_ble_eq_true rfl) fun C hC => ?_
  refine aw_seq ?_
  refine aw_region ?_
  refine opsK_ofAlt rfl rfl rfl ?_
  repeat' (first
    | refine aw_seq ?_
    | refine aw_region ?_
    | refine aw_draw [] ?_
    | refine opsK_done ?_
    | refine opsK_on rfl ?_
    | refine opsK_off rfl ?_
    | (refine opsK_bool rfl rfl rfl (fun hb => ?_) (fun hb => ?_) <;> try cases hb)
    | refine opsK_of rfl rfl rfl ?_
    | refine opsK_new rfl rfl rfl ?_
    | refine dK_done ?_
    | refine dK_on rfl ?_
    | refine dK_off ⟨_, rfl, nofun⟩ ?_
    | (refine dK_bool rfl rfl rfl (fun hb => ?_) (fun hb => ?_) <;> try cases hb)
    | refine dK_of rfl rfl rfl ?_
    | refine aw_condT rfl ?_
    | refine aw_condF rfl ?_
    | (refine aw_cond rfl (fun hb => ?_) (fun hb => ?_) <;> try cases hb)
    | refine aw_block ?_
    | refine aw_skip ?_
    | refine aw_exit ?_
    | refine aw_ret ?_)
  have e : (PV.agg [.val (.int .u8 7), .val (.int .i64 0), .vec [] true, .vec [fC .u8 x] true]).low = .agg (fC .u8 (.mk 7 0 [] [x])) := by
    show PV.agg [_, _, _, .vec [lowL (fC .u8 x)] false] = _
    rw [lowL_fC]; rfl
  exact ret_lowEq rfl e (fC_pure _ _) rfl
theorem ltwo_spec (op : Int) (x y : Fm) : Spec Try.prog 13 [.val (.int .u8 op), .agg (fC .u8 x), .agg (fC .u8 y)] (· = .agg (fC .u8 (.mk op 0 [] [x, y]))) := by
  refine spec_intro ok13 (Nat.le_of_ble_eq_true rfl) fun C hC => ?_
  refine aw_seq ?_
  refine aw_region ?_
  refine opsK_ofAlt rfl rfl rfl ?_
  refine opsK_ofAlt rfl rfl rfl ?_
  repeat' (first
    | refine aw_seq ?_
    | refine aw_region ?_
    | refine aw_draw [] ?_
    | refine opsK_done ?_
    | refine opsK_on rfl ?_
    | refine opsK_off rfl ?_
    | (refine opsK_bool rfl rfl rfl (fun hb => ?_) (fun hb => ?_) <;> try cases hb)
    | refine opsK_of rfl rfl rfl ?_
    | refine opsK_new rfl rfl rfl ?_
    | refine dK_done ?_
    | refine dK_on rfl ?_
    | refine dK_off ⟨_, rfl, nofun⟩ ?_
    | (refine dK_bool rfl rfl rfl (fun hb => ?_) (fun hb => ?_) <;> try cases hb)
    | refine dK_of rfl rfl rfl ?_
    | refine aw_condT rfl ?_
    | refine aw_condF rfl ?_
    | (refine aw_cond rfl (fun hb => ?_) (fun hb => ?_) <;> try cases hb)
    | refine aw_block ?_
    | refine aw_skip ?_
    | refine aw_exit ?_
    | refine aw_ret ?_)
  have e : (PV.agg [.val (.int .u8 op), .val (.int .i64 0), .vec [] true, .vec [fC .u8 x, fC .u8 y] true]).low = .agg (fC .u8 (.mk op 0 [] [x, y])) := by
    show PV.agg [_, _, _, .vec [lowL (fC .u8 x), lowL (fC .u8 y)] false] = _
    rw [lowL_fC, lowL_fC]; rfl
  exact ret_lowEq rfl e (fC_pure _ _) rfl

set_option maxHeartbeats 4000000 in
theorem meaningLogic_spec : ∀ ps, ShapeVs Try.prog Try.f5.params.toList ps → pureL ps → Spec Try.prog 5 ps (· = .val (.bool true)) := by
  intro ps hs hp
  rw [show Try.f5.params.toList = [22, 22, 26] by kernel_rfl] at hs
  match ps, hs with
  | [a, b, c], ⟨ha, hb, hc, _⟩ =>
    obtain ⟨l, fl, hl, rfl⟩ := bytes_shape ha
    obtain ⟨l', fl', hl', rfl⟩ := bytes_shape hb
    obtain ⟨s, ms, fl2, hs, rfl⟩ := asked_shape hc
    refine spec_intro ok5 (Nat.le_of_ble_eq_true rfl) fun C hC => ?_
    refine aw_seq ?_
    refine aw_region ?_
    refine opsK_ofAlt rfl rfl rfl ?_
    repeat' (first
      | refine aw_seq ?_
      | refine aw_region ?_
      | refine aw_draw [] ?_
      | refine opsK_done ?_
      | refine opsK_on rfl ?_
      | refine opsK_off rfl ?_
      | (refine opsK_bool rfl rfl rfl (fun hb => ?_) (fun hb => ?_) <;> try cases hb)
      | refine opsK_of rfl rfl rfl ?_
      | refine opsK_new rfl rfl rfl ?_
      | refine dK_done ?_
      | refine dK_on rfl ?_
      | refine dK_off ⟨_, rfl, nofun⟩ ?_
      | (refine dK_bool rfl rfl rfl (fun hb => ?_) (fun hb => ?_) <;> try cases hb)
      | refine dK_of rfl rfl rfl ?_
      | refine aw_condT rfl ?_
      | refine aw_condF rfl ?_
      | (refine aw_cond rfl (fun hb => ?_) (fun hb => ?_) <;> try cases hb)
      | refine aw_block ?_
      | refine aw_skip ?_
      | refine aw_exit ?_
      | refine aw_ret ?_)
    refine opsK_eq awake_spec rfl rfl rfl trivial rfl ?_
    repeat' (first
      | refine aw_seq ?_
      | refine aw_region ?_
      | refine aw_draw [] ?_
      | refine opsK_done ?_
      | refine opsK_on rfl ?_
      | refine opsK_off rfl ?_
      | (refine opsK_bool rfl rfl rfl (fun hb => ?_) (fun hb => ?_) <;> try cases hb)
      | refine opsK_of rfl rfl rfl ?_
      | refine opsK_new rfl rfl rfl ?_
      | refine dK_done ?_
      | refine dK_on rfl ?_
      | refine dK_off ⟨_, rfl, nofun⟩ ?_
      | (refine dK_bool rfl rfl rfl (fun hb => ?_) (fun hb => ?_) <;> try cases hb)
      | refine dK_of rfl rfl rfl ?_
      | refine aw_condT rfl ?_
      | refine aw_condF rfl ?_
      | (refine aw_cond rfl (fun hb => ?_) (fun hb => ?_) <;> try cases hb)
      | refine aw_block ?_
      | refine aw_skip ?_
      | refine aw_exit ?_
      | refine aw_ret ?_)
    refine opsK_spec rfl rfl (make18_spec l hl fl _) ⟨bys_pure l, trivial, trivial, trivial⟩ rfl ?_
    rintro r ⟨x, wx, tx, dx, sx, rfl⟩
    refine opsK_eq (formula_spec 4 x (wx.nice 4 x dx)) rfl rfl rfl ⟨fC_pure _ _, trivial⟩ rfl ?_
    repeat' (first
      | refine aw_seq ?_
      | refine aw_region ?_
      | refine aw_draw [] ?_
      | refine opsK_done ?_
      | refine opsK_on rfl ?_
      | refine opsK_off rfl ?_
      | (refine opsK_bool rfl rfl rfl (fun hb => ?_) (fun hb => ?_) <;> try cases hb)
      | refine opsK_of rfl rfl rfl ?_
      | refine opsK_new rfl rfl rfl ?_
      | refine dK_done ?_
      | refine dK_on rfl ?_
      | refine dK_off ⟨_, rfl, nofun⟩ ?_
      | (refine dK_bool rfl rfl rfl (fun hb => ?_) (fun hb => ?_) <;> try cases hb)
      | refine dK_of rfl rfl rfl ?_
      | refine aw_condT rfl ?_
      | refine aw_condF rfl ?_
      | (refine aw_cond rfl (fun hb => ?_) (fun hb => ?_) <;> try cases hb)
      | refine aw_block ?_
      | refine aw_skip ?_
      | refine aw_exit ?_
      | refine aw_ret ?_)
    refine opsK_spec rfl rfl (make18_spec l' hl' fl' _) ⟨bys_pure l', trivial, trivial, trivial⟩ rfl ?_
    rintro r ⟨y, wy, ty, dy, sy, rfl⟩
    refine opsK_eq (formula_spec 4 y (wy.nice 4 y dy)) rfl rfl rfl ⟨fC_pure _ _, trivial⟩ rfl ?_
    repeat' (first
      | refine aw_seq ?_
      | refine aw_region ?_
      | refine aw_draw [] ?_
      | refine opsK_done ?_
      | refine opsK_on rfl ?_
      | refine opsK_off rfl ?_
      | (refine opsK_bool rfl rfl rfl (fun hb => ?_) (fun hb => ?_) <;> try cases hb)
      | refine opsK_of rfl rfl rfl ?_
      | refine opsK_new rfl rfl rfl ?_
      | refine dK_done ?_
      | refine dK_on rfl ?_
      | refine dK_off ⟨_, rfl, nofun⟩ ?_
      | (refine dK_bool rfl rfl rfl (fun hb => ?_) (fun hb => ?_) <;> try cases hb)
      | refine dK_of rfl rfl rfl ?_
      | refine aw_condT rfl ?_
      | refine aw_condF rfl ?_
      | (refine aw_cond rfl (fun hb => ?_) (fun hb => ?_) <;> try cases hb)
      | refine aw_block ?_
      | refine aw_skip ?_
      | refine aw_exit ?_
      | refine aw_ret ?_)
    refine opsK_eq (set10_spec s hs) rfl rfl rfl ⟨trivial, trivial⟩ rfl ?_
    have gx : GoodB x 4 15 := ⟨wx, tx, dx, sx⟩
    have gy : GoodB y 4 15 := ⟨wy, ty, dy, sy⟩
    generalize lowN s 64 = N
    have hpx := fC_pure .u8 x
    have hpy := fC_pure .u8 y
    have hnil : (PV.vec [] true).pure := trivial
    have hnx := holdsB_not (N := N) gx
    have gor := gx.two gy (op := 9) (.inr (.inl rfl))
    have gnx := (gx.not).mono (d' := 5) (s' := 16) (by omega) (by omega)
    have hand := holdsB_two (N := N) gx gy (op := 8) (.inl ⟨rfl, rfl⟩)
    have hor := holdsB_two (N := N) gx gy (op := 9) (.inr (.inl ⟨rfl, rfl⟩))
    have himp := holdsB_two (N := N) gx gy (op := 10) (.inr (.inr ⟨rfl, rfl⟩))
    have hnor := holdsB_not (N := N) gor
    have hnxy := holdsB_two (N := N) gnx gy (op := 9) (.inr (.inl ⟨rfl, rfl⟩))
    rw [hor] at hnor
    rw [hnx] at hnxy
    have s1 := fun b (e : holdsB N x = b) => holds_good N (gx.mono (by omega) (by omega)) e
    have s2 := fun b (e : holdsB N y = b) => holds_good N (gy.mono (by omega) (by omega)) e
    have s3 := fun b (e : holdsB N (.mk 7 0 [] [x]) = b) => holds_good N (gnx.mono (by omega) (by omega)) e
    have s4 := fun b (e : holdsB N (.mk 8 0 [] [x, y]) = b) => holds_good N ((gx.two gy (op := 8) (.inl rfl)).mono (by omega) (by omega)) e
    have s5 := fun b (e : holdsB N (.mk 7 0 [] [.mk 9 0 [] [x, y]]) = b) => holds_good N (gor.not.mono (by omega) (by omega)) e
    have s6 := fun b (e : holdsB N (.mk 10 0 [] [x, y]) = b) => holds_good N ((gx.two gy (op := 10) (.inr (.inr rfl))).mono (by omega) (by omega)) e
    have s7 := fun b (e : holdsB N (.mk 9 0 [] [.mk 7 0 [] [x], y]) = b) => holds_good N ((gnx.two (gy.mono (d' := 5) (s' := 15) (by omega) (by omega)) (op := 9) (.inr (.inl rfl))).mono (by omega) (by omega)) e
    generalize hv : holdsB N x = v at *
    generalize hw : holdsB N y = w at *
    repeat' (first
      | refine aw_seq ?_
      | refine aw_region ?_
      | refine aw_draw [] ?_
      | refine opsK_done ?_
      | refine opsK_on rfl ?_
      | refine opsK_off rfl ?_
      | (refine opsK_bool rfl rfl rfl (fun hb => ?_) (fun hb => ?_) <;> try cases hb)
      | refine opsK_of rfl rfl rfl ?_
      | refine opsK_new rfl rfl rfl ?_
      | refine dK_done ?_
      | refine dK_on rfl ?_
      | refine dK_off ⟨_, rfl, nofun⟩ ?_
      | (refine dK_bool rfl rfl rfl (fun hb => ?_) (fun hb => ?_) <;> try cases hb)
      | refine dK_of rfl rfl rfl ?_
      | refine aw_condT rfl ?_
      | refine aw_condF rfl ?_
      | (refine aw_cond rfl (fun hb => ?_) (fun hb => ?_) <;> try cases hb)
      | refine aw_block ?_
      | refine aw_skip ?_
      | refine aw_exit ?_
      | refine aw_ret ?_)
    refine dK_eq (s1 v rfl) rfl rfl rfl ⟨hpx, setN_pure _, hnil, trivial⟩ ?_
    repeat' (first
      | refine aw_seq ?_
      | refine aw_region ?_
      | refine aw_draw [] ?_
      | refine opsK_done ?_
      | refine opsK_on rfl ?_
      | refine opsK_off rfl ?_
      | (refine opsK_bool rfl rfl rfl (fun hb => ?_) (fun hb => ?_) <;> try cases hb)
      | refine opsK_of rfl rfl rfl ?_
      | refine opsK_new rfl rfl rfl ?_
      | refine dK_done ?_
      | refine dK_on rfl ?_
      | refine dK_off ⟨_, rfl, nofun⟩ ?_
      | (refine dK_bool rfl rfl rfl (fun hb => ?_) (fun hb => ?_) <;> try cases hb)
      | refine dK_of rfl rfl rfl ?_
      | refine aw_condT rfl ?_
      | refine aw_condF rfl ?_
      | (refine aw_cond rfl (fun hb => ?_) (fun hb => ?_) <;> try cases hb)
      | refine aw_block ?_
      | refine aw_skip ?_
      | refine aw_exit ?_
      | refine aw_ret ?_)
    refine dK_eq (s2 w rfl) rfl rfl rfl ⟨hpy, setN_pure _, hnil, trivial⟩ ?_
    cases v <;> cases w
    all_goals
      repeat' (first
        | refine aw_seq ?_
        | refine aw_region ?_
        | refine aw_draw [] ?_
        | refine opsK_done ?_
        | refine opsK_on rfl ?_
        | refine opsK_off rfl ?_
        | (refine opsK_bool rfl rfl rfl (fun hb => ?_) (fun hb => ?_) <;> try cases hb)
        | refine opsK_of rfl rfl rfl ?_
        | refine opsK_new rfl rfl rfl ?_
        | refine dK_done ?_
        | refine dK_on rfl ?_
        | refine dK_off ⟨_, rfl, nofun⟩ ?_
        | (refine dK_bool rfl rfl rfl (fun hb => ?_) (fun hb => ?_) <;> try cases hb)
        | refine dK_of rfl rfl rfl ?_
        | refine aw_condT rfl ?_
        | refine aw_condF rfl ?_
        | (refine aw_cond rfl (fun hb => ?_) (fun hb => ?_) <;> try cases hb)
        | refine aw_block ?_
        | refine aw_skip ?_
        | refine aw_exit ?_
        | refine aw_ret ?_)
      refine dK_eq (lnot_spec x) rfl rfl rfl ⟨hpx, trivial⟩ ?_
      repeat' (first
        | refine aw_seq ?_
        | refine aw_region ?_
        | refine aw_draw [] ?_
        | refine opsK_done ?_
        | refine opsK_on rfl ?_
        | refine opsK_off rfl ?_
        | (refine opsK_bool rfl rfl rfl (fun hb => ?_) (fun hb => ?_) <;> try cases hb)
        | refine opsK_of rfl rfl rfl ?_
        | refine opsK_new rfl rfl rfl ?_
        | refine dK_done ?_
        | refine dK_on rfl ?_
        | refine dK_off ⟨_, rfl, nofun⟩ ?_
        | (refine dK_bool rfl rfl rfl (fun hb => ?_) (fun hb => ?_) <;> try cases hb)
        | refine dK_of rfl rfl rfl ?_
        | refine aw_condT rfl ?_
        | refine aw_condF rfl ?_
        | (refine aw_cond rfl (fun hb => ?_) (fun hb => ?_) <;> try cases hb)
        | refine aw_block ?_
        | refine aw_skip ?_
        | refine aw_exit ?_
        | refine aw_ret ?_)
      refine dK_eq (s3 _ hnx) rfl rfl rfl ⟨fC_pure _ _, setN_pure _, hnil, trivial⟩ ?_
      repeat' (first
        | refine aw_seq ?_
        | refine aw_region ?_
        | refine aw_draw [] ?_
        | refine opsK_done ?_
        | refine opsK_on rfl ?_
        | refine opsK_off rfl ?_
        | (refine opsK_bool rfl rfl rfl (fun hb => ?_) (fun hb => ?_) <;> try cases hb)
        | refine opsK_of rfl rfl rfl ?_
        | refine opsK_new rfl rfl rfl ?_
        | refine dK_done ?_
        | refine dK_on rfl ?_
        | refine dK_off ⟨_, rfl, nofun⟩ ?_
        | (refine dK_bool rfl rfl rfl (fun hb => ?_) (fun hb => ?_) <;> try cases hb)
        | refine dK_of rfl rfl rfl ?_
        | refine aw_condT rfl ?_
        | refine aw_condF rfl ?_
        | (refine aw_cond rfl (fun hb => ?_) (fun hb => ?_) <;> try cases hb)
        | refine aw_block ?_
        | refine aw_skip ?_
        | refine aw_exit ?_
        | refine aw_ret ?_)
      refine dK_eq (ltwo_spec 8 x y) rfl rfl rfl ⟨trivial, hpx, hpy, trivial⟩ ?_
      repeat' (first
        | refine aw_seq ?_
        | refine aw_region ?_
        | refine aw_draw [] ?_
        | refine opsK_done ?_
        | refine opsK_on rfl ?_
        | refine opsK_off rfl ?_
        | (refine opsK_bool rfl rfl rfl (fun hb => ?_) (fun hb => ?_) <;> try cases hb)
        | refine opsK_of rfl rfl rfl ?_
        | refine opsK_new rfl rfl rfl ?_
        | refine dK_done ?_
        | refine dK_on rfl ?_
        | refine dK_off ⟨_, rfl, nofun⟩ ?_
        | (refine dK_bool rfl rfl rfl (fun hb => ?_) (fun hb => ?_) <;> try cases hb)
        | refine dK_of rfl rfl rfl ?_
        | refine aw_condT rfl ?_
        | refine aw_condF rfl ?_
        | (refine aw_cond rfl (fun hb => ?_) (fun hb => ?_) <;> try cases hb)
        | refine aw_block ?_
        | refine aw_skip ?_
        | refine aw_exit ?_
        | refine aw_ret ?_)
      refine dK_eq (s4 _ hand) rfl rfl rfl ⟨fC_pure _ _, setN_pure _, hnil, trivial⟩ ?_
      repeat' (first
        | refine aw_seq ?_
        | refine aw_region ?_
        | refine aw_draw [] ?_
        | refine opsK_done ?_
        | refine opsK_on rfl ?_
        | refine opsK_off rfl ?_
        | (refine opsK_bool rfl rfl rfl (fun hb => ?_) (fun hb => ?_) <;> try cases hb)
        | refine opsK_of rfl rfl rfl ?_
        | refine opsK_new rfl rfl rfl ?_
        | refine dK_done ?_
        | refine dK_on rfl ?_
        | refine dK_off ⟨_, rfl, nofun⟩ ?_
        | (refine dK_bool rfl rfl rfl (fun hb => ?_) (fun hb => ?_) <;> try cases hb)
        | refine dK_of rfl rfl rfl ?_
        | refine aw_condT rfl ?_
        | refine aw_condF rfl ?_
        | (refine aw_cond rfl (fun hb => ?_) (fun hb => ?_) <;> try cases hb)
        | refine aw_block ?_
        | refine aw_skip ?_
        | refine aw_exit ?_
        | refine aw_ret ?_)
      refine dK_eq (ltwo_spec 9 x y) rfl rfl rfl ⟨trivial, hpx, hpy, trivial⟩ ?_
      repeat' (first
        | refine aw_seq ?_
        | refine aw_region ?_
        | refine aw_draw [] ?_
        | refine opsK_done ?_
        | refine opsK_on rfl ?_
        | refine opsK_off rfl ?_
        | (refine opsK_bool rfl rfl rfl (fun hb => ?_) (fun hb => ?_) <;> try cases hb)
        | refine opsK_of rfl rfl rfl ?_
        | refine opsK_new rfl rfl rfl ?_
        | refine dK_done ?_
        | refine dK_on rfl ?_
        | refine dK_off ⟨_, rfl, nofun⟩ ?_
        | (refine dK_bool rfl rfl rfl (fun hb => ?_) (fun hb => ?_) <;> try cases hb)
        | refine dK_of rfl rfl rfl ?_
        | refine aw_condT rfl ?_
        | refine aw_condF rfl ?_
        | (refine aw_cond rfl (fun hb => ?_) (fun hb => ?_) <;> try cases hb)
        | refine aw_block ?_
        | refine aw_skip ?_
        | refine aw_exit ?_
        | refine aw_ret ?_)
      refine dK_eq (lnot_spec (.mk 9 0 [] [x, y])) rfl rfl rfl ⟨fC_pure _ _, trivial⟩ ?_
      repeat' (first
        | refine aw_seq ?_
        | refine aw_region ?_
        | refine aw_draw [] ?_
        | refine opsK_done ?_
        | refine opsK_on rfl ?_
        | refine opsK_off rfl ?_
        | (refine opsK_bool rfl rfl rfl (fun hb => ?_) (fun hb => ?_) <;> try cases hb)
        | refine opsK_of rfl rfl rfl ?_
        | refine opsK_new rfl rfl rfl ?_
        | refine dK_done ?_
        | refine dK_on rfl ?_
        | refine dK_off ⟨_, rfl, nofun⟩ ?_
        | (refine dK_bool rfl rfl rfl (fun hb => ?_) (fun hb => ?_) <;> try cases hb)
        | refine dK_of rfl rfl rfl ?_
        | refine aw_condT rfl ?_
        | refine aw_condF rfl ?_
        | (refine aw_cond rfl (fun hb => ?_) (fun hb => ?_) <;> try cases hb)
        | refine aw_block ?_
        | refine aw_skip ?_
        | refine aw_exit ?_
        | refine aw_ret ?_)
      refine dK_eq (s5 _ hnor) rfl rfl rfl ⟨fC_pure _ _, setN_pure _, hnil, trivial⟩ ?_
      repeat' (first
        | refine aw_seq ?_
        | refine aw_region ?_
        | refine aw_draw [] ?_
        | refine opsK_done ?_
        | refine opsK_on rfl ?_
        | refine opsK_off rfl ?_
        | (refine opsK_bool rfl rfl rfl (fun hb => ?_) (fun hb => ?_) <;> try cases hb)
        | refine opsK_of rfl rfl rfl ?_
        | refine opsK_new rfl rfl rfl ?_
        | refine dK_done ?_
        | refine dK_on rfl ?_
        | refine dK_off ⟨_, rfl, nofun⟩ ?_
        | (refine dK_bool rfl rfl rfl (fun hb => ?_) (fun hb => ?_) <;> try cases hb)
        | refine dK_of rfl rfl rfl ?_
        | refine aw_condT rfl ?_
        | refine aw_condF rfl ?_
        | (refine aw_cond rfl (fun hb => ?_) (fun hb => ?_) <;> try cases hb)
        | refine aw_block ?_
        | refine aw_skip ?_
        | refine aw_exit ?_
        | refine aw_ret ?_)
      refine dK_eq (ltwo_spec 10 x y) rfl rfl rfl ⟨trivial, hpx, hpy, trivial⟩ ?_
      repeat' (first
        | refine aw_seq ?_
        | refine aw_region ?_
        | refine aw_draw [] ?_
        | refine opsK_done ?_
        | refine opsK_on rfl ?_
        | refine opsK_off rfl ?_
        | (refine opsK_bool rfl rfl rfl (fun hb => ?_) (fun hb => ?_) <;> try cases hb)
        | refine opsK_of rfl rfl rfl ?_
        | refine opsK_new rfl rfl rfl ?_
        | refine dK_done ?_
        | refine dK_on rfl ?_
        | refine dK_off ⟨_, rfl, nofun⟩ ?_
        | (refine dK_bool rfl rfl rfl (fun hb => ?_) (fun hb => ?_) <;> try cases hb)
        | refine dK_of rfl rfl rfl ?_
        | refine aw_condT rfl ?_
        | refine aw_condF rfl ?_
        | (refine aw_cond rfl (fun hb => ?_) (fun hb => ?_) <;> try cases hb)
        | refine aw_block ?_
        | refine aw_skip ?_
        | refine aw_exit ?_
        | refine aw_ret ?_)
      refine dK_eq (s6 _ himp) rfl rfl rfl ⟨fC_pure _ _, setN_pure _, hnil, trivial⟩ ?_
      repeat' (first
        | refine aw_seq ?_
        | refine aw_region ?_
        | refine aw_draw [] ?_
        | refine opsK_done ?_
        | refine opsK_on rfl ?_
        | refine opsK_off rfl ?_
        | (refine opsK_bool rfl rfl rfl (fun hb => ?_) (fun hb => ?_) <;> try cases hb)
        | refine opsK_of rfl rfl rfl ?_
        | refine opsK_new rfl rfl rfl ?_
        | refine dK_done ?_
        | refine dK_on rfl ?_
        | refine dK_off ⟨_, rfl, nofun⟩ ?_
        | (refine dK_bool rfl rfl rfl (fun hb => ?_) (fun hb => ?_) <;> try cases hb)
        | refine dK_of rfl rfl rfl ?_
        | refine aw_condT rfl ?_
        | refine aw_condF rfl ?_
        | (refine aw_cond rfl (fun hb => ?_) (fun hb => ?_) <;> try cases hb)
        | refine aw_block ?_
        | refine aw_skip ?_
        | refine aw_exit ?_
        | refine aw_ret ?_)
      refine dK_eq (lnot_spec x) rfl rfl rfl ⟨hpx, trivial⟩ ?_
      repeat' (first
        | refine aw_seq ?_
        | refine aw_region ?_
        | refine aw_draw [] ?_
        | refine opsK_done ?_
        | refine opsK_on rfl ?_
        | refine opsK_off rfl ?_
        | (refine opsK_bool rfl rfl rfl (fun hb => ?_) (fun hb => ?_) <;> try cases hb)
        | refine opsK_of rfl rfl rfl ?_
        | refine opsK_new rfl rfl rfl ?_
        | refine dK_done ?_
        | refine dK_on rfl ?_
        | refine dK_off ⟨_, rfl, nofun⟩ ?_
        | (refine dK_bool rfl rfl rfl (fun hb => ?_) (fun hb => ?_) <;> try cases hb)
        | refine dK_of rfl rfl rfl ?_
        | refine aw_condT rfl ?_
        | refine aw_condF rfl ?_
        | (refine aw_cond rfl (fun hb => ?_) (fun hb => ?_) <;> try cases hb)
        | refine aw_block ?_
        | refine aw_skip ?_
        | refine aw_exit ?_
        | refine aw_ret ?_)
      refine dK_eq (ltwo_spec 9 (.mk 7 0 [] [x]) y) rfl rfl rfl ⟨trivial, fC_pure _ _, hpy, trivial⟩ ?_
      repeat' (first
        | refine aw_seq ?_
        | refine aw_region ?_
        | refine aw_draw [] ?_
        | refine opsK_done ?_
        | refine opsK_on rfl ?_
        | refine opsK_off rfl ?_
        | (refine opsK_bool rfl rfl rfl (fun hb => ?_) (fun hb => ?_) <;> try cases hb)
        | refine opsK_of rfl rfl rfl ?_
        | refine opsK_new rfl rfl rfl ?_
        | refine dK_done ?_
        | refine dK_on rfl ?_
        | refine dK_off ⟨_, rfl, nofun⟩ ?_
        | (refine dK_bool rfl rfl rfl (fun hb => ?_) (fun hb => ?_) <;> try cases hb)
        | refine dK_of rfl rfl rfl ?_
        | refine aw_condT rfl ?_
        | refine aw_condF rfl ?_
        | (refine aw_cond rfl (fun hb => ?_) (fun hb => ?_) <;> try cases hb)
        | refine aw_block ?_
        | refine aw_skip ?_
        | refine aw_exit ?_
        | refine aw_ret ?_)
      refine dK_eq (s7 _ hnxy) rfl rfl rfl ⟨fC_pure _ _, setN_pure _, hnil, trivial⟩ ?_
      repeat' (first
        | refine aw_seq ?_
        | refine aw_region ?_
        | refine aw_draw [] ?_
        | refine opsK_done ?_
        | refine opsK_on rfl ?_
        | refine opsK_off rfl ?_
        | (refine opsK_bool rfl rfl rfl (fun hb => ?_) (fun hb => ?_) <;> try cases hb)
        | refine opsK_of rfl rfl rfl ?_
        | refine opsK_new rfl rfl rfl ?_
        | refine dK_done ?_
        | refine dK_on rfl ?_
        | refine dK_off ⟨_, rfl, nofun⟩ ?_
        | (refine dK_bool rfl rfl rfl (fun hb => ?_) (fun hb => ?_) <;> try cases hb)
        | refine dK_of rfl rfl rfl ?_
        | refine aw_condT rfl ?_
        | refine aw_condF rfl ?_
        | (refine aw_cond rfl (fun hb => ?_) (fun hb => ?_) <;> try cases hb)
        | refine aw_block ?_
        | refine aw_skip ?_
        | refine aw_exit ?_
        | refine aw_ret ?_)
      exact ret_ok rfl trivial rfl
end Go.Proofs.Ytelcpkjclcimbaa
