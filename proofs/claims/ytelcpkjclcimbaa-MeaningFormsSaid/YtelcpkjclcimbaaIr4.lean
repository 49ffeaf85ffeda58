/-
  Every operation of the elaborated code does what its reading on abstract values says. For every program; no statement of the seat is proved here.
-/
import Derived.Test.YtelcpkjclcimbaaIr3
namespace Go.Proofs.Ytelcpkjclcimbaa
open Go.RowKit
set_option linter.unusedVariables false

section
variable {P : Program} {C : Ctx} {Fr : Nat → Prop} {e : Env} {h : Heap} {F : Froz} {φ : Locs} {a : Act} {w : World}

/-! ### Inversions -/
theorem Rep.val_inv {v u : Value} (h : Rep F φ v (.val u)) : v = u := by cases h; rfl
theorem Rep.agg_inv {v : Value} {l : List PV} (h : Rep F φ v (.agg l)) : ∃ vs : Array Value, v = .agg vs ∧ vs.size = l.length ∧ (∀ i, i < l.length → (vs.getD i undef).oneCell' = true) ∧ ∀ i, i < l.length → Rep F φ (vs.getD i undef) (l.getD i pvu) := by
  cases h with
  | agg vs _ hl h1 h => exact ⟨vs, rfl, hl, h1, h⟩
theorem Rep.tup_inv {v : Value} {l : List PV} (h : Rep F φ v (.tup l)) : ∃ vs : Array Value, v = .tuple vs ∧ vs.size = l.length ∧ ∀ i, i < l.length → Rep F φ (vs.getD i undef) (l.getD i pvu) := by
  cases h with
  | tup vs _ hl h => exact ⟨vs, rfl, hl, h⟩
theorem Rep.fn_inv {v : Value} {f : FuncId} {l : List PV} (h : Rep F φ v (.fn f l)) : ∃ vs : Array Value, v = .func (.func f) #[] vs ∧ vs.size = l.length ∧ ∀ i, i < l.length → Rep F φ (vs.getD i undef) (l.getD i pvu) := by
  cases h with
  | fn _ vs _ hl h => exact ⟨vs, rfl, hl, h⟩
theorem Rep.cp_inv {v : Value} {l : List PV} (h : Rep F φ v (.cp l)) : ∃ (x : Addr) (cs : Nat → Value), v = .pointer (some x) ∧ x.spot = none ∧ (∀ j, j < l.length → F ⟨x.block, x.off + j, none⟩ = some (cs j)) ∧ ∀ j, j < l.length → Rep F φ (cs j) (l.getD j pvu) := by
  cases h with
  | cp x _ cs hs hF hR => exact ⟨x, cs, rfl, hs, hF, hR⟩
theorem Rep.ptr_inv {v : Value} {id i off : Nat} (h : Rep F φ v (.ptr id i off)) : ∃ (loc : Loc) (x : Addr), φ id = some loc ∧ loc.base = some x ∧ x.spot = none ∧ v = .pointer (some ⟨x.block, x.off + (i * loc.esz + off), none⟩) := by
  cases h with
  | ptr _ _ _ loc x h hb hs => exact ⟨loc, x, h, hb, hs, rfl⟩
theorem Rep.own_inv {v : Value} {id : Nat} (h : Rep F φ v (.own id)) : ∃ loc : Loc, φ id = some loc ∧ v = .slice loc.base loc.len loc.cap := by
  cases h with
  | own _ loc h => exact ⟨loc, h, rfl⟩
theorem Rep.vec_inv {v : Value} {l : List (List PV)} {full : Bool} (h : Rep F φ v (.vec l full)) :
    (l = [] ∧ v = .slice none 0 0) ∨ ∃ (x : Addr) (cap esz : Nat) (cs : Nat → Nat → Value), v = .slice (some x) l.length cap ∧ (l ≠ [] → x.spot = none) ∧ l.length ≤ cap ∧ (full = true → cap = l.length) ∧ l.length ≤ maxVec ∧
      (∀ i, i < l.length → (l.getD i []).length = esz) ∧ (∀ i j, i < l.length → j < esz → F ⟨x.block, x.off + (i * esz + j), none⟩ = some (cs i j)) ∧ ∀ i j, i < l.length → j < esz → Rep F φ (cs i j) ((l.getD i []).getD j pvu) := by
  cases h with
  | vecnil => exact .inl ⟨rfl, rfl⟩
  | vec x cap esz _ _ cs hs hcap hfull hmax he hF hR => exact .inr ⟨x, cap, esz, cs, rfl, hs, hcap, hfull, hmax, he, hF, hR⟩

theorem Rep.oneCell {v : Value} {p : PV} (h : Rep F φ v p) (h1 : p.one = true) : v.oneCell' = true := by
  cases h with
  | val v => exact h1
  | agg => simp [PV.one] at h1
  | tup => simp [PV.one] at h1
  | vecnil => rfl
  | vec => rfl
  | cp => rfl
  | ptr => rfl
  | own => rfl
  | fn => rfl

theorem oneCell_cells {v : Value} (h : v.oneCell' = true) : v.cells = #[v] := by cases v <;> first | rfl | (simp [Value.oneCell'] at h)

/-- The cells of a value, one by one. -/
theorem Rep.cellsOf {v : Value} {p : PV} (h : Rep F φ v p) (hf : p.flat = true) :
    v.cells.size = p.cells.length ∧ ∀ i, i < p.cells.length → (v.cells.getD i undef).oneCell' = true ∧ Rep F φ (v.cells.getD i undef) (p.cells.getD i pvu) := by
  by_cases hp : ∃ l, p = .agg l
  · obtain ⟨l, rfl⟩ := hp
    obtain ⟨vs, rfl, hl, h1, hr⟩ := h.agg_inv
    exact ⟨hl, fun i hi => ⟨h1 i hi, hr i hi⟩⟩
  · have hone : p.one = true := by
      cases p <;> first | exact hf | exact absurd ⟨_, rfl⟩ hp
    have hc : p.cells = [p] := by
      cases p <;> first | rfl | exact absurd ⟨_, rfl⟩ hp
    rw [oneCell_cells (h.oneCell hone), hc]
    refine ⟨rfl, fun i hi => ?_⟩
    obtain rfl : i = 0 := by simpa using hi
    exact ⟨h.oneCell hone, h⟩

/-! ### An operation runs -/
def OpRun (P : Program) (C : Ctx) (Fr : Nat → Prop) (e : Env) (F : Froz) (φ : Locs) (a : Act) (w : World) (s : Sem Value) (id : Nat) (v : PV) (h' : Heap) : Prop :=
  ∃ val w' F' φ', s.run P w = .ok val w' ∧ St' C (fun i => Fr i ∧ (h' id ≠ none → i ≠ id)) e h' F' φ' a w' ∧ Rep F' φ' val v

theorem St'.made {id : Nat} {b : Bx} (s : St' C (fun i => Fr i ∧ i ≠ id) e (h.upd id b) F φ a w) : St' C (fun i => Fr i ∧ ((h.upd id b) id ≠ none → i ≠ id)) e (h.upd id b) F φ a w :=
  s.weaken fun i hi => ⟨hi.1, hi.2 (by rw [Heap.upd_same]; simp)⟩

theorem OpRun.quiet (s : St' C Fr e h F φ a w) {m : Sem Value} {val : Value} {v : PV} {id : Nat} (hr : m.run P w = .ok val w) (hv : Rep F φ val v) : OpRun P C Fr e F φ a w m id v h :=
  ⟨val, w, F, φ, hr, s.weaken fun _ h => h.1, hv⟩

theorem add_none (x : Addr) (n : Nat) (hs : x.spot = none) : x.add n = ⟨x.block, x.off + n, none⟩ := by
  obtain ⟨b, o, sp⟩ := x
  obtain rfl : sp = none := hs
  exact Addr.add_lit b o n

theorem eta_none (x : Addr) (hs : x.spot = none) : x = ⟨x.block, x.off, none⟩ := by
  obtain ⟨b, o, sp⟩ := x
  obtain rfl : sp = none := hs
  rfl

/-- A cell of an object. -/
theorem St'.objCell (s : St' C Fr e h F φ a w) {k : Nat} {b : Bx} {loc : Loc} (hb : h k = some b) (hl : φ k = some loc) {i j : Nat} (hi : i < b.elems.length) (hj : j < b.esz) {x : Addr} (hx : loc.base = some x) :
    ∃ c, w.cell? ⟨x.block, x.off + (i * loc.esz + j), none⟩ = some c ∧ c.oneCell' = true ∧ Rep F φ c ((b.elems.getD i []).getD j pvu) := by
  obtain ⟨loc', h1, h2, _⟩ := s.live k b hb
  obtain rfl : loc' = loc := by rw [h1] at hl; simpa using hl
  have hi' : i < loc'.len := by rw [← h2.len]; exact hi
  have hj' : j < loc'.esz := by rw [← h2.esz]; exact hj
  have hc : loc'.cap ≠ 0 := by have := h2.cap; omega
  obtain ⟨y, hy, hs, cells, t, hg, hsz, hr⟩ := h2.room hc
  obtain rfl : y = x := by rw [hy] at hx; simpa using hx
  have hlt : y.off + (i * loc'.esz + j) < cells.size := by
    have h3 : i * loc'.esz + j < loc'.cap * loc'.esz := by
      have h4 : (i + 1) * loc'.esz ≤ loc'.cap * loc'.esz := Nat.mul_le_mul_right _ (by have := h2.cap; omega)
      have h5 := Nat.succ_mul i loc'.esz
      simp only [Nat.succ_eq_add_one] at h5
      omega
    omega
  refine ⟨cells.getD (y.off + (i * loc'.esz + j)) undef, ?_, (hr i j hi' hj').1, (hr i j hi' hj').2⟩
  rw [cell_of_row w y.block _ cells t (0, 0) hg]
  simp [Array.getD, hlt]

theorem layOf_agg {t : TypeId} {n : Nat} (hl : layOf P t = some (true, n)) : ∃ d i, P.underlying t = some d ∧ aggB d = true ∧ P.info? t = some i ∧ i.size = n := by
  unfold layOf at hl
  split at hl
  · rename_i d i hd hi
    split at hl
    · exact ⟨d, i, hd, by assumption, hi, by simpa using hl⟩
    · split at hl <;> simp at hl
  · simp at hl
theorem layOf_one {t : TypeId} {n : Nat} (hl : layOf P t = some (false, n)) : n = 1 ∧ ∃ d i, P.underlying t = some d ∧ aggB d = false ∧ P.info? t = some i ∧ i.size = 1 := by
  unfold layOf at hl
  split at hl
  · rename_i d i hd hi
    split at hl
    · simp at hl
    · split at hl
      · exact ⟨by simpa using hl.symm, d, i, hd, by assumption, hi, by assumption⟩
      · simp at hl
  · simp at hl

theorem run_isAgg_of {t : TypeId} {d : TypeDesc} (hu : P.underlying t = some d) {b : Bool} (hd : aggB d = b) : (isAgg t).run P w = .ok b w := by
  subst hd
  simp only [isAgg, Sem.run_bind, run_underlying hu, Result.andThen_ok]
  cases d <;> rfl

theorem run_sizeOf_of {t : TypeId} {i : TypeInfo} (hi : P.info? t = some i) : (sizeOf t).run P w = .ok i.size w := by
  simp [sizeOf, typeInfo, hi]

theorem range_getD (n : Nat) (f : Nat → Value) (j : Nat) (hj : j < n) : ((List.range n).map f).toArray.getD j undef = f j := by
  simp [Array.getD, hj]

/-- What lies at an address is loaded. -/
theorem load_cut {t : TypeId} {agg : Bool} {size : Nat} (hlay : layOf P t = some (agg, size)) {ad : Addr} (hs : ad.spot = none) {l : List PV} {off : Nat} {p : PV} (hcut : cutAt agg size off l = some p)
    (hc : ∀ j, j < size → ∃ c, w.cell? ⟨ad.block, ad.off + j, none⟩ = some c ∧ c.oneCell' = true ∧ Rep F φ c (l.getD (off + j) pvu)) : ∃ val, (loadVar t ad).run P w = .ok val w ∧ Rep F φ val p := by
  unfold cutAt at hcut
  split at hcut
  case isFalse => simp at hcut
  rename_i hle
  cases agg with
  | true =>
    obtain ⟨d, i, hu, hd, hi, rfl⟩ := layOf_agg hlay
    obtain rfl : PV.agg _ = p := by simpa using hcut
    let f : Nat → Value := fun j => if hj : j < i.size then (hc j hj).choose else undef
    have hf : ∀ j, (hj : j < i.size) → w.cell? ⟨ad.block, ad.off + j, none⟩ = some (f j) ∧ (f j).oneCell' = true ∧ Rep F φ (f j) (l.getD (off + j) pvu) := fun j hj => by
      simp only [f, hj, dif_pos]; exact (hc j hj).choose_spec
    refine ⟨.agg ((List.range i.size).map f).toArray, ?_, .agg _ _ (by simp; omega) (fun j hj => ?_) fun j hj => ?_⟩
    · simp only [loadVar, Sem.run_bind, run_isAgg_of hu hd, Result.andThen_ok, if_true, run_sizeOf_of hi, run_loadCells w ad i.size f (fun j hj => by rw [add_none _ _ hs]; exact (hf j hj).1), Sem.run_pure]
    · have hj' : j < i.size := by simp at hj; omega
      rw [range_getD _ _ _ hj']; exact (hf j hj').2.1
    · have hj' : j < i.size := by simp at hj; omega
      rw [range_getD _ _ _ hj']
      have := (hf j hj').2.2
      simpa [List.getD_eq_getElem?_getD, List.getElem?_take, hj', List.getElem?_drop] using this
  | false =>
    obtain ⟨rfl, d, i, hu, hd, hi, hsz⟩ := layOf_one hlay
    obtain ⟨c, hc1, hc2, hc3⟩ := hc 0 (by omega)
    refine ⟨c, ?_, ?_⟩
    · rw [Nat.add_zero, ← eta_none ad hs] at hc1
      simp [loadVar, run_isAgg_of hu hd, hc1]
    · simp only at hcut
      split at hcut
      · rename_i q r hq
        obtain rfl : q = p := by simpa using hcut
        have hg : l[off]? = some q := by
          have := congrArg (fun x => x[0]?) hq
          simpa using this
        simpa [List.getD_eq_getElem?_getD, hg] using hc3
      · simp at hcut

theorem part_cut {t : TypeId} {agg : Bool} {size : Nat} (hlay : layOf P t = some (agg, size)) {vs : Array Value} {l : List PV} {off : Nat} {p : PV} (hcut : cutAt agg size off l = some p) (hl : vs.size = l.length)
    (h1 : ∀ i, i < l.length → (vs.getD i undef).oneCell' = true) (hr : ∀ i, i < l.length → Rep F φ (vs.getD i undef) (l.getD i pvu)) : ∃ val, (part t vs off).run P w = .ok val w ∧ Rep F φ val p := by
  unfold cutAt at hcut
  split at hcut
  case isFalse => simp at hcut
  rename_i hle
  cases agg with
  | true =>
    obtain ⟨d, i, hu, hd, hi, rfl⟩ := layOf_agg hlay
    obtain rfl : PV.agg _ = p := by simpa using hcut
    have hget : ∀ j, j < i.size → (vs.extract off (off + i.size)).getD j undef = vs.getD (off + j) undef := fun j hj => by
      have h2 : (vs.extract off (off + i.size))[j]? = vs[off + j]? := by rw [Array.getElem?_extract, if_pos (by omega)]
      simp only [Array.getD_eq_getD_getElem?, h2]
    refine ⟨.agg (vs.extract off (off + i.size)), ?_, .agg _ _ (by simp; omega) (fun j hj => ?_) fun j hj => ?_⟩
    · simp only [part, Sem.run_bind, run_isAgg_of hu hd, Result.andThen_ok, if_true, run_sizeOf_of hi, Sem.run_pure]
    · have hj' : j < i.size := by simp at hj; omega
      rw [hget j hj']; exact h1 _ (by omega)
    · have hj' : j < i.size := by simp at hj; omega
      rw [hget j hj']
      have := hr (off + j) (by omega)
      simpa [List.getD_eq_getElem?_getD, List.getElem?_take, hj', List.getElem?_drop] using this
  | false =>
    obtain ⟨rfl, d, i, hu, hd, hi, hsz⟩ := layOf_one hlay
    have hlt : off < vs.size := by omega
    refine ⟨vs.getD off undef, ?_, ?_⟩
    · simp [part, run_isAgg_of hu hd, hlt, Array.getD]
    · simp only at hcut
      split at hcut
      · rename_i q r hq
        obtain rfl : q = p := by simpa using hcut
        have hg : l[off]? = some q := by
          have := congrArg (fun x => x[0]?) hq
          simpa using this
        have := hr off (by omega)
        simpa [List.getD_eq_getElem?_getD, hg] using this
      · simp at hcut
end
end Go.Proofs.Ytelcpkjclcimbaa
