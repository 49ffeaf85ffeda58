/-
  From the readings of a call's arguments to abstract values, and from what a call answers on them to what the statements say of it. For every program; no statement of the seat is proved here.
-/
import Derived.Test.YtelcpkjclcimbaaIrf
import Derived.SizedLaws
import Derived.Carry
namespace Go.Proofs.Ytelcpkjclcimbaa
open Go.RowKit Go.ChangeShapes
set_option linter.unusedVariables false
set_option linter.unusedSimpArgs false

/-- The cells of a world, all frozen. -/
def cellF (w : World) : Froz := fun x => match x.spot with
  | none => match w.cell? x with
    | some v => if v.oneCell' then some v else none
    | none => none
  | some _ => none
theorem holds_cellF (w : World) : Holds (cellF w) w := by
  intro x v hx
  unfold cellF at hx
  split at hx
  · rename_i hs
    split at hx
    · rename_i u hu
      split at hx
      · rename_i h1
        cases hx
        exact ⟨hs, h1, hu⟩
      · cases hx
    · cases hx
  · cases hx
theorem cellF_of {w : World} {b o : Nat} {v : Value} (hc : w.cell? ⟨b, o, none⟩ = some v) (h1 : v.oneCell' = true) : cellF w ⟨b, o, none⟩ = some v := by
  simp [cellF, hc, h1]

/-- What abstract cells a type has. -/
def Shape (P : Program) : Nat → TypeId → List PV → Prop
  | 0, _, _ => False
  | n + 1, t, ps => match P.underlying t with
    | some .bool => ∃ b, ps = [.val (.bool b)]
    | some (.int k) => ∃ m, (Lit.int k m).wf = true ∧ ps = [.val (.int k m)]
    | some .string => ∃ s, s.size ≤ maxVec ∧ ps = [.val (.string s)]
    | some (.pointer e) => ps = [.val (.pointer none)] ∨ ∃ l, Shape P n e l ∧ ps = [.cp l]
    | some (.slice e) => ∃ ll fl, ll.length ≤ maxVec ∧ (∀ l ∈ ll, Shape P n e l) ∧ ps = [.vec ll fl]
    | some (.struct fs) => ps.length = P.cellsOf t ∧ ∀ f ∈ fs.toList, Shape P n f.type ((ps.drop f.offset).take (P.cellsOf f.type))
    | some (.array m e) => ps.length = P.cellsOf t ∧ ∀ i, i < m → Shape P n e ((ps.drop (i * P.cellsOf e)).take (P.cellsOf e))
    | _ => ∃ v, ps = [.val v]

theorem mapM_some' {α β : Type} {f : α → Option β} : ∀ {l : List α} {ys : List β}, l.mapM f = some ys → ys.length = l.length ∧ ∀ i (h : i < l.length) (h' : i < ys.length), f l[i] = some ys[i]
  | [], ys, h => by
    obtain rfl : [] = ys := by simpa using h
    exact ⟨rfl, fun i hi => absurd hi (Nat.not_lt_zero _)⟩
  | a :: l, ys, h => by
    rw [List.mapM_cons] at h
    cases ha : f a with
    | none => simp [ha] at h
    | some b =>
      cases hl : l.mapM f with
      | none => simp [ha, hl] at h
      | some bs =>
        obtain rfl : b :: bs = ys := by simpa [ha, hl] using h
        obtain ⟨h1, h2⟩ := mapM_some' hl
        refine ⟨by simp [h1], fun i hi hi' => ?_⟩
        cases i with
        | zero => simpa using ha
        | succ i => simpa using h2 i (by simpa using hi) (by simpa using hi')

theorem cells?_some {w : World} {a : Addr} {n : Nat} {cs : List Value} (h : w.cells? 0 a n = some cs) : cs.length = n ∧ ∀ j, (hj : j < cs.length) → w.cell? (a.add j) = some cs[j] := by
  unfold World.cells? at h
  rw [if_pos (Nat.zero_le _)] at h
  obtain ⟨h1, h2⟩ := mapM_some' h
  have hn : cs.length = n := by simpa using h1
  refine ⟨hn, fun j hj => ?_⟩
  have := h2 j (by simp; omega) hj
  simpa using this

/-- Values and the abstract cells that they represent. -/
structure CellsR (w : World) (cs : List Value) (ps : List PV) : Prop where
  len : cs.length = ps.length
  one : ∀ j, j < ps.length → (cs.getD j undef).oneCell' = true
  rep : ∀ j, j < ps.length → Rep (cellF w) noLoc (cs.getD j undef) (ps.getD j pvu)
  pure : pureL ps

theorem CellsR.single {w : World} {v : Value} {p : PV} (h1 : v.oneCell' = true) (hr : Rep (cellF w) noLoc v p) (hp : p.pure) : CellsR w [v] [p] :=
  ⟨rfl, fun j hj => by obtain rfl : j = 0 := by simpa using hj
                       exact h1, fun j hj => by obtain rfl : j = 0 := by simpa using hj
                                                exact hr, hp, trivial⟩
theorem CellsR.nil {w : World} : CellsR w [] [] := ⟨rfl, fun j hj => absurd hj (Nat.not_lt_zero _), fun j hj => absurd hj (Nat.not_lt_zero _), trivial⟩
theorem CellsR.append {w : World} {cs cs' : List Value} {ps ps' : List PV} (h : CellsR w cs ps) (h' : CellsR w cs' ps') : CellsR w (cs ++ cs') (ps ++ ps') := by
  refine ⟨by simp [h.len, h'.len], fun j hj => ?_, fun j hj => ?_, (innL_iff _ _).2 fun p hp => ?_⟩
  · by_cases hl : j < ps.length
    · have := h.one j hl
      simpa [List.getD_eq_getElem?_getD, List.getElem?_append, h.len, hl] using this
    · have := h'.one (j - ps.length) (by simp at hj; omega)
      simpa [List.getD_eq_getElem?_getD, List.getElem?_append, h.len, hl] using this
  · by_cases hl : j < ps.length
    · have := h.rep j hl
      simpa [List.getD_eq_getElem?_getD, List.getElem?_append, h.len, hl] using this
    · have := h'.rep (j - ps.length) (by simp at hj; omega)
      simpa [List.getD_eq_getElem?_getD, List.getElem?_append, h.len, hl] using this
  · rcases List.mem_append.1 hp with hp | hp
    · exact (innL_iff _ _).1 h.pure p hp
    · exact (innL_iff _ _).1 h'.pure p hp

/-- The fields of a struct lie one after the other. -/
def tile (P : Program) (off : Nat) (total : Nat) : List Field → Bool
  | [] => off == total
  | f :: r => f.offset == off && tile P (off + P.cellsOf f.type) total r
def tilesT (P : Program) (G : List TypeId) (t : TypeId) : Bool := match P.underlying t with
  | some (.struct fs) => tile P 0 (P.cellsOf t) fs.toList && fs.toList.all fun f => G.contains f.type
  | some (.array m e) => P.cellsOf t == m * P.cellsOf e && G.contains e
  | some (.slice e) => decide (0 < P.bytesOf e) && decide (0 < P.cellsOf e) && G.contains e
  | some (.pointer e) => decide (0 < P.cellsOf e) && G.contains e
  | _ => true
def tilesB (P : Program) (G : List TypeId) : Bool := G.all (tilesT P G)
theorem tilesT_of {P : Program} {G : List TypeId} (h : tilesB P G = true) {t : TypeId} (ht : G.contains t = true) : tilesT P G t = true := List.all_eq_true.1 h t (by simpa using ht)
def partsG (P : Program) (ts : List TypeId) : List TypeId := ts.flatMap P.book

theorem struct_cells {P : Program} {w : World} {S : TypeId → List PV → Prop} {cs : List Value} : ∀ {fs : List Field} {off total : Nat}, tile P off total fs = true → cs.length = total →
    (∀ f ∈ fs, ∃ ps, S f.type ps ∧ CellsR w ((cs.drop f.offset).take (P.cellsOf f.type)) ps) → off ≤ total ∧ ∃ ps, CellsR w (cs.drop off) ps ∧ ∀ f ∈ fs, off ≤ f.offset ∧ S f.type ((ps.drop (f.offset - off)).take (P.cellsOf f.type))
  | [], off, total, ht, hl, _ => by
    obtain rfl : off = total := by simpa [tile] using ht
    refine ⟨Nat.le_refl _, [], ?_, fun f hf => by cases hf⟩
    rw [List.drop_eq_nil_of_le (by omega)]
    exact .nil
  | f :: r, off, total, ht, hl, hf => by
    simp only [tile, Bool.and_eq_true, beq_iff_eq] at ht
    obtain ⟨rfl, ht⟩ := ht
    obtain ⟨hle, ps2, hc2, hs2⟩ := struct_cells ht hl fun g hg => hf g (by simp [hg])
    obtain ⟨ps1, hs1, hc1⟩ := hf f (by simp)
    have hl1 : ps1.length = P.cellsOf f.type := by rw [← hc1.len]; simp; omega
    refine ⟨by omega, ps1 ++ ps2, ?_, fun g hg => ?_⟩
    · have := hc1.append hc2
      rw [← List.drop_drop, List.take_append_drop] at this
      exact this
    · rcases List.mem_cons.1 hg with rfl | hg
      · refine ⟨Nat.le_refl _, ?_⟩
        rw [Nat.sub_self, List.drop_zero, ← hl1, List.take_left]
        exact hs1
      · obtain ⟨h1, h2⟩ := hs2 g hg
        refine ⟨by omega, ?_⟩
        have e : g.offset - f.offset = ps1.length + (g.offset - (f.offset + P.cellsOf f.type)) := by omega
        rw [e, ← List.drop_drop, List.drop_left]
        exact h2

theorem array_cells {w : World} {S : List PV → Prop} {cs : List Value} {sz : Nat} : ∀ {m : Nat}, cs.length = m * sz → (∀ i, i < m → ∃ ps, S ps ∧ CellsR w ((cs.drop (i * sz)).take sz) ps) → ∃ ps, CellsR w cs ps ∧ ∀ i, i < m → S ((ps.drop (i * sz)).take sz)
  | 0, hl, _ => by
    obtain rfl : cs = [] := List.eq_nil_of_length_eq_zero (by simpa using hl)
    exact ⟨[], .nil, fun i hi => absurd hi (Nat.not_lt_zero _)⟩
  | m + 1, hl, hf => by
    have hlm : (cs.take (m * sz)).length = m * sz := by rw [List.length_take, hl]; exact Nat.min_eq_left (Nat.mul_le_mul_right _ (by omega))
    obtain ⟨ps1, hc1, hs1⟩ := array_cells (cs := cs.take (m * sz)) hlm fun i hi => by
      obtain ⟨ps, h1, h2⟩ := hf i (by omega)
      refine ⟨ps, h1, ?_⟩
      rw [List.drop_take, List.take_take, Nat.min_eq_left (by
        have : (i + 1) * sz ≤ m * sz := Nat.mul_le_mul_right _ hi
        rw [Nat.add_mul] at this; omega)]
      exact h2
    obtain ⟨ps2, hs2, hc2⟩ := hf m (by omega)
    have hl1 : ps1.length = m * sz := by rw [← hc1.len, hlm]
    have hd : (cs.drop (m * sz)).take sz = cs.drop (m * sz) := List.take_of_length_le (by rw [List.length_drop, hl, Nat.add_mul]; omega)
    rw [hd] at hc2
    have hl2 : ps2.length = sz := by rw [← hc2.len, List.length_drop, hl, Nat.add_mul]; omega
    refine ⟨ps1 ++ ps2, by have := hc1.append hc2; rwa [List.take_append_drop] at this, fun i hi => ?_⟩
    by_cases him : i < m
    · have hle : i * sz + sz ≤ ps1.length := by
        have : (i + 1) * sz ≤ m * sz := Nat.mul_le_mul_right _ him
        rw [Nat.add_mul] at this; omega
      rw [List.drop_append_of_le_length (by omega), List.take_append_of_le_length (by rw [List.length_drop]; omega)]
      exact hs1 i him
    · obtain rfl : i = m := by omega
      rw [← hl1, List.drop_left, List.take_of_length_le (by omega)]
      exact hs2

theorem weightsAll_mem {H : Type} {P : Program} {e : TypeId} : ∀ {ds : List (DataW H)} {d : DataW H}, d ∈ ds → ∀ x ∈ d.weights P e, x ∈ DataW.weightsAll P e ds
  | [], _, h, _, _ => by cases h
  | a :: r, d, h, x, hx => by
    rw [DataW.weightsAll, List.mem_append]
    rcases List.mem_cons.1 h with rfl | h
    · exact .inl hx
    · exact .inr (weightsAll_mem h x hx)
theorem weightsEach_mem {H : Type} {P : Program} : ∀ {ts : List TypeId} {ds : List (DataW H)} {i : Nat} {t : TypeId} {d : DataW H}, ts[i]? = some t → ds[i]? = some d → ∀ x ∈ d.weights P t, x ∈ DataW.weightsEach P ts ds
  | [], _, i, t, d, h, _, _, _ => by simp at h
  | a :: ts, [], i, t, d, _, h, _, _ => by simp at h
  | a :: ts, b :: ds, 0, t, d, h, h', x, hx => by
    obtain rfl : a = t := by simpa using h
    obtain rfl : b = d := by simpa using h'
    rw [DataW.weightsEach, List.mem_append]
    exact .inl hx
  | a :: ts, b :: ds, i + 1, t, d, h, h', x, hx => by
    rw [DataW.weightsEach, List.mem_append]
    exact .inr (weightsEach_mem (i := i) (by simpa using h) (by simpa using h') x hx)

section
variable {H : Type} {enc : TypeId × Value → H} {P : Program} {w : World} {sp : Nat → Bool}

theorem row_cells {a : Addr} {n : Nat} {cs : List Value} {ps : List PV} (hc : w.cells? 0 a n = some cs) (hs : a.spot = none) (h : CellsR w cs ps) : ps.length = n ∧ ∀ j, j < ps.length → cellF w ⟨a.block, a.off + j, none⟩ = some (cs.getD j undef) := by
  obtain ⟨h1, h2⟩ := cells?_some hc
  refine ⟨by rw [← h.len, h1], fun j hj => ?_⟩
  have hj' : j < cs.length := by rw [h.len]; exact hj
  have := h2 j hj'
  rw [add_none _ _ hs] at this
  have e : cs.getD j undef = cs[j] := by simp [List.getD_eq_getElem?_getD, hj']
  rw [e]
  exact cellF_of this (by rw [← e]; exact h.one j hj)

theorem row_spot {a : Addr} {n : Nat} {cs : List Value} (hc : w.cells? 0 a n = some cs) (hn : 0 < n) : a.spot = none := by
  obtain ⟨h1, h2⟩ := cells?_some hc
  have := h2 0 (by omega)
  have e : a.add 0 = a := rfl
  rw [e] at this
  cases hs : a.spot with
  | none => rfl
  | some k =>
    unfold World.cell? at this
    rw [hs] at this
    split at this <;> simp at this

theorem exists_list {α : Type} (z : α) {Q : Nat → α → Prop} : ∀ {n : Nat}, (∀ i, i < n → ∃ x, Q i x) → ∃ l : List α, l.length = n ∧ ∀ i, i < n → Q i (l.getD i z)
  | 0, _ => ⟨[], rfl, fun i hi => absurd hi (Nat.not_lt_zero _)⟩
  | n + 1, h => by
    obtain ⟨l, hl, hq⟩ := exists_list z (n := n) fun i hi => h i (by omega)
    obtain ⟨x, hx⟩ := h n (by omega)
    refine ⟨l ++ [x], by simp [hl], fun i hi => ?_⟩
    by_cases hin : i < n
    · have := hq i hin
      simpa [List.getD_eq_getElem?_getD, List.getElem?_append, hl, hin] using this
    · obtain rfl : i = n := by omega
      simpa [List.getD_eq_getElem?_getD, List.getElem?_append, hl] using hx

/-- A reading gives abstract cells. -/
theorem shape_of_trod {G : List TypeId} (hT : tilesB P G = true) : ∀ {fuel : Nat} {t : TypeId} {cs : List Value} {d : DataW H} {pl : List MemPlace}, G.contains t = true → DataW.trod enc P w 0 sp true fuel t cs = some (d, pl) → (∀ x ∈ d.weights P t, x ≤ reachBytes) → ∃ ps, Shape P fuel t ps ∧ CellsR w cs ps
  | 0, _, _, _, _, _, h, _ => by simp [DataW.trod] at h
  | fuel + 1, t, cs, d, pl, ht, h, hw => by
    have hTt := tilesT_of hT ht
    unfold tilesT at hTt
    have other : ∀ v : Value, v.oneCell' = true → cs = [v] → (match P.underlying t with
      | some .bool | some (.int _) | some .string | some (.pointer _) | some (.slice _) | some (.struct _) | some (.array _ _) => False
      | _ => True) → ∃ ps, Shape P (fuel + 1) t ps ∧ CellsR w cs ps := by
      intro v h1 hcs hu
      refine ⟨[.val v], ?_, hcs ▸ .single h1 (.val v) trivial⟩
      unfold Shape
      split at hu <;> first | exact hu.elim | skip
      first | exact ⟨v, rfl⟩ | (split <;> first | exact ⟨v, rfl⟩ | simp_all)
    unfold DataW.trod at h
    split at h
    · rename_i b hu
      exact ⟨[.val (.bool b)], by simp [Shape, hu], .single rfl (.val _) trivial⟩
    · rename_i k k' m hu
      split at h
      · rename_i hk
        obtain ⟨rfl, hwf⟩ := hk
        exact ⟨[.val (.int k' m)], by simp [Shape, hu, hwf], .single rfl (.val _) trivial⟩
      · cases h
    · rename_i k k' m hu
      exact other _ rfl rfl (by rw [hu]; trivial)
    · rename_i str hu
      split at h
      · cases h
        refine ⟨[.val (.string str)], ?_, .single rfl (.val _) trivial⟩
        have := hw str.data.toList.length (by simp [DataW.weights])
        have hs : str.size ≤ maxVec := by
          have e : str.data.toList.length = str.size := Array.length_toList
          rw [e] at this
          simp only [reachBytes] at this
          simp only [maxVec]
          omega
        simp [Shape, hu, hs]
      · cases h
    · rename_i e hu
      exact ⟨[.val (.pointer none)], by simp [Shape, hu], .single rfl (.val _) trivial⟩
    · rename_i e a hu
      rw [hu] at hTt
      simp only [Bool.and_eq_true, decide_eq_true_eq] at hTt
      cases hc : w.cells? 0 a (P.cellsOf e) with
      | none => simp [hc] at h
      | some cs' =>
        cases hr : DataW.trod enc P w 0 sp true fuel e cs' with
        | none => simp [hc, hr] at h
        | some r =>
          obtain ⟨d', pl'⟩ := r
          have hd : d = .ptr d' := by simp [hc, hr] at h; exact h.1.symm
          subst hd
          obtain ⟨l, hs, hcl⟩ := shape_of_trod hT hTt.2 hr (fun x hx => hw x (by simp only [DataW.weights, hu]; exact hx))
          have hspot := row_spot hc hTt.1
          obtain ⟨hl, hF⟩ := row_cells hc hspot hcl
          refine ⟨[.cp l], by simp only [Shape, hu]; exact .inr ⟨l, hs, rfl⟩, .single rfl ?_ hcl.pure⟩
          exact .cp a l (fun j => cs'.getD j undef) hspot hF hcl.rep
    · rename_i e hu
      exact ⟨[.vec [] true], by simp only [Shape, hu]; exact ⟨[], true, by simp, by simp, rfl⟩, .single rfl (.vecnil true) trivial⟩
    · rename_i e a len cap hu
      rw [hu] at hTt
      simp only [Bool.and_eq_true, decide_eq_true_eq] at hTt
      obtain ⟨⟨hby, hsz⟩, het⟩ := hTt
      simp only at h
      split at h
      case isFalse => cases h
      rename_i hcond
      cases hm : (List.range len).mapM (fun i => (w.cells? 0 (a.add (i * P.cellsOf e)) (P.cellsOf e)).bind (DataW.trod enc P w 0 sp true fuel e)) with
      | none => simp [hm] at h
      | some elems =>
        obtain ⟨hel, hget⟩ := mapM_some' hm
        have hd : ∃ rest : List (DataW H × List MemPlace), d = .slice (elems.map (·.1)) (rest.map (·.1)) := by
          rw [hm] at h
          simp only [Option.bind_some, Option.map_eq_some_iff] at h
          obtain ⟨rest, _, h2⟩ := h
          exact ⟨rest, by cases h2; rfl⟩
        obtain ⟨rest, rfl⟩ := hd
        have hlen : elems.length = len := by simpa using hel
        have hbound : len ≤ maxVec := by
          have := hw ((elems.length + rest.length) * P.bytesOf e) (by simp [DataW.weights, hu])
          have h3 : elems.length + rest.length ≤ (elems.length + rest.length) * P.bytesOf e := Nat.le_mul_of_pos_right _ hby
          simp only [reachBytes] at this
          simp only [maxVec]
          omega
        have each : ∀ i, i < len → ∃ cs' d' pl', w.cells? 0 (a.add (i * P.cellsOf e)) (P.cellsOf e) = some cs' ∧ DataW.trod enc P w 0 sp true fuel e cs' = some (d', pl') ∧ d' ∈ elems.map (·.1) := fun i hi => by
          have := hget i (by simpa using hi) (by omega)
          simp only [List.getElem_range, Option.bind_eq_some_iff] at this
          obtain ⟨cs', h1, h2⟩ := this
          exact ⟨cs', _, _, h1, h2, List.mem_map.2 ⟨elems[i], List.getElem_mem _, rfl⟩⟩
        have hspot : 0 < len → a.spot = none := fun h0 => by
          obtain ⟨cs', d', pl', h1, _⟩ := each 0 h0
          rw [Nat.zero_mul] at h1
          exact row_spot h1 hsz
        obtain ⟨ll, hll, hq⟩ := exists_list (α := List PV) [] (n := len) (Q := fun i l => Shape P fuel e l ∧ l.length = P.cellsOf e ∧ pureL l ∧ ∀ j, j < P.cellsOf e → ∃ v, cellF w ⟨a.block, a.off + (i * P.cellsOf e + j), none⟩ = some v ∧ Rep (cellF w) noLoc v (l.getD j pvu)) fun i hi => by
          obtain ⟨cs', d', pl', h1, h2, h3⟩ := each i hi
          obtain ⟨l, hs, hcl⟩ := shape_of_trod hT het h2 (fun x hx => hw x (by simp only [DataW.weights, hu]; exact List.mem_cons_of_mem _ (List.mem_append.2 (.inl (weightsAll_mem h3 x hx)))))
          rw [add_none _ _ (hspot (by omega))] at h1
          obtain ⟨hl, hF⟩ := row_cells h1 rfl hcl
          refine ⟨l, hs, hl, hcl.pure, fun j hj => ⟨_, ?_, hcl.rep j (by omega)⟩⟩
          have := hF j (by omega)
          simp only at this
          rw [Nat.add_assoc] at this
          exact this
        have hmem : ∀ l ∈ ll, ∃ i, i < len ∧ ll.getD i [] = l := fun l hl => by
          obtain ⟨i, hi, rfl⟩ := List.getElem_of_mem hl
          exact ⟨i, by omega, by simp [List.getD_eq_getElem?_getD, hi]⟩
        refine ⟨[.vec ll false], ?_, .single rfl ?_ ((innLL_iff _ _).2 fun l hl => ?_)⟩
        · simp only [Shape, hu]
          exact ⟨ll, false, by omega, fun l hl => by obtain ⟨i, hi, rfl⟩ := hmem l hl; exact (hq i hi).1, rfl⟩
        · rw [← hll]
          refine .vec a cap (P.cellsOf e) ll false (fun i j => (cellF w ⟨a.block, a.off + (i * P.cellsOf e + j), none⟩).getD undef) (fun hne => hspot (by rw [← hll]; exact List.length_pos_iff.2 hne)) (by omega) (by simp) (by omega) (fun i hi => (hq i (by omega)).2.1) (fun i j hi hj => ?_) (fun i j hi hj => ?_)
          · obtain ⟨v, h1, _⟩ := (hq i (by omega)).2.2.2 j hj
            rw [h1]; rfl
          · obtain ⟨v, h1, h2⟩ := (hq i (by omega)).2.2.2 j hj
            rw [h1]; exact h2
        · obtain ⟨i, hi, rfl⟩ := hmem l hl
          exact (hq i hi).2.2.1
    · rename_i cs _ _ fs hu
      rw [hu] at hTt
      simp only [Bool.and_eq_true, List.all_eq_true, decide_eq_true_eq] at hTt
      obtain ⟨htile, hft⟩ := hTt
      split at h
      case isFalse => cases h
      rename_i hlen
      cases hm : fs.toList.mapM (fun f => DataW.trod enc P w 0 sp true fuel f.type ((cs.drop f.offset).take (P.cellsOf f.type))) with
      | none => simp [hm] at h
      | some xs =>
        obtain ⟨hxl, hget⟩ := mapM_some' hm
        obtain rfl : d = .agg (xs.map (·.1)) := by simp [hm] at h; exact h.1.symm
        obtain ⟨_, ps, hc, hs⟩ := struct_cells (P := P) (S := fun t ps => Shape P fuel t ps) htile hlen fun f hf => by
          obtain ⟨i, hi, rfl⟩ := List.getElem_of_mem hf
          have h2 := hget i hi (by omega)
          refine shape_of_trod hT (hft _ hf) (d := (xs[i]'(by omega)).1) (pl := (xs[i]'(by omega)).2) h2 fun x hx => hw x ?_
          simp only [DataW.weights, hu]
          exact weightsEach_mem (i := i) (t := fs.toList[i].type) (d := (xs[i]'(by omega)).1) (by rw [List.getElem?_map, List.getElem?_eq_getElem hi]; rfl) (by rw [List.getElem?_map, List.getElem?_eq_getElem (by omega)]; rfl) x hx
        rw [List.drop_zero] at hc
        refine ⟨ps, ?_, hc⟩
        simp only [Shape, hu]
        exact ⟨by rw [← hc.len]; exact hlen, fun f hf => by have := (hs f hf).2; rwa [Nat.sub_zero] at this⟩
    · rename_i cs _ _ m e hu
      rw [hu] at hTt
      simp only [Bool.and_eq_true, beq_iff_eq, decide_eq_true_eq] at hTt
      obtain ⟨htile, het⟩ := hTt
      split at h
      case isFalse => cases h
      rename_i hlen
      cases hm : (List.range m).mapM (fun i => DataW.trod enc P w 0 sp true fuel e ((cs.drop (i * P.cellsOf e)).take (P.cellsOf e))) with
      | none => simp [hm] at h
      | some xs =>
        obtain ⟨hxl, hget⟩ := mapM_some' hm
        obtain rfl : d = .agg (xs.map (·.1)) := by simp [hm] at h; exact h.1.symm
        have hxm : xs.length = m := by simpa using hxl
        obtain ⟨ps, hc, hs⟩ := array_cells (S := Shape P fuel e) (sz := P.cellsOf e) (m := m) (by rw [hlen, htile]) fun i hi => by
          have h2 := hget i (by simpa using hi) (by omega)
          simp only [List.getElem_range] at h2
          refine shape_of_trod hT het (d := (xs[i]'(by omega)).1) (pl := (xs[i]'(by omega)).2) h2 fun x hx => hw x ?_
          simp only [DataW.weights, hu]
          exact weightsAll_mem (List.mem_map.2 ⟨xs[i]'(by omega), List.getElem_mem _, rfl⟩) x hx
        refine ⟨ps, ?_, hc⟩
        simp only [Shape, hu]
        exact ⟨by rw [← hc.len]; exact hlen, hs⟩
    all_goals first
      | (cases h; done)
      | (rename_i hu; exact other _ rfl rfl (by rw [hu]; trivial))
end
end Go.Proofs.Ytelcpkjclcimbaa
