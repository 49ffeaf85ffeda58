/-
  Every operation of the elaborated code does what its reading on abstract values says: slices that are made, cut and appended to. For every program; no statement of the seat is proved here.
-/
import Derived.Test.YtelcpkjclcimbaaIr7
namespace Go.Proofs.Ytelcpkjclcimbaa
open Go.RowKit
set_option linter.unusedVariables false
set_option linter.unusedSimpArgs false

section
variable {P : Program} {C : Ctx} {Fr : Nat → Prop} {e : Env} {h : Heap} {F : Froz} {φ : Locs} {a : Act} {w : World}

theorem intAt_eval (s : St' C Fr e h F φ a w) {x : Operand} {n : Int} (hx : intAt (ev e x) = some n) : ∃ k, a.eval x = .int k n := by
  unfold intAt at hx
  split at hx
  · rename_i k m hm
    cases hx
    exact ⟨k, (s.eval hm).val_inv⟩
  · simp at hx

theorem mslice_run (s : St' C Fr e h F φ a w) {id : Nat} (hid : Fr id) {t el : TypeId} {z : List Value} {i : TypeInfo} (hu : P.underlying t = some (.slice el)) (hz : zeroOf P el = some z) (hi : P.info? el = some i) (hby : 0 < i.bytes)
    {x y : Operand} {p : PV} {h' : Heap} (hd : dEval (.mslice z i.bytes x y) e h id = some (p, h')) : OpRun P C Fr e F φ a w (Instr.makeSlice t (a.eval x) (a.eval y)) id p h' := by
  simp only [dEval] at hd
  split at hd
  case h_2 => simp at hd
  rename_i n m hn hm
  split at hd
  case isFalse => simp at hd
  rename_i hb
  cases hd
  obtain ⟨kn, hvn⟩ := intAt_eval s hn
  obtain ⟨km, hvm⟩ := intAt_eval s hm
  obtain ⟨i', v, hi', hv, rfl, h1, hl, hp⟩ := zeroOf_spec hz
  obtain rfl : i' = i := by rw [hi'] at hi; simpa using hi
  have hm48 : m ≤ 281474976710656 := by
    have h2 : (1 : Int) * m ≤ (i'.bytes : Int) * m := Int.mul_le_mul_of_nonneg_right (by omega) (by omega)
    omega
  have hr := run_make (P := P) w t el i' v hu hi' hv kn km n m hb.1 hb.2.1 hb.2.2 (by omega)
  have hc := NCells.zero (F := F) (φ := φ) h1 m.toNat
  have hmade : madeCells v.cells (m.toNat * i'.size) = (Array.range (m.toNat * v.cells.toList.length)).map (v.cells.toList.toArray[· % v.cells.toList.length]!) := by
    rw [hl, Array.toArray_toList]
    have : i'.size = v.cells.size := by rw [← hl]; simp
    rw [this]
    rfl
  rw [← hmade] at hc
  refine ⟨_, _, F, _, by rw [hvn, hvm]; exact hr, St'.made <| s.alloc hid _ el v.cells.toList.length n.toNat m.toNat _ hp (by simp) (by omega) (by simp [maxVec]; omega) (fun c hc' => ?_) ?_ (fun j k hj hk => ?_), ?_⟩
  · obtain rfl := List.eq_of_mem_replicate hc'
    simp [zpv]
  · rw [hc.size]; simp
  · have := hc.rep j k (by simp; omega) hk
    have e1 : (List.replicate m.toNat (zpv v.cells.toList)).getD j [] = (List.replicate n.toNat (zpv v.cells.toList)).getD j [] := by
      have : j < m.toNat := by omega
      simp [List.getD_eq_getElem?_getD, hj, this]
    rw [e1] at this
    exact this
  · exact .own id ⟨some ⟨w.heap.size, 0, none⟩, v.cells.toList.length, n.toNat, m.toNat⟩ (by simp [locUpd])

theorem bnd_eval (s : St' C Fr e h F φ a w) {d : Int} {x : Option Operand} {n : Int} (hx : bndAt e d x = some n) : (x = none ∧ n = d) ∨ ∃ k y, x = some y ∧ a.eval y = .int k n := by
  cases x with
  | none => exact .inl ⟨rfl, by simpa [bndAt] using hx.symm⟩
  | some y =>
    obtain ⟨k, hk⟩ := intAt_eval s (x := y) (by simpa [bndAt] using hx)
    exact .inr ⟨k, y, rfl, hk⟩

theorem Rep.cut {l : List (List PV)} {full : Bool} {v : Value} (hv : Rep F φ v (.vec l full)) {lo hi : Nat} (h1 : lo ≤ hi) (h2 : hi ≤ l.length) {esz : Nat} (hesz : l = [] ∨ ∀ c ∈ l, c.length = esz) :
    ∃ base len cap, v = .slice base len cap ∧ len = l.length ∧ l.length ≤ cap ∧ ∀ m, hi ≤ m → m ≤ cap → ∀ b : Bool, (b = true → m = hi) → Rep F φ (sliced base lo hi m esz) (.vec ((l.take hi).drop lo) b) := by
  rcases hv.vec_inv with ⟨rfl, rfl⟩ | ⟨ad, cap, esz', cs, rfl, hs, hcap, _, hmax, he, hF, hR⟩
  · refine ⟨none, 0, 0, rfl, rfl, Nat.le_refl _, fun m hm1 hm2 b hb => ?_⟩
    obtain rfl : hi = 0 := by simpa using h2
    obtain rfl : m = 0 := by omega
    obtain rfl : lo = 0 := by omega
    simpa [sliced] using Rep.vecnil b
  · refine ⟨some ad, l.length, cap, rfl, rfl, hcap, fun m hm1 hm2 b hb => ?_⟩
    have hlen : ((l.take hi).drop lo).length = hi - lo := by simp; omega
    by_cases hml : m = lo
    · have : hi = lo := by omega
      subst this
      subst hml
      have e1 : (l.take m).drop m = [] := List.eq_nil_of_length_eq_zero (by omega)
      rw [e1]
      simp only [sliced, if_true, Nat.sub_self]
      exact Rep.vec (F := F) (φ := φ) ad 0 0 [] b cs (fun h => absurd rfl h) (Nat.le_refl _) (fun _ => rfl) (by simp) (by simp) (by simp) (by simp)
    · by_cases hl0 : l = []
      · subst hl0
        obtain rfl : hi = 0 := by simpa using h2
        obtain rfl : lo = 0 := by omega
        simp only [sliced, if_neg hml, Option.map_some, List.take_nil, List.drop_nil]
        exact Rep.vec (F := F) (φ := φ) _ (m - 0) 0 [] b cs (fun h => absurd rfl h) (Nat.zero_le _) (fun hb' => by have := hb hb'; simp; omega) (by simp) (by simp) (by simp) (by simp)
      have hspot : ad.add (lo * esz) = ⟨ad.block, ad.off + lo * esz, none⟩ := add_none _ _ (hs hl0)
      simp only [sliced, if_neg hml, Option.map_some, hspot]
      rw [← hlen]
      refine Rep.vec (F := F) (φ := φ) _ (m - lo) esz _ b (fun i j => cs (lo + i) j) (fun _ => rfl) (by rw [hlen]; omega) (fun hb' => by rw [hlen]; have := hb hb'; omega) (by rw [hlen]; omega) (fun i hi' => ?_) (fun i j hi' hj => ?_) (fun i j hi' hj => ?_)
      all_goals
        rw [hlen] at hi'
        have hne : l ≠ [] := by rintro rfl; simp at h2; omega
        have hall := hesz.resolve_left hne
        have hget : ((l.take hi).drop lo).getD i [] = l.getD (lo + i) [] := by
          simp only [List.getD_eq_getElem?_getD, List.getElem?_drop, List.getElem?_take]
          rw [if_pos (by omega)]
        have hlt : lo + i < l.length := by omega
        have hesz' : esz' = esz := by
          rw [← he (lo + i) hlt]
          exact hall _ (by simp [List.getD_eq_getElem?_getD, hlt])
        subst hesz'
      · rw [hget]; exact he _ hlt
      · have := hF (lo + i) j hlt hj
        rw [Nat.add_mul] at this
        simpa [Nat.add_assoc] using this
      · rw [hget]; exact hR _ _ hlt hj

theorem bounds_none (s : St' C Fr e h F φ a w) {len cap : Nat} {lo hi : Option Operand} {A B : Int} (hlo : bndAt e 0 lo = some A) (hhi : bndAt e len hi = some B) (h0 : 0 ≤ A) (h1 : A ≤ B) (h2 : B ≤ (len : Int)) (hc : len ≤ cap) :
    (Instr.sliceBounds true len cap (lo.map a.eval) (hi.map a.eval) none).run P w = .ok (A.toNat, B.toNat, cap) w := by
  have hB : (B.toNat : Int) = B := Int.toNat_of_nonneg (by omega)
  rcases bnd_eval s hlo with ⟨rfl, rfl⟩ | ⟨kl, x, rfl, hx⟩ <;> rcases bnd_eval s hhi with ⟨rfl, rfl⟩ | ⟨kh, y, rfl, hy⟩
  · simp [Instr.sliceBounds]
  · simp [Instr.sliceBounds, hy, run_sliceBound w kh B cap .sliceAcap (by omega) (by omega)]
  · simp [Instr.sliceBounds, hx, run_sliceBound w kl A len .sliceB (by omega) (by omega)]
  · simp [Instr.sliceBounds, hx, hy, run_sliceBound w kh B cap .sliceAcap (by omega) (by omega), run_sliceBound w kl A B.toNat .sliceB (by omega) (by omega)]

theorem bounds_some (s : St' C Fr e h F φ a w) {len cap : Nat} {lo hi : Option Operand} {z : Operand} {A B M : Int} (hlo : bndAt e 0 lo = some A) (hhi : bndAt e len hi = some B) (hs : hi.isSome = true) (hm : intAt (ev e z) = some M) (h0 : 0 ≤ A) (h1 : A ≤ B) (h2 : B ≤ M) (hc : M ≤ (cap : Int)) :
    (Instr.sliceBounds true len cap (lo.map a.eval) (hi.map a.eval) (some (a.eval z))).run P w = .ok (A.toNat, B.toNat, M.toNat) w := by
  have hB : (B.toNat : Int) = B := Int.toNat_of_nonneg (by omega)
  have hM : (M.toNat : Int) = M := Int.toNat_of_nonneg (by omega)
  obtain ⟨km, hz⟩ := intAt_eval s hm
  rcases bnd_eval s hhi with ⟨rfl, rfl⟩ | ⟨kh, y, rfl, hy⟩
  · simp at hs
  rcases bnd_eval s hlo with ⟨rfl, rfl⟩ | ⟨kl, x, rfl, hx⟩
  · simp [Instr.sliceBounds, hz, hy, run_sliceBound w km M cap .slice3Acap (by omega) (by omega), run_sliceBound w kh B M.toNat .slice3B (by omega) (by omega)]
  · simp [Instr.sliceBounds, hz, hy, hx, run_sliceBound w km M cap .slice3Acap (by omega) (by omega), run_sliceBound w kh B M.toNat .slice3B (by omega) (by omega), run_sliceBound w kl A B.toNat .slice3C (by omega) (by omega)]

theorem slc_run (s : St' C Fr e h F φ a w) {id : Nat} (hid : Fr id) {t el : TypeId} {inf : TypeInfo} (hu : P.underlying t = some (.slice el)) (hi : P.info? el = some inf)
    {x : Operand} {lo hi' mx : Option Operand} {p : PV} {h' : Heap} (hd : dEval (.slc inf.size x lo hi' mx) e h id = some (p, h')) : OpRun P C Fr e F φ a w (Instr.sliceAt t (a.eval x) (lo.map a.eval) (hi'.map a.eval) (mx.map a.eval)) id p h' := by
  have hel : P.elem t = el := by simp [Program.elem, hu]
  have hu' : P.underlying t = some (.slice (P.elem t)) := by rw [hel]; exact hu
  simp only [dEval] at hd
  split at hd
  case h_3 => simp at hd
  · rename_i l full hx
    split at hd
    case h_2 => simp at hd
    rename_i A B hA hB
    split at hd
    · split at hd
      case isFalse => simp at hd
      rename_i hb
      cases hd
      obtain ⟨base, len, cap, hv, hlen, hcap, hrep⟩ := (s.eval hx).cut (lo := A.toNat) (hi := B.toNat) (by omega) (by omega) (.inr hb.2)
      subst hlen
      refine OpRun.quiet s ?_ (hrep cap (by omega) (Nat.le_refl _) false (by simp))
      rw [hv, run_sliceAt_slice w t _ _ _ _ hu', run_slice_any w t base l.length cap hu', Option.map_none, bounds_none s hA hB hb.1.1 hb.1.2.1 hb.1.2.2 hcap]
      simp [hel, run_sizeOf_of hi]
    · rename_i m
      split at hd
      case h_2 => simp at hd
      rename_i c y hm
      split at hd
      case isFalse => simp at hd
      rename_i hb
      cases hd
      obtain ⟨base, len, cap, hv, hlen, hcap, hrep⟩ := (s.eval hx).cut (lo := A.toNat) (hi := B.toNat) (by omega) (by omega) (.inr hb.2)
      subst hlen
      have hflag : (B == c) = true → c.toNat = B.toNat := fun hbc => by
        have : B = c := by simpa using hbc
        rw [this]
      refine OpRun.quiet s ?_ (hrep c.toNat (by omega) (by omega) (B == c) hflag)
      have hbs := bounds_some (P := P) (cap := cap) s hA hB rfl hm hb.1.1 hb.1.2.1 hb.1.2.2.1 (by omega)
      rw [hv, run_sliceAt_slice w t _ _ _ _ hu', run_slice_any w t base l.length cap hu', Option.map_some (a := m), hbs]
      simp [hel, run_sizeOf_of hi]
  · rename_i k hx
    split at hd
    case h_2 => simp at hd
    rename_i b hb
    split at hd
    case h_2 => simp at hd
    rename_i A B hA hB
    split at hd
    case h_2 => simp at hd
    split at hd
    case isFalse => simp at hd
    rename_i hbd
    cases hd
    obtain ⟨loc, hloc, hv⟩ := (s.eval hx).own_inv
    obtain ⟨loc', h1, h2, h3⟩ := s.live k b hb
    obtain rfl : loc' = loc := by rw [h1] at hloc; simpa using hloc
    have hlen := h2.len
    have hkey : (fun j => bif Nat.beq j id then some (⟨b.esz, (b.elems.take B.toNat).drop A.toNat⟩ : Bx) else bif Nat.beq j k then none else h j) = (h.del k).upd id ⟨b.esz, (b.elems.take B.toNat).drop A.toNat⟩ := rfl
    rw [hkey]
    have hne : id ≠ k := fun e => by subst e; rw [s.free _ hid] at h1; cases h1
    have hrun : (Instr.sliceAt t (a.eval x) (lo.map a.eval) (hi'.map a.eval) (none : Option Value)).run P w = .ok (sliced loc'.base A.toNat B.toNat loc'.cap inf.size) w := by
      rw [hv, run_sliceAt_slice w t _ _ _ _ hu', run_slice_any w t loc'.base loc'.len loc'.cap hu', bounds_none s (by exact hA) (by rw [← hlen]; exact hB) hbd.1.1 hbd.1.2.1 (by rw [← hlen]; exact hbd.1.2.2) h2.cap]
      simp [hel, run_sizeOf_of hi]
    have hesz : inf.size = loc'.esz := by rw [← h2.esz]; exact hbd.2.symm
    have s1 : St' C Fr e (h.del k) F φ a w := s.sub (fun _ _ h => h) (fun _ _ hh => (Heap.del_some hh).2)
    have hcap := h2.cap
    by_cases hc0 : loc'.cap = A.toNat
    · -- nothing is left
      have hB0 : B.toNat = A.toNat := by omega
      have he0 : (b.elems.take B.toNat).drop A.toNat = [] := List.eq_nil_of_length_eq_zero (by simp; omega)
      rw [he0, h2.esz]
      refine ⟨_, w, F, _, hrun, (s1.allocNil hid loc'.base loc'.esz h2.pos).made, ?_⟩
      simp only [sliced, hc0, if_true, hB0, Nat.sub_self]
      exact .own id ⟨loc'.base, loc'.esz, 0, 0⟩ (by simp [locUpd])
    · have hcne : loc'.cap ≠ 0 := by omega
      obtain ⟨ad, hbase, hs, cells, ct, hg, hroom, hrep⟩ := h2.room hcne
      have hhas : loc'.has ad.block := ⟨hcne, ad, hbase, rfl⟩
      have hadd : ad.add (A.toNat * loc'.esz) = ⟨ad.block, ad.off + A.toNat * loc'.esz, none⟩ := add_none _ _ hs
      let locN : Loc := ⟨some ⟨ad.block, ad.off + A.toNat * loc'.esz, none⟩, loc'.esz, B.toNat - A.toNat, loc'.cap - A.toNat⟩
      have hs2 := s1.adopt (id := id) (loc' := locN) (b' := ⟨b.esz, (b.elems.take B.toNat).drop A.toNat⟩) (φ' := locUpd φ id locN) (Fr' := fun i => Fr i ∧ i ≠ id) (cur' := cells) hg (h3 _ hhas).1 (h3 _ hhas).2 (s.del_no hb h1 hhas) (by simp [locUpd]) (locUpd_ext (s.free id hid) locN) (fun i hi => by simp [locUpd, hi])
        (fun i hi => by simp [locUpd, hi.2, s.free i hi.1]) (fun k' hk' => by obtain ⟨_, y, hy, rfl⟩ := hk'; simp only [locN] at hy; cases hy; rfl) (by
          rw [setRow_self w ad.block cells ct (0, 0) hg]
          refine ⟨h2.esz, h2.pos, by simp [locN]; omega, by simp only [locN]; omega, by have := h2.max; simp only [locN]; omega, fun c hc => h2.el c ?_, fun _ => ⟨_, rfl, rfl, cells, ct, hg, ?_, fun i j hi hj => ?_⟩⟩
          · exact List.mem_of_mem_take (List.mem_of_mem_drop hc)
          · simp only [locN]
            have : (A.toNat + (loc'.cap - A.toNat)) * loc'.esz = A.toNat * loc'.esz + (loc'.cap - A.toNat) * loc'.esz := Nat.add_mul _ _ _
            rw [show A.toNat + (loc'.cap - A.toNat) = loc'.cap by omega] at this
            omega
          · simp only [locN] at hi hj ⊢
            have hget : ((b.elems.take B.toNat).drop A.toNat).getD i [] = b.elems.getD (A.toNat + i) [] := by
              simp only [List.getD_eq_getElem?_getD, List.getElem?_drop, List.getElem?_take]
              rw [if_pos (by omega)]
            have hr := hrep (A.toNat + i) j (by omega) hj
            rw [Nat.add_mul] at hr
            rw [hget, show ad.off + A.toNat * loc'.esz + (i * loc'.esz + j) = ad.off + (A.toNat * loc'.esz + i * loc'.esz + j) by omega]
            exact ⟨hr.1, hr.2.mono (fun _ _ h => h) (locUpd_ext (s.free id hid) locN)⟩)
      rw [setRow_self w ad.block cells ct (0, 0) hg] at hs2
      refine ⟨_, w, F, _, hrun, hs2.made, ?_⟩
      simp only [sliced, if_neg hc0, hbase, Option.map_some, hesz, hadd]
      exact .own id locN (by simp [locUpd])

/-! ### append -/
theorem srcCells (s : St' C Fr e h F φ a w) {v : Value} {m : List (List PV)} {full : Bool} (hv : Rep F φ v (.vec m full)) {esz : Nat} (hm : ∀ c ∈ m, c.length = esz) :
    ∃ base cap, ∃ news : List Value, v = .slice base m.length cap ∧ (Builtin.firstCells esz m.length v).run P w = .ok news.toArray w ∧ NCells F φ esz news.toArray m := by
  have hel : ∀ i, i < m.length → (m.getD i []).length = esz := fun i hi => hm _ (by simp [List.getD_eq_getElem?_getD, hi])
  rcases hv.vec_inv with ⟨rfl, rfl⟩ | ⟨ad, cap, esz', cs, rfl, hs, hcap, _, hmax, he, hF, hR⟩
  · exact ⟨none, 0, [], rfl, by simp [Builtin.firstCells], ⟨by simp, by simp, by simp⟩⟩
  · have hesz : ∀ i, i < m.length → esz' = esz := fun i hi => by rw [← he i hi]; exact hel i hi
    have hpos : ∀ k, k < m.length * esz → 0 < esz ∧ k / esz < m.length ∧ k % esz < esz := fun k hk => by
      have h0 : 0 < esz := by
        rcases Nat.eq_zero_or_pos esz with h | h
        · subst h; simp at hk
        · exact h
      exact ⟨h0, Nat.div_lt_of_lt_mul (by rw [Nat.mul_comm]; exact hk), Nat.mod_lt _ h0⟩
    have hF' : ∀ k, k < m.length * esz → F ⟨ad.block, ad.off + k, none⟩ = some (cs (k / esz) (k % esz)) := fun k hk => by
      obtain ⟨h0, h1, h2⟩ := hpos k hk
      have := hF (k / esz) (k % esz) h1 (by rw [hesz _ h1]; exact h2)
      rw [hesz _ h1] at this
      have hk' : k / esz * esz + k % esz = k := Nat.div_add_mod' k esz
      rwa [hk'] at this
    have hlen : ((List.range (m.length * esz)).map fun k => cs (k / esz) (k % esz)).length = m.length * esz := by simp
    refine ⟨some ad, cap, (List.range (m.length * esz)).map fun k => cs (k / esz) (k % esz), rfl, ?_, ⟨by simp, hel, fun i j hi hj => ?_⟩⟩
    · refine run_firstCells_some (P := P) w esz m.length ad m.length cap _ hlen (fun j v hj => ?_)
      have hj' : j < m.length * esz := by have := (List.getElem?_eq_some_iff.1 hj).1; simpa using this
      have hv : cs (j / esz) (j % esz) = v := by simpa [hj'] using hj
      rw [add_none _ _ (hs (by rintro rfl; simp at hj')), ← hv]
      exact (s.froz _ _ (hF' j hj')).2.2
    · have hlt := idx_lt hi hj
      have e1 : (i * esz + j) / esz = i := by rw [Nat.add_comm, Nat.add_mul_div_right _ _ (by omega), Nat.div_eq_of_lt hj]; omega
      have e2 : (i * esz + j) % esz = j := by rw [Nat.add_comm, Nat.add_mul_mod_self_right, Nat.mod_eq_of_lt hj]
      have hget : ((List.range (m.length * esz)).map fun k => cs (k / esz) (k % esz)).toArray.getD (i * esz + j) undef = cs i j := by
        rw [range_getD _ _ _ hlt, e1, e2]
      rw [hget]
      have hj2 : j < esz' := by rw [hesz i hi]; exact hj
      exact ⟨(s.froz _ _ (hF i j hi hj2)).2.1, hR i j hi hj2⟩

theorem ownCells (s : St' C Fr e h F φ a w) {k : Nat} {b : Bx} {loc : Loc} (hb : h k = some b) (hl : φ k = some loc) :
    ∃ olds : List Value, (Builtin.firstCells loc.esz loc.len (.slice loc.base loc.len loc.cap)).run P w = .ok olds.toArray w ∧ NCells F φ loc.esz olds.toArray b.elems := by
  obtain ⟨loc', h1, h2, h3⟩ := s.live k b hb
  obtain rfl : loc' = loc := by rw [h1] at hl; simpa using hl
  have hel : ∀ i, i < b.elems.length → (b.elems.getD i []).length = loc'.esz := fun i hi => h2.el _ (by simp [List.getD_eq_getElem?_getD, hi])
  by_cases hc0 : loc'.cap = 0
  · have hl0 : loc'.len = 0 := by have := h2.cap; omega
    have he0 : b.elems = [] := List.eq_nil_of_length_eq_zero (by rw [h2.len, hl0])
    refine ⟨[], ?_, ⟨by simp [he0], by simp [he0], by simp [he0]⟩⟩
    rw [hl0]
    cases loc'.base with
    | none => simp [Builtin.firstCells]
    | some x => simp [Builtin.firstCells, loadCells, loadCellsFrom]
  · obtain ⟨ad, hbase, hs, cells, ct, hg, hroom, hrep⟩ := h2.room hc0
    have hle : loc'.len * loc'.esz ≤ loc'.cap * loc'.esz := Nat.mul_le_mul_right _ h2.cap
    refine ⟨(List.range (loc'.len * loc'.esz)).map fun k => cells.getD (ad.off + k) undef, ?_, ⟨by simp [h2.len], hel, fun i j hi hj => ?_⟩⟩
    · rw [hbase]
      refine run_firstCells_some (P := P) w loc'.esz loc'.len ad loc'.len loc'.cap _ (by simp) (fun j v hj => ?_)
      have hj' : j < loc'.len * loc'.esz := by have := (List.getElem?_eq_some_iff.1 hj).1; simpa using this
      have hv : cells.getD (ad.off + j) undef = v := by simpa [hj'] using hj
      rw [add_none _ _ hs, ← hv, cell_of_row w _ _ cells ct (0, 0) hg]
      have : ad.off + j < cells.size := by omega
      simp [Array.getD, this]
    · have hlt : i * loc'.esz + j < loc'.len * loc'.esz := idx_lt (by rw [← h2.len]; exact hi) hj
      rw [range_getD _ _ _ hlt]
      exact hrep i j (by rw [← h2.len]; exact hi) hj

theorem NCells.append {esz : Nat} {xs ys : Array Value} {l m : List (List PV)} (h1 : NCells F φ esz xs l) (h2 : NCells F φ esz ys m) (rest : Array Value) :
    ∀ i j, i < (l ++ m).length → j < esz → (((xs ++ ys) ++ rest).getD (i * esz + j) undef).oneCell' = true ∧ Rep F φ (((xs ++ ys) ++ rest).getD (i * esz + j) undef) (((l ++ m).getD i []).getD j pvu) := by
  intro i j hi hj
  have hlt := idx_lt hi hj
  have hsz : (xs ++ ys).size = (l ++ m).length * esz := by rw [Array.size_append, h1.size, h2.size, List.length_append, Nat.add_mul]
  have e0 : ((xs ++ ys) ++ rest).getD (i * esz + j) undef = (xs ++ ys).getD (i * esz + j) undef := by
    simp only [Array.getD_eq_getD_getElem?]
    rw [Array.getElem?_append_left (by rw [hsz]; exact hlt)]
  rw [e0]
  by_cases hil : i < l.length
  · have hlt1 : i * esz + j < xs.size := by rw [h1.size]; exact idx_lt hil hj
    have e1 : (xs ++ ys).getD (i * esz + j) undef = xs.getD (i * esz + j) undef := by
      simp only [Array.getD_eq_getD_getElem?]
      rw [Array.getElem?_append_left hlt1]
    have e2 : (l ++ m).getD i [] = l.getD i [] := by
      simp only [List.getD_eq_getElem?_getD]
      rw [List.getElem?_append_left hil]
    rw [e1, e2]
    exact h1.rep i j hil hj
  · have him : i - l.length < m.length := by simp at hi; omega
    have hsub : i * esz + j = xs.size + ((i - l.length) * esz + j) := by
      rw [h1.size, ← Nat.add_assoc, ← Nat.add_mul]
      congr 2
      omega
    have e1 : (xs ++ ys).getD (i * esz + j) undef = ys.getD ((i - l.length) * esz + j) undef := by
      simp only [Array.getD_eq_getD_getElem?]
      rw [hsub, Array.getElem?_append_right (by omega)]
      congr 2
      omega
    have e2 : (l ++ m).getD i [] = m.getD (i - l.length) [] := by
      simp only [List.getD_eq_getElem?_getD]
      rw [List.getElem?_append_right (by omega)]
    rw [e1, e2]
    exact h2.rep _ j him hj

/-- append where there is room. -/
theorem run_append_in {sT xT ty el el2 : TypeId} {i : TypeInfo} (hu : P.underlying sT = some (.slice el)) (hux : P.underlying xT = some (.slice el2)) (hi : P.info? el = some i) {base xb : Option Addr} {sLen sCap n xc : Nat} {news : List Value}
    (hf : (Builtin.firstCells i.size n (.slice xb n xc)).run P w = .ok news.toArray w) (hroom : sLen + n ≤ sCap) :
    (Builtin.append_ #[sT, xT] ty #[.slice base sLen sCap, .slice xb n xc]).run P w =
      match base with
      | some x => ((storeCells (x.add (sLen * i.size)) news).run P w).andThen fun _ w' => .ok (.slice base (sLen + n) sCap) w'
      | none => .ok (.slice base (sLen + n) sCap) w := by
  cases base <;> simp [Builtin.append_, run_underlying hu, run_underlying hux, run_sizeOf_of hi, Builtin.lenOf, hroom, hf]

/-- append where there is none. -/
theorem run_append_out {sT xT ty el el2 : TypeId} {i : TypeInfo} {z : Value} (hu : P.underlying sT = some (.slice el)) (hux : P.underlying xT = some (.slice el2)) (hi : P.info? el = some i) (hz : i.zero = some z) (hby : 0 < i.bytes)
    {base xb : Option Addr} {sLen sCap n xc : Nat} {olds news : List Value} (ho : (Builtin.firstCells i.size sLen (.slice base sLen sCap)).run P { w with drawn := w.drawn + 1 } = .ok olds.toArray { w with drawn := w.drawn + 1 })
    (hf : (Builtin.firstCells i.size n (.slice xb n xc)).run P { w with drawn := w.drawn + 1 } = .ok news.toArray { w with drawn := w.drawn + 1 }) (hroom : sCap < sLen + n) (hb : (sLen + n) * i.bytes ≤ 140737488355328) :
    (Builtin.append_ #[sT, xT] ty #[.slice base sLen sCap, .slice xb n xc]).run P w =
      .ok (.slice (some ⟨w.heap.size, 0, none⟩) (sLen + n) (grownCap w (sLen + n) sCap el))
        (World.alloc { w with drawn := w.drawn + 1 } (.cells (olds.toArray ++ news.toArray ++ Builtin.zeroCells z.cells (grownCap w (sLen + n) sCap el - (sLen + n))) el)) := by
  have hn : ¬ (sLen + n ≤ sCap) := by omega
  have hby' : ¬ i.bytes = 0 := by omega
  have h48 := growslice_fits (bytes := i.bytes) hroom hb
  have h48' : ¬ (281474976710656 < Builtin.nextslicecap (sLen + n) sCap * i.bytes) := by omega
  simp [Builtin.append_, run_underlying hu, run_underlying hux, sizeOf, typeInfo, zeroValue, hi, hz, Builtin.lenOf, hn, hby', h48', Question.forced] at ho hf ⊢
  simp [ho, hf, newRow, grownCap]
  congr 2
  apply Array.ext'
  simp [List.append_assoc]

theorem append_run (s : St' C Fr e h F φ a w) {id : Nat} (hid : Fr id) {sT xT ty el el2 : TypeId} {z : List Value} {i : TypeInfo} (hu : P.underlying sT = some (.slice el)) (hux : P.underlying xT = some (.slice el2)) (hz : zeroOf P el = some z) (hi : P.info? el = some i) (hby : 0 < i.bytes)
    {x y : Operand} {p : PV} {h' : Heap} (hd : dEval (.append z i.bytes x y) e h id = some (p, h')) : OpRun P C Fr e F φ a w (Builtin.append_ #[sT, xT] ty #[a.eval x, a.eval y]) id p h' := by
  obtain ⟨i', zv, hi', hzv, rfl, h1z, hlz, hpz⟩ := zeroOf_spec hz
  obtain rfl : i' = i := by rw [hi'] at hi; simpa using hi
  simp only [dEval] at hd
  split at hd
  case h_2 => simp at hd
  rename_i k m full hx hy
  split at hd
  case h_2 => simp at hd
  rename_i b hb
  split at hd
  case isFalse => simp at hd
  rename_i hcond
  obtain ⟨hm, hbesz, hbytes⟩ := hcond
  cases hd
  obtain ⟨loc, hloc, hv⟩ := (s.eval hx).own_inv
  obtain ⟨loc', h1, h2, h3⟩ := s.live k b hb
  obtain rfl : loc' = loc := by rw [h1] at hloc; simpa using hloc
  have hlen := h2.len
  have hesz : loc'.esz = i'.size := by rw [← h2.esz, hbesz, hlz]
  have hne : id ≠ k := fun e => by subst e; rw [s.free _ hid] at h1; cases h1
  have hkey : (fun j => bif Nat.beq j id then some (⟨b.esz, b.elems ++ m⟩ : Bx) else bif Nat.beq j k then none else h j) = (h.del k).upd id ⟨b.esz, b.elems ++ m⟩ := rfl
  rw [hkey]
  have s1 : St' C Fr e (h.del k) F φ a w := s.sub (fun _ _ h => h) (fun _ _ hh => (Heap.del_some hh).2)
  have hm' : ∀ c ∈ m, c.length = i'.size := fun c hc => by rw [hm c hc, hlz]
  have h48 : b.elems.length + m.length ≤ 281474976710656 := by
    have : (b.elems.length + m.length) * 1 ≤ (b.elems.length + m.length) * i'.bytes := Nat.mul_le_mul_left _ hby
    omega
  have hallel : ∀ c ∈ b.elems ++ m, c.length = i'.size := fun c hc => by
    rcases List.mem_append.1 hc with h | h
    · rw [← hesz]; exact h2.el c h
    · exact hm' c h
  by_cases hroom : loc'.len + m.length ≤ loc'.cap
  · obtain ⟨xb, xc, news, hvy, hf, hnc⟩ := srcCells (P := P) s (s.eval hy) hm'
    rw [hvy] at hf
    have hrun := run_append_in (ty := ty) (base := loc'.base) hu hux hi hf hroom
    by_cases hc0 : loc'.cap = 0
    · have hm0 : m = [] := List.eq_nil_of_length_eq_zero (by omega)
      have hb0 : b.elems = [] := List.eq_nil_of_length_eq_zero (by omega)
      have hl0 : loc'.len = 0 := by omega
      subst hm0
      have hn0 : news = [] := by have := hnc.size; simpa using this
      subst hn0
      have hrun' : (Builtin.append_ #[sT, xT] ty #[a.eval x, a.eval y]).run P w = .ok (.slice loc'.base 0 0) w := by
        rw [hv, hvy, hrun]
        cases loc'.base <;> simp [storeCells, hl0, hc0]
      refine ⟨_, w, F, _, hrun', by rw [hb0, h2.esz]; exact (s1.allocNil hid loc'.base loc'.esz h2.pos).made, .own id ⟨loc'.base, loc'.esz, 0, 0⟩ (by simp [locUpd])⟩
    · obtain ⟨ad, hbase, hs, cells, ct, hg, hroom2, hrep⟩ := h2.room hc0
      have hhas : loc'.has ad.block := ⟨hc0, ad, hbase, rfl⟩
      have hnl : news.length = m.length * i'.size := by have := hnc.size; simpa using this
      have hfit : ad.off + loc'.len * i'.size + news.length ≤ cells.size := by
        have : (loc'.len + m.length) * loc'.esz ≤ loc'.cap * loc'.esz := Nat.mul_le_mul_right _ hroom
        rw [Nat.add_mul] at this
        rw [hnl, ← hesz]
        omega
      have h1n : ∀ v ∈ news, v.oneCell' = true := fun v hv => by
        obtain ⟨j, hj, rfl⟩ := List.getElem_of_mem hv
        have hj' : j < m.length * i'.size := by rw [← hnl]; exact hj
        have hp : 0 < i'.size := by rw [← hlz]; exact hpz
        have := (hnc.rep (j / i'.size) (j % i'.size) (Nat.div_lt_of_lt_mul (by rw [Nat.mul_comm]; exact hj')) (Nat.mod_lt _ hp)).1
        rw [Nat.div_add_mod' j i'.size] at this
        simpa [Array.getD, hj] using this
      have hst := run_storeCells_at P ad.block (ad.off + loc'.len * i'.size) ct news 0 cells w hg (by simpa using hfit) h1n
      simp only [Nat.add_zero] at hst
      let locN : Loc := ⟨some ad, loc'.esz, loc'.len + m.length, loc'.cap⟩
      have hrun' : (Builtin.append_ #[sT, xT] ty #[a.eval x, a.eval y]).run P w = .ok (.slice (some ad) (loc'.len + m.length) loc'.cap) (w.setRow ad.block (cells.toList.take (ad.off + loc'.len * i'.size) ++ news ++ cells.toList.drop (ad.off + loc'.len * i'.size + news.length)).toArray) := by
        rw [hv, hvy, hrun, hbase]
        simp only [add_none _ _ hs, hst, Result.andThen_ok]
      have hs2 := s1.adopt (id := id) (loc' := locN) (b' := ⟨b.esz, b.elems ++ m⟩) (φ' := locUpd φ id locN) (Fr' := fun i => Fr i ∧ i ≠ id) (cur' := (cells.toList.take (ad.off + loc'.len * i'.size) ++ news ++ cells.toList.drop (ad.off + loc'.len * i'.size + news.length)).toArray) hg (h3 _ hhas).1 (h3 _ hhas).2 (s.del_no hb h1 hhas)
        (by simp [locUpd]) (locUpd_ext (s.free id hid) locN) (fun i hi => by simp [locUpd, hi]) (fun i hi => by simp [locUpd, hi.2, s.free i hi.1]) (fun k' hk' => by obtain ⟨_, y, hy, rfl⟩ := hk'; simp only [locN] at hy; cases hy; rfl) (by
          refine ⟨h2.esz, h2.pos, by simp [locN]; omega, hroom, by simp only [locN, maxVec]; omega, fun c hc => by rw [hallel c hc, ← hesz], fun _ => ⟨ad, rfl, hs, _, ct, setRow_heap w _ cells _ ct _ hg, ?_, fun i j hi hj => ?_⟩⟩
          · simp only [locN, List.size_toArray, List.length_append, List.length_take, List.length_drop, Array.length_toList]; omega
          · simp only [locN] at hi hj ⊢
            rw [getD_splice _ _ _ hfit]
            by_cases hil : i < loc'.len
            · have hlt : i * loc'.esz + j < loc'.len * loc'.esz := idx_lt hil hj
              rw [if_neg (by rw [← hesz]; omega)]
              have e2 : (b.elems ++ m).getD i [] = b.elems.getD i [] := by
                simp only [List.getD_eq_getElem?_getD]
                rw [List.getElem?_append_left (by omega)]
              rw [e2]
              have := hrep i j hil hj
              exact ⟨this.1, this.2.mono (fun _ _ h => h) (locUpd_ext (s.free id hid) locN)⟩
            · have him : i - loc'.len < m.length := by omega
              have hsub : i * loc'.esz = loc'.len * loc'.esz + (i - loc'.len) * loc'.esz := by
                rw [← Nat.add_mul]; congr 1; omega
              have hlt := idx_lt him hj
              rw [if_pos (by rw [← hesz, hnl, ← hesz]; omega)]
              have e2 : (b.elems ++ m).getD i [] = m.getD (i - loc'.len) [] := by
                simp only [List.getD_eq_getElem?_getD]
                rw [List.getElem?_append_right (by omega), hlen]
              have e3 : ad.off + (i * loc'.esz + j) - (ad.off + loc'.len * i'.size) = (i - loc'.len) * i'.size + j := by rw [← hesz]; omega
              rw [e2, e3]
              have := hnc.rep (i - loc'.len) j him (by rw [← hesz]; exact hj)
              have e4 : news.toArray.getD ((i - loc'.len) * i'.size + j) undef = news.getD ((i - loc'.len) * i'.size + j) undef := by simp [List.getD_eq_getElem?_getD, Array.getD_eq_getD_getElem?]
              rw [e4] at this
              exact ⟨this.1, this.2.mono (fun _ _ h => h) (locUpd_ext (s.free id hid) locN)⟩)
      exact ⟨_, _, F, _, hrun', hs2.made, .own id locN (by simp [locUpd])⟩
  · have sd := s.drew
    obtain ⟨xb, xc, news, hvy, hf, hnc⟩ := srcCells (P := P) sd (sd.eval hy) hm'
    obtain ⟨olds, ho, hoc⟩ := ownCells (P := P) sd hb h1
    rw [hvy] at hf
    rw [hesz] at ho hoc
    have hrun := run_append_out (ty := ty) hu hux hi hzv hby ho hf (by omega) (by rw [← hlen]; exact hbytes)
    have s1d := s1.drew
    have hge := grownCap_ge w (loc'.len + m.length) loc'.cap el
    have hsz0 : zv.cells.size = i'.size := by rw [← hlz]; simp
    refine ⟨_, _, F, locUpd φ id ⟨some ⟨w.heap.size, 0, none⟩, i'.size, loc'.len + m.length, grownCap w (loc'.len + m.length) loc'.cap el⟩, by rw [hv, hvy]; exact hrun, ?_, .own id ⟨some ⟨w.heap.size, 0, none⟩, i'.size, loc'.len + m.length, grownCap w (loc'.len + m.length) loc'.cap el⟩ (by simp [locUpd])⟩
    rw [h2.esz, hesz]
    refine St'.made <| s1d.alloc hid _ el i'.size (loc'.len + m.length) (grownCap w (loc'.len + m.length) loc'.cap el) (b.elems ++ m) (by rw [← hlz]; exact hpz) (by simp; omega) hge (by simp only [maxVec]; omega) hallel ?_ (fun i j hi hj => ?_)
    · have e1 : (olds.toArray ++ news.toArray ++ Builtin.zeroCells zv.cells (grownCap w (loc'.len + m.length) loc'.cap el - (loc'.len + m.length))).size = loc'.len * i'.size + m.length * i'.size + (grownCap w (loc'.len + m.length) loc'.cap el - (loc'.len + m.length)) * i'.size := by
        rw [Array.size_append, Array.size_append, hoc.size, hnc.size, size_zeroCells, hsz0, hlen]
      rw [e1, ← Nat.add_mul, ← Nat.add_mul]
      exact Nat.mul_le_mul_right _ (by omega)
    · exact hoc.append hnc _ i j (by rw [List.length_append, hlen]; exact hi) hj

/-- append whose result is never written. -/
theorem appendF_run (s : St' C Fr e h F φ a w) (id : Nat) {sT xT ty el el2 : TypeId} {z : List Value} {i : TypeInfo} (hu : P.underlying sT = some (.slice el)) (hux : P.underlying xT = some (.slice el2)) (hz : zeroOf P el = some z) (hi : P.info? el = some i) (hby : 0 < i.bytes)
    {x y : Operand} {p : PV} {h' : Heap} (hd : fEval (.append z i.bytes x y) e h id = some (p, h')) : OpRun P C Fr e F φ a w (Builtin.append_ #[sT, xT] ty #[a.eval x, a.eval y]) id p h' := by
  obtain ⟨i', zv, hi', hzv, rfl, h1z, hlz, hpz⟩ := zeroOf_spec hz
  obtain rfl : i' = i := by rw [hi'] at hi; simpa using hi
  simp only [fEval] at hd
  split at hd
  case h_2 => simp at hd
  rename_i l m full hx hy
  split at hd
  case isFalse => simp at hd
  rename_i hcond
  obtain ⟨hl, hm, hbytes⟩ := hcond
  cases hd
  have hl' : ∀ c ∈ l, c.length = i'.size := fun c hc => by rw [hl c hc, hlz]
  have hm' : ∀ c ∈ m, c.length = i'.size := fun c hc => by rw [hm c hc, hlz]
  have sd := s.drew
  obtain ⟨base, cap, olds, hv, ho, hoc⟩ := srcCells (P := P) sd (sd.eval hx) hl'
  obtain ⟨xb, xc, news, hvy, hf, hnc⟩ := srcCells (P := P) sd (sd.eval hy) hm'
  have hcap : cap = l.length := by
    rcases (s.eval hx).vec_inv with ⟨rfl, hv'⟩ | ⟨ad, cap', esz', cs, hv', _, _, hfull, _⟩
    · rw [hv] at hv'; cases hv'; rfl
    · rw [hv] at hv'; cases hv'; exact hfull rfl
  subst hcap
  by_cases hm0 : m = []
  · subst hm0
    obtain ⟨xb, xc, news, hvy, hf, hnc⟩ := srcCells (P := P) s (s.eval hy) hm'
    rw [hvy] at hf
    have hrun := run_append_in (ty := ty) (base := base) (sLen := l.length) (sCap := l.length) hu hux hi hf (by simp)
    have hn0 : news = [] := by have := hnc.size; simpa using this
    subst hn0
    have hrun' : (Builtin.append_ #[sT, xT] ty #[a.eval x, a.eval y]).run P w = .ok (a.eval x) w := by
      rw [hv, hvy, hrun]
      cases base <;> simp [storeCells]
    have hr := s.eval hx
    rw [List.append_nil]
    refine OpRun.quiet s hrun' ?_
    rcases hr.vec_inv with ⟨rfl, hv'⟩ | ⟨ad, cap', esz', cs, hv', hs, hc, _, hmax, he, hF, hR⟩
    · rw [hv']; exact .vecnil false
    · rw [hv']; exact .vec ad cap' esz' l false cs hs hc (by simp) hmax he hF hR
  · have hmpos : 0 < m.length := List.length_pos_iff.2 hm0
    have hrun := run_append_out (ty := ty) (base := base) (xb := xb) (xc := xc) hu hux hi hzv hby (by rw [← hv]; exact ho) (by rw [← hvy]; exact hf) (by omega) hbytes
    have hge := grownCap_ge w (l.length + m.length) l.length el
    have hsz0 : zv.cells.size = i'.size := by rw [← hlz]; simp
    have h48 : l.length + m.length ≤ 281474976710656 := by
      have : (l.length + m.length) * 1 ≤ (l.length + m.length) * i'.bytes := Nat.mul_le_mul_left _ hby
      omega
    have hall := hoc.append hnc (Builtin.zeroCells zv.cells (grownCap w (l.length + m.length) l.length el - (l.length + m.length)))
    have hsz : (l.length + m.length) * i'.size ≤ (olds.toArray ++ news.toArray ++ Builtin.zeroCells zv.cells (grownCap w (l.length + m.length) l.length el - (l.length + m.length))).size := by
      rw [Array.size_append, Array.size_append, hoc.size, hnc.size, ← Nat.add_mul]
      omega
    generalize olds.toArray ++ news.toArray ++ Builtin.zeroCells zv.cells (grownCap w (l.length + m.length) l.length el - (l.length + m.length)) = arr at hrun hall hsz
    obtain ⟨s', hx'⟩ := sd.allocFrz arr el
    refine ⟨_, _, _, φ, by rw [hv, hvy]; exact hrun, s'.weaken fun _ h => h.1, ?_⟩
    rw [← List.length_append]
    refine .vec ⟨w.heap.size, 0, none⟩ _ i'.size (l ++ m) false (fun i j => arr.getD (i * i'.size + j) undef) (fun _ => rfl)
      (by rw [List.length_append]; exact hge) (by simp) (by rw [List.length_append]; exact h48) (fun j hj => ?_) (fun j k hj hk => ?_) (fun j k hj hk => (hall j k hj hk).2.mono hx' fun _ _ h => h)
    · have hmem : (l ++ m).getD j [] ∈ l ++ m := by
        rw [List.getD_eq_getElem?_getD, List.getElem?_eq_getElem hj]; exact List.getElem_mem hj
      rcases List.mem_append.1 hmem with h | h
      · exact hl' _ h
      · exact hm' _ h
    · simp only [Nat.zero_add]
      have hlt := idx_lt hj hk
      rw [List.length_append] at hlt
      exact frozNew_at F _ _ (by omega) (hall j k hj hk).1

theorem srcCellsN (s : St' C Fr e h F φ a w) {v : Value} {m : List (List PV)} {full : Bool} (hv : Rep F φ v (.vec m full)) {esz : Nat} (hm : ∀ c ∈ m, c.length = esz) {n : Nat} (hn : n ≤ m.length) :
    ∃ base cap, ∃ news : List Value, v = .slice base m.length cap ∧ (Builtin.firstCells esz n v).run P w = .ok news.toArray w ∧ news.length = n * esz ∧ ∀ i j, i < n → j < esz → (news.toArray.getD (i * esz + j) undef).oneCell' = true ∧ Rep F φ (news.toArray.getD (i * esz + j) undef) ((m.getD i []).getD j pvu) := by
  have hel : ∀ i, i < m.length → (m.getD i []).length = esz := fun i hi => hm _ (by simp [List.getD_eq_getElem?_getD, hi])
  rcases hv.vec_inv with ⟨rfl, rfl⟩ | ⟨ad, cap, esz', cs, rfl, hs, hcap, _, hmax, he, hF, hR⟩
  · have h0 : n = 0 := by simpa using hn
    subst h0
    exact ⟨none, 0, [], rfl, by simp [Builtin.firstCells], by simp, fun i j hi => by omega⟩
  · have hesz : ∀ i, i < m.length → esz' = esz := fun i hi => by rw [← he i hi]; exact hel i hi
    have hpos : ∀ k, k < n * esz → 0 < esz ∧ k / esz < n ∧ k % esz < esz := fun k hk => by
      have h0 : 0 < esz := by
        rcases Nat.eq_zero_or_pos esz with h | h
        · subst h; simp at hk
        · exact h
      exact ⟨h0, Nat.div_lt_of_lt_mul (by rw [Nat.mul_comm]; exact hk), Nat.mod_lt _ h0⟩
    have hF' : ∀ k, k < n * esz → F ⟨ad.block, ad.off + k, none⟩ = some (cs (k / esz) (k % esz)) := fun k hk => by
      obtain ⟨h0, h1, h2⟩ := hpos k hk
      have h3 : k / esz < m.length := Nat.lt_of_lt_of_le h1 hn
      have := hF (k / esz) (k % esz) h3 (by rw [hesz _ h3]; exact h2)
      rw [hesz (k / esz) h3] at this
      have hk' : k / esz * esz + k % esz = k := Nat.div_add_mod' k esz
      rwa [hk'] at this
    refine ⟨some ad, cap, (List.range (n * esz)).map fun k => cs (k / esz) (k % esz), rfl, ?_, by simp, fun i j hi hj => ?_⟩
    · refine run_firstCells_some (P := P) w esz n ad m.length cap _ (by simp) (fun j v hj => ?_)
      have hj' : j < n * esz := by have := (List.getElem?_eq_some_iff.1 hj).1; simpa using this
      have hv : cs (j / esz) (j % esz) = v := by simpa [hj'] using hj
      have hne : m ≠ [] := by
        rintro rfl
        have h0 : n = 0 := by simpa using hn
        subst h0
        simp at hj'
      rw [add_none _ _ (hs hne), ← hv]
      exact (s.froz _ _ (hF' j hj')).2.2
    · have hlt := idx_lt hi hj
      have e1 : (i * esz + j) / esz = i := by rw [Nat.add_comm, Nat.add_mul_div_right _ _ (by omega), Nat.div_eq_of_lt hj]; omega
      have e2 : (i * esz + j) % esz = j := by rw [Nat.add_comm, Nat.add_mul_mod_self_right, Nat.mod_eq_of_lt hj]
      have hget : ((List.range (n * esz)).map fun k => cs (k / esz) (k % esz)).toArray.getD (i * esz + j) undef = cs i j := by
        rw [range_getD _ _ _ hlt, e1, e2]
      rw [hget]
      have hj2 : j < esz' := by rw [hesz i (by omega)]; exact hj
      exact ⟨(s.froz _ _ (hF i j (by omega) hj2)).2.1, hR i j (by omega) hj2⟩

theorem copy_run (s : St' C Fr e h F φ a w) {id : Nat} {dT sT ty el el2 : TypeId} {inf : TypeInfo} (hu : P.underlying dT = some (.slice el)) (hux : P.underlying sT = some (.slice el2)) (hi : P.info? el = some inf)
    {x y : Operand} {p : PV} {h' : Heap} (hd : dEval (.copy inf.size x y) e h id = some (p, h')) : OpRun P C Fr e F φ a w (Builtin.copy_ #[dT, sT] ty #[a.eval x, a.eval y]) id p h' := by
  simp only [dEval] at hd
  split at hd
  case h_2 => simp at hd
  rename_i k m full hx hy
  split at hd
  case h_2 => simp at hd
  rename_i b hb
  split at hd
  case isFalse => simp at hd
  rename_i hcond
  obtain ⟨hm, hbesz⟩ := hcond
  cases hd
  obtain ⟨loc, hloc, hv⟩ := (s.eval hx).own_inv
  obtain ⟨loc', h1, h2, h3⟩ := s.live k b hb
  obtain rfl : loc' = loc := by rw [h1] at hloc; simpa using hloc
  have hlen := h2.len
  have hesz : loc'.esz = inf.size := by rw [← h2.esz, hbesz]
  have hn : min m.length loc'.len ≤ m.length := Nat.min_le_left _ _
  obtain ⟨xb, xc, news, hvy, hf, hnl, hrepN⟩ := srcCellsN (P := P) s (s.eval hy) hm hn
  rw [hvy] at hf
  have hkey : h.upd k ⟨b.esz, m.take b.elems.length ++ b.elems.drop m.length⟩ = (h.del k).upd k ⟨b.esz, m.take b.elems.length ++ b.elems.drop m.length⟩ := (Heap.del_upd h k _).symm
  have hmin : min m.length b.elems.length = min m.length loc'.len := by rw [hlen]
  have hnlt : min m.length loc'.len ≤ loc'.len := Nat.min_le_right _ _
  have hpre : (Builtin.copy_ #[dT, sT] ty #[a.eval x, a.eval y]).run P w = match loc'.base with
      | some ad => ((storeCells ad news).run P w).andThen fun _ w' => .ok (.int .i64 (min m.length loc'.len : Nat)) w'
      | none => .ok (.int .i64 (min m.length loc'.len : Nat)) w := by
    rw [hv, hvy]
    cases loc'.base <;> simp [Builtin.copy_, run_underlying hu, run_sizeOf_of hi, Builtin.lenOf, hf, goInt]
  by_cases hc0 : loc'.cap = 0
  · have hl0 : loc'.len = 0 := by have := h2.cap; omega
    have hb0 : b.elems = [] := List.eq_nil_of_length_eq_zero (by omega)
    have hn0 : min m.length loc'.len = 0 := by omega
    have hnw : news = [] := List.eq_nil_of_length_eq_zero (by rw [hnl, hn0]; omega)
    have hrun : (Builtin.copy_ #[dT, sT] ty #[a.eval x, a.eval y]).run P w = .ok (.int .i64 (min m.length loc'.len : Nat)) w := by
      rw [hpre, hnw]
      cases loc'.base <;> simp [storeCells]
    have hsame : h.upd k ⟨b.esz, m.take b.elems.length ++ b.elems.drop m.length⟩ = h := by
      funext j
      by_cases hj : j = k
      · subst hj
        rw [Heap.upd_same, hb]
        obtain ⟨besz, bel⟩ := b
        simp only at hb0
        subst hb0
        simp
      · rw [Heap.upd_ne _ _ hj]
    rw [hsame, hmin]
    exact ⟨_, w, F, φ, hrun, s.weaken fun _ h => h.1, .val _⟩
  · obtain ⟨ad, hbase, hs, cells, ct, hg, hroom2, hrep⟩ := h2.room hc0
    have hhas : loc'.has ad.block := ⟨hc0, ad, hbase, rfl⟩
    have hfit : ad.off + 0 + news.length ≤ cells.size := by
      have : min m.length loc'.len * loc'.esz ≤ loc'.cap * loc'.esz := Nat.mul_le_mul_right _ (Nat.le_trans hnlt h2.cap)
      rw [hnl, ← hesz]; omega
    have h1n : ∀ v ∈ news, v.oneCell' = true := fun v hv => by
      obtain ⟨j, hj, rfl⟩ := List.getElem_of_mem hv
      have hj' : j < min m.length loc'.len * inf.size := by rw [← hnl]; exact hj
      have hp : 0 < inf.size := by rw [← hesz]; exact h2.pos
      have := (hrepN (j / inf.size) (j % inf.size) (Nat.div_lt_of_lt_mul (by rw [Nat.mul_comm]; exact hj')) (Nat.mod_lt _ hp)).1
      rw [Nat.div_add_mod' j inf.size] at this
      simpa [Array.getD, hj] using this
    have hst := run_storeCells_at P ad.block (ad.off + 0) ct news 0 cells w hg (by simpa using hfit) h1n
    simp only [Nat.add_zero] at hst hfit
    have had : (⟨ad.block, ad.off, none⟩ : Addr) = ad := (eta_none ad hs).symm
    rw [had] at hst
    have hrun : (Builtin.copy_ #[dT, sT] ty #[a.eval x, a.eval y]).run P w = .ok (.int .i64 (min m.length loc'.len : Nat)) (w.setRow ad.block (cells.toList.take ad.off ++ news ++ cells.toList.drop (ad.off + news.length)).toArray) := by
      rw [hpre, hbase]
      simp only [hst, Result.andThen_ok]
    have hlenN : (m.take b.elems.length ++ b.elems.drop m.length).length = loc'.len := by simp; omega
    have hs2 := (s.sub (fun _ _ h => h) (fun _ _ hh => (Heap.del_some hh).2) : St' C Fr e (h.del k) F φ a w).adopt (loc' := loc') (b' := ⟨b.esz, m.take b.elems.length ++ b.elems.drop m.length⟩) (φ' := φ) (cur' := (cells.toList.take ad.off ++ news ++ cells.toList.drop (ad.off + news.length)).toArray) hg (h3 _ hhas).1 (h3 _ hhas).2 (s.del_no hb h1 hhas) h1 (fun _ _ h => h) (fun _ _ => rfl) s.free (fun k' hk' => by
        obtain ⟨_, y', hy', rfl⟩ := hk'
        rw [hbase] at hy'
        cases hy'
        rfl) (by
        refine ⟨h2.esz, h2.pos, hlenN, h2.cap, h2.max, fun c hc => ?_, fun _ => ⟨ad, hbase, hs, _, ct, setRow_heap w _ cells _ ct _ hg, ?_, fun i j hi hj => ?_⟩⟩
        · rcases List.mem_append.1 hc with h | h
          · rw [hm c (List.mem_of_mem_take h), hesz]
          · exact h2.el c (List.mem_of_mem_drop h)
        · simp only [List.size_toArray, List.length_append, List.length_take, List.length_drop, Array.length_toList]; omega
        · rw [getD_splice _ _ _ hfit]
          by_cases hil : i < min m.length loc'.len
          · have him : i < m.length := Nat.lt_of_lt_of_le hil hn
            have hlt := idx_lt (esz := loc'.esz) hil hj
            rw [if_pos (by rw [hnl, ← hesz]; omega)]
            have e2 : (m.take b.elems.length ++ b.elems.drop m.length).getD i [] = m.getD i [] := by
              simp only [List.getD_eq_getElem?_getD]
              rw [List.getElem?_append_left (by rw [List.length_take]; omega), List.getElem?_take, if_pos (by omega)]
            have e3 : ad.off + (i * loc'.esz + j) - ad.off = i * inf.size + j := by rw [← hesz]; omega
            rw [e2, e3]
            have := hrepN i j hil (by rw [← hesz]; exact hj)
            have e4 : news.toArray.getD (i * inf.size + j) undef = news.getD (i * inf.size + j) undef := by simp [List.getD_eq_getElem?_getD, Array.getD_eq_getD_getElem?]
            rw [e4] at this
            exact this
          · have hmi : m.length ≤ i := by
              rcases Nat.le_total m.length loc'.len with h | h
              · rw [Nat.min_eq_left h] at hil; omega
              · rw [Nat.min_eq_right h] at hil; omega
            have hnm : min m.length loc'.len = m.length := Nat.min_eq_left (by omega)
            have hge : m.length * loc'.esz ≤ i * loc'.esz := Nat.mul_le_mul_right _ hmi
            rw [if_neg (by rw [hnl, hnm, ← hesz]; omega)]
            have e2 : (m.take b.elems.length ++ b.elems.drop m.length).getD i [] = b.elems.getD i [] := by
              simp only [List.getD_eq_getElem?_getD]
              rw [List.getElem?_append_right (by rw [List.length_take]; omega), List.length_take, List.getElem?_drop]
              congr 2
              omega
            rw [e2]
            exact hrep i j hi hj)
    rw [hkey, hmin]
    exact ⟨_, _, F, φ, hrun, hs2.weaken fun _ h => h.1, .val _⟩

theorem extract_run (s : St' C Fr e h F φ a w) {id : Nat} {x : Operand} {i : Nat} {p : PV} {h' : Heap} (hd : dEval (.extract x i) e h id = some (p, h')) : OpRun P C Fr e F φ a w (Instr.extract (a.eval x) i) id p h' := by
  simp only [dEval] at hd
  split at hd
  · rename_i l hl
    split at hd
    case isFalse => simp at hd
    rename_i hi
    cases hd
    obtain ⟨vs, hv, h1, h2⟩ := (s.eval hl).tup_inv
    have hi' : i < vs.size := by omega
    exact OpRun.quiet s (val := vs.getD i undef) (by simp [Instr.extract, hv, hi', Array.getD]) (h2 i hi)
  · simp at hd

theorem mkfn_run (s : St' C Fr e h F φ a w) {id : Nat} {f : FuncId} {caps : Array Operand} {p : PV} {h' : Heap} (hd : dEval (.mkfn f caps.toList) e h id = some (p, h')) : OpRun P C Fr e F φ a w (Instr.makeFunc (.func f) (#[].map a.eval) (caps.map a.eval)) id p h' := by
  simp only [dEval] at hd
  split at hd
  · rename_i l hl
    cases hd
    obtain ⟨h1, h2⟩ := s.evals hl
    refine OpRun.quiet s (val := .func (.func f) #[] (caps.map a.eval)) (by simp [Instr.makeFunc]) (.fn f _ l (by simpa using h1) fun i hi => ?_)
    have := h2 i hi
    rw [← toList_getD]
    simpa using this
  · simp at hd

theorem mx_run (s : St' C Fr e h F φ a w) {id : Nat} {ts : Array TypeId} {ty : TypeId} {x y : Operand} {p : PV} {h' : Heap} (hd : dEval (.mx x y) e h id = some (p, h')) : OpRun P C Fr e F φ a w (Builtin.max_ ts ty #[a.eval x, a.eval y]) id p h' := by
  simp only [dEval] at hd
  split at hd
  · rename_i k n k' m hx hy
    cases hd
    exact OpRun.quiet s (by rw [(s.eval hx).val_inv, (s.eval hy).val_inv]; exact run_max_int2 w ts ty k k' n m) (.val _)
  · simp at hd
theorem mn_run (s : St' C Fr e h F φ a w) {id : Nat} {ts : Array TypeId} {ty : TypeId} {x y : Operand} {p : PV} {h' : Heap} (hd : dEval (.mn x y) e h id = some (p, h')) : OpRun P C Fr e F φ a w (Builtin.min_ ts ty #[a.eval x, a.eval y]) id p h' := by
  simp only [dEval] at hd
  split at hd
  · rename_i k n k' m hx hy
    cases hd
    exact OpRun.quiet s (by rw [(s.eval hx).val_inv, (s.eval hy).val_inv]; exact run_min_int2 w ts ty k k' n m) (.val _)
  · simp at hd
end
end Go.Proofs.Ytelcpkjclcimbaa
