/-
  Every operation of the elaborated code does what its reading on abstract values says: stores, slices that are made, cut and appended to. For every program; no statement of the seat is proved here.
-/
import Derived.Test.YtelcpkjclcimbaaIr6
namespace Go.Proofs.Ytelcpkjclcimbaa
open Go.RowKit
set_option linter.unusedVariables false
set_option linter.unusedSimpArgs false

section
variable {P : Program} {C : Ctx} {Fr : Nat → Prop} {e : Env} {h : Heap} {F : Froz} {φ : Locs} {a : Act} {w : World}

/-! ### Blocks that never change again -/
theorem St'.allocBlock (s : St' C Fr e h F φ a w) (o : Obj) : St' C Fr e h F φ a (w.alloc o) := by
  have hold : ∀ k, k < w.heap.size → (w.alloc o).heap[k]? = w.heap[k]? := fun k hk => Below.heap_alloc w _ k hk
  refine { nt := s.nt, nodef := s.nodef, loc0 := s.loc0, free := s.free, env := s.env, froz := fun x v hx => ?_, ext := s.ext, old := s.old, os := s.os, tape := s.tape, output := s.output,
           size := by have := s.size; simp; omega, kept := fun k hk hG => by rw [hold k (by have := s.size; omega)]; exact s.kept k hk hG, live := fun i b hb => ?_, sep := s.sep }
  · obtain ⟨h1, h2, h3⟩ := s.froz x v hx
    exact ⟨h1, h2, by rw [World.cell?_of_block (w := w) (hold _ (block_lt_of_cell h3))]; exact h3⟩
  · obtain ⟨loc, h1, h2, h3⟩ := s.live i b hb
    exact ⟨loc, h1, h2.mono (fun _ _ h => h) (fun _ _ h => h) (fun k hk => hold k (s.has_lt hb h1 hk)), h3⟩

def frozNew (F : Froz) (g : Nat) (cells : Array Value) : Froz := fun x =>
  if x.block = g then (if x.spot = none then (match cells[x.off]? with | some v => if v.oneCell' = true then some v else none | none => none) else none) else F x

theorem frozNew_at (F : Froz) (g : Nat) (cells : Array Value) {o : Nat} (ho : o < cells.size) (h1 : (cells.getD o undef).oneCell' = true) : frozNew F g cells ⟨g, o, none⟩ = some (cells.getD o undef) := by
  have hg : cells[o]? = some (cells.getD o undef) := by simp [Array.getD, ho]
  simp only [frozNew, if_true]
  rw [hg]
  simp only [h1, if_true]

theorem frozNew_ext {g : Nat} (hF : ∀ x : Addr, x.block = g → F x = none) (cells : Array Value) : ∀ x v, F x = some v → frozNew F g cells x = some v := by
  intro x v hx
  have : x.block ≠ g := fun e => by rw [hF x e] at hx; cases hx
  simp [frozNew, this, hx]

theorem St'.frz (s : St' C Fr e h F φ a w) {g : Nat} {cells : Array Value} {t : TypeId} {fr : Nat × Nat} (hg : w.heap[g]? = some (.cells cells t fr)) (hF : ∀ x : Addr, x.block = g → F x = none)
    (hno : ∀ i b loc, h i = some b → φ i = some loc → ¬ loc.has g) (hown : C.w0.heap.size ≤ g ∨ C.G g) : St' C Fr e h (frozNew F g cells) φ a w := by
  have hext := frozNew_ext hF cells
  refine { nt := s.nt, nodef := s.nodef, loc0 := s.loc0, free := s.free, env := fun k p hp => ⟨(s.env k p hp).1, (s.env k p hp).2.mono hext fun _ _ h => h⟩, froz := fun x v hx => ?_, ext := fun x v hx => hext _ _ (s.ext x v hx), old := fun x hx hG => ?_,
           os := s.os, tape := s.tape, output := s.output, size := s.size, kept := s.kept, live := fun i b hb => ?_, sep := s.sep }
  · by_cases hb : x.block = g
    · simp only [frozNew, hb, if_true] at hx
      split at hx
      case isFalse => cases hx
      rename_i hs
      split at hx
      case h_2 => cases hx
      rename_i u hu
      split at hx
      case isFalse => cases hx
      rename_i h1
      cases hx
      refine ⟨hs, h1, ?_⟩
      rw [eta_none x hs, hb, cell_of_row w g _ cells t fr hg]
      exact hu
    · simp only [frozNew, hb, if_false] at hx
      exact s.froz x v hx
  · have : x.block ≠ g := by
      rintro rfl
      rcases hown with h' | h'
      · omega
      · exact hG h'
    simp only [frozNew, this, if_false]
    exact s.old x hx hG
  · obtain ⟨loc, h1, h2, h3⟩ := s.live i b hb
    refine ⟨loc, h1, h2.mono hext (fun _ _ h => h) (fun _ _ => rfl), fun k hk => ⟨(h3 k hk).1, fun x hx => ?_⟩⟩
    have : x.block ≠ g := by rintro rfl; subst hx; exact hno i b loc hb h1 hk
    simp only [frozNew, this, if_false]
    exact (h3 k hk).2 x hx

/-- New cells that nobody will write. -/
theorem St'.allocFrz (s : St' C Fr e h F φ a w) (cells : Array Value) (t : TypeId) : St' C Fr e h (frozNew F w.heap.size cells) φ a (w.alloc (.cells cells t)) ∧ ∀ x v, F x = some v → frozNew F w.heap.size cells x = some v := by
  have hF : ∀ x : Addr, x.block = w.heap.size → F x = none := fun x hx => by
    cases hFx : F x with
    | none => rfl
    | some v => have := s.lt hFx; omega
  refine ⟨(s.allocBlock (.cells cells t)).frz (heap_alloc_new w _) hF (fun i b loc hb hl hk => ?_) (.inl s.size), frozNew_ext hF cells⟩
  have := s.has_lt hb hl hk
  omega

theorem Rep.frozVec {vs : Array Value} {esz : Nat} {l : List (List PV)} (hc : NCells F φ esz vs l) (g : Nat) (hF : ∀ x v, F x = some v → frozNew F g vs x = some v) {cap : Nat} (hcap : l.length ≤ cap) {full : Bool} (hfull : full = true → cap = l.length) (hmax : l.length ≤ maxVec) :
    Rep (frozNew F g vs) φ (.slice (some ⟨g, 0, none⟩) l.length cap) (.vec l full) := by
  refine .vec ⟨g, 0, none⟩ cap esz l full (fun i j => vs.getD (i * esz + j) undef) (fun _ => rfl) hcap hfull hmax hc.el (fun i j hi hj => ?_) (fun i j hi hj => (hc.rep i j hi hj).2.mono hF fun _ _ h => h)
  simp only [Nat.zero_add]
  exact frozNew_at F g vs (by rw [hc.size]; exact idx_lt hi hj) (hc.rep i j hi hj).1

theorem Rep.frozCp {vs : Array Value} {l : List PV} (hc : Cells F φ vs l) (g : Nat) (hF : ∀ x v, F x = some v → frozNew F g vs x = some v) : Rep (frozNew F g vs) φ (.pointer (some ⟨g, 0, none⟩)) (.cp l) := by
  refine .cp ⟨g, 0, none⟩ l (fun j => vs.getD j undef) rfl (fun j hj => ?_) (fun j hj => (hc.2 j hj).2.mono hF fun _ _ h => h)
  simp only [Nat.zero_add]
  exact frozNew_at F g vs (by rw [hc.1]; exact hj) (hc.2 j hj).1

theorem allocF_run (s : St' C Fr e h F φ a w) (id : Nat) {t : TypeId} {z : List Value} (hz : zeroOf P t = some z) (old : Value) : OpRun P C Fr e F φ a w (Instr.alloc t true old) id (.cp (zpv z)) h := by
  obtain ⟨i, v, hi, hv, rfl, h1, hl, hp⟩ := zeroOf_spec hz
  obtain ⟨s', hx⟩ := s.allocFrz v.cells t
  exact ⟨_, _, _, φ, by simp [Instr.alloc, run_zeroValue_of hi hv, Go.newVar, newRow], s'.weaken fun _ h => h.1, Rep.frozCp (Cells.zero h1) _ hx⟩

theorem boxF_run (s : St' C Fr e h F φ a w) (id : Nat) {t : TypeId} {v : Value} {p : PV} (hv : Rep F φ v p) (hf : p.flat = true) : OpRun P C Fr e F φ a w (Instr.box t v) id (.cp p.cells) h := by
  obtain ⟨s', hx⟩ := s.allocFrz v.cells t
  exact ⟨_, _, _, φ, by simp [Instr.box, Go.newVar, newRow], s'.weaken fun _ h => h.1, Rep.frozCp (hv.cellsOf hf) _ hx⟩

theorem bsliceV_run (s : St' C Fr e h F φ a w) {id : Nat} (hid : Fr id) {t el : TypeId} {z : List Value} {n : Nat} {parts : Array (Nat × Operand)} (hu : P.underlying t = some (.slice el)) (hz : zeroOf P el = some z) (hle : n * z.length ≤ 16777216)
    {l : List (List PV)} (hb : buildS e z.length (List.replicate n (zpv z)) parts.toList = some l) : OpRun P C Fr e F φ a w (Instr.buildSlice t n (parts.map fun (i, x) => (i, a.eval x))) id (.vec l true) h := by
  obtain ⟨vs', hr, hc, hl⟩ := bslice_run s hid hu hz hle hb
  obtain ⟨s', hx⟩ := s.allocFrz vs' el
  obtain ⟨_, _, _, _, _, _, _, hp⟩ := zeroOf_spec hz
  have hn : n ≤ 16777216 := Nat.le_trans (Nat.le_mul_of_pos_right _ hp) hle
  have := Rep.frozVec hc w.heap.size hx (cap := n) (full := true) (by omega) (fun _ => hl.symm) (by simp [maxVec]; omega)
  rw [hl] at this
  exact ⟨_, _, _, φ, hr, s'.weaken fun _ h => h.1, this⟩

theorem bsliceO_run (s : St' C Fr e h F φ a w) {id : Nat} (hid : Fr id) {t el : TypeId} {z : List Value} {n : Nat} {parts : Array (Nat × Operand)} (hu : P.underlying t = some (.slice el)) (hz : zeroOf P el = some z) (hle : n * z.length ≤ 16777216)
    {l : List (List PV)} (hb : buildS e z.length (List.replicate n (zpv z)) parts.toList = some l) : OpRun P C Fr e F φ a w (Instr.buildSlice t n (parts.map fun (i, x) => (i, a.eval x))) id (.own id) (h.upd id ⟨z.length, l⟩) := by
  obtain ⟨vs', hr, hc, hl⟩ := bslice_run s hid hu hz hle hb
  obtain ⟨_, _, _, _, _, _, _, hp⟩ := zeroOf_spec hz
  have hn : n ≤ 16777216 := Nat.le_trans (Nat.le_mul_of_pos_right _ hp) hle
  refine ⟨_, _, F, _, hr, St'.made <| s.alloc hid vs' el z.length n n l hp hl (Nat.le_refl _) (by simp [maxVec]; omega) (fun c hc' => ?_) (by rw [hc.size, hl]; exact Nat.le_refl _) (fun i j hi hj => hc.rep i j (by omega) hj), ?_⟩
  · obtain ⟨k, hk, rfl⟩ := List.getElem_of_mem hc'
    have := hc.el k hk
    simpa [List.getD_eq_getElem?_getD, hk] using this
  · exact .own id ⟨some ⟨w.heap.size, 0, none⟩, z.length, n, n⟩ (by simp [locUpd])

/-! ### Stores -/
theorem getD_splice (cur : Array Value) (o : Nat) (vs : List Value) (hle : o + vs.length ≤ cur.size) (i : Nat) : (cur.toList.take o ++ vs ++ cur.toList.drop (o + vs.length)).toArray.getD i undef = if o ≤ i ∧ i < o + vs.length then vs.getD (i - o) undef else cur.getD i undef := by
  have hm : min o cur.size = o := by omega
  simp only [Array.getD_eq_getD_getElem?, List.getElem?_toArray, List.append_assoc, List.getD_eq_getElem?_getD]
  by_cases h1 : i < o
  · rw [if_neg (by omega), List.getElem?_append_left (by simp; omega), List.getElem?_take, if_pos h1, Array.getElem?_toList]
  · rw [List.getElem?_append_right (by simp; omega)]
    simp only [List.length_take, Array.length_toList, hm]
    by_cases h2 : i < o + vs.length
    · rw [if_pos (by omega), List.getElem?_append_left (by omega)]
    · rw [if_neg (by omega), List.getElem?_append_right (by omega), List.getElem?_drop, Array.getElem?_toList]
      congr 2
      omega

theorem store_run (s : St' C Fr e h F φ a w) {id : Nat} {t : TypeId} {agg : Bool} {size : Nat} (hlay : layOf P t = some (agg, size)) {x y : Operand} {p : PV} {h' : Heap} (hd : dEval (.store size x y) e h id = some (p, h')) :
    p = pvu ∧ ∃ w', (Instr.storeAt t (a.eval x) (a.eval y)).run P w = .ok () w' ∧ St' C Fr e h' F φ a w' := by
  have hsize : (sizeOf t).run P w = .ok size w := by
    cases agg with
    | true => obtain ⟨d, inf, _, _, hi, rfl⟩ := layOf_agg hlay; exact run_sizeOf_of hi
    | false => obtain ⟨rfl, d, inf, _, _, hi, h1⟩ := layOf_one hlay; rw [← h1]; exact run_sizeOf_of hi
  simp only [dEval] at hd
  split at hd
  case h_2 => simp at hd
  rename_i k i off q hx hy
  split at hd
  case h_2 => simp at hd
  rename_i b hb
  split at hd
  case isFalse => simp at hd
  rename_i hcond
  simp only [Bool.and_eq_true, beq_iff_eq, decide_eq_true_eq] at hcond
  obtain ⟨⟨⟨hflat, hsz⟩, hi⟩, hoff⟩ := hcond
  cases hd
  refine ⟨rfl, ?_⟩
  obtain ⟨hc1, hc2⟩ := (s.eval hy).cellsOf hflat
  obtain ⟨loc, ad, hloc, hbase, hs, hv⟩ := (s.eval hx).ptr_inv
  obtain ⟨loc', h1, h2, h3⟩ := s.live k b hb
  obtain rfl : loc' = loc := by rw [h1] at hloc; simpa using hloc
  have hilen : i < loc'.len := by rw [← h2.len]; exact hi
  have hcapne : loc'.cap ≠ 0 := by have := h2.cap; omega
  obtain ⟨ad', hbase', _, cells, ct, hg, hroom, hrep⟩ := h2.room hcapne
  obtain rfl : ad' = ad := by rw [hbase] at hbase'; simpa using hbase'.symm
  have hesz : b.esz = loc'.esz := h2.esz
  have hcl : (b.elems.getD i []).length = loc'.esz := h2.el _ (by simp [List.getD_eq_getElem?_getD, hi])
  have hpos : ad'.off + (i * loc'.esz + off) + (a.eval y).cells.toList.length ≤ cells.size := by
    have := idx_lt (esz := loc'.esz) (j := loc'.esz - 1) (Nat.lt_of_lt_of_le hilen h2.cap) (by have := h2.pos; omega)
    have hl : (a.eval y).cells.toList.length = size := by rw [← hsz]; simpa using hc1
    have := h2.pos
    omega
  have hlen : (a.eval y).cells.toList.length = size := by rw [← hsz]; simpa using hc1
  have hst := run_storeCells_at P ad'.block (ad'.off + (i * loc'.esz + off)) ct (a.eval y).cells.toList 0 cells w hg (by simpa using hpos) (fun v hv => by
    obtain ⟨j, hj, rfl⟩ := List.getElem_of_mem hv
    have := (hc2 j (by rw [hsz, ← hlen]; exact hj)).1
    have hj' : j < (a.eval y).cells.size := by simpa using hj
    simpa [Array.getD, hj'] using this)
  simp only [Nat.add_zero] at hst
  generalize hw : w.setRow ad'.block _ = w' at hst
  refine ⟨w', by simp [Instr.storeAt, hv, Instr.sureAddr, storeVar, hsize, hc1, hsz, hst], ?_⟩
  subst hw
  have hkey : h.upd k ⟨b.esz, b.elems.set i (setAt (b.elems.getD i []) off q.cells)⟩ = (h.del k).upd k ⟨b.esz, b.elems.set i (setAt (b.elems.getD i []) off q.cells)⟩ := (Heap.del_upd h k _).symm
  rw [hkey]
  have hhas : loc'.has ad'.block := ⟨hcapne, ad', hbase, rfl⟩
  refine (s.sub (fun _ _ h => h) (fun _ _ hh => (Heap.del_some hh).2)).adopt (loc' := loc') (φ' := φ) hg (h3 _ hhas).1 (h3 _ hhas).2 (s.del_no hb h1 hhas) h1 (fun _ _ h => h) (fun _ _ => rfl) s.free (fun k' hk' => ?_) ?_
  · obtain ⟨_, y', hy', rfl⟩ := hk'
    rw [hbase] at hy'
    cases hy'
    rfl
  · refine ⟨hesz, h2.pos, by simpa using h2.len, h2.cap, h2.max, fun c hc => ?_, fun _ => ⟨ad', hbase, hs, _, ct, setRow_heap w _ cells _ ct _ hg, ?_, fun i' j' hi' hj' => ?_⟩⟩
    · obtain ⟨k', hk', rfl⟩ := List.getElem_of_mem hc
      have hk2 : k' < b.elems.length := by simpa using hk'
      by_cases he : i = k'
      · subst he
        simp only [List.getElem_set_self]
        rw [setAt_length _ _ _ (by rw [hsz, hcl]; omega), hcl]
      · simp only [List.getElem_set_ne he]
        exact h2.el _ (List.getElem_mem hk2)
    · simp only [List.size_toArray, List.length_append, List.length_take, List.length_drop, Array.length_toList]; omega
    · rw [getD_splice _ _ _ hpos, hlen]
      by_cases he : i' = i
      · subst he
        have hset : (b.elems.set i' (setAt (b.elems.getD i' []) off q.cells)).getD i' [] = setAt (b.elems.getD i' []) off q.cells := by simp [List.getD_eq_getElem?_getD, hi]
        rw [hset, setAt_getD _ _ _ (by rw [hsz, hcl]; omega), hsz]
        by_cases hr : off ≤ j' ∧ j' < off + size
        · rw [if_pos (by omega), if_pos hr, toList_getD, show ad'.off + (i' * loc'.esz + j') - (ad'.off + (i' * loc'.esz + off)) = j' - off by omega]
          exact hc2 _ (by omega)
        · rw [if_neg (by omega), if_neg hr]
          exact hrep i' j' hi' hj'
      · have hset : (b.elems.set i (setAt (b.elems.getD i []) off q.cells)).getD i' [] = b.elems.getD i' [] := by simp [List.getD_eq_getElem?_getD, List.getElem?_set, Ne.symm he]
        have hout := idx_out (k := i) hj' he
        rw [hset, if_neg (by omega)]
        exact hrep i' j' hi' hj'
end
end Go.Proofs.Ytelcpkjclcimbaa
