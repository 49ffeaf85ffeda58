/-
  Merged from the texts that this claim's theorem needs, part 5 of 7. No statement of the seat is proved here.
-/
import Derived.Carry
import Derived.LaidMore
import Derived.OpenShut
import Derived.ProofKit
import Derived.SizedLaws
import Derived.Test.YtifohjijhhjdkaaGreatDoorRows
import Derived.Test.YtifohjijhhjdkaaGreatDoorMq3
set_option linter.unusedSimpArgs false
set_option linter.unusedVariables false

namespace Go.Proofs.YtifohjijhhjdkaaGreatDoor
open Go.RowKit
set_option linter.unusedVariables false
attribute [local irreducible] aw opsK dK

def MadeG (r : PV) : Prop := ∃ f : Fm, Wf f ∧ typeM f.op = 1 ∧ f.depth ≤ 4 ∧ f.size ≤ 15 ∧ in6 1 f = true ∧ r = .tup [.agg (fC .u8 f), .agg (fC .i64 f)]
theorem bys_row (l : List Nat) : bys l = l.map fun (x : Nat) => [PV.val (.int .u8 (x : Int))] := rfl
theorem make19_spec (l : List Nat) (hl : Bytes l) (fl : Bool) : Spec Tryz.prog 7 [.vec (bys l) fl] MadeG := by
 have hnl : (bys l).length = l.length := by simp [bys]
 have hmn : (if (40 : Int) < ((bys l).length : Int) then (40 : Int) else ((bys l).length : Int)) = ((min l.length 40 : Nat) : Int) := by rw [hnl]; split <;> omega
 refine spec_intro ok7 (Nat.le_of_ble_eq_true rfl) fun C hC => ?_
 (refine go ?_;repeat' (apply B<;>intro hb<;>try cases hb))
 refine opsK_of (E_slc (xs := l) (g := fun (x : Nat) => [PV.val (.int .u8 (x : Int))]) rfl 0 (min l.length 40) rfl (by show some _ = some _; rw [← hmn]) (Nat.zero_le _) (Nat.min_le_left _ _) (fun _ => rfl)) rfl rfl ?_
 rw [← bys_row, List.drop_zero]
 have hl2 : Bytes (l.take (min l.length 40)) := fun x hx => hl x (List.mem_of_mem_take hx)
 refine opsK_spec rfl rfl (make18_spec _ hl2 false 1) ⟨bys_pure _, trivial, trivial, trivial⟩ rfl ?_
 rintro r ⟨f, wf, tf, df, sf, rfl, i6⟩
 repeat' (first | refine aw_drawU [] [(0, 8)] [31, 31, 31, 4, 31] (by kernel_rfl) ?_ | (first|refine st ?_|(apply B<;>intro hb<;>try cases hb)))
 refine dK_eq (make18f_spec 4 f (wf.nice 4 f df)) rfl rfl rfl ⟨fC_pure _ _, trivial⟩ ?_
 (refine go ?_;repeat' (apply B<;>intro hb<;>try cases hb))
 exact ret_ok rfl ⟨fC_pure _ _, fC_pure _ _, trivial⟩ ⟨f, wf, tf, df, sf, i6, rfl⟩
end Go.Proofs.YtifohjijhhjdkaaGreatDoor

namespace Go.Proofs.YtifohjijhhjdkaaGreatDoor
open Go.RowKit Go.ChangeShapes
set_option linter.unusedVariables false
set_option linter.unusedSimpArgs false

def cellF (w : World) : Froz := fun x => match x.spot with
 | none => match w.cell? x with
   | some v => if v.oneCell' then some v else none
   | none => none
 | some _ => none
def GlobsIn (w : World) : Prop := ∀ (g j : Nat) (v : Value), (globs g)[j]? = some v → w.cell? ⟨g, j, none⟩ = some v
theorem holds_cellF {w : World} (hgl : GlobsIn w) : Holds (cellF w) w := by
 refine ⟨?_, fun g j v hv => by
  have h1 := hgl g j v hv
  have h2 := globs_one g j v hv
  simp [cellF, h1, h2]⟩
 intro x v hx
 unfold cellF at hx
 split at hx
 · rename_i hs
   split at hx
   · rename_i u hu
     split at hx
     · rename_i h1
       cases hx
       exact ⟨hs, h1, hu⟩
     · cases hx
   · cases hx
 · cases hx
theorem cellF_of {w : World} {b o : Nat} {v : Value} (hc : w.cell? ⟨b, o, none⟩ = some v) (h1 : v.oneCell' = true) : cellF w ⟨b, o, none⟩ = some v := by
 simp [cellF, hc, h1]

def Shape (P : Program) : Nat → TypeId → List PV → Prop
 | 0, _, _ => False
 | n + 1, t, ps => match P.underlying t with
   | some .bool => ∃ b, ps = [.val (.bool b)]
   | some (.int k) => ∃ m, (Lit.int k m).wf = true ∧ ps = [.val (.int k m)]
   | some .string => ∃ s, s.size ≤ maxVec ∧ ps = [.val (.string s)]
   | some (.pointer e) => ps = [.val (.pointer none)] ∨ ∃ l, Shape P n e l ∧ ps = [.cp l]
   | some (.slice e) => ∃ ll fl, ll.length ≤ maxVec ∧ (∀ l ∈ ll, Shape P n e l) ∧ ps = [.vec ll fl]
   | some (.struct fs) => ps.length = P.cellsOf t ∧ ∀ f ∈ fs.toList, Shape P n f.type ((ps.drop f.offset).take (P.cellsOf f.type))
   | some (.array m e) => ps.length = P.cellsOf t ∧ ∀ i, i < m → Shape P n e ((ps.drop (i * P.cellsOf e)).take (P.cellsOf e))
   | _ => ∃ v, ps = [.val v]

theorem mapM_some' {α β : Type} {f : α → Option β} : ∀ {l : List α} {ys : List β}, l.mapM f = some ys → ys.length = l.length ∧ ∀ i (h : i < l.length) (h' : i < ys.length), f l[i] = some ys[i]
 | [], ys, h => by
   obtain rfl : [] = ys := by simpa using h
   exact ⟨rfl, fun i hi => absurd hi (Nat.not_lt_zero _)⟩
 | a :: l, ys, h => by
   rw [List.mapM_cons] at h
   cases ha : f a with
   | none => simp [ha] at h
   | some b =>
     cases hl : l.mapM f with
     | none => simp [ha, hl] at h
     | some bs =>
       obtain rfl : b :: bs = ys := by simpa [ha, hl] using h
       obtain ⟨h1, h2⟩ := mapM_some' hl
       refine ⟨by simp [h1], fun i hi hi' => ?_⟩
       cases i with
       | zero => simpa using ha
       | succ i => simpa using h2 i (by simpa using hi) (by simpa using hi')

theorem cells?_some {w : World} {a : Addr} {n : Nat} {cs : List Value} (h : w.cells? 0 a n = some cs) : cs.length = n ∧ ∀ j, (hj : j < cs.length) → w.cell? (a.add j) = some cs[j] := by
 unfold World.cells? at h
 rw [if_pos (Nat.zero_le _)] at h
 obtain ⟨h1, h2⟩ := mapM_some' h
 have hn : cs.length = n := by simpa using h1
 refine ⟨hn, fun j hj => ?_⟩
 have := h2 j (by simp; omega) hj
 simpa using this

structure CellsR (w : World) (cs : List Value) (ps : List PV) : Prop where
 len : cs.length = ps.length
 one : ∀ j, j < ps.length → (cs.getD j undef).oneCell' = true
 rep : ∀ j, j < ps.length → Rep (cellF w) noLoc (cs.getD j undef) (ps.getD j pvu)
 pure : pureL ps

theorem CellsR.single {w : World} {v : Value} {p : PV} (h1 : v.oneCell' = true) (hr : Rep (cellF w) noLoc v p) (hp : p.pure) : CellsR w [v] [p] :=
 ⟨rfl, fun j hj => by obtain rfl : j = 0 := by simpa using hj
                      exact h1, fun j hj => by obtain rfl : j = 0 := by simpa using hj
                                               exact hr, hp, trivial⟩
theorem CellsR.nil {w : World} : CellsR w [] [] := ⟨rfl, fun j hj => absurd hj (Nat.not_lt_zero _), fun j hj => absurd hj (Nat.not_lt_zero _), trivial⟩
theorem CellsR.append {w : World} {cs cs' : List Value} {ps ps' : List PV} (h : CellsR w cs ps) (h' : CellsR w cs' ps') : CellsR w (cs ++ cs') (ps ++ ps') := by
 refine ⟨by simp [h.len, h'.len], fun j hj => ?_, fun j hj => ?_, (innL_iff _ _).2 fun p hp => ?_⟩
 · by_cases hl : j < ps.length
   · have := h.one j hl
     simpa [List.getD_eq_getElem?_getD, List.getElem?_append, h.len, hl] using this
   · have := h'.one (j - ps.length) (by simp at hj; omega)
     simpa [List.getD_eq_getElem?_getD, List.getElem?_append, h.len, hl] using this
 · by_cases hl : j < ps.length
   · have := h.rep j hl
     simpa [List.getD_eq_getElem?_getD, List.getElem?_append, h.len, hl] using this
   · have := h'.rep (j - ps.length) (by simp at hj; omega)
     simpa [List.getD_eq_getElem?_getD, List.getElem?_append, h.len, hl] using this
 · rcases List.mem_append.1 hp with hp | hp
   · exact (innL_iff _ _).1 h.pure p hp
   · exact (innL_iff _ _).1 h'.pure p hp

def tile (P : Program) (off : Nat) (total : Nat) : List Field → Bool
 | [] => off == total
 | f :: r => f.offset == off && tile P (off + P.cellsOf f.type) total r
def tilesT (P : Program) (G : List TypeId) (t : TypeId) : Bool := match P.underlying t with
 | some (.struct fs) => tile P 0 (P.cellsOf t) fs.toList && fs.toList.all fun f => G.contains f.type
 | some (.array m e) => P.cellsOf t == m * P.cellsOf e && G.contains e
 | some (.slice e) => decide (0 < P.bytesOf e) && decide (0 < P.cellsOf e) && G.contains e
 | some (.pointer e) => decide (0 < P.cellsOf e) && G.contains e
 | _ => true
def tilesB (P : Program) (G : List TypeId) : Bool := G.all (tilesT P G)
theorem tilesT_of {P : Program} {G : List TypeId} (h : tilesB P G = true) {t : TypeId} (ht : G.contains t = true) : tilesT P G t = true := List.all_eq_true.1 h t (by simpa using ht)
def partsG (P : Program) (ts : List TypeId) : List TypeId := ts.flatMap P.book

theorem struct_cells {P : Program} {w : World} {S : TypeId → List PV → Prop} {cs : List Value} : ∀ {fs : List Field} {off total : Nat}, tile P off total fs = true → cs.length = total →
 (∀ f ∈ fs, ∃ ps, S f.type ps ∧ CellsR w ((cs.drop f.offset).take (P.cellsOf f.type)) ps) → off ≤ total ∧ ∃ ps, CellsR w (cs.drop off) ps ∧ ∀ f ∈ fs, off ≤ f.offset ∧ S f.type ((ps.drop (f.offset - off)).take (P.cellsOf f.type))
 | [], off, total, ht, hl, _ => by
   obtain rfl : off = total := by simpa [tile] using ht
   refine ⟨Nat.le_refl _, [], ?_, fun f hf => by cases hf⟩
   rw [List.drop_eq_nil_of_le (by omega)]
   exact .nil
 | f :: r, off, total, ht, hl, hf => by
   simp only [tile, Bool.and_eq_true, beq_iff_eq] at ht
   obtain ⟨rfl, ht⟩ := ht
   obtain ⟨hle, ps2, hc2, hs2⟩ := struct_cells ht hl fun g hg => hf g (by simp [hg])
   obtain ⟨ps1, hs1, hc1⟩ := hf f (by simp)
   have hl1 : ps1.length = P.cellsOf f.type := by rw [← hc1.len]; simp; omega
   refine ⟨by omega, ps1 ++ ps2, ?_, fun g hg => ?_⟩
   · have := hc1.append hc2
     rw [← List.drop_drop, List.take_append_drop] at this
     exact this
   · rcases List.mem_cons.1 hg with rfl | hg
     · refine ⟨Nat.le_refl _, ?_⟩
       rw [Nat.sub_self, List.drop_zero, ← hl1, List.take_left]
       exact hs1
     · obtain ⟨h1, h2⟩ := hs2 g hg
       refine ⟨by omega, ?_⟩
       have e : g.offset - f.offset = ps1.length + (g.offset - (f.offset + P.cellsOf f.type)) := by omega
       rw [e, ← List.drop_drop, List.drop_left]
       exact h2

theorem array_cells {w : World} {S : List PV → Prop} {cs : List Value} {sz : Nat} : ∀ {m : Nat}, cs.length = m * sz → (∀ i, i < m → ∃ ps, S ps ∧ CellsR w ((cs.drop (i * sz)).take sz) ps) → ∃ ps, CellsR w cs ps ∧ ∀ i, i < m → S ((ps.drop (i * sz)).take sz)
 | 0, hl, _ => by
   obtain rfl : cs = [] := List.eq_nil_of_length_eq_zero (by simpa using hl)
   exact ⟨[], .nil, fun i hi => absurd hi (Nat.not_lt_zero _)⟩
 | m + 1, hl, hf => by
   have hlm : (cs.take (m * sz)).length = m * sz := by rw [List.length_take, hl]; exact Nat.min_eq_left (Nat.mul_le_mul_right _ (by omega))
   obtain ⟨ps1, hc1, hs1⟩ := array_cells (cs := cs.take (m * sz)) hlm fun i hi => by
    obtain ⟨ps, h1, h2⟩ := hf i (by omega)
    refine ⟨ps, h1, ?_⟩
    rw [List.drop_take, List.take_take, Nat.min_eq_left (by
     have : (i + 1) * sz ≤ m * sz := Nat.mul_le_mul_right _ hi
     rw [Nat.add_mul] at this; omega)]
    exact h2
   obtain ⟨ps2, hs2, hc2⟩ := hf m (by omega)
   have hl1 : ps1.length = m * sz := by rw [← hc1.len, hlm]
   have hd : (cs.drop (m * sz)).take sz = cs.drop (m * sz) := List.take_of_length_le (by rw [List.length_drop, hl, Nat.add_mul]; omega)
   rw [hd] at hc2
   have hl2 : ps2.length = sz := by rw [← hc2.len, List.length_drop, hl, Nat.add_mul]; omega
   refine ⟨ps1 ++ ps2, by have := hc1.append hc2; rwa [List.take_append_drop] at this, fun i hi => ?_⟩
   by_cases him : i < m
   · have hle : i * sz + sz ≤ ps1.length := by
      have : (i + 1) * sz ≤ m * sz := Nat.mul_le_mul_right _ him
      rw [Nat.add_mul] at this; omega
     rw [List.drop_append_of_le_length (by omega), List.take_append_of_le_length (by rw [List.length_drop]; omega)]
     exact hs1 i him
   · obtain rfl : i = m := by omega
     rw [← hl1, List.drop_left, List.take_of_length_le (by omega)]
     exact hs2

theorem weightsAll_mem {H : Type} {P : Program} {e : TypeId} : ∀ {ds : List (DataW H)} {d : DataW H}, d ∈ ds → ∀ x ∈ d.weights P e, x ∈ DataW.weightsAll P e ds
 | [], _, h, _, _ => by cases h
 | a :: r, d, h, x, hx => by
   rw [DataW.weightsAll, List.mem_append]
   rcases List.mem_cons.1 h with rfl | h
   · exact .inl hx
   · exact .inr (weightsAll_mem h x hx)
theorem weightsEach_mem {H : Type} {P : Program} : ∀ {ts : List TypeId} {ds : List (DataW H)} {i : Nat} {t : TypeId} {d : DataW H}, ts[i]? = some t → ds[i]? = some d → ∀ x ∈ d.weights P t, x ∈ DataW.weightsEach P ts ds
 | [], _, i, t, d, h, _, _, _ => by simp at h
 | a :: ts, [], i, t, d, _, h, _, _ => by simp at h
 | a :: ts, b :: ds, 0, t, d, h, h', x, hx => by
   obtain rfl : a = t := by simpa using h
   obtain rfl : b = d := by simpa using h'
   rw [DataW.weightsEach, List.mem_append]
   exact .inl hx
 | a :: ts, b :: ds, i + 1, t, d, h, h', x, hx => by
   rw [DataW.weightsEach, List.mem_append]
   exact .inr (weightsEach_mem (i := i) (by simpa using h) (by simpa using h') x hx)

section
variable {H : Type} {enc : TypeId × Value → H} {P : Program} {w : World} {sp : Nat → Bool}

theorem row_cells {a : Addr} {n : Nat} {cs : List Value} {ps : List PV} (hc : w.cells? 0 a n = some cs) (hs : a.spot = none) (h : CellsR w cs ps) : ps.length = n ∧ ∀ j, j < ps.length → cellF w ⟨a.block, a.off + j, none⟩ = some (cs.getD j undef) := by
 obtain ⟨h1, h2⟩ := cells?_some hc
 refine ⟨by rw [← h.len, h1], fun j hj => ?_⟩
 have hj' : j < cs.length := by rw [h.len]; exact hj
 have := h2 j hj'
 rw [add_none _ _ hs] at this
 have e : cs.getD j undef = cs[j] := by simp [List.getD_eq_getElem?_getD, hj']
 rw [e]
 exact cellF_of this (by rw [← e]; exact h.one j hj)

theorem row_spot {a : Addr} {n : Nat} {cs : List Value} (hc : w.cells? 0 a n = some cs) (hn : 0 < n) : a.spot = none := by
 obtain ⟨h1, h2⟩ := cells?_some hc
 have := h2 0 (by omega)
 have e : a.add 0 = a := rfl
 rw [e] at this
 cases hs : a.spot with
 | none => rfl
 | some k =>
   unfold World.cell? at this
   rw [hs] at this
   split at this <;> simp at this

theorem exists_list {α : Type} (z : α) {Q : Nat → α → Prop} : ∀ {n : Nat}, (∀ i, i < n → ∃ x, Q i x) → ∃ l : List α, l.length = n ∧ ∀ i, i < n → Q i (l.getD i z)
 | 0, _ => ⟨[], rfl, fun i hi => absurd hi (Nat.not_lt_zero _)⟩
 | n + 1, h => by
   obtain ⟨l, hl, hq⟩ := exists_list z (n := n) fun i hi => h i (by omega)
   obtain ⟨x, hx⟩ := h n (by omega)
   refine ⟨l ++ [x], by simp [hl], fun i hi => ?_⟩
   by_cases hin : i < n
   · have := hq i hin
     simpa [List.getD_eq_getElem?_getD, List.getElem?_append, hl, hin] using this
   · obtain rfl : i = n := by omega
     simpa [List.getD_eq_getElem?_getD, List.getElem?_append, hl] using hx

theorem shape_of_trod {G : List TypeId} (hT : tilesB P G = true) : ∀ {fuel : Nat} {t : TypeId} {cs : List Value} {d : DataW H} {pl : List MemPlace}, G.contains t = true → DataW.trod enc P w 0 sp true fuel t cs = some (d, pl) → (∀ x ∈ d.weights P t, x ≤ reachBytes) → ∃ ps, Shape P fuel t ps ∧ CellsR w cs ps
 | 0, _, _, _, _, _, h, _ => by simp [DataW.trod] at h
 | fuel + 1, t, cs, d, pl, ht, h, hw => by
   have hTt := tilesT_of hT ht
   unfold tilesT at hTt
   have other : ∀ v : Value, v.oneCell' = true → cs = [v] → (match P.underlying t with
    | some .bool | some (.int _) | some .string | some (.pointer _) | some (.slice _) | some (.struct _) | some (.array _ _) => False
    | _ => True) → ∃ ps, Shape P (fuel + 1) t ps ∧ CellsR w cs ps := by
    intro v h1 hcs hu
    refine ⟨[.val v], ?_, hcs ▸ .single h1 (.val v) trivial⟩
    unfold Shape
    split at hu <;> first | exact hu.elim | skip
    first | exact ⟨v, rfl⟩ | (split <;> first | exact ⟨v, rfl⟩ | simp_all)
   unfold DataW.trod at h
   split at h
   · rename_i b hu
     exact ⟨[.val (.bool b)], by simp [Shape, hu], .single rfl (.val _) trivial⟩
   · rename_i k k' m hu
     split at h
     · rename_i hk
       obtain ⟨rfl, hwf⟩ := hk
       exact ⟨[.val (.int k' m)], by simp [Shape, hu, hwf], .single rfl (.val _) trivial⟩
     · cases h
   · rename_i k k' m hu
     exact other _ rfl rfl (by rw [hu]; trivial)
   · rename_i str hu
     split at h
     · cases h
       refine ⟨[.val (.string str)], ?_, .single rfl (.val _) trivial⟩
       have := hw str.data.toList.length (by simp [DataW.weights])
       have hs : str.size ≤ maxVec := by
        have e : str.data.toList.length = str.size := Array.length_toList
        rw [e] at this
        simp only [reachBytes] at this
        simp only [maxVec]
        omega
       simp [Shape, hu, hs]
     · cases h
   · rename_i e hu
     exact ⟨[.val (.pointer none)], by simp [Shape, hu], .single rfl (.val _) trivial⟩
   · rename_i e a hu
     rw [hu] at hTt
     simp only [Bool.and_eq_true, decide_eq_true_eq] at hTt
     cases hc : w.cells? 0 a (P.cellsOf e) with
     | none => simp [hc] at h
     | some cs' =>
       cases hr : DataW.trod enc P w 0 sp true fuel e cs' with
       | none => simp [hc, hr] at h
       | some r =>
         obtain ⟨d', pl'⟩ := r
         have hd : d = .ptr d' := by simp [hc, hr] at h; exact h.1.symm
         subst hd
         obtain ⟨l, hs, hcl⟩ := shape_of_trod hT hTt.2 hr (fun x hx => hw x (by simp only [DataW.weights, hu]; exact hx))
         have hspot := row_spot hc hTt.1
         obtain ⟨hl, hF⟩ := row_cells hc hspot hcl
         refine ⟨[.cp l], by simp only [Shape, hu]; exact .inr ⟨l, hs, rfl⟩, .single rfl ?_ hcl.pure⟩
         exact .cp a l (fun j => cs'.getD j undef) hspot hF hcl.rep
   · rename_i e hu
     exact ⟨[.vec [] true], by simp only [Shape, hu]; exact ⟨[], true, by simp, by simp, rfl⟩, .single rfl (.vecnil true) trivial⟩
   · rename_i e a len cap hu
     rw [hu] at hTt
     simp only [Bool.and_eq_true, decide_eq_true_eq] at hTt
     obtain ⟨⟨hby, hsz⟩, het⟩ := hTt
     simp only at h
     split at h
     case isFalse => cases h
     rename_i hcond
     cases hm : (List.range len).mapM (fun i => (w.cells? 0 (a.add (i * P.cellsOf e)) (P.cellsOf e)).bind (DataW.trod enc P w 0 sp true fuel e)) with
     | none => simp [hm] at h
     | some elems =>
       obtain ⟨hel, hget⟩ := mapM_some' hm
       have hd : ∃ rest : List (DataW H × List MemPlace), d = .slice (elems.map (·.1)) (rest.map (·.1)) := by
        rw [hm] at h
        simp only [Option.bind_some, Option.map_eq_some_iff] at h
        obtain ⟨rest, _, h2⟩ := h
        exact ⟨rest, by cases h2; rfl⟩
       obtain ⟨rest, rfl⟩ := hd
       have hlen : elems.length = len := by simpa using hel
       have hbound : len ≤ maxVec := by
        have := hw ((elems.length + rest.length) * P.bytesOf e) (by simp [DataW.weights, hu])
        have h3 : elems.length + rest.length ≤ (elems.length + rest.length) * P.bytesOf e := Nat.le_mul_of_pos_right _ hby
        simp only [reachBytes] at this
        simp only [maxVec]
        omega
       have each : ∀ i, i < len → ∃ cs' d' pl', w.cells? 0 (a.add (i * P.cellsOf e)) (P.cellsOf e) = some cs' ∧ DataW.trod enc P w 0 sp true fuel e cs' = some (d', pl') ∧ d' ∈ elems.map (·.1) := fun i hi => by
        have := hget i (by simpa using hi) (by omega)
        simp only [List.getElem_range, Option.bind_eq_some_iff] at this
        obtain ⟨cs', h1, h2⟩ := this
        exact ⟨cs', _, _, h1, h2, List.mem_map.2 ⟨elems[i], List.getElem_mem _, rfl⟩⟩
       have hspot : 0 < len → a.spot = none := fun h0 => by
        obtain ⟨cs', d', pl', h1, _⟩ := each 0 h0
        rw [Nat.zero_mul] at h1
        exact row_spot h1 hsz
       obtain ⟨ll, hll, hq⟩ := exists_list (α := List PV) [] (n := len) (Q := fun i l => Shape P fuel e l ∧ l.length = P.cellsOf e ∧ pureL l ∧ ∀ j, j < P.cellsOf e → ∃ v, cellF w ⟨a.block, a.off + (i * P.cellsOf e + j), none⟩ = some v ∧ Rep (cellF w) noLoc v (l.getD j pvu)) fun i hi => by
        obtain ⟨cs', d', pl', h1, h2, h3⟩ := each i hi
        obtain ⟨l, hs, hcl⟩ := shape_of_trod hT het h2 (fun x hx => hw x (by simp only [DataW.weights, hu]; exact List.mem_cons_of_mem _ (List.mem_append.2 (.inl (weightsAll_mem h3 x hx)))))
        rw [add_none _ _ (hspot (by omega))] at h1
        obtain ⟨hl, hF⟩ := row_cells h1 rfl hcl
        refine ⟨l, hs, hl, hcl.pure, fun j hj => ⟨_, ?_, hcl.rep j (by omega)⟩⟩
        have := hF j (by omega)
        simp only at this
        rw [Nat.add_assoc] at this
        exact this
       have hmem : ∀ l ∈ ll, ∃ i, i < len ∧ ll.getD i [] = l := fun l hl => by
        obtain ⟨i, hi, rfl⟩ := List.getElem_of_mem hl
        exact ⟨i, by omega, by simp [List.getD_eq_getElem?_getD, hi]⟩
       refine ⟨[.vec ll false], ?_, .single rfl ?_ ((innLL_iff _ _).2 fun l hl => ?_)⟩
       · simp only [Shape, hu]
         exact ⟨ll, false, by omega, fun l hl => by obtain ⟨i, hi, rfl⟩ := hmem l hl; exact (hq i hi).1, rfl⟩
       · rw [← hll]
         refine .vec a cap (P.cellsOf e) ll false (fun i j => (cellF w ⟨a.block, a.off + (i * P.cellsOf e + j), none⟩).getD undef) (fun hne => hspot (by rw [← hll]; exact List.length_pos_iff.2 hne)) (by omega) (by simp) (by omega) (fun i hi => (hq i (by omega)).2.1) (fun i j hi hj => ?_) (fun i j hi hj => ?_)
         · obtain ⟨v, h1, _⟩ := (hq i (by omega)).2.2.2 j hj
           rw [h1]; rfl
         · obtain ⟨v, h1, h2⟩ := (hq i (by omega)).2.2.2 j hj
           rw [h1]; exact h2
       · obtain ⟨i, hi, rfl⟩ := hmem l hl
         exact (hq i hi).2.2.1
   · rename_i cs _ _ fs hu
     rw [hu] at hTt
     simp only [Bool.and_eq_true, List.all_eq_true, decide_eq_true_eq] at hTt
     obtain ⟨htile, hft⟩ := hTt
     split at h
     case isFalse => cases h
     rename_i hlen
     cases hm : fs.toList.mapM (fun f => DataW.trod enc P w 0 sp true fuel f.type ((cs.drop f.offset).take (P.cellsOf f.type))) with
     | none => simp [hm] at h
     | some xs =>
       obtain ⟨hxl, hget⟩ := mapM_some' hm
       obtain rfl : d = .agg (xs.map (·.1)) := by simp [hm] at h; exact h.1.symm
       obtain ⟨_, ps, hc, hs⟩ := struct_cells (P := P) (S := fun t ps => Shape P fuel t ps) htile hlen fun f hf => by
        obtain ⟨i, hi, rfl⟩ := List.getElem_of_mem hf
        have h2 := hget i hi (by omega)
        refine shape_of_trod hT (hft _ hf) (d := (xs[i]'(by omega)).1) (pl := (xs[i]'(by omega)).2) h2 fun x hx => hw x ?_
        simp only [DataW.weights, hu]
        exact weightsEach_mem (i := i) (t := fs.toList[i].type) (d := (xs[i]'(by omega)).1) (by rw [List.getElem?_map, List.getElem?_eq_getElem hi]; rfl) (by rw [List.getElem?_map, List.getElem?_eq_getElem (by omega)]; rfl) x hx
       rw [List.drop_zero] at hc
       refine ⟨ps, ?_, hc⟩
       simp only [Shape, hu]
       exact ⟨by rw [← hc.len]; exact hlen, fun f hf => by have := (hs f hf).2; rwa [Nat.sub_zero] at this⟩
   · rename_i cs _ _ m e hu
     rw [hu] at hTt
     simp only [Bool.and_eq_true, beq_iff_eq, decide_eq_true_eq] at hTt
     obtain ⟨htile, het⟩ := hTt
     split at h
     case isFalse => cases h
     rename_i hlen
     cases hm : (List.range m).mapM (fun i => DataW.trod enc P w 0 sp true fuel e ((cs.drop (i * P.cellsOf e)).take (P.cellsOf e))) with
     | none => simp [hm] at h
     | some xs =>
       obtain ⟨hxl, hget⟩ := mapM_some' hm
       obtain rfl : d = .agg (xs.map (·.1)) := by simp [hm] at h; exact h.1.symm
       have hxm : xs.length = m := by simpa using hxl
       obtain ⟨ps, hc, hs⟩ := array_cells (S := Shape P fuel e) (sz := P.cellsOf e) (m := m) (by rw [hlen, htile]) fun i hi => by
        have h2 := hget i (by simpa using hi) (by omega)
        simp only [List.getElem_range] at h2
        refine shape_of_trod hT het (d := (xs[i]'(by omega)).1) (pl := (xs[i]'(by omega)).2) h2 fun x hx => hw x ?_
        simp only [DataW.weights, hu]
        exact weightsAll_mem (List.mem_map.2 ⟨xs[i]'(by omega), List.getElem_mem _, rfl⟩) x hx
       refine ⟨ps, ?_, hc⟩
       simp only [Shape, hu]
       exact ⟨by rw [← hc.len]; exact hlen, hs⟩
   all_goals first
    | (cases h; done)
    | (rename_i hu; exact other _ rfl rfl (by rw [hu]; trivial))
end
end Go.Proofs.YtifohjijhhjdkaaGreatDoor

namespace Go.Proofs.YtifohjijhhjdkaaGreatDoor
open Go.RowKit Go.ChangeShapes Go.WideShapes
set_option linter.unusedVariables false

def ShapeV (P : Program) (t : TypeId) (p : PV) : Prop := ∃ n, match P.underlying t with
 | some (.struct _) | some (.array _ _) => ∃ ps, p = .agg ps ∧ Shape P n t ps
 | _ => Shape P n t [p]
def ShapeVs (P : Program) : List TypeId → List PV → Prop
 | [], [] => True
 | t :: ts, p :: ps => ShapeV P t p ∧ ShapeVs P ts ps
 | _, _ => False

section
variable {H : Type} {enc : TypeId × Value → H} {P : Program} {w : World}

theorem cellsR_single {v : Value} {ps : List PV} (h : CellsR w [v] ps) : ∃ p, ps = [p] ∧ Rep (cellF w) noLoc v p ∧ p.pure := by
 have hl := h.len
 obtain ⟨p, rfl⟩ : ∃ p, ps = [p] := by
  cases ps with
  | nil => simp at hl
  | cons p r => cases r with
    | nil => exact ⟨p, rfl⟩
    | cons _ _ => simp at hl
 exact ⟨p, rfl, by simpa using h.rep 0 (by simp), h.pure.1⟩

theorem okWide_one {t : TypeId} {v : Value} {base : Nat} (hu : match P.underlying t with | some (.struct _) | some (.array _ _) => False | _ => True) (h : Value.okWide P w .any base t v) : v.cells.toList = [v] := by
 cases v with
 | agg cs =>
   exfalso
   unfold Value.okWide at h
   split at h
   · rename_i hu'; rw [hu'] at hu; exact hu
   · rename_i hu'; rw [hu'] at hu; exact hu
   · unfold Cell.okWide at h
     split at h <;> first | (rename_i hv; cases hv; done) | skip
     all_goals first | (cases ‹Value.agg cs = _›; done) | (unfold Cell.ok at h; split at h <;> first | exact h | (cases ‹Value.agg cs = _›; done) | simp_all)
 | _ => rfl

theorem value_rep {G : List TypeId} (hT : tilesB P G = true) {t : TypeId} {v : Value} {d : DataW H} {pl : List MemPlace} {base : Nat} (ht : G.contains t = true) (hok : Value.okWide P w .any base t v) (h : DataW.Trod enc P w 0 (fun _ => true) true t v d pl) (hw : ∀ x ∈ d.weights P t, x ≤ reachBytes) :
 ∃ p, ShapeV P t p ∧ Rep (cellF w) noLoc v p ∧ p.pure := by
 obtain ⟨fuel, h⟩ := h
 obtain ⟨ps, hs, hc⟩ := shape_of_trod hT ht h hw
 cases hu : P.underlying t with
 | none =>
   rw [okWide_one (by rw [hu]; trivial) hok] at hc
   obtain ⟨p, rfl, h1, h2⟩ := cellsR_single hc
   exact ⟨p, ⟨fuel, by rw [hu]; exact hs⟩, h1, h2⟩
 | some dsc =>
   have agg : (∃ cs, v = .agg cs) → ∃ p, (∃ ps, p = .agg ps ∧ Shape P fuel t ps) ∧ Rep (cellF w) noLoc v p ∧ p.pure := by
    rintro ⟨cs, rfl⟩
    have e : ∀ j, cs.getD j undef = cs.toList.getD j undef := fun j => by simp [Array.getD_eq_getD_getElem?, List.getD_eq_getElem?_getD]
    refine ⟨.agg ps, ⟨ps, rfl, hs⟩, .agg cs ps (by rw [← hc.len]; simp [Value.cells]) (fun i hi => ?_) (fun i hi => ?_), hc.pure⟩
    · rw [e]; exact hc.one i hi
    · rw [e]; exact hc.rep i hi
   have one : (match P.underlying t with | some (.struct _) | some (.array _ _) => False | _ => True) → ∃ p, Shape P fuel t [p] ∧ Rep (cellF w) noLoc v p ∧ p.pure := by
    intro hu'
    rw [okWide_one hu' hok] at hc
    obtain ⟨p, rfl, h1, h2⟩ := cellsR_single hc
    exact ⟨p, hs, h1, h2⟩
   have isAgg : (∃ fs, dsc = .struct fs) ∨ (∃ m e, dsc = .array m e) → ∃ cs, v = .agg cs := by
    intro hd
    unfold Value.okWide at hok
    rw [hu] at hok
    rcases hd with ⟨fs, rfl⟩ | ⟨m, e, rfl⟩
    · obtain ⟨cs, h1, _⟩ := hok; exact ⟨cs, h1⟩
    · obtain ⟨cs, h1, _⟩ := hok; exact ⟨cs, h1⟩
   cases dsc with
   | struct fs =>
     obtain ⟨p, h1, h2⟩ := agg (isAgg (.inl ⟨fs, rfl⟩))
     exact ⟨p, ⟨fuel, by rw [hu]; exact h1⟩, h2⟩
   | array m e =>
     obtain ⟨p, h1, h2⟩ := agg (isAgg (.inr ⟨m, e, rfl⟩))
     exact ⟨p, ⟨fuel, by rw [hu]; exact h1⟩, h2⟩
   | _ =>
     obtain ⟨p, h1, h2⟩ := one (by rw [hu]; trivial)
     exact ⟨p, ⟨fuel, by rw [hu]; exact h1⟩, h2⟩

theorem values_rep {G : List TypeId} (hT : tilesB P G = true) : ∀ {ts : List TypeId} {vs : List Value} {ds : List (DataW H)} {pl : List MemPlace}, (∀ t ∈ ts, G.contains t = true) → (∀ (j : Nat) t v, ts[j]? = some t → vs[j]? = some v → ∃ base, Value.okWide P w .any base t v) →
 DataW.TrodAll enc P w 0 (fun _ => true) true ts vs ds pl → (∀ x ∈ DataW.weightsEach P ts ds, x ≤ reachBytes) → ∃ ps, ShapeVs P ts ps ∧ vs.length = ps.length ∧ (∀ i, i < ps.length → Rep (cellF w) noLoc (vs.getD i undef) (ps.getD i pvu)) ∧ pureL ps
 | [], vs, ds, pl, _, _, h, _ => by
   obtain ⟨rfl, rfl, rfl⟩ := trodAll_nil h
   exact ⟨[], trivial, rfl, fun i hi => absurd hi (Nat.not_lt_zero _), trivial⟩
 | t :: ts, vs, ds, pl, hlt, hok, h, hw => by
   obtain ⟨v, vs', d, ds', p, q, rfl, rfl, rfl, h1, h2⟩ := trodAll_cons h
   obtain ⟨base, hv⟩ := hok 0 t v rfl rfl
   obtain ⟨x, hs, hr, hp⟩ := value_rep hT (hlt t (by simp)) hv h1 fun x hx => hw x (by rw [DataW.weightsEach]; exact List.mem_append.2 (.inl hx))
   obtain ⟨ps, hs', hl, hr', hp'⟩ := values_rep hT (fun t ht => hlt t (by simp [ht])) (fun j t v hj hv => hok (j + 1) t v (by simpa using hj) (by simpa using hv)) h2 fun x hx => hw x (by rw [DataW.weightsEach]; exact List.mem_append.2 (.inr hx))
   refine ⟨x :: ps, ⟨hs, hs'⟩, by simp [hl], fun i hi => ?_, hp, hp'⟩
   cases i with
   | zero => simpa using hr
   | succ i => simpa using hr' i (by simpa using hi)

theorem trodAll_stays (hl : laidOutB P = true) {W W' : World} (hb : Below W.heap.size W W') {sp' : Nat → Bool} : ∀ {ts : List TypeId} {vs : List Value} {ds : List (DataW H)} {pl : List MemPlace}, (∀ t ∈ ts, P.readableRec t = true ∧ t < P.types.size) → DataW.TrodAll enc P W 0 (fun _ => true) true ts vs ds pl →
 (∀ x ∈ pl, x.block < W.heap.size) → (∀ x ∈ pl, sp' x.block = true) → DataW.TrodAll enc P W' 0 sp' true ts vs ds pl
 | [], vs, ds, pl, _, h, _, _ => by
   obtain ⟨rfl, rfl, rfl⟩ := trodAll_nil h
   exact rfl
 | t :: ts, vs, ds, pl, hr, h, hlt, hsp => by
   obtain ⟨v, vs', d, ds', p, q, rfl, rfl, rfl, h1, h2⟩ := trodAll_cons h
   obtain ⟨hr1, hr2⟩ := hr t (by simp)
   exact ⟨p, q, WideElems.Trod_stays hl hr1 hr2 h1 (fun x hx => hb.same (hlt x (List.mem_append.2 (.inl hx)))) (fun x hx => hsp x (List.mem_append.2 (.inl hx))),
    trodAll_stays hl hb (fun t ht => hr t (by simp [ht])) h2 (fun x hx => hlt x (List.mem_append.2 (.inr hx))) (fun x hx => hsp x (List.mem_append.2 (.inr hx))), rfl⟩
end

theorem law_contract {H : Type} {enc : TypeId × Value → H} {P : Program} {f : FuncId} {fn : Func} {s : ChangeSpec} {apart fresh handsOn again : Bool} {tb : TypeId} {G : List TypeId} (hT : tilesB P G = true) (hG : ∀ t ∈ fn.params.toList, G.contains t = true) (hl : laidOutB P = true) (hpar : ∀ t ∈ fn.params.toList, P.readableRec t = true ∧ t < P.types.size) (hres : fn.resultTypes = #[tb]) (htb : P.underlying tb = some .bool)
 (hvars : s.vars = []) (hs : ∀ ds : List (DataW H), ds.length = fn.params.size → (s.fn H ds).results = [.lit (.bool true)] ∧ (s.fn H ds).args = ds ∧ (s.fn H ds).vars = []) (hspec : ∀ ps, ShapeVs P fn.params.toList ps → pureL ps → Spec P f ps (· = .val (.bool true)))
 (W : World) (hgl : GlobsIn W) (base : Nat) (args : Array Value) (ds gs : List (DataW H)) (before : List MemPlace) (hval : ∀ (j : Nat) t v, fn.params[j]? = some t → args[j]? = some v → Value.okWide P W .any base t v) (hW : DataW.Whole enc P fn.params.toList s.vars apart W args.toList ds gs before)
 (hwt : (DataW.weightsEach P (fn.params.toList ++ s.plain.varTypes P) (ds ++ gs)).all (· ≤ reachBytes) = true) :
 Calls P f args W fun e W' => ∃ v, e = .returned v ∧ s.post enc P fn apart fresh handsOn again W args v W' := by
 have hW' := hW
 obtain ⟨p, q, hA, hV, rfl, hfz, hnd⟩ := hW
 rw [hvars] at hV
 obtain ⟨rfl, rfl⟩ := trodVars_none hV
 rw [List.append_nil] at hwt
 have hlen : ds.length = fn.params.toList.length := by
  have : ∀ {ts : List TypeId} {vs : List Value} {ds : List (DataW H)} {pl : List MemPlace}, DataW.TrodAll enc P W 0 (fun _ => true) true ts vs ds pl → ds.length = ts.length := by
   intro ts
   induction ts with
   | nil => intro vs ds pl h; obtain ⟨_, rfl, _⟩ := trodAll_nil h; rfl
   | cons t ts ih => intro vs ds pl h; obtain ⟨v, vs', d, ds', p, q, _, rfl, _, _, h2⟩ := trodAll_cons h; simp [ih h2]
  exact this hA
 have hvt : s.plain.varTypes P = [] := by
  simp [ChangeSpec.plain, DataSpec.varTypes, hvars]
 rw [hvt, List.append_nil] at hwt
 obtain ⟨ps, hsh, hpl, hrep, hpure⟩ := values_rep hT hG (fun j t v hj hv => ⟨base, hval j t v (by simpa using hj) (by simpa using hv)⟩) hA (fun x hx => by simpa using List.all_eq_true.1 hwt x hx)
 have e : ∀ j, args.getD j undef = args.toList.getD j undef := fun j => by simp [Array.getD_eq_getD_getElem?, List.getD_eq_getElem?_getD]
 refine ((hspec ps hsh hpure).2 (cellF W) W args (holds_cellF hgl) ⟨by simpa using hpl, fun i hi => by rw [e]; exact hrep i hi⟩).mono ?_
 rintro en W' ⟨v, r, F', rfl, rfl, hvr, hbel, _⟩
 obtain rfl := hvr.val_inv
 obtain ⟨hs1, hs2, hs3⟩ := hs ds (by simpa using hlen)
 have hlt := hW'.lt
 simp only [List.append_nil] at hlt hW' ⊢
 have hstay : ∀ sp' : Nat → Bool, (∀ x ∈ p, sp' x.block = true) → DataW.TrodAll enc P W' 0 sp' true fn.params.toList args.toList ds p := fun sp' hsp => trodAll_stays hl hbel hpar hA hlt hsp
 have hresults : ∀ (b : Nat) (sp : Nat → Bool) (hd : Bool), DataW.TrodAll enc P W' b sp hd fn.resultTypes.toList ((Value.bool true).resultList fn.resultTypes.size) [.lit (.bool true)] [] := fun b sp hd => by
  rw [hres]
  exact trodAll_mk1 (shut_bool htb true)
 refine ⟨_, rfl, ds, [], p, [], p, [], hW', ?_, ?_, ?_, hbel.frame _, fun _ => ⟨ok_one hres rfl (okWide_bool_mk htb true), ?_⟩⟩
 · rw [List.append_nil, hs1]; exact hresults _ _ _
 · rw [List.append_nil, hs2]; exact hstay _ fun x hx => by simpa using hlt x hx
 · rw [List.append_nil, hvars, hs3]; exact rfl
 · refine ⟨_, [], p, ⟨p, [], trodAll_append (p := []) (hstay _ fun _ _ => rfl) (hresults _ _ _), by rw [hvars]; exact rfl, by simp, ?_, by simpa using hnd⟩, fun x hx _ => hx⟩
   intro b off hp
   rw [hbel.frozen (hlt _ hp)]
   exact hfz b off (by simpa using hp)
end Go.Proofs.YtifohjijhhjdkaaGreatDoor

namespace Go.Proofs.YtifohjijhhjdkaaGreatDoor
open Go.ChangeShapes Go.WideShapes Go.ChangeAt Go.RowKit
set_option linter.unusedVariables false

theorem own : ownKnob Tryz.prog.godebug = none := by kernel_rfl
theorem laidOut : laidOutB Tryz.prog = true := by kernel_rfl
def parsOk (P : Program) (ts : List TypeId) : Bool := ts.all fun t => P.readableRec t && decide (t < P.types.size)
def inG (G ts : List TypeId) : Bool := ts.all fun t => G.contains t
theorem inG_of {G ts : List TypeId} (h : inG G ts = true) : ∀ t ∈ ts, G.contains t = true := fun t ht => List.all_eq_true.1 h t ht
theorem parsOk_of {P : Program} {ts : List TypeId} (h : parsOk P ts = true) : ∀ t ∈ ts, P.readableRec t = true ∧ t < P.types.size := fun t ht => by
 have := List.all_eq_true.1 h t ht
 simpa using this

abbrev laidV : List (String × DataW Unit) := [("math/bits.deBruijn64tab", Rows.laid_math_bits_deBruijn64tab)]
set_option maxRecDepth 100000 in
theorem door_met (os : Os) (args : Array Value) : laidMetH Tryz.prog laidV ((World.doorLaid Tryz.prog 400 os).forCall (fun _ _ => 0) ⟨#[], args, []⟩).memory :=
 laidMetH_of_parts3 (fuel := 8) (laidMet_of_run' 8 (by kernel_rfl) (by kernel_rfl)) (by kernel_rfl) (by kernel_rfl)
theorem laid_tab : (Rows.laid_math_bits_deBruijn64tab : DataW Unit) = .agg (tzTab.map fun x => .lit (.int .u8 x)) := rfl
set_option maxRecDepth 100000 in
theorem globs_in {W : World} (h : laidMetH Tryz.prog laidV W) : GlobsIn W := by
 rw [MakeChecks.laidMetH_plain _ _ _ (by kernel_rfl)] at h
 obtain ⟨ps, ⟨g0, t0, cs, f0, p0, q0, hg0, ht0, hv0, hd0, _, _⟩, _, _⟩ := h
 obtain rfl := Option.some.inj ((show Tryz.prog.globalNamed "math/bits.deBruijn64tab" = some 0 by kernel_rfl).symm.trans hg0)
 obtain rfl := Option.some.inj ((show (Tryz.prog.globals[0]?).map (·.type) = some 177 by kernel_rfl).symm.trans ht0)
 obtain ⟨xs, m, rfl, hx, hlen, hn, hel⟩ := DataW.trod_array (show Tryz.prog.underlying 177 = some (.array 64 5) by kernel_rfl) hd0
 have c1 : Tryz.prog.cellsOf 5 = 1 := by kernel_rfl
 have c64 : Tryz.prog.cellsOf 177 = 64 := by kernel_rfl
 simp only [Prod.mk.injEq] at hx
 have hx1 : tzTab.map (fun x => (DataW.lit (.int .u8 x) : DataW Unit)) = xs.map (·.1) := by
  have := hx.1
  rw [laid_tab] at this
  simpa using this
 intro g j v hv
 unfold globs at hv
 cases hb : Nat.beq g 0 with
 | false => rw [hb] at hv; simp at hv
 | true =>
   obtain rfl : g = 0 := Nat.eq_of_beq_eq_true hb
   rw [hb] at hv
   simp only [cond_true, List.getElem?_map] at hv
   have hj : j < 64 := by
    cases hx : tzTab[j]? with
    | none => rw [hx] at hv; cases hv
    | some x => have := (List.getElem?_eq_some_iff.1 hx).1; exact this
   have hj2 : j < tzTab.length := hj
   rw [List.getElem?_eq_getElem hj2] at hv
   simp only [Option.map_some, Option.some.injEq] at hv
   subst hv
   have e1 := congrArg (fun l => l[j]?) hx1
   simp only [List.getElem?_map] at e1
   rw [List.getElem?_eq_getElem hj2, List.getElem?_eq_getElem (show j < xs.length by omega)] at e1
   simp only [Option.map_some, Option.some.injEq] at e1
   have e2 := hel j hj
   rw [List.getElem?_eq_getElem (show j < xs.length by omega), c1] at e2
   obtain ⟨k, h1, h2, _⟩ := DataW.trod_int (show Tryz.prog.underlying 5 = some (.int .u8) by kernel_rfl) e2
   rw [h2] at e1
   simp only [DataW.lit.injEq, Lit.int.injEq, true_and] at e1
   subst e1
   rw [Nat.mul_one] at h1
   rw [World.var?_cell hg0 hv0 j]
   have h3 : cs.toList[j]? = (cs.toList.drop j)[0]? := by simp
   have h4 : (cs.toList.drop j)[0]? = ((cs.toList.drop j).take 1)[0]? := by simp
   rw [← Array.getElem?_toList, h3, h4, h1]
   rfl
end Go.Proofs.YtifohjijhhjdkaaGreatDoor

namespace Go.Proofs.YtifohjijhhjdkaaGreatDoor
open Go.RowKit
set_option linter.unusedVariables false

def intT (P : Program) (t : TypeId) : Option IntKind := match P.underlying t with | some (.int k) => some k | _ => none
def sliceT (P : Program) (t : TypeId) : Option TypeId := match P.underlying t with | some (.slice e) => some e | _ => none
section
variable {P : Program} {t : TypeId} {n : Nat} {ps : List PV} {p : PV}

theorem intT_some {k : IntKind} (h : intT P t = some k) : P.underlying t = some (.int k) := by
 unfold intT at h
 split at h
 · rename_i k' hu; cases h; exact hu
 · cases h
theorem sliceT_some {e : TypeId} (h : sliceT P t = some e) : P.underlying t = some (.slice e) := by
 unfold sliceT at h
 split at h
 · rename_i k' hu; cases h; exact hu
 · cases h
theorem shape_int {k : IntKind} (h : Shape P n t ps) (hk : intT P t = some k) : ∃ m, (Lit.int k m).wf = true ∧ ps = [.val (.int k m)] := by
 cases n with
 | zero => exact h.elim
 | succ n => simpa only [Shape, intT_some hk] using h
theorem shape_slice {e : TypeId} (h : Shape P n t ps) (hk : sliceT P t = some e) : ∃ n' ll fl, ll.length ≤ maxVec ∧ (∀ l ∈ ll, Shape P n' e l) ∧ ps = [.vec ll fl] := by
 cases n with
 | zero => exact h.elim
 | succ n =>
   have : ∃ ll fl, ll.length ≤ maxVec ∧ (∀ l ∈ ll, Shape P n e l) ∧ ps = [.vec ll fl] := by simpa only [Shape, sliceT_some hk] using h
   obtain ⟨ll, fl, h⟩ := this
   exact ⟨n, ll, fl, h⟩
theorem shapeV_slice {e : TypeId} (h : ShapeV P t p) (hk : sliceT P t = some e) : ∃ n' ll fl, ll.length ≤ maxVec ∧ (∀ l ∈ ll, Shape P n' e l) ∧ p = .vec ll fl := by
 obtain ⟨n, h⟩ := h
 rw [sliceT_some hk] at h
 obtain ⟨n', ll, fl, h1, h2, h3⟩ := shape_slice (show Shape P n t [p] from h) hk
 exact ⟨n', ll, fl, h1, h2, by simpa using h3⟩
end
end Go.Proofs.YtifohjijhhjdkaaGreatDoor
