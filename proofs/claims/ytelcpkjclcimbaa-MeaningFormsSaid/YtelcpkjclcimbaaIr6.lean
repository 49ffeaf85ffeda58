/-
  Every operation of the elaborated code does what its reading on abstract values says: memory. For every program; no statement of the seat is proved here.
-/
import Derived.Test.YtelcpkjclcimbaaIr5
namespace Go.Proofs.Ytelcpkjclcimbaa
open Go.RowKit
set_option linter.unusedVariables false
set_option linter.unusedSimpArgs false

section
variable {P : Program} {C : Ctx} {Fr : Nat → Prop} {e : Env} {h : Heap} {F : Froz} {φ : Locs} {a : Act} {w : World}

theorem frozCells (s : St' C Fr e h F φ a w) {v : Value} {l : List PV} (hv : Rep F φ v (.cp l)) : ∃ x : Addr, v = .pointer (some x) ∧ x.spot = none ∧ ∀ j, j < l.length → ∃ c, w.cell? ⟨x.block, x.off + j, none⟩ = some c ∧ c.oneCell' = true ∧ Rep F φ c (l.getD j pvu) := by
  obtain ⟨x, cs, rfl, hs, hF, hR⟩ := hv.cp_inv
  exact ⟨x, rfl, hs, fun j hj => ⟨cs j, (s.froz _ _ (hF j hj)).2.2, (s.froz _ _ (hF j hj)).2.1, hR j hj⟩⟩

theorem cutAt_le {agg : Bool} {size off : Nat} {l : List PV} {p : PV} (h : cutAt agg size off l = some p) : off + size ≤ l.length := by
  unfold cutAt at h
  split at h
  · assumption
  · simp at h

theorem load_run (s : St' C Fr e h F φ a w) {id : Nat} {t : TypeId} {agg : Bool} {size : Nat} (hlay : layOf P t = some (agg, size)) {x : Operand} {p : PV} {h' : Heap} (hd : dEval (.load agg size x) e h id = some (p, h')) :
    OpRun P C Fr e F φ a w (Instr.loadAt t (a.eval x)) id p h' := by
  simp only [dEval] at hd
  split at hd
  · rename_i l hl
    split at hd
    · rename_i q hq
      cases hd
      obtain ⟨ad, hv, hs, hc⟩ := frozCells s (s.eval hl)
      have hle := cutAt_le hq
      obtain ⟨val, hr, hrep⟩ := load_cut (w := w) hlay hs hq (fun j hj => by simpa using hc j (by omega))
      exact OpRun.quiet s (by simp [Instr.loadAt, hv, Instr.sureAddr, hr]) hrep
    · simp at hd
  · rename_i k i off hl
    split at hd
    · rename_i b hb
      split at hd
      case isFalse => simp at hd
      rename_i hi
      split at hd
      · rename_i q hq
        cases hd
        obtain ⟨loc, ad, hloc, hbase, hs, hv⟩ := (s.eval hl).ptr_inv
        have hle := cutAt_le hq
        obtain ⟨loc', h1, h2, _⟩ := s.live k b hb
        obtain rfl : loc' = loc := by rw [h1] at hloc; simpa using hloc
        have hel : (b.elems.getD i []).length = b.esz := by
          rw [h2.esz]
          refine h2.el _ ?_
          simp [List.getD_eq_getElem?_getD, hi]
        obtain ⟨val, hr, hrep⟩ := load_cut (w := w) (ad := ⟨ad.block, ad.off + (i * loc'.esz + off), none⟩) hlay rfl hq (fun j hj => by
          have := s.objCell hb hloc hi (j := off + j) (by omega) hbase
          rw [show ad.off + (i * loc'.esz + (off + j)) = ad.off + (i * loc'.esz + off) + j by omega] at this
          exact this)
        exact OpRun.quiet s (by simp [Instr.loadAt, hv, Instr.sureAddr, hr]) hrep
      · simp at hd
    · simp at hd
  · simp at hd

theorem faddr_run (s : St' C Fr e h F φ a w) {id : Nat} {t : TypeId} {i : Nat} {fs : Array Field} {f : Field} {inf : TypeInfo} (hu : P.underlying t = some (.struct fs)) (hf : fs[i]? = some f) (hi : P.info? f.type = some inf) (hp : 0 < inf.size)
    {x : Operand} {p : PV} {h' : Heap} (hd : dEval (.faddr f.offset x) e h id = some (p, h')) : OpRun P C Fr e F φ a w (Instr.fieldAt t (a.eval x) i) id p h' := by
  have hne : inf.size ≠ 0 := by omega
  have hfp : ∀ ad : Addr, (fieldPlace ad f).run P w = .ok (ad.add f.offset) w := fun ad => by
    simp [fieldPlace, run_sizeOf_of hi, hne]
  simp only [dEval] at hd
  split at hd
  · rename_i l hl
    cases hd
    obtain ⟨ad, cs, hv, hs, hF, hR⟩ := (s.eval hl).cp_inv
    refine OpRun.quiet s (val := .pointer (some (ad.add f.offset))) (by simp [Instr.fieldAt, run_underlying hu, hf, hv, Instr.sureAddr, hfp]) ?_
    rw [add_none _ _ hs]
    refine .cp _ _ (fun j => cs (f.offset + j)) rfl (fun j hj => ?_) (fun j hj => ?_)
    · have : f.offset + j < l.length := by simp at hj; omega
      simpa [Nat.add_assoc] using hF _ this
    · have : f.offset + j < l.length := by simp at hj; omega
      simpa [List.getD_eq_getElem?_getD] using hR _ this
  · rename_i k i0 o hl
    cases hd
    obtain ⟨loc, ad, hloc, hbase, hs, hv⟩ := (s.eval hl).ptr_inv
    refine OpRun.quiet s (val := .pointer (some ⟨ad.block, ad.off + (i0 * loc.esz + (o + f.offset)), none⟩)) (by
      simp [Instr.fieldAt, run_underlying hu, hf, hv, Instr.sureAddr, hfp, Addr.add_lit, Nat.add_assoc]) (.ptr k i0 _ loc ad hloc hbase hs)
  · simp at hd

theorem nilck_run (s : St' C Fr e h F φ a w) {id : Nat} {x : Operand} {p : PV} {h' : Heap} (hd : dEval (.nilck x) e h id = some (p, h')) : h' = h ∧ Rep F φ (a.eval x) p ∧ ((∃ ad, a.eval x = .pointer (some ad)) ∨ ∃ f vs, a.eval x = .func (.func f) #[] vs) := by
  simp only [dEval] at hd
  split at hd
  · rename_i l hl
    cases hd
    obtain ⟨ad, cs, hv, _⟩ := (s.eval hl).cp_inv
    exact ⟨rfl, s.eval hl, .inl ⟨_, hv⟩⟩
  · rename_i k i off hl
    cases hd
    obtain ⟨loc, ad, hloc, hbase, hs, hv⟩ := (s.eval hl).ptr_inv
    exact ⟨rfl, s.eval hl, .inl ⟨_, hv⟩⟩
  · rename_i f l hl
    cases hd
    obtain ⟨vs, hv, _⟩ := (s.eval hl).fn_inv
    exact ⟨rfl, s.eval hl, .inr ⟨_, _, hv⟩⟩
  · simp at hd

theorem field_run (s : St' C Fr e h F φ a w) {id : Nat} {t : TypeId} {i : Nat} {fs : Array Field} {f : Field} {agg : Bool} {size : Nat} (hu : P.underlying t = some (.struct fs)) (hf : fs[i]? = some f) (hlay : layOf P f.type = some (agg, size))
    {x : Operand} {p : PV} {h' : Heap} (hd : dEval (.field agg size f.offset x) e h id = some (p, h')) : OpRun P C Fr e F φ a w (Instr.field t (a.eval x) i) id p h' := by
  simp only [dEval] at hd
  split at hd
  · rename_i l hl
    split at hd
    · rename_i q hq
      cases hd
      obtain ⟨vs, hv, h1, h2, h3⟩ := (s.eval hl).agg_inv
      obtain ⟨val, hr, hrep⟩ := part_cut (w := w) hlay hq h1 h2 h3
      exact OpRun.quiet s (by simp [Instr.field, run_underlying hu, hf, hv, asAgg, hr]) hrep
    · simp at hd
  · simp at hd

theorem iaddr_run (s : St' C Fr e h F φ a w) {id : Nat} {t el : TypeId} {inf : TypeInfo} (hu : P.underlying t = some (.slice el)) (hi : P.info? el = some inf)
    {x i : Operand} {p : PV} {h' : Heap} (hd : dEval (.iaddr inf.size x i) e h id = some (p, h')) : OpRun P C Fr e F φ a w (Instr.indexAt t (a.eval x) (a.eval i)) id p h' := by
  have hel : P.elem t = el := by simp [Program.elem, hu]
  have hu' : P.underlying t = some (.slice (P.elem t)) := by rw [hel]; exact hu
  simp only [dEval] at hd
  split at hd
  · rename_i l full k n hx hn
    split at hd
    case isFalse => simp at hd
    rename_i hb
    split at hd
    case isFalse => simp at hd
    rename_i hlen
    cases hd
    have hvn := (s.eval hn).val_inv
    have hlt : n.toNat < l.length := by omega
    rcases (s.eval hx).vec_inv with ⟨rfl, _⟩ | ⟨ad, cap, esz, cs, hv, hs, hcap, _, _, he, hF, hR⟩
    · simp at hlt
    have hesz : esz = inf.size := by rw [← hlen]; exact (he _ hlt).symm
    subst hesz
    refine OpRun.quiet s (val := .pointer (some (ad.add (n.toNat * inf.size)))) (by
      rw [hv, hvn, run_indexAt_slice w t ad l.length cap k n hu', if_pos hb, hel, run_sizeOf_of hi]; rfl) ?_
    rw [add_none _ _ (hs (by rintro rfl; simp at hlt))]
    refine .cp _ _ (fun j => cs n.toNat j) rfl (fun j hj => ?_) (fun j hj => ?_)
    · have := hF n.toNat j hlt (by omega)
      simpa [Nat.add_assoc] using this
    · exact hR n.toNat j hlt (by omega)
  · rename_i k kk n hx hn
    split at hd
    · rename_i b hb
      split at hd
      case isFalse => simp at hd
      rename_i hbd
      split at hd
      case isFalse => simp at hd
      rename_i hlen
      cases hd
      have hvn := (s.eval hn).val_inv
      obtain ⟨loc, hloc, hv⟩ := (s.eval hx).own_inv
      obtain ⟨loc', h1, h2, _⟩ := s.live k b hb
      obtain rfl : loc' = loc := by rw [h1] at hloc; simpa using hloc
      have hlt : n.toNat < b.elems.length := by omega
      have hl2 := h2.len
      have hc : loc'.cap ≠ 0 := by have := h2.cap; omega
      obtain ⟨ad, hbase, hs, _⟩ := h2.room hc
      have hbd' : 0 ≤ n ∧ n < (loc'.len : Int) := by rw [← hl2]; exact hbd
      refine OpRun.quiet s (val := .pointer (some (ad.add (n.toNat * inf.size)))) (by
        rw [hv, hvn, hbase, run_indexAt_slice w t ad loc'.len loc'.cap kk n hu', if_pos hbd', hel, run_sizeOf_of hi]; rfl) ?_
      rw [add_none _ _ hs]
      have := Rep.ptr (F := F) (φ := φ) k n.toNat 0 loc' ad h1 hbase hs
      rw [← h2.esz, hlen] at this
      simpa using this
    · simp at hd
  · simp at hd

theorem iaddrA_run (s : St' C Fr e h F φ a w) {id : Nat} {t el : TypeId} {n : Nat} {inf : TypeInfo} (hu : P.underlying t = some (.array n el)) (hi : P.info? el = some inf)
    {x i : Operand} {p : PV} {h' : Heap} (hd : dEval (.iaddrA n inf.size x i) e h id = some (p, h')) : OpRun P C Fr e F φ a w (Instr.indexAt t (a.eval x) (a.eval i)) id p h' := by
  have hel : P.elem t = el := by simp [Program.elem, hu]
  have hlen : P.arrayLen t = n := by simp [Program.arrayLen, hu]
  have hu' : P.underlying t = some (.array (P.arrayLen t) (P.elem t)) := by rw [hel, hlen]; exact hu
  simp only [dEval] at hd
  split at hd
  · rename_i l k j hx hn
    split at hd
    case isFalse => simp at hd
    rename_i hb
    cases hd
    have hvn := (s.eval hn).val_inv
    obtain ⟨ad, cs, hv, hs, hF, hR⟩ := (s.eval hx).cp_inv
    refine OpRun.quiet s (val := .pointer (some (ad.add (j.toNat * inf.size)))) (by
      rw [hv, hvn, run_indexAt_array w t ad k j hu', if_pos (by rw [hlen]; exact hb), hel, run_sizeOf_of hi]; rfl) ?_
    rw [add_none _ _ hs]
    refine .cp _ _ (fun q => cs (j.toNat * inf.size + q)) rfl (fun q hq => ?_) (fun q hq => ?_)
    · have : j.toNat * inf.size + q < l.length := by simp at hq; omega
      simpa [Nat.add_assoc] using hF _ this
    · have : j.toNat * inf.size + q < l.length := by simp at hq; omega
      simpa [List.getD_eq_getElem?_getD] using hR _ this
  · rename_i k i0 o kk j hx hn
    split at hd
    case isFalse => simp at hd
    rename_i hb
    cases hd
    have hvn := (s.eval hn).val_inv
    obtain ⟨loc, ad, hloc, hbase, hs, hv⟩ := (s.eval hx).ptr_inv
    refine OpRun.quiet s (val := .pointer (some ⟨ad.block, ad.off + (i0 * loc.esz + (o + j.toNat * inf.size)), none⟩)) (by
      rw [hv, hvn, run_indexAt_array w t _ kk j hu', if_pos (by rw [hlen]; exact hb), hel, run_sizeOf_of hi]
      simp [Addr.add_lit, Nat.add_assoc]) (.ptr k i0 _ loc ad hloc hbase hs)
  · simp at hd

theorem indexA_run (s : St' C Fr e h F φ a w) {id : Nat} {t el : TypeId} {n : Nat} {agg : Bool} {size : Nat} (hu : P.underlying t = some (.array n el)) (hlay : layOf P el = some (agg, size))
    {x i : Operand} {p : PV} {h' : Heap} (hd : dEval (.indexA agg n size x i) e h id = some (p, h')) : OpRun P C Fr e F φ a w (Instr.index t (a.eval x) (a.eval i)) id p h' := by
  have hsz : (sizeOf el).run P w = .ok size w := by
    cases agg with
    | true => obtain ⟨d, inf, _, _, hi, rfl⟩ := layOf_agg hlay; exact run_sizeOf_of hi
    | false => obtain ⟨rfl, d, inf, _, _, hi, h1⟩ := layOf_one hlay; rw [← h1]; exact run_sizeOf_of hi
  simp only [dEval] at hd
  split at hd
  · rename_i l k j hx hn
    split at hd
    case isFalse => simp at hd
    rename_i hb
    split at hd
    · rename_i q hq
      cases hd
      have hvn := (s.eval hn).val_inv
      obtain ⟨vs, hv, h1, h2, h3⟩ := (s.eval hx).agg_inv
      obtain ⟨val, hr, hrep⟩ := part_cut (w := w) hlay hq h1 h2 h3
      exact OpRun.quiet s (by simp [Instr.index, run_underlying hu, hv, hvn, asIntOf, hb, hsz, hr]) hrep
    · simp at hd
  · simp at hd

theorem indexS_run (s : St' C Fr e h F φ a w) {id : Nat} {t : TypeId} (hu : P.underlying t = some .string)
    {x i : Operand} {p : PV} {h' : Heap} (hd : dEval (.indexS x i) e h id = some (p, h')) : OpRun P C Fr e F φ a w (Instr.index t (a.eval x) (a.eval i)) id p h' := by
  simp only [dEval] at hd
  split at hd
  · rename_i str k j hx hn
    split at hd
    case isFalse => simp at hd
    rename_i hb
    cases hd
    have hvn := (s.eval hn).val_inv
    have hv := (s.eval hx).val_inv
    have hlt : j.toNat < str.size := by omega
    refine OpRun.quiet s (val := .int .u8 (str.data.toList.getD j.toNat 0).toNat) ?_ (.val _)
    have hg : str[j.toNat]? = some str[j.toNat] := by simp [hlt]
    simp only [Instr.index, Sem.run_bind, hvn, asIntOf, Sem.run_pure, Result.andThen_ok, run_underlying hu, hv]
    rw [if_pos hb.1, hg]
    have : str.data.toList.getD j.toNat 0 = str[j.toNat] := by
      rw [List.getD_eq_getElem?_getD, Array.getElem?_toList]
      have h1 : j.toNat < str.data.size := hlt
      rw [Array.getElem?_eq_getElem h1]
      rfl
    simp only [Sem.run_pure, Result.andThen_ok, this]
  · simp at hd

theorem len_run (s : St' C Fr e h F φ a w) {id : Nat} {t ty el : TypeId} (hu : P.underlying t = some (.slice el))
    {x : Operand} {p : PV} {h' : Heap} (hd : dEval (.len x) e h id = some (p, h')) : OpRun P C Fr e F φ a w (Builtin.len_ #[t] ty #[a.eval x]) id p h' := by
  simp only [dEval] at hd
  split at hd
  · rename_i l full hx
    cases hd
    rcases (s.eval hx).vec_inv with ⟨rfl, hv⟩ | ⟨ad, cap, esz, cs, hv, _⟩
    · exact OpRun.quiet s (val := .int .i64 0) (by simp [Builtin.len_, run_underlying hu, hv, goInt]) (.val _)
    · exact OpRun.quiet s (val := .int .i64 l.length) (by simp [Builtin.len_, run_underlying hu, hv, goInt]) (.val _)
  · rename_i k hx
    split at hd
    · rename_i b hb
      cases hd
      obtain ⟨loc, hloc, hv⟩ := (s.eval hx).own_inv
      obtain ⟨loc', h1, h2, _⟩ := s.live k b hb
      obtain rfl : loc' = loc := by rw [h1] at hloc; simpa using hloc
      exact OpRun.quiet s (val := .int .i64 b.elems.length) (by simp [Builtin.len_, run_underlying hu, hv, goInt, ← h2.len]) (.val _)
    · simp at hd
  · simp at hd

theorem lenS_run (s : St' C Fr e h F φ a w) {id : Nat} {t ty : TypeId} (hu : P.underlying t = some .string)
    {x : Operand} {p : PV} {h' : Heap} (hd : dEval (.lenS x) e h id = some (p, h')) : OpRun P C Fr e F φ a w (Builtin.len_ #[t] ty #[a.eval x]) id p h' := by
  simp only [dEval] at hd
  split at hd
  · rename_i str hx
    cases hd
    have hv := (s.eval hx).val_inv
    exact OpRun.quiet s (val := .int .i64 str.size) (by simp [Builtin.len_, run_underlying hu, hv, goInt]) (.val _)
  · simp at hd

theorem bslice_run (s : St' C Fr e h F φ a w) {id : Nat} (hid : Fr id) {t el : TypeId} {z : List Value} {n : Nat} {parts : Array (Nat × Operand)} (hu : P.underlying t = some (.slice el)) (hz : zeroOf P el = some z) (hle : n * z.length ≤ 16777216)
    {l : List (List PV)} (hb : buildS e z.length (List.replicate n (zpv z)) parts.toList = some l) :
    ∃ vs' : Array Value, (Instr.buildSlice t n (parts.map fun (i, x) => (i, a.eval x))).run P w = .ok (.slice (some ⟨w.heap.size, 0, none⟩) n n) (w.alloc (.cells vs' el)) ∧ NCells F φ z.length vs' l ∧ l.length = n := by
  obtain ⟨i, v, hi, hv, rfl, h1, hl, hp⟩ := zeroOf_spec hz
  have hl' : i.size = v.cells.size := by simpa using hl.symm
  obtain ⟨vs', hfill, hc, hlen⟩ := fill_rows s v.cells.toList.length parts.toList _ _ _ (NCells.zero (F := F) (φ := φ) h1 n) hb
  refine ⟨vs', ?_, hc, by simpa using hlen⟩
  have hfill' : Instr.fill (fun j => some (j * i.size, i.size)) ((Array.range (n * i.size)).map (v.cells[· % v.cells.size]!)) (parts.toList.map fun (i, x) => (i, a.eval x)) = some vs' := by
    rw [← hfill]
    simp only [Array.toArray_toList, hl]
    rw [hl']
  have hnle : ¬ (16777216 < n * i.size) := by rw [← hl]; omega
  simp only [Instr.buildSlice, Sem.run_bind, run_underlying hu, Result.andThen_ok, run_sizeOf_of hi, Nat.reducePow]
  rw [if_neg (by simpa using hnle)]
  by_cases hn : n * i.size = 0
  · rw [if_pos hn]
    rw [hn] at hfill' ⊢
    simp only [Array.range_zero', List.map_toArray, List.map_nil] at hfill'
    simp [Array.range_zero', hfill', newRow]
  · rw [if_neg hn]
    simp [run_zeroValue_of hi hv, hfill', newRow]
end
end Go.Proofs.Ytelcpkjclcimbaa
