/-
  Every operation of the elaborated code does what its reading on abstract values says: all of them. For every program; no statement of the seat is proved here.
-/
import Derived.Test.YtelcpkjclcimbaaIr8
namespace Go.Proofs.Ytelcpkjclcimbaa
open Go.RowKit
set_option linter.unusedVariables false
set_option linter.unusedSimpArgs false

section
variable {P : Program} {C : Ctx} {Fr : Nat → Prop} {e : Env} {h : Heap} {F : Froz} {φ : Locs} {a : Act} {w : World}

def OpDone (P : Program) (C : Ctx) (Fr : Nat → Prop) (e : Env) (a : Act) (w : World) (s : Sem Next) (id : Nat) (v : PV) (h' : Heap) : Prop :=
  ∃ r val w' F' φ', s.run P w = .ok r w' ∧ (r = .value val ∨ (r = .skip ∧ val = undef)) ∧ St' C (fun i => Fr i ∧ (h' id ≠ none → i ≠ id)) e h' F' φ' a w' ∧ Rep F' φ' val v

theorem OpRun.done {m : Sem Value} {id : Nat} {v : PV} {h' : Heap} (hr : OpRun P C Fr e F φ a w m id v h') : OpDone P C Fr e a w (do pure (.value (← m))) id v h' := by
  obtain ⟨val, w', F', φ', h1, h2, h3⟩ := hr
  exact ⟨_, val, w', F', φ', by simp [h1], .inl rfl, h2, h3⟩

theorem OpDone.quiet (s : St' C Fr e h F φ a w) {m : Sem Next} {val : Value} {v : PV} {id : Nat} (hr : m.run P w = .ok (.value val) w) (hv : Rep F φ val v) : OpDone P C Fr e a w m id v h :=
  ⟨_, val, w, F, φ, hr, .inl rfl, s.weaken fun _ h => h.1, hv⟩

theorem mapM_places (fs : Array Field) (hall : ∀ f ∈ fs.toList, ∃ inf, P.info? f.type = some inf) :
    (fs.mapM (m := Sem) fun f => do pure (f.offset, ← sizeOf f.type)).run P w = .ok ((fs.toList.map fun f => (f.offset, P.cellsOf f.type)).toArray) w := by
  rw [Array.mapM_eq_mapM_toList]
  have : ∀ (l : List Field), (∀ f ∈ l, ∃ inf, P.info? f.type = some inf) → (l.mapM (m := Sem) fun f => do pure (f.offset, ← sizeOf f.type)).run P w = .ok (l.map fun f => (f.offset, P.cellsOf f.type)) w := by
    intro l
    induction l with
    | nil => intro _; rfl
    | cons f r ih =>
      intro hl
      obtain ⟨inf, hi⟩ := hl f (by simp)
      have ih' := ih fun g hg => hl g (by simp [hg])
      simp only [List.mapM_cons, Sem.run_bind, run_sizeOf_of hi, Result.andThen_ok, Sem.run_pure, ih', List.map_cons, Program.cellsOf, hi, Option.map_some, Option.getD_some]
  simp only [Sem.run_map, this _ hall, Result.andThen_ok]

theorem build_run (s : St' C Fr e h F φ a w) {id : Nat} {t : TypeId} {z : List Value} {fs : Array Field} {parts : Array (Nat × Operand)} {qs : List (Nat × Nat × Operand)} (hz : zeroOf P t = some z) (hu : P.underlying t = some (.struct fs)) (hall : ∀ f ∈ fs.toList, ∃ inf, P.info? f.type = some inf)
    (hq : partsOf P fs parts.toList = some qs) {p : PV} {h' : Heap} (hd : dEval (.build z qs) e h id = some (p, h')) : OpRun P C Fr e F φ a w (Instr.build t (parts.map fun (i, x) => (i, a.eval x))) id p h' := by
  obtain ⟨i, v, hi, hv, rfl, h1, hl, hp⟩ := zeroOf_spec hz
  simp only [dEval] at hd
  split at hd
  case h_2 => simp at hd
  rename_i l hl
  cases hd
  obtain ⟨vs', hfill, hc⟩ := fill_build s (fs := fs) (places := (fs.toList.map fun f => (f.offset, P.cellsOf f.type)).toArray) (fun i f inf hf hi => by
    simp [hf, Program.cellsOf, hi]) parts.toList qs _ _ _ hq (Cells.zero h1) hl
  refine OpRun.quiet s (val := .agg vs') ?_ hc.rep
  simp only [Instr.build, Sem.run_bind, run_zeroValue_of hi hv, Result.andThen_ok, run_underlying hu, mapM_places fs hall, Array.toList_map, hfill, Sem.run_pure]

theorem buildA_run (s : St' C Fr e h F φ a w) {id : Nat} {t el : TypeId} {n : Nat} {z : List Value} {inf : TypeInfo} {parts : Array (Nat × Operand)} (hz : zeroOf P t = some z) (hu : P.underlying t = some (.array n el)) (hinf : P.info? el = some inf)
    {p : PV} {h' : Heap} (hd : dEval (.build z (parts.toList.map fun (k, x) => (k * inf.size, inf.size, x))) e h id = some (p, h')) : OpRun P C Fr e F φ a w (Instr.build t (parts.map fun (i, x) => (i, a.eval x))) id p h' := by
  obtain ⟨i, v, hi, hv, rfl, h1, hl, hp⟩ := zeroOf_spec hz
  simp only [dEval] at hd
  split at hd
  case h_2 => simp at hd
  rename_i l hl
  cases hd
  obtain ⟨vs', hfill, hc⟩ := fill_same s inf.size parts.toList _ _ _ (Cells.zero h1) hl
  refine OpRun.quiet s (val := .agg vs') ?_ hc.rep
  simp only [Instr.build, Sem.run_bind, run_zeroValue_of hi hv, Result.andThen_ok, run_underlying hu, run_sizeOf_of hinf, Array.toList_map, hfill, Sem.run_pure]

theorem list1 {α : Type} {x : α} {l : Array α} (h : l.toList = [x]) : l = #[x] := by
  apply Array.ext'; simpa using h
theorem list2 {α : Type} {x y : α} {l : Array α} (h : l.toList = [x, y]) : l = #[x, y] := by
  apply Array.ext'; simpa using h

theorem lenA_run (s : St' C Fr e h F φ a w) {id : Nat} {t t' ty el : TypeId} {n : Nat} (hu : P.underlying t = some (.array n el) ∨ (P.underlying t = some (.pointer t') ∧ P.underlying t' = some (.array n el))) (x : Operand) :
    OpRun P C Fr e F φ a w (Builtin.len_ #[t] ty #[a.eval x]) id (.val (.int .i64 n)) h := by
  rcases hu with hu | ⟨hu, hu'⟩
  · exact OpRun.quiet s (val := .int .i64 n) (by simp [Builtin.len_, run_underlying hu, goInt]) (.val _)
  · exact OpRun.quiet s (val := .int .i64 n) (by simp [Builtin.len_, run_underlying hu, run_underlying hu', goInt]) (.val _)

set_option maxHeartbeats 1000000 in
theorem op_sound {o : Oper} {op : AOp} (hc : cOp P o = some op) (s : St' C Fr e h F φ a w) {id : Nat} (hid : Fr id) {p : PV} {h' : Heap} (hd : dEval op e h id = some (p, h') ∨ fEval op e h id = some (p, h')) :
    OpDone P C Fr e a w (execOp a.eval o) id p h' := by
  unfold cOp at hc
  split at hc
  case h_1 x ho => -- move
    cases hc
    rcases hd with hd | hd
    · simp only [dEval] at hd
      split at hd
      · rename_i q hq
        cases hd
        exact OpDone.quiet s (by simp [execOp, ho]) (s.eval hq)
      · simp at hd
    · simp [fEval] at hd
  case h_2 x ho => -- assign
    cases hc
    rcases hd with hd | hd
    · simp only [dEval] at hd
      split at hd
      · rename_i q hq
        cases hd
        exact OpDone.quiet s (by simp [execOp, ho]) (s.eval hq)
      · simp at hd
    · simp [fEval] at hd
  case h_3 c x y ho => -- pick
    cases hc
    rcases hd with hd | hd
    · simp only [dEval] at hd
      split at hd
      · rename_i hcv
        split at hd
        · rename_i q hq
          cases hd
          have hv := (s.eval hcv).val_inv
          exact OpDone.quiet s (val := a.eval x) (by simp [execOp, ho, hv, asBool]) (s.eval hq)
        · simp at hd
      · rename_i hcv
        split at hd
        · rename_i q hq
          cases hd
          have hv := (s.eval hcv).val_inv
          exact OpDone.quiet s (val := a.eval y) (by simp [execOp, ho, hv, asBool]) (s.eval hq)
        · simp at hd
      · simp at hd
    · simp [fEval] at hd
  case h_4 bop t x y yt ho => -- binOp
    have key : ∀ (d : TypeDesc) (c : BC), P.underlying t = some d → bcOf d = some c → op = .bin bop c x y → OpDone P C Fr e a w (execOp a.eval o) id p h' := by
      intro d c hu hb hop
      subst hop
      rcases hd with hd | hd
      · simp only [dEval] at hd
        split at hd
        · rename_i q r hq hr
          split at hd
          · rename_i v hv
            cases hd
            obtain ⟨val, hrun, hrep⟩ := pbin_run (x := x) (y := y) (w := w) hu hb (s.eval hq) (s.eval hr) hv
            have hex : execOp a.eval o = (do pure (.value (← (do eqGuard bop t x y (a.eval x) (a.eval y); binOp bop t (a.eval x) (a.eval y) : Sem Value)))) := by simp only [execOp, ho]
            exact OpDone.quiet s (val := val) (by rw [hex, Sem.run_bind, hrun]; rfl) hrep
          · simp at hd
        · simp at hd
      · simp [fEval] at hd
    split at hc
    · rename_i k hu; cases hc; exact key _ _ hu rfl rfl
    · rename_i hu; cases hc; exact key _ _ hu rfl rfl
    · rename_i hu; cases hc; exact key _ _ hu rfl rfl
    · rename_i el hu; cases hc; exact key _ _ hu rfl rfl
    · simp at hc
  case h_5 uop t x ho => -- unOp
    cases hc
    rcases hd with hd | hd
    · simp only [dEval] at hd
      split at hd
      · rename_i q hq
        split at hd
        · rename_i v hv
          cases hd
          obtain ⟨val, hrun, hrep⟩ := puna_run (P := P) (w := w) (s.eval hq) hv
          exact OpDone.quiet s (by simp [execOp, ho, hrun]) hrep
        · simp at hd
      · simp at hd
    · simp [fEval] at hd
  case h_6 src dst x ho => -- convert
    split at hc
    · rename_i k k' hu hu'
      cases hc
      rcases hd with hd | hd
      · simp only [dEval] at hd
        split at hd
        · rename_i k2 n hx
          cases hd
          have hv := (s.eval hx).val_inv
          exact OpDone.quiet s (val := .int k' (k'.wrap n)) (by simp [execOp, ho, hv, convert, run_underlying hu, run_underlying hu', Conv.intToInt]) (.val _)
        · simp at hd
      · simp [fEval] at hd
    · simp at hc
  case h_7 t ho => -- alloc
    cases hz : zeroOf P t with
    | none => simp [hz] at hc
    | some z =>
      obtain rfl : AOp.alloc z = op := by simpa [hz] using hc
      have hex : execOp a.eval o = (do pure (.value (← Instr.alloc t true (.tuple #[])))) := by simp [execOp, ho]
      rw [hex]
      rcases hd with hd | hd
      · simp only [dEval] at hd; cases hd
        exact (alloc_run s hid hz _).done
      · simp only [fEval] at hd; cases hd
        exact (allocF_run s id hz _).done
  case h_8 t x ho => -- box
    cases hc
    have hex : execOp a.eval o = (do pure (.value (← Instr.box t (a.eval x)))) := by simp [execOp, ho]
    rw [hex]
    rcases hd with hd | hd
    · simp only [dEval] at hd
      split at hd
      · rename_i q hq
        split at hd
        · rename_i hcond
          simp only [Bool.and_eq_true, decide_eq_true_eq] at hcond
          cases hd
          exact (box_run s hid (s.eval hq) hcond.1 hcond.2).done
        · simp at hd
      · simp at hd
    · simp only [fEval] at hd
      split at hd
      · rename_i q hq
        split at hd
        · rename_i hcond
          simp only [Bool.and_eq_true, decide_eq_true_eq] at hcond
          cases hd
          exact (boxF_run s id (s.eval hq) hcond.1).done
        · simp at hd
      · simp at hd
  case h_9 t parts ho => -- build
    have hex : execOp a.eval o = (do pure (.value (← Instr.build t (parts.map fun (i, x) => (i, a.eval x))))) := by simp [execOp, ho]
    rw [hex]
    split at hc
    · rename_i z fs hz hu
      split at hc
      case isFalse => simp at hc
      rename_i hall
      cases hq : partsOf P fs parts.toList with
      | none => simp [hq] at hc
      | some qs =>
        obtain rfl : AOp.build z qs = op := by simpa [hq] using hc
        rcases hd with hd | hd
        · refine (build_run s hz hu (fun f hf => ?_) hq hd).done
          have := List.all_eq_true.1 hall f hf
          exact Option.isSome_iff_exists.1 this
        · simp [fEval] at hd
    · rename_i z n el hz hu
      split at hc
      · rename_i inf hinf
        cases hc
        rcases hd with hd | hd
        · exact (buildA_run s hz hu hinf hd).done
        · simp [fEval] at hd
      · simp at hc
    · simp at hc
  case h_10 t n parts ho => -- buildSlice
    have hex : execOp a.eval o = (do pure (.value (← Instr.buildSlice t n (parts.map fun (i, x) => (i, a.eval x))))) := by simp [execOp, ho]
    rw [hex]
    split at hc
    · rename_i el hu
      split at hc
      · rename_i z hz
        split at hc
        case isFalse => simp at hc
        rename_i hle
        cases hc
        rcases hd with hd | hd
        · simp only [dEval] at hd
          split at hd
          · rename_i l hl
            cases hd
            exact (bsliceV_run s hid hu hz hle hl).done
          · simp at hd
        · simp only [fEval] at hd
          split at hd
          · rename_i l hl
            cases hd
            exact (bsliceO_run s hid hu hz hle hl).done
          · simp at hd
      · simp at hc
    · simp at hc
  case h_11 t x ho => -- load
    have hex : execOp a.eval o = (do pure (.value (← Instr.loadAt t (a.eval x)))) := by simp [execOp, ho]
    rw [hex]
    cases hl : layOf P t with
    | none => simp [hl] at hc
    | some l =>
      obtain rfl : AOp.load l.1 l.2 x = op := by simpa [hl] using hc
      rcases hd with hd | hd
      · exact (load_run s hl hd).done
      · simp [fEval] at hd
  case h_12 t x y ho => -- store
    have hex : execOp a.eval o = (do Instr.storeAt t (a.eval x) (a.eval y); pure .skip) := by simp [execOp, ho]
    rw [hex]
    cases hl : layOf P t with
    | none => simp [hl] at hc
    | some l =>
      obtain rfl : AOp.store l.2 x y = op := by simpa [hl] using hc
      rcases hd with hd | hd
      · obtain ⟨rfl, w', hr, s'⟩ := store_run s hl hd
        exact ⟨.skip, undef, w', F, φ, by simp [hr], .inr ⟨rfl, rfl⟩, s'.weaken fun _ h => h.1, .val _⟩
      · simp [fEval] at hd
  case h_13 x ho => -- nilCheck
    cases hc
    rcases hd with hd | hd
    · obtain ⟨rfl, hr, hv⟩ := nilck_run s hd
      rcases hv with ⟨ad, hv⟩ | ⟨f, vs, hv⟩
      · exact OpDone.quiet s (val := a.eval x) (by simp [execOp, ho, hv]) hr
      · exact OpDone.quiet s (val := a.eval x) (by simp [execOp, ho, hv]) hr
    · simp [fEval] at hd
  case h_14 t x i ho => -- fieldAddr
    have hex : execOp a.eval o = (do pure (.value (← Instr.fieldAt t (a.eval x) i))) := by simp [execOp, ho]
    rw [hex]
    split at hc
    case h_2 => simp at hc
    rename_i fs hu
    split at hc
    case h_2 => simp at hc
    rename_i f hf
    split at hc
    case h_2 => simp at hc
    rename_i inf hi
    split at hc
    case isFalse => simp at hc
    rename_i hp
    cases hc
    rcases hd with hd | hd
    · exact (faddr_run s hu hf hi hp hd).done
    · simp [fEval] at hd
  case h_15 t x i ho => -- field
    have hex : execOp a.eval o = (do pure (.value (← Instr.field t (a.eval x) i))) := by simp [execOp, ho]
    rw [hex]
    split at hc
    case h_2 => simp at hc
    rename_i fs hu
    split at hc
    case h_2 => simp at hc
    rename_i f hf
    cases hl : layOf P f.type with
    | none => simp [hl] at hc
    | some l =>
      obtain rfl : AOp.field l.1 l.2 f.offset x = op := by simpa [hl] using hc
      rcases hd with hd | hd
      · exact (field_run s hu hf hl hd).done
      · simp [fEval] at hd
  case h_16 t x i ho => -- indexAddr
    have hex : execOp a.eval o = (do pure (.value (← Instr.indexAt t (a.eval x) (a.eval i)))) := by simp [execOp, ho]
    rw [hex]
    split at hc
    · rename_i el hu
      cases hi : P.info? el with
      | none => simp [hi] at hc
      | some inf =>
        obtain rfl : AOp.iaddr inf.size x i = op := by simpa [hi] using hc
        rcases hd with hd | hd
        · exact (iaddr_run s hu hi hd).done
        · simp [fEval] at hd
    · rename_i n el hu
      cases hi : P.info? el with
      | none => simp [hi] at hc
      | some inf =>
        obtain rfl : AOp.iaddrA n inf.size x i = op := by simpa [hi] using hc
        rcases hd with hd | hd
        · exact (iaddrA_run s hu hi hd).done
        · simp [fEval] at hd
    · simp at hc
  case h_17 t x i ho => -- index
    have hex : execOp a.eval o = (do pure (.value (← Instr.index t (a.eval x) (a.eval i)))) := by simp [execOp, ho]
    rw [hex]
    split at hc
    · rename_i n el hu
      cases hl : layOf P el with
      | none => simp [hl] at hc
      | some l =>
        obtain rfl : AOp.indexA l.1 n l.2 x i = op := by simpa [hl] using hc
        rcases hd with hd | hd
        · exact (indexA_run s hu hl hd).done
        · simp [fEval] at hd
    · rename_i hu
      cases hc
      rcases hd with hd | hd
      · exact (indexS_run s hu hd).done
      · simp [fEval] at hd
    · simp at hc
  case h_18 t x y ho => -- makeSlice
    have hex : execOp a.eval o = (do pure (.value (← Instr.makeSlice t (a.eval x) (a.eval y)))) := by simp [execOp, ho]
    rw [hex]
    split at hc
    case h_2 => simp at hc
    rename_i el hu
    split at hc
    case h_2 => simp at hc
    rename_i z i hz hi
    split at hc
    case isFalse => simp at hc
    rename_i hby
    cases hc
    rcases hd with hd | hd
    · exact (mslice_run s hid hu hz hi hby hd).done
    · simp [fEval] at hd
  case h_19 t x lo hi mx ho => -- slice
    have hex : execOp a.eval o = (do pure (.value (← Instr.sliceAt t (a.eval x) (lo.map a.eval) (hi.map a.eval) (mx.map a.eval)))) := by simp [execOp, ho]
    rw [hex]
    split at hc
    case h_2 => simp at hc
    rename_i el hu
    cases hi' : P.info? el with
    | none => simp [hi'] at hc
    | some inf =>
      obtain rfl : AOp.slc inf.size x lo hi mx = op := by simpa [hi'] using hc
      rcases hd with hd | hd
      · exact (slc_run s hid hu hi' hd).done
      · simp [fEval] at hd
  case h_20 f first caps ho => -- makeFunc
    split at hc
    case isFalse => simp at hc
    rename_i hfirst
    cases hc
    have hf0 : first = #[] := by simpa using hfirst
    subst hf0
    have hex : execOp a.eval o = (do pure (.value (← Instr.makeFunc (.func f) (#[].map a.eval) (caps.map a.eval)))) := by simp [execOp, ho]
    rw [hex]
    rcases hd with hd | hd
    · exact (mkfn_run s hd).done
    · simp [fEval] at hd
  case h_21 x i ho => -- extract
    cases hc
    have hex : execOp a.eval o = (do pure (.value (← Instr.extract (a.eval x) i))) := by simp [execOp, ho]
    rw [hex]
    rcases hd with hd | hd
    · exact (extract_run s hd).done
    · simp [fEval] at hd
  case h_22 c ho => -- call
    split at hc
    · cases hc
      rcases hd with hd | hd
      · simp [dEval] at hd
      · simp [fEval] at hd
    · rename_i hcal -- len
      split at hc
      case h_2 => simp at hc
      rename_i t x ht hx
      have ha : c.args = #[x] := list1 hx
      have hat : c.argTypes = #[t] := list1 ht
      have hex : execOp a.eval o = (do pure (.value (← Builtin.len_ #[t] o.type #[a.eval x]))) := by simp [execOp, ho, resolve, hcal, invoke, builtin, ha, hat]
      rw [hex]
      split at hc
      · rename_i el hu
        cases hc
        rcases hd with hd | hd
        · exact (len_run s hu hd).done
        · simp [fEval] at hd
      · rename_i hu
        cases hc
        rcases hd with hd | hd
        · exact (lenS_run s hu hd).done
        · simp [fEval] at hd
      · rename_i n el hu
        cases hc
        rcases hd with hd | hd
        · simp only [dEval] at hd; cases hd
          exact (lenA_run (t' := 0) s (.inl hu) x).done
        · simp [fEval] at hd
      · rename_i t' hu
        split at hc
        · rename_i n el hu'
          cases hc
          rcases hd with hd | hd
          · simp only [dEval] at hd; cases hd
            exact (lenA_run s (.inr ⟨hu, hu'⟩) x).done
          · simp [fEval] at hd
        · simp at hc
      · simp at hc
    · rename_i hcal -- append
      split at hc
      case h_2 => simp at hc
      rename_i t u x y ht hx
      have ha : c.args = #[x, y] := list2 hx
      have hat : c.argTypes = #[t, u] := list2 ht
      have hex : execOp a.eval o = (do pure (.value (← Builtin.append_ #[t, u] o.type #[a.eval x, a.eval y]))) := by simp [execOp, ho, resolve, hcal, invoke, builtin, ha, hat]
      rw [hex]
      split at hc
      case h_2 => simp at hc
      rename_i el el2 hu hux
      split at hc
      case h_2 => simp at hc
      rename_i z i hz hi
      split at hc
      case isFalse => simp at hc
      rename_i hby
      cases hc
      rcases hd with hd | hd
      · exact (append_run s hid hu hux hz hi hby hd).done
      · exact (appendF_run s id hu hux hz hi hby hd).done
    · rename_i hcal -- max
      split at hc
      case h_2 => simp at hc
      rename_i x y hx
      cases hc
      have ha : c.args = #[x, y] := list2 hx
      have hex : execOp a.eval o = (do pure (.value (← Builtin.max_ c.argTypes o.type #[a.eval x, a.eval y]))) := by simp [execOp, ho, resolve, hcal, invoke, builtin, ha]
      rw [hex]
      rcases hd with hd | hd
      · exact (mx_run s hd).done
      · simp [fEval] at hd
    · rename_i hcal -- copy
      split at hc
      case h_2 => simp at hc
      rename_i t u x y ht hx
      have ha : c.args = #[x, y] := list2 hx
      have hat : c.argTypes = #[t, u] := list2 ht
      have hex : execOp a.eval o = (do pure (.value (← Builtin.copy_ #[t, u] o.type #[a.eval x, a.eval y]))) := by simp [execOp, ho, resolve, hcal, invoke, builtin, ha, hat]
      rw [hex]
      split at hc
      case h_2 => simp at hc
      rename_i el el2 hu hux
      split at hc
      case h_2 => simp at hc
      rename_i i hi
      cases hc
      rcases hd with hd | hd
      · exact (copy_run s hu hux hi hd).done
      · simp [fEval] at hd
    · rename_i hcal -- min
      split at hc
      case h_2 => simp at hc
      rename_i x y hx
      cases hc
      have ha : c.args = #[x, y] := list2 hx
      have hex : execOp a.eval o = (do pure (.value (← Builtin.min_ c.argTypes o.type #[a.eval x, a.eval y]))) := by simp [execOp, ho, resolve, hcal, invoke, builtin, ha]
      rw [hex]
      rcases hd with hd | hd
      · exact (mn_run s hd).done
      · simp [fEval] at hd
    · simp at hc
  · simp at hc
end
end Go.Proofs.Ytelcpkjclcimbaa
