/-
  Merged from the texts that this claim's theorem needs, part 5 of 7. No statement of the seat is proved here.
-/
import Derived.LaidMore
import Derived.OpenShut
import Derived.ProofKit
import Derived.Test.YtifohjijhhjdkaaDoorRows
import Derived.Test.YtifohjijhhjdkaaDoorMq3
set_option linter.unusedSimpArgs false
set_option linter.unusedVariables false
set_option linter.unusedSectionVars false

namespace Go.Proofs.YtifohjijhhjdkaaDoor
open Go.RowKit Go.ChangeShapes Go.WideShapes
set_option linter.unusedVariables false

def ShapeV (P : Program) (t : TypeId) (p : PV) : Prop := ∃ n, match P.underlying t with
 | some (.struct _) | some (.array _ _) => ∃ ps, p = .agg ps ∧ Shape P n t ps
 | _ => Shape P n t [p]
def ShapeVs (P : Program) : List TypeId → List PV → Prop
 | [], [] => True
 | t :: ts, p :: ps => ShapeV P t p ∧ ShapeVs P ts ps
 | _, _ => False

section
variable {H : Type} {enc : TypeId × Value → H} {P : Program} {w : World}

theorem cellsR_single {v : Value} {ps : List PV} (h : CellsR w [v] ps) : ∃ p, ps = [p] ∧ Rep (cellF w) noLoc v p ∧ p.pure := by
 have hl := h.len
 obtain ⟨p, rfl⟩ : ∃ p, ps = [p] := by
  cases ps with
  | nil => simp at hl
  | cons p r => cases r with
    | nil => exact ⟨p, rfl⟩
    | cons _ _ => simp at hl
 exact ⟨p, rfl, by simpa using h.rep 0 (by simp), h.pure.1⟩

theorem okWide_one {t : TypeId} {v : Value} {base : Nat} (hu : match P.underlying t with | some (.struct _) | some (.array _ _) => False | _ => True) (h : Value.okWide P w .any base t v) : v.cells.toList = [v] := by
 cases v with
 | agg cs =>
   exfalso
   unfold Value.okWide at h
   split at h
   · rename_i hu'; rw [hu'] at hu; exact hu
   · rename_i hu'; rw [hu'] at hu; exact hu
   · unfold Cell.okWide at h
     split at h <;> first | (rename_i hv; cases hv; done) | skip
     all_goals first | (cases ‹Value.agg cs = _›; done) | (unfold Cell.ok at h; split at h <;> first | exact h | (cases ‹Value.agg cs = _›; done) | simp_all)
 | _ => rfl

theorem value_rep {G : List TypeId} (hT : tilesB P G = true) {t : TypeId} {v : Value} {d : DataW H} {pl : List MemPlace} {base : Nat} (ht : G.contains t = true) (hok : Value.okWide P w .any base t v) (h : DataW.Trod enc P w 0 (fun _ => true) true t v d pl) (hw : ∀ x ∈ d.weights P t, x ≤ reachBytes) :
 ∃ p, ShapeV P t p ∧ Rep (cellF w) noLoc v p ∧ p.pure := by
 obtain ⟨fuel, h⟩ := h
 obtain ⟨ps, hs, hc⟩ := shape_of_trod hT ht h hw
 cases hu : P.underlying t with
 | none =>
   rw [okWide_one (by rw [hu]; trivial) hok] at hc
   obtain ⟨p, rfl, h1, h2⟩ := cellsR_single hc
   exact ⟨p, ⟨fuel, by rw [hu]; exact hs⟩, h1, h2⟩
 | some dsc =>
   have agg : (∃ cs, v = .agg cs) → ∃ p, (∃ ps, p = .agg ps ∧ Shape P fuel t ps) ∧ Rep (cellF w) noLoc v p ∧ p.pure := by
    rintro ⟨cs, rfl⟩
    have e : ∀ j, cs.getD j undef = cs.toList.getD j undef := fun j => by simp [Array.getD_eq_getD_getElem?, List.getD_eq_getElem?_getD]
    refine ⟨.agg ps, ⟨ps, rfl, hs⟩, .agg cs ps (by rw [← hc.len]; simp [Value.cells]) (fun i hi => ?_) (fun i hi => ?_), hc.pure⟩
    · rw [e]; exact hc.one i hi
    · rw [e]; exact hc.rep i hi
   have one : (match P.underlying t with | some (.struct _) | some (.array _ _) => False | _ => True) → ∃ p, Shape P fuel t [p] ∧ Rep (cellF w) noLoc v p ∧ p.pure := by
    intro hu'
    rw [okWide_one hu' hok] at hc
    obtain ⟨p, rfl, h1, h2⟩ := cellsR_single hc
    exact ⟨p, hs, h1, h2⟩
   have isAgg : (∃ fs, dsc = .struct fs) ∨ (∃ m e, dsc = .array m e) → ∃ cs, v = .agg cs := by
    intro hd
    unfold Value.okWide at hok
    rw [hu] at hok
    rcases hd with ⟨fs, rfl⟩ | ⟨m, e, rfl⟩
    · obtain ⟨cs, h1, _⟩ := hok; exact ⟨cs, h1⟩
    · obtain ⟨cs, h1, _⟩ := hok; exact ⟨cs, h1⟩
   cases dsc with
   | struct fs =>
     obtain ⟨p, h1, h2⟩ := agg (isAgg (.inl ⟨fs, rfl⟩))
     exact ⟨p, ⟨fuel, by rw [hu]; exact h1⟩, h2⟩
   | array m e =>
     obtain ⟨p, h1, h2⟩ := agg (isAgg (.inr ⟨m, e, rfl⟩))
     exact ⟨p, ⟨fuel, by rw [hu]; exact h1⟩, h2⟩
   | _ =>
     obtain ⟨p, h1, h2⟩ := one (by rw [hu]; trivial)
     exact ⟨p, ⟨fuel, by rw [hu]; exact h1⟩, h2⟩

theorem values_rep {G : List TypeId} (hT : tilesB P G = true) : ∀ {ts : List TypeId} {vs : List Value} {ds : List (DataW H)} {pl : List MemPlace}, (∀ t ∈ ts, G.contains t = true) → (∀ (j : Nat) t v, ts[j]? = some t → vs[j]? = some v → ∃ base, Value.okWide P w .any base t v) →
 DataW.TrodAll enc P w 0 (fun _ => true) true ts vs ds pl → (∀ x ∈ DataW.weightsEach P ts ds, x ≤ reachBytes) → ∃ ps, ShapeVs P ts ps ∧ vs.length = ps.length ∧ (∀ i, i < ps.length → Rep (cellF w) noLoc (vs.getD i undef) (ps.getD i pvu)) ∧ pureL ps
 | [], vs, ds, pl, _, _, h, _ => by
   obtain ⟨rfl, rfl, rfl⟩ := trodAll_nil h
   exact ⟨[], trivial, rfl, fun i hi => absurd hi (Nat.not_lt_zero _), trivial⟩
 | t :: ts, vs, ds, pl, hlt, hok, h, hw => by
   obtain ⟨v, vs', d, ds', p, q, rfl, rfl, rfl, h1, h2⟩ := trodAll_cons h
   obtain ⟨base, hv⟩ := hok 0 t v rfl rfl
   obtain ⟨x, hs, hr, hp⟩ := value_rep hT (hlt t (by simp)) hv h1 fun x hx => hw x (by rw [DataW.weightsEach]; exact List.mem_append.2 (.inl hx))
   obtain ⟨ps, hs', hl, hr', hp'⟩ := values_rep hT (fun t ht => hlt t (by simp [ht])) (fun j t v hj hv => hok (j + 1) t v (by simpa using hj) (by simpa using hv)) h2 fun x hx => hw x (by rw [DataW.weightsEach]; exact List.mem_append.2 (.inr hx))
   refine ⟨x :: ps, ⟨hs, hs'⟩, by simp [hl], fun i hi => ?_, hp, hp'⟩
   cases i with
   | zero => simpa using hr
   | succ i => simpa using hr' i (by simpa using hi)

theorem trodAll_stays (hl : laidOutB P = true) {W W' : World} (hb : Below W.heap.size W W') {sp' : Nat → Bool} : ∀ {ts : List TypeId} {vs : List Value} {ds : List (DataW H)} {pl : List MemPlace}, (∀ t ∈ ts, P.readableRec t = true ∧ t < P.types.size) → DataW.TrodAll enc P W 0 (fun _ => true) true ts vs ds pl →
 (∀ x ∈ pl, x.block < W.heap.size) → (∀ x ∈ pl, sp' x.block = true) → DataW.TrodAll enc P W' 0 sp' true ts vs ds pl
 | [], vs, ds, pl, _, h, _, _ => by
   obtain ⟨rfl, rfl, rfl⟩ := trodAll_nil h
   exact rfl
 | t :: ts, vs, ds, pl, hr, h, hlt, hsp => by
   obtain ⟨v, vs', d, ds', p, q, rfl, rfl, rfl, h1, h2⟩ := trodAll_cons h
   obtain ⟨hr1, hr2⟩ := hr t (by simp)
   exact ⟨p, q, WideElems.Trod_stays hl hr1 hr2 h1 (fun x hx => hb.same (hlt x (List.mem_append.2 (.inl hx)))) (fun x hx => hsp x (List.mem_append.2 (.inl hx))),
    trodAll_stays hl hb (fun t ht => hr t (by simp [ht])) h2 (fun x hx => hlt x (List.mem_append.2 (.inr hx))) (fun x hx => hsp x (List.mem_append.2 (.inr hx))), rfl⟩
end

theorem law_contract {H : Type} {enc : TypeId × Value → H} {P : Program} {f : FuncId} {fn : Func} {s : ChangeSpec} {apart fresh handsOn again : Bool} {tb : TypeId} {G : List TypeId} (hT : tilesB P G = true) (hG : ∀ t ∈ fn.params.toList, G.contains t = true) (hl : laidOutB P = true) (hpar : ∀ t ∈ fn.params.toList, P.readableRec t = true ∧ t < P.types.size) (hres : fn.resultTypes = #[tb]) (htb : P.underlying tb = some .bool)
 (hvars : s.vars = []) (hs : ∀ ds : List (DataW H), ds.length = fn.params.size → (s.fn H ds).results = [.lit (.bool true)] ∧ (s.fn H ds).args = ds ∧ (s.fn H ds).vars = []) (hspec : ∀ ps, ShapeVs P fn.params.toList ps → pureL ps → Spec P f ps (· = .val (.bool true)))
 (W : World) (hgl : GlobsIn W) (base : Nat) (args : Array Value) (ds gs : List (DataW H)) (before : List MemPlace) (hval : ∀ (j : Nat) t v, fn.params[j]? = some t → args[j]? = some v → Value.okWide P W .any base t v) (hW : DataW.Whole enc P fn.params.toList s.vars apart W args.toList ds gs before)
 (hwt : (DataW.weightsEach P (fn.params.toList ++ s.plain.varTypes P) (ds ++ gs)).all (· ≤ reachBytes) = true) :
 Calls P f args W fun e W' => ∃ v, e = .returned v ∧ s.post enc P fn apart fresh handsOn again W args v W' := by
 have hW' := hW
 obtain ⟨p, q, hA, hV, rfl, hfz, hnd⟩ := hW
 rw [hvars] at hV
 obtain ⟨rfl, rfl⟩ := trodVars_none hV
 rw [List.append_nil] at hwt
 have hlen : ds.length = fn.params.toList.length := by
  have : ∀ {ts : List TypeId} {vs : List Value} {ds : List (DataW H)} {pl : List MemPlace}, DataW.TrodAll enc P W 0 (fun _ => true) true ts vs ds pl → ds.length = ts.length := by
   intro ts
   induction ts with
   | nil => intro vs ds pl h; obtain ⟨_, rfl, _⟩ := trodAll_nil h; rfl
   | cons t ts ih => intro vs ds pl h; obtain ⟨v, vs', d, ds', p, q, _, rfl, _, _, h2⟩ := trodAll_cons h; simp [ih h2]
  exact this hA
 have hvt : s.plain.varTypes P = [] := by
  simp [ChangeSpec.plain, DataSpec.varTypes, hvars]
 rw [hvt, List.append_nil] at hwt
 obtain ⟨ps, hsh, hpl, hrep, hpure⟩ := values_rep hT hG (fun j t v hj hv => ⟨base, hval j t v (by simpa using hj) (by simpa using hv)⟩) hA (fun x hx => by simpa using List.all_eq_true.1 hwt x hx)
 have e : ∀ j, args.getD j undef = args.toList.getD j undef := fun j => by simp [Array.getD_eq_getD_getElem?, List.getD_eq_getElem?_getD]
 refine ((hspec ps hsh hpure).2 (cellF W) W args (holds_cellF hgl) ⟨by simpa using hpl, fun i hi => by rw [e]; exact hrep i hi⟩).mono ?_
 rintro en W' ⟨v, r, F', rfl, rfl, hvr, hbel, _⟩
 obtain rfl := hvr.val_inv
 obtain ⟨hs1, hs2, hs3⟩ := hs ds (by simpa using hlen)
 have hlt := hW'.lt
 simp only [List.append_nil] at hlt hW' ⊢
 have hstay : ∀ sp' : Nat → Bool, (∀ x ∈ p, sp' x.block = true) → DataW.TrodAll enc P W' 0 sp' true fn.params.toList args.toList ds p := fun sp' hsp => trodAll_stays hl hbel hpar hA hlt hsp
 have hresults : ∀ (b : Nat) (sp : Nat → Bool) (hd : Bool), DataW.TrodAll enc P W' b sp hd fn.resultTypes.toList ((Value.bool true).resultList fn.resultTypes.size) [.lit (.bool true)] [] := fun b sp hd => by
  rw [hres]
  exact trodAll_mk1 (shut_bool htb true)
 refine ⟨_, rfl, ds, [], p, [], p, [], hW', ?_, ?_, ?_, hbel.frame _, fun _ => ⟨ok_one hres rfl (okWide_bool_mk htb true), ?_⟩⟩
 · rw [List.append_nil, hs1]; exact hresults _ _ _
 · rw [List.append_nil, hs2]; exact hstay _ fun x hx => by simpa using hlt x hx
 · rw [List.append_nil, hvars, hs3]; exact rfl
 · refine ⟨_, [], p, ⟨p, [], trodAll_append (p := []) (hstay _ fun _ _ => rfl) (hresults _ _ _), by rw [hvars]; exact rfl, by simp, ?_, by simpa using hnd⟩, fun x hx _ => hx⟩
   intro b off hp
   rw [hbel.frozen (hlt _ hp)]
   exact hfz b off (by simpa using hp)
end Go.Proofs.YtifohjijhhjdkaaDoor

namespace Go.Proofs.YtifohjijhhjdkaaDoor
open Go.ChangeShapes Go.WideShapes Go.ChangeAt Go.RowKit
set_option linter.unusedVariables false

theorem own : ownKnob Tryd.prog.godebug = none := by kernel_rfl
theorem laidOut : laidOutB Tryd.prog = true := by kernel_rfl
def parsOk (P : Program) (ts : List TypeId) : Bool := ts.all fun t => P.readableRec t && decide (t < P.types.size)
def inG (G ts : List TypeId) : Bool := ts.all fun t => G.contains t
theorem inG_of {G ts : List TypeId} (h : inG G ts = true) : ∀ t ∈ ts, G.contains t = true := fun t ht => List.all_eq_true.1 h t ht
theorem parsOk_of {P : Program} {ts : List TypeId} (h : parsOk P ts = true) : ∀ t ∈ ts, P.readableRec t = true ∧ t < P.types.size := fun t ht => by
 have := List.all_eq_true.1 h t ht
 simpa using this

abbrev laidV : List (String × DataW Unit) := [("math/bits.deBruijn64tab", Rows.laid_math_bits_deBruijn64tab)]
set_option maxRecDepth 100000 in
theorem door_met (os : Os) (args : Array Value) : laidMetH Tryd.prog laidV ((World.doorLaid Tryd.prog 400 os).forCall (fun _ _ => 0) ⟨#[], args, []⟩).memory :=
 laidMetH_of_parts3 (fuel := 8) (laidMet_of_run' 8 (by kernel_rfl) (by kernel_rfl)) (by kernel_rfl) (by kernel_rfl)
theorem laid_tab : (Rows.laid_math_bits_deBruijn64tab : DataW Unit) = .agg (tzTab.map fun x => .lit (.int .u8 x)) := rfl
set_option maxRecDepth 100000 in
theorem globs_in {W : World} (h : laidMetH Tryd.prog laidV W) : GlobsIn W := by
 rw [MakeChecks.laidMetH_plain _ _ _ (by kernel_rfl)] at h
 obtain ⟨ps, ⟨g0, t0, cs, f0, p0, q0, hg0, ht0, hv0, hd0, _, _⟩, _, _⟩ := h
 obtain rfl := Option.some.inj ((show Tryd.prog.globalNamed "math/bits.deBruijn64tab" = some 0 by kernel_rfl).symm.trans hg0)
 obtain rfl := Option.some.inj ((show (Tryd.prog.globals[0]?).map (·.type) = some 155 by kernel_rfl).symm.trans ht0)
 obtain ⟨xs, m, rfl, hx, hlen, hn, hel⟩ := DataW.trod_array (show Tryd.prog.underlying 155 = some (.array 64 5) by kernel_rfl) hd0
 have c1 : Tryd.prog.cellsOf 5 = 1 := by kernel_rfl
 have c64 : Tryd.prog.cellsOf 155 = 64 := by kernel_rfl
 simp only [Prod.mk.injEq] at hx
 have hx1 : tzTab.map (fun x => (DataW.lit (.int .u8 x) : DataW Unit)) = xs.map (·.1) := by
  have := hx.1
  rw [laid_tab] at this
  simpa using this
 intro g j v hv
 unfold globs at hv
 cases hb : Nat.beq g 0 with
 | false => rw [hb] at hv; simp at hv
 | true =>
   obtain rfl : g = 0 := Nat.eq_of_beq_eq_true hb
   rw [hb] at hv
   simp only [cond_true, List.getElem?_map] at hv
   have hj : j < 64 := by
    cases hx : tzTab[j]? with
    | none => rw [hx] at hv; cases hv
    | some x => have := (List.getElem?_eq_some_iff.1 hx).1; exact this
   have hj2 : j < tzTab.length := hj
   rw [List.getElem?_eq_getElem hj2] at hv
   simp only [Option.map_some, Option.some.injEq] at hv
   subst hv
   have e1 := congrArg (fun l => l[j]?) hx1
   simp only [List.getElem?_map] at e1
   rw [List.getElem?_eq_getElem hj2, List.getElem?_eq_getElem (show j < xs.length by omega)] at e1
   simp only [Option.map_some, Option.some.injEq] at e1
   have e2 := hel j hj
   rw [List.getElem?_eq_getElem (show j < xs.length by omega), c1] at e2
   obtain ⟨k, h1, h2, _⟩ := DataW.trod_int (show Tryd.prog.underlying 5 = some (.int .u8) by kernel_rfl) e2
   rw [h2] at e1
   simp only [DataW.lit.injEq, Lit.int.injEq, true_and] at e1
   subst e1
   rw [Nat.mul_one] at h1
   rw [World.var?_cell hg0 hv0 j]
   have h3 : cs.toList[j]? = (cs.toList.drop j)[0]? := by simp
   have h4 : (cs.toList.drop j)[0]? = ((cs.toList.drop j).take 1)[0]? := by simp
   rw [← Array.getElem?_toList, h3, h4, h1]
   rfl
end Go.Proofs.YtifohjijhhjdkaaDoor

namespace Go.Proofs.YtifohjijhhjdkaaDoor
open Go.RowKit
set_option linter.unusedVariables false

def intT (P : Program) (t : TypeId) : Option IntKind := match P.underlying t with | some (.int k) => some k | _ => none
def boolT (P : Program) (t : TypeId) : Bool := match P.underlying t with | some .bool => true | _ => false
def sliceT (P : Program) (t : TypeId) : Option TypeId := match P.underlying t with | some (.slice e) => some e | _ => none
section
variable {P : Program} {t : TypeId} {n : Nat} {ps : List PV} {p : PV}

theorem intT_some {k : IntKind} (h : intT P t = some k) : P.underlying t = some (.int k) := by
 unfold intT at h
 split at h
 · rename_i k' hu; cases h; exact hu
 · cases h
theorem boolT_some (h : boolT P t = true) : P.underlying t = some .bool := by
 unfold boolT at h
 split at h
 · rename_i hu; exact hu
 · cases h
theorem sliceT_some {e : TypeId} (h : sliceT P t = some e) : P.underlying t = some (.slice e) := by
 unfold sliceT at h
 split at h
 · rename_i k' hu; cases h; exact hu
 · cases h
theorem shape_int {k : IntKind} (h : Shape P n t ps) (hk : intT P t = some k) : ∃ m, (Lit.int k m).wf = true ∧ ps = [.val (.int k m)] := by
 cases n with
 | zero => exact h.elim
 | succ n => simpa only [Shape, intT_some hk] using h
theorem shape_bool (h : Shape P n t ps) (hk : boolT P t = true) : ∃ b, ps = [.val (.bool b)] := by
 cases n with
 | zero => exact h.elim
 | succ n => simpa only [Shape, boolT_some hk] using h
theorem shape_slice {e : TypeId} (h : Shape P n t ps) (hk : sliceT P t = some e) : ∃ n' ll fl, ll.length ≤ maxVec ∧ (∀ l ∈ ll, Shape P n' e l) ∧ ps = [.vec ll fl] := by
 cases n with
 | zero => exact h.elim
 | succ n =>
   have : ∃ ll fl, ll.length ≤ maxVec ∧ (∀ l ∈ ll, Shape P n e l) ∧ ps = [.vec ll fl] := by simpa only [Shape, sliceT_some hk] using h
   obtain ⟨ll, fl, h⟩ := this
   exact ⟨n, ll, fl, h⟩
theorem shapeV_bool (h : ShapeV P t p) (hk : boolT P t = true) : ∃ b, p = .val (.bool b) := by
 obtain ⟨n, h⟩ := h
 rw [boolT_some hk] at h
 obtain ⟨m, h2⟩ := shape_bool (show Shape P n t [p] from h) hk
 exact ⟨m, by simpa using h2⟩
theorem shapeV_slice {e : TypeId} (h : ShapeV P t p) (hk : sliceT P t = some e) : ∃ n' ll fl, ll.length ≤ maxVec ∧ (∀ l ∈ ll, Shape P n' e l) ∧ p = .vec ll fl := by
 obtain ⟨n, h⟩ := h
 rw [sliceT_some hk] at h
 obtain ⟨n', ll, fl, h1, h2, h3⟩ := shape_slice (show Shape P n t [p] from h) hk
 exact ⟨n', ll, fl, h1, h2, by simpa using h3⟩
end
end Go.Proofs.YtifohjijhhjdkaaDoor
