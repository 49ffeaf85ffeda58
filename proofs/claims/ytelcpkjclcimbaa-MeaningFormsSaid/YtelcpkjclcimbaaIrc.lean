/-
  Regions whose order of evaluation is open: every order that the edges allow. For every program; no statement of the seat is proved here.
-/
import Derived.Test.YtelcpkjclcimbaaIrb
namespace Go.Proofs.Ytelcpkjclcimbaa
open Go.RowKit
set_option linter.unusedVariables false
set_option linter.unusedSimpArgs false

def maskStep (L : List Nat) (s : Nat) (ed : Edge) : Nat := match Region.binds .any ed with | true => s ||| (2 ^ ed.on ||| L.getD ed.on 0) | false => s
def maskOf (L : List Nat) (o : Oper) : Nat := o.after.toList.foldl (maskStep L) 0

def masksOk (ops : Array Oper) (L : List Nat) : Bool :=
  ops.toList.zipIdx.all fun q => L.getD q.2 0 == maskOf L q.1 && q.1.after.toList.all (fun ed => !Region.binds .any ed || Nat.blt ed.on q.2) && Nat.blt (L.getD q.2 0) (2 ^ q.2)

def isoB (al : List AOper) (L : List Nat) (i : Nat) : Bool :=
  al.zipIdx.all fun q => !q.1.op.touch || q.2 == i || (match Nat.blt q.2 i with | true => (L.getD i 0).testBit q.2 | false => (L.getD q.2 0).testBit i)

def dItems (al : List AOper) (L : List Nat) : List DItem := al.zipIdx.map fun q => ⟨q.2, q.1, L.getD q.2 0, isoB al L q.2, false⟩

def away (d : Option Nat) (l : List Nat) : Bool := match d with | some k => !l.contains k | none => true
def apartD (d d' : Option Nat) : Bool := match d, d' with | some k, some k' => !(k == k') | _, _ => true

def indepB (x y : DItem) : Bool :=
  away x.o.dst y.look && apartD x.o.dst y.o.dst && away y.o.dst x.look && (!isCall x.o.op || !isCall y.o.op) && (!x.iso || !y.o.op.touch) && (!y.iso || !x.o.op.touch) && !x.mask.testBit y.i

def pairsOk (l : List DItem) : Bool := l.all fun x => l.all fun y => !Nat.blt x.i y.i || y.mask.testBit x.i || indepB x y

theorem away_spec {d : Option Nat} {l : List Nat} (h : away d l = true) : ∀ k, d = some k → k ∉ l := by
  intro k hk
  subst hk
  simpa [away] using h
theorem apartD_spec {d d' : Option Nat} (h : apartD d d' = true) : ∀ k, d = some k → d' ≠ some k := by
  intro k hk hk'
  subst hk
  subst hk'
  simp [apartD] at h

theorem indepB_spec {x y : DItem} (h : indepB x y = true) (hlt : x.i < y.i) (hm : y.mask.testBit x.i = false) : Indep x y := by
  simp only [indepB, Bool.and_eq_true] at h
  obtain ⟨⟨⟨⟨⟨⟨h1, h2⟩, h3⟩, h4⟩, h5⟩, h6⟩, h7⟩ := h
  refine ⟨fun d hd => ⟨away_spec h1 d hd, apartD_spec h2 d hd⟩, away_spec h3, fun hc => ?_, fun hx => ?_, fun hy => ?_, by omega, by simpa using h7, hm⟩
  · simpa [hc] using h4
  · simpa [hx] using h5
  · simpa [hy] using h6

theorem mask_mem (L : List Nat) (k : Nat) : ∀ (l : List Edge) (s : Nat), (l.foldl (maskStep L) s).testBit k = true → s.testBit k = true ∨ ∃ ed ∈ l, Region.binds .any ed = true ∧ (ed.on = k ∨ (L.getD ed.on 0).testBit k = true)
  | [], s, h => .inl h
  | ed :: l, s, h => by
    rw [List.foldl_cons] at h
    rcases mask_mem L k l _ h with h | ⟨ed', he, h⟩
    · unfold maskStep at h
      split at h
      · rename_i hb
        rw [Nat.testBit_or, Nat.testBit_or, Nat.testBit_two_pow] at h
        simp only [Bool.or_eq_true, decide_eq_true_eq] at h
        rcases h with h | h | h
        · exact .inl h
        · exact .inr ⟨ed, by simp, hb, .inl h⟩
        · exact .inr ⟨ed, by simp, hb, .inr h⟩
      · exact .inl h
    · exact .inr ⟨ed', by simp [he], h⟩

/-- What the lists of masks say. -/
structure MOk (ops : Array Oper) (L : List Nat) : Prop where
  mem : ∀ j o, ops[j]? = some o → ∀ k, (L.getD j 0).testBit k = true → ∃ ed ∈ o.after, Region.binds .any ed = true ∧ (ed.on = k ∨ (L.getD ed.on 0).testBit k = true)
  lt : ∀ j o, ops[j]? = some o → ∀ ed ∈ o.after, Region.binds .any ed = true → ed.on < j

theorem masksOk_spec {ops : Array Oper} {L : List Nat} (h : masksOk ops L = true) : MOk ops L := by
  have hall : ∀ j o, ops[j]? = some o → (L.getD j 0 = maskOf L o ∧ ∀ ed ∈ o.after.toList, Region.binds .any ed = true → ed.on < j) := by
    intro j o hj
    have hm : (o, j) ∈ ops.toList.zipIdx := by
      rw [List.mem_zipIdx_iff_getElem?]
      simpa using hj
    have := List.all_eq_true.1 h _ hm
    simp only [Bool.and_eq_true, beq_iff_eq, List.all_eq_true, Bool.or_eq_true, Bool.not_eq_true'] at this
    refine ⟨this.1.1, fun ed hed hb => ?_⟩
    rcases this.1.2 ed hed with h' | h'
    · rw [hb] at h'; cases h'
    · exact Nat.le_of_ble_eq_true h'
  refine ⟨fun j o hj k hk => ?_, fun j o hj ed hed hb => (hall j o hj).2 ed (by simpa using hed) hb⟩
  rw [(hall j o hj).1] at hk
  rcases mask_mem L k _ _ hk with h' | ⟨ed, he, h'⟩
  · simp at h'
  · exact ⟨ed, by simpa using he, h'⟩

section
variable {z : Option Nat} {P : Program} {C : Ctx} {Fr : Nat → Prop} {e : Env} {h : Heap} {F : Froz} {φ : Locs} {a : Act} {w : World} {FN : Fence} {m : Nat}

theorem wantK_of_B {g : Option (Nat × Bool)} {c : Bool} (h : wantB g e = some c) : wantK g e (c = true) (c = false) := by
  unfold wantB at h
  unfold wantK
  split at h
  · cases h; rfl
  · split at h
    · rename_i s b c' hc
      cases h
      simp only [hc]
      split
      · rename_i hcb; simp [hcb]
      · rename_i hcb; simpa using hcb
    · rename_i s b v hc
      cases h
      simp only [hc]
    · cases h

theorem opK_of_sem {n : Nat} {x : DItem} {T : PV → Eff → Prop} (hs : Sem1 P z n x e h T) (hw : wantB x.o.guard e = some true) : (∃ f args id b R, x.o.op = .call f args ∧ h id = some b ∧ CallP P f args e id b R ∧ T = fun q g => ∃ b', g = .set id b' ∧ q.pure ∧ pureLL b'.elems ∧ R q b') ∨ opK P x.o.op (n + x.i) e h fun p h' => ∃ f, T p f ∧ h' = f.app h := by
  cases hs with
  | skip hw' => rw [hw] at hw'; cases hw'
  | call _ f args ho R hc =>
    obtain ⟨g, caps, as, args', h1, h2, h3, h4, h5⟩ := hc
    rw [ho]
    exact .inr ⟨g, caps, as, args', R, h1, h2, h3, h4, h5, fun r hr => ⟨.none, ⟨hr, rfl⟩, rfl⟩⟩
  | callP _ f args ho id hz b hb R hc => exact .inl ⟨f, args, id, b, R, ho, hb, hc, rfl⟩
  | det _ hn p f hd =>
    have hrun := hd.run h fun _ _ _ => rfl
    have hdf : dEval x.o.op e h (n + x.i) = some (p, f.app h) ∨ fEval x.o.op e h (n + x.i) = some (p, f.app h) := by
      unfold evalB at hrun
      split at hrun
      · exact .inr hrun
      · exact .inl hrun
    have : ∃ p' h', (dEval x.o.op e h (n + x.i) = some (p', h') ∨ fEval x.o.op e h (n + x.i) = some (p', h')) ∧ ∃ f', (fun q g => q = p ∧ g = f) p' f' ∧ h' = f'.app h := ⟨p, f.app h, hdf, f, ⟨rfl, rfl⟩, rfl⟩
    generalize x.o.op = op at hn this
    refine .inr ?_
    cases op <;> first | exact this | simp [isCall] at hn

/-- One operation of a region, wherever its turn comes. -/
theorem item_exec (hok : FenceOk FN m) {ops : Array Oper} {n : Nat} {x : DItem} {o : Oper} (ho : ops[x.i]? = some o) (hc : cOper P C.nt ops o = some x.o) {T : PV → Eff → Prop} (hs : Sem1 P z n x e h T) (s : St' C Fr e h F φ a w) (hid : Fr (n + x.i))
    {next : Act → World → Prop} {Q : Exit → Act → World → Prop} (hnext : ∀ p f a' w', T p f → St C (fun i => Fr i ∧ i ≠ n + x.i) (updO e x.o.dst p) (f.app h) a' w' → next a' w') : wpOpIn FN m P ops Q x.i next a w := by
  unfold cOper at hc
  split at hc
  case h_2 => simp at hc
  rename_i op g hop hg
  split at hc
  case isFalse => simp at hc
  rename_i hdst
  have hx : x.o = ⟨o.dst, op, g⟩ := (Option.some.inj hc).symm
  simp only [wpOpIn, ho]
  have hsg : ∃ c, wantB x.o.guard e = some c := by cases hs with | skip hw => exact ⟨_, hw⟩ | call hw => exact ⟨_, hw⟩ | callP hw => exact ⟨_, hw⟩ | det hw => exact ⟨_, hw⟩
  obtain ⟨c, hwc⟩ := hsg
  have hgx : x.o.guard = g := by rw [hx]
  have hk := wantK_of_B hwc
  rw [hgx] at hk
  rcases wanted_sound hg s rfl hk with ⟨hw, rfl⟩ | ⟨hw, rfl⟩
  · rw [if_pos hw]
    rcases opK_of_sem hs hwc with ⟨f, args, id, b, R, hop', hb, ⟨g', caps, as, rest, g1, g2, g3, g4, g5, g6⟩, rfl⟩ | hopK
    · obtain rfl : op = .call f args := by rw [hx] at hop'; exact hop'
      refine callP_sound hok hop hdst s g1 g2 g3 hb g4 g5 g6 fun p b' a' w' h1 h2 h3 hs' => ?_
      obtain ⟨F', φ', s'⟩ := hs'
      exact hnext p (.set id b') a' w' ⟨b', rfl, h1, h2, h3⟩ (by rw [hx]; exact ⟨F', φ', s'.weaken fun i hi => hi.1⟩)
    rw [hx] at hopK
    refine opK_sound hok hop hdst hid s hopK fun p h' a' w' hK hs' => ?_
    obtain ⟨f, hT, rfl⟩ := hK
    obtain ⟨F', φ', s'⟩ := hs'
    exact hnext p f a' w' hT (by rw [hx]; exact ⟨F', φ', s'.weaken fun i hi => ⟨hi.1, fun _ => hi.2⟩⟩)
  · rw [if_neg (by simp [hw])]
    refine ⟨fun f _ => hok.fn f, ?_⟩
    have hT : T pvu .none := by
      cases hs with
      | skip _ => exact ⟨rfl, rfl⟩
      | call hw' => rw [hwc] at hw'; cases hw'
      | callP hw' => rw [hwc] at hw'; cases hw'
      | det hw' => rw [hwc] at hw'; cases hw'
    have s' := s.putO (p := pvu) hdst (.val undef)
    refine hnext pvu .none _ _ hT ⟨F, φ, ?_⟩
    rw [hx]
    exact s'.weaken fun _ h => h.1

/-- Some outcome of an operation comes about. -/
theorem item_some {n : Nat} {x : DItem} {o : Oper} {ops : Array Oper} (hc : cOper P C.nt ops o = some x.o) {T : PV → Eff → Prop} (hs : Sem1 P z n x e h T) (s : St' C Fr e h F φ a w) (hid : Fr (n + x.i)) :
    ∃ p f a' w', T p f ∧ St C (fun i => Fr i ∧ i ≠ n + x.i) (updO e x.o.dst p) (f.app h) a' w' := by
  unfold cOper at hc
  split at hc
  case h_2 => simp at hc
  rename_i op g hop hg
  split at hc
  case isFalse => simp at hc
  rename_i hdst
  have hx : x.o = ⟨o.dst, op, g⟩ := (Option.some.inj hc).symm
  cases hs with
  | skip hw =>
    refine ⟨pvu, .none, a.put o.dst undef, w, ⟨rfl, rfl⟩, F, φ, ?_⟩
    rw [hx]
    exact (s.putO (p := pvu) hdst (.val undef)).weaken fun _ h => h.1
  | call hw f args ho R hcall =>
    obtain ⟨g', caps, as, args', h1, h2, hlo, hpure, hbody, hspec⟩ := hcall
    obtain ⟨vs, hvf, hsz, hcaps⟩ := (s.eval h1).fn_inv
    obtain ⟨hl1, hl2⟩ := s.evals h2
    have hrep : RepL F φ ((args.map a.eval).toArray ++ vs) (as ++ caps) := by
      refine ⟨by simp at hl1 ⊢; omega, fun i hi => ?_⟩
      by_cases hi' : i < as.length
      · have e1 : ((args.map a.eval).toArray ++ vs).getD i undef = (args.map a.eval).getD i undef := by
          simp only [Array.getD_eq_getD_getElem?, List.getD_eq_getElem?_getD]
          rw [Array.getElem?_append_left (by simp at hl1 ⊢; omega)]
          simp
        have e2 : (as ++ caps).getD i pvu = as.getD i pvu := by
          simp only [List.getD_eq_getElem?_getD]
          rw [List.getElem?_append_left hi']
        rw [e1, e2]
        exact hl2 i hi'
      · have e1 : ((args.map a.eval).toArray ++ vs).getD i undef = vs.getD (i - as.length) undef := by
          simp only [Array.getD_eq_getD_getElem?]
          rw [Array.getElem?_append_right (by simp at hl1 ⊢; omega)]
          congr 2
          simp at hl1 ⊢
          omega
        have e2 : (as ++ caps).getD i pvu = caps.getD (i - as.length) pvu := by
          simp only [List.getD_eq_getElem?_getD]
          rw [List.getElem?_append_right (by omega)]
        rw [e1, e2]
        exact hcaps _ (by simp at hi; omega)
    have hrep' := hlo.rep hrep
    have hrep'' : RepL F noLoc ((args.map a.eval).toArray ++ vs) args' := ⟨hrep'.1, fun i hi => (hrep'.2 i hi).pure (innL_getD hpure i)⟩
    obtain ⟨en, w', fr, ⟨v, r, F', _, hr, hvr, hbel, hF', hext, hold⟩, _⟩ := hspec F w _ s.froz hrep'' []
    have s' := (s.called hbel hF' hext hold).weaken (Fr' := fun i => Fr i ∧ i ≠ n + x.i) fun _ h => h.1
    have hvr' : Rep F' φ v r := hvr.mono (fun _ _ h => h) (fun i x hx => by cases hx)
    exact ⟨r, .none, _, w', ⟨hr, rfl⟩, F', φ, by rw [hx]; exact s'.putO hdst hvr'⟩
  | callP hw f args ho id hz b hb R hcall =>
    obtain ⟨g', caps, as, rest, h1, h2, h3, hpb, hpr, hsp⟩ := hcall
    obtain ⟨vs, hvf, hsz, hcaps⟩ := (s.eval h1).fn_inv
    obtain ⟨hl1, hl2⟩ := s.evals h2
    have hrep : RepL F φ ((args.map a.eval).toArray ++ vs) (as ++ caps) := by
      refine ⟨by simp at hl1 ⊢; omega, fun i hi => ?_⟩
      by_cases hi' : i < as.length
      · have e1 : ((args.map a.eval).toArray ++ vs).getD i undef = (args.map a.eval).getD i undef := by
          simp only [Array.getD_eq_getD_getElem?, List.getD_eq_getElem?_getD]
          rw [Array.getElem?_append_left (by simp at hl1 ⊢; omega)]
          simp
        have e2 : (as ++ caps).getD i pvu = as.getD i pvu := by
          simp only [List.getD_eq_getElem?_getD]
          rw [List.getElem?_append_left hi']
        rw [e1, e2]
        exact hl2 i hi'
      · have e1 : ((args.map a.eval).toArray ++ vs).getD i undef = vs.getD (i - as.length) undef := by
          simp only [Array.getD_eq_getD_getElem?]
          rw [Array.getElem?_append_right (by simp at hl1 ⊢; omega)]
          congr 2
          simp at hl1 ⊢
          omega
        have e2 : (as ++ caps).getD i pvu = caps.getD (i - as.length) pvu := by
          simp only [List.getD_eq_getElem?_getD]
          rw [List.getElem?_append_right (by omega)]
        rw [e1, e2]
        exact hcaps _ (by simp at hi; omega)
    rw [h3] at hrep
    obtain ⟨en, w', fr, ⟨v, r, b', F', _, ⟨k1, k2, k3⟩, hvr, s'⟩, _⟩ := hsp.run hpb hpr hb s hrep []
    exact ⟨r, .set id b', _, w', ⟨b', rfl, k1, k2, k3⟩, F', φ, by rw [hx]; exact (s'.weaken (Fr' := fun i => Fr i ∧ i ≠ n + x.i) fun _ h => h.1).putO hdst hvr⟩
  | det hw hn p f hd =>
    have hrun := hd.run h fun _ _ _ => rfl
    have hdf : dEval x.o.op e h (n + x.i) = some (p, f.app h) ∨ fEval x.o.op e h (n + x.i) = some (p, f.app h) := by
      unfold evalB at hrun
      split at hrun
      · exact .inr hrun
      · exact .inl hrun
    obtain ⟨r, val, w', F', φ', _, _, s', hrep⟩ := op_sound hop s hid (by rw [hx] at hdf; exact hdf)
    exact ⟨p, f, _, w', ⟨rfl, rfl⟩, F', φ', by rw [hx]; exact (s'.weaken (Fr' := fun i => Fr i ∧ i ≠ n + x.i) fun i hi => ⟨hi.1, fun _ => hi.2⟩).putO hdst hrep⟩

/-- An operation without a call: its outcome is known ahead of what need not come first. -/
theorem det_ahead {ops : Array Oper} {n : Nat} (hzn : ∀ i, z = some i → i < n) {y : DItem} {post : List DItem} {K : Env → Heap → Prop} (hnc : isCall y.o.op = false) : ∀ {pre : List DItem}, (∀ x ∈ pre, Indep x y) → (∀ x ∈ pre, ∃ o, cOper P C.nt ops o = some x.o) → (pre.map (·.i)).Nodup →
    ∀ {Fr : Nat → Prop} {e : Env} {h : Heap} {F : Froz} {φ : Locs} {a : Act} {w : World}, St' C Fr e h F φ a w → (∀ x ∈ pre, Fr (n + x.i)) → dK P z n (pre ++ y :: post) e h K → ∃ q g, Sem1 P z n y e h (fun q' g' => q' = q ∧ g' = g) := by
  intro pre
  induction pre with
  | nil =>
    intro _ _ _ Fr e h F φ a w s _ hk
    obtain ⟨T, hT, _⟩ := hk
    cases hT with
    | skip hw => exact ⟨_, _, .skip hw⟩
    | call hw f args ho R hc => rw [ho] at hnc; simp [isCall] at hnc
    | callP hw f args ho => rw [ho] at hnc; simp [isCall] at hnc
    | det hw hn p f hd => exact ⟨_, _, .det hw hn p f hd⟩
  | cons x pre ih =>
    intro hall hc hnd Fr e h F φ a w s hfr hk
    obtain ⟨T, hT, hK⟩ := hk
    obtain ⟨o, ho⟩ := hc x (by simp)
    obtain ⟨p, f, a', w', hpf, F', φ', s'⟩ := item_some (ops := ops) ho hT s (hfr x (by simp))
    rw [List.map_cons, List.nodup_cons] at hnd
    obtain ⟨q, g, hy⟩ := ih (fun z hz => hall z (by simp [hz])) (fun z hz => hc z (by simp [hz])) hnd.2 s' (fun z hz => ⟨hfr z (by simp [hz]), fun he => hnd.1 (by
      have : z.i = x.i := by omega
      rw [← this]
      exact List.mem_map_of_mem hz)⟩) (hK p f hpf)
    exact ⟨q, g, (Sem1.over hzn (hall x (by simp)) hT hpf).1 hy⟩

/-- How far the order has come. -/
structure DInv (P : Program) (nt : Nat) (ops : Array Oper) (L : List Nat) (rem : List DItem) (listed : Array Bool) : Prop where
  size : listed.size = ops.size
  mem : ∀ j, j < ops.size → (listed.getD j false = false ↔ ∃ x ∈ rem, x.i = j)
  item : ∀ x ∈ rem, x.i < ops.size ∧ x.mask = L.getD x.i 0 ∧ ∀ o, ops[x.i]? = some o → cOper P nt ops o = some x.o
  ord : rem.Pairwise fun x y => x.i < y.i ∧ (y.mask.testBit x.i = false → Indep x y)
  closed : ∀ j, j < ops.size → listed.getD j false = true → ∀ k, (L.getD j 0).testBit k = true → listed.getD k false = true

theorem getD_oob {listed : Array Bool} {j : Nat} (h : listed.getD j true = false) : j < listed.size ∧ listed.getD j false = false := by
  simp only [Array.getD_eq_getD_getElem?] at h ⊢
  cases hj : listed[j]? with
  | none => rw [hj] at h; simp at h
  | some b => rw [hj] at h; exact ⟨(Array.getElem?_eq_some_iff.1 hj).1, by simpa using h⟩

theorem draw_any (hok : FenceOk FN m) {ops : Array Oper} {L : List Nat} (hL : MOk ops L) {n : Nat} (hzn : ∀ i, z = some i → i < n) {K : Env → Heap → Prop} {Q : Exit → Act → World → Prop}
    (hQ : ∀ e h a w, K e h → St C (fun i => n + ops.size ≤ i) e h a w → Q .normal a w) : ∀ (fuel : Nat) (rem : List DItem) (listed : Array Bool), DInv P C.nt ops L rem listed → rem.length ≤ fuel →
      ∀ {Fr : Nat → Prop} {e : Env} {h : Heap} {a : Act} {w : World}, St C Fr e h a w → (∀ x ∈ rem, Fr (n + x.i)) → (∀ i, n + ops.size ≤ i → Fr i) → dK P z n rem e h K → wpAnyIn FN m P .any ops Q fuel listed a w := by
  intro fuel
  have hdone : ∀ (rem : List DItem) (listed : Array Bool), DInv P C.nt ops L rem listed → Region.ready .any ops listed = [] → rem = [] := by
    intro rem listed inv hr
    cases rem with
    | nil => rfl
    | cons x xs =>
      exfalso
      obtain ⟨hxl, hxm, hxo⟩ := inv.item x (by simp)
      have ho : ops[x.i]? = some ops[x.i] := Array.getElem?_eq_getElem hxl
      have hin : x.i ∈ Region.ready .any ops listed := by
        rw [mem_ready]
        have h0 := (inv.mem x.i hxl).2 ⟨x, by simp, rfl⟩
        refine ⟨?_, _, ho, fun ed hed hb => ?_⟩
        · have hlt : x.i < listed.size := by rw [inv.size]; exact hxl
          simpa [Array.getD, hlt] using h0
        · have hlt := hL.lt x.i _ ho ed hed hb
          cases hl : listed.getD ed.on false with
          | true => rfl
          | false =>
            obtain ⟨z, hz, hzi⟩ := (inv.mem ed.on (by omega)).1 hl
            rcases List.mem_cons.1 hz with rfl | hz
            · omega
            · have := (List.pairwise_cons.1 inv.ord).1 z hz
              omega
      rw [hr] at hin
      cases hin
  induction fuel with
  | zero =>
    intro rem listed inv hlen Fr e h a w hs hfr hfr2 hk
    have hrem : rem = [] := List.eq_nil_of_length_eq_zero (by omega)
    subst hrem
    refine ⟨?_, hQ e h a w hk (by obtain ⟨F, φ, s⟩ := hs; exact ⟨F, φ, s.weaken hfr2⟩)⟩
    cases hr : Region.ready .any ops listed with
    | nil => rfl
    | cons j js =>
      exfalso
      have hj : j ∈ Region.ready .any ops listed := by rw [hr]; simp
      obtain ⟨h0, o, ho, _⟩ := mem_ready.1 hj
      have hlt : j < ops.size := (Array.getElem?_eq_some_iff.1 ho).1
      obtain ⟨x, hx, _⟩ := (inv.mem j hlt).1 (getD_oob h0).2
      cases hx
  | succ fuel ih =>
    intro rem listed inv hlen Fr e h a w hs hfr hfr2 hk
    refine ⟨fun hr => ?_, fun i hi => ?_⟩
    · obtain rfl := hdone rem listed inv hr
      exact hQ e h a w hk (by obtain ⟨F, φ, s⟩ := hs; exact ⟨F, φ, s.weaken hfr2⟩)
    · obtain ⟨h0, o, ho, hpre⟩ := mem_ready.1 hi
      have hlt : i < ops.size := (Array.getElem?_eq_some_iff.1 ho).1
      obtain ⟨y, hy, rfl⟩ := (inv.mem i hlt).1 (getD_oob h0).2
      obtain ⟨pre, post, rfl⟩ := List.append_of_mem hy
      obtain ⟨_, hym, hyo⟩ := inv.item y hy
      have hpw := List.pairwise_append.1 inv.ord
      have hall : ∀ x ∈ pre, Indep x y := by
        intro x hx
        have hxy := hpw.2.2 x hx y (by simp)
        refine hxy.2 ?_
        cases hb : y.mask.testBit x.i with
        | false => rfl
        | true =>
          exfalso
          rw [hym] at hb
          obtain ⟨ed, hed, hbind, hon⟩ := hL.mem y.i o ho x.i hb
          have hl := hpre ed hed hbind
          have hxl := (inv.item x (by simp [hx])).1
          have hxun := (inv.mem x.i hxl).2 ⟨x, by simp [hx], rfl⟩
          rcases hon with hon | hon
          · rw [hon] at hl; rw [hl] at hxun; cases hxun
          · have hedl : ed.on < ops.size := by have := hL.lt y.i o ho ed hed hbind; omega
            have := inv.closed ed.on hedl hl x.i hon
            rw [this] at hxun; cases hxun
      have hnd : ((pre ++ post).map (·.i)).Nodup ∧ ∀ z ∈ pre ++ post, z.i ≠ y.i := by
        have h1 : (pre ++ y :: post).Pairwise fun x y => x.i ≠ y.i := inv.ord.imp fun h => by omega
        constructor
        · rw [List.nodup_iff_pairwise_ne, List.pairwise_map]
          exact h1.sublist (List.Sublist.append (List.Sublist.refl _) (List.sublist_cons_self _ _))
        · intro z hz
          have h2 := List.pairwise_append.1 h1
          rcases List.mem_append.1 hz with hz | hz
          · exact h2.2.2 z hz y (by simp)
          · exact ((List.pairwise_cons.1 h2.2.1).1 z hz).symm
      have hpnd : (pre.map (·.i)).Nodup := by
        have := hnd.1
        rw [List.map_append] at this
        exact (List.nodup_append.1 this).1
      obtain ⟨F, φ, s⟩ := hs
      have hpull : ∃ Ty, Sem1 P z n y e h Ty ∧ ∀ q g, Ty q g → dK P z n (pre ++ post) (updO e y.o.dst q) (g.app h) K := by
        cases hc : isCall y.o.op with
        | true => exact dK_pull_call hzn hall hc hk
        | false =>
          obtain ⟨q, g, hsem⟩ := det_ahead (ops := ops) hzn hc hall (fun x hx => by
            obtain ⟨h1, _, h3⟩ := inv.item x (by simp [hx])
            exact ⟨_, h3 _ (Array.getElem?_eq_getElem h1)⟩) hpnd s (fun x hx => hfr x (by simp [hx])) hk
          refine ⟨_, hsem, ?_⟩
          rintro q' g' ⟨rfl, rfl⟩
          exact dK_pull_det hzn hall hsem hc hk
      obtain ⟨Ty, hsem, hnext⟩ := hpull
      refine item_exec hok ho (hyo o ho) hsem s (hfr y (by simp)) fun p f a' w' hpf hs' => ?_
      have hne : ∀ j, j ≠ y.i → (listed.setIfInBounds y.i true).getD j false = listed.getD j false := fun j hj => by
        simp only [Array.getD_eq_getD_getElem?, Array.getElem?_setIfInBounds]
        rw [if_neg (Ne.symm hj)]
      have hsame : (listed.setIfInBounds y.i true).getD y.i false = true := by
        have : y.i < listed.size := by rw [inv.size]; exact hlt
        simp [Array.getD_eq_getD_getElem?, this]
      refine ih (pre ++ post) _ ⟨by simpa using inv.size, fun j hj => ?_, fun x hx => ?_, ?_, fun j hj hl k hk => ?_⟩ (by simp at hlen ⊢; omega) hs' (fun x hx => ⟨hfr x ?_, fun he => hnd.2 x hx (by omega)⟩) (fun j hj => ⟨hfr2 j hj, by omega⟩) (hnext p f hpf)
      · by_cases hj' : j = y.i
        · subst hj'
          rw [hsame]
          constructor
          · intro h; cases h
          · rintro ⟨x, hx, hxi⟩; exact absurd hxi (hnd.2 x hx)
        · rw [hne j hj', inv.mem j hj]
          constructor
          · rintro ⟨x, hx, hxi⟩
            refine ⟨x, ?_, hxi⟩
            rcases List.mem_append.1 hx with hx | hx
            · exact List.mem_append.2 (.inl hx)
            · rcases List.mem_cons.1 hx with rfl | hx
              · exact absurd hxi.symm hj'
              · exact List.mem_append.2 (.inr hx)
          · rintro ⟨x, hx, hxi⟩
            refine ⟨x, ?_, hxi⟩
            rcases List.mem_append.1 hx with hx | hx
            · exact List.mem_append.2 (.inl hx)
            · exact List.mem_append.2 (.inr (by simp [hx]))
      · refine inv.item x ?_
        rcases List.mem_append.1 hx with hx | hx
        · exact List.mem_append.2 (.inl hx)
        · exact List.mem_append.2 (.inr (by simp [hx]))
      · exact inv.ord.sublist (List.Sublist.append (List.Sublist.refl _) (List.sublist_cons_self _ _))
      · by_cases hk' : k = y.i
        · rw [hk']; exact hsame
        · rw [hne k hk']
          by_cases hj' : j = y.i
          · subst hj'
            obtain ⟨ed, hed, hbind, hon⟩ := hL.mem y.i o ho k hk
            have hl' := hpre ed hed hbind
            rcases hon with hon | hon
            · rw [← hon]; exact hl'
            · exact inv.closed ed.on (by have := hL.lt y.i o ho ed hed hbind; omega) hl' k hon
          · rw [hne j hj'] at hl
            exact inv.closed j hj hl k hk
      · rcases List.mem_append.1 hx with hx | hx
        · exact List.mem_append.2 (.inl hx)
        · exact List.mem_append.2 (.inr (by simp [hx]))

def DItem.setAlt (alts : List Nat) (x : DItem) : DItem := { x with alt := alts.contains x.i }

theorem cOpers_get {nt : Nat} {ops : Array Oper} : ∀ {l : List Oper} {al : List AOper}, cOpers P nt ops l = some al → al.length = l.length ∧ ∀ (i : Nat) (o : Oper), l[i]? = some o → ∃ x, al[i]? = some x ∧ cOper P nt ops o = some x := by
  intro l
  induction l with
  | nil =>
    intro al hc
    obtain rfl : [] = al := by simpa [cOpers] using hc
    exact ⟨rfl, fun i o ho => by simp at ho⟩
  | cons o r ih =>
    intro al hc
    simp only [cOpers] at hc
    split at hc
    case h_2 => simp at hc
    rename_i ao al' ho hl
    obtain rfl : ao :: al' = al := by simpa using hc
    obtain ⟨h1, h2⟩ := ih hl
    refine ⟨by simp [h1], fun i o' ho' => ?_⟩
    cases i with
    | zero => obtain rfl : o = o' := by simpa using ho'
              exact ⟨ao, rfl, ho⟩
    | succ i => exact h2 i o' (by simpa using ho')

/-- A region whose order is open. -/
theorem draw_sound (hok : FenceOk FN m) (hm : P.follows .mixedOrders = true) {id : Nat} {ops : Array Oper} {al : List AOper} {L : List Nat} (hc : cOpers P C.nt ops ops.toList = some al) (hL : masksOk ops L = true) (hp : pairsOk (dItems al L) = true)
    {n : Nat} (hzn : ∀ i, z = some i → i < n) (hs : St C (fun i => n ≤ i) e h a w) {Q : Exit → Nat → Env → Heap → Prop} (alts : List Nat) (hk : dK P z n ((dItems al L).map (DItem.setAlt alts)) e h fun e h => Q .normal (n + (dItems al L).length) e h) : (Code.region id ops true).wpIn FN m P (PostA C Q) a w := by
  obtain ⟨hlen, hget⟩ := cOpers_get hc
  have hdl : (dItems al L).length = ops.size := by simp [dItems, hlen]
  have hs' : St C (fun i => n ≤ i) e h a { w with drawn := w.drawn + 1 } := by obtain ⟨F, φ, s⟩ := hs; exact ⟨F, φ, s.drew⟩
  refine wpIn_region_any hm (draw_any (z := z) hok (masksOk_spec hL) (n := n) hzn (K := fun e h => Q .normal (n + (dItems al L).length) e h) (fun e h a w hK hSt => ⟨n + (dItems al L).length, e, h, hK, by rw [hdl]; exact hSt⟩) ops.size _ _ ⟨by simp, fun j hj => ?_, fun x hx => ?_, ?_, fun j hj hl => ?_⟩ (by simp [hdl]) hs' (fun x _ => Nat.le_add_right _ _) (fun i hi => by omega) hk)
  · have hj' : j < al.length := by rw [hlen]; simpa using hj
    constructor
    · intro _
      refine ⟨DItem.setAlt alts ⟨j, al[j], L.getD j 0, isoB al L j, false⟩, ?_, rfl⟩
      refine List.mem_map_of_mem ?_
      refine List.mem_map.2 ⟨(al[j], j), ?_, rfl⟩
      rw [List.mem_zipIdx_iff_getElem?]
      simp [hj']
    · intro _; simp [Array.getD_eq_getD_getElem?, hj]
  · obtain ⟨z, hz, rfl⟩ := List.mem_map.1 hx
    obtain ⟨q, hq, rfl⟩ := List.mem_map.1 hz
    have hqg := List.mem_zipIdx_iff_getElem?.1 hq
    have hql : q.2 < al.length := (List.getElem?_eq_some_iff.1 hqg).1
    refine ⟨by simp only [DItem.setAlt]; rw [hlen] at hql; simpa using hql, rfl, fun o ho => ?_⟩
    obtain ⟨x, hx1, hx2⟩ := hget q.2 o (by simpa [DItem.setAlt] using ho)
    rw [hqg] at hx1
    cases hx1
    exact hx2
  · rw [List.pairwise_map]
    have hsub : (dItems al L).Pairwise fun x y => x.i < y.i := by
      unfold dItems
      rw [List.pairwise_map]
      have h2 : (al.zipIdx.map Prod.snd).Pairwise (· < ·) := by
        rw [List.zipIdx_map_snd]; exact List.pairwise_lt_range'
      exact (List.pairwise_map.1 h2)
    refine List.Pairwise.imp_of_mem ?_ hsub
    intro x y hx hy hlt
    refine ⟨hlt, fun hb => ?_⟩
    have h1 := List.all_eq_true.1 hp x hx
    have h2 := List.all_eq_true.1 h1 y hy
    have hblt : Nat.blt x.i y.i = true := Nat.ble_eq_true_of_le hlt
    have hb' : y.mask.testBit x.i = false := hb
    simp only [hblt, hb', Bool.not_true, Bool.false_or] at h2
    have hi := indepB_spec h2 hlt hb'
    exact ⟨hi.xy, hi.yx, hi.calls, hi.xiso, hi.yiso, hi.ne, hi.mx, hi.my⟩
  · simp [Array.getD_eq_getD_getElem?, hj] at hl
end
end Go.Proofs.Ytelcpkjclcimbaa
