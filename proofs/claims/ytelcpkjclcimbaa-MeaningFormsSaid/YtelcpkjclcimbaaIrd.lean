/-
  The calculus: rules for the elaborated code on abstract states, and how a call's answer is proved. For every program; no statement of the seat is proved here.
-/
import Derived.Test.YtelcpkjclcimbaaIrc
namespace Go.Proofs.Ytelcpkjclcimbaa
open Go.RowKit
set_option linter.unusedVariables false
set_option linter.unusedSimpArgs false

inductive ACode where
  | skip
  | region (ops : List AOper)
  | draw (l : List DItem)
  | seq (a b : ACode)
  | cond (c : Operand) (thn els : ACode)
  | block (id : Nat) (body : ACode)
  | loop (body : ACode)
  | exit (id : Nat)
  | ret

def cCode (P : Program) (nt : Nat) : Code → Option ACode
  | .skip => some .skip
  | .region _ ops draw => match cOpers P nt ops ops.toList with
    | some al => match draw with
      | false => some (.region al)
      | true => match masksOk ops (Region.before ops).toList && pairsOk (dItems al (Region.before ops).toList) with
        | true => some (.draw (dItems al (Region.before ops).toList))
        | false => none
    | none => none
  | .seq a b => match cCode P nt a, cCode P nt b with
    | some x, some y => some (.seq x y)
    | _, _ => none
  | .cond c a b => match cCode P nt a, cCode P nt b with
    | some x, some y => some (.cond c x y)
    | _, _ => none
  | .block id c => match cCode P nt c with
    | some x => some (.block id x)
    | none => none
  | .loop c => match cCode P nt c with
    | some x => some (.loop x)
    | none => none
  | .exit id => some (.exit id)
  | .ret => some .ret
  | _ => none

/-- What code comes to. -/
def aw (P : Program) (C : Ctx) (ac : ACode) (Q : Exit → Nat → Env → Heap → Prop) (n : Nat) (e : Env) (h : Heap) : Prop :=
  P.follows .mixedOrders = true → ∀ (FN : Fence) (m : Nat), FenceOk FN m → ∀ c, cCode P C.nt c = some ac → ∀ a w, St C (fun i => n ≤ i) e h a w → c.wpIn FN m P (PostA C Q) a w

def thenQ (next : Nat → Env → Heap → Prop) (Q : Exit → Nat → Env → Heap → Prop) : Exit → Nat → Env → Heap → Prop
  | .normal => next
  | x => Q x
def blockQ (id : Nat) (Q : Exit → Nat → Env → Heap → Prop) : Exit → Nat → Env → Heap → Prop
  | .exit id' => bif Nat.beq id' id then Q .normal else Q (.exit id')
  | x => Q x

noncomputable def least (p : Nat → Prop) : Nat := open Classical in if h : ∃ k, p k ∧ ∀ j, p j → k ≤ j then Classical.choose h else 0
theorem least_spec {p : Nat → Prop} {k : Nat} (hk : p k) : p (least p) ∧ least p ≤ k := by
  have hex : ∃ k, p k ∧ ∀ j, p j → k ≤ j := by
    induction k using Nat.strongRecOn with
    | _ k ih =>
      by_cases h : ∃ j, j < k ∧ p j
      · obtain ⟨j, hj, hpj⟩ := h
        exact ih j hj hpj
      · exact ⟨k, hk, fun j hj => by
          rcases Nat.lt_or_ge j k with h' | h'
          · exact absurd ⟨j, h', hj⟩ h
          · exact h'⟩
  unfold least
  rw [dif_pos hex]
  exact ⟨(Classical.choose_spec hex).1, (Classical.choose_spec hex).2 k hk⟩

section
variable {P : Program} {C : Ctx} {Q : Exit → Nat → Env → Heap → Prop} {n : Nat} {e : Env} {h : Heap}

theorem aw_mono {ac : ACode} {Q' : Exit → Nat → Env → Heap → Prop} (hk : aw P C ac Q n e h) (hq : ∀ x n e h, Q x n e h → Q' x n e h) : aw P C ac Q' n e h :=
  fun hm FN m hok c hc a w hs => wpIn_mono (hk hm FN m hok c hc a w hs) fun x a w ⟨n, e, h, hQ, hS⟩ => ⟨n, e, h, hq _ _ _ _ hQ, hS⟩

theorem aw_sub {ac : ACode} {n' : Nat} {e' : Env} {h' : Heap} (hs : Sub C n e h n' e' h') (hk : aw P C ac Q n' e' h') : aw P C ac Q n e h :=
  fun hm FN m hok c hc a w hst => hk hm FN m hok c hc a w (hs a w hst)

theorem aw_skip (hk : Q .normal n e h) : aw P C .skip Q n e h := by
  intro hm FN m hok c hc a w hs
  have : c = .skip := by
    unfold cCode at hc
    split at hc <;> first | rfl | (simp at hc; done) | ((repeat' (split at hc)) <;> simp at hc)
  subst this
  exact wpIn_skip ⟨n, e, h, hk, hs⟩

theorem aw_exit {id : Nat} (hk : Q (.exit id) n e h) : aw P C (.exit id) Q n e h := by
  intro hm FN m hok c hc a w hs
  have : c = .exit id := by
    unfold cCode at hc
    split at hc <;> first | (simp at hc; subst hc; rfl) | (simp at hc; done) | ((repeat' (split at hc)) <;> simp at hc)
  subst this
  exact wpIn_exit ⟨n, e, h, hk, hs⟩

theorem aw_ret (hk : Q .ret n e h) : aw P C .ret Q n e h := by
  intro hm FN m hok c hc a w hs
  have : c = .ret := by
    unfold cCode at hc
    split at hc <;> first | rfl | (simp at hc; done) | ((repeat' (split at hc)) <;> simp at hc)
  subst this
  exact wpIn_ret ⟨n, e, h, hk, hs⟩

theorem aw_seq {x y : ACode} (hk : aw P C x (thenQ (aw P C y Q) Q) n e h) : aw P C (.seq x y) Q n e h := by
  intro hm FN m hok c hc a w hs
  have : ∃ c1 c2, c = .seq c1 c2 ∧ cCode P C.nt c1 = some x ∧ cCode P C.nt c2 = some y := by
    unfold cCode at hc
    split at hc <;> first
      | (split at hc <;> first | (simp at hc; obtain ⟨rfl, rfl⟩ := hc; exact ⟨_, _, rfl, by assumption, by assumption⟩) | (simp at hc; done) | ((repeat' (split at hc)) <;> simp at hc; done))
      | (simp at hc; done)
  obtain ⟨c1, c2, rfl, h1, h2⟩ := this
  refine wpIn_seq (wpIn_mono (hk hm FN m hok c1 h1 a w hs) fun x a w ⟨n, e, h, hQ, hS⟩ => ?_)
  cases x with
  | normal => exact hQ hm FN m hok c2 h2 a w hS
  | _ => exact ⟨n, e, h, hQ, hS⟩

theorem aw_cond {c : Operand} {x y : ACode} {b : Bool} (hc : ev e c = some (.val (.bool b))) (ht : b = true → aw P C x Q n e h) (hf : b = false → aw P C y Q n e h) : aw P C (.cond c x y) Q n e h := by
  intro hm FN m hok cc hcc a w hs
  have : ∃ c1 c2, cc = .cond c c1 c2 ∧ cCode P C.nt c1 = some x ∧ cCode P C.nt c2 = some y := by
    unfold cCode at hcc
    split at hcc <;> first
      | (split at hcc <;> first | (simp at hcc; obtain ⟨rfl, rfl, rfl⟩ := hcc; exact ⟨_, _, rfl, by assumption, by assumption⟩) | (simp at hcc; done) | ((repeat' (split at hcc)) <;> simp at hcc; done))
      | (simp at hcc; done)
  obtain ⟨c1, c2, rfl, h1, h2⟩ := this
  obtain ⟨F, φ, s⟩ := hs
  refine wpIn_cond_split (s.eval hc).val_inv (fun hb => ht hb hm FN m hok c1 h1 a w ⟨F, φ, s⟩) (fun hb => hf hb hm FN m hok c2 h2 a w ⟨F, φ, s⟩)

theorem aw_block {id : Nat} {x : ACode} (hk : aw P C x (blockQ id Q) n e h) : aw P C (.block id x) Q n e h := by
  intro hm FN m hok c hc a w hs
  have : ∃ c1, c = .block id c1 ∧ cCode P C.nt c1 = some x := by
    unfold cCode at hc
    split at hc <;> first
      | (split at hc <;> first | (simp at hc; obtain ⟨rfl, rfl⟩ := hc; exact ⟨_, rfl, by assumption⟩) | (simp at hc; done) | ((repeat' (split at hc)) <;> simp at hc; done))
      | (simp at hc; done)
  obtain ⟨c1, rfl, h1⟩ := this
  refine wpIn_block (wpIn_mono (hk hm FN m hok c1 h1 a w hs) fun x a w ⟨n, e, h, hQ, hS⟩ => ?_)
  cases x with
  | exit id' =>
    simp only [blockQ] at hQ
    simp only [Exit.inBlock]
    by_cases hid : id' = id
    · subst hid
      have hb : Nat.beq id' id' = true := by simp
      rw [hb] at hQ
      rw [if_pos rfl]
      exact ⟨n, e, h, hQ, hS⟩
    · have hb : Nat.beq id' id = false := Bool.eq_false_iff.2 fun hb => hid (Nat.eq_of_beq_eq_true hb)
      rw [hb] at hQ
      rw [if_neg hid]
      exact ⟨n, e, h, hQ, hS⟩
  | _ => exact ⟨n, e, h, hQ, hS⟩

theorem aw_loop {X : Type} (I : X → Prop) (μ : X → Nat) (N : X → Nat) (E : X → Env) (H : X → Heap) {body : ACode} (x0 : X) (h0 : I x0) (hs0 : Sub C n e h (N x0) (E x0) (H x0))
    (round : ∀ x, I x → aw P C body (thenQ (fun n e h => ∃ x', I x' ∧ μ x' < μ x ∧ Sub C n e h (N x') (E x') (H x')) Q) (N x) (E x) (H x)) : aw P C (.loop body) Q n e h := by
  intro hm FN m hok c hc a w hs
  have : ∃ c1, c = .loop c1 ∧ cCode P C.nt c1 = some body := by
    unfold cCode at hc
    split at hc <;> first
      | (split at hc <;> first | (simp at hc; subst hc; exact ⟨_, rfl, by assumption⟩) | (simp at hc; done) | ((repeat' (split at hc)) <;> simp at hc; done))
      | (simp at hc; done)
  obtain ⟨c1, rfl, h1⟩ := this
  let p : Act → World → Nat → Prop := fun a w k => ∃ x, I x ∧ μ x = k ∧ St C (fun i => N x ≤ i) (E x) (H x) a w
  refine wpIn_loop (fun a w => ∃ k, p a w k) (fun a w => least (p a w)) ⟨_, x0, h0, rfl, hs0 a w hs⟩ ?_
  rintro a w ⟨k, hk⟩
  obtain ⟨⟨x, hx, hxk, hst⟩, _⟩ := least_spec hk
  refine wpIn_mono (round x hx hm FN m hok c1 h1 a w hst) fun ex a' w' ⟨n', e', h', hQ, hS⟩ => ?_
  cases ex with
  | normal =>
    obtain ⟨x', hx', hlt, hsub⟩ := hQ
    have hp' : p a' w' (μ x') := ⟨x', hx', rfl, hsub a' w' hS⟩
    refine ⟨⟨_, hp'⟩, ?_⟩
    have := (least_spec hp').2
    omega
  | _ => exact ⟨n', e', h', hQ, hS⟩

theorem aw_region {al : List AOper} (hk : opsK P al n e h (fun n e h => Q .normal n e h)) : aw P C (.region al) Q n e h := by
  intro hm FN m hok c hc a w hs
  have : ∃ id ops, c = .region id ops false ∧ cOpers P C.nt ops ops.toList = some al := by
    unfold cCode at hc
    split at hc <;> first
      | (simp at hc; done)
      | (split at hc
         · split at hc
           · simp at hc; subst hc; exact ⟨_, _, rfl, by assumption⟩
           · split at hc <;> simp at hc
         · simp at hc)
      | (split at hc <;> simp at hc; done)
  obtain ⟨id, ops, rfl, h1⟩ := this
  exact region_sound hok h1 hs hk

theorem aw_drawG {l : List DItem} (z : Option Nat) (hzn : ∀ i, z = some i → i < n) (alts : List Nat) (hk : dK P z n (l.map (DItem.setAlt alts)) e h fun e h => Q .normal (n + l.length) e h) : aw P C (.draw l) Q n e h := by
  intro hm FN m hok c hc a w hs
  have : ∃ id ops al, c = .region id ops true ∧ cOpers P C.nt ops ops.toList = some al ∧ masksOk ops (Region.before ops).toList = true ∧ pairsOk (dItems al (Region.before ops).toList) = true ∧ dItems al (Region.before ops).toList = l := by
    unfold cCode at hc
    split at hc <;> first
      | (simp at hc; done)
      | (split at hc
         · split at hc
           · simp at hc
           · split at hc
             · rename_i hb
               rw [Bool.and_eq_true] at hb
               simp at hc; exact ⟨_, _, _, rfl, by assumption, hb.1, hb.2, hc⟩
             · simp at hc
         · simp at hc)
      | (split at hc <;> simp at hc; done)
  obtain ⟨id, ops, al, rfl, h1, h2, h3, rfl⟩ := this
  exact draw_sound hok hm h1 h2 h3 hzn hs alts hk
theorem aw_draw {l : List DItem} (alts : List Nat) (hk : dK P none n (l.map (DItem.setAlt alts)) e h fun e h => Q .normal (n + l.length) e h) : aw P C (.draw l) Q n e h := aw_drawG none (fun _ h => by cases h) alts hk
/-- A region with calls that work on the variable id. -/
theorem aw_drawZ {l : List DItem} (alts : List Nat) (id : Nat) (hid : id < n) (hk : dK P (some id) n (l.map (DItem.setAlt alts)) e h fun e h => Q .normal (n + l.length) e h) : aw P C (.draw l) Q n e h := aw_drawG (some id) (fun i h => by cases h; exact hid) alts hk
end
end Go.Proofs.Ytelcpkjclcimbaa
