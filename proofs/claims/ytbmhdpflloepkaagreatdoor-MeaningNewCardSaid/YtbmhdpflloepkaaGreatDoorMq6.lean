/-
 Proved: for every input the law MeaningNew returns true,never panics,and leaves its arguments as0 they were,on the given card's conditions (the table of the bits package reads as0 the program's text lays it,and is tied to it).
-/
import Derived.SevenTiedAt
import Derived.Test.YtbmhdpflloepkaaGreatDoorCards
import Derived.Test.YtbmhdpflloepkaaGreatDoorTie
import Derived.Test.YtbmhdpflloepkaaGreatDoorMq5
set_option linter.unusedSimpArgs false
set_option linter.unusedVariables false
set_option linter.unusedSectionVars false

namespace Go.Proofs.YtbmhdpflloepkaaGreatDoor
open Go.RowKit
set_option linter.unusedVariables false
section
variable {P : Program} {C : Ctx} {Fr : Nat→Prop} {e : Env} {h : Heap} {F : Froz} {φ : Locs} {a : Act} {w : World}

def MSpec (P : Program) (f : FuncId) (b : Bx) (rest : List PV) (mk : Nat→PV) (R : Bx→Prop) : Prop :=
 ISpec P f 1 (.own 0 :: rest) (Heap.upd (fun _ => none) 0 b) fun n' r h' => ∃ id b',r = mk id∧h' id = some b'∧pureLL b'.elems∧R b'
theorem MSpec.run {f : FuncId} {b : Bx} {rest : List PV} {mk : Nat→PV} {R : Bx→Prop} (hs : MSpec P f b rest mk R) (hmk : Mk mk) (hpb : pureLL b.elems) (hpr : pureL rest) {k n : Nat} (hn : Fr n) (hb : h k = some b) (s : St' C Fr e h F φ a w) {vs : Array Value} (hv : RepL F φ vs (.own k :: rest)) :
 Calls P f vs w fun en w' => ∃ v b' F' φ',en = .returned v∧(pureLL b'.elems∧R b')∧Rep F' φ' v (mk n)∧St' C (fun i => Fr i∧i≠n) e ((h.del k).upd n b') F' φ' a w' := by
 obtain ⟨loc,hloc,hbx,hhas⟩ := s.live k b hb
 let φ1 : Locs := fun i => if i = 0 then some loc else none
 let C1 : Ctx := ⟨w,fun g => loc.has g,F,C.nt,φ1⟩
 have hφn : φ n = none := s.free n hn
 have hnone : ∀ {i : Nat} {bi : Bx},h i = some bi→i≠n := by
  rintro i bi hi rfl
  obtain ⟨loc,h1,_⟩ := s.live i bi hi
  rw [hφn] at h1; cases h1
 have hG : ∀ g,C1.G g→C.w0.heap.size≤g ∨ C.G g := fun g hg => (hhas g hg).1
 have hcells : ∀ g,C1.G g→∀ o : Obj,w.heap[g]? = some o→¬ o = .deferred (some []) := by
  rintro g hg o ho rfl
  rcases hbx.there hg with ⟨cells,t,hg⟩ | ⟨es,t,hg⟩
  · rw [hg] at ho; cases ho
  · rw [hg] at ho; cases ho
 have h0 : ∀ {i : Nat} {b0 : Bx},(Heap.upd (fun _ => none) 0 b) i = some b0→i = 0∧b0 = b := by
  intro i b0 hi
  by_cases hi0 : i = 0
  · subst hi0; rw [Heap.upd_same] at hi; exact ⟨rfl,(Option.some.inj hi).symm⟩
  · rw [Heap.upd_ne _ _ hi0] at hi; cases hi
 have s1 : St' C1 (fun i => 1≤i) (fun _ => none) (Heap.upd (fun _ => none) 0 b) F φ1 { a with defers := [] } w := by
  refine { nt := s.nt,glob := s.glob,marks := Marks.nil rfl,loc0 := fun i x hx => hx,free := fun i hi => ?_,env := fun j p hp => (by cases hp),froz := s.froz,ext := fun _ _ h => h,old := fun _ _ _ => rfl,os := rfl,tape := rfl,output := rfl,size := Nat.le_refl _,kept := fun _ _ _ => rfl,live := fun i b0 hi => ?_,sep := fun i j bi bj li lj g hi hj _ _ _ _ => ?_ }
  · simp only [φ1]; rw [if_neg (by omega)]
  · obtain ⟨rfl, rfl⟩ := h0 hi
    exact ⟨loc,by simp [φ1],hbx.names hpb,fun g hg => ⟨.inr hg,(hhas g hg).2⟩⟩
  · rw [(h0 hi).1,(h0 hj).1]
 have hv1 : RepL F φ1 vs (.own 0 :: rest) := by
  refine ⟨hv.1,fun i hi => ?_⟩
  have hr := hv.2 i hi
  cases i with
  | zero =>
    obtain ⟨loc',g1,gz,g4⟩ := (show Rep F φ (vs.getD 0 undef) (.own k) from hr).own_inv
    obtain rfl : loc' = loc := by rw [hloc] at g1; simpa using g1.symm
    rw [g4]
    exact .own 0 loc' (by simp [φ1]) gz
  | succ i =>
    have e1 : (PV.own k :: rest).getD (i + 1) pvu = rest.getD i pvu := rfl
    have e2 : (PV.own 0 :: rest).getD (i + 1) pvu = rest.getD i pvu := rfl
    rw [e1] at hr
    rw [e2]
    exact hr.pure (innL_getD hpr i)
 refine (hs.2 C1 _ F φ1 { a with defers := [] } w vs s1 hv1).mono ?_
 rintro en w' ⟨v,r,n',h',F',φ',rfl,⟨id,b',rfl,hb',hpb',hR⟩,hvr,s'⟩
 obtain ⟨loc',hl1,hl2,hl3⟩ := s'.live id b' hb'
 have hnew : ∀ g,loc'.has g→w.heap.size≤g ∨ loc.has g := fun g hg => (hl3 g hg).1
 let φ2 : Locs := fun i => if i = n then some loc' else φ i
 have hφ2 : φ2 n = some loc' := by simp [φ2]
 have hφ3 : ∀ {i : Nat},i≠n→φ2 i = φ i := fun {i} hi=>by simp [φ2,hi]
 have hφ4 : ∀ i x,φ i = some x→φ2 i = some x := fun i x hx => by
  rw [hφ3 fun e=>by rw [e,hφn] at hx; cases hx]; exact hx
 have hold : ∀ {i : Nat} {bi : Bx},i≠n→((h.del k).upd n b') i = some bi→i≠k∧h i = some bi := by
  intro i bi hin hi
  rw [Heap.upd_ne _ _ hin] at hi
  exact Heap.del_some hi
 refine ⟨v,b',F',φ2,rfl,⟨hpb',hR⟩,hmk F' φ' φ2 v id n (by rw [hl1,hφ2]) hvr,?_⟩
 refine { nt := s.nt, glob := s'.glob, marks := s.marks.mono (fun g hg => by rw [s'.kept g (Array.getElem?_eq_some_iff.1 hg).1 (fun hg' => hcells g hg' _ hg rfl)]; exact hg), loc0 := fun i x hx => hφ4 i x (s.loc0 i x hx), free := fun i hi => by rw [hφ3 hi.2]; exact s.free i hi.1, env := fun j p hp => ⟨(s.env j p hp).1, (s.env j p hp).2.mono s'.ext hφ4⟩, froz := s'.froz, ext := fun x v hx => s'.ext _ _ (s.ext x v hx),
          old := fun x hx hg => ?_,os := s'.os.trans s.os,tape := s'.tape.trans s.tape,output := s'.output.trans s.output,size := Nat.le_trans s.size s'.size,kept := fun g hk hg => ?_,live := fun i bi hi => ?_,sep := fun i j bi bj li lj g hi hj hli hlj hki hkj => ?_ }
 · have hx2 : x.block < w.heap.size := Nat.lt_of_lt_of_le hx s.size
   rw [s'.old x hx2 fun hg' => (hG _ hg').elim (fun h1 => absurd hx (Nat.not_lt.2 h1)) hg]
   exact s.old x hx hg
 · rw [s'.kept g (Nat.lt_of_lt_of_le hk s.size) fun hg' => (hG _ hg').elim (fun h1 => absurd hk (Nat.not_lt.2 h1)) hg]
   exact s.kept g hk hg
 · by_cases hid : i = n
   · subst hid
     rw [Heap.upd_same] at hi
     cases hi
     exact ⟨loc',hφ2,hl2.names hpb',fun g hg => ⟨(hnew g hg).elim (fun h1 => .inl (Nat.le_trans s.size h1)) (fun h1 => (hhas g h1).1),(hl3 g hg).2⟩⟩
   · obtain ⟨hik, hi0⟩ := hold hid hi
     obtain ⟨li,g1,g2,g3⟩ := s.live i bi hi0
     have hout : ∀ g,li.has g→¬ C1.G g := fun g hk hg => hik (s.sep i k bi b li loc g hi0 hb g1 hloc hk hg)
     have hblk : ∀ g,li.has g→w'.heap[g]? = w.heap[g]? := fun g hk => s'.kept g (s.has_lt hi0 g1 hk) (hout g hk)
     refine ⟨li,by rw [hφ3 hid]; exact g1,g2.mono s'.ext hφ4 hblk,fun g hk => ⟨(g3 g hk).1,fun x hx => ?_⟩⟩
     rw [s'.old x (by rw [hx]; exact s.has_lt hi0 g1 hk) (by rw [hx]; exact hout g hk)]
     exact (g3 g hk).2 x hx
 · have low : ∀ {i : Nat} {bi : Bx} {li : Loc}, i ≠ n → ((h.del k).upd n b') i = some bi → φ2 i = some li → li.has g → (i ≠ k ∧ h i = some bi ∧ φ i = some li ∧ g < w.heap.size) := by
    intro i bi li hne hi hli hki
    obtain ⟨hik,hi0⟩ := hold hne hi
    rw [hφ3 hne] at hli
    exact ⟨hik,hi0,hli,s.has_lt hi0 hli hki⟩
   have clash : ∀ {i : Nat} {bi : Bx} {li : Loc},i≠n→((h.del k).upd n b') i = some bi→φ2 i = some li→li.has g→loc'.has g→False := by
    intro i bi li hne hi hli hki hkn
    obtain ⟨hik,q1,q2,hlt⟩ := low hne hi hli hki
    rcases hnew g hkn with h1 | h1
    · omega
    · exact hik (s.sep i k bi b li loc g q1 hb q2 hloc hki h1)
   by_cases hi' : i = n
   · by_cases hj' : j = n
     · rw [hi',hj']
     · subst hi'
       rw [hφ2] at hli
       cases hli
       exact (clash hj' hj hlj hkj hki).elim
   · by_cases hj' : j = n
     · subst hj'
       rw [hφ2] at hlj
       cases hlj
       exact (clash hi' hi hli hki hkj).elim
     · obtain ⟨_, q1, q2, _⟩ := low hi' hi hli hki
       obtain ⟨_,p1,p2,_⟩ := low hj' hj hlj hkj
       exact s.sep i j bi bj li lj g q1 p1 q2 p2 hki hkj
theorem MSpec.frame {f : FuncId} {b : Bx} {rest : List PV} {mk : Nat→PV} {R : Bx→Prop} (hs : MSpec P f b rest mk R) (hmk : Mk mk) (hpb : pureLL b.elems) (hpr : pureL rest) {k n : Nat} (hb : h k = some b) :
 ISpec P f n (.own k :: rest) h fun n' r h' => ∃ b',n' = n + 1∧r = mk n∧h' = (h.del k).upd n b'∧pureLL b'.elems∧R b' := by
 refine ⟨hs.1,fun C e F φ a w vs s hv => (hs.run hmk hpb hpr (Nat.le_refl n) hb s hv).mono ?_⟩
 rintro en w' ⟨v,b',F',φ',rfl,⟨h1,h2⟩,hr,s'⟩
 exact ⟨v,mk n,n + 1,(h.del k).upd n b',F',φ',rfl,⟨b',rfl,rfl,rfl,h1,h2⟩,hr,{ s' with free := fun i hi => s'.free i ⟨by omega,by omega⟩ }⟩
theorem mspec_intro {f nt : Nat} {ac : ACode} {rs : List ARes} (hf : FnOk P f nt ac rs) {b : Bx} {rest : List PV} {mk : Nat→PV} {R : Bx→Prop} (hn : rest.length + 1≤nt) (hk : ∀ C : Ctx,C.dom 1→aw P C ac (retI rs fun n' r h' => ∃ id b',r = mk id∧h' id = some b'∧pureLL b'.elems∧R b') 1 (argEnv (.own 0 :: rest)) (heapL [(0,b)])) : MSpec P f b rest mk R :=
 ispec_intro hf hn hk
theorem opsK_mv {f : Operand} {args : List Operand} {g : FuncId} {caps as0 rest : List PV} {b : Bx} {k : Nat} {mk : Nat→PV} {R : Bx→Prop} {d : Option Nat} {os : List AOper} {n : Nat} {K : Nat→Env→Heap→Prop} (hs : MSpec P g b rest mk R) (hmk : Mk mk) (hf : ev e f = some (.fn g caps)) (ha : evs e args = some as0) (hr : as0 ++ caps = .own k :: rest) (hb : h k = some b) (hpb : pureLL b.elems) (hpr : pureL rest)
 (hk : ∀ b',pureLL b'.elems→R b'→opsK P os (n + 1) (updO e d (mk n)) ((h.del k).upd n b') K) : opsK P (⟨d,.call f args,none⟩ :: os) n e h K := by
 refine opsK_heap hf ha (R := fun n' r h' => ∃ b',n' = n + 1∧r = mk n∧h' = (h.del k).upd n b'∧pureLL b'.elems∧R b') (by rw [hr]; exact hs.frame hmk hpb hpr hb) ?_
 rintro n' r h' ⟨b',rfl,rfl,rfl,h1,h2⟩
 exact hk b' h1 h2
end
end Go.Proofs.YtbmhdpflloepkaaGreatDoor

namespace Go.Proofs.YtbmhdpflloepkaaGreatDoor
open Go.RowKit
set_option linter.unusedVariables false
attribute [local irreducible] aw opsK dK

def bookP (m : List En) (f : Bool) : PV := .cp [.vec (m.map enC) f]
theorem bookP_pure (m : List En) (f : Bool) : (bookP m f).pure := ⟨ens_pure m,trivial⟩
theorem bookNew_spec : Spec Tryz.prog 31 [] (· = bookP [] true) := by
 refine spec_intro ok31 (Nat.le_of_ble_eq_true rfl) fun C hC => ?_
 (repeat'(first|refine at_dst 2 ?_|refine at_dstD 2 ?_|refine st ?_|(apply B<;>intro hb<;>try cases hb)))<;>try refine At.mk ?_
 refine opsK_ofAlt rfl rfl rfl ?_
 (refine go ?_;repeat' (apply B<;>intro hb<;>try cases hb))
 exact ret_ok rfl (bookP_pure [] true) rfl
set_option maxHeartbeats 1000000 in
theorem activeP_spec (a : En) (d : Int) : Spec Tryz.prog 93 [.agg (enC a),.val (.int .i64 d)] (· = .val (.bool (decide (0≤d∧d≤30000∧d≤a.t)))) := by
 refine spec_intro ok93 (Nat.le_of_ble_eq_true rfl) fun C hC => ?_
 refine aw_seq ?_
 refine aw_region ?_
 refine opsK_ofAlt rfl rfl rfl ?_
 (refine go ?_;repeat' (apply B<;>intro hb<;>try cases hb))
 all_goals
  simp only [decide_eq_true_eq,decide_eq_false_iff_not] at *
  first
   | exact ret_ok rfl trivial (by rw [decide_eq_true (show 0≤d∧d≤30000∧d≤a.t by omega)])
   | exact ret_ok rfl trivial (by rw [decide_eq_false (show ¬ (0≤d∧d≤30000∧d≤a.t) by omega)])
theorem withP_spec (N : Nat) (hN : N < 18446744073709551616) (i : Nat) (hi : i < 64) : Spec Tryz.prog 58 [setN N,.val (.int .i64 (i : Int))] (· = setN (N ||| 2 ^ i)) := by
 have h2 := with_spec N (Nat.le_trans (digs_short hN) (by decide)) (i : Int)
 rw [withN,if_pos ⟨by omega,by omega⟩,Int.toNat_natCast] at h2
 exact h2
set_option maxHeartbeats 4000000 in
theorem onP_spec (m : List En) (hm : ∀ x∈m,EnOk x) (f : Bool) (u d : Nat) (hlen : m.length≤100000) : Spec Tryz.prog 54 [bookP m f,.val (.int .i64 (u : Int)),.val (.int .i64 (d : Int))] (· = setN (onN m u d)) := by
 have hnl := ens_len m
 refine spec_intro ok54 (Nat.le_of_ble_eq_true rfl) fun C hC => ?_
 (refine go ?_;repeat' (apply B<;>intro hb<;>try cases hb))
 have hz : (⟨1,[[.vec [] true]]⟩ : Bx).elems = [[.vec [] true]] := rfl
 refine aw_loopR hC (fun i => i≤m.length) (fun i => m.length - i) 2 (fun i => [(1,.val (.int .i64 (u : Int))),(2,.val (.int .i64 (d : Int))),(6,.ptr 0 0 0),(7,.ptr 1 0 0),(16,.vec (m.map enC) f),(17,.val (.int .i64 m.length)),(18,.val (.int .i64 (i : Int)))])
  (fun i => [(0,⟨1,[[.vec [] true]]⟩),(1,⟨1,[[.vec (words (digs (onN (m.take i) u d))) false]]⟩)]) (by omega) 0 (Nat.zero_le _) (fun i=>i) (fun _ _=>rfl) injOn_id
  ⟨⟨_,rfl,.pure _ trivial⟩,⟨_,rfl,.pure _ trivial⟩,⟨_,rfl,.ptr (ρ := fun i => i) 0 0 0 (by decide)⟩,⟨_,rfl,.ptr (ρ := fun i => i) 1 0 0 (by decide)⟩,⟨_,rfl,.pure _ (ens_pure m)⟩,⟨_,by rw [← hnl]; rfl,.pure _ trivial⟩,⟨_,rfl,.pure _ trivial⟩,trivial⟩
  ⟨⟨by decide,_,rfl,.same _ ⟨⟨trivial,trivial⟩,trivial⟩⟩,⟨by decide,⟨1,[[.vec [] true]]⟩,rfl,by rw [show onN (m.take 0) u d = 0 from rfl,digs_zero]; exact RenB.single (ρ := fun i => i) (l0 := [.vec [] true]) (l := [.vec [] false]) (show RenLs _ _ [_] [_] from ⟨.low (.vec [] true) trivial,trivial⟩) rfl⟩,trivial⟩ ?_
 intro i hi
 have hinc : IntKind.i64.wrap ((i : Int) + 1) = ((i + 1 : Nat) : Int) := IntWalk.i64_in _ ⟨by omega,by omega⟩
 have hfin : ∀ (i j : Nat) (e : Env) (h : Heap),True := fun _ _ _ _ => trivial
 clear hfin
 (repeat'(first|refine at_dst 19 ?_|refine at_dstD 19 ?_|refine st ?_|(apply B<;>intro hb<;>try cases hb)))<;>try refine At.mk ?_
 refine opsK_bool rfl rfl rfl (fun hb=>?_) (fun hb=>?_)
 · have hil : i < m.length := by have := of_decide_eq_true hb; omega
   have htk := take_snocG hil
   have hp := hm _ (List.getElem_mem hil)
   have hcur := onN_lt (m := m.take i) (fun x hx => hm x (List.mem_of_mem_take hx)) u d
   clear hb
   (refine go ?_;repeat' (apply B<;>intro hb<;>try cases hb))
   refine opsK_of (E_iaddr (xs := m) (g := enC) rfl rfl i rfl hil rfl) rfl rfl ?_
   generalize m[i] = p at htk hp ⊢
   have hsn := onL_snoc (m.take i) p u d
   rw [← htk] at hsn
   have hon : onN (m.take (i + 1)) u d = if actB u d p = true then onN (m.take i) u d ||| 2 ^ p.r else onN (m.take i) u d := by
    unfold onN
    rw [hsn]
    split
    · exact orL_snoc _ _
    · rfl
   have hr := hp.r
   have hac := activeP_spec p (d : Int)
   (repeat'(first|refine at_dst 25 ?_|refine at_dstD 25 ?_|refine st ?_|(apply B<;>intro hb<;>try cases hb)))<;>try refine At.mk ?_
   refine opsK_bool rfl rfl rfl (fun hb=>?_) (fun hb=>?_)
   · have hu : p.u = u := Int.ofNat_inj.1 (eq_of_beq hb)
     clear hb
     by_cases ha : d≤30000∧d≤p.t
     · rw [decide_eq_true (show 0 ≤ (d : Int) ∧ (d : Int) ≤ 30000 ∧ (d : Int) ≤ p.t by omega)] at hac
       have hab : actB u d p = true := by unfold actB; rw [decide_eq_true hu,decide_eq_true ha]; rfl
       rw [if_pos hab] at hon
       (refine go ?_;repeat' (apply B<;>intro hb<;>try cases hb))
       refine opsK_eq hac rfl rfl rfl ⟨enC_pure p,trivial,trivial⟩ rfl ?_
       (refine go ?_;repeat' (apply B<;>intro hb<;>try cases hb))
       refine opsK_eq (withP_spec _ hcur p.r (by omega)) rfl rfl rfl ⟨setN_pure _,trivial,trivial⟩ rfl ?_
       rw [← hon]
       (refine go ?_;repeat' (apply B<;>intro hb<;>try cases hb))
       exact ⟨i + 1,fun i => i,hil,by omega,fun _ _ => rfl,injOn_id,
        ⟨⟨_,rfl,.pure _ trivial⟩,⟨_,rfl,.pure _ trivial⟩,⟨_,rfl,.ptr (ρ := fun i => i) 0 0 0 (by decide)⟩,⟨_,rfl,.ptr (ρ := fun i => i) 1 0 0 (by decide)⟩,⟨_,rfl,.pure _ (ens_pure m)⟩,⟨_,rfl,.pure _ trivial⟩,⟨_,by show some _ = some _; rw [hinc],.pure _ trivial⟩,trivial⟩,
        ⟨⟨by decide,_,rfl,.same _ ⟨⟨trivial,trivial⟩,trivial⟩⟩,⟨by decide,_,rfl,.same _ ⟨⟨words_pure _,trivial⟩,trivial⟩⟩,trivial⟩⟩
     · rw [decide_eq_false (show ¬ (0 ≤ (d : Int) ∧ (d : Int) ≤ 30000 ∧ (d : Int) ≤ p.t) by omega)] at hac
       have hab : ¬ actB u d p = true := by unfold actB; rw [decide_eq_false ha,Bool.and_false]; decide
       rw [if_neg hab] at hon
       (refine go ?_;repeat' (apply B<;>intro hb<;>try cases hb))
       refine opsK_eq hac rfl rfl rfl ⟨enC_pure p,trivial,trivial⟩ rfl ?_
       rw [← hon]
       (refine go ?_;repeat' (apply B<;>intro hb<;>try cases hb))
       exact ⟨i + 1,fun i => i,hil,by omega,fun _ _ => rfl,injOn_id,
        ⟨⟨_,rfl,.pure _ trivial⟩,⟨_,rfl,.pure _ trivial⟩,⟨_,rfl,.ptr (ρ := fun i => i) 0 0 0 (by decide)⟩,⟨_,rfl,.ptr (ρ := fun i => i) 1 0 0 (by decide)⟩,⟨_,rfl,.pure _ (ens_pure m)⟩,⟨_,rfl,.pure _ trivial⟩,⟨_,by show some _ = some _; rw [hinc],.pure _ trivial⟩,trivial⟩,
        ⟨⟨by decide,_,rfl,.same _ ⟨⟨trivial,trivial⟩,trivial⟩⟩,⟨by decide,_,rfl,.same _ ⟨⟨words_pure _,trivial⟩,trivial⟩⟩,trivial⟩⟩
   · have hu : ¬ p.u = u := fun h => by rw [h] at hb; simp at hb
     have hab : ¬ actB u d p = true := by unfold actB; rw [decide_eq_false hu,Bool.false_and]; decide
     rw [if_neg hab] at hon
     clear hb
     rw [← hon]
     (refine go ?_;repeat' (apply B<;>intro hb<;>try cases hb))
     exact ⟨i + 1,fun i => i,hil,by omega,fun _ _ => rfl,injOn_id,
      ⟨⟨_,rfl,.pure _ trivial⟩,⟨_,rfl,.pure _ trivial⟩,⟨_,rfl,.ptr (ρ := fun i => i) 0 0 0 (by decide)⟩,⟨_,rfl,.ptr (ρ := fun i => i) 1 0 0 (by decide)⟩,⟨_,rfl,.pure _ (ens_pure m)⟩,⟨_,rfl,.pure _ trivial⟩,⟨_,by show some _ = some _; rw [hinc],.pure _ trivial⟩,trivial⟩,
      ⟨⟨by decide,_,rfl,.same _ ⟨⟨trivial,trivial⟩,trivial⟩⟩,⟨by decide,_,rfl,.same _ ⟨⟨words_pure _,trivial⟩,trivial⟩⟩,trivial⟩⟩
 · have hil : i = m.length := by have := of_decide_eq_false hb; omega
   subst hil
   rw [List.take_length]
   clear hb
   (refine go ?_;repeat' (apply B<;>intro hb<;>try cases hb))
   exact ret_ok rfl (setN_pure _) rfl
end Go.Proofs.YtbmhdpflloepkaaGreatDoor

namespace Go.Proofs.YtbmhdpflloepkaaGreatDoor
open Go.RowKit
set_option linter.unusedVariables false
attribute [local irreducible] aw opsK dK

def factP (a b : PV) (n d : Nat) : List PV := [a,b,.val (.int .i64 (n : Int)),.val (.int .i64 (d : Int))]
theorem factP_pure {a b : PV} (ha : a.pure) (hb : b.pure) (n d : Nat) : pureL (factP a b n d) := ⟨ha,hb,trivial,trivial,trivial⟩
theorem usersP_spec (a b : PV) (ha : a.pure) (hb : b.pure) (n d : Nat) (hn : n≤256) : Spec Tryz.prog 52 [.agg (factP a b n d)] (· = .val (.int .i64 (n : Int))) := by
 refine spec_intro ok52 (Nat.le_of_ble_eq_true rfl) fun C hC => ?_
 refine aw_seq ?_
 refine aw_region ?_
 refine opsK_ofAlt rfl rfl rfl ?_
 (refine go ?_;repeat' (apply B<;>intro hb<;>try cases hb))
 refine ret_ok rfl trivial ?_
 refine congrArg (fun v => PV.val (.int .i64 v)) ?_
 show (if (256 : Int) < (if (0 : Int) > (n : Int) then 0 else (n : Int)) then 256 else (if (0 : Int) > (n : Int) then 0 else (n : Int))) = n
 rw [if_neg (show ¬ (0 : Int) > (n : Int) by omega),if_neg (by omega)]
set_option maxHeartbeats 2000000 in
theorem memberP_spec {l : List Pr} {m : List En} {n d : Nat} (hT : Told l m n d) (S : List Nat) (f : Bool) (u : Int) : Spec Tryz.prog 14 [.agg (factP (hierP l S) (bookP m f) n d),.val (.int .i64 u)] (· = setN (memb l m n d u)) := by
 have hn := hT.n
 have hml := hT.m.len
 have hfp : pureL (factP (hierP l S) (bookP m f) n d) := factP_pure (hierP_pure l S) (bookP_pure m f) n d
 refine spec_intro ok14 (Nat.le_of_ble_eq_true rfl) fun C hC => ?_
 refine aw_seq ?_
 refine aw_region ?_
 refine opsK_ofAlt rfl rfl rfl ?_
 have hus := usersP_spec (hierP l S) (bookP m f) (hierP_pure l S) (bookP_pure m f) n d (by omega)
 by_cases hu1 : 1≤u
 case neg =>
  have h0 : memb l m n d u = 0 := by unfold memb; rw [if_neg fun h => hu1 h.1]
  have d1 : decide (u < 1) = true := decide_eq_true (by omega)
  rw [h0,setN_zero]
  (repeat'(first|refine at_dst 15 ?_|refine at_dstD 15 ?_|refine st ?_|(apply B<;>intro hb<;>try cases hb)))<;>try refine At.mk ?_
  refine opsK_on rfl ?_
  refine opsK_of (E_boolEq rfl d1) rfl rfl ?_
  (refine go ?_;repeat' (apply B<;>intro hb<;>try cases hb))
  exact ret_low rfl ⟨trivial,trivial⟩ rfl
 have d1 : decide (u < 1) = false := decide_eq_false (by omega)
 (repeat'(first|refine at_dst 15 ?_|refine at_dstD 15 ?_|refine st ?_|(apply B<;>intro hb<;>try cases hb)))<;>try refine At.mk ?_
 refine opsK_on rfl ?_
 refine opsK_of (E_boolEq rfl d1) rfl rfl ?_
 (repeat'(first|refine at_dst 20 ?_|refine at_dstD 20 ?_|refine st ?_|(apply B<;>intro hb<;>try cases hb)))<;>try refine At.mk ?_
 refine opsK_on rfl ?_
 refine opsK_eq hus rfl rfl rfl ⟨hfp,trivial⟩ rfl ?_
 by_cases hu : u≤n
 case neg =>
  have h0 : memb l m n d u = 0 := by unfold memb; rw [if_neg fun h => hu h.2]
  have d2 : decide (u > (n : Int)) = true := decide_eq_true (by omega)
  rw [h0,setN_zero]
  (repeat'(first|refine at_dst 21 ?_|refine at_dstD 21 ?_|refine st ?_|(apply B<;>intro hb<;>try cases hb)))<;>try refine At.mk ?_
  refine opsK_on rfl ?_
  refine opsK_of (E_boolEq rfl d2) rfl rfl ?_
  (refine go ?_;repeat' (apply B<;>intro hb<;>try cases hb))
  exact ret_low rfl ⟨trivial,trivial⟩ rfl
 have d2 : decide (u > (n : Int)) = false := decide_eq_false (by omega)
 have hmb : memb l m n d u = clo l (onN m u.toNat d) := by unfold memb; rw [if_pos ⟨hu1,hu⟩]
 rw [hmb]
 obtain ⟨k,rfl⟩ : ∃ k : Nat,u = (k : Int) := ⟨u.toNat,by omega⟩
 rw [Int.toNat_natCast]
 (repeat'(first|refine at_dst 21 ?_|refine at_dstD 21 ?_|refine st ?_|(apply B<;>intro hb<;>try cases hb)))<;>try refine At.mk ?_
 refine opsK_on rfl ?_
 refine opsK_of (E_boolEq rfl d2) rfl rfl ?_
 (repeat'(first|refine at_dst 31 ?_|refine at_dstD 31 ?_|refine st ?_|(apply B<;>intro hb<;>try cases hb)))<;>try refine At.mk ?_
 refine dK_eq (onP_spec m hT.m.ok f k d (by omega)) rfl rfl rfl ⟨bookP_pure m f,trivial,trivial,trivial⟩ ?_
 (repeat'(first|refine at_dst 32 ?_|refine at_dstD 32 ?_|refine st ?_|(apply B<;>intro hb<;>try cases hb)))<;>try refine At.mk ?_
 refine dK_eq (closure_spec l S (onN m k d) (onN_lt hT.m.ok k d)) rfl rfl rfl ⟨hierP_pure l S,setN_pure _,trivial⟩ ?_
 (refine go ?_;repeat' (apply B<;>intro hb<;>try cases hb))
 exact ret_ok rfl (setN_pure _) rfl
def cntG (M : Nat→Nat) (u r : Nat) : Nat := (List.range u).countP fun k => (M (k + 1)).testBit r
theorem cntG_succ (M : Nat→Nat) (u r : Nat) : cntG M (u + 1) r = if (M (u + 1)).testBit r = true then cntG M u r + 1 else cntG M u r := by
 unfold cntG
 rw [List.range_succ,List.countP_append,List.countP_singleton]
 split <;> rfl
theorem cntG_le (M : Nat→Nat) (u r : Nat) : cntG M u r≤u := by
 have h : cntG M u r≤(List.range u).length := List.countP_le_length
 rwa [List.length_range] at h
def cntL (M : Nat→Nat) (u : Nat) (rs : List Nat) (j : Nat) : Int := ((cntG M u j + rs.count j : Nat) : Int)
theorem cntL_nil (M : Nat→Nat) (u j : Nat) : cntL M u [] j = (cntG M u j : Nat) := by unfold cntL; rw [List.count_nil]; rfl
theorem mem_nodup (N : Nat) : (mem N).Nodup := List.Nodup.sublist List.filter_sublist List.nodup_range
theorem cntL_end (M : Nat→Nat) (u : Nat) (hM : M (u + 1) < 18446744073709551616) (j : Nat) : cntL M u (mem (M (u + 1))) j = (cntG M (u + 1) j : Nat) := by
 unfold cntL
 rw [cntG_succ,List.Nodup.count (mem_nodup _)]
 by_cases h : (M (u + 1)).testBit j = true
 · rw [if_pos h,if_pos ((mem_iff hM).2 h)]
 · rw [if_neg h,if_neg fun h2 => h ((mem_iff hM).1 h2),Nat.add_zero]
theorem cntL_snoc (M : Nat→Nat) (u : Nat) (rs : List Nat) (r j : Nat) : cntL M u (rs ++ [r]) j = if j = r then cntL M u rs r + 1 else cntL M u rs j := by
 unfold cntL
 rw [List.count_append,List.count_singleton]
 by_cases hj : j = r
 · subst hj
   rw [if_pos rfl,if_pos (beq_self_eq_true j)]
   omega
 · rw [if_neg hj, if_neg (by simpa using fun h => hj h.symm)]
   rfl
theorem cntL_le (M : Nat→Nat) (u : Nat) (rs : List Nat) (j : Nat) : 0≤cntL M u rs j∧cntL M u rs j≤u + rs.length := by
 have h1 := cntG_le M u j
 have h2 : rs.count j≤rs.length := List.count_le_length
 unfold cntL
 omega
def cntP0 (M : Nat→Nat) (n : Nat) : List Int := (List.range 64).map fun r => ((cntG M n r : Nat) : Int)
set_option maxHeartbeats 4000000 in
theorem countsP_spec (a b : PV) (ha : a.pure) (hb : b.pure) (n d : Nat) (hn : n≤256) (M : Nat→Nat) (hM : ∀ u,M u < 18446744073709551616) (hS : ∀ u : Nat,Spec Tryz.prog 14 [.agg (factP a b n d),.val (.int .i64 (u : Int))] (· = setN (M u))) : Spec Tryz.prog 24 [.agg (factP a b n d)] (· = .vec (nums (cntP0 M n)) false) := by
 have hfp : pureL (factP a b n d) := factP_pure ha hb n d
 have hfc : ∀ D,innL D (factP a b n d) := fun D => innL_mono (fun _ h => h.elim) _ hfp
 have hus := usersP_spec a b ha hb n d hn
 refine spec_intro ok24 (Nat.le_of_ble_eq_true rfl) fun C hC => ?_
 refine aw_seq ?_
 refine aw_region ?_
 refine opsK_ofAlt rfl rfl rfl ?_
 (repeat'(first|refine at_dst 6 ?_|refine at_dstD 6 ?_|refine st ?_|(apply B<;>intro hb<;>try cases hb)))<;>try refine At.mk ?_
 refine opsK_new (E_mslice (a := 64) (b := 64) rfl rfl (Nat.le_refl _) (by decide)) rfl rfl ?_
 (refine go ?_;repeat' (apply B<;>intro hb<;>try cases hb))
 refine aw_loopH hC (fun u => u≤n) (fun u => n - u) 2 (fun u => [(1,.cp (factP a b n d)),(3,.ptr 1 0 0),(4,.val (.int .i64 ((u + 1 : Nat) : Int)))]) (fun u => [(0,⟨1,tab (intR fun j => ((cntG M u j : Nat) : Int))⟩),(1,⟨1,[[.own 0]]⟩)]) (Nat.zero_le _) 0 (Nat.zero_le _)
  ⟨⟨rfl, hfc _⟩, ⟨rfl, show (1 : Nat) < 2 by decide⟩, ⟨rfl, trivial⟩, trivial⟩ ⟨⟨by decide, by
    refine congrArg (fun t => some (Bx.mk 1 t)) ((tab_rep [.val (.int .i64 0)]).trans ?_)
    exact tab_congr fun j _ => rfl,tabI_inn _ _⟩,⟨by decide,rfl,⟨show (0 : Nat) < 2 by decide,trivial⟩,trivial⟩,trivial⟩ ?_
 intro u hu
 have hunc : IntKind.i64.wrap (((u + 1 : Nat) : Int) + 1) = ((u + 1 + 1 : Nat) : Int) := IntWalk.i64_in _ ⟨by omega,by omega⟩
 (repeat'(first|refine at_dst 9 ?_|refine at_dstD 9 ?_|refine st ?_|(apply B<;>intro hb<;>try cases hb)))<;>try refine At.mk ?_
 refine opsK_eq hus rfl rfl rfl ⟨hfp,trivial⟩ rfl ?_
 (repeat'(first|refine at_dst 10 ?_|refine at_dstD 10 ?_|refine st ?_|(apply B<;>intro hb<;>try cases hb)))<;>try refine At.mk ?_
 refine opsK_bool rfl rfl rfl (fun hb=>?_) (fun hb=>?_)
 · have hun : u < n := by have := of_decide_eq_true hb; omega
   clear hb
   (repeat'(first|refine at_dst 15 ?_|refine at_dstD 15 ?_|refine st ?_|(apply B<;>intro hb<;>try cases hb)))<;>try refine At.mk ?_
   refine opsK_eq (hS (u + 1)) rfl rfl rfl ⟨hfp,trivial,trivial⟩ rfl ?_
   (repeat'(first|refine at_dst 16 ?_|refine at_dstD 16 ?_|refine st ?_|(apply B<;>intro hb<;>try cases hb)))<;>try refine At.mk ?_
   refine opsK_eq (allfn_spec (M (u + 1))) rfl rfl rfl ⟨setN_pure _,trivial⟩ rfl ?_
   (refine go ?_;repeat' (apply B<;>intro hb<;>try cases hb))
   refine aw_range (X := List Nat) hC (caps := [.cp [.vec (words (digs (M (u + 1)))) false]]) [(1,.cp (factP a b n d)),(3,.ptr 1 0 0),(4,.val (.int .i64 ((u + 1 : Nat) : Int))),(16,.fn 98 [.cp [.vec (words (digs (M (u + 1)))) false]])]
    (fun z => [(0,⟨1,tab (intR (cntL M u z))⟩),(1,⟨1,[[.own 0]]⟩)]) rfl ⟨⟨words_pure _,trivial⟩,trivial⟩ (all_iter (M (u + 1)) (hM _)) (fun _ => rfl)
    (fun ex pre z => ex = .normal∧z = pre.map (·.val)) 2 (Nat.zero_le _) [] ⟨rfl,rfl⟩
    (sub_keep hC (Nat.zero_le _) ⟨⟨rfl,hfc _⟩,⟨rfl,show (1 : Nat) < 2 by decide⟩,⟨rfl,trivial⟩,⟨rfl,⟨words_inn _ _,trivial⟩,trivial⟩,trivial⟩ ⟨⟨by decide,congrArg (fun t => some (Bx.mk 1 t)) (tab_int fun j _ => (cntL_nil M u j).symm),tabI_inn _ _⟩,⟨by decide,rfl,⟨show (0 : Nat) < 2 by decide,trivial⟩,trivial⟩,trivial⟩)
    (fun z q hq=>by simp at hq; rcases hq with rfl | rfl <;> exact Nat.one_pos) _ (fun x => rfl) ?_ ?_ ?_
   · rintro C2 hC2 pre x z ⟨-, rfl⟩ hlen
     have hx64 := mem_lt x.2
     have hml := mem_length (M (u + 1))
     have hle := cntL_le M u (pre.map (·.val)) x.val
     rw [List.length_map] at hle
     have hst := fun j => cntL_snoc M u (pre.map (·.val)) x.val j
     have dl : decide (((x.val : Nat) : Int) < ((tab (intR (cntL M u (pre.map (·.val))))).length : Nat)) = true := decide_eq_true (by rw [tab_len];omega)
     (repeat'(first|refine at_dst 21 ?_|refine at_dstD 21 ?_|refine st ?_|(apply B<;>intro hb<;>try cases hb)))<;>try refine At.mk ?_
     refine opsK_of (E_boolEq rfl dl) rfl rfl ?_
     (repeat'(first|refine at_dst 24 ?_|refine at_dstD 24 ?_|refine st ?_|(apply B<;>intro hb<;>try cases hb)))<;>try refine At.mk ?_
     refine opsK_of (E_iaddrO rfl rfl rfl x.val rfl (by rw [tab_len]; exact hx64) rfl) rfl rfl ?_
     refine opsK_of (E_load (i := x.val) rfl rfl (by rw [tab_len]; exact hx64) (by rw [tab_get hx64]; rfl)) rfl rfl ?_
     (repeat'(first|refine at_dst 27 ?_|refine at_dstD 27 ?_|refine st ?_|(apply B<;>intro hb<;>try cases hb)))<;>try refine At.mk ?_
     refine opsK_of (E_iaddrO rfl rfl rfl x.val rfl (by rw [tab_len]; exact hx64) rfl) rfl rfl ?_
     refine opsK_of (E_store (i := x.val) rfl rfl rfl rfl rfl (by rw [tab_len]; exact hx64) (Nat.le_refl _)) rfl rfl ?_
     (refine go ?_;repeat' (apply B<;>intro hb<;>try cases hb))
     have hadd : IntKind.i64.wrap (cntL M u (pre.map (·.val)) x.val + 1) = cntL M u (pre.map (·.val)) x.val + 1 := IntWalk.i64_in _ ⟨by omega,by omega⟩
     have hbox : ((tab (intR (cntL M u (pre.map (·.val))))).set x.val (setAt ((tab (intR (cntL M u (pre.map (·.val))))).getD x.val []) 0 [.val (.int .i64 (IntKind.i64.wrap (cntL M u (pre.map (·.val)) x.val + 1)))])) = tab (intR (cntL M u (pre.map (·.val) ++ [x.val]))) := by
      rw [tabI_set _ hx64,hadd]
      exact tab_int fun j _ => (hst j).symm
     refine ⟨.inl rfl,pre.map (·.val) ++ [x.val],fun i => i,⟨rfl,by rw [List.map_append]; rfl⟩,fun i hi => rfl,injOn_id,
      ⟨⟨_,rfl,.pure _ hfp⟩,⟨_,rfl,.ptr (ρ := fun i => i) 1 0 0 (by decide)⟩,⟨_,rfl,.pure _ trivial⟩,⟨_,rfl,.pure _ ⟨⟨words_pure _,trivial⟩,trivial⟩⟩,trivial⟩,
      ⟨⟨by decide,_,rfl,?_⟩,⟨by decide,_,rfl,RenB.single (ρ := fun i => i) ⟨.own 0 (by decide),trivial⟩ rfl⟩,trivial⟩⟩
     have hpp := tab_pure (intR_pure (cntL M u (pre.map (·.val) ++ [x.val])))
     rw [← hbox] at hpp ⊢
     exact .same _ hpp
   · rintro xs z hxs ⟨-, rfl⟩
     rw [hxs]
     (refine go ?_;repeat' (apply B<;>intro hb<;>try cases hb))
     exact ⟨u + 1,hun,by omega,⟨⟨rfl,hfc _⟩,⟨rfl,show (1 : Nat) < 2 by decide⟩,⟨by show some _ = some _; rw [hunc],trivial⟩,trivial⟩,⟨⟨by decide,congrArg (fun t => some (Bx.mk 1 t)) (tab_int fun j _ => cntL_end M u (hM _) j),tabI_inn _ _⟩,⟨by decide,rfl,⟨show (0 : Nat) < 2 by decide,trivial⟩,trivial⟩,trivial⟩⟩
   · rintro ex pre z - ⟨rfl,_⟩ (h | ⟨id,h⟩) <;> cases h
 · have hun : u = n := by have := of_decide_eq_false hb; omega
   clear hb
   have hfin : tab (intR fun r => ((cntG M u r : Nat) : Int)) = nums (cntP0 M n) := by rw [hun]; exact tab_nums _
   rw [hfin]
   (repeat'(first|refine at_dst 2 ?_|refine at_dstD 2 ?_|refine st ?_|(apply B<;>intro hb<;>try cases hb)))<;>try refine At.mk ?_
   refine opsK_sub (subA_freeze (k := 28) rfl rfl (nums_pure _)) ?_
   (refine go ?_;repeat' (apply B<;>intro hb<;>try cases hb))
   exact ret_ok rfl (nums_pure _) rfl
end Go.Proofs.YtbmhdpflloepkaaGreatDoor

namespace Go.Proofs.YtbmhdpflloepkaaGreatDoor
open Go.RowKit
set_option linter.unusedVariables false
attribute [local irreducible] aw opsK dK

def cmpE (x y : En) : Int := if x.u = y.u then (x.r : Int) - y.r else (x.u : Int) - y.u
theorem cmpE_lt (x y : En) : cmpE x y < 0 ↔ ltE x y := by
 unfold cmpE ltE
 split <;> omega
theorem cmpE_eq (x y : En) : cmpE x y = 0 ↔ x.u = y.u∧x.r = y.r := by
 unfold cmpE
 split <;> omega
def KeyOk (x : En) : Prop := x.u≤256∧x.r≤63
set_option maxHeartbeats 1000000 in
theorem cmpE_spec (x y : En) (hx : KeyOk x) (hy : KeyOk y) : Spec Tryz.prog 90 [.agg (enC x),.agg (enC y)] (· = .val (.int .i64 (cmpE x y))) := by
 obtain ⟨h1,h2⟩ := hx
 obtain ⟨h3,h4⟩ := hy
 refine spec_intro ok90 (Nat.le_of_ble_eq_true rfl) fun C hC => ?_
 have w1 : IntKind.i64.wrap ((x.u : Int) - y.u) = (x.u : Int) - y.u := IntWalk.i64_in _ ⟨by omega,by omega⟩
 have w2 : IntKind.i64.wrap ((x.r : Int) - y.r) = (x.r : Int) - y.r := IntWalk.i64_in _ ⟨by omega,by omega⟩
 refine aw_seq ?_
 refine aw_region ?_
 refine opsK_ofAlt rfl rfl rfl ?_
 refine opsK_ofAlt rfl rfl rfl ?_
 by_cases hu : x.u = y.u
 · have hc : cmpE x y = (x.r : Int) - y.r := by unfold cmpE; rw [if_pos hu]
   have d1 : (!((x.u : Int) == (y.u : Int))) = false := by rw [hu]; simp
   rw [hc,← w2]
   (repeat'(first|refine at_dst 9 ?_|refine at_dstD 9 ?_|refine st ?_|(apply B<;>intro hb<;>try cases hb)))<;>try refine At.mk ?_
   refine opsK_of (E_boolEq rfl d1) rfl rfl ?_
   (refine go ?_;repeat' (apply B<;>intro hb<;>try cases hb))
   exact ret_ok rfl trivial rfl
 · have hc : cmpE x y = (x.u : Int) - y.u := by unfold cmpE; rw [if_neg hu]
   have d1 : (!((x.u : Int) == (y.u : Int))) = true := by simp; omega
   rw [hc,← w1]
   (repeat'(first|refine at_dst 9 ?_|refine at_dstD 9 ?_|refine st ?_|(apply B<;>intro hb<;>try cases hb)))<;>try refine At.mk ?_
   refine opsK_of (E_boolEq rfl d1) rfl rfl ?_
   (refine go ?_;repeat' (apply B<;>intro hb<;>try cases hb))
   exact ret_ok rfl trivial rfl
structure Place (m : List En) (y : En) (k : Nat) (found : Bool) : Prop where
 le : k≤m.length
 before : ∀ (i : Nat) (h : i < m.length),i < k→ltE m[i] y
 after : ∀ (i : Nat) (h : i < m.length),k≤i→¬ ltE m[i] y
 found : found = true ↔ ∃ q,m[k]? = some q∧q.u = y.u∧q.r = y.r
theorem half_wrap (i j : Nat) (h : i + j < 9223372036854775808) : IntKind.i64.wrap ((((i + j : Nat) : Int)).fdiv (2 ^ min (Int.toNat 1) IntKind.u64.bits)) = (((i + j) / 2 : Nat) : Int) := by
 have e1 := fdiv_nat (i + j) 1 (by decide)
 rw [show ((1 : Nat) : Int) = (1 : Int) from rfl] at e1
 rw [e1]
 exact IntWalk.i64_in _ ⟨by omega,by omega⟩
set_option maxHeartbeats 4000000 in
theorem binS_spec (m : List En) (f : Bool) (y : En) (hs : SortedE m) (hm : ∀ x∈m,KeyOk x) (hy : KeyOk y) (hlen : m.length≤100000) : Spec Tryz.prog 89 [.vec (m.map enC) f,.agg (enC y),.fn 90 []] fun r => ∃ k found,Place m y k found∧r = .tup [.val (.int .i64 ((k : Nat) : Int)),.val (.bool found)] := by
 have hnl := ens_len m
 have hce : ∀ D,innL D (enC y) := fun D => innL_mono (fun _ h => h.elim) _ (enC_pure y)
 have hsi : ∀ (i j : Nat) (hi : i < m.length) (hj : j < m.length),i < j→ltE m[i] m[j] := fun i j hi hj h => List.pairwise_iff_getElem.1 hs i j hi hj h
 refine spec_intro ok89 (Nat.le_of_ble_eq_true rfl) fun C hC => ?_
 refine aw_seq ?_
 refine aw_region ?_
 refine opsK_ofAlt rfl rfl rfl ?_
 (refine go ?_;repeat' (apply B<;>intro hb<;>try cases hb))
 refine aw_loopH hC (fun (z : Nat × Nat) => z.1≤z.2∧z.2≤m.length∧(∀ (i : Nat) (h : i < m.length),i < z.1→ltE m[i] y)∧(∀ (i : Nat) (h : i < m.length),z.2≤i→¬ ltE m[i] y)) (fun z => z.2 - z.1) 0 (fun z => [(0,.vec (m.map enC) f),(2,.fn 90 []),(4,.cp (enC y)),(8,.val (.int .i64 m.length)),(9,.val (.int .i64 (z.1 : Int))),(10,.val (.int .i64 (z.2 : Int)))]) (fun _=>[]) (Nat.zero_le _) (0,m.length) ⟨Nat.zero_le _,Nat.le_refl _,fun i h h2 => absurd h2 (Nat.not_lt_zero _),fun i h h2 => absurd h (by simp only at h2;omega)⟩
  ⟨⟨rfl,ens_inn _ _⟩,⟨rfl,trivial⟩,⟨rfl,hce _⟩,⟨by rw [← hnl]; rfl,trivial⟩,⟨rfl,trivial⟩,⟨by rw [← hnl]; rfl,trivial⟩,trivial⟩ trivial ?_
 rintro ⟨i,j⟩ ⟨hij,hj,hbef,haft⟩
 simp only at hij hj hbef haft
 (repeat'(first|refine at_dst 17 ?_|refine at_dstD 17 ?_|refine st ?_|(apply B<;>intro hb<;>try cases hb)))<;>try refine At.mk ?_
 refine opsK_bool rfl rfl rfl (fun hb=>?_) (fun hb=>?_)
 · have hlt : i < j := by have := of_decide_eq_true hb; omega
   have hk : (i + j) / 2 < m.length := by omega
   have hka := hm _ (List.getElem_mem hk)
   have hsa := fun q hq => hsi q ((i + j) / 2) hq hk
   have hsb := fun q hq => hsi ((i + j) / 2) q hk hq
   clear hb
   (repeat'(first|refine at_dst 20 ?_|refine at_dstD 20 ?_|refine st ?_|(apply B<;>intro hb<;>try cases hb)))<;>try refine At.mk ?_
   refine opsK_int rfl rfl rfl (show IntKind.i64.wrap ((i : Int) + (j : Int)) = ((i + j : Nat) : Int) from IntWalk.i64_in _ ⟨by omega,by omega⟩) ?_
   (repeat'(first|refine at_dst 21 ?_|refine at_dstD 21 ?_|refine st ?_|(apply B<;>intro hb<;>try cases hb)))<;>try refine At.mk ?_
   refine opsK_int rfl rfl rfl (w64 (i + j) (by omega)) ?_
   (repeat'(first|refine at_dst 23 ?_|refine at_dstD 23 ?_|refine st ?_|(apply B<;>intro hb<;>try cases hb)))<;>try refine At.mk ?_
   refine opsK_int rfl rfl rfl (half_wrap i j (by omega)) ?_
   generalize hkd : (i + j) / 2 = k at hk hka hsa hsb ⊢
   (repeat'(first|refine at_dst 27 ?_|refine at_dstD 27 ?_|refine st ?_|(apply B<;>intro hb<;>try cases hb)))<;>try refine At.mk ?_
   refine dK_of (E_iaddr (xs := m) (g := enC) rfl rfl k rfl hk rfl) rfl rfl ?_
   generalize hpd : m[k] = p at hka hsa hsb ⊢
   have hknc : IntKind.i64.wrap ((k : Int) + 1) = ((k + 1 : Nat) : Int) := IntWalk.i64_in _ ⟨by omega,by omega⟩
   (repeat'(first|refine at_dst 30 ?_|refine at_dstD 30 ?_|refine st ?_|(apply B<;>intro hb<;>try cases hb)))<;>try refine At.mk ?_
   refine dK_eq (cmpE_spec p y hka hy) rfl rfl rfl ⟨enC_pure p,enC_pure y,trivial⟩ ?_
   (repeat'(first|refine at_dst 31 ?_|refine at_dstD 31 ?_|refine st ?_|(apply B<;>intro hb<;>try cases hb)))<;>try refine At.mk ?_
   refine dK_bool rfl rfl rfl (fun hb=>?_) (fun hb=>?_)
   · have hl : ltE p y := (cmpE_lt p y).1 (of_decide_eq_true hb)
     clear hb
     (refine go ?_;repeat' (apply B<;>intro hb<;>try cases hb))
     refine ⟨(k + 1,j),⟨by simp only; omega,hj,fun q hq h => ?_,haft⟩,by simp only; omega,⟨⟨rfl,ens_inn _ _⟩,⟨rfl,trivial⟩,⟨rfl,hce _⟩,⟨rfl,trivial⟩,⟨by show some _ = some _; rw [hknc],trivial⟩,⟨rfl,trivial⟩,trivial⟩,trivial⟩
     simp only at h
     rcases Nat.lt_or_eq_of_le (Nat.le_of_lt_succ h) with h | rfl
     · have := hsa q hq h
       unfold ltE at this hl ⊢
       omega
     · rw [hpd]; exact hl
   · have hl : ¬ ltE p y := fun h => by have := of_decide_eq_false hb; exact this ((cmpE_lt p y).2 h)
     clear hb
     (refine go ?_;repeat' (apply B<;>intro hb<;>try cases hb))
     refine ⟨(i,k),⟨by simp only; omega,by simp only; omega,hbef,fun q hq h => ?_⟩,by simp only; omega,⟨⟨rfl,ens_inn _ _⟩,⟨rfl,trivial⟩,⟨rfl,hce _⟩,⟨rfl,trivial⟩,⟨rfl,trivial⟩,⟨rfl,trivial⟩,trivial⟩,trivial⟩
     simp only at h
     rcases Nat.lt_or_eq_of_le h with h | rfl
     · have := hsb q hq h
       unfold ltE at this hl ⊢
       omega
     · rw [hpd]; exact hl
 · have hlt : i = j := by have := of_decide_eq_false hb; omega
   subst hlt
   clear hb
   by_cases hi : i < m.length
   · have d1 : decide ((i : Int) < (m.length : Nat)) = true := decide_eq_true (by omega)
     have hget : m[i]? = some m[i] := List.getElem?_eq_getElem hi
     have hka := hm _ (List.getElem_mem hi)
     (repeat'(first|refine at_dst 38 ?_|refine at_dstD 38 ?_|refine st ?_|(apply B<;>intro hb<;>try cases hb)))<;>try refine At.mk ?_
     refine dK_of (E_boolEq rfl d1) rfl rfl ?_
     (repeat'(first|refine at_dst 43 ?_|refine at_dstD 43 ?_|refine st ?_|(apply B<;>intro hb<;>try cases hb)))<;>try refine At.mk ?_
     refine dK_on rfl ?_
     refine dK_of (E_iaddr (xs := m) (g := enC) rfl rfl i rfl hi rfl) rfl rfl ?_
     generalize m[i] = p at hget hka ⊢
     (repeat'(first|refine at_dst 46 ?_|refine at_dstD 46 ?_|refine st ?_|(apply B<;>intro hb<;>try cases hb)))<;>try refine At.mk ?_
     refine dK_on rfl ?_
     refine dK_eq (cmpE_spec p y hka hy) rfl rfl rfl ⟨enC_pure p,enC_pure y,trivial⟩ ?_
     (repeat'(first|refine at_dst 47 ?_|refine at_dstD 47 ?_|refine st ?_|(apply B<;>intro hb<;>try cases hb)))<;>try refine At.mk ?_
     refine dK_on rfl ?_
     refine dK_bool rfl rfl rfl (fun hb=>?_) (fun hb=>?_)
     · have he := (cmpE_eq p y).1 (eq_of_beq hb)
       (refine go ?_;repeat' (apply B<;>intro hb<;>try cases hb))
       exact ret_ok rfl ⟨trivial,trivial,trivial⟩ ⟨i,true,⟨hj,hbef,haft,⟨fun _ => ⟨p,hget,he⟩,fun _ => rfl⟩⟩,rfl⟩
     · have he : ¬ (p.u = y.u ∧ p.r = y.r) := fun h => by
        have h2 := (cmpE_eq p y).2 h
        rw [h2] at hb
        exact absurd hb (by decide)
       (refine go ?_;repeat' (apply B<;>intro hb<;>try cases hb))
       exact ret_ok rfl ⟨trivial,trivial,trivial⟩ ⟨i,false,⟨hj,hbef,haft,⟨fun h => (by cases h),fun ⟨q,hq,h⟩=>by rw [hget] at hq; cases hq; exact absurd h he⟩⟩,rfl⟩
   · have d1 : decide ((i : Int) < (m.length : Nat)) = false := decide_eq_false (by omega)
     have hget : m[i]? = none := List.getElem?_eq_none (by omega)
     (repeat'(first|refine at_dst 38 ?_|refine at_dstD 38 ?_|refine st ?_|(apply B<;>intro hb<;>try cases hb)))<;>try refine At.mk ?_
     refine dK_of (E_boolEq rfl d1) rfl rfl ?_
     (refine go ?_;repeat' (apply B<;>intro hb<;>try cases hb))
     exact ret_ok rfl ⟨trivial,trivial,trivial⟩ ⟨i,false,⟨hj,hbef,haft,⟨fun h => (by cases h),fun ⟨q,hq,h⟩=>by rw [hget] at hq; cases hq⟩⟩,rfl⟩
end Go.Proofs.YtbmhdpflloepkaaGreatDoor

namespace Go.Proofs.YtbmhdpflloepkaaGreatDoor
open Go.RowKit
set_option linter.unusedVariables false
attribute [local irreducible] aw opsK dK

theorem ens_cell (l : List En) : ∀ c∈l.map enC,c.length = 3 := fun c hc=>by obtain ⟨y,_,rfl⟩ := List.mem_map.1 hc; rfl
set_option maxHeartbeats 1000000 in
theorem cloneE_own (xs : List En) (fl : Bool) (hlen : xs.length≤100000) : NSpec Tryz.prog 49 [.vec (xs.map enC) fl] .own ⟨3,xs.map enC⟩ := by
 refine nspec_intro ok49 (Nat.le_of_ble_eq_true rfl) fun C hC => ?_
 cases xs with
 | nil =>
   (refine go ?_;repeat' (apply B<;>intro hb<;>try cases hb))
   refine opsK_isnil (.inl ⟨_,_,rfl⟩) rfl fun b => ?_
   cases b
   · repeat' (first | refine opsK_sub (subA_ownNil (k := 5) rfl 3 (by decide)) ?_ | (first|refine st ?_|(apply B<;>intro hb<;>try cases hb)))
     exact ⟨_,_,rfl,.inl rfl,_,rfl,rfl⟩
   · iterate 6 (first|refine st ?_|(apply B<;>intro hb<;>try cases hb))
     refine aw_sub (subA_ownNil (k := 2) rfl 3 (by decide) _) ?_
     (refine go ?_;repeat' (apply B<;>intro hb<;>try cases hb))
     exact ⟨_,_,rfl,.inl rfl,_,rfl,rfl⟩
 | cons x xs =>
   repeat' (first | refine opsK_sub (subA_ownNil (k := 5) rfl 3 (by decide)) ?_ | (first|refine st ?_|(apply B<;>intro hb<;>try cases hb)))
   refine opsK_new (E_append (k := 0) (m := (x :: xs).map enC) (fl := fl) rfl rfl rfl (ens_cell (x :: xs)) rfl (by
    show (([] : List (List PV)).length + ((x :: xs).map enC).length) * 24≤_
    rw [List.length_map,List.length_nil];omega)) rfl rfl ?_
   (refine go ?_;repeat' (apply B<;>intro hb<;>try cases hb))
   exact ⟨_,_,rfl,.inl rfl,_,rfl,by rw [List.nil_append]; rfl⟩
set_option maxHeartbeats 1000000 in
theorem findP_spec (m : List En) (f : Bool) (u r : Nat) (hs : SortedE m) (hm : ∀ x∈m,KeyOk x) (hy : u≤256∧r≤63) (hlen : m.length≤100000) : Spec Tryz.prog 50 [bookP m f,.val (.int .i64 (u : Int)),.val (.int .i64 (r : Int))] fun v => ∃ k found,Place m ⟨u,r,0⟩ k found∧v = .tup [.val (.int .i64 ((k : Nat) : Int)),.val (.bool found)] := by
 refine spec_intro ok50 (Nat.le_of_ble_eq_true rfl) fun C hC => ?_
 (repeat'(first|refine at_dst 15 ?_|refine at_dstD 15 ?_|refine st ?_|(apply B<;>intro hb<;>try cases hb)))<;>try refine At.mk ?_
 refine opsK_spec rfl rfl (binS_spec m f ⟨u,r,0⟩ hs hm hy hlen) ⟨ens_pure m,enC_pure (⟨u,r,0⟩ : En),trivial,trivial⟩ rfl ?_
 rintro v ⟨k,found,hp,rfl⟩
 (refine go ?_;repeat' (apply B<;>intro hb<;>try cases hb))
 all_goals exact ret_ok rfl ⟨trivial,trivial,trivial⟩ ⟨k,_,hp,rfl⟩
theorem E_slcV {esz n k a : Nat} {e : Env} {h : Heap} {x lo : Operand} {b : Bx} (hx : ev e x = some (.own k)) (hb : h k = some b) (hlo : intAt (ev e lo) = some (a : Int)) (ha : a≤b.elems.length) (hz : b.esz = esz) : fEval (.slc esz x (some lo) none none) e h n = some (.view k a (b.elems.length - a),h) := by
 simp only [fEval,hx,hb,bndAt,hlo]
 rw [if_pos ⟨⟨by omega,by omega,by omega⟩,hz⟩]
 simp
set_option maxHeartbeats 1000000 in
theorem insertEnd_spec (m : List En) (x : En) (hlen : m.length≤100000) : MSpec Tryz.prog 51 ⟨3,m.map enC⟩ [.val (.int .i64 (m.length : Int)),.vec [enC x] true] .own fun b' => b' = ⟨3,(m ++ [x]).map enC⟩ := by
 have hnl := ens_len m
 have d1 : (((m.length : Nat) : Int) == (((m.map enC).length : Nat) : Int)) = true := by rw [hnl]; simp
 refine mspec_intro ok51 (Nat.le_of_ble_eq_true rfl) fun C hC => ?_
 (repeat'(first|refine at_dst 12 ?_|refine at_dstD 12 ?_|refine st ?_|(apply B<;>intro hb<;>try cases hb)))<;>try refine At.mk ?_
 refine opsK_ofAlt (E_slcV (a := m.length) (b := ⟨3,m.map enC⟩) rfl rfl rfl (by show m.length≤(m.map enC).length;omega) rfl) rfl rfl ?_
 (repeat'(first|refine at_dst 22 ?_|refine at_dstD 22 ?_|refine st ?_|(apply B<;>intro hb<;>try cases hb)))<;>try refine At.mk ?_
 refine opsK_of (E_boolEq rfl d1) rfl rfl ?_
 (repeat'(first|refine at_dst 25 ?_|refine at_dstD 25 ?_|refine st ?_|(apply B<;>intro hb<;>try cases hb)))<;>try refine At.mk ?_
 refine opsK_new (E_append (k := 0) (m := [enC x]) (fl := true) (b := ⟨3,m.map enC⟩) rfl rfl rfl (fun q hq=>by rw [List.mem_singleton] at hq; subst hq; rfl) rfl (by show ((m.map enC).length + 1) * 24≤_; rw [ens_len];omega)) rfl rfl ?_
 have put1 : m.map enC ++ [enC x] = (m ++ [x]).map enC := by rw [List.map_append]; rfl
 simp only
 rw [put1]
 (refine go ?_;repeat' (apply B<;>intro hb<;>try cases hb))
 exact ⟨_,_,rfl,.inl rfl,1,_,rfl,rfl,ens_pure _,rfl⟩
theorem place_end {m : List En} {y : En} {k : Nat} {found : Bool} (h : Place m y k found) (hall : ∀ q∈m,ltE q y) : k = m.length∧found = false := by
 have hk : k = m.length := by
  rcases Nat.lt_or_eq_of_le h.le with hl | rfl
  · exact absurd (hall _ (List.getElem_mem hl)) (h.after k hl (Nat.le_refl _))
  · rfl
 refine ⟨hk,?_⟩
 cases found with
 | false => rfl
 | true =>
   obtain ⟨q,hq,_⟩ := h.found.1 rfl
   rw [hk,List.getElem?_eq_none (Nat.le_refl _)] at hq
   cases hq
set_option maxHeartbeats 2000000 in
theorem assignEnd_spec (m : List En) (f : Bool) (x : En) (hs : SortedE m) (hm : ∀ x∈m,EnOk x) (hx : EnOk x) (hall : ∀ q∈m,ltE q x) (hlen : m.length≤10000) : Spec Tryz.prog 13 [bookP m f,.val (.int .i64 (x.u : Int)),.val (.int .i64 (x.r : Int)),.val (.int .i64 (x.t : Int))] (· = .tup [bookP (m ++ [x]) false,.val (.int .i64 0)]) := by
 have hu := hx.u
 have hr := hx.r
 have ht := hx.t
 have hk : ∀ x∈m,KeyOk x := fun x hx => ⟨(hm x hx).u.2,(hm x hx).r.2⟩
 have d1 : decide ((x.u : Int) < 1) = false := decide_eq_false (by omega)
 have d2 : decide ((x.u : Int) > 256) = false := decide_eq_false (by omega)
 have d3 : decide ((x.r : Int) < 1) = false := decide_eq_false (by omega)
 have d4 : decide ((x.r : Int) > 63) = false := decide_eq_false (by omega)
 have d5 : decide ((x.t : Int) > 30000) = false := decide_eq_false (by omega)
 refine spec_intro ok13 (Nat.le_of_ble_eq_true rfl) fun C hC => ?_
 (repeat'(first|refine at_dst 18 ?_|refine at_dstD 18 ?_|refine st ?_|(apply B<;>intro hb<;>try cases hb)))<;>try refine At.mk ?_
 refine opsK_on rfl ?_
 refine opsK_of (E_boolEq rfl d1) rfl rfl ?_
 (repeat'(first|refine at_dst 22 ?_|refine at_dstD 22 ?_|refine st ?_|(apply B<;>intro hb<;>try cases hb)))<;>try refine At.mk ?_
 refine opsK_on rfl ?_
 refine opsK_of (E_boolEq rfl d2) rfl rfl ?_
 (repeat'(first|refine at_dst 26 ?_|refine at_dstD 26 ?_|refine st ?_|(apply B<;>intro hb<;>try cases hb)))<;>try refine At.mk ?_
 refine opsK_on rfl ?_
 refine opsK_of (E_boolEq rfl d3) rfl rfl ?_
 (repeat'(first|refine at_dst 30 ?_|refine at_dstD 30 ?_|refine st ?_|(apply B<;>intro hb<;>try cases hb)))<;>try refine At.mk ?_
 refine opsK_on rfl ?_
 refine opsK_of (E_boolEq rfl d4) rfl rfl ?_
 (repeat'(first|refine at_dst 37 ?_|refine at_dstD 37 ?_|refine st ?_|(apply B<;>intro hb<;>try cases hb)))<;>try refine At.mk ?_
 refine opsK_on rfl ?_
 refine opsK_of (E_boolEq rfl d5) rfl rfl ?_
 (repeat'(first|refine at_dst 43 ?_|refine at_dstD 43 ?_|refine st ?_|(apply B<;>intro hb<;>try cases hb)))<;>try refine At.mk ?_
 refine opsK_own (cloneE_own m f (by omega)) mk_own (by exact ens_pure m) rfl rfl ⟨ens_pure m,trivial⟩ ?_
 (repeat'(first|refine at_dst 48 ?_|refine at_dstD 48 ?_|refine st ?_|(apply B<;>intro hb<;>try cases hb)))<;>try refine At.mk ?_
 refine opsK_spec rfl rfl (findP_spec m f x.u x.r hs hk ⟨hu.2,hr.2⟩ (by omega)) ⟨bookP_pure m f,trivial,trivial,trivial⟩ rfl ?_
 rintro v ⟨k,found,hp,rfl⟩
 obtain ⟨rfl,rfl⟩ := place_end hp (fun q hq=>by have := hall q hq; unfold ltE at this ⊢; exact this)
 (repeat'(first|refine at_dst 64 ?_|refine at_dstD 64 ?_|refine st ?_|(apply B<;>intro hb<;>try cases hb)))<;>try refine At.mk ?_
 refine opsK_mv (k := 0) (insertEnd_spec m x (by omega)) mk_own rfl rfl rfl rfl (ens_pure m) ⟨trivial,⟨enC_pure x,trivial⟩,trivial⟩ ?_
 rintro b' hb' rfl
 (repeat'(first|refine at_dst 65 ?_|refine at_dstD 65 ?_|refine st ?_|(apply B<;>intro hb<;>try cases hb)))<;>try refine At.mk ?_
 refine opsK_sub (subA_freeze (k := 10) rfl rfl (ens_pure _)) ?_
 (repeat'(first|refine at_dst 67 ?_|refine at_dstD 67 ?_|refine st ?_|(apply B<;>intro hb<;>try cases hb)))<;>try refine At.mk ?_
 refine opsK_ofAlt rfl rfl rfl ?_
 (refine go ?_;repeat' (apply B<;>intro hb<;>try cases hb))
 exact ret_ok rfl ⟨bookP_pure _ _,trivial,trivial⟩ rfl
end Go.Proofs.YtbmhdpflloepkaaGreatDoor

namespace Go.Proofs.YtbmhdpflloepkaaGreatDoor
open Go.RowKit
set_option linter.unusedVariables false
attribute [local irreducible] aw opsK dK

theorem sortedP_unique : ∀ {l m : List Pr},SortedP l→SortedP m→l.Perm m→l = m
 | [],m,_,_,h => (List.Perm.nil_eq h)
 | a :: l,[],_,_,h=>by have := h.length_eq; simp at this
 | a :: l, b :: m, h1, h2, h => by
   have h1' := List.pairwise_cons.1 h1
   have h2' := List.pairwise_cons.1 h2
   have hab : a = b := by
    rcases List.mem_cons.1 (h.mem_iff.1 (List.mem_cons_self (a := a) (l := l))) with e | ha
    · exact e
    rcases List.mem_cons.1 (h.mem_iff.2 (List.mem_cons_self (a := b) (l := m))) with e | hb
    · exact e.symm
    have x1 := h1'.1 b hb
    have x2 := h2'.1 a ha
    omega
   subst hab
   rw [sortedP_unique h1'.2 h2'.2 (List.Perm.cons_inv h)]
theorem SortedP.take {l : List Pr} (h : SortedP l) (i : Nat) : SortedP (l.take i) := List.Pairwise.sublist (List.take_sublist i l) h
theorem SortedE.take {l : List En} (h : SortedE l) (i : Nat) : SortedE (l.take i) := List.Pairwise.sublist (List.take_sublist i l) h
theorem SortedP.nodup {l : List Pr} (h : SortedP l) : l.Nodup := List.Pairwise.imp (fun {a b} h e=>by subst e;omega) h
theorem goodL_len {l : List Pr} (h : GoodL l) : l.length≤4096 := by
 have hn : (l.map fun p => p.1 * 64 + p.2).Nodup := by
  rw [List.nodup_iff_pairwise_ne,List.pairwise_map]
  refine List.Pairwise.imp_of_mem (fun {a b} ha hb hab => ?_) h.asc
  have h1 := h.small a ha
  have h2 := h.small b hb
  show a.1 * 64 + a.2≠b.1 * 64 + b.2
  omega
 have := nodup_le 4096 _ hn fun x hx => by
  obtain ⟨p,hp,rfl⟩ := List.mem_map.1 hx
  have := h.small p hp
  show p.1 * 64 + p.2 < 4096
  omega
 rwa [List.length_map] at this
set_option maxHeartbeats 4000000 in
theorem makeL_spec (x : Nat) (hx : x < 18446744073709551616) (raws : List En) (f : Bool) (us dy : Nat) : Spec Tryz.prog 11 [.agg [.val (.int .u64 (x : Int)),.vec (raws.map rawC) f,.val (.int .u8 (us : Int)),.val (.int .u8 (dy : Int))]] fun r => ∃ l fl m fm n d S fb,Told l m n d∧r = .tup [.agg (factP (hierP l S) (bookP m fb) n d),.agg (factR l fl m fm n d),.val (.bool true)] := by
 refine spec_intro ok11 (Nat.le_of_ble_eq_true rfl) fun C hC => ?_
 refine aw_seq ?_
 refine aw_region ?_
 refine opsK_ofAlt rfl rfl rfl ?_
 (repeat'(first|refine at_dst 17 ?_|refine at_dstD 17 ?_|refine st ?_|(apply B<;>intro hb<;>try cases hb)))<;>try refine At.mk ?_
 refine opsK_spec rfl rfl (make20_spec x hx raws f us dy) ⟨⟨trivial,raws_pure raws,trivial,trivial,trivial⟩,trivial⟩ rfl ?_
 rintro r ⟨l,fl,m,fm,n,d,hT,rfl⟩
 have hgl := hT.l
 have hll := goodL_len hgl
 have hnl := prs_len l
 have hfr := factR_pure l fl m fm n d
 have hfc : ∀ D,innL D (factR l fl m fm n d) := fun D => innL_mono (fun _ h => h.elim) _ hfr
 have hpl : ∀ D,innLL D (l.map prC) := fun D => innLL_mono (fun _ h => h.elim) _ (prs_pure l)
 have hhp : ∀ D l S,(hierP l S).inn D := fun D l S => PV.inn_mono (fun _ h => h.elim) _ (hierP_pure l S)
 have hbp : ∀ D m f,(bookP m f).inn D := fun D m f => PV.inn_mono (fun _ h => h.elim) _ (bookP_pure m f)
 (repeat'(first|refine at_dst 18 ?_|refine at_dstD 18 ?_|refine st ?_|(apply B<;>intro hb<;>try cases hb)))<;>try refine At.mk ?_
 refine opsK_sub (subA_freezeBox (k := 5) rfl rfl hfr) ?_
 refine opsK_spec rfl rfl hierNew_spec trivial rfl ?_
 rintro r ⟨S0,rfl⟩
 (refine go ?_;repeat' (apply B<;>intro hb<;>try cases hb))
 refine aw_loopH hC (fun (z : Nat × List Nat) => z.1≤l.length) (fun z => l.length - z.1) 3 (fun z => [(2,.ptr 0 0 0),(3,.ptr 1 0 0),(5,.cp (factR l fl m fm n d)),(6,hierP (l.take z.1) z.2),(20,.vec (l.map prC) fl),(21,.val (.int .i64 l.length)),(22,.val (.int .i64 (z.1 : Int)))])
  (fun _ => [(0,⟨4,[[.val (.pointer none),.val (.pointer none),.val (.int .i64 0),.val (.int .i64 0)]]⟩),(1,⟨4,[[.vec [] true,.vec [] true,.val (.int .i64 0),.val (.int .i64 0)]]⟩)]) (Nat.zero_le _) (0,S0) (Nat.zero_le _)
  ⟨⟨rfl,show (0 : Nat) < 3 by decide⟩,⟨rfl,show (1 : Nat) < 3 by decide⟩,⟨rfl,hfc _⟩,⟨rfl,hhp _ _ _⟩,⟨rfl,hpl _⟩,⟨by rw [← hnl]; rfl,trivial⟩,⟨rfl,trivial⟩,trivial⟩
  ⟨⟨by decide,rfl,⟨⟨trivial,trivial,trivial,trivial,trivial⟩,trivial⟩⟩,⟨by decide,rfl,⟨⟨trivial,trivial,trivial,trivial,trivial⟩,trivial⟩⟩,trivial⟩ ?_
 rintro ⟨i,S⟩ hi
 simp only at hi
 have hinc : IntKind.i64.wrap ((i : Int) + 1) = ((i + 1 : Nat) : Int) := IntWalk.i64_in _ ⟨by omega,by omega⟩
 (repeat'(first|refine at_dst 23 ?_|refine at_dstD 23 ?_|refine st ?_|(apply B<;>intro hb<;>try cases hb)))<;>try refine At.mk ?_
 refine opsK_bool rfl rfl rfl (fun hb=>?_) (fun hb=>?_)
 · have hil : i < l.length := by have := of_decide_eq_true hb; omega
   have htk := take_snocG hil
   have hro := hgl.role _ (List.getElem_mem hil)
   have hsub : ∀ p∈l.take i ++ [l[i]],p∈l := fun p hp=>by rw [← htk] at hp; exact List.mem_of_mem_take hp
   have hno : l[i] ∉ l.take i := fun h => by
    have hnd := SortedP.nodup (SortedP.take hgl.asc (i + 1))
    rw [htk,List.nodup_append] at hnd
    exact hnd.2.2 _ h _ (List.mem_singleton.2 rfl) rfl
   clear hb
   (refine go ?_;repeat' (apply B<;>intro hb<;>try cases hb))
   refine opsK_of (E_iaddr (xs := l) (g := prC) rfl rfl i rfl hil rfl) rfl rfl ?_
   generalize l[i] = p at htk hro hsub hno ⊢
   have hls := link_spec (l.take i) S p.1 p.2 (by omega) (by omega) hro.2.2.2.2 (fun q hq => hgl.small q (List.mem_of_mem_take hq)) (SortedP.nodup (SortedP.take hgl.asc i)) hno (hgl.acy.sub hsub) (by rw [List.length_take];omega)
   (repeat'(first|refine at_dst 32 ?_|refine at_dstD 32 ?_|refine st ?_|(apply B<;>intro hb<;>try cases hb)))<;>try refine At.mk ?_
   refine opsK_spec rfl rfl hls ⟨hierP_pure _ _,trivial,trivial,trivial⟩ rfl ?_
   rintro r ⟨l',S',hpm,hst,rfl⟩
   have hle : l' = l.take (i + 1) := by
    have hx1 : l'.Perm (l.take (i + 1)) := by rw [htk]; exact hpm
    exact sortedP_unique hst (SortedP.take hgl.asc (i + 1)) hx1
   subst hle
   (refine go ?_;repeat' (apply B<;>intro hb<;>try cases hb))
   exact ⟨(i + 1,S'),hil,by simp only; omega,⟨⟨rfl,show (0 : Nat) < 3 by decide⟩,⟨rfl,show (1 : Nat) < 3 by decide⟩,⟨rfl,hfc _⟩,⟨rfl,hhp _ _ _⟩,⟨rfl,hpl _⟩,⟨rfl,trivial⟩,⟨by show some _ = some _; rw [hinc],trivial⟩,trivial⟩,
    ⟨⟨by decide,rfl,⟨⟨trivial,trivial,trivial,trivial,trivial⟩,trivial⟩⟩,⟨by decide,rfl,⟨⟨trivial,trivial,trivial,trivial,trivial⟩,trivial⟩⟩,trivial⟩⟩
 · have hil : i = l.length := by have := of_decide_eq_false hb; omega
   subst hil
   clear hb hinc hi
   rw [List.take_length]
   have hml := hT.m.len
   have hmo := hT.m.ok
   have hms := hT.m.asc
   have hnm := ens_len m
   (repeat'(first|refine at_dst 41 ?_|refine at_dstD 41 ?_|refine st ?_|(apply B<;>intro hb<;>try cases hb)))<;>try refine At.mk ?_
   refine opsK_eq bookNew_spec rfl rfl rfl trivial rfl ?_
   (refine go ?_;repeat' (apply B<;>intro hb<;>try cases hb))
   refine aw_loopH hC (fun (z : Nat × Bool) => z.1≤m.length) (fun z => m.length - z.1) 3 (fun z => [(2,.ptr 0 0 0),(3,.ptr 1 0 0),(5,.cp (factR l fl m fm n d)),(6,hierP l S),(11,bookP (m.take z.1) z.2),(43,.vec (m.map enC) fm),(44,.val (.int .i64 m.length)),(45,.val (.int .i64 (z.1 : Int)))])
    (fun _ => [(0,⟨4,[[.val (.pointer none),.val (.pointer none),.val (.int .i64 0),.val (.int .i64 0)]]⟩),(1,⟨4,[[.vec [] true,.vec [] true,.val (.int .i64 0),.val (.int .i64 0)]]⟩)]) (Nat.zero_le _) (0,true) (Nat.zero_le _)
    ⟨⟨rfl,show (0 : Nat) < 3 by decide⟩,⟨rfl,show (1 : Nat) < 3 by decide⟩,⟨rfl,hfc _⟩,⟨rfl,hhp _ _ _⟩,⟨rfl,hbp _ _ _⟩,⟨rfl,ens_inn _ _⟩,⟨by rw [← hnm]; rfl,trivial⟩,⟨rfl,trivial⟩,trivial⟩
    ⟨⟨by decide,rfl,⟨⟨trivial,trivial,trivial,trivial,trivial⟩,trivial⟩⟩,⟨by decide,rfl,⟨⟨trivial,trivial,trivial,trivial,trivial⟩,trivial⟩⟩,trivial⟩ ?_
   rintro ⟨i,fb⟩ hi
   simp only at hi
   have hinc : IntKind.i64.wrap ((i : Int) + 1) = ((i + 1 : Nat) : Int) := IntWalk.i64_in _ ⟨by omega,by omega⟩
   (repeat'(first|refine at_dst 46 ?_|refine at_dstD 46 ?_|refine st ?_|(apply B<;>intro hb<;>try cases hb)))<;>try refine At.mk ?_
   refine opsK_bool rfl rfl rfl (fun hb=>?_) (fun hb=>?_)
   · have hil : i < m.length := by have := of_decide_eq_true hb; omega
     have htk := take_snocG hil
     have hok := hmo _ (List.getElem_mem hil)
     have hall : ∀ q∈m.take i,ltE q m[i] := fun q hq => by
      have hx1 := SortedE.take hms (i + 1)
      unfold SortedE at hx1
      rw [htk,List.pairwise_append] at hx1
      exact hx1.2.2 q hq _ (List.mem_singleton.2 rfl)
     clear hb
     (refine go ?_;repeat' (apply B<;>intro hb<;>try cases hb))
     refine opsK_of (E_iaddr (xs := m) (g := enC) rfl rfl i rfl hil rfl) rfl rfl ?_
     generalize m[i] = p at htk hok hall ⊢
     have has := assignEnd_spec (m.take i) fb p (SortedE.take hms i) (fun q hq => hmo q (List.mem_of_mem_take hq)) hok hall (by rw [List.length_take];omega)
     rw [← htk] at has
     (repeat'(first|refine at_dst 57 ?_|refine at_dstD 57 ?_|refine st ?_|(apply B<;>intro hb<;>try cases hb)))<;>try refine At.mk ?_
     refine opsK_eq has rfl rfl rfl ⟨bookP_pure _ _,trivial,trivial,trivial,trivial⟩ rfl ?_
     (refine go ?_;repeat' (apply B<;>intro hb<;>try cases hb))
     exact ⟨(i + 1,false),hil,by simp only; omega,⟨⟨rfl,show (0 : Nat) < 3 by decide⟩,⟨rfl,show (1 : Nat) < 3 by decide⟩,⟨rfl,hfc _⟩,⟨rfl,hhp _ _ _⟩,⟨rfl,hbp _ _ _⟩,⟨rfl,ens_inn _ _⟩,⟨rfl,trivial⟩,⟨by show some _ = some _; rw [hinc],trivial⟩,trivial⟩,
      ⟨⟨by decide,rfl,⟨⟨trivial,trivial,trivial,trivial,trivial⟩,trivial⟩⟩,⟨by decide,rfl,⟨⟨trivial,trivial,trivial,trivial,trivial⟩,trivial⟩⟩,trivial⟩⟩
   · have hil : i = m.length := by have := of_decide_eq_false hb; omega
     subst hil
     clear hb
     rw [List.take_length]
     repeat' (first | refine aw_drawU [] [(0,16384)] [131071,131071,131071,131071,131071,131071,131071,131071,131071,131071,131071,131071,131071,131071,114687,131071,131071] (by kernel_rfl) ?_ | (first|refine st ?_|(apply B<;>intro hb<;>try cases hb)))
     exact ret_ok rfl ⟨factP_pure (hierP_pure l S) (bookP_pure m fb) n d,hfr,trivial,trivial⟩ ⟨l,fl,m,fm,n,d,S,fb,hT,rfl⟩
end Go.Proofs.YtbmhdpflloepkaaGreatDoor

namespace Go.Proofs.YtbmhdpflloepkaaGreatDoor
open Go.RowKit
set_option linter.unusedVariables false
attribute [local irreducible] aw opsK dK

structure RawF where
 x : Nat
 ms : List En
 f : Bool
 us : Nat
 dy : Nat
def RawFok (z : RawF) : Prop := z.x < 18446744073709551616
def rawF (z : RawF) : List PV := [.val (.int .u64 (z.x : Int)),.vec (z.ms.map rawC) z.f,.val (.int .u8 (z.us : Int)),.val (.int .u8 (z.dy : Int))]
theorem rawF_pure (z : RawF) : pureL (rawF z) := ⟨trivial,raws_pure z.ms,trivial,trivial,trivial⟩
theorem makeF_spec (z : RawF) (hz : RawFok z) : Spec Tryz.prog 11 [.agg (rawF z)] fun r => ∃ l fl m fm n d S fb,Told l m n d∧r = .tup [.agg (factP (hierP l S) (bookP m fb) n d),.agg (factR l fl m fm n d),.val (.bool true)] := makeL_spec z.x hz z.ms z.f z.us z.dy
theorem countsF_spec {l : List Pr} {m : List En} {n d : Nat} (hT : Told l m n d) (S : List Nat) (f : Bool) : Spec Tryz.prog 24 [.agg (factP (hierP l S) (bookP m f) n d)] (· = .vec (nums (cntAll l m n d)) false) := by
 have hn := hT.n
 exact countsP_spec (hierP l S) (bookP m f) (hierP_pure l S) (bookP_pure m f) n d (by omega) (fun u => memb l m n d ((u : Nat) : Int)) (fun u => memb_lt l m n d _) (fun u => memberP_spec hT S f _)
end Go.Proofs.YtbmhdpflloepkaaGreatDoor

namespace Go.Proofs.YtbmhdpflloepkaaGreatDoor
open Go.RowKit
set_option linter.unusedVariables false
attribute [local irreducible] aw opsK dK

def holdsB (f : Fm) (N : Nat) (ms : List Int) : Bool := decide (typeOfE f = 0) && decide (typeOfT f = 1) && decide (evM N ms f = 1)
def violTo (M : Nat→Nat) (f : Fm) (u : Nat) : List Nat := ((List.range u).map (· + 1)).filter fun k => !holdsB f (M k) []
theorem violTo_succ (M : Nat→Nat) (f : Fm) (u : Nat) : violTo M f (u + 1) = if holdsB f (M (u + 1)) [] = true then violTo M f u else violTo M f u ++ [u + 1] := by
 unfold violTo
 rw [List.range_succ,List.map_append,List.filter_append,List.map_singleton,List.filter_cons,List.filter_nil]
 cases holdsB f (M (u + 1)) []
 · rfl
 · exact List.append_nil _
theorem violTo_len (M : Nat→Nat) (f : Fm) (u : Nat) : (violTo M f u).length≤u := by
 have : (violTo M f u).length≤((List.range u).map (· + 1)).length := List.length_filter_le _ _
 rwa [List.length_map,List.length_range] at this
def violG (c : Con) (v : Bool) (M : Nat→Nat) (n : Nat) : List Nat := if c.kind = 1∧okC c v = 0 then violTo M c.f n else []
def violV (l : List Nat) (r : PV) : Prop := ∃ fl,r = .vec (nums (intsN l)) fl
set_option maxHeartbeats 4000000 in
theorem violP_spec (a b : PV) (ha : a.pure) (hb : b.pure) (n d : Nat) (hn : n≤256) (M : Nat→Nat) (hS : ∀ u : Nat,Spec Tryz.prog 14 [.agg (factP a b n d),.val (.int .i64 (u : Int))] (· = setN (M u))) {c : Con} {v : Bool} (h : ConOk c v) :
 Spec Tryz.prog 28 [.agg (conP c),.agg (factP a b n d)] (violV (violG c v M n)) := by
 have hd := h.depth
 have hsz := h.size
 have hfp : pureL (factP a b n d) := factP_pure ha hb n d
 have hus := usersP_spec a b ha hb n d hn
 have hck := checkCP_spec h
 refine spec_intro ok28 (Nat.le_of_ble_eq_true rfl) fun C hC => ?_
 refine aw_seq ?_
 refine aw_region ?_
 refine opsK_ofAlt rfl rfl rfl ?_
 refine opsK_ofAlt rfl rfl rfl ?_
 by_cases hk : c.kind = 1
 case neg =>
  have d1 : (!((c.kind : Int) == 1)) = true := by simp; omega
  have hg : violG c v M n = [] := by unfold violG; rw [if_neg fun h => hk h.1]
  rw [hg]
  (repeat'(first|refine at_dst 9 ?_|refine at_dstD 9 ?_|refine st ?_|(apply B<;>intro hb<;>try cases hb)))<;>try refine At.mk ?_
  refine opsK_of (E_boolEq rfl d1) rfl rfl ?_
  (refine go ?_;repeat' (apply B<;>intro hb<;>try cases hb))
  exact ret_ok rfl trivial ⟨true,rfl⟩
 have d1 : (!((c.kind : Int) == 1)) = false := by simp; omega
 (repeat'(first|refine at_dst 9 ?_|refine at_dstD 9 ?_|refine st ?_|(apply B<;>intro hb<;>try cases hb)))<;>try refine At.mk ?_
 refine opsK_of (E_boolEq rfl d1) rfl rfl ?_
 (repeat'(first|refine at_dst 12 ?_|refine at_dstD 12 ?_|refine st ?_|(apply B<;>intro hb<;>try cases hb)))<;>try refine At.mk ?_
 refine opsK_on rfl ?_
 refine opsK_eq hck rfl rfl rfl ⟨conP_pure c,trivial⟩ rfl ?_
 by_cases h0 : okC c v = 0
 case neg =>
  have d2 : (!(okC c v == 0)) = true := by simp; exact h0
  have hg : violG c v M n = [] := by unfold violG; rw [if_neg fun h => h0 h.2]
  rw [hg]
  (repeat'(first|refine at_dst 13 ?_|refine at_dstD 13 ?_|refine st ?_|(apply B<;>intro hb<;>try cases hb)))<;>try refine At.mk ?_
  refine opsK_on rfl ?_
  refine opsK_of (E_boolEq rfl d2) rfl rfl ?_
  (refine go ?_;repeat' (apply B<;>intro hb<;>try cases hb))
  exact ret_ok rfl trivial ⟨true,rfl⟩
 have d2 : (!(okC c v == 0)) = false := by simp; exact h0
 have hg : violG c v M n = violTo M c.f n := by unfold violG; rw [if_pos ⟨hk,h0⟩]
 rw [hg]
 (repeat'(first|refine at_dst 13 ?_|refine at_dstD 13 ?_|refine st ?_|(apply B<;>intro hb<;>try cases hb)))<;>try refine At.mk ?_
 refine opsK_on rfl ?_
 refine opsK_of (E_boolEq rfl d2) rfl rfl ?_
 repeat' (first | refine opsK_sub (subA_ownNil (k := 5) rfl 1 (by decide)) ?_ | (first|refine st ?_|(apply B<;>intro hb<;>try cases hb)))
 refine aw_loopR hC (fun u => u≤n) (fun u => n - u) 1 (fun u => [(2,.cp (conP c)),(3,.cp (factP a b n d)),(5,.own 0),(6,.val (.int .i64 ((u + 1 : Nat) : Int)))])
  (fun u => [(0,⟨1,nums (intsN (violTo M c.f u))⟩)]) (by omega) 0 (Nat.zero_le _) (fun i=>i) (fun _ _=>rfl) injOn_id
  ⟨⟨_,rfl,.pure _ (conP_pure c)⟩,⟨_,rfl,.pure _ hfp⟩,⟨_,rfl,.own 0 (by decide)⟩,⟨_,rfl,.pure _ trivial⟩,trivial⟩ ⟨⟨by decide,_,rfl,.same _ trivial⟩,trivial⟩ ?_
 intro u hu
 have hunc : IntKind.i64.wrap (((u + 1 : Nat) : Int) + 1) = ((u + 1 + 1 : Nat) : Int) := IntWalk.i64_in _ ⟨by omega,by omega⟩
 have hvl := violTo_len M c.f u
 have hst := violTo_succ M c.f u
 (repeat'(first|refine at_dst 17 ?_|refine at_dstD 17 ?_|refine st ?_|(apply B<;>intro hb<;>try cases hb)))<;>try refine At.mk ?_
 refine opsK_eq hus rfl rfl rfl ⟨hfp,trivial⟩ rfl ?_
 (repeat'(first|refine at_dst 18 ?_|refine at_dstD 18 ?_|refine st ?_|(apply B<;>intro hb<;>try cases hb)))<;>try refine At.mk ?_
 refine opsK_bool rfl rfl rfl (fun hb=>?_) (fun hb=>?_)
 · have hun : u < n := by have := of_decide_eq_true hb; omega
   clear hb
   (repeat'(first|refine at_dst 25 ?_|refine at_dstD 25 ?_|refine st ?_|(apply B<;>intro hb<;>try cases hb)))<;>try refine At.mk ?_
   refine dK_eq (hS (u + 1)) rfl rfl rfl ⟨hfp,trivial,trivial⟩ ?_
   have hh := holds_spec (M (u + 1)) [] true c.f (by omega) (by omega)
   rw [show (decide (typeOfE c.f = 0) && decide (typeOfT c.f = 1) && decide (evM (M (u + 1)) [] c.f = 1)) = holdsB c.f (M (u + 1)) [] from rfl] at hh
   cases hv : holdsB c.f (M (u + 1)) []
   · rw [hv] at hh
     rw [hv,if_neg (by decide)] at hst
     (repeat'(first|refine at_dst 26 ?_|refine at_dstD 26 ?_|refine st ?_|(apply B<;>intro hb<;>try cases hb)))<;>try refine At.mk ?_
     refine dK_eq hh rfl rfl rfl ⟨fC_pure _ _,setN_pure _,trivial,trivial⟩ ?_
     (repeat'(first|refine at_dst 31 ?_|refine at_dstD 31 ?_|refine st ?_|(apply B<;>intro hb<;>try cases hb)))<;>try refine At.mk ?_
     refine opsK_new (E_append (k := 0) (m := nums (intsN [u + 1])) (fl := true) (b := ⟨1,nums (intsN (violTo M c.f u))⟩) rfl rfl rfl (fun c hc=>by obtain ⟨y,_,rfl⟩ := List.mem_map.1 hc; rfl) rfl (by
      show ((nums (intsN (violTo M c.f u))).length + 1) * 8≤_
      rw [nums_length,intsN,List.length_map]
      omega)) rfl rfl ?_
     have happ : nums (intsN (violTo M c.f u)) ++ nums (intsN [u + 1]) = nums (intsN (violTo M c.f (u + 1))) := by rw [hst]; simp [nums,intsN]
     simp only
     rw [happ]
     (refine go ?_;repeat' (apply B<;>intro hb<;>try cases hb))
     exact ⟨u + 1,mv 0 8,hun,by omega,fun j hj => absurd hj (Nat.not_lt_zero _),injOn_of rfl,
      ⟨⟨_,rfl,.pure _ (conP_pure c)⟩,⟨_,rfl,.pure _ hfp⟩,⟨_,rfl,.own 0 (by decide)⟩,⟨_,by show some _ = some _; rw [hunc],.pure _ trivial⟩,trivial⟩,⟨⟨by decide,_,rfl,.same _ (nums_pure _)⟩,trivial⟩⟩
   · rw [hv] at hh
     rw [hv,if_pos rfl] at hst
     (repeat'(first|refine at_dst 26 ?_|refine at_dstD 26 ?_|refine st ?_|(apply B<;>intro hb<;>try cases hb)))<;>try refine At.mk ?_
     refine dK_eq hh rfl rfl rfl ⟨fC_pure _ _,setN_pure _,trivial,trivial⟩ ?_
     (refine go ?_;repeat' (apply B<;>intro hb<;>try cases hb))
     refine ⟨u + 1,fun i => i,hun,by omega,fun _ _ => rfl,injOn_id,
      ⟨⟨_,rfl,.pure _ (conP_pure c)⟩,⟨_,rfl,.pure _ hfp⟩,⟨_,rfl,.own 0 (by decide)⟩,⟨_,by show some _ = some _; rw [hunc],.pure _ trivial⟩,trivial⟩,⟨⟨by decide,_,rfl,?_⟩,trivial⟩⟩
     rw [hst]
     exact .same _ (nums_pure _)
 · have hun : u = n := by have := of_decide_eq_false hb; omega
   subst hun
   clear hb
   (repeat'(first|refine at_dst 32 ?_|refine at_dstD 32 ?_|refine st ?_|(apply B<;>intro hb<;>try cases hb)))<;>try refine At.mk ?_
   refine opsK_sub (subA_freeze (k := 5) rfl rfl (nums_pure _)) ?_
   (refine go ?_;repeat' (apply B<;>intro hb<;>try cases hb))
   exact ret_ok rfl (nums_pure _) ⟨false,rfl⟩
set_option maxHeartbeats 4000000 in
theorem violR_spec {l : List Pr} {m : List En} {n d : Nat} (hT : Told l m n d) (fl fm : Bool) {c : Con} {v : Bool} (h : ConOk c v) :
 Spec Tryz.prog 30 [.agg (conR c),.agg (factR l fl m fm n d)] (violV (violG c v (fun u => memb l m n d ((u : Nat) : Int)) n)) := by
 have hd := h.depth
 have hsz := h.size
 have hn := hT.n
 have hfp := factR_pure l fl m fm n d
 have hck := checkCR_spec h
 have hS : ∀ u : Nat,Spec Tryz.prog 22 [.agg (factR l fl m fm n d),.val (.int .i64 (u : Int))] (· = .val (.int .u64 (memb l m n d ((u : Nat) : Int) : Nat))) := fun u => memberR_spec hT fl fm _
 generalize hMd : (fun u : Nat => memb l m n d ((u : Nat) : Int)) = M
 have hM : ∀ u : Nat,memb l m n d ((u : Nat) : Int) = M u := fun u=>by rw [← hMd]
 simp only [hM] at hS
 refine spec_intro ok30 (Nat.le_of_ble_eq_true rfl) fun C hC => ?_
 refine aw_seq ?_
 refine aw_region ?_
 refine opsK_ofAlt rfl rfl rfl ?_
 refine opsK_ofAlt rfl rfl rfl ?_
 by_cases hk : c.kind = 1
 case neg =>
  have d1 : (!((c.kind : Int) == 1)) = true := by simp; omega
  have hg : violG c v M n = [] := by unfold violG; rw [if_neg fun h => hk h.1]
  rw [hg]
  (repeat'(first|refine at_dst 9 ?_|refine at_dstD 9 ?_|refine st ?_|(apply B<;>intro hb<;>try cases hb)))<;>try refine At.mk ?_
  refine opsK_of (E_boolEq rfl d1) rfl rfl ?_
  (refine go ?_;repeat' (apply B<;>intro hb<;>try cases hb))
  exact ret_ok rfl trivial ⟨true,rfl⟩
 have d1 : (!((c.kind : Int) == 1)) = false := by simp; omega
 (repeat'(first|refine at_dst 9 ?_|refine at_dstD 9 ?_|refine st ?_|(apply B<;>intro hb<;>try cases hb)))<;>try refine At.mk ?_
 refine opsK_of (E_boolEq rfl d1) rfl rfl ?_
 (repeat'(first|refine at_dst 12 ?_|refine at_dstD 12 ?_|refine st ?_|(apply B<;>intro hb<;>try cases hb)))<;>try refine At.mk ?_
 refine opsK_on rfl ?_
 refine opsK_eq hck rfl rfl rfl ⟨conR_pure c,trivial⟩ rfl ?_
 by_cases h0 : okC c v = 0
 case neg =>
  have d2 : (!(okC c v == 0)) = true := by simp; exact h0
  have hg : violG c v M n = [] := by unfold violG; rw [if_neg fun h => h0 h.2]
  rw [hg]
  (repeat'(first|refine at_dst 13 ?_|refine at_dstD 13 ?_|refine st ?_|(apply B<;>intro hb<;>try cases hb)))<;>try refine At.mk ?_
  refine opsK_on rfl ?_
  refine opsK_of (E_boolEq rfl d2) rfl rfl ?_
  (refine go ?_;repeat' (apply B<;>intro hb<;>try cases hb))
  exact ret_ok rfl trivial ⟨true,rfl⟩
 have d2 : (!(okC c v == 0)) = false := by simp; exact h0
 have hg : violG c v M n = violTo M c.f n := by unfold violG; rw [if_pos ⟨hk,h0⟩]
 have h256 : ∀ u : Nat,u≤n + 1→decide ((u : Int)≤256) = true := fun u h => decide_eq_true (by omega)
 rw [hg]
 (repeat'(first|refine at_dst 13 ?_|refine at_dstD 13 ?_|refine st ?_|(apply B<;>intro hb<;>try cases hb)))<;>try refine At.mk ?_
 refine opsK_on rfl ?_
 refine opsK_of (E_boolEq rfl d2) rfl rfl ?_
 (repeat'(first|refine at_dst 14 ?_|refine at_dstD 14 ?_|refine st ?_|(apply B<;>intro hb<;>try cases hb)))<;>try refine At.mk ?_
 refine opsK_sub (subA_ownNil (k := 5) rfl 1 (by decide)) ?_
 (refine go ?_;repeat' (apply B<;>intro hb<;>try cases hb))
 refine aw_loopR hC (fun u => u≤n) (fun u => n - u) 1 (fun u => [(2,.cp (conR c)),(3,.cp (factR l fl m fm n d)),(5,.own 0),(6,.val (.int .i64 ((u + 1 : Nat) : Int)))])
  (fun u => [(0,⟨1,nums (intsN (violTo M c.f u))⟩)]) (by omega) 0 (Nat.zero_le _) (fun i=>i) (fun _ _=>rfl) injOn_id
  ⟨⟨_,rfl,.pure _ (conR_pure c)⟩,⟨_,rfl,.pure _ hfp⟩,⟨_,rfl,.own 0 (by decide)⟩,⟨_,rfl,.pure _ trivial⟩,trivial⟩ ⟨⟨by decide,_,rfl,.same _ trivial⟩,trivial⟩ ?_
 intro u hu
 have hunc : IntKind.i64.wrap (((u + 1 : Nat) : Int) + 1) = ((u + 1 + 1 : Nat) : Int) := IntWalk.i64_in _ ⟨by omega,by omega⟩
 have hvl := violTo_len M c.f u
 have hst := violTo_succ M c.f u
 (repeat'(first|refine at_dst 18 ?_|refine at_dstD 18 ?_|refine st ?_|(apply B<;>intro hb<;>try cases hb)))<;>try refine At.mk ?_
 refine opsK_bool rfl rfl rfl (fun hb=>?_) (fun hb=>?_)
 · have hun : u < n := by have := of_decide_eq_true hb; omega
   clear hb
   (repeat'(first|refine at_dst 21 ?_|refine at_dstD 21 ?_|refine st ?_|(apply B<;>intro hb<;>try cases hb)))<;>try refine At.mk ?_
   refine opsK_on rfl ?_
   refine opsK_of (E_boolEq rfl (h256 (u + 1) (by omega))) rfl rfl ?_
   (repeat'(first|refine at_dst 29 ?_|refine at_dstD 29 ?_|refine st ?_|(apply B<;>intro hb<;>try cases hb)))<;>try refine At.mk ?_
   refine dK_eq (hS (u + 1)) rfl rfl rfl ⟨hfp,trivial,trivial⟩ ?_
   have hh := holdsR_spec (M (u + 1)) [] true c.f (by omega) (by omega)
   rw [show (decide (typeOfE c.f = 0) && decide (typeOfT c.f = 1) && decide (evM (M (u + 1)) [] c.f = 1)) = holdsB c.f (M (u + 1)) [] from rfl] at hh
   cases hv : holdsB c.f (M (u + 1)) []
   · rw [hv] at hh
     rw [hv,if_neg (by decide)] at hst
     (repeat'(first|refine at_dst 30 ?_|refine at_dstD 30 ?_|refine st ?_|(apply B<;>intro hb<;>try cases hb)))<;>try refine At.mk ?_
     refine dK_eq hh rfl rfl rfl ⟨fC_pure _ _,trivial,trivial,trivial⟩ ?_
     (repeat'(first|refine at_dst 35 ?_|refine at_dstD 35 ?_|refine st ?_|(apply B<;>intro hb<;>try cases hb)))<;>try refine At.mk ?_
     refine opsK_new (E_append (k := 0) (m := nums (intsN [u + 1])) (fl := true) (b := ⟨1,nums (intsN (violTo M c.f u))⟩) rfl rfl rfl (fun c hc=>by obtain ⟨y,_,rfl⟩ := List.mem_map.1 hc; rfl) rfl (by
      show ((nums (intsN (violTo M c.f u))).length + 1) * 8≤_
      rw [nums_length,intsN,List.length_map]
      omega)) rfl rfl ?_
     have happ : nums (intsN (violTo M c.f u)) ++ nums (intsN [u + 1]) = nums (intsN (violTo M c.f (u + 1))) := by rw [hst]; simp [nums,intsN]
     simp only
     rw [happ]
     (refine go ?_;repeat' (apply B<;>intro hb<;>try cases hb))
     exact ⟨u + 1,mv 0 8,hun,by omega,fun j hj => absurd hj (Nat.not_lt_zero _),injOn_of rfl,
      ⟨⟨_,rfl,.pure _ (conR_pure c)⟩,⟨_,rfl,.pure _ hfp⟩,⟨_,rfl,.own 0 (by decide)⟩,⟨_,by show some _ = some _; rw [hunc],.pure _ trivial⟩,trivial⟩,⟨⟨by decide,_,rfl,.same _ (nums_pure _)⟩,trivial⟩⟩
   · rw [hv] at hh
     rw [hv,if_pos rfl] at hst
     (repeat'(first|refine at_dst 30 ?_|refine at_dstD 30 ?_|refine st ?_|(apply B<;>intro hb<;>try cases hb)))<;>try refine At.mk ?_
     refine dK_eq hh rfl rfl rfl ⟨fC_pure _ _,trivial,trivial,trivial⟩ ?_
     (refine go ?_;repeat' (apply B<;>intro hb<;>try cases hb))
     refine ⟨u + 1,fun i => i,hun,by omega,fun _ _ => rfl,injOn_id,
      ⟨⟨_,rfl,.pure _ (conR_pure c)⟩,⟨_,rfl,.pure _ hfp⟩,⟨_,rfl,.own 0 (by decide)⟩,⟨_,by show some _ = some _; rw [hunc],.pure _ trivial⟩,trivial⟩,⟨⟨by decide,_,rfl,?_⟩,trivial⟩⟩
     rw [hst]
     exact .same _ (nums_pure _)
 · have hun : u = n := by have := of_decide_eq_false hb; omega
   subst hun
   clear hb
   (repeat'(first|refine at_dst 36 ?_|refine at_dstD 36 ?_|refine st ?_|(apply B<;>intro hb<;>try cases hb)))<;>try refine At.mk ?_
   refine opsK_sub (subA_freeze (k := 5) rfl rfl (nums_pure _)) ?_
   (refine go ?_;repeat' (apply B<;>intro hb<;>try cases hb))
   exact ret_ok rfl (nums_pure _) ⟨false,rfl⟩
end Go.Proofs.YtbmhdpflloepkaaGreatDoor

namespace Go.Proofs.YtbmhdpflloepkaaGreatDoor
open Go.RowKit
set_option linter.unusedVariables false
attribute [local irreducible] aw opsK dK

theorem ConsI.law {items : List ItemX} {i : Nat} {l : List Con} (h : ConsI items i l) : ∀ c∈l,(1≤c.kind∧c.kind≤3)∧Wf c.f∧c.f.depth≤4 := fun c hc => ⟨(h.ok c hc).kind,(h.ok c hc).wf,(h.ok c hc).depth⟩
end Go.Proofs.YtbmhdpflloepkaaGreatDoor

namespace Go.Proofs.YtbmhdpflloepkaaGreatDoor
open Go.RowKit
set_option linter.unusedVariables false
attribute [local irreducible] aw opsK dK

theorem fC_lowC (f : Fm) : lowL (fC .u8 f) = fC .u8 f := (lowL_fC .u8 f).trans (cellsK_eq .u8 f)
end Go.Proofs.YtbmhdpflloepkaaGreatDoor

namespace Go.Proofs.YtbmhdpflloepkaaGreatDoor
open Go.RowKit
set_option linter.unusedVariables false
attribute [local irreducible] aw opsK dK

def segU (c : Con) (v : Bool) (ms : List Int) : Bool := decide (c.kind = 3) && decide (okC c v = 0) && !holdsB c.f 0 ms
def segV (vf : Con→Bool) (M : Nat→Nat) (n : Nat) (ms : List Int) (k : Nat) (c : Con) : List Pr := (violG c (vf c) M n).map (fun u => (k,u)) ++ (if segU c (vf c) ms = true then [(k,0)] else [])
def vaTo (vf : Con→Bool) (M : Nat→Nat) (n : Nat) (ms : List Int) (cs : List Con) : Nat→List Pr
 | 0 => []
 | i + 1 => vaTo vf M n ms cs i ++ (match cs[i]? with | some c => segV vf M n ms i c | none => [])
theorem vaTo_succ (vf : Con→Bool) (M : Nat→Nat) (n : Nat) (ms : List Int) {cs : List Con} {i : Nat} {c : Con} (h : cs[i]? = some c) : vaTo vf M n ms cs (i + 1) = vaTo vf M n ms cs i ++ segV vf M n ms i c := by
 rw [vaTo,h]
theorem violG_len (c : Con) (v : Bool) (M : Nat→Nat) (n : Nat) : (violG c v M n).length≤n := by
 unfold violG
 split
 · exact violTo_len M c.f n
 · exact Nat.zero_le _
theorem segV_len (vf : Con→Bool) (M : Nat→Nat) (n : Nat) (ms : List Int) (k : Nat) (c : Con) : (segV vf M n ms k c).length≤n + 1 := by
 have := violG_len c (vf c) M n
 unfold segV
 rw [List.length_append,List.length_map]
 split <;> simp <;> omega
theorem vaTo_len (vf : Con→Bool) (M : Nat→Nat) (n : Nat) (ms : List Int) (cs : List Con) : ∀ i,(vaTo vf M n ms cs i).length≤i * (n + 1)
 | 0 => Nat.zero_le _
 | i + 1 => by
   have := vaTo_len vf M n ms cs i
   rw [vaTo,List.length_append,Nat.succ_mul]
   split
   · rename_i c _
     have := segV_len vf M n ms i c
     omega
   · simp; omega
set_option maxRecDepth 100000 in
set_option maxHeartbeats 8000000 in
theorem violatedP_own (a b : PV) (ha : a.pure) (hb0 : b.pure) (n d : Nat) (hn : n≤256) (M : Nat→Nat) (ms : List Int) (hS : ∀ u : Nat,Spec Tryz.prog 14 [.agg (factP a b n d),.val (.int .i64 (u : Int))] (· = setN (M u))) (hCt : Spec Tryz.prog 24 [.agg (factP a b n d)] (· = .vec (nums ms) false))
 (vf : Con→Bool) (cs : List Con) (fl : Bool) (hok : ∀ c∈cs,ConOk c (vf c)) (hlen : cs.length≤100) :
 NSpec Tryz.prog 36 [.vec (cs.map conP) fl,.agg (factP a b n d)] .own ⟨2,(vaTo vf M n ms cs cs.length).map prC⟩ := by
 have hfp : pureL (factP a b n d) := factP_pure ha hb0 n d
 have hvs : ∀ c v,ConOk c v→Spec Tryz.prog 28 [.agg (conP c),.agg (factP a b n d)] (violV (violG c v M n)) := fun c v h => violP_spec a b ha hb0 n d hn M hS h
 have hnl := consP_len cs
 refine nspec_intro ok36 (Nat.le_of_ble_eq_true rfl) fun C hC => ?_
 refine aw_seq ?_
 refine aw_region ?_
 refine opsK_ofAlt rfl rfl rfl ?_
 repeat' (first | refine opsK_sub (subA_ownNil (k := 5) rfl 2 (by decide)) ?_ | (first|refine st ?_|(apply B<;>intro hb<;>try cases hb)))
 refine aw_loopR hC (fun i => i≤cs.length) (fun i => cs.length - i) 1 (fun i => [(3,.cp (factP a b n d)),(5,.own 0),(10,.vec (cs.map conP) fl),(11,.val (.int .i64 cs.length)),(12,.val (.int .i64 (i : Int)))])
  (fun i => [(0,⟨2,(vaTo vf M n ms cs i).map prC⟩)]) (by omega) 0 (Nat.zero_le _) (fun i=>i) (fun _ _=>rfl) injOn_id
  ⟨⟨_,rfl,.pure _ hfp⟩,⟨_,rfl,.own 0 (by decide)⟩,⟨_,rfl,.pure _ (cons_pureP cs)⟩,⟨_,by rw [← hnl]; rfl,.pure _ trivial⟩,⟨_,rfl,.pure _ trivial⟩,trivial⟩ ⟨⟨by decide,_,rfl,.same _ trivial⟩,trivial⟩ ?_
 intro i hi
 have hinc : IntKind.i64.wrap ((i : Int) + 1) = ((i + 1 : Nat) : Int) := IntWalk.i64_in _ ⟨by omega,by omega⟩
 (repeat'(first|refine at_dst 13 ?_|refine at_dstD 13 ?_|refine st ?_|(apply B<;>intro hb<;>try cases hb)))<;>try refine At.mk ?_
 refine opsK_bool rfl rfl rfl (fun hb=>?_) (fun hb=>?_)
 · have hil : i < cs.length := by have := of_decide_eq_true hb; omega
   have hget : cs[i]? = some cs[i] := List.getElem?_eq_getElem hil
   have hco := hok _ (List.getElem_mem hil)
   have hvl := vaTo_len vf M n ms cs i
   have hvl2 : (vaTo vf M n ms cs i).length≤100 * 257 := Nat.le_trans hvl (Nat.mul_le_mul (by omega) (by omega))
   clear hb
   (repeat'(first|refine at_dst 15 ?_|refine at_dstD 15 ?_|refine st ?_|(apply B<;>intro hb<;>try cases hb)))<;>try refine At.mk ?_
   refine opsK_of (E_iaddr (xs := cs) (g := conP) rfl rfl i rfl hil rfl) rfl rfl ?_
   generalize cs[i] = c at hget hco ⊢
   have hst := vaTo_succ vf M n ms hget
   have hkd := hco.kind
   have hdp := hco.depth
   have hsz := hco.size
   (repeat'(first|refine at_dst 17 ?_|refine at_dstD 17 ?_|refine st ?_|(apply B<;>intro hb<;>try cases hb)))<;>try refine At.mk ?_
   refine opsK_sub (subA_freezeBox (k := 7) (l := conP c) rfl rfl (conP_pure c)) ?_
   (repeat'(first|refine at_dst 19 ?_|refine at_dstD 19 ?_|refine st ?_|(apply B<;>intro hb<;>try cases hb)))<;>try refine At.mk ?_
   refine opsK_spec rfl rfl (hvs c (vf c) hco) ⟨conP_pure c,hfp,trivial⟩ rfl ?_
   rintro r ⟨f1,rfl⟩
   have hvn := violG_len c (vf c) M n
   have hseg : segV vf M n ms i c = (violG c (vf c) M n).map (fun u => (i,u)) ++ (if segU c (vf c) ms = true then [(i,0)] else []) := rfl
   generalize violG c (vf c) M n = vl at hvn hseg ⊢
   generalize vaTo vf M n ms cs i = pre at hvl2 hst ⊢
   have hvn2 : (nums (intsN vl)).length = vl.length := by rw [nums_length,intsN,List.length_map]
   have put1 : ∀ (o : List Pr) (p : Pr),o.map prC ++ [prC p] = (o ++ [p]).map prC := fun o p=>by rw [List.map_append]; rfl
   (refine go ?_;repeat' (apply B<;>intro hb<;>try cases hb))
   refine aw_loopR hC (fun j => j≤vl.length) (fun j => vl.length - j) 1 (fun j => [(3,.cp (factP a b n d)),(5,.own 0),(6,.val (.int .i64 (i : Int))),(7,.cp (conP c)),(10,.vec (cs.map conP) fl),(11,.val (.int .i64 cs.length)),(12,.val (.int .i64 (i : Int))),(19,.vec (nums (intsN vl)) f1),(20,.val (.int .i64 vl.length)),(21,.val (.int .i64 (j : Int)))])
    (fun j => [(0,⟨2,(pre ++ (vl.take j).map (fun u => (i,u))).map prC⟩)]) (by omega) 0 (Nat.zero_le _) (fun i=>i) (fun _ _=>rfl) injOn_id
    ⟨⟨_,rfl,.pure _ hfp⟩,⟨_,rfl,.own 0 (by decide)⟩,⟨_,rfl,.pure _ trivial⟩,⟨_,rfl,.pure _ (conP_pure c)⟩,⟨_,rfl,.pure _ (cons_pureP cs)⟩,⟨_,rfl,.pure _ trivial⟩,⟨_,rfl,.pure _ trivial⟩,⟨_,rfl,.pure _ (nums_pure _)⟩,⟨_,by rw [← hvn2]; rfl,.pure _ trivial⟩,⟨_,rfl,.pure _ trivial⟩,trivial⟩
    ⟨⟨by decide,_,rfl,by rw [List.take_zero,List.map_nil,List.append_nil]; exact .same _ (prs_pure _)⟩,trivial⟩ ?_
   intro j hj
   have hjnc : IntKind.i64.wrap ((j : Int) + 1) = ((j + 1 : Nat) : Int) := IntWalk.i64_in _ ⟨by omega,by omega⟩
   (repeat'(first|refine at_dst 22 ?_|refine at_dstD 22 ?_|refine st ?_|(apply B<;>intro hb<;>try cases hb)))<;>try refine At.mk ?_
   refine opsK_bool rfl rfl rfl (fun hb=>?_) (fun hb=>?_)
   · have hjl : j < vl.length := by have := of_decide_eq_true hb; omega
     have htk := take_snocG hjl
     clear hb
     (repeat'(first|refine at_dst 23 ?_|refine at_dstD 23 ?_|refine st ?_|(apply B<;>intro hb<;>try cases hb)))<;>try refine At.mk ?_
     refine opsK_of (E_iaddr (xs := vl) (g := fun r => [.val (.int .i64 ((r : Nat) : Int))]) (by
      show some (PV.vec (nums (intsN vl)) f1) = _
      rw [nums,intsN,List.map_map]; rfl) rfl j rfl hjl rfl) rfl rfl ?_
     generalize vl[j] = q at htk ⊢
     have happ : pre ++ (vl.take j).map (fun u => (i,u)) ++ [(i,q)] = pre ++ (vl.take (j + 1)).map (fun u => (i,u)) := by rw [htk,List.map_append,List.append_assoc]; rfl
     (repeat'(first|refine at_dst 30 ?_|refine at_dstD 30 ?_|refine st ?_|(apply B<;>intro hb<;>try cases hb)))<;>try refine At.mk ?_
     refine opsK_new (E_append (k := 0) (m := [prC (i,q)]) (fl := true) (b := ⟨2,(pre ++ (vl.take j).map (fun u => (i,u))).map prC⟩) rfl rfl rfl (fun r hr=>by rw [List.mem_singleton] at hr; subst hr; rfl) rfl (by
      show (((pre ++ (vl.take j).map (fun u => (i,u))).map prC).length + 1) * 16≤_
      rw [prs_len,List.length_append,List.length_map,List.length_take];omega)) rfl rfl ?_
     simp only
     rw [put1,happ]
     (refine go ?_;repeat' (apply B<;>intro hb<;>try cases hb))
     exact ⟨j + 1,mv 0 1,hjl,by omega,fun j hj => absurd hj (Nat.not_lt_zero _),injOn_of rfl,
      ⟨⟨_,rfl,.pure _ hfp⟩,⟨_,rfl,.own 0 (by decide)⟩,⟨_,rfl,.pure _ trivial⟩,⟨_,rfl,.pure _ (conP_pure c)⟩,⟨_,rfl,.pure _ (cons_pureP cs)⟩,⟨_,rfl,.pure _ trivial⟩,⟨_,rfl,.pure _ trivial⟩,⟨_,rfl,.pure _ (nums_pure _)⟩,⟨_,rfl,.pure _ trivial⟩,⟨_,by show some _ = some _; rw [hjnc],.pure _ trivial⟩,trivial⟩,⟨⟨by decide,_,rfl,.same _ (prs_pure _)⟩,trivial⟩⟩
   · have hjl : j = vl.length := by have := of_decide_eq_false hb; omega
     subst hjl
     rw [List.take_length]
     clear hb
     by_cases hk3 : c.kind = 3
     case neg =>
      have d3 : (((c.kind : Nat) : Int) == (3 : Int)) = false := by simp; omega
      have hsu : segU c (vf c) ms = false := by unfold segU; rw [decide_eq_false hk3]; rfl
      rw [hsu,if_neg (by decide),List.append_nil] at hseg
      rw [hseg] at hst
      rw [← hst]
      (repeat'(first|refine at_dst 34 ?_|refine at_dstD 34 ?_|refine st ?_|(apply B<;>intro hb<;>try cases hb)))<;>try refine At.mk ?_
      refine dK_of (E_boolEq rfl d3) rfl rfl ?_
      (refine go ?_;repeat' (apply B<;>intro hb<;>try cases hb))
      exact ⟨i + 1,fun i => i,hil,by omega,fun _ _ => rfl,injOn_id,⟨⟨_,rfl,.pure _ hfp⟩,⟨_,rfl,.own 0 (by decide)⟩,⟨_,rfl,.pure _ (cons_pureP cs)⟩,⟨_,rfl,.pure _ trivial⟩,⟨_,by show some _ = some _; rw [hinc],.pure _ trivial⟩,trivial⟩,⟨⟨by decide,_,rfl,.same _ (prs_pure _)⟩,trivial⟩⟩
     have d3 : (((c.kind : Nat) : Int) == (3 : Int)) = true := by simp; omega
     (repeat'(first|refine at_dst 34 ?_|refine at_dstD 34 ?_|refine st ?_|(apply B<;>intro hb<;>try cases hb)))<;>try refine At.mk ?_
     refine dK_of (E_boolEq rfl d3) rfl rfl ?_
     (repeat'(first|refine at_dst 37 ?_|refine at_dstD 37 ?_|refine st ?_|(apply B<;>intro hb<;>try cases hb)))<;>try refine At.mk ?_
     refine dK_on rfl ?_
     refine dK_eq (checkCP_spec hco) rfl rfl rfl ⟨conP_pure c,trivial⟩ ?_
     by_cases h0 : okC c (vf c) = 0
     case neg =>
      have d4 : (okC c (vf c) == 0) = false := by simp; exact h0
      have hsu : segU c (vf c) ms = false := by unfold segU; rw [decide_eq_false h0,Bool.and_false]; rfl
      rw [hsu,if_neg (by decide),List.append_nil] at hseg
      rw [hseg] at hst
      rw [← hst]
      (repeat'(first|refine at_dst 38 ?_|refine at_dstD 38 ?_|refine st ?_|(apply B<;>intro hb<;>try cases hb)))<;>try refine At.mk ?_
      refine dK_on rfl ?_
      refine dK_of (E_boolEq rfl d4) rfl rfl ?_
      (refine go ?_;repeat' (apply B<;>intro hb<;>try cases hb))
      exact ⟨i + 1,fun i => i,hil,by omega,fun _ _ => rfl,injOn_id,⟨⟨_,rfl,.pure _ hfp⟩,⟨_,rfl,.own 0 (by decide)⟩,⟨_,rfl,.pure _ (cons_pureP cs)⟩,⟨_,rfl,.pure _ trivial⟩,⟨_,by show some _ = some _; rw [hinc],.pure _ trivial⟩,trivial⟩,⟨⟨by decide,_,rfl,.same _ (prs_pure _)⟩,trivial⟩⟩
     have d4 : (okC c (vf c) == 0) = true := by simp; exact h0
     (repeat'(first|refine at_dst 38 ?_|refine at_dstD 38 ?_|refine st ?_|(apply B<;>intro hb<;>try cases hb)))<;>try refine At.mk ?_
     refine dK_on rfl ?_
     refine dK_of (E_boolEq rfl d4) rfl rfl ?_
     cases hB : holdsB c.f 0 ms
     · have hsu : segU c (vf c) ms = true := by unfold segU; rw [decide_eq_true hk3, decide_eq_true h0, hB]; rfl
       rw [hsu,if_pos rfl] at hseg
       rw [hseg,← List.append_assoc] at hst
       have hh := holds_spec 0 ms false c.f (by omega) (by omega)
       rw [show (decide (typeOfE c.f = 0) && decide (typeOfT c.f = 1) && decide (evM 0 ms c.f = 1)) = holdsB c.f 0 ms from rfl,setN_zero,hB] at hh
       (repeat'(first|refine at_dst 45 ?_|refine at_dstD 45 ?_|refine st ?_|(apply B<;>intro hb<;>try cases hb)))<;>try refine At.mk ?_
       refine dK_on rfl ?_
       refine dK_eq hCt rfl rfl rfl ⟨hfp,trivial⟩ ?_
       (repeat'(first|refine at_dst 46 ?_|refine at_dstD 46 ?_|refine st ?_|(apply B<;>intro hb<;>try cases hb)))<;>try refine At.mk ?_
       refine dK_on rfl ?_
       refine dK_call rfl rfl (.inr (by show _ = [PV.agg (lowL (fC .u8 c.f)),.agg [.vec [] false],.vec (lowLL (nums ms)) false]; rw [fC_lowC,lowLL_nums])) hh ⟨fC_pure _ _,⟨trivial,trivial⟩,nums_pure _,trivial⟩ ?_
       rintro r rfl
       (repeat'(first|refine at_dst 53 ?_|refine at_dstD 53 ?_|refine st ?_|(apply B<;>intro hb<;>try cases hb)))<;>try refine At.mk ?_
       refine opsK_new (E_append (k := 0) (m := [prC (i,0)]) (fl := true) (b := ⟨2,(pre ++ vl.map (fun u => (i,u))).map prC⟩) rfl rfl rfl (fun r hr=>by rw [List.mem_singleton] at hr; subst hr; rfl) rfl (by
        show (((pre ++ vl.map (fun u => (i,u))).map prC).length + 1) * 16≤_
        rw [prs_len,List.length_append,List.length_map];omega)) rfl rfl ?_
       simp only
       rw [put1,← hst]
       (refine go ?_;repeat' (apply B<;>intro hb<;>try cases hb))
       exact ⟨i + 1,mv 0 18,hil,by omega,fun j hj => absurd hj (Nat.not_lt_zero _),injOn_of rfl,⟨⟨_,rfl,.pure _ hfp⟩,⟨_,rfl,.own 0 (by decide)⟩,⟨_,rfl,.pure _ (cons_pureP cs)⟩,⟨_,rfl,.pure _ trivial⟩,⟨_,by show some _ = some _; rw [hinc],.pure _ trivial⟩,trivial⟩,⟨⟨by decide,_,rfl,.same _ (prs_pure _)⟩,trivial⟩⟩
     · have hsu : segU c (vf c) ms = false := by unfold segU; rw [hB, Bool.not_true, Bool.and_false]
       rw [hsu,if_neg (by decide),List.append_nil] at hseg
       rw [hseg] at hst
       rw [← hst]
       have hh := holds_spec 0 ms false c.f (by omega) (by omega)
       rw [show (decide (typeOfE c.f = 0) && decide (typeOfT c.f = 1) && decide (evM 0 ms c.f = 1)) = holdsB c.f 0 ms from rfl,setN_zero,hB] at hh
       (repeat'(first|refine at_dst 45 ?_|refine at_dstD 45 ?_|refine st ?_|(apply B<;>intro hb<;>try cases hb)))<;>try refine At.mk ?_
       refine dK_on rfl ?_
       refine dK_eq hCt rfl rfl rfl ⟨hfp,trivial⟩ ?_
       (repeat'(first|refine at_dst 46 ?_|refine at_dstD 46 ?_|refine st ?_|(apply B<;>intro hb<;>try cases hb)))<;>try refine At.mk ?_
       refine dK_on rfl ?_
       refine dK_call rfl rfl (.inr (by show _ = [PV.agg (lowL (fC .u8 c.f)),.agg [.vec [] false],.vec (lowLL (nums ms)) false]; rw [fC_lowC,lowLL_nums])) hh ⟨fC_pure _ _,⟨trivial,trivial⟩,nums_pure _,trivial⟩ ?_
       rintro r rfl
       (refine go ?_;repeat' (apply B<;>intro hb<;>try cases hb))
       exact ⟨i + 1,fun i => i,hil,by omega,fun _ _ => rfl,injOn_id,⟨⟨_,rfl,.pure _ hfp⟩,⟨_,rfl,.own 0 (by decide)⟩,⟨_,rfl,.pure _ (cons_pureP cs)⟩,⟨_,rfl,.pure _ trivial⟩,⟨_,by show some _ = some _; rw [hinc],.pure _ trivial⟩,trivial⟩,⟨⟨by decide,_,rfl,.same _ (prs_pure _)⟩,trivial⟩⟩
 · have hil : i = cs.length := by have := of_decide_eq_false hb; omega
   subst hil
   clear hb
   (refine go ?_;repeat' (apply B<;>intro hb<;>try cases hb))
   exact ⟨_,_,rfl,.inl rfl,_,rfl,rfl⟩
theorem violatedP_spec (a b : PV) (ha : a.pure) (hb0 : b.pure) (n d : Nat) (hn : n≤256) (M : Nat→Nat) (ms : List Int) (hS : ∀ u : Nat,Spec Tryz.prog 14 [.agg (factP a b n d),.val (.int .i64 (u : Int))] (· = setN (M u))) (hCt : Spec Tryz.prog 24 [.agg (factP a b n d)] (· = .vec (nums ms) false))
 (vf : Con→Bool) (cs : List Con) (fl : Bool) (hok : ∀ c∈cs,ConOk c (vf c)) (hlen : cs.length≤100) :
 Spec Tryz.prog 36 [.vec (cs.map conP) fl,.agg (factP a b n d)] (· = .vec ((vaTo vf M n ms cs cs.length).map prC) false) :=
 (violatedP_own a b ha hb0 n d hn M ms hS hCt vf cs fl hok hlen).spec (prs_pure _) (fun _ => .own) (prs_pure _)
set_option maxRecDepth 100000 in
set_option maxHeartbeats 8000000 in
theorem violatedR_spec {l : List Pr} {m : List En} {n d : Nat} (hT : Told l m n d) (fl0 fm : Bool)
 (vf : Con→Bool) (cs : List Con) (fl : Bool) (hok : ∀ c∈cs,ConOk c (vf c)) (hlen : cs.length≤100) :
 Spec Tryz.prog 37 [.vec (cs.map conR) fl,.agg (factR l fl0 m fm n d)] (· = .vec ((vaTo vf (fun u => memb l m n d ((u : Nat) : Int)) n (cntAll l m n d) cs cs.length).map prC) false) := by
 have hfp := factR_pure l fl0 m fm n d
 have hn5 := hT.n
 have hn : n≤256 := by omega
 have hvs : ∀ c v,ConOk c v→Spec Tryz.prog 30 [.agg (conR c),.agg (factR l fl0 m fm n d)] (violV (violG c v (fun u => memb l m n d ((u : Nat) : Int)) n)) := fun c v h => violR_spec hT fl0 fm h
 have hCt := countsR_spec hT fl0 fm
 generalize (fun u : Nat => memb l m n d ((u : Nat) : Int)) = M at hvs ⊢
 generalize cntAll l m n d = ms at hCt ⊢
 have hnl := consR_len cs
 refine spec_intro ok37 (Nat.le_of_ble_eq_true rfl) fun C hC => ?_
 refine aw_seq ?_
 refine aw_region ?_
 refine opsK_ofAlt rfl rfl rfl ?_
 repeat' (first | refine opsK_sub (subA_ownNil (k := 5) rfl 2 (by decide)) ?_ | (first|refine st ?_|(apply B<;>intro hb<;>try cases hb)))
 refine aw_loopR hC (fun i => i≤cs.length) (fun i => cs.length - i) 1 (fun i => [(3,.cp (factR l fl0 m fm n d)),(5,.own 0),(10,.vec (cs.map conR) fl),(11,.val (.int .i64 cs.length)),(12,.val (.int .i64 (i : Int)))])
  (fun i => [(0,⟨2,(vaTo vf M n ms cs i).map prC⟩)]) (by omega) 0 (Nat.zero_le _) (fun i=>i) (fun _ _=>rfl) injOn_id
  ⟨⟨_,rfl,.pure _ hfp⟩,⟨_,rfl,.own 0 (by decide)⟩,⟨_,rfl,.pure _ (cons_pureR cs)⟩,⟨_,by rw [← hnl]; rfl,.pure _ trivial⟩,⟨_,rfl,.pure _ trivial⟩,trivial⟩ ⟨⟨by decide,_,rfl,.same _ trivial⟩,trivial⟩ ?_
 intro i hi
 have hinc : IntKind.i64.wrap ((i : Int) + 1) = ((i + 1 : Nat) : Int) := IntWalk.i64_in _ ⟨by omega,by omega⟩
 (repeat'(first|refine at_dst 13 ?_|refine at_dstD 13 ?_|refine st ?_|(apply B<;>intro hb<;>try cases hb)))<;>try refine At.mk ?_
 refine opsK_bool rfl rfl rfl (fun hb=>?_) (fun hb=>?_)
 · have hil : i < cs.length := by have := of_decide_eq_true hb; omega
   have hget : cs[i]? = some cs[i] := List.getElem?_eq_getElem hil
   have hco := hok _ (List.getElem_mem hil)
   have hvl := vaTo_len vf M n ms cs i
   have hvl2 : (vaTo vf M n ms cs i).length≤100 * 257 := Nat.le_trans hvl (Nat.mul_le_mul (by omega) (by omega))
   clear hb
   (repeat'(first|refine at_dst 15 ?_|refine at_dstD 15 ?_|refine st ?_|(apply B<;>intro hb<;>try cases hb)))<;>try refine At.mk ?_
   refine opsK_of (E_iaddr (xs := cs) (g := conR) rfl rfl i rfl hil rfl) rfl rfl ?_
   generalize cs[i] = c at hget hco ⊢
   have hst := vaTo_succ vf M n ms hget
   have hkd := hco.kind
   have hdp := hco.depth
   have hsz := hco.size
   (repeat'(first|refine at_dst 17 ?_|refine at_dstD 17 ?_|refine st ?_|(apply B<;>intro hb<;>try cases hb)))<;>try refine At.mk ?_
   refine opsK_sub (subA_freezeBox (k := 7) (l := conR c) rfl rfl (conR_pure c)) ?_
   (repeat'(first|refine at_dst 19 ?_|refine at_dstD 19 ?_|refine st ?_|(apply B<;>intro hb<;>try cases hb)))<;>try refine At.mk ?_
   refine opsK_spec rfl rfl (hvs c (vf c) hco) ⟨conR_pure c,hfp,trivial⟩ rfl ?_
   rintro r ⟨f1,rfl⟩
   have hvn := violG_len c (vf c) M n
   have hseg : segV vf M n ms i c = (violG c (vf c) M n).map (fun u => (i,u)) ++ (if segU c (vf c) ms = true then [(i,0)] else []) := rfl
   generalize violG c (vf c) M n = vl at hvn hseg ⊢
   generalize vaTo vf M n ms cs i = pre at hvl2 hst ⊢
   have hvn2 : (nums (intsN vl)).length = vl.length := by rw [nums_length,intsN,List.length_map]
   have put1 : ∀ (o : List Pr) (p : Pr),o.map prC ++ [prC p] = (o ++ [p]).map prC := fun o p=>by rw [List.map_append]; rfl
   (refine go ?_;repeat' (apply B<;>intro hb<;>try cases hb))
   refine aw_loopR hC (fun j => j≤vl.length) (fun j => vl.length - j) 1 (fun j => [(3,.cp (factR l fl0 m fm n d)),(5,.own 0),(6,.val (.int .i64 (i : Int))),(7,.cp (conR c)),(10,.vec (cs.map conR) fl),(11,.val (.int .i64 cs.length)),(12,.val (.int .i64 (i : Int))),(19,.vec (nums (intsN vl)) f1),(20,.val (.int .i64 vl.length)),(21,.val (.int .i64 (j : Int)))])
    (fun j => [(0,⟨2,(pre ++ (vl.take j).map (fun u => (i,u))).map prC⟩)]) (by omega) 0 (Nat.zero_le _) (fun i=>i) (fun _ _=>rfl) injOn_id
    ⟨⟨_,rfl,.pure _ hfp⟩,⟨_,rfl,.own 0 (by decide)⟩,⟨_,rfl,.pure _ trivial⟩,⟨_,rfl,.pure _ (conR_pure c)⟩,⟨_,rfl,.pure _ (cons_pureR cs)⟩,⟨_,rfl,.pure _ trivial⟩,⟨_,rfl,.pure _ trivial⟩,⟨_,rfl,.pure _ (nums_pure _)⟩,⟨_,by rw [← hvn2]; rfl,.pure _ trivial⟩,⟨_,rfl,.pure _ trivial⟩,trivial⟩
    ⟨⟨by decide,_,rfl,by rw [List.take_zero,List.map_nil,List.append_nil]; exact .same _ (prs_pure _)⟩,trivial⟩ ?_
   intro j hj
   have hjnc : IntKind.i64.wrap ((j : Int) + 1) = ((j + 1 : Nat) : Int) := IntWalk.i64_in _ ⟨by omega,by omega⟩
   (repeat'(first|refine at_dst 22 ?_|refine at_dstD 22 ?_|refine st ?_|(apply B<;>intro hb<;>try cases hb)))<;>try refine At.mk ?_
   refine opsK_bool rfl rfl rfl (fun hb=>?_) (fun hb=>?_)
   · have hjl : j < vl.length := by have := of_decide_eq_true hb; omega
     have htk := take_snocG hjl
     clear hb
     (repeat'(first|refine at_dst 23 ?_|refine at_dstD 23 ?_|refine st ?_|(apply B<;>intro hb<;>try cases hb)))<;>try refine At.mk ?_
     refine opsK_of (E_iaddr (xs := vl) (g := fun r => [.val (.int .i64 ((r : Nat) : Int))]) (by
      show some (PV.vec (nums (intsN vl)) f1) = _
      rw [nums,intsN,List.map_map]; rfl) rfl j rfl hjl rfl) rfl rfl ?_
     generalize vl[j] = q at htk ⊢
     have happ : pre ++ (vl.take j).map (fun u => (i,u)) ++ [(i,q)] = pre ++ (vl.take (j + 1)).map (fun u => (i,u)) := by rw [htk,List.map_append,List.append_assoc]; rfl
     (repeat'(first|refine at_dst 30 ?_|refine at_dstD 30 ?_|refine st ?_|(apply B<;>intro hb<;>try cases hb)))<;>try refine At.mk ?_
     refine opsK_new (E_append (k := 0) (m := [prC (i,q)]) (fl := true) (b := ⟨2,(pre ++ (vl.take j).map (fun u => (i,u))).map prC⟩) rfl rfl rfl (fun r hr=>by rw [List.mem_singleton] at hr; subst hr; rfl) rfl (by
      show (((pre ++ (vl.take j).map (fun u => (i,u))).map prC).length + 1) * 16≤_
      rw [prs_len,List.length_append,List.length_map,List.length_take];omega)) rfl rfl ?_
     simp only
     rw [put1,happ]
     (refine go ?_;repeat' (apply B<;>intro hb<;>try cases hb))
     exact ⟨j + 1,mv 0 1,hjl,by omega,fun j hj => absurd hj (Nat.not_lt_zero _),injOn_of rfl,
      ⟨⟨_,rfl,.pure _ hfp⟩,⟨_,rfl,.own 0 (by decide)⟩,⟨_,rfl,.pure _ trivial⟩,⟨_,rfl,.pure _ (conR_pure c)⟩,⟨_,rfl,.pure _ (cons_pureR cs)⟩,⟨_,rfl,.pure _ trivial⟩,⟨_,rfl,.pure _ trivial⟩,⟨_,rfl,.pure _ (nums_pure _)⟩,⟨_,rfl,.pure _ trivial⟩,⟨_,by show some _ = some _; rw [hjnc],.pure _ trivial⟩,trivial⟩,⟨⟨by decide,_,rfl,.same _ (prs_pure _)⟩,trivial⟩⟩
   · have hjl : j = vl.length := by have := of_decide_eq_false hb; omega
     subst hjl
     rw [List.take_length]
     clear hb
     by_cases hk3 : c.kind = 3
     case neg =>
      have d3 : (((c.kind : Nat) : Int) == (3 : Int)) = false := by simp; omega
      have hsu : segU c (vf c) ms = false := by unfold segU; rw [decide_eq_false hk3]; rfl
      rw [hsu,if_neg (by decide),List.append_nil] at hseg
      rw [hseg] at hst
      rw [← hst]
      (repeat'(first|refine at_dst 34 ?_|refine at_dstD 34 ?_|refine st ?_|(apply B<;>intro hb<;>try cases hb)))<;>try refine At.mk ?_
      refine dK_of (E_boolEq rfl d3) rfl rfl ?_
      (refine go ?_;repeat' (apply B<;>intro hb<;>try cases hb))
      exact ⟨i + 1,fun i => i,hil,by omega,fun _ _ => rfl,injOn_id,⟨⟨_,rfl,.pure _ hfp⟩,⟨_,rfl,.own 0 (by decide)⟩,⟨_,rfl,.pure _ (cons_pureR cs)⟩,⟨_,rfl,.pure _ trivial⟩,⟨_,by show some _ = some _; rw [hinc],.pure _ trivial⟩,trivial⟩,⟨⟨by decide,_,rfl,.same _ (prs_pure _)⟩,trivial⟩⟩
     have d3 : (((c.kind : Nat) : Int) == (3 : Int)) = true := by simp; omega
     (repeat'(first|refine at_dst 34 ?_|refine at_dstD 34 ?_|refine st ?_|(apply B<;>intro hb<;>try cases hb)))<;>try refine At.mk ?_
     refine dK_of (E_boolEq rfl d3) rfl rfl ?_
     (repeat'(first|refine at_dst 37 ?_|refine at_dstD 37 ?_|refine st ?_|(apply B<;>intro hb<;>try cases hb)))<;>try refine At.mk ?_
     refine dK_on rfl ?_
     refine dK_eq (checkCR_spec hco) rfl rfl rfl ⟨conR_pure c,trivial⟩ ?_
     by_cases h0 : okC c (vf c) = 0
     case neg =>
      have d4 : (okC c (vf c) == 0) = false := by simp; exact h0
      have hsu : segU c (vf c) ms = false := by unfold segU; rw [decide_eq_false h0,Bool.and_false]; rfl
      rw [hsu,if_neg (by decide),List.append_nil] at hseg
      rw [hseg] at hst
      rw [← hst]
      (repeat'(first|refine at_dst 38 ?_|refine at_dstD 38 ?_|refine st ?_|(apply B<;>intro hb<;>try cases hb)))<;>try refine At.mk ?_
      refine dK_on rfl ?_
      refine dK_of (E_boolEq rfl d4) rfl rfl ?_
      (refine go ?_;repeat' (apply B<;>intro hb<;>try cases hb))
      exact ⟨i + 1,fun i => i,hil,by omega,fun _ _ => rfl,injOn_id,⟨⟨_,rfl,.pure _ hfp⟩,⟨_,rfl,.own 0 (by decide)⟩,⟨_,rfl,.pure _ (cons_pureR cs)⟩,⟨_,rfl,.pure _ trivial⟩,⟨_,by show some _ = some _; rw [hinc],.pure _ trivial⟩,trivial⟩,⟨⟨by decide,_,rfl,.same _ (prs_pure _)⟩,trivial⟩⟩
     have d4 : (okC c (vf c) == 0) = true := by simp; exact h0
     (repeat'(first|refine at_dst 38 ?_|refine at_dstD 38 ?_|refine st ?_|(apply B<;>intro hb<;>try cases hb)))<;>try refine At.mk ?_
     refine dK_on rfl ?_
     refine dK_of (E_boolEq rfl d4) rfl rfl ?_
     cases hB : holdsB c.f 0 ms
     · have hsu : segU c (vf c) ms = true := by unfold segU; rw [decide_eq_true hk3, decide_eq_true h0, hB]; rfl
       rw [hsu,if_pos rfl] at hseg
       rw [hseg,← List.append_assoc] at hst
       have hh := holdsR_spec 0 ms false c.f (by omega) (by omega)
       rw [show (decide (typeOfE c.f = 0) && decide (typeOfT c.f = 1) && decide (evM 0 ms c.f = 1)) = holdsB c.f 0 ms from rfl,hB] at hh
       (repeat'(first|refine at_dst 44 ?_|refine at_dstD 44 ?_|refine st ?_|(apply B<;>intro hb<;>try cases hb)))<;>try refine At.mk ?_
       refine dK_on rfl ?_
       refine dK_eq hCt rfl rfl rfl ⟨hfp,trivial⟩ ?_
       (repeat'(first|refine at_dst 45 ?_|refine at_dstD 45 ?_|refine st ?_|(apply B<;>intro hb<;>try cases hb)))<;>try refine At.mk ?_
       refine dK_on rfl ?_
       refine dK_eq hh rfl rfl rfl ⟨fC_pure _ _,trivial,nums_pure _,trivial⟩ ?_
       (repeat'(first|refine at_dst 52 ?_|refine at_dstD 52 ?_|refine st ?_|(apply B<;>intro hb<;>try cases hb)))<;>try refine At.mk ?_
       refine opsK_new (E_append (k := 0) (m := [prC (i,0)]) (fl := true) (b := ⟨2,(pre ++ vl.map (fun u => (i,u))).map prC⟩) rfl rfl rfl (fun r hr=>by rw [List.mem_singleton] at hr; subst hr; rfl) rfl (by
        show (((pre ++ vl.map (fun u => (i,u))).map prC).length + 1) * 16≤_
        rw [prs_len,List.length_append,List.length_map];omega)) rfl rfl ?_
       simp only
       rw [put1,← hst]
       (refine go ?_;repeat' (apply B<;>intro hb<;>try cases hb))
       exact ⟨i + 1,mv 0 17,hil,by omega,fun j hj => absurd hj (Nat.not_lt_zero _),injOn_of rfl,⟨⟨_,rfl,.pure _ hfp⟩,⟨_,rfl,.own 0 (by decide)⟩,⟨_,rfl,.pure _ (cons_pureR cs)⟩,⟨_,rfl,.pure _ trivial⟩,⟨_,by show some _ = some _; rw [hinc],.pure _ trivial⟩,trivial⟩,⟨⟨by decide,_,rfl,.same _ (prs_pure _)⟩,trivial⟩⟩
     · have hsu : segU c (vf c) ms = false := by unfold segU; rw [hB, Bool.not_true, Bool.and_false]
       rw [hsu,if_neg (by decide),List.append_nil] at hseg
       rw [hseg] at hst
       rw [← hst]
       have hh := holdsR_spec 0 ms false c.f (by omega) (by omega)
       rw [show (decide (typeOfE c.f = 0) && decide (typeOfT c.f = 1) && decide (evM 0 ms c.f = 1)) = holdsB c.f 0 ms from rfl,hB] at hh
       (repeat'(first|refine at_dst 44 ?_|refine at_dstD 44 ?_|refine st ?_|(apply B<;>intro hb<;>try cases hb)))<;>try refine At.mk ?_
       refine dK_on rfl ?_
       refine dK_eq hCt rfl rfl rfl ⟨hfp,trivial⟩ ?_
       (repeat'(first|refine at_dst 45 ?_|refine at_dstD 45 ?_|refine st ?_|(apply B<;>intro hb<;>try cases hb)))<;>try refine At.mk ?_
       refine dK_on rfl ?_
       refine dK_eq hh rfl rfl rfl ⟨fC_pure _ _,trivial,nums_pure _,trivial⟩ ?_
       (refine go ?_;repeat' (apply B<;>intro hb<;>try cases hb))
       exact ⟨i + 1,fun i => i,hil,by omega,fun _ _ => rfl,injOn_id,⟨⟨_,rfl,.pure _ hfp⟩,⟨_,rfl,.own 0 (by decide)⟩,⟨_,rfl,.pure _ (cons_pureR cs)⟩,⟨_,rfl,.pure _ trivial⟩,⟨_,by show some _ = some _; rw [hinc],.pure _ trivial⟩,trivial⟩,⟨⟨by decide,_,rfl,.same _ (prs_pure _)⟩,trivial⟩⟩
 · have hil : i = cs.length := by have := of_decide_eq_false hb; omega
   subst hil
   clear hb
   (repeat'(first|refine at_dst 54 ?_|refine at_dstD 54 ?_|refine st ?_|(apply B<;>intro hb<;>try cases hb)))<;>try refine At.mk ?_
   refine opsK_sub (subA_freeze (k := 5) rfl rfl (prs_pure _)) ?_
   (refine go ?_;repeat' (apply B<;>intro hb<;>try cases hb))
   exact ret_ok rfl (prs_pure _) rfl
end Go.Proofs.YtbmhdpflloepkaaGreatDoor

namespace Go.Proofs.YtbmhdpflloepkaaGreatDoor
open Go.RowKit
set_option linter.unusedVariables false
attribute [local irreducible] aw opsK dK

theorem eqPr {p q : Pr} : ((((p.1 : Int) == (q.1 : Int)) && (((p.2 : Int) == (q.2 : Int)) && true))) = decide (p = q) := by
 rw [Bool.and_true,Bool.eq_iff_iff,Bool.and_eq_true,beq_iff_eq,beq_iff_eq,Int.ofNat_inj,Int.ofNat_inj,decide_eq_true_iff]
 exact ⟨fun h => Prod.ext h.1 h.2,fun h=>by rw [h]; exact ⟨rfl,rfl⟩⟩
set_option maxHeartbeats 2000000 in
theorem inR_spec (l : List Pr) (f : Bool) (p : Pr) (hlen : l.length≤1000000) : Spec Tryz.prog 79 [.vec (l.map prC) f,.agg (prC p)] (· = .val (.bool (decide (p∈l)))) := by
 have hnl := prs_len l
 have hpl : ∀ D,innLL D (l.map prC) := fun D => innLL_mono (fun _ h => h.elim) _ (prs_pure l)
 have hpc : ∀ D,innL D (prC p) := fun D => innL_mono (fun _ h => h.elim) _ (prC_pure p)
 refine spec_intro ok79 (Nat.le_of_ble_eq_true rfl) fun C hC => ?_
 refine aw_seq ?_
 refine aw_region ?_
 refine opsK_ofAlt rfl rfl rfl ?_
 (refine go ?_;repeat' (apply B<;>intro hb<;>try cases hb))
 refine aw_loopH hC (fun i => i≤l.length∧p ∉ l.take i) (fun i => l.length - i) 0 (fun i => [(3,.cp (prC p)),(7,.vec (l.map prC) f),(8,.val (.int .i64 l.length)),(9,.val (.int .i64 (i : Int)))]) (fun _=>[]) (Nat.zero_le _) 0 ⟨Nat.zero_le _,by simp⟩
  ⟨⟨rfl,hpc _⟩,⟨rfl,hpl _⟩,⟨by rw [← hnl]; rfl,trivial⟩,⟨rfl,trivial⟩,trivial⟩ trivial ?_
 rintro i ⟨hi,hno⟩
 have hinc : IntKind.i64.wrap ((i : Int) + 1) = ((i + 1 : Nat) : Int) := IntWalk.i64_in _ ⟨by omega,by omega⟩
 (repeat'(first|refine at_dst 10 ?_|refine at_dstD 10 ?_|refine st ?_|(apply B<;>intro hb<;>try cases hb)))<;>try refine At.mk ?_
 refine opsK_bool rfl rfl rfl (fun hb=>?_) (fun hb=>?_)
 · have hil : i < l.length := by have := of_decide_eq_true hb; omega
   have htk := take_snocG hil
   have hm := List.getElem_mem hil
   clear hb
   (refine go ?_;repeat' (apply B<;>intro hb<;>try cases hb))
   refine opsK_of (E_iaddr (xs := l) (g := prC) rfl rfl i rfl hil rfl) rfl rfl ?_
   generalize l[i] = q at htk hm ⊢
   (repeat'(first|refine at_dst 15 ?_|refine at_dstD 15 ?_|refine st ?_|(apply B<;>intro hb<;>try cases hb)))<;>try refine At.mk ?_
   by_cases h : q = p
   · refine opsK_of (E_boolEq (v := true) rfl (eqPr.trans (decide_eq_true h))) rfl rfl ?_
     (refine go ?_;repeat' (apply B<;>intro hb<;>try cases hb))
     exact ret_ok rfl trivial (by rw [decide_eq_true (by rw [← h]; exact hm)])
   · refine opsK_of (E_boolEq (v := false) rfl (eqPr.trans (decide_eq_false h))) rfl rfl ?_
     (refine go ?_;repeat' (apply B<;>intro hb<;>try cases hb))
     refine ⟨i + 1,⟨hil,fun hh => ?_⟩,by omega,⟨⟨rfl,hpc _⟩,⟨rfl,hpl _⟩,⟨rfl,trivial⟩,⟨by show some _ = some _; rw [hinc],trivial⟩,trivial⟩,trivial⟩
     rw [htk] at hh
     rcases List.mem_append.1 hh with hh | hh
     · exact hno hh
     · exact h (List.mem_singleton.1 hh).symm
 · have hil : i = l.length := by have := of_decide_eq_false hb; omega
   subst hil
   rw [List.take_length] at hno
   clear hb
   (refine go ?_;repeat' (apply B<;>intro hb<;>try cases hb))
   exact ret_ok rfl trivial (by rw [decide_eq_false hno])
def newM (cs : List Con) (old : List Pr) (l : List Pr) : List Pr := l.filter fun v => (match cs[v.1]? with | some c => c.en | none => false) && !decide (v∈old)
theorem newM_snoc (cs : List Con) (old l : List Pr) (v : Pr) {c : Con} (h : cs[v.1]? = some c) : newM cs old (l ++ [v]) = if c.en = true∧v ∉ old then newM cs old l ++ [v] else newM cs old l := by
 unfold newM
 rw [List.filter_append,List.filter_cons,List.filter_nil,h]
 by_cases h1 : c.en = true∧v ∉ old
 · rw [if_pos h1,if_pos (by simp [h1.1,h1.2])]
 · rw [if_neg h1, if_neg (by
    simp only [Bool.and_eq_true,Bool.not_eq_true',decide_eq_false_iff_not]
    exact h1),List.append_nil]
theorem vaTo_lt (vf : Con→Bool) (M : Nat→Nat) (n : Nat) (ms : List Int) (cs : List Con) : ∀ i,i≤cs.length→∀ v∈vaTo vf M n ms cs i,v.1 < i
 | 0,_,v,hv=>by cases hv
 | i + 1, hi, v, hv => by
   rw [vaTo] at hv
   rcases List.mem_append.1 hv with hv | hv
   · have := vaTo_lt vf M n ms cs i (by omega) v hv; omega
   · cases hc : cs[i]? with
     | none => rw [hc] at hv; cases hv
     | some c =>
       rw [hc] at hv
       have : v.1 = i := by
        unfold segV at hv
        rcases List.mem_append.1 hv with hv | hv
        · obtain ⟨u,_,rfl⟩ := List.mem_map.1 hv; rfl
        · split at hv
          · rw [List.mem_singleton] at hv; rw [hv]
          · cases hv
       omega
set_option maxRecDepth 100000 in
set_option maxHeartbeats 8000000 in
theorem newR_spec {l : List Pr} {m : List En} {n d : Nat} (hT : Told l m n d) {l2 : List Pr} {m2 : List En} {n2 d2 : Nat} (hT2 : Told l2 m2 n2 d2) (fl0 fm fl2 fm2 : Bool)
 (vf : Con→Bool) (cs : List Con) (fl : Bool) (hok : ∀ c∈cs,ConOk c (vf c)) (hlen : cs.length≤100) :
 Spec Tryz.prog 39 [.vec (cs.map conR) fl,.agg (factR l fl0 m fm n d),.agg (factR l2 fl2 m2 fm2 n2 d2)] (· = .vec ((newM cs (vaTo vf (fun u => memb l m n d ((u : Nat) : Int)) n (cntAll l m n d) cs cs.length) (vaTo vf (fun u => memb l2 m2 n2 d2 ((u : Nat) : Int)) n2 (cntAll l2 m2 n2 d2) cs cs.length)).map prC) false) := by
 have h1 := violatedR_spec hT fl0 fm vf cs fl hok hlen
 have h2 := violatedR_spec hT2 fl2 fm2 vf cs fl hok hlen
 have hlt := vaTo_lt vf (fun u => memb l2 m2 n2 d2 ((u : Nat) : Int)) n2 (cntAll l2 m2 n2 d2) cs cs.length (Nat.le_refl _)
 have hol := vaTo_len vf (fun u => memb l m n d ((u : Nat) : Int)) n (cntAll l m n d) cs cs.length
 have hal := vaTo_len vf (fun u => memb l2 m2 n2 d2 ((u : Nat) : Int)) n2 (cntAll l2 m2 n2 d2) cs cs.length
 have hn1 := hT.n
 have hn2 := hT2.n
 have hol2 := Nat.le_trans hol (Nat.mul_le_mul hlen (show n + 1≤6 by omega))
 have hal2 := Nat.le_trans hal (Nat.mul_le_mul hlen (show n2 + 1≤6 by omega))
 generalize vaTo vf (fun u => memb l m n d ((u : Nat) : Int)) n (cntAll l m n d) cs cs.length = old at h1 hol2 ⊢
 generalize vaTo vf (fun u => memb l2 m2 n2 d2 ((u : Nat) : Int)) n2 (cntAll l2 m2 n2 d2) cs cs.length = aft at h2 hlt hal2 ⊢
 clear hol hal
 have hf1 := factR_pure l fl0 m fm n d
 have hf2 := factR_pure l2 fl2 m2 fm2 n2 d2
 have hnl := prs_len aft
 refine spec_intro ok39 (Nat.le_of_ble_eq_true rfl) fun C hC => ?_
 refine aw_seq ?_
 refine aw_region ?_
 refine opsK_ofAlt rfl rfl rfl ?_
 refine opsK_ofAlt rfl rfl rfl ?_
 repeat' (first | refine opsK_sub (subA_ownNil (k := 7) rfl 2 (by decide)) ?_ | (first|refine st ?_|(apply B<;>intro hb<;>try cases hb)))
 refine opsK_eq h1 rfl rfl rfl ⟨cons_pureR cs,hf1,trivial⟩ rfl ?_
 (repeat'(first|refine at_dst 16 ?_|refine at_dstD 16 ?_|refine st ?_|(apply B<;>intro hb<;>try cases hb)))<;>try refine At.mk ?_
 refine opsK_eq h2 rfl rfl rfl ⟨cons_pureR cs,hf2,trivial⟩ rfl ?_
 (refine go ?_;repeat' (apply B<;>intro hb<;>try cases hb))
 refine aw_loopR hC (fun i => i≤aft.length) (fun i => aft.length - i) 1 (fun i => [(0,.vec (cs.map conR) fl),(7,.own 0),(8,.vec (old.map prC) false),(16,.vec (aft.map prC) false),(17,.val (.int .i64 aft.length)),(18,.val (.int .i64 (i : Int)))])
  (fun i => [(0,⟨2,(newM cs old (aft.take i)).map prC⟩)]) (by omega) 0 (Nat.zero_le _) (fun i=>i) (fun _ _=>rfl) injOn_id
  ⟨⟨_,rfl,.pure _ (cons_pureR cs)⟩,⟨_,rfl,.own 0 (by decide)⟩,⟨_,rfl,.pure _ (prs_pure _)⟩,⟨_,rfl,.pure _ (prs_pure _)⟩,⟨_,by rw [← hnl]; rfl,.pure _ trivial⟩,⟨_,rfl,.pure _ trivial⟩,trivial⟩ ⟨⟨by decide,_,rfl,.same _ trivial⟩,trivial⟩ ?_
 intro i hi
 have hinc : IntKind.i64.wrap ((i : Int) + 1) = ((i + 1 : Nat) : Int) := IntWalk.i64_in _ ⟨by omega,by omega⟩
 have hnm : (newM cs old (aft.take i)).length≤600 := Nat.le_trans (List.length_filter_le _ _) (by rw [List.length_take];omega)
 have put1 : ∀ (o : List Pr) (p : Pr),o.map prC ++ [prC p] = (o ++ [p]).map prC := fun o p=>by rw [List.map_append]; rfl
 (repeat'(first|refine at_dst 19 ?_|refine at_dstD 19 ?_|refine st ?_|(apply B<;>intro hb<;>try cases hb)))<;>try refine At.mk ?_
 refine opsK_bool rfl rfl rfl (fun hb=>?_) (fun hb=>?_)
 · have hil : i < aft.length := by have := of_decide_eq_true hb; omega
   have htk := take_snocG hil
   have hv := hlt _ (List.getElem_mem hil)
   clear hb
   (refine go ?_;repeat' (apply B<;>intro hb<;>try cases hb))
   refine opsK_of (E_iaddr (xs := aft) (g := prC) rfl rfl i rfl hil rfl) rfl rfl ?_
   generalize aft[i] = v at htk hv ⊢
   have hget : cs[v.1]? = some cs[v.1] := List.getElem?_eq_getElem hv
   have hsn := newM_snoc cs old (aft.take i) v hget
   rw [← htk] at hsn
   (repeat'(first|refine at_dst 25 ?_|refine at_dstD 25 ?_|refine st ?_|(apply B<;>intro hb<;>try cases hb)))<;>try refine At.mk ?_
   refine opsK_of (E_iaddr (xs := cs) (g := conR) rfl rfl v.1 rfl hv rfl) rfl rfl ?_
   generalize cs[v.1] = c at hsn
   cases hen : c.en
   · rw [if_neg fun h => by rw [hen] at h; cases h.1] at hsn
     (repeat'(first|refine at_dst 27 ?_|refine at_dstD 27 ?_|refine st ?_|(apply B<;>intro hb<;>try cases hb)))<;>try refine At.mk ?_
     refine opsK_of (E_boolEq rfl hen) rfl rfl ?_
     rw [← hsn]
     (refine go ?_;repeat' (apply B<;>intro hb<;>try cases hb))
     exact ⟨i + 1,fun i => i,hil,by omega,fun _ _ => rfl,injOn_id,⟨⟨_,rfl,.pure _ (cons_pureR cs)⟩,⟨_,rfl,.own 0 (by decide)⟩,⟨_,rfl,.pure _ (prs_pure _)⟩,⟨_,rfl,.pure _ (prs_pure _)⟩,⟨_,rfl,.pure _ trivial⟩,⟨_,by show some _ = some _; rw [hinc],.pure _ trivial⟩,trivial⟩,⟨⟨by decide,_,rfl,.same _ (prs_pure _)⟩,trivial⟩⟩
   · have hin := inR_spec old false v (by omega)
     (repeat'(first|refine at_dst 27 ?_|refine at_dstD 27 ?_|refine st ?_|(apply B<;>intro hb<;>try cases hb)))<;>try refine At.mk ?_
     refine opsK_of (E_boolEq rfl hen) rfl rfl ?_
     (repeat'(first|refine at_dst 31 ?_|refine at_dstD 31 ?_|refine st ?_|(apply B<;>intro hb<;>try cases hb)))<;>try refine At.mk ?_
     refine opsK_on rfl ?_
     refine opsK_eq hin rfl rfl rfl ⟨prs_pure _,prC_pure v,trivial⟩ rfl ?_
     by_cases ho : v∈old
     · rw [decide_eq_true ho]
       rw [if_neg fun h => h.2 ho] at hsn
       rw [← hsn]
       (refine go ?_;repeat' (apply B<;>intro hb<;>try cases hb))
       exact ⟨i + 1,fun i => i,hil,by omega,fun _ _ => rfl,injOn_id,⟨⟨_,rfl,.pure _ (cons_pureR cs)⟩,⟨_,rfl,.own 0 (by decide)⟩,⟨_,rfl,.pure _ (prs_pure _)⟩,⟨_,rfl,.pure _ (prs_pure _)⟩,⟨_,rfl,.pure _ trivial⟩,⟨_,by show some _ = some _; rw [hinc],.pure _ trivial⟩,trivial⟩,⟨⟨by decide,_,rfl,.same _ (prs_pure _)⟩,trivial⟩⟩
     · rw [decide_eq_false ho]
       rw [if_pos ⟨hen,ho⟩] at hsn
       (repeat'(first|refine at_dst 37 ?_|refine at_dstD 37 ?_|refine st ?_|(apply B<;>intro hb<;>try cases hb)))<;>try refine At.mk ?_
       refine opsK_new (E_append (k := 0) (m := [prC v]) (fl := true) (b := ⟨2,(newM cs old (aft.take i)).map prC⟩) rfl rfl rfl (fun r hr=>by rw [List.mem_singleton] at hr; subst hr; rfl) rfl (by
        show (((newM cs old (aft.take i)).map prC).length + 1) * 16≤_
        rw [prs_len];omega)) rfl rfl ?_
       simp only
       rw [put1,← hsn]
       (refine go ?_;repeat' (apply B<;>intro hb<;>try cases hb))
       exact ⟨i + 1,mv 0 2,hil,by omega,fun j hj => absurd hj (Nat.not_lt_zero _),injOn_of rfl,⟨⟨_,rfl,.pure _ (cons_pureR cs)⟩,⟨_,rfl,.own 0 (by decide)⟩,⟨_,rfl,.pure _ (prs_pure _)⟩,⟨_,rfl,.pure _ (prs_pure _)⟩,⟨_,rfl,.pure _ trivial⟩,⟨_,by show some _ = some _; rw [hinc],.pure _ trivial⟩,trivial⟩,⟨⟨by decide,_,rfl,.same _ (prs_pure _)⟩,trivial⟩⟩
 · have hil : i = aft.length := by have := of_decide_eq_false hb; omega
   subst hil
   rw [List.take_length]
   clear hb
   (repeat'(first|refine at_dst 39 ?_|refine at_dstD 39 ?_|refine st ?_|(apply B<;>intro hb<;>try cases hb)))<;>try refine At.mk ?_
   refine opsK_sub (subA_freeze (k := 7) rfl rfl (prs_pure _)) ?_
   (refine go ?_;repeat' (apply B<;>intro hb<;>try cases hb))
   exact ret_ok rfl (prs_pure _) rfl
end Go.Proofs.YtbmhdpflloepkaaGreatDoor

namespace Go.Proofs.YtbmhdpflloepkaaGreatDoor
open Go.RowKit
set_option linter.unusedVariables false
attribute [local irreducible] aw opsK dK

theorem idxI_take {α : Type} {p : α→Bool} : ∀ {xs : List α} {i : Nat},idxI p xs = (i : Int)→(xs.take i).any p = false
 | [],i,h=>by simp
 | x :: xs, i, h => by
   unfold idxI at h
   split at h
   · have : i = 0 := by omega
     subst this; rfl
   · rename_i hx
     split at h
     · omega
     · cases i with
       | zero => rfl
       | succ i =>
         have := idxI_take (p := p) (xs := xs) (i := i) (by omega)
         rw [List.take_succ_cons,List.any_cons,this]
         simpa using hx
set_option maxHeartbeats 2000000 in
theorem indexF_spec (l : List Pr) (f : Bool) (g : Nat) (caps : List PV) (hcp : pureL caps) (p : Pr→Bool) (hg : ∀ v∈l,Spec Tryz.prog g (.agg (prC v) :: caps) (· = .val (.bool (p v)))) (hlen : l.length≤1000000) : Spec Tryz.prog 113 [.vec (l.map prC) f,.fn g caps] (· = .val (.int .i64 (idxI p l))) := by
 have hnl := prs_len l
 have hpl : ∀ D,innLL D (l.map prC) := fun D => innLL_mono (fun _ h => h.elim) _ (prs_pure l)
 have hci : ∀ D,innL D caps := fun D => innL_mono (fun _ h => h.elim) _ hcp
 refine spec_intro ok113 (Nat.le_of_ble_eq_true rfl) fun C hC => ?_
 (refine go ?_;repeat' (apply B<;>intro hb<;>try cases hb))
 refine aw_loopH hC (fun i => i≤l.length∧(l.take i).any p = false) (fun i => l.length - i) 0 (fun i => [(0,.vec (l.map prC) f),(1,.fn g caps),(7,.val (.int .i64 l.length)),(8,.val (.int .i64 (i : Int)))]) (fun _=>[]) (Nat.zero_le _) 0 ⟨Nat.zero_le _,rfl⟩
  ⟨⟨rfl,hpl _⟩,⟨rfl,hci _⟩,⟨by rw [← hnl]; rfl,trivial⟩,⟨rfl,trivial⟩,trivial⟩ trivial ?_
 rintro i ⟨hi,hno⟩
 have hinc : IntKind.i64.wrap ((i : Int) + 1) = ((i + 1 : Nat) : Int) := IntWalk.i64_in _ ⟨by omega,by omega⟩
 (repeat'(first|refine at_dst 9 ?_|refine at_dstD 9 ?_|refine st ?_|(apply B<;>intro hb<;>try cases hb)))<;>try refine At.mk ?_
 refine opsK_bool rfl rfl rfl (fun hb=>?_) (fun hb=>?_)
 · have hil : i < l.length := by have := of_decide_eq_true hb; omega
   have hgv := hg _ (List.getElem_mem hil)
   have hat : p l[i] = true→idxI p l = (i : Int) := fun h => idxI_at hil hno h
   have hnx : p l[i] = false→(l.take (i + 1)).any p = false := fun h => any_take hil hno h
   clear hb
   (repeat'(first|refine at_dst 14 ?_|refine at_dstD 14 ?_|refine st ?_|(apply B<;>intro hb<;>try cases hb)))<;>try refine At.mk ?_
   refine opsK_of (E_iaddr (xs := l) (g := prC) rfl rfl i rfl hil rfl) rfl rfl ?_
   generalize l[i] = v at hgv hat hnx ⊢
   (repeat'(first|refine at_dst 16 ?_|refine at_dstD 16 ?_|refine st ?_|(apply B<;>intro hb<;>try cases hb)))<;>try refine At.mk ?_
   refine opsK_eq hgv rfl rfl rfl ⟨prC_pure v,hcp⟩ rfl ?_
   cases hpv : p v
   · (refine go ?_;repeat' (apply B<;>intro hb<;>try cases hb))
     exact ⟨i + 1,⟨hil,hnx hpv⟩,by omega,⟨⟨rfl,hpl _⟩,⟨rfl,hci _⟩,⟨rfl,trivial⟩,⟨by show some _ = some _; rw [hinc],trivial⟩,trivial⟩,trivial⟩
   · (refine go ?_;repeat' (apply B<;>intro hb<;>try cases hb))
     exact ret_ok rfl trivial (by rw [hat hpv])
 · have hil : i = l.length := by have := of_decide_eq_false hb; omega
   subst hil
   rw [List.take_length] at hno
   clear hb
   (refine go ?_;repeat' (apply B<;>intro hb<;>try cases hb))
   exact ret_ok rfl trivial (by rw [idxI_none hno]; rfl)
theorem E_clearV {z : List Value} {e : Env} {h : Heap} {n k lo m : Nat} {x : Operand} {b : Bx} (hx : ev e x = some (.view k lo m)) (hb : h k = some b) (hl : lo + m≤b.elems.length) (hz : b.esz = z.length) : dEval (.clear z x) e h n = some (.val (.tuple #[]),h.upd k ⟨b.esz,b.elems.take lo ++ (List.replicate m (zpv z) ++ b.elems.drop (lo + m))⟩) := by
 simp only [dEval,hx,hb]
 rw [if_pos ⟨hl,hz⟩]
theorem E_slcOT {esz n k a : Nat} {e : Env} {h : Heap} {x hi : Operand} {b : Bx} (hx : ev e x = some (.own k)) (hb : h k = some b) (hhi : intAt (ev e hi) = some (a : Int)) (ha : a≤b.elems.length) (hz : b.esz = esz) : dEval (.slc esz x none (some hi) none) e h n = some (.own n,(h.del k).upd n ⟨b.esz,b.elems.take a⟩) := by
 simp only [dEval,hx,hb,bndAt,hhi]
 rw [if_pos ⟨⟨by omega,by omega,by omega⟩,hz⟩]
 simp only [Int.toNat_natCast,Int.toNat_zero,List.drop_zero]
 rfl
structure DelI (p : Pr→Bool) (l : List Pr) (j i : Nat) (cur : List Pr) : Prop where
 len : cur.length = l.length
 ij : i≤j
 jl : j≤l.length
 front : cur.take i = (l.take j).filter fun v => !p v
 rest : cur.drop j = l.drop j
theorem DelI.get {p : Pr→Bool} {l : List Pr} {j i : Nat} {cur : List Pr} (h : DelI p l j i cur) (hj : j < l.length) (hc : j < cur.length) : cur[j] = l[j] := by
 have h1 : (cur.drop j)[0]? = (l.drop j)[0]? := by rw [h.rest]
 rw [List.getElem?_drop,List.getElem?_drop,Nat.add_zero,List.getElem?_eq_getElem hc,List.getElem?_eq_getElem hj] at h1
 exact Option.some.inj h1
theorem drop_succ {α : Type} {a b : List α} {j : Nat} (h : a.drop j = b.drop j) : a.drop (j + 1) = b.drop (j + 1) := by
 rw [← List.drop_drop,← List.drop_drop,h]
theorem DelI.skip {p : Pr→Bool} {l : List Pr} {j i : Nat} {cur : List Pr} (h : DelI p l j i cur) (hj : j < l.length) (hp : p l[j] = true) : DelI p l (j + 1) i cur := by
 refine ⟨h.len,by have := h.ij; omega,hj,?_,drop_succ h.rest⟩
 rw [take_snocG hj,List.filter_append,h.front,List.filter_cons,hp]
 simp
theorem DelI.keep {p : Pr→Bool} {l : List Pr} {j i : Nat} {cur : List Pr} (h : DelI p l j i cur) (hj : j < l.length) (hp : p l[j] = false) : DelI p l (j + 1) (i + 1) (cur.set i l[j]) := by
 have hij := h.ij
 have hic : i < cur.length := by rw [h.len]; omega
 refine ⟨by rw [List.length_set]; exact h.len,by omega,hj,?_,?_⟩
 · rw [take_snocG hj, List.filter_append, ← h.front, List.filter_cons, hp]
   rw [List.take_add_one,List.take_set_of_le (Nat.le_refl _),List.getElem?_set_self hic]
   rfl
 · rw [List.drop_set_of_lt (by omega)]
   exact drop_succ h.rest
theorem DelI.start {p : Pr→Bool} {l : List Pr} {i : Nat} (hi : i < l.length) (h1 : (l.take i).any p = false) (h2 : p l[i] = true) : DelI p l (i + 1) i l := by
 refine ⟨rfl,Nat.le_succ i,hi,?_,rfl⟩
 rw [take_snocG hi,List.filter_append,List.filter_cons,h2]
 have : (l.take i).filter (fun v => !p v) = l.take i := List.filter_eq_self.2 fun a ha => by
  have := List.any_eq_false.1 h1 a ha
  simpa using this
 rw [this]; simp
theorem DelI.all {p : Pr→Bool} {l : List Pr} {i : Nat} {cur : List Pr} (h : DelI p l l.length i cur) : cur.take i = l.filter fun v => !p v := by
 have := h.front
 rwa [List.take_length] at this
end Go.Proofs.YtbmhdpflloepkaaGreatDoor

namespace Go.Proofs.YtbmhdpflloepkaaGreatDoor
open Go.RowKit
set_option linter.unusedVariables false
attribute [local irreducible] aw opsK dK

set_option maxHeartbeats 2000000 in
theorem violations_spec (l : List Pr) (f1 f2 : Bool) (hlen : l.length≤1000000) : Spec Tryz.prog 35 [.vec (l.map prC) f1,.vec (l.map prC) f2] (· = .val (.bool true)) := by
 have hnl := prs_len l
 have hpl : ∀ D,innLL D (l.map prC) := fun D => innLL_mono (fun _ h => h.elim) _ (prs_pure l)
 refine spec_intro ok35 (Nat.le_of_ble_eq_true rfl) fun C hC => ?_
 (repeat'(first|refine at_dst 10 ?_|refine at_dstD 10 ?_|refine st ?_|(apply B<;>intro hb<;>try cases hb)))<;>try refine At.mk ?_
 refine opsK_of (E_boolEq (v := false) rfl (by simp)) rfl rfl ?_
 (refine go ?_;repeat' (apply B<;>intro hb<;>try cases hb))
 refine aw_loopH hC (fun i => i≤l.length) (fun i => l.length - i) 0 (fun i => [(0,.vec (l.map prC) f1),(1,.vec (l.map prC) f2),(12,.val (.int .i64 l.length)),(13,.val (.int .i64 (i : Int)))]) (fun _=>[]) (Nat.zero_le _) 0 (Nat.zero_le _)
  ⟨⟨rfl,hpl _⟩,⟨rfl,hpl _⟩,⟨by rw [← hnl]; rfl,trivial⟩,⟨rfl,trivial⟩,trivial⟩ trivial ?_
 intro i hi
 have hinc : IntKind.i64.wrap ((i : Int) + 1) = ((i + 1 : Nat) : Int) := IntWalk.i64_in _ ⟨by omega,by omega⟩
 (repeat'(first|refine at_dst 14 ?_|refine at_dstD 14 ?_|refine st ?_|(apply B<;>intro hb<;>try cases hb)))<;>try refine At.mk ?_
 refine opsK_bool rfl rfl rfl (fun hb=>?_) (fun hb=>?_)
 · have hil : i < l.length := by have := of_decide_eq_true hb; omega
   clear hb
   have ei : ∀ {e : Env} {h : Heap} {x j : Operand} {n : Nat} {f : Bool},ev e x = some (.vec (l.map prC) f)→ev e j = some (.val (.int .i64 (i : Int)))→dEval (.iaddr 2 x j) e h n = some (.cp (prC l[i]),h) := fun h1 h2 => E_iaddr (xs := l) (g := prC) h1 h2 i rfl hil rfl
   generalize l[i] = p at ei
   (repeat'(first|refine at_dst 18 ?_|refine at_dstD 18 ?_|refine st ?_|(apply B<;>intro hb<;>try cases hb)))<;>try refine At.mk ?_
   refine dK_of (ei rfl rfl) rfl rfl ?_
   (repeat'(first|refine at_dst 22 ?_|refine at_dstD 22 ?_|refine st ?_|(apply B<;>intro hb<;>try cases hb)))<;>try refine At.mk ?_
   refine dK_of (ei rfl rfl) rfl rfl ?_
   (repeat'(first|refine at_dst 24 ?_|refine at_dstD 24 ?_|refine st ?_|(apply B<;>intro hb<;>try cases hb)))<;>try refine At.mk ?_
   refine dK_of (E_boolEq (v := false) rfl (by simp)) rfl rfl ?_
   (refine go ?_;repeat' (apply B<;>intro hb<;>try cases hb))
   exact ⟨i + 1,hil,by omega,⟨⟨rfl,hpl _⟩,⟨rfl,hpl _⟩,⟨rfl,trivial⟩,⟨by show some _ = some _; rw [hinc],trivial⟩,trivial⟩,trivial⟩
 · clear hb
   (refine go ?_;repeat' (apply B<;>intro hb<;>try cases hb))
   exact ret_ok rfl trivial rfl
end Go.Proofs.YtbmhdpflloepkaaGreatDoor

namespace Go.Proofs.YtbmhdpflloepkaaGreatDoor
open Go.RowKit
set_option linter.unusedVariables false
attribute [local irreducible] aw opsK dK

set_option maxRecDepth 100000 in
set_option maxHeartbeats 8000000 in
theorem delF_spec (l : List Pr) (g : Nat) (caps : List PV) (hcp : pureL caps) (p : Pr→Bool) (hg : ∀ v∈l,Spec Tryz.prog g (.agg (prC v) :: caps) (· = .val (.bool (p v)))) (hlen : l.length≤1000000) :
 MSpec Tryz.prog 76 ⟨2,l.map prC⟩ [.fn g caps] .own fun b' => b' = ⟨2,(l.filter fun v => !p v).map prC⟩ := by
 have hci : ∀ D,innL D caps := fun D => innL_mono (fun _ h => h.elim) _ hcp
 have hpl : ∀ D (l : List Pr),innLL D (l.map prC) := fun D l => innLL_mono (fun _ h => h.elim) _ (prs_pure l)
 have hix := indexF_spec l false g caps hcp p hg hlen
 refine mspec_intro ok76 (Nat.le_of_ble_eq_true rfl) fun C hC => ?_
 (repeat'(first|refine at_dst 10 ?_|refine at_dstD 10 ?_|refine st ?_|(apply B<;>intro hb<;>try cases hb)))<;>try refine At.mk ?_
 refine opsK_ro (i := 0) (k := 0) (b := ⟨2,l.map prC⟩) hix rfl rfl rfl rfl rfl (prs_pure l) ⟨prs_pure l,hcp,trivial⟩ ?_
 cases ha : l.any p
 · have hm1 : idxI p l = -1 := idxI_none ha
   have hfl : (l.filter fun v => !p v) = l := List.filter_eq_self.2 fun a ha2 => by
    have := List.any_eq_false.1 ha a ha2
    simpa using this
   rw [hm1,hfl]
   (repeat'(first|refine at_dst 12 ?_|refine at_dstD 12 ?_|refine st ?_|(apply B<;>intro hb<;>try cases hb)))<;>try refine At.mk ?_
   refine opsK_of (E_boolEq (v := true) rfl (by decide)) rfl rfl ?_
   (refine go ?_;repeat' (apply B<;>intro hb<;>try cases hb))
   exact ⟨_,_,rfl,.inl rfl,0,_,rfl,rfl,prs_pure l,rfl⟩
 · obtain ⟨x, hx, hpx⟩ := List.any_eq_true.1 ha
   obtain ⟨i0,hi0,hidx,hat⟩ := idx_first (p := p) (xs := l) ⟨x,hx,hpx⟩
   have hbef := idxI_take hidx
   rw [hidx]
   have dm1 : (((i0 : Nat) : Int) == (-1 : Int)) = false := by rw [beq_eq_false_iff_ne]; omega
   have hi1 : IntKind.i64.wrap ((i0 : Int) + 1) = ((i0 + 1 : Nat) : Int) := IntWalk.i64_in _ ⟨by omega,by omega⟩
   (repeat'(first|refine at_dst 12 ?_|refine at_dstD 12 ?_|refine st ?_|(apply B<;>intro hb<;>try cases hb)))<;>try refine At.mk ?_
   refine opsK_of (E_boolEq rfl dm1) rfl rfl ?_
   (repeat'(first|refine at_dst 15 ?_|refine at_dstD 15 ?_|refine st ?_|(apply B<;>intro hb<;>try cases hb)))<;>try refine At.mk ?_
   refine opsK_int rfl rfl rfl hi1 ?_
   (refine go ?_;repeat' (apply B<;>intro hb<;>try cases hb))
   refine aw_loopH hC (fun (z : Nat × Nat × List Pr) => DelI p l z.1 z.2.1 z.2.2) (fun z => l.length - z.1) 1 (fun z => [(0,.own 0),(1,.fn g caps),(5,.val (.int .i64 (z.2.1 : Int))),(6,.val (.int .i64 (z.1 : Int)))]) (fun z => [(0,⟨2,z.2.2.map prC⟩)]) (Nat.le_refl _) (i0 + 1,i0,l) (DelI.start hi0 hbef hat)
    ⟨⟨rfl,show (0 : Nat) < 1 by decide⟩,⟨rfl,hci _⟩,⟨rfl,trivial⟩,⟨rfl,trivial⟩,trivial⟩ ⟨⟨by decide,rfl,hpl _ _⟩,trivial⟩ ?_
   rintro ⟨j,i,cur⟩ hD
   simp only at hD
   have hjl := hD.jl
   have hij := hD.ij
   have hcl : (cur.map prC).length = l.length := by rw [prs_len]; exact hD.len
   have hjnc : IntKind.i64.wrap ((j : Int) + 1) = ((j + 1 : Nat) : Int) := IntWalk.i64_in _ ⟨by omega,by omega⟩
   have hinc : IntKind.i64.wrap ((i : Int) + 1) = ((i + 1 : Nat) : Int) := IntWalk.i64_in _ ⟨by omega,by omega⟩
   by_cases hj : j < l.length
   · have d1 : decide ((j : Int) < (((⟨2, cur.map prC⟩ : Bx).elems.length : Nat) : Int)) = true := decide_eq_true (by show (j : Int) < (((cur.map prC).length : Nat) : Int); rw [hcl]; omega)
     have hjc : j < (cur.map prC).length := by rw [hcl]; exact hj
     have hic : i < (cur.map prC).length := by rw [hcl]; omega
     have hcj : j < cur.length := by rw [hD.len]; exact hj
     have hgj : (cur.map prC).getD j [] = prC l[j] := by
      rw [← hD.get hj hcj]; simp [List.getD_eq_getElem?_getD,hcj]
     have hgv := hg _ (List.getElem_mem hj)
     have hk := fun h => hD.keep hj h
     have hs := fun h => hD.skip hj h
     have hset : ∀ v : Pr,(cur.map prC).set i (setAt ((cur.map prC).getD i []) 0 (prC v)) = (cur.set i v).map prC := fun v => by
      have h2 : i < cur.length := by rw [hD.len]; omega
      rw [List.map_set]
      have : ((cur.map prC).getD i []) = prC cur[i] := by simp [List.getD_eq_getElem?_getD,h2]
      rw [this]; rfl
     generalize l[j] = v at hgj hgv hk hs
     (repeat'(first|refine at_dst 19 ?_|refine at_dstD 19 ?_|refine st ?_|(apply B<;>intro hb<;>try cases hb)))<;>try refine At.mk ?_
     refine opsK_of (E_boolEq rfl d1) rfl rfl ?_
     (repeat'(first|refine at_dst 24 ?_|refine at_dstD 24 ?_|refine st ?_|(apply B<;>intro hb<;>try cases hb)))<;>try refine At.mk ?_
     refine opsK_of (E_iaddrO (b := ⟨2,cur.map prC⟩) rfl rfl rfl j rfl hjc rfl) rfl rfl ?_
     refine opsK_of (E_load (b := ⟨2,cur.map prC⟩) (p := .agg (prC v)) (i := j) rfl rfl hjc (by show cutAt true 2 0 ((cur.map prC).getD j []) = _; rw [hgj]; rfl)) rfl rfl ?_
     (repeat'(first|refine at_dst 28 ?_|refine at_dstD 28 ?_|refine st ?_|(apply B<;>intro hb<;>try cases hb)))<;>try refine At.mk ?_
     refine opsK_eq hgv rfl rfl rfl ⟨prC_pure v,hcp⟩ rfl ?_
     cases hpv : p v
     · (repeat'(first|refine at_dst 33 ?_|refine at_dstD 33 ?_|refine st ?_|(apply B<;>intro hb<;>try cases hb)))<;>try refine At.mk ?_
       refine opsK_of (E_iaddrO (b := ⟨2,cur.map prC⟩) rfl rfl rfl i rfl hic rfl) rfl rfl ?_
       refine opsK_of (E_store (b := ⟨2,cur.map prC⟩) (i := i) rfl rfl rfl rfl rfl hic (Nat.le_of_ble_eq_true rfl)) rfl rfl ?_
       (refine go ?_;repeat' (apply B<;>intro hb<;>try cases hb))
       exact ⟨(j + 1,i + 1,cur.set i v),hk hpv,by simp only; omega,⟨⟨rfl,show (0 : Nat) < 1 by decide⟩,⟨rfl,hci _⟩,⟨by show some _ = some _; rw [hinc],trivial⟩,⟨by show some _ = some _; rw [hjnc],trivial⟩,trivial⟩,⟨⟨by decide,congrArg (fun t => some (Bx.mk 2 t)) (hset v),hpl _ _⟩,trivial⟩⟩
     · (refine go ?_;repeat' (apply B<;>intro hb<;>try cases hb))
       exact ⟨(j + 1,i,cur),hs hpv,by simp only; omega,⟨⟨rfl,show (0 : Nat) < 1 by decide⟩,⟨rfl,hci _⟩,⟨rfl,trivial⟩,⟨by show some _ = some _; rw [hjnc],trivial⟩,trivial⟩,⟨⟨by decide,rfl,hpl _ _⟩,trivial⟩⟩
   · have hje : j = l.length := by omega
     subst hje
     have d1 : decide (((l.length : Nat) : Int) < (((⟨2,cur.map prC⟩ : Bx).elems.length : Nat) : Int)) = false := decide_eq_false (by show ¬ (((l.length : Nat) : Int) < (((cur.map prC).length : Nat) : Int)); rw [hcl];omega)
     have hfin := hD.all
     have hic : i≤(cur.map prC).length := by rw [hcl]; omega
     (repeat'(first|refine at_dst 19 ?_|refine at_dstD 19 ?_|refine st ?_|(apply B<;>intro hb<;>try cases hb)))<;>try refine At.mk ?_
     refine opsK_of (E_boolEq rfl d1) rfl rfl ?_
     (repeat'(first|refine at_dst 38 ?_|refine at_dstD 38 ?_|refine st ?_|(apply B<;>intro hb<;>try cases hb)))<;>try refine At.mk ?_
     refine opsK_ofAlt (E_slcV (a := i) (b := ⟨2,cur.map prC⟩) rfl rfl rfl hic rfl) rfl rfl ?_
     refine opsK_of (E_clearV (b := ⟨2,cur.map prC⟩) rfl rfl (by show i + ((cur.map prC).length - i)≤(cur.map prC).length;omega) rfl) rfl rfl ?_
     (repeat'(first|refine at_dst 41 ?_|refine at_dstD 41 ?_|refine st ?_|(apply B<;>intro hb<;>try cases hb)))<;>try refine At.mk ?_
     refine opsK_new (E_slcOT (a := i) (k := 0) rfl rfl rfl (by
      show i≤((cur.map prC).take i ++ (List.replicate ((cur.map prC).length - i) _ ++ (cur.map prC).drop (i + ((cur.map prC).length - i)))).length
      rw [List.length_append,List.length_take];omega) rfl) rfl rfl ?_
     have hel : ∀ t : List (List PV),((cur.map prC).take i ++ t).take i = (l.filter fun v => !p v).map prC := fun t => by
      rw [List.take_append_of_le_length (by rw [List.length_take];omega),List.take_take,Nat.min_self,← List.map_take,hfin]
     (refine go ?_;repeat' (apply B<;>intro hb<;>try cases hb))
     exact ⟨_,_,rfl,.inl rfl,1,⟨2,(l.filter fun v => !p v).map prC⟩,rfl,congrArg (fun t => some (Bx.mk 2 t)) (hel _),prs_pure _,rfl⟩
end Go.Proofs.YtbmhdpflloepkaaGreatDoor

namespace Go.Proofs.YtbmhdpflloepkaaGreatDoor
open Go.RowKit
set_option linter.unusedVariables false
attribute [local irreducible] aw opsK dK

set_option maxHeartbeats 2000000 in
theorem indexV_spec (l : List Pr) (f : Bool) (p : Pr) (hlen : l.length≤1000000) : Spec Tryz.prog 114 [.vec (l.map prC) f,.agg (prC p)] (· = .val (.int .i64 (idxI (fun q => decide (p = q)) l))) := by
 have hnl := prs_len l
 have hpl : ∀ D,innLL D (l.map prC) := fun D => innLL_mono (fun _ h => h.elim) _ (prs_pure l)
 have hpc : ∀ D,innL D (prC p) := fun D => innL_mono (fun _ h => h.elim) _ (prC_pure p)
 refine spec_intro ok114 (Nat.le_of_ble_eq_true rfl) fun C hC => ?_
 refine aw_seq ?_
 refine aw_region ?_
 refine opsK_ofAlt rfl rfl rfl ?_
 (refine go ?_;repeat' (apply B<;>intro hb<;>try cases hb))
 refine aw_loopH hC (fun i => i≤l.length∧(l.take i).any (fun q => decide (p = q)) = false) (fun i => l.length - i) 0 (fun i => [(0,.vec (l.map prC) f),(3,.cp (prC p)),(7,.val (.int .i64 l.length)),(8,.val (.int .i64 (i : Int)))]) (fun _=>[]) (Nat.zero_le _) 0 ⟨Nat.zero_le _,rfl⟩
  ⟨⟨rfl,hpl _⟩,⟨rfl,hpc _⟩,⟨by rw [← hnl]; rfl,trivial⟩,⟨rfl,trivial⟩,trivial⟩ trivial ?_
 rintro i ⟨hi,hno⟩
 have hinc : IntKind.i64.wrap ((i : Int) + 1) = ((i + 1 : Nat) : Int) := IntWalk.i64_in _ ⟨by omega,by omega⟩
 (repeat'(first|refine at_dst 9 ?_|refine at_dstD 9 ?_|refine st ?_|(apply B<;>intro hb<;>try cases hb)))<;>try refine At.mk ?_
 refine opsK_bool rfl rfl rfl (fun hb=>?_) (fun hb=>?_)
 · have hil : i < l.length := by have := of_decide_eq_true hb; omega
   have hat : decide (p = l[i]) = true→idxI (fun q => decide (p = q)) l = (i : Int) := fun h => idxI_at hil hno h
   have hnx : decide (p = l[i]) = false→(l.take (i + 1)).any (fun q => decide (p = q)) = false := fun h => any_take hil hno h
   clear hb
   (repeat'(first|refine at_dst 14 ?_|refine at_dstD 14 ?_|refine st ?_|(apply B<;>intro hb<;>try cases hb)))<;>try refine At.mk ?_
   refine dK_of (E_iaddr (xs := l) (g := prC) rfl rfl i rfl hil rfl) rfl rfl ?_
   generalize l[i] = q at hat hnx ⊢
   (repeat'(first|refine at_dst 16 ?_|refine at_dstD 16 ?_|refine st ?_|(apply B<;>intro hb<;>try cases hb)))<;>try refine At.mk ?_
   cases h : decide (p = q)
   · refine dK_of (E_boolEq (v := false) rfl (eqPr.trans h)) rfl rfl ?_
     (refine go ?_;repeat' (apply B<;>intro hb<;>try cases hb))
     exact ⟨i + 1,⟨hil,hnx h⟩,by omega,⟨⟨rfl,hpl _⟩,⟨rfl,hpc _⟩,⟨rfl,trivial⟩,⟨by show some _ = some _; rw [hinc],trivial⟩,trivial⟩,trivial⟩
   · refine dK_of (E_boolEq (v := true) rfl (eqPr.trans h)) rfl rfl ?_
     (refine go ?_;repeat' (apply B<;>intro hb<;>try cases hb))
     exact ret_ok rfl trivial (by rw [hat h])
 · have hil : i = l.length := by have := of_decide_eq_false hb; omega
   subst hil
   rw [List.take_length] at hno
   clear hb
   (refine go ?_;repeat' (apply B<;>intro hb<;>try cases hb))
   exact ret_ok rfl trivial (by rw [idxI_none hno]; rfl)
theorem idxI_mem (p : Pr) (l : List Pr) : decide (idxI (fun q => decide (p = q)) l ≥ 0) = decide (p∈l) := by
 by_cases h : p∈l
 · obtain ⟨i, hi, h1, _⟩ := idx_first (p := fun q => decide (p = q)) (xs := l) ⟨p, h, by simp⟩
   rw [h1,decide_eq_true h,decide_eq_true (by omega)]
 · have hn : l.any (fun q => decide (p = q)) = false := List.any_eq_false.2 fun x hx => by
    simp only [decide_eq_true_eq]
    intro e; subst e; exact h hx
   rw [idxI_none hn,decide_eq_false h]; rfl
theorem containsV_spec (l : List Pr) (f : Bool) (p : Pr) (hlen : l.length≤1000000) : Spec Tryz.prog 78 [.vec (l.map prC) f,.agg (prC p)] (· = .val (.bool (decide (p∈l)))) := by
 refine spec_intro ok78 (Nat.le_of_ble_eq_true rfl) fun C hC => ?_
 refine aw_seq ?_
 refine aw_region ?_
 refine opsK_ofAlt rfl rfl rfl ?_
 (repeat'(first|refine at_dst 7 ?_|refine at_dstD 7 ?_|refine st ?_|(apply B<;>intro hb<;>try cases hb)))<;>try refine At.mk ?_
 refine opsK_eq (indexV_spec l f p hlen) rfl rfl rfl ⟨prs_pure l,prC_pure p,trivial⟩ rfl ?_
 (repeat'(first|refine at_dst 8 ?_|refine at_dstD 8 ?_|refine st ?_|(apply B<;>intro hb<;>try cases hb)))<;>try refine At.mk ?_
 refine opsK_boolEq (v := decide (p∈l)) rfl rfl rfl (idxI_mem p l) ?_
 generalize decide (p∈l) = b
 (refine go ?_;repeat' (apply B<;>intro hb<;>try cases hb))
 all_goals exact ret_ok rfl trivial rfl
def delM (cs : List Con) (old : List Pr) (v : Pr) : Bool := !((match cs[v.1]? with | some c => c.en | none => false) && !decide (v∈old))
theorem delM_filter (cs : List Con) (old l : List Pr) : (l.filter fun v => !delM cs old v) = newM cs old l := by
 unfold newM delM
 simp only [Bool.not_not] <;> rfl
theorem delM_spec (cs : List Con) (f1 : Bool) (old : List Pr) (f2 : Bool) (hlen : old.length≤1000000) (v : Pr) (hv : v.1 < cs.length) : Spec Tryz.prog 77 [.agg (prC v),.cp [.vec (cs.map conP) f1],.cp [.vec (old.map prC) f2]] (· = .val (.bool (delM cs old v))) := by
 have hget : cs[v.1]? = some cs[v.1] := List.getElem?_eq_getElem hv
 have hdm : delM cs old v = !(cs[v.1].en && !decide (v∈old)) := by unfold delM; rw [hget]
 rw [hdm]
 refine spec_intro ok77 (Nat.le_of_ble_eq_true rfl) fun C hC => ?_
 refine aw_seq ?_
 refine aw_region ?_
 refine opsK_ofAlt rfl rfl rfl ?_
 (repeat'(first|refine at_dst 8 ?_|refine at_dstD 8 ?_|refine st ?_|(apply B<;>intro hb<;>try cases hb)))<;>try refine At.mk ?_
 refine opsK_of (E_iaddr (xs := cs) (g := conP) rfl rfl v.1 rfl hv rfl) rfl rfl ?_
 generalize cs[v.1] = c
 cases hen : c.en
 · (repeat'(first|refine at_dst 10 ?_|refine at_dstD 10 ?_|refine st ?_|(apply B<;>intro hb<;>try cases hb)))<;>try refine At.mk ?_
   refine opsK_of (E_boolEq rfl hen) rfl rfl ?_
   (refine go ?_;repeat' (apply B<;>intro hb<;>try cases hb))
   exact ret_ok rfl trivial rfl
 · (repeat'(first|refine at_dst 10 ?_|refine at_dstD 10 ?_|refine st ?_|(apply B<;>intro hb<;>try cases hb)))<;>try refine At.mk ?_
   refine opsK_of (E_boolEq rfl hen) rfl rfl ?_
   (repeat'(first|refine at_dst 15 ?_|refine at_dstD 15 ?_|refine st ?_|(apply B<;>intro hb<;>try cases hb)))<;>try refine At.mk ?_
   refine opsK_on rfl ?_
   refine opsK_eq (containsV_spec old f2 v hlen) rfl rfl rfl ⟨prs_pure old,prC_pure v,trivial⟩ rfl ?_
   cases hd : decide (v∈old)
   · (refine go ?_;repeat' (apply B<;>intro hb<;>try cases hb))
     exact ret_ok rfl trivial rfl
   · (refine go ?_;repeat' (apply B<;>intro hb<;>try cases hb))
     exact ret_ok rfl trivial rfl
set_option maxRecDepth 100000 in
set_option maxHeartbeats 4000000 in
theorem newP_spec {l : List Pr} {m : List En} {n d : Nat} (hT : Told l m n d) (S : List Nat) (fb : Bool) {l2 : List Pr} {m2 : List En} {n2 d2 : Nat} (hT2 : Told l2 m2 n2 d2) (S2 : List Nat) (fb2 : Bool)
 (vf : Con→Bool) (cs : List Con) (fl : Bool) (hok : ∀ c∈cs,ConOk c (vf c)) (hlen : cs.length≤100) :
 Spec Tryz.prog 38 [.vec (cs.map conP) fl,.agg (factP (hierP l S) (bookP m fb) n d),.agg (factP (hierP l2 S2) (bookP m2 fb2) n2 d2)] (· = .vec ((newM cs (vaTo vf (fun u => memb l m n d ((u : Nat) : Int)) n (cntAll l m n d) cs cs.length) (vaTo vf (fun u => memb l2 m2 n2 d2 ((u : Nat) : Int)) n2 (cntAll l2 m2 n2 d2) cs cs.length)).map prC) false) := by
 have hn1 := hT.n
 have hn2 := hT2.n
 have h1 := violatedP_spec (hierP l S) (bookP m fb) (hierP_pure l S) (bookP_pure m fb) n d (by omega) (fun u => memb l m n d ((u : Nat) : Int)) (cntAll l m n d) (fun u => memberP_spec hT S fb _) (countsF_spec hT S fb) vf cs fl hok hlen
 have h2 := violatedP_own (hierP l2 S2) (bookP m2 fb2) (hierP_pure l2 S2) (bookP_pure m2 fb2) n2 d2 (by omega) (fun u => memb l2 m2 n2 d2 ((u : Nat) : Int)) (cntAll l2 m2 n2 d2) (fun u => memberP_spec hT2 S2 fb2 _) (countsF_spec hT2 S2 fb2) vf cs fl hok hlen
 have hlt := vaTo_lt vf (fun u => memb l2 m2 n2 d2 ((u : Nat) : Int)) n2 (cntAll l2 m2 n2 d2) cs cs.length (Nat.le_refl _)
 have hol := vaTo_len vf (fun u => memb l m n d ((u : Nat) : Int)) n (cntAll l m n d) cs cs.length
 have hal := vaTo_len vf (fun u => memb l2 m2 n2 d2 ((u : Nat) : Int)) n2 (cntAll l2 m2 n2 d2) cs cs.length
 have hol2 := Nat.le_trans hol (Nat.mul_le_mul hlen (show n + 1≤6 by omega))
 have hal2 := Nat.le_trans hal (Nat.mul_le_mul hlen (show n2 + 1≤6 by omega))
 generalize vaTo vf (fun u => memb l m n d ((u : Nat) : Int)) n (cntAll l m n d) cs cs.length = old at h1 hol2 ⊢
 generalize vaTo vf (fun u => memb l2 m2 n2 d2 ((u : Nat) : Int)) n2 (cntAll l2 m2 n2 d2) cs cs.length = aft at h2 hlt hal2 ⊢
 clear hol hal
 have hf1 : pureL (factP (hierP l S) (bookP m fb) n d) := factP_pure (hierP_pure l S) (bookP_pure m fb) n d
 have hf2 : pureL (factP (hierP l2 S2) (bookP m2 fb2) n2 d2) := factP_pure (hierP_pure l2 S2) (bookP_pure m2 fb2) n2 d2
 have hcaps : pureL [.cp [.vec (cs.map conP) fl],.cp [.vec (old.map prC) false]] := ⟨⟨cons_pureP cs,trivial⟩,⟨prs_pure old,trivial⟩,trivial⟩
 have hdel := delF_spec aft 77 [.cp [.vec (cs.map conP) fl],.cp [.vec (old.map prC) false]] hcaps (delM cs old) (fun v hv => delM_spec cs fl old false (by omega) v (hlt v hv)) (by omega)
 rw [delM_filter] at hdel
 refine spec_intro ok38 (Nat.le_of_ble_eq_true rfl) fun C hC => ?_
 refine aw_seq ?_
 refine aw_region ?_
 refine opsK_ofAlt rfl rfl rfl ?_
 refine opsK_ofAlt rfl rfl rfl ?_
 refine opsK_ofAlt rfl rfl rfl ?_
 (repeat'(first|refine at_dst 10 ?_|refine at_dstD 10 ?_|refine st ?_|(apply B<;>intro hb<;>try cases hb)))<;>try refine At.mk ?_
 refine opsK_eq h1 rfl rfl rfl ⟨cons_pureP cs,hf1,trivial⟩ rfl ?_
 (repeat'(first|refine at_dst 11 ?_|refine at_dstD 11 ?_|refine st ?_|(apply B<;>intro hb<;>try cases hb)))<;>try refine At.mk ?_
 refine opsK_sub (subA_freezeBox (k := 7) (l := [.vec (old.map prC) false]) rfl rfl ⟨prs_pure old,trivial⟩) ?_
 (repeat'(first|refine at_dst 13 ?_|refine at_dstD 13 ?_|refine st ?_|(apply B<;>intro hb<;>try cases hb)))<;>try refine At.mk ?_
 refine opsK_own h2 mk_own (by exact prs_pure aft) rfl rfl ⟨cons_pureP cs,hf2,trivial⟩ ?_
 (repeat'(first|refine at_dst 15 ?_|refine at_dstD 15 ?_|refine st ?_|(apply B<;>intro hb<;>try cases hb)))<;>try refine At.mk ?_
 refine opsK_mv (k := 1) (b := ⟨2,aft.map prC⟩) hdel mk_own rfl rfl rfl rfl (prs_pure aft) ⟨hcaps,trivial⟩ ?_
 rintro b' hb' rfl
 refine opsK_sub (subA_freeze (k := 15) rfl rfl (prs_pure _)) ?_
 (refine go ?_;repeat' (apply B<;>intro hb<;>try cases hb))
 exact ret_ok rfl (prs_pure _) rfl
theorem newM_self (cs : List Con) (l : List Pr) : newM cs l l = [] := by
 unfold newM
 rw [List.filter_eq_nil_iff]
 intro a ha
 rw [decide_eq_true ha]
 simp
set_option maxRecDepth 100000 in
set_option maxHeartbeats 8000000 in
theorem meaningNew_law (z y : RawF) (items : List ItemX) (fi : Bool) (hz : RawFok z) (hy : RawFok y) (hi : ∀ x∈items,ItemOk x) : Spec Tryz.prog 8 [.agg (rawF z),.agg (rawF y),.vec (items.map itC) fi] (· = .val (.bool true)) := by
 refine spec_intro ok8 (Nat.le_of_ble_eq_true rfl) fun C hC => ?_
 refine aw_seq ?_
 refine aw_region ?_
 refine opsK_ofAlt rfl rfl rfl ?_
 refine opsK_ofAlt rfl rfl rfl ?_
 (repeat'(first|refine at_dst 15 ?_|refine at_dstD 15 ?_|refine st ?_|(apply B<;>intro hb<;>try cases hb)))<;>try refine At.mk ?_
 refine opsK_eq awake_spec rfl rfl rfl trivial rfl ?_
 (repeat'(first|refine at_dst 19 ?_|refine at_dstD 19 ?_|refine st ?_|(apply B<;>intro hb<;>try cases hb)))<;>try refine At.mk ?_
 refine opsK_spec rfl rfl (makeF_spec z hz) ⟨rawF_pure z,trivial⟩ rfl ?_
 rintro r ⟨l,fl,m,fm,n,d,S,fb,hT,rfl⟩
 have hn := hT.n
 have hfp : pureL (factP (hierP l S) (bookP m fb) n d) := factP_pure (hierP_pure l S) (bookP_pure m fb) n d
 have hfr := factR_pure l fl m fm n d
 (repeat'(first|refine at_dst 9 ?_|refine at_dstD 9 ?_|refine st ?_|(apply B<;>intro hb<;>try cases hb)))<;>try refine At.mk ?_
 refine opsK_sub (subA_freezeBox (k := 7) rfl rfl hfp) ?_
 refine opsK_sub (subA_freezeBox (k := 8) rfl rfl hfr) ?_
 (repeat'(first|refine at_dst 25 ?_|refine at_dstD 25 ?_|refine st ?_|(apply B<;>intro hb<;>try cases hb)))<;>try refine At.mk ?_
 refine opsK_spec rfl rfl (makeF_spec y hy) ⟨rawF_pure y,trivial⟩ rfl ?_
 rintro r ⟨l2,fl2,m2,fm2,n2,d2,S2,fb2,hT2,rfl⟩
 have hn2 := hT2.n
 have hfp2 : pureL (factP (hierP l2 S2) (bookP m2 fb2) n2 d2) := factP_pure (hierP_pure l2 S2) (bookP_pure m2 fb2) n2 d2
 have hfr2 := factR_pure l2 fl2 m2 fm2 n2 d2
 (repeat'(first|refine at_dst 12 ?_|refine at_dstD 12 ?_|refine st ?_|(apply B<;>intro hb<;>try cases hb)))<;>try refine At.mk ?_
 refine opsK_sub (subA_freezeBox (k := 10) rfl rfl hfp2) ?_
 refine opsK_sub (subA_freezeBox (k := 11) rfl rfl hfr2) ?_
 (repeat'(first|refine at_dst 36 ?_|refine at_dstD 36 ?_|refine st ?_|(apply B<;>intro hb<;>try cases hb)))<;>try refine At.mk ?_
 refine opsK_spec rfl rfl (consR_spec items fi hi) ⟨items_pure items,trivial⟩ rfl ?_
 rintro r ⟨cs,hcs,rfl⟩
 have hl5 : cs.length≤5 := by rw [hcs.len]; omega
 have hok : ∀ c∈cs,ConOk c true := hcs.ok
 have hlaw := hcs.law
 have hP := newP_spec hT S fb hT2 S2 fb2 (fun _ => true) cs false hok (by omega)
 have hS := newP_spec hT S fb hT S fb (fun _ => true) cs false hok (by omega)
 rw [newM_self] at hS
 have hR := newR_spec hT hT2 fl fm fl2 fm2 (fun _ => true) cs false hok (by omega)
 have hal := vaTo_len (fun _ => true) (fun u => memb l2 m2 n2 d2 ((u : Nat) : Int)) n2 (cntAll l2 m2 n2 d2) cs cs.length
 have hal2 := Nat.le_trans hal (Nat.mul_le_mul hl5 (show n2 + 1≤6 by omega))
 have hnl : (newM cs (vaTo (fun _ => true) (fun u => memb l m n d ((u : Nat) : Int)) n (cntAll l m n d) cs cs.length) (vaTo (fun _ => true) (fun u => memb l2 m2 n2 d2 ((u : Nat) : Int)) n2 (cntAll l2 m2 n2 d2) cs cs.length)).length≤30 := Nat.le_trans (List.length_filter_le _ _) hal2
 generalize newM cs (vaTo (fun _ => true) (fun u => memb l m n d ((u : Nat) : Int)) n (cntAll l m n d) cs cs.length) (vaTo (fun _ => true) (fun u => memb l2 m2 n2 d2 ((u : Nat) : Int)) n2 (cntAll l2 m2 n2 d2) cs cs.length) = w at hP hR hnl
 have hL := consL_spec cs false hlaw (by omega)
 (repeat'(first|refine at_dst 38 ?_|refine at_dstD 38 ?_|refine st ?_|(apply B<;>intro hb<;>try cases hb)))<;>try refine At.mk ?_
 refine dK_eq hL rfl rfl rfl ⟨cons_pureR cs,trivial⟩ ?_
 (repeat'(first|refine at_dst 41 ?_|refine at_dstD 41 ?_|refine st ?_|(apply B<;>intro hb<;>try cases hb)))<;>try refine At.mk ?_
 refine dK_eq hP rfl rfl rfl ⟨cons_pureP cs,hfp,hfp2,trivial⟩ ?_
 (repeat'(first|refine at_dst 46 ?_|refine at_dstD 46 ?_|refine st ?_|(apply B<;>intro hb<;>try cases hb)))<;>try refine At.mk ?_
 refine dK_eq hR rfl rfl rfl ⟨cons_pureR cs,hfr,hfr2,trivial⟩ ?_
 refine dK_eq (violations_spec w false false (by omega)) rfl rfl rfl ⟨prs_pure w,prs_pure w,trivial⟩ ?_
 (repeat'(first|refine at_dst 50 ?_|refine at_dstD 50 ?_|refine st ?_|(apply B<;>intro hb<;>try cases hb)))<;>try refine At.mk ?_
 refine dK_on rfl ?_
 refine dK_eq hL rfl rfl rfl ⟨cons_pureR cs,trivial⟩ ?_
 (repeat'(first|refine at_dst 53 ?_|refine at_dstD 53 ?_|refine st ?_|(apply B<;>intro hb<;>try cases hb)))<;>try refine At.mk ?_
 refine dK_on rfl ?_
 refine dK_eq hS rfl rfl rfl ⟨cons_pureP cs,hfp,hfp,trivial⟩ ?_
 (refine go ?_;repeat' (apply B<;>intro hb<;>try cases hb))
 exact ret_ok rfl trivial rfl
end Go.Proofs.YtbmhdpflloepkaaGreatDoor

namespace Go.Proofs.YtbmhdpflloepkaaGreatDoor
open Go.ChangeShapes Go.WideShapes Go.ChangeAt Go.RowKit
set_option linter.unusedVariables false

theorem rows_enc {α : Type} {enc : α→List PV} {Q : α→Prop} : ∀ {ll : List (List PV)},(∀ l∈ll,∃ x,Q x∧l = enc x)→∃ xs : List α,(∀ x∈xs,Q x)∧ll = xs.map enc
 | [],_ => ⟨[],fun _ h => (by cases h),rfl⟩
 | l :: ll, h => by
   obtain ⟨x,h1,rfl⟩ := h l (List.mem_cons_self ..)
   obtain ⟨xs,h2,rfl⟩ := rows_enc fun l hl => h l (List.mem_cons_of_mem _ hl)
   refine ⟨x :: xs,fun y hy => ?_,rfl⟩
   rcases List.mem_cons.1 hy with rfl | hy
   · exact h1
   · exact h2 y hy
theorem shapeVs_three {P : Program} {s t u : TypeId} : ∀ {ps : List PV},ShapeVs P [s,t,u] ps→∃ a b c,ps = [a,b,c]∧ShapeV P s a∧ShapeV P t b∧ShapeV P u c
 | [a,b,c],⟨h1,h2,h3,_⟩ => ⟨a,b,c,rfl,h1,h2,h3⟩
theorem int_u8 {m : Int} (h : (Lit.int .u8 m).wf = true) : ∃ a : Nat,a < 256∧m = (a : Int) := by
 simp only [Lit.wf,Bool.and_eq_true,decide_eq_true_eq] at h
 obtain ⟨h1,h2⟩ := h
 have h3 : m≤255 := h2
 have h4 : 0≤m := h1
 exact ⟨m.toNat,by omega,by omega⟩
theorem int_u64 {m : Int} (h : (Lit.int .u64 m).wf = true) : ∃ a : Nat,a < 18446744073709551616∧m = (a : Int) := by
 simp only [Lit.wf,Bool.and_eq_true,decide_eq_true_eq] at h
 obtain ⟨h1,h2⟩ := h
 have h3 : m≤18446744073709551615 := h2
 have h4 : 0≤m := h1
 exact ⟨m.toNat,by omega,by omega⟩
theorem u8_shape {n : Nat} {l : List PV} (h : Shape Tryz.prog n 5 l) : ∃ x : Nat,x≤255∧l = [PV.val (.int .u8 (x : Int))] := by
 obtain ⟨m1,w1,e1⟩ := shape_int h (k := .u8) (by kernel_rfl)
 obtain ⟨x,hx,rfl⟩ := int_u8 w1
 exact ⟨x,by omega,e1⟩
theorem raw12_shape {n : Nat} {l : List PV} (h : Shape Tryz.prog n 27 l) : ∃ x : En,True∧l = rawC x := by
 have hl := shape_len h (k := 3) (by kernel_rfl)
 obtain ⟨n1,h1⟩ := shape_field h (i := 0) (off := 0) (ty := 5) (sz := 1) (by kernel_rfl)
 obtain ⟨n2,h2⟩ := shape_field h (i := 1) (off := 1) (ty := 5) (sz := 1) (by kernel_rfl)
 obtain ⟨n3,h3⟩ := shape_field h (i := 2) (off := 2) (ty := 5) (sz := 1) (by kernel_rfl)
 match l,hl with
 | [a, b, c], _ =>
   obtain ⟨m1,w1,e1⟩ := shape_int (show Shape _ n1 _ [a] from h1) (k := .u8) (by kernel_rfl)
   obtain ⟨m2,w2,e2⟩ := shape_int (show Shape _ n2 _ [b] from h2) (k := .u8) (by kernel_rfl)
   obtain ⟨m3,w3,e3⟩ := shape_int (show Shape _ n3 _ [c] from h3) (k := .u8) (by kernel_rfl)
   obtain ⟨x,hx,rfl⟩ := int_u8 w1
   obtain ⟨y,hy,rfl⟩ := int_u8 w2
   obtain ⟨t,ht,rfl⟩ := int_u8 w3
   simp only [List.cons.injEq,and_true] at e1 e2 e3
   subst e1; subst e2; subst e3
   exact ⟨⟨x,y,t⟩,trivial,rfl⟩
theorem rawFV_shape {p : PV} (h : ShapeV Tryz.prog 25 p) : ∃ z : RawF,RawFok z∧p = .agg (rawF z) := by
 obtain ⟨n,l,rfl,h0⟩ := shapeV_struct h (k := 4) (by kernel_rfl)
 clear h
 have h := h0
 have hl := shape_len h (k := 4) (by kernel_rfl)
 obtain ⟨n1,h1⟩ := shape_field h (i := 0) (off := 0) (ty := 22) (sz := 1) (by kernel_rfl)
 obtain ⟨n2,h2⟩ := shape_field h (i := 1) (off := 1) (ty := 23) (sz := 1) (by kernel_rfl)
 obtain ⟨n3,h3⟩ := shape_field h (i := 2) (off := 2) (ty := 5) (sz := 1) (by kernel_rfl)
 obtain ⟨n4,h4⟩ := shape_field h (i := 3) (off := 3) (ty := 5) (sz := 1) (by kernel_rfl)
 match l,hl with
 | [a, b, c, d], _ =>
   obtain ⟨m1,w1,e1⟩ := shape_int (show Shape _ n1 _ [a] from h1) (k := .u64) (by kernel_rfl)
   obtain ⟨n',ll,fl,_,g2,e2⟩ := shape_slice (show Shape _ n2 _ [b] from h2) (e := 27) (by kernel_rfl)
   obtain ⟨xs,_,rfl⟩ := rows_enc (enc := rawC) (Q := fun _ => True) fun l hl => raw12_shape (g2 l hl)
   obtain ⟨m3,w3,e3⟩ := shape_int (show Shape _ n3 _ [c] from h3) (k := .u8) (by kernel_rfl)
   obtain ⟨m4,w4,e4⟩ := shape_int (show Shape _ n4 _ [d] from h4) (k := .u8) (by kernel_rfl)
   obtain ⟨x,hx,rfl⟩ := int_u64 w1
   obtain ⟨y,hy,rfl⟩ := int_u8 w3
   obtain ⟨t,ht,rfl⟩ := int_u8 w4
   simp only [List.cons.injEq,and_true] at e1 e2 e3 e4
   subst e1; subst e2; subst e3; subst e4
   exact ⟨⟨x,xs,fl,y,t⟩,hx,rfl⟩
end Go.Proofs.YtbmhdpflloepkaaGreatDoor

namespace Go.Proofs.YtbmhdpflloepkaaGreatDoor
open Go.ChangeShapes Go.WideShapes Go.ChangeAt Go.RowKit
set_option linter.unusedVariables false

theorem item_shape {n : Nat} {l : List PV} (h : Shape Tryz.prog n 66 l) : ∃ x : ItemX,ItemOk x∧l = itC x := by
 have hl := shape_len h (k := 3) (by kernel_rfl)
 obtain ⟨n1,h1⟩ := shape_field h (i := 0) (off := 0) (ty := 4) (sz := 1) (by kernel_rfl)
 obtain ⟨n2,h2⟩ := shape_field h (i := 1) (off := 1) (ty := 5) (sz := 1) (by kernel_rfl)
 obtain ⟨n3,h3⟩ := shape_field h (i := 2) (off := 2) (ty := 64) (sz := 1) (by kernel_rfl)
 match l,hl with
 | [a, b, c], _ =>
   obtain ⟨o,e1⟩ := shape_bool (show Shape _ n1 _ [a] from h1) (by kernel_rfl)
   obtain ⟨m2,w2,e2⟩ := shape_int (show Shape _ n2 _ [b] from h2) (k := .u8) (by kernel_rfl)
   obtain ⟨n',ll,fl,_,g2,e3⟩ := shape_slice (show Shape _ n3 _ [c] from h3) (e := 5) (by kernel_rfl)
   obtain ⟨xs,hx,rfl⟩ := rows_enc (enc := fun (x : Nat) => [PV.val (.int .u8 (x : Int))]) (Q := fun (x : Nat) => x≤255) fun l hl => u8_shape (g2 l hl)
   obtain ⟨y,hy,rfl⟩ := int_u8 w2
   simp only [List.cons.injEq,and_true] at e1 e2 e3
   subst e1; subst e2; subst e3
   exact ⟨⟨o,y,xs,fl⟩,⟨hy,hx⟩,rfl⟩
theorem items_shape {p : PV} (h : ShapeV Tryz.prog 69 p) : ∃ (l : List ItemX) (fl : Bool),(∀ x∈l,ItemOk x)∧p = .vec (l.map itC) fl := by
 obtain ⟨n,ll,fl,_,h2,rfl⟩ := shapeV_slice h (e := 66) (by kernel_rfl)
 obtain ⟨xs,h3,rfl⟩ := rows_enc (enc := itC) (Q := ItemOk) fun l hl => item_shape (h2 l hl)
 exact ⟨xs,fl,h3,rfl⟩
end Go.Proofs.YtbmhdpflloepkaaGreatDoor

namespace Go.Proofs.YtbmhdpflloepkaaGreatDoor
open Go.ChangeShapes Go.WideShapes Go.ChangeAt Go.RowKit
set_option linter.unusedVariables false

theorem meaningNew_spec : ∀ ps,ShapeVs Tryz.prog Tryz.f8.params.toList ps→pureL ps→Spec Tryz.prog 8 ps (· = .val (.bool true)) := by
 intro ps hs hp
 rw [show Tryz.f8.params.toList = [25,25,69] by kernel_rfl] at hs
 obtain ⟨a,b,c,rfl,k0,k1,k2⟩ := shapeVs_three hs
 obtain ⟨x0,h0,rfl⟩ := rawFV_shape k0
 obtain ⟨x1,h1,rfl⟩ := rawFV_shape k1
 obtain ⟨x2,f2,h2,rfl⟩ := items_shape k2
 exact meaningNew_law x0 x1 x2 f2 h0 h1 h2

set_option maxRecDepth 100000 in
theorem meaningNew_lifted (os : Os) (started : os.Started) (H : Type) (enc : TypeId × Value→H) :
 ReturnsInHanded {} Tryz.checked os 8 .any (fun w args => (Rows.meaningNewSpec.pre enc Tryz.prog Tryz.f8 [] false w args∧laidMetH Tryz.prog laidV w)∧sizedMet enc Tryz.prog Tryz.f8 (OpenSpec.ofChange Rows.meaningNewSpec) false w args)
  (Rows.meaningNewSpec.post enc Tryz.prog Tryz.f8 false true false false) := by
 refine returnsInHanded_of_change_and (C := Tryz.checked) (X := fun w _ => laidMetH Tryz.prog laidV w) (fun _ _ _ hh h => h.of_heap hh) own started (by kernel_rfl) Tryz.func8
  (ChangeSpec.witness_shaped (enc := enc) (C := Tryz.checked) (os := os) (X := fun w _ => laidMetH Tryz.prog laidV w) false (World.doorLaid Tryz.prog 400 os) #[.agg #[.int .u64 0,.slice none 0 0,.int .u8 0,.int .u8 0],.agg #[.int .u64 0,.slice none 0 0,.int .u8 0,.int .u8 0],.slice none 0 0] 8 rfl (World.shaped_of_RefB (by kernel_rfl) (by kernel_rfl)) (by kernel_rfl) (by kernel_rfl) (by kernel_rfl) (door_met os _)) ?_
 intro W base args ds gs before hval hW _ hwt hL _
 exact law_contract (P := Tryz.prog) (G := partsG Tryz.prog Tryz.f8.params.toList) (by kernel_rfl) (inG_of (by kernel_rfl)) laidOut (parsOk_of (by kernel_rfl)) (tb := 4) (by kernel_rfl) (by kernel_rfl) rfl (fun ds hd => by
  match ds,hd with
  | [a,b,c],_ => exact ⟨rfl,rfl,rfl⟩) meaningNew_spec W (globs_in hL) base args ds gs before hval hW hwt

theorem meaningNew_holds : Rows.MeaningNewSaid :=
 OpenClaim.holds_of_wide 8 Tryz.f8 rfl rfl rfl rfl rfl rfl rfl ⟨rfl,rfl,rfl,rfl,rfl⟩ rfl rfl rfl rfl rfl (by kernel_rfl) Tryz.func8 (by kernel_rfl)
  (of_decide_eq_true (by kernel_rfl)) (by unfold Func.isWrapper; first | (rw [if_pos (by decide +kernel)]; kernel_rfl) | (rw [if_neg (by decide +kernel)]; exact ⟨rfl,rfl⟩))
  (fun os started H enc _ => meaningNew_lifted os started H enc)

theorem meaningNew_card : Rows.MeaningNewCardSaid :=
 Claim7.holds_tied_plain_at .later [] [.data] true (true, "403d93dc76e6b9f88461d046f66cd5a652062aa27ed30ee5a83df618499f986d") false
  meaningNew_holds (fun _ h=>by cases h) (by kernel_rfl) (fun _ h=>by cases h) meaningNew_row_tie rfl ⟨rfl,rfl⟩ (by kernel_rfl) rfl
  (fun f fn hf hfn => by
    obtain rfl : f = 8 := Option.some.inj ((show Tryz.prog.funcNamed "arbac/arbaclaw20.MeaningNew" = some 8 by kernel_rfl).symm.trans hf) |>.symm
    obtain rfl : fn = Tryz.f8 := (Option.some.inj (Tryz.func8.symm.trans hfn)).symm
    exact ⟨by kernel_rfl,fun j t ht => by
     rw [show Tryz.f8.params = #[25,25,69] by kernel_rfl] at ht
     have hm : t∈[25,25,69] := by simpa using Array.mem_of_getElem? ht
     have hall : ([25,25,69].all fun u => !Tryz.prog.wantsStandIn u) = true := by kernel_rfl
     exact (show Tryz.prog.wantsStandIn t = false by simpa using List.all_eq_true.1 hall t hm)⟩)
  (by kernel_rfl)
#print axioms meaningNew_card
end Go.Proofs.YtbmhdpflloepkaaGreatDoor
