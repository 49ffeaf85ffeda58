/-
 Proved: for every input the laws WitnessRepairs,WitnessAdditions and WitnessMends return true,never panic,and leave their arguments as0 they were,on the given cards' conditions (the table of the bits package reads as0 the program's text lays it,and is tied to it).
-/
import Derived.SevenTiedAt
import Derived.Test.YtjpkfigmmmngnaaGreatDoorCards
import Derived.Test.YtjpkfigmmmngnaaGreatDoorTie
import Derived.Test.YtjpkfigmmmngnaaGreatDoorMq6
set_option linter.unusedSimpArgs false
set_option linter.unusedVariables false
set_option linter.unusedSectionVars false
namespace Go.Proofs.YtjpkfigmmmngnaaGreatDoor
open Go.ChangeShapes Go.WideShapes Go.ChangeAt Go.RowKit
theorem Z3y:∀ ps,ShapeVs Tryz.prog Tryz.f6.params.toList ps→pureL ps→Spec Tryz.prog 6 ps (· = .val (.bool true)):=by
 intro ps hs hp
 rw [show Tryz.f6.params.toList = [22,23,24] by kernel_rfl] at hs
 obtain⟨a,b,c,rfl,k0,k1,k2⟩:=Z35 hs
 obtain⟨x0,f0,h0,rfl⟩:=Z4b k0
 obtain⟨x1,h1,rfl⟩:=Z4V k1
 obtain⟨x2,h2,rfl⟩:=Z6R k2
 exact Z3N x0 x1 x2 f0 h0 h1 h2
set_option maxRecDepth 100000 in
theorem Z36 (os:Os) (started:os.Started) (H:Type) (enc:TypeId×Value→H) :
 ReturnsInHanded {} Tryz.checked os 6 .any (fun w args=>(Rows.witnessAdditionsSpec.pre enc Tryz.prog Tryz.f6 [] false w args∧laidMetH Tryz.prog laidV w)∧sizedMet enc Tryz.prog Tryz.f6 (OpenSpec.ofChange Rows.witnessAdditionsSpec) false w args)
  (Rows.witnessAdditionsSpec.post enc Tryz.prog Tryz.f6 false true false false):=by
 refine returnsInHanded_of_change_and (C:=Tryz.checked) (X:=fun w _=>laidMetH Tryz.prog laidV w) (fun _ _ _ hh h=>h.of_heap hh) own started (by kernel_rfl) Tryz.func6
  (ChangeSpec.witness_shaped (enc:=enc) (C:=Tryz.checked) (os:=os) (X:=fun w _=>laidMetH Tryz.prog laidV w) false (World.doorLaid Tryz.prog 400 os) #[.slice none 0 0,.int .u64 0,.agg #[.int .u8 0,.int .u8 0]] 8 rfl (World.shaped_of_RefB (by kernel_rfl) (by kernel_rfl)) (by kernel_rfl) (by kernel_rfl) (by kernel_rfl) (Z8f os _)) ?_
 intro W base args ds gs before hval hW _ hwt hL _
 exact Z3o (P:=Tryz.prog) (G:=partsG Tryz.prog Tryz.f6.params.toList) (by kernel_rfl) (Zeb (by kernel_rfl)) laidOut (Z6v (by kernel_rfl)) (tb:=4) (by kernel_rfl) (by kernel_rfl) rfl (fun ds hd=>by
  match ds,hd with
  | [a,b,c],_=>exact⟨rfl,rfl,rfl⟩) Z3y W (Z8g hL) base args ds gs before hval hW hwt
theorem Z39:Rows.WitnessAdditionsSaid :=
 OpenClaim.holds_of_wide 6 Tryz.f6 rfl rfl rfl rfl rfl rfl rfl ⟨rfl,rfl,rfl,rfl,rfl⟩ rfl rfl rfl rfl rfl (by kernel_rfl) Tryz.func6 (by kernel_rfl)
  (of_decide_eq_true (by kernel_rfl)) (by unfold Func.isWrapper; first|(rw [if_pos (by decide +kernel)]; kernel_rfl)|(rw [if_neg (by decide +kernel)]; exact⟨rfl,rfl⟩))
  (fun os started H enc _=>Z36 os started H enc)
theorem witnessAdditions_card:Rows.WitnessAdditionsCardSaid :=
 Claim7.holds_tied_plain_at .later [] [.data,.data,.data] true (true, "3b95f6944516eaa7af7441d5befe7852d094d3e59071218fbee46b50b6f9d4f3") true
  Z39 (fun _ h=>by cases h) (by kernel_rfl) (fun _ h=>by cases h) witnessAdditions_row_tie rfl ⟨rfl,rfl⟩ (by kernel_rfl) rfl
  (fun f fn hf hfn => by
    obtain rfl : f = 6 := Option.some.inj ((show Tryz.prog.funcNamed "arbac/arbaclaw21.WitnessAdditions" = some 6 by kernel_rfl).symm.trans hf) |>.symm
    obtain rfl:fn=Tryz.f6:=(Option.some.inj (Tryz.func6.symm.trans hfn)).symm
    exact⟨by kernel_rfl,fun j t ht=>by
     rw [show Tryz.f6.params = #[22,23,24] by kernel_rfl] at ht
     have hm:t∈[22,23,24]:=by simpa using Array.mem_of_getElem? ht
     have hall:([22,23,24].all fun u => !Tryz.prog.wantsStandIn u)=true:=by kernel_rfl
     exact (show Tryz.prog.wantsStandIn t=false by simpa using List.all_eq_true.1 hall t hm)⟩)
  (by kernel_rfl)
#print axioms witnessAdditions_card
end Go.Proofs.YtjpkfigmmmngnaaGreatDoor
namespace Go.Proofs.YtjpkfigmmmngnaaGreatDoor
open Go.RowKit
attribute [local irreducible] aw opsK dK
theorem Z7D {N M:Nat} (hN:N<18446744073709551616) (hM:M<18446744073709551616) {b:Bool} (h:decide (N ||| M=M)=b):Spec Tryz.prog 23 [setN N,setN M] (· = .val (.bool b)):=h▸Z41 N M hN hM
theorem ZeU {N M:Nat} (hN:N<18446744073709551616) (hM:M<18446744073709551616) {b:Bool} (h:decide (N &&& M≠0)=b):Spec Tryz.prog 28 [setN N,setN M] (· = .val (.bool b)):=h▸Z7g N M hN hM
theorem ZeV {E:Nat} (hE:E<128) {good:Nat→Bool} {out:List Nat} (h:Mins (fun s=>s ||| E=E) good out):out.length≤128:=Z3L 128 out h.nd fun s hs=>by
 have h1:s ||| E=E:=((h.iff s).1 hs).1
 have h2:s≤s ||| E:=Nat.left_le_or
 omega
noncomputable def hoW (f:Fm) (l:List Pr) (N:Nat):Bool:=holdB f (clo l N)
set_option maxHeartbeats 2000000 in
theorem Zj {f:Fm} (m:MadeW f) (l:List Pr) (S:List Nat) {N:Nat} (hN:N<18446744073709551616) {b:Bool} (h:hoW f l N=b):Spec Tryz.prog 17 [setN N,.cp (fC .u8 f),.cp [hierP l S]] (· = .val (.bool b)):=by
 subst h
 have hpf:=Zk .u8 f
 have hfg:∀ D,innL D (fC .u8 f):=fun D=>Z5i .u8 f D
 have hhp:=Zv l S
 refine Z3 ok17 (Nat.le_of_ble_eq_true rfl) fun C hC=>?_
 refine Zm ?_
 refine Za ?_
 refine Z6 rfl rfl rfl ?_
 (repeat'(first|refine Z2 8 ?_|refine Z1 8 ?_|refine st ?_|(apply B<;>intro hb<;>try cases hb)))<;>try refine At.mk ?_
 refine Zt (Z3s l S N hN) rfl rfl rfl ⟨hhp,Z0 _,trivial⟩ ?_
 (repeat'(first|refine Z2 9 ?_|refine Z1 9 ?_|refine st ?_|(apply B<;>intro hb<;>try cases hb)))<;>try refine At.mk ?_
 refine Zt (Z6F (clo l N) f m.six) rfl rfl rfl ⟨hpf,Z0 _,trivial,trivial⟩ ?_
 refine Zq rfl rfl rfl ?_
 refine Z7N ?_
 refine Zb2 ?_
 exact Z5 rfl trivial rfl
theorem Z4W {s:Nat} (hs:s<18446744073709551616) {r:Nat} (hr:r<64):Spec Tryz.prog 27 [setN s,.val (.int .i64 (r:Int))] (· = setN (minusN s (2 ^ r))):=by
 have e:withoutN s (r:Int)=minusN s (2 ^ r):=by
  refine Nat.eq_of_testBit_eq fun j=>?_
  rw [Z5t hs,ZV hs (Nat.pow_lt_pow_right (n:=64) (by decide) hr),Nat.testBit_two_pow]
  by_cases h:j=r
  · subst h; simp
  · rw [decide_eq_true h,decide_eq_false fun h'=>h h'.symm]; rfl
 have:=Z7V s hs (r:Int)
 rwa [e] at this
theorem Z2x {N:Nat} (hN:N<18446744073709551616) {b:Bool} (h:decide (N=0)=b):Spec Tryz.prog 22 [setN N] (· = .val (.bool b)):=h▸Z2b N hN
theorem ZbO {N:Nat} (hN:N<18446744073709551616) {k:Nat} (h:popK 64 N=k):Spec Tryz.prog 24 [setN N] (· = .val (.int .i64 (k:Int))):=h▸Z3k N hN
noncomputable def fnW (f:Fm) (l:List Pr) (S:List Nat):PV:=.fn 17 [.cp (fC .u8 f),.cp [hierP l S]]
theorem Zgg (f:Fm) (l:List Pr) (S:List Nat):(fnW f l S).pure:=⟨Zk .u8 f,⟨Zv l S,trivial⟩,trivial⟩
theorem Zgt {a b:Nat} (ha:a<18446744073709551616) (hb:b<18446744073709551616):a ||| b<18446744073709551616:=Nat.or_lt_two_pow (n:=64) ha hb
theorem three (o:List Nat) (h:o≠[0]):o = [] ∨ (∃ s,s≠0∧o = [s]) ∨ (o≠[]∧o.length≠1):=by
 match o,h with
 | [],_=>exact .inl rfl
 | [s],h=>exact .inr (.inl ⟨s,fun e=>h (by rw [e]),rfl⟩)
 | a :: b :: r,_=>exact .inr (.inr ⟨by simp,by simp⟩)
theorem ZaP:setN 0=.agg [.vec [] false]:=by
 show PV.agg [.vec (words (digs 0)) false]=_
 rw [Zx]; rfl
set_option maxHeartbeats 16000000 in
theorem Z5y (p:List Nat) (x:Nat) (y:Nat×Nat) (fl:Bool) (hp:Bytes p) (hx:x<18446744073709551616) (hy:y.1<256∧y.2<256):Spec Tryz.prog 3 [.vec (bys p) fl,.val (.int .u64 (x:Int)),.agg [.val (.int .u8 (y.1:Int)),.val (.int .u8 (y.2:Int))]] (· = .val (.bool true)):=by
 obtain⟨a,b⟩:=y
 obtain⟨ha,hb⟩:a<256∧b<256:=hy
 dsimp only
 have hE:=low126 a
 have hY:=low126 b
 have w1:IntKind.u64.wrap (bits .and .u8 (a:Int) 126)=((a &&& 126:Nat):Int):=by
  rw [show (126:Int)=((126:Nat):Int) from rfl,ZbB a 126 ha (by decide)]; exact IntWalk.u64_in _ ⟨by omega,by omega⟩
 have w2:IntKind.u64.wrap (bits .and .u8 (b:Int) 126)=((b &&& 126:Nat):Int):=by
  rw [show (126:Int)=((126:Nat):Int) from rfl,ZbB b 126 hb (by decide)]; exact IntWalk.u64_in _ ⟨by omega,by omega⟩
 have hzE:=zero126 a
 have hz0:((a &&& 126) ||| (b &&& 126)).testBit 0=false:=by rw [Nat.testBit_or,zero126,zero126]; rfl
 refine Z3 ok3 (Nat.le_of_ble_eq_true rfl) fun C hC=>?_
 (repeat'(first|refine Z2 23 ?_|refine Z1 23 ?_|refine st ?_|(apply B<;>intro hb<;>try cases hb)))<;>try refine At.mk ?_
 refine Z4 Z3v rfl rfl rfl trivial rfl ?_
 (repeat'(first|refine Z2 26 ?_|refine Z1 26 ?_|refine st ?_|(apply B<;>intro hb<;>try cases hb)))<;>try refine At.mk ?_
 refine Zo rfl rfl (Z34 p hp fl) ⟨Z4E _,trivial⟩ rfl ?_
 rintro r ⟨f,m,rfl⟩
 have hpf:=Zk .i64 f
 have hpg:=Zk .u8 f
 (repeat'(first|refine Z2 27 ?_|refine Z1 27 ?_|refine st ?_|(apply B<;>intro hb<;>try cases hb)))<;>try refine At.mk ?_
 refine Z4 (Z3w m) rfl rfl rfl ⟨hpf,trivial⟩ rfl ?_
 (repeat'(first|refine Z2 30 ?_|refine Z1 30 ?_|refine st ?_|(apply B<;>intro hb<;>try cases hb)))<;>try refine At.mk ?_
 refine Zo rfl rfl (Z5d x hx) ⟨trivial,trivial⟩ rfl ?_
 rintro r ⟨l,fl2,S,hgl,rfl⟩
 have hhp:=Zv l S
 have hfw:=Zgg f l S
 (repeat'(first|refine Z2 37 ?_|refine Z1 37 ?_|refine st ?_|(apply B<;>intro hb<;>try cases hb)))<;>try refine At.mk ?_
 refine Zt (Z2c (a &&& 126) (by omega)) rfl rfl (by rw [← w1]; rfl) ⟨trivial,trivial⟩ ?_
 (repeat'(first|refine Z2 42 ?_|refine Z1 42 ?_|refine st ?_|(apply B<;>intro hb<;>try cases hb)))<;>try refine At.mk ?_
 refine Zt (Z2c (b &&& 126) (by omega)) rfl rfl (by rw [← w2]; rfl) ⟨trivial,trivial⟩ ?_
 clear w1 w2
 generalize a &&& 126=E at hE hzE hz0 ⊢
 generalize b &&& 126=Y at hY hz0 ⊢
 have hE64:E<18446744073709551616:=by omega
 have hY64:Y<18446744073709551616:=by omega
 have hstE:pureL (stC E):=⟨Zb _,trivial⟩
 have hstY:pureL (stC Y):=⟨Zb _,trivial⟩
 (repeat'(first|refine Z2 43 ?_|refine Z1 43 ?_|refine st ?_|(apply B<;>intro hb<;>try cases hb)))<;>try refine At.mk ?_
 refine Ze (ZU (k:=7) rfl rfl hpg) ?_
 refine Ze (ZU (k:=8) (l := [hierP l S]) rfl rfl ⟨hhp,trivial⟩) ?_
 refine Ze (ZU (k:=10) (l:=stC E) rfl rfl hstE) ?_
 refine Ze (ZU (k:=11) (l:=stC Y) rfl rfl hstY) ?_
 (repeat'(first|refine Z2 45 ?_|refine Z1 45 ?_|refine st ?_|(apply B<;>intro hb<;>try cases hb)))<;>try refine At.mk ?_
 refine Ze (ZU (k:=12) (l := [fnW f l S]) rfl rfl ⟨hfw,trivial⟩) ?_
 (repeat'(first|refine Z2 48 ?_|refine Z1 48 ?_|refine st ?_|(apply B<;>intro hb<;>try cases hb)))<;>try refine At.mk ?_
 refine Zo rfl rfl (Z33 m.six.holdsW m.d1000 m.sbig l S E hE64 hzE) ⟨hpg,Z0 _,hhp,trivial⟩ rfl ?_
 intro r hr
 obtain⟨o1,f3,hm1,hs1,rfl⟩:=Z8w m.six.check (by omega) hr
 (repeat'(first|refine Z2 56 ?_|refine Z1 56 ?_|refine st ?_|(apply B<;>intro hb<;>try cases hb)))<;>try refine At.mk ?_
 refine Zo rfl rfl (Z2l m.six.holdsW m.d1000 m.sbig l S E Y hE64 hY64 hz0) ⟨hpg,Z0 _,Z0 _,hhp,trivial⟩ rfl ?_
 intro r hr2
 have hle:=Z9o Y E
 obtain⟨o2,f4,hm2,hs2,rfl⟩:=Z8w m.six.check (by omega) hr2
 clear hr hr2
 obtain⟨k1,e1⟩:∃ k:Int,(if o1 = [] then (4:Int) else 0)=k:=⟨_,rfl⟩
 obtain⟨k2,e2⟩:∃ k:Int,(if o2 = [] then (4:Int) else 0)=k:=⟨_,rfl⟩
 have c1:k1=4 ∨ k1=0:=by rw [← e1]; exact Z5O o1
 have c2:k2=4 ∨ k2=0:=by rw [← e2]; exact Z5O o2
 rw [e1,e2]
 have hfwi:∀ D,(fnW f l S).inn D:=fun D=>PV.inn_mono (fun _ h=>h.elim) _ hfw
 have hEi:∀ D,innL D (stC E):=fun D=>ZC (fun _ h=>h.elim) _ hstE
 have hYi:∀ D,innL D (stC Y):=fun D=>ZC (fun _ h=>h.elim) _ hstY
 have hp1:∀ D,innLL D (seL o1):=fun D=>Zd (fun _ h=>h.elim) _ (Z1a o1)
 have hp2:∀ D,innLL D (seL o2):=fun D=>Zd (fun _ h=>h.elim) _ (Z1a o2)
 have hl1:(seL o1).length=o1.length:=by simp [seL]
 have hl2:(seL o2).length=o2.length:=by simp [seL]
 have lt1:=ZbM hE64 hm1
 have lt2:=ZbM (show minusN Y E<18446744073709551616 by omega) hm2
 have g1:gdR f l E 0=hoW f l E:=by unfold gdR hoW; rw [Z9i hE64]
 have g2:gdA f l E 0=hoW f l E:=by unfold gdA hoW; rw [Nat.or_zero]
 have h00:o1 = []→hoW f l 0=false:=fun h=>by
  have h1:=hm1.none h (Nat.or_self E)
  unfold gdR at h1
  rwa [ZaA hE64] at h1
 have z1:hoW f l E=true→o1 = [0]:=fun h=>(hm1.zero hE64).1 (by rw [g1]; exact h)
 have z2:hoW f l E=true→o2 = [0]:=fun h=>(hm2.zero (show minusN Y E<18446744073709551616 by omega)).1 (by rw [g2]; exact h)
 have y1:hoW f l E=false→o1≠[0]:=fun h h'=>by have:=(hm1.zero hE64).2 h'; rw [g1,h] at this; cases this
 have y2:hoW f l E=false→o2≠[0]:=fun h h'=>by have:=(hm2.zero (show minusN Y E<18446744073709551616 by omega)).2 h'; rw [g2,h] at this; cases this
 (repeat'(first|refine Z2 16 ?_|refine Z1 16 ?_|refine st ?_|(apply B<;>intro hb<;>try cases hb)))<;>try refine At.mk ?_
 refine Z7 rfl rfl rfl ?_
 refine Z12 ?_
 refine Z1r hC True 2 [(6,.ptr 1 0 0),(10,.cp (stC E)),(11,.cp (stC Y)),(12,.cp [fnW f l S]),(13,.vec (seL o1) f3),(14,.val (.int .i64 k1)),(15,.vec (seL o2) f4),(16,.val (.int .i64 k2))] [(1,⟨1,[[.val (.bool false)]]⟩)] (by decide) ?_ fun _=>?_
 · rcases c1 with rfl | rfl <;> rcases c2 with rfl | rfl
   all_goals
    (refine go ?_;repeat' (apply B<;>intro hb<;>try cases hb))
    exact⟨trivial,⟨⟨rfl,show (1:Nat)<2 by decide⟩,⟨rfl,hEi _⟩,⟨rfl,hYi _⟩,⟨rfl,hfwi _,trivial⟩,⟨rfl,hp1 _⟩,⟨rfl,trivial⟩,⟨rfl,hp2 _⟩,⟨rfl,trivial⟩,trivial⟩,⟨⟨by decide,rfl,⟨⟨trivial,trivial⟩,trivial⟩⟩,trivial⟩⟩
 refine Z1r hC True 2 [(6,.ptr 1 0 0),(10,.cp (stC E)),(11,.cp (stC Y)),(12,.cp [fnW f l S]),(13,.vec (seL o1) f3),(15,.vec (seL o2) f4)] [(1,⟨1,[[.val (.bool false)]]⟩)] (by decide) ?_ fun _=>?_
 · cases hb0 : hoW f l E with
   | true =>
     obtain rfl:=z1 hb0
     obtain rfl:=z2 hb0
     obtain rfl:k1=0:=by rw [← e1]; rfl
     obtain rfl:k2=0:=by rw [← e2]; rfl
     (repeat'(first|refine Z2 83 ?_|refine Z1 83 ?_|refine st ?_|(apply B<;>intro hb<;>try cases hb)))<;>try refine At.mk ?_
     refine Zh rfl ?_
     refine Z4 (Zj m l S hE64 hb0) rfl rfl rfl ⟨Z0 _,⟨hpg,⟨hhp,trivial⟩,trivial⟩⟩ rfl ?_
     (repeat'(first|refine Z2 91 ?_|refine Z1 91 ?_|refine st ?_|(apply B<;>intro hb<;>try cases hb)))<;>try refine At.mk ?_
     refine Zh rfl ?_
     refine Z4 (Z2x (by decide) (N:=0) (b:=true) rfl) rfl rfl rfl ⟨Z0 _,trivial⟩ rfl ?_
     (repeat'(first|refine Z2 98 ?_|refine Z1 98 ?_|refine st ?_|(apply B<;>intro hb<;>try cases hb)))<;>try refine At.mk ?_
     refine Zh rfl ?_
     refine Z4 (Zj m l S hE64 hb0) rfl rfl rfl ⟨Z0 _,⟨hpg,⟨hhp,trivial⟩,trivial⟩⟩ rfl ?_
     (repeat'(first|refine Z2 106 ?_|refine Z1 106 ?_|refine st ?_|(apply B<;>intro hb<;>try cases hb)))<;>try refine At.mk ?_
     refine Zh rfl ?_
     refine Z4 (Z2x (by decide) (N:=0) (b:=true) rfl) rfl rfl rfl ⟨Z0 _,trivial⟩ rfl ?_
     (refine go ?_;repeat' (apply B<;>intro hb<;>try cases hb))
     exact⟨trivial,⟨⟨rfl,show (1:Nat)<2 by decide⟩,⟨rfl,hEi _⟩,⟨rfl,hYi _⟩,⟨rfl,hfwi _,trivial⟩,⟨rfl,hp1 (fun i=>i<2)⟩,⟨rfl,hp2 (fun i=>i<2)⟩,trivial⟩,⟨⟨by decide,rfl,⟨⟨trivial,trivial⟩,trivial⟩⟩,trivial⟩⟩
   | false =>
     have n1:=y1 hb0
     have n2:=y2 hb0
     rcases three o1 n1 with q1|⟨s1,hs0,q1⟩|⟨q1,q1'⟩<;>rcases three o2 n2 with q2|⟨s2,ht0,q2⟩|⟨q2,q2'⟩
     · subst q1
       obtain rfl:k1=4:=by rw [← e1]; rfl
       (repeat'(first|refine Z2 78 ?_|refine Z1 78 ?_|refine st ?_|(apply B<;>intro hb<;>try cases hb)))<;>try refine At.mk ?_
       refine Zh rfl ?_
       refine Ze (Z4S (k:=77) (q:=setN 0) rfl (by rw [ZaP]; exact RenP.low (.agg [.vec [] true]) ⟨trivial,trivial⟩)) ?_
       refine Z4 (Zj m l S (N:=0) (by decide) (h00 rfl)) rfl rfl rfl ⟨Z0 _,⟨hpg,⟨hhp,trivial⟩,trivial⟩⟩ rfl ?_
       (repeat'(first|refine Z2 83 ?_|refine Z1 83 ?_|refine st ?_|(apply B<;>intro hb<;>try cases hb)))<;>try refine At.mk ?_
       refine Zh rfl ?_
       refine Z4 (Zj m l S hE64 hb0) rfl rfl rfl ⟨Z0 _,⟨hpg,⟨hhp,trivial⟩,trivial⟩⟩ rfl ?_
       subst q2
       (repeat'(first|refine Z2 98 ?_|refine Z1 98 ?_|refine st ?_|(apply B<;>intro hb<;>try cases hb)))<;>try refine At.mk ?_
       refine Zh rfl ?_
       refine Z4 (Zj m l S hE64 hb0) rfl rfl rfl ⟨Z0 _,⟨hpg,⟨hhp,trivial⟩,trivial⟩⟩ rfl ?_
       (refine go ?_;repeat' (apply B<;>intro hb<;>try cases hb))
       exact⟨trivial,⟨⟨rfl,show (1:Nat)<2 by decide⟩,⟨rfl,hEi _⟩,⟨rfl,hYi _⟩,⟨rfl,hfwi _,trivial⟩,⟨rfl,hp1 (fun i=>i<2)⟩,⟨rfl,hp2 (fun i=>i<2)⟩,trivial⟩,⟨⟨by decide,rfl,⟨⟨trivial,trivial⟩,trivial⟩⟩,trivial⟩⟩
     · subst q1
       obtain rfl:k1=4:=by rw [← e1]; rfl
       (repeat'(first|refine Z2 78 ?_|refine Z1 78 ?_|refine st ?_|(apply B<;>intro hb<;>try cases hb)))<;>try refine At.mk ?_
       refine Zh rfl ?_
       refine Ze (Z4S (k:=77) (q:=setN 0) rfl (by rw [ZaP]; exact RenP.low (.agg [.vec [] true]) ⟨trivial,trivial⟩)) ?_
       refine Z4 (Zj m l S (N:=0) (by decide) (h00 rfl)) rfl rfl rfl ⟨Z0 _,⟨hpg,⟨hhp,trivial⟩,trivial⟩⟩ rfl ?_
       (repeat'(first|refine Z2 83 ?_|refine Z1 83 ?_|refine st ?_|(apply B<;>intro hb<;>try cases hb)))<;>try refine At.mk ?_
       refine Zh rfl ?_
       refine Z4 (Zj m l S hE64 hb0) rfl rfl rfl ⟨Z0 _,⟨hpg,⟨hhp,trivial⟩,trivial⟩⟩ rfl ?_
       subst q2
       (repeat'(first|refine Z2 98 ?_|refine Z1 98 ?_|refine st ?_|(apply B<;>intro hb<;>try cases hb)))<;>try refine At.mk ?_
       refine Zh rfl ?_
       refine Z4 (Zj m l S hE64 hb0) rfl rfl rfl ⟨Z0 _,⟨hpg,⟨hhp,trivial⟩,trivial⟩⟩ rfl ?_
       (repeat'(first|refine Z2 106 ?_|refine Z1 106 ?_|refine st ?_|(apply B<;>intro hb<;>try cases hb)))<;>try refine At.mk ?_
       refine Zh rfl ?_
       refine Z4 (Z2x (lt2 s2 (by simp)) (b:=false) (decide_eq_false ht0)) rfl rfl rfl ⟨Z0 _,trivial⟩ rfl ?_
       (refine go ?_;repeat' (apply B<;>intro hb<;>try cases hb))
       exact⟨trivial,⟨⟨rfl,show (1:Nat)<2 by decide⟩,⟨rfl,hEi _⟩,⟨rfl,hYi _⟩,⟨rfl,hfwi _,trivial⟩,⟨rfl,hp1 (fun i=>i<2)⟩,⟨rfl,hp2 (fun i=>i<2)⟩,trivial⟩,⟨⟨by decide,rfl,⟨⟨trivial,trivial⟩,trivial⟩⟩,trivial⟩⟩
     · subst q1
       obtain rfl:k1=4:=by rw [← e1]; rfl
       (repeat'(first|refine Z2 78 ?_|refine Z1 78 ?_|refine st ?_|(apply B<;>intro hb<;>try cases hb)))<;>try refine At.mk ?_
       refine Zh rfl ?_
       refine Ze (Z4S (k:=77) (q:=setN 0) rfl (by rw [ZaP]; exact RenP.low (.agg [.vec [] true]) ⟨trivial,trivial⟩)) ?_
       refine Z4 (Zj m l S (N:=0) (by decide) (h00 rfl)) rfl rfl rfl ⟨Z0 _,⟨hpg,⟨hhp,trivial⟩,trivial⟩⟩ rfl ?_
       (repeat'(first|refine Z2 83 ?_|refine Z1 83 ?_|refine st ?_|(apply B<;>intro hb<;>try cases hb)))<;>try refine At.mk ?_
       refine Zh rfl ?_
       refine Z4 (Zj m l S hE64 hb0) rfl rfl rfl ⟨Z0 _,⟨hpg,⟨hhp,trivial⟩,trivial⟩⟩ rfl ?_
       (repeat'(first|refine Z2 98 ?_|refine Z1 98 ?_|refine st ?_|(apply B<;>intro hb<;>try cases hb)))<;>try refine At.mk ?_
       refine Zh rfl ?_
       refine Z4 (Zj m l S hE64 hb0) rfl rfl rfl ⟨Z0 _,⟨hpg,⟨hhp,trivial⟩,trivial⟩⟩ rfl ?_
       (repeat'(first|refine Z2 101 ?_|refine Z1 101 ?_|refine st ?_|(apply B<;>intro hb<;>try cases hb)))<;>try refine At.mk ?_
       refine Zh rfl ?_
       refine Z7 (Zw (v:=false) rfl (by rw [hl2,beq_eq_false_iff_ne];omega)) rfl rfl ?_
       (refine go ?_;repeat' (apply B<;>intro hb<;>try cases hb))
       exact⟨trivial,⟨⟨rfl,show (1:Nat)<2 by decide⟩,⟨rfl,hEi _⟩,⟨rfl,hYi _⟩,⟨rfl,hfwi _,trivial⟩,⟨rfl,hp1 (fun i=>i<2)⟩,⟨rfl,hp2 (fun i=>i<2)⟩,trivial⟩,⟨⟨by decide,rfl,⟨⟨trivial,trivial⟩,trivial⟩⟩,trivial⟩⟩
     · subst q1
       obtain rfl:k1=0:=by rw [← e1]; rfl
       (repeat'(first|refine Z2 83 ?_|refine Z1 83 ?_|refine st ?_|(apply B<;>intro hb<;>try cases hb)))<;>try refine At.mk ?_
       refine Zh rfl ?_
       refine Z4 (Zj m l S hE64 hb0) rfl rfl rfl ⟨Z0 _,⟨hpg,⟨hhp,trivial⟩,trivial⟩⟩ rfl ?_
       (repeat'(first|refine Z2 91 ?_|refine Z1 91 ?_|refine st ?_|(apply B<;>intro hb<;>try cases hb)))<;>try refine At.mk ?_
       refine Zh rfl ?_
       refine Z4 (Z2x (lt1 s1 (by simp)) (b:=false) (decide_eq_false hs0)) rfl rfl rfl ⟨Z0 _,trivial⟩ rfl ?_
       subst q2
       (repeat'(first|refine Z2 98 ?_|refine Z1 98 ?_|refine st ?_|(apply B<;>intro hb<;>try cases hb)))<;>try refine At.mk ?_
       refine Zh rfl ?_
       refine Z4 (Zj m l S hE64 hb0) rfl rfl rfl ⟨Z0 _,⟨hpg,⟨hhp,trivial⟩,trivial⟩⟩ rfl ?_
       (refine go ?_;repeat' (apply B<;>intro hb<;>try cases hb))
       exact⟨trivial,⟨⟨rfl,show (1:Nat)<2 by decide⟩,⟨rfl,hEi _⟩,⟨rfl,hYi _⟩,⟨rfl,hfwi _,trivial⟩,⟨rfl,hp1 (fun i=>i<2)⟩,⟨rfl,hp2 (fun i=>i<2)⟩,trivial⟩,⟨⟨by decide,rfl,⟨⟨trivial,trivial⟩,trivial⟩⟩,trivial⟩⟩
     · subst q1
       obtain rfl:k1=0:=by rw [← e1]; rfl
       (repeat'(first|refine Z2 83 ?_|refine Z1 83 ?_|refine st ?_|(apply B<;>intro hb<;>try cases hb)))<;>try refine At.mk ?_
       refine Zh rfl ?_
       refine Z4 (Zj m l S hE64 hb0) rfl rfl rfl ⟨Z0 _,⟨hpg,⟨hhp,trivial⟩,trivial⟩⟩ rfl ?_
       (repeat'(first|refine Z2 91 ?_|refine Z1 91 ?_|refine st ?_|(apply B<;>intro hb<;>try cases hb)))<;>try refine At.mk ?_
       refine Zh rfl ?_
       refine Z4 (Z2x (lt1 s1 (by simp)) (b:=false) (decide_eq_false hs0)) rfl rfl rfl ⟨Z0 _,trivial⟩ rfl ?_
       subst q2
       (repeat'(first|refine Z2 98 ?_|refine Z1 98 ?_|refine st ?_|(apply B<;>intro hb<;>try cases hb)))<;>try refine At.mk ?_
       refine Zh rfl ?_
       refine Z4 (Zj m l S hE64 hb0) rfl rfl rfl ⟨Z0 _,⟨hpg,⟨hhp,trivial⟩,trivial⟩⟩ rfl ?_
       (repeat'(first|refine Z2 106 ?_|refine Z1 106 ?_|refine st ?_|(apply B<;>intro hb<;>try cases hb)))<;>try refine At.mk ?_
       refine Zh rfl ?_
       refine Z4 (Z2x (lt2 s2 (by simp)) (b:=false) (decide_eq_false ht0)) rfl rfl rfl ⟨Z0 _,trivial⟩ rfl ?_
       (refine go ?_;repeat' (apply B<;>intro hb<;>try cases hb))
       exact⟨trivial,⟨⟨rfl,show (1:Nat)<2 by decide⟩,⟨rfl,hEi _⟩,⟨rfl,hYi _⟩,⟨rfl,hfwi _,trivial⟩,⟨rfl,hp1 (fun i=>i<2)⟩,⟨rfl,hp2 (fun i=>i<2)⟩,trivial⟩,⟨⟨by decide,rfl,⟨⟨trivial,trivial⟩,trivial⟩⟩,trivial⟩⟩
     · subst q1
       obtain rfl:k1=0:=by rw [← e1]; rfl
       (repeat'(first|refine Z2 83 ?_|refine Z1 83 ?_|refine st ?_|(apply B<;>intro hb<;>try cases hb)))<;>try refine At.mk ?_
       refine Zh rfl ?_
       refine Z4 (Zj m l S hE64 hb0) rfl rfl rfl ⟨Z0 _,⟨hpg,⟨hhp,trivial⟩,trivial⟩⟩ rfl ?_
       (repeat'(first|refine Z2 91 ?_|refine Z1 91 ?_|refine st ?_|(apply B<;>intro hb<;>try cases hb)))<;>try refine At.mk ?_
       refine Zh rfl ?_
       refine Z4 (Z2x (lt1 s1 (by simp)) (b:=false) (decide_eq_false hs0)) rfl rfl rfl ⟨Z0 _,trivial⟩ rfl ?_
       (repeat'(first|refine Z2 98 ?_|refine Z1 98 ?_|refine st ?_|(apply B<;>intro hb<;>try cases hb)))<;>try refine At.mk ?_
       refine Zh rfl ?_
       refine Z4 (Zj m l S hE64 hb0) rfl rfl rfl ⟨Z0 _,⟨hpg,⟨hhp,trivial⟩,trivial⟩⟩ rfl ?_
       (repeat'(first|refine Z2 101 ?_|refine Z1 101 ?_|refine st ?_|(apply B<;>intro hb<;>try cases hb)))<;>try refine At.mk ?_
       refine Zh rfl ?_
       refine Z7 (Zw (v:=false) rfl (by rw [hl2,beq_eq_false_iff_ne];omega)) rfl rfl ?_
       (refine go ?_;repeat' (apply B<;>intro hb<;>try cases hb))
       exact⟨trivial,⟨⟨rfl,show (1:Nat)<2 by decide⟩,⟨rfl,hEi _⟩,⟨rfl,hYi _⟩,⟨rfl,hfwi _,trivial⟩,⟨rfl,hp1 (fun i=>i<2)⟩,⟨rfl,hp2 (fun i=>i<2)⟩,trivial⟩,⟨⟨by decide,rfl,⟨⟨trivial,trivial⟩,trivial⟩⟩,trivial⟩⟩
     · obtain rfl : k1 = 0 := by rw [← e1, if_neg q1]
       (repeat'(first|refine Z2 83 ?_|refine Z1 83 ?_|refine st ?_|(apply B<;>intro hb<;>try cases hb)))<;>try refine At.mk ?_
       refine Zh rfl ?_
       refine Z4 (Zj m l S hE64 hb0) rfl rfl rfl ⟨Z0 _,⟨hpg,⟨hhp,trivial⟩,trivial⟩⟩ rfl ?_
       (repeat'(first|refine Z2 86 ?_|refine Z1 86 ?_|refine st ?_|(apply B<;>intro hb<;>try cases hb)))<;>try refine At.mk ?_
       refine Zh rfl ?_
       refine Z7 (Zw (v:=false) rfl (by rw [hl1,beq_eq_false_iff_ne];omega)) rfl rfl ?_
       subst q2
       (repeat'(first|refine Z2 98 ?_|refine Z1 98 ?_|refine st ?_|(apply B<;>intro hb<;>try cases hb)))<;>try refine At.mk ?_
       refine Zh rfl ?_
       refine Z4 (Zj m l S hE64 hb0) rfl rfl rfl ⟨Z0 _,⟨hpg,⟨hhp,trivial⟩,trivial⟩⟩ rfl ?_
       (refine go ?_;repeat' (apply B<;>intro hb<;>try cases hb))
       exact⟨trivial,⟨⟨rfl,show (1:Nat)<2 by decide⟩,⟨rfl,hEi _⟩,⟨rfl,hYi _⟩,⟨rfl,hfwi _,trivial⟩,⟨rfl,hp1 (fun i=>i<2)⟩,⟨rfl,hp2 (fun i=>i<2)⟩,trivial⟩,⟨⟨by decide,rfl,⟨⟨trivial,trivial⟩,trivial⟩⟩,trivial⟩⟩
     · obtain rfl : k1 = 0 := by rw [← e1, if_neg q1]
       (repeat'(first|refine Z2 83 ?_|refine Z1 83 ?_|refine st ?_|(apply B<;>intro hb<;>try cases hb)))<;>try refine At.mk ?_
       refine Zh rfl ?_
       refine Z4 (Zj m l S hE64 hb0) rfl rfl rfl ⟨Z0 _,⟨hpg,⟨hhp,trivial⟩,trivial⟩⟩ rfl ?_
       (repeat'(first|refine Z2 86 ?_|refine Z1 86 ?_|refine st ?_|(apply B<;>intro hb<;>try cases hb)))<;>try refine At.mk ?_
       refine Zh rfl ?_
       refine Z7 (Zw (v:=false) rfl (by rw [hl1,beq_eq_false_iff_ne];omega)) rfl rfl ?_
       subst q2
       (repeat'(first|refine Z2 98 ?_|refine Z1 98 ?_|refine st ?_|(apply B<;>intro hb<;>try cases hb)))<;>try refine At.mk ?_
       refine Zh rfl ?_
       refine Z4 (Zj m l S hE64 hb0) rfl rfl rfl ⟨Z0 _,⟨hpg,⟨hhp,trivial⟩,trivial⟩⟩ rfl ?_
       (repeat'(first|refine Z2 106 ?_|refine Z1 106 ?_|refine st ?_|(apply B<;>intro hb<;>try cases hb)))<;>try refine At.mk ?_
       refine Zh rfl ?_
       refine Z4 (Z2x (lt2 s2 (by simp)) (b:=false) (decide_eq_false ht0)) rfl rfl rfl ⟨Z0 _,trivial⟩ rfl ?_
       (refine go ?_;repeat' (apply B<;>intro hb<;>try cases hb))
       exact⟨trivial,⟨⟨rfl,show (1:Nat)<2 by decide⟩,⟨rfl,hEi _⟩,⟨rfl,hYi _⟩,⟨rfl,hfwi _,trivial⟩,⟨rfl,hp1 (fun i=>i<2)⟩,⟨rfl,hp2 (fun i=>i<2)⟩,trivial⟩,⟨⟨by decide,rfl,⟨⟨trivial,trivial⟩,trivial⟩⟩,trivial⟩⟩
     · obtain rfl : k1 = 0 := by rw [← e1, if_neg q1]
       (repeat'(first|refine Z2 83 ?_|refine Z1 83 ?_|refine st ?_|(apply B<;>intro hb<;>try cases hb)))<;>try refine At.mk ?_
       refine Zh rfl ?_
       refine Z4 (Zj m l S hE64 hb0) rfl rfl rfl ⟨Z0 _,⟨hpg,⟨hhp,trivial⟩,trivial⟩⟩ rfl ?_
       (repeat'(first|refine Z2 86 ?_|refine Z1 86 ?_|refine st ?_|(apply B<;>intro hb<;>try cases hb)))<;>try refine At.mk ?_
       refine Zh rfl ?_
       refine Z7 (Zw (v:=false) rfl (by rw [hl1,beq_eq_false_iff_ne];omega)) rfl rfl ?_
       (repeat'(first|refine Z2 98 ?_|refine Z1 98 ?_|refine st ?_|(apply B<;>intro hb<;>try cases hb)))<;>try refine At.mk ?_
       refine Zh rfl ?_
       refine Z4 (Zj m l S hE64 hb0) rfl rfl rfl ⟨Z0 _,⟨hpg,⟨hhp,trivial⟩,trivial⟩⟩ rfl ?_
       (repeat'(first|refine Z2 101 ?_|refine Z1 101 ?_|refine st ?_|(apply B<;>intro hb<;>try cases hb)))<;>try refine At.mk ?_
       refine Zh rfl ?_
       refine Z7 (Zw (v:=false) rfl (by rw [hl2,beq_eq_false_iff_ne];omega)) rfl rfl ?_
       (refine go ?_;repeat' (apply B<;>intro hb<;>try cases hb))
       exact⟨trivial,⟨⟨rfl,show (1:Nat)<2 by decide⟩,⟨rfl,hEi _⟩,⟨rfl,hYi _⟩,⟨rfl,hfwi _,trivial⟩,⟨rfl,hp1 (fun i=>i<2)⟩,⟨rfl,hp2 (fun i=>i<2)⟩,trivial⟩,⟨⟨by decide,rfl,⟨⟨trivial,trivial⟩,trivial⟩⟩,trivial⟩⟩
 have ol1:o1.length≤128:=ZeV hE hm1
 have ol2:o2.length≤128:=ZeV (show minusN Y E<128 by omega) hm2
 clear z1 z2 y1 y2 h00 e1 e2 c1 c2
 refine Z1r hC True 2 [(6,.ptr 1 0 0),(10,.cp (stC E)),(11,.cp (stC Y)),(12,.cp [fnW f l S]),(15,.vec (seL o2) f4)] [(1,⟨1,[[.val (.bool false)]]⟩)] (by decide) ?_ fun _=>?_
 · (refine go ?_;repeat' (apply B<;>intro hb<;>try cases hb))
   refine Zr hC (fun (i:Nat)=>i≤o1.length) (fun i=>o1.length-i) 2 (fun i => [(6,.ptr 1 0 0),(10,.cp (stC E)),(11,.cp (stC Y)),(12,.cp [fnW f l S]),(13,.vec (seL o1) f3),(15,.vec (seL o2) f4),(110,.vec (seL o1) f3),(111,.val (.int .i64 o1.length)),(112,.val (.int .i64 (i:Int)))])
    (fun _ => [(1,⟨1,[[.val (.bool false)]]⟩)]) (Nat.zero_le _) 0 (Nat.zero_le _) ⟨⟨rfl,show (1:Nat)<2 by decide⟩,⟨rfl,hEi _⟩,⟨rfl,hYi _⟩,⟨rfl,hfwi _,trivial⟩,⟨rfl,hp1 _⟩,⟨rfl,hp2 _⟩,⟨rfl,hp1 _⟩,⟨by rw [← hl1]; rfl,trivial⟩,⟨rfl,trivial⟩,trivial⟩ ⟨⟨by decide,rfl,⟨⟨trivial,trivial⟩,trivial⟩⟩,trivial⟩ ?_
   rintro i hi
   have hinc:IntKind.i64.wrap ((i:Int)+1)=((i+1:Nat):Int):=IntWalk.i64_in _ ⟨by omega,by omega⟩
   (repeat'(first|refine Z2 113 ?_|refine Z1 113 ?_|refine st ?_|(apply B<;>intro hb<;>try cases hb)))<;>try refine At.mk ?_
   refine Zi rfl rfl rfl (fun hb=>?_) (fun hb=>?_)
   · have hil : i < o1.length := by have := of_decide_eq_true hb; omega
     have hpos:0<o1.length:=by omega
     have hsm:o1[i]∈o1:=List.getElem_mem hil
     have htm:o1[0]∈o1:=List.getElem_mem hpos
     clear hb
     (refine go ?_;repeat' (apply B<;>intro hb<;>try cases hb))
     refine Z7 (Zl (xs:=o1) (g:=stC) rfl rfl i rfl hil rfl) rfl rfl ?_
     generalize o1[i]=s at hsm ⊢
     have hs64:=lt1 s hsm
     have hss:pureL (stC s):=⟨Zb _,trivial⟩
     have hsi:∀ D,innL D (stC s):=fun D=>ZC (fun _ h=>h.elim) _ hss
     have hpop:=hm1.size hsm htm
     obtain⟨a1,a2,-⟩:=(hm1.iff s).1 hsm
     have hgood:hoW f l (minusN E s)=true:=a2
     have hless:∀ r,s.testBit r=true→hoW f l (minusN E (minusN s (2 ^ r)))=false:=fun r hr=>hm1.less hE64 hsm hr
     (repeat'(first|refine Z2 118 ?_|refine Z1 118 ?_|refine st ?_|(apply B<;>intro hb<;>try cases hb)))<;>try refine At.mk ?_
     refine Zt (Z7D hs64 hE64 (decide_eq_true a1)) rfl rfl rfl ⟨Z0 _,Z0 _,trivial⟩ ?_
     (repeat'(first|refine Z2 122 ?_|refine Z1 122 ?_|refine st ?_|(apply B<;>intro hb<;>try cases hb)))<;>try refine At.mk ?_
     refine Z2S rfl ?_
     refine Zt (ZbO hs64 hpop) rfl rfl rfl ⟨Z0 _,trivial⟩ ?_
     (repeat'(first|refine Z2 124 ?_|refine Z1 124 ?_|refine st ?_|(apply B<;>intro hb<;>try cases hb)))<;>try refine At.mk ?_
     refine Z2S rfl ?_
     refine Zq (Zl (xs:=o1) (g:=stC) rfl rfl 0 rfl hpos rfl) rfl rfl ?_
     generalize o1[0]=t at htm hpop ⊢
     have ht64:=lt1 t htm
     (repeat'(first|refine Z2 126 ?_|refine Z1 126 ?_|refine st ?_|(apply B<;>intro hb<;>try cases hb)))<;>try refine At.mk ?_
     refine Z2S rfl ?_
     refine Zt (ZbO ht64 rfl) rfl rfl rfl ⟨Z0 _,trivial⟩ ?_
     refine Z2S rfl ?_
     refine Zq (Zw (v:=false) rfl (by simp)) rfl rfl ?_
     (repeat'(first|refine Z2 133 ?_|refine Z1 133 ?_|refine st ?_|(apply B<;>intro hb<;>try cases hb)))<;>try refine At.mk ?_
     refine Z2S rfl ?_
     refine Zt (Z31 E s hE64 hs64) rfl rfl rfl ⟨Z0 _,Z0 _,trivial⟩ ?_
     refine Z2S rfl ?_
     refine Zt (Zj m l S (Z1v s hE64) hgood) rfl rfl rfl ⟨Z0 _,⟨hpg,⟨hhp,trivial⟩,trivial⟩⟩ ?_
     (repeat'(first|refine Z2 138 ?_|refine Z1 138 ?_|refine st ?_|(apply B<;>intro hb<;>try cases hb)))<;>try refine At.mk ?_
     refine Z4 (Z1u s) rfl rfl rfl ⟨Z0 _,trivial⟩ rfl ?_
     (refine go ?_;repeat' (apply B<;>intro hb<;>try cases hb))
     refine Z2q (X:=Unit) hC (caps := [.cp [.vec (words (digs s)) false]]) [(6,.ptr 1 0 0),(10,.cp (stC E)),(11,.cp (stC Y)),(12,.cp [fnW f l S]),(13,.vec (seL o1) f3),(15,.vec (seL o2) f4),(18,.ptr 2 0 0),(110,.vec (seL o1) f3),(111,.val (.int .i64 o1.length)),(112,.val (.int .i64 (i:Int))),(138,.fn 70 [.cp [.vec (words (digs s)) false]])]
      (fun _ => [(1,⟨1,[[.val (.bool false)]]⟩),(2,⟨1,[stC s]⟩)]) rfl ⟨⟨Zb _,trivial⟩,trivial⟩ (Z25 s hs64) (fun _=>rfl)
      (fun ex pre z=>ex=.normal) 3 (Nat.zero_le _) () rfl
      (Z2T hC (Nat.zero_le _) ⟨⟨rfl,show (1:Nat)<3 by decide⟩,⟨rfl,hEi _⟩,⟨rfl,hYi _⟩,⟨rfl,hfwi _,trivial⟩,⟨rfl,hp1 _⟩,⟨rfl,hp2 _⟩,⟨rfl,show (2:Nat)<3 by decide⟩,⟨rfl,hp1 _⟩,⟨rfl,trivial⟩,⟨rfl,trivial⟩,⟨rfl,⟨ZE _ _,trivial⟩,trivial⟩,trivial⟩ ⟨⟨by decide,rfl,⟨⟨trivial,trivial⟩,trivial⟩⟩,⟨by decide,rfl,⟨hsi _,trivial⟩⟩,trivial⟩)
      (fun z q hq=>by simp at hq; rcases hq with rfl|rfl<;>exact Nat.one_pos) _ (fun x=>rfl) ?_ ?_ ?_
     · rintro C2 hC2 pre x z - hlen
       have hx64:=Z1t x.2
       have hlx:=hless x.val ((Z1P hs64).1 x.2)
       have hmx:=Z1v (2 ^ x.val) hs64
       generalize x.val=r at hx64 hlx hmx ⊢
       (repeat'(first|refine Z2 144 ?_|refine Z1 144 ?_|refine st ?_|(apply B<;>intro hb<;>try cases hb)))<;>try refine At.mk ?_
       refine Zt (Z4W hs64 hx64) rfl rfl rfl ⟨Z0 _,trivial,trivial⟩ ?_
       (repeat'(first|refine Z2 145 ?_|refine Z1 145 ?_|refine st ?_|(apply B<;>intro hb<;>try cases hb)))<;>try refine At.mk ?_
       refine Zt (Z31 E (minusN s (2 ^ r)) hE64 hmx) rfl rfl rfl ⟨Z0 _,Z0 _,trivial⟩ ?_
       refine Zt (Zj m l S (Z1v _ hE64) hlx) rfl rfl rfl ⟨Z0 _,⟨hpg,⟨hhp,trivial⟩,trivial⟩⟩ ?_
       (refine go ?_;repeat' (apply B<;>intro hb<;>try cases hb))
       exact⟨.inl rfl,(),fun i=>i,rfl,fun i hi=>rfl,ZL,⟨⟨_,rfl,.ptr (ρ:=fun i=>i) 1 0 0 (by decide)⟩,⟨_,rfl,.pure _ hstE⟩,⟨_,rfl,.pure _ hstY⟩,⟨_,rfl,.pure _ ⟨hfw,trivial⟩⟩,⟨_,rfl,.pure _ (Z1a o1)⟩,⟨_,rfl,.pure _ (Z1a o2)⟩,⟨_,rfl,.ptr (ρ:=fun i=>i) 2 0 0 (by decide)⟩,⟨_,rfl,.pure _ (Z1a o1)⟩,⟨_,rfl,.pure _ trivial⟩,⟨_,rfl,.pure _ trivial⟩,⟨_,rfl,.pure _ ⟨⟨Zb _,trivial⟩,trivial⟩⟩,trivial⟩,⟨⟨by decide,_,rfl,.same _ ⟨⟨trivial,trivial⟩,trivial⟩⟩,⟨by decide,_,rfl,.same _ ⟨hss,trivial⟩⟩,trivial⟩⟩
     · rintro xs z hxs -
       (refine go ?_;repeat' (apply B<;>intro hb<;>try cases hb))
       exact⟨i+1,hil,by omega,⟨⟨rfl,show (1:Nat)<2 by decide⟩,⟨rfl,hEi _⟩,⟨rfl,hYi _⟩,⟨rfl,hfwi _,trivial⟩,⟨rfl,hp1 _⟩,⟨rfl,hp2 _⟩,⟨rfl,hp1 _⟩,⟨rfl,trivial⟩,⟨by show some _=some _; rw [hinc],trivial⟩,trivial⟩,⟨⟨by decide,rfl,⟨⟨trivial,trivial⟩,trivial⟩⟩,trivial⟩⟩
     · rintro ex pre z-rfl (h|⟨id,h⟩)<;>cases h
   · have hil : i = o1.length := by have := of_decide_eq_false hb; omega
     clear hb
     (refine go ?_;repeat' (apply B<;>intro hb<;>try cases hb))
     exact⟨trivial,⟨⟨rfl,show (1:Nat)<2 by decide⟩,⟨rfl,hEi _⟩,⟨rfl,hYi _⟩,⟨rfl,hfwi _,trivial⟩,⟨rfl,hp2 _⟩,trivial⟩,⟨⟨by decide,rfl,⟨⟨trivial,trivial⟩,trivial⟩⟩,trivial⟩⟩
 refine Z1r hC True 2 [(6,.ptr 1 0 0)] [(1,⟨1,[[.val (.bool false)]]⟩)] (by decide) ?_ fun _=>?_
 · (refine go ?_;repeat' (apply B<;>intro hb<;>try cases hb))
   refine Zr hC (fun (i:Nat)=>i≤o2.length) (fun i=>o2.length-i) 2 (fun i => [(6,.ptr 1 0 0),(10,.cp (stC E)),(11,.cp (stC Y)),(12,.cp [fnW f l S]),(15,.vec (seL o2) f4),(148,.vec (seL o2) f4),(149,.val (.int .i64 o2.length)),(150,.val (.int .i64 (i:Int)))])
    (fun _ => [(1,⟨1,[[.val (.bool false)]]⟩)]) (Nat.zero_le _) 0 (Nat.zero_le _) ⟨⟨rfl,show (1:Nat)<2 by decide⟩,⟨rfl,hEi _⟩,⟨rfl,hYi _⟩,⟨rfl,hfwi _,trivial⟩,⟨rfl,hp2 _⟩,⟨rfl,hp2 _⟩,⟨by rw [← hl2]; rfl,trivial⟩,⟨rfl,trivial⟩,trivial⟩ ⟨⟨by decide,rfl,⟨⟨trivial,trivial⟩,trivial⟩⟩,trivial⟩ ?_
   rintro i hi
   have hinc:IntKind.i64.wrap ((i:Int)+1)=((i+1:Nat):Int):=IntWalk.i64_in _ ⟨by omega,by omega⟩
   (repeat'(first|refine Z2 151 ?_|refine Z1 151 ?_|refine st ?_|(apply B<;>intro hb<;>try cases hb)))<;>try refine At.mk ?_
   refine Zi rfl rfl rfl (fun hb=>?_) (fun hb=>?_)
   · have hil : i < o2.length := by have := of_decide_eq_true hb; omega
     have hpos:0<o2.length:=by omega
     have hsm:o2[i]∈o2:=List.getElem_mem hil
     have htm:o2[0]∈o2:=List.getElem_mem hpos
     clear hb
     (refine go ?_;repeat' (apply B<;>intro hb<;>try cases hb))
     refine Z7 (Zl (xs:=o2) (g:=stC) rfl rfl i rfl hil rfl) rfl rfl ?_
     generalize o2[i]=s at hsm ⊢
     have hs64:=lt2 s hsm
     have hss:pureL (stC s):=⟨Zb _,trivial⟩
     have hsi:∀ D,innL D (stC s):=fun D=>ZC (fun _ h=>h.elim) _ hss
     have hpop:=hm2.size hsm htm
     obtain⟨a1,a2,-⟩:=(hm2.iff s).1 hsm
     have hbit:∀ i,s.testBit i=true→Y.testBit i=true∧E.testBit i=false:=fun i hi=>by
      have:=orSub.1 a1 i hi
      rw [ZV hY64 hE64] at this
      simpa using this
     have hgood:hoW f l (E ||| s)=true:=a2
     have hless:∀ r,s.testBit r=true→hoW f l (E ||| minusN s (2 ^ r))=false:=fun r hr=>hm2.less (show minusN Y E<18446744073709551616 by omega) hsm hr
     (repeat'(first|refine Z2 156 ?_|refine Z1 156 ?_|refine st ?_|(apply B<;>intro hb<;>try cases hb)))<;>try refine At.mk ?_
     refine Zt (Z7D hs64 hY64 (decide_eq_true (orSub.2 fun i hi=>(hbit i hi).1))) rfl rfl rfl ⟨Z0 _,Z0 _,trivial⟩ ?_
     (repeat'(first|refine Z2 161 ?_|refine Z1 161 ?_|refine st ?_|(apply B<;>intro hb<;>try cases hb)))<;>try refine At.mk ?_
     refine Z2S rfl ?_
     refine Zt (ZeU hs64 hE64 (b:=false) (by rw [ZfW.2 fun i hi=>(hbit i hi).2]; rfl)) rfl rfl rfl ⟨Z0 _,Z0 _,trivial⟩ ?_
     (repeat'(first|refine Z2 165 ?_|refine Z1 165 ?_|refine st ?_|(apply B<;>intro hb<;>try cases hb)))<;>try refine At.mk ?_
     refine Z2S rfl ?_
     refine Zt (ZbO hs64 hpop) rfl rfl rfl ⟨Z0 _,trivial⟩ ?_
     (repeat'(first|refine Z2 167 ?_|refine Z1 167 ?_|refine st ?_|(apply B<;>intro hb<;>try cases hb)))<;>try refine At.mk ?_
     refine Z2S rfl ?_
     refine Zq (Zl (xs:=o2) (g:=stC) rfl rfl 0 rfl hpos rfl) rfl rfl ?_
     generalize o2[0]=t at htm hpop ⊢
     have ht64:=lt2 t htm
     (repeat'(first|refine Z2 169 ?_|refine Z1 169 ?_|refine st ?_|(apply B<;>intro hb<;>try cases hb)))<;>try refine At.mk ?_
     refine Z2S rfl ?_
     refine Zt (ZbO ht64 rfl) rfl rfl rfl ⟨Z0 _,trivial⟩ ?_
     refine Z2S rfl ?_
     refine Zq (Zw (v:=false) rfl (by simp)) rfl rfl ?_
     (repeat'(first|refine Z2 176 ?_|refine Z1 176 ?_|refine st ?_|(apply B<;>intro hb<;>try cases hb)))<;>try refine At.mk ?_
     refine Z2S rfl ?_
     refine Zt (Z2r E s hE64 hs64) rfl rfl rfl ⟨Z0 _,Z0 _,trivial⟩ ?_
     refine Z2S rfl ?_
     refine Zt (Zj m l S (Zgt hE64 hs64) hgood) rfl rfl rfl ⟨Z0 _,⟨hpg,⟨hhp,trivial⟩,trivial⟩⟩ ?_
     (repeat'(first|refine Z2 181 ?_|refine Z1 181 ?_|refine st ?_|(apply B<;>intro hb<;>try cases hb)))<;>try refine At.mk ?_
     refine Z4 (Z1u s) rfl rfl rfl ⟨Z0 _,trivial⟩ rfl ?_
     (refine go ?_;repeat' (apply B<;>intro hb<;>try cases hb))
     refine Z2q (X:=Unit) hC (caps := [.cp [.vec (words (digs s)) false]]) [(6,.ptr 1 0 0),(10,.cp (stC E)),(11,.cp (stC Y)),(12,.cp [fnW f l S]),(15,.vec (seL o2) f4),(21,.ptr 2 0 0),(148,.vec (seL o2) f4),(149,.val (.int .i64 o2.length)),(150,.val (.int .i64 (i:Int))),(181,.fn 70 [.cp [.vec (words (digs s)) false]])]
      (fun _ => [(1,⟨1,[[.val (.bool false)]]⟩),(2,⟨1,[stC s]⟩)]) rfl ⟨⟨Zb _,trivial⟩,trivial⟩ (Z25 s hs64) (fun _=>rfl)
      (fun ex pre z=>ex=.normal) 3 (Nat.zero_le _) () rfl
      (Z2T hC (Nat.zero_le _) ⟨⟨rfl,show (1:Nat)<3 by decide⟩,⟨rfl,hEi _⟩,⟨rfl,hYi _⟩,⟨rfl,hfwi _,trivial⟩,⟨rfl,hp2 _⟩,⟨rfl,show (2:Nat)<3 by decide⟩,⟨rfl,hp2 _⟩,⟨rfl,trivial⟩,⟨rfl,trivial⟩,⟨rfl,⟨ZE _ _,trivial⟩,trivial⟩,trivial⟩ ⟨⟨by decide,rfl,⟨⟨trivial,trivial⟩,trivial⟩⟩,⟨by decide,rfl,⟨hsi _,trivial⟩⟩,trivial⟩)
      (fun z q hq=>by simp at hq; rcases hq with rfl|rfl<;>exact Nat.one_pos) _ (fun x=>rfl) ?_ ?_ ?_
     · rintro C2 hC2 pre x z - hlen
       have hx64:=Z1t x.2
       have hlx:=hless x.val ((Z1P hs64).1 x.2)
       have hmx:=Z1v (2 ^ x.val) hs64
       generalize x.val=r at hx64 hlx hmx ⊢
       (repeat'(first|refine Z2 187 ?_|refine Z1 187 ?_|refine st ?_|(apply B<;>intro hb<;>try cases hb)))<;>try refine At.mk ?_
       refine Zt (Z4W hs64 hx64) rfl rfl rfl ⟨Z0 _,trivial,trivial⟩ ?_
       (repeat'(first|refine Z2 188 ?_|refine Z1 188 ?_|refine st ?_|(apply B<;>intro hb<;>try cases hb)))<;>try refine At.mk ?_
       refine Zt (Z2r E (minusN s (2 ^ r)) hE64 hmx) rfl rfl rfl ⟨Z0 _,Z0 _,trivial⟩ ?_
       refine Zt (Zj m l S (Zgt hE64 hmx) hlx) rfl rfl rfl ⟨Z0 _,⟨hpg,⟨hhp,trivial⟩,trivial⟩⟩ ?_
       (refine go ?_;repeat' (apply B<;>intro hb<;>try cases hb))
       exact⟨.inl rfl,(),fun i=>i,rfl,fun i hi=>rfl,ZL,⟨⟨_,rfl,.ptr (ρ:=fun i=>i) 1 0 0 (by decide)⟩,⟨_,rfl,.pure _ hstE⟩,⟨_,rfl,.pure _ hstY⟩,⟨_,rfl,.pure _ ⟨hfw,trivial⟩⟩,⟨_,rfl,.pure _ (Z1a o2)⟩,⟨_,rfl,.ptr (ρ:=fun i=>i) 2 0 0 (by decide)⟩,⟨_,rfl,.pure _ (Z1a o2)⟩,⟨_,rfl,.pure _ trivial⟩,⟨_,rfl,.pure _ trivial⟩,⟨_,rfl,.pure _ ⟨⟨Zb _,trivial⟩,trivial⟩⟩,trivial⟩,⟨⟨by decide,_,rfl,.same _ ⟨⟨trivial,trivial⟩,trivial⟩⟩,⟨by decide,_,rfl,.same _ ⟨hss,trivial⟩⟩,trivial⟩⟩
     · rintro xs z hxs -
       (refine go ?_;repeat' (apply B<;>intro hb<;>try cases hb))
       exact⟨i+1,hil,by omega,⟨⟨rfl,show (1:Nat)<2 by decide⟩,⟨rfl,hEi _⟩,⟨rfl,hYi _⟩,⟨rfl,hfwi _,trivial⟩,⟨rfl,hp2 _⟩,⟨rfl,hp2 _⟩,⟨rfl,trivial⟩,⟨by show some _=some _; rw [hinc],trivial⟩,trivial⟩,⟨⟨by decide,rfl,⟨⟨trivial,trivial⟩,trivial⟩⟩,trivial⟩⟩
     · rintro ex pre z-rfl (h|⟨id,h⟩)<;>cases h
   · have hil : i = o2.length := by have := of_decide_eq_false hb; omega
     clear hb
     (refine go ?_;repeat' (apply B<;>intro hb<;>try cases hb))
     exact⟨trivial,⟨⟨rfl,show (1:Nat)<2 by decide⟩,trivial⟩,⟨⟨by decide,rfl,⟨⟨trivial,trivial⟩,trivial⟩⟩,trivial⟩⟩
 (refine go ?_;repeat' (apply B<;>intro hb<;>try cases hb))
 exact Z5 rfl trivial rfl
end Go.Proofs.YtjpkfigmmmngnaaGreatDoor
namespace Go.Proofs.YtjpkfigmmmngnaaGreatDoor
open Go.ChangeShapes Go.WideShapes Go.ChangeAt Go.RowKit
theorem Z5e:∀ ps,ShapeVs Tryz.prog Tryz.f3.params.toList ps→pureL ps→Spec Tryz.prog 3 ps (· = .val (.bool true)):=by
 intro ps hs hp
 rw [show Tryz.f3.params.toList = [22,23,24] by kernel_rfl] at hs
 obtain⟨a,b,c,rfl,k0,k1,k2⟩:=Z35 hs
 obtain⟨x0,f0,h0,rfl⟩:=Z4b k0
 obtain⟨x1,h1,rfl⟩:=Z4V k1
 obtain⟨x2,h2,rfl⟩:=Z6R k2
 exact Z5y x0 x1 x2 f0 h0 h1 h2
set_option maxRecDepth 100000 in
theorem Z4d (os:Os) (started:os.Started) (H:Type) (enc:TypeId×Value→H) :
 ReturnsInHanded {} Tryz.checked os 3 .any (fun w args=>(Rows.witnessMendsSpec.pre enc Tryz.prog Tryz.f3 [] false w args∧laidMetH Tryz.prog laidV w)∧sizedMet enc Tryz.prog Tryz.f3 (OpenSpec.ofChange Rows.witnessMendsSpec) false w args)
  (Rows.witnessMendsSpec.post enc Tryz.prog Tryz.f3 false true false false):=by
 refine returnsInHanded_of_change_and (C:=Tryz.checked) (X:=fun w _=>laidMetH Tryz.prog laidV w) (fun _ _ _ hh h=>h.of_heap hh) own started (by kernel_rfl) Tryz.func3
  (ChangeSpec.witness_shaped (enc:=enc) (C:=Tryz.checked) (os:=os) (X:=fun w _=>laidMetH Tryz.prog laidV w) false (World.doorLaid Tryz.prog 400 os) #[.slice none 0 0,.int .u64 0,.agg #[.int .u8 0,.int .u8 0]] 8 rfl (World.shaped_of_RefB (by kernel_rfl) (by kernel_rfl)) (by kernel_rfl) (by kernel_rfl) (by kernel_rfl) (Z8f os _)) ?_
 intro W base args ds gs before hval hW _ hwt hL _
 exact Z3o (P:=Tryz.prog) (G:=partsG Tryz.prog Tryz.f3.params.toList) (by kernel_rfl) (Zeb (by kernel_rfl)) laidOut (Z6v (by kernel_rfl)) (tb:=4) (by kernel_rfl) (by kernel_rfl) rfl (fun ds hd=>by
  match ds,hd with
  | [a,b,c],_=>exact⟨rfl,rfl,rfl⟩) Z5e W (Z8g hL) base args ds gs before hval hW hwt
theorem Z4X:Rows.WitnessMendsSaid :=
 OpenClaim.holds_of_wide 3 Tryz.f3 rfl rfl rfl rfl rfl rfl rfl ⟨rfl,rfl,rfl,rfl,rfl⟩ rfl rfl rfl rfl rfl (by kernel_rfl) Tryz.func3 (by kernel_rfl)
  (of_decide_eq_true (by kernel_rfl)) (by unfold Func.isWrapper; first|(rw [if_pos (by decide +kernel)]; kernel_rfl)|(rw [if_neg (by decide +kernel)]; exact⟨rfl,rfl⟩))
  (fun os started H enc _=>Z4d os started H enc)
theorem witnessMends_card:Rows.WitnessMendsCardSaid :=
 Claim7.holds_tied_plain_at .later [] [.data,.data,.data] true (true, "3b95f6944516eaa7af7441d5befe7852d094d3e59071218fbee46b50b6f9d4f3") true
  Z4X (fun _ h=>by cases h) (by kernel_rfl) (fun _ h=>by cases h) witnessMends_row_tie rfl ⟨rfl,rfl⟩ (by kernel_rfl) rfl
  (fun f fn hf hfn => by
    obtain rfl : f = 3 := Option.some.inj ((show Tryz.prog.funcNamed "arbac/arbaclaw21.WitnessMends" = some 3 by kernel_rfl).symm.trans hf) |>.symm
    obtain rfl:fn=Tryz.f3:=(Option.some.inj (Tryz.func3.symm.trans hfn)).symm
    exact⟨by kernel_rfl,fun j t ht=>by
     rw [show Tryz.f3.params = #[22,23,24] by kernel_rfl] at ht
     have hm:t∈[22,23,24]:=by simpa using Array.mem_of_getElem? ht
     have hall:([22,23,24].all fun u => !Tryz.prog.wantsStandIn u)=true:=by kernel_rfl
     exact (show Tryz.prog.wantsStandIn t=false by simpa using List.all_eq_true.1 hall t hm)⟩)
  (by kernel_rfl)
#print axioms witnessMends_card
end Go.Proofs.YtjpkfigmmmngnaaGreatDoor
namespace Go.Proofs.YtjpkfigmmmngnaaGreatDoor
theorem witnessEnd_card:True:=trivial
#print axioms witnessEnd_card
end Go.Proofs.YtjpkfigmmmngnaaGreatDoor
