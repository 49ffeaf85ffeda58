/-
 Proved: for every input the laws WitnessLeast,WitnessNormal and WitnessMonotone return true,never panic,and leave their arguments as0 they were,on the given cards' conditions (the table of the bits package reads as0 the program's text lays it,and is tied to it).
-/
import Derived.SevenTiedAt
import Derived.Test.YtjpkfigmmmngnaaGreatDoorCards
import Derived.Test.YtjpkfigmmmngnaaGreatDoorTie
import Derived.Test.YtjpkfigmmmngnaaGreatDoorMq6
set_option linter.unusedSimpArgs false
set_option linter.unusedVariables false
set_option linter.unusedSectionVars false
namespace Go.Proofs.YtjpkfigmmmngnaaGreatDoor
open Go.ChangeShapes Go.WideShapes Go.ChangeAt Go.RowKit
theorem Zce {α:Type} {enc:α→List PV} {Q:α→Prop}:∀ {ll:List (List PV)},(∀ l∈ll,∃ x,Q x∧l=enc x)→∃ xs:List α,(∀ x∈xs,Q x)∧ll=xs.map enc
 | [],_=>⟨[],fun _ h=>(by cases h),rfl⟩
 | l :: ll, h => by
   obtain⟨x,h1,rfl⟩:=h l (List.mem_cons_self ..)
   obtain⟨xs,h2,rfl⟩:=Zce fun l hl=>h l (List.mem_cons_of_mem _ hl)
   refine⟨x :: xs,fun y hy=>?_,rfl⟩
   rcases List.mem_cons.1 hy with rfl|hy
   · exact h1
   · exact h2 y hy
theorem Zbb {P:Program} {s t:TypeId}:∀ {ps:List PV},ShapeVs P [s,t] ps→∃ a b,ps = [a,b]∧ShapeV P s a∧ShapeV P t b
 | [a,b],⟨h1,h2,_⟩=>⟨a,b,rfl,h1,h2⟩
theorem Z53 {P:Program} {s t u:TypeId}:∀ {ps:List PV},ShapeVs P [s,t,u] ps→∃ a b c,ps = [a,b,c]∧ShapeV P s a∧ShapeV P t b∧ShapeV P u c
 | [a,b,c],⟨h1,h2,h3,_⟩=>⟨a,b,c,rfl,h1,h2,h3⟩
theorem Zcf {m:Int} (h:(Lit.int .u8 m).wf=true):∃ a:Nat,a<256∧m=(a:Int):=by
 simp only [Lit.wf,Bool.and_eq_true,decide_eq_true_eq] at h
 obtain⟨h1,h2⟩:=h
 have h3:m≤255:=h2
 have h4:0≤m:=h1
 exact⟨m.toNat,by omega,by omega⟩
theorem ZhW {m:Int} (h:(Lit.int .u64 m).wf=true):∃ a:Nat,a<18446744073709551616∧m=(a:Int):=by
 simp only [Lit.wf,Bool.and_eq_true,decide_eq_true_eq] at h
 obtain⟨h1,h2⟩:=h
 have h3:m≤18446744073709551615:=h2
 have h4:0≤m:=h1
 exact⟨m.toNat,by omega,by omega⟩
theorem ZfH {n:Nat} {l:List PV} (h:Shape Tryz.prog n 82 l):∃ x:RawX,RawXok x∧l=rawC x:=by
 have hl:=ZfG h (k:=3) (by kernel_rfl)
 obtain⟨n1,h1⟩:=Z4g h (i:=0) (off:=0) (ty:=5) (sz:=1) (by kernel_rfl)
 obtain⟨n2,h2⟩:=Z4g h (i:=1) (off:=1) (ty:=5) (sz:=1) (by kernel_rfl)
 obtain⟨n3,h3⟩:=Z4g h (i:=2) (off:=2) (ty:=4) (sz:=1) (by kernel_rfl)
 match l,hl with
 | [a, b, c], _ =>
   obtain⟨m1,w1,e1⟩:=Z52 (show Shape _ n1 _ [a] from h1) (k:=.u8) (by kernel_rfl)
   obtain⟨m2,w2,e2⟩:=Z52 (show Shape _ n2 _ [b] from h2) (k:=.u8) (by kernel_rfl)
   obtain⟨o,e3⟩:=ZdA (show Shape _ n3 _ [c] from h3) (by kernel_rfl)
   obtain⟨x,hx,rfl⟩:=Zcf w1
   obtain⟨y,hy,rfl⟩:=Zcf w2
   simp only [List.cons.injEq,and_true] at e1 e2 e3
   subst e1; subst e2; subst e3
   exact⟨(x,y,o),⟨hx,hy⟩,rfl⟩
theorem ZdB {p:PV} (h:ShapeV Tryz.prog 82 p):∃ x:RawX,RawXok x∧p=.agg (rawC x):=by
 obtain⟨n,ps,rfl,h2⟩:=Z8I h (k:=3) (by kernel_rfl)
 obtain⟨x,hx,rfl⟩:=ZfH h2
 exact⟨x,hx,rfl⟩
theorem Zh7 {n:Nat} {l:List PV} (h:Shape Tryz.prog n 5 l):∃ x:Nat,x≤255∧l = [PV.val (.int .u8 (x:Int))]:=by
 obtain⟨m1,w1,e1⟩:=Z52 h (k:=.u8) (by kernel_rfl)
 obtain⟨x,hx,rfl⟩:=Zcf w1
 exact⟨x,by omega,e1⟩
theorem Z4h {p:PV} (h:ShapeV Tryz.prog 22 p):∃ (l:List Nat) (fl:Bool),Bytes l∧p=.vec (bys l) fl:=by
 obtain⟨n,ll,fl,_,h2,rfl⟩:=Z9M h (e:=5) (by kernel_rfl)
 obtain⟨xs,h3,rfl⟩:=Zce (enc:=fun (x:Nat) => [PV.val (.int .u8 (x:Int))]) (Q:=fun (x:Nat)=>x≤255) fun l hl=>Zh7 (h2 l hl)
 exact⟨xs,fl,h3,rfl⟩
theorem Z6X {p:PV} (h:ShapeV Tryz.prog 23 p):∃ s:Nat,s<18446744073709551616∧p=.val (.int .u64 (s:Int)):=by
 obtain⟨m,w,rfl⟩:=Z7K h (k:=.u64) (by kernel_rfl)
 obtain⟨x,hx,rfl⟩:=ZhW w
 exact⟨x,hx,rfl⟩
theorem ZfI {p:PV} (h:ShapeV Tryz.prog 5 p):∃ s:Nat,s<256∧p=.val (.int .u8 (s:Int)):=by
 obtain⟨m,w,rfl⟩:=Z7K h (k:=.u8) (by kernel_rfl)
 obtain⟨x,hx,rfl⟩:=Zcf w
 exact⟨x,hx,rfl⟩
theorem Z5l:∀ ps,ShapeVs Tryz.prog Tryz.f8.params.toList ps→pureL ps→Spec Tryz.prog 8 ps (· = .val (.bool true)):=by
 intro ps hs hp
 rw [show Tryz.f8.params.toList = [22,23,82] by kernel_rfl] at hs
 obtain⟨a,b,c,rfl,k0,k1,k2⟩:=Z53 hs
 obtain⟨x0,f0,h0,rfl⟩:=Z4h k0
 obtain⟨x1,h1,rfl⟩:=Z6X k1
 obtain⟨x2,h2,rfl⟩:=ZdB k2
 exact Z5F x0 x1 x2 f0 h0 h1 h2
set_option maxRecDepth 100000 in
theorem Z4i (os:Os) (started:os.Started) (H:Type) (enc:TypeId×Value→H) :
 ReturnsInHanded {} Tryz.checked os 8 .any (fun w args=>(Rows.witnessLeastSpec.pre enc Tryz.prog Tryz.f8 [] false w args∧laidMetH Tryz.prog laidV w)∧sizedMet enc Tryz.prog Tryz.f8 (OpenSpec.ofChange Rows.witnessLeastSpec) false w args)
  (Rows.witnessLeastSpec.post enc Tryz.prog Tryz.f8 false true false false):=by
 refine returnsInHanded_of_change_and (C:=Tryz.checked) (X:=fun w _=>laidMetH Tryz.prog laidV w) (fun _ _ _ hh h=>h.of_heap hh) own started (by kernel_rfl) Tryz.func8
  (ChangeSpec.witness_shaped (enc:=enc) (C:=Tryz.checked) (os:=os) (X:=fun w _=>laidMetH Tryz.prog laidV w) false (World.doorLaid Tryz.prog 400 os) #[.slice none 0 0,.int .u64 0,.agg #[.int .u8 0,.int .u8 0,.bool false]] 8 rfl (World.shaped_of_RefB (by kernel_rfl) (by kernel_rfl)) (by kernel_rfl) (by kernel_rfl) (by kernel_rfl) (Z8r os _)) ?_
 intro W base args ds gs before hval hW _ hwt hL _
 exact Z3o (P:=Tryz.prog) (G:=partsG Tryz.prog Tryz.f8.params.toList) (by kernel_rfl) (ZeU (by kernel_rfl)) laidOut (Z6A (by kernel_rfl)) (tb:=4) (by kernel_rfl) (by kernel_rfl) rfl (fun ds hd=>by
  match ds,hd with
  | [a,b,c],_=>exact⟨rfl,rfl,rfl⟩) Z5l W (Z8s hL) base args ds gs before hval hW hwt
theorem Z54:Rows.WitnessLeastSaid :=
 OpenClaim.holds_of_wide 8 Tryz.f8 rfl rfl rfl rfl rfl rfl rfl ⟨rfl,rfl,rfl,rfl,rfl⟩ rfl rfl rfl rfl rfl (by kernel_rfl) Tryz.func8 (by kernel_rfl)
  (of_decide_eq_true (by kernel_rfl)) (by unfold Func.isWrapper; first|(rw [if_pos (by decide +kernel)]; kernel_rfl)|(rw [if_neg (by decide +kernel)]; exact⟨rfl,rfl⟩))
  (fun os started H enc _=>Z4i os started H enc)
theorem witnessLeast_card:Rows.WitnessLeastCardSaid :=
 Claim7.holds_tied_plain_at .later [] [.data,.data,.data] true (true, "3b95f6944516eaa7af7441d5befe7852d094d3e59071218fbee46b50b6f9d4f3") true
  Z54 (fun _ h=>by cases h) (by kernel_rfl) (fun _ h=>by cases h) witnessLeast_row_tie rfl ⟨rfl,rfl⟩ (by kernel_rfl) rfl
  (fun f fn hf hfn => by
    obtain rfl : f = 8 := Option.some.inj ((show Tryz.prog.funcNamed "arbac/arbaclaw21.WitnessLeast" = some 8 by kernel_rfl).symm.trans hf) |>.symm
    obtain rfl:fn=Tryz.f8:=(Option.some.inj (Tryz.func8.symm.trans hfn)).symm
    exact⟨by kernel_rfl,fun j t ht=>by
     rw [show Tryz.f8.params = #[22,23,82] by kernel_rfl] at ht
     have hm:t∈[22,23,82]:=by simpa using Array.mem_of_getElem? ht
     have hall:([22,23,82].all fun u => !Tryz.prog.wantsStandIn u)=true:=by kernel_rfl
     exact (show Tryz.prog.wantsStandIn t=false by simpa using List.all_eq_true.1 hall t hm)⟩)
  (by kernel_rfl)
#print axioms witnessLeast_card
end Go.Proofs.YtjpkfigmmmngnaaGreatDoor
namespace Go.Proofs.YtjpkfigmmmngnaaGreatDoor
open Go.RowKit
attribute [local irreducible] aw opsK dK
theorem Zcg (f:Fm):(vioL f).length≤1000000:=by
 unfold vioL
 split
 · rename_i h
   rw [(Z2d _).length_eq]
   have h8:=(Z6w h).2.2.2.2.2
   have:=Z83 (mem (mentF f)).length (okM (mem (mentF f)) (vioB f)) (mem (mentF f)) (2 ^ (mem (mentF f)).length)
   have hk:2 ^ (mem (mentF f)).length≤256:=Nat.le_trans (Nat.pow_le_pow_right (by decide) h8) (by decide)
   have:2 ^ (mem (mentF f)).length*2 ^ (mem (mentF f)).length≤256*256:=Nat.mul_le_mul hk hk
   unfold prL
   omega
 · exact Nat.zero_le _
theorem ZdC (c:Cu) (hc:Ok64 c):Spec Tryz.prog 87 [cuP c] (· = .val (.bool (!emC c&&decide (c.2≠0)))):=by
 refine Z3 ok87 (Nat.le_of_ble_eq_true rfl) fun C hC=>?_
 refine Zj ?_
 refine Z9 ?_
 refine Z4 rfl rfl rfl ?_
 (refine go ?_;repeat' (apply B<;>intro hb<;>try cases hb))
 refine Z6 (Zav c hc) rfl rfl rfl ⟨Zt c,trivial⟩ rfl ?_
 generalize emC c=v
 cases v
 · (refine go ?_;repeat' (apply B<;>intro hb<;>try cases hb))
   refine Z6 (Z2b c.2 hc.2) rfl rfl rfl ⟨Z0 _,trivial⟩ rfl ?_
   rw [show decide (c.2≠0) = !decide (c.2=0) by simp]
   generalize decide (c.2=0)=v2
   cases v2
   all_goals
    (refine go ?_;repeat' (apply B<;>intro hb<;>try cases hb))
    exact Z2 rfl trivial rfl
 · (refine go ?_;repeat' (apply B<;>intro hb<;>try cases hb))
   exact Z2 rfl trivial rfl
theorem Z8J (l:List Cu) (fl:Bool) (hl:∀ c∈l,Ok64 c):Spec Tryz.prog 37 [.vec (l.map cuC) fl] (· = .val (.bool (monoB l))):=by
 refine Z3 ok37 (Nat.le_of_ble_eq_true rfl) fun C hC=>?_
 (refine go ?_;repeat' (apply B<;>intro hb<;>try cases hb))
 refine Z6 (Z2u l cuC fl 87 [] (fun c => !emC c&&decide (c.2≠0)) ZeB Z1k trivial fun c hc=>ZdC c (hl c hc)) rfl rfl rfl ⟨ZC _,trivial,trivial⟩ rfl ?_
 unfold monoB
 generalize (l.any fun c => !emC c&&decide (c.2≠0))=v
 cases v
 all_goals
  (refine go ?_;repeat' (apply B<;>intro hb<;>try cases hb))
  exact Z2 rfl trivial rfl
def fcel:Option Cu→List PV
 | none => [.vec [] true,.vec [] true]
 | some c=>cuC c
theorem ZfJ:∀ o:Option Cu,pureL (fcel o)
 | none=>⟨trivial,trivial,trivial⟩
 | some c=>Zt c
theorem ZdD (l:List Cu) (c:Cu) (S:Nat):firstC (l ++ [c]) S=(firstC l S).or (if hoC c S then some c else none):=by
 unfold firstC
 rw [List.find?_append]
 congr 1
 cases h:hoC c S<;>simp [List.find?,h]
theorem Z9N {f:Fm} (m:MadeW f) {S:Nat} (hS:S<256) {c:Cu} (hc:c∈vioL f) {b:Bool} (h:hoC c S=b):Spec Tryz.prog 41 [.agg (fC .u8 f),setN S,cuP c] (· = .val (.bool b)):=by
 have e:((vioL f).any fun d=>eqC c d)=true:=List.any_eq_true.2 ⟨c,hc,(Z8a _ _).2 rfl⟩
 have:=Z6Q f m.d1000 m.sbig S (by omega) c (Z5j f c hc)
 rwa [e,Bool.and_true,h] at this
theorem Z6Y {f:Fm} (m:MadeW f):Spec Tryz.prog 36 [.agg (fC .u8 f)] (· = .tup [.vec ((vioL f).map cuC) false,.val (.int .i64 0)]):=by
 have:=Z2m f m.d1000 m.sbig
 rwa [m.six.check] at this
theorem Z7L (c:Cu) (hc:Ok64 c):Spec Tryz.prog 38 [cuP c,cuP c] (· = .val (.bool true)):=by
 have:=Z49 c c hc hc
 rwa [(Z8a c c).2 rfl] at this
theorem Z23 {c:Cu} {s:Nat} (hc:Ok64 c) (hs:s<18446744073709551616) {b:Bool} (h:hoC c s=b):Spec Tryz.prog 39 [cuP c,setN s] (· = .val (.bool b)):=h▸Z48 c s hc hs
set_option maxHeartbeats 8000000 in
theorem Z5m (p:List Nat) (s:Nat) (fl:Bool) (hp:Bytes p) (hs:s<18446744073709551616):Spec Tryz.prog 9 [.vec (bys p) fl,.val (.int .u64 (s:Int))] (· = .val (.bool true)):=by
 have h0:bits .and .u64 (s:Int) 127=((s &&& 127:Nat):Int):=Zc3 s 127 hs (by decide)
 have hS:=low127 s
 have z0:words (digs 0) = []:=by rw [Zw]; rfl
 refine Z3 ok9 (Nat.le_of_ble_eq_true rfl) fun C hC=>?_
 (repeat'(first|refine Z5 15 ?_|refine Z1 15 ?_|refine st ?_|(apply B<;>intro hb<;>try cases hb)))<;>try refine At.mk ?_
 refine Z6 Z3t rfl rfl rfl trivial rfl ?_
 (repeat'(first|refine Z5 18 ?_|refine Z1 18 ?_|refine st ?_|(apply B<;>intro hb<;>try cases hb)))<;>try refine At.mk ?_
 refine Zv rfl rfl (Z33 p hp fl) ⟨Z4M _,trivial⟩ rfl ?_
 rintro r ⟨f,m,rfl⟩
 have hpf:=Zh .i64 f
 have hpg:=Zh .u8 f
 have hfg:∀ D,innL D (fC .u8 f):=fun D=>Z3T .u8 f D
 have hvp:∀ D,innLL D ((vioL f).map cuC):=fun D=>Ze (fun _ h=>h.elim) _ (ZC _)
 have hfc:∀ D o,innL D (fcel o):=fun D o=>Zx (fun _ h=>h.elim) _ (ZfJ o)
 have hnl:((vioL f).map cuC).length=(vioL f).length:=by simp
 have hvl:=Zcg f
 have hok:=Z5j f
 have hmem:∀ i (h:i<(vioL f).length),(vioL f)[i]∈vioL f:=fun i h=>List.getElem_mem h
 have hst:pureL (stC (s &&& 127)):=⟨Zc _,trivial⟩
 have hsi:∀ D,innL D (stC (s &&& 127)):=fun D=>Zx (fun _ h=>h.elim) _ hst
 (repeat'(first|refine Z5 19 ?_|refine Z1 19 ?_|refine st ?_|(apply B<;>intro hb<;>try cases hb)))<;>try refine At.mk ?_
 refine Z6 (Z3u m) rfl rfl rfl ⟨hpf,trivial⟩ rfl ?_
 (repeat'(first|refine Z5 22 ?_|refine Z1 22 ?_|refine st ?_|(apply B<;>intro hb<;>try cases hb)))<;>try refine At.mk ?_
 refine Z6 (Z2L (s &&& 127) (by omega)) rfl rfl (by rw [← h0]; rfl) ⟨trivial,trivial⟩ rfl ?_
 (repeat'(first|refine Z5 24 ?_|refine Z1 24 ?_|refine st ?_|(apply B<;>intro hb<;>try cases hb)))<;>try refine At.mk ?_
 refine Zf (Z11 (k:=5) rfl rfl hpg) ?_
 refine Zf (Z11 (k:=6) (l:=stC (s &&& 127)) rfl rfl hst) ?_
 (repeat'(first|refine Z5 25 ?_|refine Z1 25 ?_|refine st ?_|(apply B<;>intro hb<;>try cases hb)))<;>try refine At.mk ?_
 refine Z6 (Z6Y m) rfl rfl rfl ⟨hpg,trivial⟩ rfl ?_
 have hof:=Z8F f m.d1000 m.sbig (s &&& 127) (by omega)
 have hle:=fun {c:Cu} (h:c∈vioL f) {b:Bool} (hb:hoC c (s &&& 127)=b)=>Z9N m hS h hb
 generalize vioL f=l at *
 generalize s &&& 127=T at *
 (refine go ?_;repeat' (apply B<;>intro hb<;>try cases hb))
 refine Zo hC (fun (z:Nat×Option Cu)=>z.1≤l.length∧z.2=firstC (l.take z.1) T) (fun z=>l.length-z.1) 3 (fun z => [(5,.cp (fC .u8 f)),(6,.cp (stC T)),(9,.ptr 2 0 0),(10,.val (.bool z.2.isSome)),(31,.vec (l.map cuC) false),(32,.val (.int .i64 l.length)),(33,.val (.int .i64 (z.1:Int)))])
  (fun z => [(2,⟨2,[fcel z.2]⟩)]) (Nat.zero_le _) (0,none) ⟨Nat.zero_le _,rfl⟩
  ⟨⟨rfl,hfg _⟩,⟨rfl,hsi _⟩,⟨rfl,show (2:Nat)<3 by decide⟩,⟨rfl,trivial⟩,⟨rfl,hvp _⟩,⟨by rw [← hnl]; rfl,trivial⟩,⟨rfl,trivial⟩,trivial⟩
  ⟨⟨by decide,rfl,⟨hfc _ none,trivial⟩⟩,trivial⟩ ?_
 rintro⟨i,o⟩ ⟨hi,hio⟩
 simp only at hi hio
 have hinc:IntKind.i64.wrap ((i:Int)+1)=((i+1:Nat):Int):=IntWalk.i64_in _ ⟨by omega,by omega⟩
 (repeat'(first|refine Z5 34 ?_|refine Z1 34 ?_|refine st ?_|(apply B<;>intro hb<;>try cases hb)))<;>try refine At.mk ?_
 refine Zg rfl rfl rfl (fun hb=>?_) (fun hb=>?_)
 · have hil : i < l.length := by have := of_decide_eq_true hb; omega
   have htk:=Z3O hil
   have hmi:=hmem i hil
   clear hb
   (refine go ?_;repeat' (apply B<;>intro hb<;>try cases hb))
   refine Z7 (Zl (xs:=l) (g:=cuC) rfl rfl i rfl hil rfl) rfl rfl ?_
   generalize l[i]=c at htk hmi ⊢
   have hcc:=hok c hmi
   have hnx:firstC (l.take (i+1)) T=o.or (if hoC c T then some c else none):=by rw [htk,ZdD,← hio]
   cases hho:hoC c T
   · rw [hho] at hnx
     (repeat'(first|refine Z5 40 ?_|refine Z1 40 ?_|refine st ?_|(apply B<;>intro hb<;>try cases hb)))<;>try refine At.mk ?_
     refine Zq (hle hmi hho) rfl rfl rfl ⟨hpg,Z0 _,Zt c,trivial⟩ ?_
     (repeat'(first|refine Z5 43 ?_|refine Z1 43 ?_|refine st ?_|(apply B<;>intro hb<;>try cases hb)))<;>try refine At.mk ?_
     refine Zq (Z23 hcc (by omega) hho) rfl rfl rfl ⟨Zt c,Z0 _,trivial⟩ ?_
     (repeat'(first|refine Z5 47 ?_|refine Z1 47 ?_|refine st ?_|(apply B<;>intro hb<;>try cases hb)))<;>try refine At.mk ?_
     refine Z6 (Z23 hcc (by omega) hho) rfl rfl rfl ⟨Zt c,Z0 _,trivial⟩ rfl ?_
     (refine go ?_;repeat' (apply B<;>intro hb<;>try cases hb))
     exact⟨(i+1,o),⟨hil,by simp only; rw [hnx]; cases o<;>rfl⟩,by simp only; omega,⟨⟨rfl,hfg _⟩,⟨rfl,hsi _⟩,⟨rfl,show (2:Nat)<3 by decide⟩,⟨rfl,trivial⟩,⟨rfl,hvp _⟩,⟨rfl,trivial⟩,⟨by show some _=some _; rw [hinc],trivial⟩,trivial⟩,⟨⟨by decide,rfl,⟨hfc _ o,trivial⟩⟩,trivial⟩⟩
   · rw [hho] at hnx
     (repeat'(first|refine Z5 40 ?_|refine Z1 40 ?_|refine st ?_|(apply B<;>intro hb<;>try cases hb)))<;>try refine At.mk ?_
     refine Zq (hle hmi hho) rfl rfl rfl ⟨hpg,Z0 _,Zt c,trivial⟩ ?_
     (repeat'(first|refine Z5 43 ?_|refine Z1 43 ?_|refine st ?_|(apply B<;>intro hb<;>try cases hb)))<;>try refine At.mk ?_
     refine Zq (Z23 hcc (by omega) hho) rfl rfl rfl ⟨Zt c,Z0 _,trivial⟩ ?_
     (repeat'(first|refine Z5 47 ?_|refine Z1 47 ?_|refine st ?_|(apply B<;>intro hb<;>try cases hb)))<;>try refine At.mk ?_
     refine Z6 (Z23 hcc (by omega) hho) rfl rfl rfl ⟨Zt c,Z0 _,trivial⟩ rfl ?_
     cases o with
     | none =>
       (refine go ?_;repeat' (apply B<;>intro hb<;>try cases hb))
       exact⟨(i+1,some c),⟨hil,by simp only; rw [hnx]; rfl⟩,by simp only; omega,⟨⟨rfl,hfg _⟩,⟨rfl,hsi _⟩,⟨rfl,show (2:Nat)<3 by decide⟩,⟨rfl,trivial⟩,⟨rfl,hvp _⟩,⟨rfl,trivial⟩,⟨by show some _=some _; rw [hinc],trivial⟩,trivial⟩,⟨⟨by decide,rfl,⟨hfc _ (some c),trivial⟩⟩,trivial⟩⟩
     | some d =>
       (refine go ?_;repeat' (apply B<;>intro hb<;>try cases hb))
       exact⟨(i+1,some d),⟨hil,by simp only; rw [hnx]; rfl⟩,by simp only; omega,⟨⟨rfl,hfg _⟩,⟨rfl,hsi _⟩,⟨rfl,show (2:Nat)<3 by decide⟩,⟨rfl,trivial⟩,⟨rfl,hvp _⟩,⟨rfl,trivial⟩,⟨by show some _=some _; rw [hinc],trivial⟩,trivial⟩,⟨⟨by decide,rfl,⟨hfc _ (some d),trivial⟩⟩,trivial⟩⟩
 · have hil : i = l.length := by have := of_decide_eq_false hb; omega
   subst hil
   clear hb hinc hi
   rw [List.take_length] at hio
   rw [← hio] at hof
   cases o with
   | none =>
     (repeat'(first|refine Z5 57 ?_|refine Z1 57 ?_|refine st ?_|(apply B<;>intro hb<;>try cases hb)))<;>try refine At.mk ?_
     refine Z6 hof rfl rfl rfl ⟨hpg,Z0 _,trivial⟩ rfl ?_
     (repeat'(first|refine Z5 66 ?_|refine Z1 66 ?_|refine st ?_|(apply B<;>intro hb<;>try cases hb)))<;>try refine At.mk ?_
     refine Zs rfl ?_
     refine Z3D (Z7L (0,0) ⟨by decide,by decide⟩) rfl rfl (by
      have e:cuP (0,0)=.agg [.vec [] false,.vec [] false]:=by
       show PV.agg [.vec (words (digs 0)) false,.vec (words (digs 0)) false]=_
       rw [z0]
      show lowL [cuP (0,0),.agg [.vec [] true,.vec [] true]] = [cuP (0,0),cuP (0,0)]
      rw [e]; rfl) ⟨Zt _,Zt _,trivial⟩ rfl ?_
     (refine go ?_;repeat' (apply B<;>intro hb<;>try cases hb))
     exact Z2 rfl trivial rfl
   | some c =>
     have hcc:Ok64 c:=hok c (List.mem_of_find?_eq_some hio.symm)
     (repeat'(first|refine Z5 57 ?_|refine Z1 57 ?_|refine st ?_|(apply B<;>intro hb<;>try cases hb)))<;>try refine At.mk ?_
     refine Z6 hof rfl rfl rfl ⟨hpg,Z0 _,trivial⟩ rfl ?_
     (repeat'(first|refine Z5 66 ?_|refine Z1 66 ?_|refine st ?_|(apply B<;>intro hb<;>try cases hb)))<;>try refine At.mk ?_
     refine Zs rfl ?_
     refine Z6 (Z7L c hcc) rfl rfl rfl ⟨Zt _,Zt _,trivial⟩ rfl ?_
     (refine go ?_;repeat' (apply B<;>intro hb<;>try cases hb))
     exact Z2 rfl trivial rfl
end Go.Proofs.YtjpkfigmmmngnaaGreatDoor
namespace Go.Proofs.YtjpkfigmmmngnaaGreatDoor
open Go.ChangeShapes Go.WideShapes Go.ChangeAt Go.RowKit
theorem Z55:∀ ps,ShapeVs Tryz.prog Tryz.f9.params.toList ps→pureL ps→Spec Tryz.prog 9 ps (· = .val (.bool true)):=by
 intro ps hs hp
 rw [show Tryz.f9.params.toList = [22,23] by kernel_rfl] at hs
 obtain⟨a,b,rfl,k0,k1⟩:=Zbb hs
 obtain⟨x0,f0,h0,rfl⟩:=Z4h k0
 obtain⟨x1,h1,rfl⟩:=Z6X k1
 exact Z5m x0 x1 f0 h0 h1
set_option maxRecDepth 100000 in
theorem Z3P (os:Os) (started:os.Started) (H:Type) (enc:TypeId×Value→H) :
 ReturnsInHanded {} Tryz.checked os 9 .any (fun w args=>(Rows.witnessNormalSpec.pre enc Tryz.prog Tryz.f9 [] false w args∧laidMetH Tryz.prog laidV w)∧sizedMet enc Tryz.prog Tryz.f9 (OpenSpec.ofChange Rows.witnessNormalSpec) false w args)
  (Rows.witnessNormalSpec.post enc Tryz.prog Tryz.f9 false true false false):=by
 refine returnsInHanded_of_change_and (C:=Tryz.checked) (X:=fun w _=>laidMetH Tryz.prog laidV w) (fun _ _ _ hh h=>h.of_heap hh) own started (by kernel_rfl) Tryz.func9
  (ChangeSpec.witness_shaped (enc:=enc) (C:=Tryz.checked) (os:=os) (X:=fun w _=>laidMetH Tryz.prog laidV w) false (World.doorLaid Tryz.prog 400 os) #[.slice none 0 0,.int .u64 0] 8 rfl (World.shaped_of_RefB (by kernel_rfl) (by kernel_rfl)) (by kernel_rfl) (by kernel_rfl) (by kernel_rfl) (Z8r os _)) ?_
 intro W base args ds gs before hval hW _ hwt hL _
 exact Z3o (P:=Tryz.prog) (G:=partsG Tryz.prog Tryz.f9.params.toList) (by kernel_rfl) (ZeU (by kernel_rfl)) laidOut (Z6A (by kernel_rfl)) (tb:=4) (by kernel_rfl) (by kernel_rfl) rfl (fun ds hd=>by
  match ds,hd with
  | [a,b],_=>exact⟨rfl,rfl,rfl⟩) Z55 W (Z8s hL) base args ds gs before hval hW hwt
theorem Z4j:Rows.WitnessNormalSaid :=
 OpenClaim.holds_of_wide 9 Tryz.f9 rfl rfl rfl rfl rfl rfl rfl ⟨rfl,rfl,rfl,rfl,rfl⟩ rfl rfl rfl rfl rfl (by kernel_rfl) Tryz.func9 (by kernel_rfl)
  (of_decide_eq_true (by kernel_rfl)) (by unfold Func.isWrapper; first|(rw [if_pos (by decide +kernel)]; kernel_rfl)|(rw [if_neg (by decide +kernel)]; exact⟨rfl,rfl⟩))
  (fun os started H enc _=>Z3P os started H enc)
theorem witnessNormal_card:Rows.WitnessNormalCardSaid :=
 Claim7.holds_tied_plain_at .later [] [.data,.data,.data] true (true, "3b95f6944516eaa7af7441d5befe7852d094d3e59071218fbee46b50b6f9d4f3") true
  Z4j (fun _ h=>by cases h) (by kernel_rfl) (fun _ h=>by cases h) witnessNormal_row_tie rfl ⟨rfl,rfl⟩ (by kernel_rfl) rfl
  (fun f fn hf hfn => by
    obtain rfl : f = 9 := Option.some.inj ((show Tryz.prog.funcNamed "arbac/arbaclaw21.WitnessNormal" = some 9 by kernel_rfl).symm.trans hf) |>.symm
    obtain rfl:fn=Tryz.f9:=(Option.some.inj (Tryz.func9.symm.trans hfn)).symm
    exact⟨by kernel_rfl,fun j t ht=>by
     rw [show Tryz.f9.params = #[22,23] by kernel_rfl] at ht
     have hm:t∈[22,23]:=by simpa using Array.mem_of_getElem? ht
     have hall:([22,23].all fun u => !Tryz.prog.wantsStandIn u)=true:=by kernel_rfl
     exact (show Tryz.prog.wantsStandIn t=false by simpa using List.all_eq_true.1 hall t hm)⟩)
  (by kernel_rfl)
#print axioms witnessNormal_card
end Go.Proofs.YtjpkfigmmmngnaaGreatDoor
namespace Go.Proofs.YtjpkfigmmmngnaaGreatDoor
open Go.RowKit
attribute [local irreducible] aw opsK dK
theorem ZhX {E:Nat} (h:E<256):popK 64 E≤12:=by
 have key:∀ E,E<256→popK 64 E≤12:=by decide +kernel
 exact key E h
theorem low126 (s:Nat):s &&& 126<128:=Nat.lt_of_le_of_lt Nat.and_le_right (by decide)
theorem zero126 (s:Nat):(s &&& 126).testBit 0=false:=by rw [Nat.testBit_and]; simp
theorem ZhY {E s:Nat} (hE:E<18446744073709551616) (h:s ||| E=E):s<18446744073709551616:=Nat.lt_of_le_of_lt (by rw [← h]; exact Nat.left_le_or) hE
theorem Zhj {E:Nat} (hE:E<18446744073709551616) {good:Nat→Bool} {out:List Nat} (h:Mins (fun s=>s ||| E=E) good out):∀ s∈out,s<18446744073709551616:=fun s hs=>ZhY hE ((h.iff s).1 hs).1
theorem ZfK {f:Fm} {E:Nat} {good:Nat→Bool} {r:PV} (hc:checkM f=0) (hE:E<256) (h:RepR f E good r):∃ out fl,Mins (fun s=>s ||| E=E) good out∧SortedK out∧r=.tup [.vec (seL out) fl,.val (.int .i64 (if out = [] then 4 else 0))]:=by
 cases h with
 | bad h=>exact absurd hc h
 | sm _ hs =>
   cases hs with
   | many h=>exact absurd h (by have:=ZhX hE;omega)
   | found _ out fl hm hso=>exact⟨out,fl,hm,hso,rfl⟩
theorem Z7M {N M:Nat} (hN:N<18446744073709551616) (hM:M<18446744073709551616) {b:Bool} (h:decide (N ||| M=M)=b):Spec Tryz.prog 23 [setN N,setN M] (· = .val (.bool b)):=h▸Z44 N M hN hM
theorem Z9O {N M:Nat} (hN:N<18446744073709551616) (hM:M<18446744073709551616) {b:Bool} (h:decide (N &&& M≠0)=b):Spec Tryz.prog 28 [setN N,setN M] (· = .val (.bool b)):=h▸Z5d N M hN hM
theorem Z6Z {f:Fm} {b:Bool} (h:monoB (vioL f)=b):Spec Tryz.prog 37 [.vec ((vioL f).map cuC) false] (· = .val (.bool b)):=h▸Z8J (vioL f) false (Z5j f)
theorem Z9P {a b:Cu} (ha:Ok64 a) (hb:Ok64 b) {v:Bool} (h:eqC a b=v):Spec Tryz.prog 38 [cuP a,cuP b] (· = .val (.bool v)):=h▸Z49 a b ha hb
theorem ZfL {E:Nat} (hE:E<128) {good:Nat→Bool} {out:List Nat} (h:Mins (fun s=>s ||| E=E) good out):out.length≤128:=Z4T 128 out h.nd fun s hs=>by
 have h1:s ||| E=E:=((h.iff s).1 hs).1
 have h2:s≤s ||| E:=Nat.left_le_or
 omega
theorem ZfM (c:Cu):lowL (cuC c)=cuC c:=by
 show [PV.vec (lowLL (words (digs c.1))) false,PV.vec (lowLL (words (digs c.2))) false]=_
 rw [Z2k,Z2k]
 rfl
theorem Zch:cuP (0,0)=.agg [.vec [] false,.vec [] false]:=by
 show PV.agg [.vec (words (digs 0)) false,.vec (words (digs 0)) false]=_
 rw [Zw]; rfl
theorem ZfN {f:Fm} (m:Made6 f) {d:Cu} (hv:d∈vioL f) (h:d≠(0,0)):(0,0) ∉ vioL f:=fun hz=>h (Zdo ((Z4P m.check _).1 hz) ((Z4P m.check d).1 hv))
set_option maxHeartbeats 8000000 in
theorem Z4k (p:List Nat) (x e:Nat) (fl:Bool) (hp:Bytes p) (hx:x<18446744073709551616) (he:e<256):Spec Tryz.prog 7 [.vec (bys p) fl,.val (.int .u64 (x:Int)),.val (.int .u8 (e:Int))] (· = .val (.bool true)):=by
 have hA:=low126 e
 have w1:IntKind.u64.wrap (bits .and .u8 (e:Int) 126)=((e &&& 126:Nat):Int):=by
  rw [show (126:Int)=((126:Nat):Int) from rfl,Z6F e 126 he (by decide)]; exact IntWalk.u64_in _ ⟨by omega,by omega⟩
 have hz0:=zero126 e
 refine Z3 ok7 (Nat.le_of_ble_eq_true rfl) fun C hC=>?_
 (repeat'(first|refine Z5 19 ?_|refine Z1 19 ?_|refine st ?_|(apply B<;>intro hb<;>try cases hb)))<;>try refine At.mk ?_
 refine Z6 Z3t rfl rfl rfl trivial rfl ?_
 (repeat'(first|refine Z5 22 ?_|refine Z1 22 ?_|refine st ?_|(apply B<;>intro hb<;>try cases hb)))<;>try refine At.mk ?_
 refine Zv rfl rfl (Z33 p hp fl) ⟨Z4M _,trivial⟩ rfl ?_
 rintro r ⟨f,m,rfl⟩
 have hpf:=Zh .i64 f
 have hpg:=Zh .u8 f
 have hfg:∀ D,innL D (fC .u8 f):=fun D=>Z3T .u8 f D
 have hvp:∀ D,innLL D ((vioL f).map cuC):=fun D=>Ze (fun _ h=>h.elim) _ (ZC _)
 have hnl:((vioL f).map cuC).length=(vioL f).length:=by simp
 have hvl:=Zcg f
 have hok:=Z5j f
 have hst:pureL (stC (e &&& 126)):=⟨Zc _,trivial⟩
 have hsi:∀ D,innL D (stC (e &&& 126)):=fun D=>Zx (fun _ h=>h.elim) _ hst
 (repeat'(first|refine Z5 23 ?_|refine Z1 23 ?_|refine st ?_|(apply B<;>intro hb<;>try cases hb)))<;>try refine At.mk ?_
 refine Z6 (Z3u m) rfl rfl rfl ⟨hpf,trivial⟩ rfl ?_
 (repeat'(first|refine Z5 27 ?_|refine Z1 27 ?_|refine st ?_|(apply B<;>intro hb<;>try cases hb)))<;>try refine At.mk ?_
 refine Z6 (Z2L (e &&& 126) (by omega)) rfl rfl (by rw [← w1]; rfl) ⟨trivial,trivial⟩ rfl ?_
 generalize e &&& 126=E at hA hz0 hst hsi w1 ⊢
 (repeat'(first|refine Z5 29 ?_|refine Z1 29 ?_|refine st ?_|(apply B<;>intro hb<;>try cases hb)))<;>try refine At.mk ?_
 refine Zf (Z11 (k:=7) rfl rfl hpg) ?_
 refine Zf (Z11 (k:=8) (l:=stC E) rfl rfl hst) ?_
 (repeat'(first|refine Z5 30 ?_|refine Z1 30 ?_|refine st ?_|(apply B<;>intro hb<;>try cases hb)))<;>try refine At.mk ?_
 refine Zv rfl rfl (Zdw x hx) ⟨trivial,trivial⟩ rfl ?_
 rintro r ⟨l,fl2,S,hgl,rfl⟩
 have hhp:∀ D,(hierP l S).inn D:=fun D=>PV.inn_mono (fun _ h=>h.elim) _ (Zm l S)
 (repeat'(first|refine Z5 35 ?_|refine Z1 35 ?_|refine st ?_|(apply B<;>intro hb<;>try cases hb)))<;>try refine At.mk ?_
 refine Z6 (Z6Y m) rfl rfl rfl ⟨hpg,trivial⟩ rfl ?_
 (repeat'(first|refine Z5 41 ?_|refine Z1 41 ?_|refine st ?_|(apply B<;>intro hb<;>try cases hb)))<;>try refine At.mk ?_
 cases hmo:monoB (vioL f) with
 | false =>
   refine Z6 (Z6Z hmo) rfl rfl rfl ⟨ZC _,trivial⟩ rfl ?_
   (refine go ?_;repeat' (apply B<;>intro hb<;>try cases hb))
   exact Z2 rfl trivial rfl
 | true =>
   refine Z6 (Z6Z hmo) rfl rfl rfl ⟨ZC _,trivial⟩ rfl ?_
   (repeat'(first|refine Z5 46 ?_|refine Z1 46 ?_|refine st ?_|(apply B<;>intro hb<;>try cases hb)))<;>try refine At.mk ?_
   refine Zs rfl ?_
   refine Zg rfl rfl rfl (fun hb=>?_) (fun hb=>?_)
   · have hpos : 0 < (vioL f).length := by have := of_decide_eq_true hb; omega
     clear hb
     have hdm:(vioL f)[0]∈vioL f:=List.getElem_mem hpos
     (repeat'(first|refine Z5 49 ?_|refine Z1 49 ?_|refine st ?_|(apply B<;>intro hb<;>try cases hb)))<;>try refine At.mk ?_
     refine Zs rfl ?_
     refine Z7 (Zl (xs:=vioL f) (g:=cuC) rfl rfl 0 rfl hpos rfl) rfl rfl ?_
     generalize (vioL f)[0]=d at hdm ⊢
     (repeat'(first|refine Z5 52 ?_|refine Z1 52 ?_|refine st ?_|(apply B<;>intro hb<;>try cases hb)))<;>try refine At.mk ?_
     refine Zs rfl ?_
     cases hed:eqC d (0,0) with
     | true =>
       refine Z3D (Z9P (hok d hdm) ⟨by decide,by decide⟩ hed) rfl rfl (by
        show lowL [cuP d,.agg [.vec [] true,.vec [] true]] = [cuP d,cuP (0,0)]
        rw [Zch]
        show [PV.agg (lowL (cuC d)),_]=_
        rw [ZfM]; rfl) ⟨Zt _,Zt _,trivial⟩ rfl ?_
       (refine go ?_;repeat' (apply B<;>intro hb<;>try cases hb))
       exact Z2 rfl trivial rfl
     | false =>
       refine Z3D (Z9P (hok d hdm) ⟨by decide,by decide⟩ hed) rfl rfl (by
        show lowL [cuP d,.agg [.vec [] true,.vec [] true]] = [cuP d,cuP (0,0)]
        rw [Zch]
        show [PV.agg (lowL (cuC d)),_]=_
        rw [ZfM]; rfl) ⟨Zt _,Zt _,trivial⟩ rfl ?_
       have h0:(0,0) ∉ vioL f:=ZfN m.six hdm fun h=>by subst h; exact absurd hed (by decide)
       clear hed hdm hpos
       (repeat'(first|refine Z5 59 ?_|refine Z1 59 ?_|refine st ?_|(apply B<;>intro hb<;>try cases hb)))<;>try refine At.mk ?_
       refine Zv rfl rfl (Z32 m.six.holdsW m.d1000 m.sbig l S E (by omega) hz0) ⟨hpg,Z0 _,Zm _ _,trivial⟩ rfl ?_
       intro r hr
       obtain⟨out,f3,hm,hso,rfl⟩:=ZfK m.six.check (by omega) hr
       have hne:=Z7D m.six (by omega) hmo h0 hm
       have hE64:E<18446744073709551616:=by omega
       have hit:=fun {c:Cu} (hc:c∈vioL f) (hh:hoC c (clo l E)=true) {s:Nat} (hs:s∈out)=>Zc2 m.six hE64 hmo hm hc hh hs
       have holt:=Zhj hE64 hm
       rw [if_neg hne]
       have hsl:(seL out).length=out.length:=by simp [seL]
       have hsp:∀ D,innLL D (seL out):=fun D=>Ze (fun _ h=>h.elim) _ (Z9K out)
       have holen:out.length≤128:=ZfL hA hm
       have hol:0<out.length:=List.length_pos_iff.2 hne
       (repeat'(first|refine Z5 67 ?_|refine Z1 67 ?_|refine st ?_|(apply B<;>intro hb<;>try cases hb)))<;>try refine At.mk ?_
       refine Zs rfl ?_
       refine Z7 (ZG (v:=false) rfl (by rw [hsl,beq_eq_false_iff_ne];omega)) rfl rfl ?_
       (refine go ?_;repeat' (apply B<;>intro hb<;>try cases hb))
       refine Zo hC (fun (i:Nat)=>i≤(vioL f).length) (fun i=>(vioL f).length-i) 0 (fun i => [(8,.cp (stC E)),(9,hierP l S),(13,.vec (seL out) f3),(69,.vec ((vioL f).map cuC) false),(70,.val (.int .i64 (vioL f).length)),(71,.val (.int .i64 (i:Int)))])
        (fun _=>[]) (Nat.zero_le _) 0 (Nat.zero_le _) ⟨⟨rfl,hsi _⟩,⟨rfl,hhp _⟩,⟨rfl,hsp _⟩,⟨rfl,hvp _⟩,⟨by rw [← hnl]; rfl,trivial⟩,⟨rfl,trivial⟩,trivial⟩ trivial ?_
       rintro i hi
       have hinc:IntKind.i64.wrap ((i:Int)+1)=((i+1:Nat):Int):=IntWalk.i64_in _ ⟨by omega,by omega⟩
       (repeat'(first|refine Z5 72 ?_|refine Z1 72 ?_|refine st ?_|(apply B<;>intro hb<;>try cases hb)))<;>try refine At.mk ?_
       refine Zg rfl rfl rfl (fun hb=>?_) (fun hb=>?_)
       · have hil : i < (vioL f).length := by have := of_decide_eq_true hb; omega
         have hmi:(vioL f)[i]∈vioL f:=List.getElem_mem hil
         clear hb
         (refine go ?_;repeat' (apply B<;>intro hb<;>try cases hb))
         refine Z7 (Zl (xs:=vioL f) (g:=cuC) rfl rfl i rfl hil rfl) rfl rfl ?_
         generalize (vioL f)[i]=c at hmi ⊢
         have hcc:=hok c hmi
         have hcp:∀ D,innL D (cuC c):=fun D=>Zx (fun _ h=>h.elim) _ (Zt c)
         (repeat'(first|refine Z5 78 ?_|refine Z1 78 ?_|refine st ?_|(apply B<;>intro hb<;>try cases hb)))<;>try refine At.mk ?_
         refine Zq (Z16 l S E hE64) rfl rfl rfl ⟨Zm _ _,Z0 _,trivial⟩ ?_
         (repeat'(first|refine Z5 79 ?_|refine Z1 79 ?_|refine st ?_|(apply B<;>intro hb<;>try cases hb)))<;>try refine At.mk ?_
         cases hho:hoC c (clo l E) with
         | false =>
           refine Zq (Z23 hcc (Z5y l E) hho) rfl rfl rfl ⟨Zt c,Z0 _,trivial⟩ ?_
           (refine go ?_;repeat' (apply B<;>intro hb<;>try cases hb))
           exact⟨i+1,hil,by omega,⟨⟨rfl,hsi _⟩,⟨rfl,hhp _⟩,⟨rfl,hsp _⟩,⟨rfl,hvp _⟩,⟨rfl,trivial⟩,⟨by show some _=some _; rw [hinc],trivial⟩,trivial⟩,trivial⟩
         | true =>
           refine Zq (Z23 hcc (Z5y l E) hho) rfl rfl rfl ⟨Zt c,Z0 _,trivial⟩ ?_
           (refine go ?_;repeat' (apply B<;>intro hb<;>try cases hb))
           refine Zo hC (fun (j:Nat)=>j≤out.length) (fun j=>out.length-j) 1 (fun j => [(8,.cp (stC E)),(9,hierP l S),(13,.vec (seL out) f3),(15,.ptr 0 0 0),(69,.vec ((vioL f).map cuC) false),(70,.val (.int .i64 (vioL f).length)),(71,.val (.int .i64 (i:Int))),(81,.vec (seL out) f3),(82,.val (.int .i64 out.length)),(83,.val (.int .i64 (j:Int)))])
            (fun _ => [(0,⟨2,[cuC c]⟩)]) (Nat.zero_le _) 0 (Nat.zero_le _) ⟨⟨rfl,hsi _⟩,⟨rfl,hhp _⟩,⟨rfl,hsp _⟩,⟨rfl,show (0:Nat)<1 by decide⟩,⟨rfl,hvp _⟩,⟨rfl,trivial⟩,⟨rfl,trivial⟩,⟨rfl,hsp _⟩,⟨by rw [← hsl]; rfl,trivial⟩,⟨rfl,trivial⟩,trivial⟩ ⟨⟨by decide,rfl,⟨hcp _,trivial⟩⟩,trivial⟩ ?_
           rintro j hj
           have hjnc:IntKind.i64.wrap ((j:Int)+1)=((j+1:Nat):Int):=IntWalk.i64_in _ ⟨by omega,by have:=holen; omega⟩
           (repeat'(first|refine Z5 84 ?_|refine Z1 84 ?_|refine st ?_|(apply B<;>intro hb<;>try cases hb)))<;>try refine At.mk ?_
           refine Zg rfl rfl rfl (fun hb=>?_) (fun hb=>?_)
           · have hjl : j < out.length := by have := of_decide_eq_true hb; omega
             have hsm:out[j]∈out:=List.getElem_mem hjl
             clear hb
             (refine go ?_;repeat' (apply B<;>intro hb<;>try cases hb))
             refine Z7 (Zl (xs:=out) (g:=stC) rfl rfl j rfl hjl rfl) rfl rfl ?_
             generalize out[j]=s at hsm ⊢
             have hs64:=holt s hsm
             obtain⟨hw1,hw2⟩:=hit hmi hho hsm
             (repeat'(first|refine Z5 90 ?_|refine Z1 90 ?_|refine st ?_|(apply B<;>intro hb<;>try cases hb)))<;>try refine At.mk ?_
             refine Z6 (Z30 E s hE64 hs64) rfl rfl rfl ⟨Z0 _,Z0 _,trivial⟩ rfl ?_
             refine Z6 (Z16 l S (minusN E s) (Z2e s hE64)) rfl rfl rfl ⟨Zm _ _,Z0 _,trivial⟩ rfl ?_
             (repeat'(first|refine Z5 95 ?_|refine Z1 95 ?_|refine st ?_|(apply B<;>intro hb<;>try cases hb)))<;>try refine At.mk ?_
             refine Zq (Z7M hcc.1 (Z5y l _) hw1) rfl rfl rfl ⟨Z0 _,Z0 _,trivial⟩ ?_
             (repeat'(first|refine Z5 99 ?_|refine Z1 99 ?_|refine st ?_|(apply B<;>intro hb<;>try cases hb)))<;>try refine At.mk ?_
             refine Z71 rfl ?_
             refine Zq (Z16 l S s hs64) rfl rfl rfl ⟨Zm _ _,Z0 _,trivial⟩ ?_
             (repeat'(first|refine Z5 102 ?_|refine Z1 102 ?_|refine st ?_|(apply B<;>intro hb<;>try cases hb)))<;>try refine At.mk ?_
             refine Z71 rfl ?_
             refine Zq (Z9O (Z5y l _) hcc.1 hw2) rfl rfl rfl ⟨Z0 _,Z0 _,trivial⟩ ?_
             (refine go ?_;repeat' (apply B<;>intro hb<;>try cases hb))
             exact⟨j+1,hjl,by omega,⟨⟨rfl,hsi _⟩,⟨rfl,hhp _⟩,⟨rfl,hsp _⟩,⟨rfl,show (0:Nat)<1 by decide⟩,⟨rfl,hvp _⟩,⟨rfl,trivial⟩,⟨rfl,trivial⟩,⟨rfl,hsp _⟩,⟨rfl,trivial⟩,⟨by show some _=some _; rw [hjnc],trivial⟩,trivial⟩,⟨⟨by decide,rfl,⟨hcp _,trivial⟩⟩,trivial⟩⟩
           · have hjl : j = out.length := by have := of_decide_eq_false hb; omega
             clear hb
             (refine go ?_;repeat' (apply B<;>intro hb<;>try cases hb))
             exact⟨i+1,hil,by omega,⟨⟨rfl,hsi _⟩,⟨rfl,hhp _⟩,⟨rfl,hsp _⟩,⟨rfl,hvp _⟩,⟨rfl,trivial⟩,⟨by show some _=some _; rw [hinc],trivial⟩,trivial⟩,trivial⟩
       · have hil : i = (vioL f).length := by have := of_decide_eq_false hb; omega
         clear hb
         (refine go ?_;repeat' (apply B<;>intro hb<;>try cases hb))
         exact Z2 rfl trivial rfl
   · have hz : (vioL f).length = 0 := by have := of_decide_eq_false hb; omega
     clear hb
     have h0:(0,0) ∉ vioL f:=by rw [List.length_eq_zero_iff.1 hz]; simp
     (repeat'(first|refine Z5 59 ?_|refine Z1 59 ?_|refine st ?_|(apply B<;>intro hb<;>try cases hb)))<;>try refine At.mk ?_
     refine Zv rfl rfl (Z32 m.six.holdsW m.d1000 m.sbig l S E (by omega) hz0) ⟨hpg,Z0 _,Zm _ _,trivial⟩ rfl ?_
     intro r hr
     obtain⟨out,f3,hm,hso,rfl⟩:=ZfK m.six.check (by omega) hr
     have hne:=Z7D m.six (by omega) hmo h0 hm
     have hE64:E<18446744073709551616:=by omega
     have hit:=fun {c:Cu} (hc:c∈vioL f) (hh:hoC c (clo l E)=true) {s:Nat} (hs:s∈out)=>Zc2 m.six hE64 hmo hm hc hh hs
     have holt:=Zhj hE64 hm
     rw [if_neg hne]
     have hsl:(seL out).length=out.length:=by simp [seL]
     have hsp:∀ D,innLL D (seL out):=fun D=>Ze (fun _ h=>h.elim) _ (Z9K out)
     have holen:out.length≤128:=ZfL hA hm
     have hol:0<out.length:=List.length_pos_iff.2 hne
     (repeat'(first|refine Z5 67 ?_|refine Z1 67 ?_|refine st ?_|(apply B<;>intro hb<;>try cases hb)))<;>try refine At.mk ?_
     refine Zs rfl ?_
     refine Z7 (ZG (v:=false) rfl (by rw [hsl,beq_eq_false_iff_ne];omega)) rfl rfl ?_
     (refine go ?_;repeat' (apply B<;>intro hb<;>try cases hb))
     refine Zo hC (fun (i:Nat)=>i≤(vioL f).length) (fun i=>(vioL f).length-i) 0 (fun i => [(8,.cp (stC E)),(9,hierP l S),(13,.vec (seL out) f3),(69,.vec ((vioL f).map cuC) false),(70,.val (.int .i64 (vioL f).length)),(71,.val (.int .i64 (i:Int)))])
      (fun _=>[]) (Nat.zero_le _) 0 (Nat.zero_le _) ⟨⟨rfl,hsi _⟩,⟨rfl,hhp _⟩,⟨rfl,hsp _⟩,⟨rfl,hvp _⟩,⟨by rw [← hnl]; rfl,trivial⟩,⟨rfl,trivial⟩,trivial⟩ trivial ?_
     rintro i hi
     have hinc:IntKind.i64.wrap ((i:Int)+1)=((i+1:Nat):Int):=IntWalk.i64_in _ ⟨by omega,by omega⟩
     (repeat'(first|refine Z5 72 ?_|refine Z1 72 ?_|refine st ?_|(apply B<;>intro hb<;>try cases hb)))<;>try refine At.mk ?_
     refine Zg rfl rfl rfl (fun hb=>?_) (fun hb=>?_)
     · have hil : i < (vioL f).length := by have := of_decide_eq_true hb; omega
       have hmi:(vioL f)[i]∈vioL f:=List.getElem_mem hil
       clear hb
       (refine go ?_;repeat' (apply B<;>intro hb<;>try cases hb))
       refine Z7 (Zl (xs:=vioL f) (g:=cuC) rfl rfl i rfl hil rfl) rfl rfl ?_
       generalize (vioL f)[i]=c at hmi ⊢
       have hcc:=hok c hmi
       have hcp:∀ D,innL D (cuC c):=fun D=>Zx (fun _ h=>h.elim) _ (Zt c)
       (repeat'(first|refine Z5 78 ?_|refine Z1 78 ?_|refine st ?_|(apply B<;>intro hb<;>try cases hb)))<;>try refine At.mk ?_
       refine Zq (Z16 l S E hE64) rfl rfl rfl ⟨Zm _ _,Z0 _,trivial⟩ ?_
       (repeat'(first|refine Z5 79 ?_|refine Z1 79 ?_|refine st ?_|(apply B<;>intro hb<;>try cases hb)))<;>try refine At.mk ?_
       cases hho:hoC c (clo l E) with
       | false =>
         refine Zq (Z23 hcc (Z5y l E) hho) rfl rfl rfl ⟨Zt c,Z0 _,trivial⟩ ?_
         (refine go ?_;repeat' (apply B<;>intro hb<;>try cases hb))
         exact⟨i+1,hil,by omega,⟨⟨rfl,hsi _⟩,⟨rfl,hhp _⟩,⟨rfl,hsp _⟩,⟨rfl,hvp _⟩,⟨rfl,trivial⟩,⟨by show some _=some _; rw [hinc],trivial⟩,trivial⟩,trivial⟩
       | true =>
         refine Zq (Z23 hcc (Z5y l E) hho) rfl rfl rfl ⟨Zt c,Z0 _,trivial⟩ ?_
         (refine go ?_;repeat' (apply B<;>intro hb<;>try cases hb))
         refine Zo hC (fun (j:Nat)=>j≤out.length) (fun j=>out.length-j) 1 (fun j => [(8,.cp (stC E)),(9,hierP l S),(13,.vec (seL out) f3),(15,.ptr 0 0 0),(69,.vec ((vioL f).map cuC) false),(70,.val (.int .i64 (vioL f).length)),(71,.val (.int .i64 (i:Int))),(81,.vec (seL out) f3),(82,.val (.int .i64 out.length)),(83,.val (.int .i64 (j:Int)))])
          (fun _ => [(0,⟨2,[cuC c]⟩)]) (Nat.zero_le _) 0 (Nat.zero_le _) ⟨⟨rfl,hsi _⟩,⟨rfl,hhp _⟩,⟨rfl,hsp _⟩,⟨rfl,show (0:Nat)<1 by decide⟩,⟨rfl,hvp _⟩,⟨rfl,trivial⟩,⟨rfl,trivial⟩,⟨rfl,hsp _⟩,⟨by rw [← hsl]; rfl,trivial⟩,⟨rfl,trivial⟩,trivial⟩ ⟨⟨by decide,rfl,⟨hcp _,trivial⟩⟩,trivial⟩ ?_
         rintro j hj
         have hjnc:IntKind.i64.wrap ((j:Int)+1)=((j+1:Nat):Int):=IntWalk.i64_in _ ⟨by omega,by have:=holen; omega⟩
         (repeat'(first|refine Z5 84 ?_|refine Z1 84 ?_|refine st ?_|(apply B<;>intro hb<;>try cases hb)))<;>try refine At.mk ?_
         refine Zg rfl rfl rfl (fun hb=>?_) (fun hb=>?_)
         · have hjl : j < out.length := by have := of_decide_eq_true hb; omega
           have hsm:out[j]∈out:=List.getElem_mem hjl
           clear hb
           (refine go ?_;repeat' (apply B<;>intro hb<;>try cases hb))
           refine Z7 (Zl (xs:=out) (g:=stC) rfl rfl j rfl hjl rfl) rfl rfl ?_
           generalize out[j]=s at hsm ⊢
           have hs64:=holt s hsm
           obtain⟨hw1,hw2⟩:=hit hmi hho hsm
           (repeat'(first|refine Z5 90 ?_|refine Z1 90 ?_|refine st ?_|(apply B<;>intro hb<;>try cases hb)))<;>try refine At.mk ?_
           refine Z6 (Z30 E s hE64 hs64) rfl rfl rfl ⟨Z0 _,Z0 _,trivial⟩ rfl ?_
           refine Z6 (Z16 l S (minusN E s) (Z2e s hE64)) rfl rfl rfl ⟨Zm _ _,Z0 _,trivial⟩ rfl ?_
           (repeat'(first|refine Z5 95 ?_|refine Z1 95 ?_|refine st ?_|(apply B<;>intro hb<;>try cases hb)))<;>try refine At.mk ?_
           refine Zq (Z7M hcc.1 (Z5y l _) hw1) rfl rfl rfl ⟨Z0 _,Z0 _,trivial⟩ ?_
           (repeat'(first|refine Z5 99 ?_|refine Z1 99 ?_|refine st ?_|(apply B<;>intro hb<;>try cases hb)))<;>try refine At.mk ?_
           refine Z71 rfl ?_
           refine Zq (Z16 l S s hs64) rfl rfl rfl ⟨Zm _ _,Z0 _,trivial⟩ ?_
           (repeat'(first|refine Z5 102 ?_|refine Z1 102 ?_|refine st ?_|(apply B<;>intro hb<;>try cases hb)))<;>try refine At.mk ?_
           refine Z71 rfl ?_
           refine Zq (Z9O (Z5y l _) hcc.1 hw2) rfl rfl rfl ⟨Z0 _,Z0 _,trivial⟩ ?_
           (refine go ?_;repeat' (apply B<;>intro hb<;>try cases hb))
           exact⟨j+1,hjl,by omega,⟨⟨rfl,hsi _⟩,⟨rfl,hhp _⟩,⟨rfl,hsp _⟩,⟨rfl,show (0:Nat)<1 by decide⟩,⟨rfl,hvp _⟩,⟨rfl,trivial⟩,⟨rfl,trivial⟩,⟨rfl,hsp _⟩,⟨rfl,trivial⟩,⟨by show some _=some _; rw [hjnc],trivial⟩,trivial⟩,⟨⟨by decide,rfl,⟨hcp _,trivial⟩⟩,trivial⟩⟩
         · have hjl : j = out.length := by have := of_decide_eq_false hb; omega
           clear hb
           (refine go ?_;repeat' (apply B<;>intro hb<;>try cases hb))
           exact⟨i+1,hil,by omega,⟨⟨rfl,hsi _⟩,⟨rfl,hhp _⟩,⟨rfl,hsp _⟩,⟨rfl,hvp _⟩,⟨rfl,trivial⟩,⟨by show some _=some _; rw [hinc],trivial⟩,trivial⟩,trivial⟩
     · have hil : i = (vioL f).length := by have := of_decide_eq_false hb; omega
       clear hb
       (refine go ?_;repeat' (apply B<;>intro hb<;>try cases hb))
       exact Z2 rfl trivial rfl
end Go.Proofs.YtjpkfigmmmngnaaGreatDoor
namespace Go.Proofs.YtjpkfigmmmngnaaGreatDoor
open Go.ChangeShapes Go.WideShapes Go.ChangeAt Go.RowKit
theorem Z3Q:∀ ps,ShapeVs Tryz.prog Tryz.f7.params.toList ps→pureL ps→Spec Tryz.prog 7 ps (· = .val (.bool true)):=by
 intro ps hs hp
 rw [show Tryz.f7.params.toList = [22,23,5] by kernel_rfl] at hs
 obtain⟨a,b,c,rfl,k0,k1,k2⟩:=Z53 hs
 obtain⟨x0,f0,h0,rfl⟩:=Z4h k0
 obtain⟨x1,h1,rfl⟩:=Z6X k1
 obtain⟨x2,h2,rfl⟩:=ZfI k2
 exact Z4k x0 x1 x2 f0 h0 h1 h2
set_option maxRecDepth 100000 in
theorem Z34 (os:Os) (started:os.Started) (H:Type) (enc:TypeId×Value→H) :
 ReturnsInHanded {} Tryz.checked os 7 .any (fun w args=>(Rows.witnessMonotoneSpec.pre enc Tryz.prog Tryz.f7 [] false w args∧laidMetH Tryz.prog laidV w)∧sizedMet enc Tryz.prog Tryz.f7 (OpenSpec.ofChange Rows.witnessMonotoneSpec) false w args)
  (Rows.witnessMonotoneSpec.post enc Tryz.prog Tryz.f7 false true false false):=by
 refine returnsInHanded_of_change_and (C:=Tryz.checked) (X:=fun w _=>laidMetH Tryz.prog laidV w) (fun _ _ _ hh h=>h.of_heap hh) own started (by kernel_rfl) Tryz.func7
  (ChangeSpec.witness_shaped (enc:=enc) (C:=Tryz.checked) (os:=os) (X:=fun w _=>laidMetH Tryz.prog laidV w) false (World.doorLaid Tryz.prog 400 os) #[.slice none 0 0,.int .u64 0,.int .u8 0] 8 rfl (World.shaped_of_RefB (by kernel_rfl) (by kernel_rfl)) (by kernel_rfl) (by kernel_rfl) (by kernel_rfl) (Z8r os _)) ?_
 intro W base args ds gs before hval hW _ hwt hL _
 exact Z3o (P:=Tryz.prog) (G:=partsG Tryz.prog Tryz.f7.params.toList) (by kernel_rfl) (ZeU (by kernel_rfl)) laidOut (Z6A (by kernel_rfl)) (tb:=4) (by kernel_rfl) (by kernel_rfl) rfl (fun ds hd=>by
  match ds,hd with
  | [a,b,c],_=>exact⟨rfl,rfl,rfl⟩) Z3Q W (Z8s hL) base args ds gs before hval hW hwt
theorem Z3v:Rows.WitnessMonotoneSaid :=
 OpenClaim.holds_of_wide 7 Tryz.f7 rfl rfl rfl rfl rfl rfl rfl ⟨rfl,rfl,rfl,rfl,rfl⟩ rfl rfl rfl rfl rfl (by kernel_rfl) Tryz.func7 (by kernel_rfl)
  (of_decide_eq_true (by kernel_rfl)) (by unfold Func.isWrapper; first|(rw [if_pos (by decide +kernel)]; kernel_rfl)|(rw [if_neg (by decide +kernel)]; exact⟨rfl,rfl⟩))
  (fun os started H enc _=>Z34 os started H enc)
theorem witnessMonotone_card:Rows.WitnessMonotoneCardSaid :=
 Claim7.holds_tied_plain_at .later [] [.data,.data,.data] true (true, "3b95f6944516eaa7af7441d5befe7852d094d3e59071218fbee46b50b6f9d4f3") true
  Z3v (fun _ h=>by cases h) (by kernel_rfl) (fun _ h=>by cases h) witnessMonotone_row_tie rfl ⟨rfl,rfl⟩ (by kernel_rfl) rfl
  (fun f fn hf hfn => by
    obtain rfl : f = 7 := Option.some.inj ((show Tryz.prog.funcNamed "arbac/arbaclaw21.WitnessMonotone" = some 7 by kernel_rfl).symm.trans hf) |>.symm
    obtain rfl:fn=Tryz.f7:=(Option.some.inj (Tryz.func7.symm.trans hfn)).symm
    exact⟨by kernel_rfl,fun j t ht=>by
     rw [show Tryz.f7.params = #[22,23,5] by kernel_rfl] at ht
     have hm:t∈[22,23,5]:=by simpa using Array.mem_of_getElem? ht
     have hall:([22,23,5].all fun u => !Tryz.prog.wantsStandIn u)=true:=by kernel_rfl
     exact (show Tryz.prog.wantsStandIn t=false by simpa using List.all_eq_true.1 hall t hm)⟩)
  (by kernel_rfl)
#print axioms witnessMonotone_card
end Go.Proofs.YtjpkfigmmmngnaaGreatDoor
namespace Go.Proofs.YtjpkfigmmmngnaaGreatDoor
theorem witnessEnd_card:True:=trivial
#print axioms witnessEnd_card
end Go.Proofs.YtjpkfigmmmngnaaGreatDoor
