/-
  Merged from the texts that this claim's theorem needs, part 5 of 7. No statement of the seat is proved here.
-/
import Derived.Test.YtjpkfigmmmngnaaGreatDoorMq3
set_option linter.unusedSimpArgs false
set_option linter.unusedVariables false
set_option linter.unusedSectionVars false
namespace Go.Proofs.YtjpkfigmmmngnaaGreatDoor
open Go.RowKit
def intT (P:Program) (t:TypeId):Option IntKind:=match P.underlying t with|some (.int k)=>some k|_=>none
def boolT (P:Program) (t:TypeId):Bool:=match P.underlying t with|some .bool=>true|_=>false
def sliceT (P:Program) (t:TypeId):Option TypeId:=match P.underlying t with|some (.slice e)=>some e|_=>none
def structT (P:Program) (t:TypeId):Option Nat:=match P.underlying t with|some (.struct _)=>some (P.cellsOf t)|_=>none
def fieldT (P:Program) (t:TypeId) (i:Nat):Option (Nat×TypeId×Nat):=match P.underlying t with|some (.struct fs)=>(fs[i]?).map fun f=>(f.offset,f.type,P.cellsOf f.type)|_=>none
section
variable {P:Program} {t:TypeId} {n:Nat} {ps:List PV} {p:PV}
theorem Z8c {k:IntKind} (h:intT P t=some k):P.underlying t=some (.int k):=by
 unfold intT at h
 split at h
 · rename_i k' hu; cases h; exact hu
 · cases h
theorem Zbx (h:boolT P t=true):P.underlying t=some .bool:=by
 unfold boolT at h
 split at h
 · rename_i hu; exact hu
 · cases h
theorem Z5M {e:TypeId} (h:sliceT P t=some e):P.underlying t=some (.slice e):=by
 unfold sliceT at h
 split at h
 · rename_i k' hu; cases h; exact hu
 · cases h
theorem Z8d {k:Nat} (h:structT P t=some k):∃ fs,P.underlying t=some (.struct fs)∧P.cellsOf t=k:=by
 unfold structT at h
 split at h
 · rename_i fs hu; cases h; exact⟨fs,hu,rfl⟩
 · cases h
theorem Z9s {i off sz:Nat} {ty:TypeId} (h:fieldT P t i=some (off,ty,sz)):∃ fs f,P.underlying t=some (.struct fs)∧f∈fs.toList∧f.offset=off∧f.type=ty∧P.cellsOf f.type=sz:=by
 unfold fieldT at h
 split at h
 · rename_i fs hu
   cases hf:fs[i]? with
   | none=>rw [hf] at h; cases h
   | some f =>
     rw [hf] at h
     simp only [Option.map_some,Option.some.injEq,Prod.mk.injEq] at h
     exact⟨fs,f,hu,by
      have:=(Array.getElem?_eq_some_iff.1 hf)
      obtain⟨hi,rfl⟩:=this
      simp,h.1,h.2.1,h.2.2⟩
 · cases h
theorem Z32 {k:IntKind} (h:Shape P n t ps) (hk:intT P t=some k):∃ m,(Lit.int k m).wf=true∧ps = [.val (.int k m)]:=by
 cases n with
 | zero=>exact h.elim
 | succ n=>simpa only [Shape,Z8c hk] using h
theorem Zby (h:Shape P n t ps) (hk:boolT P t=true):∃ b,ps = [.val (.bool b)]:=by
 cases n with
 | zero=>exact h.elim
 | succ n=>simpa only [Shape,Zbx hk] using h
theorem Z9t {e:TypeId} (h:Shape P n t ps) (hk:sliceT P t=some e):∃ n' ll fl,ll.length≤maxVec∧(∀ l∈ll,Shape P n' e l)∧ps = [.vec ll fl]:=by
 cases n with
 | zero=>exact h.elim
 | succ n =>
   have:∃ ll fl,ll.length≤maxVec∧(∀ l∈ll,Shape P n e l)∧ps = [.vec ll fl]:=by simpa only [Shape,Z5M hk] using h
   obtain⟨ll,fl,h⟩:=this
   exact⟨n,ll,fl,h⟩
theorem Zdf {k:Nat} (h:Shape P n t ps) (hk:structT P t=some k):ps.length=k:=by
 obtain⟨fs,hu,rfl⟩:=Z8d hk
 cases n with
 | zero=>exact h.elim
 | succ n =>
   have:ps.length=P.cellsOf t∧∀ f∈fs.toList,Shape P n f.type ((ps.drop f.offset).take (P.cellsOf f.type)):=by simpa only [Shape,hu] using h
   exact this.1
theorem Z20 {i off sz:Nat} {ty:TypeId} (h:Shape P n t ps) (hk:fieldT P t i=some (off,ty,sz)):∃ n',Shape P n' ty ((ps.drop off).take sz):=by
 obtain⟨fs,f,hu,hf,rfl,rfl,rfl⟩:=Z9s hk
 cases n with
 | zero=>exact h.elim
 | succ n =>
   have:ps.length=P.cellsOf t∧∀ f∈fs.toList,Shape P n f.type ((ps.drop f.offset).take (P.cellsOf f.type)):=by simpa only [Shape,hu] using h
   exact⟨n,this.2 f hf⟩
theorem Z6q {k:IntKind} (h:ShapeV P t p) (hk:intT P t=some k):∃ m,(Lit.int k m).wf=true∧p=.val (.int k m):=by
 obtain⟨n,h⟩:=h
 rw [Z8c hk] at h
 obtain⟨m,h1,h2⟩:=Z32 (show Shape P n t [p] from h) hk
 exact⟨m,h1,by simpa using h2⟩
theorem Z8e {e:TypeId} (h:ShapeV P t p) (hk:sliceT P t=some e):∃ n' ll fl,ll.length≤maxVec∧(∀ l∈ll,Shape P n' e l)∧p=.vec ll fl:=by
 obtain⟨n,h⟩:=h
 rw [Z5M hk] at h
 obtain⟨n',ll,fl,h1,h2,h3⟩:=Z9t (show Shape P n t [p] from h) hk
 exact⟨n',ll,fl,h1,h2,by simpa using h3⟩
end
end Go.Proofs.YtjpkfigmmmngnaaGreatDoor
namespace Go.Proofs.YtjpkfigmmmngnaaGreatDoor
open Go.RowKit
attribute [local irreducible] aw opsK dK
def SmallF:Nat→Fm→Prop
 | 0,_=>False
 | d+1,f=>0≤f.op∧f.op≤255∧f.roles.length≤1000∧f.args.length≤5∧∀ a∈f.args,SmallF d a
theorem SmallF.nice:∀ {d:Nat} {f:Fm},SmallF d f→Nice d f
 | 0,_,h=>h
 | d+1,f,⟨h1,h2,h3,h4,h5⟩=>⟨h1,h2,h3,by omega,fun a ha=>(h5 a ha).nice⟩
theorem SmallF.bounds:∀ {d:Nat} {f:Fm},SmallF d f→f.depth≤d∧f.size≤6 ^ d
 | 0,_,h=>h.elim
 | d + 1, f, ⟨h1, h2, h3, h4, h5⟩ => by
   have hp:=Nat.pos_of_ne_zero (show 6 ^ d≠0 from fun h=>by simp at h)
   have key:∀ l:List Fm,(∀ a∈l,SmallF d a)→depthL l≤d∧sizeL l≤l.length*6 ^ d:=by
    intro l
    induction l with
    | nil=>intro _; simp [depthL,sizeL]
    | cons a r ih =>
      intro hl
      obtain⟨i1,i2⟩:=ih fun x hx=>hl x (by simp [hx])
      obtain⟨b1,b2⟩:=(hl a (by simp)).bounds
      simp only [depthL,sizeL,List.length_cons,Nat.add_mul,Nat.one_mul]
      exact⟨by omega,by omega⟩
   obtain⟨k1,k2⟩:=key f.args h5
   have hm:f.args.length*6 ^ d≤5*6 ^ d:=Nat.mul_le_mul_right _ h4
   rw [f.depth_eq,f.size_eq,Nat.pow_succ]
   exact⟨by omega,by omega⟩
theorem Z6r (d:Nat):SmallF (d+1) (.mk 2 0 [] []):=⟨by decide,by decide,Nat.zero_le _,Nat.zero_le _,fun a ha=>by cases ha⟩
structure Nd where
 op:Int
 args:Int
 role:Int
 many:Bool
 n:Int
def Nd.ok (x:Nd):Prop:=0≤x.op∧x.op≤255∧0≤x.args∧x.args≤255
def ndC (x:Nd):List PV := [.val (.int .u8 x.op),.val (.int .u8 x.args),.val (.int .u8 x.role),.val (.bool x.many),.val (.int .i64 x.n)]
def nds (l:List Nd):List (List PV):=l.map ndC
theorem Z4S (l:List Nd):pureLL (nds l):=Z1P _ _ fun _ _=>⟨trivial,trivial,trivial,trivial,trivial,trivial⟩
def bB (l:List Nd) (fl:Bool):Bx:=⟨1,[[.vec (nds l) fl]]⟩
theorem Z4k (l:List Nd) (fl:Bool):pureLL (bB l fl).elems:=⟨⟨Z4S l,trivial⟩,trivial⟩
theorem Z4z (l:List Nd) (fl:Bool) (D:Nat→Prop):innLL D (bB l fl).elems:=Zh (fun _ h=>h.elim) _ (Z4k l fl)
def BuiltR (d:Nat) (r:PV) (b':Bx):Prop:=∃ (f:Fm) (l':List Nd) (fl':Bool),SmallF (d+1) f∧r=.agg (fC .i64 f)∧b'=bB l' fl'∧∀ x∈l',x.ok
theorem Z5N {rs:List ARes} {e:Env} {h:Heap} {d:Nat} {l':List Nd} {fl':Bool} {r:PV} {f:Fm} (hr:retAll rs e h=some r) (hlow:r.low=.agg (fC .i64 f)) (hb:h 0=some (bB l' fl')) (hs:SmallF (d+1) f) (hl:∀ x∈l',x.ok) :
 ∃ r0 r,retAll rs e h=some r0∧LoP r0 r∧∃ b',h 0=some b'∧r.pure∧pureLL b'.elems∧BuiltR d r b' :=
 ZdK hr (by rw [hlow]; exact Zg _ _) hb (Z4k l' fl') (by rw [hlow]; exact⟨f,l',fl',hs,rfl,rfl,hl⟩)
set_option maxHeartbeats 4000000 in
theorem Zbz:∀ (d:Nat),d≤1000→∀ (l:List Nd),(∀ x∈l,x.ok)→∀ fl:Bool,PSpec Tryz.prog 93 (bB l fl) [.val (.int .i64 (d:Int))] (BuiltR d):=by
 intro d
 induction d with
 | zero =>
   intro _ l hl fl
   refine Z2w ok93 (Nat.le_of_ble_eq_true rfl) fun C hC=>?_
   (refine go ?_;repeat' (apply B<;>intro hb<;>try cases hb))
   all_goals exact Z5N (f:=.mk 2 0 [] []) rfl rfl rfl (Z6r 0) hl
 | succ d ih =>
   intro hd l hl fl
   refine Z2w ok93 (Nat.le_of_ble_eq_true rfl) fun C hC=>?_
   have hdec:IntKind.i64.wrap (((d+1:Nat):Int)-1)=(d:Int):=by rw [show ((d+1:Nat):Int)-1=(d:Int) by omega]; exact Z9P _ (by omega)
   have hnl:(nds l).length=l.length:=by simp [nds]
   iterate 4 (first|refine st ?_|(apply B<;>intro hb<;>try cases hb))
   refine Z2E hC (l≠[]) 2 [(0,.ptr 0 0 0),(1,.val (.int .i64 ((d+1:Nat):Int))),(4,.ptr 1 0 0)] [(0,bB l fl),(1,⟨4,[[.val (.int .i64 0),.val (.int .i64 0),.vec [] true,.vec [] true]]⟩)] (by omega) ?_ fun hne=>?_
   · (refine go ?_;repeat' (apply B<;>intro hb<;>try cases hb))
     all_goals first
      | exact Z5N (f:=.mk 2 0 [] []) rfl rfl rfl (Z6r (d+1)) hl
      | (refine ⟨?_, ⟨⟨rfl, show (0 : Nat) < 2 by decide⟩, ⟨rfl, trivial⟩, ⟨rfl, show (1 : Nat) < 2 by decide⟩, trivial⟩, ⟨⟨by omega, rfl, Z4z _ _ _⟩, ⟨by omega, rfl, ⟨trivial, trivial, trivial, trivial, trivial⟩, trivial⟩, trivial⟩⟩
         rintro rfl
         simp [nds] at *
         done)
   obtain⟨x,t,rfl⟩:∃ x t,l=x :: t:=by
    cases l with
    | nil=>exact absurd rfl hne
    | cons x t=>exact⟨x,t,rfl⟩
   have hx:=hl x (by simp)
   have ht:∀ y∈t,y.ok:=fun y hy=>hl y (by simp [hy])
   clear hl hne hnl
   obtain⟨op,hop,hop0,hop1⟩:∃ op,IntKind.i64.wrap (x.op.tmod 18)=op∧0≤op∧op≤17:=by
    have h0:=hx.1
    have e:x.op.tmod 18=x.op % 18:=Int.tmod_eq_emod_of_nonneg h0
    have h1:=Int.emod_nonneg x.op (show (18:Int)≠0 by decide)
    have h2:=Int.emod_lt_of_pos x.op (show (0:Int)<18 by decide)
    exact⟨_,rfl,by rw [e,IntWalk.i64_in _ ⟨by omega,by omega⟩]; exact h1,by rw [e,IntWalk.i64_in _ ⟨by omega,by omega⟩]; omega⟩
   iterate 6 (first|refine st ?_|(apply B<;>intro hb<;>try cases hb))
   refine Z8 (Zo (xs:=x :: t) rfl rfl 0 rfl (Nat.zero_lt_succ _) rfl) rfl rfl ?_
   rw [show (x :: t)[0]=x from rfl]
   iterate 11 (first|refine st ?_|(apply B<;>intro hb<;>try cases hb))
   refine Z8 (Zfn (xs:=x :: t) rfl 1 ((x :: t).map ndC).length rfl rfl (by simp) (by simp) (fun _=>rfl)) rfl rfl ?_
   have htl:(((x :: t).take ((x :: t).map ndC).length).drop 1).map ndC=nds t:=by simp [nds]
   rw [htl]
   iterate 9 (first|refine st ?_|(apply B<;>intro hb<;>try cases hb))
   refine Z8 (Z1U rfl hop) rfl rfl ?_
   iterate 6 (first|refine st ?_|(apply B<;>intro hb<;>try cases hb))
   have hdn:=hd
   -- the number
   refine Z5b hC (fun _:Int=>True) 4 (fun n' => [(0,.ptr 0 0 0),(1,.val (.int .i64 ((d+1:Nat):Int))),(4,.ptr 1 0 0),(5,.ptr 2 0 0),(6,.ptr 3 0 0)]) (fun n' => [(0,bB t false),(1,⟨4,[[.val (.int .i64 0),.val (.int .i64 0),.vec [] true,.vec [] true]]⟩),(2,⟨5,[ndC x]⟩),(3,⟨4,[[.val (.int .i64 op),.val (.int .i64 n'),.vec [] true,.vec [] true]]⟩)]) (by omega) ?_ fun n' _=>?_
   · (refine go ?_;repeat' (apply B<;>intro hb<;>try cases hb))
     all_goals exact⟨_,trivial,⟨⟨rfl,show (0:Nat)<4 by decide⟩,⟨rfl,trivial⟩,⟨rfl,show (1:Nat)<4 by decide⟩,⟨rfl,show (2:Nat)<4 by decide⟩,⟨rfl,show (3:Nat)<4 by decide⟩,trivial⟩,⟨⟨by omega,rfl,Z4z _ _ _⟩,⟨by omega,rfl,⟨trivial,trivial,trivial,trivial,trivial⟩,trivial⟩,⟨by omega,rfl,⟨trivial,trivial,trivial,trivial,trivial,trivial⟩,trivial⟩,⟨by omega,rfl,⟨trivial,trivial,trivial,trivial,trivial⟩,trivial⟩,trivial⟩⟩
   -- how many operands
   iterate 4 (first|refine st ?_|(apply B<;>intro hb<;>try cases hb))
   refine Z5 (Z6G op) rfl rfl rfl ⟨trivial,trivial⟩ rfl ?_
   obtain⟨c0,hc0,hc2⟩:∃ c0:Nat,operandsM op=(c0:Int)∧c0≤2:=by
    unfold operandsM
    split
    · exact⟨2,rfl,by omega⟩
    · split
      · exact⟨1,rfl,by omega⟩
      · exact⟨0,rfl,by omega⟩
   rw [hc0]
   iterate 2 (first|refine st ?_|(apply B<;>intro hb<;>try cases hb))
   refine Z5b hC (fun c:Nat=>c≤5) 4 (fun c => [(0,.ptr 0 0 0),(1,.val (.int .i64 ((d+1:Nat):Int))),(4,.ptr 1 0 0),(5,.ptr 2 0 0),(6,.ptr 3 0 0),(7,.val (.int .i64 (c:Int)))]) (fun c => [(0,bB t false),(1,⟨4,[[.val (.int .i64 0),.val (.int .i64 0),.vec [] true,.vec [] true]]⟩),(2,⟨5,[ndC x]⟩),(3,⟨4,[[.val (.int .i64 op),.val (.int .i64 n'),.vec [] true,.vec [] true]]⟩)]) (by omega) ?_ fun c hc=>?_
   · (refine go ?_;repeat' (apply B<;>intro hb<;>try cases hb))
     · have h1 : x.args ≥ 250 := by simpa using hb
       have h2:=hx.2.2.2
       have e:IntKind.i64.wrap (IntKind.u8.wrap (x.args-250))=((x.args-250).toNat:Int):=by
        rw [IntKind.wrap_u8,Int.toNat_of_nonneg (by omega),IntWalk.i64_in _ ⟨by omega,by omega⟩]
        omega
       exact⟨(x.args-250).toNat,by omega,⟨⟨rfl,show (0:Nat)<4 by decide⟩,⟨rfl,trivial⟩,⟨rfl,show (1:Nat)<4 by decide⟩,⟨rfl,show (2:Nat)<4 by decide⟩,⟨rfl,show (3:Nat)<4 by decide⟩,⟨by rw [← e]; rfl,trivial⟩,trivial⟩,⟨⟨by omega,rfl,Z4z _ _ _⟩,⟨by omega,rfl,⟨trivial,trivial,trivial,trivial,trivial⟩,trivial⟩,⟨by omega,rfl,⟨trivial,trivial,trivial,trivial,trivial,trivial⟩,trivial⟩,⟨by omega,rfl,⟨trivial,trivial,trivial,trivial,trivial⟩,trivial⟩,trivial⟩⟩
     · exact⟨c0,by omega,⟨⟨rfl,show (0:Nat)<4 by decide⟩,⟨rfl,trivial⟩,⟨rfl,show (1:Nat)<4 by decide⟩,⟨rfl,show (2:Nat)<4 by decide⟩,⟨rfl,show (3:Nat)<4 by decide⟩,⟨rfl,trivial⟩,trivial⟩,⟨⟨by omega,rfl,Z4z _ _ _⟩,⟨by omega,rfl,⟨trivial,trivial,trivial,trivial,trivial⟩,trivial⟩,⟨by omega,rfl,⟨trivial,trivial,trivial,trivial,trivial,trivial⟩,trivial⟩,⟨by omega,rfl,⟨trivial,trivial,trivial,trivial,trivial⟩,trivial⟩,trivial⟩⟩
   -- the roles
   refine Z5b hC (fun r:List Int=>r.length≤1) 4 (fun r => [(0,.ptr 0 0 0),(1,.val (.int .i64 ((d+1:Nat):Int))),(4,.ptr 1 0 0),(5,.ptr 2 0 0),(6,.ptr 3 0 0),(7,.val (.int .i64 (c:Int)))]) (fun r => [(0,bB t false),(1,⟨4,[[.val (.int .i64 0),.val (.int .i64 0),.vec [] true,.vec [] true]]⟩),(2,⟨5,[ndC x]⟩),(3,⟨4,[[.val (.int .i64 op),.val (.int .i64 n'),.vec (nums r) true,.vec [] true]]⟩)]) (by omega) ?_ fun r hr=>?_
   · (refine go ?_;repeat' (apply B<;>intro hb<;>try cases hb))
     all_goals first
      | exact⟨[],Nat.zero_le _,⟨⟨rfl,show (0:Nat)<4 by decide⟩,⟨rfl,trivial⟩,⟨rfl,show (1:Nat)<4 by decide⟩,⟨rfl,show (2:Nat)<4 by decide⟩,⟨rfl,show (3:Nat)<4 by decide⟩,⟨rfl,trivial⟩,trivial⟩,⟨⟨by omega,rfl,Z4z _ _ _⟩,⟨by omega,rfl,⟨trivial,trivial,trivial,trivial,trivial⟩,trivial⟩,⟨by omega,rfl,⟨trivial,trivial,trivial,trivial,trivial,trivial⟩,trivial⟩,⟨by omega,rfl,⟨trivial,trivial,trivial,trivial,trivial⟩,trivial⟩,trivial⟩⟩
      | exact⟨[_],Nat.le_refl _,⟨⟨rfl,show (0:Nat)<4 by decide⟩,⟨rfl,trivial⟩,⟨rfl,show (1:Nat)<4 by decide⟩,⟨rfl,show (2:Nat)<4 by decide⟩,⟨rfl,show (3:Nat)<4 by decide⟩,⟨rfl,trivial⟩,trivial⟩,⟨⟨by omega,rfl,Z4z _ _ _⟩,⟨by omega,rfl,⟨trivial,trivial,trivial,trivial,trivial⟩,trivial⟩,⟨by omega,rfl,⟨trivial,trivial,trivial,trivial,trivial,trivial⟩,trivial⟩,⟨by omega,rfl,⟨trivial,trivial,ZB _ _,trivial,trivial⟩,trivial⟩,trivial⟩⟩
   refine Z5b hC (fun q:List Int×Bool=>q.1.length≤3) 4 (fun q => [(0,.ptr 0 0 0),(1,.val (.int .i64 ((d+1:Nat):Int))),(4,.ptr 1 0 0),(6,.ptr 3 0 0),(7,.val (.int .i64 (c:Int)))]) (fun q => [(0,bB t false),(1,⟨4,[[.val (.int .i64 0),.val (.int .i64 0),.vec [] true,.vec [] true]]⟩),(3,⟨4,[[.val (.int .i64 op),.val (.int .i64 n'),.vec (nums q.1) q.2,.vec [] true]]⟩)]) (by omega) ?_ fun q hq=>?_
   · have SS : ∀ {P : Prop}, P → P := fun h => h
     (refine go ?_;repeat' (apply B<;>intro hb<;>try cases hb))
     · refine Z0 (Z7w (l := nums r) (m := nums [_, _]) rfl rfl (fun c hc => by obtain ⟨x, _, rfl⟩ := List.mem_map.1 hc; rfl) (fun c hc => by obtain ⟨x, _, rfl⟩ := List.mem_map.1 hc; rfl) (by
        rw [ZW,ZW]
        show (r.length+2)*8≤_
        omega)) rfl rfl ?_
       rw [show ∀ a b:List Int,nums a++nums b=nums (a++b) from fun a b=>by simp [nums]]
       (refine go ?_;repeat' (apply B<;>intro hb<;>try cases hb))
       refine⟨(r ++ [_,_],false),?_,⟨⟨rfl,show (0:Nat)<4 by decide⟩,⟨rfl,trivial⟩,⟨rfl,show (1:Nat)<4 by decide⟩,⟨rfl,show (3:Nat)<4 by decide⟩,⟨rfl,trivial⟩,trivial⟩,⟨⟨by omega,rfl,Z4z _ _ _⟩,⟨by omega,rfl,⟨trivial,trivial,trivial,trivial,trivial⟩,trivial⟩,⟨by omega,rfl,⟨trivial,trivial,ZB _ _,trivial,trivial⟩,trivial⟩,trivial⟩⟩
       simp only [List.length_append,List.length_cons,List.length_nil]; omega
     · exact⟨(r,true),by simp only; omega,⟨⟨rfl,show (0:Nat)<4 by decide⟩,⟨rfl,trivial⟩,⟨rfl,show (1:Nat)<4 by decide⟩,⟨rfl,show (3:Nat)<4 by decide⟩,⟨rfl,trivial⟩,trivial⟩,⟨⟨by omega,rfl,Z4z _ _ _⟩,⟨by omega,rfl,⟨trivial,trivial,trivial,trivial,trivial⟩,trivial⟩,⟨by omega,rfl,⟨trivial,trivial,ZB _ _,trivial,trivial⟩,trivial⟩,trivial⟩⟩
   obtain⟨r2,f2⟩:=q
   simp only at hq
   clear hr
   -- the operands
   iterate 3 (first|refine st ?_|(apply B<;>intro hb<;>try cases hb))
   refine Ze (Z1g (id:=3) (b:=⟨4,[[.val (.int .i64 op),.val (.int .i64 n'),.vec (nums r2) f2,.vec [] true]]⟩) (i0:=0) (j0:=3) rfl (show 0<1 by decide) (show 3<4 by decide) rfl 4 (by decide) (by decide)) ?_
   (refine go ?_;repeat' (apply B<;>intro hb<;>try cases hb))
   refine Z2u hC (fun (y:List Fm×List Nd×Bool)=>y.1.length≤c∧(∀ a∈y.1,SmallF (d+1) a)∧∀ z∈y.2.1,z.ok) (fun y=>c-y.1.length) 5 (fun y => [(0,.ptr 0 0 0),(1,.val (.int .i64 ((d+1:Nat):Int))),(4,.ptr 1 0 0),(6,.ptr 3 0 0),(7,.val (.int .i64 (c:Int))),(8,.val (.int .i64 (y.1.length:Int)))])
    (fun y => [(0,bB y.2.1 y.2.2),(1,⟨4,[[.val (.int .i64 0),.val (.int .i64 0),.vec [] true,.vec [] true]]⟩),(3,⟨4,[[.val (.int .i64 op),.val (.int .i64 n'),.vec (nums r2) f2,.own 4]]⟩),(4,⟨4,y.1.map (cellsK .i64)⟩)]) (by omega) ([],t,false) ⟨Nat.zero_le _,fun a ha=>(by cases ha),ht⟩ (fun i=>i) (fun _ _=>rfl) Z11
    ⟨⟨_,rfl,.ptr 0 0 0 (by decide)⟩,⟨_,rfl,.pure _ trivial⟩,⟨_,rfl,.ptr 1 0 0 (by decide)⟩,⟨_,rfl,.ptr 3 0 0 (by decide)⟩,⟨_,rfl,.pure _ trivial⟩,⟨_,rfl,.pure _ trivial⟩,trivial⟩
    ⟨⟨by omega,_,rfl,.same _ (Z4k _ _)⟩,⟨by omega,_,rfl,.same _ ⟨⟨trivial,trivial,trivial,trivial,trivial⟩,trivial⟩⟩,⟨by omega,_,rfl,RenB.single ⟨.pure _ trivial,.pure _ trivial,.pure _ (Z9 _),.own 4 (by decide),trivial⟩ rfl⟩,⟨by omega,_,rfl,.same _ trivial⟩,trivial⟩ ?_
   rintro⟨acc,l',fl'⟩ ⟨ha1,ha2,ha3⟩
   simp only at ha1 ha2 ha3
   have hinc:IntKind.i64.wrap ((acc.length:Int)+1)=((acc.length+1:Nat):Int):=IntWalk.i64_in _ ⟨by omega,by omega⟩
   have hacl:(acc.map (cellsK .i64)).length=acc.length:=by simp
   iterate 5 (first|refine st ?_|(apply B<;>intro hb<;>try cases hb))
   refine Zz rfl rfl rfl (fun hb=>?_) (fun hb=>?_)
   · have hlt : acc.length < c := by simp at hb; omega
     clear hb
     iterate 5 (first|refine st ?_|(apply B<;>intro hb<;>try cases hb))
     refine Zdy [] 0 (by decide) ?_
     iterate 4 (first|refine st ?_|(apply B<;>intro hb<;>try cases hb))
     refine Zm (Z1U rfl hdec) rfl rfl ?_
     refine Zft (ih (by omega) l' ha3 fl') rfl rfl rfl rfl (Z4k _ _) ⟨trivial,trivial⟩ ?_
     rintro r b' - - ⟨f,l2,fl2,hf,rfl,rfl,hl2⟩
     (refine go ?_;repeat' (apply B<;>intro hb<;>try cases hb))
     refine Zm (ZQ (k:=4) (m := [fC .i64 f]) (fl:=true) rfl rfl rfl (fun c hc=>by rw [List.mem_singleton.1 hc]; rfl) rfl (by
      show ((acc.map (cellsK .i64)).length+1)*64≤_
      rw [hacl];omega)) rfl rfl ?_
     have happ:acc.map (cellsK .i64) ++ [fC .i64 f]=(acc ++ [f]).map (cellsK .i64):=by rw [List.map_append,← ZN]; rfl
     simp only
     rw [happ]
     (refine go ?_;repeat' (apply B<;>intro hb<;>try cases hb))
     refine⟨(acc ++ [f],l2,fl2),mv 4 12,⟨by simp only [List.length_append,List.length_singleton]; omega,fun a ha=>?_,hl2⟩,by simp only [List.length_append,List.length_singleton]; omega,Z3k (by decide),ZK rfl,
      ⟨⟨_,rfl,.ptr (ρ:=mv 4 12) 0 0 0 (by decide)⟩,⟨_,rfl,.pure _ trivial⟩,⟨_,rfl,.ptr (ρ:=mv 4 12) 1 0 0 (by decide)⟩,⟨_,rfl,.ptr (ρ:=mv 4 12) 3 0 0 (by decide)⟩,⟨_,rfl,.pure _ trivial⟩,⟨_,by show some _=some _; rw [hinc,List.length_append,List.length_singleton],.pure _ trivial⟩,trivial⟩,
      ⟨⟨by omega,_,rfl,.same _ (Z4k _ _)⟩,⟨by omega,_,rfl,.same _ ⟨⟨trivial,trivial,trivial,trivial,trivial⟩,trivial⟩⟩,⟨by omega,_,rfl,RenB.single ⟨.pure _ trivial,.pure _ trivial,.pure _ (Z9 _),.own (ρ:=mv 4 12) 4 (by decide),trivial⟩ rfl⟩,⟨by omega,_,rfl,.same _ (Z1x _ _)⟩,trivial⟩⟩
     rcases List.mem_append.1 ha with ha|ha
     · exact ha2 a ha
     · rw [List.mem_singleton.1 ha]; exact hf
   · have hlt : acc.length = c := by simp at hb; omega
     clear hb
     iterate 6 (first|refine st ?_|(apply B<;>intro hb<;>try cases hb))
     refine Ze (Z4s (k:=120) (id:=4) (b:=⟨4,acc.map (cellsK .i64)⟩) rfl rfl (Z1x _ _) (FrzLs.agg (id:=4) (l:=acc.map (cellsK .i64)) (xs := [.val (.int .i64 op),.val (.int .i64 n'),.vec (nums r2) f2,.own 4]) (ys := [.val (.int .i64 op),.val (.int .i64 n'),.vec (nums r2) f2,.vec (acc.map (cellsK .i64)) false]) ⟨.pure _ trivial,.pure _ trivial,.pure _ (Z9 _),.own,trivial⟩)) ?_
     (refine go ?_;repeat' (apply B<;>intro hb<;>try cases hb))
     refine Z5N (f:=.mk op n' r2 acc) rfl ?_ rfl ⟨hop0,Int.le_trans hop1 (by decide),Nat.le_trans hq (by decide),Nat.le_trans ha1 hc,ha2⟩ ha3
     show PV.agg [_,_,.vec (lowLL (nums r2)) false,.vec (lowLL (acc.map (cellsK .i64))) false]=_
     have e:lowLL (acc.map (cellsK .i64))=acc.map (cellsK .i64):=by rw [← Z49,Z3z]
     rw [Zbb,e]
     rfl
theorem Z8f (l:List Nd) (hl:∀ x∈l,x.ok) (fl:Bool):Spec Tryz.prog 44 [.vec (nds l) fl] (fun r=>∃ f:Fm,SmallF 13 f∧r=.agg (fC .i64 f)):=by
 refine Z2 ok44 (Nat.le_of_ble_eq_true rfl) fun C hC=>?_
 have hnl:(nds l).length=l.length:=by simp [nds]
 iterate 4 (first|refine st ?_|(apply B<;>intro hb<;>try cases hb))
 refine Z5b hC (fun q:List Nd×Bool=>∀ x∈q.1,x.ok) 1 (fun q => [(0,.vec (nds q.1) q.2),(2,.ptr 0 0 0)]) (fun q => [(0,⟨4,[[.val (.int .i64 0),.val (.int .i64 0),.vec [] true,.vec [] true]]⟩)]) (by omega) ?_ fun q hq=>?_
 · (refine go ?_;repeat' (apply B<;>intro hb<;>try cases hb))
   · have h40 : 40 ≤ l.length := by simp [hnl] at hb; omega
     refine Z8 (Zfn (xs:=l) rfl 0 40 rfl rfl (by omega) h40 (fun _=>rfl)) rfl rfl ?_
     (refine go ?_;repeat' (apply B<;>intro hb<;>try cases hb))
     exact⟨(l.take 40,false),fun x hx=>hl x (List.mem_of_mem_take hx),⟨⟨by rw [List.drop_zero]; rfl,Zh (fun _ h=>h.elim) _ (Z4S _)⟩,⟨rfl,show (0:Nat)<1 by decide⟩,trivial⟩,⟨⟨by omega,rfl,⟨trivial,trivial,trivial,trivial,trivial⟩,trivial⟩,trivial⟩⟩
   · exact⟨(l,fl),hl,⟨⟨rfl,Zh (fun _ h=>h.elim) _ (Z4S _)⟩,⟨rfl,show (0:Nat)<1 by decide⟩,trivial⟩,⟨⟨by omega,rfl,⟨trivial,trivial,trivial,trivial,trivial⟩,trivial⟩,trivial⟩⟩
 obtain⟨l2,f2⟩:=q
 (refine go ?_;repeat' (apply B<;>intro hb<;>try cases hb))
 refine Z6J (Zbz 12 (by decide) l2 hq f2) rfl rfl rfl rfl (Z4k _ _) ⟨trivial,trivial⟩ ?_
 rintro r b' - - ⟨f,l3,f3,hf,rfl,rfl,_⟩
 (refine go ?_;repeat' (apply B<;>intro hb<;>try cases hb))
 exact Z4 rfl (Zg .i64 f) ⟨f,hf,rfl⟩
theorem Z9u {p:PV} (h:ShapeV Tryz.prog 88 p):∃ l fl,(∀ x∈l,Nd.ok x)∧p=.vec (nds l) fl:=by
 obtain⟨n',ll,fl,h1,h2,rfl⟩:=Z8e h (e:=191) (by kernel_rfl)
 clear h1
 suffices h:∃ l:List Nd,(∀ x∈l,Nd.ok x)∧ll=nds l by
  obtain⟨l,h1,rfl⟩:=h
  exact⟨l,fl,h1,rfl⟩
 clear h
 induction ll with
 | nil=>exact⟨[],fun x hx=>(by cases hx),rfl⟩
 | cons a r ih =>
   obtain⟨l,h3,rfl⟩:=ih fun x hx=>h2 x (by simp [hx])
   have ha:=h2 a (by simp)
   have hl:=Zdf ha (k:=5) (by kernel_rfl)
   obtain⟨n0,k0⟩:=Z20 ha (i:=0) (off:=0) (ty:=5) (sz:=1) (by kernel_rfl)
   obtain⟨n1,k1⟩:=Z20 ha (i:=1) (off:=1) (ty:=5) (sz:=1) (by kernel_rfl)
   obtain⟨n2,k2⟩:=Z20 ha (i:=2) (off:=2) (ty:=5) (sz:=1) (by kernel_rfl)
   obtain⟨n3,k3⟩:=Z20 ha (i:=3) (off:=3) (ty:=4) (sz:=1) (by kernel_rfl)
   obtain⟨n4,k4⟩:=Z20 ha (i:=4) (off:=4) (ty:=3) (sz:=1) (by kernel_rfl)
   match a,hl with
   | [c0, c1, c2, c3, c4], _ =>
     obtain⟨m0,w0,e0⟩:=Z32 (show Shape _ n0 5 [c0] from k0) (k:=.u8) (by kernel_rfl)
     obtain⟨m1,w1,e1⟩:=Z32 (show Shape _ n1 5 [c1] from k1) (k:=.u8) (by kernel_rfl)
     obtain⟨m2,_,e2⟩:=Z32 (show Shape _ n2 5 [c2] from k2) (k:=.u8) (by kernel_rfl)
     obtain⟨b3,e3⟩:=Zby (show Shape _ n3 4 [c3] from k3) (by kernel_rfl)
     obtain⟨m4,_,e4⟩:=Z32 (show Shape _ n4 3 [c4] from k4) (k:=.i64) (by kernel_rfl)
     simp only [Lit.wf,Bool.and_eq_true,decide_eq_true_eq] at w0 w1
     simp only [List.cons.injEq,and_true] at e0 e1 e2 e3 e4
     subst e0 e1 e2 e3 e4
     refine⟨⟨m0,m1,m2,b3,m4⟩ :: l,fun x hx=>?_,rfl⟩
     rcases List.mem_cons.1 hx with rfl|hx
     · exact⟨w0.1,w0.2,w1.1,w1.2⟩
     · exact h3 x hx
end Go.Proofs.YtjpkfigmmmngnaaGreatDoor
